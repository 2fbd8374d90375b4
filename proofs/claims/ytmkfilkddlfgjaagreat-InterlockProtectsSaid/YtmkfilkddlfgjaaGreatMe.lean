import Derived.Test.YtmkfilkddlfgjaaGreatMd
set_option linter.unusedSimpArgs false
set_option linter.unusedVariables false
set_option linter.unusedSectionVars false
open Bool renaming and_eq_true->ara,eq_false_iff->atr,eq_iff_iff->arV,false_eq_true->arE,false_or->arZ,not_eq_true->arW,not_eq_true'->ar8,not_false->atX,not_true->asx,false->aqZ,true->aqW
open Classical renaming not_not->at',propDecidable->arY
open Decidable renaming byContradiction->auw
open Go renaming IntKind->aq2
open Go.IntKind renaming wrap->aq6
open Int renaming eq_ofNat_of_zero_le->arI,lt_trichotomy->aur,natCast_zero->ast,toNat_natCast->ar0,toNat_of_nonneg->auc
open List renaming any_cons->asR,any_eq_true->asH,append_assoc->asT,append_nil->asA,contains_eq_mem->atd,contains_iff_mem->atV,drop_length->asi,drop_sublist->aut,drop_zero->arB,filter_cons->asO,find?_eq_none->auu,flatMap_cons->asn,getD->ar3,getElem?_append_left->arm,getElem?_append_right->arl,getElem?_drop->ar6,getElem?_eq_some_iff->aq5,getElem?_map->arH,getElem?_of_mem->arS,getElem?_take->arK,getElem_map->auf,getElem_mem->asy,length_append->aro,length_cons->arw,length_drop->asa,length_filter_le->atK,length_map->arP,length_nil->asV,length_range->atE,length_set->asq,length_take->arG,map_append->ar',map_cons->arN,mem_append->arj,mem_append_left->ate,mem_append_right->att,mem_cons->arb,mem_cons_of_mem->ark,mem_cons_self->arp,mem_flatMap->asD,mem_map->arf,mem_of_find?_eq_some->auv,mem_of_getElem?->are,mem_of_mem_drop->atn,mem_of_mem_take->atm,mem_range->asb,mem_singleton->arX,nil_append->asp,nodup_append->ar1,nodup_cons->asU,nodup_iff_pairwise_ne->aus,not_mem_nil->asF,pairwise_append->auq,pairwise_cons->aue,pairwise_iff_getElem->arT,pairwise_map->atF,range->arC,singleton_append->atQ,take_append_drop->atN,take_length->asM,take_sublist->ats,take_zero->aty
open Nat renaming le_refl->aq9,lt_of_le_of_lt->as6,lt_trichotomy->asE,zero_add->arh
open Option renaming bind->aq0,getD_some->asm,isSome_some->aud,some->arr,none->aqY,some->aqV
open Prod renaming fst->asj
open UInt8 renaming ofNat->asS,toNat->ash
section
namespace Go.W
open Go.aS
def lH (i:Nat):List UInt8:=[112,asS (48+i / 10%10),asS (48+i%10)]
theorem O5 {n:Nat} (h:n<256):oB (n:Int)=aqV (asS n):=by
 unfold oB;rw[if_pos (by omega)];simp
theorem N4 (N:Nat) {i:Nat} (h:i<1000):xN N (i:Int)=aqV (lH i):=by
 unfold xN lH;have aX:aq6 .i64 (Int.tdiv (i:Int) 10)=((i / 10:Nat):Int):=by rw[Int.tdiv_eq_ediv_of_nonneg (by omega),ha (by omega) (by omega)];omega
 have e2:Int.tmod ((i / 10:Nat):Int) 10=((i / 10%10:Nat):Int):=by rw[Int.tmod_eq_emod_of_nonneg (by omega)];omega
 have ij:Int.tmod (i:Int) 10=((i%10:Nat):Int):=by rw[Int.tmod_eq_emod_of_nonneg (by omega)];omega
 rw[aX,e2,ij,ha (by omega) (by omega),ha (by omega) (by omega),ZK (by omega) (by omega),ZK (by omega) (by omega)];have f1:=O5 (n:=112) (by omega);have f2:=O5 (n:=48+i / 10%10) (by omega);have f3:=O5 (n:=48+i%10) (by omega);rw[show ((48:Int)+((i / 10%10:Nat):Int))=((48+i / 10%10:Nat):Int) by omega,show ((48:Int)+((i%10:Nat):Int))=((48+i%10:Nat):Int) by omega,f2,f3];have f1:oB 112=aqV (asS 112):=f1;rw[f1];rfl
theorem afS {i j:Nat} (ae:i<100) (av:j<100) (h:lH i=lH j):i=j:=by
 unfold lH at h;simp only[List.cons.injEq,and_true,true_and] at h;have c0:=congrArg ash h.1;have a2:=congrArg ash h.2;simp only[UInt8.toNat_ofNat'] at c0 a2;omega
theorem N5 (i:Nat):k3 (lH i)=aqW:=by
 have key:∀d:Nat,d<10->oo (asS (48+d))=aqW:=by intro d aB;unfold oo;rw[UInt8.toNat_ofNat'];simp;omega
 unfold k3 lH;simp only[List.all_cons,List.all_nil,key (i / 10%10) (by omega),key (i%10) (by omega)];rfl
structure nO (l:List aC) (op:List Int) (dT:Int):Prop where
 snd:∀x∈l,iZ x=aqW
 p5:∀(i:Nat) (x:aC),l[i]? =aqV x->x.name=lH i
 mn:∀n,fA l n<=2
 gd:∀n∈op,fA l n<=1
 fF:op.Nodup
 rg:∀n∈op,0<=n/\n<dT
 hj:∀n,dT<=n->fA l n=0
 wi:(op.length:Int)<=dT
 M4:dT<=64
 y7:0<=dT
 fst:∃x,l[0]? =aqV x/\x.kind=1
theorem nO.add {l:List aC} {op ns:List Int} {dT l2:Int} {x:aC} (h:nO l op dT) (ay:iZ x=aqW) (ar:x.name=lH l.length) (h1:∀n∈bT x,n∈op\/(dT<=n/\n<l2)) (J:∀n∈ns,(n∈op/\n∉bT x)\/(dT<=n/\n<l2))
  (aj:ns.Nodup) (aM:dT<=l2) (bq:l2<=64) (dv:(ns.length:Int)<=l2):nO (l++[x]) ns l2 where
 snd:=fun y ag=>by
  rcases arj.1 ag with ag|ag
  ·exact h.snd y ag
  ·simp at ag;subst ag;exact ay
 p5:=fun i y ag=>by
  by_cases ae:i<l.length
  ·rw[arm ae] at ag;exact h.p5 i y ag
  ·rw[arl (by omega)] at ag;have ht:=(aq5.1 ag).1;simp at ht;have:i=l.length:=by omega
   subst this;simp at ag;subst ag;exact ar
 mn:=fun n=>by
  rw[uw];have a:=h.mn n;split
  ·rename_i hm;rcases h1 n hm with hm|⟨hm,_⟩
   ·have:=h.gd n hm;omega
   ·have:=h.hj n hm;omega
  ·omega
 gd:=fun n hm=>by
  rw[uw];rcases J n hm with ⟨a,b⟩|⟨a,b⟩
  ·have:=h.gd n a;rw[if_neg b];omega
  ·have:=h.hj n a;split<;>omega
 fF:=aj
 rg:=fun n hm=>by
  rcases J n hm with ⟨a,b⟩|⟨a,b⟩
  ·have:=h.rg n a;omega
  ·have:=h.y7;omega
 hj:=fun n hm=>by
  rw[uw,if_neg,h.hj n (by omega)]
  ·rfl
  ·intro ax;rcases h1 n ax with a|a
   ·have:=h.rg n a;omega
   ·omega
 wi:=dv
 M4:=bq
 y7:=by have:=h.y7;omega
 fst:=by obtain ⟨y,ag,hk⟩:=h.fst;exact ⟨y,by rw[arm (aq5.1 ag).1];exact ag,hk⟩
theorem nO.ok {l:List aC} {op:List Int} {dT:Int} (h:nO l op dT) (ah:l.length<=96):dV l where
 len:=ah
 snd:=h.snd
 p5:=arT.2 fun i j ae av cY ax=>by rw[h.p5 i _ (cM ae),h.p5 j _ (cM av)] at ax;have:=afS (by omega) (by omega) ax;omega
 mn:=h.mn
theorem CD {m:List UInt8} {a b len:Int} (hm:k3 m=aqW) (aq:0<=a/\a<64) (aa:0<=b/\b<64) (eF:a≠b) (ah:1<=len/\len<=100000):iZ (aC.mk 1 m a b 0 len)=aqW:=by
 have he:sa [a,b]=aqW:=GV.2 ⟨by simp[eF],by simp;omega⟩;unfold iZ;have:bT (aC.mk 1 m a b 0 len)=[a,b]:=by simp[bT]
 rw[this];simp[hm,he,ah]
theorem afq {m:List UInt8} {a b:Int} (hm:k3 m=aqW) (aq:0<=a/\a<64) (aa:0<=b/\b<64) (eF:a≠b):iZ (aC.mk 3 m a b 0 0)=aqW:=by
 have he:sa [a,b]=aqW:=GV.2 ⟨by simp[eF],by simp;omega⟩;unfold iZ;have:bT (aC.mk 3 m a b 0 0)=[a,b]:=by simp[bT]
 rw[this];simp[hm,he]
theorem V5 {m:List UInt8} {a b c:Int} (hm:k3 m=aqW) (aq:0<=a/\a<64) (aa:0<=b/\b<64) (ab:0<=c/\c<64) (eF:a≠b) (LK:a≠c) (aby:b≠c):iZ (aC.mk 2 m a b c 0)=aqW:=by
 have he:sa [a,b,c]=aqW:=GV.2 ⟨by simp[eF,LK,aby],by simp;omega⟩;unfold iZ;have:bT (aC.mk 2 m a b c 0)=[a,b,c]:=by simp[bT]
 rw[this];simp[hm,he]
theorem Xg {op:List Int} {r:Nat} {a:Int} (aq:op[r]? =aqV a) (aB:op.Nodup):a∉op.take r++op.drop (r+1)/\(∀n∈op.take r++op.drop (r+1),n∈op)/\(op.take r++op.drop (r+1)).Nodup/\(op.take r++op.drop (r+1)).length+1=op.length:=by
 have an:=(aq5.1 aq).1;have MA:op=op.take r++a::op.drop (r+1):=by
  conv=>lhs;rw[<-atN r op,jA aq]
 have jR:=aB;rw[MA,ar1] at jR;obtain ⟨d1,d2,d3⟩:=jR;have TG:=asU.1 d2;refine ⟨?_, ?_, ?_, ?_⟩
 ·intro hm;rcases arj.1 hm with hm|hm
  ·exact d3 a hm a arp rfl
  ·exact TG.1 hm
 ·intro n ar;rcases arj.1 ar with ar|ar
  ·exact atm ar
  ·exact atn ar
 ·rw[ar1];exact ⟨d1,TG.2,fun x U y ag=>d3 x U y (ark _ ag)⟩
 ·rw[aro,arG,asa];omega
theorem aet (N:Nat) (k:Int) (b:Bool):H8 N k b=aqV (b||(k==1)):=by
 unfold H8;cases b<;>simp[bP]
theorem aic (N:Nat) {c:Int} {s:en} {l:List aC} {op:List Int} {dT:Int} {r:Nat} {a:Int} {k:Int} (cc:nO l op dT) (ah:l.length<96) (ay:ho c s) (ab:c<=1000000) (kW:dT<62) (aq:op[r]? =aqV a) (kc:0<=k) (hk:k<6):
  ∃b1 ns l2 x,H7 N s (op.take r++op.drop (r+1)) dT a (aC.mk 0 (lH l.length) 0 0 0 0) k=aqV (b1,ns,l2,x)/\ho (c+5) b1/\nO (l++[x]) ns l2:=by
 obtain ⟨t1,t2,t3,t4⟩:=Xg aq cc.fF;generalize jy:op.take r++op.drop (r+1)=q at*;have gQ:=N5 l.length;have yu:=are aq;obtain ⟨a0,c0⟩:=cc.rg a yu;have aJ:(q.length:Int)+1<=dT:=by have:=cc.wi;omega
 have vS:=cc.y7;have fresh:∀n∈q,n<dT:=fun n ar=>(cc.rg n (t2 n ar)).2;have f1:dT∉q:=fun h=>by have:=fresh _ h;omega
 have f2:dT+1∉q:=fun h=>by have:=fresh _ h;omega
 have cO:aq6 .i64 (dT+1)=dT+1:=ha (by omega) (by omega);have fo:aq6 .i64 (dT+2)=dT+2:=ha (by omega) (by omega);have Vb:(q++[dT]).Nodup:=by rw[ar1];exact ⟨t3,by simp,fun x U y ag=>by simp at ag;subst ag;exact fun ax=>f1 (ax▸U)⟩
 have Vc:(q++[dT,dT+1]).Nodup:=by
  rw[ar1];refine ⟨t3,by simp;omega,fun x U y ag=> ?_⟩;simp at ag;rcases ag with rfl|rfl
  ·exact fun ax=>f1 (ax▸U)
  ·exact fun ax=>f2 (ax▸U)
 have aaB:dP q [dT]=aqV (q++[dT]):=gY (by simp;omega);have aaC:dP q [dT,dT+1]=aqV (q++[dT,dT+1]):=gY (by simp;omega);have dh:∀n∈q,n∈op/\n≠a:=fun n ar=>⟨t2 n ar,fun ax=>t1 (ax▸ar)⟩
 have LC:ho (c+5) s:=ay.le (by omega);unfold H7;simp only[bP,aet,al,cO,fo,aaB,aaC];by_cases adM:k=0\/k=1
 ·have aa:((k==0)||(k==1))=aqW:=by simpa using adM
  rw[if_pos aa];refine ⟨s,_,_,_,rfl,LC,cc.add (V5 gQ ⟨a0,by omega⟩ ⟨vS,by omega⟩ ⟨by omega,by omega⟩ (by omega) (by omega) (by omega)) rfl ?_ ?_ Vc (by omega) (by omega) (by simp;omega)⟩
  ·intro n ar;simp[bT] at ar;rcases ar with rfl|rfl|rfl
   ·exact .inl yu
   ·exact .inr (by omega)
   ·exact .inr (by omega)
  ·intro n ar;rcases arj.1 ar with ar|ar
   ·obtain ⟨gm,gW⟩:=dh n ar;have:=fresh n ar;refine .inl ⟨gm, ?_⟩;simp[bT];omega
   ·simp at ar;right;omega
 ·have aa:((k==0)||(k==1))=aqZ:=by simp;omega
  rw[if_neg (by rw[aa];simp)];by_cases bC:k=2
  ·rw[if_pos (by simpa using bC)];refine ⟨s,_,_,_,rfl,LC,cc.add (V5 gQ ⟨vS,by omega⟩ ⟨a0,by omega⟩ ⟨by omega,by omega⟩ (by omega) (by omega) (by omega)) rfl ?_ ?_ Vc (by omega) (by omega) (by simp;omega)⟩
   ·intro n ar;simp[bT] at ar;rcases ar with rfl|rfl|rfl
    ·exact .inr (by omega)
    ·exact .inl yu
    ·exact .inr (by omega)
   ·intro n ar;rcases arj.1 ar with ar|ar
    ·obtain ⟨gm,gW⟩:=dh n ar;have:=fresh n ar;refine .inl ⟨gm, ?_⟩;simp[bT];omega
    ·simp at ar;right;omega
  ·rw[if_neg (by simpa using bC)];by_cases cQ:k=3
   ·rw[if_pos (by simpa using cQ)];refine ⟨s,_,_,_,rfl,LC,cc.add (afq gQ ⟨a0,by omega⟩ ⟨vS,by omega⟩ (by omega)) rfl ?_ ?_ Vb (by omega) (by omega) (by simp;omega)⟩
    ·intro n ar;simp[bT] at ar;rcases ar with rfl|rfl
     ·exact .inl yu
     ·exact .inr (by omega)
    ·intro n ar;rcases arj.1 ar with ar|ar
     ·obtain ⟨gm,gW⟩:=dh n ar;have:=fresh n ar;refine .inl ⟨gm, ?_⟩;simp[bT];omega
     ·simp at ar;right;omega
   ·rw[if_neg (by simpa using cQ)];obtain ⟨len,s1,g1,g2,g3⟩:=aib N (s:=s) (c:=c) [1,300,100000] (by simp) (by simp) ay (by omega);have hlen:1<=len/\len<=100000:=by simp at g2;omega
    rw[g1,al];unfold PQ;obtain ⟨y,s2,h1,J,aj,aM⟩:=l4 N (s:=s1) (c:=c+1) 3 (by omega) (by omega) g3 (by omega);simp only[h1,al];by_cases ag:y=0/\0<q.length
    ·obtain ⟨ag,tR⟩:=ag;rw[if_pos (by simpa using ag),al,if_pos (cH (by omega))];obtain ⟨p,ap⟩:∃p,q.length=p+1:=⟨q.length - 1,by omega⟩
     have hw:aq6 .i64 ((q.length:Int) - 1)=(p:Int):=by rw[ha (by omega) (by omega)];omega
     have ni:p<q.length:=by omega
     rw[hw,cJ (cM ni)];simp only[al];rw[zd (by omega),al];have abB:=asy ni;obtain ⟨df,e6⟩:=dh _ abB;obtain ⟨oy,fg⟩:=cc.rg _ df;have Mr:q=q.take p++[q[p]]:=by
      conv=>lhs;rw[<-atN p q,jA (cM ni)]
      rw[List.drop_of_length_le (by omega)]
     have pT:q[p]∉q.take p:=by intro ax;have aB:=t3;rw[Mr,ar1] at aB;exact aB.2.2 _ ax q[p] (by simp) rfl
     refine ⟨s2,_,_,_,rfl,aM.le (by omega),cc.add (CD gQ ⟨a0,by omega⟩ ⟨oy,by omega⟩ (fun ax=>e6 ax.symm) hlen) rfl ?_ ?_ (t3.sublist (ats p q)) (by omega) (by omega) (by rw[arG];omega)⟩
     ·intro n ar;simp[bT] at ar;rcases ar with rfl|rfl
      ·exact .inl yu
      ·exact .inl df
     ·intro n ar;obtain ⟨gm,gW⟩:=dh n (atm ar);refine .inl ⟨gm, ?_⟩;simp[bT];exact ⟨gW,fun ax=>pT (ax▸ar)⟩
    ·have yC:∀{bz:Type} (f:en×Bool->Option bz),(aq0 (if (y==0)=aqW then aqV (s2,decide (0<(q.length:Int))) else aqV (s2,aqZ)) f)=f (s2,aqZ):=by
      intro bz f;by_cases aI:y=0
      ·rw[if_pos (by simpa using aI),al];have TR:¬0<q.length:=fun h=>ag ⟨aI,h⟩;have:decide (0<(q.length:Int))=aqZ:=by rw[decide_eq_false_iff_not];omega
       rw[this]
      ·rw[if_neg (by simpa using aI),al]
     rw[yC];simp only[arE,if_false];obtain ⟨bh,km,i1,i2,i3,i4⟩:=l4 N (s:=s2) (c:=c+1+1) 2 (by omega) (by omega) aM (by omega);rw[i1,al];have Fp:∀n∈bT (aC.mk 1 (lH l.length) a dT 0 len),n∈op\/(dT<=n/\n<dT+1):=by
      intro n ar;simp[bT] at ar;rcases ar with rfl|rfl
      ·exact .inl yu
      ·exact .inr (by omega)
     have hold:∀n∈q,n∈op/\n∉bT (aC.mk 1 (lH l.length) a dT 0 len):=by intro n ar;obtain ⟨gm,gW⟩:=dh n ar;have:=fresh n ar;refine ⟨gm, ?_⟩;simp[bT];omega
     by_cases yV:bh=0
     ·rw[if_pos (by simpa using yV)];refine ⟨km,_,_,_,rfl,i4.le (by omega),cc.add (CD gQ ⟨a0,by omega⟩ ⟨vS,by omega⟩ (by omega) hlen) rfl Fp ?_ Vb (by omega) (by omega) (by simp;omega)⟩;intro n ar;rcases arj.1 ar with ar|ar
      ·exact .inl (hold n ar)
      ·simp at ar;right;omega
     ·rw[if_neg (by simpa using yV)];exact ⟨km,_,_,_,rfl,i4.le (by omega),cc.add (CD gQ ⟨a0,by omega⟩ ⟨vS,by omega⟩ (by omega) hlen) rfl Fp (fun n ar=> .inl (hold n ar)) t3 (by omega) (by omega) (by omega)⟩
theorem aes (N:Nat) (k:Int) (l:List aC) (op:List Int) (dT:Int):H6 N k l op dT=aqV (decide ((l.length:Int)<k/\0<op.length/\dT<62)):=by
 unfold H6;by_cases h1:(l.length:Int)<k
 ·rw[if_pos (cH h1)];by_cases J:0<op.length
  ·rw[if_pos (cH (by omega))];simp[h1,J]
  ·rw[if_neg (cF (by omega))];simp[J]
 ·rw[if_neg (cF h1)];simp[h1]
theorem XA (N:Nat) {b:Int} (h4:0<=b) (aa:b<=900000) {k:Int} (hk:k<=60):∀(f n:Nat) (c:Int) (s:en) (l:List aC) (op:List Int) (dT:Int),f<n->k<=(l.length:Int)+f->(l.length:Int)<=61->c<=b+10000->(l.length:Int)*100+c<=b+9000+(l.length:Int)*107->ho c s->nO l op dT->
  ∃b1 kD ns l2,DA N k n s l op dT=aqV (b1,kD,ns,l2)/\ho (b+20000) b1/\(kD.length:Int)<=61/\nO kD ns l2
 |f,0,c,s,l,op,dT,ar,_,_,_,_,_,_=>by omega
 |f,n+1,c,s,l,op,dT,ar,aP,ah,ab,abD,ay,cc=>by
  rw[DA,aes,al];by_cases qI:(l.length:Int)<k/\0<op.length/\dT<62
  ·rw[decide_eq_true qI,if_pos rfl];obtain ⟨c1,c2,lb⟩:=qI;have jW:=cc.wi;obtain ⟨r,s1,h1,J,aj,aM⟩:=l4 N (s:=s) (c:=c) (op.length:Int) (by omega) (by omega) ay (by omega);obtain ⟨q,rfl⟩:=arI J;have aJ:q<op.length:=by omega
   have aq:=cM aJ;rw[h1,al];simp only[];rw[cJ aq,al,al,zd (by omega),al,dm (by omega),wH (by omega),al];have aX:List.take (Int.toNat (op.length:Int)) op=op:=by rw[ar0,asM]
   rw[aX,ar0,ar0,gY (by rw[arG,asa];omega),al,N4 N (by omega),al];obtain ⟨cv,s2,g1,g2,g3,g4⟩:=l4 N (s:=s1) (c:=c+1) 6 (by omega) (by omega) aM (by omega);rw[g1,al];simp only[];obtain ⟨km,ns,l2,x,c8,dR,gX⟩:=aic N (c:=c+1+1) cc (by omega) g4 (by omega) lb aq g2 g3;rw[c8,al];simp only[];rw[gY (by simp;omega),al];cases f with
   |zero=>omega
   |succ f=>exact XA N h4 aa hk f n (c+7) km (l++[x]) ns l2 (by omega) (by simp;omega) (by simp;omega) (by simp at*;omega) (by simp;omega) (dR.le (by omega)) gX
  ·rw[decide_eq_false qI,if_neg (by simp)];exact ⟨s,l,op,dT,rfl,ay.le (by omega),ah,cc⟩
theorem aeu (N:Nat) (l:List aC) (op:List Int) (dT:Int):H9 N l op dT=aqV (decide (0<op.length/\l.length<96/\dT<64)):=by
 unfold H9;by_cases h1:0<op.length
 ·rw[if_pos (cH (by omega))];by_cases J:l.length<96
  ·rw[if_pos (cH (by omega))];simp[h1,J]
  ·rw[if_neg (cF (by omega))];simp[J]
 ·rw[if_neg (cF (by omega))];simp[h1]
theorem N9 (N:Nat) {b:Int} (h4:0<=b) (aa:b<=900000):∀(f n:Nat) (c:Int) (s:en) (l:List aC) (op:List Int) (dT:Int),f<n->op.length<=f->l.length<=96->c+op.length<=b+30000->ho c s->nO l op dT->
  ∃b1 kD,DB N n s l op dT=aqV (b1,kD)/\ho (b+30000) b1/\kD.length<=96/\∃ns l2,nO kD ns l2
 |f,0,c,s,l,op,dT,ar,_,_,_,_,_=>by omega
 |f,n+1,c,s,l,op,dT,ar,aP,ah,ab,ay,cc=>by
  rw[DB,aeu,al];by_cases qI:0<op.length/\l.length<96/\dT<64
  ·rw[decide_eq_true qI,if_pos rfl];obtain ⟨c1,c2,lb⟩:=qI;obtain ⟨r,s1,h1,J,aj,aM⟩:=l4 N (s:=s) (c:=c) 5 (by omega) (by omega) ay (by omega);rw[h1,al];simp only[];have aq:=cM c1;have vS:=cc.y7;obtain ⟨t1,t2,t3,t4⟩:=Xg aq cc.fF;rw[aty,asp] at t1 t2 t3 t4;have yx:fX op 1 (op.length:Int)=aqV (op.drop 1):=wH (i:=1) (by omega);obtain ⟨a0,c0⟩:=cc.rg _ (asy c1);have Ut:=cc.wi;have fresh:∀n∈op.drop 1,n<dT:=fun n ar=>(cc.rg n (t2 n ar)).2;cases f with
   |zero=>omega
   |succ f=>
    unfold P6;by_cases an:0<r
    ·rw[if_pos (cH an),N4 N (by omega),al];have aH:aR op 0=aqV op[0]:=cJ aq;rw[aH,al,al,gY (by simp;omega),al,bP,ha (by omega) (by omega),al,yx,al];refine N9 N h4 aa f n (c+1) s1 _ _ _ (by omega) (by rw[asa];omega) (by simp;omega) (by rw[asa];omega) aM (cc.add (CD (N5 _) ⟨a0,by omega⟩ ⟨vS,by omega⟩ (by omega) (by omega)) rfl ?_ ?_ t3 (by omega) (by omega) (by rw[asa];omega))
     ·intro n ar;simp[bT] at ar;rcases ar with rfl|rfl
      ·exact .inl (asy c1)
      ·exact .inr (by omega)
     ·intro n ar;have:=fresh n ar;refine .inl ⟨t2 n ar, ?_⟩;simp[bT];exact ⟨fun ax=>t1 (ax▸ar),by omega⟩
    ·rw[if_neg (cF an),al,yx,al];refine N9 N h4 aa f n (c+1) s1 _ _ _ (by omega) (by rw[asa];omega) ah (by rw[asa];omega) aM ?_;exact {cc with gd:=fun n ar=>cc.gd n (t2 n ar),fF:=t3,rg:=fun n ar=>cc.rg n (t2 n ar),wi:=by rw[asa];omega}
  ·rw[decide_eq_false qI,if_neg (by simp)];exact ⟨s,l,rfl,ay.le (by omega),ah,op,dT,cc⟩
structure vm (l:List aC):Prop where
 ok:dV l
 fst:∃x,l[0]? =aqV x/\x.kind=1
theorem ag5 (N:Nat) (bj:200<=N) {b:Int} (h4:0<=b) (aa:b<=900000) {s:en} (ay:ho b s) {k:Int} (hk:k<=60):∃l b1,D5 N s k=aqV (l,b1)/\ho (b+30000) b1/\vm l:=by
 unfold D5;have gQ:xN N 0=aqV (lH 0):=N4 N (i:=0) (by omega);obtain ⟨y,s1,h1,J,aj,aM⟩:=l4 N (s:=s) (c:=b) 2 (by omega) (by omega) ay (by omega);rw[gQ,al,h1,al];simp only[];have LY:∀n,fA [aC.mk 1 (lH 0) 0 1 0 500] n=if n=0\/n=1 then 1 else 0:=by
  intro n;unfold fA;have:(bT (aC.mk 1 (lH 0) 0 1 0 500))=[0,1]:=by simp[bT]
  rw[asO,this];by_cases ar:n=0\/n=1
  ·rw[if_pos (by simpa using ar),if_pos ar];rfl
  ·rw[if_neg (by simpa using ar),if_neg ar];rfl
 have aI:∀op:List Int,(∀n∈op,n=0\/n=1)->op.Nodup->op.length<=2->nO [aC.mk 1 (lH 0) 0 1 0 500] op 2:=fun op ai aB ah=>
  {snd:=fun x U=>by simp at U;subst U;exact CD (N5 0) (by omega) (by omega) (by omega) (by omega)
   p5:=fun i x U=>by have:=(aq5.1 U).1;simp at this;subst this;simp at U;subst U;rfl
   mn:=fun n=>by rw[LY];split<;>omega
   gd:=fun n _=>by rw[LY];split<;>omega
   fF:=aB
   rg:=fun n ar=>by rcases ai n ar with h|h<;>omega
   hj:=fun n ar=>by rw[LY,if_neg (by omega)]
   wi:=by omega
   M4:=by omega
   y7:=by omega
   fst:=⟨_,rfl,rfl⟩}
 have jy:∃op,H5 N [1] (y==0)=aqV op/\nO [aC.mk 1 (lH 0) 0 1 0 500] op 2:=by
  unfold H5;by_cases ag:y=0
  ·rw[if_pos (by simpa using ag),gY (by simp),al];exact ⟨_,rfl,aI _ (by simp) (by simp) (by simp)⟩
  ·rw[if_neg (by simpa using ag)];exact ⟨_,rfl,aI _ (by simp) (by simp) (by simp)⟩
 obtain ⟨op,g1,g2⟩:=jy;rw[g1,al];obtain ⟨s2,Ci,ad',ad7,c8,dR,gX,hX⟩:=XA N h4 aa hk 100 N (b+1) s1 _ op 2 (by omega) (by simp;omega) (by simp) (by omega) (by simp;omega) aM g2;rw[c8,al];simp only[];have:=hX.wi;have:=hX.M4;obtain ⟨km,MT,cm,cw,dW,aqv,aqs,fG⟩:=N9 N h4 aa 64 N (b+20000) s2 Ci ad' ad7 (by omega) (by omega) (by omega) (by omega) dR hX;rw[cm,al];exact ⟨MT,km,rfl,cw,fG.ok dW,fG.fst⟩
theorem ago (N:Nat) (bj:200<=N) {s:en} (ay:ho 0 s) {k:Int} (hk:k<=60):∃l b1,D5 N s k=aqV (l,b1)/\ho 30000 b1/\vm l:=ag5 N bj (b:=0) (by omega) (by omega) ay hk
end Go.W
end
section
namespace Go.W
open Go.aS
abbrev js:=List (Place×Int)
def j8 (l:List aC) (i n:Int):Place:=Place.mk (bu l i n) n
structure iQ (l:List aC) (to:Int) (d:js):Prop where
 key:∀p v,bw d p=aqV v->p.bp∈cU l p.ak
 zero:∀p,bw d p=aqV 0->p.ak=to
 pos:∀p v,bw d p=aqV v->v≠0->0<v/\∃n∈e3 l p.ak p.bp,bw d (j8 l p.ak n)=aqV (v - 1)
 keys:(d.map asj).Nodup
theorem uq {au bz:Type} [DecidableEq au]:∀{m:List (au×bz)} {k:au},(∃v,bw m k=aqV v)↔k∈m.map asj
 |[],k=>by simp[bw]
 |p::m,k=>by
  simp only[bw,arN,arb];by_cases h:p.1=k
  ·rw[if_pos h];simp[h]
  ·rw[if_neg h,uq];constructor
   ·exact .inr
   ·rintro (ax|ax)
    ·exact absurd ax.symm h
    ·exact ax
theorem sh {au bz:Type} [DecidableEq au]:∀{m:List (au×bz)} {k:au} {v:bz},bw m k=aqY->dA m k v=m++[(k,v)]
 |[],k,v,_=>rfl
 |p::m,k,v,h=>by
  simp only[bw] at h;split at h
  ·cases h
  ·rename_i hk;rw[dA,if_neg hk,sh h];rfl
def j4 (d cD:js):Prop:=∀p v,bw d p=aqV v->bw cD p=aqV v
theorem j4.refl (d:js):j4 d d:=fun _ _ h=>h
theorem j4.trans {a b c:js} (h:j4 a b) (k:j4 b c):j4 a c:=fun p v ap=>k p v (h p v ap)
theorem j4.set {d:js} {p:Place} {v:Int} (h:bw d p=aqY):j4 d (dA d p v):=fun q w aJ=>by
 rw[ix,if_neg (fun ax=>by rw[ax,aJ] at h;cases h)];exact aJ
theorem iQ.add {l:List aC} {to:Int} {d:js} (h:iQ l to d) {p:Place} {v:Int} (ap:bw d p=aqY) (h1:p.bp∈cU l p.ak) (J:v=0->p.ak=to) (aj:v≠0->0<v/\∃n∈e3 l p.ak p.bp,bw d (j8 l p.ak n)=aqV (v - 1)):iQ l to (dA d p v):=by
 have hle:=j4.set (v:=v) ap;refine ⟨fun q w aJ=> ?_,fun q aJ=> ?_,fun q w aJ hw=> ?_, ?_⟩
 ·rw[ix] at aJ;split at aJ
  ·rename_i ax;cases aJ;subst ax;exact h1
  ·exact h.key q w aJ
 ·rw[ix] at aJ;split at aJ
  ·rename_i ax;cases aJ;subst ax;exact J rfl
  ·exact h.zero q aJ
 ·rw[ix] at aJ;split at aJ
  ·rename_i ax;cases aJ;subst ax;obtain ⟨a,n,b,c⟩:=aj hw;exact ⟨a,n,b,hle _ _ c⟩
  ·obtain ⟨a,n,b,c⟩:=h.pos q w aJ hw;exact ⟨a,n,b,hle _ _ c⟩
 ·rw[sh ap,ar',ar1];refine ⟨h.keys,by simp,fun x U y ag=> ?_⟩;simp at ag;subst ag;intro ax;subst ax;obtain ⟨w,hw⟩:=uq.2 U;rw[hw] at ap;cases ap
def tz (l:List aC):List Place:=(arC l.length).flatMap fun (i:Nat)=>(cU l (i:Int)).map fun n=>Place.mk (i:Int) n
theorem NV (l:List aC):(tz l).length<=3*l.length:=by
 unfold tz;have key:∀(q:List Nat),(q.flatMap fun (i:Nat)=>(cU l (i:Int)).map fun n=>Place.mk (i:Int) n).length<=3*q.length:=by
  intro q;induction q with
  |nil=>simp
  |cons a q a8=>rw[asn,aro,arP,arw];have:=lE l (a:Int);omega
 have:=key (arC l.length);rw[atE] at this;exact this
theorem NW {l:List aC} {p:Place} (h:p.bp∈cU l p.ak):p∈tz l:=by
 obtain ⟨aI,h1,x,U,ar⟩:=jC h;unfold tz;rw[asD];refine ⟨p.ak.toNat,asb.2 (by omega),arf.2 ⟨p.bp, ?_, ?_⟩⟩
 ·rw[auc aI];exact h
 ·rw[auc aI]
theorem sj {au:Type} [DecidableEq au]:∀{a b:List au},a.Nodup->(∀x∈a,x∈b)->a.length<=b.length
 |[],b,_,_=>by simp
 |x::a,b,aB,ay=>by have jR:=asU.1 aB;have U:=ay x arp;have:=sj (a:=a) (b:=b.erase x) jR.2 fun y ag=>(List.mem_erase_of_ne (by rintro rfl;exact jR.1 ag)).2 (ay y (ark _ ag));rw[List.length_erase_of_mem U] at this;have dQ:=List.length_pos_of_mem U;simp only[arw];omega
theorem iQ.len {l:List aC} {to:Int} {d:js} (h:iQ l to d):d.length<=3*l.length:=by
 have h1:=sj (b:=tz l) h.keys fun p ap=>by obtain ⟨v,ad⟩:=uq.2 ap;exact NW (h.key p v ad)
 have:=NV l;rw[arP] at h1;omega
theorem iQ.chain {l:List aC} {to:Int} {d:js} (h:iQ l to d):∀(v:Nat) (p:Place),bw d p=aqV (v:Int)->∃ks:List Place,ks.length=v+1/\ks.Nodup/\∀q∈ks,∃w,bw d q=aqV w/\w<=v
 |0,p,ap=>⟨[p],rfl,by simp,fun q aJ=>by simp at aJ;subst aJ;exact ⟨_,ap,Int.le_refl _⟩⟩
 |v+1,p,ap=>by
  obtain ⟨_,n,_,ar⟩:=h.pos p _ ap (by omega);obtain ⟨ks,h1,J,aj⟩:=h.chain v (j8 l p.ak n) (by rw[ar];congr 1;omega);refine ⟨p::ks,by simp[h1],asU.2 ⟨fun hm=> ?_,J⟩,fun q aJ=> ?_⟩
  ·obtain ⟨w,hw,n9⟩:=aj p hm;rw[ap] at hw;cases hw;omega
  ·rcases arb.1 aJ with rfl|aJ
   ·exact ⟨_,ap,Int.le_refl _⟩
   ·obtain ⟨w,hw,n9⟩:=aj q aJ;exact ⟨w,hw,by omega⟩
theorem iQ.r8 {l:List aC} {to:Int} {d:js} (h:iQ l to d) {p:Place} {v:Int} (ap:bw d p=aqV v):0<=v:=by
 by_cases aI:v=0
 ·omega
 ·have:=(h.pos p v ap aI).1;omega
theorem iQ.val {l:List aC} {to:Int} {d:js} (h:iQ l to d) {p:Place} {v:Int} (ap:bw d p=aqV v):v<d.length:=by
 obtain ⟨n,rfl⟩:=arI (h.r8 ap);obtain ⟨ks,h1,J,aj⟩:=h.chain n p ap;have:=sj (b:=d.map asj) J fun q aJ=>by obtain ⟨w,hw,_⟩:=aj q aJ;exact uq.1 ⟨w,hw⟩
 rw[arP] at this;omega
structure mT (d:js) (q:List Place) (c:Int):Prop where
 mem:∀p∈q,∃v,bw d p=aqV v/\c<=v
 top:∀p v,bw d p=aqV v->v<=c+1
 ord:q.Pairwise fun a b=>∀x y,bw d a=aqV x->bw d b=aqV y->x<=y
theorem mT.push {d:js} {q:List Place} {c:Int} (h:mT d q c) {p:Place} {v:Int} (ap:bw d p=aqY) (h1:c<=v) (J:v<=c+1) (aj:∀a∈q,∀x,bw d a=aqV x->x<=v):mT (dA d p v) (q++[p]) c:=by
 have hle:=j4.set (v:=v) ap;have hW:∀{x},bw (dA d p v) p=aqV x->x=v:=fun U=>by rw[ix,if_pos rfl] at U;cases U;rfl
 have hold:∀a∈q,∀x,bw (dA d p v) a=aqV x->bw d a=aqV x:=fun a aq x U=>by obtain ⟨y,ag,_⟩:=h.mem a aq;have:=hle _ _ ag;rw[U] at this;cases this;exact ag
 refine ⟨fun r an=> ?_,fun r w hw=> ?_, ?_⟩
 ·rcases arj.1 an with an|an
  ·obtain ⟨w,hw,ab⟩:=h.mem r an;exact ⟨w,hle _ _ hw,ab⟩
  ·simp at an;subst an;exact ⟨v,by rw[ix,if_pos rfl],h1⟩
 ·rw[ix] at hw;split at hw
  ·cases hw;exact J
  ·exact h.top r w hw
 ·rw[auq];refine ⟨h.ord.imp_of_mem fun {a b} aq aa br x y U ag=>br x y (hold a aq x U) (hold b aa y ag),by simp,fun a aq b aa x y U ag=> ?_⟩;simp at aa;subst aa;rw[hW ag];exact aj a aq x (hold a aq x U)
def Jd (l:List aC) (d:js) (p:Place) (v:Int):Prop:=∀m∈e3 l (bu l p.ak p.bp) p.bp,∃w,bw d (Place.mk (bu l p.ak p.bp) m)=aqV w/\w<=v+1
def Q6 (l:List aC) (d:js) (q:List Place):Prop:=∀p v,bw d p=aqV v->p∈q\/Jd l d p v
def fs (l:List aC) (d:js):Prop:=∀p v,bw d p=aqV v->Jd l d p v
theorem YS (N:Nat) {l:List aC} {to:Int} {e:List Int} (he:e=cU l to) (aB:e.Nodup):∀(k n i:Nat) (d:js) (q:List Place),k<n->i+k=e.length->iQ l to d->mT d q 0->(∀p v,bw d p=aqV v->v=0/\p∈q)->(∀m∈e.drop i,bw d (Place.mk to m)=aqY)->d.length=q.length->d.length+k<=1000->
  ∃cD dJ,w3 N to e e.length n d q i=aqV (cD,dJ)/\iQ l to cD/\mT cD dJ 0/\Q6 l cD dJ/\cD.length=dJ.length/\j4 d cD/\∀m∈e.drop i,bw cD (Place.mk to m)=aqV 0
 |k,0,i,d,q,ar,_,_,_,_,_,_,_=>by omega
 |0,n+1,i,d,q,ar,ae,ev,fc,Bw,hm,ah,aa=>by
  obtain rfl:i=e.length:=by omega
  rw[w3,if_neg (cF (by omega)),asi];exact ⟨d,q,rfl,ev,fc,fun p v ap=> .inl (Bw p v ap).2,ah,j4.refl d,by simp⟩
 |k+1,n+1,i,d,q,ar,ae,ev,fc,Bw,hm,ah,aa=>by
  have aN:i<e.length:=by omega
  have aq:=cM aN;have ap6:=lE l to;rw[w3,if_pos (cH (by omega)),cJ aq];simp only[al,bP];rw[gY (by simp;omega),al,dm (by rw[he] at aN;omega)];rw[jA aq] at hm⊢;have BW:=hm _ arp;have Ly:=ev.add (v:=0) BW (by rw[<-he];exact asy aN) (fun _=>rfl) (fun ax=>absurd rfl ax);have hle:=j4.set (v:=0) BW;have pT:e[i]∉e.drop (i+1):=by intro hm;obtain ⟨j,av⟩:=arS hm;rw[ar6] at av;obtain ⟨gA,av⟩:=aq5.1 av;exact arT.1 aB i (i+1+j) aN gA (by omega) av.symm
  obtain ⟨cD,dJ,g1,g2,g3,g7,g4,g5,g6⟩:=YS N he aB k n (i+1) (dA d (Place.mk to e[i]) 0) (q++[Place.mk to e[i]]) (by omega) (by omega) Ly (fc.push BW (by omega) (by omega) fun a aq x U=>by rw[(Bw a x U).1];omega) (fun p v ap=>by
   rw[ix] at ap;split at ap
   ·rename_i ax;cases ap;subst ax;exact ⟨rfl,att _ (by simp)⟩
   ·exact ⟨(Bw p v ap).1,ate _ (Bw p v ap).2⟩) (fun m fE=>by
   rw[ix,if_neg (fun ax=>pT (by have:=congrArg Place.bp ax;simp at this;rw[this];exact fE))];exact hm m (ark _ fE)) (by rw[sh BW];simp[ah]) (by rw[sh BW];simp;omega)
  refine ⟨cD,dJ,g1,g2,g3,g7,g4,hle.trans g5,fun m fE=> ?_⟩;rcases arb.1 fE with rfl|fE
  ·exact g5 _ _ (by rw[ix,if_pos rfl])
  ·exact g6 m fE
theorem Py (N:Nat) {l:List aC} {to:Int} (bt:dV l) {p:Place} {v:Int} (nh:p.bp∈cU l p.ak) (kc:0<=bu l p.ak p.bp) {t:List Int} (ao:t=e3 l (bu l p.ak p.bp) p.bp):∀(k n i:Nat) (d:js) (q:List Place),k<n->i+k=t.length->iQ l to d->mT d q v->bw d p=aqV v->0<=v->v<=1000->d.length+k<=1000->q.length<=1000+i->
  ∃cD dJ,sL N p (bu l p.ak p.bp) t t.length n d q i=aqV (cD,dJ)/\iQ l to cD/\mT cD dJ v/\(∀r w,bw cD r=aqV w->bw d r=aqV w\/r∈dJ)/\(∀r∈q,r∈dJ)/\cD.length+q.length=d.length+dJ.length/\j4 d cD/\(∀m∈t.drop i,∃w,bw cD (Place.mk (bu l p.ak p.bp) m)=aqV w)/\cD.length<=d.length+k
 |k,0,i,d,q,ar,_,_,_,_,_,_,_,_=>by omega
 |0,n+1,i,d,q,ar,ae,ev,fc,ad,iL,kh,aa,aJ=>by
  obtain rfl:i=t.length:=by omega
  rw[sL,if_neg (cF (by omega)),asi];exact ⟨d,q,rfl,ev,fc,fun _ _ h=> .inl h,fun _ h=>h,by omega,j4.refl d,by simp,by omega⟩
 |k+1,n+1,i,d,q,ar,ae,ev,fc,ad,iL,kh,aa,aJ=>by
  have aN:i<t.length:=by omega
  have aq:=cM aN;have ac9:=sn l (bu l p.ak p.bp) p.bp;rw[sL,if_pos (cH (by omega))];unfold PG;rw[cJ aq,jA aq];simp only[al,bP];have pS:t[i]∈e3 l (bu l p.ak p.bp) p.bp:=by rw[<-ao];exact asy aN
  cases aH:bw d (Place.mk (bu l p.ak p.bp) t[i]) with
  |some w=>
   simp only[aud,asx,arE,if_false,al];rw[dm (by rw[ao] at aN;omega)];obtain ⟨cD,dJ,g1,g2,g3,g8,g9,g4,g5,g6,g7⟩:=Py N bt nh kc ao k n (i+1) d q (by omega) (by omega) ev fc ad iL kh (by omega) (by omega);refine ⟨cD,dJ,g1,g2,g3,g8,g9,g4,g5,fun m hm=> ?_,by omega⟩;rcases arb.1 hm with rfl|hm
   ·exact ⟨w,g5 _ _ aH⟩
   ·exact g6 m hm
  |none=>
   simp only[Option.isSome_none,atX,if_true,ad,asm];rw[ha (by omega) (by omega),gY (by simp;rw[ao] at aN;omega),al,al];simp only[];rw[dm (by rw[ao] at aN;omega)];obtain ⟨m1,m2⟩:=zt pS;have ac7:=bt.ZE pS;have abz:j8 l (bu l p.ak p.bp) p.bp=p:=by unfold j8;rw[bt.ud nh kc]
   have Ly:=ev.add (v:=v+1) aH m2 (fun ax=>by omega) (fun _=>⟨by omega,p.bp,ac7.1,by rw[abz,ad];congr 1;omega⟩);have hle:=j4.set (v:=v+1) aH;obtain ⟨cD,dJ,g1,g2,g3,g8,g9,g4,g5,g6,g7⟩:=Py N bt nh kc ao k n (i+1) (dA d (Place.mk (bu l p.ak p.bp) t[i]) (v+1)) (q++[Place.mk (bu l p.ak p.bp) t[i]]) (by omega) (by omega) Ly (fc.push aH (by omega) (by omega) fun a aq x U=>fc.top a x U) (hle _ _ ad) iL kh (by rw[sh aH];simp;omega) (by simp;omega);refine ⟨cD,dJ,g1,g2,g3,fun r w an=> ?_,fun r an=>g9 r (ate _ an), ?_,hle.trans g5,fun m hm=> ?_, ?_⟩
   ·rcases g8 r w an with h|h
    ·rw[ix] at h;split at h
     ·rename_i ax;subst ax;exact .inr (g9 _ (att _ (by simp)))
     ·exact .inl h
    ·exact .inr h
   ·rw[sh aH] at g4;simp at g4;omega
   ·rcases arb.1 hm with rfl|hm
    ·exact ⟨v+1,g5 _ _ (by rw[ix,if_pos rfl])⟩
    ·exact g6 m hm
   ·rw[sh aH] at g7;simp at g7;omega
theorem YT (N:Nat) (bj:1000<=N) {l:List aC} {to:Int} (bt:dV l):∀(k n:Nat) (d:js) (q:List Place) (c:Int),k<n->q.length+3*l.length<=k+d.length->iQ l to d->mT d q c->Q6 l d q->q.length<=d.length->
  ∃cD,Dx N l n d q=aqV cD/\iQ l to cD/\j4 d cD/\fs l cD
 |k,0,d,q,c,ar,_,_,_,_,_=>by omega
 |k,n+1,d,q,c,ar,hk,ev,fc,T2,aJ=>by
  have BA:=ev.len;have lV:=bt.len;rw[Dx];cases q with
  |nil=>
   rw[if_neg (cF (by simp))];exact ⟨d,rfl,ev,j4.refl d,fun p v ap=>by
    rcases T2 p v ap with h|h
    ·cases h
    ·exact h⟩
  |cons p q=>
   rw[if_pos (cH (by simp))];have aH:aR (p::q) 0=aqV p:=rfl;have yx:fX (p::q) 1 ((p::q).length:Int)=aqV q:=wH (xs:=p::q) (i:=1) (by simp);obtain ⟨v,lY,fP⟩:=fc.mem p arp;have nh:=ev.key p v lY;have iL:=ev.r8 lY;have kh:=ev.val lY;rw[aH,al,al,yx,al,GY N (by omega) (by omega),al,OV N (by omega),al];simp only[arw] at hk aJ;have BZ:=aue.1 fc.ord;have T5:mT d q v:=⟨fun r an=>by
    obtain ⟨w,hw,_⟩:=fc.mem r (ark _ an);exact ⟨w,hw,BZ.1 r an v w lY hw⟩,fun r w hw=>by have:=fc.top r w hw;omega,BZ.2⟩
   have ac9:=sn l (bu l p.ak p.bp) p.bp;have key:∃cD dJ,sL N p (bu l p.ak p.bp) (e3 l (bu l p.ak p.bp) p.bp) (e3 l (bu l p.ak p.bp) p.bp).length N d q 0=aqV (cD,dJ)/\iQ l to cD/\mT cD dJ v/\(∀r w,bw cD r=aqV w->bw d r=aqV w\/r∈dJ)/\(∀r∈q,r∈dJ)/\cD.length+q.length=d.length+dJ.length/\j4 d cD/\Jd l cD p v:=by
    by_cases kc:0<=bu l p.ak p.bp
    ·obtain ⟨cD,dJ,g1,g2,g3,g8,g9,g4,g5,g6,g7⟩:=Py N bt nh kc rfl (e3 l (bu l p.ak p.bp) p.bp).length N 0 d q (by omega) (by omega) ev T5 lY iL (by omega) (by omega) (by omega);exact ⟨cD,dJ,g1,g2,g3,g8,g9,g4,g5,fun m hm=>by
      obtain ⟨w,hw⟩:=g6 m (by simpa using hm);exact ⟨w,hw,g3.top _ _ hw⟩⟩
    ·have o0:e3 l (bu l p.ak p.bp) p.bp=[]:=by
      unfold e3 cU;rw[if_neg kc];rfl
     rw[o0];have:sL N p (bu l p.ak p.bp) [] (([]:List Int).length:Int) N d q 0=aqV (d,q):=by
      obtain ⟨M,rfl⟩:∃M,N=M+1:=⟨N - 1,by omega⟩
      rw[sL,if_neg (by simp)]
     exact ⟨d,q,this,ev,T5,fun _ _ h=> .inl h,fun _ h=>h,by omega,j4.refl d,fun m hm=>by rw[o0] at hm;simp at hm⟩
   obtain ⟨cD,dJ,g1,g2,g3,g8,g9,g4,g5,g6⟩:=key;rw[g1,al];have ap4:=g2.len;cases k with
   |zero=>omega
   |succ k=>
    obtain ⟨d2,h1,J,aj,aM⟩:=YT N bj bt k n cD dJ v (by omega) (by omega) g2 g3 (fun r w an=>by
     rcases g8 r w an with h|h
     ·rcases T2 r w h with cq|cq
      ·rcases arb.1 cq with rfl|cq
       ·rw[lY] at h;cases h;exact .inr g6
       ·exact .inl (g9 r cq)
      ·exact .inr fun m hm=>by obtain ⟨x,U,oc⟩:=cq m hm;exact ⟨x,g5 _ _ U,oc⟩
     ·exact .inl h) (by omega)
    exact ⟨d2,h1,J,g5.trans aj,aM⟩
theorem iQ.nil (l:List aC) (to:Int):iQ l to []:=⟨by simp[bw],by simp[bw],by simp[bw],by simp⟩
theorem ahk (N:Nat) (bj:1000<=N) {l:List aC} {to:Int} (bt:dV l):∃d,IX N l to=aqV d/\iQ l to d/\(∀m∈cU l to,bw d (Place.mk to m)=aqV 0)/\fs l d:=by
 unfold IX;have he:=lE l to;have lV:=bt.len;rw[GQ,al];obtain ⟨d,q,h1,J,aj,h3,aM,bq,dv⟩:=YS N rfl (bt.nodup to) (cU l to).length N 0 [] [] (by omega) (by omega) (iQ.nil l to) ⟨by simp,by simp[bw],by simp⟩ (by simp[bw]) (by simp[bw]) rfl (by simp;omega);have h1:w3 N to (cU l to) (cU l to).length N [] [] 0=aqV (d,q):=h1;rw[h1,al];have BA:=J.len;obtain ⟨cD,g1,g2,g3,g4⟩:=YT N bj bt (q.length+3*l.length) N d q 0 (by omega) (by omega) J aj h3 (by omega);rw[g1,al];refine ⟨cD,rfl,g2,fun m hm=>g3 _ _ (dv m (by simpa using hm)),g4⟩
end Go.W
end
section
set_option maxRecDepth 100000
namespace Go.W
open Go.aS
end Go.W
end
section
namespace Go.W
open Go.aS
def ft (l:List aC) (i:Int):Prop:=0<=i/\∃x,l[i.toNat]? =aqV x/\x.kind=1
instance (l:List aC) (i:Int):Decidable (ft l i):=by
 unfold ft;cases h:l[i.toNat]? with
 |none=>exact isFalse (by rintro ⟨_,x,U,_⟩;cases U)
 |some y=>exact if J:0<=i/\y.kind=1 then isTrue ⟨J.1,y,rfl,J.2⟩ else isFalse (by rintro ⟨a,x,U,b⟩;cases U;exact J ⟨a,b⟩)
theorem OW (N:Nat) (l:List aC) (i:Int):u9 N l i=aqV (decide (ft l i)):=by
 unfold u9 Im;by_cases aI:0<=i
 ·rw[if_pos (nq aI)];by_cases h1:i<l.length
  ·rw[if_pos (cH h1)];have aN:i.toNat<l.length:=by omega
   have aH:aR l i=aqV l[i.toNat]:=by simp[aR,aI,aN]
   rw[aH,al,bP,al];congr 1;by_cases hk:l[i.toNat].kind=1
   ·rw[decide_eq_true (show ft l i from ⟨aI,_,cM aN,hk⟩)];simpa using hk
   ·rw[decide_eq_false (show ¬ft l i from by rintro ⟨_,x,U,iV⟩;rw[cM aN] at U;cases U;exact hk iV)];simpa using hk
  ·rw[if_neg (cF h1),al,decide_eq_false (show ¬ft l i from by rintro ⟨_,x,U,_⟩;have:=(aq5.1 U).1;omega)]
 ·rw[if_neg (oh aI),al,decide_eq_false (show ¬ft l i from fun h=>aI h.1)]
theorem Yd (N:Nat) (l:List aC) (i:Int):xT N l i=aqV (decide (ft l i)):=by
 have h:=OW N l i;unfold u9 Im at h;unfold xT Qm;exact h
theorem Nq (N:Nat) {l:List Int} (bj:l.length<N) (ah:l.length<=1000000) (x:Int):Au N l x=aqV (l.contains x):=by
 unfold Au QV;have h:=j2 (l:=l) (fun _ y=>x==y) (fun i _=>(i:Int)) (fun m i=>uV N l x l.length m i) (fun m=>by
  show uV N l x l.length (m+1) _=_;rw[uV,if_neg (cF (by omega))]) (fun m i y ag=>by
  show uV N l x l.length (m+1) _=_;have aN:=(aq5.1 ag).1;rw[uV,if_pos (cH (by omega)),cJ ag,al,dm (by omega)]) l.length N 0 bj (by omega)
 simp only[ast,arB] at h;rw[h,al];have key:(∃u,ch (fun _ y=>x==y) (fun i _=>(i:Int)) 0 l= .inl u)↔l.contains x=aqZ:=by
  have:ch (fun _ y=>x==y) (fun i (_:Int)=>(i:Int)) 0 l= .inl ()↔_:=um;constructor
  ·rintro ⟨u,hu⟩;have J:=this.1 hu;rw[atr];intro ab;have hm:x∈l:=by simpa using ab
   obtain ⟨j,av⟩:=arS hm;have:=J j x av;simp at this
  ·intro ab;refine ⟨(),this.2 fun j y av=> ?_⟩;have hm:x∉l:=by simpa using ab
   simp only[beq_eq_false_iff_ne,ne_eq];rintro rfl;exact hm (are av)
 rcases zg (fun _ y=>x==y) l 0 with ⟨h1,J⟩|⟨h1,J⟩
 ·rw[h1];have:=key.1 ⟨(),h1⟩;rw[this];rfl
 ·rw[h1];have:l.contains x=aqW:=by
   cases ab:l.contains x with
   |true=>rfl
   |false=>obtain ⟨u,hu⟩:=key.2 ab;rw[h1] at hu;cases hu
  rw[this];simp only[al,bP];rw[decide_eq_true J]
theorem XO (N:Nat) {l:List Int} (bj:l.length<N) (ah:l.length<=1000000) (x:Int):Eg N l x=aqV (l.contains x):=by
 have h:=XY (l:=l) (x:=x) (fun n i=>uT N l x n i) (fun n=>by
  show uT N l x (n+1) _=_;rw[uT,if_neg (cF (by omega))]) (fun n i y ag=>by
  show uT N l x (n+1) _=_;have aN:=(aq5.1 ag).1;rw[uT,if_pos (cH (by omega)),cJ ag,al,bP,dm (by omega)]) bj
 unfold Eg;rw[h,al];cases l.contains x<;>rfl
def bR (r:List aU):List Int:=r.map aU.ak
theorem ur (N:Nat) {r:List aU} (bj:r.length<N) (ah:r.length<=9223372036854775807) (x:Int):rm N r x=aqV ((bR r).contains x):=by
 have h:=j2 (l:=r) (fun _ y=>y.ak==x) (fun _ _=>aqW) (fun n i=>uN N r x n i) (fun n=>by
  show uN N r x (n+1) _=_;rw[uN,if_neg (cF (by omega))]) (fun n i y ag=>by
  show uN N r x (n+1) _=_;have aN:=(aq5.1 ag).1;rw[uN,if_pos (cH (by omega)),cJ ag,al,bP,dm (by omega)]) r.length N 0 bj (by omega)
 simp only[ast,arB] at h;unfold rm;rw[h,al,O0 (fun y:aU=>y.ak==x)];have e:(r.any fun y=>y.ak==x)=(bR r).contains x:=by unfold bR;rw[<-Hi,List.any_map];rfl
 rw[e];cases (bR r).contains x<;>rfl
theorem VP (N:Nat) {r:List aU} (ah:r.length<=9223372036854775807):∀(k n i:Nat) (bH:List (Int×Bool)),k<n->i+k=r.length->(∀a,(bw bH a).getD aqZ=(bR (r.take i)).contains a)->(bR (r.take i)).Nodup->
  (sV N r r.length n bH i=aqV (.inl ())/\(bR r).Nodup)\/(sV N r r.length n bH i=aqV (.inr aqW)/\¬(bR r).Nodup)
 |k,0,i,bH,ar,_,_,_=>by omega
 |0,n+1,i,bH,ar,ae,h1,J=>by
  obtain rfl:i=r.length:=by omega
  rw[sV,if_neg (cF (by omega))];rw[asM] at J;exact .inl ⟨rfl,J⟩
 |k+1,n+1,i,bH,ar,ae,h1,J=>by
  have aN:i<r.length:=by omega
  have aq:=cM aN;rw[sV,if_pos (cH (by omega)),cJ aq,al,bP,h1];have gD:bR (r.take (i+1))=bR (r.take i)++[r[i].ak]:=by unfold bR;rw[mE aq,ar'];rfl
  by_cases ab:(bR (r.take i)).contains r[i].ak=aqW
  ·rw[if_pos ab];refine .inr ⟨rfl,fun aB=> ?_⟩;have ay:(bR (r.take (i+1))).Nodup:=aB.sublist ((ats (i+1) r).map _);rw[gD,ar1] at ay;exact ay.2.2 _ (by simpa using ab) _ (by simp) rfl
  ·rw[if_neg ab,bP,dm (by omega)];refine VP N ah k n (i+1) _ (by omega) (by omega) (fun a=> ?_) ?_
   ·rw[ix,gD];by_cases ax:r[i].ak=a
    ·rw[if_pos ax];simp[ax]
    ·rw[if_neg ax,h1];have ab0:¬a=r[i].ak:=fun q=>ax q.symm;simp[ab0]
   ·rw[gD,ar1];refine ⟨J,by simp,fun x U y ag=> ?_⟩;simp at ag;subst ag;rintro rfl;exact ab (by simpa using U)
theorem Xh (N:Nat) {r:List aU} (bj:r.length<N) (ah:r.length<=9223372036854775807):∃b,Ea N r=aqV b/\(b=aqZ↔(bR r).Nodup):=by
 unfold Ea;have h:=VP N ah r.length N 0 [] bj (by omega) (fun a=>by simp[bw,bR]) (by simp[bR]);rcases h with ⟨h1,J⟩|⟨h1,J⟩
 ·have h1:sV N r r.length N [] 0=aqV (.inl ()):=h1;rw[h1,al];exact ⟨aqZ,rfl,by simp[J]⟩
 ·have h1:sV N r r.length N [] 0=aqV (.inr aqW):=h1;rw[h1,al];exact ⟨aqW,rfl,by simp[J]⟩
structure kr (l:List aC) (r:List aU):Prop where
 two:2<=r.length
 aO:∀v,r[0]? =aqV v->ft l v.ak/\v.bp= -1/\v.out∈cU l v.ak
 hS:∀v,r[r.length - 1]? =aqV v->ft l v.ak/\v.out= -1
 step:∀(i:Nat) v w,r[i]? =aqV v->r[i+1]? =aqV w->w.bp=v.out/\0<=w.ak/\w.ak=bu l v.ak v.out
 mid:∀(i:Nat) v,0<i->i+1<r.length->r[i]? =aqV v->v.out∈e3 l v.ak v.bp
theorem kr.ins {l:List aC} {r:List aU} (h:kr l r) {i:Nat} {v:aU} (ae:0<i) (ad:r[i]? =aqV v):v.bp∈cU l v.ak:=by
 obtain ⟨j,rfl⟩:∃j,i=j+1:=⟨i - 1,by omega⟩
 have aN:=(aq5.1 ad).1;have av:=cM (xs:=r) (i:=j) (by omega);obtain ⟨a,b,c⟩:=h.step j _ v av ad;rw[c,a];exact (zx (by rw[<-c];exact b)).1
theorem kr.outs {l:List aC} {r:List aU} (h:kr l r) {i:Nat} {v:aU} (ae:i+1<r.length) (ad:r[i]? =aqV v):v.out∈cU l v.ak:=by
 cases i with
 |zero=>exact (h.aO v ad).2.2
 |succ i=>exact (zt (h.mid (i+1) v (by omega) ae ad)).2
theorem lC {a:Bool} {x:Option Bool} {p q:Prop} (aq:a=aqZ↔p) (U:∃b,x=aqV b/\(b=aqZ↔q)):∃b,(if a=aqW then aqV aqW else x)=aqV b/\(b=aqZ↔p/\q):=by
 cases a with
 |true=>exact ⟨aqW,rfl,by simp at aq;simp[aq]⟩
 |false=>obtain ⟨b,h1,J⟩:=U;refine ⟨b,by simpa using h1, ?_⟩;rw[J];simp at aq;simp[aq]
theorem uC {p:Prop} [Decidable p]:(!decide p)=aqZ↔p:=by simp
theorem Dn {l:List Int} {x:Int}:(!l.contains x)=aqZ↔x∈l:=by simp
theorem uK {a b:Int}:(a !=b)=aqZ↔a=b:=by simp
theorem YU {a b:Int}:decide (a<b)=aqZ↔b<=a:=by simp
theorem ahH (N:Nat) {l:List aC} {r:List aU} (bj:r.length+l.length+10<=N) (ah:l.length<=1000000) (an:r.length<=9223372036854775807):∃b,Ja N l r=aqV b/\(b=aqW↔kr l r):=by
 unfold Ja;rw[bP];by_cases J:r.length<2
 ·have h:zY N l r (aq6 .i64 ((r.length:Int) - 1))=aqV aqW:=by
   unfold zY;rw[if_pos (cH (by rw[ha (by omega) (by omega)];omega))]
  rw[h,al,if_pos rfl];exact ⟨aqZ,rfl,by simp;intro hw;have:=hw.two;omega⟩
 have hw:aq6 .i64 ((r.length:Int) - 1)=((r.length - 1:Nat):Int):=by rw[ha (by omega) (by omega)];omega
 rw[hw];have aI:=cM (xs:=r) (i:=0) (by omega);have aF:=cM (xs:=r) (i:=r.length - 1) (by omega);generalize iL:r[0]'(by omega)=v at aI;generalize ado:r[r.length - 1]'(by omega)=w at aF;have g0:aR r 0=aqV v:=cJ aI;have E4:aR r ((r.length - 1:Nat):Int)=aqV w:=cJ aF;have aX:=lE l v.ak;have e2:=lE l w.ak;have kS:∃b,zY N l r ((r.length - 1:Nat):Int)=aqV b/\(b=aqZ↔ft l v.ak/\ft l w.ak/\v.bp= -1/\w.out= -1):=by unfold zY;rw[if_neg (cF (by omega))];simp only[g0,E4,al,OW];exact lC uC (lC uC (lC uK ⟨_,rfl,uK⟩))
 have c1:∃b,HU N l r ((r.length - 1:Nat):Int)=aqV b/\(b=aqZ↔v.out∈cU l v.ak/\w.bp∈cU l w.ak):=by unfold HU;simp only[g0,E4,al,GQ];rw[Nq N (by omega) (by omega),Nq N (by omega) (by omega)];simp only[al];exact lC Dn ⟨_,rfl,Dn⟩
 obtain ⟨df,lz,iY⟩:=kS;obtain ⟨e6,c8,cm⟩:=c1;rw[lz,al];have dO:∀{x},r[0]? =aqV x->x=v:=fun U=>by rw[aI] at U;cases U;rfl
 have Lk:∀{x},r[r.length - 1]? =aqV x->x=w:=fun U=>by rw[aF] at U;cases U;rfl
 cases df with
 |true=>rw[if_pos rfl];refine ⟨aqZ,rfl, ?_⟩;simp only[arE,false_iff];intro hw;have a:=hw.aO v aI;have b:=hw.hS w aF;have:=iY.2 ⟨a.1,b.1,a.2.1,b.2⟩;cases this
 |false=>
  rw[if_neg (by simp),c8,al];have iY:=iY.1 rfl;cases e6 with
  |true=>rw[if_pos rfl];refine ⟨aqZ,rfl, ?_⟩;simp only[arE,false_iff];intro hw;have:=cm.2 ⟨(hw.aO v aI).2.2,hw.ins (by omega) aF⟩;cases this
  |false=>
   rw[if_neg (by simp)];have cm:=cm.1 rfl;have yx:fX r 1 (r.length:Int)=aqV (r.drop 1):=wH (i:=1) (by omega);rw[yx,al];have hlen:(r.drop 1).length=r.length - 1:=asa
   let bad:Nat->aU->Prop:=fun i y=>¬((y.bp=(r.getD i (aU.mk 0 0 0)).out/\0<=y.ak/\bu l (r.getD i (aU.mk 0 0 0)).ak (r.getD i (aU.mk 0 0 0)).out=y.ak)/\(i+2<r.length->y.out∈e3 l y.ak y.bp))
   have BR:=j2 (l:=r.drop 1) (fun i y=> @decide (bad i y) (arY _)) (fun _ _=>aqZ) (fun m i=>uQ N l r ((r.length - 1:Nat):Int) (r.drop 1) (r.drop 1).length m i) (fun m=>by
    show uQ N l r _ (r.drop 1) (r.drop 1).length (m+1) _=_;rw[uQ,if_neg (cF (by omega))]) (fun m i y ag=>by
    show uQ N l r _ (r.drop 1) (r.drop 1).length (m+1) _=_;have aN:=(aq5.1 ag).1;have ae:=cM (xs:=r) (i:=i) (by omega);rw[uQ,if_pos (cH (by omega)),cJ ag,al,cJ ae,al];have lj:r.getD i (aU.mk 0 0 0)=r[i]'(by omega):=by simp[ar3,ae]
    have d3:∃b,HV N l y (r[i]'(by omega))=aqV b/\(b=aqZ↔y.bp=(r.getD i (aU.mk 0 0 0)).out/\0<=y.ak/\bu l (r.getD i (aU.mk 0 0 0)).ak (r.getD i (aU.mk 0 0 0)).out=y.ak):=by unfold HV;rw[lj,GY N (by omega) (by omega),al];exact lC uK (lC YU ⟨_,rfl,uK⟩)
    have d4:∃b,HW N l ((r.length - 1:Nat):Int) i y=aqV b/\(b=aqZ↔(i+2<r.length->y.out∈e3 l y.ak y.bp)):=by
     unfold HW;rw[dm (by omega)];by_cases ax:i+2<r.length
     ·rw[if_pos (cH (by omega)),OV N (by omega),al,Nq N (by have:=sn l y.ak y.bp;omega) (by have:=sn l y.ak y.bp;omega),al];exact ⟨_,rfl,by rw[Dn];simp[ax]⟩
     ·rw[if_neg (cF (by omega))];exact ⟨aqZ,rfl,by simp[ax]⟩
    obtain ⟨mV,DH,km⟩:=d3;obtain ⟨qA,xq,Ad⟩:=d4;rw[DH,al];cases mV with
    |true=>
     have aa:bad i y:=fun ax=>by have:=km.2 ax.1;cases this
     rw[if_pos rfl, @decide_eq_true _ (arY _) aa,if_pos rfl]
    |false=>
     rw[if_neg (by simp),xq,al];cases qA with
     |true=>
      have aa:bad i y:=fun ax=>by have:=Ad.2 ax.2;cases this
      rw[if_pos rfl, @decide_eq_true _ (arY _) aa,if_pos rfl]
     |false=>
      have aa:¬bad i y:=fun ax=>ax ⟨km.1 rfl,Ad.1 rfl⟩;rw[if_neg (by simp), @decide_eq_false _ (arY _) aa,if_neg (by simp),dm (by omega)]) (r.drop 1).length N 0 (by omega) (by omega)
   simp only[ast,arB] at BR;rw[BR,al];have lk:kr l r↔∀(j:Nat) (y:aU),(r.drop 1)[j]? =aqV y->¬bad j y:=by
    constructor
    ·intro hw j y av aa;rw[ar6,Nat.add_comm] at av;have aN:=(aq5.1 av).1;have ae:=cM (xs:=r) (i:=j) (by omega);have lj:r.getD j (aU.mk 0 0 0)=r[j]'(by omega):=by simp[ar3,ae]
     obtain ⟨a,b,c⟩:=hw.step j _ y ae av;refine aa ⟨by rw[lj];exact ⟨a,b,c.symm⟩,fun ax=>hw.mid (j+1) y (by omega) (by omega) av⟩
    ·intro ax;refine ⟨by omega,fun x U=> ?_,fun x U=> ?_,fun i x y U ag=> ?_,fun i x ae ht U=> ?_⟩
     ·rw[dO U];exact ⟨iY.1,iY.2.2.1,cm.1⟩
     ·rw[Lk U];exact ⟨iY.2.1,iY.2.2.2⟩
     ·have:=at'.1 (ax i y (by rw[ar6,Nat.add_comm];exact ag));have lj:r.getD i (aU.mk 0 0 0)=x:=by simp[ar3,U]
      rw[lj] at this;exact ⟨this.1.1,this.1.2.1,this.1.2.2.symm⟩
     ·obtain ⟨j,rfl⟩:∃j,i=j+1:=⟨i - 1,by omega⟩
      have:=at'.1 (ax j x (by rw[ar6,Nat.add_comm];exact U));exact this.2 (by omega)
   have nk:=um (p:=fun i y=> @decide (bad i y) (arY _)) (out:=fun _ _=>aqZ) (l:=r.drop 1) (i:=0);cases lo:ch (fun i y=> @decide (bad i y) (arY _)) (fun _ _=>aqZ) 0 (r.drop 1) with
   |inl u=>refine ⟨aqW,rfl, ?_⟩;simp only[true_iff];refine lk.2 fun j y av=> ?_;have:=(nk.1 lo) j y av;rw[arh] at this;exact @of_decide_eq_false _ (arY _) this
   |inr b=>
    have Fk:b=aqZ:=by
     have key:∀(e:List aU) (i:Nat) (b:Bool),ch (fun i y=> @decide (bad i y) (arY _)) (fun _ _=>aqZ) i e= .inr b->b=aqZ:=by
      intro e;induction e with
      |nil=>intro i b h;cases h
      |cons y e a8=>
       intro i b h;rw[ch] at h;split at h
       ·cases h;rfl
       ·exact a8 _ _ h
     exact key _ _ _ lo
    subst Fk;refine ⟨aqZ,rfl, ?_⟩;simp only[arE,false_iff];intro hw;have:=nk.2 fun j y av=>by rw[arh];exact @decide_eq_false _ (arY _) (lk.1 hw j y av)
    rw[this] at lo;cases lo
end Go.W
end
section
namespace Go.W
open Go.aS
def iG (l:List aC) (r:List aU):Prop:=qn l=0/\kr l r/\(bR r).Nodup
theorem OT (N:Nat) {l:List aC} {r:List aU} (bj:r.length+l.length+200<=N) (ah:l.length<=1000000) (an:r.length<=9223372036854775807):∃b,tl N l r=aqV b/\(b=aqW↔iG l r):=by
 unfold tl Qb iG;rw[NL N (by omega),al];by_cases aI:qn l=0
 ·rw[if_pos (by simpa using aI)];obtain ⟨b,h1,J⟩:=ahH N (l:=l) (r:=r) (by omega) ah an;obtain ⟨c,aj,aM⟩:=Xh N (r:=r) (by omega) an;rw[h1,al];cases b with
  |true=>rw[if_pos rfl,aj];simp only[al,bP];refine ⟨!c,rfl, ?_⟩;simp only[ar8,aM];exact ⟨fun h=>⟨aI,J.1 rfl,h⟩,fun h=>h.2.2⟩
  |false=>rw[if_neg (by simp),al];refine ⟨aqZ,rfl, ?_⟩;simp only[arE,false_iff];intro h;have:=J.2 h.2.1;cases this
 ·rw[if_neg (by simpa using aI),al];exact ⟨aqZ,rfl,by simp[aI]⟩
theorem OX (N:Nat) {l:List aC} {r:List aU} (bj:r.length+l.length+200<=N) (ah:l.length<=1000000) (an:r.length<=9223372036854775807) (gQ:l.length<=96->∀x∈l,x.name.length<N/\x.name.length<=9223372036854775807):∃b,xS N l r=aqV b/\(b=aqW↔iG l r):=by
 unfold xS;rw[bP];by_cases aI:qn l=0
 case neg=>
  have h:uO N l r (aq6 .i64 ((r.length:Int) - 1))=aqV aqW:=by unfold uO;rw[Gm N (by omega) gQ,al,if_pos (by simpa using aI)]
  rw[h,al,if_pos rfl];exact ⟨aqZ,rfl,by simp[iG,aI]⟩
 by_cases J:r.length<2
 ·have h:uO N l r (aq6 .i64 ((r.length:Int) - 1))=aqV aqW:=by
   unfold uO;rw[Gm N (by omega) gQ,al,if_neg (by simpa using aI),if_pos (cH (by rw[ha (by omega) (by omega)];omega))]
  rw[h,al,if_pos rfl];refine ⟨aqZ,rfl, ?_⟩;simp only[arE,false_iff];intro hw;have:=hw.2.1.two;omega
 have hw:aq6 .i64 ((r.length:Int) - 1)=((r.length - 1:Nat):Int):=by rw[ha (by omega) (by omega)];omega
 rw[hw];have oT:=cM (xs:=r) (i:=0) (by omega);have aF:=cM (xs:=r) (i:=r.length - 1) (by omega);generalize iL:r[0]'(by omega)=v at oT;generalize ado:r[r.length - 1]'(by omega)=w at aF;have g0:aR r 0=aqV v:=cJ oT;have E4:aR r ((r.length - 1:Nat):Int)=aqV w:=cJ aF;have dO:∀{x},r[0]? =aqV x->x=v:=fun U=>by rw[oT] at U;cases U;rfl
 have Lk:∀{x},r[r.length - 1]? =aqV x->x=w:=fun U=>by rw[aF] at U;cases U;rfl
 have kS:∃b,uO N l r ((r.length - 1:Nat):Int)=aqV b/\(b=aqZ↔ft l v.ak/\ft l w.ak/\v.bp= -1/\w.out= -1):=by unfold uO;rw[Gm N (by omega) gQ,al,if_neg (by simpa using aI),if_neg (cF (by omega))];simp only[g0,E4,al,Yd];exact lC uC (lC uC (lC uK ⟨_,rfl,uK⟩))
 obtain ⟨df,lz,iY⟩:=kS;rw[lz,al];cases df with
 |true=>rw[if_pos rfl];refine ⟨aqZ,rfl, ?_⟩;simp only[arE,false_iff];intro ax;have a:=ax.2.1.aO v oT;have b:=ax.2.1.hS w aF;have:=iY.2 ⟨a.1,b.1,a.2.1,b.2⟩;cases this
 |false=>
  rw[if_neg (by simp)];have iY:=iY.1 rfl
  let dT:Nat->aU:=fun i=>r.getD (i+1) (aU.mk 0 0 0)
  let fj:Nat->aU->Prop:=fun i y=>(0<=y.ak/\y.ak<l.length/\y.ak∉bR (r.take i))/\(i+1<r.length->y.out∈cU l y.ak/\(dT i).bp=y.out/\(dT i).ak=bu l y.ak y.out)/\(0<i->i+1<r.length->y.out∈e3 l y.ak y.bp)
  have BR:=j2 (l:=r) (fun i y=> @decide (¬fj i y) (arY _)) (fun _ _=>aqZ) (fun m i=>uP N l r ((r.length - 1:Nat):Int) m i) (fun m=>by
   show uP N l r _ (m+1) _=_;rw[uP,if_neg (oh (by omega))]) (fun m i y ag=>by
   show uP N l r _ (m+1) _=_;have aN:=(aq5.1 ag).1;rw[uP,if_pos (nq (by omega))];have aql:=sn l y.ak y.bp;have kU:=lE l y.ak;have d2:∃b,Iu N l r i=aqV b/\(b=aqZ↔0<=y.ak/\y.ak<l.length/\y.ak∉bR (r.take i)):=by unfold Iu;simp only[cJ ag,al];rw[zd (by omega),al,ur N (by rw[arG];omega) (by rw[arG];omega),al];refine lC YU (lC (p:=y.ak<l.length) (by simp) ⟨_,rfl,by simp⟩)
   have d3:∃b,Iv N l r ((r.length - 1:Nat):Int) i=aqV b/\(b=aqZ↔(i+1<r.length->y.out∈cU l y.ak/\(dT i).bp=y.out/\(dT i).ak=bu l y.ak y.out)):=by
    unfold Iv;by_cases ax:i+1<r.length
    ·have U:=cM ax;have lj:dT i=r[i+1]:=by show r.getD (i+1) (aU.mk 0 0 0)=_;simp[ar3,U]
     rw[if_pos (cH (by omega)),dm (by omega)];simp only[cJ ag,cJ U,al,sk];rw[XO N (by omega) (by omega),uu N (by omega) (by omega)];simp only[al];obtain ⟨b,bs,bC⟩:=lC (a:= !(cU l y.ak).contains y.out) Dn (lC (a:=r[i+1].bp !=y.out) uK (x:=aqV (r[i+1].ak !=bu l y.ak y.out)) ⟨_,rfl,uK⟩);exact ⟨b,bs,by rw[bC,lj];simp[ax]⟩
    ·rw[if_neg (cF (by omega))];exact ⟨aqZ,rfl,by simp[ax]⟩
   have d4:∃b,Iw N l r ((r.length - 1:Nat):Int) i=aqV b/\(b=aqZ↔(0<i->i+1<r.length->y.out∈e3 l y.ak y.bp)):=by
    unfold Iw;by_cases ae:0<i
    ·rw[if_pos (cH (by omega))];by_cases ax:i+1<r.length
     ·rw[if_pos (cH (by omega))];simp only[cJ ag,al];rw[G3 N (by omega),al,XO N (by omega) (by omega),al];exact ⟨_,rfl,by rw[Dn];simp[ae,ax]⟩
     ·rw[if_neg (cF (by omega))];exact ⟨aqZ,rfl,by simp[ax]⟩
    ·rw[if_neg (cF (by omega))];exact ⟨aqZ,rfl,by simp[ae]⟩
   obtain ⟨gj,e1,s2⟩:=d2;obtain ⟨mV,DH,km⟩:=d3;obtain ⟨qA,xq,Ad⟩:=d4;rw[e1,al];cases gj with
   |true=>
    have aa:¬fj i y:=fun ax=>by have:=s2.2 ax.1;cases this
    rw[if_pos rfl, @decide_eq_true _ (arY _) aa,if_pos rfl]
   |false=>
    rw[if_neg (by simp),DH,al];cases mV with
    |true=>
     have aa:¬fj i y:=fun ax=>by have:=km.2 ax.2.1;cases this
     rw[if_pos rfl, @decide_eq_true _ (arY _) aa,if_pos rfl]
    |false=>
     rw[if_neg (by simp),xq,al];cases qA with
     |true=>
      have aa:¬fj i y:=fun ax=>by have:=Ad.2 ax.2.2;cases this
      rw[if_pos rfl, @decide_eq_true _ (arY _) aa,if_pos rfl]
     |false=>
      have aa:¬¬fj i y:=fun ax=>ax ⟨s2.1 rfl,km.1 rfl,Ad.1 rfl⟩;rw[if_neg (by simp), @decide_eq_false _ (arY _) aa,if_neg (by simp),bP,dm (by omega)]) r.length N 0 (by omega) (by omega)
  simp only[ast,arB] at BR;rw[BR,al];have lk:iG l r↔∀(j:Nat) (y:aU),r[j]? =aqV y->fj j y:=by
   constructor
   ·rintro ⟨_,hw,aB⟩ j y av;have aN:=(aq5.1 av).1;refine ⟨?_,fun ax=> ?_,fun h1 J=>hw.mid j y h1 J av⟩
    ·have fC:0<=y.ak/\y.ak<l.length:=by
      cases j with
      |zero=>obtain ⟨a,x,U,_⟩:=(hw.aO y av).1;have:=(aq5.1 U).1;omega
      |succ j=>have:=jC (hw.ins (by omega) av);exact ⟨this.1,this.2.1⟩
     refine ⟨fC.1,fC.2,fun hm=> ?_⟩;unfold bR at hm aB;obtain ⟨z,aF,adC⟩:=arf.1 hm;obtain ⟨i,ae⟩:=arS aF;rw[arK] at ae;split at ae
     ·rename_i cY;obtain ⟨jk,ae⟩:=aq5.1 ae;obtain ⟨_,av⟩:=aq5.1 av;have:=arT.1 aB i j (by simpa using jk) (by simpa using aN) cY;rw[auf,auf,ae,av] at this;exact this adC
     ·cases ae
    ·have U:=cM ax;have lj:dT j=r[j+1]:=by show r.getD (j+1) (aU.mk 0 0 0)=_;simp[ar3,U]
     rw[lj];obtain ⟨a,b,c⟩:=hw.step j y _ av U;exact ⟨hw.outs ax av,a,c⟩
   ·intro ax;refine ⟨aI,⟨by omega,fun x U=> ?_,fun x U=> ?_,fun i x y U ag=> ?_,fun i x ae ht U=>(ax i x U).2.2 ae ht⟩, ?_⟩
    ·have e:=dO U;have:=(ax 0 x U).2.1 (by omega);rw[e] at this⊢;exact ⟨iY.1,iY.2.2.1,this.1⟩
    ·rw[Lk U];exact ⟨iY.2.1,iY.2.2.2⟩
    ·have aN:=(aq5.1 ag).1;have:=(ax i x U).2.1 aN;have lj:dT i=y:=by show r.getD (i+1) (aU.mk 0 0 0)=_;simp[ar3,ag]
     rw[lj] at this;exact ⟨this.2.1,(ax (i+1) y ag).1.1,this.2.2⟩
    ·unfold bR;refine arT.2 fun i j ae av cY=> ?_;rw[auf,auf];intro he;have Ft:j<r.length:=by simpa using av
     have BJ:i<r.length:=by simpa using ae
     refine (ax j r[j] (cM Ft)).1.2.2 ?_;rw[<-he];unfold bR;refine arf.2 ⟨r[i],are (i:=i) ?_,rfl⟩;rw[arK,if_pos cY,cM BJ]
  have nk:=um (p:=fun i y=> @decide (¬fj i y) (arY _)) (out:=fun _ _=>aqZ) (l:=r) (i:=0);cases lo:ch (fun i y=> @decide (¬fj i y) (arY _)) (fun _ _=>aqZ) 0 r with
  |inl u=>refine ⟨aqW,rfl, ?_⟩;simp only[true_iff];refine lk.2 fun j y av=> ?_;have:=(nk.1 lo) j y av;rw[arh] at this;exact at'.1 (@of_decide_eq_false _ (arY _) this)
  |inr b=>
   have Fk:b=aqZ:=by
    have key:∀(e:List aU) (i:Nat) (b:Bool),ch (fun i y=> @decide (¬fj i y) (arY _)) (fun _ _=>aqZ) i e= .inr b->b=aqZ:=by
     intro e;induction e with
     |nil=>intro i b h;cases h
     |cons y e a8=>
      intro i b h;rw[ch] at h;split at h
      ·cases h;rfl
      ·exact a8 _ _ h
    exact key _ _ _ lo
   subst Fk;refine ⟨aqZ,rfl, ?_⟩;simp only[arE,false_iff];intro hw;have:=nk.2 fun j y av=>by rw[arh];exact @decide_eq_false _ (arY _) (fun ax=>ax (lk.1 hw j y av))
   rw[this] at lo;cases lo
end Go.W
end
section
namespace Go.W
open Go.aS
def oO (a b:Int):Int:=if a<b then -1 else if b<a then 1 else 0
theorem air (N:Nat) (a b:Int):Aw N a b=aqV (oO a b):=by
 unfold Aw I0 oO;simp only[bP,bne_self_eq_false,al,arE,if_false];by_cases h:a<b
 ·rw[if_pos (cH h),if_pos h]
 ·rw[if_neg (cF h),if_neg h];by_cases J:b<a
  ·rw[if_pos (cH J),if_pos J]
  ·rw[if_neg (cF J),if_neg J]
theorem ajl (N:Nat) (bj:4<=N) (a b c:Int):I5 N [a,b,c]=aqV (if a≠0 then a else if b≠0 then b else c):=by
 obtain ⟨M,rfl⟩:∃M,N=M+4:=⟨N - 4,by omega⟩
 unfold I5;have ah:(([a,b,c]:List Int).length:Int)=3:=rfl;have g0:aR [a,b,c] 0=aqV a:=rfl;have g1:aR [a,b,c] 1=aqV b:=rfl;have g2:aR [a,b,c] 2=aqV c:=rfl;have de:aq6 .i64 (0+1)=1:=by rw[ha]<;>omega
 have cO:aq6 .i64 (1+1)=2:=by rw[ha]<;>omega
 have fo:aq6 .i64 (2+1)=3:=by rw[ha]<;>omega
 have d0:decide ((0:Int)<3)=aqW:=rfl;have d1:decide ((1:Int)<3)=aqW:=rfl;have d2:decide ((2:Int)<3)=aqW:=rfl;have d3:decide ((3:Int)<3)=aqZ:=rfl;rw[ah,xc,d0,if_pos rfl,g0,al];by_cases aq:a=0
 ·subst aq;rw[if_neg (by simp),de,xc,d1,if_pos rfl,g1,al];by_cases aa:b=0
  ·subst aa;rw[if_neg (by simp),cO,xc,d2,if_pos rfl,g2,al];by_cases ab:c=0
   ·subst ab;rw[if_neg (by simp),fo,xc,d3,if_neg (by simp)];rfl
   ·rw[if_pos (by simpa using ab)];rfl
  ·rw[if_pos (by simpa using aa)];simp[al,aa]
 ·rw[if_pos (by simpa using aq)];simp[al,aq]
def ow (v1 aX j1 v2 e2 iX:Int):Prop:=v1<v2\/(v1=v2/\(aX<e2\/(aX=e2/\j1<iX)))
instance (v1 aX j1 v2 e2 iX:Int):Decidable (ow v1 aX j1 v2 e2 iX):=by unfold ow;infer_instance
theorem OM {a b:Int} (h:a<b):oO a b= -1:=if_pos h
theorem OL {a b:Int} (h:b<a):oO a b=1:=by unfold oO;rw[if_neg (by omega),if_pos h]
theorem OK (a:Int):oO a a=0:=by unfold oO;rw[if_neg (by omega),if_neg (by omega)]
theorem X1 (v1 aX j1 v2 e2 iX:Int):(if oO v1 v2≠0 then oO v1 v2 else if oO aX e2≠0 then oO aX e2 else oO j1 iX)<0↔ow v1 aX j1 v2 e2 iX:=by
 unfold ow;rcases aur v1 v2 with h|h|h
 ·rw[OM h];simp[h]
 ·subst h;rw[OK];simp only[ne_eq,not_true_eq_false,if_false,Int.lt_irrefl,false_or,true_and];rcases aur aX e2 with h|h|h
  ·rw[OM h];simp[h]
  ·subst h;rw[OK];simp only[ne_eq,not_true_eq_false,if_false,Int.lt_irrefl,false_or,true_and];rcases aur j1 iX with h|h|h
   ·rw[OM h];simp[h]
   ·subst h;rw[OK];simp
   ·rw[OL h];simp;omega
  ·rw[OL h];simp;omega
 ·rw[OL h];simp;omega
structure AR (l:List aC) (d:js) (e:Int) (q:List Int) (out:Int) (eH:Place) (found:Bool):Prop where
 no:found=aqZ->∀m∈q,bw d (j8 l e m)=aqY
 yes:found=aqW->out∈q/\eH=j8 l e out/\∃v,bw d eH=aqV v/\∀m∈q,∀w,bw d (j8 l e m)=aqV w->¬ow w (bu l e m) m v (bu l e out) out
theorem Wq (N:Nat) {l:List aC} (bj:l.length+10<=N) (ah:l.length<=1000000) {d:js} {e:Int} {o:List Int} (ai:o.length<=1000):∀(k n i:Nat) (out:Int) (eH:Place) (found:Bool),k<n->i+k=o.length->AR l d e (o.take i) out eH found->
  ∃om nP ym,xf N l d e o o.length n out eH found i=aqV (om,nP,ym)/\AR l d e o om nP ym
 |k,0,i,out,eH,found,ar,_,_=>by omega
 |0,n+1,i,out,eH,found,ar,ae,cc=>by
  obtain rfl:i=o.length:=by omega
  rw[xf,if_neg (cF (by omega))];rw[asM] at cc;exact ⟨_,_,_,rfl,cc⟩
 |k+1,n+1,i,out,eH,found,ar,ae,cc=>by
  have aN:i<o.length:=by omega
  have aq:=cM aN;rw[xf,if_pos (cH (by omega))];have gD:o.take (i+1)=o.take i++[o[i]]:=mE aq;have key:∃om nP ym,It N l d e out eH found o i=aqV (om,nP,ym)/\AR l d e (o.take (i+1)) om nP ym:=by
   unfold It;rw[cJ aq,al,GY N (by omega) ah,al,bP,bP];have aa:Place.mk (bu l e o[i]) o[i]=j8 l e o[i]:=rfl;rw[aa];cases aH:bw d (j8 l e o[i]) with
   |none=>
    refine ⟨out,eH,found,by simp,⟨fun aP m hm=> ?_,fun aP=> ?_⟩⟩
    ·rw[gD] at hm;rcases arj.1 hm with hm|hm
     ·exact cc.no aP m hm
     ·simp at hm;subst hm;exact aH
    ·obtain ⟨a,b,v,c,mq⟩:=cc.yes aP;refine ⟨by rw[gD];exact ate _ a,b,v,c,fun m hm w hw=> ?_⟩;rw[gD] at hm;rcases arj.1 hm with hm|hm
     ·exact mq m hm w hw
     ·simp at hm;subst hm;rw[aH] at hw;cases hw
   |some w=>
    simp only[aud,asx,arE,if_false,asm];unfold Qh;have taken:(found=aqW->∀v,bw d eH=aqV v->ow w (bu l e o[i]) o[i] v eH.ak out)->AR l d e (o.take (i+1)) o[i] (j8 l e o[i]) aqW:=by
     intro vO;refine ⟨fun aP=>(by cases aP),fun _=>⟨by rw[gD];exact att _ (arX.2 rfl),rfl,w,aH,fun m hm w' gR=> ?_⟩⟩;rw[gD] at hm;rcases arj.1 hm with hm|hm
     ·cases found with
      |false=>have:=cc.no rfl m hm;rw[gR] at this;cases this
      |true=>obtain ⟨a,b,v,c,mq⟩:=cc.yes rfl;have h1:=vO rfl v c;have J:=mq m hm w' gR;rw[b] at h1;have By:(j8 l e out).ak=bu l e out:=rfl;rw[By] at h1;unfold ow at*;omega
     ·simp at hm;subst hm;rw[aH] at gR;cases gR;unfold ow;omega
    cases found with
    |false=>simp only[atX,if_true,al];exact ⟨_,_,_,rfl,taken (fun h=>by cases h)⟩
    |true=>
     obtain ⟨a,b,v,c,mq⟩:=cc.yes rfl;rw[if_neg (by simp),c];simp only[bP,asm,air,al];rw[ajl N (by omega),al,al];have By:(j8 l e o[i]).ak=bu l e o[i]:=rfl;by_cases vO:ow w (bu l e o[i]) o[i] v eH.ak out
     ·rw[decide_eq_true ((X1 w (j8 l e o[i]).ak o[i] v eH.ak out).2 (by rw[By];exact vO)),if_pos rfl];exact ⟨_,_,_,rfl,taken fun _ bl mx=>by rw[c] at mx;cases mx;exact vO⟩
     ·rw[decide_eq_false (fun ax=>vO (by rw[<-By];exact (X1 w (j8 l e o[i]).ak o[i] v eH.ak out).1 ax)),if_neg (by simp)];refine ⟨out,eH,aqW,rfl,⟨fun aP=>(by cases aP),fun _=>⟨by rw[gD];exact ate _ a,b,v,c,fun m hm w' gR=> ?_⟩⟩⟩;rw[gD] at hm;rcases arj.1 hm with hm|hm
      ·exact mq m hm w' gR
      ·simp at hm;subst hm;rw[aH] at gR;cases gR;rw[b] at vO;exact vO
  obtain ⟨om,nP,ym,g1,g2⟩:=key;rw[g1,al];simp only[];rw[dm (by omega)];exact Wq N bj ah ai k n (i+1) _ _ _ (by omega) (by omega) g2
theorem agS (N:Nat) {l:List aC} (bj:l.length+1010<=N) (ah:l.length<=1000000) (d:js) (e:Int) {o:List Int} (ai:o.length<=1000):∃out eH found,I8 N l d e o=aqV (out,eH,found)/\AR l d e o out eH found:=by
 unfold I8;obtain ⟨out,eH,found,h1,J⟩:=Wq N (l:=l) (d:=d) (e:=e) (by omega) ah ai o.length N 0 0 (Place.mk 0 0) aqZ (by omega) (by omega) ⟨fun _ m hm=>by simp at hm,fun h=>by cases h⟩;have h1:xf N l d e o o.length N 0 (Place.mk 0 0) aqZ 0=aqV (out,eH,found):=h1;rw[h1,al];exact ⟨_,_,_,rfl,J⟩
def hZ (l:List aC) (e n:Int):List Int:=if n<0 then cU l e else e3 l e n
theorem WI (l:List aC) (e n:Int):(hZ l e n).length<=3:=by
 unfold hZ;split
 ·exact lE l e
 ·exact sn l e n
def AI (l:List aC) (g:Int->Int->Option Int) (e:Int) (o:List Int) (out:Int):Prop:=out∈o/\∃v,g (bu l e out) out=aqV v/\∀m∈o,∀w,g (bu l e m) m=aqV w->¬ow w (bu l e m) m v (bu l e out) out
theorem AI.xz {l:List aC} {g:Int->Int->Option Int} {e:Int} {o:List Int} {a b:Int} (h:AI l g e o a) (k:AI l g e o b):a=b:=by
 obtain ⟨h1,v,J,aj⟩:=h;obtain ⟨bs,w,bC,cQ⟩:=k;have p:=aj b bs w bC;have q:=cQ a h1 v J;unfold ow at p q;omega
structure kM (l:List aC) (g:Int->Int->Option Int) (fr:Int) (r:List aU):Prop where
 eH:∀(i:Nat) v,i+1<r.length->r[i]? =aqV v->AI l g v.ak (hZ l v.ak v.bp) v.out
 Co:∀(i:Nat) v,0<i->i+1<r.length->r[i]? =aqV v->g v.ak v.bp≠aqV 0
 ne:1<=r.length
 aO:∀v,r[0]? =aqV v->v.ak=fr/\v.bp= -1
 step:∀(i:Nat) v w,r[i]? =aqV v->r[i+1]? =aqV w->w.bp=v.out/\0<=w.ak/\w.ak=bu l v.ak v.out/\v.out∈cU l v.ak
 mid:∀(i:Nat) v,0<i->i+1<r.length->r[i]? =aqV v->v.out∈e3 l v.ak v.bp
theorem kM.add {l:List aC} {g:Int->Int->Option Int} {fr:Int} {r:List aU} {v:aU} {out:Int} (h:kM l g fr r) (ad:r[r.length - 1]? =aqV v) (aI:0<=bu l v.ak out) (ai:out∈cU l v.ak) (ao:1<r.length->out∈e3 l v.ak v.bp) (aa:AI l g v.ak (hZ l v.ak v.bp) out) (aF:1<r.length->g v.ak v.bp≠aqV 0):
  kM l g fr (r.set (r.length - 1) (aU.mk v.ak v.bp out)++[aU.mk (bu l v.ak out) out (-1)]):=by
 have b8:=h.ne;have hlen:(r.set (r.length - 1) (aU.mk v.ak v.bp out)).length=r.length:=asq;have get:∀(i:Nat) x,(r.set (r.length - 1) (aU.mk v.ak v.bp out)++[aU.mk (bu l v.ak out) out (-1)])[i]? =aqV x->(i+1<r.length/\r[i]? =aqV x)\/(i+1=r.length/\x=aU.mk v.ak v.bp out)\/(i=r.length/\x=aU.mk (bu l v.ak out) out (-1)):=by
  intro i x U;by_cases ae:i<r.length
  ·rw[arm (by omega),List.getElem?_set] at U;by_cases he:r.length - 1=i
   ·rw[if_pos he,if_pos (by omega)] at U;exact .inr (.inl ⟨by omega,by cases U;rfl⟩)
   ·rw[if_neg he] at U;exact .inl ⟨by omega,U⟩
  ·rw[arl (by omega)] at U;have:=(aq5.1 U).1;simp at this;have ht:i=r.length:=by omega
   subst ht;rw[hlen] at U;simp at U;exact .inr (.inr ⟨rfl,U.symm⟩)
 refine ⟨fun i x ht U=> ?_,fun i x ae ht U=> ?_,by simp,fun x U=> ?_,fun i x y U ag=> ?_,fun i x ae ht U=> ?_⟩
 ·simp only[aro,asq,arw,asV] at ht;rcases get i x U with ⟨a,b⟩|⟨a,rfl⟩|⟨a,_⟩
  ·exact h.eH i x a b
  ·exact aa
  ·omega
 ·simp only[aro,asq,arw,asV] at ht;rcases get i x U with ⟨a,b⟩|⟨a,rfl⟩|⟨a,_⟩
  ·exact h.Co i x ae a b
  ·exact aF (by omega)
  ·omega
 ·rcases get 0 x U with ⟨_,a⟩|⟨a,rfl⟩|⟨a,_⟩
  ·exact h.aO x a
  ·have:r.length - 1=0:=by omega
   rw[this] at ad;have:=h.aO v ad;exact this
  ·omega
 ·rcases get i x U with ⟨a,b⟩|⟨a,rfl⟩|⟨a,_⟩
  ·rcases get (i+1) y ag with ⟨c,mq⟩|⟨c,rfl⟩|⟨c,_⟩
   ·exact h.step i x y b mq
   ·have mx:r[i+1]? =aqV v:=by rw[<-ad];congr 1;omega
    exact h.step i x v b mx
   ·omega
  ·rcases get (i+1) y ag with ⟨c,_⟩|⟨c,_⟩|⟨c,rfl⟩
   ·omega
   ·omega
   ·exact ⟨rfl,aI,rfl,ai⟩
  ·rcases get (i+1) y ag with ⟨c,_⟩|⟨c,_⟩|⟨c,_⟩<;>omega
 ·simp only[aro,asq,arw,asV] at ht;rcases get i x U with ⟨a,b⟩|⟨a,rfl⟩|⟨a,_⟩
  ·exact h.mid i x ae (by omega) b
  ·exact ao (by omega)
  ·omega
theorem kM.same {l:List aC} {g:Int->Int->Option Int} {fr:Int} {fg e1:List aU} (h1:kM l g fr fg) (J:kM l g fr e1) (two:2<=e1.length) (aF:∀z,e1[e1.length - 1]? =aqV z->g z.ak z.bp=aqV 0):
  ∀i,i<fg.length->i<e1.length/\∀v1 v2,fg[i]? =aqV v1->e1[i]? =aqV v2->v1.ak=v2.ak/\v1.bp=v2.bp/\(i+1<fg.length->i+1<e1.length/\v1.out=v2.out):=by
 have Vg:∀(i:Nat) v1 v2,fg[i]? =aqV v1->e1[i]? =aqV v2->v1.ak=v2.ak->v1.bp=v2.bp->i+1<fg.length->i+1<e1.length/\v1.out=v2.out:=by
  intro i v1 v2 a b aX e2 ae;have ht:=(aq5.1 b).1;have aN:i+1<e1.length:=by
   by_cases ax:i+1=e1.length
   ·have e:i=e1.length - 1:=by omega
    have b6:=b;rw[e] at b6;have:=aF v2 b6;have b8:=h1.Co i v1 (by omega) ae a;rw[aX,e2] at b8;exact absurd this b8
   ·omega
  refine ⟨aN, ?_⟩;have p:=h1.eH i v1 ae a;have q:=J.eH i v2 aN b;rw[aX,e2] at p;exact p.xz q
 intro i;induction i with
 |zero=>
  intro ae;refine ⟨by omega,fun v1 v2 a b=> ?_⟩;obtain ⟨c8,dR⟩:=h1.aO v1 a;obtain ⟨cm,cw⟩:=J.aO v2 b;have aX:v1.ak=v2.ak:=by rw[c8,cm]
  have e2:v1.bp=v2.bp:=by rw[dR,cw]
  exact ⟨aX,e2,fun ax=>Vg 0 v1 v2 a b aX e2 ax⟩
 |succ i a8=>
  intro ae;obtain ⟨g1,g2⟩:=a8 (by omega);have a:=cM (xs:=fg) (i:=i) (by omega);have b:=cM (xs:=e1) (i:=i) g1;obtain ⟨aX,e2,ij⟩:=g2 _ _ a b;obtain ⟨oR,yk⟩:=ij ae;refine ⟨oR,fun v1 v2 c mq=> ?_⟩;obtain ⟨c8,dR,gX,hX⟩:=h1.step i _ v1 a c;obtain ⟨cm,cw,dW,fG⟩:=J.step i _ v2 b mq;have f1:v1.ak=v2.ak:=by rw[gX,dW,aX,yk]
  have f2:v1.bp=v2.bp:=by rw[c8,cm,yk]
  exact ⟨f1,f2,fun ax=>Vg (i+1) v1 v2 c mq f1 f2 ax⟩
theorem kM.aqu {l:List aC} {g:Int->Int->Option Int} {fr:Int} {fg e1:List aU} (h1:kM l g fr fg) (J:kM l g fr e1) (two:2<=e1.length) (aF:∀z,e1[e1.length - 1]? =aqV z->g z.ak z.bp=aqV 0) (aB:(bR e1).Nodup):(bR fg).Nodup:=by
 have s1:=h1.same J two aF;have:bR fg=(bR e1).take fg.length:=by
  refine List.ext_getElem? fun i=> ?_;unfold bR;rw[arK];by_cases ae:i<fg.length
  ·have a:=cM (xs:=fg) (i:=i) ae;have b:=cM (xs:=e1) (i:=i) (s1 i ae).1;rw[if_pos ae,arH,arH,a,b];simp only[Option.map_some];rw[((s1 i ae).2 _ _ a b).1]
  ·rw[if_neg ae,arH,List.getElem?_eq_none (by omega)];rfl
 rw[this];exact aB.sublist (ats _ _)
theorem WC (N:Nat) (bj:4000<=N) {l:List aC} (bt:dV l) {d:js} {fr to:Int} (ev:iQ l to d):∀(k n:Nat) (r:List aU) (o:List Int) (v:aU),k<n->kM l (fun i n=>bw d (Place.mk i n)) fr r->r[r.length - 1]? =aqV v->
  ((r.length=1/\o=cU l fr/\d.length<=k)\/(1<r.length/\o=e3 l v.ak v.bp/\∃w,bw d (Place.mk v.ak v.bp)=aqV w/\w≠0/\w<=k))->r.length+k<=2000->
  (∃hv,zW N l d n r o=aqV (.inl hv)/\kM l (fun i n=>bw d (Place.mk i n)) fr hv/\2<=hv.length/\(∃z,hv[hv.length - 1]? =aqV z/\z.ak=to/\z.out= -1/\bw d (Place.mk z.ak z.bp)=aqV 0)/\hv.length<=2001/\∀m∈o,∀w,bw d (j8 l v.ak m)=aqV w->(hv.length:Int)<=r.length+1+w)\/
  (zW N l d n r o=aqV (.inr 15)/\r.length=1/\∀m∈o,bw d (j8 l v.ak m)=aqY)
 |k,0,r,o,v,ar,_,_,_,_=>by omega
 |k,n+1,r,o,v,ar,Ff,ad,hinv,hlen=>by
  have b8:=Ff.ne;have lV:=bt.len;have BA:=ev.len;have hw:aq6 .i64 ((r.length:Int) - 1)=((r.length - 1:Nat):Int):=by rw[ha (by omega) (by omega)];omega
  have aqe:o.length<=3:=by
   rcases hinv with ⟨_,rfl,_⟩|⟨_,rfl,_⟩
   ·exact lE l fr
   ·exact sn _ _ _
  rw[zW,hw,cJ ad];simp only[al];obtain ⟨out,eH,found,h1,J⟩:=agS N (l:=l) (by omega) (by omega) d v.ak (o:=o) (by omega);rw[h1,al];simp only[];cases found with
  |false=>
   simp only[atX,if_true];refine .inr ⟨trivial, ?_,J.no rfl⟩;rcases hinv with ⟨a,_⟩|⟨_,rfl,w,iM,n9,_⟩
   ·exact a
   ·obtain ⟨_,m,tN,iK⟩:=ev.pos _ w iM n9;have:=J.no rfl m tN;rw[this] at iK;cases iK
  |true=>
   obtain ⟨cm,cw,v1,dW,fG⟩:=J.yes rfl;rw[if_neg (by simp),bP];have BP:=ev.key eH v1 dW;rw[cw] at BP;have aI:0<=bu l v.ak out:=(jC BP).1;have kh:=ev.r8 dW;have aqm:=ev.val dW;have lX:out∈cU l v.ak:=by
    rcases hinv with ⟨a,rfl,_⟩|⟨_,rfl,_⟩
    ·have:r.length - 1=0:=by omega
     rw[this] at ad;rw[(Ff.aO v ad).1];exact cm
    ·exact (zt cm).2
   have T4:=Ff.add ad aI lX (fun ax=>by
    rcases hinv with ⟨a,_⟩|⟨_,rfl,_⟩
    ·omega
    ·exact cm) (by
    have ai:o=hZ l v.ak v.bp:=by
     unfold hZ;rcases hinv with ⟨a,b,_⟩|⟨_,b,w,iM,_⟩
     ·have dt:r.length - 1=0:=by omega
      rw[dt] at ad;obtain ⟨c1,c2⟩:=Ff.aO v ad;rw[c1,c2,if_pos (by omega)];exact b
     ·have hk:=ev.key _ _ iM;obtain ⟨_,_,x,U,hm⟩:=jC hk;have:=((l5 (bt.snd x (are U))).2.1 _ hm).1;rw[if_neg (by simpa using this)];exact b
    rw[<-ai];exact ⟨cm,v1,by rw[cw] at dW;exact dW,fG⟩) (fun ax=>by
    rcases hinv with ⟨a,_⟩|⟨_,_,w,iM,n9,_⟩
    ·omega
    ·rw[iM];intro ab;cases ab;exact n9 rfl)
   have jY:(r.set (((r.length - 1:Nat):Int)).toNat (aU.mk v.ak v.bp out))=r.set (r.length - 1) (aU.mk v.ak v.bp out):=by rw[ar0]
   have oW:eH.ak=bu l v.ak out:=by rw[cw];rfl
   have nV:eH.bp=out:=by rw[cw];rfl
   rw[jY,oW,nV,gY (by simp;omega),al,bP,dW];simp only[asm];have yK:(r.set (r.length - 1) (aU.mk v.ak v.bp out)++[aU.mk (bu l v.ak out) out (-1)]).length=r.length+1:=by simp
   have qN:(r.set (r.length - 1) (aU.mk v.ak v.bp out)++[aU.mk (bu l v.ak out) out (-1)])[r.length+1 - 1]? =aqV (aU.mk (bu l v.ak out) out (-1)):=by rw[arl (by simp)];simp
   have oZ:∀m∈o,∀w,bw d (j8 l v.ak m)=aqV w->v1<=w:=by intro m hm w hw;have:=fG m hm w hw;unfold ow at this;omega
   by_cases aF:v1=0
   ·rw[if_pos (by simpa using aF)];refine .inl ⟨_,rfl,T4,by omega,⟨_,by rw[yK];exact qN, ?_,rfl, ?_⟩,by omega,fun m hm w hw=> ?_⟩
    ·have:=ev.zero eH (by rw[dW,aF]);rw[oW] at this;exact this
    ·have:eH=Place.mk (bu l v.ak out) out:=cw;rw[<-this,dW,aF]
    ·have:=oZ m hm w hw;rw[yK];omega
   ·rw[if_neg (by simpa using aF),OV N (by omega),al];have rP:v1+1<=k:=by
     rcases hinv with ⟨_,_,a⟩|⟨_,rfl,w,iM,n9,aqn⟩
     ·omega
     ·obtain ⟨_,m,tN,iK⟩:=ev.pos _ w iM n9;have:=oZ m tN _ iK;omega
    cases k with
    |zero=>omega
    |succ k=>
     have abA:eH=Place.mk (bu l v.ak out) out:=cw;have a8:=WC N bj bt ev k n (r.set (r.length - 1) (aU.mk v.ak v.bp out)++[aU.mk (bu l v.ak out) out (-1)]) (e3 l (bu l v.ak out) out) (aU.mk (bu l v.ak out) out (-1)) (by omega) T4 (by rw[yK];exact qN)
      (.inr ⟨by omega,rfl,v1,by rw[<-abA];exact dW,aF,by omega⟩) (by omega)
     rcases a8 with ⟨hv,g1,g2,g3,g4,g5,g6⟩|⟨g1,g2,_⟩
     ·refine .inl ⟨hv,g1,g2,g3,g4,g5,fun m hm w hw=> ?_⟩;obtain ⟨_,m0,tN,iK⟩:=ev.pos eH v1 dW aF;rw[oW,nV] at tN;rw[oW] at iK;have:=g6 m0 tN _ iK;have:=oZ m hm w hw;omega
     ·omega
theorem af' (N:Nat) (bj:4000<=N) {l:List aC} (bt:dV l) (fr to:Int):
  (mR N l fr to=aqV ([],2)/\(¬ft l fr\/¬ft l to\/fr=to))\/(ft l fr/\ft l to/\fr≠to/\∃d,iQ l to d/\(∀m∈cU l to,bw d (Place.mk to m)=aqV 0)/\fs l d/\
   ((mR N l fr to=aqV ([],15)/\∀m∈cU l fr,bw d (j8 l fr m)=aqY)\/(mR N l fr to=aqV ([],17)/\∃r,kM l (fun i n=>bw d (Place.mk i n)) fr r/\2<=r.length/\(∀z,r[r.length - 1]? =aqV z->bw d (Place.mk z.ak z.bp)=aqV 0/\z.out= -1)/\¬(bR r).Nodup)\/∃r,mR N l fr to=aqV (r,0)/\(kM l (fun i n=>bw d (Place.mk i n)) fr r/\∀z,r[r.length - 1]? =aqV z->bw d (Place.mk z.ak z.bp)=aqV 0/\z.out= -1)/\iG l r/\r.length<=2001/\(∀v,r[0]? =aqV v->v.ak=fr)/\(∀v,r[r.length - 1]? =aqV v->v.ak=to)/\∀m∈cU l fr,∀w,bw d (j8 l fr m)=aqV w->(r.length:Int)<=2+w)):=by
 unfold mR;rw[bt.p N (by omega),al,if_neg (by simp)];have aI:∃b,Is N l fr to=aqV b/\(b=aqZ↔ft l fr/\ft l to/\fr≠to):=by unfold Is;simp only[OW,al];exact lC uC (lC uC ⟨_,rfl,by simp⟩)
 obtain ⟨b,h1,J⟩:=aI;rw[h1,al];cases b with
 |true=>
  rw[if_pos rfl];refine .inl ⟨rfl, ?_⟩;by_cases a:ft l fr
  ·by_cases c:ft l to
   ·right;right;by_cases e:fr=to
    ·exact e
    ·have:=J.2 ⟨a,c,e⟩;cases this
   ·exact .inr (.inl c)
  ·exact .inl a
 |false=>
  rw[if_neg (by simp)];obtain ⟨t1,t2,t3⟩:=J.1 rfl;obtain ⟨d,g1,g2,g3,g4⟩:=ahk N (by omega) (to:=to) bt;rw[g1,al,GQ,al];have BA:=g2.len;have lV:=bt.len;refine .inr ⟨t1,t2,t3,d,g2,g3,g4, ?_⟩;have ah:=WC N bj bt (fr:=fr) g2 d.length N [aU.mk fr (-1) 0] (cU l fr) (aU.mk fr (-1) 0) (by omega)
   ⟨fun i v ae=>by simp at ae,fun i v ae ht=>by simp at ht,by simp,fun v ad=>by simp at ad;subst ad;exact ⟨rfl,rfl⟩,fun i v w ad hw=>by simp at hw,fun i v ae ht ad=>by simp at ht⟩ (by simp) (.inl ⟨by simp,rfl,by omega⟩) (by simp;omega)
  rcases ah with ⟨hv,cm,cw,dW,⟨z,fG,l3,lB,Vw⟩,Nh,kF⟩|⟨cm,_,aey⟩
  ·rw[cm,al];simp only[];obtain ⟨c,c1,c2⟩:=Xh N (r:=hv) (by omega) (by omega);rw[c1,al];cases c with
   |true=>right;left;rw[if_pos rfl];refine ⟨rfl,hv,cw,dW,fun y ag=> ?_,fun aB=>by have:=c2.2 aB;cases this⟩;rw[fG] at ag;cases ag;exact ⟨Vw,lB⟩
   |false=>
    right;right;rw[if_neg (by simp)];have ap7:=cM (xs:=hv) (i:=0) (by omega);have kC:∀v,hv[hv.length - 1]? =aqV v->v=z:=fun v ad=>by rw[fG] at ad;cases ad;rfl
    refine ⟨hv,rfl,⟨cw,fun y ag=>by rw[fG] at ag;cases ag;exact ⟨Vw,lB⟩⟩,⟨bt.err,⟨dW,fun v ad=> ?_,fun v ad=> ?_,fun i v w ad hw=> ?_,cw.mid⟩,c2.1 rfl⟩,Nh,fun v ad=>(cw.aO v ad).1,fun v ad=>by rw[kC v ad];exact l3,fun m hm w hw=>by have:=kF m hm w hw;simp at this;omega⟩
    ·obtain ⟨a,b⟩:=cw.aO v ad;have:=cw.step 0 v _ ad (cM (xs:=hv) (i:=1) (by omega));exact ⟨by rw[a];exact t1,b,this.2.2.2⟩
    ·rw[kC v ad,l3];exact ⟨t2,lB⟩
    ·obtain ⟨a,b,c,mq⟩:=cw.step i v w ad hw;exact ⟨a,b,c⟩
  ·rw[cm,al];exact .inl ⟨rfl,aey⟩
theorem ahp (N:Nat) (bj:4000<=N) {l:List aC} (bt:dV l) (fr to:Int):
  (mR N l fr to=aqV ([],2)/\(¬ft l fr\/¬ft l to\/fr=to))\/(ft l fr/\ft l to/\fr≠to/\
   (mR N l fr to=aqV ([],15)\/mR N l fr to=aqV ([],17)\/∃r,mR N l fr to=aqV (r,0)/\iG l r/\r.length<=2001/\(∀v,r[0]? =aqV v->v.ak=fr)/\∀v,r[r.length - 1]? =aqV v->v.ak=to)):=by
 rcases af' N bj bt fr to with h|⟨a,b,c,d,_,_,_,h⟩
 ·exact .inl h
 ·refine .inr ⟨a,b,c, ?_⟩;rcases h with ⟨h,_⟩|⟨h,_⟩|⟨r,h1,_,J,aj,aM,bq,_⟩
  ·exact .inl h
  ·exact .inr (.inl h)
  ·exact .inr (.inr ⟨r,h1,J,aj,aM,bq⟩)
end Go.W
end
section
namespace Go.W
open Go.aS
def iP (l:List aC):Nat->List aC->List Int
 |_,[]=>[]
 |i,x::xs=>if x.kind=1 then (i:Int)::iP l (i+1) xs else iP l (i+1) xs
theorem N2 (l:List aC):∀(q:List aC) (i:Nat),(iP l i q).length<=q.length
 |[],i=>by simp[iP]
 |x::q,i=>by rw[iP];have:=N2 l q (i+1);split<;>simp<;>omega
theorem N3 {l:List aC} {a:Int}:∀{q:List aC} {i:Nat},a∈iP l i q->∃(j:Nat) (x:aC),a=((i+j:Nat):Int)/\q[j]? =aqV x/\x.kind=1
 |[],i,h=>by simp[iP] at h
 |x::q,i,h=>by
  rw[iP] at h;split at h
  ·rename_i hk;rcases arb.1 h with rfl|h
   ·exact ⟨0,x,by simp,rfl,hk⟩
   ·obtain ⟨j,y,h1,J,aj⟩:=N3 h;exact ⟨j+1,y,by rw[h1];omega,by simpa using J,aj⟩
  ·obtain ⟨j,y,h1,J,aj⟩:=N3 h;exact ⟨j+1,y,by rw[h1];omega,by simpa using J,aj⟩
theorem Nl (N:Nat) {l:List aC} (ah:l.length<=1000000):∀(k n i:Nat) (q:List Int),k<n->i+k=l.length->q.length<=i->zR N l n q i=aqV (q++iP l i (l.drop i))
 |k,0,i,q,ar,_,_=>by omega
 |0,n+1,i,q,ar,ae,aJ=>by
  obtain rfl:i=l.length:=by omega
  rw[zR,if_neg (cF (by omega)),asi,iP,asA]
 |k+1,n+1,i,q,ar,ae,aJ=>by
  have aN:i<l.length:=by omega
  have aq:=cM aN;rw[zR,if_pos (cH (by omega))];unfold PI;rw[cJ aq,al,jA aq,iP];by_cases hk:l[i].kind=1
  ·rw[if_pos (by simpa using hk),if_pos hk,gY (by simp;omega),al,al,bP,dm (by omega),Nl N ah k n (i+1) _ (by omega) (by omega) (by simp;omega)];simp
  ·rw[if_neg (by simpa using hk),if_neg hk,al,bP,dm (by omega),Nl N ah k n (i+1) _ (by omega) (by omega) (by omega)]
theorem WT (N:Nat) {l:List aC} (ah:l.length<=1000000) (bj:l.length<N):D4 N l=aqV (iP l 0 l):=by
 unfold D4;have h:=Nl N ah l.length N 0 [] bj (by omega) (by simp);simp only[ast,arB,asp] at h;rw[h,al]
end Go.W
end
section
namespace Go.W
open Go.aS
theorem afh {x:aC} (h:bT x≠[]):2<=(bT x).length:=by
 unfold bT at*;split
 ·simp
 ·split
  ·simp
  ·rename_i h1 J;rw[if_neg h1,if_neg J] at h;exact absurd rfl h
theorem ahV {l:List aC} (bt:dV l) {i n:Int} (h:n∈cU l i):0<(e3 l i n).length:=by
 obtain ⟨aI,h1,x,U,ar⟩:=jC h;obtain ⟨j,rfl⟩:=arI aI;rw[ar0] at U;have J:=afh (l5 (bt.snd x (are U))).2.2.1;unfold e3 hI;rw[sm U,if_pos (by simpa using ar)];split
 ·rw[List.length_tail];omega
 ·rw[arG];omega
structure pI (l:List aC) (w:List aU) (v:aU):Prop where
 ne:1<=w.length
 last:w[w.length - 1]? =aqV v
 aO:∀v,w[0]? =aqV v->ft l v.ak/\v.bp= -1/\v.out∈cU l v.ak
 out:v.out∈cU l v.ak
 step:∀(i:Nat) v w',w[i]? =aqV v->w[i+1]? =aqV w'->w'.bp=v.out/\0<=w'.ak/\w'.ak=bu l v.ak v.out
 mid:∀(i:Nat) v,0<i->w[i]? =aqV v->v.out∈e3 l v.ak v.bp
theorem zF {au:Type} {w:List au} {y:au} {i:Nat} {x:au} (h:(w++[y])[i]? =aqV x):(i<w.length/\w[i]? =aqV x)\/(i=w.length/\x=y):=by
 by_cases ae:i<w.length
 ·rw[arm ae] at h;exact .inl ⟨ae,h⟩
 ·have:=(aq5.1 h).1;simp at this;have:i=w.length:=by omega
  subst this;simp at h;exact .inr ⟨rfl,h.symm⟩
theorem pI.ZA {l:List aC} {w:List aU} {v y:aU} (h:pI l w v) (h1:y.bp=v.out) (aI:0<=bu l v.ak v.out) (J:y.ak=bu l v.ak v.out):∀(i:Nat) a b,(w++[y])[i]? =aqV a->(w++[y])[i+1]? =aqV b->b.bp=a.out/\0<=b.ak/\b.ak=bu l a.ak a.out:=by
 intro i a b aq aa;rcases zF aa with ⟨p,q⟩|⟨p,rfl⟩
 ·rcases zF aq with ⟨r,s⟩|⟨r,_⟩
  ·exact h.step i a b s q
  ·omega
 ·rcases zF aq with ⟨r,s⟩|⟨r,_⟩
  ·have:=h.last;rw[show w.length - 1=i by omega,s] at this;cases this;exact ⟨h1,by rw[J];exact aI,J⟩
  ·omega
theorem pI.dO {l:List aC} {w:List aU} {v y:aU} (h:pI l w v):∀a,(w++[y])[0]? =aqV a->ft l a.ak/\a.bp= -1/\a.out∈cU l a.ak:=by
 intro a aq;rcases zF aq with ⟨_,q⟩|⟨p,_⟩
 ·exact h.aO a q
 ·have:=h.ne;omega
theorem pI.add {l:List aC} {w:List aU} {v:aU} {o:Int} (h:pI l w v) (aI:0<=bu l v.ak v.out) (ai:o∈e3 l (bu l v.ak v.out) v.out):pI l (w++[aU.mk (bu l v.ak v.out) v.out o]) (aU.mk (bu l v.ak v.out) v.out o) where
 ne:=by simp
 last:=by simp
 aO:=h.dO
 out:=(zt ai).2
 step:=h.ZA rfl aI rfl
 mid:=fun i a ae aq=>by
  rcases zF aq with ⟨_,q⟩|⟨_,rfl⟩
  ·exact h.mid i a ae q
  ·exact ai
theorem pI.fin {l:List aC} {w:List aU} {v:aU} (h:pI l w v) (aI:0<=bu l v.ak v.out) (ao:ft l (bu l v.ak v.out)):kr l (w++[aU.mk (bu l v.ak v.out) v.out (-1)]) where
 two:=by have:=h.ne;simp;omega
 aO:=h.dO
 hS:=fun a aq=>by simp at aq;subst aq;exact ⟨ao,rfl⟩
 step:=h.ZA rfl aI rfl
 mid:=fun i a ae ht aq=>by
  rcases zF aq with ⟨_,q⟩|⟨p,_⟩
  ·exact h.mid i a ae q
  ·simp at ht;omega
theorem aiZ {l:List aC} {i n:Int} (h:0<=bu l i n):bu l i n<l.length:=by
 rcases GL l i n with ⟨a,_⟩|⟨j,x,a,b,_⟩
 ·omega
 ·have:=(aq5.1 b).1;omega
theorem ane (N:Nat) (bj:4000<=N) {l:List aC} (bt:dV l) {c:Int} {s:en} (ay:ho c s) (ab:c<=1000000) {e n:Int} (aI:0<=e) (h1:e<l.length) {o:List Int} (ai:0<o.length):∃b b1,Ih N s l e o=aqV (b1,b)/\ho (c+1) b1/\(b=aqW->ft l e):=by
 have lV:=bt.len;obtain ⟨j,rfl⟩:=arI aI;have av:=cM (xs:=l) (i:=j) (by omega);have g0:aR o 0=aqV o[0]:=cJ (cM (xs:=o) (i:=0) ai);unfold Ih;rw[cJ av,al];by_cases hk:l[j].kind=1
 ·have ao:ft l (j:Int):=⟨by omega,_,av,hk⟩
  rw[if_pos (by simpa using hk)];obtain ⟨r,b1,c8,dR,gX,hX⟩:=l4 N (s:=s) (c:=c) 2 (by omega) (by omega) ay (by omega);rw[c8,al];by_cases an:r=0
  ·rw[if_pos (by simpa using an)];exact ⟨_,_,rfl,hX,fun _=>ao⟩
  ·rw[if_neg (by simpa using an),g0,al,al,uu N (by omega) (by omega),al];exact ⟨_,_,rfl,hX,fun _=>ao⟩
 ·rw[if_neg (by simpa using hk)];exact ⟨_,_,rfl,ay.le (by omega),fun h=>by cases h⟩
theorem WV (N:Nat) (bj:4000<=N) {l:List aC} (bt:dV l):∀(k n i:Nat) (c:Int) (s:en) (v:aU) (w:List aU),k<n->i+k=12->ho c s->c+2*k<=1000000->pI l w v->w.length=i+1->
  ∃b1 w',(sR N l n s v w i=aqV (.inl (b1,w'))\/sR N l n s v w i=aqV (.inr (b1,w')))/\ho (c+2*k) b1/\1<=w'.length/\w'.length<=13/\(kr l w'\/∀v,w'[w'.length - 1]? =aqV v->v.out≠ -1)
 |k,0,i,c,s,v,w,ar,_,_,_,_,_=>by omega
 |k,n+1,i,c,s,v,w,ar,ae,ay,ab,cc,ah=>by
  have lV:=bt.len;have stop:∀bl,w[w.length - 1]? =aqV bl->bl.out≠ -1:=fun bl mx=>by rw[cc.last] at mx;cases mx;obtain ⟨_,_,x,U,ar⟩:=jC cc.out;have:=(l5 (bt.snd x (are U))).2.1 _ ar;omega
  cases k with
  |zero=>rw[sR,if_neg (cF (by omega))];exact ⟨s,w, .inl rfl,ay.le (by omega),by omega,by omega, .inr stop⟩
  |succ k=>
   rw[sR,if_pos (cH (by omega)),uu N (by omega) (by omega),al];by_cases aI:bu l v.ak v.out<0
   ·rw[if_pos (cH aI)];exact ⟨s,w, .inl rfl,ay.le (by omega),by omega,by omega, .inr stop⟩
   ·rw[if_neg (cF aI),G3 N (by omega),al];have oT:0<=bu l v.ak v.out:=by omega
    have dQ:=ahV bt (zx oT).1;have aj:=sn l (bu l v.ak v.out) v.out;obtain ⟨b,s1,cm,cw,dW⟩:=ane N bj bt ay (by omega) oT (aiZ oT) (n:=v.out) dQ;rw[cm,al];simp only[];cases b with
    |true=>rw[if_pos rfl,gY (by simp;omega),al];exact ⟨_,_, .inr rfl,cw.le (by omega),by simp,by simp;omega, .inl (cc.fin oT (dW rfl))⟩
    |false=>rw[if_neg (by simp)];obtain ⟨r,s2,c8,dR,gX,hX⟩:=l4 N (s:=s1) (c:=c+1) ((e3 l (bu l v.ak v.out) v.out).length:Int) (by omega) (by omega) cw (by omega);obtain ⟨r,rfl⟩:=arI dR;have an:=cM (xs:=e3 l (bu l v.ak v.out) v.out) (i:=r) (by omega);rw[c8,al];simp only[];rw[cJ an,al,al,gY (by simp;omega),al,bP,dm (by omega)];have aba:=cc.add oT (are an);obtain ⟨b1,w',g1,g2,g3,g4,g5⟩:=WV N bj bt k n (i+1) (c+1+1) s2 _ _ (by omega) (by omega) hX (by omega) aba (by simp;omega);exact ⟨b1,w',g1,g2.le (by omega),g3,g4,g5⟩
theorem ahZ (N:Nat) (bj:4000<=N) {l:List aC} (bt:vm l) {c:Int} {s:en} (ay:ho c s) (ab:c<=900000):
  ∃w b1,D9 N s l=aqV (w,b1)/\ho (c+30) b1/\1<=w.length/\w.length<=13/\(kr l w\/∀v,w[w.length - 1]? =aqV v->v.out≠ -1):=by
 have lV:=bt.ok.len;unfold D9;rw[WT N (by omega) (by omega),al];have hlen:=N2 l l 0;have dQ:0<(iP l 0 l).length:=by
  obtain ⟨x,U,hk⟩:=bt.fst;cases l with
  |nil=>simp at U
  |cons y l=>simp at U;subst U;rw[iP,if_pos hk];simp
 have ade:∀a∈iP l 0 l,ft l a:=by intro a aq;obtain ⟨j,x,h1,J,aj⟩:=N3 aq;rw[arh] at h1;subst h1;exact ⟨by omega,x,by simpa using J,aj⟩
 obtain ⟨r,s1,c8,dR,gX,hX⟩:=l4 N (s:=s) (c:=c) ((iP l 0 l).length:Int) (by omega) (by omega) ay (by omega);obtain ⟨r,rfl⟩:=arI dR;have an:=cM (xs:=iP l 0 l) (i:=r) (by omega);have ao:=ade _ (are an);rw[c8,al];simp only[];rw[cJ an,al,al,sk,al];generalize (iP l 0 l)[r]'(by omega)=e at*;have aqg:0<(cU l e).length:=by obtain ⟨a,x,b,hq⟩:=ao;unfold cU;rw[if_pos a,b];simp[bT,hq]
 have aj:=lE l e;obtain ⟨q,s2,cm,cw,dW,fG⟩:=l4 N (s:=s1) (c:=c+1) ((cU l e).length:Int) (by omega) (by omega) hX (by omega);obtain ⟨q,rfl⟩:=arI cw;have aJ:=cM (xs:=cU l e) (i:=q) (by omega);rw[cm,al];simp only[];rw[cJ aJ,al,al];have hL:=are aJ;generalize (cU l e)[q]'(by omega)=o at*;have cc:pI l [aU.mk e (-1) o] (aU.mk e (-1) o):=⟨by simp,by simp,fun v ad=>by simp at ad;subst ad;exact ⟨ao,rfl,hL⟩,hL,fun i v w ad hw=>by simp at hw,fun i v ae ad=>by
  have:=(aq5.1 ad).1;simp at this;omega⟩
 obtain ⟨b1,w',g1,g2,g3,g4,g5⟩:=WV N bj bt.ok 12 N 0 (c+1+1) s2 _ _ (by omega) (by omega) fG (by omega) cc rfl;refine ⟨w',b1, ?_,g2.le (by omega),g3,g4,g5⟩;rcases g1 with g1|g1
 ·have g1:sR N l N s2 (aU.mk e (-1) o) [aU.mk e (-1) o] 0=aqV (.inl (b1,w')):=g1;rw[g1];rfl
 ·have g1:sR N l N s2 (aU.mk e (-1) o) [aU.mk e (-1) o] 0=aqV (.inr (b1,w')):=g1;rw[g1];rfl
theorem ahY (N:Nat) (bj:4000<=N) {l:List aC} (bt:dV l) {w:List aU} (hw:w.length<=3000):∃b,tl N l w=aqV b/\xS N l w=aqV b/\(b=aqW↔iG l w):=by
 have lV:=bt.len;obtain ⟨e6,c8,dR⟩:=OT N (l:=l) (r:=w) (by omega) (by omega) (by omega);obtain ⟨gj,fg,e1⟩:=OX N (l:=l) (r:=w) (by omega) (by omega) (by omega) fun _ x U=>by have h1:=(l5 (bt.snd x U)).2.2.2;unfold k3 at h1;simp only[ara,decide_eq_true_eq] at h1;omega
 have:e6=gj:=arV.2 (dR.trans e1.symm);exact ⟨e6,c8,by rw[this];exact fg,dR⟩
end Go.W
end
section
namespace Go.W
open Go.aS
abbrev hz:=List (Step×Int)
def du (d:hz) (i n:Int):Option Int:=bw d (Step.mk i n)
theorem qf (d:hz) (i n v hD n':Int):du (dA d (Step.mk i n) v) hD n'=if i=hD/\n=n' then aqV v else du d hD n':=by
 unfold du;rw[ix];by_cases h:i=hD/\n=n'
 ·obtain ⟨rfl,rfl⟩:=h;simp
 ·rw[if_neg h,if_neg (fun ax=>h (by cases ax;exact ⟨rfl,rfl⟩))]
theorem NI {au bz:Type} [DecidableEq au]:∀{m:List (au×bz)} {k:au} {v w:bz},bw m k=aqV w->(dA m k v).map asj=m.map asj
 |[],k,v,w,h=>by simp[bw] at h
 |p::m,k,v,w,h=>by
  simp only[bw] at h;split at h
  ·rename_i hk;rw[dA,if_pos hk];simp
  ·rename_i hk;rw[dA,if_neg hk];simp[NI h]
structure kN (l:List aC) (to:Int) (d:hz):Prop where
 key:∀i n v,du d i n=aqV v->n∈cU l i
 IC:∀n v,du d to n=aqV v->v=0
 pos:∀i n v,i≠to->du d i n=aqV v->0<v/\∃m∈e3 l i n,∃w,du d (bu l i m) m=aqV w/\w<v
 val:∀i n v,du d i n=aqV v->v<d.length
 keys:(d.map asj).Nodup
theorem kN.r8 {l:List aC} {to:Int} {d:hz} (h:kN l to d) {i n v:Int} (aH:du d i n=aqV v):0<=v:=by
 by_cases ae:i=to
 ·subst ae;have:=h.IC n v aH;omega
 ·have:=(h.pos i n v ae aH).1;omega
theorem kN.len {l:List aC} {to:Int} {d:hz} (h:kN l to d):d.length<=3*l.length:=by
 have hm:((d.map asj).map fun s=>Place.mk s.ak s.bp).Nodup:=by
  have hk:=h.keys;generalize d.map asj=q at hk;rw[aus,atF];exact (aus.1 hk).imp fun {a b} eF ax=>eF (by
   cases a;cases b;simp at ax⊢;exact ax)
 have h1:=sj (b:=tz l) hm fun p ap=>by obtain ⟨s,ay,rfl⟩:=arf.1 ap;obtain ⟨v,ad⟩:=uq.2 ay;exact NW (h.key s.ak s.bp v ad)
 have:=NV l;rw[arP,arP] at h1;omega
structure El (l:List aC) (d:hz) (e:Int) (q:List Int) (eH:Int) (ok:Bool):Prop where
 no:ok=aqZ->∀m∈q,du d (bu l e m) m=aqY
 yes:ok=aqW->(∃m∈q,du d (bu l e m) m=aqV eH)/\∀m∈q,∀w,du d (bu l e m) m=aqV w->eH<=w
theorem VV (N:Nat) {l:List aC} (bj:l.length+10<=N) (ah:l.length<=1000000) {d:hz} {v:aU} {o:List Int} (ai:o.length<=1000):∀(k n i:Nat) (eH:Int) (ok:Bool),k<n->i+k=o.length->El l d v.ak (o.take i) eH ok->
  ∃nP y8,xl N l d v o n eH ok i=aqV (nP,y8)/\El l d v.ak o nP y8
 |k,0,i,eH,ok,ar,_,_=>by omega
 |0,n+1,i,eH,ok,ar,ae,cc=>by
  obtain rfl:i=o.length:=by omega
  rw[xl,if_neg (cF (by omega))];rw[asM] at cc;exact ⟨_,_,rfl,cc⟩
 |k+1,n+1,i,eH,ok,ar,ae,cc=>by
  have aN:i<o.length:=by omega
  have aq:=cM aN;have gD:=mE aq;rw[xl,if_pos (cH (by omega))];have key:∃nP y8,H4 N l d v eH ok o i=aqV (nP,y8)/\El l d v.ak (o.take (i+1)) nP y8:=by
   unfold H4;simp only[cJ aq,al];rw[uu N (by omega) ah,al,bP,bP];have lj:bw d (Step.mk (bu l v.ak o[i]) o[i])=du d (bu l v.ak o[i]) o[i]:=rfl;rw[lj];cases aH:du d (bu l v.ak o[i]) o[i] with
   |none=>
    have J:DD N eH ok ((aqY:Option Int).getD 0) (aqY:Option Int).isSome=aqV aqZ:=rfl;rw[J,al,if_neg (by simp)];refine ⟨eH,ok,rfl,⟨fun aP m hm=> ?_,fun aP=>⟨?_,fun m hm w hw=> ?_⟩⟩⟩
    ·rw[gD] at hm;rcases arj.1 hm with hm|hm
     ·exact cc.no aP m hm
     ·simp at hm;subst hm;exact aH
    ·obtain ⟨⟨m,a,b⟩,_⟩:=cc.yes aP;exact ⟨m,by rw[gD];exact ate _ a,b⟩
    ·rw[gD] at hm;rcases arj.1 hm with hm|hm
     ·exact (cc.yes aP).2 m hm w hw
     ·simp at hm;subst hm;rw[aH] at hw;cases hw
   |some w=>
    have J:DD N eH ok ((aqV w:Option Int).getD 0) (aqV w:Option Int).isSome=aqV (!ok||decide (w<eH)):=by unfold DD;cases ok<;>simp
    rw[J,al];by_cases ab:(!ok||decide (w<eH))=aqW
    ·rw[if_pos ab];refine ⟨w,aqW,rfl,⟨fun aP=>(by cases aP),fun _=>⟨⟨o[i],by rw[gD];exact att _ (by simp),aH⟩,fun m hm w' gR=> ?_⟩⟩⟩;rw[gD] at hm;rcases arj.1 hm with hm|hm
     ·cases ok with
      |false=>have:=cc.no rfl m hm;rw[gR] at this;cases this
      |true=>have:=(cc.yes rfl).2 m hm w' gR;simp at ab;omega
     ·simp at hm;subst hm;rw[aH] at gR;cases gR;omega
    ·rw[if_neg ab];cases ok with
     |false=>simp at ab
     |true=>
      simp at ab;obtain ⟨⟨m,a,b⟩,aj⟩:=cc.yes rfl;refine ⟨eH,aqW,rfl,⟨fun aP=>(by cases aP),fun _=>⟨⟨m,by rw[gD];exact ate _ a,b⟩,fun m hm w' gR=> ?_⟩⟩⟩;rw[gD] at hm;rcases arj.1 hm with hm|hm
      ·exact aj m hm w' gR
      ·simp at hm;subst hm;rw[aH] at gR;cases gR;omega
  obtain ⟨nP,y8,g1,g2⟩:=key;rw[g1,al,bP,dm (by omega)];exact VV N bj ah ai k n (i+1) _ _ (by omega) (by omega) g2
theorem W8 (N:Nat) (bj:4<=N) (l:List aC) (v:aU):Ef N l v=aqV (hZ l v.ak v.bp):=by
 unfold Ef hZ;by_cases h:v.bp<0
 ·rw[if_pos (cH h),if_pos h,sk,al]
 ·rw[if_neg (cF h),if_neg h,G3 N bj,al]
theorem W7 (N:Nat) {l:List aC} (bj:l.length+10<=N) (ah:l.length<=1000000) (d:hz) (v:aU):∃eH ok,Ee N l d v=aqV (eH,ok)/\El l d v.ak (hZ l v.ak v.bp) eH ok:=by
 unfold Ee;have aj:=WI l v.ak v.bp;rw[W8 N (by omega),al];obtain ⟨eH,ok,h1,J⟩:=VV N (l:=l) (d:=d) (v:=v) bj ah (o:=hZ l v.ak v.bp) (by omega) (hZ l v.ak v.bp).length N 0 0 aqZ (by omega) (by omega) ⟨fun _ m hm=>by simp at hm,fun h=>by cases h⟩;have h1:xl N l d v (hZ l v.ak v.bp) N 0 aqZ 0=aqV (eH,ok):=h1;rw[h1,al];exact ⟨_,_,rfl,J⟩
def ub (l:List aC) (d:hz):Nat:=((tz l).map fun p=>((du d p.ak p.bp).getD 300).toNat).sum
theorem YM {au:Type} {f g:au->Nat}:∀{q:List au},(∀x∈q,g x<=f x)->(∃x∈q,g x<f x)->(q.map g).sum<(q.map f).sum
 |[],_,h=>by obtain ⟨x,U,_⟩:=h;cases U
 |y::q,h1,J=>by
  simp only[arN,List.sum_cons];have ag:=h1 y arp;have aJ:∀(q:List au),(∀x∈q,g x<=f x)->(q.map g).sum<=(q.map f).sum:=by
   intro q;induction q with
   |nil=>intro _;simp
   |cons z q a8=>intro h;simp only[arN,List.sum_cons];have:=h z arp;have:=a8 fun x U=>h x (ark _ U);omega
  obtain ⟨x,U,aN⟩:=J;rcases arb.1 U with rfl|U
  ·have:=aJ q fun x U=>h1 x (ark _ U);omega
  ·have:=YM (q:=q) (fun x U=>h1 x (ark _ U)) ⟨x,U,aN⟩;omega
theorem am9 {l:List aC} {to:Int} {d:hz} (h:kN l to d) (ah:l.length<=96):ub l d<=90000:=by
 have key:∀(q:List Place),(q.map fun p=>((du d p.ak p.bp).getD 300).toNat).sum<=300*q.length:=by
  intro q;induction q with
  |nil=>simp
  |cons p q a8=>
   simp only[arN,List.sum_cons,arw];have:((du d p.ak p.bp).getD 300).toNat<=300:=by
    cases aH:du d p.ak p.bp with
    |none=>decide
    |some v=>have:=h.val _ _ _ aH;have:=h.len;simp;omega
   omega
 have h1:=key (tz l);have J:=NV l;unfold ub;omega
theorem kN.set {l:List aC} {to:Int} {d:hz} (h:kN l to d) (ah:l.length<=96) {i n b:Int} (ae:i≠to) (ar:n∈cU l i) (aa:∃m∈e3 l i n,du d (bu l i m) m=aqV b) (ab:∀v,du d i n=aqV v->b+1<v):
  kN l to (dA d (Step.mk i n) (b+1))/\ub l (dA d (Step.mk i n) (b+1))<ub l d:=by
 obtain ⟨m,hm,fD⟩:=aa;have h4:=h.r8 fD;have hB:=h.val _ _ _ fD;have BA:=h.len;have b8:bu l i m≠i:=(zx (l:=l) (i:=i) (n:=m) (by
  have:=h.key _ _ _ fD;exact (jC this).1)).2
 have hlen:b+1<((dA d (Step.mk i n) (b+1)).length:Int)/\(d.length:Int)<=((dA d (Step.mk i n) (b+1)).length:Int)/\((dA d (Step.mk i n) (b+1)).map asj).Nodup:=by
  cases aH:bw d (Step.mk i n) with
  |none=>rw[sh aH,ar',ar1];refine ⟨by simp;omega,by simp;omega,h.keys,by simp,fun x U y ag=> ?_⟩;simp at ag;subst ag;rintro rfl;obtain ⟨w,hw⟩:=uq.2 U;rw[hw] at aH;cases aH
  |some w=>
   have e:=NI (v:=b+1) aH;have e2:(dA d (Step.mk i n) (b+1)).length=d.length:=by have:=congrArg List.length e;simpa using this
   have:=h.val i n w aH;have:=ab w aH;exact ⟨by rw[e2];omega,by rw[e2];omega,by rw[e];exact h.keys⟩
 have Fu:∀hD m' w v,du d hD m'=aqV w->w<v->∃w',du (dA d (Step.mk i n) (b+1)) hD m'=aqV w'/\w'<v:=by
  intro hD m' w v hw ad;rw[qf];by_cases ax:i=hD/\n=m'
  ·rw[if_pos ax];obtain ⟨rfl,rfl⟩:=ax;have:=ab w hw;exact ⟨_,rfl,by omega⟩
  ·rw[if_neg ax];exact ⟨w,hw,ad⟩
 refine ⟨⟨fun hD n' v aH=> ?_,fun n' v aH=> ?_,fun hD n' v dY aH=> ?_,fun hD n' v aH=> ?_,hlen.2.2⟩, ?_⟩
 ·rw[qf] at aH;split at aH
  ·rename_i ax;obtain ⟨rfl,rfl⟩:=ax;exact ar
  ·exact h.key _ _ _ aH
 ·rw[qf] at aH;split at aH
  ·rename_i ax;exact absurd ax.1 ae
  ·exact h.IC _ _ aH
 ·rw[qf] at aH;split at aH
  ·rename_i ax;obtain ⟨rfl,rfl⟩:=ax;cases aH;obtain ⟨w',cm,cw⟩:=Fu _ _ b (b+1) fD (by omega);exact ⟨by omega,m,hm,w',cm,cw⟩
  ·obtain ⟨a,m',b6,w,c,e⟩:=h.pos hD n' v dY aH;obtain ⟨w',cm,cw⟩:=Fu _ _ w v c e;exact ⟨a,m',b6,w',cm,cw⟩
 ·rw[qf] at aH;split at aH
  ·cases aH;exact hlen.1
  ·have:=h.val _ _ _ aH;omega
 ·unfold ub;refine YM (fun p _=> ?_) ⟨Place.mk i n,NW ar, ?_⟩
  ·rw[qf];split
   ·rename_i ax;obtain ⟨rfl,rfl⟩:=ax;cases aH:du d p.ak p.bp with
    |none=>simp;omega
    |some v=>have:=ab v aH;simp;omega
   ·exact aq9 _
  ·rw[qf,if_pos ⟨rfl,rfl⟩];show (b+1).toNat<((du d i n).getD 300).toNat;cases aH:du d i n with
   |none=>simp;omega
   |some v=>have:=ab v aH;simp;omega
def AZ (l:List aC) (to:Int) (d:hz) (i n:Int):Prop:=i≠to->∀m∈e3 l i n,∀w,du d (bu l i m) m=aqV w->∃x,du d i n=aqV x/\x<=w+1
def qw (l:List aC) (to:Int) (d:hz) (c:Bool) (S:hz->Prop) (cD:hz) (bQ:Bool):Prop:=
 kN l to cD/\(∀n,du cD to n=du d to n)/\((cD=d/\bQ=c/\S d)\/(bQ=aqW/\ub l cD<ub l d))
theorem qw.trans {l:List aC} {to:Int} {d d1 d2:hz} {c c1 c2:Bool} {S AY:hz->Prop} (h:qw l to d c S d1 c1) (k:qw l to d1 c1 AY d2 c2):qw l to d c (fun d=>S d/\AY d) d2 c2:=by
 obtain ⟨a,z,b⟩:=h;obtain ⟨e,y,f⟩:=k;refine ⟨e,fun n=>(y n).trans (z n), ?_⟩;rcases b with ⟨rfl,rfl,b⟩|⟨rfl,b⟩
 ·rcases f with ⟨rfl,rfl,f⟩|⟨rfl,f⟩
  ·exact .inl ⟨rfl,rfl,b,f⟩
  ·exact .inr ⟨rfl,f⟩
 ·rcases f with ⟨rfl,rfl,f⟩|⟨rfl,f⟩
  ·exact .inr ⟨rfl,b⟩
  ·exact .inr ⟨rfl,by omega⟩
theorem qw.imp {l:List aC} {to:Int} {d d1:hz} {c c1:Bool} {S AY:hz->Prop} (h:qw l to d c S d1 c1) (k:S d->AY d):qw l to d c AY d1 c1:=by
 obtain ⟨a,z,b⟩:=h;refine ⟨a,z, ?_⟩;rcases b with ⟨p,q,b⟩|b
 ·exact .inl ⟨p,q,k b⟩
 ·exact .inr b
theorem aju (N:Nat) (bj:4000<=N) {l:List aC} (ah:l.length<=96) {to:Int} {d:hz} (h:kN l to d) (c:Bool) (i:Nat) {e:List Int} (he:e=cU l (i:Int)) (ay:∀n∈e,0<=n) {k:Nat} (hk:k<e.length):
  ∃cD bQ,HG N l to d c i e k=aqV (cD,bQ)/\qw l to d c (fun d=>AZ l to d i (e[k]'hk)) cD bQ:=by
 unfold HG;by_cases ae:(i:Int)=to
 ·rw[if_pos (by simpa using ae)];exact ⟨d,c,rfl,h,fun _=>rfl, .inl ⟨rfl,rfl,fun ax=>absurd ae ax⟩⟩
 ·rw[if_neg (by simpa using ae)];have aq:=cM hk;simp only[cJ aq,al];obtain ⟨b,ok,h1,J⟩:=W7 N (l:=l) (by omega) (by omega) d (aU.mk i e[k] 0);rw[h1,al,bP,bP];simp only[] at J⊢;have hL:=are aq;have ai:hZ l i e[k]=e3 l i e[k]:=by
   unfold hZ;rw[if_neg (by have:=ay _ hL;omega)]
  rw[ai] at J;have lj:bw d (Step.mk (i:Int) e[k])=du d i e[k]:=rfl;rw[lj];cases ok with
  |false=>have bq:Dz N b aqZ ((du d i e[k]).getD 0) (du d i e[k]).isSome=aqV aqZ:=rfl;rw[bq,al,if_neg (by simp)];exact ⟨d,c,rfl,h,fun _=>rfl, .inl ⟨rfl,rfl,fun _ m hm w hw=>by rw[J.no rfl m hm] at hw;cases hw⟩⟩
  |true=>
   obtain ⟨aa,oZ⟩:=J.yes rfl;have hB:0<=b/\b<300:=by obtain ⟨m,_,hm⟩:=aa;have:=h.r8 hm;have:=h.val _ _ _ hm;have:=h.len;omega
   have hw:aq6 .i64 (b+1)=b+1:=ha (by omega) (by omega);have bq:Dz N b aqW ((du d i e[k]).getD 0) (du d i e[k]).isSome=aqV (!(du d i e[k]).isSome||decide (b+1<(du d i e[k]).getD 0)):=by unfold Dz;rw[hw];cases (du d i e[k]).isSome<;>simp
   rw[bq,al,hw,bP];by_cases ab:(!(du d i e[k]).isSome||decide (b+1<(du d i e[k]).getD 0))=aqW
   ·rw[if_pos ab];obtain ⟨g1,g2⟩:=h.set ah ae (by rw[<-he];exact hL) aa (fun v ad=>by rw[ad] at ab;simpa using ab);exact ⟨_,_,rfl,g1,fun n=>by rw[qf,if_neg (fun ax=>ae ax.1)], .inr ⟨rfl,g2⟩⟩
   ·rw[if_neg ab];refine ⟨d,c,rfl,h,fun _=>rfl, .inl ⟨rfl,rfl,fun _ m hm w hw=> ?_⟩⟩;cases aH:du d i e[k] with
    |none=>rw[aH] at ab;simp at ab
    |some x=>rw[aH] at ab;simp at ab;have:=oZ m hm w hw;exact ⟨x,rfl,by omega⟩
theorem YH (N:Nat) (bj:4000<=N) {l:List aC} (ah:l.length<=96) {to:Int} (i:Nat) {e:List Int} (he:e=cU l (i:Int)) (ay:∀n∈e,0<=n):∀(k n j:Nat) (d:hz) (c:Bool),k<n->j+k=e.length->kN l to d->
  ∃cD bQ,w8 N l to i e n d c j=aqV (cD,bQ)/\qw l to d c (fun d=>∀m∈e.drop j,AZ l to d i m) cD bQ
 |k,0,j,d,c,ar,_,_=>by omega
 |0,n+1,j,d,c,ar,av,h=>by
  obtain rfl:j=e.length:=by omega
  rw[w8,if_neg (cF (by omega)),asi];exact ⟨d,c,rfl,h,fun _=>rfl, .inl ⟨rfl,rfl,by simp⟩⟩
 |k+1,n+1,j,d,c,ar,av,h=>by
  have aN:j<e.length:=by omega
  have aj:e.length<=3:=by rw[he];exact lE l i
  rw[w8,if_pos (cH (by omega))];obtain ⟨d1,c1,g1,g2⟩:=aju N bj ah h c i he ay aN;rw[g1,al,bP,dm (by omega)];obtain ⟨d2,c2,g3,g4⟩:=YH N bj ah i he ay k n (j+1) d1 c1 (by omega) (by omega) g2.1;refine ⟨d2,c2,g3,(g2.trans g4).imp fun ax m hm=> ?_⟩;rw[jA (cM aN)] at hm;rcases arb.1 hm with rfl|hm
  ·exact ax.1
  ·exact ax.2 m hm
theorem YG (N:Nat) (bj:4000<=N) {l:List aC} (bt:dV l) {to:Int}:∀(k n i:Nat) (d:hz) (c:Bool),k<n->i+k=l.length->kN l to d->
  ∃cD bQ,w7 N l to n d c i=aqV (cD,bQ)/\qw l to d c (fun d=>∀j:Nat,i<=j->∀m∈cU l (j:Int),AZ l to d j m) cD bQ
 |k,0,i,d,c,ar,_,_=>by omega
 |0,n+1,i,d,c,ar,ae,h=>by
  obtain rfl:i=l.length:=by omega
  rw[w7,if_neg (cF (by omega))];exact ⟨d,c,rfl,h,fun _=>rfl, .inl ⟨rfl,rfl,fun j av m hm=>by have:=(jC hm).2.1;omega⟩⟩
 |k+1,n+1,i,d,c,ar,ae,h=>by
  have lV:=bt.len;rw[w7,if_pos (cH (by omega)),sk,al];have aj:=lE l (i:Int);obtain ⟨d1,c1,g1,g2⟩:=YH N bj lV (to:=to) i rfl (fun n ar=>by
   obtain ⟨_,_,x,U,hm⟩:=jC ar;exact ((l5 (bt.snd x (are U))).2.1 _ hm).1) (cU l (i:Int)).length N 0 d c (by omega) (by omega) h
  have g1:w8 N l to i (cU l (i:Int)) N d c 0=aqV (d1,c1):=g1;rw[g1,al,bP,dm (by omega)];obtain ⟨d2,c2,g3,g4⟩:=YG N bj bt k n (i+1) d1 c1 (by omega) (by omega) g2.1;refine ⟨d2,c2,g3,(g2.trans g4).imp fun ax j av m hm=> ?_⟩;by_cases iJ:j=i
  ·subst iJ;exact ax.1 m (by simpa using hm)
  ·exact ax.2 j (by omega) m hm
theorem YF (N:Nat) (bj:4000<=N) {l:List aC} (bt:dV l) {to:Int}:∀(k n:Nat) (d:hz),k+1<n->ub l d<=k->kN l to d->
  ∃cD,zS N l to n d aqW=aqV cD/\kN l to cD/\(∀n,du cD to n=du d to n)/\∀i m,m∈cU l i->AZ l to cD i m
 |k,0,d,ar,_,_=>by omega
 |k,n+1,d,ar,hk,h=>by
  have lV:=bt.len;rw[zS,if_pos rfl];obtain ⟨d1,c1,g1,g2,g3,g4⟩:=YG N bj bt (to:=to) l.length N 0 d aqZ (by omega) (by omega) h;have g1:w7 N l to N d aqZ 0=aqV (d1,c1):=g1;rw[g1,al];simp only[];rcases g4 with ⟨rfl,rfl,g4⟩|⟨rfl,g4⟩
  ·obtain ⟨n,rfl⟩:∃n',n=n'+1:=⟨n - 1,by omega⟩
   rw[zS,if_neg (by simp)];refine ⟨d1,rfl,h,fun _=>rfl,fun i m hm=> ?_⟩;obtain ⟨j,rfl⟩:=arI (jC hm).1;exact g4 j (by omega) m hm
  ·cases k with
   |zero=>omega
   |succ k=>obtain ⟨d2,cm,cw,dW,fG⟩:=YF N bj bt k n d1 (by omega) (by omega) g2;exact ⟨d2,cm,cw,fun n=>(dW n).trans (g3 n),fG⟩
theorem YE (N:Nat) {l:List aC} {to:Int} {e:List Int} (he:e=cU l to):∀(k n i:Nat) (d:hz),k<n->i+k=e.length->kN l to d->(∀i n v,du d i n=aqV v->v=0/\i=to)->(∀m∈e.take i,du d to m=aqV 0)->
  ∃cD,w6 N to e n d i=aqV cD/\kN l to cD/\∀m∈e,du cD to m=aqV 0
 |k,0,i,d,ar,_,_,_,_=>by omega
 |0,n+1,i,d,ar,ae,h,aF,ao=>by
  obtain rfl:i=e.length:=by omega
  rw[w6,if_neg (cF (by omega))];rw[asM] at ao;exact ⟨d,rfl,h,ao⟩
 |k+1,n+1,i,d,ar,ae,h,aF,ao=>by
  have aN:i<e.length:=by omega
  have aq:=cM aN;have aj:e.length<=3:=by rw[he];exact lE l to
  rw[w6,if_pos (cH (by omega))];simp only[cJ aq,al,bP];rw[dm (by omega)];have hL:e[i]∈cU l to:=by rw[<-he];exact are aq
  have kC:∀hD n' v,du (dA d (Step.mk to e[i]) 0) hD n'=aqV v->v=0/\hD=to:=fun hD n' v aH=>by
   rw[qf] at aH;split at aH
   ·rename_i ax;cases aH;exact ⟨rfl,ax.1.symm⟩
   ·exact aF _ _ _ aH
  have hlen:0<(dA d (Step.mk to e[i]) 0).length/\((dA d (Step.mk to e[i]) 0).map asj).Nodup:=by
   cases aH:bw d (Step.mk to e[i]) with
   |none=>rw[sh aH,ar',ar1];refine ⟨by simp,h.keys,by simp,fun x U y ag=> ?_⟩;simp at ag;subst ag;rintro rfl;obtain ⟨w,hw⟩:=uq.2 U;rw[hw] at aH;cases aH
   |some w=>
    have aX:=NI (v:=0) aH;have e2:(dA d (Step.mk to e[i]) 0).length=d.length:=by have:=congrArg List.length aX;simpa using this
    have:=h.val to _ w aH;have:=(aF _ _ _ aH).1;exact ⟨by omega,by rw[aX];exact h.keys⟩
  refine YE N he k n (i+1) _ (by omega) (by omega) ⟨fun hD n' v aH=> ?_,fun n' v aH=>(kC _ _ _ aH).1,fun hD n' v dY aH=>absurd (kC _ _ _ aH).2 dY,fun hD n' v aH=>by have:=(kC _ _ _ aH).1;omega,hlen.2⟩ kC fun m hm=> ?_
  ·rw[qf] at aH;split at aH
   ·rename_i ax;obtain ⟨rfl,rfl⟩:=ax;exact hL
   ·exact h.key _ _ _ aH
  ·rw[mE aq] at hm;rw[qf];split
   ·rfl
   ·rcases arj.1 hm with hm|hm
    ·exact ao m hm
    ·simp at hm;subst hm;rename_i ax;exact absurd ⟨rfl,rfl⟩ ax
structure x2 (l:List aC) (to:Int) (d:hz):Prop where
 qj:kN l to d
 zero:∀m∈cU l to,du d to m=aqV 0
 aO:∀i m,m∈cU l i->AZ l to d i m
theorem agv (N:Nat) (bj:100000<=N) {l:List aC} (bt:dV l) (to:Int):∃d,I2 N l to=aqV d/\x2 l to d:=by
 unfold I2;rw[sk,al];have aj:=lE l to;obtain ⟨d,h1,J,aM⟩:=YE N (l:=l) (to:=to) rfl (cU l to).length N 0 [] (by omega) (by omega) ⟨by simp[du,bw],by simp[du,bw],by simp[du,bw],by simp[du,bw],by simp⟩ (by simp[du,bw]) (by simp);have h1:w6 N to (cU l to) N [] 0=aqV d:=h1;rw[h1,al];have hm:=am9 J bt.len;obtain ⟨cD,g1,g2,g3,g4⟩:=YF N (by omega) bt 90000 N d (by omega) hm J;rw[g1,al];exact ⟨cD,rfl,g2,fun m hm=>by rw[g3];exact aM m hm,g4⟩
theorem x2.next {l:List aC} {to:Int} {d:hz} (h:x2 l to d) {i n v:Int} (ae:i≠to) (aH:du d i n=aqV v):∃m∈e3 l i n,du d (bu l i m) m=aqV (v - 1):=by
 obtain ⟨a,m,hm,w,hw,aN⟩:=h.qj.pos i n v ae aH;obtain ⟨x,U,oc⟩:=h.aO i n (h.qj.key _ _ _ aH) ae m hm w hw;rw[aH] at U;cases U;exact ⟨m,hm,by rw[hw];congr 1;omega⟩
end Go.W
end
section
namespace Go.W
open Go.aS
structure AU (l:List aC) (d:hz) (v:Int) (b:Int) (q:List Int) (out e:Int):Prop where
 no:e<0->∀m∈q,du d (bu l v m) m≠aqV b
 yes:0<=e->out∈q/\e=bu l v out/\du d e out=aqV b/\∀m∈q,du d (bu l v m) m=aqV b->e<bu l v m\/(e=bu l v m/\out<=m)
theorem VW (N:Nat) {l:List aC} (bj:l.length+10<=N) (ah:l.length<=1000000) {to:Int} {d:hz} (aB:kN l to d) {b:Int} {o:List Int} (ai:o.length<=1000) {ja Ai:Int}:∀(k n i:Nat) (out e:Int),k<n->i+k=o.length->AU l d ja b (o.take i) out e->
  ∃om bx,xk N l d b o n (aU.mk ja Ai out) e i=aqV (aU.mk ja Ai om,bx)/\AU l d ja b o om bx
 |k,0,i,out,e,ar,_,_=>by omega
 |0,n+1,i,out,e,ar,ae,cc=>by
  obtain rfl:i=o.length:=by omega
  rw[xk,if_neg (cF (by omega))];rw[asM] at cc;exact ⟨_,_,rfl,cc⟩
 |k+1,n+1,i,out,e,ar,ae,cc=>by
  have aN:i<o.length:=by omega
  have aq:=cM aN;have gD:=mE aq;rw[xk,if_pos (cH (by omega))];have key:∃om bx,H2 N l d (aU.mk ja Ai out) b o e i=aqV (aU.mk ja Ai om,bx)/\AU l d ja b (o.take (i+1)) om bx:=by
   unfold H2;simp only[cJ aq,al];rw[uu N (by omega) ah,al,bP,bP];have lj:bw d (Step.mk (bu l ja o[i]) o[i])=du d (bu l ja o[i]) o[i]:=rfl;rw[lj];have keep:(du d (bu l ja o[i]) o[i]=aqV b->0<=e/\(e<bu l ja o[i]\/(e=bu l ja o[i]/\out<=o[i])))->AU l d ja b (o.take (i+1)) out e:=by
    intro hk;refine ⟨fun he m hm=> ?_,fun he=> ?_⟩
    ·rw[gD] at hm;rcases arj.1 hm with hm|hm
     ·exact cc.no he m hm
     ·simp at hm;subst hm;intro ax;have:=(hk ax).1;omega
    ·obtain ⟨p,q,r,s⟩:=cc.yes he;refine ⟨by rw[gD];exact ate _ p,q,r,fun m hm fD=> ?_⟩;rw[gD] at hm;rcases arj.1 hm with hm|hm
     ·exact s m hm fD
     ·simp at hm;subst hm;exact (hk fD).2
   have Qx:du d (bu l ja o[i]) o[i]=aqV b->(0<=e->bu l ja o[i]<e\/(bu l ja o[i]=e/\o[i]<out))->AU l d ja b (o.take (i+1)) o[i] (bu l ja o[i]):=by
    intro aH hk;have aI:=(jC (aB.key _ _ _ aH)).1;refine ⟨fun he=>by omega,fun _=>⟨by rw[gD];exact att _ (by simp),rfl,aH,fun m hm fD=> ?_⟩⟩;rw[gD] at hm;rcases arj.1 hm with hm|hm
    ·by_cases he:e<0
     ·exact absurd fD (cc.no he m hm)
     ·have:=hk (by omega);obtain ⟨p,q,r,s⟩:=cc.yes (by omega);have:=s m hm fD;omega
    ·simp at hm;subst hm;omega
   cases aH:du d (bu l ja o[i]) o[i] with
   |none=>have aM:H3 N (aU.mk ja Ai out) b o e i (bu l ja o[i]) ((aqY:Option Int).getD 0) (aqY:Option Int).isSome=aqV aqZ:=rfl;rw[aM,al,if_neg (by simp)];exact ⟨out,e,rfl,keep fun ax=>by rw[aH] at ax;cases ax⟩
   |some w=>
    unfold H3;simp only[aud,asm,if_true,cJ aq,al];by_cases hw:w=b
    ·subst hw;rw[if_pos (by simp)];by_cases he:e<0
     ·rw[if_pos (cH he),al,if_pos rfl];exact ⟨_,_,rfl,Qx aH fun ax=>by omega⟩
     ·rw[if_neg (cF he)];by_cases h1:bu l ja o[i]<e
      ·rw[if_pos (cH h1),al,if_pos rfl];exact ⟨_,_,rfl,Qx aH fun ax=> .inl h1⟩
      ·rw[if_neg (cF h1)];by_cases J:bu l ja o[i]=e
       ·rw[if_pos (by simpa using J),al];by_cases aj:o[i]<out
        ·rw[if_pos (cH aj)];exact ⟨_,_,rfl,Qx aH fun ax=> .inr ⟨J,aj⟩⟩
        ·rw[if_neg (cF aj)];exact ⟨_,_,rfl,keep fun ax=>⟨by omega, .inr ⟨J.symm,by omega⟩⟩⟩
       ·rw[if_neg (by simpa using J),al,if_neg (by simp)];exact ⟨_,_,rfl,keep fun ax=>⟨by omega, .inl (by omega)⟩⟩
    ·rw[if_neg (by simpa using hw),al,if_neg (by simp)];exact ⟨_,_,rfl,keep fun ax=>by rw[aH] at ax;cases ax;exact absurd rfl hw⟩
  obtain ⟨om,bx,g1,g2⟩:=key;rw[g1,al,bP,dm (by omega)];exact VW N bj ah aB ai k n (i+1) _ _ (by omega) (by omega) g2
theorem agF {au:Type} (r:List au) (a b:au):(r++[a]).set r.length b=r++[b]:=by
 induction r with
 |nil=>rfl
 |cons x r a8=>simp[a8]
theorem VU (N:Nat) (bj:100000<=N) {l:List aC} (bt:dV l) {d:hz} {fr to:Int} (ev:x2 l to d):∀(k n:Nat) (r:List aU) (v:aU),k<n->
  kM l (du d) fr (r++[aU.mk v.ak v.bp (-1)])->(bR r).Nodup->(r≠[]->du d v.ak v.bp=aqV (k:Int))->(∀m∈hZ l v.ak v.bp,∀w,du d (bu l v.ak m) m=aqV w->(k:Int) - 1<=w)->r.length+k<=1000->(hZ l v.ak v.bp=cU l v.ak\/hZ l v.ak v.bp=e3 l v.ak v.bp/\r≠[])->(r=[]->hZ l v.ak v.bp=cU l v.ak)->
  ((∃m∈hZ l v.ak v.bp,du d (bu l v.ak m) m=aqV ((k:Int) - 1))\/(k=0/\v.ak=to))->
  (xj N l d n v ((k:Int) - 1) r=aqV (.inr 17)/\∃oy,kM l (du d) fr oy/\¬(bR oy).Nodup)\/∃hv bl,xj N l d n v ((k:Int) - 1) r=aqV (.inl (bl,hv))/\kM l (du d) fr (hv++[aU.mk bl.ak bl.bp (-1)])/\(bR hv).Nodup/\hv.length=r.length+k/\bl.ak=to/\(hv≠[]->du d bl.ak bl.bp=aqV 0)
 |k,0,r,v,ar,_,_,_,_,_,_,_,_=>by omega
 |0,n+1,r,v,ar,ap,aB,ad,Uv,ah,ai,acA,aH=>by
  rw[xj,if_neg (oh (by omega))];refine .inr ⟨r,v,rfl,ap,aB,rfl, ?_,ad⟩;rcases aH with ⟨m,hm,aH⟩|⟨_,aH⟩
  ·have:=ev.qj.r8 aH;omega
  ·exact aH
 |k+1,n+1,r,v,ar,ap,aB,ad,Uv,ah,ai,acA,aH=>by
  have lV:=bt.len;have aj:=WI l v.ak v.bp;rw[xj,if_pos (nq (by omega)),W8 N (by omega),al];obtain ⟨out,e,g1,g2⟩:=VW N (l:=l) (by omega) (by omega) ev.qj (b:=((k+1:Nat):Int) - 1) (o:=hZ l v.ak v.bp) (by omega) (ja:=v.ak) (Ai:=v.bp) (hZ l v.ak v.bp).length N 0 (-1) (-1) (by omega) (by omega) ⟨fun _ m hm=>by simp at hm,fun h=>by omega⟩;have g1:xk N l d (((k+1:Nat):Int) - 1) (hZ l v.ak v.bp) N (aU.mk v.ak v.bp (-1)) (-1) 0=aqV (aU.mk v.ak v.bp out,e):=g1;simp only[];rw[g1,al];simp only[];rw[ur N (by omega) (by omega),al];by_cases ab:(bR r).contains v.ak=aqW
  ·rw[if_pos ab];refine .inl ⟨rfl,_,ap,fun ax=> ?_⟩;unfold bR at ax ab;rw[ar',ar1] at ax;exact ax.2.2 v.ak (by simpa using ab) v.ak (by simp) rfl
  ·rw[if_neg ab,gY (by simp;omega),al,bP,ha (by omega) (by omega)];have aH:∃m∈hZ l v.ak v.bp,du d (bu l v.ak m) m=aqV (((k+1:Nat):Int) - 1):=by
    rcases aH with aH|⟨aH,_⟩
    ·exact aH
    ·omega
   have rO:0<=e:=by
    by_cases h:e<0
    ·obtain ⟨m,hm,iK⟩:=aH;exact absurd iK (g2.no h m hm)
    ·omega
   obtain ⟨cm,cw,dW,fG⟩:=g2.yes rO;have fC:=ev.qj.key _ _ _ dW;have lX:out∈cU l v.ak:=by
    rcases ai with h|⟨h,_⟩
    ·rw[h] at cm;exact cm
    ·rw[h] at cm;exact (zt cm).2
   have qN:(r++[aU.mk v.ak v.bp (-1)])[(r++[aU.mk v.ak v.bp (-1)]).length - 1]? =aqV (aU.mk v.ak v.bp (-1)):=by simp
   have mw:=ap.add qN (out:=out) (by rw[cw] at rO;exact rO) lX (fun ax=>by
    have b8:r≠[]:=by rintro rfl;simp at ax
    rcases ai with h|⟨h,_⟩
    ·by_cases ae:v.bp<0
     ·exfalso;obtain ⟨j,av⟩:∃j,r.length=j+1:=⟨r.length - 1,by have:=List.length_pos_iff.2 b8;omega⟩
      have c0:(r++[aU.mk v.ak v.bp (-1)])[j+1]? =aqV (aU.mk v.ak v.bp (-1)):=by rw[arl (by omega)];simp[av]
      have a0:=cM (xs:=r++[aU.mk v.ak v.bp (-1)]) (i:=j) (by simp;omega);obtain ⟨e6,gj,mV,qA⟩:=ap.step j _ _ a0 c0;obtain ⟨_,_,x,U,hm⟩:=jC qA;have:=((l5 (bt.snd x (are U))).2.1 _ hm).1;simp only at e6;omega
     ·unfold hZ at cm;rw[if_neg ae] at cm;exact cm
    ·rw[h] at cm;exact cm) ⟨cm,((k+1:Nat):Int) - 1,by rw[<-cw];exact dW,fun m hm w hw=>by
    have h1:=Uv m hm w hw;unfold ow;by_cases adq:w=((k+1:Nat):Int) - 1
    ·have:=fG m hm (by rw[hw,adq]);rw[<-cw];simp only at this⊢;omega
    ·rw[<-cw];simp only at h1⊢;omega⟩ (fun ax=>by
    have b8:r≠[]:=by rintro rfl;simp at ax
    rw[show (aU.mk v.ak v.bp (-1)).ak=v.ak from rfl,ad b8];intro mr;have:=arr.inj mr;omega)
   have ach:(r++[aU.mk v.ak v.bp (-1)]).length - 1=r.length:=by simp
   rw[ach,agF] at mw;simp only at mw;rw[<-cw] at mw;have ab5:¬out<0:=by obtain ⟨_,_,x,U,hm⟩:=jC fC;have:=((l5 (bt.snd x (are U))).2.1 _ hm).1;omega
   have iq:hZ l e out=e3 l e out:=by unfold hZ;rw[if_neg ab5]
   have rP:(((k+1:Nat):Int) - 1 - 1)=(k:Int) - 1:=by omega
   rw[rP];have a8:=VU N bj bt ev k n (r++[aU.mk v.ak v.bp out]) (aU.mk e out 0) (by omega) mw (by
    unfold bR at aB ab⊢;rw[ar',ar1];refine ⟨aB,by simp,fun x U y ag=> ?_⟩;simp at ag;subst ag;rintro rfl;exact ab (by simpa using U)) (fun _=>by
    show du d e out=aqV (k:Int);rw[dW];congr 1;omega) (fun m hm w hw=>by
    have hm:m∈e3 l e out:=by rw[<-iq];exact hm
    by_cases he:e=to
    ·subst he;have h1:=ev.qj.IC _ _ dW;have J:=ev.qj.r8 hw;omega
    ·obtain ⟨x,U,oc⟩:=ev.aO e out fC he m hm w hw;rw[dW] at U;cases U;omega) (by simp;omega) (.inr ⟨iq,by simp⟩) (fun ax=>by simp at ax) (by
    by_cases he:e=to
    ·right;subst he;have:=ev.qj.IC _ _ dW;exact ⟨by omega,rfl⟩
    ·left;obtain ⟨m,hm,iK⟩:=ev.next he dW;refine ⟨m,by rw[iq];exact hm, ?_⟩;rw[iK];exact congrArg aqV (by omega))
   rcases a8 with a8|⟨hv,bl,i1,i2,i3,i4,i5,i6⟩
   ·exact .inl a8
   ·exact .inr ⟨hv,bl,i1,i2,i3,by rw[i4];simp;omega,i5,i6⟩
theorem V2 {l:List aC} {to:Int} {d:hz} (ev:x2 l to d) {w:List aU} (ct:kr l w) (he:∀v,w[w.length - 1]? =aqV v->v.ak=to):
  ∀(k i:Nat) (v:aU),i+k=w.length - 1->1<=i->w[i]? =aqV v->∃x,du d v.ak v.bp=aqV x/\x<=k
 |0,i,v,ae,h1,ad=>by
  have dY:i=w.length - 1:=by omega
  have h5:=he v (by rw[<-dY];exact ad);have fC:=ct.ins (by omega) ad;rw[h5] at fC;exact ⟨0,by rw[h5];exact ev.zero _ fC,by omega⟩
 |k+1,i,v,ae,h1,ad=>by
  have adf:=ct.two;have fC:=ct.ins (by omega) ad;by_cases h5:v.ak=to
  ·rw[h5] at fC;exact ⟨0,by rw[h5];exact ev.zero _ fC,by omega⟩
  ·have hu:=cM (xs:=w) (i:=i+1) (by omega);obtain ⟨x,U,oc⟩:=V2 ev ct he k (i+1) _ (by omega) (by omega) hu;obtain ⟨a,b,c⟩:=ct.step i v _ ad hu;rw[c,a] at U;obtain ⟨y,ag,yV⟩:=ev.aO v.ak v.bp fC h5 v.out (ct.mid i v (by omega) (by omega) ad) x U;exact ⟨y,ag,by omega⟩
theorem age (N:Nat) (bj:100000<=N) {l:List aC} (bt:dV l) (fr to:Int):
  (nH N l fr to=aqV ([],2)/\(¬ft l fr\/¬ft l to\/fr=to))\/(ft l fr/\ft l to/\fr≠to/\
   ∃d,x2 l to d/\((nH N l fr to=aqV ([],15)/\∀m∈cU l fr,du d (bu l fr m) m=aqY)\/(nH N l fr to=aqV ([],17)/\∃oy,kM l (du d) fr oy/\¬(bR oy).Nodup/\∃m∈cU l fr,du d (bu l fr m) m≠aqY)\/∃r,nH N l fr to=aqV (r,0)/\(kM l (du d) fr r/\∀z,r[r.length - 1]? =aqV z->du d z.ak z.bp=aqV 0/\z.out= -1)/\iG l r/\r.length<=2000/\(∀v,r[0]? =aqV v->v.ak=fr)/\(∀v,r[r.length - 1]? =aqV v->v.ak=to)/\
    ∀w,kr l w->(∀v,w[0]? =aqV v->v.ak=fr)->(∀v,w[w.length - 1]? =aqV v->v.ak=to)->r.length<=w.length)):=by
 unfold nH;rw[bt.r N (by omega),al,if_neg (by simp)];have aI:∃b,H0 N l fr to=aqV b/\(b=aqZ↔ft l fr/\ft l to/\fr≠to):=by unfold H0;simp only[Yd,al];exact lC uC (lC uC ⟨_,rfl,by simp⟩)
 obtain ⟨b,h1,J⟩:=aI;rw[h1,al];cases b with
 |true=>
  rw[if_pos rfl];refine .inl ⟨rfl, ?_⟩;by_cases a:ft l fr
  ·by_cases c:ft l to
   ·right;right;by_cases e:fr=to
    ·exact e
    ·have:=J.2 ⟨a,c,e⟩;cases this
   ·exact .inr (.inl c)
  ·exact .inl a
 |false=>
  rw[if_neg (by simp)];obtain ⟨t1,t2,t3⟩:=J.1 rfl;obtain ⟨d,g1,g2⟩:=agv N bj bt to;have lV:=bt.len;have BA:=g2.qj.len;obtain ⟨b,ok,cm,cw⟩:=W7 N (l:=l) (by omega) (by omega) d (aU.mk fr (-1) 0);rw[g1,al,cm,al];simp only[] at cw⊢;refine .inr ⟨t1,t2,t3,d,g2, ?_⟩;have ai:hZ l fr (-1)=cU l fr:=by unfold hZ;rw[if_pos (by omega)]
  rw[ai] at cw;cases ok with
  |false=>exact .inl ⟨if_pos rfl,cw.no rfl⟩
  |true=>
   right;rw[if_neg (by simp)];obtain ⟨aa,oZ⟩:=cw.yes rfl;have h4:0<=b/\b<300:=by obtain ⟨m,_,hm⟩:=aa;have:=g2.qj.r8 hm;have:=g2.qj.val _ _ _ hm;omega
   obtain ⟨k,hk⟩:=arI (show 0<=b+1 by omega);have vF:b=(k:Int) - 1:=by omega
   have ah:=VU N bj bt g2 (fr:=fr) k N [] (aU.mk fr (-1) 0) (by omega)
    ⟨fun i v ae=>by simp at ae,fun i v ae ht=>by simp at ht,by simp,fun v ad=>by simp at ad;subst ad;exact ⟨rfl,rfl⟩,fun i v w ad hw=>by simp at hw,fun i v ae ht ad=>by simp at ht⟩ (by simp[bR]) (fun h=>absurd rfl h) (fun m hm w hw=>by rw[<-vF];exact oZ m (by rw[<-ai];exact hm) w hw) (by simp;omega) (.inl ai) (fun _=>ai) (.inl (by rw[<-vF];simp only[];rw[ai];exact aa))
   rw[vF];have hex:∃m∈cU l fr,du d (bu l fr m) m≠aqY:=by obtain ⟨m,hm,iK⟩:=aa;exact ⟨m,hm,by rw[iK];simp⟩
   rcases ah with ⟨ah,oy,c8,dR⟩|⟨hv,bl,i1,i2,i3,i4,i5,i6⟩
   ·rw[ah,al];exact .inl ⟨rfl,oy,c8,dR,hex⟩
   ·rw[i1,al];simp only[];have hlen:hv.length=k:=by rw[i4];simp
    rw[ur N (by omega) (by omega),al];by_cases ab:(bR hv).contains to=aqW
    ·rw[if_pos ab];refine .inl ⟨rfl,_,i2,fun ax=> ?_,hex⟩;unfold bR at ax ab;rw[ar',ar1] at ax;exact ax.2.2 to (by simpa using ab) to (by simp[i5]) rfl
    ·rw[if_neg ab,gY (by simp;omega),al];right;have he:aU.mk bl.ak bl.bp (-1)=aU.mk to bl.bp (-1):=by rw[i5]
     rw[he] at i2;have rP:1<=k:=by omega
     have aF:∀v,(hv++[aU.mk to bl.bp (-1)])[(hv++[aU.mk to bl.bp (-1)]).length - 1]? =aqV v->v=aU.mk to bl.bp (-1):=fun v ad=>by simp at ad;exact ad.symm
     refine ⟨_,rfl,⟨i2,fun y ag=>by
      rw[aF y ag];refine ⟨?_,rfl⟩;have dv:=i6 (by rintro rfl;simp at hlen;omega);rw[i5] at dv;exact dv⟩,⟨bt.err,⟨by simp;omega,fun v ad=> ?_,fun v ad=> ?_,fun i v w ad hw=> ?_,i2.mid⟩, ?_⟩,by simp;omega,fun v ad=>(i2.aO v ad).1,fun v ad=>by rw[aF v ad],fun w ct aP he=> ?_⟩
     ·obtain ⟨a,kQ⟩:=i2.aO v ad;have:=i2.step 0 v _ ad (cM (xs:=hv++[aU.mk to bl.bp (-1)]) (i:=1) (by simp;omega));exact ⟨by rw[a];exact t1,kQ,this.2.2.2⟩
     ·rw[aF v ad];exact ⟨t2,rfl⟩
     ·obtain ⟨a,kQ,c,mq⟩:=i2.step i v w ad hw;exact ⟨a,kQ,c⟩
     ·unfold bR at i3 ab⊢;rw[ar',ar1];refine ⟨i3,by simp,fun x U y ag=> ?_⟩;simp at ag;subst ag;rintro rfl;exact ab (by simpa using U)
     ·have adf:=ct.two;have de:=cM (xs:=w) (i:=0) (by omega);have cO:=cM (xs:=w) (i:=1) (by omega);obtain ⟨x,U,oc⟩:=V2 g2 ct he (w.length - 2) 1 _ (by omega) (by omega) cO;obtain ⟨p,q,xv⟩:=ct.step 0 _ _ de cO;have km:=(ct.aO _ de).2.2;rw[aP _ de] at km;rw[xv,p,aP _ de] at U;have:=oZ _ km x U;simp;omega
theorem agz (N:Nat) (bj:100000<=N) {l:List aC} (bt:dV l) (fr to:Int):
  (nH N l fr to=aqV ([],2)/\(¬ft l fr\/¬ft l to\/fr=to))\/(ft l fr/\ft l to/\fr≠to/\
   (nH N l fr to=aqV ([],15)\/nH N l fr to=aqV ([],17)\/∃r,nH N l fr to=aqV (r,0)/\iG l r/\r.length<=2000/\(∀v,r[0]? =aqV v->v.ak=fr)/\(∀v,r[r.length - 1]? =aqV v->v.ak=to)/\
    ∀w,kr l w->(∀v,w[0]? =aqV v->v.ak=fr)->(∀v,w[w.length - 1]? =aqV v->v.ak=to)->r.length<=w.length)):=by
 rcases age N bj bt fr to with h|⟨a,b,c,d,_,h⟩
 ·exact .inl h
 ·refine .inr ⟨a,b,c, ?_⟩;rcases h with ⟨h,_⟩|⟨h,_⟩|⟨r,h1,_,J⟩
  ·exact .inl h
  ·exact .inr (.inl h)
  ·exact .inr (.inr ⟨r,h1,J⟩)
end Go.W
end
section
namespace Go.W
open Go.aS
def s9 (x:aC) (v:aU):List aW:=
 if x.kind=3 then [aW.mk v.ak 3] else if x.kind=2 then (if v.bp=x.b\/v.out=x.b then [aW.mk v.ak 1] else [aW.mk v.ak 2]) else []
def pw (l:List aC) (v:aU):List aW:=match l[v.ak.toNat]? with|some x=>s9 x v|none=>[]
def h8 (l:List aC) (r:List aU):List aW:=r.flatMap (pw l)
theorem agD (x:aC) (v:aU):(s9 x v).length<=1:=by
 unfold s9;split
 ·simp
 ·split
  ·split<;>simp
  ·simp
theorem O2 {l:List aC} {v:aU} {s:aW} (h:s∈pw l v):s.ak=v.ak:=by
 unfold pw at h;split at h
 ·unfold s9 at h;split at h
  ·simp at h;subst h;rfl
  ·split at h
   ·split at h<;>(simp at h;subst h;rfl)
   ·simp at h
 ·simp at h
theorem Of (l:List aC) (v:aU):(pw l v).length<=1:=by
 unfold pw;split
 ·exact agD _ _
 ·simp
theorem Nt (l:List aC):∀(r:List aU),(h8 l r).length<=r.length
 |[]=>by simp[h8]
 |v::r=>by have:=Nt l r;have h1:=Of l v;unfold h8 at*;rw[asn,aro,arw];omega
theorem amP (N:Nat) {l:List aC} {r:List aU} {i:Nat} {v:aU} (ad:r[i]? =aqV v) (aI:0<=v.ak) (h1:v.ak<l.length) {acc:List aW} (aq:acc.length<=1000000):HF N l acc r i=aqV (acc++pw l v):=by
 obtain ⟨j,av⟩:=arI aI;have gA:=cM (xs:=l) (i:=j) (by omega);unfold HF pw;have aH:aR l v.ak=aqV (l[j]'(by omega)):=by rw[av];exact cJ gA
 have qM:l[v.ak.toNat]? =aqV (l[j]'(by omega)):=by rw[av,ar0];exact gA
 rw[cJ ad,al,aH,al,bP,qM];generalize l[j]'(by omega)=x at*;simp only[];unfold s9;by_cases aj:x.kind=3
 ·rw[if_pos (by simpa using aj),if_pos aj,gY (by simp;omega),al]
 ·rw[if_neg (by simpa using aj),if_neg aj];by_cases J:x.kind=2
  ·have vX:zQ N v x=aqV (decide (v.bp=x.b\/v.out=x.b)):=by
    unfold zQ;rw[if_pos (by simpa using J)];by_cases a:v.bp=x.b
    ·rw[if_pos (by simpa using a)];simp[a]
    ·rw[if_neg (by simpa using a),bP];congr 1;exact arV.2 (by simp[a])
   rw[vX,al,if_pos J];by_cases aa:v.bp=x.b\/v.out=x.b
   ·rw[if_pos (by simpa using aa),if_pos aa,gY (by simp;omega),al]
   ·rw[if_neg (by simpa using aa),if_neg aa,bP,if_pos (by simpa using J),gY (by simp;omega),al]
  ·have vX:zQ N v x=aqV aqZ:=by
    unfold zQ;rw[if_neg (by simpa using J)]
   rw[vX,al,if_neg (by simp),bP,if_neg (by simpa using J),if_neg J,asA]
theorem WN (N:Nat) {l:List aC} {r:List aU} (an:∀v∈r,0<=v.ak/\v.ak<l.length) (ah:r.length<=100000):∀(k n i:Nat) (acc:List aW),k<n->i+k=r.length->acc.length<=i->rb N l r r.length n acc i=aqV (acc++h8 l (r.drop i))
 |k,0,i,acc,ar,_,_=>by omega
 |0,n+1,i,acc,ar,ae,aq=>by
  obtain rfl:i=r.length:=by omega
  rw[rb,if_neg (cF (by omega)),asi];simp[h8]
 |k+1,n+1,i,acc,ar,ae,aq=>by
  have aN:i<r.length:=by omega
  have ad:=cM aN;obtain ⟨aI,h1⟩:=an _ (are ad);have J:=Of l r[i];rw[rb,if_pos (cH (by omega)),amP N ad aI h1 (by omega),al,dm (by omega),WN N an ah k n (i+1) _ (by omega) (by omega) (by simp;omega),jA ad];unfold h8;rw[asn,asT]
theorem kr.ok {l:List aC} {r:List aU} (h:kr l r):∀v∈r,0<=v.ak/\v.ak<l.length:=by
 intro v ad;obtain ⟨i,ae⟩:=arS ad;have aN:=(aq5.1 ae).1;have two:=h.two;by_cases aI:i+1<r.length
 ·have:=jC (h.outs aI ae);exact ⟨this.1,this.2.1⟩
 ·have:=jC (h.ins (by omega) ae);exact ⟨this.1,this.2.1⟩
instance instSet:Inhabited aW:=⟨aW.mk 0 0⟩
noncomputable def lG (q:List aW):List aW:= @gL aW instSet (fun (a b:aW)=>fW a.ak b.ak) q
theorem Wc (N:Nat) (bj:4000<=N) {l:List aC} (bt:dV l) {r:List aU} (an:iG l r) (ah:r.length<=3000):th N l r=aqV (lG (h8 l r),0):=by
 obtain ⟨b,h1,_,aj⟩:=ahY N bj bt (w:=r) ah;unfold th;rw[h1,al,aj.2 an,if_neg (by simp)];have h:=WN N (l:=l) (r:=r) an.2.1.ok (by omega) r.length N 0 [] (by omega) (by omega) (by simp);have h:rb N l r r.length N [] 0=aqV (h8 l r):=h;have:=Nt l r;rw[h,al];unfold kn;rw[if_pos (by omega),al];rfl
theorem Cw {q:List aW} {x:aW}:x∈lG q↔x∈q:=(@zj aW instSet (fun (a b:aW)=>fW a.ak b.ak) (q3 aW.ak) q).mem_iff
theorem V6 (q:List aW):(lG q).length=q.length:=(@zj aW instSet (fun (a b:aW)=>fW a.ak b.ak) (q3 aW.ak) q).length_eq
theorem zi {q:List aW} (h:(q.map aW.ak).Nodup):(lG q).Pairwise fun a b=>a.ak<b.ak:=by
 have h1:(lG q).Pairwise fun a b=>a.ak<=b.ak:= @Nk aW instSet aW.ak q;have ap:(lG q).Perm q:= @zj aW instSet (fun (a b:aW)=>fW a.ak b.ak) (q3 aW.ak) q;have J:((lG q).map aW.ak).Nodup:=(ap.map aW.ak).nodup_iff.2 h;rw[aus,atF] at J;exact (h1.and J).imp fun ⟨a,b⟩=>by omega
theorem Gi:∀{a b:List aW},a.Pairwise (fun x y=>x.ak<y.ak)->b.Pairwise (fun x y=>x.ak<y.ak)->(∀x,x∈a↔x∈b)->a=b
 |[],[],_,_,_=>rfl
 |[],y::b,_,_,h=>by have:=(h y).2 arp;cases this
 |x::a,[],_,_,h=>by have:=(h x).1 arp;cases this
 |x::a,y::b,h1,J,h=>by
  rw[aue] at h1 J;have lu:x=y:=by
   rcases arb.1 ((h x).1 arp) with e|e
   ·exact e
   ·rcases arb.1 ((h y).2 arp) with f|f
    ·exact f.symm
    ·have:=J.1 _ e;have:=h1.1 _ f;omega
  subst lu;congr 1;refine Gi h1.2 J.2 fun z=>⟨fun aF=> ?_,fun aF=> ?_⟩
  ·rcases arb.1 ((h z).1 (ark _ aF)) with e|e
   ·have:=h1.1 _ aF;rw[e] at this;omega
   ·exact e
  ·rcases arb.1 ((h z).2 (ark _ aF)) with e|e
   ·have:=J.1 _ aF;rw[e] at this;omega
   ·exact e
theorem Gk (l:List aC):∀(r:List aU),((h8 l r).map aW.ak).Sublist (bR r)
 |[]=>by simp[h8,bR]
 |v::r=>by
  have a8:=Gk l r;have h1:=Of l v;have J:=fun s=>O2 (l:=l) (v:=v) (s:=s);unfold h8 bR at*;rw[asn,ar',arN];generalize pw l v=q at*
  match q,h1 with
  |[],_=>exact (List.Sublist.cons _ a8)
  |[s],_=>have:=J s (by simp);simp only[arN,List.map_nil,List.cons_append,asp];rw[this];exact List.Sublist.cons_cons _ a8
end Go.W
end
section
namespace Go.W
open Go.aS
theorem Ob (N:Nat) {s:List aW} {x:aW} (ah:s.length<=100000):∀(k n:Nat),k<n->k<=s.length->(∀(j:Nat) y,k<=j->s[j]? =aqV y->x.ak<=y.ak)->
  ∃i:Nat,zZ N s x n k=aqV (i:Int)/\i<=s.length/\(∀(j:Nat) y,i<=j->s[j]? =aqV y->x.ak<=y.ak)/\(∀y,0<i->s[i - 1]? =aqV y->y.ak<x.ak)
 |k,0,ar,_,_=>by omega
 |0,n+1,ar,hk,aH=>by
  rw[zZ];have h1:z1 N s x ((0:Nat):Int)=aqV aqZ:=by unfold z1;rw[if_neg (cF (by omega))]
  rw[h1,al,if_neg (by simp)];exact ⟨0,rfl,by omega,aH,fun y h=>by omega⟩
 |k+1,n+1,ar,hk,aH=>by
  have ad:=cM (xs:=s) (i:=k) (by omega);rw[zZ];have h1:z1 N s x ((k+1:Nat):Int)=aqV (decide (x.ak<=s[k].ak)):=by unfold z1;rw[if_pos (cH (by omega)),ZJ (by omega),cJ ad,al]
  rw[h1,al];by_cases ab:x.ak<=s[k].ak
  ·rw[if_pos (nq ab),bP,ZJ (by omega)];refine Ob N ah k n (by omega) (by omega) fun j y av ag=> ?_;by_cases Un:j=k
   ·subst Un;rw[ad] at ag;cases ag;exact ab
   ·exact aH j y (by omega) ag
  ·rw[if_neg (oh ab)];refine ⟨k+1,rfl,hk,aH,fun y _ ag=> ?_⟩;rw[Nat.add_sub_cancel,ad] at ag;cases ag;omega
theorem Pe (N:Nat) {s:List aW} {x:aW} (ah:s.length<=100000) (bj:s.length<N) (ay:s.Pairwise fun a b=>a.ak<b.ak) (U:∀y∈s,y.ak≠x.ak):
  ∃b1,rn N s x=aqV b1/\(b1.Pairwise fun a b=>a.ak<b.ak)/\(∀y,y∈b1↔y=x\/y∈s)/\b1.length=s.length+1:=by
 obtain ⟨i,h1,J,aj,aM⟩:=Ob N (s:=s) (x:=x) ah s.length N bj (aq9 _) (fun j y av ag=>by
  have:=(aq5.1 ag).1;omega)
 unfold rn;rw[bP,h1,al];have o1:zL N s x i=aqV aqZ:=by
  unfold zL;by_cases ae:i<s.length
  ·have ad:=cM ae;rw[if_pos (cH (by omega)),cJ ad,al];congr 1;simpa using U _ (are ad)
  ·rw[if_neg (cF (by omega))]
 rw[o1,al,if_neg (by simp)];have yv:uL s (i:Int) (i:Int)=aqV (s.take i):=by unfold uL;rw[if_pos ⟨by omega,by omega,by omega,rfl⟩,ar0]
 rw[yv,al,wH J,al,gY (by rw[asa];simp;omega),al,if_neg (by simp),gY (by rw[arG];simp;omega),al];have pR:∀y∈s.take i,y.ak<x.ak:=by
  intro y ag;obtain ⟨j,av⟩:=arS ag;rw[arK] at av;split at av
  ·rename_i iJ;have hg:=cM (xs:=s) (i:=i - 1) (by omega);have aa:=aM _ (by omega) hg;by_cases BL:j=i - 1
   ·rw[BL,hg] at av;cases av;exact aa
   ·obtain ⟨gA,av⟩:=aq5.1 av;have:=arT.1 ay j (i - 1) gA (by omega) (by omega);rw[av] at this;omega
  ·cases av
 have Uk:∀y∈s.drop i,x.ak<y.ak:=by intro y ag;obtain ⟨j,av⟩:=arS ag;rw[ar6] at av;have:=aj (i+j) y (by omega) av;have:=U y (are av);omega
 refine ⟨_,rfl, ?_,fun y=> ?_,by simp;omega⟩
 ·rw[auq];refine ⟨ay.sublist (ats _ _), ?_,fun a aq b aa=> ?_⟩
  ·rw[atQ,aue];exact ⟨Uk,ay.sublist (aut _ _)⟩
  ·have bq:=pR a aq;rw[atQ] at aa;rcases arb.1 aa with rfl|aa
   ·exact bq
   ·have:=Uk b aa;omega
 ·have:=atN i s;constructor
  ·intro ag;rcases arj.1 ag with ag|ag
   ·exact .inr (atm ag)
   ·rw[atQ] at ag;rcases arb.1 ag with ag|ag
    ·exact .inl ag
    ·exact .inr (atn ag)
  ·rintro (rfl|ag)
   ·exact att _ (by simp)
   ·rw[<-this] at ag;rcases arj.1 ag with ag|ag
    ·exact ate _ ag
    ·exact att _ (by simp[ag])
def q2 (x:aC) (v:aU):Int:=if x.kind=3 then 3 else if x.kind=2 then (if v.bp=x.b\/v.out=x.b then 1 else 2) else 0
theorem agE (x:aC) (v:aU):s9 x v=if q2 x v=0 then [] else [aW.mk v.ak (q2 x v)]:=by
 unfold s9 q2;by_cases aj:x.kind=3
 ·simp[aj]
 ·by_cases J:x.kind=2
  ·by_cases aa:v.bp=x.b\/v.out=x.b
   ·simp[J,aa]
   ·simp[J,aa]
  ·simp[aj,J]
theorem Yc (N:Nat) {l:List aC} {v:aU} {x:aC} (U:aR l v.ak=aqV x):D6 N l v=aqV (q2 x v):=by
 unfold D6 q2;rw[U,al,bP];by_cases aj:x.kind=3
 ·rw[if_pos (by simpa using aj),if_pos aj]
 ·rw[if_neg (by simpa using aj),if_neg aj];by_cases J:x.kind=2
  ·have vX:zT N v x=aqV (decide (v.bp=x.b\/v.out=x.b)):=by
    unfold zT;rw[if_pos (by simpa using J)];by_cases a:v.bp=x.b
    ·rw[if_pos (by simpa using a)];simp[a]
    ·rw[if_neg (by simpa using a),bP];congr 1;exact arV.2 (by simp[a])
   rw[vX,al,if_pos J];by_cases aa:v.bp=x.b\/v.out=x.b
   ·rw[if_pos (by simpa using aa),if_pos aa]
   ·rw[if_neg (by simpa using aa),if_neg aa,bP,if_pos (by simpa using J)]
  ·have vX:zT N v x=aqV aqZ:=by
    unfold zT;rw[if_neg (by simpa using J)]
   rw[vX,al,if_neg (by simp),bP,if_neg (by simpa using J),if_neg J]
theorem VX (N:Nat) {l:List aC} {r:List aU} (an:∀v∈r,0<=v.ak/\v.ak<l.length) (aB:(bR r).Nodup) (ah:r.length<=50000) (bj:r.length<N):∀(k n i:Nat) (s:List aW),k<n->i+k=r.length->s.length<=i->(s.Pairwise fun a b=>a.ak<b.ak)->(∀y,y∈s↔y∈h8 l (r.take i))->
  ∃b1,w9 N l r n s i=aqV b1/\(b1.Pairwise fun a b=>a.ak<b.ak)/\∀y,y∈b1↔y∈h8 l r
 |k,0,i,s,ar,_,_,_,_=>by omega
 |0,n+1,i,s,ar,ae,aq,ap,hm=>by
  obtain rfl:i=r.length:=by omega
  rw[w9,if_neg (cF (by omega))];rw[asM] at hm;exact ⟨s,rfl,ap,hm⟩
 |k+1,n+1,i,s,ar,ae,aq,ap,hm=>by
  have aN:i<r.length:=by omega
  have ad:=cM aN;obtain ⟨aI,h1⟩:=an _ (are ad);obtain ⟨q,aJ⟩:=arI aI;have U:=cM (xs:=l) (i:=q) (by omega);have aH:aR l (r[i]).ak=aqV (l[q]'(by omega)):=by rw[aJ];exact cJ U
  have oc:l[(r[i]).ak.toNat]? =aqV (l[q]'(by omega)):=by rw[aJ,ar0];exact U
  have jY:pw l r[i]=s9 (l[q]'(by omega)) r[i]:=by unfold pw;rw[oc]
  have gD:∀y,y∈h8 l (r.take (i+1))↔y∈h8 l (r.take i)\/y∈pw l r[i]:=fun y=>by rw[mE ad];unfold h8;rw[List.flatMap_append,asn,List.flatMap_nil,asA,arj]
  have key:∃b1,Ia N l r s i=aqV b1/\(b1.Pairwise fun a b=>a.ak<b.ak)/\(∀y,y∈b1↔y∈h8 l (r.take (i+1)))/\b1.length<=i+1:=by
   unfold Ia;rw[cJ ad,al,Yc N aH,al];rw[agE] at jY;by_cases aF:q2 (l[q]'(by omega)) r[i]=0
   ·rw[if_neg (by simpa using aF)];rw[if_pos aF] at jY;exact ⟨s,rfl,ap,fun y=>by rw[gD,jY,hm];simp,by omega⟩
   ·rw[if_pos (by simpa using aF),al];rw[if_neg aF] at jY;obtain ⟨b1,c8,dR,gX,hX⟩:=Pe N (s:=s) (x:=aW.mk r[i].ak (q2 (l[q]'(by omega)) r[i])) (by omega) (by omega) ap (fun y ag ax=>by
     have ag:=(hm y).1 ag;unfold h8 at ag;obtain ⟨v,kh,adk⟩:=asD.1 ag;have e:=O2 adk;have LZ:(bR (r.take (i+1))).Nodup:=aB.sublist ((ats (i+1) r).map _);unfold bR at LZ;rw[mE ad,ar',ar1] at LZ;exact LZ.2.2 v.ak (List.mem_map_of_mem kh) r[i].ak (by simp) (by rw[<-e,ax]))
    rw[c8,al];exact ⟨b1,rfl,dR,fun y=>by rw[gX,gD,jY,hm];simp[or_comm],by omega⟩
  obtain ⟨b1,g1,g2,g3,g4⟩:=key;rw[w9,if_pos (cH (by omega)),g1,al,bP,dm (by omega)];exact VX N an aB ah bj k n (i+1) b1 (by omega) (by omega) g4 g2 g3
theorem ahR (N:Nat) {l:List aC} {r:List aU} (bj:r.length+l.length+4000<=N) (ah:l.length<=1000000) (an:r.length<=9223372036854775807) (gQ:l.length<=96->∀x∈l,x.name.length<N/\x.name.length<=9223372036854775807):
  ∃b s e,tl N l r=aqV b/\xS N l r=aqV b/\th N l r=aqV (s,e)/\D7 N l r=aqV (s,e)/\s.length<=96:=by
 obtain ⟨e6,c8,dR⟩:=OT N (l:=l) (r:=r) (by omega) ah an;obtain ⟨gj,fg,e1⟩:=OX N (l:=l) (r:=r) (by omega) ah an gQ;have aa:e6=gj:=arV.2 (dR.trans e1.symm);subst aa;cases e6 with
 |false=>
  refine ⟨aqZ,[],1,c8,fg, ?_, ?_,by simp⟩
  ·unfold th;rw[c8,al,if_pos (by simp)]
  ·unfold D7;rw[fg,al,if_pos (by simp)]
 |true=>
  have br:=dR.1 rfl;have bt:=dV.of br.1;have lV:=bt.len;have yQ:r.length<=l.length:=by
   have h1:=sj (b:=(arC l.length).map fun (i:Nat)=>(i:Int)) br.2.2 fun x U=>by unfold bR at U;obtain ⟨v,ad,rfl⟩:=arf.1 U;obtain ⟨a,b⟩:=br.2.1.ok v ad;exact arf.2 ⟨v.ak.toNat,asb.2 (by omega),by omega⟩
   simp[bR] at h1;exact h1
  have ay:=Wc N (by omega) bt br (by omega);have kX:=Nt l r;refine ⟨aqW,lG (h8 l r),0,c8,fg,ay, ?_,by rw[V6];omega⟩;unfold D7;rw[fg,al,if_neg (by simp)];obtain ⟨b1,g1,g2,g3⟩:=VX N br.2.1.ok br.2.2 (by omega) (by omega) r.length N 0 [] (by omega) (by omega) (by simp) (by simp) (by simp[h8]);have g1:w9 N l r N [] 0=aqV b1:=g1;rw[g1,al];have aN:=zi (br.2.2.sublist (Gk l r));rw[Gi g2 aN fun y=>by rw[g3,Cw]]
end Go.W
end
section
namespace Go.W
open Go.aS
def Jp (l:List aC):Prop:=∀x∈l,x.name.length<=13
theorem Jp.set {l:List aC} (h:Jp l) {i:Nat} {x:aC} (U:x.name.length<=13):Jp (l.set i x):=fun y ag=>by
 rcases List.mem_or_eq_of_mem_set ag with ag|ag
 ·exact h y ag
 ·rw[ag];exact U
end Go.W
end
section
namespace Go.W
open Go.aS
theorem kr.inner {l:List aC} {r:List aU} (h:kr l r) {i:Nat} {v:aU} {x:aC} (ad:r[i]? =aqV v) (U:l[v.ak.toNat]? =aqV x) (hk:x.kind≠1):v.out∈hI (bT x) v.bp:=by
 have aN:=(aq5.1 ad).1;have two:=h.two;by_cases aI:i=0
 ·subst aI;obtain ⟨_,y,ag,iV⟩:=(h.aO v ad).1;rw[U] at ag;cases ag;exact absurd iV hk
 ·by_cases h1:i+1<r.length
  ·have hm:=h.mid i v (by omega) h1 ad;unfold e3 at hm;have he:=(h.ok v (are ad)).1;obtain ⟨j,av⟩:=arI he;rw[av] at U hm;rw[ar0] at U;rw[sm U] at hm;exact hm
  ·have e:i=r.length - 1:=by omega
   rw[e] at ad;obtain ⟨_,y,ag,iV⟩:=(h.hS v ad).1;rw[U] at ag;cases ag;exact absurd iV hk
theorem Nn {x:aC} (U:iZ x=aqW) (hk:x.kind=2) {n m:Int} (h:m∈hI (bT x) n):x.a≠x.b/\x.a≠x.c/\x.b≠x.c/\((n=x.a/\hI (bT x) n=[x.b,x.c]/\(m=x.b\/m=x.c))\/(n=x.b/\m=x.a)\/(n=x.c/\m=x.a)):=by
 have aB:=(l5 U).1;have he:bT x=[x.a,x.b,x.c]:=by unfold bT;rw[if_neg (by omega),if_pos hk]
 rw[he] at h aB⊢;simp at aB;refine ⟨aB.1.1,aB.1.2,aB.2, ?_⟩;obtain ⟨h1,J⟩:=Gz h;unfold hI at h⊢;rw[if_pos (by simpa using h1)] at h;rw[if_pos (by simpa using h1)];simp only[List.head?_cons,arr.injEq,List.tail_cons,List.take_succ_cons,aty] at h⊢;by_cases aq:x.a=n
 ·rw[if_pos aq] at h⊢;simp at h;exact .inl ⟨aq.symm,rfl,h⟩
 ·rw[if_neg aq] at h;simp at h h1;rcases h1 with h1|h1|h1
  ·exact absurd h1.symm aq
  ·exact .inr (.inl ⟨h1,h⟩)
  ·exact .inr (.inr ⟨h1,h⟩)
end Go.W
end
section
namespace Go.W
end Go.W
end
section
namespace Go.W
open Go.aS
section
variable {V K:Type} [DecidableEq K]
def ua (f:V->List (K×Bool)->Option (Bool×List (K×Bool))):List V->List (K×Bool)->Option (Bool×List (K×Bool))
 |[],s=>aqV (aqZ,s)
 |u::us,s=>aq0 (f u s) fun r=>if r.1=aqW then aqV (aqW,r.2) else ua f us r.2
structure x4 (V K:Type) where
 dead:V->Bool
 fin:V->Bool
 jU:V->Bool
 px:V->List V
 key:V->K
variable (S:x4 V K)
inductive iS:V->Prop
 |here {v:V}:S.dead v=aqZ->S.fin v=aqW->S.jU v=aqW->iS v
 |step {v u:V}:S.dead v=aqZ->S.fin v=aqZ->u∈S.px v->iS u->iS v
def fV (s:List (K×Bool)) (v:V):Prop:=(bw s (S.key v)).getD aqZ=aqW
instance (s:List (K×Bool)) (v:V):Decidable (fV S s v):=by unfold fV;infer_instance
def AJ (s:List (K×Bool)) (v:V):Prop:=S.dead v=aqZ/\(S.fin v=aqW->S.jU v=aqZ)/\(S.fin v=aqZ->∀u∈S.px v,S.dead u=aqW\/fV S s u)
variable {S}
theorem AJ.mono {s b1:List (K×Bool)} {v:V} (h:AJ S s v) (ay:∀u,fV S s u->fV S b1 u):AJ S b1 v:=⟨h.1,h.2.1,fun aP u hu=>(h.2.2 aP u hu).imp id (ay u)⟩
theorem Dg {s:List (K×Bool)} {v u:V}:fV S (dA s (S.key v) aqW) u↔(S.key v=S.key u\/fV S s u):=by
 unfold fV;rw[ix];by_cases h:S.key v=S.key u
 ·simp[h]
 ·simp[h]
theorem Gs {au:Type} {p q:au->Bool} (h:∀y,q y=aqW->p y=aqW):∀{l:List au},(l.filter q).length<=(l.filter p).length
 |[]=>by simp
 |y::l=>by
  have a8:=Gs h (l:=l);rw[asO,asO];cases ag:q y with
  |true=>rw[h y ag];simpa using a8
  |false=>
   cases yV:p y with
   |true=>simp;omega
   |false=>simpa using a8
def p2 (S:x4 V K) (dF:List V) (s:List (K×Bool)):Nat:=(dF.filter fun u=> !decide (fV S s u)).length
theorem af1 {dF:List V} {s b1:List (K×Bool)} (ay:∀u,fV S s u->fV S b1 u):p2 S dF b1<=p2 S dF s:=by
 unfold p2;refine Gs fun u hu=> ?_;simp only[ar8,decide_eq_false_iff_not] at hu⊢;exact fun h=>hu (ay u h)
theorem filter_lt {au:Type} {p q:au->Bool}:∀{l:List au} {x:au},x∈l->(∀y,q y=aqW->p y=aqW)->p x=aqW->q x=aqZ->(l.filter q).length<(l.filter p).length
 |[],_,h,_,_,_=>by cases h
 |y::l,x,h,o2,ap,aJ=>by
  have hle:(l.filter q).length<=(l.filter p).length:=Gs o2;rcases arb.1 h with rfl|h
  ·rw[asO,asO,ap,aJ];simp only[if_true,arw];exact Nat.lt_succ_of_le hle
  ·have a8:=filter_lt h o2 ap aJ;rw[asO,asO];cases ag:q y with
   |true=>rw[o2 y ag];simpa using a8
   |false=>
    cases yV:p y with
    |true=>simp;omega
    |false=>simpa using a8
theorem ahd {dF:List V} {s:List (K×Bool)} {v:V} (ad:v∈dF) (ar:¬fV S s v):p2 S dF (dA s (S.key v) aqW)<p2 S dF s:=by
 unfold p2;refine filter_lt ad (fun u hu=> ?_) (by simpa using ar) ?_
 ·simp only[ar8,decide_eq_false_iff_not] at hu⊢;exact fun h=>hu (Dg.2 (.inr h))
 ·simp only[Bool.not_eq_false',decide_eq_true_eq];exact Dg.2 (.inl rfl)
structure Out (S:x4 V K) (dF:List V) (s:List (K×Bool)) (b:Bool) (b1:List (K×Bool)) (P:Prop) (T:Prop):Prop where
 sub:∀u,fV S s u->fV S b1 u
 yes:b=aqW->T
 no:b=aqZ->P/\∀u∈dF,fV S b1 u->¬fV S s u->AJ S b1 u
theorem TI {dF:List V} (qF:∀v∈dF,∀u∈S.px v,u∈dF) (hk:∀v∈dF,∀u∈dF,S.dead v=aqZ->S.dead u=aqZ->S.key v=S.key u->v=u) (Uc:∀v∈dF,∀u∈dF,S.key v=S.key u->S.dead v=S.dead u)
  (F:Nat->V->List (K×Bool)->Option (Bool×List (K×Bool)))
  (cB:∀bM v s,v∈dF->F (bM+1) v s=if S.dead v=aqW\/fV S s v then aqV (aqZ,s) else if S.fin v=aqW then aqV (S.jU v,dA s (S.key v) aqW) else ua (F bM) (S.px v) (dA s (S.key v) aqW)):
  ∀(bM:Nat) (v:V) (s:List (K×Bool)),v∈dF->p2 S dF s<bM->∃b b1,F bM v s=aqV (b,b1)/\Out S dF s b b1 (S.dead v=aqW\/fV S b1 v) (iS S v)
 |0,_,_,_,h=>by omega
 |bM+1,v,s,ad,h=>by
  rw[cB bM v s ad];by_cases h1:S.dead v=aqW\/fV S s v
  ·rw[if_pos h1];exact ⟨aqZ,s,rfl,fun _ h=>h,(by simp),fun _=>⟨h1,fun u _ J aj=>absurd J aj⟩⟩
  ·rw[if_neg h1];have aB:S.dead v=aqZ:=by simpa using fun ax=>h1 (.inl ax)
   have ar:¬fV S s v:=fun ax=>h1 (.inr ax);obtain ⟨mK,B6⟩:∃mK,mK=dA s (S.key v) aqW:=⟨_,rfl⟩
   rw[<-B6];have B7:∀u,fV S s u->fV S mK u:=fun u hu=>by rw[B6];exact Dg.2 (.inr hu)
   have iL:fV S mK v:=by rw[B6];exact Dg.2 (.inl rfl)
   have hW:∀u∈dF,fV S mK u->¬fV S s u->u=v:=fun u hu J aj=>by
    rw[B6] at J;rcases Dg.1 J with aM|aM
    ·have abP:S.dead u=aqZ:=by rw[<-Uc v ad u hu aM];exact aB
     exact (hk v ad u hu aB abP aM).symm
    ·exact absurd aM aj
   by_cases J:S.fin v=aqW
   ·rw[if_pos J];refine ⟨_,_,rfl,B7,fun ax=> .here aB J ax,fun ax=>⟨.inr iL,fun u hu g1 g2=> ?_⟩⟩;rw[hW u hu g1 g2];exact ⟨aB,fun _=>ax,(fun aj=>by rw[J] at aj;cases aj)⟩
   ·rw[if_neg J];have aP:S.fin v=aqZ:=by simpa using J
    have aN:p2 S dF mK<bM:=by have:=ahd ad ar;rw[<-B6] at this;omega
    have loop:∀(q:List V) (t:List (K×Bool)),(∀u∈q,u∈dF)->(∀u,fV S mK u->fV S t u)->
      ∃b b1,ua (F bM) q t=aqV (b,b1)/\Out S dF t b b1 (∀u∈q,S.dead u=aqW\/fV S b1 u) (∃u∈q,iS S u):=by
     intro q;induction q with
     |nil=>intro t _ _;exact ⟨aqZ,t,rfl,fun _ h=>h,(by simp),fun _=>⟨by simp,fun u _ J aj=>absurd J aj⟩⟩
     |cons u q a8=>
      intro t aJ ao;have yL:p2 S dF t<bM:=as6 (af1 ao) aN;obtain ⟨b,s1,g1,g2⟩:=TI qF hk Uc F cB bM u t (aJ u arp) yL;rw[ua,g1,al];cases b with
      |true=>exact ⟨aqW,s1,rfl,g2.sub,fun _=>⟨u,arp,g2.yes rfl⟩,by simp⟩
      |false=>
       rw[if_neg (by simp)];obtain ⟨b,s2,g3,g4⟩:=a8 s1 (fun x U=>aJ x (ark _ U)) (fun x U=>g2.sub x (ao x U));refine ⟨b,s2,g3,fun x U=>g4.sub x (g2.sub x U),fun aa=> ?_,fun aa=> ?_⟩
       ·obtain ⟨x,U,an⟩:=g4.yes aa;exact ⟨x,ark _ U,an⟩
       ·obtain ⟨bs,bC⟩:=g2.no rfl;obtain ⟨cQ,fy⟩:=g4.no aa;refine ⟨fun x U=> ?_,fun x U c0 a2=> ?_⟩
        ·rcases arb.1 U with rfl|U
         ·exact bs.imp id (g4.sub x)
         ·exact cQ x U
        ·by_cases a3:fV S s1 x
         ·exact (bC x U a3 a2).mono g4.sub
         ·exact fy x U c0 a3
    obtain ⟨b,b1,g1,g2⟩:=loop (S.px v) mK (qF v ad) (fun _ h=>h);refine ⟨b,b1,g1,fun u hu=>g2.sub u (B7 u hu),fun aa=> ?_,fun aa=> ?_⟩
    ·obtain ⟨u,hu,an⟩:=g2.yes aa;exact .step aB aP hu an
    ·obtain ⟨bs,bC⟩:=g2.no aa;refine ⟨.inr (g2.sub v iL),fun u hu c0 a2=> ?_⟩;by_cases a3:fV S mK u
     ·rw[hW u hu a3 a2];exact ⟨aB,(fun aj=>by rw[aP] at aj;cases aj),fun _=>bs⟩
     ·exact bC u hu c0 a3
theorem ajh {dF:List V} (qF:∀v∈dF,∀u∈S.px v,u∈dF) {s:List (K×Bool)} (ab:∀u∈dF,fV S s u->AJ S s u) {v:V} (an:iS S v):v∈dF->fV S s v->False:=by
 induction an with
 |here aB aP ax=>intro ad ay;have:=(ab _ ad ay).2.1 aP;rw[ax] at this;cases this
 |step aB aP hu an a8=>
  intro ad ay;rcases (ab _ ad ay).2.2 aP _ hu with h1|h1
  ·cases an with
   |here jR=>rw[jR] at h1;cases h1
   |step jR=>rw[jR] at h1;cases h1
  ·exact a8 (qF _ ad _ hu) h1
theorem iS.live {v:V} (h:iS S v):S.dead v=aqZ:=by cases h<;>assumption
end
end Go.W
end
section
namespace Go.W
open Go.aS
def p7 (x:aC) (p n:Int):List Int:=if x.kind=3/\p=4 then [] else if x.kind=2/\n=x.a/\p=1 then [x.b] else if x.kind=2/\n=x.a/\p=2 then [x.c] else hI (bT x) n
def Cp (l:List aC) (p:Int->Int) (i n:Int):List Int:=if 0<=i then (match l[i.toNat]? with|some x=>p7 x (p i) n|none=>[]) else []
def gZ {K:Type} (l:List aC) (on:List Int) (p:Int->Int) (hs fQ:Int) (key:cd->K):x4 cd K where
 dead:=fun v=>decide (bu l v.ak v.node<0)
 fin:=fun v=>on.contains (bu l v.ak v.node)
 jU:=fun v=>(bu l v.ak v.node !=hs)&&(bu l v.ak v.node !=fQ)
 px:=fun v=>(Cp l p (bu l v.ak v.node) v.node).map (cd.mk (bu l v.ak v.node))
 key:=key
theorem XP {K j6:Type} {l:List aC} {on:List Int} {p:Int->Int} {hs fQ:Int} {key:cd->K} {adS:cd->j6} {v:cd} (h:iS (gZ l on p hs fQ key) v):iS (gZ l on p hs fQ adS) v:=by
 induction h with
 |here h1 J aj=>exact .here h1 J aj
 |step h1 J aj _ a8=>exact .step h1 J aj a8
def iH (l:List aC):List cd:=(arC l.length).flatMap fun (i:Nat)=>(cU l (i:Int)).map fun n=>cd.mk (i:Int) n
theorem ZC (l:List aC):∀(k:List Nat),(k.flatMap fun (i:Nat)=>(cU l (i:Int)).map fun n=>cd.mk (i:Int) n).length<=3*k.length
 |[]=>by simp
 |i::k=>by have:=ZC l k;have:=lE l (i:Int);rw[asn,aro,arP,arw];omega
theorem qz (l:List aC):(iH l).length<=3*l.length:=by
 have:=ZC l (arC l.length)
 rwa [atE] at this
theorem wy {l:List aC} {v:cd}:v∈iH l↔v.node∈cU l v.ak:=by
 constructor
 ·intro h;obtain ⟨i,_,h⟩:=asD.1 h;obtain ⟨n,ar,rfl⟩:=arf.1 h;exact ar
 ·intro h;obtain ⟨aI,h1,_⟩:=jC h;refine asD.2 ⟨v.ak.toNat,asb.2 (by omega),arf.2 ⟨v.node, ?_, ?_⟩⟩
  ·rw[auc aI];exact h
  ·rw[auc aI]
theorem OA {l:List aC} {i:Int} {x:aC} (aI:0<=i) (h:l[i.toNat]? =aqV x):aR l i=aqV x:=by
 obtain ⟨a,rfl⟩:=arI aI;exact cJ (by simpa using h)
theorem Pf {l:List aC} {i n:Int} (h:0<=bu l i n):∃x,l[(bu l i n).toNat]? =aqV x/\aR l (bu l i n)=aqV x/\n∈bT x/\x∈l:=by
 obtain ⟨h1,_⟩:=zx h;obtain ⟨aI,J,x,U,ar⟩:=jC h1;exact ⟨x,U,OA aI U,ar,are U⟩
theorem wW {l:List aC} {i:Int} {x:aC} (aI:0<=i) (h:l[i.toNat]? =aqV x):cU l i=bT x:=by
 unfold cU;rw[if_pos aI,h]
theorem Xv {x:aC} {p n m:Int} (h:m∈p7 x p n):m∈bT x:=by
 unfold p7 at h;split at h
 ·cases h
 ·split at h
  ·rename_i h1 J;have:=arX.1 h;subst this;unfold bT;rw[if_neg (by omega),if_pos J.1];simp
  ·split at h
   ·rename_i h1 J aj;have:=arX.1 h;subst this;unfold bT;rw[if_neg (by omega),if_pos aj.1];simp
   ·exact (Gz h).2
theorem alJ {K:Type} {l:List aC} {on:List Int} {p:Int->Int} {hs fQ:Int} {key:cd->K}:∀v∈iH l,∀u∈(gZ l on p hs fQ key).px v,u∈iH l:=by
 intro v ad u hu;obtain ⟨m,hm,rfl⟩:=arf.1 hu;rw[wy];show m∈cU l (bu l v.ak v.node);unfold Cp at hm;split at hm
 ·rename_i aI;obtain ⟨x,U,_,_⟩:=Pf aI;rw[U] at hm;rw[wW aI U];exact Xv hm
 ·cases hm
abbrev ig:=List (cd×Bool)
abbrev AS:=List (Int×Bool)
def AT (m:AS) (on:List Int):Prop:=∀k,(bw m k).getD aqZ=on.contains k
theorem Xu {K:Type} [DecidableEq K] {S:x4 cd K} {dF:List cd} (qF:∀v∈dF,∀u∈S.px v,u∈dF) {s1:List (K×Bool)} {b:Bool} {v:cd} (ad:v∈dF) (h1:Out S dF [] b s1 (S.dead v=aqW\/fV S s1 v) (iS S v)):b=aqW↔iS S v:=by
 constructor
 ·exact h1.yes
 ·intro an;cases aa:b with
  |true=>rfl
  |false=>
   obtain ⟨c8,dR⟩:=h1.no aa;rcases c8 with c8|c8
   ·rw[an.live] at c8;cases c8
   ·exact (ajh qF (fun x U ay=>dR x U ay (by simp[fV,bw])) an ad c8).elim
theorem Yk {K:Type} [DecidableEq K] (S:x4 cd K) (l:List aC) (ah:l.length<=96) (s:List (K×Bool)):p2 S (iH l) s<=288:=by
 have h1:=qz l;have J:=atK (fun u=> !decide (fV S s u)) (iH l);unfold p2;omega
end Go.W
end
section
namespace Go.W
open Go.aS
def gz (s:List aW) (a:Int):Int:=match s.find? (fun y=>y.ak==a) with|some y=>y.ej|none=>0
def ly (l:List aC) (y:aW):Prop:=0<=y.ak/\∃x,l[y.ak.toNat]? =aqV x/\((x.kind=2/\(y.ej=1\/y.ej=2))\/(x.kind=3/\(y.ej=3\/y.ej=4)))
def pE (l:List aC) (s:List aW):Prop:=∀(i:Nat) (y:aW),s[i]? =aqV y->ly l y/\∀z∈s.take i,z.ak≠y.ak
theorem ly.pos {l:List aC} {y:aW} (h:ly l y):y.ej≠0:=by
 obtain ⟨_,x,_,h|h⟩:=h<;>omega
theorem aiJ {l:List aC} {s:List aW} (h:∀z∈s,ly l z) (a:Int):gz s a≠0↔∃z∈s,z.ak=a:=by
 unfold gz;cases aP:s.find? (fun y=>y.ak==a) with
 |none=>have:=auu.1 aP;simp only[ne_eq,not_true,false_iff,not_exists,not_and];exact fun z aF he=>this z aF (by simpa using he)
 |some y=>have h1:=auv aP;have J:=List.find?_some aP;simp only;exact ⟨fun _=>⟨y,h1,by simpa using J⟩,fun _=>(h y h1).pos⟩
theorem Ox {au:Type} {s:List au} {i:Nat} {z:au}:z∈s.take i↔∃j,j<i/\s[j]? =aqV z:=by
 constructor
 ·intro h;obtain ⟨j,av⟩:=arS h;rw[arK] at av;split at av
  ·exact ⟨j,‹_›,av⟩
  ·cases av
 ·rintro ⟨j,av,h⟩;refine are (i:=j) ?_;rw[arK,if_pos av];exact h
instance (l:List aC) (y:aW):Decidable (ly l y):=by
 unfold ly;cases h:l[y.ak.toNat]? with
 |none=>exact isFalse (by simp)
 |some x=>exact decidable_of_iff (0<=y.ak/\((x.kind=2/\(y.ej=1\/y.ej=2))\/(x.kind=3/\(y.ej=3\/y.ej=4)))) (by simp)
theorem WA (N:Nat) {r:List aU} (an:r.length<=1000000):∀(k n i:Nat) (m:AS),k<n->i+k=r.length->AT m (bR (r.take i))->∃m',w4 N r (r.length:Int) n m i=aqV m'/\AT m' (bR r)
 |k,0,i,m,ar,_,_=>by omega
 |0,n+1,i,m,ar,ae,hm=>by
  obtain rfl:i=r.length:=by omega
  rw[w4,if_neg (cF (by omega))];rw[asM] at hm;exact ⟨m,rfl,hm⟩
 |k+1,n+1,i,m,ar,ae,hm=>by
  have ad:=cM (xs:=r) (i:=i) (by omega);rw[w4,if_pos (cH (by omega)),cJ ad,al,bP,dm (by omega)];refine WA N an k n (i+1) _ (by omega) (by omega) fun a=> ?_;rw[ix,mE ad];unfold bR;rw[ar',atd];by_cases aq:r[i].ak=a
  ·rw[if_pos aq];simp[aq]
  ·rw[if_neg aq,hm];unfold bR;rw[atd];have:a≠r[i].ak:=fun h=>aq h.symm;simp[this]
theorem aho (N:Nat) {r:List aU} (an:r.length<=1000000) (bj:r.length<N):∃m,IY N r=aqV m/\AT m (bR r):=by
 unfold IY;obtain ⟨m,h1,J⟩:=WA N an r.length N 0 [] bj (by omega) (fun a=>by simp[bR,bw]);exact ⟨m,by rw[show w4 N r _ N [] 0=_ from h1];rfl,J⟩
def tn (l:List aC) (r:List aU) (s:List aW) (hs fQ:Int) (i:Nat):Prop:=∃x,l[i]? =aqV x/\x.kind=1/\(i:Int)∉bR r/\(iS (gZ l (bR r) (gz s) hs fQ (id:cd->cd)) (cd.mk i x.a)\/iS (gZ l (bR r) (gz s) hs fQ (id:cd->cd)) (cd.mk i x.b))
open Classical in
noncomputable def ET (l:List aC) (r:List aU) (s:List aW) (hs fQ:Int):List Int:=((arC l.length).filter fun i=>decide (tn l r s hs fQ i)).map fun (i:Nat)=>(i:Int)
def eB (r:List aU):Int×Int:=((r[0]?.map aU.ak).getD 0,(r[r.length - 1]?.map aU.ak).getD 0)
theorem aeJ {p:Nat->Bool} (i:Nat):(arC (i+1)).filter p=(arC i).filter p++(if p i=aqW then [i] else []):=by
 rw[List.range_succ,List.filter_append];cases h:p i<;>simp[h]
end Go.W
end
section
namespace Go.W
open Go.aS
theorem PF (N:Nat) {s:List aW} (ay:s.length<=1000000) (bj:s.length<N) (a:Int):xV N s a=aqV (gz s a):=by
 have h:=j2 (l:=s) (fun _ y=>y.ak==a) (fun _ y=>y.ej) (xm N s a) (fun n=>by
  rw[xm,if_neg (cF (by omega))]) (fun n i y ag=>by
  have aN:=(aq5.1 ag).1;rw[xm,if_pos (cH (by omega)),cJ ag,al,al,bP,dm (by omega)]) s.length N 0 bj (by omega)
 have an:∀(q:List aW) (i:Nat),ch (fun _ y=>y.ak==a) (fun _ (y:aW)=>y.ej) i q=match q.find? (fun y=>y.ak==a) with|some y=> .inr y.ej|none=> .inl ():=by
  intro q;induction q with
  |nil=>intro i;rfl
  |cons y q a8=>
   intro i;rw[ch,List.find?_cons];cases ag:(y.ak==a) with
   |true=>rfl
   |false=>simpa using a8 (i+1)
 unfold xV;rw[show xm N s a N 0=_ from h,al,arB,an];unfold gz;cases s.find? (fun y=>y.ak==a)<;>rfl
theorem W6 (N:Nat) {l:List aC} (ah:l.length<=96) {s:List aW} (ay:s.length<=1000) (bj:s.length<N):∀(k n i:Nat),k<n->i+k=s.length->(∀(j:Nat) y,j<i->s[j]? =aqV y->ly l y/\∀z∈s.take j,z.ak≠y.ak)->
  (sZ N l s n i=aqV (.inl ())/\pE l s)\/(sZ N l s n i=aqV (.inr aqZ)/\¬pE l s)
 |k,0,i,ar,_,_=>by omega
 |0,n+1,i,ar,ae,dw=>by
  obtain rfl:i=s.length:=by omega
  rw[sZ,if_neg (cF (by omega))];exact .inl ⟨rfl,fun j y av=>dw j y (aq5.1 av).1 av⟩
 |k+1,n+1,i,ar,ae,dw=>by
  have ad:=cM (xs:=s) (i:=i) (by omega);obtain ⟨y,ag⟩:∃y,y=s[i]:=⟨_,rfl⟩
  rw[<-ag] at ad;rw[sZ,if_pos (cH (by omega))];have jP:∀z∈s.take i,ly l z:=fun z aF=>by obtain ⟨j,av,aF⟩:=Ox.1 aF;exact (dw j z av aF).1
  have aX:HP N l s i=aqV (decide (y.ak<0\/(l.length:Int)<=y.ak\/∃z∈s.take i,z.ak=y.ak)):=by
   unfold HP;rw[cJ ad,al];by_cases h1:y.ak<0
   ·rw[if_pos (cH h1)];simp[h1]
   ·rw[if_neg (cF h1),al];by_cases J:(l.length:Int)<=y.ak
    ·rw[if_pos (nq J)];simp[J]
    ·rw[if_neg (oh J),zd (by omega),al,al,PF N (by rw[arG];omega) (by rw[arG];omega),al];congr 1;rw[arV];have:=aiJ jP y.ak;simp only[bne_iff_ne,ne_eq,decide_eq_true_eq,h1,J,false_or];exact this
  have tT:(DC N l s i=aqV (.inl ())/\ly l y/\∀z∈s.take i,z.ak≠y.ak)\/(DC N l s i=aqV (.inr aqZ)/\¬pE l s):=by
   unfold DC;rw[aX,al];by_cases c1:y.ak<0\/(l.length:Int)<=y.ak\/∃z∈s.take i,z.ak=y.ak
   ·rw[if_pos (by simpa using c1)];refine .inr ⟨rfl,fun fB=> ?_⟩;obtain ⟨⟨bs,x,bC,_⟩,cQ⟩:=fB i y ad;rcases c1 with c1|c1|⟨z,aF,c1⟩
    ·omega
    ·have:=(aq5.1 bC).1;omega
    ·exact cQ z aF c1
   ·rw[if_neg (by simpa using c1),cJ ad,al,al];have JM:0<=y.ak/\y.ak<l.length:=by
     constructor
     ·exact Int.not_lt.1 fun h=>c1 (.inl h)
     ·exact Int.not_le.1 fun h=>c1 (.inr (.inl h))
    have ke:∀z∈s.take i,z.ak≠y.ak:=fun z aF he=>c1 (.inr (.inr ⟨z,aF,he⟩));obtain ⟨a,aq⟩:=arI JM.1;have U:=cM (xs:=l) (i:=a) (by omega);obtain ⟨x,kB⟩:∃x,x=l[a]:=⟨_,rfl⟩
    rw[<-kB] at U;have jZ:l[y.ak.toNat]? =aqV x:=by rw[aq,ar0];exact U
    have lk:ly l y↔((x.kind=2/\(y.ej=1\/y.ej=2))\/(x.kind=3/\(y.ej=3\/y.ej=4))):=by
     unfold ly;rw[jZ];constructor
     ·rintro ⟨_,hb,oc,h⟩;cases oc;exact h
     ·exact fun h=>⟨JM.1,x,rfl,h⟩
    rw[OA JM.1 jZ,al,bP];by_cases J:x.kind=2
    ·rw[if_pos (by simpa using J)];have ij:HQ N y.ej=aqV (decide (¬(y.ej=1\/y.ej=2))):=by
      unfold HQ;by_cases h:y.ej=1
      ·rw[if_neg (by simpa using h)];simp[h]
      ·rw[if_pos (by simpa using h)];congr 1;rw[arV];simp[h]
     rw[ij,al];by_cases ap:y.ej=1\/y.ej=2
     ·rw[if_neg (by rw[decide_eq_true_eq];exact fun h=>h ap)];exact .inl ⟨rfl,lk.2 (.inl ⟨J,ap⟩),ke⟩
     ·rw[if_pos (by simpa using ap)];exact .inr ⟨rfl,fun fB=>by rcases lk.1 (fB i y ad).1 with h|h;exact ap h.2;omega⟩
    ·rw[if_neg (by simpa using J),bP];by_cases aj:x.kind=3
     ·rw[if_pos (by simpa using aj)];have ij:HR N y.ej=aqV (decide (¬(y.ej=3\/y.ej=4))):=by
       unfold HR;by_cases h:y.ej=3
       ·rw[if_neg (by simpa using h)];simp[h]
       ·rw[if_pos (by simpa using h)];congr 1;rw[arV];simp[h]
      rw[ij,al];by_cases ap:y.ej=3\/y.ej=4
      ·rw[if_neg (by rw[decide_eq_true_eq];exact fun h=>h ap)];exact .inl ⟨rfl,lk.2 (.inr ⟨aj,ap⟩),ke⟩
      ·rw[if_pos (by simpa using ap)];exact .inr ⟨rfl,fun fB=>by rcases lk.1 (fB i y ad).1 with h|h;exact J h.1;exact ap h.2⟩
     ·rw[if_neg (by simpa using aj)];exact .inr ⟨rfl,fun fB=>by rcases lk.1 (fB i y ad).1 with h|h;exact J h.1;exact aj h.1⟩
  rcases tT with ⟨g1,g2,g3⟩|⟨g1,g2⟩
  ·rw[g1,al];dsimp only;rw[bP,dm (by omega)];refine W6 N ah ay bj k n (i+1) (by omega) (by omega) (fun j z av aF=> ?_);by_cases iJ:j=i
   ·subst iJ;rw[ad] at aF;cases aF;exact ⟨g2,g3⟩
   ·exact dw j z (by omega) aF
  ·rw[g1,al];exact .inr ⟨rfl,g2⟩
theorem agh (N:Nat) {l:List aC} (ah:l.length<=96) {s:List aW} (ay:s.length<=1000) (bj:s.length<N):(AA N l s=aqV aqW/\pE l s)\/(AA N l s=aqV aqZ/\¬pE l s):=by
 unfold AA;rcases W6 N ah ay bj s.length N 0 bj (by omega) (fun j y av=>by omega) with ⟨h1,J⟩|⟨h1,J⟩
 ·exact .inl ⟨by rw[show sZ N l s N 0=_ from h1];rfl,J⟩
 ·exact .inr ⟨by rw[show sZ N l s N 0=_ from h1];rfl,J⟩
abbrev la:=List (dx×Bool)
def iW (l:List aC) (v:cd):dx:=dx.mk (bu l v.ak v.node) v.node
def ql (x:aC) (p n m:Int):Bool:=decide (x.kind=2/\n=x.a/\((p=1/\m=x.c)\/(p=2/\m=x.b)))
theorem aiX {x:aC} (U:iZ x=aqW) {p n:Int} (ar:n∈bT x) (aB:¬(x.kind=3/\p=4)):(hI (bT x) n).filter (fun m=> !ql x p n m)=p7 x p n:=by
 unfold p7;rw[if_neg aB];by_cases J:x.kind=2
 ·have kd:=(l5 U).1;have he:bT x=[x.a,x.b,x.c]:=by unfold bT;rw[if_neg (by omega),if_pos J]
  rw[he] at kd ar⊢;simp at kd ar;by_cases aq:n=x.a
  ·have ao:hI [x.a,x.b,x.c] n=[x.b,x.c]:=by
    unfold hI;rw[if_pos (by simp[aq]),if_pos (by simp[aq])];rfl
   rw[ao];by_cases c8:p=1
   ·have:¬x.b=x.c:=kd.2;simp[J,aq,c8,ql,this]
   ·by_cases dR:p=2
    ·have:¬x.c=x.b:=fun h=>kd.2 h.symm;simp[J,aq,dR,ql,this]
    ·simp[J,aq,c8,dR,ql]
  ·rw[if_neg (fun h=>aq h.2.1),if_neg (fun h=>aq h.2.1)];refine List.filter_eq_self.2 fun m _=> ?_;simp[ql,aq]
 ·rw[if_neg (fun h=>J h.1),if_neg (fun h=>J h.1)];refine List.filter_eq_self.2 fun m _=> ?_;simp[ql,J]
theorem agB (N:Nat) (self:List Int->List aC->List aU->List aW->Int->Int->la->Option (Bool×la)) (x:aC) (p n:Int) {o:List Int} {j:Nat} {m:Int} (hm:o[j]? =aqV m):Ie N self n x p o j=aqV (ql x p n m):=by
 unfold Ie ql;by_cases J:x.kind=2
 ·rw[if_pos (by simpa using J)];by_cases aq:n=x.a
  ·rw[if_pos (by simpa using aq)];by_cases c8:p=1
   ·rw[if_pos (by simpa using c8),cJ hm,al];by_cases ab:m=x.c
    ·rw[if_pos (by simpa using ab)];simp[J,aq,c8,ab]
    ·rw[if_neg (by simpa using ab),if_neg (by rw[c8];simp)];simp[J,aq,c8,ab]
   ·rw[if_neg (by simpa using c8)];by_cases dR:p=2
    ·rw[if_pos (by simpa using dR),cJ hm,al];congr 1;rw[arV];simp[J,aq,dR]
    ·rw[if_neg (by simpa using dR)];simp[c8,dR]
  ·rw[if_neg (by simpa using aq)];simp[aq]
 ·rw[if_neg (by simpa using J)];simp[J]
def anw {K:Type} (r:Bool×List (K×Bool)):Sum (List (K×Bool)) (List (K×Bool)×Bool):=if r.1=aqW then .inr (r.2,aqW) else .inl r.2
theorem PR (N:Nat) (self:List Int->List aC->List aU->List aW->Int->Int->la->Option (Bool×la)) (bO:List Int) (l:List aC) (r:List aU) (s:List aW) (eb hE:Int) (x:aC) (p:Int) {o:List Int} (ai:o.length<=1000):
  ∀(k n i:Nat) (t:la),k<n->i+k=o.length->zU N self bO l r s eb hE x p o n t i=aq0 (ua (fun (v:cd) t=>self bO l r s v.ak v.node t) (((o.drop i).filter fun m=> !ql x p eb m).map (cd.mk hE)) t) fun r=>aqV (anw r)
 |k,0,i,t,ar,_=>by omega
 |0,n+1,i,t,ar,ae=>by
  obtain rfl:i=o.length:=by omega
  rw[zU,if_neg (cF (by omega)),asi];rfl
 |k+1,n+1,i,t,ar,ae=>by
  have ad:=cM (xs:=o) (i:=i) (by omega);rw[zU,if_pos (cH (by omega)),jA ad,asO];unfold P8;rw[agB N self x p eb ad,al];cases aqj:ql x p eb o[i] with
  |true=>rw[if_pos rfl,al];dsimp only;rw[bP,dm (by omega)];simpa using PR N self bO l r s eb hE x p ai k n (i+1) t (by omega) (by omega)
  |false=>
   rw[if_neg (by simp),cJ ad,al,if_pos (by simp),arN,ua];cases ay:self bO l r s hE o[i] t with
   |none=>rfl
   |some q=>
    obtain ⟨b,c7⟩:=q;cases b with
    |true=>rfl
    |false=>rw[al,al];simp only[arE,if_false,al];rw[bP,dm (by omega)];exact PR N self bO l r s eb hE x p ai k n (i+1) c7 (by omega) (by omega)
theorem ahI (N:Nat) (bj:3000<=N) {l:List aC} (bt:dV l) {r:List aU} (an:r.length<=1000) (J:2<=r.length) {s:List aW} (ay:s.length<=1000) (bO:List Int) (bM:Nat) (v:cd) (t:la):
  jr N (bM+1) bO l r s v.ak v.node t=if (gZ l (bR r) (gz s) (eB r).1 (eB r).2 (iW l)).dead v=aqW\/fV (gZ l (bR r) (gz s) (eB r).1 (eB r).2 (iW l)) t v then aqV (aqZ,t) else if (gZ l (bR r) (gz s) (eB r).1 (eB r).2 (iW l)).fin v=aqW then aqV ((gZ l (bR r) (gz s) (eB r).1 (eB r).2 (iW l)).jU v,dA t (iW l v) aqW)
   else ua (fun v t=>jr N bM bO l r s v.ak v.node t) ((gZ l (bR r) (gz s) (eB r).1 (eB r).2 (iW l)).px v) (dA t (iW l v) aqW):=by
 have ah:=bt.len;rw[jr,uu N (by omega) (by omega),al];have dt:Ib N (jr N bM) v.node t (bu l v.ak v.node)=aqV (decide (bu l v.ak v.node<0\/(bw t (iW l v)).getD aqZ=aqW)):=by
  unfold Ib;by_cases h:bu l v.ak v.node<0
  ·rw[if_pos (cH h)];simp[h]
  ·rw[if_neg (cF h),bP];congr 1;rw[arV];simp[h,iW]
 rw[dt,al];by_cases c:bu l v.ak v.node<0\/(bw t (iW l v)).getD aqZ=aqW
 ·rw[if_pos (by simpa using c),if_pos (by simpa[gZ,fV] using c)]
 rw[if_neg (by simpa using c),if_neg (by simpa[gZ,fV] using c),bP,ur N (by omega) (by omega),al];have aI:0<=bu l v.ak v.node:=by omega
 have dt:=cM (xs:=r) (i:=0) (by omega);have aX:=cM (xs:=r) (i:=r.length - 1) (by omega);have hw:aq6 .i64 ((r.length:Int) - 1)=((r.length - 1:Nat):Int):=by rw[ha (by omega) (by omega)];omega
 have he:eB r=(r[0].ak,r[r.length - 1].ak):=by unfold eB;rw[dt,aX];rfl
 by_cases c2:(bR r).contains (bu l v.ak v.node)=aqW
 ·rw[if_pos c2,if_pos (show (gZ l (bR r) _ _ _ (iW l)).fin v=aqW from c2)];unfold P7;rw[show aR r 0=aqV r[0] from cJ (i:=0) dt,al];by_cases lb:bu l v.ak v.node=r[0].ak
  ·rw[if_neg (by simpa using lb),al];simp[gZ,he,lb,iW]
  ·rw[if_pos (by simpa using lb),hw,cJ aX,al,bP,al];simp[gZ,he,lb,iW]
 ·rw[if_neg c2,if_neg (show ¬(gZ l (bR r) _ _ _ (iW l)).fin v=aqW from c2)];obtain ⟨x,U,v7,kW,r2⟩:=Pf aI;rw[v7,al,PF N (by omega) (by omega),al,G3 N (by omega),al];have e2:Ic N (jr N bM) x (gz s (bu l v.ak v.node))=aqV (decide (x.kind=3/\gz s (bu l v.ak v.node)=4)):=by
   unfold Ic;by_cases h:x.kind=3
   ·rw[if_pos (by simpa using h)];congr 1;rw[arV];simp[h]
   ·rw[if_neg (by simpa using h)];simp[h]
  rw[e2,al];have ac6:(gZ l (bR r) (gz s) (eB r).1 (eB r).2 (iW l)).px v=(p7 x (gz s (bu l v.ak v.node)) v.node).map (cd.mk (bu l v.ak v.node)):=by show (Cp l (gz s) _ _).map _=_;unfold Cp;rw[if_pos aI,U]
  rw[ac6];by_cases lb:x.kind=3/\gz s (bu l v.ak v.node)=4
  ·rw[if_pos (by simpa using lb)];unfold p7;rw[if_pos lb];rfl
  ·rw[if_neg (by simpa using lb),<-aiX (bt.snd x r2) kW lb];have ao:e3 l (bu l v.ak v.node) v.node=hI (bT x) v.node:=by unfold e3;rw[wW aI U]
   have lr:=sn l (bu l v.ak v.node) v.node;refine (congrArg (fun q=>aq0 q _) (PR N (jr N bM) bO l r s v.node (bu l v.ak v.node) x (gz s (bu l v.ak v.node)) (o:=e3 l (bu l v.ak v.node) v.node) (by omega) (e3 l (bu l v.ak v.node) v.node).length N 0 (dA t (iW l v) aqW) (by omega) (by omega))).trans ?_;rw[arB,ao];cases aJ:ua (fun (v:cd) t=>jr N bM bO l r s v.ak v.node t) (((hI (bT x) v.node).filter fun m=> !ql x (gz s (bu l v.ak v.node)) v.node m).map (cd.mk (bu l v.ak v.node))) (dA t (iW l v) aqW) with
   |none=>rfl
   |some q=>obtain ⟨b,c7⟩:=q;cases b<;>rfl
theorem afY {l:List aC} (bt:dV l) {v u:cd} (ad:v∈iH l) (hu:u∈iH l) (aI:0<=bu l v.ak v.node) (h:iW l v=iW l u):v=u:=by
 simp only[iW,dx.mk.injEq] at h;obtain ⟨a,n⟩:=v;obtain ⟨b,m⟩:=u;simp only at h aI;obtain ⟨h1,rfl⟩:=h;rw[wy] at ad hu;have aX:=bt.ud ad aI;have e2:=bt.ud hu (by show 0<=bu l b n;omega);simp only at aX e2;rw[h1] at aX;rw[<-aX,e2]
open Classical in
theorem agy (N:Nat) (bj:3000<=N) {l:List aC} (bt:dV l) {r:List aU} (an:r.length<=1000) (J:2<=r.length) {s:List aW} (ay:s.length<=1000) (bO:List Int) {i:Nat} {x:aC} (U:l[i]? =aqV x) (hk:x.kind=1):
  Ik N l r s bO i=aqV (decide (iS (gZ l (bR r) (gz s) (eB r).1 (eB r).2 (id:cd->cd)) (cd.mk i x.a)\/iS (gZ l (bR r) (gz s) (eB r).1 (eB r).2 (id:cd->cd)) (cd.mk i x.b))):=by
 obtain ⟨S,ji⟩:∃S,S=gZ l (bR r) (gz s) (eB r).1 (eB r).2 (iW l):=⟨_,rfl⟩
 have BP:∀v,iS (gZ l (bR r) (gz s) (eB r).1 (eB r).2 (id:cd->cd)) v↔iS S v:=fun v=>by rw[ji];exact ⟨XP,XP⟩
 rw[BP,BP];have he:bT x=[x.a,x.b]:=by unfold bT;rw[if_pos (.inl hk)]
 have aq:cd.mk i x.a∈iH l:=by rw[wy];show x.a∈cU l (i:Int);rw[sm U,he];simp
 have aa:cd.mk i x.b∈iH l:=by rw[wy];show x.b∈cU l (i:Int);rw[sm U,he];simp
 have qF:∀v∈iH l,∀u∈S.px v,u∈iH l:=by rw[ji];exact alJ
 have D:=TI (S:=S) qF (by
   rw[ji];intro v ad u hu aB _ yI;exact afY bt ad hu (by simpa[gZ] using aB) yI) (by
   rw[ji];intro v ad u hu yI;have yI:iW l v=iW l u:=yI;simp only[iW,dx.mk.injEq] at yI;show decide _=decide _;rw[yI.1]) (fun bM v t=>jr N bM bO l r s v.ak v.node t) (fun bM v t ad=>by rw[ji];exact ahI N bj bt an J ay bO bM v t)
 obtain ⟨e6,s1,g1,g2⟩:=D N (cd.mk i x.a) [] aq (by have:=Yk S l bt.len [];omega);obtain ⟨gj,s2,g3,g4⟩:=D N (cd.mk i x.b) [] aa (by have:=Yk S l bt.len [];omega);have fg:=Xu qF aq g2;have e1:=Xu qF aa g4;unfold Ik;rw[cJ U,al,show jr N N bO l r s i x.a []=_ from g1,al];cases e6 with
 |true=>rw[if_pos rfl];simp[fg.1 rfl]
 |false=>
  rw[if_neg (by simp),al,show jr N N bO l r s i x.b []=_ from g3,al];have j1:¬iS S (cd.mk i x.a):=fun h=>by have:=fg.2 h;cases this
  cases gj with
  |true=>simp[e1.1 rfl]
  |false=>
   have iX:¬iS S (cd.mk i x.b):=fun h=>by have:=e1.2 h;cases this
   simp[j1,iX]
open Classical in
theorem WL (N:Nat) (bj:3000<=N) {l:List aC} (bt:dV l) {r:List aU} (an:r.length<=1000) (J:2<=r.length) {s:List aW} (ay:s.length<=1000):∀(k n i:Nat) (acc:List Int),k<n->i+k=l.length->
  acc=((arC i).filter fun i=>decide (tn l r s (eB r).1 (eB r).2 i)).map (fun (i:Nat)=>(i:Int))->xa N l r s n acc i=aqV (ET l r s (eB r).1 (eB r).2)
 |k,0,i,acc,ar,_,_=>by omega
 |0,n+1,i,acc,ar,ae,aq=>by
  obtain rfl:i=l.length:=by omega
  rw[xa,if_neg (cF (by omega)),aq];rfl
 |k+1,n+1,i,acc,ar,ae,aq=>by
  have ah:=bt.len;have ad:=cM (xs:=l) (i:=i) (by omega);obtain ⟨x,kB⟩:∃x,x=l[i]:=⟨_,rfl⟩
  rw[<-kB] at ad;rw[xa,if_pos (cH (by omega))];have ap0:acc.length<=96:=by rw[aq,arP];have:=atK (fun i=>decide (tn l r s (eB r).1 (eB r).2 i)) (arC i);rw[atE] at this;omega
  have aX:Ii N l r s acc i=aqV (((arC (i+1)).filter fun i=>decide (tn l r s (eB r).1 (eB r).2 i)).map (fun (i:Nat)=>(i:Int))):=by
   unfold Ii;have e2:Ij N l r i=aqV (decide (x.kind≠1\/(i:Int)∈bR r)):=by
    unfold Ij;rw[cJ ad,al];by_cases h:x.kind=1
    ·rw[if_neg (by simpa using h),ur N (by omega) (by omega),al,atd];simp[h]
    ·rw[if_pos (by simpa using h)];simp[h]
   rw[e2,al,aeJ];by_cases c:x.kind≠1\/(i:Int)∈bR r
   ·rw[if_pos (by simpa using c)];have:¬tn l r s (eB r).1 (eB r).2 i:=fun ⟨y,ag,h1,J,_⟩=>by
     rw[ad] at ag;cases ag;rcases c with c|c
     ·exact c h1
     ·exact J c
    rw[if_neg (by simpa using this),asA,aq]
   ·rw[if_neg (by simpa using c)];have hk:x.kind=1:=auw fun h=>c (.inl h);have b8:(i:Int)∉bR r:=fun h=>c (.inr h);rw[agy N bj bt an J ay acc ad hk,al];have lk:tn l r s (eB r).1 (eB r).2 i↔(iS (gZ l (bR r) (gz s) (eB r).1 (eB r).2 (id:cd->cd)) (cd.mk i x.a)\/iS (gZ l (bR r) (gz s) (eB r).1 (eB r).2 (id:cd->cd)) (cd.mk i x.b)):=by
     constructor
     ·rintro ⟨y,ag,_,_,h⟩;rw[ad] at ag;cases ag;exact h
     ·exact fun h=>⟨x,ad,hk,b8,h⟩
    by_cases aT:tn l r s (eB r).1 (eB r).2 i
    ·rw[if_pos (decide_eq_true (lk.1 aT)),if_pos (decide_eq_true aT),gY (by simp;omega),al,aq,ar'];rfl
    ·rw[if_neg (by simpa using fun h=>aT (lk.2 h)),if_neg (by simpa using aT),asA,aq]
  rw[aX,al,bP,dm (by omega)];exact WL N bj bt an J ay k n (i+1) _ (by omega) (by omega) rfl
theorem ahK (N:Nat) {l:List aC} (ah:l.length<=96) {r:List aU} {s:List aW} (an:r.length<=1000) (ay:s.length<=1000) (bj:3000<=N) (gQ:∀x∈l,x.name.length<N/\x.name.length<=9223372036854775807):
  (¬iG l r/\xP N l r s=aqV ([],1))\/(iG l r/\¬pE l s/\xP N l r s=aqV ([],2))\/(iG l r/\pE l s/\xP N l r s=aqV (ET l r s (eB r).1 (eB r).2,0)):=by
 obtain ⟨b,h1,J⟩:=OX N (l:=l) (r:=r) (by omega) (by omega) (by omega) (fun _=>gQ);unfold xP;rw[h1,al];cases b with
 |false=>exact .inl ⟨fun h=>(by have:=J.2 h;cases this),rfl⟩
 |true=>
  have br:=J.1 rfl;rw[if_neg (by simp)];rcases agh N ah ay (by omega) with ⟨bs,bC⟩|⟨bs,bC⟩
  ·rw[bs,al,if_neg (by simp)];refine .inr (.inr ⟨br,bC, ?_⟩);rw[show xa N l r s N [] 0=_ from WL N bj (dV.of br.1) an br.2.1.two ay l.length N 0 [] (by omega) (by omega) rfl];rfl
  ·rw[bs,al,if_pos (by simp)];exact .inr (.inl ⟨br,bC,rfl⟩)
end Go.W
end
section
namespace Go.W
open Go.aS
theorem agt (N:Nat) {s:List aW} {x:aW} (ah:s.length<=100000) (bj:s.length<N) (ay:s.Pairwise fun a b=>a.ak<b.ak) {y:aW} (ag:y∈s) (he:y.ak=x.ak):rn N s x=aqV s:=by
 obtain ⟨i,h1,J,aj,aM⟩:=Ob N (s:=s) (x:=x) ah s.length N bj (aq9 _) (fun j y av ag=>by
  have:=(aq5.1 ag).1;omega)
 obtain ⟨j,av⟩:=arS ag;obtain ⟨gA,nd⟩:=aq5.1 av;have cY:i<=j:=by
  refine Nat.le_of_not_lt fun aN=> ?_;have hg:=cM (xs:=s) (i:=i - 1) (by omega);have aa:=aM _ (by omega) hg;by_cases iJ:j=i - 1
  ·rw[iJ,hg] at av;have av:=arr.inj av;rw[av] at aa;omega
  ·have:=arT.1 ay j (i - 1) gA (by omega) (by omega);rw[nd] at this;omega
 have ad:=cM (xs:=s) (i:=i) (by omega);have e8:=aj i _ (aq9 _) ad;have hle:s[i].ak=x.ak:=by
  by_cases h:i=j
  ·subst h;rw[ad] at av;have av:=arr.inj av;rw[av];exact he
  ·have:=arT.1 ay i j (by omega) gA (by omega);rw[nd] at this;omega
 unfold rn;rw[bP,h1,al];have o1:zL N s x i=aqV aqW:=by unfold zL;rw[if_pos (cH (by omega)),cJ ad,al];simp[hle]
 rw[o1,al,if_pos rfl]
abbrev jg:=List (Int×Int)
structure rv (l:List aC) (on:List Int) (out:jg):Prop where
 fF:(out.map asj).Nodup
 ok:∀i p,bw out i=aqV p->0<=i/\i∉on/\∃x,l[i.toNat]? =aqV x/\((x.kind=2/\(p=1\/p=2))\/(x.kind=3/\p=4))
structure vn (out:jg) (cV:List aW):Prop where
 lt:cV.Pairwise fun a b=>a.ak<b.ak
 mem:∀y,y∈cV↔bw out y.ak=aqV y.ej
theorem afy {s:List aW} (ay:s.Pairwise fun a b=>a.ak<b.ak) {y z:aW} (ag:y∈s) (aF:z∈s) (he:y.ak=z.ak):y=z:=by
 obtain ⟨i,ae⟩:=arS ag;obtain ⟨j,av⟩:=arS aF;obtain ⟨jk,im⟩:=aq5.1 ae;obtain ⟨gA,nd⟩:=aq5.1 av;rcases asE i j with h|h|h
 ·have:=arT.1 ay i j jk gA h;rw[im,nd] at this;omega
 ·subst h;rw[ae] at av;cases av;rfl
 ·have:=arT.1 ay j i gA jk h;rw[im,nd] at this;omega
theorem ajs {s:List aW} (ay:s.Pairwise fun a b=>a.ak<b.ak) {n:Nat} (h:∀y∈s,0<=y.ak/\y.ak<n):s.length<=n:=by
 have kd:(s.map aW.ak).Nodup:=by unfold List.Nodup;rw[atF];exact ay.imp fun h he=>by omega
 have:=sj (b:=(arC n).map fun (i:Nat)=>(i:Int)) kd fun a aq=>by obtain ⟨y,ag,rfl⟩:=arf.1 aq;have:=h y ag;exact arf.2 ⟨y.ak.toNat,asb.2 (by omega),by omega⟩
 simpa using this
theorem vn.at {l:List aC} {on:List Int} {out:jg} {cV:List aW} (h:vn out cV) (ai:rv l on out) (i:Int):gz cV i=(bw out i).getD 0:=by
 unfold gz;cases aP:cV.find? (fun y=>y.ak==i) with
 |none=>
  cases aH:bw out i with
  |none=>rfl
  |some p=>have:aW.mk i p∈cV:=(h.mem _).2 aH;have:=auu.1 aP _ this;simp at this
 |some y=>
  have h1:=auv aP;have J:=List.find?_some aP;have J:y.ak=i:=by simpa using J
  have:=(h.mem y).1 h1;rw[J] at this;rw[this];rfl
theorem rv.len {l:List aC} {on:List Int} {out:jg} {cV:List aW} (ai:rv l on out) (h:vn out cV):cV.length<=l.length:=ajs h.lt fun y ag=>by
 obtain ⟨aI,_,x,U,_⟩:=ai.ok _ _ ((h.mem y).1 ag);have:=(aq5.1 U).1;omega
theorem Wp {au bz:Type} [DecidableEq au]:∀{m:List (au×bz)} {k:au} {v:bz},(m.map asj).Nodup->((dA m k v).map asj).Nodup/\∀a,a∈(dA m k v).map asj->a=k\/a∈m.map asj
 |[],k,v,_=>by simp[dA]
 |p::m,k,v,h=>by
  rw[arN,asU] at h;simp only[dA];by_cases hk:p.1=k
  ·rw[if_pos hk];rw[arN,asU];exact ⟨h,fun a aq=> .inr aq⟩
  ·rw[if_neg hk,arN,asU];obtain ⟨h1,J⟩:=Wp (k:=k) (v:=v) h.2;refine ⟨⟨fun ax=> ?_,h1⟩,fun a aq=> ?_⟩
   ·rcases J _ ax with aj|aj
    ·exact hk aj
    ·exact h.1 aj
   ·rcases arb.1 aq with aj|aj
    ·exact .inr (by rw[aj];simp)
    ·rcases J _ aj with aM|aM
     ·exact .inl aM
     ·exact .inr (by simp[aM])
theorem ah3 (N:Nat) (bj:3000<=N) {l:List aC} (ah:l.length<=96) {on:List Int} {out:jg} {cV:List aW} (ai:rv l on out) (ar:vn out cV) {i p:Int} {x:aC} (aI:0<=i) (n1:i∉on) (U:l[i.toNat]? =aqV x) (ap:(x.kind=2/\(p=1\/p=2))\/(x.kind=3/\p=4)):
  (xL N i p out=aqV (17,out)/\gz cV i≠0/\gz cV i≠p)\/
  (∃mz,xL N i p out=aqV (0,dA out i p)/\(gz cV i=0\/gz cV i=p)/\rn N cV (aW.mk i p)=aqV mz/\rv l on (dA out i p)/\vn (dA out i p) mz/\∀j q,bw out j=aqV q->bw (dA out i p) j=aqV q):=by
 have Fi:=ar.at ai i;have hlen:=ai.len ar;have dt:Hz N p ((bw out i).getD 0) (bw out i).isSome=aqV (decide (∃q,bw out i=aqV q/\q≠p)):=by
  unfold Hz;cases aH:bw out i with
  |none=>simp
  |some q=>simp only[aud,if_true,asm];congr 1;rw[arV];simp
 unfold xL;rw[bP,bP,dt,al];by_cases ab:∃q,bw out i=aqV q/\q≠p
 ·rw[if_pos (by simpa using ab)];obtain ⟨q,aJ,rY⟩:=ab;have tR:q≠0:=by
   obtain ⟨_,_,y,_,h|h⟩:=ai.ok i q aJ<;>omega
  refine .inl ⟨rfl, ?_, ?_⟩
  ·rw[Fi,aJ];exact tR
  ·rw[Fi,aJ];exact rY
 ·rw[if_neg (by simpa using ab),bP];have Mh:∀j q,bw out j=aqV q->bw (dA out i p) j=aqV q:=fun j q av=>by
   rw[ix];by_cases h:i=j
   ·subst h;have rY:q=p:=auw fun rY=>ab ⟨q,av,rY⟩;rw[if_pos rfl,rY]
   ·rw[if_neg h];exact av
  have lX:rv l on (dA out i p):=by
   refine ⟨(Wp ai.fF).1,fun j q av=> ?_⟩;rw[ix] at av;split at av
   ·rename_i h;subst h;cases av;exact ⟨aI,n1,x,U,ap⟩
   ·exact ai.ok j q av
  cases aH:bw out i with
  |none=>
   have hW:∀y∈cV,y.ak≠(aW.mk i p).ak:=fun y ag he=>by have:=(ar.mem y).1 ag;rw[show y.ak=i from he,aH] at this;cases this
   obtain ⟨mz,h1,J,aj,aM⟩:=Pe N (by omega) (by omega) ar.lt hW;refine .inr ⟨mz,rfl, .inl (by rw[Fi,aH];rfl),h1,lX,⟨J,fun y=> ?_⟩,Mh⟩;rw[aj,ix];constructor
   ·rintro (rfl|ag)
    ·rw[if_pos rfl]
    ·rw[if_neg (fun he=>hW y ag he.symm)];exact (ar.mem y).1 ag
   ·intro h;split at h
    ·rename_i he;cases h;left;cases y;simp only at he;rw[he]
    ·exact .inr ((ar.mem y).2 h)
  |some q=>
   have rY:q=p:=auw fun rY=>ab ⟨q,aH,rY⟩;subst rY;have ag:aW.mk i q∈cV:=(ar.mem _).2 aH;refine .inr ⟨cV,rfl, .inr (by rw[Fi,aH];rfl),agt N (by omega) (by omega) ar.lt ag rfl,lX,⟨ar.lt,fun y=> ?_⟩,Mh⟩;rw[ar.mem,ix];by_cases h:i=y.ak
   ·rw[if_pos h,<-h,aH]
   ·rw[if_neg h]
end Go.W
end
section
namespace Go.W
open Go.aS
def gp (d:ig) (v:cd):Prop:=(bw d v).getD aqZ=aqW
instance (d:ig) (v:cd):Decidable (gp d v):=by unfold gp;infer_instance
def tm (t:la) (v:cd):Prop:=(bw t (dx.mk v.ak v.node)).getD aqZ=aqW
instance (t:la) (v:cd):Decidable (tm t v):=by unfold tm;infer_instance
def jK (l:List aC) (on:List Int) (v:cd):Prop:=bu l v.ak v.node<0\/bu l v.ak v.node∈on
instance (l:List aC) (on:List Int) (v:cd):Decidable (jK l on v):=by unfold jK;infer_instance
def AO (l:List aC) (on:List Int) (d:ig) (v:cd):Prop:=jK l on v\/gp d v
structure xZ (l:List aC) (on:List Int) (d:ig) (o:jg) (t:la) (cV:List aW):Prop where
 Lo:∀v,gp d v->tm t v
 JK:∀v,tm t v->gp d v\/jK l on v
 ok:rv l on o
 fF:vn o cV
def AN (l:List aC) (on:List Int) (d:ig) (o:jg) (v:cd):Prop:=
 ¬jK l on v/\∃x,l[(bu l v.ak v.node).toNat]? =aqV x/\x.kind≠1/\(x.kind=3->bw o (bu l v.ak v.node)=aqV 4)/\(x.kind=2->v.node≠x.a->bw o (bu l v.ak v.node)=aqV (if v.node=x.b then 2 else 1))/\
  (x.kind=2->v.node=x.a->AO l on d (cd.mk (bu l v.ak v.node) x.b)/\AO l on d (cd.mk (bu l v.ak v.node) x.c))
theorem AN.mono {l:List aC} {on:List Int} {d cD:ig} {o o':jg} {v:cd} (h:AN l on d o v) (aB:∀u,gp d u->gp cD u) (ai:∀j q,bw o j=aqV q->bw o' j=aqV q):AN l on cD o' v:=by
 obtain ⟨aI,x,h1,J,aj,aM,bq⟩:=h;exact ⟨aI,x,h1,J,fun hk=>ai _ _ (aj hk),fun hk aq=>ai _ _ (aM hk aq),fun hk aq=>⟨(bq hk aq).1.imp id (aB _),(bq hk aq).2.imp id (aB _)⟩⟩
structure vi (l:List aC) (on:List Int) (d:ig) (o:jg) (cD:ig) (o':jg):Prop where
 sub:∀u,gp d u->gp cD u
 mono:∀j q,bw o j=aqV q->bw o' j=aqV q
 rG:∀u,gp cD u->¬gp d u->AN l on cD o' u
theorem vi.refl {l:List aC} {on:List Int} (d:ig) (o:jg):vi l on d o d o:=⟨fun _ h=>h,fun _ _ h=>h,fun u h1 J=>absurd h1 J⟩
theorem vi.trans {l:List aC} {on:List Int} {d d1 d2:ig} {o gm gW:jg} (h:vi l on d o d1 gm) (k:vi l on d1 gm d2 gW):vi l on d o d2 gW:=
 ⟨fun u hu=>k.sub u (h.sub u hu),fun j q aJ=>k.mono j q (h.mono j q aJ),fun u h1 J=>by
  by_cases aj:gp d1 u
  ·exact (h.rG u aj J).mono k.sub k.mono
  ·exact k.rG u h1 aj⟩
theorem uA {d:ig} {v u:cd}:gp (dA d v aqW) u↔(v=u\/gp d u):=by
 unfold gp;rw[ix];by_cases h:v=u<;>simp[h]
theorem Da {t:la} {v u:cd}:tm (dA t (dx.mk v.ak v.node) aqW) u↔(v=u\/tm t u):=by
 unfold tm;rw[ix];have:dx.mk v.ak v.node=dx.mk u.ak u.node↔v=u:=by cases v;cases u;simp
 by_cases h:v=u
 ·rw[if_pos (this.2 h)];simp[h]
 ·rw[if_neg (fun ax=>h (this.1 ax))];simp[h]
theorem Px {x:aC} (h:iZ x=aqW):x.kind=1\/x.kind=2\/x.kind=3:=by
 have:=(l5 h).2.2.1;unfold bT at this;split at this
 ·rename_i h;rcases h with h|h<;>simp[h]
 ·split at this
  ·rename_i h;simp[h]
  ·exact absurd rfl this
def qW (l:List aC) (d:ig):Nat:=((iH l).filter fun u=> !decide (gp d u)).length
theorem af0 {l:List aC} {d cD:ig} (h:∀u,gp d u->gp cD u):qW l cD<=qW l d:=by
 unfold qW;refine Gs fun u hu=> ?_;simp only[ar8,decide_eq_false_iff_not] at hu⊢;exact fun ax=>hu (h u ax)
theorem ahc {l:List aC} {d:ig} {v:cd} (ad:v∈iH l) (ar:¬gp d v):qW l (dA d v aqW)<qW l d:=by
 unfold qW;refine filter_lt ad (fun u hu=> ?_) (by simpa using ar) ?_
 ·simp only[ar8,decide_eq_false_iff_not] at hu⊢;exact fun h=>hu (uA.2 (.inr h))
 ·simp only[Bool.not_eq_false',decide_eq_true_eq];exact uA.2 (.inl rfl)
theorem aim (l:List aC) (ah:l.length<=96) (d:ig):qW l d<=288:=by
 have h1:=qz l;have J:=atK (fun u=> !decide (gp d u)) (iH l);unfold qW;omega
def ug (N bM:Nat) (l:List aC) (pa:AS) (v:cd) (d:ig) (o:jg):Option (Int×ig×jg):=tg N bM v l [] [] d pa [] o
def u0 (N bM:Nat) (l:List aC) (r:List aU) (cV:List aW) (v:cd) (t:la):Option (Int×dK×la):=lL N bM (dK.mk l r cV []) v.ak v.node t
def Q4 (l:List aC) (r:List aU) (d:ig) (o:jg) (v:cd) (p:Option (Int×ig×jg)) (q:Option (Int×dK×la)):Prop:=
 (∃e cD o' g c7,e≠0/\p=aqV (e,cD,o')/\q=aqV (e,g,c7))\/
 (∃cD o' c7 mz,p=aqV (0,cD,o')/\q=aqV (0,dK.mk l r mz [],c7)/\xZ l (bR r) cD o' c7 mz/\vi l (bR r) d o cD o'/\AO l (bR r) cD v)
theorem amR (N:Nat) (self:dK->Int->Int->la->Option (Int×dK×la)) (p a:Int):Dw N self p a=aqV (decide (a≠0/\a≠p)):=by
 unfold Dw;by_cases h:a=0
 ·rw[if_neg (by simpa using h)];simp[h]
 ·rw[if_pos (by simpa using h)];congr 1;rw[arV];simp[h]
theorem Lv (N:Nat) (bj:3000<=N) {l:List aC} (bt:dV l) {r:List aU} (an:r.length<=1000) {pa:AS} (n1:AT pa (bR r)):
  ∀(bM:Nat) (v:cd) (d:ig) (o:jg) (t:la) (cV:List aW),v∈iH l->xZ l (bR r) d o t cV->qW l d<bM->Q4 l r d o v (ug N bM l pa v d o) (u0 N bM l r cV v t)
 |0,_,_,_,_,_,_,_,h=>by omega
 |bM+1,v,d,o,t,cV,ad,gI,ap9=>by
  have ah:=bt.len;unfold ug u0;rw[tg,lL,GY N (by omega) (by omega),al,bP];have dt:HA N (tg N bM) v (bu l v.ak v.node) d pa=aqV (decide (gp d v\/jK l (bR r) v)):=by
   unfold HA;rw[bP];by_cases h:(bw d v).getD aqZ=aqW
   ·rw[if_pos h];simp[gp,h]
   ·rw[if_neg h];by_cases J:bu l v.ak v.node<0
    ·rw[if_pos (cH J)];simp[jK,J]
    ·rw[if_neg (cF J),bP,n1,atd];congr 1;rw[arV];simp[gp,jK,h,J]
  rw[dt,al];by_cases c:gp d v\/jK l (bR r) v
  ·rw[if_pos (by simpa using c),bP];by_cases ay:(bw t (dx.mk v.ak v.node)).getD aqZ=aqW
   ·rw[if_pos ay];exact .inr ⟨d,o,t,cV,rfl,rfl,gI, .refl d o,c.symm⟩
   ·rw[if_neg ay,bP];dsimp only;rw[uu N (by omega) (by omega),al];have hK:jK l (bR r) v:=c.resolve_left fun h=>ay (gI.Lo v h);have aX:zO N (lL N bM) (dK.mk l r cV []) (bu l v.ak v.node)=aqV aqW:=by
     unfold zO;by_cases J:bu l v.ak v.node<0
     ·rw[if_pos (cH J)]
     ·rw[if_neg (cF J)];dsimp only;rw[ur N (by omega) (by omega),al,atd];have:=hK.resolve_left J;simp[this]
    rw[aX,al,if_pos rfl];refine .inr ⟨d,o,_,cV,rfl,rfl,⟨fun u hu=>Da.2 (.inr (gI.Lo u hu)),fun u hu=> ?_,gI.ok,gI.fF⟩, .refl d o, .inl hK⟩;rcases Da.1 hu with h|h
    ·subst h;exact .inr hK
    ·exact gI.JK u h
  ·rw[if_neg (by simpa using c)];have kd:¬gp d v:=fun h=>c (.inl h);have BX:¬jK l (bR r) v:=fun h=>c (.inr h);have UB:¬(bw t (dx.mk v.ak v.node)).getD aqZ=aqW:=fun h=>c (gI.JK v h);have aI:0<=bu l v.ak v.node:=by unfold jK at BX;omega
   have ke:bu l v.ak v.node∉bR r:=fun h=>BX (.inr h);rw[bP,if_neg UB,bP];dsimp only;rw[uu N (by omega) (by omega),al];have aX:zO N (lL N bM) (dK.mk l r cV []) (bu l v.ak v.node)=aqV aqZ:=by unfold zO;rw[if_neg (cF (by omega))];dsimp only;rw[ur N (by omega) (by omega),al,atd];simp[ke]
   obtain ⟨x,U,v7,kW,r2⟩:=Pf aI;rw[aX,al,if_neg (by simp),v7,al,al,bP];obtain ⟨d0,vJ⟩:∃d0,d0=dA d v aqW:=⟨_,rfl⟩
   obtain ⟨t0,MB⟩:∃t0,t0=dA t (dx.mk v.ak v.node) aqW:=⟨_,rfl⟩
   rw[<-vJ,<-MB];have B7:∀u,gp d u->gp d0 u:=fun u hu=>by rw[vJ];exact uA.2 (.inr hu)
   have iL:gp d0 v:=by rw[vJ];exact uA.2 (.inl rfl)
   have hW:∀u,gp d0 u->¬gp d u->u=v:=fun u h1 J=>by
    rw[vJ] at h1;rcases uA.1 h1 with h|h
    ·exact h.symm
    ·exact absurd h J
   have TY:∀{o' mz},rv l (bR r) o'->vn o' mz->xZ l (bR r) d0 o' t0 mz:=fun h1 J=>by
    refine ⟨fun u hu=> ?_,fun u hu=> ?_,h1,J⟩
    ·rw[vJ] at hu;rw[MB];rcases uA.1 hu with h|h
     ·exact Da.2 (.inl h)
     ·exact Da.2 (.inr (gI.Lo u h))
    ·rw[MB] at hu;rw[vJ];rcases Da.1 hu with h|h
     ·exact .inl (uA.2 (.inl h))
     ·exact (gI.JK u h).imp (fun h=>uA.2 (.inr h)) id
   have Us:qW l d0<bM:=by have:=ahc ad kd;rw[<-vJ] at this;omega
   have rZ:=bt.snd x r2;have step:∀p,((x.kind=2/\(p=1\/p=2))\/(x.kind=3/\p=4))->x.kind≠1->(x.kind=3->p=4)->(x.kind=2->v.node≠x.a/\p=if v.node=x.b then 2 else 1)->
     ∀q,(q=aq0 (xV N cV (bu l v.ak v.node)) fun fq=>aq0 (Dw N (lL N bM) p fq) fun fb=>if fb=aqW then aqV (17,dK.mk l r cV [],t0) else aq0 (rn N cV (aW.mk (bu l v.ak v.node) p)) fun gf=>aqV (0,dK.mk l r gf [],t0))->
     Q4 l r d o v (aq0 (xL N (bu l v.ak v.node) p o) fun cI=>aqV (cI.1,d0,cI.2)) q:=by
    intro p ap rP BN rQ q aJ;have lW:=gI.ok.len gI.fF;rw[aJ,PF N (by omega) (by omega),al,amR,al];rcases ah3 N bj ah gI.ok gI.fF aI ke U ap with ⟨g1,g2,g3⟩|⟨mz,g1,g2,g3,g4,g5,g6⟩
    ·rw[g1,al,if_pos (by simpa using ⟨g2,g3⟩)];exact .inl ⟨17,_,_,_,_,by omega,rfl,rfl⟩
    ·rw[g1,al,if_neg (by rw[decide_eq_true_eq];rintro ⟨h1,J⟩;rcases g2 with h|h;exact h1 h;exact J h),g3,al];refine .inr ⟨d0,_,t0,mz,rfl,rfl,TY g4 g5,⟨B7,g6,fun u h1 J=> ?_⟩, .inr iL⟩;rw[hW u h1 J];refine ⟨BX,x,U,rP,fun hk=> ?_,fun hk aq=> ?_,fun hk aq=>absurd aq (rQ hk).1⟩
     ·rw[ix,if_pos rfl,BN hk]
     ·rw[ix,if_pos rfl,(rQ hk).2]
   rcases Px rZ with hk|hk|hk
   ·rw[if_pos (by simpa using hk)];unfold zP;rw[bP,if_pos (by simpa using hk),al];exact .inl ⟨22,_,_,_,_,by omega,rfl,rfl⟩
   ·rw[if_neg (by simp[hk]),bP,if_neg (by simp[hk]),bP];have e2:Du N (lL N bM) v.node x=aqV (decide (v.node=x.a)):=by
     unfold Du;rw[if_pos (by simpa using hk),bP];congr 1
    have ij:Dv N (lL N bM) v.node x=aqV (decide (v.node=x.b)):=by unfold Dv;rw[if_pos (by simpa using hk),bP];congr 1
    by_cases aq:v.node=x.a
    ·rw[if_neg (by simpa using aq)];unfold zP;rw[bP,if_neg (by simp[hk]),e2,al,if_pos (by simpa using aq)];have he:bT x=[x.a,x.b,x.c]:=by unfold bT;rw[if_neg (by omega),if_pos hk]
     have adh:cd.mk (bu l v.ak v.node) x.b∈iH l:=by rw[wy];show x.b∈cU l (bu l v.ak v.node);rw[wW aI U,he];simp
     have adi:cd.mk (bu l v.ak v.node) x.c∈iH l:=by rw[wy];show x.c∈cU l (bu l v.ak v.node);rw[wW aI U,he];simp
     rcases Lv N bj bt an n1 bM _ d0 o t0 cV adh (TY gI.ok gI.fF) Us with ⟨e,cD,o',g,c7,h1,J,aj⟩|⟨d1,gm,t1,M0,J,aj,aM,bq,dv⟩
     ·unfold ug at J;unfold u0 at aj;simp only at J aj;rw[J,aj,al,al,if_pos (by simpa using h1),if_pos (by simpa using h1),al];exact .inl ⟨e,_,_,_,_,h1,rfl,rfl⟩
     ·unfold ug at J;unfold u0 at aj;simp only at J aj;rw[J,aj,al,al,if_neg (by simp),if_neg (by simp)];dsimp only;rcases Lv N bj bt an n1 bM _ d1 gm t1 M0 adi aM (as6 (af0 bq.sub) Us) with ⟨e,cD,o',g,c7,bs,bC,cQ⟩|⟨d2,gW,t2,ad6,bC,cQ,fy,np,Cf⟩
      ·unfold ug at bC;unfold u0 at cQ;simp only at bC cQ;rw[bC,cQ,al,al,al];exact .inl ⟨e,_,_,_,_,bs,rfl,rfl⟩
      ·unfold ug at bC;unfold u0 at cQ;simp only at bC cQ;rw[bC,cQ,al,al,al];have E5:=bq.trans np;refine .inr ⟨d2,gW,t2,ad6,rfl,rfl,fy,⟨fun u hu=>E5.sub u (B7 u hu),E5.mono,fun u c0 a2=> ?_⟩, .inr (E5.sub v iL)⟩;by_cases a3:gp d0 u
       ·rw[hW u a3 a2];refine ⟨BX,x,U,by omega,fun h=>by omega,fun _ h=>absurd aq h,fun _ _=>⟨dv.imp id (np.sub _),Cf⟩⟩
       ·exact E5.rG u c0 a3
    ·rw[if_pos (by simpa using aq)];unfold zP;rw[bP,if_neg (c:=(x.kind==1)=aqW) (by simp[hk]),e2,al,if_neg (c:=decide (v.node=x.a)=aqW) (by simpa using aq),ij,al];unfold pz;by_cases aa:v.node=x.b
     ·rw[if_pos (by simpa using aa),if_pos (by simpa using aa),al,al];exact step 2 (.inl ⟨hk, .inr rfl⟩) (by omega) (by omega) (fun _=>⟨aq,by rw[if_pos aa]⟩) _ rfl
     ·rw[if_neg (by simpa using aa),if_neg (by simpa using aa),al,bP,if_pos (by simpa using hk),al];exact step 1 (.inl ⟨hk, .inl rfl⟩) (by omega) (by omega) (fun _=>⟨aq,by rw[if_neg aa]⟩) _ rfl
   ·rw[if_neg (by simp[hk]),bP,if_pos (by simpa using hk)];unfold zP Du Dv;rw[bP,if_neg (by simp[hk]),if_neg (by simp[hk]),al,if_neg (by simp),if_neg (by simp[hk]),al,if_neg (by simp),bP,if_neg (by simp[hk]),al];exact step 4 (.inr ⟨hk,rfl⟩) (by omega) (fun _=>rfl) (fun h=>by omega) _ rfl
end Go.W
end
section
namespace Go.W
open Go.aS
def q7 (x:aC) (v:aU):Int:=if v.bp=x.b\/v.out=x.b then x.c else x.b
theorem ag4 (N:Nat) (x:aC) (v:aU):I6 N x v=aqV (q7 x v):=by
 have h:Ip N x v=aqV (decide (v.bp=x.b\/v.out=x.b)):=by
  unfold Ip;by_cases h:v.bp=x.b
  ·rw[if_pos (by simpa using h)];simp[h]
  ·rw[if_neg (by simpa using h)];congr 1;rw[arV];simp[h]
 unfold I6 q7;rw[h,al];by_cases h:v.bp=x.b\/v.out=x.b
 ·rw[if_pos (by simpa using h),if_pos h]
 ·rw[if_neg (by simpa using h),if_neg h]
structure pF (l:List aC) (r:List aU) (i:Nat) (d:ig) (o:jg):Prop where
 rG:∀u,gp d u->AN l (bR r) d o u
 LM:∀v∈r.take i,∀x,l[v.ak.toNat]? =aqV x->x.kind=2->AO l (bR r) d (cd.mk v.ak (q7 x v))
theorem NF (N:Nat) (bj:3000<=N) {l:List aC} (bt:dV l) {r:List aU} (an:r.length<=1000) (Mv:∀v∈r,0<=v.ak/\v.ak<l.length) {pa:AS} (n1:AT pa (bR r)):
  ∀(k n i:Nat) (d:ig) (o:jg) (t:la) (cV:List aW),k<n->i+k=r.length->xZ l (bR r) d o t cV->pF l r i d o->
  (∃e,e≠0/\sS N l r (r.length:Int) pa n [] i o [] d=aqV (.inr e)/\sU N l r n (dK.mk l r cV []) i t=aqV (.inr e))\/
  (∃cD o' c7 mz,sS N l r (r.length:Int) pa n [] i o [] d=aqV (.inl ([],o'))/\sU N l r n (dK.mk l r cV []) i t=aqV (.inl (dK.mk l r mz [],c7))/\xZ l (bR r) cD o' c7 mz/\pF l r r.length cD o')
 |k,0,i,d,o,t,cV,ar,_,_,_=>by omega
 |0,n+1,i,d,o,t,cV,ar,ae,gI,cc=>by
  obtain rfl:i=r.length:=by omega
  rw[sS,if_neg (cF (by omega)),sU,if_neg (cF (by omega))];exact .inr ⟨d,o,t,cV,rfl,rfl,gI,cc⟩
 |k+1,n+1,i,d,o,t,cV,ar,ae,gI,cc=>by
  have ah:=bt.len;have ad:=cM (xs:=r) (i:=i) (by omega);obtain ⟨v,MD⟩:∃v,v=r[i]:=⟨_,rfl⟩
  rw[<-MD] at ad;have n4:=are ad;obtain ⟨aI,h1⟩:=Mv v n4;obtain ⟨a,aq⟩:=arI aI;have U:=cM (xs:=l) (i:=a) (by omega);obtain ⟨x,kB⟩:∃x,x=l[a]:=⟨_,rfl⟩
  rw[<-kB] at U;have jZ:l[v.ak.toNat]? =aqV x:=by rw[aq,ar0];exact U
  have v7:=OA aI jZ;have gD:∀u,u∈r.take (i+1)↔u∈r.take i\/u=v:=fun u=>by rw[mE ad];simp
  rw[sS,if_pos (cH (by omega)),sU,if_pos (cH (by omega))];unfold P9 Qa;rw[cJ ad,al,v7,al,al,v7,al];by_cases hk:x.kind=2
  ·rw[if_pos (by simpa using hk),if_neg (by simp[hk]),ag4,al,al,Yc N v7,al];have ap:q2 x v=if v.bp=x.b\/v.out=x.b then 1 else 2:=by unfold q2;rw[if_neg (by omega),if_pos hk]
   have J:Il N x x.b (q2 x v==1)=aqV (q7 x v):=by
    unfold Il q7;by_cases h:v.bp=x.b\/v.out=x.b
    ·rw[if_pos (by rw[ap,if_pos h];rfl),if_pos h]
    ·rw[if_neg (by rw[ap,if_neg h];decide),if_neg h]
   rw[J,al,al];have he:bT x=[x.a,x.b,x.c]:=by unfold bT;rw[if_neg (by omega),if_pos hk]
   have lZ:cd.mk v.ak (q7 x v)∈iH l:=by rw[wy];show q7 x v∈cU l v.ak;rw[wW aI jZ,he];unfold q7;split<;>simp
   rcases Lv N bj bt an n1 N _ d o t cV lZ gI (by have:=aim l ah d;omega) with ⟨e,cD,o',g,c7,bs,bC,cQ⟩|⟨d1,gm,t1,M0,bC,cQ,fy,np,Cf⟩
   ·unfold ug at bC;unfold u0 at cQ;simp only at bC cQ;rw[bC,cQ,al,al,if_pos (by simpa using bs),if_pos (by simpa using bs),al,al];exact .inl ⟨e,bs,rfl,rfl⟩
   ·unfold ug at bC;unfold u0 at cQ;simp only at bC cQ;rw[bC,cQ,al,al,if_neg (by simp),if_neg (by simp),al,al];dsimp only;rw[dm (by omega),bP];refine NF N bj bt an Mv n1 k n (i+1) d1 gm t1 M0 (by omega) (by omega) fy ⟨fun u hu=> ?_,fun u hu y ag Fv=> ?_⟩
    ·by_cases h:gp d u
     ·exact (cc.rG u h).mono np.sub np.mono
     ·exact np.rG u hu h
    ·rcases (gD u).1 hu with hu|rfl
     ·exact (cc.LM u hu y ag Fv).imp id (np.sub _)
     ·rw[jZ] at ag;cases ag;exact Cf
  ·rw[if_neg (by simpa using hk),if_pos (by simpa using hk),al,al];dsimp only;rw[dm (by omega),bP];refine NF N bj bt an Mv n1 k n (i+1) d o t cV (by omega) (by omega) gI ⟨cc.rG,fun u hu y ag Fv=> ?_⟩;rcases (gD u).1 hu with hu|rfl
   ·exact cc.LM u hu y ag Fv
   ·rw[jZ] at ag;cases ag;exact absurd Fv hk
structure vp (l:List aC) (r:List aU) (s:List aW) (d:ig) (o:jg):Prop where
 lt:s.Pairwise fun a b=>a.ak<b.ak
 mem:∀y,y∈s↔y∈h8 l r\/bw o y.ak=aqV y.ej
 ok:rv l (bR r) o
 dI:pF l r r.length d o
theorem XB (N:Nat) (bj:3000<=N) {g:dK} (ah:g.cV.length<=1000) (aN:g.cV.Pairwise fun a b=>a.ak<b.ak):∀(k n i:Nat) (s:List aW),k<n->i+k=g.cV.length->s.length<=1000+i->(s.Pairwise fun a b=>a.ak<b.ak)->(∀y∈s,∀z∈g.cV.drop i,y.ak≠z.ak)->
  ∃b1,xb N g n s i=aqV b1/\(b1.Pairwise fun a b=>a.ak<b.ak)/\∀y,y∈b1↔y∈s\/y∈g.cV.drop i
 |k,0,i,s,ar,_,_,_,_=>by omega
 |0,n+1,i,s,ar,ae,ay,ap,aB=>by
  obtain rfl:i=g.cV.length:=by omega
  rw[xb,if_neg (cF (by omega))];exact ⟨s,rfl,ap,fun y=>by rw[asi];simp⟩
 |k+1,n+1,i,s,ar,ae,ay,ap,aB=>by
  have ad:=cM (xs:=g.cV) (i:=i) (by omega);obtain ⟨v,MD⟩:∃v,v=g.cV[i]:=⟨_,rfl⟩
  rw[<-MD] at ad;have qJ:g.cV.drop i=v::g.cV.drop (i+1):=jA ad;rw[qJ] at aB;obtain ⟨s1,h1,J,aj,aM⟩:=Pe N (s:=s) (x:=v) (by omega) (by omega) ap fun y ag=>aB y ag v arp;rw[xb,if_pos (cH (by omega)),cJ ad,al,h1,al,bP,dm (by omega)];have kd:(v::g.cV.drop (i+1)).Pairwise fun a b=>a.ak<b.ak:=by rw[<-qJ];exact aN.sublist (aut _ _)
  obtain ⟨b1,g1,g2,g3⟩:=XB N bj ah aN k n (i+1) s1 (by omega) (by omega) (by omega) J fun y ag z aF=>by
   rcases (aj y).1 ag with rfl|ag
   ·have:=(aue.1 kd).1 z aF;omega
   ·exact aB y ag z (ark _ aF)
  refine ⟨b1,g1,g2,fun y=> ?_⟩;rw[g3,aj,qJ,arb];constructor
  ·rintro ((h|h)|h)
   ·exact .inr (.inl h)
   ·exact .inl h
   ·exact .inr (.inr h)
  ·rintro (h|h|h)
   ·exact .inl (.inr h)
   ·exact .inl (.inl h)
   ·exact .inr h
theorem Ns {au bz:Type} [DecidableEq au]:∀{m:List (au×bz)},(m.map asj).Nodup->∀{p:au×bz},p∈m->bw m p.1=aqV p.2
 |[],_,p,h=>by cases h
 |q::m,aB,p,h=>by
  rw[arN,asU] at aB;simp only[bw];rcases arb.1 h with rfl|h
  ·rw[if_pos rfl]
  ·rw[if_neg (fun he=>aB.1 (by rw[he];exact arf.2 ⟨p,h,rfl⟩))];exact Ns aB.2 h
theorem VN {au bz:Type} [DecidableEq au]:∀{m:List (au×bz)} {a:au} {b:bz},bw m a=aqV b->(a,b)∈m
 |[],a,b,h=>by simp[bw] at h
 |q::m,a,b,h=>by
  simp only[bw] at h;split at h
  ·rename_i aJ;cases h;rw[<-aJ];simp
  ·exact ark _ (VN h)
theorem agm {l:List aC} {r:List aU} {y:aW} (h:y∈h8 l r):y.ak∈bR r:=(Gk l r).subset (arf.2 ⟨y,h,rfl⟩)
theorem afm (N:Nat) (bj:6000<=N) {l:List aC} (ah:l.length<=96) {r:List aU} (an:r.length<=1000) (gQ:∀x∈l,x.name.length<N/\x.name.length<=9223372036854775807):
  (¬iG l r/\mQ N l r=aqV ([],1)/\oE N l r=aqV ([],1))\/(iG l r/\∃e,e≠0/\mQ N l r=aqV ([],e)/\oE N l r=aqV ([],e))\/
  (iG l r/\∃s d o,mQ N l r=aqV (s,0)/\oE N l r=aqV (s,0)/\vp l r s d o/\s.length<=1000):=by
 obtain ⟨b,mK,dt,c8,dR,gX,hX,za⟩:=ahR N (l:=l) (r:=r) (by omega) (by omega) (by omega) (fun _=>gQ);by_cases br:iG l r
 ·have bt:=dV.of br.1;have ay:=Wc N (by omega) bt br (by omega);rw[gX] at ay;cases ay;obtain ⟨own,qQ⟩:∃own,own=lG (h8 l r):=⟨_,rfl⟩
  rw[<-qQ] at gX hX za;have ab':((h8 l r).map aW.ak).Nodup:=(Gk l r).nodup br.2.2;have Vl:own.Pairwise fun a b=>a.ak<b.ak:=by rw[qQ];exact zi ab'
  have M9:∀y,y∈own↔y∈h8 l r:=fun y=>by rw[qQ];exact Cw
  unfold mQ oE;rw[gX,hX,al,al,if_neg (by simp),if_neg (by simp)];unfold Ay;obtain ⟨pa,gm,gW⟩:=aho N (r:=r) (by omega) (by omega);rw[gm,al];have gI:xZ l (bR r) [] [] [] []:=⟨fun v h=>by simp[gp,bw] at h,fun v h=>by simp[tm,bw] at h,⟨by simp,fun i p h=>by simp[bw] at h⟩,⟨List.Pairwise.nil,fun y=>by simp[bw]⟩⟩
  rcases NF N (by omega) bt an br.2.1.ok gW r.length N 0 [] [] [] [] (by omega) (by omega) gI ⟨fun u h=>by simp[gp,bw] at h,fun v h=>by simp at h⟩ with ⟨e,bs,bC,cQ⟩|⟨d,o,t,cV,bC,cQ,fy,np⟩
  ·rw[show sS N l r (r.length:Int) pa N [] 0 [] [] []=_ from bC,show sU N l r N (dK.mk l r [] []) 0 []=_ from cQ,al,al];dsimp only;rw[al,if_pos (by simpa using bs)];exact .inr (.inl ⟨br,e,bs,rfl,rfl⟩)
  ·rw[show sS N l r (r.length:Int) pa N [] 0 [] [] []=_ from bC,show sU N l r N (dK.mk l r [] []) 0 []=_ from cQ,al,al];dsimp only;rw[al,if_neg (by simp)];have aqc:=fy.ok.len fy.fF;have Ub:∀y∈own,∀p,bw o y.ak≠aqV p:=fun y ag p ap=>(fy.ok.ok _ _ ap).2.1 (agm ((M9 y).1 ag));obtain ⟨b1,cm,cw,dW⟩:=XB N (by omega) (g:=dK.mk l r cV []) (by show cV.length<=1000;omega) fy.fF.lt cV.length N 0 own (by omega) (by show 0+cV.length=cV.length;omega) (by omega) Vl fun y ag z aF=>by
    have aF:z∈cV:=by simpa using aF
    intro he;have:=(fy.fF.mem z).1 aF;rw[<-he] at this;exact Ub y ag _ this
   have dW:∀y,y∈b1↔y∈own\/y∈cV:=fun y=>by simpa using dW y
   dsimp only;rw[show xb N (dK.mk l r cV []) N own 0=_ from cm,al];have aqf:o.length<=96:=by
    have:=sj (b:=(arC l.length).map fun (i:Nat)=>(i:Int)) fy.ok.fF fun a aq=>by obtain ⟨v,ad⟩:=uq.2 aq;obtain ⟨aI,_,x,U,_⟩:=fy.ok.ok _ _ ad;have:=(aq5.1 U).1;exact arf.2 ⟨a.toNat,asb.2 this,by omega⟩
    simp at this;omega
   have jP:((own++o.map fun p=>aW.mk p.1 p.2).map aW.ak).Nodup:=by
    rw[ar',ar1];refine ⟨?_, ?_, ?_⟩
    ·unfold List.Nodup;rw[atF];exact Vl.imp fun h he=>by omega
    ·rw[List.map_map];exact fy.ok.fF
    ·intro a aq c ab LK;obtain ⟨y,ag,rfl⟩:=arf.1 aq;obtain ⟨z,aF,rfl⟩:=arf.1 ab;obtain ⟨p,ap,rfl⟩:=arf.1 aF;have:=Ns fy.ok.fF ap;exact Ub y ag p.2 (by rw[LK];exact this)
   have aF:Dy N own o=aqV (lG (own++o.map fun p=>aW.mk p.1 p.2),0):=by unfold Dy Aa;rw[if_pos ⟨by omega,jP⟩];unfold kn;rw[if_pos (by rw[aro,arP];omega),al];rfl
   rw[aF,al];have hL:∀y,y∈lG (own++o.map fun p=>aW.mk p.1 p.2)↔y∈h8 l r\/bw o y.ak=aqV y.ej:=fun y=>by
    rw[Cw,arj,M9];constructor
    ·rintro (h|h)
     ·exact .inl h
     ·obtain ⟨p,ap,rfl⟩:=arf.1 h;exact .inr (Ns fy.ok.fF ap)
    ·rintro (h|h)
     ·exact .inl h
     ·exact .inr (arf.2 ⟨_,VN h,rfl⟩)
   have dn:lG (own++o.map fun p=>aW.mk p.1 p.2)=b1:=Gi (zi jP) cw fun y=>by rw[hL,dW,M9,fy.fF.mem]
   refine .inr (.inr ⟨br,_,d,o,rfl,by rw[dn],⟨zi jP,hL,fy.ok,np⟩, ?_⟩);rw[V6,aro,arP];omega
 ·have aa:b=aqZ:=by
   obtain ⟨b6,h1,J⟩:=OT N (l:=l) (r:=r) (by omega) (by omega) (by omega);rw[c8] at h1;cases h1;cases b with
   |false=>rfl
   |true=>exact absurd (J.1 rfl) br
  subst aa;have he:mK=[]/\dt=1:=by unfold th at gX;rw[c8,al,if_pos (by simp)] at gX;cases gX;exact ⟨rfl,rfl⟩
  obtain ⟨rfl,rfl⟩:=he;refine .inl ⟨br, ?_, ?_⟩
  ·unfold mQ;rw[gX,al,if_pos (by simp)]
  ·unfold oE;rw[hX,al,if_pos (by simp)]
end Go.W
end
section
namespace Go.W
open Go.aS
theorem Y9 {l:List aC} (bt:dV l) {N:Nat} (bj:20<=N):∀x∈l,x.name.length<N/\x.name.length<=9223372036854775807:=fun x U=>by
 have h1:=(l5 (bt.snd x U)).2.2.2;unfold k3 at h1;simp only[ara,decide_eq_true_eq] at h1;omega
theorem pE.of {l:List aC} {s:List aW} (h1:∀y∈s,ly l y) (J:s.Pairwise fun a b=>a.ak<b.ak):pE l s:=fun i y ag=>by
 refine ⟨h1 y (are ag),fun z aF he=> ?_⟩;obtain ⟨j,av,aF⟩:=Ox.1 aF;obtain ⟨jk,im⟩:=aq5.1 ag;obtain ⟨gA,nd⟩:=aq5.1 aF;have:=arT.1 J j i gA jk av;rw[im,nd] at this;omega
theorem YL {q:List aW} (h:q.Pairwise fun a b=>a.ak<b.ak) (ah:q.length<=1000): @kn aW ⟨aW.mk 0 0⟩ (fun a b=>fW a.ak b.ak) q=aqV q:=by
 have ar:(q.map aW.ak).Nodup:=by unfold List.Nodup;rw[atF];exact h.imp fun h he=>by omega
 have e:lG q=q:=Gi (zi ar) h fun x=>Cw;unfold kn;rw[if_pos (by omega)];exact congrArg aqV e
end Go.W
end
section
namespace Go.W
open Go.aS
theorem NQ {r:List aU} {k:Int}:k∈bR r↔∃(j:Nat) (v:aU),r[j]? =aqV v/\v.ak=k:=by
 unfold bR;rw[arf];constructor
 ·rintro ⟨v,ad,rfl⟩;obtain ⟨j,av⟩:=arS ad;exact ⟨j,v,av,rfl⟩
 ·rintro ⟨j,v,av,rfl⟩;exact ⟨v,are av,rfl⟩
theorem aeU {l:List aC} {r:List aU} (br:iG l r) {k n:Int} (hk:k∈bR r) (aP:k≠(eB r).1) (ah:k≠(eB r).2) (ar:n∈cU l k) (ai:bu l k n∉bR r):∃v∈r,∃x,v.ak=k/\l[k.toNat]? =aqV x/\x.kind=2/\n=q7 x v:=by
 have bt:=dV.of br.1;have ct:=br.2.1;obtain ⟨j,v,av,rfl⟩:=NQ.1 hk;have gA:=(aq5.1 av).1;have dt:=cM (xs:=r) (i:=0) (by omega);have aX:=cM (xs:=r) (i:=r.length - 1) (by omega);have he:eB r=(r[0].ak,r[r.length - 1].ak):=by unfold eB;rw[dt,aX];rfl
 rw[he] at aP ah;have eo:0<j:=by refine Nat.pos_of_ne_zero fun h=> ?_;subst h;rw[dt] at av;cases av;exact aP rfl
 have gu:j+1<r.length:=by
  refine Nat.lt_of_not_le fun h=> ?_;have:j=r.length - 1:=by omega
  subst this;rw[aX] at av;cases av;exact ah rfl
 have ap:=cM (xs:=r) (i:=j - 1) (by omega);have aJ:=cM (xs:=r) (i:=j+1) gu;have s1:=ct.step (j - 1) _ v ap (by rw[show j - 1+1=j by omega];exact av);have s2:=ct.step j v _ av aJ;have BT:=ct.mid j v eo gu av;have Ul:=bt.ZE BT;have hL:=zt BT;have j1:bu l v.ak v.bp∈bR r:=by
  have fC:=ct.outs (i:=j - 1) (by omega) ap;have aI:0<=bu l r[j - 1].ak r[j - 1].out:=by rw[<-s1.2.2];exact s1.2.1
  have:=bt.ud fC aI;rw[<-s1.2.2,<-s1.1] at this;rw[this];exact NQ.2 ⟨j - 1,_,ap,rfl⟩
 have iX:bu l v.ak v.out∈bR r:=by rw[<-s2.2.2];exact NQ.2 ⟨j+1,_,aJ,rfl⟩
 have d1:n≠v.bp:=fun h=>ai (by rw[h];exact j1);have d2:n≠v.out:=fun h=>ai (by rw[h];exact iX);obtain ⟨aI,h1,x,U,kW⟩:=jC ar;have rZ:=bt.snd x (are U);have kU:=wW aI U;unfold e3 at BT;rw[kU] at BT hL;rcases Px rZ with hk|hk|hk
 ·have:bT x=[x.a,x.b]:=by unfold bT;rw[if_pos (.inl hk)]
  rw[this] at hL kW;simp only[arb,asF,or_false] at hL kW;have:=Ul.2;omega
 ·refine ⟨v,are av,x,rfl,U,hk, ?_⟩;have:bT x=[x.a,x.b,x.c]:=by unfold bT;rw[if_neg (by omega),if_pos hk]
  obtain ⟨cm,cw,dW,ab⟩:=Nn rZ hk BT;rw[this] at kW;simp only[arb,asF,or_false] at kW;unfold q7;rcases ab with ⟨c1,_,c2⟩|⟨c1,c2⟩|⟨c1,c2⟩
  ·split<;>omega
  ·rw[if_pos (.inl c1)];omega
  ·rw[if_neg (by omega)];omega
 ·have:bT x=[x.a,x.b]:=by unfold bT;rw[if_pos (.inr hk)]
  rw[this] at hL kW;simp only[arb,asF,or_false] at hL kW;have:=Ul.2;omega
theorem ahy {l:List aC} {r:List aU} (br:iG l r) {d:ig} {o:jg} (bj:pF l r r.length d o) {p:Int->Int} (ap:∀i q,bw o i=aqV q->p i=q) {v:cd} (h:iS (gZ l (bR r) p (eB r).1 (eB r).2 (id:cd->cd)) v):
  v.node∈cU l v.ak->v.ak∉bR r->gp d (cd.mk (bu l v.ak v.node) v.node):=by
 have bt:=dV.of br.1;induction h with
 | @here v aB aP ax=>
  intro ar ke;have aI:0<=bu l v.ak v.node:=by simpa[gZ] using aB
  have hk:bu l v.ak v.node∈bR r:=by simpa[gZ] using aP
  have ax:bu l v.ak v.node≠(eB r).1/\bu l v.ak v.node≠(eB r).2:=by simpa[gZ] using ax
  have ay:=bt.ud ar aI;obtain ⟨w,hw,x,h1,J,aj,aM⟩:=aeU br hk ax.1 ax.2 (zx aI).1 (by rw[ay];exact ke);rcases bj.LM w (by rw[asM];exact hw) x (by rw[h1];exact J) aj with ao|gP
  ·exfalso;unfold jK at ao;simp only[h1,<-aM,ay] at ao;rcases ao with ao|ao
   ·have:=(jC ar).1;omega
   ·exact ke ao
  ·rw[h1,<-aM] at gP;exact gP
 | @step v u aB aP hu an a8=>
  intro ar ke;have aI:0<=bu l v.ak v.node:=by simpa[gZ] using aB
  have rS:bu l v.ak v.node∉bR r:=by simpa[gZ] using aP
  have ay:=bt.ud ar aI;obtain ⟨m,hm,rfl⟩:=arf.1 hu;obtain ⟨k,hk⟩:∃k,k=bu l v.ak v.node:=⟨_,rfl⟩
  rw[<-hk] at hm a8 aI rS ay⊢;have UA:v.node∈cU l k:=by rw[hk];exact (zx (by rw[<-hk];exact aI)).1
  obtain ⟨x,U⟩:∃x,l[k.toNat]? =aqV x:=by obtain ⟨_,_,x,U,_⟩:=jC UA;exact ⟨x,U⟩
  have kU:=wW aI U;have gC:m∈p7 x (p k) v.node:=by unfold Cp at hm;rw[if_pos aI,U] at hm;exact hm
  have yM:m∈cU l k:=by rw[kU];exact Xv gC
  have gP:=a8 yM rS;simp only at gP;obtain ⟨BX,y,ag,c1,lb,c2,tA⟩:=bj.rG _ gP;have acd:0<=bu l k m:=by have:=an.live;rw[<-hk] at this;simpa[gZ] using this
  have ac3:=bt.ud yM acd;simp only[ac3] at ag lb c2 tA;rw[U] at ag;cases ag;have rZ:=bt.snd x (are U);rcases Px rZ with oX|oX|oX
  ·exact absurd oX c1
  ·have he:bT x=[x.a,x.b,x.c]:=by unfold bT;rw[if_neg (by omega),if_pos oX]
   have kd:=(l5 rZ).1;rw[he] at kd;simp at kd;have kW:v.node∈bT x:=by rw[<-kU];exact UA
   rw[he] at kW;simp only[arb,asF,or_false] at kW;by_cases aq:m=x.a
   ·have aa:v.node≠x.a:=by
     intro ki;unfold p7 at gC;rw[if_neg (by omega)] at gC;split at gC
     ·have:=arX.1 gC;omega
     ·split at gC
      ·have:=arX.1 gC;omega
      ·obtain ⟨cm,cw,dW,ab⟩:=Nn rZ oX gC;omega
    have ax:=tA oX aq;have hw:AO l (bR r) d (cd.mk k v.node):=by
     rcases kW with h|h|h
     ·exact absurd h aa
     ·rw[h];exact ax.1
     ·rw[h];exact ax.2
    rcases hw with ao|hw
    ·exfalso;unfold jK at ao;simp only[ay] at ao;rcases ao with ao|ao
     ·have:=(jC ar).1;omega
     ·exact ke ao
    ·exact hw
   ·exfalso;have nh:=ap _ _ (c2 oX aq);unfold p7 at gC;rw[if_neg (by omega)] at gC;split at gC
    ·rename_i h;have:=arX.1 gC;rw[if_pos this] at nh;omega
    ·split at gC
     ·rename_i h1 h;have:=arX.1 gC;have dE:m≠x.b:=by omega
      rw[if_neg dE] at nh;omega
     ·rename_i h1 J;obtain ⟨cm,cw,dW,ab⟩:=Nn rZ oX gC;rcases ab with ⟨aX,_,e2⟩|⟨_,e⟩|⟨_,e⟩
      ·rcases e2 with e2|e2
       ·rw[if_pos e2] at nh;exact J ⟨oX,aX,nh⟩
       ·rw[if_neg (by omega)] at nh;exact h1 ⟨oX,aX,nh⟩
      ·exact aq e
      ·exact aq e
  ·exfalso;have nh:=ap _ _ (lb oX);unfold p7 at gC;rw[if_pos ⟨oX,nh⟩] at gC;cases gC
theorem Pb {s:List aW} (ay:s.Pairwise fun a b=>a.ak<b.ak) {y:aW} (ag:y∈s):gz s y.ak=y.ej:=by
 unfold gz;cases aP:s.find? (fun z=>z.ak==y.ak) with
 |none=>have:=auu.1 aP y ag;simp at this
 |some z=>have h1:=auv aP;have J:=List.find?_some aP;rw[afy ay h1 ag (by simpa using J)]
theorem agl {l:List aC} {r:List aU} (ct:kr l r) {y:aW} (h:y∈h8 l r):ly l y:=by
 obtain ⟨v,ad,ag⟩:=asD.1 h;have he:=O2 ag;obtain ⟨aI,h1⟩:=ct.ok v ad;unfold pw at ag;split at ag
 ·rename_i x U;refine ⟨by rw[he];exact aI,x,by rw[he];exact U, ?_⟩;unfold s9 at ag;split at ag
  ·rename_i hk;have:=arX.1 ag;subst this;exact .inr ⟨hk, .inl rfl⟩
  ·split at ag
   ·rename_i hk;split at ag
    ·have:=arX.1 ag;subst this;exact .inl ⟨hk, .inl rfl⟩
    ·have:=arX.1 ag;subst this;exact .inl ⟨hk, .inr rfl⟩
   ·cases ag
 ·cases ag
theorem vp.ly {l:List aC} {r:List aU} (ct:kr l r) {s:List aW} {d:ig} {o:jg} (h:vp l r s d o):∀y∈s,ly l y:=fun y ag=>by
 rcases (h.mem y).1 ag with ag|ag
 ·exact agl ct ag
 ·obtain ⟨aI,_,x,U,hk⟩:=h.ok.ok _ _ ag;refine ⟨aI,x,U, ?_⟩;rcases hk with hk|hk
  ·exact .inl hk
  ·exact .inr ⟨hk.1, .inr hk.2⟩
theorem aeK {l:List aC} {r:List aU} (br:iG l r) {s:List aW} {d:ig} {o:jg} (h:vp l r s d o) {q:List aW} (aJ:q.Pairwise fun a b=>a.ak<b.ak) (ac4:∀y∈s,y∈q):ET l r q (eB r).1 (eB r).2=[]:=by
 have ap:∀i z,bw o i=aqV z->gz q i=z:=fun i z aF=>Pb aJ (y:=aW.mk i z) (ac4 _ ((h.mem _).2 (.inr aF)));have ke:∀i,¬tn l r q (eB r).1 (eB r).2 i:=by
  rintro i ⟨x,U,hk,n1,an⟩;have he:bT x=[x.a,x.b]:=by unfold bT;rw[if_pos (.inl hk)]
  have key:∀n,n∈bT x->iS (gZ l (bR r) (gz q) (eB r).1 (eB r).2 (id:cd->cd)) (cd.mk i n)->False:=by
   intro n ar an;have Ux:n∈cU l (i:Int):=by rw[sm U];exact ar
   have aB:=ahy br h.dI ap an Ux n1;obtain ⟨_,y,ag,c1,_⟩:=h.dI.rG _ aB;have aI:0<=bu l (i:Int) n:=by simpa[gZ] using an.live
   have:=(dV.of br.1).ud Ux aI;simp only[this,ar0] at ag;rw[U] at ag;cases ag;exact c1 hk
  rcases an with an|an
  ·exact key _ (by rw[he];simp) an
  ·exact key _ (by rw[he];simp) an
 unfold ET;rw[List.map_eq_nil_iff,List.filter_eq_nil_iff];intro i _;simpa using ke i
end Go.W
end
section
namespace Go.W
open Go.aS
theorem XI {au bz:Type} {l:List au} (p:au->Bool) (out:bz) (F:Nat->Int->Option (Sum Unit bz)) (aI:∀n,F (n+1) (l.length:Int)=aqV (.inl ()))
  (h1:∀(n i:Nat) (x:au),l[i]? =aqV x->F (n+1) (i:Int)=if p x=aqW then aqV (.inr out) else F n ((i+1:Nat):Int)):∀(k n i:Nat),k<n->i+k=l.length->F n (i:Int)=aqV (if (l.drop i).any p=aqW then .inr out else .inl ())
 |k,0,i,ar,_=>by omega
 |0,n+1,i,ar,ae=>by
  obtain rfl:i=l.length:=by omega
  rw[aI,asi];rfl
 |k+1,n+1,i,ar,ae=>by
  have aN:i<l.length:=by omega
  rw[h1 n i _ (cM aN),jA (cM aN),asR];by_cases h:p l[i]=aqW
  ·rw[if_pos h,h];rfl
  ·rw[if_neg h,XI p out F aI h1 k n (i+1) (by omega) (by omega)];rw[arW] at h;rw[h,arZ]
theorem ph {au bz:Type} {l:List au} (p:au->Bool) (out:bz) (F:Nat->Int->Option (Sum Unit bz)) (N:Nat) (bj:l.length<N) (aI:∀n,F (n+1) (l.length:Int)=aqV (.inl ()))
  (h1:∀(n i:Nat) (x:au),l[i]? =aqV x->F (n+1) (i:Int)=if p x=aqW then aqV (.inr out) else F n ((i+1:Nat):Int)):F N 0=aqV (if l.any p=aqW then .inr out else .inl ()):=by
 have h:=XI p out F aI h1 l.length N 0 bj (by omega);rw[arB] at h;exact h
def yh (a b:bk):Bool:=a.eJ.any fun v=>(bR b.eJ).contains v.ak
def mW (s t:aW):Bool:=s.ak==t.ak&&s.ej !=t.ej
def yg (a b:bk):Bool:=a.dU.any fun s=>b.dU.any (mW s)
def ea (a b:bk):Bool:=yh a b||yg a b
theorem Hd {a b:bk}:ea a b=aqW↔(∃e,e∈bR a.eJ/\e∈bR b.eJ)\/∃s∈a.dU,∃t∈b.dU,s.ak=t.ak/\s.ej≠t.ej:=by
 unfold ea yh yg mW;simp only[Bool.or_eq_true,asH,ara,beq_iff_eq,bne_iff_ne,atV,bR,arf];constructor
 ·rintro (⟨v,ad,w,hw,h⟩|h)
  ·exact .inl ⟨v.ak,⟨v,ad,rfl⟩,w,hw,h⟩
  ·exact .inr h
 ·rintro (⟨e,⟨v,ad,rfl⟩,w,hw,h⟩|h)
  ·exact .inl ⟨v,ad,w,hw,h⟩
  ·exact .inr h
theorem G6 (a b:bk):ea a b=ea b a:=by
 have key:∀a b:bk,ea a b=aqW->ea b a=aqW:=fun a b h=>by
  rcases Hd.1 h with ⟨e,h1,J⟩|⟨s,ay,t,ao,h1,J⟩
  ·exact Hd.2 (.inl ⟨e,J,h1⟩)
  ·exact Hd.2 (.inr ⟨t,ao,s,ay,h1.symm,fun h=>J h.symm⟩)
 rw[arV];exact ⟨key a b,key b a⟩
theorem aeD (r:List aU) (x:Int):(r.any fun w=>x==w.ak)=(bR r).contains x:=by
 rw[arV];simp only[asH,beq_iff_eq,atV,bR,arf];constructor
 ·rintro ⟨w,hw,h⟩;exact ⟨w,hw,h.symm⟩
 ·rintro ⟨w,hw,h⟩;exact ⟨w,hw,h.symm⟩
def mf (x:bk):Prop:=x.eJ.length<=1000/\x.dU.length<=1000
theorem YD (N:Nat) (bj:3000<=N) {a b:bk} (aq:mf a) (aa:mf b):D8 N a b=aqV (ea a b):=by
 obtain ⟨nU,kv⟩:=aq;obtain ⟨oW,nV⟩:=aa;have aI:sO N a b N 0=aqV (if yh a b=aqW then .inr aqW else .inl ()):=ph (fun v=>(bR b.eJ).contains v.ak) aqW (fun n i=>sO N a b n i) N (l:=a.eJ) (by omega) (fun n=>by
   show sO N a b (n+1) _=_;rw[sO,if_neg (cF (by omega))]) fun n i v ad=>by
  have ah:=(aq5.1 ad).1;show sO N a b (n+1) i=_;rw[sO,if_pos (cH (by omega)),cJ ad,al,ur N (by omega) (by omega),al,bP,dm (by omega)]
 have J:∀(i:Nat) (s:aW),a.dU[i]? =aqV s->sQ N a b i N 0=aqV (if b.dU.any (mW s)=aqW then .inr aqW else .inl ()):=fun i s ay=>ph (mW s) aqW (fun n j=>sQ N a b i n j) N (l:=b.dU) (by omega) (fun n=>by
   show sQ N a b i (n+1) _=_;rw[sQ,if_neg (cF (by omega))]) fun n j t ao=>by
  have ah:=(aq5.1 ao).1;show sQ N a b i (n+1) j=_;have aj:Ig N a b i j=aqV (mW s t):=by
   unfold Ig mW;rw[cJ ay,al,cJ ao,al];by_cases h:s.ak=t.ak
   ·rw[if_pos (by simpa using h),al,al];simp[h]
   ·rw[if_neg (by simpa using h)];simp[h]
  rw[sQ,if_pos (cH (by omega)),aj,al,bP,dm (by omega)]
 have h1:sP N a b N 0=aqV (if yg a b=aqW then .inr aqW else .inl ()):=ph (fun s=>b.dU.any (mW s)) aqW (fun n i=>sP N a b n i) N (l:=a.dU) (by omega) (fun n=>by
   show sP N a b (n+1) _=_;rw[sP,if_neg (cF (by omega))]) fun n i s ay=>by
  have ah:=(aq5.1 ay).1;show sP N a b (n+1) i=_;rw[sP,if_pos (cH (by omega)),J i s ay,al];by_cases h:b.dU.any (mW s)=aqW
  ·rw[if_pos h,if_pos h]
  ·rw[if_neg h,if_neg h];dsimp only;rw[bP,dm (by omega)]
 unfold D8 ea;rw[aI,al];by_cases h:yh a b=aqW
 ·rw[if_pos h,h];rfl
 ·rw[if_neg h];rw[arW] at h;dsimp only;rw[h1,al,h];by_cases h:yg a b=aqW
  ·rw[if_pos h,h];rfl
  ·rw[if_neg h];rw[arW] at h;rw[h];rfl
theorem Yp (N:Nat) (bj:3000<=N) {a b:bk} (aq:mf a) (aa:mf b):xK N a b=aqV (ea a b):=by
 obtain ⟨nU,kv⟩:=aq;obtain ⟨oW,nV⟩:=aa;have h1:∀v:aU,sF N v b.eJ (b.eJ.length:Int) N 0=aqV (if (bR b.eJ).contains v.ak=aqW then .inr aqW else .inl ()):=fun v=>by
  rw[<-aeD];exact ph (fun w=>v.ak==w.ak) aqW (fun n i=>sF N v b.eJ (b.eJ.length:Int) n i) N (l:=b.eJ) (by omega) (fun n=>by
   show sF N v b.eJ (b.eJ.length:Int) (n+1) _=_;rw[sF,if_neg (cF (by omega))]) fun n i w hw=>by
   have ah:=(aq5.1 hw).1;show sF N v b.eJ (b.eJ.length:Int) (n+1) i=_;rw[sF,if_pos (cH (by omega)),cJ hw,al,dm (by omega)]
 have aI:sy N b a.eJ (a.eJ.length:Int) N 0=aqV (if yh a b=aqW then .inr aqW else .inl ()):=ph (fun v=>(bR b.eJ).contains v.ak) aqW (fun n i=>sy N b a.eJ (a.eJ.length:Int) n i) N (l:=a.eJ) (by omega) (fun n=>by
   show sy N b a.eJ (a.eJ.length:Int) (n+1) _=_;rw[sy,if_neg (cF (by omega))]) fun n i v ad=>by
  have ah:=(aq5.1 ad).1;show sy N b a.eJ (a.eJ.length:Int) (n+1) i=_;rw[sy,if_pos (cH (by omega)),cJ ad,al,h1,al];by_cases h:(bR b.eJ).contains v.ak=aqW
  ·rw[if_pos h,if_pos h]
  ·rw[if_neg h,if_neg h];dsimp only;rw[dm (by omega)]
 have aj:∀s:aW,sH N s b.dU (b.dU.length:Int) N 0=aqV (if b.dU.any (mW s)=aqW then .inr aqW else .inl ()):=fun s=>ph (mW s) aqW (fun n j=>sH N s b.dU (b.dU.length:Int) n j) N (l:=b.dU) (by omega) (fun n=>by
   show sH N s b.dU (b.dU.length:Int) (n+1) _=_;rw[sH,if_neg (cF (by omega))]) fun n j t ao=>by
  have ah:=(aq5.1 ao).1;show sH N s b.dU (b.dU.length:Int) (n+1) j=_;have aM:Hy N s t=aqV (mW s t):=by
   unfold Hy mW;by_cases h:s.ak=t.ak
   ·rw[if_pos (by simpa using h)];simp[h]
   ·rw[if_neg (by simpa using h)];simp[h]
  rw[sH,if_pos (cH (by omega)),cJ ao,al,aM,al,dm (by omega)]
 have J:sG N b a.dU (a.dU.length:Int) N 0=aqV (if yg a b=aqW then .inr aqW else .inl ()):=ph (fun s=>b.dU.any (mW s)) aqW (fun n i=>sG N b a.dU (a.dU.length:Int) n i) N (l:=a.dU) (by omega) (fun n=>by
   show sG N b a.dU (a.dU.length:Int) (n+1) _=_;rw[sG,if_neg (cF (by omega))]) fun n i s ay=>by
  have ah:=(aq5.1 ay).1;show sG N b a.dU (a.dU.length:Int) (n+1) i=_;rw[sG,if_pos (cH (by omega)),cJ ay,al,aj,al];by_cases h:b.dU.any (mW s)=aqW
  ·rw[if_pos h,if_pos h]
  ·rw[if_neg h,if_neg h];dsimp only;rw[dm (by omega)]
 unfold xK ea;rw[aI,al];by_cases h:yh a b=aqW
 ·rw[if_pos h,h];rfl
 ·rw[if_neg h];rw[arW] at h;dsimp only;rw[J,al,h];by_cases h:yg a b=aqW
  ·rw[if_pos h,h];rfl
  ·rw[if_neg h];rw[arW] at h;rw[h];rfl
def hs (s:List bk) (id:Int):Int:=qe (fun _ (x:bk)=>x.gS==id) 0 s
theorem Pt (N:Nat) {s:List bk} (ay:s.length<=1000) (bj:3000<=N) (id:Int):AB N s id=aqV (hs s id):=by
 have h:=j2 (fun _ (x:bk)=>x.gS==id) (fun i _=>(i:Int)) (fun n i=>s3 N s id n i) (l:=s) (fun n=>by
   show s3 N s id (n+1) _=_;rw[s3,if_neg (cF (by omega))]) (fun n i x U=>by
  have ah:=(aq5.1 U).1;show s3 N s id (n+1) i=_;rw[s3,if_pos (cH (by omega)),cJ U,al,bP,dm (by omega)]) s.length N 0 (by omega) (by omega)
 rw[arB] at h;unfold AB hs;rw[show s3 N s id N 0=_ from h,al];rcases zg (fun _ (x:bk)=>x.gS==id) s 0 with ⟨h1,J⟩|⟨h1,_⟩
 ·rw[h1,J]
 ·rw[h1]
theorem YB (N:Nat) {s:List bk} (ay:s.length<=1000) (bj:3000<=N) (id:Int):D3 N s id=aqV (hs s id):=by
 have h:=j2 (fun _ (x:bk)=>x.gS==id) (fun i _=>(i:Int)) (fun n i=>sv N s id (s.length:Int) n i) (l:=s) (fun n=>by
   show sv N s id (s.length:Int) (n+1) _=_;rw[sv,if_neg (cF (by omega))]) (fun n i x U=>by
  have ah:=(aq5.1 U).1;show sv N s id (s.length:Int) (n+1) i=_;have hk:QW N x id=aqV (x.gS==id):=rfl;rw[sv,if_pos (cH (by omega)),cJ U,al,hk,al,dm (by omega)]) s.length N 0 (by omega) (by omega)
 rw[arB] at h;unfold D3 QT hs;rw[show sv N s id (s.length:Int) N 0=_ from h,al];rcases zg (fun _ (x:bk)=>x.gS==id) s 0 with ⟨h1,J⟩|⟨h1,_⟩
 ·rw[h1,J];rfl
 ·rw[h1];rfl
theorem Hw (s:List bk) (id:Int):hs s id= -1/\(∀x∈s,x.gS≠id)\/∃(k:Nat) (x:bk),hs s id=(k:Int)/\s[k]? =aqV x/\x.gS=id:=by
 rcases F9 (fun _ (x:bk)=>x.gS==id) s 0 with ⟨h1,J⟩|⟨j,x,h1,J,aj,_⟩
 ·refine .inl ⟨h1,fun x U=> ?_⟩;obtain ⟨j,av⟩:=arS U;simpa using J j x av
 ·exact .inr ⟨j,x,by rw[hs,h1];simp,J,by simpa using aj⟩
theorem ajx (N:Nat) {a:List aW} (aq:a.length<=1000) (bj:3000<=N):D1 N a a=aqV aqW:=by
 have h:=ph (fun _:aW=>aqZ) aqZ (fun n i=>sI N a a n i) N (l:=a) (by omega) (fun n=>by
   show sI N a a (n+1) _=_;rw[sI,if_neg (cF (by omega))]) fun n i x U=>by
  have ah:=(aq5.1 U).1;show sI N a a (n+1) i=_;rw[sI,if_pos (cH (by omega)),cJ U,al,al,if_neg (by simp),if_neg (by simp),bP,dm (by omega)]
 unfold D1;rw[if_neg (by simp),show sI N a a N 0=_ from h,if_neg (by simp),al]
theorem ajr (N:Nat) {a:List aW} (aq:a.length<=1000) (bj:3000<=N):IU N a a=aqV aqW:=by
 have h:=ph (fun _:aW=>aqZ) aqZ (fun n i=>sw N a a (a.length:Int) n i) N (l:=a) (by omega) (fun n=>by
   show sw N a a (a.length:Int) (n+1) _=_;rw[sw,if_neg (cF (by omega))]) fun n i x U=>by
  have ah:=(aq5.1 U).1;show sw N a a (a.length:Int) (n+1) i=_;rw[sw,if_pos (cH (by omega)),cJ U,al,al,if_neg (by simp),if_neg (by simp),dm (by omega)]
 unfold IU;rw[if_neg (by simp),show sw N a a (a.length:Int) N 0=_ from h,if_neg (by simp),al]
structure Sx (N:Nat) (l:List aC) (x:bk):Prop where
 id:0<=x.gS
 nQ:mf x
 p:mQ N l x.eJ=aqV (x.dU,0)
 r:oE N l x.eJ=aqV (x.dU,0)
 rt:iG l x.eJ
 Nd:∃d o,vp l x.eJ x.dU d o
structure gi (N:Nat) (l:List aC) (s:List bk):Prop where
 len:s.length<=16
 ok:∀x∈s,Sx N l x
 uh:s.Pairwise fun a b=>a.gS≠b.gS/\ea a b=aqZ
def pL (a b:bk):Bool:=(a.gS==b.gS)||ea a b
theorem aex (N:Nat) (bj:3000<=N) {a b:bk} (aq:mf a) (aa:mf b):HE N a b=aqV (pL a b):=by
 unfold HE pL;by_cases h:a.gS=b.gS
 ·rw[if_pos (by simpa using h)];simp[h]
 ·rw[if_neg (by simpa using h),Yp N bj aq aa,al];simp[h]
theorem Vv (N:Nat) (bj:3000<=N) {s:List bk} (ay:∀x∈s,mf x) (ah:s.length<=1000) {a:bk} (aq:mf a) {i:Nat} (ae:i<s.length):∀(k n j:Nat),k<n->j+k=i->
  w2 N i a s (s.length:Int) n j=aqV (if ((s.take i).drop j).any (pL a)=aqW then .inr (.inr aqZ) else .inl ())
 |k,0,j,ar,_=>by omega
 |0,n+1,j,ar,av=>by
  obtain rfl:j=i:=by omega
  rw[w2,if_pos (cH (by omega)),cJ (cM ae),al,if_pos (nq (by omega)),List.drop_eq_nil_of_le (by simp;omega)];rfl
 |k+1,n+1,j,ar,av=>by
  have aN:j<s.length:=by omega
  have ad:=cM aN;have gD:(s.take i)[j]? =aqV s[j]:=by rw[arK,if_pos (by omega)];exact ad
  rw[w2,if_pos (cH (by omega)),cJ ad,al,if_neg (oh (by omega)),aex N bj aq (ay _ (asy aN)),al,dm (by omega),jA gD,asR];by_cases h:pL a s[j]=aqW
  ·rw[if_pos h,h];rfl
  ·rw[if_neg h,Vv N bj ay ah aq ae k n (j+1) (by omega) (by omega)];rw[arW] at h;rw[h,arZ]
def Qz (s:List bk):Sum Unit Bool:=ch (fun i x=>(s.take i).any (pL x)) (fun _ _=>aqZ) 0 s
theorem agu (N:Nat) (bj:6000<=N) {l:List aC} (bt:dV l) {s:List bk} (ay:∀x∈s,Sx N l x) (ah:s.length<=16):u7 N l s=aqV (match Qz s with| .inl _=>aqW| .inr b=>b):=by
 have J:∀(i:Nat) (x:bk),s[i]? =aqV x->HC N l s s i=aqV (if (s.take i).any (pL x)=aqW then .inr aqZ else .inl ()):=fun i x U=>by
  have aN:=(aq5.1 U).1;have hk:=ay x (are U);have aj:HD N x x.dU 0=aqV aqZ:=by unfold HD;rw[if_neg (cF (by have:=hk.id;omega)),if_neg (by simp),ajr N hk.nQ.2 (by omega),al];rfl
  have aM:=Vv N (by omega) (fun y ag=>(ay y ag).nQ) (by omega) hk.nQ aN i N 0 (by omega) (by omega);unfold HC;rw[cJ U,al,hk.p,al,aj,al,if_neg (by simp),show w2 N i x s (s.length:Int) N 0=_ from aM,al,arB];by_cases h:(s.take i).any (pL x)=aqW
  ·rw[if_pos h,if_pos h]
  ·rw[if_neg h,if_neg h]
 have h:=j2 (fun i x=>(s.take i).any (pL x)) (fun _ _=>aqZ) (fun n i=>sJ N l s s (s.length:Int) n i) (l:=s) (fun n=>by
   show sJ N l s s (s.length:Int) (n+1) _=_;rw[sJ,if_neg (cF (by omega))]) (fun n i x U=>by
  have aN:=(aq5.1 U).1;show sJ N l s s (s.length:Int) (n+1) i=_;rw[sJ,if_pos (cH (by omega)),J i x U,al];by_cases h:(s.take i).any (pL x)=aqW
  ·rw[if_pos h,if_pos h]
  ·rw[if_neg h,if_neg h];dsimp only;rw[dm (by omega)]) s.length N 0 (by omega) (by omega)
 rw[arB] at h;unfold u7;have aI:HB N l s=aqV aqZ:=by unfold HB;rw[bt.p N (by omega),al,if_neg (by simp)];congr 1;exact decide_eq_false (by omega)
 rw[aI,al,if_neg (by simp),show sJ N l s s (s.length:Int) N 0=_ from h,al];unfold Qz;cases ch (fun i x=>(s.take i).any (pL x)) (fun _ _=>aqZ) 0 s<;>rfl
theorem gi.ch {N:Nat} {l:List aC} {s:List bk} (h:gi N l s):Qz s= .inl ():=by
 refine um.2 fun j x U=> ?_;rw[arh,atr];intro ab;obtain ⟨y,ag,aa⟩:=asH.1 ab;obtain ⟨i,ae,ag⟩:=Ox.1 ag;obtain ⟨jk,im⟩:=aq5.1 ag;obtain ⟨gA,nd⟩:=aq5.1 U;have:=arT.1 h.uh i j jk gA ae;rw[im,nd] at this;unfold pL at aa;rw[G6,this.2] at aa;simp at aa;exact this.1 aa.symm
theorem gi.p {N:Nat} (bj:6000<=N) {l:List aC} (bt:dV l) {s:List bk} (h:gi N l s):u7 N l s=aqV aqW:=by
 rw[agu N bj bt h.ok h.len,h.ch]
theorem gi.hs {N:Nat} {l:List aC} {s:List bk} (h:gi N l s) {i:Nat} {x:bk} (U:s[i]? =aqV x):hs s x.gS=(i:Int):=by
 rcases Hw s x.gS with ⟨_,J⟩|⟨k,y,h1,J,aj⟩
 ·exact absurd rfl (J x (are U))
 ·rw[h1];obtain ⟨jk,im⟩:=aq5.1 U;obtain ⟨oY,gB⟩:=aq5.1 J;rcases asE k i with yH|rfl|yH
  ·have:=arT.1 h.uh k i oY jk yH;rw[im,gB] at this;exact absurd aj this.1
  ·rfl
  ·have:=arT.1 h.uh i k jk oY yH;rw[im,gB] at this;exact absurd aj.symm this.1
theorem gi.r {N:Nat} (bj:6000<=N) {l:List aC} (bt:dV l) {s:List bk} (h:gi N l s):I9 N l s=aqV aqW:=by
 have ah:=h.len;have aj:∀(i:Nat) (x:bk),s[i]? =aqV x->∀(k n j:Nat),k<n->j+k=i->xh N s i n j=aqV (.inl ()):=by
  intro i x U k;obtain ⟨jk,im⟩:=aq5.1 U;induction k with
  |zero=>
   intro n j ar av;obtain rfl:j=i:=by omega
   cases n with
   |zero=>omega
   |succ n=>rw[xh,if_neg (cF (by omega))]
  |succ k a8=>
   intro n j ar av;cases n with
   |zero=>omega
   |succ n=>
    have gA:j<s.length:=by omega
    have:=arT.1 h.uh j i gA jk (by omega);rw[im] at this;rw[xh,if_pos (cH (by omega)),cJ (cM gA),al,cJ U,al,YD N (by omega) (h.ok _ (asy gA)).nQ (h.ok x (are U)).nQ,al,this.2,if_neg (by simp),bP,dm (by omega)];exact a8 n (j+1) (by omega) (by omega)
 have h1:=ph (fun _:bk=>aqZ) aqZ (fun n i=>s0 N l s n i) N (l:=s) (by omega) (fun n=>by
   show s0 N l s (n+1) _=_;rw[s0,if_neg (cF (by omega))]) fun n i x U=>by
  have aN:=(aq5.1 U).1;have hk:=h.ok x (are U);have J:HT N s i x.dU 0=aqV aqZ:=by unfold HT;rw[cJ U,al,al,al,if_neg (cF (by have:=hk.id;omega)),Pt N (by omega) (by omega),al,h.hs U,if_neg (by simp),if_neg (by simp),ajx N hk.nQ.2 (by omega),al];rfl
  show s0 N l s (n+1) i=_;rw[s0,if_pos (cH (by omega)),cJ U,al,hk.r,al,J,al,if_neg (by simp),show xh N s i N 0=_ from aj i x U i N 0 (by omega) (by omega),al];dsimp only;rw[if_neg (by simp),bP,dm (by omega)]
 have aI:HS N l s=aqV aqZ:=by unfold HS;rw[bt.r N (by omega),al,if_neg (by simp)];congr 1;exact decide_eq_false (by omega)
 unfold I9;rw[aI,al,if_neg (by simp),show s0 N l s N 0=_ from h1,if_neg (by simp),al]
end Go.W
end
section
namespace Go.W
open Go.aS
theorem YI {l:List aC} {r:List aU} (br:iG l r):r.length<=l.length:=by
 have:=sj (b:=(arC l.length).map fun (i:Nat)=>(i:Int)) br.2.2 fun a aq=>by obtain ⟨v,ad,rfl⟩:=arf.1 aq;obtain ⟨aI,h1⟩:=br.2.1.ok v ad;exact arf.2 ⟨v.ak.toNat,asb.2 (by omega),by omega⟩
 simpa[bR] using this
theorem Oa (N:Nat) (bj:6000<=N) {l:List aC} (bt:dV l) {r:List aU} (an:r.length<=1000):∃p,mQ N l r=aqV p/\oE N l r=aqV p/\p.1.length<=1000/\(p.2=0->iG l r/\∃d o,vp l r p.1 d o):=by
 rcases afm N bj bt.len an (Y9 bt (by omega)) with ⟨_,h1,J⟩|⟨_,e,he,h1,J⟩|⟨br,s,d,o,h1,J,aj,aM⟩
 ·exact ⟨_,h1,J,by simp,fun h=>absurd h (by simp)⟩
 ·exact ⟨_,h1,J,by simp,fun h=>absurd h he⟩
 ·exact ⟨_,h1,J,aM,fun _=>⟨br,d,o,aj⟩⟩
theorem agf (N:Nat) (bj:100000<=N) {l:List aC} (bt:dV l) (fr to:Int):∃f,nH N l fr to=aqV f/\f.1.length<=1000:=by
 have ah:=bt.len;rcases agz N bj bt fr to with ⟨h,_⟩|⟨_,_,_,h|h|⟨r,h,br,_⟩⟩
 ·exact ⟨_,h,by simp⟩
 ·exact ⟨_,h,by simp⟩
 ·exact ⟨_,h,by simp⟩
 ·exact ⟨_,h,by have:=YI br;show r.length<=1000;omega⟩
theorem afu (N:Nat) (bj:4000<=N) {l:List aC} (bt:dV l) (fr to:Int):∃f,mR N l fr to=aqV f/\f.1.length<=1000:=by
 have ah:=bt.len;rcases ahp N bj bt fr to with ⟨h,_⟩|⟨_,_,_,h|h|⟨r,h,br,_⟩⟩
 ·exact ⟨_,h,by simp⟩
 ·exact ⟨_,h,by simp⟩
 ·exact ⟨_,h,by simp⟩
 ·exact ⟨_,h,by have:=YI br;show r.length<=1000;omega⟩
def nD (s:List bk) (id:Int) (f:List aU×Int) (p:List aW×Int):List bk×Int:=
 if id<0 then ([],2) else if 0<=hs s id then ([],8) else if s.length=16 then ([],18) else if f.2≠0 then ([],f.2) else if p.2≠0 then ([],p.2)
 else if s.any (ea (bk.mk id f.1 p.1))=aqW then ([],23) else (s++[bk.mk id f.1 p.1],0)
theorem Yf {N:Nat} {l:List aC} {s:List bk} (eC:gi N l s) {id:Int} {f:List aU×Int} {p:List aW×Int} (aP:f.1.length<=1000) (ap:mQ N l f.1=aqV p) (an:oE N l f.1=aqV p) (ah:p.1.length<=1000) (aI:p.2=0->iG l f.1/\∃d o,vp l f.1 p.1 d o):
  (nD s id f p).2=0->(nD s id f p).1=s++[bk.mk id f.1 p.1]/\gi N l (s++[bk.mk id f.1 p.1])/\hs s id= -1/\s.length≠16:=by
 unfold nD;by_cases h1:id<0
 ·rw[if_pos h1];intro h;simp at h
 rw[if_neg h1];by_cases J:0<=hs s id
 ·rw[if_pos J];intro h;simp at h
 rw[if_neg J];by_cases aj:s.length=16
 ·rw[if_pos aj];intro h;simp at h
 rw[if_neg aj];by_cases aM:f.2≠0
 ·rw[if_pos aM];intro h;exact absurd h aM
 rw[if_neg aM];by_cases bq:p.2≠0
 ·rw[if_pos bq];intro h;exact absurd h bq
 rw[if_neg bq];by_cases dv:s.any (ea (bk.mk id f.1 p.1))=aqW
 ·rw[if_pos dv];intro h;simp at h
 rw[if_neg dv];intro _;have bq:p.2=0:=by omega
 obtain ⟨br,aB⟩:=aI bq;have Ug:hs s id= -1/\∀x∈s,x.gS≠id:=by
  rcases Hw s id with h|⟨k,x,h,_⟩
  ·exact h
  ·omega
 have rW:(p.1,(0:Int))=p:=by rw[<-bq]
 refine ⟨rfl,⟨?_, ?_, ?_⟩,Ug.1,aj⟩
 ·have:=eC.len;simp;omega
 ·intro x U;rcases arj.1 U with U|U
  ·exact eC.ok x U
  ·rw[arX.1 U];exact ⟨by show 0<=id;omega,⟨aP,ah⟩,by rw[rW];exact ap,by rw[rW];exact an,br,aB⟩
 ·rw[auq];refine ⟨eC.uh,by simp,fun a aq b aa=> ?_⟩;rw[arX.1 aa];refine ⟨Ug.2 a aq, ?_⟩;rw[G6,atr];exact fun ab=>dv (asH.2 ⟨a,aq,ab⟩)
theorem ahh (N:Nat) {xs:List aU} (h:xs.length<=1000):IV N xs=aqV xs:=by
 unfold IV;refine XS fun t ao=> ?_;cases t with
 |true=>rw[if_pos rfl,ao rfl]
 |false=>rw[if_neg (by simp),gY (by simp;omega),al,asp]
theorem ahg (N:Nat) {xs:List aW} (h:xs.length<=1000):IT N xs=aqV xs:=by
 unfold IT;refine XS fun t ao=> ?_;cases t with
 |true=>rw[if_pos rfl,ao rfl]
 |false=>rw[if_neg (by simp),gY (by simp;omega),al,asp]
theorem Wy (N:Nat) {x:bk} (h:mf x):D0 N x=aqV x:=by
 unfold D0;rw[ahh N h.1,al,ahg N h.2,al]
theorem WK (N:Nat) (bj:6000<=N) {x:bk} (U:mf x) {s:List bk} (ay:∀y∈s,mf y) (ah:s.length<=1000):∀(k n i:Nat) (acc:List bk),k<n->i+k=s.length->acc.length<=i->
  w5 N x s (s.length:Int) n acc i=aqV (if (s.drop i).any (ea x)=aqW then .inr 23 else .inl (acc++s.drop i))
 |k,0,i,acc,ar,_,_=>by omega
 |0,n+1,i,acc,ar,ae,_=>by
  obtain rfl:i=s.length:=by omega
  rw[w5,if_neg (cF (by omega)),asi,asA];rfl
 |k+1,n+1,i,acc,ar,ae,aq=>by
  have aN:i<s.length:=by omega
  have aa:=ay _ (asy aN);rw[w5,if_pos (cH (by omega)),cJ (cM aN),al,Yp N (by omega) U aa,al,jA (cM aN),asR];by_cases h:ea x s[i]=aqW
  ·rw[if_pos h,h];rfl
  ·rw[if_neg h,Wy N aa,al,gY (by simp;omega),al,dm (by omega),WK N bj U ay ah k n (i+1) _ (by omega) (by omega) (by simp;omega)];rw[arW] at h;rw[h,arZ,asT];rfl
theorem OU (N:Nat) (bj:6000<=N) {l:List aC} (bt:dV l) {s:List bk} (eC:gi N l s) {id fr to:Int} {f:List aU×Int} {p:List aW×Int} (aP:mR N l fr to=aqV f) (hf:f.1.length<=1000) (ap:mQ N l f.1=aqV p) (ni:p.1.length<=1000):
  tj N l s id fr to=aqV (nD s id f p):=by
 have ah:=eC.len;unfold tj D2 nD;rw[bt.p N (by omega),al,if_neg (by simp),eC.p bj bt,al,if_neg (by simp),al,bP,if_neg (by simp),bP];by_cases h1:id<0
 ·rw[if_pos (cH h1),if_pos h1]
 rw[if_neg (cF h1),if_neg h1,YB N (by omega) (by omega),al,bP];by_cases J:0<=hs s id
 ·rw[if_pos (nq J),if_pos J]
 rw[if_neg (oh J),if_neg J,bP];by_cases aj:s.length=16
 ·rw[if_pos (by simp[aj]),if_pos aj]
 rw[if_neg (by simp;omega),if_neg aj,aP,al];by_cases aM:f.2≠0
 ·rw[if_pos (by simpa using aM),if_pos aM]
 rw[if_neg (by simpa using aM),if_neg aM,ap,al];by_cases bq:p.2≠0
 ·rw[if_pos (by simpa using bq),if_pos bq]
 rw[if_neg (by simpa using bq),if_neg bq];have h:=WK N bj (x:=bk.mk id f.1 p.1) ⟨hf,ni⟩ (fun y ag=>(eC.ok y ag).nQ) (by omega) s.length N 0 [] (by omega) (by omega) (by simp);rw[arB,asp] at h;rw[show w5 N (bk.mk id f.1 p.1) s (s.length:Int) N [] 0=_ from h,al];by_cases dv:s.any (ea (bk.mk id f.1 p.1))=aqW
 ·rw[if_pos dv,if_pos dv]
 ·rw[if_neg dv,if_neg dv];dsimp only;rw[gY (by simp;omega),al]
theorem VI (N:Nat) {s:List bk} (ay:∀y∈s,mf y) (ah:s.length<=1000):∀(k n i:Nat) (acc:List bk),k<n->i+k=s.length->acc.length<=i->xe N s n acc i=aqV (acc++s.drop i)
 |k,0,i,acc,ar,_,_=>by omega
 |0,n+1,i,acc,ar,ae,_=>by
  obtain rfl:i=s.length:=by omega
  rw[xe,if_neg (cF (by omega)),asi,asA]
 |k+1,n+1,i,acc,ar,ae,aq=>by
  have aN:i<s.length:=by omega
  have aa:=ay _ (asy aN);rw[xe,if_pos (cH (by omega)),cJ (cM aN),al,al,gY (by have:=aa.1;simp;omega),al,al,gY (by have:=aa.2;simp;omega),al,asp,asp,gY (by simp;omega),al,bP,dm (by omega),
   VI N ay ah k n (i+1) _ (by omega) (by omega) (by simp;omega),jA (cM aN),asT]
  rfl
theorem Wz (N:Nat) (bj:3000<=N) {s:List bk} (ay:∀y∈s,mf y) (ah:s.length<=1000):Eb N s=aqV s:=by
 have h:=VI N ay ah s.length N 0 [] (by omega) (by omega) (by simp);rw[arB,asp] at h;unfold Eb;rw[show xe N s N [] 0=_ from h,al]
theorem ahP (N:Nat) (bj:6000<=N) {l:List aC} (bt:dV l) {s:List bk} (eC:gi N l s) {id fr to:Int} {f:List aU×Int} {p:List aW×Int} (aP:nH N l fr to=aqV f) (hf:f.1.length<=1000) (ap:oE N l f.1=aqV p) (ni:p.1.length<=1000):
  AF N l s id fr to=aqV (nD s id f p):=by
 have ah:=eC.len;unfold AF Ed nD;rw[bt.r N (by omega),al,if_neg (by simp),eC.r bj bt,al,if_neg (by simp),al,if_neg (by simp),bP];by_cases h1:id<0
 ·rw[if_pos (cH h1),if_pos h1]
 rw[if_neg (cF h1),if_neg h1,Pt N (by omega) (by omega),al,bP];by_cases J:0<=hs s id
 ·rw[if_pos (nq J),if_pos J]
 rw[if_neg (oh J),if_neg J,bP];by_cases aj:s.length=16
 ·rw[if_pos (by simp[aj]),if_pos aj]
 rw[if_neg (by simp;omega),if_neg aj,aP,al];by_cases aM:f.2≠0
 ·rw[if_pos (by simpa using aM),if_pos aM]
 rw[if_neg (by simpa using aM),if_neg aM,ap,al];by_cases bq:p.2≠0
 ·rw[if_pos (by simpa using bq),if_pos bq]
 rw[if_neg (by simpa using bq),if_neg bq];have h:=ph (ea (bk.mk id f.1 p.1)) (23:Int) (fun n i=>s4 N s (bk.mk id f.1 p.1) n i) N (l:=s) (by omega) (fun n=>by
   show s4 N s (bk.mk id f.1 p.1) (n+1) _=_;rw[s4,if_neg (cF (by omega))]) fun n i y ag=>by
  have aN:=(aq5.1 ag).1;show s4 N s (bk.mk id f.1 p.1) (n+1) i=_;rw[s4,if_pos (cH (by omega)),cJ ag,al,YD N (by omega) (eC.ok y (are ag)).nQ ⟨hf,ni⟩,al,G6,bP,dm (by omega)]
 rw[show s4 N s (bk.mk id f.1 p.1) N 0=_ from h,al];by_cases dv:s.any (ea (bk.mk id f.1 p.1))=aqW
 ·rw[if_pos dv,if_pos dv]
 ·rw[if_neg dv,if_neg dv];dsimp only;rw[Wz N (by omega) (fun y ag=>(eC.ok y ag).nQ) (by omega),al,gY (by simp;omega),al]
def del (s:List bk) (k:Nat):List bk:=s.take k++s.drop (k+1)
def s7 (s:List bk) (id:Int):List bk×Int:=if hs s id<0 then ([],13) else (del s (hs s id).toNat,0)
theorem ahj (s:List bk) (k:Nat):(del s k).Sublist s:=by
 unfold del
 conv=>rhs;rw[<-atN k s]
 have h:=aut 1 (s.drop k);rw[List.drop_drop] at h;exact List.Sublist.append (List.Sublist.refl _) h
theorem gi.sub {N:Nat} {l:List aC} {s t:List bk} (h:gi N l s) (ao:t.Sublist s):gi N l t:=⟨by have:=h.len;have:=ao.length_le;omega,fun x U=>h.ok x (ao.subset U),h.uh.sublist ao⟩
theorem NK (N:Nat) {s:List bk} (ay:∀y∈s,mf y) (ah:s.length<=1000) {q:Nat} (aJ:q<s.length):∀(k n i:Nat) (acc:List bk),k<n->i+k=s.length->acc.length<=i->w1 N (q:Int) s (s.length:Int) n acc i=aqV (acc++if i<=q then (s.take q).drop i++s.drop (q+1) else s.drop i)
 |k,0,i,acc,ar,_,_=>by omega
 |0,n+1,i,acc,ar,ae,_=>by
  obtain rfl:i=s.length:=by omega
  rw[w1,if_neg (cF (by omega)),if_neg (by omega),asi,asA]
 |k+1,n+1,i,acc,ar,ae,aq=>by
  have aN:i<s.length:=by omega
  have aa:=ay _ (asy aN);rw[w1,if_pos (cH (by omega))];unfold PW;rw[cJ (cM aN),al];by_cases h:i=q
  ·subst h;have aB:(s.take i).drop i=[]:=List.drop_eq_nil_of_le (by rw[arG];omega);rw[if_neg (by simp),al,dm (by omega),NK N ay ah aJ k n (i+1) _ (by omega) (by omega) (by omega),if_neg (by omega),if_pos (aq9 i),aB,asp]
  ·rw[if_pos (by simp;omega),Wy N aa,al,gY (by simp;omega),al,al,dm (by omega),NK N ay ah aJ k n (i+1) _ (by omega) (by omega) (by simp;omega)];by_cases J:i<q
   ·have gD:(s.take q)[i]? =aqV s[i]:=by rw[arK,if_pos J];exact cM aN
    rw[if_pos (by omega),if_pos (by omega),jA gD,asT];rfl
   ·rw[if_neg (by omega),if_neg (by omega),jA (cM aN),asT];rfl
theorem aie (N:Nat) (bj:6000<=N) {l:List aC} (bt:dV l) {s:List bk} (eC:gi N l s) (id:Int):Av N l s id=aqV (s7 s id):=by
 have ah:=eC.len;unfold Av D2 s7;rw[bt.p N (by omega),al,if_neg (by simp),eC.p bj bt,al,if_neg (by simp),al,if_neg (by simp),YB N (by omega) (by omega),al];rcases Hw s id with ⟨h,_⟩|⟨k,x,h,U,_⟩
 ·rw[h,if_pos (by decide),if_pos (by decide)]
 ·have hk:=(aq5.1 U).1;have an:=NK N (fun y ag=>(eC.ok y ag).nQ) (by omega) hk s.length N 0 [] (by omega) (by omega) (by simp);rw[h,if_neg (cF (by omega)),if_neg (by omega),show w1 N (k:Int) s (s.length:Int) N [] 0=_ from an,al,if_pos (by omega),arB,asp];rfl
theorem ahO (N:Nat) (bj:6000<=N) {l:List aC} (bt:dV l) {s:List bk} (eC:gi N l s) (id:Int):I3 N l s id=aqV (s7 s id):=by
 have ah:=eC.len;unfold I3 Ed s7;rw[bt.r N (by omega),al,if_neg (by simp),eC.r bj bt,al,if_neg (by simp),al,if_neg (by simp),Pt N (by omega) (by omega),al];rcases Hw s id with ⟨h,_⟩|⟨k,x,h,U,_⟩
 ·rw[h,if_pos (by decide),if_pos (by decide)]
 ·have hk:=(aq5.1 U).1;have yv:uL s (k:Int) (k:Int)=aqV (s.take k):=by
   unfold uL;rw[if_pos ⟨by omega,by omega,by omega,rfl⟩];simp
  rw[h,if_neg (cF (by omega)),if_neg (by omega),Wz N (by omega) (fun y ag=>(eC.ok y ag).nQ) (by omega),al,yv,al,dm (by omega),wH (by omega),al,gY (by simp;omega),al,ite_self];rfl
theorem gi.rel {N:Nat} {l:List aC} {s:List bk} (h:gi N l s) {id:Int} (aI:(s7 s id).2=0):gi N l (s7 s id).1:=by
 unfold s7 at aI⊢;by_cases h1:Go.W.hs s id<0
 ·rw[if_pos h1] at aI;simp at aI
 ·rw[if_neg h1];exact h.sub (ahj s _)
theorem gi.nil (N:Nat) (l:List aC):gi N l []:=⟨by simp,by simp,List.Pairwise.nil⟩
end Go.W
end
section
namespace Go.W
open Go.aS
theorem agn {l:List aC} (bt:vm l):1<=(iP l 0 l).length:=by
 obtain ⟨x,U,hk⟩:=bt.fst;have key:∀q:List aC,q[0]? =aqV x->1<=(iP l 0 q).length:=fun q aJ=>by
  cases q with
  |nil=>simp at aJ
  |cons y q=>
   have:y=x:=by simpa using aJ
   subst this;rw[iP,if_pos hk];simp
 exact key l U
theorem aay (N:Nat) {l:List aC} (bt:vm l) {c:Int} {s:en} (ay:ho c s) (ab:c<=1000000) (a:Act) (b:Bool):∃b1 a',HX N s l (iP l 0 l) a b=aqV (b1,a')/\ho (c+2) b1/\a'.id=a.id:=by
 have ah:=bt.ok.len;have ao:=agn bt;have aqk:=N2 l l 0;unfold HX;cases b with
 |false=>rw[if_neg (by simp)];exact ⟨s,a,rfl,ay.le (by omega),rfl⟩
 |true=>rw[if_pos rfl];obtain ⟨r,s1,h1,J,aj,aM⟩:=l4 N (s:=s) (c:=c) ((iP l 0 l).length:Int) (by omega) (by omega) ay (by omega);obtain ⟨x,U,_⟩:=OB J aj;obtain ⟨e1,s2,g1,g2,g3,g4⟩:=l4 N (s:=s1) (c:=c+1) ((l.length:Int)+1) (by omega) (by omega) aM (by omega);rw[h1,al];dsimp only;rw[U,al,al,ha (by omega) (by omega),g1,al];exact ⟨s2,_,rfl,g4.le (by omega),rfl⟩
theorem Ws (N:Nat) (bj:4000<=N) {l:List aC} (bt:vm l) {m:Nat} (hm:m<=100):∀(k n i:Nat) (c:Int) (s:en) (q:List Act),k<n->i+k=m->ho c s->c+40*k<=900000->q.length=i->(∀a∈q,0<=a.id/\a.id<6)->
  ∃dJ b1,xi N (m:Int) l (iP l 0 l) n s q i=aqV (b1,dJ)/\ho (c+40*k) b1/\dJ.length=m/\∀a∈dJ,0<=a.id/\a.id<6
 |k,0,i,c,s,q,ar,_,_,_,_,_=>by omega
 |0,n+1,i,c,s,q,ar,ae,ay,ab,aJ,aq=>by
  obtain rfl:i=m:=by omega
  rw[xi,if_neg (cF (by omega))];exact ⟨q,s,rfl,ay.le (by omega),aJ,aq⟩
 |k+1,n+1,i,c,s,q,ar,ae,ay,ab,aJ,aq=>by
  obtain ⟨w,s1,h1,J,aj,aM,_⟩:=ahZ N bj bt ay (by omega);obtain ⟨a,s2,c0,a2,a3,a4⟩:=l4 N (s:=s1) (c:=c+30) 4 (by omega) (by omega) J (by omega);obtain ⟨b,km,e6,gj,mV,qA⟩:=l4 N (s:=s2) (c:=c+30+1) 6 (by omega) (by omega) a4 (by omega);obtain ⟨e,Ad,aX,e2,ij,oR⟩:=l4 N (s:=km) (c:=c+30+1+1) 5 (by omega) (by omega) qA (by omega);have adp:=cM (xs:=w) (i:=0) (by omega);have iM:=cM (xs:=w) (i:=w.length - 1) (by omega);have ads:aq6 .i64 ((w.length:Int) - 1)=((w.length - 1:Nat):Int):=by rw[ha (by omega) (by omega)];omega
  have abZ:aR w 0=aqV (w[0]'(by omega)):=cJ (i:=0) adp;obtain ⟨ans,a',f1,f2,f3⟩:=aay N bt oR (by omega) (Act.mk (decide (0<a)) b (w[0]'(by omega)).ak (w[w.length - 1]'(by omega)).ak) (e==0);rw[xi,if_pos (cH (by omega)),h1,al];dsimp only;rw[c0,al];dsimp only;rw[e6,al,abZ,al,al,ads,cJ iM,al,al];dsimp only;rw[aX,al];dsimp only;rw[f1,al,gY (by simp;omega),al,bP,dm (by omega)];obtain ⟨dJ,b1,g1,g2,g3,g4⟩:=Ws N bj bt hm k n (i+1) (c+40) ans (q++[a']) (by omega) (by omega) (f2.le (by omega)) (by omega) (by simp;omega) fun x U=>by
   rcases arj.1 U with U|U
   ·exact aq x U
   ·rw[arX.1 U,f3];exact ⟨gj,mV⟩
  exact ⟨dJ,b1,g1,g2.le (by omega),g3,g4⟩
theorem ahA (N:Nat) (bj:4000<=N) {s:en} (ay:ho 0 s) {m:Nat} (hm:m<=100):∃l q b1,vd N s (m:Int)=aqV (l,q,b1)/\vm l/\ho 40000 b1/\q.length=m/\∀a∈q,0<=a.id/\a.id<6:=by
 obtain ⟨l,s1,h1,J,bt⟩:=ago N (by omega) ay (k:=20) (by omega);have ah:=bt.ok.len;obtain ⟨q,b1,g1,g2,g3,g4⟩:=Ws N bj bt hm m N 0 30000 s1 [] (by omega) (by omega) J (by omega) rfl (by simp);unfold vd;rw[h1,al];dsimp only;rw[WT N (by omega) (by omega),al,show xi N (m:Int) l (iP l 0 l) N s1 [] 0=_ from g1,al];exact ⟨l,q,b1,rfl,bt,g2.le (by omega),g3,g4⟩
def kG:List aC:=[(aC.mk 1 [116,49] 0 1 0 9),(aC.mk 2 [119] 1 2 3 0),(aC.mk 1 [116,50] 2 4 0 9),(aC.mk 3 [100] 3 5 0 0),(aC.mk 1 [116,51] 5 6 0 9),(aC.mk 1 [116,52] 4 7 0 9)]
def qp:List aU:=[(aU.mk 0 (-1) 1),(aU.mk 1 1 2),(aU.mk 2 2 (-1))]
def xD:List aU:=[(aU.mk 2 (-1) 2),(aU.mk 1 2 1),(aU.mk 0 1 (-1))]
def u3:List aW:=[aW.mk 1 1,aW.mk 3 4]
theorem uI:dV kG:=dV.of (by
 have h1:=NL 160 (by omega) (l:=kG);have J:tk 160 kG=aqV 0:=by kernel_rfl
 rw[h1] at J;exact arr.inj J)
theorem aiB (M:Nat):mR (M+60) kG 0 2=aqV (qp,0):=by kernel_rfl
theorem aiC (M:Nat):mR (M+60) kG 2 0=aqV (xD,0):=by kernel_rfl
theorem amY (M:Nat):tl (M+60) kG qp=aqV aqW:=by kernel_rfl
theorem amZ (M:Nat):tl (M+60) kG xD=aqV aqW:=by kernel_rfl
theorem amW (M:Nat):rb (M+60) kG qp (qp.length:Int) (M+60) [] 0=aqV [aW.mk 1 1]:=by kernel_rfl
theorem amX (M:Nat):rb (M+60) kG xD (xD.length:Int) (M+60) [] 0=aqV [aW.mk 1 1]:=by kernel_rfl
theorem aiD (M:Nat):Ay (M+60) kG qp=aqV ([(3,4)],0):=by kernel_rfl
theorem aiE (M:Nat):Ay (M+60) kG xD=aqV ([(3,4)],0):=by kernel_rfl
theorem YX {N:Nat} {w:List aU} (h1:tl N kG w=aqV aqW) (J:rb N kG w (w.length:Int) N [] 0=aqV [aW.mk 1 1]) (aj:Ay N kG w=aqV ([(3,4)],0)):mQ N kG w=aqV (u3,0):=by
 have jY:th N kG w=aqV ([aW.mk 1 1],0):=by unfold th;rw[h1,al,if_neg (by simp),J,al,YL (by simp) (by simp),al]
 unfold mQ;rw[jY,al,if_neg (by simp),aj,al,if_neg (by simp)];unfold Dy Aa;rw[if_pos ⟨by simp,by simp⟩];simp only[arN,List.map_nil,List.cons_append,asp];rw[YL (by simp) (by simp),al,al];rfl
def tZ:bk:=bk.mk 7 qp u3
theorem aiW {N:Nat} (bj:100000<=N):xU N=aqV aqW:=by
 obtain ⟨M,rfl⟩:∃M,N=M+60:=⟨N - 60,by omega⟩
 have ay:xR (M+60)=aqV kG:=rfl;have c8:=YX (amY M) (amW M) (aiD M);have dR:=YX (amZ M) (amX M) (aiE M);have T6:=gi.nil (M+60) kG;obtain ⟨p,cm,cw,dW,fG⟩:=Oa (M+60) (by omega) uI (r:=qp) (by decide);rw[c8] at cm;cases cm;have aX:nD [] 7 (qp,0) (u3,0)=([tZ],0):=by kernel_rfl
 have bs:=OU (M+60) (by omega) uI T6 (id:=7) (aiB M) (show qp.length<=1000 by decide) c8 (show u3.length<=1000 by decide);rw[aX] at bs;obtain ⟨_,eC,_,_⟩:=Yf T6 (id:=7) (f:=(qp,0)) (p:=(u3,0)) (show qp.length<=1000 by decide) c8 cw (show u3.length<=1000 by decide) fG (by rw[aX]);have eC:gi (M+60) kG [tZ]:=eC;have bC:=OU (M+60) (by omega) uI eC (id:=8) (aiC M) (show xD.length<=1000 by decide) dR (show u3.length<=1000 by decide);have e2:nD [tZ] 8 (xD,0) (u3,0)=([],23):=by kernel_rfl
 rw[e2] at bC;obtain ⟨f,f1,f2⟩:=afu (M+60) (by omega) uI 2 5;obtain ⟨p,g1,_,g3,_⟩:=Oa (M+60) (by omega) uI f2;have cQ:=OU (M+60) (by omega) uI eC (id:=7) f1 f2 g1 g3;have ij:nD [tZ] 7 f p=([],8):=by kernel_rfl
 rw[ij] at cQ;have fy:=aie (M+60) (by omega) uI eC 7;have oR:s7 [tZ] 7=([],0):=by kernel_rfl
 rw[oR] at fy;unfold xU;rw[ay,al,bs,al,al];dsimp only;rw[bC,al,al,cQ,al,al,fy,al];have aI:HY (M+60) [tZ] 0 23 8 [] 0=aqV aqW:=by have aH:aR [tZ] 0=aqV tZ:=rfl;unfold HY;rw[if_pos (by rfl),if_pos (by rfl),aH,al,if_pos (by rfl),al,if_pos (by rfl),al,if_pos (by rfl),ay,al,eC.p (by omega) uI,al,if_pos rfl,if_pos (by rfl),if_pos (by rfl),if_pos (by rfl),bP];rfl
 dsimp only;rw[aI,al]
end Go.W
end
section
namespace Go.W
open Go.aS
theorem amN (N:Nat) (bj:100000<=N) {l:List aC} (bt:dV l) {s:List bk} (eC:gi N l s) {id fr to:Int}:∃f p,nH N l fr to=aqV f/\f.1.length<=1000/\mQ N l f.1=aqV p/\oE N l f.1=aqV p/\p.1.length<=1000/\AF N l s id fr to=aqV (nD s id f p)/\
  ((nD s id f p).2=0->gi N l (nD s id f p).1):=by
 obtain ⟨f,f1,f2⟩:=agf N bj bt fr to;obtain ⟨p,c8,dR,gX,hX⟩:=Oa N (by omega) bt f2;refine ⟨f,p,f1,f2,c8,dR,gX,ahP N (by omega) bt eC f1 f2 dR gX,fun h=> ?_⟩;obtain ⟨g1,g2,_⟩:=Yf eC (id:=id) f2 c8 dR gX hX h;rw[g1];exact g2
theorem aeW (N:Nat) (bj:100000<=N) {l:List aC} (bt:dV l) {q:List Act} {s:List bk} {i:Nat} (ae:i<q.length) (eC:gi N l s):∃b1,Iq N l q s i=aqV b1/\gi N l b1:=by
 have aq:=cM ae;unfold Iq;rw[cJ aq,al,ahO N (by omega) bt eC,al,al];unfold Qd;cases (q[i]).set with
 |false=>
  rw[if_neg (by simp),al];dsimp only;by_cases aI:(s7 s q[i].id).2=0
  ·rw[if_pos (by simpa using aI)];exact ⟨_,rfl,eC.rel aI⟩
  ·rw[if_neg (by simpa using aI)];exact ⟨_,rfl,eC⟩
 |true=>
  obtain ⟨f,p,_,_,_,_,_,h1,J⟩:=amN N bj bt eC (id:=q[i].id) (fr:=q[i].from_) (to:=q[i].to);rw[if_pos rfl,cJ aq,al,al,al,h1,al,al];dsimp only;by_cases aI:(nD s q[i].id f p).2=0
  ·rw[if_pos (by simpa using aI)];exact ⟨_,rfl,J aI⟩
  ·rw[if_neg (by simpa using aI)];exact ⟨_,rfl,eC⟩
theorem VL (N:Nat) (bj:100000<=N) {l:List aC} (bt:dV l) {q:List Act} (aJ:q.length<=1000):∀(k n i:Nat) (s:List bk),k<n->i+k=q.length->gi N l s->∃b1,xd N l q n s i=aqV b1/\gi N l b1
 |k,0,i,s,ar,_,_=>by omega
 |0,n+1,i,s,ar,ae,h=>by rw[xd,if_neg (cF (by omega))];exact ⟨s,rfl,h⟩
 |k+1,n+1,i,s,ar,ae,h=>by obtain ⟨s1,h1,J⟩:=aeW N bj bt (q:=q) (i:=i) (by omega) h;rw[xd,if_pos (cH (by omega)),h1,al,bP,dm (by omega)];exact VL N bj bt aJ k n (i+1) s1 (by omega) (by omega) J
theorem afL (N:Nat) (bj:100000<=N) {l:List aC} (bt:dV l) {q:List Act} (aJ:q.length<=1000):∃s,Az N l q=aqV s/\gi N l s:=by
 obtain ⟨s,h1,J⟩:=VL N bj bt aJ q.length N 0 [] (by omega) (by omega) (gi.nil N l);unfold Az;rw[show xd N l q N [] 0=_ from h1,al];exact ⟨s,rfl,J⟩
def pC (s:List bk) (y:aW):Prop:=∃x∈s,y∈x.dU
theorem gi.fun {N:Nat} {l:List aC} {s:List bk} (h:gi N l s) {y z:aW} (ag:pC s y) (aF:pC s z) (he:y.ak=z.ak):y=z:=by
 have ap:y.ej=z.ej:=by
  obtain ⟨a,aq,ag⟩:=ag;obtain ⟨b,aa,aF⟩:=aF;by_cases eF:a=b
  ·subst eF;obtain ⟨d,o,rX⟩:=(h.ok a aq).Nd;rw[<-Pb rX.lt ag,<-Pb rX.lt aF,he]
  ·obtain ⟨i,ae⟩:=arS aq;obtain ⟨j,av⟩:=arS aa;obtain ⟨jk,im⟩:=aq5.1 ae;obtain ⟨gA,nd⟩:=aq5.1 av;have ab:ea a b=aqZ:=by
    rcases asE i j with aN|rfl|aN
    ·have:=(arT.1 h.uh i j jk gA aN).2
     rwa [im,nd] at this
    ·rw[im] at nd;exact absurd nd eF
    ·have:=(arT.1 h.uh j i gA jk aN).2;rw[im,nd,G6] at this;exact this
   by_cases dQ:y.ej=z.ej
   ·exact dQ
   ·rw[atr] at ab;exact absurd (Hd.2 (.inr ⟨y,ag,z,aF,he,dQ⟩)) ab
 cases y;cases z;simp at he ap⊢;exact ⟨he,ap⟩
theorem aiA (N:Nat) (bj:60000<=N) {q:List aW} (aJ:q.length<=50000) (x:aW):IQ N q x=aqV (q.any fun y=>y.ak==x.ak):=by
 have h:=j2 (fun _ (y:aW)=>y.ak==x.ak) (fun i _=>(i:Int)) (fun n i=>su N q x (q.length:Int) n i) (l:=q) (fun n=>by
   show su N q x (q.length:Int) (n+1) _=_;rw[su,if_neg (cF (by omega))]) (fun n i y ag=>by
  have ah:=(aq5.1 ag).1;show su N q x (q.length:Int) (n+1) i=_;have hk:QU N y x=aqV (y.ak==x.ak):=rfl;rw[su,if_pos (cH (by omega)),cJ ag,al,hk,al,dm (by omega)]) q.length N 0 (by omega) (by omega)
 rw[arB] at h;have aP:IS N q x=aqV (qe (fun _ (y:aW)=>y.ak==x.ak) 0 q):=by
  unfold IS;rw[show su N q x (q.length:Int) N 0=_ from h,al];rcases zg (fun _ (y:aW)=>y.ak==x.ak) q 0 with ⟨h1,J⟩|⟨h1,_⟩
  ·rw[h1,J]
  ·rw[h1]
 unfold IQ;rw[aP,al,bP];congr 1;rw[arV];rcases F9 (fun _ (y:aW)=>y.ak==x.ak) q 0 with ⟨h1,J⟩|⟨j,y,h1,J,aj,_⟩
 ·rw[h1];constructor
  ·intro h;simp at h
  ·intro h;obtain ⟨y,ag,ab⟩:=asH.1 h;obtain ⟨j,av⟩:=arS ag;rw[J j y av] at ab;cases ab
 ·rw[h1];constructor
  ·intro _;exact asH.2 ⟨y,are J,aj⟩
  ·intro _;exact nq (by omega)
structure AV (s:List bk) (q:List aW) (P:aW->Prop) (c:Nat):Prop where
 len:q.length<=c
 fF:(q.map aW.ak).Nodup
 mem:∀y,y∈q↔P y
 sub:∀y,P y->pC s y
theorem Nc (N:Nat) (bj:60000<=N) {l:List aC} {s:List bk} (eC:gi N l s) {xs:List aW} (U:∀y∈xs,pC s y) (FK:xs.length<=1000):∀(k n i c:Nat) (q:List aW) (P:aW->Prop),k<n->i+k=xs.length->AV s q P c->c+k<=40000->
  ∃dJ,xp N xs (xs.length:Int) n q i=aqV dJ/\AV s dJ (fun y=>P y\/y∈xs.drop i) (c+k)
 |k,0,i,c,q,P,ar,_,_,_=>by omega
 |0,n+1,i,c,q,P,ar,ae,h,_=>by
  obtain rfl:i=xs.length:=by omega
  rw[xp,if_neg (cF (by omega))];exact ⟨q,rfl,h.len,h.fF,fun y=>by rw[h.mem];simp,fun y ag=>ag.elim (h.sub y) fun h=>by simp at h⟩
 |k+1,n+1,i,c,q,P,ar,ae,h,ab=>by
  have aN:i<xs.length:=by omega
  have aq:=cM aN;have hlen:=h.len;have qJ:=jA aq;obtain ⟨x,kB⟩:∃x,x=xs[i]:=⟨_,rfl⟩
  rw[<-kB] at aq qJ;have pX:pC s x:=U x (are aq);rw[xp,if_pos (cH (by omega))];unfold PV;rw[cJ aq,al,aiA N bj (by omega),al];by_cases ax:(q.any fun y=>y.ak==x.ak)=aqW
  ·obtain ⟨y,ag,adw⟩:=asH.1 ax;have adz:y=x:=eC.fun (h.sub y ((h.mem y).1 ag)) pX (by simpa using adw);subst adz;rw[ax,if_neg (by simp),al,dm (by omega)];obtain ⟨dJ,g1,g2⟩:=Nc N bj eC U FK k n (i+1) c q P (by omega) (by omega) h (by omega);refine ⟨dJ,g1,by have:=g2.len;omega,g2.fF,fun z=> ?_,fun z aF=> ?_⟩
   ·rw[g2.mem,qJ,arb];constructor
    ·rintro (aF|aF)
     ·exact .inl aF
     ·exact .inr (.inr aF)
    ·rintro (aF|rfl|aF)
     ·exact .inl aF
     ·exact .inl ((h.mem _).1 ag)
     ·exact .inr aF
   ·rcases aF with aF|aF
    ·exact h.sub z aF
    ·exact U z (atn aF)
  ·have ke:∀y∈q,y.ak≠x.ak:=fun y ag he=>ax (asH.2 ⟨y,ag,by simpa using he⟩);rw[arW] at ax;rw[ax,if_pos (by rfl),gY (by simp;omega),al,al,dm (by omega)];have J:AV s (q++[x]) (fun y=>P y\/y=x) (c+1):=by
    refine ⟨by simp;omega, ?_,fun z=> ?_,fun z aF=> ?_⟩
    ·rw[ar',ar1];refine ⟨h.fF,by simp,fun a aq b aa=> ?_⟩;obtain ⟨y,ag,rfl⟩:=arf.1 aq;simp at aa;subst aa;exact ke y ag
    ·rw[arj,h.mem,arX]
    ·rcases aF with aF|rfl
     ·exact h.sub z aF
     ·exact pX
   obtain ⟨dJ,g1,g2⟩:=Nc N bj eC U FK k n (i+1) (c+1) (q++[x]) (fun y=>P y\/y=x) (by omega) (by omega) J (by omega);refine ⟨dJ,g1,by have:=g2.len;omega,g2.fF,fun z=> ?_,fun z aF=> ?_⟩
   ·rw[g2.mem,qJ,arb,or_assoc]
   ·rcases aF with aF|aF
    ·exact h.sub z aF
    ·exact U z (atn aF)
theorem Vs (N:Nat) (bj:60000<=N) {l:List aC} {s:List bk} (eC:gi N l s):∀(k n i:Nat) (q:List aW) (P:aW->Prop),k<n->i+k=s.length->AV s q P (1000*i)->
  ∃dJ,xo N s (s.length:Int) n q i=aqV dJ/\AV s dJ (fun y=>P y\/pC (s.drop i) y) (1000*s.length)
 |k,0,i,q,P,ar,_,_=>by omega
 |0,n+1,i,q,P,ar,ae,h=>by
  obtain rfl:i=s.length:=by omega
  rw[xo,if_neg (cF (by omega))];exact ⟨q,rfl,h.len,h.fF,fun y=>by rw[h.mem];simp[pC],fun y ag=>ag.elim (h.sub y) fun h=>by simp[pC] at h⟩
 |k+1,n+1,i,q,P,ar,ae,h=>by
  have ah:=eC.len;have aN:i<s.length:=by omega
  have aq:=cM aN;have qJ:=jA aq;obtain ⟨x,kB⟩:∃x,x=s[i]:=⟨_,rfl⟩
  rw[<-kB] at aq qJ;have r2:=are aq;have aa:=(eC.ok x r2).nQ.2;obtain ⟨cm,h1,J⟩:=Nc N bj eC (xs:=x.dU) (fun y ag=>⟨x,r2,ag⟩) aa x.dU.length N 0 (1000*i) q P (by omega) (by omega) h (by omega);rw[xo,if_pos (cH (by omega)),cJ aq,al,show xp N x.dU (x.dU.length:Int) N q 0=_ from h1,al,dm (by omega)];obtain ⟨dJ,g1,g2⟩:=Vs N bj eC k n (i+1) cm (fun y=>P y\/y∈x.dU) (by omega) (by omega) ⟨by have:=J.len;omega,J.fF,fun y=>by rw[J.mem,arB],fun y ag=>J.sub y (by rw[arB];exact ag)⟩;refine ⟨dJ,g1,g2.len,g2.fF,fun y=> ?_,fun y ag=> ?_⟩
  ·rw[g2.mem,qJ,or_assoc];unfold pC;simp only[arb,exists_eq_or_imp]
  ·rcases ag with ag|⟨a,aq,ag⟩
   ·exact h.sub y ag
   ·exact ⟨a,atn aq,ag⟩
theorem aid (N:Nat) (bj:60000<=N) {l:List aC} (bt:dV l) {s:List bk} (eC:gi N l s):∃q,DZ N s=aqV q/\(q.Pairwise fun a b=>a.ak<b.ak)/\(∀y,y∈q↔pC s y)/\q.length<=1000/\pE l q:=by
 have ah:=eC.len;obtain ⟨q,h1,J⟩:=Vs N bj eC s.length N 0 [] (fun _=>False) (by omega) (by omega) ⟨by simp,by simp,by simp,by simp⟩;have hlen:=J.len;have hL:∀y,y∈lG q↔pC s y:=fun y=>by rw[Cw,J.mem,arB];simp
 have dw:∀y∈lG q,ly l y:=fun y ag=>by obtain ⟨x,U,ag⟩:=(hL y).1 ag;obtain ⟨d,o,rX⟩:=(eC.ok x U).Nd;exact rX.ly (eC.ok x U).rt.2.1 y ag
 have aN:=zi J.fF;refine ⟨lG q, ?_,aN,hL, ?_,pE.of dw aN⟩
 ·unfold DZ;rw[show xo N s (s.length:Int) N [] 0=_ from h1,al];unfold kn;rw[if_pos (by omega),al];rfl
 ·have ni:=bt.len;have:=sj (a:=(lG q).map aW.ak) (b:=(arC l.length).map fun (i:Nat)=>(i:Int)) (by
   unfold List.Nodup;rw[atF];exact aN.imp fun h he=>by omega) fun a aq=>by
   obtain ⟨y,ag,rfl⟩:=arf.1 aq;obtain ⟨aI,x,U,_⟩:=dw y ag;have:=(aq5.1 U).1;exact arf.2 ⟨y.ak.toNat,asb.2 this,by omega⟩
  simp at this;omega
end Go.W
end
section
namespace Go.W
open Go.aS
theorem amK (t:List Int):∃N,IW N t=aqV aqW:=by
 refine ⟨100000, ?_⟩;obtain ⟨N,bj⟩:∃N:Nat,N=100000:=⟨_,rfl⟩
 rw[<-bj];have bj:100000<=N:=by omega
 obtain ⟨l,q,b1,h1,bt,_,J,_⟩:=ahA N (by omega) (ad5 t) (m:=10) (by omega);obtain ⟨s,g1,eC⟩:=afL N bj bt.ok (q:=q) (by omega);obtain ⟨p,c8,dR,gX,hX,za⟩:=aid N (by omega) bt.ok eC;have kX:=eC.len;have aM:=ph (fun _:bk=>aqZ) aqZ (fun n i=>sx N l s p n i) N (l:=s) (by omega) (fun n=>by
   show sx N l s p (n+1) _=_;rw[sx,if_neg (cF (by omega))]) fun n i x U=>by
  have aN:=(aq5.1 U).1;have r2:=are U;have hk:=eC.ok x r2;obtain ⟨d,o,rX⟩:=hk.Nd;have he:xP N l x.eJ p=aqV ([],0):=by
   rcases ahK N bt.ok.len (r:=x.eJ) (s:=p) hk.nQ.1 hX (by omega) (Y9 bt.ok (by omega)) with ⟨h,_⟩|⟨_,h,_⟩|⟨_,_,h⟩
   ·exact absurd hk.rt h
   ·exact absurd za h
   ·rw[h,aeK hk.rt rX dR fun y ag=>(gX y).2 ⟨x,r2,ag⟩]
  have h1:PU N [] 0=aqV aqZ:=rfl;show sx N l s p (n+1) i=_;rw[sx,if_pos (cH (by omega)),cJ U,al,he,al,h1,al,if_neg (by simp),if_neg (by simp),bP,dm (by omega)]
 rw[if_neg (by simp)] at aM;have aM:sx N l s p N 0=aqV (.inl ()):=aM;have h1:vd N (en.mk t 0) 10=aqV (l,q,b1):=h1;unfold IW AD;rw[al,h1,al];dsimp only;rw[g1,al,c8,al,aM,al];dsimp only;rw[aiW bj,al]
end Go.W
end
