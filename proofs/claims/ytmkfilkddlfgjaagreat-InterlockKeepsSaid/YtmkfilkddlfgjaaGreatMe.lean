import Derived.Test.YtmkfilkddlfgjaaGreatMd
set_option linter.unusedSimpArgs false
set_option linter.unusedVariables false
set_option linter.unusedSectionVars false
open Bool renaming and_eq_true->aq5,eq_false_iff->as7,eq_iff_iff->arV,false_eq_true->arz,false_or->arS,not_eq_true->arQ,not_eq_true'->ar',not_false->atQ,not_true->ass,false->aqT,true->aqQ
open Classical renaming not_not->at5,propDecidable->arR
open Decidable renaming byContradiction->auv
open Go renaming IntKind->aqW
open Go.IntKind renaming wrap->aq0
open Int renaming eq_ofNat_of_zero_le->arw,lt_trichotomy->aum,natCast_zero->asn,toNat_natCast->arZ,toNat_of_nonneg->at8
open List renaming Nodup->atS,any_cons->asD,any_eq_true->ast,append_assoc->asM,append_nil->asN,contains_eq_mem->atm,contains_iff_mem->atO,drop_length->asd,drop_sublist->auo,drop_zero->arv,ext_getElem?->asw,filter_cons->asO,find?_eq_none->aup,flatMap_cons->ash,getD->arW,getElem?_append_left->arf,getElem?_append_right->are,getElem?_drop->ar0,getElem?_eq_none->asP,getElem?_eq_some_iff->aqZ,getElem?_map->arB,getElem?_of_mem->arM,getElem?_set_ne->asK,getElem?_take->arD,getElem_map->aua,getElem_mem->asu,length_append->ari,length_cons->arr,length_drop->ar4,length_map->arN,length_nil->asR,length_range->atN,length_set->asb,length_take->arA,map_append->ar3,map_cons->arG,map_nil->ate,mem_append->arc,mem_append_left->as8,mem_append_right->ato,mem_cons->aq6,mem_cons_of_mem->ard,mem_cons_self->arn,mem_flatMap->asz,mem_map->aq',mem_of_find?_eq_some->auq,mem_of_getElem?->aq7,mem_of_mem_drop->ati,mem_of_mem_take->ath,mem_range->ar5,mem_singleton->arO,nil_append->asj,nodup_append->arT,nodup_cons->asQ,nodup_iff_pairwise_ne->aun,not_mem_nil->asB,pairwise_append->aul,pairwise_cons->at',pairwise_iff_getElem->arH,pairwise_map->atp,range->arI,singleton_append->atJ,take_append_drop->atG,take_length->asq,take_sublist->atn,take_zero->atu
open Nat renaming le_refl->aq3,lt_trichotomy->asA,zero_add->ara
open Option renaming bind->aqU,getD_some->asg,isSome_some->at9,some->ark,none->aqS,some->aqP
open Prod renaming fst->ase
open UInt8 renaming ofNat->asL,toNat->asc
section
namespace Go.W
open Go.aS
def lx (i:Nat):List UInt8:=[112,asL (48+i / 10%10),asL (48+i%10)]
theorem O7 {n:Nat} (h:n<256):ov (n:Int)=aqP (asL n):=by
 unfold ov;rw[if_pos (by omega)];simp
theorem N5 (N:Nat) {i:Nat} (h:i<1000):xE N (i:Int)=aqP (lx i):=by
 unfold xE lx;have aX:aq0 .i64 (Int.tdiv (i:Int) 10)=((i / 10:Nat):Int):=by rw[Int.tdiv_eq_ediv_of_nonneg (by omega),gW (by omega) (by omega)];omega
 have e2:Int.tmod ((i / 10:Nat):Int) 10=((i / 10%10:Nat):Int):=by rw[Int.tmod_eq_emod_of_nonneg (by omega)];omega
 have hR:Int.tmod (i:Int) 10=((i%10:Nat):Int):=by rw[Int.tmod_eq_emod_of_nonneg (by omega)];omega
 rw[aX,e2,hR,gW (by omega) (by omega),gW (by omega) (by omega),ZQ (by omega) (by omega),ZQ (by omega) (by omega)];have f1:=O7 (n:=112) (by omega);have f2:=O7 (n:=48+i / 10%10) (by omega);have f3:=O7 (n:=48+i%10) (by omega);rw[show ((48:Int)+((i / 10%10:Nat):Int))=((48+i / 10%10:Nat):Int) by omega,show ((48:Int)+((i%10:Nat):Int))=((48+i%10:Nat):Int) by omega,f2,f3];have f1:ov 112=aqP (asL 112):=f1;rw[f1];rfl
theorem afw {i j:Nat} (ae:i<100) (ar:j<100) (h:lx i=lx j):i=j:=by
 unfold lx at h;simp only[List.cons.injEq,and_true,true_and] at h;have c4:=congrArg asc h.1;have a2:=congrArg asc h.2;simp only[UInt8.toNat_ofNat'] at c4 a2;omega
theorem N6 (i:Nat):kT (lx i)=aqQ:=by
 have key:∀d:Nat,d<10->og (asL (48+d))=aqQ:=by intro d aB;unfold og;rw[UInt8.toNat_ofNat'];simp;omega
 unfold kT lx;simp only[List.all_cons,List.all_nil,key (i / 10%10) (by omega),key (i%10) (by omega)];rfl
structure nO (l:List aC) (op:List Int) (dU:Int):Prop where
 snd:∀x∈l,jc x=aqQ
 pX:∀(i:Nat) (x:aC),l[i]? =aqP x->x.name=lx i
 fR:∀n,fx l n<=2
 ga:∀n∈op,fx l n<=1
 fC:op.Nodup
 rg:∀n∈op,0<=n/\n<dU
 hh:∀n,dU<=n->fx l n=0
 vU:(op.length:Int)<=dU
 M3:dU<=64
 yV:0<=dU
 fst:∃x,l[0]? =aqP x/\x.kind=1
theorem nO.add {l:List aC} {op nq:List Int} {dU lX:Int} {x:aC} (h:nO l op dU) (az:jc x=aqQ) (aq:x.name=lx l.length) (h1:∀n∈bZ x,n∈op\/(dU<=n/\n<lX)) (J:∀n∈nq,(n∈op/\n∉bZ x)\/(dU<=n/\n<lX))
  (aj:nq.Nodup) (aM:dU<=lX) (br:lX<=64) (dt:(nq.length:Int)<=lX):nO (l++[x]) nq lX where
 snd:=fun y ag=>by
  rcases arc.1 ag with ag|ag
  ·exact h.snd y ag
  ·simp at ag;subst ag;exact az
 pX:=fun i y ag=>by
  by_cases ae:i<l.length
  ·rw[arf ae] at ag;exact h.pX i y ag
  ·rw[are (by omega)] at ag;have hs:=(aqZ.1 ag).1;simp at hs;have:i=l.length:=by omega
   subst this;simp at ag;subst ag;exact aq
 fR:=fun n=>by
  rw[ue];have a:=h.fR n;split
  ·rename_i hm;rcases h1 n hm with hm|⟨hm,_⟩
   ·have:=h.ga n hm;omega
   ·have:=h.hh n hm;omega
  ·omega
 ga:=fun n hm=>by
  rw[ue];rcases J n hm with ⟨a,b⟩|⟨a,b⟩
  ·have:=h.ga n a;rw[if_neg b];omega
  ·have:=h.hh n a;split<;>omega
 fC:=aj
 rg:=fun n hm=>by
  rcases J n hm with ⟨a,b⟩|⟨a,b⟩
  ·have:=h.rg n a;omega
  ·have:=h.yV;omega
 hh:=fun n hm=>by
  rw[ue,if_neg,h.hh n (by omega)]
  ·rfl
  ·intro ax;rcases h1 n ax with a|a
   ·have:=h.rg n a;omega
   ·omega
 vU:=dt
 M3:=br
 yV:=by have:=h.yV;omega
 fst:=by obtain ⟨y,ag,hk⟩:=h.fst;exact ⟨y,by rw[arf (aqZ.1 ag).1];exact ag,hk⟩
theorem nO.ok {l:List aC} {op:List Int} {dU:Int} (h:nO l op dU) (ai:l.length<=96):ef l where
 len:=ai
 snd:=h.snd
 pX:=arH.2 fun i j ae ar cW ax=>by rw[h.pX i _ (cI ae),h.pX j _ (cI ar)] at ax;have:=afw (by omega) (by omega) ax;omega
 fR:=h.fR
theorem Co {m:List UInt8} {a b len:Int} (hm:kT m=aqQ) (au:0<=a/\a<64) (aa:0<=b/\b<64) (eH:a≠b) (ai:1<=len/\len<=100000):jc (aC.mk 1 m a b 0 len)=aqQ:=by
 have he:r1 [a,b]=aqQ:=GO.2 ⟨by simp[eH],by simp;omega⟩;unfold jc;have:bZ (aC.mk 1 m a b 0 len)=[a,b]:=by simp[bZ]
 rw[this];simp[hm,he,ai]
theorem afn {m:List UInt8} {a b:Int} (hm:kT m=aqQ) (au:0<=a/\a<64) (aa:0<=b/\b<64) (eH:a≠b):jc (aC.mk 3 m a b 0 0)=aqQ:=by
 have he:r1 [a,b]=aqQ:=GO.2 ⟨by simp[eH],by simp;omega⟩;unfold jc;have:bZ (aC.mk 3 m a b 0 0)=[a,b]:=by simp[bZ]
 rw[this];simp[hm,he]
theorem V9 {m:List UInt8} {a b c:Int} (hm:kT m=aqQ) (au:0<=a/\a<64) (aa:0<=b/\b<64) (ab:0<=c/\c<64) (eH:a≠b) (LK:a≠c) (abD:b≠c):jc (aC.mk 2 m a b c 0)=aqQ:=by
 have he:r1 [a,b,c]=aqQ:=GO.2 ⟨by simp[eH,LK,abD],by simp;omega⟩;unfold jc;have:bZ (aC.mk 2 m a b c 0)=[a,b,c]:=by simp[bZ]
 rw[this];simp[hm,he]
theorem Xm {op:List Int} {r:Nat} {a:Int} (au:op[r]? =aqP a) (aB:op.Nodup):a∉op.take r++op.drop (r+1)/\(∀n∈op.take r++op.drop (r+1),n∈op)/\(op.take r++op.drop (r+1)).Nodup/\(op.take r++op.drop (r+1)).length+1=op.length:=by
 have aw:=(aqZ.1 au).1;have MA:op=op.take r++a::op.drop (r+1):=by
  conv=>lhs;rw[<-atG r op,jt au]
 have k5:=aB;rw[MA,arT] at k5;obtain ⟨d1,d2,d3⟩:=k5;have TG:=asQ.1 d2;refine ⟨?_, ?_, ?_, ?_⟩
 ·intro hm;rcases arc.1 hm with hm|hm
  ·exact d3 a hm a arn rfl
  ·exact TG.1 hm
 ·intro n aq;rcases arc.1 aq with aq|aq
  ·exact ath aq
  ·exact ati aq
 ·rw[arT];exact ⟨d1,TG.2,fun x U y ag=>d3 x U y (ard _ ag)⟩
 ·rw[ari,arA,ar4];omega
theorem aet (N:Nat) (k:Int) (b:Bool):H6 N k b=aqP (b||(k==1)):=by
 unfold H6;cases b<;>simp[bN]
theorem ah5 (N:Nat) {c:Int} {s:er} {l:List aC} {op:List Int} {dU:Int} {r:Nat} {a:Int} {k:Int} (cb:nO l op dU) (ai:l.length<96) (az:ho c s) (ab:c<=1000000) (lP:dU<62) (au:op[r]? =aqP a) (j1:0<=k) (hk:k<6):
  ∃cc nq lX x,H5 N s (op.take r++op.drop (r+1)) dU a (aC.mk 0 (lx l.length) 0 0 0 0) k=aqP (cc,nq,lX,x)/\ho (c+5) cc/\nO (l++[x]) nq lX:=by
 obtain ⟨t1,t2,t3,t4⟩:=Xm au cb.fC;generalize jo:op.take r++op.drop (r+1)=q at*;have ht:=N6 l.length;have yj:=aq7 au;obtain ⟨a0,c4⟩:=cb.rg a yj;have aK:(q.length:Int)+1<=dU:=by have:=cb.vU;omega
 have vD:=cb.yV;have fresh:∀n∈q,n<dU:=fun n aq=>(cb.rg n (t2 n aq)).2;have f1:dU∉q:=fun h=>by have:=fresh _ h;omega
 have f2:dU+1∉q:=fun h=>by have:=fresh _ h;omega
 have cN:aq0 .i64 (dU+1)=dU+1:=gW (by omega) (by omega);have fk:aq0 .i64 (dU+2)=dU+2:=gW (by omega) (by omega);have Ve:(q++[dU]).Nodup:=by rw[arT];exact ⟨t3,by simp,fun x U y ag=>by simp at ag;subst ag;exact fun ax=>f1 (ax▸U)⟩
 have Vf:(q++[dU,dU+1]).Nodup:=by
  rw[arT];refine ⟨t3,by simp;omega,fun x U y ag=> ?_⟩;simp at ag;rcases ag with rfl|rfl
  ·exact fun ax=>f1 (ax▸U)
  ·exact fun ax=>f2 (ax▸U)
 have aaG:dR q [dU]=aqP (q++[dU]):=hj (by simp;omega);have aaH:dR q [dU,dU+1]=aqP (q++[dU,dU+1]):=hj (by simp;omega);have dg:∀n∈q,n∈op/\n≠a:=fun n aq=>⟨t2 n aq,fun ax=>t1 (ax▸aq)⟩
 have LC:ho (c+5) s:=az.le (by omega);unfold H5;simp only[bN,aet,al,cN,fk,aaG,aaH];by_cases adN:k=0\/k=1
 ·have aa:((k==0)||(k==1))=aqQ:=by simpa using adN
  rw[if_pos aa];refine ⟨s,_,_,_,rfl,LC,cb.add (V9 ht ⟨a0,by omega⟩ ⟨vD,by omega⟩ ⟨by omega,by omega⟩ (by omega) (by omega) (by omega)) rfl ?_ ?_ Vf (by omega) (by omega) (by simp;omega)⟩
  ·intro n aq;simp[bZ] at aq;rcases aq with rfl|rfl|rfl
   ·exact .inl yj
   ·exact .inr (by omega)
   ·exact .inr (by omega)
  ·intro n aq;rcases arc.1 aq with aq|aq
   ·obtain ⟨gm,gV⟩:=dg n aq;have:=fresh n aq;refine .inl ⟨gm, ?_⟩;simp[bZ];omega
   ·simp at aq;right;omega
 ·have aa:((k==0)||(k==1))=aqT:=by simp;omega
  rw[if_neg (by rw[aa];simp)];by_cases bE:k=2
  ·rw[if_pos (by simpa using bE)];refine ⟨s,_,_,_,rfl,LC,cb.add (V9 ht ⟨vD,by omega⟩ ⟨a0,by omega⟩ ⟨by omega,by omega⟩ (by omega) (by omega) (by omega)) rfl ?_ ?_ Vf (by omega) (by omega) (by simp;omega)⟩
   ·intro n aq;simp[bZ] at aq;rcases aq with rfl|rfl|rfl
    ·exact .inr (by omega)
    ·exact .inl yj
    ·exact .inr (by omega)
   ·intro n aq;rcases arc.1 aq with aq|aq
    ·obtain ⟨gm,gV⟩:=dg n aq;have:=fresh n aq;refine .inl ⟨gm, ?_⟩;simp[bZ];omega
    ·simp at aq;right;omega
  ·rw[if_neg (by simpa using bE)];by_cases cM:k=3
   ·rw[if_pos (by simpa using cM)];refine ⟨s,_,_,_,rfl,LC,cb.add (afn ht ⟨a0,by omega⟩ ⟨vD,by omega⟩ (by omega)) rfl ?_ ?_ Ve (by omega) (by omega) (by simp;omega)⟩
    ·intro n aq;simp[bZ] at aq;rcases aq with rfl|rfl
     ·exact .inl yj
     ·exact .inr (by omega)
    ·intro n aq;rcases arc.1 aq with aq|aq
     ·obtain ⟨gm,gV⟩:=dg n aq;have:=fresh n aq;refine .inl ⟨gm, ?_⟩;simp[bZ];omega
     ·simp at aq;right;omega
   ·rw[if_neg (by simpa using cM)];obtain ⟨len,s1,g1,g2,g3⟩:=ah4 N (s:=s) (c:=c) [1,300,100000] (by simp) (by simp) az (by omega);have hlen:1<=len/\len<=100000:=by simp at g2;omega
    rw[g1,al];unfold PL;obtain ⟨y,s2,h1,J,aj,aM⟩:=lZ N (s:=s1) (c:=c+1) 3 (by omega) (by omega) g3 (by omega);simp only[h1,al];by_cases ag:y=0/\0<q.length
    ·obtain ⟨ag,tH⟩:=ag;rw[if_pos (by simpa using ag),al,if_pos (cA (by omega))];obtain ⟨p,an⟩:∃p,q.length=p+1:=⟨q.length - 1,by omega⟩
     have hw:aq0 .i64 ((q.length:Int) - 1)=(p:Int):=by rw[gW (by omega) (by omega)];omega
     have mw:p<q.length:=by omega
     rw[hw,cC (cI mw)];simp only[al];rw[y0 (by omega),al];have abF:=asu mw;obtain ⟨df,ff⟩:=dg _ abF;obtain ⟨nz,ej⟩:=cb.rg _ df;have Mr:q=q.take p++[q[p]]:=by
      conv=>lhs;rw[<-atG p q,jt (cI mw)]
      rw[List.drop_of_length_le (by omega)]
     have pM:q[p]∉q.take p:=by intro ax;have aB:=t3;rw[Mr,arT] at aB;exact aB.2.2 _ ax q[p] (by simp) rfl
     refine ⟨s2,_,_,_,rfl,aM.le (by omega),cb.add (Co ht ⟨a0,by omega⟩ ⟨nz,by omega⟩ (fun ax=>ff ax.symm) hlen) rfl ?_ ?_ (t3.sublist (atn p q)) (by omega) (by omega) (by rw[arA];omega)⟩
     ·intro n aq;simp[bZ] at aq;rcases aq with rfl|rfl
      ·exact .inl yj
      ·exact .inl df
     ·intro n aq;obtain ⟨gm,gV⟩:=dg n (ath aq);refine .inl ⟨gm, ?_⟩;simp[bZ];exact ⟨gV,fun ax=>pM (ax▸aq)⟩
    ·have yr:∀{bx:Type} (f:er×Bool->Option bx),(aqU (if (y==0)=aqQ then aqP (s2,decide (0<(q.length:Int))) else aqP (s2,aqT)) f)=f (s2,aqT):=by
      intro bx f;by_cases aI:y=0
      ·rw[if_pos (by simpa using aI),al];have TR:¬0<q.length:=fun h=>ag ⟨aI,h⟩;have:decide (0<(q.length:Int))=aqT:=by rw[decide_eq_false_iff_not];omega
       rw[this]
      ·rw[if_neg (by simpa using aI),al]
     rw[yr];simp only[arz,if_false];obtain ⟨bj,j9,i1,i2,i3,i4⟩:=lZ N (s:=s2) (c:=c+1+1) 2 (by omega) (by omega) aM (by omega);rw[i1,al];have Ff:∀n∈bZ (aC.mk 1 (lx l.length) a dU 0 len),n∈op\/(dU<=n/\n<dU+1):=by
      intro n aq;simp[bZ] at aq;rcases aq with rfl|rfl
      ·exact .inl yj
      ·exact .inr (by omega)
     have hold:∀n∈q,n∈op/\n∉bZ (aC.mk 1 (lx l.length) a dU 0 len):=by intro n aq;obtain ⟨gm,gV⟩:=dg n aq;have:=fresh n aq;refine ⟨gm, ?_⟩;simp[bZ];omega
     by_cases yI:bj=0
     ·rw[if_pos (by simpa using yI)];refine ⟨j9,_,_,_,rfl,i4.le (by omega),cb.add (Co ht ⟨a0,by omega⟩ ⟨vD,by omega⟩ (by omega) hlen) rfl Ff ?_ Ve (by omega) (by omega) (by simp;omega)⟩;intro n aq;rcases arc.1 aq with aq|aq
      ·exact .inl (hold n aq)
      ·simp at aq;right;omega
     ·rw[if_neg (by simpa using yI)];exact ⟨j9,_,_,_,rfl,i4.le (by omega),cb.add (Co ht ⟨a0,by omega⟩ ⟨vD,by omega⟩ (by omega) hlen) rfl Ff (fun n aq=> .inl (hold n aq)) t3 (by omega) (by omega) (by omega)⟩
theorem aes (N:Nat) (k:Int) (l:List aC) (op:List Int) (dU:Int):H4 N k l op dU=aqP (decide ((l.length:Int)<k/\0<op.length/\dU<62)):=by
 unfold H4;by_cases h1:(l.length:Int)<k
 ·rw[if_pos (cA h1)];by_cases J:0<op.length
  ·rw[if_pos (cA (by omega))];simp[h1,J]
  ·rw[if_neg (cw (by omega))];simp[J]
 ·rw[if_neg (cw h1)];simp[h1]
theorem W9 (N:Nat) {b:Int} (hY:0<=b) (aa:b<=900000) {k:Int} (hk:k<=60):∀(f n:Nat) (c:Int) (s:er) (l:List aC) (op:List Int) (dU:Int),f<n->k<=(l.length:Int)+f->(l.length:Int)<=61->c<=b+10000->(l.length:Int)*100+c<=b+9000+(l.length:Int)*107->ho c s->nO l op dU->
  ∃cc kq nq lX,Dn N k n s l op dU=aqP (cc,kq,nq,lX)/\ho (b+20000) cc/\(kq.length:Int)<=61/\nO kq nq lX
 |f,0,c,s,l,op,dU,aq,_,_,_,_,_,_=>by omega
 |f,n+1,c,s,l,op,dU,aq,aP,ai,ab,abH,az,cb=>by
  rw[Dn,aes,al];by_cases qy:(l.length:Int)<k/\0<op.length/\dU<62
  ·rw[decide_eq_true qy,if_pos rfl];obtain ⟨c1,c2,ry⟩:=qy;have jO:=cb.vU;obtain ⟨r,s1,h1,J,aj,aM⟩:=lZ N (s:=s) (c:=c) (op.length:Int) (by omega) (by omega) az (by omega);obtain ⟨q,rfl⟩:=arw J;have aK:q<op.length:=by omega
   have au:=cI aK;rw[h1,al];simp only[];rw[cC au,al,al,y0 (by omega),al,dh (by omega),wo (by omega),al];have aX:List.take (Int.toNat (op.length:Int)) op=op:=by rw[arZ,asq]
   rw[aX,arZ,arZ,hj (by rw[arA,ar4];omega),al,N5 N (by omega),al];obtain ⟨cu,s2,g1,g2,g3,g4⟩:=lZ N (s:=s1) (c:=c+1) 6 (by omega) (by omega) aM (by omega);rw[g1,al];simp only[];obtain ⟨j9,nq,lX,x,dm,ei,gb⟩:=ah5 N (c:=c+1+1) cb (by omega) g4 (by omega) ry au g2 g3;rw[dm,al];simp only[];rw[hj (by simp;omega),al];cases f with
   |zero=>omega
   |succ f=>exact W9 N hY aa hk f n (c+7) j9 (l++[x]) nq lX (by omega) (by simp;omega) (by simp;omega) (by simp at*;omega) (by simp;omega) (ei.le (by omega)) gb
  ·rw[decide_eq_false qy,if_neg (by simp)];exact ⟨s,l,op,dU,rfl,az.le (by omega),ai,cb⟩
theorem aeu (N:Nat) (l:List aC) (op:List Int) (dU:Int):H7 N l op dU=aqP (decide (0<op.length/\l.length<96/\dU<64)):=by
 unfold H7;by_cases h1:0<op.length
 ·rw[if_pos (cA (by omega))];by_cases J:l.length<96
  ·rw[if_pos (cA (by omega))];simp[h1,J]
  ·rw[if_neg (cw (by omega))];simp[J]
 ·rw[if_neg (cw (by omega))];simp[h1]
theorem Ob (N:Nat) {b:Int} (hY:0<=b) (aa:b<=900000):∀(f n:Nat) (c:Int) (s:er) (l:List aC) (op:List Int) (dU:Int),f<n->op.length<=f->l.length<=96->c+op.length<=b+30000->ho c s->nO l op dU->
  ∃cc kq,Dp N n s l op dU=aqP (cc,kq)/\ho (b+30000) cc/\kq.length<=96/\∃nq lX,nO kq nq lX
 |f,0,c,s,l,op,dU,aq,_,_,_,_,_=>by omega
 |f,n+1,c,s,l,op,dU,aq,aP,ai,ab,az,cb=>by
  rw[Dp,aeu,al];by_cases qy:0<op.length/\l.length<96/\dU<64
  ·rw[decide_eq_true qy,if_pos rfl];obtain ⟨c1,c2,ry⟩:=qy;obtain ⟨r,s1,h1,J,aj,aM⟩:=lZ N (s:=s) (c:=c) 5 (by omega) (by omega) az (by omega);rw[h1,al];simp only[];have au:=cI c1;have vD:=cb.yV;obtain ⟨t1,t2,t3,t4⟩:=Xm au cb.fC;rw[atu,asj] at t1 t2 t3 t4;have ym:fV op 1 (op.length:Int)=aqP (op.drop 1):=wo (i:=1) (by omega);obtain ⟨a0,c4⟩:=cb.rg _ (asu c1);have Uv:=cb.vU;have fresh:∀n∈op.drop 1,n<dU:=fun n aq=>(cb.rg n (t2 n aq)).2;cases f with
   |zero=>omega
   |succ f=>
    unfold PM;by_cases aw:0<r
    ·rw[if_pos (cA aw),N5 N (by omega),al];have aG:aR op 0=aqP op[0]:=cC au;rw[aG,al,al,hj (by simp;omega),al,bN,gW (by omega) (by omega),al,ym,al];refine Ob N hY aa f n (c+1) s1 _ _ _ (by omega) (by rw[ar4];omega) (by simp;omega) (by rw[ar4];omega) aM (cb.add (Co (N6 _) ⟨a0,by omega⟩ ⟨vD,by omega⟩ (by omega) (by omega)) rfl ?_ ?_ t3 (by omega) (by omega) (by rw[ar4];omega))
     ·intro n aq;simp[bZ] at aq;rcases aq with rfl|rfl
      ·exact .inl (asu c1)
      ·exact .inr (by omega)
     ·intro n aq;have:=fresh n aq;refine .inl ⟨t2 n aq, ?_⟩;simp[bZ];exact ⟨fun ax=>t1 (ax▸aq),by omega⟩
    ·rw[if_neg (cw aw),al,ym,al];refine Ob N hY aa f n (c+1) s1 _ _ _ (by omega) (by rw[ar4];omega) ai (by rw[ar4];omega) aM ?_;exact {cb with ga:=fun n aq=>cb.ga n (t2 n aq),fC:=t3,rg:=fun n aq=>cb.rg n (t2 n aq),vU:=by rw[ar4];omega}
  ·rw[decide_eq_false qy,if_neg (by simp)];exact ⟨s,l,rfl,az.le (by omega),ai,op,dU,cb⟩
structure u7 (l:List aC):Prop where
 ok:ef l
 fst:∃x,l[0]? =aqP x/\x.kind=1
theorem agY (N:Nat) (bi:200<=N) {b:Int} (hY:0<=b) (aa:b<=900000) {s:er} (az:ho b s) {k:Int} (hk:k<=60):∃l cc,DT N s k=aqP (l,cc)/\ho (b+30000) cc/\u7 l:=by
 unfold DT;have ht:xE N 0=aqP (lx 0):=N5 N (i:=0) (by omega);obtain ⟨y,s1,h1,J,aj,aM⟩:=lZ N (s:=s) (c:=b) 2 (by omega) (by omega) az (by omega);rw[ht,al,h1,al];simp only[];have LY:∀n,fx [aC.mk 1 (lx 0) 0 1 0 500] n=if n=0\/n=1 then 1 else 0:=by
  intro n;unfold fx;have:(bZ (aC.mk 1 (lx 0) 0 1 0 500))=[0,1]:=by simp[bZ]
  rw[asO,this];by_cases aq:n=0\/n=1
  ·rw[if_pos (by simpa using aq),if_pos aq];rfl
  ·rw[if_neg (by simpa using aq),if_neg aq];rfl
 have aI:∀op:List Int,(∀n∈op,n=0\/n=1)->op.Nodup->op.length<=2->nO [aC.mk 1 (lx 0) 0 1 0 500] op 2:=fun op ah aB ai=>
  {snd:=fun x U=>by simp at U;subst U;exact Co (N6 0) (by omega) (by omega) (by omega) (by omega)
   pX:=fun i x U=>by have:=(aqZ.1 U).1;simp at this;subst this;simp at U;subst U;rfl
   fR:=fun n=>by rw[LY];split<;>omega
   ga:=fun n _=>by rw[LY];split<;>omega
   fC:=aB
   rg:=fun n aq=>by rcases ah n aq with h|h<;>omega
   hh:=fun n aq=>by rw[LY,if_neg (by omega)]
   vU:=by omega
   M3:=by omega
   yV:=by omega
   fst:=⟨_,rfl,rfl⟩}
 have jo:∃op,H3 N [1] (y==0)=aqP op/\nO [aC.mk 1 (lx 0) 0 1 0 500] op 2:=by
  unfold H3;by_cases ag:y=0
  ·rw[if_pos (by simpa using ag),hj (by simp),al];exact ⟨_,rfl,aI _ (by simp) (by simp) (by simp)⟩
  ·rw[if_neg (by simpa using ag)];exact ⟨_,rfl,aI _ (by simp) (by simp) (by simp)⟩
 obtain ⟨op,g1,g2⟩:=jo;rw[g1,al];obtain ⟨s2,B6,aea,ad7,dm,ei,gb,hi⟩:=W9 N hY aa hk 100 N (b+1) s1 _ op 2 (by omega) (by simp;omega) (by simp) (by omega) (by simp;omega) aM g2;rw[dm,al];simp only[];have:=hi.vU;have:=hi.M3;obtain ⟨j9,MS,b5,cd,dN,aqo,aqm,fD⟩:=Ob N hY aa 64 N (b+20000) s2 B6 aea ad7 (by omega) (by omega) (by omega) (by omega) ei hi;rw[b5,al];exact ⟨MS,j9,rfl,cd,fD.ok dN,fD.fst⟩
theorem agh (N:Nat) (bi:200<=N) {s:er} (az:ho 0 s) {k:Int} (hk:k<=60):∃l cc,DT N s k=aqP (l,cc)/\ho 30000 cc/\u7 l:=agY N bi (b:=0) (by omega) (by omega) az hk
end Go.W
end
section
namespace Go.W
open Go.aS
abbrev iz:=List (Place×Int)
def jl (l:List aC) (i n:Int):Place:=Place.mk (bF l i n) n
structure ia (l:List aC) (to:Int) (d:iz):Prop where
 key:∀p v,bs d p=aqP v->p.bm∈cV l p.ak
 zero:∀p,bs d p=aqP 0->p.ak=to
 pos:∀p v,bs d p=aqP v->v≠0->0<v/\∃n∈fo l p.ak p.bm,bs d (jl l p.ak n)=aqP (v - 1)
 keys:(d.map ase).Nodup
theorem ub {ap bx:Type} [DecidableEq ap]:∀{m:List (ap×bx)} {k:ap},(∃v,bs m k=aqP v)↔k∈m.map ase
 |[],k=>by simp[bs]
 |p::m,k=>by
  simp only[bs,arG,aq6];by_cases h:p.1=k
  ·rw[if_pos h];simp[h]
  ·rw[if_neg h,ub];constructor
   ·exact .inr
   ·rintro (ax|ax)
    ·exact absurd ax.symm h
    ·exact ax
theorem r8 {ap bx:Type} [DecidableEq ap]:∀{m:List (ap×bx)} {k:ap} {v:bx},bs m k=aqS->dV m k v=m++[(k,v)]
 |[],k,v,_=>rfl
 |p::m,k,v,h=>by
  simp only[bs] at h;split at h
  ·cases h
  ·rename_i hk;rw[dV,if_neg hk,r8 h];rfl
def jV (d cD:iz):Prop:=∀p v,bs d p=aqP v->bs cD p=aqP v
theorem jV.refl (d:iz):jV d d:=fun _ _ h=>h
theorem jV.trans {a b c:iz} (h:jV a b) (k:jV b c):jV a c:=fun p v an=>k p v (h p v an)
theorem jV.set {d:iz} {p:Place} {v:Int} (h:bs d p=aqS):jV d (dV d p v):=fun q w aK=>by
 rw[iH,if_neg (fun ax=>by rw[ax,aK] at h;cases h)];exact aK
theorem ia.add {l:List aC} {to:Int} {d:iz} (h:ia l to d) {p:Place} {v:Int} (an:bs d p=aqS) (h1:p.bm∈cV l p.ak) (J:v=0->p.ak=to) (aj:v≠0->0<v/\∃n∈fo l p.ak p.bm,bs d (jl l p.ak n)=aqP (v - 1)):ia l to (dV d p v):=by
 have hle:=jV.set (v:=v) an;refine ⟨fun q w aK=> ?_,fun q aK=> ?_,fun q w aK hw=> ?_, ?_⟩
 ·rw[iH] at aK;split at aK
  ·rename_i ax;cases aK;subst ax;exact h1
  ·exact h.key q w aK
 ·rw[iH] at aK;split at aK
  ·rename_i ax;cases aK;subst ax;exact J rfl
  ·exact h.zero q aK
 ·rw[iH] at aK;split at aK
  ·rename_i ax;cases aK;subst ax;obtain ⟨a,n,b,c⟩:=aj hw;exact ⟨a,n,b,hle _ _ c⟩
  ·obtain ⟨a,n,b,c⟩:=h.pos q w aK hw;exact ⟨a,n,b,hle _ _ c⟩
 ·rw[r8 an,ar3,arT];refine ⟨h.keys,by simp,fun x U y ag=> ?_⟩;simp at ag;subst ag;intro ax;subst ax;obtain ⟨w,hw⟩:=ub.2 U;rw[hw] at an;cases an
def tl (l:List aC):List Place:=(arI l.length).flatMap fun (i:Nat)=>(cV l (i:Int)).map fun n=>Place.mk (i:Int) n
theorem NW (l:List aC):(tl l).length<=3*l.length:=by
 unfold tl;have key:∀(q:List Nat),(q.flatMap fun (i:Nat)=>(cV l (i:Int)).map fun n=>Place.mk (i:Int) n).length<=3*q.length:=by
  intro q;induction q with
  |nil=>simp
  |cons a q a8=>rw[ash,ari,arN,arr];have:=lr l (a:Int);omega
 have:=key (arI l.length);rw[atN] at this;exact this
theorem NX {l:List aC} {p:Place} (h:p.bm∈cV l p.ak):p∈tl l:=by
 obtain ⟨aI,h1,x,U,aq⟩:=jb h;unfold tl;rw[asz];refine ⟨p.ak.toNat,ar5.2 (by omega),aq'.2 ⟨p.bm, ?_, ?_⟩⟩
 ·rw[at8 aI];exact h
 ·rw[at8 aI]
theorem sa {ap:Type} [DecidableEq ap]:∀{a b:List ap},a.Nodup->(∀x∈a,x∈b)->a.length<=b.length
 |[],b,_,_=>by simp
 |x::a,b,aB,az=>by have k5:=asQ.1 aB;have U:=az x arn;have:=sa (a:=a) (b:=b.erase x) k5.2 fun y ag=>(List.mem_erase_of_ne (by rintro rfl;exact k5.1 ag)).2 (az y (ard _ ag));rw[List.length_erase_of_mem U] at this;have dS:=List.length_pos_of_mem U;simp only[arr];omega
theorem ia.len {l:List aC} {to:Int} {d:iz} (h:ia l to d):d.length<=3*l.length:=by
 have h1:=sa (b:=tl l) h.keys fun p an=>by obtain ⟨v,ad⟩:=ub.2 an;exact NX (h.key p v ad)
 have:=NW l;rw[arN] at h1;omega
theorem ia.chain {l:List aC} {to:Int} {d:iz} (h:ia l to d):∀(v:Nat) (p:Place),bs d p=aqP (v:Int)->∃ks:List Place,ks.length=v+1/\ks.Nodup/\∀q∈ks,∃w,bs d q=aqP w/\w<=v
 |0,p,an=>⟨[p],rfl,by simp,fun q aK=>by simp at aK;subst aK;exact ⟨_,an,Int.le_refl _⟩⟩
 |v+1,p,an=>by
  obtain ⟨_,n,_,aq⟩:=h.pos p _ an (by omega);obtain ⟨ks,h1,J,aj⟩:=h.chain v (jl l p.ak n) (by rw[aq];congr 1;omega);refine ⟨p::ks,by simp[h1],asQ.2 ⟨fun hm=> ?_,J⟩,fun q aK=> ?_⟩
  ·obtain ⟨w,hw,lU⟩:=aj p hm;rw[an] at hw;cases hw;omega
  ·rcases aq6.1 aK with rfl|aK
   ·exact ⟨_,an,Int.le_refl _⟩
   ·obtain ⟨w,hw,lU⟩:=aj q aK;exact ⟨w,hw,by omega⟩
theorem ia.oc {l:List aC} {to:Int} {d:iz} (h:ia l to d) {p:Place} {v:Int} (an:bs d p=aqP v):0<=v:=by
 by_cases aI:v=0
 ·omega
 ·have:=(h.pos p v an aI).1;omega
theorem ia.val {l:List aC} {to:Int} {d:iz} (h:ia l to d) {p:Place} {v:Int} (an:bs d p=aqP v):v<d.length:=by
 obtain ⟨n,rfl⟩:=arw (h.oc an);obtain ⟨ks,h1,J,aj⟩:=h.chain n p an;have:=sa (b:=d.map ase) J fun q aK=>by obtain ⟨w,hw,_⟩:=aj q aK;exact ub.1 ⟨w,hw⟩
 rw[arN] at this;omega
structure mc (d:iz) (q:List Place) (c:Int):Prop where
 mem:∀p∈q,∃v,bs d p=aqP v/\c<=v
 top:∀p v,bs d p=aqP v->v<=c+1
 ord:q.Pairwise fun a b=>∀x y,bs d a=aqP x->bs d b=aqP y->x<=y
theorem mc.push {d:iz} {q:List Place} {c:Int} (h:mc d q c) {p:Place} {v:Int} (an:bs d p=aqS) (h1:c<=v) (J:v<=c+1) (aj:∀a∈q,∀x,bs d a=aqP x->x<=v):mc (dV d p v) (q++[p]) c:=by
 have hle:=jV.set (v:=v) an;have iE:∀{x},bs (dV d p v) p=aqP x->x=v:=fun U=>by rw[iH,if_pos rfl] at U;cases U;rfl
 have hold:∀a∈q,∀x,bs (dV d p v) a=aqP x->bs d a=aqP x:=fun a au x U=>by obtain ⟨y,ag,_⟩:=h.mem a au;have:=hle _ _ ag;rw[U] at this;cases this;exact ag
 refine ⟨fun r aw=> ?_,fun r w hw=> ?_, ?_⟩
 ·rcases arc.1 aw with aw|aw
  ·obtain ⟨w,hw,ab⟩:=h.mem r aw;exact ⟨w,hle _ _ hw,ab⟩
  ·simp at aw;subst aw;exact ⟨v,by rw[iH,if_pos rfl],h1⟩
 ·rw[iH] at hw;split at hw
  ·cases hw;exact J
  ·exact h.top r w hw
 ·rw[aul];refine ⟨h.ord.imp_of_mem fun {a b} au aa bp x y U ag=>bp x y (hold a au x U) (hold b aa y ag),by simp,fun a au b aa x y U ag=> ?_⟩;simp at aa;subst aa;rw[iE ag];exact aj a au x (hold a au x U)
def I9 (l:List aC) (d:iz) (p:Place) (v:Int):Prop:=∀m∈fo l (bF l p.ak p.bm) p.bm,∃w,bs d (Place.mk (bF l p.ak p.bm) m)=aqP w/\w<=v+1
def Q3 (l:List aC) (d:iz) (q:List Place):Prop:=∀p v,bs d p=aqP v->p∈q\/I9 l d p v
def e8 (l:List aC) (d:iz):Prop:=∀p v,bs d p=aqP v->I9 l d p v
theorem Zb (N:Nat) {l:List aC} {to:Int} {e:List Int} (he:e=cV l to) (aB:e.Nodup):∀(k n i:Nat) (d:iz) (q:List Place),k<n->i+k=e.length->ia l to d->mc d q 0->(∀p v,bs d p=aqP v->v=0/\p∈q)->(∀m∈e.drop i,bs d (Place.mk to m)=aqS)->d.length=q.length->d.length+k<=1000->
  ∃cD dG,wU N to e e.length n d q i=aqP (cD,dG)/\ia l to cD/\mc cD dG 0/\Q3 l cD dG/\cD.length=dG.length/\jV d cD/\∀m∈e.drop i,bs cD (Place.mk to m)=aqP 0
 |k,0,i,d,q,aq,_,_,_,_,_,_,_=>by omega
 |0,n+1,i,d,q,aq,ae,dK,e9,Bj,hm,ai,aa=>by
  obtain rfl:i=e.length:=by omega
  rw[wU,if_neg (cw (by omega)),asd];exact ⟨d,q,rfl,dK,e9,fun p v an=> .inl (Bj p v an).2,ai,jV.refl d,by simp⟩
 |k+1,n+1,i,d,q,aq,ae,dK,e9,Bj,hm,ai,aa=>by
  have aN:i<e.length:=by omega
  have au:=cI aN;have ap1:=lr l to;rw[wU,if_pos (cA (by omega)),cC au];simp only[al,bN];rw[hj (by simp;omega),al,dh (by rw[he] at aN;omega)];rw[jt au] at hm⊢;have BK:=hm _ arn;have Ly:=dK.add (v:=0) BK (by rw[<-he];exact asu aN) (fun _=>rfl) (fun ax=>absurd rfl ax);have hle:=jV.set (v:=0) BK;have pM:e[i]∉e.drop (i+1):=by intro hm;obtain ⟨j,ar⟩:=arM hm;rw[ar0] at ar;obtain ⟨gj,ar⟩:=aqZ.1 ar;exact arH.1 aB i (i+1+j) aN gj (by omega) ar.symm
  obtain ⟨cD,dG,g1,g2,g3,g7,g4,g5,g6⟩:=Zb N he aB k n (i+1) (dV d (Place.mk to e[i]) 0) (q++[Place.mk to e[i]]) (by omega) (by omega) Ly (e9.push BK (by omega) (by omega) fun a au x U=>by rw[(Bj a x U).1];omega) (fun p v an=>by
   rw[iH] at an;split at an
   ·rename_i ax;cases an;subst ax;exact ⟨rfl,ato _ (by simp)⟩
   ·exact ⟨(Bj p v an).1,as8 _ (Bj p v an).2⟩) (fun m fB=>by
   rw[iH,if_neg (fun ax=>pM (by have:=congrArg Place.bm ax;simp at this;rw[this];exact fB))];exact hm m (ard _ fB)) (by rw[r8 BK];simp[ai]) (by rw[r8 BK];simp;omega)
  refine ⟨cD,dG,g1,g2,g3,g7,g4,hle.trans g5,fun m fB=> ?_⟩;rcases aq6.1 fB with rfl|fB
  ·exact g5 _ _ (by rw[iH,if_pos rfl])
  ·exact g6 m fB
theorem Pz (N:Nat) {l:List aC} {to:Int} (bu:ef l) {p:Place} {v:Int} (nf:p.bm∈cV l p.ak) (j1:0<=bF l p.ak p.bm) {t:List Int} (ao:t=fo l (bF l p.ak p.bm) p.bm):∀(k n i:Nat) (d:iz) (q:List Place),k<n->i+k=t.length->ia l to d->mc d q v->bs d p=aqP v->0<=v->v<=1000->d.length+k<=1000->q.length<=1000+i->
  ∃cD dG,sC N p (bF l p.ak p.bm) t t.length n d q i=aqP (cD,dG)/\ia l to cD/\mc cD dG v/\(∀r w,bs cD r=aqP w->bs d r=aqP w\/r∈dG)/\(∀r∈q,r∈dG)/\cD.length+q.length=d.length+dG.length/\jV d cD/\(∀m∈t.drop i,∃w,bs cD (Place.mk (bF l p.ak p.bm) m)=aqP w)/\cD.length<=d.length+k
 |k,0,i,d,q,aq,_,_,_,_,_,_,_,_=>by omega
 |0,n+1,i,d,q,aq,ae,dK,e9,ad,jq,j5,aa,aK=>by
  obtain rfl:i=t.length:=by omega
  rw[sC,if_neg (cw (by omega)),asd];exact ⟨d,q,rfl,dK,e9,fun _ _ h=> .inl h,fun _ h=>h,by omega,jV.refl d,by simp,by omega⟩
 |k+1,n+1,i,d,q,aq,ae,dK,e9,ad,jq,j5,aa,aK=>by
  have aN:i<t.length:=by omega
  have au:=cI aN;have ac9:=ud l (bF l p.ak p.bm) p.bm;rw[sC,if_pos (cA (by omega))];unfold PW;rw[cC au,jt au];simp only[al,bN];have pL:t[i]∈fo l (bF l p.ak p.bm) p.bm:=by rw[<-ao];exact asu aN
  cases aG:bs d (Place.mk (bF l p.ak p.bm) t[i]) with
  |some w=>
   simp only[at9,ass,arz,if_false,al];rw[dh (by rw[ao] at aN;omega)];obtain ⟨cD,dG,g1,g2,g3,g8,g9,g4,g5,g6,g7⟩:=Pz N bu nf j1 ao k n (i+1) d q (by omega) (by omega) dK e9 ad jq j5 (by omega) (by omega);refine ⟨cD,dG,g1,g2,g3,g8,g9,g4,g5,fun m hm=> ?_,by omega⟩;rcases aq6.1 hm with rfl|hm
   ·exact ⟨w,g5 _ _ aG⟩
   ·exact g6 m hm
  |none=>
   simp only[Option.isSome_none,atQ,if_true,ad,asg];rw[gW (by omega) (by omega),hj (by simp;rw[ao] at aN;omega),al,al];simp only[];rw[dh (by rw[ao] at aN;omega)];obtain ⟨m1,m2⟩:=wv pL;have FA:=bu.Qu pL;have T9:jl l (bF l p.ak p.bm) p.bm=p:=by unfold jl;rw[bu.yS nf j1]
   have Ly:=dK.add (v:=v+1) aG m2 (fun ax=>by omega) (fun _=>⟨by omega,p.bm,FA.1,by rw[T9,ad];congr 1;omega⟩);have hle:=jV.set (v:=v+1) aG;obtain ⟨cD,dG,g1,g2,g3,g8,g9,g4,g5,g6,g7⟩:=Pz N bu nf j1 ao k n (i+1) (dV d (Place.mk (bF l p.ak p.bm) t[i]) (v+1)) (q++[Place.mk (bF l p.ak p.bm) t[i]]) (by omega) (by omega) Ly (e9.push aG (by omega) (by omega) fun a au x U=>e9.top a x U) (hle _ _ ad) jq j5 (by rw[r8 aG];simp;omega) (by simp;omega);refine ⟨cD,dG,g1,g2,g3,fun r w aw=> ?_,fun r aw=>g9 r (as8 _ aw), ?_,hle.trans g5,fun m hm=> ?_, ?_⟩
   ·rcases g8 r w aw with h|h
    ·rw[iH] at h;split at h
     ·rename_i ax;subst ax;exact .inr (g9 _ (ato _ (by simp)))
     ·exact .inl h
    ·exact .inr h
   ·rw[r8 aG] at g4;simp at g4;omega
   ·rcases aq6.1 hm with rfl|hm
    ·exact ⟨v+1,g5 _ _ (by rw[iH,if_pos rfl])⟩
    ·exact g6 m hm
   ·rw[r8 aG] at g7;simp at g7;omega
theorem Zc (N:Nat) (bi:1000<=N) {l:List aC} {to:Int} (bu:ef l):∀(k n:Nat) (d:iz) (q:List Place) (c:Int),k<n->q.length+3*l.length<=k+d.length->ia l to d->mc d q c->Q3 l d q->q.length<=d.length->
  ∃cD,Dk N l n d q=aqP cD/\ia l to cD/\jV d cD/\e8 l cD
 |k,0,d,q,c,aq,_,_,_,_,_=>by omega
 |k,n+1,d,q,c,aq,hk,dK,e9,T2,aK=>by
  have Bn:=dK.len;have lN:=bu.len;rw[Dk];cases q with
  |nil=>
   rw[if_neg (cw (by simp))];exact ⟨d,rfl,dK,jV.refl d,fun p v an=>by
    rcases T2 p v an with h|h
    ·cases h
    ·exact h⟩
  |cons p q=>
   rw[if_pos (cA (by simp))];have aG:aR (p::q) 0=aqP p:=rfl;have ym:fV (p::q) 1 ((p::q).length:Int)=aqP q:=wo (xs:=p::q) (i:=1) (by simp);obtain ⟨v,lS,fO⟩:=e9.mem p arn;have nf:=dK.key p v lS;have jq:=dK.oc lS;have j5:=dK.val lS;rw[aG,al,al,ym,al,GR N (by omega) (by omega),al,OX N (by omega),al];simp only[arr] at hk aK;have BN:=at'.1 e9.ord;have T5:mc d q v:=⟨fun r aw=>by
    obtain ⟨w,hw,_⟩:=e9.mem r (ard _ aw);exact ⟨w,hw,BN.1 r aw v w lS hw⟩,fun r w hw=>by have:=e9.top r w hw;omega,BN.2⟩
   have ac9:=ud l (bF l p.ak p.bm) p.bm;have key:∃cD dG,sC N p (bF l p.ak p.bm) (fo l (bF l p.ak p.bm) p.bm) (fo l (bF l p.ak p.bm) p.bm).length N d q 0=aqP (cD,dG)/\ia l to cD/\mc cD dG v/\(∀r w,bs cD r=aqP w->bs d r=aqP w\/r∈dG)/\(∀r∈q,r∈dG)/\cD.length+q.length=d.length+dG.length/\jV d cD/\I9 l cD p v:=by
    by_cases j1:0<=bF l p.ak p.bm
    ·obtain ⟨cD,dG,g1,g2,g3,g8,g9,g4,g5,g6,g7⟩:=Pz N bu nf j1 rfl (fo l (bF l p.ak p.bm) p.bm).length N 0 d q (by omega) (by omega) dK T5 lS jq (by omega) (by omega) (by omega);exact ⟨cD,dG,g1,g2,g3,g8,g9,g4,g5,fun m hm=>by
      obtain ⟨w,hw⟩:=g6 m (by simpa using hm);exact ⟨w,hw,g3.top _ _ hw⟩⟩
    ·have oS:fo l (bF l p.ak p.bm) p.bm=[]:=by
      unfold fo cV;rw[if_neg j1];rfl
     rw[oS];have:sC N p (bF l p.ak p.bm) [] (([]:List Int).length:Int) N d q 0=aqP (d,q):=by
      obtain ⟨M,rfl⟩:∃M,N=M+1:=⟨N - 1,by omega⟩
      rw[sC,if_neg (by simp)]
     exact ⟨d,q,this,dK,T5,fun _ _ h=> .inl h,fun _ h=>h,by omega,jV.refl d,fun m hm=>by rw[oS] at hm;simp at hm⟩
   obtain ⟨cD,dG,g1,g2,g3,g8,g9,g4,g5,g6⟩:=key;rw[g1,al];have apZ:=g2.len;cases k with
   |zero=>omega
   |succ k=>
    obtain ⟨d2,h1,J,aj,aM⟩:=Zc N bi bu k n cD dG v (by omega) (by omega) g2 g3 (fun r w aw=>by
     rcases g8 r w aw with h|h
     ·rcases T2 r w h with cp|cp
      ·rcases aq6.1 cp with rfl|cp
       ·rw[lS] at h;cases h;exact .inr g6
       ·exact .inl (g9 r cp)
      ·exact .inr fun m hm=>by obtain ⟨x,U,lV⟩:=cp m hm;exact ⟨x,g5 _ _ U,lV⟩
     ·exact .inl h) (by omega)
    exact ⟨d2,h1,J,g5.trans aj,aM⟩
theorem ia.nil (l:List aC) (to:Int):ia l to []:=⟨by simp[bs],by simp[bs],by simp[bs],by simp⟩
theorem ahc (N:Nat) (bi:1000<=N) {l:List aC} {to:Int} (bu:ef l):∃d,IQ N l to=aqP d/\ia l to d/\(∀m∈cV l to,bs d (Place.mk to m)=aqP 0)/\e8 l d:=by
 unfold IQ;have he:=lr l to;have lN:=bu.len;rw[GI,al];obtain ⟨d,q,h1,J,aj,hb,aM,br,dt⟩:=Zb N rfl (bu.nodup to) (cV l to).length N 0 [] [] (by omega) (by omega) (ia.nil l to) ⟨by simp,by simp[bs],by simp⟩ (by simp[bs]) (by simp[bs]) rfl (by simp;omega);have h1:wU N to (cV l to) (cV l to).length N [] [] 0=aqP (d,q):=h1;rw[h1,al];have Bn:=J.len;obtain ⟨cD,g1,g2,g3,g4⟩:=Zc N bi bu (q.length+3*l.length) N d q 0 (by omega) (by omega) J aj hb (by omega);rw[g1,al];refine ⟨cD,rfl,g2,fun m hm=>g3 _ _ (dt m (by simpa using hm)),g4⟩
end Go.W
end
section
set_option maxRecDepth 100000
namespace Go.W
open Go.aS
end Go.W
end
section
namespace Go.W
open Go.aS
def fp (l:List aC) (i:Int):Prop:=0<=i/\∃x,l[i.toNat]? =aqP x/\x.kind=1
instance (l:List aC) (i:Int):Decidable (fp l i):=by
 unfold fp;cases h:l[i.toNat]? with
 |none=>exact isFalse (by rintro ⟨_,x,U,_⟩;cases U)
 |some y=>exact if J:0<=i/\y.kind=1 then isTrue ⟨J.1,y,rfl,J.2⟩ else isFalse (by rintro ⟨a,x,U,b⟩;cases U;exact J ⟨a,b⟩)
theorem OY (N:Nat) (l:List aC) (i:Int):uV N l i=aqP (decide (fp l i)):=by
 unfold uV Ic;by_cases aI:0<=i
 ·rw[if_pos (nn aI)];by_cases h1:i<l.length
  ·rw[if_pos (cA h1)];have aN:i.toNat<l.length:=by omega
   have aG:aR l i=aqP l[i.toNat]:=by simp[aR,aI,aN]
   rw[aG,al,bN,al];congr 1;by_cases hk:l[i.toNat].kind=1
   ·rw[decide_eq_true (show fp l i from ⟨aI,_,cI aN,hk⟩)];simpa using hk
   ·rw[decide_eq_false (show ¬fp l i from by rintro ⟨_,x,U,iO⟩;rw[cI aN] at U;cases U;exact hk iO)];simpa using hk
  ·rw[if_neg (cw h1),al,decide_eq_false (show ¬fp l i from by rintro ⟨_,x,U,_⟩;have:=(aqZ.1 U).1;omega)]
 ·rw[if_neg (n9 aI),al,decide_eq_false (show ¬fp l i from fun h=>aI h.1)]
theorem Yk (N:Nat) (l:List aC) (i:Int):xJ N l i=aqP (decide (fp l i)):=by
 have h:=OY N l i;unfold uV Ic at h;unfold xJ Qg;exact h
theorem No (N:Nat) {l:List Int} (bi:l.length<N) (ai:l.length<=1000000) (x:Int):Ag N l x=aqP (l.contains x):=by
 unfold Ag QS;have h:=jT (l:=l) (fun _ y=>x==y) (fun i _=>(i:Int)) (fun m i=>uK N l x l.length m i) (fun m=>by
  show uK N l x l.length (m+1) _=_;rw[uK,if_neg (cw (by omega))]) (fun m i y ag=>by
  show uK N l x l.length (m+1) _=_;have aN:=(aqZ.1 ag).1;rw[uK,if_pos (cA (by omega)),cC ag,al,dh (by omega)]) l.length N 0 bi (by omega)
 simp only[asn,arv] at h;rw[h,al];have key:(∃u,ch (fun _ y=>x==y) (fun i _=>(i:Int)) 0 l= .inl u)↔l.contains x=aqT:=by
  have:ch (fun _ y=>x==y) (fun i (_:Int)=>(i:Int)) 0 l= .inl ()↔_:=tZ;constructor
  ·rintro ⟨u,hu⟩;have J:=this.1 hu;rw[as7];intro ab;have hm:x∈l:=by simpa using ab
   obtain ⟨j,ar⟩:=arM hm;have:=J j x ar;simp at this
  ·intro ab;refine ⟨(),this.2 fun j y ar=> ?_⟩;have hm:x∉l:=by simpa using ab
   simp only[beq_eq_false_iff_ne,ne_eq];rintro rfl;exact hm (aq7 ar)
 rcases y3 (fun _ y=>x==y) l 0 with ⟨h1,J⟩|⟨h1,J⟩
 ·rw[h1];have:=key.1 ⟨(),h1⟩;rw[this];rfl
 ·rw[h1];have:l.contains x=aqQ:=by
   cases ab:l.contains x with
   |true=>rfl
   |false=>obtain ⟨u,hu⟩:=key.2 ab;rw[h1] at hu;cases hu
  rw[this];simp only[al,bN];rw[decide_eq_true J]
theorem XV (N:Nat) {l:List Int} (bi:l.length<N) (ai:l.length<=1000000) (x:Int):D5 N l x=aqP (l.contains x):=by
 have h:=X5 (l:=l) (x:=x) (fun n i=>uI N l x n i) (fun n=>by
  show uI N l x (n+1) _=_;rw[uI,if_neg (cw (by omega))]) (fun n i y ag=>by
  show uI N l x (n+1) _=_;have aN:=(aqZ.1 ag).1;rw[uI,if_pos (cA (by omega)),cC ag,al,bN,dh (by omega)]) bi
 unfold D5;rw[h,al];cases l.contains x<;>rfl
def b4 (r:List aU):List Int:=r.map aU.ak
theorem y8 (N:Nat) {r:List aU} (bi:r.length<N) (ai:r.length<=9223372036854775807) (x:Int):ra N r x=aqP ((b4 r).contains x):=by
 have h:=jT (l:=r) (fun _ y=>y.ak==x) (fun _ _=>aqQ) (fun n i=>uC N r x n i) (fun n=>by
  show uC N r x (n+1) _=_;rw[uC,if_neg (cw (by omega))]) (fun n i y ag=>by
  show uC N r x (n+1) _=_;have aN:=(aqZ.1 ag).1;rw[uC,if_pos (cA (by omega)),cC ag,al,bN,dh (by omega)]) r.length N 0 bi (by omega)
 simp only[asn,arv] at h;unfold ra;rw[h,al,O1 (fun y:aU=>y.ak==x)];have e:(r.any fun y=>y.ak==x)=(b4 r).contains x:=by unfold b4;rw[<-G9,List.any_map];rfl
 rw[e];cases (b4 r).contains x<;>rfl
theorem VT (N:Nat) {r:List aU} (ai:r.length<=9223372036854775807):∀(k n i:Nat) (bH:List (Int×Bool)),k<n->i+k=r.length->(∀a,(bs bH a).getD aqT=(b4 (r.take i)).contains a)->(b4 (r.take i)).Nodup->
  (sO N r r.length n bH i=aqP (.inl ())/\(b4 r).Nodup)\/(sO N r r.length n bH i=aqP (.inr aqQ)/\¬(b4 r).Nodup)
 |k,0,i,bH,aq,_,_,_=>by omega
 |0,n+1,i,bH,aq,ae,h1,J=>by
  obtain rfl:i=r.length:=by omega
  rw[sO,if_neg (cw (by omega))];rw[asq] at J;exact .inl ⟨rfl,J⟩
 |k+1,n+1,i,bH,aq,ae,h1,J=>by
  have aN:i<r.length:=by omega
  have au:=cI aN;rw[sO,if_pos (cA (by omega)),cC au,al,bN,h1];have gC:b4 (r.take (i+1))=b4 (r.take i)++[r[i].ak]:=by unfold b4;rw[l0 au,ar3];rfl
  by_cases ab:(b4 (r.take i)).contains r[i].ak=aqQ
  ·rw[if_pos ab];refine .inr ⟨rfl,fun aB=> ?_⟩;have az:(b4 (r.take (i+1))).Nodup:=aB.sublist ((atn (i+1) r).map _);rw[gC,arT] at az;exact az.2.2 _ (by simpa using ab) _ (by simp) rfl
  ·rw[if_neg ab,bN,dh (by omega)];refine VT N ai k n (i+1) _ (by omega) (by omega) (fun a=> ?_) ?_
   ·rw[iH,gC];by_cases ax:r[i].ak=a
    ·rw[if_pos ax];simp[ax]
    ·rw[if_neg ax,h1];have ab2:¬a=r[i].ak:=fun q=>ax q.symm;simp[ab2]
   ·rw[gC,arT];refine ⟨J,by simp,fun x U y ag=> ?_⟩;simp at ag;subst ag;rintro rfl;exact ab (by simpa using U)
theorem Xn (N:Nat) {r:List aU} (bi:r.length<N) (ai:r.length<=9223372036854775807):∃b,DY N r=aqP b/\(b=aqT↔(b4 r).Nodup):=by
 unfold DY;have h:=VT N ai r.length N 0 [] bi (by omega) (fun a=>by simp[bs,b4]) (by simp[b4]);rcases h with ⟨h1,J⟩|⟨h1,J⟩
 ·have h1:sO N r r.length N [] 0=aqP (.inl ()):=h1;rw[h1,al];exact ⟨aqT,rfl,by simp[J]⟩
 ·have h1:sO N r r.length N [] 0=aqP (.inr aqQ):=h1;rw[h1,al];exact ⟨aqQ,rfl,by simp[J]⟩
structure ke (l:List aC) (r:List aU):Prop where
 two:2<=r.length
 aO:∀v,r[0]? =aqP v->fp l v.ak/\v.bm= -1/\v.out∈cV l v.ak
 hS:∀v,r[r.length - 1]? =aqP v->fp l v.ak/\v.out= -1
 step:∀(i:Nat) v w,r[i]? =aqP v->r[i+1]? =aqP w->w.bm=v.out/\0<=w.ak/\w.ak=bF l v.ak v.out
 mid:∀(i:Nat) v,0<i->i+1<r.length->r[i]? =aqP v->v.out∈fo l v.ak v.bm
theorem ke.ins {l:List aC} {r:List aU} (h:ke l r) {i:Nat} {v:aU} (ae:0<i) (ad:r[i]? =aqP v):v.bm∈cV l v.ak:=by
 obtain ⟨j,rfl⟩:∃j,i=j+1:=⟨i - 1,by omega⟩
 have aN:=(aqZ.1 ad).1;have ar:=cI (xs:=r) (i:=j) (by omega);obtain ⟨a,b,c⟩:=h.step j _ v ar ad;rw[c,a];exact (zk (by rw[<-c];exact b)).1
theorem ke.outs {l:List aC} {r:List aU} (h:ke l r) {i:Nat} {v:aU} (ae:i+1<r.length) (ad:r[i]? =aqP v):v.out∈cV l v.ak:=by
 cases i with
 |zero=>exact (h.aO v ad).2.2
 |succ i=>exact (wv (h.mid (i+1) v (by omega) ae ad)).2
theorem lp {a:Bool} {x:Option Bool} {p q:Prop} (au:a=aqT↔p) (U:∃b,x=aqP b/\(b=aqT↔q)):∃b,(if a=aqQ then aqP aqQ else x)=aqP b/\(b=aqT↔p/\q):=by
 cases a with
 |true=>exact ⟨aqQ,rfl,by simp at au;simp[au]⟩
 |false=>obtain ⟨b,h1,J⟩:=U;refine ⟨b,by simpa using h1, ?_⟩;rw[J];simp at au;simp[au]
theorem uk {p:Prop} [Decidable p]:(!decide p)=aqT↔p:=by simp
theorem Db {l:List Int} {x:Int}:(!l.contains x)=aqT↔x∈l:=by simp
theorem ux {a b:Int}:(a !=b)=aqT↔a=b:=by simp
theorem Zd {a b:Int}:decide (a<b)=aqT↔b<=a:=by simp
theorem ah9 (N:Nat) {l:List aC} {r:List aU} (bi:r.length+l.length+10<=N) (ai:l.length<=1000000) (aw:r.length<=9223372036854775807):∃b,I5 N l r=aqP b/\(b=aqQ↔ke l r):=by
 unfold I5;rw[bN];by_cases J:r.length<2
 ·have h:zM N l r (aq0 .i64 ((r.length:Int) - 1))=aqP aqQ:=by
   unfold zM;rw[if_pos (cA (by rw[gW (by omega) (by omega)];omega))]
  rw[h,al,if_pos rfl];exact ⟨aqT,rfl,by simp;intro hw;have:=hw.two;omega⟩
 have hw:aq0 .i64 ((r.length:Int) - 1)=((r.length - 1:Nat):Int):=by rw[gW (by omega) (by omega)];omega
 rw[hw];have aI:=cI (xs:=r) (i:=0) (by omega);have aE:=cI (xs:=r) (i:=r.length - 1) (by omega);generalize jq:r[0]'(by omega)=v at aI;generalize ado:r[r.length - 1]'(by omega)=w at aE;have g0:aR r 0=aqP v:=cC aI;have EV:aR r ((r.length - 1:Nat):Int)=aqP w:=cC aE;have aX:=lr l v.ak;have e2:=lr l w.ak;have kJ:∃b,zM N l r ((r.length - 1:Nat):Int)=aqP b/\(b=aqT↔fp l v.ak/\fp l w.ak/\v.bm= -1/\w.out= -1):=by unfold zM;rw[if_neg (cw (by omega))];simp only[g0,EV,al,OY];exact lp uk (lp uk (lp ux ⟨_,rfl,ux⟩))
 have c1:∃b,HO N l r ((r.length - 1:Nat):Int)=aqP b/\(b=aqT↔v.out∈cV l v.ak/\w.bm∈cV l w.ak):=by unfold HO;simp only[g0,EV,al,GI];rw[No N (by omega) (by omega),No N (by omega) (by omega)];simp only[al];exact lp Db ⟨_,rfl,Db⟩
 obtain ⟨df,ll,iQ⟩:=kJ;obtain ⟨ff,dm,b5⟩:=c1;rw[ll,al];have dQ:∀{x},r[0]? =aqP x->x=v:=fun U=>by rw[aI] at U;cases U;rfl
 have Lj:∀{x},r[r.length - 1]? =aqP x->x=w:=fun U=>by rw[aE] at U;cases U;rfl
 cases df with
 |true=>rw[if_pos rfl];refine ⟨aqT,rfl, ?_⟩;simp only[arz,false_iff];intro hw;have a:=hw.aO v aI;have b:=hw.hS w aE;have:=iQ.2 ⟨a.1,b.1,a.2.1,b.2⟩;cases this
 |false=>
  rw[if_neg (by simp),dm,al];have iQ:=iQ.1 rfl;cases ff with
  |true=>rw[if_pos rfl];refine ⟨aqT,rfl, ?_⟩;simp only[arz,false_iff];intro hw;have:=b5.2 ⟨(hw.aO v aI).2.2,hw.ins (by omega) aE⟩;cases this
  |false=>
   rw[if_neg (by simp)];have b5:=b5.1 rfl;have ym:fV r 1 (r.length:Int)=aqP (r.drop 1):=wo (i:=1) (by omega);rw[ym,al];have hlen:(r.drop 1).length=r.length - 1:=ar4
   let bad:Nat->aU->Prop:=fun i y=>¬((y.bm=(r.getD i (aU.mk 0 0 0)).out/\0<=y.ak/\bF l (r.getD i (aU.mk 0 0 0)).ak (r.getD i (aU.mk 0 0 0)).out=y.ak)/\(i+2<r.length->y.out∈fo l y.ak y.bm))
   have BE:=jT (l:=r.drop 1) (fun i y=> @decide (bad i y) (arR _)) (fun _ _=>aqT) (fun m i=>uF N l r ((r.length - 1:Nat):Int) (r.drop 1) (r.drop 1).length m i) (fun m=>by
    show uF N l r _ (r.drop 1) (r.drop 1).length (m+1) _=_;rw[uF,if_neg (cw (by omega))]) (fun m i y ag=>by
    show uF N l r _ (r.drop 1) (r.drop 1).length (m+1) _=_;have aN:=(aqZ.1 ag).1;have ae:=cI (xs:=r) (i:=i) (by omega);rw[uF,if_pos (cA (by omega)),cC ag,al,cC ae,al];have k6:r.getD i (aU.mk 0 0 0)=r[i]'(by omega):=by simp[arW,ae]
    have d3:∃b,HP N l y (r[i]'(by omega))=aqP b/\(b=aqT↔y.bm=(r.getD i (aU.mk 0 0 0)).out/\0<=y.ak/\bF l (r.getD i (aU.mk 0 0 0)).ak (r.getD i (aU.mk 0 0 0)).out=y.ak):=by unfold HP;rw[k6,GR N (by omega) (by omega),al];exact lp ux (lp Zd ⟨_,rfl,ux⟩)
    have d4:∃b,HQ N l ((r.length - 1:Nat):Int) i y=aqP b/\(b=aqT↔(i+2<r.length->y.out∈fo l y.ak y.bm)):=by
     unfold HQ;rw[dh (by omega)];by_cases ax:i+2<r.length
     ·rw[if_pos (cA (by omega)),OX N (by omega),al,No N (by have:=ud l y.ak y.bm;omega) (by have:=ud l y.ak y.bm;omega),al];exact ⟨_,rfl,by rw[Db];simp[ax]⟩
     ·rw[if_neg (cw (by omega))];exact ⟨aqT,rfl,by simp[ax]⟩
    obtain ⟨mS,Dv,j9⟩:=d3;obtain ⟨qp,xg,zU⟩:=d4;rw[Dv,al];cases mS with
    |true=>
     have aa:bad i y:=fun ax=>by have:=j9.2 ax.1;cases this
     rw[if_pos rfl, @decide_eq_true _ (arR _) aa,if_pos rfl]
    |false=>
     rw[if_neg (by simp),xg,al];cases qp with
     |true=>
      have aa:bad i y:=fun ax=>by have:=zU.2 ax.2;cases this
      rw[if_pos rfl, @decide_eq_true _ (arR _) aa,if_pos rfl]
     |false=>
      have aa:¬bad i y:=fun ax=>ax ⟨j9.1 rfl,zU.1 rfl⟩;rw[if_neg (by simp), @decide_eq_false _ (arR _) aa,if_neg (by simp),dh (by omega)]) (r.drop 1).length N 0 (by omega) (by omega)
   simp only[asn,arv] at BE;rw[BE,al];have na:ke l r↔∀(j:Nat) (y:aU),(r.drop 1)[j]? =aqP y->¬bad j y:=by
    constructor
    ·intro hw j y ar aa;rw[ar0,Nat.add_comm] at ar;have aN:=(aqZ.1 ar).1;have ae:=cI (xs:=r) (i:=j) (by omega);have k6:r.getD j (aU.mk 0 0 0)=r[j]'(by omega):=by simp[arW,ae]
     obtain ⟨a,b,c⟩:=hw.step j _ y ae ar;refine aa ⟨by rw[k6];exact ⟨a,b,c.symm⟩,fun ax=>hw.mid (j+1) y (by omega) (by omega) ar⟩
    ·intro ax;refine ⟨by omega,fun x U=> ?_,fun x U=> ?_,fun i x y U ag=> ?_,fun i x ae hs U=> ?_⟩
     ·rw[dQ U];exact ⟨iQ.1,iQ.2.2.1,b5.1⟩
     ·rw[Lj U];exact ⟨iQ.2.1,iQ.2.2.2⟩
     ·have:=at5.1 (ax i y (by rw[ar0,Nat.add_comm];exact ag));have k6:r.getD i (aU.mk 0 0 0)=x:=by simp[arW,U]
      rw[k6] at this;exact ⟨this.1.1,this.1.2.1,this.1.2.2.symm⟩
     ·obtain ⟨j,rfl⟩:∃j,i=j+1:=⟨i - 1,by omega⟩
      have:=at5.1 (ax j x (by rw[ar0,Nat.add_comm];exact U));exact this.2 (by omega)
   have nh:=tZ (p:=fun i y=> @decide (bad i y) (arR _)) (out:=fun _ _=>aqT) (l:=r.drop 1) (i:=0);cases k9:ch (fun i y=> @decide (bad i y) (arR _)) (fun _ _=>aqT) 0 (r.drop 1) with
   |inl u=>refine ⟨aqQ,rfl, ?_⟩;simp only[true_iff];refine na.2 fun j y ar=> ?_;have:=(nh.1 k9) j y ar;rw[ara] at this;exact @of_decide_eq_false _ (arR _) this
   |inr b=>
    have Fa:b=aqT:=by
     have key:∀(e:List aU) (i:Nat) (b:Bool),ch (fun i y=> @decide (bad i y) (arR _)) (fun _ _=>aqT) i e= .inr b->b=aqT:=by
      intro e;induction e with
      |nil=>intro i b h;cases h
      |cons y e a8=>
       intro i b h;rw[ch] at h;split at h
       ·cases h;rfl
       ·exact a8 _ _ h
     exact key _ _ _ k9
    subst Fa;refine ⟨aqT,rfl, ?_⟩;simp only[arz,false_iff];intro hw;have:=nh.2 fun j y ar=>by rw[ara];exact @decide_eq_false _ (arR _) (na.1 hw j y ar)
    rw[this] at k9;cases k9
end Go.W
end
section
namespace Go.W
open Go.aS
def jC (l:List aC) (r:List aU):Prop:=qe l=0/\ke l r/\(b4 r).Nodup
theorem OW (N:Nat) {l:List aC} {r:List aU} (bi:r.length+l.length+200<=N) (ai:l.length<=1000000) (aw:r.length<=9223372036854775807):∃b,ta N l r=aqP b/\(b=aqQ↔jC l r):=by
 unfold ta PQ jC;rw[NJ N (by omega),al];by_cases aI:qe l=0
 ·rw[if_pos (by simpa using aI)];obtain ⟨b,h1,J⟩:=ah9 N (l:=l) (r:=r) (by omega) ai aw;obtain ⟨c,aj,aM⟩:=Xn N (r:=r) (by omega) aw;rw[h1,al];cases b with
  |true=>rw[if_pos rfl,aj];simp only[al,bN];refine ⟨!c,rfl, ?_⟩;simp only[ar',aM];exact ⟨fun h=>⟨aI,J.1 rfl,h⟩,fun h=>h.2.2⟩
  |false=>rw[if_neg (by simp),al];refine ⟨aqT,rfl, ?_⟩;simp only[arz,false_iff];intro h;have:=J.2 h.2.1;cases this
 ·rw[if_neg (by simpa using aI),al];exact ⟨aqT,rfl,by simp[aI]⟩
theorem XW (N:Nat) {l:List aC} {r:List aU} (bi:r.length+l.length+200<=N) (ai:l.length<=1000000) (aw:r.length<=9223372036854775807) (ht:l.length<=96->∀x∈l,x.name.length<N/\x.name.length<=9223372036854775807):∃b,xI N l r=aqP b/\(b=aqQ↔jC l r):=by
 unfold xI;rw[bN];by_cases aI:qe l=0
 case neg=>
  have h:uD N l r (aq0 .i64 ((r.length:Int) - 1))=aqP aqQ:=by unfold uD;rw[Gq N (by omega) ht,al,if_pos (by simpa using aI)]
  rw[h,al,if_pos rfl];exact ⟨aqT,rfl,by simp[jC,aI]⟩
 by_cases J:r.length<2
 ·have h:uD N l r (aq0 .i64 ((r.length:Int) - 1))=aqP aqQ:=by
   unfold uD;rw[Gq N (by omega) ht,al,if_neg (by simpa using aI),if_pos (cA (by rw[gW (by omega) (by omega)];omega))]
  rw[h,al,if_pos rfl];refine ⟨aqT,rfl, ?_⟩;simp only[arz,false_iff];intro hw;have:=hw.2.1.two;omega
 have hw:aq0 .i64 ((r.length:Int) - 1)=((r.length - 1:Nat):Int):=by rw[gW (by omega) (by omega)];omega
 rw[hw];have oM:=cI (xs:=r) (i:=0) (by omega);have aE:=cI (xs:=r) (i:=r.length - 1) (by omega);generalize jq:r[0]'(by omega)=v at oM;generalize ado:r[r.length - 1]'(by omega)=w at aE;have g0:aR r 0=aqP v:=cC oM;have EV:aR r ((r.length - 1:Nat):Int)=aqP w:=cC aE;have dQ:∀{x},r[0]? =aqP x->x=v:=fun U=>by rw[oM] at U;cases U;rfl
 have Lj:∀{x},r[r.length - 1]? =aqP x->x=w:=fun U=>by rw[aE] at U;cases U;rfl
 have kJ:∃b,uD N l r ((r.length - 1:Nat):Int)=aqP b/\(b=aqT↔fp l v.ak/\fp l w.ak/\v.bm= -1/\w.out= -1):=by unfold uD;rw[Gq N (by omega) ht,al,if_neg (by simpa using aI),if_neg (cw (by omega))];simp only[g0,EV,al,Yk];exact lp uk (lp uk (lp ux ⟨_,rfl,ux⟩))
 obtain ⟨df,ll,iQ⟩:=kJ;rw[ll,al];cases df with
 |true=>rw[if_pos rfl];refine ⟨aqT,rfl, ?_⟩;simp only[arz,false_iff];intro ax;have a:=ax.2.1.aO v oM;have b:=ax.2.1.hS w aE;have:=iQ.2 ⟨a.1,b.1,a.2.1,b.2⟩;cases this
 |false=>
  rw[if_neg (by simp)];have iQ:=iQ.1 rfl
  let dU:Nat->aU:=fun i=>r.getD (i+1) (aU.mk 0 0 0)
  let fg:Nat->aU->Prop:=fun i y=>(0<=y.ak/\y.ak<l.length/\y.ak∉b4 (r.take i))/\(i+1<r.length->y.out∈cV l y.ak/\(dU i).bm=y.out/\(dU i).ak=bF l y.ak y.out)/\(0<i->i+1<r.length->y.out∈fo l y.ak y.bm)
  have BE:=jT (l:=r) (fun i y=> @decide (¬fg i y) (arR _)) (fun _ _=>aqT) (fun m i=>uE N l r ((r.length - 1:Nat):Int) m i) (fun m=>by
   show uE N l r _ (m+1) _=_;rw[uE,if_neg (n9 (by omega))]) (fun m i y ag=>by
   show uE N l r _ (m+1) _=_;have aN:=(aqZ.1 ag).1;rw[uE,if_pos (nn (by omega))];have aqf:=ud l y.ak y.bm;have kL:=lr l y.ak;have d2:∃b,Im N l r i=aqP b/\(b=aqT↔0<=y.ak/\y.ak<l.length/\y.ak∉b4 (r.take i)):=by unfold Im;simp only[cC ag,al];rw[y0 (by omega),al,y8 N (by rw[arA];omega) (by rw[arA];omega),al];refine lp Zd (lp (p:=y.ak<l.length) (by simp) ⟨_,rfl,by simp⟩)
   have d3:∃b,Io N l r ((r.length - 1:Nat):Int) i=aqP b/\(b=aqT↔(i+1<r.length->y.out∈cV l y.ak/\(dU i).bm=y.out/\(dU i).ak=bF l y.ak y.out)):=by
    unfold Io;by_cases ax:i+1<r.length
    ·have U:=cI ax;have k6:dU i=r[i+1]:=by show r.getD (i+1) (aU.mk 0 0 0)=_;simp[arW,U]
     rw[if_pos (cA (by omega)),dh (by omega)];simp only[cC ag,cC U,al,sb];rw[XV N (by omega) (by omega),wu N (by omega) (by omega)];simp only[al];obtain ⟨b,bt,bE⟩:=lp (a:= !(cV l y.ak).contains y.out) Db (lp (a:=r[i+1].bm !=y.out) ux (x:=aqP (r[i+1].ak !=bF l y.ak y.out)) ⟨_,rfl,ux⟩);exact ⟨b,bt,by rw[bE,k6];simp[ax]⟩
    ·rw[if_neg (cw (by omega))];exact ⟨aqT,rfl,by simp[ax]⟩
   have d4:∃b,Ip N l r ((r.length - 1:Nat):Int) i=aqP b/\(b=aqT↔(0<i->i+1<r.length->y.out∈fo l y.ak y.bm)):=by
    unfold Ip;by_cases ae:0<i
    ·rw[if_pos (cA (by omega))];by_cases ax:i+1<r.length
     ·rw[if_pos (cA (by omega))];simp only[cC ag,al];rw[O3 N (by omega),al,XV N (by omega) (by omega),al];exact ⟨_,rfl,by rw[Db];simp[ae,ax]⟩
     ·rw[if_neg (cw (by omega))];exact ⟨aqT,rfl,by simp[ax]⟩
    ·rw[if_neg (cw (by omega))];exact ⟨aqT,rfl,by simp[ae]⟩
   obtain ⟨gA,ee,s2⟩:=d2;obtain ⟨mS,Dv,j9⟩:=d3;obtain ⟨qp,xg,zU⟩:=d4;rw[ee,al];cases gA with
   |true=>
    have aa:¬fg i y:=fun ax=>by have:=s2.2 ax.1;cases this
    rw[if_pos rfl, @decide_eq_true _ (arR _) aa,if_pos rfl]
   |false=>
    rw[if_neg (by simp),Dv,al];cases mS with
    |true=>
     have aa:¬fg i y:=fun ax=>by have:=j9.2 ax.2.1;cases this
     rw[if_pos rfl, @decide_eq_true _ (arR _) aa,if_pos rfl]
    |false=>
     rw[if_neg (by simp),xg,al];cases qp with
     |true=>
      have aa:¬fg i y:=fun ax=>by have:=zU.2 ax.2.2;cases this
      rw[if_pos rfl, @decide_eq_true _ (arR _) aa,if_pos rfl]
     |false=>
      have aa:¬¬fg i y:=fun ax=>ax ⟨s2.1 rfl,j9.1 rfl,zU.1 rfl⟩;rw[if_neg (by simp), @decide_eq_false _ (arR _) aa,if_neg (by simp),bN,dh (by omega)]) r.length N 0 (by omega) (by omega)
  simp only[asn,arv] at BE;rw[BE,al];have na:jC l r↔∀(j:Nat) (y:aU),r[j]? =aqP y->fg j y:=by
   constructor
   ·rintro ⟨_,hw,aB⟩ j y ar;have aN:=(aqZ.1 ar).1;refine ⟨?_,fun ax=> ?_,fun h1 J=>hw.mid j y h1 J ar⟩
    ·have fz:0<=y.ak/\y.ak<l.length:=by
      cases j with
      |zero=>obtain ⟨a,x,U,_⟩:=(hw.aO y ar).1;have:=(aqZ.1 U).1;omega
      |succ j=>have:=jb (hw.ins (by omega) ar);exact ⟨this.1,this.2.1⟩
     refine ⟨fz.1,fz.2,fun hm=> ?_⟩;unfold b4 at hm aB;obtain ⟨z,aE,adD⟩:=aq'.1 hm;obtain ⟨i,ae⟩:=arM aE;rw[arD] at ae;split at ae
     ·rename_i cW;obtain ⟨iC,ae⟩:=aqZ.1 ae;obtain ⟨_,ar⟩:=aqZ.1 ar;have:=arH.1 aB i j (by simpa using iC) (by simpa using aN) cW;rw[aua,aua,ae,ar] at this;exact this adD
     ·cases ae
    ·have U:=cI ax;have k6:dU j=r[j+1]:=by show r.getD (j+1) (aU.mk 0 0 0)=_;simp[arW,U]
     rw[k6];obtain ⟨a,b,c⟩:=hw.step j y _ ar U;exact ⟨hw.outs ax ar,a,c⟩
   ·intro ax;refine ⟨aI,⟨by omega,fun x U=> ?_,fun x U=> ?_,fun i x y U ag=> ?_,fun i x ae hs U=>(ax i x U).2.2 ae hs⟩, ?_⟩
    ·have e:=dQ U;have:=(ax 0 x U).2.1 (by omega);rw[e] at this⊢;exact ⟨iQ.1,iQ.2.2.1,this.1⟩
    ·rw[Lj U];exact ⟨iQ.2.1,iQ.2.2.2⟩
    ·have aN:=(aqZ.1 ag).1;have:=(ax i x U).2.1 aN;have k6:dU i=y:=by show r.getD (i+1) (aU.mk 0 0 0)=_;simp[arW,ag]
     rw[k6] at this;exact ⟨this.2.1,(ax (i+1) y ag).1.1,this.2.2⟩
    ·unfold b4;refine arH.2 fun i j ae ar cW=> ?_;rw[aua,aua];intro he;have Fi:j<r.length:=by simpa using ar
     have Bx:i<r.length:=by simpa using ae
     refine (ax j r[j] (cI Fi)).1.2.2 ?_;rw[<-he];unfold b4;refine aq'.2 ⟨r[i],aq7 (i:=i) ?_,rfl⟩;rw[arD,if_pos cW,cI Bx]
  have nh:=tZ (p:=fun i y=> @decide (¬fg i y) (arR _)) (out:=fun _ _=>aqT) (l:=r) (i:=0);cases k9:ch (fun i y=> @decide (¬fg i y) (arR _)) (fun _ _=>aqT) 0 r with
  |inl u=>refine ⟨aqQ,rfl, ?_⟩;simp only[true_iff];refine na.2 fun j y ar=> ?_;have:=(nh.1 k9) j y ar;rw[ara] at this;exact at5.1 (@of_decide_eq_false _ (arR _) this)
  |inr b=>
   have Fa:b=aqT:=by
    have key:∀(e:List aU) (i:Nat) (b:Bool),ch (fun i y=> @decide (¬fg i y) (arR _)) (fun _ _=>aqT) i e= .inr b->b=aqT:=by
     intro e;induction e with
     |nil=>intro i b h;cases h
     |cons y e a8=>
      intro i b h;rw[ch] at h;split at h
      ·cases h;rfl
      ·exact a8 _ _ h
    exact key _ _ _ k9
   subst Fa;refine ⟨aqT,rfl, ?_⟩;simp only[arz,false_iff];intro hw;have:=nh.2 fun j y ar=>by rw[ara];exact @decide_eq_false _ (arR _) (fun ax=>ax (na.1 hw j y ar))
   rw[this] at k9;cases k9
end Go.W
end
section
namespace Go.W
open Go.aS
def oI (a b:Int):Int:=if a<b then -1 else if b<a then 1 else 0
theorem aiF (N:Nat) (a b:Int):Ak N a b=aqP (oI a b):=by
 unfold Ak IV oI;simp only[bN,bne_self_eq_false,al,arz,if_false];by_cases h:a<b
 ·rw[if_pos (cA h),if_pos h]
 ·rw[if_neg (cw h),if_neg h];by_cases J:b<a
  ·rw[if_pos (cA J),if_pos J]
  ·rw[if_neg (cw J),if_neg J]
theorem ajf (N:Nat) (bi:4<=N) (a b c:Int):I0 N [a,b,c]=aqP (if a≠0 then a else if b≠0 then b else c):=by
 obtain ⟨M,rfl⟩:∃M,N=M+4:=⟨N - 4,by omega⟩
 unfold I0;have ai:(([a,b,c]:List Int).length:Int)=3:=rfl;have g0:aR [a,b,c] 0=aqP a:=rfl;have g1:aR [a,b,c] 1=aqP b:=rfl;have g2:aR [a,b,c] 2=aqP c:=rfl;have de:aq0 .i64 (0+1)=1:=by rw[gW]<;>omega
 have cN:aq0 .i64 (1+1)=2:=by rw[gW]<;>omega
 have fk:aq0 .i64 (2+1)=3:=by rw[gW]<;>omega
 have d0:decide ((0:Int)<3)=aqQ:=rfl;have d1:decide ((1:Int)<3)=aqQ:=rfl;have d2:decide ((2:Int)<3)=aqQ:=rfl;have d3:decide ((3:Int)<3)=aqT:=rfl;rw[ai,w2,d0,if_pos rfl,g0,al];by_cases au:a=0
 ·subst au;rw[if_neg (by simp),de,w2,d1,if_pos rfl,g1,al];by_cases aa:b=0
  ·subst aa;rw[if_neg (by simp),cN,w2,d2,if_pos rfl,g2,al];by_cases ab:c=0
   ·subst ab;rw[if_neg (by simp),fk,w2,d3,if_neg (by simp)];rfl
   ·rw[if_pos (by simpa using ab)];rfl
  ·rw[if_pos (by simpa using aa)];simp[al,aa]
 ·rw[if_pos (by simpa using au)];simp[al,au]
def oo (v1 aX kr v2 e2 jr:Int):Prop:=v1<v2\/(v1=v2/\(aX<e2\/(aX=e2/\kr<jr)))
instance (v1 aX kr v2 e2 jr:Int):Decidable (oo v1 aX kr v2 e2 jr):=by unfold oo;infer_instance
theorem OO {a b:Int} (h:a<b):oI a b= -1:=if_pos h
theorem ON {a b:Int} (h:b<a):oI a b=1:=by unfold oI;rw[if_neg (by omega),if_pos h]
theorem OM (a:Int):oI a a=0:=by unfold oI;rw[if_neg (by omega),if_neg (by omega)]
theorem X8 (v1 aX kr v2 e2 jr:Int):(if oI v1 v2≠0 then oI v1 v2 else if oI aX e2≠0 then oI aX e2 else oI kr jr)<0↔oo v1 aX kr v2 e2 jr:=by
 unfold oo;rcases aum v1 v2 with h|h|h
 ·rw[OO h];simp[h]
 ·subst h;rw[OM];simp only[ne_eq,not_true_eq_false,if_false,Int.lt_irrefl,false_or,true_and];rcases aum aX e2 with h|h|h
  ·rw[OO h];simp[h]
  ·subst h;rw[OM];simp only[ne_eq,not_true_eq_false,if_false,Int.lt_irrefl,false_or,true_and];rcases aum kr jr with h|h|h
   ·rw[OO h];simp[h]
   ·subst h;rw[OM];simp
   ·rw[ON h];simp;omega
  ·rw[ON h];simp;omega
 ·rw[ON h];simp;omega
structure AE (l:List aC) (d:iz) (e:Int) (q:List Int) (out:Int) (eF:Place) (found:Bool):Prop where
 no:found=aqT->∀m∈q,bs d (jl l e m)=aqS
 yes:found=aqQ->out∈q/\eF=jl l e out/\∃v,bs d eF=aqP v/\∀m∈q,∀w,bs d (jl l e m)=aqP w->¬oo w (bF l e m) m v (bF l e out) out
theorem WJ (N:Nat) {l:List aC} (bi:l.length+10<=N) (ai:l.length<=1000000) {d:iz} {e:Int} {o:List Int} (ah:o.length<=1000):∀(k n i:Nat) (out:Int) (eF:Place) (found:Bool),k<n->i+k=o.length->AE l d e (o.take i) out eF found->
  ∃oe nP yb,w5 N l d e o o.length n out eF found i=aqP (oe,nP,yb)/\AE l d e o oe nP yb
 |k,0,i,out,eF,found,aq,_,_=>by omega
 |0,n+1,i,out,eF,found,aq,ae,cb=>by
  obtain rfl:i=o.length:=by omega
  rw[w5,if_neg (cw (by omega))];rw[asq] at cb;exact ⟨_,_,_,rfl,cb⟩
 |k+1,n+1,i,out,eF,found,aq,ae,cb=>by
  have aN:i<o.length:=by omega
  have au:=cI aN;rw[w5,if_pos (cA (by omega))];have gC:o.take (i+1)=o.take i++[o[i]]:=l0 au;have key:∃oe nP yb,Il N l d e out eF found o i=aqP (oe,nP,yb)/\AE l d e (o.take (i+1)) oe nP yb:=by
   unfold Il;rw[cC au,al,GR N (by omega) ai,al,bN,bN];have aa:Place.mk (bF l e o[i]) o[i]=jl l e o[i]:=rfl;rw[aa];cases aG:bs d (jl l e o[i]) with
   |none=>
    refine ⟨out,eF,found,by simp,⟨fun aP m hm=> ?_,fun aP=> ?_⟩⟩
    ·rw[gC] at hm;rcases arc.1 hm with hm|hm
     ·exact cb.no aP m hm
     ·simp at hm;subst hm;exact aG
    ·obtain ⟨a,b,v,c,mm⟩:=cb.yes aP;refine ⟨by rw[gC];exact as8 _ a,b,v,c,fun m hm w hw=> ?_⟩;rw[gC] at hm;rcases arc.1 hm with hm|hm
     ·exact mm m hm w hw
     ·simp at hm;subst hm;rw[aG] at hw;cases hw
   |some w=>
    simp only[at9,ass,arz,if_false,asg];unfold Qb;have taken:(found=aqQ->∀v,bs d eF=aqP v->oo w (bF l e o[i]) o[i] v eF.ak out)->AE l d e (o.take (i+1)) o[i] (jl l e o[i]) aqQ:=by
     intro vz;refine ⟨fun aP=>(by cases aP),fun _=>⟨by rw[gC];exact ato _ (arO.2 rfl),rfl,w,aG,fun m hm w' gQ=> ?_⟩⟩;rw[gC] at hm;rcases arc.1 hm with hm|hm
     ·cases found with
      |false=>have:=cb.no rfl m hm;rw[gQ] at this;cases this
      |true=>obtain ⟨a,b,v,c,mm⟩:=cb.yes rfl;have h1:=vz rfl v c;have J:=mm m hm w' gQ;rw[b] at h1;have Bl:(jl l e out).ak=bF l e out:=rfl;rw[Bl] at h1;unfold oo at*;omega
     ·simp at hm;subst hm;rw[aG] at gQ;cases gQ;unfold oo;omega
    cases found with
    |false=>simp only[atQ,if_true,al];exact ⟨_,_,_,rfl,taken (fun h=>by cases h)⟩
    |true=>
     obtain ⟨a,b,v,c,mm⟩:=cb.yes rfl;rw[if_neg (by simp),c];simp only[bN,asg,aiF,al];rw[ajf N (by omega),al,al];have Bl:(jl l e o[i]).ak=bF l e o[i]:=rfl;by_cases vz:oo w (bF l e o[i]) o[i] v eF.ak out
     ·rw[decide_eq_true ((X8 w (jl l e o[i]).ak o[i] v eF.ak out).2 (by rw[Bl];exact vz)),if_pos rfl];exact ⟨_,_,_,rfl,taken fun _ bl mx=>by rw[c] at mx;cases mx;exact vz⟩
     ·rw[decide_eq_false (fun ax=>vz (by rw[<-Bl];exact (X8 w (jl l e o[i]).ak o[i] v eF.ak out).1 ax)),if_neg (by simp)];refine ⟨out,eF,aqQ,rfl,⟨fun aP=>(by cases aP),fun _=>⟨by rw[gC];exact as8 _ a,b,v,c,fun m hm w' gQ=> ?_⟩⟩⟩;rw[gC] at hm;rcases arc.1 hm with hm|hm
      ·exact mm m hm w' gQ
      ·simp at hm;subst hm;rw[aG] at gQ;cases gQ;rw[b] at vz;exact vz
  obtain ⟨oe,nP,yb,g1,g2⟩:=key;rw[g1,al];simp only[];rw[dh (by omega)];exact WJ N bi ai ah k n (i+1) _ _ _ (by omega) (by omega) g2
theorem agK (N:Nat) {l:List aC} (bi:l.length+1010<=N) (ai:l.length<=1000000) (d:iz) (e:Int) {o:List Int} (ah:o.length<=1000):∃out eF found,I3 N l d e o=aqP (out,eF,found)/\AE l d e o out eF found:=by
 unfold I3;obtain ⟨out,eF,found,h1,J⟩:=WJ N (l:=l) (d:=d) (e:=e) (by omega) ai ah o.length N 0 0 (Place.mk 0 0) aqT (by omega) (by omega) ⟨fun _ m hm=>by simp at hm,fun h=>by cases h⟩;have h1:w5 N l d e o o.length N 0 (Place.mk 0 0) aqT 0=aqP (out,eF,found):=h1;rw[h1,al];exact ⟨_,_,_,rfl,J⟩
def hN (l:List aC) (e n:Int):List Int:=if n<0 then cV l e else fo l e n
theorem WN (l:List aC) (e n:Int):(hN l e n).length<=3:=by
 unfold hN;split
 ·exact lr l e
 ·exact ud l e n
def Av (l:List aC) (g:Int->Int->Option Int) (e:Int) (o:List Int) (out:Int):Prop:=out∈o/\∃v,g (bF l e out) out=aqP v/\∀m∈o,∀w,g (bF l e m) m=aqP w->¬oo w (bF l e m) m v (bF l e out) out
theorem Av.xo {l:List aC} {g:Int->Int->Option Int} {e:Int} {o:List Int} {a b:Int} (h:Av l g e o a) (k:Av l g e o b):a=b:=by
 obtain ⟨h1,v,J,aj⟩:=h;obtain ⟨bt,w,bE,cM⟩:=k;have p:=aj b bt w bE;have q:=cM a h1 v J;unfold oo at p q;omega
structure ji (l:List aC) (g:Int->Int->Option Int) (fr:Int) (r:List aU):Prop where
 eF:∀(i:Nat) v,i+1<r.length->r[i]? =aqP v->Av l g v.ak (hN l v.ak v.bm) v.out
 Cc:∀(i:Nat) v,0<i->i+1<r.length->r[i]? =aqP v->g v.ak v.bm≠aqP 0
 ne:1<=r.length
 aO:∀v,r[0]? =aqP v->v.ak=fr/\v.bm= -1
 step:∀(i:Nat) v w,r[i]? =aqP v->r[i+1]? =aqP w->w.bm=v.out/\0<=w.ak/\w.ak=bF l v.ak v.out/\v.out∈cV l v.ak
 mid:∀(i:Nat) v,0<i->i+1<r.length->r[i]? =aqP v->v.out∈fo l v.ak v.bm
theorem ji.add {l:List aC} {g:Int->Int->Option Int} {fr:Int} {r:List aU} {v:aU} {out:Int} (h:ji l g fr r) (ad:r[r.length - 1]? =aqP v) (aI:0<=bF l v.ak out) (ah:out∈cV l v.ak) (ao:1<r.length->out∈fo l v.ak v.bm) (aa:Av l g v.ak (hN l v.ak v.bm) out) (aE:1<r.length->g v.ak v.bm≠aqP 0):
  ji l g fr (r.set (r.length - 1) (aU.mk v.ak v.bm out)++[aU.mk (bF l v.ak out) out (-1)]):=by
 have ca:=h.ne;have hlen:(r.set (r.length - 1) (aU.mk v.ak v.bm out)).length=r.length:=asb;have get:∀(i:Nat) x,(r.set (r.length - 1) (aU.mk v.ak v.bm out)++[aU.mk (bF l v.ak out) out (-1)])[i]? =aqP x->(i+1<r.length/\r[i]? =aqP x)\/(i+1=r.length/\x=aU.mk v.ak v.bm out)\/(i=r.length/\x=aU.mk (bF l v.ak out) out (-1)):=by
  intro i x U;by_cases ae:i<r.length
  ·rw[arf (by omega),List.getElem?_set] at U;by_cases he:r.length - 1=i
   ·rw[if_pos he,if_pos (by omega)] at U;exact .inr (.inl ⟨by omega,by cases U;rfl⟩)
   ·rw[if_neg he] at U;exact .inl ⟨by omega,U⟩
  ·rw[are (by omega)] at U;have:=(aqZ.1 U).1;simp at this;have hs:i=r.length:=by omega
   subst hs;rw[hlen] at U;simp at U;exact .inr (.inr ⟨rfl,U.symm⟩)
 refine ⟨fun i x hs U=> ?_,fun i x ae hs U=> ?_,by simp,fun x U=> ?_,fun i x y U ag=> ?_,fun i x ae hs U=> ?_⟩
 ·simp only[ari,asb,arr,asR] at hs;rcases get i x U with ⟨a,b⟩|⟨a,rfl⟩|⟨a,_⟩
  ·exact h.eF i x a b
  ·exact aa
  ·omega
 ·simp only[ari,asb,arr,asR] at hs;rcases get i x U with ⟨a,b⟩|⟨a,rfl⟩|⟨a,_⟩
  ·exact h.Cc i x ae a b
  ·exact aE (by omega)
  ·omega
 ·rcases get 0 x U with ⟨_,a⟩|⟨a,rfl⟩|⟨a,_⟩
  ·exact h.aO x a
  ·have:r.length - 1=0:=by omega
   rw[this] at ad;have:=h.aO v ad;exact this
  ·omega
 ·rcases get i x U with ⟨a,b⟩|⟨a,rfl⟩|⟨a,_⟩
  ·rcases get (i+1) y ag with ⟨c,mm⟩|⟨c,rfl⟩|⟨c,_⟩
   ·exact h.step i x y b mm
   ·have mx:r[i+1]? =aqP v:=by rw[<-ad];congr 1;omega
    exact h.step i x v b mx
   ·omega
  ·rcases get (i+1) y ag with ⟨c,_⟩|⟨c,_⟩|⟨c,rfl⟩
   ·omega
   ·omega
   ·exact ⟨rfl,aI,rfl,ah⟩
  ·rcases get (i+1) y ag with ⟨c,_⟩|⟨c,_⟩|⟨c,_⟩<;>omega
 ·simp only[ari,asb,arr,asR] at hs;rcases get i x U with ⟨a,b⟩|⟨a,rfl⟩|⟨a,_⟩
  ·exact h.mid i x ae (by omega) b
  ·exact ao (by omega)
  ·omega
theorem ji.same {l:List aC} {g:Int->Int->Option Int} {fr:Int} {ej ee:List aU} (h1:ji l g fr ej) (J:ji l g fr ee) (two:2<=ee.length) (aE:∀z,ee[ee.length - 1]? =aqP z->g z.ak z.bm=aqP 0):
  ∀i,i<ej.length->i<ee.length/\∀v1 v2,ej[i]? =aqP v1->ee[i]? =aqP v2->v1.ak=v2.ak/\v1.bm=v2.bm/\(i+1<ej.length->i+1<ee.length/\v1.out=v2.out):=by
 have Vj:∀(i:Nat) v1 v2,ej[i]? =aqP v1->ee[i]? =aqP v2->v1.ak=v2.ak->v1.bm=v2.bm->i+1<ej.length->i+1<ee.length/\v1.out=v2.out:=by
  intro i v1 v2 a b aX e2 ae;have hs:=(aqZ.1 b).1;have aN:i+1<ee.length:=by
   by_cases ax:i+1=ee.length
   ·have e:i=ee.length - 1:=by omega
    have b2:=b;rw[e] at b2;have:=aE v2 b2;have ca:=h1.Cc i v1 (by omega) ae a;rw[aX,e2] at ca;exact absurd this ca
   ·omega
  refine ⟨aN, ?_⟩;have p:=h1.eF i v1 ae a;have q:=J.eF i v2 aN b;rw[aX,e2] at p;exact p.xo q
 intro i;induction i with
 |zero=>
  intro ae;refine ⟨by omega,fun v1 v2 a b=> ?_⟩;obtain ⟨dm,ei⟩:=h1.aO v1 a;obtain ⟨b5,cd⟩:=J.aO v2 b;have aX:v1.ak=v2.ak:=by rw[dm,b5]
  have e2:v1.bm=v2.bm:=by rw[ei,cd]
  exact ⟨aX,e2,fun ax=>Vj 0 v1 v2 a b aX e2 ax⟩
 |succ i a8=>
  intro ae;obtain ⟨g1,g2⟩:=a8 (by omega);have a:=cI (xs:=ej) (i:=i) (by omega);have b:=cI (xs:=ee) (i:=i) g1;obtain ⟨aX,e2,hR⟩:=g2 _ _ a b;obtain ⟨mn,x9⟩:=hR ae;refine ⟨mn,fun v1 v2 c mm=> ?_⟩;obtain ⟨dm,ei,gb,hi⟩:=h1.step i _ v1 a c;obtain ⟨b5,cd,dN,fD⟩:=J.step i _ v2 b mm;have f1:v1.ak=v2.ak:=by rw[gb,dN,aX,x9]
  have f2:v1.bm=v2.bm:=by rw[dm,b5,x9]
  exact ⟨f1,f2,fun ax=>Vj (i+1) v1 v2 c mm f1 f2 ax⟩
theorem ji.eq {l:List aC} {g:Int->Int->Option Int} {fr:Int} {ej ee:List aU} (h1:ji l g fr ej) (J:ji l g fr ee) (anL:2<=ej.length) (anM:2<=ee.length) (nj:∀z,ej[ej.length - 1]? =aqP z->g z.ak z.bm=aqP 0/\z.out= -1) (U4:∀z,ee[ee.length - 1]? =aqP z->g z.ak z.bm=aqP 0/\z.out= -1):ej=ee:=by
 have s1:=h1.same J anM fun z aE=>(U4 z aE).1;have s2:=J.same h1 anL fun z aE=>(nj z aE).1;have ai:ej.length=ee.length:=by have:=(s1 (ej.length - 1) (by omega)).1;have:=(s2 (ee.length - 1) (by omega)).1;omega
 refine asw fun i=> ?_;by_cases ae:i<ej.length
 ·have a:=cI (xs:=ej) (i:=i) ae;have b:=cI (xs:=ee) (i:=i) (by omega);obtain ⟨aX,e2,hR⟩:=(s1 i ae).2 _ _ a b;rw[a,b];congr 1;have mn:(ej[i]).out=(ee[i]'(by omega)).out:=by
   by_cases ax:i+1<ej.length
   ·exact (hR ax).2
   ·have e:i=ej.length - 1:=by omega
    have bw:i=ee.length - 1:=by omega
    have a':=a;have b2:=b;have p:=(nj (ej[i]) (by rw[<-a'];congr 1;omega)).2;have q:=(U4 (ee[i]'(by omega)) (by rw[<-b2];congr 1;omega)).2;rw[p,q]
  generalize ej[i]=x at*;generalize ee[i]'(by omega)=y at*;cases x;cases y;simp only at aX e2 mn;subst aX e2 mn;rfl
 ·rw[asP (by omega),asP (by omega)]
theorem ji.ad' {l:List aC} {g:Int->Int->Option Int} {fr:Int} {ej ee:List aU} (h1:ji l g fr ej) (J:ji l g fr ee) (two:2<=ee.length) (aE:∀z,ee[ee.length - 1]? =aqP z->g z.ak z.bm=aqP 0) (aB:(b4 ee).Nodup):(b4 ej).Nodup:=by
 have s1:=h1.same J two aE;have:b4 ej=(b4 ee).take ej.length:=by
  refine asw fun i=> ?_;unfold b4;rw[arD];by_cases ae:i<ej.length
  ·have a:=cI (xs:=ej) (i:=i) ae;have b:=cI (xs:=ee) (i:=i) (s1 i ae).1;rw[if_pos ae,arB,arB,a,b];simp only[Option.map_some];rw[((s1 i ae).2 _ _ a b).1]
  ·rw[if_neg ae,arB,asP (by omega)];rfl
 rw[this];exact aB.sublist (atn _ _)
theorem WD (N:Nat) (bi:4000<=N) {l:List aC} (bu:ef l) {d:iz} {fr to:Int} (dK:ia l to d):∀(k n:Nat) (r:List aU) (o:List Int) (v:aU),k<n->ji l (fun i n=>bs d (Place.mk i n)) fr r->r[r.length - 1]? =aqP v->
  ((r.length=1/\o=cV l fr/\d.length<=k)\/(1<r.length/\o=fo l v.ak v.bm/\∃w,bs d (Place.mk v.ak v.bm)=aqP w/\w≠0/\w<=k))->r.length+k<=2000->
  (∃hv,zK N l d n r o=aqP (.inl hv)/\ji l (fun i n=>bs d (Place.mk i n)) fr hv/\2<=hv.length/\(∃z,hv[hv.length - 1]? =aqP z/\z.ak=to/\z.out= -1/\bs d (Place.mk z.ak z.bm)=aqP 0)/\hv.length<=2001/\∀m∈o,∀w,bs d (jl l v.ak m)=aqP w->(hv.length:Int)<=r.length+1+w)\/
  (zK N l d n r o=aqP (.inr 15)/\r.length=1/\∀m∈o,bs d (jl l v.ak m)=aqS)
 |k,0,r,o,v,aq,_,_,_,_=>by omega
 |k,n+1,r,o,v,aq,E5,ad,hinv,hlen=>by
  have ca:=E5.ne;have lN:=bu.len;have Bn:=dK.len;have hw:aq0 .i64 ((r.length:Int) - 1)=((r.length - 1:Nat):Int):=by rw[gW (by omega) (by omega)];omega
  have ap':o.length<=3:=by
   rcases hinv with ⟨_,rfl,_⟩|⟨_,rfl,_⟩
   ·exact lr l fr
   ·exact ud _ _ _
  rw[zK,hw,cC ad];simp only[al];obtain ⟨out,eF,found,h1,J⟩:=agK N (l:=l) (by omega) (by omega) d v.ak (o:=o) (by omega);rw[h1,al];simp only[];cases found with
  |false=>
   simp only[atQ,if_true];refine .inr ⟨trivial, ?_,J.no rfl⟩;rcases hinv with ⟨a,_⟩|⟨_,rfl,w,iF,lU,_⟩
   ·exact a
   ·obtain ⟨_,m,tD,gP⟩:=dK.pos _ w iF lU;have:=J.no rfl m tD;rw[this] at gP;cases gP
  |true=>
   obtain ⟨b5,cd,v1,dN,fD⟩:=J.yes rfl;rw[if_neg (by simp),bN];have Ur:=dK.key eF v1 dN;rw[cd] at Ur;have aI:0<=bF l v.ak out:=(jb Ur).1;have j5:=dK.oc dN;have aqg:=dK.val dN;have lQ:out∈cV l v.ak:=by
    rcases hinv with ⟨a,rfl,_⟩|⟨_,rfl,_⟩
    ·have:r.length - 1=0:=by omega
     rw[this] at ad;rw[(E5.aO v ad).1];exact b5
    ·exact (wv b5).2
   have T4:=E5.add ad aI lQ (fun ax=>by
    rcases hinv with ⟨a,_⟩|⟨_,rfl,_⟩
    ·omega
    ·exact b5) (by
    have ah:o=hN l v.ak v.bm:=by
     unfold hN;rcases hinv with ⟨a,b,_⟩|⟨_,b,w,iF,_⟩
     ·have dA:r.length - 1=0:=by omega
      rw[dA] at ad;obtain ⟨c1,c2⟩:=E5.aO v ad;rw[c1,c2,if_pos (by omega)];exact b
     ·have hk:=dK.key _ _ iF;obtain ⟨_,_,x,U,hm⟩:=jb hk;have:=((mE (bu.snd x (aq7 U))).2.1 _ hm).1;rw[if_neg (by simpa using this)];exact b
    rw[<-ah];exact ⟨b5,v1,by rw[cd] at dN;exact dN,fD⟩) (fun ax=>by
    rcases hinv with ⟨a,_⟩|⟨_,_,w,iF,lU,_⟩
    ·omega
    ·rw[iF];intro ab;cases ab;exact lU rfl)
   have jQ:(r.set (((r.length - 1:Nat):Int)).toNat (aU.mk v.ak v.bm out))=r.set (r.length - 1) (aU.mk v.ak v.bm out):=by rw[arZ]
   have oP:eF.ak=bF l v.ak out:=by rw[cd];rfl
   have nS:eF.bm=out:=by rw[cd];rfl
   rw[jQ,oP,nS,hj (by simp;omega),al,bN,dN];simp only[asg];have yy:(r.set (r.length - 1) (aU.mk v.ak v.bm out)++[aU.mk (bF l v.ak out) out (-1)]).length=r.length+1:=by simp
   have qD:(r.set (r.length - 1) (aU.mk v.ak v.bm out)++[aU.mk (bF l v.ak out) out (-1)])[r.length+1 - 1]? =aqP (aU.mk (bF l v.ak out) out (-1)):=by rw[are (by simp)];simp
   have oR:∀m∈o,∀w,bs d (jl l v.ak m)=aqP w->v1<=w:=by intro m hm w hw;have:=fD m hm w hw;unfold oo at this;omega
   by_cases aE:v1=0
   ·rw[if_pos (by simpa using aE)];refine .inl ⟨_,rfl,T4,by omega,⟨_,by rw[yy];exact qD, ?_,rfl, ?_⟩,by omega,fun m hm w hw=> ?_⟩
    ·have:=dK.zero eF (by rw[dN,aE]);rw[oP] at this;exact this
    ·have:eF=Place.mk (bF l v.ak out) out:=cd;rw[<-this,dN,aE]
    ·have:=oR m hm w hw;rw[yy];omega
   ·rw[if_neg (by simpa using aE),OX N (by omega),al];have rJ:v1+1<=k:=by
     rcases hinv with ⟨_,_,a⟩|⟨_,rfl,w,iF,lU,aqh⟩
     ·omega
     ·obtain ⟨_,m,tD,gP⟩:=dK.pos _ w iF lU;have:=oR m tD _ gP;omega
    cases k with
    |zero=>omega
    |succ k=>
     have abE:eF=Place.mk (bF l v.ak out) out:=cd;have a8:=WD N bi bu dK k n (r.set (r.length - 1) (aU.mk v.ak v.bm out)++[aU.mk (bF l v.ak out) out (-1)]) (fo l (bF l v.ak out) out) (aU.mk (bF l v.ak out) out (-1)) (by omega) T4 (by rw[yy];exact qD)
      (.inr ⟨by omega,rfl,v1,by rw[<-abE];exact dN,aE,by omega⟩) (by omega)
     rcases a8 with ⟨hv,g1,g2,g3,g4,g5,g6⟩|⟨g1,g2,_⟩
     ·refine .inl ⟨hv,g1,g2,g3,g4,g5,fun m hm w hw=> ?_⟩;obtain ⟨_,m0,tD,gP⟩:=dK.pos eF v1 dN aE;rw[oP,nS] at tD;rw[oP] at gP;have:=g6 m0 tD _ gP;have:=oR m hm w hw;omega
     ·omega
theorem Xq (N:Nat) (bi:4000<=N) {l:List aC} (bu:ef l) (fr to:Int):
  (l7 N l fr to=aqP ([],2)/\(¬fp l fr\/¬fp l to\/fr=to))\/(fp l fr/\fp l to/\fr≠to/\∃d,ia l to d/\(∀m∈cV l to,bs d (Place.mk to m)=aqP 0)/\e8 l d/\
   ((l7 N l fr to=aqP ([],15)/\∀m∈cV l fr,bs d (jl l fr m)=aqS)\/(l7 N l fr to=aqP ([],17)/\∃r,ji l (fun i n=>bs d (Place.mk i n)) fr r/\2<=r.length/\(∀z,r[r.length - 1]? =aqP z->bs d (Place.mk z.ak z.bm)=aqP 0/\z.out= -1)/\¬(b4 r).Nodup)\/∃r,l7 N l fr to=aqP (r,0)/\(ji l (fun i n=>bs d (Place.mk i n)) fr r/\∀z,r[r.length - 1]? =aqP z->bs d (Place.mk z.ak z.bm)=aqP 0/\z.out= -1)/\jC l r/\r.length<=2001/\(∀v,r[0]? =aqP v->v.ak=fr)/\(∀v,r[r.length - 1]? =aqP v->v.ak=to)/\∀m∈cV l fr,∀w,bs d (jl l fr m)=aqP w->(r.length:Int)<=2+w)):=by
 unfold l7;rw[bu.p N (by omega),al,if_neg (by simp)];have aI:∃b,Ik N l fr to=aqP b/\(b=aqT↔fp l fr/\fp l to/\fr≠to):=by unfold Ik;simp only[OY,al];exact lp uk (lp uk ⟨_,rfl,by simp⟩)
 obtain ⟨b,h1,J⟩:=aI;rw[h1,al];cases b with
 |true=>
  rw[if_pos rfl];refine .inl ⟨rfl, ?_⟩;by_cases a:fp l fr
  ·by_cases c:fp l to
   ·right;right;by_cases e:fr=to
    ·exact e
    ·have:=J.2 ⟨a,c,e⟩;cases this
   ·exact .inr (.inl c)
  ·exact .inl a
 |false=>
  rw[if_neg (by simp)];obtain ⟨t1,t2,t3⟩:=J.1 rfl;obtain ⟨d,g1,g2,g3,g4⟩:=ahc N (by omega) (to:=to) bu;rw[g1,al,GI,al];have Bn:=g2.len;have lN:=bu.len;refine .inr ⟨t1,t2,t3,d,g2,g3,g4, ?_⟩;have ai:=WD N bi bu (fr:=fr) g2 d.length N [aU.mk fr (-1) 0] (cV l fr) (aU.mk fr (-1) 0) (by omega)
   ⟨fun i v ae=>by simp at ae,fun i v ae hs=>by simp at hs,by simp,fun v ad=>by simp at ad;subst ad;exact ⟨rfl,rfl⟩,fun i v w ad hw=>by simp at hw,fun i v ae hs ad=>by simp at hs⟩ (by simp) (.inl ⟨by simp,rfl,by omega⟩) (by simp;omega)
  rcases ai with ⟨hv,b5,cd,dN,⟨z,fD,lY,lo,VA⟩,Ng,kv⟩|⟨b5,_,aey⟩
  ·rw[b5,al];simp only[];obtain ⟨c,c1,c2⟩:=Xn N (r:=hv) (by omega) (by omega);rw[c1,al];cases c with
   |true=>right;left;rw[if_pos rfl];refine ⟨rfl,hv,cd,dN,fun y ag=> ?_,fun aB=>by have:=c2.2 aB;cases this⟩;rw[fD] at ag;cases ag;exact ⟨VA,lo⟩
   |false=>
    right;right;rw[if_neg (by simp)];have ap2:=cI (xs:=hv) (i:=0) (by omega);have kp:∀v,hv[hv.length - 1]? =aqP v->v=z:=fun v ad=>by rw[fD] at ad;cases ad;rfl
    refine ⟨hv,rfl,⟨cd,fun y ag=>by rw[fD] at ag;cases ag;exact ⟨VA,lo⟩⟩,⟨bu.err,⟨dN,fun v ad=> ?_,fun v ad=> ?_,fun i v w ad hw=> ?_,cd.mid⟩,c2.1 rfl⟩,Ng,fun v ad=>(cd.aO v ad).1,fun v ad=>by rw[kp v ad];exact lY,fun m hm w hw=>by have:=kv m hm w hw;simp at this;omega⟩
    ·obtain ⟨a,b⟩:=cd.aO v ad;have:=cd.step 0 v _ ad (cI (xs:=hv) (i:=1) (by omega));exact ⟨by rw[a];exact t1,b,this.2.2.2⟩
    ·rw[kp v ad,lY];exact ⟨t2,lo⟩
    ·obtain ⟨a,b,c,mm⟩:=cd.step i v w ad hw;exact ⟨a,b,c⟩
  ·rw[b5,al];exact .inl ⟨rfl,aey⟩
theorem ahi (N:Nat) (bi:4000<=N) {l:List aC} (bu:ef l) (fr to:Int):
  (l7 N l fr to=aqP ([],2)/\(¬fp l fr\/¬fp l to\/fr=to))\/(fp l fr/\fp l to/\fr≠to/\
   (l7 N l fr to=aqP ([],15)\/l7 N l fr to=aqP ([],17)\/∃r,l7 N l fr to=aqP (r,0)/\jC l r/\r.length<=2001/\(∀v,r[0]? =aqP v->v.ak=fr)/\∀v,r[r.length - 1]? =aqP v->v.ak=to)):=by
 rcases Xq N bi bu fr to with h|⟨a,b,c,d,_,_,_,h⟩
 ·exact .inl h
 ·refine .inr ⟨a,b,c, ?_⟩;rcases h with ⟨h,_⟩|⟨h,_⟩|⟨r,h1,_,J,aj,aM,br,_⟩
  ·exact .inl h
  ·exact .inr (.inl h)
  ·exact .inr (.inr ⟨r,h1,J,aj,aM,br⟩)
end Go.W
end
section
namespace Go.W
open Go.aS
def iK (l:List aC):Nat->List aC->List Int
 |_,[]=>[]
 |i,x::xs=>if x.kind=1 then (i:Int)::iK l (i+1) xs else iK l (i+1) xs
theorem N3 (l:List aC):∀(q:List aC) (i:Nat),(iK l i q).length<=q.length
 |[],i=>by simp[iK]
 |x::q,i=>by rw[iK];have:=N3 l q (i+1);split<;>simp<;>omega
theorem N4 {l:List aC} {a:Int}:∀{q:List aC} {i:Nat},a∈iK l i q->∃(j:Nat) (x:aC),a=((i+j:Nat):Int)/\q[j]? =aqP x/\x.kind=1
 |[],i,h=>by simp[iK] at h
 |x::q,i,h=>by
  rw[iK] at h;split at h
  ·rename_i hk;rcases aq6.1 h with rfl|h
   ·exact ⟨0,x,by simp,rfl,hk⟩
   ·obtain ⟨j,y,h1,J,aj⟩:=N4 h;exact ⟨j+1,y,by rw[h1];omega,by simpa using J,aj⟩
  ·obtain ⟨j,y,h1,J,aj⟩:=N4 h;exact ⟨j+1,y,by rw[h1];omega,by simpa using J,aj⟩
theorem Nj (N:Nat) {l:List aC} (ai:l.length<=1000000):∀(k n i:Nat) (q:List Int),k<n->i+k=l.length->q.length<=i->zG N l n q i=aqP (q++iK l i (l.drop i))
 |k,0,i,q,aq,_,_=>by omega
 |0,n+1,i,q,aq,ae,aK=>by
  obtain rfl:i=l.length:=by omega
  rw[zG,if_neg (cw (by omega)),asd,iK,asN]
 |k+1,n+1,i,q,aq,ae,aK=>by
  have aN:i<l.length:=by omega
  have au:=cI aN;rw[zG,if_pos (cA (by omega))];unfold PY;rw[cC au,al,jt au,iK];by_cases hk:l[i].kind=1
  ·rw[if_pos (by simpa using hk),if_pos hk,hj (by simp;omega),al,al,bN,dh (by omega),Nj N ai k n (i+1) _ (by omega) (by omega) (by simp;omega)];simp
  ·rw[if_neg (by simpa using hk),if_neg hk,al,bN,dh (by omega),Nj N ai k n (i+1) _ (by omega) (by omega) (by omega)]
theorem WX (N:Nat) {l:List aC} (ai:l.length<=1000000) (bi:l.length<N):DS N l=aqP (iK l 0 l):=by
 unfold DS;have h:=Nj N ai l.length N 0 [] bi (by omega) (by simp);simp only[asn,arv,asj] at h;rw[h,al]
end Go.W
end
section
namespace Go.W
open Go.aS
theorem afd {x:aC} (h:bZ x≠[]):2<=(bZ x).length:=by
 unfold bZ at*;split
 ·simp
 ·split
  ·simp
  ·rename_i h1 J;rw[if_neg h1,if_neg J] at h;exact absurd rfl h
theorem ahM {l:List aC} (bu:ef l) {i n:Int} (h:n∈cV l i):0<(fo l i n).length:=by
 obtain ⟨aI,h1,x,U,aq⟩:=jb h;obtain ⟨j,rfl⟩:=arw aI;rw[arZ] at U;have J:=afd (mE (bu.snd x (aq7 U))).2.2.1;unfold fo iJ;rw[zu U,if_pos (by simpa using aq)];split
 ·rw[List.length_tail];omega
 ·rw[arA];omega
structure pB (l:List aC) (w:List aU) (v:aU):Prop where
 ne:1<=w.length
 last:w[w.length - 1]? =aqP v
 aO:∀v,w[0]? =aqP v->fp l v.ak/\v.bm= -1/\v.out∈cV l v.ak
 out:v.out∈cV l v.ak
 step:∀(i:Nat) v w',w[i]? =aqP v->w[i+1]? =aqP w'->w'.bm=v.out/\0<=w'.ak/\w'.ak=bF l v.ak v.out
 mid:∀(i:Nat) v,0<i->w[i]? =aqP v->v.out∈fo l v.ak v.bm
theorem zs {ap:Type} {w:List ap} {y:ap} {i:Nat} {x:ap} (h:(w++[y])[i]? =aqP x):(i<w.length/\w[i]? =aqP x)\/(i=w.length/\x=y):=by
 by_cases ae:i<w.length
 ·rw[arf ae] at h;exact .inl ⟨ae,h⟩
 ·have:=(aqZ.1 h).1;simp at this;have:i=w.length:=by omega
  subst this;simp at h;exact .inr ⟨rfl,h.symm⟩
theorem pB.ZH {l:List aC} {w:List aU} {v y:aU} (h:pB l w v) (h1:y.bm=v.out) (aI:0<=bF l v.ak v.out) (J:y.ak=bF l v.ak v.out):∀(i:Nat) a b,(w++[y])[i]? =aqP a->(w++[y])[i+1]? =aqP b->b.bm=a.out/\0<=b.ak/\b.ak=bF l a.ak a.out:=by
 intro i a b au aa;rcases zs aa with ⟨p,q⟩|⟨p,rfl⟩
 ·rcases zs au with ⟨r,s⟩|⟨r,_⟩
  ·exact h.step i a b s q
  ·omega
 ·rcases zs au with ⟨r,s⟩|⟨r,_⟩
  ·have:=h.last;rw[show w.length - 1=i by omega,s] at this;cases this;exact ⟨h1,by rw[J];exact aI,J⟩
  ·omega
theorem pB.dQ {l:List aC} {w:List aU} {v y:aU} (h:pB l w v):∀a,(w++[y])[0]? =aqP a->fp l a.ak/\a.bm= -1/\a.out∈cV l a.ak:=by
 intro a au;rcases zs au with ⟨_,q⟩|⟨p,_⟩
 ·exact h.aO a q
 ·have:=h.ne;omega
theorem pB.add {l:List aC} {w:List aU} {v:aU} {o:Int} (h:pB l w v) (aI:0<=bF l v.ak v.out) (ah:o∈fo l (bF l v.ak v.out) v.out):pB l (w++[aU.mk (bF l v.ak v.out) v.out o]) (aU.mk (bF l v.ak v.out) v.out o) where
 ne:=by simp
 last:=by simp
 aO:=h.dQ
 out:=(wv ah).2
 step:=h.ZH rfl aI rfl
 mid:=fun i a ae au=>by
  rcases zs au with ⟨_,q⟩|⟨_,rfl⟩
  ·exact h.mid i a ae q
  ·exact ah
theorem pB.fin {l:List aC} {w:List aU} {v:aU} (h:pB l w v) (aI:0<=bF l v.ak v.out) (ao:fp l (bF l v.ak v.out)):ke l (w++[aU.mk (bF l v.ak v.out) v.out (-1)]) where
 two:=by have:=h.ne;simp;omega
 aO:=h.dQ
 hS:=fun a au=>by simp at au;subst au;exact ⟨ao,rfl⟩
 step:=h.ZH rfl aI rfl
 mid:=fun i a ae hs au=>by
  rcases zs au with ⟨_,q⟩|⟨p,_⟩
  ·exact h.mid i a ae q
  ·simp at hs;omega
theorem aiR {l:List aC} {i n:Int} (h:0<=bF l i n):bF l i n<l.length:=by
 rcases GC l i n with ⟨a,_⟩|⟨j,x,a,b,_⟩
 ·omega
 ·have:=(aqZ.1 b).1;omega
theorem amh (N:Nat) (bi:4000<=N) {l:List aC} (bu:ef l) {c:Int} {s:er} (az:ho c s) (ab:c<=1000000) {e n:Int} (aI:0<=e) (h1:e<l.length) {o:List Int} (ah:0<o.length):∃b cc,Ia N s l e o=aqP (cc,b)/\ho (c+1) cc/\(b=aqQ->fp l e):=by
 have lN:=bu.len;obtain ⟨j,rfl⟩:=arw aI;have ar:=cI (xs:=l) (i:=j) (by omega);have g0:aR o 0=aqP o[0]:=cC (cI (xs:=o) (i:=0) ah);unfold Ia;rw[cC ar,al];by_cases hk:l[j].kind=1
 ·have ao:fp l (j:Int):=⟨by omega,_,ar,hk⟩
  rw[if_pos (by simpa using hk)];obtain ⟨r,cc,dm,ei,gb,hi⟩:=lZ N (s:=s) (c:=c) 2 (by omega) (by omega) az (by omega);rw[dm,al];by_cases aw:r=0
  ·rw[if_pos (by simpa using aw)];exact ⟨_,_,rfl,hi,fun _=>ao⟩
  ·rw[if_neg (by simpa using aw),g0,al,al,wu N (by omega) (by omega),al];exact ⟨_,_,rfl,hi,fun _=>ao⟩
 ·rw[if_neg (by simpa using hk)];exact ⟨_,_,rfl,az.le (by omega),fun h=>by cases h⟩
theorem WZ (N:Nat) (bi:4000<=N) {l:List aC} (bu:ef l):∀(k n i:Nat) (c:Int) (s:er) (v:aU) (w:List aU),k<n->i+k=12->ho c s->c+2*k<=1000000->pB l w v->w.length=i+1->
  ∃cc w',(sK N l n s v w i=aqP (.inl (cc,w'))\/sK N l n s v w i=aqP (.inr (cc,w')))/\ho (c+2*k) cc/\1<=w'.length/\w'.length<=13/\(ke l w'\/∀v,w'[w'.length - 1]? =aqP v->v.out≠ -1)
 |k,0,i,c,s,v,w,aq,_,_,_,_,_=>by omega
 |k,n+1,i,c,s,v,w,aq,ae,az,ab,cb,ai=>by
  have lN:=bu.len;have stop:∀bl,w[w.length - 1]? =aqP bl->bl.out≠ -1:=fun bl mx=>by rw[cb.last] at mx;cases mx;obtain ⟨_,_,x,U,aq⟩:=jb cb.out;have:=(mE (bu.snd x (aq7 U))).2.1 _ aq;omega
  cases k with
  |zero=>rw[sK,if_neg (cw (by omega))];exact ⟨s,w, .inl rfl,az.le (by omega),by omega,by omega, .inr stop⟩
  |succ k=>
   rw[sK,if_pos (cA (by omega)),wu N (by omega) (by omega),al];by_cases aI:bF l v.ak v.out<0
   ·rw[if_pos (cA aI)];exact ⟨s,w, .inl rfl,az.le (by omega),by omega,by omega, .inr stop⟩
   ·rw[if_neg (cw aI),O3 N (by omega),al];have oM:0<=bF l v.ak v.out:=by omega
    have dS:=ahM bu (zk oM).1;have aj:=ud l (bF l v.ak v.out) v.out;obtain ⟨b,s1,b5,cd,dN⟩:=amh N bi bu az (by omega) oM (aiR oM) (n:=v.out) dS;rw[b5,al];simp only[];cases b with
    |true=>rw[if_pos rfl,hj (by simp;omega),al];exact ⟨_,_, .inr rfl,cd.le (by omega),by simp,by simp;omega, .inl (cb.fin oM (dN rfl))⟩
    |false=>rw[if_neg (by simp)];obtain ⟨r,s2,dm,ei,gb,hi⟩:=lZ N (s:=s1) (c:=c+1) ((fo l (bF l v.ak v.out) v.out).length:Int) (by omega) (by omega) cd (by omega);obtain ⟨r,rfl⟩:=arw ei;have aw:=cI (xs:=fo l (bF l v.ak v.out) v.out) (i:=r) (by omega);rw[dm,al];simp only[];rw[cC aw,al,al,hj (by simp;omega),al,bN,dh (by omega)];have abf:=cb.add oM (aq7 aw);obtain ⟨cc,w',g1,g2,g3,g4,g5⟩:=WZ N bi bu k n (i+1) (c+1+1) s2 _ _ (by omega) (by omega) hi (by omega) abf (by simp;omega);exact ⟨cc,w',g1,g2.le (by omega),g3,g4,g5⟩
theorem ahQ (N:Nat) (bi:4000<=N) {l:List aC} (bu:u7 l) {c:Int} {s:er} (az:ho c s) (ab:c<=900000):
  ∃w cc,DX N s l=aqP (w,cc)/\ho (c+30) cc/\1<=w.length/\w.length<=13/\(ke l w\/∀v,w[w.length - 1]? =aqP v->v.out≠ -1):=by
 have lN:=bu.ok.len;unfold DX;rw[WX N (by omega) (by omega),al];have hlen:=N3 l l 0;have dS:0<(iK l 0 l).length:=by
  obtain ⟨x,U,hk⟩:=bu.fst;cases l with
  |nil=>simp at U
  |cons y l=>simp at U;subst U;rw[iK,if_pos hk];simp
 have ade:∀a∈iK l 0 l,fp l a:=by intro a au;obtain ⟨j,x,h1,J,aj⟩:=N4 au;rw[ara] at h1;subst h1;exact ⟨by omega,x,by simpa using J,aj⟩
 obtain ⟨r,s1,dm,ei,gb,hi⟩:=lZ N (s:=s) (c:=c) ((iK l 0 l).length:Int) (by omega) (by omega) az (by omega);obtain ⟨r,rfl⟩:=arw ei;have aw:=cI (xs:=iK l 0 l) (i:=r) (by omega);have ao:=ade _ (aq7 aw);rw[dm,al];simp only[];rw[cC aw,al,al,sb,al];generalize (iK l 0 l)[r]'(by omega)=e at*;have aqb:0<(cV l e).length:=by obtain ⟨a,x,b,hq⟩:=ao;unfold cV;rw[if_pos a,b];simp[bZ,hq]
 have aj:=lr l e;obtain ⟨q,s2,b5,cd,dN,fD⟩:=lZ N (s:=s1) (c:=c+1) ((cV l e).length:Int) (by omega) (by omega) hi (by omega);obtain ⟨q,rfl⟩:=arw cd;have aK:=cI (xs:=cV l e) (i:=q) (by omega);rw[b5,al];simp only[];rw[cC aK,al,al];have hJ:=aq7 aK;generalize (cV l e)[q]'(by omega)=o at*;have cb:pB l [aU.mk e (-1) o] (aU.mk e (-1) o):=⟨by simp,by simp,fun v ad=>by simp at ad;subst ad;exact ⟨ao,rfl,hJ⟩,hJ,fun i v w ad hw=>by simp at hw,fun i v ae ad=>by
  have:=(aqZ.1 ad).1;simp at this;omega⟩
 obtain ⟨cc,w',g1,g2,g3,g4,g5⟩:=WZ N bi bu.ok 12 N 0 (c+1+1) s2 _ _ (by omega) (by omega) fD (by omega) cb rfl;refine ⟨w',cc, ?_,g2.le (by omega),g3,g4,g5⟩;rcases g1 with g1|g1
 ·have g1:sK N l N s2 (aU.mk e (-1) o) [aU.mk e (-1) o] 0=aqP (.inl (cc,w')):=g1;rw[g1];rfl
 ·have g1:sK N l N s2 (aU.mk e (-1) o) [aU.mk e (-1) o] 0=aqP (.inr (cc,w')):=g1;rw[g1];rfl
theorem ahP (N:Nat) (bi:4000<=N) {l:List aC} (bu:ef l) {w:List aU} (hw:w.length<=3000):∃b,ta N l w=aqP b/\xI N l w=aqP b/\(b=aqQ↔jC l w):=by
 have lN:=bu.len;obtain ⟨ff,dm,ei⟩:=OW N (l:=l) (r:=w) (by omega) (by omega) (by omega);obtain ⟨gA,ej,ee⟩:=XW N (l:=l) (r:=w) (by omega) (by omega) (by omega) fun _ x U=>by have h1:=(mE (bu.snd x U)).2.2.2;unfold kT at h1;simp only[aq5,decide_eq_true_eq] at h1;omega
 have:ff=gA:=arV.2 (ei.trans ee.symm);exact ⟨ff,dm,by rw[this];exact ej,ei⟩
end Go.W
end
section
namespace Go.W
open Go.aS
abbrev gL:=List (Step×Int)
def c5 (d:gL) (i n:Int):Option Int:=bs d (Step.mk i n)
theorem p7 (d:gL) (i n v fH n':Int):c5 (dV d (Step.mk i n) v) fH n'=if i=fH/\n=n' then aqP v else c5 d fH n':=by
 unfold c5;rw[iH];by_cases h:i=fH/\n=n'
 ·obtain ⟨rfl,rfl⟩:=h;simp
 ·rw[if_neg h,if_neg (fun ax=>h (by cases ax;exact ⟨rfl,rfl⟩))]
theorem NV {ap bx:Type} [DecidableEq ap]:∀{m:List (ap×bx)} {k:ap} {v w:bx},bs m k=aqP w->(dV m k v).map ase=m.map ase
 |[],k,v,w,h=>by simp[bs] at h
 |p::m,k,v,w,h=>by
  simp only[bs] at h;split at h
  ·rename_i hk;rw[dV,if_pos hk];simp
  ·rename_i hk;rw[dV,if_neg hk];simp[NV h]
structure kE (l:List aC) (to:Int) (d:gL):Prop where
 key:∀i n v,c5 d i n=aqP v->n∈cV l i
 Iw:∀n v,c5 d to n=aqP v->v=0
 pos:∀i n v,i≠to->c5 d i n=aqP v->0<v/\∃m∈fo l i n,∃w,c5 d (bF l i m) m=aqP w/\w<v
 val:∀i n v,c5 d i n=aqP v->v<d.length
 keys:(d.map ase).Nodup
theorem kE.oc {l:List aC} {to:Int} {d:gL} (h:kE l to d) {i n v:Int} (aG:c5 d i n=aqP v):0<=v:=by
 by_cases ae:i=to
 ·subst ae;have:=h.Iw n v aG;omega
 ·have:=(h.pos i n v ae aG).1;omega
theorem kE.len {l:List aC} {to:Int} {d:gL} (h:kE l to d):d.length<=3*l.length:=by
 have hm:((d.map ase).map fun s=>Place.mk s.ak s.bm).Nodup:=by
  have hk:=h.keys;generalize d.map ase=q at hk;rw[aun,atp];exact (aun.1 hk).imp fun {a b} eH ax=>eH (by
   cases a;cases b;simp at ax⊢;exact ax)
 have h1:=sa (b:=tl l) hm fun p an=>by obtain ⟨s,az,rfl⟩:=aq'.1 an;obtain ⟨v,ad⟩:=ub.2 az;exact NX (h.key s.ak s.bm v ad)
 have:=NW l;rw[arN,arN] at h1;omega
structure Ec (l:List aC) (d:gL) (e:Int) (q:List Int) (eF:Int) (ok:Bool):Prop where
 no:ok=aqT->∀m∈q,c5 d (bF l e m) m=aqS
 yes:ok=aqQ->(∃m∈q,c5 d (bF l e m) m=aqP eF)/\∀m∈q,∀w,c5 d (bF l e m) m=aqP w->eF<=w
theorem VZ (N:Nat) {l:List aC} (bi:l.length+10<=N) (ai:l.length<=1000000) {d:gL} {v:aU} {o:List Int} (ah:o.length<=1000):∀(k n i:Nat) (eF:Int) (ok:Bool),k<n->i+k=o.length->Ec l d v.ak (o.take i) eF ok->
  ∃nP yW,xb N l d v o n eF ok i=aqP (nP,yW)/\Ec l d v.ak o nP yW
 |k,0,i,eF,ok,aq,_,_=>by omega
 |0,n+1,i,eF,ok,aq,ae,cb=>by
  obtain rfl:i=o.length:=by omega
  rw[xb,if_neg (cw (by omega))];rw[asq] at cb;exact ⟨_,_,rfl,cb⟩
 |k+1,n+1,i,eF,ok,aq,ae,cb=>by
  have aN:i<o.length:=by omega
  have au:=cI aN;have gC:=l0 au;rw[xb,if_pos (cA (by omega))];have key:∃nP yW,HX N l d v eF ok o i=aqP (nP,yW)/\Ec l d v.ak (o.take (i+1)) nP yW:=by
   unfold HX;simp only[cC au,al];rw[wu N (by omega) ai,al,bN,bN];have k6:bs d (Step.mk (bF l v.ak o[i]) o[i])=c5 d (bF l v.ak o[i]) o[i]:=rfl;rw[k6];cases aG:c5 d (bF l v.ak o[i]) o[i] with
   |none=>
    have J:Dr N eF ok ((aqS:Option Int).getD 0) (aqS:Option Int).isSome=aqP aqT:=rfl;rw[J,al,if_neg (by simp)];refine ⟨eF,ok,rfl,⟨fun aP m hm=> ?_,fun aP=>⟨?_,fun m hm w hw=> ?_⟩⟩⟩
    ·rw[gC] at hm;rcases arc.1 hm with hm|hm
     ·exact cb.no aP m hm
     ·simp at hm;subst hm;exact aG
    ·obtain ⟨⟨m,a,b⟩,_⟩:=cb.yes aP;exact ⟨m,by rw[gC];exact as8 _ a,b⟩
    ·rw[gC] at hm;rcases arc.1 hm with hm|hm
     ·exact (cb.yes aP).2 m hm w hw
     ·simp at hm;subst hm;rw[aG] at hw;cases hw
   |some w=>
    have J:Dr N eF ok ((aqP w:Option Int).getD 0) (aqP w:Option Int).isSome=aqP (!ok||decide (w<eF)):=by unfold Dr;cases ok<;>simp
    rw[J,al];by_cases ab:(!ok||decide (w<eF))=aqQ
    ·rw[if_pos ab];refine ⟨w,aqQ,rfl,⟨fun aP=>(by cases aP),fun _=>⟨⟨o[i],by rw[gC];exact ato _ (by simp),aG⟩,fun m hm w' gQ=> ?_⟩⟩⟩;rw[gC] at hm;rcases arc.1 hm with hm|hm
     ·cases ok with
      |false=>have:=cb.no rfl m hm;rw[gQ] at this;cases this
      |true=>have:=(cb.yes rfl).2 m hm w' gQ;simp at ab;omega
     ·simp at hm;subst hm;rw[aG] at gQ;cases gQ;omega
    ·rw[if_neg ab];cases ok with
     |false=>simp at ab
     |true=>
      simp at ab;obtain ⟨⟨m,a,b⟩,aj⟩:=cb.yes rfl;refine ⟨eF,aqQ,rfl,⟨fun aP=>(by cases aP),fun _=>⟨⟨m,by rw[gC];exact as8 _ a,b⟩,fun m hm w' gQ=> ?_⟩⟩⟩;rw[gC] at hm;rcases arc.1 hm with hm|hm
      ·exact aj m hm w' gQ
      ·simp at hm;subst hm;rw[aG] at gQ;cases gQ;omega
  obtain ⟨nP,yW,g1,g2⟩:=key;rw[g1,al,bN,dh (by omega)];exact VZ N bi ai ah k n (i+1) _ _ (by omega) (by omega) g2
theorem Xe (N:Nat) (bi:4<=N) (l:List aC) (v:aU):D4 N l v=aqP (hN l v.ak v.bm):=by
 unfold D4 hN;by_cases h:v.bm<0
 ·rw[if_pos (cA h),if_pos h,sb,al]
 ·rw[if_neg (cw h),if_neg h,O3 N bi,al]
theorem Xd (N:Nat) {l:List aC} (bi:l.length+10<=N) (ai:l.length<=1000000) (d:gL) (v:aU):∃eF ok,D3 N l d v=aqP (eF,ok)/\Ec l d v.ak (hN l v.ak v.bm) eF ok:=by
 unfold D3;have aj:=WN l v.ak v.bm;rw[Xe N (by omega),al];obtain ⟨eF,ok,h1,J⟩:=VZ N (l:=l) (d:=d) (v:=v) bi ai (o:=hN l v.ak v.bm) (by omega) (hN l v.ak v.bm).length N 0 0 aqT (by omega) (by omega) ⟨fun _ m hm=>by simp at hm,fun h=>by cases h⟩;have h1:xb N l d v (hN l v.ak v.bm) N 0 aqT 0=aqP (eF,ok):=h1;rw[h1,al];exact ⟨_,_,rfl,J⟩
def tQ (l:List aC) (d:gL):Nat:=((tl l).map fun p=>((c5 d p.ak p.bm).getD 300).toNat).sum
theorem YU {ap:Type} {f g:ap->Nat}:∀{q:List ap},(∀x∈q,g x<=f x)->(∃x∈q,g x<f x)->(q.map g).sum<(q.map f).sum
 |[],_,h=>by obtain ⟨x,U,_⟩:=h;cases U
 |y::q,h1,J=>by
  simp only[arG,List.sum_cons];have ag:=h1 y arn;have aK:∀(q:List ap),(∀x∈q,g x<=f x)->(q.map g).sum<=(q.map f).sum:=by
   intro q;induction q with
   |nil=>intro _;simp
   |cons z q a8=>intro h;simp only[arG,List.sum_cons];have:=h z arn;have:=a8 fun x U=>h x (ard _ U);omega
  obtain ⟨x,U,aN⟩:=J;rcases aq6.1 U with rfl|U
  ·have:=aK q fun x U=>h1 x (ard _ U);omega
  ·have:=YU (q:=q) (fun x U=>h1 x (ard _ U)) ⟨x,U,aN⟩;omega
theorem am2 {l:List aC} {to:Int} {d:gL} (h:kE l to d) (ai:l.length<=96):tQ l d<=90000:=by
 have key:∀(q:List Place),(q.map fun p=>((c5 d p.ak p.bm).getD 300).toNat).sum<=300*q.length:=by
  intro q;induction q with
  |nil=>simp
  |cons p q a8=>
   simp only[arG,List.sum_cons,arr];have:((c5 d p.ak p.bm).getD 300).toNat<=300:=by
    cases aG:c5 d p.ak p.bm with
    |none=>decide
    |some v=>have:=h.val _ _ _ aG;have:=h.len;simp;omega
   omega
 have h1:=key (tl l);have J:=NW l;unfold tQ;omega
theorem kE.set {l:List aC} {to:Int} {d:gL} (h:kE l to d) (ai:l.length<=96) {i n b:Int} (ae:i≠to) (aq:n∈cV l i) (aa:∃m∈fo l i n,c5 d (bF l i m) m=aqP b) (ab:∀v,c5 d i n=aqP v->b+1<v):
  kE l to (dV d (Step.mk i n) (b+1))/\tQ l (dV d (Step.mk i n) (b+1))<tQ l d:=by
 obtain ⟨m,hm,fA⟩:=aa;have hY:=h.oc fA;have hB:=h.val _ _ _ fA;have Bn:=h.len;have ca:bF l i m≠i:=(zk (l:=l) (i:=i) (n:=m) (by
  have:=h.key _ _ _ fA;exact (jb this).1)).2
 have hlen:b+1<((dV d (Step.mk i n) (b+1)).length:Int)/\(d.length:Int)<=((dV d (Step.mk i n) (b+1)).length:Int)/\((dV d (Step.mk i n) (b+1)).map ase).Nodup:=by
  cases aG:bs d (Step.mk i n) with
  |none=>rw[r8 aG,ar3,arT];refine ⟨by simp;omega,by simp;omega,h.keys,by simp,fun x U y ag=> ?_⟩;simp at ag;subst ag;rintro rfl;obtain ⟨w,hw⟩:=ub.2 U;rw[hw] at aG;cases aG
  |some w=>
   have e:=NV (v:=b+1) aG;have e2:(dV d (Step.mk i n) (b+1)).length=d.length:=by have:=congrArg List.length e;simpa using this
   have:=h.val i n w aG;have:=ab w aG;exact ⟨by rw[e2];omega,by rw[e2];omega,by rw[e];exact h.keys⟩
 have Fj:∀fH m' w v,c5 d fH m'=aqP w->w<v->∃w',c5 (dV d (Step.mk i n) (b+1)) fH m'=aqP w'/\w'<v:=by
  intro fH m' w v hw ad;rw[p7];by_cases ax:i=fH/\n=m'
  ·rw[if_pos ax];obtain ⟨rfl,rfl⟩:=ax;have:=ab w hw;exact ⟨_,rfl,by omega⟩
  ·rw[if_neg ax];exact ⟨w,hw,ad⟩
 refine ⟨⟨fun fH n' v aG=> ?_,fun n' v aG=> ?_,fun fH n' v dY aG=> ?_,fun fH n' v aG=> ?_,hlen.2.2⟩, ?_⟩
 ·rw[p7] at aG;split at aG
  ·rename_i ax;obtain ⟨rfl,rfl⟩:=ax;exact aq
  ·exact h.key _ _ _ aG
 ·rw[p7] at aG;split at aG
  ·rename_i ax;exact absurd ax.1 ae
  ·exact h.Iw _ _ aG
 ·rw[p7] at aG;split at aG
  ·rename_i ax;obtain ⟨rfl,rfl⟩:=ax;cases aG;obtain ⟨w',b5,cd⟩:=Fj _ _ b (b+1) fA (by omega);exact ⟨by omega,m,hm,w',b5,cd⟩
  ·obtain ⟨a,m',b2,w,c,e⟩:=h.pos fH n' v dY aG;obtain ⟨w',b5,cd⟩:=Fj _ _ w v c e;exact ⟨a,m',b2,w',b5,cd⟩
 ·rw[p7] at aG;split at aG
  ·cases aG;exact hlen.1
  ·have:=h.val _ _ _ aG;omega
 ·unfold tQ;refine YU (fun p _=> ?_) ⟨Place.mk i n,NX aq, ?_⟩
  ·rw[p7];split
   ·rename_i ax;obtain ⟨rfl,rfl⟩:=ax;cases aG:c5 d p.ak p.bm with
    |none=>simp;omega
    |some v=>have:=ab v aG;simp;omega
   ·exact aq3 _
  ·rw[p7,if_pos ⟨rfl,rfl⟩];show (b+1).toNat<((c5 d i n).getD 300).toNat;cases aG:c5 d i n with
   |none=>simp;omega
   |some v=>have:=ab v aG;simp;omega
def AM (l:List aC) (to:Int) (d:gL) (i n:Int):Prop:=i≠to->∀m∈fo l i n,∀w,c5 d (bF l i m) m=aqP w->∃x,c5 d i n=aqP x/\x<=w+1
def qm (l:List aC) (to:Int) (d:gL) (c:Bool) (S:gL->Prop) (cD:gL) (bP:Bool):Prop:=
 kE l to cD/\(∀n,c5 cD to n=c5 d to n)/\((cD=d/\bP=c/\S d)\/(bP=aqQ/\tQ l cD<tQ l d))
theorem qm.trans {l:List aC} {to:Int} {d d1 d2:gL} {c c1 c2:Bool} {S AL:gL->Prop} (h:qm l to d c S d1 c1) (k:qm l to d1 c1 AL d2 c2):qm l to d c (fun d=>S d/\AL d) d2 c2:=by
 obtain ⟨a,z,b⟩:=h;obtain ⟨e,y,f⟩:=k;refine ⟨e,fun n=>(y n).trans (z n), ?_⟩;rcases b with ⟨rfl,rfl,b⟩|⟨rfl,b⟩
 ·rcases f with ⟨rfl,rfl,f⟩|⟨rfl,f⟩
  ·exact .inl ⟨rfl,rfl,b,f⟩
  ·exact .inr ⟨rfl,f⟩
 ·rcases f with ⟨rfl,rfl,f⟩|⟨rfl,f⟩
  ·exact .inr ⟨rfl,b⟩
  ·exact .inr ⟨rfl,by omega⟩
theorem qm.imp {l:List aC} {to:Int} {d d1:gL} {c c1:Bool} {S AL:gL->Prop} (h:qm l to d c S d1 c1) (k:S d->AL d):qm l to d c AL d1 c1:=by
 obtain ⟨a,z,b⟩:=h;refine ⟨a,z, ?_⟩;rcases b with ⟨p,q,b⟩|b
 ·exact .inl ⟨p,q,k b⟩
 ·exact .inr b
theorem ajo (N:Nat) (bi:4000<=N) {l:List aC} (ai:l.length<=96) {to:Int} {d:gL} (h:kE l to d) (c:Bool) (i:Nat) {e:List Int} (he:e=cV l (i:Int)) (az:∀n∈e,0<=n) {k:Nat} (hk:k<e.length):
  ∃cD bP,H0 N l to d c i e k=aqP (cD,bP)/\qm l to d c (fun d=>AM l to d i (e[k]'hk)) cD bP:=by
 unfold H0;by_cases ae:(i:Int)=to
 ·rw[if_pos (by simpa using ae)];exact ⟨d,c,rfl,h,fun _=>rfl, .inl ⟨rfl,rfl,fun ax=>absurd ae ax⟩⟩
 ·rw[if_neg (by simpa using ae)];have au:=cI hk;simp only[cC au,al];obtain ⟨b,ok,h1,J⟩:=Xd N (l:=l) (by omega) (by omega) d (aU.mk i e[k] 0);rw[h1,al,bN,bN];simp only[] at J⊢;have hJ:=aq7 au;have ah:hN l i e[k]=fo l i e[k]:=by
   unfold hN;rw[if_neg (by have:=az _ hJ;omega)]
  rw[ah] at J;have k6:bs d (Step.mk (i:Int) e[k])=c5 d i e[k]:=rfl;rw[k6];cases ok with
  |false=>have br:Dm N b aqT ((c5 d i e[k]).getD 0) (c5 d i e[k]).isSome=aqP aqT:=rfl;rw[br,al,if_neg (by simp)];exact ⟨d,c,rfl,h,fun _=>rfl, .inl ⟨rfl,rfl,fun _ m hm w hw=>by rw[J.no rfl m hm] at hw;cases hw⟩⟩
  |true=>
   obtain ⟨aa,oR⟩:=J.yes rfl;have hB:0<=b/\b<300:=by obtain ⟨m,_,hm⟩:=aa;have:=h.oc hm;have:=h.val _ _ _ hm;have:=h.len;omega
   have hw:aq0 .i64 (b+1)=b+1:=gW (by omega) (by omega);have br:Dm N b aqQ ((c5 d i e[k]).getD 0) (c5 d i e[k]).isSome=aqP (!(c5 d i e[k]).isSome||decide (b+1<(c5 d i e[k]).getD 0)):=by unfold Dm;rw[hw];cases (c5 d i e[k]).isSome<;>simp
   rw[br,al,hw,bN];by_cases ab:(!(c5 d i e[k]).isSome||decide (b+1<(c5 d i e[k]).getD 0))=aqQ
   ·rw[if_pos ab];obtain ⟨g1,g2⟩:=h.set ai ae (by rw[<-he];exact hJ) aa (fun v ad=>by rw[ad] at ab;simpa using ab);exact ⟨_,_,rfl,g1,fun n=>by rw[p7,if_neg (fun ax=>ae ax.1)], .inr ⟨rfl,g2⟩⟩
   ·rw[if_neg ab];refine ⟨d,c,rfl,h,fun _=>rfl, .inl ⟨rfl,rfl,fun _ m hm w hw=> ?_⟩⟩;cases aG:c5 d i e[k] with
    |none=>rw[aG] at ab;simp at ab
    |some x=>rw[aG] at ab;simp at ab;have:=oR m hm w hw;exact ⟨x,rfl,by omega⟩
theorem YO (N:Nat) (bi:4000<=N) {l:List aC} (ai:l.length<=96) {to:Int} (i:Nat) {e:List Int} (he:e=cV l (i:Int)) (az:∀n∈e,0<=n):∀(k n j:Nat) (d:gL) (c:Bool),k<n->j+k=e.length->kE l to d->
  ∃cD bP,wZ N l to i e n d c j=aqP (cD,bP)/\qm l to d c (fun d=>∀m∈e.drop j,AM l to d i m) cD bP
 |k,0,j,d,c,aq,_,_=>by omega
 |0,n+1,j,d,c,aq,ar,h=>by
  obtain rfl:j=e.length:=by omega
  rw[wZ,if_neg (cw (by omega)),asd];exact ⟨d,c,rfl,h,fun _=>rfl, .inl ⟨rfl,rfl,by simp⟩⟩
 |k+1,n+1,j,d,c,aq,ar,h=>by
  have aN:j<e.length:=by omega
  have aj:e.length<=3:=by rw[he];exact lr l i
  rw[wZ,if_pos (cA (by omega))];obtain ⟨d1,c1,g1,g2⟩:=ajo N bi ai h c i he az aN;rw[g1,al,bN,dh (by omega)];obtain ⟨d2,c2,g3,g4⟩:=YO N bi ai i he az k n (j+1) d1 c1 (by omega) (by omega) g2.1;refine ⟨d2,c2,g3,(g2.trans g4).imp fun ax m hm=> ?_⟩;rw[jt (cI aN)] at hm;rcases aq6.1 hm with rfl|hm
  ·exact ax.1
  ·exact ax.2 m hm
theorem YN (N:Nat) (bi:4000<=N) {l:List aC} (bu:ef l) {to:Int}:∀(k n i:Nat) (d:gL) (c:Bool),k<n->i+k=l.length->kE l to d->
  ∃cD bP,wY N l to n d c i=aqP (cD,bP)/\qm l to d c (fun d=>∀j:Nat,i<=j->∀m∈cV l (j:Int),AM l to d j m) cD bP
 |k,0,i,d,c,aq,_,_=>by omega
 |0,n+1,i,d,c,aq,ae,h=>by
  obtain rfl:i=l.length:=by omega
  rw[wY,if_neg (cw (by omega))];exact ⟨d,c,rfl,h,fun _=>rfl, .inl ⟨rfl,rfl,fun j ar m hm=>by have:=(jb hm).2.1;omega⟩⟩
 |k+1,n+1,i,d,c,aq,ae,h=>by
  have lN:=bu.len;rw[wY,if_pos (cA (by omega)),sb,al];have aj:=lr l (i:Int);obtain ⟨d1,c1,g1,g2⟩:=YO N bi lN (to:=to) i rfl (fun n aq=>by
   obtain ⟨_,_,x,U,hm⟩:=jb aq;exact ((mE (bu.snd x (aq7 U))).2.1 _ hm).1) (cV l (i:Int)).length N 0 d c (by omega) (by omega) h
  have g1:wZ N l to i (cV l (i:Int)) N d c 0=aqP (d1,c1):=g1;rw[g1,al,bN,dh (by omega)];obtain ⟨d2,c2,g3,g4⟩:=YN N bi bu k n (i+1) d1 c1 (by omega) (by omega) g2.1;refine ⟨d2,c2,g3,(g2.trans g4).imp fun ax j ar m hm=> ?_⟩;by_cases iD:j=i
  ·subst iD;exact ax.1 m (by simpa using hm)
  ·exact ax.2 j (by omega) m hm
theorem YM (N:Nat) (bi:4000<=N) {l:List aC} (bu:ef l) {to:Int}:∀(k n:Nat) (d:gL),k+1<n->tQ l d<=k->kE l to d->
  ∃cD,zH N l to n d aqQ=aqP cD/\kE l to cD/\(∀n,c5 cD to n=c5 d to n)/\∀i m,m∈cV l i->AM l to cD i m
 |k,0,d,aq,_,_=>by omega
 |k,n+1,d,aq,hk,h=>by
  have lN:=bu.len;rw[zH,if_pos rfl];obtain ⟨d1,c1,g1,g2,g3,g4⟩:=YN N bi bu (to:=to) l.length N 0 d aqT (by omega) (by omega) h;have g1:wY N l to N d aqT 0=aqP (d1,c1):=g1;rw[g1,al];simp only[];rcases g4 with ⟨rfl,rfl,g4⟩|⟨rfl,g4⟩
  ·obtain ⟨n,rfl⟩:∃n',n=n'+1:=⟨n - 1,by omega⟩
   rw[zH,if_neg (by simp)];refine ⟨d1,rfl,h,fun _=>rfl,fun i m hm=> ?_⟩;obtain ⟨j,rfl⟩:=arw (jb hm).1;exact g4 j (by omega) m hm
  ·cases k with
   |zero=>omega
   |succ k=>obtain ⟨d2,b5,cd,dN,fD⟩:=YM N bi bu k n d1 (by omega) (by omega) g2;exact ⟨d2,b5,cd,fun n=>(dN n).trans (g3 n),fD⟩
theorem YL (N:Nat) {l:List aC} {to:Int} {e:List Int} (he:e=cV l to):∀(k n i:Nat) (d:gL),k<n->i+k=e.length->kE l to d->(∀i n v,c5 d i n=aqP v->v=0/\i=to)->(∀m∈e.take i,c5 d to m=aqP 0)->
  ∃cD,wX N to e n d i=aqP cD/\kE l to cD/\∀m∈e,c5 cD to m=aqP 0
 |k,0,i,d,aq,_,_,_,_=>by omega
 |0,n+1,i,d,aq,ae,h,aE,ao=>by
  obtain rfl:i=e.length:=by omega
  rw[wX,if_neg (cw (by omega))];rw[asq] at ao;exact ⟨d,rfl,h,ao⟩
 |k+1,n+1,i,d,aq,ae,h,aE,ao=>by
  have aN:i<e.length:=by omega
  have au:=cI aN;have aj:e.length<=3:=by rw[he];exact lr l to
  rw[wX,if_pos (cA (by omega))];simp only[cC au,al,bN];rw[dh (by omega)];have hJ:e[i]∈cV l to:=by rw[<-he];exact aq7 au
  have kp:∀fH n' v,c5 (dV d (Step.mk to e[i]) 0) fH n'=aqP v->v=0/\fH=to:=fun fH n' v aG=>by
   rw[p7] at aG;split at aG
   ·rename_i ax;cases aG;exact ⟨rfl,ax.1.symm⟩
   ·exact aE _ _ _ aG
  have hlen:0<(dV d (Step.mk to e[i]) 0).length/\((dV d (Step.mk to e[i]) 0).map ase).Nodup:=by
   cases aG:bs d (Step.mk to e[i]) with
   |none=>rw[r8 aG,ar3,arT];refine ⟨by simp,h.keys,by simp,fun x U y ag=> ?_⟩;simp at ag;subst ag;rintro rfl;obtain ⟨w,hw⟩:=ub.2 U;rw[hw] at aG;cases aG
   |some w=>
    have aX:=NV (v:=0) aG;have e2:(dV d (Step.mk to e[i]) 0).length=d.length:=by have:=congrArg List.length aX;simpa using this
    have:=h.val to _ w aG;have:=(aE _ _ _ aG).1;exact ⟨by omega,by rw[aX];exact h.keys⟩
  refine YL N he k n (i+1) _ (by omega) (by omega) ⟨fun fH n' v aG=> ?_,fun n' v aG=>(kp _ _ _ aG).1,fun fH n' v dY aG=>absurd (kp _ _ _ aG).2 dY,fun fH n' v aG=>by have:=(kp _ _ _ aG).1;omega,hlen.2⟩ kp fun m hm=> ?_
  ·rw[p7] at aG;split at aG
   ·rename_i ax;obtain ⟨rfl,rfl⟩:=ax;exact hJ
   ·exact h.key _ _ _ aG
  ·rw[l0 au] at hm;rw[p7];split
   ·rfl
   ·rcases arc.1 hm with hm|hm
    ·exact ao m hm
    ·simp at hm;subst hm;rename_i ax;exact absurd ⟨rfl,rfl⟩ ax
structure rk (l:List aC) (to:Int) (d:gL):Prop where
 mJ:kE l to d
 zero:∀m∈cV l to,c5 d to m=aqP 0
 aO:∀i m,m∈cV l i->AM l to d i m
theorem ago (N:Nat) (bi:100000<=N) {l:List aC} (bu:ef l) (to:Int):∃d,IX N l to=aqP d/\rk l to d:=by
 unfold IX;rw[sb,al];have aj:=lr l to;obtain ⟨d,h1,J,aM⟩:=YL N (l:=l) (to:=to) rfl (cV l to).length N 0 [] (by omega) (by omega) ⟨by simp[c5,bs],by simp[c5,bs],by simp[c5,bs],by simp[c5,bs],by simp⟩ (by simp[c5,bs]) (by simp);have h1:wX N to (cV l to) N [] 0=aqP d:=h1;rw[h1,al];have hm:=am2 J bu.len;obtain ⟨cD,g1,g2,g3,g4⟩:=YM N (by omega) bu 90000 N d (by omega) hm J;rw[g1,al];exact ⟨cD,rfl,g2,fun m hm=>by rw[g3];exact aM m hm,g4⟩
theorem rk.next {l:List aC} {to:Int} {d:gL} (h:rk l to d) {i n v:Int} (ae:i≠to) (aG:c5 d i n=aqP v):∃m∈fo l i n,c5 d (bF l i m) m=aqP (v - 1):=by
 obtain ⟨a,m,hm,w,hw,aN⟩:=h.mJ.pos i n v ae aG;obtain ⟨x,U,lV⟩:=h.aO i n (h.mJ.key _ _ _ aG) ae m hm w hw;rw[aG] at U;cases U;exact ⟨m,hm,by rw[hw];congr 1;omega⟩
end Go.W
end
section
namespace Go.W
open Go.aS
structure AH (l:List aC) (d:gL) (v:Int) (b:Int) (q:List Int) (out e:Int):Prop where
 no:e<0->∀m∈q,c5 d (bF l v m) m≠aqP b
 yes:0<=e->out∈q/\e=bF l v out/\c5 d e out=aqP b/\∀m∈q,c5 d (bF l v m) m=aqP b->e<bF l v m\/(e=bF l v m/\out<=m)
theorem V0 (N:Nat) {l:List aC} (bi:l.length+10<=N) (ai:l.length<=1000000) {to:Int} {d:gL} (aB:kE l to d) {b:Int} {o:List Int} (ah:o.length<=1000) {iR zZ:Int}:∀(k n i:Nat) (out e:Int),k<n->i+k=o.length->AH l d iR b (o.take i) out e->
  ∃oe bw,xa N l d b o n (aU.mk iR zZ out) e i=aqP (aU.mk iR zZ oe,bw)/\AH l d iR b o oe bw
 |k,0,i,out,e,aq,_,_=>by omega
 |0,n+1,i,out,e,aq,ae,cb=>by
  obtain rfl:i=o.length:=by omega
  rw[xa,if_neg (cw (by omega))];rw[asq] at cb;exact ⟨_,_,rfl,cb⟩
 |k+1,n+1,i,out,e,aq,ae,cb=>by
  have aN:i<o.length:=by omega
  have au:=cI aN;have gC:=l0 au;rw[xa,if_pos (cA (by omega))];have key:∃oe bw,HV N l d (aU.mk iR zZ out) b o e i=aqP (aU.mk iR zZ oe,bw)/\AH l d iR b (o.take (i+1)) oe bw:=by
   unfold HV;simp only[cC au,al];rw[wu N (by omega) ai,al,bN,bN];have k6:bs d (Step.mk (bF l iR o[i]) o[i])=c5 d (bF l iR o[i]) o[i]:=rfl;rw[k6];have keep:(c5 d (bF l iR o[i]) o[i]=aqP b->0<=e/\(e<bF l iR o[i]\/(e=bF l iR o[i]/\out<=o[i])))->AH l d iR b (o.take (i+1)) out e:=by
    intro hk;refine ⟨fun he m hm=> ?_,fun he=> ?_⟩
    ·rw[gC] at hm;rcases arc.1 hm with hm|hm
     ·exact cb.no he m hm
     ·simp at hm;subst hm;intro ax;have:=(hk ax).1;omega
    ·obtain ⟨p,q,r,s⟩:=cb.yes he;refine ⟨by rw[gC];exact as8 _ p,q,r,fun m hm fA=> ?_⟩;rw[gC] at hm;rcases arc.1 hm with hm|hm
     ·exact s m hm fA
     ·simp at hm;subst hm;exact (hk fA).2
   have Qt:c5 d (bF l iR o[i]) o[i]=aqP b->(0<=e->bF l iR o[i]<e\/(bF l iR o[i]=e/\o[i]<out))->AH l d iR b (o.take (i+1)) o[i] (bF l iR o[i]):=by
    intro aG hk;have aI:=(jb (aB.key _ _ _ aG)).1;refine ⟨fun he=>by omega,fun _=>⟨by rw[gC];exact ato _ (by simp),rfl,aG,fun m hm fA=> ?_⟩⟩;rw[gC] at hm;rcases arc.1 hm with hm|hm
    ·by_cases he:e<0
     ·exact absurd fA (cb.no he m hm)
     ·have:=hk (by omega);obtain ⟨p,q,r,s⟩:=cb.yes (by omega);have:=s m hm fA;omega
    ·simp at hm;subst hm;omega
   cases aG:c5 d (bF l iR o[i]) o[i] with
   |none=>have aM:HW N (aU.mk iR zZ out) b o e i (bF l iR o[i]) ((aqS:Option Int).getD 0) (aqS:Option Int).isSome=aqP aqT:=rfl;rw[aM,al,if_neg (by simp)];exact ⟨out,e,rfl,keep fun ax=>by rw[aG] at ax;cases ax⟩
   |some w=>
    unfold HW;simp only[at9,asg,if_true,cC au,al];by_cases hw:w=b
    ·subst hw;rw[if_pos (by simp)];by_cases he:e<0
     ·rw[if_pos (cA he),al,if_pos rfl];exact ⟨_,_,rfl,Qt aG fun ax=>by omega⟩
     ·rw[if_neg (cw he)];by_cases h1:bF l iR o[i]<e
      ·rw[if_pos (cA h1),al,if_pos rfl];exact ⟨_,_,rfl,Qt aG fun ax=> .inl h1⟩
      ·rw[if_neg (cw h1)];by_cases J:bF l iR o[i]=e
       ·rw[if_pos (by simpa using J),al];by_cases aj:o[i]<out
        ·rw[if_pos (cA aj)];exact ⟨_,_,rfl,Qt aG fun ax=> .inr ⟨J,aj⟩⟩
        ·rw[if_neg (cw aj)];exact ⟨_,_,rfl,keep fun ax=>⟨by omega, .inr ⟨J.symm,by omega⟩⟩⟩
       ·rw[if_neg (by simpa using J),al,if_neg (by simp)];exact ⟨_,_,rfl,keep fun ax=>⟨by omega, .inl (by omega)⟩⟩
    ·rw[if_neg (by simpa using hw),al,if_neg (by simp)];exact ⟨_,_,rfl,keep fun ax=>by rw[aG] at ax;cases ax;exact absurd rfl hw⟩
  obtain ⟨oe,bw,g1,g2⟩:=key;rw[g1,al,bN,dh (by omega)];exact V0 N bi ai aB ah k n (i+1) _ _ (by omega) (by omega) g2
theorem agw {ap:Type} (r:List ap) (a b:ap):(r++[a]).set r.length b=r++[b]:=by
 induction r with
 |nil=>rfl
 |cons x r a8=>simp[a8]
theorem VY (N:Nat) (bi:100000<=N) {l:List aC} (bu:ef l) {d:gL} {fr to:Int} (dK:rk l to d):∀(k n:Nat) (r:List aU) (v:aU),k<n->
  ji l (c5 d) fr (r++[aU.mk v.ak v.bm (-1)])->(b4 r).Nodup->(r≠[]->c5 d v.ak v.bm=aqP (k:Int))->(∀m∈hN l v.ak v.bm,∀w,c5 d (bF l v.ak m) m=aqP w->(k:Int) - 1<=w)->r.length+k<=1000->(hN l v.ak v.bm=cV l v.ak\/hN l v.ak v.bm=fo l v.ak v.bm/\r≠[])->(r=[]->hN l v.ak v.bm=cV l v.ak)->
  ((∃m∈hN l v.ak v.bm,c5 d (bF l v.ak m) m=aqP ((k:Int) - 1))\/(k=0/\v.ak=to))->
  (w9 N l d n v ((k:Int) - 1) r=aqP (.inr 17)/\∃nz,ji l (c5 d) fr nz/\¬(b4 nz).Nodup)\/∃hv bl,w9 N l d n v ((k:Int) - 1) r=aqP (.inl (bl,hv))/\ji l (c5 d) fr (hv++[aU.mk bl.ak bl.bm (-1)])/\(b4 hv).Nodup/\hv.length=r.length+k/\bl.ak=to/\(hv≠[]->c5 d bl.ak bl.bm=aqP 0)
 |k,0,r,v,aq,_,_,_,_,_,_,_,_=>by omega
 |0,n+1,r,v,aq,an,aB,ad,Ux,ai,ah,acE,aG=>by
  rw[w9,if_neg (n9 (by omega))];refine .inr ⟨r,v,rfl,an,aB,rfl, ?_,ad⟩;rcases aG with ⟨m,hm,aG⟩|⟨_,aG⟩
  ·have:=dK.mJ.oc aG;omega
  ·exact aG
 |k+1,n+1,r,v,aq,an,aB,ad,Ux,ai,ah,acE,aG=>by
  have lN:=bu.len;have aj:=WN l v.ak v.bm;rw[w9,if_pos (nn (by omega)),Xe N (by omega),al];obtain ⟨out,e,g1,g2⟩:=V0 N (l:=l) (by omega) (by omega) dK.mJ (b:=((k+1:Nat):Int) - 1) (o:=hN l v.ak v.bm) (by omega) (iR:=v.ak) (zZ:=v.bm) (hN l v.ak v.bm).length N 0 (-1) (-1) (by omega) (by omega) ⟨fun _ m hm=>by simp at hm,fun h=>by omega⟩;have g1:xa N l d (((k+1:Nat):Int) - 1) (hN l v.ak v.bm) N (aU.mk v.ak v.bm (-1)) (-1) 0=aqP (aU.mk v.ak v.bm out,e):=g1;simp only[];rw[g1,al];simp only[];rw[y8 N (by omega) (by omega),al];by_cases ab:(b4 r).contains v.ak=aqQ
  ·rw[if_pos ab];refine .inl ⟨rfl,_,an,fun ax=> ?_⟩;unfold b4 at ax ab;rw[ar3,arT] at ax;exact ax.2.2 v.ak (by simpa using ab) v.ak (by simp) rfl
  ·rw[if_neg ab,hj (by simp;omega),al,bN,gW (by omega) (by omega)];have aG:∃m∈hN l v.ak v.bm,c5 d (bF l v.ak m) m=aqP (((k+1:Nat):Int) - 1):=by
    rcases aG with aG|⟨aG,_⟩
    ·exact aG
    ·omega
   have rI:0<=e:=by
    by_cases h:e<0
    ·obtain ⟨m,hm,gP⟩:=aG;exact absurd gP (g2.no h m hm)
    ·omega
   obtain ⟨b5,cd,dN,fD⟩:=g2.yes rI;have fz:=dK.mJ.key _ _ _ dN;have lQ:out∈cV l v.ak:=by
    rcases ah with h|⟨h,_⟩
    ·rw[h] at b5;exact b5
    ·rw[h] at b5;exact (wv b5).2
   have qD:(r++[aU.mk v.ak v.bm (-1)])[(r++[aU.mk v.ak v.bm (-1)]).length - 1]? =aqP (aU.mk v.ak v.bm (-1)):=by simp
   have mv:=an.add qD (out:=out) (by rw[cd] at rI;exact rI) lQ (fun ax=>by
    have ca:r≠[]:=by rintro rfl;simp at ax
    rcases ah with h|⟨h,_⟩
    ·by_cases ae:v.bm<0
     ·exfalso;obtain ⟨j,ar⟩:∃j,r.length=j+1:=⟨r.length - 1,by have:=List.length_pos_iff.2 ca;omega⟩
      have c4:(r++[aU.mk v.ak v.bm (-1)])[j+1]? =aqP (aU.mk v.ak v.bm (-1)):=by rw[are (by omega)];simp[ar]
      have a0:=cI (xs:=r++[aU.mk v.ak v.bm (-1)]) (i:=j) (by simp;omega);obtain ⟨ff,gA,mS,qp⟩:=an.step j _ _ a0 c4;obtain ⟨_,_,x,U,hm⟩:=jb qp;have:=((mE (bu.snd x (aq7 U))).2.1 _ hm).1;simp only at ff;omega
     ·unfold hN at b5;rw[if_neg ae] at b5;exact b5
    ·rw[h] at b5;exact b5) ⟨b5,((k+1:Nat):Int) - 1,by rw[<-cd];exact dN,fun m hm w hw=>by
    have h1:=Ux m hm w hw;unfold oo;by_cases adq:w=((k+1:Nat):Int) - 1
    ·have:=fD m hm (by rw[hw,adq]);rw[<-cd];simp only at this⊢;omega
    ·rw[<-cd];simp only at h1⊢;omega⟩ (fun ax=>by
    have ca:r≠[]:=by rintro rfl;simp at ax
    rw[show (aU.mk v.ak v.bm (-1)).ak=v.ak from rfl,ad ca];intro mq;have:=ark.inj mq;omega)
   have acm:(r++[aU.mk v.ak v.bm (-1)]).length - 1=r.length:=by simp
   rw[acm,agw] at mv;simp only at mv;rw[<-cd] at mv;have ab9:¬out<0:=by obtain ⟨_,_,x,U,hm⟩:=jb fz;have:=((mE (bu.snd x (aq7 U))).2.1 _ hm).1;omega
   have ig:hN l e out=fo l e out:=by unfold hN;rw[if_neg ab9]
   have rJ:(((k+1:Nat):Int) - 1 - 1)=(k:Int) - 1:=by omega
   rw[rJ];have a8:=VY N bi bu dK k n (r++[aU.mk v.ak v.bm out]) (aU.mk e out 0) (by omega) mv (by
    unfold b4 at aB ab⊢;rw[ar3,arT];refine ⟨aB,by simp,fun x U y ag=> ?_⟩;simp at ag;subst ag;rintro rfl;exact ab (by simpa using U)) (fun _=>by
    show c5 d e out=aqP (k:Int);rw[dN];congr 1;omega) (fun m hm w hw=>by
    have hm:m∈fo l e out:=by rw[<-ig];exact hm
    by_cases he:e=to
    ·subst he;have h1:=dK.mJ.Iw _ _ dN;have J:=dK.mJ.oc hw;omega
    ·obtain ⟨x,U,lV⟩:=dK.aO e out fz he m hm w hw;rw[dN] at U;cases U;omega) (by simp;omega) (.inr ⟨ig,by simp⟩) (fun ax=>by simp at ax) (by
    by_cases he:e=to
    ·right;subst he;have:=dK.mJ.Iw _ _ dN;exact ⟨by omega,rfl⟩
    ·left;obtain ⟨m,hm,gP⟩:=dK.next he dN;refine ⟨m,by rw[ig];exact hm, ?_⟩;rw[gP];exact congrArg aqP (by omega))
   rcases a8 with a8|⟨hv,bl,i1,i2,i3,i4,i5,i6⟩
   ·exact .inl a8
   ·exact .inr ⟨hv,bl,i1,i2,i3,by rw[i4];simp;omega,i5,i6⟩
theorem V6 {l:List aC} {to:Int} {d:gL} (dK:rk l to d) {w:List aU} (cr:ke l w) (he:∀v,w[w.length - 1]? =aqP v->v.ak=to):
  ∀(k i:Nat) (v:aU),i+k=w.length - 1->1<=i->w[i]? =aqP v->∃x,c5 d v.ak v.bm=aqP x/\x<=k
 |0,i,v,ae,h1,ad=>by
  have dY:i=w.length - 1:=by omega
  have hZ:=he v (by rw[<-dY];exact ad);have fz:=cr.ins (by omega) ad;rw[hZ] at fz;exact ⟨0,by rw[hZ];exact dK.zero _ fz,by omega⟩
 |k+1,i,v,ae,h1,ad=>by
  have adf:=cr.two;have fz:=cr.ins (by omega) ad;by_cases hZ:v.ak=to
  ·rw[hZ] at fz;exact ⟨0,by rw[hZ];exact dK.zero _ fz,by omega⟩
  ·have hu:=cI (xs:=w) (i:=i+1) (by omega);obtain ⟨x,U,lV⟩:=V6 dK cr he k (i+1) _ (by omega) (by omega) hu;obtain ⟨a,b,c⟩:=cr.step i v _ ad hu;rw[c,a] at U;obtain ⟨y,ag,yI⟩:=dK.aO v.ak v.bm fz hZ v.out (cr.mid i v (by omega) (by omega) ad) x U;exact ⟨y,ag,by omega⟩
theorem NL (N:Nat) (bi:100000<=N) {l:List aC} (bu:ef l) (fr to:Int):
  (nH N l fr to=aqP ([],2)/\(¬fp l fr\/¬fp l to\/fr=to))\/(fp l fr/\fp l to/\fr≠to/\
   ∃d,rk l to d/\((nH N l fr to=aqP ([],15)/\∀m∈cV l fr,c5 d (bF l fr m) m=aqS)\/(nH N l fr to=aqP ([],17)/\∃nz,ji l (c5 d) fr nz/\¬(b4 nz).Nodup/\∃m∈cV l fr,c5 d (bF l fr m) m≠aqS)\/∃r,nH N l fr to=aqP (r,0)/\(ji l (c5 d) fr r/\∀z,r[r.length - 1]? =aqP z->c5 d z.ak z.bm=aqP 0/\z.out= -1)/\jC l r/\r.length<=2000/\(∀v,r[0]? =aqP v->v.ak=fr)/\(∀v,r[r.length - 1]? =aqP v->v.ak=to)/\
    ∀w,ke l w->(∀v,w[0]? =aqP v->v.ak=fr)->(∀v,w[w.length - 1]? =aqP v->v.ak=to)->r.length<=w.length)):=by
 unfold nH;rw[bu.r N (by omega),al,if_neg (by simp)];have aI:∃b,HU N l fr to=aqP b/\(b=aqT↔fp l fr/\fp l to/\fr≠to):=by unfold HU;simp only[Yk,al];exact lp uk (lp uk ⟨_,rfl,by simp⟩)
 obtain ⟨b,h1,J⟩:=aI;rw[h1,al];cases b with
 |true=>
  rw[if_pos rfl];refine .inl ⟨rfl, ?_⟩;by_cases a:fp l fr
  ·by_cases c:fp l to
   ·right;right;by_cases e:fr=to
    ·exact e
    ·have:=J.2 ⟨a,c,e⟩;cases this
   ·exact .inr (.inl c)
  ·exact .inl a
 |false=>
  rw[if_neg (by simp)];obtain ⟨t1,t2,t3⟩:=J.1 rfl;obtain ⟨d,g1,g2⟩:=ago N bi bu to;have lN:=bu.len;have Bn:=g2.mJ.len;obtain ⟨b,ok,b5,cd⟩:=Xd N (l:=l) (by omega) (by omega) d (aU.mk fr (-1) 0);rw[g1,al,b5,al];simp only[] at cd⊢;refine .inr ⟨t1,t2,t3,d,g2, ?_⟩;have ah:hN l fr (-1)=cV l fr:=by unfold hN;rw[if_pos (by omega)]
  rw[ah] at cd;cases ok with
  |false=>exact .inl ⟨if_pos rfl,cd.no rfl⟩
  |true=>
   right;rw[if_neg (by simp)];obtain ⟨aa,oR⟩:=cd.yes rfl;have hY:0<=b/\b<300:=by obtain ⟨m,_,hm⟩:=aa;have:=g2.mJ.oc hm;have:=g2.mJ.val _ _ _ hm;omega
   obtain ⟨k,hk⟩:=arw (show 0<=b+1 by omega);have vo:b=(k:Int) - 1:=by omega
   have ai:=VY N bi bu g2 (fr:=fr) k N [] (aU.mk fr (-1) 0) (by omega)
    ⟨fun i v ae=>by simp at ae,fun i v ae hs=>by simp at hs,by simp,fun v ad=>by simp at ad;subst ad;exact ⟨rfl,rfl⟩,fun i v w ad hw=>by simp at hw,fun i v ae hs ad=>by simp at hs⟩ (by simp[b4]) (fun h=>absurd rfl h) (fun m hm w hw=>by rw[<-vo];exact oR m (by rw[<-ah];exact hm) w hw) (by simp;omega) (.inl ah) (fun _=>ah) (.inl (by rw[<-vo];simp only[];rw[ah];exact aa))
   rw[vo];have hex:∃m∈cV l fr,c5 d (bF l fr m) m≠aqS:=by obtain ⟨m,hm,gP⟩:=aa;exact ⟨m,hm,by rw[gP];simp⟩
   rcases ai with ⟨ai,nz,dm,ei⟩|⟨hv,bl,i1,i2,i3,i4,i5,i6⟩
   ·rw[ai,al];exact .inl ⟨rfl,nz,dm,ei,hex⟩
   ·rw[i1,al];simp only[];have hlen:hv.length=k:=by rw[i4];simp
    rw[y8 N (by omega) (by omega),al];by_cases ab:(b4 hv).contains to=aqQ
    ·rw[if_pos ab];refine .inl ⟨rfl,_,i2,fun ax=> ?_,hex⟩;unfold b4 at ax ab;rw[ar3,arT] at ax;exact ax.2.2 to (by simpa using ab) to (by simp[i5]) rfl
    ·rw[if_neg ab,hj (by simp;omega),al];right;have he:aU.mk bl.ak bl.bm (-1)=aU.mk to bl.bm (-1):=by rw[i5]
     rw[he] at i2;have rJ:1<=k:=by omega
     have aE:∀v,(hv++[aU.mk to bl.bm (-1)])[(hv++[aU.mk to bl.bm (-1)]).length - 1]? =aqP v->v=aU.mk to bl.bm (-1):=fun v ad=>by simp at ad;exact ad.symm
     refine ⟨_,rfl,⟨i2,fun y ag=>by
      rw[aE y ag];refine ⟨?_,rfl⟩;have dt:=i6 (by rintro rfl;simp at hlen;omega);rw[i5] at dt;exact dt⟩,⟨bu.err,⟨by simp;omega,fun v ad=> ?_,fun v ad=> ?_,fun i v w ad hw=> ?_,i2.mid⟩, ?_⟩,by simp;omega,fun v ad=>(i2.aO v ad).1,fun v ad=>by rw[aE v ad],fun w cr aP he=> ?_⟩
     ·obtain ⟨a,kH⟩:=i2.aO v ad;have:=i2.step 0 v _ ad (cI (xs:=hv++[aU.mk to bl.bm (-1)]) (i:=1) (by simp;omega));exact ⟨by rw[a];exact t1,kH,this.2.2.2⟩
     ·rw[aE v ad];exact ⟨t2,rfl⟩
     ·obtain ⟨a,kH,c,mm⟩:=i2.step i v w ad hw;exact ⟨a,kH,c⟩
     ·unfold b4 at i3 ab⊢;rw[ar3,arT];refine ⟨i3,by simp,fun x U y ag=> ?_⟩;simp at ag;subst ag;rintro rfl;exact ab (by simpa using U)
     ·have adf:=cr.two;have de:=cI (xs:=w) (i:=0) (by omega);have cN:=cI (xs:=w) (i:=1) (by omega);obtain ⟨x,U,lV⟩:=V6 g2 cr he (w.length - 2) 1 _ (by omega) (by omega) cN;obtain ⟨p,q,xk⟩:=cr.step 0 _ _ de cN;have j9:=(cr.aO _ de).2.2;rw[aP _ de] at j9;rw[xk,p,aP _ de] at U;have:=oR _ j9 x U;simp;omega
theorem agr (N:Nat) (bi:100000<=N) {l:List aC} (bu:ef l) (fr to:Int):
  (nH N l fr to=aqP ([],2)/\(¬fp l fr\/¬fp l to\/fr=to))\/(fp l fr/\fp l to/\fr≠to/\
   (nH N l fr to=aqP ([],15)\/nH N l fr to=aqP ([],17)\/∃r,nH N l fr to=aqP (r,0)/\jC l r/\r.length<=2000/\(∀v,r[0]? =aqP v->v.ak=fr)/\(∀v,r[r.length - 1]? =aqP v->v.ak=to)/\
    ∀w,ke l w->(∀v,w[0]? =aqP v->v.ak=fr)->(∀v,w[w.length - 1]? =aqP v->v.ak=to)->r.length<=w.length)):=by
 rcases NL N bi bu fr to with h|⟨a,b,c,d,_,h⟩
 ·exact .inl h
 ·refine .inr ⟨a,b,c, ?_⟩;rcases h with ⟨h,_⟩|⟨h,_⟩|⟨r,h1,_,J⟩
  ·exact .inl h
  ·exact .inr (.inl h)
  ·exact .inr (.inr ⟨r,h1,J⟩)
end Go.W
end
section
namespace Go.W
open Go.aS
def sX (x:aC) (v:aU):List aW:=
 if x.kind=3 then [aW.mk v.ak 3] else if x.kind=2 then (if v.bm=x.b\/v.out=x.b then [aW.mk v.ak 1] else [aW.mk v.ak 2]) else []
def pn (l:List aC) (v:aU):List aW:=match l[v.ak.toNat]? with|some x=>sX x v|none=>[]
def h3 (l:List aC) (r:List aU):List aW:=r.flatMap (pn l)
theorem agu (x:aC) (v:aU):(sX x v).length<=1:=by
 unfold sX;split
 ·simp
 ·split
  ·split<;>simp
  ·simp
theorem O4 {l:List aC} {v:aU} {s:aW} (h:s∈pn l v):s.ak=v.ak:=by
 unfold pn at h;split at h
 ·unfold sX at h;split at h
  ·simp at h;subst h;rfl
  ·split at h
   ·split at h<;>(simp at h;subst h;rfl)
   ·simp at h
 ·simp at h
theorem Oh (l:List aC) (v:aU):(pn l v).length<=1:=by
 unfold pn;split
 ·exact agu _ _
 ·simp
theorem NF (l:List aC):∀(r:List aU),(h3 l r).length<=r.length
 |[]=>by simp[h3]
 |v::r=>by have:=NF l r;have h1:=Oh l v;unfold h3 at*;rw[ash,ari,arr];omega
theorem amF (N:Nat) {l:List aC} {r:List aU} {i:Nat} {v:aU} (ad:r[i]? =aqP v) (aI:0<=v.ak) (h1:v.ak<l.length) {acc:List aW} (au:acc.length<=1000000):HZ N l acc r i=aqP (acc++pn l v):=by
 obtain ⟨j,ar⟩:=arw aI;have gj:=cI (xs:=l) (i:=j) (by omega);unfold HZ pn;have aG:aR l v.ak=aqP (l[j]'(by omega)):=by rw[ar];exact cC gj
 have qC:l[v.ak.toNat]? =aqP (l[j]'(by omega)):=by rw[ar,arZ];exact gj
 rw[cC ad,al,aG,al,bN,qC];generalize l[j]'(by omega)=x at*;simp only[];unfold sX;by_cases aj:x.kind=3
 ·rw[if_pos (by simpa using aj),if_pos aj,hj (by simp;omega),al]
 ·rw[if_neg (by simpa using aj),if_neg aj];by_cases J:x.kind=2
  ·have vJ:zF N v x=aqP (decide (v.bm=x.b\/v.out=x.b)):=by
    unfold zF;rw[if_pos (by simpa using J)];by_cases a:v.bm=x.b
    ·rw[if_pos (by simpa using a)];simp[a]
    ·rw[if_neg (by simpa using a),bN];congr 1;exact arV.2 (by simp[a])
   rw[vJ,al,if_pos J];by_cases aa:v.bm=x.b\/v.out=x.b
   ·rw[if_pos (by simpa using aa),if_pos aa,hj (by simp;omega),al]
   ·rw[if_neg (by simpa using aa),if_neg aa,bN,if_pos (by simpa using J),hj (by simp;omega),al]
  ·have vJ:zF N v x=aqP aqT:=by
    unfold zF;rw[if_neg (by simpa using J)]
   rw[vJ,al,if_neg (by simp),bN,if_neg (by simpa using J),if_neg J,asN]
theorem WS (N:Nat) {l:List aC} {r:List aU} (aw:∀v∈r,0<=v.ak/\v.ak<l.length) (ai:r.length<=100000):∀(k n i:Nat) (acc:List aW),k<n->i+k=r.length->acc.length<=i->q1 N l r r.length n acc i=aqP (acc++h3 l (r.drop i))
 |k,0,i,acc,aq,_,_=>by omega
 |0,n+1,i,acc,aq,ae,au=>by
  obtain rfl:i=r.length:=by omega
  rw[q1,if_neg (cw (by omega)),asd];simp[h3]
 |k+1,n+1,i,acc,aq,ae,au=>by
  have aN:i<r.length:=by omega
  have ad:=cI aN;obtain ⟨aI,h1⟩:=aw _ (aq7 ad);have J:=Oh l r[i];rw[q1,if_pos (cA (by omega)),amF N ad aI h1 (by omega),al,dh (by omega),WS N aw ai k n (i+1) _ (by omega) (by omega) (by simp;omega),jt ad];unfold h3;rw[ash,asM]
theorem ke.ok {l:List aC} {r:List aU} (h:ke l r):∀v∈r,0<=v.ak/\v.ak<l.length:=by
 intro v ad;obtain ⟨i,ae⟩:=arM ad;have aN:=(aqZ.1 ae).1;have two:=h.two;by_cases aI:i+1<r.length
 ·have:=jb (h.outs aI ae);exact ⟨this.1,this.2.1⟩
 ·have:=jb (h.ins (by omega) ae);exact ⟨this.1,this.2.1⟩
instance instSet:Inhabited aW:=⟨aW.mk 0 0⟩
noncomputable def lv (q:List aW):List aW:= @gK aW instSet (fun (a b:aW)=>fU a.ak b.ak) q
theorem Wf (N:Nat) (bi:4000<=N) {l:List aC} (bu:ef l) {r:List aU} (aw:jC l r) (ai:r.length<=3000):s7 N l r=aqP (lv (h3 l r),0):=by
 obtain ⟨b,h1,_,aj⟩:=ahP N bi bu (w:=r) ai;unfold s7;rw[h1,al,aj.2 aw,if_neg (by simp)];have h:=WS N (l:=l) (r:=r) aw.2.1.ok (by omega) r.length N 0 [] (by omega) (by omega) (by simp);have h:q1 N l r r.length N [] 0=aqP (h3 l r):=h;have:=NF l r;rw[h,al];unfold ka;rw[if_pos (by omega),al];rfl
theorem Ci {q:List aW} {x:aW}:x∈lv q↔x∈q:=(@y6 aW instSet (fun (a b:aW)=>fU a.ak b.ak) (qT aW.ak) q).mem_iff
theorem Wa (q:List aW):(lv q).length=q.length:=(@y6 aW instSet (fun (a b:aW)=>fU a.ak b.ak) (qT aW.ak) q).length_eq
theorem y5 {q:List aW} (h:(q.map aW.ak).Nodup):(lv q).Pairwise fun a b=>a.ak<b.ak:=by
 have h1:(lv q).Pairwise fun a b=>a.ak<=b.ak:= @Ni aW instSet aW.ak q;have an:(lv q).Perm q:= @y6 aW instSet (fun (a b:aW)=>fU a.ak b.ak) (qT aW.ak) q;have J:((lv q).map aW.ak).Nodup:=(an.map aW.ak).nodup_iff.2 h;rw[aun,atp] at J;exact (h1.and J).imp fun ⟨a,b⟩=>by omega
theorem Ge:∀{a b:List aW},a.Pairwise (fun x y=>x.ak<y.ak)->b.Pairwise (fun x y=>x.ak<y.ak)->(∀x,x∈a↔x∈b)->a=b
 |[],[],_,_,_=>rfl
 |[],y::b,_,_,h=>by have:=(h y).2 arn;cases this
 |x::a,[],_,_,h=>by have:=(h x).1 arn;cases this
 |x::a,y::b,h1,J,h=>by
  rw[at'] at h1 J;have lg:x=y:=by
   rcases aq6.1 ((h x).1 arn) with e|e
   ·exact e
   ·rcases aq6.1 ((h y).2 arn) with f|f
    ·exact f.symm
    ·have:=J.1 _ e;have:=h1.1 _ f;omega
  subst lg;congr 1;refine Ge h1.2 J.2 fun z=>⟨fun aE=> ?_,fun aE=> ?_⟩
  ·rcases aq6.1 ((h z).1 (ard _ aE)) with e|e
   ·have:=h1.1 _ aE;rw[e] at this;omega
   ·exact e
  ·rcases aq6.1 ((h z).2 (ard _ aE)) with e|e
   ·have:=J.1 _ aE;rw[e] at this;omega
   ·exact e
theorem F5 (l:List aC):∀(r:List aU),((h3 l r).map aW.ak).Sublist (b4 r)
 |[]=>by simp[h3,b4]
 |v::r=>by
  have a8:=F5 l r;have h1:=Oh l v;have J:=fun s=>O4 (l:=l) (v:=v) (s:=s);unfold h3 b4 at*;rw[ash,ar3,arG];generalize pn l v=q at*
  match q,h1 with
  |[],_=>exact (List.Sublist.cons _ a8)
  |[s],_=>have:=J s (by simp);simp only[arG,ate,List.cons_append,asj];rw[this];exact List.Sublist.cons_cons _ a8
end Go.W
end
section
namespace Go.W
open Go.aS
theorem XS {l:List aC} (bu:ef l) {to:Int} {d:iz} {k0:gL} (aE:∀m∈cV l to,bs d (Place.mk to m)=aqP 0) (bO:e8 l d) (bp:rk l to k0):∀(k:Nat) (i n:Int),c5 k0 i n=aqP (k:Int)->∃w,bs d (Place.mk i n)=aqP w/\w<=k
 |k,i,n,h=>by
  have hk:=bp.mJ.key _ _ _ h;by_cases ae:i=to
  ·subst ae;exact ⟨0,aE _ hk,by omega⟩
  ·obtain ⟨m,hm,aG⟩:=bp.next ae h;have aI:=bp.mJ.oc aG;cases k with
   |zero=>omega
   |succ k=>
    have Bs:c5 k0 (bF l i m) m=aqP (k:Int):=by rw[aG];exact congrArg aqP (by omega)
    obtain ⟨w,hw,lU⟩:=XS bu aE bO bp k _ _ Bs;have BI:=(jb (bp.mJ.key _ _ _ aG)).1;have FA:=bu.yS (wv hm).2 BI;obtain ⟨x,U,lV⟩:=bO _ w hw n (by simp only[FA];exact (bu.Qu hm).1);simp only[FA] at U;exact ⟨x,U,by omega⟩
theorem OP {l:List aC} {to:Int} {d:iz} {k0:gL} (dK:ia l to d) (bp:rk l to k0):∀(k:Nat) (i n:Int),bs d (Place.mk i n)=aqP (k:Int)->∃w,c5 k0 i n=aqP w/\w<=k
 |0,i,n,h=>by have hk:=dK.key _ _ h;have ae:=dK.zero (Place.mk i n) h;simp only at ae hk;subst ae;exact ⟨0,bp.zero _ hk,by omega⟩
 |k+1,i,n,h=>by
  have hk:=dK.key _ _ h;simp only at hk;obtain ⟨_,m,hm,aG⟩:=dK.pos _ _ h (by omega);have Bs:bs d (Place.mk (bF l i m) m)=aqP (k:Int):=by have:jl l i m=Place.mk (bF l i m) m:=rfl;rw[<-this,aG];exact congrArg aqP (by omega)
  obtain ⟨w,hw,lU⟩:=OP dK bp k _ _ Bs;by_cases ae:i=to
  ·subst ae;exact ⟨0,bp.zero _ hk,by omega⟩
  ·obtain ⟨x,U,lV⟩:=bp.aO i n hk ae m hm w hw;exact ⟨x,U,by omega⟩
theorem ahb {l:List aC} (bu:ef l) {to:Int} {d:iz} {k0:gL} (dK:ia l to d) (aE:∀m∈cV l to,bs d (Place.mk to m)=aqP 0) (bO:e8 l d) (bp:rk l to k0):(fun i n=>bs d (Place.mk i n))=c5 k0:=by
 funext i n;show bs d (Place.mk i n)=c5 k0 i n;cases h1:c5 k0 i n with
 |some v=>obtain ⟨k,rfl⟩:=arw (bp.mJ.oc h1);obtain ⟨w,hw,lU⟩:=XS bu aE bO bp k i n h1;obtain ⟨j,rfl⟩:=arw (dK.oc hw);obtain ⟨x,U,lV⟩:=OP dK bp j i n hw;rw[h1] at U;cases U;rw[hw];exact congrArg aqP (by omega)
 |none=>
  cases J:bs d (Place.mk i n) with
  |none=>rfl
  |some w=>obtain ⟨j,rfl⟩:=arw (dK.oc J);obtain ⟨x,U,_⟩:=OP dK bp j i n J;rw[h1] at U;cases U
theorem ahh (N:Nat) (bi:100000<=N) {l:List aC} (bu:ef l) (fr to:Int):∃r e,l7 N l fr to=aqP (r,e)/\nH N l fr to=aqP (r,e)/\r.length<=2001:=by
 rcases Xq N (by omega) bu fr to with ⟨p,pZ⟩|⟨a,b,c,d,g1,g2,g3,g⟩
 ·rcases NL N bi bu fr to with ⟨q,_⟩|⟨a,b,c,_⟩
  ·exact ⟨_,_,p,q,by simp⟩
  ·rcases pZ with h|h|h
   ·exact absurd a h
   ·exact absurd b h
   ·exact absurd h c
 ·rcases NL N bi bu fr to with ⟨_,q⟩|⟨_,_,_,k0,bt,k⟩
  ·rcases q with h|h|h
   ·exact absurd a h
   ·exact absurd b h
   ·exact absurd h c
  ·have aG:=ahb bu g1 g2 g3 bt;have Uk:∀i n,bs d (Place.mk i n)=c5 k0 i n:=fun i n=>congrFun (congrFun aG i) n;rw[aG] at g;simp only[Uk] at g;have T9:∀m,bs d (jl l fr m)=c5 k0 (bF l fr m) m:=fun m=>Uk _ _;have Qq:∀{r:List aU},ji l (c5 k0) fr r->2<=r.length->∃m∈cV l fr,c5 k0 (bF l fr m) m≠aqS:=fun {r} an J=>by
    have aI:=cI (xs:=r) (i:=0) (by omega);obtain ⟨b5,v,cd,_⟩:=an.eF 0 _ (by omega) aI;obtain ⟨s1,s2⟩:=an.aO _ aI;unfold hN at b5;rw[s2,if_pos (by omega),s1] at b5;rw[s1] at cd;exact ⟨_,b5,by rw[cd];simp⟩
   rcases g with ⟨p,dm⟩|⟨p,ej,dm,ei,gb,hi⟩|⟨ej,p,⟨dm,gb⟩,ei,tU,Na⟩
   ·rcases k with ⟨q,_⟩|⟨q,_,_,_,m,hm,gP⟩|⟨ee,q,⟨b5,_⟩,cd,_⟩
    ·exact ⟨_,_,p,q,by simp⟩
    ·exact absurd (dm m hm) gP
    ·obtain ⟨m,hm,gP⟩:=Qq b5 cd.2.1.two;exact absurd (dm m hm) gP
   ·rcases k with ⟨q,b5⟩|⟨q,_⟩|⟨ee,q,⟨b5,dN⟩,cd,_⟩
    ·obtain ⟨m,hm,gP⟩:=Qq dm ei;exact absurd (b5 m hm) gP
    ·exact ⟨_,_,p,q,by simp⟩
    ·have:=dm.eq b5 ei cd.2.1.two gb dN;rw[this] at hi;exact absurd cd.2.2 hi
   ·have two:=ei.2.1.two;rcases k with ⟨q,b5⟩|⟨q,nz,b5,cd,_⟩|⟨ee,q,⟨b5,dN⟩,cd,_⟩
    ·obtain ⟨m,hm,gP⟩:=Qq dm two;exact absurd (b5 m hm) gP
    ·exact absurd (b5.ad' dm two (fun z aE=>(gb z aE).1) ei.2.2) cd
    ·have:=dm.eq b5 two cd.2.1.two gb dN;subst this;exact ⟨_,_,p,q,tU⟩
theorem Od (N:Nat) {s:List aW} {x:aW} (ai:s.length<=100000):∀(k n:Nat),k<n->k<=s.length->(∀(j:Nat) y,k<=j->s[j]? =aqP y->x.ak<=y.ak)->
  ∃i:Nat,zN N s x n k=aqP (i:Int)/\i<=s.length/\(∀(j:Nat) y,i<=j->s[j]? =aqP y->x.ak<=y.ak)/\(∀y,0<i->s[i - 1]? =aqP y->y.ak<x.ak)
 |k,0,aq,_,_=>by omega
 |0,n+1,aq,hk,aG=>by
  rw[zN];have h1:zz N s x ((0:Nat):Int)=aqP aqT:=by unfold zz;rw[if_neg (cw (by omega))]
  rw[h1,al,if_neg (by simp)];exact ⟨0,rfl,by omega,aG,fun y h=>by omega⟩
 |k+1,n+1,aq,hk,aG=>by
  have ad:=cI (xs:=s) (i:=k) (by omega);rw[zN];have h1:zz N s x ((k+1:Nat):Int)=aqP (decide (x.ak<=s[k].ak)):=by unfold zz;rw[if_pos (cA (by omega)),ZP (by omega),cC ad,al]
  rw[h1,al];by_cases ab:x.ak<=s[k].ak
  ·rw[if_pos (nn ab),bN,ZP (by omega)];refine Od N ai k n (by omega) (by omega) fun j y ar ag=> ?_;by_cases Uo:j=k
   ·subst Uo;rw[ad] at ag;cases ag;exact ab
   ·exact aG j y (by omega) ag
  ·rw[if_neg (n9 ab)];refine ⟨k+1,rfl,hk,aG,fun y _ ag=> ?_⟩;rw[Nat.add_sub_cancel,ad] at ag;cases ag;omega
theorem Pd (N:Nat) {s:List aW} {x:aW} (ai:s.length<=100000) (bi:s.length<N) (az:s.Pairwise fun a b=>a.ak<b.ak) (U:∀y∈s,y.ak≠x.ak):
  ∃cc,rb N s x=aqP cc/\(cc.Pairwise fun a b=>a.ak<b.ak)/\(∀y,y∈cc↔y=x\/y∈s)/\cc.length=s.length+1:=by
 obtain ⟨i,h1,J,aj,aM⟩:=Od N (s:=s) (x:=x) ai s.length N bi (aq3 _) (fun j y ar ag=>by
  have:=(aqZ.1 ag).1;omega)
 unfold rb;rw[bN,h1,al];have oT:zA N s x i=aqP aqT:=by
  unfold zA;by_cases ae:i<s.length
  ·have ad:=cI ae;rw[if_pos (cA (by omega)),cC ad,al];congr 1;simpa using U _ (aq7 ad)
  ·rw[if_neg (cw (by omega))]
 rw[oT,al,if_neg (by simp)];have yk:uy s (i:Int) (i:Int)=aqP (s.take i):=by unfold uy;rw[if_pos ⟨by omega,by omega,by omega,rfl⟩,arZ]
 rw[yk,al,wo J,al,hj (by rw[ar4];simp;omega),al,if_neg (by simp),hj (by rw[arA];simp;omega),al];have pK:∀y∈s.take i,y.ak<x.ak:=by
  intro y ag;obtain ⟨j,ar⟩:=arM ag;rw[arD] at ar;split at ar
  ·rename_i iD;have hd:=cI (xs:=s) (i:=i - 1) (by omega);have aa:=aM _ (by omega) hd;by_cases Bz:j=i - 1
   ·rw[Bz,hd] at ar;cases ar;exact aa
   ·obtain ⟨gj,ar⟩:=aqZ.1 ar;have:=arH.1 az j (i - 1) gj (by omega) (by omega);rw[ar] at this;omega
  ·cases ar
 have Ul:∀y∈s.drop i,x.ak<y.ak:=by intro y ag;obtain ⟨j,ar⟩:=arM ag;rw[ar0] at ar;have:=aj (i+j) y (by omega) ar;have:=U y (aq7 ar);omega
 refine ⟨_,rfl, ?_,fun y=> ?_,by simp;omega⟩
 ·rw[aul];refine ⟨az.sublist (atn _ _), ?_,fun a au b aa=> ?_⟩
  ·rw[atJ,at'];exact ⟨Ul,az.sublist (auo _ _)⟩
  ·have br:=pK a au;rw[atJ] at aa;rcases aq6.1 aa with rfl|aa
   ·exact br
   ·have:=Ul b aa;omega
 ·have:=atG i s;constructor
  ·intro ag;rcases arc.1 ag with ag|ag
   ·exact .inr (ath ag)
   ·rw[atJ] at ag;rcases aq6.1 ag with ag|ag
    ·exact .inl ag
    ·exact .inr (ati ag)
  ·rintro (rfl|ag)
   ·exact ato _ (by simp)
   ·rw[<-this] at ag;rcases arc.1 ag with ag|ag
    ·exact as8 _ ag
    ·exact ato _ (by simp[ag])
def qS (x:aC) (v:aU):Int:=if x.kind=3 then 3 else if x.kind=2 then (if v.bm=x.b\/v.out=x.b then 1 else 2) else 0
theorem agv (x:aC) (v:aU):sX x v=if qS x v=0 then [] else [aW.mk v.ak (qS x v)]:=by
 unfold sX qS;by_cases aj:x.kind=3
 ·simp[aj]
 ·by_cases J:x.kind=2
  ·by_cases aa:v.bm=x.b\/v.out=x.b
   ·simp[J,aa]
   ·simp[J,aa]
  ·simp[aj,J]
theorem Yj (N:Nat) {l:List aC} {v:aU} {x:aC} (U:aR l v.ak=aqP x):DU N l v=aqP (qS x v):=by
 unfold DU qS;rw[U,al,bN];by_cases aj:x.kind=3
 ·rw[if_pos (by simpa using aj),if_pos aj]
 ·rw[if_neg (by simpa using aj),if_neg aj];by_cases J:x.kind=2
  ·have vJ:zI N v x=aqP (decide (v.bm=x.b\/v.out=x.b)):=by
    unfold zI;rw[if_pos (by simpa using J)];by_cases a:v.bm=x.b
    ·rw[if_pos (by simpa using a)];simp[a]
    ·rw[if_neg (by simpa using a),bN];congr 1;exact arV.2 (by simp[a])
   rw[vJ,al,if_pos J];by_cases aa:v.bm=x.b\/v.out=x.b
   ·rw[if_pos (by simpa using aa),if_pos aa]
   ·rw[if_neg (by simpa using aa),if_neg aa,bN,if_pos (by simpa using J)]
  ·have vJ:zI N v x=aqP aqT:=by
    unfold zI;rw[if_neg (by simpa using J)]
   rw[vJ,al,if_neg (by simp),bN,if_neg (by simpa using J),if_neg J]
theorem V1 (N:Nat) {l:List aC} {r:List aU} (aw:∀v∈r,0<=v.ak/\v.ak<l.length) (aB:(b4 r).Nodup) (ai:r.length<=50000) (bi:r.length<N):∀(k n i:Nat) (s:List aW),k<n->i+k=r.length->s.length<=i->(s.Pairwise fun a b=>a.ak<b.ak)->(∀y,y∈s↔y∈h3 l (r.take i))->
  ∃cc,w0 N l r n s i=aqP cc/\(cc.Pairwise fun a b=>a.ak<b.ak)/\∀y,y∈cc↔y∈h3 l r
 |k,0,i,s,aq,_,_,_,_=>by omega
 |0,n+1,i,s,aq,ae,au,an,hm=>by
  obtain rfl:i=r.length:=by omega
  rw[w0,if_neg (cw (by omega))];rw[asq] at hm;exact ⟨s,rfl,an,hm⟩
 |k+1,n+1,i,s,aq,ae,au,an,hm=>by
  have aN:i<r.length:=by omega
  have ad:=cI aN;obtain ⟨aI,h1⟩:=aw _ (aq7 ad);obtain ⟨q,aK⟩:=arw aI;have U:=cI (xs:=l) (i:=q) (by omega);have aG:aR l (r[i]).ak=aqP (l[q]'(by omega)):=by rw[aK];exact cC U
  have lV:l[(r[i]).ak.toNat]? =aqP (l[q]'(by omega)):=by rw[aK,arZ];exact U
  have jQ:pn l r[i]=sX (l[q]'(by omega)) r[i]:=by unfold pn;rw[lV]
  have gC:∀y,y∈h3 l (r.take (i+1))↔y∈h3 l (r.take i)\/y∈pn l r[i]:=fun y=>by rw[l0 ad];unfold h3;rw[List.flatMap_append,ash,List.flatMap_nil,asN,arc]
  have key:∃cc,H8 N l r s i=aqP cc/\(cc.Pairwise fun a b=>a.ak<b.ak)/\(∀y,y∈cc↔y∈h3 l (r.take (i+1)))/\cc.length<=i+1:=by
   unfold H8;rw[cC ad,al,Yj N aG,al];rw[agv] at jQ;by_cases aE:qS (l[q]'(by omega)) r[i]=0
   ·rw[if_neg (by simpa using aE)];rw[if_pos aE] at jQ;exact ⟨s,rfl,an,fun y=>by rw[gC,jQ,hm];simp,by omega⟩
   ·rw[if_pos (by simpa using aE),al];rw[if_neg aE] at jQ;obtain ⟨cc,dm,ei,gb,hi⟩:=Pd N (s:=s) (x:=aW.mk r[i].ak (qS (l[q]'(by omega)) r[i])) (by omega) (by omega) an (fun y ag ax=>by
     have ag:=(hm y).1 ag;unfold h3 at ag;obtain ⟨v,j5,adk⟩:=asz.1 ag;have e:=O4 adk;have LZ:(b4 (r.take (i+1))).Nodup:=aB.sublist ((atn (i+1) r).map _);unfold b4 at LZ;rw[l0 ad,ar3,arT] at LZ;exact LZ.2.2 v.ak (List.mem_map_of_mem j5) r[i].ak (by simp) (by rw[<-e,ax]))
    rw[dm,al];exact ⟨cc,rfl,ei,fun y=>by rw[gb,gC,jQ,hm];simp[or_comm],by omega⟩
  obtain ⟨cc,g1,g2,g3,g4⟩:=key;rw[w0,if_pos (cA (by omega)),g1,al,bN,dh (by omega)];exact V1 N aw aB ai bi k n (i+1) cc (by omega) (by omega) g4 g2 g3
theorem ahH (N:Nat) {l:List aC} {r:List aU} (bi:r.length+l.length+4000<=N) (ai:l.length<=1000000) (aw:r.length<=9223372036854775807) (ht:l.length<=96->∀x∈l,x.name.length<N/\x.name.length<=9223372036854775807):
  ∃b s e,ta N l r=aqP b/\xI N l r=aqP b/\s7 N l r=aqP (s,e)/\DV N l r=aqP (s,e)/\s.length<=96:=by
 obtain ⟨ff,dm,ei⟩:=OW N (l:=l) (r:=r) (by omega) ai aw;obtain ⟨gA,ej,ee⟩:=XW N (l:=l) (r:=r) (by omega) ai aw ht;have aa:ff=gA:=arV.2 (ei.trans ee.symm);subst aa;cases ff with
 |false=>
  refine ⟨aqT,[],1,dm,ej, ?_, ?_,by simp⟩
  ·unfold s7;rw[dm,al,if_pos (by simp)]
  ·unfold DV;rw[ej,al,if_pos (by simp)]
 |true=>
  have bp:=ei.1 rfl;have bu:=ef.of bp.1;have lN:=bu.len;have yD:r.length<=l.length:=by
   have h1:=sa (b:=(arI l.length).map fun (i:Nat)=>(i:Int)) bp.2.2 fun x U=>by unfold b4 at U;obtain ⟨v,ad,rfl⟩:=aq'.1 U;obtain ⟨a,b⟩:=bp.2.1.ok v ad;exact aq'.2 ⟨v.ak.toNat,ar5.2 (by omega),by omega⟩
   simp[b4] at h1;exact h1
  have az:=Wf N (by omega) bu bp (by omega);have lb:=NF l r;refine ⟨aqQ,lv (h3 l r),0,dm,ej,az, ?_,by rw[Wa];omega⟩;unfold DV;rw[ej,al,if_neg (by simp)];obtain ⟨cc,g1,g2,g3⟩:=V1 N bp.2.1.ok bp.2.2 (by omega) (by omega) r.length N 0 [] (by omega) (by omega) (by simp) (by simp) (by simp[h3]);have g1:w0 N l r N [] 0=aqP cc:=g1;rw[g1,al];have aN:=y5 (bp.2.2.sublist (F5 l r));rw[Ge g2 aN fun y=>by rw[g3,Ci]]
end Go.W
end
section
namespace Go.W
open Go.aS
def Jl (l:List aC):Prop:=∀x∈l,x.name.length<=13
theorem Jl.set {l:List aC} (h:Jl l) {i:Nat} {x:aC} (U:x.name.length<=13):Jl (l.set i x):=fun y ag=>by
 rcases List.mem_or_eq_of_mem_set ag with ag|ag
 ·exact h y ag
 ·rw[ag];exact U
end Go.W
end
section
namespace Go.W
open Go.aS
theorem ke.inner {l:List aC} {r:List aU} (h:ke l r) {i:Nat} {v:aU} {x:aC} (ad:r[i]? =aqP v) (U:l[v.ak.toNat]? =aqP x) (hk:x.kind≠1):v.out∈iJ (bZ x) v.bm:=by
 have aN:=(aqZ.1 ad).1;have two:=h.two;by_cases aI:i=0
 ·subst aI;obtain ⟨_,y,ag,iO⟩:=(h.aO v ad).1;rw[U] at ag;cases ag;exact absurd iO hk
 ·by_cases h1:i+1<r.length
  ·have hm:=h.mid i v (by omega) h1 ad;unfold fo at hm;have he:=(h.ok v (aq7 ad)).1;obtain ⟨j,ar⟩:=arw he;rw[ar] at U hm;rw[arZ] at U;rw[zu U] at hm;exact hm
  ·have e:i=r.length - 1:=by omega
   rw[e] at ad;obtain ⟨_,y,ag,iO⟩:=(h.hS v ad).1;rw[U] at ag;cases ag;exact absurd iO hk
theorem Nk {x:aC} (U:jc x=aqQ) (hk:x.kind=2) {n m:Int} (h:m∈iJ (bZ x) n):x.a≠x.b/\x.a≠x.c/\x.b≠x.c/\((n=x.a/\iJ (bZ x) n=[x.b,x.c]/\(m=x.b\/m=x.c))\/(n=x.b/\m=x.a)\/(n=x.c/\m=x.a)):=by
 have aB:=(mE U).1;have he:bZ x=[x.a,x.b,x.c]:=by unfold bZ;rw[if_neg (by omega),if_pos hk]
 rw[he] at h aB⊢;simp at aB;refine ⟨aB.1.1,aB.1.2,aB.2, ?_⟩;obtain ⟨h1,J⟩:=GK h;unfold iJ at h⊢;rw[if_pos (by simpa using h1)] at h;rw[if_pos (by simpa using h1)];simp only[List.head?_cons,ark.injEq,List.tail_cons,List.take_succ_cons,atu] at h⊢;by_cases au:x.a=n
 ·rw[if_pos au] at h⊢;simp at h;exact .inl ⟨au.symm,rfl,h⟩
 ·rw[if_neg au] at h;simp at h h1;rcases h1 with h1|h1|h1
  ·exact absurd h1.symm au
  ·exact .inr (.inl ⟨h1,h⟩)
  ·exact .inr (.inr ⟨h1,h⟩)
end Go.W
end
section
namespace Go.W
end Go.W
end
section
namespace Go.W
open Go.aS
section
variable {V K:Type} [DecidableEq K]
structure Jm (V K:Type) where
 dead:V->Bool
 fin:V->Bool
 kj:V->Bool
 Qr:V->List V
 key:V->K
variable (S:Jm V K)
inductive xS:V->Prop
 |here {v:V}:S.dead v=aqT->S.fin v=aqQ->S.kj v=aqQ->xS v
 |step {v u:V}:S.dead v=aqT->S.fin v=aqT->u∈S.Qr v->xS u->xS v
def rl (s:List (K×Bool)) (v:V):Prop:=(bs s (S.key v)).getD aqT=aqQ
instance (s:List (K×Bool)) (v:V):Decidable (rl S s v):=by unfold rl;infer_instance
def D8 (s:List (K×Bool)) (v:V):Prop:=S.dead v=aqT/\(S.fin v=aqQ->S.kj v=aqT)/\(S.fin v=aqT->∀u∈S.Qr v,S.dead u=aqQ\/rl S s u)
variable {S}
theorem D8.mono {s cc:List (K×Bool)} {v:V} (h:D8 S s v) (az:∀u,rl S s u->rl S cc u):D8 S cc v:=⟨h.1,h.2.1,fun aP u hu=>(h.2.2 aP u hu).imp id (az u)⟩
theorem NQ {ap:Type} {p q:ap->Bool} (h:∀y,q y=aqQ->p y=aqQ):∀{l:List ap},(l.filter q).length<=(l.filter p).length
 |[]=>by simp
 |y::l=>by
  have a8:=NQ h (l:=l);rw[asO,asO];cases ag:q y with
  |true=>rw[h y ag];simpa using a8
  |false=>
   cases yI:p y with
   |true=>simp;omega
   |false=>simpa using a8
theorem filter_lt {ap:Type} {p q:ap->Bool}:∀{l:List ap} {x:ap},x∈l->(∀y,q y=aqQ->p y=aqQ)->p x=aqQ->q x=aqT->(l.filter q).length<(l.filter p).length
 |[],_,h,_,_,_=>by cases h
 |y::l,x,h,oU,an,aK=>by
  have hle:(l.filter q).length<=(l.filter p).length:=NQ oU;rcases aq6.1 h with rfl|h
  ·rw[asO,asO,an,aK];simp only[if_true,arr];exact Nat.lt_succ_of_le hle
  ·have a8:=filter_lt h oU an aK;rw[asO,asO];cases ag:q y with
   |true=>rw[oU y ag];simpa using a8
   |false=>
    cases yI:p y with
    |true=>simp;omega
    |false=>simpa using a8
structure Out (S:Jm V K) (gr:List V) (s:List (K×Bool)) (b:Bool) (cc:List (K×Bool)) (P:Prop) (T:Prop):Prop where
 sub:∀u,rl S s u->rl S cc u
 yes:b=aqQ->T
 no:b=aqT->P/\∀u∈gr,rl S cc u->¬rl S s u->D8 S cc u
theorem xS.live {v:V} (h:xS S v):S.dead v=aqT:=by cases h<;>assumption
end
end Go.W
end
section
namespace Go.W
open Go.aS
def v8 (x:aC) (p n:Int):List Int:=if x.kind=3/\p=4 then [] else if x.kind=2/\n=x.a/\p=1 then [x.b] else if x.kind=2/\n=x.a/\p=2 then [x.c] else iJ (bZ x) n
def Vp (l:List aC) (p:Int->Int) (i n:Int):List Int:=if 0<=i then (match l[i.toNat]? with|some x=>v8 x (p i) n|none=>[]) else []
def xr {K:Type} (l:List aC) (on:List Int) (p:Int->Int) (jH hD:Int) (key:dJ->K):Jm dJ K where
 dead:=fun v=>decide (bF l v.ak v.node<0)
 fin:=fun v=>on.contains (bF l v.ak v.node)
 kj:=fun v=>(bF l v.ak v.node !=jH)&&(bF l v.ak v.node !=hD)
 Qr:=fun v=>(Vp l p (bF l v.ak v.node) v.node).map (dJ.mk (bF l v.ak v.node))
 key:=key
def mg (l:List aC):List dJ:=(arI l.length).flatMap fun (i:Nat)=>(cV l (i:Int)).map fun n=>dJ.mk (i:Int) n
theorem ZJ (l:List aC):∀(k:List Nat),(k.flatMap fun (i:Nat)=>(cV l (i:Int)).map fun n=>dJ.mk (i:Int) n).length<=3*k.length
 |[]=>by simp
 |i::k=>by have:=ZJ l k;have:=lr l (i:Int);rw[ash,ari,arN,arr];omega
theorem ru (l:List aC):(mg l).length<=3*l.length:=by
 have:=ZJ l (arI l.length)
 rwa [atN] at this
theorem NY {l:List aC} {v:dJ}:v∈mg l↔v.node∈cV l v.ak:=by
 constructor
 ·intro h;obtain ⟨i,_,h⟩:=asz.1 h;obtain ⟨n,aq,rfl⟩:=aq'.1 h;exact aq
 ·intro h;obtain ⟨aI,h1,_⟩:=jb h;refine asz.2 ⟨v.ak.toNat,ar5.2 (by omega),aq'.2 ⟨v.node, ?_, ?_⟩⟩
  ·rw[at8 aI];exact h
  ·rw[at8 aI]
theorem OD {l:List aC} {i:Int} {x:aC} (aI:0<=i) (h:l[i.toNat]? =aqP x):aR l i=aqP x:=by
 obtain ⟨a,rfl⟩:=arw aI;exact cC (by simpa using h)
theorem aif {l:List aC} {i n:Int} (h:0<=bF l i n):∃x,l[(bF l i n).toNat]? =aqP x/\aR l (bF l i n)=aqP x/\n∈bZ x/\x∈l:=by
 obtain ⟨h1,_⟩:=zk h;obtain ⟨aI,J,x,U,aq⟩:=jb h1;exact ⟨x,U,OD aI U,aq,aq7 U⟩
theorem Da {l:List aC} {i:Int} {x:aC} (aI:0<=i) (h:l[i.toNat]? =aqP x):cV l i=bZ x:=by
 unfold cV;rw[if_pos aI,h]
theorem agN {x:aC} {p n m:Int} (h:m∈v8 x p n):m∈bZ x:=by
 unfold v8 at h;split at h
 ·cases h
 ·split at h
  ·rename_i h1 J;have:=arO.1 h;subst this;unfold bZ;rw[if_neg (by omega),if_pos J.1];simp
  ·split at h
   ·rename_i h1 J aj;have:=arO.1 h;subst this;unfold bZ;rw[if_neg (by omega),if_pos aj.1];simp
   ·exact (GK h).2
abbrev iA:=List (dJ×Bool)
abbrev AF:=List (Int×Bool)
def AG (m:AF) (on:List Int):Prop:=∀k,(bs m k).getD aqT=on.contains k
end Go.W
end
section
namespace Go.W
open Go.aS
def oF (s:List aW) (a:Int):Int:=match s.find? (fun y=>y.ak==a) with|some y=>y.eo|none=>0
def lk (l:List aC) (y:aW):Prop:=0<=y.ak/\∃x,l[y.ak.toNat]? =aqP x/\((x.kind=2/\(y.eo=1\/y.eo=2))\/(x.kind=3/\(y.eo=3\/y.eo=4)))
def rh (l:List aC) (s:List aW):Prop:=∀(i:Nat) (y:aW),s[i]? =aqP y->lk l y/\∀z∈s.take i,z.ak≠y.ak
theorem lk.pos {l:List aC} {y:aW} (h:lk l y):y.eo≠0:=by
 obtain ⟨_,x,_,h|h⟩:=h<;>omega
theorem aiB {l:List aC} {s:List aW} (h:∀z∈s,lk l z) (a:Int):oF s a≠0↔∃z∈s,z.ak=a:=by
 unfold oF;cases aP:s.find? (fun y=>y.ak==a) with
 |none=>have:=aup.1 aP;simp only[ne_eq,not_true,false_iff,not_exists,not_and];exact fun z aE he=>this z aE (by simpa using he)
 |some y=>have h1:=auq aP;have J:=List.find?_some aP;simp only;exact ⟨fun _=>⟨y,h1,by simpa using J⟩,fun _=>(h y h1).pos⟩
theorem GB {ap:Type} {s:List ap} {i:Nat} {z:ap}:z∈s.take i↔∃j,j<i/\s[j]? =aqP z:=by
 constructor
 ·intro h;obtain ⟨j,ar⟩:=arM h;rw[arD] at ar;split at ar
  ·exact ⟨j,‹_›,ar⟩
  ·cases ar
 ·rintro ⟨j,ar,h⟩;refine aq7 (i:=j) ?_;rw[arD,if_pos ar];exact h
instance (l:List aC) (y:aW):Decidable (lk l y):=by
 unfold lk;cases h:l[y.ak.toNat]? with
 |none=>exact isFalse (by simp)
 |some x=>exact decidable_of_iff (0<=y.ak/\((x.kind=2/\(y.eo=1\/y.eo=2))\/(x.kind=3/\(y.eo=3\/y.eo=4)))) (by simp)
theorem WB (N:Nat) {r:List aU} (aw:r.length<=1000000):∀(k n i:Nat) (m:AF),k<n->i+k=r.length->AG m (b4 (r.take i))->∃m',wV N r (r.length:Int) n m i=aqP m'/\AG m' (b4 r)
 |k,0,i,m,aq,_,_=>by omega
 |0,n+1,i,m,aq,ae,hm=>by
  obtain rfl:i=r.length:=by omega
  rw[wV,if_neg (cw (by omega))];rw[asq] at hm;exact ⟨m,rfl,hm⟩
 |k+1,n+1,i,m,aq,ae,hm=>by
  have ad:=cI (xs:=r) (i:=i) (by omega);rw[wV,if_pos (cA (by omega)),cC ad,al,bN,dh (by omega)];refine WB N aw k n (i+1) _ (by omega) (by omega) fun a=> ?_;rw[iH,l0 ad];unfold b4;rw[ar3,atm];by_cases au:r[i].ak=a
  ·rw[if_pos au];simp[au]
  ·rw[if_neg au,hm];unfold b4;rw[atm];have:a≠r[i].ak:=fun h=>au h.symm;simp[this]
theorem ahg (N:Nat) {r:List aU} (aw:r.length<=1000000) (bi:r.length<N):∃m,IS N r=aqP m/\AG m (b4 r):=by
 unfold IS;obtain ⟨m,h1,J⟩:=WB N aw r.length N 0 [] bi (by omega) (fun a=>by simp[b4,bs]);exact ⟨m,by rw[show wV N r _ N [] 0=_ from h1];rfl,J⟩
def tt (r:List aU):Int×Int:=((r[0]?.map aU.ak).getD 0,(r[r.length - 1]?.map aU.ak).getD 0)
end Go.W
end
section
namespace Go.W
open Go.aS
theorem Za (N:Nat) {s:List aW} (az:s.length<=1000000) (bi:s.length<N) (a:Int):xL N s a=aqP (oF s a):=by
 have h:=jT (l:=s) (fun _ y=>y.ak==a) (fun _ y=>y.eo) (xc N s a) (fun n=>by
  rw[xc,if_neg (cw (by omega))]) (fun n i y ag=>by
  have aN:=(aqZ.1 ag).1;rw[xc,if_pos (cA (by omega)),cC ag,al,al,bN,dh (by omega)]) s.length N 0 bi (by omega)
 have aw:∀(q:List aW) (i:Nat),ch (fun _ y=>y.ak==a) (fun _ (y:aW)=>y.eo) i q=match q.find? (fun y=>y.ak==a) with|some y=> .inr y.eo|none=> .inl ():=by
  intro q;induction q with
  |nil=>intro i;rfl
  |cons y q a8=>
   intro i;rw[ch,List.find?_cons];cases ag:(y.ak==a) with
   |true=>rfl
   |false=>simpa using a8 (i+1)
 unfold xL;rw[show xc N s a N 0=_ from h,al,arv,aw];unfold oF;cases s.find? (fun y=>y.ak==a)<;>rfl
theorem Xc (N:Nat) {l:List aC} (ai:l.length<=96) {s:List aW} (az:s.length<=1000) (bi:s.length<N):∀(k n i:Nat),k<n->i+k=s.length->(∀(j:Nat) y,j<i->s[j]? =aqP y->lk l y/\∀z∈s.take j,z.ak≠y.ak)->
  (sS N l s n i=aqP (.inl ())/\rh l s)\/(sS N l s n i=aqP (.inr aqT)/\¬rh l s)
 |k,0,i,aq,_,_=>by omega
 |0,n+1,i,aq,ae,du=>by
  obtain rfl:i=s.length:=by omega
  rw[sS,if_neg (cw (by omega))];exact .inl ⟨rfl,fun j y ar=>du j y (aqZ.1 ar).1 ar⟩
 |k+1,n+1,i,aq,ae,du=>by
  have ad:=cI (xs:=s) (i:=i) (by omega);obtain ⟨y,ag⟩:∃y,y=s[i]:=⟨_,rfl⟩
  rw[<-ag] at ad;rw[sS,if_pos (cA (by omega))];have jJ:∀z∈s.take i,lk l z:=fun z aE=>by obtain ⟨j,ar,aE⟩:=GB.1 aE;exact (du j z ar aE).1
  have aX:Iq N l s i=aqP (decide (y.ak<0\/(l.length:Int)<=y.ak\/∃z∈s.take i,z.ak=y.ak)):=by
   unfold Iq;rw[cC ad,al];by_cases h1:y.ak<0
   ·rw[if_pos (cA h1)];simp[h1]
   ·rw[if_neg (cw h1),al];by_cases J:(l.length:Int)<=y.ak
    ·rw[if_pos (nn J)];simp[J]
    ·rw[if_neg (n9 J),y0 (by omega),al,al,Za N (by rw[arA];omega) (by rw[arA];omega),al];congr 1;rw[arV];have:=aiB jJ y.ak;simp only[bne_iff_ne,ne_eq,decide_eq_true_eq,h1,J,false_or];exact this
  have tJ:(Dq N l s i=aqP (.inl ())/\lk l y/\∀z∈s.take i,z.ak≠y.ak)\/(Dq N l s i=aqP (.inr aqT)/\¬rh l s):=by
   unfold Dq;rw[aX,al];by_cases c1:y.ak<0\/(l.length:Int)<=y.ak\/∃z∈s.take i,z.ak=y.ak
   ·rw[if_pos (by simpa using c1)];refine .inr ⟨rfl,fun fy=> ?_⟩;obtain ⟨⟨bt,x,bE,_⟩,cM⟩:=fy i y ad;rcases c1 with c1|c1|⟨z,aE,c1⟩
    ·omega
    ·have:=(aqZ.1 bE).1;omega
    ·exact cM z aE c1
   ·rw[if_neg (by simpa using c1),cC ad,al,al];have JJ:0<=y.ak/\y.ak<l.length:=by
     constructor
     ·exact Int.not_lt.1 fun h=>c1 (.inl h)
     ·exact Int.not_le.1 fun h=>c1 (.inr (.inl h))
    have j2:∀z∈s.take i,z.ak≠y.ak:=fun z aE he=>c1 (.inr (.inr ⟨z,aE,he⟩));obtain ⟨a,au⟩:=arw JJ.1;have U:=cI (xs:=l) (i:=a) (by omega);obtain ⟨x,ko⟩:∃x,x=l[a]:=⟨_,rfl⟩
    rw[<-ko] at U;have jR:l[y.ak.toNat]? =aqP x:=by rw[au,arZ];exact U
    have na:lk l y↔((x.kind=2/\(y.eo=1\/y.eo=2))\/(x.kind=3/\(y.eo=3\/y.eo=4))):=by
     unfold lk;rw[jR];constructor
     ·rintro ⟨_,gX,lV,h⟩;cases lV;exact h
     ·exact fun h=>⟨JJ.1,x,rfl,h⟩
    rw[OD JJ.1 jR,al,bN];by_cases J:x.kind=2
    ·rw[if_pos (by simpa using J)];have hR:HK N y.eo=aqP (decide (¬(y.eo=1\/y.eo=2))):=by
      unfold HK;by_cases h:y.eo=1
      ·rw[if_neg (by simpa using h)];simp[h]
      ·rw[if_pos (by simpa using h)];congr 1;rw[arV];simp[h]
     rw[hR,al];by_cases an:y.eo=1\/y.eo=2
     ·rw[if_neg (by rw[decide_eq_true_eq];exact fun h=>h an)];exact .inl ⟨rfl,na.2 (.inl ⟨J,an⟩),j2⟩
     ·rw[if_pos (by simpa using an)];exact .inr ⟨rfl,fun fy=>by rcases na.1 (fy i y ad).1 with h|h;exact an h.2;omega⟩
    ·rw[if_neg (by simpa using J),bN];by_cases aj:x.kind=3
     ·rw[if_pos (by simpa using aj)];have hR:HL N y.eo=aqP (decide (¬(y.eo=3\/y.eo=4))):=by
       unfold HL;by_cases h:y.eo=3
       ·rw[if_neg (by simpa using h)];simp[h]
       ·rw[if_pos (by simpa using h)];congr 1;rw[arV];simp[h]
      rw[hR,al];by_cases an:y.eo=3\/y.eo=4
      ·rw[if_neg (by rw[decide_eq_true_eq];exact fun h=>h an)];exact .inl ⟨rfl,na.2 (.inr ⟨aj,an⟩),j2⟩
      ·rw[if_pos (by simpa using an)];exact .inr ⟨rfl,fun fy=>by rcases na.1 (fy i y ad).1 with h|h;exact J h.1;exact an h.2⟩
     ·rw[if_neg (by simpa using aj)];exact .inr ⟨rfl,fun fy=>by rcases na.1 (fy i y ad).1 with h|h;exact J h.1;exact aj h.1⟩
  rcases tJ with ⟨g1,g2,g3⟩|⟨g1,g2⟩
  ·rw[g1,al];dsimp only;rw[bN,dh (by omega)];refine Xc N ai az bi k n (i+1) (by omega) (by omega) (fun j z ar aE=> ?_);by_cases iD:j=i
   ·subst iD;rw[ad] at aE;cases aE;exact ⟨g2,g3⟩
   ·exact du j z (by omega) aE
  ·rw[g1,al];exact .inr ⟨rfl,g2⟩
theorem aga (N:Nat) {l:List aC} (ai:l.length<=96) {s:List aW} (az:s.length<=1000) (bi:s.length<N):(Ao N l s=aqP aqQ/\rh l s)\/(Ao N l s=aqP aqT/\¬rh l s):=by
 unfold Ao;rcases Xc N ai az bi s.length N 0 bi (by omega) (fun j y ar=>by omega) with ⟨h1,J⟩|⟨h1,J⟩
 ·exact .inl ⟨by rw[show sS N l s N 0=_ from h1];rfl,J⟩
 ·exact .inr ⟨by rw[show sS N l s N 0=_ from h1];rfl,J⟩
abbrev pz:=List (dC×Bool)
end Go.W
end
section
namespace Go.W
open Go.aS
theorem agm (N:Nat) {s:List aW} {x:aW} (ai:s.length<=100000) (bi:s.length<N) (az:s.Pairwise fun a b=>a.ak<b.ak) {y:aW} (ag:y∈s) (he:y.ak=x.ak):rb N s x=aqP s:=by
 obtain ⟨i,h1,J,aj,aM⟩:=Od N (s:=s) (x:=x) ai s.length N bi (aq3 _) (fun j y ar ag=>by
  have:=(aqZ.1 ag).1;omega)
 obtain ⟨j,ar⟩:=arM ag;obtain ⟨gj,lM⟩:=aqZ.1 ar;have cW:i<=j:=by
  refine Nat.le_of_not_lt fun aN=> ?_;have hd:=cI (xs:=s) (i:=i - 1) (by omega);have aa:=aM _ (by omega) hd;by_cases iD:j=i - 1
  ·rw[iD,hd] at ar;have ar:=ark.inj ar;rw[ar] at aa;omega
  ·have:=arH.1 az j (i - 1) gj (by omega) (by omega);rw[lM] at this;omega
 have ad:=cI (xs:=s) (i:=i) (by omega);have e4:=aj i _ (aq3 _) ad;have hle:s[i].ak=x.ak:=by
  by_cases h:i=j
  ·subst h;rw[ad] at ar;have ar:=ark.inj ar;rw[ar];exact he
  ·have:=arH.1 az i j (by omega) gj (by omega);rw[lM] at this;omega
 unfold rb;rw[bN,h1,al];have oT:zA N s x i=aqP aqQ:=by unfold zA;rw[if_pos (cA (by omega)),cC ad,al];simp[hle]
 rw[oT,al,if_pos rfl]
abbrev jh:=List (Int×Int)
structure rj (l:List aC) (on:List Int) (out:jh):Prop where
 fC:(out.map ase).Nodup
 ok:∀i p,bs out i=aqP p->0<=i/\i∉on/\∃x,l[i.toNat]? =aqP x/\((x.kind=2/\(p=1\/p=2))\/(x.kind=3/\p=4))
structure u9 (out:jh) (cS:List aW):Prop where
 lt:cS.Pairwise fun a b=>a.ak<b.ak
 mem:∀y,y∈cS↔bs out y.ak=aqP y.eo
theorem afv {s:List aW} (az:s.Pairwise fun a b=>a.ak<b.ak) {y z:aW} (ag:y∈s) (aE:z∈s) (he:y.ak=z.ak):y=z:=by
 obtain ⟨i,ae⟩:=arM ag;obtain ⟨j,ar⟩:=arM aE;obtain ⟨iC,hV⟩:=aqZ.1 ae;obtain ⟨gj,lM⟩:=aqZ.1 ar;rcases asA i j with h|h|h
 ·have:=arH.1 az i j iC gj h;rw[hV,lM] at this;omega
 ·subst h;rw[ae] at ar;cases ar;rfl
 ·have:=arH.1 az j i gj iC h;rw[hV,lM] at this;omega
theorem ajm {s:List aW} (az:s.Pairwise fun a b=>a.ak<b.ak) {n:Nat} (h:∀y∈s,0<=y.ak/\y.ak<n):s.length<=n:=by
 have km:(s.map aW.ak).Nodup:=by unfold atS;rw[atp];exact az.imp fun h he=>by omega
 have:=sa (b:=(arI n).map fun (i:Nat)=>(i:Int)) km fun a au=>by obtain ⟨y,ag,rfl⟩:=aq'.1 au;have:=h y ag;exact aq'.2 ⟨y.ak.toNat,ar5.2 (by omega),by omega⟩
 simpa using this
theorem u9.at {l:List aC} {on:List Int} {out:jh} {cS:List aW} (h:u9 out cS) (ah:rj l on out) (i:Int):oF cS i=(bs out i).getD 0:=by
 unfold oF;cases aP:cS.find? (fun y=>y.ak==i) with
 |none=>
  cases aG:bs out i with
  |none=>rfl
  |some p=>have:aW.mk i p∈cS:=(h.mem _).2 aG;have:=aup.1 aP _ this;simp at this
 |some y=>
  have h1:=auq aP;have J:=List.find?_some aP;have J:y.ak=i:=by simpa using J
  have:=(h.mem y).1 h1;rw[J] at this;rw[this];rfl
theorem rj.len {l:List aC} {on:List Int} {out:jh} {cS:List aW} (ah:rj l on out) (h:u9 out cS):cS.length<=l.length:=ajm h.lt fun y ag=>by
 obtain ⟨aI,_,x,U,_⟩:=ah.ok _ _ ((h.mem y).1 ag);have:=(aqZ.1 U).1;omega
theorem WI {ap bx:Type} [DecidableEq ap]:∀{m:List (ap×bx)} {k:ap} {v:bx},(m.map ase).Nodup->((dV m k v).map ase).Nodup/\∀a,a∈(dV m k v).map ase->a=k\/a∈m.map ase
 |[],k,v,_=>by simp[dV]
 |p::m,k,v,h=>by
  rw[arG,asQ] at h;simp only[dV];by_cases hk:p.1=k
  ·rw[if_pos hk];rw[arG,asQ];exact ⟨h,fun a au=> .inr au⟩
  ·rw[if_neg hk,arG,asQ];obtain ⟨h1,J⟩:=WI (k:=k) (v:=v) h.2;refine ⟨⟨fun ax=> ?_,h1⟩,fun a au=> ?_⟩
   ·rcases J _ ax with aj|aj
    ·exact hk aj
    ·exact h.1 aj
   ·rcases aq6.1 au with aj|aj
    ·exact .inr (by rw[aj];simp)
    ·rcases J _ aj with aM|aM
     ·exact .inl aM
     ·exact .inr (by simp[aM])
theorem ahU (N:Nat) (bi:3000<=N) {l:List aC} (ai:l.length<=96) {on:List Int} {out:jh} {cS:List aW} (ah:rj l on out) (aq:u9 out cS) {i p:Int} {x:aC} (aI:0<=i) (pO:i∉on) (U:l[i.toNat]? =aqP x) (an:(x.kind=2/\(p=1\/p=2))\/(x.kind=3/\p=4)):
  (xC N i p out=aqP (17,out)/\oF cS i≠0/\oF cS i≠p)\/
  (∃mz,xC N i p out=aqP (0,dV out i p)/\(oF cS i=0\/oF cS i=p)/\rb N cS (aW.mk i p)=aqP mz/\rj l on (dV out i p)/\u9 (dV out i p) mz/\∀j q,bs out j=aqP q->bs (dV out i p) j=aqP q):=by
 have E8:=aq.at ah i;have hlen:=ah.len aq;have dA:Hx N p ((bs out i).getD 0) (bs out i).isSome=aqP (decide (∃q,bs out i=aqP q/\q≠p)):=by
  unfold Hx;cases aG:bs out i with
  |none=>simp
  |some q=>simp only[at9,if_true,asg];congr 1;rw[arV];simp
 unfold xC;rw[bN,bN,dA,al];by_cases ab:∃q,bs out i=aqP q/\q≠p
 ·rw[if_pos (by simpa using ab)];obtain ⟨q,aK,rR⟩:=ab;have tH:q≠0:=by
   obtain ⟨_,_,y,_,h|h⟩:=ah.ok i q aK<;>omega
  refine .inl ⟨rfl, ?_, ?_⟩
  ·rw[E8,aK];exact tH
  ·rw[E8,aK];exact rR
 ·rw[if_neg (by simpa using ab),bN];have Mi:∀j q,bs out j=aqP q->bs (dV out i p) j=aqP q:=fun j q ar=>by
   rw[iH];by_cases h:i=j
   ·subst h;have rR:q=p:=auv fun rR=>ab ⟨q,ar,rR⟩;rw[if_pos rfl,rR]
   ·rw[if_neg h];exact ar
  have lQ:rj l on (dV out i p):=by
   refine ⟨(WI ah.fC).1,fun j q ar=> ?_⟩;rw[iH] at ar;split at ar
   ·rename_i h;subst h;cases ar;exact ⟨aI,pO,x,U,an⟩
   ·exact ah.ok j q ar
  cases aG:bs out i with
  |none=>
   have iE:∀y∈cS,y.ak≠(aW.mk i p).ak:=fun y ag he=>by have:=(aq.mem y).1 ag;rw[show y.ak=i from he,aG] at this;cases this
   obtain ⟨mz,h1,J,aj,aM⟩:=Pd N (by omega) (by omega) aq.lt iE;refine .inr ⟨mz,rfl, .inl (by rw[E8,aG];rfl),h1,lQ,⟨J,fun y=> ?_⟩,Mi⟩;rw[aj,iH];constructor
   ·rintro (rfl|ag)
    ·rw[if_pos rfl]
    ·rw[if_neg (fun he=>iE y ag he.symm)];exact (aq.mem y).1 ag
   ·intro h;split at h
    ·rename_i he;cases h;left;cases y;simp only at he;rw[he]
    ·exact .inr ((aq.mem y).2 h)
  |some q=>
   have rR:q=p:=auv fun rR=>ab ⟨q,aG,rR⟩;subst rR;have ag:aW.mk i q∈cS:=(aq.mem _).2 aG;refine .inr ⟨cS,rfl, .inr (by rw[E8,aG];rfl),agm N (by omega) (by omega) aq.lt ag rfl,lQ,⟨aq.lt,fun y=> ?_⟩,Mi⟩;rw[aq.mem,iH];by_cases h:i=y.ak
   ·rw[if_pos h,<-h,aG]
   ·rw[if_neg h]
end Go.W
end
section
namespace Go.W
open Go.aS
def gp (d:iA) (v:dJ):Prop:=(bs d v).getD aqT=aqQ
instance (d:iA) (v:dJ):Decidable (gp d v):=by unfold gp;infer_instance
def tb (t:pz) (v:dJ):Prop:=(bs t (dC.mk v.ak v.node)).getD aqT=aqQ
instance (t:pz) (v:dJ):Decidable (tb t v):=by unfold tb;infer_instance
def jD (l:List aC) (on:List Int) (v:dJ):Prop:=bF l v.ak v.node<0\/bF l v.ak v.node∈on
instance (l:List aC) (on:List Int) (v:dJ):Decidable (jD l on v):=by unfold jD;infer_instance
def AA (l:List aC) (on:List Int) (d:iA) (v:dJ):Prop:=jD l on v\/gp d v
structure xP (l:List aC) (on:List Int) (d:iA) (o:jh) (t:pz) (cS:List aW):Prop where
 Ln:∀v,gp d v->tb t v
 JH:∀v,tb t v->gp d v\/jD l on v
 ok:rj l on o
 fC:u9 o cS
def Az (l:List aC) (on:List Int) (d:iA) (o:jh) (v:dJ):Prop:=
 ¬jD l on v/\∃x,l[(bF l v.ak v.node).toNat]? =aqP x/\x.kind≠1/\(x.kind=3->bs o (bF l v.ak v.node)=aqP 4)/\(x.kind=2->v.node≠x.a->bs o (bF l v.ak v.node)=aqP (if v.node=x.b then 2 else 1))/\
  (x.kind=2->v.node=x.a->AA l on d (dJ.mk (bF l v.ak v.node) x.b)/\AA l on d (dJ.mk (bF l v.ak v.node) x.c))
theorem Az.mono {l:List aC} {on:List Int} {d cD:iA} {o o':jh} {v:dJ} (h:Az l on d o v) (aB:∀u,gp d u->gp cD u) (ah:∀j q,bs o j=aqP q->bs o' j=aqP q):Az l on cD o' v:=by
 obtain ⟨aI,x,h1,J,aj,aM,br⟩:=h;exact ⟨aI,x,h1,J,fun hk=>ah _ _ (aj hk),fun hk au=>ah _ _ (aM hk au),fun hk au=>⟨(br hk au).1.imp id (aB _),(br hk au).2.imp id (aB _)⟩⟩
structure u3 (l:List aC) (on:List Int) (d:iA) (o:jh) (cD:iA) (o':jh):Prop where
 sub:∀u,gp d u->gp cD u
 mono:∀j q,bs o j=aqP q->bs o' j=aqP q
 tn:∀u,gp cD u->¬gp d u->Az l on cD o' u
theorem u3.refl {l:List aC} {on:List Int} (d:iA) (o:jh):u3 l on d o d o:=⟨fun _ h=>h,fun _ _ h=>h,fun u h1 J=>absurd h1 J⟩
theorem u3.trans {l:List aC} {on:List Int} {d d1 d2:iA} {o gm gV:jh} (h:u3 l on d o d1 gm) (k:u3 l on d1 gm d2 gV):u3 l on d o d2 gV:=
 ⟨fun u hu=>k.sub u (h.sub u hu),fun j q aK=>k.mono j q (h.mono j q aK),fun u h1 J=>by
  by_cases aj:gp d1 u
  ·exact (h.tn u aj J).mono k.sub k.mono
  ·exact k.tn u h1 aj⟩
theorem ui {d:iA} {v u:dJ}:gp (dV d v aqQ) u↔(v=u\/gp d u):=by
 unfold gp;rw[iH];by_cases h:v=u<;>simp[h]
theorem C1 {t:pz} {v u:dJ}:tb (dV t (dC.mk v.ak v.node) aqQ) u↔(v=u\/tb t u):=by
 unfold tb;rw[iH];have:dC.mk v.ak v.node=dC.mk u.ak u.node↔v=u:=by cases v;cases u;simp
 by_cases h:v=u
 ·rw[if_pos (this.2 h)];simp[h]
 ·rw[if_neg (fun ax=>h (this.1 ax))];simp[h]
theorem Px {x:aC} (h:jc x=aqQ):x.kind=1\/x.kind=2\/x.kind=3:=by
 have:=(mE h).2.2.1;unfold bZ at this;split at this
 ·rename_i h;rcases h with h|h<;>simp[h]
 ·split at this
  ·rename_i h;simp[h]
  ·exact absurd rfl this
def qM (l:List aC) (d:iA):Nat:=((mg l).filter fun u=> !decide (gp d u)).length
theorem afV {l:List aC} {d cD:iA} (h:∀u,gp d u->gp cD u):qM l cD<=qM l d:=by
 unfold qM;refine NQ fun u hu=> ?_;simp only[ar',decide_eq_false_iff_not] at hu⊢;exact fun ax=>hu (h u ax)
theorem ag6 {l:List aC} {d:iA} {v:dJ} (ad:v∈mg l) (aq:¬gp d v):qM l (dV d v aqQ)<qM l d:=by
 unfold qM;refine filter_lt ad (fun u hu=> ?_) (by simpa using aq) ?_
 ·simp only[ar',decide_eq_false_iff_not] at hu⊢;exact fun h=>hu (ui.2 (.inr h))
 ·simp only[Bool.not_eq_false',decide_eq_true_eq];exact ui.2 (.inl rfl)
theorem aia (l:List aC) (ai:l.length<=96) (d:iA):qM l d<=288:=by
 have h1:=ru l;have J:=List.length_filter_le (fun u=> !decide (gp d u)) (mg l);unfold qM;omega
def tV (N c9:Nat) (l:List aC) (o2:AF) (v:dJ) (d:iA) (o:jh):Option (Int×iA×jh):=s6 N c9 v l [] [] d o2 [] o
def uN (N c9:Nat) (l:List aC) (r:List aU) (cS:List aW) (v:dJ) (t:pz):Option (Int×dI×pz):=lB N c9 (dI.mk l r cS []) v.ak v.node t
def Q1 (l:List aC) (r:List aU) (d:iA) (o:jh) (v:dJ) (p:Option (Int×iA×jh)) (q:Option (Int×dI×pz)):Prop:=
 (∃e cD o' g db,e≠0/\p=aqP (e,cD,o')/\q=aqP (e,g,db))\/
 (∃cD o' db mz,p=aqP (0,cD,o')/\q=aqP (0,dI.mk l r mz [],db)/\xP l (b4 r) cD o' db mz/\u3 l (b4 r) d o cD o'/\AA l (b4 r) cD v)
theorem alv (N:Nat) (self:dI->Int->Int->pz->Option (Int×dI×pz)) (p a:Int):Dj N self p a=aqP (decide (a≠0/\a≠p)):=by
 unfold Dj;by_cases h:a=0
 ·rw[if_neg (by simpa using h)];simp[h]
 ·rw[if_pos (by simpa using h)];congr 1;rw[arV];simp[h]
theorem Lv (N:Nat) (bi:3000<=N) {l:List aC} (bu:ef l) {r:List aU} (aw:r.length<=1000) {o2:AF} (pO:AG o2 (b4 r)):
  ∀(c9:Nat) (v:dJ) (d:iA) (o:jh) (t:pz) (cS:List aW),v∈mg l->xP l (b4 r) d o t cS->qM l d<c9->Q1 l r d o v (tV N c9 l o2 v d o) (uN N c9 l r cS v t)
 |0,_,_,_,_,_,_,_,h=>by omega
 |c9+1,v,d,o,t,cS,ad,gH,ap4=>by
  have ai:=bu.len;unfold tV uN;rw[s6,lB,GR N (by omega) (by omega),al,bN];have dA:Hy N (s6 N c9) v (bF l v.ak v.node) d o2=aqP (decide (gp d v\/jD l (b4 r) v)):=by
   unfold Hy;rw[bN];by_cases h:(bs d v).getD aqT=aqQ
   ·rw[if_pos h];simp[gp,h]
   ·rw[if_neg h];by_cases J:bF l v.ak v.node<0
    ·rw[if_pos (cA J)];simp[jD,J]
    ·rw[if_neg (cw J),bN,pO,atm];congr 1;rw[arV];simp[gp,jD,h,J]
  rw[dA,al];by_cases c:gp d v\/jD l (b4 r) v
  ·rw[if_pos (by simpa using c),bN];by_cases az:(bs t (dC.mk v.ak v.node)).getD aqT=aqQ
   ·rw[if_pos az];exact .inr ⟨d,o,t,cS,rfl,rfl,gH, .refl d o,c.symm⟩
   ·rw[if_neg az,bN];dsimp only;rw[wu N (by omega) (by omega),al];have hI:jD l (b4 r) v:=c.resolve_left fun h=>az (gH.Ln v h);have aX:zD N (lB N c9) (dI.mk l r cS []) (bF l v.ak v.node)=aqP aqQ:=by
     unfold zD;by_cases J:bF l v.ak v.node<0
     ·rw[if_pos (cA J)]
     ·rw[if_neg (cw J)];dsimp only;rw[y8 N (by omega) (by omega),al,atm];have:=hI.resolve_left J;simp[this]
    rw[aX,al,if_pos rfl];refine .inr ⟨d,o,_,cS,rfl,rfl,⟨fun u hu=>C1.2 (.inr (gH.Ln u hu)),fun u hu=> ?_,gH.ok,gH.fC⟩, .refl d o, .inl hI⟩;rcases C1.1 hu with h|h
    ·subst h;exact .inr hI
    ·exact gH.JH u h
  ·rw[if_neg (by simpa using c)];have km:¬gp d v:=fun h=>c (.inl h);have BL:¬jD l (b4 r) v:=fun h=>c (.inr h);have UC:¬(bs t (dC.mk v.ak v.node)).getD aqT=aqQ:=fun h=>c (gH.JH v h);have aI:0<=bF l v.ak v.node:=by unfold jD at BL;omega
   have j2:bF l v.ak v.node∉b4 r:=fun h=>BL (.inr h);rw[bN,if_neg UC,bN];dsimp only;rw[wu N (by omega) (by omega),al];have aX:zD N (lB N c9) (dI.mk l r cS []) (bF l v.ak v.node)=aqP aqT:=by unfold zD;rw[if_neg (cw (by omega))];dsimp only;rw[y8 N (by omega) (by omega),al,atm];simp[j2]
   obtain ⟨x,U,B0,lP,vN⟩:=aif aI;rw[aX,al,if_neg (by simp),B0,al,al,bN];obtain ⟨d0,vu⟩:∃d0,d0=dV d v aqQ:=⟨_,rfl⟩
   obtain ⟨t0,MB⟩:∃t0,t0=dV t (dC.mk v.ak v.node) aqQ:=⟨_,rfl⟩
   rw[<-vu,<-MB];have UT:∀u,gp d u->gp d0 u:=fun u hu=>by rw[vu];exact ui.2 (.inr hu)
   have jq:gp d0 v:=by rw[vu];exact ui.2 (.inl rfl)
   have iE:∀u,gp d0 u->¬gp d u->u=v:=fun u h1 J=>by
    rw[vu] at h1;rcases ui.1 h1 with h|h
    ·exact h.symm
    ·exact absurd h J
   have TY:∀{o' mz},rj l (b4 r) o'->u9 o' mz->xP l (b4 r) d0 o' t0 mz:=fun h1 J=>by
    refine ⟨fun u hu=> ?_,fun u hu=> ?_,h1,J⟩
    ·rw[vu] at hu;rw[MB];rcases ui.1 hu with h|h
     ·exact C1.2 (.inl h)
     ·exact C1.2 (.inr (gH.Ln u h))
    ·rw[MB] at hu;rw[vu];rcases C1.1 hu with h|h
     ·exact .inl (ui.2 (.inl h))
     ·exact (gH.JH u h).imp (fun h=>ui.2 (.inr h)) id
   have Uu:qM l d0<c9:=by have:=ag6 ad km;rw[<-vu] at this;omega
   have rS:=bu.snd x vN;have step:∀p,((x.kind=2/\(p=1\/p=2))\/(x.kind=3/\p=4))->x.kind≠1->(x.kind=3->p=4)->(x.kind=2->v.node≠x.a/\p=if v.node=x.b then 2 else 1)->
     ∀q,(q=aqU (xL N cS (bF l v.ak v.node)) fun fm=>aqU (Dj N (lB N c9) p fm) fun e7=>if e7=aqQ then aqP (17,dI.mk l r cS [],t0) else aqU (rb N cS (aW.mk (bF l v.ak v.node) p)) fun gf=>aqP (0,dI.mk l r gf [],t0))->
     Q1 l r d o v (aqU (xC N (bF l v.ak v.node) p o) fun cH=>aqP (cH.1,d0,cH.2)) q:=by
    intro p an rJ BB rK q aK;have lO:=gH.ok.len gH.fC;rw[aK,Za N (by omega) (by omega),al,alv,al];rcases ahU N bi ai gH.ok gH.fC aI j2 U an with ⟨g1,g2,g3⟩|⟨mz,g1,g2,g3,g4,g5,g6⟩
    ·rw[g1,al,if_pos (by simpa using ⟨g2,g3⟩)];exact .inl ⟨17,_,_,_,_,by omega,rfl,rfl⟩
    ·rw[g1,al,if_neg (by rw[decide_eq_true_eq];rintro ⟨h1,J⟩;rcases g2 with h|h;exact h1 h;exact J h),g3,al];refine .inr ⟨d0,_,t0,mz,rfl,rfl,TY g4 g5,⟨UT,g6,fun u h1 J=> ?_⟩, .inr jq⟩;rw[iE u h1 J];refine ⟨BL,x,U,rJ,fun hk=> ?_,fun hk au=> ?_,fun hk au=>absurd au (rK hk).1⟩
     ·rw[iH,if_pos rfl,BB hk]
     ·rw[iH,if_pos rfl,(rK hk).2]
   rcases Px rS with hk|hk|hk
   ·rw[if_pos (by simpa using hk)];unfold zE;rw[bN,if_pos (by simpa using hk),al];exact .inl ⟨22,_,_,_,_,by omega,rfl,rfl⟩
   ·rw[if_neg (by simp[hk]),bN,if_neg (by simp[hk]),bN];have e2:Dh N (lB N c9) v.node x=aqP (decide (v.node=x.a)):=by
     unfold Dh;rw[if_pos (by simpa using hk),bN];congr 1
    have hR:Di N (lB N c9) v.node x=aqP (decide (v.node=x.b)):=by unfold Di;rw[if_pos (by simpa using hk),bN];congr 1
    by_cases au:v.node=x.a
    ·rw[if_neg (by simpa using au)];unfold zE;rw[bN,if_neg (by simp[hk]),e2,al,if_pos (by simpa using au)];have he:bZ x=[x.a,x.b,x.c]:=by unfold bZ;rw[if_neg (by omega),if_pos hk]
     have adh:dJ.mk (bF l v.ak v.node) x.b∈mg l:=by rw[NY];show x.b∈cV l (bF l v.ak v.node);rw[Da aI U,he];simp
     have adi:dJ.mk (bF l v.ak v.node) x.c∈mg l:=by rw[NY];show x.c∈cV l (bF l v.ak v.node);rw[Da aI U,he];simp
     rcases Lv N bi bu aw pO c9 _ d0 o t0 cS adh (TY gH.ok gH.fC) Uu with ⟨e,cD,o',g,db,h1,J,aj⟩|⟨d1,gm,t1,MZ,J,aj,aM,br,dt⟩
     ·unfold tV at J;unfold uN at aj;simp only at J aj;rw[J,aj,al,al,if_pos (by simpa using h1),if_pos (by simpa using h1),al];exact .inl ⟨e,_,_,_,_,h1,rfl,rfl⟩
     ·unfold tV at J;unfold uN at aj;simp only at J aj;rw[J,aj,al,al,if_neg (by simp),if_neg (by simp)];dsimp only;rcases Lv N bi bu aw pO c9 _ d1 gm t1 MZ adi aM (Nat.lt_of_le_of_lt (afV br.sub) Uu) with ⟨e,cD,o',g,db,bt,bE,cM⟩|⟨d2,gV,t2,ad6,bE,cM,fI,nm,B3⟩
      ·unfold tV at bE;unfold uN at cM;simp only at bE cM;rw[bE,cM,al,al,al];exact .inl ⟨e,_,_,_,_,bt,rfl,rfl⟩
      ·unfold tV at bE;unfold uN at cM;simp only at bE cM;rw[bE,cM,al,al,al];have EW:=br.trans nm;refine .inr ⟨d2,gV,t2,ad6,rfl,rfl,fI,⟨fun u hu=>EW.sub u (UT u hu),EW.mono,fun u c4 a2=> ?_⟩, .inr (EW.sub v jq)⟩;by_cases a3:gp d0 u
       ·rw[iE u a3 a2];refine ⟨BL,x,U,by omega,fun h=>by omega,fun _ h=>absurd au h,fun _ _=>⟨dt.imp id (nm.sub _),B3⟩⟩
       ·exact EW.tn u c4 a3
    ·rw[if_pos (by simpa using au)];unfold zE;rw[bN,if_neg (c:=(x.kind==1)=aqQ) (by simp[hk]),e2,al,if_neg (c:=decide (v.node=x.a)=aqQ) (by simpa using au),hR,al];unfold pr;by_cases aa:v.node=x.b
     ·rw[if_pos (by simpa using aa),if_pos (by simpa using aa),al,al];exact step 2 (.inl ⟨hk, .inr rfl⟩) (by omega) (by omega) (fun _=>⟨au,by rw[if_pos aa]⟩) _ rfl
     ·rw[if_neg (by simpa using aa),if_neg (by simpa using aa),al,bN,if_pos (by simpa using hk),al];exact step 1 (.inl ⟨hk, .inl rfl⟩) (by omega) (by omega) (fun _=>⟨au,by rw[if_neg aa]⟩) _ rfl
   ·rw[if_neg (by simp[hk]),bN,if_pos (by simpa using hk)];unfold zE Dh Di;rw[bN,if_neg (by simp[hk]),if_neg (by simp[hk]),al,if_neg (by simp),if_neg (by simp[hk]),al,if_neg (by simp),bN,if_neg (by simp[hk]),al];exact step 4 (.inr ⟨hk,rfl⟩) (by omega) (fun _=>rfl) (fun h=>by omega) _ rfl
end Go.W
end
section
namespace Go.W
open Go.aS
def qX (x:aC) (v:aU):Int:=if v.bm=x.b\/v.out=x.b then x.c else x.b
theorem agX (N:Nat) (x:aC) (v:aU):I1 N x v=aqP (qX x v):=by
 have h:Ig N x v=aqP (decide (v.bm=x.b\/v.out=x.b)):=by
  unfold Ig;by_cases h:v.bm=x.b
  ·rw[if_pos (by simpa using h)];simp[h]
  ·rw[if_neg (by simpa using h)];congr 1;rw[arV];simp[h]
 unfold I1 qX;rw[h,al];by_cases h:v.bm=x.b\/v.out=x.b
 ·rw[if_pos (by simpa using h),if_pos h]
 ·rw[if_neg (by simpa using h),if_neg h]
structure pv (l:List aC) (r:List aU) (i:Nat) (d:iA) (o:jh):Prop where
 tn:∀u,gp d u->Az l (b4 r) d o u
 LM:∀v∈r.take i,∀x,l[v.ak.toNat]? =aqP x->x.kind=2->AA l (b4 r) d (dJ.mk v.ak (qX x v))
theorem NC (N:Nat) (bi:3000<=N) {l:List aC} (bu:ef l) {r:List aU} (aw:r.length<=1000) (Mv:∀v∈r,0<=v.ak/\v.ak<l.length) {o2:AF} (pO:AG o2 (b4 r)):
  ∀(k n i:Nat) (d:iA) (o:jh) (t:pz) (cS:List aW),k<n->i+k=r.length->xP l (b4 r) d o t cS->pv l r i d o->
  (∃e,e≠0/\sL N l r (r.length:Int) o2 n [] i o [] d=aqP (.inr e)/\sN N l r n (dI.mk l r cS []) i t=aqP (.inr e))\/
  (∃cD o' db mz,sL N l r (r.length:Int) o2 n [] i o [] d=aqP (.inl ([],o'))/\sN N l r n (dI.mk l r cS []) i t=aqP (.inl (dI.mk l r mz [],db))/\xP l (b4 r) cD o' db mz/\pv l r r.length cD o')
 |k,0,i,d,o,t,cS,aq,_,_,_=>by omega
 |0,n+1,i,d,o,t,cS,aq,ae,gH,cb=>by
  obtain rfl:i=r.length:=by omega
  rw[sL,if_neg (cw (by omega)),sN,if_neg (cw (by omega))];exact .inr ⟨d,o,t,cS,rfl,rfl,gH,cb⟩
 |k+1,n+1,i,d,o,t,cS,aq,ae,gH,cb=>by
  have ai:=bu.len;have ad:=cI (xs:=r) (i:=i) (by omega);obtain ⟨v,BX⟩:∃v,v=r[i]:=⟨_,rfl⟩
  rw[<-BX] at ad;have n0:=aq7 ad;obtain ⟨aI,h1⟩:=Mv v n0;obtain ⟨a,au⟩:=arw aI;have U:=cI (xs:=l) (i:=a) (by omega);obtain ⟨x,ko⟩:∃x,x=l[a]:=⟨_,rfl⟩
  rw[<-ko] at U;have jR:l[v.ak.toNat]? =aqP x:=by rw[au,arZ];exact U
  have B0:=OD aI jR;have gC:∀u,u∈r.take (i+1)↔u∈r.take i\/u=v:=fun u=>by rw[l0 ad];simp
  rw[sL,if_pos (cA (by omega)),sN,if_pos (cA (by omega))];unfold PN PO;rw[cC ad,al,B0,al,al,B0,al];by_cases hk:x.kind=2
  ·rw[if_pos (by simpa using hk),if_neg (by simp[hk]),agX,al,al,Yj N B0,al];have an:qS x v=if v.bm=x.b\/v.out=x.b then 1 else 2:=by unfold qS;rw[if_neg (by omega),if_pos hk]
   have J:Ib N x x.b (qS x v==1)=aqP (qX x v):=by
    unfold Ib qX;by_cases h:v.bm=x.b\/v.out=x.b
    ·rw[if_pos (by rw[an,if_pos h];rfl),if_pos h]
    ·rw[if_neg (by rw[an,if_neg h];decide),if_neg h]
   rw[J,al,al];have he:bZ x=[x.a,x.b,x.c]:=by unfold bZ;rw[if_neg (by omega),if_pos hk]
   have lT:dJ.mk v.ak (qX x v)∈mg l:=by rw[NY];show qX x v∈cV l v.ak;rw[Da aI jR,he];unfold qX;split<;>simp
   rcases Lv N bi bu aw pO N _ d o t cS lT gH (by have:=aia l ai d;omega) with ⟨e,cD,o',g,db,bt,bE,cM⟩|⟨d1,gm,t1,MZ,bE,cM,fI,nm,B3⟩
   ·unfold tV at bE;unfold uN at cM;simp only at bE cM;rw[bE,cM,al,al,if_pos (by simpa using bt),if_pos (by simpa using bt),al,al];exact .inl ⟨e,bt,rfl,rfl⟩
   ·unfold tV at bE;unfold uN at cM;simp only at bE cM;rw[bE,cM,al,al,if_neg (by simp),if_neg (by simp),al,al];dsimp only;rw[dh (by omega),bN];refine NC N bi bu aw Mv pO k n (i+1) d1 gm t1 MZ (by omega) (by omega) fI ⟨fun u hu=> ?_,fun u hu y ag Fk=> ?_⟩
    ·by_cases h:gp d u
     ·exact (cb.tn u h).mono nm.sub nm.mono
     ·exact nm.tn u hu h
    ·rcases (gC u).1 hu with hu|rfl
     ·exact (cb.LM u hu y ag Fk).imp id (nm.sub _)
     ·rw[jR] at ag;cases ag;exact B3
  ·rw[if_neg (by simpa using hk),if_pos (by simpa using hk),al,al];dsimp only;rw[dh (by omega),bN];refine NC N bi bu aw Mv pO k n (i+1) d o t cS (by omega) (by omega) gH ⟨cb.tn,fun u hu y ag Fk=> ?_⟩;rcases (gC u).1 hu with hu|rfl
   ·exact cb.LM u hu y ag Fk
   ·rw[jR] at ag;cases ag;exact absurd Fk hk
structure xR (l:List aC) (r:List aU) (s:List aW) (d:iA) (o:jh):Prop where
 lt:s.Pairwise fun a b=>a.ak<b.ak
 mem:∀y,y∈s↔y∈h3 l r\/bs o y.ak=aqP y.eo
 ok:rj l (b4 r) o
 dM:pv l r r.length d o
theorem Xa (N:Nat) (bi:3000<=N) {g:dI} (ai:g.cS.length<=1000) (aN:g.cS.Pairwise fun a b=>a.ak<b.ak):∀(k n i:Nat) (s:List aW),k<n->i+k=g.cS.length->s.length<=1000+i->(s.Pairwise fun a b=>a.ak<b.ak)->(∀y∈s,∀z∈g.cS.drop i,y.ak≠z.ak)->
  ∃cc,w1 N g n s i=aqP cc/\(cc.Pairwise fun a b=>a.ak<b.ak)/\∀y,y∈cc↔y∈s\/y∈g.cS.drop i
 |k,0,i,s,aq,_,_,_,_=>by omega
 |0,n+1,i,s,aq,ae,az,an,aB=>by
  obtain rfl:i=g.cS.length:=by omega
  rw[w1,if_neg (cw (by omega))];exact ⟨s,rfl,an,fun y=>by rw[asd];simp⟩
 |k+1,n+1,i,s,aq,ae,az,an,aB=>by
  have ad:=cI (xs:=g.cS) (i:=i) (by omega);obtain ⟨v,BX⟩:∃v,v=g.cS[i]:=⟨_,rfl⟩
  rw[<-BX] at ad;have qz:g.cS.drop i=v::g.cS.drop (i+1):=jt ad;rw[qz] at aB;obtain ⟨s1,h1,J,aj,aM⟩:=Pd N (s:=s) (x:=v) (by omega) (by omega) an fun y ag=>aB y ag v arn;rw[w1,if_pos (cA (by omega)),cC ad,al,h1,al,bN,dh (by omega)];have km:(v::g.cS.drop (i+1)).Pairwise fun a b=>a.ak<b.ak:=by rw[<-qz];exact aN.sublist (auo _ _)
  obtain ⟨cc,g1,g2,g3⟩:=Xa N bi ai aN k n (i+1) s1 (by omega) (by omega) (by omega) J fun y ag z aE=>by
   rcases (aj y).1 ag with rfl|ag
   ·have:=(at'.1 km).1 z aE;omega
   ·exact aB y ag z (ard _ aE)
  refine ⟨cc,g1,g2,fun y=> ?_⟩;rw[g3,aj,qz,aq6];constructor
  ·rintro ((h|h)|h)
   ·exact .inr (.inl h)
   ·exact .inl h
   ·exact .inr (.inr h)
  ·rintro (h|h|h)
   ·exact .inl (.inr h)
   ·exact .inl (.inl h)
   ·exact .inr h
theorem Nr {ap bx:Type} [DecidableEq ap]:∀{m:List (ap×bx)},(m.map ase).Nodup->∀{p:ap×bx},p∈m->bs m p.1=aqP p.2
 |[],_,p,h=>by cases h
 |q::m,aB,p,h=>by
  rw[arG,asQ] at aB;simp only[bs];rcases aq6.1 h with rfl|h
  ·rw[if_pos rfl]
  ·rw[if_neg (fun he=>aB.1 (by rw[he];exact aq'.2 ⟨p,h,rfl⟩))];exact Nr aB.2 h
theorem VF {ap bx:Type} [DecidableEq ap]:∀{m:List (ap×bx)} {a:ap} {b:bx},bs m a=aqP b->(a,b)∈m
 |[],a,b,h=>by simp[bs] at h
 |q::m,a,b,h=>by
  simp only[bs] at h;split at h
  ·rename_i aK;cases h;rw[<-aK];simp
  ·exact ard _ (VF h)
theorem agf {l:List aC} {r:List aU} {y:aW} (h:y∈h3 l r):y.ak∈b4 r:=(F5 l r).subset (aq'.2 ⟨y,h,rfl⟩)
theorem afj (N:Nat) (bi:6000<=N) {l:List aC} (ai:l.length<=96) {r:List aU} (aw:r.length<=1000) (ht:∀x∈l,x.name.length<N/\x.name.length<=9223372036854775807):
  (¬jC l r/\nF N l r=aqP ([],1)/\pq N l r=aqP ([],1))\/(jC l r/\∃e,e≠0/\nF N l r=aqP ([],e)/\pq N l r=aqP ([],e))\/
  (jC l r/\∃s d o,nF N l r=aqP (s,0)/\pq N l r=aqP (s,0)/\xR l r s d o/\s.length<=1000):=by
 obtain ⟨b,DA,dA,dm,ei,gb,hi,tU⟩:=ahH N (l:=l) (r:=r) (by omega) (by omega) (by omega) (fun _=>ht);by_cases bp:jC l r
 ·have bu:=ef.of bp.1;have az:=Wf N (by omega) bu bp (by omega);rw[gb] at az;cases az;obtain ⟨own,qG⟩:∃own,own=lv (h3 l r):=⟨_,rfl⟩
  rw[<-qG] at gb hi tU;have ace:((h3 l r).map aW.ak).Nodup:=(F5 l r).nodup bp.2.2;have Vo:own.Pairwise fun a b=>a.ak<b.ak:=by rw[qG];exact y5 ace
  have M8:∀y,y∈own↔y∈h3 l r:=fun y=>by rw[qG];exact Ci
  unfold nF pq;rw[gb,hi,al,al,if_neg (by simp),if_neg (by simp)];unfold An;obtain ⟨o2,gm,gV⟩:=ahg N (r:=r) (by omega) (by omega);rw[gm,al];have gH:xP l (b4 r) [] [] [] []:=⟨fun v h=>by simp[gp,bs] at h,fun v h=>by simp[tb,bs] at h,⟨by simp,fun i p h=>by simp[bs] at h⟩,⟨List.Pairwise.nil,fun y=>by simp[bs]⟩⟩
  rcases NC N (by omega) bu aw bp.2.1.ok gV r.length N 0 [] [] [] [] (by omega) (by omega) gH ⟨fun u h=>by simp[gp,bs] at h,fun v h=>by simp at h⟩ with ⟨e,bt,bE,cM⟩|⟨d,o,t,cS,bE,cM,fI,nm⟩
  ·rw[show sL N l r (r.length:Int) o2 N [] 0 [] [] []=_ from bE,show sN N l r N (dI.mk l r [] []) 0 []=_ from cM,al,al];dsimp only;rw[al,if_pos (by simpa using bt)];exact .inr (.inl ⟨bp,e,bt,rfl,rfl⟩)
  ·rw[show sL N l r (r.length:Int) o2 N [] 0 [] [] []=_ from bE,show sN N l r N (dI.mk l r [] []) 0 []=_ from cM,al,al];dsimp only;rw[al,if_neg (by simp)];have ap8:=fI.ok.len fI.fC;have Uc:∀y∈own,∀p,bs o y.ak≠aqP p:=fun y ag p an=>(fI.ok.ok _ _ an).2.1 (agf ((M8 y).1 ag));obtain ⟨cc,b5,cd,dN⟩:=Xa N (by omega) (g:=dI.mk l r cS []) (by show cS.length<=1000;omega) fI.fC.lt cS.length N 0 own (by omega) (by show 0+cS.length=cS.length;omega) (by omega) Vo fun y ag z aE=>by
    have aE:z∈cS:=by simpa using aE
    intro he;have:=(fI.fC.mem z).1 aE;rw[<-he] at this;exact Uc y ag _ this
   have dN:∀y,y∈cc↔y∈own\/y∈cS:=fun y=>by simpa using dN y
   dsimp only;rw[show w1 N (dI.mk l r cS []) N own 0=_ from b5,al];have aqa:o.length<=96:=by
    have:=sa (b:=(arI l.length).map fun (i:Nat)=>(i:Int)) fI.ok.fC fun a au=>by obtain ⟨v,ad⟩:=ub.2 au;obtain ⟨aI,_,x,U,_⟩:=fI.ok.ok _ _ ad;have:=(aqZ.1 U).1;exact aq'.2 ⟨a.toNat,ar5.2 this,by omega⟩
    simp at this;omega
   have jJ:((own++o.map fun p=>aW.mk p.1 p.2).map aW.ak).Nodup:=by
    rw[ar3,arT];refine ⟨?_, ?_, ?_⟩
    ·unfold atS;rw[atp];exact Vo.imp fun h he=>by omega
    ·rw[List.map_map];exact fI.ok.fC
    ·intro a au c ab LK;obtain ⟨y,ag,rfl⟩:=aq'.1 au;obtain ⟨z,aE,rfl⟩:=aq'.1 ab;obtain ⟨p,an,rfl⟩:=aq'.1 aE;have:=Nr fI.ok.fC an;exact Uc y ag p.2 (by rw[LK];exact this)
   have aE:Dl N own o=aqP (lv (own++o.map fun p=>aW.mk p.1 p.2),0):=by unfold Dl zR;rw[if_pos ⟨by omega,jJ⟩];unfold ka;rw[if_pos (by rw[ari,arN];omega),al];rfl
   rw[aE,al];have hJ:∀y,y∈lv (own++o.map fun p=>aW.mk p.1 p.2)↔y∈h3 l r\/bs o y.ak=aqP y.eo:=fun y=>by
    rw[Ci,arc,M8];constructor
    ·rintro (h|h)
     ·exact .inl h
     ·obtain ⟨p,an,rfl⟩:=aq'.1 h;exact .inr (Nr fI.ok.fC an)
    ·rintro (h|h)
     ·exact .inl h
     ·exact .inr (aq'.2 ⟨_,VF h,rfl⟩)
   have dn:lv (own++o.map fun p=>aW.mk p.1 p.2)=cc:=Ge (y5 jJ) cd fun y=>by rw[hJ,dN,M8,fI.fC.mem]
   refine .inr (.inr ⟨bp,_,d,o,rfl,by rw[dn],⟨y5 jJ,hJ,fI.ok,nm⟩, ?_⟩);rw[Wa,ari,arN];omega
 ·have aa:b=aqT:=by
   obtain ⟨b2,h1,J⟩:=OW N (l:=l) (r:=r) (by omega) (by omega) (by omega);rw[dm] at h1;cases h1;cases b with
   |false=>rfl
   |true=>exact absurd (J.1 rfl) bp
  subst aa;have he:DA=[]/\dA=1:=by unfold s7 at gb;rw[dm,al,if_pos (by simp)] at gb;cases gb;exact ⟨rfl,rfl⟩
  obtain ⟨rfl,rfl⟩:=he;refine .inl ⟨bp, ?_, ?_⟩
  ·unfold nF;rw[gb,al,if_pos (by simp)]
  ·unfold pq;rw[hi,al,if_pos (by simp)]
end Go.W
end
section
namespace Go.W
open Go.aS
theorem am5 {l:List aC} (bu:ef l) {N:Nat} (bi:20<=N):∀x∈l,x.name.length<N/\x.name.length<=9223372036854775807:=fun x U=>by
 have h1:=(mE (bu.snd x U)).2.2.2;unfold kT at h1;simp only[aq5,decide_eq_true_eq] at h1;omega
theorem rh.of {l:List aC} {s:List aW} (h1:∀y∈s,lk l y) (J:s.Pairwise fun a b=>a.ak<b.ak):rh l s:=fun i y ag=>by
 refine ⟨h1 y (aq7 ag),fun z aE he=> ?_⟩;obtain ⟨j,ar,aE⟩:=GB.1 aE;obtain ⟨iC,hV⟩:=aqZ.1 ag;obtain ⟨gj,lM⟩:=aqZ.1 aE;have:=arH.1 J j i gj iC ar;rw[hV,lM] at this;omega
theorem YT {q:List aW} (h:q.Pairwise fun a b=>a.ak<b.ak) (ai:q.length<=1000): @ka aW ⟨aW.mk 0 0⟩ (fun a b=>fU a.ak b.ak) q=aqP q:=by
 have aq:(q.map aW.ak).Nodup:=by unfold atS;rw[atp];exact h.imp fun h he=>by omega
 have e:lv q=q:=Ge (y5 aq) h fun x=>Ci;unfold ka;rw[if_pos (by omega)];exact congrArg aqP e
end Go.W
end
section
namespace Go.W
open Go.aS
theorem NP {r:List aU} {k:Int}:k∈b4 r↔∃(j:Nat) (v:aU),r[j]? =aqP v/\v.ak=k:=by
 unfold b4;rw[aq'];constructor
 ·rintro ⟨v,ad,rfl⟩;obtain ⟨j,ar⟩:=arM ad;exact ⟨j,v,ar,rfl⟩
 ·rintro ⟨j,v,ar,rfl⟩;exact ⟨v,aq7 ar,rfl⟩
theorem aeU {l:List aC} {r:List aU} (bp:jC l r) {k n:Int} (hk:k∈b4 r) (aP:k≠(tt r).1) (ai:k≠(tt r).2) (aq:n∈cV l k) (ah:bF l k n∉b4 r):∃v∈r,∃x,v.ak=k/\l[k.toNat]? =aqP x/\x.kind=2/\n=qX x v:=by
 have bu:=ef.of bp.1;have cr:=bp.2.1;obtain ⟨j,v,ar,rfl⟩:=NP.1 hk;have gj:=(aqZ.1 ar).1;have dA:=cI (xs:=r) (i:=0) (by omega);have aX:=cI (xs:=r) (i:=r.length - 1) (by omega);have he:tt r=(r[0].ak,r[r.length - 1].ak):=by unfold tt;rw[dA,aX];rfl
 rw[he] at aP ai;have et:0<j:=by refine Nat.pos_of_ne_zero fun h=> ?_;subst h;rw[dA] at ar;cases ar;exact aP rfl
 have gv:j+1<r.length:=by
  refine Nat.lt_of_not_le fun h=> ?_;have:j=r.length - 1:=by omega
  subst this;rw[aX] at ar;cases ar;exact ai rfl
 have an:=cI (xs:=r) (i:=j - 1) (by omega);have aK:=cI (xs:=r) (i:=j+1) gv;have s1:=cr.step (j - 1) _ v an (by rw[show j - 1+1=j by omega];exact ar);have s2:=cr.step j v _ ar aK;have BG:=cr.mid j v et gv ar;have Um:=bu.Qu BG;have hJ:=wv BG;have kr:bF l v.ak v.bm∈b4 r:=by
  have fz:=cr.outs (i:=j - 1) (by omega) an;have aI:0<=bF l r[j - 1].ak r[j - 1].out:=by rw[<-s1.2.2];exact s1.2.1
  have:=bu.yS fz aI;rw[<-s1.2.2,<-s1.1] at this;rw[this];exact NP.2 ⟨j - 1,_,an,rfl⟩
 have jr:bF l v.ak v.out∈b4 r:=by rw[<-s2.2.2];exact NP.2 ⟨j+1,_,aK,rfl⟩
 have d1:n≠v.bm:=fun h=>ah (by rw[h];exact kr);have d2:n≠v.out:=fun h=>ah (by rw[h];exact jr);obtain ⟨aI,h1,x,U,lP⟩:=jb aq;have rS:=bu.snd x (aq7 U);have kL:=Da aI U;unfold fo at BG;rw[kL] at BG hJ;rcases Px rS with hk|hk|hk
 ·have:bZ x=[x.a,x.b]:=by unfold bZ;rw[if_pos (.inl hk)]
  rw[this] at hJ lP;simp only[aq6,asB,or_false] at hJ lP;have:=Um.2;omega
 ·refine ⟨v,aq7 ar,x,rfl,U,hk, ?_⟩;have:bZ x=[x.a,x.b,x.c]:=by unfold bZ;rw[if_neg (by omega),if_pos hk]
  obtain ⟨b5,cd,dN,ab⟩:=Nk rS hk BG;rw[this] at lP;simp only[aq6,asB,or_false] at lP;unfold qX;rcases ab with ⟨c1,_,c2⟩|⟨c1,c2⟩|⟨c1,c2⟩
  ·split<;>omega
  ·rw[if_pos (.inl c1)];omega
  ·rw[if_neg (by omega)];omega
 ·have:bZ x=[x.a,x.b]:=by unfold bZ;rw[if_pos (.inr hk)]
  rw[this] at hJ lP;simp only[aq6,asB,or_false] at hJ lP;have:=Um.2;omega
theorem aqr {l:List aC} {r:List aU} (bp:jC l r) {d:iA} {o:jh} (bi:pv l r r.length d o) {p:Int->Int} (an:∀i q,bs o i=aqP q->p i=q) {v:dJ} (h:xS (xr l (b4 r) p (tt r).1 (tt r).2 (id:dJ->dJ)) v):
  v.node∈cV l v.ak->v.ak∉b4 r->gp d (dJ.mk (bF l v.ak v.node) v.node):=by
 have bu:=ef.of bp.1;induction h with
 | @here v aB aP ax=>
  intro aq j2;have aI:0<=bF l v.ak v.node:=by simpa[xr] using aB
  have hk:bF l v.ak v.node∈b4 r:=by simpa[xr] using aP
  have ax:bF l v.ak v.node≠(tt r).1/\bF l v.ak v.node≠(tt r).2:=by simpa[xr] using ax
  have az:=bu.yS aq aI;obtain ⟨w,hw,x,h1,J,aj,aM⟩:=aeU bp hk ax.1 ax.2 (zk aI).1 (by rw[az];exact j2);rcases bi.LM w (by rw[asq];exact hw) x (by rw[h1];exact J) aj with ao|gO
  ·exfalso;unfold jD at ao;simp only[h1,<-aM,az] at ao;rcases ao with ao|ao
   ·have:=(jb aq).1;omega
   ·exact j2 ao
  ·rw[h1,<-aM] at gO;exact gO
 | @step v u aB aP hu aw a8=>
  intro aq j2;have aI:0<=bF l v.ak v.node:=by simpa[xr] using aB
  have rM:bF l v.ak v.node∉b4 r:=by simpa[xr] using aP
  have az:=bu.yS aq aI;obtain ⟨m,hm,rfl⟩:=aq'.1 hu;obtain ⟨k,hk⟩:∃k,k=bF l v.ak v.node:=⟨_,rfl⟩
  rw[<-hk] at hm a8 aI rM az⊢;have UB:v.node∈cV l k:=by rw[hk];exact (zk (by rw[<-hk];exact aI)).1
  obtain ⟨x,U⟩:∃x,l[k.toNat]? =aqP x:=by obtain ⟨_,_,x,U,_⟩:=jb UB;exact ⟨x,U⟩
  have kL:=Da aI U;have gB:m∈v8 x (p k) v.node:=by unfold Vp at hm;rw[if_pos aI,U] at hm;exact hm
  have yz:m∈cV l k:=by rw[kL];exact agN gB
  have gO:=a8 yz rM;simp only at gO;obtain ⟨BL,y,ag,c1,ry,c2,qq⟩:=bi.tn _ gO;have ach:0<=bF l k m:=by have:=aw.live;rw[<-hk] at this;simpa[xr] using this
  have ac6:=bu.yS yz ach;simp only[ac6] at ag ry c2 qq;rw[U] at ag;cases ag;have rS:=bu.snd x (aq7 U);rcases Px rS with oQ|oQ|oQ
  ·exact absurd oQ c1
  ·have he:bZ x=[x.a,x.b,x.c]:=by unfold bZ;rw[if_neg (by omega),if_pos oQ]
   have km:=(mE rS).1;rw[he] at km;simp at km;have lP:v.node∈bZ x:=by rw[<-kL];exact UB
   rw[he] at lP;simp only[aq6,asB,or_false] at lP;by_cases au:m=x.a
   ·have aa:v.node≠x.a:=by
     intro j6;unfold v8 at gB;rw[if_neg (by omega)] at gB;split at gB
     ·have:=arO.1 gB;omega
     ·split at gB
      ·have:=arO.1 gB;omega
      ·obtain ⟨b5,cd,dN,ab⟩:=Nk rS oQ gB;omega
    have ax:=qq oQ au;have hw:AA l (b4 r) d (dJ.mk k v.node):=by
     rcases lP with h|h|h
     ·exact absurd h aa
     ·rw[h];exact ax.1
     ·rw[h];exact ax.2
    rcases hw with ao|hw
    ·exfalso;unfold jD at ao;simp only[az] at ao;rcases ao with ao|ao
     ·have:=(jb aq).1;omega
     ·exact j2 ao
    ·exact hw
   ·exfalso;have nf:=an _ _ (c2 oQ au);unfold v8 at gB;rw[if_neg (by omega)] at gB;split at gB
    ·rename_i h;have:=arO.1 gB;rw[if_pos this] at nf;omega
    ·split at gB
     ·rename_i h1 h;have:=arO.1 gB;have dB:m≠x.b:=by omega
      rw[if_neg dB] at nf;omega
     ·rename_i h1 J;obtain ⟨b5,cd,dN,ab⟩:=Nk rS oQ gB;rcases ab with ⟨aX,_,e2⟩|⟨_,e⟩|⟨_,e⟩
      ·rcases e2 with e2|e2
       ·rw[if_pos e2] at nf;exact J ⟨oQ,aX,nf⟩
       ·rw[if_neg (by omega)] at nf;exact h1 ⟨oQ,aX,nf⟩
      ·exact au e
      ·exact au e
  ·exfalso;have nf:=an _ _ (ry oQ);unfold v8 at gB;rw[if_pos ⟨oQ,nf⟩] at gB;cases gB
theorem Yy {s:List aW} (az:s.Pairwise fun a b=>a.ak<b.ak) {y:aW} (ag:y∈s):oF s y.ak=y.eo:=by
 unfold oF;cases aP:s.find? (fun z=>z.ak==y.ak) with
 |none=>have:=aup.1 aP y ag;simp at this
 |some z=>have h1:=auq aP;have J:=List.find?_some aP;rw[afv az h1 ag (by simpa using J)]
theorem age {l:List aC} {r:List aU} (cr:ke l r) {y:aW} (h:y∈h3 l r):lk l y:=by
 obtain ⟨v,ad,ag⟩:=asz.1 h;have he:=O4 ag;obtain ⟨aI,h1⟩:=cr.ok v ad;unfold pn at ag;split at ag
 ·rename_i x U;refine ⟨by rw[he];exact aI,x,by rw[he];exact U, ?_⟩;unfold sX at ag;split at ag
  ·rename_i hk;have:=arO.1 ag;subst this;exact .inr ⟨hk, .inl rfl⟩
  ·split at ag
   ·rename_i hk;split at ag
    ·have:=arO.1 ag;subst this;exact .inl ⟨hk, .inl rfl⟩
    ·have:=arO.1 ag;subst this;exact .inl ⟨hk, .inr rfl⟩
   ·cases ag
 ·cases ag
theorem xR.lk {l:List aC} {r:List aU} (cr:ke l r) {s:List aW} {d:iA} {o:jh} (h:xR l r s d o):∀y∈s,lk l y:=fun y ag=>by
 rcases (h.mem y).1 ag with ag|ag
 ·exact age cr ag
 ·obtain ⟨aI,_,x,U,hk⟩:=h.ok.ok _ _ ag;refine ⟨aI,x,U, ?_⟩;rcases hk with hk|hk
  ·exact .inl hk
  ·exact .inr ⟨hk.1, .inr hk.2⟩
end Go.W
end
section
namespace Go.W
open Go.aS
theorem XN {ap bx:Type} {l:List ap} (p:ap->Bool) (out:bx) (F:Nat->Int->Option (Sum Unit bx)) (aI:∀n,F (n+1) (l.length:Int)=aqP (.inl ()))
  (h1:∀(n i:Nat) (x:ap),l[i]? =aqP x->F (n+1) (i:Int)=if p x=aqQ then aqP (.inr out) else F n ((i+1:Nat):Int)):∀(k n i:Nat),k<n->i+k=l.length->F n (i:Int)=aqP (if (l.drop i).any p=aqQ then .inr out else .inl ())
 |k,0,i,aq,_=>by omega
 |0,n+1,i,aq,ae=>by
  obtain rfl:i=l.length:=by omega
  rw[aI,asd];rfl
 |k+1,n+1,i,aq,ae=>by
  have aN:i<l.length:=by omega
  rw[h1 n i _ (cI aN),jt (cI aN),asD];by_cases h:p l[i]=aqQ
  ·rw[if_pos h,h];rfl
  ·rw[if_neg h,XN p out F aI h1 k n (i+1) (by omega) (by omega)];rw[arQ] at h;rw[h,arS]
theorem nu {ap bx:Type} {l:List ap} (p:ap->Bool) (out:bx) (F:Nat->Int->Option (Sum Unit bx)) (N:Nat) (bi:l.length<N) (aI:∀n,F (n+1) (l.length:Int)=aqP (.inl ()))
  (h1:∀(n i:Nat) (x:ap),l[i]? =aqP x->F (n+1) (i:Int)=if p x=aqQ then aqP (.inr out) else F n ((i+1:Nat):Int)):F N 0=aqP (if l.any p=aqQ then .inr out else .inl ()):=by
 have h:=XN p out F aI h1 l.length N 0 bi (by omega);rw[arv] at h;exact h
def x6 (a b:bf):Bool:=a.dW.any fun v=>(b4 b.dW).contains v.ak
def mT (s t:aW):Bool:=s.ak==t.ak&&s.eo !=t.eo
def x5 (a b:bf):Bool:=a.dH.any fun s=>b.dH.any (mT s)
def ea (a b:bf):Bool:=x6 a b||x5 a b
theorem CZ {a b:bf}:ea a b=aqQ↔(∃e,e∈b4 a.dW/\e∈b4 b.dW)\/∃s∈a.dH,∃t∈b.dH,s.ak=t.ak/\s.eo≠t.eo:=by
 unfold ea x6 x5 mT;simp only[Bool.or_eq_true,ast,aq5,beq_iff_eq,bne_iff_ne,atO,b4,aq'];constructor
 ·rintro (⟨v,ad,w,hw,h⟩|h)
  ·exact .inl ⟨v.ak,⟨v,ad,rfl⟩,w,hw,h⟩
  ·exact .inr h
 ·rintro (⟨e,⟨v,ad,rfl⟩,w,hw,h⟩|h)
  ·exact .inl ⟨v,ad,w,hw,h⟩
  ·exact .inr h
theorem G0 (a b:bf):ea a b=ea b a:=by
 have key:∀a b:bf,ea a b=aqQ->ea b a=aqQ:=fun a b h=>by
  rcases CZ.1 h with ⟨e,h1,J⟩|⟨s,az,t,ao,h1,J⟩
  ·exact CZ.2 (.inl ⟨e,J,h1⟩)
  ·exact CZ.2 (.inr ⟨t,ao,s,az,h1.symm,fun h=>J h.symm⟩)
 rw[arV];exact ⟨key a b,key b a⟩
theorem aeD (r:List aU) (x:Int):(r.any fun w=>x==w.ak)=(b4 r).contains x:=by
 rw[arV];simp only[ast,beq_iff_eq,atO,b4,aq'];constructor
 ·rintro ⟨w,hw,h⟩;exact ⟨w,hw,h.symm⟩
 ·rintro ⟨w,hw,h⟩;exact ⟨w,hw,h.symm⟩
def lC (x:bf):Prop:=x.dW.length<=1000/\x.dH.length<=1000
theorem YK (N:Nat) (bi:3000<=N) {a b:bf} (au:lC a) (aa:lC b):DW N a b=aqP (ea a b):=by
 obtain ⟨nR,kg⟩:=au;obtain ⟨oP,nS⟩:=aa;have aI:sH N a b N 0=aqP (if x6 a b=aqQ then .inr aqQ else .inl ()):=nu (fun v=>(b4 b.dW).contains v.ak) aqQ (fun n i=>sH N a b n i) N (l:=a.dW) (by omega) (fun n=>by
   show sH N a b (n+1) _=_;rw[sH,if_neg (cw (by omega))]) fun n i v ad=>by
  have ai:=(aqZ.1 ad).1;show sH N a b (n+1) i=_;rw[sH,if_pos (cA (by omega)),cC ad,al,y8 N (by omega) (by omega),al,bN,dh (by omega)]
 have J:∀(i:Nat) (s:aW),a.dH[i]? =aqP s->sJ N a b i N 0=aqP (if b.dH.any (mT s)=aqQ then .inr aqQ else .inl ()):=fun i s az=>nu (mT s) aqQ (fun n j=>sJ N a b i n j) N (l:=b.dH) (by omega) (fun n=>by
   show sJ N a b i (n+1) _=_;rw[sJ,if_neg (cw (by omega))]) fun n j t ao=>by
  have ai:=(aqZ.1 ao).1;show sJ N a b i (n+1) j=_;have aj:H9 N a b i j=aqP (mT s t):=by
   unfold H9 mT;rw[cC az,al,cC ao,al];by_cases h:s.ak=t.ak
   ·rw[if_pos (by simpa using h),al,al];simp[h]
   ·rw[if_neg (by simpa using h)];simp[h]
  rw[sJ,if_pos (cA (by omega)),aj,al,bN,dh (by omega)]
 have h1:sI N a b N 0=aqP (if x5 a b=aqQ then .inr aqQ else .inl ()):=nu (fun s=>b.dH.any (mT s)) aqQ (fun n i=>sI N a b n i) N (l:=a.dH) (by omega) (fun n=>by
   show sI N a b (n+1) _=_;rw[sI,if_neg (cw (by omega))]) fun n i s az=>by
  have ai:=(aqZ.1 az).1;show sI N a b (n+1) i=_;rw[sI,if_pos (cA (by omega)),J i s az,al];by_cases h:b.dH.any (mT s)=aqQ
  ·rw[if_pos h,if_pos h]
  ·rw[if_neg h,if_neg h];dsimp only;rw[bN,dh (by omega)]
 unfold DW ea;rw[aI,al];by_cases h:x6 a b=aqQ
 ·rw[if_pos h,h];rfl
 ·rw[if_neg h];rw[arQ] at h;dsimp only;rw[h1,al,h];by_cases h:x5 a b=aqQ
  ·rw[if_pos h,h];rfl
  ·rw[if_neg h];rw[arQ] at h;rw[h];rfl
theorem Yv (N:Nat) (bi:3000<=N) {a b:bf} (au:lC a) (aa:lC b):xB N a b=aqP (ea a b):=by
 obtain ⟨nR,kg⟩:=au;obtain ⟨oP,nS⟩:=aa;have h1:∀v:aU,sv N v b.dW (b.dW.length:Int) N 0=aqP (if (b4 b.dW).contains v.ak=aqQ then .inr aqQ else .inl ()):=fun v=>by
  rw[<-aeD];exact nu (fun w=>v.ak==w.ak) aqQ (fun n i=>sv N v b.dW (b.dW.length:Int) n i) N (l:=b.dW) (by omega) (fun n=>by
   show sv N v b.dW (b.dW.length:Int) (n+1) _=_;rw[sv,if_neg (cw (by omega))]) fun n i w hw=>by
   have ai:=(aqZ.1 hw).1;show sv N v b.dW (b.dW.length:Int) (n+1) i=_;rw[sv,if_pos (cA (by omega)),cC hw,al,dh (by omega)]
 have aI:sl N b a.dW (a.dW.length:Int) N 0=aqP (if x6 a b=aqQ then .inr aqQ else .inl ()):=nu (fun v=>(b4 b.dW).contains v.ak) aqQ (fun n i=>sl N b a.dW (a.dW.length:Int) n i) N (l:=a.dW) (by omega) (fun n=>by
   show sl N b a.dW (a.dW.length:Int) (n+1) _=_;rw[sl,if_neg (cw (by omega))]) fun n i v ad=>by
  have ai:=(aqZ.1 ad).1;show sl N b a.dW (a.dW.length:Int) (n+1) i=_;rw[sl,if_pos (cA (by omega)),cC ad,al,h1,al];by_cases h:(b4 b.dW).contains v.ak=aqQ
  ·rw[if_pos h,if_pos h]
  ·rw[if_neg h,if_neg h];dsimp only;rw[dh (by omega)]
 have aj:∀s:aW,sx N s b.dH (b.dH.length:Int) N 0=aqP (if b.dH.any (mT s)=aqQ then .inr aqQ else .inl ()):=fun s=>nu (mT s) aqQ (fun n j=>sx N s b.dH (b.dH.length:Int) n j) N (l:=b.dH) (by omega) (fun n=>by
   show sx N s b.dH (b.dH.length:Int) (n+1) _=_;rw[sx,if_neg (cw (by omega))]) fun n j t ao=>by
  have ai:=(aqZ.1 ao).1;show sx N s b.dH (b.dH.length:Int) (n+1) j=_;have aM:HF N s t=aqP (mT s t):=by
   unfold HF mT;by_cases h:s.ak=t.ak
   ·rw[if_pos (by simpa using h)];simp[h]
   ·rw[if_neg (by simpa using h)];simp[h]
  rw[sx,if_pos (cA (by omega)),cC ao,al,aM,al,dh (by omega)]
 have J:sw N b a.dH (a.dH.length:Int) N 0=aqP (if x5 a b=aqQ then .inr aqQ else .inl ()):=nu (fun s=>b.dH.any (mT s)) aqQ (fun n i=>sw N b a.dH (a.dH.length:Int) n i) N (l:=a.dH) (by omega) (fun n=>by
   show sw N b a.dH (a.dH.length:Int) (n+1) _=_;rw[sw,if_neg (cw (by omega))]) fun n i s az=>by
  have ai:=(aqZ.1 az).1;show sw N b a.dH (a.dH.length:Int) (n+1) i=_;rw[sw,if_pos (cA (by omega)),cC az,al,aj,al];by_cases h:b.dH.any (mT s)=aqQ
  ·rw[if_pos h,if_pos h]
  ·rw[if_neg h,if_neg h];dsimp only;rw[dh (by omega)]
 unfold xB ea;rw[aI,al];by_cases h:x6 a b=aqQ
 ·rw[if_pos h,h];rfl
 ·rw[if_neg h];rw[arQ] at h;dsimp only;rw[J,al,h];by_cases h:x5 a b=aqQ
  ·rw[if_pos h,h];rfl
  ·rw[if_neg h];rw[arQ] at h;rw[h];rfl
def jH (s:List bf) (id:Int):Int:=p6 (fun _ (x:bf)=>x.gR==id) 0 s
theorem Pt (N:Nat) {s:List bf} (az:s.length<=1000) (bi:3000<=N) (id:Int):Ap N s id=aqP (jH s id):=by
 have h:=jT (fun _ (x:bf)=>x.gR==id) (fun i _=>(i:Int)) (fun n i=>sU N s id n i) (l:=s) (fun n=>by
   show sU N s id (n+1) _=_;rw[sU,if_neg (cw (by omega))]) (fun n i x U=>by
  have ai:=(aqZ.1 U).1;show sU N s id (n+1) i=_;rw[sU,if_pos (cA (by omega)),cC U,al,bN,dh (by omega)]) s.length N 0 (by omega) (by omega)
 rw[arv] at h;unfold Ap jH;rw[show sU N s id N 0=_ from h,al];rcases y3 (fun _ (x:bf)=>x.gR==id) s 0 with ⟨h1,J⟩|⟨h1,_⟩
 ·rw[h1,J]
 ·rw[h1]
theorem Yw (N:Nat) {s:List bf} (az:s.length<=1000) (bi:3000<=N) (id:Int):DR N s id=aqP (jH s id):=by
 have h:=jT (fun _ (x:bf)=>x.gR==id) (fun i _=>(i:Int)) (fun n i=>sj N s id (s.length:Int) n i) (l:=s) (fun n=>by
   show sj N s id (s.length:Int) (n+1) _=_;rw[sj,if_neg (cw (by omega))]) (fun n i x U=>by
  have ai:=(aqZ.1 U).1;show sj N s id (s.length:Int) (n+1) i=_;have hk:QT N x id=aqP (x.gR==id):=rfl;rw[sj,if_pos (cA (by omega)),cC U,al,hk,al,dh (by omega)]) s.length N 0 (by omega) (by omega)
 rw[arv] at h;unfold DR QQ jH;rw[show sj N s id (s.length:Int) N 0=_ from h,al];rcases y3 (fun _ (x:bf)=>x.gR==id) s 0 with ⟨h1,J⟩|⟨h1,_⟩
 ·rw[h1,J];rfl
 ·rw[h1];rfl
theorem Hq (s:List bf) (id:Int):jH s id= -1/\(∀x∈s,x.gR≠id)\/∃(k:Nat) (x:bf),jH s id=(k:Int)/\s[k]? =aqP x/\x.gR=id:=by
 rcases F3 (fun _ (x:bf)=>x.gR==id) s 0 with ⟨h1,J⟩|⟨j,x,h1,J,aj,_⟩
 ·refine .inl ⟨h1,fun x U=> ?_⟩;obtain ⟨j,ar⟩:=arM U;simpa using J j x ar
 ·exact .inr ⟨j,x,by rw[jH,h1];simp,J,by simpa using aj⟩
theorem YP (N:Nat) {a:List aW} (au:a.length<=1000) (bi:3000<=N):DP N a a=aqP aqQ:=by
 have h:=nu (fun _:aW=>aqT) aqT (fun n i=>sz N a a n i) N (l:=a) (by omega) (fun n=>by
   show sz N a a (n+1) _=_;rw[sz,if_neg (cw (by omega))]) fun n i x U=>by
  have ai:=(aqZ.1 U).1;show sz N a a (n+1) i=_;rw[sz,if_pos (cA (by omega)),cC U,al,al,if_neg (by simp),if_neg (by simp),bN,dh (by omega)]
 unfold DP;rw[if_neg (by simp),show sz N a a N 0=_ from h,if_neg (by simp),al]
theorem ajl (N:Nat) {a:List aW} (au:a.length<=1000) (bi:3000<=N):IM N a a=aqP aqQ:=by
 have h:=nu (fun _:aW=>aqT) aqT (fun n i=>sk N a a (a.length:Int) n i) N (l:=a) (by omega) (fun n=>by
   show sk N a a (a.length:Int) (n+1) _=_;rw[sk,if_neg (cw (by omega))]) fun n i x U=>by
  have ai:=(aqZ.1 U).1;show sk N a a (a.length:Int) (n+1) i=_;rw[sk,if_pos (cA (by omega)),cC U,al,al,if_neg (by simp),if_neg (by simp),dh (by omega)]
 unfold IM;rw[if_neg (by simp),show sk N a a (a.length:Int) N 0=_ from h,if_neg (by simp),al]
structure Sw (N:Nat) (l:List aC) (x:bf):Prop where
 id:0<=x.gR
 mj:lC x
 p:nF N l x.dW=aqP (x.dH,0)
 r:pq N l x.dW=aqP (x.dH,0)
 rt:jC l x.dW
 Vw:∃d o,xR l x.dW x.dH d o
structure fN (N:Nat) (l:List aC) (s:List bf):Prop where
 len:s.length<=16
 ok:∀x∈s,Sw N l x
 r5:s.Pairwise fun a b=>a.gR≠b.gR/\ea a b=aqT
def pE (a b:bf):Bool:=(a.gR==b.gR)||ea a b
theorem aex (N:Nat) (bi:3000<=N) {a b:bf} (au:lC a) (aa:lC b):HY N a b=aqP (pE a b):=by
 unfold HY pE;by_cases h:a.gR=b.gR
 ·rw[if_pos (by simpa using h)];simp[h]
 ·rw[if_neg (by simpa using h),Yv N bi au aa,al];simp[h]
theorem Vz (N:Nat) (bi:3000<=N) {s:List bf} (az:∀x∈s,lC x) (ai:s.length<=1000) {a:bf} (au:lC a) {i:Nat} (ae:i<s.length):∀(k n j:Nat),k<n->j+k=i->
  wT N i a s (s.length:Int) n j=aqP (if ((s.take i).drop j).any (pE a)=aqQ then .inr (.inr aqT) else .inl ())
 |k,0,j,aq,_=>by omega
 |0,n+1,j,aq,ar=>by
  obtain rfl:j=i:=by omega
  rw[wT,if_pos (cA (by omega)),cC (cI ae),al,if_pos (nn (by omega)),List.drop_eq_nil_of_le (by simp;omega)];rfl
 |k+1,n+1,j,aq,ar=>by
  have aN:j<s.length:=by omega
  have ad:=cI aN;have gC:(s.take i)[j]? =aqP s[j]:=by rw[arD,if_pos (by omega)];exact ad
  rw[wT,if_pos (cA (by omega)),cC ad,al,if_neg (n9 (by omega)),aex N bi au (az _ (asu aN)),al,dh (by omega),jt gC,asD];by_cases h:pE a s[j]=aqQ
  ·rw[if_pos h,h];rfl
  ·rw[if_neg h,Vz N bi az ai au ae k n (j+1) (by omega) (by omega)];rw[arQ] at h;rw[h,arS]
def Qw (s:List bf):Sum Unit Bool:=ch (fun i x=>(s.take i).any (pE x)) (fun _ _=>aqT) 0 s
theorem agn (N:Nat) (bi:6000<=N) {l:List aC} (bu:ef l) {s:List bf} (az:∀x∈s,Sw N l x) (ai:s.length<=16):uU N l s=aqP (match Qw s with| .inl _=>aqQ| .inr b=>b):=by
 have J:∀(i:Nat) (x:bf),s[i]? =aqP x->HA N l s s i=aqP (if (s.take i).any (pE x)=aqQ then .inr aqT else .inl ()):=fun i x U=>by
  have aN:=(aqZ.1 U).1;have hk:=az x (aq7 U);have aj:HB N x x.dH 0=aqP aqT:=by unfold HB;rw[if_neg (cw (by have:=hk.id;omega)),if_neg (by simp),ajl N hk.mj.2 (by omega),al];rfl
  have aM:=Vz N (by omega) (fun y ag=>(az y ag).mj) (by omega) hk.mj aN i N 0 (by omega) (by omega);unfold HA;rw[cC U,al,hk.p,al,aj,al,if_neg (by simp),show wT N i x s (s.length:Int) N 0=_ from aM,al,arv];by_cases h:(s.take i).any (pE x)=aqQ
  ·rw[if_pos h,if_pos h]
  ·rw[if_neg h,if_neg h]
 have h:=jT (fun i x=>(s.take i).any (pE x)) (fun _ _=>aqT) (fun n i=>sA N l s s (s.length:Int) n i) (l:=s) (fun n=>by
   show sA N l s s (s.length:Int) (n+1) _=_;rw[sA,if_neg (cw (by omega))]) (fun n i x U=>by
  have aN:=(aqZ.1 U).1;show sA N l s s (s.length:Int) (n+1) i=_;rw[sA,if_pos (cA (by omega)),J i x U,al];by_cases h:(s.take i).any (pE x)=aqQ
  ·rw[if_pos h,if_pos h]
  ·rw[if_neg h,if_neg h];dsimp only;rw[dh (by omega)]) s.length N 0 (by omega) (by omega)
 rw[arv] at h;unfold uU;have aI:Hz N l s=aqP aqT:=by unfold Hz;rw[bu.p N (by omega),al,if_neg (by simp)];congr 1;exact decide_eq_false (by omega)
 rw[aI,al,if_neg (by simp),show sA N l s s (s.length:Int) N 0=_ from h,al];unfold Qw;cases ch (fun i x=>(s.take i).any (pE x)) (fun _ _=>aqT) 0 s<;>rfl
theorem fN.ch {N:Nat} {l:List aC} {s:List bf} (h:fN N l s):Qw s= .inl ():=by
 refine tZ.2 fun j x U=> ?_;rw[ara,as7];intro ab;obtain ⟨y,ag,aa⟩:=ast.1 ab;obtain ⟨i,ae,ag⟩:=GB.1 ag;obtain ⟨iC,hV⟩:=aqZ.1 ag;obtain ⟨gj,lM⟩:=aqZ.1 U;have:=arH.1 h.r5 i j iC gj ae;rw[hV,lM] at this;unfold pE at aa;rw[G0,this.2] at aa;simp at aa;exact this.1 aa.symm
theorem fN.p {N:Nat} (bi:6000<=N) {l:List aC} (bu:ef l) {s:List bf} (h:fN N l s):uU N l s=aqP aqQ:=by
 rw[agn N bi bu h.ok h.len,h.ch]
theorem fN.jH {N:Nat} {l:List aC} {s:List bf} (h:fN N l s) {i:Nat} {x:bf} (U:s[i]? =aqP x):jH s x.gR=(i:Int):=by
 rcases Hq s x.gR with ⟨_,J⟩|⟨k,y,h1,J,aj⟩
 ·exact absurd rfl (J x (aq7 U))
 ·rw[h1];obtain ⟨iC,hV⟩:=aqZ.1 U;obtain ⟨nb,gk⟩:=aqZ.1 J;rcases asA k i with yw|rfl|yw
  ·have:=arH.1 h.r5 k i nb iC yw;rw[hV,gk] at this;exact absurd aj this.1
  ·rfl
  ·have:=arH.1 h.r5 i k iC nb yw;rw[hV,gk] at this;exact absurd aj.symm this.1
theorem fN.r {N:Nat} (bi:6000<=N) {l:List aC} (bu:ef l) {s:List bf} (h:fN N l s):I4 N l s=aqP aqQ:=by
 have ai:=h.len;have aj:∀(i:Nat) (x:bf),s[i]? =aqP x->∀(k n j:Nat),k<n->j+k=i->w7 N s i n j=aqP (.inl ()):=by
  intro i x U k;obtain ⟨iC,hV⟩:=aqZ.1 U;induction k with
  |zero=>
   intro n j aq ar;obtain rfl:j=i:=by omega
   cases n with
   |zero=>omega
   |succ n=>rw[w7,if_neg (cw (by omega))]
  |succ k a8=>
   intro n j aq ar;cases n with
   |zero=>omega
   |succ n=>
    have gj:j<s.length:=by omega
    have:=arH.1 h.r5 j i gj iC (by omega);rw[hV] at this;rw[w7,if_pos (cA (by omega)),cC (cI gj),al,cC U,al,YK N (by omega) (h.ok _ (asu gj)).mj (h.ok x (aq7 U)).mj,al,this.2,if_neg (by simp),bN,dh (by omega)];exact a8 n (j+1) (by omega) (by omega)
 have h1:=nu (fun _:bf=>aqT) aqT (fun n i=>sT N l s n i) N (l:=s) (by omega) (fun n=>by
   show sT N l s (n+1) _=_;rw[sT,if_neg (cw (by omega))]) fun n i x U=>by
  have aN:=(aqZ.1 U).1;have hk:=h.ok x (aq7 U);have J:HN N s i x.dH 0=aqP aqT:=by unfold HN;rw[cC U,al,al,al,if_neg (cw (by have:=hk.id;omega)),Pt N (by omega) (by omega),al,h.jH U,if_neg (by simp),if_neg (by simp),YP N hk.mj.2 (by omega),al];rfl
  show sT N l s (n+1) i=_;rw[sT,if_pos (cA (by omega)),cC U,al,hk.r,al,J,al,if_neg (by simp),show w7 N s i N 0=_ from aj i x U i N 0 (by omega) (by omega),al];dsimp only;rw[if_neg (by simp),bN,dh (by omega)]
 have aI:HM N l s=aqP aqT:=by unfold HM;rw[bu.r N (by omega),al,if_neg (by simp)];congr 1;exact decide_eq_false (by omega)
 unfold I4;rw[aI,al,if_neg (by simp),show sT N l s N 0=_ from h1,if_neg (by simp),al]
end Go.W
end
section
namespace Go.W
open Go.aS
theorem YQ {l:List aC} {r:List aU} (bp:jC l r):r.length<=l.length:=by
 have:=sa (b:=(arI l.length).map fun (i:Nat)=>(i:Int)) bp.2.2 fun a au=>by obtain ⟨v,ad,rfl⟩:=aq'.1 au;obtain ⟨aI,h1⟩:=bp.2.1.ok v ad;exact aq'.2 ⟨v.ak.toNat,ar5.2 (by omega),by omega⟩
 simpa[b4] using this
theorem Oc (N:Nat) (bi:6000<=N) {l:List aC} (bu:ef l) {r:List aU} (aw:r.length<=1000):∃p,nF N l r=aqP p/\pq N l r=aqP p/\p.1.length<=1000/\(p.2=0->jC l r/\∃d o,xR l r p.1 d o):=by
 rcases afj N bi bu.len aw (am5 bu (by omega)) with ⟨_,h1,J⟩|⟨_,e,he,h1,J⟩|⟨bp,s,d,o,h1,J,aj,aM⟩
 ·exact ⟨_,h1,J,by simp,fun h=>absurd h (by simp)⟩
 ·exact ⟨_,h1,J,by simp,fun h=>absurd h he⟩
 ·exact ⟨_,h1,J,aM,fun _=>⟨bp,d,o,aj⟩⟩
theorem af' (N:Nat) (bi:100000<=N) {l:List aC} (bu:ef l) (fr to:Int):∃f,nH N l fr to=aqP f/\f.1.length<=1000:=by
 have ai:=bu.len;rcases agr N bi bu fr to with ⟨h,_⟩|⟨_,_,_,h|h|⟨r,h,bp,_⟩⟩
 ·exact ⟨_,h,by simp⟩
 ·exact ⟨_,h,by simp⟩
 ·exact ⟨_,h,by simp⟩
 ·exact ⟨_,h,by have:=YQ bp;show r.length<=1000;omega⟩
theorem afr (N:Nat) (bi:4000<=N) {l:List aC} (bu:ef l) (fr to:Int):∃f,l7 N l fr to=aqP f/\f.1.length<=1000:=by
 have ai:=bu.len;rcases ahi N bi bu fr to with ⟨h,_⟩|⟨_,_,_,h|h|⟨r,h,bp,_⟩⟩
 ·exact ⟨_,h,by simp⟩
 ·exact ⟨_,h,by simp⟩
 ·exact ⟨_,h,by simp⟩
 ·exact ⟨_,h,by have:=YQ bp;show r.length<=1000;omega⟩
def qc (s:List bf) (id:Int) (f:List aU×Int) (p:List aW×Int):List bf×Int:=
 if id<0 then ([],2) else if 0<=jH s id then ([],8) else if s.length=16 then ([],18) else if f.2≠0 then ([],f.2) else if p.2≠0 then ([],p.2)
 else if s.any (ea (bf.mk id f.1 p.1))=aqQ then ([],23) else (s++[bf.mk id f.1 p.1],0)
theorem Ym {N:Nat} {l:List aC} {s:List bf} (dD:fN N l s) {id:Int} {f:List aU×Int} {p:List aW×Int} (aP:f.1.length<=1000) (an:nF N l f.1=aqP p) (aw:pq N l f.1=aqP p) (ai:p.1.length<=1000) (aI:p.2=0->jC l f.1/\∃d o,xR l f.1 p.1 d o):
  (qc s id f p).2=0->(qc s id f p).1=s++[bf.mk id f.1 p.1]/\fN N l (s++[bf.mk id f.1 p.1])/\jH s id= -1/\s.length≠16:=by
 unfold qc;by_cases h1:id<0
 ·rw[if_pos h1];intro h;simp at h
 rw[if_neg h1];by_cases J:0<=jH s id
 ·rw[if_pos J];intro h;simp at h
 rw[if_neg J];by_cases aj:s.length=16
 ·rw[if_pos aj];intro h;simp at h
 rw[if_neg aj];by_cases aM:f.2≠0
 ·rw[if_pos aM];intro h;exact absurd h aM
 rw[if_neg aM];by_cases br:p.2≠0
 ·rw[if_pos br];intro h;exact absurd h br
 rw[if_neg br];by_cases dt:s.any (ea (bf.mk id f.1 p.1))=aqQ
 ·rw[if_pos dt];intro h;simp at h
 rw[if_neg dt];intro _;have br:p.2=0:=by omega
 obtain ⟨bp,aB⟩:=aI br;have Ug:jH s id= -1/\∀x∈s,x.gR≠id:=by
  rcases Hq s id with h|⟨k,x,h,_⟩
  ·exact h
  ·omega
 have rQ:(p.1,(0:Int))=p:=by rw[<-br]
 refine ⟨rfl,⟨?_, ?_, ?_⟩,Ug.1,aj⟩
 ·have:=dD.len;simp;omega
 ·intro x U;rcases arc.1 U with U|U
  ·exact dD.ok x U
  ·rw[arO.1 U];exact ⟨by show 0<=id;omega,⟨aP,ai⟩,by rw[rQ];exact an,by rw[rQ];exact aw,bp,aB⟩
 ·rw[aul];refine ⟨dD.r5,by simp,fun a au b aa=> ?_⟩;rw[arO.1 aa];refine ⟨Ug.2 a au, ?_⟩;rw[G0,as7];exact fun ab=>dt (ast.2 ⟨a,au,ab⟩)
theorem ag9 (N:Nat) {xs:List aU} (h:xs.length<=1000):IN N xs=aqP xs:=by
 unfold IN;refine XZ fun t ao=> ?_;cases t with
 |true=>rw[if_pos rfl,ao rfl]
 |false=>rw[if_neg (by simp),hj (by simp;omega),al,asj]
theorem ag8 (N:Nat) {xs:List aW} (h:xs.length<=1000):IL N xs=aqP xs:=by
 unfold IL;refine XZ fun t ao=> ?_;cases t with
 |true=>rw[if_pos rfl,ao rfl]
 |false=>rw[if_neg (by simp),hj (by simp;omega),al,asj]
theorem Wz (N:Nat) {x:bf} (h:lC x):DO N x=aqP x:=by
 unfold DO;rw[ag9 N h.1,al,ag8 N h.2,al]
theorem WQ (N:Nat) (bi:6000<=N) {x:bf} (U:lC x) {s:List bf} (az:∀y∈s,lC y) (ai:s.length<=1000):∀(k n i:Nat) (acc:List bf),k<n->i+k=s.length->acc.length<=i->
  wW N x s (s.length:Int) n acc i=aqP (if (s.drop i).any (ea x)=aqQ then .inr 23 else .inl (acc++s.drop i))
 |k,0,i,acc,aq,_,_=>by omega
 |0,n+1,i,acc,aq,ae,_=>by
  obtain rfl:i=s.length:=by omega
  rw[wW,if_neg (cw (by omega)),asd,asN];rfl
 |k+1,n+1,i,acc,aq,ae,au=>by
  have aN:i<s.length:=by omega
  have aa:=az _ (asu aN);rw[wW,if_pos (cA (by omega)),cC (cI aN),al,Yv N (by omega) U aa,al,jt (cI aN),asD];by_cases h:ea x s[i]=aqQ
  ·rw[if_pos h,h];rfl
  ·rw[if_neg h,Wz N aa,al,hj (by simp;omega),al,dh (by omega),WQ N bi U az ai k n (i+1) _ (by omega) (by omega) (by simp;omega)];rw[arQ] at h;rw[h,arS,asM];rfl
theorem GS (N:Nat) (bi:6000<=N) {l:List aC} (bu:ef l) {s:List bf} (dD:fN N l s) {id fr to:Int} {f:List aU×Int} {p:List aW×Int} (aP:l7 N l fr to=aqP f) (hc:f.1.length<=1000) (an:nF N l f.1=aqP p) (mw:p.1.length<=1000):
  s8 N l s id fr to=aqP (qc s id f p):=by
 have ai:=dD.len;unfold s8 DQ qc;rw[bu.p N (by omega),al,if_neg (by simp),dD.p bi bu,al,if_neg (by simp),al,bN,if_neg (by simp),bN];by_cases h1:id<0
 ·rw[if_pos (cA h1),if_pos h1]
 rw[if_neg (cw h1),if_neg h1,Yw N (by omega) (by omega),al,bN];by_cases J:0<=jH s id
 ·rw[if_pos (nn J),if_pos J]
 rw[if_neg (n9 J),if_neg J,bN];by_cases aj:s.length=16
 ·rw[if_pos (by simp[aj]),if_pos aj]
 rw[if_neg (by simp;omega),if_neg aj,aP,al];by_cases aM:f.2≠0
 ·rw[if_pos (by simpa using aM),if_pos aM]
 rw[if_neg (by simpa using aM),if_neg aM,an,al];by_cases br:p.2≠0
 ·rw[if_pos (by simpa using br),if_pos br]
 rw[if_neg (by simpa using br),if_neg br];have h:=WQ N bi (x:=bf.mk id f.1 p.1) ⟨hc,mw⟩ (fun y ag=>(dD.ok y ag).mj) (by omega) s.length N 0 [] (by omega) (by omega) (by simp);rw[arv,asj] at h;rw[show wW N (bf.mk id f.1 p.1) s (s.length:Int) N [] 0=_ from h,al];by_cases dt:s.any (ea (bf.mk id f.1 p.1))=aqQ
 ·rw[if_pos dt,if_pos dt]
 ·rw[if_neg dt,if_neg dt];dsimp only;rw[hj (by simp;omega),al]
theorem VN (N:Nat) {s:List bf} (az:∀y∈s,lC y) (ai:s.length<=1000):∀(k n i:Nat) (acc:List bf),k<n->i+k=s.length->acc.length<=i->w4 N s n acc i=aqP (acc++s.drop i)
 |k,0,i,acc,aq,_,_=>by omega
 |0,n+1,i,acc,aq,ae,_=>by
  obtain rfl:i=s.length:=by omega
  rw[w4,if_neg (cw (by omega)),asd,asN]
 |k+1,n+1,i,acc,aq,ae,au=>by
  have aN:i<s.length:=by omega
  have aa:=az _ (asu aN);rw[w4,if_pos (cA (by omega)),cC (cI aN),al,al,hj (by have:=aa.1;simp;omega),al,al,hj (by have:=aa.2;simp;omega),al,asj,asj,hj (by simp;omega),al,bN,dh (by omega),
   VN N az ai k n (i+1) _ (by omega) (by omega) (by simp;omega),jt (cI aN),asM]
  rfl
theorem WA (N:Nat) (bi:3000<=N) {s:List bf} (az:∀y∈s,lC y) (ai:s.length<=1000):D0 N s=aqP s:=by
 have h:=VN N az ai s.length N 0 [] (by omega) (by omega) (by simp);rw[arv,asj] at h;unfold D0;rw[show w4 N s N [] 0=_ from h,al]
theorem ahF (N:Nat) (bi:6000<=N) {l:List aC} (bu:ef l) {s:List bf} (dD:fN N l s) {id fr to:Int} {f:List aU×Int} {p:List aW×Int} (aP:nH N l fr to=aqP f) (hc:f.1.length<=1000) (an:pq N l f.1=aqP p) (mw:p.1.length<=1000):
  D6 N l s id fr to=aqP (qc s id f p):=by
 have ai:=dD.len;unfold D6 D2 qc;rw[bu.r N (by omega),al,if_neg (by simp),dD.r bi bu,al,if_neg (by simp),al,if_neg (by simp),bN];by_cases h1:id<0
 ·rw[if_pos (cA h1),if_pos h1]
 rw[if_neg (cw h1),if_neg h1,Pt N (by omega) (by omega),al,bN];by_cases J:0<=jH s id
 ·rw[if_pos (nn J),if_pos J]
 rw[if_neg (n9 J),if_neg J,bN];by_cases aj:s.length=16
 ·rw[if_pos (by simp[aj]),if_pos aj]
 rw[if_neg (by simp;omega),if_neg aj,aP,al];by_cases aM:f.2≠0
 ·rw[if_pos (by simpa using aM),if_pos aM]
 rw[if_neg (by simpa using aM),if_neg aM,an,al];by_cases br:p.2≠0
 ·rw[if_pos (by simpa using br),if_pos br]
 rw[if_neg (by simpa using br),if_neg br];have h:=nu (ea (bf.mk id f.1 p.1)) (23:Int) (fun n i=>st N s (bf.mk id f.1 p.1) n i) N (l:=s) (by omega) (fun n=>by
   show st N s (bf.mk id f.1 p.1) (n+1) _=_;rw[st,if_neg (cw (by omega))]) fun n i y ag=>by
  have aN:=(aqZ.1 ag).1;show st N s (bf.mk id f.1 p.1) (n+1) i=_;rw[st,if_pos (cA (by omega)),cC ag,al,YK N (by omega) (dD.ok y (aq7 ag)).mj ⟨hc,mw⟩,al,G0,bN,dh (by omega)]
 rw[show st N s (bf.mk id f.1 p.1) N 0=_ from h,al];by_cases dt:s.any (ea (bf.mk id f.1 p.1))=aqQ
 ·rw[if_pos dt,if_pos dt]
 ·rw[if_neg dt,if_neg dt];dsimp only;rw[WA N (by omega) (fun y ag=>(dD.ok y ag).mj) (by omega),al,hj (by simp;omega),al]
def del (s:List bf) (k:Nat):List bf:=s.take k++s.drop (k+1)
def pj (s:List bf) (id:Int):List bf×Int:=if jH s id<0 then ([],13) else (del s (jH s id).toNat,0)
theorem aha (s:List bf) (k:Nat):(del s k).Sublist s:=by
 unfold del
 conv=>rhs;rw[<-atG k s]
 have h:=auo 1 (s.drop k);rw[List.drop_drop] at h;exact List.Sublist.append (List.Sublist.refl _) h
theorem fN.sub {N:Nat} {l:List aC} {s t:List bf} (h:fN N l s) (ao:t.Sublist s):fN N l t:=⟨by have:=h.len;have:=ao.length_le;omega,fun x U=>h.ok x (ao.subset U),h.r5.sublist ao⟩
theorem NI (N:Nat) {s:List bf} (az:∀y∈s,lC y) (ai:s.length<=1000) {q:Nat} (aK:q<s.length):∀(k n i:Nat) (acc:List bf),k<n->i+k=s.length->acc.length<=i->wS N (q:Int) s (s.length:Int) n acc i=aqP (acc++if i<=q then (s.take q).drop i++s.drop (q+1) else s.drop i)
 |k,0,i,acc,aq,_,_=>by omega
 |0,n+1,i,acc,aq,ae,_=>by
  obtain rfl:i=s.length:=by omega
  rw[wS,if_neg (cw (by omega)),if_neg (by omega),asd,asN]
 |k+1,n+1,i,acc,aq,ae,au=>by
  have aN:i<s.length:=by omega
  have aa:=az _ (asu aN);rw[wS,if_pos (cA (by omega))];unfold PU;rw[cC (cI aN),al];by_cases h:i=q
  ·subst h;have aB:(s.take i).drop i=[]:=List.drop_eq_nil_of_le (by rw[arA];omega);rw[if_neg (by simp),al,dh (by omega),NI N az ai aK k n (i+1) _ (by omega) (by omega) (by omega),if_neg (by omega),if_pos (aq3 i),aB,asj]
  ·rw[if_pos (by simp;omega),Wz N aa,al,hj (by simp;omega),al,al,dh (by omega),NI N az ai aK k n (i+1) _ (by omega) (by omega) (by simp;omega)];by_cases J:i<q
   ·have gC:(s.take q)[i]? =aqP s[i]:=by rw[arD,if_pos J];exact cI aN
    rw[if_pos (by omega),if_pos (by omega),jt gC,asM];rfl
   ·rw[if_neg (by omega),if_neg (by omega),jt (cI aN),asM];rfl
theorem XU (N:Nat) (bi:6000<=N) {l:List aC} (bu:ef l) {s:List bf} (dD:fN N l s) (id:Int):Ai N l s id=aqP (pj s id):=by
 have ai:=dD.len;unfold Ai DQ pj;rw[bu.p N (by omega),al,if_neg (by simp),dD.p bi bu,al,if_neg (by simp),al,if_neg (by simp),Yw N (by omega) (by omega),al];rcases Hq s id with ⟨h,_⟩|⟨k,x,h,U,_⟩
 ·rw[h,if_pos (by decide),if_pos (by decide)]
 ·have hk:=(aqZ.1 U).1;have aw:=NI N (fun y ag=>(dD.ok y ag).mj) (by omega) hk s.length N 0 [] (by omega) (by omega) (by simp);rw[h,if_neg (cw (by omega)),if_neg (by omega),show wS N (k:Int) s (s.length:Int) N [] 0=_ from aw,al,if_pos (by omega),arv,asj];rfl
theorem ahE (N:Nat) (bi:6000<=N) {l:List aC} (bu:ef l) {s:List bf} (dD:fN N l s) (id:Int):IY N l s id=aqP (pj s id):=by
 have ai:=dD.len;unfold IY D2 pj;rw[bu.r N (by omega),al,if_neg (by simp),dD.r bi bu,al,if_neg (by simp),al,if_neg (by simp),Pt N (by omega) (by omega),al];rcases Hq s id with ⟨h,_⟩|⟨k,x,h,U,_⟩
 ·rw[h,if_pos (by decide),if_pos (by decide)]
 ·have hk:=(aqZ.1 U).1;have yk:uy s (k:Int) (k:Int)=aqP (s.take k):=by
   unfold uy;rw[if_pos ⟨by omega,by omega,by omega,rfl⟩];simp
  rw[h,if_neg (cw (by omega)),if_neg (by omega),WA N (by omega) (fun y ag=>(dD.ok y ag).mj) (by omega),al,yk,al,dh (by omega),wo (by omega),al,hj (by simp;omega),al,ite_self];rfl
theorem fN.rel {N:Nat} {l:List aC} {s:List bf} (h:fN N l s) {id:Int} (aI:(pj s id).2=0):fN N l (pj s id).1:=by
 unfold pj at aI⊢;by_cases h1:Go.W.jH s id<0
 ·rw[if_pos h1] at aI;simp at aI
 ·rw[if_neg h1];exact h.sub (aha s _)
theorem fN.nil (N:Nat) (l:List aC):fN N l []:=⟨by simp,by simp,List.Pairwise.nil⟩
end Go.W
end
section
namespace Go.W
open Go.aS
theorem agC {l:List aC} (bu:u7 l):1<=(iK l 0 l).length:=by
 obtain ⟨x,U,hk⟩:=bu.fst;have key:∀q:List aC,q[0]? =aqP x->1<=(iK l 0 q).length:=fun q aK=>by
  cases q with
  |nil=>simp at aK
  |cons y q=>
   have:y=x:=by simpa using aK
   subst this;rw[iK,if_pos hk];simp
 exact key l U
theorem aaD (N:Nat) {l:List aC} (bu:u7 l) {c:Int} {s:er} (az:ho c s) (ab:c<=1000000) (a:Act) (b:Bool):∃cc a',HR N s l (iK l 0 l) a b=aqP (cc,a')/\ho (c+2) cc/\a'.id=a.id:=by
 have ai:=bu.ok.len;have ao:=agC bu;have aqe:=N3 l l 0;unfold HR;cases b with
 |false=>rw[if_neg (by simp)];exact ⟨s,a,rfl,az.le (by omega),rfl⟩
 |true=>rw[if_pos rfl];obtain ⟨r,s1,h1,J,aj,aM⟩:=lZ N (s:=s) (c:=c) ((iK l 0 l).length:Int) (by omega) (by omega) az (by omega);obtain ⟨x,U,_⟩:=OE J aj;obtain ⟨ee,s2,g1,g2,g3,g4⟩:=lZ N (s:=s1) (c:=c+1) ((l.length:Int)+1) (by omega) (by omega) aM (by omega);rw[h1,al];dsimp only;rw[U,al,al,gW (by omega) (by omega),g1,al];exact ⟨s2,_,rfl,g4.le (by omega),rfl⟩
theorem Wt (N:Nat) (bi:4000<=N) {l:List aC} (bu:u7 l) {m:Nat} (hm:m<=100):∀(k n i:Nat) (c:Int) (s:er) (q:List Act),k<n->i+k=m->ho c s->c+40*k<=900000->q.length=i->(∀a∈q,0<=a.id/\a.id<6)->
  ∃dG cc,w8 N (m:Int) l (iK l 0 l) n s q i=aqP (cc,dG)/\ho (c+40*k) cc/\dG.length=m/\∀a∈dG,0<=a.id/\a.id<6
 |k,0,i,c,s,q,aq,_,_,_,_,_=>by omega
 |0,n+1,i,c,s,q,aq,ae,az,ab,aK,au=>by
  obtain rfl:i=m:=by omega
  rw[w8,if_neg (cw (by omega))];exact ⟨q,s,rfl,az.le (by omega),aK,au⟩
 |k+1,n+1,i,c,s,q,aq,ae,az,ab,aK,au=>by
  obtain ⟨w,s1,h1,J,aj,aM,_⟩:=ahQ N bi bu az (by omega);obtain ⟨a,s2,c4,a2,a3,a4⟩:=lZ N (s:=s1) (c:=c+30) 4 (by omega) (by omega) J (by omega);obtain ⟨b,j9,ff,gA,mS,qp⟩:=lZ N (s:=s2) (c:=c+30+1) 6 (by omega) (by omega) a4 (by omega);obtain ⟨e,zU,aX,e2,hR,mn⟩:=lZ N (s:=j9) (c:=c+30+1+1) 5 (by omega) (by omega) qp (by omega);have adp:=cI (xs:=w) (i:=0) (by omega);have iF:=cI (xs:=w) (i:=w.length - 1) (by omega);have adt:aq0 .i64 ((w.length:Int) - 1)=((w.length - 1:Nat):Int):=by rw[gW (by omega) (by omega)];omega
  have ab1:aR w 0=aqP (w[0]'(by omega)):=cC (i:=0) adp;obtain ⟨ann,a',f1,f2,f3⟩:=aaD N bu mn (by omega) (Act.mk (decide (0<a)) b (w[0]'(by omega)).ak (w[w.length - 1]'(by omega)).ak) (e==0);rw[w8,if_pos (cA (by omega)),h1,al];dsimp only;rw[c4,al];dsimp only;rw[ff,al,ab1,al,al,adt,cC iF,al,al];dsimp only;rw[aX,al];dsimp only;rw[f1,al,hj (by simp;omega),al,bN,dh (by omega)];obtain ⟨dG,cc,g1,g2,g3,g4⟩:=Wt N bi bu hm k n (i+1) (c+40) ann (q++[a']) (by omega) (by omega) (f2.le (by omega)) (by omega) (by simp;omega) fun x U=>by
   rcases arc.1 U with U|U
   ·exact au x U
   ·rw[arO.1 U,f3];exact ⟨gA,mS⟩
  exact ⟨dG,cc,g1,g2.le (by omega),g3,g4⟩
theorem ahs (N:Nat) (bi:4000<=N) {s:er} (az:ho 0 s) {m:Nat} (hm:m<=100):∃l q cc,uY N s (m:Int)=aqP (l,q,cc)/\u7 l/\ho 40000 cc/\q.length=m/\∀a∈q,0<=a.id/\a.id<6:=by
 obtain ⟨l,s1,h1,J,bu⟩:=agh N (by omega) az (k:=20) (by omega);have ai:=bu.ok.len;obtain ⟨q,cc,g1,g2,g3,g4⟩:=Wt N bi bu hm m N 0 30000 s1 [] (by omega) (by omega) J (by omega) rfl (by simp);unfold uY;rw[h1,al];dsimp only;rw[WX N (by omega) (by omega),al,show w8 N (m:Int) l (iK l 0 l) N s1 [] 0=_ from g1,al];exact ⟨l,q,cc,rfl,bu,g2.le (by omega),g3,g4⟩
def kx:List aC:=[(aC.mk 1 [116,49] 0 1 0 9),(aC.mk 2 [119] 1 2 3 0),(aC.mk 1 [116,50] 2 4 0 9),(aC.mk 3 [100] 3 5 0 0),(aC.mk 1 [116,51] 5 6 0 9),(aC.mk 1 [116,52] 4 7 0 9)]
def qg:List aU:=[(aU.mk 0 (-1) 1),(aU.mk 1 1 2),(aU.mk 2 2 (-1))]
def xu:List aU:=[(aU.mk 2 (-1) 2),(aU.mk 1 2 1),(aU.mk 0 1 (-1))]
def uQ:List aW:=[aW.mk 1 1,aW.mk 3 4]
theorem uv:ef kx:=ef.of (by
 have h1:=NJ 160 (by omega) (l:=kx);have J:s9 160 kx=aqP 0:=by kernel_rfl
 rw[h1] at J;exact ark.inj J)
theorem aiq (M:Nat):l7 (M+60) kx 0 2=aqP (qg,0):=by kernel_rfl
theorem air (M:Nat):l7 (M+60) kx 2 0=aqP (xu,0):=by kernel_rfl
theorem amP (M:Nat):ta (M+60) kx qg=aqP aqQ:=by kernel_rfl
theorem amQ (M:Nat):ta (M+60) kx xu=aqP aqQ:=by kernel_rfl
theorem amN (M:Nat):q1 (M+60) kx qg (qg.length:Int) (M+60) [] 0=aqP [aW.mk 1 1]:=by kernel_rfl
theorem amO (M:Nat):q1 (M+60) kx xu (xu.length:Int) (M+60) [] 0=aqP [aW.mk 1 1]:=by kernel_rfl
theorem ais (M:Nat):An (M+60) kx qg=aqP ([(3,4)],0):=by kernel_rfl
theorem ait (M:Nat):An (M+60) kx xu=aqP ([(3,4)],0):=by kernel_rfl
theorem Y2 {N:Nat} {w:List aU} (h1:ta N kx w=aqP aqQ) (J:q1 N kx w (w.length:Int) N [] 0=aqP [aW.mk 1 1]) (aj:An N kx w=aqP ([(3,4)],0)):nF N kx w=aqP (uQ,0):=by
 have jQ:s7 N kx w=aqP ([aW.mk 1 1],0):=by unfold s7;rw[h1,al,if_neg (by simp),J,al,YT (by simp) (by simp),al]
 unfold nF;rw[jQ,al,if_neg (by simp),aj,al,if_neg (by simp)];unfold Dl zR;rw[if_pos ⟨by simp,by simp⟩];simp only[arG,ate,List.cons_append,asj];rw[YT (by simp) (by simp),al,al];rfl
def tP:bf:=bf.mk 7 qg uQ
theorem ajr {N:Nat} (bi:100000<=N):xK N=aqP aqQ:=by
 obtain ⟨M,rfl⟩:∃M,N=M+60:=⟨N - 60,by omega⟩
 have az:xH (M+60)=aqP kx:=rfl;have dm:=Y2 (amP M) (amN M) (ais M);have ei:=Y2 (amQ M) (amO M) (ait M);have T6:=fN.nil (M+60) kx;obtain ⟨p,b5,cd,dN,fD⟩:=Oc (M+60) (by omega) uv (r:=qg) (by decide);rw[dm] at b5;cases b5;have aX:qc [] 7 (qg,0) (uQ,0)=([tP],0):=by kernel_rfl
 have bt:=GS (M+60) (by omega) uv T6 (id:=7) (aiq M) (show qg.length<=1000 by decide) dm (show uQ.length<=1000 by decide);rw[aX] at bt;obtain ⟨_,dD,_,_⟩:=Ym T6 (id:=7) (f:=(qg,0)) (p:=(uQ,0)) (show qg.length<=1000 by decide) dm cd (show uQ.length<=1000 by decide) fD (by rw[aX]);have dD:fN (M+60) kx [tP]:=dD;have bE:=GS (M+60) (by omega) uv dD (id:=8) (air M) (show xu.length<=1000 by decide) ei (show uQ.length<=1000 by decide);have e2:qc [tP] 8 (xu,0) (uQ,0)=([],23):=by kernel_rfl
 rw[e2] at bE;obtain ⟨f,f1,f2⟩:=afr (M+60) (by omega) uv 2 5;obtain ⟨p,g1,_,g3,_⟩:=Oc (M+60) (by omega) uv f2;have cM:=GS (M+60) (by omega) uv dD (id:=7) f1 f2 g1 g3;have hR:qc [tP] 7 f p=([],8):=by kernel_rfl
 rw[hR] at cM;have fI:=XU (M+60) (by omega) uv dD 7;have mn:pj [tP] 7=([],0):=by kernel_rfl
 rw[mn] at fI;unfold xK;rw[az,al,bt,al,al];dsimp only;rw[bE,al,al,cM,al,al,fI,al];have aI:HS (M+60) [tP] 0 23 8 [] 0=aqP aqQ:=by have aG:aR [tP] 0=aqP tP:=rfl;unfold HS;rw[if_pos (by rfl),if_pos (by rfl),aG,al,if_pos (by rfl),al,if_pos (by rfl),al,if_pos (by rfl),az,al,dD.p (by omega) uv,al,if_pos rfl,if_pos (by rfl),if_pos (by rfl),if_pos (by rfl),bN];rfl
 dsimp only;rw[aI,al]
end Go.W
end
section
namespace Go.W
open Go.aS
theorem ahL (N:Nat) {a:List aU} (au:a.length<=1000) (bi:3000<=N):IU N a a=aqP aqQ:=by
 have h:=nu (fun _:aU=>aqT) aqT (fun n i=>sD N a a n i) N (l:=a) (by omega) (fun n=>by
   show sD N a a (n+1) _=_;rw[sD,if_neg (cw (by omega))]) fun n i x U=>by
  have ai:=(aqZ.1 U).1;show sD N a a (n+1) i=_;rw[sD,if_pos (cA (by omega)),cC U,al,al,if_neg (by simp),if_neg (by simp),bN,dh (by omega)]
 unfold IU;rw[if_neg (by simp),show sD N a a N 0=_ from h,if_neg (by simp),al]
theorem ajs (N:Nat) (bi:3000<=N) {s:List bf} (az:∀x∈s,lC x) (ai:s.length<=1000):Aj N s s=aqP aqQ:=by
 have h:=nu (fun _:bf=>aqT) aqT (fun n i=>sG N s s n i) N (l:=s) (by omega) (fun n=>by
   show sG N s s (n+1) _=_;rw[sG,if_neg (cw (by omega))]) fun n i x U=>by
  have ai:=(aqZ.1 U).1;have aa:=az x (aq7 U);have h1:H2 N s s i=aqP aqT:=by unfold H2;rw[cC U,al,al,if_neg (by simp),al,al,ahL N aa.1 bi,al,if_neg (by simp),al,al,YP N aa.2 bi,al];rfl
  show sG N s s (n+1) i=_;rw[sG,if_pos (cA (by omega)),h1,al,if_neg (by simp),if_neg (by simp),bN,dh (by omega)]
 unfold Aj QV;rw[if_neg (by simp),show sG N s s N 0=_ from h,if_neg (by simp),al,al]
def oA (s:List bf) (y:aW):Prop:=∃x∈s,y∈x.dH
theorem fN.fun {N:Nat} {l:List aC} {s:List bf} (h:fN N l s) {y z:aW} (ag:oA s y) (aE:oA s z) (he:y.ak=z.ak):y=z:=by
 have an:y.eo=z.eo:=by
  obtain ⟨a,au,ag⟩:=ag;obtain ⟨b,aa,aE⟩:=aE;by_cases eH:a=b
  ·subst eH;obtain ⟨d,o,vH⟩:=(h.ok a au).Vw;rw[<-Yy vH.lt ag,<-Yy vH.lt aE,he]
  ·obtain ⟨i,ae⟩:=arM au;obtain ⟨j,ar⟩:=arM aa;obtain ⟨iC,hV⟩:=aqZ.1 ae;obtain ⟨gj,lM⟩:=aqZ.1 ar;have ab:ea a b=aqT:=by
    rcases asA i j with aN|rfl|aN
    ·have:=(arH.1 h.r5 i j iC gj aN).2
     rwa [hV,lM] at this
    ·rw[hV] at lM;exact absurd lM eH
    ·have:=(arH.1 h.r5 j i gj iC aN).2;rw[hV,lM,G0] at this;exact this
   by_cases dS:y.eo=z.eo
   ·exact dS
   ·rw[as7] at ab;exact absurd (CZ.2 (.inr ⟨y,ag,z,aE,he,dS⟩)) ab
 cases y;cases z;simp at he an⊢;exact ⟨he,an⟩
theorem aip (N:Nat) (bi:60000<=N) {q:List aW} (aK:q.length<=50000) (x:aW):IJ N q x=aqP (q.any fun y=>y.ak==x.ak):=by
 have h:=jT (fun _ (y:aW)=>y.ak==x.ak) (fun i _=>(i:Int)) (fun n i=>si N q x (q.length:Int) n i) (l:=q) (fun n=>by
   show si N q x (q.length:Int) (n+1) _=_;rw[si,if_neg (cw (by omega))]) (fun n i y ag=>by
  have ai:=(aqZ.1 ag).1;show si N q x (q.length:Int) (n+1) i=_;have hk:QR N y x=aqP (y.ak==x.ak):=rfl;rw[si,if_pos (cA (by omega)),cC ag,al,hk,al,dh (by omega)]) q.length N 0 (by omega) (by omega)
 rw[arv] at h;have aP:IK N q x=aqP (p6 (fun _ (y:aW)=>y.ak==x.ak) 0 q):=by
  unfold IK;rw[show si N q x (q.length:Int) N 0=_ from h,al];rcases y3 (fun _ (y:aW)=>y.ak==x.ak) q 0 with ⟨h1,J⟩|⟨h1,_⟩
  ·rw[h1,J]
  ·rw[h1]
 unfold IJ;rw[aP,al,bN];congr 1;rw[arV];rcases F3 (fun _ (y:aW)=>y.ak==x.ak) q 0 with ⟨h1,J⟩|⟨j,y,h1,J,aj,_⟩
 ·rw[h1];constructor
  ·intro h;simp at h
  ·intro h;obtain ⟨y,ag,ab⟩:=ast.1 h;obtain ⟨j,ar⟩:=arM ag;rw[J j y ar] at ab;cases ab
 ·rw[h1];constructor
  ·intro _;exact ast.2 ⟨y,aq7 J,aj⟩
  ·intro _;exact nn (by omega)
structure AI (s:List bf) (q:List aW) (P:aW->Prop) (c:Nat):Prop where
 len:q.length<=c
 fC:(q.map aW.ak).Nodup
 mem:∀y,y∈q↔P y
 sub:∀y,P y->oA s y
theorem Nc (N:Nat) (bi:60000<=N) {l:List aC} {s:List bf} (dD:fN N l s) {xs:List aW} (U:∀y∈xs,oA s y) (FE:xs.length<=1000):∀(k n i c:Nat) (q:List aW) (P:aW->Prop),k<n->i+k=xs.length->AI s q P c->c+k<=40000->
  ∃dG,xf N xs (xs.length:Int) n q i=aqP dG/\AI s dG (fun y=>P y\/y∈xs.drop i) (c+k)
 |k,0,i,c,q,P,aq,_,_,_=>by omega
 |0,n+1,i,c,q,P,aq,ae,h,_=>by
  obtain rfl:i=xs.length:=by omega
  rw[xf,if_neg (cw (by omega))];exact ⟨q,rfl,h.len,h.fC,fun y=>by rw[h.mem];simp,fun y ag=>ag.elim (h.sub y) fun h=>by simp at h⟩
 |k+1,n+1,i,c,q,P,aq,ae,h,ab=>by
  have aN:i<xs.length:=by omega
  have au:=cI aN;have hlen:=h.len;have qz:=jt au;obtain ⟨x,ko⟩:∃x,x=xs[i]:=⟨_,rfl⟩
  rw[<-ko] at au qz;have pR:oA s x:=U x (aq7 au);rw[xf,if_pos (cA (by omega))];unfold PT;rw[cC au,al,aip N bi (by omega),al];by_cases ax:(q.any fun y=>y.ak==x.ak)=aqQ
  ·obtain ⟨y,ag,adx⟩:=ast.1 ax;have adA:y=x:=dD.fun (h.sub y ((h.mem y).1 ag)) pR (by simpa using adx);subst adA;rw[ax,if_neg (by simp),al,dh (by omega)];obtain ⟨dG,g1,g2⟩:=Nc N bi dD U FE k n (i+1) c q P (by omega) (by omega) h (by omega);refine ⟨dG,g1,by have:=g2.len;omega,g2.fC,fun z=> ?_,fun z aE=> ?_⟩
   ·rw[g2.mem,qz,aq6];constructor
    ·rintro (aE|aE)
     ·exact .inl aE
     ·exact .inr (.inr aE)
    ·rintro (aE|rfl|aE)
     ·exact .inl aE
     ·exact .inl ((h.mem _).1 ag)
     ·exact .inr aE
   ·rcases aE with aE|aE
    ·exact h.sub z aE
    ·exact U z (ati aE)
  ·have j2:∀y∈q,y.ak≠x.ak:=fun y ag he=>ax (ast.2 ⟨y,ag,by simpa using he⟩);rw[arQ] at ax;rw[ax,if_pos (by rfl),hj (by simp;omega),al,al,dh (by omega)];have J:AI s (q++[x]) (fun y=>P y\/y=x) (c+1):=by
    refine ⟨by simp;omega, ?_,fun z=> ?_,fun z aE=> ?_⟩
    ·rw[ar3,arT];refine ⟨h.fC,by simp,fun a au b aa=> ?_⟩;obtain ⟨y,ag,rfl⟩:=aq'.1 au;simp at aa;subst aa;exact j2 y ag
    ·rw[arc,h.mem,arO]
    ·rcases aE with aE|rfl
     ·exact h.sub z aE
     ·exact pR
   obtain ⟨dG,g1,g2⟩:=Nc N bi dD U FE k n (i+1) (c+1) (q++[x]) (fun y=>P y\/y=x) (by omega) (by omega) J (by omega);refine ⟨dG,g1,by have:=g2.len;omega,g2.fC,fun z=> ?_,fun z aE=> ?_⟩
   ·rw[g2.mem,qz,aq6,or_assoc]
   ·rcases aE with aE|aE
    ·exact h.sub z aE
    ·exact U z (ati aE)
theorem Vv (N:Nat) (bi:60000<=N) {l:List aC} {s:List bf} (dD:fN N l s):∀(k n i:Nat) (q:List aW) (P:aW->Prop),k<n->i+k=s.length->AI s q P (1000*i)->
  ∃dG,xe N s (s.length:Int) n q i=aqP dG/\AI s dG (fun y=>P y\/oA (s.drop i) y) (1000*s.length)
 |k,0,i,q,P,aq,_,_=>by omega
 |0,n+1,i,q,P,aq,ae,h=>by
  obtain rfl:i=s.length:=by omega
  rw[xe,if_neg (cw (by omega))];exact ⟨q,rfl,h.len,h.fC,fun y=>by rw[h.mem];simp[oA],fun y ag=>ag.elim (h.sub y) fun h=>by simp[oA] at h⟩
 |k+1,n+1,i,q,P,aq,ae,h=>by
  have ai:=dD.len;have aN:i<s.length:=by omega
  have au:=cI aN;have qz:=jt au;obtain ⟨x,ko⟩:∃x,x=s[i]:=⟨_,rfl⟩
  rw[<-ko] at au qz;have vN:=aq7 au;have aa:=(dD.ok x vN).mj.2;obtain ⟨b5,h1,J⟩:=Nc N bi dD (xs:=x.dH) (fun y ag=>⟨x,vN,ag⟩) aa x.dH.length N 0 (1000*i) q P (by omega) (by omega) h (by omega);rw[xe,if_pos (cA (by omega)),cC au,al,show xf N x.dH (x.dH.length:Int) N q 0=_ from h1,al,dh (by omega)];obtain ⟨dG,g1,g2⟩:=Vv N bi dD k n (i+1) b5 (fun y=>P y\/y∈x.dH) (by omega) (by omega) ⟨by have:=J.len;omega,J.fC,fun y=>by rw[J.mem,arv],fun y ag=>J.sub y (by rw[arv];exact ag)⟩;refine ⟨dG,g1,g2.len,g2.fC,fun y=> ?_,fun y ag=> ?_⟩
  ·rw[g2.mem,qz,or_assoc];unfold oA;simp only[aq6,exists_eq_or_imp]
  ·rcases ag with ag|⟨a,au,ag⟩
   ·exact h.sub y ag
   ·exact ⟨a,ati au,ag⟩
theorem ah6 (N:Nat) (bi:60000<=N) {l:List aC} (bu:ef l) {s:List bf} (dD:fN N l s):∃q,Ah N s=aqP q/\(q.Pairwise fun a b=>a.ak<b.ak)/\(∀y,y∈q↔oA s y)/\q.length<=1000/\rh l q:=by
 have ai:=dD.len;obtain ⟨q,h1,J⟩:=Vv N bi dD s.length N 0 [] (fun _=>False) (by omega) (by omega) ⟨by simp,by simp,by simp,by simp⟩;have hlen:=J.len;have hJ:∀y,y∈lv q↔oA s y:=fun y=>by rw[Ci,J.mem,arv];simp
 have du:∀y∈lv q,lk l y:=fun y ag=>by obtain ⟨x,U,ag⟩:=(hJ y).1 ag;obtain ⟨d,o,vH⟩:=(dD.ok x U).Vw;exact vH.lk (dD.ok x U).rt.2.1 y ag
 have aN:=y5 J.fC;refine ⟨lv q, ?_,aN,hJ, ?_,rh.of du aN⟩
 ·unfold Ah;rw[show xe N s (s.length:Int) N [] 0=_ from h1,al];unfold ka;rw[if_pos (by omega),al];rfl
 ·have mw:=bu.len;have:=sa (a:=(lv q).map aW.ak) (b:=(arI l.length).map fun (i:Nat)=>(i:Int)) (by
   unfold atS;rw[atp];exact aN.imp fun h he=>by omega) fun a au=>by
   obtain ⟨y,ag,rfl⟩:=aq'.1 au;obtain ⟨aI,x,U,_⟩:=du y ag;have:=(aqZ.1 U).1;exact aq'.2 ⟨y.ak.toNat,ar5.2 this,by omega⟩
  simp at this;omega
end Go.W
end
section
namespace Go.W
open Go.aS
theorem Xs {ap:Type} {l:List ap} {i:Int} {x:ap} (aI:0<=i) (h:l[i.toNat]? =aqP x):aR l i=aqP x:=by
 obtain ⟨a,rfl⟩:=arw aI;exact cC h
def pw (s:List bf) (i j e:Nat):Prop:=(∃(fH:Nat) (x:bf),fH<i/\s[fH]? =aqP x/\(e:Int)∈b4 x.dW)\/∃x,s[i]? =aqP x/\(e:Int)∈b4 (x.dW.take j)
structure I8 (n:Nat) (fR:List Int) (O:Nat->Prop):Prop where
 len:fR.length=n
 one:∀e,e<n->O e->fR[e]? =aqP 1
 zero:∀e,e<n->¬O e->fR[e]? =aqP 0
theorem XD {s:List bf} {i:Nat} {x:bf} (U:s[i]? =aqP x) (e:Nat):pw s (i+1) 0 e↔pw s i x.dW.length e:=by
 unfold pw;constructor
 ·rintro (⟨fH,y,h1,J,aj⟩|⟨y,_,h⟩)
  ·by_cases h:fH=i
   ·subst h;rw[U] at J;cases J;exact .inr ⟨x,U,by rw[asq];exact aj⟩
   ·exact .inl ⟨fH,y,by omega,J,aj⟩
  ·simp[b4] at h
 ·rintro (⟨fH,y,h1,J,aj⟩|⟨y,J,h⟩)
  ·exact .inl ⟨fH,y,by omega,J,aj⟩
  ·rw[U] at J;cases J;rw[asq] at h;exact .inl ⟨i,x,by omega,U,h⟩
theorem N8 {s:List bf} {i j:Nat} {x:bf} {v:aU} (U:s[i]? =aqP x) (ad:x.dW[j]? =aqP v) (aI:0<=v.ak) (e:Nat):pw s i (j+1) e↔pw s i j e\/e=v.ak.toNat:=by
 have hm:(e:Int)∈b4 (x.dW.take (j+1))↔(e:Int)∈b4 (x.dW.take j)\/e=v.ak.toNat:=by
  rw[l0 ad];unfold b4;rw[ar3,arc];simp only[arG,ate,arO];constructor
  ·rintro (h|h)
   ·exact .inl h
   ·exact .inr (by omega)
  ·rintro (h|h)
   ·exact .inl h
   ·exact .inr (by omega)
 unfold pw;constructor
 ·rintro (h|⟨y,J,h⟩)
  ·exact .inl (.inl h)
  ·rw[U] at J;cases J;rcases hm.1 h with h|h
   ·exact .inl (.inr ⟨x,U,h⟩)
   ·exact .inr h
 ·rintro ((h|⟨y,J,h⟩)|h)
  ·exact .inl h
  ·rw[U] at J;cases J;exact .inr ⟨x,U,hm.2 (.inl h)⟩
  ·exact .inr ⟨x,U,hm.2 (.inr h)⟩
theorem ahW {N:Nat} {l:List aC} {s:List bf} (dD:fN N l s) {i j:Nat} {x:bf} {v:aU} (U:s[i]? =aqP x) (ad:x.dW[j]? =aqP v) (aI:0<=v.ak):¬pw s i j v.ak.toNat:=by
 obtain ⟨iC,hV⟩:=aqZ.1 U;have he:((v.ak.toNat:Nat):Int)=v.ak:=by omega
 rintro (⟨fH,y,h1,J,aj⟩|⟨y,J,h⟩)
 ·rw[he] at aj;obtain ⟨ab8,ab6⟩:=aqZ.1 J;have:=(arH.1 dD.r5 fH i ab8 iC h1).2;rw[hV,ab6,as7] at this;exact this (CZ.2 (.inl ⟨v.ak,aj,aq'.2 ⟨v,aq7 ad,rfl⟩⟩))
 ·rw[U] at J;cases J;rw[he] at h;obtain ⟨w,hw,ads⟩:=aq'.1 h;obtain ⟨k,hk,hw⟩:=GB.1 hw;have km:=(dD.ok x (aq7 U)).rt.2.2;unfold b4 atS at km;rw[atp] at km;obtain ⟨nb,gk⟩:=aqZ.1 hw;obtain ⟨gj,lM⟩:=aqZ.1 ad;have:=arH.1 km k j nb gj hk;rw[gk,lM] at this;exact this ads
theorem Y6 (N:Nat) {l:List aC} {s:List bf} (dD:fN N l s) {i:Nat} {x:bf} (U:s[i]? =aqP x):∀(k n j:Nat) (fR:List Int),k<n->j+k=x.dW.length->I8 l.length fR (pw s i j)->
  ∃EF,wQ N s i n fR j=aqP (.inl EF)/\I8 l.length EF (pw s i x.dW.length)
 |k,0,j,fR,aq,_,_=>by omega
 |0,n+1,j,fR,aq,ar,h=>by
  obtain rfl:j=x.dW.length:=by omega
  rw[wQ,cC U,al,if_neg (cw (by omega))];exact ⟨fR,rfl,h⟩
 |k+1,n+1,j,fR,aq,ar,h=>by
  have hk:=dD.ok x (aq7 U);have aa:=hk.mj.1;have ad:=cI (xs:=x.dW) (i:=j) (by omega);obtain ⟨v,BX⟩:∃v,v=x.dW[j]:=⟨_,rfl⟩
  rw[<-BX] at ad;obtain ⟨aI,h1⟩:=hk.rt.2.1.ok v (aq7 ad);have j2:=ahW dD U ad aI;have aN:v.ak.toNat<l.length:=by omega
  have aE:=h.zero _ aN j2;have Fx:(fR.set v.ak.toNat 1)[v.ak.toNat]? =aqP 1:=by rw[List.getElem?_set_self (by rw[h.len];exact aN)]
  have hw:aq0 .i64 ((0:Int)+1)=1:=by rw[gW (by omega) (by omega)];rfl
  rw[wQ,cC U,al,if_pos (cA (by omega)),al,cC ad,al,Xs aI aE,al,al,al,al,bN,hw,al,cC ad,al,Xs aI Fx,al,al,if_neg (by simp),bN,dh (by omega)];refine Y6 N dD U k n (j+1) _ (by omega) (by omega) ⟨by rw[asb];exact h.len,fun e he ah=> ?_,fun e he ah=> ?_⟩
  ·by_cases L1:e=v.ak.toNat
   ·rw[L1];exact Fx
   ·rw[asK (fun h=>L1 h.symm)];rcases (N8 U ad aI e).1 ah with ah|ah
    ·exact h.one e he ah
    ·exact absurd ah L1
  ·have aq:¬pw s i j e/\e≠v.ak.toNat:=⟨fun ax=>ah ((N8 U ad aI e).2 (.inl ax)),fun ax=>ah ((N8 U ad aI e).2 (.inr ax))⟩
   rw[asK (fun h=>aq.2 h.symm)];exact h.zero e he aq.1
theorem Y7 (N:Nat) {s:List bf} {p:List aW} (an:p.length<=1000) {i j:Nat} {x:bf} {y:aW} (U:s[i]? =aqP x) (ag:x.dH[j]? =aqP y):∀(k n a:Nat) (b:Bool),k<n->a+k=p.length->wR N s p i j n b a=aqP (b||(p.drop a).any fun z=>decide (z=y))
 |k,0,a,b,aq,_=>by omega
 |0,n+1,a,b,aq,au=>by
  obtain rfl:a=p.length:=by omega
  rw[wR,if_neg (cw (by omega)),asd];simp
 |k+1,n+1,a,b,aq,au=>by
  have ad:=cI (xs:=p) (i:=a) (by omega);have hz:Hv N s p i j b a=aqP (b||decide (p[a]'(by omega)=y)):=by
   unfold Hv;cases b with
   |true=>rw[if_pos rfl];rfl
   |false=>rw[if_neg (by simp),cC ad,al,al,cC U,al,cC ag,al,bN];rfl
  rw[wR,if_pos (cA (by omega)),hz,al,bN,dh (by omega),Y7 N an U ag k n (a+1) _ (by omega) (by omega),jt ad,asD,Bool.or_assoc]
theorem amX (N:Nat) (bi:3000<=N) {s:List bf} {p:List aW} (an:p.length<=1000) {i:Nat} {x:bf} (U:s[i]? =aqP x) (aa:x.dH.length<=1000) (hm:∀y∈x.dH,y∈p):sy N s p i N 0=aqP (.inl ()):=by
 have h:=nu (fun _:aW=>aqT) aqT (fun n j=>sy N s p i n j) N (l:=x.dH) (by omega) (fun n=>by
   show sy N s p i (n+1) _=_;rw[sy,cC U,al,if_neg (cw (by omega))]) fun n j y ag=>by
  have aN:=(aqZ.1 ag).1;have hb:=Y7 N an U ag p.length N 0 aqT (by omega) (by omega);have ao:((p.drop 0).any fun z=>decide (z=y))=aqQ:=ast.2 ⟨y,by rw[arv];exact hm y (aq7 ag),by simp⟩;rw[ao] at hb;have hb:wR N s p i j N aqT 0=aqP aqQ:=hb;show sy N s p i (n+1) j=_;rw[sy,cC U,al,if_pos (cA (by omega)),hb,al,if_neg (by simp),if_neg (by simp),bN,dh (by omega)]
 rw[if_neg (by simp)] at h;exact h
theorem Y5 (N:Nat) (bi:6000<=N) {l:List aC} {s:List bf} (dD:fN N l s) {p:List aW} (an:p.length<=1000) (hm:∀y,oA s y->y∈p):∀(k n i:Nat) (fR:List Int),k<n->i+k=s.length->I8 l.length fR (pw s i 0)->wP N s p n fR i=aqP (.inl ())
 |k,0,i,fR,aq,_,_=>by omega
 |0,n+1,i,fR,aq,ae,h=>by rw[wP,if_neg (cw (by omega))]
 |k+1,n+1,i,fR,aq,ae,h=>by
  have ai:=dD.len;have U:=cI (xs:=s) (i:=i) (by omega);obtain ⟨x,ko⟩:∃x,x=s[i]:=⟨_,rfl⟩
  rw[<-ko] at U;have vN:=aq7 U;have hk:=dD.ok x vN;have aa:=hk.mj;obtain ⟨EF,g1,g2⟩:=Y6 N dD U x.dW.length N 0 fR (by have:=aa.1;omega) (by omega) h;rw[wP,if_pos (cA (by omega)),show wQ N s i N fR 0=_ from g1,al];dsimp only;rw[amX N (by omega) an U aa.2 fun y ag=>hm y ⟨x,vN,ag⟩,al];dsimp only;rw[bN,dh (by omega)];exact Y5 N bi dD an hm k n (i+1) EF (by omega) (by omega) ⟨g2.len,fun e he ah=>g2.one e he ((XD U e).1 ah),fun e he ah=>g2.zero e he fun ax=>ah ((XD U e).2 ax)⟩
theorem afS (N:Nat) (bi:100000<=N) {l:List aC} (bu:ef l) {s:List bf} (dD:fN N l s):∃p fR,kO (0:Int) (l.length:Int)=aqP fR/\Ah N s=aqP p/\Hu N l s p=aqP aqT/\wP N s p N fR 0=aqP (.inl ()):=by
 have ai:=dD.len;have mw:=bu.len;obtain ⟨p,dm,ei,gb,hi,tU⟩:=ah6 N (by omega) bu dD;refine ⟨p,List.replicate l.length 0,(by unfold kO;rw[if_pos ⟨by omega,by omega⟩];simp),dm, ?_, ?_⟩
 ·unfold Hu;rw[dD.p (by omega) bu,al,if_neg (by simp)];rcases aga N bu.len (s:=p) hi (by omega) with ⟨h,_⟩|⟨_,h⟩
  ·rw[h,al];rfl
  ·exact absurd tU h
 ·exact Y5 N (by omega) dD hi (fun y ag=>(gb y).2 ag) s.length N 0 _ (by omega) (by omega) ⟨by simp,fun e he ah=>by rcases ah with ⟨fH,_,h,_⟩|⟨y,_,h⟩;exact absurd h (by omega);simp[b4] at h,fun e he ah=>by rw[List.getElem?_replicate,if_pos he]⟩
theorem afT (N:Nat) (bi:100000<=N) {l:List aC} (bu:ef l) {q:List Act} {s:List bf} {i:Nat} (ae:i<q.length) (dD:fN N l s):∃cc,Hs N l q s i=aqP (.inl cc)/\Ih N l q s i=aqP cc/\fN N l cc:=by
 have au:=cI ae;have key:∃R:List bf×Int,Ht N l q s i (pj s q[i].id).1 (pj s q[i].id).2 (q[i]).set=aqP R/\Ii N l q s i (pj s q[i].id).1 (pj s q[i].id).2 (q[i]).set=aqP R/\(R.2=0->fN N l R.1):=by
  unfold Ht Ii;cases (q[i]).set with
  |false=>rw[if_neg (by simp),if_neg (by simp)];exact ⟨_,rfl,rfl,fun h=>dD.rel h⟩
  |true=>obtain ⟨r,e,f1,f2,_⟩:=ahh N bi bu (q[i].from_) (q[i].to);obtain ⟨f,TK,EL⟩:=af' N bi bu (q[i].from_) (q[i].to);rw[f2] at TK;cases TK;obtain ⟨p,dm,ei,gb,hi⟩:=Oc N (by omega) bu EL;rw[if_pos rfl,if_pos rfl,cC au,al,al,al,al,al,al,al,al,al,GS N (by omega) bu dD f1 EL dm gb,ahF N (by omega) bu dD f2 EL ei gb];refine ⟨_,rfl,rfl,fun h=> ?_⟩;obtain ⟨g1,g2,_⟩:=Ym dD (id:=q[i].id) EL dm ei gb hi h;show fN N l (qc s q[i].id (r,e) p).1;rw[g1];exact g2
 obtain ⟨R,bt,bE,cM⟩:=key;unfold Hs Ih;rw[cC au,al,al,al,XU N (by omega) bu dD,ahE N (by omega) bu dD,al,al,al,al,al,bt,bE,al,al];by_cases aI:R.2=0
 ·obtain ⟨p,fR,c1,c2,ry,qq⟩:=afS N bi bu (cM aI);rw[if_neg (by simpa using aI),if_pos (by simpa using aI),c1,al,c2,al,ry,al,if_neg (by simp),qq,al];exact ⟨_,rfl,rfl,cM aI⟩
 ·rw[if_pos (by simpa using aI),if_neg (by simpa using aI)];exact ⟨_,rfl,rfl,dD⟩
theorem Wp (N:Nat) (bi:100000<=N) {l:List aC} (bu:ef l) {q:List Act} (aK:q.length<=1000):∀(k n i:Nat) (s:List bf),k<n->i+k=q.length->fN N l s->∃cc,wO N l q n s i=aqP (.inl cc)/\w3 N l q n s i=aqP cc/\fN N l cc
 |k,0,i,s,aq,_,_=>by omega
 |0,n+1,i,s,aq,ae,h=>by rw[w3,if_neg (cw (by omega)),wO,if_neg (cw (by omega))];exact ⟨s,rfl,rfl,h⟩
 |k+1,n+1,i,s,aq,ae,h=>by obtain ⟨s1,h1,J,aj⟩:=afT N bi bu (q:=q) (i:=i) (by omega) h;rw[w3,if_pos (cA (by omega)),wO,if_pos (cA (by omega)),h1,J,al,al,bN,dh (by omega)];dsimp only;rw[bN];exact Wp N bi bu aK k n (i+1) s1 (by omega) (by omega) aj
theorem amY (t:List Int):∃N,IP N t=aqP aqQ:=by
 refine ⟨100000, ?_⟩;obtain ⟨N,bi⟩:∃N:Nat,N=100000:=⟨_,rfl⟩
 rw[<-bi];have bi:100000<=N:=by omega
 obtain ⟨l,q,cc,h1,bu,_,J,_⟩:=ahs N (by omega) (ad5 t) (m:=10) (by omega);obtain ⟨s,g1,g2,dD⟩:=Wp N bi bu.ok (q:=q) (by omega) q.length N 0 [] (by omega) (by omega) (fN.nil N l);have ai:=dD.len;have h1:uY N (er.mk t 0) 10=aqP (l,q,cc):=h1;have g1:wO N l q N [] 0=aqP (.inl s):=g1;have g2:w3 N l q N [] 0=aqP s:=g2;have mo:Hw N l q s=aqP aqQ:=by unfold Hw DZ;rw[g2,al,al,ajs N (by omega) (fun y ag=>(dD.ok y ag).mj) (by omega),al,if_pos rfl,ajr bi,al]
 unfold IP Aq;rw[al,h1,al];dsimp only;rw[g1,al];dsimp only;rw[mo,al]
end Go.W
end
