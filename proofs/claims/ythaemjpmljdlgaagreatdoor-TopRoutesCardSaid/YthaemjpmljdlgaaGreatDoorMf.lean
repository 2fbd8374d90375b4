import Derived.Test.YthaemjpmljdlgaaGreatDoorRows
import Derived.WalkKit
import Derived.ProofKit
import Derived.OpenShut
import Derived.ShutString
import Derived.ChangeOld
import Derived.Below
import Derived.Deep.DeepHandedRow
import Derived.Lib.LaidTab
import Derived.Stop.LaidErr
import Derived.Shelf.Vars
import Derived.Test.YthaemjpmljdlgaaGreatDoorMe
set_option linter.unusedSimpArgs false
set_option linter.unusedVariables false
open Bool renaming and_eq_true->arq,eq_false_iff->atJ,eq_iff_iff->asw,false_or->asH,not_eq_true->asL,not_eq_true'->aso,false->arj,true->arf
open Decidable renaming byContradiction->avk
open Go renaming IntKind->aro,Value->arh
open Go.IntKind renaming wrap->art
open Go.Lib renaming decDigits->asA,itoa->arD
open Go.OpenSpec renaming ofChange->avf
open Int renaming eq_ofNat_of_zero_le->ar8,toNat_natCast->asv
open List renaming all_eq_true->arz,any_cons->ats,any_eq_true->asV,append_assoc->as7,append_nil->asI,contains_eq_mem->auh,contains_iff_mem->auv,drop_length->atf,drop_zero->asn,find?_eq_none->auV,flatMap_cons->asl,flatMap_map->ave,getElem?_eq_some_iff->arp,getElem?_of_mem->asx,getElem?_set_ne->atg,getElem?_take->asg,getElem_mem->ate,length_append->arJ,length_cons->arU,length_filter_le->aum,length_map->ar9,length_take->asq,map_append->as9,map_cons->asc,mem_append->arO,mem_cons->arA,mem_cons_of_mem->arK,mem_flatMap->as0,mem_map->arC,mem_of_find?_eq_some->avd,mem_of_getElem?->arI,mem_of_mem_drop->at6,mem_range->asF,mem_singleton->ase,nil_append->atd,nodup_append->asY,nodup_cons->atk,not_mem_nil->asU,pairwise_iff_getElem->asy,pairwise_map->auC,range->ar2,replicate->arL,take_length->asO,take_succ_eq_append_getElem->auz
open Nat renaming lt_trichotomy->as1,zero_add->arE
open Option renaming bind->ark,some->are
open Prod renaming fst->atu
section
namespace Go.W
open Go.aQ
def kb (s:List bi) (a:Int):Int:=match s.find? (fun y=>y.aA==a) with|some y=>y.ed|none=>0
def j2 (l:List aB) (y:bi):Prop:=0<=y.aA/\∃x,l[y.aA.toNat]? =are x/\((x.kind=2/\(y.ed=1\/y.ed=2))\/(x.kind=3/\(y.ed=3\/y.ed=4)))
def ql (l:List aB) (s:List bi):Prop:=∀(i:Nat) (y:bi),s[i]? =are y->j2 l y/\∀z∈s.take i,z.aA≠y.aA
theorem j2.pos {l:List aB} {y:bi} (h:j2 l y):y.ed≠0:=by
 obtain ⟨_,x,_,h|h⟩:=h<;>omega
theorem akU {l:List aB} {s:List bi} (h:∀z∈s,j2 l z) (a:Int):kb s a≠0↔∃z∈s,z.aA=a:=by
 unfold kb;cases aK:s.find? (fun y=>y.aA==a) with
 |none=>have:=auV.1 aK;simp only[ne_eq,not_true,false_iff,not_exists,not_and];exact fun z aD he=>this z aD (by simpa using he)
 |some y=>have h1:=avd aK;have J:=List.find?_some aK;simp only;exact ⟨fun _=>⟨y,h1,by simpa using J⟩,fun _=>(h y h1).pos⟩
theorem aio (s:List bi) (y:bi) (a:Int) (h:∀z∈s,z.aA≠y.aA):kb (s++[y]) a=if y.aA=a then y.ed else kb s a:=by
 unfold kb;rw[List.find?_append];by_cases ar:y.aA=a
 ·rw[if_pos ar];have:s.find? (fun z=>z.aA==a)=none:=auV.2 fun z aD=>by simpa using fun he=>h z aD (he.trans ar.symm)
  rw[this];simp[ar]
 ·rw[if_neg ar];cases s.find? (fun z=>z.aA==a) with
  |none=>simp[ar]
  |some z=>simp
theorem Gz {al:Type} {s:List al} {i:Nat} {z:al}:z∈s.take i↔∃j,j<i/\s[j]? =are z:=by
 constructor
 ·intro h;obtain ⟨j,ap⟩:=asx h;rw[asg] at ap;split at ap
  ·exact ⟨j,‹_›,ap⟩
  ·cases ap
 ·rintro ⟨j,ap,h⟩;refine arI (i:=j) ?_;rw[asg,if_pos ap];exact h
instance (l:List aB) (y:bi):Decidable (j2 l y):=by
 unfold j2;cases h:l[y.aA.toNat]? with
 |none=>exact isFalse (by simp)
 |some x=>exact decidable_of_iff (0<=y.aA/\((x.kind=2/\(y.ed=1\/y.ed=2))\/(x.kind=3/\(y.ed=3\/y.ed=4)))) (by simp)
theorem XE (N:Nat) {l:List aB} (ai:l.length<=96) {s:List bi} (aq:s.length<=1000):∀(k n i:Nat) (m:List (Int×Int)),k<n->i+k=s.length->(∀(j:Nat) y,j<i->s[j]? =are y->j2 l y/\∀z∈s.take j,z.aA≠y.aA)->(∀a,(bn m a).getD 0=kb (s.take i) a)->
  (∃m',sJ N l s (s.length:Int) n m i=are (.inl m')/\ql l s/\∀a,(bn m' a).getD 0=kb s a)\/(sJ N l s (s.length:Int) n m i=are (.inr arj)/\¬ql l s)
 |k,0,i,m,av,_,_,_=>by omega
 |0,n+1,i,m,av,af,cy,hm=>by
  obtain rfl:i=s.length:=by omega
  rw[sJ,if_neg (dO (by omega))];refine .inl ⟨m,rfl,fun j y ap=>cy j y (arp.1 ap).1 ap,fun a=> ?_⟩;rw[hm,asO]
 |k+1,n+1,i,m,av,af,cy,hm=>by
  have aa:=dw (xs:=s) (i:=i) (by omega);obtain ⟨y,ah⟩:∃y,y=s[i]:=⟨_,rfl⟩
  rw[<-ah] at aa;rw[sJ,if_pos (dP (by omega)),dM aa,aH];have kd:∀z∈s.take i,j2 l z:=fun z aD=>by obtain ⟨j,ap,aD⟩:=Gz.1 aD;exact (cy j z ap aD).1
  have aT:HM N l m y=are (decide (y.aA<0\/(l.length:Int)<=y.aA\/∃z∈s.take i,z.aA=y.aA)):=by
   unfold HM;by_cases h1:y.aA<0
   ·rw[if_pos (dP h1)];simp[h1]
   ·rw[if_neg (dO h1)];by_cases J:(l.length:Int)<=y.aA
    ·rw[if_pos (ue J)];simp[J]
    ·rw[if_neg (wj J),cR,hm];congr 1;rw[asw];have:=akU kd y.aA;simp only[bne_iff_ne,ne_eq,decide_eq_true_eq,h1,J,false_or];exact this
  rw[aT,aH];by_cases c1:y.aA<0\/(l.length:Int)<=y.aA\/∃z∈s.take i,z.aA=y.aA
  ·rw[if_pos (by simpa using c1)];refine .inr ⟨rfl,fun fA=> ?_⟩;obtain ⟨⟨bm,x,br,_⟩,dj⟩:=fA i y aa;rcases c1 with c1|c1|⟨z,aD,c1⟩
   ·omega
   ·have:=(arp.1 br).1;omega
   ·exact dj z aD c1
  ·rw[if_neg (by simpa using c1)];have J2:0<=y.aA/\y.aA<l.length:=by
    constructor
    ·exact Int.not_lt.1 fun h=>c1 (.inl h)
    ·exact Int.not_le.1 fun h=>c1 (.inr (.inl h))
   have jX:∀z∈s.take i,z.aA≠y.aA:=fun z aD he=>c1 (.inr (.inr ⟨z,aD,he⟩));obtain ⟨a,ar⟩:=ar8 J2.1;have U:=dw (xs:=l) (i:=a) (by omega);obtain ⟨x,iD⟩:∃x,x=l[a]:=⟨_,rfl⟩
   rw[<-iD] at U;have j0:l[y.aA.toNat]? =are x:=by rw[ar,asv];exact U
   have e2:HN N y=are (decide (y.ed=1\/y.ed=2)):=by
    unfold HN;by_cases h:y.ed=1
    ·rw[if_pos (by simpa using h)];simp[h]
    ·rw[if_neg (by simpa using h),cR];congr 1;rw[asw];simp[h]
   have hV:HO N y=are (decide (y.ed=3\/y.ed=4)):=by
    unfold HO;by_cases h:y.ed=3
    ·rw[if_pos (by simpa using h)];simp[h]
    ·rw[if_neg (by simpa using h),cR];congr 1;rw[asw];simp[h]
   rw[e2,aH,hV,aH,G2 J2.1 j0,aH];have kR:HP N (decide (y.ed=1\/y.ed=2)) (decide (y.ed=3\/y.ed=4)) x.kind=are (decide (¬j2 l y)):=by
    have n3:j2 l y↔((x.kind=2/\(y.ed=1\/y.ed=2))\/(x.kind=3/\(y.ed=3\/y.ed=4))):=by
     unfold j2;rw[j0];constructor
     ·rintro ⟨_,gY,v7,h⟩;cases v7;exact h
     ·exact fun h=>⟨J2.1,x,rfl,h⟩
    unfold HP;by_cases J:x.kind=2
    ·rw[if_pos (by simpa using J)];by_cases an:y.ed=1\/y.ed=2
     ·rw[if_neg (by simp[an])];have:j2 l y:=n3.2 (.inl ⟨J,an⟩);simp[this]
     ·rw[if_pos (by simpa using an),if_neg (by rw[J];simp)];have:¬j2 l y:=fun h=>by rcases n3.1 h with h|h;exact an h.2;omega
      simp[this]
    ·rw[if_neg (by simpa using J),if_pos (by simp)];by_cases aj:x.kind=3
     ·rw[if_pos (by simpa using aj)];congr 1;rw[asw];simp only[aso,decide_eq_false_iff_not,decide_eq_true_eq];rw[n3];simp[J,aj]
     ·rw[if_neg (by simpa using aj)];have:¬j2 l y:=fun h=>by rcases n3.1 h with h|h;exact J h.1;exact aj h.1
      simp[this]
   rw[kR,aH];by_cases c2:j2 l y
   ·rw[if_neg (by simpa using c2),cR,eB (by omega)];refine XE N ai aq k n (i+1) _ (by omega) (by omega) (fun j z ap aD=> ?_) (fun b=> ?_)
    ·by_cases kg:j=i
     ·subst kg;rw[aa] at aD;cases aD;exact ⟨c2,jX⟩
     ·exact cy j z (by omega) aD
    ·rw[jr,p4 aa,aio _ _ _ jX];by_cases ab:y.aA=b
     ·rw[if_pos ab,if_pos ab];rfl
     ·rw[if_neg ab,if_neg ab];exact hm b
   ·rw[if_pos (by simpa using c2)];exact .inr ⟨rfl,fun fA=>c2 (fA i y aa).1⟩
theorem ahI (N:Nat) {l:List aB} (ai:l.length<=96) {s:List bi} (aq:s.length<=1000) (bG:s.length<N):
  (∃m,DZ N l s=are (m,arf)/\ql l s/\∀a,(bn m a).getD 0=kb s a)\/(DZ N l s=are ([],arj)/\¬ql l s):=by
 unfold DZ;rcases XE N ai aq s.length N 0 [] bG (by omega) (fun j y ap=>by omega) (fun a=>rfl) with ⟨m,h1,J,aj⟩|⟨h1,J⟩
 ·exact .inl ⟨m,by rw[show sJ N l s _ N [] 0=_ from h1];rfl,J,aj⟩
 ·exact .inr ⟨by rw[show sJ N l s _ N [] 0=_ from h1];rfl,J⟩
theorem WX (N:Nat) {r:List bo} (ao:r.length<=1000000):∀(k n i:Nat) (m:pz),k<n->i+k=r.length->tp m (cg (r.take i))->∃m',xd N r (r.length:Int) n m i=are m'/\tp m' (cg r)
 |k,0,i,m,av,_,_=>by omega
 |0,n+1,i,m,av,af,hm=>by
  obtain rfl:i=r.length:=by omega
  rw[xd,if_neg (dO (by omega))];rw[asO] at hm;exact ⟨m,rfl,hm⟩
 |k+1,n+1,i,m,av,af,hm=>by
  have aa:=dw (xs:=r) (i:=i) (by omega);rw[xd,if_pos (dP (by omega)),dM aa,aH,cR,eB (by omega)];refine WX N ao k n (i+1) _ (by omega) (by omega) fun a=> ?_;rw[jr,p4 aa];unfold cg;rw[as9,auh];by_cases ar:r[i].aA=a
  ·rw[if_pos ar];simp[ar]
  ·rw[if_neg ar,hm];unfold cg;rw[auh];have:a≠r[i].aA:=fun h=>ar h.symm;simp[this]
theorem Yg (N:Nat) {r:List bo} (ao:r.length<=1000000) (bG:r.length<N):∃m,DU N r=are m/\tp m (cg r):=by
 unfold DU;obtain ⟨m,h1,J⟩:=WX N ao r.length N 0 [] bG (by omega) (fun a=>by simp[cg,bn]);exact ⟨m,by rw[show xd N r _ N [] 0=_ from h1];rfl,J⟩
def th (l:List aB) (r:List bo) (s:List bi) (dG de:Int) (i:Nat):Prop:=∃x,l[i]? =are x/\x.kind=1/\(i:Int)∉cg r/\(ka (gN l (cg r) (kb s) dG de (id:bK->bK)) (bK.mk i x.a)\/ka (gN l (cg r) (kb s) dG de (id:bK->bK)) (bK.mk i x.b))
open Classical in
noncomputable def EQ (l:List aB) (r:List bo) (s:List bi) (dG de:Int):List Int:=((ar2 l.length).filter fun i=>decide (th l r s dG de i)).map fun (i:Nat)=>(i:Int)
def kS (r:List bo):Int×Int:=((r[0]?.map bo.aA).getD 0,(r[r.length - 1]?.map bo.aA).getD 0)
theorem agh {p:Nat->Bool} (i:Nat):(ar2 (i+1)).filter p=(ar2 i).filter p++(if p i=arf then [i] else []):=by
 rw[List.range_succ,List.filter_append];cases h:p i<;>simp[h]
open Classical in
theorem Xn (N:Nat) (bG:1100<=N) {l:List aB} (ai:l.length<=96) {r:List bo} {s:List bi} {gL:pz} (jY:tp gL (cg r)) {m:List (Int×Int)} (hm:∀a,(bn m a).getD 0=kb s a) {dG de:Int}:∀(k n i:Nat) (acc:List Int),k<n->i+k=l.length->
  acc=((ar2 i).filter fun i=>decide (th l r s dG de i)).map (fun (i:Nat)=>(i:Int))->xf N l m dG de l (l.length:Int) gL n acc i=are (EQ l r s dG de)
 |k,0,i,acc,av,_,_=>by omega
 |0,n+1,i,acc,av,af,ar=>by
  obtain rfl:i=l.length:=by omega
  rw[xf,if_neg (dO (by omega)),ar];rfl
 |k+1,n+1,i,acc,av,af,ar=>by
  have aa:=dw (xs:=l) (i:=i) (by omega);obtain ⟨x,iD⟩:∃x,x=l[i]:=⟨_,rfl⟩
  rw[<-iD] at aa;have Mt:(fun i=>(bn m i).getD 0)=kb s:=funext hm;rw[xf,if_pos (dP (by omega))];have aqi:acc.length<=96:=by rw[ar,ar9];have:=aum (fun i=>decide (th l r s dG de i)) (ar2 i);rw[List.length_range] at this;omega
  have aT:H0 N l m dG de acc l i gL=are (((ar2 (i+1)).filter fun i=>decide (th l r s dG de i)).map (fun (i:Nat)=>(i:Int))):=by
   unfold H0;rw[dM aa,aH];have e2:H2 N i x gL=are (decide (x.kind≠1\/(i:Int)∈cg r)):=by
    unfold H2;by_cases h:x.kind=1
    ·rw[if_neg (by simpa using h),cR,jY,auh];simp[h]
    ·rw[if_pos (by simpa using h)];simp[h]
   rw[e2,aH,agh];by_cases c:x.kind≠1\/(i:Int)∈cg r
   ·rw[if_pos (by simpa using c)];have:¬th l r s dG de i:=fun ⟨y,ah,h1,J,_⟩=>by
     rw[aa] at ah;cases ah;rcases c with c|c
     ·exact c h1
     ·exact J c
    rw[if_neg (by simpa using this),asI,ar]
   ·rw[if_neg (by simpa using c)];have hk:x.kind=1:=avk fun h=>c (.inl h);have bL:(i:Int)∉cg r:=fun h=>c (.inr h);rw[ahU N bG ai jY acc aa hk,aH,Mt];have n3:th l r s dG de i↔(ka (gN l (cg r) (kb s) dG de (id:bK->bK)) (bK.mk i x.a)\/ka (gN l (cg r) (kb s) dG de (id:bK->bK)) (bK.mk i x.b)):=by
     constructor
     ·rintro ⟨y,ah,_,_,h⟩;rw[aa] at ah;cases ah;exact h
     ·exact fun h=>⟨x,aa,hk,bL,h⟩
    by_cases aP:th l r s dG de i
    ·rw[if_pos (decide_eq_true (n3.1 aP)),if_pos (decide_eq_true aP),iX (by simp;omega),aH,ar,as9];rfl
    ·rw[if_neg (by simpa using fun h=>aP (n3.2 h)),if_neg (by simpa using aP),asI,ar]
  rw[aT,aH,eB (by omega)];exact Xn N bG ai jY hm k n (i+1) _ (by omega) (by omega) rfl
theorem ake (N:Nat) {l:List aB} (ai:l.length<=96) {r:List bo} {s:List bi} (ao:r.length<=1000) (aq:s.length<=1000) (bG:3000<=N):
  (¬kP l r/\xN N l r s=are ([],1))\/(kP l r/\¬ql l s/\xN N l r s=are ([],2))\/(kP l r/\ql l s/\xN N l r s=are (EQ l r s (kS r).1 (kS r).2,0)):=by
 obtain ⟨b,h1,J⟩:=Y4 N (l:=l) (r:=r) (by omega) (by omega) (by omega);unfold xN;rw[h1,aH];cases b with
 |false=>exact .inl ⟨fun h=>(by have:=J.2 h;cases this),rfl⟩
 |true=>
  have ba:=J.1 rfl;rw[if_neg (by simp)];rcases ahI N ai aq (by omega) with ⟨m,bm,br,dj⟩|⟨bm,br⟩
  ·rw[bm,aH,if_neg (by simp)];obtain ⟨gL,ek,eV⟩:=Yg N (r:=r) (by omega) (by omega);have aqe:=ba.2.1.two;have cH:=dw (xs:=r) (i:=0) (by omega);have aT:=dw (xs:=r) (i:=r.length - 1) (by omega);have hw:art .i64 ((r.length:Int) - 1)=((r.length - 1:Nat):Int):=by rw[hq (by omega) (by omega)];omega
   rw[ek,aH,show bc r 0=are r[0] from dM (i:=0) cH,aH,hw,dM aT,aH];refine .inr (.inr ⟨ba,br, ?_⟩);have he:kS r=(r[0].aA,r[r.length - 1].aA):=by unfold kS;rw[cH,aT];rfl
   rw[he,show xf N l m r[0].aA r[r.length - 1].aA l (l.length:Int) gL N [] 0=_ from Xn N (by omega) ai eV dj l.length N 0 [] (by omega) (by omega) rfl];rfl
  ·rw[bm,aH,if_pos (by simp)];exact .inr (.inl ⟨ba,br,rfl⟩)
end Go.W
end
section
namespace Go.W
open Go.aQ
end Go.W
end
section
namespace Go.W
open Go.aQ
abbrev jx:=List (Int×Int)
structure qm (l:List aB) (on:List Int) (out:jx):Prop where
 gX:(out.map atu).Nodup
 ok:∀i p,bn out i=are p->0<=i/\i∉on/\∃x,l[i.toNat]? =are x/\((x.kind=2/\(p=1\/p=2))\/(x.kind=3/\p=4))
structure JC (out:jx) (qW:List bi):Prop where
 lt:qW.Pairwise fun a b=>a.aA<b.aA
 mem:∀y,y∈qW↔bn out y.aA=are y.ed
theorem ahM {s:List bi} (aq:s.Pairwise fun a b=>a.aA<b.aA) {y z:bi} (ah:y∈s) (aD:z∈s) (he:y.aA=z.aA):y=z:=by
 obtain ⟨i,af⟩:=asx ah;obtain ⟨j,ap⟩:=asx aD;obtain ⟨jW,kC⟩:=arp.1 af;obtain ⟨hP,l2⟩:=arp.1 ap;rcases as1 i j with h|h|h
 ·have:=asy.1 aq i j jW hP h;rw[kC,l2] at this;omega
 ·subst h;rw[af] at ap;cases ap;rfl
 ·have:=asy.1 aq j i hP jW h;rw[kC,l2] at this;omega
theorem alc {s:List bi} (aq:s.Pairwise fun a b=>a.aA<b.aA) {n:Nat} (h:∀y∈s,0<=y.aA/\y.aA<n):s.length<=n:=by
 have lx:(s.map bi.aA).Nodup:=by unfold List.Nodup;rw[auC];exact aq.imp fun h he=>by omega
 have:=wD (b:=(ar2 n).map fun (i:Nat)=>(i:Int)) lx fun a ar=>by obtain ⟨y,ah,rfl⟩:=arC.1 ar;have:=h y ah;exact arC.2 ⟨y.aA.toNat,asF.2 (by omega),by omega⟩
 simpa using this
theorem JC.at {l:List aB} {on:List Int} {out:jx} {qW:List bi} (h:JC out qW) (ag:qm l on out) (i:Int):kb qW i=(bn out i).getD 0:=by
 unfold kb;cases aK:qW.find? (fun y=>y.aA==i) with
 |none=>
  cases aM:bn out i with
  |none=>rfl
  |some p=>have:bi.mk i p∈qW:=(h.mem _).2 aM;have:=auV.1 aK _ this;simp at this
 |some y=>
  have h1:=avd aK;have J:=List.find?_some aK;have J:y.aA=i:=by simpa using J
  have:=(h.mem y).1 h1;rw[J] at this;rw[this];rfl
theorem qm.len {l:List aB} {on:List Int} {out:jx} {qW:List bi} (ag:qm l on out) (h:JC out qW):qW.length<=l.length:=alc h.lt fun y ah=>by
 obtain ⟨az,_,x,U,_⟩:=ag.ok _ _ ((h.mem y).1 ah);have:=(arp.1 U).1;omega
theorem Xh {al bs:Type} [DecidableEq al]:∀{m:List (al×bs)} {k:al} {v:bs},(m.map atu).Nodup->((eJ m k v).map atu).Nodup/\∀a,a∈(eJ m k v).map atu->a=k\/a∈m.map atu
 |[],k,v,_=>by simp[eJ]
 |p::m,k,v,h=>by
  rw[asc,atk] at h;simp only[eJ];by_cases hk:p.1=k
  ·rw[if_pos hk];rw[asc,atk];exact ⟨h,fun a ar=> .inr ar⟩
  ·rw[if_neg hk,asc,atk];obtain ⟨h1,J⟩:=Xh (k:=k) (v:=v) h.2;refine ⟨⟨fun ax=> ?_,h1⟩,fun a ar=> ?_⟩
   ·rcases J _ ax with aj|aj
    ·exact hk aj
    ·exact h.1 aj
   ·rcases arA.1 ar with aj|aj
    ·exact .inr (by rw[aj];simp)
    ·rcases J _ aj with aJ|aJ
     ·exact .inl aJ
     ·exact .inr (by simp[aJ])
theorem ah9 (N:Nat) {l:List aB} {on:List Int} {out:jx} (ag:qm l on out) {i p:Int} {x:aB} (az:0<=i) (jY:i∉on) (U:l[i.toNat]? =are x) (an:(x.kind=2/\(p=1\/p=2))\/(x.kind=3/\p=4)):
  xM N i p out=are (17,out)\/(xM N i p out=are (0,eJ out i p)/\qm l on (eJ out i p)/\∀j q,bn out j=are q->bn (eJ out i p) j=are q):=by
 have cH:HT N p ((bn out i).getD 0) (bn out i).isSome=are (decide (∃q,bn out i=are q/\q≠p)):=by
  unfold HT;cases aM:bn out i with
  |none=>simp
  |some q=>simp only[Option.isSome_some,if_true,Option.getD_some];congr 1;rw[asw];simp
 unfold xM;rw[cR,cR,cH,aH];by_cases ad:∃q,bn out i=are q/\q≠p
 ·rw[if_pos (by simpa using ad)];exact .inl rfl
 ·rw[if_neg (by simpa using ad),cR];refine .inr ⟨rfl,⟨(Xh ag.gX).1,fun j q ap=> ?_⟩,fun j q ap=> ?_⟩
  ·rw[jr] at ap;split at ap
   ·rename_i h;subst h;cases ap;exact ⟨az,jY,x,U,an⟩
   ·exact ag.ok j q ap
  ·rw[jr];by_cases h:i=j
   ·subst h;have Mu:q=p:=avk fun Mu=>ad ⟨q,ap,Mu⟩;rw[if_pos rfl,Mu]
   ·rw[if_neg h];exact ap
end Go.W
end
section
namespace Go.W
open Go.aQ
def gO (d:hj) (v:bK):Prop:=(bn d v).getD arj=arf
instance (d:hj) (v:bK):Decidable (gO d v):=by unfold gO;infer_instance
def kv (l:List aB) (on:List Int) (v:bK):Prop:=bS l v.aA v.node<0\/bS l v.aA v.node∈on
instance (l:List aB) (on:List Int) (v:bK):Decidable (kv l on v):=by unfold kv;infer_instance
def AB (l:List aB) (on:List Int) (d:hj) (v:bK):Prop:=kv l on v\/gO d v
def Av (l:List aB) (on:List Int) (d:hj) (o:jx) (v:bK):Prop:=
 ¬kv l on v/\∃x,l[(bS l v.aA v.node).toNat]? =are x/\x.kind≠1/\(x.kind=3->bn o (bS l v.aA v.node)=are 4)/\(x.kind=2->v.node≠x.a->bn o (bS l v.aA v.node)=are (if v.node=x.b then 2 else 1))/\
  (x.kind=2->v.node=x.a->AB l on d (bK.mk (bS l v.aA v.node) x.b)/\AB l on d (bK.mk (bS l v.aA v.node) x.c))
theorem Av.mono {l:List aB} {on:List Int} {d df:hj} {o o':jx} {v:bK} (h:Av l on d o v) (aw:∀u,gO d u->gO df u) (ag:∀j q,bn o j=are q->bn o' j=are q):Av l on df o' v:=by
 obtain ⟨az,x,h1,J,aj,aJ,bk⟩:=h;exact ⟨az,x,h1,J,fun hk=>ag _ _ (aj hk),fun hk ar=>ag _ _ (aJ hk ar),fun hk ar=>⟨(bk hk ar).1.imp id (aw _),(bk hk ar).2.imp id (aw _)⟩⟩
structure vf (l:List aB) (on:List Int) (d:hj) (o:jx) (df:hj) (o':jx):Prop where
 sub:∀u,gO d u->gO df u
 mono:∀j q,bn o j=are q->bn o' j=are q
 rM:∀u,gO df u->¬gO d u->Av l on df o' u
theorem vf.refl {l:List aB} {on:List Int} (d:hj) (o:jx):vf l on d o d o:=⟨fun _ h=>h,fun _ _ h=>h,fun u h1 J=>absurd h1 J⟩
theorem vf.trans {l:List aB} {on:List Int} {d d1 d2:hj} {o ek eV:jx} (h:vf l on d o d1 ek) (k:vf l on d1 ek d2 eV):vf l on d o d2 eV:=
 ⟨fun u hu=>k.sub u (h.sub u hu),fun j q aF=>k.mono j q (h.mono j q aF),fun u h1 J=>by
  by_cases aj:gO d1 u
  ·exact (h.rM u aj J).mono k.sub k.mono
  ·exact k.rM u h1 aj⟩
theorem C4 {d:hj} {v u:bK}:gO (eJ d v arf) u↔(v=u\/gO d u):=by
 unfold gO;rw[jr];by_cases h:v=u<;>simp[h]
theorem PO {x:aB} (h:hE x=arf):x.kind=1\/x.kind=2\/x.kind=3:=by
 have:=(ox h).2.2.1;unfold b2 at this;split at this
 ·rename_i h;rcases h with h|h<;>simp[h]
 ·split at this
  ·rename_i h;simp[h]
  ·exact absurd rfl this
def qS (l:List aB) (d:hj):Nat:=((iv l).filter fun u=> !decide (gO d u)).length
theorem ah0 {l:List aB} {d df:hj} (h:∀u,gO d u->gO df u):qS l df<=qS l d:=by
 unfold qS;refine Gs fun u hu=> ?_;simp only[aso,decide_eq_false_iff_not] at hu⊢;exact fun ax=>hu (h u ax)
theorem ajt {l:List aB} {d:hj} {v:bK} (aa:v∈iv l) (av:¬gO d v):qS l (eJ d v arf)<qS l d:=by
 unfold qS;refine filter_lt aa (fun u hu=> ?_) (by simpa using av) ?_
 ·simp only[aso,decide_eq_false_iff_not] at hu⊢;exact fun h=>hu (C4.2 (.inr h))
 ·simp only[Bool.not_eq_false',decide_eq_true_eq];exact C4.2 (.inl rfl)
theorem akR (l:List aB) (ai:l.length<=96) (d:hj):qS l d<=288:=by
 have h1:=qp l;have J:=aum (fun u=> !decide (gO d u)) (iv l);unfold qS;omega
def um (N cC:Nat) (l:List aB) (gL:pz) (v:bK) (d:hj) (o:jx):Option (Int×hj×jx):=tf N cC v l [] [] d gL [] o
def Sz (l:List aB) (r:List bo) (d:hj) (o:jx) (v:bK) (p:Option (Int×hj×jx)):Prop:=
 (∃e df o',e≠0/\p=are (e,df,o'))\/∃df o',p=are (0,df,o')/\qm l (cg r) o'/\vf l (cg r) d o df o'/\AB l (cg r) df v
theorem Lt (N:Nat) (bG:3000<=N) {l:List aB} (b0:fj l) {r:List bo} (ao:r.length<=1000) {gL:pz} (jY:tp gL (cg r)):
  ∀(cC:Nat) (v:bK) (d:hj) (o:jx),v∈iv l->qm l (cg r) o->qS l d<cC->Sz l r d o v (um N cC l gL v d o)
 |0,_,_,_,_,_,h=>by omega
 |cC+1,v,d,o,aa,hO,aqr=>by
  have ai:=b0.len;unfold um;rw[tf,CS N (by omega) (by omega),aH,cR];have cH:HU N (tf N cC) v (bS l v.aA v.node) d gL=are (decide (gO d v\/kv l (cg r) v)):=by
   unfold HU;rw[cR];by_cases h:(bn d v).getD arj=arf
   ·rw[if_pos h];simp[gO,h]
   ·rw[if_neg h];by_cases J:bS l v.aA v.node<0
    ·rw[if_pos (dP J)];simp[kv,J]
    ·rw[if_neg (dO J),cR,jY,auh];congr 1;rw[asw];simp[gO,kv,h,J]
  rw[cH,aH];by_cases c:gO d v\/kv l (cg r) v
  ·rw[if_pos (by simpa using c)];exact .inr ⟨d,o,rfl,hO, .refl d o,c.symm⟩
  ·rw[if_neg (by simpa using c)];have lx:¬gO d v:=fun h=>c (.inl h);have BC:¬kv l (cg r) v:=fun h=>c (.inr h);have az:0<=bS l v.aA v.node:=by unfold kv at BC;omega
   have jX:bS l v.aA v.node∉cg r:=fun h=>BC (.inr h);obtain ⟨x,U,MN,l4,wa⟩:=Pm az;rw[MN,aH,cR];obtain ⟨d0,Bh⟩:∃d0,d0=eJ d v arf:=⟨_,rfl⟩
   rw[<-Bh];have BN:∀u,gO d u->gO d0 u:=fun u hu=>by rw[Bh];exact C4.2 (.inr hu)
   have ic:gO d0 v:=by rw[Bh];exact C4.2 (.inl rfl)
   have iC:∀u,gO d0 u->¬gO d u->u=v:=fun u h1 J=>by
    rw[Bh] at h1;rcases C4.1 h1 with h|h
    ·exact h.symm
    ·exact absurd h J
   have UJ:qS l d0<cC:=by have:=ajt aa lx;rw[<-Bh] at this;omega
   have r6:=b0.snd x wa;have step:∀p,((x.kind=2/\(p=1\/p=2))\/(x.kind=3/\p=4))->x.kind≠1->(x.kind=3->p=4)->(x.kind=2->v.node≠x.a/\p=if v.node=x.b then 2 else 1)->
     Sz l r d o v (ark (xM N (bS l v.aA v.node) p o) fun dJ=>are (dJ.1,d0,dJ.2)):=by
    intro p an o0 Bv rV;rcases ah9 N hO az jX U an with g1|⟨g1,g4,g6⟩
    ·rw[g1,aH];exact .inl ⟨17,_,_,by omega,rfl⟩
    ·rw[g1,aH];refine .inr ⟨d0,_,rfl,g4,⟨BN,g6,fun u h1 J=> ?_⟩, .inr ic⟩;rw[iC u h1 J];refine ⟨BC,x,U,o0,fun hk=> ?_,fun hk ar=> ?_,fun hk ar=>absurd ar (rV hk).1⟩
     ·rw[jr,if_pos rfl,Bv hk]
     ·rw[jr,if_pos rfl,(rV hk).2]
   rcases PO r6 with hk|hk|hk
   ·rw[if_pos (by simpa using hk)];exact .inl ⟨22,_,_,by omega,rfl⟩
   ·rw[if_neg (by simp[hk]),cR,if_neg (by simp[hk]),cR];by_cases ar:v.node=x.a
    ·rw[if_neg (by simpa using ar)];have he:b2 x=[x.a,x.b,x.c]:=by unfold b2;rw[if_neg (by omega),if_pos hk]
     have aeY:bK.mk (bS l v.aA v.node) x.b∈iv l:=by rw[zp];show x.b∈dz l (bS l v.aA v.node);rw[uP az U,he];simp
     have aeZ:bK.mk (bS l v.aA v.node) x.c∈iv l:=by rw[zp];show x.c∈dz l (bS l v.aA v.node);rw[uP az U,he];simp
     rcases Lt N bG b0 ao jY cC _ d0 o aeY hO UJ with ⟨e,df,o',h1,J⟩|⟨d1,ek,J,aJ,bk,dn⟩
     ·unfold um at J;rw[J,aH,if_pos (by simpa using h1)];exact .inl ⟨e,_,_,h1,rfl⟩
     ·unfold um at J;rw[J,aH,if_neg (by simp)];dsimp only;rcases Lt N bG b0 ao jY cC _ d1 ek aeZ aJ (Nat.lt_of_le_of_lt (ah0 bk.sub) UJ) with ⟨e,df,o',bm,br⟩|⟨d2,eV,br,gk,l7,BV⟩
      ·unfold um at br;rw[br,aH];exact .inl ⟨e,_,_,bm,rfl⟩
      ·unfold um at br;rw[br,aH];have E1:=bk.trans l7;refine .inr ⟨d2,eV,rfl,gk,⟨fun u hu=>E1.sub u (BN u hu),E1.mono,fun u cr a2=> ?_⟩, .inr (E1.sub v ic)⟩;by_cases a3:gO d0 u
       ·rw[iC u a3 a2];refine ⟨BC,x,U,by omega,fun h=>by omega,fun _ h=>absurd ar h,fun _ _=>⟨dn.imp id (l7.sub _),BV⟩⟩
       ·exact E1.rM u cr a3
    ·rw[if_pos (by simpa using ar)];unfold Rm;by_cases ab:v.node=x.b
     ·rw[if_pos (by simpa using ab),aH];exact step 2 (.inl ⟨hk, .inr rfl⟩) (by omega) (by omega) (fun _=>⟨ar,by rw[if_pos ab]⟩)
     ·rw[if_neg (by simpa using ab),aH];exact step 1 (.inl ⟨hk, .inl rfl⟩) (by omega) (by omega) (fun _=>⟨ar,by rw[if_neg ab]⟩)
   ·rw[if_neg (by simp[hk]),cR,if_pos (by simpa using hk)];exact step 4 (.inr ⟨hk,rfl⟩) (by omega) (fun _=>rfl) (fun h=>by omega)
end Go.W
end
section
namespace Go.W
open Go.aQ
def uN (x:aB) (v:bo):Int:=if v.b4=x.b\/v.out=x.b then x.c else x.b
theorem aiD (N:Nat) (x:aB) (v:bo):Jc N x v=are (uN x v):=by
 have h:Ip N x v=are (decide (v.b4=x.b\/v.out=x.b)):=by
  unfold Ip;by_cases h:v.b4=x.b
  ·rw[if_pos (by simpa using h)];simp[h]
  ·rw[if_neg (by simpa using h)];congr 1;rw[asw];simp[h]
 unfold Jc uN;rw[h,aH];by_cases h:v.b4=x.b\/v.out=x.b
 ·rw[if_pos (by simpa using h),if_pos h]
 ·rw[if_neg (by simpa using h),if_neg h]
structure px (l:List aB) (r:List bo) (i:Nat) (d:hj) (o:jx):Prop where
 rM:∀u,gO d u->Av l (cg r) d o u
 LL:∀v∈r.take i,∀x,l[v.aA.toNat]? =are x->x.kind=2->AB l (cg r) d (bK.mk v.aA (uN x v))
structure vk (l:List aB) (r:List bo) (s:List bi) (d:hj) (o:jx):Prop where
 lt:s.Pairwise fun a b=>a.aA<b.aA
 mem:∀y,y∈s↔y∈kJ l r\/bn o y.aA=are y.ed
 ok:qm l (cg r) o
 dx:px l r r.length d o
theorem NC {al bs:Type} [DecidableEq al]:∀{m:List (al×bs)},(m.map atu).Nodup->∀{p:al×bs},p∈m->bn m p.1=are p.2
 |[],_,p,h=>by cases h
 |q::m,aw,p,h=>by
  rw[asc,atk] at aw;simp only[bn];rcases arA.1 h with rfl|h
  ·rw[if_pos rfl]
  ·rw[if_neg (fun he=>aw.1 (by rw[he];exact arC.2 ⟨p,h,rfl⟩))];exact NC aw.2 h
theorem V9 {al bs:Type} [DecidableEq al]:∀{m:List (al×bs)} {a:al} {b:bs},bn m a=are b->(a,b)∈m
 |[],a,b,h=>by simp[bn] at h
 |q::m,a,b,h=>by
  simp only[bn] at h;split at h
  ·rename_i aF;cases h;rw[<-aF];simp
  ·exact arK _ (V9 h)
theorem ahA {l:List aB} {r:List bo} {y:bi} (h:y∈kJ l r):y.aA∈cg r:=(Nx l r).subset (arC.2 ⟨y,h,rfl⟩)
theorem Nw (N:Nat) (bG:3000<=N) {l:List aB} (b0:fj l) {r:List bo} (ao:r.length<=1000) (MA:∀v∈r,0<=v.aA/\v.aA<l.length) {gL:pz} (jY:tp gL (cg r)):
  ∀(k n i:Nat) (d:hj) (o:jx),k<n->i+k=r.length->qm l (cg r) o->px l r i d o->
  (∃e,e≠0/\sK N l r (r.length:Int) gL n [] i o [] d=are (.inr e))\/
  (∃df o',sK N l r (r.length:Int) gL n [] i o [] d=are (.inl ([],o'))/\qm l (cg r) o'/\px l r r.length df o')
 |k,0,i,d,o,av,_,_,_=>by omega
 |0,n+1,i,d,o,av,af,lZ,cA=>by
  obtain rfl:i=r.length:=by omega
  rw[sK,if_neg (dO (by omega))];exact .inr ⟨d,o,rfl,lZ,cA⟩
 |k+1,n+1,i,d,o,av,af,lZ,cA=>by
  have ai:=b0.len;have aa:=dw (xs:=r) (i:=i) (by omega);obtain ⟨v,MI⟩:∃v,v=r[i]:=⟨_,rfl⟩
  rw[<-MI] at aa;have od:=arI aa;obtain ⟨az,h1⟩:=MA v od;obtain ⟨a,ar⟩:=ar8 az;have U:=dw (xs:=l) (i:=a) (by omega);obtain ⟨x,iD⟩:∃x,x=l[a]:=⟨_,rfl⟩
  rw[<-iD] at U;have j0:l[v.aA.toNat]? =are x:=by rw[ar,asv];exact U
  have MN:=G2 az j0;have kY:∀u,u∈r.take (i+1)↔u∈r.take i\/u=v:=fun u=>by rw[p4 aa];simp
  rw[sK,if_pos (dP (by omega))];unfold Qn;rw[dM aa,aH,MN,aH];by_cases hk:x.kind=2
  ·rw[if_pos (by simpa using hk),aiD,aH];have he:b2 x=[x.a,x.b,x.c]:=by unfold b2;rw[if_neg (by omega),if_pos hk]
   have k0:bK.mk v.aA (uN x v)∈iv l:=by rw[zp];show uN x v∈dz l v.aA;rw[uP az j0,he];unfold uN;split<;>simp
   rcases Lt N bG b0 ao jY N _ d o k0 lZ (by have:=akR l ai d;omega) with ⟨e,df,o',bm,br⟩|⟨d1,ek,br,gk,l7,BV⟩
   ·unfold um at br;rw[br,aH,if_pos (by simpa using bm),aH];exact .inl ⟨e,bm,rfl⟩
   ·unfold um at br;rw[br,aH,if_neg (by simp),aH];dsimp only;rw[eB (by omega)];refine Nw N bG b0 ao MA jY k n (i+1) d1 ek (by omega) (by omega) gk ⟨fun u hu=> ?_,fun u hu y ah Fo=> ?_⟩
    ·by_cases h:gO d u
     ·exact (cA.rM u h).mono l7.sub l7.mono
     ·exact l7.rM u hu h
    ·rcases (kY u).1 hu with hu|rfl
     ·exact (cA.LL u hu y ah Fo).imp id (l7.sub _)
     ·rw[j0] at ah;cases ah;exact BV
  ·rw[if_neg (by simpa using hk),aH];dsimp only;rw[eB (by omega)];refine Nw N bG b0 ao MA jY k n (i+1) d o (by omega) (by omega) lZ ⟨cA.rM,fun u hu y ah Fo=> ?_⟩;rcases (kY u).1 hu with hu|rfl
   ·exact cA.LL u hu y ah Fo
   ·rw[j0] at ah;cases ah;exact absurd Fo hk
theorem Zk {l:List aB} {r:List bo} (ba:kP l r):r.length<=l.length:=by
 have:=wD (b:=(ar2 l.length).map fun (i:Nat)=>(i:Int)) ba.2.2 fun a ar=>by obtain ⟨v,aa,rfl⟩:=arC.1 ar;obtain ⟨az,h1⟩:=ba.2.1.ok v aa;exact arC.2 ⟨v.aA.toNat,asF.2 (by omega),by omega⟩
 simpa[cg] using this
theorem af9 (N:Nat) (bG:4000<=N) {l:List aB} (b0:fj l) {r:List bo} (ai:r.length<=3000):(kP l r/\DW N l r=are (mR (kJ l r),0))\/(¬kP l r/\DW N l r=are ([],1)):=by
 have:=b0.len;obtain ⟨b,h1,J⟩:=Y4 N (l:=l) (r:=r) (by omega) (by omega) (by omega);unfold DW;rw[h1,aH];by_cases ao:kP l r
 ·rw[J.2 ao,if_neg (by simp)];have h:=WZ N (l:=l) (r:=r) ao.2.1.ok (by omega) r.length N 0 [] (by omega) (by omega) (by simp);have h:xe N l r r.length N [] 0=are (kJ l r):=h;have:=NF l r;rw[h,aH];unfold k9;rw[if_pos (by omega),aH];exact .inl ⟨ao,rfl⟩
 ·have ab:b=arj:=by
   cases b with
   |false=>rfl
   |true=>exact absurd (J.1 rfl) ao
  rw[ab,if_pos (by rfl)];exact .inr ⟨ao,rfl⟩
theorem agn (N:Nat) (bG:6000<=N) {l:List aB} (b0:fj l) {r:List bo} (ao:r.length<=1000):
  (∃e,e≠0/\qi N l r=are ([],e))\/(kP l r/\∃s d o,qi N l r=are (s,0)/\vk l r s d o/\s.length<=1000):=by
 have ai:=b0.len;rcases af9 N (by omega) b0 (r:=r) (by omega) with ⟨ba,aq⟩|⟨ba,aq⟩
 ·have y9:(mR (kJ l r)).length<=400:=by
   have:=NF l r;have:=Zk ba;rw[WD];omega
  obtain ⟨own,jZ⟩:∃own,own=mR (kJ l r):=⟨_,rfl⟩
  rw[<-jZ] at aq y9;have adS:((kJ l r).map bi.aA).Nodup:=(Nx l r).nodup ba.2.2;have afO:own.Pairwise fun a b=>a.aA<b.aA:=by rw[jZ];exact Oa adS
  have VA:∀y,y∈own↔y∈kJ l r:=fun y=>by rw[jZ];exact NG
  unfold qi;rw[aq,aH,if_neg (by simp)];unfold Rk;obtain ⟨gL,ek,eV⟩:=Yg N (r:=r) (by omega) (by omega);rw[ek,aH];rcases Nw N (by omega) b0 ao ba.2.1.ok eV r.length N 0 [] [] (by omega) (by omega) ⟨by simp,fun i p h=>by simp[bn] at h⟩ ⟨fun u h=>by simp[gO,bn] at h,fun v h=>by simp at h⟩ with ⟨e,bm,br⟩|⟨d,o,br,gk,l7⟩
  ·rw[show sK N l r (r.length:Int) gL N [] 0 [] [] []=_ from br,aH];dsimp only;rw[aH,if_pos (by simpa using bm)];exact .inl ⟨e,bm,rfl⟩
  ·rw[show sK N l r (r.length:Int) gL N [] 0 [] [] []=_ from br,aH];dsimp only;rw[aH,if_neg (by simp)];have adv:∀y∈own,∀p,bn o y.aA≠are p:=fun y ah p an=>(gk.ok _ _ an).2.1 (ahA ((VA y).1 ah));dsimp only;have aqy:o.length<=96:=by
    have:=wD (b:=(ar2 l.length).map fun (i:Nat)=>(i:Int)) gk.gX fun a ar=>by obtain ⟨v,aa⟩:=Cq.2 ar;obtain ⟨az,_,x,U,_⟩:=gk.ok _ _ aa;have:=(arp.1 U).1;exact arC.2 ⟨a.toNat,asF.2 this,by omega⟩
    simp at this;omega
   have kd:((own++o.map fun p=>bi.mk p.1 p.2).map bi.aA).Nodup:=by
    rw[as9,asY];refine ⟨?_, ?_, ?_⟩
    ·unfold List.Nodup;rw[auC];exact afO.imp fun h he=>by omega
    ·rw[List.map_map];exact gk.gX
    ·intro a ar c ad LJ;obtain ⟨y,ah,rfl⟩:=arC.1 ar;obtain ⟨z,aD,rfl⟩:=arC.1 ad;obtain ⟨p,an,rfl⟩:=arC.1 aD;have:=NC gk.gX an;exact adv y ah p.2 (by rw[LJ];exact this)
   have aD:H4 N own o=are (mR (own++o.map fun p=>bi.mk p.1 p.2),0):=by unfold H4 DA;rw[if_pos ⟨by omega,kd⟩];unfold k9;rw[if_pos (by rw[arJ,ar9];omega),aH];rfl
   rw[aD,aH];have jn:∀y,y∈mR (own++o.map fun p=>bi.mk p.1 p.2)↔y∈kJ l r\/bn o y.aA=are y.ed:=fun y=>by
    rw[NG,arO,VA];constructor
    ·rintro (h|h)
     ·exact .inl h
     ·obtain ⟨p,an,rfl⟩:=arC.1 h;exact .inr (NC gk.gX an)
    ·rintro (h|h)
     ·exact .inl h
     ·exact .inr (arC.2 ⟨_,V9 h,rfl⟩)
   refine .inr ⟨ba,_,d,o,rfl,⟨Oa kd,jn,gk,l7⟩, ?_⟩;rw[WD,arJ,ar9];omega
 ·unfold qi;rw[aq,aH,if_pos (by simp)];exact .inl ⟨1,by omega,rfl⟩
end Go.W
end
section
namespace Go.W
open Go.aQ
theorem ql.of {l:List aB} {s:List bi} (h1:∀y∈s,j2 l y) (J:s.Pairwise fun a b=>a.aA<b.aA):ql l s:=fun i y ah=>by
 refine ⟨h1 y (arI ah),fun z aD he=> ?_⟩;obtain ⟨j,ap,aD⟩:=Gz.1 aD;obtain ⟨jW,kC⟩:=arp.1 ah;obtain ⟨hP,l2⟩:=arp.1 aD;have:=asy.1 J j i hP jW ap;rw[kC,l2] at this;omega
end Go.W
end
section
namespace Go.W
open Go.aQ
theorem NT {r:List bo} {k:Int}:k∈cg r↔∃(j:Nat) (v:bo),r[j]? =are v/\v.aA=k:=by
 unfold cg;rw[arC];constructor
 ·rintro ⟨v,aa,rfl⟩;obtain ⟨j,ap⟩:=asx aa;exact ⟨j,v,ap,rfl⟩
 ·rintro ⟨j,v,ap,rfl⟩;exact ⟨v,arI ap,rfl⟩
theorem agJ {l:List aB} {r:List bo} (ba:kP l r) {k n:Int} (hk:k∈cg r) (aK:k≠(kS r).1) (ai:k≠(kS r).2) (av:n∈dz l k) (ag:bS l k n∉cg r):∃v∈r,∃x,v.aA=k/\l[k.toNat]? =are x/\x.kind=2/\n=uN x v:=by
 have b0:=fj.of ba.1;have cn:=ba.2.1;obtain ⟨j,v,ap,rfl⟩:=NT.1 hk;have hP:=(arp.1 ap).1;have cH:=dw (xs:=r) (i:=0) (by omega);have aT:=dw (xs:=r) (i:=r.length - 1) (by omega);have he:kS r=(r[0].aA,r[r.length - 1].aA):=by unfold kS;rw[cH,aT];rfl
 rw[he] at aK ai;have dZ:0<j:=by refine Nat.pos_of_ne_zero fun h=> ?_;subst h;rw[cH] at ap;cases ap;exact aK rfl
 have fF:j+1<r.length:=by
  refine Nat.lt_of_not_le fun h=> ?_;have:j=r.length - 1:=by omega
  subst this;rw[aT] at ap;cases ap;exact ai rfl
 have an:=dw (xs:=r) (i:=j - 1) (by omega);have aF:=dw (xs:=r) (i:=j+1) fF;have s1:=cn.step (j - 1) _ v an (by rw[show j - 1+1=j by omega];exact ap);have s2:=cn.step j v _ ap aF;have Bx:=cn.mid j v dZ fF ap;have Uy:=b0.aaw Bx;have jn:=CM Bx;have iE:bS l v.aA v.b4∈cg r:=by
  have hx:=cn.outs (i:=j - 1) (by omega) an;have az:0<=bS l r[j - 1].aA r[j - 1].out:=by rw[<-s1.2.2];exact s1.2.1
  have:=b0.y2 hx az;rw[<-s1.2.2,<-s1.1] at this;rw[this];exact NT.2 ⟨j - 1,_,an,rfl⟩
 have hQ:bS l v.aA v.out∈cg r:=by rw[<-s2.2.2];exact NT.2 ⟨j+1,_,aF,rfl⟩
 have d1:n≠v.b4:=fun h=>ag (by rw[h];exact iE);have d2:n≠v.out:=fun h=>ag (by rw[h];exact hQ);obtain ⟨az,h1,x,U,l4⟩:=nI av;have r6:=b0.snd x (arI U);have lo:=uP az U;unfold gm at Bx;rw[lo] at Bx jn;rcases PO r6 with hk|hk|hk
 ·have:b2 x=[x.a,x.b]:=by unfold b2;rw[if_pos (.inl hk)]
  rw[this] at jn l4;simp only[arA,asU,or_false] at jn l4;have:=Uy.2;omega
 ·refine ⟨v,arI ap,x,rfl,U,hk, ?_⟩;have:b2 x=[x.a,x.b,x.c]:=by unfold b2;rw[if_neg (by omega),if_pos hk]
  obtain ⟨cI,cL,eQ,ad⟩:=Nz r6 hk Bx;rw[this] at l4;simp only[arA,asU,or_false] at l4;unfold uN;rcases ad with ⟨c1,_,c2⟩|⟨c1,c2⟩|⟨c1,c2⟩
  ·split<;>omega
  ·rw[if_pos (.inl c1)];omega
  ·rw[if_neg (by omega)];omega
 ·have:b2 x=[x.a,x.b]:=by unfold b2;rw[if_pos (.inr hk)]
  rw[this] at jn l4;simp only[arA,asU,or_false] at jn l4;have:=Uy.2;omega
theorem ajg {l:List aB} {r:List bo} (ba:kP l r) {d:hj} {o:jx} (bG:px l r r.length d o) {p:Int->Int} (an:∀i q,bn o i=are q->p i=q) {v:bK} (h:ka (gN l (cg r) p (kS r).1 (kS r).2 (id:bK->bK)) v):
  v.node∈dz l v.aA->v.aA∉cg r->gO d (bK.mk (bS l v.aA v.node) v.node):=by
 have b0:=fj.of ba.1;induction h with
 | @here v aw aK ax=>
  intro av jX;have az:0<=bS l v.aA v.node:=by simpa[gN] using aw
  have hk:bS l v.aA v.node∈cg r:=by simpa[gN] using aK
  have ax:bS l v.aA v.node≠(kS r).1/\bS l v.aA v.node≠(kS r).2:=by simpa[gN] using ax
  have aq:=b0.y2 av az;obtain ⟨w,hw,x,h1,J,aj,aJ⟩:=agJ ba hk ax.1 ax.2 (CR az).1 (by rw[aq];exact jX);rcases bG.LL w (by rw[asO];exact hw) x (by rw[h1];exact J) aj with ak|gh
  ·exfalso;unfold kv at ak;simp only[h1,<-aJ,aq] at ak;rcases ak with ak|ak
   ·have:=(nI av).1;omega
   ·exact jX ak
  ·rw[h1,<-aJ] at gh;exact gh
 | @step v u aw aK hu ao aU=>
  intro av jX;have az:0<=bS l v.aA v.node:=by simpa[gN] using aw
  have rW:bS l v.aA v.node∉cg r:=by simpa[gN] using aK
  have aq:=b0.y2 av az;obtain ⟨m,hm,rfl⟩:=arC.1 hu;obtain ⟨k,hk⟩:∃k,k=bS l v.aA v.node:=⟨_,rfl⟩
  rw[<-hk] at hm aU az rW aq⊢;have Bz:v.node∈dz l k:=by rw[hk];exact (CR (by rw[<-hk];exact az)).1
  obtain ⟨x,U⟩:∃x,l[k.toNat]? =are x:=by obtain ⟨_,_,x,U,_⟩:=nI Bz;exact ⟨x,U⟩
  have lo:=uP az U;have fD:m∈sk x (p k) v.node:=by unfold uj at hm;rw[if_pos az,U] at hm;exact hm
  have tQ:m∈dz l k:=by rw[lo];exact Yc fD
  have gh:=aU tQ rW;simp only at gh;obtain ⟨BC,y,ah,c1,iw,c2,lW⟩:=bG.rM _ gh;have adV:0<=bS l k m:=by have:=ao.live;rw[<-hk] at this;simpa[gN] using this
  have aeM:=b0.y2 tQ adV;simp only[aeM] at ah iw c2 lW;rw[U] at ah;cases ah;have r6:=b0.snd x (arI U);rcases PO r6 with lp|lp|lp
  ·exact absurd lp c1
  ·have he:b2 x=[x.a,x.b,x.c]:=by unfold b2;rw[if_neg (by omega),if_pos lp]
   have lx:=(ox r6).1;rw[he] at lx;simp at lx;have l4:v.node∈b2 x:=by rw[<-lo];exact Bz
   rw[he] at l4;simp only[arA,asU,or_false] at l4;by_cases ar:m=x.a
   ·have ab:v.node≠x.a:=by
     intro kj;unfold sk at fD;rw[if_neg (by omega)] at fD;split at fD
     ·have:=ase.1 fD;omega
     ·split at fD
      ·have:=ase.1 fD;omega
      ·obtain ⟨cI,cL,eQ,ad⟩:=Nz r6 lp fD;omega
    have ax:=lW lp ar;have hw:AB l (cg r) d (bK.mk k v.node):=by
     rcases l4 with h|h|h
     ·exact absurd h ab
     ·rw[h];exact ax.1
     ·rw[h];exact ax.2
    rcases hw with ak|hw
    ·exfalso;unfold kv at ak;simp only[aq] at ak;rcases ak with ak|ak
     ·have:=(nI av).1;omega
     ·exact jX ak
    ·exact hw
   ·exfalso;have nu:=an _ _ (c2 lp ar);unfold sk at fD;rw[if_neg (by omega)] at fD;split at fD
    ·rename_i h;have:=ase.1 fD;rw[if_pos this] at nu;omega
    ·split at fD
     ·rename_i h1 h;have:=ase.1 fD;have cJ:m≠x.b:=by omega
      rw[if_neg cJ] at nu;omega
     ·rename_i h1 J;obtain ⟨cI,cL,eQ,ad⟩:=Nz r6 lp fD;rcases ad with ⟨aT,_,e2⟩|⟨_,e⟩|⟨_,e⟩
      ·rcases e2 with e2|e2
       ·rw[if_pos e2] at nu;exact J ⟨lp,aT,nu⟩
       ·rw[if_neg (by omega)] at nu;exact h1 ⟨lp,aT,nu⟩
      ·exact ar e
      ·exact ar e
  ·exfalso;have nu:=an _ _ (iw lp);unfold sk at fD;rw[if_pos ⟨lp,nu⟩] at fD;cases fD
theorem Pd {s:List bi} (aq:s.Pairwise fun a b=>a.aA<b.aA) {y:bi} (ah:y∈s):kb s y.aA=y.ed:=by
 unfold kb;cases aK:s.find? (fun z=>z.aA==y.aA) with
 |none=>have:=auV.1 aK y ah;simp at this
 |some z=>have h1:=avd aK;have J:=List.find?_some aK;rw[ahM aq h1 ah (by simpa using J)]
theorem ahz {l:List aB} {r:List bo} (cn:lV l r) {y:bi} (h:y∈kJ l r):j2 l y:=by
 obtain ⟨v,aa,ah⟩:=as0.1 h;have he:=YX ah;obtain ⟨az,h1⟩:=cn.ok v aa;unfold s7 at ah;split at ah
 ·rename_i x U;refine ⟨by rw[he];exact az,x,by rw[he];exact U, ?_⟩;unfold z7 at ah;split at ah
  ·rename_i hk;have:=ase.1 ah;subst this;exact .inr ⟨hk, .inl rfl⟩
  ·split at ah
   ·rename_i hk;split at ah
    ·have:=ase.1 ah;subst this;exact .inl ⟨hk, .inl rfl⟩
    ·have:=ase.1 ah;subst this;exact .inl ⟨hk, .inr rfl⟩
   ·cases ah
 ·cases ah
theorem vk.j2 {l:List aB} {r:List bo} (cn:lV l r) {s:List bi} {d:hj} {o:jx} (h:vk l r s d o):∀y∈s,j2 l y:=fun y ah=>by
 rcases (h.mem y).1 ah with ah|ah
 ·exact ahz cn ah
 ·obtain ⟨az,_,x,U,hk⟩:=h.ok.ok _ _ ah;refine ⟨az,x,U, ?_⟩;rcases hk with hk|hk
  ·exact .inl hk
  ·exact .inr ⟨hk.1, .inr hk.2⟩
theorem aga {l:List aB} {r:List bo} (ba:kP l r) {s:List bi} {d:hj} {o:jx} (h:vk l r s d o) {q:List bi} (aF:q.Pairwise fun a b=>a.aA<b.aA) (aeN:∀y∈s,y∈q):EQ l r q (kS r).1 (kS r).2=[]:=by
 have an:∀i z,bn o i=are z->kb q i=z:=fun i z aD=>Pd aF (y:=bi.mk i z) (aeN _ ((h.mem _).2 (.inr aD)));have jX:∀i,¬th l r q (kS r).1 (kS r).2 i:=by
  rintro i ⟨x,U,hk,jY,ao⟩;have he:b2 x=[x.a,x.b]:=by unfold b2;rw[if_pos (.inl hk)]
  have key:∀n,n∈b2 x->ka (gN l (cg r) (kb q) (kS r).1 (kS r).2 (id:bK->bK)) (bK.mk i n)->False:=by
   intro n av ao;have UP:n∈dz l (i:Int):=by rw[wZ U];exact av
   have aw:=ajg ba h.dx an ao UP jY;obtain ⟨_,y,ah,c1,_⟩:=h.dx.rM _ aw;have az:0<=bS l (i:Int) n:=by simpa[gN] using ao.live
   have:=(fj.of ba.1).y2 UP az;simp only[this,asv] at ah;rw[U] at ah;cases ah;exact c1 hk
  rcases ao with ao|ao
  ·exact key _ (by rw[he];simp) ao
  ·exact key _ (by rw[he];simp) ao
 unfold EQ;rw[List.map_eq_nil_iff,List.filter_eq_nil_iff];intro i _;simpa using jX i
end Go.W
end
section
namespace Go.W
open Go.aQ
theorem Yi {al bs:Type} {l:List al} (p:al->Bool) (out:bs) (F:Nat->Int->Option (Sum Unit bs)) (az:∀n,F (n+1) (l.length:Int)=are (.inl ()))
  (h1:∀(n i:Nat) (x:al),l[i]? =are x->F (n+1) (i:Int)=if p x=arf then are (.inr out) else F n ((i+1:Nat):Int)):∀(k n i:Nat),k<n->i+k=l.length->F n (i:Int)=are (if (l.drop i).any p=arf then .inr out else .inl ())
 |k,0,i,av,_=>by omega
 |0,n+1,i,av,af=>by
  obtain rfl:i=l.length:=by omega
  rw[az,atf];rfl
 |k+1,n+1,i,av,af=>by
  have aO:i<l.length:=by omega
  rw[h1 n i _ (dw aO),lG (dw aO),ats];by_cases h:p l[i]=arf
  ·rw[if_pos h,h];rfl
  ·rw[if_neg h,Yi p out F az h1 k n (i+1) (by omega) (by omega)];rw[asL] at h;rw[h,asH]
theorem zA {al bs:Type} {l:List al} (p:al->Bool) (out:bs) (F:Nat->Int->Option (Sum Unit bs)) (N:Nat) (bG:l.length<N) (az:∀n,F (n+1) (l.length:Int)=are (.inl ()))
  (h1:∀(n i:Nat) (x:al),l[i]? =are x->F (n+1) (i:Int)=if p x=arf then are (.inr out) else F n ((i+1:Nat):Int)):F N 0=are (if l.any p=arf then .inr out else .inl ()):=by
 have h:=Yi p out F az h1 l.length N 0 bG (by omega);rw[asn] at h;exact h
def EB (a b:bQ):Bool:=a.ew.any fun v=>(cg b.ew).contains v.aA
def tv (s t:bi):Bool:=s.aA==t.aA&&s.ed !=t.ed
def EA (a b:bQ):Bool:=a.e7.any fun s=>b.e7.any (tv s)
def dY (a b:bQ):Bool:=EB a b||EA a b
theorem C2 {a b:bQ}:dY a b=arf↔(∃e,e∈cg a.ew/\e∈cg b.ew)\/∃s∈a.e7,∃t∈b.e7,s.aA=t.aA/\s.ed≠t.ed:=by
 unfold dY EB EA tv;simp only[Bool.or_eq_true,asV,arq,beq_iff_eq,bne_iff_ne,auv,cg,arC];constructor
 ·rintro (⟨v,aa,w,hw,h⟩|h)
  ·exact .inl ⟨v.aA,⟨v,aa,rfl⟩,w,hw,h⟩
  ·exact .inr h
 ·rintro (⟨e,⟨v,aa,rfl⟩,w,hw,h⟩|h)
  ·exact .inl ⟨v,aa,w,hw,h⟩
  ·exact .inr h
theorem OM (a b:bQ):dY a b=dY b a:=by
 have key:∀a b:bQ,dY a b=arf->dY b a=arf:=fun a b h=>by
  rcases C2.1 h with ⟨e,h1,J⟩|⟨s,aq,t,ak,h1,J⟩
  ·exact C2.2 (.inl ⟨e,J,h1⟩)
  ·exact C2.2 (.inr ⟨t,ak,s,aq,h1.symm,fun h=>J h.symm⟩)
 rw[asw];exact ⟨key a b,key b a⟩
theorem af2 (r:List bo) (x:Int):(r.any fun w=>x==w.aA)=(cg r).contains x:=by
 rw[asw];simp only[asV,beq_iff_eq,auv,cg,arC];constructor
 ·rintro ⟨w,hw,h⟩;exact ⟨w,hw,h.symm⟩
 ·rintro ⟨w,hw,h⟩;exact ⟨w,hw,h.symm⟩
def pv (x:bQ):Prop:=x.ew.length<=1000/\x.e7.length<=1000
theorem Zf (N:Nat) (bG:3000<=N) {a b:bQ} (ar:pv a) (ab:pv b):DQ N a b=are (dY a b):=by
 obtain ⟨oX,kT⟩:=ar;obtain ⟨my,ky⟩:=ab;have h1:∀v:bo,sW N v b.ew (b.ew.length:Int) N 0=are (if (cg b.ew).contains v.aA=arf then .inr arf else .inl ()):=fun v=>by
  rw[<-af2];exact zA (fun w=>v.aA==w.aA) arf (fun n i=>sW N v b.ew (b.ew.length:Int) n i) N (l:=b.ew) (by omega) (fun n=>by
   show sW N v b.ew (b.ew.length:Int) (n+1) _=_;rw[sW,if_neg (dO (by omega))]) fun n i w hw=>by
   have ai:=(arp.1 hw).1;show sW N v b.ew (b.ew.length:Int) (n+1) i=_;rw[sW,if_pos (dP (by omega)),dM hw,aH,eB (by omega)]
 have az:sV N b a.ew (a.ew.length:Int) N 0=are (if EB a b=arf then .inr arf else .inl ()):=zA (fun v=>(cg b.ew).contains v.aA) arf (fun n i=>sV N b a.ew (a.ew.length:Int) n i) N (l:=a.ew) (by omega) (fun n=>by
   show sV N b a.ew (a.ew.length:Int) (n+1) _=_;rw[sV,if_neg (dO (by omega))]) fun n i v aa=>by
  have ai:=(arp.1 aa).1;show sV N b a.ew (a.ew.length:Int) (n+1) i=_;rw[sV,if_pos (dP (by omega)),dM aa,aH,h1,aH];by_cases h:(cg b.ew).contains v.aA=arf
  ·rw[if_pos h,if_pos h]
  ·rw[if_neg h,if_neg h];dsimp only;rw[eB (by omega)]
 have aj:∀s:bi,sY N s b.e7 (b.e7.length:Int) N 0=are (if b.e7.any (tv s)=arf then .inr arf else .inl ()):=fun s=>zA (tv s) arf (fun n j=>sY N s b.e7 (b.e7.length:Int) n j) N (l:=b.e7) (by omega) (fun n=>by
   show sY N s b.e7 (b.e7.length:Int) (n+1) _=_;rw[sY,if_neg (dO (by omega))]) fun n j t ak=>by
  have ai:=(arp.1 ak).1;show sY N s b.e7 (b.e7.length:Int) (n+1) j=_;have aJ:HS N s t=are (tv s t):=by
   unfold HS tv;by_cases h:s.aA=t.aA
   ·rw[if_pos (by simpa using h)];simp[h]
   ·rw[if_neg (by simpa using h)];simp[h]
  rw[sY,if_pos (dP (by omega)),dM ak,aH,aJ,aH,eB (by omega)]
 have J:sX N b a.e7 (a.e7.length:Int) N 0=are (if EA a b=arf then .inr arf else .inl ()):=zA (fun s=>b.e7.any (tv s)) arf (fun n i=>sX N b a.e7 (a.e7.length:Int) n i) N (l:=a.e7) (by omega) (fun n=>by
   show sX N b a.e7 (a.e7.length:Int) (n+1) _=_;rw[sX,if_neg (dO (by omega))]) fun n i s aq=>by
  have ai:=(arp.1 aq).1;show sX N b a.e7 (a.e7.length:Int) (n+1) i=_;rw[sX,if_pos (dP (by omega)),dM aq,aH,aj,aH];by_cases h:b.e7.any (tv s)=arf
  ·rw[if_pos h,if_pos h]
  ·rw[if_neg h,if_neg h];dsimp only;rw[eB (by omega)]
 unfold DQ dY;rw[az,aH];by_cases h:EB a b=arf
 ·rw[if_pos h,h];rfl
 ·rw[if_neg h];rw[asL] at h;dsimp only;rw[J,aH,h];by_cases h:EA a b=arf
  ·rw[if_pos h,h];rfl
  ·rw[if_neg h];rw[asL] at h;rw[h];rfl
def dG (s:List bQ) (id:Int):Int:=p7 (fun _ (x:bQ)=>x.iV==id) 0 s
theorem Zg (N:Nat) {s:List bQ} (aq:s.length<=1000) (bG:3000<=N) (id:Int):DV N s id=are (dG s id):=by
 have h:=oq (fun _ (x:bQ)=>x.iV==id) (fun i _=>(i:Int)) (fun n i=>sT N s id (s.length:Int) n i) (l:=s) (fun n=>by
   show sT N s id (s.length:Int) (n+1) _=_;rw[sT,if_neg (dO (by omega))]) (fun n i x U=>by
  have ai:=(arp.1 U).1;show sT N s id (s.length:Int) (n+1) i=_;have hk:Ri N x id=are (x.iV==id):=rfl;rw[sT,if_pos (dP (by omega)),dM U,aH,hk,aH,eB (by omega)]) s.length N 0 (by omega) (by omega)
 rw[asn] at h;unfold DV Rf dG;rw[show sT N s id (s.length:Int) N 0=_ from h,aH];rcases Cd (fun _ (x:bQ)=>x.iV==id) s 0 with ⟨h1,J⟩|⟨h1,_⟩
 ·rw[h1,J];rfl
 ·rw[h1];rfl
theorem PW (s:List bQ) (id:Int):dG s id= -1/\(∀x∈s,x.iV≠id)\/∃(k:Nat) (x:bQ),dG s id=(k:Int)/\s[k]? =are x/\x.iV=id:=by
 rcases Gb (fun _ (x:bQ)=>x.iV==id) s 0 with ⟨h1,J⟩|⟨j,x,h1,J,aj,_⟩
 ·refine .inl ⟨h1,fun x U=> ?_⟩;obtain ⟨j,ap⟩:=asx U;simpa using J j x ap
 ·exact .inr ⟨j,x,by rw[dG,h1];simp,J,by simpa using aj⟩
theorem alI (N:Nat) {a:List bi} (ar:a.length<=1000) (bG:3000<=N):IU N a a=are arf:=by
 have h:=zA (fun _:bi=>arj) arj (fun n i=>sU N a a (a.length:Int) n i) N (l:=a) (by omega) (fun n=>by
   show sU N a a (a.length:Int) (n+1) _=_;rw[sU,if_neg (dO (by omega))]) fun n i x U=>by
  have ai:=(arp.1 U).1;show sU N a a (a.length:Int) (n+1) i=_;rw[sU,if_pos (dP (by omega)),dM U,aH,aH,if_neg (by simp),if_neg (by simp),eB (by omega)]
 unfold IU;rw[if_neg (by simp),show sU N a a (a.length:Int) N 0=_ from h,if_neg (by simp),aH]
def pF (a b:bQ):Bool:=(a.iV==b.iV)||dY a b
theorem afY (N:Nat) (bG:3000<=N) {a b:bQ} (ar:pv a) (ab:pv b):HY N a b=are (pF a b):=by
 unfold HY pF;by_cases h:a.iV=b.iV
 ·rw[if_pos (by simpa using h)];simp[h]
 ·rw[if_neg (by simpa using h),Zf N bG ar ab,aH];simp[h]
theorem VW (N:Nat) (bG:3000<=N) {s:List bQ} (aq:∀x∈s,pv x) (ai:s.length<=1000) {a:bQ} (ar:pv a) {i:Nat} (af:i<s.length):∀(k n j:Nat),k<n->j+k=i->
  xb N i a s (s.length:Int) n j=are (if ((s.take i).drop j).any (pF a)=arf then .inr (.inr arj) else .inl ())
 |k,0,j,av,_=>by omega
 |0,n+1,j,av,ap=>by
  obtain rfl:j=i:=by omega
  rw[xb,if_pos (dP (by omega)),dM (dw af),aH,if_pos (ue (by omega)),List.drop_eq_nil_of_le (by simp;omega)];rfl
 |k+1,n+1,j,av,ap=>by
  have aO:j<s.length:=by omega
  have aa:=dw aO;have kY:(s.take i)[j]? =are s[j]:=by rw[asg,if_pos (by omega)];exact aa
  rw[xb,if_pos (dP (by omega)),dM aa,aH,if_neg (wj (by omega)),afY N bG ar (aq _ (ate aO)),aH,eB (by omega),lG kY,ats];by_cases h:pF a s[j]=arf
  ·rw[if_pos h,h];rfl
  ·rw[if_neg h,VW N bG aq ai ar af k n (j+1) (by omega) (by omega)];rw[asL] at h;rw[h,asH]
def QK (s:List bQ):Sum Unit Bool:=cv (fun i x=>(s.take i).any (pF x)) (fun _ _=>arj) 0 s
structure SO (N:Nat) (l:List aB) (x:bQ):Prop where
 id:0<=x.iV
 rI:pv x
 p:qi N l x.ew=are (x.e7,0)
 rt:kP l x.ew
 No:∃d o,vk l x.ew x.e7 d o
structure hf (N:Nat) (l:List aB) (s:List bQ):Prop where
 len:s.length<=16
 ok:∀x∈s,SO N l x
 uo:s.Pairwise fun a b=>a.iV≠b.iV/\dY a b=arj
theorem aiL (N:Nat) (bG:6000<=N) {l:List aB} (b0:fj l) {s:List bQ} (aq:∀x∈s,SO N l x) (ai:s.length<=16):DS N l s=are (match QK s with| .inl _=>arf| .inr b=>b):=by
 have J:∀(i:Nat) (x:bQ),s[i]? =are x->HW N l s s i=are (if (s.take i).any (pF x)=arf then .inr arj else .inl ()):=fun i x U=>by
  have aO:=(arp.1 U).1;have hk:=aq x (arI U);have aj:HX N x x.e7 0=are arj:=by unfold HX;rw[if_neg (dO (by have:=hk.id;omega)),if_neg (by simp),alI N hk.rI.2 (by omega),aH];rfl
  have aJ:=VW N (by omega) (fun y ah=>(aq y ah).rI) (by omega) hk.rI aO i N 0 (by omega) (by omega);unfold HW;rw[dM U,aH,hk.p,aH,aj,aH,if_neg (by simp),show xb N i x s (s.length:Int) N 0=_ from aJ,aH,asn];by_cases h:(s.take i).any (pF x)=arf
  ·rw[if_pos h,if_pos h]
  ·rw[if_neg h,if_neg h]
 have h:=oq (fun i x=>(s.take i).any (pF x)) (fun _ _=>arj) (fun n i=>s0 N l s s (s.length:Int) n i) (l:=s) (fun n=>by
   show s0 N l s s (s.length:Int) (n+1) _=_;rw[s0,if_neg (dO (by omega))]) (fun n i x U=>by
  have aO:=(arp.1 U).1;show s0 N l s s (s.length:Int) (n+1) i=_;rw[s0,if_pos (dP (by omega)),J i x U,aH];by_cases h:(s.take i).any (pF x)=arf
  ·rw[if_pos h,if_pos h]
  ·rw[if_neg h,if_neg h];dsimp only;rw[eB (by omega)]) s.length N 0 (by omega) (by omega)
 rw[asn] at h;unfold DS;have az:HV N l s=are arj:=by unfold HV;rw[b0.p N (by omega),aH,if_neg (by simp)];congr 1;exact decide_eq_false (by omega)
 rw[az,aH,if_neg (by simp),show s0 N l s s (s.length:Int) N 0=_ from h,aH];unfold QK;cases cv (fun i x=>(s.take i).any (pF x)) (fun _ _=>arj) 0 s<;>rfl
theorem hf.cv {N:Nat} {l:List aB} {s:List bQ} (h:hf N l s):QK s= .inl ():=by
 refine wF.2 fun j x U=> ?_;rw[arE,atJ];intro ad;obtain ⟨y,ah,ab⟩:=asV.1 ad;obtain ⟨i,af,ah⟩:=Gz.1 ah;obtain ⟨jW,kC⟩:=arp.1 ah;obtain ⟨hP,l2⟩:=arp.1 U;have:=asy.1 h.uo i j jW hP af;rw[kC,l2] at this;unfold pF at ab;rw[OM,this.2] at ab;simp at ab;exact this.1 ab.symm
theorem hf.p {N:Nat} (bG:6000<=N) {l:List aB} (b0:fj l) {s:List bQ} (h:hf N l s):DS N l s=are arf:=by
 rw[aiL N bG b0 h.ok h.len,h.cv]
theorem hf.dG {N:Nat} {l:List aB} {s:List bQ} (h:hf N l s) {i:Nat} {x:bQ} (U:s[i]? =are x):dG s x.iV=(i:Int):=by
 rcases PW s x.iV with ⟨_,J⟩|⟨k,y,h1,J,aj⟩
 ·exact absurd rfl (J x (arI U))
 ·rw[h1];obtain ⟨jW,kC⟩:=arp.1 U;obtain ⟨nn,fC⟩:=arp.1 J;rcases as1 k i with yE|rfl|yE
  ·have:=asy.1 h.uo k i nn jW yE;rw[kC,fC] at this;exact absurd aj this.1
  ·rfl
  ·have:=asy.1 h.uo i k jW nn yE;rw[kC,fC] at this;exact absurd aj.symm this.1
end Go.W
end
section
namespace Go.W
open Go.aQ
theorem ahH (N:Nat) (bG:4000<=N) {l:List aB} (b0:fj l) (fr to:Int):∃f,jP N l fr to=are f/\f.1.length<=1000:=by
 have ai:=b0.len;rcases ajK N bG b0 fr to with ⟨h,_⟩|⟨_,_,_,h|h|⟨r,h,ba,_⟩⟩
 ·exact ⟨_,h,by simp⟩
 ·exact ⟨_,h,by simp⟩
 ·exact ⟨_,h,by simp⟩
 ·exact ⟨_,h,by have:=Zk ba;show r.length<=1000;omega⟩
def u1 (s:List bQ) (id:Int) (f:List bo×Int) (p:List bi×Int):List bQ×Int:=
 if id<0 then ([],2) else if 0<=dG s id then ([],8) else if s.length=16 then ([],18) else if f.2≠0 then ([],f.2) else if p.2≠0 then ([],p.2)
 else if s.any (dY (bQ.mk id f.1 p.1))=arf then ([],23) else (s++[bQ.mk id f.1 p.1],0)
theorem ajB (N:Nat) {xs:List bo} (h:xs.length<=1000):IV N xs=are xs:=by
 unfold IV;refine Yy fun t ak=> ?_;cases t with
 |true=>rw[if_pos rfl,ak rfl]
 |false=>rw[if_neg (by simp),iX (by simp;omega),aH,atd]
theorem ajA (N:Nat) {xs:List bi} (h:xs.length<=1000):IT N xs=are xs:=by
 unfold IT;refine Yy fun t ak=> ?_;cases t with
 |true=>rw[if_pos rfl,ak rfl]
 |false=>rw[if_neg (by simp),iX (by simp;omega),aH,atd]
theorem WW (N:Nat) {x:bQ} (h:pv x):DR N x=are x:=by
 unfold DR;rw[ajB N h.1,aH,ajA N h.2,aH]
theorem Xo (N:Nat) (bG:6000<=N) {x:bQ} (U:pv x) {s:List bQ} (aq:∀y∈s,pv y) (ai:s.length<=1000):∀(k n i:Nat) (acc:List bQ),k<n->i+k=s.length->acc.length<=i->
  xg N x s (s.length:Int) n acc i=are (if (s.drop i).any (dY x)=arf then .inr 23 else .inl (acc++s.drop i))
 |k,0,i,acc,av,_,_=>by omega
 |0,n+1,i,acc,av,af,_=>by
  obtain rfl:i=s.length:=by omega
  rw[xg,if_neg (dO (by omega)),atf,asI];rfl
 |k+1,n+1,i,acc,av,af,ar=>by
  have aO:i<s.length:=by omega
  have ab:=aq _ (ate aO);rw[xg,if_pos (dP (by omega)),dM (dw aO),aH,Zf N (by omega) U ab,aH,lG (dw aO),ats];by_cases h:dY x s[i]=arf
  ·rw[if_pos h,h];rfl
  ·rw[if_neg h,WW N ab,aH,iX (by simp;omega),aH,eB (by omega),Xo N bG U aq ai k n (i+1) _ (by omega) (by omega) (by simp;omega)];rw[asL] at h;rw[h,asH,as7];rfl
def del (s:List bQ) (k:Nat):List bQ:=s.take k++s.drop (k+1)
def zZ (s:List bQ) (id:Int):List bQ×Int:=if dG s id<0 then ([],13) else (del s (dG s id).toNat,0)
theorem ajF (s:List bQ) (k:Nat):(del s k).Sublist s:=by
 unfold del
 conv=>rhs;rw[<-List.take_append_drop k s]
 have h:=List.drop_sublist 1 (s.drop k);rw[List.drop_drop] at h;exact List.Sublist.append (List.Sublist.refl _) h
theorem N7 (N:Nat) {s:List bQ} (aq:∀y∈s,pv y) (ai:s.length<=1000) {q:Nat} (aF:q<s.length):∀(k n i:Nat) (acc:List bQ),k<n->i+k=s.length->acc.length<=i->xa N (q:Int) s (s.length:Int) n acc i=are (acc++if i<=q then (s.take q).drop i++s.drop (q+1) else s.drop i)
 |k,0,i,acc,av,_,_=>by omega
 |0,n+1,i,acc,av,af,_=>by
  obtain rfl:i=s.length:=by omega
  rw[xa,if_neg (dO (by omega)),if_neg (by omega),atf,asI]
 |k+1,n+1,i,acc,av,af,ar=>by
  have aO:i<s.length:=by omega
  have ab:=aq _ (ate aO);rw[xa,if_pos (dP (by omega))];unfold Qe;rw[dM (dw aO),aH];by_cases h:i=q
  ·subst h;have aw:(s.take i).drop i=[]:=List.drop_eq_nil_of_le (by rw[asq];omega);rw[if_neg (by simp),aH,eB (by omega),N7 N aq ai aF k n (i+1) _ (by omega) (by omega) (by omega),if_neg (by omega),if_pos (Nat.le_refl i),aw,atd]
  ·rw[if_pos (by simp;omega),WW N ab,aH,iX (by simp;omega),aH,aH,eB (by omega),N7 N aq ai aF k n (i+1) _ (by omega) (by omega) (by simp;omega)];by_cases J:i<q
   ·have kY:(s.take q)[i]? =are s[i]:=by rw[asg,if_pos J];exact dw aO
    rw[if_pos (by omega),if_pos (by omega),lG kY,as7];rfl
   ·rw[if_neg (by omega),if_neg (by omega),lG (dw aO),as7];rfl
theorem aiI (N:Nat) (bG:6000<=N) {l:List aB} (b0:fj l) {r:List bo} (ao:r.length<=1000):∃p,qi N l r=are p/\p.1.length<=1000/\(p.2=0->kP l r/\∃d o,vk l r p.1 d o):=by
 rcases agn N bG b0 ao with ⟨e,he,h1⟩|⟨ba,s,d,o,h1,aj,aJ⟩
 ·exact ⟨_,h1,by simp,fun h=>absurd h he⟩
 ·exact ⟨_,h1,aJ,fun _=>⟨ba,d,o,aj⟩⟩
theorem ajX {N:Nat} {l:List aB} {s:List bQ} (eN:hf N l s) {id:Int} {f:List bo×Int} {p:List bi×Int} (aK:f.1.length<=1000) (an:qi N l f.1=are p) (ai:p.1.length<=1000) (az:p.2=0->kP l f.1/\∃d o,vk l f.1 p.1 d o):
  (u1 s id f p).2=0->(u1 s id f p).1=s++[bQ.mk id f.1 p.1]/\hf N l (s++[bQ.mk id f.1 p.1])/\dG s id= -1/\s.length≠16:=by
 unfold u1;by_cases h1:id<0
 ·rw[if_pos h1];intro h;simp at h
 rw[if_neg h1];by_cases J:0<=dG s id
 ·rw[if_pos J];intro h;simp at h
 rw[if_neg J];by_cases aj:s.length=16
 ·rw[if_pos aj];intro h;simp at h
 rw[if_neg aj];by_cases aJ:f.2≠0
 ·rw[if_pos aJ];intro h;exact absurd h aJ
 rw[if_neg aJ];by_cases bk:p.2≠0
 ·rw[if_pos bk];intro h;exact absurd h bk
 rw[if_neg bk];by_cases dn:s.any (dY (bQ.mk id f.1 p.1))=arf
 ·rw[if_pos dn];intro h;simp at h
 rw[if_neg dn];intro _;have bk:p.2=0:=by omega
 obtain ⟨ba,aw⟩:=az bk;have Uu:dG s id= -1/\∀x∈s,x.iV≠id:=by
  rcases PW s id with h|⟨k,x,h,_⟩
  ·exact h
  ·omega
 have tU:(p.1,(0:Int))=p:=by rw[<-bk]
 refine ⟨rfl,⟨?_, ?_, ?_⟩,Uu.1,aj⟩
 ·have:=eN.len;simp;omega
 ·intro x U;rcases arO.1 U with U|U
  ·exact eN.ok x U
  ·rw[ase.1 U];exact ⟨by show 0<=id;omega,⟨aK,ai⟩,by rw[tU];exact an,ba,aw⟩
 ·rw[List.pairwise_append];refine ⟨eN.uo,by simp,fun a ar b ab=> ?_⟩;rw[ase.1 ab];refine ⟨Uu.2 a ar, ?_⟩;rw[OM,atJ];exact fun ad=>dn (asV.2 ⟨a,ar,ad⟩)
theorem akl (N:Nat) (bG:6000<=N) {l:List aB} (b0:fj l) {s:List bQ} (eN:hf N l s) {id fr to:Int} {f:List bo×Int} {p:List bi×Int} (aK:jP N l fr to=are f) (gZ:f.1.length<=1000) (an:qi N l f.1=are p) (oa:p.1.length<=1000):
  I3 N l s id fr to=are (u1 s id f p):=by
 have ai:=eN.len;unfold I3 DT u1;rw[b0.p N (by omega),aH,if_neg (by simp),eN.p bG b0,aH,if_neg (by simp),aH,cR,if_neg (by simp),cR];by_cases h1:id<0
 ·rw[if_pos (dP h1),if_pos h1]
 rw[if_neg (dO h1),if_neg h1,Zg N (by omega) (by omega),aH,cR];by_cases J:0<=dG s id
 ·rw[if_pos (ue J),if_pos J]
 rw[if_neg (wj J),if_neg J,cR];by_cases aj:s.length=16
 ·rw[if_pos (by simp[aj]),if_pos aj]
 rw[if_neg (by simp;omega),if_neg aj,aK,aH];by_cases aJ:f.2≠0
 ·rw[if_pos (by simpa using aJ),if_pos aJ]
 rw[if_neg (by simpa using aJ),if_neg aJ,an,aH];by_cases bk:p.2≠0
 ·rw[if_pos (by simpa using bk),if_pos bk]
 rw[if_neg (by simpa using bk),if_neg bk];have h:=Xo N bG (x:=bQ.mk id f.1 p.1) ⟨gZ,oa⟩ (fun y ah=>(eN.ok y ah).rI) (by omega) s.length N 0 [] (by omega) (by omega) (by simp);rw[asn,atd] at h;rw[show xg N (bQ.mk id f.1 p.1) s (s.length:Int) N [] 0=_ from h,aH];by_cases dn:s.any (dY (bQ.mk id f.1 p.1))=arf
 ·rw[if_pos dn,if_pos dn]
 ·rw[if_neg dn,if_neg dn];dsimp only;rw[iX (by simp;omega),aH]
theorem hf.sub {N:Nat} {l:List aB} {s t:List bQ} (h:hf N l s) (ak:t.Sublist s):hf N l t:=⟨by have:=h.len;have:=ak.length_le;omega,fun x U=>h.ok x (ak.subset U),h.uo.sublist ak⟩
theorem akk (N:Nat) (bG:6000<=N) {l:List aB} (b0:fj l) {s:List bQ} (eN:hf N l s) (id:Int):IY N l s id=are (zZ s id):=by
 have ai:=eN.len;unfold IY DT zZ;rw[b0.p N (by omega),aH,if_neg (by simp),eN.p bG b0,aH,if_neg (by simp),aH,if_neg (by simp),Zg N (by omega) (by omega),aH];rcases PW s id with ⟨h,_⟩|⟨k,x,h,U,_⟩
 ·rw[h,if_pos (by decide),if_pos (by decide)]
 ·have hk:=(arp.1 U).1;have ao:=N7 N (fun y ah=>(eN.ok y ah).rI) (by omega) hk s.length N 0 [] (by omega) (by omega) (by simp);rw[h,if_neg (dO (by omega)),if_neg (by omega),show xa N (k:Int) s (s.length:Int) N [] 0=_ from ao,aH,if_pos (by omega),asn,atd];rfl
theorem hf.rel {N:Nat} {l:List aB} {s:List bQ} (h:hf N l s) {id:Int} (az:(zZ s id).2=0):hf N l (zZ s id).1:=by
 unfold zZ at az⊢;by_cases h1:Go.W.dG s id<0
 ·rw[if_pos h1] at az;simp at az
 ·rw[if_neg h1];exact h.sub (ajF s _)
theorem hf.nil (N:Nat) (l:List aB):hf N l []:=⟨by simp,by simp,List.Pairwise.nil⟩
end Go.W
end
section
namespace Go.W
open Go.aQ
end Go.W
end
section
namespace Go.W
open Go.aQ
def pw (s:List bQ) (y:bi):Prop:=∃x∈s,y∈x.e7
theorem akF (N:Nat) (bG:60000<=N) {q:List bi} (aF:q.length<=50000) (x:bi):IQ N q x=are (q.any fun y=>y.aA==x.aA):=by
 have h:=oq (fun _ (y:bi)=>y.aA==x.aA) (fun i _=>(i:Int)) (fun n i=>sS N q x (q.length:Int) n i) (l:=q) (fun n=>by
   show sS N q x (q.length:Int) (n+1) _=_;rw[sS,if_neg (dO (by omega))]) (fun n i y ah=>by
  have ai:=(arp.1 ah).1;show sS N q x (q.length:Int) (n+1) i=_;have hk:Rg N y x=are (y.aA==x.aA):=rfl;rw[sS,if_pos (dP (by omega)),dM ah,aH,hk,aH,eB (by omega)]) q.length N 0 (by omega) (by omega)
 rw[asn] at h;have aK:IS N q x=are (p7 (fun _ (y:bi)=>y.aA==x.aA) 0 q):=by
  unfold IS;rw[show sS N q x (q.length:Int) N 0=_ from h,aH];rcases Cd (fun _ (y:bi)=>y.aA==x.aA) q 0 with ⟨h1,J⟩|⟨h1,_⟩
  ·rw[h1,J]
  ·rw[h1]
 unfold IQ;rw[aK,aH,cR];congr 1;rw[asw];rcases Gb (fun _ (y:bi)=>y.aA==x.aA) q 0 with ⟨h1,J⟩|⟨j,y,h1,J,aj,_⟩
 ·rw[h1];constructor
  ·intro h;simp at h
  ·intro h;obtain ⟨y,ah,ad⟩:=asV.1 h;obtain ⟨j,ap⟩:=asx ah;rw[J j y ap] at ad;cases ad
 ·rw[h1];constructor
  ·intro _;exact asV.2 ⟨y,arI J,aj⟩
  ·intro _;exact ue (by omega)
structure AH (s:List bQ) (q:List bi) (P:bi->Prop) (c:Nat):Prop where
 len:q.length<=c
 gX:(q.map bi.aA).Nodup
 mem:∀y,y∈q↔P y
 sub:∀y,P y->pw s y
theorem hf.fun {N:Nat} {l:List aB} {s:List bQ} (h:hf N l s) {y z:bi} (ah:pw s y) (aD:pw s z) (he:y.aA=z.aA):y=z:=by
 have an:y.ed=z.ed:=by
  obtain ⟨a,ar,ah⟩:=ah;obtain ⟨b,ab,aD⟩:=aD;by_cases eD:a=b
  ·subst eD;obtain ⟨d,o,r5⟩:=(h.ok a ar).No;rw[<-Pd r5.lt ah,<-Pd r5.lt aD,he]
  ·obtain ⟨i,af⟩:=asx ar;obtain ⟨j,ap⟩:=asx ab;obtain ⟨jW,kC⟩:=arp.1 af;obtain ⟨hP,l2⟩:=arp.1 ap;have ad:dY a b=arj:=by
    rcases as1 i j with aO|rfl|aO
    ·have:=(asy.1 h.uo i j jW hP aO).2
     rwa [kC,l2] at this
    ·rw[kC] at l2;exact absurd l2 eD
    ·have:=(asy.1 h.uo j i hP jW aO).2;rw[kC,l2,OM] at this;exact this
   by_cases dt:y.ed=z.ed
   ·exact dt
   ·rw[atJ] at ad;exact absurd (C2.2 (.inr ⟨y,ah,z,aD,he,dt⟩)) ad
 cases y;cases z;simp at he an⊢;exact ⟨he,an⟩
theorem Nn (N:Nat) (bG:60000<=N) {l:List aB} {s:List bQ} (eN:hf N l s) {xs:List bi} (U:∀y∈xs,pw s y) (FG:xs.length<=1000):∀(k n i c:Nat) (q:List bi) (P:bi->Prop),k<n->i+k=xs.length->AH s q P c->c+k<=40000->
  ∃dL,w9 N xs (xs.length:Int) n q i=are dL/\AH s dL (fun y=>P y\/y∈xs.drop i) (c+k)
 |k,0,i,c,q,P,av,_,_,_=>by omega
 |0,n+1,i,c,q,P,av,af,h,_=>by
  obtain rfl:i=xs.length:=by omega
  rw[w9,if_neg (dO (by omega))];exact ⟨q,rfl,h.len,h.gX,fun y=>by rw[h.mem];simp,fun y ah=>ah.elim (h.sub y) fun h=>by simp at h⟩
 |k+1,n+1,i,c,q,P,av,af,h,ad=>by
  have aO:i<xs.length:=by omega
  have ar:=dw aO;have hlen:=h.len;have tK:=lG ar;obtain ⟨x,iD⟩:∃x,x=xs[i]:=⟨_,rfl⟩
  rw[<-iD] at ar tK;have pS:pw s x:=U x (arI ar);rw[w9,if_pos (dP (by omega))];unfold Qd;rw[dM ar,aH,akF N bG (by omega),aH];by_cases ax:(q.any fun y=>y.aA==x.aA)=arf
  ·obtain ⟨y,ah,afb⟩:=asV.1 ax;have afe:y=x:=eN.fun (h.sub y ((h.mem y).1 ah)) pS (by simpa using afb);subst afe;rw[ax,if_neg (by simp),aH,eB (by omega)];obtain ⟨dL,g1,g2⟩:=Nn N bG eN U FG k n (i+1) c q P (by omega) (by omega) h (by omega);refine ⟨dL,g1,by have:=g2.len;omega,g2.gX,fun z=> ?_,fun z aD=> ?_⟩
   ·rw[g2.mem,tK,arA];constructor
    ·rintro (aD|aD)
     ·exact .inl aD
     ·exact .inr (.inr aD)
    ·rintro (aD|rfl|aD)
     ·exact .inl aD
     ·exact .inl ((h.mem _).1 ah)
     ·exact .inr aD
   ·rcases aD with aD|aD
    ·exact h.sub z aD
    ·exact U z (at6 aD)
  ·have jX:∀y∈q,y.aA≠x.aA:=fun y ah he=>ax (asV.2 ⟨y,ah,by simpa using he⟩);rw[asL] at ax;rw[ax,if_pos (by rfl),iX (by simp;omega),aH,aH,eB (by omega)];have J:AH s (q++[x]) (fun y=>P y\/y=x) (c+1):=by
    refine ⟨by simp;omega, ?_,fun z=> ?_,fun z aD=> ?_⟩
    ·rw[as9,asY];refine ⟨h.gX,by simp,fun a ar b ab=> ?_⟩;obtain ⟨y,ah,rfl⟩:=arC.1 ar;simp at ab;subst ab;exact jX y ah
    ·rw[arO,h.mem,ase]
    ·rcases aD with aD|rfl
     ·exact h.sub z aD
     ·exact pS
   obtain ⟨dL,g1,g2⟩:=Nn N bG eN U FG k n (i+1) (c+1) (q++[x]) (fun y=>P y\/y=x) (by omega) (by omega) J (by omega);refine ⟨dL,g1,by have:=g2.len;omega,g2.gX,fun z=> ?_,fun z aD=> ?_⟩
   ·rw[g2.mem,tK,arA,or_assoc]
   ·rcases aD with aD|aD
    ·exact h.sub z aD
    ·exact U z (at6 aD)
theorem VT (N:Nat) (bG:60000<=N) {l:List aB} {s:List bQ} (eN:hf N l s):∀(k n i:Nat) (q:List bi) (P:bi->Prop),k<n->i+k=s.length->AH s q P (1000*i)->
  ∃dL,w8 N s (s.length:Int) n q i=are dL/\AH s dL (fun y=>P y\/pw (s.drop i) y) (1000*s.length)
 |k,0,i,q,P,av,_,_=>by omega
 |0,n+1,i,q,P,av,af,h=>by
  obtain rfl:i=s.length:=by omega
  rw[w8,if_neg (dO (by omega))];exact ⟨q,rfl,h.len,h.gX,fun y=>by rw[h.mem];simp[pw],fun y ah=>ah.elim (h.sub y) fun h=>by simp[pw] at h⟩
 |k+1,n+1,i,q,P,av,af,h=>by
  have ai:=eN.len;have aO:i<s.length:=by omega
  have ar:=dw aO;have tK:=lG ar;obtain ⟨x,iD⟩:∃x,x=s[i]:=⟨_,rfl⟩
  rw[<-iD] at ar tK;have wa:=arI ar;have ab:=(eN.ok x wa).rI.2;obtain ⟨cI,h1,J⟩:=Nn N bG eN (xs:=x.e7) (fun y ah=>⟨x,wa,ah⟩) ab x.e7.length N 0 (1000*i) q P (by omega) (by omega) h (by omega);rw[w8,if_pos (dP (by omega)),dM ar,aH,show w9 N x.e7 (x.e7.length:Int) N q 0=_ from h1,aH,eB (by omega)];obtain ⟨dL,g1,g2⟩:=VT N bG eN k n (i+1) cI (fun y=>P y\/y∈x.e7) (by omega) (by omega) ⟨by have:=J.len;omega,J.gX,fun y=>by rw[J.mem,asn],fun y ah=>J.sub y (by rw[asn];exact ah)⟩;refine ⟨dL,g1,g2.len,g2.gX,fun y=> ?_,fun y ah=> ?_⟩
  ·rw[g2.mem,tK,or_assoc];unfold pw;simp only[arA,exists_eq_or_imp]
  ·rcases ah with ah|⟨a,ar,ah⟩
   ·exact h.sub y ah
   ·exact ⟨a,at6 ar,ah⟩
theorem aki (N:Nat) (bG:60000<=N) {l:List aB} (b0:fj l) {s:List bQ} (eN:hf N l s):∃q,IW N s=are q/\(q.Pairwise fun a b=>a.aA<b.aA)/\(∀y,y∈q↔pw s y)/\q.length<=1000/\ql l q:=by
 have ai:=eN.len;obtain ⟨q,h1,J⟩:=VT N bG eN s.length N 0 [] (fun _=>False) (by omega) (by omega) ⟨by simp,by simp,by simp,by simp⟩;have hlen:=J.len;have jn:∀y,y∈mR q↔pw s y:=fun y=>by rw[NG,J.mem,asn];simp
 have cy:∀y∈mR q,j2 l y:=fun y ah=>by obtain ⟨x,U,ah⟩:=(jn y).1 ah;obtain ⟨d,o,r5⟩:=(eN.ok x U).No;exact r5.j2 (eN.ok x U).rt.2.1 y ah
 have aO:=Oa J.gX;refine ⟨mR q, ?_,aO,jn, ?_,ql.of cy aO⟩
 ·unfold IW;rw[show w8 N s (s.length:Int) N [] 0=_ from h1,aH];unfold k9;rw[if_pos (by omega),aH];rfl
 ·have oa:=b0.len;have:=wD (a:=(mR q).map bi.aA) (b:=(ar2 l.length).map fun (i:Nat)=>(i:Int)) (by
   unfold List.Nodup;rw[auC];exact aO.imp fun h he=>by omega) fun a ar=>by
   obtain ⟨y,ah,rfl⟩:=arC.1 ar;obtain ⟨az,x,U,_⟩:=cy y ah;have:=(arp.1 U).1;exact arC.2 ⟨y.aA.toNat,asF.2 this,by omega⟩
  simp at this;omega
end Go.W
end
section
namespace Go.W
open Go.aQ
theorem aoG {b:UInt8} (h:48<=b.toNat/\b.toNat<=57):art .u8 ((b.toNat:Int) - 48)=((b.toNat - 48:Nat):Int):=by
 have:art .u8 ((b.toNat:Int) - 48)=((b.toNat:Int) - 48)%256:=by rfl
 rw[this];omega
theorem Ym:∀(k:Nat) (l:List UInt8),l.length=k->(∀b∈l,b.toNat<=57)->qY l<10 ^ k
 |0,l,h,_=>by rw[List.length_eq_zero_iff.1 h];simp[qY]
 |k+1,l,h,aw=>by
  have bL:l≠[]:=by intro e;rw[e] at h;cases h
  have U:=aw _ (List.getLast_mem bL);have aU:=Ym k l.dropLast (by simp[h]) fun b ab=>aw b (List.dropLast_subset l ab);rw[<-List.dropLast_concat_getLast bL,NX,Nat.pow_succ];omega
theorem Yn (N:Nat) {s:List UInt8} (aq:s.length<=7) (aw:∀b∈s,48<=b.toNat/\b.toNat<=57):∀(k n i:Nat),k<n->i+k=s.length->xk N s (s.length:Int) n (qY (s.take i):Int) (i:Int)=are (.inl (qY s:Int))
 |k,0,i,h,_=>by omega
 |0,n+1,i,_,h=>by rw[xk,if_neg (dO (by omega)),show i=s.length by omega,asO]
 |k+1,n+1,i,hk,h=>by
  have ab:=dw (xs:=s) (i:=i) (by omega);obtain ⟨d1,d2⟩:=aw _ (ate (l:=s) (show i<s.length by omega));have J:HK N s (i:Int)=are arj:=by unfold HK;rw[dM ab,aH,if_neg (by simp;omega),aH];simp;omega
  have ai:=Ym i (s.take i) (by rw[asq];omega) fun b ab=>(aw b (List.mem_of_mem_take ab)).2;have an:10 ^ i<=10 ^ 6:=Nat.pow_le_pow_right (by omega) (by omega);rw[xk,if_pos (dP (by omega)),J,aH,if_neg (by simp),dM ab,aH,cR,aoG ⟨d1,d2⟩,hq (n:=10*_) (by omega) (by omega),hq (n:=((s[i].toNat - 48:Nat):Int)) (by omega) (by omega),hq (by omega) (by omega),eB (by omega)];have he:(10*(qY (s.take i):Int)+((s[i].toNat - 48:Nat):Int))=(qY (s.take (i+1)):Int):=by rw[auz (by omega),NX];omega
  rw[he];exact Yn N aq aw k n (i+1) (by omega) (by omega)
theorem ag1 (N:Nat) (bG:10<=N) {n:Int} (az:0<=n) (h1:n<=100000):oK N (arD n)=are (n,arf):=by
 obtain ⟨u,rfl⟩:=ar8 az;have af:arD ((u:Nat):Int)=asA u:=by unfold arD;rw[if_neg (by omega)];rfl
 rw[af];obtain ⟨aT,e2,hV,kR⟩:=Zt u;have ai:=G0 5 u (by omega);have U:HJ N (asA u)=are arj:=by
  unfold HJ;rw[if_neg (by simpa using hV),if_neg (by simp;omega)];by_cases hu:u=0
  ·subst hu;rw[show asA 0=[48] by rw[asA];rfl];rfl
  ·obtain ⟨b,r,ao,ab⟩:=kR (by omega);have aM:bc (asA u) 0=are b:=by rw[ao];rfl
   rw[aM,aH,if_neg (by simp;omega)]
 have J:=Yn N (s:=asA u) (by omega) e2 _ N 0 (by omega) (arE _);rw[aT] at J;have J:xk N (asA u) ((asA u).length:Int) N 0 0=are (.inl (u:Int)):=J;unfold oK;rw[U,aH,if_neg (by simp),J,aH];simp only[cR];rw[decide_eq_true (by omega)]
theorem ajl {n:Int} (az:0<=n):arD n≠[]/\(∀b∈arD n,48<=b.toNat/\b.toNat<=57):=by
 obtain ⟨u,rfl⟩:=ar8 az;have af:arD ((u:Nat):Int)=asA u:=by unfold arD;rw[if_neg (by omega)];rfl
 rw[af];obtain ⟨aT,e2,hV,kR⟩:=Zt u;exact ⟨hV,e2⟩
theorem uu {n:Int} (az:0<=n) (h1:n<=100000):(arD n).length<=6:=by
 obtain ⟨u,rfl⟩:=ar8 az;have af:arD ((u:Nat):Int)=asA u:=by unfold arD;rw[if_neg (by omega)];rfl
 rw[af];exact G0 5 u (by omega)
def iY (x:aB):List UInt8:=jj x.kind++(x.name::(hL x).map arD).flatMap fun p=>32::p
theorem YB (x:aB):yi x=iY x++[10]:=by
 unfold yi iY;simp[ave]
theorem Ca {x:aB} (h:hE x=arf):(x.kind=1\/x.kind=2\/x.kind=3)/\(∀n∈hL x,0<=n/\n<=100000)/\(x.kind=1->x.c=0)/\(x.kind=2->x.length=0)/\(x.kind=3->x.c=0/\x.length=0):=by
 obtain ⟨_,h1,J,aj⟩:=ox h;unfold hE at h;simp only[arq] at h;have hk:x.kind=1\/x.kind=2\/x.kind=3:=by
  unfold b2 at J;split at J
  ·rename_i hk;rcases hk with hk|hk<;>simp[hk]
  ·split at J
   ·rename_i hk;simp[hk]
   ·exact absurd rfl J
 unfold b2 at h1;refine ⟨hk, ?_⟩;rcases hk with hk|hk|hk<;>simp[hk,hL] at h h1⊢<;>omega
theorem PC {l:List UInt8} (h:mK l=arf):l≠[]/\l.length<=12/\(32:UInt8)∉l/\(10:UInt8)∉l:=by
 unfold mK at h;simp only[arq,decide_eq_true_eq,arz] at h;refine ⟨fun e=>by rw[e] at h;simp at h,h.2.2,fun hm=> ?_,fun hm=> ?_⟩<;>(have:=h.1 _ hm;revert this;decide)
theorem Ya {x:aB} (h:hE x=arf) {c:UInt8} (ad:c.toNat<48):∀p∈x.name::(hL x).map arD,c∉p:=by
 obtain ⟨_,h1,_⟩:=Ca h;have av:=(ox h).2.2.2;intro p an tJ;rcases arA.1 an with rfl|an
 ·unfold mK at av;simp only[arq,decide_eq_true_eq,arz] at av;have:=av.1 _ tJ;unfold sq at this;simp at this;omega
 ·obtain ⟨n,av,rfl⟩:=arC.1 an;have:=(ajl (h1 n av).1).2 c tJ;omega
theorem XW {x:aB} (h:hE x=arf) {c:UInt8} (ad:c.toNat<48):c∉jj x.kind:=by
 obtain ⟨hk,_⟩:=Ca h;have hw:∀b∈jj x.kind,48<=b.toNat:=by rcases hk with hk|hk|hk<;>rw[hk]<;>decide
 intro hm;have:=hw c hm;omega
theorem agL (N:Nat) {x:aB} (h:hE x=arf) (ai:(iY x).length<4294967281):rl N (iY x) [32]=are (jj x.kind::x.name::(hL x).map arD):=by
 unfold rl;rw[if_pos ⟨rfl,ai⟩];unfold iY;rw[W4 (XW h (by decide)) (Ya h (by decide))]
theorem X4 {x:aB} (h:hE x=arf):(iY x).length<=60:=by
 obtain ⟨hk,h1,_⟩:=Ca h;have av:=(PC (ox h).2.2.2).2.1;have hw:(jj x.kind).length<=8:=by rcases hk with hk|hk|hk<;>rw[hk]<;>decide
 unfold iY;rw[arJ,asl,arJ,arU,ave];have U:((hL x).flatMap fun a=>32::arD a).length<=21:=by
  unfold hL at h1⊢;split at h1
  ·rename_i bq;rw[if_pos bq];have cr:=uu (h1 x.a (by simp)).1 (h1 x.a (by simp)).2;have a2:=uu (h1 x.b (by simp)).1 (h1 x.b (by simp)).2;have a3:=uu (h1 x.length (by simp)).1 (h1 x.length (by simp)).2;simp;omega
  ·rename_i bq;rw[if_neg bq];split at h1
   ·rename_i bq;rw[if_pos bq];have cr:=uu (h1 x.a (by simp)).1 (h1 x.a (by simp)).2;have a2:=uu (h1 x.b (by simp)).1 (h1 x.b (by simp)).2;have a3:=uu (h1 x.c (by simp)).1 (h1 x.c (by simp)).2;simp;omega
   ·rename_i bq;rw[if_neg bq];have cr:=uu (h1 x.a (by simp)).1 (h1 x.a (by simp)).2;have a2:=uu (h1 x.b (by simp)).1 (h1 x.b (by simp)).2;simp;omega
 omega
theorem aob (N:Nat) (bG:10<=N) {k:Int} (hk:k=1\/k=2\/k=3) (r:List (List UInt8)):Ir N (jj k::r) N (aB.mk 0 [] 0 0 0 0) 0 1=are (aB.mk k [] 0 0 0 0,if k=3 then 2 else 3):=by
 obtain ⟨n,rfl⟩:∃n,N=n+4:=⟨N - 4,by omega⟩
 rcases hk with rfl|rfl|rfl<;>rfl
theorem akq (N:Nat) (bG:20<=N) {x:aB} (h:hE x=arf):Je N (iY x)=are (x,arf):=by
 obtain ⟨hk,h1,c1,c2,iw⟩:=Ca h;have av:=PC (ox h).2.2.2;have bL:(x.name==[])=arj:=by simpa using av.1
 obtain ⟨n,rfl⟩:∃n,N=n+4:=⟨N - 4,by omega⟩
 unfold Je;rw[agL _ h (by have:=X4 h;omega),aH,aob _ (by omega) hk,aH];have num:∀m∈hL x,oK (n+4) (arD m)=are (m,arf):=fun m hm=>ag1 _ (by omega) (h1 m hm).1 (h1 m hm).2;obtain ⟨k,fy,a,b,c,len⟩:=x;simp only at hk bL c1 c2 iw num⊢;rcases hk with rfl|rfl|rfl
 ·have iE:=num a (by simp[hL]);have hQ:=num b (by simp[hL]);have ug:=num len (by simp[hL]);obtain rfl:=c1 rfl;have kX:uU (n+4) [jj 1,fy,arD a,arD b,arD len] (aB.mk 1 [] 0 0 0 0) 3=are arj:=by
   show (are (fy==[]))=are arj;rw[bL]
  have BI:sN (n+4) [jj 1,fy,arD a,arD b,arD len] (aB.mk 1 [] 0 0 0 0) 3 (n+4) (aB.mk 0 [] 0 0 0 0) (arL 3 0) 0=are (.inl (aB.mk 0 [] 0 0 0 0,[a,b,len])):=by show ark (oK (n+4) (arD a)) _=_;rw[iE];show ark (oK (n+4) (arD b)) _=_;rw[hQ];show ark (oK (n+4) (arD len)) _=_;rw[ug];rfl
  show ark (uU (n+4) [jj 1,fy,arD a,arD b,arD len] (aB.mk 1 [] 0 0 0 0) 3) _=_;rw[kX];show ark (sN (n+4) [jj 1,fy,arD a,arD b,arD len] (aB.mk 1 [] 0 0 0 0) 3 (n+4) (aB.mk 0 [] 0 0 0 0) (arL 3 0) 0) _=_;rw[BI];rfl
 ·have iE:=num a (by simp[hL]);have hQ:=num b (by simp[hL]);have ug:=num c (by simp[hL]);obtain rfl:=c2 rfl;have kX:uU (n+4) [jj 2,fy,arD a,arD b,arD c] (aB.mk 2 [] 0 0 0 0) 3=are arj:=by
   show (are (fy==[]))=are arj;rw[bL]
  have BI:sN (n+4) [jj 2,fy,arD a,arD b,arD c] (aB.mk 2 [] 0 0 0 0) 3 (n+4) (aB.mk 0 [] 0 0 0 0) (arL 3 0) 0=are (.inl (aB.mk 0 [] 0 0 0 0,[a,b,c])):=by show ark (oK (n+4) (arD a)) _=_;rw[iE];show ark (oK (n+4) (arD b)) _=_;rw[hQ];show ark (oK (n+4) (arD c)) _=_;rw[ug];rfl
  show ark (uU (n+4) [jj 2,fy,arD a,arD b,arD c] (aB.mk 2 [] 0 0 0 0) 3) _=_;rw[kX];show ark (sN (n+4) [jj 2,fy,arD a,arD b,arD c] (aB.mk 2 [] 0 0 0 0) 3 (n+4) (aB.mk 0 [] 0 0 0 0) (arL 3 0) 0) _=_;rw[BI];rfl
 ·have iE:=num a (by simp[hL]);have hQ:=num b (by simp[hL]);obtain ⟨rfl,rfl⟩:=iw rfl;have kX:uU (n+4) [jj 3,fy,arD a,arD b] (aB.mk 3 [] 0 0 0 0) 2=are arj:=by
   show (are (fy==[]))=are arj;rw[bL]
  have BI:sN (n+4) [jj 3,fy,arD a,arD b] (aB.mk 3 [] 0 0 0 0) 2 (n+4) (aB.mk 0 [] 0 0 0 0) (arL 3 0) 0=are (.inl (aB.mk 0 [] 0 0 0 0,[a,b,0])):=by show ark (oK (n+4) (arD a)) _=_;rw[iE];show ark (oK (n+4) (arD b)) _=_;rw[hQ];rfl
  show ark (uU (n+4) [jj 3,fy,arD a,arD b] (aB.mk 3 [] 0 0 0 0) 2) _=_;rw[kX];show ark (sN (n+4) [jj 3,fy,arD a,arD b] (aB.mk 3 [] 0 0 0 0) 2 (n+4) (aB.mk 0 [] 0 0 0 0) (arL 3 0) 0) _=_;rw[BI];rfl
theorem Ze (N:Nat) (bG:20<=N) {l:List aB} (aq:∀x∈l,hE x=arf) (ai:l.length<=96):∀(k n i:Nat),k<n->i+k=l.length->xl N (l.map iY) ((l.map iY).length:Int) n (l.take i) (i:Int)=are (.inl l)
 |k,0,i,h,_=>by omega
 |0,n+1,i,_,h=>by rw[xl,if_neg (dO (by simp;omega)),show i=l.length by omega,asO]
 |k+1,n+1,i,hk,h=>by
  have ab:=dw (xs:=l) (i:=i) (by omega);have ky:(l.map iY)[i]? =are (iY l[i]):=by rw[List.getElem?_map,ab];rfl
  rw[xl,if_pos (dP (by simp;omega)),dM ky,aH,akq N bG (aq _ (ate _)),aH,if_neg (by simp),iX (by simp;omega),aH,eB (by omega)];have he:l.take i++[l[i]]=l.take (i+1):=(auz (by omega)).symm;rw[he];exact Ze N bG aq ai k n (i+1) (by omega) (by omega)
theorem aiW {l:List aB} (aq:∀x∈l,hE x=arf):(ji l).length<=61*l.length:=by
 induction l with
 |nil=>simp[ji]
 |cons x l aU=>have h1:=X4 (aq x List.mem_cons_self);have J:=aU fun y ah=>aq y (arK _ ah);unfold ji at J⊢;rw[asl,arJ,YB,arJ,List.length_singleton,arU];omega
theorem ahT (N:Nat) (bG:200<=N) {l:List aB} (h:fj l):I8 N (ji l)=are (l,0,0):=by
 have hlen:=h.len;have ak:=aiW h.snd;have vY:Lib.split (ji l) [10]=l.map iY++[[]]:=by
  have:ji l=(l.map iY).flatMap fun p=>p++[10]:=by unfold ji;rw[ave];exact congrArg (fun f=>l.flatMap f) (funext YB)
  rw[this,W2 fun p an=> ?_];obtain ⟨x,U,rfl⟩:=arC.1 an;unfold iY;rw[arO,not_or];refine ⟨XW (h.snd x U) (by decide),fun hm=> ?_⟩;obtain ⟨q,aF,hm⟩:=as0.1 hm;rcases arA.1 hm with hm|hm
  ·exact absurd hm (by decide)
  ·exact Ya (h.snd x U) (by decide) q aF hm
 have ht:rl N (ji l) [10]=are (l.map iY++[[]]):=by unfold rl;rw[if_pos ⟨rfl,by omega⟩,vY]
 have hw:art .i64 (((l.map iY++[[]]).length:Int) - 1)=((l.length:Nat):Int):=by
  have J:((l.map iY++[[]]).length:Int)=l.length+1:=by simp
  rw[J,hq (by omega) (by omega)];omega
 have qG:bc (l.map iY++[[]]) (art .i64 (((l.map iY++[[]]).length:Int) - 1))=are []:=by rw[hw,dM (x:=[])];rw[List.getElem?_append_right (by simp),ar9,Nat.sub_self];rfl
 have az:Im N (l.map iY++[[]]) arf=are (l.map iY):=by unfold Im;rw[if_pos rfl,hw,Gq (by simp),aH,List.take_left' (by simp)]
 have h1:=Ze N (by omega) h.snd hlen l.length N 0 (by omega) (arE _);have h1:xl N (l.map iY) ((l.map iY).length:Int) N [] 0=are (.inl l):=h1;unfold I8;rw[if_neg (by simp;omega),ht,aH,qG,aH,aH,show (([]:List UInt8)==[])=arf from rfl,az,aH,h1,aH];show ark (pu N l) _=_;rw[h.p N (by omega)];rfl
theorem ahi (N:Nat) (bG:200<=N) {l:List aB} (h:fj l) (az:1<=l.length):va N l=are (ji l,0):=by
 have hk:q5 l=arf:=by unfold q5;rw[arq];refine ⟨decide_eq_true ⟨az,h.len⟩,arz.2 fun x U=> ?_⟩;obtain ⟨hk,h1,c1,c2,iw⟩:=Ca (h.snd x U);have av:=(PC (ox (h.snd x U)).2.2.2).2.1;unfold Lk;rw[arq,arq];refine ⟨⟨by simpa using hk,by simpa using av⟩,decide_eq_true ?_⟩;unfold hL at h1;rcases hk with hk|hk|hk<;>simp[hk] at h1 c1 c2 iw<;>omega
 unfold va;rw[h.p N (by omega),aH,if_pos ⟨rfl,hk⟩]
end Go.W
end
section
namespace Go.W
open Go.aQ
theorem XZ {al:Type} {l:List al} {i:Int} {x:al} (az:0<=i) (h:l[i.toNat]? =are x):bc l i=are x:=by
 obtain ⟨a,rfl⟩:=ar8 az;exact dM h
def py (s:List bQ) (i j e:Nat):Prop:=(∃(kl:Nat) (x:bQ),kl<i/\s[kl]? =are x/\(e:Int)∈cg x.ew)\/∃x,s[i]? =are x/\(e:Int)∈cg (x.ew.take j)
structure Seen (n:Nat) (gG:List Bool) (O:Nat->Prop):Prop where
 len:gG.length=n
 one:∀e,e<n->O e->gG[e]? =are arf
 zero:∀e,e<n->¬O e->gG[e]? =are arj
theorem Yb {s:List bQ} {i:Nat} {x:bQ} (U:s[i]? =are x) (e:Nat):py s (i+1) 0 e↔py s i x.ew.length e:=by
 unfold py;constructor
 ·rintro (⟨kl,y,h1,J,aj⟩|⟨y,_,h⟩)
  ·by_cases h:kl=i
   ·subst h;rw[U] at J;cases J;exact .inr ⟨x,U,by rw[asO];exact aj⟩
   ·exact .inl ⟨kl,y,by omega,J,aj⟩
  ·simp[cg] at h
 ·rintro (⟨kl,y,h1,J,aj⟩|⟨y,J,h⟩)
  ·exact .inl ⟨kl,y,by omega,J,aj⟩
  ·rw[U] at J;cases J;rw[asO] at h;exact .inl ⟨i,x,by omega,U,h⟩
theorem Ob {s:List bQ} {i j:Nat} {x:bQ} {v:bo} (U:s[i]? =are x) (aa:x.ew[j]? =are v) (az:0<=v.aA) (e:Nat):py s i (j+1) e↔py s i j e\/e=v.aA.toNat:=by
 have hm:(e:Int)∈cg (x.ew.take (j+1))↔(e:Int)∈cg (x.ew.take j)\/e=v.aA.toNat:=by
  rw[p4 aa];unfold cg;rw[as9,arO];simp only[asc,List.map_nil,ase];constructor
  ·rintro (h|h)
   ·exact .inl h
   ·exact .inr (by omega)
  ·rintro (h|h)
   ·exact .inl h
   ·exact .inr (by omega)
 unfold py;constructor
 ·rintro (h|⟨y,J,h⟩)
  ·exact .inl (.inl h)
  ·rw[U] at J;cases J;rcases hm.1 h with h|h
   ·exact .inl (.inr ⟨x,U,h⟩)
   ·exact .inr h
 ·rintro ((h|⟨y,J,h⟩)|h)
  ·exact .inl h
  ·rw[U] at J;cases J;exact .inr ⟨x,U,hm.2 (.inl h)⟩
  ·exact .inr ⟨x,U,hm.2 (.inr h)⟩
theorem aja {N:Nat} {l:List aB} {s:List bQ} (eN:hf N l s) {i j:Nat} {x:bQ} {v:bo} (U:s[i]? =are x) (aa:x.ew[j]? =are v) (az:0<=v.aA):¬py s i j v.aA.toNat:=by
 obtain ⟨jW,kC⟩:=arp.1 U;have he:((v.aA.toNat:Nat):Int)=v.aA:=by omega
 rintro (⟨kl,y,h1,J,aj⟩|⟨y,J,h⟩)
 ·rw[he] at aj;obtain ⟨adN,adL⟩:=arp.1 J;have:=(asy.1 eN.uo kl i adN jW h1).2;rw[kC,adL,atJ] at this;exact this (C2.2 (.inl ⟨v.aA,aj,arC.2 ⟨v,arI aa,rfl⟩⟩))
 ·rw[U] at J;cases J;rw[he] at h;obtain ⟨w,hw,ae6⟩:=arC.1 h;obtain ⟨k,hk,hw⟩:=Gz.1 hw;have lx:=(eN.ok x (arI U)).rt.2.2;unfold cg List.Nodup at lx;rw[auC] at lx;obtain ⟨nn,fC⟩:=arp.1 hw;obtain ⟨hP,l2⟩:=arp.1 aa;have:=asy.1 lx k j nn hP hk;rw[fC,l2] at this;exact this ae6
theorem aaB (N:Nat) {l:List aB} {s:List bQ} (eN:hf N l s) {i:Nat} {x:bQ} (U:s[i]? =are x):∀(k n j:Nat) (gG:List Bool),k<n->j+k=x.ew.length->Seen l.length gG (py s i j)->
  ∃EE,xj N s i n gG j=are (.inl EE)/\Seen l.length EE (py s i x.ew.length)
 |k,0,j,gG,av,_,_=>by omega
 |0,n+1,j,gG,av,ap,h=>by
  obtain rfl:j=x.ew.length:=by omega
  rw[xj,dM U,aH,if_neg (dO (by omega))];exact ⟨gG,rfl,h⟩
 |k+1,n+1,j,gG,av,ap,h=>by
  have hk:=eN.ok x (arI U);have ab:=hk.rI.1;have aa:=dw (xs:=x.ew) (i:=j) (by omega);obtain ⟨v,MI⟩:∃v,v=x.ew[j]:=⟨_,rfl⟩
  rw[<-MI] at aa;obtain ⟨az,h1⟩:=hk.rt.2.1.ok v (arI aa);have jX:=aja eN U aa az;have aO:v.aA.toNat<l.length:=by omega
  have aD:=h.zero _ aO jX;have gz:H8 N gG v.aA=are arj:=by unfold H8;rw[if_neg (dO (by omega)),if_neg (by have:=h.len;simp;omega),XZ az aD,aH,aH]
  rw[xj,dM U,aH,if_pos (dP (by omega)),aH,dM aa,aH,gz,aH,if_neg (by simp),XZ az aD,aH,aH,cR,cR,eB (by omega)];refine aaB N eN U k n (j+1) _ (by omega) (by omega) ⟨by rw[List.length_set];exact h.len,fun e he ag=> ?_,fun e he ag=> ?_⟩
  ·by_cases L0:e=v.aA.toNat
   ·rw[L0,List.getElem?_set_self (by rw[h.len];exact aO)]
   ·rw[atg (fun h=>L0 h.symm)];rcases (Ob U aa az e).1 ag with ag|ag
    ·exact h.one e he ag
    ·exact absurd ag L0
  ·have av:¬py s i j e/\e≠v.aA.toNat:=⟨fun ax=>ag ((Ob U aa az e).2 (.inl ax)),fun ax=>ag ((Ob U aa az e).2 (.inr ax))⟩
   rw[atg (fun h=>av.2 h.symm)];exact h.zero e he av.1
theorem aaA (N:Nat) (bG:60000<=N) {l:List aB} (b0:fj l) {s:List bQ} (eN:hf N l s):∀(k n i:Nat) (gG:List Bool),k<n->i+k=s.length->Seen l.length gG (py s i 0)->xi N l s n gG i=are (.inl ())
 |k,0,i,gG,av,_,_=>by omega
 |0,n+1,i,gG,av,af,h=>by rw[xi,if_neg (dO (by omega))]
 |k+1,n+1,i,gG,av,af,h=>by
  have ai:=eN.len;have U:=dw (xs:=s) (i:=i) (by omega);obtain ⟨x,iD⟩:∃x,x=s[i]:=⟨_,rfl⟩
  rw[<-iD] at U;have wa:=arI U;have hk:=eN.ok x wa;obtain ⟨p,en,fo,hC,iF,y9⟩:=aki N (by omega) b0 eN;obtain ⟨d,o,r5⟩:=hk.No;have he:xN N l x.ew p=are ([],0):=by
   rcases ake N b0.len (r:=x.ew) (s:=p) hk.rI.1 iF (by omega) with ⟨h,_⟩|⟨_,h,_⟩|⟨_,_,h⟩
   ·exact absurd hk.rt h
   ·exact absurd y9 h
   ·rw[h,aga hk.rt r5 fo fun y ah=>(hC y).2 ⟨x,wa,ah⟩]
  have bk:P5 N [] 0=are arj:=rfl;obtain ⟨EE,g1,g2⟩:=aaB N eN U x.ew.length N 0 gG (by have:=hk.rI.1;omega) (by omega) h;rw[xi,if_pos (dP (by omega)),dM U,aH,en,aH,he,aH,bk,aH,if_neg (by simp),show xj N s i N gG 0=_ from g1,aH];dsimp only;rw[cR,eB (by omega)];exact aaA N bG b0 eN k n (i+1) EE (by omega) (by omega) ⟨g2.len,fun e he ag=>g2.one e he ((Yb U e).1 ag),fun e he ag=>g2.zero e he fun ax=>ag ((Yb U e).2 ax)⟩
theorem aoE (N:Nat) (bG:100000<=N) {l:List aB} (b0:AE l) {c:Int} {m:eC} (hm:hs c m) (ad:c<=900000) {s:List bQ} (eN:hf N l s):∃m' cV,H6 N m l s=are (.inl (m',cV))/\hs (c+40) m'/\hf N l cV:=by
 have oa:=b0.ok.len;obtain ⟨w,s1,h1,J,aj,aJ,_⟩:=aj6 N (by omega) b0 hm (by omega);obtain ⟨a,s2,cr,a2,a3,a4⟩:=nF N (s:=s1) (c:=c+30) 5 (by omega) (by omega) J (by omega);obtain ⟨b,lL,fe,hg,qs,vo⟩:=nF N (s:=s2) (c:=c+30+1) 4 (by omega) (by omega) a4 (by omega);obtain ⟨e,DC,aT,e2,hV,kR⟩:=nF N (s:=lL) (c:=c+30+1+1) 5 (by omega) (by omega) vo (by omega);have ae3:=dw (xs:=w) (i:=0) (by omega);have hY:=dw (xs:=w) (i:=w.length - 1) (by omega);have ae7:art .i64 ((w.length:Int) - 1)=((w.length - 1:Nat):Int):=by rw[hq (by omega) (by omega)];omega
 have adF:bc w 0=are (w[0]'(by omega)):=dM (i:=0) ae3;obtain ⟨f,f1,f2⟩:=ahH N (by omega) b0.ok (w[0]'(by omega)).aA (w[w.length - 1]'(by omega)).aA;obtain ⟨p,en,hC,iF⟩:=aiI N (by omega) b0.ok f2;have mC:=akl N (by omega) b0.ok eN (id:=a) f1 f2 en hC;have key:∃m' R,H7 N lL l s (u1 s a f p).1 (u1 s a f p).2 (b==0)=are (m',R)/\hs (c+40) m'/\(R.2=0->hf N l R.1):=by
  unfold H7;by_cases ab:b=0
  ·rw[if_pos (by simpa using ab),aT,aH];dsimp only;rw[akk N (by omega) b0.ok eN,aH];exact ⟨DC,zZ s e,rfl,kR.le (by omega),fun h=>eN.rel h⟩
  ·rw[if_neg (by simpa using ab)];refine ⟨lL,u1 s a f p,rfl,vo.le (by omega),fun h=> ?_⟩;obtain ⟨g1,g2,_⟩:=ajX eN (id:=a) f2 en hC iF h;rw[g1];exact g2
 obtain ⟨m',R,bm,br,dj⟩:=key;unfold H6;rw[h1,aH];dsimp only;rw[cr,aH,adF,aH,aH,ae7,dM hY,aH,aH];dsimp only;rw[mC,aH,fe,aH];dsimp only;rw[bm,aH];dsimp only;by_cases az:R.2=0
 ·have ba:=dj az;have ai:=ba.len;have tQ:k2 arj (l.length:Int)=are (arL l.length arj):=by unfold k2;rw[if_pos ⟨by omega,by omega⟩];simp
  have aJ:=aaA N (by omega) b0.ok ba R.1.length N 0 (arL l.length arj) (by omega) (by omega) ⟨by simp,fun e he ag=>by rcases ag with ⟨kl,_,h,_⟩|⟨y,_,h⟩;exact absurd h (by omega);simp[cg] at h,fun e he ag=>by rw[List.getElem?_replicate,if_pos he]⟩;rw[if_neg (by simpa using az),tQ,aH,show xi N l R.1 N (arL l.length arj) 0=_ from aJ,aH];exact ⟨m',R.1,rfl,br,ba⟩
 ·rw[if_pos (by simpa using az)];exact ⟨m',s,rfl,br,eN⟩
theorem aaz (N:Nat) (bG:100000<=N) {l:List aB} (b0:AE l):∀(k n i:Nat) (c:Int) (m:eC) (s:List bQ),k<n->i+k=10->hs c m->c+40*k<=900000->hf N l s->xh N l n m s i=are (.inl ())
 |k,0,i,c,m,s,av,_,_,_,_=>by omega
 |0,n+1,i,c,m,s,av,af,hm,ad,eN=>by
  obtain rfl:i=10:=by omega
  rw[xh,if_neg (dO (by omega))]
 |k+1,n+1,i,c,m,s,av,af,hm,ad,eN=>by obtain ⟨m',cV,h1,J,aj⟩:=aoE N bG b0 hm (by omega) eN;rw[xh,if_pos (dP (by omega)),h1,aH];dsimp only;rw[cR,eB (by omega)];exact aaz N bG b0 k n (i+1) (c+40) m' cV (by omega) (by omega) J (by omega) aj
theorem ajW (N:Nat) {l:List aB} (ai:l.length<=96) (bG:200<=N):IX N l l=are arf:=by
 have h:=zA (fun _:aB=>arj) arj (fun n i=>sZ N l l n i) N (l:=l) (by omega) (fun n=>by
   show sZ N l l (n+1) _=_;rw[sZ,if_neg (dO (by omega))]) fun n i x U=>by
  have aO:=(arp.1 U).1;show sZ N l l (n+1) i=_;rw[sZ,if_pos (dP (by omega)),dM U,aH,aH,if_neg (by simp),if_neg (by simp),cR,eB (by omega)]
 rw[if_neg (by simp)] at h;unfold IX;rw[if_neg (by simp),show sZ N l l N 0=_ from h,aH]
theorem aoD (t:List Int):∃N,I5 N t=are arf:=by
 refine ⟨100000, ?_⟩;obtain ⟨N,bG⟩:∃N:Nat,N=100000:=⟨_,rfl⟩
 rw[<-bG];have bG:100000<=N:=by omega
 obtain ⟨l,s1,h1,J,b0⟩:=aiF N (by omega) (afI t) (k:=20) (by omega);have ai:=b0.ok.len;have dT:1<=l.length:=by obtain ⟨x,U,_⟩:=b0.fst;have:=(arp.1 U).1;omega
 have az:H5 N l 0 l 0=are arj:=by unfold H5;rw[if_neg (by simp),if_neg (by simp),ajW N ai (by omega),aH];rfl
 have aJ:=aaz N bG b0 10 N 0 30000 s1 [] (by omega) (by omega) J (by omega) (hf.nil N l);unfold I5 Rn;rw[aH,h1,aH];dsimp only;rw[ahi N (by omega) b0.ok dT,aH];dsimp only;rw[ahT N (by omega) b0.ok,aH];dsimp only;rw[az,aH,if_neg (by simp),show xh N l N s1 [] 0=_ from aJ,aH];dsimp only;rfl
end Go.W
end
section
namespace Go.Proofs.YthaemjpmljdlgaaGreatDoor.topRoutesDone
open Go.ChangeShapes Go.WideShapes Go.ChangeAt Go.RowKit
open Go.ChangeMaps (open_string shut_string)
set_option maxRecDepth 20000
theorem own:ownKnob Tryz.prog.godebug=none:=by kernel_rfl
theorem ajr:laidOutB Tryz.prog=arf:=by kernel_rfl
theorem anF {W : World} (h : laidMetH Tryz.prog Rows.topRoutesRow.laid W) : Lib.TabIs Tryz.prog W "internal/strconv.uint64pow10" .u64 Lib.pow10Tab := by
 have az:laidMet Tryz.prog Rows.topRoutesRow.laid W:=h;have h1:=laidMet.tail (laidMet.tail az);have he:(Rows.laid_internal_strconv_uint64pow10:DataW Unit)=Lib.tabData .u64 Lib.pow10Tab:=by kernel_rfl
 rw[he] at h1;exact Lib.tabIs_of_head (g:=0) (t:=246) (e:=208) (n:=20) (by kernel_rfl) (by kernel_rfl) (by kernel_rfl) (by kernel_rfl) (by kernel_rfl) (by kernel_rfl) h1
theorem aok {W:World} (h:laidMetH Tryz.prog Rows.topRoutesRow.laid W) (aq:W.ShapedOpen Tryz.prog):aQ.iu Tryz.prog W where
 len:=fun g aM=>by
  have Bp : Tryz.prog.globalNamed "internal/bytealg.MaxLen" = are 1 := by kernel_rfl
  rw[Bp] at aM;cases aM;exact cell_of_shapedOpen_int (zero:=#[.int .i64 0]) (t:=3) aq (of_decide_eq_true (by kernel_rfl)) (by kernel_rfl) rfl (by kernel_rfl) (by kernel_rfl) Tryz.underlying3
 pow:=fun g _=>by have:=anF h;unfold Lib.TabIs Lib.pow10Tab at this;rw[this,List.map_map];rfl
def BZ:DataW Unit->List arh
 | .lit l=>[l.value]
 | .agg bx=>bx.flatMap fun d=>match d with
  | .lit l=>[l.value]
  | .agg fh=>fh.flatMap fun e=>match e with
   | .lit l=>[l.value]
   |_=>[]
  |_=>[]
 |_=>[]
noncomputable def N4 (os:Os):World:=
 let cW:=World.holding Tryz.prog os ⟨#[],#[],[]⟩
 let put (h:Array Obj) (g:Nat) (cs:Array arh):Array Obj:=h.modify g fun
  | .cells _ t frozen=> .cells cs t frozen
  |o=>o
 let h1:=put cW.heap 4 (BZ Rows.laid_math_bits_deBruijn32tab).toArray
 let J:=put h1 5 (BZ Rows.laid_math_bits_deBruijn64tab).toArray
 let aj:=put J 0 (BZ Rows.laid_internal_strconv_uint64pow10).toArray
 let aJ:=put aj 3 (BZ Rows.laid_unicode_utf8_acceptRanges).toArray
 let bk:=put aJ 2 (BZ Rows.laid_unicode_utf8_first).toArray
 {cW with heap:=bk}
theorem ahX (os:Os):laidMet Tryz.prog Rows.topRoutesRow.laid ((N4 os).forCall (fun _ _=>0) ⟨#[],#[.slice none 0 0],[]⟩).memory:=
 laidMet_of_run' 8 (by kernel_rfl) (by kernel_rfl)
theorem reads (os:Os) {H:Type} (enc:TypeId×arh->H):∃mc,DataW.whole enc Tryz.prog ((N4 os).forCall (fun _ _=>0) ⟨#[],#[.slice none 0 0],[]⟩).memory Tryz.f3.params.toList Rows.topRoutesSpec.vars arj #[arh.slice none 0 0].toList 8=are ([.nil],[],mc):=
 ⟨[],by kernel_rfl⟩
set_option maxRecDepth 100000 in
theorem akS (os:Os) (started:os.Started) (H:Type) (enc:TypeId×arh->H) (F:Stop.Interp):
  ReturnsInHanded {} Tryz.checked os 3 .any ((avf Rows.topRoutesSpec).preRow enc Tryz.prog Tryz.f3 Rows.topRoutesRow.domain arj Rows.topRoutesRow.laid) (((avf Rows.topRoutesSpec).at F).post enc Tryz.prog Tryz.f3 arj arf arj arj):=by
 obtain ⟨mc,U⟩:=reads os enc;refine returnsInHanded_of_row (C:=Tryz.checked) (s:=avf Rows.topRoutesSpec) own started (by kernel_rfl) Tryz.func3
  (witness_row_at (enc:=enc) (C:=Tryz.checked) arj (N4 os) #[.slice none 0 0] rfl (by kernel_rfl) (by kernel_rfl) (by kernel_rfl)
   (OpenSpec.preRow_of_cond 8 U (by kernel_rfl) (fun k hk=>by cases hk) (by kernel_rfl) (ahX os))) ?_
 intro W base args ds gs before U9 cn _ _ _ acQ ac2 _;have qP:∀(j:Nat) t v,Tryz.f3.params[j]? =are t->args[j]? =are v->arh.okWide Tryz.prog W .any base t v:=U9;have LF:=cn;obtain ⟨p,q,T7,eN,rfl,vI,lx⟩:=cn;have c9:DataW.TrodAll enc Tryz.prog W 0 (fun _=>arf) arf Tryz.f3.params.toList args.toList ds p:=T7;rw[Tryz.params3] at c9 qP;obtain ⟨v0,bY,d0,ap8,pb,l9,tG,rfl,rfl,az,Qx⟩:=trodAll_cons c9;obtain ⟨rfl,rfl,rfl⟩:=trodAll_nil Qx;obtain rfl:args=#[v0]:=by cases args;simp_all
 obtain ⟨rfl,rfl⟩:=trodVars_none eN;have hh:=az;have afF:∀x∈pb,x.block<W.heap.size:=by obtain ⟨m,hm⟩:=hh;exact DataW.trod_lt m _ _ _ hm
 obtain ⟨aoN,z0,oD,cW⟩:=aQ.aiY (T:=Go.W.AM) (aQ.nU.conv (AL:=Go.W.AM) (aQ.aj9 Tryz.underlying3 Tryz.type3 rfl) rfl rfl fun z x cs h=>by obtain rfl:cs=[_]:=h;exact ⟨rfl,trivial⟩) Tryz.underlying22 (qP 0 22 v0 rfl rfl) az;clear T7 U9;obtain ⟨N,bG⟩:=Go.W.aoD z0;have AW:Go.W.EI.call Go.W.bj (Go.W.D6 N) [.c (.aE 3 z0)] [] (fun sv _=>are sv)=ark (Go.W.I5 N z0) fun y=>are (.c (.bool y)):=by kernel_rfl
 rw[bG] at AW;have b5:aQ.a1 (aQ.rel Go.W.bj.G (aQ.gK W).ay []) [.c (.aE 3 z0)] [v0]:=⟨oD,trivial⟩
 refine ((aQ.agi (by kernel_rfl) (aok acQ ac2) ?_ (aQ.b8.law (X:=Go.W.bj) (F:=Go.W.D6 N) (Go.W.aaK N) (aQ.ai6 W) (aQ.Xf W) b5 AW))).mono fun e rF ⟨he,TH⟩=> ?_
 ·intro a ar;simp only[arA,asU,or_false] at ar;rcases ar with rfl;exact aoN
 ·subst he;exact ⟨_,rfl,_,_,_,[],_,[],LF,trodAll_mk1 (shut_bool Tryz.underlying4 _),(trodAll_cons_mk (Below.trod ajr (by kernel_rfl) (of_decide_eq_true (by kernel_rfl)) hh TH afF) trodAll_mk0),rfl,TH.frame _,fun h=>by cases h⟩
end Go.Proofs.YthaemjpmljdlgaaGreatDoor.topRoutesDone
end
