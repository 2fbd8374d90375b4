import Derived.MapKept
import Derived.Laws.StructEq
import Derived.Below
import Derived.Deep.Slices
import Derived.Test.YtmkfilkddlfgjaaGreatMa
set_option linter.unusedSimpArgs false
set_option linter.unusedVariables false
open Array renaming ext'->asc,getElem?_eq_some_iff->ar9,getElem?_toList->as4,toList_map->asJ
open Bool renaming and_eq_true->ara,eq_iff_iff->arV,false_or->arZ,not_true->asx,false->aqZ,true->aqW
open Classical renaming propDecidable->arY
open Go renaming IntKind->aq2,Operand->aq3,Program->aq1,TypeId->aq4,Value->aqX
open Go.DataW renaming trod->atS
open Go.Instr renaming checkKey->asu,findAsking->aum,findNow->atP,sameBits->ato
open Go.MapKept renaming IsKey->atO
open Go.Op renaming equalIn->ata
open Go.Program renaming cellsOf->ar5
open Go.Region renaming before->arM
open Go.Result renaming andThen_ok->arn
open Go.Sem renaming run_bind->ars,run_pure->arF
open Go.Value renaming cells->atl,int->asK,okWide->at9,slice->aso
open Int renaming eq_ofNat_of_zero_le->arI,toNat_natCast->ar0
open List renaming all_cons->arR,all_eq_true->arc,append_assoc->asT,append_nil->asA,eq_nil_of_length_eq_zero->asw,ext_getElem?->asL,flatMap_cons->asn,flatten_cons->ati,getElem?_append->atA,getElem?_append_left->arm,getElem?_append_right->arl,getElem?_drop->ar6,getElem?_eq_getElem->ary,getElem?_eq_none->atb,getElem?_eq_some_iff->aq5,getElem?_map->arH,getElem?_range->as8,getElem?_set->arv,getElem?_set_ne->as2,getElem?_take->arK,length_append->aro,length_cons->arw,length_drop->asa,length_nil->asV,length_replicate->asP,length_set->asq,length_take->arG,map_cons->arN,mem_cons->arb,mem_cons_of_mem->ark,mem_cons_self->arp,mem_map->arf,mem_of_getElem?->are,mem_range->asb,nil_append->asp,range->arC,replicate->arx,replicate_succ->aul,singleton_append->atQ
open Nat renaming add_assoc->arD,add_mul->art,add_zero->arJ,beq->ard,ble->arz,blt->ass,eq_of_beq_eq_true->arA,eq_zero_or_pos->atD,le_of_ble_eq_true->asg,le_refl->aq9,le_trans->arq,lt_of_lt_of_le->aru,lt_succ_self->arU,mul_le_mul->atM,mul_le_mul_right->asf,one_mul->asv,succ_mul->at8,zero_add->arh,zero_mul->ase
open Option renaming bind->aq0,getD_some->asm,some->arr,none->aqY,some->aqV
open Std.Legacy.Range renaming forIn_eq_forIn_range'->auA,size->auB
open True renaming intro->ari
open UInt8 renaming ofNat->asS,toNat->ash
section
namespace Go.aS
def mg:Nat:=4294967296
def dP {au:Type} (xs bi:List au):Option (List au):=if xs.length+bi.length<=mg then aqV (xs++bi) else aqY
theorem sf {au:Type} {xs bi r:List au} (h:dP xs bi=aqV r):xs.length+bi.length<=mg/\r=xs++bi:=by
 unfold dP at h;split at h
 ·cases h;exact ⟨‹_›,rfl⟩
 ·cases h
def l1 {au:Type} (x:au) (n:Int):Option (List au):=if 0<=n/\n<=4294967296 then aqV (arx n.toNat x) else aqY
theorem CV {au:Type} {x:au} {n:Int} {r:List au} (h:l1 x n=aqV r):0<=n/\n<=4294967296/\r=arx n.toNat x:=by
 unfold l1 at h;split at h
 ·rename_i ab;cases h;exact ⟨ab.1,ab.2,rfl⟩
 ·cases h
def oB (n:Int):Option UInt8:=if 0<=n/\n<256 then aqV (asS n.toNat) else aqY
theorem WS {n:Int} {u:UInt8} (h:oB n=aqV u):n=u.toNat:=by
 unfold oB at h;split at h
 ·rename_i ab;cases h;simp;omega
 ·cases h
def yj (a b:Int):Option Int:=if b=0 then aqY else aqV (a.tdiv b)
def r7 (a b:Int):Option Int:=if b=0 then aqY else aqV (a.tmod b)
theorem afe {a b r:Int} (h:yj a b=aqV r):b≠0/\r=a.tdiv b:=by
 unfold yj at h;split at h
 ·cases h
 ·cases h;exact ⟨‹_›,rfl⟩
theorem afR {a b r:Int} (h:r7 a b=aqV r):b≠0/\r=a.tmod b:=by
 unfold r7 at h;split at h
 ·cases h
 ·cases h;exact ⟨‹_›,rfl⟩
def lt {au bz:Type} (x:au) (f:au->Option bz):Option bz:=f x
theorem X4 {au bz:Type} {x:au} {f:au->Option bz} {r:bz} (h:lt x f=aqV r):∃y,x=y/\f y=aqV r:=⟨x,rfl,h⟩
theorem bind_some {au bz:Type} {x:Option au} {f:au->Option bz} {r:bz} (h:x.bind f=aqV r):∃y,x=aqV y/\f y=aqV r:=Option.bind_eq_some_iff.1 h
def kq (t:aq4):cf UInt8:=cf.flat t (fun u=> .int .u8 u.toNat) fun _=>rfl
section
variable {P:aq1} {C:FuncId->Array aqX->Mem->aqX->Mem->Prop} {af:aq3->aqX} {o:Oper} {au:Type} {T:cf au} {z:Nat->a6} {m:Mem} {xs bi:List au} {v w:aqX} {x y:aq3} {t e u:aq4} {i:TypeInfo} {d:TypeDesc}
def Src (T:cf au) (z:Nat->a6) (m:Mem) (bi:List au) (w:aqX):Prop:=
 gT w=bi.length/\∃cs,bR m T.a1 w=aqV cs/\cs.length=bi.length*T.a1/\∀(i:Nat) (y:au),bi[i]? =aqV y->∃c,T.rd z y c/\qb cs (i*T.a1) c
theorem Ya {m:Mem} {b:Nat}:∀(n off:Nat) (f:Nat->aqX),(∀i,i<n->m.load b (off+i)=aqV (f i))->jH m b off n=aqV ((arC n).map f)
 |0,off,f,_=>rfl
 |n+1,off,f,h=>by
  have aI:=h 0 (by omega);have a8:=Ya n (off+1) (fun i=>f (i+1)) fun i ae=>by rw[show off+1+i=off+(i+1) by omega];exact h (i+1) (by omega)
  simp only[arJ] at aI;simp only[jH,aI,a8,List.range_succ_eq_map,arN,List.map_map];rfl
theorem Pr {b off c:Nat} (h:∀(i:Nat) (y:au),bi[i]? =aqV y->∃cs,T.rd z y cs/\∀(k:Nat) (u:aqX),cs[k]? =aqV u->m.load b (off+i*T.a1+k)=aqV u):Src T z m bi (.slice (aqV ⟨b,off,aqY⟩) bi.length c):=by
 have aci:∀k,k<bi.length*T.a1->∃u,m.load b (off+k)=aqV u:=by
  intro k hk;have dQ:0<T.a1:=by
   rcases atD T.a1 with aI|aI
   ·rw[aI] at hk;omega
   ·exact aI
  have aJ:k / T.a1<bi.length:=Nat.div_lt_of_lt_mul (by rw[Nat.mul_comm];exact hk);obtain ⟨cs,h1,J⟩:=h (k / T.a1) bi[k / T.a1] (by simp[aJ]);have hlen:=T.len z _ cs h1;have an:k%T.a1<cs.length:=by rw[hlen];exact Nat.mod_lt _ dQ
  refine ⟨cs[k%T.a1], ?_⟩;have:=J (k%T.a1) _ (ary an);rw[arD,Nat.mul_comm,Nat.div_add_mod] at this;exact this
 let f:Nat->aqX:=fun k=>(m.load b (off+k)).getD undef
 have aP:∀k,k<bi.length*T.a1->m.load b (off+k)=aqV (f k):=fun k hk=>by obtain ⟨u,hu⟩:=aci k hk;simp[f,hu]
 refine ⟨rfl,(arC (bi.length*T.a1)).map f,Ya _ _ _ aP,by simp,fun i y ag=> ?_⟩;obtain ⟨cs,h1,J⟩:=h i y ag;refine ⟨cs,h1,fun k u hk=> ?_⟩;have oY:=(aq5.1 hk).1;rw[T.len z y cs h1] at oY;have jk:=(aq5.1 ag).1;have aN:i*T.a1+k<bi.length*T.a1:=by have:(i+1)*T.a1<=bi.length*T.a1:=asf _ jk;rw[art,asv] at this;omega
 have:=J k u hk;rw[arD,aP _ aN] at this;rw[arH,as8 aN];simpa using this
theorem er.src (h:er T z bi w) (aF:j5 z m):Src T z m bi w:=by
 rcases h with ⟨rfl,rfl⟩|⟨b,off,c,rfl,_,_,aM⟩
 ·exact ⟨rfl,[],rfl,by simp,fun i y ag=>by simp at ag⟩
 ·exact Pr fun i y ag=>by obtain ⟨cs,g1,g2⟩:=aM i y ag;exact ⟨cs,g1,fun k u hk=>Xp aF (g2 k u hk)⟩
theorem eG.src (h:eG T z m bi w):Src T z m bi w:=by
 rcases h with ⟨rfl,rfl⟩|⟨b,f0,L,c,rfl,aa,_,_,_,_,aM⟩
 ·exact ⟨rfl,[],rfl,by simp,fun i y ag=>by simp at ag⟩
 ·exact Pr fun i y ag=>by obtain ⟨cs,g1,g2⟩:=aM i y ag;exact ⟨cs,g1,fun k u hk=>by simp only[Mem.load,aa];exact g2 k u hk⟩
theorem e5.kill {b:Nat} {X:a6} (aB:∀b,m.next<=b->m.aG b= .dead) (aa:b<m.next):e5 m ((m.put b .dead).push X) (aqV b):=by
 have h1:=CM (m:=m) (x:= .dead) aB aa;refine ⟨Nat.le_succ _,fun c ab=> ?_,fun c ab hk=> ?_⟩
 ·have e:((m.put b .dead).push X).aG c=if c=m.next then X else (if c=b then .dead else m.aG c):=rfl
  have ab:m.next+1<=c:=ab;rw[e,if_neg (by omega)];split
  ·rfl
  ·exact aB c (by omega)
 ·have e:((m.put b .dead).push X).aG c=if c=m.next then X else (if c=b then .dead else m.aG c):=rfl
  rw[e,if_neg (by omega),if_neg (fun h=>hk (by rw[h]))]
theorem W0 {cs:List aqX} (h:o.op= .call {callee:= .builtin .append,args:=#[x,y],argTypes:=#[t,u]}) (ao:P.underlying t=aqV (.slice T.tid)) (ae:P.info? T.tid=aqV i) {ca:aqX} (hi:i.zero=aqV ca) (cg:ca.cells.toList.all cx=aqW) (dp:ca.cells.size=i.size)
  (bE:i.size=T.a1) (dQ:0<T.a1) (LU:(xs.length+bi.length)*i.bytes<=140737488355328) (kV:xs.length+bi.length<=140737488355328) (U:af x=v) (ay:eG T z m xs v) (eu:vf P m u i (af y) bi.length cs) (hV:cs.length=bi.length*T.a1) (dG:∀(i:Nat) (y:au),bi[i]? =aqV y->∃c,T.rd z y c/\qb cs (i*T.a1) c)
  (aF:j5 z m) (aB:∀b,m.next<=b->m.aG b= .dead):
  ∃bl m',gF P C af o m bl m'/\eG T z m' (xs++bi) bl/\e5 m m' (cp v)/\∀b,cp bl=aqV b->cp v=aqV b\/m.next<=b:=by
 have LV:=LU;have Mf:xs.length+bi.length<9223372036854775807:=by omega
 have yw:cs.length=bi.length*i.size:=by rw[bE];exact hV
 have pU:z m.next= .dead:=by
  cases gb:z m.next with
  |dead=>rfl
  |ro rd=>have:=(aF m.next (by rw[gb];simp)).2;omega
  |own L t=>have:=(aF m.next (by rw[gb];simp)).2;omega
  |map L t=>have:=(aF m.next (by rw[gb];simp)).2;omega
  |lock _ _ _ _=>have:=(aF m.next (by rw[gb];simp)).2;omega
 have join:∀(dh:List aqX),dh.length=xs.length*T.a1->(∀(i:Nat) (x:au),xs[i]? =aqV x->∃c,T.rd z x c/\qb dh (i*T.a1) c)->
   ∀(i:Nat) (x:au),(xs++bi)[i]? =aqV x->∃c,T.rd z x c/\qb (dh++cs) (i*T.a1) c:=by
  intro dh jW ai i a aq;rw[atA] at aq;split at aq
  ·rename_i aN;obtain ⟨c,g1,g2⟩:=ai i a aq;refine ⟨c,g1,fun k q hk=> ?_⟩;have:=g2 k q hk;rw[arm (aq5.1 this).1];exact this
  ·rename_i e8;obtain ⟨c,g1,g2⟩:=dG _ a aq;refine ⟨c,g1,fun k q hk=> ?_⟩;have:=g2 k q hk;have h1:i*T.a1=dh.length+(i - xs.length)*T.a1:=by
    rw[jW,<-art];congr 1;omega
   rw[h1,arD,arl (by omega),Nat.add_sub_cancel_left];exact this
 rcases ay with ⟨rfl,rfl⟩|⟨b,f0,L,c,rfl,aa,aN,adA,ah,ka,acX⟩
 ·by_cases od:bi.length=0
  ·have abM:cs=[]:=asw (by rw[hV,od,ase]);have ady:bi=[]:=asw od;subst ady;subst abM;refine ⟨af x,m, .vw x y t u T.tid i aqY 0 0 h ao ae U (by simp[dr]) (aq9 _) eu, ?_,⟨aq9 _,aB,fun _ _ _=>rfl⟩, ?_⟩
   ·rw[U];exact .inl ⟨rfl,rfl⟩
   ·intro b aa;rw[U] at aa;cases aa
  ·refine ⟨_,_, .rD x y t u T.tid i ca aqY 0 0 bi.length [] cs h ao ae hi cg dp (by rw[bE];exact dQ) U (by omega) (by rw[U];rfl) (by simp) eu yw (by simpa using LV) (by simpa using Mf), ?_,Cz aB, ?_⟩
   ·refine .inr ⟨m.next,0,cs,dr,by simp,by simp[Mem.push],by simp[Mem.push],pU,by simp[hV], .inl rfl, ?_⟩;have:=join [] (by simp) (fun i x U=>by simp at U);simpa using this
   ·intro b aa;cases aa;exact .inr (aq9 _)
 ·have Mt:∀(i:Nat) (x:au),xs[i]? =aqV x->∃c,T.rd z x c/\qb ((L.drop f0).take (xs.length*T.a1)) (i*T.a1) c:=by
   intro k a aq;obtain ⟨c,g1,g2⟩:=acX k a aq;refine ⟨c,g1,fun q dJ aJ=> ?_⟩;have yO:=(aq5.1 aJ).1;rw[T.len z a c g1] at yO;have oY:=(aq5.1 aq).1;have:(k+1)*T.a1<=xs.length*T.a1:=asf _ oY;rw[art,asv] at this;rw[arK,if_pos (by omega),ar6,<-arD];exact g2 q dJ aJ
  have lr:((L.drop f0).take (xs.length*T.a1)).length=xs.length*T.a1:=by rw[arG,asa];omega
  rcases ka with rfl|⟨T9,abD,yv⟩
  ·refine ⟨_,_, .append x y t u T.tid i ca b f0 xs.length bi.length L cs h ao ae hi cg dp (by rw[bE];exact dQ) U aa (by rw[bE];exact ah) eu yw LV Mf, ?_,e5.kill aB aN, ?_⟩
   ·refine .inr ⟨m.next,0,(L.drop f0).take (xs.length*T.a1)++cs,dr,by simp,by simp[Mem.push,Mem.put,bE],by simp[Mem.push,Mem.put],pU, ?_, .inl rfl, ?_⟩
    ·rw[aro,aro,lr,hV,art,arh];exact aq9 _
    ·simpa using join _ lr Mt
   ·intro b6 cu;cases cu;exact .inr (aq9 _)
  ·by_cases qL:xs.length+bi.length<=c
   ·have yq:f0+(xs.length+bi.length)*i.size<=L.length:=by
     rw[bE];exact arq (Nat.add_le_add_left (asf _ qL) _) yv
    refine ⟨_,_, .ye x y t u T.tid i b f0 xs.length c bi.length L cs h ao ae U (by simp only[dr] at T9⊢;omega) qL aa eu yw yq, ?_,CM aB aN,fun b6 cu=> .inl cu⟩;have jY:(eU L (f0+xs.length*i.size) cs).length=L.length:=pg _ _ _;refine .inr ⟨b,f0,eU L (f0+xs.length*i.size) cs,c,by simp,by simp[Mem.put],aN,adA, ?_, .inr ⟨T9, ?_, ?_⟩, ?_⟩
    ·rw[jY];rw[bE] at yq;simpa using yq
    ·simpa using qL
    ·rw[jY];exact yv
    ·intro k a aq;obtain ⟨bQ,g1,g2⟩:=join _ lr Mt k a aq;refine ⟨bQ,g1,fun q dJ aJ=> ?_⟩;have:=g2 q dJ aJ;have Uu:=(aq5.1 this).1;rw[aro,lr,hV] at Uu;rw[bE,art] at yq;rw[bE,ou _ _ _ _ (by rw[hV];omega)];rw[atA,lr] at this;split at this
     ·rename_i acm;rw[if_neg (by omega)];rw[arK,if_pos acm,ar6,<-arD] at this;exact this
     ·rw[if_pos (by omega),show f0+k*T.a1+q - (f0+xs.length*T.a1)=k*T.a1+q - xs.length*T.a1 by omega];exact this
   ·have abR:bR m i.size (af x)=aqV ((L.drop f0).take (xs.length*T.a1)):=by
     rw[U,bE];simp only[bR];refine Hj _ _ _ lr fun k q hk=> ?_;rw[arK] at hk;split at hk
     ·rw[ar6] at hk;simp only[Mem.load,aa];exact hk
     ·cases hk
    refine ⟨_,_, .rD x y t u T.tid i ca _ xs.length c bi.length ((L.drop f0).take (xs.length*T.a1)) cs h ao ae hi cg dp (by rw[bE];exact dQ) U (by omega) abR (by rw[lr,bE]) eu yw LV Mf, ?_, ?_, ?_⟩
    ·refine .inr ⟨m.next,0,(L.drop f0).take (xs.length*T.a1)++cs,dr,by simp,by simp[Mem.push],by simp[Mem.push],pU, ?_, .inl rfl,by simpa using join _ lr Mt⟩;rw[aro,aro,lr,hV,art,arh];exact aq9 _
    ·have:=Cz (m:=m) (x:= .own ((L.drop f0).take (xs.length*T.a1)++cs) T.tid) aB;exact ⟨this.next,this.dead,fun c ab _=>this.aG c ab (by simp)⟩
    ·intro b6 cu;cases cu;exact .inr (aq9 _)
theorem af8 (h:o.op= .call {callee:= .builtin .append,args:=#[x,y],argTypes:=#[t,u]}) (ao:P.underlying t=aqV (.slice T.tid)) (ae:P.info? T.tid=aqV i) {ca:aqX} (hi:i.zero=aqV ca) (cg:ca.cells.toList.all cx=aqW) (dp:ca.cells.size=i.size)
  (bE:i.size=T.a1) (dQ:0<T.a1) (LU:(xs.length+bi.length)*i.bytes<=140737488355328) (kV:xs.length+bi.length<=140737488355328) (hu:(∃bx,P.underlying u=aqV (.slice bx))\/P.underlying u=aqV .string) (U:af x=v) (ay:eG T z m xs v) (ag:af y=w) (lq:Src T z m bi w)
  (aF:j5 z m) (aB:∀b,m.next<=b->m.aG b= .dead):
  ∃bl m',gF P C af o m bl m'/\eG T z m' (xs++bi) bl/\e5 m m' (cp v)/\∀b,cp bl=aqV b->cp v=aqV b\/m.next<=b:=by
 obtain ⟨hlen,cs,h5,hV,dG⟩:=lq;exact W0 h ao ae hi cg dp bE dQ LU kV U ay (.el hu (by rw[ag];exact hlen) (by rw[ag,bE];exact h5)) hV dG aF aB
theorem am' {x0:au} {ca:aqX} (dG:T.rd z x0 ca.cells.toList) (c:Nat):(arx c ca.cells.toList).flatten.length=(arx c x0).length*T.a1/\
  ∀(i:Nat) (y:au),(arx c x0)[i]? =aqV y->∃d,T.rd z y d/\qb (arx c ca.cells.toList).flatten (i*T.a1) d:=by
 have hlen:ca.cells.toList.length=T.a1:=T.len z x0 _ dG;refine ⟨by rw[List.length_flatten];simp[hlen],fun j a aq=> ?_⟩;have av:=(aq5.1 aq).1;have LO:a=x0:=by have:=(aq5.1 aq).2;simpa using this.symm
 subst LO;refine ⟨_,dG,fun q u aJ=> ?_⟩;have yO:=(aq5.1 aJ).1;rw[hlen] at yO;have key:∀(c j:Nat),j<c->((arx c ca.cells.toList).flatten)[j*T.a1+q]? =ca.cells.toList[q]? :=by
  intro c;induction c with
  |zero=>intro j av;omega
  |succ c a8=>
   intro j av;rw[aul,ati];cases j with
   |zero=>rw[ase,arh,arm (by omega)]
   |succ j=>rw[arl (by rw[hlen,at8];omega),hlen,at8,show j*T.a1+T.a1+q - T.a1=j*T.a1+q by omega];exact a8 j (by omega)
 rw[key c j (by simpa using av)];exact aJ
theorem af9 {x0:au} {kk k:aq2} {c:Nat} (h:o.op= .call {callee:= .builtin .append,args:=#[x,y],argTypes:=#[t,u]}) (ao:P.underlying t=aqV (.slice T.tid)) (ae:P.info? T.tid=aqV i) {ca:aqX} (hi:i.zero=aqV ca) (cg:ca.cells.toList.all cx=aqW) (dp:ca.cells.size=i.size)
  (bE:i.size=T.a1) (dQ:0<T.a1) (fZ:i.bytes<=32768) (hu:P.underlying u=aqV (.int kk)) (U:af x=v) (ay:eG T z m xs v) (ag:af y= .int k c) (dG:T.rd z x0 ca.cells.toList)
  (aF:j5 z m) (aB:∀b,m.next<=b->m.aG b= .dead) {r:List au} (an:dP xs (arx c x0)=aqV r):
  ∃bl m',gF P C af o m bl m'/\eG T z m' r bl/\e5 m m' (cp v)/\∀b,cp bl=aqV b->cp v=aqV b\/m.next<=b:=by
 obtain ⟨kV,rfl⟩:=sf an;simp only[mg,asP] at kV;have h1:(xs.length+c)*i.bytes<=4294967296*32768:=atM kV fZ;have J:c*i.bytes<=4294967296*32768:=atM (by omega) fZ;obtain ⟨g1,g2⟩:=am' (T:=T) (z:=z) dG c;exact W0 h ao ae hi cg dp bE dQ (by rw[asP];omega) (by rw[asP];omega) U ay
  (.mk kk k ca hu (by rw[ag,asP]) hi cg dp (by omega) (by rw[asP];omega) (by rw[asP];omega) (by rw[asP])) g1 g2 aF aB
theorem ahl (h:o.op= .call {callee:= .builtin .append,args:=#[x,y],argTypes:=#[t,u]}) (ao:P.underlying t=aqV (.slice T.tid)) (ae:P.info? T.tid=aqV i) {ca:aqX} (hi:i.zero=aqV ca) (cg:ca.cells.toList.all cx=aqW) (dp:ca.cells.size=i.size)
  (bE:i.size=T.a1) (dQ:0<T.a1) (fZ:i.bytes<=32768) (hu:(∃bx,P.underlying u=aqV (.slice bx))\/P.underlying u=aqV .string) (U:af x=v) (ay:eG T z m xs v) (ag:af y=w) (lq:Src T z m bi w)
  (aF:j5 z m) (aB:∀b,m.next<=b->m.aG b= .dead) {r:List au} (an:dP xs bi=aqV r):
  ∃bl m',gF P C af o m bl m'/\eG T z m' r bl/\e5 m m' (cp v)/\∀b,cp bl=aqV b->cp v=aqV b\/m.next<=b:=by
 obtain ⟨kV,rfl⟩:=sf an;simp only[mg] at kV;have:(xs.length+bi.length)*i.bytes<=4294967296*32768:=atM kV fZ;exact af8 h ao ae hi cg dp bE dQ (by omega) (by omega) hu U ay ag lq aF aB
theorem ana {x0:au} {k dc:aq2} {n n':Int} (h:o.op= .makeSlice t x y) (ao:P.underlying t=aqV (.slice T.tid)) (ae:P.info? T.tid=aqV i) {ca:aqX} (hi:i.zero=aqV ca) (cg:ca.cells.toList.all cx=aqW) (dp:ca.cells.size=i.size) (bE:i.size=T.a1) (fZ:i.bytes<=32768)
  (dG:T.rd z x0 ca.cells.toList) (U:af x= .int k n) (ag:af y= .int dc n) (aF:j5 z m) {r:List au} (an:l1 x0 n=aqV r):
  ∃L v,h0 P af o m.next (.own L T.tid) v/\eG T z (m.push (.own L T.tid)) r v/\cp v=aqV m.next:=by
 obtain ⟨aI,h1,rfl⟩:=CV an;obtain ⟨c,rfl⟩:=arI aI;have pU:z m.next= .dead:=by
  cases gb:z m.next with
  |dead=>rfl
  |ro rd=>have:=(aF m.next (by rw[gb];simp)).2;omega
  |own L t=>have:=(aF m.next (by rw[gb];simp)).2;omega
  |map L t=>have:=(aF m.next (by rw[gb];simp)).2;omega
  |lock _ _ _ _=>have:=(aF m.next (by rw[gb];simp)).2;omega
 have hlen:ca.cells.toList.length=T.a1:=by simp[dp,bE]
 have hf:(arx c ca.cells.toList).flatten.length=c*T.a1:=by simp[dp,bE]
 refine ⟨_,_, .makeSlice t x y c c k dc T.tid i ca h ao ae hi cg dp U ag (aq9 _) ?_ (by omega), ?_,rfl⟩
 ·have:i.bytes*c<=32768*4294967296:=atM fZ (by omega);omega
 ·simp only[ar0];refine eG.Bb ⟨m.next,(arx c ca.cells.toList).flatten,c,by simp,by simp[Mem.push],by simp[Mem.push],pU,by rw[hf];simp, .inr ⟨by simp[dr];omega,by simp,by rw[hf];exact aq9 _⟩,fun j a aq=> ?_⟩;have av:=(aq5.1 aq).1;have LO:a=x0:=by have:=(aq5.1 aq).2;simpa using this.symm
  subst LO;refine ⟨_,dG,fun q u aJ=> ?_⟩;have yO:=(aq5.1 aJ).1;rw[hlen] at yO;have key:∀(c j:Nat),j<c->((arx c ca.cells.toList).flatten)[j*T.a1+q]? =ca.cells.toList[q]? :=by
   intro c;induction c with
   |zero=>intro j av;omega
   |succ c a8=>
    intro j av;rw[aul,ati];cases j with
    |zero=>rw[ase,arh,arm (by rw[hlen];exact yO)]
    |succ j=>rw[art,asv,arl (by rw[hlen];omega),hlen,show j*T.a1+T.a1+q - T.a1=j*T.a1+q by omega];exact a8 j (by omega)
  rw[key c j (by simpa using av)];exact aJ
def wL (T:cf au) (z:Nat->a6) (af:aq3->aqX):List (Nat×aq3)->Nat->List au->List (List aqX)->Prop
 |[],_,[],[]=>True
 |(k,x)::bK,n,a::as,c::cs=>k=n/\storable (af x)=aqW/\(af x).cells.toList=c/\T.rd z a c/\wL T z af bK (n+1) as cs
 |_,_,_,_=>False
theorem Xd:∀(new A B D:List aqX),new.length=B.length->eU (A++B++D) A.length new=A++new++D
 |[],A,B,D,h=>by have:B=[]:=asw h.symm;subst this;simp[eU]
 |v::new,A,b::B,D,h=>by
  have e:(A++(b::B)++D).set A.length v=(A++[v])++B++D:=by simp
  simp only[eU,e];have:=Xd new (A++[v]) B D (by simpa using h);simp only[aro,arw,asV,arh] at this;rw[this];simp
 |_::_,A,[],D,h=>by simp at h
theorem Wh:∀(bK:List (Nat×aq3)) (n:Nat) (as:List au) (ih:List (List aqX)) (A D:List aqX),wL T z af bK n as ih->A.length=n*T.a1->D.length=as.length*T.a1->
  jE (fun k=>aqV (k*T.a1,T.a1)) (A++D) (bK.map fun p=>(p.1,af p.2))=aqV (A++ih.flatten)
 |[],n,[],[],A,D,_,_,ev=>by have:D=[]:=asw (by simpa using ev);subst this;simp[jE]
 |(k,x)::bK,n,a::as,c::ih,A,D,h,eu,ev=>by
  obtain ⟨rfl,h1,J,aj,aM⟩:=h;have ab:=T.len z a c aj;have bE:(af x).cells.size=T.a1:=by rw[<-ab,<-J];simp
  simp only[arw,art,asv] at ev;simp only[arN,jE,h1,bE,true_and,aro];rw[if_pos (by omega),J,<-eu];have MA:A++D=A++D.take T.a1++D.drop T.a1:=by rw[asT,List.take_append_drop]
  rw[MA,Xd c A (D.take T.a1) (D.drop T.a1) (by rw[ab,arG];omega)];rw[Wh bK (k+1) as ih (A++c) (D.drop T.a1) aM (by rw[aro,eu,ab,art,asv]) (by rw[asa];omega)];simp
 |[],_,_::_,_,_,_,h,_,_=>h.elim
 |[],_,[],_::_,_,_,h,_,_=>h.elim
 |_::_,_,[],_,_,_,h,_,_=>h.elim
 |_::_,_,_::_,[],_,_,h,_,_=>h.elim
theorem Wu:∀(bK:List (Nat×aq3)) (n:Nat) (as:List au) (ih:List (List aqX)),wL T z af bK n as ih->ih.flatten.length=as.length*T.a1/\∀(i:Nat) (a:au),as[i]? =aqV a->∃c,T.rd z a c/\qb ih.flatten (i*T.a1) c
 |[],n,[],[],_=>⟨by simp,fun i a aq=>by simp at aq⟩
 |(k,x)::bK,n,a::as,c::ih,h=>by
  obtain ⟨rfl,h1,J,aj,aM⟩:=h;have ab:=T.len z a c aj;obtain ⟨g1,g2⟩:=Wu bK (k+1) as ih aM;refine ⟨by simp only[ati,aro,g1,ab,arw,art,asv];omega,fun i b aa=> ?_⟩;cases i with
  |zero=>simp at aa;subst aa;refine ⟨c,aj,fun q u aJ=> ?_⟩;have:=(aq5.1 aJ).1;rw[ati,ase,arh,arm this];exact aJ
  |succ i=>obtain ⟨bQ,bs,bC⟩:=g2 i b (by simpa using aa);refine ⟨bQ,bs,fun q u aJ=> ?_⟩;rw[ati,art,asv,arl (by omega),ab,show i*T.a1+T.a1+q - T.a1=i*T.a1+q by omega];exact bC q u aJ
 |[],_,_::_,_,h=>h.elim
 |[],_,[],_::_,h=>h.elim
 |_::_,_,[],_,h=>h.elim
 |_::_,_,_::_,[],h=>h.elim
theorem aip {bK:Array (Nat×aq3)} {l:Nat} {as:List au} {ih:List (List aqX)} (h:o.op= .buildSlice t l bK) (ao:P.underlying t=aqV (.slice T.tid)) (ae:P.info? T.tid=aqV i) {ca:aqX} (hi:i.zero=aqV ca) (cg:ca.cells.toList.all cx=aqW) (dp:ca.cells.size=i.size) (bE:i.size=T.a1)
  (ah:as.length=l) (rK:l*T.a1<=16777216) (rT:l<9223372036854775808) (aa:wL T z af bK.toList 0 as ih) (aF:j5 z m):
  ∃L v,h0 P af o m.next (.own L T.tid) v/\eG T z (m.push (.own L T.tid)) as v/\cp v=aqV m.next:=by
 have pU:z m.next= .dead:=by
  cases gb:z m.next with
  |dead=>rfl
  |ro rd=>have:=(aF m.next (by rw[gb];simp)).2;omega
  |own L t=>have:=(aF m.next (by rw[gb];simp)).2;omega
  |map L t=>have:=(aF m.next (by rw[gb];simp)).2;omega
  |lock _ _ _ _=>have:=(aF m.next (by rw[gb];simp)).2;omega
 have aP:=Wh bK.toList 0 as ih [] (arx l ca.cells.toList).flatten aa (by simp) (by simp[dp,bE,ah]);obtain ⟨g1,g2⟩:=Wu bK.toList 0 as ih aa;refine ⟨ih.flatten,_, .buildSlice t l bK T.tid i ca _ h ao ae hi cg dp (by rw[bE];exact rK) rT (by rw[bE];simpa using aP), ?_,rfl⟩;exact eG.Bb ⟨m.next,ih.flatten,l,by rw[ah],by simp[Mem.push],by simp[Mem.push],pU,by rw[g1];exact aq9 _, .inr ⟨by simp only[dr];omega,by omega,by rw[g1,ah];exact aq9 _⟩,g2⟩
theorem ajf {s:List UInt8} {tid:aq4} (h:o.op= .convert u t x) (hu:P.underlying u=aqV .string) (ao:P.underlying t=aqV (.slice tid)) (he:P.underlying tid=aqV (.int .u8)) (ae:P.info? tid=aqV i) (hg:i.size=1) (U:af x=str s) (ah:s.length<9223372036854775807) (aF:j5 z m):
  ∃L v,h0 P af o m.next (.own L tid) v/\eG (kq tid) z (m.push (.own L tid)) s v/\cp v=aqV m.next:=by
 have pU:z m.next= .dead:=by
  cases gb:z m.next with
  |dead=>rfl
  |ro rd=>have:=(aF m.next (by rw[gb];simp)).2;omega
  |own L t=>have:=(aF m.next (by rw[gb];simp)).2;omega
  |map L t=>have:=(aF m.next (by rw[gb];simp)).2;omega
  |lock _ _ _ _=>have:=(aF m.next (by rw[gb];simp)).2;omega
 refine ⟨_,_, .bytes u t x tid i ⟨s.toArray⟩ h hu ao he ae hg U (by rw[zr];exact ah), ?_,rfl⟩;refine eG.Bb ⟨m.next,s.map fun u=> .int .u8 u.toNat,dr,by rw[zr],by simp[Mem.push,kq,cf.flat],by simp[Mem.push],pU,by simp[kq,cf.flat], .inl rfl,fun k a aq=>⟨[.int .u8 a.toNat],rfl,fun q w aJ=> ?_⟩⟩;cases q with
 |zero=>simp at aJ;subst aJ;simp[kq,cf.flat,aq]
 |succ q=>simp at aJ
theorem Zt {s:List UInt8} {tid:aq4} (h:o.op= .convert t u x) (ao:P.underlying t=aqV (.slice tid)) (he:P.underlying tid=aqV (.int .u8)) (hu:P.underlying u=aqV .string) (U:af x=v) (ay:Src (kq tid) z m s v) (ad:∃a l c,v= .slice a l c):eT P af o m (str s):=by
 obtain ⟨a,l,c,rfl⟩:=ad;obtain ⟨ah,cs,h5,hV,dG⟩:=ay;have hC:cs=s.map fun u=> .int .u8 u.toNat:=by
  apply asL;intro k;by_cases hk:k<s.length
  ·obtain ⟨bQ,g1,g2⟩:=dG k s[k] (by simp[hk]);have g1:bQ=[.int .u8 s[k].toNat]:=g1;subst g1;have:=g2 0 _ rfl;simp only[kq,cf.flat,Nat.mul_one,arJ] at this;simp[this,hk]
  ·have:cs.length<=k:=by rw[hV];simp only[kq,cf.flat];omega
   simp[atb this,hk]
 subst hC;simp only[gT] at ah;subst ah;cases a with
 |none=>
  simp only[bR,arr.injEq] at h5;have:s=[]:=by simpa using h5.symm
  subst this;exact .Af t u x tid _ c h ao he hu U
 |some a=>
  obtain ⟨b,off,spot⟩:=a;cases spot with
  |some q=>simp[bR] at h5
  |none=>simp only[bR,kq,cf.flat,Nat.mul_one] at h5;exact .str t u x tid b off _ c s h ao he hu U h5
end
def ox:Op->Bool
 | .load .. | .convert .. | .slice .. | .lookup .. =>aqW
 |_=>aqZ
def nz:Op->Bool
 | .alloc _| .box .. | .buildSlice .. | .makeSlice .. | .convert .. | .makeMap .. =>aqW
 |_=>aqZ
def calm (ops:Array Oper):Bool:=
 (arC ops.size).all fun e=>match ops[e]? with
  |none=>aqW
  |some wq=> !iO wq.op||(arC ops.size).all fun r=>match ops[r]? with
   |none=>aqW
   |some or=>(!(ox or.op)||(if r<e then fi (arM ops) e r else if e<r then fi (arM ops) r e else aqW))&&(!(nz or.op)||(if r<e then fi (arM ops) e r else aqW))
theorem Gg {P:aq1} {af:aq3->aqX} {o:Oper} {m:Mem} {v:aqX} (h:eT P af o m v):ox o.op=aqW:=by
 cases h<;>simp[*,ox]
theorem CJ {P:aq1} {af:aq3->aqX} {o:Oper} {n:Nat} {X:a6} {v:aqX} (h:h0 P af o n X v):nz o.op=aqW:=by
 cases h<;>simp[*,nz]
theorem Wv {ops:Array Oper} (h:calm ops=aqW) {e r:Nat} {wq or:Oper} (he:ops[e]? =aqV wq) (an:ops[r]? =aqV or) (aT:iO wq.op=aqW) (ah:ox or.op=aqW):(r<e->fi (arM ops) e r=aqW)/\(e<r->fi (arM ops) r e=aqW):=by
 simp only[calm,arc,asb] at h;have h1:=h e (ar9.1 he).1;simp only[he,aT,asx,arZ,arc,asb] at h1;have J:=h1 r (ar9.1 an).1;simp only[an,ah,asx,arZ,ara] at J;refine ⟨fun aN=> ?_,fun aN=> ?_⟩
 ·have:=J.1;rw[if_pos aN] at this;exact this
 ·have:=J.1;rw[if_neg (by omega),if_pos aN] at this;exact this
theorem afb {ops:Array Oper} (h:calm ops=aqW) {e r:Nat} {wq or:Oper} (he:ops[e]? =aqV wq) (an:ops[r]? =aqV or) (aT:iO wq.op=aqW) (ah:nz or.op=aqW) (aN:r<e):fi (arM ops) e r=aqW:=by
 simp only[calm,arc,asb] at h;have h1:=h e (ar9.1 he).1;simp only[he,aT,asx,arZ,arc,asb] at h1;have J:=h1 r (ar9.1 an).1;simp only[an,ah,asx,arZ,ara] at J;have:=J.2;rw[if_pos aN] at this;exact this
theorem VJ {P:aq1} {C:FuncId->Array aqX->Mem->aqX->Mem->Prop} {ops:Array Oper} (ab:calm ops=aqW):∀(l pre:List Oper) (A:Acc) (fr fr':Nat->aqX) (m m':Mem),ops.toList=pre++l->
  (∀x∈A.reads,∃o,ops[x.1]? =aqV o/\ox o.op=aqW/\x.1<pre.length)->(∀x∈A.gN,∃o,ops[x.1]? =aqV o/\iO o.op=aqW/\x.1<pre.length)->(∀x∈A.news,∃o,ops[x.1]? =aqV o/\nz o.op=aqW/\x.1<pre.length)->
  j3 P C ops.toList l fr m fr' m'->gw P C ops.toList (arM ops) pre.length l A fr m fr' m'
 |[],pre,A,fr,fr',m,m',ap,h1,J,aj,h=>h
 |o::l,pre,A,fr,fr',m,m',ap,h1,J,aj,h=>by
  have ai:ops[pre.length]? =aqV o:=by rw[<-as4,ap];simp
  have mw:ops.toList=(pre++[o])++l:=by rw[ap];simp
  have hlen:(pre++[o]).length=pre.length+1:=by simp
  have up:∀{bz:Type} {p:Oper->Bool} {L:List (Nat×bz)},(∀x∈L,∃o,ops[x.1]? =aqV o/\p o=aqW/\x.1<pre.length)->∀x∈L,∃o,ops[x.1]? =aqV o/\p o=aqW/\x.1<pre.length+1:=fun ax x U=>by obtain ⟨q,a,b,c⟩:=ax x U;exact ⟨q,a,b,by omega⟩
  have z8:=fun (A:Acc) (fr:Nat->aqX) (m:Mem)=>VJ (P:=P) (C:=C) ab l (pre++[o]) A fr fr' m m' mw;rw[hlen] at z8;simp only[j3] at h;simp only[gw];split at h
  ·rename_i hw;rw[if_pos hw];obtain ⟨v,m1,ay,an⟩:=h;cases ay with
   |pure aJ=>exact .inl ⟨v,aJ,z8 A _ _ (up (p:=fun o=>ox o.op) h1) (up (p:=fun o=>iO o.op) J) (up (p:=fun o=>nz o.op) aj) an⟩
   |read aJ=>
    have nf:=Gg aJ;refine .inr (.inl ⟨v,aJ,fun x U aq=> ?_,z8 _ _ _ ?_ (up (p:=fun o=>iO o.op) J) (up (p:=fun o=>nz o.op) aj) an⟩)
    ·obtain ⟨q,g1,g2,g3⟩:=J x U;have:=(Wv ab g1 ai g2 nf).2 g3;rw[aq] at this;cases this
    ·intro x U;rcases arb.1 U with rfl|U
     ·exact ⟨o,ai,nf,arU _⟩
     ·exact up (p:=fun o=>ox o.op) h1 x U
   |new aJ=>
    refine .inr (.inr (.inl ⟨_,v,aJ,z8 _ _ _ (up (p:=fun o=>ox o.op) h1) (up (p:=fun o=>iO o.op) J) ?_ an⟩));intro x U;rcases arb.1 U with rfl|U
    ·exact ⟨o,ai,CJ aJ,arU _⟩
    ·exact up (p:=fun o=>nz o.op) aj x U
   |e7 aJ=>
    have nc:=NO aJ;refine .inr (.inr (.inr ⟨v,m1,aJ,fun x U aq=> ?_,fun x U aq=> ?_,z8 _ _ _ (up (p:=fun o=>ox o.op) h1) ?_ (up (p:=fun o=>nz o.op) aj) an⟩))
    ·obtain ⟨q,g1,g2,g3⟩:=h1 x U;have:=(Wv ab ai g1 nc g2).1 g3;rw[aq] at this;cases this
    ·obtain ⟨q,g1,g2,g3⟩:=aj x U;have:=afb ab ai g1 nc g2 g3;rw[aq] at this;cases this
    ·intro x U;rcases arb.1 U with rfl|U
     ·exact ⟨o,ai,nc,arU _⟩
     ·exact up (p:=fun o=>iO o.op) J x U
  ·rename_i hw;rw[if_neg hw];exact z8 A _ _ (up (p:=fun o=>ox o.op) h1) (up (p:=fun o=>iO o.op) J) (up (p:=fun o=>nz o.op) aj) h
theorem W.calm {P:aq1} {id:Nat} {ops:Array Oper} {Q:dX->(Nat->aqX)->Mem->Prop} {fr:Nat->aqX} {m:Mem} (ab:aS.calm ops=aqW) (h:fv P ops.toList ops.toList (Q .normal) fr m):W P (.region id ops aqW) Q fr m:=by
 obtain ⟨n,fr',m',h1,J⟩:=h;refine W.draw ⟨n,fr',m', ?_,J⟩;have:=VJ (P:=P) (C:=h7 P n) ab ops.toList [] ⟨[],[],[]⟩ fr fr' m m' (by simp) (by simp) (by simp) (by simp) h1;simpa using this
end Go.aS
end
section
namespace Go.aS
def sub:Code->List Nat->Code
 |c,[]=>c
 | .seq a b,0::p=>sub a p
 | .seq a b,_::p=>sub b p
 | .cond _ a b,0::p=>sub a p
 | .cond _ a b,_::p=>sub b p
 | .block _ c,_::p=>sub c p
 | .scope c,_::p=>sub c p
 | .loop c,_::p=>sub c p
 |c,_=>c
def bn (f:Func):Code:=f.body.getD .skip
theorem Hl {fr:Nat->aqX} {d:Option Tmp} {v:aqX} {i:Nat} (h:d≠aqV i):set fr d v i=fr i:=by
 cases d with
 |none=>rfl
 |some t=>simp only[set];rw[if_neg];rintro rfl;exact h rfl
theorem Gn {P:aq1} {C:FuncId->Array aqX->Mem->aqX->Mem->Prop} {ops:List Oper} {i:Nat}:∀(l:List Oper) (fr fr':Nat->aqX) (m m':Mem),(∀o∈l,o.dst≠aqV i)->j3 P C ops l fr m fr' m'->fr' i=fr i
 |[],fr,fr',m,m',_,h=>by rw[h.1]
 |o::l,fr,fr',m,m',hw,h=>by
  have gR:∀o∈l,o.dst≠aqV i:=fun o ai=>hw o (by simp[ai]);simp only[j3] at h;split at h
  ·obtain ⟨v,m1,_,h⟩:=h;rw[Gn l _ _ _ _ gR h];exact Hl (hw o (by simp))
  ·rw[Gn l _ _ _ _ gR h];exact Hl (hw o (by simp))
theorem NA {P:aq1} {C:FuncId->Array aqX->Mem->aqX->Mem->Prop} {ops:List Oper} {B:Array Nat} {i:Nat}:∀(l:List Oper) (n:Nat) (A:Acc) (fr fr':Nat->aqX) (m m':Mem),(∀o∈l,o.dst≠aqV i)->gw P C ops B n l A fr m fr' m'->fr' i=fr i
 |[],n,A,fr,fr',m,m',_,h=>by rw[h.1]
 |o::l,n,A,fr,fr',m,m',hw,h=>by
  have gR:∀o∈l,o.dst≠aqV i:=fun o ai=>hw o (by simp[ai]);have h1:=hw o (by simp);simp only[gw] at h;split at h
  ·rcases h with ⟨v,_,h⟩|⟨v,_,_,h⟩|⟨X,v,_,h⟩|⟨v,m1,_,_,_,h⟩<;>(rw[NA l _ _ _ _ _ _ gR h];exact Hl h1)
  ·rw[NA l _ _ _ _ _ _ gR h];exact Hl h1
theorem ON {ops:Array Oper} {i:Nat} (h:(tC ops).contains i=aqZ):∀o∈ops.toList,o.dst≠aqV i:=by
 intro o ai he;have:i∈tC ops:=List.mem_filterMap.2 ⟨o,ai,he⟩;simp[this] at h
theorem Vy {a b:List Nat} {i:Nat} (h:(a++b).contains i=aqZ):a.contains i=aqZ/\b.contains i=aqZ:=by
 simpa using h
theorem Ny {P:aq1} {C:FuncId->Array aqX->Mem->aqX->Mem->Prop} {i:Nat}:∀(n:Nat) (c:Code) (fr fr':Nat->aqX) (m m':Mem) (e:dX),(jD c).contains i=aqZ->kH P C n c fr m e fr' m'->fr' i=fr i:=by
 intro n;induction n with
 |zero=>intro c fr fr' m m' e _ h;exact h.elim
 |succ n a8=>
  intro c fr fr' m m' e hw h;cases c with
  |skip=>rw[h.2.1]
  |label l=>rw[h.2.1]
  |exit id=>rw[h.2.1]
  |ret=>rw[h.2.1]
  |region id ops d=>
   cases d with
   |false=>exact Gn _ _ _ _ _ (ON hw) h.2
   |true=>exact NA _ _ _ _ _ _ _ (ON hw) h.2
  |seq a b=>
   rcases h with ⟨aX,eV,m1,g1,g2⟩|h
   rotate_left
   ·exact h.keep _ hw
   obtain ⟨h1,J⟩:=Vy hw;have bs:=a8 _ _ _ _ _ _ h1 g1;split at g2
   ·rw[a8 _ _ _ _ _ _ J g2,bs]
   ·rw[g2.2.1,bs]
  |cond c a b=>
   obtain ⟨h1,J⟩:=Vy hw;obtain ⟨t,_,g⟩:=h;cases t with
   |false=>exact a8 _ _ _ _ _ _ J g
   |true=>exact a8 _ _ _ _ _ _ h1 g
  |block id c=>obtain ⟨aX,g,_⟩:=h;exact a8 c _ _ _ _ _ hw g
  |scope c=>exact a8 c _ _ _ _ _ hw h
  |loop c=>
   obtain ⟨aX,eV,m1,g1,g2⟩:=h;have bs:=a8 c _ _ _ _ _ hw g1;split at g2
   ·rw[a8 (.loop c) _ _ _ _ _ hw g2,bs]
   ·rw[g2.2.1,bs]
  |rangeFunc f bK x y=>exact h.elim
  |goto l=>exact h.elim
  |refuse s=>exact h.elim
section
variable {P:aq1} {Q AW:dX->(Nat->aqX)->Mem->Prop} {fr:Nat->aqX} {m:Mem}
theorem W.keep {c:Code} (h:W P c Q fr m) (aJ:∀e fr' m',(∀i,(jD c).contains i=aqZ->fr' i=fr i)->Q e fr' m'->AW e fr' m'):W P c AW fr m:=
 let ⟨n,e,fr',m',h1,J⟩:=h
 ⟨n,e,fr',m',h1,aJ _ _ _ (fun _ ae=>Ny _ _ _ _ _ _ _ ae h1) J⟩
theorem W.aaG {c:aq3} {a b:Code} {t:Bool} (ao:aK fr c= .bool t) (he:t=aqW) (h:W P a Q fr m):W P (.cond c a b) Q fr m:=W.cond (t:=aqW) (by rw[ao,he]) h
theorem W.aaF {c:aq3} {a b:Code} {t:Bool} (ao:aK fr c= .bool t) (he:t=aqZ) (h:W P b Q fr m):W P (.cond c a b) Q fr m:=W.cond (t:=aqZ) (by rw[ao,he]) h
theorem oM.jU {i:Nat} (h:Q .normal fr m):oM i Q (.exit i) fr m:=by simp only[oM,if_true];exact h
theorem oM.p3 {i j:Nat} (cY:(j==i)=aqZ) (h:Q (.exit j) fr m):oM i Q (.exit j) fr m:=by
 have:j≠i:=by intro h;simp[h] at cY
 simp only[oM,if_neg this];exact h
theorem fv.mono {ops l:List Oper} {K j6:(Nat->aqX)->Mem->Prop} (h:fv P ops l K fr m) (hk:∀fr m,K fr m->j6 fr m):fv P ops l j6 fr m:=
 let ⟨n,fr',m',h1,J⟩:=h;⟨n,fr',m',h1,hk _ _ J⟩
end
structure cT (n:Nat) (z z':Nat->a6):Prop where
 le:et z z'
 low:∀b,b<n->z' b=z b
theorem cT.refl {n:Nat} (z:Nat->a6):cT n z z:=⟨et.refl z,fun _ _=>rfl⟩
theorem cT.trans {n:Nat} {a b c:Nat->a6} (h:cT n a b) (k:cT n b c):cT n a c:=⟨h.le.trans k.le,fun i ae=>by rw[k.low i ae,h.low i ae]⟩
theorem cT.EF {n n':Nat} {a b:Nat->a6} (h:cT n a b) (ar:n'<=n):cT n' a b:=⟨h.le,fun i ae=>h.low i (by omega)⟩
structure ie (z:Nat->a6) (e m:Mem) (k:Option Nat) (b:Nat) (cs:List aqX) (t:aq4):Prop where
 aG:m.aG b= .own cs t
 lt:b<m.next
 dead:z b= .dead
 fresh:e.next<=b\/k=aqV b
structure c6 {au:Type} (T:cf au) (z:Nat->a6) (e m:Mem) (k:Option Nat) (xs:List au) (v:aqX):Prop where
 bf:eG T z m xs v
 fresh:∀b,cp v=aqV b->e.next<=b
section
variable {au:Type} {T:cf au} {z z':Nat->a6} {e m m':Mem} {k q:Option Nat} {xs:List au} {v:aqX} {b:Nat} {cs:List aqX} {t:aq4}
theorem c6.same (h:c6 T z e m k xs v) (s:e5 m m' q) (eD:ei (cp v) q):c6 T z e m' k xs v:=⟨h.bf.same s eD,h.fresh⟩
theorem ie.same (h:ie z e m k b cs t) (s:e5 m m' q) (eD:ei (aqV b) q):ie z e m' k b cs t:=by
 have:=ag3 h.aG h.lt s (eD b rfl);exact ⟨this.1,this.2,h.dead,h.fresh⟩
theorem c6.lt (h:c6 T z e m k xs v):∀b,cp v=aqV b->b<m.next:=fun b aa=>(h.bf.lt b aa).1
theorem c6.U7 (h:c6 T z e m k xs v):∀b,cp v=aqV b->b<m.next/\(m.aG b).mem=m.aG b:=fun b aa=>⟨h.lt b aa,by
 rcases h.bf with ⟨rfl,_⟩|⟨b6,o,L,c,rfl,h1,_⟩
 ·cases aa
 ·cases aa;rw[h1];rfl⟩
theorem eG.ic (h:eG T z m xs v) (aF:et z z') (aa:∀b,cp v=aqV b->z' b=z b):eG T z' m xs v:=by
 rcases h with h|⟨b,f0,L,c,rfl,h1,J,aj,aM,bq,dv⟩
 ·exact .inl h
 ·refine .inr ⟨b,f0,L,c,rfl,h1,J,by rw[aa b rfl];exact aj,aM,bq,fun i x ae=> ?_⟩;obtain ⟨cs,g1,g2⟩:=dv i x ae;exact ⟨cs,T.mono _ _ aF _ _ g1,g2⟩
theorem c6.ic (h:c6 T z e m k xs v) (aF:et z z') (aa:∀b,cp v=aqV b->z' b=z b):c6 T z' e m k xs v:=⟨h.bf.ic aF aa,h.fresh⟩
theorem ie.ic (h:ie z e m k b cs t) (aa:∀c,aqV b=aqV c->z' c=z c):ie z' e m k b cs t:=⟨h.aG,h.lt,by rw[aa b rfl];exact h.dead,h.fresh⟩
theorem c6.freeze (h:c6 T z e m k xs v) (aO:cL z e m k):∃z',cT e.next z z'/\cL z' e m k/\er T z' xs v/\∀p,ei p (cp v)->∀b,p=aqV b->z' b=z b:=by
 refine ⟨il z m (cp v),⟨Db fun b aa=>(h.bf.lt b aa).2,fun b aa=> ?_⟩,⟨Hm aO.bg h.U7,aO.dead,aO.lR,aO.next,aO.kept⟩,h.bf.anP,fun p ap b aa=> ?_⟩
 ·unfold il;rw[if_neg];intro cu;have:=h.fresh b cu;omega
 ·unfold il;rw[if_neg (ap b aa)]
theorem ie.aJ (h:ie z e m k b cs t):∀c,aqV b=aqV c->z c= .dead/\(e.next<=c\/k=aqV c):=fun c ab=>by cases ab;exact ⟨h.dead,h.fresh⟩
theorem c6.aJ (h:c6 T z e m k xs v):∀c,cp v=aqV c->z c= .dead/\(e.next<=c\/k=aqV c):=fun c ab=>⟨(h.bf.lt c ab).2, .inl (h.fresh c ab)⟩
theorem c6.nil:c6 T z e m k [] (.slice aqY 0 0):=⟨.nil,fun b aa=>by cases aa⟩
variable {P:aq1} {C:FuncId->Array aqX->Mem->aqX->Mem->Prop} {af:aq3->aqX} {o:Oper} {w:aqX} {bi:List au} {x y:aq3} {u:aq4} {i:TypeInfo}
theorem aht (h:o.op= .call {callee:= .builtin .append,args:=#[x,y],argTypes:=#[t,u]}) (ao:P.underlying t=aqV (.slice T.tid)) (ae:P.info? T.tid=aqV i) {ca:aqX} (hi:i.zero=aqV ca) (cg:ca.cells.toList.all cx=aqW) (dp:ca.cells.size=i.size)
  (bE:i.size=T.a1) (dQ:0<T.a1) (fZ:i.bytes<=32768) (hu:(∃bx,P.underlying u=aqV (.slice bx))\/P.underlying u=aqV .string) (U:af x=v) (ay:c6 T z e m k xs v) (ag:af y=w) (lq:Src T z m bi w)
  (aO:cL z e m k) {r:List au} (an:dP xs bi=aqV r):
  ∃bl m',gF P C af o m bl m'/\cL z e m' k/\c6 T z e m' k r bl/\e5 m m' (cp v)/\∀p,(∀b,p=aqV b->b<m.next)->ei p (cp v)->ei p (cp bl):=by
 obtain ⟨bl,m',h1,J,aj,aM⟩:=ahl (C:=C) h ao ae hi cg dp bE dQ fZ hu U ay.bf ag lq aO.bg aO.dead an;refine ⟨bl,m',h1,aO.same aj ay.aJ,⟨J,fun b aa=> ?_⟩,aj,fun p ap aq b aa cu=> ?_⟩
 ·rcases aM b aa with aM|aM
  ·exact ay.fresh b aM
  ·have:=aO.next;omega
 ·rcases aM b cu with aM|aM
  ·exact aq b aa aM
  ·have:=ap b aa;omega
theorem E1 {L:List aqX} {bl:aqX} {bi:List au} (aO:cL z e m k) (h:eG T z (m.push (.own L t)) bi bl) (aa:cp bl=aqV m.next):
  cL z e (m.push (.own L t)) k/\c6 T z e (m.push (.own L t)) k bi bl/\e5 m (m.push (.own L t)) aqY/\∀p,(∀b,p=aqV b->b<m.next)->ei p (cp bl):=
 ⟨aO.push _,⟨h,fun b cu=>by rw[aa] at cu;cases cu;exact aO.next⟩,Cz aO.dead,fun p ap b cu nV=>by rw[aa] at nV;cases nV;have:=ap _ cu;omega⟩
theorem amU {x0:au} {bs bC:aq2} {n:Int} (h:o.op= .makeSlice t x y) (ao:P.underlying t=aqV (.slice T.tid)) (ae:P.info? T.tid=aqV i) {ca:aqX} (hi:i.zero=aqV ca) (cg:ca.cells.toList.all cx=aqW) (dp:ca.cells.size=i.size) (bE:i.size=T.a1) (fZ:i.bytes<=32768)
  (dG:T.rd z x0 ca.cells.toList) (U:af x= .int bs n) (ag:af y= .int bC n) (aO:cL z e m k) {r:List au} (an:l1 x0 n=aqV r):
  ∃bl m' L c7,h0 P af o m.next (.own L c7) bl/\m'=m.push (.own L c7)/\cL z e m' k/\c6 T z e m' k r bl/\e5 m m' aqY/\∀p,(∀b,p=aqV b->b<m.next)->ei p (cp bl):=by
 obtain ⟨L,bl,h1,J,aj⟩:=ana (n':=n) h ao ae hi cg dp bE fZ dG U ag aO.bg an;exact ⟨bl,_,_,_,h1,rfl,E1 aO J aj⟩
theorem aiv {bK:Array (Nat×aq3)} {l:Nat} {as:List au} {ih:List (List aqX)} (h:o.op= .buildSlice t l bK) (ao:P.underlying t=aqV (.slice T.tid)) (ae:P.info? T.tid=aqV i) {ca:aqX} (hi:i.zero=aqV ca) (cg:ca.cells.toList.all cx=aqW) (dp:ca.cells.size=i.size) (bE:i.size=T.a1)
  (ah:as.length=l) (rK:l*T.a1<=16777216) (rT:l<9223372036854775808) (aa:wL T z af bK.toList 0 as ih) (aO:cL z e m k):
  ∃bl m' L c7,h0 P af o m.next (.own L c7) bl/\m'=m.push (.own L c7)/\cL z e m' k/\c6 T z e m' k as bl/\e5 m m' aqY/\∀p,(∀b,p=aqV b->b<m.next)->ei p (cp bl):=by
 obtain ⟨L,bl,h1,J,aj⟩:=aip h ao ae hi cg dp bE ah rK rT aa aO.bg;exact ⟨bl,_,_,_,h1,rfl,E1 aO J aj⟩
theorem aiw {s:List UInt8} {tid:aq4} (h:o.op= .convert u t x) (hu:P.underlying u=aqV .string) (ao:P.underlying t=aqV (.slice tid)) (he:P.underlying tid=aqV (.int .u8)) (ae:P.info? tid=aqV i) (hg:i.size=1) (U:af x=str s) (ah:s.length<9223372036854775807) (aO:cL z e m k):
  ∃bl m' L c7,h0 P af o m.next (.own L c7) bl/\m'=m.push (.own L c7)/\cL z e m' k/\c6 (kq tid) z e m' k s bl/\e5 m m' aqY/\∀p,(∀b,p=aqV b->b<m.next)->ei p (cp bl):=by
 obtain ⟨L,bl,h1,J,aj⟩:=ajf h hu ao he ae hg U ah aO.bg;exact ⟨bl,_,_,_,h1,rfl,E1 aO J aj⟩
theorem O8 {L:List aqX} (aO:cL z e m k):cL z e (m.push (.own L t)) k/\ie z e (m.push (.own L t)) k m.next L t/\e5 m (m.push (.own L t)) aqY/\∀p,(∀b,p=aqV b->b<m.next)->ei p (aqV m.next):=by
 refine ⟨aO.push _,⟨by simp[Mem.push],arU _, ?_, .inl aO.next⟩,Cz aO.dead,fun p ap b cu nV=>by cases nV;have:=ap _ cu;omega⟩;cases gb:z m.next with
 |dead=>rfl
 |ro rd=>have:=(aO.bg m.next (by rw[gb];simp)).2;omega
 |own L t=>have:=(aO.bg m.next (by rw[gb];simp)).2;omega
 |map L t=>have:=(aO.bg m.next (by rw[gb];simp)).2;omega
 |lock _ _ _ _=>have:=(aO.bg m.next (by rw[gb];simp)).2;omega
theorem aaR {off:Nat} {new cs':List aqX} {fR:aq4} (h:o.op= .store t x y) (ae:P.info? t=aqV i) (U:af x= .pointer (aqV ⟨b,off,aqY⟩)) (ag:af y=w) (ad:storable w=aqW) (ar:w.cells.toList=new) (ay:new.length=i.size) (aa:ie z e m k b cs fR) (ah:off+new.length<=cs.length) (hC:eU cs off new=cs') (aO:cL z e m k):
  ∃m',gF P C af o m undef m'/\cL z e m' k/\ie z e m' k b cs' fR/\e5 m m' (aqV b):=by
 subst ag hC;have kf:=CM (x:= .own (eU cs off new) fR) aO.dead aa.lt;exact ⟨_,(Ys h ae U aa.aG ad ar ay ah),aO.same kf aa.aJ,⟨by simp[Mem.put],aa.lt,aa.dead,aa.fresh⟩,kf⟩
theorem aaS {off f0 n f l c:Nat} {new rH Bh:List aqX} {a a':au} (h:o.op= .store t x y) (ae:P.info? t=aqV i) (U:af x= .pointer (aqV ⟨b,off,aqY⟩)) (n0:off=f0+n*T.a1+f) (ag:af y=w) (ad:storable w=aqW) (ar:w.cells.toList=new) (ay:new.length=i.size)
  (ai:c6 T z e m k xs v) (pW:v= .slice (aqV ⟨b,f0,aqY⟩) l c) (aq:xs[n]? =aqV a) (an:T.rd z a rH) (ab:∀(i:Nat) (u:aqX),rH[i]? =aqV u->m.load b (f0+n*T.a1+i)=aqV u) (nj:T.rd z a' Bh) (hC:Bh=eU rH f new) (aP:f+new.length<=rH.length) (aO:cL z e m k):
  ∃m',gF P C af o m undef m'/\cL z e m' k/\c6 T z e m' k (xs.set n a') v/\e5 m m' (cp v):=by
 subst ag n0;obtain ⟨L,g1,g2,g3,g4⟩:=ai.bf.store aO.dead pW aq an ⟨b,_,rfl,ab⟩ nj hC aP;have hB:cp v=aqV b:=by rw[pW];rfl
 refine ⟨_,(Ys h ae U g1 ad ar ay g2),aO.same g4 (by rw[<-hB];exact ai.aJ),⟨g3,ai.fresh⟩,by rw[hB];exact g4⟩
theorem amT {bs:aq2} {n:Int} {a:au} {fR:aq4} (h:o.op= .indexAddr t x y) (ao:P.underlying t=aqV (.slice fR)) (ae:P.info? fR=aqV i) (bE:i.size=T.a1) (U:af x=v) (ag:af y= .int bs n) (ay:er T z xs v) (aH:aR xs n=aqV a):
  ∃b off cs,cP P af o (.pointer (aqV ⟨b,off,aqY⟩))/\T.rd z a cs/\nw z b off cs:=by
 obtain ⟨p,cs,h1,J,b,off,rfl,aj⟩:=amx h ao ae bE U ag ay aH;exact ⟨b,off,cs,h1,J,aj⟩
theorem amS {bs:aq2} {n:Int} {a:au} {fR:aq4} (h:o.op= .indexAddr t x y) (ao:P.underlying t=aqV (.slice fR)) (ae:P.info? fR=aqV i) (bE:i.size=T.a1) (U:af x=v) (ag:af y= .int bs n) (ay:c6 T z e m k xs v) (aH:aR xs n=aqV a):
  ∃b f0 l c cs,cP P af o (.pointer (aqV ⟨b,f0+n.toNat*T.a1,aqY⟩))/\v= .slice (aqV ⟨b,f0,aqY⟩) l c/\T.rd z a cs/\∀(j:Nat) (u:aqX),cs[j]? =aqV u->m.load b (f0+n.toNat*T.a1+j)=aqV u:=by
 obtain ⟨p,cs,h1,J,aj,b,f0,l,c,rfl,rfl⟩:=amw h ao ae bE U ag ay.bf aH;obtain ⟨gj,gW,aM,bq⟩:=aj;cases aM;exact ⟨b,f0,l,c,cs,h1,rfl,J,bq⟩
theorem O9 {n:Nat} {bc:Array Field} {f:Field} {off:Nat} (h:o.op= .fieldAddr t x n) (ao:P.underlying t=aqV (.struct bc)) (aP:bc[n]? =aqV f) (ae:P.info? f.type=aqV i) (ay:(i.size==0)=aqZ) (U:af x= .pointer (aqV ⟨b,off,aqY⟩)):
  cP P af o (.pointer (aqV ⟨b,off+f.offset,aqY⟩)):= .fieldAddr t x n bc f i b off h ao aP ae (by intro aI;rw[aI] at ay;cases ay) U
theorem YV {off:Nat} {d:TypeDesc} (h:o.op= .load t x) (ao:P.underlying t=aqV d) (aB:jL d=aqZ) (U:af x= .pointer (aqV ⟨b,off,aqY⟩)) (ad:m.load b off=aqV v):eT P af o m v:= .load t x b off d v h U ao aB ad
theorem aix {off:Nat} {d:TypeDesc} (h:o.op= .load t x) (ao:P.underlying t=aqV d) (aB:jL d=aqW) (ae:P.info? t=aqV i) (ay:cs.length=i.size) (U:af x= .pointer (aqV ⟨b,off,aqY⟩)) (ad:∀(j:Nat) (u:aqX),cs[j]? =aqV u->m.load b (off+j)=aqV u):eT P af o m (.agg cs.toArray):=
 .wj t x b off d i cs h U ao aB ae (Hj _ _ _ ay ad)
theorem ie.load (h:ie z e m k b cs t) {off:Nat} (ad:cs[off]? =aqV v):m.load b off=aqV v:=by simp only[Mem.load,h.aG];exact ad
theorem ie.r5 (h:ie z e m k b cs t):∀(j:Nat) (u:aqX),cs[j]? =aqV u->m.load b (0+j)=aqV u:=fun j u av=>by rw[arh];exact h.load av
theorem cL.r5 (aO:cL z e m k) {off:Nat} (h:nw z b off cs):∀(j:Nat) (u:aqX),cs[j]? =aqV u->m.load b (off+j)=aqV u:=fun j u av=>Xp aO.bg (h j u av)
end
theorem W1 {args:Array aqX} {n i:Nat} {v:aqX} (h:args.toList[i]? =aqV v):(args++Array.replicate n undef).getD i undef=v:=by
 have h1:args[i]? =aqV v:=by rw[<-as4];exact h
 have aN:=(ar9.1 h1).1;rw[Array.getD_eq_getD_getElem?,Array.getElem?_append_left aN,h1];rfl
theorem agP {n:Nat} {v:aqX} (h:flat v=aqW):low n v:=Oq h
theorem hx.flat {P:aq1} {f:FuncId} {fn:Func} {c:Code} {args:Array aqX} {z:Nat->a6} {m:Mem} {r:aqX} (aP:P.funcs[f]? =aqV fn) (aa:fn.body=aqV c) (dw:mA P f=aqW) (bE:args.size<=fn.ntmps) (an:aS.flat r=aqW)
  (h:∀fr,(∀i v,args.toList[i]? =aqV v->fr i=v)->W P c (fun e fr m1=>(e= .normal\/e= .ret)/\∃z',cL z' m m1 aqY/\∃vs,pf P fr m1 fn.results.toList vs/\(vs.length=1\/∀x∈vs,storable x=aqW)/\pack vs=r) fr m):hx P f args m fun v m'=>v=r/\m'=m:=by
 refine hx.enter aP aa dw bE ((h _ fun i v ae=>W1 ae).mono ?_);rintro e fr m1 ⟨he,z',aO,vs,h1,J,aj⟩;refine ⟨he,vs,h1,J, .inr ⟨⟨aj,aO.anQ⟩,by rw[aj];exact agP an,fun b aa=> .inl (aO.kept b aa (by simp))⟩⟩
theorem hx.any {P:aq1} {f:FuncId} {fn:Func} {c:Code} {args:Array aqX} {m:Mem} {R:aqX->Mem->Prop} (aP:P.funcs[f]? =aqV fn) (aa:fn.body=aqV c) (dw:mA P f=aqW) (bE:args.size<=fn.ntmps)
  (h:∀fr,(∀i v,args.toList[i]? =aqV v->fr i=v)->W P c (fun e fr m1=>(e= .normal\/e= .ret)/\∃vs,pf P fr m1 fn.results.toList vs/\(vs.length=1\/∀x∈vs,storable x=aqW)/\R (pack vs) m1) fr m):hx P f args m R:=by
 refine hx.enter aP aa dw bE ((h _ fun i v ae=>W1 ae).mono ?_);rintro e fr m1 ⟨he,vs,h1,J,aj⟩;exact ⟨he,vs,h1,J, .inl aj⟩
end Go.aS
end
section
namespace Go.aS
inductive Tag where
 |pure
 |read (I:Mem->Prop)
 |new
 |e7
def bZ (P:aq1) (af:aq3->aqX) (o:Oper) (m:Mem) (D:Tag->aqX->Mem->Prop):Prop:=
 (∃v,cP P af o v/\D .pure v m)\/(∃v I,cP P af o v/\D (.read I) v m)\/(∃v,eT P af o m v/\D (.read fun m=>eT P af o m v) v m)\/
 (∃X v,h0 P af o m.next X v/\D .new v (m.push X))\/(∃n v m',gF P (h7 P n) af o m v m'/\D .e7 v m')
section
variable {P:aq1} {af:aq3->aqX} {o:Oper} {m:Mem} {D:Tag->aqX->Mem->Prop} {K:aqX->Mem->Prop}
theorem bZ.pure {v:aqX} (h:cP P af o v) (hk:D .pure v m):bZ P af o m D:= .inl ⟨v,h,hk⟩
theorem bZ.Vt {v:aqX} {I:Mem->Prop} (h:cP P af o v) (hk:D (.read I) v m):bZ P af o m D:= .inr (.inl ⟨v,I,h,hk⟩)
theorem bZ.read {v:aqX} (h:eT P af o m v) (hk:D (.read fun m=>eT P af o m v) v m):bZ P af o m D:= .inr (.inr (.inl ⟨v,h,hk⟩))
theorem bZ.new {v:aqX} {X:a6} (h:h0 P af o m.next X v) (hk:D .new v (m.push X)):bZ P af o m D:= .inr (.inr (.inr (.inl ⟨X,v,h,hk⟩)))
theorem bZ.e7 {n:Nat} {v:aqX} {m':Mem} (h:gF P (h7 P n) af o m v m') (hk:D .e7 v m'):bZ P af o m D:= .inr (.inr (.inr (.inr ⟨n,v,m',h,hk⟩)))
theorem bZ.w (h:bZ P af o m fun _=>K):mj P af o m K:=by
 rcases h with ⟨v,h,hk⟩|⟨v,I,h,hk⟩|⟨v,h,hk⟩|⟨X,v,h,hk⟩|⟨n,v,m',h,hk⟩
 ·exact mj.pure h hk
 ·exact mj.pure h hk
 ·exact mj.read h hk
 ·exact mj.new h hk
 ·exact mj.e7 h hk
theorem bZ.call {f:FuncId} {args:Array aqX} (ab:callee o af f args) (h:hx P f args m (D .e7)):bZ P af o m D:=by
 obtain ⟨n,v,m',h1,J⟩:=h;exact .e7 (.call f args v m' ab h1) J
end
theorem zl {P:aq1} {C:FuncId->Array aqX->Mem->aqX->Mem->Prop} {ops:List Oper} {B:Array Nat}:∀(l:List Oper) (i:Nat) (A hl:Acc) (fr fr':Nat->aqX) (m m':Mem),(∀x∈hl.reads,x∈A.reads)->(∀x∈hl.gN,x∈A.gN)->(∀x∈hl.news,x∈A.news)->gw P C ops B i l A fr m fr' m'->gw P C ops B i l hl fr m fr' m'
 |[],i,A,hl,fr,fr',m,m',_,_,_,h=>h
 |o::l,i,A,hl,fr,fr',m,m',h1,J,aj,h=>by
  simp only[gw] at h⊢;split at h
  ·rename_i hw;rw[if_pos hw];rcases h with ⟨v,ap,aB⟩|⟨v,ap,ai,aB⟩|⟨X,v,ap,aB⟩|⟨v,m1,ap,g1,g2,aB⟩
   ·exact .inl ⟨v,ap,zl l _ _ _ _ _ _ _ h1 J aj aB⟩
   ·refine .inr (.inl ⟨v,ap,fun x U=>ai x (J x U),zl l _ {A with reads:=_::A.reads} _ _ _ _ _ (fun x U=> ?_) J aj aB⟩);rcases arb.1 U with rfl|U
    ·exact arp
    ·exact ark _ (h1 x U)
   ·refine .inr (.inr (.inl ⟨X,v,ap,zl l _ {A with news:=_::A.news} _ _ _ _ _ h1 J (fun x U=> ?_) aB⟩));rcases arb.1 U with rfl|U
    ·exact arp
    ·exact ark _ (aj x U)
   ·refine .inr (.inr (.inr ⟨v,m1,ap,fun x U=>g1 x (h1 x U),fun x U=>g2 x (aj x U),zl l _ {A with gN:=_::A.gN} _ _ _ _ _ h1 (fun x U=> ?_) aj aB⟩));rcases arb.1 U with rfl|U
    ·exact arp
    ·exact ark _ (J x U)
  ·rename_i hw;rw[if_neg hw];exact zl l _ _ _ _ _ _ _ h1 J aj h
def ue (B:Array Nat) (i:Nat) (A:Acc) (m:Mem):Tag->Mem->Prop
 | .pure,_=>True
 | .read I,_=>∀x∈A.gN,fi B i x.1=aqZ->I x.2
 | .new,_=>True
 | .e7,m1=>(∀x∈A.reads,fi B i x.1=aqZ->x.2 m1)/\∀x∈A.news,fi B i x.1=aqZ->m1.aG x.2=m.aG x.2
def pK (A:Acc) (i:Nat) (m:Mem):Tag->Acc
 | .pure=>A
 | .read I=>{A with reads:=(i,I)::A.reads}
 | .new=>{A with news:=(i,m.next)::A.news}
 | .e7=>{A with gN:=(i,m)::A.gN}
section
variable {P:aq1} {ops l:List Oper} {B:Array Nat} {i:Nat} {A:Acc} {K:(Nat->aqX)->Mem->Prop} {fr:Nat->aqX} {m:Mem} {o:Oper}
theorem fv.JT (aH:wanted ops fr o=aqW) (h:bZ P (aK fr) o m fun _ v m1=>fv P ops l K (set fr o.dst v) m1):fv P ops (o::l) K fr m:=fv.cons aH h.w
theorem gq.cons (aH:wanted ops fr o=aqW) (h:bZ P (aK fr) o m fun t v m1=>ue B i A m t m1/\gq P ops B (i+1) l (pK A i m t) K (set fr o.dst v) m1):gq P ops B i (o::l) A K fr m:=by
 have up:∀{n n':Nat} (_:n<=n') {l:List Oper} {i:Nat} {A:Acc} {fr fr':Nat->aqX} {m m':Mem},gw P (h7 P n) ops B i l A fr m fr' m'->gw P (h7 P n') ops B i l A fr m fr' m':=fun ar=>ui (wF _ _ ar) _ _ _ _ _ _ _;rcases h with ⟨v,h,_,n,fr',m',h1,J⟩|⟨v,I,h,_,n,fr',m',h1,J⟩|⟨v,h,ai,n,fr',m',h1,J⟩|⟨X,v,h,_,n,fr',m',h1,J⟩|⟨eb,v,m1,h,ai,n,fr',m',h1,J⟩
 ·refine ⟨n,fr',m', ?_,J⟩;simp only[gw];rw[if_pos aH];exact .inl ⟨v,h,h1⟩
 ·refine ⟨n,fr',m', ?_,J⟩;simp only[gw];rw[if_pos aH];exact .inl ⟨v,h,zl _ _ {A with reads:=(i,I)::A.reads} A _ _ _ _ (fun x U=>ark _ U) (fun x U=>U) (fun x U=>U) h1⟩
 ·refine ⟨n,fr',m', ?_,J⟩;simp only[gw];rw[if_pos aH];exact .inr (.inl ⟨v,h,ai,h1⟩)
 ·refine ⟨n,fr',m', ?_,J⟩;simp only[gw];rw[if_pos aH];exact .inr (.inr (.inl ⟨X,v,h,h1⟩))
 ·refine ⟨max eb n,fr',m', ?_,J⟩;simp only[gw];rw[if_pos aH];exact .inr (.inr (.inr ⟨v,m1,h.mono (wF _ _ (Nat.le_max_left _ _)),ai.1,ai.2,up (Nat.le_max_right _ _) h1⟩))
theorem gq.skip (aH:wanted ops fr o=aqZ) (h:gq P ops B (i+1) l A K (set fr o.dst undef) m):gq P ops B i (o::l) A K fr m:=by
 obtain ⟨n,fr',m',h1,J⟩:=h;refine ⟨n,fr',m', ?_,J⟩;simp only[gw];rw[if_neg (by simp[aH])];exact h1
theorem gq.done (h:∀fr',fr'=fr->K fr' m):gq P ops B i [] A K fr m:=⟨0,_,_,⟨rfl,rfl⟩,h _ rfl⟩
end
theorem amO {P:aq1} {af:aq3->aqX} {o:Oper} {au:Type} {T:cf au} {z:Nat->a6} {xs:List au} {v:aqX} {x:aq3} {t:aq4} {i:TypeInfo} {bG ae:Option aq3} {a b:Int} {r:List au} (h:o.op= .slice t x bG ae aqY) (ao:P.underlying t=aqV (.slice T.tid)) (dY:P.info? T.tid=aqV i) (bE:i.size=T.a1) (U:af x=v)
  (e0:yZ af bG a) (ef:zK af ae xs.length b) (ay:er T z xs v) (an:fX xs a b=aqV r):
  ∃bl,(cP P af o bl\/∀m,j5 z m->eT P af o m bl)/\er T z r bl:=by
 obtain ⟨aI,h1,J,rfl⟩:=NN an;obtain ⟨a',rfl⟩:=arI aI;obtain ⟨b6,rfl⟩:=arI (Int.le_trans aI h1);have jh:a'<=b6:=by omega
 have gk:b6<=xs.length:=by omega
 simp only[ar0];have Mc:=Ha e0;have L5:=GG ef;have hlen:((xs.take b6).drop a').length=b6 - a':=by simp;omega
 rcases ay with ⟨rfl,rfl⟩|⟨yf,off,c,rfl,Fw,ka,h5⟩
 ·have h4:b6=0:=by simpa using gk
  subst h4;have abv:a'=0:=by omega
  subst abv;exact ⟨.slice aqY 0 0, .inl (.lJ t x bG ae T.tid i h ao dY U Mc L5), .inl ⟨rfl,by simp⟩⟩
 ·have Ue:∀o',o'=off+a'*T.a1->∀(k:Nat) (w:au),((xs.take b6).drop a')[k]? =aqV w->∃cs,T.rd z w cs/\nw z yf (o'+k*T.a1) cs:=by
   intro o' iq k w hk;obtain ⟨cs,g1,g2⟩:=h5 _ w (G7 hk);refine ⟨cs,g1, ?_⟩;rw[iq,arD,<-art];exact g2
  rcases ka with ⟨rfl,L,cC,tL⟩|⟨ab,hle⟩
  ·refine ⟨_, .inr fun m aF=>(.slice t x bG ae T.tid i L yf off xs.length a' b6 h ao dY U ?_ Mc L5 jh gk (by rw[bE];exact tL)), ?_⟩
   ·rw[(aF.fJ Fw).1];exact cC
   ·refine .inr ⟨yf,off+a'*T.a1,dr,by rw[hlen,bE],Fw, .inl ⟨rfl,L,cC, ?_⟩,Ue _ rfl⟩;rw[hlen,arD,<-art];have:(a'+(b6 - a'))*T.a1<=xs.length*T.a1:=asf _ (by omega);omega
  ·refine ⟨_, .inl (.slice t x bG ae T.tid i yf off xs.length c a' b6 h ao dY U (by simp only[dr] at ab⊢;omega) Mc L5 jh (by omega) (fun _=>trivial)), ?_⟩;by_cases jQ:c=a'
   ·have TR:b6 - a'=0:=by omega
    refine .inr ⟨yf,off,c - a',by simp[jQ,hlen,TR],Fw, .inr ⟨by omega,by rw[hlen];omega⟩,fun k w hk=> ?_⟩;have aN:=(aq5.1 hk).1;omega
   ·refine .inr ⟨yf,off+a'*T.a1,c - a',by rw[if_neg jQ,hlen,bE],Fw, .inr ⟨by omega,by rw[hlen];omega⟩,Ue _ rfl⟩
section
variable {au:Type} {T:cf au} {z z':Nat->a6} {e m m':Mem} {k q:Option Nat} {xs:List au} {v:aqX} {b:Nat} {cs:List aqX} {t:aq4}
variable {P:aq1} {af:aq3->aqX} {o:Oper} {w:aqX} {bi:List au} {x y:aq3} {u:aq4} {i:TypeInfo} {K:aqX->Mem->Prop} {D:Tag->aqX->Mem->Prop}
theorem G9 (h:o.op= .call {callee:= .builtin .append,args:=#[x,y],argTypes:=#[t,u]}) (ao:P.underlying t=aqV (.slice T.tid)) (ae:P.info? T.tid=aqV i) {ca:aqX} (hi:i.zero=aqV ca) (cg:ca.cells.toList.all cx=aqW) (dp:ca.cells.size=i.size)
  (bE:i.size=T.a1) (dQ:(T.a1==0)=aqZ) (fZ:arz i.bytes 32768=aqW) (hu:(∃bx,P.underlying u=aqV (.slice bx))\/P.underlying u=aqV .string) (U:af x=v) (ay:c6 T z e m k xs v) (ag:af y=w) (lq:Src T z m bi w)
  (aO:cL z e m k) {r:List au} (an:dP xs bi=aqV r)
  (hk:∀bl m',cL z e m' k->c6 T z e m' k r bl->e5 m m' (cp v)->(∀p,(∀b,p=aqV b->b<m.next)->ei p (cp v)->ei p (cp bl))->D .e7 bl m'):bZ P af o m D:=by
 obtain ⟨bl,m',h1,J,aj,aM,bq⟩:=aht (C:=h7 P 0) h ao ae hi cg dp bE (by
  rcases atD T.a1 with aI|aI;·rw[aI] at dQ;cases dQ
  ·exact aI) (asg fZ) hu U ay ag lq aO an
 exact bZ.e7 h1 (hk _ _ J aj aM bq)
theorem YZ {x0:au} {bs bC:aq2} {n:Int} (h:o.op= .makeSlice t x y) (ao:P.underlying t=aqV (.slice T.tid)) (ae:P.info? T.tid=aqV i) {ca:aqX} (hi:i.zero=aqV ca) (cg:ca.cells.toList.all cx=aqW) (dp:ca.cells.size=i.size) (bE:i.size=T.a1) (fZ:arz i.bytes 32768=aqW)
  (dG:T.rd z x0 ca.cells.toList) (U:af x= .int bs n) (ag:af y= .int bC n) (aO:cL z e m k) {r:List au} (an:l1 x0 n=aqV r)
  (hk:∀bl m',cL z e m' k->c6 T z e m' k r bl->e5 m m' aqY->(∀p,(∀b,p=aqV b->b<m.next)->ei p (cp bl))->D .new bl m'):bZ P af o m D:=by
 obtain ⟨bl,m',L,c7,h1,rfl,J,aj,aM,bq⟩:=amU h ao ae hi cg dp bE (asg fZ) dG U ag aO an;exact bZ.new h1 (hk _ _ J aj aM bq)
theorem Pq {bK:Array (Nat×aq3)} {l:Nat} (h:o.op= .buildSlice t l bK) (ao:P.underlying t=aqV (.slice T.tid)) (ae:P.info? T.tid=aqV i) {ca:aqX} (hi:i.zero=aqV ca) (cg:ca.cells.toList.all cx=aqW) (dp:ca.cells.size=i.size) (bE:i.size=T.a1)
  (as:List au) (ih:List (List aqX)) (ah:as.length=l) (rK:arz (l*T.a1) 16777216=aqW) (rT:ass l 9223372036854775808=aqW) (aa:wL T z af bK.toList 0 as ih) (aO:cL z e m k)
  (hk:∀bl m',cL z e m' k->c6 T z e m' k as bl->e5 m m' aqY->(∀p,(∀b,p=aqV b->b<m.next)->ei p (cp bl))->D .new bl m'):bZ P af o m D:=by
 obtain ⟨bl,m',L,c7,h1,rfl,J,aj,aM,bq⟩:=aiv h ao ae hi cg dp bE ah (asg rK) (by have:=rT;simp[ass] at this;omega) aa aO;exact bZ.new h1 (hk _ _ J aj aM bq)
theorem aiH {s:List UInt8} {tid:aq4} (h:o.op= .convert u t x) (hu:P.underlying u=aqV .string) (ao:P.underlying t=aqV (.slice tid)) (he:P.underlying tid=aqV (.int .u8)) (ae:P.info? tid=aqV i) (hg:i.size=1) (U:af x=str s) {b1:List UInt8} (ah:dP s []=aqV b1) (aO:cL z e m k)
  (hk:∀bl m',cL z e m' k->c6 (kq tid) z e m' k b1 bl->e5 m m' aqY->(∀p,(∀b,p=aqV b->b<m.next)->ei p (cp bl))->D .new bl m'):bZ P af o m D:=by
 obtain ⟨kV,rfl⟩:=sf ah;rw[asA] at hk;obtain ⟨bl,m',L,c7,h1,rfl,J,aj,aM,bq⟩:=aiw h hu ao he ae hg U (by simp only[mg,asV] at kV;omega) aO;exact bZ.new h1 (hk _ _ J aj aM bq)
theorem U3 {off:Nat} {new:List aqX} {fR:aq4} (h:o.op= .store t x y) (ae:P.info? t=aqV i) (U:af x= .pointer (aqV ⟨b,off,aqY⟩)) (ag:af y=w) (ad:storable w=aqW) (ar:w.cells.toList=new) (ay:new.length=i.size) (aa:ie z e m k b cs fR) (ah:arz (off+new.length) cs.length=aqW) (cs':List aqX) (hC:eU cs off new=cs') (aO:cL z e m k)
  (hk:∀m',cL z e m' k->ie z e m' k b cs' fR->e5 m m' (aqV b)->D .e7 undef m'):bZ P af o m D:=by
 obtain ⟨m',h1,J,aj,aM⟩:=aaR (C:=h7 P 0) h ae U ag ad ar ay aa (asg ah) hC aO;exact bZ.e7 h1 (hk _ J aj aM)
theorem FQ {off f0 n f l c:Nat} {new rH Bh:List aqX} {a a':au} (h:o.op= .store t x y) (ae:P.info? t=aqV i) (U:af x= .pointer (aqV ⟨b,off,aqY⟩)) (n0:off=f0+n*T.a1+f) (ag:af y=w) (ad:storable w=aqW) (ar:w.cells.toList=new) (ay:new.length=i.size)
  (ai:c6 T z e m k xs v) (pW:v= .slice (aqV ⟨b,f0,aqY⟩) l c) (aq:xs[n]? =aqV a) (an:T.rd z a rH) (ab:∀(i:Nat) (u:aqX),rH[i]? =aqV u->m.load b (f0+n*T.a1+i)=aqV u) (nj:T.rd z a' Bh) (hC:Bh=eU rH f new) (aP:arz (f+new.length) rH.length=aqW) (aO:cL z e m k)
  (hk:∀m',cL z e m' k->c6 T z e m' k (xs.set n a') v->e5 m m' (cp v)->D .e7 undef m'):bZ P af o m D:=by
 obtain ⟨m',h1,J,aj,aM⟩:=aaS (C:=h7 P 0) h ae U n0 ag ad ar ay ai pW aq an ab nj hC (asg aP) aO;exact bZ.e7 h1 (hk _ J aj aM)
theorem am3 {bs:aq2} {n:Int} {a:au} {fR:aq4} (h:o.op= .indexAddr t x y) (ao:P.underlying t=aqV (.slice fR)) (ae:P.info? fR=aqV i) (bE:i.size=T.a1) (U:af x=v) (ag:af y= .int bs n) (ay:er T z xs v) (aH:aR xs n=aqV a)
  (hk:∀b off cs,T.rd z a cs->nw z b off cs->D .pure (.pointer (aqV ⟨b,off,aqY⟩)) m):bZ P af o m D:=by
 obtain ⟨b,off,cs,h1,J,aj⟩:=amT h ao ae bE U ag ay aH;exact bZ.pure h1 (hk _ _ _ J aj)
theorem YY {bs:aq2} {n:Int} {a:au} {fR:aq4} (h:o.op= .indexAddr t x y) (ao:P.underlying t=aqV (.slice fR)) (ae:P.info? fR=aqV i) (bE:i.size=T.a1) (U:af x=v) (ag:af y= .int bs n) (ay:c6 T z e m k xs v) (aH:aR xs n=aqV a)
  (hk:∀b f0 l c cs,v= .slice (aqV ⟨b,f0,aqY⟩) l c->T.rd z a cs->xs[n.toNat]? =aqV a->(∀(j:Nat) (u:aqX),cs[j]? =aqV u->m.load b (f0+n.toNat*T.a1+j)=aqV u)->D .pure (.pointer (aqV ⟨b,f0+n.toNat*T.a1,aqY⟩)) m):bZ P af o m D:=by
 obtain ⟨b,f0,l,c,cs,h1,J,aj,aM⟩:=amS h ao ae bE U ag ay aH;exact bZ.pure h1 (hk _ _ _ _ _ J aj (pe aH).2.2 aM)
theorem adQ {bG ae:Option aq3} {a b:Int} {r:List au} (h:o.op= .slice t x bG ae aqY) (ao:P.underlying t=aqV (.slice T.tid)) (dY:P.info? T.tid=aqV i) (bE:i.size=T.a1) (U:af x=v)
  (e0:yZ af bG a) (ef:zK af ae xs.length b) (ay:er T z xs v) (aO:cL z e m k) (an:fX xs a b=aqV r) (hk:∀bl I,(∀m,j5 z m->I m)->er T z r bl->D (.read I) bl m):bZ P af o m D:=by
 obtain ⟨bl,h1,J⟩:=amO h ao dY bE U e0 ef ay an;rcases h1 with h1|h1
 ·exact bZ.Vt (I:=fun _=>True) h1 (hk _ _ (fun _ _=>trivial) J)
 ·exact bZ.read (h1 m aO.bg) (hk _ _ h1 J)
theorem am1 {s r:List UInt8} {bG ae:Option aq3} {a b:Int} (h:o.op= .slice t x bG ae aqY) (ao:P.underlying t=aqV .string) (U:af x=str s) (e0:yZ af bG a) (ef:zK af ae s.length b) (an:fX s a b=aqV r) (hk:D .pure (str r) m):bZ P af o m D:=by
 obtain ⟨aI,h1,J,rfl⟩:=NN an;obtain ⟨a',rfl⟩:=arI aI;obtain ⟨b6,rfl⟩:=arI (Int.le_trans aI h1);exact bZ.pure (ah' h ao U (Ha e0) (GG ef) (by omega) (by omega)) hk
theorem ag' {s:List UInt8} {c:UInt8} {bs:aq2} {n:Int} (h:o.op= .index t x y) (ao:P.underlying t=aqV .string) (U:af x=str s) (ag:af y= .int bs n) (aH:aR s n=aqV c) (hk:D .pure (.int .u8 c.toNat) m):bZ P af o m D:=by
 obtain ⟨aI,h1,J⟩:=pe aH;exact bZ.pure (ah9 h ao U ag aI J) hk
theorem am5 {s:List UInt8} {tid:aq4} (h:o.op= .convert t u x) (ao:P.underlying t=aqV (.slice tid)) (he:P.underlying tid=aqV (.int .u8)) (hu:P.underlying u=aqV .string) (U:af x=v) (ay:er (kq tid) z s v) (aO:cL z e m k) (hk:D (.read fun m=>eT P af o m (str s)) (str s) m):bZ P af o m D:=
 bZ.read (Zt h ao he hu U (ay.src aO.bg) (by obtain ⟨a,c,rfl⟩:=ay.len;exact ⟨_,_,_,rfl⟩)) hk
theorem am4 {s:List UInt8} {tid:aq4} (h:o.op= .convert t u x) (ao:P.underlying t=aqV (.slice tid)) (he:P.underlying tid=aqV (.int .u8)) (hu:P.underlying u=aqV .string) (U:af x=v) (ay:c6 (kq tid) z e m k s v) (hk:D (.read fun m=>eT P af o m (str s)) (str s) m):bZ P af o m D:=
 bZ.read (Zt h ao he hu U ay.bf.src (by obtain ⟨a,c,rfl⟩:=ay.bf.len;exact ⟨_,_,_,rfl⟩)) hk
theorem ag9 {bK:Array (Nat×aq3)} {bc:Array Field} {pl:List (Option (Nat×Nat))} {ca:aqX} (vs:List (Nat×aqX)) (cs:List aqX) (h:o.op= .build t bK) (ao:P.underlying t=aqV (.struct bc)) (ae:P.info? t=aqV i) (aF:i.zero=aqV ca) (cg:ca.cells.toList.all cx=aqW)
  (ni:qg P bc=pl) (ap:pl.all Option.isSome=aqW) (lZ:bK.toList.map (fun p=>(p.1,af p.2))=vs) (ab:jE (fun k=>(pl[k]?).join) ca.cells.toList vs=aqV cs) (hk:D .pure (.agg cs.toArray) m):bZ P af o m D:=by
 subst ni lZ;exact bZ.pure (.build t bK bc i ca cs h ao ae aF cg (by simpa[arc] using ap) ab) hk
variable {ops l:List Oper} {fr:Nat->aqX} {oI:(Nat->aqX)->Mem->Prop}
theorem fv.JS {j d:Nat} {want kQ:Bool} (aH:o.guard=aqV (j,want)) (aB:(ops[j]?).bind (·.dst)=aqV d) (ad:fr d= .bool kQ) (aa:kQ=want) (h:bZ P (aK fr) o m fun _ v m1=>fv P ops l oI (set fr o.dst v) m1):fv P ops (o::l) oI fr m:=
 fv.JT (by subst aa;simp[wanted,aH,aB,ad]) h
theorem fv.IA {j d:Nat} {want kQ:Bool} (aH:o.guard=aqV (j,want)) (aB:(ops[j]?).bind (·.dst)=aqV d) (ad:fr d= .bool kQ) (aa:kQ= !want) (h:fv P ops l oI (set fr o.dst undef) m):fv P ops (o::l) oI fr m:=
 fv.skip (by subst aa;simp[wanted,aH,aB,ad]) h
theorem fv.Qv {j d:Nat} {want:Bool} (aH:o.guard=aqV (j,want)) (aB:(ops[j]?).bind (·.dst)=aqV d) (ad:fr d=undef) (h:fv P ops l oI (set fr o.dst undef) m):fv P ops (o::l) oI fr m:=
 fv.skip (by simp[wanted,aH,aB,ad,undef]) h
theorem gq.JS {B:Array Nat} {n:Nat} {A:Acc} {j d:Nat} {want kQ:Bool} (aH:o.guard=aqV (j,want)) (aB:(ops[j]?).bind (·.dst)=aqV d) (ad:fr d= .bool kQ) (aa:kQ=want) (h:bZ P (aK fr) o m fun t v m1=>ue B n A m t m1/\gq P ops B (n+1) l (pK A n m t) oI (set fr o.dst v) m1):gq P ops B n (o::l) A oI fr m:=
 gq.cons (by subst aa;simp[wanted,aH,aB,ad]) h
theorem gq.IA {B:Array Nat} {n:Nat} {A:Acc} {j d:Nat} {want kQ:Bool} (aH:o.guard=aqV (j,want)) (aB:(ops[j]?).bind (·.dst)=aqV d) (ad:fr d= .bool kQ) (aa:kQ= !want) (h:gq P ops B (n+1) l A oI (set fr o.dst undef) m):gq P ops B n (o::l) A oI fr m:=
 gq.skip (by subst aa;simp[wanted,aH,aB,ad]) h
theorem gq.Qv {B:Array Nat} {n:Nat} {A:Acc} {j d:Nat} {want:Bool} (aH:o.guard=aqV (j,want)) (aB:(ops[j]?).bind (·.dst)=aqV d) (ad:fr d=undef) (h:gq P ops B (n+1) l A oI (set fr o.dst undef) m):gq P ops B n (o::l) A oI fr m:=
 gq.skip (by simp[wanted,aH,aB,ad,undef]) h
end
end Go.aS
end
section
namespace Go.aS
theorem VB {d:TypeDesc} {k:aqX} (hk:atO d k):∀(l:List MapEntry) (i:Nat),(∀x∈l,atO d x.key)->atP d k l i=aqV (kl k l i)
 |[],i,_=>rfl
 |e::es,i,h=>by
  obtain ⟨r,an,lk⟩:=MapKept.sameNow_of_keys hk (h e (.head _));have a8:=VB hk es (i+1) (fun x U=>h x (.tail _ U));cases r with
  |true=>have:=lk.1 rfl;rw[kl,if_pos this.symm];simp[atP,an]
  |false=>
   have b8:¬e.key=k:=fun q=>by have:=lk.2 q.symm;cases this
   rw[kl,if_neg b8];simp[atP,an,a8]
theorem Xo {P:aq1} {kt:aq4} {d:TypeDesc} (aB:P.underlying kt=aqV d) {fj:aqX->Prop} (aH:∀v,fj v->atO d v):Keyed P kt fj where
 check:=fun em v w h=>MapKept.run_checkKey aB (aH v h) em _
 find:=fun v es w h ay=>MapKept.run_findKey aB (VB (aH v h) es 0 fun x U=>aH _ (ay x U))
 stays:=fun v w h=>MapKept.run_keyThatStays (aH v h)
structure nL (au bz:Type) where
 bS:au->List aqX
 vc:bz->List aqX
 tid:aq4
structure j7 (P:aq1) (kt:aq4) {au:Type} (bS:au->List aqX):Prop where
 len:∀a,(bS a).length=P.cellsOf kt
 pos:0<P.cellsOf kt
 flat:∀a,(bS a).all cx=aqW
 yl:∀a,aS.flat (c4 (cW P kt) (bS a))=aqW
 inj:∀a b,c4 (cW P kt) (bS a)=c4 (cW P kt) (bS b)->a=b
 keyed:Keyed P kt fun v=>∃a,v=c4 (cW P kt) (bS a)
structure lQ (P:aq1) (vt:aq4) {bz:Type} (vc:bz->List aqX):Prop where
 len:∀b,(vc b).length=P.cellsOf vt
 one:cW P vt=aqZ->P.cellsOf vt=1
 flat:∀b,(vc b).all cx=aqW
def o6 (k:aq2) (n:Int):List aqX:=[.int k n]
def Cg (s:List UInt8):List aqX:=[str s]
def sD (b:Bool):List aqX:=[.bool b]
theorem ps {P:aq1} {t:aq4} {d:TypeDesc} (h:P.underlying t=aqV d) (aB:jL d=aqZ):cW P t=aqZ:=by simp[cW,h,aB]
theorem aii {P:aq1} {kt:aq4} {k:aq2} {i:TypeInfo} (h:P.underlying kt=aqV (.int k)) (ae:P.info? kt=aqV i) (ay:i.size=1):j7 P kt (o6 k) where
 len:=fun a=>by simp[o6,ar5,ae,ay]
 pos:=by simp[ar5,ae,ay]
 flat:=fun a=>rfl
 yl:=fun a=>by rw[ps h rfl];rfl
 inj:=fun a b eF=>by rw[ps h rfl] at eF;simpa[c4,o6] using eF
 keyed:=Xo h (by rintro v ⟨a,rfl⟩;rw[ps h rfl];simp[c4,o6,atO])
theorem X7 {a b:List UInt8} (h:str a=str b):a=b:=by
 simp only[str] at h;injection h with h;injection h with h;simpa using congrArg Array.toList h
theorem aij {P:aq1} {kt:aq4} {i:TypeInfo} (h:P.underlying kt=aqV .string) (ae:P.info? kt=aqV i) (ay:i.size=1):j7 P kt Cg where
 len:=fun a=>by simp[Cg,ar5,ae,ay]
 pos:=by simp[ar5,ae,ay]
 flat:=fun a=>rfl
 yl:=fun a=>by rw[ps h rfl];rfl
 inj:=fun a b eF=>by rw[ps h rfl] at eF;exact X7 eF
 keyed:=Xo h (by rintro v ⟨a,rfl⟩;rw[ps h rfl];simp[c4,Cg,str,atO])
theorem alK {P:aq1} {vt:aq4} {k:aq2} {i:TypeInfo} (h:P.underlying vt=aqV (.int k)) (ae:P.info? vt=aqV i) (ay:i.size=1):lQ P vt (o6 k):=
 ⟨fun a=>by simp[o6,ar5,ae,ay],fun _=>by simp[ar5,ae,ay],fun _=>rfl⟩
theorem ahX {P:aq1} {vt:aq4} {i:TypeInfo} (h:P.underlying vt=aqV .bool) (ae:P.info? vt=aqV i) (ay:i.size=1):lQ P vt sD:=
 ⟨fun a=>by simp[sD,ar5,ae,ay],fun _=>by simp[ar5,ae,ay],fun _=>rfl⟩
section
variable {au bz:Type}
def bw [DecidableEq au]:List (au×bz)->au->Option bz
 |[],_=>aqY
 |p::es,a=>if p.1=a then aqV p.2 else bw es a
def dA [DecidableEq au]:List (au×bz)->au->bz->List (au×bz)
 |[],a,b=>[(a,b)]
 |p::es,a,b=>if p.1=a then (p.1,b)::es else p::dA es a b
def nL.mY (M:nL au bz) (es:List (au×bz)):List (List aqX×List aqX):=es.map fun p=>(M.bS p.1,M.vc p.2)
def nL.cells (M:nL au bz) (es:List (au×bz)):List aqX:=(M.mY es).flatMap fun p=>p.1++p.2
structure h2 (M:nL au bz) (z:Nat->a6) (e m:Mem) (k:Option Nat) (es:List (au×bz)) (v:aqX):Prop where
 bf:∃r,v= .map (aqV r)/\m.aG r= .map (M.cells es) M.tid/\r<m.next/\z r= .dead/\e.next<=r
def kL (M:nL au bz) (z:Nat->a6) (es:List (au×bz)) (v:aqX):Prop:=
 (v= .map aqY/\es=[])\/∃r,v= .map (aqV r)/\z r= .map (M.cells es) M.tid
def sE:aqX->Option Nat
 | .map r=>r
 |_=>aqY
variable {M:nL au bz} {z z':Nat->a6} {e m m':Mem} {k q:Option Nat} {es:List (au×bz)} {v:aqX}
theorem h2.lt (h:h2 M z e m k es v):∀b,sE v=aqV b->b<m.next:=by
 obtain ⟨r,rfl,h1,J,aj,aM⟩:=h.bf;intro b aa;cases aa;exact J
theorem h2.same (h:h2 M z e m k es v) (s:e5 m m' q) (eD:ei (sE v) q):h2 M z e m' k es v:=by
 obtain ⟨r,rfl,h1,J,aj,aM⟩:=h.bf;exact ⟨r,rfl,by rw[s.aG r J (eD r rfl)];exact h1,aru J s.next,aj,aM⟩
theorem h2.ic (h:h2 M z e m k es v) (aF:et z z') (aa:∀b,sE v=aqV b->z' b=z b):h2 M z' e m k es v:=by
 obtain ⟨r,rfl,h1,J,aj,aM⟩:=h.bf;exact ⟨r,rfl,h1,J,by rw[aa r rfl];exact aj,aM⟩
theorem h2.aJ (h:h2 M z e m k es v):∀c,sE v=aqV c->z c= .dead/\(e.next<=c\/k=aqV c):=by
 obtain ⟨r,rfl,h1,J,aj,aM⟩:=h.bf;intro c ab;cases ab;exact ⟨aj, .inl aM⟩
theorem h2.freeze (h:h2 M z e m k es v) (aO:cL z e m k):∃z',cT e.next z z'/\cL z' e m k/\kL M z' es v/\∀p,ei p (sE v)->∀b,p=aqV b->z' b=z b:=by
 obtain ⟨r,rfl,h1,J,aj,aM⟩:=h.bf;refine ⟨il z m (aqV r),⟨Db fun b aa=>by cases aa;exact aj,fun b aa=> ?_⟩,⟨Hm aO.bg (fun b aa=>by cases aa;exact ⟨J,by rw[h1];rfl⟩),aO.dead,aO.lR,aO.next,aO.kept⟩, .inr ⟨r,rfl,by simp[il,h1]⟩,fun p ap b aa=> ?_⟩
 ·unfold il;rw[if_neg];intro cu;cases cu;omega
 ·have:=ap b aa;unfold il;rw[if_neg (show ¬aqV r=aqV b from this)]
theorem kL.mono (h:kL M z es v) (aF:et z z'):kL M z' es v:=by
 rcases h with h|⟨r,rfl,h1⟩
 ·exact .inl h
 ·exact .inr ⟨r,rfl,by rw[aF r (by rw[h1];exact ari)];exact h1⟩
theorem G8 {P:aq1} {kt vt:aq4} (K:j7 P kt M.bS) (V:lQ P vt M.vc) (es:List (au×bz)):nJ (P.cellsOf kt) (P.cellsOf vt) (M.cells es) (M.mY es):=by
 refine ⟨rfl,fun p ap=> ?_⟩;obtain ⟨x,U,rfl⟩:=arf.1 ap;exact ⟨K.len _,V.len _⟩
theorem X3 [DecidableEq au] {P:aq1} {kt vt:aq4} (K:j7 P kt M.bS) (a:au) (z0:bz):∀es:List (au×bz),tq (cW P kt) (cW P vt) (c4 (cW P kt) (M.bS a)) (c4 (cW P vt) (M.vc z0)) (M.mY es) (c4 (cW P vt) (M.vc ((bw es a).getD z0))) (bw es a).isSome
 |[]=> .p3
 |p::es=>by
  simp only[bw];by_cases h:p.1=a
  ·rw[if_pos h];exact .jU (M.bS p.1,M.vc p.2) (M.mY es) (by rw[h])
  ·rw[if_neg h];exact .next (M.bS p.1,M.vc p.2) (M.mY es) _ _ (fun ax=>h (K.inj _ _ ax)) (X3 K a z0 es)
theorem YN [DecidableEq au] {P:aq1} {kt:aq4} (K:j7 P kt M.bS) (a:au) (b:bz):∀es:List (au×bz),tx (cW P kt) (M.bS a) (M.vc b) (M.mY es) (M.mY (dA es a b))
 |[]=> .p3
 |p::es=>by
  simp only[dA];by_cases h:p.1=a
  ·rw[if_pos h];exact .jU (M.bS p.1,M.vc p.2) (M.mY es) (by rw[h])
  ·rw[if_neg h];exact .next (M.bS p.1,M.vc p.2) (M.mY es) _ (fun ax=>h (K.inj _ _ ax)) (YN K a b es)
theorem WB {P:aq1} {kt:aq4} (es:List (au×bz)):∀p∈M.mY es,∃a,c4 (cW P kt) p.1=c4 (cW P kt) (M.bS a):=by
 intro p ap;obtain ⟨x,U,rfl⟩:=arf.1 ap;exact ⟨x.1,rfl⟩
theorem No {P:aq1} {vt:aq4} {vc:bz->List aqX} (V:lQ P vt vc) (b:bz):iA (c4 (cW P vt) (vc b))=aqW:=by
 have h1:=V.flat b;have J:=V.len b;cases aq:cW P vt with
 |true=>simpa[c4,iA] using h1
 |false=>
  rw[V.one aq] at J
  match ad:vc b,J with
  |[c],_=>rw[ad] at h1;simp at h1;simp only[c4,List.headD_cons];cases c<;>first|exact h1|(simp[cx] at h1;done)|(simp[cx] at h1;simp[h1])
variable {P:aq1} {af:aq3->aqX} {o:Oper} {D:Tag->aqX->Mem->Prop} {x cy:aq3} {gy kt vt:aq4} {i:TypeInfo} {a:au} {z0:bz} {de rj:aqX} {ok:Bool}
theorem Yw [DecidableEq au] {r:Nat} (h:o.op= .lookup gy x cy ok) (hh:P.underlying gy=aqV (.map kt vt)) (hu:P.underlying M.tid=aqV (.map kt vt)) (K:j7 P kt M.bS) (V:lQ P vt M.vc) (ae:P.info? vt=aqV i) (aF:i.zero=aqV (c4 (cW P vt) (M.vc z0)))
  (U:af x= .map (aqV r)) (hm:m.aG r= .map (M.cells es) M.tid) (mv:af cy=c4 (cW P kt) (M.bS a)):
  eT P af o m (if ok then .tuple #[c4 (cW P vt) (M.vc ((bw es a).getD z0)), .bool (bw es a).isSome] else c4 (cW P vt) (M.vc ((bw es a).getD z0))):=
 .lookup gy x cy ok M.tid kt vt r _ _ i _ _ _ _ h hh hu (.inl ⟨U,hm,G8 K V es⟩) K.pos V.one K.keyed (by rw[mv];exact K.yl a) ⟨a,mv⟩ (WB es) ae aF (No V z0) (by rw[mv];exact X3 K a z0 es)
theorem aiy [DecidableEq au] (h:o.op= .lookup gy x cy ok) (hh:P.underlying gy=aqV (.map kt vt)) (hu:P.underlying M.tid=aqV (.map kt vt)) (K:j7 P kt M.bS) (V:lQ P vt M.vc) (ae:P.info? vt=aqV i) (aF:i.zero=aqV (c4 (cW P vt) (M.vc z0)))
  (U:af x=v) (ai:h2 M z e m k es v) (mv:af cy=rj) (oa:rj=c4 (cW P kt) (M.bS a)) {y:Option bz} (ag:bw es a=y)
  (hw:(if ok then .tuple #[c4 (cW P vt) (M.vc (y.getD z0)), .bool y.isSome] else c4 (cW P vt) (M.vc (y.getD z0)))=de):eT P af o m de:=by
 obtain ⟨r,rfl,h1,_⟩:=ai.bf;subst hw ag;exact Yw h hh hu K V ae aF U h1 (mv.trans oa)
theorem Yg [DecidableEq au] (h:o.op= .lookup gy x cy ok) (hh:P.underlying gy=aqV (.map kt vt)) (hu:P.underlying M.tid=aqV (.map kt vt)) (K:j7 P kt M.bS) (V:lQ P vt M.vc) (ae:P.info? vt=aqV i) (aF:i.zero=aqV (c4 (cW P vt) (M.vc z0)))
  (U:af x=v) (ai:h2 M z e m k es v) (mv:af cy=rj) (oa:rj=c4 (cW P kt) (M.bS a)) {y:Option bz} (ag:bw es a=y)
  (hw:(if ok then .tuple #[c4 (cW P vt) (M.vc (y.getD z0)), .bool y.isSome] else c4 (cW P vt) (M.vc (y.getD z0)))=de) (hk:D (.read fun m=>eT P af o m de) de m):bZ P af o m D:=
 bZ.read (aiy h hh hu K V ae aF U ai mv oa ag hw) hk
theorem aiz [DecidableEq au] (h:o.op= .lookup gy x cy ok) (hh:P.underlying gy=aqV (.map kt vt)) (hu:P.underlying M.tid=aqV (.map kt vt)) (K:j7 P kt M.bS) (V:lQ P vt M.vc) (ae:P.info? vt=aqV i) (aF:i.zero=aqV (c4 (cW P vt) (M.vc z0)))
  (U:af x=v) (ai:kL M z es v) (bg:j5 z m) (mv:af cy=rj) (oa:rj=c4 (cW P kt) (M.bS a)) {y:Option bz} (ag:bw es a=y)
  (hw:(if ok then .tuple #[c4 (cW P vt) (M.vc (y.getD z0)), .bool y.isSome] else c4 (cW P vt) (M.vc (y.getD z0)))=de):eT P af o m de:=by
 subst hw ag;rcases ai with ⟨rfl,rfl⟩|⟨r,rfl,h1⟩
 ·exact .lookup gy x cy ok M.tid kt vt 0 [] [] i _ _ _ _ h hh hu (.inr ⟨U,rfl⟩) K.pos V.one K.keyed (by rw[mv,oa];exact K.yl a) ⟨a,mv.trans oa⟩ (fun p ap=>by simp at ap) ae aF (No V z0) .p3
 ·exact Yw h hh hu K V ae aF U (by rw[(bg.fJ (show (_:a6).fJ by rw[h1];exact ari)).1];exact h1) (mv.trans oa)
theorem Yh [DecidableEq au] (h:o.op= .lookup gy x cy ok) (hh:P.underlying gy=aqV (.map kt vt)) (hu:P.underlying M.tid=aqV (.map kt vt)) (K:j7 P kt M.bS) (V:lQ P vt M.vc) (ae:P.info? vt=aqV i) (aF:i.zero=aqV (c4 (cW P vt) (M.vc z0)))
  (U:af x=v) (ai:kL M z es v) (aO:cL z e m k) (mv:af cy=rj) (oa:rj=c4 (cW P kt) (M.bS a)) {y:Option bz} (ag:bw es a=y)
  (hw:(if ok then .tuple #[c4 (cW P vt) (M.vc (y.getD z0)), .bool y.isSome] else c4 (cW P vt) (M.vc (y.getD z0)))=de) (hk:D (.read fun m=>eT P af o m de) de m):bZ P af o m D:=
 bZ.read (aiz h hh hu K V ae aF U ai aO.bg mv oa ag hw) hk
theorem afX {t:aq4} (M:nL au bz) (h:o.op= .makeMap t aqY) (ao:P.underlying t=aqV (.map kt vt)) (aw:M.tid=t) (aO:cL z e m k)
  (hk:∀bl m',cL z e m' k->h2 M z e m' k [] bl->e5 m m' aqY->(∀p,(∀b,p=aqV b->b<m.next)->ei p (sE bl))->D .new bl m'):bZ P af o m D:=by
 have adB:z m.next= .dead:=by
  cases aF:z m.next with
  |dead=>rfl
  |ro rd=>have:=(aO.bg m.next (by rw[aF];simp)).2;omega
  |own L t=>have:=(aO.bg m.next (by rw[aF];simp)).2;omega
  |map L t=>have:=(aO.bg m.next (by rw[aF];simp)).2;omega
  |lock _ _ _ _=>have:=(aO.bg m.next (by rw[aF];simp)).2;omega
 refine bZ.new (.makeMap t kt vt h ao) (hk _ _ (aO.push _) ⟨m.next,rfl,by simp[Mem.push,nL.cells,nL.mY,aw],by simp[Mem.push],adB,aO.next⟩ (Cz aO.dead) fun p ap b aa nV=> ?_);cases nV;have:=ap _ aa;omega
theorem aha [DecidableEq au] {iu iE:aq3} {b:bz} {Am:aqX} (h:o.op= .mapUpdate gy x iu iE\/o.op= .insert gy x iu iE) (hh:P.underlying gy=aqV (.map kt vt)) (hu:P.underlying M.tid=aqV (.map kt vt)) (K:j7 P kt M.bS) (V:lQ P vt M.vc)
  (U:af x=v) (ai:h2 M z e m k es v) (jx:af iu=rj) (oa:rj=c4 (cW P kt) (M.bS a)) (yU:af iE=Am) (adu:Am=c4 (cW P vt) (M.vc b)) (aO:cL z e m k) {tF:List (au×bz)} (jT:dA es a b=tF)
  (hk:∀m',cL z e m' k->h2 M z e m' k tF v->e5 m m' (sE v)->D .e7 undef m'):bZ P af o m D:=by
 obtain ⟨r,rfl,h1,J,aj,aM⟩:=ai.bf;subst jT;have kf:=CM (x:= .map (M.cells (dA es a b)) M.tid) aO.dead J;have hf:=No V b;have MF:=yU.trans adu;have dH:storable (af iE)=aqW:=by rw[MF];cases ab:c4 (cW P vt) (M.vc b)<;>first|rfl|(rw[ab] at hf;simp[iA,cx] at hf;done)|(rw[ab] at hf;simp only[iA,cx,ara,Array.isEmpty_iff] at hf;simp[storable,hf.1,hf.2])
 have abI:∀c∈M.vc b,c∈(af iE).cells.toList:=by
  intro c ab;rw[MF];cases aq:cW P vt with
  |true=>simpa[c4,atl] using ab
  |false=>
   have J:=V.len b;rw[V.one aq] at J
   match ad:M.vc b,J with
   |[d],_=>rw[ad] at ab;simp at ab;subst ab;simp only[c4,List.headD_cons];have aP:=V.flat b;rw[ad] at aP;simp at aP;cases c<;>first|(simp[cx] at aP;done)|simp[atl]
 refine bZ.e7 (n:=0) (.mapUpdate gy x iu iE M.tid kt vt r _ (M.bS a) (M.vc b) _ (M.mY (dA es a b)) _ h hh hu U h1 (G8 K V es) K.pos K.keyed (jx.trans oa) (K.len a) (K.flat a) (by rw[jx,oa];exact K.yl a) ⟨a,jx.trans oa⟩ (WB es) dH MF (V.len b) abI (YN K a b es)) (hk _ (aO.same kf ai.aJ) ⟨r,rfl,by simp[Mem.put,nL.cells],J,aj,aM⟩ kf)
end
end Go.aS
end
section
namespace Go.aS
section
variable {P:aq1} {af:aq3->aqX} {o:Oper} {x y:aq3} {t u:aq4} {k Z5:aq2} {a:Int}
noncomputable instance aqJ:DecidableEq aqX:=fun _ _=>arY _
def En (P:aq1) (t:aq4) (x y:aqX):Prop:=
 (∃k dc a b,P.underlying t=aqV (.int dc)/\x= .int k a/\y= .int k b)\/(∃a b,P.underlying t=aqV .bool/\x= .bool a/\y= .bool b)\/(∃a b,P.underlying t=aqV .string/\x=str a/\y=str b)
def mi (P:aq1):List Field->Nat->List aqX->List aqX->Prop
 |[],_,[],[]=>True
 | f :: bc, i, x :: xs, y :: bi => f.offset = i ∧ f.name ≠ "_" ∧ En P f.type x y ∧ mi P bc (i + 1) xs bi
 |_,_,_,_=>False
theorem agC {t:aq4} {x y:aqX} (h:En P t x y) (d:Nat) (w:World):(ata (d+1) t x y).run P w= .ok (decide (x=y)) w:=by
 rcases h with ⟨k,dc,a,b,h,rfl,rfl⟩|⟨a,b,h,rfl,rfl⟩|⟨a,b,h,rfl,rfl⟩
 ·rw[run_equalIn_int w d t k dc a b h];congr 1;rw[arV];simp
 ·rw[run_equalIn_bool' w d t a b h];congr 1;rw[arV];simp
 ·rw[str,str,run_equalIn_string w d t _ _ h];congr 1;rw[arV];simp[ByteArray.toList_eq]
theorem V3 {t:aq4} {x y:aqX} (h:En P t x y):cW P t=aqZ:=by
 rcases h with ⟨k,dc,a,b,h,_⟩|⟨a,b,h,_⟩|⟨a,b,h,_⟩<;>simp[cW,h,jL]
theorem CZ {t:aq4} {cs:Array aqX} {i:Nat} {v:aqX} (aq:cW P t=aqZ) {d:TypeDesc} (aB:P.underlying t=aqV d) (ad:cs[i]? =aqV v) (w:World):(part t cs i).run P w= .ok v w:=by
 have:jL d=aqZ:=by simpa[cW,aB] using aq
 simp[part,wN aB,this,ad]
theorem Xc {t:aq4} {x y:aqX} (h:En P t x y):∃d,P.underlying t=aqV d:=by
 rcases h with ⟨k,dc,a,b,h,_⟩|⟨a,b,h,_⟩|⟨a,b,h,_⟩<;>exact ⟨_,h⟩
theorem V0 {pre pre':List aqX} (d:Nat) (w:World):∀{bc:List Field} {i:Nat} {xs bi:List aqX},mi P bc i xs bi->pre.length=i->pre'.length=i->(Op.eqFields (d+1) (pre++xs).toArray (pre'++bi).toArray bc).run P w= .ok (decide (xs=bi)) w
 |[],i,[],[],_,_,_=>by simp[Op.eqFields]
 |f::bc,i,x::xs,y::bi,⟨h1,J,aj,aM⟩,ap,mw=>by
  obtain ⟨mq,aB⟩:=Xc aj;have aq:=V3 aj;have g1:=CZ (P:=P) (cs:=(pre++x::xs).toArray) (i:=f.offset) (v:=x) aq aB (by rw[h1,<-ap];simp) w;have g2:=CZ (P:=P) (cs:=(pre'++y::bi).toArray) (i:=f.offset) (v:=y) aq aB (by rw[h1,<-mw];simp) w;have a8:=V0 (pre:=pre++[x]) (pre':=pre'++[y]) d w aM (by simp[ap]) (by simp[mw]);simp only[asT,atQ] at a8;simp only[Op.eqFields];rw[if_pos J];simp only[ars,g1,g2,arn,agC aj d w];by_cases lu:x=y
  ·simp only[lu,decide_true,asx,Bool.false_eq_true,if_false];rw[<-lu] at a8⊢;rw[lu] at a8⊢;rw[a8];simp
  ·simp[lu]
 |[],_,_::_,_,h,_,_=>h.elim
 |[],_,[],_::_,h,_,_=>h.elim
 |_::_,_,[],_,h,_,_=>h.elim
 |_::_,_,_::_,[],h,_,_=>h.elim
theorem Ye {bc:Array Field} {xs bi:List aqX} (ao:P.underlying t=aqV (.struct bc)) (ap:P.stoodInHeld t=aqZ) (h:mi P bc.toList 0 xs bi) (w:World):(ata 10000 t (.agg xs.toArray) (.agg bi.toArray)).run P w= .ok (decide (xs=bi)) w:=by
 have aP:P.fieldsOf t=bc:=by simp[aq1.fieldsOf,ao]
 rw[show (10000:Nat)=9998+1+1 from rfl,run_equalIn_struct w _ t _ _ (by rw[aP];exact ao) ap,aP];have:=V0 (P:=P) (pre:=[]) (pre':=[]) 9998 w h rfl rfl;simpa using this
theorem mi.flat:∀{bc:List Field} {i:Nat} {xs bi:List aqX},mi P bc i xs bi->xs.all cx=aqW/\bi.all cx=aqW
 |[],i,[],[],_=>⟨rfl,rfl⟩
 |f::bc,i,x::xs,y::bi,⟨_,_,aj,aM⟩=>by
  obtain ⟨g1,g2⟩:=mi.flat aM;have:cx x=aqW/\cx y=aqW:=by rcases aj with ⟨k,dc,a,b,h,rfl,rfl⟩|⟨a,b,h,rfl,rfl⟩|⟨a,b,h,rfl,rfl⟩<;>exact ⟨rfl,rfl⟩
  simp[this.1,this.2,g1,g2]
 |[],_,_::_,_,h=>h.elim
 |[],_,[],_::_,h=>h.elim
 |_::_,_,[],_,h=>h.elim
 |_::_,_,_::_,[],h=>h.elim
theorem Vp {bc:Array Field} {xs bi:List aqX} {r:Bool} (neq:Bool) (h:o.op= .binOp (if neq then .neq else .eql) t x y u) (ao:P.underlying t=aqV (.struct bc)) (ap:P.stoodInHeld t=aqZ) (aH:P.eqGuardType P.depth t=aqZ) (ay:mi P bc.toList 0 xs bi)
  (U:af x= .agg xs.toArray) (ag:af y= .agg bi.toArray) (an:r=aqW↔xs=bi):cP P af o (.bool (if neq then !r else r)):=by
 have hf:=ay.flat;refine sB (x:=x) (y:=y) (by rw[h];rfl) (by rw[h];intros;simp) (by rw[U];simpa[flat,iA] using hf.1) (by rw[ag];simpa[flat,iA] using hf.2) rfl fun w=> ?_;have he:=Ye ao ap ay w;have dG:decide (xs=bi)=r:=by
  by_cases lu:xs=bi
  ·simp[lu,an.2 lu]
  ·have:r=aqZ:=by
    cases r with
    |false=>rfl
    |true=>exact absurd (an.1 rfl) lu
   simp[lu,this]
 rw[dG] at he;cases neq with
 |false=>simp[execOp,h,U,ag,run_eqGuard_agg w _ _ _ _ _ _ aH,run_eql_struct,he]
 |true=>simp[execOp,h,U,ag,run_eqGuard_agg w _ _ _ _ _ _ aH,run_neq_struct,he]
end
section
variable {au:Type} {T:cf au} {z:Nat->a6} {e m:Mem} {k:Option Nat} {xs:List au} {v:aqX} {t:aq4}
variable {P:aq1} {af:aq3->aqX} {o:Oper} {x:aq3} {i:TypeInfo} {D:Tag->aqX->Mem->Prop}
end
theorem afp {P:aq1} {t:aq4} {bc:Array Field} {xs:List aqX} (ao:P.underlying t=aqV (.struct bc)) (h:mi P bc.toList 0 xs xs) (em:Bool) (w:World):(asu em 10000 t (.agg xs.toArray)).run P w= .ok () w:=by
 have key:∀{bc:List Field} {i:Nat} {bi pre:List aqX},mi P bc i bi bi->pre.length=i->∀w,
   (forIn bc PUnit.unit fun f _=>(do
    if f.name ≠ "_" then asu em 9999 f.type (← part f.type (pre ++ bi).toArray f.offset)
    pure (ForInStep.yield PUnit.unit):Sem (ForInStep PUnit))).run P w= .ok PUnit.unit w:=by
  intro bc;induction bc with
  |nil=>intro i bi pre h ap w;simp
  |cons f bc a8=>
   intro i bi pre h ap w;cases bi with
   |nil=>exact h.elim
   |cons y bi=>
    obtain ⟨h1,J,aj,aM⟩:=h;obtain ⟨mq,aB⟩:=Xc aj;have g1:=CZ (P:=P) (cs:=(pre++y::bi).toArray) (i:=f.offset) (v:=y) (V3 aj) aB (by rw[h1,<-ap];simp) w;have g2:(asu em 9999 f.type y).run P w= .ok () w:=by
     have aJ:∀n:Nat,(asu em (n+1) f.type y).run P w= .ok () w:=by intro n;rcases aj with ⟨k,dc,a,b,h,rfl,_⟩|⟨a,b,h,rfl,_⟩|⟨a,b,h,rfl,_⟩<;>simp[asu,ee h,str]
     exact aJ 9998
    have a8:=a8 (pre:=pre++[y]) aM (by simp[ap]) w;simp only[asT,atQ] at a8;simp only[List.forIn_cons,if_pos J,ars,g1,arn,g2,arF];exact a8
 have:=key (pre:=[]) h rfl w;simp only[asp] at this;have aJ:∀n:Nat,n=9999->(asu em (n+1) t (.agg xs.toArray)).run P w= .ok () w:=by
  rintro n rfl;rw[asu];simp only[ars,ee ao,arn,<-Array.forIn_toList]
  erw [this]
  rfl
 exact aJ 9999 rfl
theorem ae8 {v:aqX} (n:Nat) (h:(∃k a,v= .int k a)\/(∃a,v= .bool a)\/∃a,v=str a):ato n v v=aqW:=by
 rcases h with ⟨k,a,rfl⟩|⟨a,rfl⟩|⟨a,rfl⟩
 ·cases n<;>simp[ato]
 ·cases n<;>simp[ato]
 ·cases n<;>simp[ato,str,MapKept.bytes_beq]
theorem mi.mem {P:aq1}:∀{bc:List Field} {i:Nat} {xs bi:List aqX},mi P bc i xs bi->∀v∈xs,(∃k a,v= .int k a)\/(∃a,v= .bool a)\/∃a,v=str a
 |[],i,[],[],_,v,ad=>by simp at ad
 |f::bc,i,x::xs,y::bi,⟨_,_,aj,aM⟩,v,ad=>by
  rcases arb.1 ad with rfl|ad
  ·rcases aj with ⟨k,dc,a,b,h,rfl,rfl⟩|⟨a,b,h,rfl,rfl⟩|⟨a,b,h,rfl,rfl⟩
   ·exact .inl ⟨_,_,rfl⟩
   ·exact .inr (.inl ⟨_,rfl⟩)
   ·exact .inr (.inr ⟨_,rfl⟩)
  ·exact mi.mem aM v ad
 |[],_,_::_,_,h,_,_=>h.elim
 |[],_,[],_::_,h,_,_=>h.elim
 |_::_,_,[],_,h,_,_=>h.elim
 |_::_,_,_::_,[],h,_,_=>h.elim
theorem Yi {P:aq1} {kt:aq4} {d:TypeDesc} {i:TypeInfo} {au:Type} {bS:au->List aqX} (ao:P.underlying kt=aqV d) (aB:jL d=aqW) (ae:P.info? kt=aqV i) (dQ:(i.size==0)=aqZ) (hlen:∀a,(bS a).length=i.size)
  (hf:∀a,(bS a).all cx=aqW) (hm:∀a,∀v∈bS a,(∃k n,v= .int k n)\/(∃n,v= .bool n)\/∃n,v=str n) (BI:∀a b,bS a=bS b->a=b)
  (Fo:∀a em w,(asu em 10000 kt (.agg (bS a).toArray)).run P w= .ok () w) (dn:∀a b w,(Op.equal kt (.agg (bS a).toArray) (.agg (bS b).toArray)).run P w= .ok (decide (bS a=bS b)) w):j7 P kt bS where
 len:=fun a=>by rw[hlen];simp[ar5,ae]
 pos:=by
  have:i.size≠0:=by intro h;rw[h] at dQ;cases dQ
  simp[ar5,ae];omega
 flat:=hf
 yl:=fun a=>by have:=hf a;simpa[cW,ao,aB,c4,aS.flat,iA] using this
 inj:=fun a b eF=>by simp only[cW,ao,aB,c4] at eF;injection eF with eF;exact BI a b (by simpa using eF)
 keyed:=by
  have yt:∀a,c4 (cW P kt) (bS a)= .agg (bS a).toArray:=fun a=>by simp[cW,ao,aB,c4]
  refine ⟨?_, ?_, ?_⟩
  ·rintro em v w ⟨a,rfl⟩;rw[yt];exact Fo a em w
  ·rintro v es w ⟨a,rfl⟩ jT;rw[yt] at*;have now:atP d (.agg (bS a).toArray) es 0=(match es with|[]=>aqV aqY|_::_=>aqY):=by
    cases es with
    |nil=>rfl
    |cons e es=>cases d<;>first|(cases aB;done)|simp[atP,Instr.sameNow]
   have aaD:∀(es:List MapEntry) (n:Nat),(∀x∈es,∃b,x.key=c4 (cW P kt) (bS b))->(aum kt (.agg (bS a).toArray) es n).run P w= .ok (kl (.agg (bS a).toArray) es n) w:=by
    intro es;induction es with
    |nil=>intro n _;simp[aum,kl]
    |cons e es a8=>
     intro n jT;obtain ⟨b,aa⟩:=jT e (by simp);have BB:(Op.equal kt (.agg (bS a).toArray) e.key).run P w= .ok (decide (bS a=bS b)) w:=by rw[aa,yt];exact dn a b w
     have a8:=a8 (n+1) fun x U=>jT x (by simp[U]);simp only[aum,ars,BB,arn];by_cases eF:bS a=bS b
     ·have:e.key= .agg (bS a).toArray:=by rw[aa,yt,eF]
      simp[eF,kl,this]
     ·have:¬e.key= .agg (bS a).toArray:=by
       rw[aa,yt];intro h;injection h with h;exact eF (by simpa using h.symm)
      simp[eF,kl,this,a8]
   simp only[Instr.findKey,ars,ee ao,arn,now];cases es with
   |nil=>simp[kl]
   |cons e es=>exact aaD (e::es) 0 jT
  ·rintro v w ⟨a,rfl⟩;rw[yt];have aa:ato 10000 (.agg (bS a).toArray) (.agg (bS a).toArray)=aqW:=by
    have hm:=hm a;show (ato (9999+1) _ _)=aqW;simp only[ato,beq_self_eq_true,Bool.true_and,arc];rintro ⟨p,q⟩ o2;have:p=q/\p∈bS a:=by
     have h1:=List.of_mem_zip o2;have:∀l:List aqX,(p,q)∈l.zip l->p=q:=by
      intro l;induction l with
      |nil=>intro h;simp at h
      |cons z l a8=>
       intro h;simp at h;rcases h with ⟨rfl,rfl⟩|h
       ·rfl
       ·exact a8 h
     exact ⟨this _ (by simpa using o2),by simpa using h1.1⟩
    obtain ⟨rfl,J⟩:=this;exact ae8 _ (hm p J)
   simp[Instr.keyThatStays,aa]
theorem afJ {P:aq1} {kt:aq4} {bc:Array Field} {i:TypeInfo} {au:Type} {bS:au->List aqX} (ao:P.underlying kt=aqV (.struct bc)) (ae:P.info? kt=aqV i) (ap:P.stoodInHeld kt=aqZ) (dQ:(i.size==0)=aqZ) (hlen:∀a,(bS a).length=i.size)
  (ay:∀a b,mi P bc.toList 0 (bS a) (bS b)) (BI:∀a b,bS a=bS b->a=b):j7 P kt bS:=
 Yi ao rfl ae dQ hlen (fun a=>(ay a a).flat.1) (fun a=>(ay a a).mem) BI (fun a em w=>afp ao (ay a a) em w) fun a b w=>Ye ao ap (ay a b) w
theorem ahb {P:aq1} {kt e:aq4} {i Ce:TypeInfo} {k:aq2} {au:Type} {bS:au->List aqX} (f g:au->Int) (ao:P.underlying kt=aqV (.array 2 e)) (he:P.underlying e=aqV (.int k)) (im:P.info? e=aqV Ce) (h1:Ce.size=1) (ae:P.info? kt=aqV i) (J:i.size=2)
  (hk:∀a,bS a=[.int k (f a), .int k (g a)]) (BI:∀a b,f a=f b->g a=g b->a=b):j7 P kt bS:=by
 have bE:∀w,(Go.sizeOf e).run P w= .ok 1 w:=fun w=>by have:=run_sizeOf w im;simpa[ar5,im,h1] using this
 have Uy:jL (.int k)=aqZ:=rfl;have lz:∀(a:au) w,(part e (bS a).toArray 0).run P w= .ok (.int k (f a)) w:=fun a w=>CZ (P:=P) (cs:=(bS a).toArray) (i:=0) (v:= .int k (f a)) (ps he Uy) he (by rw[hk];rfl) w;have c8:∀(a:au) w,(part e (bS a).toArray 1).run P w= .ok (.int k (g a)) w:=fun a w=>CZ (P:=P) (cs:=(bS a).toArray) (i:=1) (v:= .int k (g a)) (ps he Uy) he (by rw[hk];rfl) w;refine Yi (d:= .array 2 e) ao rfl ae (by rw[J];rfl) (fun a=>by rw[hk,J];rfl) (fun a=>by rw[hk];rfl) (fun a v ad=> ?_) (fun a b h=> ?_) (fun a em w=> ?_) fun a b w=> ?_
 ·rw[hk] at ad;rcases arb.1 ad with rfl|ad
  ·exact .inl ⟨_,_,rfl⟩
  ·rcases arb.1 ad with rfl|ad
   ·exact .inl ⟨_,_,rfl⟩
   ·cases ad
 ·rw[hk,hk] at h;injection h with aj aM;injection aM with aM _;exact BI a b (by injection aj) (by injection aM)
 ·have ab:∀(n:Nat) x w,(asu em (n+1) e (.int k x)).run P w= .ok () w:=by
   intro n x w;simp[asu,ee he]
  have aJ:∀n:Nat,(asu em (n+1+1) kt (.agg (bS a).toArray)).run P w= .ok () w:=by intro n;rw[asu];simp only[ars,ee ao,arn];simp only[auA,auB,Nat.sub_zero,Nat.add_one_sub_one,Nat.div_one];simp[show List.range' 0 2=[0,1] from rfl,bE,lz,c8,ab]
  exact aJ 9998
 ·have vK:∀(n:Nat) x y w,(ata (n+1) e (.int k x) (.int k y)).run P w= .ok (x==y) w:=by
   intro n x y w;simp[ata,ee he]
  have aJ:∀n:Nat,(ata (n+1+1) kt (.agg (bS a).toArray) (.agg (bS b).toArray)).run P w= .ok (decide (bS a=bS b)) w:=by
   intro n;rw[ata];simp only[ars,ee ao,arn,bE];simp only[auA,auB,Nat.sub_zero,Nat.add_one_sub_one,Nat.div_one];have aB:decide (bS a=bS b)=(f a==f b&&g a==g b):=by rw[hk,hk,arV];simp
   rw[aB];cases aj:f a==f b<;>cases aM:g a==g b<;>simp[show List.range' 0 2=[0,1] from rfl,bE,lz,c8,vK,aj,aM]
  exact aJ 9998
@[reducible] def aqH (n:Int):aqX:= .int .i64 n
@[reducible] def aqG (b:Bool):aqX:= .bool b
@[reducible] def aqI (b:Nat):aqX:= .pointer (aqV ⟨b,0,aqY⟩)
section
variable {P:aq1} {ops l:List Oper} {K:(Nat->aqX)->Mem->Prop} {fr:Nat->aqX} {m:Mem} {o:Oper} {v:aqX}
theorem anx (aH:wanted ops fr o=aqW) (h:cP P (aK fr) o v) (hk:fv P ops l K (set fr o.dst v) m):fv P ops (o::l) K fr m:=fv.JT aH (bZ.pure h hk)
theorem iu {j d:Nat} {want kQ:Bool} (aH:o.guard=aqV (j,want)) (aB:(ops[j]?).bind (·.dst)=aqV d) (ad:fr d= .bool kQ) (aa:kQ= !want) (h:fv P ops l K (set fr o.dst undef) m):fv P ops (o::l) K fr m:=fv.IA aH aB ad aa h
end
structure apO {au:Type} (T:cf au) (z:Nat->a6) (e m:Mem) (k:Option Nat) (xs:List au) (v:aqX):Prop where
 bf:eG T z m xs v
 fresh:∀b,cp v=aqV b->e.next<=b\/k=aqV b
section
variable {au:Type} {T:cf au} {z z':Nat->a6} {e m m':Mem} {k q:Option Nat} {xs:List au} {v v0:aqX} {t:aq4}
variable {P:aq1} {af:aq3->aqX} {o:Oper} {w:aqX} {bi:List au} {x y:aq3} {u:aq4} {i:TypeInfo} {K:aqX->Mem->Prop} {D:Tag->aqX->Mem->Prop}
end
end Go.aS
end
section
namespace Go.aS
theorem Wn (w:World):∀b,(gV w).next<=b->(gV w).aG b= .dead:=(X5 w).dead
theorem ah1 (w:World):j5 (gV w).aG (gV w):=fun b aa=>⟨by
 by_cases h:b<w.heap.size
 ·simp[gV,h,a6.mem]
 ·simp[gV,h,a6.mem],by
 by_cases h:b<(gV w).next
 ·exact h
 ·exact absurd (Wn w b (by omega)) aa⟩
theorem NU {w:World} {b:Nat} (h:b<w.heap.size):((gV w).aG b).fJ:=by
 simp[gV,h,a6.fJ]
theorem ad0 {w:World} {b o:Nat} {v:aqX} (h:(gV w).load b o=aqV v):kY (gV w).aG b o=aqV v:=by
 unfold Mem.load at h;unfold kY;exact h
open Classical in
noncomputable def seen (w:World) (b:Nat) (c:aqX):aqX:=if dC (gO w) c c then c else (xn b c).getD c
theorem wD {w:World} {b:Nat} {c:aqX} (h:dC (gO w) c c):seen w b c=c:=by simp[seen,h]
def y9 (w:World) (c:aqX):Prop:=dC (gO w) c c\/∃a,c= .slice (aqV a) 0 0
theorem CW {w:World} {c:aqX} (h:cx c=aqW):y9 w c:= .inl (p8 h)
theorem CB {w:World} {b:Nat} {c:aqX} (h:cx c=aqW):seen w b c=c:=wD (p8 h)
theorem aqw {w:World} {b:Nat} {c:aqX} (h:y9 w c) (aa:b<w.heap.size):dC (gO w) (seen w b c) c:=by
 by_cases ad:dC (gO w) c c
 ·rw[wD ad];exact ad
 ·rcases h with h|⟨a,rfl⟩
  ·exact absurd h ad
  ·simp only[seen,ad,if_false,xn,asm];exact ⟨⟨b,0,0,0⟩,rfl,by simp[gO,aa], .inr (.inr (.inr ⟨rfl,rfl,a,rfl⟩))⟩
theorem agU {w:World} {b o:Nat} {c:aqX} (h:y9 w c) (ab:w.cell? ⟨b,o,aqY⟩=aqV c):(gV w).load b o=aqV (seen w b c):=by
 have aN:b<w.heap.size:=World.block_lt_of_cell? w ⟨b,o,aqY⟩ ab;by_cases ad:dC (gO w) c c
 ·rw[wD ad];exact afQ ab ad
 ·rcases h with h|⟨a,rfl⟩
  ·exact absurd h ad
  ·simp[Mem.load,gV,aN,ab,ad,xn,seen]
theorem afd {w:World} {a:Addr} {v:aqX} (h:w.cell? a=aqV v):a.spot=aqY/\a.block<w.heap.size:=by
 refine ⟨?_,World.block_lt_of_cell? w a h⟩;simp only[World.cell?] at h;split at h
 ·split at h
  ·cases h
  ·rename_i ay;simpa using ay
 ·cases h
structure nN (P:aq1) {au:Type} (T:cf au) (G:au->Prop):Prop where
 a1:P.cellsOf T.tid=T.a1
 pos:0<T.a1
 rd:∀{H:Type} {enc:aq4×aqX->H} {w:World} {mZ:Nat} {cs:List aqX} {x:DataW H×List MemPlace},atS enc P w 0 (fun _=>aqW) aqW mZ T.tid cs=aqV x->
  (∀c∈cs,y9 w c)/\∀b,(b<w.heap.size\/∀c∈cs,dC (gO w) c c)->∃a,T.rd (gV w).aG a (cs.map (seen w b))/\G a
theorem nN.conv {P:aq1} {au:Type} {T A1:cf au} {G:au->Prop} (h:nN P T G) (ao:A1.tid=T.tid) (ay:A1.a1=T.a1) (an:∀z x cs,T.rd z x cs->A1.rd z x cs):nN P A1 G where
 a1:=by rw[ao,ay];exact h.a1
 pos:=by rw[ay];exact h.pos
 rd:=fun e=>by rw[ao] at e;obtain ⟨h1,J⟩:=h.rd e;exact ⟨h1,fun b aa=>by obtain ⟨x,U,aH⟩:=J b aa;exact ⟨x,an _ _ _ U,aH⟩⟩
def TP (k:aq2) (n:Int):Prop:=k.min<=n/\n<=k.max
def TQ (s:List UInt8):Prop:=s.length<=maxLen
def TO {au:Type} (_:au):Prop:=True
def Bn {au:Type} (G:au->Prop) (xs:List au):Prop:=xs.length<=maxLen/\∀x∈xs,G x
theorem ah6 {P:aq1} {t:aq4} {k:aq2} {i:TypeInfo} (ao:P.underlying t=aqV (.int k)) (ae:P.info? t=aqV i) (ay:i.size=1):nN P (Ey t k) (TP k) where
 a1:=by simp[Ey,cf.flat,ar5,ae,ay]
 pos:=by simp[Ey,cf.flat]
 rd:=fun h=>by obtain ⟨n,rfl,_,hw⟩:=DataW.trod_int ao h;exact ⟨fun c ab=>by simp at ab;subst ab;exact CW rfl,fun b _=>⟨n,by simp[Ey,cf.flat,CB (w:=_) (b:=b) (c:= .int k n) rfl],by simpa[Lit.wf,TP] using hw⟩⟩
theorem aqC {P:aq1} {t:aq4} {i:TypeInfo} (ao:P.underlying t=aqV (.int .u8)) (ae:P.info? t=aqV i) (ay:i.size=1):nN P (kq t) TO where
 a1:=by simp[kq,cf.flat,ar5,ae,ay]
 pos:=by simp[kq,cf.flat]
 rd:=fun h=>by
  obtain ⟨n,rfl,_,hw⟩:=DataW.trod_int ao h;refine ⟨fun c ab=>by simp at ab;subst ab;exact CW rfl,fun b _=>⟨asS n.toNat, ?_,trivial⟩⟩;simp[Lit.wf,aq2.min,aq2.max,aq2.signed,aq2.bits] at hw;have:((asS n.toNat).toNat:Int)=n:=by simp;omega
  show [asK .u8 n].map (seen _ b)=[asK .u8 ((asS n.toNat).toNat:Int)];rw[this];simp[CB (w:=_) (b:=b) (c:= .int .u8 n) rfl]
theorem aqx {P:aq1} {t:aq4} {i:TypeInfo} (ao:P.underlying t=aqV .bool) (ae:P.info? t=aqV i) (ay:i.size=1):nN P (Dj t) TO where
 a1:=by simp[Dj,cf.flat,ar5,ae,ay]
 pos:=by simp[Dj,cf.flat]
 rd:=fun h=>by obtain ⟨n,rfl,_⟩:=DataW.trod_bool ao h;exact ⟨fun c ab=>by simp at ab;subst ab;exact CW rfl,fun b _=>⟨n,by simp[Dj,cf.flat,CB (w:=_) (b:=b) (c:= .bool n) rfl],trivial⟩⟩
theorem aqA {P:aq1} {t:aq4} {i:TypeInfo} (ao:P.underlying t=aqV .string) (ae:P.info? t=aqV i) (ay:i.size=1):nN P (Ez t) TQ where
 a1:=by simp[Ez,cf.flat,ar5,ae,ay]
 pos:=by simp[Ez,cf.flat]
 rd:=fun h=>by obtain ⟨n,rfl,_,ay⟩:=DataW.trod_string ao h;exact ⟨fun c ab=>by simp at ab;subst ab;exact CW rfl,fun b _=>⟨n.data.toList,by simp[Ez,cf.flat,str,CB (w:=_) (b:=b) (c:= .string n) rfl],by simpa[TQ] using ay⟩⟩
theorem XV {P:aq1} {au:Type} {T:cf au} {G:au->Prop} {t:aq4} (hK:nN P T G) (ao:P.underlying t=aqV (.slice T.tid)) {H:Type} {enc:aq4×aqX->H} {w:World} {mZ:Nat} {cs:List aqX} {x:DataW H×List MemPlace}
  (h:atS enc P w 0 (fun _=>aqW) aqW mZ t cs=aqV x):∃c,cs=[c]/\y9 w c/\∀b,(b<w.heap.size\/dC (gO w) c c)->∃xs,er T (gV w).aG xs (seen w b c)/\Bn G xs:=by
 rcases Deep.open_slice ao h with ⟨rfl,_⟩|⟨a,len,cap,m,n,D,aae,rfl,_,ah,hm,fE,_,U⟩
 ·exact ⟨_,rfl,CW rfl,fun b _=>⟨[],by rw[CB rfl];exact .nil,by simp[Bn]⟩⟩
 ·simp only[if_true] at fE;subst fE;refine ⟨_,rfl, ?_⟩;rcases atD m with aI|dQ
  ·subst aI;have fl:len=0:=by omega
   subst fl;refine ⟨.inr ⟨a,rfl⟩,fun b aa=>⟨[], ?_,by simp[Bn]⟩⟩;by_cases ad:dC (gO w) (.slice (aqV a) 0 0) (.slice (aqV a) 0 0)
   ·rw[wD ad];obtain ⟨e,h1,J,_⟩:=ad;obtain ⟨aG,off,spot⟩:=a;simp only at h1 J;subst h1;exact .inr ⟨aG,off,0,rfl,NU (zu J).1, .inr ⟨by simp[dr],aq9 _⟩,fun i x ae=>by simp at ae⟩
   ·have aa:b<w.heap.size:=by
     rcases aa with aa|aa
     ·exact aa
     ·exact absurd aa ad
    simp only[seen,ad,if_false,xn,asm];exact .inr ⟨b,0,0,rfl,NU aa, .inr ⟨by simp[dr],aq9 _⟩,fun i x ae=>by simp at ae⟩
  ·have ay:=hK.a1;have ap:=hK.pos;obtain ⟨qB,g1,_⟩:=U 0 dQ;obtain ⟨_,g2,g3⟩:=World.cells?_some g1;rw[ay] at g2 g3;have g4:=g3 0 ap;obtain ⟨v0,iL⟩:∃v,qB[0]? =aqV v:=⟨qB[0]'(by omega),by simp[show 0<qB.length by omega]⟩
   rw[iL] at g4;simp only[ase] at g4;have abw:(a.add 0).add 0=a:=by simp[Addr.add]
   rw[abw] at g4;obtain ⟨UQ,hblk⟩:=afd g4;obtain ⟨aG,off,spot⟩:=a;simp only at UQ hblk;subst UQ;have ad:dC (gO w) (.slice (aqV ⟨aG,off,aqY⟩) len m) (.slice (aqV ⟨aG,off,aqY⟩) len m):=
    ⟨⟨aG,0,0,0⟩,rfl,by simp[gO,hblk], .inl ⟨by simp only[maxLen] at hm;simp only[dr];omega,by simp⟩⟩
   refine ⟨.inl ad,fun b _=> ?_⟩;rw[wD ad];have h5:∀i,i<len->∃y:au,G y/\∃ds,T.rd (gV w).aG y ds/\nw (gV w).aG aG (off+i*T.a1) ds:=by
    intro i ae;obtain ⟨ci,bs,bC⟩:=U i (by omega);obtain ⟨_,cQ,fy⟩:=World.cells?_some bs;rw[ay] at cQ fy;obtain ⟨dw,dG⟩:=hK.rd bC;obtain ⟨y,ag,gI⟩:=dG aG (.inl hblk);refine ⟨y,gI,_,ag,fun j u av=> ?_⟩;rw[arH] at av;cases ab:ci[j]? with
    |none=>rw[ab] at av;cases av
    |some c=>rw[ab] at av;simp at av;subst av;have gA:=(aq5.1 ab).1;have np:=fy j (by omega);rw[ab,p9,p9] at np;exact ad0 (agU (dw c (are ab)) np)
   have:∃xs:List au,xs.length=len/\(∀y∈xs,G y)/\∀(i:Nat) (y:au),xs[i]? =aqV y->∃ds,T.rd (gV w).aG y ds/\nw (gV w).aG aG (off+i*T.a1) ds:=by
    clear U ah hm ad g1 dQ;revert h5;generalize len=l;induction l with
    |zero=>intro _;exact ⟨[],rfl,fun y ag=>by simp at ag,fun i y ae=>by simp at ae⟩
    |succ l a8=>
     intro h5;obtain ⟨xs,aX,dt,e2⟩:=a8 fun i ae=>h5 i (by omega);obtain ⟨y,gI,ag⟩:=h5 l (by omega);refine ⟨xs++[y],by simp[aX],fun u hu=>by rcases List.mem_append.1 hu with hu|hu;exact dt u hu;simp at hu;subst hu;exact gI,fun i u ae=> ?_⟩;by_cases jk:i<l
     ·rw[arm (by omega)] at ae;exact e2 i u ae
     ·have aN:=(aq5.1 ae).1;simp at aN;have:i=l:=by omega
      subst this;rw[arl (by omega)] at ae;simp[aX] at ae;subst ae;exact ag
   obtain ⟨xs,aX,dt,e2⟩:=this;refine ⟨xs, .inr ⟨aG,off,m,by rw[aX],NU hblk, .inr ⟨by simp only[maxLen] at hm;simp only[dr];omega,by rw[aX];exact ah⟩,e2⟩,by omega,dt⟩
theorem aqB {P:aq1} {au:Type} {T:cf au} {G:au->Prop} {t:aq4} {i:TypeInfo} (hK:nN P T G) (ao:P.underlying t=aqV (.slice T.tid)) (ae:P.info? t=aqV i) (ay:i.size=1):nN P (JC t T) (Bn G) where
 a1:=by simp[JC,ar5,ae,ay]
 pos:=by simp[JC]
 rd:=fun h=>by obtain ⟨c,rfl,h1,J⟩:=XV hK ao h;refine ⟨fun d aB=>by simp at aB;subst aB;exact h1,fun b aa=> ?_⟩;obtain ⟨xs,U,gI⟩:=J b (aa.imp id fun h=>h c (by simp));exact ⟨xs,⟨_,rfl,U⟩,gI⟩
theorem ahB {P:aq1} {au:Type} {T:cf au} {G:au->Prop} {t:aq4} (hK:nN P T G) (ao:P.underlying t=aqV (.slice T.tid)) {H:Type} {enc:aq4×aqX->H} {w:World} {base:Nat} {v:aqX} {d:DataW H} {bK:List MemPlace}
  (dw:at9 P w .any base t v) (h:DataW.Trod enc P w 0 (fun _=>aqW) aqW t v d bK):cb (gO w) v v/\∃xs,er T (gV w).aG xs v/\Bn G xs:=by
 obtain ⟨mZ,aP⟩:=h;obtain ⟨c,ab,h1,J⟩:=XV hK ao aP;have ad:dC (gO w) v v/\c=v:=by
  simp only[at9,ao,Cell.okWide,Cell.ok] at dw;cases v with
  |slice a l aaH=>
   have fP:c= .slice a l aaH:=by simpa[atl] using ab.symm
   refine ⟨?_,fP⟩;cases a with
   |none=>exact rfl
   |some a=>
    simp only at dw;obtain ⟨ah,hm,ax⟩:=dw;obtain ⟨_,ay,row,cells,tS,_⟩:=ax;have aN:a.block<w.heap.size:=by
     by_cases aa:a.block<w.heap.size
     ·exact aa
     ·simp[World.shape?,Array.getElem?_eq_none (Nat.le_of_not_lt aa)] at tS
    obtain ⟨aG,off,spot⟩:=a;simp only at ay aN;subst ay;refine ⟨⟨aG,0,0,0⟩,rfl,by simp[gO,aN], .inl ⟨?_,by simp⟩⟩;simp only[aq2.max,aq2.signed,aq2.bits] at hm;simp only[dr];simp at hm;omega
  |_=>simp at dw
 obtain ⟨ad,rfl⟩:=ad;refine ⟨cb.p6 ad, ?_⟩;obtain ⟨xs,U⟩:=J 0 (.inr ad);rw[wD ad] at U;exact ⟨xs,U⟩
theorem ahf {P:aq1} {w:World} {base:Nat} {u:aq4} {c:aqX} (h:Cell.okWide P w .any base u c) (ab:y9 w c):dC (gO w) c c:=by
 rcases ab with ab|⟨a,rfl⟩
 ·exact ab
 ·cases hu:P.underlying u with
  |none=>simp[Cell.okWide,Cell.ok,hu] at h
  |some d=>
   cases d<;>simp only[Cell.okWide,Cell.ok,hu] at h
   obtain ⟨_,_,_,ay,row,cells,tS,_⟩:=h;have aN:a.block<w.heap.size:=by
    by_cases aa:a.block<w.heap.size
    ·exact aa
    ·simp[World.shape?,Array.getElem?_eq_none (Nat.le_of_not_lt aa)] at tS
   obtain ⟨aG,off,spot⟩:=a;simp only at ay aN;subst ay;exact ⟨⟨aG,0,0,0⟩,rfl,by simp[gO,aN], .inl ⟨by simp[dr],by simp⟩⟩
theorem aqy {P:aq1} {au:Type} {T:cf au} {G:au->Prop} {bc:Array Field} (hK:nN P T G) (ao:P.underlying T.tid=aqV (.struct bc)) {H:Type} {enc:aq4×aqX->H} {w:World} {base:Nat} {v:aqX} {d:DataW H} {bK:List MemPlace}
  (dw:at9 P w .any base T.tid v) (h:DataW.Trod enc P w 0 (fun _=>aqW) aqW T.tid v d bK):cb (gO w) v v/\∃x cs,v= .agg cs.toArray/\T.rd (gV w).aG x cs/\G x:=by
 obtain ⟨mZ,aP⟩:=h;simp only[at9,ao] at dw;obtain ⟨cs,rfl,bE,ts,UT,_,nb⟩:=dw;have vL:atS enc P w 0 (fun _=>aqW) aqW mZ T.tid cs.toList=aqV (d,bK):=by simpa[atl] using aP
 obtain ⟨h1,J⟩:=hK.rd vL;have jP:∀c∈cs.toList,dC (gO w) c c:=by intro c ab;obtain ⟨i,ae⟩:=List.getElem?_of_mem ab;obtain ⟨u,_,hu⟩:=nb i c (by simpa using ae);exact ahf hu (h1 c ab)
 obtain ⟨x,U,gI⟩:=J 0 (.inr jP);have tO:cs.toList.map (seen w 0)=cs.toList:=by
  have:∀l:List aqX,(∀c∈l,dC (gO w) c c)->l.map (seen w 0)=l:=by
   intro l;induction l with
   |nil=>intro _;rfl
   |cons c l a8=>intro ah;rw[arN,wD (ah c (by simp)),a8 fun d aB=>ah d (by simp[aB])]
  exact this _ jP
 rw[tO] at U;refine ⟨⟨cs,rfl, ?_⟩,x,cs.toList,by simp,U,gI⟩;have:∀l:List aqX,(∀c∈l,dC (gO w) c c)->ba (dC (gO w)) l l:=by
  intro l;induction l with
  |nil=>intro _;exact ari
  |cons c l a8=>intro ah;exact ⟨ah c (by simp),a8 fun d aB=>ah d (by simp[aB])⟩
 exact this _ jP
theorem apV {P:aq1} {H:Type} {enc:aq4×aqX->H} {w:World} {n:Nat} {bc:Array Field} {cs:List aqX} {xs:List (DataW H×List MemPlace)} (hlen:xs.length=bc.size)
  (aP:∀(i:Nat) (f:Field),bc[i]? =aqV f->atS enc P w 0 (fun _=>aqW) aqW n f.type ((cs.drop f.offset).take (P.cellsOf f.type))=xs[i]?) (i:Nat) {f:Field} (ae:bc[i]? =aqV f):
  ∃y,atS enc P w 0 (fun _=>aqW) aqW n f.type ((cs.drop f.offset).take (P.cellsOf f.type))=aqV y:=by
 have aN:=(ar9.1 ae).1;rw[aP i f ae];exact ⟨xs[i]'(by omega),by simp[show i<xs.length by omega]⟩
theorem aqz {P:aq1} {au:Type} {T:cf au} {t e:aq4} (ao:P.underlying t=aqV (.slice e)) {H:Type} {enc:aq4×aqX->H} {w:World} {v:aqX} {d:DataW H} {bK:List MemPlace} {z:Nat->a6} {xs:List au}
  (h:DataW.Trod enc P w 0 (fun _=>aqW) aqW t v d bK) (ay:er T z xs v):xs.length=0\/∃bR spare,d= .slice bR spare/\bR.length=xs.length:=by
 obtain ⟨mZ,aP⟩:=h;rcases ay with ⟨rfl,rfl⟩|⟨b,off,c,rfl,_⟩
 ·exact .inl rfl
 ·rcases Deep.open_slice ao aP with ⟨aI,_⟩|⟨a,len,cap,m,n,D,aae,ab,_,_,_,_,U,_⟩
  ·simp[atl] at aI
  ·simp only[atl,List.cons.injEq,aso.injEq,and_true] at ab;obtain ⟨_,h1,_⟩:=ab;injection U with U _;exact .inr ⟨_,_,U,by simp[<-h1]⟩
end Go.aS
end
section
namespace Go.aS
section
variable {z:Nat->a6} {e m:Mem} {k:Option Nat} {b n:Nat} {cs:List aqX} {t:aq4} {v:aqX}
variable {P:aq1} {af:aq3->aqX} {o:Oper} {x:aq3} {i:TypeInfo} {D:Tag->aqX->Mem->Prop}
theorem ie.ad1 (h:ie z e m k b cs t) (aO:cL z e m k):∃z',et z z'/\cL z' e m k/\nw z' b 0 cs/\∀p,ei p (aqV b)->∀c,p=aqV c->z' c=z c:=by
 refine ⟨il z m (aqV b),Db fun c ab=>by cases ab;exact h.dead,⟨Hm aO.bg (fun c ab=>by cases ab;exact ⟨h.lt,by rw[h.aG];rfl⟩),aO.dead,aO.lR,aO.next,aO.kept⟩,fun j u av=> ?_,fun p ap c ab=> ?_⟩
 ·simp only[kY,il,if_true,h.aG,arh];exact av
 ·unfold il;rw[if_neg (ap c ab)]
theorem ie.freeze (h:ie z e m k b cs t) (ar:e.next<=b) (aO:cL z e m k):∃z',cT e.next z z'/\cL z' e m k/\nw z' b 0 cs/\∀p,ei p (aqV b)->∀c,p=aqV c->z' c=z c:=by
 obtain ⟨z',h1,J,aj,aM⟩:=h.ad1 aO;refine ⟨il z m (aqV b),⟨Db fun c ab=>by cases ab;exact h.dead,fun c ab=> ?_⟩,⟨Hm aO.bg (fun c ab=>by cases ab;exact ⟨h.lt,by rw[h.aG];rfl⟩),aO.dead,aO.lR,aO.next,aO.kept⟩,fun j u av=> ?_,fun p ap c ab=> ?_⟩
 ·unfold il;rw[if_neg (by intro aa;cases aa;omega)]
 ·simp only[kY,il,if_true,h.aG,arh];exact av
 ·unfold il;rw[if_neg (ap c ab)]
theorem ag8 (h:o.op= .alloc t) (ae:P.info? t=aqV i) {ca:aqX} (aF:i.zero=aqV ca) (cg:ca.cells.toList.all cx=aqW) (ay:ca.cells.size=i.size) (cs:List aqX) (ab:ca.cells.toList=cs) (aO:cL z e m k)
  (hk:∀b m',e.next<=b->cL z e m' k->ie z e m' k b cs t->e5 m m' aqY->(∀p,(∀c,p=aqV c->c<m.next)->ei p (aqV b))->D .new (.pointer (aqV ⟨b,0,aqY⟩)) m'):bZ P af o m D:=by
 subst ab;obtain ⟨J,aj,aM,bq⟩:=O8 (L:=ca.cells.toList) (t:=t) aO;exact bZ.new (.alloc t i ca h ae aF cg ay) (hk _ _ aO.next J aj aM bq)
theorem am0 (h:o.op= .box t x) (ae:P.info? t=aqV i) (U:af x=v) (ad:storable v=aqW) (cs:List aqX) (ab:v.cells.toList=cs) (ay:cs.length=i.size) (aO:cL z e m k)
  (hk:∀b m',e.next<=b->cL z e m' k->ie z e m' k b cs t->e5 m m' aqY->(∀p,(∀c,p=aqV c->c<m.next)->ei p (aqV b))->D .new (.pointer (aqV ⟨b,0,aqY⟩)) m'):bZ P af o m D:=by
 subst U ab;obtain ⟨J,aj,aM,bq⟩:=O8 (L:=(af x).cells.toList) (t:=t) aO;exact bZ.new (.box t x i h ae ad (by simpa using ay)) (hk _ _ aO.next J aj aM bq)
theorem Zc {fn:Fn} {cap:Array aq3} {caps:Array aqX} (h:o.op= .makeFunc fn #[] cap) (ab:cap.map af=caps) (ay:caps.toList.all storable=aqW):cP P af o (.func fn #[] caps):=by
 subst ab;have:=cP.func (P:=P) (af:=af) (o:=o) fn #[] cap h (fun x U=>by
  simp only[asp] at U;have:=arc.1 ay (af x) (by simp only[asJ];exact List.mem_map_of_mem (by simpa using U));exact this)
 simpa using this
theorem CT {f:FuncId} {y:aq3} {as:Array aq3} {ts:Array aq4} {args caps all:Array aqX} (h:o.op= .call {callee:= .value y,args:=as,argTypes:=ts}) (aP:af y= .func (.func f) #[] caps) (aq:as.map af=args) (jP:args++caps=all):callee o af f all:=
 ⟨_,as,ts,#[],caps,h,aP,by rw[aq,<-jP];simp⟩
end
open Classical in
noncomputable def o9 {au bz:Type} (xs:List au) (f:Bool->Option bz):Option bz:=if xs=[] then (if f aqW=f aqZ then f aqW else aqY) else f aqZ
theorem Gx {au bz:Type} {xs:List au} {f:Bool->Option bz} {r:bz} (h:o9 xs f=aqV r) (t:Bool) (ao:t=aqW->xs=[]):f t=aqV r:=by
 unfold o9 at h;by_cases U:xs=[]
 ·rw[if_pos U] at h;split at h
  ·cases t
   ·rename_i he;rw[<-he];exact h
   ·exact h
  ·cases h
 ·rw[if_neg U] at h;cases t
  ·exact h
  ·exact absurd (ao rfl) U
theorem XS {au bz:Type} {xs:List au} {f:Bool->Option bz} {r:bz} (h:∀t,(t=aqW->xs=[])->f t=aqV r):o9 xs f=aqV r:=by
 unfold o9;by_cases U:xs=[]
 ·rw[if_pos U,if_pos (by rw[h aqW fun _=>U,h aqZ (by simp)])];exact h aqW fun _=>U
 ·rw[if_neg U];exact h aqZ (by simp)
section
variable {au bz:Type} {T:cf au} {z:Nat->a6} {e m:Mem} {k:Option Nat} {xs:List au} {v:aqX} {t u:aq4} {f:Bool->Option bz} {r:bz}
variable {P:aq1} {af:aq3->aqX} {o:Oper} {x y:aq3} {fR:aq4}
theorem GX (neq:Bool) (h:o.op= .binOp (if neq then .neq else .eql) t x y u) (ao:P.underlying t=aqV (.slice fR)) (U:af x= .slice aqY 0 0) (ag:af y= .slice aqY 0 0):cP P af o (.bool (!neq)):=by
 refine sB (x:=x) (y:=y) (by rw[h];rfl) (by rw[h];intros;simp) (by rw[U];rfl) (by rw[ag];rfl) rfl fun w=> ?_;have aH:(eqGuard (if neq then .neq else .eql) t x y (.slice aqY 0 0) (.slice aqY 0 0)).run P w= .ok () w:=by cases neq<;>simp[eqGuard]
 have aa:(binOp (if neq then .neq else .eql) t (.slice aqY 0 0) (.slice aqY 0 0)).run P w= .ok (.bool (!neq)) w:=by
  cases neq
  ·exact Lib.run_eql_slice_nil w t fR aqY 0 0 0 0 ao
  ·exact run_neq_slice_nil_any w t fR aqY 0 0 0 0 ao
 simp only[execOp,h,U,ag,ars,aH,aa,arn,arF]
theorem er.M1 (h:er T z xs v):(v= .slice aqY 0 0/\xs=[])\/∃a l c,v= .slice (aqV a) l c:=by
 rcases h with h|⟨b,off,c,rfl,_⟩
 ·exact .inl h
 ·exact .inr ⟨_,_,_,rfl⟩
theorem eG.M1 (h:eG T z m xs v):(v= .slice aqY 0 0/\xs=[])\/∃a l c,v= .slice (aqV a) l c:=by
 rcases h with h|⟨b,f0,L,c,rfl,_⟩
 ·exact .inl h
 ·exact .inr ⟨_,_,_,rfl⟩
end
end Go.aS
end
section
namespace Go.aS
section
variable {au:Type} {T:cf au} {z z':Nat->a6} {e m m':Mem} {k p q:Option Nat} {xs r:List au} {v:aqX} {t u:aq4} {b:Nat}
variable {P:aq1} {af:aq3->aqX} {o:Oper} {x y:aq3} {i:TypeInfo} {D:Tag->aqX->Mem->Prop} {fR:aq4}
theorem HN (h:o.op= .call {callee:= .builtin .len,args:=#[x],argTypes:=#[t]}) (ao:P.underlying t=aqV (.slice fR)) (U:af x=v) (ay:∃a c,v= .slice a xs.length c):cP P af o (.int .i64 xs.length):=by
 obtain ⟨a,c,rfl⟩:=ay;exact .len x t fR a _ c h ao U
theorem c6.elem {n:Int} {a:au} {f0 l c:Nat} (h:c6 T z e m k xs v) (ad:v= .slice (aqV ⟨b,f0,aqY⟩) l c) (aH:aR xs n=aqV a):
  ∃cs,T.rd z a cs/\xs[n.toNat]? =aqV a/\∀(j:Nat) (u:aqX),cs[j]? =aqV u->m.load b (f0+n.toNat*T.a1+j)=aqV u:=by
 obtain ⟨aI,h1,J⟩:=pe aH;rcases h.bf with ⟨_,rfl⟩|⟨b6,f1,L,bQ,rfl,aa,_,_,ah,_,aM⟩
 ·simp at J
 ·obtain ⟨cs,g1,g2⟩:=aM _ a J;cases ad;exact ⟨cs,g1,J,fun j u av=>by simp only[Mem.load,aa];exact g2 j u av⟩
def cf.as (T:cf au) (t:aq4):cf au:={T with tid:=t}
theorem ag7 {x0:au} {n:Nat} {c:List aqX} (h:o.op= .alloc t) (ae:P.info? t=aqV i) {ca:aqX} (aF:i.zero=aqV ca) (cg:ca.cells.toList.all cx=aqW) (ay:ca.cells.size=i.size) (ab:ca.cells.toList=(arx n c).flatten) (dG:T.rd z x0 c) (ar:ass n dr=aqW) (aO:cL z e m k)
  (hk:∀b m',cL z e m' k->c6 (T.as t) z e m' k (arx n x0) (.slice (aqV ⟨b,0,aqY⟩) n n)->e5 m m' aqY->(∀p,(∀c,p=aqV c->c<m.next)->ei p (aqV b))->D .new (.pointer (aqV ⟨b,0,aqY⟩)) m'):bZ P af o m D:=by
 obtain ⟨J,aj,aM,bq⟩:=O8 (L:=ca.cells.toList) (t:=t) aO;have hlen:=T.len _ _ _ dG;have ah:ca.cells.toList.length=n*T.a1:=by rw[ab];simp[hlen]
 have ln:n<dr:=by simp[ass] at ar;omega
 refine bZ.new (.alloc t i ca h ae aF cg ay) (hk _ _ J ⟨eG.Bb ⟨m.next,ca.cells.toList,n,by simp,aj.aG,aj.lt,aj.dead, ?_, .inr ⟨ln,by simp, ?_⟩,fun j x av=> ?_⟩,fun b aa=>by cases aa;exact aO.next⟩ aM bq)
 ·rw[ah];simp[cf.as]
 ·rw[ah];simp[cf.as]
 ·obtain ⟨aN,U⟩:=aq5.1 av;simp at aN U;subst U;refine ⟨c,dG,fun q u aJ=> ?_⟩;have B3:=(aq5.1 aJ).1;rw[ab];have key:∀(n j:Nat),j<n->(arx n c).flatten[j*T.a1+q]? =aqV u:=by
   intro n;induction n with
   |zero=>intro j av;omega
   |succ n a8=>
    intro j av;rw[aul,ati];cases j with
    |zero=>rw[ase,arh,arm B3];exact aJ
    |succ j=>rw[arl (by rw[hlen,at8];omega),hlen,show (j+1)*T.a1+q - T.a1=j*T.a1+q by rw[at8];omega];exact a8 j (by omega)
  exact key n j aN
theorem am2 {bs:aq2} {n:Int} {a:au} {l:Nat} (h:o.op= .indexAddr t x y) (ao:P.underlying t=aqV (.array l fR)) (ae:P.info? fR=aqV i) (bE:i.size=T.a1) (U:af x= .pointer (aqV ⟨b,0,aqY⟩)) (ag:af y= .int bs n) (ay:c6 T z e m k xs (.slice (aqV ⟨b,0,aqY⟩) l l)) (aH:aR xs n=aqV a)
  (hk:∀cs,T.rd z a cs->xs[n.toNat]? =aqV a->(∀(j:Nat) (u:aqX),cs[j]? =aqV u->m.load b (n.toNat*T.a1+j)=aqV u)->D .pure (.pointer (aqV ⟨b,n.toNat*T.a1,aqY⟩)) m):bZ P af o m D:=by
 obtain ⟨cs,g1,g2,g3⟩:=ay.elem rfl aH;obtain ⟨aI,h1,J⟩:=pe aH;have ah:xs.length=l:=by obtain ⟨a',bQ,he⟩:=ay.bf.len;injection he with _ he _;exact he.symm
 have:=cP.FN (P:=P) (af:=af) (o:=o) t x y fR i b 0 l bs n h ao ae U ag aI (by rw[<-ah];exact h1);rw[arh,bE] at this;exact bZ.pure this (hk _ g1 g2 (by simpa using g3))
end
end Go.aS
end
section
namespace Go.aS
structure lP (D:Nat->Type) where
 T:(t:Nat)->cf (D t)
 bS:(t:Nat)->D t->List aqX
section
variable (D:Nat->Type)
inductive bJ where
 |int (k:aq2) (n:Int)
 |bool (b:Bool)
 |str (s:List UInt8)
 |fz|y6|oi
 |az (e:Nat) (xs:List (D e))
 |mp (t kt vt:Nat) (es:List (D kt×D vt))
 |own (i:Nat)
 |wm
 |fn (f:Nat) (is:List Nat)
inductive aQ where
 |un|undef
 |c (v:bJ D)
 |agg (t:Nat) (cs:List (bJ D))
 |box (i off:Nat)
 |eZ (i:Nat)
 |el (i e:Nat) (cy:Int) (off:Nat)
 |fH (t:Nat) (cs:List (bJ D)) (off:Nat)
 |fn (f:Nat) (caps:List (Nat×List (bJ D)))
 |mL (l:List (bJ D⊕(Nat×List (bJ D))))
 |cut (i e bG n:Nat)
 |full (e:Nat) (xs:List (D e))
inductive aL where
 |dead
 |az (e:Nat) (xs:List (D e)) (bg w:Bool)
 |box (t:Nat) (cs:List (bJ D)) (bg w:Bool)
 |recv (t:Nat) (cs:List (bJ D)) (w:Bool)
 |eZ (e t n:Nat) (xs:List (D e)) (w:Bool)
 |map (t kt vt:Nat) (es:List (D kt×D vt)) (bg w:Bool)
 |nest (e t:Nat) (up:Option (List (D t)->D e)) (di:List (List (D t))) (hole:Option (Int×Nat)) (w:Bool)
end
section
variable {D:Nat->Type} (G:lP D)
def lP.M (t kt vt:Nat):nL (D kt) (D vt):=⟨G.bS kt,G.bS vt,t⟩
def rE (vs:List aqX) (i:Nat) (g:aqX):Prop:=vs[i]? =aqV g/\∃b,g= .pointer (aqV ⟨b,0,aqY⟩)
def dj (z:Nat->a6) (vs:List aqX):bJ D->aqX->Prop
 | .int k n,v=>v= .int k n
 | .bool b,v=>v= .bool b
 | .str s,v=>v=aS.str s
 | .fz,v=>v= .slice aqY 0 0
 | .y6,v=>v= .pointer aqY
 | .oi,v=>v= .map aqY
 | .az e xs,v=>er (G.T e) z xs v
 | .mp t kt vt es,v=>kL (G.M t kt vt) z es v
 | .own i,v=>vs[i]? =aqV v/\storable v=aqW/\v.cells=#[v]
 | .wm,v=>v= .nilFunc
 | .fn f is,v=>∃gs:List aqX,v= .func (.func f) #[] gs.toArray/\ba (rE vs) is gs
def u1 (z:Nat->a6) (vs:List aqX):bJ D⊕(Nat×List (bJ D))->aqX->Prop
 | .inl c,v=>dj G z vs c v
 | .inr p,v=>∃ds:List aqX,v= .agg ds.toArray/\ba (dj G z vs) p.2 ds
def l8 (z:Nat->a6) (vs:List aqX) (cs:List (bJ D)) (off:Nat) (v:aqX):Prop:=
 ∃b o ds,v= .pointer (aqV ⟨b,o+off,aqY⟩)/\nw z b o ds/\ba (dj G z vs) cs ds
def oF (a1 bG n:Nat) (w v:aqX):Prop:=
 (w= .slice aqY 0 0/\v= .slice aqY 0 0/\bG=0/\n=0)\/
 ∃b f0 l c off bQ,w= .slice (aqV ⟨b,f0,aqY⟩) l c/\v= .slice (aqV ⟨b,off,aqY⟩) (n - bG) bQ/\bG<=n/\n<=l/\(off=f0+bG*a1\/(n<=bG/\off=f0))/\((c=dr/\bQ=dr)\/(c<dr/\bQ=c - bG))
def rel (z:Nat->a6) (vs:List aqX):aQ D->aqX->Prop
 | .un,_=>True
 | .undef,v=>v=_root_.Go.undef
 | .c c,v=>dj G z vs c v
 | .agg _ cs,v=>∃ds:List aqX,v= .agg ds.toArray/\ba (dj G z vs) cs ds
 | .box i off,v=>∃b,vs[i]? =aqV (.pointer (aqV ⟨b,0,aqY⟩))/\v= .pointer (aqV ⟨b,off,aqY⟩)
 | .eZ i,v=>∃b l,vs[i]? =aqV (.slice (aqV ⟨b,0,aqY⟩) l l)/\v= .pointer (aqV ⟨b,0,aqY⟩)
 | .el i e cy off,v=>∃b f0 l c,vs[i]? =aqV (.slice (aqV ⟨b,f0,aqY⟩) l c)/\v= .pointer (aqV ⟨b,f0+cy.toNat*(G.T e).a1+off,aqY⟩)
 | .fH _ cs off,v=>l8 G z vs cs off v
 | .fn f caps,v=>∃gs:List aqX,v= .func (.func f) #[] gs.toArray/\ba (fun c g=>l8 G z vs c.2 0 g) caps gs
 | .mL l,v=>∃ds:List aqX,v= .tuple ds.toArray/\ba (u1 G z vs) l ds
 | .cut i e bG n,v=>∃w,dj G z vs (.own i) w/\oF (G.T e).a1 bG n w v
 | .full e xs,v=>er (G.T e) z xs v/\xs.length<dr/\∃a,v= .slice a xs.length xs.length
def qx (t:aq4):cf aqX where
 a1:=1
 tid:=t
 rd:=fun _ v cs=>cs=[v]/\storable v=aqW/\v.cells=#[v]
 len:=fun _ v cs h=>by rw[h.1];rfl
 mono:=fun _ _ _ _ _ h=>h
 one:=fun _ v cs h c ab=>by rw[h.1] at ab;simp at ab;subst ab;exact h.2
def tp {au:Type} (T:cf au) (z:Nat->a6) (n df j:Nat) (xs:List au) (w:aqX):Prop:=
 (w= .slice aqY 0 0/\xs=[])\/
 ∃b f0 L c,w= .slice (aqV ⟨b,f0,aqY⟩) xs.length c/\z b= .lock df j L T.tid/\n<=b/\f0+xs.length*T.a1<=L.length/\(c=dr\/(c<dr/\xs.length<=c/\f0+c*T.a1<=L.length))/\
  ∀(i:Nat) (x:au),xs[i]? =aqV x->∃cs,T.rd z x cs/\qb L (f0+i*T.a1) cs
def Jm (z z':Nat->a6) (n:Nat):Prop:=∀b j L t,z b= .lock n j L t->z' b=z b
theorem tp.ic {au:Type} {T:cf au} {z z':Nat->a6} {n df j:Nat} {xs:List au} {w:aqX} (h:tp T z n df j xs w) (aF:et z z') (hk:Jm z z' df):tp T z' n df j xs w:=by
 rcases h with h|⟨b,f0,L,c,h1,J,aj,aM,bq,dv⟩
 ·exact .inl h
 ·refine .inr ⟨b,f0,L,c,h1,by rw[hk b j L _ J];exact J,aj,aM,bq,fun i x ae=> ?_⟩;obtain ⟨cs,g1,g2⟩:=dv i x ae;exact ⟨cs,T.mono _ _ aF _ _ g1,g2⟩
theorem tp.EF {au:Type} {T:cf au} {z:Nat->a6} {n n' df j:Nat} {xs:List au} {w:aqX} (h:tp T z n df j xs w) (ar:n'<=n):tp T z n' df j xs w:=by
 rcases h with h|⟨b,f0,L,c,h1,J,aj,aM⟩
 ·exact .inl h
 ·exact .inr ⟨b,f0,L,c,h1,J,arq ar aj,aM⟩
def eP (v:aqX):Nat:=match cp v with|some b=>b+1|none=>0
def Tt (e t:Nat) (up:Option (List (D t)->D e)):Prop:=∀f,up=aqV f->(G.T e).a1=1/\(G.T e).tid=e/\∀z xs c,er (G.T t) z xs c->(G.T e).rd z (f xs) [c]
structure tt {au:Type} (dt:Nat) (T:cf au) (z:Nat->a6) (e m:Mem) (k:Option Nat) (vs:List aqX) (di:List (List au)) (hole:Option (Int×Nat)) (v:aqX) (ws:List aqX):Prop where
 bf:c6 (qx dt) z e m k ws v
 len:ws.length=di.length
 nn:∀(j:Nat) (w:aqX) (xs:List au),ws[j]? =aqV w->di[j]? =aqV xs->(∀p,hole=aqV p->(j:Int)≠p.1)->tp T z e.next (eP v) j xs w
 out:∀p,hole=aqV p->0<=p.1/\∃w,vs[p.2]? =aqV w/\ws[p.1.toNat]? =aqV w
def fI (z:Nat->a6) (e m:Mem) (k:Option Nat) (vs:List aqX):aL D->aqX->Prop
 | .dead,_=>True
 | .az t xs aqZ _,v=>c6 (G.T t) z e m k xs v
 | .az t xs aqW _,v=>er (G.T t) z xs v
 | .box t cs aqZ _,v=>∃b ds,v= .pointer (aqV ⟨b,0,aqY⟩)/\ie z e m k b ds t/\e.next<=b/\ba (dj G z vs) cs ds
 | .box t cs aqW _,v=>∃b ds,v= .pointer (aqV ⟨b,0,aqY⟩)/\nw z b 0 ds/\ba (dj G z vs) cs ds
 | .recv t cs _,v=>∃b ds,v= .pointer (aqV ⟨b,0,aqY⟩)/\ie z e m k b ds t/\ba (dj G z vs) cs ds
 | .eZ t u n xs _,v=>(∃b,v= .slice (aqV ⟨b,0,aqY⟩) n n)/\c6 ((G.T t).as u) z e m k xs v
 | .map t kt vt es aqZ _,v=>h2 (G.M t kt vt) z e m k es v
 | .map t kt vt es aqW _,v=>kL (G.M t kt vt) z es v
 | .nest dt t up di hole _,v=>Tt G dt t up/\∃ws,tt dt (G.T t) z e m k vs di hole v ws
def aL.live:aL D->Bool
 | .az _ _ bg _| .box _ _ bg _| .map _ _ _ _ bg _=> !bg
 | .recv _ _ _| .eZ _ _ _ _ _| .nest _ _ _ _ _ _=>aqW
 | .dead=>aqZ
def aL.k6:aL D->Bool
 | .az _ _ _ w| .box _ _ _ w| .recv _ _ w| .eZ _ _ _ _ w| .map _ _ _ _ _ w=>w
 | .nest _ _ _ _ h w=>w||h.isSome
 | .dead=>aqW
structure Inv (O bD:List (aL D)):Prop where
 len:O.length<=bD.length
 dh:∀(i:Nat) (o:aL D),i<O.length->bD[i]? =aqV o->o.live=aqW->o.k6=aqZ->O[i]? =aqV o
theorem Inv.refl (O:List (aL D)):Inv O O:=⟨aq9 _,fun _ _ _ h _ _=>h⟩
theorem Inv.trans {O bD tu:List (aL D)} (h:Inv O bD) (k:Inv bD tu):Inv O tu:=⟨arq h.len k.len,fun i o ae ai ah hw=>h.dh i o ae (k.dh i o (aru ae h.len) ai ah hw) ah hw⟩
theorem Inv.push (O:List (aL D)) (o:aL D):Inv O (O++[o]):=⟨by simp,fun i p ae ap _ _=>by rw[arm ae] at ap;exact ap⟩
theorem Inv.set (O:List (aL D)) (i:Nat) {o:aL D} (h:o.live=aqZ\/o.k6=aqW):Inv O (O.set i o):=⟨by simp,fun j p av ap ah hw=>by
 rw[arv] at ap;split at ap
 ·split at ap
  ·cases ap;rcases h with h|h
   ·rw[h] at ah;cases ah
   ·rw[h] at hw;cases hw
  ·cases ap
 ·exact ap⟩
def da:aqX->Option Nat
 | .slice (aqV a) _ _=>aqV a.block
 | .pointer (aqV a)=>aqV a.block
 | .map r=>r
 |_=>aqY
theorem fM {v:aqX} (h:∀r,v≠ .map r):da v=cp v:=by
 cases v with
 |slice a l c=>cases a<;>rfl
 |pointer a=>cases a<;>rfl
 |map r=>exact absurd rfl (h r)
 |_=>rfl
structure bm (O:List (aL D)) (z:Nat->a6) (e m:Mem) (k:Option Nat) (vs:List aqX):Prop where
 aO:cL z e m k
 len:vs.length=O.length
 obj:∀(i:Nat) (o:aL D) (v:aqX),O[i]? =aqV o->vs[i]? =aqV v->fI G z e m k vs o v
 eD:∀(i j:Nat) (o p:aL D) (v w:aqX),i≠j->O[i]? =aqV o->O[j]? =aqV p->o.live=aqW->p.live=aqW->vs[i]? =aqV v->vs[j]? =aqV w->ei (da v) (da w)
variable {G}
theorem dj.mono {z z':Nat->a6} {vs vs':List aqX} {c:bJ D} {v:aqX} (h:dj G z vs c v) (aF:et z z') (ad:∀(i:Nat) (u:aqX),vs[i]? =aqV u->vs'[i]? =aqV u):dj G z' vs' c v:=by
 cases c with
 |az e xs=>exact er.mono aF h
 |mp t kt vt es=>exact kL.mono h aF
 |own i=>exact ⟨ad _ _ h.1,h.2⟩
 |fn f is=>obtain ⟨gs,h1,J⟩:=h;exact ⟨gs,h1,ba.mono (fun _ _ h=>⟨ad _ _ h.1,h.2⟩) J⟩
 |_=>exact h
theorem nB.mono {z z':Nat->a6} {vs vs':List aqX} {cs:List (bJ D)} {ds:List aqX} (h:ba (dj G z vs) cs ds) (aF:et z z') (ad:∀(i:Nat) (u:aqX),vs[i]? =aqV u->vs'[i]? =aqV u):ba (dj G z' vs') cs ds:=ba.mono (fun _ _ h=>dj.mono h aF ad) h
theorem l8.mono {z z':Nat->a6} {vs vs':List aqX} {cs:List (bJ D)} {off:Nat} {v:aqX} (h:l8 G z vs cs off v) (aF:et z z') (ad:∀(i:Nat) (u:aqX),vs[i]? =aqV u->vs'[i]? =aqV u):l8 G z' vs' cs off v:=by
 obtain ⟨b,o,ds,h1,J,aj⟩:=h;exact ⟨b,o,ds,h1,Gb aF J,nB.mono aj aF ad⟩
theorem u1.mono {z z':Nat->a6} {vs vs':List aqX} {c:bJ D⊕(Nat×List (bJ D))} {v:aqX} (h:u1 G z vs c v) (aF:et z z') (ad:∀(i:Nat) (u:aqX),vs[i]? =aqV u->vs'[i]? =aqV u):u1 G z' vs' c v:=by
 cases c with
 |inl c=>exact dj.mono h aF ad
 |inr p=>obtain ⟨ds,h1,J⟩:=h;exact ⟨ds,h1,nB.mono J aF ad⟩
theorem rel.mono {z z':Nat->a6} {vs vs':List aqX} {s:aQ D} {v:aqX} (h:rel G z vs s v) (aF:et z z') (ad:∀(i:Nat) (u:aqX),vs[i]? =aqV u->vs'[i]? =aqV u):rel G z' vs' s v:=by
 cases s with
 |un=>trivial
 |undef=>exact h
 |c c=>exact dj.mono h aF ad
 |agg t cs=>obtain ⟨ds,h1,J⟩:=h;exact ⟨ds,h1,nB.mono J aF ad⟩
 |box i off=>obtain ⟨b,h1,J⟩:=h;exact ⟨b,ad _ _ h1,J⟩
 |eZ i=>obtain ⟨b,l,h1,J⟩:=h;exact ⟨b,l,ad _ _ h1,J⟩
 |el i e cy off=>obtain ⟨b,f0,l,c,h1,J⟩:=h;exact ⟨b,f0,l,c,ad _ _ h1,J⟩
 |fH t cs off=>exact l8.mono h aF ad
 |fn f caps=>obtain ⟨gs,h1,J⟩:=h;exact ⟨gs,h1,ba.mono (fun _ _ h=>l8.mono h aF ad) J⟩
 |mL l=>obtain ⟨ds,h1,J⟩:=h;exact ⟨ds,h1,ba.mono (fun _ _ h=>u1.mono h aF ad) J⟩
 |cut i e bG n=>obtain ⟨w,h1,J⟩:=h;exact ⟨w,dj.mono h1 aF ad,J⟩
 |full e xs=>exact ⟨er.mono aF h.1,h.2⟩
theorem NZ {vs:List aqX}:∀{is:List Nat} {gs:List aqX},ba (rE vs) is gs->gs.all wU=aqW
 |[],[],_=>rfl
 |[],_::_,h=>h.elim
 |_::_,[],h=>h.elim
 |_::_,_::_,⟨⟨_,_,h⟩,J⟩=>by subst h;simp only[arR,NZ J,wU,Bool.and_self]
theorem dj.ZB {z:Nat->a6} {vs:List aqX} {c:bJ D} {v:aqX} (h:dj G z vs c v):storable v=aqW/\v.cells=#[v]:=by
 cases c with
 |az e xs=>obtain ⟨a,c,rfl⟩:=er.len h;exact ⟨rfl,rfl⟩
 |mp t kt vt es=>rcases h with ⟨rfl,_⟩|⟨r,rfl,_⟩<;>exact ⟨rfl,rfl⟩
 |own i=>exact h.2
 |fn f is=>obtain ⟨gs,rfl,J⟩:=h;exact ⟨by simp only[storable,NZ J];rfl,rfl⟩
 |_=>obtain rfl:=h;exact ⟨rfl,rfl⟩
theorem fI.same {z:Nat->a6} {e m m':Mem} {k q:Option Nat} {vs vs':List aqX} {o:aL D} {v:aqX} (h:fI G z e m k vs o v) (s:e5 m m' q) (eD:o.live=aqW->ei (da v) q) (ad:∀(i:Nat) (u:aqX),vs[i]? =aqV u->vs'[i]? =aqV u):fI G z e m' k vs' o v:=by
 have Q1:=et.refl z;cases o with
 |dead=>trivial
 |az t xs bg w=>
  cases bg with
  |true=>exact h
  |false=>have h:c6 (G.T t) z e m k xs v:=h;have eD:=eD rfl;rw[fM (by obtain ⟨a,c,rfl⟩:=h.bf.len;intro r;simp)] at eD;exact h.same s eD
 |box t cs bg w=>
  cases bg with
  |true=>obtain ⟨b,ds,h1,J,aj⟩:=h;exact ⟨b,ds,h1,J,nB.mono aj Q1 ad⟩
  |false=>obtain ⟨b,ds,rfl,J,aM,aj⟩:=h;exact ⟨b,ds,rfl,J.same s (eD rfl),aM,nB.mono aj Q1 ad⟩
 |recv t cs w=>obtain ⟨b,ds,rfl,J,aj⟩:=h;exact ⟨b,ds,rfl,J.same s (eD rfl),nB.mono aj Q1 ad⟩
 |eZ t u n xs w=>obtain ⟨⟨b,rfl⟩,h⟩:=h;exact ⟨⟨b,rfl⟩,h.same s (eD rfl)⟩
 |map t kt vt es bg w=>
  cases bg with
  |true=>exact h
  |false=>have h:h2 (G.M t kt vt) z e m k es v:=h;have eD:=eD rfl;obtain ⟨r,rfl,_⟩:=h.bf;exact h.same s eD
 |nest dt t up di hole w=>obtain ⟨hu,ws,h⟩:=h;have eD:=eD rfl;rw[fM (by obtain ⟨a,c,rfl⟩:=h.bf.bf.len;intro r;simp)] at eD;refine ⟨hu,ws,h.bf.same s eD,h.len,h.nn,fun p ap=> ?_⟩;obtain ⟨aI,u,h1,J⟩:=h.out p ap;exact ⟨aI,u,ad _ _ h1,J⟩
theorem fI.ic {z z':Nat->a6} {e m:Mem} {k:Option Nat} {vs:List aqX} {o:aL D} {v:aqX} (h:fI G z e m k vs o v) (aF:et z z') (aa:o.live=aqW->∀b,da v=aqV b->z' b=z b) (hk:o.live=aqW->Jm z z' (eP v)):fI G z' e m k vs o v:=by
 have ad:∀(i:Nat) (u:aqX),vs[i]? =aqV u->vs[i]? =aqV u:=fun _ _ h=>h;cases o with
 |dead=>trivial
 |az t xs bg w=>
  cases bg with
  |true=>exact er.mono aF h
  |false=>have h:c6 (G.T t) z e m k xs v:=h;have aa:=aa rfl;rw[fM (by obtain ⟨a,c,rfl⟩:=h.bf.len;intro r;simp)] at aa;exact h.ic aF aa
 |box t cs bg w=>
  cases bg with
  |true=>obtain ⟨b,ds,h1,J,aj⟩:=h;exact ⟨b,ds,h1,Gb aF J,nB.mono aj aF ad⟩
  |false=>obtain ⟨b,ds,rfl,J,aM,aj⟩:=h;exact ⟨b,ds,rfl,J.ic (aa rfl),aM,nB.mono aj aF ad⟩
 |recv t cs w=>obtain ⟨b,ds,rfl,J,aj⟩:=h;exact ⟨b,ds,rfl,J.ic (aa rfl),nB.mono aj aF ad⟩
 |eZ t u n xs w=>obtain ⟨⟨b,rfl⟩,h⟩:=h;exact ⟨⟨b,rfl⟩,h.ic aF (aa rfl)⟩
 |map t kt vt es bg w=>
  cases bg with
  |true=>exact kL.mono h aF
  |false=>have h:h2 (G.M t kt vt) z e m k es v:=h;have aa:=aa rfl;obtain ⟨r,rfl,_⟩:=h.bf;exact h.ic aF aa
 |nest dt t up di hole w=>obtain ⟨hu,ws,h⟩:=h;have aa:=aa rfl;rw[fM (by obtain ⟨a,c,rfl⟩:=h.bf.bf.len;intro r;simp)] at aa;exact ⟨hu,ws,h.bf.ic aF aa,h.len,fun j w xs h1 J aj=>(h.nn j w xs h1 J aj).ic aF (hk rfl),h.out⟩
theorem fI.lt {z:Nat->a6} {e m:Mem} {k:Option Nat} {vs:List aqX} {o:aL D} {v:aqX} (h:fI G z e m k vs o v) (ah:o.live=aqW):∀b,da v=aqV b->b<m.next/\z b= .dead/\(e.next<=b\/k=aqV b):=by
 cases o with
 |dead=>cases ah
 |az t xs bg w=>
  cases bg with
  |true=>cases ah
  |false=>have h:c6 (G.T t) z e m k xs v:=h;rw[fM (by obtain ⟨a,c,rfl⟩:=h.bf.len;intro r;simp)];exact fun b aa=>⟨h.lt b aa,h.aJ b aa⟩
 |box t cs bg w=>
  cases bg with
  |true=>cases ah
  |false=>obtain ⟨b,ds,rfl,J,aM,aj⟩:=h;intro c ab;cases ab;exact ⟨J.lt,J.dead,J.fresh⟩
 |recv t cs w=>obtain ⟨b,ds,rfl,J,aj⟩:=h;intro c ab;cases ab;exact ⟨J.lt,J.dead,J.fresh⟩
 |eZ t u n xs w=>obtain ⟨⟨b,rfl⟩,h⟩:=h;intro c ab;cases ab;exact ⟨h.lt b rfl,h.aJ b rfl⟩
 |map t kt vt es bg w=>
  cases bg with
  |true=>cases ah
  |false=>have h:h2 (G.M t kt vt) z e m k es v:=h;obtain ⟨r,rfl,_⟩:=h.bf;exact fun b aa=>⟨h.lt b aa,h.aJ b aa⟩
 |nest dt t up di hole w=>obtain ⟨hu,ws,h⟩:=h;rw[fM (by obtain ⟨a,c,rfl⟩:=h.bf.bf.len;intro r;simp)];exact fun b aa=>⟨h.bf.lt b aa,h.bf.aJ b aa⟩
variable {O:List (aL D)} {z z':Nat->a6} {e m m':Mem} {k q:Option Nat} {vs:List aqX}
theorem bm.at (h:bm G O z e m k vs) {i:Nat} {o:aL D} (ai:O[i]? =aqV o):∃v,vs[i]? =aqV v/\fI G z e m k vs o v:=by
 have aN:=(aq5.1 ai).1;have yL:i<vs.length:=by rw[h.len];exact aN
 exact ⟨vs[i],ary yL,h.obj i o _ ai (ary yL)⟩
theorem bm.mM (h:bm G O z e m k vs) {i:Nat} {o o':aL D} {v:aqX} (ai:O[i]? =aqV o) (ad:vs[i]? =aqV v) (ah:o.live=aqW) (s:e5 m m' (da v)) (aO:cL z e m' k) (ar:fI G z e m' k vs o' v):bm G (O.set i o') z e m' k vs:=by
 have aN:=(aq5.1 ai).1;refine ⟨aO,by rw[asq];exact h.len,fun j p w av hw=> ?_,fun a b p dJ u w eF aq aa fQ j0 hu hw=> ?_⟩
 ·rw[arv] at av;split at av
  ·rename_i cY;subst cY;cases av;rw[ad] at hw;cases hw;exact ar
  ·rename_i cY;exact (h.obj j p w av hw).same s (fun ap=>h.eD j i p o w v (fun e=>cY e.symm) av ai ap ah hw ad) fun _ _ h=>h
 ·have key:∀(a:Nat) (p:aL D),(O.set i o')[a]? =aqV p->p.live=aqW->∃se,O[a]? =aqV se/\se.live=aqW:=by
   intro a p aq ap;rw[arv] at aq;split at aq
   ·rename_i BH;subst BH;exact ⟨o,ai,ah⟩
   ·exact ⟨p,aq,ap⟩
  obtain ⟨c8,g1,g2⟩:=key a p aq fQ;obtain ⟨dR,g3,g4⟩:=key b dJ aa j0;exact h.eD a b c8 dR u w eF g1 g3 g2 g4 hu hw
theorem iy {vs ws:List aqX}:∀(i:Nat) (u:aqX),vs[i]? =aqV u->(vs++ws)[i]? =aqV u:=fun i u h=>by
 rw[arm (aq5.1 h).1];exact h
theorem bm.push (h:bm G O z e m k vs) {o':aL D} {bl:aqX} (s:e5 m m' q) (aO:cL z e m' k) (aJ:∀(i:Nat) (o:aL D) (v:aqX),O[i]? =aqV o->vs[i]? =aqV v->o.live=aqW->ei (da v) q)
  (ar:fI G z e m' k (vs++[bl]) o' bl) (dy:∀p,(∀b,p=aqV b->b<m.next)->ei p q->ei p (da bl)):bm G (O++[o']) z e m' k (vs++[bl]):=by
 refine ⟨aO,by simp[h.len],fun j p w av hw=> ?_,fun a b p dJ u w eF aq aa fQ j0 hu hw=> ?_⟩
 ·by_cases aN:j<O.length
  ·rw[arm aN] at av;rw[arm (by rw[h.len];exact aN)] at hw;exact (h.obj j p w av hw).same s (fun ap=>aJ j p w av hw ap) iy
  ·rw[arl (by omega)] at av;rw[arl (by rw[h.len];omega),h.len] at hw;have:j - O.length=0:=by have:=(aq5.1 av).1;simp at this;omega
   rw[this] at av hw;simp at av hw;subst av hw;exact ar
 ·have dh:∀(a:Nat) (p:aL D) (u:aqX),a<O.length->(O++[o'])[a]? =aqV p->(vs++[bl])[a]? =aqV u->O[a]? =aqV p/\vs[a]? =aqV u:=by
   intro a p u aN aq hu;rw[arm aN] at aq;rw[arm (by rw[h.len];exact aN)] at hu;exact ⟨aq,hu⟩
  have new:∀(a:Nat) (p:aL D) (u:aqX),¬a<O.length->(O++[o'])[a]? =aqV p->(vs++[bl])[a]? =aqV u->a=O.length/\u=bl:=by
   intro a p u aN aq hu;rw[arl (by omega)] at aq;have aI:a - O.length=0:=by have:=(aq5.1 aq).1;simp at this;omega
   rw[arl (by rw[h.len];omega),h.len,aI] at hu;simp at hu;exact ⟨by omega,hu.symm⟩
  have lt:∀(a:Nat) (p:aL D) (u:aqX),O[a]? =aqV p->vs[a]? =aqV u->p.live=aqW->ei (da u) (da bl):=fun a p u aq hu ah=>dy _ (fun b aa=>((h.obj a p u aq hu).lt ah b aa).1) (aJ a p u aq hu ah);by_cases h1:a<O.length
  ·obtain ⟨c0,a2⟩:=dh a p u h1 aq hu;by_cases J:b<O.length
   ·obtain ⟨e6,gj⟩:=dh b dJ w J aa hw;exact h.eD a b p dJ u w eF c0 e6 fQ j0 a2 gj
   ·obtain ⟨_,rfl⟩:=new b dJ w J aa hw;exact lt a p u c0 a2 fQ
  ·obtain ⟨aX,rfl⟩:=new a p u h1 aq hu;by_cases J:b<O.length
   ·obtain ⟨e6,gj⟩:=dh b dJ w J aa hw;exact (lt b dJ w e6 gj j0).symm
   ·obtain ⟨e2,_⟩:=new b dJ w J aa hw;omega
theorem bm.il (h:bm G O z e m k vs) {i:Nat} {o o':aL D} {v:aqX} (ai:O[i]? =aqV o) (ad:vs[i]? =aqV v) (ah:o.live=aqW) (fk:o'.live=aqZ) (aF:et z z') (aO:cL z' e m k) (aa:∀p,ei p (da v)->∀b,p=aqV b->z' b=z b) (ar:fI G z' e m k vs o' v):bm G (O.set i o') z' e m k vs:=by
 have aN:=(aq5.1 ai).1;refine ⟨aO,by rw[asq];exact h.len,fun j p w av hw=> ?_,fun a b p dJ u w eF aq cu fQ j0 hu hw=> ?_⟩
 ·rw[arv] at av;split at av
  ·rename_i cY;subst cY;cases av;rw[ad] at hw;cases hw;exact ar
  ·rename_i cY;exact (h.obj j p w av hw).ic aF (fun ap=>aa _ (h.eD j i p o w v (fun e=>cY e.symm) av ai ap ah hw ad)) fun _ b j L t cu=>aa (aqV b) (fun c ab mx=>by
    cases ab;have:=((h.obj i o v ai ad).lt ah b mx).2.1;rw[this] at cu;cases cu) b rfl
 ·have key:∀(a:Nat) (p:aL D),(O.set i o')[a]? =aqV p->p.live=aqW->O[a]? =aqV p:=by
   intro a p aq ap;rw[arv] at aq;split at aq
   ·rename_i BH;subst BH;cases aq;rw[fk] at ap;cases ap
   ·exact aq
  exact h.eD a b p dJ u w eF (key a p aq fQ) (key b dJ cu j0) fQ j0 hu hw
end
end Go.aS
end
section
namespace Go.aS
section
variable {D:Nat->Type} {G:lP D} {O:List (aL D)} {z z':Nat->a6} {e m m':Mem} {k q:Option Nat} {vs vs':List aqX}
theorem Hu {v w:aqX} (h:ei (cp v) (cp w)):eP v≠eP w\/eP v=0:=by
 unfold eP;cases ad:cp v with
 |none=>exact .inr rfl
 |some b=>
  cases hw:cp w with
  |none=>exact .inl (by simp)
  |some c=>refine .inl fun ax=>h b ad ?_;rw[hw];simp at ax;rw[ax]
theorem OH {r:Option Nat}:eP (.map r)=0:=rfl
theorem bm.Ec (h:bm G O z e m k vs) {i:Nat} {o o':aL D} {v:aqX} {p:Option Nat} (ai:O[i]? =aqV o) (ad:vs[i]? =aqV v) (ah:o.live=aqW) (n4:∀r,v≠ .map r) (aF:et z z') (s:e5 m m' (da v)) (aO:cL z' e m' k)
  (ap:∀(j:Nat) (q:aL D) (w:aqX),j≠i->O[j]? =aqV q->q.live=aqW->vs[j]? =aqV w->ei (da w) p)
  (UG:∀b,p=aqV b->z b= .dead)
  (aa:∀b,da v≠aqV b->p≠aqV b->(eP v=0\/∀j L t,z b≠ .lock (eP v) j L t)->z' b=z b) (ar:fI G z' e m' k vs o' v):bm G (O.set i o') z' e m' k vs:=by
 have aN:=(aq5.1 ai).1;refine ⟨aO,by rw[asq];exact h.len,fun j q w av hw=> ?_,fun a b cm cw u w eF aq cu fQ j0 hu hw=> ?_⟩
 ·rw[arv] at av;split at av
  ·rename_i cY;subst cY;cases av;rw[ad] at hw;cases hw;exact ar
  ·rename_i cY;have b0:=h.obj j q w av hw;refine ((b0.same s (fun aJ=>h.eD j i q o w v (fun e=>cY e.symm) av ai aJ ah hw ad) fun _ _ h=>h).ic aF (fun aJ b LS=> ?_) fun aJ b bX L t nf=> ?_)
   ·have h1:=b0.lt aJ b LS;refine aa b (h.eD j i q o w v (fun e=>cY e.symm) av ai aJ ah hw ad b LS) (ap j q w (fun e=>cY e.symm) av aJ hw b LS) (.inr fun j L t ax=> ?_);rw[h1.2.1] at ax;cases ax
   ·refine aa b (fun ax=> ?_) (fun ax=> ?_) ?_
    ·have:=((h.obj i o v ai ad).lt ah b ax).2.1;rw[this] at nf;cases nf
    ·rw[UG b ax] at nf;cases nf
    ·by_cases aI:eP v=0
     ·exact .inl aI
     ·refine .inr fun qV ba t2 ax=> ?_;rw[nf] at ax;have aX:eP w=eP v:=by injection ax
      have dy:=h.eD j i q o w v (fun e=>cY e.symm) av ai aJ ah hw ad;rw[fM n4] at dy;by_cases tW:∃r,w= .map r
      ·obtain ⟨r,rfl⟩:=tW;rw[OH] at aX;exact aI aX.symm
      ·rw[fM (fun r an=>tW ⟨r,an⟩)] at dy;rcases Hu dy with ax|ax
       ·exact ax aX
       ·exact aI (by rw[<-aX];exact ax)
 ·have key:∀(a:Nat) (p:aL D),(O.set i o')[a]? =aqV p->p.live=aqW->∃se,O[a]? =aqV se/\se.live=aqW:=by
   intro a p aq ap;rw[arv] at aq;split at aq
   ·rename_i BH;subst BH;exact ⟨o,ai,ah⟩
   ·exact ⟨p,aq,ap⟩
  obtain ⟨c8,g1,g2⟩:=key a cm aq fQ;obtain ⟨dR,g3,g4⟩:=key b cw cu j0;exact h.eD a b c8 dR u w eF g1 g3 g2 g4 hu hw
theorem bm.Ng (h:bm G O z e m k vs) {o':aL D} {bl:aqX} (ar:fI G z e m k (vs++[bl]) o' bl) (dy:o'.live=aqW->∀(j:Nat) (q:aL D) (w:aqX),O[j]? =aqV q->q.live=aqW->vs[j]? =aqV w->ei (da w) (da bl)):bm G (O++[o']) z e m k (vs++[bl]):=by
 have dh:∀(a:Nat) (p:aL D) (u:aqX),(O++[o'])[a]? =aqV p->(vs++[bl])[a]? =aqV u->(O[a]? =aqV p/\vs[a]? =aqV u)\/(a=O.length/\p=o'/\u=bl):=by
  intro a p u aq hu;by_cases aN:a<O.length
  ·rw[arm aN] at aq;rw[arm (by rw[h.len];exact aN)] at hu;exact .inl ⟨aq,hu⟩
  ·have aI:=(aq5.1 aq).1;simp at aI;have:a=O.length:=by omega
   subst this;rw[arl (by omega)] at aq;rw[arl (by rw[h.len];omega),h.len] at hu;simp at aq hu;exact .inr ⟨rfl,aq.symm,hu.symm⟩
 refine ⟨h.aO,by simp[h.len],fun j p w av hw=> ?_,fun a b p dJ u w eF aq aa fQ j0 hu hw=> ?_⟩
 ·rcases dh j p w av hw with ⟨h1,J⟩|⟨_,rfl,rfl⟩
  ·exact (h.obj j p w h1 J).same (q:=aqY) ⟨aq9 _,h.aO.dead,fun _ _ _=>rfl⟩ (fun _=>ei.q0) iy
  ·exact ar
 ·rcases dh a p u aq hu with ⟨c0,a2⟩|⟨aX,rfl,rfl⟩
  ·rcases dh b dJ w aa hw with ⟨e6,gj⟩|⟨e2,rfl,rfl⟩
   ·exact h.eD a b p dJ u w eF c0 e6 fQ j0 a2 gj
   ·exact dy j0 a p u c0 fQ a2
  ·rcases dh b dJ w aa hw with ⟨e6,gj⟩|⟨e2,rfl,rfl⟩
   ·exact (dy fQ b dJ w e6 j0 gj).symm
   ·omega
theorem bm.an0 (h:bm G O z e m k vs) {i:Nat} {o':aL D} {v:aqX} (ae:i<O.length) (ad:vs[i]? =aqV v) (ar:fI G z e m k vs o' v) (dy:∀(j:Nat) (q:aL D) (w:aqX),j≠i->O[j]? =aqV q->q.live=aqW->vs[j]? =aqV w->ei (da w) (da v)):bm G (O.set i o') z e m k vs:=by
 have dh:∀(a:Nat) (p:aL D),(O.set i o')[a]? =aqV p->(a≠i/\O[a]? =aqV p)\/(a=i/\p=o'):=by
  intro a p aq;by_cases LL:i=a
  ·subst LL;rw[List.getElem?_set_self ae] at aq;exact .inr ⟨rfl,(arr.inj aq).symm⟩
  ·rw[as2 LL] at aq;exact .inl ⟨fun ax=>LL ax.symm,aq⟩
 refine ⟨h.aO,by rw[asq];exact h.len,fun j p w av hw=> ?_,fun a b p q u w eF aq aa fQ j0 hu hw=> ?_⟩
 ·rcases dh j p av with ⟨_,h1⟩|⟨rfl,rfl⟩
  ·exact h.obj j p w h1 hw
  ·rw[ad] at hw;cases hw;exact ar
 ·rcases dh a p aq with ⟨c0,a2⟩|⟨rfl,rfl⟩
  ·rcases dh b q aa with ⟨e6,gj⟩|⟨rfl,rfl⟩
   ·exact h.eD a b p q u w eF a2 gj fQ j0 hu hw
   ·rw[ad] at hw;cases hw;exact dy a p u c0 a2 fQ hu
  ·rcases dh b q aa with ⟨e6,gj⟩|⟨rfl,rfl⟩
   ·rw[ad] at hu;cases hu;exact (dy b q w e6 gj j0 hw).symm
   ·exact absurd rfl eF
variable {au:Type} {T:cf au} {dt:Nat} {di:List (List au)} {ws:List aqX} {v:aqX}
open Classical in
noncomputable def rc (z:Nat->a6) (n:Nat) (e m:Mem) (v:aqX):Nat->a6:=fun b=>
 match z b with
 | .lock n' j L t=>if n'=n/\n≠0/\e.next<=b then .own L t else .lock n' j L t
 |x=>if cp v=aqV b then m.aG b else x
theorem aeG {bz:Type} {vq:cf bz} {f:List au->bz} (h:tt dt T z e m k vs di aqY v ws) (h1:vq.a1=1) (J:vq.tid=dt) (an:∀z xs c,er T z xs c->vq.rd z (f xs) [c]) (aO:cL z e m k):
  ∃z',cT e.next z z'/\cL z' e m k/\er vq z' (di.map f) v/\∀b,da v≠aqV b->(eP v=0\/∀j L t,z b≠ .lock (eP v) j L t)->z' b=z b:=by
 have ad:da v=cp v:=fM (by obtain ⟨a,c,rfl⟩:=h.bf.bf.len;intro r;simp);have yy:=fun b (aa:cp v=aqV b)=>(h.bf.bf.lt b aa).2;have other:∀b,cp v≠aqV b->(∀n j L t,z b≠ .lock n j L t)->rc z (eP v) e m v b=z b:=by
  intro b aa ar;unfold rc;split
  ·rename_i n j L t aF;exact absurd aF (ar n j L t)
  ·rw[if_neg aa]
 have Fy:∀b n j L t,z b= .lock n j L t->rc z (eP v) e m v b=if n=eP v/\eP v≠0/\e.next<=b then .own L t else .lock n j L t:=by intro b n j L t aa;unfold rc;rw[aa]
 have lX:∀b,cp v=aqV b->rc z (eP v) e m v b=m.aG b:=by intro b aa;unfold rc;rw[yy b aa];simp only;rw[if_pos aa]
 have hle:et z (rc z (eP v) e m v):=fun b aa=>other b (fun ax=>by rw[yy b ax] at aa;exact aa) fun n j L t ax=>by rw[ax] at aa;exact aa
 refine ⟨rc z (eP v) e m v,⟨hle,fun b aa=> ?_⟩,⟨fun b aa=> ?_,aO.dead,aO.lR,aO.next,aO.kept⟩, ?_,fun b aa ar=> ?_⟩
 ·cases aF:z b with
  |lock n j L t=>rw[Fy b n j L t aF,if_neg (by omega)]
  |_=>have:=other b (fun ax=>by have:=h.bf.fresh b ax;omega) (fun n j L t ax=>by rw[aF] at ax;cases ax);rw[this,aF]
 ·by_cases hB:cp v=aqV b
  ·rw[lX b hB];have:=h.bf.U7 b hB;exact ⟨this.2.symm,this.1⟩
  ·cases aF:z b with
   |lock n j L t=>
    have:=aO.bg b (by rw[aF];simp);rw[aF] at this;rw[Fy b n j L t aF];split
    ·exact this
    ·exact this
   |_=>have aj:=other b hB (fun n j L t ax=>by rw[aF] at ax;cases ax);rw[aj] at aa⊢;exact aO.bg b aa
 ·have nn:∀(j:Nat) (w:aqX) (xs:List au),ws[j]? =aqV w->di[j]? =aqV xs->er T (rc z (eP v) e m v) xs w:=by
   intro j w xs hw U;rcases h.nn j w xs hw U (fun p ap=>by cases ap) with ax|⟨b,f0,L,c,rfl,g2,g3,g4,g5,g6⟩
   ·exact .inl ax
   ·have kC:rc z (eP v) e m v b= .own L T.tid:=by
     have aI:eP v≠0:=by
      intro aI;unfold eP at aI;rcases h.bf.bf with ⟨rfl,nm⟩|⟨b6,o',L',bQ,rfl,_⟩
      ·rw[nm] at hw;simp at hw
      ·simp[cp] at aI
     rw[Fy b _ _ _ _ g2,if_pos ⟨rfl,aI,g3⟩]
    refine .inr ⟨b,f0,c,rfl,by rw[kC];exact ari, ?_,fun i x ae=> ?_⟩
    ·rcases g5 with g5|⟨g5,g7,_⟩
     ·exact .inl ⟨g5,L,kC,g4⟩
     ·exact .inr ⟨g5,g7⟩
    ·obtain ⟨cs,cm,cw⟩:=g6 i x ae;refine ⟨cs,T.mono _ _ hle _ _ cm,fun a u aq=> ?_⟩;simp only[kY,kC];exact cw a u aq
  rcases h.bf.bf with ⟨rfl,nm⟩|⟨b,f0,L,c,rfl,g1,g2,g3,g4,g5,g6⟩
  ·have:di=[]:=List.length_eq_zero_iff.1 (by rw[<-h.len,nm];rfl);subst this;exact .inl ⟨rfl,rfl⟩
  ·have kC:=lX b rfl;rw[g1] at kC;have ah:(di.map f).length=ws.length:=by rw[List.length_map,h.len]
   refine .inr ⟨b,f0,c,by rw[ah],by rw[kC];exact ari, ?_,fun i x ae=> ?_⟩
   ·rcases g5 with g5|⟨g5,g7,_⟩
    ·exact .inl ⟨g5,L,by rw[kC,J];rfl,by rw[ah,h1];exact g4⟩
    ·exact .inr ⟨g5,by rw[ah];exact g7⟩
   ·rw[arH] at ae;obtain ⟨xs,U,rfl⟩:=Option.map_eq_some_iff.1 ae;have aN:i<ws.length:=by rw[h.len];exact (aq5.1 U).1
    have hw:=ary aN;obtain ⟨cs,cm,cw⟩:=g6 i _ hw;refine ⟨[ws[i]],an _ _ _ (nn i _ xs hw U),fun a u aq=> ?_⟩;rw[cm.1] at cw;simp only[kY,kC,h1];exact cw a u aq
 ·rw[ad] at aa;cases aF:z b with
  |lock n j L t=>
   rw[Fy b n j L t aF,if_neg];rintro ⟨rfl,aI,_⟩;rcases ar with ar|ar
   ·exact aI ar
   ·exact ar j L t aF
  |_=>have aj:=other b aa (fun n j L t ax=>by rw[aF] at ax;cases ax);rw[aj,aF]
theorem agR {FP j:Nat} {w:aqX} {xs:List au} (h:tt dt T z e m k vs di aqY v ws) (aO:cL z e m k) (hw:ws[j]? =aqV w) (U:di[j]? =aqV xs) (av:∀(i:Nat) (u:aqX),vs[i]? =aqV u->vs'[i]? =aqV u) (ab8:vs'[FP]? =aqV w):
  ∃z',cT e.next z z'/\cL z' e m k/\tt dt T z' e m k vs' di (aqV ((j:Int),FP)) v ws/\c6 T z' e m k xs w/\(∀b,z' b=z b\/cp w=aqV b/\eP v≠0/\∃L t,z b= .lock (eP v) j L t)/\∀b,cp w=aqV b->z b≠ .dead:=by
 have keep:∀{z'},et z z'->(∀b,z' b=z b\/cp w=aqV b/\eP v≠0/\∃L t,z b= .lock (eP v) j L t)->(∀b,cp v=aqV b->z' b=z b)->tt dt T z' e m k vs' di (aqV ((j:Int),FP)) v ws:=by
  intro z' hle qH pW;refine ⟨h.bf.ic hle pW,h.len,fun qV fo QK g1 g2 g3=> ?_,fun p ap=>by cases ap;exact ⟨by simp,w,ab8,by simpa using hw⟩⟩;have b8:qV≠j:=fun ax=>g3 _ rfl (by rw[ax]);rcases h.nn qV fo QK g1 g2 (fun p ap=>by cases ap) with ax|⟨b,f0,L,c,cm,cw,dW,fG,l3,lB⟩
  ·exact .inl ax
  ·refine .inr ⟨b,f0,L,c,cm, ?_,dW,fG,l3,fun i x ae=> ?_⟩
   ·rcases qH b with ax|⟨_,_,ba,t2,ax⟩
    ·rw[ax];exact cw
    ·rw[cw] at ax;exact absurd (by injection ax) b8
   ·obtain ⟨cs,fg,e1⟩:=lB i x ae;exact ⟨cs,T.mono _ _ hle _ _ fg,e1⟩
 rcases h.nn j w xs hw U (fun p ap=>by cases ap) with ⟨rfl,rfl⟩|⟨b,f0,L,c,rfl,g2,g3,g4,g5,g6⟩
 ·exact ⟨z,cT.refl z,aO,keep (et.refl z) (fun b=> .inl rfl) (fun _ _=>rfl),c6.nil,fun b=> .inl rfl,fun b aa=>by cases aa⟩
 ·have aI:eP v≠0:=by
   intro aI;unfold eP at aI;rcases h.bf.bf with ⟨rfl,nm⟩|⟨b6,o',L',bQ,rfl,_⟩
   ·rw[nm] at hw;simp at hw
   ·simp[cp] at aI
  let z':Nat->a6:=fun c=>if c=b then .dead else z c
  have aX:z' b= .dead:=if_pos rfl;have e2:∀c,c≠b->z' c=z c:=fun c ab=>if_neg ab;have hle:et z z':=fun c ab=>e2 c (fun ax=>by rw[ax,g2] at ab;exact ab);have qH:∀bQ,z' bQ=z bQ\/cp (aso (aqV ⟨b,f0,aqY⟩) xs.length c)=aqV bQ/\eP v≠0/\∃L t,z bQ= .lock (eP v) j L t:=fun bQ=>by
   by_cases ab:bQ=b
   ·subst ab;exact .inr ⟨rfl,aI,L,_,g2⟩
   ·exact .inl (e2 bQ ab)
  have yB:=aO.bg b (by rw[g2];simp);rw[g2] at yB;refine ⟨z',⟨hle,fun c ab=>e2 c (by omega)⟩,⟨fun c ab=> ?_,aO.dead,aO.lR,aO.next,aO.kept⟩,keep hle qH (fun c ab=>e2 c (fun ax=> ?_)),⟨.inr ⟨b,f0,L,c,rfl,yB.1,yB.2,aX,g4,g5,fun i x ae=> ?_⟩,fun c ab=>by cases ab;exact g3⟩,qH,fun c ab=>by cases ab;rw[g2];simp⟩
  ·by_cases dE:c=b
   ·subst dE;rw[aX] at ab;exact absurd rfl ab
   ·rw[e2 c dE] at ab⊢;exact aO.bg c ab
  ·subst ax;have:=(h.bf.bf.lt c ab).2;rw[g2] at this;cases this
  ·obtain ⟨cs,fg,e1⟩:=g6 i x ae;exact ⟨cs,T.mono _ _ hle _ _ fg,e1⟩
theorem OD {hole:Option (Int×Nat)} {j:Nat} {w:aqX} {xs:List au} {IH:List aqX} (h:tt dt T z e m k vs di hole v ws) (aO:cL z e m' k) (ai:c6 (qx dt) z e m' k IH v) (nm:IH=ws.set j w) (av:j<ws.length) (ax:∀p,hole=aqV p->p.1=(j:Int)) (hw:c6 T z e m' k xs w) (dy:ei (cp w) (cp v)):
  ∃z',cT e.next z z'/\cL z' e m' k/\tt dt T z' e m' k vs (di.set j xs) aqY v IH/\∀b,z' b=z b\/cp w=aqV b:=by
 have keep:∀{z'},et z z'->(∀b,z' b=z b\/cp w=aqV b)->tp T z' e.next (eP v) j xs w->tt dt T z' e m' k vs (di.set j xs) aqY v IH:=by
  intro z' hle qH fC;refine ⟨ai.ic hle fun b aa=> ?_,by rw[nm,asq,asq];exact h.len,fun qV fo QK g1 g2 g3=> ?_,fun p ap=>by cases ap⟩
  ·rcases qH b with ab|ab
   ·exact ab
   ·exact absurd aa (dy b ab)
  ·rw[nm,arv] at g1;rw[arv] at g2;by_cases he:j=qV
   ·subst he;rw[if_pos rfl,if_pos av] at g1;rw[if_pos rfl,if_pos (by rw[<-h.len];exact av)] at g2;cases g1;cases g2;exact fC
   ·rw[if_neg he] at g1 g2;rcases h.nn qV fo QK g1 g2 (fun p ap ap8=>he (by have:=ax p ap;omega)) with ab|⟨b,f0,L,c,cm,cw,dW,fG,l3,lB⟩
    ·exact .inl ab
    ·refine .inr ⟨b,f0,L,c,cm, ?_,dW,fG,l3,fun i x ae=> ?_⟩
     ·rcases qH b with ab|ab
      ·rw[ab];exact cw
      ·have:=(hw.bf.lt b ab).2;rw[this] at cw;cases cw
     ·obtain ⟨cs,fg,e1⟩:=lB i x ae;exact ⟨cs,T.mono _ _ hle _ _ fg,e1⟩
 rcases hw.bf with ⟨rfl,rfl⟩|⟨b,f0,L,c,rfl,g1,g2,g3,g4,g5,g6⟩
 ·exact ⟨z,cT.refl z,aO,keep (et.refl z) (fun b=> .inl rfl) (.inl ⟨rfl,rfl⟩),fun b=> .inl rfl⟩
 ·let z':Nat->a6:=fun c=>if c=b then .lock (eP v) j L T.tid else z c
  have aX:z' b= .lock (eP v) j L T.tid:=if_pos rfl;have e2:∀c,c≠b->z' c=z c:=fun c ab=>if_neg ab;have hle:et z z':=fun c ab=>e2 c (fun ax=>by rw[ax,g3] at ab;exact ab);have qH:∀bQ,z' bQ=z bQ\/cp (aso (aqV ⟨b,f0,aqY⟩) xs.length c)=aqV bQ:=fun bQ=>by
   by_cases ab:bQ=b
   ·subst ab;exact .inr rfl
   ·exact .inl (e2 bQ ab)
  have ga:=hw.fresh b rfl;refine ⟨z',⟨hle,fun c ab=>e2 c (by omega)⟩,⟨fun c ab=> ?_,aO.dead,aO.lR,aO.next,aO.kept⟩,keep hle qH (.inr ⟨b,f0,L,c,rfl,aX,ga,g4,g5,fun i x ae=> ?_⟩),qH⟩
  ·by_cases dE:c=b
   ·subst dE;rw[aX];exact ⟨g1,g2⟩
   ·rw[e2 c dE] at ab⊢;exact aO.bg c ab
  ·obtain ⟨cs,fg,e1⟩:=g6 i x ae;exact ⟨cs,T.mono _ _ hle _ _ fg,e1⟩
end
end Go.aS
end
section
namespace Go.aS
noncomputable section
section
variable {P:aq1} {D:Nat->Type}
def zJ:bJ D->Bool
 | .fz| .y6| .oi| .own _=>aqZ
 |_=>aqW
def o8:bJ D->Bool
 | .own _=>aqZ
 | .fn _ is=>is.isEmpty
 |_=>aqW
def oJ:List (bJ D)->List (bJ D)->Prop
 |[],[]=>True
 |c::cs,d::ds=>(zJ c=aqW->d=c)/\oJ cs ds
 |_,_=>False
theorem oJ.eq:∀{cs ds:List (bJ D)},oJ cs ds->cs.all zJ=aqW->cs=ds
 |[],[],_,_=>rfl
 |c::cs,d::ds,h,ar=>by simp only[arR,ara] at ar;rw[h.1 ar.1,oJ.eq h.2 ar.2]
 |[],_::_,h,_=>h.elim
 |_::_,[],h,_=>h.elim
theorem oJ.refl:∀(cs:List (bJ D)),oJ cs cs
 |[]=>trivial
 |_::cs=>⟨fun _=>rfl,oJ.refl cs⟩
structure fw (P:aq1) (G:lP D) (t:Nat) where
 lv:D t->List (bJ D)
 pc:List (bJ D)->Option (D t)
 x0:D t
 i:TypeInfo
 ca:aqX
 tid:(G.T t).tid=t
 ae:P.info? t=aqV i
 bE:i.size=(G.T t).a1
 dQ:((G.T t).a1==0)=aqZ
 fZ:arz i.bytes 32768=aqW
 aF:i.zero=aqV ca
 cg:ca.cells.toList.all cx=aqW
 dp:ca.cells.size=i.size
 xr:∀z,(G.T t).rd z x0 ca.cells.toList
 rf:∀z vs x cs,(G.T t).rd z x cs->ba (dj G z vs) (lv x) cs
 q1:∀z vs cs x ds,pc cs=aqV x->ba (dj G z vs) cs ds->(G.T t).rd z x ds
 Nb:∀x,pc (lv x)=aqV x
 F6:∀cs x,pc cs=aqV x->oJ cs (lv x)
 qu:List (bJ D)
 r3:∀z vs,ba (dj G z vs) qu ca.cells.toList
 MV:∀x,(lv x).all o8=aqW
structure Q2 (P:aq1) (G:lP D) (t:Nat) where
 e:Nat
 n:Nat
 ti:fw P G e
 i:TypeInfo
 ca:aqX
 hu:P.underlying t=aqV (.array n e)
 ae:P.info? t=aqV i
 aF:i.zero=aqV ca
 cg:ca.cells.toList.all cx=aqW
 dp:ca.cells.size=i.size
 r3:ca.cells.toList=(arx n ti.ca.cells.toList).flatten
 ar:ass n dr=aqW
structure Ek (P:aq1) (G:lP D) (kt vt:Nat) where
 dec:DecidableEq (D kt)
 K:j7 P kt (G.bS kt)
 V:lQ P vt (G.bS vt)
 og:aQ D->Option (D kt)
 ta:bJ D->Option (D vt)
 oC:D vt->bJ D
 z0:D vt
 i:TypeInfo
 ae:P.info? vt=aqV i
 aF:i.zero=aqV (c4 (cW P vt) (G.bS vt z0))
 rR:∀z vs s a v,og s=aqV a->rel G z vs s v->v=c4 (cW P kt) (G.bS kt a)
 yT:∀z vs c a v,ta c=aqV a->dj G z vs c v->v=c4 (cW P vt) (G.bS vt a)
 lY:∀z vs a,dj G z vs (oC a) (c4 (cW P vt) (G.bS vt a))
 tU:cW P vt=aqZ
structure Q3 (P:aq1) (G:lP D) (e:Nat) where
 to:List (D e)->List UInt8
 of:List UInt8->List (D e)
 an:∀z xs v,er (G.T e) z xs v->er (kq e) z (to xs) v
 ai:∀z m0 m k xs v,c6 (G.T e) z m0 m k xs v->c6 (kq e) z m0 m k (to xs) v
 aa:∀z m0 m k xs v,c6 (kq e) z m0 m k xs v->c6 (G.T e) z m0 m k (of xs) v
 i:TypeInfo
 hu:P.underlying e=aqV (.int .u8)
 ae:P.info? e=aqV i
 hg:i.size=1
structure mT (P:aq1) (G:lP D) (t:Nat) where
 bc:Array Field
 eq:D t->D t->Bool
 dq:D t->List aqX
 ao:P.underlying t=aqV (.struct bc)
 ap:P.stoodInHeld t=aqZ
 aH:P.eqGuardType P.depth t=aqZ
 ay:∀x y,mi P bc.toList 0 (dq x) (dq y)
 ad:∀z x ds,(G.T t).rd z x ds->ds=dq x
 he:∀x y,eq x y=aqW↔dq x=dq y
structure pH (P:aq1) (G:lP D) where
 f:Nat
 g:Nat
 e:Nat
 iC:List (D e)->Option (List (D e))
 dq:D e->List aqX
 ad:∀z x ds,(G.T e).rd z x ds->ds=dq x
 an:∀z x,(G.T e).rd z x (dq x)
 aP:∀x,(dq x).all cx=aqW
 ok:mA P f=aqW
 aI:Y2 P f (.func (.func g) #[] #[])
 ar:∀xs bi,iC xs=aqV bi->bi.length=xs.length
 ay:∀xs bi,iC xs=aqV bi->0<xs.length->PT P f (.func (.func g) #[] #[]) xs.length (xs.flatMap dq) (bi.flatMap dq)
structure pF (P:aq1) (G:lP D) (e t:Nat) where
 up:List (D t)->D e
 bE:(G.T e).a1=1
 tid:(G.T e).tid=e
 an:∀z xs c,er (G.T t) z xs c->(G.T e).rd z (up xs) [c]
 i:TypeInfo
 ae:P.info? e=aqV i
 aF:i.zero=aqV (.slice aqY 0 0)
 h1:i.size=1
 fZ:arz i.bytes 32768=aqW
 hu:P.underlying e=aqV (.slice t)
 ao:(G.T t).tid=t
structure dB (P:aq1) (D:Nat->Type) where
 G:lP D
 S:List (pH P G):=[]
 I:(t:Nat)->Option (fw P G t)
 A:(t:Nat)->Option (Q2 P G t)
 Jj:(kt vt:Nat)->Option (Ek P G kt vt)
 B:(e:Nat)->Option (Q3 P G e)
 Q:(t:Nat)->Option (mT P G t)
 N:(e t:Nat)->Option (pF P G e t):=fun _ _=>aqY
 F:(f:Nat)->List (aQ D)->List (aL D)->Bool
 dF:aq3->Option aq3->Option aq3->Nat:=fun _ _ _=>0
 W:(f:Nat)->Bool:=fun _=>aqZ
 C:(f:Nat)->List (aQ D)->List (aL D)->{af:Type}->(aQ D->List (aL D)->Option af)->Option af
variable (X:dB P D) {af:Type}
def eg:List (Nat×aQ D)->Nat->aQ D
 |[],_=> .un
 |p::E,i=>if ard p.1 i=aqW then p.2 else eg E i
def lA (E:List (Nat×aQ D)):Option Nat->aQ D->List (Nat×aQ D)
 |none,_=>E
 |some d,v=>(d,v)::E
def M6:aqX->aQ D
 | .int k n=> .c (.int k n)
 | .bool b=> .c (.bool b)
 | .string b=> .c (.str b.data.toList)
 | .slice aqY 0 0=> .c .fz
 | .pointer aqY=> .c .y6
 | .map aqY=> .c .oi
 | .nilFunc=> .c .wm
 |_=> .un
def cn (E:List (Nat×aQ D)):aq3->aQ D
 | .tmp t=>eg E t
 | .const v=>M6 v
 | .func f=> .fn f []
 | .global _=> .un
def HK:aq3->Bool
 | .const (.int _ n)=>n !=0
 |_=>aqZ
def EH (op:BinOp) (y:aq3) (k:aq2) (a b:Int) (K:bJ D->Option af):Option af:=
 match op with
 | .add=>K (.int k (k.wrap (a+b)))
 | .sub=>K (.int k (k.wrap (a - b)))
 | .mul=>K (.int k (k.wrap (a*b)))
 | .and=>K (.int k (uJ .and k a b))
 | .or=>K (.int k (uJ .or k a b))
 | .xor=>K (.int k (uJ .xor k a b))
 | .andNot=>K (.int k (uJ .andNot k a b))
 | .eql=>K (.bool (a==b))
 | .neq=>K (.bool (a !=b))
 | .lss=>K (.bool (decide (a<b)))
 | .leq=>K (.bool (decide (a<=b)))
 | .gtr=>K (.bool (decide (b<a)))
 | .geq=>K (.bool (decide (b<=a)))
 | .quo=>if HK y=aqW then K (.int k (k.wrap (Int.tdiv a b))) else aq0 (yj a b) fun c=>K (.int k (k.wrap c))
 | .rem=>if HK y=aqW then K (.int k (Int.tmod a b)) else aq0 (r7 a b) fun c=>K (.int k c)
 |_=>aqY
def TA (op:BinOp) (s r:List UInt8) (K:bJ D->Option af):Option af:=
 match op with
 | .add=>aq0 (dP s r) fun q=>K (.str q)
 | .eql=>K (.bool (s==r))
 | .neq=>K (.bool (!(s==r)))
 | .lss=>K (.bool (uZ s r))
 | .leq=>K (.bool (uZ s r||(s==r)))
 | .gtr=>K (.bool (!(uZ s r||(s==r))))
 | .geq=>K (.bool (!uZ s r))
 |_=>aqY
def Tz (op:BinOp) (a b:Bool) (K:bJ D->Option af):Option af:=
 match op with
 | .eql=>K (.bool (a==b))
 | .neq=>K (.bool (!(a==b)))
 |_=>aqY
def Pw:aq3->Bool
 | .const (.slice aqY 0 0)=>aqW
 |_=>aqZ
def pr (O:List (aL D)):aQ D->Option ((e:Nat)×List (D e))
 | .c (.az e xs)=>aqV ⟨e,xs⟩
 | .c (.own i)=>
  match O[i]? with
  |some (.az e xs _ _)=>aqV ⟨e,xs⟩
  |_=>aqY
 |_=>aqY
def Yl:aq3->Option Nat
 | .const (.int _ (.ofNat n))=>aqV n
 |_=>aqY
def Zz (k:aq2) (b:Int):Option Nat:=if 0<=b then aqV (min b.toNat k.bits) else aqY
def Ae (left:Bool) (k:aq2) (a:Int) (n:Nat):Int:=if left=aqW then k.wrap (a*((2 ^ n:Nat):Int)) else a.fdiv ((2 ^ n:Nat):Int)
def Iy (left:Bool) (y:aq3) (k:aq2) (a b:Int) (K:bJ D->Option af):Option af:=
 match Yl y with
 |some n=>if arz n k.bits=aqW then K (.int k (Ae left k a n)) else aqY
 |none=>aq0 (Zz k b) fun n=>K (.int k (Ae left k a n))
def Ll (op:BinOp) (t t1:Nat) (c1:List (bJ D)) (t2:Nat) (c2:List (bJ D)) (K:bJ D->Option af):Option af:=
 match X.I t,X.Q t with
 |some ti,aqV mI=>
  match ti.pc c1,ti.pc c2 with
  |some a,aqV b=>(match op with| .eql=>K (.bool (mI.eq a b))| .neq=>K (.bool (!(mI.eq a b)))|_=>aqY)
  |_,_=>aqY
 |_,_=>aqY
def JI (op:BinOp) (t:aq4) (y:aq3) (O:List (aL D)) (a b:aQ D) (K:bJ D->Option af):Option af:=
 match a,b with
 | .c (.int k a), .c (.int dc b)=>(match op with| .shl=>Iy aqW y k a b K| .shr=>Iy aqZ y k a b K|op=>if k=dc then EH op y k a b K else aqY)
 | .c (.str s), .c (.str r)=>TA op s r K
 | .c (.bool a), .c (.bool b)=>match P.underlying t with|some .bool=>Tz op a b K|_=>aqY
 |a,_=>
  match op,P.underlying t,Pw y with
  | .eql,aqV (.slice _),aqW=>
   match a with
   | .c .fz=>K (.bool aqW)
   |a=>match pr O a with|some ⟨_,xs⟩=>o9 xs fun t=>K (.bool t)|none=>aqY
  | .neq,aqV (.slice _),aqW=>
   match a with
   | .c .fz=>K (.bool aqZ)
   |a=>match pr O a with|some ⟨_,xs⟩=>o9 xs fun t=>K (.bool (!t))|none=>aqY
  |_,_,_=>aqY
def xx:List (bJ D)->Nat->List (bJ D)->List (bJ D)
 |L,_,[]=>L
 |L,o,v::vs=>xx (L.set o v) (o+1) vs
def vy (O:List (aL D)) (i:Nat):Option (bJ D×List (aL D)):=
 match O[i]? with
 |some (.az e xs _ w)=>aqV (.az e xs,O.set i (.az e xs aqW w))
 |some (.map t kt vt es _ w)=>aqV (.mp t kt vt es,O.set i (.map t kt vt es aqW w))
 |some (.nest e t (aqV up) di aqY w)=>aqV (.az e (di.map up),O.set i (.az e (di.map up) aqW w))
 |_=>aqY
def rJ (O:List (aL D)):bJ D->Option (bJ D×List (aL D))
 | .own i=>vy O i
 |c=>aqV (c,O)
def Bm (O:List (aL D)):List (bJ D)->Option (List (bJ D)×List (aL D))
 |[]=>aqV ([],O)
 |c::cs=>
  match rJ O c with
  |some (bQ,bD)=>match Bm bD cs with|some (cs',tu)=>aqV (bQ::cs',tu)|none=>aqY
  |none=>aqY
def zG:aQ D->Option (List (bJ D))
 | .c c=>aqV [c]
 | .agg _ cs=>aqV cs
 | .fn f []=>aqV [.fn f []]
 |_=>aqY
def EZ (O:List (aL D)) (s:aQ D):Option (List (bJ D)×List (aL D)):=
 match zG s with
 |some cs=>Bm O cs
 |none=>aqY
def pq (t:aq4) (cs:List (bJ D)) (off:Nat) (K:aQ D->Option af):Option af:=
 match P.underlying t with
 |none=>aqY
 |some d=>
  if jL d=aqW then
   match P.info? t with
   |none=>aqY
   |some i=>if ((cs.drop off).take i.size).length=i.size then K (.agg t ((cs.drop off).take i.size)) else aqY
  else
   match cs[off]? with
   |some c=>K (.c c)
   |none=>aqY
def aqD (O:List (aL D)) (e:Nat):aQ D->Option (List (D e)×List (aL D))
 | .c .fz=>aqV ([],O)
 | .c c=>
  match rJ O c with
  |some (.az bx xs,bD)=>if h:bx=e then aqV (h▸xs,bD) else aqY
  |_=>aqY
 |_=>aqY
def DF:aq3->aq3->Bool
 | .tmp a, .tmp b=>ard a b
 | .const (.int _ a), .const (.int _ b)=>a==b
 |_,_=>aqZ
structure Sw (D:Nat->Type) where
 u:Nat
 kt:Nat
 vt:Nat
 es:List (D kt×D vt)
def PZ (O:List (aL D)):aQ D->Option (Sw D)
 | .c (.mp u k v es)=>aqV ⟨u,k,v,es⟩
 | .c (.own i)=>(match O[i]? with|some (.map u k v es _ _)=>aqV ⟨u,k,v,es⟩|_=>aqY)
 |_=>aqY
def P3 (t:aq4) (a b:aQ D) (O:List (aL D)) (K:aQ D->List (aL D)->Option af):Option af:=
 match b with
 | .c (.int _ n)=>
  match a with
  | .eZ i=>
   match O[i]? with
   |some (.eZ e u n' xs _)=>
    match X.I e,P.underlying t with
    |some _,aqV (.array l bx)=>if bx=e/\l=n' then aq0 (aR xs n) fun _=>K (.el i e n 0) O else aqY
    |_,_=>aqY
   |_=>aqY
  | .c (.az e xs)=>
   match X.I e,P.underlying t with
   |some ti,aqV (.slice bx)=>if bx=e then aq0 (aR xs n) fun a=>K (.fH e (ti.lv a) 0) O else aqY
   |_,_=>aqY
  | .c (.own i)=>
   match O[i]? with
   |some (.az e xs bg _)=>
    match X.I e,P.underlying t with
    |some ti,aqV (.slice bx)=>if bx=e then aq0 (aR xs n) fun a=>if bg=aqW then K (.fH e (ti.lv a) 0) O else K (.el i e n 0) O else aqY
    |_,_=>aqY
   |some (.nest e t1 _ di _ _)=>
    match X.N e t1,P.underlying t with
    |some _,aqV (.slice bx)=>if bx=e then aq0 (aR di n) fun _=>K (.el i e n 0) O else aqY
    |_,_=>aqY
   |_=>aqY
  | .cut i e bG ae=>
   match O[i]? with
   |some (.az aX xs aqZ _)=>
    match X.I e,P.underlying t with
    |some _,aqV (.slice bx)=>if bx=e/\aX=e then aq0 (aR ((xs.take ae).drop bG) n) fun _=>K (.el i e ((bG:Int)+n) 0) O else aqY
    |_,_=>aqY
   |_=>aqY
  |_=>aqY
 |_=>aqY
def P2 (t:aq4) (n:Nat) (a:aQ D) (O:List (aL D)) (K:aQ D->List (aL D)->Option af):Option af:=
 match P.underlying t with
 |some (.struct bc)=>
  match bc[n]? with
  |some f=>
   match P.info? f.type with
   |some k=>
    if k.size=0 then aqY else
    match a with
    | .box i off=>K (.box i (off+f.offset)) O
    | .fH c7 cs off=>K (.fH c7 cs (off+f.offset)) O
    | .el i e cy off=>K (.el i e cy (off+f.offset)) O
    |_=>aqY
   |none=>aqY
  |none=>aqY
 |_=>aqY
def wY (O:List (aL D)) (i:Nat):Option (List (aL D)):=
 match O[i]? with
 |some (.nest _ _ _ _ aqY _)=>aqV O
 |some (.nest e t up di (aqV p) _)=>
  match O[p.2]? with
  |some (.az c7 xs aqZ _)=>if h:c7=t then aqV ((O.set i (.nest e t up (di.set p.1.toNat (h▸xs)) aqY aqW)).set p.2 .dead) else aqY
  |_=>aqY
 |_=>aqY
def OF (t:aq4) (i e:Nat) (cy:Int) (off:Nat) (O:List (aL D)) (K:aQ D->List (aL D)->Option af):Option af:=
 match wY O i with
 |some bL=>
  match bL[i]? with
  |some (.nest aX t1 up di aqY w)=>
   match X.N aX t1 with
   |some _=>if aX=e/\t=e/\off=0 then aq0 (aR di cy) fun xs=>K (.c (.own bL.length)) (bL.set i (.nest aX t1 up di (aqV (cy,bL.length)) w)++[.az t1 xs aqZ aqZ]) else aqY
   |none=>aqY
  |_=>aqY
 |none=>aqY
def Pp:Option (aL D)->Bool
 |some (.nest _ _ _ _ _ _)=>aqW
 |_=>aqZ
def Hs (t:aq4) (a:aQ D) (O:List (aL D)) (K:aQ D->List (aL D)->Option af):Option af:=
 match a with
 | .fH _ cs off=>pq (P:=P) t cs off fun v=>K v O
 | .box i off=>
  match O[i]? with
  |some (.box _ cs _ _)=>pq (P:=P) t cs off fun v=>K v O
  |some (.recv _ cs _)=>pq (P:=P) t cs off fun v=>K v O
  |_=>aqY
 | .el i e cy off=>
  if Pp O[i]? =aqW then OF X t i e cy off O K else
  match O[i]?,X.I e with
  |some (.az bx xs _ _),aqV ti=>if h:bx=e then aq0 (aR (h▸xs:List (D e)) cy) fun a=>pq (P:=P) t (ti.lv a) off fun v=>K v O else aqY
  |some (.eZ bx _ _ xs _),aqV ti=>if h:bx=e then aq0 (aR (h▸xs:List (D e)) cy) fun a=>pq (P:=P) t (ti.lv a) off fun v=>K v O else aqY
  |_,_=>aqY
 |_=>aqY
def XU (t:aq4) (a:aQ D) (O:List (aL D)) (K:aQ D->List (aL D)->Option af):Option af:=
 Hs X t a O fun c3 bD=>match c3 with
  | .c (.own j)=>(match vy bD j with|some (c,cX)=>K (.c c) cX|none=>aqY)
  |_=>aqY
def N7 (t:aq4) (i e:Nat) (cy:Int) (off:Nat) (b:aQ D) (O:List (aL D)) (K:aQ D->List (aL D)->Option af):Option af:=
 match b with
 | .c (.own j)=>
  match O[i]?,O[j]? with
  |some (.nest aX t1 up di hole _),aqV (.az t2 xs aqZ _)=>
   match X.N aX t1 with
   |some _=>
    if h:t2=t1 then
     if aX=e/\t=e/\off=0 then
      match hole with
      |none=>aq0 (aR di cy) fun _=>K .undef ((O.set i (.nest aX t1 up (di.set cy.toNat (h▸xs)) aqY aqW)).set j .dead)
      |some p=>if p.1=cy then aq0 (aR di cy) fun _=>K .undef ((O.set i (.nest aX t1 up (di.set cy.toNat (h▸xs)) aqY aqW)).set j .dead) else aqY
     else aqY
    else aqY
   |none=>aqY
  |_,_=>aqY
 | .c .fz=>
  match O[i]? with
  |some (.nest aX t1 up di hole _)=>
   match X.N aX t1 with
   |some _=>
    if aX=e/\t=e/\off=0 then
     match hole with
     |none=>aq0 (aR di cy) fun _=>K .undef (O.set i (.nest aX t1 up (di.set cy.toNat []) aqY aqW))
     |some p=>if p.1=cy then aq0 (aR di cy) fun _=>K .undef (O.set i (.nest aX t1 up (di.set cy.toNat []) aqY aqW)) else aqY
    else aqY
   |none=>aqY
  |_=>aqY
 |_=>aqY
def OS (t:aq4) (a b:aQ D) (O:List (aL D)) (K:aQ D->List (aL D)->Option af):Option af:=
 match P.info? t with
 |none=>aqY
 |some k=>
  match a with
  | .box i off=>
   match zG b with
   |none=>aqY
   |some new=>
    if new.length=k.size then
     match O[i]? with
     |some (.box u cs aqZ _)=>if off+new.length<=cs.length then K .undef (O.set i (.box u (xx cs off new) aqZ aqW)) else aqY
     |some (.recv u cs _)=>if off+new.length<=cs.length then K .undef (O.set i (.recv u (xx cs off new) aqW)) else aqY
     |_=>aqY
    else aqY
  | .el i e cy off=>
   if Pp O[i]? =aqW then N7 X t i e cy off b O K else
   match EZ O b with
   |none=>aqY
   |some (new,O)=>
    if new.length=k.size then
     match O[i]?,X.I e with
     |some (.az bx xs aqZ _),aqV ti=>
      if h:bx=e then aq0 (aR (h▸xs:List (D e)) cy) fun a=>if off+new.length<=(ti.lv a).length then aq0 (ti.pc (xx (ti.lv a) off new)) fun a'=>K .undef (O.set i (.az e ((h▸xs:List (D e)).set cy.toNat a') aqZ aqW)) else aqY
      else aqY
     |some (.eZ bx u n xs _),aqV ti=>
      if h:bx=e then aq0 (aR (h▸xs:List (D e)) cy) fun a=>if off+new.length<=(ti.lv a).length then aq0 (ti.pc (xx (ti.lv a) off new)) fun a'=>K .undef (O.set i (.eZ e u n ((h▸xs:List (D e)).set cy.toNat a') aqW)) else aqY
      else aqY
     |_,_=>aqY
    else aqY
  |_=>aqY
def Dt {e:Nat} (ti:fw P X.G e) (E:List (Nat×aQ D)):Nat->List (Nat×aq3)->List (aL D)->(List (D e)->List (aL D)->Option af)->Option af
 |_,[],O,K=>K [] O
 |n,(j,x)::bK,O,K=>
  if j=n then
   match EZ O (cn E x) with
   |some (cs,O)=>aq0 (ti.pc cs) fun a=>Dt ti E (n+1) bK O fun as O=>K (a::as) O
   |none=>aqY
  else aqY
def wX (pl:List (Option (Nat×Nat))) (E:List (Nat×aQ D)):List (Nat×aq3)->List (bJ D)->Option (List (bJ D))
 |[],cs=>aqV cs
 |(i,x)::bK,cs=>
  match (pl[i]?).join,zG (cn E x) with
  |some (off,size),aqV new=>if new.length=size/\off+size<=cs.length then wX pl E bK (xx cs off new) else aqY
  |_,_=>aqY
def y0 (E:List (Nat×aQ D)):Option aq3->Option Int
 |none=>aqV 0
 |some y=>match cn E y with| .c (.int _ n)=>aqV n|_=>aqY
def zI (E:List (Nat×aQ D)) (l:Int):Option aq3->Option Int
 |none=>aqV l
 |some y=>match cn E y with| .c (.int _ n)=>aqV n|_=>aqY
def P1 (t:aq4) (a:aQ D) (E:List (Nat×aQ D)) (bG ae:Option aq3) (O:List (aL D)) (K:aQ D->List (aL D)->Option af):Option af:=
 match a with
 | .c (.str s)=>
  match P.underlying t,y0 E bG,zI E (s.length:Int) ae with
  |some .string,aqV x,aqV y=>aq0 (fX s x y) fun r=>K (.c (.str r)) O
  |_,_,_=>aqY
 | .c c=>
  match rJ O c with
  |some (.az e xs,O)=>
   match P.underlying t,X.I e,y0 E bG,zI E (xs.length:Int) ae with
   |some (.slice bx),aqV _,aqV x,aqV y=>if bx=e then aq0 (fX xs x y) fun r=>K (.c (.az e r)) O else aqY
   |_,_,_,_=>aqY
  |_=>aqY
 |_=>aqY
def Vd:aQ D->Bool
 | .c .fz=>aqW
 |_=>aqZ
def Pl (t:aq4) (y:aq3) (a:aQ D) (E:List (Nat×aQ D)) (bG ae:Option aq3) (O:List (aL D)) (K:aQ D->List (aL D)->Option af):Option af:=
 if Vd a=aqW then
  match P.underlying t,y0 E bG,zI E 0 ae with
  |some (.slice e),aqV p,aqV q=>(match X.I e with|some _=>if (p==0&&q==0)=aqW then K (.c .fz) O else aqY|none=>aqY)
  |_,_,_=>aqY
 else
 match X.dF y bG ae with
 |0=>P1 X t a E bG ae O K
 |md+1=>
  match a with
  | .c (.own i)=>
   match O[i]?,P.underlying t with
   |some (.az e xs aqZ _),aqV (.slice bx)=>
    match X.I e,y0 E bG,zI E (xs.length:Int) ae with
    |some _,aqV p,aqV q=>
     if bx=e then aq0 (fX xs p q) fun r=>
      if ard md 0=aqW then K (.cut i e p.toNat q.toNat) O
      else K (.c (.own O.length)) (O.set i .dead++[.az e r aqZ aqZ])
     else aqY
    |_,_,_=>aqY
   |_,_=>aqY
  |_=>aqY
def uL {au:Type} (xs:List au) (p q:Int):Option (List au):=if 0<=p/\p<=(xs.length:Int)/\p<=4294967296/\p=q then aqV (xs.take p.toNat) else aqY
def Pm (t:aq4) (a b c:aQ D) (O:List (aL D)) (K:aQ D->List (aL D)->Option af):Option af:=
 match P.underlying t,b,c with
 |some (.slice bx), .c (.int _ p), .c (.int _ q)=>
  match a with
  | .c c=>
   match rJ O c with
   |some (.az e xs,O)=>
    match X.I e with
    |some _=>if bx=e then aq0 (uL xs p q) fun r=>K (.full e r) O else aqY
    |none=>aqY
   |_=>aqY
  |_=>aqY
 |_,_,_=>aqY
def Pk (s t:aq4) (a:aQ D) (O:List (aL D)) (K:aQ D->List (aL D)->Option af):Option af:=
 match P.underlying s,P.underlying t with
 |some (.int _),aqV (.int dc)=>(match a with| .c (.int _ n)=>K (.c (.int dc (dc.wrap n))) O|_=>aqY)
 |some .string,aqV (.slice e)=>(match a,X.B e with| .c (.str s),aqV mm=>aq0 (dP s []) (fun b1=>K (.c (.own O.length)) (O++[.az e (mm.of b1) aqZ aqZ]))|_,_=>aqY)
 |some (.slice e),aqV .string=>(match pr O a,X.B e with|some ⟨bx,xs⟩,aqV mm=>if h:bx=e then K (.c (.str (mm.to (h▸xs)))) O else aqY|_,_=>aqY)
 |_,_=>aqY
def HL (O:List (aL D)) (s:aQ D):Option ((e:Nat)×List (D e)):=
 match s with
 | .cut i e bG n=>
  match O[i]? with
  |some (.az bx xs aqZ _)=>if bx=e then aqV ⟨bx,(xs.take n).drop bG⟩ else aqY
  |_=>aqY
 |s=>pr O s
def HM (t u:aq4) (a b:aQ D) (O:List (aL D)) (K:aQ D->List (aL D)->Option af):Option af:=
 match P.underlying t,P.underlying u with
 |some (.slice e),aqV (.slice _)=>
  match X.I e with
  |none=>aqY
  |some _=>
   let bi:Option (List (D e)):=
    match b with
    | .c .fz=>aqV []
    |b=>match HL O b with|some ⟨bx,bi⟩=>if h:bx=e then aqV (h▸bi) else aqY|none=>aqY
   match bi with
   |none=>aqY
   |some bi=>
    match a with
    | .c .fz=>aq0 (dP [] bi) fun r=>K (.c (.own O.length)) (O++[.az e r aqZ aqZ])
    | .full bx xs=>if h:bx=e then (if bi.isEmpty=aqW then aqY else aq0 (dP (h▸xs:List (D e)) bi) fun r=>K (.c (.own O.length)) (O++[.az e r aqZ aqZ])) else aqY
    | .c (.own i)=>
     match O[i]? with
     |some (.az bx xs aqZ _)=>if h:bx=e then aq0 (dP (h▸xs:List (D e)) bi) fun r=>K (.c (.own O.length)) (O.set i .dead++[.az e r aqZ aqZ]) else aqY
     |_=>aqY
    | .cut i aX bG n=>
     if ard bG 0=aqW then
      if aX=e then
       match O[i]? with
       |some (.az bx xs aqZ _)=>if h:bx=e then aq0 (dP ((h▸xs:List (D e)).take n) bi) fun r=>K (.c (.own O.length)) (O.set i .dead++[.az e r aqZ aqZ]) else aqY
       |_=>aqY
      else aqY
     else aqY
    |_=>aqY
 |_,_=>aqY
def Pj (t u:aq4) (a b:aQ D) (O:List (aL D)) (K:aQ D->List (aL D)->Option af):Option af:=
 match P.underlying t,P.underlying u with
 |some (.slice e),aqV (.slice _)=>
  match X.I e,a,HL O b with
  |some _, .full bx xs,aqV ⟨e2,bi⟩=>
   if h:bx=e then
    if J:e2=e then aq0 (dP (h▸xs:List (D e)) (J▸bi:List (D e))) fun r=>if bi.isEmpty=aqW then K (.c (.az e r)) O else K (.c (.own O.length)) (O++[.az e r aqZ aqZ])
    else aqY
   else aqY
  |_,_,_=>aqY
 |_,_=>aqY
def OE (t:aq4) (a b:aQ D) (O:List (aL D)) (K:aQ D->List (aL D)->Option af):Option af:=
 match P.underlying t,a,b with
 |some (.slice e), .c .fz, .c (.int _ n)=>
  match X.I e with
  |some ti=>if (decide (0<n))=aqW then aq0 (l1 ti.x0 n) fun r=>K (.c (.own O.length)) (O++[.az e r aqZ aqZ]) else aqY
  |none=>aqY
 |some (.slice e), .c (.own i), .c (.int _ n)=>
  match wY O i with
  |some bL=>
   match bL[i]? with
   |some (.nest aX t1 up mO aqY _)=>
    match X.N aX t1 with
    |some _=>if aX=e then aq0 (l1 ([]:List (D t1)) n) fun bi=>aq0 (dP mO bi) fun r=>K (.c (.own bL.length)) (bL.set i .dead++[.nest aX t1 up r aqY aqZ]) else aqY
    |none=>aqY
   |_=>aqY
  |none=>aqY
 |_,_,_=>aqY
def Po:Option TypeDesc->Bool
 |some (.int _)=>aqW
 |_=>aqZ
def P5 (t:aq4) (l:Nat) (bK:List (Nat×aq3)) (E:List (Nat×aQ D)) (O:List (aL D)) (K:aQ D->List (aL D)->Option af):Option af:=
 match P.underlying t with
 |some (.slice e)=>
  match P.underlying e with
  |some (.slice t1)=>
   match X.N e t1 with
   |some dI=>
    match l,bK with
    |0,[]=>K (.c (.own O.length)) (O++[.nest e t1 (aqV dI.up) [] aqY aqZ])
    |1,[(0,y)]=>
     match cn E y with
     | .c (.own j)=>
      match O[j]? with
      |some (.az t2 _ aqZ _)=>if t2=t1 then K (.c (.own O.length)) (O++[.nest e t1 (aqV dI.up) [[]] (aqV (0,j)) aqZ]) else aqY
      |_=>aqY
     |_=>aqY
    |_,_=>aqY
   |none=>aqY
  |_=>aqY
 |_=>aqY
def Ph (t u:aq4) (i:Nat) (b:aQ D) (O:List (aL D)) (K:aQ D->List (aL D)->Option af):Option af:=
 match P.underlying t,P.underlying u with
 |some (.slice e),aqV (.slice _)=>
  match b with
  | .c (.own j)=>
   if ard i j=aqW then aqY else
   match wY O i with
   |some bL=>
    match wY bL j with
    |some cX=>
     match cX[i]?,cX[j]? with
     |some (.nest aX t1 up mO aqY _),aqV (.nest e2 t2 _ DX aqY _)=>
      match X.N aX t1 with
      |some dI=>if h:t2=t1 then (if aX=e/\e2=e then aq0 (dP mO (h▸DX:List (List (D t1)))) fun r=>K (.c (.own cX.length)) ((cX.set i .dead).set j .dead++[.nest aX t1 up r aqY aqZ]) else aqY) else aqY
      |none=>aqY
     |_,_=>aqY
    |none=>aqY
   |none=>aqY
  |_=>aqY
 |_,_=>aqY
def P4 (t:aq4) (a:aQ D) (O:List (aL D)) (K:aQ D->List (aL D)->Option af):Option af:=
 match a,P.underlying t with
 | .c (.str s),aqV .string=>K (.c (.int .i64 (s.length:Int))) O
 | .c .fz,aqV (.slice _)=>K (.c (.int .i64 (([]:List Int).length:Int))) O
 |a,aqV (.slice _)=>
  match pr O a with
  |some ⟨_,xs⟩=>K (.c (.int .i64 (xs.length:Int))) O
  |none=>
   match a with
   | .c (.own i)=>(match O[i]? with|some (.nest _ _ _ di _ _)=>K (.c (.int .i64 (di.length:Int))) O|_=>aqY)
   | .cut i e bG ae=>(match O[i]? with|some (.az bx xs aqZ _)=>if bx=e then K (.c (.int .i64 (((xs.take ae).drop bG).length:Int))) O else aqY|_=>aqY)
   |_=>aqY
 |_,_=>aqY
def Za:bJ D->Bool
 | .own _=>aqZ
 | .fn _ is=>is.isEmpty
 |_=>aqW
def wV (O:List (aL D)):aQ D->Option ((Nat×List (bJ D))×List (aL D))
 | .fH t cs off=>if off=0 then aqV ((t,cs),O) else aqY
 | .box i off=>
  match O[i]? with
  |some (.box t cs _ w)=>if off=0/\cs.all Za=aqW then aqV ((t,cs),O.set i (.box t cs aqW w)) else aqY
  |_=>aqY
 |_=>aqY
def C8:List (aQ D)->List (aL D)->Option (List (Nat×List (bJ D))×List (aL D))
 |[],O=>aqV ([],O)
 |s::l,O=>
  match wV O s with
  |some (c,O)=>(match C8 l O with|some (r,O)=>aqV (c::r,O)|none=>aqY)
  |none=>aqY
def JO (O:List (aL D)):aQ D->Option Nat
 | .box i off=>
  match O[i]? with
  |some (.box _ _ aqZ _)=>if off=0 then aqV i else aqY
  |_=>aqY
 |_=>aqY
def Dl (O:List (aL D)):List (aQ D)->Option (List Nat)
 |[]=>aqV []
 |s::l=>match JO O s,Dl O l with|some i,aqV is=>aqV (i::is)|_,_=>aqY
def HI:List (aQ D)->Option Nat
 |[_, .fn g []]=>aqV g
 |_=>aqY
def Qt:Option Nat->Nat->Bool
 |some g,n=>ard g n
 |none,_=>aqZ
def wZ:List (pH P X.G)->Nat->List (Nat×List (bJ D))->List (aQ D)->Option (pH P X.G)
 |[],_,_,_=>aqY
 |s::l,f,caps,bN=>if (ard s.f f&&(caps.isEmpty&&Qt (HI bN) s.g))=aqW then aqV s else wZ l f caps bN
def Pn (eS:pH P X.G) (bN:List (aQ D)) (O:List (aL D)) (K:aQ D->List (aL D)->Option af):Option af:=
 match bN with
 | .c .fz::_=>K (.mL []) O
 | .c (.own i)::_=>
  match O[i]? with
  |some (.az e xs aqZ _)=>if h:e=eS.e then aq0 (eS.iC (h▸xs:List (D eS.e))) fun bi=>K (.mL []) (O.set i (.az eS.e bi aqZ aqW)) else aqY
  |_=>aqY
 |_=>aqY
def q4 (c:Call) (E:List (Nat×aQ D)) (O:List (aL D)) (K:aQ D->List (aL D)->Option af):Option af:=
 match c.callee with
 | .builtin .len=>match c.args.toList,c.argTypes.toList with|[x],[t]=>P4 (P:=P) t (cn E x) O K|_,_=>aqY
 | .builtin .append=>match c.args.toList,c.argTypes.toList with|[x,y],[t,u]=>if Po (P.underlying u)=aqW then OE X t (cn E x) (cn E y) O K else if ard (X.dF y (aqV x) (aqV x)) 6=aqW then Pj X t u (cn E x) (cn E y) O K else (match cn E x with| .c (.own i)=>if Pp O[i]? =aqW then Ph X t u i (cn E y) O K else HM X t u (cn E x) (cn E y) O K|_=>HM X t u (cn E x) (cn E y) O K)|_,_=>aqY
 | .builtin .cap=>match c.args.toList,c.argTypes.toList with|[x],[t]=>(match cn E x,P.underlying t with| .c .fz,aqV (.slice _)=>K (.c (.int .i64 0)) O|_,_=>aqY)|_,_=>aqY
 | .builtin .max=>match c.args.toList with|[x,y]=>(match cn E x,cn E y with| .c (.int k a), .c (.int dc b)=>if k=dc then K (.c (.int k (max a b))) O else aqY|_,_=>aqY)|_=>aqY
 | .builtin .min=>match c.args.toList with|[x,y]=>(match cn E x,cn E y with| .c (.int k a), .c (.int dc b)=>if k=dc then K (.c (.int k (min a b))) O else aqY|_,_=>aqY)|_=>aqY
 | .value f=>
  match cn E f with
  | .fn f caps=>
   match wZ X X.S f caps (c.args.toList.map (cn E)) with
   |some eS=>Pn X eS (c.args.toList.map (cn E)) O K
   |none=>X.C f (c.args.toList.map (cn E)++caps.map fun p=> .fH p.1 p.2 0) O K
  | .c (.fn f is)=>X.C f (c.args.toList.map (cn E)++is.map fun i=> .box i 0) O K
  |_=>aqY
 |_=>aqY
def OR (e:Nat) (x y:aq3) (n:Int) (O:List (aL D)) (K:aQ D->List (aL D)->Option af):Option af:=
 match P.underlying e with
 |some (.slice t1)=>
  match X.N e t1,DF x y with
  |some dI,aqW=>aq0 (l1 ([]:List (D t1)) n) fun r=>K (.c (.own O.length)) (O++[.nest e t1 (aqV dI.up) r aqY aqZ])
  |_,_=>aqY
 |_=>aqY
def gd (o:Op) (E:List (Nat×aQ D)) (O:List (aL D)) (K:aQ D->List (aL D)->Option af):Option af:=
 match o with
 | .move x=>K (cn E x) O
 | .assign x=>K (cn E x) O
 | .nilCheck x=>(match cn E x with| .box .. | .eZ .. | .el .. | .fH .. =>K (cn E x) O|_=>aqY)
 | .extract x i=>(match cn E x with| .mL l=>(match l[i]? with|some (.inl c)=>K (.c c) O|some (.inr p)=>K (.agg p.1 p.2) O|none=>aqY)|_=>aqY)
 | .pick c a b=>(match cn E c with| .c (.bool aqW)=>K (cn E a) O| .c (.bool aqZ)=>K (cn E b) O|_=>aqY)
 | .binOp op t x y u=>(match cn E x,cn E y with| .agg t1 c1, .agg t2 c2=>Ll X op t t1 c1 t2 c2 fun c=>K (.c c) O|a,b=>JI (P:=P) op t y O a b fun c=>K (.c c) O)
 | .unOp .not t x=>(match cn E x with| .c (.bool b)=>K (.c (.bool (!b))) O|_=>aqY)
 | .unOp .neg t x=>(match cn E x with| .c (.int k a)=>K (.c (.int k (k.wrap (0 - a)))) O|_=>aqY)
 | .convert s t x=>Pk X s t (cn E x) O K
 | .indexAddr t x y=>P3 X t (cn E x) (cn E y) O K
 | .fieldAddr t x n=>P2 (P:=P) t n (cn E x) O K
 | .load t x=>if ard (X.dF x aqY aqY) 4=aqW then XU X t (cn E x) O K else Hs X t (cn E x) O K
 | .store t x y=>OS X t (cn E x) (cn E y) O K
 | .alloc t=>
  (match X.A t with
  |some jv=>K (.eZ O.length) (O++[.eZ jv.e t jv.n (arx jv.n jv.ti.x0) aqZ])
  |none=>match X.I t with|some ti=>K (.box O.length 0) (O++[.box t ti.qu aqZ aqZ])|none=>aqY)
 | .box t x=>
  (match P.info? t,zG (cn E x) with
  |some i,aqV cs=>if cs.length=i.size then K (.box O.length 0) (O++[.box t cs aqZ aqZ]) else aqY
  |_,_=>aqY)
 | .makeSlice t x y=>
  (match P.underlying t,cn E x with
  |some (.slice e), .c (.int _ n)=>
   if ard (X.dF x (aqV x) (aqV x)) 3=aqW then OR X e x y n O K else
   match X.I e,DF x y with
   |some ti,aqW=>aq0 (l1 ti.x0 n) fun r=>K (.c (.own O.length)) (O++[.az e r aqZ aqZ])
   |_,_=>aqY
  |_,_=>aqY)
 | .buildSlice t l bK=>
  if ard (X.dF (.const (.int .i64 (t:Int))) aqY aqY) 3=aqW then P5 X t l bK.toList E O K else
  (match P.underlying t with
  |some (.slice e)=>
   match X.I e with
   |some ti=>Dt X ti E 0 bK.toList O fun as O=>if as.length=l/\arz (l*(X.G.T e).a1) 16777216=aqW then K (.c (.own O.length)) (O++[.az e as aqZ aqZ]) else aqY
   |none=>aqY
  |_=>aqY)
 | .build t bK=>
  (match P.underlying t,X.I t with
  |some (.struct bc),aqV ti=>if (qg P bc).all Option.isSome=aqW then (match wX (qg P bc) E bK.toList ti.qu with|some cs=>K (.agg t cs) O|none=>aqY) else aqY
  |some (.array n e),aqV ti=>(match P.info? e with|some k=>(match wX ((arC n).map fun j=>aqV (j*k.size,k.size)) E bK.toList ti.qu with|some cs=>K (.agg t cs) O|none=>aqY)|none=>aqY)
  |_,_=>aqY)
 | .slice t x bG ae aqY=>Pl X t x (cn E x) E bG ae O K
 | .slice t x aqY (aqV y) (aqV h6)=>Pm X t (cn E x) (cn E y) (cn E h6) O K
 | .index t x y=>(match P.underlying t,cn E x,cn E y with|some .string, .c (.str s), .c (.int _ n)=>aq0 (aR s n) fun c=>K (.c (.int .u8 (ash c:Int))) O|_,_,_=>aqY)
 | .makeFunc (.func f) first cap=>
  if ard (X.dF (.func f) aqY aqY) 5=aqW then (match first.toList,Dl O (cap.toList.map (cn E)) with|[],aqV is=>K (.c (.fn f is)) O|_,_=>aqY) else
  (match first.toList,C8 (cap.toList.map (cn E)) O with|[],aqV (caps,O)=>K (.fn f caps) O|_,_=>aqY)
 | .makeMap t aqY=>(match P.underlying t with|some (.map kt vt)=>K (.c (.own O.length)) (O++[.map t kt vt [] aqZ aqZ])|_=>aqY)
 | .lookup t x y ok=>
  (match PZ O (cn E x),cn E y with
  |some ⟨u,kt,vt,es⟩,c=>
   match P.underlying t,P.underlying u with
   |some (.map k v),aqV (.map dc bl)=>
    if k=kt/\v=vt/\dc=kt/\bl=vt then
     match X.Jj kt vt with
     |some ep=>
      match ep.og c with
      |some a=>aS.lt (@bw _ _ ep.dec es a) fun y=>if ok=aqW then K (.mL [.inl (ep.oC (y.getD ep.z0)), .inl (.bool y.isSome)]) O else K (.c (ep.oC (y.getD ep.z0))) O
      |none=>aqY
     |none=>aqY
    else aqY
   |_,_=>aqY
  |_,_=>aqY)
 | .mapUpdate t x y w| .insert t x y w=>
  (match cn E x,cn E y,cn E w with
  | .c (.own i),c, .c d=>
   match O[i]? with
   |some (.map u kt vt es aqZ _)=>
    match P.underlying t,P.underlying u with
    |some (.map k v),aqV (.map dc bl)=>
     if k=kt/\v=vt/\dc=kt/\bl=vt then
      match X.Jj kt vt with
      |some ep=>
       match ep.og c,ep.ta d with
       |some a,aqV b=>aS.lt (@dA _ _ ep.dec es a b) fun tF=>K .undef (O.set i (.map u kt vt tF aqZ aqW))
       |_,_=>aqY
      |none=>aqY
     else aqY
    |_,_=>aqY
   |_=>aqY
  |_,_,_=>aqY)
 | .call c=>q4 X c E O K
 |_=>aqY
def YC:Op->Option Nat
 | .pick (.tmp d) _ _=>aqV d
 |_=>aqY
def uH (E:List (Nat×aQ D)) (d:Nat) (K:List (Nat×aQ D)->Option af):Option af:=
 match eg E d with
 | .c (.bool b)=>if b=aqW then K ((d, .c (.bool aqW))::E) else K ((d, .c (.bool aqZ))::E)
 | .undef=>K E
 |_=>aqY
def Cr (o:Oper) (E:List (Nat×aQ D)) (O:List (aL D)) (K:List (Nat×aQ D)->List (aL D)->Option af):Option af:=
 match YC o.op with
 |some d=>uH E d fun E=>gd X o.op E O fun v O=>K (lA E o.dst v) O
 |none=>gd X o.op E O fun v O=>K (lA E o.dst v) O
def pv (ops:List Oper):List Oper->List (Nat×aQ D)->List (aL D)->(List (Nat×aQ D)->List (aL D)->Option af)->Option af
 |[],E,O,K=>K E O
 |o::os,E,O,K=>
  match o.guard with
  |none=>Cr X o E O fun E O=>pv ops os E O K
  |some (j,want)=>
   match (ops[j]?).bind (·.dst) with
   |none=>aqY
   |some d=>
    uH E d fun E=>
     match eg E d with
     | .c (.bool b)=>if b=want then Cr X o E O fun E O=>pv ops os E O K else pv ops os (lA E o.dst .undef) O K
     | .undef=>pv ops os (lA E o.dst .undef) O K
     |_=>aqY
inductive kO where
 |oj|bg|lost
 |ob (j:Nat)
def sA (E:List (Nat×aQ D)):Op->Option kO
 | .load _ x=>(match cn E x with| .fH _ (_::_) _=>aqV .bg| .box j _=>aqV (.ob j)| .el j _ _ _=>aqV (.ob j)|_=>aqY)
 | .lookup _ x _ _=>(match cn E x with| .c (.mp _ _ _ _)=>aqV .bg| .c (.own j)=>aqV (.ob j)|_=>aqY)
 | .convert _ _ x=>(match cn E x with| .c (.az _ _)=>aqV .bg| .c (.own j)=>aqV (.ob j)| .c (.int _ _)=>aqV .oj| .c (.str _)=>aqV .oj|_=>aqY)
 | .slice _ x _ _ _=>(match cn E x with| .c (.str _)=>aqV .oj| .c (.az _ _)=>aqV .bg| .c (.own j)=>aqV (.ob j)|_=>aqY)
 |_=>aqV .oj
def qa:List (aQ D)->List Nat
 |[]=>[]
 | .box i _::l=>i::qa l
 |_::l=>qa l
def zC:List (aQ D)->List Nat
 |[]=>[]
 | .c (.own i)::l=>i::zC l
 |_::l=>zC l
def uU (E:List (Nat×aQ D)):Op->Option (List Nat)
 | .store _ x _=>(match cn E x with| .box j _=>aqV [j]| .el j _ _ _=>aqV [j]|_=>aqY)
 | .mapUpdate _ x _ _=>(match cn E x with| .c (.own j)=>aqV [j]|_=>aqY)
 | .insert _ x _ _=>(match cn E x with| .c (.own j)=>aqV [j]|_=>aqY)
 | .call c=>
  match c.callee with
  | .builtin .append=>(match c.args.toList with|x::_=>(match cn E x with| .c .fz=>aqV []| .c (.own j)=>aqV [j]| .cut j _ _ _=>aqV [j]| .full _ _=>aqV []|_=>aqY)|[]=>aqY)
  | .value f=>(match cn E f with| .fn jN caps=>(match wZ X X.S jN caps (c.args.toList.map (cn E)) with|some _=>aqV (zC (c.args.toList.map (cn E)))|none=>if X.W jN=aqW then aqY else aqV (qa (c.args.toList.map (cn E))))|_=>aqY)
  |_=>aqY
 |_=>aqY
structure eY where
 rd:List (Nat×kO)
 iI:List (Nat×(Bool×List Nat))
 hj:List (Nat×Nat)
 jO:List (Nat×Bool)
 mb:List Nat
def yY:aQ D->Bool
 | .c (.az _ _)=>aqW
 | .fH _ (_::_) _=>aqW
 |_=>aqZ
def sb (E:List (Nat×aQ D)) (L:eY):aq3->Bool
 | .tmp d=> !(L.mb.any (ard d))&&yY (eg E d)
 |_=>aqZ
def qC (E:List (Nat×aQ D)) (L:eY):Op->Bool
 | .move x=>sb E L x
 | .assign x=>sb E L x
 | .nilCheck x=>sb E L x
 | .fieldAddr _ x _=>sb E L x
 | .indexAddr _ x _=>sb E L x
 |_=>aqZ
def U4 (E:List (Nat×aQ D)) (L:eY):Op->Bool
 | .load _ x=>sb E L x
 | .slice _ x _ _ aqY=>sb E L x
 |_=>aqZ
def qt (E:List (Nat×aQ D)) (o:Oper) (L:eY):eY:=
 match o.dst with
 |none=>L
 |some d=>if qC E L o.op=aqW then {L with mb:=L.mb.filter fun e=> !(ard d e)} else {L with mb:=d::L.mb}
def so (O:List (aL D)) (j:Nat):Bool:=match O[j]? with|some o=>o.live|none=>aqZ
def Hn (O:List (aL D)) (j:Nat):Bool:=match O[j]? with|some .dead=>aqZ|some (.box _ [] aqW _)=>aqZ|some _=>aqW|none=>aqZ
def uz (O:List (aL D)) (ts:List Nat) (j:Nat):Bool:=Hn O j&& !(ts.any (ard j))
def ux (O:List (aL D)):Nat->List (aL D)->List Nat
 |_,[]=>[]
 |i,o::l=>if o.live=aqW then i::ux O (i+1) l else ux O (i+1) l
def zN (B:Array Nat) (i:Nat) (O:List (aL D)) (L:eY):kO->Bool
 | .oj=>aqW
 | .bg=>L.iI.all fun y=>fi B i y.1||y.2.1
 | .ob j=>Hn O j&&L.iI.all fun y=>fi B i y.1||(y.2.1||y.2.2.any (ard j))
 | .lost=>aqZ
def DO (O:List (aL D)) (ts:List Nat):kO->Bool
 | .ob j=>uz O ts j
 | .lost=>aqZ
 |_=>aqW
def Pz (B:Array Nat) (i:Nat) (O:List (aL D)) (L:eY) (ts:List Nat):Bool:=
 ts.all (so O)&&((L.rd.all fun y=>fi B i y.1||DO O ts y.2)&&L.hj.all fun y=>fi B i y.1||uz O ts y.2)
def qc (E:List (Nat×aQ D)) (O:List (aL D)):Op->Bool
 | .call c=>
  match c.callee with
  | .value f=>(match cn E f with| .fn f caps=>(match wZ X X.S f caps (c.args.toList.map (cn E)) with|some _=>aqZ|none=>X.F f (c.args.toList.map (cn E)++caps.map fun p=> .fH p.1 p.2 0) O)|_=>aqZ)
  |_=>aqZ
 |_=>aqZ
def Bi (i:Nat) (O:List (aL D)) (ts:List Nat) (qi:Bool) (L:eY):eY:=
 {rd:=L.rd.map fun y=>if DO O ts y.2=aqW then y else (y.1, .lost)
  iI:=((i,aqW,ux O 0 O)::L.iI).map fun y=>(y.1,y.2.1&&qi,y.2.2.filter (uz O ts))
  hj:=L.hj
  jO:=(i,ts.isEmpty)::L.jO.map fun y=>(y.1,y.2&&ts.isEmpty)
  mb:=L.mb}
def P0:aQ D->Option (Option Nat)
 | .c (.own j)=>aqV (aqV j)
 | .box j _=>aqV (aqV j)
 | .eZ j=>aqV (aqV j)
 | .c (.int _ _)=>aqV aqY
 | .c (.str _)=>aqV aqY
 |_=>aqY
def Vf (o:Op) (v:aQ D):Option (Option Nat):=if nz o=aqW then P0 v else aqV aqY
def oA (i:Nat) (s:kO) (n:Option Nat) (L:eY):eY:=
 {rd:=match s with| .oj=>L.rd|s=>(i,s)::L.rd
  iI:=match n with|some _=>L.iI.map fun y=>(y.1,aqZ,y.2.2)|none=>L.iI
  hj:=match n with|some j=>(i,j)::L.hj|none=>L.hj
  jO:=L.jO
  mb:=L.mb}
def TN:kO->Bool
 | .bg=>aqW
 |_=>aqZ
def Hq (B:Array Nat) (i:Nat) (E:List (Nat×aQ D)) (L:eY) (s:kO) (o:Op):Bool:=TN s&&U4 E L o
def Pa (B:Array Nat) (i:Nat) (L:eY):Bool:=(L.rd.all fun y=>fi B i y.1)&&L.hj.all fun y=>fi B i y.1
def PA (i:Nat) (L:eY):eY:=
 {rd:=L.rd.map fun y=>(y.1, .lost)
  iI:=(i,aqZ,[])::L.iI.map fun y=>(y.1,aqZ,[])
  hj:=L.hj
  jO:=L.jO
  mb:=L.mb}
def F3 (B:Array Nat) (i:Nat) (o:Oper) (L:eY) (E:List (Nat×aQ D)) (O:List (aL D)) (K:eY->List (Nat×aQ D)->List (aL D)->Option af):Option af:=
 if iO o.op=aqW then
  match uU X E o.op with
  |some ts=>if Pz B i O L ts=aqW then gd X o.op E O fun v bD=>K (qt E o (Bi i O ts (qc X E O o.op) L)) (lA E o.dst v) bD else aqY
  |none=>if Pa B i L=aqW then gd X o.op E O fun v bD=>K (qt E o (PA i L)) (lA E o.dst v) bD else aqY
 else
  match sA E o.op with
  |some s=>
   if (zN B i O L s||Hq B i E L s o.op)=aqW then
    gd X o.op E O fun v bD=>
     match Vf o.op v with
     |some n=>K (qt E o (oA i s n L)) (lA E o.dst v) bD
     |none=>aqY
   else aqY
  |none=>aqY
def Cq (B:Array Nat) (i:Nat) (o:Oper) (L:eY) (E:List (Nat×aQ D)) (O:List (aL D)) (K:eY->List (Nat×aQ D)->List (aL D)->Option af):Option af:=
 match YC o.op with
 |some d=>uH E d fun E=>F3 X B i o L E O K
 |none=>F3 X B i o L E O K
def u2 (B:Array Nat) (ops:List Oper):Nat->List Oper->eY->List (Nat×aQ D)->List (aL D)->(List (Nat×aQ D)->List (aL D)->Option af)->Option af
 |_,[],_,E,O,K=>K E O
 |i,o::os,L,E,O,K=>
  match o.guard with
  |none=>Cq X B i o L E O fun L E O=>u2 B ops (i+1) os L E O K
  |some (j,want)=>
   match (ops[j]?).bind (·.dst) with
   |none=>aqY
   |some d=>
    uH E d fun E=>
     match eg E d with
     | .c (.bool b)=>if b=want then Cq X B i o L E O fun L E O=>u2 B ops (i+1) os L E O K else u2 B ops (i+1) os L (lA E o.dst .undef) O K
     | .undef=>u2 B ops (i+1) os L (lA E o.dst .undef) O K
     |_=>aqY
structure k9 (D:Nat->Type) where
 path:List Nat
 fits:List (Nat×aQ D)->List (aL D)->Bool
 run:List (Nat×aQ D)->List (aL D)->{af:Type}->(dX->List (Nat×aQ D)->List (aL D)->Option af)->Option af
def ER:List Nat->List Nat->Bool
 |[],[]=>aqW
 |a::p,b::q=>ard a b&&ER p q
 |_,_=>aqZ
def q6 (us:List (k9 D)) (p:List Nat) (E:List (Nat×aQ D)) (O:List (aL D)):Option (k9 D):=
 match us with
 |[]=>aqY
 |u::us=>if (ER u.path p&&u.fits E O)=aqW then aqV u else q6 us p E O
def ahz:Option (aL D)->Bool
 |some (.nest _ _ _ _ (aqV _) _)=>aqW
 |_=>aqZ
def anb (O:List (aL D)) (n:Nat):Bool:=
 match O[n]? with
 |some (.nest _ _ _ _ (aqV p) _)=>(match O[p.2]? with|some o=> !o.live|none=>aqZ)
 |_=>aqZ
def Hx:Nat->List (aL D)->Option (List (aL D))
 |0,O=>aqV O
 |n+1,O=>match Hx n O with|some bL=>if ahz bL[n]? =aqW then (if anb bL n=aqW then aqV bL else wY bL n) else aqV bL|none=>aqY
def uM (K:List (Nat×aQ D)->List (aL D)->Option af) (E:List (Nat×aQ D)) (O:List (aL D)):Option af:=match Hx O.length O with|some bD=>K E bD|none=>aqY
def hT (us:List (k9 D)) (calm:Array Oper->Bool):Bool->List Nat->Code->List (Nat×aQ D)->List (aL D)->(dX->List (Nat×aQ D)->List (aL D)->Option af)->Option af
 |top,p, .seq a b,E,O,K=>
  match (if top=aqW then aqY else q6 us p.reverse E O) with
  |some u=>u.run E O K
  |none=>hT us calm aqZ (0::p) a E O fun e E O=>if e= .normal then hT us calm aqZ (1::p) b E O K else K e E O
 |top,p, .cond c a b,E,O,K=>
  match (if top=aqW then aqY else q6 us p.reverse E O) with
  |some u=>u.run E O K
  |none=>
   match cn E c with
   | .c (.bool t)=>if t=aqW then hT us calm aqZ (0::p) a E O K else hT us calm aqZ (1::p) b E O K
   |_=>aqY
 |top,p, .block id c,E,O,K=>
  match (if top=aqW then aqY else q6 us p.reverse E O) with
  |some u=>u.run E O K
  |none=>hT us calm aqZ (0::p) c E O fun e E O=>K (if e= .exit id then .normal else e) E O
 |top,p, .scope c,E,O,K=>
  match (if top=aqW then aqY else q6 us p.reverse E O) with
  |some u=>u.run E O K
  |none=>hT us calm aqZ (0::p) c E O K
 |top,p, .region _ ops d,E,O,K=>
  match (if top=aqW then aqY else q6 us p.reverse E O) with
  |some u=>u.run E O K
  |none=>if d=aqW then (if calm ops=aqW then pv X ops.toList ops.toList E O (uM (K .normal)) else u2 X (arM ops) ops.toList 0 ops.toList ⟨[],[],[],[],[]⟩ E O (uM (K .normal))) else pv X ops.toList ops.toList E O (uM (K .normal))
 |top,p, .loop c,E,O,K=>
  match (if top=aqW then aqY else q6 us p.reverse E O) with
  |some u=>u.run E O K
  |none=>aqY
 |_,_, .skip,E,O,K=>K .normal E O
 |_,_, .label _,E,O,K=>K .normal E O
 |_,_, .exit id,E,O,K=>K (.exit id) E O
 |_,_, .ret,E,O,K=>K .ret E O
 |_,_,_,_,_,_=>aqY
end
end
end Go.aS
end
section
namespace Go.aS
section
variable {P:aq1} {D:Nat->Type} {X:dB P D} {af:Type} {z z':Nat->a6} {e m m':Mem} {k:Option Nat} {vs:List aqX} {fr:Nat->aqX} {E:List (Nat×aQ D)} {O:List (aL D)} {o:Oper} {r:af}
def c5 (X:dB P D) (O:List (aL D)) (z:Nat->a6) (e:Mem) (k:Option Nat) (vs:List aqX) (K:aQ D->List (aL D)->Option af) (r:af) (v:aqX) (m':Mem):Prop:=
 ∃z' vs' c3 bD,Inv O bD/\cT e.next z z'/\(∀(i:Nat) (u:aqX),vs[i]? =aqV u->vs'[i]? =aqV u)/\bm X.G bD z' e m' k vs'/\rel X.G z' vs' c3 v/\K c3 bD=aqV r
theorem c5.here {K:aQ D->List (aL D)->Option af} {c3:aQ D} {v:aqX} (aw:bm X.G O z e m k vs) (ad:rel X.G z vs c3 v) (fB:K c3 O=aqV r):c5 X O z e k vs K r v m:=⟨z,vs,c3,O,Inv.refl O,cT.refl z,fun _ _ h=>h,aw,ad,fB⟩
theorem c5.from {K:aQ D->List (aL D)->Option af} {v:aqX} {cr:Nat->a6} {bL:List (aL D)} (ae:Inv O bL) (aF:cT e.next z cr) (h:c5 X bL cr e k vs K r v m'):c5 X O z e k vs K r v m':=by
 obtain ⟨z',vs',c3,bD,aI,h1,J,aj,aM,bq⟩:=h;exact ⟨z',vs',c3,bD,ae.trans aI,aF.trans h1,J,aj,aM,bq⟩
theorem Ow (aT:∀d,rel X.G z vs (eg E d) (fr d)) (x:aq3):rel X.G z vs (cn E x) (aK fr x):=by
 cases x with
 |tmp t=>exact aT t
 |func f=>exact ⟨[],rfl,trivial⟩
 |global g=>trivial
 |const v=>show rel X.G z vs (M6 v) v;unfold M6;split<;>first|trivial|rfl
theorem XD {i:Nat} {c:bJ D} {bD:List (aL D)} {v:aqX} (aw:bm X.G O z e m k vs) (h:vy O i=aqV (c,bD)) (ad:vs[i]? =aqV v):∃z',Inv O bD/\cT e.next z z'/\bm X.G bD z' e m k vs/\dj X.G z' vs c v:=by
 unfold vy at h;split at h
 ·rename_i t xs bg w ai;cases h;have b0:=aw.obj i _ v ai ad;cases bg with
  |true=>
   have:O.set i (.az t xs aqW w)=O:=by
    apply asL;intro j;rw[arv];split
    ·rename_i cY;subst cY;rw[ai,if_pos (aq5.1 ai).1]
    ·rfl
   rw[this];exact ⟨z,Inv.refl O,cT.refl z,aw,b0⟩
  |false=>have b0:c6 (X.G.T t) z e m k xs v:=b0;obtain ⟨z',h1,J,aj,aM⟩:=b0.freeze aw.aO;have aa:da v=cp v:=fM (by obtain ⟨a,c,rfl⟩:=b0.bf.len;intro r;simp);exact ⟨z',Inv.set O i (.inl rfl),h1,aw.il ai ad rfl rfl h1.le J (by rw[aa];exact aM) aj,aj⟩
 ·rename_i t kt vt es bg w ai;cases h;have b0:=aw.obj i _ v ai ad;cases bg with
  |true=>
   have:O.set i (.map t kt vt es aqW w)=O:=by
    apply asL;intro j;rw[arv];split
    ·rename_i cY;subst cY;rw[ai,if_pos (aq5.1 ai).1]
    ·rfl
   rw[this];exact ⟨z,Inv.refl O,cT.refl z,aw,b0⟩
  |false=>
   have b0:h2 (X.G.M t kt vt) z e m k es v:=b0;obtain ⟨z',h1,J,aj,aM⟩:=b0.freeze aw.aO;have aa:da v=sE v:=by obtain ⟨r,rfl,_⟩:=b0.bf;rfl
   exact ⟨z',Inv.set O i (.inl rfl),h1,aw.il ai ad rfl rfl h1.le J (by rw[aa];exact aM) aj,aj⟩
 ·rename_i dt t up di w ai;cases h;obtain ⟨hu,ws,b0⟩:=aw.obj i _ v ai ad;obtain ⟨h1,J,aj⟩:=hu up rfl;obtain ⟨z',g1,g2,g3,g4⟩:=aeG b0 h1 J aj aw.aO;have n4:∀r,v≠ .map r:=by obtain ⟨a,c,rfl⟩:=b0.bf.bf.len;intro r;simp
  exact ⟨z',Inv.set O i (.inl rfl),g1,aw.Ec (p:=aqY) ai ad rfl n4 g1.le ⟨aq9 _,aw.aO.dead,fun _ _ _=>rfl⟩ g2 (fun _ _ _ _ _ _ _=>ei.q0) (fun b aa=>by cases aa) (fun b aa _ ah=>g4 b aa ah) g3,g3⟩
 ·cases h
theorem zw {c bQ:bJ D} {bD:List (aL D)} {v:aqX} (aw:bm X.G O z e m k vs) (h:rJ O c=aqV (bQ,bD)) (ad:dj X.G z vs c v):∃z',Inv O bD/\cT e.next z z'/\bm X.G bD z' e m k vs/\dj X.G z' vs bQ v:=by
 cases c with
 |own i=>exact XD aw h ad.1
 |_=>cases h;exact ⟨z,Inv.refl O,cT.refl z,aw,ad⟩
theorem Oz:∀{cs cs':List (bJ D)} {O bD:List (aL D)} {ds:List aqX} {z:Nat->a6},bm X.G O z e m k vs->Bm O cs=aqV (cs',bD)->ba (dj X.G z vs) cs ds->∃z',Inv O bD/\cT e.next z z'/\bm X.G bD z' e m k vs/\ba (dj X.G z' vs) cs' ds
 |[],cs',O,bD,[],z,aw,h,_=>by cases h;exact ⟨z,Inv.refl _,cT.refl z,aw,trivial⟩
 |c::cs,cs',O,bD,d::ds,z,aw,h,⟨h1,J⟩=>by
  unfold Bm at h;split at h
  ·rename_i bQ bL ab;split at h
   ·rename_i aaI cX hC;cases h;obtain ⟨cr,g0,g1,g2,g3⟩:=zw aw ab h1;obtain ⟨z2,hE,bs,bC,cQ⟩:=Oz g2 hC (nB.mono J g1.le fun _ _ h=>h);exact ⟨z2,g0.trans hE,g1.trans bs,bC,dj.mono g3 bs.le fun _ _ h=>h,cQ⟩
   ·cases h
  ·cases h
 |[],_,_,_,_::_,_,_,_,h=>h.elim
 |_::_,_,_,_,[],_,_,_,h=>h.elim
theorem Gd {s:aQ D} {cs:List (bJ D)} {v:aqX} (h:zG s=aqV cs) (ad:rel X.G z vs s v):storable v=aqW/\ba (dj X.G z vs) cs v.cells.toList:=by
 cases s with
 |c c=>cases h;have:=dj.ZB ad;rw[this.2];exact ⟨this.1,ad,trivial⟩
 |agg t cs'=>cases h;obtain ⟨ds,rfl,J⟩:=ad;exact ⟨rfl,J⟩
 |fn f caps=>
  cases caps with
  |nil=>
   cases h;obtain ⟨gs,rfl,J⟩:=ad;cases gs with
   |nil=>exact ⟨rfl,⟨[],rfl,trivial⟩,trivial⟩
   |cons _ _=>exact J.elim
  |cons _ _=>cases h
 |_=>cases h
theorem XE {s:aQ D} {cs:List (bJ D)} {bD:List (aL D)} {v:aqX} (aw:bm X.G O z e m k vs) (h:EZ O s=aqV (cs,bD)) (ad:rel X.G z vs s v):∃z',Inv O bD/\cT e.next z z'/\bm X.G bD z' e m k vs/\storable v=aqW/\ba (dj X.G z' vs) cs v.cells.toList:=by
 unfold EZ at h;split at h
 ·rename_i qB ab;obtain ⟨h1,J⟩:=Gd ab ad;obtain ⟨z',g0,g1,g2,g3⟩:=Oz aw h J;exact ⟨z',g0,g1,g2,h1,g3⟩
 ·cases h
variable {x y:aq3} {t u:aq4}
theorem ahD {op:BinOp} {kk:aq2} {a b:Int} {K:bJ D->Option af} (ai:o.op= .binOp op t x y u) (U:aK fr x= .int kk a) (ag:aK fr y= .int kk b) (h:EH op y kk a b K=aqV r):∃c v,K c=aqV r/\cP P (aK fr) o v/\dj X.G z vs c v:=by
 have lit:HK y=aqW->b≠0:=fun ah aa=>by
  unfold HK at ah;split at ah
  ·rename_i FT n;have:asK FT n= .int kk b:=ag;cases this;simp[aa] at ah
  ·cases ah
 cases op with
 |add=>exact ⟨_,_,h,aee ai U ag,rfl⟩
 |sub=>exact ⟨_,_,h,aeq ai U ag,rfl⟩
 |mul=>exact ⟨_,_,h,ael ai U ag,rfl⟩
 |and=>exact ⟨_,_,h,aef ai U ag,rfl⟩
 |or=>exact ⟨_,_,h,aep ai U ag,rfl⟩
 |xor=>exact ⟨_,_,h,aer ai U ag,rfl⟩
 |andNot=>exact ⟨_,_,h,ah7 ai U ag,rfl⟩
 |eql=>exact ⟨_,_,h,aeg ai U ag,rfl⟩
 |neq=>exact ⟨_,_,h,aen ai U ag,rfl⟩
 |lss=>exact ⟨_,_,h,aek ai U ag,rfl⟩
 |leq=>exact ⟨_,_,h,aej ai U ag,rfl⟩
 |gtr=>exact ⟨_,_,h,aei ai U ag,rfl⟩
 |geq=>exact ⟨_,_,h,aeh ai U ag,rfl⟩
 |quo=>
  simp only[EH] at h;split at h
  ·rename_i ah;exact ⟨_,_,h,Vq ai U ag (lit ah),rfl⟩
  ·obtain ⟨c,ab,h⟩:=bind_some h;obtain ⟨h1,rfl⟩:=afe ab;exact ⟨_,_,h,Vq ai U ag h1,rfl⟩
 |rem=>
  simp only[EH] at h;split at h
  ·rename_i ah;exact ⟨_,_,h,Vr ai U ag (lit ah),rfl⟩
  ·obtain ⟨c,ab,h⟩:=bind_some h;obtain ⟨h1,rfl⟩:=afR ab;exact ⟨_,_,h,Vr ai U ag h1,rfl⟩
 |shl=>cases h
 |shr=>cases h
theorem ahE {op:BinOp} {s q:List UInt8} {K:bJ D->Option af} (ai:o.op= .binOp op t x y u) (U:aK fr x=str s) (ag:aK fr y=str q) (h:TA op s q K=aqV r):∃c v,K c=aqV r/\cP P (aK fr) o v/\dj X.G z vs c v:=by
 cases op with
 |add=>obtain ⟨c,ab,h⟩:=bind_some h;obtain ⟨h1,rfl⟩:=sf ab;exact ⟨_,_,h,amq ai U ag (by simp only[mg] at h1;omega),rfl⟩
 |eql=>exact ⟨_,_,h,amt ai U ag,rfl⟩
 |neq=>exact ⟨_,_,h,amF ai U ag,rfl⟩
 |lss=>exact ⟨_,_,h,amA ai U ag,rfl⟩
 |leq=>exact ⟨_,_,h,amz ai U ag,rfl⟩
 |gtr=>exact ⟨_,_,h,amv ai U ag,rfl⟩
 |geq=>exact ⟨_,_,h,amu ai U ag,rfl⟩
 |_=>cases h
theorem ahC {op:BinOp} {a b:Bool} {K:bJ D->Option af} (ai:o.op= .binOp op t x y u) (ao:P.underlying t=aqV .bool) (U:aK fr x= .bool a) (ag:aK fr y= .bool b) (h:Tz op a b K=aqV r):∃c v,K c=aqV r/\cP P (aK fr) o v/\dj X.G z vs c v:=by
 cases op with
 |eql=>exact ⟨_,_,h,ams ai ao U ag,rfl⟩
 |neq=>exact ⟨_,_,h,amE ai ao U ag,rfl⟩
 |_=>cases h
theorem Ov {s:aQ D} {v:aqX} {p:(t:Nat)×List (D t)} (aw:bm X.G O z e m k vs) (h:pr O s=aqV p) (ad:rel X.G z vs s v):er (X.G.T p.1) z p.2 v\/∃(w:aqX),c6 (X.G.T p.1) z e m k p.2 v:=by
 unfold pr at h;split at h
 ·cases h;exact .inl ad
 ·rename_i i;split at h
  ·rename_i t xs bg w ai;cases h;have b0:=aw.obj i _ v ai ad.1;cases bg with
   |true=>exact .inl b0
   |false=>exact .inr ⟨v,b0⟩
  ·cases h
 ·cases h
theorem afM {s:aQ D} {v:aqX} {p:(t:Nat)×List (D t)} (aw:bm X.G O z e m k vs) (h:pr O s=aqV p) (ad:rel X.G z vs s v):∃a c,v= .slice a p.2.length c:=by
 rcases Ov aw h ad with h|⟨_,h⟩
 ·exact h.len
 ·exact h.bf.len
theorem Wm {s:aQ D} {v:aqX} {p:(t:Nat)×List (D t)} (aw:bm X.G O z e m k vs) (h:pr O s=aqV p) (ad:rel X.G z vs s v):(v= .slice aqY 0 0/\p.2=[])\/∃a l c,v= .slice (aqV a) l c:=by
 rcases Ov aw h ad with h|⟨_,h⟩
 ·exact h.M1
 ·exact h.bf.M1
theorem afN {s:aQ D} {v:aqX} {p:(t:Nat)×List (D t)} (aw:bm X.G O z e m k vs) (h:pr O s=aqV p) (ad:rel X.G z vs s v):Src (X.G.T p.1) z m p.2 v:=by
 rcases Ov aw h ad with h|⟨_,h⟩
 ·exact h.src aw.aO.bg
 ·exact h.bf.src
theorem oF.anu {au:Type} {T:cf au} {z':Nat->a6} {xs:List au} {bG n:Nat} {w v:aqX} (ab:oF T.a1 bG n w v) (h:er T z' xs w):er T z' ((xs.take n).drop bG) v:=by
 rcases ab with ⟨rfl,rfl,rfl,rfl⟩|⟨b,f0,l,c,off,bQ,rfl,rfl,h1,J,aj,aM⟩
 ·exact .inl ⟨rfl,by simp⟩
 ·rcases h with ⟨h,_⟩|⟨b6,M7,c2,g1,g2,g3,g4⟩
  ·cases h
  ·cases g1;have ah:((xs.take n).drop bG).length=n - bG:=by simp;omega
   refine .inr ⟨b,off,bQ,by rw[ah],g2, ?_,fun i x ae=> ?_⟩
   ·rw[ah];rcases g3 with ⟨bs,L,bC,cQ⟩|⟨bs,bC⟩
    ·rcases aM with ⟨_,bq⟩|⟨bq,_⟩
     ·refine .inl ⟨bq,L,bC, ?_⟩;have aX:n*T.a1<=xs.length*T.a1:=asf _ J;rcases aj with aj|⟨aj,rL⟩
      ·rw[aj,arD,<-art,show bG+(n - bG)=n by omega];omega
      ·rw[rL,show n - bG=0 by omega];omega
     ·omega
    ·rcases aM with ⟨bq,_⟩|⟨bq,dv⟩
     ·omega
     ·exact .inr ⟨by omega,by omega⟩
   ·obtain ⟨cs,bs,bC⟩:=g4 _ x (G7 ae);refine ⟨cs,bs, ?_⟩;rcases aj with aj|⟨aj,rL⟩
    ·rw[aj,arD,<-art];exact bC
    ·have:=(aq5.1 ae).1;omega
theorem oF.Na {au:Type} {T:cf au} {z':Nat->a6} {m':Mem} {xs:List au} {bG n:Nat} {w v:aqX} (ab:oF T.a1 bG n w v) (h:eG T z' m' xs w):eG T z' m' ((xs.take n).drop bG) v:=by
 rcases ab with ⟨rfl,rfl,_,rfl⟩|⟨b,f0,l,c,off,bQ,rfl,rfl,h1,J,aj,aM⟩
 ·exact .inl ⟨rfl,by simp⟩
 ·rcases h with ⟨h,_⟩|⟨b6,f1,L,c2,g1,g2,g3,g4,g5,g6,g7⟩
  ·cases h
  ·cases g1;have ah:((xs.take n).drop bG).length=n - bG:=by simp;omega
   have aX:n*T.a1<=xs.length*T.a1:=asf _ J;have e2:bG*T.a1+(n - bG)*T.a1=n*T.a1:=by rw[<-art,show bG+(n - bG)=n by omega]
   have ij:n<=bG->(n - bG)*T.a1=0:=fun h=>by rw[show n - bG=0 by omega,ase]
   refine .inr ⟨b,off,L,bQ,by rw[ah],g2,g3,g4, ?_, ?_,fun i x ae=> ?_⟩
   ·rw[ah];rcases aj with aj|⟨aj,rL⟩
    ·omega
    ·have:=ij aj;omega
   ·rw[ah];rcases aM with ⟨_,bq⟩|⟨bq,dv⟩
    ·exact .inl bq
    ·rcases g6 with g6|⟨bs,bC,cQ⟩
     ·omega
     ·subst dv;have oR:bG*T.a1+(c - bG)*T.a1=c*T.a1:=by rw[<-art,show bG+(c - bG)=c by omega]
      refine .inr ⟨by omega,by omega, ?_⟩;rcases aj with aj|⟨aj,rL⟩<;>omega
   ·obtain ⟨cs,bs,bC⟩:=g7 _ x (G7 ae);refine ⟨cs,bs, ?_⟩;rcases aj with aj|⟨aj,rL⟩
    ·rw[aj,arD,<-art];exact bC
    ·have:=(aq5.1 ae).1;omega
theorem oF.bf {au:Type} {T:cf au} {z':Nat->a6} {m':Mem} {xs:List au} {n:Nat} {w v:aqX} (ab:oF T.a1 0 n w v) (h:eG T z' m' xs w):eG T z' m' (xs.take n) v:=by simpa using ab.Na h
theorem oF.src {au:Type} {T:cf au} {z':Nat->a6} {m':Mem} {xs:List au} {bG n:Nat} {w v:aqX} (ab:oF T.a1 bG n w v) (h:eG T z' m' xs w):Src T z' m' ((xs.take n).drop bG) v:=by
 rcases ab with ⟨rfl,rfl,rfl,rfl⟩|⟨b,f0,l,c,off,bQ,rfl,rfl,h1,J,aj,aM⟩
 ·simpa using (eG.nil (T:=T) (z:=z') (m:=m')).src
 ·rcases h with ⟨h,_⟩|⟨b6,f1,L,c2,g1,g2,g3,g4,g5,g6,g7⟩
  ·cases h
  ·cases g1;have ah:((xs.take n).drop bG).length=n - bG:=by simp;omega
   rw[<-ah];refine Pr fun i y ag=> ?_;obtain ⟨cs,bs,bC⟩:=g7 _ y (G7 ag);refine ⟨cs,bs,fun k u hk=> ?_⟩;have:=(aq5.1 ag).1;have ai:off=f0+bG*T.a1:=by
    rcases aj with aj|⟨aj,_⟩
    ·exact aj
    ·omega
   rw[ai,arD f0,<-art];simp only[Mem.load,g2];exact bC k u hk
theorem oF.aG {a1 bG n:Nat} {w v:aqX} (ab:oF a1 bG n w v):da v=da w:=by
 rcases ab with ⟨rfl,rfl,_,_⟩|⟨b,f0,l,c,off,bQ,rfl,rfl,_⟩<;>rfl
theorem Wl {s:aQ D} {v:aqX} {p:(t:Nat)×List (D t)} (aw:bm X.G O z e m k vs) (h:HL O s=aqV p) (ad:rel X.G z vs s v):Src (X.G.T p.1) z m p.2 v:=by
 unfold HL at h;split at h
 ·obtain ⟨w,h1,J⟩:=ad;split at h
  ·rename_i bx xs cO hO;split at h
   ·rename_i he;subst he;cases h;have b0:c6 _ z e m k xs w:=aw.obj _ _ _ hO h1.1;exact J.src b0.bf
   ·cases h
  ·cases h
 ·exact afN aw h ad
theorem Xk (h:Pw y=aqW):aK fr y= .slice aqY 0 0:=by
 unfold Pw at h;split at h
 ·rfl
 ·cases h
theorem YK {op:BinOp} {left:Bool} {kk FT:aq2} {a b:Int} {K:bJ D->Option af} (ai:o.op= .binOp op t x y u) (aq:aK fr x= .int kk a) (aa:aK fr y= .int FT b) (jy:(op= .shl/\left=aqW)\/(op= .shr/\left=aqZ)) (h:Iy left y kk a b K=aqV r):∃c v,K c=aqV r/\cP P (aK fr) o v/\dj X.G z vs c v:=by
 have fin:∀{n:Nat},0<=b->min b.toNat kk.bits=n->cP P (aK fr) o (.int kk (Ae left kk a n)):=by
  intro n h4 ar;have:=ajn (P:=P) (op:=op) ai aq aa h4 (by rcases jy with ⟨h,_⟩|⟨h,_⟩<;>simp[h]);rw[ar] at this;have e:(if op= .shl then kk.wrap (a*2 ^ n) else a.fdiv (2 ^ n))=Ae left kk a n:=by rcases jy with ⟨rfl,rfl⟩|⟨rfl,rfl⟩<;>simp[Ae,Int.natCast_pow]
  rw[<-e];exact this
 unfold Iy at h;split at h
 ·rename_i n ar;obtain ⟨ah,h⟩:arz n kk.bits=aqW/\K (.int kk (Ae left kk a n))=aqV r:=by
   split at h
   ·exact ⟨‹_›,h⟩
   ·cases h
  have eM:b=n:=by
   unfold Yl at ar;split at ar
   ·cases ar;have aa:asK _ (Int.ofNat n)= .int FT b:=aa;cases aa;rfl
   ·cases ar
  exact ⟨_,_,h,fin (by omega) (by rw[eM,ar0];exact Nat.min_eq_left (asg ah)),rfl⟩
 ·obtain ⟨n,ar,h⟩:=bind_some h;unfold Zz at ar;split at ar
  ·rename_i h4;cases ar;exact ⟨_,_,h,fin h4 rfl,rfl⟩
  ·cases ar
theorem ait {op:BinOp} {t1 t2:Nat} {c1 c2:List (bJ D)} {K:bJ D->Option af} (ai:o.op= .binOp op t x y u) (aq:rel X.G z vs (.agg t1 c1) (aK fr x)) (aa:rel X.G z vs (.agg t2 c2) (aK fr y)) (h:Ll X op t t1 c1 t2 c2 K=aqV r):∃c v,K c=aqV r/\cP P (aK fr) o v/\dj X.G z vs c v:=by
 unfold Ll at h;split at h
 ·rename_i ti mI ac' aqh;split at h
  ·rename_i a b h1 J;obtain ⟨ds,U,yP⟩:=aq;obtain ⟨mX,ag,lo⟩:=aa;have aX:=mI.ad z a ds (ti.q1 z vs c1 a ds h1 yP);have e2:=mI.ad z b mX (ti.q1 z vs c2 b mX J lo);rw[aX] at U;rw[e2] at ag;split at h
   ·exact ⟨_,_,h,Vp aqZ (by simpa using ai) mI.ao mI.ap mI.aH (mI.ay a b) U ag (mI.he a b),rfl⟩
   ·exact ⟨_,_,h,Vp aqW (by simpa using ai) mI.ao mI.ap mI.aH (mI.ay a b) U ag (mI.he a b),rfl⟩
   ·cases h
  ·cases h
 ·cases h
theorem ahF {op:BinOp} {a b:aQ D} {K:bJ D->Option af} (ai:o.op= .binOp op t x y u) (aw:bm X.G O z e m k vs) (aq:rel X.G z vs a (aK fr x)) (aa:rel X.G z vs b (aK fr y)) (h:JI (P:=P) op t y O a b K=aqV r):∃c v,K c=aqV r/\cP P (aK fr) o v/\dj X.G z vs c v:=by
 unfold JI at h;split at h
 ·split at h
  ·exact YK ai aq aa (.inl ⟨rfl,rfl⟩) h
  ·exact YK ai aq aa (.inr ⟨rfl,rfl⟩) h
  ·split at h
   ·rename_i hk;subst hk;exact ahD ai aq aa h
   ·cases h
 ·exact ahE ai aq aa h
 ·split at h
  ·rename_i ao;exact ahC ai ao aq aa h
  ·cases h
 ·split at h
  ·rename_i fR ao ar;have ag:=Xk (fr:=fr) ar;split at h
   ·exact ⟨_,_,h,GX aqZ ai ao aq ag,rfl⟩
   ·split at h
    ·rename_i c7 xs ah;rcases Wm aw ah aq with ⟨ad,pX⟩|⟨a',kD,bQ,ad⟩
     ·exact ⟨_,_,Gx h aqW fun _=>pX,GX aqZ ai ao ad ag,rfl⟩
     ·exact ⟨_,_,Gx h aqZ (by simp), .Bk aqZ x y t u fR a' kD bQ ai ao ad ag,rfl⟩
    ·cases h
  ·rename_i fR ao ar;have ag:=Xk (fr:=fr) ar;split at h
   ·exact ⟨_,_,h,GX aqW ai ao aq ag,rfl⟩
   ·split at h
    ·rename_i c7 xs ah;rcases Wm aw ah aq with ⟨ad,pX⟩|⟨a',kD,bQ,ad⟩
     ·exact ⟨_,_,Gx h aqW fun _=>pX,GX aqW ai ao ad ag,rfl⟩
     ·exact ⟨_,_,Gx h aqZ (by simp), .Bk aqW x y t u fR a' kD bQ ai ao ad ag,rfl⟩
    ·cases h
  ·cases h
end
end Go.aS
end
section
namespace Go.aS
section
variable {P:aq1} {D:Nat->Type} {X:dB P D} {af:Type} {z z':Nat->a6} {e m m':Mem} {k:Option Nat} {vs:List aqX} {fr:Nat->aqX} {E:List (Nat×aQ D)} {O:List (aL D)} {o:Oper} {r:af}
variable {x y:aq3} {t u:aq4} {K:aQ D->List (aL D)->Option af}
theorem iz {c3:aQ D} {v:aqX} (aw:bm X.G O z e m k vs) (fB:K c3 O=aqV r) (h:cP P (aK fr) o v) (ad:rel X.G z vs c3 v):bZ P (aK fr) o m fun _ v m'=>c5 X O z e k vs K r v m':=
 bZ.pure h (c5.here aw ad fB)
theorem YW {fO:Nat} {ti:fw P X.G fO} {xs:List (D fO)} {n:Int} {kk:aq2} {a:D fO} (ai:o.op= .indexAddr t x y) (ao:P.underlying t=aqV (.slice fO)) (aw:bm X.G O z e m k vs) (ay:er (X.G.T fO) z xs (aK fr x)) (ag:aK fr y= .int kk n) (aH:aR xs n=aqV a)
  (h:K (.fH fO (ti.lv a) 0) O=aqV r):bZ P (aK fr) o m fun _ v m'=>c5 X O z e k vs K r v m':=by
 refine am3 ai ao ti.ae ti.bE rfl ag ay aH fun b off cs dG ab=> ?_;exact c5.here (c3:= .fH fO (ti.lv a) 0) aw ⟨b,off,cs,rfl,ab,ti.rf _ _ _ _ dG⟩ h
theorem agZ {a b:aQ D} (ai:o.op= .indexAddr t x y) (aw:bm X.G O z e m k vs) (aq:rel X.G z vs a (aK fr x)) (aa:rel X.G z vs b (aK fr y)) (h:P3 X t a b O K=aqV r):bZ P (aK fr) o m fun _ v m'=>c5 X O z e k vs K r v m':=by
 unfold P3 at h;split at h
 ·rename_i kk n;have ag:aK fr y= .int kk n:=aa;split at h
  ·rename_i i;split at h
   ·rename_i t1 xy j1 xs cO hO;split at h
    ·rename_i ti l bx cc ao;split at h
     ·rename_i dn;obtain ⟨rfl,rfl⟩:=dn;obtain ⟨a,aH,h⟩:=bind_some h;obtain ⟨b,Ci,ad,U⟩:=aq;obtain ⟨⟨b6,he⟩,b0⟩:=aw.obj i _ _ hO ad;cases he;refine am2 ai ao ti.ae (T:=(X.G.T bx).as xy) ti.bE U ag b0 aH fun cs dG qM ab=> ?_;exact c5.here (c3:= .el i bx n 0) aw ⟨b,0,_,_,ad,by simp;rfl⟩ h
     ·cases h
    ·cases h
   ·cases h
  ·rename_i aX xs;split at h
   ·rename_i ti bx cc ao;split at h
    ·rename_i dn;subst dn;obtain ⟨a,aH,h⟩:=bind_some h;exact YW (ti:=ti) ai ao aw aq ag aH h
    ·cases h
   ·cases h
  ·rename_i i;split at h
   ·rename_i t1 xs bg cO hO;split at h
    ·rename_i ti bx cc ao;split at h
     ·rename_i dn;subst dn;obtain ⟨a,aH,h⟩:=bind_some h;have b0:=aw.obj i _ _ hO aq.1;cases bg with
      |true=>exact YW (ti:=ti) ai ao aw b0 ag aH h
      |false=>have b0:c6 (X.G.T bx) z e m k xs (aK fr x):=b0;refine YY ai ao ti.ae ti.bE rfl ag b0 aH fun b f0 l c cs ad dG qM ab=> ?_;exact c5.here (c3:= .el i bx n 0) aw ⟨b,f0,l,c,by rw[<-ad];exact aq.1,rfl⟩ h
     ·cases h
    ·cases h
   ·rename_i aX t1 up di hole cO hO;split at h
    ·rename_i dI bx bj ao;split at h
     ·rename_i dn;subst dn;obtain ⟨a,aH,h⟩:=bind_some h;obtain ⟨hu,ws,b0⟩:=aw.obj i _ _ hO aq.1;obtain ⟨g0,g1,g2⟩:=pe aH;have aN:n.toNat<ws.length:=by rw[b0.len];exact (aq5.1 g2).1
      have vN:aR ws n=aqV ws[n.toNat]:=by unfold aR;rw[if_pos (by omega)];exact ary aN
      refine YY (T:=qx bx) ai ao dI.ae (by rw[dI.h1];rfl) rfl ag b0.bf vN fun b f0 l c cs ad dG qM ab=> ?_;exact c5.here (c3:= .el i bx n 0) aw ⟨b,f0,l,c,by rw[<-ad];exact aq.1,by rw[dI.bE];rfl⟩ h
     ·cases h
    ·cases h
   ·cases h
  ·rename_i i aX bG ae;split at h
   ·rename_i t1 xs cO hO;split at h
    ·rename_i ti bx cc ao;split at h
     ·rename_i dn;obtain ⟨rfl,rfl⟩:=dn;obtain ⟨a,aH,h⟩:=bind_some h;obtain ⟨w,hw,ab⟩:=aq;obtain ⟨g0,g1,g2⟩:=pe aH;have hlen:n.toNat<((xs.take ae).drop bG).length:=(aq5.1 g2).1;rw[asa,arG] at hlen;rcases ab with ⟨_,_,rfl,rfl⟩|⟨b,f0,l,c,off,bQ,rfl,ad,h1,J,aj,aM⟩
      ·omega
      ·have n0:off=f0+bG*(X.G.T t1).a1:=by rcases aj with aj|aj<;>omega
       refine bZ.pure (v:= .pointer (aqV ⟨b,off+n.toNat*ti.i.size,aqY⟩)) (.indexAddr t x y t1 ti.i b off _ bQ kk n ai ao ti.ae ad ag g0 (by omega)) (c5.here (c3:= .el i t1 ((bG:Int)+n) 0) aw ⟨b,f0,l,c,hw.1, ?_⟩ h);have aX:((bG:Int)+n).toNat=bG+n.toNat:=by omega
       rw[aX,n0,ti.bE,art,arJ,arD]
     ·cases h
    ·cases h
   ·cases h
  ·cases h
 ·cases h
theorem agX {n:Nat} {a:aQ D} (ai:o.op= .fieldAddr t x n) (aw:bm X.G O z e m k vs) (aq:rel X.G z vs a (aK fr x)) (h:P2 (P:=P) t n a O K=aqV r):bZ P (aK fr) o m fun _ v m'=>c5 X O z e k vs K r v m':=by
 unfold P2 at h;split at h
 ·rename_i bc ao;split at h
  ·rename_i f aP;split at h
   ·rename_i i ae;split at h
    ·cases h
    ·rename_i ay;have kf:(i.size==0)=aqZ:=by simpa using ay
     split at h
     ·obtain ⟨b,ad,U⟩:=aq;exact iz aw h (O9 ai ao aP ae kf U) ⟨b,ad,rfl⟩
     ·obtain ⟨b,gm,ds,U,ab,an⟩:=aq;exact iz aw h (O9 ai ao aP ae kf U) ⟨b,gm,ds,by rw[arD],ab,an⟩
     ·obtain ⟨b,f0,l,c,ad,U⟩:=aq;exact iz aw h (O9 ai ao aP ae kf U) ⟨b,f0,l,c,ad,by rw[arD]⟩
     ·cases h
   ·cases h
  ·cases h
 ·cases h
theorem agM {b off:Nat} {cs:List (bJ D)} {ds:List aqX} {K:aQ D->Option af} (ai:o.op= .load t x) (U:aK fr x= .pointer (aqV ⟨b,off,aqY⟩)) {kS:Nat} (ab:∀(j:Nat) (w:aqX),ds[j]? =aqV w->m.load b (kS+j)=aqV w) {n:Nat} (n0:off=kS+n) (an:ba (dj X.G z vs) cs ds)
  (h:pq (P:=P) t cs n K=aqV r):∃c3 v,K c3=aqV r/\rel X.G z vs c3 v/\eT P (aK fr) o m v:=by
 subst n0;unfold pq at h;split at h
 ·cases h
 ·rename_i d aB;split at h
  ·rename_i vE;split at h
   ·cases h
   ·rename_i i ae;split at h
    ·rename_i hlen;have nj:ba (dj X.G z vs) ((cs.drop n).take i.size) ((ds.drop n).take i.size):=ba.take _ (ba.drop _ an);have gl:((ds.drop n).take i.size).length=i.size:=by rw[<-nj.length];exact hlen
     refine ⟨_, .agg ((ds.drop n).take i.size).toArray,h,⟨_,rfl,nj⟩,aix ai aB vE ae gl U fun j w av=> ?_⟩;rw[arK] at av;split at av
     ·rw[ar6] at av;rw[arD];exact ab _ w av
     ·cases av
    ·cases h
  ·rename_i vE;split at h
   ·rename_i c hC;obtain ⟨w,hw,yR⟩:=an.get n c hC;exact ⟨_,w,h,yR,YV ai aB (by simpa using vE) U (ab n w hw)⟩
   ·cases h
theorem bm.kill (h:bm X.G O z e m k vs) (i:Nat):bm X.G (O.set i .dead) z e m k vs:=by
 refine ⟨h.aO,by rw[asq];exact h.len,fun j p w av hw=> ?_,fun a b p dJ u w eF aq aa fQ j0 hu hw=> ?_⟩
 ·rw[arv] at av;split at av
  ·split at av
   ·cases av;trivial
   ·cases av
  ·exact h.obj j p w av hw
 ·have key:∀(a:Nat) (p:aL D),(O.set i .dead)[a]? =aqV p->p.live=aqW->O[a]? =aqV p:=by
   intro a p aq ap;rw[arv] at aq;split at aq
   ·split at aq
    ·cases aq;cases ap
    ·cases aq
   ·exact aq
  exact h.eD a b p dJ u w eF (key a p aq fQ) (key b dJ aa j0) fQ j0 hu hw
theorem CP {bL:List (aL D)} {i:Nat} (aw:bm X.G O z e m k vs) (h:wY O i=aqV bL):∃z',Inv O bL/\cT e.next z z'/\bm X.G bL z' e m k vs:=by
 unfold wY at h;split at h
 ·cases h;exact ⟨z,Inv.refl O,cT.refl z,aw⟩
 ·rename_i aX t1 up di p w hO;split at h
  ·rename_i t2 xs fo Fb;split at h
   ·rename_i dn;subst dn;cases h;obtain ⟨v,ad,hu,ws,b0⟩:=aw.at hO;obtain ⟨lz,u,B0,o1⟩:=b0.out p rfl;have kX:c6 (X.G.T t2) z e m k xs u:=aw.obj p.2 _ u Fb B0;have b8:i≠p.2:=fun ax=>by rw[ax,Fb] at hO;cases hO
    have hB:da v=cp v:=fM (by obtain ⟨a,c,rfl⟩:=b0.bf.bf.len;intro r;simp);have vG:da u=cp u:=fM (by obtain ⟨a,c,rfl⟩:=kX.bf.len;intro r;simp);have n4:∀r,v≠ .map r:=by obtain ⟨a,c,rfl⟩:=b0.bf.bf.len;intro r;simp
    have dy:=aw.eD p.2 i _ _ u v (fun ax=>b8 ax.symm) Fb hO rfl rfl B0 ad;rw[hB,vG] at dy;have aN:p.1.toNat<ws.length:=(aq5.1 o1).1;have nm:ws=ws.set p.1.toNat u:=by
     apply asL;intro j;rw[arv];split
     ·rename_i av;subst av;exact o1
     ·rfl
    obtain ⟨z',g1,g2,g3,g4⟩:=OD b0 aw.aO b0.bf nm aN (fun q aJ=>by cases aJ;omega) kX dy;have Bt:=aw.kill p.2;have LD:(O.set p.2 .dead)[i]? =aqV (.nest aX t2 up di (aqV p) w):=by rw[as2 (fun ax=>b8 ax.symm)];exact hO
    have vB:=Bt.Ec (o':= .nest aX t2 up (di.set p.1.toNat xs) aqY aqW) (p:=cp u) LD ad rfl n4 g1.le ⟨aq9 _,aw.aO.dead,fun _ _ _=>rfl⟩ g2 (fun j q qo av aJ ah hw=> ?_) (fun b aa=>(kX.bf.lt b aa).2) (fun b aa ap _=> ?_) ⟨hu,ws,g3⟩
    ·have Mw:(O.set i (.nest aX t2 up (di.set p.1.toNat xs) aqY aqW)).set p.2 .dead=(O.set p.2 .dead).set i (.nest aX t2 up (di.set p.1.toNat xs) aqY aqW):=List.set_comm _ _ b8;exact ⟨z',(Inv.set O i (.inr rfl)).trans (Inv.set _ p.2 (.inl rfl)),g1,by rw[Mw];exact vB⟩
    ·rw[arv] at aJ;split at aJ
     ·split at aJ
      ·cases aJ;cases ah
      ·cases aJ
     ·rename_i L8;have:=aw.eD j p.2 q _ qo u (fun ax=>L8 ax.symm) aJ Fb ah rfl hw B0;rw[vG] at this;exact this
    ·rcases g4 b with ab|ab
     ·exact ab
     ·exact absurd ab ap
   ·cases h
  ·cases h
 ·cases h
theorem afK {i e2 t1:Nat} (dI:pF P X.G e2 t1) {up:Option (List (D t1)->D e2)} {di:List (List (D t1))} {cO:Bool} {cy:Int} {bL:List (aL D)} {cr:Nat->a6} (ai:o.op= .load e2 x) (aw:bm X.G O z e m k vs) (hg:Inv O bL) (pY:cT e.next z cr) (hA:bm X.G bL cr e m k vs) (hO:bL[i]? =aqV (.nest e2 t1 up di aqY cO)) (aq:rel X.G z vs (.el i e2 cy 0) (aK fr x))
  (h:(aq0 (aR di cy) fun xs=>K (.c (.own bL.length)) (bL.set i (.nest e2 t1 up di (aqV (cy,bL.length)) cO)++[.az t1 xs aqZ aqZ]))=aqV r):bZ P (aK fr) o m fun _ v m'=>c5 X O z e k vs K r v m':=by
 obtain ⟨xs,aH,h⟩:=bind_some h;obtain ⟨b,f0,l,c,ad,U⟩:=aq;obtain ⟨hu,ws,b0⟩:=hA.obj i _ _ hO ad;obtain ⟨g0,g1,g2⟩:=pe aH;have aN:cy.toNat<ws.length:=by rw[b0.len];exact (aq5.1 g2).1
 have hw:=ary aN;have vN:aR ws cy=aqV ws[cy.toNat]:=by unfold aR;rw[if_pos (by omega)];exact hw
 obtain ⟨cs,dG,_,ab⟩:=b0.bf.elem rfl vN;have acf:m.load b (f0+cy.toNat*(X.G.T e2).a1+0)=aqV ws[cy.toNat]:=by rw[dI.bE];exact ab 0 _ (by rw[dG.1];rfl)
 generalize ws[cy.toNat]=u at*;obtain ⟨z2,cm,cw,dW,fG,l3,lB⟩:=agR (vs':=vs++[u]) (FP:=bL.length) b0 hA.aO hw g2 iy (by rw[<-hA.len];simp);have n4:∀r,aso (aqV ⟨b,f0,aqY⟩) l c≠ .map r:=fun r ax=>by cases ax
 have mv:((cy.toNat:Nat):Int)=cy:=by omega
 rw[mv] at dW;have vG:da u=cp u:=fM (by obtain ⟨a,c,rfl⟩:=fG.bf.len;intro r;simp);have ae:=(aq5.1 hO).1;have abh:bm X.G (bL++[.dead]) cr e m k (vs++[u]):=hA.Ng trivial fun ah=>by cases ah
 have abi:=abh.Ec (o:= .nest e2 t1 up di aqY cO) (o':= .nest e2 t1 up di (aqV (cy,bL.length)) cO) (p:=aqY) (by rw[arm ae];exact hO) (iy _ _ ad) rfl n4 cm.le ⟨aq9 _,aw.aO.dead,fun _ _ _=>rfl⟩ cw (fun _ _ _ _ _ _ _=>ei.q0) (fun b aa=>by cases aa) (fun b6 _ _ ah=>by
  rcases l3 b6 with ax|⟨_,aI,L,t,ax⟩
  ·exact ax
  ·rcases ah with ah|ah
   ·exact absurd ah aI
   ·exact absurd ax (ah _ _ _)) ⟨hu,ws,dW⟩
 have hlen:((bL++[(.dead:aL D)]).set i (.nest e2 t1 up di (aqV (cy,bL.length)) cO)).length=bL.length+1:=by simp
 have T0:=abi.an0 (i:=bL.length) (o':= .az t1 xs aqZ aqZ) (v:=u) (by rw[hlen];omega) (by rw[<-hA.len];simp) (fG:c6 (X.G.T t1) z2 e m k xs u) (fun j q w av aJ ah hw=> ?_)
 ·have jY:((bL++[(.dead:aL D)]).set i (.nest e2 t1 up di (aqV (cy,bL.length)) cO)).set bL.length (.az t1 xs aqZ aqZ)=bL.set i (.nest e2 t1 up di (aqV (cy,bL.length)) cO)++[.az t1 xs aqZ aqZ]:=by
   rw[List.set_append_left _ _ ae,List.set_append_right _ _ (by simp)];simp
  rw[jY] at T0;refine bZ.read (YV ai dI.hu rfl U acf) ⟨z2,vs++[u], .c (.own bL.length),_,hg.trans ((Inv.set bL i (.inr ?_)).trans (Inv.push _ _)),pY.trans cm,iy,T0, ?_,h⟩
  ·simp[aL.k6]
  ·obtain ⟨a,bQ,rfl⟩:=fG.bf.len;exact ⟨by rw[<-hA.len];simp,rfl,rfl⟩
 ·intro b6 cu kg;rw[vG] at kg;refine lB b6 kg ?_;have Uo:j<bL.length:=by
   have:=(aq5.1 aJ).1;rw[hlen] at this;omega
  by_cases iJ:j=i
  ·subst iJ;rw[arm (by rw[hA.len];exact ae)] at hw;rw[ad] at hw;cases hw;exact ((hA.obj _ _ _ hO ad).lt rfl b6 cu).2.1
  ·rw[as2 (fun ax=>iJ ax.symm),arm Uo] at aJ;rw[arm (by rw[hA.len];exact Uo)] at hw;exact ((hA.obj j q w aJ hw).lt ah b6 cu).2.1
theorem afj {i aX:Nat} {cy:Int} {off:Nat} (ai:o.op= .load t x) (aw:bm X.G O z e m k vs) (aq:rel X.G z vs (.el i aX cy off) (aK fr x)) (h:OF X t i aX cy off O K=aqV r):bZ P (aK fr) o m fun _ v m'=>c5 X O z e k vs K r v m':=by
 unfold OF at h;split at h
 ·rename_i bL aP;obtain ⟨cr,hg,pY,hA⟩:=CP aw aP;split at h
  ·rename_i e2 t1 up di cO hO;split at h
   ·rename_i dI bj;split at h
    ·rename_i hk;obtain ⟨rfl,rfl,rfl⟩:=hk;exact afK dI ai aw hg pY hA hO aq h
    ·cases h
   ·cases h
  ·cases h
 ·cases h
theorem WG {a:aQ D} (ai:o.op= .load t x) (aw:bm X.G O z e m k vs) (aq:rel X.G z vs a (aK fr x)) (h:Hs X t a O K=aqV r):bZ P (aK fr) o m fun _ v m'=>c5 X O z e k vs K r v m':=by
 have fin:∀{b off:Nat} {cs:List (bJ D)} {ds:List aqX} {kS n:Nat},aK fr x= .pointer (aqV ⟨b,off,aqY⟩)->(∀(j:Nat) (w:aqX),ds[j]? =aqV w->m.load b (kS+j)=aqV w)->off=kS+n->ba (dj X.G z vs) cs ds->pq (P:=P) t cs n (fun v=>K v O)=aqV r->bZ P (aK fr) o m fun _ v m'=>c5 X O z e k vs K r v m':=by intro b off cs ds kS n U ab n0 an h;obtain ⟨c3,v,h1,J,aj⟩:=agM ai U ab n0 an h;exact bZ.read aj (c5.here aw J h1)
 unfold Hs at h;split at h
 ·obtain ⟨b,gm,ds,U,ab,an⟩:=aq;exact fin U (aw.aO.r5 ab) rfl an h
 ·rename_i i off;obtain ⟨b,ad,U⟩:=aq;split at h
  ·rename_i u cs bg cO hO;have b0:=aw.obj i _ _ hO ad;cases bg with
   |true=>obtain ⟨b6,ds,he,ab,an⟩:=b0;cases he;exact fin U (aw.aO.r5 ab) (arh _).symm an h
   |false=>obtain ⟨b6,ds,he,aa,_,an⟩:=b0;cases he;exact fin U aa.r5 (arh _).symm an h
  ·rename_i u cs cO hO;obtain ⟨b6,ds,he,aa,an⟩:=aw.obj i _ _ hO ad;cases he;exact fin U aa.r5 (arh _).symm an h
  ·cases h
 ·rename_i i aX cy off;split at h
  ·exact afj ai aw aq h
  obtain ⟨b,f0,l,c,ad,U⟩:=aq;split at h
  ·rename_i e2 xs bg cO ti hO cc;split at h
   ·rename_i dn;subst dn;obtain ⟨a,aH,h⟩:=bind_some h;have b0:=aw.obj i _ _ hO ad;cases bg with
    |true=>
     have b0:er (X.G.T e2) z xs _:=b0;obtain ⟨g0,g1,g2⟩:=pe aH;rcases b0 with ⟨he,_⟩|⟨b6,o',bQ,he,_,_,aM⟩
     ·cases he
     ·cases he;obtain ⟨cs,dG,ab⟩:=aM _ a g2;exact fin U (aw.aO.r5 ab) rfl (ti.rf _ _ _ _ dG) h
    |false=>have b0:c6 (X.G.T e2) z e m k xs _:=b0;obtain ⟨cs,dG,_,ab⟩:=b0.elem rfl aH;exact fin U ab rfl (ti.rf _ _ _ _ dG) h
   ·cases h
  ·rename_i e2 u n xs cO ti hO cc;split at h
   ·rename_i dn;subst dn;obtain ⟨a,aH,h⟩:=bind_some h;obtain ⟨_,b0⟩:=aw.obj i _ _ hO ad;obtain ⟨cs,dG,_,ab⟩:=b0.elem rfl aH;exact fin U ab rfl (ti.rf _ _ _ _ dG) h
   ·cases h
  ·cases h
 ·cases h
end
end Go.aS
end
section
namespace Go.aS
section
variable {P:aq1} {D:Nat->Type} {X:dB P D} {af:Type} {z z':Nat->a6} {e m m':Mem} {k:Option Nat} {vs:List aqX} {fr:Nat->aqX} {E:List (Nat×aQ D)} {O:List (aL D)} {o:Oper} {r:af}
variable {x y:aq3} {t u:aq4} {K:aQ D->List (aL D)->Option af}
theorem ba.set {au bz:Type} {R:au->bz->Prop}:∀{l:List au} {k:List bz} (i:Nat) {a:au} {b:bz},ba R l k->R a b->ba R (l.set i a) (k.set i b)
 |[],[],i,a,b,_,_=>by simp[ba]
 |x::l,y::k,0,a,b,⟨_,J⟩,eF=>⟨eF,J⟩
 |x::l,y::k,i+1,a,b,⟨h1,J⟩,eF=>⟨h1,ba.set i J eF⟩
 |[],_::_,_,_,_,h,_=>h.elim
 |_::_,[],_,_,_,h,_=>h.elim
theorem zp:∀{new:List (bJ D)} {MZ:List aqX} {cs:List (bJ D)} {ds:List aqX} (off:Nat),ba (dj X.G z vs) cs ds->ba (dj X.G z vs) new MZ->ba (dj X.G z vs) (xx cs off new) (eU ds off MZ)
 |[],[],cs,ds,off,h,_=>h
 |c::new,d::MZ,cs,ds,off,h,⟨h1,J⟩=>zp (off+1) (h.set off h1) J
 |[],_::_,_,_,_,_,h=>h.elim
 |_::_,[],_,_,_,_,h=>h.elim
theorem C7 {a b:Nat} (h:a<=b):arz a b=aqW:=by rw[Nat.ble_eq];exact h
theorem ot {ob:aL D} {c3:aQ D} {v w:aqX} (aw:bm X.G O z e m k vs) (aO:cL z e m' k) (s:e5 m m' aqY) (dy:∀p,(∀b,p=aqV b->b<m.next)->ei p (da v)) (fB:K c3 (O++[ob])=aqV r) (b0:fI X.G z e m' k (vs++[v]) ob v) (ad:rel X.G z (vs++[v]) c3 w):c5 X O z e k vs K r w m':=
 ⟨z,vs++[v],c3,O++[ob],Inv.push O ob,cT.refl z,iy,aw.push s aO (fun _ _ _ _ _ _=>ei.q0) b0 fun p ap _=>dy p ap,ad,fB⟩
theorem CO {i:Nat} {ob M5:aL D} {v:aqX} (aw:bm X.G O z e m k vs) (fB:K .undef (O.set i M5)=aqV r) (hO:O[i]? =aqV ob) (ad:vs[i]? =aqV v) (ah:ob.live=aqW) (ao:M5.k6=aqW) (s:e5 m m' (da v)) (aO:cL z e m' k) (ar:fI X.G z e m' k vs M5 v):c5 X O z e k vs K r undef m':=
 ⟨z,vs, .undef,_,Inv.set O i (.inr ao),cT.refl z,fun _ _ h=>h,aw.mM hO ad ah s aO ar,rfl,fB⟩
theorem C6 (aw:bm X.G O z e m k vs) (v:aqX):(vs++[v])[O.length]? =aqV v:=by
 rw[<-aw.len];simp
theorem nx {v:aqX} {l:Nat} (aw:bm X.G O z e m k vs) (ad:∃a c,v= .slice a l c):rel X.G z (vs++[v]) (.c (.own O.length)) v:=by
 obtain ⟨a,c,rfl⟩:=ad;exact ⟨C6 aw _,rfl,rfl⟩
theorem V8 {i j aX t1:Nat} (dI:pF P X.G aX t1) {up:Option (List (D t1)->D aX)} {di:List (List (D t1))} {hole:Option (Int×Nat)} {cO fo:Bool} {xs:List (D t1)} {cy:Int} (ai:o.op= .store aX x y) (aw:bm X.G O z e m k vs) (hO:O[i]? =aqV (.nest aX t1 up di hole cO)) (av:O[j]? =aqV (.az t1 xs aqZ fo)) (aq:rel X.G z vs (.el i aX cy 0) (aK fr x)) (aa:rel X.G z vs (.c (.own j)) (aK fr y)) (ax:∀p,hole=aqV p->p.1=cy)
  (h:(aq0 (aR di cy) fun _=>K .undef ((O.set i (.nest aX t1 up (di.set cy.toNat xs) aqY aqW)).set j .dead))=aqV r):bZ P (aK fr) o m fun _ v m'=>c5 X O z e k vs K r v m':=by
 obtain ⟨a,aH,h⟩:=bind_some h;obtain ⟨b,f0,l,c,ad,U⟩:=aq;obtain ⟨hu,dH,hV⟩:=aa;obtain ⟨e9,ws,b0⟩:=aw.obj i _ _ hO ad;obtain ⟨g0,g1,g2⟩:=pe aH;have aN:cy.toNat<ws.length:=by rw[b0.len];exact (aq5.1 g2).1
 have hw:=ary aN;have vN:aR ws cy=aqV ws[cy.toNat]:=by unfold aR;rw[if_pos (by omega)];exact hw
 obtain ⟨cs,dG,_,ab⟩:=b0.bf.elem rfl vN;have kX:c6 (X.G.T t1) z e m k xs (aK fr y):=aw.obj j _ _ av hu;generalize gR:aK fr y=u at*;have b8:i≠j:=fun ax=>by rw[ax,av] at hO;cases hO
 have n4:∀r,aso (aqV ⟨b,f0,aqY⟩) l c≠ .map r:=fun r ax=>by cases ax
 have vG:da u=cp u:=fM (by obtain ⟨a,c,rfl⟩:=kX.bf.len;intro r;simp);have dy:=aw.eD j i _ _ u _ (fun ax=>b8 ax.symm) av hO rfl rfl hu ad;rw[vG] at dy;rw[dI.bE] at U;have yw:u.cells.toList=[u]:=by rw[hV]
 refine FQ (T:=qx aX) (f:=0) (n:=cy.toNat) ai dI.ae U rfl gR dH yw (by rw[dI.h1];rfl) b0.bf rfl hw dG ab (a':=u) ⟨rfl,dH,hV⟩ (by rw[dG.1];rfl) (by rw[dG.1];rfl) aw.aO fun m' dO sd fa=> ?_;have My:c6 (X.G.T t1) z e m' k xs u:=kX.same fa dy;obtain ⟨z',cm,cw,dW,fG⟩:=OD b0 dO sd rfl aN (fun p ap=>by rw[ax p ap];omega) My dy;have Bt:=aw.kill j;have LD:(O.set j .dead)[i]? =aqV (.nest aX t1 up di hole cO):=by rw[as2 (fun ax=>b8 ax.symm)];exact hO
 have vB:=Bt.Ec (o':= .nest aX t1 up (di.set cy.toNat xs) aqY aqW) (p:=cp u) LD ad rfl n4 cm.le fa cw (fun a q qo aq aJ ah hw=> ?_) (fun b aa=>(kX.bf.lt b aa).2) (fun b _ ap _=> ?_) ⟨e9,_,dW⟩
 ·have Mw:(O.set i (.nest aX t1 up (di.set cy.toNat xs) aqY aqW)).set j .dead=(O.set j .dead).set i (.nest aX t1 up (di.set cy.toNat xs) aqY aqW):=List.set_comm _ _ b8;exact ⟨z',vs, .undef,_,(Inv.set O i (.inr rfl)).trans (Inv.set _ j (.inl rfl)),cm,fun _ _ h=>h,by rw[Mw];exact vB,rfl,h⟩
 ·rw[arv] at aJ;split at aJ
  ·split at aJ
   ·cases aJ;cases ah
   ·cases aJ
  ·rename_i L8;have:=aw.eD a j q _ qo u (fun ax=>L8 ax.symm) aJ av ah rfl hw hu;rw[vG] at this;exact this
 ·rcases fG b with ab|ab
  ·exact ab
  ·exact absurd ab ap
theorem V9 {i aX t1:Nat} (dI:pF P X.G aX t1) {up:Option (List (D t1)->D aX)} {di:List (List (D t1))} {hole:Option (Int×Nat)} {cO:Bool} {cy:Int} (ai:o.op= .store aX x y) (aw:bm X.G O z e m k vs) (hO:O[i]? =aqV (.nest aX t1 up di hole cO)) (aq:rel X.G z vs (.el i aX cy 0) (aK fr x)) (aa:rel X.G z vs (.c .fz) (aK fr y)) (ax:∀p,hole=aqV p->p.1=cy)
  (h:(aq0 (aR di cy) fun _=>K .undef (O.set i (.nest aX t1 up (di.set cy.toNat []) aqY aqW)))=aqV r):bZ P (aK fr) o m fun _ v m'=>c5 X O z e k vs K r v m':=by
 obtain ⟨a,aH,h⟩:=bind_some h;obtain ⟨b,f0,l,c,ad,U⟩:=aq;obtain ⟨e9,ws,b0⟩:=aw.obj i _ _ hO ad;obtain ⟨g0,g1,g2⟩:=pe aH;have aN:cy.toNat<ws.length:=by rw[b0.len];exact (aq5.1 g2).1
 have hw:=ary aN;have vN:aR ws cy=aqV ws[cy.toNat]:=by unfold aR;rw[if_pos (by omega)];exact hw
 obtain ⟨cs,dG,_,ab⟩:=b0.bf.elem rfl vN;have aa:aK fr y= .slice aqY 0 0:=aa;have kX:c6 (X.G.T t1) z e m k ([]:List (D t1)) (.slice aqY 0 0):=⟨.inl ⟨rfl,rfl⟩,fun b aa=>by cases aa⟩
 have n4:∀r,aso (aqV ⟨b,f0,aqY⟩) l c≠ .map r:=fun r ax=>by cases ax
 have dy:ei (cp (.slice aqY 0 0)) (cp (aso (aqV ⟨b,f0,aqY⟩) l c)):=fun b aa=>by cases aa
 rw[dI.bE] at U;refine FQ (T:=qx aX) (f:=0) (n:=cy.toNat) ai dI.ae U rfl aa rfl (a':= .slice aqY 0 0) rfl (by rw[dI.h1];rfl) b0.bf rfl hw dG ab ⟨rfl,rfl,rfl⟩ (by rw[dG.1];rfl) (by rw[dG.1];rfl) aw.aO fun m' dO sd fa=> ?_;have My:c6 (X.G.T t1) z e m' k ([]:List (D t1)) (.slice aqY 0 0):=⟨.inl ⟨rfl,rfl⟩,fun b aa=>by cases aa⟩
 obtain ⟨z',cm,cw,dW,fG⟩:=OD b0 dO sd rfl aN (fun p ap=>by rw[ax p ap];omega) My dy;have vB:=aw.Ec (o':= .nest aX t1 up (di.set cy.toNat []) aqY aqW) (p:=aqY) hO ad rfl n4 cm.le fa cw (fun a q qo aq aJ ah hw=>fun b aa cu=>by cases cu) (fun b aa=>by cases aa) (fun b _ ap _=> ?_) ⟨e9,_,dW⟩
 ·exact ⟨z',vs, .undef,_,Inv.set O i (.inr rfl),cm,fun _ _ h=>h,vB,rfl,h⟩
 ·rcases fG b with ab|ab
  ·exact ab
  ·cases ab
theorem aeN {i aX:Nat} {cy:Int} {off:Nat} {b:aQ D} (ai:o.op= .store t x y) (aw:bm X.G O z e m k vs) (aq:rel X.G z vs (.el i aX cy off) (aK fr x)) (aa:rel X.G z vs b (aK fr y)) (h:N7 X t i aX cy off b O K=aqV r):bZ P (aK fr) o m fun _ v m'=>c5 X O z e k vs K r v m':=by
 unfold N7 at h;split at h
 ·rename_i j;split at h
  ·rename_i e2 t1 up di hole cO t2 xs fo hO av;split at h
   ·rename_i dI bj;split at h
    ·rename_i dn;subst dn;split at h
     ·rename_i hk;obtain ⟨rfl,rfl,rfl⟩:=hk;split at h
      ·exact V8 dI ai aw hO av aq aa (fun p ap=>by cases ap) h
      ·split at h
       ·rename_i p ap;exact V8 dI ai aw hO av aq aa (fun q aJ=>by cases aJ;exact ap) h
       ·cases h
     ·cases h
    ·cases h
   ·cases h
  ·cases h
 ·split at h
  ·rename_i e2 t1 up di hole cO hO;split at h
   ·rename_i dI bj;split at h
    ·rename_i hk;obtain ⟨rfl,rfl,rfl⟩:=hk;split at h
     ·exact V9 dI ai aw hO aq aa (fun p ap=>by cases ap) h
     ·split at h
      ·rename_i p ap;exact V9 dI ai aw hO aq aa (fun q aJ=>by cases aJ;exact ap) h
      ·cases h
    ·cases h
   ·cases h
  ·cases h
 ·cases h
theorem afl {a b:aQ D} (ai:o.op= .store t x y) (aw:bm X.G O z e m k vs) (aq:rel X.G z vs a (aK fr x)) (aa:rel X.G z vs b (aK fr y)) (h:OS X t a b O K=aqV r):bZ P (aK fr) o m fun _ v m'=>c5 X O z e k vs K r v m':=by
 unfold OS at h;split at h
 ·cases h
 ·rename_i i ae;split at h
  ·rename_i j off;split at h
   ·cases h
   ·rename_i new ar;obtain ⟨dH,ng⟩:=Gd ar aa;split at h
    ·rename_i bE;have qT:(aK fr y).cells.toList.length=i.size:=by rw[<-ng.length];exact bE
     obtain ⟨e6,ad,U⟩:=aq;split at h
     ·rename_i u cs cO hO;split at h
      ·rename_i hle;obtain ⟨gj,ds,he,lT,ga,an⟩:=aw.obj j _ _ hO ad;cases he;refine U3 ai ae U rfl dH rfl qT lT (C7 (by rw[<-an.length,<-ng.length];exact hle)) _ rfl aw.aO fun m' dO JL fa=> ?_;exact CO aw h hO ad rfl rfl fa dO ⟨e6,_,rfl,JL,ga,zp off an ng⟩
      ·cases h
     ·rename_i u cs cO hO;split at h
      ·rename_i hle;obtain ⟨gj,ds,he,lT,an⟩:=aw.obj j _ _ hO ad;cases he;refine U3 ai ae U rfl dH rfl qT lT (C7 (by rw[<-an.length,<-ng.length];exact hle)) _ rfl aw.aO fun m' dO JL fa=> ?_;exact CO aw h hO ad rfl rfl fa dO ⟨e6,_,rfl,JL,zp off an ng⟩
      ·cases h
     ·cases h
    ·cases h
  ·rename_i j aX cy off;split at h
   ·exact aeN ai aw aq aa h
   split at h
   ·cases h
   ·rename_i new bL ar;obtain ⟨cr,hg,pY,hA,dH,ng⟩:=XE aw ar aa;obtain ⟨e6,f0,l,c,ad,U⟩:=aq;split at h
    ·rename_i bE;have qT:(aK fr y).cells.toList.length=i.size:=by rw[<-ng.length];exact bE
     split at h
     ·rename_i e2 xs cO ti hO cc;split at h
      ·rename_i dn;subst dn;obtain ⟨a,aH,h⟩:=bind_some h;split at h
       ·rename_i hle;obtain ⟨a',ap,h⟩:=bind_some h;have b0:c6 (X.G.T e2) cr e m k xs _:=hA.obj j _ _ hO ad;obtain ⟨cs,dG,qM,ab⟩:=b0.elem rfl aH;have an:=ti.rf cr vs a cs dG;refine FQ (T:=X.G.T e2) ai ae U rfl rfl dH rfl qT b0 rfl qM dG ab (ti.q1 cr vs _ a' _ ap (zp off an ng)) rfl (C7 (by rw[<-an.length,<-ng.length];exact hle)) hA.aO fun m' dO sd fa=> ?_;exact c5.from hg pY (CO hA h hO ad rfl rfl fa dO sd)
       ·cases h
      ·cases h
     ·rename_i e2 u n xs cO ti hO cc;split at h
      ·rename_i dn;subst dn;obtain ⟨a,aH,h⟩:=bind_some h;split at h
       ·rename_i hle;obtain ⟨a',ap,h⟩:=bind_some h;obtain ⟨⟨gj,he⟩,b0⟩:=hA.obj j _ _ hO ad;obtain ⟨cs,dG,qM,ab⟩:=b0.elem rfl aH;have an:=ti.rf cr vs a cs dG;refine FQ (T:=(X.G.T e2).as u) ai ae U rfl rfl dH rfl qT b0 rfl qM dG ab (ti.q1 cr vs _ a' _ ap (zp off an ng)) rfl (C7 (by rw[<-an.length,<-ng.length];exact hle)) hA.aO fun m' dO sd fa=> ?_;exact c5.from hg pY (CO hA h hO ad rfl rfl fa dO ⟨⟨gj,he⟩,sd⟩)
       ·cases h
      ·cases h
     ·cases h
    ·cases h
  ·cases h
theorem aeY (ai:o.op= .alloc t) (aw:bm X.G O z e m k vs)
  (h:(match X.A t with
  |some jv=>K (.eZ O.length) (O++[.eZ jv.e t jv.n (arx jv.n jv.ti.x0) aqZ])
  |none=>match X.I t with|some ti=>K (.box O.length 0) (O++[.box t ti.qu aqZ aqZ])|none=>aqY)=aqV r):bZ P (aK fr) o m fun _ v m'=>c5 X O z e k vs K r v m':=by
 split at h
 ·rename_i jv eu;refine ag7 (T:=X.G.T jv.e) (x0:=jv.ti.x0) ai jv.ae jv.aF jv.cg jv.dp jv.r3 (jv.ti.xr z) jv.ar aw.aO fun b m' dO bf fa dy=> ?_;exact ot (v:= .slice (aqV ⟨b,0,aqY⟩) jv.n jv.n) aw dO fa dy h ⟨⟨b,rfl⟩,bf⟩ ⟨b,jv.n,C6 aw _,rfl⟩
 ·split at h
  ·rename_i ti cc;refine ag8 ai ti.ae ti.aF ti.cg ti.dp _ rfl aw.aO fun b m' ar dO eQ fa dy=> ?_;exact ot (v:= .pointer (aqV ⟨b,0,aqY⟩)) aw dO fa dy h ⟨b,_,rfl,eQ,ar,ti.r3 _ _⟩ ⟨b,C6 aw _,rfl⟩
  ·cases h
theorem agV {i:TypeInfo} {cs:List (bJ D)} (ai:o.op= .box t x) (aw:bm X.G O z e m k vs) (aT:rel X.G z vs (cn E x) (aK fr x)) (ae:P.info? t=aqV i) (ab:zG (cn E x)=aqV cs) (ah:cs.length=i.size)
  (h:K (.box O.length 0) (O++[.box t cs aqZ aqZ])=aqV r):bZ P (aK fr) o m fun _ v m'=>c5 X O z e k vs K r v m':=by
 obtain ⟨dH,an⟩:=Gd ab aT;refine am0 ai ae rfl dH _ rfl (by rw[<-an.length];exact ah) aw.aO fun b m' ar dO eQ fa dy=> ?_;exact ot (v:= .pointer (aqV ⟨b,0,aqY⟩)) aw dO fa dy h ⟨b,_,rfl,eQ,ar,nB.mono an (et.refl z) iy⟩ ⟨b,C6 aw _,rfl⟩
theorem Xb {kk:aq2} {n:Int} (h:DF x y=aqW) (U:aK fr x= .int kk n):∃bC,aK fr y= .int bC n:=by
 unfold DF at h;split at h
 ·rename_i a b;have:a=b:=arA h;subst this;exact ⟨kk,U⟩
 ·rename_i bs a bC b;have jZ:asK bs a= .int kk n:=U;cases jZ;have:n=b:=by simpa using h
  subst this;exact ⟨bC,rfl⟩
 ·cases h
theorem afk {fO:Nat} {kk:aq2} {n:Int} (ai:o.op= .makeSlice t x y) (ao:P.underlying t=aqV (.slice fO)) (aw:bm X.G O z e m k vs) (U:aK fr x= .int kk n) (h:OR X fO x y n O K=aqV r):bZ P (aK fr) o m fun _ v m'=>c5 X O z e k vs K r v m':=by
 unfold OR at h;split at h
 ·rename_i t1 hu;split at h
  ·rename_i dI bj lu;obtain ⟨di,hm,h⟩:=bind_some h;obtain ⟨bC,ag⟩:=Xb lu U;obtain ⟨eb,j1,rfl⟩:=CV hm;have iK:l1 (aso aqY 0 0) n=aqV (arx n.toNat (aso aqY 0 0)):=by
    unfold l1;rw[if_pos ⟨eb,j1⟩]
   refine YZ (T:=qx fO) (x0:=aso aqY 0 0) ai ao dI.ae dI.aF rfl (by rw[dI.h1];rfl) (by rw[dI.h1];rfl) dI.fZ ⟨rfl,rfl,rfl⟩ U ag aw.aO iK fun bl m' dO bf fa dy=> ?_;have aa:da bl=cp bl:=fM (by obtain ⟨a,c,rfl⟩:=bf.bf.len;intro r;simp);refine ot (v:=bl) aw dO fa (by rw[aa];exact dy) h ⟨fun f aP=>by cases aP;exact ⟨dI.bE,dI.tid,dI.an⟩,_,bf,by simp,fun j w xs g1 g2 _=> .inl ?_,fun p ap=>by cases ap⟩ (nx aw bf.bf.len);rw[List.getElem?_replicate] at g1 g2;split at g1
   ·rename_i av;rw[if_pos av] at g2;cases g1;cases g2;exact ⟨rfl,rfl⟩
   ·cases g1
  ·cases h
 ·cases h
theorem afI {fO:Nat} {ti:fw P X.G fO} {kk:aq2} {n:Int} (ai:o.op= .makeSlice t x y) (ao:P.underlying t=aqV (.slice fO)) (aw:bm X.G O z e m k vs) (U:aK fr x= .int kk n) (lu:DF x y=aqW)
  (h:(aq0 (l1 ti.x0 n) fun r=>K (.c (.own O.length)) (O++[.az fO r aqZ aqZ]))=aqV r):bZ P (aK fr) o m fun _ v m'=>c5 X O z e k vs K r v m':=by
 obtain ⟨xs,hm,h⟩:=bind_some h;have ag:=Xb lu U;obtain ⟨bC,ag⟩:=ag;refine YZ (T:=X.G.T fO) ai (by rw[ti.tid];exact ao) (by rw[ti.tid];exact ti.ae) ti.aF ti.cg ti.dp ti.bE ti.fZ (ti.xr z) U ag aw.aO hm fun bl m' dO bf fa dy=> ?_;have aa:da bl=cp bl:=fM (by obtain ⟨a,c,rfl⟩:=bf.bf.len;intro r;simp);exact ot (v:=bl) aw dO fa (by rw[aa];exact dy) h bf (nx aw bf.bf.len)
theorem Xr {fO:Nat} {ti:fw P X.G fO}:∀{bK:List (Nat×aq3)} {n:Nat} {O:List (aL D)} {z:Nat->a6} {K:List (D fO)->List (aL D)->Option af},bm X.G O z e m k vs->(∀x,rel X.G z vs (cn E x) (aK fr x))->Dt X ti E n bK O K=aqV r->
  ∃z' bD as ih,Inv O bD/\cT e.next z z'/\bm X.G bD z' e m k vs/\wL (X.G.T fO) z' (aK fr) bK n as ih/\K as bD=aqV r
 |[],n,O,z,K,aw,aT,h=>⟨z,O,[],[],Inv.refl O,cT.refl z,aw,trivial,h⟩
 |(j,x)::bK,n,O,z,K,aw,aT,h=>by
  unfold Dt at h;split at h
  ·rename_i av;split at h
   ·rename_i cs bL ab;obtain ⟨a,aq,h⟩:=bind_some h;obtain ⟨cr,hg,pY,hA,dH,an⟩:=XE aw ab (aT x);obtain ⟨z2,cX,as,ih,g0,g1,g2,g3,g4⟩:=Xr hA (fun x=>(aT x).mono pY.le fun _ _ h=>h) h;exact ⟨z2,cX,a::as,(aK fr x).cells.toList::ih,hg.trans g0,pY.trans g1,g2,⟨av,dH,rfl,(X.G.T fO).mono _ _ g1.le _ _ (ti.q1 _ _ _ _ _ aq an),g3⟩,g4⟩
   ·cases h
  ·cases h
theorem ae1 {fO l:Nat} {ti:fw P X.G fO} {bK:Array (Nat×aq3)} (ai:o.op= .buildSlice t l bK) (ao:P.underlying t=aqV (.slice fO)) (aw:bm X.G O z e m k vs) (aT:∀x,rel X.G z vs (cn E x) (aK fr x))
  (h:(Dt X ti E 0 bK.toList O fun as O=>if as.length=l/\arz (l*(X.G.T fO).a1) 16777216=aqW then K (.c (.own O.length)) (O++[.az fO as aqZ aqZ]) else aqY)=aqV r):bZ P (aK fr) o m fun _ v m'=>c5 X O z e k vs K r v m':=by
 obtain ⟨cr,bL,as,ih,g0,g1,g2,g3,g4⟩:=Xr aw aT h;split at g4
 ·rename_i ah;have dQ:0<(X.G.T fO).a1:=Nat.pos_of_ne_zero fun aI=>by have:=ti.dQ;rw[aI] at this;cases this
  have rK:=asg ah.2;have lV:l<=l*(X.G.T fO).a1:=Nat.le_mul_of_pos_right _ dQ;refine Pq (T:=X.G.T fO) ai (by rw[ti.tid];exact ao) (by rw[ti.tid];exact ti.ae) ti.aF ti.cg ti.dp ti.bE as ih ah.1 ah.2 (C7 (show l+1<=9223372036854775808 by omega)) g3 g2.aO fun bl m' dO bf fa dy=> ?_;have aa:da bl=cp bl:=fM (by obtain ⟨a,c,rfl⟩:=bf.bf.len;intro r;simp);exact c5.from g0 g1 (ot (v:=bl) g2 dO fa (by rw[aa];exact dy) g4 bf (nx g2 bf.bf.len))
 ·cases g4
theorem OO {pl:List (Option (Nat×Nat))} (aT:∀x,rel X.G z vs (cn E x) (aK fr x)):∀{bK:List (Nat×aq3)} {cs cs':List (bJ D)} {ds:List aqX},wX pl E bK cs=aqV cs'->ba (dj X.G z vs) cs ds->
  ∃mX,jE (fun k=>(pl[k]?).join) ds (bK.map fun p=>(p.1,aK fr p.2))=aqV mX/\ba (dj X.G z vs) cs' mX
 |[],cs,cs',ds,h,an=>by cases h;exact ⟨ds,rfl,an⟩
 |(i,x)::bK,cs,cs',ds,h,an=>by
  unfold wX at h;split at h
  ·rename_i off size new ap ab;split at h
   ·rename_i qI;obtain ⟨dH,ng⟩:=Gd ab (aT x);obtain ⟨mX,g1,g2⟩:=OO aT h (zp off an ng);refine ⟨mX, ?_,g2⟩;have bE:(aK fr x).cells.size=size:=by
     have h1:new.length=(aK fr x).cells.toList.length:=ng.length;have J:(aK fr x).cells.toList.length=(aK fr x).cells.size:=Array.length_toList;have aj:new.length=size:=qI.1;omega
    simp only[arN,jE,ap];rw[if_pos ⟨dH,bE,by rw[<-an.length];exact qI.2⟩];exact g1
   ·cases h
  ·cases h
theorem W4 {n s:Nat}:∀{bK:List (Nat×aqX)} {cs ds:List aqX},jE (fun k=>(((arC n).map fun j=>aqV (j*s,s))[k]?).join) cs bK=aqV ds->jE (fun j=>aqV (j*s,s)) cs bK=aqV ds
 |[],_,_,h=>h
 |(i,v)::bK,cs,ds,h=>by
  simp only[jE] at h⊢;by_cases ae:i<n
  ·rw[arH,as8 ae] at h;simp only[Option.map_some,Option.join_some] at h;split at h
   ·rename_i ab;rw[if_pos ab];exact W4 h
   ·cases h
  ·rw[arH,atb (by simp;omega)] at h;cases h
theorem ae0 {ti:fw P X.G t} {n tE:Nat} {kk:TypeInfo} {bK:Array (Nat×aq3)} {cs:List (bJ D)} (ai:o.op= .build t bK) (ao:P.underlying t=aqV (.array n tE)) (hk:P.info? tE=aqV kk) (aw:bm X.G O z e m k vs) (aT:∀x,rel X.G z vs (cn E x) (aK fr x))
  (ab:wX ((arC n).map fun j=>aqV (j*kk.size,kk.size)) E bK.toList ti.qu=aqV cs) (h:K (.agg t cs) O=aqV r):bZ P (aK fr) o m fun _ v m'=>c5 X O z e k vs K r v m':=by
 obtain ⟨ds,g1,g2⟩:=OO aT ab (ti.r3 z vs);exact bZ.pure (.EI t bK n tE ti.i kk ti.ca ds ai ao ti.ae ti.aF ti.cg hk (W4 g1)) (c5.here (c3:= .agg t cs) aw ⟨ds,rfl,g2⟩ h)
theorem aeO {ti:fw P X.G t} {bc:Array Field} {bK:Array (Nat×aq3)} {cs:List (bJ D)} (ai:o.op= .build t bK) (ao:P.underlying t=aqV (.struct bc)) (aw:bm X.G O z e m k vs) (aT:∀x,rel X.G z vs (cn E x) (aK fr x)) (ap:(qg P bc).all Option.isSome=aqW)
  (ab:wX (qg P bc) E bK.toList ti.qu=aqV cs) (h:K (.agg t cs) O=aqV r):bZ P (aK fr) o m fun _ v m'=>c5 X O z e k vs K r v m':=by
 obtain ⟨ds,g1,g2⟩:=OO aT ab (ti.r3 z vs);exact ag9 _ ds ai ao ti.ae ti.aF ti.cg rfl ap rfl g1 (c5.here (c3:= .agg t cs) aw ⟨ds,rfl,g2⟩ h)
end
end Go.aS
end
section
namespace Go.aS
section
variable {P:aq1} {D:Nat->Type} {X:dB P D} {af:Type} {z z':Nat->a6} {e m m':Mem} {k:Option Nat} {vs:List aqX} {fr:Nat->aqX} {E:List (Nat×aQ D)} {O:List (aL D)} {o:Oper} {r:af}
variable {x y:aq3} {t u:aq4} {K:aQ D->List (aL D)->Option af}
theorem Hb {bG:Option aq3} {a:Int} (aT:∀x,rel X.G z vs (cn E x) (aK fr x)) (h:y0 E bG=aqV a):yZ (aK fr) bG a:=by
 cases bG with
 |none=>cases h;rfl
 |some y=>
  simp only[y0] at h;split at h
  ·rename_i kk n ay;cases h;have:=aT y;rw[ay] at this;exact ⟨kk,this⟩
  ·cases h
theorem GH {ae:Option aq3} {a:Int} {l:Nat} (aT:∀x,rel X.G z vs (cn E x) (aK fr x)) (h:zI E (l:Int) ae=aqV a):zK (aK fr) ae l a:=by
 cases ae with
 |none=>cases h;rfl
 |some y=>
  simp only[zI] at h;split at h
  ·rename_i kk n ay;cases h;have:=aT y;rw[ay] at this;exact ⟨kk,this⟩
  ·cases h
theorem agW {a:aQ D} {bG ae:Option aq3} (ai:o.op= .slice t x bG ae aqY) (aw:bm X.G O z e m k vs) (aT:∀x,rel X.G z vs (cn E x) (aK fr x)) (aq:rel X.G z vs a (aK fr x)) (h:P1 X t a E bG ae O K=aqV r):bZ P (aK fr) o m fun _ v m'=>c5 X O z e k vs K r v m':=by
 unfold P1 at h;split at h
 ·split at h
  ·rename_i s aD a7 ao e0 ef;obtain ⟨q,aJ,h⟩:=bind_some h;exact am1 ai ao aq (Hb aT e0) (GH aT ef) aJ (c5.here (c3:= .c (.str q)) aw rfl h)
  ·cases h
 ·rename_i c UB;split at h
  ·rename_i aX xs bL ab;obtain ⟨cr,hg,pY,hA,an⟩:=zw aw ab aq;split at h
   ·rename_i e2 ti aD a7 ao cc e0 ef;split at h
    ·rename_i dn;subst dn;obtain ⟨q,aJ,h⟩:=bind_some h;refine adQ (T:=X.G.T e2) ai (by rw[ti.tid];exact ao) (by rw[ti.tid];exact ti.ae) ti.bE rfl (Hb aT e0) (GH aT ef) an hA.aO aJ fun bl I _ ay=> ?_;exact c5.from hg pY (c5.here (c3:= .c (.az e2 q)) hA ay h)
    ·cases h
   ·cases h
  ·cases h
 ·cases h
theorem ad8 {au:Type} {T:cf au} {xs:List au} {v:aqX} {bG ae:Option aq3} {a n:Nat} {i:TypeInfo} {af:aq3->aqX} (h:o.op= .slice t x bG ae aqY) (ao:P.underlying t=aqV (.slice T.tid)) (dY:P.info? T.tid=aqV i) (bE:i.size=T.a1) (U:af x=v) (e0:q8 af bG a) (ef:ov af ae xs.length n)
  (ay:eG T z m xs v) (aq:a<=n) (ar:n<=xs.length):∃bl,(cP P af o bl\/eT P af o m bl)/\oF T.a1 a n v bl:=by
 rcases ay with ⟨rfl,rfl⟩|⟨b,f0,L,c,rfl,g1,g2,g3,g4,g5,g6⟩
 ·have tQ:n=0:=by simpa using ar
  subst tQ;obtain rfl:a=0:=by omega
  exact ⟨.slice aqY 0 0, .inl (.lJ t x bG ae T.tid i h ao dY U e0 ef), .inl ⟨rfl,rfl,rfl,rfl⟩⟩
 ·rcases g5 with rfl|⟨ab,h1,J⟩
  ·refine ⟨_, .inr (.slice t x bG ae T.tid i L b f0 xs.length a n h ao dY U g1 e0 ef aq ar (by rw[bE];exact g4)), .inr ⟨b,f0,xs.length,dr,_,dr,rfl,rfl,aq,ar, .inl (by rw[bE]), .inl ⟨rfl,rfl⟩⟩⟩
  ·refine ⟨_, .inl (.slice t x bG ae T.tid i b f0 xs.length c a n h ao dY U (by simp only[dr] at ab⊢;omega) e0 ef aq (by omega) (fun _=>trivial)), .inr ⟨b,f0,xs.length,c,_,_,rfl,rfl,aq,ar, ?_, .inr ⟨ab,rfl⟩⟩⟩;by_cases Ua:c=a
   ·exact .inr ⟨by omega,if_pos Ua⟩
   ·exact .inl (by rw[if_neg Ua,bE])
theorem afF {a:aQ D} {bG ae:Option aq3} (ai:o.op= .slice t x bG ae aqY) (aw:bm X.G O z e m k vs) (aT:∀x,rel X.G z vs (cn E x) (aK fr x)) (aq:rel X.G z vs a (aK fr x)) (h:Pl X t x a E bG ae O K=aqV r):bZ P (aK fr) o m fun _ v m'=>c5 X O z e k vs K r v m':=by
 unfold Pl at h;split at h
 ·rename_i o0;have ad:aK fr x= .slice aqY 0 0:=by
   unfold Vd at o0;split at o0
   ·exact aq
   ·cases o0
  split at h
  ·rename_i aX p q ao e0 ef;split at h
   ·rename_i ti cc;split at h
    ·rename_i aI;simp only[ara,beq_iff_eq] at aI;obtain ⟨rfl,rfl⟩:=aI;exact bZ.pure (.lJ t x bG ae aX ti.i ai ao ti.ae ad (Ha (n:=0) (Hb aT e0)) (GG (n:=0) (GH (l:=0) aT ef))) (c5.here (c3:= .c .fz) aw rfl h)
    ·cases h
   ·cases h
  ·cases h
 rename_i acy;split at h
 ·exact agW ai aw aT aq h
 ·rename_i md aqa;split at h
  ·rename_i i;have aq:dj X.G z vs (.own i) (aK fr x):=aq;split at h
   ·rename_i aX xs w e2 hO hu;split at h
    ·rename_i ti p q ac' e0 ef;by_cases dn:e2=aX
     case neg=>rw[if_neg dn] at h;cases h
     rw[if_pos dn] at h;subst dn;obtain ⟨xv,an,h⟩:=bind_some h;obtain ⟨kS,c1,c2,rfl⟩:=NN an;obtain ⟨p,rfl⟩:=arI kS;obtain ⟨q,rfl⟩:=arI (Int.le_trans kS c1);simp only[ar0] at h;have b0:c6 (X.G.T e2) z e m k xs (aK fr x):=aw.obj i _ _ hO aq.1;obtain ⟨bl,h1,J⟩:=ad8 (T:=X.G.T e2) ai (by rw[ti.tid];exact hu) (by rw[ti.tid];exact ti.ae) ti.bE rfl (Ha (Hb aT e0)) (GG (GH aT ef)) b0.bf (by omega) (by omega);have hk:c5 X O z e k vs K r bl m:=by
      by_cases Mg:ard md 0=aqW
      ·rw[if_pos Mg] at h;exact c5.here (c3:= .cut i e2 p q) aw ⟨_,aq,J⟩ h
      ·rw[if_neg Mg] at h;have bf:c6 (X.G.T e2) z e m k ((xs.take q).drop p) bl:=⟨J.Na b0.bf,fun b aa=>b0.fresh b (by
        have lT:da (aK fr x)=cp (aK fr x):=fM (by obtain ⟨a,c,ax⟩:=b0.bf.len;intro r;rw[ax];simp);have hB:da bl=cp bl:=fM (by obtain ⟨a,c,ax⟩:=(J.Na b0.bf).len;intro r;rw[ax];simp);rw[<-lT,<-J.aG,hB];exact aa)⟩
       have vF:da bl=da (aK fr x):=J.aG;have dy:=fun j se w cY av ah hw=>aw.eD j i se _ w _ cY av hO ah rfl hw aq.1;exact ⟨z,vs++[bl], .c (.own O.length),O.set i .dead++[.az e2 ((xs.take q).drop p) aqZ aqZ],(Inv.set O i (.inl rfl)).trans (Inv.push _ _),cT.refl z,iy,
        (aw.kill i).push (q:=da (aK fr x)) (o':= .az e2 ((xs.take q).drop p) aqZ aqZ) ⟨aq9 _,aw.aO.dead,fun _ _ _=>rfl⟩ aw.aO (fun j p w av hw ah=>by
         rw[arv] at av;split at av
         ·split at av
          ·cases av;cases ah
          ·cases av
         ·rename_i cY;exact dy j p w (fun e=>cY e.symm) av ah hw) bf (fun p ap kv=>by rw[vF];exact kv),nx aw (by obtain ⟨a,c,ax⟩:=bf.bf.len;exact ⟨a,c,ax⟩),h⟩
     rcases h1 with h1|h1
     ·exact bZ.Vt (D:=fun _ v m'=>c5 X O z e k vs K r v m') (I:=fun _=>True) h1 hk
     ·exact bZ.read (D:=fun _ v m'=>c5 X O z e k vs K r v m') h1 hk
    ·cases h
   ·cases h
  ·cases h
theorem afG {y h6:aq3} (ai:o.op= .slice t x aqY (aqV y) (aqV h6)) (aw:bm X.G O z e m k vs) (aT:∀x,rel X.G z vs (cn E x) (aK fr x)) (h:Pm X t (cn E x) (cn E y) (cn E h6) O K=aqV r):bZ P (aK fr) o m fun _ v m'=>c5 X O z e k vs K r v m':=by
 unfold Pm at h;have eW:∀{au:Type} {p:Prop} [Decidable p] {x:Option au} {r:au},(if p then x else aqY)=aqV r->p/\x=aqV r:=by
  intro au p _ x r h;split at h
  ·exact ⟨‹_›,h⟩
  ·cases h
 split at h
 ·rename_i bx bs p bC q ao ap aJ;have ag:=aT y;rw[ap] at ag;have ag:aK fr y= .int bs p:=ag;have nY:=aT h6;rw[aJ] at nY;have nY:aK fr h6= .int bC q:=nY;have aq:=aT x;split at h
  ·rename_i c U;rw[U] at aq;split at h
   ·rename_i e2 xs bL aP;split at h
    ·rename_i ti cc;obtain ⟨he,h⟩:=eW h;subst he;obtain ⟨xv,an,h⟩:=bind_some h;unfold uL at an;obtain ⟨abH,lo⟩:=eW an;obtain ⟨aI,h1,J,o2⟩:=abH;subst o2;cases lo;obtain ⟨cr,g0,g1,g2,g3⟩:=zw aw aP aq;obtain ⟨n,rfl⟩:=arI aI;have ar:n<=xs.length:=by omega
     have Uw:n<dr:=by simp only[dr];omega
     have key:∃v,cP P (aK fr) o v/\rel X.G cr vs (.full bx (xs.take n)) v:=by
      rcases (g3:er (X.G.T bx) cr xs (aK fr x)) with ⟨ad,rfl⟩|⟨b,off,bQ,ad,adN,adO,adP⟩
      ·have tQ:n=0:=by simpa using ar
       subst tQ;exact ⟨_, .IB t x h6 (aqV y) bx ti.i bC ai ao ti.ae ad ⟨y,bs,rfl,ag⟩ nY, .inl ⟨rfl,by simp⟩,by simp[dr],aqY,by simp⟩
      ·have eR:(bQ≠dr/\n<=bQ)\/(bQ=dr/\n<=xs.length):=by
        rcases adO with ⟨ab,_⟩|⟨ab,ah⟩
        ·exact .inr ⟨ab,ar⟩
        ·exact .inl ⟨by omega,by omega⟩
       have hlen:(xs.take n).length=n:=by rw[arG];omega
       refine ⟨_, .slice3 t x h6 (aqV y) bx ti.i b off xs.length bQ n n bC ai ao ti.ae ad eR ⟨y,bs,rfl,ag⟩ nY (aq9 _), ?_⟩;refine ⟨.inr ⟨b,off,n,by rw[hlen],adN, .inr ⟨Uw,by rw[hlen];exact aq9 _⟩,fun i a ae=> ?_⟩,by rw[hlen];exact Uw,aqV ⟨b,off,aqY⟩,by rw[hlen]⟩;rw[arK] at ae;split at ae
       ·exact adP i a ae
       ·cases ae
     obtain ⟨v,ad,lo⟩:=key;exact bZ.pure ad (c5.from g0 g1 (c5.here g2 lo h))
    ·cases h
   ·cases h
  ·cases h
 ·cases h
theorem agO {a:aQ D} {v:aqX} {t:Nat} {xs:List (D t)} (aw:bm X.G O z e m k vs) (h:pr O a=aqV ⟨t,xs⟩) (ad:rel X.G z vs a v):er (X.G.T t) z xs v\/c6 (X.G.T t) z e m k xs v:=by
 unfold pr at h;split at h
 ·cases h;exact .inl ad
 ·split at h
  ·rename_i c7 u5 bg cO ai;cases h;have b0:=aw.obj _ _ v ai ad.1;cases bg with
   |true=>exact .inl b0
   |false=>exact .inr b0
  ·cases h
 ·cases h
theorem afE {a:aQ D} (ai:o.op= .convert u t x) (aw:bm X.G O z e m k vs) (aq:rel X.G z vs a (aK fr x)) (h:Pk X u t a O K=aqV r):bZ P (aK fr) o m fun _ v m'=>c5 X O z e k vs K r v m':=by
 unfold Pk at h;split at h
 ·rename_i bs bC hu ao;split at h
  ·exact iz aw h (amr ai hu ao aq) rfl
  ·cases h
 ·rename_i fR hu ao;split at h
  ·rename_i s mm fK;obtain ⟨b1,ay,h⟩:=bind_some h;refine aiH ai hu ao mm.hu mm.ae mm.hg aq ay aw.aO ?_;intro bl m' aO bf mK dy;have sd:=mm.aa _ _ _ _ _ _ bf;have aa:da bl=cp bl:=fM (by obtain ⟨a,c,rfl⟩:=bf.bf.len;intro r;simp);refine ⟨z,vs++[bl], .c (.own O.length),_,Inv.push O _,cT.refl z,iy,aw.push (q:=aqY) mK aO (fun _ _ _ _ _ _=>ei.q0) ?_ (fun p ap _=>by rw[aa];exact dy p ap), ?_,h⟩
   ·exact sd
   ·refine ⟨?_, ?_⟩
    ·rw[<-aw.len];simp
    ·obtain ⟨a,c,rfl⟩:=bf.bf.len;exact ⟨rfl,rfl⟩
  ·cases h
 ·rename_i fR hu ao;split at h
  ·rename_i bx xs mm ah fK;split at h
   ·rename_i he;subst he;rcases agO aw ah aq with ay|ay
    ·exact am5 ai hu mm.hu ao rfl (mm.an _ _ _ ay) aw.aO (c5.here (c3:= .c (.str (mm.to xs))) aw rfl h)
    ·exact am4 ai hu mm.hu ao rfl (mm.ai _ _ _ _ _ _ ay) (c5.here (c3:= .c (.str (mm.to xs))) aw rfl h)
   ·cases h
  ·cases h
 ·cases h
theorem ag0 {a:aQ D} {ts:Array aq4} (ai:o.op= .call {callee:= .builtin .len,args:=#[x],argTypes:=#[t]}) (aw:bm X.G O z e m k vs) (aq:rel X.G z vs a (aK fr x)) (h:P4 (P:=P) t a O K=aqV r):bZ P (aK fr) o m fun _ v m'=>c5 X O z e k vs K r v m':=by
 unfold P4 at h;split at h
 ·rename_i s ao;exact iz aw h (amy ai rfl ao aq) rfl
 ·rename_i fR ao;have ad:aK fr x= .slice aqY 0 0:=aq;exact iz aw h (HN (xs:=([]:List Int)) ai ao rfl ⟨aqY,0,ad⟩) rfl
 ·rename_i fR aqb ao;split at h
  ·rename_i aX xs ah;exact iz aw h (HN ai ao rfl (afM aw ah aq)) rfl
  ·split at h
   ·split at h
    ·rename_i aX t1 up di hole w hO;obtain ⟨hu,ws,b0⟩:=aw.obj _ _ _ hO aq.1;exact iz aw h (HN (xs:=di) ai ao rfl (by obtain ⟨a,c,ax⟩:=b0.bf.bf.len;exact ⟨a,c,by rw[ax,b0.len]⟩)) rfl
    ·cases h
   ·split at h
    ·rename_i i aX bG ae vP aqN e2 xs cO hO;split at h
     ·rename_i he;subst he;obtain ⟨w,hw,ab⟩:=aq;have b0:c6 _ z e m k xs w:=aw.obj _ _ _ hO hw.1;obtain ⟨c0,c1,ah⟩:=b0.bf.len;refine iz aw h (HN (xs:=(xs.take ae).drop bG) ai ao rfl ?_) rfl;rcases ab with ⟨_,ad,rfl,rfl⟩|⟨b,f0,l,c,off,bQ,aI,ad,h1,J,aj,aM⟩
      ·exact ⟨aqY,0,by rw[ad];simp⟩
      ·rw[ah] at aI;cases aI;exact ⟨_,bQ,by rw[ad,asa,arG,Nat.min_eq_left J]⟩
     ·cases h
    ·cases h
   ·cases h
 ·cases h
theorem Xl {au:Type} {T:cf au} {AK:Tag->aqX->Mem->Prop} {xs bi:List au} {w:aqX} {a:Option Addr} {af:aq3->aqX} {i:TypeInfo} (h:o.op= .call {callee:= .builtin .append,args:=#[x,y],argTypes:=#[t,u]}) (ao:P.underlying t=aqV (.slice T.tid)) (ae:P.info? T.tid=aqV i) {ca:aqX} (hi:i.zero=aqV ca) (cg:ca.cells.toList.all cx=aqW) (dp:ca.cells.size=i.size)
  (bE:i.size=T.a1) (dQ:(T.a1==0)=aqZ) (fZ:arz i.bytes 32768=aqW) (hu:(∃bx,P.underlying u=aqV (.slice bx))\/P.underlying u=aqV .string) (U:af x= .slice a xs.length xs.length) (ay:Src T z m xs (.slice a xs.length xs.length)) (ag:af y=w) (lq:Src T z m bi w) (b8:bi.isEmpty=aqZ)
  (aO:cL z e m k) {r:List au} (an:dP xs bi=aqV r)
  (hk:∀bl m',cL z e m' k->c6 T z e m' k r bl->e5 m m' aqY->(∀p,(∀b,p=aqV b->b<m.next)->ei p (cp bl))->AK .e7 bl m'):bZ P af o m AK:=by
 obtain ⟨kV,rfl⟩:=sf an;simp only[mg] at kV;have fZ:=asg fZ;have ap:0<T.a1:=by
  rcases atD T.a1 with aI|aI;·rw[aI] at dQ;cases dQ
  ·exact aI
 obtain ⟨hlen,cs,h5,hV,dG⟩:=lq;obtain ⟨tM,os,hex,jW,qR⟩:=ay;have BS:gT (af y)=bi.length:=by rw[ag];exact hlen
 have od:0<bi.length:=by cases bi with
  |nil=>cases b8
  |cons _ _=>simp
 have hmul:(xs.length+bi.length)*i.bytes<=4294967296*32768:=atM kV fZ;have pU:z m.next= .dead:=by
  have aF:=aO.bg;cases gb:z m.next with
  |dead=>rfl
  |ro rd=>have:=(aF m.next (by rw[gb];simp)).2;omega
  |own L t=>have:=(aF m.next (by rw[gb];simp)).2;omega
  |map L t=>have:=(aF m.next (by rw[gb];simp)).2;omega
  |lock _ _ _ _=>have:=(aF m.next (by rw[gb];simp)).2;omega
 have aT:gF P (h7 P 0) af o m (.slice (aqV ⟨m.next,0,aqY⟩) (xs.length+gT (af y)) dr) (m.push (.own (os++cs) T.tid)):=
  .rD x y t u T.tid i ca a xs.length xs.length (gT (af y)) os cs h ao ae hi cg dp (by rw[bE];exact ap) U (by rw[BS];omega) (by rw[U,bE];exact hex) (by rw[bE];exact jW) (.el hu rfl (by rw[ag,bE];exact h5)) (by rw[BS,bE];exact hV) (by rw[BS];omega) (by rw[BS];omega)
 rw[BS] at aT;have yN:eG T z (m.push (.own (os++cs) T.tid)) (xs++bi) (.slice (aqV ⟨m.next,0,aqY⟩) (xs.length+bi.length) dr):=by
  refine eG.Bb ⟨m.next,os++cs,dr,by simp,by simp[Mem.push],by simp[Mem.push],pU,by simp[jW,hV,art], .inl rfl,fun n q aq=> ?_⟩;rw[atA] at aq;split at aq
  ·obtain ⟨c,g1,g2⟩:=qR n q aq;refine ⟨c,g1,fun k q hk=> ?_⟩;have:=g2 k q hk;rw[arm (aq5.1 this).1];exact this
  ·rename_i e8;obtain ⟨c,g1,g2⟩:=dG _ q aq;refine ⟨c,g1,fun k q hk=> ?_⟩;have:=g2 k q hk;have h1:n*T.a1=os.length+(n - xs.length)*T.a1:=by
    rw[jW,<-art];congr 1;omega
   rw[h1,arD,arl (by omega),Nat.add_sub_cancel_left];exact this
 obtain ⟨g1,g2,g3,g4⟩:=E1 (k:=k) aO yN rfl;exact bZ.e7 aT (hk _ _ g1 g2 g3 g4)
theorem Xw {a b:aQ D} (ai:o.op= .call {callee:= .builtin .append,args:=#[x,y],argTypes:=#[t,u]}) (aw:bm X.G O z e m k vs) (aq:rel X.G z vs a (aK fr x)) (aa:rel X.G z vs b (aK fr y)) (h:HM X t u a b O K=aqV r):bZ P (aK fr) o m fun _ v m'=>c5 X O z e k vs K r v m':=by
 unfold HM at h;split at h
 ·rename_i fO anU ao hu;split at h
  ·cases h
  ·rename_i ti cc;dsimp only at h;split at h
   ·cases h
   ·rename_i bi wb;have lq:Src (X.G.T fO) z m bi (aK fr y):=by
     split at wb
     ·cases wb;have ad:aK fr y= .slice aqY 0 0:=aa;rw[ad];exact (er.nil (T:=X.G.T fO)).src aw.aO.bg
     ·split at wb
      ·rename_i e2 aqP ah;split at wb
       ·rename_i dn;subst dn;cases wb;exact Wl aw ah aa
       ·cases wb
      ·cases wb
    have kA:P.underlying t=aqV (.slice (X.G.T fO).tid):=by rw[ti.tid];exact ao
    have dY:P.info? (X.G.T fO).tid=aqV ti.i:=by rw[ti.tid];exact ti.ae
    split at h
    ·obtain ⟨q,aJ,h⟩:=bind_some h;have ad:aK fr x= .slice aqY 0 0:=aq;refine G9 (T:=X.G.T fO) (z:=z) ai kA dY ti.aF ti.cg ti.dp ti.bE ti.dQ ti.fZ (.inl ⟨_,hu⟩) ad c6.nil rfl lq aw.aO aJ fun bl m' dO bf fa dy=> ?_;have hB:da bl=cp bl:=fM (by obtain ⟨a,c,rfl⟩:=bf.bf.len;intro r;simp);exact ot (v:=bl) aw dO fa (fun p ap=>by rw[hB];exact dy p ap ei.q0) h bf (nx aw bf.bf.len)
    ·rename_i e2 xs;by_cases dn:e2=fO
     case neg=>rw[dif_neg dn] at h;cases h
     rw[dif_pos dn] at h;subst dn;by_cases b8:bi.isEmpty=aqW
     case pos=>rw[if_pos b8] at h;cases h
     rw[if_neg b8] at h;obtain ⟨q,aJ,h⟩:=bind_some h;obtain ⟨f1,f2,a0,f3⟩:=aq;refine Xl (T:=X.G.T e2) (z:=z) ai kA dY ti.aF ti.cg ti.dp ti.bE ti.dQ ti.fZ (.inl ⟨_,hu⟩) f3 (by rw[<-f3];exact er.src f1 aw.aO.bg) rfl lq (by simpa using b8) aw.aO aJ fun bl m' dO bf fa dy=> ?_;have hB:da bl=cp bl:=fM (by obtain ⟨a,c,rfl⟩:=bf.bf.len;intro r;simp);exact ot (v:=bl) aw dO fa (fun p ap=>by rw[hB];exact dy p ap) h bf (nx aw bf.bf.len)
    ·rename_i i;split at h
     ·rename_i e2 xs cO hO;split at h
      ·rename_i dn;subst dn;obtain ⟨q,aJ,h⟩:=bind_some h;have b0:c6 (X.G.T e2) z e m k xs (aK fr x):=aw.obj i _ _ hO aq.1;refine G9 (T:=X.G.T e2) ai kA dY ti.aF ti.cg ti.dp ti.bE ti.dQ ti.fZ (.inl ⟨_,hu⟩) rfl b0 rfl lq aw.aO aJ fun bl m' dO bf fa dy=> ?_;have hB:da bl=cp bl:=fM (by obtain ⟨a,c,rfl⟩:=bf.bf.len;intro r;simp);have lT:da (aK fr x)=cp (aK fr x):=fM (by obtain ⟨a,c,ax⟩:=b0.bf.len;intro r;rw[ax];simp);have hA:=aw.kill i;have hlen:(O.set i .dead).length=O.length:=asq;refine ⟨z,vs++[bl], .c (.own O.length),O.set i .dead++[.az e2 q aqZ aqZ],(Inv.set O i (.inl rfl)).trans (Inv.push _ _),cT.refl z,iy,hA.push (o':= .az e2 q aqZ aqZ) fa dO (fun j p w av hw ah=> ?_) bf (fun p ap kv=>by rw[hB];exact dy p ap kv), ?_,h⟩
       ·rw[arv] at av;split at av
        ·split at av
         ·cases av;cases ah
         ·cases av
        ·rename_i cY;rw[<-lT];exact aw.eD j i p _ w _ (fun e=>cY e.symm) av hO ah rfl hw aq.1
       ·exact nx aw bf.bf.len
      ·cases h
     ·cases h
    ·rename_i i aX bG n;by_cases e0:ard bG 0=aqW
     case neg=>rw[if_neg e0] at h;cases h
     rw[if_pos e0] at h;obtain rfl:=arA e0;by_cases vK:aX=fO
     case neg=>rw[if_neg vK] at h;cases h
     rw[if_pos vK] at h;subst vK;split at h
     ·rename_i e2 xs cO hO;split at h
      ·rename_i dn;subst dn;obtain ⟨q,aJ,h⟩:=bind_some h;obtain ⟨Am,iM,fP⟩:=aq;have Mm:c6 (X.G.T e2) z e m k xs Am:=aw.obj i _ _ hO iM.1;have abC:da Am=cp Am:=fM (by obtain ⟨a,c,ax⟩:=Mm.bf.len;intro r;rw[ax];simp);have yN:=fP.bf Mm.bf;have lT:da (aK fr x)=cp (aK fr x):=fM (by obtain ⟨a,c,ax⟩:=yN.len;intro r;rw[ax];simp);have b0:c6 (X.G.T e2) z e m k (xs.take n) (aK fr x):=⟨yN,fun b aa=>Mm.fresh b (by rw[<-abC,<-fP.aG,lT];exact aa)⟩
       refine G9 (T:=X.G.T e2) ai kA dY ti.aF ti.cg ti.dp ti.bE ti.dQ ti.fZ (.inl ⟨_,hu⟩) rfl b0 rfl lq aw.aO aJ fun bl m' dO bf fa dy=> ?_;have hB:da bl=cp bl:=fM (by obtain ⟨a,c,rfl⟩:=bf.bf.len;intro r;simp);have hA:=aw.kill i;refine ⟨z,vs++[bl], .c (.own O.length),O.set i .dead++[.az e2 q aqZ aqZ],(Inv.set O i (.inl rfl)).trans (Inv.push _ _),cT.refl z,iy,hA.push (o':= .az e2 q aqZ aqZ) fa dO (fun j p w av hw ah=> ?_) bf (fun p ap kv=>by rw[hB];exact dy p ap kv), ?_,h⟩
       ·rw[arv] at av;split at av
        ·split at av
         ·cases av;cases ah
         ·cases av
        ·rename_i cY;rw[<-lT,fP.aG];exact aw.eD j i p _ w _ (fun e=>cY e.symm) av hO ah rfl hw iM.1
       ·exact nx aw bf.bf.len
      ·cases h
     ·cases h
    ·cases h
 ·cases h
theorem afC {a b:aQ D} (ai:o.op= .call {callee:= .builtin .append,args:=#[x,y],argTypes:=#[t,u]}) (aw:bm X.G O z e m k vs) (aq:rel X.G z vs a (aK fr x)) (aa:rel X.G z vs b (aK fr y)) (h:Pj X t u a b O K=aqV r):bZ P (aK fr) o m fun _ v m'=>c5 X O z e k vs K r v m':=by
 unfold Pj at h;split at h
 ·rename_i fO anU ao hu;split at h
  ·rename_i ti aX xs e2 bi cc ah;by_cases dn:aX=fO
   case neg=>rw[dif_neg dn] at h;cases h
   rw[dif_pos dn] at h;subst dn;by_cases dn:e2=aX
   case neg=>rw[dif_neg dn] at h;cases h
   rw[dif_pos dn] at h;subst dn;obtain ⟨q,aJ,h⟩:=bind_some h;have lq:=Wl aw ah aa;have kA:P.underlying t=aqV (.slice (X.G.T e2).tid):=by rw[ti.tid];exact ao
   have dY:P.info? (X.G.T e2).tid=aqV ti.i:=by rw[ti.tid];exact ti.ae
   obtain ⟨f1,f2,a0,f3⟩:=aq;by_cases b8:bi.isEmpty=aqW
   ·rw[if_pos b8] at h;obtain rfl:bi=[]:=by cases bi;rfl;cases b8
    obtain ⟨kV,rfl⟩:=sf aJ;obtain ⟨hlen,cs,h5,hV,_⟩:=lq;obtain rfl:cs=[]:=asw (by rw[hV];simp);have aT:gF P (h7 P 0) (aK fr) o m (aK fr x) m:= .vw x y t u _ ti.i a0 xs.length xs.length ai kA dY f3 (by omega) (aq9 _) (.el (.inl ⟨_,hu⟩) (by simpa using hlen) (by rw[ti.bE];exact h5));exact bZ.e7 aT (c5.here (X:=X) aw (c3:= .c (.az e2 (xs++[]))) (by rw[asA];exact f1) h)
   ·rw[if_neg b8] at h;refine Xl (T:=X.G.T e2) (z:=z) ai kA dY ti.aF ti.cg ti.dp ti.bE ti.dQ ti.fZ (.inl ⟨_,hu⟩) f3 (by rw[<-f3];exact er.src f1 aw.aO.bg) rfl lq (by simpa using b8) aw.aO aJ fun bl m' dO bf fa dy=> ?_;have hB:da bl=cp bl:=fM (by obtain ⟨a,c,rfl⟩:=bf.bf.len;intro r;simp);exact ot (v:=bl) aw dO fa (fun p ap=>by rw[hB];exact dy p ap) h bf (nx aw bf.bf.len)
  ·cases h
 ·cases h
theorem ag1 {kt vt:Nat} (ai:o.op= .makeMap t aqY) (ao:P.underlying t=aqV (.map kt vt)) (aw:bm X.G O z e m k vs) (h:K (.c (.own O.length)) (O++[.map t kt vt [] aqZ aqZ])=aqV r):bZ P (aK fr) o m fun _ v m'=>c5 X O z e k vs K r v m':=by
 refine afX (X.G.M t kt vt) ai ao rfl aw.aO fun bl m' dO bf fa dy=> ?_;obtain ⟨q,rfl,aJ⟩:=bf.bf;exact ot (v:= .map (aqV q)) aw dO fa dy h bf ⟨C6 aw _,rfl,rfl⟩
theorem afH {u kt vt:Nat} {es:List (D kt×D vt)} {a:D kt} {ep:Ek P X.G kt vt} {ok:Bool} {c:aQ D} (ai:o.op= .lookup t x y ok) (ao:P.underlying t=aqV (.map kt vt)) (hu:P.underlying u=aqV (.map kt vt)) (aw:bm X.G O z e m k vs)
  (U:kL (X.G.M u kt vt) z es (aK fr x)\/h2 (X.G.M u kt vt) z e m k es (aK fr x)) (ag:rel X.G z vs c (aK fr y)) (hk:ep.og c=aqV a)
  (h:(aS.lt (@bw _ _ ep.dec es a) fun y=>if ok=aqW then K (.mL [.inl (ep.oC (y.getD ep.z0)), .inl (.bool y.isSome)]) O else K (.c (ep.oC (y.getD ep.z0))) O)=aqV r):bZ P (aK fr) o m fun _ v m'=>c5 X O z e k vs K r v m':=by
 letI aB:=ep.dec
 obtain ⟨w,hw,h⟩:=X4 h;have tK:=ep.rR z vs c a _ hk ag;have lY:=ep.lY z vs (w.getD ep.z0);cases ok with
 |true=>
  rw[if_pos rfl] at h;have n2:rel X.G z vs (.mL [.inl (ep.oC (w.getD ep.z0)), .inl (.bool w.isSome)]) (.tuple #[c4 (cW P vt) (X.G.bS vt (w.getD ep.z0)), .bool w.isSome]):=⟨[_,_],rfl,lY,rfl,trivial⟩
  rcases U with U|U
  ·exact Yh (M:=X.G.M u kt vt) (a:=a) (z0:=ep.z0) ai ao hu ep.K ep.V ep.ae ep.aF rfl U aw.aO rfl tK hw (if_pos rfl) (c5.here aw n2 h)
  ·exact Yg (M:=X.G.M u kt vt) (a:=a) (z0:=ep.z0) ai ao hu ep.K ep.V ep.ae ep.aF rfl U rfl tK hw (if_pos rfl) (c5.here aw n2 h)
 |false=>
  rw[if_neg (by simp)] at h;have n2:rel X.G z vs (.c (ep.oC (w.getD ep.z0))) (c4 (cW P vt) (X.G.bS vt (w.getD ep.z0))):=lY;rcases U with U|U
  ·exact Yh (M:=X.G.M u kt vt) (a:=a) (z0:=ep.z0) ai ao hu ep.K ep.V ep.ae ep.aF rfl U aw.aO rfl tK hw (if_neg (by simp)) (c5.here aw n2 h)
  ·exact Yg (M:=X.G.M u kt vt) (a:=a) (z0:=ep.z0) ai ao hu ep.K ep.V ep.ae ep.aF rfl U rfl tK hw (if_neg (by simp)) (c5.here aw n2 h)
theorem Xx {u kt vt i:Nat} {es:List (D kt×D vt)} {a:D kt} {b:D vt} {ep:Ek P X.G kt vt} {c:aQ D} {d:bJ D} {w:aq3} (ai:o.op= .mapUpdate t x y w\/o.op= .insert t x y w) (ao:P.underlying t=aqV (.map kt vt)) (hu:P.underlying u=aqV (.map kt vt)) (aw:bm X.G O z e m k vs)
  {cO:Bool} (hO:O[i]? =aqV (.map u kt vt es aqZ cO)) (U:vs[i]? =aqV (aK fr x)) (ag:rel X.G z vs c (aK fr y)) (hw:dj X.G z vs d (aK fr w)) (hk:ep.og c=aqV a) (ad:ep.ta d=aqV b)
  (h:(aS.lt (@dA _ _ ep.dec es a b) fun tF=>K .undef (O.set i (.map u kt vt tF aqZ aqW)))=aqV r):bZ P (aK fr) o m fun _ v m'=>c5 X O z e k vs K r v m':=by
 letI aB:=ep.dec
 obtain ⟨tF,jT,h⟩:=X4 h;have b0:h2 (X.G.M u kt vt) z e m k es (aK fr x):=aw.obj i _ _ hO U;refine aha (M:=X.G.M u kt vt) (a:=a) (b:=b) ai ao hu ep.K ep.V rfl b0 rfl (ep.rR z vs c a _ hk ag) rfl (ep.yT z vs d b _ ad hw) aw.aO jT fun m' dO bf fa=> ?_;have hB:da (aK fr x)=sE (aK fr x):=by obtain ⟨q,aJ,_⟩:=b0.bf;rw[aJ];rfl
 exact CO aw h hO U rfl rfl (by rw[hB];exact fa) dO bf
theorem NY {s:aQ D} {g:aqX} {c:Nat×List (bJ D)} {bD:List (aL D)} (aw:bm X.G O z e m k vs) (ay:rel X.G z vs s g) (h:wV O s=aqV (c,bD)):∃z',Inv O bD/\cT e.next z z'/\bm X.G bD z' e m k vs/\l8 X.G z' vs c.2 0 g:=by
 cases s with
 |fH t cs off=>
  simp only[wV] at h;split at h
  ·rename_i aI;subst aI;cases h;exact ⟨z,Inv.refl _,cT.refl z,aw,ay⟩
  ·cases h
 |box i off=>
  simp only[wV] at h;obtain ⟨b,ad,aH⟩:=ay;split at h
  ·rename_i t cs bg cO hO;split at h
   ·rename_i aI;obtain ⟨aI,_⟩:=aI;subst aI;cases h;have b0:=aw.obj i _ _ hO ad;rw[aH];cases bg with
    |true=>
     obtain ⟨gj,ds,he,ab,an⟩:=b0;cases he;have:O.set i (.box t cs aqW cO)=O:=by
      apply asL;intro j;rw[arv];split
      ·rename_i cY;subst cY;rw[hO,if_pos (aq5.1 hO).1]
      ·rfl
     rw[this];exact ⟨z,Inv.refl _,cT.refl z,aw,b,0,ds,rfl,ab,an⟩
    |false=>obtain ⟨gj,ds,he,lT,ga,an⟩:=b0;cases he;obtain ⟨cr,bs,bC,cQ,fy⟩:=lT.freeze ga aw.aO;have yP:=nB.mono an bs.le fun _ _ h=>h;exact ⟨cr,Inv.set O i (.inl rfl),bs,aw.il hO ad rfl rfl bs.le bC fy ⟨b,ds,rfl,cQ,yP⟩,b,0,ds,rfl,cQ,yP⟩
   ·cases h
  ·cases h
 |_=>cases h
theorem Ww:∀{l:List (aQ D)} {gs:List aqX} {caps:List (Nat×List (bJ D))} {O bD:List (aL D)} {z:Nat->a6},bm X.G O z e m k vs->ba (rel X.G z vs) l gs->C8 l O=aqV (caps,bD)->∃z',Inv O bD/\cT e.next z z'/\bm X.G bD z' e m k vs/\ba (fun c g=>l8 X.G z' vs c.2 0 g) caps gs
 |[],[],caps,O,bD,z,aw,_,h=>by cases h;exact ⟨z,Inv.refl _,cT.refl z,aw,trivial⟩
 |s::l,g::gs,caps,O,bD,z,aw,⟨h1,J⟩,h=>by
  unfold C8 at h;split at h
  ·rename_i c bL ab;split at h
   ·rename_i r cX an;cases h;obtain ⟨cr,hE,bs,bC,cQ⟩:=NY aw h1 ab;obtain ⟨z2,g0,g1,g2,g3⟩:=Ww bC (ba.mono (fun _ _ h=>rel.mono h bs.le fun _ _ h=>h) J) an;exact ⟨z2,hE.trans g0,bs.trans g1,g2,l8.mono cQ g1.le fun _ _ h=>h,g3⟩
   ·cases h
  ·cases h
 |[],_::_,_,_,_,_,_,h,_=>h.elim
 |_::_,[],_,_,_,_,_,h,_=>h.elim
theorem wJ {xs:List aq3} (aT:∀x,rel X.G z vs (cn E x) (aK fr x)):ba (rel X.G z vs) (xs.map (cn E)) (xs.map (aK fr)):=by
 induction xs with
 |nil=>trivial
 |cons x xs a8=>exact ⟨aT x,a8⟩
theorem ahe {s:aQ D} {i:Nat} {v:aqX} (aw:bm X.G O z e m k vs) (h:JO O s=aqV i) (an:rel X.G z vs s v):rE vs i v:=by
 unfold JO at h;split at h
 ·split at h
  ·split at h
   ·rename_i aI;cases h;subst aI;obtain ⟨b,h1,J⟩:=an;exact ⟨by rw[J];exact h1,b,J⟩
   ·cases h
  ·cases h
 ·cases h
theorem WY (aw:bm X.G O z e m k vs):∀{l:List (aQ D)} {gs:List aqX} {is:List Nat},Dl O l=aqV is->ba (rel X.G z vs) l gs->ba (rE vs) is gs
 |[],[],is,h,_=>by cases h;trivial
 |s::l,g::gs,is,h,⟨h1,J⟩=>by
  unfold Dl at h;split at h
  ·rename_i i p0 ae av;cases h;exact ⟨ahe aw ae h1,WY aw av J⟩
  ·cases h
 |[],_::_,_,_,h=>h.elim
 |_::_,[],_,_,h=>h.elim
theorem agY {f:FuncId} {first cap:Array aq3} {is:List Nat} (ai:o.op= .makeFunc (.func f) first cap) (aP:first.toList=[]) (aw:bm X.G O z e m k vs) (aT:∀x,rel X.G z vs (cn E x) (aK fr x)) (ab:Dl O (cap.toList.map (cn E))=aqV is) (h:K (.c (.fn f is)) O=aqV r):
  bZ P (aK fr) o m fun _ v m'=>c5 X O z e k vs K r v m':=by
 have aH:=WY aw ab (wJ aT);have vL:first=#[]:=by cases first;simp at aP;subst aP;rfl
 subst vL;have dH:(cap.map (aK fr)).toList.all storable=aqW:=by
  rw[arc];intro v ad;rw[asJ] at ad;have:=arc.1 (NZ aH) v ad;unfold wU at this;split at this
  ·rfl
  ·cases this
 exact iz aw h (Zc ai rfl dH) ⟨cap.toList.map (aK fr),by congr 1;apply asc;simp,aH⟩
theorem ah5 {f:FuncId} {first cap:Array aq3} {caps:List (Nat×List (bJ D))} {bD:List (aL D)} (ai:o.op= .makeFunc (.func f) first cap) (aP:first.toList=[]) (aw:bm X.G O z e m k vs) (aT:∀x,rel X.G z vs (cn E x) (aK fr x)) (ab:C8 (cap.toList.map (cn E)) O=aqV (caps,bD)) (h:K (.fn f caps) bD=aqV r):
  bZ P (aK fr) o m fun _ v m'=>c5 X O z e k vs K r v m':=by
 obtain ⟨cr,g0,g1,g2,g3⟩:=Ww aw (wJ aT) ab;have vL:first=#[]:=by cases first;simp at aP;subst aP;rfl
 subst vL;have dH:(cap.map (aK fr)).toList.all storable=aqW:=by
  rw[arc];intro v ad;rw[asJ] at ad;have:∀(cs:List (Nat×List (bJ D))) (gs:List aqX),ba (fun c g=>l8 X.G cr vs c.2 0 g) cs gs->∀v∈gs,storable v=aqW:=by
   intro cs;induction cs with
   |nil=>intro gs aH v ad;cases gs with
    |nil=>cases ad
    |cons _ _=>exact aH.elim
   |cons c cs a8=>intro gs aH v ad;cases gs with
    |nil=>cases ad
    |cons g gs=>
     rcases arb.1 ad with rfl|ad
     ·obtain ⟨b,gm,ds,he,_⟩:=aH.1;rw[he];rfl
     ·exact a8 gs aH.2 v ad
  exact this _ _ g3 v ad
 refine bZ.pure (Zc ai rfl dH) (c5.from g0 g1 (c5.here (c3:= .fn f caps) g2 ⟨cap.toList.map (aK fr), ?_,g3⟩ h));congr 1;apply asc;simp
end
end Go.aS
end
section
namespace Go.aS
section
variable {P:aq1} {D:Nat->Type} {X:dB P D} {af:Type} {z z':Nat->a6} {e m m':Mem} {k:Option Nat} {vs:List aqX} {fr:Nat->aqX} {E:List (Nat×aQ D)} {O:List (aL D)} {o:Oper} {r:af}
variable {x y:aq3} {t u:aq4} {K:aQ D->List (aL D)->Option af}
theorem ag2 {l:Nat} {bK:Array (Nat×aq3)} (ai:o.op= .buildSlice t l bK) (aw:bm X.G O z e m k vs) (aT:∀x,rel X.G z vs (cn E x) (aK fr x)) (h:P5 X t l bK.toList E O K=aqV r):bZ P (aK fr) o m fun _ v m'=>c5 X O z e k vs K r v m':=by
 unfold P5 at h;split at h
 ·rename_i aX ao;split at h
  ·rename_i t1 hu;split at h
   ·rename_i dI bj;split at h
    ·rename_i FB;refine Pq (T:=qx aX) ai ao dI.ae dI.aF rfl (by rw[dI.h1];rfl) (by rw[dI.h1];rfl) [] [] rfl rfl rfl (by rw[FB];trivial) aw.aO fun bl m' dO bf fa dy=> ?_;have aa:da bl=cp bl:=fM (by obtain ⟨a,c,rfl⟩:=bf.bf.len;intro r;simp);exact ot (v:=bl) aw dO fa (by rw[aa];exact dy) h ⟨fun f aP=>by cases aP;exact ⟨dI.bE,dI.tid,dI.an⟩,_,bf,rfl,fun j w xs g1 g2 _=>by simp at g1,fun p ap=>by cases ap⟩ (nx aw bf.bf.len)
    ·rename_i y FB;split at h
     ·rename_i j av;split at h
      ·rename_i t2 xs w hO;split at h
       ·rename_i J;have ag:=aT y;rw[av] at ag;obtain ⟨ad,ay,ab⟩:=ag;refine Pq (T:=qx aX) ai ao dI.ae dI.aF rfl (by rw[dI.h1];rfl) (by rw[dI.h1];rfl) [aK fr y] [[aK fr y]] rfl rfl rfl (by rw[FB];exact ⟨rfl,ay,by rw[ab],⟨rfl,ay,ab⟩,trivial⟩) aw.aO fun bl m' dO bf fa dy=> ?_;have aa:da bl=cp bl:=fM (by obtain ⟨a,c,rfl⟩:=bf.bf.len;intro r;simp);refine ot (v:=bl) aw dO fa (by rw[aa];exact dy) h ⟨fun f aP=>by cases aP;exact ⟨dI.bE,dI.tid,dI.an⟩,_,bf,rfl,fun j w xs g1 g2 g3=> ?_,fun p ap=> ?_⟩ (nx aw bf.bf.len)
        ·have:=(aq5.1 g1).1;simp at this;subst this;exact absurd rfl (g3 _ rfl)
        ·cases ap;exact ⟨Int.le_refl _,_,iy _ _ ad,rfl⟩
       ·cases h
      ·cases h
     ·cases h
    ·cases h
   ·cases h
  ·cases h
 ·cases h
theorem bm.Z9 (h:bm X.G O z e m k vs) (aF:et z z') (aO:cL z' e m k) (aB:∀b,z b= .dead->z' b= .dead) (hk:∀(j:Nat) (q:aL D) (w:aqX),O[j]? =aqV q->vs[j]? =aqV w->q.live=aqW->Jm z z' (eP w)):bm X.G O z' e m k vs where
 aO:=aO
 len:=h.len
 obj:=fun j q w av hw=>(h.obj j q w av hw).ic aF (fun ah b aa=>by
  have:=((h.obj j q w av hw).lt ah b aa).2.1;rw[this,aB b this]) fun ah=>hk j q w av hw ah
 eD:=h.eD
noncomputable def AG (z:Nat->a6) (eb iw hF fQ n':Nat):Nat->a6:=fun b=>
 match z b with
 | .lock n j L t=>if eb<=b/\n≠0/\n=iw then .lock n' j L t else if eb<=b/\n≠0/\n=hF then .lock n' (fQ+j) L t else .lock n j L t
 |x=>x
theorem YP {eb iw hF fQ n' b:Nat} (h:∀n j L t,z b≠ .lock n j L t):AG z eb iw hF fQ n' b=z b:=by
 unfold AG;split
 ·rename_i n j L t aF;exact absurd aF (h n j L t)
 ·rfl
theorem s5 {eb iw hF fQ n' b n j:Nat} {L:List aqX} {t:aq4} (h:z b= .lock n j L t):AG z eb iw hF fQ n' b=if eb<=b/\n≠0/\n=iw then .lock n' j L t else if eb<=b/\n≠0/\n=hF then .lock n' (fQ+j) L t else .lock n j L t:=by
 unfold AG;rw[h]
theorem Pc {au:Type} {T:cf au} {xs:List au} {v:aqX} (h:c6 T z e m k xs v) (U:xs≠[]):eP v≠0:=by
 intro aI;unfold eP at aI;rcases h.bf with ⟨rfl,nm⟩|⟨b6,o',L',bQ,rfl,_⟩
 ·exact U nm
 ·simp[cp] at aI
theorem Xm {au:Type} {T:cf au} {x0:au} {AK:Tag->aqX->Mem->Prop} {af:aq3->aqX} {i:TypeInfo} {kk bs:aq2} {n:Int} {v:aqX} {xs:List au} (h:o.op= .call {callee:= .builtin .append,args:=#[x,y],argTypes:=#[t,u]}) (ao:P.underlying t=aqV (.slice T.tid)) (ae:P.info? T.tid=aqV i) {ca:aqX} (hi:i.zero=aqV ca) (cg:ca.cells.toList.all cx=aqW) (dp:ca.cells.size=i.size)
  (bE:i.size=T.a1) (dQ:(T.a1==0)=aqZ) (fZ:arz i.bytes 32768=aqW) (hu:P.underlying u=aqV (.int kk)) (U:af x=v) (ay:c6 T z e m k xs v) (ag:af y= .int bs n) (dG:T.rd z x0 ca.cells.toList) (aO:cL z e m k) {bi r:List au} (hm:l1 x0 n=aqV bi) (an:dP xs bi=aqV r)
  (hk:∀bl m',cL z e m' k->c6 T z e m' k r bl->e5 m m' (cp v)->(∀p,(∀b,p=aqV b->b<m.next)->ei p (cp v)->ei p (cp bl))->AK .e7 bl m'):bZ P af o m AK:=by
 obtain ⟨aI,h1,rfl⟩:=CV hm;obtain ⟨c,rfl⟩:=arI aI;have ap:0<T.a1:=by
  rcases atD T.a1 with aI|aI;·rw[aI] at dQ;cases dQ
  ·exact aI
 rw[ar0] at an;obtain ⟨bl,m',h1,J,aj,aM⟩:=af9 (C:=h7 P 0) (k:=bs) h ao ae hi cg dp bE ap (asg fZ) hu U ay.bf ag dG aO.bg aO.dead an;refine bZ.e7 h1 (hk _ _ (aO.same aj ay.aJ) ⟨J,fun b aa=> ?_⟩ aj fun p ap aq b aa cu=> ?_)
 ·rcases aM b aa with aM|aM
  ·exact ay.fresh b aM
  ·have:=aO.next;omega
 ·rcases aM b cu with aM|aM
  ·exact aq b aa aM
  ·have:=ap b aa;omega
theorem aeZ {a b:aQ D} (ai:o.op= .call {callee:= .builtin .append,args:=#[x,y],argTypes:=#[t,u]}) (hu:Po (P.underlying u)=aqW) (aw:bm X.G O z e m k vs) (aq:rel X.G z vs a (aK fr x)) (aa:rel X.G z vs b (aK fr y)) (h:OE X t a b O K=aqV r):bZ P (aK fr) o m fun _ v m'=>c5 X O z e k vs K r v m':=by
 have FI:∃kk,P.underlying u=aqV (.int kk):=by
  unfold Po at hu;split at hu
  ·rename_i kk ax;exact ⟨kk,ax⟩
  ·cases hu
 obtain ⟨kk,FI⟩:=FI;unfold OE at h;split at h
 ·rename_i aX bs n ao;split at h
  ·rename_i ti cc;split at h
   ·rename_i ar;obtain ⟨xs,hm,h⟩:=bind_some h;have an:dP ([]:List (D aX)) xs=aqV xs:=by
     obtain ⟨aI,h1,rfl⟩:=CV hm;unfold dP;rw[if_pos (by simp only[asP,asV,mg] at*;omega),asp]
    refine Xm (T:=X.G.T aX) (xs:=[]) ai (by rw[ti.tid];exact ao) (by rw[ti.tid];exact ti.ae) ti.aF ti.cg ti.dp ti.bE ti.dQ ti.fZ FI aq ⟨.inl ⟨rfl,rfl⟩,fun b aa=>by cases aa⟩ aa (ti.xr z) aw.aO hm an fun bl m' dO bf fa dy=> ?_;have hB:da bl=cp bl:=fM (by obtain ⟨a,c,rfl⟩:=bf.bf.len;intro r;simp);exact ot (v:=bl) aw dO fa (by rw[hB];exact fun p ap=>dy p ap (by intro b aa cu;cases cu)) h bf (nx aw bf.bf.len)
   ·cases h
  ·cases h
 ·rename_i fR i bs n ao;split at h
  ·rename_i bL L1;split at h
   ·rename_i aX t1 up mO cO qE;split at h
    ·rename_i dI bj;split at h
     ·rename_i he;subst he;obtain ⟨bi,hm,h⟩:=bind_some h;obtain ⟨q,aJ,h⟩:=bind_some h;obtain ⟨cr,i1,aD,tr⟩:=CP aw L1;obtain ⟨acn,tN,rfl⟩:=CV hm;have kV:=(sf aJ).1;have acU:=(sf aJ).2;subst acU;have ki:=aq.1;obtain ⟨Ah,Aj,iw⟩:=tr.obj i _ _ qE ki;have acs:l1 (aso aqY 0 0) n=aqV (arx n.toNat (aso aqY 0 0)):=by
       unfold l1;rw[if_pos ⟨acn,tN⟩]
      have Ms:dP Aj (arx n.toNat (aso aqY 0 0))=aqV (Aj++arx n.toNat (aso aqY 0 0)):=by unfold dP;rw[iw.len,asP,if_pos (by simpa using kV)]
      refine Xm (T:=qx aX) ai ao dI.ae dI.aF rfl (by rw[dI.h1];rfl) (by rw[dI.h1];rfl) rfl dI.fZ FI rfl iw.bf aa ⟨rfl,rfl,rfl⟩ tr.aO acs Ms fun bl m' dO bf fa dy=> ?_;have qG:da (aK fr x)=cp (aK fr x):=fM (by obtain ⟨a,c,ax⟩:=iw.bf.bf.len;rw[ax];intro r;simp);have hB:da bl=cp bl:=fM (by obtain ⟨a,c,rfl⟩:=bf.bf.len;intro r;simp);have Jn:=tr.mM (o':= .dead) qE ki rfl (by rw[qG];exact fa) dO trivial;have left:∀(l:Nat) (p:aL D) (w:aqX),(bL.set i (.dead:aL D))[l]? =aqV p->vs[l]? =aqV w->p.live=aqW->bL[l]? =aqV p/\l≠i:=by
       intro l p w ah hw ap;rw[arv] at ah;split at ah
       ·split at ah
        ·cases ah;cases ap
        ·cases ah
       ·rename_i h1;exact ⟨ah,fun ax=>h1 ax.symm⟩
      generalize o4:AG cr e.next (eP (aK fr x)) 0 mO.length (eP bl)=z3;have EQ:∀b,(∀n j L t,cr b≠ .lock n j L t)->z3 b=cr b:=fun b ax=>by rw[<-o4];exact YP ax
      have hle:et cr z3:=fun b aP=>EQ b fun n j L t ax=>by rw[ax] at aP;exact aP
      have jS:∀b,cr b= .dead->z3 b= .dead:=fun b aB=>by rw[EQ b (fun n j L t ax=>by rw[aB] at ax;cases ax),aB]
      have pZ:cT e.next cr z3:=⟨hle,fun b aN=>by
       cases aF:cr b with
       |lock n j L t=>rw[<-o4,s5 aF,if_neg (by omega),if_neg (by omega)]
       |_=>rw[EQ b (fun n j L t ax=>by rw[aF] at ax;cases ax),aF]⟩
      have dH:cL z3 e m' k:=⟨fun b aa=>by
       cases aF:cr b with
       |lock n j L t=>
        have aM:=dO.bg b (by rw[aF];simp);rw[aF] at aM;rw[<-o4,s5 aF];split
        ·exact aM
        ·split
         ·exact aM
         ·exact aM
       |_=>
        have aj:=EQ b (fun n j L t ax=>by rw[aF] at ax;cases ax);rw[aj] at aa⊢;exact dO.bg b aa,dO.dead,dO.lR,dO.next,dO.kept⟩
      have AP:=Jn.Z9 hle dH jS fun l p w ah hw ap b bX L c7 nf=>by
       obtain ⟨h1,J⟩:=left l p w ah hw ap;have ne:eP w≠0->eP w≠eP (aK fr x):=by
        intro hU;have dy:=tr.eD l i _ _ _ _ J h1 qE ap rfl hw ki;by_cases tW:∃r,w= .map r
        ·obtain ⟨r,rfl⟩:=tW;exact absurd OH hU
        ·rw[fM (fun r an=>tW ⟨r,an⟩),qG] at dy;rcases Hu dy with ax|ax
         ·exact ax
         ·exact absurd ax hU
       rw[<-o4,s5 nf,nf,if_neg fun ax=>ne ax.2.1 ax.2.2,if_neg fun ax=>ax.2.1 ax.2.2]
      have hW:fI X.G z3 e m' k (vs++[bl]) (.nest aX t1 up (mO++arx n.toNat []) aqY aqZ:aL D) bl:=by
       refine ⟨Ah,_,bf.ic hle (fun b aa=>jS b (bf.bf.lt b aa).2▸((bf.bf.lt b aa).2).symm),by rw[aro,aro,iw.len,asP,asP],fun l w xs g1 g2 _=> ?_,fun p ap=>by cases ap⟩;by_cases ah:l<mO.length
       ·rw[arm (by rw[iw.len];exact ah)] at g1;rw[arm ah] at g2;rcases iw.nn l w xs g1 g2 (fun p ap=>by cases ap) with ax|⟨b,f0,L,c,cm,cw,dW,fG,l3,lB⟩
        ·exact .inl ax
        ·have aI:=Pc iw.bf (fun ax=>by rw[ax] at g1;simp at g1);refine .inr ⟨b,f0,L,c,cm,by rw[<-o4,s5 cw,if_pos ⟨dW,aI,rfl⟩],dW,fG,l3,fun i x ae=> ?_⟩;obtain ⟨cs,fg,e1⟩:=lB i x ae;exact ⟨cs,(X.G.T t1).mono _ _ hle _ _ fg,e1⟩
       ·rw[arl (by rw[iw.len];omega)] at g1;rw[arl (by omega)] at g2;have h1:=are g1;have J:=are g2;exact .inl ⟨List.eq_of_mem_replicate h1,List.eq_of_mem_replicate J⟩
      have Jo:=AP.Ng hW fun _ l p w ah ap hw=>by
       obtain ⟨h1,J⟩:=left l p w ah hw ap;rw[hB];refine dy _ (fun b aa=>((tr.obj l p w h1 hw).lt ap b aa).1) ?_;have:=tr.eD l i _ _ _ _ J h1 qE ap rfl hw ki
       rwa [qG] at this
      have Ma:(bL.set i (.dead:aL D)).length=bL.length:=by simp
      refine ⟨z3,vs++[bl],_,_,i1.trans ((Inv.set bL i (.inl rfl)).trans (Inv.push _ _)),aD.trans pZ,iy,Jo, ?_,h⟩;have:=nx AP bf.bf.len
      rwa [Ma] at this
     ·cases h
    ·cases h
   ·cases h
  ·cases h
 ·cases h
theorem afB {i:Nat} {b:aQ D} (ai:o.op= .call {callee:= .builtin .append,args:=#[x,y],argTypes:=#[t,u]}) (aw:bm X.G O z e m k vs) (aq:rel X.G z vs (.c (.own i)) (aK fr x)) (aa:rel X.G z vs b (aK fr y)) (h:Ph X t u i b O K=aqV r):bZ P (aK fr) o m fun _ v m'=>c5 X O z e k vs K r v m':=by
 unfold Ph at h;split at h
 ·rename_i fR aqF ao hu;split at h
  ·rename_i j;split at h
   ·cases h
   ·rename_i cY;have cY:i≠j:=fun ax=>cY (by rw[ax];simp);split at h
    ·rename_i bL L1;split at h
     ·rename_i cX abS;split at h
      ·rename_i aX t1 up mO cO e2 t2 anS DX fo qE Fc;split at h
       ·rename_i dI bj;split at h
        ·rename_i dn;subst dn;split at h
         ·rename_i he;obtain ⟨rfl,rfl⟩:=he;obtain ⟨q,aJ,h⟩:=bind_some h;have aJ:dP mO DX=aqV q:=aJ;obtain ⟨cr,i1,aD,tr⟩:=CP aw L1;obtain ⟨z2,i2,b9,M2⟩:=CP tr abS;obtain ⟨kV,rfl⟩:=sf aJ;have ki:=aq.1;have pW:=aa.1;obtain ⟨Ah,Aj,iw⟩:=M2.obj i _ _ qE ki;obtain ⟨_,QE,hF⟩:=M2.obj j _ _ Fc pW;have Ms:dP Aj QE=aqV (Aj++QE):=by
           unfold dP;rw[iw.len,hF.len,if_pos kV]
          refine G9 (T:=qx e2) ai ao dI.ae dI.aF rfl (by rw[dI.h1];rfl) (by rw[dI.h1];rfl) rfl dI.fZ (.inl ⟨_,hu⟩) rfl iw.bf rfl hF.bf.bf.src M2.aO Ms fun bl m' dO bf fa dy=> ?_;have qG:da (aK fr x)=cp (aK fr x):=fM (by obtain ⟨a,c,ax⟩:=iw.bf.bf.len;rw[ax];intro r;simp);have LQ:da (aK fr y)=cp (aK fr y):=fM (by obtain ⟨a,c,ax⟩:=hF.bf.bf.len;rw[ax];intro r;simp);have hB:da bl=cp bl:=fM (by obtain ⟨a,c,rfl⟩:=bf.bf.len;intro r;simp);have T7:=M2.eD i j _ _ _ _ cY qE Fc rfl rfl ki pW;rw[qG,LQ] at T7;have Jn:=M2.mM (o':= .dead) qE ki rfl (by rw[qG];exact fa) dO trivial;have abm:(cX.set i (.dead:aL D))[j]? =aqV (.nest e2 t2 anS DX aqY fo):=by rw[as2 cY];exact Fc
          have aad:=Jn.mM (m':=m') (o':= .dead) abm pW rfl ⟨aq9 _,dO.dead,fun _ _ _=>rfl⟩ dO trivial;have left:∀(l:Nat) (p:aL D) (w:aqX),((cX.set i (.dead:aL D)).set j .dead)[l]? =aqV p->vs[l]? =aqV w->p.live=aqW->cX[l]? =aqV p/\l≠i/\l≠j:=by
           intro l p w ah hw ap;rw[arv] at ah;split at ah
           ·split at ah
            ·cases ah;cases ap
            ·cases ah
           ·rename_i h1;rw[arv] at ah;split at ah
            ·split at ah
             ·cases ah;cases ap
             ·cases ah
            ·rename_i J;exact ⟨ah,fun ax=>J ax.symm,fun ax=>h1 ax.symm⟩
          generalize o4:AG z2 e.next (eP (aK fr x)) (eP (aK fr y)) mO.length (eP bl)=z3;have aX:∀b,(∀n j L t,z2 b≠ .lock n j L t)->z3 b=z2 b:=fun b ax=>by rw[<-o4];exact YP ax
          have hle:et z2 z3:=fun b aP=>aX b fun n j L t ax=>by rw[ax] at aP;exact aP
          have jS:∀b,z2 b= .dead->z3 b= .dead:=fun b aB=>by rw[aX b (fun n j L t ax=>by rw[aB] at ax;cases ax),aB]
          have pZ:cT e.next z2 z3:=⟨hle,fun b aN=>by
           cases aF:z2 b with
           |lock n j L t=>rw[<-o4,s5 aF,if_neg (by omega),if_neg (by omega)]
           |_=>rw[aX b (fun n j L t ax=>by rw[aF] at ax;cases ax),aF]⟩
          have dH:cL z3 e m' k:=⟨fun b aa=>by
           cases aF:z2 b with
           |lock n j L t=>
            have aM:=dO.bg b (by rw[aF];simp);rw[aF] at aM;rw[<-o4,s5 aF];split
            ·exact aM
            ·split
             ·exact aM
             ·exact aM
           |_=>
            have aj:=aX b (fun n j L t ax=>by rw[aF] at ax;cases ax);rw[aj] at aa⊢;exact dO.bg b aa,dO.dead,dO.lR,dO.next,dO.kept⟩
          have AP:=aad.Z9 hle dH jS fun l p w ah hw ap b bX L c7 nf=>by
           obtain ⟨h1,J,aj⟩:=left l p w ah hw ap;have ne:∀{de:aqX} {Ch:Nat} {lz:aL D},l≠Ch->cX[Ch]? =aqV lz->lz.live=aqW->vs[Ch]? =aqV de->(∀r,de≠ .map r)->eP w≠0->eP w≠eP de:=by
            intro de Ch lz b8 aM bq dv h3 hU;have dy:=M2.eD l Ch _ _ _ _ b8 h1 aM ap bq hw dv;by_cases tW:∃r,w= .map r
            ·obtain ⟨r,rfl⟩:=tW;exact absurd OH hU
            ·rw[fM (fun r an=>tW ⟨r,an⟩),fM h3] at dy;rcases Hu dy with ax|ax
             ·exact ax
             ·exact absurd ax hU
           have m1:∀r,aK fr x≠ .map r:=by obtain ⟨a,c,ax⟩:=iw.bf.bf.len;rw[ax];intro r;simp
           have m2:∀r,aK fr y≠ .map r:=by obtain ⟨a,c,ax⟩:=hF.bf.bf.len;rw[ax];intro r;simp
           rw[<-o4,s5 nf,nf,if_neg fun ax=>ne J qE rfl ki m1 ax.2.1 ax.2.2,if_neg fun ax=>ne aj Fc rfl pW m2 ax.2.1 ax.2.2]
          have hW:fI X.G z3 e m' k (vs++[bl]) (.nest e2 t2 up (mO++DX) aqY aqZ:aL D) bl:=by
           refine ⟨Ah,Aj++QE,bf.ic hle (fun b aa=>jS b (bf.bf.lt b aa).2▸((bf.bf.lt b aa).2).symm),by rw[aro,aro,iw.len,hF.len],fun l w xs g1 g2 _=> ?_,fun p ap=>by cases ap⟩;by_cases ah:l<mO.length
           ·rw[arm (by rw[iw.len];exact ah)] at g1;rw[arm ah] at g2;rcases iw.nn l w xs g1 g2 (fun p ap=>by cases ap) with ax|⟨b,f0,L,c,cm,cw,dW,fG,l3,lB⟩
            ·exact .inl ax
            ·have aI:=Pc iw.bf (fun ax=>by rw[ax] at g1;simp at g1);refine .inr ⟨b,f0,L,c,cm,by rw[<-o4,s5 cw,if_pos ⟨dW,aI,rfl⟩],dW,fG,l3,fun i x ae=> ?_⟩;obtain ⟨cs,fg,e1⟩:=lB i x ae;exact ⟨cs,(X.G.T t2).mono _ _ hle _ _ fg,e1⟩
           ·rw[arl (by rw[iw.len];omega),iw.len] at g1;rw[arl (by omega)] at g2;rcases hF.nn (l - mO.length) w xs g1 g2 (fun p ap=>by cases ap) with ax|⟨b,f0,L,c,cm,cw,dW,fG,l3,lB⟩
            ·exact .inl ax
            ·have aI:=Pc hF.bf (fun ax=>by rw[ax] at g1;simp at g1);have b8:eP (aK fr y)≠eP (aK fr x):=by
              rcases Hu T7.symm with ax|ax
              ·exact ax
              ·exact absurd ax aI
             refine .inr ⟨b,f0,L,c,cm,by rw[<-o4,s5 cw,if_neg (fun ax=>b8 ax.2.2),if_pos ⟨dW,aI,rfl⟩,show mO.length+(l - mO.length)=l by omega],dW,fG,l3,fun i x ae=> ?_⟩;obtain ⟨cs,fg,e1⟩:=lB i x ae;exact ⟨cs,(X.G.T t2).mono _ _ hle _ _ fg,e1⟩
          have Jo:=AP.Ng hW fun _ l p w ah ap hw=>by
           obtain ⟨h1,J,aj⟩:=left l p w ah hw ap;rw[hB];refine dy _ (fun b aa=>((M2.obj l p w h1 hw).lt ap b aa).1) ?_;have:=M2.eD l i _ _ _ _ J h1 qE ap rfl hw ki
           rwa [qG] at this
          have Ma:((cX.set i (.dead:aL D)).set j .dead).length=cX.length:=by simp
          refine ⟨z3,vs++[bl],_,_,(i1.trans i2).trans ((Inv.set cX i (.inl rfl)).trans ((Inv.set _ j (.inl rfl)).trans (Inv.push _ _))),(aD.trans b9).trans pZ,iy,Jo, ?_,h⟩;have:=nx AP bf.bf.len
          rwa [Ma] at this
         ·cases h
        ·cases h
       ·cases h
      ·cases h
     ·cases h
    ·cases h
  ·cases h
 ·cases h
end
end Go.aS
end
section
namespace Go.aS
section
variable {P:aq1} {D:Nat->Type} {X:dB P D} {af:Type} {z z':Nat->a6} {e m m':Mem} {k:Option Nat} {vs:List aqX} {fr:Nat->aqX} {E:List (Nat×aQ D)} {O:List (aL D)} {o:Oper} {r:af}
variable {x y:aq3} {t u:aq4} {K:aQ D->List (aL D)->Option af}
def fu (m m':Mem) (q:Option Nat):Prop:=m.next<=m'.next/\∀b,b<m.next->q≠aqV b->m'.aG b=m.aG b
def mU (vs:List aqX) (ts:List Nat) (q:Option Nat):Prop:=q=aqY\/∃i,i∈ts/\∃v,vs[i]? =aqV v/\q=da v
theorem bZ.mono {af:aq3->aqX} {K j6:Tag->aqX->Mem->Prop} (h:bZ P af o m K) (hk:∀t v m',K t v m'->j6 t v m'):bZ P af o m j6:=by
 rcases h with ⟨v,h,g⟩|⟨v,I,h,g⟩|⟨v,h,g⟩|⟨Y,v,h,g⟩|⟨n,v,m',h,g⟩
 ·exact .inl ⟨v,h,hk _ _ _ g⟩
 ·exact .inr (.inl ⟨v,I,h,hk _ _ _ g⟩)
 ·exact .inr (.inr (.inl ⟨v,h,hk _ _ _ g⟩))
 ·exact .inr (.inr (.inr (.inl ⟨Y,v,h,hk _ _ _ g⟩)))
 ·exact .inr (.inr (.inr (.inr ⟨n,v,m',h,hk _ _ _ g⟩)))
def fS (X:dB P D):Prop:=∀(f:Nat) (bN:List (aQ D)) (O:List (aL D)) {af:Type} (K:aQ D->List (aL D)->Option af) (r:af) {z:Nat->a6} {e m:Mem} {k:Option Nat} {vs:List aqX} (args:List aqX),
 bm X.G O z e m k vs->ba (rel X.G z vs) bN args->X.C f bN O K=aqV r->hx P f args.toArray m fun v m'=>c5 X O z e k vs K r v m'/\(X.F f bN O=aqW->m'=m)/\(X.W f=aqZ->∃q,fu m m' q/\mU vs (qa bN) q)
theorem ba.caps {caps:List (Nat×List (bJ D))} {gs:List aqX} (h:ba (fun c g=>l8 X.G z vs c.2 0 g) caps gs):ba (rel X.G z vs) (caps.map fun p=>aQ.fH p.1 p.2 0) gs:=by
 induction caps generalizing gs with
 |nil=>cases gs with
  |nil=>trivial
  |cons _ _=>exact h.elim
 |cons c caps a8=>cases gs with
  |nil=>exact h.elim
  |cons g gs=>exact ⟨h.1,a8 h.2⟩
theorem NE {au:Type} {T:cf au} {dq:au->List aqX} (ad:∀z x ds,T.rd z x ds->ds=dq x) {L:List aqX}:∀{xs:List au} {o:Nat},(∀(i:Nat) (x:au),xs[i]? =aqV x->∃cs,T.rd z x cs/\qb L (o+i*T.a1) cs)->(∀x∈xs,(dq x).length=T.a1)->
  ∀(i:Nat) (v:aqX),(xs.flatMap dq)[i]? =aqV v->L[o+i]? =aqV v
 |[],o,_,_,i,v,h=>by simp at h
 |x::xs,o,h,ah,i,v,ae=>by
  obtain ⟨cs,h1,J⟩:=h 0 x rfl;have:=ad _ _ _ h1;subst this;have tM:=ah x arp;rw[asn,atA] at ae;split at ae
  ·have:=J i v ae
   rwa [ase,arJ] at this
  ·rename_i e8;have:=NE ad (xs:=xs) (o:=o+T.a1) (L:=L) (fun j y av=>by
    obtain ⟨cs,g1,g2⟩:=h (j+1) y (by simpa using av);exact ⟨cs,g1,by rw[art,asv] at g2;rw[show o+T.a1+j*T.a1=o+(j*T.a1+T.a1) by omega];exact g2⟩) (fun y ag=>ah y (ark _ ag)) _ v ae
   rw[tM] at this e8;rw[show o+i=o+T.a1+(i - T.a1) by omega];exact this
theorem OP {au:Type} {dq:au->List aqX} {n:Nat}:∀{xs:List au},(∀x∈xs,(dq x).length=n)->∀(i j:Nat) (x:au) (v:aqX),xs[i]? =aqV x->(dq x)[j]? =aqV v->(xs.flatMap dq)[i*n+j]? =aqV v
 |[],_,i,j,x,v,h,_=>by simp at h
 |y::xs,ah,0,j,x,v,h,av=>by simp at h;subst h;rw[asn,ase,arh,arm (aq5.1 av).1];exact av
 |y::xs,ah,i+1,j,x,v,h,av=>by have ag:=ah y arp;rw[asn,art,asv,arl (by omega),show i*n+n+j - (dq y).length=i*n+j by omega];exact OP (fun x U=>ah x (ark _ U)) i j x v (by simpa using h) av
theorem CR {au:Type} {dq:au->List aqX} {n:Nat}:∀{xs:List au},(∀x∈xs,(dq x).length=n)->(xs.flatMap dq).length=xs.length*n
 |[],_=>by simp
 |x::xs,h=>by rw[asn,aro,h x arp,CR fun y ag=>h y (ark _ ag),arw,art];omega
theorem agH {bN:List (aQ D)} {n:Nat} (h:Qt (HI bN) n=aqW):∃s,bN=[s, .fn n []]:=by
 unfold HI at h;split at h
 ·rename_i s g;obtain rfl:=arA h;exact ⟨s,rfl⟩
 ·cases h
theorem GD {f:Nat} {caps:List (Nat×List (bJ D))} {bN:List (aQ D)} {eS:pH P X.G}:∀{l:List (pH P X.G)},wZ X l f caps bN=aqV eS->eS.f=f/\caps=[]/\∃s,bN=[s, .fn eS.g []]
 |[],h=>by cases h
 |s::l,h=>by
  unfold wZ at h;by_cases ab:(ard s.f f&&(caps.isEmpty&&Qt (HI bN) s.g))=aqW
  ·rw[if_pos ab] at h;cases h;simp only[ara] at ab;exact ⟨arA ab.1,by simpa using ab.2.1,agH ab.2.2⟩
  ·rw[if_neg ab] at h;exact GD h
theorem WH {f:Nat} {bN:List (aQ D)} {eS:pH P X.G} {args:List aqX} {caps:List (Nat×List (bJ D))} (aP:wZ X X.S f caps bN=aqV eS) (aw:bm X.G O z e m k vs) (cC:ba (rel X.G z vs) bN args) (h:Pn X eS bN O K=aqV r):
  hx P f args.toArray m fun v m'=>c5 X O z e k vs K r v m'/\∃q,fu m m' q/\mU vs (zC bN) q:=by
 obtain ⟨rfl,_,s,rfl⟩:=GD aP
 match args,cC with
 |[c0,a2],⟨h1,⟨gs,J,aj⟩,_⟩=>
  have BF:gs=[]:=by cases gs with
   |nil=>rfl
   |cons _ _=>exact aj.elim
  subst BF;subst J;unfold Pn at h;split at h
  ·rename_i b1 l ay;cases ay;have h1:c0= .slice aqY 0 0:=h1;subst h1;exact hx.sort eS.ok (.none aqY 0 eS.g eS.aI rfl) ⟨c5.here (c3:= .mL []) aw ⟨[],rfl,trivial⟩ h,aqY,⟨aq9 _,fun _ _ _=>rfl⟩, .inl rfl⟩
  ·rename_i i l ay;cases ay;split at h
   ·rename_i t xs w ai;split at h
    ·rename_i he;subst he;obtain ⟨bi,ag,h⟩:=bind_some h;have b0:c6 (X.G.T eS.e) z e m k xs c0:=aw.obj i _ c0 ai h1.1;have r1:∀x∈xs,(eS.dq x).length=(X.G.T eS.e).a1:=fun x _=>(X.G.T eS.e).len z x _ (eS.an z x);have U0:∀x∈bi,(eS.dq x).length=(X.G.T eS.e).a1:=fun x _=>(X.G.T eS.e).len z x _ (eS.an z x);have ar:=eS.ar xs bi ag;have hf:∀l:List (D eS.e),(l.flatMap eS.dq).all cx=aqW:=fun l=>by
      rw[arc];intro v ad;obtain ⟨x,_,U⟩:=List.mem_flatMap.1 ad;exact arc.1 (eS.aP x) v U
     rcases b0.bf with ⟨rfl,rfl⟩|⟨b,f0,L,c,rfl,g1,g2,g3,g4,g5,g6⟩
     ·have od:bi=[]:=asw (by rw[ar];rfl);subst od;refine hx.sort eS.ok (.none aqY 0 eS.g eS.aI rfl) ⟨⟨z,vs, .mL [],_,Inv.set O i (.inr rfl),cT.refl z,fun _ _ h=>h, ?_,⟨[],rfl,trivial⟩,h⟩,aqY,⟨aq9 _,fun _ _ _=>rfl⟩, .inl rfl⟩;exact aw.mM (m':=m) ai h1.1 rfl ⟨aq9 _,aw.aO.dead,fun _ _ _=>rfl⟩ aw.aO b0
     ·by_cases fl:xs.length=0
      ·have MG:xs=[]:=asw fl;subst MG;have od:bi=[]:=asw (by rw[ar];rfl);subst od;refine hx.sort eS.ok (.none _ c eS.g eS.aI rfl) ⟨⟨z,vs, .mL [],_,Inv.set O i (.inr rfl),cT.refl z,fun _ _ h=>h, ?_,⟨[],rfl,trivial⟩,h⟩,aqY,⟨aq9 _,fun _ _ _=>rfl⟩, .inl rfl⟩;exact aw.mM (m':=m) ai h1.1 rfl ⟨aq9 _,aw.aO.dead,fun _ _ _=>rfl⟩ aw.aO b0
      ·have BQ:=CR r1;have Ur:=CR U0;have hlen:(eU L f0 (bi.flatMap eS.dq)).length=L.length:=pg _ _ _;have aJ:=b0.aJ b rfl;have vY:e5 m (m.put b (.own (eU L f0 (bi.flatMap eS.dq)) (X.G.T eS.e).tid)) (aqV b):=by
        refine ⟨aq9 _,fun c ab=> ?_,fun c ab hk=> ?_⟩
        ·have ab:m.next<=c:=ab;simp only[Mem.put];rw[if_neg (by omega)];exact aw.aO.dead c ab
        ·simp only[Mem.put];rw[if_neg (fun dE=>hk (by rw[dE]))]
       refine hx.sort eS.ok (.row b f0 xs.length c eS.g L (X.G.T eS.e).tid (xs.flatMap eS.dq) (bi.flatMap eS.dq) (eS.ay xs bi ag (by omega)) rfl (by omega) g1 ?_ (by rw[BQ];exact g4) (by rw[BQ,Ur,ar]) (hf _) (hf _)) ⟨⟨z,vs, .mL [],_,Inv.set O i (.inr rfl),cT.refl z,fun _ _ h=>h, ?_,⟨[],rfl,trivial⟩,h⟩,aqV b,⟨aq9 _,vY.aG⟩, .inr ⟨i,by simp[zC],_,h1.1,rfl⟩⟩
       ·refine asL fun j=> ?_;rw[arK];split
        ·rename_i av;rw[ar6];have ad:=ary av;rw[ad];exact NE eS.ad (fun i x U=>g6 i x U) r1 j _ ad
        ·rename_i av;rw[atb (by omega)]
       ·refine aw.mM ai h1.1 rfl vY (aw.aO.put _ g3 g2 aJ.2) ⟨.inr ⟨b,f0,eU L f0 (bi.flatMap eS.dq),c,by rw[ar],by simp[Mem.put],g2,g3,by rw[ar,hlen];exact g4,by rw[ar,hlen];exact g5,fun i x U=> ?_⟩,b0.fresh⟩;refine ⟨eS.dq x,eS.an z x,fun j v av=> ?_⟩;have hk:=OP U0 i j x v U av;rw[ou _ _ _ _ (by rw[Ur,ar];exact g4)];have aN:=(aq5.1 hk).1;rw[if_pos (by omega),show f0+i*(X.G.T eS.e).a1+j - f0=i*(X.G.T eS.e).a1+j by omega];exact hk
    ·cases h
   ·cases h
  ·cases h
 |[],h=>exact h.elim
 |[_],⟨_,h⟩=>exact h.elim
 |_::_::_::_,⟨_,_,h⟩=>exact h.elim
theorem WZ:∀{is:List Nat} {gs:List aqX},ba (rE vs) is gs->ba (rel X.G z vs) (is.map fun i=>aQ.box i 0) gs
 |[],[],_=>trivial
 |[],_::_,h=>h.elim
 |_::_,[],h=>h.elim
 |_::_,_::_,⟨⟨aI,b,h⟩,J⟩=>⟨⟨b,by subst h;exact aI,h⟩,WZ J⟩
theorem afD (bW:fS X) {c:Call} (ai:o.op= .call c) (aw:bm X.G O z e m k vs) (aT:∀x,rel X.G z vs (cn E x) (aK fr x)) (h:q4 X c E O K=aqV r):bZ P (aK fr) o m fun _ v m'=>c5 X O z e k vs K r v m':=by
 obtain ⟨ce,as,ts⟩:=c;cases ce with
 |invoke r m=>cases h
 |value f=>
  simp only[q4] at h;split at h
  ·rename_i jN caps aP;have ga:=aT f;rw[aP] at ga;obtain ⟨gs,vM,aH⟩:=ga;split at h
   ·rename_i eS n3;have LW:caps=[]:=(GD n3).2.1;subst LW;have BF:gs=[]:=by cases gs with
     |nil=>rfl
     |cons _ _=>exact aH.elim
    subst BF;refine bZ.call (CT (args:=(as.toList.map (aK fr)).toArray) (caps:=#[]) ai vM (by apply asc;simp) rfl) ?_;have:=(WH n3 aw (wJ aT) h).mono fun _ _ h=>h.1;simpa using this
   refine bZ.call (CT (args:=(as.toList.map (aK fr)).toArray) (caps:=gs.toArray) ai vM (by apply asc;simp) rfl) ?_;have:=(bW jN _ O K r (as.toList.map (aK fr)++gs) aw ((wJ aT).append aH.caps) h).mono fun _ _ h=>h.1;simpa using this
  ·rename_i jN is aP;have ga:=aT f;rw[aP] at ga;obtain ⟨gs,vM,aH⟩:=ga;refine bZ.call (CT (args:=(as.toList.map (aK fr)).toArray) (caps:=gs.toArray) ai vM (by apply asc;simp) rfl) ?_;have:=(bW jN _ O K r (as.toList.map (aK fr)++gs) aw ((wJ aT).append (WZ aH)) h).mono fun _ _ h=>h.1;simpa using this
  ·cases h
 |builtin b=>
  cases b with
  |len=>
   simp only[q4] at h;split at h
   ·rename_i x t aq ao;have na:as=#[x]:=by cases as;simp at aq;subst aq;rfl
    have kA:ts=#[t]:=by cases ts;simp at ao;subst ao;rfl
    subst na kA;exact ag0 (ts:=#[t]) ai aw (aT x) h
   ·cases h
  |append=>
   simp only[q4] at h;split at h
   ·rename_i x y t u aq ao;have na:as=#[x,y]:=by cases as;simp at aq;subst aq;rfl
    have kA:ts=#[t,u]:=by cases ts;simp at ao;subst ao;rfl
    subst na kA;split at h
    ·rename_i hu;exact aeZ ai hu aw (aT x) (aT y) h
    split at h
    ·exact afC ai aw (aT x) (aT y) h
    have U:=aT x;split at h
    ·rename_i i ae;rw[ae] at U;split at h
     ·exact afB ai aw U (aT y) h
     ·rw[ae] at h;exact Xw ai aw U (aT y) h
    ·exact Xw ai aw U (aT y) h
   ·cases h
  |cap=>
   simp only[q4] at h;split at h
   ·rename_i x t aq ao;have na:as=#[x]:=by cases as;simp at aq;subst aq;rfl
    have kA:ts=#[t]:=by cases ts;simp at ao;subst ao;rfl
    subst na kA;split at h
    ·rename_i fR U hu;have ad:=aT x;rw[U] at ad;exact bZ.pure (.EL x t fR ai hu ad) (c5.here (c3:= .c (.int .i64 0)) aw rfl h)
    ·cases h
   ·cases h
  |max=>
   simp only[q4] at h;split at h
   ·rename_i x y aq;have na:as=#[x,y]:=by cases as;simp at aq;subst aq;rfl
    subst na;have U:=aT x;have ag:=aT y;split at h
    ·rename_i bs a bC b h1 J;rw[h1] at U;rw[J] at ag;split at h
     ·rename_i hk;subst hk;exact iz aw h (amB ai U ag) rfl
     ·cases h
    ·cases h
   ·cases h
  |min=>
   simp only[q4] at h;split at h
   ·rename_i x y aq;have na:as=#[x,y]:=by cases as;simp at aq;subst aq;rfl
    subst na;have U:=aT x;have ag:=aT y;split at h
    ·rename_i bs a bC b h1 J;rw[h1] at U;rw[J] at ag;split at h
     ·rename_i hk;subst hk;exact iz aw h (amC ai U ag) rfl
     ·cases h
    ·cases h
   ·cases h
  |_=>cases h
theorem agN {s:aQ D} {v:aqX} {p:Sw D} (aw:bm X.G O z e m k vs) (h:PZ O s=aqV p) (ad:rel X.G z vs s v):kL (X.G.M p.u p.kt p.vt) z p.es v\/h2 (X.G.M p.u p.kt p.vt) z e m k p.es v:=by
 unfold PZ at h;split at h
 ·cases h;exact .inl ad
 ·split at h
  ·rename_i u kt vt es bg cO ai;cases h;have b0:=aw.obj _ _ v ai ad.1;cases bg with
   |true=>exact .inl b0
   |false=>exact .inr b0
  ·cases h
 ·cases h
theorem Hr (bW:fS X) {op:Op} (ai:o.op=op) (aw:bm X.G O z e m k vs) (aT:∀x,rel X.G z vs (cn E x) (aK fr x)) (h:gd X op E O K=aqV r):bZ P (aK fr) o m fun _ v m'=>c5 X O z e k vs K r v m':=by
 cases op with
 |move x=>exact iz aw h (amD ai rfl) (aT x)
 |assign x=>exact iz aw h (ah8 ai rfl) (aT x)
 |nilCheck x=>
  have U:=aT x;simp only[gd] at h;split at h
  ·rename_i i off ay;have jZ:=U;rw[ay] at jZ;obtain ⟨b,_,ad⟩:=jZ;exact iz aw h (by rw[ad];exact .nilCheck x _ ai ad) U
  ·rename_i i ay;have jZ:=U;rw[ay] at jZ;obtain ⟨b,l,_,ad⟩:=jZ;exact iz aw h (by rw[ad];exact .nilCheck x _ ai ad) U
  ·rename_i i aX cy off ay;have jZ:=U;rw[ay] at jZ;obtain ⟨b,f0,l,c,_,ad⟩:=jZ;exact iz aw h (by rw[ad];exact .nilCheck x _ ai ad) U
  ·rename_i t cs off ay;have jZ:=U;rw[ay] at jZ;obtain ⟨b,gm,ds,ad,_⟩:=jZ;exact iz aw h (by rw[ad];exact .nilCheck x _ ai ad) U
  ·cases h
 |extract x i=>
  have U:=aT x;simp only[gd] at h;split at h
  ·rename_i l ay;rw[ay] at U;obtain ⟨ds,ad,ah⟩:=U;split at h
   ·rename_i c ab;obtain ⟨w,hw,an⟩:=ah.get i _ ab;exact iz aw h (Xz ai ad hw) an
   ·rename_i p ab;obtain ⟨w,hw,an⟩:=ah.get i _ ab;exact iz aw h (Xz ai ad hw) an
   ·cases h
  ·cases h
 |pick c a b=>
  have ab:=aT c;simp only[gd] at h;split at h
  ·rename_i ay;rw[ay] at ab;exact iz aw h (Zd (t:=aqW) ai ab (if_pos rfl)) (aT a)
  ·rename_i ay;rw[ay] at ab;exact iz aw h (Zd (t:=aqZ) ai ab (if_neg (by simp))) (aT b)
  ·cases h
 |binOp op t x y u=>
  simp only[gd] at h;have U:=aT x;have ag:=aT y;split at h
  ·rename_i t1 c1 t2 c2 h1 J;rw[h1] at U;rw[J] at ag;obtain ⟨c,v,fB,ap,an⟩:=ait ai U ag h;exact iz aw fB ap an
  ·obtain ⟨c,v,fB,ap,an⟩:=ahF ai aw U ag h;exact iz aw fB ap an
 |unOp op t x=>
  have U:=aT x;cases op with
  |not=>
   simp only[gd] at h;split at h
   ·rename_i b ay;rw[ay] at U;exact iz aw h (aeo ai U) rfl
   ·cases h
  |neg=>
   simp only[gd] at h;split at h
   ·rename_i kk a ay;rw[ay] at U;exact iz aw h (aem ai U) rfl
   ·cases h
  |_=>simp[gd] at h
 |convert s t x=>exact afE ai aw (aT x) h
 |indexAddr t x y=>exact agZ ai aw (aT x) (aT y) h
 |fieldAddr t x n=>exact agX ai aw (aT x) h
 |load t x=>
  simp only[gd] at h;split at h
  ·unfold XU at h;refine (WG ai aw (aT x) h).mono fun _ v m' ar=> ?_;obtain ⟨cr,jb,c3,bL,aI,h1,J,aj,aM,bq⟩:=ar;dsimp only at bq;split at bq
   ·rename_i j;split at bq
    ·rename_i c cX aP;obtain ⟨z2,c0,a2,a3,a4⟩:=XD aj aP aM.1;exact ⟨z2,jb, .c c,cX,aI.trans c0,h1.trans a2,J,a3,a4,bq⟩
    ·cases bq
   ·cases bq
  ·exact WG ai aw (aT x) h
 |store t x y=>exact afl ai aw (aT x) (aT y) h
 |alloc t=>exact aeY ai aw h
 |box t x=>
  simp only[gd] at h;split at h
  ·rename_i i cs ae ab;split at h
   ·rename_i ah;exact agV ai aw (aT x) ae ab ah h
   ·cases h
  ·cases h
 |makeSlice t x y=>
  have U:=aT x;simp only[gd] at h;split at h
  ·rename_i fO kk n ao ay;rw[ay] at U;split at h
   ·exact afk ai ao aw U h
   ·split at h
    ·rename_i ti cc lu;exact afI ai ao aw U lu h
    ·cases h
  ·cases h
 |buildSlice t l bK=>
  simp only[gd] at h;split at h
  ·exact ag2 ai aw aT h
  ·split at h
   ·rename_i fO ao;split at h
    ·rename_i ti cc;exact ae1 ai ao aw aT h
    ·cases h
   ·cases h
 |build t bK=>
  simp only[gd] at h;split at h
  ·rename_i bc ti ao cc;split at h
   ·rename_i ap;split at h
    ·rename_i cs ab;exact aeO ai ao aw aT ap ab h
    ·cases h
   ·cases h
  ·rename_i n tE ti ao cc;split at h
   ·rename_i kk hk;split at h
    ·rename_i cs ab;exact ae0 ai ao hk aw aT ab h
    ·cases h
   ·cases h
  ·cases h
 |slice t x bG ae h6=>
  cases h6 with
  |none=>exact afF ai aw aT (aT x) h
  |some h6=>
   cases bG with
   |some _=>simp[gd] at h
   |none=>
    cases ae with
    |none=>simp[gd] at h
    |some y=>exact afG ai aw aT h
 |index t x y=>
  have U:=aT x;have ag:=aT y;simp only[gd] at h;split at h
  ·rename_i s kk n ao h1 J;rw[h1] at U;rw[J] at ag;obtain ⟨c,ab,h⟩:=bind_some h;exact ag' ai ao U ag ab (c5.here (c3:= .c (.int .u8 (ash c:Int))) aw rfl h)
  ·cases h
 |makeFunc fn first cap=>
  cases fn with
  |func f=>
   simp only[gd] at h;split at h
   ·split at h
    ·rename_i is aP ab;exact agY ai aP aw aT ab h
    ·cases h
   ·split at h
    ·rename_i caps bL aP ab;exact ah5 ai aP aw aT ab h
    ·cases h
  |_=>simp[gd] at h
 |makeMap t rs=>
  cases rs with
  |none=>
   simp only[gd] at h;split at h
   ·rename_i kt vt ao;exact ag1 ai ao aw h
   ·cases h
  |some _=>simp[gd] at h
 |lookup t x y ok=>
  have U:=aT x;have ag:=aT y;simp only[gd] at h;split at h
  ·rename_i u kt vt es ah;have hm:=agN aw ah U;split at h
   ·rename_i bs v1 bC v2 ao hu;split at h
    ·rename_i dn;obtain ⟨rfl,rfl,rfl,rfl⟩:=dn;split at h
     ·rename_i ep TZ;split at h
      ·rename_i a aq;exact afH ai ao hu aw hm ag aq h
      ·cases h
     ·cases h
    ·cases h
   ·cases h
  ·cases h
 |mapUpdate t x y w=>
  have U:=aT x;have ag:=aT y;have hw:=aT w;simp only[gd] at h;split at h
  ·rename_i i d h1 aj;rw[h1] at U;rw[aj] at hw;split at h
   ·rename_i u kt vt es cO hO;split at h
    ·rename_i bs v1 bC v2 ao hu;split at h
     ·rename_i dn;obtain ⟨rfl,rfl,rfl,rfl⟩:=dn;split at h
      ·rename_i ep TZ;split at h
       ·rename_i a b aq aa;exact Xx (.inl ai) ao hu aw hO U.1 ag hw aq aa h
       ·cases h
      ·cases h
     ·cases h
    ·cases h
   ·cases h
  ·cases h
 |insert t x y w=>
  have U:=aT x;have ag:=aT y;have hw:=aT w;simp only[gd] at h;split at h
  ·rename_i i d h1 aj;rw[h1] at U;rw[aj] at hw;split at h
   ·rename_i u kt vt es cO hO;split at h
    ·rename_i bs v1 bC v2 ao hu;split at h
     ·rename_i dn;obtain ⟨rfl,rfl,rfl,rfl⟩:=dn;split at h
      ·rename_i ep TZ;split at h
       ·rename_i a b aq aa;exact Xx (.inr ai) ao hu aw hO U.1 ag hw aq aa h
       ·cases h
      ·cases h
     ·cases h
    ·cases h
   ·cases h
  ·cases h
 |call c=>exact afD bW ai aw aT h
 |_=>simp[gd] at h
end
end Go.aS
end
