import Derived.MapKept
import Derived.Laws.StructEq
import Derived.Below
import Derived.Deep.Slices
import Derived.Test.YtmkfilkddlfgjaaGreatMa
set_option linter.unusedSimpArgs false
set_option linter.unusedVariables false
open Array renaming ext'->ar6,getElem?_eq_some_iff->ar2,getElem?_toList->asZ,toList_map->asF
open Bool renaming and_eq_true->aq5,eq_iff_iff->arV,false_or->arS,not_true->ass,false->aqT,true->aqQ
open Classical renaming propDecidable->arR
open Go renaming IntKind->aqW,Operand->aqX,Program->aqV,TypeId->aqY,Value->aqR
open Go.DataW renaming trod->atK
open Go.Instr renaming checkKey->aso,findAsking->auh,findNow->atI,sameBits->atj
open Go.MapKept renaming IsKey->atH
open Go.Op renaming equalIn->as5
open Go.Program renaming cellsOf->arY
open Go.Region renaming before->arF
open Go.Result renaming andThen_ok->arh
open Go.Sem renaming run_bind->arl,run_pure->ary
open Go.Value renaming cells->atg,int->asG,okWide->at4,slice->asi
open Int renaming eq_ofNat_of_zero_le->arw,toNat_natCast->arZ
open List renaming all_cons->arL,all_eq_true->aq8,append_assoc->asM,append_nil->asN,eq_nil_of_length_eq_zero->asr,ext_getElem?->asw,flatMap_cons->ash,flatten_cons->atc,getElem?_append->atw,getElem?_append_left->arf,getElem?_append_right->are,getElem?_drop->ar0,getElem?_eq_getElem->ars,getElem?_eq_none->asP,getElem?_eq_some_iff->aqZ,getElem?_map->arB,getElem?_range->as2,getElem?_set->arp,getElem?_set_ne->asK,getElem?_take->arD,length_append->ari,length_cons->arr,length_drop->ar4,length_nil->asR,length_replicate->asI,length_set->asb,length_take->arA,map_cons->arG,mem_cons->aq6,mem_cons_of_mem->ard,mem_cons_self->arn,mem_map->aq',mem_of_getElem?->aq7,mem_range->ar5,nil_append->asj,range->arI,replicate->arq,replicate_succ->aug,singleton_append->atJ
open Nat renaming add_assoc->arx,add_mul->arm,add_zero->arC,beq->aq9,ble->art,blt->asm,eq_of_beq_eq_true->aru,eq_zero_or_pos->atz,le_of_ble_eq_true->asa,le_refl->aq3,le_trans->arj,lt_of_lt_of_le->aro,lt_succ_self->arP,mul_le_mul->atF,mul_le_mul_right->ar9,one_mul->asp,succ_mul->at3,zero_add->ara,zero_mul->ar8
open Option renaming bind->aqU,getD_some->asg,some->ark,none->aqS,some->aqP
open Std.Legacy.Range renaming forIn_eq_forIn_range'->aut,size->auu
open True renaming intro->arb
open UInt8 renaming ofNat->asL,toNat->asc
section
namespace Go.aS
def ma:Nat:=4294967296
def dR {ap:Type} (xs bk:List ap):Option (List ap):=if xs.length+bk.length<=ma then aqP (xs++bk) else aqS
theorem r6 {ap:Type} {xs bk r:List ap} (h:dR xs bk=aqP r):xs.length+bk.length<=ma/\r=xs++bk:=by
 unfold dR at h;split at h
 ·cases h;exact ⟨‹_›,rfl⟩
 ·cases h
def kO {ap:Type} (x:ap) (n:Int):Option (List ap):=if 0<=n/\n<=4294967296 then aqP (arq n.toNat x) else aqS
theorem CH {ap:Type} {x:ap} {n:Int} {r:List ap} (h:kO x n=aqP r):0<=n/\n<=4294967296/\r=arq n.toNat x:=by
 unfold kO at h;split at h
 ·rename_i ab;cases h;exact ⟨ab.1,ab.2,rfl⟩
 ·cases h
def ov (n:Int):Option UInt8:=if 0<=n/\n<256 then aqP (asL n.toNat) else aqS
theorem WW {n:Int} {u:UInt8} (h:ov n=aqP u):n=u.toNat:=by
 unfold ov at h;split at h
 ·rename_i ab;cases h;simp;omega
 ·cases h
def x8 (a b:Int):Option Int:=if b=0 then aqS else aqP (a.tdiv b)
def rZ (a b:Int):Option Int:=if b=0 then aqS else aqP (a.tmod b)
theorem afa {a b r:Int} (h:x8 a b=aqP r):b≠0/\r=a.tdiv b:=by
 unfold x8 at h;split at h
 ·cases h
 ·cases h;exact ⟨‹_›,rfl⟩
theorem afN {a b r:Int} (h:rZ a b=aqP r):b≠0/\r=a.tmod b:=by
 unfold rZ at h;split at h
 ·cases h
 ·cases h;exact ⟨‹_›,rfl⟩
def lt {ap bx:Type} (x:ap) (f:ap->Option bx):Option bx:=f x
theorem Yb {ap bx:Type} {x:ap} {f:ap->Option bx} {r:bx} (h:lt x f=aqP r):∃y,x=y/\f y=aqP r:=⟨x,rfl,h⟩
theorem bind_some {ap bx:Type} {x:Option ap} {f:ap->Option bx} {r:bx} (h:x.bind f=aqP r):∃y,x=aqP y/\f y=aqP r:=Option.bind_eq_some_iff.1 h
def kd (t:aqY):cf UInt8:=cf.flat t (fun u=> .int .u8 u.toNat) fun _=>rfl
section
variable {P:aqV} {C:FuncId->Array aqR->Mem->aqR->Mem->Prop} {af:aqX->aqR} {o:Oper} {ap:Type} {T:cf ap} {z:Nat->a6} {m:Mem} {xs bk:List ap} {v w:aqR} {x y:aqX} {t e u:aqY} {i:TypeInfo} {d:TypeDesc}
def Src (T:cf ap) (z:Nat->a6) (m:Mem) (bk:List ap) (w:aqR):Prop:=
 gS w=bk.length/\∃cs,b4 m T.a1 w=aqP cs/\cs.length=bk.length*T.a1/\∀(i:Nat) (y:ap),bk[i]? =aqP y->∃c,T.rd z y c/\p3 cs (i*T.a1) c
theorem Yh {m:Mem} {b:Nat}:∀(n off:Nat) (f:Nat->aqR),(∀i,i<n->m.load b (off+i)=aqP (f i))->jz m b off n=aqP ((arI n).map f)
 |0,off,f,_=>rfl
 |n+1,off,f,h=>by
  have aI:=h 0 (by omega);have a8:=Yh n (off+1) (fun i=>f (i+1)) fun i ae=>by rw[show off+1+i=off+(i+1) by omega];exact h (i+1) (by omega)
  simp only[arC] at aI;simp only[jz,aI,a8,List.range_succ_eq_map,arG,List.map_map];rfl
theorem Pr {b off c:Nat} (h:∀(i:Nat) (y:ap),bk[i]? =aqP y->∃cs,T.rd z y cs/\∀(k:Nat) (u:aqR),cs[k]? =aqP u->m.load b (off+i*T.a1+k)=aqP u):Src T z m bk (.slice (aqP ⟨b,off,aqS⟩) bk.length c):=by
 have acn:∀k,k<bk.length*T.a1->∃u,m.load b (off+k)=aqP u:=by
  intro k hk;have dS:0<T.a1:=by
   rcases atz T.a1 with aI|aI
   ·rw[aI] at hk;omega
   ·exact aI
  have aK:k / T.a1<bk.length:=Nat.div_lt_of_lt_mul (by rw[Nat.mul_comm];exact hk);obtain ⟨cs,h1,J⟩:=h (k / T.a1) bk[k / T.a1] (by simp[aK]);have hlen:=T.len z _ cs h1;have aw:k%T.a1<cs.length:=by rw[hlen];exact Nat.mod_lt _ dS
  refine ⟨cs[k%T.a1], ?_⟩;have:=J (k%T.a1) _ (ars aw);rw[arx,Nat.mul_comm,Nat.div_add_mod] at this;exact this
 let f:Nat->aqR:=fun k=>(m.load b (off+k)).getD undef
 have aP:∀k,k<bk.length*T.a1->m.load b (off+k)=aqP (f k):=fun k hk=>by obtain ⟨u,hu⟩:=acn k hk;simp[f,hu]
 refine ⟨rfl,(arI (bk.length*T.a1)).map f,Yh _ _ _ aP,by simp,fun i y ag=> ?_⟩;obtain ⟨cs,h1,J⟩:=h i y ag;refine ⟨cs,h1,fun k u hk=> ?_⟩;have nb:=(aqZ.1 hk).1;rw[T.len z y cs h1] at nb;have iC:=(aqZ.1 ag).1;have aN:i*T.a1+k<bk.length*T.a1:=by have:(i+1)*T.a1<=bk.length*T.a1:=ar9 _ iC;rw[arm,asp] at this;omega
 have:=J k u hk;rw[arx,aP _ aN] at this;rw[arB,as2 aN];simpa using this
theorem ev.src (h:ev T z bk w) (aE:jW z m):Src T z m bk w:=by
 rcases h with ⟨rfl,rfl⟩|⟨b,off,c,rfl,_,_,aM⟩
 ·exact ⟨rfl,[],rfl,by simp,fun i y ag=>by simp at ag⟩
 ·exact Pr fun i y ag=>by obtain ⟨cs,g1,g2⟩:=aM i y ag;exact ⟨cs,g1,fun k u hk=>Xy aE (g2 k u hk)⟩
theorem eI.src (h:eI T z m bk w):Src T z m bk w:=by
 rcases h with ⟨rfl,rfl⟩|⟨b,f0,L,c,rfl,aa,_,_,_,_,aM⟩
 ·exact ⟨rfl,[],rfl,by simp,fun i y ag=>by simp at ag⟩
 ·exact Pr fun i y ag=>by obtain ⟨cs,g1,g2⟩:=aM i y ag;exact ⟨cs,g1,fun k u hk=>by simp only[Mem.load,aa];exact g2 k u hk⟩
theorem e1.kill {b:Nat} {X:a6} (aB:∀b,m.next<=b->m.aH b= .dead) (aa:b<m.next):e1 m ((m.put b .dead).push X) (aqP b):=by
 have h1:=CM (m:=m) (x:= .dead) aB aa;refine ⟨Nat.le_succ _,fun c ab=> ?_,fun c ab hk=> ?_⟩
 ·have e:((m.put b .dead).push X).aH c=if c=m.next then X else (if c=b then .dead else m.aH c):=rfl
  have ab:m.next+1<=c:=ab;rw[e,if_neg (by omega)];split
  ·rfl
  ·exact aB c (by omega)
 ·have e:((m.put b .dead).push X).aH c=if c=m.next then X else (if c=b then .dead else m.aH c):=rfl
  rw[e,if_neg (by omega),if_neg (fun h=>hk (by rw[h]))]
theorem W4 {cs:List aqR} (h:o.op= .call {callee:= .builtin .append,args:=#[x,y],argTypes:=#[t,u]}) (ao:P.underlying t=aqP (.slice T.tid)) (ae:P.info? T.tid=aqP i) {b8:aqR} (hg:i.zero=aqP b8) (cg:b8.cells.toList.all cv=aqQ) (dp:b8.cells.size=i.size)
  (bC:i.size=T.a1) (dS:0<T.a1) (LU:(xs.length+bk.length)*i.bytes<=140737488355328) (kM:xs.length+bk.length<=140737488355328) (U:af x=v) (az:eI T z m xs v) (ey:u0 P m u i (af y) bk.length cs) (hU:cs.length=bk.length*T.a1) (dE:∀(i:Nat) (y:ap),bk[i]? =aqP y->∃c,T.rd z y c/\p3 cs (i*T.a1) c)
  (aE:jW z m) (aB:∀b,m.next<=b->m.aH b= .dead):
  ∃bl m',gE P C af o m bl m'/\eI T z m' (xs++bk) bl/\e1 m m' (cn v)/\∀b,cn bl=aqP b->cn v=aqP b\/m.next<=b:=by
 have LV:=LU;have Mg:xs.length+bk.length<9223372036854775807:=by omega
 have yl:cs.length=bk.length*i.size:=by rw[bC];exact hU
 have pN:z m.next= .dead:=by
  cases fZ:z m.next with
  |dead=>rfl
  |ro rd=>have:=(aE m.next (by rw[fZ];simp)).2;omega
  |own L t=>have:=(aE m.next (by rw[fZ];simp)).2;omega
  |map L t=>have:=(aE m.next (by rw[fZ];simp)).2;omega
  |lock _ _ _ _=>have:=(aE m.next (by rw[fZ];simp)).2;omega
 have join:∀(dg:List aqR),dg.length=xs.length*T.a1->(∀(i:Nat) (x:ap),xs[i]? =aqP x->∃c,T.rd z x c/\p3 dg (i*T.a1) c)->
   ∀(i:Nat) (x:ap),(xs++bk)[i]? =aqP x->∃c,T.rd z x c/\p3 (dg++cs) (i*T.a1) c:=by
  intro dg jO ah i a au;rw[atw] at au;split at au
  ·rename_i aN;obtain ⟨c,g1,g2⟩:=ah i a au;refine ⟨c,g1,fun k q hk=> ?_⟩;have:=g2 k q hk;rw[arf (aqZ.1 this).1];exact this
  ·rename_i e4;obtain ⟨c,g1,g2⟩:=dE _ a au;refine ⟨c,g1,fun k q hk=> ?_⟩;have:=g2 k q hk;have h1:i*T.a1=dg.length+(i - xs.length)*T.a1:=by
    rw[jO,<-arm];congr 1;omega
   rw[h1,arx,are (by omega),Nat.add_sub_cancel_left];exact this
 rcases az with ⟨rfl,rfl⟩|⟨b,f0,L,c,rfl,aa,aN,adB,ai,jZ,ac1⟩
 ·by_cases n2:bk.length=0
  ·have abQ:cs=[]:=asr (by rw[hU,n2,ar8]);have adz:bk=[]:=asr n2;subst adz;subst abQ;refine ⟨af x,m, .vf x y t u T.tid i aqS 0 0 h ao ae U (by simp[dr]) (aq3 _) ey, ?_,⟨aq3 _,aB,fun _ _ _=>rfl⟩, ?_⟩
   ·rw[U];exact .inl ⟨rfl,rfl⟩
   ·intro b aa;rw[U] at aa;cases aa
  ·refine ⟨_,_, .rv x y t u T.tid i b8 aqS 0 0 bk.length [] cs h ao ae hg cg dp (by rw[bC];exact dS) U (by omega) (by rw[U];rfl) (by simp) ey yl (by simpa using LV) (by simpa using Mg), ?_,Cx aB, ?_⟩
   ·refine .inr ⟨m.next,0,cs,dr,by simp,by simp[Mem.push],by simp[Mem.push],pN,by simp[hU], .inl rfl, ?_⟩;have:=join [] (by simp) (fun i x U=>by simp at U);simpa using this
   ·intro b aa;cases aa;exact .inr (aq3 _)
 ·have Mt:∀(i:Nat) (x:ap),xs[i]? =aqP x->∃c,T.rd z x c/\p3 ((L.drop f0).take (xs.length*T.a1)) (i*T.a1) c:=by
   intro k a au;obtain ⟨c,g1,g2⟩:=ac1 k a au;refine ⟨c,g1,fun q dG aK=> ?_⟩;have yB:=(aqZ.1 aK).1;rw[T.len z a c g1] at yB;have nb:=(aqZ.1 au).1;have:(k+1)*T.a1<=xs.length*T.a1:=ar9 _ nb;rw[arm,asp] at this;rw[arD,if_pos (by omega),ar0,<-arx];exact g2 q dG aK
  have lR:((L.drop f0).take (xs.length*T.a1)).length=xs.length*T.a1:=by rw[arA,ar4];omega
  rcases jZ with rfl|⟨Ua,abH,yk⟩
  ·refine ⟨_,_, .append x y t u T.tid i b8 b f0 xs.length bk.length L cs h ao ae hg cg dp (by rw[bC];exact dS) U aa (by rw[bC];exact ai) ey yl LV Mg, ?_,e1.kill aB aN, ?_⟩
   ·refine .inr ⟨m.next,0,(L.drop f0).take (xs.length*T.a1)++cs,dr,by simp,by simp[Mem.push,Mem.put,bC],by simp[Mem.push,Mem.put],pN, ?_, .inl rfl, ?_⟩
    ·rw[ari,ari,lR,hU,arm,ara];exact aq3 _
    ·simpa using join _ lR Mt
   ·intro b2 ct;cases ct;exact .inr (aq3 _)
  ·by_cases qB:xs.length+bk.length<=c
   ·have yf:f0+(xs.length+bk.length)*i.size<=L.length:=by
     rw[bC];exact arj (Nat.add_le_add_left (ar9 _ qB) _) yk
    refine ⟨_,_, .x3 x y t u T.tid i b f0 xs.length c bk.length L cs h ao ae U (by simp only[dr] at Ua⊢;omega) qB aa ey yl yf, ?_,CM aB aN,fun b2 ct=> .inl ct⟩;have jQ:(eT L (f0+xs.length*i.size) cs).length=L.length:=o8 _ _ _;refine .inr ⟨b,f0,eT L (f0+xs.length*i.size) cs,c,by simp,by simp[Mem.put],aN,adB, ?_, .inr ⟨Ua, ?_, ?_⟩, ?_⟩
    ·rw[jQ];rw[bC] at yf;simpa using yf
    ·simpa using qB
    ·rw[jQ];exact yk
    ·intro k a au;obtain ⟨bP,g1,g2⟩:=join _ lR Mt k a au;refine ⟨bP,g1,fun q dG aK=> ?_⟩;have:=g2 q dG aK;have Uw:=(aqZ.1 this).1;rw[ari,lR,hU] at Uw;rw[bC,arm] at yf;rw[bC,oj _ _ _ _ (by rw[hU];omega)];rw[atw,lR] at this;split at this
     ·rename_i acq;rw[if_neg (by omega)];rw[arD,if_pos acq,ar0,<-arx] at this;exact this
     ·rw[if_pos (by omega),show f0+k*T.a1+q - (f0+xs.length*T.a1)=k*T.a1+q - xs.length*T.a1 by omega];exact this
   ·have abU:b4 m i.size (af x)=aqP ((L.drop f0).take (xs.length*T.a1)):=by
     rw[U,bC];simp only[b4];refine Hb _ _ _ lR fun k q hk=> ?_;rw[arD] at hk;split at hk
     ·rw[ar0] at hk;simp only[Mem.load,aa];exact hk
     ·cases hk
    refine ⟨_,_, .rv x y t u T.tid i b8 _ xs.length c bk.length ((L.drop f0).take (xs.length*T.a1)) cs h ao ae hg cg dp (by rw[bC];exact dS) U (by omega) abU (by rw[lR,bC]) ey yl LV Mg, ?_, ?_, ?_⟩
    ·refine .inr ⟨m.next,0,(L.drop f0).take (xs.length*T.a1)++cs,dr,by simp,by simp[Mem.push],by simp[Mem.push],pN, ?_, .inl rfl,by simpa using join _ lR Mt⟩;rw[ari,ari,lR,hU,arm,ara];exact aq3 _
    ·have:=Cx (m:=m) (x:= .own ((L.drop f0).take (xs.length*T.a1)++cs) T.tid) aB;exact ⟨this.next,this.dead,fun c ab _=>this.aH c ab (by simp)⟩
    ·intro b2 ct;cases ct;exact .inr (aq3 _)
theorem af2 (h:o.op= .call {callee:= .builtin .append,args:=#[x,y],argTypes:=#[t,u]}) (ao:P.underlying t=aqP (.slice T.tid)) (ae:P.info? T.tid=aqP i) {b8:aqR} (hg:i.zero=aqP b8) (cg:b8.cells.toList.all cv=aqQ) (dp:b8.cells.size=i.size)
  (bC:i.size=T.a1) (dS:0<T.a1) (LU:(xs.length+bk.length)*i.bytes<=140737488355328) (kM:xs.length+bk.length<=140737488355328) (hu:(∃bw,P.underlying u=aqP (.slice bw))\/P.underlying u=aqP .string) (U:af x=v) (az:eI T z m xs v) (ag:af y=w) (lf:Src T z m bk w)
  (aE:jW z m) (aB:∀b,m.next<=b->m.aH b= .dead):
  ∃bl m',gE P C af o m bl m'/\eI T z m' (xs++bk) bl/\e1 m m' (cn v)/\∀b,cn bl=aqP b->cn v=aqP b\/m.next<=b:=by
 obtain ⟨hlen,cs,hZ,hU,dE⟩:=lf;exact W4 h ao ae hg cg dp bC dS LU kM U az (.el hu (by rw[ag];exact hlen) (by rw[ag,bC];exact hZ)) hU dE aE aB
theorem am3 {x0:ap} {b8:aqR} (dE:T.rd z x0 b8.cells.toList) (c:Nat):(arq c b8.cells.toList).flatten.length=(arq c x0).length*T.a1/\
  ∀(i:Nat) (y:ap),(arq c x0)[i]? =aqP y->∃d,T.rd z y d/\p3 (arq c b8.cells.toList).flatten (i*T.a1) d:=by
 have hlen:b8.cells.toList.length=T.a1:=T.len z x0 _ dE;refine ⟨by rw[List.length_flatten];simp[hlen],fun j a au=> ?_⟩;have ar:=(aqZ.1 au).1;have LO:a=x0:=by have:=(aqZ.1 au).2;simpa using this.symm
 subst LO;refine ⟨_,dE,fun q u aK=> ?_⟩;have yB:=(aqZ.1 aK).1;rw[hlen] at yB;have key:∀(c j:Nat),j<c->((arq c b8.cells.toList).flatten)[j*T.a1+q]? =b8.cells.toList[q]? :=by
  intro c;induction c with
  |zero=>intro j ar;omega
  |succ c a8=>
   intro j ar;rw[aug,atc];cases j with
   |zero=>rw[ar8,ara,arf (by omega)]
   |succ j=>rw[are (by rw[hlen,at3];omega),hlen,at3,show j*T.a1+T.a1+q - T.a1=j*T.a1+q by omega];exact a8 j (by omega)
 rw[key c j (by simpa using ar)];exact aK
theorem af3 {x0:ap} {kk k:aqW} {c:Nat} (h:o.op= .call {callee:= .builtin .append,args:=#[x,y],argTypes:=#[t,u]}) (ao:P.underlying t=aqP (.slice T.tid)) (ae:P.info? T.tid=aqP i) {b8:aqR} (hg:i.zero=aqP b8) (cg:b8.cells.toList.all cv=aqQ) (dp:b8.cells.size=i.size)
  (bC:i.size=T.a1) (dS:0<T.a1) (fX:i.bytes<=32768) (hu:P.underlying u=aqP (.int kk)) (U:af x=v) (az:eI T z m xs v) (ag:af y= .int k c) (dE:T.rd z x0 b8.cells.toList)
  (aE:jW z m) (aB:∀b,m.next<=b->m.aH b= .dead) {r:List ap} (aw:dR xs (arq c x0)=aqP r):
  ∃bl m',gE P C af o m bl m'/\eI T z m' r bl/\e1 m m' (cn v)/\∀b,cn bl=aqP b->cn v=aqP b\/m.next<=b:=by
 obtain ⟨kM,rfl⟩:=r6 aw;simp only[ma,asI] at kM;have h1:(xs.length+c)*i.bytes<=4294967296*32768:=atF kM fX;have J:c*i.bytes<=4294967296*32768:=atF (by omega) fX;obtain ⟨g1,g2⟩:=am3 (T:=T) (z:=z) dE c;exact W4 h ao ae hg cg dp bC dS (by rw[asI];omega) (by rw[asI];omega) U az
  (.mk kk k b8 hu (by rw[ag,asI]) hg cg dp (by omega) (by rw[asI];omega) (by rw[asI];omega) (by rw[asI])) g1 g2 aE aB
theorem ahd (h:o.op= .call {callee:= .builtin .append,args:=#[x,y],argTypes:=#[t,u]}) (ao:P.underlying t=aqP (.slice T.tid)) (ae:P.info? T.tid=aqP i) {b8:aqR} (hg:i.zero=aqP b8) (cg:b8.cells.toList.all cv=aqQ) (dp:b8.cells.size=i.size)
  (bC:i.size=T.a1) (dS:0<T.a1) (fX:i.bytes<=32768) (hu:(∃bw,P.underlying u=aqP (.slice bw))\/P.underlying u=aqP .string) (U:af x=v) (az:eI T z m xs v) (ag:af y=w) (lf:Src T z m bk w)
  (aE:jW z m) (aB:∀b,m.next<=b->m.aH b= .dead) {r:List ap} (aw:dR xs bk=aqP r):
  ∃bl m',gE P C af o m bl m'/\eI T z m' r bl/\e1 m m' (cn v)/\∀b,cn bl=aqP b->cn v=aqP b\/m.next<=b:=by
 obtain ⟨kM,rfl⟩:=r6 aw;simp only[ma] at kM;have:(xs.length+bk.length)*i.bytes<=4294967296*32768:=atF kM fX;exact af2 h ao ae hg cg dp bC dS (by omega) (by omega) hu U az ag lf aE aB
theorem am4 {x0:ap} {k dc:aqW} {n n':Int} (h:o.op= .makeSlice t x y) (ao:P.underlying t=aqP (.slice T.tid)) (ae:P.info? T.tid=aqP i) {b8:aqR} (hg:i.zero=aqP b8) (cg:b8.cells.toList.all cv=aqQ) (dp:b8.cells.size=i.size) (bC:i.size=T.a1) (fX:i.bytes<=32768)
  (dE:T.rd z x0 b8.cells.toList) (U:af x= .int k n) (ag:af y= .int dc n) (aE:jW z m) {r:List ap} (aw:kO x0 n=aqP r):
  ∃L v,hW P af o m.next (.own L T.tid) v/\eI T z (m.push (.own L T.tid)) r v/\cn v=aqP m.next:=by
 obtain ⟨aI,h1,rfl⟩:=CH aw;obtain ⟨c,rfl⟩:=arw aI;have pN:z m.next= .dead:=by
  cases fZ:z m.next with
  |dead=>rfl
  |ro rd=>have:=(aE m.next (by rw[fZ];simp)).2;omega
  |own L t=>have:=(aE m.next (by rw[fZ];simp)).2;omega
  |map L t=>have:=(aE m.next (by rw[fZ];simp)).2;omega
  |lock _ _ _ _=>have:=(aE m.next (by rw[fZ];simp)).2;omega
 have hlen:b8.cells.toList.length=T.a1:=by simp[dp,bC]
 have hc:(arq c b8.cells.toList).flatten.length=c*T.a1:=by simp[dp,bC]
 refine ⟨_,_, .makeSlice t x y c c k dc T.tid i b8 h ao ae hg cg dp U ag (aq3 _) ?_ (by omega), ?_,rfl⟩
 ·have:i.bytes*c<=32768*4294967296:=atF fX (by omega);omega
 ·simp only[arZ];refine eI.AY ⟨m.next,(arq c b8.cells.toList).flatten,c,by simp,by simp[Mem.push],by simp[Mem.push],pN,by rw[hc];simp, .inr ⟨by simp[dr];omega,by simp,by rw[hc];exact aq3 _⟩,fun j a au=> ?_⟩;have ar:=(aqZ.1 au).1;have LO:a=x0:=by have:=(aqZ.1 au).2;simpa using this.symm
  subst LO;refine ⟨_,dE,fun q u aK=> ?_⟩;have yB:=(aqZ.1 aK).1;rw[hlen] at yB;have key:∀(c j:Nat),j<c->((arq c b8.cells.toList).flatten)[j*T.a1+q]? =b8.cells.toList[q]? :=by
   intro c;induction c with
   |zero=>intro j ar;omega
   |succ c a8=>
    intro j ar;rw[aug,atc];cases j with
    |zero=>rw[ar8,ara,arf (by rw[hlen];exact yB)]
    |succ j=>rw[arm,asp,are (by rw[hlen];omega),hlen,show j*T.a1+T.a1+q - T.a1=j*T.a1+q by omega];exact a8 j (by omega)
  rw[key c j (by simpa using ar)];exact aK
def wy (T:cf ap) (z:Nat->a6) (af:aqX->aqR):List (Nat×aqX)->Nat->List ap->List (List aqR)->Prop
 |[],_,[],[]=>True
 |(k,x)::bK,n,a::as,c::cs=>k=n/\storable (af x)=aqQ/\(af x).cells.toList=c/\T.rd z a c/\wy T z af bK (n+1) as cs
 |_,_,_,_=>False
theorem Xj:∀(new A B D:List aqR),new.length=B.length->eT (A++B++D) A.length new=A++new++D
 |[],A,B,D,h=>by have:B=[]:=asr h.symm;subst this;simp[eT]
 |v::new,A,b::B,D,h=>by
  have e:(A++(b::B)++D).set A.length v=(A++[v])++B++D:=by simp
  simp only[eT,e];have:=Xj new (A++[v]) B D (by simpa using h);simp only[ari,arr,asR,ara] at this;rw[this];simp
 |_::_,A,[],D,h=>by simp at h
theorem Wk:∀(bK:List (Nat×aqX)) (n:Nat) (as:List ap) (ib:List (List aqR)) (A D:List aqR),wy T z af bK n as ib->A.length=n*T.a1->D.length=as.length*T.a1->
  jw (fun k=>aqP (k*T.a1,T.a1)) (A++D) (bK.map fun p=>(p.1,af p.2))=aqP (A++ib.flatten)
 |[],n,[],[],A,D,_,_,dK=>by have:D=[]:=asr (by simpa using dK);subst this;simp[jw]
 |(k,x)::bK,n,a::as,c::ib,A,D,h,ey,dK=>by
  obtain ⟨rfl,h1,J,aj,aM⟩:=h;have ab:=T.len z a c aj;have bC:(af x).cells.size=T.a1:=by rw[<-ab,<-J];simp
  simp only[arr,arm,asp] at dK;simp only[arG,jw,h1,bC,true_and,ari];rw[if_pos (by omega),J,<-ey];have MA:A++D=A++D.take T.a1++D.drop T.a1:=by rw[asM,List.take_append_drop]
  rw[MA,Xj c A (D.take T.a1) (D.drop T.a1) (by rw[ab,arA];omega)];rw[Wk bK (k+1) as ib (A++c) (D.drop T.a1) aM (by rw[ari,ey,ab,arm,asp]) (by rw[ar4];omega)];simp
 |[],_,_::_,_,_,_,h,_,_=>h.elim
 |[],_,[],_::_,_,_,h,_,_=>h.elim
 |_::_,_,[],_,_,_,h,_,_=>h.elim
 |_::_,_,_::_,[],_,_,h,_,_=>h.elim
theorem Wv:∀(bK:List (Nat×aqX)) (n:Nat) (as:List ap) (ib:List (List aqR)),wy T z af bK n as ib->ib.flatten.length=as.length*T.a1/\∀(i:Nat) (a:ap),as[i]? =aqP a->∃c,T.rd z a c/\p3 ib.flatten (i*T.a1) c
 |[],n,[],[],_=>⟨by simp,fun i a au=>by simp at au⟩
 |(k,x)::bK,n,a::as,c::ib,h=>by
  obtain ⟨rfl,h1,J,aj,aM⟩:=h;have ab:=T.len z a c aj;obtain ⟨g1,g2⟩:=Wv bK (k+1) as ib aM;refine ⟨by simp only[atc,ari,g1,ab,arr,arm,asp];omega,fun i b aa=> ?_⟩;cases i with
  |zero=>simp at aa;subst aa;refine ⟨c,aj,fun q u aK=> ?_⟩;have:=(aqZ.1 aK).1;rw[atc,ar8,ara,arf this];exact aK
  |succ i=>obtain ⟨bP,bt,bE⟩:=g2 i b (by simpa using aa);refine ⟨bP,bt,fun q u aK=> ?_⟩;rw[atc,arm,asp,are (by omega),ab,show i*T.a1+T.a1+q - T.a1=i*T.a1+q by omega];exact bE q u aK
 |[],_,_::_,_,h=>h.elim
 |[],_,[],_::_,h=>h.elim
 |_::_,_,[],_,h=>h.elim
 |_::_,_,_::_,[],h=>h.elim
theorem aid {bK:Array (Nat×aqX)} {l:Nat} {as:List ap} {ib:List (List aqR)} (h:o.op= .buildSlice t l bK) (ao:P.underlying t=aqP (.slice T.tid)) (ae:P.info? T.tid=aqP i) {b8:aqR} (hg:i.zero=aqP b8) (cg:b8.cells.toList.all cv=aqQ) (dp:b8.cells.size=i.size) (bC:i.size=T.a1)
  (ai:as.length=l) (rE:l*T.a1<=16777216) (rN:l<9223372036854775808) (aa:wy T z af bK.toList 0 as ib) (aE:jW z m):
  ∃L v,hW P af o m.next (.own L T.tid) v/\eI T z (m.push (.own L T.tid)) as v/\cn v=aqP m.next:=by
 have pN:z m.next= .dead:=by
  cases fZ:z m.next with
  |dead=>rfl
  |ro rd=>have:=(aE m.next (by rw[fZ];simp)).2;omega
  |own L t=>have:=(aE m.next (by rw[fZ];simp)).2;omega
  |map L t=>have:=(aE m.next (by rw[fZ];simp)).2;omega
  |lock _ _ _ _=>have:=(aE m.next (by rw[fZ];simp)).2;omega
 have aP:=Wk bK.toList 0 as ib [] (arq l b8.cells.toList).flatten aa (by simp) (by simp[dp,bC,ai]);obtain ⟨g1,g2⟩:=Wv bK.toList 0 as ib aa;refine ⟨ib.flatten,_, .buildSlice t l bK T.tid i b8 _ h ao ae hg cg dp (by rw[bC];exact rE) rN (by rw[bC];simpa using aP), ?_,rfl⟩;exact eI.AY ⟨m.next,ib.flatten,l,by rw[ai],by simp[Mem.push],by simp[Mem.push],pN,by rw[g1];exact aq3 _, .inr ⟨by simp only[dr];omega,by omega,by rw[g1,ai];exact aq3 _⟩,g2⟩
theorem aie {s:List UInt8} {tid:aqY} (h:o.op= .convert u t x) (hu:P.underlying u=aqP .string) (ao:P.underlying t=aqP (.slice tid)) (he:P.underlying tid=aqP (.int .u8)) (ae:P.info? tid=aqP i) (hd:i.size=1) (U:af x=str s) (ai:s.length<9223372036854775807) (aE:jW z m):
  ∃L v,hW P af o m.next (.own L tid) v/\eI (kd tid) z (m.push (.own L tid)) s v/\cn v=aqP m.next:=by
 have pN:z m.next= .dead:=by
  cases fZ:z m.next with
  |dead=>rfl
  |ro rd=>have:=(aE m.next (by rw[fZ];simp)).2;omega
  |own L t=>have:=(aE m.next (by rw[fZ];simp)).2;omega
  |map L t=>have:=(aE m.next (by rw[fZ];simp)).2;omega
  |lock _ _ _ _=>have:=(aE m.next (by rw[fZ];simp)).2;omega
 refine ⟨_,_, .bytes u t x tid i ⟨s.toArray⟩ h hu ao he ae hd U (by rw[zf];exact ai), ?_,rfl⟩;refine eI.AY ⟨m.next,s.map fun u=> .int .u8 u.toNat,dr,by rw[zf],by simp[Mem.push,kd,cf.flat],by simp[Mem.push],pN,by simp[kd,cf.flat], .inl rfl,fun k a au=>⟨[.int .u8 a.toNat],rfl,fun q w aK=> ?_⟩⟩;cases q with
 |zero=>simp at aK;subst aK;simp[kd,cf.flat,au]
 |succ q=>simp at aK
theorem ZA {s:List UInt8} {tid:aqY} (h:o.op= .convert t u x) (ao:P.underlying t=aqP (.slice tid)) (he:P.underlying tid=aqP (.int .u8)) (hu:P.underlying u=aqP .string) (U:af x=v) (az:Src (kd tid) z m s v) (ad:∃a l c,v= .slice a l c):eS P af o m (str s):=by
 obtain ⟨a,l,c,rfl⟩:=ad;obtain ⟨ai,cs,hZ,hU,dE⟩:=az;have hC:cs=s.map fun u=> .int .u8 u.toNat:=by
  apply asw;intro k;by_cases hk:k<s.length
  ·obtain ⟨bP,g1,g2⟩:=dE k s[k] (by simp[hk]);have g1:bP=[.int .u8 s[k].toNat]:=g1;subst g1;have:=g2 0 _ rfl;simp only[kd,cf.flat,Nat.mul_one,arC] at this;simp[this,hk]
  ·have:cs.length<=k:=by rw[hU];simp only[kd,cf.flat];omega
   simp[asP this,hk]
 subst hC;simp only[gS] at ai;subst ai;cases a with
 |none=>
  simp only[b4,ark.injEq] at hZ;have:s=[]:=by simpa using hZ.symm
  subst this;exact .zW t u x tid _ c h ao he hu U
 |some a=>
  obtain ⟨b,off,spot⟩:=a;cases spot with
  |some q=>simp[b4] at hZ
  |none=>simp only[b4,kd,cf.flat,Nat.mul_one] at hZ;exact .str t u x tid b off _ c s h ao he hu U hZ
end
def oq:Op->Bool
 | .load .. | .convert .. | .slice .. | .lookup .. =>aqQ
 |_=>aqT
def ny:Op->Bool
 | .alloc _| .box .. | .buildSlice .. | .makeSlice .. | .convert .. | .makeMap .. =>aqQ
 |_=>aqT
def calm (ops:Array Oper):Bool:=
 (arI ops.size).all fun e=>match ops[e]? with
  |none=>aqQ
  |some vZ=> !iI vZ.op||(arI ops.size).all fun r=>match ops[r]? with
   |none=>aqQ
   |some or=>(!(oq or.op)||(if r<e then fe (arF ops) e r else if e<r then fe (arF ops) r e else aqQ))&&(!(ny or.op)||(if r<e then fe (arF ops) e r else aqQ))
theorem Gc {P:aqV} {af:aqX->aqR} {o:Oper} {m:Mem} {v:aqR} (h:eS P af o m v):oq o.op=aqQ:=by
 cases h<;>simp[*,oq]
theorem Cu {P:aqV} {af:aqX->aqR} {o:Oper} {n:Nat} {X:a6} {v:aqR} (h:hW P af o n X v):ny o.op=aqQ:=by
 cases h<;>simp[*,ny]
theorem Ww {ops:Array Oper} (h:calm ops=aqQ) {e r:Nat} {vZ or:Oper} (he:ops[e]? =aqP vZ) (aw:ops[r]? =aqP or) (aT:iI vZ.op=aqQ) (ai:oq or.op=aqQ):(r<e->fe (arF ops) e r=aqQ)/\(e<r->fe (arF ops) r e=aqQ):=by
 simp only[calm,aq8,ar5] at h;have h1:=h e (ar2.1 he).1;simp only[he,aT,ass,arS,aq8,ar5] at h1;have J:=h1 r (ar2.1 aw).1;simp only[aw,ai,ass,arS,aq5] at J;refine ⟨fun aN=> ?_,fun aN=> ?_⟩
 ·have:=J.1;rw[if_pos aN] at this;exact this
 ·have:=J.1;rw[if_neg (by omega),if_pos aN] at this;exact this
theorem ae8 {ops:Array Oper} (h:calm ops=aqQ) {e r:Nat} {vZ or:Oper} (he:ops[e]? =aqP vZ) (aw:ops[r]? =aqP or) (aT:iI vZ.op=aqQ) (ai:ny or.op=aqQ) (aN:r<e):fe (arF ops) e r=aqQ:=by
 simp only[calm,aq8,ar5] at h;have h1:=h e (ar2.1 he).1;simp only[he,aT,ass,arS,aq8,ar5] at h1;have J:=h1 r (ar2.1 aw).1;simp only[aw,ai,ass,arS,aq5] at J;have:=J.2;rw[if_pos aN] at this;exact this
theorem VO {P:aqV} {C:FuncId->Array aqR->Mem->aqR->Mem->Prop} {ops:Array Oper} (ab:calm ops=aqQ):∀(l pre:List Oper) (A:Acc) (fr fr':Nat->aqR) (m m':Mem),ops.toList=pre++l->
  (∀x∈A.reads,∃o,ops[x.1]? =aqP o/\oq o.op=aqQ/\x.1<pre.length)->(∀x∈A.gM,∃o,ops[x.1]? =aqP o/\iI o.op=aqQ/\x.1<pre.length)->(∀x∈A.news,∃o,ops[x.1]? =aqP o/\ny o.op=aqQ/\x.1<pre.length)->
  jU P C ops.toList l fr m fr' m'->gx P C ops.toList (arF ops) pre.length l A fr m fr' m'
 |[],pre,A,fr,fr',m,m',an,h1,J,aj,h=>h
 |o::l,pre,A,fr,fr',m,m',an,h1,J,aj,h=>by
  have ah:ops[pre.length]? =aqP o:=by rw[<-asZ,an];simp
  have mv:ops.toList=(pre++[o])++l:=by rw[an];simp
  have hlen:(pre++[o]).length=pre.length+1:=by simp
  have up:∀{bx:Type} {p:Oper->Bool} {L:List (Nat×bx)},(∀x∈L,∃o,ops[x.1]? =aqP o/\p o=aqQ/\x.1<pre.length)->∀x∈L,∃o,ops[x.1]? =aqP o/\p o=aqQ/\x.1<pre.length+1:=fun ax x U=>by obtain ⟨q,a,b,c⟩:=ax x U;exact ⟨q,a,b,by omega⟩
  have zQ:=fun (A:Acc) (fr:Nat->aqR) (m:Mem)=>VO (P:=P) (C:=C) ab l (pre++[o]) A fr fr' m m' mv;rw[hlen] at zQ;simp only[jU] at h;simp only[gx];split at h
  ·rename_i hw;rw[if_pos hw];obtain ⟨v,m1,az,aw⟩:=h;cases az with
   |pure aK=>exact .inl ⟨v,aK,zQ A _ _ (up (p:=fun o=>oq o.op) h1) (up (p:=fun o=>iI o.op) J) (up (p:=fun o=>ny o.op) aj) aw⟩
   |read aK=>
    have nc:=Gc aK;refine .inr (.inl ⟨v,aK,fun x U au=> ?_,zQ _ _ _ ?_ (up (p:=fun o=>iI o.op) J) (up (p:=fun o=>ny o.op) aj) aw⟩)
    ·obtain ⟨q,g1,g2,g3⟩:=J x U;have:=(Ww ab g1 ah g2 nc).2 g3;rw[au] at this;cases this
    ·intro x U;rcases aq6.1 U with rfl|U
     ·exact ⟨o,ah,nc,arP _⟩
     ·exact up (p:=fun o=>oq o.op) h1 x U
   |new aK=>
    refine .inr (.inr (.inl ⟨_,v,aK,zQ _ _ _ (up (p:=fun o=>oq o.op) h1) (up (p:=fun o=>iI o.op) J) ?_ aw⟩));intro x U;rcases aq6.1 U with rfl|U
    ·exact ⟨o,ah,Cu aK,arP _⟩
    ·exact up (p:=fun o=>ny o.op) aj x U
   |e3 aK=>
    have mZ:=NN aK;refine .inr (.inr (.inr ⟨v,m1,aK,fun x U au=> ?_,fun x U au=> ?_,zQ _ _ _ (up (p:=fun o=>oq o.op) h1) ?_ (up (p:=fun o=>ny o.op) aj) aw⟩))
    ·obtain ⟨q,g1,g2,g3⟩:=h1 x U;have:=(Ww ab ah g1 mZ g2).1 g3;rw[au] at this;cases this
    ·obtain ⟨q,g1,g2,g3⟩:=aj x U;have:=ae8 ab ah g1 mZ g2 g3;rw[au] at this;cases this
    ·intro x U;rcases aq6.1 U with rfl|U
     ·exact ⟨o,ah,mZ,arP _⟩
     ·exact up (p:=fun o=>iI o.op) J x U
  ·rename_i hw;rw[if_neg hw];exact zQ A _ _ (up (p:=fun o=>oq o.op) h1) (up (p:=fun o=>iI o.op) J) (up (p:=fun o=>ny o.op) aj) h
theorem W.calm {P:aqV} {id:Nat} {ops:Array Oper} {Q:dX->(Nat->aqR)->Mem->Prop} {fr:Nat->aqR} {m:Mem} (ab:aS.calm ops=aqQ) (h:fs P ops.toList ops.toList (Q .normal) fr m):W P (.region id ops aqQ) Q fr m:=by
 obtain ⟨n,fr',m',h1,J⟩:=h;refine W.draw ⟨n,fr',m', ?_,J⟩;have:=VO (P:=P) (C:=h4 P n) ab ops.toList [] ⟨[],[],[]⟩ fr fr' m m' (by simp) (by simp) (by simp) (by simp) h1;simpa using this
end Go.aS
end
section
namespace Go.aS
def sub:Code->List Nat->Code
 |c,[]=>c
 | .seq a b,0::p=>sub a p
 | .seq a b,_::p=>sub b p
 | .cond _ a b,0::p=>sub a p
 | .cond _ a b,_::p=>sub b p
 | .block _ c,_::p=>sub c p
 | .scope c,_::p=>sub c p
 | .loop c,_::p=>sub c p
 |c,_=>c
def bn (f:Func):Code:=f.body.getD .skip
theorem Hd {fr:Nat->aqR} {d:Option Tmp} {v:aqR} {i:Nat} (h:d≠aqP i):set fr d v i=fr i:=by
 cases d with
 |none=>rfl
 |some t=>simp only[set];rw[if_neg];rintro rfl;exact h rfl
theorem Gh {P:aqV} {C:FuncId->Array aqR->Mem->aqR->Mem->Prop} {ops:List Oper} {i:Nat}:∀(l:List Oper) (fr fr':Nat->aqR) (m m':Mem),(∀o∈l,o.dst≠aqP i)->jU P C ops l fr m fr' m'->fr' i=fr i
 |[],fr,fr',m,m',_,h=>by rw[h.1]
 |o::l,fr,fr',m,m',hw,h=>by
  have gQ:∀o∈l,o.dst≠aqP i:=fun o ah=>hw o (by simp[ah]);simp only[jU] at h;split at h
  ·obtain ⟨v,m1,_,h⟩:=h;rw[Gh l _ _ _ _ gQ h];exact Hd (hw o (by simp))
  ·rw[Gh l _ _ _ _ gQ h];exact Hd (hw o (by simp))
theorem Nx {P:aqV} {C:FuncId->Array aqR->Mem->aqR->Mem->Prop} {ops:List Oper} {B:Array Nat} {i:Nat}:∀(l:List Oper) (n:Nat) (A:Acc) (fr fr':Nat->aqR) (m m':Mem),(∀o∈l,o.dst≠aqP i)->gx P C ops B n l A fr m fr' m'->fr' i=fr i
 |[],n,A,fr,fr',m,m',_,h=>by rw[h.1]
 |o::l,n,A,fr,fr',m,m',hw,h=>by
  have gQ:∀o∈l,o.dst≠aqP i:=fun o ah=>hw o (by simp[ah]);have h1:=hw o (by simp);simp only[gx] at h;split at h
  ·rcases h with ⟨v,_,h⟩|⟨v,_,_,h⟩|⟨X,v,_,h⟩|⟨v,m1,_,_,_,h⟩<;>(rw[Nx l _ _ _ _ _ _ gQ h];exact Hd h1)
  ·rw[Nx l _ _ _ _ _ _ gQ h];exact Hd h1
theorem OQ {ops:Array Oper} {i:Nat} (h:(tp ops).contains i=aqT):∀o∈ops.toList,o.dst≠aqP i:=by
 intro o ah he;have:i∈tp ops:=List.mem_filterMap.2 ⟨o,ah,he⟩;simp[this] at h
theorem VC {a b:List Nat} {i:Nat} (h:(a++b).contains i=aqT):a.contains i=aqT/\b.contains i=aqT:=by
 simpa using h
theorem Nv {P:aqV} {C:FuncId->Array aqR->Mem->aqR->Mem->Prop} {i:Nat}:∀(n:Nat) (c:Code) (fr fr':Nat->aqR) (m m':Mem) (e:dX),(jv c).contains i=aqT->ky P C n c fr m e fr' m'->fr' i=fr i:=by
 intro n;induction n with
 |zero=>intro c fr fr' m m' e _ h;exact h.elim
 |succ n a8=>
  intro c fr fr' m m' e hw h;cases c with
  |skip=>rw[h.2.1]
  |label l=>rw[h.2.1]
  |exit id=>rw[h.2.1]
  |ret=>rw[h.2.1]
  |region id ops d=>
   cases d with
   |false=>exact Gh _ _ _ _ _ (OQ hw) h.2
   |true=>exact Nx _ _ _ _ _ _ _ (OQ hw) h.2
  |seq a b=>
   rcases h with ⟨aX,eU,m1,g1,g2⟩|h
   rotate_left
   ·exact h.keep _ hw
   obtain ⟨h1,J⟩:=VC hw;have bt:=a8 _ _ _ _ _ _ h1 g1;split at g2
   ·rw[a8 _ _ _ _ _ _ J g2,bt]
   ·rw[g2.2.1,bt]
  |cond c a b=>
   obtain ⟨h1,J⟩:=VC hw;obtain ⟨t,_,g⟩:=h;cases t with
   |false=>exact a8 _ _ _ _ _ _ J g
   |true=>exact a8 _ _ _ _ _ _ h1 g
  |block id c=>obtain ⟨aX,g,_⟩:=h;exact a8 c _ _ _ _ _ hw g
  |scope c=>exact a8 c _ _ _ _ _ hw h
  |loop c=>
   obtain ⟨aX,eU,m1,g1,g2⟩:=h;have bt:=a8 c _ _ _ _ _ hw g1;split at g2
   ·rw[a8 (.loop c) _ _ _ _ _ hw g2,bt]
   ·rw[g2.2.1,bt]
  |rangeFunc f bK x y=>exact h.elim
  |goto l=>exact h.elim
  |refuse s=>exact h.elim
section
variable {P:aqV} {Q AJ:dX->(Nat->aqR)->Mem->Prop} {fr:Nat->aqR} {m:Mem}
theorem W.keep {c:Code} (h:W P c Q fr m) (aK:∀e fr' m',(∀i,(jv c).contains i=aqT->fr' i=fr i)->Q e fr' m'->AJ e fr' m'):W P c AJ fr m:=
 let ⟨n,e,fr',m',h1,J⟩:=h
 ⟨n,e,fr',m',h1,aK _ _ _ (fun _ ae=>Nv _ _ _ _ _ _ _ ae h1) J⟩
theorem W.aaL {c:aqX} {a b:Code} {t:Bool} (ao:aJ fr c= .bool t) (he:t=aqQ) (h:W P a Q fr m):W P (.cond c a b) Q fr m:=W.cond (t:=aqQ) (by rw[ao,he]) h
theorem W.aaK {c:aqX} {a b:Code} {t:Bool} (ao:aJ fr c= .bool t) (he:t=aqT) (h:W P b Q fr m):W P (.cond c a b) Q fr m:=W.cond (t:=aqT) (by rw[ao,he]) h
theorem oG.kj {i:Nat} (h:Q .normal fr m):oG i Q (.exit i) fr m:=by simp only[oG,if_true];exact h
theorem oG.pV {i j:Nat} (cW:(j==i)=aqT) (h:Q (.exit j) fr m):oG i Q (.exit j) fr m:=by
 have:j≠i:=by intro h;simp[h] at cW
 simp only[oG,if_neg this];exact h
theorem fs.mono {ops l:List Oper} {K kC:(Nat->aqR)->Mem->Prop} (h:fs P ops l K fr m) (hk:∀fr m,K fr m->kC fr m):fs P ops l kC fr m:=
 let ⟨n,fr',m',h1,J⟩:=h;⟨n,fr',m',h1,hk _ _ J⟩
end
structure cR (n:Nat) (z z':Nat->a6):Prop where
 le:ew z z'
 low:∀b,b<n->z' b=z b
theorem cR.refl {n:Nat} (z:Nat->a6):cR n z z:=⟨ew.refl z,fun _ _=>rfl⟩
theorem cR.trans {n:Nat} {a b c:Nat->a6} (h:cR n a b) (k:cR n b c):cR n a c:=⟨h.le.trans k.le,fun i ae=>by rw[k.low i ae,h.low i ae]⟩
theorem cR.Ew {n n':Nat} {a b:Nat->a6} (h:cR n a b) (aq:n'<=n):cR n' a b:=⟨h.le,fun i ae=>h.low i (by omega)⟩
structure h9 (z:Nat->a6) (e m:Mem) (k:Option Nat) (b:Nat) (cs:List aqR) (t:aqY):Prop where
 aH:m.aH b= .own cs t
 lt:b<m.next
 dead:z b= .dead
 fresh:e.next<=b\/k=aqP b
structure c3 {ap:Type} (T:cf ap) (z:Nat->a6) (e m:Mem) (k:Option Nat) (xs:List ap) (v:aqR):Prop where
 bd:eI T z m xs v
 fresh:∀b,cn v=aqP b->e.next<=b
section
variable {ap:Type} {T:cf ap} {z z':Nat->a6} {e m m':Mem} {k q:Option Nat} {xs:List ap} {v:aqR} {b:Nat} {cs:List aqR} {t:aqY}
theorem c3.same (h:c3 T z e m k xs v) (s:e1 m m' q) (eE:en (cn v) q):c3 T z e m' k xs v:=⟨h.bd.same s eE,h.fresh⟩
theorem h9.same (h:h9 z e m k b cs t) (s:e1 m m' q) (eE:en (aqP b) q):h9 z e m' k b cs t:=by
 have:=agW h.aH h.lt s (eE b rfl);exact ⟨this.1,this.2,h.dead,h.fresh⟩
theorem c3.lt (h:c3 T z e m k xs v):∀b,cn v=aqP b->b<m.next:=fun b aa=>(h.bd.lt b aa).1
theorem c3.Va (h:c3 T z e m k xs v):∀b,cn v=aqP b->b<m.next/\(m.aH b).mem=m.aH b:=fun b aa=>⟨h.lt b aa,by
 rcases h.bd with ⟨rfl,_⟩|⟨b2,o,L,c,rfl,h1,_⟩
 ·cases aa
 ·cases aa;rw[h1];rfl⟩
theorem eI.h8 (h:eI T z m xs v) (aE:ew z z') (aa:∀b,cn v=aqP b->z' b=z b):eI T z' m xs v:=by
 rcases h with h|⟨b,f0,L,c,rfl,h1,J,aj,aM,br,dt⟩
 ·exact .inl h
 ·refine .inr ⟨b,f0,L,c,rfl,h1,J,by rw[aa b rfl];exact aj,aM,br,fun i x ae=> ?_⟩;obtain ⟨cs,g1,g2⟩:=dt i x ae;exact ⟨cs,T.mono _ _ aE _ _ g1,g2⟩
theorem c3.h8 (h:c3 T z e m k xs v) (aE:ew z z') (aa:∀b,cn v=aqP b->z' b=z b):c3 T z' e m k xs v:=⟨h.bd.h8 aE aa,h.fresh⟩
theorem h9.h8 (h:h9 z e m k b cs t) (aa:∀c,aqP b=aqP c->z' c=z c):h9 z' e m k b cs t:=⟨h.aH,h.lt,by rw[aa b rfl];exact h.dead,h.fresh⟩
theorem c3.freeze (h:c3 T z e m k xs v) (aO:cK z e m k):∃z',cR e.next z z'/\cK z' e m k/\ev T z' xs v/\∀p,en p (cn v)->∀b,p=aqP b->z' b=z b:=by
 refine ⟨ie z m (cn v),⟨CS fun b aa=>(h.bd.lt b aa).2,fun b aa=> ?_⟩,⟨Hf aO.bg h.Va,aO.dead,aO.lI,aO.next,aO.kept⟩,h.bd.anJ,fun p an b aa=> ?_⟩
 ·unfold ie;rw[if_neg];intro ct;have:=h.fresh b ct;omega
 ·unfold ie;rw[if_neg (an b aa)]
theorem h9.aK (h:h9 z e m k b cs t):∀c,aqP b=aqP c->z c= .dead/\(e.next<=c\/k=aqP c):=fun c ab=>by cases ab;exact ⟨h.dead,h.fresh⟩
theorem c3.aK (h:c3 T z e m k xs v):∀c,cn v=aqP c->z c= .dead/\(e.next<=c\/k=aqP c):=fun c ab=>⟨(h.bd.lt c ab).2, .inl (h.fresh c ab)⟩
theorem c3.nil:c3 T z e m k [] (.slice aqS 0 0):=⟨.nil,fun b aa=>by cases aa⟩
variable {P:aqV} {C:FuncId->Array aqR->Mem->aqR->Mem->Prop} {af:aqX->aqR} {o:Oper} {w:aqR} {bk:List ap} {x y:aqX} {u:aqY} {i:TypeInfo}
theorem ahm (h:o.op= .call {callee:= .builtin .append,args:=#[x,y],argTypes:=#[t,u]}) (ao:P.underlying t=aqP (.slice T.tid)) (ae:P.info? T.tid=aqP i) {b8:aqR} (hg:i.zero=aqP b8) (cg:b8.cells.toList.all cv=aqQ) (dp:b8.cells.size=i.size)
  (bC:i.size=T.a1) (dS:0<T.a1) (fX:i.bytes<=32768) (hu:(∃bw,P.underlying u=aqP (.slice bw))\/P.underlying u=aqP .string) (U:af x=v) (az:c3 T z e m k xs v) (ag:af y=w) (lf:Src T z m bk w)
  (aO:cK z e m k) {r:List ap} (aw:dR xs bk=aqP r):
  ∃bl m',gE P C af o m bl m'/\cK z e m' k/\c3 T z e m' k r bl/\e1 m m' (cn v)/\∀p,(∀b,p=aqP b->b<m.next)->en p (cn v)->en p (cn bl):=by
 obtain ⟨bl,m',h1,J,aj,aM⟩:=ahd (C:=C) h ao ae hg cg dp bC dS fX hu U az.bd ag lf aO.bg aO.dead aw;refine ⟨bl,m',h1,aO.same aj az.aK,⟨J,fun b aa=> ?_⟩,aj,fun p an au b aa ct=> ?_⟩
 ·rcases aM b aa with aM|aM
  ·exact az.fresh b aM
  ·have:=aO.next;omega
 ·rcases aM b ct with aM|aM
  ·exact au b aa aM
  ·have:=an b aa;omega
theorem ET {L:List aqR} {bl:aqR} {bk:List ap} (aO:cK z e m k) (h:eI T z (m.push (.own L t)) bk bl) (aa:cn bl=aqP m.next):
  cK z e (m.push (.own L t)) k/\c3 T z e (m.push (.own L t)) k bk bl/\e1 m (m.push (.own L t)) aqS/\∀p,(∀b,p=aqP b->b<m.next)->en p (cn bl):=
 ⟨aO.push _,⟨h,fun b ct=>by rw[aa] at ct;cases ct;exact aO.next⟩,Cx aO.dead,fun p an b ct nS=>by rw[aa] at nS;cases nS;have:=an _ ct;omega⟩
theorem aly {x0:ap} {bt bE:aqW} {n:Int} (h:o.op= .makeSlice t x y) (ao:P.underlying t=aqP (.slice T.tid)) (ae:P.info? T.tid=aqP i) {b8:aqR} (hg:i.zero=aqP b8) (cg:b8.cells.toList.all cv=aqQ) (dp:b8.cells.size=i.size) (bC:i.size=T.a1) (fX:i.bytes<=32768)
  (dE:T.rd z x0 b8.cells.toList) (U:af x= .int bt n) (ag:af y= .int bE n) (aO:cK z e m k) {r:List ap} (aw:kO x0 n=aqP r):
  ∃bl m' L db,hW P af o m.next (.own L db) bl/\m'=m.push (.own L db)/\cK z e m' k/\c3 T z e m' k r bl/\e1 m m' aqS/\∀p,(∀b,p=aqP b->b<m.next)->en p (cn bl):=by
 obtain ⟨L,bl,h1,J,aj⟩:=am4 (n':=n) h ao ae hg cg dp bC fX dE U ag aO.bg aw;exact ⟨bl,_,_,_,h1,rfl,ET aO J aj⟩
theorem aik {bK:Array (Nat×aqX)} {l:Nat} {as:List ap} {ib:List (List aqR)} (h:o.op= .buildSlice t l bK) (ao:P.underlying t=aqP (.slice T.tid)) (ae:P.info? T.tid=aqP i) {b8:aqR} (hg:i.zero=aqP b8) (cg:b8.cells.toList.all cv=aqQ) (dp:b8.cells.size=i.size) (bC:i.size=T.a1)
  (ai:as.length=l) (rE:l*T.a1<=16777216) (rN:l<9223372036854775808) (aa:wy T z af bK.toList 0 as ib) (aO:cK z e m k):
  ∃bl m' L db,hW P af o m.next (.own L db) bl/\m'=m.push (.own L db)/\cK z e m' k/\c3 T z e m' k as bl/\e1 m m' aqS/\∀p,(∀b,p=aqP b->b<m.next)->en p (cn bl):=by
 obtain ⟨L,bl,h1,J,aj⟩:=aid h ao ae hg cg dp bC ai rE rN aa aO.bg;exact ⟨bl,_,_,_,h1,rfl,ET aO J aj⟩
theorem ail {s:List UInt8} {tid:aqY} (h:o.op= .convert u t x) (hu:P.underlying u=aqP .string) (ao:P.underlying t=aqP (.slice tid)) (he:P.underlying tid=aqP (.int .u8)) (ae:P.info? tid=aqP i) (hd:i.size=1) (U:af x=str s) (ai:s.length<9223372036854775807) (aO:cK z e m k):
  ∃bl m' L db,hW P af o m.next (.own L db) bl/\m'=m.push (.own L db)/\cK z e m' k/\c3 (kd tid) z e m' k s bl/\e1 m m' aqS/\∀p,(∀b,p=aqP b->b<m.next)->en p (cn bl):=by
 obtain ⟨L,bl,h1,J,aj⟩:=aie h hu ao he ae hd U ai aO.bg;exact ⟨bl,_,_,_,h1,rfl,ET aO J aj⟩
theorem Pm {L:List aqR} (aO:cK z e m k):cK z e (m.push (.own L t)) k/\h9 z e (m.push (.own L t)) k m.next L t/\e1 m (m.push (.own L t)) aqS/\∀p,(∀b,p=aqP b->b<m.next)->en p (aqP m.next):=by
 refine ⟨aO.push _,⟨by simp[Mem.push],arP _, ?_, .inl aO.next⟩,Cx aO.dead,fun p an b ct nS=>by cases nS;have:=an _ ct;omega⟩;cases fZ:z m.next with
 |dead=>rfl
 |ro rd=>have:=(aO.bg m.next (by rw[fZ];simp)).2;omega
 |own L t=>have:=(aO.bg m.next (by rw[fZ];simp)).2;omega
 |map L t=>have:=(aO.bg m.next (by rw[fZ];simp)).2;omega
 |lock _ _ _ _=>have:=(aO.bg m.next (by rw[fZ];simp)).2;omega
theorem aaW {off:Nat} {new cs':List aqR} {fP:aqY} (h:o.op= .store t x y) (ae:P.info? t=aqP i) (U:af x= .pointer (aqP ⟨b,off,aqS⟩)) (ag:af y=w) (ad:storable w=aqQ) (aq:w.cells.toList=new) (az:new.length=i.size) (aa:h9 z e m k b cs fP) (ai:off+new.length<=cs.length) (hC:eT cs off new=cs') (aO:cK z e m k):
  ∃m',gE P C af o m undef m'/\cK z e m' k/\h9 z e m' k b cs' fP/\e1 m m' (aqP b):=by
 subst ag hC;have j3:=CM (x:= .own (eT cs off new) fP) aO.dead aa.lt;exact ⟨_,(YA h ae U aa.aH ad aq az ai),aO.same j3 aa.aK,⟨by simp[Mem.put],aa.lt,aa.dead,aa.fresh⟩,j3⟩
theorem aaX {off f0 n f l c:Nat} {new rB A4:List aqR} {a a':ap} (h:o.op= .store t x y) (ae:P.info? t=aqP i) (U:af x= .pointer (aqP ⟨b,off,aqS⟩)) (nX:off=f0+n*T.a1+f) (ag:af y=w) (ad:storable w=aqQ) (aq:w.cells.toList=new) (az:new.length=i.size)
  (ah:c3 T z e m k xs v) (pQ:v= .slice (aqP ⟨b,f0,aqS⟩) l c) (au:xs[n]? =aqP a) (aw:T.rd z a rB) (ab:∀(i:Nat) (u:aqR),rB[i]? =aqP u->m.load b (f0+n*T.a1+i)=aqP u) (ng:T.rd z a' A4) (hC:A4=eT rB f new) (aP:f+new.length<=rB.length) (aO:cK z e m k):
  ∃m',gE P C af o m undef m'/\cK z e m' k/\c3 T z e m' k (xs.set n a') v/\e1 m m' (cn v):=by
 subst ag nX;obtain ⟨L,g1,g2,g3,g4⟩:=ah.bd.store aO.dead pQ au aw ⟨b,_,rfl,ab⟩ ng hC aP;have hB:cn v=aqP b:=by rw[pQ];rfl
 refine ⟨_,(YA h ae U g1 ad aq az g2),aO.same g4 (by rw[<-hB];exact ah.aK),⟨g3,ah.fresh⟩,by rw[hB];exact g4⟩
theorem alx {bt:aqW} {n:Int} {a:ap} {fP:aqY} (h:o.op= .indexAddr t x y) (ao:P.underlying t=aqP (.slice fP)) (ae:P.info? fP=aqP i) (bC:i.size=T.a1) (U:af x=v) (ag:af y= .int bt n) (az:ev T z xs v) (aG:aR xs n=aqP a):
  ∃b off cs,cO P af o (.pointer (aqP ⟨b,off,aqS⟩))/\T.rd z a cs/\nv z b off cs:=by
 obtain ⟨p,cs,h1,J,b,off,rfl,aj⟩:=amp h ao ae bC U ag az aG;exact ⟨b,off,cs,h1,J,aj⟩
theorem alw {bt:aqW} {n:Int} {a:ap} {fP:aqY} (h:o.op= .indexAddr t x y) (ao:P.underlying t=aqP (.slice fP)) (ae:P.info? fP=aqP i) (bC:i.size=T.a1) (U:af x=v) (ag:af y= .int bt n) (az:c3 T z e m k xs v) (aG:aR xs n=aqP a):
  ∃b f0 l c cs,cO P af o (.pointer (aqP ⟨b,f0+n.toNat*T.a1,aqS⟩))/\v= .slice (aqP ⟨b,f0,aqS⟩) l c/\T.rd z a cs/\∀(j:Nat) (u:aqR),cs[j]? =aqP u->m.load b (f0+n.toNat*T.a1+j)=aqP u:=by
 obtain ⟨p,cs,h1,J,aj,b,f0,l,c,rfl,rfl⟩:=amo h ao ae bC U ag az.bd aG;obtain ⟨gA,gV,aM,br⟩:=aj;cases aM;exact ⟨b,f0,l,c,cs,h1,rfl,J,br⟩
theorem Pn {n:Nat} {bc:Array Field} {f:Field} {off:Nat} (h:o.op= .fieldAddr t x n) (ao:P.underlying t=aqP (.struct bc)) (aP:bc[n]? =aqP f) (ae:P.info? f.type=aqP i) (az:(i.size==0)=aqT) (U:af x= .pointer (aqP ⟨b,off,aqS⟩)):
  cO P af o (.pointer (aqP ⟨b,off+f.offset,aqS⟩)):= .fieldAddr t x n bc f i b off h ao aP ae (by intro aI;rw[aI] at az;cases az) U
theorem Y0 {off:Nat} {d:TypeDesc} (h:o.op= .load t x) (ao:P.underlying t=aqP d) (aB:jE d=aqT) (U:af x= .pointer (aqP ⟨b,off,aqS⟩)) (ad:m.load b off=aqP v):eS P af o m v:= .load t x b off d v h U ao aB ad
theorem aim {off:Nat} {d:TypeDesc} (h:o.op= .load t x) (ao:P.underlying t=aqP d) (aB:jE d=aqQ) (ae:P.info? t=aqP i) (az:cs.length=i.size) (U:af x= .pointer (aqP ⟨b,off,aqS⟩)) (ad:∀(j:Nat) (u:aqR),cs[j]? =aqP u->m.load b (off+j)=aqP u):eS P af o m (.agg cs.toArray):=
 .vV t x b off d i cs h U ao aB ae (Hb _ _ _ az ad)
theorem h9.load (h:h9 z e m k b cs t) {off:Nat} (ad:cs[off]? =aqP v):m.load b off=aqP v:=by simp only[Mem.load,h.aH];exact ad
theorem h9.rX (h:h9 z e m k b cs t):∀(j:Nat) (u:aqR),cs[j]? =aqP u->m.load b (0+j)=aqP u:=fun j u ar=>by rw[ara];exact h.load ar
theorem cK.rX (aO:cK z e m k) {off:Nat} (h:nv z b off cs):∀(j:Nat) (u:aqR),cs[j]? =aqP u->m.load b (off+j)=aqP u:=fun j u ar=>Xy aO.bg (h j u ar)
end
theorem W5 {args:Array aqR} {n i:Nat} {v:aqR} (h:args.toList[i]? =aqP v):(args++Array.replicate n undef).getD i undef=v:=by
 have h1:args[i]? =aqP v:=by rw[<-asZ];exact h
 have aN:=(ar2.1 h1).1;rw[Array.getD_eq_getD_getElem?,Array.getElem?_append_left aN,h1];rfl
theorem agH {n:Nat} {v:aqR} (h:flat v=aqQ):low n v:=Ov h
theorem hx.flat {P:aqV} {f:FuncId} {fn:Func} {c:Code} {args:Array aqR} {z:Nat->a6} {m:Mem} {r:aqR} (aP:P.funcs[f]? =aqP fn) (aa:fn.body=aqP c) (du:mA P f=aqQ) (bC:args.size<=fn.ntmps) (aw:aS.flat r=aqQ)
  (h:∀fr,(∀i v,args.toList[i]? =aqP v->fr i=v)->W P c (fun e fr m1=>(e= .normal\/e= .ret)/\∃z',cK z' m m1 aqS/\∃vs,o7 P fr m1 fn.results.toList vs/\(vs.length=1\/∀x∈vs,storable x=aqQ)/\pack vs=r) fr m):hx P f args m fun v m'=>v=r/\m'=m:=by
 refine hx.enter aP aa du bC ((h _ fun i v ae=>W5 ae).mono ?_);rintro e fr m1 ⟨he,z',aO,vs,h1,J,aj⟩;refine ⟨he,vs,h1,J, .inr ⟨⟨aj,aO.anK⟩,by rw[aj];exact agH aw,fun b aa=> .inl (aO.kept b aa (by simp))⟩⟩
theorem hx.any {P:aqV} {f:FuncId} {fn:Func} {c:Code} {args:Array aqR} {m:Mem} {R:aqR->Mem->Prop} (aP:P.funcs[f]? =aqP fn) (aa:fn.body=aqP c) (du:mA P f=aqQ) (bC:args.size<=fn.ntmps)
  (h:∀fr,(∀i v,args.toList[i]? =aqP v->fr i=v)->W P c (fun e fr m1=>(e= .normal\/e= .ret)/\∃vs,o7 P fr m1 fn.results.toList vs/\(vs.length=1\/∀x∈vs,storable x=aqQ)/\R (pack vs) m1) fr m):hx P f args m R:=by
 refine hx.enter aP aa du bC ((h _ fun i v ae=>W5 ae).mono ?_);rintro e fr m1 ⟨he,vs,h1,J,aj⟩;exact ⟨he,vs,h1,J, .inl aj⟩
end Go.aS
end
section
namespace Go.aS
inductive Tag where
 |pure
 |read (I:Mem->Prop)
 |new
 |e3
def bV (P:aqV) (af:aqX->aqR) (o:Oper) (m:Mem) (D:Tag->aqR->Mem->Prop):Prop:=
 (∃v,cO P af o v/\D .pure v m)\/(∃v I,cO P af o v/\D (.read I) v m)\/(∃v,eS P af o m v/\D (.read fun m=>eS P af o m v) v m)\/
 (∃X v,hW P af o m.next X v/\D .new v (m.push X))\/(∃n v m',gE P (h4 P n) af o m v m'/\D .e3 v m')
section
variable {P:aqV} {af:aqX->aqR} {o:Oper} {m:Mem} {D:Tag->aqR->Mem->Prop} {K:aqR->Mem->Prop}
theorem bV.pure {v:aqR} (h:cO P af o v) (hk:D .pure v m):bV P af o m D:= .inl ⟨v,h,hk⟩
theorem bV.Vx {v:aqR} {I:Mem->Prop} (h:cO P af o v) (hk:D (.read I) v m):bV P af o m D:= .inr (.inl ⟨v,I,h,hk⟩)
theorem bV.read {v:aqR} (h:eS P af o m v) (hk:D (.read fun m=>eS P af o m v) v m):bV P af o m D:= .inr (.inr (.inl ⟨v,h,hk⟩))
theorem bV.new {v:aqR} {X:a6} (h:hW P af o m.next X v) (hk:D .new v (m.push X)):bV P af o m D:= .inr (.inr (.inr (.inl ⟨X,v,h,hk⟩)))
theorem bV.e3 {n:Nat} {v:aqR} {m':Mem} (h:gE P (h4 P n) af o m v m') (hk:D .e3 v m'):bV P af o m D:= .inr (.inr (.inr (.inr ⟨n,v,m',h,hk⟩)))
theorem bV.w (h:bV P af o m fun _=>K):mf P af o m K:=by
 rcases h with ⟨v,h,hk⟩|⟨v,I,h,hk⟩|⟨v,h,hk⟩|⟨X,v,h,hk⟩|⟨n,v,m',h,hk⟩
 ·exact mf.pure h hk
 ·exact mf.pure h hk
 ·exact mf.read h hk
 ·exact mf.new h hk
 ·exact mf.e3 h hk
theorem bV.call {f:FuncId} {args:Array aqR} (ab:callee o af f args) (h:hx P f args m (D .e3)):bV P af o m D:=by
 obtain ⟨n,v,m',h1,J⟩:=h;exact .e3 (.call f args v m' ab h1) J
end
theorem y9 {P:aqV} {C:FuncId->Array aqR->Mem->aqR->Mem->Prop} {ops:List Oper} {B:Array Nat}:∀(l:List Oper) (i:Nat) (A hl:Acc) (fr fr':Nat->aqR) (m m':Mem),(∀x∈hl.reads,x∈A.reads)->(∀x∈hl.gM,x∈A.gM)->(∀x∈hl.news,x∈A.news)->gx P C ops B i l A fr m fr' m'->gx P C ops B i l hl fr m fr' m'
 |[],i,A,hl,fr,fr',m,m',_,_,_,h=>h
 |o::l,i,A,hl,fr,fr',m,m',h1,J,aj,h=>by
  simp only[gx] at h⊢;split at h
  ·rename_i hw;rw[if_pos hw];rcases h with ⟨v,an,aB⟩|⟨v,an,ah,aB⟩|⟨X,v,an,aB⟩|⟨v,m1,an,g1,g2,aB⟩
   ·exact .inl ⟨v,an,y9 l _ _ _ _ _ _ _ h1 J aj aB⟩
   ·refine .inr (.inl ⟨v,an,fun x U=>ah x (J x U),y9 l _ {A with reads:=_::A.reads} _ _ _ _ _ (fun x U=> ?_) J aj aB⟩);rcases aq6.1 U with rfl|U
    ·exact arn
    ·exact ard _ (h1 x U)
   ·refine .inr (.inr (.inl ⟨X,v,an,y9 l _ {A with news:=_::A.news} _ _ _ _ _ h1 J (fun x U=> ?_) aB⟩));rcases aq6.1 U with rfl|U
    ·exact arn
    ·exact ard _ (aj x U)
   ·refine .inr (.inr (.inr ⟨v,m1,an,fun x U=>g1 x (h1 x U),fun x U=>g2 x (aj x U),y9 l _ {A with gM:=_::A.gM} _ _ _ _ _ h1 (fun x U=> ?_) aj aB⟩));rcases aq6.1 U with rfl|U
    ·exact arn
    ·exact ard _ (J x U)
  ·rename_i hw;rw[if_neg hw];exact y9 l _ _ _ _ _ _ _ h1 J aj h
def tS (B:Array Nat) (i:Nat) (A:Acc) (m:Mem):Tag->Mem->Prop
 | .pure,_=>True
 | .read I,_=>∀x∈A.gM,fe B i x.1=aqT->I x.2
 | .new,_=>True
 | .e3,m1=>(∀x∈A.reads,fe B i x.1=aqT->x.2 m1)/\∀x∈A.news,fe B i x.1=aqT->m1.aH x.2=m.aH x.2
def pD (A:Acc) (i:Nat) (m:Mem):Tag->Acc
 | .pure=>A
 | .read I=>{A with reads:=(i,I)::A.reads}
 | .new=>{A with news:=(i,m.next)::A.news}
 | .e3=>{A with gM:=(i,m)::A.gM}
section
variable {P:aqV} {ops l:List Oper} {B:Array Nat} {i:Nat} {A:Acc} {K:(Nat->aqR)->Mem->Prop} {fr:Nat->aqR} {m:Mem} {o:Oper}
theorem fs.JQ (aG:wanted ops fr o=aqQ) (h:bV P (aJ fr) o m fun _ v m1=>fs P ops l K (set fr o.dst v) m1):fs P ops (o::l) K fr m:=fs.cons aG h.w
theorem gq.cons (aG:wanted ops fr o=aqQ) (h:bV P (aJ fr) o m fun t v m1=>tS B i A m t m1/\gq P ops B (i+1) l (pD A i m t) K (set fr o.dst v) m1):gq P ops B i (o::l) A K fr m:=by
 have up:∀{n n':Nat} (_:n<=n') {l:List Oper} {i:Nat} {A:Acc} {fr fr':Nat->aqR} {m m':Mem},gx P (h4 P n) ops B i l A fr m fr' m'->gx P (h4 P n') ops B i l A fr m fr' m':=fun aq=>tW (wk _ _ aq) _ _ _ _ _ _ _;rcases h with ⟨v,h,_,n,fr',m',h1,J⟩|⟨v,I,h,_,n,fr',m',h1,J⟩|⟨v,h,ah,n,fr',m',h1,J⟩|⟨X,v,h,_,n,fr',m',h1,J⟩|⟨eD,v,m1,h,ah,n,fr',m',h1,J⟩
 ·refine ⟨n,fr',m', ?_,J⟩;simp only[gx];rw[if_pos aG];exact .inl ⟨v,h,h1⟩
 ·refine ⟨n,fr',m', ?_,J⟩;simp only[gx];rw[if_pos aG];exact .inl ⟨v,h,y9 _ _ {A with reads:=(i,I)::A.reads} A _ _ _ _ (fun x U=>ard _ U) (fun x U=>U) (fun x U=>U) h1⟩
 ·refine ⟨n,fr',m', ?_,J⟩;simp only[gx];rw[if_pos aG];exact .inr (.inl ⟨v,h,ah,h1⟩)
 ·refine ⟨n,fr',m', ?_,J⟩;simp only[gx];rw[if_pos aG];exact .inr (.inr (.inl ⟨X,v,h,h1⟩))
 ·refine ⟨max eD n,fr',m', ?_,J⟩;simp only[gx];rw[if_pos aG];exact .inr (.inr (.inr ⟨v,m1,h.mono (wk _ _ (Nat.le_max_left _ _)),ah.1,ah.2,up (Nat.le_max_right _ _) h1⟩))
theorem gq.skip (aG:wanted ops fr o=aqT) (h:gq P ops B (i+1) l A K (set fr o.dst undef) m):gq P ops B i (o::l) A K fr m:=by
 obtain ⟨n,fr',m',h1,J⟩:=h;refine ⟨n,fr',m', ?_,J⟩;simp only[gx];rw[if_neg (by simp[aG])];exact h1
theorem gq.done (h:∀fr',fr'=fr->K fr' m):gq P ops B i [] A K fr m:=⟨0,_,_,⟨rfl,rfl⟩,h _ rfl⟩
end
theorem amE {P:aqV} {af:aqX->aqR} {o:Oper} {ap:Type} {T:cf ap} {z:Nat->a6} {xs:List ap} {v:aqR} {x:aqX} {t:aqY} {i:TypeInfo} {bG ae:Option aqX} {a b:Int} {r:List ap} (h:o.op= .slice t x bG ae aqS) (ao:P.underlying t=aqP (.slice T.tid)) (dY:P.info? T.tid=aqP i) (bC:i.size=T.a1) (U:af x=v)
  (eZ:yM af bG a) (eg:zw af ae xs.length b) (az:ev T z xs v) (aw:fV xs a b=aqP r):
  ∃bl,(cO P af o bl\/∀m,jW z m->eS P af o m bl)/\ev T z r bl:=by
 obtain ⟨aI,h1,J,rfl⟩:=NM aw;obtain ⟨a',rfl⟩:=arw aI;obtain ⟨b2,rfl⟩:=arw (Int.le_trans aI h1);have iX:a'<=b2:=by omega
 have gi:b2<=xs.length:=by omega
 simp only[arZ];have Md:=G4 eZ;have L6:=Gw eg;have hlen:((xs.take b2).drop a').length=b2 - a':=by simp;omega
 rcases az with ⟨rfl,rfl⟩|⟨x4,off,c,rfl,Fl,jZ,hZ⟩
 ·have hY:b2=0:=by simpa using gi
  subst hY;have abA:a'=0:=by omega
  subst abA;exact ⟨.slice aqS 0 0, .inl (.lz t x bG ae T.tid i h ao dY U Md L6), .inl ⟨rfl,by simp⟩⟩
 ·have Ue:∀o',o'=off+a'*T.a1->∀(k:Nat) (w:ap),((xs.take b2).drop a')[k]? =aqP w->∃cs,T.rd z w cs/\nv z x4 (o'+k*T.a1) cs:=by
   intro o' ig k w hk;obtain ⟨cs,g1,g2⟩:=hZ _ w (G1 hk);refine ⟨cs,g1, ?_⟩;rw[ig,arx,<-arm];exact g2
  rcases jZ with ⟨rfl,L,cB,tB⟩|⟨ab,hle⟩
  ·refine ⟨_, .inr fun m aE=>(.slice t x bG ae T.tid i L x4 off xs.length a' b2 h ao dY U ?_ Md L6 iX gi (by rw[bC];exact tB)), ?_⟩
   ·rw[(aE.fF Fl).1];exact cB
   ·refine .inr ⟨x4,off+a'*T.a1,dr,by rw[hlen,bC],Fl, .inl ⟨rfl,L,cB, ?_⟩,Ue _ rfl⟩;rw[hlen,arx,<-arm];have:(a'+(b2 - a'))*T.a1<=xs.length*T.a1:=ar9 _ (by omega);omega
  ·refine ⟨_, .inl (.slice t x bG ae T.tid i x4 off xs.length c a' b2 h ao dY U (by simp only[dr] at ab⊢;omega) Md L6 iX (by omega) (fun _=>trivial)), ?_⟩;by_cases jK:c=a'
   ·have TR:b2 - a'=0:=by omega
    refine .inr ⟨x4,off,c - a',by simp[jK,hlen,TR],Fl, .inr ⟨by omega,by rw[hlen];omega⟩,fun k w hk=> ?_⟩;have aN:=(aqZ.1 hk).1;omega
   ·refine .inr ⟨x4,off+a'*T.a1,c - a',by rw[if_neg jK,hlen,bC],Fl, .inr ⟨by omega,by rw[hlen];omega⟩,Ue _ rfl⟩
section
variable {ap:Type} {T:cf ap} {z z':Nat->a6} {e m m':Mem} {k q:Option Nat} {xs:List ap} {v:aqR} {b:Nat} {cs:List aqR} {t:aqY}
variable {P:aqV} {af:aqX->aqR} {o:Oper} {w:aqR} {bk:List ap} {x y:aqX} {u:aqY} {i:TypeInfo} {K:aqR->Mem->Prop} {D:Tag->aqR->Mem->Prop}
theorem G3 (h:o.op= .call {callee:= .builtin .append,args:=#[x,y],argTypes:=#[t,u]}) (ao:P.underlying t=aqP (.slice T.tid)) (ae:P.info? T.tid=aqP i) {b8:aqR} (hg:i.zero=aqP b8) (cg:b8.cells.toList.all cv=aqQ) (dp:b8.cells.size=i.size)
  (bC:i.size=T.a1) (dS:(T.a1==0)=aqT) (fX:art i.bytes 32768=aqQ) (hu:(∃bw,P.underlying u=aqP (.slice bw))\/P.underlying u=aqP .string) (U:af x=v) (az:c3 T z e m k xs v) (ag:af y=w) (lf:Src T z m bk w)
  (aO:cK z e m k) {r:List ap} (aw:dR xs bk=aqP r)
  (hk:∀bl m',cK z e m' k->c3 T z e m' k r bl->e1 m m' (cn v)->(∀p,(∀b,p=aqP b->b<m.next)->en p (cn v)->en p (cn bl))->D .e3 bl m'):bV P af o m D:=by
 obtain ⟨bl,m',h1,J,aj,aM,br⟩:=ahm (C:=h4 P 0) h ao ae hg cg dp bC (by
  rcases atz T.a1 with aI|aI;·rw[aI] at dS;cases dS
  ·exact aI) (asa fX) hu U az ag lf aO aw
 exact bV.e3 h1 (hk _ _ J aj aM br)
theorem Y4 {x0:ap} {bt bE:aqW} {n:Int} (h:o.op= .makeSlice t x y) (ao:P.underlying t=aqP (.slice T.tid)) (ae:P.info? T.tid=aqP i) {b8:aqR} (hg:i.zero=aqP b8) (cg:b8.cells.toList.all cv=aqQ) (dp:b8.cells.size=i.size) (bC:i.size=T.a1) (fX:art i.bytes 32768=aqQ)
  (dE:T.rd z x0 b8.cells.toList) (U:af x= .int bt n) (ag:af y= .int bE n) (aO:cK z e m k) {r:List ap} (aw:kO x0 n=aqP r)
  (hk:∀bl m',cK z e m' k->c3 T z e m' k r bl->e1 m m' aqS->(∀p,(∀b,p=aqP b->b<m.next)->en p (cn bl))->D .new bl m'):bV P af o m D:=by
 obtain ⟨bl,m',L,db,h1,rfl,J,aj,aM,br⟩:=aly h ao ae hg cg dp bC (asa fX) dE U ag aO aw;exact bV.new h1 (hk _ _ J aj aM br)
theorem Pq {bK:Array (Nat×aqX)} {l:Nat} (h:o.op= .buildSlice t l bK) (ao:P.underlying t=aqP (.slice T.tid)) (ae:P.info? T.tid=aqP i) {b8:aqR} (hg:i.zero=aqP b8) (cg:b8.cells.toList.all cv=aqQ) (dp:b8.cells.size=i.size) (bC:i.size=T.a1)
  (as:List ap) (ib:List (List aqR)) (ai:as.length=l) (rE:art (l*T.a1) 16777216=aqQ) (rN:asm l 9223372036854775808=aqQ) (aa:wy T z af bK.toList 0 as ib) (aO:cK z e m k)
  (hk:∀bl m',cK z e m' k->c3 T z e m' k as bl->e1 m m' aqS->(∀p,(∀b,p=aqP b->b<m.next)->en p (cn bl))->D .new bl m'):bV P af o m D:=by
 obtain ⟨bl,m',L,db,h1,rfl,J,aj,aM,br⟩:=aik h ao ae hg cg dp bC ai (asa rE) (by have:=rN;simp[asm] at this;omega) aa aO;exact bV.new h1 (hk _ _ J aj aM br)
theorem aiw {s:List UInt8} {tid:aqY} (h:o.op= .convert u t x) (hu:P.underlying u=aqP .string) (ao:P.underlying t=aqP (.slice tid)) (he:P.underlying tid=aqP (.int .u8)) (ae:P.info? tid=aqP i) (hd:i.size=1) (U:af x=str s) {cc:List UInt8} (ai:dR s []=aqP cc) (aO:cK z e m k)
  (hk:∀bl m',cK z e m' k->c3 (kd tid) z e m' k cc bl->e1 m m' aqS->(∀p,(∀b,p=aqP b->b<m.next)->en p (cn bl))->D .new bl m'):bV P af o m D:=by
 obtain ⟨kM,rfl⟩:=r6 ai;rw[asN] at hk;obtain ⟨bl,m',L,db,h1,rfl,J,aj,aM,br⟩:=ail h hu ao he ae hd U (by simp only[ma,asR] at kM;omega) aO;exact bV.new h1 (hk _ _ J aj aM br)
theorem U6 {off:Nat} {new:List aqR} {fP:aqY} (h:o.op= .store t x y) (ae:P.info? t=aqP i) (U:af x= .pointer (aqP ⟨b,off,aqS⟩)) (ag:af y=w) (ad:storable w=aqQ) (aq:w.cells.toList=new) (az:new.length=i.size) (aa:h9 z e m k b cs fP) (ai:art (off+new.length) cs.length=aqQ) (cs':List aqR) (hC:eT cs off new=cs') (aO:cK z e m k)
  (hk:∀m',cK z e m' k->h9 z e m' k b cs' fP->e1 m m' (aqP b)->D .e3 undef m'):bV P af o m D:=by
 obtain ⟨m',h1,J,aj,aM⟩:=aaW (C:=h4 P 0) h ae U ag ad aq az aa (asa ai) hC aO;exact bV.e3 h1 (hk _ J aj aM)
theorem FK {off f0 n f l c:Nat} {new rB A4:List aqR} {a a':ap} (h:o.op= .store t x y) (ae:P.info? t=aqP i) (U:af x= .pointer (aqP ⟨b,off,aqS⟩)) (nX:off=f0+n*T.a1+f) (ag:af y=w) (ad:storable w=aqQ) (aq:w.cells.toList=new) (az:new.length=i.size)
  (ah:c3 T z e m k xs v) (pQ:v= .slice (aqP ⟨b,f0,aqS⟩) l c) (au:xs[n]? =aqP a) (aw:T.rd z a rB) (ab:∀(i:Nat) (u:aqR),rB[i]? =aqP u->m.load b (f0+n*T.a1+i)=aqP u) (ng:T.rd z a' A4) (hC:A4=eT rB f new) (aP:art (f+new.length) rB.length=aqQ) (aO:cK z e m k)
  (hk:∀m',cK z e m' k->c3 T z e m' k (xs.set n a') v->e1 m m' (cn v)->D .e3 undef m'):bV P af o m D:=by
 obtain ⟨m',h1,J,aj,aM⟩:=aaX (C:=h4 P 0) h ae U nX ag ad aq az ah pQ au aw ab ng hC (asa aP) aO;exact bV.e3 h1 (hk _ J aj aM)
theorem amU {bt:aqW} {n:Int} {a:ap} {fP:aqY} (h:o.op= .indexAddr t x y) (ao:P.underlying t=aqP (.slice fP)) (ae:P.info? fP=aqP i) (bC:i.size=T.a1) (U:af x=v) (ag:af y= .int bt n) (az:ev T z xs v) (aG:aR xs n=aqP a)
  (hk:∀b off cs,T.rd z a cs->nv z b off cs->D .pure (.pointer (aqP ⟨b,off,aqS⟩)) m):bV P af o m D:=by
 obtain ⟨b,off,cs,h1,J,aj⟩:=alx h ao ae bC U ag az aG;exact bV.pure h1 (hk _ _ _ J aj)
theorem Y3 {bt:aqW} {n:Int} {a:ap} {fP:aqY} (h:o.op= .indexAddr t x y) (ao:P.underlying t=aqP (.slice fP)) (ae:P.info? fP=aqP i) (bC:i.size=T.a1) (U:af x=v) (ag:af y= .int bt n) (az:c3 T z e m k xs v) (aG:aR xs n=aqP a)
  (hk:∀b f0 l c cs,v= .slice (aqP ⟨b,f0,aqS⟩) l c->T.rd z a cs->xs[n.toNat]? =aqP a->(∀(j:Nat) (u:aqR),cs[j]? =aqP u->m.load b (f0+n.toNat*T.a1+j)=aqP u)->D .pure (.pointer (aqP ⟨b,f0+n.toNat*T.a1,aqS⟩)) m):bV P af o m D:=by
 obtain ⟨b,f0,l,c,cs,h1,J,aj,aM⟩:=alw h ao ae bC U ag az aG;exact bV.pure h1 (hk _ _ _ _ _ J aj (o6 aG).2.2 aM)
theorem adR {bG ae:Option aqX} {a b:Int} {r:List ap} (h:o.op= .slice t x bG ae aqS) (ao:P.underlying t=aqP (.slice T.tid)) (dY:P.info? T.tid=aqP i) (bC:i.size=T.a1) (U:af x=v)
  (eZ:yM af bG a) (eg:zw af ae xs.length b) (az:ev T z xs v) (aO:cK z e m k) (aw:fV xs a b=aqP r) (hk:∀bl I,(∀m,jW z m->I m)->ev T z r bl->D (.read I) bl m):bV P af o m D:=by
 obtain ⟨bl,h1,J⟩:=amE h ao dY bC U eZ eg az aw;rcases h1 with h1|h1
 ·exact bV.Vx (I:=fun _=>True) h1 (hk _ _ (fun _ _=>trivial) J)
 ·exact bV.read (h1 m aO.bg) (hk _ _ h1 J)
theorem amS {s r:List UInt8} {bG ae:Option aqX} {a b:Int} (h:o.op= .slice t x bG ae aqS) (ao:P.underlying t=aqP .string) (U:af x=str s) (eZ:yM af bG a) (eg:zw af ae s.length b) (aw:fV s a b=aqP r) (hk:D .pure (str r) m):bV P af o m D:=by
 obtain ⟨aI,h1,J,rfl⟩:=NM aw;obtain ⟨a',rfl⟩:=arw aI;obtain ⟨b2,rfl⟩:=arw (Int.le_trans aI h1);exact bV.pure (ah2 h ao U (G4 eZ) (Gw eg) (by omega) (by omega)) hk
theorem ag3 {s:List UInt8} {c:UInt8} {bt:aqW} {n:Int} (h:o.op= .index t x y) (ao:P.underlying t=aqP .string) (U:af x=str s) (ag:af y= .int bt n) (aG:aR s n=aqP c) (hk:D .pure (.int .u8 c.toNat) m):bV P af o m D:=by
 obtain ⟨aI,h1,J⟩:=o6 aG;exact bV.pure (ah1 h ao U ag aI J) hk
theorem amW {s:List UInt8} {tid:aqY} (h:o.op= .convert t u x) (ao:P.underlying t=aqP (.slice tid)) (he:P.underlying tid=aqP (.int .u8)) (hu:P.underlying u=aqP .string) (U:af x=v) (az:ev (kd tid) z s v) (aO:cK z e m k) (hk:D (.read fun m=>eS P af o m (str s)) (str s) m):bV P af o m D:=
 bV.read (ZA h ao he hu U (az.src aO.bg) (by obtain ⟨a,c,rfl⟩:=az.len;exact ⟨_,_,_,rfl⟩)) hk
theorem amV {s:List UInt8} {tid:aqY} (h:o.op= .convert t u x) (ao:P.underlying t=aqP (.slice tid)) (he:P.underlying tid=aqP (.int .u8)) (hu:P.underlying u=aqP .string) (U:af x=v) (az:c3 (kd tid) z e m k s v) (hk:D (.read fun m=>eS P af o m (str s)) (str s) m):bV P af o m D:=
 bV.read (ZA h ao he hu U az.bd.src (by obtain ⟨a,c,rfl⟩:=az.bd.len;exact ⟨_,_,_,rfl⟩)) hk
theorem ag2 {bK:Array (Nat×aqX)} {bc:Array Field} {pl:List (Option (Nat×Nat))} {b8:aqR} (vs:List (Nat×aqR)) (cs:List aqR) (h:o.op= .build t bK) (ao:P.underlying t=aqP (.struct bc)) (ae:P.info? t=aqP i) (aE:i.zero=aqP b8) (cg:b8.cells.toList.all cv=aqQ)
  (mw:p8 P bc=pl) (an:pl.all Option.isSome=aqQ) (lT:bK.toList.map (fun p=>(p.1,af p.2))=vs) (ab:jw (fun k=>(pl[k]?).join) b8.cells.toList vs=aqP cs) (hk:D .pure (.agg cs.toArray) m):bV P af o m D:=by
 subst mw lT;exact bV.pure (.build t bK bc i b8 cs h ao ae aE cg (by simpa[aq8] using an) ab) hk
variable {ops l:List Oper} {fr:Nat->aqR} {oB:(Nat->aqR)->Mem->Prop}
theorem fs.JP {j d:Nat} {want kH:Bool} (aG:o.guard=aqP (j,want)) (aB:(ops[j]?).bind (·.dst)=aqP d) (ad:fr d= .bool kH) (aa:kH=want) (h:bV P (aJ fr) o m fun _ v m1=>fs P ops l oB (set fr o.dst v) m1):fs P ops (o::l) oB fr m:=
 fs.JQ (by subst aa;simp[wanted,aG,aB,ad]) h
theorem fs.Iu {j d:Nat} {want kH:Bool} (aG:o.guard=aqP (j,want)) (aB:(ops[j]?).bind (·.dst)=aqP d) (ad:fr d= .bool kH) (aa:kH= !want) (h:fs P ops l oB (set fr o.dst undef) m):fs P ops (o::l) oB fr m:=
 fs.skip (by subst aa;simp[wanted,aG,aB,ad]) h
theorem fs.Qp {j d:Nat} {want:Bool} (aG:o.guard=aqP (j,want)) (aB:(ops[j]?).bind (·.dst)=aqP d) (ad:fr d=undef) (h:fs P ops l oB (set fr o.dst undef) m):fs P ops (o::l) oB fr m:=
 fs.skip (by simp[wanted,aG,aB,ad,undef]) h
theorem gq.JP {B:Array Nat} {n:Nat} {A:Acc} {j d:Nat} {want kH:Bool} (aG:o.guard=aqP (j,want)) (aB:(ops[j]?).bind (·.dst)=aqP d) (ad:fr d= .bool kH) (aa:kH=want) (h:bV P (aJ fr) o m fun t v m1=>tS B n A m t m1/\gq P ops B (n+1) l (pD A n m t) oB (set fr o.dst v) m1):gq P ops B n (o::l) A oB fr m:=
 gq.cons (by subst aa;simp[wanted,aG,aB,ad]) h
theorem gq.Iu {B:Array Nat} {n:Nat} {A:Acc} {j d:Nat} {want kH:Bool} (aG:o.guard=aqP (j,want)) (aB:(ops[j]?).bind (·.dst)=aqP d) (ad:fr d= .bool kH) (aa:kH= !want) (h:gq P ops B (n+1) l A oB (set fr o.dst undef) m):gq P ops B n (o::l) A oB fr m:=
 gq.skip (by subst aa;simp[wanted,aG,aB,ad]) h
theorem gq.Qp {B:Array Nat} {n:Nat} {A:Acc} {j d:Nat} {want:Bool} (aG:o.guard=aqP (j,want)) (aB:(ops[j]?).bind (·.dst)=aqP d) (ad:fr d=undef) (h:gq P ops B (n+1) l A oB (set fr o.dst undef) m):gq P ops B n (o::l) A oB fr m:=
 gq.skip (by simp[wanted,aG,aB,ad,undef]) h
end
end Go.aS
end
section
namespace Go.aS
theorem VG {d:TypeDesc} {k:aqR} (hk:atH d k):∀(l:List MapEntry) (i:Nat),(∀x∈l,atH d x.key)->atI d k l i=aqP (j8 k l i)
 |[],i,_=>rfl
 |e::es,i,h=>by
  obtain ⟨r,aw,na⟩:=MapKept.sameNow_of_keys hk (h e (.head _));have a8:=VG hk es (i+1) (fun x U=>h x (.tail _ U));cases r with
  |true=>have:=na.1 rfl;rw[j8,if_pos this.symm];simp[atI,aw]
  |false=>
   have ca:¬e.key=k:=fun q=>by have:=na.2 q.symm;cases this
   rw[j8,if_neg ca];simp[atI,aw,a8]
theorem Xx {P:aqV} {kt:aqY} {d:TypeDesc} (aB:P.underlying kt=aqP d) {fg:aqR->Prop} (aG:∀v,fg v->atH d v):Keyed P kt fg where
 check:=fun em v w h=>MapKept.run_checkKey aB (aG v h) em _
 find:=fun v es w h az=>MapKept.run_findKey aB (VG (aG v h) es 0 fun x U=>aG _ (az x U))
 stays:=fun v w h=>MapKept.run_keyThatStays (aG v h)
structure nL (ap bx:Type) where
 bQ:ap->List aqR
 vc:bx->List aqR
 tid:aqY
structure jX (P:aqV) (kt:aqY) {ap:Type} (bQ:ap->List aqR):Prop where
 len:∀a,(bQ a).length=P.cellsOf kt
 pos:0<P.cellsOf kt
 flat:∀a,(bQ a).all cv=aqQ
 ya:∀a,aS.flat (cZ (cT P kt) (bQ a))=aqQ
 inj:∀a b,cZ (cT P kt) (bQ a)=cZ (cT P kt) (bQ b)->a=b
 keyed:Keyed P kt fun v=>∃a,v=cZ (cT P kt) (bQ a)
structure lH (P:aqV) (vt:aqY) {bx:Type} (vc:bx->List aqR):Prop where
 len:∀b,(vc b).length=P.cellsOf vt
 one:cT P vt=aqT->P.cellsOf vt=1
 flat:∀b,(vc b).all cv=aqQ
def oY (k:aqW) (n:Int):List aqR:=[.int k n]
def B4 (s:List UInt8):List aqR:=[str s]
def sr (b:Bool):List aqR:=[.bool b]
theorem pf {P:aqV} {t:aqY} {d:TypeDesc} (h:P.underlying t=aqP d) (aB:jE d=aqT):cT P t=aqT:=by simp[cT,h,aB]
theorem aix {P:aqV} {kt:aqY} {k:aqW} {i:TypeInfo} (h:P.underlying kt=aqP (.int k)) (ae:P.info? kt=aqP i) (az:i.size=1):jX P kt (oY k) where
 len:=fun a=>by simp[oY,arY,ae,az]
 pos:=by simp[arY,ae,az]
 flat:=fun a=>rfl
 ya:=fun a=>by rw[pf h rfl];rfl
 inj:=fun a b eH=>by rw[pf h rfl] at eH;simpa[cZ,oY] using eH
 keyed:=Xx h (by rintro v ⟨a,rfl⟩;rw[pf h rfl];simp[cZ,oY,atH])
theorem Ye {a b:List UInt8} (h:str a=str b):a=b:=by
 simp only[str] at h;injection h with h;injection h with h;simpa using congrArg Array.toList h
theorem aiy {P:aqV} {kt:aqY} {i:TypeInfo} (h:P.underlying kt=aqP .string) (ae:P.info? kt=aqP i) (az:i.size=1):jX P kt B4 where
 len:=fun a=>by simp[B4,arY,ae,az]
 pos:=by simp[arY,ae,az]
 flat:=fun a=>rfl
 ya:=fun a=>by rw[pf h rfl];rfl
 inj:=fun a b eH=>by rw[pf h rfl] at eH;exact Ye eH
 keyed:=Xx h (by rintro v ⟨a,rfl⟩;rw[pf h rfl];simp[cZ,B4,str,atH])
theorem amb {P:aqV} {vt:aqY} {k:aqW} {i:TypeInfo} (h:P.underlying vt=aqP (.int k)) (ae:P.info? vt=aqP i) (az:i.size=1):lH P vt (oY k):=
 ⟨fun a=>by simp[oY,arY,ae,az],fun _=>by simp[arY,ae,az],fun _=>rfl⟩
theorem ahO {P:aqV} {vt:aqY} {i:TypeInfo} (h:P.underlying vt=aqP .bool) (ae:P.info? vt=aqP i) (az:i.size=1):lH P vt sr:=
 ⟨fun a=>by simp[sr,arY,ae,az],fun _=>by simp[arY,ae,az],fun _=>rfl⟩
section
variable {ap bx:Type}
def bs [DecidableEq ap]:List (ap×bx)->ap->Option bx
 |[],_=>aqS
 |p::es,a=>if p.1=a then aqP p.2 else bs es a
def dV [DecidableEq ap]:List (ap×bx)->ap->bx->List (ap×bx)
 |[],a,b=>[(a,b)]
 |p::es,a,b=>if p.1=a then (p.1,b)::es else p::dV es a b
def nL.mV (M:nL ap bx) (es:List (ap×bx)):List (List aqR×List aqR):=es.map fun p=>(M.bQ p.1,M.vc p.2)
def nL.cells (M:nL ap bx) (es:List (ap×bx)):List aqR:=(M.mV es).flatMap fun p=>p.1++p.2
structure hX (M:nL ap bx) (z:Nat->a6) (e m:Mem) (k:Option Nat) (es:List (ap×bx)) (v:aqR):Prop where
 bd:∃r,v= .map (aqP r)/\m.aH r= .map (M.cells es) M.tid/\r<m.next/\z r= .dead/\e.next<=r
def kD (M:nL ap bx) (z:Nat->a6) (es:List (ap×bx)) (v:aqR):Prop:=
 (v= .map aqS/\es=[])\/∃r,v= .map (aqP r)/\z r= .map (M.cells es) M.tid
def ss:aqR->Option Nat
 | .map r=>r
 |_=>aqS
variable {M:nL ap bx} {z z':Nat->a6} {e m m':Mem} {k q:Option Nat} {es:List (ap×bx)} {v:aqR}
theorem hX.lt (h:hX M z e m k es v):∀b,ss v=aqP b->b<m.next:=by
 obtain ⟨r,rfl,h1,J,aj,aM⟩:=h.bd;intro b aa;cases aa;exact J
theorem hX.same (h:hX M z e m k es v) (s:e1 m m' q) (eE:en (ss v) q):hX M z e m' k es v:=by
 obtain ⟨r,rfl,h1,J,aj,aM⟩:=h.bd;exact ⟨r,rfl,by rw[s.aH r J (eE r rfl)];exact h1,aro J s.next,aj,aM⟩
theorem hX.h8 (h:hX M z e m k es v) (aE:ew z z') (aa:∀b,ss v=aqP b->z' b=z b):hX M z' e m k es v:=by
 obtain ⟨r,rfl,h1,J,aj,aM⟩:=h.bd;exact ⟨r,rfl,h1,J,by rw[aa r rfl];exact aj,aM⟩
theorem hX.aK (h:hX M z e m k es v):∀c,ss v=aqP c->z c= .dead/\(e.next<=c\/k=aqP c):=by
 obtain ⟨r,rfl,h1,J,aj,aM⟩:=h.bd;intro c ab;cases ab;exact ⟨aj, .inl aM⟩
theorem hX.freeze (h:hX M z e m k es v) (aO:cK z e m k):∃z',cR e.next z z'/\cK z' e m k/\kD M z' es v/\∀p,en p (ss v)->∀b,p=aqP b->z' b=z b:=by
 obtain ⟨r,rfl,h1,J,aj,aM⟩:=h.bd;refine ⟨ie z m (aqP r),⟨CS fun b aa=>by cases aa;exact aj,fun b aa=> ?_⟩,⟨Hf aO.bg (fun b aa=>by cases aa;exact ⟨J,by rw[h1];rfl⟩),aO.dead,aO.lI,aO.next,aO.kept⟩, .inr ⟨r,rfl,by simp[ie,h1]⟩,fun p an b aa=> ?_⟩
 ·unfold ie;rw[if_neg];intro ct;cases ct;omega
 ·have:=an b aa;unfold ie;rw[if_neg (show ¬aqP r=aqP b from this)]
theorem kD.mono (h:kD M z es v) (aE:ew z z'):kD M z' es v:=by
 rcases h with h|⟨r,rfl,h1⟩
 ·exact .inl h
 ·exact .inr ⟨r,rfl,by rw[aE r (by rw[h1];exact arb)];exact h1⟩
theorem G2 {P:aqV} {kt vt:aqY} (K:jX P kt M.bQ) (V:lH P vt M.vc) (es:List (ap×bx)):nJ (P.cellsOf kt) (P.cellsOf vt) (M.cells es) (M.mV es):=by
 refine ⟨rfl,fun p an=> ?_⟩;obtain ⟨x,U,rfl⟩:=aq'.1 an;exact ⟨K.len _,V.len _⟩
theorem Ya [DecidableEq ap] {P:aqV} {kt vt:aqY} (K:jX P kt M.bQ) (a:ap) (z0:bx):∀es:List (ap×bx),td (cT P kt) (cT P vt) (cZ (cT P kt) (M.bQ a)) (cZ (cT P vt) (M.vc z0)) (M.mV es) (cZ (cT P vt) (M.vc ((bs es a).getD z0))) (bs es a).isSome
 |[]=> .pV
 |p::es=>by
  simp only[bs];by_cases h:p.1=a
  ·rw[if_pos h];exact .kj (M.bQ p.1,M.vc p.2) (M.mV es) (by rw[h])
  ·rw[if_neg h];exact .next (M.bQ p.1,M.vc p.2) (M.mV es) _ _ (fun ax=>h (K.inj _ _ ax)) (Ya K a z0 es)
theorem YV [DecidableEq ap] {P:aqV} {kt:aqY} (K:jX P kt M.bQ) (a:ap) (b:bx):∀es:List (ap×bx),tk (cT P kt) (M.bQ a) (M.vc b) (M.mV es) (M.mV (dV es a b))
 |[]=> .pV
 |p::es=>by
  simp only[dV];by_cases h:p.1=a
  ·rw[if_pos h];exact .kj (M.bQ p.1,M.vc p.2) (M.mV es) (by rw[h])
  ·rw[if_neg h];exact .next (M.bQ p.1,M.vc p.2) (M.mV es) _ (fun ax=>h (K.inj _ _ ax)) (YV K a b es)
theorem WC {P:aqV} {kt:aqY} (es:List (ap×bx)):∀p∈M.mV es,∃a,cZ (cT P kt) p.1=cZ (cT P kt) (M.bQ a):=by
 intro p an;obtain ⟨x,U,rfl⟩:=aq'.1 an;exact ⟨x.1,rfl⟩
theorem Nl {P:aqV} {vt:aqY} {vc:bx->List aqR} (V:lH P vt vc) (b:bx):ir (cZ (cT P vt) (vc b))=aqQ:=by
 have h1:=V.flat b;have J:=V.len b;cases au:cT P vt with
 |true=>simpa[cZ,ir] using h1
 |false=>
  rw[V.one au] at J
  match ad:vc b,J with
  |[c],_=>rw[ad] at h1;simp at h1;simp only[cZ,List.headD_cons];cases c<;>first|exact h1|(simp[cv] at h1;done)|(simp[cv] at h1;simp[h1])
variable {P:aqV} {af:aqX->aqR} {o:Oper} {D:Tag->aqR->Mem->Prop} {x cx:aqX} {gz kt vt:aqY} {i:TypeInfo} {a:ap} {z0:bx} {de q7:aqR} {ok:Bool}
theorem YE [DecidableEq ap] {r:Nat} (h:o.op= .lookup gz x cx ok) (hf:P.underlying gz=aqP (.map kt vt)) (hu:P.underlying M.tid=aqP (.map kt vt)) (K:jX P kt M.bQ) (V:lH P vt M.vc) (ae:P.info? vt=aqP i) (aE:i.zero=aqP (cZ (cT P vt) (M.vc z0)))
  (U:af x= .map (aqP r)) (hm:m.aH r= .map (M.cells es) M.tid) (mu:af cx=cZ (cT P kt) (M.bQ a)):
  eS P af o m (if ok then .tuple #[cZ (cT P vt) (M.vc ((bs es a).getD z0)), .bool (bs es a).isSome] else cZ (cT P vt) (M.vc ((bs es a).getD z0))):=
 .lookup gz x cx ok M.tid kt vt r _ _ i _ _ _ _ h hf hu (.inl ⟨U,hm,G2 K V es⟩) K.pos V.one K.keyed (by rw[mu];exact K.ya a) ⟨a,mu⟩ (WC es) ae aE (Nl V z0) (by rw[mu];exact Ya K a z0 es)
theorem ain [DecidableEq ap] (h:o.op= .lookup gz x cx ok) (hf:P.underlying gz=aqP (.map kt vt)) (hu:P.underlying M.tid=aqP (.map kt vt)) (K:jX P kt M.bQ) (V:lH P vt M.vc) (ae:P.info? vt=aqP i) (aE:i.zero=aqP (cZ (cT P vt) (M.vc z0)))
  (U:af x=v) (ah:hX M z e m k es v) (mu:af cx=q7) (n1:q7=cZ (cT P kt) (M.bQ a)) {y:Option bx} (ag:bs es a=y)
  (hw:(if ok then .tuple #[cZ (cT P vt) (M.vc (y.getD z0)), .bool y.isSome] else cZ (cT P vt) (M.vc (y.getD z0)))=de):eS P af o m de:=by
 obtain ⟨r,rfl,h1,_⟩:=ah.bd;subst hw ag;exact YE h hf hu K V ae aE U h1 (mu.trans n1)
theorem Yn [DecidableEq ap] (h:o.op= .lookup gz x cx ok) (hf:P.underlying gz=aqP (.map kt vt)) (hu:P.underlying M.tid=aqP (.map kt vt)) (K:jX P kt M.bQ) (V:lH P vt M.vc) (ae:P.info? vt=aqP i) (aE:i.zero=aqP (cZ (cT P vt) (M.vc z0)))
  (U:af x=v) (ah:hX M z e m k es v) (mu:af cx=q7) (n1:q7=cZ (cT P kt) (M.bQ a)) {y:Option bx} (ag:bs es a=y)
  (hw:(if ok then .tuple #[cZ (cT P vt) (M.vc (y.getD z0)), .bool y.isSome] else cZ (cT P vt) (M.vc (y.getD z0)))=de) (hk:D (.read fun m=>eS P af o m de) de m):bV P af o m D:=
 bV.read (ain h hf hu K V ae aE U ah mu n1 ag hw) hk
theorem aio [DecidableEq ap] (h:o.op= .lookup gz x cx ok) (hf:P.underlying gz=aqP (.map kt vt)) (hu:P.underlying M.tid=aqP (.map kt vt)) (K:jX P kt M.bQ) (V:lH P vt M.vc) (ae:P.info? vt=aqP i) (aE:i.zero=aqP (cZ (cT P vt) (M.vc z0)))
  (U:af x=v) (ah:kD M z es v) (bg:jW z m) (mu:af cx=q7) (n1:q7=cZ (cT P kt) (M.bQ a)) {y:Option bx} (ag:bs es a=y)
  (hw:(if ok then .tuple #[cZ (cT P vt) (M.vc (y.getD z0)), .bool y.isSome] else cZ (cT P vt) (M.vc (y.getD z0)))=de):eS P af o m de:=by
 subst hw ag;rcases ah with ⟨rfl,rfl⟩|⟨r,rfl,h1⟩
 ·exact .lookup gz x cx ok M.tid kt vt 0 [] [] i _ _ _ _ h hf hu (.inr ⟨U,rfl⟩) K.pos V.one K.keyed (by rw[mu,n1];exact K.ya a) ⟨a,mu.trans n1⟩ (fun p an=>by simp at an) ae aE (Nl V z0) .pV
 ·exact YE h hf hu K V ae aE U (by rw[(bg.fF (show (_:a6).fF by rw[h1];exact arb)).1];exact h1) (mu.trans n1)
theorem Yo [DecidableEq ap] (h:o.op= .lookup gz x cx ok) (hf:P.underlying gz=aqP (.map kt vt)) (hu:P.underlying M.tid=aqP (.map kt vt)) (K:jX P kt M.bQ) (V:lH P vt M.vc) (ae:P.info? vt=aqP i) (aE:i.zero=aqP (cZ (cT P vt) (M.vc z0)))
  (U:af x=v) (ah:kD M z es v) (aO:cK z e m k) (mu:af cx=q7) (n1:q7=cZ (cT P kt) (M.bQ a)) {y:Option bx} (ag:bs es a=y)
  (hw:(if ok then .tuple #[cZ (cT P vt) (M.vc (y.getD z0)), .bool y.isSome] else cZ (cT P vt) (M.vc (y.getD z0)))=de) (hk:D (.read fun m=>eS P af o m de) de m):bV P af o m D:=
 bV.read (aio h hf hu K V ae aE U ah aO.bg mu n1 ag hw) hk
theorem afR {t:aqY} (M:nL ap bx) (h:o.op= .makeMap t aqS) (ao:P.underlying t=aqP (.map kt vt)) (av:M.tid=t) (aO:cK z e m k)
  (hk:∀bl m',cK z e m' k->hX M z e m' k [] bl->e1 m m' aqS->(∀p,(∀b,p=aqP b->b<m.next)->en p (ss bl))->D .new bl m'):bV P af o m D:=by
 have adC:z m.next= .dead:=by
  cases aE:z m.next with
  |dead=>rfl
  |ro rd=>have:=(aO.bg m.next (by rw[aE];simp)).2;omega
  |own L t=>have:=(aO.bg m.next (by rw[aE];simp)).2;omega
  |map L t=>have:=(aO.bg m.next (by rw[aE];simp)).2;omega
  |lock _ _ _ _=>have:=(aO.bg m.next (by rw[aE];simp)).2;omega
 refine bV.new (.makeMap t kt vt h ao) (hk _ _ (aO.push _) ⟨m.next,rfl,by simp[Mem.push,nL.cells,nL.mV,av],by simp[Mem.push],adC,aO.next⟩ (Cx aO.dead) fun p an b aa nS=> ?_);cases nS;have:=an _ aa;omega
theorem ag4 [DecidableEq ap] {ij ix:aqX} {b:bx} {z8:aqR} (h:o.op= .mapUpdate gz x ij ix\/o.op= .insert gz x ij ix) (hf:P.underlying gz=aqP (.map kt vt)) (hu:P.underlying M.tid=aqP (.map kt vt)) (K:jX P kt M.bQ) (V:lH P vt M.vc)
  (U:af x=v) (ah:hX M z e m k es v) (jn:af ij=q7) (n1:q7=cZ (cT P kt) (M.bQ a)) (yH:af ix=z8) (adv:z8=cZ (cT P vt) (M.vc b)) (aO:cK z e m k) {tu:List (ap×bx)} (jM:dV es a b=tu)
  (hk:∀m',cK z e m' k->hX M z e m' k tu v->e1 m m' (ss v)->D .e3 undef m'):bV P af o m D:=by
 obtain ⟨r,rfl,h1,J,aj,aM⟩:=ah.bd;subst jM;have j3:=CM (x:= .map (M.cells (dV es a b)) M.tid) aO.dead J;have hc:=Nl V b;have ME:=yH.trans adv;have dF:storable (af ix)=aqQ:=by rw[ME];cases ab:cZ (cT P vt) (M.vc b)<;>first|rfl|(rw[ab] at hc;simp[ir,cv] at hc;done)|(rw[ab] at hc;simp only[ir,cv,aq5,Array.isEmpty_iff] at hc;simp[storable,hc.1,hc.2])
 have abM:∀c∈M.vc b,c∈(af ix).cells.toList:=by
  intro c ab;rw[ME];cases au:cT P vt with
  |true=>simpa[cZ,atg] using ab
  |false=>
   have J:=V.len b;rw[V.one au] at J
   match ad:M.vc b,J with
   |[d],_=>rw[ad] at ab;simp at ab;subst ab;simp only[cZ,List.headD_cons];have aP:=V.flat b;rw[ad] at aP;simp at aP;cases c<;>first|(simp[cv] at aP;done)|simp[atg]
 refine bV.e3 (n:=0) (.mapUpdate gz x ij ix M.tid kt vt r _ (M.bQ a) (M.vc b) _ (M.mV (dV es a b)) _ h hf hu U h1 (G2 K V es) K.pos K.keyed (jn.trans n1) (K.len a) (K.flat a) (by rw[jn,n1];exact K.ya a) ⟨a,jn.trans n1⟩ (WC es) dF ME (V.len b) abM (YV K a b es)) (hk _ (aO.same j3 ah.aK) ⟨r,rfl,by simp[Mem.put,nL.cells],J,aj,aM⟩ j3)
end
end Go.aS
end
section
namespace Go.aS
section
variable {P:aqV} {af:aqX->aqR} {o:Oper} {x y:aqX} {t u:aqY} {k aaa:aqW} {a:Int}
noncomputable instance aqD:DecidableEq aqR:=fun _ _=>arR _
def Ee (P:aqV) (t:aqY) (x y:aqR):Prop:=
 (∃k dc a b,P.underlying t=aqP (.int dc)/\x= .int k a/\y= .int k b)\/(∃a b,P.underlying t=aqP .bool/\x= .bool a/\y= .bool b)\/(∃a b,P.underlying t=aqP .string/\x=str a/\y=str b)
def me (P:aqV):List Field->Nat->List aqR->List aqR->Prop
 |[],_,[],[]=>True
 | f :: bc, i, x :: xs, y :: bk => f.offset = i ∧ f.name ≠ "_" ∧ Ee P f.type x y ∧ me P bc (i + 1) xs bk
 |_,_,_,_=>False
theorem agt {t:aqY} {x y:aqR} (h:Ee P t x y) (d:Nat) (w:World):(as5 (d+1) t x y).run P w= .ok (decide (x=y)) w:=by
 rcases h with ⟨k,dc,a,b,h,rfl,rfl⟩|⟨a,b,h,rfl,rfl⟩|⟨a,b,h,rfl,rfl⟩
 ·rw[run_equalIn_int w d t k dc a b h];congr 1;rw[arV];simp
 ·rw[run_equalIn_bool' w d t a b h];congr 1;rw[arV];simp
 ·rw[str,str,run_equalIn_string w d t _ _ h];congr 1;rw[arV];simp[ByteArray.toList_eq]
theorem V7 {t:aqY} {x y:aqR} (h:Ee P t x y):cT P t=aqT:=by
 rcases h with ⟨k,dc,a,b,h,_⟩|⟨a,b,h,_⟩|⟨a,b,h,_⟩<;>simp[cT,h,jE]
theorem CL {t:aqY} {cs:Array aqR} {i:Nat} {v:aqR} (au:cT P t=aqT) {d:TypeDesc} (aB:P.underlying t=aqP d) (ad:cs[i]? =aqP v) (w:World):(part t cs i).run P w= .ok v w:=by
 have:jE d=aqT:=by simpa[cT,aB] using au
 simp[part,wB aB,this,ad]
theorem Xi {t:aqY} {x y:aqR} (h:Ee P t x y):∃d,P.underlying t=aqP d:=by
 rcases h with ⟨k,dc,a,b,h,_⟩|⟨a,b,h,_⟩|⟨a,b,h,_⟩<;>exact ⟨_,h⟩
theorem V4 {pre pre':List aqR} (d:Nat) (w:World):∀{bc:List Field} {i:Nat} {xs bk:List aqR},me P bc i xs bk->pre.length=i->pre'.length=i->(Op.eqFields (d+1) (pre++xs).toArray (pre'++bk).toArray bc).run P w= .ok (decide (xs=bk)) w
 |[],i,[],[],_,_,_=>by simp[Op.eqFields]
 |f::bc,i,x::xs,y::bk,⟨h1,J,aj,aM⟩,an,mv=>by
  obtain ⟨mm,aB⟩:=Xi aj;have au:=V7 aj;have g1:=CL (P:=P) (cs:=(pre++x::xs).toArray) (i:=f.offset) (v:=x) au aB (by rw[h1,<-an];simp) w;have g2:=CL (P:=P) (cs:=(pre'++y::bk).toArray) (i:=f.offset) (v:=y) au aB (by rw[h1,<-mv];simp) w;have a8:=V4 (pre:=pre++[x]) (pre':=pre'++[y]) d w aM (by simp[an]) (by simp[mv]);simp only[asM,atJ] at a8;simp only[Op.eqFields];rw[if_pos J];simp only[arl,g1,g2,arh,agt aj d w];by_cases lg:x=y
  ·simp only[lg,decide_true,ass,Bool.false_eq_true,if_false];rw[<-lg] at a8⊢;rw[lg] at a8⊢;rw[a8];simp
  ·simp[lg]
 |[],_,_::_,_,h,_,_=>h.elim
 |[],_,[],_::_,h,_,_=>h.elim
 |_::_,_,[],_,h,_,_=>h.elim
 |_::_,_,_::_,[],h,_,_=>h.elim
theorem Yl {bc:Array Field} {xs bk:List aqR} (ao:P.underlying t=aqP (.struct bc)) (an:P.stoodInHeld t=aqT) (h:me P bc.toList 0 xs bk) (w:World):(as5 10000 t (.agg xs.toArray) (.agg bk.toArray)).run P w= .ok (decide (xs=bk)) w:=by
 have aP:P.fieldsOf t=bc:=by simp[aqV.fieldsOf,ao]
 rw[show (10000:Nat)=9998+1+1 from rfl,run_equalIn_struct w _ t _ _ (by rw[aP];exact ao) an,aP];have:=V4 (P:=P) (pre:=[]) (pre':=[]) 9998 w h rfl rfl;simpa using this
theorem me.flat:∀{bc:List Field} {i:Nat} {xs bk:List aqR},me P bc i xs bk->xs.all cv=aqQ/\bk.all cv=aqQ
 |[],i,[],[],_=>⟨rfl,rfl⟩
 |f::bc,i,x::xs,y::bk,⟨_,_,aj,aM⟩=>by
  obtain ⟨g1,g2⟩:=me.flat aM;have:cv x=aqQ/\cv y=aqQ:=by rcases aj with ⟨k,dc,a,b,h,rfl,rfl⟩|⟨a,b,h,rfl,rfl⟩|⟨a,b,h,rfl,rfl⟩<;>exact ⟨rfl,rfl⟩
  simp[this.1,this.2,g1,g2]
 |[],_,_::_,_,h=>h.elim
 |[],_,[],_::_,h=>h.elim
 |_::_,_,[],_,h=>h.elim
 |_::_,_,_::_,[],h=>h.elim
theorem Vs {bc:Array Field} {xs bk:List aqR} {r:Bool} (neq:Bool) (h:o.op= .binOp (if neq then .neq else .eql) t x y u) (ao:P.underlying t=aqP (.struct bc)) (an:P.stoodInHeld t=aqT) (aG:P.eqGuardType P.depth t=aqT) (az:me P bc.toList 0 xs bk)
  (U:af x= .agg xs.toArray) (ag:af y= .agg bk.toArray) (aw:r=aqQ↔xs=bk):cO P af o (.bool (if neq then !r else r)):=by
 have hc:=az.flat;refine so (x:=x) (y:=y) (by rw[h];rfl) (by rw[h];intros;simp) (by rw[U];simpa[flat,ir] using hc.1) (by rw[ag];simpa[flat,ir] using hc.2) rfl fun w=> ?_;have he:=Yl ao an az w;have dE:decide (xs=bk)=r:=by
  by_cases lg:xs=bk
  ·simp[lg,aw.2 lg]
  ·have:r=aqT:=by
    cases r with
    |false=>rfl
    |true=>exact absurd (aw.1 rfl) lg
   simp[lg,this]
 rw[dE] at he;cases neq with
 |false=>simp[execOp,h,U,ag,run_eqGuard_agg w _ _ _ _ _ _ aG,run_eql_struct,he]
 |true=>simp[execOp,h,U,ag,run_eqGuard_agg w _ _ _ _ _ _ aG,run_neq_struct,he]
end
section
variable {ap:Type} {T:cf ap} {z:Nat->a6} {e m:Mem} {k:Option Nat} {xs:List ap} {v:aqR} {t:aqY}
variable {P:aqV} {af:aqX->aqR} {o:Oper} {x:aqX} {i:TypeInfo} {D:Tag->aqR->Mem->Prop}
end
theorem afm {P:aqV} {t:aqY} {bc:Array Field} {xs:List aqR} (ao:P.underlying t=aqP (.struct bc)) (h:me P bc.toList 0 xs xs) (em:Bool) (w:World):(aso em 10000 t (.agg xs.toArray)).run P w= .ok () w:=by
 have key:∀{bc:List Field} {i:Nat} {bk pre:List aqR},me P bc i bk bk->pre.length=i->∀w,
   (forIn bc PUnit.unit fun f _=>(do
    if f.name ≠ "_" then aso em 9999 f.type (← part f.type (pre ++ bk).toArray f.offset)
    pure (ForInStep.yield PUnit.unit):Sem (ForInStep PUnit))).run P w= .ok PUnit.unit w:=by
  intro bc;induction bc with
  |nil=>intro i bk pre h an w;simp
  |cons f bc a8=>
   intro i bk pre h an w;cases bk with
   |nil=>exact h.elim
   |cons y bk=>
    obtain ⟨h1,J,aj,aM⟩:=h;obtain ⟨mm,aB⟩:=Xi aj;have g1:=CL (P:=P) (cs:=(pre++y::bk).toArray) (i:=f.offset) (v:=y) (V7 aj) aB (by rw[h1,<-an];simp) w;have g2:(aso em 9999 f.type y).run P w= .ok () w:=by
     have aK:∀n:Nat,(aso em (n+1) f.type y).run P w= .ok () w:=by intro n;rcases aj with ⟨k,dc,a,b,h,rfl,_⟩|⟨a,b,h,rfl,_⟩|⟨a,b,h,rfl,_⟩<;>simp[aso,ed h,str]
     exact aK 9998
    have a8:=a8 (pre:=pre++[y]) aM (by simp[an]) w;simp only[asM,atJ] at a8;simp only[List.forIn_cons,if_pos J,arl,g1,arh,g2,ary];exact a8
 have:=key (pre:=[]) h rfl w;simp only[asj] at this;have aK:∀n:Nat,n=9999->(aso em (n+1) t (.agg xs.toArray)).run P w= .ok () w:=by
  rintro n rfl;rw[aso];simp only[arl,ed ao,arh,<-Array.forIn_toList]
  erw [this]
  rfl
 exact aK 9999 rfl
theorem aeS {v:aqR} (n:Nat) (h:(∃k a,v= .int k a)\/(∃a,v= .bool a)\/∃a,v=str a):atj n v v=aqQ:=by
 rcases h with ⟨k,a,rfl⟩|⟨a,rfl⟩|⟨a,rfl⟩
 ·cases n<;>simp[atj]
 ·cases n<;>simp[atj]
 ·cases n<;>simp[atj,str,MapKept.bytes_beq]
theorem me.mem {P:aqV}:∀{bc:List Field} {i:Nat} {xs bk:List aqR},me P bc i xs bk->∀v∈xs,(∃k a,v= .int k a)\/(∃a,v= .bool a)\/∃a,v=str a
 |[],i,[],[],_,v,ad=>by simp at ad
 |f::bc,i,x::xs,y::bk,⟨_,_,aj,aM⟩,v,ad=>by
  rcases aq6.1 ad with rfl|ad
  ·rcases aj with ⟨k,dc,a,b,h,rfl,rfl⟩|⟨a,b,h,rfl,rfl⟩|⟨a,b,h,rfl,rfl⟩
   ·exact .inl ⟨_,_,rfl⟩
   ·exact .inr (.inl ⟨_,rfl⟩)
   ·exact .inr (.inr ⟨_,rfl⟩)
  ·exact me.mem aM v ad
 |[],_,_::_,_,h,_,_=>h.elim
 |[],_,[],_::_,h,_,_=>h.elim
 |_::_,_,[],_,h,_,_=>h.elim
 |_::_,_,_::_,[],h,_,_=>h.elim
theorem Yp {P:aqV} {kt:aqY} {d:TypeDesc} {i:TypeInfo} {ap:Type} {bQ:ap->List aqR} (ao:P.underlying kt=aqP d) (aB:jE d=aqQ) (ae:P.info? kt=aqP i) (dS:(i.size==0)=aqT) (hlen:∀a,(bQ a).length=i.size)
  (hc:∀a,(bQ a).all cv=aqQ) (hm:∀a,∀v∈bQ a,(∃k n,v= .int k n)\/(∃n,v= .bool n)\/∃n,v=str n) (Bw:∀a b,bQ a=bQ b->a=b)
  (Fe:∀a em w,(aso em 10000 kt (.agg (bQ a).toArray)).run P w= .ok () w) (dn:∀a b w,(Op.equal kt (.agg (bQ a).toArray) (.agg (bQ b).toArray)).run P w= .ok (decide (bQ a=bQ b)) w):jX P kt bQ where
 len:=fun a=>by rw[hlen];simp[arY,ae]
 pos:=by
  have:i.size≠0:=by intro h;rw[h] at dS;cases dS
  simp[arY,ae];omega
 flat:=hc
 ya:=fun a=>by have:=hc a;simpa[cT,ao,aB,cZ,aS.flat,ir] using this
 inj:=fun a b eH=>by simp only[cT,ao,aB,cZ] at eH;injection eH with eH;exact Bw a b (by simpa using eH)
 keyed:=by
  have yi:∀a,cZ (cT P kt) (bQ a)= .agg (bQ a).toArray:=fun a=>by simp[cT,ao,aB,cZ]
  refine ⟨?_, ?_, ?_⟩
  ·rintro em v w ⟨a,rfl⟩;rw[yi];exact Fe a em w
  ·rintro v es w ⟨a,rfl⟩ jM;rw[yi] at*;have now:atI d (.agg (bQ a).toArray) es 0=(match es with|[]=>aqP aqS|_::_=>aqS):=by
    cases es with
    |nil=>rfl
    |cons e es=>cases d<;>first|(cases aB;done)|simp[atI,Instr.sameNow]
   have aaI:∀(es:List MapEntry) (n:Nat),(∀x∈es,∃b,x.key=cZ (cT P kt) (bQ b))->(auh kt (.agg (bQ a).toArray) es n).run P w= .ok (j8 (.agg (bQ a).toArray) es n) w:=by
    intro es;induction es with
    |nil=>intro n _;simp[auh,j8]
    |cons e es a8=>
     intro n jM;obtain ⟨b,aa⟩:=jM e (by simp);have Bo:(Op.equal kt (.agg (bQ a).toArray) e.key).run P w= .ok (decide (bQ a=bQ b)) w:=by rw[aa,yi];exact dn a b w
     have a8:=a8 (n+1) fun x U=>jM x (by simp[U]);simp only[auh,arl,Bo,arh];by_cases eH:bQ a=bQ b
     ·have:e.key= .agg (bQ a).toArray:=by rw[aa,yi,eH]
      simp[eH,j8,this]
     ·have:¬e.key= .agg (bQ a).toArray:=by
       rw[aa,yi];intro h;injection h with h;exact eH (by simpa using h.symm)
      simp[eH,j8,this,a8]
   simp only[Instr.findKey,arl,ed ao,arh,now];cases es with
   |nil=>simp[j8]
   |cons e es=>exact aaI (e::es) 0 jM
  ·rintro v w ⟨a,rfl⟩;rw[yi];have aa:atj 10000 (.agg (bQ a).toArray) (.agg (bQ a).toArray)=aqQ:=by
    have hm:=hm a;show (atj (9999+1) _ _)=aqQ;simp only[atj,beq_self_eq_true,Bool.true_and,aq8];rintro ⟨p,q⟩ oU;have:p=q/\p∈bQ a:=by
     have h1:=List.of_mem_zip oU;have:∀l:List aqR,(p,q)∈l.zip l->p=q:=by
      intro l;induction l with
      |nil=>intro h;simp at h
      |cons z l a8=>
       intro h;simp at h;rcases h with ⟨rfl,rfl⟩|h
       ·rfl
       ·exact a8 h
     exact ⟨this _ (by simpa using oU),by simpa using h1.1⟩
    obtain ⟨rfl,J⟩:=this;exact aeS _ (hm p J)
   simp[Instr.keyThatStays,aa]
theorem afG {P:aqV} {kt:aqY} {bc:Array Field} {i:TypeInfo} {ap:Type} {bQ:ap->List aqR} (ao:P.underlying kt=aqP (.struct bc)) (ae:P.info? kt=aqP i) (an:P.stoodInHeld kt=aqT) (dS:(i.size==0)=aqT) (hlen:∀a,(bQ a).length=i.size)
  (az:∀a b,me P bc.toList 0 (bQ a) (bQ b)) (Bw:∀a b,bQ a=bQ b->a=b):jX P kt bQ:=
 Yp ao rfl ae dS hlen (fun a=>(az a a).flat.1) (fun a=>(az a a).mem) Bw (fun a em w=>afm ao (az a a) em w) fun a b w=>Yl ao an (az a b) w
theorem ag5 {P:aqV} {kt e:aqY} {i B2:TypeInfo} {k:aqW} {ap:Type} {bQ:ap->List aqR} (f g:ap->Int) (ao:P.underlying kt=aqP (.array 2 e)) (he:P.underlying e=aqP (.int k)) (hV:P.info? e=aqP B2) (h1:B2.size=1) (ae:P.info? kt=aqP i) (J:i.size=2)
  (hk:∀a,bQ a=[.int k (f a), .int k (g a)]) (Bw:∀a b,f a=f b->g a=g b->a=b):jX P kt bQ:=by
 have bC:∀w,(Go.sizeOf e).run P w= .ok 1 w:=fun w=>by have:=run_sizeOf w hV;simpa[arY,hV,h1] using this
 have Uz:jE (.int k)=aqT:=rfl;have ll:∀(a:ap) w,(part e (bQ a).toArray 0).run P w= .ok (.int k (f a)) w:=fun a w=>CL (P:=P) (cs:=(bQ a).toArray) (i:=0) (v:= .int k (f a)) (pf he Uz) he (by rw[hk];rfl) w;have dm:∀(a:ap) w,(part e (bQ a).toArray 1).run P w= .ok (.int k (g a)) w:=fun a w=>CL (P:=P) (cs:=(bQ a).toArray) (i:=1) (v:= .int k (g a)) (pf he Uz) he (by rw[hk];rfl) w;refine Yp (d:= .array 2 e) ao rfl ae (by rw[J];rfl) (fun a=>by rw[hk,J];rfl) (fun a=>by rw[hk];rfl) (fun a v ad=> ?_) (fun a b h=> ?_) (fun a em w=> ?_) fun a b w=> ?_
 ·rw[hk] at ad;rcases aq6.1 ad with rfl|ad
  ·exact .inl ⟨_,_,rfl⟩
  ·rcases aq6.1 ad with rfl|ad
   ·exact .inl ⟨_,_,rfl⟩
   ·cases ad
 ·rw[hk,hk] at h;injection h with aj aM;injection aM with aM _;exact Bw a b (by injection aj) (by injection aM)
 ·have ab:∀(n:Nat) x w,(aso em (n+1) e (.int k x)).run P w= .ok () w:=by
   intro n x w;simp[aso,ed he]
  have aK:∀n:Nat,(aso em (n+1+1) kt (.agg (bQ a).toArray)).run P w= .ok () w:=by intro n;rw[aso];simp only[arl,ed ao,arh];simp only[aut,auu,Nat.sub_zero,Nat.add_one_sub_one,Nat.div_one];simp[show List.range' 0 2=[0,1] from rfl,bC,ll,dm,ab]
  exact aK 9998
 ·have vv:∀(n:Nat) x y w,(as5 (n+1) e (.int k x) (.int k y)).run P w= .ok (x==y) w:=by
   intro n x y w;simp[as5,ed he]
  have aK:∀n:Nat,(as5 (n+1+1) kt (.agg (bQ a).toArray) (.agg (bQ b).toArray)).run P w= .ok (decide (bQ a=bQ b)) w:=by
   intro n;rw[as5];simp only[arl,ed ao,arh,bC];simp only[aut,auu,Nat.sub_zero,Nat.add_one_sub_one,Nat.div_one];have aB:decide (bQ a=bQ b)=(f a==f b&&g a==g b):=by rw[hk,hk,arV];simp
   rw[aB];cases aj:f a==f b<;>cases aM:g a==g b<;>simp[show List.range' 0 2=[0,1] from rfl,bC,ll,dm,vv,aj,aM]
  exact aK 9998
@[reducible] def aqB (n:Int):aqR:= .int .i64 n
@[reducible] def aqA (b:Bool):aqR:= .bool b
@[reducible] def aqC (b:Nat):aqR:= .pointer (aqP ⟨b,0,aqS⟩)
section
variable {P:aqV} {ops l:List Oper} {K:(Nat->aqR)->Mem->Prop} {fr:Nat->aqR} {m:Mem} {o:Oper} {v:aqR}
theorem anr (aG:wanted ops fr o=aqQ) (h:cO P (aJ fr) o v) (hk:fs P ops l K (set fr o.dst v) m):fs P ops (o::l) K fr m:=fs.JQ aG (bV.pure h hk)
theorem ij {j d:Nat} {want kH:Bool} (aG:o.guard=aqP (j,want)) (aB:(ops[j]?).bind (·.dst)=aqP d) (ad:fr d= .bool kH) (aa:kH= !want) (h:fs P ops l K (set fr o.dst undef) m):fs P ops (o::l) K fr m:=fs.Iu aG aB ad aa h
end
structure apL {ap:Type} (T:cf ap) (z:Nat->a6) (e m:Mem) (k:Option Nat) (xs:List ap) (v:aqR):Prop where
 bd:eI T z m xs v
 fresh:∀b,cn v=aqP b->e.next<=b\/k=aqP b
section
variable {ap:Type} {T:cf ap} {z z':Nat->a6} {e m m':Mem} {k q:Option Nat} {xs:List ap} {v v0:aqR} {t:aqY}
variable {P:aqV} {af:aqX->aqR} {o:Oper} {w:aqR} {bk:List ap} {x y:aqX} {u:aqY} {i:TypeInfo} {K:aqR->Mem->Prop} {D:Tag->aqR->Mem->Prop}
end
end Go.aS
end
section
namespace Go.aS
theorem Ws (w:World):∀b,(gU w).next<=b->(gU w).aH b= .dead:=(Yc w).dead
theorem ahS (w:World):jW (gU w).aH (gU w):=fun b aa=>⟨by
 by_cases h:b<w.heap.size
 ·simp[gU,h,a6.mem]
 ·simp[gU,h,a6.mem],by
 by_cases h:b<(gU w).next
 ·exact h
 ·exact absurd (Ws w b (by omega)) aa⟩
theorem NU {w:World} {b:Nat} (h:b<w.heap.size):((gU w).aH b).fF:=by
 simp[gU,h,a6.fF]
theorem ad0 {w:World} {b o:Nat} {v:aqR} (h:(gU w).load b o=aqP v):kN (gU w).aH b o=aqP v:=by
 unfold Mem.load at h;unfold kN;exact h
open Classical in
noncomputable def seen (w:World) (b:Nat) (c:aqR):aqR:=if dy (gN w) c c then c else (xd b c).getD c
theorem wi {w:World} {b:Nat} {c:aqR} (h:dy (gN w) c c):seen w b c=c:=by simp[seen,h]
def yX (w:World) (c:aqR):Prop:=dy (gN w) c c\/∃a,c= .slice (aqP a) 0 0
theorem CI {w:World} {c:aqR} (h:cv c=aqQ):yX w c:= .inl (p0 h)
theorem Cm {w:World} {b:Nat} {c:aqR} (h:cv c=aqQ):seen w b c=c:=wi (p0 h)
theorem aqs {w:World} {b:Nat} {c:aqR} (h:yX w c) (aa:b<w.heap.size):dy (gN w) (seen w b c) c:=by
 by_cases ad:dy (gN w) c c
 ·rw[wi ad];exact ad
 ·rcases h with h|⟨a,rfl⟩
  ·exact absurd h ad
  ·simp only[seen,ad,if_false,xd,asg];exact ⟨⟨b,0,0,0⟩,rfl,by simp[gN,aa], .inr (.inr (.inr ⟨rfl,rfl,a,rfl⟩))⟩
theorem agM {w:World} {b o:Nat} {c:aqR} (h:yX w c) (ab:w.cell? ⟨b,o,aqS⟩=aqP c):(gU w).load b o=aqP (seen w b c):=by
 have aN:b<w.heap.size:=World.block_lt_of_cell? w ⟨b,o,aqS⟩ ab;by_cases ad:dy (gN w) c c
 ·rw[wi ad];exact afM ab ad
 ·rcases h with h|⟨a,rfl⟩
  ·exact absurd h ad
  ·simp[Mem.load,gU,aN,ab,ad,xd,seen]
theorem ae' {w:World} {a:Addr} {v:aqR} (h:w.cell? a=aqP v):a.spot=aqS/\a.block<w.heap.size:=by
 refine ⟨?_,World.block_lt_of_cell? w a h⟩;simp only[World.cell?] at h;split at h
 ·split at h
  ·cases h
  ·rename_i az;simpa using az
 ·cases h
structure nN (P:aqV) {ap:Type} (T:cf ap) (G:ap->Prop):Prop where
 a1:P.cellsOf T.tid=T.a1
 pos:0<T.a1
 rd:∀{H:Type} {enc:aqY×aqR->H} {w:World} {mW:Nat} {cs:List aqR} {x:DataW H×List MemPlace},atK enc P w 0 (fun _=>aqQ) aqQ mW T.tid cs=aqP x->
  (∀c∈cs,yX w c)/\∀b,(b<w.heap.size\/∀c∈cs,dy (gN w) c c)->∃a,T.rd (gU w).aH a (cs.map (seen w b))/\G a
theorem nN.conv {P:aqV} {ap:Type} {T AO:cf ap} {G:ap->Prop} (h:nN P T G) (ao:AO.tid=T.tid) (az:AO.a1=T.a1) (aw:∀z x cs,T.rd z x cs->AO.rd z x cs):nN P AO G where
 a1:=by rw[ao,az];exact h.a1
 pos:=by rw[az];exact h.pos
 rd:=fun e=>by rw[ao] at e;obtain ⟨h1,J⟩:=h.rd e;exact ⟨h1,fun b aa=>by obtain ⟨x,U,aG⟩:=J b aa;exact ⟨x,aw _ _ _ U,aG⟩⟩
def TP (k:aqW) (n:Int):Prop:=k.min<=n/\n<=k.max
def TQ (s:List UInt8):Prop:=s.length<=maxLen
def TO {ap:Type} (_:ap):Prop:=True
def Ba {ap:Type} (G:ap->Prop) (xs:List ap):Prop:=xs.length<=maxLen/\∀x∈xs,G x
theorem ahY {P:aqV} {t:aqY} {k:aqW} {i:TypeInfo} (ao:P.underlying t=aqP (.int k)) (ae:P.info? t=aqP i) (az:i.size=1):nN P (Eo t k) (TP k) where
 a1:=by simp[Eo,cf.flat,arY,ae,az]
 pos:=by simp[Eo,cf.flat]
 rd:=fun h=>by obtain ⟨n,rfl,_,hw⟩:=DataW.trod_int ao h;exact ⟨fun c ab=>by simp at ab;subst ab;exact CI rfl,fun b _=>⟨n,by simp[Eo,cf.flat,Cm (w:=_) (b:=b) (c:= .int k n) rfl],by simpa[Lit.wf,TP] using hw⟩⟩
theorem aqw {P:aqV} {t:aqY} {i:TypeInfo} (ao:P.underlying t=aqP (.int .u8)) (ae:P.info? t=aqP i) (az:i.size=1):nN P (kd t) TO where
 a1:=by simp[kd,cf.flat,arY,ae,az]
 pos:=by simp[kd,cf.flat]
 rd:=fun h=>by
  obtain ⟨n,rfl,_,hw⟩:=DataW.trod_int ao h;refine ⟨fun c ab=>by simp at ab;subst ab;exact CI rfl,fun b _=>⟨asL n.toNat, ?_,trivial⟩⟩;simp[Lit.wf,aqW.min,aqW.max,aqW.signed,aqW.bits] at hw;have:((asL n.toNat).toNat:Int)=n:=by simp;omega
  show [asG .u8 n].map (seen _ b)=[asG .u8 ((asL n.toNat).toNat:Int)];rw[this];simp[Cm (w:=_) (b:=b) (c:= .int .u8 n) rfl]
theorem aqt {P:aqV} {t:aqY} {i:TypeInfo} (ao:P.underlying t=aqP .bool) (ae:P.info? t=aqP i) (az:i.size=1):nN P (C7 t) TO where
 a1:=by simp[C7,cf.flat,arY,ae,az]
 pos:=by simp[C7,cf.flat]
 rd:=fun h=>by obtain ⟨n,rfl,_⟩:=DataW.trod_bool ao h;exact ⟨fun c ab=>by simp at ab;subst ab;exact CI rfl,fun b _=>⟨n,by simp[C7,cf.flat,Cm (w:=_) (b:=b) (c:= .bool n) rfl],trivial⟩⟩
theorem aqu {P:aqV} {t:aqY} {i:TypeInfo} (ao:P.underlying t=aqP .string) (ae:P.info? t=aqP i) (az:i.size=1):nN P (Ep t) TQ where
 a1:=by simp[Ep,cf.flat,arY,ae,az]
 pos:=by simp[Ep,cf.flat]
 rd:=fun h=>by obtain ⟨n,rfl,_,az⟩:=DataW.trod_string ao h;exact ⟨fun c ab=>by simp at ab;subst ab;exact CI rfl,fun b _=>⟨n.data.toList,by simp[Ep,cf.flat,str,Cm (w:=_) (b:=b) (c:= .string n) rfl],by simpa[TQ] using az⟩⟩
theorem X2 {P:aqV} {ap:Type} {T:cf ap} {G:ap->Prop} {t:aqY} (hI:nN P T G) (ao:P.underlying t=aqP (.slice T.tid)) {H:Type} {enc:aqY×aqR->H} {w:World} {mW:Nat} {cs:List aqR} {x:DataW H×List MemPlace}
  (h:atK enc P w 0 (fun _=>aqQ) aqQ mW t cs=aqP x):∃c,cs=[c]/\yX w c/\∀b,(b<w.heap.size\/dy (gN w) c c)->∃xs,ev T (gU w).aH xs (seen w b c)/\Ba G xs:=by
 rcases Deep.open_slice ao h with ⟨rfl,_⟩|⟨a,len,cap,m,n,D,aaj,rfl,_,ai,hm,fB,_,U⟩
 ·exact ⟨_,rfl,CI rfl,fun b _=>⟨[],by rw[Cm rfl];exact .nil,by simp[Ba]⟩⟩
 ·simp only[if_true] at fB;subst fB;refine ⟨_,rfl, ?_⟩;rcases atz m with aI|dS
  ·subst aI;have fi:len=0:=by omega
   subst fi;refine ⟨.inr ⟨a,rfl⟩,fun b aa=>⟨[], ?_,by simp[Ba]⟩⟩;by_cases ad:dy (gN w) (.slice (aqP a) 0 0) (.slice (aqP a) 0 0)
   ·rw[wi ad];obtain ⟨e,h1,J,_⟩:=ad;obtain ⟨aH,off,spot⟩:=a;simp only at h1 J;subst h1;exact .inr ⟨aH,off,0,rfl,NU (zh J).1, .inr ⟨by simp[dr],aq3 _⟩,fun i x ae=>by simp at ae⟩
   ·have aa:b<w.heap.size:=by
     rcases aa with aa|aa
     ·exact aa
     ·exact absurd aa ad
    simp only[seen,ad,if_false,xd,asg];exact .inr ⟨b,0,0,rfl,NU aa, .inr ⟨by simp[dr],aq3 _⟩,fun i x ae=>by simp at ae⟩
  ·have az:=hI.a1;have an:=hI.pos;obtain ⟨qs,g1,_⟩:=U 0 dS;obtain ⟨_,g2,g3⟩:=World.cells?_some g1;rw[az] at g2 g3;have g4:=g3 0 an;obtain ⟨v0,jq⟩:∃v,qs[0]? =aqP v:=⟨qs[0]'(by omega),by simp[show 0<qs.length by omega]⟩
   rw[jq] at g4;simp only[ar8] at g4;have abB:(a.add 0).add 0=a:=by simp[Addr.add]
   rw[abB] at g4;obtain ⟨UR,hblk⟩:=ae' g4;obtain ⟨aH,off,spot⟩:=a;simp only at UR hblk;subst UR;have ad:dy (gN w) (.slice (aqP ⟨aH,off,aqS⟩) len m) (.slice (aqP ⟨aH,off,aqS⟩) len m):=
    ⟨⟨aH,0,0,0⟩,rfl,by simp[gN,hblk], .inl ⟨by simp only[maxLen] at hm;simp only[dr];omega,by simp⟩⟩
   refine ⟨.inl ad,fun b _=> ?_⟩;rw[wi ad];have hZ:∀i,i<len->∃y:ap,G y/\∃ds,T.rd (gU w).aH y ds/\nv (gU w).aH aH (off+i*T.a1) ds:=by
    intro i ae;obtain ⟨ci,bt,bE⟩:=U i (by omega);obtain ⟨_,cM,fI⟩:=World.cells?_some bt;rw[az] at cM fI;obtain ⟨du,dE⟩:=hI.rd bE;obtain ⟨y,ag,gH⟩:=dE aH (.inl hblk);refine ⟨y,gH,_,ag,fun j u ar=> ?_⟩;rw[arB] at ar;cases ab:ci[j]? with
    |none=>rw[ab] at ar;cases ar
    |some c=>rw[ab] at ar;simp at ar;subst ar;have gj:=(aqZ.1 ab).1;have nm:=fI j (by omega);rw[ab,p1,p1] at nm;exact ad0 (agM (du c (aq7 ab)) nm)
   have:∃xs:List ap,xs.length=len/\(∀y∈xs,G y)/\∀(i:Nat) (y:ap),xs[i]? =aqP y->∃ds,T.rd (gU w).aH y ds/\nv (gU w).aH aH (off+i*T.a1) ds:=by
    clear U ai hm ad g1 dS;revert hZ;generalize len=l;induction l with
    |zero=>intro _;exact ⟨[],rfl,fun y ag=>by simp at ag,fun i y ae=>by simp at ae⟩
    |succ l a8=>
     intro hZ;obtain ⟨xs,aX,dA,e2⟩:=a8 fun i ae=>hZ i (by omega);obtain ⟨y,gH,ag⟩:=hZ l (by omega);refine ⟨xs++[y],by simp[aX],fun u hu=>by rcases List.mem_append.1 hu with hu|hu;exact dA u hu;simp at hu;subst hu;exact gH,fun i u ae=> ?_⟩;by_cases iC:i<l
     ·rw[arf (by omega)] at ae;exact e2 i u ae
     ·have aN:=(aqZ.1 ae).1;simp at aN;have:i=l:=by omega
      subst this;rw[are (by omega)] at ae;simp[aX] at ae;subst ae;exact ag
   obtain ⟨xs,aX,dA,e2⟩:=this;refine ⟨xs, .inr ⟨aH,off,m,by rw[aX],NU hblk, .inr ⟨by simp only[maxLen] at hm;simp only[dr];omega,by rw[aX];exact ai⟩,e2⟩,by omega,dA⟩
theorem aqv {P:aqV} {ap:Type} {T:cf ap} {G:ap->Prop} {t:aqY} {i:TypeInfo} (hI:nN P T G) (ao:P.underlying t=aqP (.slice T.tid)) (ae:P.info? t=aqP i) (az:i.size=1):nN P (Jz t T) (Ba G) where
 a1:=by simp[Jz,arY,ae,az]
 pos:=by simp[Jz]
 rd:=fun h=>by obtain ⟨c,rfl,h1,J⟩:=X2 hI ao h;refine ⟨fun d aB=>by simp at aB;subst aB;exact h1,fun b aa=> ?_⟩;obtain ⟨xs,U,gH⟩:=J b (aa.imp id fun h=>h c (by simp));exact ⟨xs,⟨_,rfl,U⟩,gH⟩
theorem aht {P:aqV} {ap:Type} {T:cf ap} {G:ap->Prop} {t:aqY} (hI:nN P T G) (ao:P.underlying t=aqP (.slice T.tid)) {H:Type} {enc:aqY×aqR->H} {w:World} {base:Nat} {v:aqR} {d:DataW H} {bK:List MemPlace}
  (du:at4 P w .any base t v) (h:DataW.Trod enc P w 0 (fun _=>aqQ) aqQ t v d bK):b9 (gN w) v v/\∃xs,ev T (gU w).aH xs v/\Ba G xs:=by
 obtain ⟨mW,aP⟩:=h;obtain ⟨c,ab,h1,J⟩:=X2 hI ao aP;have ad:dy (gN w) v v/\c=v:=by
  simp only[at4,ao,Cell.okWide,Cell.ok] at du;cases v with
  |slice a l aaM=>
   have fO:c= .slice a l aaM:=by simpa[atg] using ab.symm
   refine ⟨?_,fO⟩;cases a with
   |none=>exact rfl
   |some a=>
    simp only at du;obtain ⟨ai,hm,ax⟩:=du;obtain ⟨_,az,row,cells,tI,_⟩:=ax;have aN:a.block<w.heap.size:=by
     by_cases aa:a.block<w.heap.size
     ·exact aa
     ·simp[World.shape?,Array.getElem?_eq_none (Nat.le_of_not_lt aa)] at tI
    obtain ⟨aH,off,spot⟩:=a;simp only at az aN;subst az;refine ⟨⟨aH,0,0,0⟩,rfl,by simp[gN,aN], .inl ⟨?_,by simp⟩⟩;simp only[aqW.max,aqW.signed,aqW.bits] at hm;simp only[dr];simp at hm;omega
  |_=>simp at du
 obtain ⟨ad,rfl⟩:=ad;refine ⟨b9.pY ad, ?_⟩;obtain ⟨xs,U⟩:=J 0 (.inr ad);rw[wi ad] at U;exact ⟨xs,U⟩
theorem ag7 {P:aqV} {w:World} {base:Nat} {u:aqY} {c:aqR} (h:Cell.okWide P w .any base u c) (ab:yX w c):dy (gN w) c c:=by
 rcases ab with ab|⟨a,rfl⟩
 ·exact ab
 ·cases hu:P.underlying u with
  |none=>simp[Cell.okWide,Cell.ok,hu] at h
  |some d=>
   cases d<;>simp only[Cell.okWide,Cell.ok,hu] at h
   obtain ⟨_,_,_,az,row,cells,tI,_⟩:=h;have aN:a.block<w.heap.size:=by
    by_cases aa:a.block<w.heap.size
    ·exact aa
    ·simp[World.shape?,Array.getElem?_eq_none (Nat.le_of_not_lt aa)] at tI
   obtain ⟨aH,off,spot⟩:=a;simp only at az aN;subst az;exact ⟨⟨aH,0,0,0⟩,rfl,by simp[gN,aN], .inl ⟨by simp[dr],by simp⟩⟩
theorem aqp {P:aqV} {ap:Type} {T:cf ap} {G:ap->Prop} {bc:Array Field} (hI:nN P T G) (ao:P.underlying T.tid=aqP (.struct bc)) {H:Type} {enc:aqY×aqR->H} {w:World} {base:Nat} {v:aqR} {d:DataW H} {bK:List MemPlace}
  (du:at4 P w .any base T.tid v) (h:DataW.Trod enc P w 0 (fun _=>aqQ) aqQ T.tid v d bK):b9 (gN w) v v/\∃x cs,v= .agg cs.toArray/\T.rd (gU w).aH x cs/\G x:=by
 obtain ⟨mW,aP⟩:=h;simp only[at4,ao] at du;obtain ⟨cs,rfl,bC,ts,UW,_,mY⟩:=du;have vw:atK enc P w 0 (fun _=>aqQ) aqQ mW T.tid cs.toList=aqP (d,bK):=by simpa[atg] using aP
 obtain ⟨h1,J⟩:=hI.rd vw;have jJ:∀c∈cs.toList,dy (gN w) c c:=by intro c ab;obtain ⟨i,ae⟩:=List.getElem?_of_mem ab;obtain ⟨u,_,hu⟩:=mY i c (by simpa using ae);exact ag7 hu (h1 c ab)
 obtain ⟨x,U,gH⟩:=J 0 (.inr jJ);have tE:cs.toList.map (seen w 0)=cs.toList:=by
  have:∀l:List aqR,(∀c∈l,dy (gN w) c c)->l.map (seen w 0)=l:=by
   intro l;induction l with
   |nil=>intro _;rfl
   |cons c l a8=>intro ai;rw[arG,wi (ai c (by simp)),a8 fun d aB=>ai d (by simp[aB])]
  exact this _ jJ
 rw[tE] at U;refine ⟨⟨cs,rfl, ?_⟩,x,cs.toList,by simp,U,gH⟩;have:∀l:List aqR,(∀c∈l,dy (gN w) c c)->ba (dy (gN w)) l l:=by
  intro l;induction l with
  |nil=>intro _;exact arb
  |cons c l a8=>intro ai;exact ⟨ai c (by simp),a8 fun d aB=>ai d (by simp[aB])⟩
 exact this _ jJ
theorem apR {P:aqV} {H:Type} {enc:aqY×aqR->H} {w:World} {n:Nat} {bc:Array Field} {cs:List aqR} {xs:List (DataW H×List MemPlace)} (hlen:xs.length=bc.size)
  (aP:∀(i:Nat) (f:Field),bc[i]? =aqP f->atK enc P w 0 (fun _=>aqQ) aqQ n f.type ((cs.drop f.offset).take (P.cellsOf f.type))=xs[i]?) (i:Nat) {f:Field} (ae:bc[i]? =aqP f):
  ∃y,atK enc P w 0 (fun _=>aqQ) aqQ n f.type ((cs.drop f.offset).take (P.cellsOf f.type))=aqP y:=by
 have aN:=(ar2.1 ae).1;rw[aP i f ae];exact ⟨xs[i]'(by omega),by simp[show i<xs.length by omega]⟩
theorem aqq {P:aqV} {ap:Type} {T:cf ap} {t e:aqY} (ao:P.underlying t=aqP (.slice e)) {H:Type} {enc:aqY×aqR->H} {w:World} {v:aqR} {d:DataW H} {bK:List MemPlace} {z:Nat->a6} {xs:List ap}
  (h:DataW.Trod enc P w 0 (fun _=>aqQ) aqQ t v d bK) (az:ev T z xs v):xs.length=0\/∃b4 spare,d= .slice b4 spare/\b4.length=xs.length:=by
 obtain ⟨mW,aP⟩:=h;rcases az with ⟨rfl,rfl⟩|⟨b,off,c,rfl,_⟩
 ·exact .inl rfl
 ·rcases Deep.open_slice ao aP with ⟨aI,_⟩|⟨a,len,cap,m,n,D,aaj,ab,_,_,_,_,U,_⟩
  ·simp[atg] at aI
  ·simp only[atg,List.cons.injEq,asi.injEq,and_true] at ab;obtain ⟨_,h1,_⟩:=ab;injection U with U _;exact .inr ⟨_,_,U,by simp[<-h1]⟩
end Go.aS
end
section
namespace Go.aS
section
variable {z:Nat->a6} {e m:Mem} {k:Option Nat} {b n:Nat} {cs:List aqR} {t:aqY} {v:aqR}
variable {P:aqV} {af:aqX->aqR} {o:Oper} {x:aqX} {i:TypeInfo} {D:Tag->aqR->Mem->Prop}
theorem h9.ad1 (h:h9 z e m k b cs t) (aO:cK z e m k):∃z',ew z z'/\cK z' e m k/\nv z' b 0 cs/\∀p,en p (aqP b)->∀c,p=aqP c->z' c=z c:=by
 refine ⟨ie z m (aqP b),CS fun c ab=>by cases ab;exact h.dead,⟨Hf aO.bg (fun c ab=>by cases ab;exact ⟨h.lt,by rw[h.aH];rfl⟩),aO.dead,aO.lI,aO.next,aO.kept⟩,fun j u ar=> ?_,fun p an c ab=> ?_⟩
 ·simp only[kN,ie,if_true,h.aH,ara];exact ar
 ·unfold ie;rw[if_neg (an c ab)]
theorem h9.freeze (h:h9 z e m k b cs t) (aq:e.next<=b) (aO:cK z e m k):∃z',cR e.next z z'/\cK z' e m k/\nv z' b 0 cs/\∀p,en p (aqP b)->∀c,p=aqP c->z' c=z c:=by
 obtain ⟨z',h1,J,aj,aM⟩:=h.ad1 aO;refine ⟨ie z m (aqP b),⟨CS fun c ab=>by cases ab;exact h.dead,fun c ab=> ?_⟩,⟨Hf aO.bg (fun c ab=>by cases ab;exact ⟨h.lt,by rw[h.aH];rfl⟩),aO.dead,aO.lI,aO.next,aO.kept⟩,fun j u ar=> ?_,fun p an c ab=> ?_⟩
 ·unfold ie;rw[if_neg (by intro aa;cases aa;omega)]
 ·simp only[kN,ie,if_true,h.aH,ara];exact ar
 ·unfold ie;rw[if_neg (an c ab)]
theorem ag1 (h:o.op= .alloc t) (ae:P.info? t=aqP i) {b8:aqR} (aE:i.zero=aqP b8) (cg:b8.cells.toList.all cv=aqQ) (az:b8.cells.size=i.size) (cs:List aqR) (ab:b8.cells.toList=cs) (aO:cK z e m k)
  (hk:∀b m',e.next<=b->cK z e m' k->h9 z e m' k b cs t->e1 m m' aqS->(∀p,(∀c,p=aqP c->c<m.next)->en p (aqP b))->D .new (.pointer (aqP ⟨b,0,aqS⟩)) m'):bV P af o m D:=by
 subst ab;obtain ⟨J,aj,aM,br⟩:=Pm (L:=b8.cells.toList) (t:=t) aO;exact bV.new (.alloc t i b8 h ae aE cg az) (hk _ _ aO.next J aj aM br)
theorem amR (h:o.op= .box t x) (ae:P.info? t=aqP i) (U:af x=v) (ad:storable v=aqQ) (cs:List aqR) (ab:v.cells.toList=cs) (az:cs.length=i.size) (aO:cK z e m k)
  (hk:∀b m',e.next<=b->cK z e m' k->h9 z e m' k b cs t->e1 m m' aqS->(∀p,(∀c,p=aqP c->c<m.next)->en p (aqP b))->D .new (.pointer (aqP ⟨b,0,aqS⟩)) m'):bV P af o m D:=by
 subst U ab;obtain ⟨J,aj,aM,br⟩:=Pm (L:=(af x).cells.toList) (t:=t) aO;exact bV.new (.box t x i h ae ad (by simpa using az)) (hk _ _ aO.next J aj aM br)
theorem Zl {fn:Fn} {cap:Array aqX} {caps:Array aqR} (h:o.op= .makeFunc fn #[] cap) (ab:cap.map af=caps) (az:caps.toList.all storable=aqQ):cO P af o (.func fn #[] caps):=by
 subst ab;have:=cO.func (P:=P) (af:=af) (o:=o) fn #[] cap h (fun x U=>by
  simp only[asj] at U;have:=aq8.1 az (af x) (by simp only[asF];exact List.mem_map_of_mem (by simpa using U));exact this)
 simpa using this
theorem CF {f:FuncId} {y:aqX} {as:Array aqX} {ts:Array aqY} {args caps all:Array aqR} (h:o.op= .call {callee:= .value y,args:=as,argTypes:=ts}) (aP:af y= .func (.func f) #[] caps) (au:as.map af=args) (jJ:args++caps=all):callee o af f all:=
 ⟨_,as,ts,#[],caps,h,aP,by rw[au,<-jJ];simp⟩
end
open Classical in
noncomputable def o1 {ap bx:Type} (xs:List ap) (f:Bool->Option bx):Option bx:=if xs=[] then (if f aqQ=f aqT then f aqQ else aqS) else f aqT
theorem Gp {ap bx:Type} {xs:List ap} {f:Bool->Option bx} {r:bx} (h:o1 xs f=aqP r) (t:Bool) (ao:t=aqQ->xs=[]):f t=aqP r:=by
 unfold o1 at h;by_cases U:xs=[]
 ·rw[if_pos U] at h;split at h
  ·cases t
   ·rename_i he;rw[<-he];exact h
   ·exact h
  ·cases h
 ·rw[if_neg U] at h;cases t
  ·exact h
  ·exact absurd (ao rfl) U
theorem XZ {ap bx:Type} {xs:List ap} {f:Bool->Option bx} {r:bx} (h:∀t,(t=aqQ->xs=[])->f t=aqP r):o1 xs f=aqP r:=by
 unfold o1;by_cases U:xs=[]
 ·rw[if_pos U,if_pos (by rw[h aqQ fun _=>U,h aqT (by simp)])];exact h aqQ fun _=>U
 ·rw[if_neg U];exact h aqT (by simp)
section
variable {ap bx:Type} {T:cf ap} {z:Nat->a6} {e m:Mem} {k:Option Nat} {xs:List ap} {v:aqR} {t u:aqY} {f:Bool->Option bx} {r:bx}
variable {P:aqV} {af:aqX->aqR} {o:Oper} {x y:aqX} {fP:aqY}
theorem GQ (neq:Bool) (h:o.op= .binOp (if neq then .neq else .eql) t x y u) (ao:P.underlying t=aqP (.slice fP)) (U:af x= .slice aqS 0 0) (ag:af y= .slice aqS 0 0):cO P af o (.bool (!neq)):=by
 refine so (x:=x) (y:=y) (by rw[h];rfl) (by rw[h];intros;simp) (by rw[U];rfl) (by rw[ag];rfl) rfl fun w=> ?_;have aG:(eqGuard (if neq then .neq else .eql) t x y (.slice aqS 0 0) (.slice aqS 0 0)).run P w= .ok () w:=by cases neq<;>simp[eqGuard]
 have aa:(binOp (if neq then .neq else .eql) t (.slice aqS 0 0) (.slice aqS 0 0)).run P w= .ok (.bool (!neq)) w:=by
  cases neq
  ·exact Lib.run_eql_slice_nil w t fP aqS 0 0 0 0 ao
  ·exact run_neq_slice_nil_any w t fP aqS 0 0 0 0 ao
 simp only[execOp,h,U,ag,arl,aG,aa,arh,ary]
theorem ev.M0 (h:ev T z xs v):(v= .slice aqS 0 0/\xs=[])\/∃a l c,v= .slice (aqP a) l c:=by
 rcases h with h|⟨b,off,c,rfl,_⟩
 ·exact .inl h
 ·exact .inr ⟨_,_,_,rfl⟩
theorem eI.M0 (h:eI T z m xs v):(v= .slice aqS 0 0/\xs=[])\/∃a l c,v= .slice (aqP a) l c:=by
 rcases h with h|⟨b,f0,L,c,rfl,_⟩
 ·exact .inl h
 ·exact .inr ⟨_,_,_,rfl⟩
end
end Go.aS
end
section
namespace Go.aS
section
variable {ap:Type} {T:cf ap} {z z':Nat->a6} {e m m':Mem} {k p q:Option Nat} {xs r:List ap} {v:aqR} {t u:aqY} {b:Nat}
variable {P:aqV} {af:aqX->aqR} {o:Oper} {x y:aqX} {i:TypeInfo} {D:Tag->aqR->Mem->Prop} {fP:aqY}
theorem HI (h:o.op= .call {callee:= .builtin .len,args:=#[x],argTypes:=#[t]}) (ao:P.underlying t=aqP (.slice fP)) (U:af x=v) (az:∃a c,v= .slice a xs.length c):cO P af o (.int .i64 xs.length):=by
 obtain ⟨a,c,rfl⟩:=az;exact .len x t fP a _ c h ao U
theorem c3.elem {n:Int} {a:ap} {f0 l c:Nat} (h:c3 T z e m k xs v) (ad:v= .slice (aqP ⟨b,f0,aqS⟩) l c) (aG:aR xs n=aqP a):
  ∃cs,T.rd z a cs/\xs[n.toNat]? =aqP a/\∀(j:Nat) (u:aqR),cs[j]? =aqP u->m.load b (f0+n.toNat*T.a1+j)=aqP u:=by
 obtain ⟨aI,h1,J⟩:=o6 aG;rcases h.bd with ⟨_,rfl⟩|⟨b2,f1,L,bP,rfl,aa,_,_,ai,_,aM⟩
 ·simp at J
 ·obtain ⟨cs,g1,g2⟩:=aM _ a J;cases ad;exact ⟨cs,g1,J,fun j u ar=>by simp only[Mem.load,aa];exact g2 j u ar⟩
def cf.as (T:cf ap) (t:aqY):cf ap:={T with tid:=t}
theorem ag0 {x0:ap} {n:Nat} {c:List aqR} (h:o.op= .alloc t) (ae:P.info? t=aqP i) {b8:aqR} (aE:i.zero=aqP b8) (cg:b8.cells.toList.all cv=aqQ) (az:b8.cells.size=i.size) (ab:b8.cells.toList=(arq n c).flatten) (dE:T.rd z x0 c) (aq:asm n dr=aqQ) (aO:cK z e m k)
  (hk:∀b m',cK z e m' k->c3 (T.as t) z e m' k (arq n x0) (.slice (aqP ⟨b,0,aqS⟩) n n)->e1 m m' aqS->(∀p,(∀c,p=aqP c->c<m.next)->en p (aqP b))->D .new (.pointer (aqP ⟨b,0,aqS⟩)) m'):bV P af o m D:=by
 obtain ⟨J,aj,aM,br⟩:=Pm (L:=b8.cells.toList) (t:=t) aO;have hlen:=T.len _ _ _ dE;have ai:b8.cells.toList.length=n*T.a1:=by rw[ab];simp[hlen]
 have k8:n<dr:=by simp[asm] at aq;omega
 refine bV.new (.alloc t i b8 h ae aE cg az) (hk _ _ J ⟨eI.AY ⟨m.next,b8.cells.toList,n,by simp,aj.aH,aj.lt,aj.dead, ?_, .inr ⟨k8,by simp, ?_⟩,fun j x ar=> ?_⟩,fun b aa=>by cases aa;exact aO.next⟩ aM br)
 ·rw[ai];simp[cf.as]
 ·rw[ai];simp[cf.as]
 ·obtain ⟨aN,U⟩:=aqZ.1 ar;simp at aN U;subst U;refine ⟨c,dE,fun q u aK=> ?_⟩;have BR:=(aqZ.1 aK).1;rw[ab];have key:∀(n j:Nat),j<n->(arq n c).flatten[j*T.a1+q]? =aqP u:=by
   intro n;induction n with
   |zero=>intro j ar;omega
   |succ n a8=>
    intro j ar;rw[aug,atc];cases j with
    |zero=>rw[ar8,ara,arf BR];exact aK
    |succ j=>rw[are (by rw[hlen,at3];omega),hlen,show (j+1)*T.a1+q - T.a1=j*T.a1+q by rw[at3];omega];exact a8 j (by omega)
  exact key n j aN
theorem amT {bt:aqW} {n:Int} {a:ap} {l:Nat} (h:o.op= .indexAddr t x y) (ao:P.underlying t=aqP (.array l fP)) (ae:P.info? fP=aqP i) (bC:i.size=T.a1) (U:af x= .pointer (aqP ⟨b,0,aqS⟩)) (ag:af y= .int bt n) (az:c3 T z e m k xs (.slice (aqP ⟨b,0,aqS⟩) l l)) (aG:aR xs n=aqP a)
  (hk:∀cs,T.rd z a cs->xs[n.toNat]? =aqP a->(∀(j:Nat) (u:aqR),cs[j]? =aqP u->m.load b (n.toNat*T.a1+j)=aqP u)->D .pure (.pointer (aqP ⟨b,n.toNat*T.a1,aqS⟩)) m):bV P af o m D:=by
 obtain ⟨cs,g1,g2,g3⟩:=az.elem rfl aG;obtain ⟨aI,h1,J⟩:=o6 aG;have ai:xs.length=l:=by obtain ⟨a',bP,he⟩:=az.bd.len;injection he with _ he _;exact he.symm
 have:=cO.FH (P:=P) (af:=af) (o:=o) t x y fP i b 0 l bt n h ao ae U ag aI (by rw[<-ai];exact h1);rw[ara,bC] at this;exact bV.pure this (hk _ g1 g2 (by simpa using g3))
end
end Go.aS
end
section
namespace Go.aS
structure lG (D:Nat->Type) where
 T:(t:Nat)->cf (D t)
 bQ:(t:Nat)->D t->List aqR
section
variable (D:Nat->Type)
inductive bJ where
 |int (k:aqW) (n:Int)
 |bool (b:Bool)
 |str (s:List UInt8)
 |fv|yU|oa
 |ay (e:Nat) (xs:List (D e))
 |mp (t kt vt:Nat) (es:List (D kt×D vt))
 |own (i:Nat)
 |vX
 |fn (f:Nat) (is:List Nat)
inductive aQ where
 |un|undef
 |c (v:bJ D)
 |agg (t:Nat) (cs:List (bJ D))
 |box (i off:Nat)
 |eY (i:Nat)
 |el (i e:Nat) (cx:Int) (off:Nat)
 |gd (t:Nat) (cs:List (bJ D)) (off:Nat)
 |fn (f:Nat) (caps:List (Nat×List (bJ D)))
 |mL (l:List (bJ D⊕(Nat×List (bJ D))))
 |cut (i e bG n:Nat)
 |full (e:Nat) (xs:List (D e))
inductive aL where
 |dead
 |ay (e:Nat) (xs:List (D e)) (bg w:Bool)
 |box (t:Nat) (cs:List (bJ D)) (bg w:Bool)
 |recv (t:Nat) (cs:List (bJ D)) (w:Bool)
 |eY (e t n:Nat) (xs:List (D e)) (w:Bool)
 |map (t kt vt:Nat) (es:List (D kt×D vt)) (bg w:Bool)
 |nest (e t:Nat) (up:Option (List (D t)->D e)) (di:List (List (D t))) (hole:Option (Int×Nat)) (w:Bool)
end
section
variable {D:Nat->Type} (G:lG D)
def lG.M (t kt vt:Nat):nL (D kt) (D vt):=⟨G.bQ kt,G.bQ vt,t⟩
def rz (vs:List aqR) (i:Nat) (g:aqR):Prop:=vs[i]? =aqP g/\∃b,g= .pointer (aqP ⟨b,0,aqS⟩)
def dj (z:Nat->a6) (vs:List aqR):bJ D->aqR->Prop
 | .int k n,v=>v= .int k n
 | .bool b,v=>v= .bool b
 | .str s,v=>v=aS.str s
 | .fv,v=>v= .slice aqS 0 0
 | .yU,v=>v= .pointer aqS
 | .oa,v=>v= .map aqS
 | .ay e xs,v=>ev (G.T e) z xs v
 | .mp t kt vt es,v=>kD (G.M t kt vt) z es v
 | .own i,v=>vs[i]? =aqP v/\storable v=aqQ/\v.cells=#[v]
 | .vX,v=>v= .nilFunc
 | .fn f is,v=>∃gs:List aqR,v= .func (.func f) #[] gs.toArray/\ba (rz vs) is gs
def uO (z:Nat->a6) (vs:List aqR):bJ D⊕(Nat×List (bJ D))->aqR->Prop
 | .inl c,v=>dj G z vs c v
 | .inr p,v=>∃ds:List aqR,v= .agg ds.toArray/\ba (dj G z vs) p.2 ds
def l3 (z:Nat->a6) (vs:List aqR) (cs:List (bJ D)) (off:Nat) (v:aqR):Prop:=
 ∃b o ds,v= .pointer (aqP ⟨b,o+off,aqS⟩)/\nv z b o ds/\ba (dj G z vs) cs ds
def oy (a1 bG n:Nat) (w v:aqR):Prop:=
 (w= .slice aqS 0 0/\v= .slice aqS 0 0/\bG=0/\n=0)\/
 ∃b f0 l c off bP,w= .slice (aqP ⟨b,f0,aqS⟩) l c/\v= .slice (aqP ⟨b,off,aqS⟩) (n - bG) bP/\bG<=n/\n<=l/\(off=f0+bG*a1\/(n<=bG/\off=f0))/\((c=dr/\bP=dr)\/(c<dr/\bP=c - bG))
def rel (z:Nat->a6) (vs:List aqR):aQ D->aqR->Prop
 | .un,_=>True
 | .undef,v=>v=_root_.Go.undef
 | .c c,v=>dj G z vs c v
 | .agg _ cs,v=>∃ds:List aqR,v= .agg ds.toArray/\ba (dj G z vs) cs ds
 | .box i off,v=>∃b,vs[i]? =aqP (.pointer (aqP ⟨b,0,aqS⟩))/\v= .pointer (aqP ⟨b,off,aqS⟩)
 | .eY i,v=>∃b l,vs[i]? =aqP (.slice (aqP ⟨b,0,aqS⟩) l l)/\v= .pointer (aqP ⟨b,0,aqS⟩)
 | .el i e cx off,v=>∃b f0 l c,vs[i]? =aqP (.slice (aqP ⟨b,f0,aqS⟩) l c)/\v= .pointer (aqP ⟨b,f0+cx.toNat*(G.T e).a1+off,aqS⟩)
 | .gd _ cs off,v=>l3 G z vs cs off v
 | .fn f caps,v=>∃gs:List aqR,v= .func (.func f) #[] gs.toArray/\ba (fun c g=>l3 G z vs c.2 0 g) caps gs
 | .mL l,v=>∃ds:List aqR,v= .tuple ds.toArray/\ba (uO G z vs) l ds
 | .cut i e bG n,v=>∃w,dj G z vs (.own i) w/\oy (G.T e).a1 bG n w v
 | .full e xs,v=>ev (G.T e) z xs v/\xs.length<dr/\∃a,v= .slice a xs.length xs.length
def qn (t:aqY):cf aqR where
 a1:=1
 tid:=t
 rd:=fun _ v cs=>cs=[v]/\storable v=aqQ/\v.cells=#[v]
 len:=fun _ v cs h=>by rw[h.1];rfl
 mono:=fun _ _ _ _ _ h=>h
 one:=fun _ v cs h c ab=>by rw[h.1] at ab;simp at ab;subst ab;exact h.2
def tc {ap:Type} (T:cf ap) (z:Nat->a6) (n df j:Nat) (xs:List ap) (w:aqR):Prop:=
 (w= .slice aqS 0 0/\xs=[])\/
 ∃b f0 L c,w= .slice (aqP ⟨b,f0,aqS⟩) xs.length c/\z b= .lock df j L T.tid/\n<=b/\f0+xs.length*T.a1<=L.length/\(c=dr\/(c<dr/\xs.length<=c/\f0+c*T.a1<=L.length))/\
  ∀(i:Nat) (x:ap),xs[i]? =aqP x->∃cs,T.rd z x cs/\p3 L (f0+i*T.a1) cs
def Ji (z z':Nat->a6) (n:Nat):Prop:=∀b j L t,z b= .lock n j L t->z' b=z b
theorem tc.h8 {ap:Type} {T:cf ap} {z z':Nat->a6} {n df j:Nat} {xs:List ap} {w:aqR} (h:tc T z n df j xs w) (aE:ew z z') (hk:Ji z z' df):tc T z' n df j xs w:=by
 rcases h with h|⟨b,f0,L,c,h1,J,aj,aM,br,dt⟩
 ·exact .inl h
 ·refine .inr ⟨b,f0,L,c,h1,by rw[hk b j L _ J];exact J,aj,aM,br,fun i x ae=> ?_⟩;obtain ⟨cs,g1,g2⟩:=dt i x ae;exact ⟨cs,T.mono _ _ aE _ _ g1,g2⟩
theorem tc.Ew {ap:Type} {T:cf ap} {z:Nat->a6} {n n' df j:Nat} {xs:List ap} {w:aqR} (h:tc T z n df j xs w) (aq:n'<=n):tc T z n' df j xs w:=by
 rcases h with h|⟨b,f0,L,c,h1,J,aj,aM⟩
 ·exact .inl h
 ·exact .inr ⟨b,f0,L,c,h1,J,arj aq aj,aM⟩
def eO (v:aqR):Nat:=match cn v with|some b=>b+1|none=>0
def Tt (e t:Nat) (up:Option (List (D t)->D e)):Prop:=∀f,up=aqP f->(G.T e).a1=1/\(G.T e).tid=e/\∀z xs c,ev (G.T t) z xs c->(G.T e).rd z (f xs) [c]
structure tf {ap:Type} (dA:Nat) (T:cf ap) (z:Nat->a6) (e m:Mem) (k:Option Nat) (vs:List aqR) (di:List (List ap)) (hole:Option (Int×Nat)) (v:aqR) (ws:List aqR):Prop where
 bd:c3 (qn dA) z e m k ws v
 len:ws.length=di.length
 nk:∀(j:Nat) (w:aqR) (xs:List ap),ws[j]? =aqP w->di[j]? =aqP xs->(∀p,hole=aqP p->(j:Int)≠p.1)->tc T z e.next (eO v) j xs w
 out:∀p,hole=aqP p->0<=p.1/\∃w,vs[p.2]? =aqP w/\ws[p.1.toNat]? =aqP w
def fE (z:Nat->a6) (e m:Mem) (k:Option Nat) (vs:List aqR):aL D->aqR->Prop
 | .dead,_=>True
 | .ay t xs aqT _,v=>c3 (G.T t) z e m k xs v
 | .ay t xs aqQ _,v=>ev (G.T t) z xs v
 | .box t cs aqT _,v=>∃b ds,v= .pointer (aqP ⟨b,0,aqS⟩)/\h9 z e m k b ds t/\e.next<=b/\ba (dj G z vs) cs ds
 | .box t cs aqQ _,v=>∃b ds,v= .pointer (aqP ⟨b,0,aqS⟩)/\nv z b 0 ds/\ba (dj G z vs) cs ds
 | .recv t cs _,v=>∃b ds,v= .pointer (aqP ⟨b,0,aqS⟩)/\h9 z e m k b ds t/\ba (dj G z vs) cs ds
 | .eY t u n xs _,v=>(∃b,v= .slice (aqP ⟨b,0,aqS⟩) n n)/\c3 ((G.T t).as u) z e m k xs v
 | .map t kt vt es aqT _,v=>hX (G.M t kt vt) z e m k es v
 | .map t kt vt es aqQ _,v=>kD (G.M t kt vt) z es v
 | .nest dA t up di hole _,v=>Tt G dA t up/\∃ws,tf dA (G.T t) z e m k vs di hole v ws
def aL.live:aL D->Bool
 | .ay _ _ bg _| .box _ _ bg _| .map _ _ _ _ bg _=> !bg
 | .recv _ _ _| .eY _ _ _ _ _| .nest _ _ _ _ _ _=>aqQ
 | .dead=>aqT
def aL.kW:aL D->Bool
 | .ay _ _ _ w| .box _ _ _ w| .recv _ _ w| .eY _ _ _ _ w| .map _ _ _ _ _ w=>w
 | .nest _ _ _ _ h w=>w||h.isSome
 | .dead=>aqQ
structure Inv (O bB:List (aL D)):Prop where
 len:O.length<=bB.length
 dg:∀(i:Nat) (o:aL D),i<O.length->bB[i]? =aqP o->o.live=aqQ->o.kW=aqT->O[i]? =aqP o
theorem Inv.refl (O:List (aL D)):Inv O O:=⟨aq3 _,fun _ _ _ h _ _=>h⟩
theorem Inv.trans {O bB tg:List (aL D)} (h:Inv O bB) (k:Inv bB tg):Inv O tg:=⟨arj h.len k.len,fun i o ae ah ai hw=>h.dg i o ae (k.dg i o (aro ae h.len) ah ai hw) ai hw⟩
theorem Inv.push (O:List (aL D)) (o:aL D):Inv O (O++[o]):=⟨by simp,fun i p ae an _ _=>by rw[arf ae] at an;exact an⟩
theorem Inv.set (O:List (aL D)) (i:Nat) {o:aL D} (h:o.live=aqT\/o.kW=aqQ):Inv O (O.set i o):=⟨by simp,fun j p ar an ai hw=>by
 rw[arp] at an;split at an
 ·split at an
  ·cases an;rcases h with h|h
   ·rw[h] at ai;cases ai
   ·rw[h] at hw;cases hw
  ·cases an
 ·exact an⟩
def c7:aqR->Option Nat
 | .slice (aqP a) _ _=>aqP a.block
 | .pointer (aqP a)=>aqP a.block
 | .map r=>r
 |_=>aqS
theorem fK {v:aqR} (h:∀r,v≠ .map r):c7 v=cn v:=by
 cases v with
 |slice a l c=>cases a<;>rfl
 |pointer a=>cases a<;>rfl
 |map r=>exact absurd rfl (h r)
 |_=>rfl
structure bo (O:List (aL D)) (z:Nat->a6) (e m:Mem) (k:Option Nat) (vs:List aqR):Prop where
 aO:cK z e m k
 len:vs.length=O.length
 obj:∀(i:Nat) (o:aL D) (v:aqR),O[i]? =aqP o->vs[i]? =aqP v->fE G z e m k vs o v
 eE:∀(i j:Nat) (o p:aL D) (v w:aqR),i≠j->O[i]? =aqP o->O[j]? =aqP p->o.live=aqQ->p.live=aqQ->vs[i]? =aqP v->vs[j]? =aqP w->en (c7 v) (c7 w)
variable {G}
theorem dj.mono {z z':Nat->a6} {vs vs':List aqR} {c:bJ D} {v:aqR} (h:dj G z vs c v) (aE:ew z z') (ad:∀(i:Nat) (u:aqR),vs[i]? =aqP u->vs'[i]? =aqP u):dj G z' vs' c v:=by
 cases c with
 |ay e xs=>exact ev.mono aE h
 |mp t kt vt es=>exact kD.mono h aE
 |own i=>exact ⟨ad _ _ h.1,h.2⟩
 |fn f is=>obtain ⟨gs,h1,J⟩:=h;exact ⟨gs,h1,ba.mono (fun _ _ h=>⟨ad _ _ h.1,h.2⟩) J⟩
 |_=>exact h
theorem nB.mono {z z':Nat->a6} {vs vs':List aqR} {cs:List (bJ D)} {ds:List aqR} (h:ba (dj G z vs) cs ds) (aE:ew z z') (ad:∀(i:Nat) (u:aqR),vs[i]? =aqP u->vs'[i]? =aqP u):ba (dj G z' vs') cs ds:=ba.mono (fun _ _ h=>dj.mono h aE ad) h
theorem l3.mono {z z':Nat->a6} {vs vs':List aqR} {cs:List (bJ D)} {off:Nat} {v:aqR} (h:l3 G z vs cs off v) (aE:ew z z') (ad:∀(i:Nat) (u:aqR),vs[i]? =aqP u->vs'[i]? =aqP u):l3 G z' vs' cs off v:=by
 obtain ⟨b,o,ds,h1,J,aj⟩:=h;exact ⟨b,o,ds,h1,F6 aE J,nB.mono aj aE ad⟩
theorem uO.mono {z z':Nat->a6} {vs vs':List aqR} {c:bJ D⊕(Nat×List (bJ D))} {v:aqR} (h:uO G z vs c v) (aE:ew z z') (ad:∀(i:Nat) (u:aqR),vs[i]? =aqP u->vs'[i]? =aqP u):uO G z' vs' c v:=by
 cases c with
 |inl c=>exact dj.mono h aE ad
 |inr p=>obtain ⟨ds,h1,J⟩:=h;exact ⟨ds,h1,nB.mono J aE ad⟩
theorem rel.mono {z z':Nat->a6} {vs vs':List aqR} {s:aQ D} {v:aqR} (h:rel G z vs s v) (aE:ew z z') (ad:∀(i:Nat) (u:aqR),vs[i]? =aqP u->vs'[i]? =aqP u):rel G z' vs' s v:=by
 cases s with
 |un=>trivial
 |undef=>exact h
 |c c=>exact dj.mono h aE ad
 |agg t cs=>obtain ⟨ds,h1,J⟩:=h;exact ⟨ds,h1,nB.mono J aE ad⟩
 |box i off=>obtain ⟨b,h1,J⟩:=h;exact ⟨b,ad _ _ h1,J⟩
 |eY i=>obtain ⟨b,l,h1,J⟩:=h;exact ⟨b,l,ad _ _ h1,J⟩
 |el i e cx off=>obtain ⟨b,f0,l,c,h1,J⟩:=h;exact ⟨b,f0,l,c,ad _ _ h1,J⟩
 |gd t cs off=>exact l3.mono h aE ad
 |fn f caps=>obtain ⟨gs,h1,J⟩:=h;exact ⟨gs,h1,ba.mono (fun _ _ h=>l3.mono h aE ad) J⟩
 |mL l=>obtain ⟨ds,h1,J⟩:=h;exact ⟨ds,h1,ba.mono (fun _ _ h=>uO.mono h aE ad) J⟩
 |cut i e bG n=>obtain ⟨w,h1,J⟩:=h;exact ⟨w,dj.mono h1 aE ad,J⟩
 |full e xs=>exact ⟨ev.mono aE h.1,h.2⟩
theorem Oi {vs:List aqR}:∀{is:List Nat} {gs:List aqR},ba (rz vs) is gs->gs.all wI=aqQ
 |[],[],_=>rfl
 |[],_::_,h=>h.elim
 |_::_,[],h=>h.elim
 |_::_,_::_,⟨⟨_,_,h⟩,J⟩=>by subst h;simp only[arL,Oi J,wI,Bool.and_self]
theorem dj.ZI {z:Nat->a6} {vs:List aqR} {c:bJ D} {v:aqR} (h:dj G z vs c v):storable v=aqQ/\v.cells=#[v]:=by
 cases c with
 |ay e xs=>obtain ⟨a,c,rfl⟩:=ev.len h;exact ⟨rfl,rfl⟩
 |mp t kt vt es=>rcases h with ⟨rfl,_⟩|⟨r,rfl,_⟩<;>exact ⟨rfl,rfl⟩
 |own i=>exact h.2
 |fn f is=>obtain ⟨gs,rfl,J⟩:=h;exact ⟨by simp only[storable,Oi J];rfl,rfl⟩
 |_=>obtain rfl:=h;exact ⟨rfl,rfl⟩
theorem fE.same {z:Nat->a6} {e m m':Mem} {k q:Option Nat} {vs vs':List aqR} {o:aL D} {v:aqR} (h:fE G z e m k vs o v) (s:e1 m m' q) (eE:o.live=aqQ->en (c7 v) q) (ad:∀(i:Nat) (u:aqR),vs[i]? =aqP u->vs'[i]? =aqP u):fE G z e m' k vs' o v:=by
 have QY:=ew.refl z;cases o with
 |dead=>trivial
 |ay t xs bg w=>
  cases bg with
  |true=>exact h
  |false=>have h:c3 (G.T t) z e m k xs v:=h;have eE:=eE rfl;rw[fK (by obtain ⟨a,c,rfl⟩:=h.bd.len;intro r;simp)] at eE;exact h.same s eE
 |box t cs bg w=>
  cases bg with
  |true=>obtain ⟨b,ds,h1,J,aj⟩:=h;exact ⟨b,ds,h1,J,nB.mono aj QY ad⟩
  |false=>obtain ⟨b,ds,rfl,J,aM,aj⟩:=h;exact ⟨b,ds,rfl,J.same s (eE rfl),aM,nB.mono aj QY ad⟩
 |recv t cs w=>obtain ⟨b,ds,rfl,J,aj⟩:=h;exact ⟨b,ds,rfl,J.same s (eE rfl),nB.mono aj QY ad⟩
 |eY t u n xs w=>obtain ⟨⟨b,rfl⟩,h⟩:=h;exact ⟨⟨b,rfl⟩,h.same s (eE rfl)⟩
 |map t kt vt es bg w=>
  cases bg with
  |true=>exact h
  |false=>have h:hX (G.M t kt vt) z e m k es v:=h;have eE:=eE rfl;obtain ⟨r,rfl,_⟩:=h.bd;exact h.same s eE
 |nest dA t up di hole w=>obtain ⟨hu,ws,h⟩:=h;have eE:=eE rfl;rw[fK (by obtain ⟨a,c,rfl⟩:=h.bd.bd.len;intro r;simp)] at eE;refine ⟨hu,ws,h.bd.same s eE,h.len,h.nk,fun p an=> ?_⟩;obtain ⟨aI,u,h1,J⟩:=h.out p an;exact ⟨aI,u,ad _ _ h1,J⟩
theorem fE.h8 {z z':Nat->a6} {e m:Mem} {k:Option Nat} {vs:List aqR} {o:aL D} {v:aqR} (h:fE G z e m k vs o v) (aE:ew z z') (aa:o.live=aqQ->∀b,c7 v=aqP b->z' b=z b) (hk:o.live=aqQ->Ji z z' (eO v)):fE G z' e m k vs o v:=by
 have ad:∀(i:Nat) (u:aqR),vs[i]? =aqP u->vs[i]? =aqP u:=fun _ _ h=>h;cases o with
 |dead=>trivial
 |ay t xs bg w=>
  cases bg with
  |true=>exact ev.mono aE h
  |false=>have h:c3 (G.T t) z e m k xs v:=h;have aa:=aa rfl;rw[fK (by obtain ⟨a,c,rfl⟩:=h.bd.len;intro r;simp)] at aa;exact h.h8 aE aa
 |box t cs bg w=>
  cases bg with
  |true=>obtain ⟨b,ds,h1,J,aj⟩:=h;exact ⟨b,ds,h1,F6 aE J,nB.mono aj aE ad⟩
  |false=>obtain ⟨b,ds,rfl,J,aM,aj⟩:=h;exact ⟨b,ds,rfl,J.h8 (aa rfl),aM,nB.mono aj aE ad⟩
 |recv t cs w=>obtain ⟨b,ds,rfl,J,aj⟩:=h;exact ⟨b,ds,rfl,J.h8 (aa rfl),nB.mono aj aE ad⟩
 |eY t u n xs w=>obtain ⟨⟨b,rfl⟩,h⟩:=h;exact ⟨⟨b,rfl⟩,h.h8 aE (aa rfl)⟩
 |map t kt vt es bg w=>
  cases bg with
  |true=>exact kD.mono h aE
  |false=>have h:hX (G.M t kt vt) z e m k es v:=h;have aa:=aa rfl;obtain ⟨r,rfl,_⟩:=h.bd;exact h.h8 aE aa
 |nest dA t up di hole w=>obtain ⟨hu,ws,h⟩:=h;have aa:=aa rfl;rw[fK (by obtain ⟨a,c,rfl⟩:=h.bd.bd.len;intro r;simp)] at aa;exact ⟨hu,ws,h.bd.h8 aE aa,h.len,fun j w xs h1 J aj=>(h.nk j w xs h1 J aj).h8 aE (hk rfl),h.out⟩
theorem fE.lt {z:Nat->a6} {e m:Mem} {k:Option Nat} {vs:List aqR} {o:aL D} {v:aqR} (h:fE G z e m k vs o v) (ai:o.live=aqQ):∀b,c7 v=aqP b->b<m.next/\z b= .dead/\(e.next<=b\/k=aqP b):=by
 cases o with
 |dead=>cases ai
 |ay t xs bg w=>
  cases bg with
  |true=>cases ai
  |false=>have h:c3 (G.T t) z e m k xs v:=h;rw[fK (by obtain ⟨a,c,rfl⟩:=h.bd.len;intro r;simp)];exact fun b aa=>⟨h.lt b aa,h.aK b aa⟩
 |box t cs bg w=>
  cases bg with
  |true=>cases ai
  |false=>obtain ⟨b,ds,rfl,J,aM,aj⟩:=h;intro c ab;cases ab;exact ⟨J.lt,J.dead,J.fresh⟩
 |recv t cs w=>obtain ⟨b,ds,rfl,J,aj⟩:=h;intro c ab;cases ab;exact ⟨J.lt,J.dead,J.fresh⟩
 |eY t u n xs w=>obtain ⟨⟨b,rfl⟩,h⟩:=h;intro c ab;cases ab;exact ⟨h.lt b rfl,h.aK b rfl⟩
 |map t kt vt es bg w=>
  cases bg with
  |true=>cases ai
  |false=>have h:hX (G.M t kt vt) z e m k es v:=h;obtain ⟨r,rfl,_⟩:=h.bd;exact fun b aa=>⟨h.lt b aa,h.aK b aa⟩
 |nest dA t up di hole w=>obtain ⟨hu,ws,h⟩:=h;rw[fK (by obtain ⟨a,c,rfl⟩:=h.bd.bd.len;intro r;simp)];exact fun b aa=>⟨h.bd.lt b aa,h.bd.aK b aa⟩
variable {O:List (aL D)} {z z':Nat->a6} {e m m':Mem} {k q:Option Nat} {vs:List aqR}
theorem bo.at (h:bo G O z e m k vs) {i:Nat} {o:aL D} (ah:O[i]? =aqP o):∃v,vs[i]? =aqP v/\fE G z e m k vs o v:=by
 have aN:=(aqZ.1 ah).1;have Fp:i<vs.length:=by rw[h.len];exact aN
 exact ⟨vs[i],ars Fp,h.obj i o _ ah (ars Fp)⟩
theorem bo.mM (h:bo G O z e m k vs) {i:Nat} {o o':aL D} {v:aqR} (ah:O[i]? =aqP o) (ad:vs[i]? =aqP v) (ai:o.live=aqQ) (s:e1 m m' (c7 v)) (aO:cK z e m' k) (aq:fE G z e m' k vs o' v):bo G (O.set i o') z e m' k vs:=by
 have aN:=(aqZ.1 ah).1;refine ⟨aO,by rw[asb];exact h.len,fun j p w ar hw=> ?_,fun a b p dG u w eH au aa hD jS hu hw=> ?_⟩
 ·rw[arp] at ar;split at ar
  ·rename_i cW;subst cW;cases ar;rw[ad] at hw;cases hw;exact aq
  ·rename_i cW;exact (h.obj j p w ar hw).same s (fun an=>h.eE j i p o w v (fun e=>cW e.symm) ar ah an ai hw ad) fun _ _ h=>h
 ·have key:∀(a:Nat) (p:aL D),(O.set i o')[a]? =aqP p->p.live=aqQ->∃pZ,O[a]? =aqP pZ/\pZ.live=aqQ:=by
   intro a p au an;rw[arp] at au;split at au
   ·rename_i Bv;subst Bv;exact ⟨o,ah,ai⟩
   ·exact ⟨p,au,an⟩
  obtain ⟨dm,g1,g2⟩:=key a p au hD;obtain ⟨ei,g3,g4⟩:=key b dG aa jS;exact h.eE a b dm ei u w eH g1 g3 g2 g4 hu hw
theorem im {vs ws:List aqR}:∀(i:Nat) (u:aqR),vs[i]? =aqP u->(vs++ws)[i]? =aqP u:=fun i u h=>by
 rw[arf (aqZ.1 h).1];exact h
theorem bo.push (h:bo G O z e m k vs) {o':aL D} {bl:aqR} (s:e1 m m' q) (aO:cK z e m' k) (aK:∀(i:Nat) (o:aL D) (v:aqR),O[i]? =aqP o->vs[i]? =aqP v->o.live=aqQ->en (c7 v) q)
  (aq:fE G z e m' k (vs++[bl]) o' bl) (dv:∀p,(∀b,p=aqP b->b<m.next)->en p q->en p (c7 bl)):bo G (O++[o']) z e m' k (vs++[bl]):=by
 refine ⟨aO,by simp[h.len],fun j p w ar hw=> ?_,fun a b p dG u w eH au aa hD jS hu hw=> ?_⟩
 ·by_cases aN:j<O.length
  ·rw[arf aN] at ar;rw[arf (by rw[h.len];exact aN)] at hw;exact (h.obj j p w ar hw).same s (fun an=>aK j p w ar hw an) im
  ·rw[are (by omega)] at ar;rw[are (by rw[h.len];omega),h.len] at hw;have:j - O.length=0:=by have:=(aqZ.1 ar).1;simp at this;omega
   rw[this] at ar hw;simp at ar hw;subst ar hw;exact aq
 ·have dg:∀(a:Nat) (p:aL D) (u:aqR),a<O.length->(O++[o'])[a]? =aqP p->(vs++[bl])[a]? =aqP u->O[a]? =aqP p/\vs[a]? =aqP u:=by
   intro a p u aN au hu;rw[arf aN] at au;rw[arf (by rw[h.len];exact aN)] at hu;exact ⟨au,hu⟩
  have new:∀(a:Nat) (p:aL D) (u:aqR),¬a<O.length->(O++[o'])[a]? =aqP p->(vs++[bl])[a]? =aqP u->a=O.length/\u=bl:=by
   intro a p u aN au hu;rw[are (by omega)] at au;have aI:a - O.length=0:=by have:=(aqZ.1 au).1;simp at this;omega
   rw[are (by rw[h.len];omega),h.len,aI] at hu;simp at hu;exact ⟨by omega,hu.symm⟩
  have lt:∀(a:Nat) (p:aL D) (u:aqR),O[a]? =aqP p->vs[a]? =aqP u->p.live=aqQ->en (c7 u) (c7 bl):=fun a p u au hu ai=>dv _ (fun b aa=>((h.obj a p u au hu).lt ai b aa).1) (aK a p u au hu ai);by_cases h1:a<O.length
  ·obtain ⟨c4,a2⟩:=dg a p u h1 au hu;by_cases J:b<O.length
   ·obtain ⟨ff,gA⟩:=dg b dG w J aa hw;exact h.eE a b p dG u w eH c4 ff hD jS a2 gA
   ·obtain ⟨_,rfl⟩:=new b dG w J aa hw;exact lt a p u c4 a2 hD
  ·obtain ⟨aX,rfl⟩:=new a p u h1 au hu;by_cases J:b<O.length
   ·obtain ⟨ff,gA⟩:=dg b dG w J aa hw;exact (lt b dG w ff gA jS).symm
   ·obtain ⟨e2,_⟩:=new b dG w J aa hw;omega
theorem bo.ie (h:bo G O z e m k vs) {i:Nat} {o o':aL D} {v:aqR} (ah:O[i]? =aqP o) (ad:vs[i]? =aqP v) (ai:o.live=aqQ) (fh:o'.live=aqT) (aE:ew z z') (aO:cK z' e m k) (aa:∀p,en p (c7 v)->∀b,p=aqP b->z' b=z b) (aq:fE G z' e m k vs o' v):bo G (O.set i o') z' e m k vs:=by
 have aN:=(aqZ.1 ah).1;refine ⟨aO,by rw[asb];exact h.len,fun j p w ar hw=> ?_,fun a b p dG u w eH au ct hD jS hu hw=> ?_⟩
 ·rw[arp] at ar;split at ar
  ·rename_i cW;subst cW;cases ar;rw[ad] at hw;cases hw;exact aq
  ·rename_i cW;exact (h.obj j p w ar hw).h8 aE (fun an=>aa _ (h.eE j i p o w v (fun e=>cW e.symm) ar ah an ai hw ad)) fun _ b j L t ct=>aa (aqP b) (fun c ab mx=>by
    cases ab;have:=((h.obj i o v ah ad).lt ai b mx).2.1;rw[this] at ct;cases ct) b rfl
 ·have key:∀(a:Nat) (p:aL D),(O.set i o')[a]? =aqP p->p.live=aqQ->O[a]? =aqP p:=by
   intro a p au an;rw[arp] at au;split at au
   ·rename_i Bv;subst Bv;cases au;rw[fh] at an;cases an
   ·exact au
  exact h.eE a b p dG u w eH (key a p au hD) (key b dG ct jS) hD jS hu hw
end
end Go.aS
end
section
namespace Go.aS
section
variable {D:Nat->Type} {G:lG D} {O:List (aL D)} {z z':Nat->a6} {e m m':Mem} {k q:Option Nat} {vs vs':List aqR}
theorem Ho {v w:aqR} (h:en (cn v) (cn w)):eO v≠eO w\/eO v=0:=by
 unfold eO;cases ad:cn v with
 |none=>exact .inr rfl
 |some b=>
  cases hw:cn w with
  |none=>exact .inl (by simp)
  |some c=>refine .inl fun ax=>h b ad ?_;rw[hw];simp at ax;rw[ax]
theorem OJ {r:Option Nat}:eO (.map r)=0:=rfl
theorem bo.D1 (h:bo G O z e m k vs) {i:Nat} {o o':aL D} {v:aqR} {p:Option Nat} (ah:O[i]? =aqP o) (ad:vs[i]? =aqP v) (ai:o.live=aqQ) (n0:∀r,v≠ .map r) (aE:ew z z') (s:e1 m m' (c7 v)) (aO:cK z' e m' k)
  (an:∀(j:Nat) (q:aL D) (w:aqR),j≠i->O[j]? =aqP q->q.live=aqQ->vs[j]? =aqP w->en (c7 w) p)
  (UH:∀b,p=aqP b->z b= .dead)
  (aa:∀b,c7 v≠aqP b->p≠aqP b->(eO v=0\/∀j L t,z b≠ .lock (eO v) j L t)->z' b=z b) (aq:fE G z' e m' k vs o' v):bo G (O.set i o') z' e m' k vs:=by
 have aN:=(aqZ.1 ah).1;refine ⟨aO,by rw[asb];exact h.len,fun j q w ar hw=> ?_,fun a b b5 cd u w eH au ct hD jS hu hw=> ?_⟩
 ·rw[arp] at ar;split at ar
  ·rename_i cW;subst cW;cases ar;rw[ad] at hw;cases hw;exact aq
  ·rename_i cW;have bW:=h.obj j q w ar hw;refine ((bW.same s (fun aK=>h.eE j i q o w v (fun e=>cW e.symm) ar ah aK ai hw ad) fun _ _ h=>h).h8 aE (fun aK b LS=> ?_) fun aK b bT L t nc=> ?_)
   ·have h1:=bW.lt aK b LS;refine aa b (h.eE j i q o w v (fun e=>cW e.symm) ar ah aK ai hw ad b LS) (an j q w (fun e=>cW e.symm) ar aK hw b LS) (.inr fun j L t ax=> ?_);rw[h1.2.1] at ax;cases ax
   ·refine aa b (fun ax=> ?_) (fun ax=> ?_) ?_
    ·have:=((h.obj i o v ah ad).lt ai b ax).2.1;rw[this] at nc;cases nc
    ·rw[UH b ax] at nc;cases nc
    ·by_cases aI:eO v=0
     ·exact .inl aI
     ·refine .inr fun qL ba t2 ax=> ?_;rw[nc] at ax;have aX:eO w=eO v:=by injection ax
      have dv:=h.eE j i q o w v (fun e=>cW e.symm) ar ah aK ai hw ad;rw[fK n0] at dv;by_cases tM:∃r,w= .map r
      ·obtain ⟨r,rfl⟩:=tM;rw[OJ] at aX;exact aI aX.symm
      ·rw[fK (fun r aw=>tM ⟨r,aw⟩)] at dv;rcases Ho dv with ax|ax
       ·exact ax aX
       ·exact aI (by rw[<-aX];exact ax)
 ·have key:∀(a:Nat) (p:aL D),(O.set i o')[a]? =aqP p->p.live=aqQ->∃pZ,O[a]? =aqP pZ/\pZ.live=aqQ:=by
   intro a p au an;rw[arp] at au;split at au
   ·rename_i Bv;subst Bv;exact ⟨o,ah,ai⟩
   ·exact ⟨p,au,an⟩
  obtain ⟨dm,g1,g2⟩:=key a b5 au hD;obtain ⟨ei,g3,g4⟩:=key b cd ct jS;exact h.eE a b dm ei u w eH g1 g3 g2 g4 hu hw
theorem bo.Nf (h:bo G O z e m k vs) {o':aL D} {bl:aqR} (aq:fE G z e m k (vs++[bl]) o' bl) (dv:o'.live=aqQ->∀(j:Nat) (q:aL D) (w:aqR),O[j]? =aqP q->q.live=aqQ->vs[j]? =aqP w->en (c7 w) (c7 bl)):bo G (O++[o']) z e m k (vs++[bl]):=by
 have dg:∀(a:Nat) (p:aL D) (u:aqR),(O++[o'])[a]? =aqP p->(vs++[bl])[a]? =aqP u->(O[a]? =aqP p/\vs[a]? =aqP u)\/(a=O.length/\p=o'/\u=bl):=by
  intro a p u au hu;by_cases aN:a<O.length
  ·rw[arf aN] at au;rw[arf (by rw[h.len];exact aN)] at hu;exact .inl ⟨au,hu⟩
  ·have aI:=(aqZ.1 au).1;simp at aI;have:a=O.length:=by omega
   subst this;rw[are (by omega)] at au;rw[are (by rw[h.len];omega),h.len] at hu;simp at au hu;exact .inr ⟨rfl,au.symm,hu.symm⟩
 refine ⟨h.aO,by simp[h.len],fun j p w ar hw=> ?_,fun a b p dG u w eH au aa hD jS hu hw=> ?_⟩
 ·rcases dg j p w ar hw with ⟨h1,J⟩|⟨_,rfl,rfl⟩
  ·exact (h.obj j p w h1 J).same (q:=aqS) ⟨aq3 _,h.aO.dead,fun _ _ _=>rfl⟩ (fun _=>en.qQ) im
  ·exact aq
 ·rcases dg a p u au hu with ⟨c4,a2⟩|⟨aX,rfl,rfl⟩
  ·rcases dg b dG w aa hw with ⟨ff,gA⟩|⟨e2,rfl,rfl⟩
   ·exact h.eE a b p dG u w eH c4 ff hD jS a2 gA
   ·exact dv jS a p u c4 hD a2
  ·rcases dg b dG w aa hw with ⟨ff,gA⟩|⟨e2,rfl,rfl⟩
   ·exact (dv hD b dG w ff jS gA).symm
   ·omega
theorem bo.anW (h:bo G O z e m k vs) {i:Nat} {o':aL D} {v:aqR} (ae:i<O.length) (ad:vs[i]? =aqP v) (aq:fE G z e m k vs o' v) (dv:∀(j:Nat) (q:aL D) (w:aqR),j≠i->O[j]? =aqP q->q.live=aqQ->vs[j]? =aqP w->en (c7 w) (c7 v)):bo G (O.set i o') z e m k vs:=by
 have dg:∀(a:Nat) (p:aL D),(O.set i o')[a]? =aqP p->(a≠i/\O[a]? =aqP p)\/(a=i/\p=o'):=by
  intro a p au;by_cases LL:i=a
  ·subst LL;rw[List.getElem?_set_self ae] at au;exact .inr ⟨rfl,(ark.inj au).symm⟩
  ·rw[asK LL] at au;exact .inl ⟨fun ax=>LL ax.symm,au⟩
 refine ⟨h.aO,by rw[asb];exact h.len,fun j p w ar hw=> ?_,fun a b p q u w eH au aa hD jS hu hw=> ?_⟩
 ·rcases dg j p ar with ⟨_,h1⟩|⟨rfl,rfl⟩
  ·exact h.obj j p w h1 hw
  ·rw[ad] at hw;cases hw;exact aq
 ·rcases dg a p au with ⟨c4,a2⟩|⟨rfl,rfl⟩
  ·rcases dg b q aa with ⟨ff,gA⟩|⟨rfl,rfl⟩
   ·exact h.eE a b p q u w eH a2 gA hD jS hu hw
   ·rw[ad] at hw;cases hw;exact dv a p u c4 a2 hD hu
  ·rcases dg b q aa with ⟨ff,gA⟩|⟨rfl,rfl⟩
   ·rw[ad] at hu;cases hu;exact (dv b q w ff gA jS hw).symm
   ·exact absurd rfl eH
variable {ap:Type} {T:cf ap} {dA:Nat} {di:List (List ap)} {ws:List aqR} {v:aqR}
open Classical in
noncomputable def q2 (z:Nat->a6) (n:Nat) (e m:Mem) (v:aqR):Nat->a6:=fun b=>
 match z b with
 | .lock n' j L t=>if n'=n/\n≠0/\e.next<=b then .own L t else .lock n' j L t
 |x=>if cn v=aqP b then m.aH b else x
theorem aeH {bx:Type} {vb:cf bx} {f:List ap->bx} (h:tf dA T z e m k vs di aqS v ws) (h1:vb.a1=1) (J:vb.tid=dA) (aw:∀z xs c,ev T z xs c->vb.rd z (f xs) [c]) (aO:cK z e m k):
  ∃z',cR e.next z z'/\cK z' e m k/\ev vb z' (di.map f) v/\∀b,c7 v≠aqP b->(eO v=0\/∀j L t,z b≠ .lock (eO v) j L t)->z' b=z b:=by
 have ad:c7 v=cn v:=fK (by obtain ⟨a,c,rfl⟩:=h.bd.bd.len;intro r;simp);have yn:=fun b (aa:cn v=aqP b)=>(h.bd.bd.lt b aa).2;have other:∀b,cn v≠aqP b->(∀n j L t,z b≠ .lock n j L t)->q2 z (eO v) e m v b=z b:=by
  intro b aa aq;unfold q2;split
  ·rename_i n j L t aE;exact absurd aE (aq n j L t)
  ·rw[if_neg aa]
 have Fo:∀b n j L t,z b= .lock n j L t->q2 z (eO v) e m v b=if n=eO v/\eO v≠0/\e.next<=b then .own L t else .lock n j L t:=by intro b n j L t aa;unfold q2;rw[aa]
 have lQ:∀b,cn v=aqP b->q2 z (eO v) e m v b=m.aH b:=by intro b aa;unfold q2;rw[yn b aa];simp only;rw[if_pos aa]
 have hle:ew z (q2 z (eO v) e m v):=fun b aa=>other b (fun ax=>by rw[yn b ax] at aa;exact aa) fun n j L t ax=>by rw[ax] at aa;exact aa
 refine ⟨q2 z (eO v) e m v,⟨hle,fun b aa=> ?_⟩,⟨fun b aa=> ?_,aO.dead,aO.lI,aO.next,aO.kept⟩, ?_,fun b aa aq=> ?_⟩
 ·cases aE:z b with
  |lock n j L t=>rw[Fo b n j L t aE,if_neg (by omega)]
  |_=>have:=other b (fun ax=>by have:=h.bd.fresh b ax;omega) (fun n j L t ax=>by rw[aE] at ax;cases ax);rw[this,aE]
 ·by_cases hB:cn v=aqP b
  ·rw[lQ b hB];have:=h.bd.Va b hB;exact ⟨this.2.symm,this.1⟩
  ·cases aE:z b with
   |lock n j L t=>
    have:=aO.bg b (by rw[aE];simp);rw[aE] at this;rw[Fo b n j L t aE];split
    ·exact this
    ·exact this
   |_=>have aj:=other b hB (fun n j L t ax=>by rw[aE] at ax;cases ax);rw[aj] at aa⊢;exact aO.bg b aa
 ·have nk:∀(j:Nat) (w:aqR) (xs:List ap),ws[j]? =aqP w->di[j]? =aqP xs->ev T (q2 z (eO v) e m v) xs w:=by
   intro j w xs hw U;rcases h.nk j w xs hw U (fun p an=>by cases an) with ax|⟨b,f0,L,c,rfl,g2,g3,g4,g5,g6⟩
   ·exact .inl ax
   ·have kp:q2 z (eO v) e m v b= .own L T.tid:=by
     have aI:eO v≠0:=by
      intro aI;unfold eO at aI;rcases h.bd.bd with ⟨rfl,ni⟩|⟨b2,o',L',bP,rfl,_⟩
      ·rw[ni] at hw;simp at hw
      ·simp[cn] at aI
     rw[Fo b _ _ _ _ g2,if_pos ⟨rfl,aI,g3⟩]
    refine .inr ⟨b,f0,c,rfl,by rw[kp];exact arb, ?_,fun i x ae=> ?_⟩
    ·rcases g5 with g5|⟨g5,g7,_⟩
     ·exact .inl ⟨g5,L,kp,g4⟩
     ·exact .inr ⟨g5,g7⟩
    ·obtain ⟨cs,b5,cd⟩:=g6 i x ae;refine ⟨cs,T.mono _ _ hle _ _ b5,fun a u au=> ?_⟩;simp only[kN,kp];exact cd a u au
  rcases h.bd.bd with ⟨rfl,ni⟩|⟨b,f0,L,c,rfl,g1,g2,g3,g4,g5,g6⟩
  ·have:di=[]:=List.length_eq_zero_iff.1 (by rw[<-h.len,ni];rfl);subst this;exact .inl ⟨rfl,rfl⟩
  ·have kp:=lQ b rfl;rw[g1] at kp;have ai:(di.map f).length=ws.length:=by rw[List.length_map,h.len]
   refine .inr ⟨b,f0,c,by rw[ai],by rw[kp];exact arb, ?_,fun i x ae=> ?_⟩
   ·rcases g5 with g5|⟨g5,g7,_⟩
    ·exact .inl ⟨g5,L,by rw[kp,J];rfl,by rw[ai,h1];exact g4⟩
    ·exact .inr ⟨g5,by rw[ai];exact g7⟩
   ·rw[arB] at ae;obtain ⟨xs,U,rfl⟩:=Option.map_eq_some_iff.1 ae;have aN:i<ws.length:=by rw[h.len];exact (aqZ.1 U).1
    have hw:=ars aN;obtain ⟨cs,b5,cd⟩:=g6 i _ hw;refine ⟨[ws[i]],aw _ _ _ (nk i _ xs hw U),fun a u au=> ?_⟩;rw[b5.1] at cd;simp only[kN,kp,h1];exact cd a u au
 ·rw[ad] at aa;cases aE:z b with
  |lock n j L t=>
   rw[Fo b n j L t aE,if_neg];rintro ⟨rfl,aI,_⟩;rcases aq with aq|aq
   ·exact aI aq
   ·exact aq j L t aE
  |_=>have aj:=other b aa (fun n j L t ax=>by rw[aE] at ax;cases ax);rw[aj,aE]
theorem agJ {FJ j:Nat} {w:aqR} {xs:List ap} (h:tf dA T z e m k vs di aqS v ws) (aO:cK z e m k) (hw:ws[j]? =aqP w) (U:di[j]? =aqP xs) (ar:∀(i:Nat) (u:aqR),vs[i]? =aqP u->vs'[i]? =aqP u) (acb:vs'[FJ]? =aqP w):
  ∃z',cR e.next z z'/\cK z' e m k/\tf dA T z' e m k vs' di (aqP ((j:Int),FJ)) v ws/\c3 T z' e m k xs w/\(∀b,z' b=z b\/cn w=aqP b/\eO v≠0/\∃L t,z b= .lock (eO v) j L t)/\∀b,cn w=aqP b->z b≠ .dead:=by
 have keep:∀{z'},ew z z'->(∀b,z' b=z b\/cn w=aqP b/\eO v≠0/\∃L t,z b= .lock (eO v) j L t)->(∀b,cn v=aqP b->z' b=z b)->tf dA T z' e m k vs' di (aqP ((j:Int),FJ)) v ws:=by
  intro z' hle qx pQ;refine ⟨h.bd.h8 hle pQ,h.len,fun qL fk QH g1 g2 g3=> ?_,fun p an=>by cases an;exact ⟨by simp,w,acb,by simpa using hw⟩⟩;have ca:qL≠j:=fun ax=>g3 _ rfl (by rw[ax]);rcases h.nk qL fk QH g1 g2 (fun p an=>by cases an) with ax|⟨b,f0,L,c,b5,cd,dN,fD,lY,lo⟩
  ·exact .inl ax
  ·refine .inr ⟨b,f0,L,c,b5, ?_,dN,fD,lY,fun i x ae=> ?_⟩
   ·rcases qx b with ax|⟨_,_,ba,t2,ax⟩
    ·rw[ax];exact cd
    ·rw[cd] at ax;exact absurd (by injection ax) ca
   ·obtain ⟨cs,ej,ee⟩:=lo i x ae;exact ⟨cs,T.mono _ _ hle _ _ ej,ee⟩
 rcases h.nk j w xs hw U (fun p an=>by cases an) with ⟨rfl,rfl⟩|⟨b,f0,L,c,rfl,g2,g3,g4,g5,g6⟩
 ·exact ⟨z,cR.refl z,aO,keep (ew.refl z) (fun b=> .inl rfl) (fun _ _=>rfl),c3.nil,fun b=> .inl rfl,fun b aa=>by cases aa⟩
 ·have aI:eO v≠0:=by
   intro aI;unfold eO at aI;rcases h.bd.bd with ⟨rfl,ni⟩|⟨b2,o',L',bP,rfl,_⟩
   ·rw[ni] at hw;simp at hw
   ·simp[cn] at aI
  let z':Nat->a6:=fun c=>if c=b then .dead else z c
  have aX:z' b= .dead:=if_pos rfl;have e2:∀c,c≠b->z' c=z c:=fun c ab=>if_neg ab;have hle:ew z z':=fun c ab=>e2 c (fun ax=>by rw[ax,g2] at ab;exact ab);have qx:∀bP,z' bP=z bP\/cn (asi (aqP ⟨b,f0,aqS⟩) xs.length c)=aqP bP/\eO v≠0/\∃L t,z bP= .lock (eO v) j L t:=fun bP=>by
   by_cases ab:bP=b
   ·subst ab;exact .inr ⟨rfl,aI,L,_,g2⟩
   ·exact .inl (e2 bP ab)
  have yq:=aO.bg b (by rw[g2];simp);rw[g2] at yq;refine ⟨z',⟨hle,fun c ab=>e2 c (by omega)⟩,⟨fun c ab=> ?_,aO.dead,aO.lI,aO.next,aO.kept⟩,keep hle qx (fun c ab=>e2 c (fun ax=> ?_)),⟨.inr ⟨b,f0,L,c,rfl,yq.1,yq.2,aX,g4,g5,fun i x ae=> ?_⟩,fun c ab=>by cases ab;exact g3⟩,qx,fun c ab=>by cases ab;rw[g2];simp⟩
  ·by_cases dB:c=b
   ·subst dB;rw[aX] at ab;exact absurd rfl ab
   ·rw[e2 c dB] at ab⊢;exact aO.bg c ab
  ·subst ax;have:=(h.bd.bd.lt c ab).2;rw[g2] at this;cases this
  ·obtain ⟨cs,ej,ee⟩:=g6 i x ae;exact ⟨cs,T.mono _ _ hle _ _ ej,ee⟩
theorem OG {hole:Option (Int×Nat)} {j:Nat} {w:aqR} {xs:List ap} {IB:List aqR} (h:tf dA T z e m k vs di hole v ws) (aO:cK z e m' k) (ah:c3 (qn dA) z e m' k IB v) (ni:IB=ws.set j w) (ar:j<ws.length) (ax:∀p,hole=aqP p->p.1=(j:Int)) (hw:c3 T z e m' k xs w) (dv:en (cn w) (cn v)):
  ∃z',cR e.next z z'/\cK z' e m' k/\tf dA T z' e m' k vs (di.set j xs) aqS v IB/\∀b,z' b=z b\/cn w=aqP b:=by
 have keep:∀{z'},ew z z'->(∀b,z' b=z b\/cn w=aqP b)->tc T z' e.next (eO v) j xs w->tf dA T z' e m' k vs (di.set j xs) aqS v IB:=by
  intro z' hle qx fz;refine ⟨ah.h8 hle fun b aa=> ?_,by rw[ni,asb,asb];exact h.len,fun qL fk QH g1 g2 g3=> ?_,fun p an=>by cases an⟩
  ·rcases qx b with ab|ab
   ·exact ab
   ·exact absurd aa (dv b ab)
  ·rw[ni,arp] at g1;rw[arp] at g2;by_cases he:j=qL
   ·subst he;rw[if_pos rfl,if_pos ar] at g1;rw[if_pos rfl,if_pos (by rw[<-h.len];exact ar)] at g2;cases g1;cases g2;exact fz
   ·rw[if_neg he] at g1 g2;rcases h.nk qL fk QH g1 g2 (fun p an ap3=>he (by have:=ax p an;omega)) with ab|⟨b,f0,L,c,b5,cd,dN,fD,lY,lo⟩
    ·exact .inl ab
    ·refine .inr ⟨b,f0,L,c,b5, ?_,dN,fD,lY,fun i x ae=> ?_⟩
     ·rcases qx b with ab|ab
      ·rw[ab];exact cd
      ·have:=(hw.bd.lt b ab).2;rw[this] at cd;cases cd
     ·obtain ⟨cs,ej,ee⟩:=lo i x ae;exact ⟨cs,T.mono _ _ hle _ _ ej,ee⟩
 rcases hw.bd with ⟨rfl,rfl⟩|⟨b,f0,L,c,rfl,g1,g2,g3,g4,g5,g6⟩
 ·exact ⟨z,cR.refl z,aO,keep (ew.refl z) (fun b=> .inl rfl) (.inl ⟨rfl,rfl⟩),fun b=> .inl rfl⟩
 ·let z':Nat->a6:=fun c=>if c=b then .lock (eO v) j L T.tid else z c
  have aX:z' b= .lock (eO v) j L T.tid:=if_pos rfl;have e2:∀c,c≠b->z' c=z c:=fun c ab=>if_neg ab;have hle:ew z z':=fun c ab=>e2 c (fun ax=>by rw[ax,g3] at ab;exact ab);have qx:∀bP,z' bP=z bP\/cn (asi (aqP ⟨b,f0,aqS⟩) xs.length c)=aqP bP:=fun bP=>by
   by_cases ab:bP=b
   ·subst ab;exact .inr rfl
   ·exact .inl (e2 bP ab)
  have fY:=hw.fresh b rfl;refine ⟨z',⟨hle,fun c ab=>e2 c (by omega)⟩,⟨fun c ab=> ?_,aO.dead,aO.lI,aO.next,aO.kept⟩,keep hle qx (.inr ⟨b,f0,L,c,rfl,aX,fY,g4,g5,fun i x ae=> ?_⟩),qx⟩
  ·by_cases dB:c=b
   ·subst dB;rw[aX];exact ⟨g1,g2⟩
   ·rw[e2 c dB] at ab⊢;exact aO.bg c ab
  ·obtain ⟨cs,ej,ee⟩:=g6 i x ae;exact ⟨cs,T.mono _ _ hle _ _ ej,ee⟩
end
end Go.aS
end
section
namespace Go.aS
noncomputable section
section
variable {P:aqV} {D:Nat->Type}
def zy:bJ D->Bool
 | .fv| .yU| .oa| .own _=>aqT
 |_=>aqQ
def o0:bJ D->Bool
 | .own _=>aqT
 | .fn _ is=>is.isEmpty
 |_=>aqQ
def oC:List (bJ D)->List (bJ D)->Prop
 |[],[]=>True
 |c::cs,d::ds=>(zy c=aqQ->d=c)/\oC cs ds
 |_,_=>False
theorem oC.eq:∀{cs ds:List (bJ D)},oC cs ds->cs.all zy=aqQ->cs=ds
 |[],[],_,_=>rfl
 |c::cs,d::ds,h,aq=>by simp only[arL,aq5] at aq;rw[h.1 aq.1,oC.eq h.2 aq.2]
 |[],_::_,h,_=>h.elim
 |_::_,[],h,_=>h.elim
theorem oC.refl:∀(cs:List (bJ D)),oC cs cs
 |[]=>trivial
 |_::cs=>⟨fun _=>rfl,oC.refl cs⟩
structure ft (P:aqV) (G:lG D) (t:Nat) where
 lh:D t->List (bJ D)
 o4:List (bJ D)->Option (D t)
 x0:D t
 i:TypeInfo
 b8:aqR
 tid:(G.T t).tid=t
 ae:P.info? t=aqP i
 bC:i.size=(G.T t).a1
 dS:((G.T t).a1==0)=aqT
 fX:art i.bytes 32768=aqQ
 aE:i.zero=aqP b8
 cg:b8.cells.toList.all cv=aqQ
 dp:b8.cells.size=i.size
 xh:∀z,(G.T t).rd z x0 b8.cells.toList
 q4:∀z vs x cs,(G.T t).rd z x cs->ba (dj G z vs) (lh x) cs
 qR:∀z vs cs x ds,o4 cs=aqP x->ba (dj G z vs) cs ds->(G.T t).rd z x ds
 Nb:∀x,o4 (lh x)=aqP x
 F0:∀cs x,o4 cs=aqP x->oC cs (lh x)
 qk:List (bJ D)
 rV:∀z vs,ba (dj G z vs) qk b8.cells.toList
 MU:∀x,(lh x).all o0=aqQ
structure QZ (P:aqV) (G:lG D) (t:Nat) where
 e:Nat
 n:Nat
 ti:ft P G e
 i:TypeInfo
 b8:aqR
 hu:P.underlying t=aqP (.array n e)
 ae:P.info? t=aqP i
 aE:i.zero=aqP b8
 cg:b8.cells.toList.all cv=aqQ
 dp:b8.cells.size=i.size
 rV:b8.cells.toList=(arq n ti.b8.cells.toList).flatten
 aq:asm n dr=aqQ
structure Eb (P:aqV) (G:lG D) (kt vt:Nat) where
 dec:DecidableEq (D kt)
 K:jX P kt (G.bQ kt)
 V:lH P vt (G.bQ vt)
 n4:aQ D->Option (D kt)
 sY:bJ D->Option (D vt)
 ow:D vt->bJ D
 z0:D vt
 i:TypeInfo
 ae:P.info? vt=aqP i
 aE:i.zero=aqP (cZ (cT P vt) (G.bQ vt z0))
 rL:∀z vs s a v,n4 s=aqP a->rel G z vs s v->v=cZ (cT P kt) (G.bQ kt a)
 yG:∀z vs c a v,sY c=aqP a->dj G z vs c v->v=cZ (cT P vt) (G.bQ vt a)
 lS:∀z vs a,dj G z vs (ow a) (cZ (cT P vt) (G.bQ vt a))
 tK:cT P vt=aqT
structure Q0 (P:aqV) (G:lG D) (e:Nat) where
 to:List (D e)->List UInt8
 of:List UInt8->List (D e)
 aw:∀z xs v,ev (G.T e) z xs v->ev (kd e) z (to xs) v
 ah:∀z m0 m k xs v,c3 (G.T e) z m0 m k xs v->c3 (kd e) z m0 m k (to xs) v
 aa:∀z m0 m k xs v,c3 (kd e) z m0 m k xs v->c3 (G.T e) z m0 m k (of xs) v
 i:TypeInfo
 hu:P.underlying e=aqP (.int .u8)
 ae:P.info? e=aqP i
 hd:i.size=1
structure mc (P:aqV) (G:lG D) (t:Nat) where
 bc:Array Field
 eq:D t->D t->Bool
 dq:D t->List aqR
 ao:P.underlying t=aqP (.struct bc)
 an:P.stoodInHeld t=aqT
 aG:P.eqGuardType P.depth t=aqT
 az:∀x y,me P bc.toList 0 (dq x) (dq y)
 ad:∀z x ds,(G.T t).rd z x ds->ds=dq x
 he:∀x y,eq x y=aqQ↔dq x=dq y
structure py (P:aqV) (G:lG D) where
 f:Nat
 g:Nat
 e:Nat
 iv:List (D e)->Option (List (D e))
 dq:D e->List aqR
 ad:∀z x ds,(G.T e).rd z x ds->ds=dq x
 aw:∀z x,(G.T e).rd z x (dq x)
 aP:∀x,(dq x).all cv=aqQ
 ok:mA P f=aqQ
 aI:Zo P f (.func (.func g) #[] #[])
 aq:∀xs bk,iv xs=aqP bk->bk.length=xs.length
 az:∀xs bk,iv xs=aqP bk->0<xs.length->PS P f (.func (.func g) #[] #[]) xs.length (xs.flatMap dq) (bk.flatMap dq)
structure pv (P:aqV) (G:lG D) (e t:Nat) where
 up:List (D t)->D e
 bC:(G.T e).a1=1
 tid:(G.T e).tid=e
 aw:∀z xs c,ev (G.T t) z xs c->(G.T e).rd z (up xs) [c]
 i:TypeInfo
 ae:P.info? e=aqP i
 aE:i.zero=aqP (.slice aqS 0 0)
 h1:i.size=1
 fX:art i.bytes 32768=aqQ
 hu:P.underlying e=aqP (.slice t)
 ao:(G.T t).tid=t
structure dx (P:aqV) (D:Nat->Type) where
 G:lG D
 S:List (py P G):=[]
 I:(t:Nat)->Option (ft P G t)
 A:(t:Nat)->Option (QZ P G t)
 Jf:(kt vt:Nat)->Option (Eb P G kt vt)
 B:(e:Nat)->Option (Q0 P G e)
 Q:(t:Nat)->Option (mc P G t)
 N:(e t:Nat)->Option (pv P G e t):=fun _ _=>aqS
 F:(f:Nat)->List (aQ D)->List (aL D)->Bool
 gr:aqX->Option aqX->Option aqX->Nat:=fun _ _ _=>0
 W:(f:Nat)->Bool:=fun _=>aqT
 C:(f:Nat)->List (aQ D)->List (aL D)->{af:Type}->(aQ D->List (aL D)->Option af)->Option af
variable (X:dx P D) {af:Type}
def eh:List (Nat×aQ D)->Nat->aQ D
 |[],_=> .un
 |p::E,i=>if aq9 p.1 i=aqQ then p.2 else eh E i
def ln (E:List (Nat×aQ D)):Option Nat->aQ D->List (Nat×aQ D)
 |none,_=>E
 |some d,v=>(d,v)::E
def M5:aqR->aQ D
 | .int k n=> .c (.int k n)
 | .bool b=> .c (.bool b)
 | .string b=> .c (.str b.data.toList)
 | .slice aqS 0 0=> .c .fv
 | .pointer aqS=> .c .yU
 | .map aqS=> .c .oa
 | .nilFunc=> .c .vX
 |_=> .un
def cm (E:List (Nat×aQ D)):aqX->aQ D
 | .tmp t=>eh E t
 | .const v=>M5 v
 | .func f=> .fn f []
 | .global _=> .un
def Hn:aqX->Bool
 | .const (.int _ n)=>n !=0
 |_=>aqT
def Ey (op:BinOp) (y:aqX) (k:aqW) (a b:Int) (K:bJ D->Option af):Option af:=
 match op with
 | .add=>K (.int k (k.wrap (a+b)))
 | .sub=>K (.int k (k.wrap (a - b)))
 | .mul=>K (.int k (k.wrap (a*b)))
 | .and=>K (.int k (uw .and k a b))
 | .or=>K (.int k (uw .or k a b))
 | .xor=>K (.int k (uw .xor k a b))
 | .andNot=>K (.int k (uw .andNot k a b))
 | .eql=>K (.bool (a==b))
 | .neq=>K (.bool (a !=b))
 | .lss=>K (.bool (decide (a<b)))
 | .leq=>K (.bool (decide (a<=b)))
 | .gtr=>K (.bool (decide (b<a)))
 | .geq=>K (.bool (decide (b<=a)))
 | .quo=>if Hn y=aqQ then K (.int k (k.wrap (Int.tdiv a b))) else aqU (x8 a b) fun c=>K (.int k (k.wrap c))
 | .rem=>if Hn y=aqQ then K (.int k (Int.tmod a b)) else aqU (rZ a b) fun c=>K (.int k c)
 |_=>aqS
def TA (op:BinOp) (s r:List UInt8) (K:bJ D->Option af):Option af:=
 match op with
 | .add=>aqU (dR s r) fun q=>K (.str q)
 | .eql=>K (.bool (s==r))
 | .neq=>K (.bool (!(s==r)))
 | .lss=>K (.bool (uM s r))
 | .leq=>K (.bool (uM s r||(s==r)))
 | .gtr=>K (.bool (!(uM s r||(s==r))))
 | .geq=>K (.bool (!uM s r))
 |_=>aqS
def Tz (op:BinOp) (a b:Bool) (K:bJ D->Option af):Option af:=
 match op with
 | .eql=>K (.bool (a==b))
 | .neq=>K (.bool (!(a==b)))
 |_=>aqS
def Pw:aqX->Bool
 | .const (.slice aqS 0 0)=>aqQ
 |_=>aqT
def pe (O:List (aL D)):aQ D->Option ((e:Nat)×List (D e))
 | .c (.ay e xs)=>aqP ⟨e,xs⟩
 | .c (.own i)=>
  match O[i]? with
  |some (.ay e xs _ _)=>aqP ⟨e,xs⟩
  |_=>aqS
 |_=>aqS
def Yr:aqX->Option Nat
 | .const (.int _ (.ofNat n))=>aqP n
 |_=>aqS
def ZG (k:aqW) (b:Int):Option Nat:=if 0<=b then aqP (min b.toNat k.bits) else aqS
def zV (left:Bool) (k:aqW) (a:Int) (n:Nat):Int:=if left=aqQ then k.wrap (a*((2 ^ n:Nat):Int)) else a.fdiv ((2 ^ n:Nat):Int)
def Is (left:Bool) (y:aqX) (k:aqW) (a b:Int) (K:bJ D->Option af):Option af:=
 match Yr y with
 |some n=>if art n k.bits=aqQ then K (.int k (zV left k a n)) else aqS
 |none=>aqU (ZG k b) fun n=>K (.int k (zV left k a n))
def Lk (op:BinOp) (t t1:Nat) (c1:List (bJ D)) (t2:Nat) (c2:List (bJ D)) (K:bJ D->Option af):Option af:=
 match X.I t,X.Q t with
 |some ti,aqP mI=>
  match ti.o4 c1,ti.o4 c2 with
  |some a,aqP b=>(match op with| .eql=>K (.bool (mI.eq a b))| .neq=>K (.bool (!(mI.eq a b)))|_=>aqS)
  |_,_=>aqS
 |_,_=>aqS
def JF (op:BinOp) (t:aqY) (y:aqX) (O:List (aL D)) (a b:aQ D) (K:bJ D->Option af):Option af:=
 match a,b with
 | .c (.int k a), .c (.int dc b)=>(match op with| .shl=>Is aqQ y k a b K| .shr=>Is aqT y k a b K|op=>if k=dc then Ey op y k a b K else aqS)
 | .c (.str s), .c (.str r)=>TA op s r K
 | .c (.bool a), .c (.bool b)=>match P.underlying t with|some .bool=>Tz op a b K|_=>aqS
 |a,_=>
  match op,P.underlying t,Pw y with
  | .eql,aqP (.slice _),aqQ=>
   match a with
   | .c .fv=>K (.bool aqQ)
   |a=>match pe O a with|some ⟨_,xs⟩=>o1 xs fun t=>K (.bool t)|none=>aqS
  | .neq,aqP (.slice _),aqQ=>
   match a with
   | .c .fv=>K (.bool aqT)
   |a=>match pe O a with|some ⟨_,xs⟩=>o1 xs fun t=>K (.bool (!t))|none=>aqS
  |_,_,_=>aqS
def xm:List (bJ D)->Nat->List (bJ D)->List (bJ D)
 |L,_,[]=>L
 |L,o,v::vs=>xm (L.set o v) (o+1) vs
def vh (O:List (aL D)) (i:Nat):Option (bJ D×List (aL D)):=
 match O[i]? with
 |some (.ay e xs _ w)=>aqP (.ay e xs,O.set i (.ay e xs aqQ w))
 |some (.map t kt vt es _ w)=>aqP (.mp t kt vt es,O.set i (.map t kt vt es aqQ w))
 |some (.nest e t (aqP up) di aqS w)=>aqP (.ay e (di.map up),O.set i (.ay e (di.map up) aqQ w))
 |_=>aqS
def rD (O:List (aL D)):bJ D->Option (bJ D×List (aL D))
 | .own i=>vh O i
 |c=>aqP (c,O)
def A9 (O:List (aL D)):List (bJ D)->Option (List (bJ D)×List (aL D))
 |[]=>aqP ([],O)
 |c::cs=>
  match rD O c with
  |some (bP,bB)=>match A9 bB cs with|some (cs',tg)=>aqP (bP::cs',tg)|none=>aqS
  |none=>aqS
def zt:aQ D->Option (List (bJ D))
 | .c c=>aqP [c]
 | .agg _ cs=>aqP cs
 | .fn f []=>aqP [.fn f []]
 |_=>aqS
def ER (O:List (aL D)) (s:aQ D):Option (List (bJ D)×List (aL D)):=
 match zt s with
 |some cs=>A9 O cs
 |none=>aqS
def pd (t:aqY) (cs:List (bJ D)) (off:Nat) (K:aQ D->Option af):Option af:=
 match P.underlying t with
 |none=>aqS
 |some d=>
  if jE d=aqQ then
   match P.info? t with
   |none=>aqS
   |some i=>if ((cs.drop off).take i.size).length=i.size then K (.agg t ((cs.drop off).take i.size)) else aqS
  else
   match cs[off]? with
   |some c=>K (.c c)
   |none=>aqS
def aqx (O:List (aL D)) (e:Nat):aQ D->Option (List (D e)×List (aL D))
 | .c .fv=>aqP ([],O)
 | .c c=>
  match rD O c with
  |some (.ay bw xs,bB)=>if h:bw=e then aqP (h▸xs,bB) else aqS
  |_=>aqS
 |_=>aqS
def Dt:aqX->aqX->Bool
 | .tmp a, .tmp b=>aq9 a b
 | .const (.int _ a), .const (.int _ b)=>a==b
 |_,_=>aqT
structure Sv (D:Nat->Type) where
 u:Nat
 kt:Nat
 vt:Nat
 es:List (D kt×D vt)
def P0 (O:List (aL D)):aQ D->Option (Sv D)
 | .c (.mp u k v es)=>aqP ⟨u,k,v,es⟩
 | .c (.own i)=>(match O[i]? with|some (.map u k v es _ _)=>aqP ⟨u,k,v,es⟩|_=>aqS)
 |_=>aqS
def P4 (t:aqY) (a b:aQ D) (O:List (aL D)) (K:aQ D->List (aL D)->Option af):Option af:=
 match b with
 | .c (.int _ n)=>
  match a with
  | .eY i=>
   match O[i]? with
   |some (.eY e u n' xs _)=>
    match X.I e,P.underlying t with
    |some _,aqP (.array l bw)=>if bw=e/\l=n' then aqU (aR xs n) fun _=>K (.el i e n 0) O else aqS
    |_,_=>aqS
   |_=>aqS
  | .c (.ay e xs)=>
   match X.I e,P.underlying t with
   |some ti,aqP (.slice bw)=>if bw=e then aqU (aR xs n) fun a=>K (.gd e (ti.lh a) 0) O else aqS
   |_,_=>aqS
  | .c (.own i)=>
   match O[i]? with
   |some (.ay e xs bg _)=>
    match X.I e,P.underlying t with
    |some ti,aqP (.slice bw)=>if bw=e then aqU (aR xs n) fun a=>if bg=aqQ then K (.gd e (ti.lh a) 0) O else K (.el i e n 0) O else aqS
    |_,_=>aqS
   |some (.nest e t1 _ di _ _)=>
    match X.N e t1,P.underlying t with
    |some _,aqP (.slice bw)=>if bw=e then aqU (aR di n) fun _=>K (.el i e n 0) O else aqS
    |_,_=>aqS
   |_=>aqS
  | .cut i e bG ae=>
   match O[i]? with
   |some (.ay aX xs aqT _)=>
    match X.I e,P.underlying t with
    |some _,aqP (.slice bw)=>if bw=e/\aX=e then aqU (aR ((xs.take ae).drop bG) n) fun _=>K (.el i e ((bG:Int)+n) 0) O else aqS
    |_,_=>aqS
   |_=>aqS
  |_=>aqS
 |_=>aqS
def P3 (t:aqY) (n:Nat) (a:aQ D) (O:List (aL D)) (K:aQ D->List (aL D)->Option af):Option af:=
 match P.underlying t with
 |some (.struct bc)=>
  match bc[n]? with
  |some f=>
   match P.info? f.type with
   |some k=>
    if k.size=0 then aqS else
    match a with
    | .box i off=>K (.box i (off+f.offset)) O
    | .gd db cs off=>K (.gd db cs (off+f.offset)) O
    | .el i e cx off=>K (.el i e cx (off+f.offset)) O
    |_=>aqS
   |none=>aqS
  |none=>aqS
 |_=>aqS
def wL (O:List (aL D)) (i:Nat):Option (List (aL D)):=
 match O[i]? with
 |some (.nest _ _ _ _ aqS _)=>aqP O
 |some (.nest e t up di (aqP p) _)=>
  match O[p.2]? with
  |some (.ay db xs aqT _)=>if h:db=t then aqP ((O.set i (.nest e t up (di.set p.1.toNat (h▸xs)) aqS aqQ)).set p.2 .dead) else aqS
  |_=>aqS
 |_=>aqS
def OT (t:aqY) (i e:Nat) (cx:Int) (off:Nat) (O:List (aL D)) (K:aQ D->List (aL D)->Option af):Option af:=
 match wL O i with
 |some bL=>
  match bL[i]? with
  |some (.nest aX t1 up di aqS w)=>
   match X.N aX t1 with
   |some _=>if aX=e/\t=e/\off=0 then aqU (aR di cx) fun xs=>K (.c (.own bL.length)) (bL.set i (.nest aX t1 up di (aqP (cx,bL.length)) w)++[.ay t1 xs aqT aqT]) else aqS
   |none=>aqS
  |_=>aqS
 |none=>aqS
def Pp:Option (aL D)->Bool
 |some (.nest _ _ _ _ _ _)=>aqQ
 |_=>aqT
def Hl (t:aqY) (a:aQ D) (O:List (aL D)) (K:aQ D->List (aL D)->Option af):Option af:=
 match a with
 | .gd _ cs off=>pd (P:=P) t cs off fun v=>K v O
 | .box i off=>
  match O[i]? with
  |some (.box _ cs _ _)=>pd (P:=P) t cs off fun v=>K v O
  |some (.recv _ cs _)=>pd (P:=P) t cs off fun v=>K v O
  |_=>aqS
 | .el i e cx off=>
  if Pp O[i]? =aqQ then OT X t i e cx off O K else
  match O[i]?,X.I e with
  |some (.ay bw xs _ _),aqP ti=>if h:bw=e then aqU (aR (h▸xs:List (D e)) cx) fun a=>pd (P:=P) t (ti.lh a) off fun v=>K v O else aqS
  |some (.eY bw _ _ xs _),aqP ti=>if h:bw=e then aqU (aR (h▸xs:List (D e)) cx) fun a=>pd (P:=P) t (ti.lh a) off fun v=>K v O else aqS
  |_,_=>aqS
 |_=>aqS
def X1 (t:aqY) (a:aQ D) (O:List (aL D)) (K:aQ D->List (aL D)->Option af):Option af:=
 Hl X t a O fun cY bB=>match cY with
  | .c (.own j)=>(match vh bB j with|some (c,cU)=>K (.c c) cU|none=>aqS)
  |_=>aqS
def N9 (t:aqY) (i e:Nat) (cx:Int) (off:Nat) (b:aQ D) (O:List (aL D)) (K:aQ D->List (aL D)->Option af):Option af:=
 match b with
 | .c (.own j)=>
  match O[i]?,O[j]? with
  |some (.nest aX t1 up di hole _),aqP (.ay t2 xs aqT _)=>
   match X.N aX t1 with
   |some _=>
    if h:t2=t1 then
     if aX=e/\t=e/\off=0 then
      match hole with
      |none=>aqU (aR di cx) fun _=>K .undef ((O.set i (.nest aX t1 up (di.set cx.toNat (h▸xs)) aqS aqQ)).set j .dead)
      |some p=>if p.1=cx then aqU (aR di cx) fun _=>K .undef ((O.set i (.nest aX t1 up (di.set cx.toNat (h▸xs)) aqS aqQ)).set j .dead) else aqS
     else aqS
    else aqS
   |none=>aqS
  |_,_=>aqS
 | .c .fv=>
  match O[i]? with
  |some (.nest aX t1 up di hole _)=>
   match X.N aX t1 with
   |some _=>
    if aX=e/\t=e/\off=0 then
     match hole with
     |none=>aqU (aR di cx) fun _=>K .undef (O.set i (.nest aX t1 up (di.set cx.toNat []) aqS aqQ))
     |some p=>if p.1=cx then aqU (aR di cx) fun _=>K .undef (O.set i (.nest aX t1 up (di.set cx.toNat []) aqS aqQ)) else aqS
    else aqS
   |none=>aqS
  |_=>aqS
 |_=>aqS
def OV (t:aqY) (a b:aQ D) (O:List (aL D)) (K:aQ D->List (aL D)->Option af):Option af:=
 match P.info? t with
 |none=>aqS
 |some k=>
  match a with
  | .box i off=>
   match zt b with
   |none=>aqS
   |some new=>
    if new.length=k.size then
     match O[i]? with
     |some (.box u cs aqT _)=>if off+new.length<=cs.length then K .undef (O.set i (.box u (xm cs off new) aqT aqQ)) else aqS
     |some (.recv u cs _)=>if off+new.length<=cs.length then K .undef (O.set i (.recv u (xm cs off new) aqQ)) else aqS
     |_=>aqS
    else aqS
  | .el i e cx off=>
   if Pp O[i]? =aqQ then N9 X t i e cx off b O K else
   match ER O b with
   |none=>aqS
   |some (new,O)=>
    if new.length=k.size then
     match O[i]?,X.I e with
     |some (.ay bw xs aqT _),aqP ti=>
      if h:bw=e then aqU (aR (h▸xs:List (D e)) cx) fun a=>if off+new.length<=(ti.lh a).length then aqU (ti.o4 (xm (ti.lh a) off new)) fun a'=>K .undef (O.set i (.ay e ((h▸xs:List (D e)).set cx.toNat a') aqT aqQ)) else aqS
      else aqS
     |some (.eY bw u n xs _),aqP ti=>
      if h:bw=e then aqU (aR (h▸xs:List (D e)) cx) fun a=>if off+new.length<=(ti.lh a).length then aqU (ti.o4 (xm (ti.lh a) off new)) fun a'=>K .undef (O.set i (.eY e u n ((h▸xs:List (D e)).set cx.toNat a') aqQ)) else aqS
      else aqS
     |_,_=>aqS
    else aqS
  |_=>aqS
def Dg {e:Nat} (ti:ft P X.G e) (E:List (Nat×aQ D)):Nat->List (Nat×aqX)->List (aL D)->(List (D e)->List (aL D)->Option af)->Option af
 |_,[],O,K=>K [] O
 |n,(j,x)::bK,O,K=>
  if j=n then
   match ER O (cm E x) with
   |some (cs,O)=>aqU (ti.o4 cs) fun a=>Dg ti E (n+1) bK O fun as O=>K (a::as) O
   |none=>aqS
  else aqS
def wK (pl:List (Option (Nat×Nat))) (E:List (Nat×aQ D)):List (Nat×aqX)->List (bJ D)->Option (List (bJ D))
 |[],cs=>aqP cs
 |(i,x)::bK,cs=>
  match (pl[i]?).join,zt (cm E x) with
  |some (off,size),aqP new=>if new.length=size/\off+size<=cs.length then wK pl E bK (xm cs off new) else aqS
  |_,_=>aqS
def yN (E:List (Nat×aQ D)):Option aqX->Option Int
 |none=>aqP 0
 |some y=>match cm E y with| .c (.int _ n)=>aqP n|_=>aqS
def zx (E:List (Nat×aQ D)) (l:Int):Option aqX->Option Int
 |none=>aqP l
 |some y=>match cm E y with| .c (.int _ n)=>aqP n|_=>aqS
def P2 (t:aqY) (a:aQ D) (E:List (Nat×aQ D)) (bG ae:Option aqX) (O:List (aL D)) (K:aQ D->List (aL D)->Option af):Option af:=
 match a with
 | .c (.str s)=>
  match P.underlying t,yN E bG,zx E (s.length:Int) ae with
  |some .string,aqP x,aqP y=>aqU (fV s x y) fun r=>K (.c (.str r)) O
  |_,_,_=>aqS
 | .c c=>
  match rD O c with
  |some (.ay e xs,O)=>
   match P.underlying t,X.I e,yN E bG,zx E (xs.length:Int) ae with
   |some (.slice bw),aqP _,aqP x,aqP y=>if bw=e then aqU (fV xs x y) fun r=>K (.c (.ay e r)) O else aqS
   |_,_,_,_=>aqS
  |_=>aqS
 |_=>aqS
def Vg:aQ D->Bool
 | .c .fv=>aqQ
 |_=>aqT
def Pj (t:aqY) (y:aqX) (a:aQ D) (E:List (Nat×aQ D)) (bG ae:Option aqX) (O:List (aL D)) (K:aQ D->List (aL D)->Option af):Option af:=
 if Vg a=aqQ then
  match P.underlying t,yN E bG,zx E 0 ae with
  |some (.slice e),aqP p,aqP q=>(match X.I e with|some _=>if (p==0&&q==0)=aqQ then K (.c .fv) O else aqS|none=>aqS)
  |_,_,_=>aqS
 else
 match X.gr y bG ae with
 |0=>P2 X t a E bG ae O K
 |md+1=>
  match a with
  | .c (.own i)=>
   match O[i]?,P.underlying t with
   |some (.ay e xs aqT _),aqP (.slice bw)=>
    match X.I e,yN E bG,zx E (xs.length:Int) ae with
    |some _,aqP p,aqP q=>
     if bw=e then aqU (fV xs p q) fun r=>
      if aq9 md 0=aqQ then K (.cut i e p.toNat q.toNat) O
      else K (.c (.own O.length)) (O.set i .dead++[.ay e r aqT aqT])
     else aqS
    |_,_,_=>aqS
   |_,_=>aqS
  |_=>aqS
def uy {ap:Type} (xs:List ap) (p q:Int):Option (List ap):=if 0<=p/\p<=(xs.length:Int)/\p<=4294967296/\p=q then aqP (xs.take p.toNat) else aqS
def Pk (t:aqY) (a b c:aQ D) (O:List (aL D)) (K:aQ D->List (aL D)->Option af):Option af:=
 match P.underlying t,b,c with
 |some (.slice bw), .c (.int _ p), .c (.int _ q)=>
  match a with
  | .c c=>
   match rD O c with
   |some (.ay e xs,O)=>
    match X.I e with
    |some _=>if bw=e then aqU (uy xs p q) fun r=>K (.full e r) O else aqS
    |none=>aqS
   |_=>aqS
  |_=>aqS
 |_,_,_=>aqS
def Ph (s t:aqY) (a:aQ D) (O:List (aL D)) (K:aQ D->List (aL D)->Option af):Option af:=
 match P.underlying s,P.underlying t with
 |some (.int _),aqP (.int dc)=>(match a with| .c (.int _ n)=>K (.c (.int dc (dc.wrap n))) O|_=>aqS)
 |some .string,aqP (.slice e)=>(match a,X.B e with| .c (.str s),aqP mi=>aqU (dR s []) (fun cc=>K (.c (.own O.length)) (O++[.ay e (mi.of cc) aqT aqT]))|_,_=>aqS)
 |some (.slice e),aqP .string=>(match pe O a,X.B e with|some ⟨bw,xs⟩,aqP mi=>if h:bw=e then K (.c (.str (mi.to (h▸xs)))) O else aqS|_,_=>aqS)
 |_,_=>aqS
def HG (O:List (aL D)) (s:aQ D):Option ((e:Nat)×List (D e)):=
 match s with
 | .cut i e bG n=>
  match O[i]? with
  |some (.ay bw xs aqT _)=>if bw=e then aqP ⟨bw,(xs.take n).drop bG⟩ else aqS
  |_=>aqS
 |s=>pe O s
def HH (t u:aqY) (a b:aQ D) (O:List (aL D)) (K:aQ D->List (aL D)->Option af):Option af:=
 match P.underlying t,P.underlying u with
 |some (.slice e),aqP (.slice _)=>
  match X.I e with
  |none=>aqS
  |some _=>
   let bk:Option (List (D e)):=
    match b with
    | .c .fv=>aqP []
    |b=>match HG O b with|some ⟨bw,bk⟩=>if h:bw=e then aqP (h▸bk) else aqS|none=>aqS
   match bk with
   |none=>aqS
   |some bk=>
    match a with
    | .c .fv=>aqU (dR [] bk) fun r=>K (.c (.own O.length)) (O++[.ay e r aqT aqT])
    | .full bw xs=>if h:bw=e then (if bk.isEmpty=aqQ then aqS else aqU (dR (h▸xs:List (D e)) bk) fun r=>K (.c (.own O.length)) (O++[.ay e r aqT aqT])) else aqS
    | .c (.own i)=>
     match O[i]? with
     |some (.ay bw xs aqT _)=>if h:bw=e then aqU (dR (h▸xs:List (D e)) bk) fun r=>K (.c (.own O.length)) (O.set i .dead++[.ay e r aqT aqT]) else aqS
     |_=>aqS
    | .cut i aX bG n=>
     if aq9 bG 0=aqQ then
      if aX=e then
       match O[i]? with
       |some (.ay bw xs aqT _)=>if h:bw=e then aqU (dR ((h▸xs:List (D e)).take n) bk) fun r=>K (.c (.own O.length)) (O.set i .dead++[.ay e r aqT aqT]) else aqS
       |_=>aqS
      else aqS
     else aqS
    |_=>aqS
 |_,_=>aqS
def Pg (t u:aqY) (a b:aQ D) (O:List (aL D)) (K:aQ D->List (aL D)->Option af):Option af:=
 match P.underlying t,P.underlying u with
 |some (.slice e),aqP (.slice _)=>
  match X.I e,a,HG O b with
  |some _, .full bw xs,aqP ⟨e2,bk⟩=>
   if h:bw=e then
    if J:e2=e then aqU (dR (h▸xs:List (D e)) (J▸bk:List (D e))) fun r=>if bk.isEmpty=aqQ then K (.c (.ay e r)) O else K (.c (.own O.length)) (O++[.ay e r aqT aqT])
    else aqS
   else aqS
  |_,_,_=>aqS
 |_,_=>aqS
def OH (t:aqY) (a b:aQ D) (O:List (aL D)) (K:aQ D->List (aL D)->Option af):Option af:=
 match P.underlying t,a,b with
 |some (.slice e), .c .fv, .c (.int _ n)=>
  match X.I e with
  |some ti=>if (decide (0<n))=aqQ then aqU (kO ti.x0 n) fun r=>K (.c (.own O.length)) (O++[.ay e r aqT aqT]) else aqS
  |none=>aqS
 |some (.slice e), .c (.own i), .c (.int _ n)=>
  match wL O i with
  |some bL=>
   match bL[i]? with
   |some (.nest aX t1 up mO aqS _)=>
    match X.N aX t1 with
    |some _=>if aX=e then aqU (kO ([]:List (D t1)) n) fun bk=>aqU (dR mO bk) fun r=>K (.c (.own bL.length)) (bL.set i .dead++[.nest aX t1 up r aqS aqT]) else aqS
    |none=>aqS
   |_=>aqS
  |none=>aqS
 |_,_,_=>aqS
def Po:Option TypeDesc->Bool
 |some (.int _)=>aqQ
 |_=>aqT
def P6 (t:aqY) (l:Nat) (bK:List (Nat×aqX)) (E:List (Nat×aQ D)) (O:List (aL D)) (K:aQ D->List (aL D)->Option af):Option af:=
 match P.underlying t with
 |some (.slice e)=>
  match P.underlying e with
  |some (.slice t1)=>
   match X.N e t1 with
   |some dM=>
    match l,bK with
    |0,[]=>K (.c (.own O.length)) (O++[.nest e t1 (aqP dM.up) [] aqS aqT])
    |1,[(0,y)]=>
     match cm E y with
     | .c (.own j)=>
      match O[j]? with
      |some (.ay t2 _ aqT _)=>if t2=t1 then K (.c (.own O.length)) (O++[.nest e t1 (aqP dM.up) [[]] (aqP (0,j)) aqT]) else aqS
      |_=>aqS
     |_=>aqS
    |_,_=>aqS
   |none=>aqS
  |_=>aqS
 |_=>aqS
def Pf (t u:aqY) (i:Nat) (b:aQ D) (O:List (aL D)) (K:aQ D->List (aL D)->Option af):Option af:=
 match P.underlying t,P.underlying u with
 |some (.slice e),aqP (.slice _)=>
  match b with
  | .c (.own j)=>
   if aq9 i j=aqQ then aqS else
   match wL O i with
   |some bL=>
    match wL bL j with
    |some cU=>
     match cU[i]?,cU[j]? with
     |some (.nest aX t1 up mO aqS _),aqP (.nest e2 t2 _ DM aqS _)=>
      match X.N aX t1 with
      |some dM=>if h:t2=t1 then (if aX=e/\e2=e then aqU (dR mO (h▸DM:List (List (D t1)))) fun r=>K (.c (.own cU.length)) ((cU.set i .dead).set j .dead++[.nest aX t1 up r aqS aqT]) else aqS) else aqS
      |none=>aqS
     |_,_=>aqS
    |none=>aqS
   |none=>aqS
  |_=>aqS
 |_,_=>aqS
def P5 (t:aqY) (a:aQ D) (O:List (aL D)) (K:aQ D->List (aL D)->Option af):Option af:=
 match a,P.underlying t with
 | .c (.str s),aqP .string=>K (.c (.int .i64 (s.length:Int))) O
 | .c .fv,aqP (.slice _)=>K (.c (.int .i64 (([]:List Int).length:Int))) O
 |a,aqP (.slice _)=>
  match pe O a with
  |some ⟨_,xs⟩=>K (.c (.int .i64 (xs.length:Int))) O
  |none=>
   match a with
   | .c (.own i)=>(match O[i]? with|some (.nest _ _ _ di _ _)=>K (.c (.int .i64 (di.length:Int))) O|_=>aqS)
   | .cut i e bG ae=>(match O[i]? with|some (.ay bw xs aqT _)=>if bw=e then K (.c (.int .i64 (((xs.take ae).drop bG).length:Int))) O else aqS|_=>aqS)
   |_=>aqS
 |_,_=>aqS
def Zj:bJ D->Bool
 | .own _=>aqT
 | .fn _ is=>is.isEmpty
 |_=>aqQ
def wJ (O:List (aL D)):aQ D->Option ((Nat×List (bJ D))×List (aL D))
 | .gd t cs off=>if off=0 then aqP ((t,cs),O) else aqS
 | .box i off=>
  match O[i]? with
  |some (.box t cs _ w)=>if off=0/\cs.all Zj=aqQ then aqP ((t,cs),O.set i (.box t cs aqQ w)) else aqS
  |_=>aqS
 |_=>aqS
def CY:List (aQ D)->List (aL D)->Option (List (Nat×List (bJ D))×List (aL D))
 |[],O=>aqP ([],O)
 |s::l,O=>
  match wJ O s with
  |some (c,O)=>(match CY l O with|some (r,O)=>aqP (c::r,O)|none=>aqS)
  |none=>aqS
def JL (O:List (aL D)):aQ D->Option Nat
 | .box i off=>
  match O[i]? with
  |some (.box _ _ aqT _)=>if off=0 then aqP i else aqS
  |_=>aqS
 |_=>aqS
def C9 (O:List (aL D)):List (aQ D)->Option (List Nat)
 |[]=>aqP []
 |s::l=>match JL O s,C9 O l with|some i,aqP is=>aqP (i::is)|_,_=>aqS
def HD:List (aQ D)->Option Nat
 |[_, .fn g []]=>aqP g
 |_=>aqS
def Qn:Option Nat->Nat->Bool
 |some g,n=>aq9 g n
 |none,_=>aqT
def wM:List (py P X.G)->Nat->List (Nat×List (bJ D))->List (aQ D)->Option (py P X.G)
 |[],_,_,_=>aqS
 |s::l,f,caps,bM=>if (aq9 s.f f&&(caps.isEmpty&&Qn (HD bM) s.g))=aqQ then aqP s else wM l f caps bM
def Pl (eR:py P X.G) (bM:List (aQ D)) (O:List (aL D)) (K:aQ D->List (aL D)->Option af):Option af:=
 match bM with
 | .c .fv::_=>K (.mL []) O
 | .c (.own i)::_=>
  match O[i]? with
  |some (.ay e xs aqT _)=>if h:e=eR.e then aqU (eR.iv (h▸xs:List (D eR.e))) fun bk=>K (.mL []) (O.set i (.ay eR.e bk aqT aqQ)) else aqS
  |_=>aqS
 |_=>aqS
def qU (c:Call) (E:List (Nat×aQ D)) (O:List (aL D)) (K:aQ D->List (aL D)->Option af):Option af:=
 match c.callee with
 | .builtin .len=>match c.args.toList,c.argTypes.toList with|[x],[t]=>P5 (P:=P) t (cm E x) O K|_,_=>aqS
 | .builtin .append=>match c.args.toList,c.argTypes.toList with|[x,y],[t,u]=>if Po (P.underlying u)=aqQ then OH X t (cm E x) (cm E y) O K else if aq9 (X.gr y (aqP x) (aqP x)) 6=aqQ then Pg X t u (cm E x) (cm E y) O K else (match cm E x with| .c (.own i)=>if Pp O[i]? =aqQ then Pf X t u i (cm E y) O K else HH X t u (cm E x) (cm E y) O K|_=>HH X t u (cm E x) (cm E y) O K)|_,_=>aqS
 | .builtin .cap=>match c.args.toList,c.argTypes.toList with|[x],[t]=>(match cm E x,P.underlying t with| .c .fv,aqP (.slice _)=>K (.c (.int .i64 0)) O|_,_=>aqS)|_,_=>aqS
 | .builtin .max=>match c.args.toList with|[x,y]=>(match cm E x,cm E y with| .c (.int k a), .c (.int dc b)=>if k=dc then K (.c (.int k (max a b))) O else aqS|_,_=>aqS)|_=>aqS
 | .builtin .min=>match c.args.toList with|[x,y]=>(match cm E x,cm E y with| .c (.int k a), .c (.int dc b)=>if k=dc then K (.c (.int k (min a b))) O else aqS|_,_=>aqS)|_=>aqS
 | .value f=>
  match cm E f with
  | .fn f caps=>
   match wM X X.S f caps (c.args.toList.map (cm E)) with
   |some eR=>Pl X eR (c.args.toList.map (cm E)) O K
   |none=>X.C f (c.args.toList.map (cm E)++caps.map fun p=> .gd p.1 p.2 0) O K
  | .c (.fn f is)=>X.C f (c.args.toList.map (cm E)++is.map fun i=> .box i 0) O K
  |_=>aqS
 |_=>aqS
def OU (e:Nat) (x y:aqX) (n:Int) (O:List (aL D)) (K:aQ D->List (aL D)->Option af):Option af:=
 match P.underlying e with
 |some (.slice t1)=>
  match X.N e t1,Dt x y with
  |some dM,aqQ=>aqU (kO ([]:List (D t1)) n) fun r=>K (.c (.own O.length)) (O++[.nest e t1 (aqP dM.up) r aqS aqT])
  |_,_=>aqS
 |_=>aqS
def ga (o:Op) (E:List (Nat×aQ D)) (O:List (aL D)) (K:aQ D->List (aL D)->Option af):Option af:=
 match o with
 | .move x=>K (cm E x) O
 | .assign x=>K (cm E x) O
 | .nilCheck x=>(match cm E x with| .box .. | .eY .. | .el .. | .gd .. =>K (cm E x) O|_=>aqS)
 | .extract x i=>(match cm E x with| .mL l=>(match l[i]? with|some (.inl c)=>K (.c c) O|some (.inr p)=>K (.agg p.1 p.2) O|none=>aqS)|_=>aqS)
 | .pick c a b=>(match cm E c with| .c (.bool aqQ)=>K (cm E a) O| .c (.bool aqT)=>K (cm E b) O|_=>aqS)
 | .binOp op t x y u=>(match cm E x,cm E y with| .agg t1 c1, .agg t2 c2=>Lk X op t t1 c1 t2 c2 fun c=>K (.c c) O|a,b=>JF (P:=P) op t y O a b fun c=>K (.c c) O)
 | .unOp .not t x=>(match cm E x with| .c (.bool b)=>K (.c (.bool (!b))) O|_=>aqS)
 | .unOp .neg t x=>(match cm E x with| .c (.int k a)=>K (.c (.int k (k.wrap (0 - a)))) O|_=>aqS)
 | .convert s t x=>Ph X s t (cm E x) O K
 | .indexAddr t x y=>P4 X t (cm E x) (cm E y) O K
 | .fieldAddr t x n=>P3 (P:=P) t n (cm E x) O K
 | .load t x=>if aq9 (X.gr x aqS aqS) 4=aqQ then X1 X t (cm E x) O K else Hl X t (cm E x) O K
 | .store t x y=>OV X t (cm E x) (cm E y) O K
 | .alloc t=>
  (match X.A t with
  |some jk=>K (.eY O.length) (O++[.eY jk.e t jk.n (arq jk.n jk.ti.x0) aqT])
  |none=>match X.I t with|some ti=>K (.box O.length 0) (O++[.box t ti.qk aqT aqT])|none=>aqS)
 | .box t x=>
  (match P.info? t,zt (cm E x) with
  |some i,aqP cs=>if cs.length=i.size then K (.box O.length 0) (O++[.box t cs aqT aqT]) else aqS
  |_,_=>aqS)
 | .makeSlice t x y=>
  (match P.underlying t,cm E x with
  |some (.slice e), .c (.int _ n)=>
   if aq9 (X.gr x (aqP x) (aqP x)) 3=aqQ then OU X e x y n O K else
   match X.I e,Dt x y with
   |some ti,aqQ=>aqU (kO ti.x0 n) fun r=>K (.c (.own O.length)) (O++[.ay e r aqT aqT])
   |_,_=>aqS
  |_,_=>aqS)
 | .buildSlice t l bK=>
  if aq9 (X.gr (.const (.int .i64 (t:Int))) aqS aqS) 3=aqQ then P6 X t l bK.toList E O K else
  (match P.underlying t with
  |some (.slice e)=>
   match X.I e with
   |some ti=>Dg X ti E 0 bK.toList O fun as O=>if as.length=l/\art (l*(X.G.T e).a1) 16777216=aqQ then K (.c (.own O.length)) (O++[.ay e as aqT aqT]) else aqS
   |none=>aqS
  |_=>aqS)
 | .build t bK=>
  (match P.underlying t,X.I t with
  |some (.struct bc),aqP ti=>if (p8 P bc).all Option.isSome=aqQ then (match wK (p8 P bc) E bK.toList ti.qk with|some cs=>K (.agg t cs) O|none=>aqS) else aqS
  |some (.array n e),aqP ti=>(match P.info? e with|some k=>(match wK ((arI n).map fun j=>aqP (j*k.size,k.size)) E bK.toList ti.qk with|some cs=>K (.agg t cs) O|none=>aqS)|none=>aqS)
  |_,_=>aqS)
 | .slice t x bG ae aqS=>Pj X t x (cm E x) E bG ae O K
 | .slice t x aqS (aqP y) (aqP h0)=>Pk X t (cm E x) (cm E y) (cm E h0) O K
 | .index t x y=>(match P.underlying t,cm E x,cm E y with|some .string, .c (.str s), .c (.int _ n)=>aqU (aR s n) fun c=>K (.c (.int .u8 (asc c:Int))) O|_,_,_=>aqS)
 | .makeFunc (.func f) first cap=>
  if aq9 (X.gr (.func f) aqS aqS) 5=aqQ then (match first.toList,C9 O (cap.toList.map (cm E)) with|[],aqP is=>K (.c (.fn f is)) O|_,_=>aqS) else
  (match first.toList,CY (cap.toList.map (cm E)) O with|[],aqP (caps,O)=>K (.fn f caps) O|_,_=>aqS)
 | .makeMap t aqS=>(match P.underlying t with|some (.map kt vt)=>K (.c (.own O.length)) (O++[.map t kt vt [] aqT aqT])|_=>aqS)
 | .lookup t x y ok=>
  (match P0 O (cm E x),cm E y with
  |some ⟨u,kt,vt,es⟩,c=>
   match P.underlying t,P.underlying u with
   |some (.map k v),aqP (.map dc bl)=>
    if k=kt/\v=vt/\dc=kt/\bl=vt then
     match X.Jf kt vt with
     |some eu=>
      match eu.n4 c with
      |some a=>aS.lt (@bs _ _ eu.dec es a) fun y=>if ok=aqQ then K (.mL [.inl (eu.ow (y.getD eu.z0)), .inl (.bool y.isSome)]) O else K (.c (eu.ow (y.getD eu.z0))) O
      |none=>aqS
     |none=>aqS
    else aqS
   |_,_=>aqS
  |_,_=>aqS)
 | .mapUpdate t x y w| .insert t x y w=>
  (match cm E x,cm E y,cm E w with
  | .c (.own i),c, .c d=>
   match O[i]? with
   |some (.map u kt vt es aqT _)=>
    match P.underlying t,P.underlying u with
    |some (.map k v),aqP (.map dc bl)=>
     if k=kt/\v=vt/\dc=kt/\bl=vt then
      match X.Jf kt vt with
      |some eu=>
       match eu.n4 c,eu.sY d with
       |some a,aqP b=>aS.lt (@dV _ _ eu.dec es a b) fun tu=>K .undef (O.set i (.map u kt vt tu aqT aqQ))
       |_,_=>aqS
      |none=>aqS
     else aqS
    |_,_=>aqS
   |_=>aqS
  |_,_,_=>aqS)
 | .call c=>qU X c E O K
 |_=>aqS
def YJ:Op->Option Nat
 | .pick (.tmp d) _ _=>aqP d
 |_=>aqS
def uu (E:List (Nat×aQ D)) (d:Nat) (K:List (Nat×aQ D)->Option af):Option af:=
 match eh E d with
 | .c (.bool b)=>if b=aqQ then K ((d, .c (.bool aqQ))::E) else K ((d, .c (.bool aqT))::E)
 | .undef=>K E
 |_=>aqS
def Ce (o:Oper) (E:List (Nat×aQ D)) (O:List (aL D)) (K:List (Nat×aQ D)->List (aL D)->Option af):Option af:=
 match YJ o.op with
 |some d=>uu E d fun E=>ga X o.op E O fun v O=>K (ln E o.dst v) O
 |none=>ga X o.op E O fun v O=>K (ln E o.dst v) O
def pk (ops:List Oper):List Oper->List (Nat×aQ D)->List (aL D)->(List (Nat×aQ D)->List (aL D)->Option af)->Option af
 |[],E,O,K=>K E O
 |o::os,E,O,K=>
  match o.guard with
  |none=>Ce X o E O fun E O=>pk ops os E O K
  |some (j,want)=>
   match (ops[j]?).bind (·.dst) with
   |none=>aqS
   |some d=>
    uu E d fun E=>
     match eh E d with
     | .c (.bool b)=>if b=want then Ce X o E O fun E O=>pk ops os E O K else pk ops os (ln E o.dst .undef) O K
     | .undef=>pk ops os (ln E o.dst .undef) O K
     |_=>aqS
inductive kF where
 |od|bg|lost
 |ob (j:Nat)
def sn (E:List (Nat×aQ D)):Op->Option kF
 | .load _ x=>(match cm E x with| .gd _ (_::_) _=>aqP .bg| .box j _=>aqP (.ob j)| .el j _ _ _=>aqP (.ob j)|_=>aqS)
 | .lookup _ x _ _=>(match cm E x with| .c (.mp _ _ _ _)=>aqP .bg| .c (.own j)=>aqP (.ob j)|_=>aqS)
 | .convert _ _ x=>(match cm E x with| .c (.ay _ _)=>aqP .bg| .c (.own j)=>aqP (.ob j)| .c (.int _ _)=>aqP .od| .c (.str _)=>aqP .od|_=>aqS)
 | .slice _ x _ _ _=>(match cm E x with| .c (.str _)=>aqP .od| .c (.ay _ _)=>aqP .bg| .c (.own j)=>aqP (.ob j)|_=>aqS)
 |_=>aqP .od
def p2:List (aQ D)->List Nat
 |[]=>[]
 | .box i _::l=>i::p2 l
 |_::l=>p2 l
def zp:List (aQ D)->List Nat
 |[]=>[]
 | .c (.own i)::l=>i::zp l
 |_::l=>zp l
def uJ (E:List (Nat×aQ D)):Op->Option (List Nat)
 | .store _ x _=>(match cm E x with| .box j _=>aqP [j]| .el j _ _ _=>aqP [j]|_=>aqS)
 | .mapUpdate _ x _ _=>(match cm E x with| .c (.own j)=>aqP [j]|_=>aqS)
 | .insert _ x _ _=>(match cm E x with| .c (.own j)=>aqP [j]|_=>aqS)
 | .call c=>
  match c.callee with
  | .builtin .append=>(match c.args.toList with|x::_=>(match cm E x with| .c .fv=>aqP []| .c (.own j)=>aqP [j]| .cut j _ _ _=>aqP [j]| .full _ _=>aqP []|_=>aqS)|[]=>aqS)
  | .value f=>(match cm E f with| .fn jG caps=>(match wM X X.S jG caps (c.args.toList.map (cm E)) with|some _=>aqP (zp (c.args.toList.map (cm E)))|none=>if X.W jG=aqQ then aqS else aqP (p2 (c.args.toList.map (cm E))))|_=>aqS)
  |_=>aqS
 |_=>aqS
structure eX where
 rd:List (Nat×kF)
 iB:List (Nat×(Bool×List Nat))
 hh:List (Nat×Nat)
 jI:List (Nat×Bool)
 l6:List Nat
def yL:aQ D->Bool
 | .c (.ay _ _)=>aqQ
 | .gd _ (_::_) _=>aqQ
 |_=>aqT
def r2 (E:List (Nat×aQ D)) (L:eX):aqX->Bool
 | .tmp d=> !(L.l6.any (aq9 d))&&yL (eh E d)
 |_=>aqT
def qt (E:List (Nat×aQ D)) (L:eX):Op->Bool
 | .move x=>r2 E L x
 | .assign x=>r2 E L x
 | .nilCheck x=>r2 E L x
 | .fieldAddr _ x _=>r2 E L x
 | .indexAddr _ x _=>r2 E L x
 |_=>aqT
def U7 (E:List (Nat×aQ D)) (L:eX):Op->Bool
 | .load _ x=>r2 E L x
 | .slice _ x _ _ aqS=>r2 E L x
 |_=>aqT
def qj (E:List (Nat×aQ D)) (o:Oper) (L:eX):eX:=
 match o.dst with
 |none=>L
 |some d=>if qt E L o.op=aqQ then {L with l6:=L.l6.filter fun e=> !(aq9 d e)} else {L with l6:=d::L.l6}
def sd (O:List (aL D)) (j:Nat):Bool:=match O[j]? with|some o=>o.live|none=>aqT
def Hg (O:List (aL D)) (j:Nat):Bool:=match O[j]? with|some .dead=>aqT|some (.box _ [] aqQ _)=>aqT|some _=>aqQ|none=>aqT
def uh (O:List (aL D)) (ts:List Nat) (j:Nat):Bool:=Hg O j&& !(ts.any (aq9 j))
def uf (O:List (aL D)):Nat->List (aL D)->List Nat
 |_,[]=>[]
 |i,o::l=>if o.live=aqQ then i::uf O (i+1) l else uf O (i+1) l
def zC (B:Array Nat) (i:Nat) (O:List (aL D)) (L:eX):kF->Bool
 | .od=>aqQ
 | .bg=>L.iB.all fun y=>fe B i y.1||y.2.1
 | .ob j=>Hg O j&&L.iB.all fun y=>fe B i y.1||(y.2.1||y.2.2.any (aq9 j))
 | .lost=>aqT
def DD (O:List (aL D)) (ts:List Nat):kF->Bool
 | .ob j=>uh O ts j
 | .lost=>aqT
 |_=>aqQ
def PA (B:Array Nat) (i:Nat) (O:List (aL D)) (L:eX) (ts:List Nat):Bool:=
 ts.all (sd O)&&((L.rd.all fun y=>fe B i y.1||DD O ts y.2)&&L.hh.all fun y=>fe B i y.1||uh O ts y.2)
def p4 (E:List (Nat×aQ D)) (O:List (aL D)):Op->Bool
 | .call c=>
  match c.callee with
  | .value f=>(match cm E f with| .fn f caps=>(match wM X X.S f caps (c.args.toList.map (cm E)) with|some _=>aqT|none=>X.F f (c.args.toList.map (cm E)++caps.map fun p=> .gd p.1 p.2 0) O)|_=>aqT)
  |_=>aqT
 |_=>aqT
def A5 (i:Nat) (O:List (aL D)) (ts:List Nat) (qa:Bool) (L:eX):eX:=
 {rd:=L.rd.map fun y=>if DD O ts y.2=aqQ then y else (y.1, .lost)
  iB:=((i,aqQ,uf O 0 O)::L.iB).map fun y=>(y.1,y.2.1&&qa,y.2.2.filter (uh O ts))
  hh:=L.hh
  jI:=(i,ts.isEmpty)::L.jI.map fun y=>(y.1,y.2&&ts.isEmpty)
  l6:=L.l6}
def P1:aQ D->Option (Option Nat)
 | .c (.own j)=>aqP (aqP j)
 | .box j _=>aqP (aqP j)
 | .eY j=>aqP (aqP j)
 | .c (.int _ _)=>aqP aqS
 | .c (.str _)=>aqP aqS
 |_=>aqS
def Vi (o:Op) (v:aQ D):Option (Option Nat):=if ny o=aqQ then P1 v else aqP aqS
def ou (i:Nat) (s:kF) (n:Option Nat) (L:eX):eX:=
 {rd:=match s with| .od=>L.rd|s=>(i,s)::L.rd
  iB:=match n with|some _=>L.iB.map fun y=>(y.1,aqT,y.2.2)|none=>L.iB
  hh:=match n with|some j=>(i,j)::L.hh|none=>L.hh
  jI:=L.jI
  l6:=L.l6}
def TN:kF->Bool
 | .bg=>aqQ
 |_=>aqT
def Hj (B:Array Nat) (i:Nat) (E:List (Nat×aQ D)) (L:eX) (s:kF) (o:Op):Bool:=TN s&&U7 E L o
def Pa (B:Array Nat) (i:Nat) (L:eX):Bool:=(L.rd.all fun y=>fe B i y.1)&&L.hh.all fun y=>fe B i y.1
def PB (i:Nat) (L:eX):eX:=
 {rd:=L.rd.map fun y=>(y.1, .lost)
  iB:=(i,aqT,[])::L.iB.map fun y=>(y.1,aqT,[])
  hh:=L.hh
  jI:=L.jI
  l6:=L.l6}
def FX (B:Array Nat) (i:Nat) (o:Oper) (L:eX) (E:List (Nat×aQ D)) (O:List (aL D)) (K:eX->List (Nat×aQ D)->List (aL D)->Option af):Option af:=
 if iI o.op=aqQ then
  match uJ X E o.op with
  |some ts=>if PA B i O L ts=aqQ then ga X o.op E O fun v bB=>K (qj E o (A5 i O ts (p4 X E O o.op) L)) (ln E o.dst v) bB else aqS
  |none=>if Pa B i L=aqQ then ga X o.op E O fun v bB=>K (qj E o (PB i L)) (ln E o.dst v) bB else aqS
 else
  match sn E o.op with
  |some s=>
   if (zC B i O L s||Hj B i E L s o.op)=aqQ then
    ga X o.op E O fun v bB=>
     match Vi o.op v with
     |some n=>K (qj E o (ou i s n L)) (ln E o.dst v) bB
     |none=>aqS
   else aqS
  |none=>aqS
def Cd (B:Array Nat) (i:Nat) (o:Oper) (L:eX) (E:List (Nat×aQ D)) (O:List (aL D)) (K:eX->List (Nat×aQ D)->List (aL D)->Option af):Option af:=
 match YJ o.op with
 |some d=>uu E d fun E=>FX X B i o L E O K
 |none=>FX X B i o L E O K
def uP (B:Array Nat) (ops:List Oper):Nat->List Oper->eX->List (Nat×aQ D)->List (aL D)->(List (Nat×aQ D)->List (aL D)->Option af)->Option af
 |_,[],_,E,O,K=>K E O
 |i,o::os,L,E,O,K=>
  match o.guard with
  |none=>Cd X B i o L E O fun L E O=>uP B ops (i+1) os L E O K
  |some (j,want)=>
   match (ops[j]?).bind (·.dst) with
   |none=>aqS
   |some d=>
    uu E d fun E=>
     match eh E d with
     | .c (.bool b)=>if b=want then Cd X B i o L E O fun L E O=>uP B ops (i+1) os L E O K else uP B ops (i+1) os L (ln E o.dst .undef) O K
     | .undef=>uP B ops (i+1) os L (ln E o.dst .undef) O K
     |_=>aqS
structure kZ (D:Nat->Type) where
 path:List Nat
 fits:List (Nat×aQ D)->List (aL D)->Bool
 run:List (Nat×aQ D)->List (aL D)->{af:Type}->(dX->List (Nat×aQ D)->List (aL D)->Option af)->Option af
def EJ:List Nat->List Nat->Bool
 |[],[]=>aqQ
 |a::p,b::q=>aq9 a b&&EJ p q
 |_,_=>aqT
def qW (us:List (kZ D)) (p:List Nat) (E:List (Nat×aQ D)) (O:List (aL D)):Option (kZ D):=
 match us with
 |[]=>aqS
 |u::us=>if (EJ u.path p&&u.fits E O)=aqQ then aqP u else qW us p E O
def ahr:Option (aL D)->Bool
 |some (.nest _ _ _ _ (aqP _) _)=>aqQ
 |_=>aqT
def am6 (O:List (aL D)) (n:Nat):Bool:=
 match O[n]? with
 |some (.nest _ _ _ _ (aqP p) _)=>(match O[p.2]? with|some o=> !o.live|none=>aqT)
 |_=>aqT
def Hr:Nat->List (aL D)->Option (List (aL D))
 |0,O=>aqP O
 |n+1,O=>match Hr n O with|some bL=>if ahr bL[n]? =aqQ then (if am6 bL n=aqQ then aqP bL else wL bL n) else aqP bL|none=>aqS
def uz (K:List (Nat×aQ D)->List (aL D)->Option af) (E:List (Nat×aQ D)) (O:List (aL D)):Option af:=match Hr O.length O with|some bB=>K E bB|none=>aqS
def hT (us:List (kZ D)) (calm:Array Oper->Bool):Bool->List Nat->Code->List (Nat×aQ D)->List (aL D)->(dX->List (Nat×aQ D)->List (aL D)->Option af)->Option af
 |top,p, .seq a b,E,O,K=>
  match (if top=aqQ then aqS else qW us p.reverse E O) with
  |some u=>u.run E O K
  |none=>hT us calm aqT (0::p) a E O fun e E O=>if e= .normal then hT us calm aqT (1::p) b E O K else K e E O
 |top,p, .cond c a b,E,O,K=>
  match (if top=aqQ then aqS else qW us p.reverse E O) with
  |some u=>u.run E O K
  |none=>
   match cm E c with
   | .c (.bool t)=>if t=aqQ then hT us calm aqT (0::p) a E O K else hT us calm aqT (1::p) b E O K
   |_=>aqS
 |top,p, .block id c,E,O,K=>
  match (if top=aqQ then aqS else qW us p.reverse E O) with
  |some u=>u.run E O K
  |none=>hT us calm aqT (0::p) c E O fun e E O=>K (if e= .exit id then .normal else e) E O
 |top,p, .scope c,E,O,K=>
  match (if top=aqQ then aqS else qW us p.reverse E O) with
  |some u=>u.run E O K
  |none=>hT us calm aqT (0::p) c E O K
 |top,p, .region _ ops d,E,O,K=>
  match (if top=aqQ then aqS else qW us p.reverse E O) with
  |some u=>u.run E O K
  |none=>if d=aqQ then (if calm ops=aqQ then pk X ops.toList ops.toList E O (uz (K .normal)) else uP X (arF ops) ops.toList 0 ops.toList ⟨[],[],[],[],[]⟩ E O (uz (K .normal))) else pk X ops.toList ops.toList E O (uz (K .normal))
 |top,p, .loop c,E,O,K=>
  match (if top=aqQ then aqS else qW us p.reverse E O) with
  |some u=>u.run E O K
  |none=>aqS
 |_,_, .skip,E,O,K=>K .normal E O
 |_,_, .label _,E,O,K=>K .normal E O
 |_,_, .exit id,E,O,K=>K (.exit id) E O
 |_,_, .ret,E,O,K=>K .ret E O
 |_,_,_,_,_,_=>aqS
end
end
end Go.aS
end
section
namespace Go.aS
section
variable {P:aqV} {D:Nat->Type} {X:dx P D} {af:Type} {z z':Nat->a6} {e m m':Mem} {k:Option Nat} {vs:List aqR} {fr:Nat->aqR} {E:List (Nat×aQ D)} {O:List (aL D)} {o:Oper} {r:af}
def c0 (X:dx P D) (O:List (aL D)) (z:Nat->a6) (e:Mem) (k:Option Nat) (vs:List aqR) (K:aQ D->List (aL D)->Option af) (r:af) (v:aqR) (m':Mem):Prop:=
 ∃z' vs' cY bB,Inv O bB/\cR e.next z z'/\(∀(i:Nat) (u:aqR),vs[i]? =aqP u->vs'[i]? =aqP u)/\bo X.G bB z' e m' k vs'/\rel X.G z' vs' cY v/\K cY bB=aqP r
theorem c0.here {K:aQ D->List (aL D)->Option af} {cY:aQ D} {v:aqR} (av:bo X.G O z e m k vs) (ad:rel X.G z vs cY v) (fy:K cY O=aqP r):c0 X O z e k vs K r v m:=⟨z,vs,cY,O,Inv.refl O,cR.refl z,fun _ _ h=>h,av,ad,fy⟩
theorem c0.from {K:aQ D->List (aL D)->Option af} {v:aqR} {cq:Nat->a6} {bL:List (aL D)} (ae:Inv O bL) (aE:cR e.next z cq) (h:c0 X bL cq e k vs K r v m'):c0 X O z e k vs K r v m':=by
 obtain ⟨z',vs',cY,bB,aI,h1,J,aj,aM,br⟩:=h;exact ⟨z',vs',cY,bB,ae.trans aI,aE.trans h1,J,aj,aM,br⟩
theorem Oz (aT:∀d,rel X.G z vs (eh E d) (fr d)) (x:aqX):rel X.G z vs (cm E x) (aJ fr x):=by
 cases x with
 |tmp t=>exact aT t
 |func f=>exact ⟨[],rfl,trivial⟩
 |global g=>trivial
 |const v=>show rel X.G z vs (M5 v) v;unfold M5;split<;>first|trivial|rfl
theorem XI {i:Nat} {c:bJ D} {bB:List (aL D)} {v:aqR} (av:bo X.G O z e m k vs) (h:vh O i=aqP (c,bB)) (ad:vs[i]? =aqP v):∃z',Inv O bB/\cR e.next z z'/\bo X.G bB z' e m k vs/\dj X.G z' vs c v:=by
 unfold vh at h;split at h
 ·rename_i t xs bg w ah;cases h;have bW:=av.obj i _ v ah ad;cases bg with
  |true=>
   have:O.set i (.ay t xs aqQ w)=O:=by
    apply asw;intro j;rw[arp];split
    ·rename_i cW;subst cW;rw[ah,if_pos (aqZ.1 ah).1]
    ·rfl
   rw[this];exact ⟨z,Inv.refl O,cR.refl z,av,bW⟩
  |false=>have bW:c3 (X.G.T t) z e m k xs v:=bW;obtain ⟨z',h1,J,aj,aM⟩:=bW.freeze av.aO;have aa:c7 v=cn v:=fK (by obtain ⟨a,c,rfl⟩:=bW.bd.len;intro r;simp);exact ⟨z',Inv.set O i (.inl rfl),h1,av.ie ah ad rfl rfl h1.le J (by rw[aa];exact aM) aj,aj⟩
 ·rename_i t kt vt es bg w ah;cases h;have bW:=av.obj i _ v ah ad;cases bg with
  |true=>
   have:O.set i (.map t kt vt es aqQ w)=O:=by
    apply asw;intro j;rw[arp];split
    ·rename_i cW;subst cW;rw[ah,if_pos (aqZ.1 ah).1]
    ·rfl
   rw[this];exact ⟨z,Inv.refl O,cR.refl z,av,bW⟩
  |false=>
   have bW:hX (X.G.M t kt vt) z e m k es v:=bW;obtain ⟨z',h1,J,aj,aM⟩:=bW.freeze av.aO;have aa:c7 v=ss v:=by obtain ⟨r,rfl,_⟩:=bW.bd;rfl
   exact ⟨z',Inv.set O i (.inl rfl),h1,av.ie ah ad rfl rfl h1.le J (by rw[aa];exact aM) aj,aj⟩
 ·rename_i dA t up di w ah;cases h;obtain ⟨hu,ws,bW⟩:=av.obj i _ v ah ad;obtain ⟨h1,J,aj⟩:=hu up rfl;obtain ⟨z',g1,g2,g3,g4⟩:=aeH bW h1 J aj av.aO;have n0:∀r,v≠ .map r:=by obtain ⟨a,c,rfl⟩:=bW.bd.bd.len;intro r;simp
  exact ⟨z',Inv.set O i (.inl rfl),g1,av.D1 (p:=aqS) ah ad rfl n0 g1.le ⟨aq3 _,av.aO.dead,fun _ _ _=>rfl⟩ g2 (fun _ _ _ _ _ _ _=>en.qQ) (fun b aa=>by cases aa) (fun b aa _ ai=>g4 b aa ai) g3,g3⟩
 ·cases h
theorem zj {c bP:bJ D} {bB:List (aL D)} {v:aqR} (av:bo X.G O z e m k vs) (h:rD O c=aqP (bP,bB)) (ad:dj X.G z vs c v):∃z',Inv O bB/\cR e.next z z'/\bo X.G bB z' e m k vs/\dj X.G z' vs bP v:=by
 cases c with
 |own i=>exact XI av h ad.1
 |_=>cases h;exact ⟨z,Inv.refl O,cR.refl z,av,ad⟩
theorem OC:∀{cs cs':List (bJ D)} {O bB:List (aL D)} {ds:List aqR} {z:Nat->a6},bo X.G O z e m k vs->A9 O cs=aqP (cs',bB)->ba (dj X.G z vs) cs ds->∃z',Inv O bB/\cR e.next z z'/\bo X.G bB z' e m k vs/\ba (dj X.G z' vs) cs' ds
 |[],cs',O,bB,[],z,av,h,_=>by cases h;exact ⟨z,Inv.refl _,cR.refl z,av,trivial⟩
 |c::cs,cs',O,bB,d::ds,z,av,h,⟨h1,J⟩=>by
  unfold A9 at h;split at h
  ·rename_i bP bL ab;split at h
   ·rename_i aaN cU hC;cases h;obtain ⟨cq,g0,g1,g2,g3⟩:=zj av ab h1;obtain ⟨z2,iP,bt,bE,cM⟩:=OC g2 hC (nB.mono J g1.le fun _ _ h=>h);exact ⟨z2,g0.trans iP,g1.trans bt,bE,dj.mono g3 bt.le fun _ _ h=>h,cM⟩
   ·cases h
  ·cases h
 |[],_,_,_,_::_,_,_,_,h=>h.elim
 |_::_,_,_,_,[],_,_,_,h=>h.elim
theorem F8 {s:aQ D} {cs:List (bJ D)} {v:aqR} (h:zt s=aqP cs) (ad:rel X.G z vs s v):storable v=aqQ/\ba (dj X.G z vs) cs v.cells.toList:=by
 cases s with
 |c c=>cases h;have:=dj.ZI ad;rw[this.2];exact ⟨this.1,ad,trivial⟩
 |agg t cs'=>cases h;obtain ⟨ds,rfl,J⟩:=ad;exact ⟨rfl,J⟩
 |fn f caps=>
  cases caps with
  |nil=>
   cases h;obtain ⟨gs,rfl,J⟩:=ad;cases gs with
   |nil=>exact ⟨rfl,⟨[],rfl,trivial⟩,trivial⟩
   |cons _ _=>exact J.elim
  |cons _ _=>cases h
 |_=>cases h
theorem XJ {s:aQ D} {cs:List (bJ D)} {bB:List (aL D)} {v:aqR} (av:bo X.G O z e m k vs) (h:ER O s=aqP (cs,bB)) (ad:rel X.G z vs s v):∃z',Inv O bB/\cR e.next z z'/\bo X.G bB z' e m k vs/\storable v=aqQ/\ba (dj X.G z' vs) cs v.cells.toList:=by
 unfold ER at h;split at h
 ·rename_i qs ab;obtain ⟨h1,J⟩:=F8 ab ad;obtain ⟨z',g0,g1,g2,g3⟩:=OC av h J;exact ⟨z',g0,g1,g2,h1,g3⟩
 ·cases h
variable {x y:aqX} {t u:aqY}
theorem ahv {op:BinOp} {kk:aqW} {a b:Int} {K:bJ D->Option af} (ah:o.op= .binOp op t x y u) (U:aJ fr x= .int kk a) (ag:aJ fr y= .int kk b) (h:Ey op y kk a b K=aqP r):∃c v,K c=aqP r/\cO P (aJ fr) o v/\dj X.G z vs c v:=by
 have lit:Hn y=aqQ->b≠0:=fun ai aa=>by
  unfold Hn at ai;split at ai
  ·rename_i FM n;have:asG FM n= .int kk b:=ag;cases this;simp[aa] at ai
  ·cases ai
 cases op with
 |add=>exact ⟨_,_,h,aee ah U ag,rfl⟩
 |sub=>exact ⟨_,_,h,aeq ah U ag,rfl⟩
 |mul=>exact ⟨_,_,h,ael ah U ag,rfl⟩
 |and=>exact ⟨_,_,h,aef ah U ag,rfl⟩
 |or=>exact ⟨_,_,h,aep ah U ag,rfl⟩
 |xor=>exact ⟨_,_,h,aer ah U ag,rfl⟩
 |andNot=>exact ⟨_,_,h,ahZ ah U ag,rfl⟩
 |eql=>exact ⟨_,_,h,aeg ah U ag,rfl⟩
 |neq=>exact ⟨_,_,h,aen ah U ag,rfl⟩
 |lss=>exact ⟨_,_,h,aek ah U ag,rfl⟩
 |leq=>exact ⟨_,_,h,aej ah U ag,rfl⟩
 |gtr=>exact ⟨_,_,h,aei ah U ag,rfl⟩
 |geq=>exact ⟨_,_,h,aeh ah U ag,rfl⟩
 |quo=>
  simp only[Ey] at h;split at h
  ·rename_i ai;exact ⟨_,_,h,Vt ah U ag (lit ai),rfl⟩
  ·obtain ⟨c,ab,h⟩:=bind_some h;obtain ⟨h1,rfl⟩:=afa ab;exact ⟨_,_,h,Vt ah U ag h1,rfl⟩
 |rem=>
  simp only[Ey] at h;split at h
  ·rename_i ai;exact ⟨_,_,h,Vu ah U ag (lit ai),rfl⟩
  ·obtain ⟨c,ab,h⟩:=bind_some h;obtain ⟨h1,rfl⟩:=afN ab;exact ⟨_,_,h,Vu ah U ag h1,rfl⟩
 |shl=>cases h
 |shr=>cases h
theorem ahw {op:BinOp} {s q:List UInt8} {K:bJ D->Option af} (ah:o.op= .binOp op t x y u) (U:aJ fr x=str s) (ag:aJ fr y=str q) (h:TA op s q K=aqP r):∃c v,K c=aqP r/\cO P (aJ fr) o v/\dj X.G z vs c v:=by
 cases op with
 |add=>obtain ⟨c,ab,h⟩:=bind_some h;obtain ⟨h1,rfl⟩:=r6 ab;exact ⟨_,_,h,am7 ah U ag (by simp only[ma] at h1;omega),rfl⟩
 |eql=>exact ⟨_,_,h,am' ah U ag,rfl⟩
 |neq=>exact ⟨_,_,h,amx ah U ag,rfl⟩
 |lss=>exact ⟨_,_,h,ams ah U ag,rfl⟩
 |leq=>exact ⟨_,_,h,amr ah U ag,rfl⟩
 |gtr=>exact ⟨_,_,h,amn ah U ag,rfl⟩
 |geq=>exact ⟨_,_,h,ana ah U ag,rfl⟩
 |_=>cases h
theorem ahu {op:BinOp} {a b:Bool} {K:bJ D->Option af} (ah:o.op= .binOp op t x y u) (ao:P.underlying t=aqP .bool) (U:aJ fr x= .bool a) (ag:aJ fr y= .bool b) (h:Tz op a b K=aqP r):∃c v,K c=aqP r/\cO P (aJ fr) o v/\dj X.G z vs c v:=by
 cases op with
 |eql=>exact ⟨_,_,h,am9 ah ao U ag,rfl⟩
 |neq=>exact ⟨_,_,h,amw ah ao U ag,rfl⟩
 |_=>cases h
theorem Oy {s:aQ D} {v:aqR} {p:(t:Nat)×List (D t)} (av:bo X.G O z e m k vs) (h:pe O s=aqP p) (ad:rel X.G z vs s v):ev (X.G.T p.1) z p.2 v\/∃(w:aqR),c3 (X.G.T p.1) z e m k p.2 v:=by
 unfold pe at h;split at h
 ·cases h;exact .inl ad
 ·rename_i i;split at h
  ·rename_i t xs bg w ah;cases h;have bW:=av.obj i _ v ah ad.1;cases bg with
   |true=>exact .inl bW
   |false=>exact .inr ⟨v,bW⟩
  ·cases h
 ·cases h
theorem afI {s:aQ D} {v:aqR} {p:(t:Nat)×List (D t)} (av:bo X.G O z e m k vs) (h:pe O s=aqP p) (ad:rel X.G z vs s v):∃a c,v= .slice a p.2.length c:=by
 rcases Oy av h ad with h|⟨_,h⟩
 ·exact h.len
 ·exact h.bd.len
theorem Wr {s:aQ D} {v:aqR} {p:(t:Nat)×List (D t)} (av:bo X.G O z e m k vs) (h:pe O s=aqP p) (ad:rel X.G z vs s v):(v= .slice aqS 0 0/\p.2=[])\/∃a l c,v= .slice (aqP a) l c:=by
 rcases Oy av h ad with h|⟨_,h⟩
 ·exact h.M0
 ·exact h.bd.M0
theorem afJ {s:aQ D} {v:aqR} {p:(t:Nat)×List (D t)} (av:bo X.G O z e m k vs) (h:pe O s=aqP p) (ad:rel X.G z vs s v):Src (X.G.T p.1) z m p.2 v:=by
 rcases Oy av h ad with h|⟨_,h⟩
 ·exact h.src av.aO.bg
 ·exact h.bd.src
theorem oy.anp {ap:Type} {T:cf ap} {z':Nat->a6} {xs:List ap} {bG n:Nat} {w v:aqR} (ab:oy T.a1 bG n w v) (h:ev T z' xs w):ev T z' ((xs.take n).drop bG) v:=by
 rcases ab with ⟨rfl,rfl,rfl,rfl⟩|⟨b,f0,l,c,off,bP,rfl,rfl,h1,J,aj,aM⟩
 ·exact .inl ⟨rfl,by simp⟩
 ·rcases h with ⟨h,_⟩|⟨b2,M6,c2,g1,g2,g3,g4⟩
  ·cases h
  ·cases g1;have ai:((xs.take n).drop bG).length=n - bG:=by simp;omega
   refine .inr ⟨b,off,bP,by rw[ai],g2, ?_,fun i x ae=> ?_⟩
   ·rw[ai];rcases g3 with ⟨bt,L,bE,cM⟩|⟨bt,bE⟩
    ·rcases aM with ⟨_,br⟩|⟨br,_⟩
     ·refine .inl ⟨br,L,bE, ?_⟩;have aX:n*T.a1<=xs.length*T.a1:=ar9 _ J;rcases aj with aj|⟨aj,rF⟩
      ·rw[aj,arx,<-arm,show bG+(n - bG)=n by omega];omega
      ·rw[rF,show n - bG=0 by omega];omega
     ·omega
    ·rcases aM with ⟨br,_⟩|⟨br,dt⟩
     ·omega
     ·exact .inr ⟨by omega,by omega⟩
   ·obtain ⟨cs,bt,bE⟩:=g4 _ x (G1 ae);refine ⟨cs,bt, ?_⟩;rcases aj with aj|⟨aj,rF⟩
    ·rw[aj,arx,<-arm];exact bE
    ·have:=(aqZ.1 ae).1;omega
theorem oy.M9 {ap:Type} {T:cf ap} {z':Nat->a6} {m':Mem} {xs:List ap} {bG n:Nat} {w v:aqR} (ab:oy T.a1 bG n w v) (h:eI T z' m' xs w):eI T z' m' ((xs.take n).drop bG) v:=by
 rcases ab with ⟨rfl,rfl,_,rfl⟩|⟨b,f0,l,c,off,bP,rfl,rfl,h1,J,aj,aM⟩
 ·exact .inl ⟨rfl,by simp⟩
 ·rcases h with ⟨h,_⟩|⟨b2,f1,L,c2,g1,g2,g3,g4,g5,g6,g7⟩
  ·cases h
  ·cases g1;have ai:((xs.take n).drop bG).length=n - bG:=by simp;omega
   have aX:n*T.a1<=xs.length*T.a1:=ar9 _ J;have e2:bG*T.a1+(n - bG)*T.a1=n*T.a1:=by rw[<-arm,show bG+(n - bG)=n by omega]
   have hR:n<=bG->(n - bG)*T.a1=0:=fun h=>by rw[show n - bG=0 by omega,ar8]
   refine .inr ⟨b,off,L,bP,by rw[ai],g2,g3,g4, ?_, ?_,fun i x ae=> ?_⟩
   ·rw[ai];rcases aj with aj|⟨aj,rF⟩
    ·omega
    ·have:=hR aj;omega
   ·rw[ai];rcases aM with ⟨_,br⟩|⟨br,dt⟩
    ·exact .inl br
    ·rcases g6 with g6|⟨bt,bE,cM⟩
     ·omega
     ·subst dt;have mn:bG*T.a1+(c - bG)*T.a1=c*T.a1:=by rw[<-arm,show bG+(c - bG)=c by omega]
      refine .inr ⟨by omega,by omega, ?_⟩;rcases aj with aj|⟨aj,rF⟩<;>omega
   ·obtain ⟨cs,bt,bE⟩:=g7 _ x (G1 ae);refine ⟨cs,bt, ?_⟩;rcases aj with aj|⟨aj,rF⟩
    ·rw[aj,arx,<-arm];exact bE
    ·have:=(aqZ.1 ae).1;omega
theorem oy.bd {ap:Type} {T:cf ap} {z':Nat->a6} {m':Mem} {xs:List ap} {n:Nat} {w v:aqR} (ab:oy T.a1 0 n w v) (h:eI T z' m' xs w):eI T z' m' (xs.take n) v:=by simpa using ab.M9 h
theorem oy.src {ap:Type} {T:cf ap} {z':Nat->a6} {m':Mem} {xs:List ap} {bG n:Nat} {w v:aqR} (ab:oy T.a1 bG n w v) (h:eI T z' m' xs w):Src T z' m' ((xs.take n).drop bG) v:=by
 rcases ab with ⟨rfl,rfl,rfl,rfl⟩|⟨b,f0,l,c,off,bP,rfl,rfl,h1,J,aj,aM⟩
 ·simpa using (eI.nil (T:=T) (z:=z') (m:=m')).src
 ·rcases h with ⟨h,_⟩|⟨b2,f1,L,c2,g1,g2,g3,g4,g5,g6,g7⟩
  ·cases h
  ·cases g1;have ai:((xs.take n).drop bG).length=n - bG:=by simp;omega
   rw[<-ai];refine Pr fun i y ag=> ?_;obtain ⟨cs,bt,bE⟩:=g7 _ y (G1 ag);refine ⟨cs,bt,fun k u hk=> ?_⟩;have:=(aqZ.1 ag).1;have ah:off=f0+bG*T.a1:=by
    rcases aj with aj|⟨aj,_⟩
    ·exact aj
    ·omega
   rw[ah,arx f0,<-arm];simp only[Mem.load,g2];exact bE k u hk
theorem oy.aH {a1 bG n:Nat} {w v:aqR} (ab:oy a1 bG n w v):c7 v=c7 w:=by
 rcases ab with ⟨rfl,rfl,_,_⟩|⟨b,f0,l,c,off,bP,rfl,rfl,_⟩<;>rfl
theorem Wq {s:aQ D} {v:aqR} {p:(t:Nat)×List (D t)} (av:bo X.G O z e m k vs) (h:HG O s=aqP p) (ad:rel X.G z vs s v):Src (X.G.T p.1) z m p.2 v:=by
 unfold HG at h;split at h
 ·obtain ⟨w,h1,J⟩:=ad;split at h
  ·rename_i bw xs cN hO;split at h
   ·rename_i he;subst he;cases h;have bW:c3 _ z e m k xs w:=av.obj _ _ _ hO h1.1;exact J.src bW.bd
   ·cases h
  ·cases h
 ·exact afJ av h ad
theorem Xt (h:Pw y=aqQ):aJ fr y= .slice aqS 0 0:=by
 unfold Pw at h;split at h
 ·rfl
 ·cases h
theorem YS {op:BinOp} {left:Bool} {kk FM:aqW} {a b:Int} {K:bJ D->Option af} (ah:o.op= .binOp op t x y u) (au:aJ fr x= .int kk a) (aa:aJ fr y= .int FM b) (jo:(op= .shl/\left=aqQ)\/(op= .shr/\left=aqT)) (h:Is left y kk a b K=aqP r):∃c v,K c=aqP r/\cO P (aJ fr) o v/\dj X.G z vs c v:=by
 have fin:∀{n:Nat},0<=b->min b.toNat kk.bits=n->cO P (aJ fr) o (.int kk (zV left kk a n)):=by
  intro n hY aq;have:=ajh (P:=P) (op:=op) ah au aa hY (by rcases jo with ⟨h,_⟩|⟨h,_⟩<;>simp[h]);rw[aq] at this;have e:(if op= .shl then kk.wrap (a*2 ^ n) else a.fdiv (2 ^ n))=zV left kk a n:=by rcases jo with ⟨rfl,rfl⟩|⟨rfl,rfl⟩<;>simp[zV,Int.natCast_pow]
  rw[<-e];exact this
 unfold Is at h;split at h
 ·rename_i n aq;obtain ⟨ai,h⟩:art n kk.bits=aqQ/\K (.int kk (zV left kk a n))=aqP r:=by
   split at h
   ·exact ⟨‹_›,h⟩
   ·cases h
  have eL:b=n:=by
   unfold Yr at aq;split at aq
   ·cases aq;have aa:asG _ (Int.ofNat n)= .int FM b:=aa;cases aa;rfl
   ·cases aq
  exact ⟨_,_,h,fin (by omega) (by rw[eL,arZ];exact Nat.min_eq_left (asa ai)),rfl⟩
 ·obtain ⟨n,aq,h⟩:=bind_some h;unfold ZG at aq;split at aq
  ·rename_i hY;cases aq;exact ⟨_,_,h,fin hY rfl,rfl⟩
  ·cases aq
theorem aii {op:BinOp} {t1 t2:Nat} {c1 c2:List (bJ D)} {K:bJ D->Option af} (ah:o.op= .binOp op t x y u) (au:rel X.G z vs (.agg t1 c1) (aJ fr x)) (aa:rel X.G z vs (.agg t2 c2) (aJ fr y)) (h:Lk X op t t1 c1 t2 c2 K=aqP r):∃c v,K c=aqP r/\cO P (aJ fr) o v/\dj X.G z vs c v:=by
 unfold Lk at h;split at h
 ·rename_i ti mI ac' aqc;split at h
  ·rename_i a b h1 J;obtain ⟨ds,U,yC⟩:=au;obtain ⟨mU,ag,k9⟩:=aa;have aX:=mI.ad z a ds (ti.qR z vs c1 a ds h1 yC);have e2:=mI.ad z b mU (ti.qR z vs c2 b mU J k9);rw[aX] at U;rw[e2] at ag;split at h
   ·exact ⟨_,_,h,Vs aqT (by simpa using ah) mI.ao mI.an mI.aG (mI.az a b) U ag (mI.he a b),rfl⟩
   ·exact ⟨_,_,h,Vs aqQ (by simpa using ah) mI.ao mI.an mI.aG (mI.az a b) U ag (mI.he a b),rfl⟩
   ·cases h
  ·cases h
 ·cases h
theorem ahx {op:BinOp} {a b:aQ D} {K:bJ D->Option af} (ah:o.op= .binOp op t x y u) (av:bo X.G O z e m k vs) (au:rel X.G z vs a (aJ fr x)) (aa:rel X.G z vs b (aJ fr y)) (h:JF (P:=P) op t y O a b K=aqP r):∃c v,K c=aqP r/\cO P (aJ fr) o v/\dj X.G z vs c v:=by
 unfold JF at h;split at h
 ·split at h
  ·exact YS ah au aa (.inl ⟨rfl,rfl⟩) h
  ·exact YS ah au aa (.inr ⟨rfl,rfl⟩) h
  ·split at h
   ·rename_i hk;subst hk;exact ahv ah au aa h
   ·cases h
 ·exact ahw ah au aa h
 ·split at h
  ·rename_i ao;exact ahu ah ao au aa h
  ·cases h
 ·split at h
  ·rename_i fP ao aq;have ag:=Xt (fr:=fr) aq;split at h
   ·exact ⟨_,_,h,GQ aqT ah ao au ag,rfl⟩
   ·split at h
    ·rename_i db xs ai;rcases Wr av ai au with ⟨ad,pR⟩|⟨a',kq,bP,ad⟩
     ·exact ⟨_,_,Gp h aqQ fun _=>pR,GQ aqT ah ao ad ag,rfl⟩
     ·exact ⟨_,_,Gp h aqT (by simp), .A7 aqT x y t u fP a' kq bP ah ao ad ag,rfl⟩
    ·cases h
  ·rename_i fP ao aq;have ag:=Xt (fr:=fr) aq;split at h
   ·exact ⟨_,_,h,GQ aqQ ah ao au ag,rfl⟩
   ·split at h
    ·rename_i db xs ai;rcases Wr av ai au with ⟨ad,pR⟩|⟨a',kq,bP,ad⟩
     ·exact ⟨_,_,Gp h aqQ fun _=>pR,GQ aqQ ah ao ad ag,rfl⟩
     ·exact ⟨_,_,Gp h aqT (by simp), .A7 aqQ x y t u fP a' kq bP ah ao ad ag,rfl⟩
    ·cases h
  ·cases h
end
end Go.aS
end
section
namespace Go.aS
section
variable {P:aqV} {D:Nat->Type} {X:dx P D} {af:Type} {z z':Nat->a6} {e m m':Mem} {k:Option Nat} {vs:List aqR} {fr:Nat->aqR} {E:List (Nat×aQ D)} {O:List (aL D)} {o:Oper} {r:af}
variable {x y:aqX} {t u:aqY} {K:aQ D->List (aL D)->Option af}
theorem iq {cY:aQ D} {v:aqR} (av:bo X.G O z e m k vs) (fy:K cY O=aqP r) (h:cO P (aJ fr) o v) (ad:rel X.G z vs cY v):bV P (aJ fr) o m fun _ v m'=>c0 X O z e k vs K r v m':=
 bV.pure h (c0.here av ad fy)
theorem Y1 {fM:Nat} {ti:ft P X.G fM} {xs:List (D fM)} {n:Int} {kk:aqW} {a:D fM} (ah:o.op= .indexAddr t x y) (ao:P.underlying t=aqP (.slice fM)) (av:bo X.G O z e m k vs) (az:ev (X.G.T fM) z xs (aJ fr x)) (ag:aJ fr y= .int kk n) (aG:aR xs n=aqP a)
  (h:K (.gd fM (ti.lh a) 0) O=aqP r):bV P (aJ fr) o m fun _ v m'=>c0 X O z e k vs K r v m':=by
 refine amU ah ao ti.ae ti.bC rfl ag az aG fun b off cs dE ab=> ?_;exact c0.here (cY:= .gd fM (ti.lh a) 0) av ⟨b,off,cs,rfl,ab,ti.q4 _ _ _ _ dE⟩ h
theorem agS {a b:aQ D} (ah:o.op= .indexAddr t x y) (av:bo X.G O z e m k vs) (au:rel X.G z vs a (aJ fr x)) (aa:rel X.G z vs b (aJ fr y)) (h:P4 X t a b O K=aqP r):bV P (aJ fr) o m fun _ v m'=>c0 X O z e k vs K r v m':=by
 unfold P4 at h;split at h
 ·rename_i kk n;have ag:aJ fr y= .int kk n:=aa;split at h
  ·rename_i i;split at h
   ·rename_i t1 xn kr xs cN hO;split at h
    ·rename_i ti l bw cb ao;split at h
     ·rename_i dn;obtain ⟨rfl,rfl⟩:=dn;obtain ⟨a,aG,h⟩:=bind_some h;obtain ⟨b,B6,ad,U⟩:=au;obtain ⟨⟨b2,he⟩,bW⟩:=av.obj i _ _ hO ad;cases he;refine amT ah ao ti.ae (T:=(X.G.T bw).as xn) ti.bC U ag bW aG fun cs dE qC ab=> ?_;exact c0.here (cY:= .el i bw n 0) av ⟨b,0,_,_,ad,by simp;rfl⟩ h
     ·cases h
    ·cases h
   ·cases h
  ·rename_i aX xs;split at h
   ·rename_i ti bw cb ao;split at h
    ·rename_i dn;subst dn;obtain ⟨a,aG,h⟩:=bind_some h;exact Y1 (ti:=ti) ah ao av au ag aG h
    ·cases h
   ·cases h
  ·rename_i i;split at h
   ·rename_i t1 xs bg cN hO;split at h
    ·rename_i ti bw cb ao;split at h
     ·rename_i dn;subst dn;obtain ⟨a,aG,h⟩:=bind_some h;have bW:=av.obj i _ _ hO au.1;cases bg with
      |true=>exact Y1 (ti:=ti) ah ao av bW ag aG h
      |false=>have bW:c3 (X.G.T bw) z e m k xs (aJ fr x):=bW;refine Y3 ah ao ti.ae ti.bC rfl ag bW aG fun b f0 l c cs ad dE qC ab=> ?_;exact c0.here (cY:= .el i bw n 0) av ⟨b,f0,l,c,by rw[<-ad];exact au.1,rfl⟩ h
     ·cases h
    ·cases h
   ·rename_i aX t1 up di hole cN hO;split at h
    ·rename_i dM bw bi ao;split at h
     ·rename_i dn;subst dn;obtain ⟨a,aG,h⟩:=bind_some h;obtain ⟨hu,ws,bW⟩:=av.obj i _ _ hO au.1;obtain ⟨g0,g1,g2⟩:=o6 aG;have aN:n.toNat<ws.length:=by rw[bW.len];exact (aqZ.1 g2).1
      have vy:aR ws n=aqP ws[n.toNat]:=by unfold aR;rw[if_pos (by omega)];exact ars aN
      refine Y3 (T:=qn bw) ah ao dM.ae (by rw[dM.h1];rfl) rfl ag bW.bd vy fun b f0 l c cs ad dE qC ab=> ?_;exact c0.here (cY:= .el i bw n 0) av ⟨b,f0,l,c,by rw[<-ad];exact au.1,by rw[dM.bC];rfl⟩ h
     ·cases h
    ·cases h
   ·cases h
  ·rename_i i aX bG ae;split at h
   ·rename_i t1 xs cN hO;split at h
    ·rename_i ti bw cb ao;split at h
     ·rename_i dn;obtain ⟨rfl,rfl⟩:=dn;obtain ⟨a,aG,h⟩:=bind_some h;obtain ⟨w,hw,ab⟩:=au;obtain ⟨g0,g1,g2⟩:=o6 aG;have hlen:n.toNat<((xs.take ae).drop bG).length:=(aqZ.1 g2).1;rw[ar4,arA] at hlen;rcases ab with ⟨_,_,rfl,rfl⟩|⟨b,f0,l,c,off,bP,rfl,ad,h1,J,aj,aM⟩
      ·omega
      ·have nX:off=f0+bG*(X.G.T t1).a1:=by rcases aj with aj|aj<;>omega
       refine bV.pure (v:= .pointer (aqP ⟨b,off+n.toNat*ti.i.size,aqS⟩)) (.indexAddr t x y t1 ti.i b off _ bP kk n ah ao ti.ae ad ag g0 (by omega)) (c0.here (cY:= .el i t1 ((bG:Int)+n) 0) av ⟨b,f0,l,c,hw.1, ?_⟩ h);have aX:((bG:Int)+n).toNat=bG+n.toNat:=by omega
       rw[aX,nX,ti.bC,arm,arC,arx]
     ·cases h
    ·cases h
   ·cases h
  ·cases h
 ·cases h
theorem agQ {n:Nat} {a:aQ D} (ah:o.op= .fieldAddr t x n) (av:bo X.G O z e m k vs) (au:rel X.G z vs a (aJ fr x)) (h:P3 (P:=P) t n a O K=aqP r):bV P (aJ fr) o m fun _ v m'=>c0 X O z e k vs K r v m':=by
 unfold P3 at h;split at h
 ·rename_i bc ao;split at h
  ·rename_i f aP;split at h
   ·rename_i i ae;split at h
    ·cases h
    ·rename_i az;have j3:(i.size==0)=aqT:=by simpa using az
     split at h
     ·obtain ⟨b,ad,U⟩:=au;exact iq av h (Pn ah ao aP ae j3 U) ⟨b,ad,rfl⟩
     ·obtain ⟨b,gm,ds,U,ab,aw⟩:=au;exact iq av h (Pn ah ao aP ae j3 U) ⟨b,gm,ds,by rw[arx],ab,aw⟩
     ·obtain ⟨b,f0,l,c,ad,U⟩:=au;exact iq av h (Pn ah ao aP ae j3 U) ⟨b,f0,l,c,ad,by rw[arx]⟩
     ·cases h
   ·cases h
  ·cases h
 ·cases h
theorem agE {b off:Nat} {cs:List (bJ D)} {ds:List aqR} {K:aQ D->Option af} (ah:o.op= .load t x) (U:aJ fr x= .pointer (aqP ⟨b,off,aqS⟩)) {kJ:Nat} (ab:∀(j:Nat) (w:aqR),ds[j]? =aqP w->m.load b (kJ+j)=aqP w) {n:Nat} (nX:off=kJ+n) (aw:ba (dj X.G z vs) cs ds)
  (h:pd (P:=P) t cs n K=aqP r):∃cY v,K cY=aqP r/\rel X.G z vs cY v/\eS P (aJ fr) o m v:=by
 subst nX;unfold pd at h;split at h
 ·cases h
 ·rename_i d aB;split at h
  ·rename_i vn;split at h
   ·cases h
   ·rename_i i ae;split at h
    ·rename_i hlen;have ng:ba (dj X.G z vs) ((cs.drop n).take i.size) ((ds.drop n).take i.size):=ba.take _ (ba.drop _ aw);have gl:((ds.drop n).take i.size).length=i.size:=by rw[<-ng.length];exact hlen
     refine ⟨_, .agg ((ds.drop n).take i.size).toArray,h,⟨_,rfl,ng⟩,aim ah aB vn ae gl U fun j w ar=> ?_⟩;rw[arD] at ar;split at ar
     ·rw[ar0] at ar;rw[arx];exact ab _ w ar
     ·cases ar
    ·cases h
  ·rename_i vn;split at h
   ·rename_i c hC;obtain ⟨w,hw,yE⟩:=aw.get n c hC;exact ⟨_,w,h,yE,Y0 ah aB (by simpa using vn) U (ab n w hw)⟩
   ·cases h
theorem bo.kill (h:bo X.G O z e m k vs) (i:Nat):bo X.G (O.set i .dead) z e m k vs:=by
 refine ⟨h.aO,by rw[asb];exact h.len,fun j p w ar hw=> ?_,fun a b p dG u w eH au aa hD jS hu hw=> ?_⟩
 ·rw[arp] at ar;split at ar
  ·split at ar
   ·cases ar;trivial
   ·cases ar
  ·exact h.obj j p w ar hw
 ·have key:∀(a:Nat) (p:aL D),(O.set i .dead)[a]? =aqP p->p.live=aqQ->O[a]? =aqP p:=by
   intro a p au an;rw[arp] at au;split at au
   ·split at au
    ·cases au;cases an
    ·cases au
   ·exact au
  exact h.eE a b p dG u w eH (key a p au hD) (key b dG aa jS) hD jS hu hw
theorem CB {bL:List (aL D)} {i:Nat} (av:bo X.G O z e m k vs) (h:wL O i=aqP bL):∃z',Inv O bL/\cR e.next z z'/\bo X.G bL z' e m k vs:=by
 unfold wL at h;split at h
 ·cases h;exact ⟨z,Inv.refl O,cR.refl z,av⟩
 ·rename_i aX t1 up di p w hO;split at h
  ·rename_i t2 xs fk E2;split at h
   ·rename_i dn;subst dn;cases h;obtain ⟨v,ad,hu,ws,bW⟩:=av.at hO;obtain ⟨ll,u,BO,oT⟩:=bW.out p rfl;have lb:c3 (X.G.T t2) z e m k xs u:=av.obj p.2 _ u E2 BO;have ca:i≠p.2:=fun ax=>by rw[ax,E2] at hO;cases hO
    have hB:c7 v=cn v:=fK (by obtain ⟨a,c,rfl⟩:=bW.bd.bd.len;intro r;simp);have vp:c7 u=cn u:=fK (by obtain ⟨a,c,rfl⟩:=lb.bd.len;intro r;simp);have n0:∀r,v≠ .map r:=by obtain ⟨a,c,rfl⟩:=bW.bd.bd.len;intro r;simp
    have dv:=av.eE p.2 i _ _ u v (fun ax=>ca ax.symm) E2 hO rfl rfl BO ad;rw[hB,vp] at dv;have aN:p.1.toNat<ws.length:=(aqZ.1 oT).1;have ni:ws=ws.set p.1.toNat u:=by
     apply asw;intro j;rw[arp];split
     ·rename_i ar;subst ar;exact oT
     ·rfl
    obtain ⟨z',g1,g2,g3,g4⟩:=OG bW av.aO bW.bd ni aN (fun q aK=>by cases aK;omega) lb dv;have Bg:=av.kill p.2;have LD:(O.set p.2 .dead)[i]? =aqP (.nest aX t2 up di (aqP p) w):=by rw[asK (fun ax=>ca ax.symm)];exact hO
    have vk:=Bg.D1 (o':= .nest aX t2 up (di.set p.1.toNat xs) aqS aqQ) (p:=cn u) LD ad rfl n0 g1.le ⟨aq3 _,av.aO.dead,fun _ _ _=>rfl⟩ g2 (fun j q qf ar aK ai hw=> ?_) (fun b aa=>(lb.bd.lt b aa).2) (fun b aa an _=> ?_) ⟨hu,ws,g3⟩
    ·have Mw:(O.set i (.nest aX t2 up (di.set p.1.toNat xs) aqS aqQ)).set p.2 .dead=(O.set p.2 .dead).set i (.nest aX t2 up (di.set p.1.toNat xs) aqS aqQ):=List.set_comm _ _ ca;exact ⟨z',(Inv.set O i (.inr rfl)).trans (Inv.set _ p.2 (.inl rfl)),g1,by rw[Mw];exact vk⟩
    ·rw[arp] at aK;split at aK
     ·split at aK
      ·cases aK;cases ai
      ·cases aK
     ·rename_i L9;have:=av.eE j p.2 q _ qf u (fun ax=>L9 ax.symm) aK E2 ai rfl hw BO;rw[vp] at this;exact this
    ·rcases g4 b with ab|ab
     ·exact ab
     ·exact absurd ab an
   ·cases h
  ·cases h
 ·cases h
theorem afH {i e2 t1:Nat} (dM:pv P X.G e2 t1) {up:Option (List (D t1)->D e2)} {di:List (List (D t1))} {cN:Bool} {cx:Int} {bL:List (aL D)} {cq:Nat->a6} (ah:o.op= .load e2 x) (av:bo X.G O z e m k vs) (hd:Inv O bL) (nj:cR e.next z cq) (hA:bo X.G bL cq e m k vs) (hO:bL[i]? =aqP (.nest e2 t1 up di aqS cN)) (au:rel X.G z vs (.el i e2 cx 0) (aJ fr x))
  (h:(aqU (aR di cx) fun xs=>K (.c (.own bL.length)) (bL.set i (.nest e2 t1 up di (aqP (cx,bL.length)) cN)++[.ay t1 xs aqT aqT]))=aqP r):bV P (aJ fr) o m fun _ v m'=>c0 X O z e k vs K r v m':=by
 obtain ⟨xs,aG,h⟩:=bind_some h;obtain ⟨b,f0,l,c,ad,U⟩:=au;obtain ⟨hu,ws,bW⟩:=hA.obj i _ _ hO ad;obtain ⟨g0,g1,g2⟩:=o6 aG;have aN:cx.toNat<ws.length:=by rw[bW.len];exact (aqZ.1 g2).1
 have hw:=ars aN;have vy:aR ws cx=aqP ws[cx.toNat]:=by unfold aR;rw[if_pos (by omega)];exact hw
 obtain ⟨cs,dE,_,ab⟩:=bW.bd.elem rfl vy;have acj:m.load b (f0+cx.toNat*(X.G.T e2).a1+0)=aqP ws[cx.toNat]:=by rw[dM.bC];exact ab 0 _ (by rw[dE.1];rfl)
 generalize ws[cx.toNat]=u at*;obtain ⟨z2,b5,cd,dN,fD,lY,lo⟩:=agJ (vs':=vs++[u]) (FJ:=bL.length) bW hA.aO hw g2 im (by rw[<-hA.len];simp);have n0:∀r,asi (aqP ⟨b,f0,aqS⟩) l c≠ .map r:=fun r ax=>by cases ax
 have mu:((cx.toNat:Nat):Int)=cx:=by omega
 rw[mu] at dN;have vp:c7 u=cn u:=fK (by obtain ⟨a,c,rfl⟩:=fD.bd.len;intro r;simp);have ae:=(aqZ.1 hO).1;have abm:bo X.G (bL++[.dead]) cq e m k (vs++[u]):=hA.Nf trivial fun ai=>by cases ai
 have abn:=abm.D1 (o:= .nest e2 t1 up di aqS cN) (o':= .nest e2 t1 up di (aqP (cx,bL.length)) cN) (p:=aqS) (by rw[arf ae];exact hO) (im _ _ ad) rfl n0 b5.le ⟨aq3 _,av.aO.dead,fun _ _ _=>rfl⟩ cd (fun _ _ _ _ _ _ _=>en.qQ) (fun b aa=>by cases aa) (fun b2 _ _ ai=>by
  rcases lY b2 with ax|⟨_,aI,L,t,ax⟩
  ·exact ax
  ·rcases ai with ai|ai
   ·exact absurd ai aI
   ·exact absurd ax (ai _ _ _)) ⟨hu,ws,dN⟩
 have hlen:((bL++[(.dead:aL D)]).set i (.nest e2 t1 up di (aqP (cx,bL.length)) cN)).length=bL.length+1:=by simp
 have T0:=abn.anW (i:=bL.length) (o':= .ay t1 xs aqT aqT) (v:=u) (by rw[hlen];omega) (by rw[<-hA.len];simp) (fD:c3 (X.G.T t1) z2 e m k xs u) (fun j q w ar aK ai hw=> ?_)
 ·have jQ:((bL++[(.dead:aL D)]).set i (.nest e2 t1 up di (aqP (cx,bL.length)) cN)).set bL.length (.ay t1 xs aqT aqT)=bL.set i (.nest e2 t1 up di (aqP (cx,bL.length)) cN)++[.ay t1 xs aqT aqT]:=by
   rw[List.set_append_left _ _ ae,List.set_append_right _ _ (by simp)];simp
  rw[jQ] at T0;refine bV.read (Y0 ah dM.hu rfl U acj) ⟨z2,vs++[u], .c (.own bL.length),_,hd.trans ((Inv.set bL i (.inr ?_)).trans (Inv.push _ _)),nj.trans b5,im,T0, ?_,h⟩
  ·simp[aL.kW]
  ·obtain ⟨a,bP,rfl⟩:=fD.bd.len;exact ⟨by rw[<-hA.len];simp,rfl,rfl⟩
 ·intro b2 ct j4;rw[vp] at j4;refine lo b2 j4 ?_;have Up:j<bL.length:=by
   have:=(aqZ.1 aK).1;rw[hlen] at this;omega
  by_cases iD:j=i
  ·subst iD;rw[arf (by rw[hA.len];exact ae)] at hw;rw[ad] at hw;cases hw;exact ((hA.obj _ _ _ hO ad).lt rfl b2 ct).2.1
  ·rw[asK (fun ax=>iD ax.symm),arf Up] at aK;rw[arf (by rw[hA.len];exact Up)] at hw;exact ((hA.obj j q w aK hw).lt ai b2 ct).2.1
theorem afg {i aX:Nat} {cx:Int} {off:Nat} (ah:o.op= .load t x) (av:bo X.G O z e m k vs) (au:rel X.G z vs (.el i aX cx off) (aJ fr x)) (h:OT X t i aX cx off O K=aqP r):bV P (aJ fr) o m fun _ v m'=>c0 X O z e k vs K r v m':=by
 unfold OT at h;split at h
 ·rename_i bL aP;obtain ⟨cq,hd,nj,hA⟩:=CB av aP;split at h
  ·rename_i e2 t1 up di cN hO;split at h
   ·rename_i dM bi;split at h
    ·rename_i hk;obtain ⟨rfl,rfl,rfl⟩:=hk;exact afH dM ah av hd nj hA hO au h
    ·cases h
   ·cases h
  ·cases h
 ·cases h
theorem WL {a:aQ D} (ah:o.op= .load t x) (av:bo X.G O z e m k vs) (au:rel X.G z vs a (aJ fr x)) (h:Hl X t a O K=aqP r):bV P (aJ fr) o m fun _ v m'=>c0 X O z e k vs K r v m':=by
 have fin:∀{b off:Nat} {cs:List (bJ D)} {ds:List aqR} {kJ n:Nat},aJ fr x= .pointer (aqP ⟨b,off,aqS⟩)->(∀(j:Nat) (w:aqR),ds[j]? =aqP w->m.load b (kJ+j)=aqP w)->off=kJ+n->ba (dj X.G z vs) cs ds->pd (P:=P) t cs n (fun v=>K v O)=aqP r->bV P (aJ fr) o m fun _ v m'=>c0 X O z e k vs K r v m':=by intro b off cs ds kJ n U ab nX aw h;obtain ⟨cY,v,h1,J,aj⟩:=agE ah U ab nX aw h;exact bV.read aj (c0.here av J h1)
 unfold Hl at h;split at h
 ·obtain ⟨b,gm,ds,U,ab,aw⟩:=au;exact fin U (av.aO.rX ab) rfl aw h
 ·rename_i i off;obtain ⟨b,ad,U⟩:=au;split at h
  ·rename_i u cs bg cN hO;have bW:=av.obj i _ _ hO ad;cases bg with
   |true=>obtain ⟨b2,ds,he,ab,aw⟩:=bW;cases he;exact fin U (av.aO.rX ab) (ara _).symm aw h
   |false=>obtain ⟨b2,ds,he,aa,_,aw⟩:=bW;cases he;exact fin U aa.rX (ara _).symm aw h
  ·rename_i u cs cN hO;obtain ⟨b2,ds,he,aa,aw⟩:=av.obj i _ _ hO ad;cases he;exact fin U aa.rX (ara _).symm aw h
  ·cases h
 ·rename_i i aX cx off;split at h
  ·exact afg ah av au h
  obtain ⟨b,f0,l,c,ad,U⟩:=au;split at h
  ·rename_i e2 xs bg cN ti hO cb;split at h
   ·rename_i dn;subst dn;obtain ⟨a,aG,h⟩:=bind_some h;have bW:=av.obj i _ _ hO ad;cases bg with
    |true=>
     have bW:ev (X.G.T e2) z xs _:=bW;obtain ⟨g0,g1,g2⟩:=o6 aG;rcases bW with ⟨he,_⟩|⟨b2,o',bP,he,_,_,aM⟩
     ·cases he
     ·cases he;obtain ⟨cs,dE,ab⟩:=aM _ a g2;exact fin U (av.aO.rX ab) rfl (ti.q4 _ _ _ _ dE) h
    |false=>have bW:c3 (X.G.T e2) z e m k xs _:=bW;obtain ⟨cs,dE,_,ab⟩:=bW.elem rfl aG;exact fin U ab rfl (ti.q4 _ _ _ _ dE) h
   ·cases h
  ·rename_i e2 u n xs cN ti hO cb;split at h
   ·rename_i dn;subst dn;obtain ⟨a,aG,h⟩:=bind_some h;obtain ⟨_,bW⟩:=av.obj i _ _ hO ad;obtain ⟨cs,dE,_,ab⟩:=bW.elem rfl aG;exact fin U ab rfl (ti.q4 _ _ _ _ dE) h
   ·cases h
  ·cases h
 ·cases h
end
end Go.aS
end
section
namespace Go.aS
section
variable {P:aqV} {D:Nat->Type} {X:dx P D} {af:Type} {z z':Nat->a6} {e m m':Mem} {k:Option Nat} {vs:List aqR} {fr:Nat->aqR} {E:List (Nat×aQ D)} {O:List (aL D)} {o:Oper} {r:af}
variable {x y:aqX} {t u:aqY} {K:aQ D->List (aL D)->Option af}
theorem ba.set {ap bx:Type} {R:ap->bx->Prop}:∀{l:List ap} {k:List bx} (i:Nat) {a:ap} {b:bx},ba R l k->R a b->ba R (l.set i a) (k.set i b)
 |[],[],i,a,b,_,_=>by simp[ba]
 |x::l,y::k,0,a,b,⟨_,J⟩,eH=>⟨eH,J⟩
 |x::l,y::k,i+1,a,b,⟨h1,J⟩,eH=>⟨h1,ba.set i J eH⟩
 |[],_::_,_,_,_,h,_=>h.elim
 |_::_,[],_,_,_,h,_=>h.elim
theorem zd:∀{new:List (bJ D)} {MY:List aqR} {cs:List (bJ D)} {ds:List aqR} (off:Nat),ba (dj X.G z vs) cs ds->ba (dj X.G z vs) new MY->ba (dj X.G z vs) (xm cs off new) (eT ds off MY)
 |[],[],cs,ds,off,h,_=>h
 |c::new,d::MY,cs,ds,off,h,⟨h1,J⟩=>zd (off+1) (h.set off h1) J
 |[],_::_,_,_,_,_,h=>h.elim
 |_::_,[],_,_,_,_,h=>h.elim
theorem CX {a b:Nat} (h:a<=b):art a b=aqQ:=by rw[Nat.ble_eq];exact h
theorem oi {ob:aL D} {cY:aQ D} {v w:aqR} (av:bo X.G O z e m k vs) (aO:cK z e m' k) (s:e1 m m' aqS) (dv:∀p,(∀b,p=aqP b->b<m.next)->en p (c7 v)) (fy:K cY (O++[ob])=aqP r) (bW:fE X.G z e m' k (vs++[v]) ob v) (ad:rel X.G z (vs++[v]) cY w):c0 X O z e k vs K r w m':=
 ⟨z,vs++[v],cY,O++[ob],Inv.push O ob,cR.refl z,im,av.push s aO (fun _ _ _ _ _ _=>en.qQ) bW fun p an _=>dv p an,ad,fy⟩
theorem CA {i:Nat} {ob M4:aL D} {v:aqR} (av:bo X.G O z e m k vs) (fy:K .undef (O.set i M4)=aqP r) (hO:O[i]? =aqP ob) (ad:vs[i]? =aqP v) (ai:ob.live=aqQ) (ao:M4.kW=aqQ) (s:e1 m m' (c7 v)) (aO:cK z e m' k) (aq:fE X.G z e m' k vs M4 v):c0 X O z e k vs K r undef m':=
 ⟨z,vs, .undef,_,Inv.set O i (.inr ao),cR.refl z,fun _ _ h=>h,av.mM hO ad ai s aO aq,rfl,fy⟩
theorem C2 (av:bo X.G O z e m k vs) (v:aqR):(vs++[v])[O.length]? =aqP v:=by
 rw[<-av.len];simp
theorem nw {v:aqR} {l:Nat} (av:bo X.G O z e m k vs) (ad:∃a c,v= .slice a l c):rel X.G z (vs++[v]) (.c (.own O.length)) v:=by
 obtain ⟨a,c,rfl⟩:=ad;exact ⟨C2 av _,rfl,rfl⟩
theorem Wc {i j aX t1:Nat} (dM:pv P X.G aX t1) {up:Option (List (D t1)->D aX)} {di:List (List (D t1))} {hole:Option (Int×Nat)} {cN fk:Bool} {xs:List (D t1)} {cx:Int} (ah:o.op= .store aX x y) (av:bo X.G O z e m k vs) (hO:O[i]? =aqP (.nest aX t1 up di hole cN)) (ar:O[j]? =aqP (.ay t1 xs aqT fk)) (au:rel X.G z vs (.el i aX cx 0) (aJ fr x)) (aa:rel X.G z vs (.c (.own j)) (aJ fr y)) (ax:∀p,hole=aqP p->p.1=cx)
  (h:(aqU (aR di cx) fun _=>K .undef ((O.set i (.nest aX t1 up (di.set cx.toNat xs) aqS aqQ)).set j .dead))=aqP r):bV P (aJ fr) o m fun _ v m'=>c0 X O z e k vs K r v m':=by
 obtain ⟨a,aG,h⟩:=bind_some h;obtain ⟨b,f0,l,c,ad,U⟩:=au;obtain ⟨hu,dF,hU⟩:=aa;obtain ⟨e5,ws,bW⟩:=av.obj i _ _ hO ad;obtain ⟨g0,g1,g2⟩:=o6 aG;have aN:cx.toNat<ws.length:=by rw[bW.len];exact (aqZ.1 g2).1
 have hw:=ars aN;have vy:aR ws cx=aqP ws[cx.toNat]:=by unfold aR;rw[if_pos (by omega)];exact hw
 obtain ⟨cs,dE,_,ab⟩:=bW.bd.elem rfl vy;have lb:c3 (X.G.T t1) z e m k xs (aJ fr y):=av.obj j _ _ ar hu;generalize gQ:aJ fr y=u at*;have ca:i≠j:=fun ax=>by rw[ax,ar] at hO;cases hO
 have n0:∀r,asi (aqP ⟨b,f0,aqS⟩) l c≠ .map r:=fun r ax=>by cases ax
 have vp:c7 u=cn u:=fK (by obtain ⟨a,c,rfl⟩:=lb.bd.len;intro r;simp);have dv:=av.eE j i _ _ u _ (fun ax=>ca ax.symm) ar hO rfl rfl hu ad;rw[vp] at dv;rw[dM.bC] at U;have yl:u.cells.toList=[u]:=by rw[hU]
 refine FK (T:=qn aX) (f:=0) (n:=cx.toNat) ah dM.ae U rfl gQ dF yl (by rw[dM.h1];rfl) bW.bd rfl hw dE ab (a':=u) ⟨rfl,dF,hU⟩ (by rw[dE.1];rfl) (by rw[dE.1];rfl) av.aO fun m' dQ r4 e6=> ?_;have My:c3 (X.G.T t1) z e m' k xs u:=lb.same e6 dv;obtain ⟨z',b5,cd,dN,fD⟩:=OG bW dQ r4 rfl aN (fun p an=>by rw[ax p an];omega) My dv;have Bg:=av.kill j;have LD:(O.set j .dead)[i]? =aqP (.nest aX t1 up di hole cN):=by rw[asK (fun ax=>ca ax.symm)];exact hO
 have vk:=Bg.D1 (o':= .nest aX t1 up (di.set cx.toNat xs) aqS aqQ) (p:=cn u) LD ad rfl n0 b5.le e6 cd (fun a q qf au aK ai hw=> ?_) (fun b aa=>(lb.bd.lt b aa).2) (fun b _ an _=> ?_) ⟨e5,_,dN⟩
 ·have Mw:(O.set i (.nest aX t1 up (di.set cx.toNat xs) aqS aqQ)).set j .dead=(O.set j .dead).set i (.nest aX t1 up (di.set cx.toNat xs) aqS aqQ):=List.set_comm _ _ ca;exact ⟨z',vs, .undef,_,(Inv.set O i (.inr rfl)).trans (Inv.set _ j (.inl rfl)),b5,fun _ _ h=>h,by rw[Mw];exact vk,rfl,h⟩
 ·rw[arp] at aK;split at aK
  ·split at aK
   ·cases aK;cases ai
   ·cases aK
  ·rename_i L9;have:=av.eE a j q _ qf u (fun ax=>L9 ax.symm) aK ar ai rfl hw hu;rw[vp] at this;exact this
 ·rcases fD b with ab|ab
  ·exact ab
  ·exact absurd ab an
theorem Wd {i aX t1:Nat} (dM:pv P X.G aX t1) {up:Option (List (D t1)->D aX)} {di:List (List (D t1))} {hole:Option (Int×Nat)} {cN:Bool} {cx:Int} (ah:o.op= .store aX x y) (av:bo X.G O z e m k vs) (hO:O[i]? =aqP (.nest aX t1 up di hole cN)) (au:rel X.G z vs (.el i aX cx 0) (aJ fr x)) (aa:rel X.G z vs (.c .fv) (aJ fr y)) (ax:∀p,hole=aqP p->p.1=cx)
  (h:(aqU (aR di cx) fun _=>K .undef (O.set i (.nest aX t1 up (di.set cx.toNat []) aqS aqQ)))=aqP r):bV P (aJ fr) o m fun _ v m'=>c0 X O z e k vs K r v m':=by
 obtain ⟨a,aG,h⟩:=bind_some h;obtain ⟨b,f0,l,c,ad,U⟩:=au;obtain ⟨e5,ws,bW⟩:=av.obj i _ _ hO ad;obtain ⟨g0,g1,g2⟩:=o6 aG;have aN:cx.toNat<ws.length:=by rw[bW.len];exact (aqZ.1 g2).1
 have hw:=ars aN;have vy:aR ws cx=aqP ws[cx.toNat]:=by unfold aR;rw[if_pos (by omega)];exact hw
 obtain ⟨cs,dE,_,ab⟩:=bW.bd.elem rfl vy;have aa:aJ fr y= .slice aqS 0 0:=aa;have lb:c3 (X.G.T t1) z e m k ([]:List (D t1)) (.slice aqS 0 0):=⟨.inl ⟨rfl,rfl⟩,fun b aa=>by cases aa⟩
 have n0:∀r,asi (aqP ⟨b,f0,aqS⟩) l c≠ .map r:=fun r ax=>by cases ax
 have dv:en (cn (.slice aqS 0 0)) (cn (asi (aqP ⟨b,f0,aqS⟩) l c)):=fun b aa=>by cases aa
 rw[dM.bC] at U;refine FK (T:=qn aX) (f:=0) (n:=cx.toNat) ah dM.ae U rfl aa rfl (a':= .slice aqS 0 0) rfl (by rw[dM.h1];rfl) bW.bd rfl hw dE ab ⟨rfl,rfl,rfl⟩ (by rw[dE.1];rfl) (by rw[dE.1];rfl) av.aO fun m' dQ r4 e6=> ?_;have My:c3 (X.G.T t1) z e m' k ([]:List (D t1)) (.slice aqS 0 0):=⟨.inl ⟨rfl,rfl⟩,fun b aa=>by cases aa⟩
 obtain ⟨z',b5,cd,dN,fD⟩:=OG bW dQ r4 rfl aN (fun p an=>by rw[ax p an];omega) My dv;have vk:=av.D1 (o':= .nest aX t1 up (di.set cx.toNat []) aqS aqQ) (p:=aqS) hO ad rfl n0 b5.le e6 cd (fun a q qf au aK ai hw=>fun b aa ct=>by cases ct) (fun b aa=>by cases aa) (fun b _ an _=> ?_) ⟨e5,_,dN⟩
 ·exact ⟨z',vs, .undef,_,Inv.set O i (.inr rfl),b5,fun _ _ h=>h,vk,rfl,h⟩
 ·rcases fD b with ab|ab
  ·exact ab
  ·cases ab
theorem aeL {i aX:Nat} {cx:Int} {off:Nat} {b:aQ D} (ah:o.op= .store t x y) (av:bo X.G O z e m k vs) (au:rel X.G z vs (.el i aX cx off) (aJ fr x)) (aa:rel X.G z vs b (aJ fr y)) (h:N9 X t i aX cx off b O K=aqP r):bV P (aJ fr) o m fun _ v m'=>c0 X O z e k vs K r v m':=by
 unfold N9 at h;split at h
 ·rename_i j;split at h
  ·rename_i e2 t1 up di hole cN t2 xs fk hO ar;split at h
   ·rename_i dM bi;split at h
    ·rename_i dn;subst dn;split at h
     ·rename_i hk;obtain ⟨rfl,rfl,rfl⟩:=hk;split at h
      ·exact Wc dM ah av hO ar au aa (fun p an=>by cases an) h
      ·split at h
       ·rename_i p an;exact Wc dM ah av hO ar au aa (fun q aK=>by cases aK;exact an) h
       ·cases h
     ·cases h
    ·cases h
   ·cases h
  ·cases h
 ·split at h
  ·rename_i e2 t1 up di hole cN hO;split at h
   ·rename_i dM bi;split at h
    ·rename_i hk;obtain ⟨rfl,rfl,rfl⟩:=hk;split at h
     ·exact Wd dM ah av hO au aa (fun p an=>by cases an) h
     ·split at h
      ·rename_i p an;exact Wd dM ah av hO au aa (fun q aK=>by cases aK;exact an) h
      ·cases h
    ·cases h
   ·cases h
  ·cases h
 ·cases h
theorem afi {a b:aQ D} (ah:o.op= .store t x y) (av:bo X.G O z e m k vs) (au:rel X.G z vs a (aJ fr x)) (aa:rel X.G z vs b (aJ fr y)) (h:OV X t a b O K=aqP r):bV P (aJ fr) o m fun _ v m'=>c0 X O z e k vs K r v m':=by
 unfold OV at h;split at h
 ·cases h
 ·rename_i i ae;split at h
  ·rename_i j off;split at h
   ·cases h
   ·rename_i new aq;obtain ⟨dF,nd⟩:=F8 aq aa;split at h
    ·rename_i bC;have qJ:(aJ fr y).cells.toList.length=i.size:=by rw[<-nd.length];exact bC
     obtain ⟨ff,ad,U⟩:=au;split at h
     ·rename_i u cs cN hO;split at h
      ·rename_i hle;obtain ⟨gA,ds,he,lK,fY,aw⟩:=av.obj j _ _ hO ad;cases he;refine U6 ah ae U rfl dF rfl qJ lK (CX (by rw[<-aw.length,<-nd.length];exact hle)) _ rfl av.aO fun m' dQ JI e6=> ?_;exact CA av h hO ad rfl rfl e6 dQ ⟨ff,_,rfl,JI,fY,zd off aw nd⟩
      ·cases h
     ·rename_i u cs cN hO;split at h
      ·rename_i hle;obtain ⟨gA,ds,he,lK,aw⟩:=av.obj j _ _ hO ad;cases he;refine U6 ah ae U rfl dF rfl qJ lK (CX (by rw[<-aw.length,<-nd.length];exact hle)) _ rfl av.aO fun m' dQ JI e6=> ?_;exact CA av h hO ad rfl rfl e6 dQ ⟨ff,_,rfl,JI,zd off aw nd⟩
      ·cases h
     ·cases h
    ·cases h
  ·rename_i j aX cx off;split at h
   ·exact aeL ah av au aa h
   split at h
   ·cases h
   ·rename_i new bL aq;obtain ⟨cq,hd,nj,hA,dF,nd⟩:=XJ av aq aa;obtain ⟨ff,f0,l,c,ad,U⟩:=au;split at h
    ·rename_i bC;have qJ:(aJ fr y).cells.toList.length=i.size:=by rw[<-nd.length];exact bC
     split at h
     ·rename_i e2 xs cN ti hO cb;split at h
      ·rename_i dn;subst dn;obtain ⟨a,aG,h⟩:=bind_some h;split at h
       ·rename_i hle;obtain ⟨a',an,h⟩:=bind_some h;have bW:c3 (X.G.T e2) cq e m k xs _:=hA.obj j _ _ hO ad;obtain ⟨cs,dE,qC,ab⟩:=bW.elem rfl aG;have aw:=ti.q4 cq vs a cs dE;refine FK (T:=X.G.T e2) ah ae U rfl rfl dF rfl qJ bW rfl qC dE ab (ti.qR cq vs _ a' _ an (zd off aw nd)) rfl (CX (by rw[<-aw.length,<-nd.length];exact hle)) hA.aO fun m' dQ r4 e6=> ?_;exact c0.from hd nj (CA hA h hO ad rfl rfl e6 dQ r4)
       ·cases h
      ·cases h
     ·rename_i e2 u n xs cN ti hO cb;split at h
      ·rename_i dn;subst dn;obtain ⟨a,aG,h⟩:=bind_some h;split at h
       ·rename_i hle;obtain ⟨a',an,h⟩:=bind_some h;obtain ⟨⟨gA,he⟩,bW⟩:=hA.obj j _ _ hO ad;obtain ⟨cs,dE,qC,ab⟩:=bW.elem rfl aG;have aw:=ti.q4 cq vs a cs dE;refine FK (T:=(X.G.T e2).as u) ah ae U rfl rfl dF rfl qJ bW rfl qC dE ab (ti.qR cq vs _ a' _ an (zd off aw nd)) rfl (CX (by rw[<-aw.length,<-nd.length];exact hle)) hA.aO fun m' dQ r4 e6=> ?_;exact c0.from hd nj (CA hA h hO ad rfl rfl e6 dQ ⟨⟨gA,he⟩,r4⟩)
       ·cases h
      ·cases h
     ·cases h
    ·cases h
  ·cases h
theorem aeX (ah:o.op= .alloc t) (av:bo X.G O z e m k vs)
  (h:(match X.A t with
  |some jk=>K (.eY O.length) (O++[.eY jk.e t jk.n (arq jk.n jk.ti.x0) aqT])
  |none=>match X.I t with|some ti=>K (.box O.length 0) (O++[.box t ti.qk aqT aqT])|none=>aqS)=aqP r):bV P (aJ fr) o m fun _ v m'=>c0 X O z e k vs K r v m':=by
 split at h
 ·rename_i jk ey;refine ag0 (T:=X.G.T jk.e) (x0:=jk.ti.x0) ah jk.ae jk.aE jk.cg jk.dp jk.rV (jk.ti.xh z) jk.aq av.aO fun b m' dQ bd e6 dv=> ?_;exact oi (v:= .slice (aqP ⟨b,0,aqS⟩) jk.n jk.n) av dQ e6 dv h ⟨⟨b,rfl⟩,bd⟩ ⟨b,jk.n,C2 av _,rfl⟩
 ·split at h
  ·rename_i ti cb;refine ag1 ah ti.ae ti.aE ti.cg ti.dp _ rfl av.aO fun b m' aq dQ eP e6 dv=> ?_;exact oi (v:= .pointer (aqP ⟨b,0,aqS⟩)) av dQ e6 dv h ⟨b,_,rfl,eP,aq,ti.rV _ _⟩ ⟨b,C2 av _,rfl⟩
  ·cases h
theorem agO {i:TypeInfo} {cs:List (bJ D)} (ah:o.op= .box t x) (av:bo X.G O z e m k vs) (aT:rel X.G z vs (cm E x) (aJ fr x)) (ae:P.info? t=aqP i) (ab:zt (cm E x)=aqP cs) (ai:cs.length=i.size)
  (h:K (.box O.length 0) (O++[.box t cs aqT aqT])=aqP r):bV P (aJ fr) o m fun _ v m'=>c0 X O z e k vs K r v m':=by
 obtain ⟨dF,aw⟩:=F8 ab aT;refine amR ah ae rfl dF _ rfl (by rw[<-aw.length];exact ai) av.aO fun b m' aq dQ eP e6 dv=> ?_;exact oi (v:= .pointer (aqP ⟨b,0,aqS⟩)) av dQ e6 dv h ⟨b,_,rfl,eP,aq,nB.mono aw (ew.refl z) im⟩ ⟨b,C2 av _,rfl⟩
theorem Xh {kk:aqW} {n:Int} (h:Dt x y=aqQ) (U:aJ fr x= .int kk n):∃bE,aJ fr y= .int bE n:=by
 unfold Dt at h;split at h
 ·rename_i a b;have:a=b:=aru h;subst this;exact ⟨kk,U⟩
 ·rename_i bt a bE b;have jR:asG bt a= .int kk n:=U;cases jR;have:n=b:=by simpa using h
  subst this;exact ⟨bE,rfl⟩
 ·cases h
theorem afh {fM:Nat} {kk:aqW} {n:Int} (ah:o.op= .makeSlice t x y) (ao:P.underlying t=aqP (.slice fM)) (av:bo X.G O z e m k vs) (U:aJ fr x= .int kk n) (h:OU X fM x y n O K=aqP r):bV P (aJ fr) o m fun _ v m'=>c0 X O z e k vs K r v m':=by
 unfold OU at h;split at h
 ·rename_i t1 hu;split at h
  ·rename_i dM bi lg;obtain ⟨di,hm,h⟩:=bind_some h;obtain ⟨bE,ag⟩:=Xh lg U;obtain ⟨eD,kr,rfl⟩:=CH hm;have gP:kO (asi aqS 0 0) n=aqP (arq n.toNat (asi aqS 0 0)):=by
    unfold kO;rw[if_pos ⟨eD,kr⟩]
   refine Y4 (T:=qn fM) (x0:=asi aqS 0 0) ah ao dM.ae dM.aE rfl (by rw[dM.h1];rfl) (by rw[dM.h1];rfl) dM.fX ⟨rfl,rfl,rfl⟩ U ag av.aO gP fun bl m' dQ bd e6 dv=> ?_;have aa:c7 bl=cn bl:=fK (by obtain ⟨a,c,rfl⟩:=bd.bd.len;intro r;simp);refine oi (v:=bl) av dQ e6 (by rw[aa];exact dv) h ⟨fun f aP=>by cases aP;exact ⟨dM.bC,dM.tid,dM.aw⟩,_,bd,by simp,fun j w xs g1 g2 _=> .inl ?_,fun p an=>by cases an⟩ (nw av bd.bd.len);rw[List.getElem?_replicate] at g1 g2;split at g1
   ·rename_i ar;rw[if_pos ar] at g2;cases g1;cases g2;exact ⟨rfl,rfl⟩
   ·cases g1
  ·cases h
 ·cases h
theorem afF {fM:Nat} {ti:ft P X.G fM} {kk:aqW} {n:Int} (ah:o.op= .makeSlice t x y) (ao:P.underlying t=aqP (.slice fM)) (av:bo X.G O z e m k vs) (U:aJ fr x= .int kk n) (lg:Dt x y=aqQ)
  (h:(aqU (kO ti.x0 n) fun r=>K (.c (.own O.length)) (O++[.ay fM r aqT aqT]))=aqP r):bV P (aJ fr) o m fun _ v m'=>c0 X O z e k vs K r v m':=by
 obtain ⟨xs,hm,h⟩:=bind_some h;have ag:=Xh lg U;obtain ⟨bE,ag⟩:=ag;refine Y4 (T:=X.G.T fM) ah (by rw[ti.tid];exact ao) (by rw[ti.tid];exact ti.ae) ti.aE ti.cg ti.dp ti.bC ti.fX (ti.xh z) U ag av.aO hm fun bl m' dQ bd e6 dv=> ?_;have aa:c7 bl=cn bl:=fK (by obtain ⟨a,c,rfl⟩:=bd.bd.len;intro r;simp);exact oi (v:=bl) av dQ e6 (by rw[aa];exact dv) h bd (nw av bd.bd.len)
theorem XA {fM:Nat} {ti:ft P X.G fM}:∀{bK:List (Nat×aqX)} {n:Nat} {O:List (aL D)} {z:Nat->a6} {K:List (D fM)->List (aL D)->Option af},bo X.G O z e m k vs->(∀x,rel X.G z vs (cm E x) (aJ fr x))->Dg X ti E n bK O K=aqP r->
  ∃z' bB as ib,Inv O bB/\cR e.next z z'/\bo X.G bB z' e m k vs/\wy (X.G.T fM) z' (aJ fr) bK n as ib/\K as bB=aqP r
 |[],n,O,z,K,av,aT,h=>⟨z,O,[],[],Inv.refl O,cR.refl z,av,trivial,h⟩
 |(j,x)::bK,n,O,z,K,av,aT,h=>by
  unfold Dg at h;split at h
  ·rename_i ar;split at h
   ·rename_i cs bL ab;obtain ⟨a,au,h⟩:=bind_some h;obtain ⟨cq,hd,nj,hA,dF,aw⟩:=XJ av ab (aT x);obtain ⟨z2,cU,as,ib,g0,g1,g2,g3,g4⟩:=XA hA (fun x=>(aT x).mono nj.le fun _ _ h=>h) h;exact ⟨z2,cU,a::as,(aJ fr x).cells.toList::ib,hd.trans g0,nj.trans g1,g2,⟨ar,dF,rfl,(X.G.T fM).mono _ _ g1.le _ _ (ti.qR _ _ _ _ _ au aw),g3⟩,g4⟩
   ·cases h
  ·cases h
theorem aff {fM l:Nat} {ti:ft P X.G fM} {bK:Array (Nat×aqX)} (ah:o.op= .buildSlice t l bK) (ao:P.underlying t=aqP (.slice fM)) (av:bo X.G O z e m k vs) (aT:∀x,rel X.G z vs (cm E x) (aJ fr x))
  (h:(Dg X ti E 0 bK.toList O fun as O=>if as.length=l/\art (l*(X.G.T fM).a1) 16777216=aqQ then K (.c (.own O.length)) (O++[.ay fM as aqT aqT]) else aqS)=aqP r):bV P (aJ fr) o m fun _ v m'=>c0 X O z e k vs K r v m':=by
 obtain ⟨cq,bL,as,ib,g0,g1,g2,g3,g4⟩:=XA av aT h;split at g4
 ·rename_i ai;have dS:0<(X.G.T fM).a1:=Nat.pos_of_ne_zero fun aI=>by have:=ti.dS;rw[aI] at this;cases this
  have rE:=asa ai.2;have lN:l<=l*(X.G.T fM).a1:=Nat.le_mul_of_pos_right _ dS;refine Pq (T:=X.G.T fM) ah (by rw[ti.tid];exact ao) (by rw[ti.tid];exact ti.ae) ti.aE ti.cg ti.dp ti.bC as ib ai.1 ai.2 (CX (show l+1<=9223372036854775808 by omega)) g3 g2.aO fun bl m' dQ bd e6 dv=> ?_;have aa:c7 bl=cn bl:=fK (by obtain ⟨a,c,rfl⟩:=bd.bd.len;intro r;simp);exact c0.from g0 g1 (oi (v:=bl) g2 dQ e6 (by rw[aa];exact dv) g4 bd (nw g2 bd.bd.len))
 ·cases g4
theorem OR {pl:List (Option (Nat×Nat))} (aT:∀x,rel X.G z vs (cm E x) (aJ fr x)):∀{bK:List (Nat×aqX)} {cs cs':List (bJ D)} {ds:List aqR},wK pl E bK cs=aqP cs'->ba (dj X.G z vs) cs ds->
  ∃mU,jw (fun k=>(pl[k]?).join) ds (bK.map fun p=>(p.1,aJ fr p.2))=aqP mU/\ba (dj X.G z vs) cs' mU
 |[],cs,cs',ds,h,aw=>by cases h;exact ⟨ds,rfl,aw⟩
 |(i,x)::bK,cs,cs',ds,h,aw=>by
  unfold wK at h;split at h
  ·rename_i off size new an ab;split at h
   ·rename_i qy;obtain ⟨dF,nd⟩:=F8 ab (aT x);obtain ⟨mU,g1,g2⟩:=OR aT h (zd off aw nd);refine ⟨mU, ?_,g2⟩;have bC:(aJ fr x).cells.size=size:=by
     have h1:new.length=(aJ fr x).cells.toList.length:=nd.length;have J:(aJ fr x).cells.toList.length=(aJ fr x).cells.size:=Array.length_toList;have aj:new.length=size:=qy.1;omega
    simp only[arG,jw,an];rw[if_pos ⟨dF,bC,by rw[<-aw.length];exact qy.2⟩];exact g1
   ·cases h
  ·cases h
theorem Xp {n s:Nat}:∀{bK:List (Nat×aqR)} {cs ds:List aqR},jw (fun k=>(((arI n).map fun j=>aqP (j*s,s))[k]?).join) cs bK=aqP ds->jw (fun j=>aqP (j*s,s)) cs bK=aqP ds
 |[],_,_,h=>h
 |(i,v)::bK,cs,ds,h=>by
  simp only[jw] at h⊢;by_cases ae:i<n
  ·rw[arB,as2 ae] at h;simp only[Option.map_some,Option.join_some] at h;split at h
   ·rename_i ab;rw[if_pos ab];exact Xp h
   ·cases h
  ·rw[arB,asP (by simp;omega)] at h;cases h
theorem afe {ti:ft P X.G t} {n tr:Nat} {kk:TypeInfo} {bK:Array (Nat×aqX)} {cs:List (bJ D)} (ah:o.op= .build t bK) (ao:P.underlying t=aqP (.array n tr)) (hk:P.info? tr=aqP kk) (av:bo X.G O z e m k vs) (aT:∀x,rel X.G z vs (cm E x) (aJ fr x))
  (ab:wK ((arI n).map fun j=>aqP (j*kk.size,kk.size)) E bK.toList ti.qk=aqP cs) (h:K (.agg t cs) O=aqP r):bV P (aJ fr) o m fun _ v m'=>c0 X O z e k vs K r v m':=by
 obtain ⟨ds,g1,g2⟩:=OR aT ab (ti.rV z vs);exact bV.pure (.Ez t bK n tr ti.i kk ti.b8 ds ah ao ti.ae ti.aE ti.cg hk (Xp g1)) (c0.here (cY:= .agg t cs) av ⟨ds,rfl,g2⟩ h)
theorem aeM {ti:ft P X.G t} {bc:Array Field} {bK:Array (Nat×aqX)} {cs:List (bJ D)} (ah:o.op= .build t bK) (ao:P.underlying t=aqP (.struct bc)) (av:bo X.G O z e m k vs) (aT:∀x,rel X.G z vs (cm E x) (aJ fr x)) (an:(p8 P bc).all Option.isSome=aqQ)
  (ab:wK (p8 P bc) E bK.toList ti.qk=aqP cs) (h:K (.agg t cs) O=aqP r):bV P (aJ fr) o m fun _ v m'=>c0 X O z e k vs K r v m':=by
 obtain ⟨ds,g1,g2⟩:=OR aT ab (ti.rV z vs);exact ag2 _ ds ah ao ti.ae ti.aE ti.cg rfl an rfl g1 (c0.here (cY:= .agg t cs) av ⟨ds,rfl,g2⟩ h)
end
end Go.aS
end
section
namespace Go.aS
section
variable {P:aqV} {D:Nat->Type} {X:dx P D} {af:Type} {z z':Nat->a6} {e m m':Mem} {k:Option Nat} {vs:List aqR} {fr:Nat->aqR} {E:List (Nat×aQ D)} {O:List (aL D)} {o:Oper} {r:af}
variable {x y:aqX} {t u:aqY} {K:aQ D->List (aL D)->Option af}
theorem G5 {bG:Option aqX} {a:Int} (aT:∀x,rel X.G z vs (cm E x) (aJ fr x)) (h:yN E bG=aqP a):yM (aJ fr) bG a:=by
 cases bG with
 |none=>cases h;rfl
 |some y=>
  simp only[yN] at h;split at h
  ·rename_i kk n az;cases h;have:=aT y;rw[az] at this;exact ⟨kk,this⟩
  ·cases h
theorem Gx {ae:Option aqX} {a:Int} {l:Nat} (aT:∀x,rel X.G z vs (cm E x) (aJ fr x)) (h:zx E (l:Int) ae=aqP a):zw (aJ fr) ae l a:=by
 cases ae with
 |none=>cases h;rfl
 |some y=>
  simp only[zx] at h;split at h
  ·rename_i kk n az;cases h;have:=aT y;rw[az] at this;exact ⟨kk,this⟩
  ·cases h
theorem agP {a:aQ D} {bG ae:Option aqX} (ah:o.op= .slice t x bG ae aqS) (av:bo X.G O z e m k vs) (aT:∀x,rel X.G z vs (cm E x) (aJ fr x)) (au:rel X.G z vs a (aJ fr x)) (h:P2 X t a E bG ae O K=aqP r):bV P (aJ fr) o m fun _ v m'=>c0 X O z e k vs K r v m':=by
 unfold P2 at h;split at h
 ·split at h
  ·rename_i s aD a7 ao eZ eg;obtain ⟨q,aK,h⟩:=bind_some h;exact amS ah ao au (G5 aT eZ) (Gx aT eg) aK (c0.here (cY:= .c (.str q)) av rfl h)
  ·cases h
 ·rename_i c UC;split at h
  ·rename_i aX xs bL ab;obtain ⟨cq,hd,nj,hA,aw⟩:=zj av ab au;split at h
   ·rename_i e2 ti aD a7 ao cb eZ eg;split at h
    ·rename_i dn;subst dn;obtain ⟨q,aK,h⟩:=bind_some h;refine adR (T:=X.G.T e2) ah (by rw[ti.tid];exact ao) (by rw[ti.tid];exact ti.ae) ti.bC rfl (G5 aT eZ) (Gx aT eg) aw hA.aO aK fun bl I _ az=> ?_;exact c0.from hd nj (c0.here (cY:= .c (.ay e2 q)) hA az h)
    ·cases h
   ·cases h
  ·cases h
 ·cases h
theorem ad8 {ap:Type} {T:cf ap} {xs:List ap} {v:aqR} {bG ae:Option aqX} {a n:Nat} {i:TypeInfo} {af:aqX->aqR} (h:o.op= .slice t x bG ae aqS) (ao:P.underlying t=aqP (.slice T.tid)) (dY:P.info? T.tid=aqP i) (bC:i.size=T.a1) (U:af x=v) (eZ:qY af bG a) (eg:om af ae xs.length n)
  (az:eI T z m xs v) (au:a<=n) (aq:n<=xs.length):∃bl,(cO P af o bl\/eS P af o m bl)/\oy T.a1 a n v bl:=by
 rcases az with ⟨rfl,rfl⟩|⟨b,f0,L,c,rfl,g1,g2,g3,g4,g5,g6⟩
 ·have tG:n=0:=by simpa using aq
  subst tG;obtain rfl:a=0:=by omega
  exact ⟨.slice aqS 0 0, .inl (.lz t x bG ae T.tid i h ao dY U eZ eg), .inl ⟨rfl,rfl,rfl,rfl⟩⟩
 ·rcases g5 with rfl|⟨ab,h1,J⟩
  ·refine ⟨_, .inr (.slice t x bG ae T.tid i L b f0 xs.length a n h ao dY U g1 eZ eg au aq (by rw[bC];exact g4)), .inr ⟨b,f0,xs.length,dr,_,dr,rfl,rfl,au,aq, .inl (by rw[bC]), .inl ⟨rfl,rfl⟩⟩⟩
  ·refine ⟨_, .inl (.slice t x bG ae T.tid i b f0 xs.length c a n h ao dY U (by simp only[dr] at ab⊢;omega) eZ eg au (by omega) (fun _=>trivial)), .inr ⟨b,f0,xs.length,c,_,_,rfl,rfl,au,aq, ?_, .inr ⟨ab,rfl⟩⟩⟩;by_cases Ub:c=a
   ·exact .inr ⟨by omega,if_pos Ub⟩
   ·exact .inl (by rw[if_neg Ub,bC])
theorem afC {a:aQ D} {bG ae:Option aqX} (ah:o.op= .slice t x bG ae aqS) (av:bo X.G O z e m k vs) (aT:∀x,rel X.G z vs (cm E x) (aJ fr x)) (au:rel X.G z vs a (aJ fr x)) (h:Pj X t x a E bG ae O K=aqP r):bV P (aJ fr) o m fun _ v m'=>c0 X O z e k vs K r v m':=by
 unfold Pj at h;split at h
 ·rename_i oS;have ad:aJ fr x= .slice aqS 0 0:=by
   unfold Vg at oS;split at oS
   ·exact au
   ·cases oS
  split at h
  ·rename_i aX p q ao eZ eg;split at h
   ·rename_i ti cb;split at h
    ·rename_i aI;simp only[aq5,beq_iff_eq] at aI;obtain ⟨rfl,rfl⟩:=aI;exact bV.pure (.lz t x bG ae aX ti.i ah ao ti.ae ad (G4 (n:=0) (G5 aT eZ)) (Gw (n:=0) (Gx (l:=0) aT eg))) (c0.here (cY:= .c .fv) av rfl h)
    ·cases h
   ·cases h
  ·cases h
 rename_i acC;split at h
 ·exact agP ah av aT au h
 ·rename_i md ap6;split at h
  ·rename_i i;have au:dj X.G z vs (.own i) (aJ fr x):=au;split at h
   ·rename_i aX xs w e2 hO hu;split at h
    ·rename_i ti p q ac' eZ eg;by_cases dn:e2=aX
     case neg=>rw[if_neg dn] at h;cases h
     rw[if_pos dn] at h;subst dn;obtain ⟨xk,aw,h⟩:=bind_some h;obtain ⟨kJ,c1,c2,rfl⟩:=NM aw;obtain ⟨p,rfl⟩:=arw kJ;obtain ⟨q,rfl⟩:=arw (Int.le_trans kJ c1);simp only[arZ] at h;have bW:c3 (X.G.T e2) z e m k xs (aJ fr x):=av.obj i _ _ hO au.1;obtain ⟨bl,h1,J⟩:=ad8 (T:=X.G.T e2) ah (by rw[ti.tid];exact hu) (by rw[ti.tid];exact ti.ae) ti.bC rfl (G4 (G5 aT eZ)) (Gw (Gx aT eg)) bW.bd (by omega) (by omega);have hk:c0 X O z e k vs K r bl m:=by
      by_cases Mh:aq9 md 0=aqQ
      ·rw[if_pos Mh] at h;exact c0.here (cY:= .cut i e2 p q) av ⟨_,au,J⟩ h
      ·rw[if_neg Mh] at h;have bd:c3 (X.G.T e2) z e m k ((xs.take q).drop p) bl:=⟨J.M9 bW.bd,fun b aa=>bW.fresh b (by
        have lK:c7 (aJ fr x)=cn (aJ fr x):=fK (by obtain ⟨a,c,ax⟩:=bW.bd.len;intro r;rw[ax];simp);have hB:c7 bl=cn bl:=fK (by obtain ⟨a,c,ax⟩:=(J.M9 bW.bd).len;intro r;rw[ax];simp);rw[<-lK,<-J.aH,hB];exact aa)⟩
       have vo:c7 bl=c7 (aJ fr x):=J.aH;have dv:=fun j pZ w cW ar ai hw=>av.eE j i pZ _ w _ cW ar hO ai rfl hw au.1;exact ⟨z,vs++[bl], .c (.own O.length),O.set i .dead++[.ay e2 ((xs.take q).drop p) aqT aqT],(Inv.set O i (.inl rfl)).trans (Inv.push _ _),cR.refl z,im,
        (av.kill i).push (q:=c7 (aJ fr x)) (o':= .ay e2 ((xs.take q).drop p) aqT aqT) ⟨aq3 _,av.aO.dead,fun _ _ _=>rfl⟩ av.aO (fun j p w ar hw ai=>by
         rw[arp] at ar;split at ar
         ·split at ar
          ·cases ar;cases ai
          ·cases ar
         ·rename_i cW;exact dv j p w (fun e=>cW e.symm) ar ai hw) bd (fun p an kg=>by rw[vo];exact kg),nw av (by obtain ⟨a,c,ax⟩:=bd.bd.len;exact ⟨a,c,ax⟩),h⟩
     rcases h1 with h1|h1
     ·exact bV.Vx (D:=fun _ v m'=>c0 X O z e k vs K r v m') (I:=fun _=>True) h1 hk
     ·exact bV.read (D:=fun _ v m'=>c0 X O z e k vs K r v m') h1 hk
    ·cases h
   ·cases h
  ·cases h
theorem afD {y h0:aqX} (ah:o.op= .slice t x aqS (aqP y) (aqP h0)) (av:bo X.G O z e m k vs) (aT:∀x,rel X.G z vs (cm E x) (aJ fr x)) (h:Pk X t (cm E x) (cm E y) (cm E h0) O K=aqP r):bV P (aJ fr) o m fun _ v m'=>c0 X O z e k vs K r v m':=by
 unfold Pk at h;have eV:∀{ap:Type} {p:Prop} [Decidable p] {x:Option ap} {r:ap},(if p then x else aqS)=aqP r->p/\x=aqP r:=by
  intro ap p _ x r h;split at h
  ·exact ⟨‹_›,h⟩
  ·cases h
 split at h
 ·rename_i bw bt p bE q ao an aK;have ag:=aT y;rw[an] at ag;have ag:aJ fr y= .int bt p:=ag;have nV:=aT h0;rw[aK] at nV;have nV:aJ fr h0= .int bE q:=nV;have au:=aT x;split at h
  ·rename_i c U;rw[U] at au;split at h
   ·rename_i e2 xs bL aP;split at h
    ·rename_i ti cb;obtain ⟨he,h⟩:=eV h;subst he;obtain ⟨xk,aw,h⟩:=bind_some h;unfold uy at aw;obtain ⟨abL,k9⟩:=eV aw;obtain ⟨aI,h1,J,oU⟩:=abL;subst oU;cases k9;obtain ⟨cq,g0,g1,g2,g3⟩:=zj av aP au;obtain ⟨n,rfl⟩:=arw aI;have aq:n<=xs.length:=by omega
     have Uy:n<dr:=by simp only[dr];omega
     have key:∃v,cO P (aJ fr) o v/\rel X.G cq vs (.full bw (xs.take n)) v:=by
      rcases (g3:ev (X.G.T bw) cq xs (aJ fr x)) with ⟨ad,rfl⟩|⟨b,off,bP,ad,adO,adP,adQ⟩
      ·have tG:n=0:=by simpa using aq
       subst tG;exact ⟨_, .Iv t x h0 (aqP y) bw ti.i bE ah ao ti.ae ad ⟨y,bt,rfl,ag⟩ nV, .inl ⟨rfl,by simp⟩,by simp[dr],aqS,by simp⟩
      ·have eQ:(bP≠dr/\n<=bP)\/(bP=dr/\n<=xs.length):=by
        rcases adP with ⟨ab,_⟩|⟨ab,ai⟩
        ·exact .inr ⟨ab,aq⟩
        ·exact .inl ⟨by omega,by omega⟩
       have hlen:(xs.take n).length=n:=by rw[arA];omega
       refine ⟨_, .slice3 t x h0 (aqP y) bw ti.i b off xs.length bP n n bE ah ao ti.ae ad eQ ⟨y,bt,rfl,ag⟩ nV (aq3 _), ?_⟩;refine ⟨.inr ⟨b,off,n,by rw[hlen],adO, .inr ⟨Uy,by rw[hlen];exact aq3 _⟩,fun i a ae=> ?_⟩,by rw[hlen];exact Uy,aqP ⟨b,off,aqS⟩,by rw[hlen]⟩;rw[arD] at ae;split at ae
       ·exact adQ i a ae
       ·cases ae
     obtain ⟨v,ad,k9⟩:=key;exact bV.pure ad (c0.from g0 g1 (c0.here g2 k9 h))
    ·cases h
   ·cases h
  ·cases h
 ·cases h
theorem agG {a:aQ D} {v:aqR} {t:Nat} {xs:List (D t)} (av:bo X.G O z e m k vs) (h:pe O a=aqP ⟨t,xs⟩) (ad:rel X.G z vs a v):ev (X.G.T t) z xs v\/c3 (X.G.T t) z e m k xs v:=by
 unfold pe at h;split at h
 ·cases h;exact .inl ad
 ·split at h
  ·rename_i db uS bg cN ah;cases h;have bW:=av.obj _ _ v ah ad.1;cases bg with
   |true=>exact .inl bW
   |false=>exact .inr bW
  ·cases h
 ·cases h
theorem afB {a:aQ D} (ah:o.op= .convert u t x) (av:bo X.G O z e m k vs) (au:rel X.G z vs a (aJ fr x)) (h:Ph X u t a O K=aqP r):bV P (aJ fr) o m fun _ v m'=>c0 X O z e k vs K r v m':=by
 unfold Ph at h;split at h
 ·rename_i bt bE hu ao;split at h
  ·exact iq av h (am8 ah hu ao au) rfl
  ·cases h
 ·rename_i fP hu ao;split at h
  ·rename_i s mi fG;obtain ⟨cc,az,h⟩:=bind_some h;refine aiw ah hu ao mi.hu mi.ae mi.hd au az av.aO ?_;intro bl m' aO bd DA dv;have r4:=mi.aa _ _ _ _ _ _ bd;have aa:c7 bl=cn bl:=fK (by obtain ⟨a,c,rfl⟩:=bd.bd.len;intro r;simp);refine ⟨z,vs++[bl], .c (.own O.length),_,Inv.push O _,cR.refl z,im,av.push (q:=aqS) DA aO (fun _ _ _ _ _ _=>en.qQ) ?_ (fun p an _=>by rw[aa];exact dv p an), ?_,h⟩
   ·exact r4
   ·refine ⟨?_, ?_⟩
    ·rw[<-av.len];simp
    ·obtain ⟨a,c,rfl⟩:=bd.bd.len;exact ⟨rfl,rfl⟩
  ·cases h
 ·rename_i fP hu ao;split at h
  ·rename_i bw xs mi ai fG;split at h
   ·rename_i he;subst he;rcases agG av ai au with az|az
    ·exact amW ah hu mi.hu ao rfl (mi.aw _ _ _ az) av.aO (c0.here (cY:= .c (.str (mi.to xs))) av rfl h)
    ·exact amV ah hu mi.hu ao rfl (mi.ah _ _ _ _ _ _ az) (c0.here (cY:= .c (.str (mi.to xs))) av rfl h)
   ·cases h
  ·cases h
 ·cases h
theorem agT {a:aQ D} {ts:Array aqY} (ah:o.op= .call {callee:= .builtin .len,args:=#[x],argTypes:=#[t]}) (av:bo X.G O z e m k vs) (au:rel X.G z vs a (aJ fr x)) (h:P5 (P:=P) t a O K=aqP r):bV P (aJ fr) o m fun _ v m'=>c0 X O z e k vs K r v m':=by
 unfold P5 at h;split at h
 ·rename_i s ao;exact iq av h (amq ah rfl ao au) rfl
 ·rename_i fP ao;have ad:aJ fr x= .slice aqS 0 0:=au;exact iq av h (HI (xs:=([]:List Int)) ah ao rfl ⟨aqS,0,ad⟩) rfl
 ·rename_i fP ap7 ao;split at h
  ·rename_i aX xs ai;exact iq av h (HI ah ao rfl (afI av ai au)) rfl
  ·split at h
   ·split at h
    ·rename_i aX t1 up di hole w hO;obtain ⟨hu,ws,bW⟩:=av.obj _ _ _ hO au.1;exact iq av h (HI (xs:=di) ah ao rfl (by obtain ⟨a,c,ax⟩:=bW.bd.bd.len;exact ⟨a,c,by rw[ax,bW.len]⟩)) rfl
    ·cases h
   ·split at h
    ·rename_i i aX bG ae vA aqH e2 xs cN hO;split at h
     ·rename_i he;subst he;obtain ⟨w,hw,ab⟩:=au;have bW:c3 _ z e m k xs w:=av.obj _ _ _ hO hw.1;obtain ⟨c4,c1,ai⟩:=bW.bd.len;refine iq av h (HI (xs:=(xs.take ae).drop bG) ah ao rfl ?_) rfl;rcases ab with ⟨_,ad,rfl,rfl⟩|⟨b,f0,l,c,off,bP,aI,ad,h1,J,aj,aM⟩
      ·exact ⟨aqS,0,by rw[ad];simp⟩
      ·rw[ai] at aI;cases aI;exact ⟨_,bP,by rw[ad,ar4,arA,Nat.min_eq_left J]⟩
     ·cases h
    ·cases h
   ·cases h
 ·cases h
theorem Xu {ap:Type} {T:cf ap} {Aw:Tag->aqR->Mem->Prop} {xs bk:List ap} {w:aqR} {a:Option Addr} {af:aqX->aqR} {i:TypeInfo} (h:o.op= .call {callee:= .builtin .append,args:=#[x,y],argTypes:=#[t,u]}) (ao:P.underlying t=aqP (.slice T.tid)) (ae:P.info? T.tid=aqP i) {b8:aqR} (hg:i.zero=aqP b8) (cg:b8.cells.toList.all cv=aqQ) (dp:b8.cells.size=i.size)
  (bC:i.size=T.a1) (dS:(T.a1==0)=aqT) (fX:art i.bytes 32768=aqQ) (hu:(∃bw,P.underlying u=aqP (.slice bw))\/P.underlying u=aqP .string) (U:af x= .slice a xs.length xs.length) (az:Src T z m xs (.slice a xs.length xs.length)) (ag:af y=w) (lf:Src T z m bk w) (ca:bk.isEmpty=aqT)
  (aO:cK z e m k) {r:List ap} (aw:dR xs bk=aqP r)
  (hk:∀bl m',cK z e m' k->c3 T z e m' k r bl->e1 m m' aqS->(∀p,(∀b,p=aqP b->b<m.next)->en p (cn bl))->Aw .e3 bl m'):bV P af o m Aw:=by
 obtain ⟨kM,rfl⟩:=r6 aw;simp only[ma] at kM;have fX:=asa fX;have an:0<T.a1:=by
  rcases atz T.a1 with aI|aI;·rw[aI] at dS;cases dS
  ·exact aI
 obtain ⟨hlen,cs,hZ,hU,dE⟩:=lf;obtain ⟨tC,os,hex,jO,qH⟩:=az;have BF:gS (af y)=bk.length:=by rw[ag];exact hlen
 have n2:0<bk.length:=by cases bk with
  |nil=>cases ca
  |cons _ _=>simp
 have hmul:(xs.length+bk.length)*i.bytes<=4294967296*32768:=atF kM fX;have pN:z m.next= .dead:=by
  have aE:=aO.bg;cases fZ:z m.next with
  |dead=>rfl
  |ro rd=>have:=(aE m.next (by rw[fZ];simp)).2;omega
  |own L t=>have:=(aE m.next (by rw[fZ];simp)).2;omega
  |map L t=>have:=(aE m.next (by rw[fZ];simp)).2;omega
  |lock _ _ _ _=>have:=(aE m.next (by rw[fZ];simp)).2;omega
 have aT:gE P (h4 P 0) af o m (.slice (aqP ⟨m.next,0,aqS⟩) (xs.length+gS (af y)) dr) (m.push (.own (os++cs) T.tid)):=
  .rv x y t u T.tid i b8 a xs.length xs.length (gS (af y)) os cs h ao ae hg cg dp (by rw[bC];exact an) U (by rw[BF];omega) (by rw[U,bC];exact hex) (by rw[bC];exact jO) (.el hu rfl (by rw[ag,bC];exact hZ)) (by rw[BF,bC];exact hU) (by rw[BF];omega) (by rw[BF];omega)
 rw[BF] at aT;have yA:eI T z (m.push (.own (os++cs) T.tid)) (xs++bk) (.slice (aqP ⟨m.next,0,aqS⟩) (xs.length+bk.length) dr):=by
  refine eI.AY ⟨m.next,os++cs,dr,by simp,by simp[Mem.push],by simp[Mem.push],pN,by simp[jO,hU,arm], .inl rfl,fun n q au=> ?_⟩;rw[atw] at au;split at au
  ·obtain ⟨c,g1,g2⟩:=qH n q au;refine ⟨c,g1,fun k q hk=> ?_⟩;have:=g2 k q hk;rw[arf (aqZ.1 this).1];exact this
  ·rename_i e4;obtain ⟨c,g1,g2⟩:=dE _ q au;refine ⟨c,g1,fun k q hk=> ?_⟩;have:=g2 k q hk;have h1:n*T.a1=os.length+(n - xs.length)*T.a1:=by
    rw[jO,<-arm];congr 1;omega
   rw[h1,arx,are (by omega),Nat.add_sub_cancel_left];exact this
 obtain ⟨g1,g2,g3,g4⟩:=ET (k:=k) aO yA rfl;exact bV.e3 aT (hk _ _ g1 g2 g3 g4)
theorem XE {a b:aQ D} (ah:o.op= .call {callee:= .builtin .append,args:=#[x,y],argTypes:=#[t,u]}) (av:bo X.G O z e m k vs) (au:rel X.G z vs a (aJ fr x)) (aa:rel X.G z vs b (aJ fr y)) (h:HH X t u a b O K=aqP r):bV P (aJ fr) o m fun _ v m'=>c0 X O z e k vs K r v m':=by
 unfold HH at h;split at h
 ·rename_i fM anQ ao hu;split at h
  ·cases h
  ·rename_i ti cb;dsimp only at h;split at h
   ·cases h
   ·rename_i bk vP;have lf:Src (X.G.T fM) z m bk (aJ fr y):=by
     split at vP
     ·cases vP;have ad:aJ fr y= .slice aqS 0 0:=aa;rw[ad];exact (ev.nil (T:=X.G.T fM)).src av.aO.bg
     ·split at vP
      ·rename_i e2 aqJ ai;split at vP
       ·rename_i dn;subst dn;cases vP;exact Wq av ai aa
       ·cases vP
      ·cases vP
    have kn:P.underlying t=aqP (.slice (X.G.T fM).tid):=by rw[ti.tid];exact ao
    have dY:P.info? (X.G.T fM).tid=aqP ti.i:=by rw[ti.tid];exact ti.ae
    split at h
    ·obtain ⟨q,aK,h⟩:=bind_some h;have ad:aJ fr x= .slice aqS 0 0:=au;refine G3 (T:=X.G.T fM) (z:=z) ah kn dY ti.aE ti.cg ti.dp ti.bC ti.dS ti.fX (.inl ⟨_,hu⟩) ad c3.nil rfl lf av.aO aK fun bl m' dQ bd e6 dv=> ?_;have hB:c7 bl=cn bl:=fK (by obtain ⟨a,c,rfl⟩:=bd.bd.len;intro r;simp);exact oi (v:=bl) av dQ e6 (fun p an=>by rw[hB];exact dv p an en.qQ) h bd (nw av bd.bd.len)
    ·rename_i e2 xs;by_cases dn:e2=fM
     case neg=>rw[dif_neg dn] at h;cases h
     rw[dif_pos dn] at h;subst dn;by_cases ca:bk.isEmpty=aqQ
     case pos=>rw[if_pos ca] at h;cases h
     rw[if_neg ca] at h;obtain ⟨q,aK,h⟩:=bind_some h;obtain ⟨f1,f2,a0,f3⟩:=au;refine Xu (T:=X.G.T e2) (z:=z) ah kn dY ti.aE ti.cg ti.dp ti.bC ti.dS ti.fX (.inl ⟨_,hu⟩) f3 (by rw[<-f3];exact ev.src f1 av.aO.bg) rfl lf (by simpa using ca) av.aO aK fun bl m' dQ bd e6 dv=> ?_;have hB:c7 bl=cn bl:=fK (by obtain ⟨a,c,rfl⟩:=bd.bd.len;intro r;simp);exact oi (v:=bl) av dQ e6 (fun p an=>by rw[hB];exact dv p an) h bd (nw av bd.bd.len)
    ·rename_i i;split at h
     ·rename_i e2 xs cN hO;split at h
      ·rename_i dn;subst dn;obtain ⟨q,aK,h⟩:=bind_some h;have bW:c3 (X.G.T e2) z e m k xs (aJ fr x):=av.obj i _ _ hO au.1;refine G3 (T:=X.G.T e2) ah kn dY ti.aE ti.cg ti.dp ti.bC ti.dS ti.fX (.inl ⟨_,hu⟩) rfl bW rfl lf av.aO aK fun bl m' dQ bd e6 dv=> ?_;have hB:c7 bl=cn bl:=fK (by obtain ⟨a,c,rfl⟩:=bd.bd.len;intro r;simp);have lK:c7 (aJ fr x)=cn (aJ fr x):=fK (by obtain ⟨a,c,ax⟩:=bW.bd.len;intro r;rw[ax];simp);have hA:=av.kill i;have hlen:(O.set i .dead).length=O.length:=asb;refine ⟨z,vs++[bl], .c (.own O.length),O.set i .dead++[.ay e2 q aqT aqT],(Inv.set O i (.inl rfl)).trans (Inv.push _ _),cR.refl z,im,hA.push (o':= .ay e2 q aqT aqT) e6 dQ (fun j p w ar hw ai=> ?_) bd (fun p an kg=>by rw[hB];exact dv p an kg), ?_,h⟩
       ·rw[arp] at ar;split at ar
        ·split at ar
         ·cases ar;cases ai
         ·cases ar
        ·rename_i cW;rw[<-lK];exact av.eE j i p _ w _ (fun e=>cW e.symm) ar hO ai rfl hw au.1
       ·exact nw av bd.bd.len
      ·cases h
     ·cases h
    ·rename_i i aX bG n;by_cases eZ:aq9 bG 0=aqQ
     case neg=>rw[if_neg eZ] at h;cases h
     rw[if_pos eZ] at h;obtain rfl:=aru eZ;by_cases vv:aX=fM
     case neg=>rw[if_neg vv] at h;cases h
     rw[if_pos vv] at h;subst vv;split at h
     ·rename_i e2 xs cN hO;split at h
      ·rename_i dn;subst dn;obtain ⟨q,aK,h⟩:=bind_some h;obtain ⟨z8,iF,fO⟩:=au;have Mm:c3 (X.G.T e2) z e m k xs z8:=av.obj i _ _ hO iF.1;have abG:c7 z8=cn z8:=fK (by obtain ⟨a,c,ax⟩:=Mm.bd.len;intro r;rw[ax];simp);have yA:=fO.bd Mm.bd;have lK:c7 (aJ fr x)=cn (aJ fr x):=fK (by obtain ⟨a,c,ax⟩:=yA.len;intro r;rw[ax];simp);have bW:c3 (X.G.T e2) z e m k (xs.take n) (aJ fr x):=⟨yA,fun b aa=>Mm.fresh b (by rw[<-abG,<-fO.aH,lK];exact aa)⟩
       refine G3 (T:=X.G.T e2) ah kn dY ti.aE ti.cg ti.dp ti.bC ti.dS ti.fX (.inl ⟨_,hu⟩) rfl bW rfl lf av.aO aK fun bl m' dQ bd e6 dv=> ?_;have hB:c7 bl=cn bl:=fK (by obtain ⟨a,c,rfl⟩:=bd.bd.len;intro r;simp);have hA:=av.kill i;refine ⟨z,vs++[bl], .c (.own O.length),O.set i .dead++[.ay e2 q aqT aqT],(Inv.set O i (.inl rfl)).trans (Inv.push _ _),cR.refl z,im,hA.push (o':= .ay e2 q aqT aqT) e6 dQ (fun j p w ar hw ai=> ?_) bd (fun p an kg=>by rw[hB];exact dv p an kg), ?_,h⟩
       ·rw[arp] at ar;split at ar
        ·split at ar
         ·cases ar;cases ai
         ·cases ar
        ·rename_i cW;rw[<-lK,fO.aH];exact av.eE j i p _ w _ (fun e=>cW e.symm) ar hO ai rfl hw iF.1
       ·exact nw av bd.bd.len
      ·cases h
     ·cases h
    ·cases h
 ·cases h
theorem afz {a b:aQ D} (ah:o.op= .call {callee:= .builtin .append,args:=#[x,y],argTypes:=#[t,u]}) (av:bo X.G O z e m k vs) (au:rel X.G z vs a (aJ fr x)) (aa:rel X.G z vs b (aJ fr y)) (h:Pg X t u a b O K=aqP r):bV P (aJ fr) o m fun _ v m'=>c0 X O z e k vs K r v m':=by
 unfold Pg at h;split at h
 ·rename_i fM anQ ao hu;split at h
  ·rename_i ti aX xs e2 bk cb ai;by_cases dn:aX=fM
   case neg=>rw[dif_neg dn] at h;cases h
   rw[dif_pos dn] at h;subst dn;by_cases dn:e2=aX
   case neg=>rw[dif_neg dn] at h;cases h
   rw[dif_pos dn] at h;subst dn;obtain ⟨q,aK,h⟩:=bind_some h;have lf:=Wq av ai aa;have kn:P.underlying t=aqP (.slice (X.G.T e2).tid):=by rw[ti.tid];exact ao
   have dY:P.info? (X.G.T e2).tid=aqP ti.i:=by rw[ti.tid];exact ti.ae
   obtain ⟨f1,f2,a0,f3⟩:=au;by_cases ca:bk.isEmpty=aqQ
   ·rw[if_pos ca] at h;obtain rfl:bk=[]:=by cases bk;rfl;cases ca
    obtain ⟨kM,rfl⟩:=r6 aK;obtain ⟨hlen,cs,hZ,hU,_⟩:=lf;obtain rfl:cs=[]:=asr (by rw[hU];simp);have aT:gE P (h4 P 0) (aJ fr) o m (aJ fr x) m:= .vf x y t u _ ti.i a0 xs.length xs.length ah kn dY f3 (by omega) (aq3 _) (.el (.inl ⟨_,hu⟩) (by simpa using hlen) (by rw[ti.bC];exact hZ));exact bV.e3 aT (c0.here (X:=X) av (cY:= .c (.ay e2 (xs++[]))) (by rw[asN];exact f1) h)
   ·rw[if_neg ca] at h;refine Xu (T:=X.G.T e2) (z:=z) ah kn dY ti.aE ti.cg ti.dp ti.bC ti.dS ti.fX (.inl ⟨_,hu⟩) f3 (by rw[<-f3];exact ev.src f1 av.aO.bg) rfl lf (by simpa using ca) av.aO aK fun bl m' dQ bd e6 dv=> ?_;have hB:c7 bl=cn bl:=fK (by obtain ⟨a,c,rfl⟩:=bd.bd.len;intro r;simp);exact oi (v:=bl) av dQ e6 (fun p an=>by rw[hB];exact dv p an) h bd (nw av bd.bd.len)
  ·cases h
 ·cases h
theorem agU {kt vt:Nat} (ah:o.op= .makeMap t aqS) (ao:P.underlying t=aqP (.map kt vt)) (av:bo X.G O z e m k vs) (h:K (.c (.own O.length)) (O++[.map t kt vt [] aqT aqT])=aqP r):bV P (aJ fr) o m fun _ v m'=>c0 X O z e k vs K r v m':=by
 refine afR (X.G.M t kt vt) ah ao rfl av.aO fun bl m' dQ bd e6 dv=> ?_;obtain ⟨q,rfl,aK⟩:=bd.bd;exact oi (v:= .map (aqP q)) av dQ e6 dv h bd ⟨C2 av _,rfl,rfl⟩
theorem afE {u kt vt:Nat} {es:List (D kt×D vt)} {a:D kt} {eu:Eb P X.G kt vt} {ok:Bool} {c:aQ D} (ah:o.op= .lookup t x y ok) (ao:P.underlying t=aqP (.map kt vt)) (hu:P.underlying u=aqP (.map kt vt)) (av:bo X.G O z e m k vs)
  (U:kD (X.G.M u kt vt) z es (aJ fr x)\/hX (X.G.M u kt vt) z e m k es (aJ fr x)) (ag:rel X.G z vs c (aJ fr y)) (hk:eu.n4 c=aqP a)
  (h:(aS.lt (@bs _ _ eu.dec es a) fun y=>if ok=aqQ then K (.mL [.inl (eu.ow (y.getD eu.z0)), .inl (.bool y.isSome)]) O else K (.c (eu.ow (y.getD eu.z0))) O)=aqP r):bV P (aJ fr) o m fun _ v m'=>c0 X O z e k vs K r v m':=by
 letI aB:=eu.dec
 obtain ⟨w,hw,h⟩:=Yb h;have tA:=eu.rL z vs c a _ hk ag;have lS:=eu.lS z vs (w.getD eu.z0);cases ok with
 |true=>
  rw[if_pos rfl] at h;have nY:rel X.G z vs (.mL [.inl (eu.ow (w.getD eu.z0)), .inl (.bool w.isSome)]) (.tuple #[cZ (cT P vt) (X.G.bQ vt (w.getD eu.z0)), .bool w.isSome]):=⟨[_,_],rfl,lS,rfl,trivial⟩
  rcases U with U|U
  ·exact Yo (M:=X.G.M u kt vt) (a:=a) (z0:=eu.z0) ah ao hu eu.K eu.V eu.ae eu.aE rfl U av.aO rfl tA hw (if_pos rfl) (c0.here av nY h)
  ·exact Yn (M:=X.G.M u kt vt) (a:=a) (z0:=eu.z0) ah ao hu eu.K eu.V eu.ae eu.aE rfl U rfl tA hw (if_pos rfl) (c0.here av nY h)
 |false=>
  rw[if_neg (by simp)] at h;have nY:rel X.G z vs (.c (eu.ow (w.getD eu.z0))) (cZ (cT P vt) (X.G.bQ vt (w.getD eu.z0))):=lS;rcases U with U|U
  ·exact Yo (M:=X.G.M u kt vt) (a:=a) (z0:=eu.z0) ah ao hu eu.K eu.V eu.ae eu.aE rfl U av.aO rfl tA hw (if_neg (by simp)) (c0.here av nY h)
  ·exact Yn (M:=X.G.M u kt vt) (a:=a) (z0:=eu.z0) ah ao hu eu.K eu.V eu.ae eu.aE rfl U rfl tA hw (if_neg (by simp)) (c0.here av nY h)
theorem XF {u kt vt i:Nat} {es:List (D kt×D vt)} {a:D kt} {b:D vt} {eu:Eb P X.G kt vt} {c:aQ D} {d:bJ D} {w:aqX} (ah:o.op= .mapUpdate t x y w\/o.op= .insert t x y w) (ao:P.underlying t=aqP (.map kt vt)) (hu:P.underlying u=aqP (.map kt vt)) (av:bo X.G O z e m k vs)
  {cN:Bool} (hO:O[i]? =aqP (.map u kt vt es aqT cN)) (U:vs[i]? =aqP (aJ fr x)) (ag:rel X.G z vs c (aJ fr y)) (hw:dj X.G z vs d (aJ fr w)) (hk:eu.n4 c=aqP a) (ad:eu.sY d=aqP b)
  (h:(aS.lt (@dV _ _ eu.dec es a b) fun tu=>K .undef (O.set i (.map u kt vt tu aqT aqQ)))=aqP r):bV P (aJ fr) o m fun _ v m'=>c0 X O z e k vs K r v m':=by
 letI aB:=eu.dec
 obtain ⟨tu,jM,h⟩:=Yb h;have bW:hX (X.G.M u kt vt) z e m k es (aJ fr x):=av.obj i _ _ hO U;refine ag4 (M:=X.G.M u kt vt) (a:=a) (b:=b) ah ao hu eu.K eu.V rfl bW rfl (eu.rL z vs c a _ hk ag) rfl (eu.yG z vs d b _ ad hw) av.aO jM fun m' dQ bd e6=> ?_;have hB:c7 (aJ fr x)=ss (aJ fr x):=by obtain ⟨q,aK,_⟩:=bW.bd;rw[aK];rfl
 exact CA av h hO U rfl rfl (by rw[hB];exact e6) dQ bd
theorem N0 {s:aQ D} {g:aqR} {c:Nat×List (bJ D)} {bB:List (aL D)} (av:bo X.G O z e m k vs) (az:rel X.G z vs s g) (h:wJ O s=aqP (c,bB)):∃z',Inv O bB/\cR e.next z z'/\bo X.G bB z' e m k vs/\l3 X.G z' vs c.2 0 g:=by
 cases s with
 |gd t cs off=>
  simp only[wJ] at h;split at h
  ·rename_i aI;subst aI;cases h;exact ⟨z,Inv.refl _,cR.refl z,av,az⟩
  ·cases h
 |box i off=>
  simp only[wJ] at h;obtain ⟨b,ad,aG⟩:=az;split at h
  ·rename_i t cs bg cN hO;split at h
   ·rename_i aI;obtain ⟨aI,_⟩:=aI;subst aI;cases h;have bW:=av.obj i _ _ hO ad;rw[aG];cases bg with
    |true=>
     obtain ⟨gA,ds,he,ab,aw⟩:=bW;cases he;have:O.set i (.box t cs aqQ cN)=O:=by
      apply asw;intro j;rw[arp];split
      ·rename_i cW;subst cW;rw[hO,if_pos (aqZ.1 hO).1]
      ·rfl
     rw[this];exact ⟨z,Inv.refl _,cR.refl z,av,b,0,ds,rfl,ab,aw⟩
    |false=>obtain ⟨gA,ds,he,lK,fY,aw⟩:=bW;cases he;obtain ⟨cq,bt,bE,cM,fI⟩:=lK.freeze fY av.aO;have yC:=nB.mono aw bt.le fun _ _ h=>h;exact ⟨cq,Inv.set O i (.inl rfl),bt,av.ie hO ad rfl rfl bt.le bE fI ⟨b,ds,rfl,cM,yC⟩,b,0,ds,rfl,cM,yC⟩
   ·cases h
  ·cases h
 |_=>cases h
theorem Wx:∀{l:List (aQ D)} {gs:List aqR} {caps:List (Nat×List (bJ D))} {O bB:List (aL D)} {z:Nat->a6},bo X.G O z e m k vs->ba (rel X.G z vs) l gs->CY l O=aqP (caps,bB)->∃z',Inv O bB/\cR e.next z z'/\bo X.G bB z' e m k vs/\ba (fun c g=>l3 X.G z' vs c.2 0 g) caps gs
 |[],[],caps,O,bB,z,av,_,h=>by cases h;exact ⟨z,Inv.refl _,cR.refl z,av,trivial⟩
 |s::l,g::gs,caps,O,bB,z,av,⟨h1,J⟩,h=>by
  unfold CY at h;split at h
  ·rename_i c bL ab;split at h
   ·rename_i r cU aw;cases h;obtain ⟨cq,iP,bt,bE,cM⟩:=N0 av h1 ab;obtain ⟨z2,g0,g1,g2,g3⟩:=Wx bE (ba.mono (fun _ _ h=>rel.mono h bt.le fun _ _ h=>h) J) aw;exact ⟨z2,iP.trans g0,bt.trans g1,g2,l3.mono cM g1.le fun _ _ h=>h,g3⟩
   ·cases h
  ·cases h
 |[],_::_,_,_,_,_,_,h,_=>h.elim
 |_::_,[],_,_,_,_,_,h,_=>h.elim
theorem wq {xs:List aqX} (aT:∀x,rel X.G z vs (cm E x) (aJ fr x)):ba (rel X.G z vs) (xs.map (cm E)) (xs.map (aJ fr)):=by
 induction xs with
 |nil=>trivial
 |cons x xs a8=>exact ⟨aT x,a8⟩
theorem ahz {s:aQ D} {i:Nat} {v:aqR} (av:bo X.G O z e m k vs) (h:JL O s=aqP i) (aw:rel X.G z vs s v):rz vs i v:=by
 unfold JL at h;split at h
 ·split at h
  ·split at h
   ·rename_i aI;cases h;subst aI;obtain ⟨b,h1,J⟩:=aw;exact ⟨by rw[J];exact h1,b,J⟩
   ·cases h
  ·cases h
 ·cases h
theorem W2 (av:bo X.G O z e m k vs):∀{l:List (aQ D)} {gs:List aqR} {is:List Nat},C9 O l=aqP is->ba (rel X.G z vs) l gs->ba (rz vs) is gs
 |[],[],is,h,_=>by cases h;trivial
 |s::l,g::gs,is,h,⟨h1,J⟩=>by
  unfold C9 at h;split at h
  ·rename_i i pT ae ar;cases h;exact ⟨ahz av ae h1,W2 av ar J⟩
  ·cases h
 |[],_::_,_,_,h=>h.elim
 |_::_,[],_,_,h=>h.elim
theorem agR {f:FuncId} {first cap:Array aqX} {is:List Nat} (ah:o.op= .makeFunc (.func f) first cap) (aP:first.toList=[]) (av:bo X.G O z e m k vs) (aT:∀x,rel X.G z vs (cm E x) (aJ fr x)) (ab:C9 O (cap.toList.map (cm E))=aqP is) (h:K (.c (.fn f is)) O=aqP r):
  bV P (aJ fr) o m fun _ v m'=>c0 X O z e k vs K r v m':=by
 have aG:=W2 av ab (wq aT);have vw:first=#[]:=by cases first;simp at aP;subst aP;rfl
 subst vw;have dF:(cap.map (aJ fr)).toList.all storable=aqQ:=by
  rw[aq8];intro v ad;rw[asF] at ad;have:=aq8.1 (Oi aG) v ad;unfold wI at this;split at this
  ·rfl
  ·cases this
 exact iq av h (Zl ah rfl dF) ⟨cap.toList.map (aJ fr),by congr 1;apply ar6;simp,aG⟩
theorem ahX {f:FuncId} {first cap:Array aqX} {caps:List (Nat×List (bJ D))} {bB:List (aL D)} (ah:o.op= .makeFunc (.func f) first cap) (aP:first.toList=[]) (av:bo X.G O z e m k vs) (aT:∀x,rel X.G z vs (cm E x) (aJ fr x)) (ab:CY (cap.toList.map (cm E)) O=aqP (caps,bB)) (h:K (.fn f caps) bB=aqP r):
  bV P (aJ fr) o m fun _ v m'=>c0 X O z e k vs K r v m':=by
 obtain ⟨cq,g0,g1,g2,g3⟩:=Wx av (wq aT) ab;have vw:first=#[]:=by cases first;simp at aP;subst aP;rfl
 subst vw;have dF:(cap.map (aJ fr)).toList.all storable=aqQ:=by
  rw[aq8];intro v ad;rw[asF] at ad;have:∀(cs:List (Nat×List (bJ D))) (gs:List aqR),ba (fun c g=>l3 X.G cq vs c.2 0 g) cs gs->∀v∈gs,storable v=aqQ:=by
   intro cs;induction cs with
   |nil=>intro gs aG v ad;cases gs with
    |nil=>cases ad
    |cons _ _=>exact aG.elim
   |cons c cs a8=>intro gs aG v ad;cases gs with
    |nil=>cases ad
    |cons g gs=>
     rcases aq6.1 ad with rfl|ad
     ·obtain ⟨b,gm,ds,he,_⟩:=aG.1;rw[he];rfl
     ·exact a8 gs aG.2 v ad
  exact this _ _ g3 v ad
 refine bV.pure (Zl ah rfl dF) (c0.from g0 g1 (c0.here (cY:= .fn f caps) g2 ⟨cap.toList.map (aJ fr), ?_,g3⟩ h));congr 1;apply ar6;simp
end
end Go.aS
end
section
namespace Go.aS
section
variable {P:aqV} {D:Nat->Type} {X:dx P D} {af:Type} {z z':Nat->a6} {e m m':Mem} {k:Option Nat} {vs:List aqR} {fr:Nat->aqR} {E:List (Nat×aQ D)} {O:List (aL D)} {o:Oper} {r:af}
variable {x y:aqX} {t u:aqY} {K:aQ D->List (aL D)->Option af}
theorem agV {l:Nat} {bK:Array (Nat×aqX)} (ah:o.op= .buildSlice t l bK) (av:bo X.G O z e m k vs) (aT:∀x,rel X.G z vs (cm E x) (aJ fr x)) (h:P6 X t l bK.toList E O K=aqP r):bV P (aJ fr) o m fun _ v m'=>c0 X O z e k vs K r v m':=by
 unfold P6 at h;split at h
 ·rename_i aX ao;split at h
  ·rename_i t1 hu;split at h
   ·rename_i dM bi;split at h
    ·rename_i Ft;refine Pq (T:=qn aX) ah ao dM.ae dM.aE rfl (by rw[dM.h1];rfl) (by rw[dM.h1];rfl) [] [] rfl rfl rfl (by rw[Ft];trivial) av.aO fun bl m' dQ bd e6 dv=> ?_;have aa:c7 bl=cn bl:=fK (by obtain ⟨a,c,rfl⟩:=bd.bd.len;intro r;simp);exact oi (v:=bl) av dQ e6 (by rw[aa];exact dv) h ⟨fun f aP=>by cases aP;exact ⟨dM.bC,dM.tid,dM.aw⟩,_,bd,rfl,fun j w xs g1 g2 _=>by simp at g1,fun p an=>by cases an⟩ (nw av bd.bd.len)
    ·rename_i y Ft;split at h
     ·rename_i j ar;split at h
      ·rename_i t2 xs w hO;split at h
       ·rename_i J;have ag:=aT y;rw[ar] at ag;obtain ⟨ad,az,ab⟩:=ag;refine Pq (T:=qn aX) ah ao dM.ae dM.aE rfl (by rw[dM.h1];rfl) (by rw[dM.h1];rfl) [aJ fr y] [[aJ fr y]] rfl rfl rfl (by rw[Ft];exact ⟨rfl,az,by rw[ab],⟨rfl,az,ab⟩,trivial⟩) av.aO fun bl m' dQ bd e6 dv=> ?_;have aa:c7 bl=cn bl:=fK (by obtain ⟨a,c,rfl⟩:=bd.bd.len;intro r;simp);refine oi (v:=bl) av dQ e6 (by rw[aa];exact dv) h ⟨fun f aP=>by cases aP;exact ⟨dM.bC,dM.tid,dM.aw⟩,_,bd,rfl,fun j w xs g1 g2 g3=> ?_,fun p an=> ?_⟩ (nw av bd.bd.len)
        ·have:=(aqZ.1 g1).1;simp at this;subst this;exact absurd rfl (g3 _ rfl)
        ·cases an;exact ⟨Int.le_refl _,_,im _ _ ad,rfl⟩
       ·cases h
      ·cases h
     ·cases h
    ·cases h
   ·cases h
  ·cases h
 ·cases h
theorem bo.aae (h:bo X.G O z e m k vs) (aE:ew z z') (aO:cK z' e m k) (aB:∀b,z b= .dead->z' b= .dead) (hk:∀(j:Nat) (q:aL D) (w:aqR),O[j]? =aqP q->vs[j]? =aqP w->q.live=aqQ->Ji z z' (eO w)):bo X.G O z' e m k vs where
 aO:=aO
 len:=h.len
 obj:=fun j q w ar hw=>(h.obj j q w ar hw).h8 aE (fun ai b aa=>by
  have:=((h.obj j q w ar hw).lt ai b aa).2.1;rw[this,aB b this]) fun ai=>hk j q w ar hw ai
 eE:=h.eE
noncomputable def As (z:Nat->a6) (eD il hE hD n':Nat):Nat->a6:=fun b=>
 match z b with
 | .lock n j L t=>if eD<=b/\n≠0/\n=il then .lock n' j L t else if eD<=b/\n≠0/\n=hE then .lock n' (hD+j) L t else .lock n j L t
 |x=>x
theorem YX {eD il hE hD n' b:Nat} (h:∀n j L t,z b≠ .lock n j L t):As z eD il hE hD n' b=z b:=by
 unfold As;split
 ·rename_i n j L t aE;exact absurd aE (h n j L t)
 ·rfl
theorem su {eD il hE hD n' b n j:Nat} {L:List aqR} {t:aqY} (h:z b= .lock n j L t):As z eD il hE hD n' b=if eD<=b/\n≠0/\n=il then .lock n' j L t else if eD<=b/\n≠0/\n=hE then .lock n' (hD+j) L t else .lock n j L t:=by
 unfold As;rw[h]
theorem Pb {ap:Type} {T:cf ap} {xs:List ap} {v:aqR} (h:c3 T z e m k xs v) (U:xs≠[]):eO v≠0:=by
 intro aI;unfold eO at aI;rcases h.bd with ⟨rfl,ni⟩|⟨b2,o',L',bP,rfl,_⟩
 ·exact U ni
 ·simp[cn] at aI
theorem Xv {ap:Type} {T:cf ap} {x0:ap} {Aw:Tag->aqR->Mem->Prop} {af:aqX->aqR} {i:TypeInfo} {kk bt:aqW} {n:Int} {v:aqR} {xs:List ap} (h:o.op= .call {callee:= .builtin .append,args:=#[x,y],argTypes:=#[t,u]}) (ao:P.underlying t=aqP (.slice T.tid)) (ae:P.info? T.tid=aqP i) {b8:aqR} (hg:i.zero=aqP b8) (cg:b8.cells.toList.all cv=aqQ) (dp:b8.cells.size=i.size)
  (bC:i.size=T.a1) (dS:(T.a1==0)=aqT) (fX:art i.bytes 32768=aqQ) (hu:P.underlying u=aqP (.int kk)) (U:af x=v) (az:c3 T z e m k xs v) (ag:af y= .int bt n) (dE:T.rd z x0 b8.cells.toList) (aO:cK z e m k) {bk r:List ap} (hm:kO x0 n=aqP bk) (aw:dR xs bk=aqP r)
  (hk:∀bl m',cK z e m' k->c3 T z e m' k r bl->e1 m m' (cn v)->(∀p,(∀b,p=aqP b->b<m.next)->en p (cn v)->en p (cn bl))->Aw .e3 bl m'):bV P af o m Aw:=by
 obtain ⟨aI,h1,rfl⟩:=CH hm;obtain ⟨c,rfl⟩:=arw aI;have an:0<T.a1:=by
  rcases atz T.a1 with aI|aI;·rw[aI] at dS;cases dS
  ·exact aI
 rw[arZ] at aw;obtain ⟨bl,m',h1,J,aj,aM⟩:=af3 (C:=h4 P 0) (k:=bt) h ao ae hg cg dp bC an (asa fX) hu U az.bd ag dE aO.bg aO.dead aw;refine bV.e3 h1 (hk _ _ (aO.same aj az.aK) ⟨J,fun b aa=> ?_⟩ aj fun p an au b aa ct=> ?_)
 ·rcases aM b aa with aM|aM
  ·exact az.fresh b aM
  ·have:=aO.next;omega
 ·rcases aM b ct with aM|aM
  ·exact au b aa aM
  ·have:=an b aa;omega
theorem aeY {a b:aQ D} (ah:o.op= .call {callee:= .builtin .append,args:=#[x,y],argTypes:=#[t,u]}) (hu:Po (P.underlying u)=aqQ) (av:bo X.G O z e m k vs) (au:rel X.G z vs a (aJ fr x)) (aa:rel X.G z vs b (aJ fr y)) (h:OH X t a b O K=aqP r):bV P (aJ fr) o m fun _ v m'=>c0 X O z e k vs K r v m':=by
 have FC:∃kk,P.underlying u=aqP (.int kk):=by
  unfold Po at hu;split at hu
  ·rename_i kk ax;exact ⟨kk,ax⟩
  ·cases hu
 obtain ⟨kk,FC⟩:=FC;unfold OH at h;split at h
 ·rename_i aX bt n ao;split at h
  ·rename_i ti cb;split at h
   ·rename_i aq;obtain ⟨xs,hm,h⟩:=bind_some h;have aw:dR ([]:List (D aX)) xs=aqP xs:=by
     obtain ⟨aI,h1,rfl⟩:=CH hm;unfold dR;rw[if_pos (by simp only[asI,asR,ma] at*;omega),asj]
    refine Xv (T:=X.G.T aX) (xs:=[]) ah (by rw[ti.tid];exact ao) (by rw[ti.tid];exact ti.ae) ti.aE ti.cg ti.dp ti.bC ti.dS ti.fX FC au ⟨.inl ⟨rfl,rfl⟩,fun b aa=>by cases aa⟩ aa (ti.xh z) av.aO hm aw fun bl m' dQ bd e6 dv=> ?_;have hB:c7 bl=cn bl:=fK (by obtain ⟨a,c,rfl⟩:=bd.bd.len;intro r;simp);exact oi (v:=bl) av dQ e6 (by rw[hB];exact fun p an=>dv p an (by intro b aa ct;cases ct)) h bd (nw av bd.bd.len)
   ·cases h
  ·cases h
 ·rename_i fP i bt n ao;split at h
  ·rename_i bL L2;split at h
   ·rename_i aX t1 up mO cN qv;split at h
    ·rename_i dM bi;split at h
     ·rename_i he;subst he;obtain ⟨bk,hm,h⟩:=bind_some h;obtain ⟨q,aK,h⟩:=bind_some h;obtain ⟨cq,i1,aD,te⟩:=CB av L2;obtain ⟨acr,tD,rfl⟩:=CH hm;have kM:=(r6 aK).1;have acY:=(r6 aK).2;subst acY;have j6:=au.1;obtain ⟨zY,z1,il⟩:=te.obj i _ _ qv j6;have acx:kO (asi aqS 0 0) n=aqP (arq n.toNat (asi aqS 0 0)):=by
       unfold kO;rw[if_pos ⟨acr,tD⟩]
      have Ms:dR z1 (arq n.toNat (asi aqS 0 0))=aqP (z1++arq n.toNat (asi aqS 0 0)):=by unfold dR;rw[il.len,asI,if_pos (by simpa using kM)]
      refine Xv (T:=qn aX) ah ao dM.ae dM.aE rfl (by rw[dM.h1];rfl) (by rw[dM.h1];rfl) rfl dM.fX FC rfl il.bd aa ⟨rfl,rfl,rfl⟩ te.aO acx Ms fun bl m' dQ bd e6 dv=> ?_;have qw:c7 (aJ fr x)=cn (aJ fr x):=fK (by obtain ⟨a,c,ax⟩:=il.bd.bd.len;rw[ax];intro r;simp);have hB:c7 bl=cn bl:=fK (by obtain ⟨a,c,rfl⟩:=bd.bd.len;intro r;simp);have Jj:=te.mM (o':= .dead) qv j6 rfl (by rw[qw];exact e6) dQ trivial;have left:∀(l:Nat) (p:aL D) (w:aqR),(bL.set i (.dead:aL D))[l]? =aqP p->vs[l]? =aqP w->p.live=aqQ->bL[l]? =aqP p/\l≠i:=by
       intro l p w ai hw an;rw[arp] at ai;split at ai
       ·split at ai
        ·cases ai;cases an
        ·cases ai
       ·rename_i h1;exact ⟨ai,fun ax=>h1 ax.symm⟩
      generalize oW:As cq e.next (eO (aJ fr x)) 0 mO.length (eO bl)=z3;have EI:∀b,(∀n j L t,cq b≠ .lock n j L t)->z3 b=cq b:=fun b ax=>by rw[<-oW];exact YX ax
      have hle:ew cq z3:=fun b aP=>EI b fun n j L t ax=>by rw[ax] at aP;exact aP
      have jL:∀b,cq b= .dead->z3 b= .dead:=fun b aB=>by rw[EI b (fun n j L t ax=>by rw[aB] at ax;cases ax),aB]
      have pS:cR e.next cq z3:=⟨hle,fun b aN=>by
       cases aE:cq b with
       |lock n j L t=>rw[<-oW,su aE,if_neg (by omega),if_neg (by omega)]
       |_=>rw[EI b (fun n j L t ax=>by rw[aE] at ax;cases ax),aE]⟩
      have dF:cK z3 e m' k:=⟨fun b aa=>by
       cases aE:cq b with
       |lock n j L t=>
        have aM:=dQ.bg b (by rw[aE];simp);rw[aE] at aM;rw[<-oW,su aE];split
        ·exact aM
        ·split
         ·exact aM
         ·exact aM
       |_=>
        have aj:=EI b (fun n j L t ax=>by rw[aE] at ax;cases ax);rw[aj] at aa⊢;exact dQ.bg b aa,dQ.dead,dQ.lI,dQ.next,dQ.kept⟩
      have AB:=Jj.aae hle dF jL fun l p w ai hw an b bT L db nc=>by
       obtain ⟨h1,J⟩:=left l p w ai hw an;have ne:eO w≠0->eO w≠eO (aJ fr x):=by
        intro hz;have dv:=te.eE l i _ _ _ _ J h1 qv an rfl hw j6;by_cases tM:∃r,w= .map r
        ·obtain ⟨r,rfl⟩:=tM;exact absurd OJ hz
        ·rw[fK (fun r aw=>tM ⟨r,aw⟩),qw] at dv;rcases Ho dv with ax|ax
         ·exact ax
         ·exact absurd ax hz
       rw[<-oW,su nc,nc,if_neg fun ax=>ne ax.2.1 ax.2.2,if_neg fun ax=>ax.2.1 ax.2.2]
      have iE:fE X.G z3 e m' k (vs++[bl]) (.nest aX t1 up (mO++arq n.toNat []) aqS aqT:aL D) bl:=by
       refine ⟨zY,_,bd.h8 hle (fun b aa=>jL b (bd.bd.lt b aa).2▸((bd.bd.lt b aa).2).symm),by rw[ari,ari,il.len,asI,asI],fun l w xs g1 g2 _=> ?_,fun p an=>by cases an⟩;by_cases ai:l<mO.length
       ·rw[arf (by rw[il.len];exact ai)] at g1;rw[arf ai] at g2;rcases il.nk l w xs g1 g2 (fun p an=>by cases an) with ax|⟨b,f0,L,c,b5,cd,dN,fD,lY,lo⟩
        ·exact .inl ax
        ·have aI:=Pb il.bd (fun ax=>by rw[ax] at g1;simp at g1);refine .inr ⟨b,f0,L,c,b5,by rw[<-oW,su cd,if_pos ⟨dN,aI,rfl⟩],dN,fD,lY,fun i x ae=> ?_⟩;obtain ⟨cs,ej,ee⟩:=lo i x ae;exact ⟨cs,(X.G.T t1).mono _ _ hle _ _ ej,ee⟩
       ·rw[are (by rw[il.len];omega)] at g1;rw[are (by omega)] at g2;have h1:=aq7 g1;have J:=aq7 g2;exact .inl ⟨List.eq_of_mem_replicate h1,List.eq_of_mem_replicate J⟩
      have Jk:=AB.Nf iE fun _ l p w ai an hw=>by
       obtain ⟨h1,J⟩:=left l p w ai hw an;rw[hB];refine dv _ (fun b aa=>((te.obj l p w h1 hw).lt an b aa).1) ?_;have:=te.eE l i _ _ _ _ J h1 qv an rfl hw j6
       rwa [qw] at this
      have Mb:(bL.set i (.dead:aL D)).length=bL.length:=by simp
      refine ⟨z3,vs++[bl],_,_,i1.trans ((Inv.set bL i (.inl rfl)).trans (Inv.push _ _)),aD.trans pS,im,Jk, ?_,h⟩;have:=nw AB bd.bd.len
      rwa [Mb] at this
     ·cases h
    ·cases h
   ·cases h
  ·cases h
 ·cases h
theorem afy {i:Nat} {b:aQ D} (ah:o.op= .call {callee:= .builtin .append,args:=#[x,y],argTypes:=#[t,u]}) (av:bo X.G O z e m k vs) (au:rel X.G z vs (.c (.own i)) (aJ fr x)) (aa:rel X.G z vs b (aJ fr y)) (h:Pf X t u i b O K=aqP r):bV P (aJ fr) o m fun _ v m'=>c0 X O z e k vs K r v m':=by
 unfold Pf at h;split at h
 ·rename_i fP aqz ao hu;split at h
  ·rename_i j;split at h
   ·cases h
   ·rename_i cW;have cW:i≠j:=fun ax=>cW (by rw[ax];simp);split at h
    ·rename_i bL L2;split at h
     ·rename_i cU abV;split at h
      ·rename_i aX t1 up mO cN e2 t2 anO DM fk qv E3;split at h
       ·rename_i dM bi;split at h
        ·rename_i dn;subst dn;split at h
         ·rename_i he;obtain ⟨rfl,rfl⟩:=he;obtain ⟨q,aK,h⟩:=bind_some h;have aK:dR mO DM=aqP q:=aK;obtain ⟨cq,i1,aD,te⟩:=CB av L2;obtain ⟨z2,i2,b7,M2⟩:=CB te abV;obtain ⟨kM,rfl⟩:=r6 aK;have j6:=au.1;have pQ:=aa.1;obtain ⟨zY,z1,il⟩:=M2.obj i _ _ qv j6;obtain ⟨_,QB,hE⟩:=M2.obj j _ _ E3 pQ;have Ms:dR z1 QB=aqP (z1++QB):=by
           unfold dR;rw[il.len,hE.len,if_pos kM]
          refine G3 (T:=qn e2) ah ao dM.ae dM.aE rfl (by rw[dM.h1];rfl) (by rw[dM.h1];rfl) rfl dM.fX (.inl ⟨_,hu⟩) rfl il.bd rfl hE.bd.bd.src M2.aO Ms fun bl m' dQ bd e6 dv=> ?_;have qw:c7 (aJ fr x)=cn (aJ fr x):=fK (by obtain ⟨a,c,ax⟩:=il.bd.bd.len;rw[ax];intro r;simp);have LQ:c7 (aJ fr y)=cn (aJ fr y):=fK (by obtain ⟨a,c,ax⟩:=hE.bd.bd.len;rw[ax];intro r;simp);have hB:c7 bl=cn bl:=fK (by obtain ⟨a,c,rfl⟩:=bd.bd.len;intro r;simp);have T7:=M2.eE i j _ _ _ _ cW qv E3 rfl rfl j6 pQ;rw[qw,LQ] at T7;have Jj:=M2.mM (o':= .dead) qv j6 rfl (by rw[qw];exact e6) dQ trivial;have abr:(cU.set i (.dead:aL D))[j]? =aqP (.nest e2 t2 anO DM aqS fk):=by rw[asK cW];exact E3
          have aai:=Jj.mM (m':=m') (o':= .dead) abr pQ rfl ⟨aq3 _,dQ.dead,fun _ _ _=>rfl⟩ dQ trivial;have left:∀(l:Nat) (p:aL D) (w:aqR),((cU.set i (.dead:aL D)).set j .dead)[l]? =aqP p->vs[l]? =aqP w->p.live=aqQ->cU[l]? =aqP p/\l≠i/\l≠j:=by
           intro l p w ai hw an;rw[arp] at ai;split at ai
           ·split at ai
            ·cases ai;cases an
            ·cases ai
           ·rename_i h1;rw[arp] at ai;split at ai
            ·split at ai
             ·cases ai;cases an
             ·cases ai
            ·rename_i J;exact ⟨ai,fun ax=>J ax.symm,fun ax=>h1 ax.symm⟩
          generalize oW:As z2 e.next (eO (aJ fr x)) (eO (aJ fr y)) mO.length (eO bl)=z3;have aX:∀b,(∀n j L t,z2 b≠ .lock n j L t)->z3 b=z2 b:=fun b ax=>by rw[<-oW];exact YX ax
          have hle:ew z2 z3:=fun b aP=>aX b fun n j L t ax=>by rw[ax] at aP;exact aP
          have jL:∀b,z2 b= .dead->z3 b= .dead:=fun b aB=>by rw[aX b (fun n j L t ax=>by rw[aB] at ax;cases ax),aB]
          have pS:cR e.next z2 z3:=⟨hle,fun b aN=>by
           cases aE:z2 b with
           |lock n j L t=>rw[<-oW,su aE,if_neg (by omega),if_neg (by omega)]
           |_=>rw[aX b (fun n j L t ax=>by rw[aE] at ax;cases ax),aE]⟩
          have dF:cK z3 e m' k:=⟨fun b aa=>by
           cases aE:z2 b with
           |lock n j L t=>
            have aM:=dQ.bg b (by rw[aE];simp);rw[aE] at aM;rw[<-oW,su aE];split
            ·exact aM
            ·split
             ·exact aM
             ·exact aM
           |_=>
            have aj:=aX b (fun n j L t ax=>by rw[aE] at ax;cases ax);rw[aj] at aa⊢;exact dQ.bg b aa,dQ.dead,dQ.lI,dQ.next,dQ.kept⟩
          have AB:=aai.aae hle dF jL fun l p w ai hw an b bT L db nc=>by
           obtain ⟨h1,J,aj⟩:=left l p w ai hw an;have ne:∀{de:aqR} {B5:Nat} {ll:aL D},l≠B5->cU[B5]? =aqP ll->ll.live=aqQ->vs[B5]? =aqP de->(∀r,de≠ .map r)->eO w≠0->eO w≠eO de:=by
            intro de B5 ll ca aM br dt hb hz;have dv:=M2.eE l B5 _ _ _ _ ca h1 aM an br hw dt;by_cases tM:∃r,w= .map r
            ·obtain ⟨r,rfl⟩:=tM;exact absurd OJ hz
            ·rw[fK (fun r aw=>tM ⟨r,aw⟩),fK hb] at dv;rcases Ho dv with ax|ax
             ·exact ax
             ·exact absurd ax hz
           have m1:∀r,aJ fr x≠ .map r:=by obtain ⟨a,c,ax⟩:=il.bd.bd.len;rw[ax];intro r;simp
           have m2:∀r,aJ fr y≠ .map r:=by obtain ⟨a,c,ax⟩:=hE.bd.bd.len;rw[ax];intro r;simp
           rw[<-oW,su nc,nc,if_neg fun ax=>ne J qv rfl j6 m1 ax.2.1 ax.2.2,if_neg fun ax=>ne aj E3 rfl pQ m2 ax.2.1 ax.2.2]
          have iE:fE X.G z3 e m' k (vs++[bl]) (.nest e2 t2 up (mO++DM) aqS aqT:aL D) bl:=by
           refine ⟨zY,z1++QB,bd.h8 hle (fun b aa=>jL b (bd.bd.lt b aa).2▸((bd.bd.lt b aa).2).symm),by rw[ari,ari,il.len,hE.len],fun l w xs g1 g2 _=> ?_,fun p an=>by cases an⟩;by_cases ai:l<mO.length
           ·rw[arf (by rw[il.len];exact ai)] at g1;rw[arf ai] at g2;rcases il.nk l w xs g1 g2 (fun p an=>by cases an) with ax|⟨b,f0,L,c,b5,cd,dN,fD,lY,lo⟩
            ·exact .inl ax
            ·have aI:=Pb il.bd (fun ax=>by rw[ax] at g1;simp at g1);refine .inr ⟨b,f0,L,c,b5,by rw[<-oW,su cd,if_pos ⟨dN,aI,rfl⟩],dN,fD,lY,fun i x ae=> ?_⟩;obtain ⟨cs,ej,ee⟩:=lo i x ae;exact ⟨cs,(X.G.T t2).mono _ _ hle _ _ ej,ee⟩
           ·rw[are (by rw[il.len];omega),il.len] at g1;rw[are (by omega)] at g2;rcases hE.nk (l - mO.length) w xs g1 g2 (fun p an=>by cases an) with ax|⟨b,f0,L,c,b5,cd,dN,fD,lY,lo⟩
            ·exact .inl ax
            ·have aI:=Pb hE.bd (fun ax=>by rw[ax] at g1;simp at g1);have ca:eO (aJ fr y)≠eO (aJ fr x):=by
              rcases Ho T7.symm with ax|ax
              ·exact ax
              ·exact absurd ax aI
             refine .inr ⟨b,f0,L,c,b5,by rw[<-oW,su cd,if_neg (fun ax=>ca ax.2.2),if_pos ⟨dN,aI,rfl⟩,show mO.length+(l - mO.length)=l by omega],dN,fD,lY,fun i x ae=> ?_⟩;obtain ⟨cs,ej,ee⟩:=lo i x ae;exact ⟨cs,(X.G.T t2).mono _ _ hle _ _ ej,ee⟩
          have Jk:=AB.Nf iE fun _ l p w ai an hw=>by
           obtain ⟨h1,J,aj⟩:=left l p w ai hw an;rw[hB];refine dv _ (fun b aa=>((M2.obj l p w h1 hw).lt an b aa).1) ?_;have:=M2.eE l i _ _ _ _ J h1 qv an rfl hw j6
           rwa [qw] at this
          have Mb:((cU.set i (.dead:aL D)).set j .dead).length=cU.length:=by simp
          refine ⟨z3,vs++[bl],_,_,(i1.trans i2).trans ((Inv.set cU i (.inl rfl)).trans ((Inv.set _ j (.inl rfl)).trans (Inv.push _ _))),(aD.trans b7).trans pS,im,Jk, ?_,h⟩;have:=nw AB bd.bd.len
          rwa [Mb] at this
         ·cases h
        ·cases h
       ·cases h
      ·cases h
     ·cases h
    ·cases h
  ·cases h
 ·cases h
end
end Go.aS
end
section
namespace Go.aS
section
variable {P:aqV} {D:Nat->Type} {X:dx P D} {af:Type} {z z':Nat->a6} {e m m':Mem} {k:Option Nat} {vs:List aqR} {fr:Nat->aqR} {E:List (Nat×aQ D)} {O:List (aL D)} {o:Oper} {r:af}
variable {x y:aqX} {t u:aqY} {K:aQ D->List (aL D)->Option af}
def fq (m m':Mem) (q:Option Nat):Prop:=m.next<=m'.next/\∀b,b<m.next->q≠aqP b->m'.aH b=m.aH b
def mR (vs:List aqR) (ts:List Nat) (q:Option Nat):Prop:=q=aqS\/∃i,i∈ts/\∃v,vs[i]? =aqP v/\q=c7 v
theorem bV.mono {af:aqX->aqR} {K kC:Tag->aqR->Mem->Prop} (h:bV P af o m K) (hk:∀t v m',K t v m'->kC t v m'):bV P af o m kC:=by
 rcases h with ⟨v,h,g⟩|⟨v,I,h,g⟩|⟨v,h,g⟩|⟨Y,v,h,g⟩|⟨n,v,m',h,g⟩
 ·exact .inl ⟨v,h,hk _ _ _ g⟩
 ·exact .inr (.inl ⟨v,I,h,hk _ _ _ g⟩)
 ·exact .inr (.inr (.inl ⟨v,h,hk _ _ _ g⟩))
 ·exact .inr (.inr (.inr (.inl ⟨Y,v,h,hk _ _ _ g⟩)))
 ·exact .inr (.inr (.inr (.inr ⟨n,v,m',h,hk _ _ _ g⟩)))
def fQ (X:dx P D):Prop:=∀(f:Nat) (bM:List (aQ D)) (O:List (aL D)) {af:Type} (K:aQ D->List (aL D)->Option af) (r:af) {z:Nat->a6} {e m:Mem} {k:Option Nat} {vs:List aqR} (args:List aqR),
 bo X.G O z e m k vs->ba (rel X.G z vs) bM args->X.C f bM O K=aqP r->hx P f args.toArray m fun v m'=>c0 X O z e k vs K r v m'/\(X.F f bM O=aqQ->m'=m)/\(X.W f=aqT->∃q,fq m m' q/\mR vs (p2 bM) q)
theorem ba.caps {caps:List (Nat×List (bJ D))} {gs:List aqR} (h:ba (fun c g=>l3 X.G z vs c.2 0 g) caps gs):ba (rel X.G z vs) (caps.map fun p=>aQ.gd p.1 p.2 0) gs:=by
 induction caps generalizing gs with
 |nil=>cases gs with
  |nil=>trivial
  |cons _ _=>exact h.elim
 |cons c caps a8=>cases gs with
  |nil=>exact h.elim
  |cons g gs=>exact ⟨h.1,a8 h.2⟩
theorem NB {ap:Type} {T:cf ap} {dq:ap->List aqR} (ad:∀z x ds,T.rd z x ds->ds=dq x) {L:List aqR}:∀{xs:List ap} {o:Nat},(∀(i:Nat) (x:ap),xs[i]? =aqP x->∃cs,T.rd z x cs/\p3 L (o+i*T.a1) cs)->(∀x∈xs,(dq x).length=T.a1)->
  ∀(i:Nat) (v:aqR),(xs.flatMap dq)[i]? =aqP v->L[o+i]? =aqP v
 |[],o,_,_,i,v,h=>by simp at h
 |x::xs,o,h,ai,i,v,ae=>by
  obtain ⟨cs,h1,J⟩:=h 0 x rfl;have:=ad _ _ _ h1;subst this;have tC:=ai x arn;rw[ash,atw] at ae;split at ae
  ·have:=J i v ae
   rwa [ar8,arC] at this
  ·rename_i e4;have:=NB ad (xs:=xs) (o:=o+T.a1) (L:=L) (fun j y ar=>by
    obtain ⟨cs,g1,g2⟩:=h (j+1) y (by simpa using ar);exact ⟨cs,g1,by rw[arm,asp] at g2;rw[show o+T.a1+j*T.a1=o+(j*T.a1+T.a1) by omega];exact g2⟩) (fun y ag=>ai y (ard _ ag)) _ v ae
   rw[tC] at this e4;rw[show o+i=o+T.a1+(i - T.a1) by omega];exact this
theorem OS {ap:Type} {dq:ap->List aqR} {n:Nat}:∀{xs:List ap},(∀x∈xs,(dq x).length=n)->∀(i j:Nat) (x:ap) (v:aqR),xs[i]? =aqP x->(dq x)[j]? =aqP v->(xs.flatMap dq)[i*n+j]? =aqP v
 |[],_,i,j,x,v,h,_=>by simp at h
 |y::xs,ai,0,j,x,v,h,ar=>by simp at h;subst h;rw[ash,ar8,ara,arf (aqZ.1 ar).1];exact ar
 |y::xs,ai,i+1,j,x,v,h,ar=>by have ag:=ai y arn;rw[ash,arm,asp,are (by omega),show i*n+n+j - (dq y).length=i*n+j by omega];exact OS (fun x U=>ai x (ard _ U)) i j x v (by simpa using h) ar
theorem CD {ap:Type} {dq:ap->List aqR} {n:Nat}:∀{xs:List ap},(∀x∈xs,(dq x).length=n)->(xs.flatMap dq).length=xs.length*n
 |[],_=>by simp
 |x::xs,h=>by rw[ash,ari,h x arn,CD fun y ag=>h y (ard _ ag),arr,arm];omega
theorem agy {bM:List (aQ D)} {n:Nat} (h:Qn (HD bM) n=aqQ):∃s,bM=[s, .fn n []]:=by
 unfold HD at h;split at h
 ·rename_i s g;obtain rfl:=aru h;exact ⟨s,rfl⟩
 ·cases h
theorem Gu {f:Nat} {caps:List (Nat×List (bJ D))} {bM:List (aQ D)} {eR:py P X.G}:∀{l:List (py P X.G)},wM X l f caps bM=aqP eR->eR.f=f/\caps=[]/\∃s,bM=[s, .fn eR.g []]
 |[],h=>by cases h
 |s::l,h=>by
  unfold wM at h;by_cases ab:(aq9 s.f f&&(caps.isEmpty&&Qn (HD bM) s.g))=aqQ
  ·rw[if_pos ab] at h;cases h;simp only[aq5] at ab;exact ⟨aru ab.1,by simpa using ab.2.1,agy ab.2.2⟩
  ·rw[if_neg ab] at h;exact Gu h
theorem WM {f:Nat} {bM:List (aQ D)} {eR:py P X.G} {args:List aqR} {caps:List (Nat×List (bJ D))} (aP:wM X X.S f caps bM=aqP eR) (av:bo X.G O z e m k vs) (cB:ba (rel X.G z vs) bM args) (h:Pl X eR bM O K=aqP r):
  hx P f args.toArray m fun v m'=>c0 X O z e k vs K r v m'/\∃q,fq m m' q/\mR vs (zp bM) q:=by
 obtain ⟨rfl,_,s,rfl⟩:=Gu aP
 match args,cB with
 |[c4,a2],⟨h1,⟨gs,J,aj⟩,_⟩=>
  have Bt:gs=[]:=by cases gs with
   |nil=>rfl
   |cons _ _=>exact aj.elim
  subst Bt;subst J;unfold Pl at h;split at h
  ·rename_i cc l az;cases az;have h1:c4= .slice aqS 0 0:=h1;subst h1;exact hx.sort eR.ok (.none aqS 0 eR.g eR.aI rfl) ⟨c0.here (cY:= .mL []) av ⟨[],rfl,trivial⟩ h,aqS,⟨aq3 _,fun _ _ _=>rfl⟩, .inl rfl⟩
  ·rename_i i l az;cases az;split at h
   ·rename_i t xs w ah;split at h
    ·rename_i he;subst he;obtain ⟨bk,ag,h⟩:=bind_some h;have bW:c3 (X.G.T eR.e) z e m k xs c4:=av.obj i _ c4 ah h1.1;have rU:∀x∈xs,(eR.dq x).length=(X.G.T eR.e).a1:=fun x _=>(X.G.T eR.e).len z x _ (eR.aw z x);have U2:∀x∈bk,(eR.dq x).length=(X.G.T eR.e).a1:=fun x _=>(X.G.T eR.e).len z x _ (eR.aw z x);have aq:=eR.aq xs bk ag;have hc:∀l:List (D eR.e),(l.flatMap eR.dq).all cv=aqQ:=fun l=>by
      rw[aq8];intro v ad;obtain ⟨x,_,U⟩:=List.mem_flatMap.1 ad;exact aq8.1 (eR.aP x) v U
     rcases bW.bd with ⟨rfl,rfl⟩|⟨b,f0,L,c,rfl,g1,g2,g3,g4,g5,g6⟩
     ·have n2:bk=[]:=asr (by rw[aq];rfl);subst n2;refine hx.sort eR.ok (.none aqS 0 eR.g eR.aI rfl) ⟨⟨z,vs, .mL [],_,Inv.set O i (.inr rfl),cR.refl z,fun _ _ h=>h, ?_,⟨[],rfl,trivial⟩,h⟩,aqS,⟨aq3 _,fun _ _ _=>rfl⟩, .inl rfl⟩;exact av.mM (m':=m) ah h1.1 rfl ⟨aq3 _,av.aO.dead,fun _ _ _=>rfl⟩ av.aO bW
     ·by_cases fi:xs.length=0
      ·have MF:xs=[]:=asr fi;subst MF;have n2:bk=[]:=asr (by rw[aq];rfl);subst n2;refine hx.sort eR.ok (.none _ c eR.g eR.aI rfl) ⟨⟨z,vs, .mL [],_,Inv.set O i (.inr rfl),cR.refl z,fun _ _ h=>h, ?_,⟨[],rfl,trivial⟩,h⟩,aqS,⟨aq3 _,fun _ _ _=>rfl⟩, .inl rfl⟩;exact av.mM (m':=m) ah h1.1 rfl ⟨aq3 _,av.aO.dead,fun _ _ _=>rfl⟩ av.aO bW
      ·have BD:=CD rU;have Ut:=CD U2;have hlen:(eT L f0 (bk.flatMap eR.dq)).length=L.length:=o8 _ _ _;have aK:=bW.aK b rfl;have vK:e1 m (m.put b (.own (eT L f0 (bk.flatMap eR.dq)) (X.G.T eR.e).tid)) (aqP b):=by
        refine ⟨aq3 _,fun c ab=> ?_,fun c ab hk=> ?_⟩
        ·have ab:m.next<=c:=ab;simp only[Mem.put];rw[if_neg (by omega)];exact av.aO.dead c ab
        ·simp only[Mem.put];rw[if_neg (fun dB=>hk (by rw[dB]))]
       refine hx.sort eR.ok (.row b f0 xs.length c eR.g L (X.G.T eR.e).tid (xs.flatMap eR.dq) (bk.flatMap eR.dq) (eR.az xs bk ag (by omega)) rfl (by omega) g1 ?_ (by rw[BD];exact g4) (by rw[BD,Ut,aq]) (hc _) (hc _)) ⟨⟨z,vs, .mL [],_,Inv.set O i (.inr rfl),cR.refl z,fun _ _ h=>h, ?_,⟨[],rfl,trivial⟩,h⟩,aqP b,⟨aq3 _,vK.aH⟩, .inr ⟨i,by simp[zp],_,h1.1,rfl⟩⟩
       ·refine asw fun j=> ?_;rw[arD];split
        ·rename_i ar;rw[ar0];have ad:=ars ar;rw[ad];exact NB eR.ad (fun i x U=>g6 i x U) rU j _ ad
        ·rename_i ar;rw[asP (by omega)]
       ·refine av.mM ah h1.1 rfl vK (av.aO.put _ g3 g2 aK.2) ⟨.inr ⟨b,f0,eT L f0 (bk.flatMap eR.dq),c,by rw[aq],by simp[Mem.put],g2,g3,by rw[aq,hlen];exact g4,by rw[aq,hlen];exact g5,fun i x U=> ?_⟩,bW.fresh⟩;refine ⟨eR.dq x,eR.aw z x,fun j v ar=> ?_⟩;have hk:=OS U2 i j x v U ar;rw[oj _ _ _ _ (by rw[Ut,aq];exact g4)];have aN:=(aqZ.1 hk).1;rw[if_pos (by omega),show f0+i*(X.G.T eR.e).a1+j - f0=i*(X.G.T eR.e).a1+j by omega];exact hk
    ·cases h
   ·cases h
  ·cases h
 |[],h=>exact h.elim
 |[_],⟨_,h⟩=>exact h.elim
 |_::_::_::_,⟨_,_,h⟩=>exact h.elim
theorem W3:∀{is:List Nat} {gs:List aqR},ba (rz vs) is gs->ba (rel X.G z vs) (is.map fun i=>aQ.box i 0) gs
 |[],[],_=>trivial
 |[],_::_,h=>h.elim
 |_::_,[],h=>h.elim
 |_::_,_::_,⟨⟨aI,b,h⟩,J⟩=>⟨⟨b,by subst h;exact aI,h⟩,W3 J⟩
theorem afA (bO:fQ X) {c:Call} (ah:o.op= .call c) (av:bo X.G O z e m k vs) (aT:∀x,rel X.G z vs (cm E x) (aJ fr x)) (h:qU X c E O K=aqP r):bV P (aJ fr) o m fun _ v m'=>c0 X O z e k vs K r v m':=by
 obtain ⟨ce,as,ts⟩:=c;cases ce with
 |invoke r m=>cases h
 |value f=>
  simp only[qU] at h;split at h
  ·rename_i jG caps aP;have fY:=aT f;rw[aP] at fY;obtain ⟨gs,vx,aG⟩:=fY;split at h
   ·rename_i eR nZ;have LW:caps=[]:=(Gu nZ).2.1;subst LW;have Bt:gs=[]:=by cases gs with
     |nil=>rfl
     |cons _ _=>exact aG.elim
    subst Bt;refine bV.call (CF (args:=(as.toList.map (aJ fr)).toArray) (caps:=#[]) ah vx (by apply ar6;simp) rfl) ?_;have:=(WM nZ av (wq aT) h).mono fun _ _ h=>h.1;simpa using this
   refine bV.call (CF (args:=(as.toList.map (aJ fr)).toArray) (caps:=gs.toArray) ah vx (by apply ar6;simp) rfl) ?_;have:=(bO jG _ O K r (as.toList.map (aJ fr)++gs) av ((wq aT).append aG.caps) h).mono fun _ _ h=>h.1;simpa using this
  ·rename_i jG is aP;have fY:=aT f;rw[aP] at fY;obtain ⟨gs,vx,aG⟩:=fY;refine bV.call (CF (args:=(as.toList.map (aJ fr)).toArray) (caps:=gs.toArray) ah vx (by apply ar6;simp) rfl) ?_;have:=(bO jG _ O K r (as.toList.map (aJ fr)++gs) av ((wq aT).append (W3 aG)) h).mono fun _ _ h=>h.1;simpa using this
  ·cases h
 |builtin b=>
  cases b with
  |len=>
   simp only[qU] at h;split at h
   ·rename_i x t au ao;have mX:as=#[x]:=by cases as;simp at au;subst au;rfl
    have kn:ts=#[t]:=by cases ts;simp at ao;subst ao;rfl
    subst mX kn;exact agT (ts:=#[t]) ah av (aT x) h
   ·cases h
  |append=>
   simp only[qU] at h;split at h
   ·rename_i x y t u au ao;have mX:as=#[x,y]:=by cases as;simp at au;subst au;rfl
    have kn:ts=#[t,u]:=by cases ts;simp at ao;subst ao;rfl
    subst mX kn;split at h
    ·rename_i hu;exact aeY ah hu av (aT x) (aT y) h
    split at h
    ·exact afz ah av (aT x) (aT y) h
    have U:=aT x;split at h
    ·rename_i i ae;rw[ae] at U;split at h
     ·exact afy ah av U (aT y) h
     ·rw[ae] at h;exact XE ah av U (aT y) h
    ·exact XE ah av U (aT y) h
   ·cases h
  |cap=>
   simp only[qU] at h;split at h
   ·rename_i x t au ao;have mX:as=#[x]:=by cases as;simp at au;subst au;rfl
    have kn:ts=#[t]:=by cases ts;simp at ao;subst ao;rfl
    subst mX kn;split at h
    ·rename_i fP U hu;have ad:=aT x;rw[U] at ad;exact bV.pure (.EC x t fP ah hu ad) (c0.here (cY:= .c (.int .i64 0)) av rfl h)
    ·cases h
   ·cases h
  |max=>
   simp only[qU] at h;split at h
   ·rename_i x y au;have mX:as=#[x,y]:=by cases as;simp at au;subst au;rfl
    subst mX;have U:=aT x;have ag:=aT y;split at h
    ·rename_i bt a bE b h1 J;rw[h1] at U;rw[J] at ag;split at h
     ·rename_i hk;subst hk;exact iq av h (amt ah U ag) rfl
     ·cases h
    ·cases h
   ·cases h
  |min=>
   simp only[qU] at h;split at h
   ·rename_i x y au;have mX:as=#[x,y]:=by cases as;simp at au;subst au;rfl
    subst mX;have U:=aT x;have ag:=aT y;split at h
    ·rename_i bt a bE b h1 J;rw[h1] at U;rw[J] at ag;split at h
     ·rename_i hk;subst hk;exact iq av h (amu ah U ag) rfl
     ·cases h
    ·cases h
   ·cases h
  |_=>cases h
theorem agF {s:aQ D} {v:aqR} {p:Sv D} (av:bo X.G O z e m k vs) (h:P0 O s=aqP p) (ad:rel X.G z vs s v):kD (X.G.M p.u p.kt p.vt) z p.es v\/hX (X.G.M p.u p.kt p.vt) z e m k p.es v:=by
 unfold P0 at h;split at h
 ·cases h;exact .inl ad
 ·split at h
  ·rename_i u kt vt es bg cN ah;cases h;have bW:=av.obj _ _ v ah ad.1;cases bg with
   |true=>exact .inl bW
   |false=>exact .inr bW
  ·cases h
 ·cases h
theorem Hk (bO:fQ X) {op:Op} (ah:o.op=op) (av:bo X.G O z e m k vs) (aT:∀x,rel X.G z vs (cm E x) (aJ fr x)) (h:ga X op E O K=aqP r):bV P (aJ fr) o m fun _ v m'=>c0 X O z e k vs K r v m':=by
 cases op with
 |move x=>exact iq av h (amv ah rfl) (aT x)
 |assign x=>exact iq av h (ah0 ah rfl) (aT x)
 |nilCheck x=>
  have U:=aT x;simp only[ga] at h;split at h
  ·rename_i i off az;have jR:=U;rw[az] at jR;obtain ⟨b,_,ad⟩:=jR;exact iq av h (by rw[ad];exact .nilCheck x _ ah ad) U
  ·rename_i i az;have jR:=U;rw[az] at jR;obtain ⟨b,l,_,ad⟩:=jR;exact iq av h (by rw[ad];exact .nilCheck x _ ah ad) U
  ·rename_i i aX cx off az;have jR:=U;rw[az] at jR;obtain ⟨b,f0,l,c,_,ad⟩:=jR;exact iq av h (by rw[ad];exact .nilCheck x _ ah ad) U
  ·rename_i t cs off az;have jR:=U;rw[az] at jR;obtain ⟨b,gm,ds,ad,_⟩:=jR;exact iq av h (by rw[ad];exact .nilCheck x _ ah ad) U
  ·cases h
 |extract x i=>
  have U:=aT x;simp only[ga] at h;split at h
  ·rename_i l az;rw[az] at U;obtain ⟨ds,ad,ai⟩:=U;split at h
   ·rename_i c ab;obtain ⟨w,hw,aw⟩:=ai.get i _ ab;exact iq av h (W8 ah ad hw) aw
   ·rename_i p ab;obtain ⟨w,hw,aw⟩:=ai.get i _ ab;exact iq av h (W8 ah ad hw) aw
   ·cases h
  ·cases h
 |pick c a b=>
  have ab:=aT c;simp only[ga] at h;split at h
  ·rename_i az;rw[az] at ab;exact iq av h (Zm (t:=aqQ) ah ab (if_pos rfl)) (aT a)
  ·rename_i az;rw[az] at ab;exact iq av h (Zm (t:=aqT) ah ab (if_neg (by simp))) (aT b)
  ·cases h
 |binOp op t x y u=>
  simp only[ga] at h;have U:=aT x;have ag:=aT y;split at h
  ·rename_i t1 c1 t2 c2 h1 J;rw[h1] at U;rw[J] at ag;obtain ⟨c,v,fy,an,aw⟩:=aii ah U ag h;exact iq av fy an aw
  ·obtain ⟨c,v,fy,an,aw⟩:=ahx ah av U ag h;exact iq av fy an aw
 |unOp op t x=>
  have U:=aT x;cases op with
  |not=>
   simp only[ga] at h;split at h
   ·rename_i b az;rw[az] at U;exact iq av h (aeo ah U) rfl
   ·cases h
  |neg=>
   simp only[ga] at h;split at h
   ·rename_i kk a az;rw[az] at U;exact iq av h (aem ah U) rfl
   ·cases h
  |_=>simp[ga] at h
 |convert s t x=>exact afB ah av (aT x) h
 |indexAddr t x y=>exact agS ah av (aT x) (aT y) h
 |fieldAddr t x n=>exact agQ ah av (aT x) h
 |load t x=>
  simp only[ga] at h;split at h
  ·unfold X1 at h;refine (WL ah av (aT x) h).mono fun _ v m' aq=> ?_;obtain ⟨cq,iS,cY,bL,aI,h1,J,aj,aM,br⟩:=aq;dsimp only at br;split at br
   ·rename_i j;split at br
    ·rename_i c cU aP;obtain ⟨z2,c4,a2,a3,a4⟩:=XI aj aP aM.1;exact ⟨z2,iS, .c c,cU,aI.trans c4,h1.trans a2,J,a3,a4,br⟩
    ·cases br
   ·cases br
  ·exact WL ah av (aT x) h
 |store t x y=>exact afi ah av (aT x) (aT y) h
 |alloc t=>exact aeX ah av h
 |box t x=>
  simp only[ga] at h;split at h
  ·rename_i i cs ae ab;split at h
   ·rename_i ai;exact agO ah av (aT x) ae ab ai h
   ·cases h
  ·cases h
 |makeSlice t x y=>
  have U:=aT x;simp only[ga] at h;split at h
  ·rename_i fM kk n ao az;rw[az] at U;split at h
   ·exact afh ah ao av U h
   ·split at h
    ·rename_i ti cb lg;exact afF ah ao av U lg h
    ·cases h
  ·cases h
 |buildSlice t l bK=>
  simp only[ga] at h;split at h
  ·exact agV ah av aT h
  ·split at h
   ·rename_i fM ao;split at h
    ·rename_i ti cb;exact aff ah ao av aT h
    ·cases h
   ·cases h
 |build t bK=>
  simp only[ga] at h;split at h
  ·rename_i bc ti ao cb;split at h
   ·rename_i an;split at h
    ·rename_i cs ab;exact aeM ah ao av aT an ab h
    ·cases h
   ·cases h
  ·rename_i n tr ti ao cb;split at h
   ·rename_i kk hk;split at h
    ·rename_i cs ab;exact afe ah ao hk av aT ab h
    ·cases h
   ·cases h
  ·cases h
 |slice t x bG ae h0=>
  cases h0 with
  |none=>exact afC ah av aT (aT x) h
  |some h0=>
   cases bG with
   |some _=>simp[ga] at h
   |none=>
    cases ae with
    |none=>simp[ga] at h
    |some y=>exact afD ah av aT h
 |index t x y=>
  have U:=aT x;have ag:=aT y;simp only[ga] at h;split at h
  ·rename_i s kk n ao h1 J;rw[h1] at U;rw[J] at ag;obtain ⟨c,ab,h⟩:=bind_some h;exact ag3 ah ao U ag ab (c0.here (cY:= .c (.int .u8 (asc c:Int))) av rfl h)
  ·cases h
 |makeFunc fn first cap=>
  cases fn with
  |func f=>
   simp only[ga] at h;split at h
   ·split at h
    ·rename_i is aP ab;exact agR ah aP av aT ab h
    ·cases h
   ·split at h
    ·rename_i caps bL aP ab;exact ahX ah aP av aT ab h
    ·cases h
  |_=>simp[ga] at h
 |makeMap t rs=>
  cases rs with
  |none=>
   simp only[ga] at h;split at h
   ·rename_i kt vt ao;exact agU ah ao av h
   ·cases h
  |some _=>simp[ga] at h
 |lookup t x y ok=>
  have U:=aT x;have ag:=aT y;simp only[ga] at h;split at h
  ·rename_i u kt vt es ai;have hm:=agF av ai U;split at h
   ·rename_i bt v1 bE v2 ao hu;split at h
    ·rename_i dn;obtain ⟨rfl,rfl,rfl,rfl⟩:=dn;split at h
     ·rename_i eu TZ;split at h
      ·rename_i a au;exact afE ah ao hu av hm ag au h
      ·cases h
     ·cases h
    ·cases h
   ·cases h
  ·cases h
 |mapUpdate t x y w=>
  have U:=aT x;have ag:=aT y;have hw:=aT w;simp only[ga] at h;split at h
  ·rename_i i d h1 aj;rw[h1] at U;rw[aj] at hw;split at h
   ·rename_i u kt vt es cN hO;split at h
    ·rename_i bt v1 bE v2 ao hu;split at h
     ·rename_i dn;obtain ⟨rfl,rfl,rfl,rfl⟩:=dn;split at h
      ·rename_i eu TZ;split at h
       ·rename_i a b au aa;exact XF (.inl ah) ao hu av hO U.1 ag hw au aa h
       ·cases h
      ·cases h
     ·cases h
    ·cases h
   ·cases h
  ·cases h
 |insert t x y w=>
  have U:=aT x;have ag:=aT y;have hw:=aT w;simp only[ga] at h;split at h
  ·rename_i i d h1 aj;rw[h1] at U;rw[aj] at hw;split at h
   ·rename_i u kt vt es cN hO;split at h
    ·rename_i bt v1 bE v2 ao hu;split at h
     ·rename_i dn;obtain ⟨rfl,rfl,rfl,rfl⟩:=dn;split at h
      ·rename_i eu TZ;split at h
       ·rename_i a b au aa;exact XF (.inr ah) ao hu av hO U.1 ag hw au aa h
       ·cases h
      ·cases h
     ·cases h
    ·cases h
   ·cases h
  ·cases h
 |call c=>exact afA bO ah av aT h
 |_=>simp[ga] at h
end
end Go.aS
end
