import Derived.MapKept
import Derived.Laws.StructEq
import Derived.Below
import Derived.Deep.Slices
import Derived.Test.YtekkhljfkiojiaaGreatDoorMa
set_option linter.defProp false
set_option linter.unusedSimpArgs false
set_option linter.unusedVariables false
open Array renaming toList_map->ye
open Bool renaming and_eq_true->fx,false->ak,true->aa
open Go renaming IntKind->aG,Operand->bS,Program->bI,TypeId->bV,Value->af
open Go.Cell renaming okWide->Tr
open Go.DataW renaming Trod->Tt,trod->ua
open Go.IntKind renaming bits->pP
open Go.MapKept renaming IsKey->TF
open Go.Program renaming cellsOf->nY
open Go.Region renaming before->kp
open Go.Result renaming andThen_ok->jE
open Go.Sem renaming run_bind->kD
open Go.Value renaming cells->yu,int->mu,okWide->AQ,slice->pr
open Go.World renaming block_lt_of_cell?->I8
open Int renaming eq_ofNat_of_zero_le->sD,toNat_natCast->sG
open List renaming all_cons->ml,all_eq_true->iA,eq_nil_of_length_eq_zero->yl,eq_of_mem_replicate->ym,ext_getElem?->rv,flatten_cons->yn,getElem?_append->AB,getElem?_append_left->kS,getElem?_append_right->kT,getElem?_eq_getElem->mm,getElem?_eq_some_iff->fq,getElem?_map->sH,getElem?_set->ll,length_append->sI,length_replicate->IL,length_set->sJ,map_cons->rA,mem_map->l2,mem_of_getElem?->mM,range->mN,replicate->gb,replicate_succ->YZ
open Nat renaming add_assoc->sK,add_mul->ko,beq->fi,ble->iJ,blt->mn,le_of_ble_eq_true->pk,le_refl->e4,le_trans->jd,lt_of_lt_of_le->hS,mul_le_mul->IT,mul_le_mul_right->oH,succ_mul->IU,zero_add->lH,zero_le->pn
open Option renaming bind->ab,getD_some->IV,isSome->Y2,none->ae,some->J
open True renaming intro->fs
open UInt8 renaming ofNat->AO
section
namespace Go.aF
def uf:Nat:=4294967296
def cD {aK:Type} (xs b4:List aK):Option (List aK):=if xs.length+b4.length<=uf then J (xs++b4) else ae
def tv {aK:Type} {xs b4 r:List aK} (h:cD xs b4=J r):xs.length+b4.length<=uf/\r=xs++b4:=by
 grind [cD]
def hy {aK:Type} (x:aK) (n:Int):Option (List aK):=if 0<=n/\n<=4294967296 then J (gb n.toNat x) else ae
def B3 {aK:Type} {x:aK} {n:Int} {r:List aK} (h:hy x n=J r):0<=n/\n<=4294967296/\r=gb n.toNat x:=by
 grind [hy]
def gW (n:Int):Option UInt8:=if 0<=n/\n<256 then J (AO n.toNat) else ae
def acM {n:Int} {u:UInt8} (h:gW n=J u):n=u.toNat:=by
 unfold gW at h;split at h
 ·rename_i ay;cases h;simp;omega
 grind
def sU (a b:Int):Option Int:=if b=0 then ae else J (a.tdiv b)
def px (a b:Int):Option Int:=if b=0 then ae else J (a.tmod b)
def aq0 {a b r:Int} (h:sU a b=J r):b≠0/\r=a.tdiv b:=by
 grind [sU]
def acD {a b r:Int} (h:px a b=J r):b≠0/\r=a.tmod b:=by
 grind [px]
def lt {aK cg:Type} (x:aK) (f:aK->Option cg):Option cg:=f x
def adC {aK cg:Type} {x:aK} {f:aK->Option cg} {r:cg} (h:lt x f=J r):∃y,x=y/\f y=J r:=⟨x,rfl,h⟩
def bind_some {aK cg:Type} {x:Option aK} {f:aK->Option cg} {r:cg} (h:x.bind f=J r):∃y,x=J y/\f y=J r:=Option.bind_eq_some_iff.1 h
def kE (t:bV):cM UInt8:=cM.flat t (λu=> .int .u8 u.toNat) λ_=>rfl
section
variable {P:bI} {C:FuncId->Array af->Mem->af->Mem->Prop} {ap:bS->af} {o:Oper} {aK:Type} {T:cM aK} {z:Nat->bW} {m:Mem} {xs b4:List aK} {v w:af} {x y:bS} {t e u:bV} {i:TypeInfo} {d:TypeDesc}
def Src (T:cM aK) (z:Nat->bW) (m:Mem) (b4:List aK) (w:af):Prop:=ja w=b4.length/\∃cs,kt m T.bM w=J cs/\cs.length=b4.length*T.bM/\∀(i:Nat) (y:aK),b4[i]? =J y->∃c,T.rd z y c/\ql cs (i*T.bM) c
def ad4 {m:Mem} {b:Nat}:∀(n off:Nat) (f:Nat->af),(∀i,i<n->m.load b (off+i)=J (f i))->kd m b off n=J ((mN n).map f)
 |0,off,f,_=>rfl
 |n+1,off,f,h=>by
  have bR:=h 0 (by omega);have a1:=ad4 n (off+1) (λi=>f (i+1)) λi az=>by rw[show off+1+i=off+(i+1) by omega];exact h (i+1) (by omega)
  simp_all [kd,List.range_succ_eq_map]
def Xv {b off c:Nat} (h:∀(i:Nat) (y:aK),b4[i]? =J y->∃cs,T.rd z y cs/\∀(k:Nat) (u:af),cs[k]? =J u->m.load b (off+i*T.bM+k)=J u):Src T z m b4 (.slice (J ⟨b,off,ae⟩) b4.length c):=by
 have ax9:∀k,k<b4.length*T.bM->∃u,m.load b (off+k)=J u:=by
  intro k hk;have hh:0<T.bM:=by
   grind
  have bm:k / T.bM<b4.length:=Nat.div_lt_of_lt_mul (by grind);obtain ⟨cs,h1,ai⟩:=h (k / T.bM) b4[k / T.bM] (by grind);have hlen:=T.len z _ cs h1;have aV:k%T.bM<cs.length:=by simp_all [Nat.mod_lt]
  refine ⟨cs[k%T.bM], ?_⟩;have:=ai (k%T.bM) _ (mm aV)
  grind [Nat.div_add_mod]
 let f:Nat->af:=λk=>(m.load b (off+k)).getD undef
 have bF:∀k,k<b4.length*T.bM->m.load b (off+k)=J (f k):=λk hk=>by
  grind
 refine ⟨rfl,(mN (b4.length*T.bM)).map f,ad4 _ _ _ bF,by simp,λi y aZ=> ?_⟩;obtain ⟨cs,h1,ai⟩:=h i y aZ;refine ⟨cs,h1,λk u hk=> ?_⟩;have uV:=(fq.1 hk).1;rw[T.len z y cs h1] at uV;have aaK:=(fq.1 aZ).1;have cF:i*T.bM+k<b4.length*T.bM:=by
  have:(i+1)*T.bM<=b4.length*T.bM:=oH _ aaK
  grind
 grind
def fA.src (h:fA T z b4 w) (bx:lk z m):Src T z m b4 w:=by
 rcases h with ⟨rfl,rfl⟩|⟨b,off,c,rfl,_,_,br⟩
 ·exact ⟨rfl,[],rfl,by simp,λi y aZ=>by grind⟩
 ·exact Xv λi y aZ=>by obtain ⟨cs,g1,g2⟩:=br i y aZ;exact ⟨cs,g1,λk u hk=>KO bx (g2 k u hk)⟩
def fO.src (h:fO T z m b4 w):Src T z m b4 w:=by
 rcases h with ⟨rfl,rfl⟩|⟨b,f0,L,c,rfl,aw,_,_,_,_,br⟩
 ·exact ⟨rfl,[],rfl,by simp,λi y aZ=>by grind⟩
 ·exact Xv λi y aZ=>by obtain ⟨cs,g1,g2⟩:=br i y aZ;exact ⟨cs,g1,λk u hk=>by simp only[Mem.load,aw];exact g2 k u hk⟩
def asP {tid:bV} (s:List UInt8):Src (kE tid) z m s (str s):=by
 refine ⟨by rfl,s.map λu=> .int .u8 u.toNat,by rfl,by simp[kE,cM.flat],λi y aZ=> ?_⟩;refine ⟨[.int .u8 y.toNat],rfl,λk u hk=> ?_⟩
 grind [kE,cM.flat]
def gl.kill {b:Nat} {X:bW} (bg:∀b,m.next<=b->m.blk b= .dead) (aw:b<m.next):gl m ((m.put b .dead).push X) (J b):=by
 have h1:=zm (m:=m) (x:= .dead) bg aw;refine ⟨Nat.le_succ _,λc ay=> ?_,λc ay hk=> ?_⟩
 ·have e:((m.put b .dead).push X).blk c=if c=m.next then X else (if c=b then .dead else m.blk c):=rfl
  have ay:m.next+1<=c:=ay
  grind
 ·have e:((m.put b .dead).push X).blk c=if c=m.next then X else (if c=b then .dead else m.blk c):=rfl
  grind
def adb {cs:List af} (h:o.op= .call {callee:= .builtin .append,args:=#[x,y],argTypes:=#[t,u]}) (aJ:P.underlying t=J (.slice T.tid)) (az:P.info? T.tid=J i) {c0:af} (hL:i.zero=J c0) (dw:c0.cells.toList.all dy=aa) (et:c0.cells.size=i.size)
  (cN:i.size=T.bM) (hh:0<T.bM) (UZ:(xs.length+b4.length)*i.bytes<=140737488355328) (nD:xs.length+b4.length<=140737488355328) (an:ap x=v) (bf:fO T z m xs v) (eL:sA P m u i (ap y) b4.length cs) (kK:cs.length=b4.length*T.bM) (e0:∀(i:Nat) (y:aK),b4[i]? =J y->∃c,T.rd z y c/\ql cs (i*T.bM) c)
  (bx:lk z m) (bg:∀b,m.next<=b->m.blk b= .dead):
  ∃cc m',hR P C ap o m cc m'/\fO T z m' (xs++b4) cc/\gl m m' (da v)/\∀b,da cc=J b->da v=J b\/m.next<=b:=by
 have aaA:=UZ;have aaX:xs.length+b4.length<9223372036854775807:=by omega
 have yN:cs.length=b4.length*i.size:=by grind
 have qS:z m.next= .dead:=by
  cases wC:z m.next with
  |dead=>rfl
  |ro rd=>have:=(bx m.next (by grind)).2;omega
  |own L t=>have:=(bx m.next (by grind)).2;omega
  |map L t=>have:=(bx m.next (by grind)).2;omega
  |lock _ _ _ _=>have:=(bx m.next (by grind)).2;omega
 have join:∀(ew:List af),ew.length=xs.length*T.bM->(∀(i:Nat) (x:aK),xs[i]? =J x->∃c,T.rd z x c/\ql ew (i*T.bM) c)->
   ∀(i:Nat) (x:aK),(xs++b4)[i]? =J x->∃c,T.rd z x c/\ql (ew++cs) (i*T.bM) c:=by
  intro ew nF aM i a bl;rw[AB] at bl;split at bl
  ·rename_i cF;obtain ⟨c,g1,g2⟩:=aM i a bl;refine ⟨c,g1,λk q hk=> ?_⟩;have:=g2 k q hk
   grind
  ·rename_i hA;obtain ⟨c,g1,g2⟩:=e0 _ a bl;refine ⟨c,g1,λk q hk=> ?_⟩;have:=g2 k q hk;have h1:i*T.bM=ew.length+(i - xs.length)*T.bM:=by
    rw[nF,<-ko];grind
   grind
 rcases bf with ⟨rfl,rfl⟩|⟨b,f0,L,c,rfl,aw,cF,VH,aR,kJ,aoJ⟩
 ·by_cases Bz:b4.length=0
  ·have anD:cs=[]:=yl (by grind);have ao8:b4=[]:=yl Bz;subst ao8;subst anD;refine ⟨ap x,m, .vZ x y t u T.tid i ae 0 0 h aJ az an (by simp[dc]) (e4 _) eL, ?_,⟨e4 _,bg,λ_ _ _=>rfl⟩, ?_⟩
   ·rw[an];exact .inl ⟨rfl,rfl⟩
   grind
  ·refine ⟨_,_, .sP x y t u T.tid i c0 ae 0 0 b4.length [] cs h aJ az hL dw et (by grind) an (by omega) (by rw[an];rfl) (by simp) eL yN (by grind) (by grind), ?_,BN bg, ?_⟩
   ·refine .inr ⟨m.next,0,cs,dc,by simp,by simp[Mem.push],by simp[Mem.push],qS,by grind, .inl rfl, ?_⟩
    grind
   ·intro b aw;cases aw;grind
 ·have aoK:∀(i:Nat) (x:aK),xs[i]? =J x->∃c,T.rd z x c/\ql ((L.drop f0).take (xs.length*T.bM)) (i*T.bM) c:=by
   intro k a bl;obtain ⟨c,g1,g2⟩:=aoJ k a bl;refine ⟨c,g1,λq ka bm=> ?_⟩;have yV:=(fq.1 bm).1;rw[T.len z a c g1] at yV;have uV:=(fq.1 bl).1;have:(k+1)*T.bM<=xs.length*T.bM:=oH _ uV;rw[ko,Nat.one_mul] at this;rw[List.getElem?_take,if_pos (by omega),List.getElem?_drop,<-sK];exact g2 q ka bm
  have uZ:((L.drop f0).take (xs.length*T.bM)).length=xs.length*T.bM:=by grind
  rcases kJ with rfl|⟨anq,axP,anr⟩
  ·refine ⟨_,_, .append x y t u T.tid i c0 b f0 xs.length b4.length L cs h aJ az hL dw et (by grind) an aw (by grind) eL yN aaA aaX, ?_,gl.kill bg cF, ?_⟩
   ·refine .inr ⟨m.next,0,(L.drop f0).take (xs.length*T.bM)++cs,dc,by simp,by grind [Mem.push,Mem.put],by simp[Mem.push,Mem.put],qS, ?_, .inl rfl, ?_⟩
    ·grind [ko]
    grind
   ·intro dJ e5;cases e5;grind
  ·by_cases uT:xs.length+b4.length<=c
   ·have JG:f0+(xs.length+b4.length)*i.size<=L.length:=by
     rw[cN];exact jd (Nat.add_le_add_left (oH _ uT) _) anr
    refine ⟨_,_, .vY x y t u T.tid i b f0 xs.length c b4.length L cs h aJ az an (by grind) uT aw eL yN JG, ?_,zm bg cF,λdJ e5=> .inl e5⟩;have JX:(eY L (f0+xs.length*i.size) cs).length=L.length:=mB _ _ _;refine .inr ⟨b,f0,eY L (f0+xs.length*i.size) cs,c,by simp,by simp[Mem.put],cF,VH, ?_, .inr ⟨anq, ?_, ?_⟩, ?_⟩
    ·simp_all
    ·grind
    ·grind
    ·intro k a bl;obtain ⟨c3,g1,g2⟩:=join _ uZ aoK k a bl;refine ⟨c3,g1,λq ka bm=> ?_⟩;have:=g2 q ka bm;have an9:=(fq.1 this).1;rw[sI,uZ,kK] at an9;rw[cN,ko] at JG;rw[cN,o5 _ _ _ _ (by grind)];rw[AB,uZ] at this;split at this
     ·grind
     ·rw[if_pos (by omega),show f0+k*T.bM+q - (f0+xs.length*T.bM)=k*T.bM+q - xs.length*T.bM by omega]
      grind
   ·have anK:kt m i.size (ap x)=J ((L.drop f0).take (xs.length*T.bM)):=by
     grind [kt,Cc,Mem.load]
    refine ⟨_,_, .sP x y t u T.tid i c0 _ xs.length c b4.length ((L.drop f0).take (xs.length*T.bM)) cs h aJ az hL dw et (by grind) an (by omega) anK (by grind) eL yN aaA aaX, ?_, ?_, ?_⟩
    ·refine .inr ⟨m.next,0,(L.drop f0).take (xs.length*T.bM)++cs,dc,by simp,by simp[Mem.push],by simp[Mem.push],qS, ?_, .inl rfl,by grind⟩
     grind [ko]
    ·have:=BN (m:=m) (x:= .own ((L.drop f0).take (xs.length*T.bM)++cs) T.tid) bg;exact ⟨this.next,this.dead,λc ay _=>this.blk c ay (by simp)⟩
    ·intro dJ e5;cases e5;grind
def arU (h:o.op= .call {callee:= .builtin .append,args:=#[x,y],argTypes:=#[t,u]}) (aJ:P.underlying t=J (.slice T.tid)) (az:P.info? T.tid=J i) {c0:af} (hL:i.zero=J c0) (dw:c0.cells.toList.all dy=aa) (et:c0.cells.size=i.size)
  (cN:i.size=T.bM) (hh:0<T.bM) (UZ:(xs.length+b4.length)*i.bytes<=140737488355328) (nD:xs.length+b4.length<=140737488355328) (hu:(∃cz,P.underlying u=J (.slice cz))\/P.underlying u=J .string) (an:ap x=v) (bf:fO T z m xs v) (aZ:ap y=w) (mW:Src T z m b4 w)
  (bx:lk z m) (bg:∀b,m.next<=b->m.blk b= .dead):
  ∃cc m',hR P C ap o m cc m'/\fO T z m' (xs++b4) cc/\gl m m' (da v)/\∀b,da cc=J b->da v=J b\/m.next<=b:=by
 obtain ⟨hlen,cs,mb,kK,e0⟩:=mW;exact adb h aJ az hL dw et cN hh UZ nD an bf (.el hu (by grind) (by grind)) kK e0 bx bg
def avo {x0:aK} {c0:af} (e0:T.rd z x0 c0.cells.toList) (c:Nat):(gb c c0.cells.toList).flatten.length=(gb c x0).length*T.bM/\
  ∀(i:Nat) (y:aK),(gb c x0)[i]? =J y->∃d,T.rd z y d/\ql (gb c c0.cells.toList).flatten (i*T.bM) d:=by
 have hlen:c0.cells.toList.length=T.bM:=T.len z x0 _ e0;refine ⟨by simp_all,λj a bl=> ?_⟩;have bn:=(fq.1 bl).1;have UT:a=x0:=by grind
 subst UT;refine ⟨_,e0,λq u bm=> ?_⟩;have yV:=(fq.1 bm).1;rw[hlen] at yV;have key:∀(c j:Nat),j<c->((gb c c0.cells.toList).flatten)[j*T.bM+q]? =c0.cells.toList[q]? :=by
  intro c;induction c with
  |zero=>grind
  |succ c a1=>
   intro j bn;rw[YZ,yn];cases j with
   |zero=>grind
   |succ j=>
    grind
 grind
def arV {x0:aK} {kk k:aG} {c:Nat} (h:o.op= .call {callee:= .builtin .append,args:=#[x,y],argTypes:=#[t,u]}) (aJ:P.underlying t=J (.slice T.tid)) (az:P.info? T.tid=J i) {c0:af} (hL:i.zero=J c0) (dw:c0.cells.toList.all dy=aa) (et:c0.cells.size=i.size)
  (cN:i.size=T.bM) (hh:0<T.bM) (hp:i.bytes<=32768) (hu:P.underlying u=J (.int kk)) (an:ap x=v) (bf:fO T z m xs v) (aZ:ap y= .int k c) (e0:T.rd z x0 c0.cells.toList)
  (bx:lk z m) (bg:∀b,m.next<=b->m.blk b= .dead) {r:List aK} (aV:cD xs (gb c x0)=J r):
  ∃cc m',hR P C ap o m cc m'/\fO T z m' r cc/\gl m m' (da v)/\∀b,da cc=J b->da v=J b\/m.next<=b:=by
 obtain ⟨nD,rfl⟩:=tv aV;simp only[uf,IL] at nD;have h1:(xs.length+c)*i.bytes<=4294967296*32768:=IT nD hp;have ai:c*i.bytes<=4294967296*32768:=IT (by omega) hp;obtain ⟨g1,g2⟩:=avo (T:=T) (z:=z) e0 c;exact adb h aJ az hL dw et cN hh (by grind) (by grind) an bf
  (.mk kk k c0 hu (by grind) hL dw et (by omega) (by grind) (by grind) (by grind)) g1 g2 bx bg
def asg (h:o.op= .call {callee:= .builtin .append,args:=#[x,y],argTypes:=#[t,u]}) (aJ:P.underlying t=J (.slice T.tid)) (az:P.info? T.tid=J i) {c0:af} (hL:i.zero=J c0) (dw:c0.cells.toList.all dy=aa) (et:c0.cells.size=i.size)
  (cN:i.size=T.bM) (hh:0<T.bM) (hp:i.bytes<=32768) (hu:(∃cz,P.underlying u=J (.slice cz))\/P.underlying u=J .string) (an:ap x=v) (bf:fO T z m xs v) (aZ:ap y=w) (mW:Src T z m b4 w)
  (bx:lk z m) (bg:∀b,m.next<=b->m.blk b= .dead) {r:List aK} (aV:cD xs b4=J r):
  ∃cc m',hR P C ap o m cc m'/\fO T z m' r cc/\gl m m' (da v)/\∀b,da cc=J b->da v=J b\/m.next<=b:=by
 obtain ⟨nD,rfl⟩:=tv aV;simp only[uf] at nD;have:(xs.length+b4.length)*i.bytes<=4294967296*32768:=IT nD hp;exact arU h aJ az hL dw et cN hh (by omega) (by omega) hu an bf aZ mW bx bg
def avp {x0:aK} {k k':aG} {n n':Int} (h:o.op= .makeSlice t x y) (aJ:P.underlying t=J (.slice T.tid)) (az:P.info? T.tid=J i) {c0:af} (hL:i.zero=J c0) (dw:c0.cells.toList.all dy=aa) (et:c0.cells.size=i.size) (cN:i.size=T.bM) (hp:i.bytes<=32768)
  (e0:T.rd z x0 c0.cells.toList) (an:ap x= .int k n) (aZ:ap y= .int k' n) (bx:lk z m) {r:List aK} (aV:hy x0 n=J r):
  ∃L v,jC P ap o m.next (.own L T.tid) v/\fO T z (m.push (.own L T.tid)) r v/\da v=J m.next:=by
 obtain ⟨bR,h1,rfl⟩:=B3 aV;obtain ⟨c,rfl⟩:=sD bR;have qS:z m.next= .dead:=by
  cases wC:z m.next with
  |dead=>rfl
  |ro rd=>have:=(bx m.next (by grind)).2;omega
  |own L t=>have:=(bx m.next (by grind)).2;omega
  |map L t=>have:=(bx m.next (by grind)).2;omega
  |lock _ _ _ _=>have:=(bx m.next (by grind)).2;omega
 have hlen:c0.cells.toList.length=T.bM:=by grind
 have yO:(gb c c0.cells.toList).flatten.length=c*T.bM:=by simp_all
 refine ⟨_,_, .makeSlice t x y c c k k' T.tid i c0 h aJ az hL dw et an aZ (e4 _) ?_ (by omega), ?_,rfl⟩
 ·have:i.bytes*c<=32768*4294967296:=IT hp (by omega);omega
 ·simp only[sG];refine fO.AW ⟨m.next,(gb c c0.cells.toList).flatten,c,by simp,by simp[Mem.push],by simp[Mem.push],qS,by grind, .inr ⟨by grind [dc],by simp,by grind⟩,λj a bl=> ?_⟩;have bn:=(fq.1 bl).1;have UT:a=x0:=by grind
  subst UT;refine ⟨_,e0,λq u bm=> ?_⟩;have yV:=(fq.1 bm).1;rw[hlen] at yV;have key:∀(c j:Nat),j<c->((gb c c0.cells.toList).flatten)[j*T.bM+q]? =c0.cells.toList[q]? :=by
   intro c;induction c with
   |zero=>grind
   |succ c a1=>
    intro j bn;rw[YZ,yn];cases j with
    |zero=>grind
    |succ j=>
     grind
  grind
def wZ (T:cM aK) (z:Nat->bW) (ap:bS->af):List (Nat×bS)->Nat->List aK->List (List af)->Prop|[],_,[],[]=>True|(k,x)::cQ,n,a::dK,c::cs=>k=n/\storable (ap x)=aa/\(ap x).cells.toList=c/\T.rd z a c/\wZ T z ap cQ (n+1) dK cs|_,_,_,_=>False
def adt:∀(new A B D:List af),new.length=B.length->eY (A++B++D) A.length new=A++new++D
 |[],A,B,D,h=>by grind [eY]
 |v::new,A,b::B,D,h=>by
  have e:(A++(b::B)++D).set A.length v=(A++[v])++B++D:=by simp
  simp only[eY,e];have:=adt new (A++[v]) B D (by grind)
  grind
 |_::_,A,[],D,h=>by grind
theorem ab4:∀(cQ:List (Nat×bS)) (n:Nat) (dK:List aK) (jS:List (List af)) (A D:List af),wZ T z ap cQ n dK jS->A.length=n*T.bM->D.length=dK.length*T.bM->
  k5 (λk=>J (k*T.bM,T.bM)) (A++D) (cQ.map λp=>(p.1,ap p.2))=J (A++jS.flatten)
 |[],n,[],[],A,D,_,_,aat=>by simp_all [k5]
 |(k,x)::cQ,n,a::dK,c::jS,A,D,h,eL,aat=>by
  obtain ⟨rfl,h1,ai,aT,br⟩:=h;have ay:=T.len z a c aT;have cN:(ap x).cells.size=T.bM:=by grind
  simp only[List.length_cons,ko,Nat.one_mul] at aat;simp only[rA,k5,h1,cN,true_and,sI];rw[if_pos (by omega),ai,<-eL];have aoS:A++D=A++D.take T.bM++D.drop T.bM:=by simp_all
  rw[aoS,adt c A (D.take T.bM) (D.drop T.bM) (by grind)];rw[ab4 cQ (k+1) dK jS (A++c) (D.drop T.bM) br (by grind) (by grind)];simp
 |[],_,_::_,_,_,_,h,_,_=>h.elim
 |[],_,[],_::_,_,_,h,_,_=>h.elim
 |_::_,_,[],_,_,_,h,_,_=>h.elim
 |_::_,_,_::_,[],_,_,h,_,_=>h.elim
def acQ:∀(cQ:List (Nat×bS)) (n:Nat) (dK:List aK) (jS:List (List af)),wZ T z ap cQ n dK jS->jS.flatten.length=dK.length*T.bM/\∀(i:Nat) (a:aK),dK[i]? =J a->∃c,T.rd z a c/\ql jS.flatten (i*T.bM) c
 |[],n,[],[],_=>⟨by simp,λi a bl=>by grind⟩
 |(k,x)::cQ,n,a::dK,c::jS,h=>by
  obtain ⟨rfl,h1,ai,aT,br⟩:=h;have ay:=T.len z a c aT;obtain ⟨g1,g2⟩:=acQ cQ (k+1) dK jS br;refine ⟨by grind,λi b aw=> ?_⟩;cases i with
  |zero=>
   simp at aw;subst aw;refine ⟨c,aT,λq u bm=> ?_⟩
   grind
  |succ i=>obtain ⟨c3,cL,c9⟩:=g2 i b (by grind);refine ⟨c3,cL,λq u bm=> ?_⟩;rw[yn,ko,Nat.one_mul,kT (by omega),ay,show i*T.bM+T.bM+q - T.bM=i*T.bM+q by omega];exact c9 q u bm
 |[],_,_::_,_,h=>h.elim
 |[],_,[],_::_,h=>h.elim
 |_::_,_,[],_,h=>h.elim
 |_::_,_,_::_,[],h=>h.elim
def atm {cQ:Array (Nat×bS)} {l:Nat} {dK:List aK} {jS:List (List af)} (h:o.op= .buildSlice t l cQ) (aJ:P.underlying t=J (.slice T.tid)) (az:P.info? T.tid=J i) {c0:af} (hL:i.zero=J c0) (dw:c0.cells.toList.all dy=aa) (et:c0.cells.size=i.size) (cN:i.size=T.bM)
  (aR:dK.length=l) (uO:l*T.bM<=16777216) (uW:l<9223372036854775808) (aw:wZ T z ap cQ.toList 0 dK jS) (bx:lk z m):
  ∃L v,jC P ap o m.next (.own L T.tid) v/\fO T z (m.push (.own L T.tid)) dK v/\da v=J m.next:=by
 have qS:z m.next= .dead:=by
  cases wC:z m.next with
  |dead=>rfl
  |ro rd=>have:=(bx m.next (by grind)).2;omega
  |own L t=>have:=(bx m.next (by grind)).2;omega
  |map L t=>have:=(bx m.next (by grind)).2;omega
  |lock _ _ _ _=>have:=(bx m.next (by grind)).2;omega
 have bF:=ab4 cQ.toList 0 dK jS [] (gb l c0.cells.toList).flatten aw (by simp) (by simp_all);obtain ⟨g1,g2⟩:=acQ cQ.toList 0 dK jS aw;refine ⟨jS.flatten,_, .buildSlice t l cQ T.tid i c0 _ h aJ az hL dw et (by grind) uW (by grind), ?_,rfl⟩;exact fO.AW ⟨m.next,jS.flatten,l,by grind,by simp[Mem.push],by simp[Mem.push],qS,by grind, .inr ⟨by grind [dc],by omega,by grind⟩,g2⟩
def atn {s:List UInt8} {tid:bV} (h:o.op= .convert u t x) (hu:P.underlying u=J .string) (aJ:P.underlying t=J (.slice tid)) (he:P.underlying tid=J (.int .u8)) (az:P.info? tid=J i) (kL:i.size=1) (an:ap x=str s) (aR:s.length<9223372036854775807) (bx:lk z m):
  ∃L v,jC P ap o m.next (.own L tid) v/\fO (kE tid) z (m.push (.own L tid)) s v/\da v=J m.next:=by
 have qS:z m.next= .dead:=by
  cases wC:z m.next with
  |dead=>rfl
  |ro rd=>have:=(bx m.next (by grind)).2;omega
  |own L t=>have:=(bx m.next (by grind)).2;omega
  |map L t=>have:=(bx m.next (by grind)).2;omega
  |lock _ _ _ _=>have:=(bx m.next (by grind)).2;omega
 refine ⟨_,_, .bytes u t x tid i ⟨s.toArray⟩ h hu aJ he az kL an (by grind [BV]), ?_,rfl⟩;refine fO.AW ⟨m.next,s.map λu=> .int .u8 u.toNat,dc,by rfl,by simp[Mem.push,kE,cM.flat],by simp[Mem.push],qS,by simp[kE,cM.flat], .inl rfl,λk a bl=>⟨[.int .u8 a.toNat],rfl,λq w bm=> ?_⟩⟩
 grind [kE,cM.flat]
def afk {s:List UInt8} {tid:bV} (h:o.op= .convert t u x) (aJ:P.underlying t=J (.slice tid)) (he:P.underlying tid=J (.int .u8)) (hu:P.underlying u=J .string) (an:ap x=v) (bf:Src (kE tid) z m s v) (aD:∃a l c,v= .slice a l c):fH P ap o m (str s):=by
 obtain ⟨a,l,c,rfl⟩:=aD;obtain ⟨aR,cs,mb,kK,e0⟩:=bf;have jI:cs=s.map λu=> .int .u8 u.toNat:=by
  apply rv;intro k;by_cases hk:k<s.length
  ·obtain ⟨c3,g1,g2⟩:=e0 k s[k] (by grind);have g1:c3=[.int .u8 s[k].toNat]:=g1;subst g1;have:=g2 0 _ rfl
   grind [kE,cM.flat]
  grind [kE,cM.flat]
 subst jI;simp only[ja] at aR;subst aR;cases a with
 |none=>
  simp only[kt,Option.some.injEq] at mb;have:s=[]:=by grind
  subst this;exact .zQ t u x tid _ c h aJ he hu an
 |some a=>
  obtain ⟨b,off,spot⟩:=a;cases spot with
  |some q=>grind [kt]
  |none=>simp only[kt,kE,cM.flat,Nat.mul_one] at mb;exact .str t u x tid b off _ c s h aJ he hu an mb
end
def looks:Op->Bool| .load .. | .convert .. | .slice .. | .lookup .. =>aa|_=>ak
def sg:Op->Bool| .alloc _| .box .. | .buildSlice .. | .makeSlice .. | .convert .. | .makeMap .. =>aa|_=>ak
def calm (ops:Array Oper):Bool:=
 (mN ops.size).all λe=>match ops[e]? with
  |none=>aa
  |some wM=> !lT wM.op||(mN ops.size).all λr=>match ops[r]? with
   |none=>aa
   |some or=>(!(looks or.op)||(if r<e then gD (kp ops) e r else if e<r then gD (kp ops) r e else aa))&&(!(sg or.op)||(if r<e then gD (kp ops) e r else aa))
theorem Ks {P:bI} {ap:bS->af} {o:Oper} {m:Mem} {v:af} (h:fH P ap o m v):looks o.op=aa:=by
 cases h<;>simp[*,looks]
theorem BK {P:bI} {ap:bS->af} {o:Oper} {n:Nat} {X:bW} {v:af} (h:jC P ap o n X v):sg o.op=aa:=by
 cases h<;>simp[*,sg]
theorem acS {ops:Array Oper} (h:calm ops=aa) {e r:Nat} {wM or:Oper} (he:ops[e]? =J wM) (aV:ops[r]? =J or) (bp:lT wM.op=aa) (aR:looks or.op=aa):(r<e->gD (kp ops) e r=aa)/\(e<r->gD (kp ops) r e=aa):=by
 grind [calm]
theorem aqV {ops:Array Oper} (h:calm ops=aa) {e r:Nat} {wM or:Oper} (he:ops[e]? =J wM) (aV:ops[r]? =J or) (bp:lT wM.op=aa) (aR:sg or.op=aa) (cF:r<e):gD (kp ops) e r=aa:=by
 grind [calm]
def ace {P:bI} {C:FuncId->Array af->Mem->af->Mem->Prop} {ops:Array Oper} (ay:calm ops=aa):∀(l pre:List Oper) (A:Acc) (fr cb:Nat->af) (m m':Mem),ops.toList=pre++l->
  (∀x∈A.reads,∃o,ops[x.1]? =J o/\looks o.op=aa/\x.1<pre.length)->(∀x∈A.iC,∃o,ops[x.1]? =J o/\lT o.op=aa/\x.1<pre.length)->(∀x∈A.news,∃o,ops[x.1]? =J o/\sg o.op=aa/\x.1<pre.length)->
  k6 P C ops.toList l fr m cb m'->hW P C ops.toList (kp ops) pre.length l A fr m cb m'
 |[],pre,A,fr,cb,m,m',bb,h1,ai,aT,h=>h
 |o::l,pre,A,fr,cb,m,m',bb,h1,ai,aT,h=>by
  have aM:ops[pre.length]? =J o:=by rw[<-Array.getElem?_toList,bb];simp
  have wv:ops.toList=(pre++[o])++l:=by grind
  have hlen:(pre++[o]).length=pre.length+1:=by simp
  have up:∀{cg:Type} {p:Oper->Bool} {L:List (Nat×cg)},(∀x∈L,∃o,ops[x.1]? =J o/\p o=aa/\x.1<pre.length)->∀x∈L,∃o,ops[x.1]? =J o/\p o=aa/\x.1<pre.length+1:=λcp x an=>by
   grind
  have afl:=λ(A:Acc) (fr:Nat->af) (m:Mem)=>ace (P:=P) (C:=C) ay l (pre++[o]) A fr cb m m' wv;rw[hlen] at afl;simp only[k6] at h;simp only[hW];split at h
  ·rename_i hw;rw[if_pos hw];obtain ⟨v,m1,bf,aV⟩:=h;cases bf with
   |pure bm=>grind
   |read bm=>
    grind [Ks,acS]
   |new bm=>
    grind [BK]
   |fX bm=>
    have qQ:=Wt bm;refine .inr (.inr (.inr ⟨v,m1,bm,λx an bl=> ?_,λx an bl=> ?_,afl _ _ _ (up (p:=λo=>looks o.op) h1) ?_ (up (p:=λo=>sg o.op) aT) aV⟩))
    ·grind [acS]
    ·grind [aqV]
    grind
  grind
theorem W.calm {P:bI} {id:Nat} {ops:Array Oper} {Q:fG->(Nat->af)->Mem->Prop} {fr:Nat->af} {m:Mem} (ay:aF.calm ops=aa) (h:ea P ops.toList ops.toList (Q .normal) fr m):W P (.region id ops aa) Q fr m:=by
 obtain ⟨n,cb,m',h1,ai⟩:=h;refine W.draw ⟨n,cb,m', ?_,ai⟩;have:=ace (P:=P) (C:=jn P n) ay ops.toList [] ⟨[],[],[]⟩ fr cb m m' (by rfl) (by simp) (by simp) (by simp) h1
 grind
end Go.aF
end
section
namespace Go.aF
def sub:Code->List Nat->Code|c,[]=>c| .seq a b,0::p=>sub a p| .seq a b,_::p=>sub b p| .cond _ a b,0::p=>sub a p| .cond _ a b,_::p=>sub b p| .block _ c,_::p=>sub c p| .scope c,_::p=>sub c p| .loop c,_::p=>sub c p|c,_=>c
def en (f:Func):Code:=f.body.getD .skip
theorem Lq {fr:Nat->af} {d:Option Tmp} {v:af} {i:Nat} (h:d≠J i):set fr d v i=fr i:=by
 cases d with
 |none=>rfl
 |some t=>grind [set]
def Wp {P:bI} {C:FuncId->Array af->Mem->af->Mem->Prop} {ops:List Oper} {i:Nat}:∀(l:List Oper) (fr cb:Nat->af) (m m':Mem),(∀o∈l,o.dst≠J i)->k6 P C ops l fr m cb m'->cb i=fr i
 |[],fr,cb,m,m',_,h=>by rw[h.1]
 |o::l,fr,cb,m,m',hw,h=>by
  have tj:∀o∈l,o.dst≠J i:=λo aM=>hw o (by grind);simp only[k6] at h;split at h
  ·obtain ⟨v,m1,_,h⟩:=h;rw[Wp l _ _ _ _ tj h];grind [Lq]
  ·rw[Wp l _ _ _ _ tj h];grind [Lq]
def Wa {P:bI} {C:FuncId->Array af->Mem->af->Mem->Prop} {ops:List Oper} {B:Array Nat} {i:Nat}:∀(l:List Oper) (n:Nat) (A:Acc) (fr cb:Nat->af) (m m':Mem),(∀o∈l,o.dst≠J i)->hW P C ops B n l A fr m cb m'->cb i=fr i
 |[],n,A,fr,cb,m,m',_,h=>by rw[h.1]
 |o::l,n,A,fr,cb,m,m',hw,h=>by
  have tj:∀o∈l,o.dst≠J i:=λo aM=>hw o (by grind);have h1:=hw o (by simp);simp only[hW] at h;split at h
  ·rcases h with ⟨v,_,h⟩|⟨v,_,_,h⟩|⟨X,v,_,h⟩|⟨v,m1,_,_,_,h⟩<;>(rw[Wa l _ _ _ _ _ _ tj h];grind [Lq])
  ·rw[Wa l _ _ _ _ _ _ tj h];grind [Lq]
def adT {ops:Array Oper} {i:Nat} (h:(Uh ops).contains i=ak):∀o∈ops.toList,o.dst≠J i:=by
 grind [Uh]
def abW {a b:List Nat} {i:Nat} (h:(a++b).contains i=ak):a.contains i=ak/\b.contains i=ak:=by
 grind
def aqr {P:bI} {C:FuncId->Array af->Mem->af->Mem->Prop} {i:Nat}:∀(n:Nat) (c:Code) (fr cb:Nat->af) (m m':Mem) (e:fG),(q6 c).contains i=ak->lS P C n c fr m e cb m'->cb i=fr i:=by
 intro n;induction n with
 |zero=>intro c fr cb m m' e _ h;exact h.elim
 |succ n a1=>
  intro c fr cb m m' e hw h;cases c with
  |skip=>rw[h.2.1]
  |label l=>rw[h.2.1]
  |exit id=>rw[h.2.1]
  |ret=>rw[h.2.1]
  |region id ops d=>
   cases d with
   |false=>exact Wp _ _ _ _ _ (adT hw) h.2
   |true=>exact Wa _ _ _ _ _ _ _ (adT hw) h.2
  |seq a b=>
   rcases h with ⟨bX,fY,m1,g1,g2⟩|h
   rotate_left
   ·exact h.2.keep _ hw
   obtain ⟨h1,ai⟩:=abW hw
   grind
  |cond c a b=>
   obtain ⟨h1,ai⟩:=abW hw;obtain ⟨t,_,g⟩:=h
   grind
  |block id c=>obtain ⟨bX,g,_⟩:=h;exact a1 c _ _ _ _ _ hw g
  |scope c=>exact a1 c _ _ _ _ _ hw h
  |loop c=>
   obtain ⟨bX,fY,m1,g1,g2⟩:=h;have cL:=a1 c _ _ _ _ _ hw g1
   grind
  |rangeFunc f cQ x y=>exact h.elim
  |goto l=>exact h.elim
  |refuse s=>exact h.elim
section
variable {P:bI} {Q AH:fG->(Nat->af)->Mem->Prop} {fr:Nat->af} {m:Mem}
def W.keep {c:Code} (h:W P c Q fr m) (bm:∀e cb m',(∀i,(q6 c).contains i=ak->cb i=fr i)->Q e cb m'->AH e cb m'):W P c AH fr m:=
 let ⟨n,e,cb,m',h1,ai⟩:=h
 ⟨n,e,cb,m',h1,bm _ _ _ (λ_ az=>aqr _ _ _ _ _ _ _ az h1) ai⟩
def W.amu {c:bS} {a b:Code} {t:Bool} (aJ:bk fr c= .bool t) (he:t=aa) (h:W P a Q fr m):W P (.cond c a b) Q fr m:=W.cond (t:=aa) (by rw[aJ,he]) h
def W.Z0 {c:bS} {a b:Code} {t:Bool} (aJ:bk fr c= .bool t) (he:t=ak) (h:W P b Q fr m):W P (.cond c a b) Q fr m:=W.cond (t:=ak) (by rw[aJ,he]) h
def pZ.rS {i:Nat} (h:Q .normal fr m):pZ i Q (.exit i) fr m:=by grind [pZ]
def pZ.qZ {i j:Nat} (hq:(j==i)=ak) (h:Q (.exit j) fr m):pZ i Q (.exit j) fr m:=by
 grind [pZ]
def ea.mono {ops l:List Oper} {K mj:(Nat->af)->Mem->Prop} (h:ea P ops l K fr m) (hk:∀fr m,K fr m->mj fr m):ea P ops l mj fr m:=
 let ⟨n,cb,m',h1,ai⟩:=h;⟨n,cb,m',h1,hk _ _ ai⟩
theorem mr.of {o:Oper} {ap:bS->af} {R:af->Mem->Prop} {v:af} {m':Mem} {n:Nat} (h:ln P (jn P n) ap o m v m') (hk:R v m'):mr P ap o m R:=⟨n,v,m',h,hk⟩
end
structure dT (n:Nat) (z z':Nat->bW):Prop where
 le:fl z z'
 low:∀b,b<n->z' b=z b
theorem dT.refl {n:Nat} (z:Nat->bW):dT n z z:=⟨fl.refl z,λ_ _=>rfl⟩
def dT.trans {n:Nat} {a b c:Nat->bW} (h:dT n a b) (k:dT n b c):dT n a c:=⟨h.le.trans k.le,λi az=>by rw[k.low i az,h.low i az]⟩
def dT.Ja {n n':Nat} {a b:Nat->bW} (h:dT n a b) (bB:n'<=n):dT n' a b:=⟨h.le,λi az=>h.low i (by omega)⟩
structure jQ (z:Nat->bW) (e m:Mem) (k:Option Nat) (b:Nat) (cs:List af) (t:bV):Prop where
 blk:m.blk b= .own cs t
 lt:b<m.next
 dead:z b= .dead
 fresh:e.next<=b\/k=J b
structure dU {aK:Type} (T:cM aK) (z:Nat->bW) (e m:Mem) (k:Option Nat) (xs:List aK) (v:af):Prop where
 bT:fO T z m xs v
 fresh:∀b,da v=J b->e.next<=b
section
variable {aK:Type} {T:cM aK} {z z':Nat->bW} {e m m':Mem} {k q:Option Nat} {xs:List aK} {v:af} {b:Nat} {cs:List af} {t:bV}
def dU.same (h:dU T z e m k xs v) (s:gl m m' q) (fD:e6 (da v) q):dU T z e m' k xs v:=⟨h.bT.same s fD,h.fresh⟩
def jQ.same (h:jQ z e m k b cs t) (s:gl m m' q) (fD:e6 (J b) q):jQ z e m' k b cs t:=by
 have:=arQ h.blk h.lt s (fD b rfl);exact ⟨this.1,this.2,h.dead,h.fresh⟩
def dU.lt (h:dU T z e m k xs v):∀b,da v=J b->b<m.next:=λb aw=>(h.bT.lt b aw).1
def dU.abw (h:dU T z e m k xs v):∀b,da v=J b->b<m.next/\(m.blk b).mem=m.blk b:=λb aw=>⟨h.lt b aw,by
 rcases h.bT with ⟨rfl,_⟩|⟨dJ,o,L,c,rfl,h1,_⟩
 ·cases aw
 ·cases aw;rw[h1];rfl⟩
def fO.jP (h:fO T z m xs v) (bx:fl z z') (aw:∀b,da v=J b->z' b=z b):fO T z' m xs v:=by
 rcases h with h|⟨b,f0,L,c,rfl,h1,ai,aT,br,cK,fJ⟩
 ·exact .inl h
 ·refine .inr ⟨b,f0,L,c,rfl,h1,ai,by rw[aw b rfl];grind,br,cK,λi x az=> ?_⟩;obtain ⟨cs,g1,g2⟩:=fJ i x az;exact ⟨cs,T.mono _ _ bx _ _ g1,g2⟩
def dU.jP (h:dU T z e m k xs v) (bx:fl z z') (aw:∀b,da v=J b->z' b=z b):dU T z' e m k xs v:=⟨h.bT.jP bx aw,h.fresh⟩
def jQ.jP (h:jQ z e m k b cs t) (aw:∀c,J b=J c->z' c=z c):jQ z' e m k b cs t:=⟨h.blk,h.lt,by rw[aw b rfl];exact h.dead,h.fresh⟩
def dU.freeze (h:dU T z e m k xs v) (aS:dL z e m k):∃z',dT e.next z z'/\dL z' e m k/\fA T z' xs v/\∀p,e6 p (da v)->∀b,p=J b->z' b=z b:=by
 refine ⟨jT z m (da v),⟨Cj λb aw=>(h.bT.lt b aw).2,λb aw=> ?_⟩,⟨Lj aS.bZ h.abw,aS.dead,aS.oL,aS.next,aS.kept⟩,h.bT.awh,λp bb b aw=> ?_⟩
 ·unfold jT;rw[if_neg];intro e5;have:=h.fresh b e5;omega
 ·unfold jT;rw[if_neg (bb b aw)]
def jQ.bm (h:jQ z e m k b cs t):∀c,J b=J c->z c= .dead/\(e.next<=c\/k=J c):=λc ay=>by cases ay;exact ⟨h.dead,h.fresh⟩
def dU.bm (h:dU T z e m k xs v):∀c,da v=J c->z c= .dead/\(e.next<=c\/k=J c):=λc ay=>⟨(h.bT.lt c ay).2, .inl (h.fresh c ay)⟩
def dU.nil:dU T z e m k [] (.slice ae 0 0):=⟨.nil,λb aw=>by cases aw⟩
variable {P:bI} {C:FuncId->Array af->Mem->af->Mem->Prop} {ap:bS->af} {o:Oper} {w:af} {b4:List aK} {x y:bS} {u:bV} {i:TypeInfo}
def as0 (h:o.op= .call {callee:= .builtin .append,args:=#[x,y],argTypes:=#[t,u]}) (aJ:P.underlying t=J (.slice T.tid)) (az:P.info? T.tid=J i) {c0:af} (hL:i.zero=J c0) (dw:c0.cells.toList.all dy=aa) (et:c0.cells.size=i.size)
  (cN:i.size=T.bM) (hh:0<T.bM) (hp:i.bytes<=32768) (hu:(∃cz,P.underlying u=J (.slice cz))\/P.underlying u=J .string) (an:ap x=v) (bf:dU T z e m k xs v) (aZ:ap y=w) (mW:Src T z m b4 w)
  (aS:dL z e m k) {r:List aK} (aV:cD xs b4=J r):
  ∃cc m',hR P C ap o m cc m'/\dL z e m' k/\dU T z e m' k r cc/\gl m m' (da v)/\∀p,(∀b,p=J b->b<m.next)->e6 p (da v)->e6 p (da cc):=by
 obtain ⟨cc,m',h1,ai,aT,br⟩:=asg (C:=C) h aJ az hL dw et cN hh hp hu an bf.bT aZ mW aS.bZ aS.dead aV;refine ⟨cc,m',h1,aS.same aT bf.bm,⟨ai,λb aw=> ?_⟩,aT,λp bb bl b aw e5=> ?_⟩
 ·rcases br b aw with br|br
  ·exact bf.fresh b br
  ·have:=aS.next;omega
 ·rcases br b e5 with br|br
  ·exact bl b aw br
  grind
theorem Jz {L:List af} {cc:af} {b4:List aK} (aS:dL z e m k) (h:fO T z (m.push (.own L t)) b4 cc) (aw:da cc=J m.next):
  dL z e (m.push (.own L t)) k/\dU T z e (m.push (.own L t)) k b4 cc/\gl m (m.push (.own L t)) ae/\∀p,(∀b,p=J b->b<m.next)->e6 p (da cc):=
 ⟨aS.push _,⟨h,λb e5=>by rw[aw] at e5;cases e5;exact aS.next⟩,BN aS.dead,λp bb b e5 Bf=>by grind⟩
def avc {x0:aK} {cL c9:aG} {n:Int} (h:o.op= .makeSlice t x y) (aJ:P.underlying t=J (.slice T.tid)) (az:P.info? T.tid=J i) {c0:af} (hL:i.zero=J c0) (dw:c0.cells.toList.all dy=aa) (et:c0.cells.size=i.size) (cN:i.size=T.bM) (hp:i.bytes<=32768)
  (e0:T.rd z x0 c0.cells.toList) (an:ap x= .int cL n) (aZ:ap y= .int c9 n) (aS:dL z e m k) {r:List aK} (aV:hy x0 n=J r):
  ∃cc m' L eu,jC P ap o m.next (.own L eu) cc/\m'=m.push (.own L eu)/\dL z e m' k/\dU T z e m' k r cc/\gl m m' ae/\∀p,(∀b,p=J b->b<m.next)->e6 p (da cc):=by
 obtain ⟨L,cc,h1,ai,aT⟩:=avp (n':=n) h aJ az hL dw et cN hp e0 an aZ aS.bZ aV
 grind [Jz]
def atv {cQ:Array (Nat×bS)} {l:Nat} {dK:List aK} {jS:List (List af)} (h:o.op= .buildSlice t l cQ) (aJ:P.underlying t=J (.slice T.tid)) (az:P.info? T.tid=J i) {c0:af} (hL:i.zero=J c0) (dw:c0.cells.toList.all dy=aa) (et:c0.cells.size=i.size) (cN:i.size=T.bM)
  (aR:dK.length=l) (uO:l*T.bM<=16777216) (uW:l<9223372036854775808) (aw:wZ T z ap cQ.toList 0 dK jS) (aS:dL z e m k):
  ∃cc m' L eu,jC P ap o m.next (.own L eu) cc/\m'=m.push (.own L eu)/\dL z e m' k/\dU T z e m' k dK cc/\gl m m' ae/\∀p,(∀b,p=J b->b<m.next)->e6 p (da cc):=by
 obtain ⟨L,cc,h1,ai,aT⟩:=atm h aJ az hL dw et cN aR uO uW aw aS.bZ
 grind [Jz]
def atw {s:List UInt8} {tid:bV} (h:o.op= .convert u t x) (hu:P.underlying u=J .string) (aJ:P.underlying t=J (.slice tid)) (he:P.underlying tid=J (.int .u8)) (az:P.info? tid=J i) (kL:i.size=1) (an:ap x=str s) (aR:s.length<9223372036854775807) (aS:dL z e m k):
  ∃cc m' L eu,jC P ap o m.next (.own L eu) cc/\m'=m.push (.own L eu)/\dL z e m' k/\dU (kE tid) z e m' k s cc/\gl m m' ae/\∀p,(∀b,p=J b->b<m.next)->e6 p (da cc):=by
 obtain ⟨L,cc,h1,ai,aT⟩:=atn h hu aJ he az kL an aR aS.bZ
 grind [Jz]
def Xj {L:List af} (aS:dL z e m k):dL z e (m.push (.own L t)) k/\jQ z e (m.push (.own L t)) k m.next L t/\gl m (m.push (.own L t)) ae/\∀p,(∀b,p=J b->b<m.next)->e6 p (J m.next):=by
 refine ⟨aS.push _,⟨by simp[Mem.push],Nat.lt_succ_self _, ?_, .inl aS.next⟩,BN aS.dead,λp bb b e5 Bf=>by grind⟩;cases wC:z m.next with
 |dead=>rfl
 |ro rd=>have:=(aS.bZ m.next (by grind)).2;omega
 |own L t=>have:=(aS.bZ m.next (by grind)).2;omega
 |map L t=>have:=(aS.bZ m.next (by grind)).2;omega
 |lock _ _ _ _=>have:=(aS.bZ m.next (by grind)).2;omega
def amS {off:Nat} {new cs':List af} {hE:bV} (h:o.op= .store t x y) (az:P.info? t=J i) (an:ap x= .pointer (J ⟨b,off,ae⟩)) (aZ:ap y=w) (aD:storable w=aa) (bB:w.cells.toList=new) (bf:new.length=i.size) (aw:jQ z e m k b cs hE) (aR:off+new.length<=cs.length) (jI:eY cs off new=cs') (aS:dL z e m k):
  ∃m',hR P C ap o m undef m'/\dL z e m' k/\jQ z e m' k b cs' hE/\gl m m' (J b):=by
 subst aZ jI;have oa:=zm (x:= .own (eY cs off new) hE) aS.dead aw.lt;exact ⟨_,(aet h az an aw.blk aD bB bf aR),aS.same oa aw.bm,⟨by simp[Mem.put],aw.lt,aw.dead,aw.fresh⟩,oa⟩
def amU {off f0 n f l c:Nat} {new sV AZ:List af} {a a':aK} (h:o.op= .store t x y) (az:P.info? t=J i) (an:ap x= .pointer (J ⟨b,off,ae⟩)) (rV:off=f0+n*T.bM+f) (aZ:ap y=w) (aD:storable w=aa) (bB:w.cells.toList=new) (bf:new.length=i.size)
  (aM:dU T z e m k xs v) (qU:v= .slice (J ⟨b,f0,ae⟩) l c) (bl:xs[n]? =J a) (aV:T.rd z a sV) (ay:∀(i:Nat) (u:af),sV[i]? =J u->m.load b (f0+n*T.bM+i)=J u) (nG:T.rd z a' AZ) (jI:AZ=eY sV f new) (bF:f+new.length<=sV.length) (aS:dL z e m k):
  ∃m',hR P C ap o m undef m'/\dL z e m' k/\dU T z e m' k (xs.set n a') v/\gl m m' (da v):=by
 subst aZ rV;obtain ⟨L,g1,g2,g3,g4⟩:=aM.bT.store aS.dead qU bl aV ⟨b,_,rfl,ay⟩ nG jI bF;have kI:da v=J b:=by rw[qU];rfl
 refine ⟨_,(aet h az an g1 aD bB bf g2),aS.same g4 (by rw[<-kI];exact aM.bm),⟨g3,aM.fresh⟩,by grind⟩
def avb {cL:aG} {n:Int} {a:aK} {hE:bV} (h:o.op= .indexAddr t x y) (aJ:P.underlying t=J (.slice hE)) (az:P.info? hE=J i) (cN:i.size=T.bM) (an:ap x=v) (aZ:ap y= .int cL n) (bf:fA T z xs v) (bs:al xs n=J a):
  ∃b off cs,dD P ap o (.pointer (J ⟨b,off,ae⟩))/\T.rd z a cs/\o2 z b off cs:=by
 obtain ⟨p,cs,h1,ai,b,off,rfl,aT⟩:=auL h aJ az cN an aZ bf bs
 grind
def ava {cL:aG} {n:Int} {a:aK} {hE:bV} (h:o.op= .indexAddr t x y) (aJ:P.underlying t=J (.slice hE)) (az:P.info? hE=J i) (cN:i.size=T.bM) (an:ap x=v) (aZ:ap y= .int cL n) (bf:dU T z e m k xs v) (bs:al xs n=J a):
  ∃b f0 l c cs,dD P ap o (.pointer (J ⟨b,f0+n.toNat*T.bM,ae⟩))/\v= .slice (J ⟨b,f0,ae⟩) l c/\T.rd z a cs/\∀(j:Nat) (u:af),cs[j]? =J u->m.load b (f0+n.toNat*T.bM+j)=J u:=by
 obtain ⟨p,cs,h1,ai,aT,b,f0,l,c,rfl,rfl⟩:=auK h aJ az cN an aZ bf.bT bs;obtain ⟨jR,iQ,br,cK⟩:=aT
 grind
def Xk {n:Nat} {bY:Array Field} {f:Field} {off:Nat} (h:o.op= .fieldAddr t x n) (aJ:P.underlying t=J (.struct bY)) (bF:bY[n]? =J f) (az:P.info? f.type=J i) (bf:(i.size==0)=ak) (an:ap x= .pointer (J ⟨b,off,ae⟩)):
  dD P ap o (.pointer (J ⟨b,off+f.offset,ae⟩)):= .fieldAddr t x n bY f i b off h aJ bF az (by intro bR;rw[bR] at bf;cases bf) an
def XV {off:Nat} {d:TypeDesc} (h:o.op= .load t x) (aJ:P.underlying t=J d) (bg:lI d=ak) (an:ap x= .pointer (J ⟨b,off,ae⟩)) (aD:m.load b off=J v):fH P ap o m v:= .load t x b off d v h an aJ bg aD
def atx {off:Nat} {d:TypeDesc} (h:o.op= .load t x) (aJ:P.underlying t=J d) (bg:lI d=aa) (az:P.info? t=J i) (bf:cs.length=i.size) (an:ap x= .pointer (J ⟨b,off,ae⟩)) (aD:∀(j:Nat) (u:af),cs[j]? =J u->m.load b (off+j)=J u):fH P ap o m (.agg cs.toArray):=
 .wI t x b off d i cs h an aJ bg az (Cc _ _ _ bf aD)
def jQ.load (h:jQ z e m k b cs t) {off:Nat} (aD:cs[off]? =J v):m.load b off=J v:=by simp only[Mem.load,h.blk];grind
def jQ.tm (h:jQ z e m k b cs t):∀(j:Nat) (u:af),cs[j]? =J u->m.load b (0+j)=J u:=λj u bn=>by rw[lH];exact h.load bn
def dL.tm (aS:dL z e m k) {off:Nat} (h:o2 z b off cs):∀(j:Nat) (u:af),cs[j]? =J u->m.load b (off+j)=J u:=λj u bn=>KO aS.bZ (h j u bn)
end
def ade {args:Array af} {n i:Nat} {v:af} (h:args.toList[i]? =J v):(args++Array.replicate n undef).getD i undef=v:=by
 have h1:args[i]? =J v:=by grind
 have cF:=(Array.getElem?_eq_some_iff.1 h1).1;simp_all [Array.getElem?_append_left]
theorem arB {n:Nat} {v:af} (h:flat v=aa):low n v:=WJ h
theorem h2.flat {P:bI} {f:FuncId} {fn:Func} {c:Code} {args:Array af} {z:Nat->bW} {m:Mem} {r:af} (bF:P.funcs[f]? =J fn) (aw:qm P fn c) (eT:lR P f=aa) (cN:args.size<=fn.ntmps) (aV:aF.flat r=aa)
  (h:∀fr,(∀i v,args.toList[i]? =J v->fr i=v)->W P c (λe fr m1=>(e= .normal\/e= .ret)/\∃z',dL z' m m1 ae/\∃vs,q2 P fr m1 fn.results.toList vs/\(vs.length=1\/∀x∈vs,storable x=aa)/\pack vs=r) fr m):h2 P f args m λv m'=>v=r/\m'=m:=by
 refine h2.enter bF aw eT cN ((h _ λi v az=>ade az).mono ?_);rintro e fr m1 ⟨he,z',aS,vs,h1,ai,aT⟩;refine ⟨he,vs,h1,ai, .inr ⟨⟨aT,aS.awi⟩,by grind [arB],λb aw=> .inl (aS.kept b aw (by simp))⟩⟩
def h2.any {P:bI} {f:FuncId} {fn:Func} {c:Code} {args:Array af} {m:Mem} {R:af->Mem->Prop} (bF:P.funcs[f]? =J fn) (aw:qm P fn c) (eT:lR P f=aa) (cN:args.size<=fn.ntmps)
  (h:∀fr,(∀i v,args.toList[i]? =J v->fr i=v)->W P c (λe fr m1=>(e= .normal\/e= .ret)/\∃vs,q2 P fr m1 fn.results.toList vs/\(vs.length=1\/∀x∈vs,storable x=aa)/\R (pack vs) m1) fr m):h2 P f args m R:=by
 refine h2.enter bF aw eT cN ((h _ λi v az=>ade az).mono ?_)
 grind
end Go.aF
end
section
namespace Go.aF
inductive Tag where
 |pure
 |read (I:Mem->Prop)
 |new
 |fX
def cH (P:bI) (ap:bS->af) (o:Oper) (m:Mem) (D:Tag->af->Mem->Prop):Prop:=
 (∃v,dD P ap o v/\D .pure v m)\/(∃v I,dD P ap o v/\D (.read I) v m)\/(∃v,fH P ap o m v/\D (.read λm=>fH P ap o m v) v m)\/
 (∃X v,jC P ap o m.next X v/\D .new v (m.push X))\/(∃n v m',hR P (jn P n) ap o m v m'/\D .fX v m')
section
variable {P:bI} {ap:bS->af} {o:Oper} {m:Mem} {D:Tag->af->Mem->Prop} {K:af->Mem->Prop}
theorem cH.pure {v:af} (h:dD P ap o v) (hk:D .pure v m):cH P ap o m D:= .inl ⟨v,h,hk⟩
def cH.abT {v:af} {I:Mem->Prop} (h:dD P ap o v) (hk:D (.read I) v m):cH P ap o m D:= .inr (.inl ⟨v,I,h,hk⟩)
theorem cH.read {v:af} (h:fH P ap o m v) (hk:D (.read λm=>fH P ap o m v) v m):cH P ap o m D:= .inr (.inr (.inl ⟨v,h,hk⟩))
theorem cH.new {v:af} {X:bW} (h:jC P ap o m.next X v) (hk:D .new v (m.push X)):cH P ap o m D:= .inr (.inr (.inr (.inl ⟨X,v,h,hk⟩)))
theorem cH.fX {n:Nat} {v:af} {m':Mem} (h:hR P (jn P n) ap o m v m') (hk:D .fX v m'):cH P ap o m D:= .inr (.inr (.inr (.inr ⟨n,v,m',h,hk⟩)))
theorem cH.w (h:cH P ap o m λ_=>K):mr P ap o m K:=by
 rcases h with ⟨v,h,hk⟩|⟨v,I,h,hk⟩|⟨v,h,hk⟩|⟨X,v,h,hk⟩|⟨n,v,m',h,hk⟩
 ·grind [mr.pure]
 ·grind [mr.pure]
 ·grind [mr.read]
 ·grind [mr.new]
 grind [mr.fX]
def cH.call {f:FuncId} {args:Array af} (ay:callee o ap f args) (h:h2 P f args m (D .fX)):cH P ap o m D:=by
 obtain ⟨n,v,m',h1,ai⟩:=h;exact .fX (.call f args v m' ay h1) ai
end
def zi {P:bI} {C:FuncId->Array af->Mem->af->Mem->Prop} {ops:List Oper} {B:Array Nat}:∀(l:List Oper) (i:Nat) (A iH:Acc) (fr cb:Nat->af) (m m':Mem),(∀x∈iH.reads,x∈A.reads)->(∀x∈iH.iC,x∈A.iC)->(∀x∈iH.news,x∈A.news)->hW P C ops B i l A fr m cb m'->hW P C ops B i l iH fr m cb m'
 |[],i,A,iH,fr,cb,m,m',_,_,_,h=>h
 |o::l,i,A,iH,fr,cb,m,m',h1,ai,aT,h=>by
  simp only[hW] at h⊢;split at h
  ·rename_i hw;rw[if_pos hw];rcases h with ⟨v,bb,bg⟩|⟨v,bb,aM,bg⟩|⟨X,v,bb,bg⟩|⟨v,m1,bb,g1,g2,bg⟩
   ·exact .inl ⟨v,bb,zi l _ _ _ _ _ _ _ h1 ai aT bg⟩
   ·refine .inr (.inl ⟨v,bb,λx an=>aM x (ai x an),zi l _ {A with reads:=_::A.reads} _ _ _ _ _ (λx an=> ?_) ai aT bg⟩)
    grind
   ·refine .inr (.inr (.inl ⟨X,v,bb,zi l _ {A with news:=_::A.news} _ _ _ _ _ h1 ai (λx an=> ?_) bg⟩))
    grind
   ·refine .inr (.inr (.inr ⟨v,m1,bb,λx an=>g1 x (h1 x an),λx an=>g2 x (aT x an),zi l _ {A with iC:=_::A.iC} _ _ _ _ _ h1 (λx an=> ?_) aT bg⟩))
    grind
  ·rename_i hw;rw[if_neg hw];exact zi l _ _ _ _ _ _ _ h1 ai aT h
def u7 (B:Array Nat) (i:Nat) (A:Acc) (m:Mem):Tag->Mem->Prop| .pure,_=>True| .read I,_=>∀x∈A.iC,gD B i x.1=ak->I x.2| .new,_=>True| .fX,m1=>(∀x∈A.reads,gD B i x.1=ak->x.2 m1)/\∀x∈A.news,gD B i x.1=ak->m1.blk x.2=m.blk x.2
def qL (A:Acc) (i:Nat) (m:Mem):Tag->Acc
 | .pure=>A
 | .read I=>{A with reads:=(i,I)::A.reads}
 | .new=>{A with news:=(i,m.next)::A.news}
 | .fX=>{A with iC:=(i,m)::A.iC}
section
variable {P:bI} {ops l:List Oper} {B:Array Nat} {i:Nat} {A:Acc} {K:(Nat->af)->Mem->Prop} {fr:Nat->af} {m:Mem} {o:Oper}
theorem ea.Ue (bs:wanted ops fr o=aa) (h:cH P (bk fr) o m λ_ v m1=>ea P ops l K (set fr o.dst v) m1):ea P ops (o::l) K fr m:=ea.cons bs h.w
theorem hQ.cons (bs:wanted ops fr o=aa) (h:cH P (bk fr) o m λt v m1=>u7 B i A m t m1/\hQ P ops B (i+1) l (qL A i m t) K (set fr o.dst v) m1):hQ P ops B i (o::l) A K fr m:=by
 have up:∀{n n':Nat} (_:n<=n') {l:List Oper} {i:Nat} {A:Acc} {fr cb:Nat->af} {m m':Mem},hW P (jn P n) ops B i l A fr m cb m'->hW P (jn P n') ops B i l A fr m cb m':=λbB=>vd (wV _ _ bB) _ _ _ _ _ _ _;rcases h with ⟨v,h,_,n,cb,m',h1,ai⟩|⟨v,I,h,_,n,cb,m',h1,ai⟩|⟨v,h,aM,n,cb,m',h1,ai⟩|⟨X,v,h,_,n,cb,m',h1,ai⟩|⟨fK,v,m1,h,aM,n,cb,m',h1,ai⟩
 ·refine ⟨n,cb,m', ?_,ai⟩;simp only[hW];rw[if_pos bs];exact .inl ⟨v,h,h1⟩
 ·refine ⟨n,cb,m', ?_,ai⟩;simp only[hW];rw[if_pos bs];exact .inl ⟨v,h,zi _ _ {A with reads:=(i,I)::A.reads} A _ _ _ _ (λx an=>List.mem_cons_of_mem _ an) (λx an=>an) (λx an=>an) h1⟩
 ·refine ⟨n,cb,m', ?_,ai⟩;simp only[hW];rw[if_pos bs];exact .inr (.inl ⟨v,h,aM,h1⟩)
 ·refine ⟨n,cb,m', ?_,ai⟩;simp only[hW];rw[if_pos bs];exact .inr (.inr (.inl ⟨X,v,h,h1⟩))
 ·refine ⟨max fK n,cb,m', ?_,ai⟩;simp only[hW];rw[if_pos bs];exact .inr (.inr (.inr ⟨v,m1,h.mono (wV _ _ (Nat.le_max_left _ _)),aM.1,aM.2,up (Nat.le_max_right _ _) h1⟩))
def hQ.skip (bs:wanted ops fr o=ak) (h:hQ P ops B (i+1) l A K (set fr o.dst undef) m):hQ P ops B i (o::l) A K fr m:=by
 obtain ⟨n,cb,m',h1,ai⟩:=h;refine ⟨n,cb,m', ?_,ai⟩
 grind [hW]
def hQ.done (h:∀cb,cb=fr->K cb m):hQ P ops B i [] A K fr m:=⟨0,_,_,⟨rfl,rfl⟩,h _ rfl⟩
end
def au0 {P:bI} {ap:bS->af} {o:Oper} {aK:Type} {T:cM aK} {z:Nat->bW} {xs:List aK} {v:af} {x:bS} {t:bV} {i:TypeInfo} {cf az:Option bS} {a b:Int} {r:List aK} (h:o.op= .slice t x cf az ae) (aJ:P.underlying t=J (.slice T.tid)) (fm:P.info? T.tid=J i) (cN:i.size=T.bM) (an:ap x=v)
  (eW:y5 ap cf a) (eN:zK ap az xs.length b) (bf:fA T z xs v) (aV:gi xs a b=J r):
  ∃cc,(dD P ap o cc\/∀m,lk z m->fH P ap o m cc)/\fA T z r cc:=by
 obtain ⟨bR,h1,ai,rfl⟩:=Ws aV;obtain ⟨a',rfl⟩:=sD bR;obtain ⟨dJ,rfl⟩:=sD (Int.le_trans bR h1);have rN:a'<=dJ:=by omega
 have nx:dJ<=xs.length:=by omega
 simp only[sG];have Vh:=K4 eW;have Va:=KM eN;have hlen:((xs.take dJ).drop a').length=dJ - a':=by grind
 rcases bf with ⟨rfl,rfl⟩|⟨yz,off,c,rfl,JP,kJ,mb⟩
 ·have qP:dJ=0:=by grind
  subst qP;have anl:a'=0:=by omega
  subst anl;exact ⟨.slice ae 0 0, .inl (.nc t x cf az T.tid i h aJ fm an Vh Va), .inl ⟨rfl,by rfl⟩⟩
 ·have aaF:∀o',o'=off+a'*T.bM->∀(k:Nat) (w:aK),((xs.take dJ).drop a')[k]? =J w->∃cs,T.rd z w cs/\o2 z yz (o'+k*T.bM) cs:=by
   intro o' mc k w hk;obtain ⟨cs,g1,g2⟩:=mb _ w (WU hk)
   grind
  rcases kJ with ⟨rfl,L,dE,yS⟩|⟨ay,hle⟩
  ·refine ⟨_, .inr λm bx=>(.slice t x cf az T.tid i L yz off xs.length a' dJ h aJ fm an ?_ Vh Va rN nx (by grind)), ?_⟩
   ·rw[(bx.iD JP).1];grind
   ·refine .inr ⟨yz,off+a'*T.bM,dc,by grind,JP, .inl ⟨rfl,L,dE, ?_⟩,aaF _ rfl⟩;rw[hlen,sK,<-ko];have:(a'+(dJ - a'))*T.bM<=xs.length*T.bM:=oH _ (by omega);omega
  ·refine ⟨_, .inl (.slice t x cf az T.tid i yz off xs.length c a' dJ h aJ fm an (by grind) Vh Va rN (by omega) (λ_=>trivial)), ?_⟩;by_cases pv:c=a'
   ·have axy:dJ - a'=0:=by omega
    refine .inr ⟨yz,off,c - a',by grind,JP, .inr ⟨by omega,by grind⟩,λk w hk=> ?_⟩
    grind
   ·refine .inr ⟨yz,off+a'*T.bM,c - a',by grind,JP, .inr ⟨by omega,by grind⟩,aaF _ rfl⟩
section
variable {aK:Type} {T:cM aK} {z z':Nat->bW} {e m m':Mem} {k q:Option Nat} {xs:List aK} {v:af} {b:Nat} {cs:List af} {t:bV}
variable {P:bI} {ap:bS->af} {o:Oper} {w:af} {b4:List aK} {x y:bS} {u:bV} {i:TypeInfo} {K:af->Mem->Prop} {D:Tag->af->Mem->Prop}
def K3 (h:o.op= .call {callee:= .builtin .append,args:=#[x,y],argTypes:=#[t,u]}) (aJ:P.underlying t=J (.slice T.tid)) (az:P.info? T.tid=J i) {c0:af} (hL:i.zero=J c0) (dw:c0.cells.toList.all dy=aa) (et:c0.cells.size=i.size)
  (cN:i.size=T.bM) (hh:(T.bM==0)=ak) (hp:iJ i.bytes 32768=aa) (hu:(∃cz,P.underlying u=J (.slice cz))\/P.underlying u=J .string) (an:ap x=v) (bf:dU T z e m k xs v) (aZ:ap y=w) (mW:Src T z m b4 w)
  (aS:dL z e m k) {r:List aK} (aV:cD xs b4=J r)
  (hk:∀cc m',dL z e m' k->dU T z e m' k r cc->gl m m' (da v)->(∀p,(∀b,p=J b->b<m.next)->e6 p (da v)->e6 p (da cc))->D .fX cc m'):cH P ap o m D:=by
 obtain ⟨cc,m',h1,ai,aT,br,cK⟩:=as0 (C:=jn P 0) h aJ az hL dw et cN (by grind) (pk hp) hu an bf aZ mW aS aV
 grind [cH.fX]
def ae7 {x0:aK} {cL c9:aG} {n:Int} (h:o.op= .makeSlice t x y) (aJ:P.underlying t=J (.slice T.tid)) (az:P.info? T.tid=J i) {c0:af} (hL:i.zero=J c0) (dw:c0.cells.toList.all dy=aa) (et:c0.cells.size=i.size) (cN:i.size=T.bM) (hp:iJ i.bytes 32768=aa)
  (e0:T.rd z x0 c0.cells.toList) (an:ap x= .int cL n) (aZ:ap y= .int c9 n) (aS:dL z e m k) {r:List aK} (aV:hy x0 n=J r)
  (hk:∀cc m',dL z e m' k->dU T z e m' k r cc->gl m m' ae->(∀p,(∀b,p=J b->b<m.next)->e6 p (da cc))->D .new cc m'):cH P ap o m D:=by
 obtain ⟨cc,m',L,eu,h1,rfl,ai,aT,br,cK⟩:=avc h aJ az hL dw et cN (pk hp) e0 an aZ aS aV
 grind [cH.new]
def Xn {cQ:Array (Nat×bS)} {l:Nat} (h:o.op= .buildSlice t l cQ) (aJ:P.underlying t=J (.slice T.tid)) (az:P.info? T.tid=J i) {c0:af} (hL:i.zero=J c0) (dw:c0.cells.toList.all dy=aa) (et:c0.cells.size=i.size) (cN:i.size=T.bM)
  (dK:List aK) (jS:List (List af)) (aR:dK.length=l) (uO:iJ (l*T.bM) 16777216=aa) (uW:mn l 9223372036854775808=aa) (aw:wZ T z ap cQ.toList 0 dK jS) (aS:dL z e m k)
  (hk:∀cc m',dL z e m' k->dU T z e m' k dK cc->gl m m' ae->(∀p,(∀b,p=J b->b<m.next)->e6 p (da cc))->D .new cc m'):cH P ap o m D:=by
 obtain ⟨cc,m',L,eu,h1,rfl,ai,aT,br,cK⟩:=atv h aJ az hL dw et cN aR (pk uO) (by simp_all) aw aS
 grind [cH.new]
def atB {s:List UInt8} {tid:bV} (h:o.op= .convert u t x) (hu:P.underlying u=J .string) (aJ:P.underlying t=J (.slice tid)) (he:P.underlying tid=J (.int .u8)) (az:P.info? tid=J i) (kL:i.size=1) (an:ap x=str s) {jx:List UInt8} (aR:cD s []=J jx) (aS:dL z e m k)
  (hk:∀cc m',dL z e m' k->dU (kE tid) z e m' k jx cc->gl m m' ae->(∀p,(∀b,p=J b->b<m.next)->e6 p (da cc))->D .new cc m'):cH P ap o m D:=by
 obtain ⟨nD,rfl⟩:=tv aR;rw[List.append_nil] at hk;obtain ⟨cc,m',L,eu,h1,rfl,ai,aT,br,cK⟩:=atw h hu aJ he az kL an (by grind [uf]) aS
 grind [cH.new]
def abd {off:Nat} {new:List af} {hE:bV} (h:o.op= .store t x y) (az:P.info? t=J i) (an:ap x= .pointer (J ⟨b,off,ae⟩)) (aZ:ap y=w) (aD:storable w=aa) (bB:w.cells.toList=new) (bf:new.length=i.size) (aw:jQ z e m k b cs hE) (aR:iJ (off+new.length) cs.length=aa) (cs':List af) (jI:eY cs off new=cs') (aS:dL z e m k)
  (hk:∀m',dL z e m' k->jQ z e m' k b cs' hE->gl m m' (J b)->D .fX undef m'):cH P ap o m D:=by
 obtain ⟨m',h1,ai,aT,br⟩:=amS (C:=jn P 0) h az an aZ aD bB bf aw (pk aR) jI aS
 grind [cH.fX]
def J8 {off f0 n f l c:Nat} {new sV AZ:List af} {a a':aK} (h:o.op= .store t x y) (az:P.info? t=J i) (an:ap x= .pointer (J ⟨b,off,ae⟩)) (rV:off=f0+n*T.bM+f) (aZ:ap y=w) (aD:storable w=aa) (bB:w.cells.toList=new) (bf:new.length=i.size)
  (aM:dU T z e m k xs v) (qU:v= .slice (J ⟨b,f0,ae⟩) l c) (bl:xs[n]? =J a) (aV:T.rd z a sV) (ay:∀(i:Nat) (u:af),sV[i]? =J u->m.load b (f0+n*T.bM+i)=J u) (nG:T.rd z a' AZ) (jI:AZ=eY sV f new) (bF:iJ (f+new.length) sV.length=aa) (aS:dL z e m k)
  (hk:∀m',dL z e m' k->dU T z e m' k (xs.set n a') v->gl m m' (da v)->D .fX undef m'):cH P ap o m D:=by
 obtain ⟨m',h1,ai,aT,br⟩:=amU (C:=jn P 0) h az an rV aZ aD bB bf aM qU bl aV ay nG jI (pk bF) aS
 grind [cH.fX]
def avh {cL:aG} {n:Int} {a:aK} {hE:bV} (h:o.op= .indexAddr t x y) (aJ:P.underlying t=J (.slice hE)) (az:P.info? hE=J i) (cN:i.size=T.bM) (an:ap x=v) (aZ:ap y= .int cL n) (bf:fA T z xs v) (bs:al xs n=J a)
  (hk:∀b off cs,T.rd z a cs->o2 z b off cs->D .pure (.pointer (J ⟨b,off,ae⟩)) m):cH P ap o m D:=by
 obtain ⟨b,off,cs,h1,ai,aT⟩:=avb h aJ az cN an aZ bf bs
 grind [cH.pure]
def ae6 {cL:aG} {n:Int} {a:aK} {hE:bV} (h:o.op= .indexAddr t x y) (aJ:P.underlying t=J (.slice hE)) (az:P.info? hE=J i) (cN:i.size=T.bM) (an:ap x=v) (aZ:ap y= .int cL n) (bf:dU T z e m k xs v) (bs:al xs n=J a)
  (hk:∀b f0 l c cs,v= .slice (J ⟨b,f0,ae⟩) l c->T.rd z a cs->xs[n.toNat]? =J a->(∀(j:Nat) (u:af),cs[j]? =J u->m.load b (f0+n.toNat*T.bM+j)=J u)->D .pure (.pointer (J ⟨b,f0+n.toNat*T.bM,ae⟩)) m):cH P ap o m D:=by
 obtain ⟨b,f0,l,c,cs,h1,ai,aT,br⟩:=ava h aJ az cN an aZ bf bs;exact cH.pure h1 (hk _ _ _ _ _ ai aT (o3 bs).2.2 br)
def apg {cf az:Option bS} {a b:Int} {r:List aK} (h:o.op= .slice t x cf az ae) (aJ:P.underlying t=J (.slice T.tid)) (fm:P.info? T.tid=J i) (cN:i.size=T.bM) (an:ap x=v)
  (eW:y5 ap cf a) (eN:zK ap az xs.length b) (bf:fA T z xs v) (aS:dL z e m k) (aV:gi xs a b=J r) (hk:∀cc I,(∀m,lk z m->I m)->fA T z r cc->D (.read I) cc m):cH P ap o m D:=by
 obtain ⟨cc,h1,ai⟩:=au0 h aJ fm cN an eW eN bf aV;rcases h1 with h1|h1
 ·exact cH.abT (I:=λ_=>True) h1 (hk _ _ (λ_ _=>trivial) ai)
 ·exact cH.read (h1 m aS.bZ) (hk _ _ h1 ai)
def avf {s r:List UInt8} {cf az:Option bS} {a b:Int} (h:o.op= .slice t x cf az ae) (aJ:P.underlying t=J .string) (an:ap x=str s) (eW:y5 ap cf a) (eN:zK ap az s.length b) (aV:gi s a b=J r) (hk:D .pure (str r) m):cH P ap o m D:=by
 obtain ⟨bR,h1,ai,rfl⟩:=Ws aV;obtain ⟨a',rfl⟩:=sD bR;obtain ⟨dJ,rfl⟩:=sD (Int.le_trans bR h1);exact cH.pure (asH h aJ an (K4 eW) (KM eN) (by omega) (by omega)) hk
def as6 {s:List UInt8} {c:UInt8} {cL:aG} {n:Int} (h:o.op= .index t x y) (aJ:P.underlying t=J .string) (an:ap x=str s) (aZ:ap y= .int cL n) (bs:al s n=J c) (hk:D .pure (.int .u8 c.toNat) m):cH P ap o m D:=by
 obtain ⟨bR,h1,ai⟩:=o3 bs;exact cH.pure (asG h aJ an aZ bR ai) hk
def avj {s:List UInt8} {tid:bV} (h:o.op= .convert t u x) (aJ:P.underlying t=J (.slice tid)) (he:P.underlying tid=J (.int .u8)) (hu:P.underlying u=J .string) (an:ap x=v) (bf:fA (kE tid) z s v) (aS:dL z e m k) (hk:D (.read λm=>fH P ap o m (str s)) (str s) m):cH P ap o m D:=
 cH.read (afk h aJ he hu an (bf.src aS.bZ) (by obtain ⟨a,c,rfl⟩:=bf.len;grind)) hk
def avi {s:List UInt8} {tid:bV} (h:o.op= .convert t u x) (aJ:P.underlying t=J (.slice tid)) (he:P.underlying tid=J (.int .u8)) (hu:P.underlying u=J .string) (an:ap x=v) (bf:dU (kE tid) z e m k s v) (hk:D (.read λm=>fH P ap o m (str s)) (str s) m):cH P ap o m D:=
 cH.read (afk h aJ he hu an bf.bT.src (by obtain ⟨a,c,rfl⟩:=bf.bT.len;exact ⟨_,_,_,rfl⟩)) hk
def as5 {cQ:Array (Nat×bS)} {bY:Array Field} {pl:List (Option (Nat×Nat))} {c0:af} (vs:List (Nat×af)) (cs:List af) (h:o.op= .build t cQ) (aJ:P.underlying t=J (.struct bY)) (az:P.info? t=J i) (bx:i.zero=J c0) (dw:c0.cells.toList.all dy=aa)
  (Br:pC P bY=pl) (bb:pl.all Y2=aa) (rZ:cQ.toList.map (λp=>(p.1,ap p.2))=vs) (ay:k5 (λk=>(pl[k]?).join) c0.cells.toList vs=J cs) (hk:D .pure (.agg cs.toArray) m):cH P ap o m D:=by
 subst Br rZ;exact cH.pure (.build t cQ bY i c0 cs h aJ az bx dw (by grind) ay) hk
variable {ops l:List Oper} {fr:Nat->af} {pQ:(Nat->af)->Mem->Prop}
def ea.Ud {j d:Nat} {want nZ:Bool} (bs:o.guard=J (j,want)) (bg:(ops[j]?).bind (·.dst)=J d) (aD:fr d= .bool nZ) (aw:nZ=want) (h:cH P (bk fr) o m λ_ v m1=>ea P ops l pQ (set fr o.dst v) m1):ea P ops (o::l) pQ fr m:=
 ea.Ue (by subst aw;simp[wanted,bs,bg,aD]) h
def ea.P3 {j d:Nat} {want nZ:Bool} (bs:o.guard=J (j,want)) (bg:(ops[j]?).bind (·.dst)=J d) (aD:fr d= .bool nZ) (aw:nZ= !want) (h:ea P ops l pQ (set fr o.dst undef) m):ea P ops (o::l) pQ fr m:=
 ea.skip (by subst aw;simp[wanted,bs,bg,aD]) h
def ea.X6 {j d:Nat} {want:Bool} (bs:o.guard=J (j,want)) (bg:(ops[j]?).bind (·.dst)=J d) (aD:fr d=undef) (h:ea P ops l pQ (set fr o.dst undef) m):ea P ops (o::l) pQ fr m:=
 ea.skip (by simp[wanted,bs,bg,aD,undef]) h
def hQ.Ud {B:Array Nat} {n:Nat} {A:Acc} {j d:Nat} {want nZ:Bool} (bs:o.guard=J (j,want)) (bg:(ops[j]?).bind (·.dst)=J d) (aD:fr d= .bool nZ) (aw:nZ=want) (h:cH P (bk fr) o m λt v m1=>u7 B n A m t m1/\hQ P ops B (n+1) l (qL A n m t) pQ (set fr o.dst v) m1):hQ P ops B n (o::l) A pQ fr m:=
 hQ.cons (by subst aw;simp[wanted,bs,bg,aD]) h
def hQ.P3 {B:Array Nat} {n:Nat} {A:Acc} {j d:Nat} {want nZ:Bool} (bs:o.guard=J (j,want)) (bg:(ops[j]?).bind (·.dst)=J d) (aD:fr d= .bool nZ) (aw:nZ= !want) (h:hQ P ops B (n+1) l A pQ (set fr o.dst undef) m):hQ P ops B n (o::l) A pQ fr m:=
 hQ.skip (by subst aw;simp[wanted,bs,bg,aD]) h
def hQ.X6 {B:Array Nat} {n:Nat} {A:Acc} {j d:Nat} {want:Bool} (bs:o.guard=J (j,want)) (bg:(ops[j]?).bind (·.dst)=J d) (aD:fr d=undef) (h:hQ P ops B (n+1) l A pQ (set fr o.dst undef) m):hQ P ops B n (o::l) A pQ fr m:=
 hQ.skip (by simp[wanted,bs,bg,aD,undef]) h
end
end Go.aF
end
section
namespace Go.aF
def ab1 {d:TypeDesc} {k:af} (hk:TF d k):∀(l:List MapEntry) (i:Nat),(∀x∈l,TF d x.key)->Instr.findNow d k l i=J (o6 k l i)
 |[],i,_=>rfl
 |e::es,i,h=>by
  obtain ⟨r,aV,ax2⟩:=MapKept.sameNow_of_keys hk (h e (.head _));have a1:=ab1 hk es (i+1) (λx an=>h x (.tail _ an))
  grind [o6,Instr.findNow]
def ac4 {P:bI} {bG:bV} {d:TypeDesc} (bg:P.underlying bG=J d) {ho:af->Prop} (bs:∀v,ho v->TF d v):Keyed P bG ho where
 check:=λem v w h=>MapKept.run_checkKey bg (bs v h) em _
 find:=λv es w h bf=>MapKept.run_findKey bg (ab1 (bs v h) es 0 λx an=>bs _ (bf x an))
 stays:=λv w h=>MapKept.run_keyThatStays (bs v h)
structure ph (aK cg:Type) where
 eo:aK->List af
 vc:cg->List af
 tid:bV
structure nX (P:bI) (bG:bV) {aK:Type} (eo:aK->List af):Prop where
 len:∀a,(eo a).length=P.cellsOf bG
 pos:0<P.cellsOf bG
 flat:∀a,(eo a).all dy=aa
 A4:∀a,aF.flat (ey (ek P bG) (eo a))=aa
 inj:∀a b,ey (ek P bG) (eo a)=ey (ek P bG) (eo b)->a=b
 keyed:Keyed P bG λv=>∃a,v=ey (ek P bG) (eo a)
structure oK (P:bI) (bA:bV) {cg:Type} (vc:cg->List af):Prop where
 len:∀b,(vc b).length=P.cellsOf bA
 one:ek P bA=ak->P.cellsOf bA=1
 flat:∀b,(vc b).all dy=aa
def tl (k:aG) (n:Int):List af:=[.int k n]
def BD (s:List UInt8):List af:=[str s]
def Cr (b:Bool):List af:=[.bool b]
def si {P:bI} {t:bV} {d:TypeDesc} (h:P.underlying t=J d) (bg:lI d=ak):ek P t=ak:=by grind [ek]
def atC {P:bI} {bG:bV} {k:aG} {i:TypeInfo} (h:P.underlying bG=J (.int k)) (az:P.info? bG=J i) (bf:i.size=1):nX P bG (tl k) where
 len:=λa=>by grind [tl,nY]
 pos:=by grind [nY]
 flat:=λa=>rfl
 A4:=λa=>by rw[si h rfl];rfl
 inj:=λa b jV=>by rw[si h rfl] at jV;grind [ey,tl]
 keyed:=ac4 h (by rintro v ⟨a,rfl⟩;rw[si h rfl];rfl)
def ad7 {a b:List UInt8} (h:str a=str b):a=b:=by
 grind [str]
def atD {P:bI} {bG:bV} {i:TypeInfo} (h:P.underlying bG=J .string) (az:P.info? bG=J i) (bf:i.size=1):nX P bG BD where
 len:=λa=>by grind [BD,nY]
 pos:=by grind [nY]
 flat:=λa=>rfl
 A4:=λa=>by rw[si h rfl];rfl
 inj:=λa b jV=>by rw[si h rfl] at jV;exact ad7 jV
 keyed:=ac4 h (by rintro v ⟨a,rfl⟩;rw[si h rfl];simp[ey,BD,str,TF])
def atU {P:bI} {bA:bV} {k:aG} {i:TypeInfo} (h:P.underlying bA=J (.int k)) (az:P.info? bA=J i) (bf:i.size=1):oK P bA (tl k):=
 ⟨λa=>by grind [tl,nY],λ_=>by grind [nY],λ_=>rfl⟩
def asQ {P:bI} {bA:bV} {i:TypeInfo} (h:P.underlying bA=J .bool) (az:P.info? bA=J i) (bf:i.size=1):oK P bA Cr:=
 ⟨λa=>by grind [Cr,nY],λ_=>by grind [nY],λ_=>rfl⟩
section
variable {aK cg:Type}
def jv [DecidableEq aK]:List (aK×cg)->aK->Option cg|[],_=>ae|p::es,a=>if p.1=a then J p.2 else jv es a
def o8 [DecidableEq aK]:List (aK×cg)->aK->cg->List (aK×cg)|[],a,b=>[(a,b)]|p::es,a,b=>if p.1=a then (p.1,b)::es else p::o8 es a b
def ph.p4 (M:ph aK cg) (es:List (aK×cg)):List (List af×List af):=es.map λp=>(M.eo p.1,M.vc p.2)
def ph.cells (M:ph aK cg) (es:List (aK×cg)):List af:=(M.p4 es).flatMap λp=>p.1++p.2
structure jD (M:ph aK cg) (z:Nat->bW) (e m:Mem) (k:Option Nat) (es:List (aK×cg)) (v:af):Prop where
 bT:∃r,v= .map (J r)/\m.blk r= .map (M.cells es) M.tid/\r<m.next/\z r= .dead/\e.next<=r
def nn (M:ph aK cg) (z:Nat->bW) (es:List (aK×cg)) (v:af):Prop:=(v= .map ae/\es=[])\/∃r,v= .map (J r)/\z r= .map (M.cells es) M.tid
def tH:af->Option Nat| .map r=>r|_=>ae
variable {M:ph aK cg} {z z':Nat->bW} {e m m':Mem} {k q:Option Nat} {es:List (aK×cg)} {v:af}
def jD.lt (h:jD M z e m k es v):∀b,tH v=J b->b<m.next:=by
 obtain ⟨r,rfl,h1,ai,aT,br⟩:=h.bT;intro b aw;cases aw;grind
def jD.same (h:jD M z e m k es v) (s:gl m m' q) (fD:e6 (tH v) q):jD M z e m' k es v:=by
 obtain ⟨r,rfl,h1,ai,aT,br⟩:=h.bT;exact ⟨r,rfl,by rw[s.blk r ai (fD r rfl)];grind,hS ai s.next,aT,br⟩
def jD.jP (h:jD M z e m k es v) (bx:fl z z') (aw:∀b,tH v=J b->z' b=z b):jD M z' e m k es v:=by
 obtain ⟨r,rfl,h1,ai,aT,br⟩:=h.bT;exact ⟨r,rfl,h1,ai,by rw[aw r rfl];grind,br⟩
def jD.bm (h:jD M z e m k es v):∀c,tH v=J c->z c= .dead/\(e.next<=c\/k=J c):=by
 obtain ⟨r,rfl,h1,ai,aT,br⟩:=h.bT;intro c ay;cases ay;grind
def jD.freeze (h:jD M z e m k es v) (aS:dL z e m k):∃z',dT e.next z z'/\dL z' e m k/\nn M z' es v/\∀p,e6 p (tH v)->∀b,p=J b->z' b=z b:=by
 obtain ⟨r,rfl,h1,ai,aT,br⟩:=h.bT;refine ⟨jT z m (J r),⟨Cj λb aw=>by grind,λb aw=> ?_⟩,⟨Lj aS.bZ (λb aw=>by cases aw;exact ⟨ai,by rw[h1];rfl⟩),aS.dead,aS.oL,aS.next,aS.kept⟩, .inr ⟨r,rfl,by grind [jT]⟩,λp bb b aw=> ?_⟩
 ·grind [jT]
 ·have:=bb b aw;unfold jT;rw[if_neg (show ¬J r=J b from this)]
def nn.mono (h:nn M z es v) (bx:fl z z'):nn M z' es v:=by
 rcases h with h|⟨r,rfl,h1⟩
 ·exact .inl h
 ·exact .inr ⟨r,rfl,by rw[bx r (by rw[h1];exact fs)];grind⟩
def adI {P:bI} {bG bA:bV} (K:nX P bG M.eo) (V:oK P bA M.vc) (es:List (aK×cg)):qG (P.cellsOf bG) (P.cellsOf bA) (M.cells es) (M.p4 es):=by
 refine ⟨rfl,λp bb=> ?_⟩;obtain ⟨x,an,rfl⟩:=l2.1 bb;exact ⟨K.len _,V.len _⟩
def adB [DecidableEq aK] {P:bI} {bG bA:bV} (K:nX P bG M.eo) (a:aK) (z0:cg):∀es:List (aK×cg),uh (ek P bG) (ek P bA) (ey (ek P bG) (M.eo a)) (ey (ek P bA) (M.vc z0)) (M.p4 es) (ey (ek P bA) (M.vc ((jv es a).getD z0))) (jv es a).isSome
 |[]=> .qZ
 |p::es=>by
  simp only[jv];by_cases h:p.1=a
  ·rw[if_pos h];exact .rS (M.eo p.1,M.vc p.2) (M.p4 es) (by grind)
  ·rw[if_neg h];exact .next (M.eo p.1,M.vc p.2) (M.p4 es) _ _ (λcp=>h (K.inj _ _ cp)) (adB K a z0 es)
def aeg [DecidableEq aK] {P:bI} {bG:bV} (K:nX P bG M.eo) (a:aK) (b:cg):∀es:List (aK×cg),uA (ek P bG) (M.eo a) (M.vc b) (M.p4 es) (M.p4 (o8 es a b))
 |[]=> .qZ
 |p::es=>by
  simp only[o8];by_cases h:p.1=a
  ·rw[if_pos h];exact .rS (M.eo p.1,M.vc p.2) (M.p4 es) (by grind)
  ·rw[if_neg h];exact .next (M.eo p.1,M.vc p.2) (M.p4 es) _ (λcp=>h (K.inj _ _ cp)) (aeg K a b es)
def acV {P:bI} {bG:bV} (es:List (aK×cg)):∀p∈M.p4 es,∃a,ey (ek P bG) p.1=ey (ek P bG) (M.eo a):=by
 intro p bb;obtain ⟨x,an,rfl⟩:=l2.1 bb
 grind
def V6 {P:bI} {bA:bV} {vc:cg->List af} (V:oK P bA vc) (b:cg):kz (ey (ek P bA) (vc b))=aa:=by
 have h1:=V.flat b;have ai:=V.len b;cases bl:ek P bA with
 |true=>grind [ey,kz]
 |false=>
  rw[V.one bl] at ai
  match aD:vc b,ai with
  |[c],_=>rw[aD] at h1;simp at h1;simp only[ey,List.headD_cons];cases c<;>first|exact h1|grind [dy]|(simp[dy] at h1;simp[h1])
variable {P:bI} {ap:bS->af} {o:Oper} {D:Tag->af->Mem->Prop} {x dx:bS} {hZ bG bA:bV} {i:TypeInfo} {a:aK} {z0:cg} {ez ss:af} {ok:Bool}
theorem aex [DecidableEq aK] {r:Nat} (h:o.op= .lookup hZ x dx ok) (jk:P.underlying hZ=J (.map bG bA)) (hu:P.underlying M.tid=J (.map bG bA)) (K:nX P bG M.eo) (V:oK P bA M.vc) (az:P.info? bA=J i) (bx:i.zero=J (ey (ek P bA) (M.vc z0)))
  (an:ap x= .map (J r)) (hm:m.blk r= .map (M.cells es) M.tid) (nz:ap dx=ey (ek P bG) (M.eo a)):
  fH P ap o m (if ok then .tuple #[ey (ek P bA) (M.vc ((jv es a).getD z0)), .bool (jv es a).isSome] else ey (ek P bA) (M.vc ((jv es a).getD z0))):=
 .lookup hZ x dx ok M.tid bG bA r _ _ i _ _ _ _ h jk hu (.inl ⟨an,hm,adI K V es⟩) K.pos V.one K.keyed (by rw[nz];exact K.A4 a) ⟨a,nz⟩ (acV es) az bx (V6 V z0) (by rw[nz];exact adB K a z0 es)
def aty [DecidableEq aK] (h:o.op= .lookup hZ x dx ok) (jk:P.underlying hZ=J (.map bG bA)) (hu:P.underlying M.tid=J (.map bG bA)) (K:nX P bG M.eo) (V:oK P bA M.vc) (az:P.info? bA=J i) (bx:i.zero=J (ey (ek P bA) (M.vc z0)))
  (an:ap x=v) (aM:jD M z e m k es v) (nz:ap dx=ss) (qb:ss=ey (ek P bG) (M.eo a)) {y:Option cg} (aZ:jv es a=y)
  (hw:(if ok then .tuple #[ey (ek P bA) (M.vc (y.getD z0)), .bool y.isSome] else ey (ek P bA) (M.vc (y.getD z0)))=ez):fH P ap o m ez:=by
 obtain ⟨r,rfl,h1,_⟩:=aM.bT
 grind [aex]
def aeB [DecidableEq aK] (h:o.op= .lookup hZ x dx ok) (jk:P.underlying hZ=J (.map bG bA)) (hu:P.underlying M.tid=J (.map bG bA)) (K:nX P bG M.eo) (V:oK P bA M.vc) (az:P.info? bA=J i) (bx:i.zero=J (ey (ek P bA) (M.vc z0)))
  (an:ap x=v) (aM:jD M z e m k es v) (nz:ap dx=ss) (qb:ss=ey (ek P bG) (M.eo a)) {y:Option cg} (aZ:jv es a=y)
  (hw:(if ok then .tuple #[ey (ek P bA) (M.vc (y.getD z0)), .bool y.isSome] else ey (ek P bA) (M.vc (y.getD z0)))=ez) (hk:D (.read λm=>fH P ap o m ez) ez m):cH P ap o m D:=
 cH.read (aty h jk hu K V az bx an aM nz qb aZ hw) hk
def atz [DecidableEq aK] (h:o.op= .lookup hZ x dx ok) (jk:P.underlying hZ=J (.map bG bA)) (hu:P.underlying M.tid=J (.map bG bA)) (K:nX P bG M.eo) (V:oK P bA M.vc) (az:P.info? bA=J i) (bx:i.zero=J (ey (ek P bA) (M.vc z0)))
  (an:ap x=v) (aM:nn M z es v) (bZ:lk z m) (nz:ap dx=ss) (qb:ss=ey (ek P bG) (M.eo a)) {y:Option cg} (aZ:jv es a=y)
  (hw:(if ok then .tuple #[ey (ek P bA) (M.vc (y.getD z0)), .bool y.isSome] else ey (ek P bA) (M.vc (y.getD z0)))=ez):fH P ap o m ez:=by
 subst hw aZ;rcases aM with ⟨rfl,rfl⟩|⟨r,rfl,h1⟩
 ·exact .lookup hZ x dx ok M.tid bG bA 0 [] [] i _ _ _ _ h jk hu (.inr ⟨an,rfl⟩) K.pos V.one K.keyed (by rw[nz,qb];exact K.A4 a) ⟨a,nz.trans qb⟩ (λp bb=>by grind) az bx (V6 V z0) .qZ
 ·exact aex h jk hu K V az bx an (by rw[(bZ.iD (show (_:bW).iD by rw[h1];exact fs)).1];grind) (nz.trans qb)
def aeC [DecidableEq aK] (h:o.op= .lookup hZ x dx ok) (jk:P.underlying hZ=J (.map bG bA)) (hu:P.underlying M.tid=J (.map bG bA)) (K:nX P bG M.eo) (V:oK P bA M.vc) (az:P.info? bA=J i) (bx:i.zero=J (ey (ek P bA) (M.vc z0)))
  (an:ap x=v) (aM:nn M z es v) (aS:dL z e m k) (nz:ap dx=ss) (qb:ss=ey (ek P bG) (M.eo a)) {y:Option cg} (aZ:jv es a=y)
  (hw:(if ok then .tuple #[ey (ek P bA) (M.vc (y.getD z0)), .bool y.isSome] else ey (ek P bA) (M.vc (y.getD z0)))=ez) (hk:D (.read λm=>fH P ap o m ez) ez m):cH P ap o m D:=
 cH.read (atz h jk hu K V az bx an aM aS.bZ nz qb aZ hw) hk
def ar1 {t:bV} (M:ph aK cg) (h:o.op= .makeMap t ae) (aJ:P.underlying t=J (.map bG bA)) (aN:M.tid=t) (aS:dL z e m k)
  (hk:∀cc m',dL z e m' k->jD M z e m' k [] cc->gl m m' ae->(∀p,(∀b,p=J b->b<m.next)->e6 p (tH cc))->D .new cc m'):cH P ap o m D:=by
 have apa:z m.next= .dead:=by
  cases bx:z m.next with
  |dead=>rfl
  |ro rd=>have:=(aS.bZ m.next (by grind)).2;omega
  |own L t=>have:=(aS.bZ m.next (by grind)).2;omega
  |map L t=>have:=(aS.bZ m.next (by grind)).2;omega
  |lock _ _ _ _=>have:=(aS.bZ m.next (by grind)).2;omega
 refine cH.new (.makeMap t bG bA h aJ) (hk _ _ (aS.push _) ⟨m.next,rfl,by grind [Mem.push,ph.cells,ph.p4],by simp[Mem.push],apa,aS.next⟩ (BN aS.dead) λp bb b aw Bf=> ?_);cases Bf
 grind
def as7 [DecidableEq aK] {jW j3:bS} {b:cg} {zU:af} (h:o.op= .mapUpdate hZ x jW j3\/o.op= .insert hZ x jW j3) (jk:P.underlying hZ=J (.map bG bA)) (hu:P.underlying M.tid=J (.map bG bA)) (K:nX P bG M.eo) (V:oK P bA M.vc)
  (an:ap x=v) (aM:jD M z e m k es v) (n3:ap jW=ss) (qb:ss=ey (ek P bG) (M.eo a)) (ao2:ap j3=zU) (ao6:zU=ey (ek P bA) (M.vc b)) (aS:dL z e m k) {v7:List (aK×cg)} (rR:o8 es a b=v7)
  (hk:∀m',dL z e m' k->jD M z e m' k v7 v->gl m m' (tH v)->D .fX undef m'):cH P ap o m D:=by
 obtain ⟨r,rfl,h1,ai,aT,br⟩:=aM.bT;subst rR;have oa:=zm (x:= .map (M.cells (o8 es a b)) M.tid) aS.dead ai;have yO:=V6 V b;have VC:=ao2.trans ao6;have fb:storable (ap j3)=aa:=by rw[VC];cases ay:ey (ek P bA) (M.vc b)<;>first|rfl|grind [kz,dy]|grind [kz,dy,storable]
 have Bh:∀c∈M.vc b,c∈(ap j3).cells.toList:=by
  intro c ay;rw[VC];cases bl:ek P bA with
  |true=>grind [ey,yu]
  |false=>
   have ai:=V.len b;rw[V.one bl] at ai
   match aD:M.vc b,ai with
   |[d],_=>rw[aD] at ay;simp at ay;subst ay;simp only[ey,List.headD_cons];have bF:=V.flat b;rw[aD] at bF;simp at bF;cases c<;>first|(simp[dy] at bF;done)|simp[yu]
 refine cH.fX (n:=0) (.mapUpdate hZ x jW j3 M.tid bG bA r _ (M.eo a) (M.vc b) _ (M.p4 (o8 es a b)) _ h jk hu an h1 (adI K V es) K.pos K.keyed (n3.trans qb) (K.len a) (K.flat a) (by rw[n3,qb];exact K.A4 a) ⟨a,n3.trans qb⟩ (acV es) fb VC (V.len b) Bh (aeg K a b es)) (hk _ (aS.same oa aM.bm) ⟨r,rfl,by simp[Mem.put,ph.cells],ai,aT,br⟩ oa)
end
end Go.aF
end
section
namespace Go.aF
section
variable {P:bI} {ap:bS->af} {o:Oper} {x y:bS} {t u:bV} {k afE:aG} {a:Int}
noncomputable instance azh:DecidableEq af:=λ_ _=>Classical.propDecidable _
def I0 (P:bI) (t:bV) (x y:af):Prop:=(∃k k' a b,P.underlying t=J (.int k')/\x= .int k a/\y= .int k b)\/(∃a b,P.underlying t=J .bool/\x= .bool a/\y= .bool b)\/(∃a b,P.underlying t=J .string/\x=str a/\y=str b)
def sN (P:bI):List Field->Nat->List af->List af->Prop|[],_,[],[]=>True| f :: bY, i, x :: xs, y :: b4 => f.offset = i ∧ f.name ≠ "_" ∧ I0 P f.type x y ∧ sN P bY (i + 1) xs b4|_,_,_,_=>False
def arv {t:bV} {x y:af} (h:I0 P t x y) (d:Nat) (w:World):(Op.equalIn (d+1) t x y).run P w= .ok (decide (x=y)) w:=by
 rcases h with ⟨k,k',a,b,h,rfl,rfl⟩|⟨a,b,h,rfl,rfl⟩|⟨a,b,h,rfl,rfl⟩
 ·rw[run_equalIn_int w d t k k' a b h];congr 1
  grind
 ·rw[run_equalIn_bool' w d t a b h];congr 1
  grind
 ·rw[str,str,run_equalIn_string w d t _ _ h];congr 1
  grind [ByteArray.toList_eq]
def aqm {t:bV} {x y:af} (h:I0 P t x y):ek P t=ak:=by
 rcases h with ⟨k,k',a,b,h,_⟩|⟨a,b,h,_⟩|⟨a,b,h,_⟩<;>simp[ek,h,lI]
def adq {t:bV} {cs:Array af} {i:Nat} {v:af} (bl:ek P t=ak) {d:TypeDesc} (bg:P.underlying t=J d) (aD:cs[i]? =J v) (w:World):(part t cs i).run P w= .ok v w:=by
 simp_all [ek,part,sb]
def arw {t:bV} {x y:af} (h:I0 P t x y):∃d,P.underlying t=J d:=by
 rcases h with ⟨k,k',a,b,h,_⟩|⟨a,b,h,_⟩|⟨a,b,h,_⟩<;>exact ⟨_,h⟩
def acn {pre pre':List af} (d:Nat) (w:World):∀{bY:List Field} {i:Nat} {xs b4:List af},sN P bY i xs b4->pre.length=i->pre'.length=i->(Op.eqFields (d+1) (pre++xs).toArray (pre'++b4).toArray bY).run P w= .ok (decide (xs=b4)) w
 |[],i,[],[],_,_,_=>by rfl
 |f::bY,i,x::xs,y::b4,⟨h1,ai,aT,br⟩,bb,wv=>by
  obtain ⟨Ug,bg⟩:=arw aT;have bl:=aqm aT;have g1:=adq (P:=P) (cs:=(pre++x::xs).toArray) (i:=f.offset) (v:=x) bl bg (by grind) w;have g2:=adq (P:=P) (cs:=(pre'++y::b4).toArray) (i:=f.offset) (v:=y) bl bg (by grind) w;have a1:=acn (pre:=pre++[x]) (pre':=pre'++[y]) d w br (by grind) (by grind);simp only[List.append_assoc,List.singleton_append] at a1;simp only[Op.eqFields];rw[if_pos ai];simp only[kD,g1,g2,jE,arv aT d w];by_cases y2:x=y
  ·simp_all
  simp_all
 |[],_,_::_,_,h,_,_=>h.elim
 |[],_,[],_::_,h,_,_=>h.elim
 |_::_,_,[],_,h,_,_=>h.elim
 |_::_,_,_::_,[],h,_,_=>h.elim
def asM {bY:Array Field} {xs b4:List af} (aJ:P.underlying t=J (.struct bY)) (bb:P.stoodInHeld t=ak) (h:sN P bY.toList 0 xs b4) (w:World):(Op.equalIn 10000 t (.agg xs.toArray) (.agg b4.toArray)).run P w= .ok (decide (xs=b4)) w:=by
 have bF:P.fieldsOf t=bY:=by grind [bI.fieldsOf]
 rw[show (10000:Nat)=9998+1+1 from rfl,run_equalIn_struct w _ t _ _ (by grind) bb,bF];have:=acn (P:=P) (pre:=[]) (pre':=[]) 9998 w h rfl rfl
 grind
theorem sN.flat:∀{bY:List Field} {i:Nat} {xs b4:List af},sN P bY i xs b4->xs.all dy=aa/\b4.all dy=aa
 |[],i,[],[],_=>⟨rfl,rfl⟩
 |f::bY,i,x::xs,y::b4,⟨_,_,aT,br⟩=>by
  obtain ⟨g1,g2⟩:=sN.flat br;have:dy x=aa/\dy y=aa:=by rcases aT with ⟨k,k',a,b,h,rfl,rfl⟩|⟨a,b,h,rfl,rfl⟩|⟨a,b,h,rfl,rfl⟩<;>exact ⟨rfl,rfl⟩
  grind
 |[],_,_::_,_,h=>h.elim
 |[],_,[],_::_,h=>h.elim
 |_::_,_,[],_,h=>h.elim
 |_::_,_,_::_,[],h=>h.elim
def abN {bY:Array Field} {xs b4:List af} {r:Bool} (neq:Bool) (h:o.op= .binOp (if neq then .neq else .eql) t x y u) (aJ:P.underlying t=J (.struct bY)) (bb:P.stoodInHeld t=ak) (bs:P.eqGuardType P.depth t=ak) (bf:sN P bY.toList 0 xs b4)
  (an:ap x= .agg xs.toArray) (aZ:ap y= .agg b4.toArray) (aV:r=aa↔xs=b4):dD P ap o (.bool (if neq then !r else r)):=by
 have yO:=bf.flat;refine tF (x:=x) (y:=y) (by rw[h];rfl) (by grind) (by grind [flat,kz]) (by grind [flat,kz]) rfl λw=> ?_;have he:=asM aJ bb bf w;have e0:decide (xs=b4)=r:=by
  grind
 rw[e0] at he;cases neq with
 |false=>simp_all [execOp,run_eqGuard_agg,run_eql_struct]
 |true=>simp_all [execOp,run_eqGuard_agg,run_neq_struct]
end
section
variable {aK:Type} {T:cM aK} {z:Nat->bW} {e m:Mem} {k:Option Nat} {xs:List aK} {v:af} {t:bV}
variable {P:bI} {ap:bS->af} {o:Oper} {x:bS} {i:TypeInfo} {D:Tag->af->Mem->Prop}
end
@[reducible] def azf (n:Int):af:= .int .i64 n
@[reducible] def aze (b:Bool):af:= .bool b
@[reducible] def azg (b:Nat):af:= .pointer (J ⟨b,0,ae⟩)
section
variable {P:bI} {ops l:List Oper} {K:(Nat->af)->Mem->Prop} {fr:Nat->af} {m:Mem} {o:Oper} {v:af}
def avI (bs:wanted ops fr o=aa) (h:dD P (bk fr) o v) (hk:ea P ops l K (set fr o.dst v) m):ea P ops (o::l) K fr m:=ea.Ue bs (cH.pure h hk)
def jW {j d:Nat} {want nZ:Bool} (bs:o.guard=J (j,want)) (bg:(ops[j]?).bind (·.dst)=J d) (aD:fr d= .bool nZ) (aw:nZ= !want) (h:ea P ops l K (set fr o.dst undef) m):ea P ops (o::l) K fr m:=ea.P3 bs bg aD aw h
end
structure aw3 {aK:Type} (T:cM aK) (z:Nat->bW) (e m:Mem) (k:Option Nat) (xs:List aK) (v:af):Prop where
 bT:fO T z m xs v
 fresh:∀b,da v=J b->e.next<=b\/k=J b
section
variable {aK:Type} {T:cM aK} {z z':Nat->bW} {e m m':Mem} {k q:Option Nat} {xs:List aK} {v v0:af} {t:bV}
variable {P:bI} {ap:bS->af} {o:Oper} {w:af} {b4:List aK} {x y:bS} {u:bV} {i:TypeInfo} {K:af->Mem->Prop} {D:Tag->af->Mem->Prop}
end
end Go.aF
end
section
namespace Go.aF
theorem acB (w:World):∀b,(ig w).next<=b->(ig w).blk b= .dead:=(ad8 w).dead
def as' (w:World):lk (ig w).blk (ig w):=λb aw=>⟨by
 grind [ig,bW.mem],by
 grind [acB]⟩
def Wn {w:World} {b:Nat} (h:b<w.heap.size):((ig w).blk b).iD:=by
 grind [ig,bW.iD]
def apo {w:World} {b o:Nat} {v:af} (h:(ig w).load b o=J v):nH (ig w).blk b o=J v:=by
 grind [Mem.load,nH]
open Classical in
noncomputable def seen (w:World) (b:Nat) (c:af):af:=if eA (h5 w) c c then c else (xt b c).getD c
theorem wT {w:World} {b:Nat} {c:af} (h:eA (h5 w) c c):seen w b c=c:=by simp[seen,h]
def wO (w:World) (c:af):Prop:=eA (h5 w) c c\/∃a,c= .slice (J a) 0 0
def B4 {w:World} {c:af} (h:dy c=aa):wO w c:= .inl (q4 h)
def BO {w:World} {b:Nat} {c:af} (h:dy c=aa):seen w b c=c:=wT (q4 h)
def ayZ {w:World} {b:Nat} {c:af} (h:wO w c) (aw:b<w.heap.size):eA (h5 w) (seen w b c) c:=by
 by_cases aD:eA (h5 w) c c
 ·rw[wT aD];exact aD
 ·rcases h with h|⟨a,rfl⟩
  ·exact absurd h aD
  ·simp only[seen,aD,if_false,xt,IV];exact ⟨⟨b,0,0,0⟩,rfl,by simp[h5,aw], .inr (.inr (.inr (.inl ⟨rfl,rfl,a,rfl⟩)))⟩
def arF {w:World} {b o:Nat} {c:af} (h:wO w c) (ay:w.cell? ⟨b,o,ae⟩=J c):(ig w).load b o=J (seen w b c):=by
 have cF:b<w.heap.size:=I8 w ⟨b,o,ae⟩ ay;by_cases aD:eA (h5 w) c c
 ·rw[wT aD];exact arb ay aD
 ·rcases h with h|⟨a,rfl⟩
  ·exact absurd h aD
  ·simp[Mem.load,ig,cF,ay,aD,xt,seen]
def aqX {w:World} {a:Addr} {v:af} (h:w.cell? a=J v):a.spot=ae/\a.block<w.heap.size:=by
 refine ⟨?_,I8 w a h⟩;simp only[World.cell?] at h;split at h
 ·simp_all
 grind
structure po (P:bI) {aK:Type} (T:cM aK) (G:aK->Prop):Prop where
 bM:P.cellsOf T.tid=T.bM
 pos:0<T.bM
 rd:∀{H:Type} {enc:bV×af->H} {w:World} {lp:Nat} {cs:List af} {x:DataW H×List MemPlace},ua enc P w 0 (λ_=>aa) aa lp T.tid cs=J x->
  (∀c∈cs,wO w c)/\∀b,(b<w.heap.size\/∀c∈cs,eA (h5 w) c c)->∃a,T.rd (ig w).blk a (cs.map (seen w b))/\G a
def po.conv {P:bI} {aK:Type} {T AN:cM aK} {G:aK->Prop} (h:po P T G) (aJ:AN.tid=T.tid) (bf:AN.bM=T.bM) (aV:∀z x cs,T.rd z x cs->AN.rd z x cs):po P AN G where
 bM:=by rw[aJ,bf];exact h.bM
 pos:=by rw[bf];exact h.pos
 rd:=λe=>by
  rw[aJ] at e;obtain ⟨h1,ai⟩:=h.rd e
  grind
def aal (k:aG) (n:Int):Prop:=k.min<=n/\n<=k.max
def aan (s:List UInt8):Prop:=s.length<=maxLen
def aak {aK:Type} (_:aK):Prop:=True
def A6 {aK:Type} (G:aK->Prop) (xs:List aK):Prop:=xs.length<=maxLen/\∀x∈xs,G x
def asD {P:bI} {t:bV} {k:aG} {i:TypeInfo} (aJ:P.underlying t=J (.int k)) (az:P.info? t=J i) (bf:i.size=1):po P (I4 t k) (aal k) where
 bM:=by grind [I4,cM.flat,nY]
 pos:=by simp[I4,cM.flat]
 rd:=λh=>by obtain ⟨n,rfl,_,hw⟩:=DataW.trod_int aJ h;exact ⟨λc ay=>by simp at ay;subst ay;exact B4 rfl,λb _=>⟨n,by simp[I4,cM.flat,BO (w:=_) (b:=b) (c:= .int k n) rfl],by grind [Lit.wf,aal]⟩⟩
def ay3 {P:bI} {t:bV} {i:TypeInfo} (aJ:P.underlying t=J (.int .u8)) (az:P.info? t=J i) (bf:i.size=1):po P (kE t) aak where
 bM:=by grind [kE,cM.flat,nY]
 pos:=by simp[kE,cM.flat]
 rd:=λh=>by
  obtain ⟨n,rfl,_,hw⟩:=DataW.trod_int aJ h;refine ⟨λc ay=>by simp at ay;subst ay;exact B4 rfl,λb _=>⟨AO n.toNat, ?_,trivial⟩⟩;simp[Lit.wf,aG.min,aG.max,aG.signed,pP] at hw;have:((AO n.toNat).toNat:Int)=n:=by simp;omega
  show [mu .u8 n].map (seen _ b)=[mu .u8 ((AO n.toNat).toNat:Int)];rw[this];simp[BO (w:=_) (b:=b) (c:= .int .u8 n) rfl]
def ay0 {P:bI} {t:bV} {i:TypeInfo} (aJ:P.underlying t=J .bool) (az:P.info? t=J i) (bf:i.size=1):po P (Cn t) aak where
 bM:=by grind [Cn,cM.flat,nY]
 pos:=by simp[Cn,cM.flat]
 rd:=λh=>by obtain ⟨n,rfl,_⟩:=DataW.trod_bool aJ h;exact ⟨λc ay=>by simp at ay;subst ay;exact B4 rfl,λb _=>⟨n,by simp[Cn,cM.flat,BO (w:=_) (b:=b) (c:= .bool n) rfl],trivial⟩⟩
def ay1 {P:bI} {t:bV} {i:TypeInfo} (aJ:P.underlying t=J .string) (az:P.info? t=J i) (bf:i.size=1):po P (I5 t) aan where
 bM:=by grind [I5,cM.flat,nY]
 pos:=by simp[I5,cM.flat]
 rd:=λh=>by obtain ⟨n,rfl,_,bf⟩:=DataW.trod_string aJ h;exact ⟨λc ay=>by simp at ay;subst ay;exact B4 rfl,λb _=>⟨n.data.toList,by simp[I5,cM.flat,str,BO (w:=_) (b:=b) (c:= .string n) rfl],by simp_all [aan]⟩⟩
def aeb {P:bI} {aK:Type} {T:cM aK} {G:aK->Prop} {t:bV} (jU:po P T G) (aJ:P.underlying t=J (.slice T.tid)) {H:Type} {enc:bV×af->H} {w:World} {lp:Nat} {cs:List af} {x:DataW H×List MemPlace}
  (h:ua enc P w 0 (λ_=>aa) aa lp t cs=J x):∃c,cs=[c]/\wO w c/\∀b,(b<w.heap.size\/eA (h5 w) c c)->∃xs,fA T (ig w).blk xs (seen w b c)/\A6 G xs:=by
 rcases Deep.open_slice aJ h with ⟨rfl,_⟩|⟨a,len,cap,m,n,D,ago,rfl,_,aR,hm,lN,_,an⟩
 ·exact ⟨_,rfl,B4 rfl,λb _=>⟨[],by rw[BO rfl];exact .nil,by simp[A6]⟩⟩
 ·simp only[if_true] at lN;subst lN;refine ⟨_,rfl, ?_⟩;rcases Nat.eq_zero_or_pos m with bR|hh
  ·subst bR;have hV:len=0:=by omega
   subst hV;refine ⟨.inr ⟨a,rfl⟩,λb aw=>⟨[], ?_,by simp[A6]⟩⟩;by_cases aD:eA (h5 w) (.slice (J a) 0 0) (.slice (J a) 0 0)
   ·rw[wT aD];obtain ⟨e,h1,ai,_⟩:=aD;obtain ⟨blk,off,spot⟩:=a;simp only at h1 ai;subst h1;exact .inr ⟨blk,off,0,rfl,Wn (w1 ai).1, .inr ⟨by simp[dc],e4 _⟩,λi x az=>by simp at az⟩
   ·have aw:b<w.heap.size:=by
     rcases aw with aw|aw
     ·exact aw
     ·exact absurd aw aD
    simp only[seen,aD,if_false,xt,IV];exact .inr ⟨b,0,0,rfl,Wn aw, .inr ⟨by simp[dc],e4 _⟩,λi x az=>by simp at az⟩
  ·have bf:=jU.bM;have bb:=jU.pos;obtain ⟨rJ,g1,_⟩:=an 0 hh;obtain ⟨_,g2,g3⟩:=World.cells?_some g1;rw[bf] at g2 g3;have g4:=g3 0 bb;obtain ⟨v0,yY⟩:∃v,rJ[0]? =J v:=⟨rJ[0]'(by omega),by simp[show 0<rJ.length by omega]⟩
   rw[yY] at g4;simp only[Nat.zero_mul] at g4;have JI:(a.add 0).add 0=a:=by simp[Addr.add]
   rw[JI] at g4;obtain ⟨aa8,hblk⟩:=aqX g4;obtain ⟨blk,off,spot⟩:=a;simp only at aa8 hblk;subst aa8;have aD:eA (h5 w) (.slice (J ⟨blk,off,ae⟩) len m) (.slice (J ⟨blk,off,ae⟩) len m):=
    ⟨⟨blk,0,0,0⟩,rfl,by simp[h5,hblk], .inl ⟨by simp only[maxLen] at hm;simp only[dc];omega,by simp⟩⟩
   refine ⟨.inl aD,λb _=> ?_⟩;rw[wT aD];have mb:∀i,i<len->∃y:aK,G y/\∃ds,T.rd (ig w).blk y ds/\o2 (ig w).blk blk (off+i*T.bM) ds:=by
    intro i az;obtain ⟨ci,cL,c9⟩:=an i (by omega);obtain ⟨_,fo,k4⟩:=World.cells?_some cL;rw[bf] at fo k4;obtain ⟨eT,e0⟩:=jU.rd c9;obtain ⟨y,aZ,qO⟩:=e0 blk (.inl hblk);refine ⟨y,qO,_,aZ,λj u bn=> ?_⟩;rw[sH] at bn;cases ay:ci[j]? with
    |none=>rw[ay] at bn;cases bn
    |some c=>rw[ay] at bn;simp at bn;subst bn;have aaO:=(fq.1 ay).1;have wH:=k4 j (by omega);rw[ay,o4,o4] at wH;exact apo (arF (eT c (mM ay)) wH)
   have:∃xs:List aK,xs.length=len/\(∀y∈xs,G y)/\∀(i:Nat) (y:aK),xs[i]? =J y->∃ds,T.rd (ig w).blk y ds/\o2 (ig w).blk blk (off+i*T.bM) ds:=by
    clear an aR hm aD g1 hh;revert mb;generalize len=l;induction l with
    |zero=>intro _;exact ⟨[],rfl,λy aZ=>by simp at aZ,λi y az=>by simp at az⟩
    |succ l a1=>
     intro mb;obtain ⟨xs,bX,eV,e2⟩:=a1 λi az=>mb i (by omega);obtain ⟨y,qO,aZ⟩:=mb l (by omega);refine ⟨xs++[y],by simp[bX],λu hu=>by rcases List.mem_append.1 hu with hu|hu;exact eV u hu;simp at hu;subst hu;exact qO,λi u az=> ?_⟩;by_cases aaK:i<l
     ·rw[kS (by omega)] at az;exact e2 i u az
     ·have cF:=(fq.1 az).1;simp at cF;have:i=l:=by omega
      subst this;rw[kT (by omega)] at az;simp[bX] at az;subst az;exact aZ
   obtain ⟨xs,bX,eV,e2⟩:=this;refine ⟨xs, .inr ⟨blk,off,m,by rw[bX],Wn hblk, .inr ⟨by simp only[maxLen] at hm;simp only[dc];omega,by rw[bX];exact aR⟩,e2⟩,by omega,eV⟩
def ay2 {P:bI} {aK:Type} {T:cM aK} {G:aK->Prop} {t:bV} {i:TypeInfo} (jU:po P T G) (aJ:P.underlying t=J (.slice T.tid)) (az:P.info? t=J i) (bf:i.size=1):po P (TV t T) (A6 G) where
 bM:=by grind [TV,nY]
 pos:=by simp[TV]
 rd:=λh=>by obtain ⟨c,rfl,h1,ai⟩:=aeb jU aJ h;refine ⟨λd bg=>by grind,λb aw=> ?_⟩;obtain ⟨xs,an,qO⟩:=ai b (aw.imp id λh=>h c (by simp));exact ⟨xs,⟨_,rfl,an⟩,qO⟩
def asn {P:bI} {aK:Type} {T:cM aK} {G:aK->Prop} {t:bV} (jU:po P T G) (aJ:P.underlying t=J (.slice T.tid)) {H:Type} {enc:bV×af->H} {w:World} {base:Nat} {v:af} {d:DataW H} {cQ:List MemPlace}
  (eT:AQ P w .any base t v) (h:Tt enc P w 0 (λ_=>aa) aa t v d cQ):de (h5 w) v v/\∃xs,fA T (ig w).blk xs v/\A6 G xs:=by
 obtain ⟨lp,bF⟩:=h;obtain ⟨c,ay,h1,ai⟩:=aeb jU aJ bF;have aD:eA (h5 w) v v/\c=v:=by
  simp only[AQ,aJ,Tr,Cell.ok] at eT;cases v with
  |slice a l Z2=>
   have iF:c= .slice a l Z2:=by grind [yu]
   refine ⟨?_,iF⟩;cases a with
   |none=>rfl
   |some a=>
    simp only at eT;obtain ⟨aR,hm,cp⟩:=eT;obtain ⟨_,bf,row,cells,JY,_⟩:=cp;have cF:a.block<w.heap.size:=by
     grind [World.shape?]
    obtain ⟨blk,off,spot⟩:=a;simp only at bf cF;subst bf;refine ⟨⟨blk,0,0,0⟩,rfl,by grind [h5], .inl ⟨?_,by simp⟩⟩
    grind [aG.max,aG.signed,pP,dc]
  |_=>grind
 simp_all [de.qh,wT]
theorem ast {P:bI} {w:World} {base:Nat} {u:bV} {c:af} (h:Tr P w .any base u c) (ay:wO w c):eA (h5 w) c c:=by
 rcases ay with ay|⟨a,rfl⟩
 ·grind
 ·cases hu:P.underlying u with
  |none=>simp_all [Tr,Cell.ok]
  |some d=>
   cases d<;>simp only[Tr,Cell.ok,hu] at h
   obtain ⟨_,_,_,bf,row,cells,JY,_⟩:=h;have cF:a.block<w.heap.size:=by
    grind [World.shape?]
   obtain ⟨blk,off,spot⟩:=a;simp only at bf cF;subst bf;exact ⟨⟨blk,0,0,0⟩,rfl,by grind [h5], .inl ⟨by simp[dc],by simp⟩⟩
def asm {P:bI} {aK:Type} {T:cM aK} {G:aK->Prop} {bY:Array Field} {H:Type} {enc:bV×af->H} {w:World} {base:Nat} {v:af} {d:DataW H} {cQ:List MemPlace}
  (jU:∀{lp:Nat} {cs:List af},ua enc P w 0 (λ_=>aa) aa lp T.tid cs=J (d,cQ)->(∀c∈cs,wO w c)/\((∀c∈cs,eA (h5 w) c c)->∃a,T.rd (ig w).blk a cs/\G a)) (aJ:P.underlying T.tid=J (.struct bY))
  (eT:AQ P w .any base T.tid v) (h:Tt enc P w 0 (λ_=>aa) aa T.tid v d cQ):de (h5 w) v v/\∃x cs,v= .agg cs.toArray/\T.rd (ig w).blk x cs/\G x:=by
 obtain ⟨lp,bF⟩:=h;simp only[AQ,aJ] at eT;obtain ⟨cs,rfl,cN,ts,aa9,_,yM⟩:=eT;have wi:ua enc P w 0 (λ_=>aa) aa lp T.tid cs.toList=J (d,cQ):=by grind [yu]
 obtain ⟨h1,ai⟩:=jU wi;have oO:∀c∈cs.toList,eA (h5 w) c c:=by
  grind [List.getElem?_of_mem,ast]
 obtain ⟨x,an,qO⟩:=ai oO;refine ⟨⟨cs,rfl, ?_⟩,x,cs.toList,by rfl,an,qO⟩;have:∀l:List af,(∀c∈l,eA (h5 w) c c)->bP (eA (h5 w)) l l:=by
  intro l;induction l with
  |nil=>intro _;exact fs
  |cons c l a1=>intro aR;exact ⟨aR c (by simp),a1 λd bg=>aR d (by grind)⟩
 grind
def ayX {P:bI} {aK:Type} {T:cM aK} {G:aK->Prop} {bY:Array Field} (jU:po P T G) (aJ:P.underlying T.tid=J (.struct bY)) {H:Type} {enc:bV×af->H} {w:World} {base:Nat} {v:af} {d:DataW H} {cQ:List MemPlace}
  (eT:AQ P w .any base T.tid v) (h:Tt enc P w 0 (λ_=>aa) aa T.tid v d cQ):de (h5 w) v v/\∃x cs,v= .agg cs.toArray/\T.rd (ig w).blk x cs/\G x:=
 asm (λh=>(jU.rd h).imp id λai oO=>by
  obtain ⟨x,an,qO⟩:=ai 0 (.inr oO);have:∀l:List af,(∀c∈l,eA (h5 w) c c)->l.map (seen w 0)=l:=by
   intro l;induction l with
   |nil=>grind
   |cons c l a1=>grind [wT]
  grind) aJ eT h
def axt {P:bI} {H:Type} {enc:bV×af->H} {w:World} {n:Nat} {bY:Array Field} {cs:List af} {xs:List (DataW H×List MemPlace)} (hlen:xs.length=bY.size)
  (bF:∀(i:Nat) (f:Field),bY[i]? =J f->ua enc P w 0 (λ_=>aa) aa n f.type ((cs.drop f.offset).take (P.cellsOf f.type))=xs[i]?) (i:Nat) {f:Field} (az:bY[i]? =J f):
  ∃y,ua enc P w 0 (λ_=>aa) aa n f.type ((cs.drop f.offset).take (P.cellsOf f.type))=J y:=by
 grind
def ayY {P:bI} {aK:Type} {T:cM aK} {t e:bV} (aJ:P.underlying t=J (.slice e)) {H:Type} {enc:bV×af->H} {w:World} {v:af} {d:DataW H} {cQ:List MemPlace} {z:Nat->bW} {xs:List aK}
  (h:Tt enc P w 0 (λ_=>aa) aa t v d cQ) (bf:fA T z xs v):xs.length=0\/∃kt spare,d= .slice kt spare/\kt.length=xs.length:=by
 obtain ⟨lp,bF⟩:=h;rcases bf with ⟨rfl,rfl⟩|⟨b,off,c,rfl,_⟩
 ·grind
 ·rcases Deep.open_slice aJ bF with ⟨bR,_⟩|⟨a,len,cap,m,n,D,ago,ay,_,_,_,_,an,_⟩
  ·grind [yu]
  grind [yu]
end Go.aF
end
section
namespace Go.aF
section
variable {z:Nat->bW} {e m:Mem} {k:Option Nat} {b n:Nat} {cs:List af} {t:bV} {v:af}
variable {P:bI} {ap:bS->af} {o:Oper} {x:bS} {i:TypeInfo} {D:Tag->af->Mem->Prop}
def jQ.apq (h:jQ z e m k b cs t) (aS:dL z e m k):∃z',fl z z'/\dL z' e m k/\o2 z' b 0 cs/\∀p,e6 p (J b)->∀c,p=J c->z' c=z c:=by
 refine ⟨jT z m (J b),Cj λc ay=>by cases ay;exact h.dead,⟨Lj aS.bZ (λc ay=>by cases ay;exact ⟨h.lt,by rw[h.blk];rfl⟩),aS.dead,aS.oL,aS.next,aS.kept⟩,λj u bn=> ?_,λp bb c ay=> ?_⟩
 ·simp only[nH,jT,if_true,h.blk,lH];grind
 ·unfold jT;rw[if_neg (bb c ay)]
def jQ.freeze (h:jQ z e m k b cs t) (bB:e.next<=b) (aS:dL z e m k):∃z',dT e.next z z'/\dL z' e m k/\o2 z' b 0 cs/\∀p,e6 p (J b)->∀c,p=J c->z' c=z c:=by
 obtain ⟨z',h1,ai,aT,br⟩:=h.apq aS;refine ⟨jT z m (J b),⟨Cj λc ay=>by cases ay;exact h.dead,λc ay=> ?_⟩,⟨Lj aS.bZ (λc ay=>by cases ay;exact ⟨h.lt,by rw[h.blk];rfl⟩),aS.dead,aS.oL,aS.next,aS.kept⟩,λj u bn=> ?_,λp bb c ay=> ?_⟩
 ·grind [jT]
 ·simp only[nH,jT,if_true,h.blk,lH];grind
 ·unfold jT;rw[if_neg (bb c ay)]
def as4 (h:o.op= .alloc t) (az:P.info? t=J i) {c0:af} (bx:i.zero=J c0) (dw:c0.cells.toList.all dy=aa) (bf:c0.cells.size=i.size) (cs:List af) (ay:c0.cells.toList=cs) (aS:dL z e m k)
  (hk:∀b m',e.next<=b->dL z e m' k->jQ z e m' k b cs t->gl m m' ae->(∀p,(∀c,p=J c->c<m.next)->e6 p (J b))->D .new (.pointer (J ⟨b,0,ae⟩)) m'):cH P ap o m D:=by
 subst ay;obtain ⟨ai,aT,br,cK⟩:=Xj (L:=c0.cells.toList) (t:=t) aS;exact cH.new (.alloc t i c0 h az bx dw bf) (hk _ _ aS.next ai aT br cK)
def ave (h:o.op= .box t x) (az:P.info? t=J i) (an:ap x=v) (aD:storable v=aa) (cs:List af) (ay:v.cells.toList=cs) (bf:cs.length=i.size) (aS:dL z e m k)
  (hk:∀b m',e.next<=b->dL z e m' k->jQ z e m' k b cs t->gl m m' ae->(∀p,(∀c,p=J c->c<m.next)->e6 p (J b))->D .new (.pointer (J ⟨b,0,ae⟩)) m'):cH P ap o m D:=by
 subst an ay;obtain ⟨ai,aT,br,cK⟩:=Xj (L:=(ap x).cells.toList) (t:=t) aS;exact cH.new (.box t x i h az aD (by grind)) (hk _ _ aS.next ai aT br cK)
def aeG {fn:Fn} {cap:Array bS} {caps:Array af} (h:o.op= .makeFunc fn #[] cap) (ay:cap.map ap=caps) (bf:caps.toList.all storable=aa):dD P ap o (.func fn #[] caps):=by
 subst ay;have:=dD.func (P:=P) (ap:=ap) (o:=o) fn #[] cap h (λx an=>by
  grind)
 grind
def B2 {f:FuncId} {y:bS} {dK:Array bS} {ts:Array bV} {args caps all:Array af} (h:o.op= .call {callee:= .value y,args:=dK,argTypes:=ts}) (bF:ap y= .func (.func f) #[] caps) (bl:dK.map ap=args) (oO:args++caps=all):callee o ap f all:=
 ⟨_,dK,ts,#[],caps,h,bF,by grind⟩
end
open Classical in
noncomputable def wK {aK cg:Type} (xs:List aK) (f:Bool->Option cg):Option cg:=if xs=[] then (if f aa=f ak then f aa else ae) else f ak
def KF {aK cg:Type} {xs:List aK} {f:Bool->Option cg} {r:cg} (h:wK xs f=J r) (t:Bool) (aJ:t=aa->xs=[]):f t=J r:=by
 unfold wK at h;by_cases an:xs=[]
 ·rw[if_pos an] at h;split at h
  ·cases t
   ·rename_i he;rw[<-he];exact h
   ·exact h
  ·cases h
 ·rw[if_neg an] at h;cases t
  ·exact h
  ·exact absurd (aJ rfl) an
def atc {aK cg:Type} {xs:List aK} {f:Bool->Option cg} {r:cg} (h:∀t,(t=aa->xs=[])->f t=J r):wK xs f=J r:=by
 unfold wK;by_cases an:xs=[]
 ·rw[if_pos an,if_pos (by rw[h aa λ_=>an,h ak (by simp)])];exact h aa λ_=>an
 ·rw[if_neg an];exact h ak (by simp)
section
variable {aK cg:Type} {T:cM aK} {z:Nat->bW} {e m:Mem} {k:Option Nat} {xs:List aK} {v:af} {t u:bV} {f:Bool->Option cg} {r:cg}
variable {P:bI} {ap:bS->af} {o:Oper} {x y:bS} {hE:bV}
def KW (neq:Bool) (h:o.op= .binOp (if neq then .neq else .eql) t x y u) (aJ:P.underlying t=J (.slice hE)) (an:ap x= .slice ae 0 0) (aZ:ap y= .slice ae 0 0):dD P ap o (.bool (!neq)):=by
 refine tF (x:=x) (y:=y) (by rw[h];rfl) (by grind) (by rw[an];rfl) (by rw[aZ];rfl) rfl λw=> ?_
 grind [eqGuard,Lib.run_eql_slice_nil,run_neq_slice_nil_any,execOp,kD,jE,Sem.run_pure]
def fA.VU (h:fA T z xs v):(v= .slice ae 0 0/\xs=[])\/∃a l c,v= .slice (J a) l c:=by
 rcases h with h|⟨b,off,c,rfl,_⟩
 ·grind
 grind
def fO.VU (h:fO T z m xs v):(v= .slice ae 0 0/\xs=[])\/∃a l c,v= .slice (J a) l c:=by
 rcases h with h|⟨b,f0,L,c,rfl,_⟩
 ·grind
 grind
end
end Go.aF
end
section
namespace Go.aF
section
variable {aK:Type} {T:cM aK} {z z':Nat->bW} {e m m':Mem} {k p q:Option Nat} {xs r:List aK} {v:af} {t u:bV} {b:Nat}
variable {P:bI} {ap:bS->af} {o:Oper} {x y:bS} {i:TypeInfo} {D:Tag->af->Mem->Prop} {hE:bV}
def Lz (h:o.op= .call {callee:= .builtin .len,args:=#[x],argTypes:=#[t]}) (aJ:P.underlying t=J (.slice hE)) (an:ap x=v) (bf:∃a c,v= .slice a xs.length c):dD P ap o (.int .i64 xs.length):=by
 obtain ⟨a,c,rfl⟩:=bf;exact .len x t hE a _ c h aJ an
def dU.elem {n:Int} {a:aK} {f0 l c:Nat} (h:dU T z e m k xs v) (aD:v= .slice (J ⟨b,f0,ae⟩) l c) (bs:al xs n=J a):
  ∃cs,T.rd z a cs/\xs[n.toNat]? =J a/\∀(j:Nat) (u:af),cs[j]? =J u->m.load b (f0+n.toNat*T.bM+j)=J u:=by
 obtain ⟨bR,h1,ai⟩:=o3 bs;rcases h.bT with ⟨_,rfl⟩|⟨dJ,f1,L,c3,rfl,aw,_,_,aR,_,br⟩
 ·grind
 ·obtain ⟨cs,g1,g2⟩:=br _ a ai;cases aD;exact ⟨cs,g1,ai,λj u bn=>by simp only[Mem.load,aw];exact g2 j u bn⟩
def cM.as (T:cM aK) (t:bV):cM aK:={T with tid:=t}
def as3 {x0:aK} {n:Nat} {c:List af} (h:o.op= .alloc t) (az:P.info? t=J i) {c0:af} (bx:i.zero=J c0) (dw:c0.cells.toList.all dy=aa) (bf:c0.cells.size=i.size) (ay:c0.cells.toList=(gb n c).flatten) (e0:T.rd z x0 c) (bB:mn n dc=aa) (aS:dL z e m k)
  (hk:∀b m',dL z e m' k->dU (T.as t) z e m' k (gb n x0) (.slice (J ⟨b,0,ae⟩) n n)->gl m m' ae->(∀p,(∀c,p=J c->c<m.next)->e6 p (J b))->D .new (.pointer (J ⟨b,0,ae⟩)) m'):cH P ap o m D:=by
 obtain ⟨ai,aT,br,cK⟩:=Xj (L:=c0.cells.toList) (t:=t) aS;have hlen:=T.len _ _ _ e0;have aR:c0.cells.toList.length=n*T.bM:=by simp_all
 have p9:n<dc:=by simp_all
 refine cH.new (.alloc t i c0 h az bx dw bf) (hk _ _ ai ⟨fO.AW ⟨m.next,c0.cells.toList,n,by simp,aT.blk,aT.lt,aT.dead, ?_, .inr ⟨p9,by simp, ?_⟩,λj x bn=> ?_⟩,λb aw=>by cases aw;exact aS.next⟩ br cK)
 ·grind [cM.as]
 ·grind [cM.as]
 ·obtain ⟨cF,an⟩:=fq.1 bn;simp at cF an;subst an;refine ⟨c,e0,λq u bm=> ?_⟩;have aoF:=(fq.1 bm).1;rw[ay];have key:∀(n j:Nat),j<n->(gb n c).flatten[j*T.bM+q]? =J u:=by
   intro n;induction n with
   |zero=>grind
   |succ n a1=>
    intro j bn;rw[YZ,yn];cases j with
    |zero=>grind
    |succ j=>
     rw[kT (by grind),hlen,show (j+1)*T.bM+q - T.bM=j*T.bM+q by grind]
     grind
  exact key n j cF
def avg {cL:aG} {n:Int} {a:aK} {l:Nat} (h:o.op= .indexAddr t x y) (aJ:P.underlying t=J (.array l hE)) (az:P.info? hE=J i) (cN:i.size=T.bM) (an:ap x= .pointer (J ⟨b,0,ae⟩)) (aZ:ap y= .int cL n) (bf:dU T z e m k xs (.slice (J ⟨b,0,ae⟩) l l)) (bs:al xs n=J a)
  (hk:∀cs,T.rd z a cs->xs[n.toNat]? =J a->(∀(j:Nat) (u:af),cs[j]? =J u->m.load b (n.toNat*T.bM+j)=J u)->D .pure (.pointer (J ⟨b,n.toNat*T.bM,ae⟩)) m):cH P ap o m D:=by
 obtain ⟨cs,g1,g2,g3⟩:=bf.elem rfl bs;obtain ⟨bR,h1,ai⟩:=o3 bs;have aR:xs.length=l:=by
  obtain ⟨a',c3,he⟩:=bf.bT.len
  grind
 have:=dD.J4 (P:=P) (ap:=ap) (o:=o) t x y hE i b 0 l cL n h aJ az an aZ bR (by grind)
 grind [cH.pure]
end
end Go.aF
end
section
namespace Go.aF
def AY {aK:Type} (xs:List aK) (a b:Int):Option (List aK):=if 0<=a/\a<xs.length/\b=a+1 then J (xs.eraseIdx a.toNat) else ae
def oe:Code->Array Oper| .region _ ops _=>ops|_=>#[]
def wD:Code->Nat| .region i _ _=>i| .block i _=>i|_=>0
def np:List Oper->List (Option Nat×Op)->Prop|[],[]=>True|o::os,p::cQ=>(o.dst=p.1/\o.op=p.2/\o.guard=ae)/\np os cQ|_,_=>False
def np.of:∀{l:List Oper} {cQ:List (Option Nat×Op)},(l.map λo=>(o.dst,o.op,o.guard))=cQ.map (λp=>(p.1,p.2,ae))->np l cQ
 |[],[],_=>trivial
 |[],_::_,h=>by grind
 |_::_,[],h=>by grind
 |o::os,p::cQ,h=>by simp only[rA,List.cons.injEq,Prod.mk.injEq] at h;exact ⟨h.1,np.of h.2⟩
def np.nil {l:List Oper} (h:np l []):l=[]:=by
 cases l with
 |nil=>rfl
 |cons _ _=>exact h.elim
section
variable {P:bI} {K:(Nat->af)->Mem->Prop} {fr:Nat->af} {m m1:Mem} {v:af} {ops l:List Oper}
def ea.op {p:Option Nat×Op} {cQ:List (Option Nat×Op)} (h:np l (p::cQ)) (bf:∀q:Oper,q.op=p.2->ln P (jn P 0) (bk fr) q m v m1) (k:∀os,np os cQ->ea P ops os K (set fr p.1 v) m1):ea P ops l K fr m:=by
 cases l with
 |nil=>exact h.elim
 |cons o os=>
  obtain ⟨⟨h1,ai,aT⟩,br⟩:=h
  grind [ea.cons,wanted,mr.of]
def ea.end (h:np l []) (k:K fr m):ea P ops l K fr m:=by
 rw[h.nil];exact ea.nil k
end
section
variable {P:bI} {C:FuncId->Array af->Mem->af->Mem->Prop} {ap:bS->af} {o:Oper} {m:Mem} {x y cf az:bS} {t e:bV} {i:TypeInfo} {b f0 q n l a c yA:Nat} {L:List af} {k k':aG}
def pc (l c:Nat):Nat:=if c<dc then c else dc+l
def au8 (h:o.op= .slice t x ae (J y) ae) (aJ:P.underlying t=J (.slice e)) (az:P.info? e=J i) (an:ap x= .slice (J ⟨b,f0,ae⟩) l c) (aZ:ap y= .int k (a:Nat)) (bl:a<l) (ay:c=dc\/(c<dc/\l<=c)) (hm:m.blk b= .own L e):
  ln P C ap o m (.slice (J ⟨b,f0,ae⟩) a (pc l c)) m:=by
 unfold pc;rcases ay with rfl|⟨h1,ai⟩
 ·rw[if_neg (by omega)];have:=fH.vx (P:=P) (ap:=ap) (o:=o) (m:=m) t x ae (J y) e i L b f0 l dc l 0 a h aJ az an (.inl ⟨rfl,rfl⟩) hm rfl ⟨k,aZ⟩ (pn _) (by omega) (by omega);simpa using ln.read (C:=C) this
 ·rw[if_pos h1];have:=dD.slice (P:=P) (ap:=ap) (o:=o) t x ae (J y) e i b f0 l c 0 a h aJ az an h1 rfl ⟨k,aZ⟩ (pn _) (by omega) (λ_=>trivial);simpa using ln.pure (C:=C) (m:=m) this
def ze (f0 a s c:Nat):Nat:=if c<dc/\c=a then f0 else f0+a*s
def T8 (n c:Nat):Nat:=if c<dc then c - n else dc
def auX (h:c=dc\/(c<dc/\l<=c)) (s:Nat):ze f0 a s c=f0+a*s\/l - a=0:=by
 grind [ze]
def au9 (h:o.op= .slice t x (J y) ae ae) (aJ:P.underlying t=J (.slice e)) (az:P.info? e=J i) (an:ap x= .slice (J ⟨b,f0,ae⟩) l c) (aZ:ap y= .int k (a:Nat)) (bl:a<=l) (ay:c=dc\/(c<dc/\l<=c)) (hm:m.blk b= .own L e) (dE:f0+l*i.size<=L.length):
  ln P C ap o m (.slice (J ⟨b,ze f0 a i.size c,ae⟩) (l - a) (T8 a c)) m:=by
 rcases ay with rfl|⟨h1,ai⟩
 ·have bX:ze f0 a i.size dc=f0+a*i.size:=if_neg λh=>by omega
  have e2:T8 a dc=dc:=if_neg (by omega);rw[bX,e2];exact .read (.slice t x (J y) ae e i L b f0 l a l h aJ az an hm ⟨k,aZ⟩ rfl bl (e4 _) dE)
 ·have bX:ze f0 a i.size c=if c=a then f0 else f0+a*i.size:=by grind [ze]
  have e2:T8 a c=c - a:=if_pos h1;rw[bX,e2];exact .pure (.slice t x (J y) ae e i b f0 l c a l h aJ az an h1 ⟨k,aZ⟩ rfl bl ai (λ_=>trivial))
theorem asK (hm:m.blk b= .own L e) (bB:q+n<=L.length):kd m b q n=J ((L.drop q).take n):=by
 grind [Cc,Mem.load]
def amx (h:o.op= .call {callee:= .builtin .append,args:=#[x,y],argTypes:=#[t,t]}) (aJ:P.underlying t=J (.slice e)) (az:P.info? e=J i) (an:ap x= .slice (J ⟨b,f0,ae⟩) a (pc l c)) (aZ:ap y= .slice (J ⟨b,q,ae⟩) (l - (a+1)) yA)
  (bm:q=f0+(a+1)*i.size\/l - (a+1)=0) (bl:a<l) (ay:c=dc\/(c<dc/\l<=c)) (hm:m.blk b= .own L e) (dE:f0+l*i.size<=L.length):
  ln P C ap o m (.slice (J ⟨b,f0,ae⟩) (l - 1) (pc l c)) (m.put b (.own (eY L (f0+a*i.size) ((L.drop (f0+(a+1)*i.size)).take ((l - (a+1))*i.size))) e)):=by
 have bf:(a+1)*i.size+(l - (a+1))*i.size=l*i.size:=by rw[<-ko];grind
 have mb:kt m i.size (ap y)=J ((L.drop (f0+(a+1)*i.size)).take ((l - (a+1))*i.size)):=by
  rw[aZ];show kd m b q _=_;rcases bm with rfl|bm
  ·grind [asK]
  simp_all [kd]
 have JI:sA P m t i (ap y) (l - (a+1)) _:= .el (.inl ⟨e,aJ⟩) (by rw[aZ];rfl) mb;have hlen:((L.drop (f0+(a+1)*i.size)).take ((l - (a+1))*i.size)).length=(l - (a+1))*i.size:=by grind
 have hle:(a+(l - (a+1)))*i.size<=l*i.size:=oH _ (by omega);have bX:l - 1=a+(l - (a+1)):=by omega
 rw[bX];rcases ay with rfl|⟨h1,ai⟩
 ·have e2:pc l dc=dc+l:=if_neg (by omega);rw[e2] at an⊢;exact .fX (.yy x y t t e i b f0 a _ l (l - (a+1)) L _ h aJ az an rfl (by omega) (by omega) hm JI hlen (by omega))
 ·have e2:pc l c=c:=if_pos h1;rw[e2] at an⊢;exact .fX (.vY x y t t e i b f0 a c (l - (a+1)) L _ h aJ az an h1 (by omega) hm JI hlen (by omega))
def au' (h:o.op= .slice t x (J cf) (J az) ae) (aJ:P.underlying t=J (.slice e)) (fm:P.info? e=J i) (an:ap x= .slice (J ⟨b,f0,ae⟩) (l - 1) (pc l c)) (eW:ap cf= .int k ((l - 1:Nat):Int)) (eN:ap az= .int k' (l:Nat)) (aR:0<l) (ay:c=dc\/(c<dc/\l<=c)) (hm:m.blk b= .own L e):
  ln P C ap o m (.slice (J ⟨b,f0+(l - 1)*i.size,ae⟩) 1 (if c<dc then c - (l - 1) else dc+(l - (l - 1)))) m:=by
 have bX:l - (l - 1)=1:=by omega
 rcases ay with rfl|⟨h1,ai⟩
 ·have e2:pc l dc=dc+l:=if_neg (by omega);rw[e2] at an;have:=fH.vx (P:=P) (ap:=ap) (o:=o) (m:=m) t x (J cf) (J az) e i L b f0 (l - 1) _ l (l - 1) l h aJ fm an (.inr rfl) hm ⟨k,eW⟩ ⟨k',eN⟩ (by omega) (by omega) (by omega);rw[bX] at this;rw[if_neg (by omega),bX];exact .read this
 ·have e2:pc l c=c:=if_pos h1;rw[e2] at an;have:=dD.slice (P:=P) (ap:=ap) (o:=o) t x (J cf) (J az) e i b f0 (l - 1) c (l - 1) l h aJ fm an h1 ⟨k,eW⟩ ⟨k',eN⟩ (by omega) (by omega) (λ_=>trivial);rw[bX,if_neg (by omega)] at this;rw[if_pos h1];exact .pure this
end
def Z5 (i0 i1 i2 i4 i5 i6 i7:Nat) (mZ iw iQ apF apG apH apI:Array Oper) (X:Code):Code:=.seq (.region i0 mZ ak) (.seq (.region i1 iw ak) (.seq (.seq (.region i2 iQ ak) (.cond (.tmp 16) X .skip)) (.seq (.region i4 apF ak) (.seq (.region i5 apG aa) (.seq (.region i6 apH ak) (.seq (.region i7 apI ak) .ret))))))
structure Tu (t:bV) (B:Code):Prop where
 mS:B=Z5 (wD (sub B [0])) (wD (sub B [1,0])) (wD (sub B [1,1,0,0])) (wD (sub B [1,1,1,0])) (wD (sub B [1,1,1,1,0])) (wD (sub B [1,1,1,1,1,0])) (wD (sub B [1,1,1,1,1,1,0]))
  (oe (sub B [0])) (oe (sub B [1,0])) (oe (sub B [1,1,0,0])) (oe (sub B [1,1,1,0])) (oe (sub B [1,1,1,1,0])) (oe (sub B [1,1,1,1,1,0])) (oe (sub B [1,1,1,1,1,1,0])) (sub B [1,1,0,1,0])
 ay:calm (oe (sub B [1,1,1,1,0]))=aa
 bR:np (oe (sub B [0])).toList [(J 6, .assign (.const (.slice ae 0 0)))]
 h1:np (oe (sub B [1,0])).toList [(J 8, .move (.tmp 0)),(J 9, .move (.tmp 1)),(J 10, .move (.tmp 2)),(J 11, .move (.tmp 0)),(J 12, .call ⟨.builtin .len,#[.tmp 11],#[t]⟩),(J 13, .slice t (.tmp 8) (J (.tmp 9)) (J (.tmp 10)) (J (.tmp 12)))]
 ai:np (oe (sub B [1,1,0,0])).toList [(J 14, .move (.tmp 1)),(J 15, .move (.tmp 2)),(J 16, .binOp .eql 3 (.tmp 14) (.tmp 15) 3)]
 br:np (oe (sub B [1,1,1,0])).toList [(J 18, .move (.tmp 0)),(J 19, .call ⟨.builtin .len,#[.tmp 18],#[t]⟩),(J 7, .assign (.tmp 19))]
 cK:np (oe (sub B [1,1,1,1,0])).toList [(J 20, .move (.tmp 0)),(J 21, .move (.tmp 1)),(J 22, .slice t (.tmp 20) ae (J (.tmp 21)) ae),(J 23, .move (.tmp 0)),(J 24, .move (.tmp 2)),(J 25, .slice t (.tmp 23) (J (.tmp 24)) ae ae),(J 26, .call ⟨.builtin .append,#[.tmp 22, .tmp 25],#[t,t]⟩),(J 0, .assign (.tmp 26))]
 fJ:np (oe (sub B [1,1,1,1,1,0])).toList [(J 27, .move (.tmp 0)),(J 28, .move (.tmp 0)),(J 29, .call ⟨.builtin .len,#[.tmp 28],#[t]⟩),(J 30, .move (.tmp 7)),(J 31, .slice t (.tmp 27) (J (.tmp 29)) (J (.tmp 30)) ae),(ae, .call ⟨.builtin .clear,#[.tmp 31],#[t]⟩)]
 jH:np (oe (sub B [1,1,1,1,1,1,0])).toList [(J 32, .move (.tmp 0)),(J 6, .assign (.tmp 32))]
section
variable {P:bI} {f b f0 l a c:Nat} {fn:Func} {t e:bV} {i:TypeInfo} {c0:af} {m:Mem} {L:List af}
def asf (bF:P.funcs[f]? =J fn) (JK:fn.body.isSome=aa) (eT:lR P f=aa) (yU:3<=fn.ntmps) (oR:fn.results.toList=[.tmp 6]) (D:Tu t (en fn)) (aJ:P.underlying t=J (.slice e)) (az:P.info? e=J i) (bx:i.zero=J c0) (dw:c0.cells.toList.all dy=aa) (et:c0.cells.size=i.size)
  (bl:a<l) (ay:c=dc\/(c<dc/\l<=c)) (hm:m.blk b= .own L e) (dE:f0+l*i.size<=L.length):
  h2 P f #[.slice (J ⟨b,f0,ae⟩) l c, .int .i64 a, .int .i64 (a+1)] m λv m'=>v= .slice (J ⟨b,f0,ae⟩) (l - 1) (pc l c)/\
   m'=m.put b (.own (eY (eY L (f0+a*i.size) ((L.drop (f0+(a+1)*i.size)).take ((l - (a+1))*i.size))) (f0+(l - 1)*i.size) (gb 1 c0.cells.toList).flatten) e):=by
 have UX:fn.body=J (en fn):=by
  unfold en;cases aw:fn.body with
  |none=>grind
  |some _=>rfl
 refine h2.any bF (.inl UX) eT (by grind) λfr hU=> ?_;have amK:fr 0= .slice (J ⟨b,f0,ae⟩) l c:=hU 0 _ rfl;have f1:fr 1= .int .i64 a:=hU 1 _ rfl;have f2:fr 2= .int .i64 ((a+1:Nat):Int):=by grind
 rw[D.mS];unfold Z5;refine W.seq (W.region (ea.op D.bR (λq bm=> .pure (.move _ (.inr bm))) λos h=>ea.end h ?_));refine W.seq (W.region ?_);refine ea.op D.h1 (λq bm=> .pure (.move _ (.inl bm))) λos h=> ?_;refine ea.op h (λq bm=> .pure (.move _ (.inl bm))) λos h=>ea.op h (λq bm=> .pure (.move _ (.inl bm))) λos h=>ea.op h (λq bm=> .pure (.move _ (.inl bm))) λos h=> ?_;refine ea.op (v:= .int .i64 l) h (λq bm=> .pure (.len _ t e (J ⟨b,f0,ae⟩) l c bm aJ (by grind [bk,set]))) λos h=> ?_;refine ea.op (v:= .chan ae) h (λq bm=> .pure (.P5 t _ _ _ _ e i b f0 l c a (a+1) l .i64 .i64 .i64 bm aJ az (by grind [bk,set]) (ay.symm.imp (λh=>h) λh=>⟨h,e4 _⟩) (by grind [bk,set]) (by grind [bk,set]) (by rfl) (by omega) (by omega))) λos h=>ea.end h ?_;refine W.seq (W.seq (W.region ?_));refine ea.op D.ai (λq bm=> .pure (.move _ (.inl bm))) λos h=>ea.op h (λq bm=> .pure (.move _ (.inl bm))) λos h=> ?_;refine ea.op h (λq bm=> .pure (abO (k:= .i64) (a:=a) (b:=((a+1:Nat):Int)) bm (by grind [bk,set]) (by grind [bk,set]))) λos h=>ea.end h ?_;refine W.Z0 (t:=ak) (by grind [bk,set]) rfl (W.skip ?_);refine W.seq (W.region ?_);refine ea.op D.br (λq bm=> .pure (.move _ (.inl bm))) λos h=> ?_;refine ea.op (v:= .int .i64 l) h (λq bm=> .pure (.len _ t e (J ⟨b,f0,ae⟩) l c bm aJ (by grind [bk,set]))) λos h=>ea.op h (λq bm=> .pure (.move _ (.inr bm))) λos h=>ea.end h ?_;refine W.seq (W.calm D.ay ?_);refine ea.op D.cK (λq bm=> .pure (.move _ (.inl bm))) λos h=>ea.op h (λq bm=> .pure (.move _ (.inl bm))) λos h=> ?_;refine ea.op h (λq bm=>au8 (k:= .i64) bm aJ az (by simp[bk,set,amK];rfl) (by grind [bk,set]) bl ay hm) λos h=> ?_;refine ea.op h (λq bm=> .pure (.move _ (.inl bm))) λos h=>ea.op h (λq bm=> .pure (.move _ (.inl bm))) λos h=> ?_;refine ea.op h (λq bm=>au9 (k:= .i64) (a:=a+1) (c:=c) bm aJ az (by grind [bk,set]) (by grind [bk,set]) bl ay hm dE) λos h=> ?_;refine ea.op h (λq bm=>amx (c:=c) bm aJ az (by rfl) (by rfl) (auX ay _) bl ay hm dE) λos h=>ea.op h (λq bm=> .pure (.move _ (.inr bm))) λos h=>ea.end h ?_;have cN:(l - 1)*i.size+i.size=l*i.size:=by rw[<-IU];grind
 have Vk:(m.put b (.own (eY L (f0+a*i.size) ((L.drop (f0+(a+1)*i.size)).take ((l - (a+1))*i.size))) e)).blk b= .own (eY L (f0+a*i.size) ((L.drop (f0+(a+1)*i.size)).take ((l - (a+1))*i.size))) e:=if_pos rfl;refine W.seq (W.region ?_);refine ea.op D.fJ (λq bm=> .pure (.move _ (.inl bm))) λos h=>ea.op h (λq bm=> .pure (.move _ (.inl bm))) λos h=> ?_;refine ea.op (v:= .int .i64 ((l - 1:Nat):Int)) h (λq bm=> .pure (.len _ t e (J ⟨b,f0,ae⟩) (l - 1) (pc l c) bm aJ (by rfl))) λos h=>ea.op h (λq bm=> .pure (.move _ (.inl bm))) λos h=> ?_;refine ea.op h (λq bm=>au' (k:= .i64) (k':= .i64) (f0:=f0) (l:=l) (c:=c) bm aJ az (by rfl) (by rfl) (by rfl) (by omega) ay Vk) λos h=> ?_;refine ea.op h (λq bm=> .fX (.clear _ t e i c0 b _ 1 _ _ bm aJ az bx dw et (by rfl) Vk (by omega) (by grind [mB]))) λos h=>ea.end h ?_;refine W.seq (W.region ?_);refine ea.op D.jH (λq bm=> .pure (.move _ (.inl bm))) λos h=>ea.op h (λq bm=> .pure (.move _ (.inr bm))) λos h=>ea.end h (W.ret ?_);refine ⟨.inr rfl,[.slice (J ⟨b,f0,ae⟩) (l - 1) (pc l c)], ?_, .inl rfl,rfl, ?_⟩
 ·rw[oR];exact ⟨by rfl,trivial⟩
 grind [Mem.put]
def yC (c:Nat):Nat:=if c<dc then c else dc
theorem asj {j:cj} {x:Addr} {l n c:Nat} {bz:af} (h:de j (.slice (J x) n (pc l c)) bz) (ay:c=dc\/(c<dc/\l<=c)) (aR:0<l):de j (.slice (J x) n (yC c)) bz:=by
 unfold pc at h;unfold yC;rcases ay with rfl|⟨h1,ai⟩
 ·rw[if_neg (by omega)] at h⊢;obtain ⟨e,h1,ai,aT⟩:=h;refine ⟨e,h1,ai, .inr (.inl ?_)⟩;rcases aT with ⟨aT,_⟩|⟨aT,_⟩|⟨aT,_⟩|⟨aT,_⟩|⟨k,aT,br,cK,fJ,jH,n1,p5,rO,uN⟩
  ·omega
  ·omega
  ·omega
  ·grind
  grind
 grind
def ase {aK:Type} {T:cM aK} {z:Nat->bW} {eV:Mem} {k:Option Nat} {xs:List aK} {v:af} (n9:P.follows .mixedOrders=aa) (bF:P.funcs[f]? =J fn) (JK:fn.body.isSome=aa) (eT:lR P f=aa) (yU:3<=fn.ntmps) (oR:fn.results.toList=[.tmp 6]) (D:Tu t (en fn))
  (aJ:P.underlying t=J (.slice T.tid)) (az:P.info? T.tid=J i) (bx:i.zero=J c0) (dw:c0.cells.toList.all dy=aa) (et:c0.cells.size=i.size) (cN:i.size=T.bM) (h:dU T z eV m k xs v) (bl:a<xs.length):
  ∃b X cc,da v=J b/\da cc=J b/\h2 P f #[v, .int .i64 a, .int .i64 (a+1)] m (λu m'=>u=cc/\m'=m.put b X)/\dU T z eV (m.put b X) k (xs.eraseIdx a) cc:=by
 rcases h.bT with ⟨rfl,rfl⟩|⟨b,f0,L,c,rfl,g1,g2,g3,g4,g5,g6⟩
 ·grind
 have ay:c=dc\/(c<dc/\xs.length<=c):=g5.imp (λh=>h) λh=>⟨h.1,h.2.1⟩
 have dE:f0+xs.length*i.size<=L.length:=by grind
 obtain ⟨n,v0,m1,U0,rfl,rfl⟩:=asf bF JK eT yU oR D aJ az bx dw et bl ay g1 dE;have aoO:(a+1)*i.size+(xs.length - (a+1))*i.size=xs.length*i.size:=by rw[<-ko];grind
 have ayo:(xs.length - 1)*i.size+i.size=xs.length*i.size:=by rw[<-IU];grind
 have ayp:a*i.size+i.size=(a+1)*i.size:=(IU _ _).symm;have qR:((L.drop (f0+(a+1)*i.size)).take ((xs.length - (a+1))*i.size)).length=(xs.length - (a+1))*i.size:=by grind
 have abb:(gb 1 c0.cells.toList).flatten.length=i.size:=by grind
 generalize oM:(L.drop (f0+(a+1)*i.size)).take ((xs.length - (a+1))*i.size)=N at*;generalize axK:(gb 1 c0.cells.toList).flatten=Z at*;have anc:∀u∈N,u∈L:=λu hu=>by grind
 have axL:∀u∈Z,dy u=aa:=λu hu=>by grind
 refine ⟨b, .own (eY (eY L (f0+a*i.size) N) (f0+(xs.length - 1)*i.size) Z) T.tid, .slice (J ⟨b,f0,ae⟩) (xs.length - 1) (yC c),rfl,rfl,h2.sort (m':=m.put b (.own (eY (eY L (f0+a*i.size) N) (f0+(xs.length - 1)*i.size) Z) T.tid)) (v:= .slice (J ⟨b,f0,ae⟩) (xs.length - 1) (yC c)) eT ⟨e4 _,λdV=>⟨g2, ?_, ?_⟩,λj w kq dV cY eL=> ?_⟩ ⟨rfl,rfl⟩,⟨.inr ⟨b,f0,eY (eY L (f0+a*i.size) N) (f0+(xs.length - 1)*i.size) Z,yC c, ?_,if_pos rfl,g2,g3, ?_, ?_,λp x bb=> ?_⟩,h.fresh⟩⟩
 ·intro d bg;have bg:m.next<=d:=bg;simp only[Mem.put];rw[if_neg (by omega)];exact dV.dead d bg
 ·intro d;simp only[Mem.put];split
  ·have Ve:=dV.low b;rw[g1] at Ve;intro u hu;rcases r9 _ _ _ _ hu with hu|hu
   ·rcases r9 _ _ _ _ hu with hu|hu
    ·exact Ve u hu
    ·exact Ve u (anc u hu)
   grind [zq]
  ·exact dV.low d
 ·refine ((acd n9 n).2 _ _ _ _ _ U0 j w kq dV cY eL).2.mono ?_
  grind [asj]
 ·grind
 ·grind [mB]
 ·grind [mB,yC]
 ·rw[List.getElem?_eraseIdx] at bb;have key:∀(q:Nat) (bm:q=if p<a then p else p+1),xs[q]? =J x->∃cs,T.rd z x cs/\ql (eY (eY L (f0+a*i.size) N) (f0+(xs.length - 1)*i.size) Z) (f0+p*T.bM) cs:=by
   intro q bm an;obtain ⟨cs,c1,c2⟩:=g6 q x an;have yV:=(fq.1 an).1;refine ⟨cs,c1,λr u aV=> ?_⟩;have Bt:=(fq.1 aV).1;rw[T.len _ _ _ c1,<-cN] at Bt;have ai:=c2 r u aV;rw[<-cN] at ai⊢;have aax:p*i.size+i.size<=(xs.length - 1)*i.size:=by rw[<-IU];exact oH _ (by grind)
   rw[o5 _ _ _ _ (by grind [mB]),if_neg (by omega),o5 _ _ _ _ (by omega)];split at bm
   ·have Bf:p*i.size+i.size<=a*i.size:=by rw[<-IU];exact oH _ (by omega)
    grind
   ·have Bf:a*i.size<=p*i.size:=oH _ (by omega);have axM:q*i.size=p*i.size+i.size:=by grind
    rw[if_pos (by omega),<-oM,List.getElem?_take,if_pos (by omega),List.getElem?_drop,show f0+(a+1)*i.size+(f0+p*i.size+r - (f0+a*i.size))=f0+q*i.size+r by omega]
    grind
  grind
end
end Go.aF
end
section
namespace Go.aF
structure l6 (D:Nat->Type) where
 T:(t:Nat)->cM (D t)
 eo:(t:Nat)->D t->List af
section
variable (D:Nat->Type)
inductive cv where
 |int (k:aG) (n:Int)
 |bool (b:Bool)
 |str (s:List UInt8)
 |gE|za|oY
 |bh (e:Nat) (xs:List (D e))
 |mp (t bG bA:Nat) (es:List (D bG×D bA))
 |own (i:Nat)
 |wJ
 |fn (f:Nat) (is:List Nat)
inductive bc where
 |un|undef
 |c (v:cv D)
 |agg (t:Nat) (cs:List (cv D))
 |box (i off:Nat)
 |arr (i:Nat)
 |el (i e:Nat) (dx:Int) (off:Nat)
 |hd (t:Nat) (cs:List (cv D)) (off:Nat)
 |fn (f:Nat) (caps:List (Nat×List (cv D)))
 |sq (l:List (cv D⊕(Nat×List (cv D))))
 |cut (i e cf n:Nat)
 |full (e:Nat) (xs:List (D e))
 |wb (g:Nat) (s:List UInt8)
inductive ba where
 |dead
 |bh (e:Nat) (xs:List (D e)) (bZ w:Bool)
 |box (t:Nat) (cs:List (cv D)) (bZ w:Bool)
 |recv (t:Nat) (cs:List (cv D)) (w:Bool)
 |arr (e t n:Nat) (xs:List (D e)) (w:Bool)
 |map (t bG bA:Nat) (es:List (D bG×D bA)) (bZ w:Bool)
 |nest (e t:Nat) (up:Option (List (D t)->D e)) (eh:List (List (D t))) (hole:Option (Int×Nat)) (w:Bool)
end
section
variable {D:Nat->Type} (G:l6 D)
def l6.M (t bG bA:Nat):ph (D bG) (D bA):=⟨G.eo bG,G.eo bA,t⟩
def sQ (vs:List af) (i:Nat) (g:af):Prop:=vs[i]? =J g/\∃b,g= .pointer (J ⟨b,0,ae⟩)
def ed (z:Nat->bW) (vs:List af):cv D->af->Prop| .int k n,v=>v= .int k n| .bool b,v=>v= .bool b| .str s,v=>v=aF.str s| .gE,v=>v= .slice ae 0 0| .za,v=>v= .pointer ae| .oY,v=>v= .map ae| .bh e xs,v=>fA (G.T e) z xs v| .mp t bG bA es,v=>nn (G.M t bG bA) z es v| .own i,v=>vs[i]? =J v/\storable v=aa/\v.cells=#[v]| .wJ,v=>v= .nilFunc| .fn f is,v=>∃gs:List af,v= .func (.func f) #[] gs.toArray/\bP (sQ vs) is gs
def vt (z:Nat->bW) (vs:List af):cv D⊕(Nat×List (cv D))->af->Prop| .inl c,v=>ed G z vs c v| .inr p,v=>∃ds:List af,v= .agg ds.toArray/\bP (ed G z vs) p.2 ds
def lU (z:Nat->bW) (vs:List af) (cs:List (cv D)) (off:Nat) (v:af):Prop:=∃b o ds,v= .pointer (J ⟨b,o+off,ae⟩)/\o2 z b o ds/\bP (ed G z vs) cs ds
def pO (bM cf n:Nat) (w v:af):Prop:=
 (w= .slice ae 0 0/\v= .slice ae 0 0/\cf=0/\n=0)\/
 ∃b f0 l c off c3,w= .slice (J ⟨b,f0,ae⟩) l c/\v= .slice (J ⟨b,off,ae⟩) (n - cf) c3/\cf<=n/\n<=l/\(off=f0+cf*bM\/(n<=cf/\off=f0))/\((c=dc/\c3=dc)\/(c<dc/\c3=c - cf))
def rel (z:Nat->bW) (vs:List af):bc D->af->Prop| .un,_=>True| .undef,v=>v=_root_.Go.undef| .c c,v=>ed G z vs c v| .agg _ cs,v=>∃ds:List af,v= .agg ds.toArray/\bP (ed G z vs) cs ds| .box i off,v=>∃b,vs[i]? =J (.pointer (J ⟨b,0,ae⟩))/\v= .pointer (J ⟨b,off,ae⟩)| .arr i,v=>∃b l,vs[i]? =J (.slice (J ⟨b,0,ae⟩) l l)/\v= .pointer (J ⟨b,0,ae⟩)| .el i e dx off,v=>∃b f0 l c,vs[i]? =J (.slice (J ⟨b,f0,ae⟩) l c)/\v= .pointer (J ⟨b,f0+dx.toNat*(G.T e).bM+off,ae⟩)| .hd _ cs off,v=>lU G z vs cs off v| .fn f caps,v=>∃gs:List af,v= .func (.func f) #[] gs.toArray/\bP (λc g=>lU G z vs c.2 0 g) caps gs| .sq l,v=>∃ds:List af,v= .tuple ds.toArray/\bP (vt G z vs) l ds| .cut i e cf n,v=>∃w,ed G z vs (.own i) w/\pO (G.T e).bM cf n w v| .wb g s,v=>∃n:Nat,p2[n]? =J s/\v= .chan (J (g*4096+n))| .full e xs,v=>fA (G.T e) z xs v/\xs.length<dc/\∃a,v= .slice a xs.length xs.length
def rD (t:bV):cM af where
 bM:=1
 tid:=t
 rd:=λ_ v cs=>cs=[v]/\storable v=aa/\v.cells=#[v]
 len:=λ_ v cs h=>by rw[h.1];rfl
 mono:=λ_ _ _ _ _ h=>h
 one:=λ_ v cs h c ay=>by rw[h.1] at ay;simp at ay;subst ay;exact h.2
def ud {aK:Type} (T:cM aK) (z:Nat->bW) (n fz j:Nat) (xs:List aK) (w:af):Prop:=
 (w= .slice ae 0 0/\xs=[])\/
 ∃b f0 L c,w= .slice (J ⟨b,f0,ae⟩) xs.length c/\z b= .lock fz j L T.tid/\n<=b/\f0+xs.length*T.bM<=L.length/\(c=dc\/(c<dc/\xs.length<=c/\f0+c*T.bM<=L.length))/\
  ∀(i:Nat) (x:aK),xs[i]? =J x->∃cs,T.rd z x cs/\ql L (f0+i*T.bM) cs
def TC (z z':Nat->bW) (n:Nat):Prop:=∀b j L t,z b= .lock n j L t->z' b=z b
def ud.jP {aK:Type} {T:cM aK} {z z':Nat->bW} {n fz j:Nat} {xs:List aK} {w:af} (h:ud T z n fz j xs w) (bx:fl z z') (hk:TC z z' fz):ud T z' n fz j xs w:=by
 rcases h with h|⟨b,f0,L,c,h1,ai,aT,br,cK,fJ⟩
 ·exact .inl h
 ·refine .inr ⟨b,f0,L,c,h1,by rw[hk b j L _ ai];grind,aT,br,cK,λi x az=> ?_⟩;obtain ⟨cs,g1,g2⟩:=fJ i x az;exact ⟨cs,T.mono _ _ bx _ _ g1,g2⟩
def ud.Ja {aK:Type} {T:cM aK} {z:Nat->bW} {n n' fz j:Nat} {xs:List aK} {w:af} (h:ud T z n fz j xs w) (bB:n'<=n):ud T z n' fz j xs w:=by
 rcases h with h|⟨b,f0,L,c,h1,ai,aT,br⟩
 ·exact .inl h
 ·exact .inr ⟨b,f0,L,c,h1,ai,jd bB aT,br⟩
def fV (v:af):Nat:=match da v with|some b=>b+1|none=>0
def ZB (e t:Nat) (up:Option (List (D t)->D e)):Prop:=∀f,up=J f->(G.T e).bM=1/\(G.T e).tid=e/\∀z xs c,fA (G.T t) z xs c->(G.T e).rd z (f xs) [c]
structure um {aK:Type} (eV:Nat) (T:cM aK) (z:Nat->bW) (e m:Mem) (k:Option Nat) (vs:List af) (eh:List (List aK)) (hole:Option (Int×Nat)) (v:af) (ws:List af):Prop where
 bT:dU (rD eV) z e m k ws v
 len:ws.length=eh.length
 oU:∀(j:Nat) (w:af) (xs:List aK),ws[j]? =J w->eh[j]? =J xs->(∀p,hole=J p->(j:Int)≠p.1)->ud T z e.next (fV v) j xs w
 out:∀p,hole=J p->0<=p.1/\∃w,vs[p.2]? =J w/\ws[p.1.toNat]? =J w
def hf (z:Nat->bW) (e m:Mem) (k:Option Nat) (vs:List af):ba D->af->Prop| .dead,_=>True| .bh t xs ak _,v=>dU (G.T t) z e m k xs v| .bh t xs aa _,v=>fA (G.T t) z xs v| .box t cs ak _,v=>∃b ds,v= .pointer (J ⟨b,0,ae⟩)/\jQ z e m k b ds t/\e.next<=b/\bP (ed G z vs) cs ds| .box t cs aa _,v=>∃b ds,v= .pointer (J ⟨b,0,ae⟩)/\o2 z b 0 ds/\bP (ed G z vs) cs ds| .recv t cs _,v=>∃b ds,v= .pointer (J ⟨b,0,ae⟩)/\jQ z e m k b ds t/\bP (ed G z vs) cs ds| .arr t u n xs _,v=>(∃b,v= .slice (J ⟨b,0,ae⟩) n n)/\dU ((G.T t).as u) z e m k xs v| .map t bG bA es ak _,v=>jD (G.M t bG bA) z e m k es v| .map t bG bA es aa _,v=>nn (G.M t bG bA) z es v| .nest eV t up eh hole _,v=>ZB G eV t up/\∃ws,um eV (G.T t) z e m k vs eh hole v ws
def ba.live:ba D->Bool| .bh _ _ bZ _| .box _ _ bZ _| .map _ _ _ _ bZ _=> !bZ| .recv _ _ _| .arr _ _ _ _ _| .nest _ _ _ _ _ _=>aa| .dead=>ak
def ba.nd:ba D->Bool| .bh _ _ _ w| .box _ _ _ w| .recv _ _ w| .arr _ _ _ _ w| .map _ _ _ _ _ w=>w| .nest _ _ _ _ h w=>w||h.isSome| .dead=>aa
structure Inv (O cr:List (ba D)):Prop where
 len:O.length<=cr.length
 ew:∀(i:Nat) (o:ba D),i<O.length->cr[i]? =J o->o.live=aa->o.nd=ak->O[i]? =J o
theorem Inv.refl (O:List (ba D)):Inv O O:=⟨e4 _,λ_ _ _ h _ _=>h⟩
def Inv.trans {O cr uo:List (ba D)} (h:Inv O cr) (k:Inv cr uo):Inv O uo:=⟨jd h.len k.len,λi o az aM aR hw=>h.ew i o az (k.ew i o (hS az h.len) aM aR hw) aR hw⟩
def Inv.push (O:List (ba D)) (o:ba D):Inv O (O++[o]):=⟨by simp,λi p az bb _ _=>by grind⟩
theorem Inv.set (O:List (ba D)) (i:Nat) {o:ba D} (h:o.live=ak\/o.nd=aa):Inv O (O.set i o):=⟨by simp,λj p bn bb aR hw=>by
 grind⟩
def dQ:af->Option Nat| .slice (J a) _ _=>J a.block| .pointer (J a)=>J a.block| .map r=>r|_=>ae
theorem hi {v:af} (h:∀r,v≠ .map r):dQ v=da v:=by
 cases v with
 |slice a l c=>cases a<;>rfl
 |pointer a=>cases a<;>rfl
 |map r=>grind
 |_=>rfl
structure b9 (O:List (ba D)) (z:Nat->bW) (e m:Mem) (k:Option Nat) (vs:List af):Prop where
 aS:dL z e m k
 len:vs.length=O.length
 obj:∀(i:Nat) (o:ba D) (v:af),O[i]? =J o->vs[i]? =J v->hf G z e m k vs o v
 fD:∀(i j:Nat) (o p:ba D) (v w:af),i≠j->O[i]? =J o->O[j]? =J p->o.live=aa->p.live=aa->vs[i]? =J v->vs[j]? =J w->e6 (dQ v) (dQ w)
variable {G}
theorem ed.mono {z z':Nat->bW} {vs vs':List af} {c:cv D} {v:af} (h:ed G z vs c v) (bx:fl z z') (aD:∀(i:Nat) (u:af),vs[i]? =J u->vs'[i]? =J u):ed G z' vs' c v:=by
 cases c with
 |bh e xs=>exact fA.mono bx h
 |mp t bG bA es=>exact nn.mono h bx
 |own i=>exact ⟨aD _ _ h.1,h.2⟩
 |fn f is=>obtain ⟨gs,h1,ai⟩:=h;exact ⟨gs,h1,bP.mono (λ_ _ h=>⟨aD _ _ h.1,h.2⟩) ai⟩
 |_=>exact h
def pb.mono {z z':Nat->bW} {vs vs':List af} {cs:List (cv D)} {ds:List af} (h:bP (ed G z vs) cs ds) (bx:fl z z') (aD:∀(i:Nat) (u:af),vs[i]? =J u->vs'[i]? =J u):bP (ed G z' vs') cs ds:=bP.mono (λ_ _ h=>ed.mono h bx aD) h
def lU.mono {z z':Nat->bW} {vs vs':List af} {cs:List (cv D)} {off:Nat} {v:af} (h:lU G z vs cs off v) (bx:fl z z') (aD:∀(i:Nat) (u:af),vs[i]? =J u->vs'[i]? =J u):lU G z' vs' cs off v:=by
 obtain ⟨b,o,ds,h1,ai,aT⟩:=h;exact ⟨b,o,ds,h1,Kp bx ai,pb.mono aT bx aD⟩
def vt.mono {z z':Nat->bW} {vs vs':List af} {c:cv D⊕(Nat×List (cv D))} {v:af} (h:vt G z vs c v) (bx:fl z z') (aD:∀(i:Nat) (u:af),vs[i]? =J u->vs'[i]? =J u):vt G z' vs' c v:=by
 cases c with
 |inl c=>exact ed.mono h bx aD
 |inr p=>obtain ⟨ds,h1,ai⟩:=h;exact ⟨ds,h1,pb.mono ai bx aD⟩
def rel.mono {z z':Nat->bW} {vs vs':List af} {s:bc D} {v:af} (h:rel G z vs s v) (bx:fl z z') (aD:∀(i:Nat) (u:af),vs[i]? =J u->vs'[i]? =J u):rel G z' vs' s v:=by
 cases s with
 |un=>trivial
 |undef=>exact h
 |c c=>exact ed.mono h bx aD
 |agg t cs=>obtain ⟨ds,h1,ai⟩:=h;exact ⟨ds,h1,pb.mono ai bx aD⟩
 |box i off=>obtain ⟨b,h1,ai⟩:=h;exact ⟨b,aD _ _ h1,ai⟩
 |arr i=>obtain ⟨b,l,h1,ai⟩:=h;exact ⟨b,l,aD _ _ h1,ai⟩
 |el i e dx off=>obtain ⟨b,f0,l,c,h1,ai⟩:=h;exact ⟨b,f0,l,c,aD _ _ h1,ai⟩
 |hd t cs off=>exact lU.mono h bx aD
 |fn f caps=>obtain ⟨gs,h1,ai⟩:=h;exact ⟨gs,h1,bP.mono (λ_ _ h=>lU.mono h bx aD) ai⟩
 |sq l=>obtain ⟨ds,h1,ai⟩:=h;exact ⟨ds,h1,bP.mono (λ_ _ h=>vt.mono h bx aD) ai⟩
 |cut i e cf n=>obtain ⟨w,h1,ai⟩:=h;exact ⟨w,ed.mono h1 bx aD,ai⟩
 |full e xs=>exact ⟨fA.mono bx h.1,h.2⟩
 |wb g s=>exact h
theorem WR {vs:List af}:∀{is:List Nat} {gs:List af},bP (sQ vs) is gs->gs.all xr=aa
 |[],[],_=>rfl
 |[],_::_,h=>h.elim
 |_::_,[],h=>h.elim
 |_::_,_::_,⟨⟨_,_,h⟩,ai⟩=>by subst h;simp only[ml,WR ai,xr,Bool.and_self]
def ed.afp {z:Nat->bW} {vs:List af} {c:cv D} {v:af} (h:ed G z vs c v):storable v=aa/\v.cells=#[v]:=by
 cases c with
 |bh e xs=>obtain ⟨a,c,rfl⟩:=fA.len h;exact ⟨rfl,rfl⟩
 |mp t bG bA es=>rcases h with ⟨rfl,_⟩|⟨r,rfl,_⟩<;>exact ⟨rfl,rfl⟩
 |own i=>exact h.2
 |fn f is=>obtain ⟨gs,rfl,ai⟩:=h;exact ⟨by grind [storable,WR],rfl⟩
 |_=>obtain rfl:=h;exact ⟨rfl,rfl⟩
def hf.same {z:Nat->bW} {e m m':Mem} {k q:Option Nat} {vs vs':List af} {o:ba D} {v:af} (h:hf G z e m k vs o v) (s:gl m m' q) (fD:o.live=aa->e6 (dQ v) q) (aD:∀(i:Nat) (u:af),vs[i]? =J u->vs'[i]? =J u):hf G z e m' k vs' o v:=by
 have Yq:=fl.refl z;cases o with
 |dead=>trivial
 |bh t xs bZ w=>
  cases bZ with
  |true=>exact h
  |false=>have h:dU (G.T t) z e m k xs v:=h;have fD:=fD rfl;rw[hi (by obtain ⟨a,c,rfl⟩:=h.bT.len;grind)] at fD;exact h.same s fD
 |box t cs bZ w=>
  cases bZ with
  |true=>obtain ⟨b,ds,h1,ai,aT⟩:=h;exact ⟨b,ds,h1,ai,pb.mono aT Yq aD⟩
  |false=>obtain ⟨b,ds,rfl,ai,br,aT⟩:=h;exact ⟨b,ds,rfl,ai.same s (fD rfl),br,pb.mono aT Yq aD⟩
 |recv t cs w=>obtain ⟨b,ds,rfl,ai,aT⟩:=h;exact ⟨b,ds,rfl,ai.same s (fD rfl),pb.mono aT Yq aD⟩
 |arr t u n xs w=>obtain ⟨⟨b,rfl⟩,h⟩:=h;exact ⟨⟨b,rfl⟩,h.same s (fD rfl)⟩
 |map t bG bA es bZ w=>
  cases bZ with
  |true=>exact h
  |false=>have h:jD (G.M t bG bA) z e m k es v:=h;have fD:=fD rfl;obtain ⟨r,rfl,_⟩:=h.bT;exact h.same s fD
 |nest eV t up eh hole w=>
  obtain ⟨hu,ws,h⟩:=h;have fD:=fD rfl;rw[hi (by obtain ⟨a,c,rfl⟩:=h.bT.bT.len;grind)] at fD;refine ⟨hu,ws,h.bT.same s fD,h.len,h.oU,λp bb=> ?_⟩;obtain ⟨bR,u,h1,ai⟩:=h.out p bb
  grind
def hf.jP {z z':Nat->bW} {e m:Mem} {k:Option Nat} {vs:List af} {o:ba D} {v:af} (h:hf G z e m k vs o v) (bx:fl z z') (aw:o.live=aa->∀b,dQ v=J b->z' b=z b) (hk:o.live=aa->TC z z' (fV v)):hf G z' e m k vs o v:=by
 have aD:∀(i:Nat) (u:af),vs[i]? =J u->vs[i]? =J u:=λ_ _ h=>h;cases o with
 |dead=>trivial
 |bh t xs bZ w=>
  cases bZ with
  |true=>exact fA.mono bx h
  |false=>have h:dU (G.T t) z e m k xs v:=h;have aw:=aw rfl;rw[hi (by obtain ⟨a,c,rfl⟩:=h.bT.len;grind)] at aw;exact h.jP bx aw
 |box t cs bZ w=>
  cases bZ with
  |true=>obtain ⟨b,ds,h1,ai,aT⟩:=h;exact ⟨b,ds,h1,Kp bx ai,pb.mono aT bx aD⟩
  |false=>obtain ⟨b,ds,rfl,ai,br,aT⟩:=h;exact ⟨b,ds,rfl,ai.jP (aw rfl),br,pb.mono aT bx aD⟩
 |recv t cs w=>obtain ⟨b,ds,rfl,ai,aT⟩:=h;exact ⟨b,ds,rfl,ai.jP (aw rfl),pb.mono aT bx aD⟩
 |arr t u n xs w=>obtain ⟨⟨b,rfl⟩,h⟩:=h;exact ⟨⟨b,rfl⟩,h.jP bx (aw rfl)⟩
 |map t bG bA es bZ w=>
  cases bZ with
  |true=>exact nn.mono h bx
  |false=>have h:jD (G.M t bG bA) z e m k es v:=h;have aw:=aw rfl;obtain ⟨r,rfl,_⟩:=h.bT;exact h.jP bx aw
 |nest eV t up eh hole w=>obtain ⟨hu,ws,h⟩:=h;have aw:=aw rfl;rw[hi (by obtain ⟨a,c,rfl⟩:=h.bT.bT.len;grind)] at aw;exact ⟨hu,ws,h.bT.jP bx aw,h.len,λj w xs h1 ai aT=>(h.oU j w xs h1 ai aT).jP bx (hk rfl),h.out⟩
def hf.lt {z:Nat->bW} {e m:Mem} {k:Option Nat} {vs:List af} {o:ba D} {v:af} (h:hf G z e m k vs o v) (aR:o.live=aa):∀b,dQ v=J b->b<m.next/\z b= .dead/\(e.next<=b\/k=J b):=by
 cases o with
 |dead=>cases aR
 |bh t xs bZ w=>
  cases bZ with
  |true=>cases aR
  |false=>have h:dU (G.T t) z e m k xs v:=h;rw[hi (by obtain ⟨a,c,rfl⟩:=h.bT.len;grind)];exact λb aw=>⟨h.lt b aw,h.bm b aw⟩
 |box t cs bZ w=>
  cases bZ with
  |true=>cases aR
  |false=>obtain ⟨b,ds,rfl,ai,br,aT⟩:=h;intro c ay;cases ay;exact ⟨ai.lt,ai.dead,ai.fresh⟩
 |recv t cs w=>obtain ⟨b,ds,rfl,ai,aT⟩:=h;intro c ay;cases ay;exact ⟨ai.lt,ai.dead,ai.fresh⟩
 |arr t u n xs w=>obtain ⟨⟨b,rfl⟩,h⟩:=h;intro c ay;cases ay;exact ⟨h.lt b rfl,h.bm b rfl⟩
 |map t bG bA es bZ w=>
  cases bZ with
  |true=>cases aR
  |false=>have h:jD (G.M t bG bA) z e m k es v:=h;obtain ⟨r,rfl,_⟩:=h.bT;exact λb aw=>⟨h.lt b aw,h.bm b aw⟩
 |nest eV t up eh hole w=>obtain ⟨hu,ws,h⟩:=h;rw[hi (by obtain ⟨a,c,rfl⟩:=h.bT.bT.len;grind)];exact λb aw=>⟨h.bT.lt b aw,h.bT.bm b aw⟩
variable {O:List (ba D)} {z z':Nat->bW} {e m m':Mem} {k q:Option Nat} {vs:List af}
def b9.at (h:b9 G O z e m k vs) {i:Nat} {o:ba D} (aM:O[i]? =J o):∃v,vs[i]? =J v/\hf G z e m k vs o v:=by
 have cF:=(fq.1 aM).1;have aaV:i<vs.length:=by rw[h.len];grind
 exact ⟨vs[i],mm aaV,h.obj i o _ aM (mm aaV)⟩
def b9.pF (h:b9 G O z e m k vs) {i:Nat} {o o':ba D} {v:af} (aM:O[i]? =J o) (aD:vs[i]? =J v) (aR:o.live=aa) (s:gl m m' (dQ v)) (aS:dL z e m' k) (bB:hf G z e m' k vs o' v):b9 G (O.set i o') z e m' k vs:=by
 have cF:=(fq.1 aM).1;refine ⟨aS,by rw[sJ];exact h.len,λj p w bn hw=> ?_,λa b p ka u w jV bl aw hr lO hu hw=> ?_⟩
 ·rw[ll] at bn;split at bn
  ·grind
  ·rename_i hq;exact (h.obj j p w bn hw).same s (λbb=>h.fD j i p o w v (λe=>hq e.symm) bn aM bb aR hw aD) λ_ _ h=>h
 ·have key:∀(a:Nat) (p:ba D),(O.set i o')[a]? =J p->p.live=aa->∃qj,O[a]? =J qj/\qj.live=aa:=by
   grind
  obtain ⟨kN,g1,g2⟩:=key a p bl hr;obtain ⟨iS,g3,g4⟩:=key b ka aw lO;exact h.fD a b kN iS u w jV g1 g3 g2 g4 hu hw
def j0 {vs ws:List af}:∀(i:Nat) (u:af),vs[i]? =J u->(vs++ws)[i]? =J u:=λi u h=>by
 grind
def b9.push (h:b9 G O z e m k vs) {o':ba D} {cc:af} (s:gl m m' q) (aS:dL z e m' k) (bm:∀(i:Nat) (o:ba D) (v:af),O[i]? =J o->vs[i]? =J v->o.live=aa->e6 (dQ v) q)
  (bB:hf G z e m' k (vs++[cc]) o' cc) (fP:∀p,(∀b,p=J b->b<m.next)->e6 p q->e6 p (dQ cc)):b9 G (O++[o']) z e m' k (vs++[cc]):=by
 refine ⟨aS,by simp[h.len],λj p w bn hw=> ?_,λa b p ka u w jV bl aw hr lO hu hw=> ?_⟩
 ·by_cases cF:j<O.length
  ·rw[kS cF] at bn;rw[kS (by rw[h.len];grind)] at hw;exact (h.obj j p w bn hw).same s (λbb=>bm j p w bn hw bb) j0
  ·rw[kT (by omega)] at bn;rw[kT (by rw[h.len];omega),h.len] at hw
   grind
 ·have ew:∀(a:Nat) (p:ba D) (u:af),a<O.length->(O++[o'])[a]? =J p->(vs++[cc])[a]? =J u->O[a]? =J p/\vs[a]? =J u:=by
   intro a p u cF bl hu;rw[kS cF] at bl;rw[kS (by rw[h.len];grind)] at hu
   grind
  have new:∀(a:Nat) (p:ba D) (u:af),¬a<O.length->(O++[o'])[a]? =J p->(vs++[cc])[a]? =J u->a=O.length/\u=cc:=by
   intro a p u cF bl hu;rw[kT (by omega)] at bl;have bR:a - O.length=0:=by grind
   rw[kT (by rw[h.len];omega),h.len,bR] at hu
   grind
  have lt:∀(a:Nat) (p:ba D) (u:af),O[a]? =J p->vs[a]? =J u->p.live=aa->e6 (dQ u) (dQ cc):=λa p u bl hu aR=>fP _ (λb aw=>((h.obj a p u bl hu).lt aR b aw).1) (bm a p u bl hu aR);by_cases h1:a<O.length
  ·obtain ⟨ec,a2⟩:=ew a p u h1 bl hu;by_cases ai:b<O.length
   ·obtain ⟨js,jR⟩:=ew b ka w ai aw hw;exact h.fD a b p ka u w jV ec js hr lO a2 jR
   grind
  ·obtain ⟨bX,rfl⟩:=new a p u h1 bl hu;by_cases ai:b<O.length
   ·obtain ⟨js,jR⟩:=ew b ka w ai aw hw;exact (lt b ka w js jR lO).symm
   grind
theorem b9.jT (h:b9 G O z e m k vs) {i:Nat} {o o':ba D} {v:af} (aM:O[i]? =J o) (aD:vs[i]? =J v) (aR:o.live=aa) (hB:o'.live=ak) (bx:fl z z') (aS:dL z' e m k) (aw:∀p,e6 p (dQ v)->∀b,p=J b->z' b=z b) (bB:hf G z' e m k vs o' v):b9 G (O.set i o') z' e m k vs:=by
 have cF:=(fq.1 aM).1;refine ⟨aS,by rw[sJ];exact h.len,λj p w bn hw=> ?_,λa b p ka u w jV bl e5 hr lO hu hw=> ?_⟩
 ·rw[ll] at bn;split at bn
  ·grind
  ·rename_i hq;exact (h.obj j p w bn hw).jP bx (λbb=>aw _ (h.fD j i p o w v (λe=>hq e.symm) bn aM bb aR hw aD)) λ_ b j L t e5=>aw (J b) (λc ay qa=>by
    cases ay;have:=((h.obj i o v aM aD).lt aR b qa).2.1
    grind) b rfl
 ·have key:∀(a:Nat) (p:ba D),(O.set i o')[a]? =J p->p.live=aa->O[a]? =J p:=by
   grind
  exact h.fD a b p ka u w jV (key a p bl hr) (key b ka e5 lO) hr lO hu hw
end
end Go.aF
end
section
namespace Go.aF
section
variable {D:Nat->Type} {G:l6 D} {O:List (ba D)} {z z':Nat->bW} {e m m':Mem} {k q:Option Nat} {vs vs':List af}
theorem LI {v w:af} (h:e6 (da v) (da w)):fV v≠fV w\/fV v=0:=by
 unfold fV;cases aD:da v with
 |none=>grind
 |some b=>
  cases hw:da w with
  |none=>grind
  |some c=>
   refine .inl λcp=>h b aD ?_
   grind
theorem WT {r:Option Nat}:fV (.map r)=0:=rfl
def b9.Hr (h:b9 G O z e m k vs) {i:Nat} {o o':ba D} {v:af} {p:Option Nat} (aM:O[i]? =J o) (aD:vs[i]? =J v) (aR:o.live=aa) (rY:∀r,v≠ .map r) (bx:fl z z') (s:gl m m' (dQ v)) (aS:dL z' e m' k)
  (bb:∀(j:Nat) (q:ba D) (w:af),j≠i->O[j]? =J q->q.live=aa->vs[j]? =J w->e6 (dQ w) p)
  (aoy:∀b,p=J b->z b= .dead)
  (aw:∀b,dQ v≠J b->p≠J b->(fV v=0\/∀j L t,z b≠ .lock (fV v) j L t)->z' b=z b) (bB:hf G z' e m' k vs o' v):b9 G (O.set i o') z' e m' k vs:=by
 have cF:=(fq.1 aM).1;refine ⟨aS,by rw[sJ];exact h.len,λj q w bn hw=> ?_,λa b fv fQ u w jV bl e5 hr lO hu hw=> ?_⟩
 ·rw[ll] at bn;split at bn
  ·grind
  ·rename_i hq;have cG:=h.obj j q w bn hw;refine ((cG.same s (λbm=>h.fD j i q o w v (λe=>hq e.symm) bn aM bm aR hw aD) λ_ _ h=>h).jP bx (λbm b UY=> ?_) λbm b c6 L t s8=> ?_)
   ·have h1:=cG.lt bm b UY;refine aw b (h.fD j i q o w v (λe=>hq e.symm) bn aM bm aR hw aD b UY) (bb j q w (λe=>hq e.symm) bn bm hw b UY) (.inr λj L t cp=> ?_)
    grind
   ·refine aw b (λcp=> ?_) (λcp=> ?_) ?_
    ·have:=((h.obj i o v aM aD).lt aR b cp).2.1
     grind
    ·grind
    ·by_cases bR:fV v=0
     ·grind
     ·refine .inr λr2 bP t2 cp=> ?_;rw[s8] at cp;have bX:fV w=fV v:=by grind
      have fP:=h.fD j i q o w v (λe=>hq e.symm) bn aM bm aR hw aD
      grind [hi,WT,LI]
 ·have key:∀(a:Nat) (p:ba D),(O.set i o')[a]? =J p->p.live=aa->∃qj,O[a]? =J qj/\qj.live=aa:=by
   grind
  obtain ⟨kN,g1,g2⟩:=key a fv bl hr;obtain ⟨iS,g3,g4⟩:=key b fQ e5 lO;exact h.fD a b kN iS u w jV g1 g3 g2 g4 hu hw
def b9.V4 (h:b9 G O z e m k vs) {o':ba D} {cc:af} (bB:hf G z e m k (vs++[cc]) o' cc) (fP:o'.live=aa->∀(j:Nat) (q:ba D) (w:af),O[j]? =J q->q.live=aa->vs[j]? =J w->e6 (dQ w) (dQ cc)):b9 G (O++[o']) z e m k (vs++[cc]):=by
 have ew:∀(a:Nat) (p:ba D) (u:af),(O++[o'])[a]? =J p->(vs++[cc])[a]? =J u->(O[a]? =J p/\vs[a]? =J u)\/(a=O.length/\p=o'/\u=cc):=by
  intro a p u bl hu;by_cases cF:a<O.length
  ·rw[kS cF] at bl;rw[kS (by rw[h.len];grind)] at hu
   grind
  ·have bR:=(fq.1 bl).1;simp at bR;have:a=O.length:=by omega
   subst this;rw[kT (by omega)] at bl;rw[kT (by rw[h.len];omega),h.len] at hu
   grind
 refine ⟨h.aS,by simp[h.len],λj p w bn hw=> ?_,λa b p ka u w jV bl aw hr lO hu hw=> ?_⟩
 ·rcases ew j p w bn hw with ⟨h1,ai⟩|⟨_,rfl,rfl⟩
  ·exact (h.obj j p w h1 ai).same (q:=ae) ⟨e4 _,h.aS.dead,λ_ _ _=>rfl⟩ (λ_=>e6.qg) j0
  grind
 ·rcases ew a p u bl hu with ⟨ec,a2⟩|⟨bX,rfl,rfl⟩
  ·rcases ew b ka w aw hw with ⟨js,jR⟩|⟨e2,rfl,rfl⟩
   ·exact h.fD a b p ka u w jV ec js hr lO a2 jR
   grind
  ·rcases ew b ka w aw hw with ⟨js,jR⟩|⟨e2,rfl,rfl⟩
   ·exact (fP hr b ka w js lO jR).symm
   grind
def b9.awv (h:b9 G O z e m k vs) {i:Nat} {o':ba D} {v:af} (az:i<O.length) (aD:vs[i]? =J v) (bB:hf G z e m k vs o' v) (fP:∀(j:Nat) (q:ba D) (w:af),j≠i->O[j]? =J q->q.live=aa->vs[j]? =J w->e6 (dQ w) (dQ v)):b9 G (O.set i o') z e m k vs:=by
 have ew:∀(a:Nat) (p:ba D),(O.set i o')[a]? =J p->(a≠i/\O[a]? =J p)\/(a=i/\p=o'):=by
  grind
 refine ⟨h.aS,by rw[sJ];exact h.len,λj p w bn hw=> ?_,λa b p q u w jV bl aw hr lO hu hw=> ?_⟩
 ·rcases ew j p bn with ⟨_,h1⟩|⟨rfl,rfl⟩
  ·exact h.obj j p w h1 hw
  grind
 ·rcases ew a p bl with ⟨ec,a2⟩|⟨rfl,rfl⟩
  ·rcases ew b q aw with ⟨js,jR⟩|⟨rfl,rfl⟩
   ·exact h.fD a b p q u w jV a2 jR hr lO hu hw
   grind
  ·rcases ew b q aw with ⟨js,jR⟩|⟨rfl,rfl⟩
   ·rw[aD] at hu;cases hu;exact (fP b q w js jR lO hw).symm
   grind
variable {aK:Type} {T:cM aK} {eV:Nat} {eh:List (List aK)} {ws:List af} {v:af}
open Classical in
noncomputable def se (z:Nat->bW) (n:Nat) (e m:Mem) (v:af):Nat->bW:=λb=>
 match z b with
 | .lock n' j L t=>if n'=n/\n≠0/\e.next<=b then .own L t else .lock n' j L t
 |x=>if da v=J b then m.blk b else x
def aqd {cg:Type} {yr:cM cg} {f:List aK->cg} (h:um eV T z e m k vs eh ae v ws) (h1:yr.bM=1) (ai:yr.tid=eV) (aV:∀z xs c,fA T z xs c->yr.rd z (f xs) [c]) (aS:dL z e m k):
  ∃z',dT e.next z z'/\dL z' e m k/\fA yr z' (eh.map f) v/\∀b,dQ v≠J b->(fV v=0\/∀j L t,z b≠ .lock (fV v) j L t)->z' b=z b:=by
 have aD:dQ v=da v:=hi (by obtain ⟨a,c,rfl⟩:=h.bT.bT.len;grind);have Bj:=λb (aw:da v=J b)=>(h.bT.bT.lt b aw).2;have other:∀b,da v≠J b->(∀n j L t,z b≠ .lock n j L t)->se z (fV v) e m v b=z b:=by
  grind [se]
 have an5:∀b n j L t,z b= .lock n j L t->se z (fV v) e m v b=if n=fV v/\fV v≠0/\e.next<=b then .own L t else .lock n j L t:=by
  grind [se]
 have ta:∀b,da v=J b->se z (fV v) e m v b=m.blk b:=by
  grind [se]
 have hle:fl z (se z (fV v) e m v):=λb aw=>other b (λcp=>by rw[Bj b cp] at aw;exact aw) λn j L t cp=>by rw[cp] at aw;exact aw
 refine ⟨se z (fV v) e m v,⟨hle,λb aw=> ?_⟩,⟨λb aw=> ?_,aS.dead,aS.oL,aS.next,aS.kept⟩, ?_,λb aw bB=> ?_⟩
 ·cases bx:z b with
  |lock n j L t=>grind
  |_=>
   have:=other b (λcp=>by have:=h.bT.fresh b cp;omega) (λn j L t cp=>by grind)
   grind
 ·by_cases kI:da v=J b
  ·rw[ta b kI];have:=h.bT.abw b kI
   grind
  ·cases bx:z b with
   |lock n j L t=>
    have:=aS.bZ b (by grind);rw[bx] at this;rw[an5 b n j L t bx];split
    ·exact this
    grind
   |_=>have aT:=other b kI (λn j L t cp=>by rw[bx] at cp;cases cp);rw[aT] at aw⊢;exact aS.bZ b aw
 ·have oU:∀(j:Nat) (w:af) (xs:List aK),ws[j]? =J w->eh[j]? =J xs->fA T (se z (fV v) e m v) xs w:=by
   intro j w xs hw an;rcases h.oU j w xs hw an (λp bb=>by grind) with cp|⟨b,f0,L,c,rfl,g2,g3,g4,g5,g6⟩
   ·exact .inl cp
   ·have r1:se z (fV v) e m v b= .own L T.tid:=by
     have bR:fV v≠0:=by
      intro bR;unfold fV at bR;rcases h.bT.bT with ⟨rfl,tk⟩|⟨dJ,o',L',c3,rfl,_⟩
      ·grind
      grind [da]
     grind
    refine .inr ⟨b,f0,c,rfl,by rw[r1];exact fs, ?_,λi x az=> ?_⟩
    ·grind
    ·obtain ⟨cs,fv,fQ⟩:=g6 i x az;refine ⟨cs,T.mono _ _ hle _ _ fv,λa u bl=> ?_⟩;simp only[nH,r1];exact fQ a u bl
  rcases h.bT.bT with ⟨rfl,tk⟩|⟨b,f0,L,c,rfl,g1,g2,g3,g4,g5,g6⟩
  ·have:eh=[]:=List.length_eq_zero_iff.1 (by rw[<-h.len,tk];rfl);subst this;exact .inl ⟨rfl,rfl⟩
  ·have r1:=ta b rfl;rw[g1] at r1;have aR:(eh.map f).length=ws.length:=by rw[List.length_map,h.len]
   refine .inr ⟨b,f0,c,by grind,by rw[r1];exact fs, ?_,λi x az=> ?_⟩
   ·rcases g5 with g5|⟨g5,g7,_⟩
    ·exact .inl ⟨g5,L,by rw[r1,ai];rfl,by rw[aR,h1];exact g4⟩
    grind
   ·rw[sH] at az;obtain ⟨xs,an,rfl⟩:=Option.map_eq_some_iff.1 az;have cF:i<ws.length:=by grind
    have hw:=mm cF;obtain ⟨cs,fv,fQ⟩:=g6 i _ hw;refine ⟨[ws[i]],aV _ _ _ (oU i _ xs hw an),λa u bl=> ?_⟩;rw[fv.1] at fQ;simp only[nH,r1,h1];exact fQ a u bl
 grind
def arD {J7 j:Nat} {w:af} {xs:List aK} (h:um eV T z e m k vs eh ae v ws) (aS:dL z e m k) (hw:ws[j]? =J w) (an:eh[j]? =J xs) (bn:∀(i:Nat) (u:af),vs[i]? =J u->vs'[i]? =J u) (ax3:vs'[J7]? =J w):
  ∃z',dT e.next z z'/\dL z' e m k/\um eV T z' e m k vs' eh (J ((j:Int),J7)) v ws/\dU T z' e m k xs w/\(∀b,z' b=z b\/da w=J b/\fV v≠0/\∃L t,z b= .lock (fV v) j L t)/\∀b,da w=J b->z b≠ .dead:=by
 have keep:∀{z'},fl z z'->(∀b,z' b=z b\/da w=J b/\fV v≠0/\∃L t,z b= .lock (fV v) j L t)->(∀b,da v=J b->z' b=z b)->um eV T z' e m k vs' eh (J ((j:Int),J7)) v ws:=by
  intro z' hle s3 qU;refine ⟨h.bT.jP hle qU,h.len,λr2 ix Yi g1 g2 g3=> ?_,λp bb=>by grind⟩;have gT:r2≠j:=λcp=>g3 _ rfl (by grind);rcases h.oU r2 ix Yi g1 g2 (λp bb=>by grind) with cp|⟨b,f0,L,c,fv,fQ,kb,nb,r8,q0⟩
  ·exact .inl cp
  ·refine .inr ⟨b,f0,L,c,fv, ?_,kb,nb,r8,λi x az=> ?_⟩
   ·grind
   ·obtain ⟨cs,oq,o9⟩:=q0 i x az;exact ⟨cs,T.mono _ _ hle _ _ oq,o9⟩
 rcases h.oU j w xs hw an (λp bb=>by grind) with ⟨rfl,rfl⟩|⟨b,f0,L,c,rfl,g2,g3,g4,g5,g6⟩
 ·exact ⟨z,dT.refl z,aS,keep (fl.refl z) (λb=> .inl rfl) (λ_ _=>rfl),dU.nil,λb=> .inl rfl,λb aw=>by cases aw⟩
 ·have bR:fV v≠0:=by
   intro bR;unfold fV at bR;rcases h.bT.bT with ⟨rfl,tk⟩|⟨dJ,o',L',c3,rfl,_⟩
   ·grind
   grind [da]
  let z':Nat->bW:=λc=>if c=b then .dead else z c
  have bX:z' b= .dead:=if_pos rfl;have e2:∀c,c≠b->z' c=z c:=λc ay=>if_neg ay;have hle:fl z z':=λc ay=>e2 c (λcp=>by rw[cp,g2] at ay;exact ay);have s3:∀c3,z' c3=z c3\/da (pr (J ⟨b,f0,ae⟩) xs.length c)=J c3/\fV v≠0/\∃L t,z c3= .lock (fV v) j L t:=λc3=>by
   by_cases ay:c3=b
   ·subst ay;exact .inr ⟨rfl,bR,L,_,g2⟩
   grind
  have wj:=aS.bZ b (by grind);rw[g2] at wj;refine ⟨z',⟨hle,λc ay=>e2 c (by omega)⟩,⟨λc ay=> ?_,aS.dead,aS.oL,aS.next,aS.kept⟩,keep hle s3 (λc ay=>e2 c (λcp=> ?_)),⟨.inr ⟨b,f0,L,c,rfl,wj.1,wj.2,bX,g4,g5,λi x az=> ?_⟩,λc ay=>by grind⟩,s3,λc ay=>by grind⟩
  ·by_cases gN:c=b
   ·grind
   ·rw[e2 c gN] at ay⊢;exact aS.bZ c ay
  ·subst cp;have:=(h.bT.bT.lt c ay).2
   grind
  ·obtain ⟨cs,oq,o9⟩:=g6 i x az;exact ⟨cs,T.mono _ _ hle _ _ oq,o9⟩
def W6 {hole:Option (Int×Nat)} {j:Nat} {w:af} {xs:List aK} {zT:List af} (h:um eV T z e m k vs eh hole v ws) (aS:dL z e m' k) (aM:dU (rD eV) z e m' k zT v) (tk:zT=ws.set j w) (bn:j<ws.length) (cp:∀p,hole=J p->p.1=(j:Int)) (hw:dU T z e m' k xs w) (fP:e6 (da w) (da v)):
  ∃z',dT e.next z z'/\dL z' e m' k/\um eV T z' e m' k vs (eh.set j xs) ae v zT/\∀b,z' b=z b\/da w=J b:=by
 have keep:∀{z'},fl z z'->(∀b,z' b=z b\/da w=J b)->ud T z' e.next (fV v) j xs w->um eV T z' e m' k vs (eh.set j xs) ae v zT:=by
  intro z' hle s3 s6;refine ⟨aM.jP hle λb aw=> ?_,by rw[tk,sJ,sJ];exact h.len,λr2 ix Yi g1 g2 g3=> ?_,λp bb=>by grind⟩
  ·rcases s3 b with ay|ay
   ·grind
   ·exact absurd aw (fP b ay)
  ·rw[tk,ll] at g1;rw[ll] at g2;by_cases he:j=r2
   ·grind
   ·rw[if_neg he] at g1 g2;rcases h.oU r2 ix Yi g1 g2 (λp bb ax0=>he (by grind)) with ay|⟨b,f0,L,c,fv,fQ,kb,nb,r8,q0⟩
    ·exact .inl ay
    ·refine .inr ⟨b,f0,L,c,fv, ?_,kb,nb,r8,λi x az=> ?_⟩
     ·rcases s3 b with ay|ay
      ·grind
      ·have:=(hw.bT.lt b ay).2
       grind
     ·obtain ⟨cs,oq,o9⟩:=q0 i x az;exact ⟨cs,T.mono _ _ hle _ _ oq,o9⟩
 rcases hw.bT with ⟨rfl,rfl⟩|⟨b,f0,L,c,rfl,g1,g2,g3,g4,g5,g6⟩
 ·exact ⟨z,dT.refl z,aS,keep (fl.refl z) (λb=> .inl rfl) (.inl ⟨rfl,rfl⟩),λb=> .inl rfl⟩
 ·let z':Nat->bW:=λc=>if c=b then .lock (fV v) j L T.tid else z c
  have bX:z' b= .lock (fV v) j L T.tid:=if_pos rfl;have e2:∀c,c≠b->z' c=z c:=λc ay=>if_neg ay;have hle:fl z z':=λc ay=>e2 c (λcp=>by rw[cp,g3] at ay;exact ay);have s3:∀c3,z' c3=z c3\/da (pr (J ⟨b,f0,ae⟩) xs.length c)=J c3:=λc3=>by
   by_cases ay:c3=b
   ·subst ay;exact .inr rfl
   grind
  have hU:=hw.fresh b rfl;refine ⟨z',⟨hle,λc ay=>e2 c (by omega)⟩,⟨λc ay=> ?_,aS.dead,aS.oL,aS.next,aS.kept⟩,keep hle s3 (.inr ⟨b,f0,L,c,rfl,bX,hU,g4,g5,λi x az=> ?_⟩),s3⟩
  ·by_cases gN:c=b
   ·subst gN;rw[bX];exact ⟨g1,g2⟩
   ·rw[e2 c gN] at ay⊢;exact aS.bZ c ay
  ·obtain ⟨cs,oq,o9⟩:=g6 i x az;exact ⟨cs,T.mono _ _ hle _ _ oq,o9⟩
end
end Go.aF
end
section
namespace Go.aF
noncomputable section
section
variable {P:bI} {D:Nat->Type}
def zM:cv D->Bool| .gE| .za| .oY| .own _=>ak|_=>aa
def qf:cv D->Bool| .own _=>ak| .fn _ is=>is.isEmpty|_=>aa
def pR:List (cv D)->List (cv D)->Prop|[],[]=>True|c::cs,d::ds=>(zM c=aa->d=c)/\pR cs ds|_,_=>False
def pR.eq:∀{cs ds:List (cv D)},pR cs ds->cs.all zM=aa->cs=ds
 |[],[],_,_=>rfl
 |c::cs,d::ds,h,bB=>by simp only[ml,fx] at bB;rw[h.1 bB.1,pR.eq h.2 bB.2]
 |[],_::_,h,_=>h.elim
 |_::_,[],h,_=>h.elim
def pR.refl:∀(cs:List (cv D)),pR cs cs
 |[]=>trivial
 |_::cs=>⟨λ_=>rfl,pR.refl cs⟩
structure dP (P:bI) (G:l6 D) (t:Nat) where
 kM:D t->List (cv D)
 qk:List (cv D)->Option (D t)
 x0:D t
 i:TypeInfo
 c0:af
 tid:(G.T t).tid=t
 az:P.info? t=J i
 cN:i.size=(G.T t).bM
 hh:((G.T t).bM==0)=ak
 hp:iJ i.bytes 32768=aa
 bx:i.zero=J c0
 dw:c0.cells.toList.all dy=aa
 et:c0.cells.size=i.size
 GX:∀z,(G.T t).rd z x0 c0.cells.toList
 rc:∀z vs x cs,(G.T t).rd z x cs->bP (ed G z vs) (kM x) cs
 r6:∀z vs cs x ds,qk cs=J x->bP (ed G z vs) cs ds->(G.T t).rd z x ds
 V1:∀x,qk (kM x)=J x
 Ko:∀cs x,qk cs=J x->pR cs (kM x)
 rk:List (cv D)
 qX:∀z vs,bP (ed G z vs) rk c0.cells.toList
 VN:∀x,(kM x).all qf=aa
structure afK (P:bI) (G:l6 D) (t:Nat) where
 e:Nat
 n:Nat
 ti:dP P G e
 i:TypeInfo
 c0:af
 hu:P.underlying t=J (.array n e)
 az:P.info? t=J i
 bx:i.zero=J c0
 dw:c0.cells.toList.all dy=aa
 et:c0.cells.size=i.size
 qX:c0.cells.toList=(gb n ti.c0.cells.toList).flatten
 bB:mn n dc=aa
structure IP (P:bI) (G:l6 D) (bG bA:Nat) where
 dec:DecidableEq (D bG)
 K:nX P bG (G.eo bG)
 V:oK P bA (G.eo bA)
 qY:bc D->Option (D bG)
 tN:cv D->Option (D bA)
 pG:D bA->cv D
 z0:D bA
 i:TypeInfo
 az:P.info? bA=J i
 bx:i.zero=J (ey (ek P bA) (G.eo bA z0))
 wo:∀z vs s a v,qY s=J a->rel G z vs s v->v=ey (ek P bG) (G.eo bG a)
 y0:∀z vs c a v,tN c=J a->ed G z vs c v->v=ey (ek P bA) (G.eo bA a)
 th:∀z vs a,ed G z vs (pG a) (ey (ek P bA) (G.eo bA a))
 u0:ek P bA=ak
structure Yw (P:bI) (G:l6 D) (e:Nat) where
 to:List (D e)->List UInt8
 of:List UInt8->List (D e)
 aV:∀z xs v,fA (G.T e) z xs v->fA (kE e) z (to xs) v
 aM:∀z m0 m k xs v,dU (G.T e) z m0 m k xs v->dU (kE e) z m0 m k (to xs) v
 aw:∀z m0 m k xs v,dU (kE e) z m0 m k xs v->dU (G.T e) z m0 m k (of xs) v
 i:TypeInfo
 hu:P.underlying e=J (.int .u8)
 az:P.info? e=J i
 kL:i.size=1
 bf:∀z m b4 w,Src (kE e) z m b4 w->Src (G.T e) z m (of b4) w
structure AI (P:bI) (G:l6 D) (t:Nat) where
 bY:Array Field
 eq:D t->D t->Bool
 aW:D t->List af
 aJ:P.underlying t=J (.struct bY)
 bb:P.stoodInHeld t=ak
 bs:P.eqGuardType P.depth t=ak
 bf:∀x y,sN P bY.toList 0 (aW x) (aW y)
 aD:∀z x ds,(G.T t).rd z x ds->ds=aW x
 he:∀x y,eq x y=aa↔aW x=aW y
structure ns (P:bI) (G:l6 D) where
 f:Nat
 e:Nat
 u5:Bool
 acc:List (bc D)->Bool
 qp:List (bc D)->List (D e)->Option (List (D e))
 run:∀(z:Nat->bW) (eV m:Mem) (k:Option Nat) (vs lW:List af) (gV:List (bc D)) (xs b4:List (D e)) (v:af),acc gV=aa->qp gV xs=J b4->lk z m->bP (rel G z vs) gV lW->dU (G.T e) z eV m k xs v->
  ∃cc m',h2 P f (v::lW).toArray m (λu m1=>u=(if u5=aa then cc else .tuple #[])/\m1=m')/\(m'=m\/∃b X,da v=J b/\m'=m.put b X)/\dU (G.T e) z eV m' k b4 cc/\da cc=da v/\(u5=ak->cc=v)
structure vO (P:bI) (G:l6 D) (e t:Nat) where
 up:List (D t)->D e
 cN:(G.T e).bM=1
 tid:(G.T e).tid=e
 aV:∀z xs c,fA (G.T t) z xs c->(G.T e).rd z (up xs) [c]
 i:TypeInfo
 az:P.info? e=J i
 bx:i.zero=J (.slice ae 0 0)
 h1:i.size=1
 hp:iJ i.bytes 32768=aa
 hu:P.underlying e=J (.slice t)
 aJ:(G.T t).tid=t
structure e3 (P:bI) (D:Nat->Type) where
 G:l6 D
 S:List (ns P G):=[]
 I:(t:Nat)->Option (dP P G t)
 A:(t:Nat)->Option (afK P G t)
 nm:(bG bA:Nat)->Option (IP P G bG bA)
 B:(e:Nat)->Option (Yw P G e)
 Q:(t:Nat)->Option (AI P G t)
 N:(e t:Nat)->Option (vO P G e t):=λ_ _=>ae
 F:(f:Nat)->List (bc D)->List (ba D)->Bool
 hg:bS->Option bS->Option bS->Nat:=λ_ _ _=>0
 W:(f:Nat)->Bool:=λ_=>ak
 aao : Option { g : Nat // P.globalNamed "humpyard/yardgen.dests" = J g } := ae
 C:(f:Nat)->List (bc D)->List (ba D)->{ap:Type}->(bc D->List (ba D)->Option ap)->Option ap
variable (X:e3 P D) {ap:Type}
def eI:List (Nat×bc D)->Nat->bc D|[],_=> .un|p::E,i=>if fi p.1 i=aa then p.2 else eI E i
def na (E:List (Nat×bc D)):Option Nat->bc D->List (Nat×bc D)|none,_=>E|some d,v=>(d,v)::E
def VW:af->bc D| .int k n=> .c (.int k n)| .bool b=> .c (.bool b)| .string b=> .c (.str b.data.toList)| .slice ae 0 0=> .c .gE| .pointer ae=> .c .za| .map ae=> .c .oY| .nilFunc=> .c .wJ|_=> .un
def dp (E:List (Nat×bc D)):bS->bc D| .tmp t=>eI E t| .const v=>VW v| .func f=> .fn f []| .global _=> .un
def Lw:bS->Bool| .const (.int _ n)=>n !=0|_=>ak
def Jd (op:BinOp) (y:bS) (k:aG) (a b:Int) (K:cv D->Option ap):Option ap:=match op with| .add=>K (.int k (k.wrap (a+b)))| .sub=>K (.int k (k.wrap (a - b)))| .mul=>K (.int k (k.wrap (a*b)))| .and=>K (.int k (ih .and k a b))| .or=>K (.int k (ih .or k a b))| .xor=>K (.int k (ih .xor k a b))| .andNot=>K (.int k (ih .andNot k a b))| .eql=>K (.bool (a==b))| .neq=>K (.bool (a !=b))| .lss=>K (.bool (decide (a<b)))| .leq=>K (.bool (decide (a<=b)))| .gtr=>K (.bool (decide (b<a)))| .geq=>K (.bool (decide (b<=a)))| .quo=>if Lw y=aa then K (.int k (k.wrap (Int.tdiv a b))) else ab (sU a b) λc=>K (.int k (k.wrap c))| .rem=>if Lw y=aa then K (.int k (Int.tmod a b)) else ab (px a b) λc=>K (.int k c)|_=>ae
def ZO (op:BinOp) (s r:List UInt8) (K:cv D->Option ap):Option ap:=match op with| .add=>ab (cD s r) λq=>K (.str q)| .eql=>K (.bool (s==r))| .neq=>K (.bool (!(s==r)))| .lss=>K (.bool (vr s r))| .leq=>K (.bool (vr s r||(s==r)))| .gtr=>K (.bool (!(vr s r||(s==r))))| .geq=>K (.bool (!vr s r))|_=>ae
def ZN (op:BinOp) (a b:Bool) (K:cv D->Option ap):Option ap:=match op with| .eql=>K (.bool (a==b))| .neq=>K (.bool (!(a==b)))|_=>ae
def XW:bS->Bool| .const (.slice ae 0 0)=>aa|_=>ak
def qn (O:List (ba D)):bc D->Option ((e:Nat)×List (D e))| .c (.bh e xs)=>J ⟨e,xs⟩| .c (.own i)=>(match O[i]? with|some (.bh e xs _ _)=>J ⟨e,xs⟩|_=>ae)|_=>ae
def aeD:bS->Option Nat| .const (.int _ (.ofNat n))=>J n|_=>ae
def j2 (k:aG) (b:Int):Option Nat:=if 0<=b then J (min b.toNat k.bits) else ae
def G4 (left:Bool) (k:aG) (a:Int) (n:Nat):Int:=if left=aa then k.wrap (a*((2 ^ n:Nat):Int)) else a.fdiv ((2 ^ n:Nat):Int)
def P1 (left:Bool) (y:bS) (k:aG) (a b:Int) (K:cv D->Option ap):Option ap:=match aeD y with|some n=>if iJ n k.bits=aa then K (.int k (G4 left k a n)) else ae|none=>ab (j2 k b) λn=>K (.int k (G4 left k a n))
def UH (op:BinOp) (t t1:Nat) (c1:List (cv D)) (t2:Nat) (c2:List (cv D)) (K:cv D->Option ap):Option ap:=
 match X.I t,X.Q t with
 |some ti,J oo=>
  match ti.qk c1,ti.qk c2 with
  |some a,J b=>(match op with| .eql=>K (.bool (oo.eq a b))| .neq=>K (.bool (!(oo.eq a b)))|_=>ae)
  |_,_=>ae
 |_,_=>ae
def T6 (op:BinOp) (t:bV) (y:bS) (O:List (ba D)) (a b:bc D) (K:cv D->Option ap):Option ap:=
 match a,b with
 | .c (.int k a), .c (.int k' b)=>(match op with| .shl=>P1 aa y k a b K| .shr=>P1 ak y k a b K|op=>if k=k' then Jd op y k a b K else ae)
 | .c (.str s), .c (.str r)=>ZO op s r K
 | .c (.bool a), .c (.bool b)=>match P.underlying t with|some .bool=>ZN op a b K|_=>ae
 |a,_=>
  match op,P.underlying t,XW y with
  | .eql,J (.slice _),aa=>
   match a with
   | .c .gE=>K (.bool aa)
   |a=>match qn O a with|some ⟨_,xs⟩=>wK xs λt=>K (.bool t)|none=>ae
  | .neq,J (.slice _),aa=>
   match a with
   | .c .gE=>K (.bool ak)
   |a=>match qn O a with|some ⟨_,xs⟩=>wK xs λt=>K (.bool (!t))|none=>ae
  |_,_,_=>ae
def xy:List (cv D)->Nat->List (cv D)->List (cv D)|L,_,[]=>L|L,o,v::vs=>xy (L.set o v) (o+1) vs
def v8 (O:List (ba D)) (i:Nat):Option (cv D×List (ba D)):=match O[i]? with|some (.bh e xs _ w)=>J (.bh e xs,O.set i (.bh e xs aa w))|some (.map t bG bA es _ w)=>J (.mp t bG bA es,O.set i (.map t bG bA es aa w))|some (.nest e t (J up) eh ae w)=>J (.bh e (eh.map up),O.set i (.bh e (eh.map up) aa w))|_=>ae
def sY (O:List (ba D)):cv D->Option (cv D×List (ba D))| .own i=>v8 O i|c=>J (c,O)
def uJ (O:List (ba D)):List (cv D)->Option (List (cv D)×List (ba D))
 |[]=>J ([],O)
 |c::cs=>
  match sY O c with
  |some (c3,cr)=>match uJ cr cs with|some (cs',uo)=>J (c3::cs',uo)|none=>ae
  |none=>ae
def xg:bc D->Option (List (cv D))| .c c=>J [c]| .agg _ cs=>J cs| .fn f []=>J [.fn f []]| .box i off=>if off=0 then J [.own i] else ae|_=>ae
def Jx (O:List (ba D)) (s:bc D):Option (List (cv D)×List (ba D)):=match xg s with|some cs=>uJ O cs|none=>ae
def o7 (t:bV) (cs:List (cv D)) (off:Nat) (K:bc D->Option ap):Option ap:=match P.underlying t with|none=>ae|some d=>if lI d then match P.info? t with|none=>ae|some i=>if ((cs.drop off).take i.size).length=i.size then K (.agg t ((cs.drop off).take i.size)) else ae else match cs[off]? with|some c=>K (.c c)|none=>ae
def ay4 (O:List (ba D)) (e:Nat):bc D->Option (List (D e)×List (ba D))| .c .gE=>J ([],O)| .c c=>(match sY O c with|some (.bh cz xs,cr)=>if h:cz=e then J (h▸xs,cr) else ae|_=>ae)|_=>ae
def CH:bS->bS->Bool| .tmp a, .tmp b=>fi a b| .const (.int _ a), .const (.int _ b)=>a==b|_,_=>ak
structure YR (D:Nat->Type) where
 u:Nat
 bG:Nat
 bA:Nat
 es:List (D bG×D bA)
def XY (O:List (ba D)):bc D->Option (YR D)
 | .c (.mp u k v es)=>J ⟨u,k,v,es⟩
 | .c (.own i)=>(match O[i]? with|some (.map u k v es _ _)=>J ⟨u,k,v,es⟩|_=>ae)
 |_=>ae
def XQ (t:bV) (a b:bc D) (O:List (ba D)) (K:bc D->List (ba D)->Option ap):Option ap:=match b with| .c (.int _ n)=>(match a with| .arr i=>(match O[i]? with|some (.arr e u n' xs _)=>(match X.I e,P.underlying t with|some _,J (.array l cz)=>if cz=e/\l=n' then ab (al xs n) λ_=>K (.el i e n 0) O else ae|_,_=>ae)|_=>ae)| .c (.bh e xs)=>(match X.I e,P.underlying t with|some ti,J (.slice cz)=>if cz=e then ab (al xs n) λa=>K (.hd e (ti.kM a) 0) O else ae|_,_=>ae)| .c (.own i)=>(match O[i]? with|some (.bh e xs bZ _)=>(match X.I e,P.underlying t with|some ti,J (.slice cz)=>if cz=e then ab (al xs n) λa=>if bZ=aa then K (.hd e (ti.kM a) 0) O else K (.el i e n 0) O else ae|_,_=>ae)|some (.nest e t1 _ eh _ _)=>(match X.N e t1,P.underlying t with|some _,J (.slice cz)=>if cz=e then ab (al eh n) λ_=>K (.el i e n 0) O else ae|_,_=>ae)|_=>ae)| .cut i e cf az=>(match O[i]? with|some (.bh bX xs ak _)=>(match X.I e,P.underlying t with|some _,J (.slice cz)=>if cz=e/\bX=e then ab (al ((xs.take az).drop cf) n) λ_=>K (.el i e ((cf:Int)+n) 0) O else ae|_,_=>ae)|_=>ae)|_=>ae)|_=>ae
def XP (t:bV) (g:Nat) (b:bc D) (O:List (ba D)) (K:bc D->List (ba D)->Option ap):Option ap:=
 match b,P.underlying t with
 | .c (.int _ n),J (.array l e)=>(match P.info? e with|some i=>if l=6/\i.size=1 then ab (al p2 n) λs=>K (.wb g s) O else ae|none=>ae)
 |_,_=>ae
def zz {e:Nat} (ti:dP P X.G e):Nat->List (cv D)->Option (List (D e))
 |0,_=>J []
 |n+1,cs=>match ti.qk (cs.take (X.G.T e).bM),zz ti n (cs.drop (X.G.T e).bM) with|some a,J l=>J (a::l)|_,_=>ae
def XC (t:bV) (a b:bc D) (O:List (ba D)) (K:bc D->List (ba D)->Option ap):Option ap:=
 match a,b,P.underlying t with
 | .agg _ cs, .c (.int _ n),J (.array l e)=>
  match X.I e,P.underlying e with
  |some ti,J d=>
   if lI d=aa then
    match uJ O cs with
    |some (cs',cr)=>(match zz X ti l cs' with|some dK=>ab (al dK n) λa=>K (.agg e (ti.kM a)) cr|none=>ae)
    |none=>ae
   else
    match uJ O cs with
    |some (cs',cr)=>(match zz X ti l cs' with|some dK=>ab (al dK n) λa=>(match ti.kM a with|[c]=>K (.c c) cr|_=>ae)|none=>ae)
    |none=>ae
  |_,_=>ae
 |_,_,_=>ae
def W9 (t:bV) (n:Nat) (a:bc D) (O:List (ba D)) (K:bc D->List (ba D)->Option ap):Option ap:=
 match a,P.underlying t with
 | .agg _ cs,J (.struct bY)=>(match bY[n]? with|some f=>if iJ f.offset cs.length=aa then o7 (P:=P) f.type cs f.offset λv=>K v O else ae|none=>ae)
 |_,_=>ae
def X1 (t:bV) (n:Nat) (a:bc D) (O:List (ba D)) (K:bc D->List (ba D)->Option ap):Option ap:=
 match P.underlying t with
 |some (.struct bY)=>
  match bY[n]? with
  |some f=>
   match P.info? f.type with
   |some k=>
    if k.size=0 then ae else
    match a with
    | .box i off=>K (.box i (off+f.offset)) O
    | .hd eu cs off=>K (.hd eu cs (off+f.offset)) O
    | .el i e dx off=>K (.el i e dx (off+f.offset)) O
    |_=>ae
   |none=>ae
  |none=>ae
 |_=>ae
def xj (O:List (ba D)) (i:Nat):Option (List (ba D)):=match O[i]? with|some (.nest _ _ _ _ ae _)=>J O|some (.nest e t up eh (J p) _)=>(match O[p.2]? with|some (.bh eu xs ak _)=>if h:eu=t then J ((O.set i (.nest e t up (eh.set p.1.toNat (h▸xs)) ae aa)).set p.2 .dead) else ae|_=>ae)|_=>ae
def Xb (t:bV) (i e:Nat) (dx:Int) (off:Nat) (O:List (ba D)) (K:bc D->List (ba D)->Option ap):Option ap:=match xj O i with|some cu=>(match cu[i]? with|some (.nest bX t1 up eh ae w)=>(match X.N bX t1 with|some _=>if bX=e/\t=e/\off=0 then ab (al eh dx) λxs=>K (.c (.own cu.length)) (cu.set i (.nest bX t1 up eh (J (dx,cu.length)) w)++[.bh t1 xs ak ak]) else ae|none=>ae)|_=>ae)|none=>ae
def Xm:Option (ba D)->Bool|some (.nest _ _ _ _ _ _)=>aa|_=>ak
def V3 (K:bc D->List (ba D)->Option ap) (v:bc D) (O:List (ba D)):Option ap:=
 match v with
 | .c (.own i)=>(match O[i]? with|some (.box ..)=>K (.box i 0) O|_=>K v O)
 |v=>K v O
def Lo (t:bV) (a:bc D) (O:List (ba D)) (K:bc D->List (ba D)->Option ap):Option ap:=
 match a with
 | .hd _ cs off=>o7 (P:=P) t cs off λv=>K v O
 | .wb g s=>(match X.aao,P.underlying t with|some p,J .string=>if p.1=g then K (.c (.str s)) O else ae|_,_=>ae)
 | .box i off=>
  match O[i]? with
  |some (.box _ cs _ _)=>o7 (P:=P) t cs off λv=>K v O
  |some (.recv _ cs _)=>o7 (P:=P) t cs off λv=>K v O
  |_=>ae
 | .el i e dx off=>
  if Xm O[i]? =aa then Xb X t i e dx off O K else
  match O[i]?,X.I e with
  |some (.bh cz xs _ _),J ti=>if h:cz=e then ab (al (h▸xs:List (D e)) dx) λa=>o7 (P:=P) t (ti.kM a) off λv=>K v O else ae
  |some (.arr cz _ _ xs _),J ti=>if h:cz=e then ab (al (h▸xs:List (D e)) dx) λa=>o7 (P:=P) t (ti.kM a) off λv=>K v O else ae
  |_,_=>ae
 |_=>ae
def Xa (t:bV) (a:bc D) (O:List (ba D)) (K:bc D->List (ba D)->Option ap):Option ap:=match a with| .el i e dx off=>(match O[i]? with|some (.nest bX t1 _ _ (J p) _)=>(match X.N bX t1,O[p.2]? with|some _,J (.bh _ _ ak _)=>if bX=e/\t=e/\off=0 then (if p.1=dx then K (.c (.own p.2)) O else ae) else ae|_,_=>ae)|_=>ae)|_=>ae
def aea (t:bV) (a:bc D) (O:List (ba D)) (K:bc D->List (ba D)->Option ap):Option ap:=
 Lo X t a O λdR cr=>match dR with
  | .c (.own j)=>(match v8 cr j with|some (c,dz)=>K (.c c) dz|none=>ae)
  |_=>ae
def Wx (t:bV) (i e:Nat) (dx:Int) (off:Nat) (b:bc D) (O:List (ba D)) (K:bc D->List (ba D)->Option ap):Option ap:=match b with| .c (.own j)=>(match O[i]?,O[j]? with|some (.nest bX t1 up eh hole _),J (.bh t2 xs ak _)=>(match X.N bX t1 with|some _=>if h:t2=t1 then if bX=e/\t=e/\off=0 then match hole with|none=>ab (al eh dx) λ_=>K .undef ((O.set i (.nest bX t1 up (eh.set dx.toNat (h▸xs)) ae aa)).set j .dead)|some p=>if p.1=dx then ab (al eh dx) λ_=>K .undef ((O.set i (.nest bX t1 up (eh.set dx.toNat (h▸xs)) ae aa)).set j .dead) else ae else ae else ae|none=>ae)|_,_=>ae)| .c .gE=>(match O[i]? with|some (.nest bX t1 up eh hole _)=>(match X.N bX t1 with|some _=>if bX=e/\t=e/\off=0 then match hole with|none=>ab (al eh dx) λ_=>K .undef (O.set i (.nest bX t1 up (eh.set dx.toNat []) ae aa))|some p=>if p.1=dx then ab (al eh dx) λ_=>K .undef (O.set i (.nest bX t1 up (eh.set dx.toNat []) ae aa)) else ae else ae|none=>ae)|_=>ae)|_=>ae
def Xd (t:bV) (a b:bc D) (O:List (ba D)) (K:bc D->List (ba D)->Option ap):Option ap:=
 match P.info? t with
 |none=>ae
 |some k=>
  match a with
  | .box i off=>
   match xg b with
   |none=>ae
   |some new=>
    if new.length=k.size then
     match O[i]? with
     |some (.box u cs ak _)=>if off+new.length<=cs.length then K .undef (O.set i (.box u (xy cs off new) ak aa)) else ae
     |some (.recv u cs _)=>if off+new.length<=cs.length then K .undef (O.set i (.recv u (xy cs off new) aa)) else ae
     |_=>ae
    else ae
  | .el i e dx off=>
   if Xm O[i]? =aa then Wx X t i e dx off b O K else
   match Jx O b with
   |none=>ae
   |some (new,O)=>
    if new.length=k.size then
     match O[i]?,X.I e with
     |some (.bh cz xs ak _),J ti=>
      if h:cz=e then ab (al (h▸xs:List (D e)) dx) λa=>if off+new.length<=(ti.kM a).length then ab (ti.qk (xy (ti.kM a) off new)) λa'=>K .undef (O.set i (.bh e ((h▸xs:List (D e)).set dx.toNat a') ak aa)) else ae
      else ae
     |some (.arr cz u n xs _),J ti=>
      if h:cz=e then ab (al (h▸xs:List (D e)) dx) λa=>if off+new.length<=(ti.kM a).length then ab (ti.qk (xy (ti.kM a) off new)) λa'=>K .undef (O.set i (.arr e u n ((h▸xs:List (D e)).set dx.toNat a') aa)) else ae
      else ae
     |_,_=>ae
    else ae
  |_=>ae
def CK {e:Nat} (ti:dP P X.G e) (E:List (Nat×bc D)):Nat->List (Nat×bS)->List (ba D)->(List (D e)->List (ba D)->Option ap)->Option ap|_,[],O,K=>K [] O|n,(j,x)::cQ,O,K=>if j=n then match Jx O (dp E x) with|some (cs,O)=>ab (ti.qk cs) λa=>CK ti E (n+1) cQ O λdK O=>K (a::dK) O|none=>ae else ae
def xi (pl:List (Option (Nat×Nat))) (E:List (Nat×bc D)):List (Nat×bS)->List (cv D)->Option (List (cv D))|[],cs=>J cs|(i,x)::cQ,cs=>match (pl[i]?).join,xg (dp E x) with|some (off,size),J new=>if new.length=size/\off+size<=cs.length then xi pl E cQ (xy cs off new) else ae|_,_=>ae
def y6 (E:List (Nat×bc D)):Option bS->Option Int
 |none=>J 0
 |some y=>match dp E y with| .c (.int _ n)=>J n|_=>ae
def zL (E:List (Nat×bc D)) (l:Int):Option bS->Option Int
 |none=>J l
 |some y=>match dp E y with| .c (.int _ n)=>J n|_=>ae
def X0 (t:bV) (a:bc D) (E:List (Nat×bc D)) (cf az:Option bS) (O:List (ba D)) (K:bc D->List (ba D)->Option ap):Option ap:=match a with| .c (.str s)=>(match P.underlying t,y6 E cf,zL E (s.length:Int) az with|some .string,J x,J y=>ab (gi s x y) λr=>K (.c (.str r)) O|_,_,_=>ae)| .c c=>(match sY O c with|some (.bh e xs,O)=>(match P.underlying t,X.I e,y6 E cf,zL E (xs.length:Int) az with|some (.slice cz),J _,J x,J y=>if cz=e then ab (gi xs x y) λr=>K (.c (.bh e r)) O else ae|_,_,_,_=>ae)|_=>ae)|_=>ae
def abE:bc D->Bool| .c .gE=>aa|_=>ak
def XA (t:bV) (y:bS) (a:bc D) (E:List (Nat×bc D)) (cf az:Option bS) (O:List (ba D)) (K:bc D->List (ba D)->Option ap):Option ap:=
 if abE a=aa then
  match P.underlying t,y6 E cf,zL E 0 az with
  |some (.slice e),J p,J q=>(match X.I e with|some _=>if (p==0&&q==0)=aa then K (.c .gE) O else ae|none=>ae)
  |_,_,_=>ae
 else
 match X.hg y cf az with
 |0=>X0 X t a E cf az O K
 |md+1=>
  match a with
  | .c (.own i)=>
   match O[i]?,P.underlying t with
   |some (.bh e xs ak _),J (.slice cz)=>
    match X.I e,y6 E cf,zL E (xs.length:Int) az with
    |some _,J p,J q=>
     if cz=e then ab (gi xs p q) λr=>
      if fi md 0=aa then K (.cut i e p.toNat q.toNat) O
      else K (.c (.own O.length)) (O.set i .dead++[.bh e r ak ak])
     else ae
    |_,_,_=>ae
   |_,_=>ae
  |_=>ae
def LJ {aK:Type} (xs:List aK) (p q:Int):Option (List aK):=if 0<=p/\p<=(xs.length:Int)/\p<=4294967296/\p=q then J (xs.take p.toNat) else ae
def XB (t:bV) (a b c:bc D) (O:List (ba D)) (K:bc D->List (ba D)->Option ap):Option ap:=match P.underlying t,b,c with|some (.slice cz), .c (.int _ p), .c (.int _ q)=>(match a with| .c c=>(match sY O c with|some (.bh e xs,O)=>(match X.I e with|some _=>if cz=e then ab (LJ xs p q) λr=>K (.full e r) O else ae|none=>ae)|_=>ae)|_=>ae)|_,_,_=>ae
def Xz (s t:bV) (a:bc D) (O:List (ba D)) (K:bc D->List (ba D)->Option ap):Option ap:=
 match P.underlying s,P.underlying t with
 |some (.int _),J (.int k')=>(match a with| .c (.int _ n)=>K (.c (.int k' (k'.wrap n))) O|_=>ae)
 |some .string,J (.slice e)=>(match a,X.B e with| .c (.str s),J l8=>ab (cD s []) (λjx=>K (.c (.own O.length)) (O++[.bh e (l8.of jx) ak ak]))|_,_=>ae)
 |some (.slice e),J .string=>(match qn O a,X.B e with|some ⟨cz,xs⟩,J l8=>if h:cz=e then K (.c (.str (l8.to (h▸xs)))) O else ae|_,_=>ae)
 |_,_=>ae
def Lx (O:List (ba D)) (s:bc D):Option ((e:Nat)×List (D e)):=match s with| .cut i e cf n=>(match O[i]? with|some (.bh cz xs ak _)=>if cz=e then J ⟨cz,(xs.take n).drop cf⟩ else ae|_=>ae)|s=>qn O s
def Xp (e:Nat) (yE:TypeDesc) (b:bc D) (O:List (ba D)):Option (List (D e)):=
 match yE with
 | .slice _=>(match b with
  | .c .gE=>J []
  |b=>match Lx O b with|some ⟨cz,b4⟩=>if h:cz=e then J (h▸b4) else ae|none=>ae)
 | .string=>(match b,X.B e with
  | .c (.str s),J l8=>J (l8.of s)
  |_,_=>ae)
 |_=>ae
def Ly (t u:bV) (a b:bc D) (O:List (ba D)) (K:bc D->List (ba D)->Option ap):Option ap:=match P.underlying t,P.underlying u with|some (.slice e),J yE=>(match X.I e with|none=>ae|some _=>match Xp X e yE b O with|none=>ae|some b4=>match a with| .c .gE=>ab (cD [] b4) λr=>K (.c (.own O.length)) (O++[.bh e r ak ak])| .full cz xs=>if h:cz=e then (if b4.isEmpty=aa then ae else ab (cD (h▸xs:List (D e)) b4) λr=>K (.c (.own O.length)) (O++[.bh e r ak ak])) else ae| .c (.own i)=>(match O[i]? with|some (.bh cz xs ak _)=>if h:cz=e then ab (cD (h▸xs:List (D e)) b4) λr=>K (.c (.own O.length)) (O.set i .dead++[.bh e r ak ak]) else ae|_=>ae)| .cut i bX cf n=>if fi cf 0 then if bX=e then match O[i]? with|some (.bh cz xs ak _)=>if h:cz=e then ab (cD ((h▸xs:List (D e)).take n) b4) λr=>K (.c (.own O.length)) (O.set i .dead++[.bh e r ak ak]) else ae|_=>ae else ae else ae|_=>ae)|_,_=>ae
def Xy (t u:bV) (a b:bc D) (O:List (ba D)) (K:bc D->List (ba D)->Option ap):Option ap:=
 match P.underlying t,P.underlying u with
 |some (.slice e),J (.slice _)=>
  match X.I e,a,Lx O b with
  |some _, .full cz xs,J ⟨e2,b4⟩=>
   if h:cz=e then
    if ai:e2=e then ab (cD (h▸xs:List (D e)) (ai▸b4:List (D e))) λr=>if b4.isEmpty=aa then K (.c (.bh e r)) O else K (.c (.own O.length)) (O++[.bh e r ak ak])
    else ae
   else ae
  |_,_,_=>ae
 |_,_=>ae
def W8 (t:bV) (a b:bc D) (O:List (ba D)) (K:bc D->List (ba D)->Option ap):Option ap:=match P.underlying t,a,b with|some (.slice e), .c .gE, .c (.int _ n)=>(match X.I e with|some ti=>if (decide (0<n))=aa then ab (hy ti.x0 n) λr=>K (.c (.own O.length)) (O++[.bh e r ak ak]) else ae|none=>ae)|some (.slice e), .c (.own i), .c (.int _ n)=>(match xj O i with|some cu=>(match cu[i]? with|some (.nest bX t1 up oA ae _)=>(match X.N bX t1 with|some _=>if bX=e then ab (hy ([]:List (D t1)) n) λb4=>ab (cD oA b4) λr=>K (.c (.own cu.length)) (cu.set i .dead++[.nest bX t1 up r ae ak]) else ae|none=>ae)|_=>ae)|none=>ae)|_,_,_=>ae
def Xl:Option TypeDesc->Bool|some (.int _)=>aa|_=>ak
def XS (t:bV) (l:Nat) (cQ:List (Nat×bS)) (E:List (Nat×bc D)) (O:List (ba D)) (K:bc D->List (ba D)->Option ap):Option ap:=match P.underlying t with|some (.slice e)=>(match P.underlying e with|some (.slice t1)=>(match X.N e t1 with|some eG=>(match l,cQ with|0,[]=>K (.c (.own O.length)) (O++[.nest e t1 (J eG.up) [] ae ak])|1,[(0,y)]=>(match dp E y with| .c (.own j)=>(match O[j]? with|some (.bh t2 _ ak _)=>if t2=t1 then K (.c (.own O.length)) (O++[.nest e t1 (J eG.up) [[]] (J (0,j)) ak]) else ae|_=>ae)|_=>ae)|_,_=>ae)|none=>ae)|_=>ae)|_=>ae
def Xx (t u:bV) (i:Nat) (b:bc D) (O:List (ba D)) (K:bc D->List (ba D)->Option ap):Option ap:=
 match P.underlying t,P.underlying u with
 |some (.slice e),J (.slice _)=>
  match b with
  | .c (.own j)=>
   if fi i j=aa then ae else
   match xj O i with
   |some cu=>
    match xj cu j with
    |some dz=>
     match dz[i]?,dz[j]? with
     |some (.nest bX t1 up oA ae _),J (.nest e2 t2 _ Ha ae _)=>
      match X.N bX t1 with
      |some eG=>if h:t2=t1 then (if bX=e/\e2=e then ab (cD oA (h▸Ha:List (List (D t1)))) λr=>K (.c (.own dz.length)) ((dz.set i .dead).set j .dead++[.nest bX t1 up r ae ak]) else ae) else ae
      |none=>ae
     |_,_=>ae
    |none=>ae
   |none=>ae
  |_=>ae
 |_,_=>ae
def XR (t:bV) (a:bc D) (O:List (ba D)) (K:bc D->List (ba D)->Option ap):Option ap:=
 match a,P.underlying t with
 | .c (.str s),J .string=>K (.c (.int .i64 (s.length:Int))) O
 | .c .gE,J (.slice _)=>K (.c (.int .i64 (([]:List Int).length:Int))) O
 |a,J (.slice _)=>
  match qn O a with
  |some ⟨_,xs⟩=>K (.c (.int .i64 (xs.length:Int))) O
  |none=>
   match a with
   | .c (.own i)=>(match O[i]? with|some (.nest _ _ _ eh _ _)=>K (.c (.int .i64 (eh.length:Int))) O|_=>ae)
   | .cut i e cf az=>(match O[i]? with|some (.bh cz xs ak _)=>if cz=e then K (.c (.int .i64 (((xs.take az).drop cf).length:Int))) O else ae|_=>ae)
   |_=>ae
 |_,_=>ae
def avq:cv D->Bool| .own _=>ak| .fn _ is=>is.isEmpty|_=>aa
def vp (O:List (ba D)):bc D->Option ((Nat×List (cv D))×List (ba D))| .hd t cs off=>if off=0 then J ((t,cs),O) else ae| .box i off=>(match O[i]? with|some (.box t cs _ w)=>if off=0 then J ((t,cs),O.set i (.box t cs aa w)) else ae|_=>ae)|_=>ae
def V2 (s:bc D) (K:bc D->List (ba D)->Option ap):bc D->List (ba D)->Option ap:=
 match s with
 | .box _ _=>λv O=>(match vp O v with|some (c,O)=>K (.hd c.1 c.2 0) O|none=>ae)
 |_=>K
def Ch:List (bc D)->List (ba D)->Option (List (Nat×List (cv D))×List (ba D))
 |[],O=>J ([],O)
 |s::l,O=>
  match vp O s with
  |some (c,O)=>(match Ch l O with|some (r,O)=>J (c::r,O)|none=>ae)
  |none=>ae
def T9 (O:List (ba D)):bc D->Option Nat| .box i off=>(match O[i]? with|some (.box _ _ ak _)=>if off=0 then J i else ae|_=>ae)|_=>ae
def Cv (O:List (ba D)):List (bc D)->Option (List Nat)
 |[]=>J []
 |s::l=>match T9 O s,Cv O l with|some i,J is=>J (i::is)|_,_=>ae
def xk:List (ns P X.G)->Nat->List (Nat×List (cv D))->List (bc D)->Option (ns P X.G)|[],_,_,_=>ae|s::l,f,caps,cX=>if (fi s.f f&&(caps.isEmpty&&s.acc cX.tail))=aa then J s else xk l f caps cX
def XD (ke:ns P X.G) (cX:List (bc D)) (O:List (ba D)) (K:bc D->List (ba D)->Option ap):Option ap:=match cX with| .c (.own i)::gV=>(match O[i]? with|some (.bh e xs ak _)=>if h:e=ke.e then ab (ke.qp gV (h▸xs:List (D ke.e))) λb4=>if ke.u5=aa then K (.c (.own O.length)) (O.set i .dead++[.bh ke.e b4 ak ak]) else K (.sq []) (O.set i (.bh ke.e b4 ak aa)) else ae|_=>ae)|_=>ae
def sa (c:Call) (E:List (Nat×bc D)) (O:List (ba D)) (K:bc D->List (ba D)->Option ap):Option ap:=
 match c.callee with
 | .builtin .len=>match c.args.toList,c.argTypes.toList with|[x],[t]=>XR (P:=P) t (dp E x) O K|_,_=>ae
 | .builtin .append=>match c.args.toList,c.argTypes.toList with|[x,y],[t,u]=>if Xl (P.underlying u)=aa then W8 X t (dp E x) (dp E y) O K else if fi (X.hg y (J x) (J x)) 6=aa then Xy X t u (dp E x) (dp E y) O K else (match dp E x with| .c (.own i)=>if Xm O[i]? =aa then Xx X t u i (dp E y) O K else Ly X t u (dp E x) (dp E y) O K|_=>Ly X t u (dp E x) (dp E y) O K)|_,_=>ae
 | .builtin .cap=>match c.args.toList,c.argTypes.toList with|[x],[t]=>(match dp E x,P.underlying t with| .c .gE,J (.slice _)=>K (.c (.int .i64 0)) O|_,_=>ae)|_,_=>ae
 | .builtin .max=>match c.args.toList with|[x,y]=>(match dp E x,dp E y with| .c (.int k a), .c (.int k' b)=>if k=k' then K (.c (.int k (max a b))) O else ae|_,_=>ae)|_=>ae
 | .builtin .min=>match c.args.toList with|[x,y]=>(match dp E x,dp E y with| .c (.int k a), .c (.int k' b)=>if k=k' then K (.c (.int k (min a b))) O else ae|_,_=>ae)|_=>ae
 | .value f=>
  match dp E f with
  | .fn f caps=>
   match xk X X.S f caps (c.args.toList.map (dp E)) with
   |some ke=>XD X ke (c.args.toList.map (dp E)) O K
   |none=>X.C f (c.args.toList.map (dp E)++caps.map λp=> .hd p.1 p.2 0) O K
  | .c (.fn f is)=>X.C f (c.args.toList.map (dp E)++is.map λi=> .box i 0) O K
  |_=>ae
 |_=>ae
def Xc (e:Nat) (x y:bS) (n:Int) (O:List (ba D)) (K:bc D->List (ba D)->Option ap):Option ap:=match P.underlying e with|some (.slice t1)=>(match X.N e t1,CH x y with|some eG,aa=>ab (hy ([]:List (D t1)) n) λr=>K (.c (.own O.length)) (O++[.nest e t1 (J eG.up) r ae ak])|_,_=>ae)|_=>ae
def iR (o:Op) (E:List (Nat×bc D)) (O:List (ba D)) (K:bc D->List (ba D)->Option ap):Option ap:=
 match o with
 | .move x=>K (dp E x) O
 | .assign x=>K (dp E x) O
 | .nilCheck x=>(match dp E x with| .box .. | .arr .. | .el .. | .hd .. =>K (dp E x) O|_=>ae)
 | .extract x i=>(match dp E x with| .sq l=>(match l[i]? with|some (.inl c)=>K (.c c) O|some (.inr p)=>K (.agg p.1 p.2) O|none=>ae)|_=>ae)
 | .pick c a b=>(match dp E c with| .c (.bool aa)=>K (dp E a) O| .c (.bool ak)=>K (dp E b) O|_=>ae)
 | .binOp op t x y u=>(match dp E x,dp E y with| .agg t1 c1, .agg t2 c2=>UH X op t t1 c1 t2 c2 λc=>K (.c c) O|a,b=>T6 (P:=P) op t y O a b λc=>K (.c c) O)
 | .unOp .not t x=>(match dp E x with| .c (.bool b)=>K (.c (.bool (!b))) O|_=>ae)
 | .unOp .neg t x=>(match dp E x with| .c (.int k a)=>K (.c (.int k (k.wrap (0 - a)))) O|_=>ae)
 | .convert s t x=>Xz X s t (dp E x) O K
 | .indexAddr t (.global g) y=>XP (P:=P) t g (dp E y) O K
 | .indexAddr t x y=>XQ X t (dp E x) (dp E y) O K
 | .field t x n=>W9 (P:=P) t n (dp E x) O K
 | .fieldAddr t x n=>X1 (P:=P) t n (dp E x) O K
 | .load t x=>if fi (X.hg x ae ae) 4=aa then aea X t (dp E x) O K else if fi (X.hg x ae ae) 7=aa then Xa X t (dp E x) O K else Lo X t (dp E x) O (V3 K)
 | .store t x y=>Xd X t (dp E x) (dp E y) O K
 | .alloc t=>
  (match X.A t with
  |some kZ=>K (.arr O.length) (O++[.arr kZ.e t kZ.n (gb kZ.n kZ.ti.x0) ak])
  |none=>match X.I t with|some ti=>K (.box O.length 0) (O++[.box t ti.rk ak ak])|none=>ae)
 | .box t x=>
  (match P.info? t,xg (dp E x) with
  |some i,J cs=>if cs.length=i.size then V2 (dp E x) K (.box O.length 0) (O++[.box t cs ak ak]) else ae
  |_,_=>ae)
 | .makeSlice t x y=>
  (match P.underlying t,dp E x with
  |some (.slice e), .c (.int _ n)=>
   if fi (X.hg x (J x) (J x)) 3=aa then Xc X e x y n O K else
   match X.I e,CH x y with
   |some ti,aa=>ab (hy ti.x0 n) λr=>K (.c (.own O.length)) (O++[.bh e r ak ak])
   |_,_=>ae
  |_,_=>ae)
 | .buildSlice t l cQ=>
  if fi (X.hg (.const (.int .i64 (t:Int))) ae ae) 3=aa then XS X t l cQ.toList E O K else
  (match P.underlying t with
  |some (.slice e)=>
   match X.I e with
   |some ti=>CK X ti E 0 cQ.toList O λdK O=>if dK.length=l/\iJ (l*(X.G.T e).bM) 16777216=aa then K (.c (.own O.length)) (O++[.bh e dK ak ak]) else ae
   |none=>ae
  |_=>ae)
 | .build t cQ=>
  (match P.underlying t,X.I t with
  |some (.struct bY),J ti=>if (pC P bY).all Y2=aa then (match xi (pC P bY) E cQ.toList ti.rk with|some cs=>K (.agg t cs) O|none=>ae) else ae
  |some (.array n e),J ti=>(match P.info? e with|some k=>(match xi ((mN n).map λj=>J (j*k.size,k.size)) E cQ.toList ti.rk with|some cs=>K (.agg t cs) O|none=>ae)|none=>ae)
  |_,_=>ae)
 | .slice t x cf az ae=>XA X t x (dp E x) E cf az O K
 | .slice t x ae (J y) (J h8)=>XB X t (dp E x) (dp E y) (dp E h8) O K
 | .index t x y=>(match P.underlying t,dp E x,dp E y with|some .string, .c (.str s), .c (.int _ n)=>ab (al s n) λc=>K (.c (.int .u8 (UInt8.toNat c:Int))) O|_,a,b=>XC X t a b O K)
 | .makeFunc (.func f) first cap=>
  if fi (X.hg (.func f) ae ae) 5=aa then (match first.toList,Cv O (cap.toList.map (dp E)) with|[],J is=>K (.c (.fn f is)) O|_,_=>ae) else
  (match first.toList,Ch (cap.toList.map (dp E)) O with|[],J (caps,O)=>K (.fn f caps) O|_,_=>ae)
 | .makeMap t ae=>(match P.underlying t with|some (.map bG bA)=>K (.c (.own O.length)) (O++[.map t bG bA [] ak ak])|_=>ae)
 | .lookup t x y ok=>
  (match XY O (dp E x),dp E y with
  |some ⟨u,bG,bA,es⟩,c=>
   match P.underlying t,P.underlying u with
   |some (.map k v),J (.map k' cc)=>
    if k=bG/\v=bA/\k'=bG/\cc=bA then
     match X.nm bG bA with
     |some eP=>
      match eP.qY c with
      |some a=>aF.lt (@jv _ _ eP.dec es a) λy=>if ok=aa then K (.sq [.inl (eP.pG (y.getD eP.z0)), .inl (.bool y.isSome)]) O else K (.c (eP.pG (y.getD eP.z0))) O
      |none=>ae
     |none=>ae
    else ae
   |_,_=>ae
  |_,_=>ae)
 | .mapUpdate t x y w| .insert t x y w=>
  (match dp E x,dp E y,dp E w with
  | .c (.own i),c, .c d=>
   match O[i]? with
   |some (.map u bG bA es ak _)=>
    match P.underlying t,P.underlying u with
    |some (.map k v),J (.map k' cc)=>
     if k=bG/\v=bA/\k'=bG/\cc=bA then
      match X.nm bG bA with
      |some eP=>
       match eP.qY c,eP.tN d with
       |some a,J b=>aF.lt (@o8 _ _ eP.dec es a b) λv7=>K .undef (O.set i (.map u bG bA v7 ak aa))
       |_,_=>ae
      |none=>ae
     else ae
    |_,_=>ae
   |_=>ae
  |_,_,_=>ae)
 | .call c=>sa X c E O K
 |_=>ae
def aed:Op->Option Nat| .pick (.tmp d) _ _=>J d|_=>ae
def vn (E:List (Nat×bc D)) (d:Nat) (K:List (Nat×bc D)->Option ap):Option ap:=match eI E d with| .c (.bool b)=>if b=aa then K ((d, .c (.bool aa))::E) else K ((d, .c (.bool ak))::E)| .undef=>K E|_=>ae
def BI (o:Oper) (E:List (Nat×bc D)) (O:List (ba D)) (K:List (Nat×bc D)->List (ba D)->Option ap):Option ap:=match aed o.op with|some d=>vn E d λE=>iR X o.op E O λv O=>K (na E o.dst v) O|none=>iR X o.op E O λv O=>K (na E o.dst v) O
def tM (ops:List Oper):List Oper->List (Nat×bc D)->List (ba D)->(List (Nat×bc D)->List (ba D)->Option ap)->Option ap
 |[],E,O,K=>K E O
 |o::os,E,O,K=>
  match o.guard with
  |none=>BI X o E O λE O=>tM ops os E O K
  |some (j,want)=>
   match (ops[j]?).bind (·.dst) with
   |none=>ae
   |some d=>
    vn E d λE=>
     match eI E d with
     | .c (.bool b)=>if b=want then BI X o E O λE O=>tM ops os E O K else tM ops os (na E o.dst .undef) O K
     | .undef=>tM ops os (na E o.dst .undef) O K
     |_=>ae
inductive l4 where
 |py|bZ|lost
 |ob (j:Nat)
def q9 (E:List (Nat×bc D)):Op->Option l4
 | .load _ x=>(match dp E x with| .wb _ _=>J .bZ| .hd _ (_::_) _=>J .bZ| .box j _=>J (.ob j)| .el j _ _ _=>J (.ob j)|_=>ae)
 | .lookup _ x _ _=>(match dp E x with| .c (.mp _ _ _ _)=>J .bZ| .c (.own j)=>J (.ob j)|_=>ae)
 | .convert _ _ x=>(match dp E x with| .c (.bh _ _)=>J .bZ| .c (.own j)=>J (.ob j)| .c (.int _ _)=>J .py| .c (.str _)=>J .py|_=>ae)
 | .slice _ x _ _ _=>(match dp E x with| .c (.str _)=>J .py| .c (.bh _ _)=>J .bZ| .c (.own j)=>J (.ob j)|_=>ae)
 |_=>J .py
def q1:List (bc D)->List Nat|[]=>[]| .box i _::l=>i::q1 l|_::l=>q1 l
def zC:List (bc D)->List Nat|[]=>[]| .c (.own i)::l=>i::zC l|_::l=>zC l
def sj (E:List (Nat×bc D)):Op->Option (List Nat)
 | .store _ x _=>(match dp E x with| .box j _=>J [j]| .el j _ _ _=>J [j]|_=>ae)
 | .mapUpdate _ x _ _=>(match dp E x with| .c (.own j)=>J [j]|_=>ae)
 | .insert _ x _ _=>(match dp E x with| .c (.own j)=>J [j]|_=>ae)
 | .call c=>
  match c.callee with
  | .builtin .append=>(match c.args.toList with|x::_=>(match dp E x with| .c .gE=>J []| .c (.own j)=>J [j]| .cut j _ _ _=>J [j]| .full _ _=>J []|_=>ae)|[]=>ae)
  | .value f=>(match dp E f with| .fn ma caps=>(match xk X X.S ma caps (c.args.toList.map (dp E)) with|some _=>J (zC (c.args.toList.map (dp E)))|none=>if X.W ma=aa then ae else J (q1 (c.args.toList.map (dp E))))|_=>ae)
  |_=>ae
 |_=>ae
structure gk where
 rd:List (Nat×l4)
 j7:List (Nat×(Bool×List Nat))
 jZ:List (Nat×Nat)
 lK:List (Nat×Bool)
 pg:List Nat
def y4:bc D->Bool| .c (.bh _ _)=>aa| .hd _ (_::_) _=>aa|_=>ak
def tr (E:List (Nat×bc D)) (L:gk):bS->Bool| .tmp d=> !(L.pg.any (fi d))&&y4 (eI E d)|_=>ak
def rK (E:List (Nat×bc D)) (L:gk):Op->Bool| .move x=>tr E L x| .assign x=>tr E L x| .nilCheck x=>tr E L x| .fieldAddr _ x _=>tr E L x| .indexAddr _ x _=>tr E L x|_=>ak
def abf (E:List (Nat×bc D)) (L:gk):Op->Bool| .load _ x=>tr E L x| .slice _ x _ _ ae=>tr E L x|_=>ak
def sx (E:List (Nat×bc D)) (o:Oper) (L:gk):gk:=
 match o.dst with
 |none=>L
 |some d=>if rK E L o.op=aa then {L with pg:=L.pg.filter λe=> !(fi d e)} else {L with pg:=d::L.pg}
def tB (O:List (ba D)) (j:Nat):Bool:=match O[j]? with|some o=>o.live|none=>ak
def Lc (O:List (ba D)) (j:Nat):Bool:=match O[j]? with|some .dead=>ak|some (.box _ [] aa _)=>ak|some _=>aa|none=>ak
def vo (O:List (ba D)) (ts:List Nat) (j:Nat):Bool:=Lc O j&& !(ts.any (fi j))
def vf (O:List (ba D)):Nat->List (ba D)->List Nat|_,[]=>[]|i,o::l=>if o.live=aa then i::vf O (i+1) l else vf O (i+1) l
def zO (B:Array Nat) (i:Nat) (O:List (ba D)) (L:gk):l4->Bool| .py=>aa| .bZ=>L.j7.all λy=>gD B i y.1||y.2.1| .ob j=>Lc O j&&L.j7.all λy=>gD B i y.1||(y.2.1||y.2.2.any (fi j))| .lost=>ak
def G5 (O:List (ba D)) (ts:List Nat):l4->Bool| .ob j=>vo O ts j| .lost=>ak|_=>aa
def XF (B:Array Nat) (i:Nat) (O:List (ba D)) (L:gk) (ts:List Nat):Bool:=ts.all (tB O)&&((L.rd.all λy=>gD B i y.1||G5 O ts y.2)&&L.jZ.all λy=>gD B i y.1||vo O ts y.2)
def tA (E:List (Nat×bc D)) (O:List (ba D)):Op->Bool
 | .call c=>
  match c.callee with
  | .value f=>(match dp E f with| .fn f caps=>(match xk X X.S f caps (c.args.toList.map (dp E)) with|some _=>ak|none=>X.F f (c.args.toList.map (dp E)++caps.map λp=> .hd p.1 p.2 0) O)|_=>ak)
  |_=>ak
 |_=>ak
def A0 (i:Nat) (O:List (ba D)) (ts:List Nat) (ra:Bool) (L:gk):gk:=
 {rd:=L.rd.map λy=>if G5 O ts y.2=aa then y else (y.1, .lost)
  j7:=((i,aa,vf O 0 O)::L.j7).map λy=>(y.1,y.2.1&&ra,y.2.2.filter (vo O ts))
  jZ:=L.jZ
  lK:=(i,ts.isEmpty)::L.lK.map λy=>(y.1,y.2&&ts.isEmpty)
  pg:=L.pg}
def XZ:bc D->Option (Option Nat)| .c (.own j)=>J (J j)| .box j _=>J (J j)| .arr j=>J (J j)| .c (.int _ _)=>J ae| .c (.str _)=>J ae|_=>ae
def abH (o:Op) (v:bc D):Option (Option Nat):=if sg o=aa then XZ v else J ae
def pD (i:Nat) (s:l4) (n:Option Nat) (L:gk):gk:=
 {rd:=match s with| .py=>L.rd|s=>(i,s)::L.rd
  j7:=match n with|some _=>L.j7.map λy=>(y.1,ak,y.2.2)|none=>L.j7
  jZ:=match n with|some j=>(i,j)::L.jZ|none=>L.jZ
  lK:=L.lK
  pg:=L.pg}
def aaj:l4->Bool| .bZ=>aa|_=>ak
def Lm (B:Array Nat) (i:Nat) (E:List (Nat×bc D)) (L:gk) (s:l4) (o:Op):Bool:=aaj s&&abf E L o
def Xo (B:Array Nat) (i:Nat) (L:gk):Bool:=(L.rd.all λy=>gD B i y.1)&&L.jZ.all λy=>gD B i y.1
def XG (i:Nat) (L:gk):gk:=
 {rd:=L.rd.map λy=>(y.1, .lost)
  j7:=(i,ak,[])::L.j7.map λy=>(y.1,ak,[])
  jZ:=L.jZ
  lK:=L.lK
  pg:=L.pg}
def Km (B:Array Nat) (i:Nat) (o:Oper) (L:gk) (E:List (Nat×bc D)) (O:List (ba D)) (K:gk->List (Nat×bc D)->List (ba D)->Option ap):Option ap:=
 if lT o.op=aa then
  match sj X E o.op with
  |some ts=>if XF B i O L ts=aa then iR X o.op E O λv cr=>K (sx E o (A0 i O ts (tA X E O o.op) L)) (na E o.dst v) cr else ae
  |none=>if Xo B i L=aa then iR X o.op E O λv cr=>K (sx E o (XG i L)) (na E o.dst v) cr else ae
 else
  match q9 E o.op with
  |some s=>
   if (zO B i O L s||Lm B i E L s o.op)=aa then
    iR X o.op E O λv cr=>
     match abH o.op v with
     |some n=>K (sx E o (pD i s n L)) (na E o.dst v) cr
     |none=>ae
   else ae
  |none=>ae
def BH (B:Array Nat) (i:Nat) (o:Oper) (L:gk) (E:List (Nat×bc D)) (O:List (ba D)) (K:gk->List (Nat×bc D)->List (ba D)->Option ap):Option ap:=match aed o.op with|some d=>vn E d λE=>Km X B i o L E O K|none=>Km X B i o L E O K
def vu (B:Array Nat) (ops:List Oper):Nat->List Oper->gk->List (Nat×bc D)->List (ba D)->(List (Nat×bc D)->List (ba D)->Option ap)->Option ap
 |_,[],_,E,O,K=>K E O
 |i,o::os,L,E,O,K=>
  match o.guard with
  |none=>BH X B i o L E O λL E O=>vu B ops (i+1) os L E O K
  |some (j,want)=>
   match (ops[j]?).bind (·.dst) with
   |none=>ae
   |some d=>
    vn E d λE=>
     match eI E d with
     | .c (.bool b)=>if b=want then BH X B i o L E O λL E O=>vu B ops (i+1) os L E O K else vu B ops (i+1) os L (na E o.dst .undef) O K
     | .undef=>vu B ops (i+1) os L (na E o.dst .undef) O K
     |_=>ae
structure mP (D:Nat->Type) where
 path:List Nat
 fits:List (Nat×bc D)->List (ba D)->Bool
 run:List (Nat×bc D)->List (ba D)->{ap:Type}->(fG->List (Nat×bc D)->List (ba D)->Option ap)->Option ap
def Jr:List Nat->List Nat->Bool|[],[]=>aa|a::p,b::q=>fi a b&&Jr p q|_,_=>ak
def sf (us:List (mP D)) (p:List Nat) (E:List (Nat×bc D)) (O:List (ba D)):Option (mP D):=match us with|[]=>ae|u::us=>if (Jr u.path p&&u.fits E O)=aa then J u else sf us p E O
def as2:Option (ba D)->Bool|some (.nest _ _ _ _ (J _) _)=>aa|_=>ak
def avr (O:List (ba D)) (n:Nat):Bool:=
 match O[n]? with
 |some (.nest _ _ _ _ (J p) _)=>(match O[p.2]? with|some o=> !o.live|none=>ak)
 |_=>ak
def LK:Nat->List (ba D)->Option (List (ba D))
 |0,O=>J O
 |n+1,O=>match LK n O with|some cu=>if as2 cu[n]? =aa then (if avr cu n=aa then J cu else xj cu n) else J cu|none=>ae
def vq (K:List (Nat×bc D)->List (ba D)->Option ap) (E:List (Nat×bc D)) (O:List (ba D)):Option ap:=match LK O.length O with|some cr=>K E cr|none=>ae
def j8 (us:List (mP D)) (calm:Array Oper->Bool):Bool->List Nat->Code->List (Nat×bc D)->List (ba D)->(fG->List (Nat×bc D)->List (ba D)->Option ap)->Option ap|top,p, .seq a b,E,O,K=>(match (if top=aa then ae else sf us p.reverse E O) with|some u=>u.run E O K|none=>j8 us calm ak (0::p) a E O λe E O=>if e= .normal then j8 us calm ak (1::p) b E O K else K e E O)|top,p, .cond c a b,E,O,K=>(match (if top=aa then ae else sf us p.reverse E O) with|some u=>u.run E O K|none=>match dp E c with| .c (.bool t)=>if t=aa then j8 us calm ak (0::p) a E O K else j8 us calm ak (1::p) b E O K|_=>ae)|top,p, .block id c,E,O,K=>(match (if top=aa then ae else sf us p.reverse E O) with|some u=>u.run E O K|none=>j8 us calm ak (0::p) c E O λe E O=>K (if e= .exit id then .normal else e) E O)|top,p, .scope c,E,O,K=>(match (if top=aa then ae else sf us p.reverse E O) with|some u=>u.run E O K|none=>j8 us calm ak (0::p) c E O K)|top,p, .region _ ops d,E,O,K=>(match (if top=aa then ae else sf us p.reverse E O) with|some u=>u.run E O K|none=>if d=aa then (if calm ops=aa then tM X ops.toList ops.toList E O (vq (K .normal)) else vu X (kp ops) ops.toList 0 ops.toList ⟨[],[],[],[],[]⟩ E O (vq (K .normal))) else tM X ops.toList ops.toList E O (vq (K .normal)))|top,p, .loop c,E,O,K=>(match (if top=aa then ae else sf us p.reverse E O) with|some u=>u.run E O K|none=>ae)|_,_, .skip,E,O,K=>K .normal E O|_,_, .label _,E,O,K=>K .normal E O|_,_, .exit id,E,O,K=>K (.exit id) E O|_,_, .ret,E,O,K=>K .ret E O|_,_,_,_,_,_=>ae
end
end
end Go.aF
end
section
namespace Go.aF
def gz {aK:Type} {p:Prop} [Decidable p] {a:Option aK} {x:aK} (h:(if p then a else ae)=J x):p/\a=J x:=by
 grind
section
variable {P:bI} {D:Nat->Type} {X:e3 P D} {ap:Type} {z z':Nat->bW} {e m m':Mem} {k:Option Nat} {vs:List af} {fr:Nat->af} {E:List (Nat×bc D)} {O:List (ba D)} {o:Oper} {r:ap}
def dH (X:e3 P D) (O:List (ba D)) (z:Nat->bW) (e:Mem) (k:Option Nat) (vs:List af) (K:bc D->List (ba D)->Option ap) (r:ap) (v:af) (m':Mem):Prop:=∃z' vs' dR cr,Inv O cr/\dT e.next z z'/\(∀(i:Nat) (u:af),vs[i]? =J u->vs'[i]? =J u)/\b9 X.G cr z' e m' k vs'/\rel X.G z' vs' dR v/\K dR cr=J r
theorem dH.here {K:bc D->List (ba D)->Option ap} {dR:bc D} {v:af} (aN:b9 X.G O z e m k vs) (aD:rel X.G z vs dR v) (k1:K dR O=J r):dH X O z e k vs K r v m:=⟨z,vs,dR,O,Inv.refl O,dT.refl z,λ_ _ h=>h,aN,aD,k1⟩
theorem dH.from {K:bc D->List (ba D)->Option ap} {v:af} {dv:Nat->bW} {cu:List (ba D)} (az:Inv O cu) (bx:dT e.next z dv) (h:dH X cu dv e k vs K r v m'):dH X O z e k vs K r v m':=by
 obtain ⟨z',vs',dR,cr,bR,h1,ai,aT,br,cK⟩:=h;exact ⟨z',vs',dR,cr,az.trans bR,bx.trans h1,ai,aT,br,cK⟩
def WN (bp:∀d,rel X.G z vs (eI E d) (fr d)) (x:bS):rel X.G z vs (dp E x) (bk fr x):=by
 cases x with
 |tmp t=>exact bp t
 |func f=>exact ⟨[],rfl,trivial⟩
 |global g=>trivial
 |const v=>show rel X.G z vs (VW v) v;unfold VW;split<;>first|trivial|rfl
def adL {i:Nat} {c:cv D} {cr:List (ba D)} {v:af} (aN:b9 X.G O z e m k vs) (h:v8 O i=J (c,cr)) (aD:vs[i]? =J v):∃z',Inv O cr/\dT e.next z z'/\b9 X.G cr z' e m k vs/\ed X.G z' vs c v:=by
 unfold v8 at h;split at h
 ·rename_i t xs bZ w aM;cases h;have cG:=aN.obj i _ v aM aD;cases bZ with
  |true=>
   have:O.set i (.bh t xs aa w)=O:=by
    apply rv
    grind
   rw[this];exact ⟨z,Inv.refl O,dT.refl z,aN,cG⟩
  |false=>have cG:dU (X.G.T t) z e m k xs v:=cG;obtain ⟨z',h1,ai,aT,br⟩:=cG.freeze aN.aS;have aw:dQ v=da v:=hi (by obtain ⟨a,c,rfl⟩:=cG.bT.len;grind);exact ⟨z',Inv.set O i (.inl rfl),h1,aN.jT aM aD rfl rfl h1.le ai (by grind) aT,aT⟩
 ·rename_i t bG bA es bZ w aM;cases h;have cG:=aN.obj i _ v aM aD;cases bZ with
  |true=>
   have:O.set i (.map t bG bA es aa w)=O:=by
    apply rv
    grind
   rw[this];exact ⟨z,Inv.refl O,dT.refl z,aN,cG⟩
  |false=>
   have cG:jD (X.G.M t bG bA) z e m k es v:=cG;obtain ⟨z',h1,ai,aT,br⟩:=cG.freeze aN.aS;have aw:dQ v=tH v:=by obtain ⟨r,rfl,_⟩:=cG.bT;rfl
   exact ⟨z',Inv.set O i (.inl rfl),h1,aN.jT aM aD rfl rfl h1.le ai (by grind) aT,aT⟩
 ·rename_i eV t up eh w aM;cases h;obtain ⟨hu,ws,cG⟩:=aN.obj i _ v aM aD;obtain ⟨h1,ai,aT⟩:=hu up rfl;obtain ⟨z',g1,g2,g3,g4⟩:=aqd cG h1 ai aT aN.aS;have rY:∀r,v≠ .map r:=by obtain ⟨a,c,rfl⟩:=cG.bT.bT.len;grind
  exact ⟨z',Inv.set O i (.inl rfl),g1,aN.Hr (p:=ae) aM aD rfl rY g1.le ⟨e4 _,aN.aS.dead,λ_ _ _=>rfl⟩ g2 (λ_ _ _ _ _ _ _=>e6.qg) (λb aw=>by grind) (λb aw _ aR=>g4 b aw aR) g3,g3⟩
 grind
def zw {c c3:cv D} {cr:List (ba D)} {v:af} (aN:b9 X.G O z e m k vs) (h:sY O c=J (c3,cr)) (aD:ed X.G z vs c v):∃z',Inv O cr/\dT e.next z z'/\b9 X.G cr z' e m k vs/\ed X.G z' vs c3 v:=by
 cases c with
 |own i=>exact adL aN h aD.1
 |_=>cases h;grind [Inv.refl,dT.refl]
theorem K1:∀{cs cs':List (cv D)} {O cr:List (ba D)} {ds:List af} {z:Nat->bW},b9 X.G O z e m k vs->uJ O cs=J (cs',cr)->bP (ed X.G z vs) cs ds->∃z',Inv O cr/\dT e.next z z'/\b9 X.G cr z' e m k vs/\bP (ed X.G z' vs) cs' ds
 |[],cs',O,cr,[],z,aN,h,_=>by cases h;grind [Inv.refl,dT.refl]
 |c::cs,cs',O,cr,d::ds,z,aN,h,⟨h1,ai⟩=>by
  unfold uJ at h;split at h
  ·rename_i c3 cu ay;split at h
   ·rename_i amv dz jI;cases h;obtain ⟨dv,g0,g1,g2,g3⟩:=zw aN ay h1;obtain ⟨z2,lu,cL,c9,fo⟩:=K1 g2 jI (pb.mono ai g1.le λ_ _ h=>h);exact ⟨z2,g0.trans lu,g1.trans cL,c9,ed.mono g3 cL.le λ_ _ h=>h,fo⟩
   grind
  grind
 |[],_,_,_,_::_,_,_,_,h=>h.elim
 |_::_,_,_,_,[],_,_,_,h=>h.elim
def KA {s:bc D} {cs:List (cv D)} {v:af} (h:xg s=J cs) (aD:rel X.G z vs s v):storable v=aa/\bP (ed X.G z vs) cs v.cells.toList:=by
 cases s with
 |c c=>cases h;have:=ed.afp aD;rw[this.2];exact ⟨this.1,aD,trivial⟩
 |agg t cs'=>cases h;obtain ⟨ds,rfl,ai⟩:=aD;exact ⟨rfl,ai⟩
 |box i off=>
  simp only[xg] at h;split at h
  ·rename_i bR;subst bR;cases h;obtain ⟨b,h1,rfl⟩:=aD;exact ⟨rfl,⟨h1,rfl,rfl⟩,trivial⟩
  grind
 |fn f caps=>
  cases caps with
  |nil=>
   cases h;obtain ⟨gs,rfl,ai⟩:=aD;cases gs with
   |nil=>exact ⟨rfl,⟨[],rfl,trivial⟩,trivial⟩
   |cons _ _=>exact ai.elim
  |cons _ _=>cases h
 |_=>cases h
def adM {s:bc D} {cs:List (cv D)} {cr:List (ba D)} {v:af} (aN:b9 X.G O z e m k vs) (h:Jx O s=J (cs,cr)) (aD:rel X.G z vs s v):∃z',Inv O cr/\dT e.next z z'/\b9 X.G cr z' e m k vs/\storable v=aa/\bP (ed X.G z' vs) cs v.cells.toList:=by
 unfold Jx at h;split at h
 ·rename_i rJ ay;obtain ⟨h1,ai⟩:=KA ay aD
  grind [K1]
 grind
variable {x y:bS} {t u:bV}
def asp {op:BinOp} {kk:aG} {a b:Int} {K:cv D->Option ap} (aM:o.op= .binOp op t x y u) (an:bk fr x= .int kk a) (aZ:bk fr y= .int kk b) (h:Jd op y kk a b K=J r):∃c v,K c=J r/\dD P (bk fr) o v/\ed X.G z vs c v:=by
 have lit:Lw y=aa->b≠0:=λaR aw=>by
  unfold Lw at aR;split at aR
  ·rename_i Ka n;have:mu Ka n= .int kk b:=aZ
   grind
  grind
 cases op with
 |add=>exact ⟨_,_,h,apO aM an aZ,rfl⟩
 |sub=>exact ⟨_,_,h,apZ aM an aZ,rfl⟩
 |mul=>exact ⟨_,_,h,apU aM an aZ,rfl⟩
 |and=>exact ⟨_,_,h,apP aM an aZ,rfl⟩
 |or=>exact ⟨_,_,h,apY aM an aZ,rfl⟩
 |xor=>exact ⟨_,_,h,ap0 aM an aZ,rfl⟩
 |andNot=>exact ⟨_,_,h,asE aM an aZ,rfl⟩
 |eql=>exact ⟨_,_,h,abO aM an aZ,rfl⟩
 |neq=>exact ⟨_,_,h,apW aM an aZ,rfl⟩
 |lss=>exact ⟨_,_,h,apT aM an aZ,rfl⟩
 |leq=>exact ⟨_,_,h,apS aM an aZ,rfl⟩
 |gtr=>exact ⟨_,_,h,apR aM an aZ,rfl⟩
 |geq=>exact ⟨_,_,h,apQ aM an aZ,rfl⟩
 |quo=>
  simp only[Jd] at h;split at h
  ·rename_i aR;exact ⟨_,_,h,abP aM an aZ (lit aR),rfl⟩
  ·obtain ⟨c,ay,h⟩:=bind_some h;obtain ⟨h1,rfl⟩:=aq0 ay;exact ⟨_,_,h,abP aM an aZ h1,rfl⟩
 |rem=>
  simp only[Jd] at h;split at h
  ·rename_i aR;exact ⟨_,_,h,abQ aM an aZ (lit aR),rfl⟩
  ·obtain ⟨c,ay,h⟩:=bind_some h;obtain ⟨h1,rfl⟩:=acD ay;exact ⟨_,_,h,abQ aM an aZ h1,rfl⟩
 |shl=>cases h
 |shr=>cases h
def asq {op:BinOp} {s q:List UInt8} {K:cv D->Option ap} (aM:o.op= .binOp op t x y u) (an:bk fr x=str s) (aZ:bk fr y=str q) (h:ZO op s q K=J r):∃c v,K c=J r/\dD P (bk fr) o v/\ed X.G z vs c v:=by
 cases op with
 |add=>obtain ⟨c,ay,h⟩:=bind_some h;obtain ⟨h1,rfl⟩:=tv ay;exact ⟨_,_,h,avs aM an aZ (by grind [uf]),rfl⟩
 |eql=>exact ⟨_,_,h,avv aM an aZ,rfl⟩
 |neq=>exact ⟨_,_,h,auT aM an aZ,rfl⟩
 |lss=>exact ⟨_,_,h,auO aM an aZ,rfl⟩
 |leq=>exact ⟨_,_,h,auN aM an aZ,rfl⟩
 |gtr=>exact ⟨_,_,h,auJ aM an aZ,rfl⟩
 |geq=>exact ⟨_,_,h,auI aM an aZ,rfl⟩
 |_=>cases h
def aso {op:BinOp} {a b:Bool} {K:cv D->Option ap} (aM:o.op= .binOp op t x y u) (aJ:P.underlying t=J .bool) (an:bk fr x= .bool a) (aZ:bk fr y= .bool b) (h:ZN op a b K=J r):∃c v,K c=J r/\dD P (bk fr) o v/\ed X.G z vs c v:=by
 cases op with
 |eql=>exact ⟨_,_,h,avu aM aJ an aZ,rfl⟩
 |neq=>exact ⟨_,_,h,auS aM aJ an aZ,rfl⟩
 |_=>cases h
def WM {s:bc D} {v:af} {p:(t:Nat)×List (D t)} (aN:b9 X.G O z e m k vs) (h:qn O s=J p) (aD:rel X.G z vs s v):fA (X.G.T p.1) z p.2 v\/∃(w:af),dU (X.G.T p.1) z e m k p.2 v:=by
 unfold qn at h;split at h
 ·cases h;exact .inl aD
 ·rename_i i;split at h
  ·rename_i t xs bZ w aM;cases h;have cG:=aN.obj i _ v aM aD.1;cases bZ with
   |true=>exact .inl cG
   |false=>exact .inr ⟨v,cG⟩
  grind
 grind
def aqK {s:bc D} {v:af} {p:(t:Nat)×List (D t)} (aN:b9 X.G O z e m k vs) (h:qn O s=J p) (aD:rel X.G z vs s v):∃a c,v= .slice a p.2.length c:=by
 rcases WM aN h aD with h|⟨_,h⟩
 ·exact h.len
 ·exact h.bT.len
def acz {s:bc D} {v:af} {p:(t:Nat)×List (D t)} (aN:b9 X.G O z e m k vs) (h:qn O s=J p) (aD:rel X.G z vs s v):(v= .slice ae 0 0/\p.2=[])\/∃a l c,v= .slice (J a) l c:=by
 rcases WM aN h aD with h|⟨_,h⟩
 ·exact h.VU
 ·exact h.bT.VU
theorem aqL {s:bc D} {v:af} {p:(t:Nat)×List (D t)} (aN:b9 X.G O z e m k vs) (h:qn O s=J p) (aD:rel X.G z vs s v):Src (X.G.T p.1) z m p.2 v:=by
 rcases WM aN h aD with h|⟨_,h⟩
 ·exact h.src aN.aS.bZ
 ·exact h.bT.src
def pO.avG {aK:Type} {T:cM aK} {z':Nat->bW} {xs:List aK} {cf n:Nat} {w v:af} (ay:pO T.bM cf n w v) (h:fA T z' xs w):fA T z' ((xs.take n).drop cf) v:=by
 rcases ay with ⟨rfl,rfl,rfl,rfl⟩|⟨b,f0,l,c,off,c3,rfl,rfl,h1,ai,aT,br⟩
 ·exact .inl ⟨rfl,by rfl⟩
 ·rcases h with ⟨h,_⟩|⟨dJ,VX,c2,g1,g2,g3,g4⟩
  ·grind
  ·cases g1;have aR:((xs.take n).drop cf).length=n - cf:=by grind
   refine .inr ⟨b,off,c3,by grind,g2, ?_,λi x az=> ?_⟩
   ·rw[aR];rcases g3 with ⟨cL,L,c9,fo⟩|⟨cL,c9⟩
    ·rcases br with ⟨_,cK⟩|⟨cK,_⟩
     ·refine .inl ⟨cK,L,c9, ?_⟩;have bX:n*T.bM<=xs.length*T.bM:=oH _ ai;rcases aT with aT|⟨aT,axA⟩
      ·rw[aT,sK,<-ko,show cf+(n - cf)=n by omega];omega
      grind
     grind
    grind
   grind
def pO.VY {aK:Type} {T:cM aK} {z':Nat->bW} {m':Mem} {xs:List aK} {cf n:Nat} {w v:af} (ay:pO T.bM cf n w v) (h:fO T z' m' xs w):fO T z' m' ((xs.take n).drop cf) v:=by
 rcases ay with ⟨rfl,rfl,_,rfl⟩|⟨b,f0,l,c,off,c3,rfl,rfl,h1,ai,aT,br⟩
 ·exact .inl ⟨rfl,by simp⟩
 ·rcases h with ⟨h,_⟩|⟨dJ,f1,L,c2,g1,g2,g3,g4,g5,g6,g7⟩
  ·grind
  ·cases g1;have aR:((xs.take n).drop cf).length=n - cf:=by grind
   have bX:n*T.bM<=xs.length*T.bM:=oH _ ai;have e2:cf*T.bM+(n - cf)*T.bM=n*T.bM:=by rw[<-ko,show cf+(n - cf)=n by omega]
   have aaa:n<=cf->(n - cf)*T.bM=0:=λh=>by grind
   refine .inr ⟨b,off,L,c3,by grind,g2,g3,g4, ?_, ?_,λi x az=> ?_⟩
   ·grind
   ·rw[aR];rcases br with ⟨_,cK⟩|⟨cK,fJ⟩
    ·grind
    ·rcases g6 with g6|⟨cL,c9,fo⟩
     ·omega
     ·subst fJ;have amG:cf*T.bM+(c - cf)*T.bM=c*T.bM:=by rw[<-ko,show cf+(c - cf)=c by omega]
      refine .inr ⟨by omega,by omega, ?_⟩
      grind
   ·obtain ⟨cs,cL,c9⟩:=g7 _ x (WU az)
    grind
def pO.bT {aK:Type} {T:cM aK} {z':Nat->bW} {m':Mem} {xs:List aK} {n:Nat} {w v:af} (ay:pO T.bM 0 n w v) (h:fO T z' m' xs w):fO T z' m' (xs.take n) v:=by simpa using ay.VY h
def pO.src {aK:Type} {T:cM aK} {z':Nat->bW} {m':Mem} {xs:List aK} {cf n:Nat} {w v:af} (ay:pO T.bM cf n w v) (h:fO T z' m' xs w):Src T z' m' ((xs.take n).drop cf) v:=by
 rcases ay with ⟨rfl,rfl,rfl,rfl⟩|⟨b,f0,l,c,off,c3,rfl,rfl,h1,ai,aT,br⟩
 ·simpa using (fO.nil (T:=T) (z:=z') (m:=m')).src
 ·rcases h with ⟨h,_⟩|⟨dJ,f1,L,c2,g1,g2,g3,g4,g5,g6,g7⟩
  ·grind
  ·cases g1;have aR:((xs.take n).drop cf).length=n - cf:=by grind
   rw[<-aR];refine Xv λi y aZ=> ?_;obtain ⟨cs,cL,c9⟩:=g7 _ y (WU aZ);refine ⟨cs,cL,λk u hk=> ?_⟩;have:=(fq.1 aZ).1;have aM:off=f0+cf*T.bM:=by
    grind
   rw[aM,sK f0,<-ko];simp only[Mem.load,g2];exact c9 k u hk
def pO.blk {bM cf n:Nat} {w v:af} (ay:pO bM cf n w v):dQ v=dQ w:=by
 rcases ay with ⟨rfl,rfl,_,_⟩|⟨b,f0,l,c,off,c3,rfl,rfl,_⟩<;>rfl
def acy {s:bc D} {v:af} {p:(t:Nat)×List (D t)} (aN:b9 X.G O z e m k vs) (h:Lx O s=J p) (aD:rel X.G z vs s v):Src (X.G.T p.1) z m p.2 v:=by
 unfold Lx at h;split at h
 ·obtain ⟨w,h1,ai⟩:=aD;split at h
  ·rename_i cz xs dX hO;split at h
   ·rename_i he;subst he;cases h;have cG:dU _ z e m k xs w:=aN.obj _ _ _ hO h1.1;exact ai.src cG.bT
   grind
  grind
 grind [aqL]
def ac0 (h:XW y=aa):bk fr y= .slice ae 0 0:=by
 unfold XW at h;split at h
 ·rfl
 grind
def aef {op:BinOp} {left:Bool} {kk Ka:aG} {a b:Int} {K:cv D->Option ap} (aM:o.op= .binOp op t x y u) (bl:bk fr x= .int kk a) (aw:bk fr y= .int Ka b) (rW:(op= .shl/\left=aa)\/(op= .shr/\left=ak)) (h:P1 left y kk a b K=J r):∃c v,K c=J r/\dD P (bk fr) o v/\ed X.G z vs c v:=by
 have fin:∀{n:Nat},0<=b->min b.toNat kk.bits=n->dD P (bk fr) o (.int kk (G4 left kk a n)):=by
  intro n qP bB;have:=atf (P:=P) (op:=op) aM bl aw qP (by grind)
  grind [G4]
 unfold P1 at h;split at h
 ·rename_i n bB;obtain ⟨aR,h⟩:iJ n kk.bits=aa/\K (.int kk (G4 left kk a n))=J r:=by
   grind
  have jh:b=n:=by
   unfold aeD at bB;split at bB
   ·cases bB;have aw:mu _ (Int.ofNat n)= .int Ka b:=aw
    grind
   grind
  exact ⟨_,_,h,fin (by omega) (by simp_all),rfl⟩
 ·obtain ⟨n,bB,h⟩:=bind_some h;unfold j2 at bB;split at bB
  ·rename_i qP;cases bB;exact ⟨_,_,h,fin qP rfl,rfl⟩
  grind
def ats {op:BinOp} {t1 t2:Nat} {c1 c2:List (cv D)} {K:cv D->Option ap} (aM:o.op= .binOp op t x y u) (bl:rel X.G z vs (.agg t1 c1) (bk fr x)) (aw:rel X.G z vs (.agg t2 c2) (bk fr y)) (h:UH X op t t1 c1 t2 c2 K=J r):∃c v,K c=J r/\dD P (bk fr) o v/\ed X.G z vs c v:=by
 unfold UH at h;split at h
 ·rename_i ti oo aoT ayl;split at h
  ·rename_i a b h1 ai;obtain ⟨ds,an,JU⟩:=bl;obtain ⟨nv,aZ,JV⟩:=aw;have bX:=oo.aD z a ds (ti.r6 z vs c1 a ds h1 JU);have e2:=oo.aD z b nv (ti.r6 z vs c2 b nv ai JV);rw[bX] at an;rw[e2] at aZ;split at h
   ·exact ⟨_,_,h,abN ak (by simpa using aM) oo.aJ oo.bb oo.bs (oo.bf a b) an aZ (oo.he a b),rfl⟩
   ·exact ⟨_,_,h,abN aa (by simpa using aM) oo.aJ oo.bb oo.bs (oo.bf a b) an aZ (oo.he a b),rfl⟩
   grind
  grind
 grind
def asr {op:BinOp} {a b:bc D} {K:cv D->Option ap} (aM:o.op= .binOp op t x y u) (aN:b9 X.G O z e m k vs) (bl:rel X.G z vs a (bk fr x)) (aw:rel X.G z vs b (bk fr y)) (h:T6 (P:=P) op t y O a b K=J r):∃c v,K c=J r/\dD P (bk fr) o v/\ed X.G z vs c v:=by
 unfold T6 at h;split at h
 ·split at h
  ·exact aef aM bl aw (.inl ⟨rfl,rfl⟩) h
  ·exact aef aM bl aw (.inr ⟨rfl,rfl⟩) h
  ·split at h
   ·rename_i hk;subst hk;exact asp aM bl aw h
   grind
 ·exact asq aM bl aw h
 ·split at h
  ·rename_i aJ;exact aso aM aJ bl aw h
  grind
 ·split at h
  ·rename_i hE aJ bB;have aZ:=ac0 (fr:=fr) bB;split at h
   ·exact ⟨_,_,h,KW ak aM aJ bl aZ,rfl⟩
   ·split at h
    ·rename_i eu xs aR;rcases acz aN aR bl with ⟨aD,y1⟩|⟨a',r3,c3,aD⟩
     ·exact ⟨_,_,KF h aa λ_=>y1,KW ak aM aJ aD aZ,rfl⟩
     ·exact ⟨_,_,KF h ak (by simp), .A2 ak x y t u hE a' r3 c3 aM aJ aD aZ,rfl⟩
    grind
  ·rename_i hE aJ bB;have aZ:=ac0 (fr:=fr) bB;split at h
   ·exact ⟨_,_,h,KW aa aM aJ bl aZ,rfl⟩
   ·split at h
    ·rename_i eu xs aR;rcases acz aN aR bl with ⟨aD,y1⟩|⟨a',r3,c3,aD⟩
     ·exact ⟨_,_,KF h aa λ_=>y1,KW aa aM aJ aD aZ,rfl⟩
     ·exact ⟨_,_,KF h ak (by simp), .A2 aa x y t u hE a' r3 c3 aM aJ aD aZ,rfl⟩
    grind
  grind
end
end Go.aF
end
section
namespace Go.aF
section
variable {P:bI} {D:Nat->Type} {X:e3 P D} {ap:Type} {z z':Nat->bW} {e m m':Mem} {k:Option Nat} {vs:List af} {fr:Nat->af} {E:List (Nat×bc D)} {O:List (ba D)} {o:Oper} {r:ap}
variable {x y:bS} {t u:bV} {K:bc D->List (ba D)->Option ap}
def j1 {dR:bc D} {v:af} (aN:b9 X.G O z e m k vs) (k1:K dR O=J r) (h:dD P (bk fr) o v) (aD:rel X.G z vs dR v):cH P (bk fr) o m λ_ v m'=>dH X O z e k vs K r v m':=
 cH.pure h (dH.here aN aD k1)
def ae5 {ht:Nat} {ti:dP P X.G ht} {xs:List (D ht)} {n:Int} {kk:aG} {a:D ht} (aM:o.op= .indexAddr t x y) (aJ:P.underlying t=J (.slice ht)) (aN:b9 X.G O z e m k vs) (bf:fA (X.G.T ht) z xs (bk fr x)) (aZ:bk fr y= .int kk n) (bs:al xs n=J a)
  (h:K (.hd ht (ti.kM a) 0) O=J r):cH P (bk fr) o m λ_ v m'=>dH X O z e k vs K r v m':=by
 refine avh aM aJ ti.az ti.cN rfl aZ bf bs λb off cs e0 ay=> ?_;exact dH.here (dR:= .hd ht (ti.kM a) 0) aN ⟨b,off,cs,rfl,ay,ti.rc _ _ _ _ e0⟩ h
def arM {a b:bc D} (aM:o.op= .indexAddr t x y) (aN:b9 X.G O z e m k vs) (bl:rel X.G z vs a (bk fr x)) (aw:rel X.G z vs b (bk fr y)) (h:XQ X t a b O K=J r):cH P (bk fr) o m λ_ v m'=>dH X O z e k vs K r v m':=by
 unfold XQ at h;split at h
 ·rename_i kk n;have aZ:bk fr y= .int kk n:=aw;split at h
  ·rename_i i;split at h
   ·rename_i t1 G7 tp xs dX hO;split at h
    ·rename_i ti l cz iE aJ;split at h
     ·rename_i eB;obtain ⟨rfl,rfl⟩:=eB;obtain ⟨a,bs,h⟩:=bind_some h;obtain ⟨b,ju,aD,an⟩:=bl;obtain ⟨⟨dJ,he⟩,cG⟩:=aN.obj i _ _ hO aD;cases he;refine avg aM aJ ti.az (T:=(X.G.T cz).as G7) ti.cN an aZ cG bs λcs e0 uU ay=> ?_;exact dH.here (dR:= .el i cz n 0) aN ⟨b,0,_,_,aD,by simp;rfl⟩ h
     grind
    grind
   grind
  ·rename_i bX xs;split at h
   ·rename_i ti cz iE aJ;split at h
    ·rename_i eB;subst eB;obtain ⟨a,bs,h⟩:=bind_some h;exact ae5 (ti:=ti) aM aJ aN bl aZ bs h
    grind
   grind
  ·rename_i i;split at h
   ·rename_i t1 xs bZ dX hO;split at h
    ·rename_i ti cz iE aJ;split at h
     ·rename_i eB;subst eB;obtain ⟨a,bs,h⟩:=bind_some h;have cG:=aN.obj i _ _ hO bl.1;cases bZ with
      |true=>exact ae5 (ti:=ti) aM aJ aN cG aZ bs h
      |false=>have cG:dU (X.G.T cz) z e m k xs (bk fr x):=cG;refine ae6 aM aJ ti.az ti.cN rfl aZ cG bs λb f0 l c cs aD e0 uU ay=> ?_;exact dH.here (dR:= .el i cz n 0) aN ⟨b,f0,l,c,by rw[<-aD];exact bl.1,rfl⟩ h
     grind
    grind
   ·rename_i bX t1 up eh hole dX hO;split at h
    ·rename_i eG cz oM aJ;split at h
     ·rename_i eB;subst eB;obtain ⟨a,bs,h⟩:=bind_some h;obtain ⟨hu,ws,cG⟩:=aN.obj i _ _ hO bl.1;obtain ⟨g0,g1,g2⟩:=o3 bs;have cF:n.toNat<ws.length:=by rw[cG.len];grind
      have wm:al ws n=J ws[n.toNat]:=by
       grind [al]
      refine ae6 (T:=rD cz) aM aJ eG.az (by rw[eG.h1];rfl) rfl aZ cG.bT wm λb f0 l c cs aD e0 uU ay=> ?_;exact dH.here (dR:= .el i cz n 0) aN ⟨b,f0,l,c,by rw[<-aD];exact bl.1,by rw[eG.cN];rfl⟩ h
     grind
    grind
   grind
  ·rename_i i bX cf az;split at h
   ·rename_i t1 xs dX hO;split at h
    ·rename_i ti cz iE aJ;split at h
     ·rename_i eB;obtain ⟨rfl,rfl⟩:=eB;obtain ⟨a,bs,h⟩:=bind_some h;obtain ⟨w,hw,ay⟩:=bl;obtain ⟨g0,g1,g2⟩:=o3 bs;have hlen:n.toNat<((xs.take az).drop cf).length:=(fq.1 g2).1;rw[List.length_drop,List.length_take] at hlen;rcases ay with ⟨_,_,rfl,rfl⟩|⟨b,f0,l,c,off,c3,rfl,aD,h1,ai,aT,br⟩
      ·omega
      ·have rV:off=f0+cf*(X.G.T t1).bM:=by grind
       refine cH.pure (v:= .pointer (J ⟨b,off+n.toNat*ti.i.size,ae⟩)) (.indexAddr t x y t1 ti.i b off _ c3 kk n aM aJ ti.az aD aZ g0 (by omega)) (dH.here (dR:= .el i t1 ((cf:Int)+n) 0) aN ⟨b,f0,l,c,hw.1, ?_⟩ h);have bX:((cf:Int)+n).toNat=cf+n.toNat:=by omega
       rw[bX,rV,ti.cN,ko,Nat.add_zero,sK]
     grind
    grind
   grind
  grind
 grind
def arJ {n:Nat} {a:bc D} (aM:o.op= .fieldAddr t x n) (aN:b9 X.G O z e m k vs) (bl:rel X.G z vs a (bk fr x)) (h:X1 (P:=P) t n a O K=J r):cH P (bk fr) o m λ_ v m'=>dH X O z e k vs K r v m':=by
 unfold X1 at h;split at h
 ·rename_i bY aJ;split at h
  ·rename_i f bF;split at h
   ·rename_i i az;split at h
    ·grind
    ·rename_i bf;have oa:(i.size==0)=ak:=by grind
     split at h
     ·obtain ⟨b,aD,an⟩:=bl;exact j1 aN h (Xk aM aJ bF az oa an) ⟨b,aD,rfl⟩
     ·obtain ⟨b,iw,ds,an,ay,aV⟩:=bl;exact j1 aN h (Xk aM aJ bF az oa an) ⟨b,iw,ds,by grind,ay,aV⟩
     ·obtain ⟨b,f0,l,c,aD,an⟩:=bl;exact j1 aN h (Xk aM aJ bF az oa an) ⟨b,f0,l,c,aD,by grind⟩
     grind
   grind
  grind
 grind
def ary {b off:Nat} {cs:List (cv D)} {ds:List af} {K:bc D->Option ap} (aM:o.op= .load t x) (an:bk fr x= .pointer (J ⟨b,off,ae⟩)) {rI:Nat} (ay:∀(j:Nat) (w:af),ds[j]? =J w->m.load b (rI+j)=J w) {n:Nat} (rV:off=rI+n) (aV:bP (ed X.G z vs) cs ds)
  (h:o7 (P:=P) t cs n K=J r):∃dR v,K dR=J r/\rel X.G z vs dR v/\fH P (bk fr) o m v:=by
 subst rV;unfold o7 at h;split at h
 ·grind
 ·rename_i d bg;split at h
  ·rename_i sZ;split at h
   ·grind
   ·rename_i i az;split at h
    ·rename_i hlen;have nG:bP (ed X.G z vs) ((cs.drop n).take i.size) ((ds.drop n).take i.size):=bP.take _ (bP.drop _ aV);have lM:((ds.drop n).take i.size).length=i.size:=by rw[<-nG.length];grind
     refine ⟨_, .agg ((ds.drop n).take i.size).toArray,h,⟨_,rfl,nG⟩,atx aM bg sZ az lM an λj w bn=> ?_⟩
     grind
    grind
  ·rename_i sZ;split at h
   ·rename_i c jI;obtain ⟨w,hw,Bv⟩:=aV.get n c jI;exact ⟨_,w,h,Bv,XV aM bg (by grind) an (ay n w hw)⟩
   grind
def b9.kill (h:b9 X.G O z e m k vs) (i:Nat):b9 X.G (O.set i .dead) z e m k vs:=by
 refine ⟨h.aS,by rw[sJ];exact h.len,λj p w bn hw=> ?_,λa b p ka u w jV bl aw hr lO hu hw=> ?_⟩
 ·rw[ll] at bn;split at bn
  ·split at bn
   ·cases bn;trivial
   grind
  ·exact h.obj j p w bn hw
 ·have key:∀(a:Nat) (p:ba D),(O.set i .dead)[a]? =J p->p.live=aa->O[a]? =J p:=by
   intro a p bl bb;rw[ll] at bl;split at bl
   ·split at bl
    ·cases bl;cases bb
    grind
   grind
  exact h.fD a b p ka u w jV (key a p bl hr) (key b ka aw lO) hr lO hu hw
def BZ {cu:List (ba D)} {i:Nat} (aN:b9 X.G O z e m k vs) (h:xj O i=J cu):∃z',Inv O cu/\dT e.next z z'/\b9 X.G cu z' e m k vs:=by
 unfold xj at h;split at h
 ·grind [Inv.refl,dT.refl]
 ·rename_i bX t1 up eh p w hO;split at h
  ·rename_i t2 xs ix UQ;split at h
   ·rename_i eB;subst eB;cases h;obtain ⟨v,aD,hu,ws,cG⟩:=aN.at hO;obtain ⟨u9,u,wx,Bq⟩:=cG.out p rfl;have tc:dU (X.G.T t2) z e m k xs u:=aN.obj p.2 _ u UQ wx;have gT:i≠p.2:=λcp=>by grind
    have kI:dQ v=da v:=hi (by obtain ⟨a,c,rfl⟩:=cG.bT.bT.len;grind);have Bg:dQ u=da u:=hi (by obtain ⟨a,c,rfl⟩:=tc.bT.len;grind);have rY:∀r,v≠ .map r:=by obtain ⟨a,c,rfl⟩:=cG.bT.bT.len;grind
    have fP:=aN.fD p.2 i _ _ u v (λcp=>gT cp.symm) UQ hO rfl rfl wx aD;rw[kI,Bg] at fP;have cF:p.1.toNat<ws.length:=(fq.1 Bq).1;have tk:ws=ws.set p.1.toNat u:=by
     apply rv
     grind
    obtain ⟨z',g1,g2,g3,g4⟩:=W6 cG aN.aS cG.bT tk cF (λq bm=>by grind) tc fP;have Bc:=aN.kill p.2;have UP:(O.set p.2 .dead)[i]? =J (.nest bX t2 up eh (J p) w):=by grind
    have Bd:=Bc.Hr (o':= .nest bX t2 up (eh.set p.1.toNat xs) ae aa) (p:=da u) UP aD rfl rY g1.le ⟨e4 _,aN.aS.dead,λ_ _ _=>rfl⟩ g2 (λj q pH bn bm aR hw=> ?_) (λb aw=>(tc.bT.lt b aw).2) (λb aw bb _=> ?_) ⟨hu,ws,g3⟩
    ·have aoQ:(O.set i (.nest bX t2 up (eh.set p.1.toNat xs) ae aa)).set p.2 .dead=(O.set p.2 .dead).set i (.nest bX t2 up (eh.set p.1.toNat xs) ae aa):=List.set_comm _ _ gT;exact ⟨z',(Inv.set O i (.inr rfl)).trans (Inv.set _ p.2 (.inl rfl)),g1,by grind⟩
    ·rw[ll] at bm;split at bm
     ·split at bm
      ·cases bm;cases aR
      grind
     ·rename_i Vc;have:=aN.fD j p.2 q _ pH u (λcp=>Vc cp.symm) bm UQ aR rfl hw wx
      grind
    grind
   grind
  grind
 grind
def aqJ {i e2 t1:Nat} (eG:vO P X.G e2 t1) {up:Option (List (D t1)->D e2)} {eh:List (List (D t1))} {dX:Bool} {dx:Int} {cu:List (ba D)} {dv:Nat->bW} (aM:o.op= .load e2 x) (aN:b9 X.G O z e m k vs) (kL:Inv O cu) (qc:dT e.next z dv) (jg:b9 X.G cu dv e m k vs) (hO:cu[i]? =J (.nest e2 t1 up eh ae dX)) (bl:rel X.G z vs (.el i e2 dx 0) (bk fr x))
  (h:(ab (al eh dx) λxs=>K (.c (.own cu.length)) (cu.set i (.nest e2 t1 up eh (J (dx,cu.length)) dX)++[.bh t1 xs ak ak]))=J r):cH P (bk fr) o m λ_ v m'=>dH X O z e k vs K r v m':=by
 obtain ⟨xs,bs,h⟩:=bind_some h;obtain ⟨b,f0,l,c,aD,an⟩:=bl;obtain ⟨hu,ws,cG⟩:=jg.obj i _ _ hO aD;obtain ⟨g0,g1,g2⟩:=o3 bs;have cF:dx.toNat<ws.length:=by rw[cG.len];grind
 have hw:=mm cF;have wm:al ws dx=J ws[dx.toNat]:=by
  grind [al]
 obtain ⟨cs,e0,_,ay⟩:=cG.bT.elem rfl wm;have Vf:m.load b (f0+dx.toNat*(X.G.T e2).bM+0)=J ws[dx.toNat]:=by rw[eG.cN];exact ay 0 _ (by rw[e0.1];rfl)
 generalize ws[dx.toNat]=u at*;obtain ⟨z2,fv,fQ,kb,nb,r8,q0⟩:=arD (vs':=vs++[u]) (J7:=cu.length) cG jg.aS hw g2 j0 (by rw[<-jg.len];simp);have rY:∀r,pr (J ⟨b,f0,ae⟩) l c≠ .map r:=λr cp=>by grind
 have nz:((dx.toNat:Nat):Int)=dx:=by omega
 rw[nz] at kb;have Bg:dQ u=da u:=hi (by obtain ⟨a,c,rfl⟩:=nb.bT.len;grind);have az:=(fq.1 hO).1;have ana:b9 X.G (cu++[.dead]) dv e m k (vs++[u]):=jg.V4 trivial λaR=>by cases aR
 have anb:=ana.Hr (o:= .nest e2 t1 up eh ae dX) (o':= .nest e2 t1 up eh (J (dx,cu.length)) dX) (p:=ae) (by grind) (j0 _ _ aD) rfl rY fv.le ⟨e4 _,aN.aS.dead,λ_ _ _=>rfl⟩ fQ (λ_ _ _ _ _ _ _=>e6.qg) (λb aw=>by grind) (λdJ _ _ aR=>by
  grind) ⟨hu,ws,kb⟩
 have hlen:((cu++[(.dead:ba D)]).set i (.nest e2 t1 up eh (J (dx,cu.length)) dX)).length=cu.length+1:=by simp
 have aav:=anb.awv (i:=cu.length) (o':= .bh t1 xs ak ak) (v:=u) (by grind) (by rw[<-jg.len];simp) (nb:dU (X.G.T t1) z2 e m k xs u) (λj q w bn bm aR hw=> ?_)
 ·have JX:((cu++[(.dead:ba D)]).set i (.nest e2 t1 up eh (J (dx,cu.length)) dX)).set cu.length (.bh t1 xs ak ak)=cu.set i (.nest e2 t1 up eh (J (dx,cu.length)) dX)++[.bh t1 xs ak ak]:=by
   simp_all
  rw[JX] at aav;refine cH.read (XV aM eG.hu rfl an Vf) ⟨z2,vs++[u], .c (.own cu.length),_,kL.trans ((Inv.set cu i (.inr ?_)).trans (Inv.push _ _)),qc.trans fv,j0,aav, ?_,h⟩
  ·simp[ba.nd]
  ·obtain ⟨a,c3,rfl⟩:=nb.bT.len;exact ⟨by rw[<-jg.len];simp,rfl,rfl⟩
 ·intro dJ e5 oS;rw[Bg] at oS;refine q0 dJ oS ?_;have anV:j<cu.length:=by
   grind
  by_cases JO:j=i
  ·subst JO;rw[kS (by grind)] at hw;rw[aD] at hw;cases hw;exact ((jg.obj _ _ _ hO aD).lt rfl dJ e5).2.1
  ·rw[List.getElem?_set_ne (λcp=>JO cp.symm),kS anV] at bm;rw[kS (by rw[jg.len];grind)] at hw;exact ((jg.obj j q w bm hw).lt aR dJ e5).2.1
theorem aqE {i bX:Nat} {dx:Int} {off:Nat} (aM:o.op= .load t x) (aN:b9 X.G O z e m k vs) (bl:rel X.G z vs (.el i bX dx off) (bk fr x)) (h:Xb X t i bX dx off O K=J r):cH P (bk fr) o m λ_ v m'=>dH X O z e k vs K r v m':=by
 unfold Xb at h;split at h
 ·rename_i cu bF;obtain ⟨dv,kL,qc,jg⟩:=BZ aN bF;split at h
  ·rename_i e2 t1 up eh dX hO;split at h
   ·rename_i eG oM;split at h
    ·rename_i hk;obtain ⟨rfl,rfl,rfl⟩:=hk;exact aqJ eG aM aN kL qc jg hO bl h
    grind
   grind
  grind
 grind
theorem aqD {a:bc D} (aM:o.op= .load t x) (aN:b9 X.G O z e m k vs) (bl:rel X.G z vs a (bk fr x)) (h:Xa X t a O K=J r):cH P (bk fr) o m λ_ v m'=>dH X O z e k vs K r v m':=by
 unfold Xa at h;split at h
 ·rename_i i e2 dx off;split at h
  ·rename_i bX t1 up eh p dX hO;split at h
   ·rename_i eG t2 xs ix oM bb;split at h
    ·rename_i hk;obtain ⟨rfl,rfl,rfl⟩:=hk;split at h
     ·rename_i nz;obtain ⟨b,f0,l,c,aD,an⟩:=bl;obtain ⟨hu,ws,cG⟩:=aN.obj i _ _ hO aD;obtain ⟨g0,u,g1,g2⟩:=cG.out p rfl;subst nz;obtain ⟨cs,e0,_,ay⟩:=cG.bT.elem rfl (show al ws p.1=J u by grind [al]);have Vf:m.load b (f0+p.1.toNat*(X.G.T t).bM+0)=J u:=by
       rw[eG.cN];exact ay 0 _ (by rw[e0.1];rfl)
      have hu:dU (X.G.T t2) z e m k xs u:=aN.obj p.2 _ u bb g1;refine cH.read (XV aM eG.hu rfl an Vf) (dH.here (dR:= .c (.own p.2)) aN ?_ h);obtain ⟨a,c3,rfl⟩:=hu.bT.len;exact ⟨g1,rfl,rfl⟩
     grind
    grind
   grind
  grind
 grind
def acU {bX:Nat} {ti:dP P X.G bX}:∀{l:Nat} {cs:List (cv D)} {ds:List af} {dK:List (D bX)},zz X ti l cs=J dK->bP (ed X.G z vs) cs ds->∀(i:Nat) (a:D bX),dK[i]? =J a->i<l/\(X.G.T bX).rd z a ((ds.drop (i*(X.G.T bX).bM)).take (X.G.T bX).bM)
 |0,cs,ds,dK,h,_,i,a,az=>by cases h;grind
 |n+1,cs,ds,dK,h,aV,i,a,az=>by
  simp only[zz] at h;split at h
  ·rename_i a0 u3 h1 ai;cases h;cases i with
   |zero=>simp at az;subst az;refine ⟨by omega, ?_⟩;rw[Nat.zero_mul,List.drop_zero];exact ti.r6 z vs _ _ _ h1 (bP.take _ aV)
   |succ i=>
    have:=acU ai (bP.drop _ aV) i a (by grind)
    grind [List.drop_drop]
  grind
theorem ark {a b:bc D} (aM:o.op= .index t x y) (aN:b9 X.G O z e m k vs) (bl:rel X.G z vs a (bk fr x)) (aw:rel X.G z vs b (bk fr y)) (h:XC X t a b O K=J r):cH P (bk fr) o m λ_ v m'=>dH X O z e k vs K r v m':=by
 unfold XC at h;split at h
 ·rename_i t1 cs kk n l bX aJ;obtain ⟨ds,an,aV⟩:=bl;have aw:bk fr y= .int kk n:=aw;split at h
  ·rename_i ti d iE bg;have key:∀{cs':List (cv D)} {cr:List (ba D)} {dK:List (D bX)} {a:D bX},uJ O cs=J (cs',cr)->zz X ti l cs'=J dK->al dK n=J a->∃dv,Inv O cr/\dT e.next z dv/\b9 X.G cr dv e m k vs/\0<=n/\n<l/\bP (ed X.G dv vs) (ti.kM a) ((ds.drop (n.toNat*ti.i.size)).take ti.i.size):=by
    intro cs' cr dK a bF ay bs;obtain ⟨g0,g1,g2⟩:=o3 bs;obtain ⟨dv,r7,fv,fQ,kb⟩:=K1 aN bF aV;obtain ⟨kN,iS⟩:=acU ay kb _ a g2;rw[ti.cN];exact ⟨dv,r7,fv,fQ,g0,by omega,ti.rc _ _ _ _ iS⟩
   split at h
   ·rename_i sZ;split at h
    ·rename_i cs' cr bF;split at h
     ·rename_i dK ay;obtain ⟨a,bs,h⟩:=bind_some h;obtain ⟨dv,r7,fv,fQ,g0,g1,iS⟩:=key bF ay bs;have bb:(ds.toArray.extract (n.toNat*ti.i.size) (n.toNat*ti.i.size+ti.i.size))=((ds.drop (n.toNat*ti.i.size)).take ti.i.size).toArray:=by
       grind
      refine cH.pure (.J6 t x y bX d ti.i l kk n ds.toArray aM aJ bg sZ ti.az an aw g0 g1) ⟨dv,vs, .agg bX (ti.kM a),cr,r7,fv,λ_ _ h=>h,fQ, ?_,h⟩;rw[bb];exact ⟨_,rfl,iS⟩
     grind
    grind
   ·rename_i sZ;split at h
    ·rename_i cs' cr bF;split at h
     ·rename_i dK ay;obtain ⟨a,bs,h⟩:=bind_some h;obtain ⟨dv,r7,fv,fQ,g0,g1,iS⟩:=key bF ay bs;split at h
      ·rename_i c s9;rw[s9] at iS;generalize jU:(ds.drop (n.toNat*ti.i.size)).take ti.i.size=T at iS
       match T,iS with
       |[v],⟨aD,_⟩=>
        have qa:ds.toArray[n.toNat*ti.i.size]? =J v:=by
         have:((ds.drop (n.toNat*ti.i.size)).take ti.i.size)[0]? =J v:=by grind
         grind
        exact cH.pure (.J5 t x y bX d ti.i l kk n ds.toArray v aM aJ bg (by grind) ti.az an aw g0 g1 qa) ⟨dv,vs, .c c,cr,r7,fv,λ_ _ h=>h,fQ,aD,h⟩
      grind
     grind
    grind
  grind
 grind
def aqC {n:Nat} {a:bc D} (aM:o.op= .field t x n) (aN:b9 X.G O z e m k vs) (bl:rel X.G z vs a (bk fr x)) (h:W9 (P:=P) t n a O K=J r):cH P (bk fr) o m λ_ v m'=>dH X O z e k vs K r v m':=by
 unfold W9 at h;split at h
 ·rename_i t1 cs bY aJ;obtain ⟨ds,an,aV⟩:=bl;split at h
  ·rename_i f bF;obtain ⟨aa1,h⟩:=gz h;have aa1:=pk aa1;have ax':=aV.length;unfold o7 at h;split at h
   ·grind
   ·rename_i d bg;split at h
    ·rename_i sZ;split at h
     ·grind
     ·rename_i i az;split at h
      ·rename_i hlen;have nG:bP (ed X.G z vs) ((cs.drop f.offset).take i.size) ((ds.drop f.offset).take i.size):=bP.take _ (bP.drop _ aV);have lM:((ds.drop f.offset).take i.size).length=i.size:=by grind
       refine cH.pure (.field t x n bY f d ds.toArray (.agg ((ds.drop f.offset).take i.size).toArray) aM aJ bF bg an ?_) (dH.here (dR:= .agg f.type ((cs.drop f.offset).take i.size)) aN ⟨_,rfl,nG⟩ h)
       grind
      grind
    ·rename_i sZ;split at h
     ·rename_i c jI;obtain ⟨w,hw,Bv⟩:=aV.get f.offset c jI;refine cH.pure (.field t x n bY f d ds.toArray w aM aJ bF bg an ?_) (dH.here (dR:= .c c) aN Bv h)
      grind
     grind
  grind
 grind
def arL {g:Nat} {b:bc D} (aM:o.op= .indexAddr t (.global g) y) (aN:b9 X.G O z e m k vs) (aw:rel X.G z vs b (bk fr y)) (h:XP (P:=P) t g b O K=J r):cH P (bk fr) o m λ_ v m'=>dH X O z e k vs K r v m':=by
 unfold XP at h;split at h
 ·rename_i kk n l bX aJ;have aw:bk fr y= .int kk n:=aw;split at h
  ·rename_i i az;split at h
   ·rename_i aR;obtain ⟨s,bs,h⟩:=bind_some h;obtain ⟨g0,g1,g2⟩:=o3 bs;exact cH.pure (.JC t _ y bX i l g kk n aM aJ az aR.2 rfl aw g0 (by rw[aR.1];exact g1) (by omega)) (dH.here (dR:= .wb g s) aN ⟨n.toNat,g2,rfl⟩ h)
   grind
  grind
 grind
def acF {a:bc D} (aM:o.op= .load t x) (aN:b9 X.G O z e m k vs) (bl:rel X.G z vs a (bk fr x)) (h:Lo X t a O K=J r):cH P (bk fr) o m λ_ v m'=>dH X O z e k vs K r v m':=by
 have fin:∀{b off:Nat} {cs:List (cv D)} {ds:List af} {rI n:Nat},bk fr x= .pointer (J ⟨b,off,ae⟩)->(∀(j:Nat) (w:af),ds[j]? =J w->m.load b (rI+j)=J w)->off=rI+n->bP (ed X.G z vs) cs ds->o7 (P:=P) t cs n (λv=>K v O)=J r->cH P (bk fr) o m λ_ v m'=>dH X O z e k vs K r v m':=by
  intro b off cs ds rI n an ay rV aV h;obtain ⟨dR,v,h1,ai,aT⟩:=ary aM an ay rV aV h
  grind [cH.read,dH.here]
 unfold Lo at h;split at h
 ·obtain ⟨b,iw,ds,an,ay,aV⟩:=bl;exact fin an (aN.aS.tm ay) rfl aV h
 ·rename_i g s;obtain ⟨n,bB,an⟩:=bl;split at h
  ·rename_i p bs aJ;split at h
   ·rename_i aoz;exact cH.read (.wc t x g n s aM an bB aJ (aoz▸p.2)) (dH.here (dR:= .c (.str s)) aN rfl h)
   grind
  grind
 ·rename_i i off;obtain ⟨b,aD,an⟩:=bl;split at h
  ·rename_i u cs bZ dX hO;have cG:=aN.obj i _ _ hO aD;cases bZ with
   |true=>obtain ⟨dJ,ds,he,ay,aV⟩:=cG;cases he;exact fin an (aN.aS.tm ay) (lH _).symm aV h
   |false=>obtain ⟨dJ,ds,he,aw,_,aV⟩:=cG;cases he;exact fin an aw.tm (lH _).symm aV h
  ·rename_i u cs dX hO;obtain ⟨dJ,ds,he,aw,aV⟩:=aN.obj i _ _ hO aD;cases he;exact fin an aw.tm (lH _).symm aV h
  grind
 ·rename_i i bX dx off;split at h
  ·grind [aqE]
  obtain ⟨b,f0,l,c,aD,an⟩:=bl;split at h
  ·rename_i e2 xs bZ dX ti hO iE;split at h
   ·rename_i eB;subst eB;obtain ⟨a,bs,h⟩:=bind_some h;have cG:=aN.obj i _ _ hO aD;cases bZ with
    |true=>
     have cG:fA (X.G.T e2) z xs _:=cG;obtain ⟨g0,g1,g2⟩:=o3 bs;rcases cG with ⟨he,_⟩|⟨dJ,o',c3,he,_,_,br⟩
     ·grind
     ·cases he;obtain ⟨cs,e0,ay⟩:=br _ a g2;exact fin an (aN.aS.tm ay) rfl (ti.rc _ _ _ _ e0) h
    |false=>have cG:dU (X.G.T e2) z e m k xs _:=cG;obtain ⟨cs,e0,_,ay⟩:=cG.elem rfl bs;exact fin an ay rfl (ti.rc _ _ _ _ e0) h
   grind
  ·rename_i e2 u n xs dX ti hO iE;split at h
   ·rename_i eB;subst eB;obtain ⟨a,bs,h⟩:=bind_some h;obtain ⟨_,cG⟩:=aN.obj i _ _ hO aD;obtain ⟨cs,e0,_,ay⟩:=cG.elem rfl bs;exact fin an ay rfl (ti.rc _ _ _ _ e0) h
   grind
  grind
 grind
end
end Go.aF
end
section
namespace Go.aF
section
variable {P:bI} {D:Nat->Type} {X:e3 P D} {ap:Type} {z z':Nat->bW} {e m m':Mem} {k:Option Nat} {vs:List af} {fr:Nat->af} {E:List (Nat×bc D)} {O:List (ba D)} {o:Oper} {r:ap}
variable {x y:bS} {t u:bV} {K:bc D->List (ba D)->Option ap}
theorem bP.set {aK cg:Type} {R:aK->cg->Prop}:∀{l:List aK} {k:List cg} (i:Nat) {a:aK} {b:cg},bP R l k->R a b->bP R (l.set i a) (k.set i b)
 |[],[],i,a,b,_,_=>by grind
 |x::l,y::k,0,a,b,⟨_,ai⟩,jV=>⟨jV,ai⟩
 |x::l,y::k,i+1,a,b,⟨h1,ai⟩,jV=>⟨h1,bP.set i ai jV⟩
 |[],_::_,_,_,_,h,_=>h.elim
 |_::_,[],_,_,_,h,_=>h.elim
def zn:∀{new:List (cv D)} {VS:List af} {cs:List (cv D)} {ds:List af} (off:Nat),bP (ed X.G z vs) cs ds->bP (ed X.G z vs) new VS->bP (ed X.G z vs) (xy cs off new) (eY ds off VS)
 |[],[],cs,ds,off,h,_=>h
 |c::new,d::VS,cs,ds,off,h,⟨h1,ai⟩=>zn (off+1) (h.set off h1) ai
 |[],_::_,_,_,_,_,h=>h.elim
 |_::_,[],_,_,_,_,h=>h.elim
def Cg {a b:Nat} (h:a<=b):iJ a b=aa:=by simp_all
def pA {ob:ba D} {dR:bc D} {v w:af} (aN:b9 X.G O z e m k vs) (aS:dL z e m' k) (s:gl m m' ae) (fP:∀p,(∀b,p=J b->b<m.next)->e6 p (dQ v)) (k1:K dR (O++[ob])=J r) (cG:hf X.G z e m' k (vs++[v]) ob v) (aD:rel X.G z (vs++[v]) dR w):dH X O z e k vs K r w m':=
 ⟨z,vs++[v],dR,O++[ob],Inv.push O ob,dT.refl z,j0,aN.push s aS (λ_ _ _ _ _ _=>e6.qg) cG λp bb _=>fP p bb,aD,k1⟩
def BW {i:Nat} {ob VV:ba D} {v:af} (aN:b9 X.G O z e m k vs) (k1:K .undef (O.set i VV)=J r) (hO:O[i]? =J ob) (aD:vs[i]? =J v) (aR:ob.live=aa) (aJ:VV.nd=aa) (s:gl m m' (dQ v)) (aS:dL z e m' k) (bB:hf X.G z e m' k vs VV v):dH X O z e k vs K r undef m':=
 ⟨z,vs, .undef,_,Inv.set O i (.inr aJ),dT.refl z,λ_ _ h=>h,aN.pF hO aD aR s aS bB,rfl,k1⟩
def Cb (aN:b9 X.G O z e m k vs) (v:af):(vs++[v])[O.length]? =J v:=by
 rw[<-aN.len];simp
def oi {v:af} {l:Nat} (aN:b9 X.G O z e m k vs) (aD:∃a c,v= .slice a l c):rel X.G z (vs++[v]) (.c (.own O.length)) v:=by
 obtain ⟨a,c,rfl⟩:=aD;exact ⟨Cb aN _,rfl,rfl⟩
def acr {i j bX t1:Nat} (eG:vO P X.G bX t1) {up:Option (List (D t1)->D bX)} {eh:List (List (D t1))} {hole:Option (Int×Nat)} {dX ix:Bool} {xs:List (D t1)} {dx:Int} (aM:o.op= .store bX x y) (aN:b9 X.G O z e m k vs) (hO:O[i]? =J (.nest bX t1 up eh hole dX)) (bn:O[j]? =J (.bh t1 xs ak ix)) (bl:rel X.G z vs (.el i bX dx 0) (bk fr x)) (aw:rel X.G z vs (.c (.own j)) (bk fr y)) (cp:∀p,hole=J p->p.1=dx)
  (h:(ab (al eh dx) λ_=>K .undef ((O.set i (.nest bX t1 up (eh.set dx.toNat xs) ae aa)).set j .dead))=J r):cH P (bk fr) o m λ_ v m'=>dH X O z e k vs K r v m':=by
 obtain ⟨a,bs,h⟩:=bind_some h;obtain ⟨b,f0,l,c,aD,an⟩:=bl;obtain ⟨hu,fb,kK⟩:=aw;obtain ⟨hb,ws,cG⟩:=aN.obj i _ _ hO aD;obtain ⟨g0,g1,g2⟩:=o3 bs;have cF:dx.toNat<ws.length:=by rw[cG.len];grind
 have hw:=mm cF;have wm:al ws dx=J ws[dx.toNat]:=by
  grind [al]
 obtain ⟨cs,e0,_,ay⟩:=cG.bT.elem rfl wm;have tc:dU (X.G.T t1) z e m k xs (bk fr y):=aN.obj j _ _ bn hu;generalize tj:bk fr y=u at*;have gT:i≠j:=λcp=>by grind
 have rY:∀r,pr (J ⟨b,f0,ae⟩) l c≠ .map r:=λr cp=>by grind
 have Bg:dQ u=da u:=hi (by obtain ⟨a,c,rfl⟩:=tc.bT.len;grind);have fP:=aN.fD j i _ _ u _ (λcp=>gT cp.symm) bn hO rfl rfl hu aD;rw[Bg] at fP;rw[eG.cN] at an;have yN:u.cells.toList=[u]:=by grind
 refine J8 (T:=rD bX) (f:=0) (n:=dx.toNat) aM eG.az an rfl tj fb yN (by rw[eG.h1];rfl) cG.bT rfl hw e0 ay (a':=u) ⟨rfl,fb,kK⟩ (by rw[e0.1];rfl) (by rw[e0.1];rfl) aN.aS λm' fc tt gI=> ?_;have VB:dU (X.G.T t1) z e m' k xs u:=tc.same gI fP;obtain ⟨z',fv,fQ,kb,nb⟩:=W6 cG fc tt rfl cF (λp bb=>by grind) VB fP;have Bc:=aN.kill j;have UP:(O.set j .dead)[i]? =J (.nest bX t1 up eh hole dX):=by grind
 have Bd:=Bc.Hr (o':= .nest bX t1 up (eh.set dx.toNat xs) ae aa) (p:=da u) UP aD rfl rY fv.le gI fQ (λa q pH bl bm aR hw=> ?_) (λb aw=>(tc.bT.lt b aw).2) (λb _ bb _=> ?_) ⟨hb,_,kb⟩
 ·have aoQ:(O.set i (.nest bX t1 up (eh.set dx.toNat xs) ae aa)).set j .dead=(O.set j .dead).set i (.nest bX t1 up (eh.set dx.toNat xs) ae aa):=List.set_comm _ _ gT;exact ⟨z',vs, .undef,_,(Inv.set O i (.inr rfl)).trans (Inv.set _ j (.inl rfl)),fv,λ_ _ h=>h,by grind,rfl,h⟩
 ·rw[ll] at bm;split at bm
  ·split at bm
   ·cases bm;cases aR
   grind
  ·rename_i Vc;have:=aN.fD a j q _ pH u (λcp=>Vc cp.symm) bm bn aR rfl hw hu
   grind
 grind
def acs {i bX t1:Nat} (eG:vO P X.G bX t1) {up:Option (List (D t1)->D bX)} {eh:List (List (D t1))} {hole:Option (Int×Nat)} {dX:Bool} {dx:Int} (aM:o.op= .store bX x y) (aN:b9 X.G O z e m k vs) (hO:O[i]? =J (.nest bX t1 up eh hole dX)) (bl:rel X.G z vs (.el i bX dx 0) (bk fr x)) (aw:rel X.G z vs (.c .gE) (bk fr y)) (cp:∀p,hole=J p->p.1=dx)
  (h:(ab (al eh dx) λ_=>K .undef (O.set i (.nest bX t1 up (eh.set dx.toNat []) ae aa)))=J r):cH P (bk fr) o m λ_ v m'=>dH X O z e k vs K r v m':=by
 obtain ⟨a,bs,h⟩:=bind_some h;obtain ⟨b,f0,l,c,aD,an⟩:=bl;obtain ⟨hb,ws,cG⟩:=aN.obj i _ _ hO aD;obtain ⟨g0,g1,g2⟩:=o3 bs;have cF:dx.toNat<ws.length:=by rw[cG.len];grind
 have hw:=mm cF;have wm:al ws dx=J ws[dx.toNat]:=by
  grind [al]
 obtain ⟨cs,e0,_,ay⟩:=cG.bT.elem rfl wm;have aw:bk fr y= .slice ae 0 0:=aw;have tc:dU (X.G.T t1) z e m k ([]:List (D t1)) (.slice ae 0 0):=⟨.inl ⟨rfl,rfl⟩,λb aw=>by cases aw⟩
 have rY:∀r,pr (J ⟨b,f0,ae⟩) l c≠ .map r:=λr cp=>by grind
 have fP:e6 (da (.slice ae 0 0)) (da (pr (J ⟨b,f0,ae⟩) l c)):=λb aw=>by cases aw
 rw[eG.cN] at an;refine J8 (T:=rD bX) (f:=0) (n:=dx.toNat) aM eG.az an rfl aw rfl (a':= .slice ae 0 0) rfl (by rw[eG.h1];rfl) cG.bT rfl hw e0 ay ⟨rfl,rfl,rfl⟩ (by rw[e0.1];rfl) (by rw[e0.1];rfl) aN.aS λm' fc tt gI=> ?_;have VB:dU (X.G.T t1) z e m' k ([]:List (D t1)) (.slice ae 0 0):=⟨.inl ⟨rfl,rfl⟩,λb aw=>by cases aw⟩
 obtain ⟨z',fv,fQ,kb,nb⟩:=W6 cG fc tt rfl cF (λp bb=>by grind) VB fP;have Bd:=aN.Hr (o':= .nest bX t1 up (eh.set dx.toNat []) ae aa) (p:=ae) hO aD rfl rY fv.le gI fQ (λa q pH bl bm aR hw=>λb aw e5=>by grind) (λb aw=>by grind) (λb _ bb _=> ?_) ⟨hb,_,kb⟩
 ·exact ⟨z',vs, .undef,_,Inv.set O i (.inr rfl),fv,λ_ _ h=>h,Bd,rfl,h⟩
 ·rcases nb b with ay|ay
  ·grind
  ·cases ay
theorem aqe {i bX:Nat} {dx:Int} {off:Nat} {b:bc D} (aM:o.op= .store t x y) (aN:b9 X.G O z e m k vs) (bl:rel X.G z vs (.el i bX dx off) (bk fr x)) (aw:rel X.G z vs b (bk fr y)) (h:Wx X t i bX dx off b O K=J r):cH P (bk fr) o m λ_ v m'=>dH X O z e k vs K r v m':=by
 unfold Wx at h;split at h
 ·rename_i j;split at h
  ·rename_i e2 t1 up eh hole dX t2 xs ix hO bn;split at h
   ·rename_i eG oM;split at h
    ·rename_i eB;subst eB;split at h
     ·rename_i hk;obtain ⟨rfl,rfl,rfl⟩:=hk;split at h
      ·exact acr eG aM aN hO bn bl aw (λp bb=>by grind) h
      ·split at h
       ·rename_i p bb;exact acr eG aM aN hO bn bl aw (λq bm=>by grind) h
       grind
     grind
    grind
   grind
  grind
 ·split at h
  ·rename_i e2 t1 up eh hole dX hO;split at h
   ·rename_i eG oM;split at h
    ·rename_i hk;obtain ⟨rfl,rfl,rfl⟩:=hk;split at h
     ·exact acs eG aM aN hO bl aw (λp bb=>by grind) h
     ·split at h
      ·rename_i p bb;exact acs eG aM aN hO bl aw (λq bm=>by grind) h
      grind
    grind
   grind
  grind
 grind
def aqG {a b:bc D} (aM:o.op= .store t x y) (aN:b9 X.G O z e m k vs) (bl:rel X.G z vs a (bk fr x)) (aw:rel X.G z vs b (bk fr y)) (h:Xd X t a b O K=J r):cH P (bk fr) o m λ_ v m'=>dH X O z e k vs K r v m':=by
 unfold Xd at h;split at h
 ·grind
 ·rename_i i az;split at h
  ·rename_i j off;split at h
   ·grind
   ·rename_i new bB;obtain ⟨fb,oQ⟩:=KA bB aw;split at h
    ·rename_i cN;have td:(bk fr y).cells.toList.length=i.size:=by rw[<-oQ.length];grind
     obtain ⟨js,aD,an⟩:=bl;split at h
     ·rename_i u cs dX hO;split at h
      ·rename_i hle;obtain ⟨jR,ds,he,n2,hU,aV⟩:=aN.obj j _ _ hO aD;cases he;refine abd aM az an rfl fb rfl td n2 (Cg (by rw[<-aV.length,<-oQ.length];grind)) _ rfl aN.aS λm' fc T7 gI=> ?_;exact BW aN h hO aD rfl rfl gI fc ⟨js,_,rfl,T7,hU,zn off aV oQ⟩
      grind
     ·rename_i u cs dX hO;split at h
      ·rename_i hle;obtain ⟨jR,ds,he,n2,aV⟩:=aN.obj j _ _ hO aD;cases he;refine abd aM az an rfl fb rfl td n2 (Cg (by rw[<-aV.length,<-oQ.length];grind)) _ rfl aN.aS λm' fc T7 gI=> ?_;exact BW aN h hO aD rfl rfl gI fc ⟨js,_,rfl,T7,zn off aV oQ⟩
      grind
     grind
    grind
  ·rename_i j bX dx off;split at h
   ·grind [aqe]
   split at h
   ·grind
   ·rename_i new cu bB;obtain ⟨dv,kL,qc,jg,fb,oQ⟩:=adM aN bB aw;obtain ⟨js,f0,l,c,aD,an⟩:=bl;split at h
    ·rename_i cN;have td:(bk fr y).cells.toList.length=i.size:=by rw[<-oQ.length];grind
     split at h
     ·rename_i e2 xs dX ti hO iE;split at h
      ·rename_i eB;subst eB;obtain ⟨a,bs,h⟩:=bind_some h;split at h
       ·rename_i hle;obtain ⟨a',bb,h⟩:=bind_some h;have cG:dU (X.G.T e2) dv e m k xs _:=jg.obj j _ _ hO aD;obtain ⟨cs,e0,uU,ay⟩:=cG.elem rfl bs;have aV:=ti.rc dv vs a cs e0;refine J8 (T:=X.G.T e2) aM az an rfl rfl fb rfl td cG rfl uU e0 ay (ti.r6 dv vs _ a' _ bb (zn off aV oQ)) rfl (Cg (by rw[<-aV.length,<-oQ.length];grind)) jg.aS λm' fc tt gI=> ?_;exact dH.from kL qc (BW jg h hO aD rfl rfl gI fc tt)
       grind
      grind
     ·rename_i e2 u n xs dX ti hO iE;split at h
      ·rename_i eB;subst eB;obtain ⟨a,bs,h⟩:=bind_some h;split at h
       ·rename_i hle;obtain ⟨a',bb,h⟩:=bind_some h;obtain ⟨⟨jR,he⟩,cG⟩:=jg.obj j _ _ hO aD;obtain ⟨cs,e0,uU,ay⟩:=cG.elem rfl bs;have aV:=ti.rc dv vs a cs e0;refine J8 (T:=(X.G.T e2).as u) aM az an rfl rfl fb rfl td cG rfl uU e0 ay (ti.r6 dv vs _ a' _ bb (zn off aV oQ)) rfl (Cg (by rw[<-aV.length,<-oQ.length];grind)) jg.aS λm' fc tt gI=> ?_;exact dH.from kL qc (BW jg h hO aD rfl rfl gI fc ⟨⟨jR,he⟩,tt⟩)
       grind
      grind
     grind
    grind
  grind
def aqy (aM:o.op= .alloc t) (aN:b9 X.G O z e m k vs)
  (h:(match X.A t with
  |some kZ=>K (.arr O.length) (O++[.arr kZ.e t kZ.n (gb kZ.n kZ.ti.x0) ak])
  |none=>match X.I t with|some ti=>K (.box O.length 0) (O++[.box t ti.rk ak ak])|none=>ae)=J r):cH P (bk fr) o m λ_ v m'=>dH X O z e k vs K r v m':=by
 split at h
 ·rename_i kZ eL;refine as3 (T:=X.G.T kZ.e) (x0:=kZ.ti.x0) aM kZ.az kZ.bx kZ.dw kZ.et kZ.qX (kZ.ti.GX z) kZ.bB aN.aS λb m' fc bT gI fP=> ?_;exact pA (v:= .slice (J ⟨b,0,ae⟩) kZ.n kZ.n) aN fc gI fP h ⟨⟨b,rfl⟩,bT⟩ ⟨b,kZ.n,Cb aN _,rfl⟩
 ·split at h
  ·rename_i ti iE;refine as4 aM ti.az ti.bx ti.dw ti.et _ rfl aN.aS λb m' bB fc bL gI fP=> ?_;exact pA (v:= .pointer (J ⟨b,0,ae⟩)) aN fc gI fP h ⟨b,_,rfl,bL,bB,ti.qX _ _⟩ ⟨b,Cb aN _,rfl⟩
  grind
def arH {i:TypeInfo} {cs:List (cv D)} (aM:o.op= .box t x) (aN:b9 X.G O z e m k vs) (bp:rel X.G z vs (dp E x) (bk fr x)) (az:P.info? t=J i) (ay:xg (dp E x)=J cs) (aR:cs.length=i.size)
  (h:K (.box O.length 0) (O++[.box t cs ak ak])=J r):cH P (bk fr) o m λ_ v m'=>dH X O z e k vs K r v m':=by
 obtain ⟨fb,aV⟩:=KA ay bp;refine ave aM az rfl fb _ rfl (by rw[<-aV.length];grind) aN.aS λb m' bB fc bL gI fP=> ?_;exact pA (v:= .pointer (J ⟨b,0,ae⟩)) aN fc gI fP h ⟨b,_,rfl,bL,bB,pb.mono aV (fl.refl z) j0⟩ ⟨b,Cb aN _,rfl⟩
def ads {kk:aG} {n:Int} (h:CH x y=aa) (an:bk fr x= .int kk n):∃c9,bk fr y= .int c9 n:=by
 unfold CH at h;split at h
 ·simp_all
 ·rename_i cL a c9 b;have oT:mu cL a= .int kk n:=an;cases oT;have:n=b:=by grind
  subst this;exact ⟨c9,rfl⟩
 grind
def aqF {ht:Nat} {kk:aG} {n:Int} (aM:o.op= .makeSlice t x y) (aJ:P.underlying t=J (.slice ht)) (aN:b9 X.G O z e m k vs) (an:bk fr x= .int kk n) (h:Xc X ht x y n O K=J r):cH P (bk fr) o m λ_ v m'=>dH X O z e k vs K r v m':=by
 unfold Xc at h;split at h
 ·rename_i t1 hu;split at h
  ·rename_i eG oM y2;obtain ⟨eh,hm,h⟩:=bind_some h;obtain ⟨c9,aZ⟩:=ads y2 an;obtain ⟨fK,tp,rfl⟩:=B3 hm;have aob:hy (pr ae 0 0) n=J (gb n.toNat (pr ae 0 0)):=by
    grind [hy]
   refine ae7 (T:=rD ht) (x0:=pr ae 0 0) aM aJ eG.az eG.bx rfl (by rw[eG.h1];rfl) (by rw[eG.h1];rfl) eG.hp ⟨rfl,rfl,rfl⟩ an aZ aN.aS aob λcc m' fc bT gI fP=> ?_;have aw:dQ cc=da cc:=hi (by obtain ⟨a,c,rfl⟩:=bT.bT.len;grind);refine pA (v:=cc) aN fc gI (by grind) h ⟨λf bF=>by cases bF;exact ⟨eG.cN,eG.tid,eG.aV⟩,_,bT,by simp,λj w xs g1 g2 _=> .inl ?_,λp bb=>by grind⟩ (oi aN bT.bT.len)
   grind
  grind
 grind
def arm {ht:Nat} {ti:dP P X.G ht} {kk:aG} {n:Int} (aM:o.op= .makeSlice t x y) (aJ:P.underlying t=J (.slice ht)) (aN:b9 X.G O z e m k vs) (an:bk fr x= .int kk n) (y2:CH x y=aa)
  (h:(ab (hy ti.x0 n) λr=>K (.c (.own O.length)) (O++[.bh ht r ak ak]))=J r):cH P (bk fr) o m λ_ v m'=>dH X O z e k vs K r v m':=by
 obtain ⟨xs,hm,h⟩:=bind_some h;have aZ:=ads y2 an;obtain ⟨c9,aZ⟩:=aZ;refine ae7 (T:=X.G.T ht) aM (by rw[ti.tid];grind) (by rw[ti.tid];exact ti.az) ti.bx ti.dw ti.et ti.cN ti.hp (ti.GX z) an aZ aN.aS hm λcc m' fc bT gI fP=> ?_;have aw:dQ cc=da cc:=hi (by obtain ⟨a,c,rfl⟩:=bT.bT.len;grind);exact pA (v:=cc) aN fc gI (by grind) h bT (oi aN bT.bT.len)
def ac6 {ht:Nat} {ti:dP P X.G ht}:∀{cQ:List (Nat×bS)} {n:Nat} {O:List (ba D)} {z:Nat->bW} {K:List (D ht)->List (ba D)->Option ap},b9 X.G O z e m k vs->(∀x,rel X.G z vs (dp E x) (bk fr x))->CK X ti E n cQ O K=J r->
  ∃z' cr dK jS,Inv O cr/\dT e.next z z'/\b9 X.G cr z' e m k vs/\wZ (X.G.T ht) z' (bk fr) cQ n dK jS/\K dK cr=J r
 |[],n,O,z,K,aN,bp,h=>⟨z,O,[],[],Inv.refl O,dT.refl z,aN,trivial,h⟩
 |(j,x)::cQ,n,O,z,K,aN,bp,h=>by
  unfold CK at h;split at h
  ·rename_i bn;split at h
   ·rename_i cs cu ay;obtain ⟨a,bl,h⟩:=bind_some h;obtain ⟨dv,kL,qc,jg,fb,aV⟩:=adM aN ay (bp x);obtain ⟨z2,dz,dK,jS,g0,g1,g2,g3,g4⟩:=ac6 jg (λx=>(bp x).mono qc.le λ_ _ h=>h) h;exact ⟨z2,dz,a::dK,(bk fr x).cells.toList::jS,kL.trans g0,qc.trans g1,g2,⟨bn,fb,rfl,(X.G.T ht).mono _ _ g1.le _ _ (ti.r6 _ _ _ _ _ bl aV),g3⟩,g4⟩
   grind
  grind
def aqB {ht l:Nat} {ti:dP P X.G ht} {cQ:Array (Nat×bS)} (aM:o.op= .buildSlice t l cQ) (aJ:P.underlying t=J (.slice ht)) (aN:b9 X.G O z e m k vs) (bp:∀x,rel X.G z vs (dp E x) (bk fr x))
  (h:(CK X ti E 0 cQ.toList O λdK O=>if dK.length=l/\iJ (l*(X.G.T ht).bM) 16777216=aa then K (.c (.own O.length)) (O++[.bh ht dK ak ak]) else ae)=J r):cH P (bk fr) o m λ_ v m'=>dH X O z e k vs K r v m':=by
 obtain ⟨dv,cu,dK,jS,g0,g1,g2,g3,g4⟩:=ac6 aN bp h;split at g4
 ·rename_i aR;have hh:0<(X.G.T ht).bM:=Nat.pos_of_ne_zero λbR=>by have:=ti.hh;grind
  have uO:=pk aR.2;have aaU:l<=l*(X.G.T ht).bM:=Nat.le_mul_of_pos_right _ hh;refine Xn (T:=X.G.T ht) aM (by rw[ti.tid];grind) (by rw[ti.tid];exact ti.az) ti.bx ti.dw ti.et ti.cN dK jS aR.1 aR.2 (Cg (show l+1<=9223372036854775808 by omega)) g3 g2.aS λcc m' fc bT gI fP=> ?_;have aw:dQ cc=da cc:=hi (by obtain ⟨a,c,rfl⟩:=bT.bT.len;grind);exact dH.from g0 g1 (pA (v:=cc) g2 fc gI (by grind) g4 bT (oi g2 bT.bT.len))
 grind
def WV {pl:List (Option (Nat×Nat))} (bp:∀x,rel X.G z vs (dp E x) (bk fr x)):∀{cQ:List (Nat×bS)} {cs cs':List (cv D)} {ds:List af},xi pl E cQ cs=J cs'->bP (ed X.G z vs) cs ds->
  ∃nv,k5 (λk=>(pl[k]?).join) ds (cQ.map λp=>(p.1,bk fr p.2))=J nv/\bP (ed X.G z vs) cs' nv
 |[],cs,cs',ds,h,aV=>by cases h;exact ⟨ds,rfl,aV⟩
 |(i,x)::cQ,cs,cs',ds,h,aV=>by
  unfold xi at h;split at h
  ·rename_i off size new bb ay;split at h
   ·rename_i axS;obtain ⟨fb,oQ⟩:=KA ay (bp x);obtain ⟨nv,g1,g2⟩:=WV bp h (zn off aV oQ);refine ⟨nv, ?_,g2⟩;have cN:(bk fr x).cells.size=size:=by
     have h1:new.length=(bk fr x).cells.toList.length:=oQ.length
     grind
    simp only[rA,k5,bb];rw[if_pos ⟨fb,cN,by rw[<-aV.length];grind⟩]
    grind
   grind
  grind
def adg {n s:Nat}:∀{cQ:List (Nat×af)} {cs ds:List af},k5 (λk=>(((mN n).map λj=>J (j*s,s))[k]?).join) cs cQ=J ds->k5 (λj=>J (j*s,s)) cs cQ=J ds
 |[],_,_,h=>h
 |(i,v)::cQ,cs,ds,h=>by
  simp only[k5] at h⊢;by_cases az:i<n
  ·rw[sH,List.getElem?_range az] at h;simp only[Option.map_some,Option.join_some] at h;split at h
   ·rename_i ay;rw[if_pos ay];exact adg h
   grind
  grind
def aqA {ti:dP P X.G t} {n Jq:Nat} {kk:TypeInfo} {cQ:Array (Nat×bS)} {cs:List (cv D)} (aM:o.op= .build t cQ) (aJ:P.underlying t=J (.array n Jq)) (hk:P.info? Jq=J kk) (aN:b9 X.G O z e m k vs) (bp:∀x,rel X.G z vs (dp E x) (bk fr x))
  (ay:xi ((mN n).map λj=>J (j*kk.size,kk.size)) E cQ.toList ti.rk=J cs) (h:K (.agg t cs) O=J r):cH P (bk fr) o m λ_ v m'=>dH X O z e k vs K r v m':=by
 obtain ⟨ds,g1,g2⟩:=WV bp ay (ti.qX z vs);exact cH.pure (.Jg t cQ n Jq ti.i kk ti.c0 ds aM aJ ti.az ti.bx ti.dw hk (adg g1)) (dH.here (dR:= .agg t cs) aN ⟨ds,rfl,g2⟩ h)
def aqf {ti:dP P X.G t} {bY:Array Field} {cQ:Array (Nat×bS)} {cs:List (cv D)} (aM:o.op= .build t cQ) (aJ:P.underlying t=J (.struct bY)) (aN:b9 X.G O z e m k vs) (bp:∀x,rel X.G z vs (dp E x) (bk fr x)) (bb:(pC P bY).all Y2=aa)
  (ay:xi (pC P bY) E cQ.toList ti.rk=J cs) (h:K (.agg t cs) O=J r):cH P (bk fr) o m λ_ v m'=>dH X O z e k vs K r v m':=by
 obtain ⟨ds,g1,g2⟩:=WV bp ay (ti.qX z vs);exact as5 _ ds aM aJ ti.az ti.bx ti.dw rfl bb rfl g1 (dH.here (dR:= .agg t cs) aN ⟨ds,rfl,g2⟩ h)
end
end Go.aF
end
section
namespace Go.aF
section
variable {P:bI} {D:Nat->Type} {X:e3 P D} {ap:Type} {z z':Nat->bW} {e m m':Mem} {k:Option Nat} {vs:List af} {fr:Nat->af} {E:List (Nat×bc D)} {O:List (ba D)} {o:Oper} {r:ap}
variable {x y:bS} {t u:bV} {K:bc D->List (ba D)->Option ap}
def K5 {cf:Option bS} {a:Int} (bp:∀x,rel X.G z vs (dp E x) (bk fr x)) (h:y6 E cf=J a):y5 (bk fr) cf a:=by
 cases cf with
 |none=>cases h;rfl
 |some y=>
  simp only[y6] at h;split at h
  ·rename_i kk n bf;cases h;have:=bp y;rw[bf] at this;exact ⟨kk,this⟩
  grind
def KN {az:Option bS} {a:Int} {l:Nat} (bp:∀x,rel X.G z vs (dp E x) (bk fr x)) (h:zL E (l:Int) az=J a):zK (bk fr) az l a:=by
 cases az with
 |none=>cases h;rfl
 |some y=>
  simp only[zL] at h;split at h
  ·rename_i kk n bf;cases h;have:=bp y;rw[bf] at this;exact ⟨kk,this⟩
  grind
theorem arI {a:bc D} {cf az:Option bS} (aM:o.op= .slice t x cf az ae) (aN:b9 X.G O z e m k vs) (bp:∀x,rel X.G z vs (dp E x) (bk fr x)) (bl:rel X.G z vs a (bk fr x)) (h:X0 X t a E cf az O K=J r):cH P (bk fr) o m λ_ v m'=>dH X O z e k vs K r v m':=by
 unfold X0 at h;split at h
 ·split at h
  ·rename_i s U aA aJ eW eN;obtain ⟨q,bm,h⟩:=bind_some h;exact avf aM aJ bl (K5 bp eW) (KN bp eN) bm (dH.here (dR:= .c (.str q)) aN rfl h)
  grind
 ·rename_i c ayg;split at h
  ·rename_i bX xs cu ay;obtain ⟨dv,kL,qc,jg,aV⟩:=zw aN ay bl;split at h
   ·rename_i e2 ti U aA aJ iE eW eN;split at h
    ·rename_i eB;subst eB;obtain ⟨q,bm,h⟩:=bind_some h;refine apg (T:=X.G.T e2) aM (by rw[ti.tid];grind) (by rw[ti.tid];exact ti.az) ti.cN rfl (K5 bp eW) (KN bp eN) aV jg.aS bm λcc I _ bf=> ?_;exact dH.from kL qc (dH.here (dR:= .c (.bh e2 q)) jg bf h)
    grind
   grind
  grind
 grind
def apJ {aK:Type} {T:cM aK} {xs:List aK} {v:af} {cf az:Option bS} {a n:Nat} {i:TypeInfo} {ap:bS->af} (h:o.op= .slice t x cf az ae) (aJ:P.underlying t=J (.slice T.tid)) (fm:P.info? T.tid=J i) (cN:i.size=T.bM) (an:ap x=v) (eW:qo ap cf a) (eN:nJ ap az xs.length n)
  (bf:fO T z m xs v) (bl:a<=n) (bB:n<=xs.length):∃cc,(dD P ap o cc\/fH P ap o m cc)/\pO T.bM a n v cc:=by
 rcases bf with ⟨rfl,rfl⟩|⟨b,f0,L,c,rfl,g1,g2,g3,g4,g5,g6⟩
 ·have wq:n=0:=by grind
  subst wq;obtain rfl:a=0:=by omega
  exact ⟨.slice ae 0 0, .inl (.nc t x cf az T.tid i h aJ fm an eW eN), .inl ⟨rfl,rfl,rfl,rfl⟩⟩
 ·rcases g5 with rfl|⟨ay,h1,ai⟩
  ·refine ⟨_, .inr (.slice t x cf az T.tid i L b f0 xs.length a n h aJ fm an g1 eW eN bl bB (by grind)), .inr ⟨b,f0,xs.length,dc,_,dc,rfl,rfl,bl,bB, .inl (by grind), .inl ⟨rfl,rfl⟩⟩⟩
  ·refine ⟨_, .inl (.slice t x cf az T.tid i b f0 xs.length c a n h aJ fm an (by grind) eW eN bl (by omega) (λ_=>trivial)), .inr ⟨b,f0,xs.length,c,_,_,rfl,rfl,bl,bB, ?_, .inr ⟨ay,rfl⟩⟩⟩
   grind
def ari {a:bc D} {cf az:Option bS} (aM:o.op= .slice t x cf az ae) (aN:b9 X.G O z e m k vs) (bp:∀x,rel X.G z vs (dp E x) (bk fr x)) (bl:rel X.G z vs a (bk fr x)) (h:XA X t x a E cf az O K=J r):cH P (bk fr) o m λ_ v m'=>dH X O z e k vs K r v m':=by
 unfold XA at h;split at h
 ·rename_i yT;have aD:bk fr x= .slice ae 0 0:=by
   unfold abE at yT;split at yT
   ·exact bl
   grind
  split at h
  ·rename_i bX p q aJ eW eN;split at h
   ·rename_i ti iE;split at h
    ·rename_i bR;simp only[fx,beq_iff_eq] at bR;obtain ⟨rfl,rfl⟩:=bR;exact cH.pure (.nc t x cf az bX ti.i aM aJ ti.az aD (K4 (n:=0) (K5 bp eW)) (KM (n:=0) (KN (l:=0) bp eN))) (dH.here (dR:= .c .gE) aN rfl h)
    grind
   grind
  grind
 rename_i aok;split at h
 ·grind [arI]
 ·rename_i md aya;split at h
  ·rename_i i;have bl:ed X.G z vs (.own i) (bk fr x):=bl;split at h
   ·rename_i bX xs w e2 hO hu;split at h
    ·rename_i ti p q aoT eW eN;by_cases eB:e2=bX
     case neg=>grind
     rw[if_pos eB] at h;subst eB;obtain ⟨G0,aV,h⟩:=bind_some h;obtain ⟨rI,c1,c2,rfl⟩:=Ws aV;obtain ⟨p,rfl⟩:=sD rI;obtain ⟨q,rfl⟩:=sD (Int.le_trans rI c1);simp only[sG] at h;have cG:dU (X.G.T e2) z e m k xs (bk fr x):=aN.obj i _ _ hO bl.1;obtain ⟨cc,h1,ai⟩:=apJ (T:=X.G.T e2) aM (by rw[ti.tid];omega) (by rw[ti.tid];exact ti.az) ti.cN rfl (K4 (K5 bp eW)) (KM (KN bp eN)) cG.bT (by omega) (by omega);have hk:dH X O z e k vs K r cc m:=by
      by_cases JS:fi md 0=aa
      ·rw[if_pos JS] at h;exact dH.here (dR:= .cut i e2 p q) aN ⟨_,bl,ai⟩ h
      ·rw[if_neg JS] at h;have bT:dU (X.G.T e2) z e m k ((xs.take q).drop p) cc:=⟨ai.VY cG.bT,λb aw=>cG.fresh b (by
        have n2:dQ (bk fr x)=da (bk fr x):=hi (by obtain ⟨a,c,cp⟩:=cG.bT.len;grind);have kI:dQ cc=da cc:=hi (by obtain ⟨a,c,cp⟩:=(ai.VY cG.bT).len;grind);rw[<-n2,<-ai.blk,kI];grind)⟩
       have UW:dQ cc=dQ (bk fr x):=ai.blk;have fP:=λj qj w hq bn aR hw=>aN.fD j i qj _ w _ hq bn hO aR rfl hw bl.1;exact ⟨z,vs++[cc], .c (.own O.length),O.set i .dead++[.bh e2 ((xs.take q).drop p) ak ak],(Inv.set O i (.inl rfl)).trans (Inv.push _ _),dT.refl z,j0,
        (aN.kill i).push (q:=dQ (bk fr x)) (o':= .bh e2 ((xs.take q).drop p) ak ak) ⟨e4 _,aN.aS.dead,λ_ _ _=>rfl⟩ aN.aS (λj p w bn hw aR=>by
         rw[ll] at bn;split at bn
         ·split at bn
          ·cases bn;cases aR
          grind
         grind) bT (λp bb US=>by grind),oi aN (by obtain ⟨a,c,cp⟩:=bT.bT.len;exact ⟨a,c,cp⟩),h⟩
     rcases h1 with h1|h1
     ·exact cH.abT (D:=λ_ v m'=>dH X O z e k vs K r v m') (I:=λ_=>True) h1 hk
     grind [cH.read]
    grind
   grind
  grind
def arj {y h8:bS} (aM:o.op= .slice t x ae (J y) (J h8)) (aN:b9 X.G O z e m k vs) (bp:∀x,rel X.G z vs (dp E x) (bk fr x)) (h:XB X t (dp E x) (dp E y) (dp E h8) O K=J r):cH P (bk fr) o m λ_ v m'=>dH X O z e k vs K r v m':=by
 unfold XB at h;have gz:∀{aK:Type} {p:Prop} [Decidable p] {x:Option aK} {r:aK},(if p then x else ae)=J r->p/\x=J r:=by
  grind
 split at h
 ·rename_i cz cL p c9 q aJ bb bm;have aZ:=bp y;rw[bb] at aZ;have aZ:bk fr y= .int cL p:=aZ;have mV:=bp h8;rw[bm] at mV;have mV:bk fr h8= .int c9 q:=mV;have bl:=bp x;split at h
  ·rename_i c an;rw[an] at bl;split at h
   ·rename_i e2 xs cu bF;split at h
    ·rename_i ti iE;obtain ⟨he,h⟩:=gz h;subst he;obtain ⟨G0,aV,h⟩:=bind_some h;unfold LJ at aV;obtain ⟨anv,JV⟩:=gz aV;obtain ⟨bR,h1,ai,Vu⟩:=anv;subst Vu;cases JV;obtain ⟨dv,g0,g1,g2,g3⟩:=zw aN bF bl;obtain ⟨n,rfl⟩:=sD bR;have bB:n<=xs.length:=by omega
     have aoe:n<dc:=by grind [dc]
     have key:∃v,dD P (bk fr) o v/\rel X.G dv vs (.full cz (xs.take n)) v:=by
      rcases (g3:fA (X.G.T cz) dv xs (bk fr x)) with ⟨aD,rfl⟩|⟨b,off,c3,aD,apf,ayx,ayy⟩
      ·have wq:n=0:=by grind
       subst wq;exact ⟨_, .P4 t x h8 (J y) cz ti.i c9 aM aJ ti.az aD ⟨y,cL,rfl,aZ⟩ mV, .inl ⟨rfl,by rfl⟩,by grind,ae,by rfl⟩
      ·have fZ:(c3<dc/\n<=c3)\/(c3=dc/\n<=xs.length):=by
        grind
       have hlen:(xs.take n).length=n:=by grind
       refine ⟨_, .slice3 t x h8 (J y) cz ti.i b off xs.length c3 n n c9 aM aJ ti.az aD fZ ⟨y,cL,rfl,aZ⟩ mV (e4 _), ?_⟩;refine ⟨.inr ⟨b,off,n,by grind,apf, .inr ⟨aoe,by grind⟩,λi a az=> ?_⟩,by grind,J ⟨b,off,ae⟩,by grind⟩
       grind
     grind [cH.pure,dH.from,dH.here]
    grind
   grind
  grind
 grind
def arA {a:bc D} {v:af} {t:Nat} {xs:List (D t)} (aN:b9 X.G O z e m k vs) (h:qn O a=J ⟨t,xs⟩) (aD:rel X.G z vs a v):fA (X.G.T t) z xs v\/dU (X.G.T t) z e m k xs v:=by
 unfold qn at h;split at h
 ·cases h;exact .inl aD
 ·split at h
  ·rename_i eu azl bZ dX aM;cases h;have cG:=aN.obj _ _ v aM aD.1;cases bZ with
   |true=>exact .inl cG
   |false=>exact .inr cG
  grind
 grind
def arh {a:bc D} (aM:o.op= .convert u t x) (aN:b9 X.G O z e m k vs) (bl:rel X.G z vs a (bk fr x)) (h:Xz X u t a O K=J r):cH P (bk fr) o m λ_ v m'=>dH X O z e k vs K r v m':=by
 unfold Xz at h;split at h
 ·rename_i cL c9 hu aJ;split at h
  ·exact j1 aN h (avt aM hu aJ bl) rfl
  grind
 ·rename_i hE hu aJ;split at h
  ·rename_i s l8 mS;obtain ⟨jx,bf,h⟩:=bind_some h;refine atB aM hu aJ l8.hu l8.az l8.kL bl bf aN.aS ?_;intro cc m' aS bT PZ fP;have tt:=l8.aw _ _ _ _ _ _ bT;have aw:dQ cc=da cc:=hi (by obtain ⟨a,c,rfl⟩:=bT.bT.len;grind);refine ⟨z,vs++[cc], .c (.own O.length),_,Inv.push O _,dT.refl z,j0,aN.push (q:=ae) PZ aS (λ_ _ _ _ _ _=>e6.qg) ?_ (λp bb _=>by grind), ?_,h⟩
   ·exact tt
   ·refine ⟨?_, ?_⟩
    ·rw[<-aN.len];simp
    ·obtain ⟨a,c,rfl⟩:=bT.bT.len;exact ⟨rfl,rfl⟩
  grind
 ·rename_i hE hu aJ;split at h
  ·rename_i cz xs l8 aR mS;split at h
   ·rename_i he;subst he;rcases arA aN aR bl with bf|bf
    ·exact avj aM hu l8.hu aJ rfl (l8.aV _ _ _ bf) aN.aS (dH.here (dR:= .c (.str (l8.to xs))) aN rfl h)
    ·exact avi aM hu l8.hu aJ rfl (l8.aM _ _ _ _ _ _ bf) (dH.here (dR:= .c (.str (l8.to xs))) aN rfl h)
   grind
  grind
 grind
def arN {a:bc D} {ts:Array bV} (aM:o.op= .call {callee:= .builtin .len,args:=#[x],argTypes:=#[t]}) (aN:b9 X.G O z e m k vs) (bl:rel X.G z vs a (bk fr x)) (h:XR (P:=P) t a O K=J r):cH P (bk fr) o m λ_ v m'=>dH X O z e k vs K r v m':=by
 unfold XR at h;split at h
 ·rename_i s aJ;exact j1 aN h (auM aM rfl aJ bl) rfl
 ·rename_i hE aJ;have aD:bk fr x= .slice ae 0 0:=bl;exact j1 aN h (Lz (xs:=([]:List Int)) aM aJ rfl ⟨ae,0,aD⟩) rfl
 ·rename_i hE ayc aJ;split at h
  ·rename_i bX xs aR;exact j1 aN h (Lz aM aJ rfl (aqK aN aR bl)) rfl
  ·split at h
   ·split at h
    ·rename_i bX t1 up eh hole w hO;obtain ⟨hu,ws,cG⟩:=aN.obj _ _ _ hO bl.1;exact j1 aN h (Lz (xs:=eh) aM aJ rfl (by obtain ⟨a,c,cp⟩:=cG.bT.bT.len;exact ⟨a,c,by rw[cp,cG.len]⟩)) rfl
    grind
   ·split at h
    ·rename_i i bX cf az JQ azk e2 xs dX hO;split at h
     ·rename_i he;subst he;obtain ⟨w,hw,ay⟩:=bl;have cG:dU _ z e m k xs w:=aN.obj _ _ _ hO hw.1;obtain ⟨ec,c1,aR⟩:=cG.bT.len;refine j1 aN h (Lz (xs:=(xs.take az).drop cf) aM aJ rfl ?_) rfl;rcases ay with ⟨_,aD,rfl,rfl⟩|⟨b,f0,l,c,off,c3,bR,aD,h1,ai,aT,br⟩
      ·grind
      grind
     grind
    grind
   grind
 grind
def ac1 {aK:Type} {T:cM aK} {As:Tag->af->Mem->Prop} {xs b4:List aK} {w:af} {a:Option Addr} {ap:bS->af} {i:TypeInfo} (h:o.op= .call {callee:= .builtin .append,args:=#[x,y],argTypes:=#[t,u]}) (aJ:P.underlying t=J (.slice T.tid)) (az:P.info? T.tid=J i) {c0:af} (hL:i.zero=J c0) (dw:c0.cells.toList.all dy=aa) (et:c0.cells.size=i.size)
  (cN:i.size=T.bM) (hh:(T.bM==0)=ak) (hp:iJ i.bytes 32768=aa) (hu:(∃cz,P.underlying u=J (.slice cz))\/P.underlying u=J .string) (an:ap x= .slice a xs.length xs.length) (bf:Src T z m xs (.slice a xs.length xs.length)) (aZ:ap y=w) (mW:Src T z m b4 w) (gT:b4.isEmpty=ak)
  (aS:dL z e m k) {r:List aK} (aV:cD xs b4=J r)
  (hk:∀cc m',dL z e m' k->dU T z e m' k r cc->gl m m' ae->(∀p,(∀b,p=J b->b<m.next)->e6 p (da cc))->As .fX cc m'):cH P ap o m As:=by
 obtain ⟨nD,rfl⟩:=tv aV;simp only[uf] at nD;have hp:=pk hp;have bb:0<T.bM:=by grind
 obtain ⟨hlen,cs,mb,kK,e0⟩:=mW;obtain ⟨Vj,os,hex,nF,aoN⟩:=bf;have an':ja (ap y)=b4.length:=by grind
 have Bz:0<b4.length:=by grind
 have hmul:(xs.length+b4.length)*i.bytes<=4294967296*32768:=IT nD hp;have qS:z m.next= .dead:=by
  have bx:=aS.bZ;cases wC:z m.next with
  |dead=>rfl
  |ro rd=>have:=(bx m.next (by grind)).2;omega
  |own L t=>have:=(bx m.next (by grind)).2;omega
  |map L t=>have:=(bx m.next (by grind)).2;omega
  |lock _ _ _ _=>have:=(bx m.next (by grind)).2;omega
 have bp:hR P (jn P 0) ap o m (.slice (J ⟨m.next,0,ae⟩) (xs.length+ja (ap y)) dc) (m.push (.own (os++cs) T.tid)):=
  .sP x y t u T.tid i c0 a xs.length xs.length (ja (ap y)) os cs h aJ az hL dw et (by grind) an (by grind) (by grind) (by grind) (.el hu rfl (by grind)) (by grind) (by grind) (by grind)
 rw[an'] at bp;have uX:fO T z (m.push (.own (os++cs) T.tid)) (xs++b4) (.slice (J ⟨m.next,0,ae⟩) (xs.length+b4.length) dc):=by
  refine fO.AW ⟨m.next,os++cs,dc,by simp,by simp[Mem.push],by simp[Mem.push],qS,by grind [ko], .inl rfl,λn q bl=> ?_⟩;rw[AB] at bl;split at bl
  ·obtain ⟨c,g1,g2⟩:=aoN n q bl;refine ⟨c,g1,λk q hk=> ?_⟩;have:=g2 k q hk
   grind
  ·rename_i hA;obtain ⟨c,g1,g2⟩:=e0 _ q bl;refine ⟨c,g1,λk q hk=> ?_⟩;have:=g2 k q hk;have h1:n*T.bM=os.length+(n - xs.length)*T.bM:=by
    rw[nF,<-ko];grind
   grind
 obtain ⟨g1,g2,g3,g4⟩:=Jz (k:=k) aS uX rfl
 grind [cH.fX]
def aqU {bX:Nat} {yE:TypeDesc} {b:bc D} {b4:List (D bX)} (aN:b9 X.G O z e m k vs) (hu:P.underlying u=J yE) (aw:rel X.G z vs b (bk fr y)) (qW:Xp X bX yE b O=J b4):
  Src (X.G.T bX) z m b4 (bk fr y)/\((∃cz,P.underlying u=J (.slice cz))\/P.underlying u=J .string):=by
 unfold Xp at qW;split at qW
 ·refine ⟨?_, .inl ⟨_,hu⟩⟩;split at qW
  ·cases qW;have aD:bk fr y= .slice ae 0 0:=aw;rw[aD];exact (fA.nil (T:=X.G.T bX)).src aN.aS.bZ
  ·split at qW
   ·rename_i e2 azm aR;split at qW
    ·rename_i eB;subst eB;cases qW;exact acy aN aR aw
    grind
   grind
 ·refine ⟨?_, .inr hu⟩;split at qW
  ·rename_i s l8 _;cases qW;have aD:bk fr y=aF.str s:=aw;rw[aD];exact l8.bf _ _ _ _ (asP s)
  grind
 grind
theorem arG {a b:bc D} (aM:o.op= .call {callee:= .builtin .append,args:=#[x,y],argTypes:=#[t,u]}) (aN:b9 X.G O z e m k vs) (bl:rel X.G z vs a (bk fr x)) (aw:rel X.G z vs b (bk fr y)) (h:Ly X t u a b O K=J r):cH P (bk fr) o m λ_ v m'=>dH X O z e k vs K r v m':=by
 unfold Ly at h;split at h
 ·rename_i ht awn aJ hu;split at h
  ·grind
  ·rename_i ti iE;split at h
   ·grind
   ·rename_i b4 qW;have Bx:=aqU (u:=u) aN hu aw qW;have mW:Src (X.G.T ht) z m b4 (bk fr y):=Bx.1;have oc:P.underlying t=J (.slice (X.G.T ht).tid):=by rw[ti.tid];grind
    have fm:P.info? (X.G.T ht).tid=J ti.i:=by rw[ti.tid];exact ti.az
    split at h
    ·obtain ⟨q,bm,h⟩:=bind_some h;have aD:bk fr x= .slice ae 0 0:=bl;refine K3 (T:=X.G.T ht) (z:=z) aM oc fm ti.bx ti.dw ti.et ti.cN ti.hh ti.hp Bx.2 aD dU.nil rfl mW aN.aS bm λcc m' fc bT gI fP=> ?_;have kI:dQ cc=da cc:=hi (by obtain ⟨a,c,rfl⟩:=bT.bT.len;grind);exact pA (v:=cc) aN fc gI (λp bb=>by rw[kI];exact fP p bb e6.qg) h bT (oi aN bT.bT.len)
    ·rename_i e2 xs;by_cases eB:e2=ht
     case neg=>grind
     rw[dif_pos eB] at h;subst eB;by_cases gT:b4.isEmpty=aa
     case pos=>grind
     rw[if_neg gT] at h;obtain ⟨q,bm,h⟩:=bind_some h;obtain ⟨f1,f2,a0,f3⟩:=bl;refine ac1 (T:=X.G.T e2) (z:=z) aM oc fm ti.bx ti.dw ti.et ti.cN ti.hh ti.hp Bx.2 f3 (by rw[<-f3];exact fA.src f1 aN.aS.bZ) rfl mW (by grind) aN.aS bm λcc m' fc bT gI fP=> ?_;have kI:dQ cc=da cc:=hi (by obtain ⟨a,c,rfl⟩:=bT.bT.len;grind);exact pA (v:=cc) aN fc gI (λp bb=>by grind) h bT (oi aN bT.bT.len)
    ·rename_i i;split at h
     ·rename_i e2 xs dX hO;split at h
      ·rename_i eB;subst eB;obtain ⟨q,bm,h⟩:=bind_some h;have cG:dU (X.G.T e2) z e m k xs (bk fr x):=aN.obj i _ _ hO bl.1;refine K3 (T:=X.G.T e2) aM oc fm ti.bx ti.dw ti.et ti.cN ti.hh ti.hp Bx.2 rfl cG rfl mW aN.aS bm λcc m' fc bT gI fP=> ?_;have kI:dQ cc=da cc:=hi (by obtain ⟨a,c,rfl⟩:=bT.bT.len;grind);have n2:dQ (bk fr x)=da (bk fr x):=hi (by obtain ⟨a,c,cp⟩:=cG.bT.len;grind);have jg:=aN.kill i;have hlen:(O.set i .dead).length=O.length:=sJ;refine ⟨z,vs++[cc], .c (.own O.length),O.set i .dead++[.bh e2 q ak ak],(Inv.set O i (.inl rfl)).trans (Inv.push _ _),dT.refl z,j0,jg.push (o':= .bh e2 q ak ak) gI fc (λj p w bn hw aR=> ?_) bT (λp bb US=>by grind), ?_,h⟩
       ·rw[ll] at bn;split at bn
        ·split at bn
         ·cases bn;cases aR
         grind
        ·rename_i hq;rw[<-n2];exact aN.fD j i p _ w _ (λe=>hq e.symm) bn hO aR rfl hw bl.1
       ·exact oi aN bT.bT.len
      grind
     grind
    ·rename_i i bX cf n;by_cases eW:fi cf 0=aa
     case neg=>grind
     rw[if_pos eW] at h;obtain rfl:=Nat.eq_of_beq_eq_true eW;by_cases wh:bX=ht
     case neg=>grind
     rw[if_pos wh] at h;subst wh;split at h
     ·rename_i e2 xs dX hO;split at h
      ·rename_i eB;subst eB;obtain ⟨q,bm,h⟩:=bind_some h;obtain ⟨zU,J2,iF⟩:=bl;have Vo:dU (X.G.T e2) z e m k xs zU:=aN.obj i _ _ hO J2.1;have anp:dQ zU=da zU:=hi (by obtain ⟨a,c,cp⟩:=Vo.bT.len;grind);have uX:=iF.bT Vo.bT;have n2:dQ (bk fr x)=da (bk fr x):=hi (by obtain ⟨a,c,cp⟩:=uX.len;grind);have cG:dU (X.G.T e2) z e m k (xs.take n) (bk fr x):=⟨uX,λb aw=>Vo.fresh b (by rw[<-anp,<-iF.blk,n2];grind)⟩
       refine K3 (T:=X.G.T e2) aM oc fm ti.bx ti.dw ti.et ti.cN ti.hh ti.hp Bx.2 rfl cG rfl mW aN.aS bm λcc m' fc bT gI fP=> ?_;have kI:dQ cc=da cc:=hi (by obtain ⟨a,c,rfl⟩:=bT.bT.len;grind);have jg:=aN.kill i;refine ⟨z,vs++[cc], .c (.own O.length),O.set i .dead++[.bh e2 q ak ak],(Inv.set O i (.inl rfl)).trans (Inv.push _ _),dT.refl z,j0,jg.push (o':= .bh e2 q ak ak) gI fc (λj p w bn hw aR=> ?_) bT (λp bb US=>by grind), ?_,h⟩
       ·rw[ll] at bn;split at bn
        ·split at bn
         ·cases bn;cases aR
         grind
        ·rename_i hq;rw[<-n2,iF.blk];exact aN.fD j i p _ w _ (λe=>hq e.symm) bn hO aR rfl hw J2.1
       ·exact oi aN bT.bT.len
      grind
     grind
    grind
 grind
theorem are {a b:bc D} (aM:o.op= .call {callee:= .builtin .append,args:=#[x,y],argTypes:=#[t,u]}) (aN:b9 X.G O z e m k vs) (bl:rel X.G z vs a (bk fr x)) (aw:rel X.G z vs b (bk fr y)) (h:Xy X t u a b O K=J r):cH P (bk fr) o m λ_ v m'=>dH X O z e k vs K r v m':=by
 unfold Xy at h;split at h
 ·rename_i ht awn aJ hu;split at h
  ·rename_i ti bX xs e2 b4 iE aR;by_cases eB:bX=ht
   case neg=>grind
   rw[dif_pos eB] at h;subst eB;by_cases eB:e2=bX
   case neg=>grind
   rw[dif_pos eB] at h;subst eB;obtain ⟨q,bm,h⟩:=bind_some h;have mW:=acy aN aR aw;have oc:P.underlying t=J (.slice (X.G.T e2).tid):=by rw[ti.tid];grind
   have fm:P.info? (X.G.T e2).tid=J ti.i:=by rw[ti.tid];exact ti.az
   obtain ⟨f1,f2,a0,f3⟩:=bl;by_cases gT:b4.isEmpty=aa
   ·rw[if_pos gT] at h;obtain rfl:b4=[]:=by grind
    obtain ⟨nD,rfl⟩:=tv bm;obtain ⟨hlen,cs,mb,kK,_⟩:=mW;obtain rfl:cs=[]:=yl (by grind);have bp:hR P (jn P 0) (bk fr) o m (bk fr x) m:= .vZ x y t u _ ti.i a0 xs.length xs.length aM oc fm f3 (by omega) (e4 _) (.el (.inl ⟨_,hu⟩) (by grind) (by rw[ti.cN];grind));exact cH.fX bp (dH.here (X:=X) aN (dR:= .c (.bh e2 (xs++[]))) (by rw[List.append_nil];exact f1) h)
   ·rw[if_neg gT] at h;refine ac1 (T:=X.G.T e2) (z:=z) aM oc fm ti.bx ti.dw ti.et ti.cN ti.hh ti.hp (.inl ⟨_,hu⟩) f3 (by rw[<-f3];exact fA.src f1 aN.aS.bZ) rfl mW (by grind) aN.aS bm λcc m' fc bT gI fP=> ?_;have kI:dQ cc=da cc:=hi (by obtain ⟨a,c,rfl⟩:=bT.bT.len;grind);exact pA (v:=cc) aN fc gI (λp bb=>by grind) h bT (oi aN bT.bT.len)
  grind
 grind
def arO {bG bA:Nat} (aM:o.op= .makeMap t ae) (aJ:P.underlying t=J (.map bG bA)) (aN:b9 X.G O z e m k vs) (h:K (.c (.own O.length)) (O++[.map t bG bA [] ak ak])=J r):cH P (bk fr) o m λ_ v m'=>dH X O z e k vs K r v m':=by
 refine ar1 (X.G.M t bG bA) aM aJ rfl aN.aS λcc m' fc bT gI fP=> ?_;obtain ⟨q,rfl,bm⟩:=bT.bT;exact pA (v:= .map (J q)) aN fc gI fP h bT ⟨Cb aN _,rfl,rfl⟩
def arl {u bG bA:Nat} {es:List (D bG×D bA)} {a:D bG} {eP:IP P X.G bG bA} {ok:Bool} {c:bc D} (aM:o.op= .lookup t x y ok) (aJ:P.underlying t=J (.map bG bA)) (hu:P.underlying u=J (.map bG bA)) (aN:b9 X.G O z e m k vs)
  (an:nn (X.G.M u bG bA) z es (bk fr x)\/jD (X.G.M u bG bA) z e m k es (bk fr x)) (aZ:rel X.G z vs c (bk fr y)) (hk:eP.qY c=J a)
  (h:(aF.lt (@jv _ _ eP.dec es a) λy=>if ok=aa then K (.sq [.inl (eP.pG (y.getD eP.z0)), .inl (.bool y.isSome)]) O else K (.c (eP.pG (y.getD eP.z0))) O)=J r):cH P (bk fr) o m λ_ v m'=>dH X O z e k vs K r v m':=by
 letI bg:=eP.dec
 obtain ⟨w,hw,h⟩:=adC h;have yR:=eP.wo z vs c a _ hk aZ;have th:=eP.th z vs (w.getD eP.z0);cases ok with
 |true=>
  rw[if_pos rfl] at h;have hrel:rel X.G z vs (.sq [.inl (eP.pG (w.getD eP.z0)), .inl (.bool w.isSome)]) (.tuple #[ey (ek P bA) (X.G.eo bA (w.getD eP.z0)), .bool w.isSome]):=⟨[_,_],rfl,th,rfl,trivial⟩
  rcases an with an|an
  ·exact aeC (M:=X.G.M u bG bA) (a:=a) (z0:=eP.z0) aM aJ hu eP.K eP.V eP.az eP.bx rfl an aN.aS rfl yR hw (if_pos rfl) (dH.here aN hrel h)
  ·exact aeB (M:=X.G.M u bG bA) (a:=a) (z0:=eP.z0) aM aJ hu eP.K eP.V eP.az eP.bx rfl an rfl yR hw (if_pos rfl) (dH.here aN hrel h)
 |false=>
  rw[if_neg (by simp)] at h;have hrel:rel X.G z vs (.c (eP.pG (w.getD eP.z0))) (ey (ek P bA) (X.G.eo bA (w.getD eP.z0))):=th;rcases an with an|an
  ·exact aeC (M:=X.G.M u bG bA) (a:=a) (z0:=eP.z0) aM aJ hu eP.K eP.V eP.az eP.bx rfl an aN.aS rfl yR hw (if_neg (by simp)) (dH.here aN hrel h)
  ·exact aeB (M:=X.G.M u bG bA) (a:=a) (z0:=eP.z0) aM aJ hu eP.K eP.V eP.az eP.bx rfl an rfl yR hw (if_neg (by simp)) (dH.here aN hrel h)
def adk {u bG bA i:Nat} {es:List (D bG×D bA)} {a:D bG} {b:D bA} {eP:IP P X.G bG bA} {c:bc D} {d:cv D} {w:bS} (aM:o.op= .mapUpdate t x y w\/o.op= .insert t x y w) (aJ:P.underlying t=J (.map bG bA)) (hu:P.underlying u=J (.map bG bA)) (aN:b9 X.G O z e m k vs)
  {dX:Bool} (hO:O[i]? =J (.map u bG bA es ak dX)) (an:vs[i]? =J (bk fr x)) (aZ:rel X.G z vs c (bk fr y)) (hw:ed X.G z vs d (bk fr w)) (hk:eP.qY c=J a) (aD:eP.tN d=J b)
  (h:(aF.lt (@o8 _ _ eP.dec es a b) λv7=>K .undef (O.set i (.map u bG bA v7 ak aa)))=J r):cH P (bk fr) o m λ_ v m'=>dH X O z e k vs K r v m':=by
 letI bg:=eP.dec
 obtain ⟨v7,rR,h⟩:=adC h;have cG:jD (X.G.M u bG bA) z e m k es (bk fr x):=aN.obj i _ _ hO an;refine as7 (M:=X.G.M u bG bA) (a:=a) (b:=b) aM aJ hu eP.K eP.V rfl cG rfl (eP.wo z vs c a _ hk aZ) rfl (eP.y0 z vs d b _ aD hw) aN.aS rR λm' fc bT gI=> ?_;have kI:dQ (bk fr x)=tH (bk fr x):=by obtain ⟨q,bm,_⟩:=cG.bT;rw[bm];rfl
 exact BW aN h hO an rfl rfl (by grind) fc bT
def KJ {s:bc D} {g:af} {c:Nat×List (cv D)} {cr:List (ba D)} (aN:b9 X.G O z e m k vs) (bf:rel X.G z vs s g) (h:vp O s=J (c,cr)):∃z',Inv O cr/\dT e.next z z'/\b9 X.G cr z' e m k vs/\lU X.G z' vs c.2 0 g:=by
 cases s with
 |hd t cs off=>
  simp only[vp] at h;split at h
  ·rename_i bR;subst bR;cases h;exact ⟨z,Inv.refl _,dT.refl z,aN,bf⟩
  ·cases h
 |box i off=>
  simp only[vp] at h;obtain ⟨b,aD,bs⟩:=bf;split at h
  ·rename_i t cs bZ dX hO;split at h
   ·rename_i bR;subst bR;cases h;have cG:=aN.obj i _ _ hO aD;rw[bs];cases bZ with
    |true=>
     obtain ⟨jR,ds,he,ay,aV⟩:=cG;cases he;have:O.set i (.box t cs aa dX)=O:=by
      apply rv;intro j;rw[ll];split
      ·rename_i hq;subst hq;rw[hO,if_pos (fq.1 hO).1]
      ·rfl
     rw[this];exact ⟨z,Inv.refl _,dT.refl z,aN,b,0,ds,rfl,ay,aV⟩
    |false=>obtain ⟨jR,ds,he,n2,hU,aV⟩:=cG;cases he;obtain ⟨dv,cL,c9,fo,k4⟩:=n2.freeze hU aN.aS;have JU:=pb.mono aV cL.le λ_ _ h=>h;exact ⟨dv,Inv.set O i (.inl rfl),cL,aN.jT hO aD rfl rfl cL.le c9 k4 ⟨b,ds,rfl,fo,JU⟩,b,0,ds,rfl,fo,JU⟩
   ·cases h
  ·cases h
 |_=>cases h
def aro {s:bc D} {r:ap} {v:af} {m':Mem} (h:dH X O z e k vs (V2 s K) r v m'):dH X O z e k vs K r v m':=by
 unfold V2 at h;split at h
 ·obtain ⟨dv,jK,dR,cu,h1,ai,aT,br,cK,fJ⟩:=h;dsimp only at fJ;split at fJ
  ·rename_i c dz ay;obtain ⟨z2,g1,g2,g3,g4⟩:=KJ br cK ay;exact ⟨z2,jK, .hd c.1 c.2 0,dz,h1.trans g1,ai.trans g2,aT,g3,g4,fJ⟩
  ·cases fJ
 ·exact h
def acT:∀{l:List (bc D)} {gs:List af} {caps:List (Nat×List (cv D))} {O cr:List (ba D)} {z:Nat->bW},b9 X.G O z e m k vs->bP (rel X.G z vs) l gs->Ch l O=J (caps,cr)->∃z',Inv O cr/\dT e.next z z'/\b9 X.G cr z' e m k vs/\bP (λc g=>lU X.G z' vs c.2 0 g) caps gs
 |[],[],caps,O,cr,z,aN,_,h=>by cases h;exact ⟨z,Inv.refl _,dT.refl z,aN,trivial⟩
 |s::l,g::gs,caps,O,cr,z,aN,⟨h1,ai⟩,h=>by
  unfold Ch at h;split at h
  ·rename_i c cu ay;split at h
   ·rename_i r dz aV;cases h;obtain ⟨dv,lu,cL,c9,fo⟩:=KJ aN h1 ay;obtain ⟨z2,g0,g1,g2,g3⟩:=acT c9 (bP.mono (λ_ _ h=>rel.mono h cL.le λ_ _ h=>h) ai) aV;exact ⟨z2,lu.trans g0,cL.trans g1,g2,lU.mono fo g1.le λ_ _ h=>h,g3⟩
   grind
  grind
 |[],_::_,_,_,_,_,_,h,_=>h.elim
 |_::_,[],_,_,_,_,_,h,_=>h.elim
theorem w3 {xs:List bS} (bp:∀x,rel X.G z vs (dp E x) (bk fr x)):bP (rel X.G z vs) (xs.map (dp E)) (xs.map (bk fr)):=by
 induction xs with
 |nil=>trivial
 |cons x xs a1=>exact ⟨bp x,a1⟩
def ass {s:bc D} {i:Nat} {v:af} (aN:b9 X.G O z e m k vs) (h:T9 O s=J i) (aV:rel X.G z vs s v):sQ vs i v:=by
 unfold T9 at h;split at h
 ·split at h
  ·split at h
   ·rename_i bR;cases h;subst bR;obtain ⟨b,h1,ai⟩:=aV;exact ⟨by grind,b,ai⟩
   grind
  grind
 grind
def ac9 (aN:b9 X.G O z e m k vs):∀{l:List (bc D)} {gs:List af} {is:List Nat},Cv O l=J is->bP (rel X.G z vs) l gs->bP (sQ vs) is gs
 |[],[],is,h,_=>by cases h;trivial
 |s::l,g::gs,is,h,⟨h1,ai⟩=>by
  unfold Cv at h;split at h
  ·rename_i i u2 az bn;cases h;exact ⟨ass aN az h1,ac9 aN bn ai⟩
  grind
 |[],_::_,_,_,h=>h.elim
 |_::_,[],_,_,h=>h.elim
def arK {f:FuncId} {first cap:Array bS} {is:List Nat} (aM:o.op= .makeFunc (.func f) first cap) (bF:first.toList=[]) (aN:b9 X.G O z e m k vs) (bp:∀x,rel X.G z vs (dp E x) (bk fr x)) (ay:Cv O (cap.toList.map (dp E))=J is) (h:K (.c (.fn f is)) O=J r):
  cH P (bk fr) o m λ_ v m'=>dH X O z e k vs K r v m':=by
 have bs:=ac9 aN ay (w3 bp);have wi:first=#[]:=by grind
 subst wi;have fb:(cap.map (bk fr)).toList.all storable=aa:=by
  rw[iA];intro v aD;rw[ye] at aD;have:=iA.1 (WR bs) v aD;unfold xr at this;split at this
  ·rfl
  grind
 exact j1 aN h (aeG aM rfl fb) ⟨cap.toList.map (bk fr),by congr 1;grind,bs⟩
def asC {f:FuncId} {first cap:Array bS} {caps:List (Nat×List (cv D))} {cr:List (ba D)} (aM:o.op= .makeFunc (.func f) first cap) (bF:first.toList=[]) (aN:b9 X.G O z e m k vs) (bp:∀x,rel X.G z vs (dp E x) (bk fr x)) (ay:Ch (cap.toList.map (dp E)) O=J (caps,cr)) (h:K (.fn f caps) cr=J r):
  cH P (bk fr) o m λ_ v m'=>dH X O z e k vs K r v m':=by
 obtain ⟨dv,g0,g1,g2,g3⟩:=acT aN (w3 bp) ay;have wi:first=#[]:=by grind
 subst wi;have fb:(cap.map (bk fr)).toList.all storable=aa:=by
  rw[iA];intro v aD;rw[ye] at aD;have:∀(cs:List (Nat×List (cv D))) (gs:List af),bP (λc g=>lU X.G dv vs c.2 0 g) cs gs->∀v∈gs,storable v=aa:=by
   intro cs;induction cs with
   |nil=>intro gs bs v aD;cases gs with
    |nil=>grind
    |cons _ _=>exact bs.elim
   |cons c cs a1=>intro gs bs v aD;cases gs with
    |nil=>grind
    |cons g gs=>
     rcases List.mem_cons.1 aD with rfl|aD
     ·obtain ⟨b,iw,ds,he,_⟩:=bs.1;rw[he];rfl
     ·exact a1 gs bs.2 v aD
  grind
 refine cH.pure (aeG aM rfl fb) (dH.from g0 g1 (dH.here (dR:= .fn f caps) g2 ⟨cap.toList.map (bk fr), ?_,g3⟩ h));congr 1
 grind
end
end Go.aF
end
section
namespace Go.aF
section
variable {P:bI} {D:Nat->Type} {X:e3 P D} {ap:Type} {z z':Nat->bW} {e m m':Mem} {k:Option Nat} {vs:List af} {fr:Nat->af} {E:List (Nat×bc D)} {O:List (ba D)} {o:Oper} {r:ap}
variable {x y:bS} {t u:bV} {K:bc D->List (ba D)->Option ap}
theorem arP {l:Nat} {cQ:Array (Nat×bS)} (aM:o.op= .buildSlice t l cQ) (aN:b9 X.G O z e m k vs) (bp:∀x,rel X.G z vs (dp E x) (bk fr x)) (h:XS X t l cQ.toList E O K=J r):cH P (bk fr) o m λ_ v m'=>dH X O z e k vs K r v m':=by
 unfold XS at h;split at h
 ·rename_i bX aJ;split at h
  ·rename_i t1 hu;split at h
   ·rename_i eG oM;split at h
    ·rename_i Vv;refine Xn (T:=rD bX) aM aJ eG.az eG.bx rfl (by rw[eG.h1];rfl) (by rw[eG.h1];rfl) [] [] rfl rfl rfl (by rw[Vv];trivial) aN.aS λcc m' fc bT gI fP=> ?_;have aw:dQ cc=da cc:=hi (by obtain ⟨a,c,rfl⟩:=bT.bT.len;grind);exact pA (v:=cc) aN fc gI (by grind) h ⟨λf bF=>by cases bF;exact ⟨eG.cN,eG.tid,eG.aV⟩,_,bT,rfl,λj w xs g1 g2 _=>by grind,λp bb=>by grind⟩ (oi aN bT.bT.len)
    ·rename_i y Vv;split at h
     ·rename_i j bn;split at h
      ·rename_i t2 xs w hO;split at h
       ·rename_i ai;have aZ:=bp y;rw[bn] at aZ;obtain ⟨aD,bf,ay⟩:=aZ;refine Xn (T:=rD bX) aM aJ eG.az eG.bx rfl (by rw[eG.h1];rfl) (by rw[eG.h1];rfl) [bk fr y] [[bk fr y]] rfl rfl rfl (by rw[Vv];exact ⟨rfl,bf,by grind,⟨rfl,bf,ay⟩,trivial⟩) aN.aS λcc m' fc bT gI fP=> ?_;have aw:dQ cc=da cc:=hi (by obtain ⟨a,c,rfl⟩:=bT.bT.len;grind);refine pA (v:=cc) aN fc gI (by grind) h ⟨λf bF=>by cases bF;exact ⟨eG.cN,eG.tid,eG.aV⟩,_,bT,rfl,λj w xs g1 g2 g3=> ?_,λp bb=> ?_⟩ (oi aN bT.bT.len)
        ·grind
        grind
       grind
      grind
     grind
    grind
   grind
  grind
 grind
def b9.afJ (h:b9 X.G O z e m k vs) (bx:fl z z') (aS:dL z' e m k) (bg:∀b,z b= .dead->z' b= .dead) (hk:∀(j:Nat) (q:ba D) (w:af),O[j]? =J q->vs[j]? =J w->q.live=aa->TC z z' (fV w)):b9 X.G O z' e m k vs where
 aS:=aS
 len:=h.len
 obj:=λj q w bn hw=>(h.obj j q w bn hw).jP bx (λaR b aw=>by
  have:=((h.obj j q w bn hw).lt aR b aw).2.1
  grind) λaR=>hk j q w bn hw aR
 fD:=h.fD
noncomputable def Ao (z:Nat->bW) (fK jY oX hr n':Nat):Nat->bW:=λb=>
 match z b with
 | .lock n j L t=>if fK<=b/\n≠0/\n=jY then .lock n' j L t else if fK<=b/\n≠0/\n=oX then .lock n' (hr+j) L t else .lock n j L t
 |x=>x
theorem aem {fK jY oX hr n' b:Nat} (h:∀n j L t,z b≠ .lock n j L t):Ao z fK jY oX hr n' b=z b:=by
 grind [Ao]
theorem tK {fK jY oX hr n' b n j:Nat} {L:List af} {t:bV} (h:z b= .lock n j L t):Ao z fK jY oX hr n' b=if fK<=b/\n≠0/\n=jY then .lock n' j L t else if fK<=b/\n≠0/\n=oX then .lock n' (hr+j) L t else .lock n j L t:=by
 grind [Ao]
def Xq {aK:Type} {T:cM aK} {xs:List aK} {v:af} (h:dU T z e m k xs v) (an:xs≠[]):fV v≠0:=by
 intro bR;unfold fV at bR;rcases h.bT with ⟨rfl,tk⟩|⟨dJ,o',L',c3,rfl,_⟩
 ·grind
 grind [da]
def ac2 {aK:Type} {T:cM aK} {x0:aK} {As:Tag->af->Mem->Prop} {ap:bS->af} {i:TypeInfo} {kk cL:aG} {n:Int} {v:af} {xs:List aK} (h:o.op= .call {callee:= .builtin .append,args:=#[x,y],argTypes:=#[t,u]}) (aJ:P.underlying t=J (.slice T.tid)) (az:P.info? T.tid=J i) {c0:af} (hL:i.zero=J c0) (dw:c0.cells.toList.all dy=aa) (et:c0.cells.size=i.size)
  (cN:i.size=T.bM) (hh:(T.bM==0)=ak) (hp:iJ i.bytes 32768=aa) (hu:P.underlying u=J (.int kk)) (an:ap x=v) (bf:dU T z e m k xs v) (aZ:ap y= .int cL n) (e0:T.rd z x0 c0.cells.toList) (aS:dL z e m k) {b4 r:List aK} (hm:hy x0 n=J b4) (aV:cD xs b4=J r)
  (hk:∀cc m',dL z e m' k->dU T z e m' k r cc->gl m m' (da v)->(∀p,(∀b,p=J b->b<m.next)->e6 p (da v)->e6 p (da cc))->As .fX cc m'):cH P ap o m As:=by
 obtain ⟨bR,h1,rfl⟩:=B3 hm;obtain ⟨c,rfl⟩:=sD bR;have bb:0<T.bM:=by grind
 rw[sG] at aV;obtain ⟨cc,m',h1,ai,aT,br⟩:=arV (C:=jn P 0) (k:=cL) h aJ az hL dw et cN bb (pk hp) hu an bf.bT aZ e0 aS.bZ aS.dead aV;refine cH.fX h1 (hk _ _ (aS.same aT bf.bm) ⟨ai,λb aw=> ?_⟩ aT λp bb bl b aw e5=> ?_)
 ·rcases br b aw with br|br
  ·exact bf.fresh b br
  ·have:=aS.next;omega
 ·rcases br b e5 with br|br
  ·exact bl b aw br
  grind
theorem aqz {a b:bc D} (aM:o.op= .call {callee:= .builtin .append,args:=#[x,y],argTypes:=#[t,u]}) (hu:Xl (P.underlying u)=aa) (aN:b9 X.G O z e m k vs) (bl:rel X.G z vs a (bk fr x)) (aw:rel X.G z vs b (bk fr y)) (h:W8 X t a b O K=J r):cH P (bk fr) o m λ_ v m'=>dH X O z e k vs K r v m':=by
 have J0:∃kk,P.underlying u=J (.int kk):=by
  unfold Xl at hu
  grind
 obtain ⟨kk,J0⟩:=J0;unfold W8 at h;split at h
 ·rename_i bX cL n aJ;split at h
  ·rename_i ti iE;split at h
   ·rename_i bB;obtain ⟨xs,hm,h⟩:=bind_some h;have aV:cD ([]:List (D bX)) xs=J xs:=by
     obtain ⟨bR,h1,rfl⟩:=B3 hm
     grind [cD,uf]
    refine ac2 (T:=X.G.T bX) (xs:=[]) aM (by rw[ti.tid];grind) (by rw[ti.tid];exact ti.az) ti.bx ti.dw ti.et ti.cN ti.hh ti.hp J0 bl ⟨.inl ⟨rfl,rfl⟩,λb aw=>by cases aw⟩ aw (ti.GX z) aN.aS hm aV λcc m' fc bT gI fP=> ?_;have kI:dQ cc=da cc:=hi (by obtain ⟨a,c,rfl⟩:=bT.bT.len;grind);exact pA (v:=cc) aN fc gI (by rw[kI];exact λp bb=>fP p bb (by intro b aw e5;cases e5)) h bT (oi aN bT.bT.len)
   grind
  grind
 ·rename_i hE i cL n aJ;split at h
  ·rename_i cu U5;split at h
   ·rename_i bX t1 up oA dX rP;split at h
    ·rename_i eG oM;split at h
     ·rename_i he;subst he;obtain ⟨b4,hm,h⟩:=bind_some h;obtain ⟨q,bm,h⟩:=bind_some h;obtain ⟨dv,i1,U,ui⟩:=BZ aN U5;obtain ⟨aoa,Vk,rfl⟩:=B3 hm;have nD:=(tv bm).1;have aoH:=(tv bm).2;subst aoH;have rX:=bl.1;obtain ⟨zR,zS,jY⟩:=ui.obj i _ _ rP rX;have aod:hy (pr ae 0 0) n=J (gb n.toNat (pr ae 0 0)):=by
       grind [hy]
      have Vy:cD zS (gb n.toNat (pr ae 0 0))=J (zS++gb n.toNat (pr ae 0 0)):=by unfold cD;rw[jY.len,IL,if_pos (by grind)]
      refine ac2 (T:=rD bX) aM aJ eG.az eG.bx rfl (by rw[eG.h1];rfl) (by rw[eG.h1];rfl) rfl eG.hp J0 rfl jY.bT aw ⟨rfl,rfl,rfl⟩ ui.aS aod Vy λcc m' fc bT gI fP=> ?_;have aaz:dQ (bk fr x)=da (bk fr x):=hi (by obtain ⟨a,c,cp⟩:=jY.bT.bT.len;grind);have kI:dQ cc=da cc:=hi (by obtain ⟨a,c,rfl⟩:=bT.bT.len;grind);have TD:=ui.pF (o':= .dead) rP rX rfl (by grind) fc trivial;have left:∀(l:Nat) (p:ba D) (w:af),(cu.set i (.dead:ba D))[l]? =J p->vs[l]? =J w->p.live=aa->cu[l]? =J p/\l≠i:=by
       intro l p w aR hw bb;rw[ll] at aR;split at aR
       ·split at aR
        ·cases aR;cases bb
        grind
       grind
      generalize qd:Ao dv e.next (fV (bk fr x)) 0 oA.length (fV cc)=z3;have Z9:∀b,(∀n j L t,dv b≠ .lock n j L t)->z3 b=dv b:=λb cp=>by rw[<-qd];grind [aem]
      have hle:fl dv z3:=λb bF=>Z9 b λn j L t cp=>by rw[cp] at bF;exact bF
      have mU:∀b,dv b= .dead->z3 b= .dead:=λb bg=>by grind
      have BA:dT e.next dv z3:=⟨hle,λb cF=>by
       cases bx:dv b with
       |lock n j L t=>rw[<-qd,tK bx,if_neg (by omega),if_neg (by omega)]
       |_=>grind⟩
      have fb:dL z3 e m' k:=⟨λb aw=>by
       cases bx:dv b with
       |lock n j L t=>
        have br:=fc.bZ b (by grind);rw[bx] at br;rw[<-qd,tK bx];split
        ·exact br
        grind
       |_=>
        have aT:=Z9 b (λn j L t cp=>by rw[bx] at cp;cases cp);rw[aT] at aw⊢;exact fc.bZ b aw,fc.dead,fc.oL,fc.next,fc.kept⟩
      have AE:=TD.afJ hle fb mU λl p w aR hw bb b c6 L eu s8=>by
       obtain ⟨h1,ai⟩:=left l p w aR hw bb;have ne:fV w≠0->fV w≠fV (bk fr x):=by
        intro n1;have fP:=ui.fD l i _ _ _ _ ai h1 rP bb rfl hw rX
        grind [WT,hi,LI]
       rw[<-qd,tK s8,s8,if_neg λcp=>ne cp.2.1 cp.2.2,if_neg λcp=>cp.2.1 cp.2.2]
      have nE:hf X.G z3 e m' k (vs++[cc]) (.nest bX t1 up (oA++gb n.toNat []) ae ak:ba D) cc:=by
       refine ⟨zR,_,bT.jP hle (λb aw=>mU b (bT.bT.lt b aw).2▸((bT.bT.lt b aw).2).symm),by rw[sI,sI,jY.len,IL,IL],λl w xs g1 g2 _=> ?_,λp bb=>by grind⟩;by_cases aR:l<oA.length
       ·rw[kS (by rw[jY.len];grind)] at g1;rw[kS aR] at g2;rcases jY.oU l w xs g1 g2 (λp bb=>by grind) with cp|⟨b,f0,L,c,fv,fQ,kb,nb,r8,q0⟩
        ·exact .inl cp
        ·have bR:=Xq jY.bT (λcp=>by grind);refine .inr ⟨b,f0,L,c,fv,by rw[<-qd,tK fQ,if_pos ⟨kb,bR,rfl⟩],kb,nb,r8,λi x az=> ?_⟩;obtain ⟨cs,oq,o9⟩:=q0 i x az;exact ⟨cs,(X.G.T t1).mono _ _ hle _ _ oq,o9⟩
       ·rw[kT (by rw[jY.len];omega)] at g1;rw[kT (by omega)] at g2;have h1:=mM g1;have ai:=mM g2;exact .inl ⟨ym h1,ym ai⟩
      have TE:=AE.V4 nE λ_ l p w aR bb hw=>by
       obtain ⟨h1,ai⟩:=left l p w aR hw bb;rw[kI];refine fP _ (λb aw=>((ui.obj l p w h1 hw).lt bb b aw).1) ?_;have:=ui.fD l i _ _ _ _ ai h1 rP bb rfl hw rX
       grind
      have an1:(cu.set i (.dead:ba D)).length=cu.length:=by simp
      refine ⟨z3,vs++[cc],_,_,i1.trans ((Inv.set cu i (.inl rfl)).trans (Inv.push _ _)),U.trans BA,j0,TE, ?_,h⟩;have:=oi AE bT.bT.len
      grind
     grind
    grind
   grind
  grind
 grind
theorem ard {i:Nat} {b:bc D} (aM:o.op= .call {callee:= .builtin .append,args:=#[x,y],argTypes:=#[t,u]}) (aN:b9 X.G O z e m k vs) (bl:rel X.G z vs (.c (.own i)) (bk fr x)) (aw:rel X.G z vs b (bk fr y)) (h:Xx X t u i b O K=J r):cH P (bk fr) o m λ_ v m'=>dH X O z e k vs K r v m':=by
 unfold Xx at h;split at h
 ·rename_i hE azd aJ hu;split at h
  ·rename_i j;split at h
   ·grind
   ·rename_i hq;have hq:i≠j:=λcp=>hq (by simp_all);split at h
    ·rename_i cu U5;split at h
     ·rename_i dz anL;split at h
      ·rename_i bX t1 up oA dX e2 t2 awm Ha ix rP UR;split at h
       ·rename_i eG oM;split at h
        ·rename_i eB;subst eB;split at h
         ·rename_i he;obtain ⟨rfl,rfl⟩:=he;obtain ⟨q,bm,h⟩:=bind_some h;have bm:cD oA Ha=J q:=bm;obtain ⟨dv,i1,U,ui⟩:=BZ aN U5;obtain ⟨z2,i2,ag,M2⟩:=BZ ui anL;obtain ⟨nD,rfl⟩:=tv bm;have rX:=bl.1;have qU:=aw.1;obtain ⟨zR,zS,jY⟩:=M2.obj i _ _ rP rX;obtain ⟨_,aE,oX⟩:=M2.obj j _ _ UR qU;have Vy:cD zS aE=J (zS++aE):=by
           unfold cD;rw[jY.len,oX.len,if_pos nD]
          refine K3 (T:=rD e2) aM aJ eG.az eG.bx rfl (by rw[eG.h1];rfl) (by rw[eG.h1];rfl) rfl eG.hp (.inl ⟨_,hu⟩) rfl jY.bT rfl oX.bT.bT.src M2.aS Vy λcc m' fc bT gI fP=> ?_;have aaz:dQ (bk fr x)=da (bk fr x):=hi (by obtain ⟨a,c,cp⟩:=jY.bT.bT.len;grind);have UU:dQ (bk fr y)=da (bk fr y):=hi (by obtain ⟨a,c,cp⟩:=oX.bT.bT.len;grind);have kI:dQ cc=da cc:=hi (by obtain ⟨a,c,rfl⟩:=bT.bT.len;grind);have anm:=M2.fD i j _ _ _ _ hq rP UR rfl rfl rX qU;rw[aaz,UU] at anm;have TD:=M2.pF (o':= .dead) rP rX rfl (by grind) fc trivial;have ane:(dz.set i (.dead:ba D))[j]? =J (.nest e2 t2 awm Ha ae ix):=by grind
          have af5:=TD.pF (m':=m') (o':= .dead) ane qU rfl ⟨e4 _,fc.dead,λ_ _ _=>rfl⟩ fc trivial;have left:∀(l:Nat) (p:ba D) (w:af),((dz.set i (.dead:ba D)).set j .dead)[l]? =J p->vs[l]? =J w->p.live=aa->dz[l]? =J p/\l≠i/\l≠j:=by
           intro l p w aR hw bb;rw[ll] at aR;split at aR
           ·split at aR
            ·cases aR;cases bb
            grind
           ·rename_i h1;rw[ll] at aR;split at aR
            ·split at aR
             ·cases aR;cases bb
             grind
            grind
          generalize qd:Ao z2 e.next (fV (bk fr x)) (fV (bk fr y)) oA.length (fV cc)=z3;have bX:∀b,(∀n j L t,z2 b≠ .lock n j L t)->z3 b=z2 b:=λb cp=>by rw[<-qd];grind [aem]
          have hle:fl z2 z3:=λb bF=>bX b λn j L t cp=>by rw[cp] at bF;exact bF
          have mU:∀b,z2 b= .dead->z3 b= .dead:=λb bg=>by grind
          have BA:dT e.next z2 z3:=⟨hle,λb cF=>by
           cases bx:z2 b with
           |lock n j L t=>rw[<-qd,tK bx,if_neg (by omega),if_neg (by omega)]
           |_=>grind⟩
          have fb:dL z3 e m' k:=⟨λb aw=>by
           cases bx:z2 b with
           |lock n j L t=>
            have br:=fc.bZ b (by grind);rw[bx] at br;rw[<-qd,tK bx];split
            ·exact br
            ·split
             ·exact br
             grind
           |_=>
            have aT:=bX b (λn j L t cp=>by rw[bx] at cp;cases cp);rw[aT] at aw⊢;exact fc.bZ b aw,fc.dead,fc.oL,fc.next,fc.kept⟩
          have AE:=af5.afJ hle fb mU λl p w aR hw bb b c6 L eu s8=>by
           obtain ⟨h1,ai,aT⟩:=left l p w aR hw bb;have ne:∀{ez:af} {u3:Nat} {u9:ba D},l≠u3->dz[u3]? =J u9->u9.live=aa->vs[u3]? =J ez->(∀r,ez≠ .map r)->fV w≠0->fV w≠fV ez:=by
            intro ez u3 u9 gT br cK fJ jH n1;have fP:=M2.fD l u3 _ _ _ _ gT h1 br bb cK hw fJ;by_cases aba:∃r,w= .map r
            ·obtain ⟨r,rfl⟩:=aba;exact absurd WT n1
            ·rw[hi (λr aV=>aba ⟨r,aV⟩),hi jH] at fP
             grind [LI]
           have m1:∀r,bk fr x≠ .map r:=by obtain ⟨a,c,cp⟩:=jY.bT.bT.len;grind
           have m2:∀r,bk fr y≠ .map r:=by obtain ⟨a,c,cp⟩:=oX.bT.bT.len;grind
           rw[<-qd,tK s8,s8,if_neg λcp=>ne ai rP rfl rX m1 cp.2.1 cp.2.2,if_neg λcp=>ne aT UR rfl qU m2 cp.2.1 cp.2.2]
          have nE:hf X.G z3 e m' k (vs++[cc]) (.nest e2 t2 up (oA++Ha) ae ak:ba D) cc:=by
           refine ⟨zR,zS++aE,bT.jP hle (λb aw=>mU b (bT.bT.lt b aw).2▸((bT.bT.lt b aw).2).symm),by rw[sI,sI,jY.len,oX.len],λl w xs g1 g2 _=> ?_,λp bb=>by grind⟩;by_cases aR:l<oA.length
           ·rw[kS (by rw[jY.len];grind)] at g1;rw[kS aR] at g2;rcases jY.oU l w xs g1 g2 (λp bb=>by grind) with cp|⟨b,f0,L,c,fv,fQ,kb,nb,r8,q0⟩
            ·exact .inl cp
            ·have bR:=Xq jY.bT (λcp=>by grind);refine .inr ⟨b,f0,L,c,fv,by rw[<-qd,tK fQ,if_pos ⟨kb,bR,rfl⟩],kb,nb,r8,λi x az=> ?_⟩;obtain ⟨cs,oq,o9⟩:=q0 i x az;exact ⟨cs,(X.G.T t2).mono _ _ hle _ _ oq,o9⟩
           ·rw[kT (by rw[jY.len];omega),jY.len] at g1;rw[kT (by omega)] at g2;rcases oX.oU (l - oA.length) w xs g1 g2 (λp bb=>by grind) with cp|⟨b,f0,L,c,fv,fQ,kb,nb,r8,q0⟩
            ·exact .inl cp
            ·have bR:=Xq oX.bT (λcp=>by grind);have gT:fV (bk fr y)≠fV (bk fr x):=by
              grind [LI]
             refine .inr ⟨b,f0,L,c,fv,by rw[<-qd,tK fQ,if_neg (λcp=>gT cp.2.2),if_pos ⟨kb,bR,rfl⟩,show oA.length+(l - oA.length)=l by omega],kb,nb,r8,λi x az=> ?_⟩;obtain ⟨cs,oq,o9⟩:=q0 i x az;exact ⟨cs,(X.G.T t2).mono _ _ hle _ _ oq,o9⟩
          have TE:=AE.V4 nE λ_ l p w aR bb hw=>by
           obtain ⟨h1,ai,aT⟩:=left l p w aR hw bb;rw[kI];refine fP _ (λb aw=>((M2.obj l p w h1 hw).lt bb b aw).1) ?_;have:=M2.fD l i _ _ _ _ ai h1 rP bb rfl hw rX
           grind
          have an1:((dz.set i (.dead:ba D)).set j .dead).length=dz.length:=by simp
          refine ⟨z3,vs++[cc],_,_,(i1.trans i2).trans ((Inv.set dz i (.inl rfl)).trans ((Inv.set _ j (.inl rfl)).trans (Inv.push _ _))),(U.trans ag).trans BA,j0,TE, ?_,h⟩;have:=oi AE bT.bT.len
          grind
         grind
        grind
       grind
      grind
     grind
    grind
  grind
 grind
end
end Go.aF
end
