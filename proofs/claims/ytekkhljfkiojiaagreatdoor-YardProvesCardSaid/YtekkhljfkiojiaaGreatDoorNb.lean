import Derived.MapKept
import Derived.Laws.StructEq
import Derived.Below
import Derived.Deep.Slices
import Derived.Test.YtekkhljfkiojiaaGreatDoorNa
set_option linter.defProp false
set_option linter.unusedSimpArgs false
set_option linter.unusedVariables false
open Array renaming toList_map->ye
open Bool renaming and_eq_true->fx,false->ak,true->aa
open Go renaming IntKind->aG,Operand->bS,Program->bI,TypeId->bV,Value->af
open Go.Cell renaming okWide->Tr
open Go.DataW renaming Trod->Tt,trod->ua
open Go.IntKind renaming bits->pP
open Go.MapKept renaming IsKey->TF
open Go.Program renaming cellsOf->nY
open Go.Region renaming before->kp
open Go.Result renaming andThen_ok->jE
open Go.Sem renaming run_bind->kD
open Go.Value renaming cells->yu,int->mu,okWide->AQ,slice->pr
open Go.World renaming block_lt_of_cell?->I8
open Int renaming eq_ofNat_of_zero_le->sD,toNat_natCast->sG
open List renaming all_cons->ml,all_eq_true->iA,eq_nil_of_length_eq_zero->yl,eq_of_mem_replicate->ym,ext_getElem?->rv,flatten_cons->yn,getElem?_append->AB,getElem?_append_left->kS,getElem?_append_right->kT,getElem?_eq_getElem->mm,getElem?_eq_some_iff->fq,getElem?_map->sH,getElem?_set->ll,length_append->sI,length_replicate->IL,length_set->sJ,map_cons->rA,mem_map->l2,mem_of_getElem?->mM,range->mN,replicate->gb,replicate_succ->YZ
open Nat renaming add_assoc->sK,add_mul->ko,beq->fi,ble->iJ,blt->mn,le_of_ble_eq_true->pk,le_refl->e4,le_trans->jd,lt_of_lt_of_le->hS,mul_le_mul->IT,mul_le_mul_right->oH,succ_mul->IU,zero_add->lH,zero_le->pn
open Option renaming bind->ab,getD_some->IV,isSome->Y2,none->ae,some->J
open True renaming intro->fs
open UInt8 renaming ofNat->AO
section
namespace Go.aF
def uf:Nat:=4294967296
def cD {a:Type} (c b:List a):Option (List a):=if c.length+b.length<=uf then J (c++b) else ae
def tv {c:Type} {b a r:List c} (h:cD b a=J r):b.length+a.length<=uf/\r=b++a:=by
 grind [cD]
def hy {a:Type} (x:a) (n:Int):Option (List a):=if 0<=n/\n<=4294967296 then J (gb n.toNat x) else ae
def B3 {a:Type} {x:a} {n:Int} {r:List a} (h:hy x n=J r):0<=n/\n<=4294967296/\r=gb n.toNat x:=by
 grind [hy]
def gW (n:Int):Option UInt8:=if 0<=n/\n<256 then J (AO n.toNat) else ae
def acM {n:Int} {u:UInt8} (h:gW n=J u):n=u.toNat:=by
 unfold gW at h;split at h
 ·rename_i a;cases h;simp;omega
 grind
def sU (a b:Int):Option Int:=if b=0 then ae else J (a.tdiv b)
def px (a b:Int):Option Int:=if b=0 then ae else J (a.tmod b)
def aq0 {a b r:Int} (h:sU a b=J r):b≠0/\r=a.tdiv b:=by
 grind [sU]
def acD {a b r:Int} (h:px a b=J r):b≠0/\r=a.tmod b:=by
 grind [px]
def lt {a b:Type} (x:a) (f:a->Option b):Option b:=f x
def adC {a b:Type} {x:a} {f:a->Option b} {r:b} (h:lt x f=J r):∃y,x=y/\f y=J r:=⟨x,rfl,h⟩
def bind_some {a b:Type} {x:Option a} {f:a->Option b} {r:b} (h:x.bind f=J r):∃y,x=J y/\f y=J r:=Option.bind_eq_some_iff.1 h
def kE (t:bV):cM UInt8:=cM.flat t (λu=> .int .u8 u.toNat) λ_=>rfl
section
variable {P:bI} {C:FuncId->Array af->Mem->af->Mem->Prop} {ap:bS->af} {o:Oper} {aK:Type} {T:cM aK} {z:Nat->bW} {m:Mem} {xs b4:List aK} {v w:af} {x y:bS} {t e u:bV} {i:TypeInfo} {d:TypeDesc}
def Src (T:cM aK) (z:Nat->bW) (m:Mem) (a:List aK) (w:af):Prop:=ja w=a.length/\∃b,kt m T.bM w=J b/\b.length=a.length*T.bM/\∀(i:Nat) (y:aK),a[i]? =J y->∃c,T.rd z y c/\ql b (i*T.bM) c
def ad4 {m:Mem} {b:Nat}:∀(n a:Nat) (f:Nat->af),(∀i,i<n->m.load b (a+i)=J (f i))->kd m b a n=J ((mN n).map f)
 |0,a,f,_=>rfl
 |n+1,a,f,h=>by
  have e:=h 0 (by omega);have c:=ad4 n (a+1) (λi=>f (i+1)) λi d=>by rw[show a+1+i=a+(i+1) by omega];exact h (i+1) (by omega)
  simp_all [kd,List.range_succ_eq_map]
def Xv {b a c:Nat} (h:∀(i:Nat) (y:aK),b4[i]? =J y->∃d,T.rd z y d/\∀(k:Nat) (u:af),d[k]? =J u->m.load b (a+i*T.bM+k)=J u):Src T z m b4 (.slice (J ⟨b,a,ae⟩) b4.length c):=by
 have q:∀k,k<b4.length*T.bM->∃u,m.load b (a+k)=J u:=by
  intro k j;have w:0<T.bM:=by
   grind
  have t:k / T.bM<b4.length:=Nat.div_lt_of_lt_mul (by grind);obtain ⟨d,e,n⟩:=h (k / T.bM) b4[k / T.bM] (by grind);have o:=T.len z _ d e;have p:k%T.bM<d.length:=by simp_all [Nat.mod_lt]
  refine ⟨d[k%T.bM], ?_⟩;have:=n (k%T.bM) _ (mm p)
  grind [Nat.div_add_mod]
 let f:Nat->af:=λk=>(m.load b (a+k)).getD undef
 have r:∀k,k<b4.length*T.bM->m.load b (a+k)=J (f k):=λk j=>by
  grind
 refine ⟨rfl,(mN (b4.length*T.bM)).map f,ad4 _ _ _ r,by simp,λi y l=> ?_⟩;obtain ⟨d,e,n⟩:=h i y l;refine ⟨d,e,λk u j=> ?_⟩;have s:=(fq.1 j).1;rw[T.len z y d e] at s;have g:=(fq.1 l).1;have v:i*T.bM+k<b4.length*T.bM:=by
  have:(i+1)*T.bM<=b4.length*T.bM:=oH _ g
  grind
 grind
def fA.src (h:fA T z b4 w) (e:lk z m):Src T z m b4 w:=by
 rcases h with ⟨rfl,rfl⟩|⟨b,n,c,rfl,_,_,d⟩
 ·exact ⟨rfl,[],rfl,by simp,λi y a=>by grind⟩
 ·exact Xv λi y a=>by obtain ⟨f,g,j⟩:=d i y a;exact ⟨f,g,λk u l=>KO e (j k u l)⟩
def fO.src (h:fO T z m b4 w):Src T z m b4 w:=by
 rcases h with ⟨rfl,rfl⟩|⟨b,n,L,c,rfl,d,_,_,_,_,e⟩
 ·exact ⟨rfl,[],rfl,by simp,λi y a=>by grind⟩
 ·exact Xv λi y a=>by obtain ⟨f,g,j⟩:=e i y a;exact ⟨f,g,λk u l=>by simp only[Mem.load,d];exact j k u l⟩
def asP {a:bV} (s:List UInt8):Src (kE a) z m s (str s):=by
 refine ⟨by rfl,s.map λu=> .int .u8 u.toNat,by rfl,by simp[kE,cM.flat],λi y b=> ?_⟩;refine ⟨[.int .u8 y.toNat],rfl,λk u c=> ?_⟩
 grind [kE,cM.flat]
def gl.kill {b:Nat} {X:bW} (f:∀b,m.next<=b->m.blk b= .dead) (d:b<m.next):gl m ((m.put b .dead).push X) (J b):=by
 have g:=zm (m:=m) (x:= .dead) f d;refine ⟨Nat.le_succ _,λc a=> ?_,λc a h=> ?_⟩
 ·have e:((m.put b .dead).push X).blk c=if c=m.next then X else (if c=b then .dead else m.blk c):=rfl
  have a:m.next+1<=c:=a
  grind
 ·have e:((m.put b .dead).push X).blk c=if c=m.next then X else (if c=b then .dead else m.blk c):=rfl
  grind
def adb {d:List af} (h:o.op= .call {callee:= .builtin .append,args:=#[x,y],argTypes:=#[t,u]}) (p:P.underlying t=J (.slice T.tid)) (w:P.info? T.tid=J i) {n:af} (hL:i.zero=J n) (Z:n.cells.toList.all dy=aa) (et:n.cells.size=i.size)
  (X:i.size=T.bM) (hh:0<T.bM) (UZ:(xs.length+b4.length)*i.bytes<=140737488355328) (nD:xs.length+b4.length<=140737488355328) (j:ap x=v) (bf:fO T z m xs v) (D:sA P m u i (ap y) b4.length d) (kK:d.length=b4.length*T.bM) (e0:∀(i:Nat) (y:aK),b4[i]? =J y->∃c,T.rd z y c/\ql d (i*T.bM) c)
  (I:lk z m) (A:∀b,m.next<=b->m.blk b= .dead):
  ∃Y m',hR P C ap o m Y m'/\fO T z m' (xs++b4) Y/\gl m m' (da v)/\∀b,da Y=J b->da v=J b\/m.next<=b:=by
 have r:=UZ;have s:xs.length+b4.length<9223372036854775807:=by omega
 have M:d.length=b4.length*i.size:=by grind
 have qS:z m.next= .dead:=by
  cases wC:z m.next with
  |dead=>rfl
  |ro rd=>have:=(I m.next (by grind)).2;omega
  |own L t=>have:=(I m.next (by grind)).2;omega
  |map L t=>have:=(I m.next (by grind)).2;omega
  |lock _ _ _ _=>have:=(I m.next (by grind)).2;omega
 have F:∀(E:List af),E.length=xs.length*T.bM->(∀(i:Nat) (x:aK),xs[i]? =J x->∃c,T.rd z x c/\ql E (i*T.bM) c)->
   ∀(i:Nat) (x:aK),(xs++b4)[i]? =J x->∃c,T.rd z x c/\ql (E++d) (i*T.bM) c:=by
  intro E nF aM i a f;rw[AB] at f;split at f
  ·rename_i K;obtain ⟨c,g,l⟩:=aM i a f;refine ⟨c,g,λk q hk=> ?_⟩;have:=l k q hk
   grind
  ·rename_i hA;obtain ⟨c,g,l⟩:=e0 _ a f;refine ⟨c,g,λk q hk=> ?_⟩;have:=l k q hk;have h1:i*T.bM=E.length+(i - xs.length)*T.bM:=by
    rw[nF,<-ko];grind
   grind
 rcases bf with ⟨rfl,rfl⟩|⟨b,e,L,c,rfl,G,K,VH,aR,kJ,V⟩
 ·by_cases Bz:b4.length=0
  ·have O:d=[]:=yl (by grind);have U:b4=[]:=yl Bz;subst U;subst O;refine ⟨ap x,m, .vZ x y t u T.tid i ae 0 0 h p w j (by simp[dc]) (e4 _) D, ?_,⟨e4 _,A,λ_ _ _=>rfl⟩, ?_⟩
   ·rw[j];exact .inl ⟨rfl,rfl⟩
   grind
  ·refine ⟨_,_, .sP x y t u T.tid i n ae 0 0 b4.length [] d h p w hL Z et (by grind) j (by omega) (by rw[j];rfl) (by simp) D M (by grind) (by grind), ?_,BN A, ?_⟩
   ·refine .inr ⟨m.next,0,d,dc,by simp,by simp[Mem.push],by simp[Mem.push],qS,by grind, .inl rfl, ?_⟩
    grind
   ·intro b G;cases G;grind
 ·have W:∀(i:Nat) (x:aK),xs[i]? =J x->∃c,T.rd z x c/\ql ((L.drop e).take (xs.length*T.bM)) (i*T.bM) c:=by
   intro k a f;obtain ⟨c,g,l⟩:=V k a f;refine ⟨c,g,λq ka H=> ?_⟩;have yV:=(fq.1 H).1;rw[T.len z a c g] at yV;have uV:=(fq.1 f).1;have:(k+1)*T.bM<=xs.length*T.bM:=oH _ uV;rw[ko,Nat.one_mul] at this;rw[List.getElem?_take,if_pos (by omega),List.getElem?_drop,<-sK];exact l q ka H
  have uZ:((L.drop e).take (xs.length*T.bM)).length=xs.length*T.bM:=by grind
  rcases kJ with rfl|⟨R,axP,S⟩
  ·refine ⟨_,_, .append x y t u T.tid i n b e xs.length b4.length L d h p w hL Z et (by grind) j G (by grind) D M r s, ?_,gl.kill A K, ?_⟩
   ·refine .inr ⟨m.next,0,(L.drop e).take (xs.length*T.bM)++d,dc,by simp,by grind [Mem.push,Mem.put],by simp[Mem.push,Mem.put],qS, ?_, .inl rfl, ?_⟩
    ·grind [ko]
    grind
   ·intro dJ B;cases B;grind
  ·by_cases uT:xs.length+b4.length<=c
   ·have JG:e+(xs.length+b4.length)*i.size<=L.length:=by
     rw[X];exact jd (Nat.add_le_add_left (oH _ uT) _) S
    refine ⟨_,_, .vY x y t u T.tid i b e xs.length c b4.length L d h p w j (by grind) uT G D M JG, ?_,zm A K,λdJ B=> .inl B⟩;have JX:(eY L (e+xs.length*i.size) d).length=L.length:=mB _ _ _;refine .inr ⟨b,e,eY L (e+xs.length*i.size) d,c,by simp,by simp[Mem.put],K,VH, ?_, .inr ⟨R, ?_, ?_⟩, ?_⟩
    ·simp_all
    ·grind
    ·grind
    ·intro k a f;obtain ⟨c3,g,l⟩:=F _ uZ W k a f;refine ⟨c3,g,λq ka H=> ?_⟩;have:=l q ka H;have N:=(fq.1 this).1;rw[sI,uZ,kK] at N;rw[X,ko] at JG;rw[X,o5 _ _ _ _ (by grind)];rw[AB,uZ] at this;split at this
     ·grind
     ·rw[if_pos (by omega),show e+k*T.bM+q - (e+xs.length*T.bM)=k*T.bM+q - xs.length*T.bM by omega]
      grind
   ·have Q:kt m i.size (ap x)=J ((L.drop e).take (xs.length*T.bM)):=by
     grind [kt,Cc,Mem.load]
    refine ⟨_,_, .sP x y t u T.tid i n _ xs.length c b4.length ((L.drop e).take (xs.length*T.bM)) d h p w hL Z et (by grind) j (by omega) Q (by grind) D M r s, ?_, ?_, ?_⟩
    ·refine .inr ⟨m.next,0,(L.drop e).take (xs.length*T.bM)++d,dc,by simp,by simp[Mem.push],by simp[Mem.push],qS, ?_, .inl rfl,by grind⟩
     grind [ko]
    ·have:=BN (m:=m) (x:= .own ((L.drop e).take (xs.length*T.bM)++d) T.tid) A;exact ⟨this.next,this.dead,λc ay _=>this.blk c ay (by simp)⟩
    ·intro dJ B;cases B;grind
def arU (h:o.op= .call {callee:= .builtin .append,args:=#[x,y],argTypes:=#[t,u]}) (g:P.underlying t=J (.slice T.tid)) (k:P.info? T.tid=J i) {a:af} (D:i.zero=J a) (s:a.cells.toList.all dy=aa) (B:a.cells.size=i.size)
  (q:i.size=T.bM) (E:0<T.bM) (f:(xs.length+b4.length)*i.bytes<=140737488355328) (I:xs.length+b4.length<=140737488355328) (F:(∃r,P.underlying u=J (.slice r))\/P.underlying u=J .string) (j:ap x=v) (l:fO T z m xs v) (K:ap y=w) (H:Src T z m b4 w)
  (p:lk z m) (n:∀b,m.next<=b->m.blk b= .dead):
  ∃c d,hR P C ap o m c d/\fO T z d (xs++b4) c/\gl m d (da v)/\∀b,da c=J b->da v=J b\/m.next<=b:=by
 obtain ⟨e,L,M,G,A⟩:=H;exact adb h g k D s B q E f I j l (.el F (by grind) (by grind)) G A p n
def avo {f:aK} {b:af} (g:T.rd z f b.cells.toList) (c:Nat):(gb c b.cells.toList).flatten.length=(gb c f).length*T.bM/\
  ∀(i:Nat) (y:aK),(gb c f)[i]? =J y->∃d,T.rd z y d/\ql (gb c b.cells.toList).flatten (i*T.bM) d:=by
 have e:b.cells.toList.length=T.bM:=T.len z f _ g;refine ⟨by simp_all,λj a k=> ?_⟩;have m:=(fq.1 k).1;have h:a=f:=by grind
 subst h;refine ⟨_,g,λq u l=> ?_⟩;have o:=(fq.1 l).1;rw[e] at o;have n:∀(c j:Nat),j<c->((gb c b.cells.toList).flatten)[j*T.bM+q]? =b.cells.toList[q]? :=by
  intro c;induction c with
  |zero=>grind
  |succ c p=>
   intro j m;rw[YZ,yn];cases j with
   |zero=>grind
   |succ j=>
    grind
 grind
def arV {p:aK} {kk k:aG} {c:Nat} (h:o.op= .call {callee:= .builtin .append,args:=#[x,y],argTypes:=#[t,u]}) (q:P.underlying t=J (.slice T.tid)) (A:P.info? T.tid=J i) {a:af} (j:i.zero=J a) (f:a.cells.toList.all dy=aa) (g:a.cells.size=i.size)
  (F:i.size=T.bM) (K:0<T.bM) (l:i.bytes<=32768) (L:P.underlying u=J (.int kk)) (w:ap x=v) (B:fO T z m xs v) (M:ap y= .int k c) (G:T.rd z p a.cells.toList)
  (E:lk z m) (D:∀b,m.next<=b->m.blk b= .dead) {r:List aK} (s:cD xs (gb c p)=J r):
  ∃d e,hR P C ap o m d e/\fO T z e r d/\gl m e (da v)/\∀b,da d=J b->da v=J b\/m.next<=b:=by
 obtain ⟨n,rfl⟩:=tv s;simp only[uf,IL] at n;have O:(xs.length+c)*i.bytes<=4294967296*32768:=IT n l;have N:c*i.bytes<=4294967296*32768:=IT (by omega) l;obtain ⟨H,I⟩:=avo (T:=T) (z:=z) G c;exact adb h q A j f g F K (by grind) (by grind) w B
  (.mk kk k a L (by grind) j f g (by omega) (by grind) (by grind) (by grind)) H I E D
def asg (h:o.op= .call {callee:= .builtin .append,args:=#[x,y],argTypes:=#[t,u]}) (f:P.underlying t=J (.slice T.tid)) (l:P.info? T.tid=J i) {a:af} (E:i.zero=J a) (B:a.cells.toList.all dy=aa) (D:a.cells.size=i.size)
  (s:i.size=T.bM) (F:0<T.bM) (G:i.bytes<=32768) (H:(∃A,P.underlying u=J (.slice A))\/P.underlying u=J .string) (k:ap x=v) (n:fO T z m xs v) (j:ap y=w) (I:Src T z m b4 w)
  (q:lk z m) (p:∀b,m.next<=b->m.blk b= .dead) {r:List aK} (g:cD xs b4=J r):
  ∃c d,hR P C ap o m c d/\fO T z d r c/\gl m d (da v)/\∀b,da c=J b->da v=J b\/m.next<=b:=by
 obtain ⟨e,rfl⟩:=tv g;simp only[uf] at e;have:(xs.length+b4.length)*i.bytes<=4294967296*32768:=IT e G;exact arU h f l E B D s F (by omega) (by omega) H k n j I q p
def avp {f:aK} {k g:aG} {n n':Int} (h:o.op= .makeSlice t x y) (p:P.underlying t=J (.slice T.tid)) (B:P.info? T.tid=J i) {b:af} (K:i.zero=J b) (G:b.cells.toList.all dy=aa) (I:b.cells.size=i.size) (S:i.size=T.bM) (M:i.bytes<=32768)
  (H:T.rd z f b.cells.toList) (A:ap x= .int k n) (w:ap y= .int g n) (e:lk z m) {r:List aK} (s:hy f n=J r):
  ∃L v,jC P ap o m.next (.own L T.tid) v/\fO T z (m.push (.own L T.tid)) r v/\da v=J m.next:=by
 obtain ⟨C,U,rfl⟩:=B3 s;obtain ⟨c,rfl⟩:=sD C;have O:z m.next= .dead:=by
  cases W:z m.next with
  |dead=>rfl
  |ro V=>have:=(e m.next (by grind)).2;omega
  |own L t=>have:=(e m.next (by grind)).2;omega
  |map L t=>have:=(e m.next (by grind)).2;omega
  |lock _ _ _ _=>have:=(e m.next (by grind)).2;omega
 have d:b.cells.toList.length=T.bM:=by grind
 have X:(gb c b.cells.toList).flatten.length=c*T.bM:=by simp_all
 refine ⟨_,_, .makeSlice t x y c c k g T.tid i b h p B K G I A w (e4 _) ?_ (by omega), ?_,rfl⟩
 ·have:i.bytes*c<=32768*4294967296:=IT M (by omega);omega
 ·simp only[sG];refine fO.AW ⟨m.next,(gb c b.cells.toList).flatten,c,by simp,by simp[Mem.push],by simp[Mem.push],O,by grind, .inr ⟨by grind [dc],by simp,by grind⟩,λj a D=> ?_⟩;have F:=(fq.1 D).1;have l:a=f:=by grind
  subst l;refine ⟨_,H,λq u E=> ?_⟩;have Q:=(fq.1 E).1;rw[d] at Q;have N:∀(c j:Nat),j<c->((gb c b.cells.toList).flatten)[j*T.bM+q]? =b.cells.toList[q]? :=by
   intro c;induction c with
   |zero=>grind
   |succ c R=>
    intro j F;rw[YZ,yn];cases j with
    |zero=>grind
    |succ j=>
     grind
  grind
def wZ (T:cM aK) (z:Nat->bW) (b:bS->af):List (Nat×bS)->Nat->List aK->List (List af)->Prop|[],_,[],[]=>True|(k,x)::d,n,a::f,c::e=>k=n/\storable (b x)=aa/\(b x).cells.toList=c/\T.rd z a c/\wZ T z b d (n+1) f e|_,_,_,_=>False
def adt:∀(new A B D:List af),new.length=B.length->eY (A++B++D) A.length new=A++new++D
 |[],A,B,D,h=>by grind [eY]
 |v::new,A,b::B,D,h=>by
  have e:(A++(b::B)++D).set A.length v=(A++[v])++B++D:=by simp
  simp only[eY,e];have:=adt new (A++[v]) B D (by grind)
  grind
 |_::_,A,[],D,h=>by grind
theorem ab4:∀(d:List (Nat×bS)) (n:Nat) (e:List aK) (f:List (List af)) (A D:List af),wZ T z ap d n e f->A.length=n*T.bM->D.length=e.length*T.bM->
  k5 (λk=>J (k*T.bM,T.bM)) (A++D) (d.map λp=>(p.1,ap p.2))=J (A++f.flatten)
 |[],n,[],[],A,D,_,_,b=>by simp_all [k5]
 |(k,x)::d,n,a::e,c::f,A,D,h,o,b=>by
  obtain ⟨rfl,q,j,i,l⟩:=h;have r:=T.len z a c i;have m:(ap x).cells.size=T.bM:=by grind
  simp only[List.length_cons,ko,Nat.one_mul] at b;simp only[rA,k5,q,m,true_and,sI];rw[if_pos (by omega),j,<-o];have g:A++D=A++D.take T.bM++D.drop T.bM:=by simp_all
  rw[g,adt c A (D.take T.bM) (D.drop T.bM) (by grind)];rw[ab4 d (k+1) e f (A++c) (D.drop T.bM) l (by grind) (by grind)];simp
 |[],_,_::_,_,_,_,h,_,_=>h.elim
 |[],_,[],_::_,_,_,h,_,_=>h.elim
 |_::_,_,[],_,_,_,h,_,_=>h.elim
 |_::_,_,_::_,[],_,_,h,_,_=>h.elim
def acQ:∀(f:List (Nat×bS)) (n:Nat) (d:List aK) (e:List (List af)),wZ T z ap f n d e->e.flatten.length=d.length*T.bM/\∀(i:Nat) (a:aK),d[i]? =J a->∃c,T.rd z a c/\ql e.flatten (i*T.bM) c
 |[],n,[],[],_=>⟨by simp,λi a w=>by grind⟩
 |(k,x)::f,n,a::d,c::e,h=>by
  obtain ⟨rfl,A,v,g,o⟩:=h;have m:=T.len z a c g;obtain ⟨y,t⟩:=acQ f (k+1) d e o;refine ⟨by grind,λi b j=> ?_⟩;cases i with
  |zero=>
   simp at j;subst j;refine ⟨c,g,λq u l=> ?_⟩
   grind
  |succ i=>obtain ⟨p,s,r⟩:=t i b (by grind);refine ⟨p,s,λq u l=> ?_⟩;rw[yn,ko,Nat.one_mul,kT (by omega),m,show i*T.bM+T.bM+q - T.bM=i*T.bM+q by omega];exact r q u l
 |[],_,_::_,_,h=>h.elim
 |[],_,[],_::_,h=>h.elim
 |_::_,_,[],_,h=>h.elim
 |_::_,_,_::_,[],h=>h.elim
def atm {b:Array (Nat×bS)} {l:Nat} {c:List aK} {d:List (List af)} (h:o.op= .buildSlice t l b) (g:P.underlying t=J (.slice T.tid)) (j:P.info? T.tid=J i) {a:af} (q:i.zero=J a) (k:a.cells.toList.all dy=aa) (n:a.cells.size=i.size) (x:i.size=T.bM)
  (u:c.length=l) (B:l*T.bM<=16777216) (s:l<9223372036854775808) (f:wZ T z ap b.toList 0 c d) (e:lk z m):
  ∃L v,jC P ap o m.next (.own L T.tid) v/\fO T z (m.push (.own L T.tid)) c v/\da v=J m.next:=by
 have r:z m.next= .dead:=by
  cases C:z m.next with
  |dead=>rfl
  |ro A=>have:=(e m.next (by grind)).2;omega
  |own L t=>have:=(e m.next (by grind)).2;omega
  |map L t=>have:=(e m.next (by grind)).2;omega
  |lock _ _ _ _=>have:=(e m.next (by grind)).2;omega
 have w:=ab4 b.toList 0 c d [] (gb l a.cells.toList).flatten f (by simp) (by simp_all);obtain ⟨y,p⟩:=acQ b.toList 0 c d f;refine ⟨d.flatten,_, .buildSlice t l b T.tid i a _ h g j q k n (by grind) s (by grind), ?_,rfl⟩;exact fO.AW ⟨m.next,d.flatten,l,by grind,by simp[Mem.push],by simp[Mem.push],r,by grind, .inr ⟨by grind [dc],by omega,by grind⟩,p⟩
def atn {s:List UInt8} {b:bV} (h:o.op= .convert u t x) (j:P.underlying u=J .string) (d:P.underlying t=J (.slice b)) (g:P.underlying b=J (.int .u8)) (f:P.info? b=J i) (l:i.size=1) (e:ap x=str s) (p:s.length<9223372036854775807) (c:lk z m):
  ∃L v,jC P ap o m.next (.own L b) v/\fO (kE b) z (m.push (.own L b)) s v/\da v=J m.next:=by
 have n:z m.next= .dead:=by
  cases B:z m.next with
  |dead=>rfl
  |ro A=>have:=(c m.next (by grind)).2;omega
  |own L t=>have:=(c m.next (by grind)).2;omega
  |map L t=>have:=(c m.next (by grind)).2;omega
  |lock _ _ _ _=>have:=(c m.next (by grind)).2;omega
 refine ⟨_,_, .bytes u t x b i ⟨s.toArray⟩ h j d g f l e (by grind [BV]), ?_,rfl⟩;refine fO.AW ⟨m.next,s.map λu=> .int .u8 u.toNat,dc,by rfl,by simp[Mem.push,kE,cM.flat],by simp[Mem.push],n,by simp[kE,cM.flat], .inl rfl,λk a r=>⟨[.int .u8 a.toNat],rfl,λq w y=> ?_⟩⟩
 grind [kE,cM.flat]
def afk {s:List UInt8} {d:bV} (h:o.op= .convert t u x) (j:P.underlying t=J (.slice d)) (r:P.underlying d=J (.int .u8)) (w:P.underlying u=J .string) (p:ap x=v) (A:Src (kE d) z m s v) (y:∃a l c,v= .slice a l c):fH P ap o m (str s):=by
 obtain ⟨a,l,c,rfl⟩:=y;obtain ⟨n,C,g,H,D⟩:=A;have F:C=s.map λu=> .int .u8 u.toNat:=by
  apply rv;intro k;by_cases G:k<s.length
  ·obtain ⟨B,f,E⟩:=D k s[k] (by grind);have f:B=[.int .u8 s[k].toNat]:=f;subst f;have:=E 0 _ rfl
   grind [kE,cM.flat]
  grind [kE,cM.flat]
 subst F;simp only[ja] at n;subst n;cases a with
 |none=>
  simp only[kt,Option.some.injEq] at g;have:s=[]:=by grind
  subst this;exact .zQ t u x d _ c h j r w p
 |some a=>
  obtain ⟨b,i,e⟩:=a;cases e with
  |some q=>grind [kt]
  |none=>simp only[kt,kE,cM.flat,Nat.mul_one] at g;exact .str t u x d b i _ c s h j r w p g
end
def looks:Op->Bool| .load .. | .convert .. | .slice .. | .lookup .. =>aa|_=>ak
def sg:Op->Bool| .alloc _| .box .. | .buildSlice .. | .makeSlice .. | .convert .. | .makeMap .. =>aa|_=>ak
def calm (a:Array Oper):Bool:=
 (mN a.size).all λe=>match a[e]? with
  |none=>aa
  |some b=> !lT b.op||(mN a.size).all λr=>match a[r]? with
   |none=>aa
   |some or=>(!(looks or.op)||(if r<e then gD (kp a) e r else if e<r then gD (kp a) r e else aa))&&(!(sg or.op)||(if r<e then gD (kp a) e r else aa))
theorem Ks {P:bI} {a:bS->af} {o:Oper} {m:Mem} {v:af} (h:fH P a o m v):looks o.op=aa:=by
 cases h<;>simp[*,looks]
theorem BK {P:bI} {a:bS->af} {o:Oper} {n:Nat} {X:bW} {v:af} (h:jC P a o n X v):sg o.op=aa:=by
 cases h<;>simp[*,sg]
theorem acS {a:Array Oper} (h:calm a=aa) {e r:Nat} {b or:Oper} (g:a[e]? =J b) (d:a[r]? =J or) (f:lT b.op=aa) (c:looks or.op=aa):(r<e->gD (kp a) e r=aa)/\(e<r->gD (kp a) r e=aa):=by
 grind [calm]
theorem aqV {a:Array Oper} (h:calm a=aa) {e r:Nat} {b or:Oper} (i:a[e]? =J b) (d:a[r]? =J or) (f:lT b.op=aa) (c:sg or.op=aa) (g:r<e):gD (kp a) e r=aa:=by
 grind [calm]
def ace {P:bI} {C:FuncId->Array af->Mem->af->Mem->Prop} {b:Array Oper} (u:calm b=aa):∀(l a:List Oper) (A:Acc) (c f:Nat->af) (m i:Mem),b.toList=a++l->
  (∀x∈A.reads,∃o,b[x.1]? =J o/\looks o.op=aa/\x.1<a.length)->(∀x∈A.iC,∃o,b[x.1]? =J o/\lT o.op=aa/\x.1<a.length)->(∀x∈A.news,∃o,b[x.1]? =J o/\sg o.op=aa/\x.1<a.length)->
  k6 P C b.toList l c m f i->hW P C b.toList (kp b) a.length l A c m f i
 |[],a,A,c,f,m,i,n,q,t,j,h=>h
 |o::l,a,A,c,f,m,i,n,q,t,j,h=>by
  have F:b[a.length]? =J o:=by rw[<-Array.getElem?_toList,n];simp
  have E:b.toList=(a++[o])++l:=by grind
  have g:(a++[o]).length=a.length+1:=by simp
  have r:∀{z:Type} {p:Oper->Bool} {L:List (Nat×z)},(∀x∈L,∃o,b[x.1]? =J o/\p o=aa/\x.1<a.length)->∀x∈L,∃o,b[x.1]? =J o/\p o=aa/\x.1<a.length+1:=λG x k=>by
   grind
  have d:=λ(A:Acc) (c:Nat->af) (m:Mem)=>ace (P:=P) (C:=C) u l (a++[o]) A c f m i E;rw[g] at d;simp only[k6] at h;simp only[hW];split at h
  ·rename_i B;rw[if_pos B];obtain ⟨v,D,w,s⟩:=h;cases w with
   |pure e=>grind
   |read e=>
    grind [Ks,acS]
   |new e=>
    grind [BK]
   |fX e=>
    have H:=Wt e;refine .inr (.inr (.inr ⟨v,D,e,λx k y=> ?_,λx k y=> ?_,d _ _ _ (r (p:=λo=>looks o.op) q) ?_ (r (p:=λo=>sg o.op) j) s⟩))
    ·grind [acS]
    ·grind [aqV]
    grind
  grind
theorem W.calm {P:bI} {i:Nat} {a:Array Oper} {Q:fG->(Nat->af)->Mem->Prop} {b:Nat->af} {m:Mem} (f:aF.calm a=aa) (h:ea P a.toList a.toList (Q .normal) b m):W P (.region i a aa) Q b m:=by
 obtain ⟨n,c,d,g,e⟩:=h;refine W.draw ⟨n,c,d, ?_,e⟩;have:=ace (P:=P) (C:=jn P n) f a.toList [] ⟨[],[],[]⟩ b c m d (by rfl) (by simp) (by simp) (by simp) g
 grind
end Go.aF
end
section
namespace Go.aF
def sub:Code->List Nat->Code|c,[]=>c| .seq a b,0::p=>sub a p| .seq a b,_::p=>sub b p| .cond _ a b,0::p=>sub a p| .cond _ a b,_::p=>sub b p| .block _ c,_::p=>sub c p| .scope c,_::p=>sub c p| .loop c,_::p=>sub c p|c,_=>c
def en (f:Func):Code:=f.body.getD .skip
theorem Lq {a:Nat->af} {d:Option Tmp} {v:af} {i:Nat} (h:d≠J i):set a d v i=a i:=by
 cases d with
 |none=>rfl
 |some t=>grind [set]
def Wp {P:bI} {C:FuncId->Array af->Mem->af->Mem->Prop} {d:List Oper} {i:Nat}:∀(l:List Oper) (b a:Nat->af) (m c:Mem),(∀o∈l,o.dst≠J i)->k6 P C d l b m a c->a i=b i
 |[],b,a,m,c,_,h=>by rw[h.1]
 |o::l,b,a,m,c,f,h=>by
  have e:∀o∈l,o.dst≠J i:=λo g=>f o (by grind);simp only[k6] at h;split at h
  ·obtain ⟨v,j,_,h⟩:=h;rw[Wp l _ _ _ _ e h];grind [Lq]
  ·rw[Wp l _ _ _ _ e h];grind [Lq]
def Wa {P:bI} {C:FuncId->Array af->Mem->af->Mem->Prop} {d:List Oper} {B:Array Nat} {i:Nat}:∀(l:List Oper) (n:Nat) (A:Acc) (b a:Nat->af) (m c:Mem),(∀o∈l,o.dst≠J i)->hW P C d B n l A b m a c->a i=b i
 |[],n,A,b,a,m,c,_,h=>by rw[h.1]
 |o::l,n,A,b,a,m,c,e,h=>by
  have f:∀o∈l,o.dst≠J i:=λo g=>e o (by grind);have j:=e o (by simp);simp only[hW] at h;split at h
  ·rcases h with ⟨v,_,h⟩|⟨v,_,_,h⟩|⟨X,v,_,h⟩|⟨v,k,_,_,_,h⟩<;>(rw[Wa l _ _ _ _ _ _ f h];grind [Lq])
  ·rw[Wa l _ _ _ _ _ _ f h];grind [Lq]
def adT {a:Array Oper} {i:Nat} (h:(Uh a).contains i=ak):∀o∈a.toList,o.dst≠J i:=by
 grind [Uh]
def abW {a b:List Nat} {i:Nat} (h:(a++b).contains i=ak):a.contains i=ak/\b.contains i=ak:=by
 grind
def aqr {P:bI} {C:FuncId->Array af->Mem->af->Mem->Prop} {i:Nat}:∀(n:Nat) (c:Code) (o k:Nat->af) (m q:Mem) (e:fG),(q6 c).contains i=ak->lS P C n c o m e k q->k i=o i:=by
 intro n;induction n with
 |zero=>intro c o k m q e _ h;exact h.elim
 |succ n p=>
  intro c o k m q e j h;cases c with
  |skip=>rw[h.2.1]
  |label l=>rw[h.2.1]
  |exit v=>rw[h.2.1]
  |ret=>rw[h.2.1]
  |region v E d=>
   cases d with
   |false=>exact Wp _ _ _ _ _ (adT j) h.2
   |true=>exact Wa _ _ _ _ _ _ _ (adT j) h.2
  |seq a b=>
   rcases h with ⟨r,z,D,u,A⟩|h
   rotate_left
   ·exact h.2.keep _ j
   obtain ⟨B,w⟩:=abW j
   grind
  |cond c a b=>
   obtain ⟨B,w⟩:=abW j;obtain ⟨t,_,g⟩:=h
   grind
  |block v c=>obtain ⟨r,g,_⟩:=h;exact p c _ _ _ _ _ j g
  |scope c=>exact p c _ _ _ _ _ j h
  |loop c=>
   obtain ⟨r,z,D,u,A⟩:=h;have F:=p c _ _ _ _ _ j u
   grind
  |rangeFunc f G x y=>exact h.elim
  |goto l=>exact h.elim
  |refuse s=>exact h.elim
section
variable {P:bI} {Q AH:fG->(Nat->af)->Mem->Prop} {fr:Nat->af} {m:Mem}
def W.keep {c:Code} (h:W P c Q fr m) (j:∀e a b,(∀i,(q6 c).contains i=ak->a i=fr i)->Q e a b->AH e a b):W P c AH fr m:=
 let ⟨n,e,a,b,d,f⟩:=h
 ⟨n,e,a,b,d,j _ _ _ (λ_ g=>aqr _ _ _ _ _ _ _ g d) f⟩
def W.amu {c:bS} {a b:Code} {t:Bool} (d:bk fr c= .bool t) (e:t=aa) (h:W P a Q fr m):W P (.cond c a b) Q fr m:=W.cond (t:=aa) (by rw[d,e]) h
def W.Z0 {c:bS} {a b:Code} {t:Bool} (d:bk fr c= .bool t) (e:t=ak) (h:W P b Q fr m):W P (.cond c a b) Q fr m:=W.cond (t:=ak) (by rw[d,e]) h
def pZ.rS {i:Nat} (h:Q .normal fr m):pZ i Q (.exit i) fr m:=by grind [pZ]
def pZ.qZ {i j:Nat} (a:(j==i)=ak) (h:Q (.exit j) fr m):pZ i Q (.exit j) fr m:=by
 grind [pZ]
def ea.mono {a l:List Oper} {K b:(Nat->af)->Mem->Prop} (h:ea P a l K fr m) (f:∀fr m,K fr m->b fr m):ea P a l b fr m:=
 let ⟨n,d,g,e,c⟩:=h;⟨n,d,g,e,f _ _ c⟩
theorem mr.of {o:Oper} {b:bS->af} {R:af->Mem->Prop} {v:af} {a:Mem} {n:Nat} (h:ln P (jn P n) b o m v a) (c:R v a):mr P b o m R:=⟨n,v,a,h,c⟩
end
structure dT (n:Nat) (z z':Nat->bW):Prop where
 le:fl z z'
 low:∀b,b<n->z' b=z b
theorem dT.refl {n:Nat} (z:Nat->bW):dT n z z:=⟨fl.refl z,λ_ _=>rfl⟩
def dT.trans {n:Nat} {a b c:Nat->bW} (h:dT n a b) (k:dT n b c):dT n a c:=⟨h.le.trans k.le,λi d=>by rw[k.low i d,h.low i d]⟩
def dT.Ja {n c:Nat} {a b:Nat->bW} (h:dT n a b) (e:c<=n):dT c a b:=⟨h.le,λi d=>h.low i (by omega)⟩
structure jQ (z:Nat->bW) (e m:Mem) (k:Option Nat) (b:Nat) (cs:List af) (t:bV):Prop where
 blk:m.blk b= .own cs t
 lt:b<m.next
 dead:z b= .dead
 fresh:e.next<=b\/k=J b
structure dU {aK:Type} (T:cM aK) (z:Nat->bW) (e m:Mem) (k:Option Nat) (xs:List aK) (v:af):Prop where
 bT:fO T z m xs v
 fresh:∀b,da v=J b->e.next<=b
section
variable {aK:Type} {T:cM aK} {z z':Nat->bW} {e m m':Mem} {k q:Option Nat} {xs:List aK} {v:af} {b:Nat} {cs:List af} {t:bV}
def dU.same (h:dU T z e m k xs v) (s:gl m m' q) (a:e6 (da v) q):dU T z e m' k xs v:=⟨h.bT.same s a,h.fresh⟩
def jQ.same (h:jQ z e m k b cs t) (s:gl m m' q) (a:e6 (J b) q):jQ z e m' k b cs t:=by
 have:=arQ h.blk h.lt s (a b rfl);exact ⟨this.1,this.2,h.dead,h.fresh⟩
def dU.lt (h:dU T z e m k xs v):∀b,da v=J b->b<m.next:=λb a=>(h.bT.lt b a).1
def dU.abw (h:dU T z e m k xs v):∀b,da v=J b->b<m.next/\(m.blk b).mem=m.blk b:=λb a=>⟨h.lt b a,by
 rcases h.bT with ⟨rfl,_⟩|⟨f,o,L,c,rfl,d,_⟩
 ·cases a
 ·cases a;rw[d];rfl⟩
def fO.jP (h:fO T z m xs v) (g:fl z z') (d:∀b,da v=J b->z' b=z b):fO T z' m xs v:=by
 rcases h with h|⟨b,l,L,c,rfl,q,a,r,f,j,n⟩
 ·exact .inl h
 ·refine .inr ⟨b,l,L,c,rfl,q,a,by rw[d b rfl];grind,f,j,λi x e=> ?_⟩;obtain ⟨k,o,p⟩:=n i x e;exact ⟨k,T.mono _ _ g _ _ o,p⟩
def dU.jP (h:dU T z e m k xs v) (c:fl z z') (a:∀b,da v=J b->z' b=z b):dU T z' e m k xs v:=⟨h.bT.jP c a,h.fresh⟩
def jQ.jP (h:jQ z e m k b cs t) (a:∀c,J b=J c->z' c=z c):jQ z' e m k b cs t:=⟨h.blk,h.lt,by rw[a b rfl];exact h.dead,h.fresh⟩
def dU.freeze (h:dU T z e m k xs v) (a:dL z e m k):∃d,dT e.next z d/\dL d e m k/\fA T d xs v/\∀p,e6 p (da v)->∀b,p=J b->d b=z b:=by
 refine ⟨jT z m (da v),⟨Cj λb c=>(h.bT.lt b c).2,λb c=> ?_⟩,⟨Lj a.bZ h.abw,a.dead,a.oL,a.next,a.kept⟩,h.bT.awh,λp f b c=> ?_⟩
 ·unfold jT;rw[if_neg];intro g;have:=h.fresh b g;omega
 ·unfold jT;rw[if_neg (f b c)]
def jQ.bm (h:jQ z e m k b cs t):∀c,J b=J c->z c= .dead/\(e.next<=c\/k=J c):=λc a=>by cases a;exact ⟨h.dead,h.fresh⟩
def dU.bm (h:dU T z e m k xs v):∀c,da v=J c->z c= .dead/\(e.next<=c\/k=J c):=λc a=>⟨(h.bT.lt c a).2, .inl (h.fresh c a)⟩
def dU.nil:dU T z e m k [] (.slice ae 0 0):=⟨.nil,λb a=>by cases a⟩
variable {P:bI} {C:FuncId->Array af->Mem->af->Mem->Prop} {ap:bS->af} {o:Oper} {w:af} {b4:List aK} {x y:bS} {u:bV} {i:TypeInfo}
def as0 (h:o.op= .call {callee:= .builtin .append,args:=#[x,y],argTypes:=#[t,u]}) (q:P.underlying t=J (.slice T.tid)) (E:P.info? T.tid=J i) {l:af} (N:i.zero=J l) (I:l.cells.toList.all dy=aa) (L:l.cells.size=i.size)
  (G:i.size=T.bM) (O:0<T.bM) (Q:i.bytes<=32768) (R:(∃H,P.underlying u=J (.slice H))\/P.underlying u=J .string) (D:ap x=v) (j:dU T z e m k xs v) (A:ap y=w) (S:Src T z m b4 w)
  (f:dL z e m k) {r:List aK} (s:cD xs b4=J r):
  ∃d c,hR P C ap o m d c/\dL z e c k/\dU T z e c k r d/\gl m c (da v)/\∀p,(∀b,p=J b->b<m.next)->e6 p (da v)->e6 p (da d):=by
 obtain ⟨d,c,M,B,n,a⟩:=asg (C:=C) h q E N I L G O Q R D j.bT A S f.bZ f.dead s;refine ⟨d,c,M,f.same n j.bm,⟨B,λb g=> ?_⟩,n,λp U F b g K=> ?_⟩
 ·rcases a b g with a|a
  ·exact j.fresh b a
  ·have:=f.next;omega
 ·rcases a b K with a|a
  ·exact F b g a
  grind
theorem Jz {L:List af} {a:af} {f:List aK} (c:dL z e m k) (h:fO T z (m.push (.own L t)) f a) (g:da a=J m.next):
  dL z e (m.push (.own L t)) k/\dU T z e (m.push (.own L t)) k f a/\gl m (m.push (.own L t)) ae/\∀p,(∀b,p=J b->b<m.next)->e6 p (da a):=
 ⟨c.push _,⟨h,λb d=>by rw[g] at d;cases d;exact c.next⟩,BN c.dead,λp j b d i=>by grind⟩
def avc {g:aK} {A w:aG} {n:Int} (h:o.op= .makeSlice t x y) (j:P.underlying t=J (.slice T.tid)) (v:P.info? T.tid=J i) {a:af} (F:i.zero=J a) (C:a.cells.toList.all dy=aa) (E:a.cells.size=i.size) (B:i.size=T.bM) (G:i.bytes<=32768)
  (D:T.rd z g a.cells.toList) (u:ap x= .int A n) (s:ap y= .int w n) (l:dL z e m k) {r:List aK} (q:hy g n=J r):
  ∃c d L f,jC P ap o m.next (.own L f) c/\d=m.push (.own L f)/\dL z e d k/\dU T z e d k r c/\gl m d ae/\∀p,(∀b,p=J b->b<m.next)->e6 p (da c):=by
 obtain ⟨L,c,K,I,H⟩:=avp (n':=n) h j v F C E B G D u s l.bZ q
 grind [Jz]
def atv {g:Array (Nat×bS)} {l:Nat} {f:List aK} {A:List (List af)} (h:o.op= .buildSlice t l g) (n:P.underlying t=J (.slice T.tid)) (u:P.info? T.tid=J i) {d:af} (y:i.zero=J d) (w:d.cells.toList.all dy=aa) (x:d.cells.size=i.size) (v:i.size=T.bM)
  (q:f.length=l) (B:l*T.bM<=16777216) (C:l<9223372036854775808) (s:wZ T z ap g.toList 0 f A) (r:dL z e m k):
  ∃a c L j,jC P ap o m.next (.own L j) a/\c=m.push (.own L j)/\dL z e c k/\dU T z e c k f a/\gl m c ae/\∀p,(∀b,p=J b->b<m.next)->e6 p (da a):=by
 obtain ⟨L,a,F,E,D⟩:=atm h n u y w x v q B C s r.bZ
 grind [Jz]
def atw {s:List UInt8} {a:bV} (h:o.op= .convert u t x) (v:P.underlying u=J .string) (g:P.underlying t=J (.slice a)) (r:P.underlying a=J (.int .u8)) (q:P.info? a=J i) (w:i.size=1) (n:ap x=str s) (j:s.length<9223372036854775807) (l:dL z e m k):
  ∃c d L f,jC P ap o m.next (.own L f) c/\d=m.push (.own L f)/\dL z e d k/\dU (kE a) z e d k s c/\gl m d ae/\∀p,(∀b,p=J b->b<m.next)->e6 p (da c):=by
 obtain ⟨L,c,B,A,y⟩:=atn h v g r q w n j l.bZ
 grind [Jz]
def Xj {L:List af} (a:dL z e m k):dL z e (m.push (.own L t)) k/\jQ z e (m.push (.own L t)) k m.next L t/\gl m (m.push (.own L t)) ae/\∀p,(∀b,p=J b->b<m.next)->e6 p (J m.next):=by
 refine ⟨a.push _,⟨by simp[Mem.push],Nat.lt_succ_self _, ?_, .inl a.next⟩,BN a.dead,λp d b f c=>by grind⟩;cases h:z m.next with
 |dead=>rfl
 |ro g=>have:=(a.bZ m.next (by grind)).2;omega
 |own L t=>have:=(a.bZ m.next (by grind)).2;omega
 |map L t=>have:=(a.bZ m.next (by grind)).2;omega
 |lock _ _ _ _=>have:=(a.bZ m.next (by grind)).2;omega
def amS {a:Nat} {new d:List af} {g:bV} (h:o.op= .store t x y) (s:P.info? t=J i) (r:ap x= .pointer (J ⟨b,a,ae⟩)) (q:ap y=w) (n:storable w=aa) (u:w.cells.toList=new) (v:new.length=i.size) (c:jQ z e m k b cs g) (p:a+new.length<=cs.length) (A:eY cs a new=d) (j:dL z e m k):
  ∃f,hR P C ap o m undef f/\dL z e f k/\jQ z e f k b d g/\gl m f (J b):=by
 subst q A;have l:=zm (x:= .own (eY cs a new) g) j.dead c.lt;exact ⟨_,(aet h s r c.blk n u v p),j.same l c.bm,⟨by simp[Mem.put],c.lt,c.dead,c.fresh⟩,l⟩
def amU {d q n f l c:Nat} {new j r:List af} {a s:aK} (h:o.op= .store t x y) (I:P.info? t=J i) (G:ap x= .pointer (J ⟨b,d,ae⟩)) (Y:d=q+n*T.bM+f) (F:ap y=w) (D:storable w=aa) (K:w.cells.toList=new) (N:new.length=i.size)
  (p:dU T z e m k xs v) (B:v= .slice (J ⟨b,q,ae⟩) l c) (O:xs[n]? =J a) (E:T.rd z a j) (H:∀(i:Nat) (u:af),j[i]? =J u->m.load b (q+n*T.bM+i)=J u) (X:T.rd z s r) (V:r=eY j f new) (M:f+new.length<=j.length) (A:dL z e m k):
  ∃g,hR P C ap o m undef g/\dL z e g k/\dU T z e g k (xs.set n s) v/\gl m g (da v):=by
 subst F Y;obtain ⟨L,Q,R,S,U⟩:=p.bT.store A.dead B O E ⟨b,_,rfl,H⟩ X V M;have W:da v=J b:=by rw[B];rfl
 refine ⟨_,(aet h I G Q D K N R),A.same U (by rw[<-W];exact p.bm),⟨S,p.fresh⟩,by grind⟩
def avb {q:aG} {n:Int} {a:aK} {e:bV} (h:o.op= .indexAddr t x y) (f:P.underlying t=J (.slice e)) (k:P.info? e=J i) (r:i.size=T.bM) (j:ap x=v) (g:ap y= .int q n) (l:fA T z xs v) (m:al xs n=J a):
  ∃b c d,dD P ap o (.pointer (J ⟨b,c,ae⟩))/\T.rd z a d/\o2 z b c d:=by
 obtain ⟨p,d,w,u,b,c,rfl,s⟩:=auL h f k r j g l m
 grind
def ava {D:aG} {n:Int} {a:aK} {g:bV} (h:o.op= .indexAddr t x y) (q:P.underlying t=J (.slice g)) (A:P.info? g=J i) (E:i.size=T.bM) (w:ap x=v) (s:ap y= .int D n) (B:dU T z e m k xs v) (C:al xs n=J a):
  ∃b d l c f,dD P ap o (.pointer (J ⟨b,d+n.toNat*T.bM,ae⟩))/\v= .slice (J ⟨b,d,ae⟩) l c/\T.rd z a f/\∀(j:Nat) (u:af),f[j]? =J u->m.load b (d+n.toNat*T.bM+j)=J u:=by
 obtain ⟨p,f,I,F,r,b,d,l,c,rfl,rfl⟩:=auK h q A E w s B.bT C;obtain ⟨L,K,G,H⟩:=r
 grind
def Xk {n:Nat} {c:Array Field} {f:Field} {a:Nat} (h:o.op= .fieldAddr t x n) (e:P.underlying t=J (.struct c)) (k:c[n]? =J f) (j:P.info? f.type=J i) (d:(i.size==0)=ak) (g:ap x= .pointer (J ⟨b,a,ae⟩)):
  dD P ap o (.pointer (J ⟨b,a+f.offset,ae⟩)):= .fieldAddr t x n c f i b a h e k j (by intro l;rw[l] at d;cases d) g
def XV {a:Nat} {d:TypeDesc} (h:o.op= .load t x) (e:P.underlying t=J d) (g:lI d=ak) (f:ap x= .pointer (J ⟨b,a,ae⟩)) (c:m.load b a=J v):fH P ap o m v:= .load t x b a d v h f e g c
def atx {a:Nat} {d:TypeDesc} (h:o.op= .load t x) (e:P.underlying t=J d) (l:lI d=aa) (g:P.info? t=J i) (k:cs.length=i.size) (f:ap x= .pointer (J ⟨b,a,ae⟩)) (c:∀(j:Nat) (u:af),cs[j]? =J u->m.load b (a+j)=J u):fH P ap o m (.agg cs.toArray):=
 .wI t x b a d i cs h f e l g (Cc _ _ _ k c)
def jQ.load (h:jQ z e m k b cs t) {a:Nat} (c:cs[a]? =J v):m.load b a=J v:=by simp only[Mem.load,h.blk];grind
def jQ.tm (h:jQ z e m k b cs t):∀(j:Nat) (u:af),cs[j]? =J u->m.load b (0+j)=J u:=λj u a=>by rw[lH];exact h.load a
def dL.tm (c:dL z e m k) {a:Nat} (h:o2 z b a cs):∀(j:Nat) (u:af),cs[j]? =J u->m.load b (a+j)=J u:=λj u d=>KO c.bZ (h j u d)
end
def ade {a:Array af} {n i:Nat} {v:af} (h:a.toList[i]? =J v):(a++Array.replicate n undef).getD i undef=v:=by
 have b:a[i]? =J v:=by grind
 have c:=(Array.getElem?_eq_some_iff.1 b).1;simp_all [Array.getElem?_append_left]
theorem arB {n:Nat} {v:af} (h:flat v=aa):low n v:=WJ h
theorem h2.flat {P:bI} {f:FuncId} {fn:Func} {c:Code} {a:Array af} {z:Nat->bW} {m:Mem} {r:af} (s:P.funcs[f]? =J fn) (j:qm P fn c) (u:lR P f=aa) (t:a.size<=fn.ntmps) (B:aF.flat r=aa)
  (h:∀g,(∀i v,a.toList[i]? =J v->g i=v)->W P c (λe g k=>(e= .normal\/e= .ret)/\∃n,dL n m k ae/\∃d,q2 P g k fn.results.toList d/\(d.length=1\/∀x∈d,storable x=aa)/\pack d=r) g m):h2 P f a m λv A=>v=r/\A=m:=by
 refine h2.enter s j u t ((h _ λi v q=>ade q).mono ?_);rintro e g k ⟨y,n,l,d,w,p,o⟩;refine ⟨y,d,w,p, .inr ⟨⟨o,l.awi⟩,by grind [arB],λb j=> .inl (l.kept b j (by simp))⟩⟩
def h2.any {P:bI} {f:FuncId} {fn:Func} {c:Code} {a:Array af} {m:Mem} {R:af->Mem->Prop} (l:P.funcs[f]? =J fn) (j:qm P fn c) (o:lR P f=aa) (n:a.size<=fn.ntmps)
  (h:∀b,(∀i v,a.toList[i]? =J v->b i=v)->W P c (λe b g=>(e= .normal\/e= .ret)/\∃d,q2 P b g fn.results.toList d/\(d.length=1\/∀x∈d,storable x=aa)/\R (pack d) g) b m):h2 P f a m R:=by
 refine h2.enter l j o n ((h _ λi v k=>ade k).mono ?_)
 grind
end Go.aF
end
section
namespace Go.aF
inductive Tag where
 |pure
 |read (I:Mem->Prop)
 |new
 |fX
def cH (P:bI) (a:bS->af) (o:Oper) (m:Mem) (D:Tag->af->Mem->Prop):Prop:=
 (∃v,dD P a o v/\D .pure v m)\/(∃v I,dD P a o v/\D (.read I) v m)\/(∃v,fH P a o m v/\D (.read λm=>fH P a o m v) v m)\/
 (∃X v,jC P a o m.next X v/\D .new v (m.push X))\/(∃n v b,hR P (jn P n) a o m v b/\D .fX v b)
section
variable {P:bI} {ap:bS->af} {o:Oper} {m:Mem} {D:Tag->af->Mem->Prop} {K:af->Mem->Prop}
theorem cH.pure {v:af} (h:dD P ap o v) (a:D .pure v m):cH P ap o m D:= .inl ⟨v,h,a⟩
def cH.abT {v:af} {I:Mem->Prop} (h:dD P ap o v) (a:D (.read I) v m):cH P ap o m D:= .inr (.inl ⟨v,I,h,a⟩)
theorem cH.read {v:af} (h:fH P ap o m v) (a:D (.read λm=>fH P ap o m v) v m):cH P ap o m D:= .inr (.inr (.inl ⟨v,h,a⟩))
theorem cH.new {v:af} {X:bW} (h:jC P ap o m.next X v) (a:D .new v (m.push X)):cH P ap o m D:= .inr (.inr (.inr (.inl ⟨X,v,h,a⟩)))
theorem cH.fX {n:Nat} {v:af} {a:Mem} (h:hR P (jn P n) ap o m v a) (b:D .fX v a):cH P ap o m D:= .inr (.inr (.inr (.inr ⟨n,v,a,h,b⟩)))
def cH.w (h:cH P ap o m λ_=>K):mr P ap o m K:=by
 rcases h with ⟨v,h,a⟩|⟨v,I,h,a⟩|⟨v,h,a⟩|⟨X,v,h,a⟩|⟨n,v,b,h,a⟩
 ·grind [mr.pure]
 ·grind [mr.pure]
 ·grind [mr.read]
 ·grind [mr.new]
 grind [mr.fX]
def cH.call {f:FuncId} {a:Array af} (c:callee o ap f a) (h:h2 P f a m (D .fX)):cH P ap o m D:=by
 obtain ⟨n,v,e,d,b⟩:=h;exact .fX (.call f a v e c d) b
end
def zi {P:bI} {C:FuncId->Array af->Mem->af->Mem->Prop} {j:List Oper} {B:Array Nat}:∀(l:List Oper) (i:Nat) (A d:Acc) (n k:Nat->af) (m p:Mem),(∀x∈d.reads,x∈A.reads)->(∀x∈d.iC,x∈A.iC)->(∀x∈d.news,x∈A.news)->hW P C j B i l A n m k p->hW P C j B i l d n m k p
 |[],i,A,d,n,k,m,p,_,_,_,h=>h
 |o::l,i,A,d,n,k,m,p,g,f,e,h=>by
  simp only[hW] at h⊢;split at h
  ·rename_i q;rw[if_pos q];rcases h with ⟨v,b,c⟩|⟨v,b,r,c⟩|⟨X,v,b,c⟩|⟨v,u,b,s,t,c⟩
   ·exact .inl ⟨v,b,zi l _ _ _ _ _ _ _ g f e c⟩
   ·refine .inr (.inl ⟨v,b,λx a=>r x (f x a),zi l _ {A with reads:=_::A.reads} _ _ _ _ _ (λx a=> ?_) f e c⟩)
    grind
   ·refine .inr (.inr (.inl ⟨X,v,b,zi l _ {A with news:=_::A.news} _ _ _ _ _ g f (λx a=> ?_) c⟩))
    grind
   ·refine .inr (.inr (.inr ⟨v,u,b,λx a=>s x (g x a),λx a=>t x (e x a),zi l _ {A with iC:=_::A.iC} _ _ _ _ _ g (λx a=> ?_) e c⟩))
    grind
  ·rename_i q;rw[if_neg q];exact zi l _ _ _ _ _ _ _ g f e h
def u7 (B:Array Nat) (i:Nat) (A:Acc) (m:Mem):Tag->Mem->Prop| .pure,_=>True| .read I,_=>∀x∈A.iC,gD B i x.1=ak->I x.2| .new,_=>True| .fX,a=>(∀x∈A.reads,gD B i x.1=ak->x.2 a)/\∀x∈A.news,gD B i x.1=ak->a.blk x.2=m.blk x.2
def qL (A:Acc) (i:Nat) (m:Mem):Tag->Acc
 | .pure=>A
 | .read I=>{A with reads:=(i,I)::A.reads}
 | .new=>{A with news:=(i,m.next)::A.news}
 | .fX=>{A with iC:=(i,m)::A.iC}
section
variable {P:bI} {ops l:List Oper} {B:Array Nat} {i:Nat} {A:Acc} {K:(Nat->af)->Mem->Prop} {fr:Nat->af} {m:Mem} {o:Oper}
theorem ea.Ue (a:wanted ops fr o=aa) (h:cH P (bk fr) o m λ_ v b=>ea P ops l K (set fr o.dst v) b):ea P ops (o::l) K fr m:=ea.cons a h.w
theorem hQ.cons (f:wanted ops fr o=aa) (h:cH P (bk fr) o m λt v j=>u7 B i A m t j/\hQ P ops B (i+1) l (qL A i m t) K (set fr o.dst v) j):hQ P ops B i (o::l) A K fr m:=by
 have r:∀{n k:Nat} (_:n<=k) {l:List Oper} {i:Nat} {A:Acc} {fr a:Nat->af} {m b:Mem},hW P (jn P n) ops B i l A fr m a b->hW P (jn P k) ops B i l A fr m a b:=λp=>vd (wV _ _ p) _ _ _ _ _ _ _;rcases h with ⟨v,h,_,n,a,b,d,c⟩|⟨v,I,h,_,n,a,b,d,c⟩|⟨v,h,g,n,a,b,d,c⟩|⟨X,v,h,_,n,a,b,d,c⟩|⟨q,v,j,h,g,n,a,b,d,c⟩
 ·refine ⟨n,a,b, ?_,c⟩;simp only[hW];rw[if_pos f];exact .inl ⟨v,h,d⟩
 ·refine ⟨n,a,b, ?_,c⟩;simp only[hW];rw[if_pos f];exact .inl ⟨v,h,zi _ _ {A with reads:=(i,I)::A.reads} A _ _ _ _ (λx e=>List.mem_cons_of_mem _ e) (λx e=>e) (λx e=>e) d⟩
 ·refine ⟨n,a,b, ?_,c⟩;simp only[hW];rw[if_pos f];exact .inr (.inl ⟨v,h,g,d⟩)
 ·refine ⟨n,a,b, ?_,c⟩;simp only[hW];rw[if_pos f];exact .inr (.inr (.inl ⟨X,v,h,d⟩))
 ·refine ⟨max q n,a,b, ?_,c⟩;simp only[hW];rw[if_pos f];exact .inr (.inr (.inr ⟨v,j,h.mono (wV _ _ (Nat.le_max_left _ _)),g.1,g.2,r (Nat.le_max_right _ _) d⟩))
def hQ.skip (d:wanted ops fr o=ak) (h:hQ P ops B (i+1) l A K (set fr o.dst undef) m):hQ P ops B i (o::l) A K fr m:=by
 obtain ⟨n,b,c,e,a⟩:=h;refine ⟨n,b,c, ?_,a⟩
 grind [hW]
def hQ.done (h:∀a,a=fr->K a m):hQ P ops B i [] A K fr m:=⟨0,_,_,⟨rfl,rfl⟩,h _ rfl⟩
end
def au0 {P:bI} {n:bS->af} {o:Oper} {y:Type} {T:cM y} {z:Nat->bW} {g:List y} {v:af} {x:bS} {t:bV} {i:TypeInfo} {q p:Option bS} {a b:Int} {r:List y} (h:o.op= .slice t x q p ae) (C:P.underlying t=J (.slice T.tid)) (H:P.info? T.tid=J i) (cN:i.size=T.bM) (D:n x=v)
  (W:y5 n q a) (V:zK n p g.length b) (R:fA T z g v) (O:gi g a b=J r):
  ∃F,(dD P n o F\/∀m,lk z m->fH P n o m F)/\fA T z r F:=by
 obtain ⟨K,X,ai,rfl⟩:=Ws O;obtain ⟨d,rfl⟩:=sD K;obtain ⟨f,rfl⟩:=sD (Int.le_trans K X);have N:d<=f:=by omega
 have nx:f<=g.length:=by omega
 simp only[sG];have B:=K4 W;have A:=KM V;have s:((g.take f).drop d).length=f - d:=by grind
 rcases R with ⟨rfl,rfl⟩|⟨j,e,c,rfl,u,Z,mb⟩
 ·have qP:f=0:=by grind
  subst qP;have E:d=0:=by omega
  subst E;exact ⟨.slice ae 0 0, .inl (.nc t x q p T.tid i h C H D B A), .inl ⟨rfl,by rfl⟩⟩
 ·have l:∀I,I=e+d*T.bM->∀(k:Nat) (w:y),((g.take f).drop d)[k]? =J w->∃G,T.rd z w G/\o2 z j (I+k*T.bM) G:=by
   intro I mc k w M;obtain ⟨G,g1,g2⟩:=mb _ w (WU M)
   grind
  rcases Z with ⟨rfl,L,U,yS⟩|⟨ay,Y⟩
  ·refine ⟨_, .inr λm S=>(.slice t x q p T.tid i L j e g.length d f h C H D ?_ B A N nx (by grind)), ?_⟩
   ·rw[(S.iD u).1];grind
   ·refine .inr ⟨j,e+d*T.bM,dc,by grind,u, .inl ⟨rfl,L,U, ?_⟩,l _ rfl⟩;rw[s,sK,<-ko];have:(d+(f - d))*T.bM<=g.length*T.bM:=oH _ (by omega);omega
  ·refine ⟨_, .inl (.slice t x q p T.tid i j e g.length c d f h C H D (by grind) B A N (by omega) (λ_=>trivial)), ?_⟩;by_cases pv:c=d
   ·have Q:f - d=0:=by omega
    refine .inr ⟨j,e,c - d,by grind,u, .inr ⟨by omega,by grind⟩,λk w M=> ?_⟩
    grind
   ·refine .inr ⟨j,e+d*T.bM,c - d,by grind,u, .inr ⟨by omega,by grind⟩,l _ rfl⟩
section
variable {aK:Type} {T:cM aK} {z z':Nat->bW} {e m m':Mem} {k q:Option Nat} {xs:List aK} {v:af} {b:Nat} {cs:List af} {t:bV}
variable {P:bI} {ap:bS->af} {o:Oper} {w:af} {b4:List aK} {x y:bS} {u:bV} {i:TypeInfo} {K:af->Mem->Prop} {D:Tag->af->Mem->Prop}
def K3 (h:o.op= .call {callee:= .builtin .append,args:=#[x,y],argTypes:=#[t,u]}) (f:P.underlying t=J (.slice T.tid)) (q:P.info? T.tid=J i) {d:af} (G:i.zero=J d) (E:d.cells.toList.all dy=aa) (F:d.cells.size=i.size)
  (A:i.size=T.bM) (R:(T.bM==0)=ak) (H:iJ i.bytes 32768=aa) (I:(∃B,P.underlying u=J (.slice B))\/P.underlying u=J .string) (n:ap x=v) (s:dU T z e m k xs v) (l:ap y=w) (K:Src T z m b4 w)
  (g:dL z e m k) {r:List aK} (j:cD xs b4=J r)
  (S:∀c a,dL z e a k->dU T z e a k r c->gl m a (da v)->(∀p,(∀b,p=J b->b<m.next)->e6 p (da v)->e6 p (da c))->D .fX c a):cH P ap o m D:=by
 obtain ⟨c,a,Q,M,L,N,O⟩:=as0 (C:=jn P 0) h f q G E F A (by grind) (pk H) I n s l K g j
 grind [cH.fX]
def ae7 {x0:aK} {v u:aG} {n:Int} (h:o.op= .makeSlice t x y) (f:P.underlying t=J (.slice T.tid)) (s:P.info? T.tid=J i) {c:af} (E:i.zero=J c) (A:c.cells.toList.all dy=aa) (C:c.cells.size=i.size) (w:i.size=T.bM) (F:iJ i.bytes 32768=aa)
  (B:T.rd z x0 c.cells.toList) (q:ap x= .int v n) (l:ap y= .int u n) (g:dL z e m k) {r:List aK} (j:hy x0 n=J r)
  (O:∀d a,dL z e a k->dU T z e a k r d->gl m a ae->(∀p,(∀b,p=J b->b<m.next)->e6 p (da d))->D .new d a):cH P ap o m D:=by
 obtain ⟨d,a,L,M,N,rfl,H,G,I,K⟩:=avc h f s E A C w (pk F) B q l g j
 grind [cH.new]
def Xn {g:Array (Nat×bS)} {l:Nat} (h:o.op= .buildSlice t l g) (j:P.underlying t=J (.slice T.tid)) (s:P.info? T.tid=J i) {d:af} (x:i.zero=J d) (v:d.cells.toList.all dy=aa) (w:d.cells.size=i.size) (u:i.size=T.bM)
  (f:List aK) (y:List (List af)) (n:f.length=l) (A:iJ (l*T.bM) 16777216=aa) (K:mn l 9223372036854775808=aa) (r:wZ T z ap g.toList 0 f y) (q:dL z e m k)
  (I:∀c a,dL z e a k->dU T z e a k f c->gl m a ae->(∀p,(∀b,p=J b->b<m.next)->e6 p (da c))->D .new c a):cH P ap o m D:=by
 obtain ⟨c,a,L,G,H,rfl,C,B,E,F⟩:=atv h j s x v w u n (pk A) (by simp_all) r q
 grind [cH.new]
def atB {s:List UInt8} {a:bV} (h:o.op= .convert u t x) (w:P.underlying u=J .string) (g:P.underlying t=J (.slice a)) (r:P.underlying a=J (.int .u8)) (q:P.info? a=J i) (y:i.size=1) (n:ap x=str s) {f:List UInt8} (j:cD s []=J f) (l:dL z e m k)
  (v:∀d c,dL z e c k->dU (kE a) z e c k f d->gl m c ae->(∀p,(∀b,p=J b->b<m.next)->e6 p (da d))->D .new d c):cH P ap o m D:=by
 obtain ⟨H,rfl⟩:=tv j;rw[List.append_nil] at v;obtain ⟨d,c,L,F,G,rfl,B,A,C,E⟩:=atw h w g r q y n (by grind [uf]) l
 grind [cH.new]
def abd {a:Nat} {new:List af} {f:bV} (h:o.op= .store t x y) (r:P.info? t=J i) (p:ap x= .pointer (J ⟨b,a,ae⟩)) (n:ap y=w) (g:storable w=aa) (s:w.cells.toList=new) (u:new.length=i.size) (q:jQ z e m k b cs f) (j:iJ (a+new.length) cs.length=aa) (c:List af) (v:eY cs a new=c) (l:dL z e m k)
  (G:∀d,dL z e d k->jQ z e d k b c f->gl m d (J b)->D .fX undef d):cH P ap o m D:=by
 obtain ⟨d,F,B,A,E⟩:=amS (C:=jn P 0) h r p n g s u q (pk j) v l
 grind [cH.fX]
def J8 {g p n f l c:Nat} {new j q:List af} {a a':aK} (h:o.op= .store t x y) (H:P.info? t=J i) (F:ap x= .pointer (J ⟨b,g,ae⟩)) (R:g=p+n*T.bM+f) (E:ap y=w) (r:storable w=aa) (I:w.cells.toList=new) (L:new.length=i.size)
  (s:dU T z e m k xs v) (Q:v= .slice (J ⟨b,p,ae⟩) l c) (M:xs[n]? =J a) (B:T.rd z a j) (G:∀(i:Nat) (u:af),j[i]? =J u->m.load b (p+n*T.bM+i)=J u) (O:T.rd z a' q) (N:q=eY j f new) (K:iJ (f+new.length) j.length=aa) (A:dL z e m k)
  (X:∀d,dL z e d k->dU T z e d k (xs.set n a') v->gl m d (da v)->D .fX undef d):cH P ap o m D:=by
 obtain ⟨d,W,U,S,V⟩:=amU (C:=jn P 0) h H F R E r I L s Q M B G O N (pk K) A
 grind [cH.fX]
def avh {q:aG} {n:Int} {a:aK} {e:bV} (h:o.op= .indexAddr t x y) (f:P.underlying t=J (.slice e)) (k:P.info? e=J i) (r:i.size=T.bM) (j:ap x=v) (g:ap y= .int q n) (l:fA T z xs v) (p:al xs n=J a)
  (A:∀b c d,T.rd z a d->o2 z b c d->D .pure (.pointer (J ⟨b,c,ae⟩)) m):cH P ap o m D:=by
 obtain ⟨b,c,d,w,u,s⟩:=avb h f k r j g l p
 grind [cH.pure]
def ae6 {F:aG} {n:Int} {a:aK} {p:bV} (h:o.op= .indexAddr t x y) (q:P.underlying t=J (.slice p)) (B:P.info? p=J i) (G:i.size=T.bM) (A:ap x=v) (s:ap y= .int F n) (C:dU T z e m k xs v) (g:al xs n=J a)
  (I:∀b d l c f,v= .slice (J ⟨b,d,ae⟩) l c->T.rd z a f->xs[n.toNat]? =J a->(∀(j:Nat) (u:af),f[j]? =J u->m.load b (d+n.toNat*T.bM+j)=J u)->D .pure (.pointer (J ⟨b,d+n.toNat*T.bM,ae⟩)) m):cH P ap o m D:=by
 obtain ⟨b,d,l,c,f,H,w,r,E⟩:=ava h q B G A s C g;exact cH.pure H (I _ _ _ _ _ w r (o3 g).2.2 E)
def apg {j g:Option bS} {a b:Int} {r:List aK} (h:o.op= .slice t x j g ae) (n:P.underlying t=J (.slice T.tid)) (B:P.info? T.tid=J i) (w:i.size=T.bM) (s:ap x=v)
  (A:y5 ap j a) (y:zK ap g xs.length b) (u:fA T z xs v) (p:dL z e m k) (q:gi xs a b=J r) (l:∀d I,(∀m,lk z m->I m)->fA T z r d->D (.read I) d m):cH P ap o m D:=by
 obtain ⟨d,c,f⟩:=au0 h n B w s A y u q;rcases c with c|c
 ·exact cH.abT (I:=λ_=>True) c (l _ _ (λ_ _=>trivial) f)
 ·exact cH.read (c m p.bZ) (l _ _ c f)
def avf {s r:List UInt8} {e c:Option bS} {a b:Int} (h:o.op= .slice t x e c ae) (f:P.underlying t=J .string) (i:ap x=str s) (k:y5 ap e a) (j:zK ap c s.length b) (g:gi s a b=J r) (n:D .pure (str r) m):cH P ap o m D:=by
 obtain ⟨d,l,q,rfl⟩:=Ws g;obtain ⟨p,rfl⟩:=sD d;obtain ⟨u,rfl⟩:=sD (Int.le_trans d l);exact cH.pure (asH h f i (K4 k) (KM j) (by omega) (by omega)) n
def as6 {s:List UInt8} {c:UInt8} {i:aG} {n:Int} (h:o.op= .index t x y) (a:P.underlying t=J .string) (e:ap x=str s) (b:ap y= .int i n) (g:al s n=J c) (j:D .pure (.int .u8 c.toNat) m):cH P ap o m D:=by
 obtain ⟨f,k,d⟩:=o3 g;exact cH.pure (asG h a e b f d) j
def avj {s:List UInt8} {b:bV} (h:o.op= .convert t u x) (f:P.underlying t=J (.slice b)) (j:P.underlying b=J (.int .u8)) (n:P.underlying u=J .string) (i:ap x=v) (d:fA (kE b) z s v) (g:dL z e m k) (l:D (.read λm=>fH P ap o m (str s)) (str s) m):cH P ap o m D:=
 cH.read (afk h f j n i (d.src g.bZ) (by obtain ⟨a,c,rfl⟩:=d.len;grind)) l
def avi {s:List UInt8} {b:bV} (h:o.op= .convert t u x) (f:P.underlying t=J (.slice b)) (i:P.underlying b=J (.int .u8)) (l:P.underlying u=J .string) (g:ap x=v) (d:dU (kE b) z e m k s v) (j:D (.read λm=>fH P ap o m (str s)) (str s) m):cH P ap o m D:=
 cH.read (afk h f i l g d.bT.src (by obtain ⟨a,c,rfl⟩:=d.bT.len;exact ⟨_,_,_,rfl⟩)) j
def as5 {c:Array (Nat×bS)} {b:Array Field} {e:List (Option (Nat×Nat))} {a:af} (f:List (Nat×af)) (d:List af) (h:o.op= .build t c) (j:P.underlying t=J (.struct b)) (n:P.info? t=J i) (q:i.zero=J a) (r:a.cells.toList.all dy=aa)
  (g:pC P b=e) (v:e.all Y2=aa) (u:c.toList.map (λp=>(p.1,ap p.2))=f) (l:k5 (λk=>(e[k]?).join) a.cells.toList f=J d) (s:D .pure (.agg d.toArray) m):cH P ap o m D:=by
 subst g u;exact cH.pure (.build t c b i a d h j n q r (by grind) l) s
variable {ops l:List Oper} {fr:Nat->af} {pQ:(Nat->af)->Mem->Prop}
def ea.Ud {j d:Nat} {a b:Bool} (g:o.guard=J (j,a)) (f:(ops[j]?).bind (·.dst)=J d) (c:fr d= .bool b) (e:b=a) (h:cH P (bk fr) o m λ_ v i=>ea P ops l pQ (set fr o.dst v) i):ea P ops (o::l) pQ fr m:=
 ea.Ue (by subst e;simp[wanted,g,f,c]) h
def ea.P3 {j d:Nat} {a b:Bool} (g:o.guard=J (j,a)) (f:(ops[j]?).bind (·.dst)=J d) (c:fr d= .bool b) (e:b= !a) (h:ea P ops l pQ (set fr o.dst undef) m):ea P ops (o::l) pQ fr m:=
 ea.skip (by subst e;simp[wanted,g,f,c]) h
def ea.X6 {j d:Nat} {a:Bool} (e:o.guard=J (j,a)) (c:(ops[j]?).bind (·.dst)=J d) (b:fr d=undef) (h:ea P ops l pQ (set fr o.dst undef) m):ea P ops (o::l) pQ fr m:=
 ea.skip (by simp[wanted,e,c,b,undef]) h
def hQ.Ud {B:Array Nat} {n:Nat} {A:Acc} {j d:Nat} {want nZ:Bool} (bs:o.guard=J (j,want)) (bg:(ops[j]?).bind (·.dst)=J d) (aD:fr d= .bool nZ) (aw:nZ=want) (h:cH P (bk fr) o m λt v m1=>u7 B n A m t m1/\hQ P ops B (n+1) l (qL A n m t) pQ (set fr o.dst v) m1):hQ P ops B n (o::l) A pQ fr m:=
 hQ.cons (by subst aw;simp[wanted,bs,bg,aD]) h
def hQ.P3 {B:Array Nat} {n:Nat} {A:Acc} {j d:Nat} {a b:Bool} (g:o.guard=J (j,a)) (f:(ops[j]?).bind (·.dst)=J d) (c:fr d= .bool b) (e:b= !a) (h:hQ P ops B (n+1) l A pQ (set fr o.dst undef) m):hQ P ops B n (o::l) A pQ fr m:=
 hQ.skip (by subst e;simp[wanted,g,f,c]) h
def hQ.X6 {B:Array Nat} {n:Nat} {A:Acc} {j d:Nat} {a:Bool} (e:o.guard=J (j,a)) (c:(ops[j]?).bind (·.dst)=J d) (b:fr d=undef) (h:hQ P ops B (n+1) l A pQ (set fr o.dst undef) m):hQ P ops B n (o::l) A pQ fr m:=
 hQ.skip (by simp[wanted,e,c,b,undef]) h
end
end Go.aF
end
section
namespace Go.aF
def ab1 {d:TypeDesc} {k:af} (a:TF d k):∀(l:List MapEntry) (i:Nat),(∀x∈l,TF d x.key)->Instr.findNow d k l i=J (o6 k l i)
 |[],i,_=>rfl
 |e::f,i,h=>by
  obtain ⟨r,j,c⟩:=MapKept.sameNow_of_keys a (h e (.head _));have g:=ab1 a f (i+1) (λx b=>h x (.tail _ b))
  grind [o6,Instr.findNow]
def ac4 {P:bI} {b:bV} {d:TypeDesc} (c:P.underlying b=J d) {e:af->Prop} (a:∀v,e v->TF d v):Keyed P b e where
 check:=λi v w h=>MapKept.run_checkKey c (a v h) i _
 find:=λv j w h g=>MapKept.run_findKey c (ab1 (a v h) j 0 λx f=>a _ (g x f))
 stays:=λv w h=>MapKept.run_keyThatStays (a v h)
structure ph (aK cg:Type) where
 eo:aK->List af
 vc:cg->List af
 tid:bV
structure nX (P:bI) (bG:bV) {aK:Type} (eo:aK->List af):Prop where
 len:∀a,(eo a).length=P.cellsOf bG
 pos:0<P.cellsOf bG
 flat:∀a,(eo a).all dy=aa
 A4:∀a,aF.flat (ey (ek P bG) (eo a))=aa
 inj:∀a b,ey (ek P bG) (eo a)=ey (ek P bG) (eo b)->a=b
 keyed:Keyed P bG λv=>∃a,v=ey (ek P bG) (eo a)
structure oK (P:bI) (bA:bV) {cg:Type} (vc:cg->List af):Prop where
 len:∀b,(vc b).length=P.cellsOf bA
 one:ek P bA=ak->P.cellsOf bA=1
 flat:∀b,(vc b).all dy=aa
def tl (k:aG) (n:Int):List af:=[.int k n]
def BD (s:List UInt8):List af:=[str s]
def Cr (b:Bool):List af:=[.bool b]
def si {P:bI} {t:bV} {d:TypeDesc} (h:P.underlying t=J d) (a:lI d=ak):ek P t=ak:=by grind [ek]
def atC {P:bI} {c:bV} {k:aG} {i:TypeInfo} (h:P.underlying c=J (.int k)) (e:P.info? c=J i) (f:i.size=1):nX P c (tl k) where
 len:=λa=>by grind [tl,nY]
 pos:=by grind [nY]
 flat:=λa=>rfl
 A4:=λa=>by rw[si h rfl];rfl
 inj:=λa b d=>by rw[si h rfl] at d;grind [ey,tl]
 keyed:=ac4 h (by rintro v ⟨a,rfl⟩;rw[si h rfl];rfl)
def ad7 {a b:List UInt8} (h:str a=str b):a=b:=by
 grind [str]
def atD {P:bI} {c:bV} {i:TypeInfo} (h:P.underlying c=J .string) (e:P.info? c=J i) (f:i.size=1):nX P c BD where
 len:=λa=>by grind [BD,nY]
 pos:=by grind [nY]
 flat:=λa=>rfl
 A4:=λa=>by rw[si h rfl];rfl
 inj:=λa b d=>by rw[si h rfl] at d;exact ad7 d
 keyed:=ac4 h (by rintro v ⟨a,rfl⟩;rw[si h rfl];simp[ey,BD,str,TF])
def atU {P:bI} {b:bV} {k:aG} {i:TypeInfo} (h:P.underlying b=J (.int k)) (c:P.info? b=J i) (d:i.size=1):oK P b (tl k):=
 ⟨λa=>by grind [tl,nY],λ_=>by grind [nY],λ_=>rfl⟩
def asQ {P:bI} {b:bV} {i:TypeInfo} (h:P.underlying b=J .bool) (c:P.info? b=J i) (d:i.size=1):oK P b Cr:=
 ⟨λa=>by grind [Cr,nY],λ_=>by grind [nY],λ_=>rfl⟩
section
variable {aK cg:Type}
def jv [DecidableEq aK]:List (aK×cg)->aK->Option cg|[],_=>ae|p::b,a=>if p.1=a then J p.2 else jv b a
def o8 [DecidableEq aK]:List (aK×cg)->aK->cg->List (aK×cg)|[],a,b=>[(a,b)]|p::c,a,b=>if p.1=a then (p.1,b)::c else p::o8 c a b
def ph.p4 (M:ph aK cg) (a:List (aK×cg)):List (List af×List af):=a.map λp=>(M.eo p.1,M.vc p.2)
def ph.cells (M:ph aK cg) (a:List (aK×cg)):List af:=(M.p4 a).flatMap λp=>p.1++p.2
structure jD (M:ph aK cg) (z:Nat->bW) (e m:Mem) (k:Option Nat) (es:List (aK×cg)) (v:af):Prop where
 bT:∃r,v= .map (J r)/\m.blk r= .map (M.cells es) M.tid/\r<m.next/\z r= .dead/\e.next<=r
def nn (M:ph aK cg) (z:Nat->bW) (a:List (aK×cg)) (v:af):Prop:=(v= .map ae/\a=[])\/∃r,v= .map (J r)/\z r= .map (M.cells a) M.tid
def tH:af->Option Nat| .map r=>r|_=>ae
variable {M:ph aK cg} {z z':Nat->bW} {e m m':Mem} {k q:Option Nat} {es:List (aK×cg)} {v:af}
def jD.lt (h:jD M z e m k es v):∀b,tH v=J b->b<m.next:=by
 obtain ⟨r,rfl,g,d,c,f⟩:=h.bT;intro b a;cases a;grind
def jD.same (h:jD M z e m k es v) (s:gl m m' q) (d:e6 (tH v) q):jD M z e m' k es v:=by
 obtain ⟨r,rfl,f,a,b,c⟩:=h.bT;exact ⟨r,rfl,by rw[s.blk r a (d r rfl)];grind,hS a s.next,b,c⟩
def jD.jP (h:jD M z e m k es v) (i:fl z z') (c:∀b,tH v=J b->z' b=z b):jD M z' e m k es v:=by
 obtain ⟨r,rfl,f,a,g,d⟩:=h.bT;exact ⟨r,rfl,f,a,by rw[c r rfl];grind,d⟩
def jD.bm (h:jD M z e m k es v):∀c,tH v=J c->z c= .dead/\(e.next<=c\/k=J c):=by
 obtain ⟨r,rfl,g,d,b,f⟩:=h.bT;intro c a;cases a;grind
def jD.freeze (h:jD M z e m k es v) (a:dL z e m k):∃d,dT e.next z d/\dL d e m k/\nn M d es v/\∀p,e6 p (tH v)->∀b,p=J b->d b=z b:=by
 obtain ⟨r,rfl,i,f,j,l⟩:=h.bT;refine ⟨jT z m (J r),⟨Cj λb c=>by grind,λb c=> ?_⟩,⟨Lj a.bZ (λb c=>by cases c;exact ⟨f,by rw[i];rfl⟩),a.dead,a.oL,a.next,a.kept⟩, .inr ⟨r,rfl,by grind [jT]⟩,λp g b c=> ?_⟩
 ·grind [jT]
 ·have:=g b c;unfold jT;rw[if_neg (show ¬J r=J b from this)]
def nn.mono (h:nn M z es v) (a:fl z z'):nn M z' es v:=by
 rcases h with h|⟨r,rfl,b⟩
 ·exact .inl h
 ·exact .inr ⟨r,rfl,by rw[a r (by rw[b];exact fs)];grind⟩
def adI {P:bI} {b a:bV} (K:nX P b M.eo) (V:oK P a M.vc) (c:List (aK×cg)):qG (P.cellsOf b) (P.cellsOf a) (M.cells c) (M.p4 c):=by
 refine ⟨rfl,λp d=> ?_⟩;obtain ⟨x,e,rfl⟩:=l2.1 d;exact ⟨K.len _,V.len _⟩
def adB [DecidableEq aK] {P:bI} {d c:bV} (K:nX P d M.eo) (a:aK) (e:cg):∀b:List (aK×cg),uh (ek P d) (ek P c) (ey (ek P d) (M.eo a)) (ey (ek P c) (M.vc e)) (M.p4 b) (ey (ek P c) (M.vc ((jv b a).getD e))) (jv b a).isSome
 |[]=> .qZ
 |p::b=>by
  simp only[jv];by_cases h:p.1=a
  ·rw[if_pos h];exact .rS (M.eo p.1,M.vc p.2) (M.p4 b) (by grind)
  ·rw[if_neg h];exact .next (M.eo p.1,M.vc p.2) (M.p4 b) _ _ (λf=>h (K.inj _ _ f)) (adB K a e b)
def aeg [DecidableEq aK] {P:bI} {d:bV} (K:nX P d M.eo) (a:aK) (b:cg):∀c:List (aK×cg),uA (ek P d) (M.eo a) (M.vc b) (M.p4 c) (M.p4 (o8 c a b))
 |[]=> .qZ
 |p::c=>by
  simp only[o8];by_cases h:p.1=a
  ·rw[if_pos h];exact .rS (M.eo p.1,M.vc p.2) (M.p4 c) (by grind)
  ·rw[if_neg h];exact .next (M.eo p.1,M.vc p.2) (M.p4 c) _ (λe=>h (K.inj _ _ e)) (aeg K a b c)
def acV {P:bI} {b:bV} (d:List (aK×cg)):∀p∈M.p4 d,∃a,ey (ek P b) p.1=ey (ek P b) (M.eo a):=by
 intro p c;obtain ⟨x,e,rfl⟩:=l2.1 c
 grind
def V6 {P:bI} {d:bV} {e:cg->List af} (V:oK P d e) (b:cg):kz (ey (ek P d) (e b))=aa:=by
 have a:=V.flat b;have f:=V.len b;cases h:ek P d with
 |true=>grind [ey,kz]
 |false=>
  rw[V.one h] at f
  match g:e b,f with
  |[c],_=>rw[g] at a;simp at a;simp only[ey,List.headD_cons];cases c<;>first|exact a|grind [dy]|(simp[dy] at a;simp[a])
variable {P:bI} {ap:bS->af} {o:Oper} {D:Tag->af->Mem->Prop} {x dx:bS} {hZ bG bA:bV} {i:TypeInfo} {a:aK} {z0:cg} {ez ss:af} {ok:Bool}
theorem aex [DecidableEq aK] {r:Nat} (h:o.op= .lookup hZ x dx ok) (j:P.underlying hZ=J (.map bG bA)) (g:P.underlying M.tid=J (.map bG bA)) (K:nX P bG M.eo) (V:oK P bA M.vc) (d:P.info? bA=J i) (e:i.zero=J (ey (ek P bA) (M.vc z0)))
  (c:ap x= .map (J r)) (f:m.blk r= .map (M.cells es) M.tid) (b:ap dx=ey (ek P bG) (M.eo a)):
  fH P ap o m (if ok then .tuple #[ey (ek P bA) (M.vc ((jv es a).getD z0)), .bool (jv es a).isSome] else ey (ek P bA) (M.vc ((jv es a).getD z0))):=
 .lookup hZ x dx ok M.tid bG bA r _ _ i _ _ _ _ h j g (.inl ⟨c,f,adI K V es⟩) K.pos V.one K.keyed (by rw[b];exact K.A4 a) ⟨a,b⟩ (acV es) d e (V6 V z0) (by rw[b];exact adB K a z0 es)
def aty [DecidableEq aK] (h:o.op= .lookup hZ x dx ok) (p:P.underlying hZ=J (.map bG bA)) (l:P.underlying M.tid=J (.map bG bA)) (K:nX P bG M.eo) (V:oK P bA M.vc) (f:P.info? bA=J i) (g:i.zero=J (ey (ek P bA) (M.vc z0)))
  (d:ap x=v) (b:jD M z e m k es v) (q:ap dx=ss) (s:ss=ey (ek P bG) (M.eo a)) {y:Option cg} (c:jv es a=y)
  (n:(if ok then .tuple #[ey (ek P bA) (M.vc (y.getD z0)), .bool y.isSome] else ey (ek P bA) (M.vc (y.getD z0)))=ez):fH P ap o m ez:=by
 obtain ⟨r,rfl,j,_⟩:=b.bT
 grind [aex]
def aeB [DecidableEq aK] (h:o.op= .lookup hZ x dx ok) (p:P.underlying hZ=J (.map bG bA)) (l:P.underlying M.tid=J (.map bG bA)) (K:nX P bG M.eo) (V:oK P bA M.vc) (f:P.info? bA=J i) (g:i.zero=J (ey (ek P bA) (M.vc z0)))
  (d:ap x=v) (b:jD M z e m k es v) (q:ap dx=ss) (r:ss=ey (ek P bG) (M.eo a)) {y:Option cg} (c:jv es a=y)
  (n:(if ok then .tuple #[ey (ek P bA) (M.vc (y.getD z0)), .bool y.isSome] else ey (ek P bA) (M.vc (y.getD z0)))=ez) (j:D (.read λm=>fH P ap o m ez) ez m):cH P ap o m D:=
 cH.read (aty h p l K V f g d b q r c n) j
def atz [DecidableEq aK] (h:o.op= .lookup hZ x dx ok) (j:P.underlying hZ=J (.map bG bA)) (g:P.underlying M.tid=J (.map bG bA)) (K:nX P bG M.eo) (V:oK P bA M.vc) (e:P.info? bA=J i) (f:i.zero=J (ey (ek P bA) (M.vc z0)))
  (d:ap x=v) (k:nn M z es v) (bZ:lk z m) (b:ap dx=ss) (c:ss=ey (ek P bG) (M.eo a)) {y:Option cg} (l:jv es a=y)
  (q:(if ok then .tuple #[ey (ek P bA) (M.vc (y.getD z0)), .bool y.isSome] else ey (ek P bA) (M.vc (y.getD z0)))=ez):fH P ap o m ez:=by
 subst q l;rcases k with ⟨rfl,rfl⟩|⟨r,rfl,n⟩
 ·exact .lookup hZ x dx ok M.tid bG bA 0 [] [] i _ _ _ _ h j g (.inr ⟨d,rfl⟩) K.pos V.one K.keyed (by rw[b,c];exact K.A4 a) ⟨a,b.trans c⟩ (λp s=>by grind) e f (V6 V z0) .qZ
 ·exact aex h j g K V e f d (by rw[(bZ.iD (show (_:bW).iD by rw[n];exact fs)).1];grind) (b.trans c)
def aeC [DecidableEq aK] (h:o.op= .lookup hZ x dx ok) (q:P.underlying hZ=J (.map bG bA)) (n:P.underlying M.tid=J (.map bG bA)) (K:nX P bG M.eo) (V:oK P bA M.vc) (g:P.info? bA=J i) (j:i.zero=J (ey (ek P bA) (M.vc z0)))
  (f:ap x=v) (b:nn M z es v) (c:dL z e m k) (r:ap dx=ss) (s:ss=ey (ek P bG) (M.eo a)) {y:Option cg} (d:jv es a=y)
  (p:(if ok then .tuple #[ey (ek P bA) (M.vc (y.getD z0)), .bool y.isSome] else ey (ek P bA) (M.vc (y.getD z0)))=ez) (l:D (.read λm=>fH P ap o m ez) ez m):cH P ap o m D:=
 cH.read (atz h q n K V g j f b c.bZ r s d p) l
def ar1 {t:bV} (M:ph aK cg) (h:o.op= .makeMap t ae) (i:P.underlying t=J (.map bG bA)) (l:M.tid=t) (a:dL z e m k)
  (j:∀f c,dL z e c k->jD M z e c k [] f->gl m c ae->(∀p,(∀b,p=J b->b<m.next)->e6 p (tH f))->D .new f c):cH P ap o m D:=by
 have d:z m.next= .dead:=by
  cases r:z m.next with
  |dead=>rfl
  |ro s=>have:=(a.bZ m.next (by grind)).2;omega
  |own L t=>have:=(a.bZ m.next (by grind)).2;omega
  |map L t=>have:=(a.bZ m.next (by grind)).2;omega
  |lock _ _ _ _=>have:=(a.bZ m.next (by grind)).2;omega
 refine cH.new (.makeMap t bG bA h i) (j _ _ (a.push _) ⟨m.next,rfl,by grind [Mem.push,ph.cells,ph.p4],by simp[Mem.push],d,a.next⟩ (BN a.dead) λp q b n g=> ?_);cases g
 grind
def as7 [DecidableEq aK] {j f:bS} {b:cg} {F:af} (h:o.op= .mapUpdate hZ x j f\/o.op= .insert hZ x j f) (T:P.underlying hZ=J (.map bG bA)) (S:P.underlying M.tid=J (.map bG bA)) (K:nX P bG M.eo) (V:oK P bA M.vc)
  (I:ap x=v) (A:jD M z e m k es v) (u:ap j=ss) (w:ss=ey (ek P bG) (M.eo a)) (q:ap f=F) (s:F=ey (ek P bA) (M.vc b)) (B:dL z e m k) {E:List (aK×cg)} (U:o8 es a b=E)
  (R:∀l,dL z e l k->jD M z e l k E v->gl m l (tH v)->D .fX undef l):cH P ap o m D:=by
 obtain ⟨r,rfl,Q,g,H,N⟩:=A.bT;subst U;have C:=zm (x:= .map (M.cells (o8 es a b)) M.tid) B.dead g;have W:=V6 V b;have p:=q.trans s;have O:storable (ap f)=aa:=by rw[p];cases i:ey (ek P bA) (M.vc b)<;>first|rfl|grind [kz,dy]|grind [kz,dy,storable]
 have G:∀c∈M.vc b,c∈(ap f).cells.toList:=by
  intro c i;rw[p];cases L:ek P bA with
  |true=>grind [ey,yu]
  |false=>
   have g:=V.len b;rw[V.one L] at g
   match y:M.vc b,g with
   |[d],_=>rw[y] at i;simp at i;subst i;simp only[ey,List.headD_cons];have t:=V.flat b;rw[y] at t;simp at t;cases c<;>first|(simp[dy] at t;done)|simp[yu]
 refine cH.fX (n:=0) (.mapUpdate hZ x j f M.tid bG bA r _ (M.eo a) (M.vc b) _ (M.p4 (o8 es a b)) _ h T S I Q (adI K V es) K.pos K.keyed (u.trans w) (K.len a) (K.flat a) (by rw[u,w];exact K.A4 a) ⟨a,u.trans w⟩ (acV es) O p (V.len b) G (aeg K a b es)) (R _ (B.same C A.bm) ⟨r,rfl,by simp[Mem.put,ph.cells],g,H,N⟩ C)
end
end Go.aF
end
section
namespace Go.aF
section
variable {P:bI} {ap:bS->af} {o:Oper} {x y:bS} {t u:bV} {k afE:aG} {a:Int}
noncomputable instance azh:DecidableEq af:=λ_ _=>Classical.propDecidable _
def I0 (P:bI) (t:bV) (x y:af):Prop:=(∃k c a b,P.underlying t=J (.int c)/\x= .int k a/\y= .int k b)\/(∃a b,P.underlying t=J .bool/\x= .bool a/\y= .bool b)\/(∃a b,P.underlying t=J .string/\x=str a/\y=str b)
def sN (P:bI):List Field->Nat->List af->List af->Prop|[],_,[],[]=>True| f :: bY, i, x :: xs, y :: b4 => f.offset = i ∧ f.name ≠ "_" ∧ I0 P f.type x y ∧ sN P bY (i + 1) xs b4|_,_,_,_=>False
def arv {t:bV} {x y:af} (h:I0 P t x y) (d:Nat) (w:World):(Op.equalIn (d+1) t x y).run P w= .ok (decide (x=y)) w:=by
 rcases h with ⟨k,c,a,b,h,rfl,rfl⟩|⟨a,b,h,rfl,rfl⟩|⟨a,b,h,rfl,rfl⟩
 ·rw[run_equalIn_int w d t k c a b h];congr 1
  grind
 ·rw[run_equalIn_bool' w d t a b h];congr 1
  grind
 ·rw[str,str,run_equalIn_string w d t _ _ h];congr 1
  grind [ByteArray.toList_eq]
def aqm {t:bV} {x y:af} (h:I0 P t x y):ek P t=ak:=by
 rcases h with ⟨k,c,a,b,h,_⟩|⟨a,b,h,_⟩|⟨a,b,h,_⟩<;>simp[ek,h,lI]
def adq {t:bV} {cs:Array af} {i:Nat} {v:af} (c:ek P t=ak) {d:TypeDesc} (b:P.underlying t=J d) (a:cs[i]? =J v) (w:World):(part t cs i).run P w= .ok v w:=by
 simp_all [ek,part,sb]
def arw {t:bV} {x y:af} (h:I0 P t x y):∃d,P.underlying t=J d:=by
 rcases h with ⟨k,c,a,b,h,_⟩|⟨a,b,h,_⟩|⟨a,b,h,_⟩<;>exact ⟨_,h⟩
def acn {pre pre':List af} (d:Nat) (w:World):∀{e:List Field} {i:Nat} {b a:List af},sN P e i b a->pre.length=i->pre'.length=i->(Op.eqFields (d+1) (pre++b).toArray (pre'++a).toArray e).run P w= .ok (decide (b=a)) w
 |[],i,[],[],_,_,_=>by rfl
 |f::e,i,x::b,y::a,⟨r,l,c,m⟩,q,s=>by
  obtain ⟨p,g⟩:=arw c;have j:=aqm c;have n:=adq (P:=P) (cs:=(pre++x::b).toArray) (i:=f.offset) (v:=x) j g (by grind) w;have o:=adq (P:=P) (cs:=(pre'++y::a).toArray) (i:=f.offset) (v:=y) j g (by grind) w;have k:=acn (pre:=pre++[x]) (pre':=pre'++[y]) d w m (by grind) (by grind);simp only[List.append_assoc,List.singleton_append] at k;simp only[Op.eqFields];rw[if_pos l];simp only[kD,n,o,jE,arv c d w];by_cases t:x=y
  ·simp_all
  simp_all
 |[],_,_::_,_,h,_,_=>h.elim
 |[],_,[],_::_,h,_,_=>h.elim
 |_::_,_,[],_,h,_,_=>h.elim
 |_::_,_,_::_,[],h,_,_=>h.elim
def asM {b:Array Field} {c a:List af} (f:P.underlying t=J (.struct b)) (e:P.stoodInHeld t=ak) (h:sN P b.toList 0 c a) (w:World):(Op.equalIn 10000 t (.agg c.toArray) (.agg a.toArray)).run P w= .ok (decide (c=a)) w:=by
 have d:P.fieldsOf t=b:=by grind [bI.fieldsOf]
 rw[show (10000:Nat)=9998+1+1 from rfl,run_equalIn_struct w _ t _ _ (by grind) e,d];have:=acn (P:=P) (pre:=[]) (pre':=[]) 9998 w h rfl rfl
 grind
theorem sN.flat:∀{e:List Field} {i:Nat} {d c:List af},sN P e i d c->d.all dy=aa/\c.all dy=aa
 |[],i,[],[],_=>⟨rfl,rfl⟩
 |f::e,i,x::d,y::c,⟨_,_,g,j⟩=>by
  obtain ⟨l,m⟩:=sN.flat j;have:dy x=aa/\dy y=aa:=by rcases g with ⟨k,n,a,b,h,rfl,rfl⟩|⟨a,b,h,rfl,rfl⟩|⟨a,b,h,rfl,rfl⟩<;>exact ⟨rfl,rfl⟩
  grind
 |[],_,_::_,_,h=>h.elim
 |[],_,[],_::_,h=>h.elim
 |_::_,_,[],_,h=>h.elim
 |_::_,_,_::_,[],h=>h.elim
def abN {d:Array Field} {c b:List af} {r:Bool} (a:Bool) (h:o.op= .binOp (if a then .neq else .eql) t x y u) (f:P.underlying t=J (.struct d)) (g:P.stoodInHeld t=ak) (n:P.eqGuardType P.depth t=ak) (e:sN P d.toList 0 c b)
  (m:ap x= .agg c.toArray) (l:ap y= .agg b.toArray) (k:r=aa↔c=b):dD P ap o (.bool (if a then !r else r)):=by
 have p:=e.flat;refine tF (x:=x) (y:=y) (by rw[h];rfl) (by grind) (by grind [flat,kz]) (by grind [flat,kz]) rfl λw=> ?_;have j:=asM f g e w;have i:decide (c=b)=r:=by
  grind
 rw[i] at j;cases a with
 |false=>simp_all [execOp,run_eqGuard_agg,run_eql_struct]
 |true=>simp_all [execOp,run_eqGuard_agg,run_neq_struct]
end
section
variable {aK:Type} {T:cM aK} {z:Nat->bW} {e m:Mem} {k:Option Nat} {xs:List aK} {v:af} {t:bV}
variable {P:bI} {ap:bS->af} {o:Oper} {x:bS} {i:TypeInfo} {D:Tag->af->Mem->Prop}
end
@[reducible] def azf (n:Int):af:= .int .i64 n
@[reducible] def aze (b:Bool):af:= .bool b
@[reducible] def azg (b:Nat):af:= .pointer (J ⟨b,0,ae⟩)
section
variable {P:bI} {ops l:List Oper} {K:(Nat->af)->Mem->Prop} {fr:Nat->af} {m:Mem} {o:Oper} {v:af}
def avI (a:wanted ops fr o=aa) (h:dD P (bk fr) o v) (b:ea P ops l K (set fr o.dst v) m):ea P ops (o::l) K fr m:=ea.Ue a (cH.pure h b)
def jW {j d:Nat} {a b:Bool} (g:o.guard=J (j,a)) (f:(ops[j]?).bind (·.dst)=J d) (c:fr d= .bool b) (e:b= !a) (h:ea P ops l K (set fr o.dst undef) m):ea P ops (o::l) K fr m:=ea.P3 g f c e h
end
structure aw3 {aK:Type} (T:cM aK) (z:Nat->bW) (e m:Mem) (k:Option Nat) (xs:List aK) (v:af):Prop where
 bT:fO T z m xs v
 fresh:∀b,da v=J b->e.next<=b\/k=J b
section
variable {aK:Type} {T:cM aK} {z z':Nat->bW} {e m m':Mem} {k q:Option Nat} {xs:List aK} {v v0:af} {t:bV}
variable {P:bI} {ap:bS->af} {o:Oper} {w:af} {b4:List aK} {x y:bS} {u:bV} {i:TypeInfo} {K:af->Mem->Prop} {D:Tag->af->Mem->Prop}
end
end Go.aF
end
section
namespace Go.aF
theorem acB (w:World):∀b,(ig w).next<=b->(ig w).blk b= .dead:=(ad8 w).dead
def as' (w:World):lk (ig w).blk (ig w):=λb a=>⟨by
 grind [ig,bW.mem],by
 grind [acB]⟩
def Wn {w:World} {b:Nat} (h:b<w.heap.size):((ig w).blk b).iD:=by
 grind [ig,bW.iD]
def apo {w:World} {b o:Nat} {v:af} (h:(ig w).load b o=J v):nH (ig w).blk b o=J v:=by
 grind [Mem.load,nH]
open Classical in
noncomputable def seen (w:World) (b:Nat) (c:af):af:=if eA (h5 w) c c then c else (xt b c).getD c
theorem wT {w:World} {b:Nat} {c:af} (h:eA (h5 w) c c):seen w b c=c:=by simp[seen,h]
def wO (w:World) (c:af):Prop:=eA (h5 w) c c\/∃a,c= .slice (J a) 0 0
def B4 {w:World} {c:af} (h:dy c=aa):wO w c:= .inl (q4 h)
def BO {w:World} {b:Nat} {c:af} (h:dy c=aa):seen w b c=c:=wT (q4 h)
def ayZ {w:World} {b:Nat} {c:af} (h:wO w c) (e:b<w.heap.size):eA (h5 w) (seen w b c) c:=by
 by_cases d:eA (h5 w) c c
 ·rw[wT d];exact d
 ·rcases h with h|⟨a,rfl⟩
  ·exact absurd h d
  ·simp only[seen,d,if_false,xt,IV];exact ⟨⟨b,0,0,0⟩,rfl,by simp[h5,e], .inr (.inr (.inr (.inl ⟨rfl,rfl,a,rfl⟩)))⟩
def arF {w:World} {b o:Nat} {c:af} (h:wO w c) (e:w.cell? ⟨b,o,ae⟩=J c):(ig w).load b o=J (seen w b c):=by
 have f:b<w.heap.size:=I8 w ⟨b,o,ae⟩ e;by_cases d:eA (h5 w) c c
 ·rw[wT d];exact arb e d
 ·rcases h with h|⟨a,rfl⟩
  ·exact absurd h d
  ·simp[Mem.load,ig,f,e,d,xt,seen]
def aqX {w:World} {a:Addr} {v:af} (h:w.cell? a=J v):a.spot=ae/\a.block<w.heap.size:=by
 refine ⟨?_,I8 w a h⟩;simp only[World.cell?] at h;split at h
 ·simp_all
 grind
structure po (P:bI) {aK:Type} (T:cM aK) (G:aK->Prop):Prop where
 bM:P.cellsOf T.tid=T.bM
 pos:0<T.bM
 rd:∀{H:Type} {enc:bV×af->H} {w:World} {lp:Nat} {cs:List af} {x:DataW H×List MemPlace},ua enc P w 0 (λ_=>aa) aa lp T.tid cs=J x->
  (∀c∈cs,wO w c)/\∀b,(b<w.heap.size\/∀c∈cs,eA (h5 w) c c)->∃a,T.rd (ig w).blk a (cs.map (seen w b))/\G a
def po.conv {P:bI} {b:Type} {T AN:cM b} {G:b->Prop} (h:po P T G) (a:AN.tid=T.tid) (c:AN.bM=T.bM) (f:∀z x d,T.rd z x d->AN.rd z x d):po P AN G where
 bM:=by rw[a,c];exact h.bM
 pos:=by rw[c];exact h.pos
 rd:=λe=>by
  rw[a] at e;obtain ⟨i,g⟩:=h.rd e
  grind
def aal (k:aG) (n:Int):Prop:=k.min<=n/\n<=k.max
def aan (s:List UInt8):Prop:=s.length<=maxLen
def aak {a:Type} (_:a):Prop:=True
def A6 {a:Type} (G:a->Prop) (b:List a):Prop:=b.length<=maxLen/\∀x∈b,G x
def asD {P:bI} {t:bV} {k:aG} {i:TypeInfo} (d:P.underlying t=J (.int k)) (e:P.info? t=J i) (f:i.size=1):po P (I4 t k) (aal k) where
 bM:=by grind [I4,cM.flat,nY]
 pos:=by simp[I4,cM.flat]
 rd:=λh=>by obtain ⟨n,rfl,_,g⟩:=DataW.trod_int d h;exact ⟨λc a=>by simp at a;subst a;exact B4 rfl,λb _=>⟨n,by simp[I4,cM.flat,BO (w:=_) (b:=b) (c:= .int k n) rfl],by grind [Lit.wf,aal]⟩⟩
def ay3 {P:bI} {t:bV} {i:TypeInfo} (d:P.underlying t=J (.int .u8)) (f:P.info? t=J i) (g:i.size=1):po P (kE t) aak where
 bM:=by grind [kE,cM.flat,nY]
 pos:=by simp[kE,cM.flat]
 rd:=λh=>by
  obtain ⟨n,rfl,_,e⟩:=DataW.trod_int d h;refine ⟨λc a=>by simp at a;subst a;exact B4 rfl,λb _=>⟨AO n.toNat, ?_,trivial⟩⟩;simp[Lit.wf,aG.min,aG.max,aG.signed,pP] at e;have:((AO n.toNat).toNat:Int)=n:=by simp;omega
  show [mu .u8 n].map (seen _ b)=[mu .u8 ((AO n.toNat).toNat:Int)];rw[this];simp[BO (w:=_) (b:=b) (c:= .int .u8 n) rfl]
def ay0 {P:bI} {t:bV} {i:TypeInfo} (d:P.underlying t=J .bool) (e:P.info? t=J i) (f:i.size=1):po P (Cn t) aak where
 bM:=by grind [Cn,cM.flat,nY]
 pos:=by simp[Cn,cM.flat]
 rd:=λh=>by obtain ⟨n,rfl,_⟩:=DataW.trod_bool d h;exact ⟨λc a=>by simp at a;subst a;exact B4 rfl,λb _=>⟨n,by simp[Cn,cM.flat,BO (w:=_) (b:=b) (c:= .bool n) rfl],trivial⟩⟩
def ay1 {P:bI} {t:bV} {i:TypeInfo} (d:P.underlying t=J .string) (f:P.info? t=J i) (e:i.size=1):po P (I5 t) aan where
 bM:=by grind [I5,cM.flat,nY]
 pos:=by simp[I5,cM.flat]
 rd:=λh=>by obtain ⟨n,rfl,_,e⟩:=DataW.trod_string d h;exact ⟨λc a=>by simp at a;subst a;exact B4 rfl,λb _=>⟨n.data.toList,by simp[I5,cM.flat,str,BO (w:=_) (b:=b) (c:= .string n) rfl],by simp_all [aan]⟩⟩
def aeb {P:bI} {z:Type} {T:cM z} {G:z->Prop} {t:bV} (S:po P T G) (aJ:P.underlying t=J (.slice T.tid)) {H:Type} {Q:bV×af->H} {w:World} {lp:Nat} {Z:List af} {x:DataW H×List MemPlace}
  (h:ua Q P w 0 (λ_=>aa) aa lp t Z=J x):∃c,Z=[c]/\wO w c/\∀b,(b<w.heap.size\/eA (h5 w) c c)->∃o,fA T (ig w).blk o (seen w b c)/\A6 G o:=by
 rcases Deep.open_slice aJ h with ⟨rfl,_⟩|⟨a,len,cap,m,n,D,ago,rfl,_,W,R,lN,_,M⟩
 ·exact ⟨_,rfl,B4 rfl,λb _=>⟨[],by rw[BO rfl];exact .nil,by simp[A6]⟩⟩
 ·simp only[if_true] at lN;subst lN;refine ⟨_,rfl, ?_⟩;rcases Nat.eq_zero_or_pos m with bR|hh
  ·subst bR;have hV:len=0:=by omega
   subst hV;refine ⟨.inr ⟨a,rfl⟩,λb q=>⟨[], ?_,by simp[A6]⟩⟩;by_cases p:eA (h5 w) (.slice (J a) 0 0) (.slice (J a) 0 0)
   ·rw[wT p];obtain ⟨e,h1,X,_⟩:=p;obtain ⟨d,f,I⟩:=a;simp only at h1 X;subst h1;exact .inr ⟨d,f,0,rfl,Wn (w1 X).1, .inr ⟨by simp[dc],e4 _⟩,λi x g=>by simp at g⟩
   ·have q:b<w.heap.size:=by
     rcases q with q|q
     ·exact q
     ·exact absurd q p
    simp only[seen,p,if_false,xt,IV];exact .inr ⟨b,0,0,rfl,Wn q, .inr ⟨by simp[dc],e4 _⟩,λi x g=>by simp at g⟩
  ·have Y:=S.bM;have bb:=S.pos;obtain ⟨V,g1,_⟩:=M 0 hh;obtain ⟨_,g2,g3⟩:=World.cells?_some g1;rw[Y] at g2 g3;have K:=g3 0 bb;obtain ⟨v0,yY⟩:∃v,V[0]? =J v:=⟨V[0]'(by omega),by simp[show 0<V.length by omega]⟩
   rw[yY] at K;simp only[Nat.zero_mul] at K;have JI:(a.add 0).add 0=a:=by simp[Addr.add]
   rw[JI] at K;obtain ⟨B,k⟩:=aqX K;obtain ⟨d,f,I⟩:=a;simp only at B k;subst B;have p:eA (h5 w) (.slice (J ⟨d,f,ae⟩) len m) (.slice (J ⟨d,f,ae⟩) len m):=
    ⟨⟨d,0,0,0⟩,rfl,by simp[h5,k], .inl ⟨by simp only[maxLen] at R;simp only[dc];omega,by simp⟩⟩
   refine ⟨.inl p,λb _=> ?_⟩;rw[wT p];have L:∀i,i<len->∃y:z,G y/\∃F,T.rd (ig w).blk y F/\o2 (ig w).blk d (f+i*T.bM) F:=by
    intro i g;obtain ⟨ci,cL,c9⟩:=M i (by omega);obtain ⟨_,fo,k4⟩:=World.cells?_some cL;rw[Y] at fo k4;obtain ⟨eT,e0⟩:=S.rd c9;obtain ⟨y,A,U⟩:=e0 d (.inl k);refine ⟨y,U,_,A,λj u r=> ?_⟩;rw[sH] at r;cases C:ci[j]? with
    |none=>rw[C] at r;cases r
    |some c=>rw[C] at r;simp at r;subst r;have aaO:=(fq.1 C).1;have wH:=k4 j (by omega);rw[C,o4,o4] at wH;exact apo (arF (eT c (mM C)) wH)
   have:∃o:List z,o.length=len/\(∀y∈o,G y)/\∀(i:Nat) (y:z),o[i]? =J y->∃F,T.rd (ig w).blk y F/\o2 (ig w).blk d (f+i*T.bM) F:=by
    clear M W R p g1 hh;revert L;generalize len=l;induction l with
    |zero=>intro _;exact ⟨[],rfl,λy A=>by simp at A,λi y g=>by simp at g⟩
    |succ l a1=>
     intro L;obtain ⟨o,E,O,N⟩:=a1 λi g=>L i (by omega);obtain ⟨y,U,A⟩:=L l (by omega);refine ⟨o++[y],by simp[E],λu s=>by rcases List.mem_append.1 s with s|s;exact O u s;simp at s;subst s;exact U,λi u g=> ?_⟩;by_cases aaK:i<l
     ·rw[kS (by omega)] at g;exact N i u g
     ·have cF:=(fq.1 g).1;simp at cF;have:i=l:=by omega
      subst this;rw[kT (by omega)] at g;simp[E] at g;subst g;exact A
   obtain ⟨o,E,O,N⟩:=this;refine ⟨o, .inr ⟨d,f,m,by rw[E],Wn k, .inr ⟨by simp only[maxLen] at R;simp only[dc];omega,by rw[E];exact W⟩,N⟩,by omega,O⟩
def ay2 {P:bI} {a:Type} {T:cM a} {G:a->Prop} {t:bV} {i:TypeInfo} (k:po P T G) (e:P.underlying t=J (.slice T.tid)) (n:P.info? t=J i) (o:i.size=1):po P (TV t T) (A6 G) where
 bM:=by grind [TV,nY]
 pos:=by simp[TV]
 rd:=λh=>by obtain ⟨c,rfl,q,f⟩:=aeb k e h;refine ⟨λd p=>by grind,λb j=> ?_⟩;obtain ⟨m,g,l⟩:=f b (j.imp id λh=>h c (by simp));exact ⟨m,⟨_,rfl,g⟩,l⟩
def asn {P:bI} {k:Type} {T:cM k} {G:k->Prop} {t:bV} (y:po P T G) (j:P.underlying t=J (.slice T.tid)) {H:Type} {i:bV×af->H} {w:World} {b:Nat} {v:af} {d:DataW H} {s:List MemPlace}
  (g:AQ P w .any b t v) (h:Tt i P w 0 (λ_=>aa) aa t v d s):de (h5 w) v v/\∃o,fA T (ig w).blk o v/\A6 G o:=by
 obtain ⟨L,q⟩:=h;obtain ⟨c,F,I,E⟩:=aeb y j q;have C:eA (h5 w) v v/\c=v:=by
  simp only[AQ,j,Tr,Cell.ok] at g;cases v with
  |slice a l p=>
   have x:c= .slice a l p:=by grind [yu]
   refine ⟨?_,x⟩;cases a with
   |none=>rfl
   |some a=>
    simp only at g;obtain ⟨D,K,u⟩:=g;obtain ⟨_,m,A,f,B,_⟩:=u;have r:a.block<w.heap.size:=by
     grind [World.shape?]
    obtain ⟨e,z,n⟩:=a;simp only at m r;subst m;refine ⟨⟨e,0,0,0⟩,rfl,by grind [h5], .inl ⟨?_,by simp⟩⟩
    grind [aG.max,aG.signed,pP,dc]
  |_=>grind
 simp_all [de.qh,wT]
theorem ast {P:bI} {w:World} {b:Nat} {u:bV} {c:af} (h:Tr P w .any b u c) (g:wO w c):eA (h5 w) c c:=by
 rcases g with g|⟨a,rfl⟩
 ·grind
 ·cases l:P.underlying u with
  |none=>simp_all [Tr,Cell.ok]
  |some d=>
   cases d<;>simp only[Tr,Cell.ok,l] at h
   obtain ⟨_,_,_,i,n,f,o,_⟩:=h;have k:a.block<w.heap.size:=by
    grind [World.shape?]
   obtain ⟨e,m,j⟩:=a;simp only at i k;subst i;exact ⟨⟨e,0,0,0⟩,rfl,by grind [h5], .inl ⟨by simp[dc],by simp⟩⟩
def asm {P:bI} {j:Type} {T:cM j} {G:j->Prop} {s:Array Field} {H:Type} {e:bV×af->H} {w:World} {f:Nat} {v:af} {d:DataW H} {g:List MemPlace}
  (t:∀{i:Nat} {b:List af},ua e P w 0 (λ_=>aa) aa i T.tid b=J (d,g)->(∀c∈b,wO w c)/\((∀c∈b,eA (h5 w) c c)->∃a,T.rd (ig w).blk a b/\G a)) (o:P.underlying T.tid=J (.struct s))
  (m:AQ P w .any f T.tid v) (h:Tt e P w 0 (λ_=>aa) aa T.tid v d g):de (h5 w) v v/\∃x b,v= .agg b.toArray/\T.rd (ig w).blk x b/\G x:=by
 obtain ⟨i,A⟩:=h;simp only[AQ,o] at m;obtain ⟨b,rfl,C,E,p,_,F⟩:=m;have z:ua e P w 0 (λ_=>aa) aa i T.tid b.toList=J (d,g):=by grind [yu]
 obtain ⟨D,q⟩:=t z;have u:∀c∈b.toList,eA (h5 w) c c:=by
  grind [List.getElem?_of_mem,ast]
 obtain ⟨x,r,y⟩:=q u;refine ⟨⟨b,rfl, ?_⟩,x,b.toList,by rfl,r,y⟩;have:∀l:List af,(∀c∈l,eA (h5 w) c c)->bP (eA (h5 w)) l l:=by
  intro l;induction l with
  |nil=>intro _;exact fs
  |cons c l n=>intro k;exact ⟨k c (by simp),n λd B=>k d (by grind)⟩
 grind
def ayX {P:bI} {e:Type} {T:cM e} {G:e->Prop} {j:Array Field} (n:po P T G) (g:P.underlying T.tid=J (.struct j)) {H:Type} {b:bV×af->H} {w:World} {a:Nat} {v:af} {d:DataW H} {k:List MemPlace}
  (m:AQ P w .any a T.tid v) (h:Tt b P w 0 (λ_=>aa) aa T.tid v d k):de (h5 w) v v/\∃x f,v= .agg f.toArray/\T.rd (ig w).blk x f/\G x:=
 asm (λh=>(n.rd h).imp id λi o=>by
  obtain ⟨x,q,r⟩:=i 0 (.inr o);have:∀l:List af,(∀c∈l,eA (h5 w) c c)->l.map (seen w 0)=l:=by
   intro l;induction l with
   |nil=>grind
   |cons c l p=>grind [wT]
  grind) g m h
def axt {P:bI} {H:Type} {a:bV×af->H} {w:World} {n:Nat} {b:Array Field} {c:List af} {e:List (DataW H×List MemPlace)} (d:e.length=b.size)
  (h:∀(i:Nat) (f:Field),b[i]? =J f->ua a P w 0 (λ_=>aa) aa n f.type ((c.drop f.offset).take (P.cellsOf f.type))=e[i]?) (i:Nat) {f:Field} (g:b[i]? =J f):
  ∃y,ua a P w 0 (λ_=>aa) aa n f.type ((c.drop f.offset).take (P.cellsOf f.type))=J y:=by
 grind
def ayY {P:bI} {j:Type} {T:cM j} {t e:bV} (l:P.underlying t=J (.slice e)) {H:Type} {g:bV×af->H} {w:World} {v:af} {d:DataW H} {r:List MemPlace} {z:Nat->bW} {i:List j}
  (h:Tt g P w 0 (λ_=>aa) aa t v d r) (q:fA T z i v):i.length=0\/∃k f,d= .slice k f/\k.length=i.length:=by
 obtain ⟨B,p⟩:=h;rcases q with ⟨rfl,rfl⟩|⟨b,u,c,rfl,_⟩
 ·grind
 ·rcases Deep.open_slice l p with ⟨A,_⟩|⟨a,len,s,m,n,D,o,y,_,_,_,_,x,_⟩
  ·grind [yu]
  grind [yu]
end Go.aF
end
section
namespace Go.aF
section
variable {z:Nat->bW} {e m:Mem} {k:Option Nat} {b n:Nat} {cs:List af} {t:bV} {v:af}
variable {P:bI} {ap:bS->af} {o:Oper} {x:bS} {i:TypeInfo} {D:Tag->af->Mem->Prop}
def jQ.apq (h:jQ z e m k b cs t) (a:dL z e m k):∃f,fl z f/\dL f e m k/\o2 f b 0 cs/\∀p,e6 p (J b)->∀c,p=J c->f c=z c:=by
 refine ⟨jT z m (J b),Cj λc d=>by cases d;exact h.dead,⟨Lj a.bZ (λc d=>by cases d;exact ⟨h.lt,by rw[h.blk];rfl⟩),a.dead,a.oL,a.next,a.kept⟩,λj u i=> ?_,λp g c d=> ?_⟩
 ·simp only[nH,jT,if_true,h.blk,lH];grind
 ·unfold jT;rw[if_neg (g c d)]
def jQ.freeze (h:jQ z e m k b cs t) (n:e.next<=b) (a:dL z e m k):∃f,dT e.next z f/\dL f e m k/\o2 f b 0 cs/\∀p,e6 p (J b)->∀c,p=J c->f c=z c:=by
 obtain ⟨f,r,l,i,q⟩:=h.apq a;refine ⟨jT z m (J b),⟨Cj λc d=>by cases d;exact h.dead,λc d=> ?_⟩,⟨Lj a.bZ (λc d=>by cases d;exact ⟨h.lt,by rw[h.blk];rfl⟩),a.dead,a.oL,a.next,a.kept⟩,λj u o=> ?_,λp g c d=> ?_⟩
 ·grind [jT]
 ·simp only[nH,jT,if_true,h.blk,lH];grind
 ·unfold jT;rw[if_neg (g c d)]
def as4 (h:o.op= .alloc t) (q:P.info? t=J i) {a:af} (u:i.zero=J a) (w:a.cells.toList.all dy=aa) (r:a.cells.size=i.size) (g:List af) (n:a.cells.toList=g) (f:dL z e m k)
  (x:∀b d,e.next<=b->dL z e d k->jQ z e d k b g t->gl m d ae->(∀p,(∀c,p=J c->c<m.next)->e6 p (J b))->D .new (.pointer (J ⟨b,0,ae⟩)) d):cH P ap o m D:=by
 subst n;obtain ⟨l,j,s,v⟩:=Xj (L:=a.cells.toList) (t:=t) f;exact cH.new (.alloc t i a h q u w r) (x _ _ f.next l j s v)
def ave (h:o.op= .box t x) (r:P.info? t=J i) (n:ap x=v) (g:storable v=aa) (d:List af) (q:v.cells.toList=d) (y:d.length=i.size) (f:dL z e m k)
  (w:∀b a,e.next<=b->dL z e a k->jQ z e a k b d t->gl m a ae->(∀p,(∀c,p=J c->c<m.next)->e6 p (J b))->D .new (.pointer (J ⟨b,0,ae⟩)) a):cH P ap o m D:=by
 subst n q;obtain ⟨l,j,s,u⟩:=Xj (L:=(ap x).cells.toList) (t:=t) f;exact cH.new (.box t x i h r g (by grind)) (w _ _ f.next l j s u)
def aeG {fn:Fn} {b:Array bS} {a:Array af} (h:o.op= .makeFunc fn #[] b) (c:b.map ap=a) (e:a.toList.all storable=aa):dD P ap o (.func fn #[] a):=by
 subst c;have:=dD.func (P:=P) (ap:=ap) (o:=o) fn #[] b h (λx d=>by
  grind)
 grind
def B2 {f:FuncId} {y:bS} {b:Array bS} {c:Array bV} {args caps a:Array af} (h:o.op= .call {callee:= .value y,args:=b,argTypes:=c}) (d:ap y= .func (.func f) #[] caps) (e:b.map ap=args) (g:args++caps=a):callee o ap f a:=
 ⟨_,b,c,#[],caps,h,d,by grind⟩
end
open Classical in
noncomputable def wK {b a:Type} (c:List b) (f:Bool->Option a):Option a:=if c=[] then (if f aa=f ak then f aa else ae) else f ak
def KF {e c:Type} {b:List e} {f:Bool->Option c} {r:c} (h:wK b f=J r) (t:Bool) (d:t=aa->b=[]):f t=J r:=by
 unfold wK at h;by_cases a:b=[]
 ·rw[if_pos a] at h;split at h
  ·cases t
   ·rename_i g;rw[<-g];exact h
   ·exact h
  ·cases h
 ·rw[if_neg a] at h;cases t
  ·exact h
  ·exact absurd (d rfl) a
def atc {d c:Type} {b:List d} {f:Bool->Option c} {r:c} (h:∀t,(t=aa->b=[])->f t=J r):wK b f=J r:=by
 unfold wK;by_cases a:b=[]
 ·rw[if_pos a,if_pos (by rw[h aa λ_=>a,h ak (by simp)])];exact h aa λ_=>a
 ·rw[if_neg a];exact h ak (by simp)
section
variable {aK cg:Type} {T:cM aK} {z:Nat->bW} {e m:Mem} {k:Option Nat} {xs:List aK} {v:af} {t u:bV} {f:Bool->Option cg} {r:cg}
variable {P:bI} {ap:bS->af} {o:Oper} {x y:bS} {hE:bV}
def KW (a:Bool) (h:o.op= .binOp (if a then .neq else .eql) t x y u) (d:P.underlying t=J (.slice hE)) (c:ap x= .slice ae 0 0) (b:ap y= .slice ae 0 0):dD P ap o (.bool (!a)):=by
 refine tF (x:=x) (y:=y) (by rw[h];rfl) (by grind) (by rw[c];rfl) (by rw[b];rfl) rfl λw=> ?_
 grind [eqGuard,Lib.run_eql_slice_nil,run_neq_slice_nil_any,execOp,kD,jE,Sem.run_pure]
def fA.VU (h:fA T z xs v):(v= .slice ae 0 0/\xs=[])\/∃a l c,v= .slice (J a) l c:=by
 rcases h with h|⟨b,d,c,rfl,_⟩
 ·grind
 grind
def fO.VU (h:fO T z m xs v):(v= .slice ae 0 0/\xs=[])\/∃a l c,v= .slice (J a) l c:=by
 rcases h with h|⟨b,d,L,c,rfl,_⟩
 ·grind
 grind
end
end Go.aF
end
section
namespace Go.aF
section
variable {aK:Type} {T:cM aK} {z z':Nat->bW} {e m m':Mem} {k p q:Option Nat} {xs r:List aK} {v:af} {t u:bV} {b:Nat}
variable {P:bI} {ap:bS->af} {o:Oper} {x y:bS} {i:TypeInfo} {D:Tag->af->Mem->Prop} {hE:bV}
def Lz (h:o.op= .call {callee:= .builtin .len,args:=#[x],argTypes:=#[t]}) (b:P.underlying t=J (.slice hE)) (d:ap x=v) (e:∃a c,v= .slice a xs.length c):dD P ap o (.int .i64 xs.length):=by
 obtain ⟨a,c,rfl⟩:=e;exact .len x t hE a _ c h b d
def dU.elem {n:Int} {a:aK} {g l c:Nat} (h:dU T z e m k xs v) (i:v= .slice (J ⟨b,g,ae⟩) l c) (r:al xs n=J a):
  ∃d,T.rd z a d/\xs[n.toNat]? =J a/\∀(j:Nat) (u:af),d[j]? =J u->m.load b (g+n.toNat*T.bM+j)=J u:=by
 obtain ⟨x,C,f⟩:=o3 r;rcases h.bT with ⟨_,rfl⟩|⟨A,B,L,y,rfl,o,_,_,w,_,q⟩
 ·grind
 ·obtain ⟨d,s,t⟩:=q _ a f;cases i;exact ⟨d,s,f,λj u p=>by simp only[Mem.load,o];exact t j u p⟩
def cM.as (T:cM aK) (t:bV):cM aK:={T with tid:=t}
def as3 {x0:aK} {n:Nat} {c:List af} (h:o.op= .alloc t) (F:P.info? t=J i) {a:af} (K:i.zero=J a) (N:a.cells.toList.all dy=aa) (G:a.cells.size=i.size) (E:a.cells.toList=(gb n c).flatten) (y:T.rd z x0 c) (U:mn n dc=aa) (r:dL z e m k)
  (O:∀b f,dL z e f k->dU (T.as t) z e f k (gb n x0) (.slice (J ⟨b,0,ae⟩) n n)->gl m f ae->(∀p,(∀c,p=J c->c<m.next)->e6 p (J b))->D .new (.pointer (J ⟨b,0,ae⟩)) f):cH P ap o m D:=by
 obtain ⟨A,g,I,M⟩:=Xj (L:=a.cells.toList) (t:=t) r;have d:=T.len _ _ _ y;have S:a.cells.toList.length=n*T.bM:=by simp_all
 have Q:n<dc:=by simp_all
 refine cH.new (.alloc t i a h F K N G) (O _ _ A ⟨fO.AW ⟨m.next,a.cells.toList,n,by simp,g.blk,g.lt,g.dead, ?_, .inr ⟨Q,by simp, ?_⟩,λj x v=> ?_⟩,λb C=>by cases C;exact r.next⟩ I M)
 ·grind [cM.as]
 ·grind [cM.as]
 ·obtain ⟨w,s⟩:=fq.1 v;simp at w s;subst s;refine ⟨c,y,λq u H=> ?_⟩;have B:=(fq.1 H).1;rw[E];have l:∀(n j:Nat),j<n->(gb n c).flatten[j*T.bM+q]? =J u:=by
   intro n;induction n with
   |zero=>grind
   |succ n R=>
    intro j v;rw[YZ,yn];cases j with
    |zero=>grind
    |succ j=>
     rw[kT (by grind),d,show (j+1)*T.bM+q - T.bM=j*T.bM+q by grind]
     grind
  exact l n j w
def avg {g:aG} {n:Int} {a:aK} {l:Nat} (h:o.op= .indexAddr t x y) (p:P.underlying t=J (.array l hE)) (s:P.info? hE=J i) (E:i.size=T.bM) (r:ap x= .pointer (J ⟨b,0,ae⟩)) (q:ap y= .int g n) (d:dU T z e m k xs (.slice (J ⟨b,0,ae⟩) l l)) (f:al xs n=J a)
  (L:∀c,T.rd z a c->xs[n.toNat]? =J a->(∀(j:Nat) (u:af),c[j]? =J u->m.load b (n.toNat*T.bM+j)=J u)->D .pure (.pointer (J ⟨b,n.toNat*T.bM,ae⟩)) m):cH P ap o m D:=by
 obtain ⟨c,F,G,H⟩:=d.elem rfl f;obtain ⟨v,I,B⟩:=o3 f;have A:xs.length=l:=by
  obtain ⟨w,C,K⟩:=d.bT.len
  grind
 have:=dD.J4 (P:=P) (ap:=ap) (o:=o) t x y hE i b 0 l g n h p s r q v (by grind)
 grind [cH.pure]
end
end Go.aF
end
section
namespace Go.aF
def AY {c:Type} (d:List c) (a b:Int):Option (List c):=if 0<=a/\a<d.length/\b=a+1 then J (d.eraseIdx a.toNat) else ae
def oe:Code->Array Oper| .region _ a _=>a|_=>#[]
def wD:Code->Nat| .region i _ _=>i| .block i _=>i|_=>0
def np:List Oper->List (Option Nat×Op)->Prop|[],[]=>True|o::b,p::a=>(o.dst=p.1/\o.op=p.2/\o.guard=ae)/\np b a|_,_=>False
def np.of:∀{l:List Oper} {a:List (Option Nat×Op)},(l.map λo=>(o.dst,o.op,o.guard))=a.map (λp=>(p.1,p.2,ae))->np l a
 |[],[],_=>trivial
 |[],_::_,h=>by grind
 |_::_,[],h=>by grind
 |o::b,p::a,h=>by simp only[rA,List.cons.injEq,Prod.mk.injEq] at h;exact ⟨h.1,np.of h.2⟩
def np.nil {l:List Oper} (h:np l []):l=[]:=by
 cases l with
 |nil=>rfl
 |cons _ _=>exact h.elim
section
variable {P:bI} {K:(Nat->af)->Mem->Prop} {fr:Nat->af} {m m1:Mem} {v:af} {ops l:List Oper}
def ea.op {p:Option Nat×Op} {b:List (Option Nat×Op)} (h:np l (p::b)) (e:∀q:Oper,q.op=p.2->ln P (jn P 0) (bk fr) q m v m1) (k:∀a,np a b->ea P ops a K (set fr p.1 v) m1):ea P ops l K fr m:=by
 cases l with
 |nil=>exact h.elim
 |cons o a=>
  obtain ⟨⟨g,d,c⟩,f⟩:=h
  grind [ea.cons,wanted,mr.of]
def ea.end (h:np l []) (k:K fr m):ea P ops l K fr m:=by
 rw[h.nil];exact ea.nil k
end
section
variable {P:bI} {C:FuncId->Array af->Mem->af->Mem->Prop} {ap:bS->af} {o:Oper} {m:Mem} {x y cf az:bS} {t e:bV} {i:TypeInfo} {b f0 q n l a c yA:Nat} {L:List af} {k k':aG}
def pc (l c:Nat):Nat:=if c<dc then c else dc+l
def au8 (h:o.op= .slice t x ae (J y) ae) (d:P.underlying t=J (.slice e)) (j:P.info? e=J i) (g:ap x= .slice (J ⟨b,f0,ae⟩) l c) (f:ap y= .int k (a:Nat)) (s:a<l) (p:c=dc\/(c<dc/\l<=c)) (q:m.blk b= .own L e):
  ln P C ap o m (.slice (J ⟨b,f0,ae⟩) a (pc l c)) m:=by
 unfold pc;rcases p with rfl|⟨n,r⟩
 ·rw[if_neg (by omega)];have:=fH.vx (P:=P) (ap:=ap) (o:=o) (m:=m) t x ae (J y) e i L b f0 l dc l 0 a h d j g (.inl ⟨rfl,rfl⟩) q rfl ⟨k,f⟩ (pn _) (by omega) (by omega);simpa using ln.read (C:=C) this
 ·rw[if_pos n];have:=dD.slice (P:=P) (ap:=ap) (o:=o) t x ae (J y) e i b f0 l c 0 a h d j g n rfl ⟨k,f⟩ (pn _) (by omega) (λ_=>trivial);simpa using ln.pure (C:=C) (m:=m) this
def ze (b a s c:Nat):Nat:=if c<dc/\c=a then b else b+a*s
def T8 (n c:Nat):Nat:=if c<dc then c - n else dc
def auX (h:c=dc\/(c<dc/\l<=c)) (s:Nat):ze f0 a s c=f0+a*s\/l - a=0:=by
 grind [ze]
def au9 (h:o.op= .slice t x (J y) ae ae) (g:P.underlying t=J (.slice e)) (p:P.info? e=J i) (n:ap x= .slice (J ⟨b,f0,ae⟩) l c) (j:ap y= .int k (a:Nat)) (q:a<=l) (u:c=dc\/(c<dc/\l<=c)) (w:m.blk b= .own L e) (v:f0+l*i.size<=L.length):
  ln P C ap o m (.slice (J ⟨b,ze f0 a i.size c,ae⟩) (l - a) (T8 a c)) m:=by
 rcases u with rfl|⟨r,s⟩
 ·have d:ze f0 a i.size dc=f0+a*i.size:=if_neg λh=>by omega
  have f:T8 a dc=dc:=if_neg (by omega);rw[d,f];exact .read (.slice t x (J y) ae e i L b f0 l a l h g p n w ⟨k,j⟩ rfl q (e4 _) v)
 ·have d:ze f0 a i.size c=if c=a then f0 else f0+a*i.size:=by grind [ze]
  have f:T8 a c=c - a:=if_pos r;rw[d,f];exact .pure (.slice t x (J y) ae e i b f0 l c a l h g p n r ⟨k,j⟩ rfl q s (λ_=>trivial))
theorem asK (c:m.blk b= .own L e) (a:q+n<=L.length):kd m b q n=J ((L.drop q).take n):=by
 grind [Cc,Mem.load]
def amx (h:o.op= .call {callee:= .builtin .append,args:=#[x,y],argTypes:=#[t,t]}) (g:P.underlying t=J (.slice e)) (p:P.info? e=J i) (f:ap x= .slice (J ⟨b,f0,ae⟩) a (pc l c)) (n:ap y= .slice (J ⟨b,q,ae⟩) (l - (a+1)) yA)
  (r:q=f0+(a+1)*i.size\/l - (a+1)=0) (E:a<l) (v:c=dc\/(c<dc/\l<=c)) (u:m.blk b= .own L e) (F:f0+l*i.size<=L.length):
  ln P C ap o m (.slice (J ⟨b,f0,ae⟩) (l - 1) (pc l c)) (m.put b (.own (eY L (f0+a*i.size) ((L.drop (f0+(a+1)*i.size)).take ((l - (a+1))*i.size))) e)):=by
 have D:(a+1)*i.size+(l - (a+1))*i.size=l*i.size:=by rw[<-ko];grind
 have A:kt m i.size (ap y)=J ((L.drop (f0+(a+1)*i.size)).take ((l - (a+1))*i.size)):=by
  rw[n];show kd m b q _=_;rcases r with rfl|r
  ·grind [asK]
  simp_all [kd]
 have k:sA P m t i (ap y) (l - (a+1)) _:= .el (.inl ⟨e,g⟩) (by rw[n];rfl) A;have d:((L.drop (f0+(a+1)*i.size)).take ((l - (a+1))*i.size)).length=(l - (a+1))*i.size:=by grind
 have z:(a+(l - (a+1)))*i.size<=l*i.size:=oH _ (by omega);have w:l - 1=a+(l - (a+1)):=by omega
 rw[w];rcases v with rfl|⟨s,B⟩
 ·have j:pc l dc=dc+l:=if_neg (by omega);rw[j] at f⊢;exact .fX (.yy x y t t e i b f0 a _ l (l - (a+1)) L _ h g p f rfl (by omega) (by omega) u k d (by omega))
 ·have j:pc l c=c:=if_pos s;rw[j] at f⊢;exact .fX (.vY x y t t e i b f0 a c (l - (a+1)) L _ h g p f s (by omega) u k d (by omega))
def au' (h:o.op= .slice t x (J cf) (J az) ae) (j:P.underlying t=J (.slice e)) (q:P.info? e=J i) (a:ap x= .slice (J ⟨b,f0,ae⟩) (l - 1) (pc l c)) (p:ap cf= .int k ((l - 1:Nat):Int)) (n:ap az= .int k' (l:Nat)) (u:0<l) (r:c=dc\/(c<dc/\l<=c)) (s:m.blk b= .own L e):
  ln P C ap o m (.slice (J ⟨b,f0+(l - 1)*i.size,ae⟩) 1 (if c<dc then c - (l - 1) else dc+(l - (l - 1)))) m:=by
 have d:l - (l - 1)=1:=by omega
 rcases r with rfl|⟨g,v⟩
 ·have f:pc l dc=dc+l:=if_neg (by omega);rw[f] at a;have:=fH.vx (P:=P) (ap:=ap) (o:=o) (m:=m) t x (J cf) (J az) e i L b f0 (l - 1) _ l (l - 1) l h j q a (.inr rfl) s ⟨k,p⟩ ⟨k',n⟩ (by omega) (by omega) (by omega);rw[d] at this;rw[if_neg (by omega),d];exact .read this
 ·have f:pc l c=c:=if_pos g;rw[f] at a;have:=dD.slice (P:=P) (ap:=ap) (o:=o) t x (J cf) (J az) e i b f0 (l - 1) c (l - 1) l h j q a g ⟨k,p⟩ ⟨k',n⟩ (by omega) (by omega) (λ_=>trivial);rw[d,if_neg (by omega)] at this;rw[if_pos g];exact .pure this
end
def Z5 (e f g h i j k:Nat) (n m l a b c d:Array Oper) (X:Code):Code:=.seq (.region e n ak) (.seq (.region f m ak) (.seq (.seq (.region g l ak) (.cond (.tmp 16) X .skip)) (.seq (.region h a ak) (.seq (.region i b aa) (.seq (.region j c ak) (.seq (.region k d ak) .ret))))))
structure Tu (t:bV) (B:Code):Prop where
 mS:B=Z5 (wD (sub B [0])) (wD (sub B [1,0])) (wD (sub B [1,1,0,0])) (wD (sub B [1,1,1,0])) (wD (sub B [1,1,1,1,0])) (wD (sub B [1,1,1,1,1,0])) (wD (sub B [1,1,1,1,1,1,0]))
  (oe (sub B [0])) (oe (sub B [1,0])) (oe (sub B [1,1,0,0])) (oe (sub B [1,1,1,0])) (oe (sub B [1,1,1,1,0])) (oe (sub B [1,1,1,1,1,0])) (oe (sub B [1,1,1,1,1,1,0])) (sub B [1,1,0,1,0])
 ay:calm (oe (sub B [1,1,1,1,0]))=aa
 bR:np (oe (sub B [0])).toList [(J 6, .assign (.const (.slice ae 0 0)))]
 h1:np (oe (sub B [1,0])).toList [(J 8, .move (.tmp 0)),(J 9, .move (.tmp 1)),(J 10, .move (.tmp 2)),(J 11, .move (.tmp 0)),(J 12, .call ⟨.builtin .len,#[.tmp 11],#[t]⟩),(J 13, .slice t (.tmp 8) (J (.tmp 9)) (J (.tmp 10)) (J (.tmp 12)))]
 ai:np (oe (sub B [1,1,0,0])).toList [(J 14, .move (.tmp 1)),(J 15, .move (.tmp 2)),(J 16, .binOp .eql 3 (.tmp 14) (.tmp 15) 3)]
 br:np (oe (sub B [1,1,1,0])).toList [(J 18, .move (.tmp 0)),(J 19, .call ⟨.builtin .len,#[.tmp 18],#[t]⟩),(J 7, .assign (.tmp 19))]
 cK:np (oe (sub B [1,1,1,1,0])).toList [(J 20, .move (.tmp 0)),(J 21, .move (.tmp 1)),(J 22, .slice t (.tmp 20) ae (J (.tmp 21)) ae),(J 23, .move (.tmp 0)),(J 24, .move (.tmp 2)),(J 25, .slice t (.tmp 23) (J (.tmp 24)) ae ae),(J 26, .call ⟨.builtin .append,#[.tmp 22, .tmp 25],#[t,t]⟩),(J 0, .assign (.tmp 26))]
 fJ:np (oe (sub B [1,1,1,1,1,0])).toList [(J 27, .move (.tmp 0)),(J 28, .move (.tmp 0)),(J 29, .call ⟨.builtin .len,#[.tmp 28],#[t]⟩),(J 30, .move (.tmp 7)),(J 31, .slice t (.tmp 27) (J (.tmp 29)) (J (.tmp 30)) ae),(ae, .call ⟨.builtin .clear,#[.tmp 31],#[t]⟩)]
 jH:np (oe (sub B [1,1,1,1,1,1,0])).toList [(J 32, .move (.tmp 0)),(J 6, .assign (.tmp 32))]
section
variable {P:bI} {f b f0 l a c:Nat} {fn:Func} {t e:bV} {i:TypeInfo} {c0:af} {m:Mem} {L:List af}
def asf (A:P.funcs[f]? =J fn) (I:fn.body.isSome=aa) (E:lR P f=aa) (Q:3<=fn.ntmps) (H:fn.results.toList=[.tmp 6]) (D:Tu t (en fn)) (j:P.underlying t=J (.slice e)) (o:P.info? e=J i) (B:i.zero=J c0) (C:c0.cells.toList.all dy=aa) (F:c0.cells.size=i.size)
  (r:a<l) (n:c=dc\/(c<dc/\l<=c)) (u:m.blk b= .own L e) (x:f0+l*i.size<=L.length):
  h2 P f #[.slice (J ⟨b,f0,ae⟩) l c, .int .i64 a, .int .i64 (a+1)] m λv G=>v= .slice (J ⟨b,f0,ae⟩) (l - 1) (pc l c)/\
   G=m.put b (.own (eY (eY L (f0+a*i.size) ((L.drop (f0+(a+1)*i.size)).take ((l - (a+1))*i.size))) (f0+(l - 1)*i.size) (gb 1 c0.cells.toList).flatten) e):=by
 have z:fn.body=J (en fn):=by
  unfold en;cases K:fn.body with
  |none=>grind
  |some _=>rfl
 refine h2.any A (.inl z) E (by grind) λs y=> ?_;have p:s 0= .slice (J ⟨b,f0,ae⟩) l c:=y 0 _ rfl;have N:s 1= .int .i64 a:=y 1 _ rfl;have O:s 2= .int .i64 ((a+1:Nat):Int):=by grind
 rw[D.mS];unfold Z5;refine W.seq (W.region (ea.op D.bR (λq d=> .pure (.move _ (.inr d))) λg h=>ea.end h ?_));refine W.seq (W.region ?_);refine ea.op D.h1 (λq d=> .pure (.move _ (.inl d))) λg h=> ?_;refine ea.op h (λq d=> .pure (.move _ (.inl d))) λg h=>ea.op h (λq d=> .pure (.move _ (.inl d))) λg h=>ea.op h (λq d=> .pure (.move _ (.inl d))) λg h=> ?_;refine ea.op (v:= .int .i64 l) h (λq d=> .pure (.len _ t e (J ⟨b,f0,ae⟩) l c d j (by grind [bk,set]))) λg h=> ?_;refine ea.op (v:= .chan ae) h (λq d=> .pure (.P5 t _ _ _ _ e i b f0 l c a (a+1) l .i64 .i64 .i64 d j o (by grind [bk,set]) (n.symm.imp (λh=>h) λh=>⟨h,e4 _⟩) (by grind [bk,set]) (by grind [bk,set]) (by rfl) (by omega) (by omega))) λg h=>ea.end h ?_;refine W.seq (W.seq (W.region ?_));refine ea.op D.ai (λq d=> .pure (.move _ (.inl d))) λg h=>ea.op h (λq d=> .pure (.move _ (.inl d))) λg h=> ?_;refine ea.op h (λq d=> .pure (abO (k:= .i64) (a:=a) (b:=((a+1:Nat):Int)) d (by grind [bk,set]) (by grind [bk,set]))) λg h=>ea.end h ?_;refine W.Z0 (t:=ak) (by grind [bk,set]) rfl (W.skip ?_);refine W.seq (W.region ?_);refine ea.op D.br (λq d=> .pure (.move _ (.inl d))) λg h=> ?_;refine ea.op (v:= .int .i64 l) h (λq d=> .pure (.len _ t e (J ⟨b,f0,ae⟩) l c d j (by grind [bk,set]))) λg h=>ea.op h (λq d=> .pure (.move _ (.inr d))) λg h=>ea.end h ?_;refine W.seq (W.calm D.ay ?_);refine ea.op D.cK (λq d=> .pure (.move _ (.inl d))) λg h=>ea.op h (λq d=> .pure (.move _ (.inl d))) λg h=> ?_;refine ea.op h (λq d=>au8 (k:= .i64) d j o (by simp[bk,set,p];rfl) (by grind [bk,set]) r n u) λg h=> ?_;refine ea.op h (λq d=> .pure (.move _ (.inl d))) λg h=>ea.op h (λq d=> .pure (.move _ (.inl d))) λg h=> ?_;refine ea.op h (λq d=>au9 (k:= .i64) (a:=a+1) (c:=c) d j o (by grind [bk,set]) (by grind [bk,set]) r n u x) λg h=> ?_;refine ea.op h (λq d=>amx (c:=c) d j o (by rfl) (by rfl) (auX n _) r n u x) λg h=>ea.op h (λq d=> .pure (.move _ (.inr d))) λg h=>ea.end h ?_;have M:(l - 1)*i.size+i.size=l*i.size:=by rw[<-IU];grind
 have w:(m.put b (.own (eY L (f0+a*i.size) ((L.drop (f0+(a+1)*i.size)).take ((l - (a+1))*i.size))) e)).blk b= .own (eY L (f0+a*i.size) ((L.drop (f0+(a+1)*i.size)).take ((l - (a+1))*i.size))) e:=if_pos rfl;refine W.seq (W.region ?_);refine ea.op D.fJ (λq d=> .pure (.move _ (.inl d))) λg h=>ea.op h (λq d=> .pure (.move _ (.inl d))) λg h=> ?_;refine ea.op (v:= .int .i64 ((l - 1:Nat):Int)) h (λq d=> .pure (.len _ t e (J ⟨b,f0,ae⟩) (l - 1) (pc l c) d j (by rfl))) λg h=>ea.op h (λq d=> .pure (.move _ (.inl d))) λg h=> ?_;refine ea.op h (λq d=>au' (k:= .i64) (k':= .i64) (f0:=f0) (l:=l) (c:=c) d j o (by rfl) (by rfl) (by rfl) (by omega) n w) λg h=> ?_;refine ea.op h (λq d=> .fX (.clear _ t e i c0 b _ 1 _ _ d j o B C F (by rfl) w (by omega) (by grind [mB]))) λg h=>ea.end h ?_;refine W.seq (W.region ?_);refine ea.op D.jH (λq d=> .pure (.move _ (.inl d))) λg h=>ea.op h (λq d=> .pure (.move _ (.inr d))) λg h=>ea.end h (W.ret ?_);refine ⟨.inr rfl,[.slice (J ⟨b,f0,ae⟩) (l - 1) (pc l c)], ?_, .inl rfl,rfl, ?_⟩
 ·rw[H];exact ⟨by rfl,trivial⟩
 grind [Mem.put]
def yC (c:Nat):Nat:=if c<dc then c else dc
theorem asj {j:cj} {x:Addr} {l n c:Nat} {d:af} (h:de j (.slice (J x) n (pc l c)) d) (g:c=dc\/(c<dc/\l<=c)) (i:0<l):de j (.slice (J x) n (yC c)) d:=by
 unfold pc at h;unfold yC;rcases g with rfl|⟨f,b⟩
 ·rw[if_neg (by omega)] at h⊢;obtain ⟨e,f,b,a⟩:=h;refine ⟨e,f,b, .inr (.inl ?_)⟩;rcases a with ⟨a,_⟩|⟨a,_⟩|⟨a,_⟩|⟨a,_⟩|⟨k,a,m,o,p,q,r,s,t,u⟩
  ·omega
  ·omega
  ·omega
  ·grind
  grind
 grind
def ase {E:Type} {T:cM E} {z:Nat->bW} {O:Mem} {k:Option Nat} {e:List E} {v:af} (n9:P.follows .mixedOrders=aa) (bF:P.funcs[f]? =J fn) (W:fn.body.isSome=aa) (M:lR P f=aa) (yU:3<=fn.ntmps) (oR:fn.results.toList=[.tmp 6]) (D:Tu t (en fn))
  (aJ:P.underlying t=J (.slice T.tid)) (az:P.info? T.tid=J i) (bx:i.zero=J c0) (dw:c0.cells.toList.all dy=aa) (et:c0.cells.size=i.size) (K:i.size=T.bM) (h:dU T z O m k e v) (bl:a<e.length):
  ∃b X C,da v=J b/\da C=J b/\h2 P f #[v, .int .i64 a, .int .i64 (a+1)] m (λu S=>u=C/\S=m.put b X)/\dU T z O (m.put b X) k (e.eraseIdx a) C:=by
 rcases h.bT with ⟨rfl,rfl⟩|⟨b,g,L,c,rfl,Q,R,g3,g4,g5,g6⟩
 ·grind
 have ay:c=dc\/(c<dc/\e.length<=c):=g5.imp (λh=>h) λh=>⟨h.1,h.2.1⟩
 have dE:g+e.length*i.size<=L.length:=by grind
 obtain ⟨n,v0,m1,Y,rfl,rfl⟩:=asf bF W M yU oR D aJ az bx dw et bl ay Q dE;have aoO:(a+1)*i.size+(e.length - (a+1))*i.size=e.length*i.size:=by rw[<-ko];grind
 have ayo:(e.length - 1)*i.size+i.size=e.length*i.size:=by rw[<-IU];grind
 have ayp:a*i.size+i.size=(a+1)*i.size:=(IU _ _).symm;have qR:((L.drop (g+(a+1)*i.size)).take ((e.length - (a+1))*i.size)).length=(e.length - (a+1))*i.size:=by grind
 have abb:(gb 1 c0.cells.toList).flatten.length=i.size:=by grind
 generalize oM:(L.drop (g+(a+1)*i.size)).take ((e.length - (a+1))*i.size)=N at*;generalize axK:(gb 1 c0.cells.toList).flatten=Z at*;have A:∀u∈N,u∈L:=λu l=>by grind
 have axL:∀u∈Z,dy u=aa:=λu l=>by grind
 refine ⟨b, .own (eY (eY L (g+a*i.size) N) (g+(e.length - 1)*i.size) Z) T.tid, .slice (J ⟨b,g,ae⟩) (e.length - 1) (yC c),rfl,rfl,h2.sort (m':=m.put b (.own (eY (eY L (g+a*i.size) N) (g+(e.length - 1)*i.size) Z) T.tid)) (v:= .slice (J ⟨b,g,ae⟩) (e.length - 1) (yC c)) M ⟨e4 _,λo=>⟨R, ?_, ?_⟩,λj w kq o cY eL=> ?_⟩ ⟨rfl,rfl⟩,⟨.inr ⟨b,g,eY (eY L (g+a*i.size) N) (g+(e.length - 1)*i.size) Z,yC c, ?_,if_pos rfl,R,g3, ?_, ?_,λp x bb=> ?_⟩,h.fresh⟩⟩
 ·intro d B;have B:m.next<=d:=B;simp only[Mem.put];rw[if_neg (by omega)];exact o.dead d B
 ·intro d;simp only[Mem.put];split
  ·have y:=o.low b;rw[Q] at y;intro u l;rcases r9 _ _ _ _ l with l|l
   ·rcases r9 _ _ _ _ l with l|l
    ·exact y u l
    ·exact y u (A u l)
   grind [zq]
  ·exact o.low d
 ·refine ((acd n9 n).2 _ _ _ _ _ Y j w kq o cY eL).2.mono ?_
  grind [asj]
 ·grind
 ·grind [mB]
 ·grind [mB,yC]
 ·rw[List.getElem?_eraseIdx] at bb;have key:∀(q:Nat) (H:q=if p<a then p else p+1),e[q]? =J x->∃s,T.rd z x s/\ql (eY (eY L (g+a*i.size) N) (g+(e.length - 1)*i.size) Z) (g+p*T.bM) s:=by
   intro q H G;obtain ⟨s,I,c2⟩:=g6 q x G;have yV:=(fq.1 G).1;refine ⟨s,I,λr u F=> ?_⟩;have V:=(fq.1 F).1;rw[T.len _ _ _ I,<-K] at V;have ai:=c2 r u F;rw[<-K] at ai⊢;have aax:p*i.size+i.size<=(e.length - 1)*i.size:=by rw[<-IU];exact oH _ (by grind)
   rw[o5 _ _ _ _ (by grind [mB]),if_neg (by omega),o5 _ _ _ _ (by omega)];split at H
   ·have U:p*i.size+i.size<=a*i.size:=by rw[<-IU];exact oH _ (by omega)
    grind
   ·have U:a*i.size<=p*i.size:=oH _ (by omega);have axM:q*i.size=p*i.size+i.size:=by grind
    rw[if_pos (by omega),<-oM,List.getElem?_take,if_pos (by omega),List.getElem?_drop,show g+(a+1)*i.size+(g+p*i.size+r - (g+a*i.size))=g+q*i.size+r by omega]
    grind
  grind
end
end Go.aF
end
section
namespace Go.aF
structure l6 (D:Nat->Type) where
 T:(t:Nat)->cM (D t)
 eo:(t:Nat)->D t->List af
section
variable (D:Nat->Type)
inductive cv where
 |int (k:aG) (n:Int)
 |bool (b:Bool)
 |str (s:List UInt8)
 |gE|za|oY
 |bh (e:Nat) (xs:List (D e))
 |mp (t bG bA:Nat) (es:List (D bG×D bA))
 |own (i:Nat)
 |wJ
 |fn (f:Nat) (is:List Nat)
inductive bc where
 |un|undef
 |c (v:cv D)
 |agg (t:Nat) (cs:List (cv D))
 |box (i off:Nat)
 |arr (i:Nat)
 |el (i e:Nat) (dx:Int) (off:Nat)
 |hd (t:Nat) (cs:List (cv D)) (off:Nat)
 |fn (f:Nat) (caps:List (Nat×List (cv D)))
 |sq (l:List (cv D⊕(Nat×List (cv D))))
 |cut (i e cf n:Nat)
 |full (e:Nat) (xs:List (D e))
 |wb (g:Nat) (s:List UInt8)
inductive ba where
 |dead
 |bh (e:Nat) (xs:List (D e)) (bZ w:Bool)
 |box (t:Nat) (cs:List (cv D)) (bZ w:Bool)
 |recv (t:Nat) (cs:List (cv D)) (w:Bool)
 |arr (e t n:Nat) (xs:List (D e)) (w:Bool)
 |map (t bG bA:Nat) (es:List (D bG×D bA)) (bZ w:Bool)
 |nest (e t:Nat) (up:Option (List (D t)->D e)) (eh:List (List (D t))) (hole:Option (Int×Nat)) (w:Bool)
end
section
variable {D:Nat->Type} (G:l6 D)
def l6.M (t b a:Nat):ph (D b) (D a):=⟨G.eo b,G.eo a,t⟩
def sQ (a:List af) (i:Nat) (g:af):Prop:=a[i]? =J g/\∃b,g= .pointer (J ⟨b,0,ae⟩)
def ed (z:Nat->bW) (c:List af):cv D->af->Prop| .int k n,v=>v= .int k n| .bool b,v=>v= .bool b| .str s,v=>v=aF.str s| .gE,v=>v= .slice ae 0 0| .za,v=>v= .pointer ae| .oY,v=>v= .map ae| .bh e l,v=>fA (G.T e) z l v| .mp t g d h,v=>nn (G.M t g d) z h v| .own i,v=>c[i]? =J v/\storable v=aa/\v.cells=#[v]| .wJ,v=>v= .nilFunc| .fn f j,v=>∃a:List af,v= .func (.func f) #[] a.toArray/\bP (sQ c) j a
def vt (z:Nat->bW) (b:List af):cv D⊕(Nat×List (cv D))->af->Prop| .inl c,v=>ed G z b c v| .inr p,v=>∃a:List af,v= .agg a.toArray/\bP (ed G z b) p.2 a
def lU (z:Nat->bW) (e:List af) (d:List (cv D)) (a:Nat) (v:af):Prop:=∃b o c,v= .pointer (J ⟨b,o+a,ae⟩)/\o2 z b o c/\bP (ed G z e) d c
def pO (g d n:Nat) (w v:af):Prop:=
 (w= .slice ae 0 0/\v= .slice ae 0 0/\d=0/\n=0)\/
 ∃b f l c a e,w= .slice (J ⟨b,f,ae⟩) l c/\v= .slice (J ⟨b,a,ae⟩) (n - d) e/\d<=n/\n<=l/\(a=f+d*g\/(n<=d/\a=f))/\((c=dc/\e=dc)\/(c<dc/\e=c - d))
def rel (z:Nat->bW) (h:List af):bc D->af->Prop| .un,_=>True| .undef,v=>v=_root_.Go.undef| .c c,v=>ed G z h c v| .agg _ o,v=>∃k:List af,v= .agg k.toArray/\bP (ed G z h) o k| .box i d,v=>∃b,h[i]? =J (.pointer (J ⟨b,0,ae⟩))/\v= .pointer (J ⟨b,d,ae⟩)| .arr i,v=>∃b l,h[i]? =J (.slice (J ⟨b,0,ae⟩) l l)/\v= .pointer (J ⟨b,0,ae⟩)| .el i e t d,v=>∃b p l c,h[i]? =J (.slice (J ⟨b,p,ae⟩) l c)/\v= .pointer (J ⟨b,p+t.toNat*(G.T e).bM+d,ae⟩)| .hd _ o d,v=>lU G z h o d v| .fn f j,v=>∃q:List af,v= .func (.func f) #[] q.toArray/\bP (λc g=>lU G z h c.2 0 g) j q| .sq l,v=>∃k:List af,v= .tuple k.toArray/\bP (vt G z h) l k| .cut i e r n,v=>∃w,ed G z h (.own i) w/\pO (G.T e).bM r n w v| .wb g s,v=>∃n:Nat,p2[n]? =J s/\v= .chan (J (g*4096+n))| .full e m,v=>fA (G.T e) z m v/\m.length<dc/\∃a,v= .slice a m.length m.length
def rD (t:bV):cM af where
 bM:=1
 tid:=t
 rd:=λ_ v b=>b=[v]/\storable v=aa/\v.cells=#[v]
 len:=λ_ v b h=>by rw[h.1];rfl
 mono:=λ_ _ _ _ _ h=>h
 one:=λ_ v b h c a=>by rw[h.1] at a;simp at a;subst a;exact h.2
def ud {e:Type} (T:cM e) (z:Nat->bW) (n g j:Nat) (a:List e) (w:af):Prop:=
 (w= .slice ae 0 0/\a=[])\/
 ∃b d L c,w= .slice (J ⟨b,d,ae⟩) a.length c/\z b= .lock g j L T.tid/\n<=b/\d+a.length*T.bM<=L.length/\(c=dc\/(c<dc/\a.length<=c/\d+c*T.bM<=L.length))/\
  ∀(i:Nat) (x:e),a[i]? =J x->∃f,T.rd z x f/\ql L (d+i*T.bM) f
def TC (z a:Nat->bW) (n:Nat):Prop:=∀b j L t,z b= .lock n j L t->a b=z b
def ud.jP {e:Type} {T:cM e} {z d:Nat->bW} {n a j:Nat} {f:List e} {w:af} (h:ud T z n a j f w) (o:fl z d) (y:TC z d a):ud T d n a j f w:=by
 rcases h with h|⟨b,r,L,c,v,k,g,m,p,s⟩
 ·exact .inl h
 ·refine .inr ⟨b,r,L,c,v,by rw[y b j L _ k];grind,g,m,p,λi x l=> ?_⟩;obtain ⟨q,t,u⟩:=s i x l;exact ⟨q,T.mono _ _ o _ _ t,u⟩
def ud.Ja {a:Type} {T:cM a} {z:Nat->bW} {n e d j:Nat} {f:List a} {w:af} (h:ud T z n d j f w) (k:e<=n):ud T z e d j f w:=by
 rcases h with h|⟨b,m,L,c,o,i,g,l⟩
 ·exact .inl h
 ·exact .inr ⟨b,m,L,c,o,i,jd k g,l⟩
def fV (v:af):Nat:=match da v with|some b=>b+1|none=>0
def ZB (e t:Nat) (b:Option (List (D t)->D e)):Prop:=∀f,b=J f->(G.T e).bM=1/\(G.T e).tid=e/\∀z a c,fA (G.T t) z a c->(G.T e).rd z (f a) [c]
structure um {aK:Type} (eV:Nat) (T:cM aK) (z:Nat->bW) (e m:Mem) (k:Option Nat) (vs:List af) (eh:List (List aK)) (hole:Option (Int×Nat)) (v:af) (ws:List af):Prop where
 bT:dU (rD eV) z e m k ws v
 len:ws.length=eh.length
 oU:∀(j:Nat) (w:af) (xs:List aK),ws[j]? =J w->eh[j]? =J xs->(∀p,hole=J p->(j:Int)≠p.1)->ud T z e.next (fV v) j xs w
 out:∀p,hole=J p->0<=p.1/\∃w,vs[p.2]? =J w/\ws[p.1.toNat]? =J w
def hf (z:Nat->bW) (e m:Mem) (k:Option Nat) (g:List af):ba D->af->Prop| .dead,_=>True| .bh t f ak _,v=>dU (G.T t) z e m k f v| .bh t f aa _,v=>fA (G.T t) z f v| .box t c ak _,v=>∃b a,v= .pointer (J ⟨b,0,ae⟩)/\jQ z e m k b a t/\e.next<=b/\bP (ed G z g) c a| .box t c aa _,v=>∃b a,v= .pointer (J ⟨b,0,ae⟩)/\o2 z b 0 a/\bP (ed G z g) c a| .recv t c _,v=>∃b a,v= .pointer (J ⟨b,0,ae⟩)/\jQ z e m k b a t/\bP (ed G z g) c a| .arr t u n f _,v=>(∃b,v= .slice (J ⟨b,0,ae⟩) n n)/\dU ((G.T t).as u) z e m k f v| .map t i h j ak _,v=>jD (G.M t i h) z e m k j v| .map t i h j aa _,v=>nn (G.M t i h) z j v| .nest eV t o l d _,v=>ZB G eV t o/\∃p,um eV (G.T t) z e m k g l d v p
def ba.live:ba D->Bool| .bh _ _ bZ _| .box _ _ bZ _| .map _ _ _ _ bZ _=> !bZ| .recv _ _ _| .arr _ _ _ _ _| .nest _ _ _ _ _ _=>aa| .dead=>ak
def ba.nd:ba D->Bool| .bh _ _ _ w| .box _ _ _ w| .recv _ _ w| .arr _ _ _ _ w| .map _ _ _ _ _ w=>w| .nest _ _ _ _ h w=>w||h.isSome| .dead=>aa
structure Inv (O cr:List (ba D)):Prop where
 len:O.length<=cr.length
 ew:∀(i:Nat) (o:ba D),i<O.length->cr[i]? =J o->o.live=aa->o.nd=ak->O[i]? =J o
theorem Inv.refl (O:List (ba D)):Inv O O:=⟨e4 _,λ_ _ _ h _ _=>h⟩
def Inv.trans {O c e:List (ba D)} (h:Inv O c) (k:Inv c e):Inv O e:=⟨jd h.len k.len,λi o b f a d=>h.ew i o b (k.ew i o (hS b h.len) f a d) a d⟩
def Inv.push (O:List (ba D)) (o:ba D):Inv O (O++[o]):=⟨by simp,λi p a b _ _=>by grind⟩
theorem Inv.set (O:List (ba D)) (i:Nat) {o:ba D} (h:o.live=ak\/o.nd=aa):Inv O (O.set i o):=⟨by simp,λj p c b a d=>by
 grind⟩
def dQ:af->Option Nat| .slice (J a) _ _=>J a.block| .pointer (J a)=>J a.block| .map r=>r|_=>ae
theorem hi {v:af} (h:∀r,v≠ .map r):dQ v=da v:=by
 cases v with
 |slice a l c=>cases a<;>rfl
 |pointer a=>cases a<;>rfl
 |map r=>grind
 |_=>rfl
structure b9 (O:List (ba D)) (z:Nat->bW) (e m:Mem) (k:Option Nat) (vs:List af):Prop where
 aS:dL z e m k
 len:vs.length=O.length
 obj:∀(i:Nat) (o:ba D) (v:af),O[i]? =J o->vs[i]? =J v->hf G z e m k vs o v
 fD:∀(i j:Nat) (o p:ba D) (v w:af),i≠j->O[i]? =J o->O[j]? =J p->o.live=aa->p.live=aa->vs[i]? =J v->vs[j]? =J w->e6 (dQ v) (dQ w)
variable {G}
theorem ed.mono {z j:Nat->bW} {g a:List af} {c:cv D} {v:af} (h:ed G z g c v) (d:fl z j) (b:∀(i:Nat) (u:af),g[i]? =J u->a[i]? =J u):ed G j a c v:=by
 cases c with
 |bh e r=>exact fA.mono d h
 |mp t o n p=>exact nn.mono h d
 |own i=>exact ⟨b _ _ h.1,h.2⟩
 |fn f q=>obtain ⟨l,m,k⟩:=h;exact ⟨l,m,bP.mono (λ_ _ h=>⟨b _ _ h.1,h.2⟩) k⟩
 |_=>exact h
def pb.mono {z e:Nat->bW} {d a:List af} {b:List (cv D)} {c:List af} (h:bP (ed G z d) b c) (g:fl z e) (f:∀(i:Nat) (u:af),d[i]? =J u->a[i]? =J u):bP (ed G e a) b c:=bP.mono (λ_ _ h=>ed.mono h g f) h
def lU.mono {z g:Nat->bW} {f c:List af} {e:List (cv D)} {a:Nat} {v:af} (h:lU G z f e a v) (d:fl z g) (j:∀(i:Nat) (u:af),f[i]? =J u->c[i]? =J u):lU G g c e a v:=by
 obtain ⟨b,o,m,n,l,k⟩:=h;exact ⟨b,o,m,n,Kp d l,pb.mono k d j⟩
def vt.mono {z f:Nat->bW} {e a:List af} {c:cv D⊕(Nat×List (cv D))} {v:af} (h:vt G z e c v) (d:fl z f) (b:∀(i:Nat) (u:af),e[i]? =J u->a[i]? =J u):vt G f a c v:=by
 cases c with
 |inl c=>exact ed.mono h d b
 |inr p=>obtain ⟨j,k,g⟩:=h;exact ⟨j,k,pb.mono g d b⟩
def rel.mono {z x:Nat->bW} {r o:List af} {s:bc D} {v:af} (h:rel G z r s v) (k:fl z x) (j:∀(i:Nat) (u:af),r[i]? =J u->o[i]? =J u):rel G x o s v:=by
 cases s with
 |un=>trivial
 |undef=>exact h
 |c c=>exact ed.mono h k j
 |agg t y=>obtain ⟨p,d,a⟩:=h;exact ⟨p,d,pb.mono a k j⟩
 |box i m=>obtain ⟨b,d,a⟩:=h;exact ⟨b,j _ _ d,a⟩
 |arr i=>obtain ⟨b,l,d,a⟩:=h;exact ⟨b,l,j _ _ d,a⟩
 |el i e E m=>obtain ⟨b,A,l,c,d,a⟩:=h;exact ⟨b,A,l,c,j _ _ d,a⟩
 |hd t y m=>exact lU.mono h k j
 |fn f q=>obtain ⟨B,d,a⟩:=h;exact ⟨B,d,bP.mono (λ_ _ h=>lU.mono h k j) a⟩
 |sq l=>obtain ⟨p,d,a⟩:=h;exact ⟨p,d,bP.mono (λ_ _ h=>vt.mono h k j) a⟩
 |cut i e C n=>obtain ⟨w,d,a⟩:=h;exact ⟨w,ed.mono d k j,a⟩
 |full e F=>exact ⟨fA.mono k h.1,h.2⟩
 |wb g s=>exact h
theorem WR {d:List af}:∀{c:List Nat} {a:List af},bP (sQ d) c a->a.all xr=aa
 |[],[],_=>rfl
 |[],_::_,h=>h.elim
 |_::_,[],h=>h.elim
 |_::_,_::_,⟨⟨_,_,h⟩,b⟩=>by subst h;simp only[ml,WR b,xr,Bool.and_self]
def ed.afp {z:Nat->bW} {b:List af} {c:cv D} {v:af} (h:ed G z b c v):storable v=aa/\v.cells=#[v]:=by
 cases c with
 |bh e n=>obtain ⟨a,c,rfl⟩:=fA.len h;exact ⟨rfl,rfl⟩
 |mp t j g k=>rcases h with ⟨rfl,_⟩|⟨r,rfl,_⟩<;>exact ⟨rfl,rfl⟩
 |own i=>exact h.2
 |fn f m=>obtain ⟨l,rfl,d⟩:=h;exact ⟨by grind [storable,WR],rfl⟩
 |_=>obtain rfl:=h;exact ⟨rfl,rfl⟩
def hf.same {z:Nat->bW} {e m m':Mem} {k q:Option Nat} {C l:List af} {o:ba D} {v:af} (h:hf G z e m k C o v) (s:gl m m' q) (d:o.live=aa->e6 (dQ v) q) (y:∀(i:Nat) (u:af),C[i]? =J u->l[i]? =J u):hf G z e m' k l o v:=by
 have x:=fl.refl z;cases o with
 |dead=>trivial
 |bh t E bZ w=>
  cases bZ with
  |true=>exact h
  |false=>have h:dU (G.T t) z e m k E v:=h;have d:=d rfl;rw[hi (by obtain ⟨a,c,rfl⟩:=h.bT.len;grind)] at d;exact h.same s d
 |box t L bZ w=>
  cases bZ with
  |true=>obtain ⟨b,j,A,f,g⟩:=h;exact ⟨b,j,A,f,pb.mono g x y⟩
  |false=>obtain ⟨b,j,rfl,f,K,g⟩:=h;exact ⟨b,j,rfl,f.same s (d rfl),K,pb.mono g x y⟩
 |recv t L w=>obtain ⟨b,j,rfl,f,g⟩:=h;exact ⟨b,j,rfl,f.same s (d rfl),pb.mono g x y⟩
 |arr t u n E w=>obtain ⟨⟨b,rfl⟩,h⟩:=h;exact ⟨⟨b,rfl⟩,h.same s (d rfl)⟩
 |map t H F N bZ w=>
  cases bZ with
  |true=>exact h
  |false=>have h:jD (G.M t H F) z e m k N v:=h;have d:=d rfl;obtain ⟨r,rfl,_⟩:=h.bT;exact h.same s d
 |nest R t U S B w=>
  obtain ⟨O,P,h⟩:=h;have d:=d rfl;rw[hi (by obtain ⟨a,c,rfl⟩:=h.bT.bT.len;grind)] at d;refine ⟨O,P,h.bT.same s d,h.len,h.oU,λp I=> ?_⟩;obtain ⟨Q,u,A,f⟩:=h.out p I
  grind
def hf.jP {z x:Nat->bW} {e m:Mem} {k:Option Nat} {q:List af} {o:ba D} {v:af} (h:hf G z e m k q o v) (f:fl z x) (d:o.live=aa->∀b,dQ v=J b->x b=z b) (K:o.live=aa->TC z x (fV v)):hf G x e m k q o v:=by
 have y:∀(i:Nat) (u:af),q[i]? =J u->q[i]? =J u:=λ_ _ h=>h;cases o with
 |dead=>trivial
 |bh t s bZ w=>
  cases bZ with
  |true=>exact fA.mono f h
  |false=>have h:dU (G.T t) z e m k s v:=h;have d:=d rfl;rw[hi (by obtain ⟨a,c,rfl⟩:=h.bT.len;grind)] at d;exact h.jP f d
 |box t H bZ w=>
  cases bZ with
  |true=>obtain ⟨b,p,A,l,g⟩:=h;exact ⟨b,p,A,Kp f l,pb.mono g f y⟩
  |false=>obtain ⟨b,p,rfl,l,F,g⟩:=h;exact ⟨b,p,rfl,l.jP (d rfl),F,pb.mono g f y⟩
 |recv t H w=>obtain ⟨b,p,rfl,l,g⟩:=h;exact ⟨b,p,rfl,l.jP (d rfl),pb.mono g f y⟩
 |arr t u n s w=>obtain ⟨⟨b,rfl⟩,h⟩:=h;exact ⟨⟨b,rfl⟩,h.jP f (d rfl)⟩
 |map t E C I bZ w=>
  cases bZ with
  |true=>exact nn.mono h f
  |false=>have h:jD (G.M t E C) z e m k I v:=h;have d:=d rfl;obtain ⟨r,rfl,_⟩:=h.bT;exact h.jP f d
 |nest O t Q P B w=>obtain ⟨L,N,h⟩:=h;have d:=d rfl;rw[hi (by obtain ⟨a,c,rfl⟩:=h.bT.bT.len;grind)] at d;exact ⟨L,N,h.bT.jP f d,h.len,λj w s A l g=>(h.oU j w s A l g).jP f (K rfl),h.out⟩
def hf.lt {z:Nat->bW} {e m:Mem} {k:Option Nat} {B:List af} {o:ba D} {v:af} (h:hf G z e m k B o v) (i:o.live=aa):∀b,dQ v=J b->b<m.next/\z b= .dead/\(e.next<=b\/k=J b):=by
 cases o with
 |dead=>cases i
 |bh t l bZ w=>
  cases bZ with
  |true=>cases i
  |false=>have h:dU (G.T t) z e m k l v:=h;rw[hi (by obtain ⟨a,c,rfl⟩:=h.bT.len;grind)];exact λb d=>⟨h.lt b d,h.bm b d⟩
 |box t x bZ w=>
  cases bZ with
  |true=>cases i
  |false=>obtain ⟨b,y,rfl,f,C,p⟩:=h;intro c g;cases g;exact ⟨f.lt,f.dead,f.fresh⟩
 |recv t x w=>obtain ⟨b,y,rfl,f,p⟩:=h;intro c g;cases g;exact ⟨f.lt,f.dead,f.fresh⟩
 |arr t u n l w=>obtain ⟨⟨b,rfl⟩,h⟩:=h;intro c g;cases g;exact ⟨h.lt b rfl,h.bm b rfl⟩
 |map t s q A bZ w=>
  cases bZ with
  |true=>cases i
  |false=>have h:jD (G.M t s q) z e m k A v:=h;obtain ⟨r,rfl,_⟩:=h.bT;exact λb d=>⟨h.lt b d,h.bm b d⟩
 |nest E t I F j w=>obtain ⟨H,K,h⟩:=h;rw[hi (by obtain ⟨a,c,rfl⟩:=h.bT.bT.len;grind)];exact λb d=>⟨h.bT.lt b d,h.bT.bm b d⟩
variable {O:List (ba D)} {z z':Nat->bW} {e m m':Mem} {k q:Option Nat} {vs:List af}
def b9.at (h:b9 G O z e m k vs) {i:Nat} {o:ba D} (b:O[i]? =J o):∃v,vs[i]? =J v/\hf G z e m k vs o v:=by
 have c:=(fq.1 b).1;have a:i<vs.length:=by rw[h.len];grind
 exact ⟨vs[i],mm a,h.obj i o _ b (mm a)⟩
def b9.pF (h:b9 G O z e m k vs) {i:Nat} {o o':ba D} {v:af} (g:O[i]? =J o) (n:vs[i]? =J v) (q:o.live=aa) (s:gl m m' (dQ v)) (r:dL z e m' k) (Q:hf G z e m' k vs o' v):b9 G (O.set i o') z e m' k vs:=by
 have R:=(fq.1 g).1;refine ⟨r,by rw[sJ];exact h.len,λj p w d f=> ?_,λa b p N u w L y t H P I f=> ?_⟩
 ·rw[ll] at d;split at d
  ·grind
  ·rename_i F;exact (h.obj j p w d f).same s (λx=>h.fD j i p o w v (λe=>F e.symm) d g x q f n) λ_ _ h=>h
 ·have c:∀(a:Nat) (p:ba D),(O.set i o')[a]? =J p->p.live=aa->∃l,O[a]? =J l/\l.live=aa:=by
   grind
  obtain ⟨M,A,B⟩:=c a p y H;obtain ⟨K,C,E⟩:=c b N t P;exact h.fD a b M K u w L A C B E I f
def j0 {a b:List af}:∀(i:Nat) (u:af),a[i]? =J u->(a++b)[i]? =J u:=λi u h=>by
 grind
def b9.push (h:b9 G O z e m k vs) {o':ba D} {f:af} (s:gl m m' q) (K:dL z e m' k) (E:∀(i:Nat) (o:ba D) (v:af),O[i]? =J o->vs[i]? =J v->o.live=aa->e6 (dQ v) q)
  (T:hf G z e m' k (vs++[f]) o' f) (P:∀p,(∀b,p=J b->b<m.next)->e6 p q->e6 p (dQ f)):b9 G (O++[o']) z e m' k (vs++[f]):=by
 refine ⟨K,by simp[h.len],λj p w n g=> ?_,λa b p t u w R c l Q H d g=> ?_⟩
 ·by_cases r:j<O.length
  ·rw[kS r] at n;rw[kS (by rw[h.len];grind)] at g;exact (h.obj j p w n g).same s (λM=>E j p w n g M) j0
  ·rw[kT (by omega)] at n;rw[kT (by rw[h.len];omega),h.len] at g
   grind
 ·have y:∀(a:Nat) (p:ba D) (u:af),a<O.length->(O++[o'])[a]? =J p->(vs++[f])[a]? =J u->O[a]? =J p/\vs[a]? =J u:=by
   intro a p u r c d;rw[kS r] at c;rw[kS (by rw[h.len];grind)] at d
   grind
  have new:∀(a:Nat) (p:ba D) (u:af),¬a<O.length->(O++[o'])[a]? =J p->(vs++[f])[a]? =J u->a=O.length/\u=f:=by
   intro a p u r c d;rw[kT (by omega)] at c;have L:a - O.length=0:=by grind
   rw[kT (by rw[h.len];omega),h.len,L] at d
   grind
  have S:∀(a:Nat) (p:ba D) (u:af),O[a]? =J p->vs[a]? =J u->p.live=aa->e6 (dQ u) (dQ f):=λa p u c d C=>P _ (λb l=>((h.obj a p u c d).lt C b l).1) (E a p u c d C);by_cases F:a<O.length
  ·obtain ⟨N,I⟩:=y a p u F c d;by_cases x:b<O.length
   ·obtain ⟨B,A⟩:=y b t w x l g;exact h.fD a b p t u w R N B Q H I A
   grind
  ·obtain ⟨U,rfl⟩:=new a p u F c d;by_cases x:b<O.length
   ·obtain ⟨B,A⟩:=y b t w x l g;exact (S b t w B A H).symm
   grind
theorem b9.jT (h:b9 G O z e m k vs) {i:Nat} {o l:ba D} {v:af} (n:O[i]? =J o) (q:vs[i]? =J v) (r:o.live=aa) (S:l.live=ak) (I:fl z z') (C:dL z' e m k) (s:∀p,e6 p (dQ v)->∀b,p=J b->z' b=z b) (Q:hf G z' e m k vs l v):b9 G (O.set i l) z' e m k vs:=by
 have R:=(fq.1 n).1;refine ⟨C,by rw[sJ];exact h.len,λj p w f g=> ?_,λa b p A u w N H x y B M g=> ?_⟩
 ·rw[ll] at f;split at f
  ·grind
  ·rename_i K;exact (h.obj j p w f g).jP I (λF=>s _ (h.fD j i p o w v (λe=>K e.symm) f n F r g q)) λ_ b j L t x=>s (J b) (λc E P=>by
    cases E;have:=((h.obj i o v n q).lt r b P).2.1
    grind) b rfl
 ·have d:∀(a:Nat) (p:ba D),(O.set i l)[a]? =J p->p.live=aa->O[a]? =J p:=by
   grind
  exact h.fD a b p A u w N (d a p H y) (d b A x B) y B M g
end
end Go.aF
end
section
namespace Go.aF
section
variable {D:Nat->Type} {G:l6 D} {O:List (ba D)} {z z':Nat->bW} {e m m':Mem} {k q:Option Nat} {vs vs':List af}
theorem LI {v w:af} (h:e6 (da v) (da w)):fV v≠fV w\/fV v=0:=by
 unfold fV;cases a:da v with
 |none=>grind
 |some b=>
  cases e:da w with
  |none=>grind
  |some c=>
   refine .inl λd=>h b a ?_
   grind
theorem WT {r:Option Nat}:fV (.map r)=0:=rfl
def b9.Hr (h:b9 G O z e m k vs) {i:Nat} {o o':ba D} {v:af} {p:Option Nat} (g:O[i]? =J o) (x:vs[i]? =J v) (y:o.live=aa) (rY:∀r,v≠ .map r) (N:fl z z') (s:gl m m' (dQ v)) (H:dL z' e m' k)
  (K:∀(j:Nat) (q:ba D) (w:af),j≠i->O[j]? =J q->q.live=aa->vs[j]? =J w->e6 (dQ w) p)
  (I:∀b,p=J b->z b= .dead)
  (C:∀b,dQ v≠J b->p≠J b->(fV v=0\/∀j L t,z b≠ .lock (fV v) j L t)->z' b=z b) (bB:hf G z' e m' k vs o' v):b9 G (O.set i o') z' e m' k vs:=by
 have cF:=(fq.1 g).1;refine ⟨H,by rw[sJ];exact h.len,λj q w d f=> ?_,λa b R Q u w Z M P W lO X f=> ?_⟩
 ·rw[ll] at d;split at d
  ·grind
  ·rename_i A;have E:=h.obj j q w d f;refine ((E.same s (λc=>h.fD j i q o w v (λe=>A e.symm) d g c y f x) λ_ _ h=>h).jP N (λc b B=> ?_) λc b c6 L t s8=> ?_)
   ·have h1:=E.lt c b B;refine C b (h.fD j i q o w v (λe=>A e.symm) d g c y f x b B) (K j q w (λe=>A e.symm) d c f b B) (.inr λj L t l=> ?_)
    grind
   ·refine C b (λl=> ?_) (λl=> ?_) ?_
    ·have:=((h.obj i o v g x).lt y b l).2.1
     grind
    ·grind
    ·by_cases bR:fV v=0
     ·grind
     ·refine .inr λr2 bP t2 l=> ?_;rw[s8] at l;have bX:fV w=fV v:=by grind
      have fP:=h.fD j i q o w v (λe=>A e.symm) d g c y f x
      grind [hi,WT,LI]
 ·have n:∀(a:Nat) (p:ba D),(O.set i o')[a]? =J p->p.live=aa->∃F,O[a]? =J F/\F.live=aa:=by
   grind
  obtain ⟨kN,S,T⟩:=n a R M W;obtain ⟨Y,U,V⟩:=n b Q P lO;exact h.fD a b kN Y u w Z S U T V X f
def b9.V4 (h:b9 G O z e m k vs) {f:ba D} {c:af} (L:hf G z e m k (vs++[c]) f c) (H:f.live=aa->∀(j:Nat) (q:ba D) (w:af),O[j]? =J q->q.live=aa->vs[j]? =J w->e6 (dQ w) (dQ c)):b9 G (O++[f]) z e m k (vs++[c]):=by
 have g:∀(a:Nat) (p:ba D) (u:af),(O++[f])[a]? =J p->(vs++[c])[a]? =J u->(O[a]? =J p/\vs[a]? =J u)\/(a=O.length/\p=f/\u=c):=by
  intro a p u d i;by_cases C:a<O.length
  ·rw[kS C] at d;rw[kS (by rw[h.len];grind)] at i
   grind
  ·have A:=(fq.1 d).1;simp at A;have:a=O.length:=by omega
   subst this;rw[kT (by omega)] at d;rw[kT (by rw[h.len];omega),h.len] at i
   grind
 refine ⟨h.aS,by simp[h.len],λj p w B l=> ?_,λa b p n u w K d s t v i l=> ?_⟩
 ·rcases g j p w B l with ⟨I,y⟩|⟨_,rfl,rfl⟩
  ·exact (h.obj j p w I y).same (q:=ae) ⟨e4 _,h.aS.dead,λ_ _ _=>rfl⟩ (λ_=>e6.qg) j0
  grind
 ·rcases g a p u d i with ⟨F,x⟩|⟨M,rfl,rfl⟩
  ·rcases g b n w s l with ⟨r,o⟩|⟨E,rfl,rfl⟩
   ·exact h.fD a b p n u w K F r t v x o
   grind
  ·rcases g b n w s l with ⟨r,o⟩|⟨E,rfl,rfl⟩
   ·exact (H t b n w r v o).symm
   grind
def b9.awv (h:b9 G O z e m k vs) {i:Nat} {o':ba D} {v:af} (E:i<O.length) (s:vs[i]? =J v) (F:hf G z e m k vs o' v) (y:∀(j:Nat) (q:ba D) (w:af),j≠i->O[j]? =J q->q.live=aa->vs[j]? =J w->e6 (dQ w) (dQ v)):b9 G (O.set i o') z e m k vs:=by
 have c:∀(a:Nat) (p:ba D),(O.set i o')[a]? =J p->(a≠i/\O[a]? =J p)\/(a=i/\p=o'):=by
  grind
 refine ⟨h.aS,by rw[sJ];exact h.len,λj p w x d=> ?_,λa b p q u w C t l B o f d=> ?_⟩
 ·rcases c j p x with ⟨_,A⟩|⟨rfl,rfl⟩
  ·exact h.obj j p w A d
  grind
 ·rcases c a p t with ⟨H,r⟩|⟨rfl,rfl⟩
  ·rcases c b q l with ⟨n,g⟩|⟨rfl,rfl⟩
   ·exact h.fD a b p q u w C r g B o f d
   grind
  ·rcases c b q l with ⟨n,g⟩|⟨rfl,rfl⟩
   ·rw[s] at f;cases f;exact (y b q w n g o d).symm
   grind
variable {aK:Type} {T:cM aK} {eV:Nat} {eh:List (List aK)} {ws:List af} {v:af}
open Classical in
noncomputable def se (z:Nat->bW) (n:Nat) (e m:Mem) (v:af):Nat->bW:=λb=>
 match z b with
 | .lock n' j L t=>if n'=n/\n≠0/\e.next<=b then .own L t else .lock n' j L t
 |x=>if da v=J b then m.blk b else x
def aqd {Q:Type} {E:cM Q} {f:List aK->Q} (h:um eV T z e m k vs eh ae v ws) (U:E.bM=1) (ai:E.tid=eV) (aV:∀z o c,fA T z o c->E.rd z (f o) [c]) (r:dL z e m k):
  ∃F,dT e.next z F/\dL F e m k/\fA E F (eh.map f) v/\∀b,dQ v≠J b->(fV v=0\/∀j L t,z b≠ .lock (fV v) j L t)->F b=z b:=by
 have aD:dQ v=da v:=hi (by obtain ⟨a,c,rfl⟩:=h.bT.bT.len;grind);have X:=λb (g:da v=J b)=>(h.bT.bT.lt b g).2;have d:∀b,da v≠J b->(∀n j L t,z b≠ .lock n j L t)->se z (fV v) e m v b=z b:=by
  grind [se]
 have H:∀b n j L t,z b= .lock n j L t->se z (fV v) e m v b=if n=fV v/\fV v≠0/\e.next<=b then .own L t else .lock n j L t:=by
  grind [se]
 have V:∀b,da v=J b->se z (fV v) e m v b=m.blk b:=by
  grind [se]
 have y:fl z (se z (fV v) e m v):=λb g=>d b (λl=>by rw[X b l] at g;exact g) λn j L t l=>by rw[l] at g;exact g
 refine ⟨se z (fV v) e m v,⟨y,λb g=> ?_⟩,⟨λb g=> ?_,r.dead,r.oL,r.next,r.kept⟩, ?_,λb g bB=> ?_⟩
 ·cases B:z b with
  |lock n j L t=>grind
  |_=>
   have:=d b (λl=>by have:=h.bT.fresh b l;omega) (λn j L t l=>by grind)
   grind
 ·by_cases O:da v=J b
  ·rw[V b O];have:=h.bT.abw b O
   grind
  ·cases B:z b with
   |lock n j L t=>
    have:=r.bZ b (by grind);rw[B] at this;rw[H b n j L t B];split
    ·exact this
    grind
   |_=>have Z:=d b O (λn j L t l=>by rw[B] at l;cases l);rw[Z] at g⊢;exact r.bZ b g
 ·have oU:∀(j:Nat) (w:af) (o:List aK),ws[j]? =J w->eh[j]? =J o->fA T (se z (fV v) e m v) o w:=by
   intro j w o D G;rcases h.oU j w o D G (λp bb=>by grind) with l|⟨b,K,L,c,rfl,g2,g3,S,s,N⟩
   ·exact .inl l
   ·have q:se z (fV v) e m v b= .own L T.tid:=by
     have P:fV v≠0:=by
      intro P;unfold fV at P;rcases h.bT.bT with ⟨rfl,W⟩|⟨dJ,o',L',c3,rfl,_⟩
      ·grind
      grind [da]
     grind
    refine .inr ⟨b,K,c,rfl,by rw[q];exact fs, ?_,λi x A=> ?_⟩
    ·grind
    ·obtain ⟨R,M,C⟩:=N i x A;refine ⟨R,T.mono _ _ y _ _ M,λa u I=> ?_⟩;simp only[nH,q];exact C a u I
  rcases h.bT.bT with ⟨rfl,W⟩|⟨b,K,L,c,rfl,g1,g2,g3,S,s,N⟩
  ·have:eh=[]:=List.length_eq_zero_iff.1 (by rw[<-h.len,W];rfl);subst this;exact .inl ⟨rfl,rfl⟩
  ·have q:=V b rfl;rw[g1] at q;have Y:(eh.map f).length=ws.length:=by rw[List.length_map,h.len]
   refine .inr ⟨b,K,c,by grind,by rw[q];exact fs, ?_,λi x A=> ?_⟩
   ·rcases s with s|⟨s,g7,_⟩
    ·exact .inl ⟨s,L,by rw[q,ai];rfl,by rw[Y,U];exact S⟩
    grind
   ·rw[sH] at A;obtain ⟨o,G,rfl⟩:=Option.map_eq_some_iff.1 A;have cF:i<ws.length:=by grind
    have D:=mm cF;obtain ⟨R,M,C⟩:=N i _ D;refine ⟨[ws[i]],aV _ _ _ (oU i _ o D G),λa u I=> ?_⟩;rw[M.1] at C;simp only[nH,q,U];exact C a u I
 grind
def arD {J7 j:Nat} {w:af} {y:List aK} (h:um eV T z e m k vs eh ae v ws) (l:dL z e m k) (Y:ws[j]? =J w) (N:eh[j]? =J y) (bn:∀(i:Nat) (u:af),vs[i]? =J u->vs'[i]? =J u) (P:vs'[J7]? =J w):
  ∃a,dT e.next z a/\dL a e m k/\um eV T a e m k vs' eh (J ((j:Int),J7)) v ws/\dU T a e m k y w/\(∀b,a b=z b\/da w=J b/\fV v≠0/\∃L t,z b= .lock (fV v) j L t)/\∀b,da w=J b->z b≠ .dead:=by
 have g:∀{a},fl z a->(∀b,a b=z b\/da w=J b/\fV v≠0/\∃L t,z b= .lock (fV v) j L t)->(∀b,da v=J b->a b=z b)->um eV T a e m k vs' eh (J ((j:Int),J7)) v ws:=by
  intro a f F qU;refine ⟨h.bT.jP f qU,h.len,λK Z M S q I=> ?_,λp H=>by grind⟩;have gT:K≠j:=λo=>I _ rfl (by grind);rcases h.oU K Z M S q (λp H=>by grind) with o|⟨b,s,L,c,R,fQ,kb,nb,r8,q0⟩
  ·exact .inl o
  ·refine .inr ⟨b,s,L,c,R, ?_,kb,nb,r8,λi x A=> ?_⟩
   ·grind
   ·obtain ⟨C,E,D⟩:=q0 i x A;exact ⟨C,T.mono _ _ f _ _ E,D⟩
 rcases h.oU j w y Y N (λp H=>by grind) with ⟨rfl,rfl⟩|⟨b,s,L,c,rfl,q,I,U,V,W⟩
 ·exact ⟨z,dT.refl z,l,g (fl.refl z) (λb=> .inl rfl) (λ_ _=>rfl),dU.nil,λb=> .inl rfl,λb O=>by cases O⟩
 ·have B:fV v≠0:=by
   intro B;unfold fV at B;rcases h.bT.bT with ⟨rfl,tk⟩|⟨dJ,o',L',n,rfl,_⟩
   ·grind
   grind [da]
  let a:Nat->bW:=λc=>if c=b then .dead else z c
  have Q:a b= .dead:=if_pos rfl;have r:∀c,c≠b->a c=z c:=λc d=>if_neg d;have f:fl z a:=λc d=>r c (λo=>by rw[o,q] at d;exact d);have F:∀n,a n=z n\/da (pr (J ⟨b,s,ae⟩) y.length c)=J n/\fV v≠0/\∃L t,z n= .lock (fV v) j L t:=λn=>by
   by_cases d:n=b
   ·subst d;exact .inr ⟨rfl,B,L,_,q⟩
   grind
  have G:=l.bZ b (by grind);rw[q] at G;refine ⟨a,⟨f,λc d=>r c (by omega)⟩,⟨λc d=> ?_,l.dead,l.oL,l.next,l.kept⟩,g f F (λc d=>r c (λo=> ?_)),⟨.inr ⟨b,s,L,c,rfl,G.1,G.2,Q,U,V,λi x A=> ?_⟩,λc d=>by grind⟩,F,λc d=>by grind⟩
  ·by_cases X:c=b
   ·grind
   ·rw[r c X] at d⊢;exact l.bZ c d
  ·subst o;have:=(h.bT.bT.lt c d).2
   grind
  ·obtain ⟨C,E,D⟩:=W i x A;exact ⟨C,T.mono _ _ f _ _ E,D⟩
def W6 {g:Option (Int×Nat)} {j:Nat} {w:af} {t:List aK} {y:List af} (h:um eV T z e m k vs eh g v ws) (n:dL z e m' k) (Q:dU (rD eV) z e m' k y v) (O:y=ws.set j w) (bn:j<ws.length) (H:∀p,g=J p->p.1=(j:Int)) (D:dU T z e m' k t w) (V:e6 (da w) (da v)):
  ∃d,dT e.next z d/\dL d e m' k/\um eV T d e m' k vs (eh.set j t) ae v y/\∀b,d b=z b\/da w=J b:=by
 have l:∀{d},fl z d->(∀b,d b=z b\/da w=J b)->ud T d e.next (fV v) j t w->um eV T d e m' k vs (eh.set j t) ae v y:=by
  intro d f s s6;refine ⟨Q.jP f λb R=> ?_,by rw[O,sJ,sJ];exact h.len,λN ix P q r I=> ?_,λp U=>by grind⟩
  ·rcases s b with a|a
   ·grind
   ·exact absurd R (V b a)
  ·rw[O,ll] at q;rw[ll] at r;by_cases M:j=N
   ·grind
   ·rw[if_neg M] at q r;rcases h.oU N ix P q r (λp U S=>M (by grind)) with a|⟨b,u,L,c,W,fQ,kb,nb,r8,q0⟩
    ·exact .inl a
    ·refine .inr ⟨b,u,L,c,W, ?_,kb,nb,r8,λi x A=> ?_⟩
     ·rcases s b with a|a
      ·grind
      ·have:=(D.bT.lt b a).2
       grind
     ·obtain ⟨B,F,E⟩:=q0 i x A;exact ⟨B,T.mono _ _ f _ _ F,E⟩
 rcases D.bT with ⟨rfl,rfl⟩|⟨b,u,L,c,rfl,q,r,I,X,Y,Z⟩
 ·exact ⟨z,dT.refl z,n,l (fl.refl z) (λb=> .inl rfl) (.inl ⟨rfl,rfl⟩),λb=> .inl rfl⟩
 ·let d:Nat->bW:=λc=>if c=b then .lock (fV v) j L T.tid else z c
  have G:d b= .lock (fV v) j L T.tid:=if_pos rfl;have C:∀c,c≠b->d c=z c:=λc a=>if_neg a;have f:fl z d:=λc a=>C c (λH=>by rw[H,I] at a;exact a);have s:∀o,d o=z o\/da (pr (J ⟨b,u,ae⟩) t.length c)=J o:=λo=>by
   by_cases a:o=b
   ·subst a;exact .inr rfl
   grind
  have hU:=D.fresh b rfl;refine ⟨d,⟨f,λc a=>C c (by omega)⟩,⟨λc a=> ?_,n.dead,n.oL,n.next,n.kept⟩,l f s (.inr ⟨b,u,L,c,rfl,G,hU,X,Y,λi x A=> ?_⟩),s⟩
  ·by_cases K:c=b
   ·subst K;rw[G];exact ⟨q,r⟩
   ·rw[C c K] at a⊢;exact n.bZ c a
  ·obtain ⟨B,F,E⟩:=Z i x A;exact ⟨B,T.mono _ _ f _ _ F,E⟩
end
end Go.aF
end
section
namespace Go.aF
noncomputable section
section
variable {P:bI} {D:Nat->Type}
def zM:cv D->Bool| .gE| .za| .oY| .own _=>ak|_=>aa
def qf:cv D->Bool| .own _=>ak| .fn _ a=>a.isEmpty|_=>aa
def pR:List (cv D)->List (cv D)->Prop|[],[]=>True|c::a,d::b=>(zM c=aa->d=c)/\pR a b|_,_=>False
def pR.eq:∀{a e:List (cv D)},pR a e->a.all zM=aa->a=e
 |[],[],_,_=>rfl
 |c::a,d::e,h,b=>by simp only[ml,fx] at b;rw[h.1 b.1,pR.eq h.2 b.2]
 |[],_::_,h,_=>h.elim
 |_::_,[],h,_=>h.elim
def pR.refl:∀(a:List (cv D)),pR a a
 |[]=>trivial
 |_::a=>⟨λ_=>rfl,pR.refl a⟩
structure dP (P:bI) (G:l6 D) (t:Nat) where
 kM:D t->List (cv D)
 qk:List (cv D)->Option (D t)
 x0:D t
 i:TypeInfo
 c0:af
 tid:(G.T t).tid=t
 az:P.info? t=J i
 cN:i.size=(G.T t).bM
 hh:((G.T t).bM==0)=ak
 hp:iJ i.bytes 32768=aa
 bx:i.zero=J c0
 dw:c0.cells.toList.all dy=aa
 et:c0.cells.size=i.size
 GX:∀z,(G.T t).rd z x0 c0.cells.toList
 rc:∀z vs x cs,(G.T t).rd z x cs->bP (ed G z vs) (kM x) cs
 r6:∀z vs cs x ds,qk cs=J x->bP (ed G z vs) cs ds->(G.T t).rd z x ds
 V1:∀x,qk (kM x)=J x
 Ko:∀cs x,qk cs=J x->pR cs (kM x)
 rk:List (cv D)
 qX:∀z vs,bP (ed G z vs) rk c0.cells.toList
 VN:∀x,(kM x).all qf=aa
structure afK (P:bI) (G:l6 D) (t:Nat) where
 e:Nat
 n:Nat
 ti:dP P G e
 i:TypeInfo
 c0:af
 hu:P.underlying t=J (.array n e)
 az:P.info? t=J i
 bx:i.zero=J c0
 dw:c0.cells.toList.all dy=aa
 et:c0.cells.size=i.size
 qX:c0.cells.toList=(gb n ti.c0.cells.toList).flatten
 bB:mn n dc=aa
structure IP (P:bI) (G:l6 D) (bG bA:Nat) where
 dec:DecidableEq (D bG)
 K:nX P bG (G.eo bG)
 V:oK P bA (G.eo bA)
 qY:bc D->Option (D bG)
 tN:cv D->Option (D bA)
 pG:D bA->cv D
 z0:D bA
 i:TypeInfo
 az:P.info? bA=J i
 bx:i.zero=J (ey (ek P bA) (G.eo bA z0))
 wo:∀z vs s a v,qY s=J a->rel G z vs s v->v=ey (ek P bG) (G.eo bG a)
 y0:∀z vs c a v,tN c=J a->ed G z vs c v->v=ey (ek P bA) (G.eo bA a)
 th:∀z vs a,ed G z vs (pG a) (ey (ek P bA) (G.eo bA a))
 u0:ek P bA=ak
structure Yw (P:bI) (G:l6 D) (e:Nat) where
 to:List (D e)->List UInt8
 of:List UInt8->List (D e)
 aV:∀z xs v,fA (G.T e) z xs v->fA (kE e) z (to xs) v
 aM:∀z m0 m k xs v,dU (G.T e) z m0 m k xs v->dU (kE e) z m0 m k (to xs) v
 aw:∀z m0 m k xs v,dU (kE e) z m0 m k xs v->dU (G.T e) z m0 m k (of xs) v
 i:TypeInfo
 hu:P.underlying e=J (.int .u8)
 az:P.info? e=J i
 kL:i.size=1
 bf:∀z m b4 w,Src (kE e) z m b4 w->Src (G.T e) z m (of b4) w
structure AI (P:bI) (G:l6 D) (t:Nat) where
 bY:Array Field
 eq:D t->D t->Bool
 aW:D t->List af
 aJ:P.underlying t=J (.struct bY)
 bb:P.stoodInHeld t=ak
 bs:P.eqGuardType P.depth t=ak
 bf:∀x y,sN P bY.toList 0 (aW x) (aW y)
 aD:∀z x ds,(G.T t).rd z x ds->ds=aW x
 he:∀x y,eq x y=aa↔aW x=aW y
structure ns (P:bI) (G:l6 D) where
 f:Nat
 e:Nat
 u5:Bool
 acc:List (bc D)->Bool
 qp:List (bc D)->List (D e)->Option (List (D e))
 run:∀(z:Nat->bW) (eV m:Mem) (k:Option Nat) (vs lW:List af) (gV:List (bc D)) (xs b4:List (D e)) (v:af),acc gV=aa->qp gV xs=J b4->lk z m->bP (rel G z vs) gV lW->dU (G.T e) z eV m k xs v->
  ∃cc m',h2 P f (v::lW).toArray m (λu m1=>u=(if u5=aa then cc else .tuple #[])/\m1=m')/\(m'=m\/∃b X,da v=J b/\m'=m.put b X)/\dU (G.T e) z eV m' k b4 cc/\da cc=da v/\(u5=ak->cc=v)
structure vO (P:bI) (G:l6 D) (e t:Nat) where
 up:List (D t)->D e
 cN:(G.T e).bM=1
 tid:(G.T e).tid=e
 aV:∀z xs c,fA (G.T t) z xs c->(G.T e).rd z (up xs) [c]
 i:TypeInfo
 az:P.info? e=J i
 bx:i.zero=J (.slice ae 0 0)
 h1:i.size=1
 hp:iJ i.bytes 32768=aa
 hu:P.underlying e=J (.slice t)
 aJ:(G.T t).tid=t
structure e3 (P:bI) (D:Nat->Type) where
 G:l6 D
 S:List (ns P G):=[]
 I:(t:Nat)->Option (dP P G t)
 A:(t:Nat)->Option (afK P G t)
 nm:(bG bA:Nat)->Option (IP P G bG bA)
 B:(e:Nat)->Option (Yw P G e)
 Q:(t:Nat)->Option (AI P G t)
 N:(e t:Nat)->Option (vO P G e t):=λ_ _=>ae
 F:(f:Nat)->List (bc D)->List (ba D)->Bool
 hg:bS->Option bS->Option bS->Nat:=λ_ _ _=>0
 W:(f:Nat)->Bool:=λ_=>ak
 aao : Option { g : Nat // P.globalNamed "humpyard/yardgen.dests" = J g } := ae
 C:(f:Nat)->List (bc D)->List (ba D)->{ap:Type}->(bc D->List (ba D)->Option ap)->Option ap
variable (X:e3 P D) {ap:Type}
def eI:List (Nat×bc D)->Nat->bc D|[],_=> .un|p::E,i=>if fi p.1 i=aa then p.2 else eI E i
def na (E:List (Nat×bc D)):Option Nat->bc D->List (Nat×bc D)|none,_=>E|some d,v=>(d,v)::E
def VW:af->bc D| .int k n=> .c (.int k n)| .bool b=> .c (.bool b)| .string b=> .c (.str b.data.toList)| .slice ae 0 0=> .c .gE| .pointer ae=> .c .za| .map ae=> .c .oY| .nilFunc=> .c .wJ|_=> .un
def dp (E:List (Nat×bc D)):bS->bc D| .tmp t=>eI E t| .const v=>VW v| .func f=> .fn f []| .global _=> .un
def Lw:bS->Bool| .const (.int _ n)=>n !=0|_=>ak
def Jd (d:BinOp) (y:bS) (k:aG) (a b:Int) (K:cv D->Option ap):Option ap:=match d with| .add=>K (.int k (k.wrap (a+b)))| .sub=>K (.int k (k.wrap (a - b)))| .mul=>K (.int k (k.wrap (a*b)))| .and=>K (.int k (ih .and k a b))| .or=>K (.int k (ih .or k a b))| .xor=>K (.int k (ih .xor k a b))| .andNot=>K (.int k (ih .andNot k a b))| .eql=>K (.bool (a==b))| .neq=>K (.bool (a !=b))| .lss=>K (.bool (decide (a<b)))| .leq=>K (.bool (decide (a<=b)))| .gtr=>K (.bool (decide (b<a)))| .geq=>K (.bool (decide (b<=a)))| .quo=>if Lw y=aa then K (.int k (k.wrap (Int.tdiv a b))) else ab (sU a b) λc=>K (.int k (k.wrap c))| .rem=>if Lw y=aa then K (.int k (Int.tmod a b)) else ab (px a b) λc=>K (.int k c)|_=>ae
def ZO (a:BinOp) (s r:List UInt8) (K:cv D->Option ap):Option ap:=match a with| .add=>ab (cD s r) λq=>K (.str q)| .eql=>K (.bool (s==r))| .neq=>K (.bool (!(s==r)))| .lss=>K (.bool (vr s r))| .leq=>K (.bool (vr s r||(s==r)))| .gtr=>K (.bool (!(vr s r||(s==r))))| .geq=>K (.bool (!vr s r))|_=>ae
def ZN (c:BinOp) (a b:Bool) (K:cv D->Option ap):Option ap:=match c with| .eql=>K (.bool (a==b))| .neq=>K (.bool (!(a==b)))|_=>ae
def XW:bS->Bool| .const (.slice ae 0 0)=>aa|_=>ak
def qn (O:List (ba D)):bc D->Option ((e:Nat)×List (D e))| .c (.bh e a)=>J ⟨e,a⟩| .c (.own i)=>(match O[i]? with|some (.bh e a _ _)=>J ⟨e,a⟩|_=>ae)|_=>ae
def aeD:bS->Option Nat| .const (.int _ (.ofNat n))=>J n|_=>ae
def j2 (k:aG) (b:Int):Option Nat:=if 0<=b then J (min b.toNat k.bits) else ae
def G4 (left:Bool) (k:aG) (a:Int) (n:Nat):Int:=if left=aa then k.wrap (a*((2 ^ n:Nat):Int)) else a.fdiv ((2 ^ n:Nat):Int)
def P1 (left:Bool) (y:bS) (k:aG) (a b:Int) (K:cv D->Option ap):Option ap:=match aeD y with|some n=>if iJ n k.bits=aa then K (.int k (G4 left k a n)) else ae|none=>ab (j2 k b) λn=>K (.int k (G4 left k a n))
def UH (g:BinOp) (t h:Nat) (e:List (cv D)) (i:Nat) (f:List (cv D)) (K:cv D->Option ap):Option ap:=
 match X.I t,X.Q t with
 |some d,J c=>
  match d.qk e,d.qk f with
  |some a,J b=>(match g with| .eql=>K (.bool (c.eq a b))| .neq=>K (.bool (!(c.eq a b)))|_=>ae)
  |_,_=>ae
 |_,_=>ae
def T6 (d:BinOp) (t:bV) (y:bS) (O:List (ba D)) (a b:bc D) (K:cv D->Option ap):Option ap:=
 match a,b with
 | .c (.int k a), .c (.int f b)=>(match d with| .shl=>P1 aa y k a b K| .shr=>P1 ak y k a b K|d=>if k=f then Jd d y k a b K else ae)
 | .c (.str s), .c (.str r)=>ZO d s r K
 | .c (.bool a), .c (.bool b)=>match P.underlying t with|some .bool=>ZN d a b K|_=>ae
 |a,_=>
  match d,P.underlying t,XW y with
  | .eql,J (.slice _),aa=>
   match a with
   | .c .gE=>K (.bool aa)
   |a=>match qn O a with|some ⟨_,e⟩=>wK e λt=>K (.bool t)|none=>ae
  | .neq,J (.slice _),aa=>
   match a with
   | .c .gE=>K (.bool ak)
   |a=>match qn O a with|some ⟨_,e⟩=>wK e λt=>K (.bool (!t))|none=>ae
  |_,_,_=>ae
def xy:List (cv D)->Nat->List (cv D)->List (cv D)|L,_,[]=>L|L,o,v::a=>xy (L.set o v) (o+1) a
def v8 (O:List (ba D)) (i:Nat):Option (cv D×List (ba D)):=match O[i]? with|some (.bh e g _ w)=>J (.bh e g,O.set i (.bh e g aa w))|some (.map t b a d _ w)=>J (.mp t b a d,O.set i (.map t b a d aa w))|some (.nest e t (J f) c ae w)=>J (.bh e (c.map f),O.set i (.bh e (c.map f) aa w))|_=>ae
def sY (O:List (ba D)):cv D->Option (cv D×List (ba D))| .own i=>v8 O i|c=>J (c,O)
def uJ (O:List (ba D)):List (cv D)->Option (List (cv D)×List (ba D))
 |[]=>J ([],O)
 |c::e=>
  match sY O c with
  |some (b,d)=>match uJ d e with|some (a,f)=>J (b::a,f)|none=>ae
  |none=>ae
def xg:bc D->Option (List (cv D))| .c c=>J [c]| .agg _ b=>J b| .fn f []=>J [.fn f []]| .box i a=>if a=0 then J [.own i] else ae|_=>ae
def Jx (O:List (ba D)) (s:bc D):Option (List (cv D)×List (ba D)):=match xg s with|some a=>uJ O a|none=>ae
def o7 (t:bV) (b:List (cv D)) (a:Nat) (K:bc D->Option ap):Option ap:=match P.underlying t with|none=>ae|some d=>if lI d then match P.info? t with|none=>ae|some i=>if ((b.drop a).take i.size).length=i.size then K (.agg t ((b.drop a).take i.size)) else ae else match b[a]? with|some c=>K (.c c)|none=>ae
def ay4 (O:List (ba D)) (e:Nat):bc D->Option (List (D e)×List (ba D))| .c .gE=>J ([],O)| .c c=>(match sY O c with|some (.bh b d,a)=>if h:b=e then J (h▸d,a) else ae|_=>ae)|_=>ae
def CH:bS->bS->Bool| .tmp a, .tmp b=>fi a b| .const (.int _ a), .const (.int _ b)=>a==b|_,_=>ak
structure YR (D:Nat->Type) where
 u:Nat
 bG:Nat
 bA:Nat
 es:List (D bG×D bA)
def XY (O:List (ba D)):bc D->Option (YR D)
 | .c (.mp u k v a)=>J ⟨u,k,v,a⟩
 | .c (.own i)=>(match O[i]? with|some (.map u k v a _ _)=>J ⟨u,k,v,a⟩|_=>ae)
 |_=>ae
def XQ (t:bV) (a b:bc D) (O:List (ba D)) (K:bc D->List (ba D)->Option ap):Option ap:=match b with| .c (.int _ n)=>(match a with| .arr i=>(match O[i]? with|some (.arr e u o f _)=>(match X.I e,P.underlying t with|some _,J (.array l d)=>if d=e/\l=o then ab (al f n) λ_=>K (.el i e n 0) O else ae|_,_=>ae)|_=>ae)| .c (.bh e f)=>(match X.I e,P.underlying t with|some g,J (.slice d)=>if d=e then ab (al f n) λa=>K (.hd e (g.kM a) 0) O else ae|_,_=>ae)| .c (.own i)=>(match O[i]? with|some (.bh e f bZ _)=>(match X.I e,P.underlying t with|some g,J (.slice d)=>if d=e then ab (al f n) λa=>if bZ=aa then K (.hd e (g.kM a) 0) O else K (.el i e n 0) O else ae|_,_=>ae)|some (.nest e p _ m _ _)=>(match X.N e p,P.underlying t with|some _,J (.slice d)=>if d=e then ab (al m n) λ_=>K (.el i e n 0) O else ae|_,_=>ae)|_=>ae)| .cut i e h j=>(match O[i]? with|some (.bh k f ak _)=>(match X.I e,P.underlying t with|some _,J (.slice d)=>if d=e/\k=e then ab (al ((f.take j).drop h) n) λ_=>K (.el i e ((h:Int)+n) 0) O else ae|_,_=>ae)|_=>ae)|_=>ae)|_=>ae
def XP (t:bV) (g:Nat) (b:bc D) (O:List (ba D)) (K:bc D->List (ba D)->Option ap):Option ap:=
 match b,P.underlying t with
 | .c (.int _ n),J (.array l e)=>(match P.info? e with|some i=>if l=6/\i.size=1 then ab (al p2 n) λs=>K (.wb g s) O else ae|none=>ae)
 |_,_=>ae
def zz {e:Nat} (c:dP P X.G e):Nat->List (cv D)->Option (List (D e))
 |0,_=>J []
 |n+1,b=>match c.qk (b.take (X.G.T e).bM),zz c n (b.drop (X.G.T e).bM) with|some a,J l=>J (a::l)|_,_=>ae
def XC (t:bV) (a b:bc D) (O:List (ba D)) (K:bc D->List (ba D)->Option ap):Option ap:=
 match a,b,P.underlying t with
 | .agg _ j, .c (.int _ n),J (.array l e)=>
  match X.I e,P.underlying e with
  |some g,J d=>
   if lI d=aa then
    match uJ O j with
    |some (f,h)=>(match zz X g l f with|some i=>ab (al i n) λa=>K (.agg e (g.kM a)) h|none=>ae)
    |none=>ae
   else
    match uJ O j with
    |some (f,h)=>(match zz X g l f with|some i=>ab (al i n) λa=>(match g.kM a with|[c]=>K (.c c) h|_=>ae)|none=>ae)
    |none=>ae
  |_,_=>ae
 |_,_,_=>ae
def W9 (t:bV) (n:Nat) (a:bc D) (O:List (ba D)) (K:bc D->List (ba D)->Option ap):Option ap:=
 match a,P.underlying t with
 | .agg _ b,J (.struct c)=>(match c[n]? with|some f=>if iJ f.offset b.length=aa then o7 (P:=P) f.type b f.offset λv=>K v O else ae|none=>ae)
 |_,_=>ae
def X1 (t:bV) (n:Nat) (a:bc D) (O:List (ba D)) (K:bc D->List (ba D)->Option ap):Option ap:=
 match P.underlying t with
 |some (.struct c)=>
  match c[n]? with
  |some f=>
   match P.info? f.type with
   |some k=>
    if k.size=0 then ae else
    match a with
    | .box i b=>K (.box i (b+f.offset)) O
    | .hd eu d b=>K (.hd eu d (b+f.offset)) O
    | .el i e g b=>K (.el i e g (b+f.offset)) O
    |_=>ae
   |none=>ae
  |none=>ae
 |_=>ae
def xj (O:List (ba D)) (i:Nat):Option (List (ba D)):=match O[i]? with|some (.nest _ _ _ _ ae _)=>J O|some (.nest e t c a (J p) _)=>(match O[p.2]? with|some (.bh b d ak _)=>if h:b=t then J ((O.set i (.nest e t c (a.set p.1.toNat (h▸d)) ae aa)).set p.2 .dead) else ae|_=>ae)|_=>ae
def Xb (t:bV) (i e:Nat) (g:Int) (d:Nat) (O:List (ba D)) (K:bc D->List (ba D)->Option ap):Option ap:=match xj O i with|some a=>(match a[i]? with|some (.nest b f j h ae w)=>(match X.N b f with|some _=>if b=e/\t=e/\d=0 then ab (al h g) λk=>K (.c (.own a.length)) (a.set i (.nest b f j h (J (g,a.length)) w)++[.bh f k ak ak]) else ae|none=>ae)|_=>ae)|none=>ae
def Xm:Option (ba D)->Bool|some (.nest _ _ _ _ _ _)=>aa|_=>ak
def V3 (K:bc D->List (ba D)->Option ap) (v:bc D) (O:List (ba D)):Option ap:=
 match v with
 | .c (.own i)=>(match O[i]? with|some (.box ..)=>K (.box i 0) O|_=>K v O)
 |v=>K v O
def Lo (t:bV) (a:bc D) (O:List (ba D)) (K:bc D->List (ba D)->Option ap):Option ap:=
 match a with
 | .hd _ d b=>o7 (P:=P) t d b λv=>K v O
 | .wb g s=>(match X.aao,P.underlying t with|some p,J .string=>if p.1=g then K (.c (.str s)) O else ae|_,_=>ae)
 | .box i b=>
  match O[i]? with
  |some (.box _ d _ _)=>o7 (P:=P) t d b λv=>K v O
  |some (.recv _ d _)=>o7 (P:=P) t d b λv=>K v O
  |_=>ae
 | .el i e j b=>
  if Xm O[i]? =aa then Xb X t i e j b O K else
  match O[i]?,X.I e with
  |some (.bh f l _ _),J k=>if h:f=e then ab (al (h▸l:List (D e)) j) λa=>o7 (P:=P) t (k.kM a) b λv=>K v O else ae
  |some (.arr f _ _ l _),J k=>if h:f=e then ab (al (h▸l:List (D e)) j) λa=>o7 (P:=P) t (k.kM a) b λv=>K v O else ae
  |_,_=>ae
 |_=>ae
def Xa (t:bV) (a:bc D) (O:List (ba D)) (K:bc D->List (ba D)->Option ap):Option ap:=match a with| .el i e f b=>(match O[i]? with|some (.nest d g _ _ (J p) _)=>(match X.N d g,O[p.2]? with|some _,J (.bh _ _ ak _)=>if d=e/\t=e/\b=0 then (if p.1=f then K (.c (.own p.2)) O else ae) else ae|_,_=>ae)|_=>ae)|_=>ae
def aea (t:bV) (a:bc D) (O:List (ba D)) (K:bc D->List (ba D)->Option ap):Option ap:=
 Lo X t a O λd b=>match d with
  | .c (.own j)=>(match v8 b j with|some (c,e)=>K (.c c) e|none=>ae)
  |_=>ae
def Wx (t:bV) (i e:Nat) (d:Int) (l:Nat) (b:bc D) (O:List (ba D)) (K:bc D->List (ba D)->Option ap):Option ap:=match b with| .c (.own j)=>(match O[i]?,O[j]? with|some (.nest f k m g a _),J (.bh o n ak _)=>(match X.N f k with|some _=>if h:o=k then if f=e/\t=e/\l=0 then match a with|none=>ab (al g d) λ_=>K .undef ((O.set i (.nest f k m (g.set d.toNat (h▸n)) ae aa)).set j .dead)|some p=>if p.1=d then ab (al g d) λ_=>K .undef ((O.set i (.nest f k m (g.set d.toNat (h▸n)) ae aa)).set j .dead) else ae else ae else ae|none=>ae)|_,_=>ae)| .c .gE=>(match O[i]? with|some (.nest f k m g a _)=>(match X.N f k with|some _=>if f=e/\t=e/\l=0 then match a with|none=>ab (al g d) λ_=>K .undef (O.set i (.nest f k m (g.set d.toNat []) ae aa))|some p=>if p.1=d then ab (al g d) λ_=>K .undef (O.set i (.nest f k m (g.set d.toNat []) ae aa)) else ae else ae|none=>ae)|_=>ae)|_=>ae
def Xd (t:bV) (a b:bc D) (O:List (ba D)) (K:bc D->List (ba D)->Option ap):Option ap:=
 match P.info? t with
 |none=>ae
 |some k=>
  match a with
  | .box i c=>
   match xg b with
   |none=>ae
   |some new=>
    if new.length=k.size then
     match O[i]? with
     |some (.box u f ak _)=>if c+new.length<=f.length then K .undef (O.set i (.box u (xy f c new) ak aa)) else ae
     |some (.recv u f _)=>if c+new.length<=f.length then K .undef (O.set i (.recv u (xy f c new) aa)) else ae
     |_=>ae
    else ae
  | .el i e g c=>
   if Xm O[i]? =aa then Wx X t i e g c b O K else
   match Jx O b with
   |none=>ae
   |some (new,O)=>
    if new.length=k.size then
     match O[i]?,X.I e with
     |some (.bh m j ak _),J d=>
      if h:m=e then ab (al (h▸j:List (D e)) g) λa=>if c+new.length<=(d.kM a).length then ab (d.qk (xy (d.kM a) c new)) λl=>K .undef (O.set i (.bh e ((h▸j:List (D e)).set g.toNat l) ak aa)) else ae
      else ae
     |some (.arr m u n j _),J d=>
      if h:m=e then ab (al (h▸j:List (D e)) g) λa=>if c+new.length<=(d.kM a).length then ab (d.qk (xy (d.kM a) c new)) λl=>K .undef (O.set i (.arr e u n ((h▸j:List (D e)).set g.toNat l) aa)) else ae
      else ae
     |_,_=>ae
    else ae
  |_=>ae
def CK {e:Nat} (b:dP P X.G e) (E:List (Nat×bc D)):Nat->List (Nat×bS)->List (ba D)->(List (D e)->List (ba D)->Option ap)->Option ap|_,[],O,K=>K [] O|n,(j,x)::c,O,K=>if j=n then match Jx O (dp E x) with|some (d,O)=>ab (b.qk d) λa=>CK b E (n+1) c O λf O=>K (a::f) O|none=>ae else ae
def xi (d:List (Option (Nat×Nat))) (E:List (Nat×bc D)):List (Nat×bS)->List (cv D)->Option (List (cv D))|[],c=>J c|(i,x)::e,c=>match (d[i]?).join,xg (dp E x) with|some (b,a),J new=>if new.length=a/\b+a<=c.length then xi d E e (xy c b new) else ae|_,_=>ae
def y6 (E:List (Nat×bc D)):Option bS->Option Int
 |none=>J 0
 |some y=>match dp E y with| .c (.int _ n)=>J n|_=>ae
def zL (E:List (Nat×bc D)) (l:Int):Option bS->Option Int
 |none=>J l
 |some y=>match dp E y with| .c (.int _ n)=>J n|_=>ae
def X0 (t:bV) (a:bc D) (E:List (Nat×bc D)) (d b:Option bS) (O:List (ba D)) (K:bc D->List (ba D)->Option ap):Option ap:=match a with| .c (.str s)=>(match P.underlying t,y6 E d,zL E (s.length:Int) b with|some .string,J x,J y=>ab (gi s x y) λr=>K (.c (.str r)) O|_,_,_=>ae)| .c c=>(match sY O c with|some (.bh e f,O)=>(match P.underlying t,X.I e,y6 E d,zL E (f.length:Int) b with|some (.slice g),J _,J x,J y=>if g=e then ab (gi f x y) λr=>K (.c (.bh e r)) O else ae|_,_,_,_=>ae)|_=>ae)|_=>ae
def abE:bc D->Bool| .c .gE=>aa|_=>ak
def XA (t:bV) (y:bS) (a:bc D) (E:List (Nat×bc D)) (d b:Option bS) (O:List (ba D)) (K:bc D->List (ba D)->Option ap):Option ap:=
 if abE a=aa then
  match P.underlying t,y6 E d,zL E 0 b with
  |some (.slice e),J p,J q=>(match X.I e with|some _=>if (p==0&&q==0)=aa then K (.c .gE) O else ae|none=>ae)
  |_,_,_=>ae
 else
 match X.hg y d b with
 |0=>X0 X t a E d b O K
 |md+1=>
  match a with
  | .c (.own i)=>
   match O[i]?,P.underlying t with
   |some (.bh e f ak _),J (.slice g)=>
    match X.I e,y6 E d,zL E (f.length:Int) b with
    |some _,J p,J q=>
     if g=e then ab (gi f p q) λr=>
      if fi md 0=aa then K (.cut i e p.toNat q.toNat) O
      else K (.c (.own O.length)) (O.set i .dead++[.bh e r ak ak])
     else ae
    |_,_,_=>ae
   |_,_=>ae
  |_=>ae
def LJ {a:Type} (b:List a) (p q:Int):Option (List a):=if 0<=p/\p<=(b.length:Int)/\p<=4294967296/\p=q then J (b.take p.toNat) else ae
def XB (t:bV) (a b c:bc D) (O:List (ba D)) (K:bc D->List (ba D)->Option ap):Option ap:=match P.underlying t,b,c with|some (.slice d), .c (.int _ p), .c (.int _ q)=>(match a with| .c c=>(match sY O c with|some (.bh e f,O)=>(match X.I e with|some _=>if d=e then ab (LJ f p q) λr=>K (.full e r) O else ae|none=>ae)|_=>ae)|_=>ae)|_,_,_=>ae
def Xz (s t:bV) (a:bc D) (O:List (ba D)) (K:bc D->List (ba D)->Option ap):Option ap:=
 match P.underlying s,P.underlying t with
 |some (.int _),J (.int d)=>(match a with| .c (.int _ n)=>K (.c (.int d (d.wrap n))) O|_=>ae)
 |some .string,J (.slice e)=>(match a,X.B e with| .c (.str s),J b=>ab (cD s []) (λg=>K (.c (.own O.length)) (O++[.bh e (b.of g) ak ak]))|_,_=>ae)
 |some (.slice e),J .string=>(match qn O a,X.B e with|some ⟨f,i⟩,J b=>if h:f=e then K (.c (.str (b.to (h▸i)))) O else ae|_,_=>ae)
 |_,_=>ae
def Lx (O:List (ba D)) (s:bc D):Option ((e:Nat)×List (D e)):=match s with| .cut i e b n=>(match O[i]? with|some (.bh a c ak _)=>if a=e then J ⟨a,(c.take n).drop b⟩ else ae|_=>ae)|s=>qn O s
def Xp (e:Nat) (g:TypeDesc) (b:bc D) (O:List (ba D)):Option (List (D e)):=
 match g with
 | .slice _=>(match b with
  | .c .gE=>J []
  |b=>match Lx O b with|some ⟨d,a⟩=>if h:d=e then J (h▸a) else ae|none=>ae)
 | .string=>(match b,X.B e with
  | .c (.str s),J f=>J (f.of s)
  |_,_=>ae)
 |_=>ae
def Ly (t u:bV) (a b:bc D) (O:List (ba D)) (K:bc D->List (ba D)->Option ap):Option ap:=match P.underlying t,P.underlying u with|some (.slice e),J l=>(match X.I e with|none=>ae|some _=>match Xp X e l b O with|none=>ae|some d=>match a with| .c .gE=>ab (cD [] d) λr=>K (.c (.own O.length)) (O++[.bh e r ak ak])| .full f g=>if h:f=e then (if d.isEmpty=aa then ae else ab (cD (h▸g:List (D e)) d) λr=>K (.c (.own O.length)) (O++[.bh e r ak ak])) else ae| .c (.own i)=>(match O[i]? with|some (.bh f g ak _)=>if h:f=e then ab (cD (h▸g:List (D e)) d) λr=>K (.c (.own O.length)) (O.set i .dead++[.bh e r ak ak]) else ae|_=>ae)| .cut i j k n=>if fi k 0 then if j=e then match O[i]? with|some (.bh f g ak _)=>if h:f=e then ab (cD ((h▸g:List (D e)).take n) d) λr=>K (.c (.own O.length)) (O.set i .dead++[.bh e r ak ak]) else ae|_=>ae else ae else ae|_=>ae)|_,_=>ae
def Xy (t u:bV) (a b:bc D) (O:List (ba D)) (K:bc D->List (ba D)->Option ap):Option ap:=
 match P.underlying t,P.underlying u with
 |some (.slice e),J (.slice _)=>
  match X.I e,a,Lx O b with
  |some _, .full cz i,J ⟨g,d⟩=>
   if h:cz=e then
    if f:g=e then ab (cD (h▸i:List (D e)) (f▸d:List (D e))) λr=>if d.isEmpty=aa then K (.c (.bh e r)) O else K (.c (.own O.length)) (O++[.bh e r ak ak])
    else ae
   else ae
  |_,_,_=>ae
 |_,_=>ae
def W8 (t:bV) (a b:bc D) (O:List (ba D)) (K:bc D->List (ba D)->Option ap):Option ap:=match P.underlying t,a,b with|some (.slice e), .c .gE, .c (.int _ n)=>(match X.I e with|some k=>if (decide (0<n))=aa then ab (hy k.x0 n) λr=>K (.c (.own O.length)) (O++[.bh e r ak ak]) else ae|none=>ae)|some (.slice e), .c (.own i), .c (.int _ n)=>(match xj O i with|some f=>(match f[i]? with|some (.nest d g l j ae _)=>(match X.N d g with|some _=>if d=e then ab (hy ([]:List (D g)) n) λh=>ab (cD j h) λr=>K (.c (.own f.length)) (f.set i .dead++[.nest d g l r ae ak]) else ae|none=>ae)|_=>ae)|none=>ae)|_,_,_=>ae
def Xl:Option TypeDesc->Bool|some (.int _)=>aa|_=>ak
def XS (t:bV) (l:Nat) (d:List (Nat×bS)) (E:List (Nat×bc D)) (O:List (ba D)) (K:bc D->List (ba D)->Option ap):Option ap:=match P.underlying t with|some (.slice e)=>(match P.underlying e with|some (.slice a)=>(match X.N e a with|some b=>(match l,d with|0,[]=>K (.c (.own O.length)) (O++[.nest e a (J b.up) [] ae ak])|1,[(0,y)]=>(match dp E y with| .c (.own j)=>(match O[j]? with|some (.bh f _ ak _)=>if f=a then K (.c (.own O.length)) (O++[.nest e a (J b.up) [[]] (J (0,j)) ak]) else ae|_=>ae)|_=>ae)|_,_=>ae)|none=>ae)|_=>ae)|_=>ae
def Xx (t u:bV) (i:Nat) (b:bc D) (O:List (ba D)) (K:bc D->List (ba D)->Option ap):Option ap:=
 match P.underlying t,P.underlying u with
 |some (.slice e),J (.slice _)=>
  match b with
  | .c (.own j)=>
   if fi i j=aa then ae else
   match xj O i with
   |some k=>
    match xj k j with
    |some a=>
     match a[i]?,a[j]? with
     |some (.nest f d o m ae _),J (.nest l n _ g ae _)=>
      match X.N f d with
      |some p=>if h:n=d then (if f=e/\l=e then ab (cD m (h▸g:List (List (D d)))) λr=>K (.c (.own a.length)) ((a.set i .dead).set j .dead++[.nest f d o r ae ak]) else ae) else ae
      |none=>ae
     |_,_=>ae
    |none=>ae
   |none=>ae
  |_=>ae
 |_,_=>ae
def XR (t:bV) (a:bc D) (O:List (ba D)) (K:bc D->List (ba D)->Option ap):Option ap:=
 match a,P.underlying t with
 | .c (.str s),J .string=>K (.c (.int .i64 (s.length:Int))) O
 | .c .gE,J (.slice _)=>K (.c (.int .i64 (([]:List Int).length:Int))) O
 |a,J (.slice _)=>
  match qn O a with
  |some ⟨_,b⟩=>K (.c (.int .i64 (b.length:Int))) O
  |none=>
   match a with
   | .c (.own i)=>(match O[i]? with|some (.nest _ _ _ h _ _)=>K (.c (.int .i64 (h.length:Int))) O|_=>ae)
   | .cut i e f d=>(match O[i]? with|some (.bh g b ak _)=>if g=e then K (.c (.int .i64 (((b.take d).drop f).length:Int))) O else ae|_=>ae)
   |_=>ae
 |_,_=>ae
def avq:cv D->Bool| .own _=>ak| .fn _ a=>a.isEmpty|_=>aa
def vp (O:List (ba D)):bc D->Option ((Nat×List (cv D))×List (ba D))| .hd t b a=>if a=0 then J ((t,b),O) else ae| .box i a=>(match O[i]? with|some (.box t b _ w)=>if a=0 then J ((t,b),O.set i (.box t b aa w)) else ae|_=>ae)|_=>ae
def V2 (s:bc D) (K:bc D->List (ba D)->Option ap):bc D->List (ba D)->Option ap:=
 match s with
 | .box _ _=>λv O=>(match vp O v with|some (c,O)=>K (.hd c.1 c.2 0) O|none=>ae)
 |_=>K
def Ch:List (bc D)->List (ba D)->Option (List (Nat×List (cv D))×List (ba D))
 |[],O=>J ([],O)
 |s::l,O=>
  match vp O s with
  |some (c,O)=>(match Ch l O with|some (r,O)=>J (c::r,O)|none=>ae)
  |none=>ae
def T9 (O:List (ba D)):bc D->Option Nat| .box i a=>(match O[i]? with|some (.box _ _ ak _)=>if a=0 then J i else ae|_=>ae)|_=>ae
def Cv (O:List (ba D)):List (bc D)->Option (List Nat)
 |[]=>J []
 |s::l=>match T9 O s,Cv O l with|some i,J a=>J (i::a)|_,_=>ae
def xk:List (ns P X.G)->Nat->List (Nat×List (cv D))->List (bc D)->Option (ns P X.G)|[],_,_,_=>ae|s::l,f,a,b=>if (fi s.f f&&(a.isEmpty&&s.acc b.tail))=aa then J s else xk l f a b
def XD (a:ns P X.G) (d:List (bc D)) (O:List (ba D)) (K:bc D->List (ba D)->Option ap):Option ap:=match d with| .c (.own i)::f=>(match O[i]? with|some (.bh e g ak _)=>if h:e=a.e then ab (a.qp f (h▸g:List (D a.e))) λb=>if a.u5=aa then K (.c (.own O.length)) (O.set i .dead++[.bh a.e b ak ak]) else K (.sq []) (O.set i (.bh a.e b ak aa)) else ae|_=>ae)|_=>ae
def sa (c:Call) (E:List (Nat×bc D)) (O:List (ba D)) (K:bc D->List (ba D)->Option ap):Option ap:=
 match c.callee with
 | .builtin .len=>match c.args.toList,c.argTypes.toList with|[x],[t]=>XR (P:=P) t (dp E x) O K|_,_=>ae
 | .builtin .append=>match c.args.toList,c.argTypes.toList with|[x,y],[t,u]=>if Xl (P.underlying u)=aa then W8 X t (dp E x) (dp E y) O K else if fi (X.hg y (J x) (J x)) 6=aa then Xy X t u (dp E x) (dp E y) O K else (match dp E x with| .c (.own i)=>if Xm O[i]? =aa then Xx X t u i (dp E y) O K else Ly X t u (dp E x) (dp E y) O K|_=>Ly X t u (dp E x) (dp E y) O K)|_,_=>ae
 | .builtin .cap=>match c.args.toList,c.argTypes.toList with|[x],[t]=>(match dp E x,P.underlying t with| .c .gE,J (.slice _)=>K (.c (.int .i64 0)) O|_,_=>ae)|_,_=>ae
 | .builtin .max=>match c.args.toList with|[x,y]=>(match dp E x,dp E y with| .c (.int k a), .c (.int e b)=>if k=e then K (.c (.int k (max a b))) O else ae|_,_=>ae)|_=>ae
 | .builtin .min=>match c.args.toList with|[x,y]=>(match dp E x,dp E y with| .c (.int k a), .c (.int e b)=>if k=e then K (.c (.int k (min a b))) O else ae|_,_=>ae)|_=>ae
 | .value f=>
  match dp E f with
  | .fn f d=>
   match xk X X.S f d (c.args.toList.map (dp E)) with
   |some h=>XD X h (c.args.toList.map (dp E)) O K
   |none=>X.C f (c.args.toList.map (dp E)++d.map λp=> .hd p.1 p.2 0) O K
  | .c (.fn f g)=>X.C f (c.args.toList.map (dp E)++g.map λi=> .box i 0) O K
  |_=>ae
 |_=>ae
def Xc (e:Nat) (x y:bS) (n:Int) (O:List (ba D)) (K:bc D->List (ba D)->Option ap):Option ap:=match P.underlying e with|some (.slice a)=>(match X.N e a,CH x y with|some b,aa=>ab (hy ([]:List (D a)) n) λr=>K (.c (.own O.length)) (O++[.nest e a (J b.up) r ae ak])|_,_=>ae)|_=>ae
def iR (o:Op) (E:List (Nat×bc D)) (O:List (ba D)) (K:bc D->List (ba D)->Option ap):Option ap:=
 match o with
 | .move x=>K (dp E x) O
 | .assign x=>K (dp E x) O
 | .nilCheck x=>(match dp E x with| .box .. | .arr .. | .el .. | .hd .. =>K (dp E x) O|_=>ae)
 | .extract x i=>(match dp E x with| .sq l=>(match l[i]? with|some (.inl c)=>K (.c c) O|some (.inr p)=>K (.agg p.1 p.2) O|none=>ae)|_=>ae)
 | .pick c a b=>(match dp E c with| .c (.bool aa)=>K (dp E a) O| .c (.bool ak)=>K (dp E b) O|_=>ae)
 | .binOp op t x y u=>(match dp E x,dp E y with| .agg t1 V, .agg t2 W=>UH X op t t1 V t2 W λc=>K (.c c) O|a,b=>T6 (P:=P) op t y O a b λc=>K (.c c) O)
 | .unOp .not t x=>(match dp E x with| .c (.bool b)=>K (.c (.bool (!b))) O|_=>ae)
 | .unOp .neg t x=>(match dp E x with| .c (.int k a)=>K (.c (.int k (k.wrap (0 - a)))) O|_=>ae)
 | .convert s t x=>Xz X s t (dp E x) O K
 | .indexAddr t (.global g) y=>XP (P:=P) t g (dp E y) O K
 | .indexAddr t x y=>XQ X t (dp E x) (dp E y) O K
 | .field t x n=>W9 (P:=P) t n (dp E x) O K
 | .fieldAddr t x n=>X1 (P:=P) t n (dp E x) O K
 | .load t x=>if fi (X.hg x ae ae) 4=aa then aea X t (dp E x) O K else if fi (X.hg x ae ae) 7=aa then Xa X t (dp E x) O K else Lo X t (dp E x) O (V3 K)
 | .store t x y=>Xd X t (dp E x) (dp E y) O K
 | .alloc t=>
  (match X.A t with
  |some L=>K (.arr O.length) (O++[.arr L.e t L.n (gb L.n L.ti.x0) ak])
  |none=>match X.I t with|some z=>K (.box O.length 0) (O++[.box t z.rk ak ak])|none=>ae)
 | .box t x=>
  (match P.info? t,xg (dp E x) with
  |some i,J B=>if B.length=i.size then V2 (dp E x) K (.box O.length 0) (O++[.box t B ak ak]) else ae
  |_,_=>ae)
 | .makeSlice t x y=>
  (match P.underlying t,dp E x with
  |some (.slice e), .c (.int _ n)=>
   if fi (X.hg x (J x) (J x)) 3=aa then Xc X e x y n O K else
   match X.I e,CH x y with
   |some z,aa=>ab (hy z.x0 n) λr=>K (.c (.own O.length)) (O++[.bh e r ak ak])
   |_,_=>ae
  |_,_=>ae)
 | .buildSlice t l C=>
  if fi (X.hg (.const (.int .i64 (t:Int))) ae ae) 3=aa then XS X t l C.toList E O K else
  (match P.underlying t with
  |some (.slice e)=>
   match X.I e with
   |some z=>CK X z E 0 C.toList O λS O=>if S.length=l/\iJ (l*(X.G.T e).bM) 16777216=aa then K (.c (.own O.length)) (O++[.bh e S ak ak]) else ae
   |none=>ae
  |_=>ae)
 | .build t C=>
  (match P.underlying t,X.I t with
  |some (.struct R),J z=>if (pC P R).all Y2=aa then (match xi (pC P R) E C.toList z.rk with|some B=>K (.agg t B) O|none=>ae) else ae
  |some (.array n e),J z=>(match P.info? e with|some k=>(match xi ((mN n).map λj=>J (j*k.size,k.size)) E C.toList z.rk with|some B=>K (.agg t B) O|none=>ae)|none=>ae)
  |_,_=>ae)
 | .slice t x Y U ae=>XA X t x (dp E x) E Y U O K
 | .slice t x ae (J y) (J Z)=>XB X t (dp E x) (dp E y) (dp E Z) O K
 | .index t x y=>(match P.underlying t,dp E x,dp E y with|some .string, .c (.str s), .c (.int _ n)=>ab (al s n) λc=>K (.c (.int .u8 (UInt8.toNat c:Int))) O|_,a,b=>XC X t a b O K)
 | .makeFunc (.func f) first F=>
  if fi (X.hg (.func f) ae ae) 5=aa then (match first.toList,Cv O (F.toList.map (dp E)) with|[],J is=>K (.c (.fn f is)) O|_,_=>ae) else
  (match first.toList,Ch (F.toList.map (dp E)) O with|[],J (H,O)=>K (.fn f H) O|_,_=>ae)
 | .makeMap t ae=>(match P.underlying t with|some (.map m h)=>K (.c (.own O.length)) (O++[.map t m h [] ak ak])|_=>ae)
 | .lookup t x y ok=>
  (match XY O (dp E x),dp E y with
  |some ⟨u,m,h,N⟩,c=>
   match P.underlying t,P.underlying u with
   |some (.map k v),J (.map Q M)=>
    if k=m/\v=h/\Q=m/\M=h then
     match X.nm m h with
     |some q=>
      match q.qY c with
      |some a=>aF.lt (@jv _ _ q.dec N a) λy=>if ok=aa then K (.sq [.inl (q.pG (y.getD q.z0)), .inl (.bool y.isSome)]) O else K (.c (q.pG (y.getD q.z0))) O
      |none=>ae
     |none=>ae
    else ae
   |_,_=>ae
  |_,_=>ae)
 | .mapUpdate t x y w| .insert t x y w=>
  (match dp E x,dp E y,dp E w with
  | .c (.own i),c, .c d=>
   match O[i]? with
   |some (.map u m h N ak _)=>
    match P.underlying t,P.underlying u with
    |some (.map k v),J (.map Q M)=>
     if k=m/\v=h/\Q=m/\M=h then
      match X.nm m h with
      |some q=>
       match q.qY c,q.tN d with
       |some a,J b=>aF.lt (@o8 _ _ q.dec N a b) λv7=>K .undef (O.set i (.map u m h v7 ak aa))
       |_,_=>ae
      |none=>ae
     else ae
    |_,_=>ae
   |_=>ae
  |_,_,_=>ae)
 | .call c=>sa X c E O K
 |_=>ae
def aed:Op->Option Nat| .pick (.tmp d) _ _=>J d|_=>ae
def vn (E:List (Nat×bc D)) (d:Nat) (K:List (Nat×bc D)->Option ap):Option ap:=match eI E d with| .c (.bool b)=>if b=aa then K ((d, .c (.bool aa))::E) else K ((d, .c (.bool ak))::E)| .undef=>K E|_=>ae
def BI (o:Oper) (E:List (Nat×bc D)) (O:List (ba D)) (K:List (Nat×bc D)->List (ba D)->Option ap):Option ap:=match aed o.op with|some d=>vn E d λE=>iR X o.op E O λv O=>K (na E o.dst v) O|none=>iR X o.op E O λv O=>K (na E o.dst v) O
def tM (a:List Oper):List Oper->List (Nat×bc D)->List (ba D)->(List (Nat×bc D)->List (ba D)->Option ap)->Option ap
 |[],E,O,K=>K E O
 |o::f,E,O,K=>
  match o.guard with
  |none=>BI X o E O λE O=>tM a f E O K
  |some (j,e)=>
   match (a[j]?).bind (·.dst) with
   |none=>ae
   |some d=>
    vn E d λE=>
     match eI E d with
     | .c (.bool b)=>if b=e then BI X o E O λE O=>tM a f E O K else tM a f (na E o.dst .undef) O K
     | .undef=>tM a f (na E o.dst .undef) O K
     |_=>ae
inductive l4 where
 |py|bZ|lost
 |ob (j:Nat)
def q9 (E:List (Nat×bc D)):Op->Option l4
 | .load _ x=>(match dp E x with| .wb _ _=>J .bZ| .hd _ (_::_) _=>J .bZ| .box j _=>J (.ob j)| .el j _ _ _=>J (.ob j)|_=>ae)
 | .lookup _ x _ _=>(match dp E x with| .c (.mp _ _ _ _)=>J .bZ| .c (.own j)=>J (.ob j)|_=>ae)
 | .convert _ _ x=>(match dp E x with| .c (.bh _ _)=>J .bZ| .c (.own j)=>J (.ob j)| .c (.int _ _)=>J .py| .c (.str _)=>J .py|_=>ae)
 | .slice _ x _ _ _=>(match dp E x with| .c (.str _)=>J .py| .c (.bh _ _)=>J .bZ| .c (.own j)=>J (.ob j)|_=>ae)
 |_=>J .py
def q1:List (bc D)->List Nat|[]=>[]| .box i _::l=>i::q1 l|_::l=>q1 l
def zC:List (bc D)->List Nat|[]=>[]| .c (.own i)::l=>i::zC l|_::l=>zC l
def sj (E:List (Nat×bc D)):Op->Option (List Nat)
 | .store _ x _=>(match dp E x with| .box j _=>J [j]| .el j _ _ _=>J [j]|_=>ae)
 | .mapUpdate _ x _ _=>(match dp E x with| .c (.own j)=>J [j]|_=>ae)
 | .insert _ x _ _=>(match dp E x with| .c (.own j)=>J [j]|_=>ae)
 | .call c=>
  match c.callee with
  | .builtin .append=>(match c.args.toList with|x::_=>(match dp E x with| .c .gE=>J []| .c (.own j)=>J [j]| .cut j _ _ _=>J [j]| .full _ _=>J []|_=>ae)|[]=>ae)
  | .value f=>(match dp E f with| .fn ma a=>(match xk X X.S ma a (c.args.toList.map (dp E)) with|some _=>J (zC (c.args.toList.map (dp E)))|none=>if X.W ma=aa then ae else J (q1 (c.args.toList.map (dp E))))|_=>ae)
  |_=>ae
 |_=>ae
structure gk where
 rd:List (Nat×l4)
 j7:List (Nat×(Bool×List Nat))
 jZ:List (Nat×Nat)
 lK:List (Nat×Bool)
 pg:List Nat
def y4:bc D->Bool| .c (.bh _ _)=>aa| .hd _ (_::_) _=>aa|_=>ak
def tr (E:List (Nat×bc D)) (L:gk):bS->Bool| .tmp d=> !(L.pg.any (fi d))&&y4 (eI E d)|_=>ak
def rK (E:List (Nat×bc D)) (L:gk):Op->Bool| .move x=>tr E L x| .assign x=>tr E L x| .nilCheck x=>tr E L x| .fieldAddr _ x _=>tr E L x| .indexAddr _ x _=>tr E L x|_=>ak
def abf (E:List (Nat×bc D)) (L:gk):Op->Bool| .load _ x=>tr E L x| .slice _ x _ _ ae=>tr E L x|_=>ak
def sx (E:List (Nat×bc D)) (o:Oper) (L:gk):gk:=
 match o.dst with
 |none=>L
 |some d=>if rK E L o.op=aa then {L with pg:=L.pg.filter λe=> !(fi d e)} else {L with pg:=d::L.pg}
def tB (O:List (ba D)) (j:Nat):Bool:=match O[j]? with|some o=>o.live|none=>ak
def Lc (O:List (ba D)) (j:Nat):Bool:=match O[j]? with|some .dead=>ak|some (.box _ [] aa _)=>ak|some _=>aa|none=>ak
def vo (O:List (ba D)) (a:List Nat) (j:Nat):Bool:=Lc O j&& !(a.any (fi j))
def vf (O:List (ba D)):Nat->List (ba D)->List Nat|_,[]=>[]|i,o::l=>if o.live=aa then i::vf O (i+1) l else vf O (i+1) l
def zO (B:Array Nat) (i:Nat) (O:List (ba D)) (L:gk):l4->Bool| .py=>aa| .bZ=>L.j7.all λy=>gD B i y.1||y.2.1| .ob j=>Lc O j&&L.j7.all λy=>gD B i y.1||(y.2.1||y.2.2.any (fi j))| .lost=>ak
def G5 (O:List (ba D)) (a:List Nat):l4->Bool| .ob j=>vo O a j| .lost=>ak|_=>aa
def XF (B:Array Nat) (i:Nat) (O:List (ba D)) (L:gk) (a:List Nat):Bool:=a.all (tB O)&&((L.rd.all λy=>gD B i y.1||G5 O a y.2)&&L.jZ.all λy=>gD B i y.1||vo O a y.2)
def tA (E:List (Nat×bc D)) (O:List (ba D)):Op->Bool
 | .call c=>
  match c.callee with
  | .value f=>(match dp E f with| .fn f a=>(match xk X X.S f a (c.args.toList.map (dp E)) with|some _=>ak|none=>X.F f (c.args.toList.map (dp E)++a.map λp=> .hd p.1 p.2 0) O)|_=>ak)
  |_=>ak
 |_=>ak
def A0 (i:Nat) (O:List (ba D)) (a:List Nat) (b:Bool) (L:gk):gk:=
 {rd:=L.rd.map λy=>if G5 O a y.2=aa then y else (y.1, .lost)
  j7:=((i,aa,vf O 0 O)::L.j7).map λy=>(y.1,y.2.1&&b,y.2.2.filter (vo O a))
  jZ:=L.jZ
  lK:=(i,a.isEmpty)::L.lK.map λy=>(y.1,y.2&&a.isEmpty)
  pg:=L.pg}
def XZ:bc D->Option (Option Nat)| .c (.own j)=>J (J j)| .box j _=>J (J j)| .arr j=>J (J j)| .c (.int _ _)=>J ae| .c (.str _)=>J ae|_=>ae
def abH (o:Op) (v:bc D):Option (Option Nat):=if sg o=aa then XZ v else J ae
def pD (i:Nat) (s:l4) (n:Option Nat) (L:gk):gk:=
 {rd:=match s with| .py=>L.rd|s=>(i,s)::L.rd
  j7:=match n with|some _=>L.j7.map λy=>(y.1,ak,y.2.2)|none=>L.j7
  jZ:=match n with|some j=>(i,j)::L.jZ|none=>L.jZ
  lK:=L.lK
  pg:=L.pg}
def aaj:l4->Bool| .bZ=>aa|_=>ak
def Lm (B:Array Nat) (i:Nat) (E:List (Nat×bc D)) (L:gk) (s:l4) (o:Op):Bool:=aaj s&&abf E L o
def Xo (B:Array Nat) (i:Nat) (L:gk):Bool:=(L.rd.all λy=>gD B i y.1)&&L.jZ.all λy=>gD B i y.1
def XG (i:Nat) (L:gk):gk:=
 {rd:=L.rd.map λy=>(y.1, .lost)
  j7:=(i,ak,[])::L.j7.map λy=>(y.1,ak,[])
  jZ:=L.jZ
  lK:=L.lK
  pg:=L.pg}
def Km (B:Array Nat) (i:Nat) (o:Oper) (L:gk) (E:List (Nat×bc D)) (O:List (ba D)) (K:gk->List (Nat×bc D)->List (ba D)->Option ap):Option ap:=
 if lT o.op=aa then
  match sj X E o.op with
  |some b=>if XF B i O L b=aa then iR X o.op E O λv a=>K (sx E o (A0 i O b (tA X E O o.op) L)) (na E o.dst v) a else ae
  |none=>if Xo B i L=aa then iR X o.op E O λv a=>K (sx E o (XG i L)) (na E o.dst v) a else ae
 else
  match q9 E o.op with
  |some s=>
   if (zO B i O L s||Lm B i E L s o.op)=aa then
    iR X o.op E O λv a=>
     match abH o.op v with
     |some n=>K (sx E o (pD i s n L)) (na E o.dst v) a
     |none=>ae
   else ae
  |none=>ae
def BH (B:Array Nat) (i:Nat) (o:Oper) (L:gk) (E:List (Nat×bc D)) (O:List (ba D)) (K:gk->List (Nat×bc D)->List (ba D)->Option ap):Option ap:=match aed o.op with|some d=>vn E d λE=>Km X B i o L E O K|none=>Km X B i o L E O K
def vu (B:Array Nat) (a:List Oper):Nat->List Oper->gk->List (Nat×bc D)->List (ba D)->(List (Nat×bc D)->List (ba D)->Option ap)->Option ap
 |_,[],_,E,O,K=>K E O
 |i,o::f,L,E,O,K=>
  match o.guard with
  |none=>BH X B i o L E O λL E O=>vu B a (i+1) f L E O K
  |some (j,e)=>
   match (a[j]?).bind (·.dst) with
   |none=>ae
   |some d=>
    vn E d λE=>
     match eI E d with
     | .c (.bool b)=>if b=e then BH X B i o L E O λL E O=>vu B a (i+1) f L E O K else vu B a (i+1) f L (na E o.dst .undef) O K
     | .undef=>vu B a (i+1) f L (na E o.dst .undef) O K
     |_=>ae
structure mP (D:Nat->Type) where
 path:List Nat
 fits:List (Nat×bc D)->List (ba D)->Bool
 run:List (Nat×bc D)->List (ba D)->{ap:Type}->(fG->List (Nat×bc D)->List (ba D)->Option ap)->Option ap
def Jr:List Nat->List Nat->Bool|[],[]=>aa|a::p,b::q=>fi a b&&Jr p q|_,_=>ak
def sf (a:List (mP D)) (p:List Nat) (E:List (Nat×bc D)) (O:List (ba D)):Option (mP D):=match a with|[]=>ae|u::a=>if (Jr u.path p&&u.fits E O)=aa then J u else sf a p E O
def as2:Option (ba D)->Bool|some (.nest _ _ _ _ (J _) _)=>aa|_=>ak
def avr (O:List (ba D)) (n:Nat):Bool:=
 match O[n]? with
 |some (.nest _ _ _ _ (J p) _)=>(match O[p.2]? with|some o=> !o.live|none=>ak)
 |_=>ak
def LK:Nat->List (ba D)->Option (List (ba D))
 |0,O=>J O
 |n+1,O=>match LK n O with|some a=>if as2 a[n]? =aa then (if avr a n=aa then J a else xj a n) else J a|none=>ae
def vq (K:List (Nat×bc D)->List (ba D)->Option ap) (E:List (Nat×bc D)) (O:List (ba D)):Option ap:=match LK O.length O with|some a=>K E a|none=>ae
def j8 (i:List (mP D)) (f:Array Oper->Bool):Bool->List Nat->Code->List (Nat×bc D)->List (ba D)->(fG->List (Nat×bc D)->List (ba D)->Option ap)->Option ap|g,p, .seq a b,E,O,K=>(match (if g=aa then ae else sf i p.reverse E O) with|some u=>u.run E O K|none=>j8 i f ak (0::p) a E O λe E O=>if e= .normal then j8 i f ak (1::p) b E O K else K e E O)|g,p, .cond c a b,E,O,K=>(match (if g=aa then ae else sf i p.reverse E O) with|some u=>u.run E O K|none=>match dp E c with| .c (.bool t)=>if t=aa then j8 i f ak (0::p) a E O K else j8 i f ak (1::p) b E O K|_=>ae)|g,p, .block j c,E,O,K=>(match (if g=aa then ae else sf i p.reverse E O) with|some u=>u.run E O K|none=>j8 i f ak (0::p) c E O λe E O=>K (if e= .exit j then .normal else e) E O)|g,p, .scope c,E,O,K=>(match (if g=aa then ae else sf i p.reverse E O) with|some u=>u.run E O K|none=>j8 i f ak (0::p) c E O K)|g,p, .region _ h d,E,O,K=>(match (if g=aa then ae else sf i p.reverse E O) with|some u=>u.run E O K|none=>if d=aa then (if f h=aa then tM X h.toList h.toList E O (vq (K .normal)) else vu X (kp h) h.toList 0 h.toList ⟨[],[],[],[],[]⟩ E O (vq (K .normal))) else tM X h.toList h.toList E O (vq (K .normal)))|g,p, .loop c,E,O,K=>(match (if g=aa then ae else sf i p.reverse E O) with|some u=>u.run E O K|none=>ae)|_,_, .skip,E,O,K=>K .normal E O|_,_, .label _,E,O,K=>K .normal E O|_,_, .exit j,E,O,K=>K (.exit j) E O|_,_, .ret,E,O,K=>K .ret E O|_,_,_,_,_,_=>ae
end
end
end Go.aF
end
section
namespace Go.aF
def gz {aK:Type} {p:Prop} [Decidable p] {a:Option aK} {x:aK} (h:(if p then a else ae)=J x):p/\a=J x:=by
 grind
section
variable {P:bI} {D:Nat->Type} {X:e3 P D} {ap:Type} {z z':Nat->bW} {e m m':Mem} {k:Option Nat} {vs:List af} {fr:Nat->af} {E:List (Nat×bc D)} {O:List (ba D)} {o:Oper} {r:ap}
def dH (X:e3 P D) (O:List (ba D)) (z:Nat->bW) (e:Mem) (k:Option Nat) (g:List af) (K:bc D->List (ba D)->Option ap) (r:ap) (v:af) (f:Mem):Prop:=∃c a d b,Inv O b/\dT e.next z c/\(∀(i:Nat) (u:af),g[i]? =J u->a[i]? =J u)/\b9 X.G b c e f k a/\rel X.G c a d v/\K d b=J r
theorem dH.here {K:bc D->List (ba D)->Option ap} {dR:bc D} {v:af} (b:b9 X.G O z e m k vs) (a:rel X.G z vs dR v) (c:K dR O=J r):dH X O z e k vs K r v m:=⟨z,vs,dR,O,Inv.refl O,dT.refl z,λ_ _ h=>h,b,a,c⟩
theorem dH.from {K:bc D->List (ba D)->Option ap} {v:af} {c:Nat->bW} {b:List (ba D)} (g:Inv O b) (l:dT e.next z c) (h:dH X b c e k vs K r v m'):dH X O z e k vs K r v m':=by
 obtain ⟨q,a,o,n,i,p,f,d,j,m⟩:=h;exact ⟨q,a,o,n,g.trans i,l.trans p,f,d,j,m⟩
def WN (a:∀d,rel X.G z vs (eI E d) (fr d)) (x:bS):rel X.G z vs (dp E x) (bk fr x):=by
 cases x with
 |tmp t=>exact a t
 |func f=>exact ⟨[],rfl,trivial⟩
 |global g=>trivial
 |const v=>show rel X.G z vs (VW v) v;unfold VW;split<;>first|trivial|rfl
def adL {i:Nat} {c:cv D} {u:List (ba D)} {v:af} (f:b9 X.G O z e m k vs) (h:v8 O i=J (c,u)) (o:vs[i]? =J v):∃g,Inv O u/\dT e.next z g/\b9 X.G u g e m k vs/\ed X.G g vs c v:=by
 unfold v8 at h;split at h
 ·rename_i t E bZ w j;cases h;have d:=f.obj i _ v j o;cases bZ with
  |true=>
   have:O.set i (.bh t E aa w)=O:=by
    apply rv
    grind
   rw[this];exact ⟨z,Inv.refl O,dT.refl z,f,d⟩
  |false=>have d:dU (X.G.T t) z e m k E v:=d;obtain ⟨g,n,q,l,H⟩:=d.freeze f.aS;have s:dQ v=da v:=hi (by obtain ⟨a,c,rfl⟩:=d.bT.len;grind);exact ⟨g,Inv.set O i (.inl rfl),n,f.jT j o rfl rfl n.le q (by grind) l,l⟩
 ·rename_i t y x A bZ w j;cases h;have d:=f.obj i _ v j o;cases bZ with
  |true=>
   have:O.set i (.map t y x A aa w)=O:=by
    apply rv
    grind
   rw[this];exact ⟨z,Inv.refl O,dT.refl z,f,d⟩
  |false=>
   have d:jD (X.G.M t y x) z e m k A v:=d;obtain ⟨g,n,q,l,H⟩:=d.freeze f.aS;have s:dQ v=tH v:=by obtain ⟨r,rfl,_⟩:=d.bT;rfl
   exact ⟨g,Inv.set O i (.inl rfl),n,f.jT j o rfl rfl n.le q (by grind) l,l⟩
 ·rename_i Q t P R w j;cases h;obtain ⟨L,S,d⟩:=f.obj i _ v j o;obtain ⟨n,q,l⟩:=L P rfl;obtain ⟨g,B,I,C,K⟩:=aqd d n q l f.aS;have N:∀r,v≠ .map r:=by obtain ⟨a,c,rfl⟩:=d.bT.bT.len;grind
  exact ⟨g,Inv.set O i (.inl rfl),B,f.Hr (p:=ae) j o rfl N B.le ⟨e4 _,f.aS.dead,λ_ _ _=>rfl⟩ I (λ_ _ _ _ _ _ _=>e6.qg) (λb s=>by grind) (λb s _ F=>K b s F) C,C⟩
 grind
def zw {c d:cv D} {a:List (ba D)} {v:af} (g:b9 X.G O z e m k vs) (h:sY O c=J (d,a)) (f:ed X.G z vs c v):∃b,Inv O a/\dT e.next z b/\b9 X.G a b e m k vs/\ed X.G b vs d v:=by
 cases c with
 |own i=>exact adL g h f.1
 |_=>cases h;grind [Inv.refl,dT.refl]
theorem K1:∀{f a:List (cv D)} {O b:List (ba D)} {g:List af} {z:Nat->bW},b9 X.G O z e m k vs->uJ O f=J (a,b)->bP (ed X.G z vs) f g->∃i,Inv O b/\dT e.next z i/\b9 X.G b i e m k vs/\bP (ed X.G i vs) a g
 |[],a,O,b,[],z,j,h,_=>by cases h;grind [Inv.refl,dT.refl]
 |c::f,a,O,b,d::g,z,j,h,⟨w,o⟩=>by
  unfold uJ at h;split at h
  ·rename_i B C q;split at h
   ·rename_i p F x;cases h;obtain ⟨E,t,n,u,v⟩:=zw j q w;obtain ⟨A,y,l,r,s⟩:=K1 u x (pb.mono o n.le λ_ _ h=>h);exact ⟨A,t.trans y,n.trans l,r,ed.mono v l.le λ_ _ h=>h,s⟩
   grind
  grind
 |[],_,_,_,_::_,_,_,_,h=>h.elim
 |_::_,_,_,_,[],_,_,_,h=>h.elim
def KA {s:bc D} {g:List (cv D)} {v:af} (h:xg s=J g) (a:rel X.G z vs s v):storable v=aa/\bP (ed X.G z vs) g v.cells.toList:=by
 cases s with
 |c c=>cases h;have:=ed.afp a;rw[this.2];exact ⟨this.1,a,trivial⟩
 |agg t k=>cases h;obtain ⟨o,rfl,e⟩:=a;exact ⟨rfl,e⟩
 |box i n=>
  simp only[xg] at h;split at h
  ·rename_i j;subst j;cases h;obtain ⟨b,m,rfl⟩:=a;exact ⟨rfl,⟨m,rfl,rfl⟩,trivial⟩
  grind
 |fn f d=>
  cases d with
  |nil=>
   cases h;obtain ⟨l,rfl,e⟩:=a;cases l with
   |nil=>exact ⟨rfl,⟨[],rfl,trivial⟩,trivial⟩
   |cons _ _=>exact e.elim
  |cons _ _=>cases h
 |_=>cases h
def adM {s:bc D} {c:List (cv D)} {a:List (ba D)} {v:af} (g:b9 X.G O z e m k vs) (h:Jx O s=J (c,a)) (d:rel X.G z vs s v):∃b,Inv O a/\dT e.next z b/\b9 X.G a b e m k vs/\storable v=aa/\bP (ed X.G b vs) c v.cells.toList:=by
 unfold Jx at h;split at h
 ·rename_i l f;obtain ⟨j,i⟩:=KA f d
  grind [K1]
 grind
variable {x y:bS} {t u:bV}
def asp {l:BinOp} {kk:aG} {a b:Int} {K:cv D->Option ap} (e:o.op= .binOp l t x y u) (f:bk fr x= .int kk a) (d:bk fr y= .int kk b) (h:Jd l y kk a b K=J r):∃c v,K c=J r/\dD P (bk fr) o v/\ed X.G z vs c v:=by
 have i:Lw y=aa->b≠0:=λg p=>by
  unfold Lw at g;split at g
  ·rename_i m n;have:mu m n= .int kk b:=d
   grind
  grind
 cases l with
 |add=>exact ⟨_,_,h,apO e f d,rfl⟩
 |sub=>exact ⟨_,_,h,apZ e f d,rfl⟩
 |mul=>exact ⟨_,_,h,apU e f d,rfl⟩
 |and=>exact ⟨_,_,h,apP e f d,rfl⟩
 |or=>exact ⟨_,_,h,apY e f d,rfl⟩
 |xor=>exact ⟨_,_,h,ap0 e f d,rfl⟩
 |andNot=>exact ⟨_,_,h,asE e f d,rfl⟩
 |eql=>exact ⟨_,_,h,abO e f d,rfl⟩
 |neq=>exact ⟨_,_,h,apW e f d,rfl⟩
 |lss=>exact ⟨_,_,h,apT e f d,rfl⟩
 |leq=>exact ⟨_,_,h,apS e f d,rfl⟩
 |gtr=>exact ⟨_,_,h,apR e f d,rfl⟩
 |geq=>exact ⟨_,_,h,apQ e f d,rfl⟩
 |quo=>
  simp only[Jd] at h;split at h
  ·rename_i g;exact ⟨_,_,h,abP e f d (i g),rfl⟩
  ·obtain ⟨c,j,h⟩:=bind_some h;obtain ⟨k,rfl⟩:=aq0 j;exact ⟨_,_,h,abP e f d k,rfl⟩
 |rem=>
  simp only[Jd] at h;split at h
  ·rename_i g;exact ⟨_,_,h,abQ e f d (i g),rfl⟩
  ·obtain ⟨c,j,h⟩:=bind_some h;obtain ⟨k,rfl⟩:=acD j;exact ⟨_,_,h,abQ e f d k,rfl⟩
 |shl=>cases h
 |shr=>cases h
def asq {e:BinOp} {s q:List UInt8} {K:cv D->Option ap} (a:o.op= .binOp e t x y u) (d:bk fr x=str s) (b:bk fr y=str q) (h:ZO e s q K=J r):∃c v,K c=J r/\dD P (bk fr) o v/\ed X.G z vs c v:=by
 cases e with
 |add=>obtain ⟨c,f,h⟩:=bind_some h;obtain ⟨g,rfl⟩:=tv f;exact ⟨_,_,h,avs a d b (by grind [uf]),rfl⟩
 |eql=>exact ⟨_,_,h,avv a d b,rfl⟩
 |neq=>exact ⟨_,_,h,auT a d b,rfl⟩
 |lss=>exact ⟨_,_,h,auO a d b,rfl⟩
 |leq=>exact ⟨_,_,h,auN a d b,rfl⟩
 |gtr=>exact ⟨_,_,h,auJ a d b,rfl⟩
 |geq=>exact ⟨_,_,h,auI a d b,rfl⟩
 |_=>cases h
def aso {d:BinOp} {a b:Bool} {K:cv D->Option ap} (f:o.op= .binOp d t x y u) (e:P.underlying t=J .bool) (i:bk fr x= .bool a) (g:bk fr y= .bool b) (h:ZN d a b K=J r):∃c v,K c=J r/\dD P (bk fr) o v/\ed X.G z vs c v:=by
 cases d with
 |eql=>exact ⟨_,_,h,avu f e i g,rfl⟩
 |neq=>exact ⟨_,_,h,auS f e i g,rfl⟩
 |_=>cases h
def WM {s:bc D} {v:af} {p:(t:Nat)×List (D t)} (d:b9 X.G O z e m k vs) (h:qn O s=J p) (a:rel X.G z vs s v):fA (X.G.T p.1) z p.2 v\/∃(w:af),dU (X.G.T p.1) z e m k p.2 v:=by
 unfold qn at h;split at h
 ·cases h;exact .inl a
 ·rename_i i;split at h
  ·rename_i t f bZ w c;cases h;have b:=d.obj i _ v c a.1;cases bZ with
   |true=>exact .inl b
   |false=>exact .inr ⟨v,b⟩
  grind
 grind
def aqK {s:bc D} {v:af} {p:(t:Nat)×List (D t)} (d:b9 X.G O z e m k vs) (h:qn O s=J p) (b:rel X.G z vs s v):∃a c,v= .slice a p.2.length c:=by
 rcases WM d h b with h|⟨_,h⟩
 ·exact h.len
 ·exact h.bT.len
def acz {s:bc D} {v:af} {p:(t:Nat)×List (D t)} (d:b9 X.G O z e m k vs) (h:qn O s=J p) (b:rel X.G z vs s v):(v= .slice ae 0 0/\p.2=[])\/∃a l c,v= .slice (J a) l c:=by
 rcases WM d h b with h|⟨_,h⟩
 ·exact h.VU
 ·exact h.bT.VU
theorem aqL {s:bc D} {v:af} {p:(t:Nat)×List (D t)} (a:b9 X.G O z e m k vs) (h:qn O s=J p) (b:rel X.G z vs s v):Src (X.G.T p.1) z m p.2 v:=by
 rcases WM a h b with h|⟨_,h⟩
 ·exact h.src a.aS.bZ
 ·exact h.bT.src
def pO.avG {g:Type} {T:cM g} {m:Nat->bW} {e:List g} {a n:Nat} {w v:af} (r:pO T.bM a n w v) (h:fA T m e w):fA T m ((e.take n).drop a) v:=by
 rcases r with ⟨rfl,rfl,rfl,rfl⟩|⟨b,G,l,c,f,t,rfl,rfl,J,p,d,s⟩
 ·exact .inl ⟨rfl,by rfl⟩
 ·rcases h with ⟨h,_⟩|⟨F,B,E,y,z,A,I⟩
  ·grind
  ·cases y;have o:((e.take n).drop a).length=n - a:=by grind
   refine .inr ⟨b,f,t,by grind,z, ?_,λi x C=> ?_⟩
   ·rw[o];rcases A with ⟨u,L,j,H⟩|⟨u,j⟩
    ·rcases s with ⟨_,k⟩|⟨k,_⟩
     ·refine .inl ⟨k,L,j, ?_⟩;have D:n*T.bM<=e.length*T.bM:=oH _ p;rcases d with d|⟨d,q⟩
      ·rw[d,sK,<-ko,show a+(n - a)=n by omega];omega
      grind
     grind
    grind
   grind
def pO.VY {f:Type} {T:cM f} {k:Nat->bW} {j:Mem} {d:List f} {a n:Nat} {w v:af} (r:pO T.bM a n w v) (h:fO T k j d w):fO T k j ((d.take n).drop a) v:=by
 rcases r with ⟨rfl,rfl,_,rfl⟩|⟨b,O,l,c,e,u,rfl,rfl,S,p,H,t⟩
 ·exact .inl ⟨rfl,by simp⟩
 ·rcases h with ⟨h,_⟩|⟨M,P,L,J,C,D,E,F,R,g,G⟩
  ·grind
  ·cases C;have m:((d.take n).drop a).length=n - a:=by grind
   have I:n*T.bM<=d.length*T.bM:=oH _ p;have N:a*T.bM+(n - a)*T.bM=n*T.bM:=by rw[<-ko,show a+(n - a)=n by omega]
   have o:n<=a->(n - a)*T.bM=0:=λh=>by grind
   refine .inr ⟨b,e,L,u,by grind,D,E,F, ?_, ?_,λi x s=> ?_⟩
   ·grind
   ·rw[m];rcases t with ⟨_,z⟩|⟨z,B⟩
    ·grind
    ·rcases g with g|⟨A,y,Q⟩
     ·omega
     ·subst B;have q:a*T.bM+(c - a)*T.bM=c*T.bM:=by rw[<-ko,show a+(c - a)=c by omega]
      refine .inr ⟨by omega,by omega, ?_⟩
      grind
   ·obtain ⟨K,A,y⟩:=G _ x (WU s)
    grind
def pO.bT {a:Type} {T:cM a} {d:Nat->bW} {b:Mem} {c:List a} {n:Nat} {w v:af} (e:pO T.bM 0 n w v) (h:fO T d b c w):fO T d b (c.take n) v:=by simpa using e.VY h
def pO.src {j:Type} {T:cM j} {g:Nat->bW} {d:Mem} {f:List j} {a n:Nat} {w v:af} (s:pO T.bM a n w v) (h:fO T g d f w):Src T g d ((f.take n).drop a) v:=by
 rcases s with ⟨rfl,rfl,rfl,rfl⟩|⟨b,p,l,c,e,J,rfl,rfl,R,G,F,H⟩
 ·simpa using (fO.nil (T:=T) (z:=g) (m:=d)).src
 ·rcases h with ⟨h,_⟩|⟨K,M,L,I,B,C,N,O,P,Q,D⟩
  ·grind
  ·cases B;have r:((f.take n).drop a).length=n - a:=by grind
   rw[<-r];refine Xv λi y o=> ?_;obtain ⟨A,x,t⟩:=D _ y (WU o);refine ⟨A,x,λk u E=> ?_⟩;have:=(fq.1 o).1;have q:e=p+a*T.bM:=by
    grind
   rw[q,sK p,<-ko];simp only[Mem.load,C];exact t k u E
def pO.blk {d e n:Nat} {w v:af} (a:pO d e n w v):dQ v=dQ w:=by
 rcases a with ⟨rfl,rfl,_,_⟩|⟨b,h,l,c,f,g,rfl,rfl,_⟩<;>rfl
def acy {s:bc D} {v:af} {p:(t:Nat)×List (D t)} (b:b9 X.G O z e m k vs) (h:Lx O s=J p) (a:rel X.G z vs s v):Src (X.G.T p.1) z m p.2 v:=by
 unfold Lx at h;split at h
 ·obtain ⟨w,f,c⟩:=a;split at h
  ·rename_i l j n g;split at h
   ·rename_i i;subst i;cases h;have d:dU _ z e m k j w:=b.obj _ _ _ g f.1;exact c.src d.bT
   grind
  grind
 grind [aqL]
def ac0 (h:XW y=aa):bk fr y= .slice ae 0 0:=by
 unfold XW at h;split at h
 ·rfl
 grind
def aef {f:BinOp} {left:Bool} {kk j:aG} {a b:Int} {K:cv D->Option ap} (k:o.op= .binOp f t x y u) (l:bk fr x= .int kk a) (g:bk fr y= .int j b) (q:(f= .shl/\left=aa)\/(f= .shr/\left=ak)) (h:P1 left y kk a b K=J r):∃c v,K c=J r/\dD P (bk fr) o v/\ed X.G z vs c v:=by
 have e:∀{n:Nat},0<=b->min b.toNat kk.bits=n->dD P (bk fr) o (.int kk (G4 left kk a n)):=by
  intro n i d;have:=atf (P:=P) (op:=f) k l g i (by grind)
  grind [G4]
 unfold P1 at h;split at h
 ·rename_i n d;obtain ⟨m,h⟩:iJ n kk.bits=aa/\K (.int kk (G4 left kk a n))=J r:=by
   grind
  have p:b=n:=by
   unfold aeD at d;split at d
   ·cases d;have g:mu _ (Int.ofNat n)= .int j b:=g
    grind
   grind
  exact ⟨_,_,h,e (by omega) (by simp_all),rfl⟩
 ·obtain ⟨n,d,h⟩:=bind_some h;unfold j2 at d;split at d
  ·rename_i i;cases d;exact ⟨_,_,h,e i rfl,rfl⟩
  grind
def ats {m:BinOp} {n p:Nat} {g i:List (cv D)} {K:cv D->Option ap} (j:o.op= .binOp m t x y u) (H:rel X.G z vs (.agg n g) (bk fr x)) (C:rel X.G z vs (.agg p i) (bk fr y)) (h:UH X m t n g p i K=J r):∃c v,K c=J r/\dD P (bk fr) o v/\ed X.G z vs c v:=by
 unfold UH at h;split at h
 ·rename_i q d B E;split at h
  ·rename_i a b L A;obtain ⟨k,f,s⟩:=H;obtain ⟨l,e,w⟩:=C;have F:=d.aD z a k (q.r6 z vs g a k L s);have I:=d.aD z b l (q.r6 z vs i b l A w);rw[F] at f;rw[I] at e;split at h
   ·exact ⟨_,_,h,abN ak (by simpa using j) d.aJ d.bb d.bs (d.bf a b) f e (d.he a b),rfl⟩
   ·exact ⟨_,_,h,abN aa (by simpa using j) d.aJ d.bb d.bs (d.bf a b) f e (d.he a b),rfl⟩
   grind
  grind
 grind
def asr {E:BinOp} {a b:bc D} {K:cv D->Option ap} (d:o.op= .binOp E t x y u) (C:b9 X.G O z e m k vs) (g:rel X.G z vs a (bk fr x)) (l:rel X.G z vs b (bk fr y)) (h:T6 (P:=P) E t y O a b K=J r):∃c v,K c=J r/\dD P (bk fr) o v/\ed X.G z vs c v:=by
 unfold T6 at h;split at h
 ·split at h
  ·exact aef d g l (.inl ⟨rfl,rfl⟩) h
  ·exact aef d g l (.inr ⟨rfl,rfl⟩) h
  ·split at h
   ·rename_i H;subst H;exact asp d g l h
   grind
 ·exact asq d g l h
 ·split at h
  ·rename_i f;exact aso d f g l h
  grind
 ·split at h
  ·rename_i w f q;have j:=ac0 (fr:=fr) q;split at h
   ·exact ⟨_,_,h,KW ak d f g j,rfl⟩
   ·split at h
    ·rename_i F I p;rcases acz C p g with ⟨i,B⟩|⟨n,A,s,i⟩
     ·exact ⟨_,_,KF h aa λ_=>B,KW ak d f i j,rfl⟩
     ·exact ⟨_,_,KF h ak (by simp), .A2 ak x y t u w n A s d f i j,rfl⟩
    grind
  ·rename_i w f q;have j:=ac0 (fr:=fr) q;split at h
   ·exact ⟨_,_,h,KW aa d f g j,rfl⟩
   ·split at h
    ·rename_i F I p;rcases acz C p g with ⟨i,B⟩|⟨n,A,s,i⟩
     ·exact ⟨_,_,KF h aa λ_=>B,KW aa d f i j,rfl⟩
     ·exact ⟨_,_,KF h ak (by simp), .A2 aa x y t u w n A s d f i j,rfl⟩
    grind
  grind
end
end Go.aF
end
section
namespace Go.aF
section
variable {P:bI} {D:Nat->Type} {X:e3 P D} {ap:Type} {z z':Nat->bW} {e m m':Mem} {k:Option Nat} {vs:List af} {fr:Nat->af} {E:List (Nat×bc D)} {O:List (ba D)} {o:Oper} {r:ap}
variable {x y:bS} {t u:bV} {K:bc D->List (ba D)->Option ap}
def j1 {a:bc D} {v:af} (c:b9 X.G O z e m k vs) (d:K a O=J r) (h:dD P (bk fr) o v) (b:rel X.G z vs a v):cH P (bk fr) o m λ_ v f=>dH X O z e k vs K r v f:=
 cH.pure h (dH.here c b d)
def ae5 {c:Nat} {ti:dP P X.G c} {f:List (D c)} {n:Int} {kk:aG} {a:D c} (i:o.op= .indexAddr t x y) (g:P.underlying t=J (.slice c)) (j:b9 X.G O z e m k vs) (q:fA (X.G.T c) z f (bk fr x)) (l:bk fr y= .int kk n) (s:al f n=J a)
  (h:K (.hd c (ti.kM a) 0) O=J r):cH P (bk fr) o m λ_ v A=>dH X O z e k vs K r v A:=by
 refine avh i g ti.az ti.cN rfl l q s λb d u w p=> ?_;exact dH.here (dR:= .hd c (ti.kM a) 0) j ⟨b,d,u,rfl,p,ti.rc _ _ _ _ w⟩ h
def arM {a b:bc D} (C:o.op= .indexAddr t x y) (p:b9 X.G O z e m k vs) (A:rel X.G z vs a (bk fr x)) (aw:rel X.G z vs b (bk fr y)) (h:XQ X t a b O K=J r):cH P (bk fr) o m λ_ v m'=>dH X O z e k vs K r v m':=by
 unfold XQ at h;split at h
 ·rename_i kk n;have E:bk fr y= .int kk n:=aw;split at h
  ·rename_i i;split at h
   ·rename_i I G7 tp N S H;split at h
    ·rename_i d l j V f;split at h
     ·rename_i s;obtain ⟨rfl,rfl⟩:=s;obtain ⟨a,g,h⟩:=bind_some h;obtain ⟨b,ju,u,an⟩:=A;obtain ⟨⟨dJ,he⟩,q⟩:=p.obj i _ _ H u;cases he;refine avg C f d.az (T:=(X.G.T j).as G7) d.cN an E q g λY Z uU Q=> ?_;exact dH.here (dR:= .el i j n 0) p ⟨b,0,_,_,u,by simp;rfl⟩ h
     grind
    grind
   grind
  ·rename_i R N;split at h
   ·rename_i d j V f;split at h
    ·rename_i s;subst s;obtain ⟨a,g,h⟩:=bind_some h;exact ae5 (ti:=d) C f p A E g h
    grind
   grind
  ·rename_i i;split at h
   ·rename_i I N bZ S H;split at h
    ·rename_i d j V f;split at h
     ·rename_i s;subst s;obtain ⟨a,g,h⟩:=bind_some h;have q:=p.obj i _ _ H A.1;cases bZ with
      |true=>exact ae5 (ti:=d) C f p q E g h
      |false=>have q:dU (X.G.T j) z e m k N (bk fr x):=q;refine ae6 C f d.az d.cN rfl E q g λb F l c Y u Z uU Q=> ?_;exact dH.here (dR:= .el i j n 0) p ⟨b,F,l,c,by rw[<-u];exact A.1,rfl⟩ h
     grind
    grind
   ·rename_i R I up eh hole S H;split at h
    ·rename_i U j oM f;split at h
     ·rename_i s;subst s;obtain ⟨a,g,h⟩:=bind_some h;obtain ⟨hu,W,q⟩:=p.obj i _ _ H A.1;obtain ⟨g0,g1,g2⟩:=o3 g;have cF:n.toNat<W.length:=by rw[q.len];grind
      have wm:al W n=J W[n.toNat]:=by
       grind [al]
      refine ae6 (T:=rD j) C f U.az (by rw[U.h1];rfl) rfl E q.bT wm λb F l c Y u Z uU Q=> ?_;exact dH.here (dR:= .el i j n 0) p ⟨b,F,l,c,by rw[<-u];exact A.1,by rw[U.cN];rfl⟩ h
     grind
    grind
   grind
  ·rename_i i R L az;split at h
   ·rename_i I N S H;split at h
    ·rename_i d j V f;split at h
     ·rename_i s;obtain ⟨rfl,rfl⟩:=s;obtain ⟨a,g,h⟩:=bind_some h;obtain ⟨w,hw,Q⟩:=A;obtain ⟨g0,g1,g2⟩:=o3 g;have M:n.toNat<((N.take az).drop L).length:=(fq.1 g2).1;rw[List.length_drop,List.length_take] at M;rcases Q with ⟨_,_,rfl,rfl⟩|⟨b,F,l,c,B,c3,rfl,u,h1,ai,aT,br⟩
      ·omega
      ·have rV:B=F+L*(X.G.T I).bM:=by grind
       refine cH.pure (v:= .pointer (J ⟨b,B+n.toNat*d.i.size,ae⟩)) (.indexAddr t x y I d.i b B _ c3 kk n C f d.az u E g0 (by omega)) (dH.here (dR:= .el i I ((L:Int)+n) 0) p ⟨b,F,l,c,hw.1, ?_⟩ h);have R:((L:Int)+n).toNat=L+n.toNat:=by omega
       rw[R,rV,d.cN,ko,Nat.add_zero,sK]
     grind
    grind
   grind
  grind
 grind
def arJ {n:Nat} {a:bc D} (p:o.op= .fieldAddr t x n) (q:b9 X.G O z e m k vs) (w:rel X.G z vs a (bk fr x)) (h:X1 (P:=P) t n a O K=J r):cH P (bk fr) o m λ_ v H=>dH X O z e k vs K r v H:=by
 unfold X1 at h;split at h
 ·rename_i I j;split at h
  ·rename_i f u;split at h
   ·rename_i i s;split at h
    ·grind
    ·rename_i L;have y:(i.size==0)=ak:=by grind
     split at h
     ·obtain ⟨b,g,d⟩:=w;exact j1 q h (Xk p j u s y d) ⟨b,g,rfl⟩
     ·obtain ⟨b,F,C,d,B,A⟩:=w;exact j1 q h (Xk p j u s y d) ⟨b,F,C,by grind,B,A⟩
     ·obtain ⟨b,E,l,c,g,d⟩:=w;exact j1 q h (Xk p j u s y d) ⟨b,E,l,c,g,by grind⟩
     grind
   grind
  grind
 grind
def ary {b e:Nat} {f:List (cv D)} {a:List af} {K:bc D->Option ap} (g:o.op= .load t x) (l:bk fr x= .pointer (J ⟨b,e,ae⟩)) {y:Nat} (C:∀(j:Nat) (w:af),a[j]? =J w->m.load b (y+j)=J w) {n:Nat} (L:e=y+n) (k:bP (ed X.G z vs) f a)
  (h:o7 (P:=P) t f n K=J r):∃q v,K q=J r/\rel X.G z vs q v/\fH P (bk fr) o m v:=by
 subst L;unfold o7 at h;split at h
 ·grind
 ·rename_i d p;split at h
  ·rename_i A;split at h
   ·grind
   ·rename_i i E;split at h
    ·rename_i s;have u:bP (ed X.G z vs) ((f.drop n).take i.size) ((a.drop n).take i.size):=bP.take _ (bP.drop _ k);have I:((a.drop n).take i.size).length=i.size:=by rw[<-u.length];grind
     refine ⟨_, .agg ((a.drop n).take i.size).toArray,h,⟨_,rfl,u⟩,atx g p A E I l λj w M=> ?_⟩
     grind
    grind
  ·rename_i A;split at h
   ·rename_i c H;obtain ⟨w,F,B⟩:=k.get n c H;exact ⟨_,w,h,B,XV g p (by grind) l (C n w F)⟩
   grind
def b9.kill (h:b9 X.G O z e m k vs) (i:Nat):b9 X.G (O.set i .dead) z e m k vs:=by
 refine ⟨h.aS,by rw[sJ];exact h.len,λj p w d g=> ?_,λa b p n u w t c q l o s g=> ?_⟩
 ·rw[ll] at d;split at d
  ·split at d
   ·cases d;trivial
   grind
  ·exact h.obj j p w d g
 ·have f:∀(a:Nat) (p:ba D),(O.set i .dead)[a]? =J p->p.live=aa->O[a]? =J p:=by
   intro a p c r;rw[ll] at c;split at c
   ·split at c
    ·cases c;cases r
    grind
   grind
  exact h.fD a b p n u w t (f a p c l) (f b n q o) l o s g
def BZ {C:List (ba D)} {i:Nat} (d:b9 X.G O z e m k vs) (h:xj O i=J C):∃A,Inv O C/\dT e.next z A/\b9 X.G C A e m k vs:=by
 unfold xj at h;split at h
 ·grind [Inv.refl,dT.refl]
 ·rename_i n t1 t s p w P;split at h
  ·rename_i l y ix B;split at h
   ·rename_i Z;subst Z;cases h;obtain ⟨v,H,hu,x,g⟩:=d.at P;obtain ⟨u9,u,F,S⟩:=g.out p rfl;have E:dU (X.G.T l) z e m k y u:=d.obj p.2 _ u B F;have N:i≠p.2:=λo=>by grind
    have kI:dQ v=da v:=hi (by obtain ⟨a,c,rfl⟩:=g.bT.bT.len;grind);have R:dQ u=da u:=hi (by obtain ⟨a,c,rfl⟩:=E.bT.len;grind);have rY:∀r,v≠ .map r:=by obtain ⟨a,c,rfl⟩:=g.bT.bT.len;grind
    have L:=d.fD p.2 i _ _ u v (λo=>N o.symm) B P rfl rfl F H;rw[kI,R] at L;have Y:p.1.toNat<x.length:=(fq.1 S).1;have tk:x=x.set p.1.toNat u:=by
     apply rv
     grind
    obtain ⟨A,M,g2,g3,g4⟩:=W6 g d.aS g.bT tk Y (λq f=>by grind) E L;have Q:=d.kill p.2;have U:(O.set p.2 .dead)[i]? =J (.nest n l t s (J p) w):=by grind
    have Bd:=Q.Hr (o':= .nest n l t (s.set p.1.toNat y) ae aa) (p:=da u) U H rfl rY M.le ⟨e4 _,d.aS.dead,λ_ _ _=>rfl⟩ g2 (λj q pH bn f I hw=> ?_) (λb K=>(E.bT.lt b K).2) (λb K bb _=> ?_) ⟨hu,x,g3⟩
    ·have W:(O.set i (.nest n l t (s.set p.1.toNat y) ae aa)).set p.2 .dead=(O.set p.2 .dead).set i (.nest n l t (s.set p.1.toNat y) ae aa):=List.set_comm _ _ N;exact ⟨A,(Inv.set O i (.inr rfl)).trans (Inv.set _ p.2 (.inl rfl)),M,by grind⟩
    ·rw[ll] at f;split at f
     ·split at f
      ·cases f;cases I
      grind
     ·rename_i V;have:=d.fD j p.2 q _ pH u (λo=>V o.symm) f B I rfl hw F
      grind
    grind
   grind
  grind
 grind
def aqJ {i n g:Nat} (eG:vO P X.G n g) {B:Option (List (D g)->D n)} {t:List (List (D g))} {y:Bool} {f:Int} {d:List (ba D)} {S:Nat->bW} (aM:o.op= .load n x) (aN:b9 X.G O z e m k vs) (kL:Inv O d) (qc:dT e.next z S) (s:b9 X.G d S e m k vs) (U:d[i]? =J (.nest n g B t ae y)) (bl:rel X.G z vs (.el i n f 0) (bk fr x))
  (h:(ab (al t f) λE=>K (.c (.own d.length)) (d.set i (.nest n g B t (J (f,d.length)) y)++[.bh g E ak ak]))=J r):cH P (bk fr) o m λ_ v m'=>dH X O z e k vs K r v m':=by
 obtain ⟨E,bs,h⟩:=bind_some h;obtain ⟨b,f0,l,c,H,an⟩:=bl;obtain ⟨hu,C,R⟩:=s.obj i _ _ U H;obtain ⟨g0,g1,g2⟩:=o3 bs;have cF:f.toNat<C.length:=by rw[R.len];grind
 have A:=mm cF;have wm:al C f=J C[f.toNat]:=by
  grind [al]
 obtain ⟨cs,e0,_,ay⟩:=R.bT.elem rfl wm;have Vf:m.load b (f0+f.toNat*(X.G.T n).bM+0)=J C[f.toNat]:=by rw[eG.cN];exact ay 0 _ (by rw[e0.1];rfl)
 generalize C[f.toNat]=u at*;obtain ⟨z2,fv,fQ,kb,V,r8,q0⟩:=arD (vs':=vs++[u]) (J7:=d.length) R s.aS A g2 j0 (by rw[<-s.len];simp);have rY:∀r,pr (J ⟨b,f0,ae⟩) l c≠ .map r:=λr Z=>by grind
 have nz:((f.toNat:Nat):Int)=f:=by omega
 rw[nz] at kb;have Bg:dQ u=da u:=hi (by obtain ⟨a,c,rfl⟩:=V.bT.len;grind);have az:=(fq.1 U).1;have N:b9 X.G (d++[.dead]) S e m k (vs++[u]):=s.V4 trivial λI=>by cases I
 have Q:=N.Hr (o:= .nest n g B t ae y) (o':= .nest n g B t (J (f,d.length)) y) (p:=ae) (by grind) (j0 _ _ H) rfl rY fv.le ⟨e4 _,aN.aS.dead,λ_ _ _=>rfl⟩ fQ (λ_ _ _ _ _ _ _=>e6.qg) (λb aw=>by grind) (λL _ _ I=>by
  grind) ⟨hu,C,kb⟩
 have hlen:((d++[(.dead:ba D)]).set i (.nest n g B t (J (f,d.length)) y)).length=d.length+1:=by simp
 have F:=Q.awv (i:=d.length) (o':= .bh g E ak ak) (v:=u) (by grind) (by rw[<-s.len];simp) (V:dU (X.G.T g) z2 e m k E u) (λj q w bn Y I A=> ?_)
 ·have JX:((d++[(.dead:ba D)]).set i (.nest n g B t (J (f,d.length)) y)).set d.length (.bh g E ak ak)=d.set i (.nest n g B t (J (f,d.length)) y)++[.bh g E ak ak]:=by
   simp_all
  rw[JX] at F;refine cH.read (XV aM eG.hu rfl an Vf) ⟨z2,vs++[u], .c (.own d.length),_,kL.trans ((Inv.set d i (.inr ?_)).trans (Inv.push _ _)),qc.trans fv,j0,F, ?_,h⟩
  ·simp[ba.nd]
  ·obtain ⟨a,c3,rfl⟩:=V.bT.len;exact ⟨by rw[<-s.len];simp,rfl,rfl⟩
 ·intro L e5 oS;rw[Bg] at oS;refine q0 L oS ?_;have M:j<d.length:=by
   grind
  by_cases W:j=i
  ·subst W;rw[kS (by grind)] at A;rw[H] at A;cases A;exact ((s.obj _ _ _ U H).lt rfl L e5).2.1
  ·rw[List.getElem?_set_ne (λZ=>W Z.symm),kS M] at Y;rw[kS (by rw[s.len];grind)] at A;exact ((s.obj j q w Y A).lt I L e5).2.1
theorem aqE {i c:Nat} {d:Int} {a:Nat} (f:o.op= .load t x) (b:b9 X.G O z e m k vs) (j:rel X.G z vs (.el i c d a) (bk fr x)) (h:Xb X t i c d a O K=J r):cH P (bk fr) o m λ_ v u=>dH X O z e k vs K r v u:=by
 unfold Xb at h;split at h
 ·rename_i y g;obtain ⟨B,s,w,q⟩:=BZ b g;split at h
  ·rename_i C F H D A n;split at h
   ·rename_i l E;split at h
    ·rename_i p;obtain ⟨rfl,rfl,rfl⟩:=p;exact aqJ l f b s w q n j h
    grind
   grind
  grind
 grind
theorem aqD {a:bc D} (w:o.op= .load t x) (d:b9 X.G O z e m k vs) (C:rel X.G z vs a (bk fr x)) (h:Xa X t a O K=J r):cH P (bk fr) o m λ_ v L=>dH X O z e k vs K r v L:=by
 unfold Xa at h;split at h
 ·rename_i i e2 Z N;split at h
  ·rename_i U t1 up eh p Y H;split at h
   ·rename_i g Q S ix oM B;split at h
    ·rename_i I;obtain ⟨rfl,rfl,rfl⟩:=I;split at h
     ·rename_i M;obtain ⟨b,F,l,c,s,y⟩:=C;obtain ⟨n,R,f⟩:=d.obj i _ _ H s;obtain ⟨g0,u,j,g2⟩:=f.out p rfl;subst M;obtain ⟨W,E,_,A⟩:=f.bT.elem rfl (show al R p.1=J u by grind [al]);have q:m.load b (F+p.1.toNat*(X.G.T t).bM+0)=J u:=by
       rw[g.cN];exact A 0 _ (by rw[E.1];rfl)
      have n:dU (X.G.T Q) z e m k S u:=d.obj p.2 _ u B j;refine cH.read (XV w g.hu rfl y q) (dH.here (dR:= .c (.own p.2)) d ?_ h);obtain ⟨a,V,rfl⟩:=n.bT.len;exact ⟨j,rfl,rfl⟩
     grind
    grind
   grind
  grind
 grind
def acU {b:Nat} {j:dP P X.G b}:∀{l:Nat} {c:List (cv D)} {e:List af} {d:List (D b)},zz X j l c=J d->bP (ed X.G z vs) c e->∀(i:Nat) (a:D b),d[i]? =J a->i<l/\(X.G.T b).rd z a ((e.drop (i*(X.G.T b).bM)).take (X.G.T b).bM)
 |0,c,e,d,h,_,i,a,f=>by cases h;grind
 |n+1,c,e,d,h,g,i,a,f=>by
  simp only[zz] at h;split at h
  ·rename_i o p m k;cases h;cases i with
   |zero=>simp at f;subst f;refine ⟨by omega, ?_⟩;rw[Nat.zero_mul,List.drop_zero];exact j.r6 z vs _ _ _ m (bP.take _ g)
   |succ i=>
    have:=acU k (bP.drop _ g) i a (by grind)
    grind [List.drop_drop]
  grind
theorem ark {a b:bc D} (R:o.op= .index t x y) (Y:b9 X.G O z e m k vs) (bl:rel X.G z vs a (bk fr x)) (M:rel X.G z vs b (bk fr y)) (h:XC X t a b O K=J r):cH P (bk fr) o m λ_ v m'=>dH X O z e k vs K r v m':=by
 unfold XC at h;split at h
 ·rename_i t1 cs kk n l A Q;obtain ⟨q,S,Z⟩:=bl;have M:bk fr y= .int kk n:=M;split at h
  ·rename_i f d iE U;have I:∀{g:List (cv D)} {p:List (ba D)} {C:List (D A)} {a:D A},uJ O cs=J (g,p)->zz X f l g=J C->al C n=J a->∃j,Inv O p/\dT e.next z j/\b9 X.G p j e m k vs/\0<=n/\n<l/\bP (ed X.G j vs) (f.kM a) ((q.drop (n.toNat*f.i.size)).take f.i.size):=by
    intro g p C a w u B;obtain ⟨H,N,g2⟩:=o3 B;obtain ⟨j,L,F,E,kb⟩:=K1 Y w Z;obtain ⟨kN,s⟩:=acU u kb _ a g2;rw[f.cN];exact ⟨j,L,F,E,H,by omega,f.rc _ _ _ _ s⟩
   split at h
   ·rename_i V;split at h
    ·rename_i g p w;split at h
     ·rename_i C u;obtain ⟨a,B,h⟩:=bind_some h;obtain ⟨j,L,F,E,H,N,s⟩:=I w u B;have bb:(q.toArray.extract (n.toNat*f.i.size) (n.toNat*f.i.size+f.i.size))=((q.drop (n.toNat*f.i.size)).take f.i.size).toArray:=by
       grind
      refine cH.pure (.J6 t x y A d f.i l kk n q.toArray R Q U V f.az S M H N) ⟨j,vs, .agg A (f.kM a),p,L,F,λ_ _ h=>h,E, ?_,h⟩;rw[bb];exact ⟨_,rfl,s⟩
     grind
    grind
   ·rename_i V;split at h
    ·rename_i g p w;split at h
     ·rename_i C u;obtain ⟨a,B,h⟩:=bind_some h;obtain ⟨j,L,F,E,H,N,s⟩:=I w u B;split at h
      ·rename_i c s9;rw[s9] at s;generalize jU:(q.drop (n.toNat*f.i.size)).take f.i.size=T at s
       match T,s with
       |[v],⟨W,_⟩=>
        have qa:q.toArray[n.toNat*f.i.size]? =J v:=by
         have:((q.drop (n.toNat*f.i.size)).take f.i.size)[0]? =J v:=by grind
         grind
        exact cH.pure (.J5 t x y A d f.i l kk n q.toArray v R Q U (by grind) f.az S M H N qa) ⟨j,vs, .c c,p,L,F,λ_ _ h=>h,E,W,h⟩
      grind
     grind
    grind
  grind
 grind
def aqC {n:Nat} {a:bc D} (p:o.op= .field t x n) (q:b9 X.G O z e m k vs) (H:rel X.G z vs a (bk fr x)) (h:W9 (P:=P) t n a O K=J r):cH P (bk fr) o m λ_ v L=>dH X O z e k vs K r v L:=by
 unfold W9 at h;split at h
 ·rename_i T B y l;obtain ⟨g,s,j⟩:=H;split at h
  ·rename_i f u;obtain ⟨b,h⟩:=gz h;have b:=pk b;have F:=j.length;unfold o7 at h;split at h
   ·grind
   ·rename_i d A;split at h
    ·rename_i N;split at h
     ·grind
     ·rename_i i Q;split at h
      ·rename_i C;have M:bP (ed X.G z vs) ((B.drop f.offset).take i.size) ((g.drop f.offset).take i.size):=bP.take _ (bP.drop _ j);have S:((g.drop f.offset).take i.size).length=i.size:=by grind
       refine cH.pure (.field t x n y f d g.toArray (.agg ((g.drop f.offset).take i.size).toArray) p l u A s ?_) (dH.here (dR:= .agg f.type ((B.drop f.offset).take i.size)) q ⟨_,rfl,M⟩ h)
       grind
      grind
    ·rename_i N;split at h
     ·rename_i c I;obtain ⟨w,R,E⟩:=j.get f.offset c I;refine cH.pure (.field t x n y f d g.toArray w p l u A s ?_) (dH.here (dR:= .c c) q E h)
      grind
     grind
  grind
 grind
def arL {g:Nat} {b:bc D} (f:o.op= .indexAddr t (.global g) y) (j:b9 X.G O z e m k vs) (a:rel X.G z vs b (bk fr y)) (h:XP (P:=P) t g b O K=J r):cH P (bk fr) o m λ_ v B=>dH X O z e k vs K r v B:=by
 unfold XP at h;split at h
 ·rename_i kk n l q d;have a:bk fr y= .int kk n:=a;split at h
  ·rename_i i p;split at h
   ·rename_i c;obtain ⟨s,u,h⟩:=bind_some h;obtain ⟨w,x,A⟩:=o3 u;exact cH.pure (.JC t _ y q i l g kk n f d p c.2 rfl a w (by rw[c.1];exact x) (by omega)) (dH.here (dR:= .wb g s) j ⟨n.toNat,A,rfl⟩ h)
   grind
  grind
 grind
def acF {a:bc D} (aM:o.op= .load t x) (C:b9 X.G O z e m k vs) (Q:rel X.G z vs a (bk fr x)) (h:Lo X t a O K=J r):cH P (bk fr) o m λ_ v m'=>dH X O z e k vs K r v m':=by
 have d:∀{b A:Nat} {E:List (cv D)} {H:List af} {rI n:Nat},bk fr x= .pointer (J ⟨b,A,ae⟩)->(∀(j:Nat) (w:af),H[j]? =J w->m.load b (rI+j)=J w)->A=rI+n->bP (ed X.G z vs) E H->o7 (P:=P) t E n (λv=>K v O)=J r->cH P (bk fr) o m λ_ v m'=>dH X O z e k vs K r v m':=by
  intro b A E H rI n f q rV B h;obtain ⟨dR,v,h1,ai,aT⟩:=ary aM f q rV B h
  grind [cH.read,dH.here]
 unfold Lo at h;split at h
 ·obtain ⟨b,iw,H,f,q,B⟩:=Q;exact d f (C.aS.tm q) rfl B h
 ·rename_i g s;obtain ⟨n,bB,f⟩:=Q;split at h
  ·rename_i p M aJ;split at h
   ·rename_i S;exact cH.read (.wc t x g n s aM f bB aJ (S▸p.2)) (dH.here (dR:= .c (.str s)) C rfl h)
   grind
  grind
 ·rename_i i A;obtain ⟨b,L,f⟩:=Q;split at h
  ·rename_i u E bZ W I;have y:=C.obj i _ _ I L;cases bZ with
   |true=>obtain ⟨V,H,F,q,B⟩:=y;cases F;exact d f (C.aS.tm q) (lH _).symm B h
   |false=>obtain ⟨V,H,F,U,_,B⟩:=y;cases F;exact d f U.tm (lH _).symm B h
  ·rename_i u E W I;obtain ⟨V,H,F,U,B⟩:=C.obj i _ _ I L;cases F;exact d f U.tm (lH _).symm B h
  grind
 ·rename_i i bX dx A;split at h
  ·grind [aqE]
  obtain ⟨b,f0,l,c,L,f⟩:=Q;split at h
  ·rename_i Y xs bZ W R I iE;split at h
   ·rename_i Z;subst Z;obtain ⟨a,M,h⟩:=bind_some h;have y:=C.obj i _ _ I L;cases bZ with
    |true=>
     have y:fA (X.G.T Y) z xs _:=y;obtain ⟨g0,g1,g2⟩:=o3 M;rcases y with ⟨F,_⟩|⟨V,o',c3,F,_,_,br⟩
     ·grind
     ·cases F;obtain ⟨E,N,q⟩:=br _ a g2;exact d f (C.aS.tm q) rfl (R.rc _ _ _ _ N) h
    |false=>have y:dU (X.G.T Y) z e m k xs _:=y;obtain ⟨E,N,_,q⟩:=y.elem rfl M;exact d f q rfl (R.rc _ _ _ _ N) h
   grind
  ·rename_i Y u n xs W R I iE;split at h
   ·rename_i Z;subst Z;obtain ⟨a,M,h⟩:=bind_some h;obtain ⟨_,y⟩:=C.obj i _ _ I L;obtain ⟨E,N,_,q⟩:=y.elem rfl M;exact d f q rfl (R.rc _ _ _ _ N) h
   grind
  grind
 grind
end
end Go.aF
end
section
namespace Go.aF
section
variable {P:bI} {D:Nat->Type} {X:e3 P D} {ap:Type} {z z':Nat->bW} {e m m':Mem} {k:Option Nat} {vs:List af} {fr:Nat->af} {E:List (Nat×bc D)} {O:List (ba D)} {o:Oper} {r:ap}
variable {x y:bS} {t u:bV} {K:bc D->List (ba D)->Option ap}
theorem bP.set {c e:Type} {R:c->e->Prop}:∀{l:List c} {k:List e} (i:Nat) {a:c} {b:e},bP R l k->R a b->bP R (l.set i a) (k.set i b)
 |[],[],i,a,b,_,_=>by grind
 |x::l,y::k,0,a,b,⟨_,d⟩,f=>⟨f,d⟩
 |x::l,y::k,i+1,a,b,⟨g,d⟩,f=>⟨g,bP.set i d f⟩
 |[],_::_,_,_,_,h,_=>h.elim
 |_::_,[],_,_,_,h,_=>h.elim
def zn:∀{new:List (cv D)} {f:List af} {b:List (cv D)} {e:List af} (a:Nat),bP (ed X.G z vs) b e->bP (ed X.G z vs) new f->bP (ed X.G z vs) (xy b a new) (eY e a f)
 |[],[],b,e,a,h,_=>h
 |c::new,d::f,b,e,a,h,⟨i,g⟩=>zn (a+1) (h.set a i) g
 |[],_::_,_,_,_,_,h=>h.elim
 |_::_,[],_,_,_,_,h=>h.elim
def Cg {a b:Nat} (h:a<=b):iJ a b=aa:=by simp_all
def pA {ob:ba D} {a:bc D} {v w:af} (d:b9 X.G O z e m k vs) (f:dL z e m' k) (s:gl m m' ae) (i:∀p,(∀b,p=J b->b<m.next)->e6 p (dQ v)) (j:K a (O++[ob])=J r) (h:hf X.G z e m' k (vs++[v]) ob v) (c:rel X.G z (vs++[v]) a w):dH X O z e k vs K r w m':=
 ⟨z,vs++[v],a,O++[ob],Inv.push O ob,dT.refl z,j0,d.push s f (λ_ _ _ _ _ _=>e6.qg) h λp g _=>i p g,c,j⟩
def BW {i:Nat} {ob a:ba D} {v:af} (d:b9 X.G O z e m k vs) (n:K .undef (O.set i a)=J r) (l:O[i]? =J ob) (b:vs[i]? =J v) (f:ob.live=aa) (c:a.nd=aa) (s:gl m m' (dQ v)) (g:dL z e m' k) (j:hf X.G z e m' k vs a v):dH X O z e k vs K r undef m':=
 ⟨z,vs, .undef,_,Inv.set O i (.inr c),dT.refl z,λ_ _ h=>h,d.pF l b f s g j,rfl,n⟩
def Cb (a:b9 X.G O z e m k vs) (v:af):(vs++[v])[O.length]? =J v:=by
 rw[<-a.len];simp
def oi {v:af} {l:Nat} (d:b9 X.G O z e m k vs) (b:∃a c,v= .slice a l c):rel X.G z (vs++[v]) (.c (.own O.length)) v:=by
 obtain ⟨a,c,rfl⟩:=b;exact ⟨Cb d _,rfl,rfl⟩
def acr {i j bX t1:Nat} (eG:vO P X.G bX t1) {up:Option (List (D t1)->D bX)} {eh:List (List (D t1))} {hole:Option (Int×Nat)} {dX ix:Bool} {xs:List (D t1)} {dx:Int} (aM:o.op= .store bX x y) (aN:b9 X.G O z e m k vs) (hO:O[i]? =J (.nest bX t1 up eh hole dX)) (bn:O[j]? =J (.bh t1 xs ak ix)) (bl:rel X.G z vs (.el i bX dx 0) (bk fr x)) (aw:rel X.G z vs (.c (.own j)) (bk fr y)) (cp:∀p,hole=J p->p.1=dx)
  (h:(ab (al eh dx) λ_=>K .undef ((O.set i (.nest bX t1 up (eh.set dx.toNat xs) ae aa)).set j .dead))=J r):cH P (bk fr) o m λ_ v m'=>dH X O z e k vs K r v m':=by
 obtain ⟨a,bs,h⟩:=bind_some h;obtain ⟨b,f0,l,c,aD,an⟩:=bl;obtain ⟨hu,fb,kK⟩:=aw;obtain ⟨hb,ws,cG⟩:=aN.obj i _ _ hO aD;obtain ⟨g0,g1,g2⟩:=o3 bs;have cF:dx.toNat<ws.length:=by rw[cG.len];grind
 have hw:=mm cF;have wm:al ws dx=J ws[dx.toNat]:=by
  grind [al]
 obtain ⟨cs,e0,_,ay⟩:=cG.bT.elem rfl wm;have tc:dU (X.G.T t1) z e m k xs (bk fr y):=aN.obj j _ _ bn hu;generalize tj:bk fr y=u at*;have gT:i≠j:=λcp=>by grind
 have rY:∀r,pr (J ⟨b,f0,ae⟩) l c≠ .map r:=λr cp=>by grind
 have Bg:dQ u=da u:=hi (by obtain ⟨a,c,rfl⟩:=tc.bT.len;grind);have fP:=aN.fD j i _ _ u _ (λcp=>gT cp.symm) bn hO rfl rfl hu aD;rw[Bg] at fP;rw[eG.cN] at an;have yN:u.cells.toList=[u]:=by grind
 refine J8 (T:=rD bX) (f:=0) (n:=dx.toNat) aM eG.az an rfl tj fb yN (by rw[eG.h1];rfl) cG.bT rfl hw e0 ay (a':=u) ⟨rfl,fb,kK⟩ (by rw[e0.1];rfl) (by rw[e0.1];rfl) aN.aS λm' fc tt gI=> ?_;have VB:dU (X.G.T t1) z e m' k xs u:=tc.same gI fP;obtain ⟨z',fv,fQ,kb,nb⟩:=W6 cG fc tt rfl cF (λp bb=>by grind) VB fP;have Bc:=aN.kill j;have UP:(O.set j .dead)[i]? =J (.nest bX t1 up eh hole dX):=by grind
 have Bd:=Bc.Hr (o':= .nest bX t1 up (eh.set dx.toNat xs) ae aa) (p:=da u) UP aD rfl rY fv.le gI fQ (λa q pH bl bm aR hw=> ?_) (λb aw=>(tc.bT.lt b aw).2) (λb _ bb _=> ?_) ⟨hb,_,kb⟩
 ·have aoQ:(O.set i (.nest bX t1 up (eh.set dx.toNat xs) ae aa)).set j .dead=(O.set j .dead).set i (.nest bX t1 up (eh.set dx.toNat xs) ae aa):=List.set_comm _ _ gT;exact ⟨z',vs, .undef,_,(Inv.set O i (.inr rfl)).trans (Inv.set _ j (.inl rfl)),fv,λ_ _ h=>h,by grind,rfl,h⟩
 ·rw[ll] at bm;split at bm
  ·split at bm
   ·cases bm;cases aR
   grind
  ·rename_i Vc;have:=aN.fD a j q _ pH u (λcp=>Vc cp.symm) bm bn aR rfl hw hu
   grind
 grind
def acs {i bX t1:Nat} (eG:vO P X.G bX t1) {up:Option (List (D t1)->D bX)} {eh:List (List (D t1))} {hole:Option (Int×Nat)} {dX:Bool} {dx:Int} (aM:o.op= .store bX x y) (aN:b9 X.G O z e m k vs) (hO:O[i]? =J (.nest bX t1 up eh hole dX)) (bl:rel X.G z vs (.el i bX dx 0) (bk fr x)) (aw:rel X.G z vs (.c .gE) (bk fr y)) (cp:∀p,hole=J p->p.1=dx)
  (h:(ab (al eh dx) λ_=>K .undef (O.set i (.nest bX t1 up (eh.set dx.toNat []) ae aa)))=J r):cH P (bk fr) o m λ_ v m'=>dH X O z e k vs K r v m':=by
 obtain ⟨a,bs,h⟩:=bind_some h;obtain ⟨b,f0,l,c,aD,an⟩:=bl;obtain ⟨hb,ws,cG⟩:=aN.obj i _ _ hO aD;obtain ⟨g0,g1,g2⟩:=o3 bs;have cF:dx.toNat<ws.length:=by rw[cG.len];grind
 have hw:=mm cF;have wm:al ws dx=J ws[dx.toNat]:=by
  grind [al]
 obtain ⟨cs,e0,_,ay⟩:=cG.bT.elem rfl wm;have aw:bk fr y= .slice ae 0 0:=aw;have tc:dU (X.G.T t1) z e m k ([]:List (D t1)) (.slice ae 0 0):=⟨.inl ⟨rfl,rfl⟩,λb aw=>by cases aw⟩
 have rY:∀r,pr (J ⟨b,f0,ae⟩) l c≠ .map r:=λr cp=>by grind
 have fP:e6 (da (.slice ae 0 0)) (da (pr (J ⟨b,f0,ae⟩) l c)):=λb aw=>by cases aw
 rw[eG.cN] at an;refine J8 (T:=rD bX) (f:=0) (n:=dx.toNat) aM eG.az an rfl aw rfl (a':= .slice ae 0 0) rfl (by rw[eG.h1];rfl) cG.bT rfl hw e0 ay ⟨rfl,rfl,rfl⟩ (by rw[e0.1];rfl) (by rw[e0.1];rfl) aN.aS λm' fc tt gI=> ?_;have VB:dU (X.G.T t1) z e m' k ([]:List (D t1)) (.slice ae 0 0):=⟨.inl ⟨rfl,rfl⟩,λb aw=>by cases aw⟩
 obtain ⟨z',fv,fQ,kb,nb⟩:=W6 cG fc tt rfl cF (λp bb=>by grind) VB fP;have Bd:=aN.Hr (o':= .nest bX t1 up (eh.set dx.toNat []) ae aa) (p:=ae) hO aD rfl rY fv.le gI fQ (λa q pH bl bm aR hw=>λb aw e5=>by grind) (λb aw=>by grind) (λb _ bb _=> ?_) ⟨hb,_,kb⟩
 ·exact ⟨z',vs, .undef,_,Inv.set O i (.inr rfl),fv,λ_ _ h=>h,Bd,rfl,h⟩
 ·rcases nb b with ay|ay
  ·grind
  ·cases ay
theorem aqe {i A:Nat} {C:Int} {f:Nat} {b:bc D} (g:o.op= .store t x y) (l:b9 X.G O z e m k vs) (s:rel X.G z vs (.el i A C f) (bk fr x)) (n:rel X.G z vs b (bk fr y)) (h:Wx X t i A C f b O K=J r):cH P (bk fr) o m λ_ v M=>dH X O z e k vs K r v M:=by
 unfold Wx at h;split at h
 ·rename_i j;split at h
  ·rename_i H Q R L d F T U S c B;split at h
   ·rename_i a N;split at h
    ·rename_i I;subst I;split at h
     ·rename_i w;obtain ⟨rfl,rfl,rfl⟩:=w;split at h
      ·exact acr a g l c B s n (λp u=>by grind) h
      ·split at h
       ·rename_i p u;exact acr a g l c B s n (λq E=>by grind) h
       grind
     grind
    grind
   grind
  grind
 ·split at h
  ·rename_i H Q R L d F c;split at h
   ·rename_i a N;split at h
    ·rename_i w;obtain ⟨rfl,rfl,rfl⟩:=w;split at h
     ·exact acs a g l c s n (λp u=>by grind) h
     ·split at h
      ·rename_i p u;exact acs a g l c s n (λq E=>by grind) h
      grind
    grind
   grind
  grind
 grind
def aqG {a b:bc D} (U:o.op= .store t x y) (s:b9 X.G O z e m k vs) (bl:rel X.G z vs a (bk fr x)) (aw:rel X.G z vs b (bk fr y)) (h:Xd X t a b O K=J r):cH P (bk fr) o m λ_ v Q=>dH X O z e k vs K r v Q:=by
 unfold Xd at h;split at h
 ·grind
 ·rename_i i V;split at h
  ·rename_i j p;split at h
   ·grind
   ·rename_i new bB;obtain ⟨M,g⟩:=KA bB aw;split at h
    ·rename_i cN;have R:(bk fr y).cells.toList.length=i.size:=by rw[<-g.length];grind
     obtain ⟨js,q,E⟩:=bl;split at h
     ·rename_i u H dX f;split at h
      ·rename_i B;obtain ⟨jR,ds,N,n2,hU,d⟩:=s.obj j _ _ f q;cases N;refine abd U V E rfl M rfl R n2 (Cg (by rw[<-d.length,<-g.length];grind)) _ rfl s.aS λQ w Y A=> ?_;exact BW s h f q rfl rfl A w ⟨js,_,rfl,Y,hU,zn p d g⟩
      grind
     ·rename_i u H dX f;split at h
      ·rename_i B;obtain ⟨jR,ds,N,n2,d⟩:=s.obj j _ _ f q;cases N;refine abd U V E rfl M rfl R n2 (Cg (by rw[<-d.length,<-g.length];grind)) _ rfl s.aS λQ w Y A=> ?_;exact BW s h f q rfl rfl A w ⟨js,_,rfl,Y,zn p d g⟩
      grind
     grind
    grind
  ·rename_i j bX dx p;split at h
   ·grind [aqe]
   split at h
   ·grind
   ·rename_i new cu bB;obtain ⟨I,kL,qc,C,M,g⟩:=adM s bB aw;obtain ⟨js,f0,l,c,q,E⟩:=bl;split at h
    ·rename_i cN;have R:(bk fr y).cells.toList.length=i.size:=by rw[<-g.length];grind
     split at h
     ·rename_i W xs dX S f iE;split at h
      ·rename_i eB;subst eB;obtain ⟨a,bs,h⟩:=bind_some h;split at h
       ·rename_i B;obtain ⟨Z,bb,h⟩:=bind_some h;have F:dU (X.G.T W) I e m k xs _:=C.obj j _ _ f q;obtain ⟨H,L,uU,ay⟩:=F.elem rfl bs;have d:=S.rc I vs a H L;refine J8 (T:=X.G.T W) U V E rfl rfl M rfl R F rfl uU L ay (S.r6 I vs _ Z _ bb (zn p d g)) rfl (Cg (by rw[<-d.length,<-g.length];grind)) C.aS λQ w tt A=> ?_;exact dH.from kL qc (BW C h f q rfl rfl A w tt)
       grind
      grind
     ·rename_i W u n xs dX S f iE;split at h
      ·rename_i eB;subst eB;obtain ⟨a,bs,h⟩:=bind_some h;split at h
       ·rename_i B;obtain ⟨Z,bb,h⟩:=bind_some h;obtain ⟨⟨jR,N⟩,F⟩:=C.obj j _ _ f q;obtain ⟨H,L,uU,ay⟩:=F.elem rfl bs;have d:=S.rc I vs a H L;refine J8 (T:=(X.G.T W).as u) U V E rfl rfl M rfl R F rfl uU L ay (S.r6 I vs _ Z _ bb (zn p d g)) rfl (Cg (by rw[<-d.length,<-g.length];grind)) C.aS λQ w tt A=> ?_;exact dH.from kL qc (BW C h f q rfl rfl A w ⟨⟨jR,N⟩,tt⟩)
       grind
      grind
     grind
    grind
  grind
def aqy (l:o.op= .alloc t) (d:b9 X.G O z e m k vs)
  (h:(match X.A t with
  |some a=>K (.arr O.length) (O++[.arr a.e t a.n (gb a.n a.ti.x0) ak])
  |none=>match X.I t with|some c=>K (.box O.length 0) (O++[.box t c.rk ak ak])|none=>ae)=J r):cH P (bk fr) o m λ_ v j=>dH X O z e k vs K r v j:=by
 split at h
 ·rename_i a s;refine as3 (T:=X.G.T a.e) (x0:=a.ti.x0) l a.az a.bx a.dw a.et a.qX (a.ti.GX z) a.bB d.aS λb j g q i f=> ?_;exact pA (v:= .slice (J ⟨b,0,ae⟩) a.n a.n) d g i f h ⟨⟨b,rfl⟩,q⟩ ⟨b,a.n,Cb d _,rfl⟩
 ·split at h
  ·rename_i c u;refine as4 l c.az c.bx c.dw c.et _ rfl d.aS λb j p g bL i f=> ?_;exact pA (v:= .pointer (J ⟨b,0,ae⟩)) d g i f h ⟨b,_,rfl,bL,p,c.qX _ _⟩ ⟨b,Cb d _,rfl⟩
  grind
def arH {i:TypeInfo} {c:List (cv D)} (g:o.op= .box t x) (a:b9 X.G O z e m k vs) (p:rel X.G z vs (dp E x) (bk fr x)) (l:P.info? t=J i) (j:xg (dp E x)=J c) (y:c.length=i.size)
  (h:K (.box O.length 0) (O++[.box t c ak ak])=J r):cH P (bk fr) o m λ_ v f=>dH X O z e k vs K r v f:=by
 obtain ⟨s,d⟩:=KA j p;refine ave g l rfl s _ rfl (by rw[<-d.length];grind) a.aS λb f n u bL w q=> ?_;exact pA (v:= .pointer (J ⟨b,0,ae⟩)) a u w q h ⟨b,_,rfl,bL,n,pb.mono d (fl.refl z) j0⟩ ⟨b,Cb a _,rfl⟩
def ads {kk:aG} {n:Int} (h:CH x y=aa) (d:bk fr x= .int kk n):∃c,bk fr y= .int c n:=by
 unfold CH at h;split at h
 ·simp_all
 ·rename_i e a c b;have f:mu e a= .int kk n:=d;cases f;have:n=b:=by grind
  subst this;exact ⟨c,rfl⟩
 grind
def aqF {q:Nat} {kk:aG} {n:Int} (B:o.op= .makeSlice t x y) (A:P.underlying t=J (.slice q)) (d:b9 X.G O z e m k vs) (s:bk fr x= .int kk n) (h:Xc X q x y n O K=J r):cH P (bk fr) o m λ_ v u=>dH X O z e k vs K r v u:=by
 unfold Xc at h;split at h
 ·rename_i Z W;split at h
  ·rename_i b Y I;obtain ⟨Q,H,h⟩:=bind_some h;obtain ⟨N,C⟩:=ads I s;obtain ⟨R,tp,rfl⟩:=B3 H;have g:hy (pr ae 0 0) n=J (gb n.toNat (pr ae 0 0)):=by
    grind [hy]
   refine ae7 (T:=rD q) (x0:=pr ae 0 0) B A b.az b.bx rfl (by rw[b.h1];rfl) (by rw[b.h1];rfl) b.hp ⟨rfl,rfl,rfl⟩ s C d.aS g λl u E i F S=> ?_;have L:dQ l=da l:=hi (by obtain ⟨a,c,rfl⟩:=i.bT.len;grind);refine pA (v:=l) d E F (by grind) h ⟨λf D=>by cases D;exact ⟨b.cN,b.tid,b.aV⟩,_,i,by simp,λj w xs U V _=> .inl ?_,λp M=>by grind⟩ (oi d i.bT.len)
   grind
  grind
 grind
def arm {d:Nat} {b:dP P X.G d} {kk:aG} {n:Int} (q:o.op= .makeSlice t x y) (B:P.underlying t=J (.slice d)) (f:b9 X.G O z e m k vs) (l:bk fr x= .int kk n) (A:CH x y=aa)
  (h:(ab (hy b.x0 n) λr=>K (.c (.own O.length)) (O++[.bh d r ak ak]))=J r):cH P (bk fr) o m λ_ v p=>dH X O z e k vs K r v p:=by
 obtain ⟨F,w,h⟩:=bind_some h;have g:=ads A l;obtain ⟨D,g⟩:=g;refine ae7 (T:=X.G.T d) q (by rw[b.tid];grind) (by rw[b.tid];exact b.az) b.bx b.dw b.et b.cN b.hp (b.GX z) l g f.aS w λj p s i u E=> ?_;have C:dQ j=da j:=hi (by obtain ⟨a,c,rfl⟩:=i.bT.len;grind);exact pA (v:=j) f s u (by grind) h i (oi f i.bT.len)
def ac6 {c:Nat} {s:dP P X.G c}:∀{g:List (Nat×bS)} {n:Nat} {O:List (ba D)} {z:Nat->bW} {K:List (D c)->List (ba D)->Option ap},b9 X.G O z e m k vs->(∀x,rel X.G z vs (dp E x) (bk fr x))->CK X s E n g O K=J r->
  ∃o i b l,Inv O i/\dT e.next z o/\b9 X.G i o e m k vs/\wZ (X.G.T c) o (bk fr) g n b l/\K b i=J r
 |[],n,O,z,K,d,f,h=>⟨z,O,[],[],Inv.refl O,dT.refl z,d,trivial,h⟩
 |(j,x)::g,n,O,z,K,d,f,h=>by
  unfold CK at h;split at h
  ·rename_i w;split at h
   ·rename_i N Q u;obtain ⟨a,v,h⟩:=bind_some h;obtain ⟨R,L,q,I,A,t⟩:=adM d u (f x);obtain ⟨M,y,b,l,B,p,C,F,H⟩:=ac6 I (λx=>(f x).mono q.le λ_ _ h=>h) h;exact ⟨M,y,a::b,(bk fr x).cells.toList::l,L.trans B,q.trans p,C,⟨w,A,rfl,(X.G.T c).mono _ _ p.le _ _ (s.r6 _ _ _ _ _ v t),F⟩,H⟩
   grind
  grind
def aqB {d l:Nat} {b:dP P X.G d} {p:Array (Nat×bS)} (u:o.op= .buildSlice t l p) (M:P.underlying t=J (.slice d)) (w:b9 X.G O z e m k vs) (A:∀x,rel X.G z vs (dp E x) (bk fr x))
  (h:(CK X b E 0 p.toList O λf O=>if f.length=l/\iJ (l*(X.G.T d).bM) 16777216=aa then K (.c (.own O.length)) (O++[.bh d f ak ak]) else ae)=J r):cH P (bk fr) o m λ_ v s=>dH X O z e k vs K r v s:=by
 obtain ⟨S,R,f,L,C,D,n,F,q⟩:=ac6 w A h;split at q
 ·rename_i g;have I:0<(X.G.T d).bM:=Nat.pos_of_ne_zero λQ=>by have:=b.hh;grind
  have V:=pk g.2;have y:l<=l*(X.G.T d).bM:=Nat.le_mul_of_pos_right _ I;refine Xn (T:=X.G.T d) u (by rw[b.tid];grind) (by rw[b.tid];exact b.az) b.bx b.dw b.et b.cN f L g.1 g.2 (Cg (show l+1<=9223372036854775808 by omega)) F n.aS λj s B i H U=> ?_;have N:dQ j=da j:=hi (by obtain ⟨a,c,rfl⟩:=i.bT.len;grind);exact dH.from C D (pA (v:=j) n B H (by grind) q i (oi n i.bT.len))
 grind
def WV {n:List (Option (Nat×Nat))} (l:∀x,rel X.G z vs (dp E x) (bk fr x)):∀{g:List (Nat×bS)} {e a:List (cv D)} {b:List af},xi n E g e=J a->bP (ed X.G z vs) e b->
  ∃f,k5 (λk=>(n[k]?).join) b (g.map λp=>(p.1,bk fr p.2))=J f/\bP (ed X.G z vs) a f
 |[],e,a,b,h,d=>by cases h;exact ⟨b,rfl,d⟩
 |(i,x)::g,e,a,b,h,d=>by
  unfold xi at h;split at h
  ·rename_i j c new r q;split at h
   ·rename_i o;obtain ⟨t,m⟩:=KA q (l x);obtain ⟨f,v,u⟩:=WV l h (zn j d m);refine ⟨f, ?_,u⟩;have s:(bk fr x).cells.size=c:=by
     have w:new.length=(bk fr x).cells.toList.length:=m.length
     grind
    simp only[rA,k5,r];rw[if_pos ⟨t,s,by rw[<-d.length];grind⟩]
    grind
   grind
  grind
def adg {n s:Nat}:∀{a:List (Nat×af)} {b c:List af},k5 (λk=>(((mN n).map λj=>J (j*s,s))[k]?).join) b a=J c->k5 (λj=>J (j*s,s)) b a=J c
 |[],_,_,h=>h
 |(i,v)::a,b,c,h=>by
  simp only[k5] at h⊢;by_cases e:i<n
  ·rw[sH,List.getElem?_range e] at h;simp only[Option.map_some,Option.join_some] at h;split at h
   ·rename_i d;rw[if_pos d];exact adg h
   grind
  grind
def aqA {a:dP P X.G t} {n b:Nat} {kk:TypeInfo} {c:Array (Nat×bS)} {d:List (cv D)} (l:o.op= .build t c) (g:P.underlying t=J (.array n b)) (y:P.info? b=J kk) (p:b9 X.G O z e m k vs) (s:∀x,rel X.G z vs (dp E x) (bk fr x))
  (q:xi ((mN n).map λj=>J (j*kk.size,kk.size)) E c.toList a.rk=J d) (h:K (.agg t d) O=J r):cH P (bk fr) o m λ_ v A=>dH X O z e k vs K r v A:=by
 obtain ⟨f,u,w⟩:=WV s q (a.qX z vs);exact cH.pure (.Jg t c n b a.i kk a.c0 f l g a.az a.bx a.dw y (adg u)) (dH.here (dR:= .agg t d) p ⟨f,rfl,w⟩ h)
def aqf {a:dP P X.G t} {b:Array Field} {d:Array (Nat×bS)} {c:List (cv D)} (i:o.op= .build t d) (g:P.underlying t=J (.struct b)) (j:b9 X.G O z e m k vs) (p:∀x,rel X.G z vs (dp E x) (bk fr x)) (n:(pC P b).all Y2=aa)
  (l:xi (pC P b) E d.toList a.rk=J c) (h:K (.agg t c) O=J r):cH P (bk fr) o m λ_ v u=>dH X O z e k vs K r v u:=by
 obtain ⟨f,q,s⟩:=WV p l (a.qX z vs);exact as5 _ f i g a.az a.bx a.dw rfl n rfl q (dH.here (dR:= .agg t c) j ⟨f,rfl,s⟩ h)
end
end Go.aF
end
section
namespace Go.aF
section
variable {P:bI} {D:Nat->Type} {X:e3 P D} {ap:Type} {z z':Nat->bW} {e m m':Mem} {k:Option Nat} {vs:List af} {fr:Nat->af} {E:List (Nat×bc D)} {O:List (ba D)} {o:Oper} {r:ap}
variable {x y:bS} {t u:bV} {K:bc D->List (ba D)->Option ap}
def K5 {b:Option bS} {a:Int} (d:∀x,rel X.G z vs (dp E x) (bk fr x)) (h:y6 E b=J a):y5 (bk fr) b a:=by
 cases b with
 |none=>cases h;rfl
 |some y=>
  simp only[y6] at h;split at h
  ·rename_i kk n c;cases h;have:=d y;rw[c] at this;exact ⟨kk,this⟩
  grind
def KN {b:Option bS} {a:Int} {l:Nat} (d:∀x,rel X.G z vs (dp E x) (bk fr x)) (h:zL E (l:Int) b=J a):zK (bk fr) b l a:=by
 cases b with
 |none=>cases h;rfl
 |some y=>
  simp only[zL] at h;split at h
  ·rename_i kk n c;cases h;have:=d y;rw[c] at this;exact ⟨kk,this⟩
  grind
theorem arI {a:bc D} {w p:Option bS} (l:o.op= .slice t x w p ae) (n:b9 X.G O z e m k vs) (b:∀x,rel X.G z vs (dp E x) (bk fr x)) (u:rel X.G z vs a (bk fr x)) (h:X0 X t a E w p O K=J r):cH P (bk fr) o m λ_ v Q=>dH X O z e k vs K r v Q:=by
 unfold X0 at h;split at h
 ·split at h
  ·rename_i s U B j i g;obtain ⟨q,f,h⟩:=bind_some h;exact avf l j u (K5 b i) (KN b g) f (dH.here (dR:= .c (.str q)) n rfl h)
  grind
 ·rename_i c H;split at h
  ·rename_i S xs W F;obtain ⟨Y,N,R,A,C⟩:=zw n F u;split at h
   ·rename_i y d U B j Z i g;split at h
    ·rename_i M;subst M;obtain ⟨q,f,h⟩:=bind_some h;refine apg (T:=X.G.T y) l (by rw[d.tid];grind) (by rw[d.tid];exact d.az) d.cN rfl (K5 b i) (KN b g) C A.aS f λV I _ L=> ?_;exact dH.from N R (dH.here (dR:= .c (.bh y q)) A L h)
    grind
   grind
  grind
 grind
def apJ {y:Type} {T:cM y} {d:List y} {v:af} {g f:Option bS} {a n:Nat} {i:TypeInfo} {e:bS->af} (h:o.op= .slice t x g f ae) (l:P.underlying t=J (.slice T.tid)) (w:P.info? T.tid=J i) (G:i.size=T.bM) (p:e x=v) (u:qo e g a) (s:nJ e f d.length n)
  (B:fO T z m d v) (j:a<=n) (q:n<=d.length):∃r,(dD P e o r\/fH P e o m r)/\pO T.bM a n v r:=by
 rcases B with ⟨rfl,rfl⟩|⟨b,k,L,c,rfl,C,H,I,K,D,M⟩
 ·have E:n=0:=by grind
  subst E;obtain rfl:a=0:=by omega
  exact ⟨.slice ae 0 0, .inl (.nc t x g f T.tid i h l w p u s), .inl ⟨rfl,rfl,rfl,rfl⟩⟩
 ·rcases D with rfl|⟨A,N,F⟩
  ·refine ⟨_, .inr (.slice t x g f T.tid i L b k d.length a n h l w p C u s j q (by grind)), .inr ⟨b,k,d.length,dc,_,dc,rfl,rfl,j,q, .inl (by grind), .inl ⟨rfl,rfl⟩⟩⟩
  ·refine ⟨_, .inl (.slice t x g f T.tid i b k d.length c a n h l w p (by grind) u s j (by omega) (λ_=>trivial)), .inr ⟨b,k,d.length,c,_,_,rfl,rfl,j,q, ?_, .inr ⟨A,rfl⟩⟩⟩
   grind
def ari {a:bc D} {Q M:Option bS} (Y:o.op= .slice t x Q M ae) (d:b9 X.G O z e m k vs) (C:∀x,rel X.G z vs (dp E x) (bk fr x)) (s:rel X.G z vs a (bk fr x)) (h:XA X t x a E Q M O K=J r):cH P (bk fr) o m λ_ v V=>dH X O z e k vs K r v V:=by
 unfold XA at h;split at h
 ·rename_i yT;have aD:bk fr x= .slice ae 0 0:=by
   unfold abE at yT;split at yT
   ·exact s
   grind
  split at h
  ·rename_i N p q aJ U S;split at h
   ·rename_i g iE;split at h
    ·rename_i Z;simp only[fx,beq_iff_eq] at Z;obtain ⟨rfl,rfl⟩:=Z;exact cH.pure (.nc t x Q M N g.i Y aJ g.az aD (K4 (n:=0) (K5 C U)) (KM (n:=0) (KN (l:=0) C S))) (dH.here (dR:= .c .gE) d rfl h)
    grind
   grind
  grind
 rename_i aok;split at h
 ·grind [arI]
 ·rename_i md aya;split at h
  ·rename_i i;have s:ed X.G z vs (.own i) (bk fr x):=s;split at h
   ·rename_i N H w f hO hu;split at h
    ·rename_i g p q aoT U S;by_cases eB:f=N
     case neg=>grind
     rw[if_pos eB] at h;subst eB;obtain ⟨G0,aV,h⟩:=bind_some h;obtain ⟨rI,c1,c2,rfl⟩:=Ws aV;obtain ⟨p,rfl⟩:=sD rI;obtain ⟨q,rfl⟩:=sD (Int.le_trans rI c1);simp only[sG] at h;have B:dU (X.G.T f) z e m k H (bk fr x):=d.obj i _ _ hO s.1;obtain ⟨y,F,A⟩:=apJ (T:=X.G.T f) Y (by rw[g.tid];omega) (by rw[g.tid];exact g.az) g.cN rfl (K4 (K5 C U)) (KM (KN C S)) B.bT (by omega) (by omega);have hk:dH X O z e k vs K r y m:=by
      by_cases W:fi md 0=aa
      ·rw[if_pos W] at h;exact dH.here (dR:= .cut i f p q) d ⟨_,s,A⟩ h
      ·rw[if_neg W] at h;have bT:dU (X.G.T f) z e m k ((H.take q).drop p) y:=⟨A.VY B.bT,λb aw=>B.fresh b (by
        have n2:dQ (bk fr x)=da (bk fr x):=hi (by obtain ⟨a,c,R⟩:=B.bT.len;grind);have kI:dQ y=da y:=hi (by obtain ⟨a,c,R⟩:=(A.VY B.bT).len;grind);rw[<-n2,<-A.blk,kI];grind)⟩
       have UW:dQ y=dQ (bk fr x):=A.blk;have fP:=λj qj w hq u L hw=>d.fD j i qj _ w _ hq u hO L rfl hw s.1;exact ⟨z,vs++[y], .c (.own O.length),O.set i .dead++[.bh f ((H.take q).drop p) ak ak],(Inv.set O i (.inl rfl)).trans (Inv.push _ _),dT.refl z,j0,
        (d.kill i).push (q:=dQ (bk fr x)) (o':= .bh f ((H.take q).drop p) ak ak) ⟨e4 _,d.aS.dead,λ_ _ _=>rfl⟩ d.aS (λj p w u hw L=>by
         rw[ll] at u;split at u
         ·split at u
          ·cases u;cases L
          grind
         grind) bT (λp bb US=>by grind),oi d (by obtain ⟨a,c,R⟩:=bT.bT.len;exact ⟨a,c,R⟩),h⟩
     rcases F with F|F
     ·exact cH.abT (D:=λ_ v V=>dH X O z e k vs K r v V) (I:=λ_=>True) F hk
     grind [cH.read]
    grind
   grind
  grind
def arj {y f:bS} (N:o.op= .slice t x ae (J y) (J f)) (Z:b9 X.G O z e m k vs) (F:∀x,rel X.G z vs (dp E x) (bk fr x)) (h:XB X t (dp E x) (dp E y) (dp E f) O K=J r):cH P (bk fr) o m λ_ v m'=>dH X O z e k vs K r v m':=by
 unfold XB at h;have U:∀{M:Type} {p:Prop} [Decidable p] {x:Option M} {r:M},(if p then x else ae)=J r->p/\x=J r:=by
  grind
 split at h
 ·rename_i u I p H q L bb bm;have j:=F y;rw[bb] at j;have j:bk fr y= .int I p:=j;have l:=F f;rw[bm] at l;have l:bk fr f= .int H q:=l;have R:=F x;split at h
  ·rename_i c an;rw[an] at R;split at h
   ·rename_i e2 g cu bF;split at h
    ·rename_i w iE;obtain ⟨he,h⟩:=U h;subst he;obtain ⟨G0,Q,h⟩:=bind_some h;unfold LJ at Q;obtain ⟨B,W⟩:=U Q;obtain ⟨bR,h1,ai,Y⟩:=B;subst Y;cases W;obtain ⟨S,g0,g1,g2,g3⟩:=zw Z bF R;obtain ⟨n,rfl⟩:=sD bR;have bB:n<=g.length:=by omega
     have C:n<dc:=by grind [dc]
     have key:∃v,dD P (bk fr) o v/\rel X.G S vs (.full u (g.take n)) v:=by
      rcases (g3:fA (X.G.T u) S g (bk fr x)) with ⟨A,rfl⟩|⟨b,d,s,A,D,ayx,ayy⟩
      ·have wq:n=0:=by grind
       subst wq;exact ⟨_, .P4 t x f (J y) u w.i H N L w.az A ⟨y,I,rfl,j⟩ l, .inl ⟨rfl,by rfl⟩,by grind,ae,by rfl⟩
      ·have fZ:(s<dc/\n<=s)\/(s=dc/\n<=g.length):=by
        grind
       have V:(g.take n).length=n:=by grind
       refine ⟨_, .slice3 t x f (J y) u w.i b d g.length s n n H N L w.az A fZ ⟨y,I,rfl,j⟩ l (e4 _), ?_⟩;refine ⟨.inr ⟨b,d,n,by grind,D, .inr ⟨C,by grind⟩,λi a az=> ?_⟩,by grind,J ⟨b,d,ae⟩,by grind⟩
       grind
     grind [cH.pure,dH.from,dH.here]
    grind
   grind
  grind
 grind
def arA {a:bc D} {v:af} {t:Nat} {b:List (D t)} (g:b9 X.G O z e m k vs) (h:qn O a=J ⟨t,b⟩) (c:rel X.G z vs a v):fA (X.G.T t) z b v\/dU (X.G.T t) z e m k b v:=by
 unfold qn at h;split at h
 ·cases h;exact .inl c
 ·split at h
  ·rename_i l i bZ j f;cases h;have d:=g.obj _ _ v f c.1;cases bZ with
   |true=>exact .inl d
   |false=>exact .inr d
  grind
 grind
def arh {a:bc D} (j:o.op= .convert u t x) (d:b9 X.G O z e m k vs) (n:rel X.G z vs a (bk fr x)) (h:Xz X u t a O K=J r):cH P (bk fr) o m λ_ v y=>dH X O z e k vs K r v y:=by
 unfold Xz at h;split at h
 ·rename_i R Q g f;split at h
  ·exact j1 d h (avt j g f n) rfl
  grind
 ·rename_i F g f;split at h
  ·rename_i s b I;obtain ⟨U,i,h⟩:=bind_some h;refine atB j g f b.hu b.az b.kL n i d.aS ?_;intro w y E l B T;have L:=b.aw _ _ _ _ _ _ l;have M:dQ w=da w:=hi (by obtain ⟨a,c,rfl⟩:=l.bT.len;grind);refine ⟨z,vs++[w], .c (.own O.length),_,Inv.push O _,dT.refl z,j0,d.push (q:=ae) B E (λ_ _ _ _ _ _=>e6.qg) ?_ (λp N _=>by grind), ?_,h⟩
   ·exact L
   ·refine ⟨?_, ?_⟩
    ·rw[<-d.len];simp
    ·obtain ⟨a,c,rfl⟩:=l.bT.len;exact ⟨rfl,rfl⟩
  grind
 ·rename_i F g f;split at h
  ·rename_i S A b C I;split at h
   ·rename_i H;subst H;rcases arA d C n with i|i
    ·exact avj j g b.hu f rfl (b.aV _ _ _ i) d.aS (dH.here (dR:= .c (.str (b.to A))) d rfl h)
    ·exact avi j g b.hu f rfl (b.aM _ _ _ _ _ _ i) (dH.here (dR:= .c (.str (b.to A))) d rfl h)
   grind
  grind
 grind
def arN {a:bc D} {ts:Array bV} (j:o.op= .call {callee:= .builtin .len,args:=#[x],argTypes:=#[t]}) (d:b9 X.G O z e m k vs) (n:rel X.G z vs a (bk fr x)) (h:XR (P:=P) t a O K=J r):cH P (bk fr) o m λ_ v S=>dH X O z e k vs K r v S:=by
 unfold XR at h;split at h
 ·rename_i s f;exact j1 d h (auM j rfl f n) rfl
 ·rename_i N f;have q:bk fr x= .slice ae 0 0:=n;exact j1 d h (Lz (xs:=([]:List Int)) j f rfl ⟨ae,0,q⟩) rfl
 ·rename_i N E f;split at h
  ·rename_i A g y;exact j1 d h (Lz j f rfl (aqK d y n)) rfl
  ·split at h
   ·split at h
    ·rename_i A t1 up M B w u;obtain ⟨hu,ws,p⟩:=d.obj _ _ _ u n.1;exact j1 d h (Lz (xs:=M) j f rfl (by obtain ⟨a,c,L⟩:=p.bT.bT.len;exact ⟨a,c,by rw[L,p.len]⟩)) rfl
    grind
   ·split at h
    ·rename_i i A I F U H e2 g dX u;split at h
     ·rename_i Q;subst Q;obtain ⟨w,R,C⟩:=n;have p:dU _ z e m k g w:=d.obj _ _ _ u R.1;obtain ⟨ec,c1,y⟩:=p.bT.len;refine j1 d h (Lz (xs:=(g.take F).drop I) j f rfl ?_) rfl;rcases C with ⟨_,q,rfl,rfl⟩|⟨b,f0,l,c,T,c3,Y,q,h1,W,V,Z⟩
      ·grind
      grind
     grind
    grind
   grind
 grind
def ac1 {F:Type} {T:cM F} {M:Tag->af->Mem->Prop} {d f:List F} {w:af} {a:Option Addr} {g:bS->af} {i:TypeInfo} (h:o.op= .call {callee:= .builtin .append,args:=#[x,y],argTypes:=#[t,u]}) (S:P.underlying t=J (.slice T.tid)) (W:P.info? T.tid=J i) {v:af} (hL:i.zero=J v) (dw:v.cells.toList.all dy=aa) (et:v.cells.size=i.size)
  (cN:i.size=T.bM) (hh:(T.bM==0)=ak) (K:iJ i.bytes 32768=aa) (hu:(∃Z,P.underlying u=J (.slice Z))\/P.underlying u=J .string) (V:g x= .slice a d.length d.length) (X:Src T z m d (.slice a d.length d.length)) (aZ:g y=w) (mW:Src T z m f w) (gT:f.isEmpty=ak)
  (N:dL z e m k) {r:List F} (U:cD d f=J r)
  (D:∀I E,dL z e E k->dU T z e E k r I->gl m E ae->(∀p,(∀b,p=J b->b<m.next)->e6 p (da I))->M .fX I E):cH P g o m M:=by
 obtain ⟨R,rfl⟩:=tv U;simp only[uf] at R;have K:=pk K;have bb:0<T.bM:=by grind
 obtain ⟨O,A,mb,kK,e0⟩:=mW;obtain ⟨Vj,j,hex,nF,H⟩:=X;have G:ja (g y)=f.length:=by grind
 have Bz:0<f.length:=by grind
 have Q:(d.length+f.length)*i.bytes<=4294967296*32768:=IT R K;have qS:z m.next= .dead:=by
  have s:=N.bZ;cases wC:z m.next with
  |dead=>rfl
  |ro rd=>have:=(s m.next (by grind)).2;omega
  |own L t=>have:=(s m.next (by grind)).2;omega
  |map L t=>have:=(s m.next (by grind)).2;omega
  |lock _ _ _ _=>have:=(s m.next (by grind)).2;omega
 have Y:hR P (jn P 0) g o m (.slice (J ⟨m.next,0,ae⟩) (d.length+ja (g y)) dc) (m.push (.own (j++A) T.tid)):=
  .sP x y t u T.tid i v a d.length d.length (ja (g y)) j A h S W hL dw et (by grind) V (by grind) (by grind) (by grind) (.el hu rfl (by grind)) (by grind) (by grind) (by grind)
 rw[G] at Y;have uX:fO T z (m.push (.own (j++A) T.tid)) (d++f) (.slice (J ⟨m.next,0,ae⟩) (d.length+f.length) dc):=by
  refine fO.AW ⟨m.next,j++A,dc,by simp,by simp[Mem.push],by simp[Mem.push],qS,by grind [ko], .inl rfl,λn q l=> ?_⟩;rw[AB] at l;split at l
  ·obtain ⟨c,B,C⟩:=H n q l;refine ⟨c,B,λk q D=> ?_⟩;have:=C k q D
   grind
  ·rename_i hA;obtain ⟨c,B,C⟩:=e0 _ q l;refine ⟨c,B,λk q D=> ?_⟩;have:=C k q D;have h1:n*T.bM=j.length+(n - d.length)*T.bM:=by
    rw[nF,<-ko];grind
   grind
 obtain ⟨B,C,g3,g4⟩:=Jz (k:=k) N uX rfl
 grind [cH.fX]
def aqU {c:Nat} {j:TypeDesc} {b:bc D} {h:List (D c)} (g:b9 X.G O z e m k vs) (i:P.underlying u=J j) (f:rel X.G z vs b (bk fr y)) (a:Xp X c j b O=J h):
  Src (X.G.T c) z m h (bk fr y)/\((∃o,P.underlying u=J (.slice o))\/P.underlying u=J .string):=by
 unfold Xp at a;split at a
 ·refine ⟨?_, .inl ⟨_,i⟩⟩;split at a
  ·cases a;have d:bk fr y= .slice ae 0 0:=f;rw[d];exact (fA.nil (T:=X.G.T c)).src g.aS.bZ
  ·split at a
   ·rename_i r n l;split at a
    ·rename_i p;subst p;cases a;exact acy g l f
    grind
   grind
 ·refine ⟨?_, .inr i⟩;split at a
  ·rename_i s q _;cases a;have d:bk fr y=aF.str s:=f;rw[d];exact q.bf _ _ _ _ (asP s)
  grind
 grind
theorem arG {a b:bc D} (S:o.op= .call {callee:= .builtin .append,args:=#[x,y],argTypes:=#[t,u]}) (f:b9 X.G O z e m k vs) (M:rel X.G z vs a (bk fr x)) (aw:rel X.G z vs b (bk fr y)) (h:Ly X t u a b O K=J r):cH P (bk fr) o m λ_ v Q=>dH X O z e k vs K r v Q:=by
 unfold Ly at h;split at h
 ·rename_i H awn aJ hu;split at h
  ·grind
  ·rename_i d iE;split at h
   ·grind
   ·rename_i b4 qW;have I:=aqU (u:=u) f hu aw qW;have mW:Src (X.G.T H) z m b4 (bk fr y):=I.1;have oc:P.underlying t=J (.slice (X.G.T H).tid):=by rw[d.tid];grind
    have Y:P.info? (X.G.T H).tid=J d.i:=by rw[d.tid];exact d.az
    split at h
    ·obtain ⟨q,B,h⟩:=bind_some h;have aD:bk fr x= .slice ae 0 0:=M;refine K3 (T:=X.G.T H) (z:=z) S oc Y d.bx d.dw d.et d.cN d.hh d.hp I.2 aD dU.nil rfl mW f.aS B λl Q C g E W=> ?_;have Z:dQ l=da l:=hi (by obtain ⟨a,c,rfl⟩:=g.bT.len;grind);exact pA (v:=l) f C E (λp U=>by rw[Z];exact W p U e6.qg) h g (oi f g.bT.len)
    ·rename_i s R;by_cases F:s=H
     case neg=>grind
     rw[dif_pos F] at h;subst F;by_cases gT:b4.isEmpty=aa
     case pos=>grind
     rw[if_neg gT] at h;obtain ⟨q,B,h⟩:=bind_some h;obtain ⟨f1,f2,a0,f3⟩:=M;refine ac1 (T:=X.G.T s) (z:=z) S oc Y d.bx d.dw d.et d.cN d.hh d.hp I.2 f3 (by rw[<-f3];exact fA.src f1 f.aS.bZ) rfl mW (by grind) f.aS B λl Q C g E W=> ?_;have Z:dQ l=da l:=hi (by obtain ⟨a,c,rfl⟩:=g.bT.len;grind);exact pA (v:=l) f C E (λp U=>by grind) h g (oi f g.bT.len)
    ·rename_i i;split at h
     ·rename_i s R dX N;split at h
      ·rename_i F;subst F;obtain ⟨q,B,h⟩:=bind_some h;have V:dU (X.G.T s) z e m k R (bk fr x):=f.obj i _ _ N M.1;refine K3 (T:=X.G.T s) S oc Y d.bx d.dw d.et d.cN d.hh d.hp I.2 rfl V rfl mW f.aS B λl Q C g E W=> ?_;have Z:dQ l=da l:=hi (by obtain ⟨a,c,rfl⟩:=g.bT.len;grind);have n2:dQ (bk fr x)=da (bk fr x):=hi (by obtain ⟨a,c,cp⟩:=V.bT.len;grind);have jg:=f.kill i;have hlen:(O.set i .dead).length=O.length:=sJ;refine ⟨z,vs++[l], .c (.own O.length),O.set i .dead++[.bh s q ak ak],(Inv.set O i (.inl rfl)).trans (Inv.push _ _),dT.refl z,j0,jg.push (o':= .bh s q ak ak) E C (λj p w A hw L=> ?_) g (λp U US=>by grind), ?_,h⟩
       ·rw[ll] at A;split at A
        ·split at A
         ·cases A;cases L
         grind
        ·rename_i hq;rw[<-n2];exact f.fD j i p _ w _ (λe=>hq e.symm) A N L rfl hw M.1
       ·exact oi f g.bT.len
      grind
     grind
    ·rename_i i bX cf n;by_cases eW:fi cf 0=aa
     case neg=>grind
     rw[if_pos eW] at h;obtain rfl:=Nat.eq_of_beq_eq_true eW;by_cases wh:bX=H
     case neg=>grind
     rw[if_pos wh] at h;subst wh;split at h
     ·rename_i s R dX N;split at h
      ·rename_i F;subst F;obtain ⟨q,B,h⟩:=bind_some h;obtain ⟨zU,J2,iF⟩:=M;have Vo:dU (X.G.T s) z e m k R zU:=f.obj i _ _ N J2.1;have anp:dQ zU=da zU:=hi (by obtain ⟨a,c,cp⟩:=Vo.bT.len;grind);have uX:=iF.bT Vo.bT;have n2:dQ (bk fr x)=da (bk fr x):=hi (by obtain ⟨a,c,cp⟩:=uX.len;grind);have V:dU (X.G.T s) z e m k (R.take n) (bk fr x):=⟨uX,λb aw=>Vo.fresh b (by rw[<-anp,<-iF.blk,n2];grind)⟩
       refine K3 (T:=X.G.T s) S oc Y d.bx d.dw d.et d.cN d.hh d.hp I.2 rfl V rfl mW f.aS B λl Q C g E W=> ?_;have Z:dQ l=da l:=hi (by obtain ⟨a,c,rfl⟩:=g.bT.len;grind);have jg:=f.kill i;refine ⟨z,vs++[l], .c (.own O.length),O.set i .dead++[.bh s q ak ak],(Inv.set O i (.inl rfl)).trans (Inv.push _ _),dT.refl z,j0,jg.push (o':= .bh s q ak ak) E C (λj p w A hw L=> ?_) g (λp U US=>by grind), ?_,h⟩
       ·rw[ll] at A;split at A
        ·split at A
         ·cases A;cases L
         grind
        ·rename_i hq;rw[<-n2,iF.blk];exact f.fD j i p _ w _ (λe=>hq e.symm) A N L rfl hw J2.1
       ·exact oi f g.bT.len
      grind
     grind
    grind
 grind
theorem are {a b:bc D} (A:o.op= .call {callee:= .builtin .append,args:=#[x,y],argTypes:=#[t,u]}) (f:b9 X.G O z e m k vs) (Y:rel X.G z vs a (bk fr x)) (V:rel X.G z vs b (bk fr y)) (h:Xy X t u a b O K=J r):cH P (bk fr) o m λ_ v N=>dH X O z e k vs K r v N:=by
 unfold Xy at h;split at h
 ·rename_i ht W aJ M;split at h
  ·rename_i d C w g B iE U;by_cases j:C=ht
   case neg=>grind
   rw[dif_pos j] at h;subst j;by_cases j:g=C
   case neg=>grind
   rw[dif_pos j] at h;subst j;obtain ⟨q,E,h⟩:=bind_some h;have Q:=acy f U V;have R:P.underlying t=J (.slice (X.G.T g).tid):=by rw[d.tid];grind
   have H:P.info? (X.G.T g).tid=J d.i:=by rw[d.tid];exact d.az
   obtain ⟨F,f2,S,s⟩:=Y;by_cases I:B.isEmpty=aa
   ·rw[if_pos I] at h;obtain rfl:B=[]:=by grind
    obtain ⟨nD,rfl⟩:=tv E;obtain ⟨L,cs,mb,kK,_⟩:=Q;obtain rfl:cs=[]:=yl (by grind);have Z:hR P (jn P 0) (bk fr) o m (bk fr x) m:= .vZ x y t u _ d.i S w.length w.length A R H s (by omega) (e4 _) (.el (.inl ⟨_,M⟩) (by grind) (by rw[d.cN];grind));exact cH.fX Z (dH.here (X:=X) f (dR:= .c (.bh g (w++[]))) (by rw[List.append_nil];exact F) h)
   ·rw[if_neg I] at h;refine ac1 (T:=X.G.T g) (z:=z) A R H d.bx d.dw d.et d.cN d.hh d.hp (.inl ⟨_,M⟩) s (by rw[<-s];exact fA.src F f.aS.bZ) rfl Q (by grind) f.aS E λn N fc l gI fP=> ?_;have kI:dQ n=da n:=hi (by obtain ⟨a,c,rfl⟩:=l.bT.len;grind);exact pA (v:=n) f fc gI (λp bb=>by grind) h l (oi f l.bT.len)
  grind
 grind
def arO {d b:Nat} (j:o.op= .makeMap t ae) (i:P.underlying t=J (.map d b)) (a:b9 X.G O z e m k vs) (h:K (.c (.own O.length)) (O++[.map t d b [] ak ak])=J r):cH P (bk fr) o m λ_ v g=>dH X O z e k vs K r v g:=by
 refine ar1 (X.G.M t d b) j i rfl a.aS λu g n f p l=> ?_;obtain ⟨q,rfl,s⟩:=f.bT;exact pA (v:= .map (J q)) a n p l h f ⟨Cb a _,rfl,rfl⟩
def arl {u g f:Nat} {A:List (D g×D f)} {a:D g} {b:IP P X.G g f} {B:Bool} {c:bc D} (n:o.op= .lookup t x y B) (l:P.underlying t=J (.map g f)) (p:P.underlying u=J (.map g f)) (j:b9 X.G O z e m k vs)
  (i:nn (X.G.M u g f) z A (bk fr x)\/jD (X.G.M u g f) z e m k A (bk fr x)) (E:rel X.G z vs c (bk fr y)) (F:b.qY c=J a)
  (h:(aF.lt (@jv _ _ b.dec A a) λy=>if B=aa then K (.sq [.inl (b.pG (y.getD b.z0)), .inl (.bool y.isSome)]) O else K (.c (b.pG (y.getD b.z0))) O)=J r):cH P (bk fr) o m λ_ v H=>dH X O z e k vs K r v H:=by
 letI I:=b.dec
 obtain ⟨w,q,h⟩:=adC h;have s:=b.wo z vs c a _ F E;have C:=b.th z vs (w.getD b.z0);cases B with
 |true=>
  rw[if_pos rfl] at h;have d:rel X.G z vs (.sq [.inl (b.pG (w.getD b.z0)), .inl (.bool w.isSome)]) (.tuple #[ey (ek P f) (X.G.eo f (w.getD b.z0)), .bool w.isSome]):=⟨[_,_],rfl,C,rfl,trivial⟩
  rcases i with i|i
  ·exact aeC (M:=X.G.M u g f) (a:=a) (z0:=b.z0) n l p b.K b.V b.az b.bx rfl i j.aS rfl s q (if_pos rfl) (dH.here j d h)
  ·exact aeB (M:=X.G.M u g f) (a:=a) (z0:=b.z0) n l p b.K b.V b.az b.bx rfl i rfl s q (if_pos rfl) (dH.here j d h)
 |false=>
  rw[if_neg (by simp)] at h;have d:rel X.G z vs (.c (b.pG (w.getD b.z0))) (ey (ek P f) (X.G.eo f (w.getD b.z0))):=C;rcases i with i|i
  ·exact aeC (M:=X.G.M u g f) (a:=a) (z0:=b.z0) n l p b.K b.V b.az b.bx rfl i j.aS rfl s q (if_neg (by simp)) (dH.here j d h)
  ·exact aeB (M:=X.G.M u g f) (a:=a) (z0:=b.z0) n l p b.K b.V b.az b.bx rfl i rfl s q (if_neg (by simp)) (dH.here j d h)
def adk {u g f i:Nat} {n:List (D g×D f)} {a:D g} {b:D f} {j:IP P X.G g f} {c:bc D} {d:cv D} {w:bS} (H:o.op= .mapUpdate t x y w\/o.op= .insert t x y w) (F:P.underlying t=J (.map g f)) (T:P.underlying u=J (.map g f)) (l:b9 X.G O z e m k vs)
  {Q:Bool} (A:O[i]? =J (.map u g f n ak Q)) (p:vs[i]? =J (bk fr x)) (I:rel X.G z vs c (bk fr y)) (U:ed X.G z vs d (bk fr w)) (S:j.qY c=J a) (E:j.tN d=J b)
  (h:(aF.lt (@o8 _ _ j.dec n a b) λC=>K .undef (O.set i (.map u g f C ak aa)))=J r):cH P (bk fr) o m λ_ v B=>dH X O z e k vs K r v B:=by
 letI Y:=j.dec
 obtain ⟨C,W,h⟩:=adC h;have s:jD (X.G.M u g f) z e m k n (bk fr x):=l.obj i _ _ A p;refine as7 (M:=X.G.M u g f) (a:=a) (b:=b) H F T j.K j.V rfl s rfl (j.wo z vs c a _ S I) rfl (j.y0 z vs d b _ E U) l.aS W λB R L Z=> ?_;have kI:dQ (bk fr x)=tH (bk fr x):=by obtain ⟨q,N,_⟩:=s.bT;rw[N];rfl
 exact BW l h A p rfl rfl (by grind) R L
def KJ {s:bc D} {g:af} {c:Nat×List (cv D)} {p:List (ba D)} (a:b9 X.G O z e m k vs) (x:rel X.G z vs s g) (h:vp O s=J (c,p)):∃u,Inv O p/\dT e.next z u/\b9 X.G p u e m k vs/\lU X.G u vs c.2 0 g:=by
 cases s with
 |hd t A r=>
  simp only[vp] at h;split at h
  ·rename_i n;subst n;cases h;exact ⟨z,Inv.refl _,dT.refl z,a,x⟩
  ·cases h
 |box i r=>
  simp only[vp] at h;obtain ⟨b,w,E⟩:=x;split at h
  ·rename_i t A bZ H f;split at h
   ·rename_i n;subst n;cases h;have y:=a.obj i _ _ f w;rw[E];cases bZ with
    |true=>
     obtain ⟨M,d,q,C,l⟩:=y;cases q;have:O.set i (.box t A aa H)=O:=by
      apply rv;intro j;rw[ll];split
      ·rename_i L;subst L;rw[f,if_pos (fq.1 f).1]
      ·rfl
     rw[this];exact ⟨z,Inv.refl _,dT.refl z,a,b,0,d,rfl,C,l⟩
    |false=>obtain ⟨M,d,q,P,K,l⟩:=y;cases q;obtain ⟨I,o,F,B,N⟩:=P.freeze K a.aS;have v:=pb.mono l o.le λ_ _ h=>h;exact ⟨I,Inv.set O i (.inl rfl),o,a.jT f w rfl rfl o.le F N ⟨b,d,rfl,B,v⟩,b,0,d,rfl,B,v⟩
   ·cases h
  ·cases h
 |_=>cases h
def aro {s:bc D} {r:ap} {v:af} {b:Mem} (h:dH X O z e k vs (V2 s K) r v b):dH X O z e k vs K r v b:=by
 unfold V2 at h;split at h
 ·obtain ⟨y,t,x,w,q,f,d,i,j,a⟩:=h;dsimp only at a;split at a
  ·rename_i c l g;obtain ⟨u,m,n,o,p⟩:=KJ i j g;exact ⟨u,t, .hd c.1 c.2 0,l,q.trans m,f.trans n,d,o,p,a⟩
  ·cases a
 ·exact h
def acT:∀{l:List (bc D)} {f:List af} {a:List (Nat×List (cv D))} {O b:List (ba D)} {z:Nat->bW},b9 X.G O z e m k vs->bP (rel X.G z vs) l f->Ch l O=J (a,b)->∃i,Inv O b/\dT e.next z i/\b9 X.G b i e m k vs/\bP (λc g=>lU X.G i vs c.2 0 g) a f
 |[],[],a,O,b,z,d,_,h=>by cases h;exact ⟨z,Inv.refl _,dT.refl z,d,trivial⟩
 |s::l,g::f,a,O,b,z,d,⟨y,p⟩,h=>by
  unfold Ch at h;split at h
  ·rename_i c C q;split at h
   ·rename_i r F o;cases h;obtain ⟨E,A,j,t,u⟩:=KJ d y q;obtain ⟨B,v,n,w,x⟩:=acT t (bP.mono (λ_ _ h=>rel.mono h j.le λ_ _ h=>h) p) o;exact ⟨B,A.trans v,j.trans n,w,lU.mono u n.le λ_ _ h=>h,x⟩
   grind
  grind
 |[],_::_,_,_,_,_,_,h,_=>h.elim
 |_::_,[],_,_,_,_,_,h,_=>h.elim
theorem w3 {a:List bS} (c:∀x,rel X.G z vs (dp E x) (bk fr x)):bP (rel X.G z vs) (a.map (dp E)) (a.map (bk fr)):=by
 induction a with
 |nil=>trivial
 |cons x a b=>exact ⟨c x,b⟩
def ass {s:bc D} {i:Nat} {v:af} (f:b9 X.G O z e m k vs) (h:T9 O s=J i) (a:rel X.G z vs s v):sQ vs i v:=by
 unfold T9 at h;split at h
 ·split at h
  ·split at h
   ·rename_i d;cases h;subst d;obtain ⟨b,g,c⟩:=a;exact ⟨by grind,b,c⟩
   grind
  grind
 grind
def ac9 (c:b9 X.G O z e m k vs):∀{l:List (bc D)} {b:List af} {a:List Nat},Cv O l=J a->bP (rel X.G z vs) l b->bP (sQ vs) a b
 |[],[],a,h,_=>by cases h;trivial
 |s::l,g::b,a,h,⟨n,d⟩=>by
  unfold Cv at h;split at h
  ·rename_i i o f j;cases h;exact ⟨ass c f n,ac9 c j d⟩
  grind
 |[],_::_,_,_,h=>h.elim
 |_::_,[],_,_,h=>h.elim
def arK {f:FuncId} {first a:Array bS} {i:List Nat} (j:o.op= .makeFunc (.func f) first a) (t:first.toList=[]) (d:b9 X.G O z e m k vs) (n:∀x,rel X.G z vs (dp E x) (bk fr x)) (l:Cv O (a.toList.map (dp E))=J i) (h:K (.c (.fn f i)) O=J r):
  cH P (bk fr) o m λ_ v q=>dH X O z e k vs K r v q:=by
 have g:=ac9 d l (w3 n);have s:first=#[]:=by grind
 subst s;have p:(a.map (bk fr)).toList.all storable=aa:=by
  rw[iA];intro v b;rw[ye] at b;have:=iA.1 (WR g) v b;unfold xr at this;split at this
  ·rfl
  grind
 exact j1 d h (aeG j rfl p) ⟨a.toList.map (bk fr),by congr 1;grind,g⟩
def asC {f:FuncId} {first cap:Array bS} {caps:List (Nat×List (cv D))} {cr:List (ba D)} (aM:o.op= .makeFunc (.func f) first cap) (bF:first.toList=[]) (aN:b9 X.G O z e m k vs) (bp:∀x,rel X.G z vs (dp E x) (bk fr x)) (ay:Ch (cap.toList.map (dp E)) O=J (caps,cr)) (h:K (.fn f caps) cr=J r):
  cH P (bk fr) o m λ_ v m'=>dH X O z e k vs K r v m':=by
 obtain ⟨dv,g0,g1,g2,g3⟩:=acT aN (w3 bp) ay;have wi:first=#[]:=by grind
 subst wi;have fb:(cap.map (bk fr)).toList.all storable=aa:=by
  rw[iA];intro v aD;rw[ye] at aD;have:∀(cs:List (Nat×List (cv D))) (gs:List af),bP (λc g=>lU X.G dv vs c.2 0 g) cs gs->∀v∈gs,storable v=aa:=by
   intro cs;induction cs with
   |nil=>intro gs bs v aD;cases gs with
    |nil=>grind
    |cons _ _=>exact bs.elim
   |cons c cs a1=>intro gs bs v aD;cases gs with
    |nil=>grind
    |cons g gs=>
     rcases List.mem_cons.1 aD with rfl|aD
     ·obtain ⟨b,iw,ds,he,_⟩:=bs.1;rw[he];rfl
     ·exact a1 gs bs.2 v aD
  grind
 refine cH.pure (aeG aM rfl fb) (dH.from g0 g1 (dH.here (dR:= .fn f caps) g2 ⟨cap.toList.map (bk fr), ?_,g3⟩ h));congr 1
 grind
end
end Go.aF
end
section
namespace Go.aF
section
variable {P:bI} {D:Nat->Type} {X:e3 P D} {ap:Type} {z z':Nat->bW} {e m m':Mem} {k:Option Nat} {vs:List af} {fr:Nat->af} {E:List (Nat×bc D)} {O:List (ba D)} {o:Oper} {r:ap}
variable {x y:bS} {t u:bV} {K:bc D->List (ba D)->Option ap}
theorem arP {l:Nat} {I:Array (Nat×bS)} (C:o.op= .buildSlice t l I) (i:b9 X.G O z e m k vs) (S:∀x,rel X.G z vs (dp E x) (bk fr x)) (h:XS X t l I.toList E O K=J r):cH P (bk fr) o m λ_ v A=>dH X O z e k vs K r v A:=by
 unfold XS at h;split at h
 ·rename_i F B;split at h
  ·rename_i t1 hu;split at h
   ·rename_i b oM;split at h
    ·rename_i n;refine Xn (T:=rD F) C B b.az b.bx rfl (by rw[b.h1];rfl) (by rw[b.h1];rfl) [] [] rfl rfl rfl (by rw[n];trivial) i.aS λg A s d u U=> ?_;have M:dQ g=da g:=hi (by obtain ⟨a,c,rfl⟩:=d.bT.len;grind);exact pA (v:=g) i s u (by grind) h ⟨λf q=>by cases q;exact ⟨b.cN,b.tid,b.aV⟩,_,d,rfl,λj w L V W _=>by grind,λp Q=>by grind⟩ (oi i d.bT.len)
    ·rename_i y n;split at h
     ·rename_i j R;split at h
      ·rename_i t2 L w hO;split at h
       ·rename_i Z;have D:=S y;rw[R] at D;obtain ⟨Y,H,N⟩:=D;refine Xn (T:=rD F) C B b.az b.bx rfl (by rw[b.h1];rfl) (by rw[b.h1];rfl) [bk fr y] [[bk fr y]] rfl rfl rfl (by rw[n];exact ⟨rfl,H,by grind,⟨rfl,H,N⟩,trivial⟩) i.aS λg A s d u U=> ?_;have M:dQ g=da g:=hi (by obtain ⟨a,c,rfl⟩:=d.bT.len;grind);refine pA (v:=g) i s u (by grind) h ⟨λf q=>by cases q;exact ⟨b.cN,b.tid,b.aV⟩,_,d,rfl,λj w L V W g3=> ?_,λp Q=> ?_⟩ (oi i d.bT.len)
        ·grind
        grind
       grind
      grind
     grind
    grind
   grind
  grind
 grind
def b9.afJ (h:b9 X.G O z e m k vs) (bx:fl z z') (aS:dL z' e m k) (bg:∀b,z b= .dead->z' b= .dead) (hk:∀(j:Nat) (q:ba D) (w:af),O[j]? =J q->vs[j]? =J w->q.live=aa->TC z z' (fV w)):b9 X.G O z' e m k vs where
 aS:=aS
 len:=h.len
 obj:=λj q w bn hw=>(h.obj j q w bn hw).jP bx (λaR b aw=>by
  have:=((h.obj j q w bn hw).lt aR b aw).2.1
  grind) λaR=>hk j q w bn hw aR
 fD:=h.fD
noncomputable def Ao (z:Nat->bW) (a e f d c:Nat):Nat->bW:=λb=>
 match z b with
 | .lock n j L t=>if a<=b/\n≠0/\n=e then .lock c j L t else if a<=b/\n≠0/\n=f then .lock c (d+j) L t else .lock n j L t
 |x=>x
theorem aem {a d f c e b:Nat} (h:∀n j L t,z b≠ .lock n j L t):Ao z a d f c e b=z b:=by
 grind [Ao]
theorem tK {a e f d c b n j:Nat} {L:List af} {t:bV} (h:z b= .lock n j L t):Ao z a e f d c b=if a<=b/\n≠0/\n=e then .lock c j L t else if a<=b/\n≠0/\n=f then .lock c (d+j) L t else .lock n j L t:=by
 grind [Ao]
def Xq {a:Type} {T:cM a} {b:List a} {v:af} (h:dU T z e m k b v) (f:b≠[]):fV v≠0:=by
 intro c;unfold fV at c;rcases h.bT with ⟨rfl,l⟩|⟨i,j,d,g,rfl,_⟩
 ·grind
 grind [da]
def ac2 {f:Type} {T:cM f} {I:f} {A:Tag->af->Mem->Prop} {q:bS->af} {i:TypeInfo} {kk G:aG} {n:Int} {v:af} {xs:List f} (h:o.op= .call {callee:= .builtin .append,args:=#[x,y],argTypes:=#[t,u]}) (K:P.underlying t=J (.slice T.tid)) (O:P.info? T.tid=J i) {j:af} (Y:i.zero=J j) (U:j.cells.toList.all dy=aa) (X:j.cells.size=i.size)
  (S:i.size=T.bM) (hh:(T.bM==0)=ak) (hp:iJ i.bytes 32768=aa) (hu:P.underlying u=J (.int kk)) (N:q x=v) (w:dU T z e m k xs v) (L:q y= .int G n) (V:T.rd z I j.cells.toList) (g:dL z e m k) {E r:List f} (hm:hy I n=J E) (D:cD xs E=J r)
  (Z:∀l d,dL z e d k->dU T z e d k r l->gl m d (da v)->(∀p,(∀b,p=J b->b<m.next)->e6 p (da v)->e6 p (da l))->A .fX l d):cH P q o m A:=by
 obtain ⟨Q,H,rfl⟩:=B3 hm;obtain ⟨c,rfl⟩:=sD Q;have F:0<T.bM:=by grind
 rw[sG] at D;obtain ⟨l,d,H,M,B,a⟩:=arV (C:=jn P 0) (k:=G) h K O Y U X S F (pk hp) hu N w.bT L V g.bZ g.dead D;refine cH.fX H (Z _ _ (g.same B w.bm) ⟨M,λb s=> ?_⟩ B λp F R b s W=> ?_)
 ·rcases a b s with a|a
  ·exact w.fresh b a
  ·have:=g.next;omega
 ·rcases a b W with a|a
  ·exact R b s a
  grind
theorem aqz {a b:bc D} (aM:o.op= .call {callee:= .builtin .append,args:=#[x,y],argTypes:=#[t,u]}) (hu:Xl (P.underlying u)=aa) (aN:b9 X.G O z e m k vs) (bl:rel X.G z vs a (bk fr x)) (aw:rel X.G z vs b (bk fr y)) (h:W8 X t a b O K=J r):cH P (bk fr) o m λ_ v m'=>dH X O z e k vs K r v m':=by
 have J0:∃kk,P.underlying u=J (.int kk):=by
  unfold Xl at hu
  grind
 obtain ⟨kk,J0⟩:=J0;unfold W8 at h;split at h
 ·rename_i bX cL n aJ;split at h
  ·rename_i ti iE;split at h
   ·rename_i bB;obtain ⟨xs,hm,h⟩:=bind_some h;have aV:cD ([]:List (D bX)) xs=J xs:=by
     obtain ⟨bR,h1,rfl⟩:=B3 hm
     grind [cD,uf]
    refine ac2 (T:=X.G.T bX) (xs:=[]) aM (by rw[ti.tid];grind) (by rw[ti.tid];exact ti.az) ti.bx ti.dw ti.et ti.cN ti.hh ti.hp J0 bl ⟨.inl ⟨rfl,rfl⟩,λb aw=>by cases aw⟩ aw (ti.GX z) aN.aS hm aV λcc m' fc bT gI fP=> ?_;have kI:dQ cc=da cc:=hi (by obtain ⟨a,c,rfl⟩:=bT.bT.len;grind);exact pA (v:=cc) aN fc gI (by rw[kI];exact λp bb=>fP p bb (by intro b aw e5;cases e5)) h bT (oi aN bT.bT.len)
   grind
  grind
 ·rename_i hE i cL n aJ;split at h
  ·rename_i cu U5;split at h
   ·rename_i bX t1 up oA dX rP;split at h
    ·rename_i eG oM;split at h
     ·rename_i he;subst he;obtain ⟨b4,hm,h⟩:=bind_some h;obtain ⟨q,bm,h⟩:=bind_some h;obtain ⟨dv,i1,U,ui⟩:=BZ aN U5;obtain ⟨aoa,Vk,rfl⟩:=B3 hm;have nD:=(tv bm).1;have aoH:=(tv bm).2;subst aoH;have rX:=bl.1;obtain ⟨zR,zS,jY⟩:=ui.obj i _ _ rP rX;have aod:hy (pr ae 0 0) n=J (gb n.toNat (pr ae 0 0)):=by
       grind [hy]
      have Vy:cD zS (gb n.toNat (pr ae 0 0))=J (zS++gb n.toNat (pr ae 0 0)):=by unfold cD;rw[jY.len,IL,if_pos (by grind)]
      refine ac2 (T:=rD bX) aM aJ eG.az eG.bx rfl (by rw[eG.h1];rfl) (by rw[eG.h1];rfl) rfl eG.hp J0 rfl jY.bT aw ⟨rfl,rfl,rfl⟩ ui.aS aod Vy λcc m' fc bT gI fP=> ?_;have aaz:dQ (bk fr x)=da (bk fr x):=hi (by obtain ⟨a,c,cp⟩:=jY.bT.bT.len;grind);have kI:dQ cc=da cc:=hi (by obtain ⟨a,c,rfl⟩:=bT.bT.len;grind);have TD:=ui.pF (o':= .dead) rP rX rfl (by grind) fc trivial;have left:∀(l:Nat) (p:ba D) (w:af),(cu.set i (.dead:ba D))[l]? =J p->vs[l]? =J w->p.live=aa->cu[l]? =J p/\l≠i:=by
       intro l p w aR hw bb;rw[ll] at aR;split at aR
       ·split at aR
        ·cases aR;cases bb
        grind
       grind
      generalize qd:Ao dv e.next (fV (bk fr x)) 0 oA.length (fV cc)=z3;have Z9:∀b,(∀n j L t,dv b≠ .lock n j L t)->z3 b=dv b:=λb cp=>by rw[<-qd];grind [aem]
      have hle:fl dv z3:=λb bF=>Z9 b λn j L t cp=>by rw[cp] at bF;exact bF
      have mU:∀b,dv b= .dead->z3 b= .dead:=λb bg=>by grind
      have BA:dT e.next dv z3:=⟨hle,λb cF=>by
       cases bx:dv b with
       |lock n j L t=>rw[<-qd,tK bx,if_neg (by omega),if_neg (by omega)]
       |_=>grind⟩
      have fb:dL z3 e m' k:=⟨λb aw=>by
       cases bx:dv b with
       |lock n j L t=>
        have br:=fc.bZ b (by grind);rw[bx] at br;rw[<-qd,tK bx];split
        ·exact br
        grind
       |_=>
        have aT:=Z9 b (λn j L t cp=>by rw[bx] at cp;cases cp);rw[aT] at aw⊢;exact fc.bZ b aw,fc.dead,fc.oL,fc.next,fc.kept⟩
      have AE:=TD.afJ hle fb mU λl p w aR hw bb b c6 L eu s8=>by
       obtain ⟨h1,ai⟩:=left l p w aR hw bb;have ne:fV w≠0->fV w≠fV (bk fr x):=by
        intro n1;have fP:=ui.fD l i _ _ _ _ ai h1 rP bb rfl hw rX
        grind [WT,hi,LI]
       rw[<-qd,tK s8,s8,if_neg λcp=>ne cp.2.1 cp.2.2,if_neg λcp=>cp.2.1 cp.2.2]
      have nE:hf X.G z3 e m' k (vs++[cc]) (.nest bX t1 up (oA++gb n.toNat []) ae ak:ba D) cc:=by
       refine ⟨zR,_,bT.jP hle (λb aw=>mU b (bT.bT.lt b aw).2▸((bT.bT.lt b aw).2).symm),by rw[sI,sI,jY.len,IL,IL],λl w xs g1 g2 _=> ?_,λp bb=>by grind⟩;by_cases aR:l<oA.length
       ·rw[kS (by rw[jY.len];grind)] at g1;rw[kS aR] at g2;rcases jY.oU l w xs g1 g2 (λp bb=>by grind) with cp|⟨b,f0,L,c,fv,fQ,kb,nb,r8,q0⟩
        ·exact .inl cp
        ·have bR:=Xq jY.bT (λcp=>by grind);refine .inr ⟨b,f0,L,c,fv,by rw[<-qd,tK fQ,if_pos ⟨kb,bR,rfl⟩],kb,nb,r8,λi x az=> ?_⟩;obtain ⟨cs,oq,o9⟩:=q0 i x az;exact ⟨cs,(X.G.T t1).mono _ _ hle _ _ oq,o9⟩
       ·rw[kT (by rw[jY.len];omega)] at g1;rw[kT (by omega)] at g2;have h1:=mM g1;have ai:=mM g2;exact .inl ⟨ym h1,ym ai⟩
      have TE:=AE.V4 nE λ_ l p w aR bb hw=>by
       obtain ⟨h1,ai⟩:=left l p w aR hw bb;rw[kI];refine fP _ (λb aw=>((ui.obj l p w h1 hw).lt bb b aw).1) ?_;have:=ui.fD l i _ _ _ _ ai h1 rP bb rfl hw rX
       grind
      have an1:(cu.set i (.dead:ba D)).length=cu.length:=by simp
      refine ⟨z3,vs++[cc],_,_,i1.trans ((Inv.set cu i (.inl rfl)).trans (Inv.push _ _)),U.trans BA,j0,TE, ?_,h⟩;have:=oi AE bT.bT.len
      grind
     grind
    grind
   grind
  grind
 grind
theorem ard {i:Nat} {b:bc D} (aM:o.op= .call {callee:= .builtin .append,args:=#[x,y],argTypes:=#[t,u]}) (aN:b9 X.G O z e m k vs) (bl:rel X.G z vs (.c (.own i)) (bk fr x)) (aw:rel X.G z vs b (bk fr y)) (h:Xx X t u i b O K=J r):cH P (bk fr) o m λ_ v m'=>dH X O z e k vs K r v m':=by
 unfold Xx at h;split at h
 ·rename_i hE azd aJ hu;split at h
  ·rename_i j;split at h
   ·grind
   ·rename_i hq;have hq:i≠j:=λcp=>hq (by simp_all);split at h
    ·rename_i cu U5;split at h
     ·rename_i dz anL;split at h
      ·rename_i bX t1 up oA dX e2 t2 awm Ha ix rP UR;split at h
       ·rename_i eG oM;split at h
        ·rename_i eB;subst eB;split at h
         ·rename_i he;obtain ⟨rfl,rfl⟩:=he;obtain ⟨q,bm,h⟩:=bind_some h;have bm:cD oA Ha=J q:=bm;obtain ⟨dv,i1,U,ui⟩:=BZ aN U5;obtain ⟨z2,i2,ag,M2⟩:=BZ ui anL;obtain ⟨nD,rfl⟩:=tv bm;have rX:=bl.1;have qU:=aw.1;obtain ⟨zR,zS,jY⟩:=M2.obj i _ _ rP rX;obtain ⟨_,aE,oX⟩:=M2.obj j _ _ UR qU;have Vy:cD zS aE=J (zS++aE):=by
           unfold cD;rw[jY.len,oX.len,if_pos nD]
          refine K3 (T:=rD e2) aM aJ eG.az eG.bx rfl (by rw[eG.h1];rfl) (by rw[eG.h1];rfl) rfl eG.hp (.inl ⟨_,hu⟩) rfl jY.bT rfl oX.bT.bT.src M2.aS Vy λcc m' fc bT gI fP=> ?_;have aaz:dQ (bk fr x)=da (bk fr x):=hi (by obtain ⟨a,c,cp⟩:=jY.bT.bT.len;grind);have UU:dQ (bk fr y)=da (bk fr y):=hi (by obtain ⟨a,c,cp⟩:=oX.bT.bT.len;grind);have kI:dQ cc=da cc:=hi (by obtain ⟨a,c,rfl⟩:=bT.bT.len;grind);have anm:=M2.fD i j _ _ _ _ hq rP UR rfl rfl rX qU;rw[aaz,UU] at anm;have TD:=M2.pF (o':= .dead) rP rX rfl (by grind) fc trivial;have ane:(dz.set i (.dead:ba D))[j]? =J (.nest e2 t2 awm Ha ae ix):=by grind
          have af5:=TD.pF (m':=m') (o':= .dead) ane qU rfl ⟨e4 _,fc.dead,λ_ _ _=>rfl⟩ fc trivial;have left:∀(l:Nat) (p:ba D) (w:af),((dz.set i (.dead:ba D)).set j .dead)[l]? =J p->vs[l]? =J w->p.live=aa->dz[l]? =J p/\l≠i/\l≠j:=by
           intro l p w aR hw bb;rw[ll] at aR;split at aR
           ·split at aR
            ·cases aR;cases bb
            grind
           ·rename_i h1;rw[ll] at aR;split at aR
            ·split at aR
             ·cases aR;cases bb
             grind
            grind
          generalize qd:Ao z2 e.next (fV (bk fr x)) (fV (bk fr y)) oA.length (fV cc)=z3;have bX:∀b,(∀n j L t,z2 b≠ .lock n j L t)->z3 b=z2 b:=λb cp=>by rw[<-qd];grind [aem]
          have hle:fl z2 z3:=λb bF=>bX b λn j L t cp=>by rw[cp] at bF;exact bF
          have mU:∀b,z2 b= .dead->z3 b= .dead:=λb bg=>by grind
          have BA:dT e.next z2 z3:=⟨hle,λb cF=>by
           cases bx:z2 b with
           |lock n j L t=>rw[<-qd,tK bx,if_neg (by omega),if_neg (by omega)]
           |_=>grind⟩
          have fb:dL z3 e m' k:=⟨λb aw=>by
           cases bx:z2 b with
           |lock n j L t=>
            have br:=fc.bZ b (by grind);rw[bx] at br;rw[<-qd,tK bx];split
            ·exact br
            ·split
             ·exact br
             grind
           |_=>
            have aT:=bX b (λn j L t cp=>by rw[bx] at cp;cases cp);rw[aT] at aw⊢;exact fc.bZ b aw,fc.dead,fc.oL,fc.next,fc.kept⟩
          have AE:=af5.afJ hle fb mU λl p w aR hw bb b c6 L eu s8=>by
           obtain ⟨h1,ai,aT⟩:=left l p w aR hw bb;have ne:∀{ez:af} {u3:Nat} {u9:ba D},l≠u3->dz[u3]? =J u9->u9.live=aa->vs[u3]? =J ez->(∀r,ez≠ .map r)->fV w≠0->fV w≠fV ez:=by
            intro ez u3 u9 gT br cK fJ jH n1;have fP:=M2.fD l u3 _ _ _ _ gT h1 br bb cK hw fJ;by_cases aba:∃r,w= .map r
            ·obtain ⟨r,rfl⟩:=aba;exact absurd WT n1
            ·rw[hi (λr aV=>aba ⟨r,aV⟩),hi jH] at fP
             grind [LI]
           have m1:∀r,bk fr x≠ .map r:=by obtain ⟨a,c,cp⟩:=jY.bT.bT.len;grind
           have m2:∀r,bk fr y≠ .map r:=by obtain ⟨a,c,cp⟩:=oX.bT.bT.len;grind
           rw[<-qd,tK s8,s8,if_neg λcp=>ne ai rP rfl rX m1 cp.2.1 cp.2.2,if_neg λcp=>ne aT UR rfl qU m2 cp.2.1 cp.2.2]
          have nE:hf X.G z3 e m' k (vs++[cc]) (.nest e2 t2 up (oA++Ha) ae ak:ba D) cc:=by
           refine ⟨zR,zS++aE,bT.jP hle (λb aw=>mU b (bT.bT.lt b aw).2▸((bT.bT.lt b aw).2).symm),by rw[sI,sI,jY.len,oX.len],λl w xs g1 g2 _=> ?_,λp bb=>by grind⟩;by_cases aR:l<oA.length
           ·rw[kS (by rw[jY.len];grind)] at g1;rw[kS aR] at g2;rcases jY.oU l w xs g1 g2 (λp bb=>by grind) with cp|⟨b,f0,L,c,fv,fQ,kb,nb,r8,q0⟩
            ·exact .inl cp
            ·have bR:=Xq jY.bT (λcp=>by grind);refine .inr ⟨b,f0,L,c,fv,by rw[<-qd,tK fQ,if_pos ⟨kb,bR,rfl⟩],kb,nb,r8,λi x az=> ?_⟩;obtain ⟨cs,oq,o9⟩:=q0 i x az;exact ⟨cs,(X.G.T t2).mono _ _ hle _ _ oq,o9⟩
           ·rw[kT (by rw[jY.len];omega),jY.len] at g1;rw[kT (by omega)] at g2;rcases oX.oU (l - oA.length) w xs g1 g2 (λp bb=>by grind) with cp|⟨b,f0,L,c,fv,fQ,kb,nb,r8,q0⟩
            ·exact .inl cp
            ·have bR:=Xq oX.bT (λcp=>by grind);have gT:fV (bk fr y)≠fV (bk fr x):=by
              grind [LI]
             refine .inr ⟨b,f0,L,c,fv,by rw[<-qd,tK fQ,if_neg (λcp=>gT cp.2.2),if_pos ⟨kb,bR,rfl⟩,show oA.length+(l - oA.length)=l by omega],kb,nb,r8,λi x az=> ?_⟩;obtain ⟨cs,oq,o9⟩:=q0 i x az;exact ⟨cs,(X.G.T t2).mono _ _ hle _ _ oq,o9⟩
          have TE:=AE.V4 nE λ_ l p w aR bb hw=>by
           obtain ⟨h1,ai,aT⟩:=left l p w aR hw bb;rw[kI];refine fP _ (λb aw=>((M2.obj l p w h1 hw).lt bb b aw).1) ?_;have:=M2.fD l i _ _ _ _ ai h1 rP bb rfl hw rX
           grind
          have an1:((dz.set i (.dead:ba D)).set j .dead).length=dz.length:=by simp
          refine ⟨z3,vs++[cc],_,_,(i1.trans i2).trans ((Inv.set dz i (.inl rfl)).trans ((Inv.set _ j (.inl rfl)).trans (Inv.push _ _))),(U.trans ag).trans BA,j0,TE, ?_,h⟩;have:=oi AE bT.bT.len
          grind
         grind
        grind
       grind
      grind
     grind
    grind
  grind
 grind
end
end Go.aF
end
