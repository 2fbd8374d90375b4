import Derived.MapKept
import Derived.Laws.StructEq
import Derived.Below
import Derived.Deep.Slices
import Derived.Test.YtfmpkhcaifbonaaGreatDoorMa
set_option linter.unusedSimpArgs false
set_option linter.unusedVariables false
open Array renaming ext'->auJ,getElem?_eq_some_iff->auI,toList_map->auA
open Bool renaming and_eq_true->ati,false->as9,true->as5
open Go renaming IntKind->as',Operand->atd,Program->atb,TypeId->atc,Value->as7
open Go.DataW renaming trod->auS
open Go.MapKept renaming IsKey->avt
open Go.Program renaming cellsOf->auv
open Go.Region renaming before->atI
open Go.Result renaming andThen_ok->atz
open Go.Sem renaming run_bind->atE
open Go.Value renaming cells->au3,int->aul,okWide->avu,slice->atZ
open Go.World renaming block_lt_of_cell?->avg
open Int renaming eq_ofNat_of_zero_le->auF,toNat_natCast->auc
open List renaming all_cons->atX,all_eq_true->atq,append_nil->auY,eq_nil_of_length_eq_zero->aui,ext_getElem?->auw,flatten_cons->avk,getElem?_append->avn,getElem?_append_left->atN,getElem?_append_right->atM,getElem?_eq_getElem->atS,getElem?_eq_some_iff->atp,getElem?_map->aub,getElem?_set->atQ,length_append->aua,length_replicate->avD,length_set->aur,map_cons->aud,mem_map->atw,mem_of_getElem?->at3,range->atW,replicate->att,replicate_succ->avO
open Nat renaming add_assoc->atY,add_mul->atJ,beq->ath,ble->atn,blt->aty,le_of_ble_eq_true->ato,le_refl->atk,le_succ->atG,le_trans->atx,lt_of_lt_of_le->atu,mul_le_mul->avr,mul_le_mul_right->aug,zero_add->atB
open Option renaming bind->as8,getD_some->avq,isSome->avs,some->atj,none->as6,some->as4
open True renaming intro->atm
open UInt8 renaming ofNat->auu
section
namespace Go.ay
def aD {aB:Type} (xs:List aB) (i:Int):Option aB:=if 0<=i then xs[i.toNat]? else as6
theorem m1 {aB:Type} {xs:List aB} {i:Int} {x:aB} (h:aD xs i=as4 x):0<=i/\i<xs.length/\xs[i.toNat]? =as4 x:=by
 grind [aD]
def ZR (z:Nat->bm) (p:as7) (cs:List as7):Prop:=∃b o,p= .pointer (as4 ⟨b,o,as6⟩)/\mW z b o cs
def QF (m:Mem) (p:as7) (cs:List as7):Prop:=∃b o,p= .pointer (as4 ⟨b,o,as6⟩)/\∀(i:Nat) (u:as7),cs[i]? =as4 u->m.load b (o+i)=as4 u
section
variable {P:atb} {af:atd->as7} {o:Oper} {aB:Type} {T:cr aB} {z:Nat->bm} {m:Mem} {xs:List aB} {v:as7} {x y:atd} {t e u:atc} {i:TypeInfo} {d:TypeDesc}
theorem F4 {b:Nat}:∀(n off:Nat) (cs:List as7),cs.length=n->(∀(i:Nat) (u:as7),cs[i]? =as4 u->m.load b (off+i)=as4 u)->fK m b off n=as4 cs
 |0,off,cs,ax,_=>by rw[aui ax];rfl
 |n+1,off,c::cs,ax,h=>by
  have bg:=h 0 c (by rfl);have aq:=F4 n (off+1) cs (by grind) fun i u aj=>by have:=h (i+1) u (by grind);rw[show off+1+i=off+(i+1) by omega];omega
  grind [fK]
 |n+1,off,[],ax,_=>by grind
theorem afD {k:as'} {n:Int} {a:aB} (h:o.op= .indexAddr t x y) (au:P.underlying t=as4 (.slice e)) (aj:P.info? e=as4 i) (b6:i.size=T.a9) (ad:af x=v) (aJ:af y= .int k n) (aE:eC T z xs v) (a5:aD xs n=as4 a):
  ∃p cs,cX P af o p/\T.rd z a cs/\ZR z p cs:=by
 obtain ⟨bg,U,aa⟩:=m1 a5;rcases aE with ⟨_,rfl⟩|⟨b,off,c,rfl,_,_,aN⟩
 ·grind
 ·obtain ⟨cs,aU,aO⟩:=aN _ a aa;exact ⟨_,cs, .indexAddr t x y e i b off _ c k n h au aj ad aJ bg U,aU,b,_,rfl,by grind⟩
def Z7 (s:Nat) (v:as7) (n:Nat) (p:as7):Prop:=∃b f0 l c,v= .slice (as4 ⟨b,f0,as6⟩) l c/\p= .pointer (as4 ⟨b,f0+n*s,as6⟩)
theorem afC {k:as'} {n:Int} {a:aB} (h:o.op= .indexAddr t x y) (au:P.underlying t=as4 (.slice e)) (aj:P.info? e=as4 i) (b6:i.size=T.a9) (ad:af x=v) (aJ:af y= .int k n) (aE:e9 T z m xs v) (a5:aD xs n=as4 a):
  ∃p cs,cX P af o p/\T.rd z a cs/\QF m p cs/\Z7 T.a9 v n.toNat p:=by
 obtain ⟨bg,U,aa⟩:=m1 a5;rcases aE with ⟨_,rfl⟩|⟨b,f0,L,c,rfl,ag,_,_,ax,_,aN⟩
 ·grind
 ·obtain ⟨cs,aU,aO⟩:=aN _ a aa;refine ⟨_,cs, .indexAddr t x y e i b f0 _ c k n h au aj ad aJ bg U,aU,⟨b,_,rfl,fun j u a0=> ?_⟩,⟨b,f0,_,c,rfl,by grind⟩⟩;simp only[Mem.load,ag,b6];exact aO j u a0
def hj {aB:Type} (xs:List aB) (a b:Int):Option (List aB):=if 0<=a/\a<=b/\b<=xs.length then as4 ((xs.take b.toNat).drop a.toNat) else as6
theorem On {xs:List aB} {a b:Int} {r:List aB} (h:hj xs a b=as4 r):0<=a/\a<=b/\b<=xs.length/\r=(xs.take b.toNat).drop a.toNat:=by
 grind [hj]
def wb (af:atd->as7) (bD:Option atd) (n:Int):Prop:=
 match bD with
 |none=>n=0
 |some y=>∃k,af y= .int k n
def wY (af:atd->as7) (aj:Option atd) (l:Nat) (n:Int):Prop:=
 match aj with
 |none=>n=l
 |some y=>∃k,af y= .int k n
theorem FE {af:atd->as7} {bD:Option atd} {n:Nat} (h:wb af bD n):nM af bD n:=by
 cases bD with
 |none=>grind [wb,nM]
 |some y=>exact h
theorem Ft {af:atd->as7} {aj:Option atd} {l n:Nat} (h:wY af aj l n):lq af aj l n:=by
 cases aj with
 |none=>grind [wY,lq]
 |some y=>exact h
theorem FL {xs:List aB} {a b k:Nat} {r:aB} (h:((xs.take b).drop a)[k]? =as4 r):xs[a+k]? =as4 r:=by
 grind
theorem XZ {P:atb} {C:FuncId->Array as7->Mem->as7->Mem->Prop} {b off:Nat} {L cs:List as7} (h:o.op= .store t x y) (aj:P.info? t=as4 i) (ad:af x= .pointer (as4 ⟨b,off,as6⟩)) (hm:m.aS b= .own L e) (ab:storable (af y)=as5) (h3:(af y).cells.toList=cs) (aE:cs.length=i.size) (ax:off+cs.length<=L.length):
  gI P C af o m undef (m.put b (.own (e1 L off cs) e)):=by
 subst h3;exact .store t x y b off i L e h ad aj hm ab (by grind) (by grind)
theorem yX {b:Nat} {x:bm} (aQ:∀b,m.next<=b->m.aS b= .dead) (ag:b<m.next):fD m (m.put b x) (as4 b):=by
 refine ⟨atk _,fun c ah=> ?_,fun c ah ar=> ?_⟩
 ·grind [Mem.put]
 grind [Mem.put]
theorem yS {x:bm} (aQ:∀b,m.next<=b->m.aS b= .dead):fD m (m.push x) as6:=by
 refine ⟨atG _,fun c ah=> ?_,fun c ah _=> ?_⟩
 ·grind [Mem.push]
 grind [Mem.push]
theorem e9.same {m':Mem} {q:Option Nat} (h:e9 T z m xs v) (s:fD m m' q) (fg:eB (cY v) q):e9 T z m' xs v:=
 h.frame fun b ag bS=>⟨s.aS b bS (fun bb=>fg b ag bb),atu bS s.next⟩
theorem aif {m':Mem} {q:Option Nat} {b:Nat} {X:bm} (h:m.aS b=X) (ag:b<m.next) (s:fD m m' q) (fg:q≠as4 b):m'.aS b=X/\b<m'.next:=⟨by rw[s.aS b ag fg];exact h,atu ag s.next⟩
theorem e9.store {n:Nat} {a a':aB} {cs cs':List as7} {f:Nat} {new:List as7} {b f0 l c:Nat} (aE:e9 T z m xs v) (aQ:∀b,m.next<=b->m.aS b= .dead) (ab:v= .slice (as4 ⟨b,f0,as6⟩) l c) (aY:xs[n]? =as4 a) (aF:T.rd z a cs) (ah:QF m (.pointer (as4 ⟨b,f0+n*T.a9,as6⟩)) cs) (lf:T.rd z a' cs') (h3:cs'=e1 cs f new) (bd:f+new.length<=cs.length):
  ∃L,m.aS b= .own L T.tid/\f0+n*T.a9+f+new.length<=L.length/\e9 T z (m.put b (.own (e1 L (f0+n*T.a9+f) new) T.tid)) (xs.set n a') v/\fD m (m.put b (.own (e1 L (f0+n*T.a9+f) new) T.tid)) (as4 b):=by
 rcases aE with ⟨rfl,_⟩|⟨cR,f1,L,bP,ua,ag,bS,a4,ax,iy,me⟩
 ·grind
 ·subst ab;simp only[atZ.injEq,atj.injEq,Addr.mk.injEq,and_true] at ua;obtain ⟨⟨rfl,rfl⟩,rfl,rfl⟩:=ua;have a2:n<xs.length:=(atp.1 aY).1;have hlen:=T.len z a cs aF;have Ur:=T.len z a' cs' lf;have sn:f0+n*T.a9+T.a9<=L.length:=by
   have:(n+1)*T.a9<=xs.length*T.a9:=aug _ a2
   grind
  have cV:(e1 L (f0+n*T.a9+f) new).length=L.length:=mZ _ _ _;refine ⟨L,ag,by omega, .inr ⟨b,f0,e1 L (f0+n*T.a9+f) new,c,by simp,by simp[Mem.put],bS,a4,by grind,by grind,fun k w ar=> ?_⟩,yX aQ bS⟩;rw[atQ] at ar;by_cases nD:n=k
  ·subst nD;simp[a2] at ar;subst ar;refine ⟨cs',lf,fun q u bb=> ?_⟩;have UD:=(atp.1 bb).1;rw[h3,oz _ _ _ _ bd] at bb;rw[oz _ _ _ _ (by omega)];by_cases od:f<=q/\q<f+new.length
   ·rw[if_pos od] at bb;rw[if_pos (by omega),show f0+n*T.a9+q - (f0+n*T.a9+f)=q - f by omega];grind
   ·rw[if_neg od] at bb;rw[if_neg (by omega)];obtain ⟨h1,mm,aL,arL⟩:=ah
    grind [Mem.load]
  ·rw[if_neg nD] at ar;obtain ⟨Tt,aU,aO⟩:=me k w ar;refine ⟨Tt,aU,fun q u bb=> ?_⟩;have UD:=(atp.1 bb).1;rw[T.len z w Tt aU] at UD;rw[oz _ _ _ _ (by omega)];have qX:¬(f0+n*T.a9+f<=f0+k*T.a9+q/\f0+k*T.a9+q<f0+n*T.a9+f+new.length):=by
    rcases Nat.lt_or_gt_of_ne nD with ct|ct
    ·have:(n+1)*T.a9<=k*T.a9:=aug _ ct
     grind
    ·have:(k+1)*T.a9<=n*T.a9:=aug _ ct
     grind
   rw[if_neg qX];exact aO q u bb
end
end Go.ay
end
section
namespace Go.ay
def qH:Nat:=4294967296
def cl {aB:Type} (xs b1:List aB):Option (List aB):=if xs.length+b1.length<=qH then as4 (xs++b1) else as6
theorem rn {aB:Type} {xs b1 r:List aB} (h:cl xs b1=as4 r):xs.length+b1.length<=qH/\r=xs++b1:=by
 grind [cl]
def iM {aB:Type} (x:aB) (n:Int):Option (List aB):=if 0<=n/\n<=4294967296 then as4 (att n.toNat x) else as6
theorem y8 {aB:Type} {x:aB} {n:Int} {r:List aB} (h:iM x n=as4 r):0<=n/\n<=4294967296/\r=att n.toNat x:=by
 grind [iM]
def e7 (n:Int):Option UInt8:=if 0<=n/\n<256 then as4 (auu n.toNat) else as6
theorem Wv {n:Int} {u:UInt8} (h:e7 n=as4 u):n=u.toNat:=by
 unfold e7 at h;split at h
 ·rename_i ah;cases h;simp;omega
 grind
def tx (a b:Int):Option Int:=if b=0 then as6 else as4 (a.tdiv b)
def nG (a b:Int):Option Int:=if b=0 then as6 else as4 (a.tmod b)
theorem ahm {a b r:Int} (h:tx a b=as4 r):b≠0/\r=a.tdiv b:=by
 grind [tx]
theorem Wg {a b r:Int} (h:nG a b=as4 r):b≠0/\r=a.tmod b:=by
 grind [nG]
def lt {aB bK:Type} (x:aB) (f:aB->Option bK):Option bK:=f x
theorem Xp {aB bK:Type} {x:aB} {f:aB->Option bK} {r:bK} (h:lt x f=as4 r):∃y,x=y/\f y=as4 r:=⟨x,rfl,h⟩
theorem bind_some {aB bK:Type} {x:Option aB} {f:aB->Option bK} {r:bK} (h:x.bind f=as4 r):∃y,x=as4 y/\f y=as4 r:=Option.bind_eq_some_iff.1 h
def js (t:atc):cr UInt8:=cr.flat t (fun u=> .int .u8 u.toNat) fun _=>rfl
section
variable {P:atb} {C:FuncId->Array as7->Mem->as7->Mem->Prop} {af:atd->as7} {o:Oper} {aB:Type} {T:cr aB} {z:Nat->bm} {m:Mem} {xs b1:List aB} {v w:as7} {x y:atd} {t e u:atc} {i:TypeInfo} {d:TypeDesc}
def Src (T:cr aB) (z:Nat->bm) (m:Mem) (b1:List aB) (w:as7):Prop:=
 hP w=b1.length/\∃cs,iY m T.a9 w=as4 cs/\cs.length=b1.length*T.a9/\∀(i:Nat) (y:aB),b1[i]? =as4 y->∃c,T.rd z y c/\mX cs (i*T.a9) c
theorem XS {m:Mem} {b:Nat}:∀(n off:Nat) (f:Nat->as7),(∀i,i<n->m.load b (off+i)=as4 (f i))->fK m b off n=as4 ((atW n).map f)
 |0,off,f,_=>rfl
 |n+1,off,f,h=>by
  have bg:=h 0 (by omega);have aq:=XS n (off+1) (fun i=>f (i+1)) fun i aj=>by rw[show off+1+i=off+(i+1) by omega];exact h (i+1) (by omega)
  simp_all [fK,List.range_succ_eq_map]
theorem Pu {b off c:Nat} (h:∀(i:Nat) (y:aB),b1[i]? =as4 y->∃cs,T.rd z y cs/\∀(k:Nat) (u:as7),cs[k]? =as4 u->m.load b (off+i*T.a9+k)=as4 u):Src T z m b1 (.slice (as4 ⟨b,off,as6⟩) b1.length c):=by
 have ar2:∀k,k<b1.length*T.a9->∃u,m.load b (off+k)=as4 u:=by
  intro k ar;have gA:0<T.a9:=by
   grind
  have bb:k / T.a9<b1.length:=Nat.div_lt_of_lt_mul (by grind);obtain ⟨cs,U,aa⟩:=h (k / T.a9) b1[k / T.a9] (by grind);have hlen:=T.len z _ cs U;have aF:k%T.a9<cs.length:=by simp_all [Nat.mod_lt]
  refine ⟨cs[k%T.a9], ?_⟩;have:=aa (k%T.a9) _ (atS aF)
  grind [Nat.div_add_mod]
 let f:Nat->as7:=fun k=>(m.load b (off+k)).getD undef
 have bd:∀k,k<b1.length*T.a9->m.load b (off+k)=as4 (f k):=fun k ar=>by
  grind
 refine ⟨rfl,(atW (b1.length*T.a9)).map f,XS _ _ _ bd,by simp,fun i y aJ=> ?_⟩;obtain ⟨cs,U,aa⟩:=h i y aJ;refine ⟨cs,U,fun k u ar=> ?_⟩;have sq:=(atp.1 ar).1;rw[T.len z y cs U] at sq;have Uk:=(atp.1 aJ).1;have bS:i*T.a9+k<b1.length*T.a9:=by
  have:(i+1)*T.a9<=b1.length*T.a9:=aug _ Uk
  grind
 grind
theorem eC.src (h:eC T z b1 w) (a4:jU z m):Src T z m b1 w:=by
 rcases h with ⟨rfl,rfl⟩|⟨b,off,c,rfl,_,_,aN⟩
 ·exact ⟨rfl,[],rfl,by simp,fun i y aJ=>by grind⟩
 ·exact Pu fun i y aJ=>by obtain ⟨cs,aU,aO⟩:=aN i y aJ;exact ⟨cs,aU,fun k u ar=>OG a4 (aO k u ar)⟩
theorem e9.src (h:e9 T z m b1 w):Src T z m b1 w:=by
 rcases h with ⟨rfl,rfl⟩|⟨b,f0,L,c,rfl,ag,_,_,_,_,aN⟩
 ·exact ⟨rfl,[],rfl,by simp,fun i y aJ=>by grind⟩
 ·exact Pu fun i y aJ=>by obtain ⟨cs,aU,aO⟩:=aN i y aJ;exact ⟨cs,aU,fun k u ar=>by simp only[Mem.load,ag];exact aO k u ar⟩
theorem aoi {tid:atc} (s:List UInt8):Src (js tid) z m s (str s):=by
 refine ⟨by rfl,s.map fun u=> .int .u8 u.toNat,by rfl,by simp[js,cr.flat],fun i y aJ=> ?_⟩;refine ⟨[.int .u8 y.toNat],rfl,fun k u ar=> ?_⟩
 grind [js,cr.flat]
theorem fD.kill {b:Nat} {X:bm} (aQ:∀b,m.next<=b->m.aS b= .dead) (ag:b<m.next):fD m ((m.put b .dead).push X) (as4 b):=by
 have U:=yX (m:=m) (x:= .dead) aQ ag;refine ⟨atG _,fun c ah=> ?_,fun c ah ar=> ?_⟩
 ·have e:((m.put b .dead).push X).aS c=if c=m.next then X else (if c=b then .dead else m.aS c):=rfl
  have ah:m.next+1<=c:=ah
  grind
 ·have e:((m.put b .dead).push X).aS c=if c=m.next then X else (if c=b then .dead else m.aS c):=rfl
  grind
theorem Wu {cs:List as7} (h:o.op= .call {callee:= .builtin .append,args:=#[x,y],argTypes:=#[t,u]}) (au:P.underlying t=as4 (.slice T.tid)) (aj:P.info? T.tid=as4 i) {cN:as7} (gR:i.zero=as4 cN) (da:cN.cells.toList.all cQ=as5) (dU:cN.cells.size=i.size)
  (b6:i.size=T.a9) (gA:0<T.a9) (MH:(xs.length+b1.length)*i.bytes<=140737488355328) (lP:xs.length+b1.length<=140737488355328) (ad:af x=v) (aE:e9 T z m xs v) (dW:qA P m u i (af y) b1.length cs) (nC:cs.length=b1.length*T.a9) (ez:∀(i:Nat) (y:aB),b1[i]? =as4 y->∃c,T.rd z y c/\mX cs (i*T.a9) c)
  (a4:jU z m) (aQ:∀b,m.next<=b->m.aS b= .dead):
  ∃bH m',gI P C af o m bH m'/\e9 T z m' (xs++b1) bH/\fD m m' (cY v)/\∀b,cY bH=as4 b->cY v=as4 b\/m.next<=b:=by
 have vR:=MH;have Ux:xs.length+b1.length<9223372036854775807:=by omega
 have vT:cs.length=b1.length*i.size:=by grind
 have o1:z m.next= .dead:=by
  cases p2:z m.next with
  |dead=>rfl
  |ro rd=>have:=(a4 m.next (by grind)).2;omega
  |own L t=>have:=(a4 m.next (by grind)).2;omega
  |map L t=>have:=(a4 m.next (by grind)).2;omega
  |lock _ _ _ _=>have:=(a4 m.next (by grind)).2;omega
 have join:∀(dN:List as7),dN.length=xs.length*T.a9->(∀(i:Nat) (x:aB),xs[i]? =as4 x->∃c,T.rd z x c/\mX dN (i*T.a9) c)->
   ∀(i:Nat) (x:aB),(xs++b1)[i]? =as4 x->∃c,T.rd z x c/\mX (dN++cs) (i*T.a9) c:=by
  intro dN kQ an i a aY;rw[avn] at aY;split at aY
  ·rename_i bS;obtain ⟨c,aU,aO⟩:=an i a aY;refine ⟨c,aU,fun k q ar=> ?_⟩;have:=aO k q ar
   grind
  ·rename_i gK;obtain ⟨c,aU,aO⟩:=ez _ a aY;refine ⟨c,aU,fun k q ar=> ?_⟩;have:=aO k q ar;have U:i*T.a9=dN.length+(i - xs.length)*T.a9:=by
    rw[kQ,<-atJ];grind
   grind
 rcases aE with ⟨rfl,rfl⟩|⟨b,f0,L,c,rfl,ag,bS,ad',ax,iy,adK⟩
 ·by_cases q9:b1.length=0
  ·have acx:cs=[]:=aui (by grind);have ad8:b1=[]:=aui q9;subst ad8;subst acx;refine ⟨af x,m, .r9 x y t u T.tid i as6 0 0 h au aj ad (by simp[cF]) (atk _) dW, ?_,⟨atk _,aQ,fun _ _ _=>rfl⟩, ?_⟩
   ·rw[ad];exact .inl ⟨rfl,rfl⟩
   grind
  ·refine ⟨_,_, .pK x y t u T.tid i cN as6 0 0 b1.length [] cs h au aj gR da dU (by grind) ad (by omega) (by rw[ad];rfl) (by simp) dW vT (by grind) (by grind), ?_,yS aQ, ?_⟩
   ·refine .inr ⟨m.next,0,cs,cF,by simp,by simp[Mem.push],by simp[Mem.push],o1,by grind, .inl rfl, ?_⟩
    grind
   ·intro b ag;cases ag;grind
 ·have adL:∀(i:Nat) (x:aB),xs[i]? =as4 x->∃c,T.rd z x c/\mX ((L.drop f0).take (xs.length*T.a9)) (i*T.a9) c:=by
   intro k a aY;obtain ⟨c,aU,aO⟩:=adK k a aY;refine ⟨c,aU,fun q iC bb=> ?_⟩;have yw:=(atp.1 bb).1;rw[T.len z a c aU] at yw;have sq:=(atp.1 aY).1;have:(k+1)*T.a9<=xs.length*T.a9:=aug _ sq;rw[atJ,Nat.one_mul] at this;rw[List.getElem?_take,if_pos (by omega),List.getElem?_drop,<-atY];exact aO q iC bb
  have sw:((L.drop f0).take (xs.length*T.a9)).length=xs.length*T.a9:=by grind
  rcases iy with rfl|⟨mc,pU,oX⟩
  ·refine ⟨_,_, .append x y t u T.tid i cN b f0 xs.length b1.length L cs h au aj gR da dU (by grind) ad ag (by grind) dW vT vR Ux, ?_,fD.kill aQ bS, ?_⟩
   ·refine .inr ⟨m.next,0,(L.drop f0).take (xs.length*T.a9)++cs,cF,by simp,by grind [Mem.push,Mem.put],by simp[Mem.push,Mem.put],o1, ?_, .inl rfl, ?_⟩
    ·grind [atJ]
    grind
   ·intro cR ej;cases ej;grind
  ·by_cases sn:xs.length+b1.length<=c
   ·have D3:f0+(xs.length+b1.length)*i.size<=L.length:=by
     rw[b6];exact atx (Nat.add_le_add_left (aug _ sn) _) oX
    refine ⟨_,_, .tr x y t u T.tid i b f0 xs.length c b1.length L cs h au aj ad (by grind) sn ag dW vT D3, ?_,yX aQ bS,fun cR ej=> .inl ej⟩;have Et:(e1 L (f0+xs.length*i.size) cs).length=L.length:=mZ _ _ _;refine .inr ⟨b,f0,e1 L (f0+xs.length*i.size) cs,c,by simp,by simp[Mem.put],bS,ad', ?_, .inr ⟨mc, ?_, ?_⟩, ?_⟩
    ·simp_all
    ·grind
    ·grind
    ·intro k a aY;obtain ⟨bP,aU,aO⟩:=join _ sw adL k a aY;refine ⟨bP,aU,fun q iC bb=> ?_⟩;have:=aO q iC bb;have ac5:=(atp.1 this).1;rw[aua,sw,nC] at ac5;rw[b6,atJ] at D3;rw[b6,oz _ _ _ _ (by grind)];rw[avn,sw] at this;split at this
     ·grind
     ·rw[if_pos (by omega),show f0+k*T.a9+q - (f0+xs.length*T.a9)=k*T.a9+q - xs.length*T.a9 by omega]
      grind
   ·have acE:iY m i.size (af x)=as4 ((L.drop f0).take (xs.length*T.a9)):=by
     grind [iY,F4,Mem.load]
    refine ⟨_,_, .pK x y t u T.tid i cN _ xs.length c b1.length ((L.drop f0).take (xs.length*T.a9)) cs h au aj gR da dU (by grind) ad (by omega) acE (by grind) dW vT vR Ux, ?_, ?_, ?_⟩
    ·refine .inr ⟨m.next,0,(L.drop f0).take (xs.length*T.a9)++cs,cF,by simp,by simp[Mem.push],by simp[Mem.push],o1, ?_, .inl rfl,by grind⟩
     grind [atJ]
    ·have:=yS (m:=m) (x:= .own ((L.drop f0).take (xs.length*T.a9)++cs) T.tid) aQ;exact ⟨this.next,this.dead,fun c ah _=>this.aS c ah (by simp)⟩
    ·intro cR ej;cases ej;grind
theorem aiG (h:o.op= .call {callee:= .builtin .append,args:=#[x,y],argTypes:=#[t,u]}) (au:P.underlying t=as4 (.slice T.tid)) (aj:P.info? T.tid=as4 i) {cN:as7} (gR:i.zero=as4 cN) (da:cN.cells.toList.all cQ=as5) (dU:cN.cells.size=i.size)
  (b6:i.size=T.a9) (gA:0<T.a9) (MH:(xs.length+b1.length)*i.bytes<=140737488355328) (lP:xs.length+b1.length<=140737488355328) (hu:(∃b0,P.underlying u=as4 (.slice b0))\/P.underlying u=as4 .string) (ad:af x=v) (aE:e9 T z m xs v) (aJ:af y=w) (lg:Src T z m b1 w)
  (a4:jU z m) (aQ:∀b,m.next<=b->m.aS b= .dead):
  ∃bH m',gI P C af o m bH m'/\e9 T z m' (xs++b1) bH/\fD m m' (cY v)/\∀b,cY bH=as4 b->cY v=as4 b\/m.next<=b:=by
 obtain ⟨hlen,cs,me,nC,ez⟩:=lg;exact Wu h au aj gR da dU b6 gA MH lP ad aE (.el hu (by grind) (by grind)) nC ez a4 aQ
theorem afq {x0:aB} {cN:as7} (ez:T.rd z x0 cN.cells.toList) (c:Nat):(att c cN.cells.toList).flatten.length=(att c x0).length*T.a9/\
  ∀(i:Nat) (y:aB),(att c x0)[i]? =as4 y->∃d,T.rd z y d/\mX (att c cN.cells.toList).flatten (i*T.a9) d:=by
 have hlen:cN.cells.toList.length=T.a9:=T.len z x0 _ ez;refine ⟨by simp_all,fun j a aY=> ?_⟩;have a0:=(atp.1 aY).1;have ME:a=x0:=by grind
 subst ME;refine ⟨_,ez,fun q u bb=> ?_⟩;have yw:=(atp.1 bb).1;rw[hlen] at yw;have key:∀(c j:Nat),j<c->((att c cN.cells.toList).flatten)[j*T.a9+q]? =cN.cells.toList[q]? :=by
  intro c;induction c with
  |zero=>grind
  |succ c aq=>
   intro j a0;rw[avO,avk];cases j with
   |zero=>grind
   |succ j=>
    grind
 grind
theorem aiH {x0:aB} {kk k:as'} {c:Nat} (h:o.op= .call {callee:= .builtin .append,args:=#[x,y],argTypes:=#[t,u]}) (au:P.underlying t=as4 (.slice T.tid)) (aj:P.info? T.tid=as4 i) {cN:as7} (gR:i.zero=as4 cN) (da:cN.cells.toList.all cQ=as5) (dU:cN.cells.size=i.size)
  (b6:i.size=T.a9) (gA:0<T.a9) (gO:i.bytes<=32768) (hu:P.underlying u=as4 (.int kk)) (ad:af x=v) (aE:e9 T z m xs v) (aJ:af y= .int k c) (ez:T.rd z x0 cN.cells.toList)
  (a4:jU z m) (aQ:∀b,m.next<=b->m.aS b= .dead) {r:List aB} (aF:cl xs (att c x0)=as4 r):
  ∃bH m',gI P C af o m bH m'/\e9 T z m' r bH/\fD m m' (cY v)/\∀b,cY bH=as4 b->cY v=as4 b\/m.next<=b:=by
 obtain ⟨lP,rfl⟩:=rn aF;simp only[qH,avD] at lP;have U:(xs.length+c)*i.bytes<=4294967296*32768:=avr lP gO;have aa:c*i.bytes<=4294967296*32768:=avr (by omega) gO;obtain ⟨aU,aO⟩:=afq (T:=T) (z:=z) ez c;exact Wu h au aj gR da dU b6 gA (by grind) (by grind) ad aE
  (.mk kk k cN hu (by grind) gR da dU (by omega) (by grind) (by grind) (by grind)) aU aO a4 aQ
theorem ajr (h:o.op= .call {callee:= .builtin .append,args:=#[x,y],argTypes:=#[t,u]}) (au:P.underlying t=as4 (.slice T.tid)) (aj:P.info? T.tid=as4 i) {cN:as7} (gR:i.zero=as4 cN) (da:cN.cells.toList.all cQ=as5) (dU:cN.cells.size=i.size)
  (b6:i.size=T.a9) (gA:0<T.a9) (gO:i.bytes<=32768) (hu:(∃b0,P.underlying u=as4 (.slice b0))\/P.underlying u=as4 .string) (ad:af x=v) (aE:e9 T z m xs v) (aJ:af y=w) (lg:Src T z m b1 w)
  (a4:jU z m) (aQ:∀b,m.next<=b->m.aS b= .dead) {r:List aB} (aF:cl xs b1=as4 r):
  ∃bH m',gI P C af o m bH m'/\e9 T z m' r bH/\fD m m' (cY v)/\∀b,cY bH=as4 b->cY v=as4 b\/m.next<=b:=by
 obtain ⟨lP,rfl⟩:=rn aF;simp only[qH] at lP;have:(xs.length+b1.length)*i.bytes<=4294967296*32768:=avr lP gO;exact aiG h au aj gR da dU b6 gA (by omega) (by omega) hu ad aE aJ lg a4 aQ
theorem afr {x0:aB} {k cK:as'} {n n':Int} (h:o.op= .makeSlice t x y) (au:P.underlying t=as4 (.slice T.tid)) (aj:P.info? T.tid=as4 i) {cN:as7} (gR:i.zero=as4 cN) (da:cN.cells.toList.all cQ=as5) (dU:cN.cells.size=i.size) (b6:i.size=T.a9) (gO:i.bytes<=32768)
  (ez:T.rd z x0 cN.cells.toList) (ad:af x= .int k n) (aJ:af y= .int cK n) (a4:jU z m) {r:List aB} (aF:iM x0 n=as4 r):
  ∃L v,ij P af o m.next (.own L T.tid) v/\e9 T z (m.push (.own L T.tid)) r v/\cY v=as4 m.next:=by
 obtain ⟨bg,U,rfl⟩:=y8 aF;obtain ⟨c,rfl⟩:=auF bg;have o1:z m.next= .dead:=by
  cases p2:z m.next with
  |dead=>rfl
  |ro rd=>have:=(a4 m.next (by grind)).2;omega
  |own L t=>have:=(a4 m.next (by grind)).2;omega
  |map L t=>have:=(a4 m.next (by grind)).2;omega
  |lock _ _ _ _=>have:=(a4 m.next (by grind)).2;omega
 have hlen:cN.cells.toList.length=T.a9:=by grind
 have tN:(att c cN.cells.toList).flatten.length=c*T.a9:=by simp_all
 refine ⟨_,_, .makeSlice t x y c c k cK T.tid i cN h au aj gR da dU ad aJ (atk _) ?_ (by omega), ?_,rfl⟩
 ·have:i.bytes*c<=32768*4294967296:=avr gO (by omega);omega
 ·simp only[auc];refine e9.xT ⟨m.next,(att c cN.cells.toList).flatten,c,by simp,by simp[Mem.push],by simp[Mem.push],o1,by grind, .inr ⟨by grind [cF],by simp,by grind⟩,fun j a aY=> ?_⟩;have a0:=(atp.1 aY).1;have ME:a=x0:=by grind
  subst ME;refine ⟨_,ez,fun q u bb=> ?_⟩;have yw:=(atp.1 bb).1;rw[hlen] at yw;have key:∀(c j:Nat),j<c->((att c cN.cells.toList).flatten)[j*T.a9+q]? =cN.cells.toList[q]? :=by
   intro c;induction c with
   |zero=>grind
   |succ c aq=>
    intro j a0;rw[avO,avk];cases j with
    |zero=>grind
    |succ j=>
     grind
  grind
def uA (T:cr aB) (z:Nat->bm) (af:atd->as7):List (Nat×atd)->Nat->List aB->List (List as7)->Prop
 |[],_,[],[]=>True
 |(k,x)::cm,n,a::as,c::cs=>k=n/\storable (af x)=as5/\(af x).cells.toList=c/\T.rd z a c/\uA T z af cm (n+1) as cs
 |_,_,_,_=>False
theorem WO:∀(new A B D:List as7),new.length=B.length->e1 (A++B++D) A.length new=A++new++D
 |[],A,B,D,h=>by grind [e1]
 |v::new,A,b::B,D,h=>by
  have e:(A++(b::B)++D).set A.length v=(A++[v])++B++D:=by simp
  simp only[e1,e];have:=WO new (A++[v]) B D (by grind)
  grind
 |_::_,A,[],D,h=>by grind
theorem VI:∀(cm:List (Nat×atd)) (n:Nat) (as:List aB) (iI:List (List as7)) (A D:List as7),uA T z af cm n as iI->A.length=n*T.a9->D.length=as.length*T.a9->
  jc (fun k=>as4 (k*T.a9,T.a9)) (A++D) (cm.map fun p=>(p.1,af p.2))=as4 (A++iI.flatten)
 |[],n,[],[],A,D,_,_,T0=>by simp_all [jc]
 |(k,x)::cm,n,a::as,c::iI,A,D,h,dW,T0=>by
  obtain ⟨rfl,U,aa,ao,aN⟩:=h;have ah:=T.len z a c ao;have b6:(af x).cells.size=T.a9:=by grind
  simp only[List.length_cons,atJ,Nat.one_mul] at T0;simp only[aud,jc,U,b6,true_and,aua];rw[if_pos (by omega),aa,<-dW];have adQ:A++D=A++D.take T.a9++D.drop T.a9:=by simp_all
  rw[adQ,WO c A (D.take T.a9) (D.drop T.a9) (by grind)];rw[VI cm (k+1) as iI (A++c) (D.drop T.a9) aN (by grind) (by grind)];simp
 |[],_,_::_,_,_,_,h,_,_=>h.elim
 |[],_,[],_::_,_,_,h,_,_=>h.elim
 |_::_,_,[],_,_,_,h,_,_=>h.elim
 |_::_,_,_::_,[],_,_,h,_,_=>h.elim
theorem Wl:∀(cm:List (Nat×atd)) (n:Nat) (as:List aB) (iI:List (List as7)),uA T z af cm n as iI->iI.flatten.length=as.length*T.a9/\∀(i:Nat) (a:aB),as[i]? =as4 a->∃c,T.rd z a c/\mX iI.flatten (i*T.a9) c
 |[],n,[],[],_=>⟨by simp,fun i a aY=>by grind⟩
 |(k,x)::cm,n,a::as,c::iI,h=>by
  obtain ⟨rfl,U,aa,ao,aN⟩:=h;have ah:=T.len z a c ao;obtain ⟨aU,aO⟩:=Wl cm (k+1) as iI aN;refine ⟨by grind,fun i b ag=> ?_⟩;cases i with
  |zero=>
   simp at ag;subst ag;refine ⟨c,ao,fun q u bb=> ?_⟩
   grind
  |succ i=>obtain ⟨bP,b5,cc⟩:=aO i b (by grind);refine ⟨bP,b5,fun q u bb=> ?_⟩;rw[avk,atJ,Nat.one_mul,atM (by omega),ah,show i*T.a9+T.a9+q - T.a9=i*T.a9+q by omega];exact cc q u bb
 |[],_,_::_,_,h=>h.elim
 |[],_,[],_::_,h=>h.elim
 |_::_,_,[],_,h=>h.elim
 |_::_,_,_::_,[],h=>h.elim
theorem ao7 {cm:Array (Nat×atd)} {l:Nat} {as:List aB} {iI:List (List as7)} (h:o.op= .buildSlice t l cm) (au:P.underlying t=as4 (.slice T.tid)) (aj:P.info? T.tid=as4 i) {cN:as7} (gR:i.zero=as4 cN) (da:cN.cells.toList.all cQ=as5) (dU:cN.cells.size=i.size) (b6:i.size=T.a9)
  (ax:as.length=l) (si:l*T.a9<=16777216) (ss:l<9223372036854775808) (ag:uA T z af cm.toList 0 as iI) (a4:jU z m):
  ∃L v,ij P af o m.next (.own L T.tid) v/\e9 T z (m.push (.own L T.tid)) as v/\cY v=as4 m.next:=by
 have o1:z m.next= .dead:=by
  cases p2:z m.next with
  |dead=>rfl
  |ro rd=>have:=(a4 m.next (by grind)).2;omega
  |own L t=>have:=(a4 m.next (by grind)).2;omega
  |map L t=>have:=(a4 m.next (by grind)).2;omega
  |lock _ _ _ _=>have:=(a4 m.next (by grind)).2;omega
 have bd:=VI cm.toList 0 as iI [] (att l cN.cells.toList).flatten ag (by simp) (by simp_all);obtain ⟨aU,aO⟩:=Wl cm.toList 0 as iI ag;refine ⟨iI.flatten,_, .buildSlice t l cm T.tid i cN _ h au aj gR da dU (by grind) ss (by grind), ?_,rfl⟩;exact e9.xT ⟨m.next,iI.flatten,l,by grind,by simp[Mem.push],by simp[Mem.push],o1,by grind, .inr ⟨by grind [cF],by omega,by grind⟩,aO⟩
theorem ao8 {s:List UInt8} {tid:atc} (h:o.op= .convert u t x) (hu:P.underlying u=as4 .string) (au:P.underlying t=as4 (.slice tid)) (he:P.underlying tid=as4 (.int .u8)) (aj:P.info? tid=as4 i) (ju:i.size=1) (ad:af x=str s) (ax:s.length<9223372036854775807) (a4:jU z m):
  ∃L v,ij P af o m.next (.own L tid) v/\e9 (js tid) z (m.push (.own L tid)) s v/\cY v=as4 m.next:=by
 have o1:z m.next= .dead:=by
  cases p2:z m.next with
  |dead=>rfl
  |ro rd=>have:=(a4 m.next (by grind)).2;omega
  |own L t=>have:=(a4 m.next (by grind)).2;omega
  |map L t=>have:=(a4 m.next (by grind)).2;omega
  |lock _ _ _ _=>have:=(a4 m.next (by grind)).2;omega
 refine ⟨_,_, .bytes u t x tid i ⟨s.toArray⟩ h hu au he aj ju ad (by grind [yZ]), ?_,rfl⟩;refine e9.xT ⟨m.next,s.map fun u=> .int .u8 u.toNat,cF,by rfl,by simp[Mem.push,js,cr.flat],by simp[Mem.push],o1,by simp[js,cr.flat], .inl rfl,fun k a aY=>⟨[.int .u8 a.toNat],rfl,fun q w bb=> ?_⟩⟩
 grind [js,cr.flat]
theorem Zu {s:List UInt8} {tid:atc} (h:o.op= .convert t u x) (au:P.underlying t=as4 (.slice tid)) (he:P.underlying tid=as4 (.int .u8)) (hu:P.underlying u=as4 .string) (ad:af x=v) (aE:Src (js tid) z m s v) (ab:∃a l c,v= .slice a l c):eJ P af o m (str s):=by
 obtain ⟨a,l,c,rfl⟩:=ab;obtain ⟨ax,cs,me,nC,ez⟩:=aE;have h3:cs=s.map fun u=> .int .u8 u.toNat:=by
  apply auw;intro k;by_cases ar:k<s.length
  ·obtain ⟨bP,aU,aO⟩:=ez k s[k] (by grind);have aU:bP=[.int .u8 s[k].toNat]:=aU;subst aU;have:=aO 0 _ rfl
   grind [js,cr.flat]
  grind [js,cr.flat]
 subst h3;simp only[hP] at ax;subst ax;cases a with
 |none=>
  simp only[iY,atj.injEq] at me;have:s=[]:=by grind
  subst this;exact .vf t u x tid _ c h au he hu ad
 |some a=>
  obtain ⟨b,off,spot⟩:=a;cases spot with
  |some q=>grind [iY]
  |none=>simp only[iY,js,cr.flat,Nat.mul_one] at me;exact .str t u x tid b off _ c s h au he hu ad me
end
def looks:Op->Bool
 | .load .. | .convert .. | .slice .. | .lookup .. =>as5
 |_=>as9
def qg:Op->Bool
 | .alloc _| .box .. | .buildSlice .. | .makeSlice .. | .convert .. | .makeMap .. =>as5
 |_=>as9
def calm (ops:Array Oper):Bool:=
 (atW ops.size).all fun e=>match ops[e]? with
  |none=>as5
  |some uk=> !kp uk.op||(atW ops.size).all fun r=>match ops[r]? with
   |none=>as5
   |some or=>(!(looks or.op)||(if r<e then fq (atI ops) e r else if e<r then fq (atI ops) r e else as5))&&(!(qg or.op)||(if r<e then fq (atI ops) e r else as5))
theorem E6 {P:atb} {af:atd->as7} {o:Oper} {m:Mem} {v:as7} (h:eJ P af o m v):looks o.op=as5:=by
 cases h<;>simp[*,looks]
theorem yP {P:atb} {af:atd->as7} {o:Oper} {n:Nat} {X:bm} {v:as7} (h:ij P af o n X v):qg o.op=as5:=by
 cases h<;>simp[*,qg]
theorem Wn {ops:Array Oper} (h:calm ops=as5) {e r:Nat} {uk or:Oper} (he:ops[e]? =as4 uk) (aF:ops[r]? =as4 or) (a1:kp uk.op=as5) (ax:looks or.op=as5):(r<e->fq (atI ops) e r=as5)/\(e<r->fq (atI ops) r e=as5):=by
 grind [calm]
theorem ahf {ops:Array Oper} (h:calm ops=as5) {e r:Nat} {uk or:Oper} (he:ops[e]? =as4 uk) (aF:ops[r]? =as4 or) (a1:kp uk.op=as5) (ax:qg or.op=as5) (bS:r<e):fq (atI ops) e r=as5:=by
 grind [calm]
theorem VC {P:atb} {C:FuncId->Array as7->Mem->as7->Mem->Prop} {ops:Array Oper} (ah:calm ops=as5):∀(l pre:List Oper) (A:Acc) (fr bA:Nat->as7) (m m':Mem),ops.toList=pre++l->
  (∀x∈A.reads,∃o,ops[x.1]? =as4 o/\looks o.op=as5/\x.1<pre.length)->(∀x∈A.gg,∃o,ops[x.1]? =as4 o/\kp o.op=as5/\x.1<pre.length)->(∀x∈A.news,∃o,ops[x.1]? =as4 o/\qg o.op=as5/\x.1<pre.length)->
  jn P C ops.toList l fr m bA m'->gT P C ops.toList (atI ops) pre.length l A fr m bA m'
 |[],pre,A,fr,bA,m,m',aL,U,aa,ao,h=>h
 |o::l,pre,A,fr,bA,m,m',aL,U,aa,ao,h=>by
  have an:ops[pre.length]? =as4 o:=by rw[<-Array.getElem?_toList,aL];simp
  have tW:ops.toList=(pre++[o])++l:=by grind
  have hlen:(pre++[o]).length=pre.length+1:=by simp
  have up:∀{bK:Type} {p:Oper->Bool} {L:List (Nat×bK)},(∀x∈L,∃o,ops[x.1]? =as4 o/\p o=as5/\x.1<pre.length)->∀x∈L,∃o,ops[x.1]? =as4 o/\p o=as5/\x.1<pre.length+1:=fun bJ x ad=>by
   grind
  have Zv:=fun (A:Acc) (fr:Nat->as7) (m:Mem)=>VC (P:=P) (C:=C) ah l (pre++[o]) A fr bA m m' tW;rw[hlen] at Zv;simp only[jn] at h;simp only[gT];split at h
  ·rename_i hw;rw[if_pos hw];obtain ⟨v,bx,aE,aF⟩:=h;cases aE with
   |pure bb=>grind
   |read bb=>
    grind [E6,Wn]
   |new bb=>
    grind [yP]
   |e4 bb=>
    have oY:=Od bb;refine .inr (.inr (.inr ⟨v,bx,bb,fun x ad aY=> ?_,fun x ad aY=> ?_,Zv _ _ _ (up (p:=fun o=>looks o.op) U) ?_ (up (p:=fun o=>qg o.op) ao) aF⟩))
    ·grind [Wn]
    ·grind [ahf]
    grind
  grind
theorem W.calm {P:atb} {id:Nat} {ops:Array Oper} {Q:eS->(Nat->as7)->Mem->Prop} {fr:Nat->as7} {m:Mem} (ah:ay.calm ops=as5) (h:gm P ops.toList ops.toList (Q .normal) fr m):W P (.region id ops as5) Q fr m:=by
 obtain ⟨n,bA,m',U,aa⟩:=h;refine W.draw ⟨n,bA,m', ?_,aa⟩;have:=VC (P:=P) (C:=iq P n) ah ops.toList [] ⟨[],[],[]⟩ fr bA m m' (by rfl) (by simp) (by simp) (by simp) U
 grind
end Go.ay
end
section
namespace Go.ay
def sub:Code->List Nat->Code
 |c,[]=>c
 | .seq a b,0::p=>sub a p
 | .seq a b,_::p=>sub b p
 | .cond _ a b,0::p=>sub a p
 | .cond _ a b,_::p=>sub b p
 | .block _ c,_::p=>sub c p
 | .scope c,_::p=>sub c p
 | .loop c,_::p=>sub c p
 |c,_=>c
def hq (f:Func):Code:=f.body.getD .skip
theorem F7 {fr:Nat->as7} {d:Option Tmp} {v:as7} {i:Nat} (h:d≠as4 i):set fr d v i=fr i:=by
 cases d with
 |none=>rfl
 |some t=>grind [set]
theorem Ob {P:atb} {C:FuncId->Array as7->Mem->as7->Mem->Prop} {ops:List Oper} {i:Nat}:∀(l:List Oper) (fr bA:Nat->as7) (m m':Mem),(∀o∈l,o.dst≠as4 i)->jn P C ops l fr m bA m'->bA i=fr i
 |[],fr,bA,m,m',_,h=>by rw[h.1]
 |o::l,fr,bA,m,m',hw,h=>by
  have q6:∀o∈l,o.dst≠as4 i:=fun o an=>hw o (by grind);simp only[jn] at h;split at h
  ·obtain ⟨v,bx,_,h⟩:=h;rw[Ob l _ _ _ _ q6 h];grind [F7]
  ·rw[Ob l _ _ _ _ q6 h];grind [F7]
theorem N2 {P:atb} {C:FuncId->Array as7->Mem->as7->Mem->Prop} {ops:List Oper} {B:Array Nat} {i:Nat}:∀(l:List Oper) (n:Nat) (A:Acc) (fr bA:Nat->as7) (m m':Mem),(∀o∈l,o.dst≠as4 i)->gT P C ops B n l A fr m bA m'->bA i=fr i
 |[],n,A,fr,bA,m,m',_,h=>by rw[h.1]
 |o::l,n,A,fr,bA,m,m',hw,h=>by
  have q6:∀o∈l,o.dst≠as4 i:=fun o an=>hw o (by grind);have U:=hw o (by simp);simp only[gT] at h;split at h
  ·rcases h with ⟨v,_,h⟩|⟨v,_,_,h⟩|⟨X,v,_,h⟩|⟨v,bx,_,_,_,h⟩<;>(rw[N2 l _ _ _ _ _ _ q6 h];grind [F7])
  ·rw[N2 l _ _ _ _ _ _ q6 h];grind [F7]
theorem W7 {ops:Array Oper} {i:Nat} (h:(Mc ops).contains i=as9):∀o∈ops.toList,o.dst≠as4 i:=by
 grind [Mc]
theorem Vs {a b:List Nat} {i:Nat} (h:(a++b).contains i=as9):a.contains i=as9/\b.contains i=as9:=by
 grind
theorem ag9 {P:atb} {C:FuncId->Array as7->Mem->as7->Mem->Prop} {i:Nat}:∀(n:Nat) (c:Code) (fr bA:Nat->as7) (m m':Mem) (e:eS),(pj c).contains i=as9->j6 P C n c fr m e bA m'->bA i=fr i:=by
 intro n;induction n with
 |zero=>intro c fr bA m m' e _ h;exact h.elim
 |succ n aq=>
  intro c fr bA m m' e hw h;cases c with
  |skip=>rw[h.2.1]
  |label l=>rw[h.2.1]
  |exit id=>rw[h.2.1]
  |ret=>rw[h.2.1]
  |region id ops d=>
   cases d with
   |false=>exact Ob _ _ _ _ _ (W7 hw) h.2
   |true=>exact N2 _ _ _ _ _ _ _ (W7 hw) h.2
  |seq a b=>
   rcases h with ⟨bt,cU,bx,aU,aO⟩|h
   rotate_left
   ·exact h.2.keep _ hw
   obtain ⟨U,aa⟩:=Vs hw
   grind
  |cond c a b=>
   obtain ⟨U,aa⟩:=Vs hw;obtain ⟨t,_,g⟩:=h
   grind
  |block id c=>obtain ⟨bt,g,_⟩:=h;exact aq c _ _ _ _ _ hw g
  |scope c=>exact aq c _ _ _ _ _ hw h
  |loop c=>
   obtain ⟨bt,cU,bx,aU,aO⟩:=h;have b5:=aq c _ _ _ _ _ hw aU
   grind
  |rangeFunc f cm x y=>exact h.elim
  |goto l=>exact h.elim
  |refuse s=>exact h.elim
section
variable {P:atb} {Q xH:eS->(Nat->as7)->Mem->Prop} {fr:Nat->as7} {m:Mem}
theorem W.keep {c:Code} (h:W P c Q fr m) (bb:∀e bA m',(∀i,(pj c).contains i=as9->bA i=fr i)->Q e bA m'->xH e bA m'):W P c xH fr m:=
 let ⟨n,e,bA,m',U,aa⟩:=h
 ⟨n,e,bA,m',U,bb _ _ _ (fun _ aj=>ag9 _ _ _ _ _ _ _ aj U) aa⟩
theorem W.abp {c:atd} {a b:Code} {t:Bool} (au:a6 fr c= .bool t) (he:t=as5) (h:W P a Q fr m):W P (.cond c a b) Q fr m:=W.cond (t:=as5) (by rw[au,he]) h
theorem W.abo {c:atd} {a b:Code} {t:Bool} (au:a6 fr c= .bool t) (he:t=as9) (h:W P b Q fr m):W P (.cond c a b) Q fr m:=W.cond (t:=as9) (by rw[au,he]) h
theorem n3.oe {i:Nat} (h:Q .normal fr m):n3 i Q (.exit i) fr m:=by grind [n3]
theorem n3.mR {i j:Nat} (gP:(j==i)=as9) (h:Q (.exit j) fr m):n3 i Q (.exit j) fr m:=by
 grind [n3]
theorem gm.mono {ops l:List Oper} {K kL:(Nat->as7)->Mem->Prop} (h:gm P ops l K fr m) (ar:∀fr m,K fr m->kL fr m):gm P ops l kL fr m:=
 let ⟨n,bA,m',U,aa⟩:=h;⟨n,bA,m',U,ar _ _ aa⟩
end
structure dt (n:Nat) (z z':Nat->bm):Prop where
 le:eM z z'
 low:∀b,b<n->z' b=z b
theorem dt.refl {n:Nat} (z:Nat->bm):dt n z z:=⟨eM.refl z,fun _ _=>rfl⟩
theorem dt.trans {n:Nat} {a b c:Nat->bm} (h:dt n a b) (k:dt n b c):dt n a c:=⟨h.le.trans k.le,fun i aj=>by rw[k.low i aj,h.low i aj]⟩
theorem dt.xS {n n':Nat} {a b:Nat->bm} (h:dt n a b) (a2:n'<=n):dt n' a b:=⟨h.le,fun i aj=>h.low i (by omega)⟩
structure iG (z:Nat->bm) (e m:Mem) (k:Option Nat) (b:Nat) (cs:List as7) (t:atc):Prop where
 aS:m.aS b= .own cs t
 lt:b<m.next
 dead:z b= .dead
 fresh:e.next<=b\/k=as4 b
structure dL {aB:Type} (T:cr aB) (z:Nat->bm) (e m:Mem) (k:Option Nat) (xs:List aB) (v:as7):Prop where
 bs:e9 T z m xs v
 fresh:∀b,cY v=as4 b->e.next<=b
section
variable {aB:Type} {T:cr aB} {z z':Nat->bm} {e m m':Mem} {k q:Option Nat} {xs:List aB} {v:as7} {b:Nat} {cs:List as7} {t:atc}
theorem dL.same (h:dL T z e m k xs v) (s:fD m m' q) (e3:eB (cY v) q):dL T z e m' k xs v:=⟨h.bs.same s e3,h.fresh⟩
theorem iG.same (h:iG z e m k b cs t) (s:fD m m' q) (e3:eB (as4 b) q):iG z e m' k b cs t:=by
 have:=aif h.aS h.lt s (e3 b rfl);exact ⟨this.1,this.2,h.dead,h.fresh⟩
theorem dL.lt (h:dL T z e m k xs v):∀b,cY v=as4 b->b<m.next:=fun b ag=>(h.bs.lt b ag).1
theorem dL.EK (h:dL T z e m k xs v):∀b,cY v=as4 b->b<m.next/\(m.aS b).mem=m.aS b:=fun b ag=>⟨h.lt b ag,by
 rcases h.bs with ⟨rfl,_⟩|⟨cR,o,L,c,rfl,U,_⟩
 ·cases ag
 ·cases ag;rw[U];rfl⟩
theorem e9.iF (h:e9 T z m xs v) (a4:eM z z') (ag:∀b,cY v=as4 b->z' b=z b):e9 T z' m xs v:=by
 rcases h with h|⟨b,f0,L,c,rfl,U,aa,ao,aN,bI,eg⟩
 ·exact .inl h
 ·refine .inr ⟨b,f0,L,c,rfl,U,aa,by rw[ag b rfl];grind,aN,bI,fun i x aj=> ?_⟩;obtain ⟨cs,aU,aO⟩:=eg i x aj;exact ⟨cs,T.mono _ _ a4 _ _ aU,aO⟩
theorem dL.iF (h:dL T z e m k xs v) (a4:eM z z') (ag:∀b,cY v=as4 b->z' b=z b):dL T z' e m k xs v:=⟨h.bs.iF a4 ag,h.fresh⟩
theorem iG.iF (h:iG z e m k b cs t) (ag:∀c,as4 b=as4 c->z' c=z c):iG z' e m k b cs t:=⟨h.aS,h.lt,by rw[ag b rfl];exact h.dead,h.fresh⟩
theorem dL.freeze (h:dL T z e m k xs v) (aM:dp z e m k):∃z',dt e.next z z'/\dp z' e m k/\eC T z' xs v/\∀p,eB p (cY v)->∀b,p=as4 b->z' b=z b:=by
 refine ⟨iK z m (cY v),⟨zt fun b ag=>(h.bs.lt b ag).2,fun b ag=> ?_⟩,⟨Gf aM.bi h.EK,aM.dead,aM.l8,aM.next,aM.kept⟩,h.bs.aqF,fun p aL b ag=> ?_⟩
 ·unfold iK;rw[if_neg];intro ej;have:=h.fresh b ej;omega
 ·unfold iK;rw[if_neg (aL b ag)]
theorem iG.bb (h:iG z e m k b cs t):∀c,as4 b=as4 c->z c= .dead/\(e.next<=c\/k=as4 c):=fun c ah=>by cases ah;exact ⟨h.dead,h.fresh⟩
theorem dL.bb (h:dL T z e m k xs v):∀c,cY v=as4 c->z c= .dead/\(e.next<=c\/k=as4 c):=fun c ah=>⟨(h.bs.lt c ah).2, .inl (h.fresh c ah)⟩
theorem dL.nil:dL T z e m k [] (.slice as6 0 0):=⟨.nil,fun b ag=>by cases ag⟩
variable {P:atb} {C:FuncId->Array as7->Mem->as7->Mem->Prop} {af:atd->as7} {o:Oper} {w:as7} {b1:List aB} {x y:atd} {u:atc} {i:TypeInfo}
theorem ajb (h:o.op= .call {callee:= .builtin .append,args:=#[x,y],argTypes:=#[t,u]}) (au:P.underlying t=as4 (.slice T.tid)) (aj:P.info? T.tid=as4 i) {cN:as7} (gR:i.zero=as4 cN) (da:cN.cells.toList.all cQ=as5) (dU:cN.cells.size=i.size)
  (b6:i.size=T.a9) (gA:0<T.a9) (gO:i.bytes<=32768) (hu:(∃b0,P.underlying u=as4 (.slice b0))\/P.underlying u=as4 .string) (ad:af x=v) (aE:dL T z e m k xs v) (aJ:af y=w) (lg:Src T z m b1 w)
  (aM:dp z e m k) {r:List aB} (aF:cl xs b1=as4 r):
  ∃bH m',gI P C af o m bH m'/\dp z e m' k/\dL T z e m' k r bH/\fD m m' (cY v)/\∀p,(∀b,p=as4 b->b<m.next)->eB p (cY v)->eB p (cY bH):=by
 obtain ⟨bH,m',U,aa,ao,aN⟩:=ajr (C:=C) h au aj gR da dU b6 gA gO hu ad aE.bs aJ lg aM.bi aM.dead aF;refine ⟨bH,m',U,aM.same ao aE.bb,⟨aa,fun b ag=> ?_⟩,ao,fun p aL aY b ag ej=> ?_⟩
 ·rcases aN b ag with aN|aN
  ·exact aE.fresh b aN
  ·have:=aM.next;omega
 ·rcases aN b ej with aN|aN
  ·exact aY b ag aN
  grind
theorem DX {L:List as7} {bH:as7} {b1:List aB} (aM:dp z e m k) (h:e9 T z (m.push (.own L t)) b1 bH) (ag:cY bH=as4 m.next):
  dp z e (m.push (.own L t)) k/\dL T z e (m.push (.own L t)) k b1 bH/\fD m (m.push (.own L t)) as6/\∀p,(∀b,p=as4 b->b<m.next)->eB p (cY bH):=
 ⟨aM.push _,⟨h,fun b ej=>by rw[ag] at ej;cases ej;exact aM.next⟩,yS aM.dead,fun p aL b ej yf=>by grind⟩
theorem aff {x0:aB} {b5 cc:as'} {n:Int} (h:o.op= .makeSlice t x y) (au:P.underlying t=as4 (.slice T.tid)) (aj:P.info? T.tid=as4 i) {cN:as7} (gR:i.zero=as4 cN) (da:cN.cells.toList.all cQ=as5) (dU:cN.cells.size=i.size) (b6:i.size=T.a9) (gO:i.bytes<=32768)
  (ez:T.rd z x0 cN.cells.toList) (ad:af x= .int b5 n) (aJ:af y= .int cc n) (aM:dp z e m k) {r:List aB} (aF:iM x0 n=as4 r):
  ∃bH m' L dZ,ij P af o m.next (.own L dZ) bH/\m'=m.push (.own L dZ)/\dp z e m' k/\dL T z e m' k r bH/\fD m m' as6/\∀p,(∀b,p=as4 b->b<m.next)->eB p (cY bH):=by
 obtain ⟨L,bH,U,aa,ao⟩:=afr (n':=n) h au aj gR da dU b6 gO ez ad aJ aM.bi aF
 grind [DX]
theorem apq {cm:Array (Nat×atd)} {l:Nat} {as:List aB} {iI:List (List as7)} (h:o.op= .buildSlice t l cm) (au:P.underlying t=as4 (.slice T.tid)) (aj:P.info? T.tid=as4 i) {cN:as7} (gR:i.zero=as4 cN) (da:cN.cells.toList.all cQ=as5) (dU:cN.cells.size=i.size) (b6:i.size=T.a9)
  (ax:as.length=l) (si:l*T.a9<=16777216) (ss:l<9223372036854775808) (ag:uA T z af cm.toList 0 as iI) (aM:dp z e m k):
  ∃bH m' L dZ,ij P af o m.next (.own L dZ) bH/\m'=m.push (.own L dZ)/\dp z e m' k/\dL T z e m' k as bH/\fD m m' as6/\∀p,(∀b,p=as4 b->b<m.next)->eB p (cY bH):=by
 obtain ⟨L,bH,U,aa,ao⟩:=ao7 h au aj gR da dU b6 ax si ss ag aM.bi
 grind [DX]
theorem apr {s:List UInt8} {tid:atc} (h:o.op= .convert u t x) (hu:P.underlying u=as4 .string) (au:P.underlying t=as4 (.slice tid)) (he:P.underlying tid=as4 (.int .u8)) (aj:P.info? tid=as4 i) (ju:i.size=1) (ad:af x=str s) (ax:s.length<9223372036854775807) (aM:dp z e m k):
  ∃bH m' L dZ,ij P af o m.next (.own L dZ) bH/\m'=m.push (.own L dZ)/\dp z e m' k/\dL (js tid) z e m' k s bH/\fD m m' as6/\∀p,(∀b,p=as4 b->b<m.next)->eB p (cY bH):=by
 obtain ⟨L,bH,U,aa,ao⟩:=ao8 h hu au he aj ju ad ax aM.bi
 grind [DX]
theorem Pm {L:List as7} (aM:dp z e m k):dp z e (m.push (.own L t)) k/\iG z e (m.push (.own L t)) k m.next L t/\fD m (m.push (.own L t)) as6/\∀p,(∀b,p=as4 b->b<m.next)->eB p (as4 m.next):=by
 refine ⟨aM.push _,⟨by simp[Mem.push],Nat.lt_succ_self _, ?_, .inl aM.next⟩,yS aM.dead,fun p aL b ej yf=>by grind⟩;cases p2:z m.next with
 |dead=>rfl
 |ro rd=>have:=(aM.bi m.next (by grind)).2;omega
 |own L t=>have:=(aM.bi m.next (by grind)).2;omega
 |map L t=>have:=(aM.bi m.next (by grind)).2;omega
 |lock _ _ _ _=>have:=(aM.bi m.next (by grind)).2;omega
theorem abH {off:Nat} {new cs':List as7} {gV:atc} (h:o.op= .store t x y) (aj:P.info? t=as4 i) (ad:af x= .pointer (as4 ⟨b,off,as6⟩)) (aJ:af y=w) (ab:storable w=as5) (a2:w.cells.toList=new) (aE:new.length=i.size) (ag:iG z e m k b cs gV) (ax:off+new.length<=cs.length) (h3:e1 cs off new=cs') (aM:dp z e m k):
  ∃m',gI P C af o m undef m'/\dp z e m' k/\iG z e m' k b cs' gV/\fD m m' (as4 b):=by
 subst aJ h3;have mh:=yX (x:= .own (e1 cs off new) gV) aM.dead ag.lt;exact ⟨_,(XZ h aj ad ag.aS ab a2 aE ax),aM.same mh ag.bb,⟨by simp[Mem.put],ag.lt,ag.dead,ag.fresh⟩,mh⟩
theorem abJ {off f0 n f l c:Nat} {new qO xZ:List as7} {a a':aB} (h:o.op= .store t x y) (aj:P.info? t=as4 i) (ad:af x= .pointer (as4 ⟨b,off,as6⟩)) (pX:off=f0+n*T.a9+f) (aJ:af y=w) (ab:storable w=as5) (a2:w.cells.toList=new) (aE:new.length=i.size)
  (an:dL T z e m k xs v) (o5:v= .slice (as4 ⟨b,f0,as6⟩) l c) (aY:xs[n]? =as4 a) (aF:T.rd z a qO) (ah:∀(i:Nat) (u:as7),qO[i]? =as4 u->m.load b (f0+n*T.a9+i)=as4 u) (lf:T.rd z a' xZ) (h3:xZ=e1 qO f new) (bd:f+new.length<=qO.length) (aM:dp z e m k):
  ∃m',gI P C af o m undef m'/\dp z e m' k/\dL T z e m' k (xs.set n a') v/\fD m m' (cY v):=by
 subst aJ pX;obtain ⟨L,aU,aO,bT,cP⟩:=an.bs.store aM.dead o5 aY aF ⟨b,_,rfl,ah⟩ lf h3 bd;have jF:cY v=as4 b:=by rw[o5];rfl
 refine ⟨_,(XZ h aj ad aU ab a2 aE aO),aM.same cP (by rw[<-jF];exact an.bb),⟨bT,an.fresh⟩,by grind⟩
theorem afe {b5:as'} {n:Int} {a:aB} {gV:atc} (h:o.op= .indexAddr t x y) (au:P.underlying t=as4 (.slice gV)) (aj:P.info? gV=as4 i) (b6:i.size=T.a9) (ad:af x=v) (aJ:af y= .int b5 n) (aE:eC T z xs v) (a5:aD xs n=as4 a):
  ∃b off cs,cX P af o (.pointer (as4 ⟨b,off,as6⟩))/\T.rd z a cs/\mW z b off cs:=by
 obtain ⟨p,cs,U,aa,b,off,rfl,ao⟩:=afD h au aj b6 ad aJ aE a5
 grind
theorem afd {b5:as'} {n:Int} {a:aB} {gV:atc} (h:o.op= .indexAddr t x y) (au:P.underlying t=as4 (.slice gV)) (aj:P.info? gV=as4 i) (b6:i.size=T.a9) (ad:af x=v) (aJ:af y= .int b5 n) (aE:dL T z e m k xs v) (a5:aD xs n=as4 a):
  ∃b f0 l c cs,cX P af o (.pointer (as4 ⟨b,f0+n.toNat*T.a9,as6⟩))/\v= .slice (as4 ⟨b,f0,as6⟩) l c/\T.rd z a cs/\∀(j:Nat) (u:as7),cs[j]? =as4 u->m.load b (f0+n.toNat*T.a9+j)=as4 u:=by
 obtain ⟨p,cs,U,aa,ao,b,f0,l,c,rfl,rfl⟩:=afC h au aj b6 ad aJ aE.bs a5;obtain ⟨h1,mm,aN,bI⟩:=ao
 grind
theorem Pn {n:Nat} {bl:Array Field} {f:Field} {off:Nat} (h:o.op= .fieldAddr t x n) (au:P.underlying t=as4 (.struct bl)) (bd:bl[n]? =as4 f) (aj:P.info? f.type=as4 i) (aE:(i.size==0)=as9) (ad:af x= .pointer (as4 ⟨b,off,as6⟩)):
  cX P af o (.pointer (as4 ⟨b,off+f.offset,as6⟩)):= .fieldAddr t x n bl f i b off h au bd aj (by intro bg;rw[bg] at aE;cases aE) ad
theorem PA {off:Nat} {d:TypeDesc} (h:o.op= .load t x) (au:P.underlying t=as4 d) (aQ:jz d=as9) (ad:af x= .pointer (as4 ⟨b,off,as6⟩)) (ab:m.load b off=as4 v):eJ P af o m v:= .load t x b off d v h ad au aQ ab
theorem aps {off:Nat} {d:TypeDesc} (h:o.op= .load t x) (au:P.underlying t=as4 d) (aQ:jz d=as5) (aj:P.info? t=as4 i) (aE:cs.length=i.size) (ad:af x= .pointer (as4 ⟨b,off,as6⟩)) (ab:∀(j:Nat) (u:as7),cs[j]? =as4 u->m.load b (off+j)=as4 u):eJ P af o m (.agg cs.toArray):=
 .sz t x b off d i cs h ad au aQ aj (F4 _ _ _ aE ab)
theorem iG.load (h:iG z e m k b cs t) {off:Nat} (ab:cs[off]? =as4 v):m.load b off=as4 v:=by simp only[Mem.load,h.aS];grind
theorem iG.rc (h:iG z e m k b cs t):∀(j:Nat) (u:as7),cs[j]? =as4 u->m.load b (0+j)=as4 u:=fun j u a0=>by rw[atB];exact h.load a0
theorem dp.rc (aM:dp z e m k) {off:Nat} (h:mW z b off cs):∀(j:Nat) (u:as7),cs[j]? =as4 u->m.load b (off+j)=as4 u:=fun j u a0=>OG aM.bi (h j u a0)
end
theorem WS {args:Array as7} {n i:Nat} {v:as7} (h:args.toList[i]? =as4 v):(args++Array.replicate n undef).getD i undef=v:=by
 have U:args[i]? =as4 v:=by grind
 have bS:=(auI.1 U).1;simp_all [Array.getElem?_append_left]
theorem aim {n:Nat} {v:as7} (h:flat v=as5):low n v:=Fs h
theorem hi.flat {P:atb} {f:FuncId} {fn:Func} {c:Code} {args:Array as7} {z:Nat->bm} {m:Mem} {r:as7} (bd:P.funcs[f]? =as4 fn) (ag:qe P fn c) (ey:kS P f=as5) (b6:args.size<=fn.ntmps) (aF:ay.flat r=as5)
  (h:∀fr,(∀i v,args.toList[i]? =as4 v->fr i=v)->W P c (fun e fr bx=>(e= .normal\/e= .ret)/\∃z',dp z' m bx as6/\∃vs,oy P fr bx fn.results.toList vs/\(vs.length=1\/∀x∈vs,storable x=as5)/\pack vs=r) fr m):hi P f args m fun v m'=>v=r/\m'=m:=by
 refine hi.enter bd ag ey b6 ((h _ fun i v aj=>WS aj).mono ?_);rintro e fr bx ⟨he,z',aM,vs,U,aa,ao⟩;refine ⟨he,vs,U,aa, .inr ⟨⟨ao,aM.aqG⟩,by grind [aim],fun b ag=> .inl (aM.kept b ag (by simp))⟩⟩
theorem hi.any {P:atb} {f:FuncId} {fn:Func} {c:Code} {args:Array as7} {m:Mem} {R:as7->Mem->Prop} (bd:P.funcs[f]? =as4 fn) (ag:qe P fn c) (ey:kS P f=as5) (b6:args.size<=fn.ntmps)
  (h:∀fr,(∀i v,args.toList[i]? =as4 v->fr i=v)->W P c (fun e fr bx=>(e= .normal\/e= .ret)/\∃vs,oy P fr bx fn.results.toList vs/\(vs.length=1\/∀x∈vs,storable x=as5)/\R (pack vs) bx) fr m):hi P f args m R:=by
 refine hi.enter bd ag ey b6 ((h _ fun i v aj=>WS aj).mono ?_)
 grind
end Go.ay
end
section
namespace Go.ay
inductive Tag where
 |pure
 |read (I:Mem->Prop)
 |new
 |e4
def cd (P:atb) (af:atd->as7) (o:Oper) (m:Mem) (D:Tag->as7->Mem->Prop):Prop:=
 (∃v,cX P af o v/\D .pure v m)\/(∃v I,cX P af o v/\D (.read I) v m)\/(∃v,eJ P af o m v/\D (.read fun m=>eJ P af o m v) v m)\/
 (∃X v,ij P af o m.next X v/\D .new v (m.push X))\/(∃n v m',gI P (iq P n) af o m v m'/\D .e4 v m')
section
variable {P:atb} {af:atd->as7} {o:Oper} {m:Mem} {D:Tag->as7->Mem->Prop} {K:as7->Mem->Prop}
theorem cd.pure {v:as7} (h:cX P af o v) (ar:D .pure v m):cd P af o m D:= .inl ⟨v,h,ar⟩
theorem cd.Vo {v:as7} {I:Mem->Prop} (h:cX P af o v) (ar:D (.read I) v m):cd P af o m D:= .inr (.inl ⟨v,I,h,ar⟩)
theorem cd.read {v:as7} (h:eJ P af o m v) (ar:D (.read fun m=>eJ P af o m v) v m):cd P af o m D:= .inr (.inr (.inl ⟨v,h,ar⟩))
theorem cd.new {v:as7} {X:bm} (h:ij P af o m.next X v) (ar:D .new v (m.push X)):cd P af o m D:= .inr (.inr (.inr (.inl ⟨X,v,h,ar⟩)))
theorem cd.e4 {n:Nat} {v:as7} {m':Mem} (h:gI P (iq P n) af o m v m') (ar:D .e4 v m'):cd P af o m D:= .inr (.inr (.inr (.inr ⟨n,v,m',h,ar⟩)))
theorem cd.w (h:cd P af o m fun _=>K):l4 P af o m K:=by
 rcases h with ⟨v,h,ar⟩|⟨v,I,h,ar⟩|⟨v,h,ar⟩|⟨X,v,h,ar⟩|⟨n,v,m',h,ar⟩
 ·grind [l4.pure]
 ·grind [l4.pure]
 ·grind [l4.read]
 ·grind [l4.new]
 grind [l4.e4]
theorem cd.call {f:FuncId} {args:Array as7} (ah:callee o af f args) (h:hi P f args m (D .e4)):cd P af o m D:=by
 obtain ⟨n,v,m',U,aa⟩:=h;exact .e4 (.call f args v m' ah U) aa
end
theorem wy {P:atb} {C:FuncId->Array as7->Mem->as7->Mem->Prop} {ops:List Oper} {B:Array Nat}:∀(l:List Oper) (i:Nat) (A hG:Acc) (fr bA:Nat->as7) (m m':Mem),(∀x∈hG.reads,x∈A.reads)->(∀x∈hG.gg,x∈A.gg)->(∀x∈hG.news,x∈A.news)->gT P C ops B i l A fr m bA m'->gT P C ops B i l hG fr m bA m'
 |[],i,A,hG,fr,bA,m,m',_,_,_,h=>h
 |o::l,i,A,hG,fr,bA,m,m',U,aa,ao,h=>by
  simp only[gT] at h⊢;split at h
  ·rename_i hw;rw[if_pos hw];rcases h with ⟨v,aL,aQ⟩|⟨v,aL,an,aQ⟩|⟨X,v,aL,aQ⟩|⟨v,bx,aL,aU,aO,aQ⟩
   ·exact .inl ⟨v,aL,wy l _ _ _ _ _ _ _ U aa ao aQ⟩
   ·refine .inr (.inl ⟨v,aL,fun x ad=>an x (aa x ad),wy l _ {A with reads:=_::A.reads} _ _ _ _ _ (fun x ad=> ?_) aa ao aQ⟩)
    grind
   ·refine .inr (.inr (.inl ⟨X,v,aL,wy l _ {A with news:=_::A.news} _ _ _ _ _ U aa (fun x ad=> ?_) aQ⟩))
    grind
   ·refine .inr (.inr (.inr ⟨v,bx,aL,fun x ad=>aU x (U x ad),fun x ad=>aO x (ao x ad),wy l _ {A with gg:=_::A.gg} _ _ _ _ _ U (fun x ad=> ?_) ao aQ⟩))
    grind
  ·rename_i hw;rw[if_neg hw];exact wy l _ _ _ _ _ _ _ U aa ao h
def sC (B:Array Nat) (i:Nat) (A:Acc) (m:Mem):Tag->Mem->Prop
 | .pure,_=>True
 | .read I,_=>∀x∈A.gg,fq B i x.1=as9->I x.2
 | .new,_=>True
 | .e4,bx=>(∀x∈A.reads,fq B i x.1=as9->x.2 bx)/\∀x∈A.news,fq B i x.1=as9->bx.aS x.2=m.aS x.2
def oQ (A:Acc) (i:Nat) (m:Mem):Tag->Acc
 | .pure=>A
 | .read I=>{A with reads:=(i,I)::A.reads}
 | .new=>{A with news:=(i,m.next)::A.news}
 | .e4=>{A with gg:=(i,m)::A.gg}
section
variable {P:atb} {ops l:List Oper} {B:Array Nat} {i:Nat} {A:Acc} {K:(Nat->as7)->Mem->Prop} {fr:Nat->as7} {m:Mem} {o:Oper}
theorem gm.L4 (a5:wanted ops fr o=as5) (h:cd P (a6 fr) o m fun _ v bx=>gm P ops l K (set fr o.dst v) bx):gm P ops (o::l) K fr m:=gm.cons a5 h.w
theorem g4.cons (a5:wanted ops fr o=as5) (h:cd P (a6 fr) o m fun t v bx=>sC B i A m t bx/\g4 P ops B (i+1) l (oQ A i m t) K (set fr o.dst v) bx):g4 P ops B i (o::l) A K fr m:=by
 have up:∀{n n':Nat} (_:n<=n') {l:List Oper} {i:Nat} {A:Acc} {fr bA:Nat->as7} {m m':Mem},gT P (iq P n) ops B i l A fr m bA m'->gT P (iq P n') ops B i l A fr m bA m':=fun a2=>sG (uw _ _ a2) _ _ _ _ _ _ _;rcases h with ⟨v,h,_,n,bA,m',U,aa⟩|⟨v,I,h,_,n,bA,m',U,aa⟩|⟨v,h,an,n,bA,m',U,aa⟩|⟨X,v,h,_,n,bA,m',U,aa⟩|⟨e5,v,bx,h,an,n,bA,m',U,aa⟩
 ·refine ⟨n,bA,m', ?_,aa⟩;simp only[gT];rw[if_pos a5];exact .inl ⟨v,h,U⟩
 ·refine ⟨n,bA,m', ?_,aa⟩;simp only[gT];rw[if_pos a5];exact .inl ⟨v,h,wy _ _ {A with reads:=(i,I)::A.reads} A _ _ _ _ (fun x ad=>List.mem_cons_of_mem _ ad) (fun x ad=>ad) (fun x ad=>ad) U⟩
 ·refine ⟨n,bA,m', ?_,aa⟩;simp only[gT];rw[if_pos a5];exact .inr (.inl ⟨v,h,an,U⟩)
 ·refine ⟨n,bA,m', ?_,aa⟩;simp only[gT];rw[if_pos a5];exact .inr (.inr (.inl ⟨X,v,h,U⟩))
 ·refine ⟨max e5 n,bA,m', ?_,aa⟩;simp only[gT];rw[if_pos a5];exact .inr (.inr (.inr ⟨v,bx,h.mono (uw _ _ (Nat.le_max_left _ _)),an.1,an.2,up (Nat.le_max_right _ _) U⟩))
theorem g4.skip (a5:wanted ops fr o=as9) (h:g4 P ops B (i+1) l A K (set fr o.dst undef) m):g4 P ops B i (o::l) A K fr m:=by
 obtain ⟨n,bA,m',U,aa⟩:=h;refine ⟨n,bA,m', ?_,aa⟩
 grind [gT]
theorem g4.done (h:∀bA,bA=fr->K bA m):g4 P ops B i [] A K fr m:=⟨0,_,_,⟨rfl,rfl⟩,h _ rfl⟩
end
theorem agB {P:atb} {af:atd->as7} {o:Oper} {aB:Type} {T:cr aB} {z:Nat->bm} {xs:List aB} {v:as7} {x:atd} {t:atc} {i:TypeInfo} {bD aj:Option atd} {a b:Int} {r:List aB} (h:o.op= .slice t x bD aj as6) (au:P.underlying t=as4 (.slice T.tid)) (eo:P.info? T.tid=as4 i) (b6:i.size=T.a9) (ad:af x=v)
  (ef:wb af bD a) (dA:wY af aj xs.length b) (aE:eC T z xs v) (aF:hj xs a b=as4 r):
  ∃bH,(cX P af o bH\/∀m,jU z m->eJ P af o m bH)/\eC T z r bH:=by
 obtain ⟨bg,U,aa,rfl⟩:=On aF;obtain ⟨a',rfl⟩:=auF bg;obtain ⟨cR,rfl⟩:=auF (Int.le_trans bg U);have mL:a'<=cR:=by omega
 have lJ:cR<=xs.length:=by omega
 simp only[auc];have M1:=FE ef;have MU:=Ft dA;have hlen:((xs.take cR).drop a').length=cR - a':=by grind
 rcases aE with ⟨rfl,rfl⟩|⟨il,off,c,rfl,Ei,iy,me⟩
 ·have oW:cR=0:=by grind
  subst oW;have acf:a'=0:=by omega
  subst acf;exact ⟨.slice as6 0 0, .inl (.kK t x bD aj T.tid i h au eo ad M1 MU), .inl ⟨rfl,by rfl⟩⟩
 ·have Uf:∀o',o'=off+a'*T.a9->∀(k:Nat) (w:aB),((xs.take cR).drop a')[k]? =as4 w->∃cs,T.rd z w cs/\mW z il (o'+k*T.a9) cs:=by
   intro o' kC k w ar;obtain ⟨cs,aU,aO⟩:=me _ w (FL ar)
   grind
  rcases iy with ⟨rfl,L,cV,tS⟩|⟨ah,hle⟩
  ·refine ⟨_, .inr fun m a4=>(.slice t x bD aj T.tid i L il off xs.length a' cR h au eo ad ?_ M1 MU mL lJ (by grind)), ?_⟩
   ·rw[(a4.hv Ei).1];grind
   ·refine .inr ⟨il,off+a'*T.a9,cF,by grind,Ei, .inl ⟨rfl,L,cV, ?_⟩,Uf _ rfl⟩;rw[hlen,atY,<-atJ];have:(a'+(cR - a'))*T.a9<=xs.length*T.a9:=aug _ (by omega);omega
  ·refine ⟨_, .inl (.slice t x bD aj T.tid i il off xs.length c a' cR h au eo ad (by grind) M1 MU mL (by omega) (fun _=>trivial)), ?_⟩;by_cases kB:c=a'
   ·have arx:cR - a'=0:=by omega
    refine .inr ⟨il,off,c - a',by grind,Ei, .inr ⟨by omega,by grind⟩,fun k w ar=> ?_⟩
    grind
   ·refine .inr ⟨il,off+a'*T.a9,c - a',by grind,Ei, .inr ⟨by omega,by grind⟩,Uf _ rfl⟩
section
variable {aB:Type} {T:cr aB} {z z':Nat->bm} {e m m':Mem} {k q:Option Nat} {xs:List aB} {v:as7} {b:Nat} {cs:List as7} {t:atc}
variable {P:atb} {af:atd->as7} {o:Oper} {w:as7} {b1:List aB} {x y:atd} {u:atc} {i:TypeInfo} {K:as7->Mem->Prop} {D:Tag->as7->Mem->Prop}
theorem FP (h:o.op= .call {callee:= .builtin .append,args:=#[x,y],argTypes:=#[t,u]}) (au:P.underlying t=as4 (.slice T.tid)) (aj:P.info? T.tid=as4 i) {cN:as7} (gR:i.zero=as4 cN) (da:cN.cells.toList.all cQ=as5) (dU:cN.cells.size=i.size)
  (b6:i.size=T.a9) (gA:(T.a9==0)=as9) (gO:atn i.bytes 32768=as5) (hu:(∃b0,P.underlying u=as4 (.slice b0))\/P.underlying u=as4 .string) (ad:af x=v) (aE:dL T z e m k xs v) (aJ:af y=w) (lg:Src T z m b1 w)
  (aM:dp z e m k) {r:List aB} (aF:cl xs b1=as4 r)
  (ar:∀bH m',dp z e m' k->dL T z e m' k r bH->fD m m' (cY v)->(∀p,(∀b,p=as4 b->b<m.next)->eB p (cY v)->eB p (cY bH))->D .e4 bH m'):cd P af o m D:=by
 obtain ⟨bH,m',U,aa,ao,aN,bI⟩:=ajb (C:=iq P 0) h au aj gR da dU b6 (by grind) (ato gO) hu ad aE aJ lg aM aF
 grind [cd.e4]
theorem YQ {x0:aB} {b5 cc:as'} {n:Int} (h:o.op= .makeSlice t x y) (au:P.underlying t=as4 (.slice T.tid)) (aj:P.info? T.tid=as4 i) {cN:as7} (gR:i.zero=as4 cN) (da:cN.cells.toList.all cQ=as5) (dU:cN.cells.size=i.size) (b6:i.size=T.a9) (gO:atn i.bytes 32768=as5)
  (ez:T.rd z x0 cN.cells.toList) (ad:af x= .int b5 n) (aJ:af y= .int cc n) (aM:dp z e m k) {r:List aB} (aF:iM x0 n=as4 r)
  (ar:∀bH m',dp z e m' k->dL T z e m' k r bH->fD m m' as6->(∀p,(∀b,p=as4 b->b<m.next)->eB p (cY bH))->D .new bH m'):cd P af o m D:=by
 obtain ⟨bH,m',L,dZ,U,rfl,aa,ao,aN,bI⟩:=aff h au aj gR da dU b6 (ato gO) ez ad aJ aM aF
 grind [cd.new]
theorem Pr {cm:Array (Nat×atd)} {l:Nat} (h:o.op= .buildSlice t l cm) (au:P.underlying t=as4 (.slice T.tid)) (aj:P.info? T.tid=as4 i) {cN:as7} (gR:i.zero=as4 cN) (da:cN.cells.toList.all cQ=as5) (dU:cN.cells.size=i.size) (b6:i.size=T.a9)
  (as:List aB) (iI:List (List as7)) (ax:as.length=l) (si:atn (l*T.a9) 16777216=as5) (ss:aty l 9223372036854775808=as5) (ag:uA T z af cm.toList 0 as iI) (aM:dp z e m k)
  (ar:∀bH m',dp z e m' k->dL T z e m' k as bH->fD m m' as6->(∀p,(∀b,p=as4 b->b<m.next)->eB p (cY bH))->D .new bH m'):cd P af o m D:=by
 obtain ⟨bH,m',L,dZ,U,rfl,aa,ao,aN,bI⟩:=apq h au aj gR da dU b6 ax (ato si) (by simp_all) ag aM
 grind [cd.new]
theorem apw {s:List UInt8} {tid:atc} (h:o.op= .convert u t x) (hu:P.underlying u=as4 .string) (au:P.underlying t=as4 (.slice tid)) (he:P.underlying tid=as4 (.int .u8)) (aj:P.info? tid=as4 i) (ju:i.size=1) (ad:af x=str s) {ig:List UInt8} (ax:cl s []=as4 ig) (aM:dp z e m k)
  (ar:∀bH m',dp z e m' k->dL (js tid) z e m' k ig bH->fD m m' as6->(∀p,(∀b,p=as4 b->b<m.next)->eB p (cY bH))->D .new bH m'):cd P af o m D:=by
 obtain ⟨lP,rfl⟩:=rn ax;rw[auY] at ar;obtain ⟨bH,m',L,dZ,U,rfl,aa,ao,aN,bI⟩:=apr h hu au he aj ju ad (by grind [qH]) aM
 grind [cd.new]
theorem US {off:Nat} {new:List as7} {gV:atc} (h:o.op= .store t x y) (aj:P.info? t=as4 i) (ad:af x= .pointer (as4 ⟨b,off,as6⟩)) (aJ:af y=w) (ab:storable w=as5) (a2:w.cells.toList=new) (aE:new.length=i.size) (ag:iG z e m k b cs gV) (ax:atn (off+new.length) cs.length=as5) (cs':List as7) (h3:e1 cs off new=cs') (aM:dp z e m k)
  (ar:∀m',dp z e m' k->iG z e m' k b cs' gV->fD m m' (as4 b)->D .e4 undef m'):cd P af o m D:=by
 obtain ⟨m',U,aa,ao,aN⟩:=abH (C:=iq P 0) h aj ad aJ ab a2 aE ag (ato ax) h3 aM
 grind [cd.e4]
theorem EF {off f0 n f l c:Nat} {new qO xZ:List as7} {a a':aB} (h:o.op= .store t x y) (aj:P.info? t=as4 i) (ad:af x= .pointer (as4 ⟨b,off,as6⟩)) (pX:off=f0+n*T.a9+f) (aJ:af y=w) (ab:storable w=as5) (a2:w.cells.toList=new) (aE:new.length=i.size)
  (an:dL T z e m k xs v) (o5:v= .slice (as4 ⟨b,f0,as6⟩) l c) (aY:xs[n]? =as4 a) (aF:T.rd z a qO) (ah:∀(i:Nat) (u:as7),qO[i]? =as4 u->m.load b (f0+n*T.a9+i)=as4 u) (lf:T.rd z a' xZ) (h3:xZ=e1 qO f new) (bd:atn (f+new.length) qO.length=as5) (aM:dp z e m k)
  (ar:∀m',dp z e m' k->dL T z e m' k (xs.set n a') v->fD m m' (cY v)->D .e4 undef m'):cd P af o m D:=by
 obtain ⟨m',U,aa,ao,aN⟩:=abJ (C:=iq P 0) h aj ad pX aJ ab a2 aE an o5 aY aF ah lf h3 (ato bd) aM
 grind [cd.e4]
theorem afl {b5:as'} {n:Int} {a:aB} {gV:atc} (h:o.op= .indexAddr t x y) (au:P.underlying t=as4 (.slice gV)) (aj:P.info? gV=as4 i) (b6:i.size=T.a9) (ad:af x=v) (aJ:af y= .int b5 n) (aE:eC T z xs v) (a5:aD xs n=as4 a)
  (ar:∀b off cs,T.rd z a cs->mW z b off cs->D .pure (.pointer (as4 ⟨b,off,as6⟩)) m):cd P af o m D:=by
 obtain ⟨b,off,cs,U,aa,ao⟩:=afe h au aj b6 ad aJ aE a5
 grind [cd.pure]
theorem YP {b5:as'} {n:Int} {a:aB} {gV:atc} (h:o.op= .indexAddr t x y) (au:P.underlying t=as4 (.slice gV)) (aj:P.info? gV=as4 i) (b6:i.size=T.a9) (ad:af x=v) (aJ:af y= .int b5 n) (aE:dL T z e m k xs v) (a5:aD xs n=as4 a)
  (ar:∀b f0 l c cs,v= .slice (as4 ⟨b,f0,as6⟩) l c->T.rd z a cs->xs[n.toNat]? =as4 a->(∀(j:Nat) (u:as7),cs[j]? =as4 u->m.load b (f0+n.toNat*T.a9+j)=as4 u)->D .pure (.pointer (as4 ⟨b,f0+n.toNat*T.a9,as6⟩)) m):cd P af o m D:=by
 obtain ⟨b,f0,l,c,cs,U,aa,ao,aN⟩:=afd h au aj b6 ad aJ aE a5;exact cd.pure U (ar _ _ _ _ _ aa ao (m1 a5).2.2 aN)
theorem aei {bD aj:Option atd} {a b:Int} {r:List aB} (h:o.op= .slice t x bD aj as6) (au:P.underlying t=as4 (.slice T.tid)) (eo:P.info? T.tid=as4 i) (b6:i.size=T.a9) (ad:af x=v)
  (ef:wb af bD a) (dA:wY af aj xs.length b) (aE:eC T z xs v) (aM:dp z e m k) (aF:hj xs a b=as4 r) (ar:∀bH I,(∀m,jU z m->I m)->eC T z r bH->D (.read I) bH m):cd P af o m D:=by
 obtain ⟨bH,U,aa⟩:=agB h au eo b6 ad ef dA aE aF;rcases U with U|U
 ·exact cd.Vo (I:=fun _=>True) U (ar _ _ (fun _ _=>trivial) aa)
 ·exact cd.read (U m aM.bi) (ar _ _ U aa)
theorem afj {s r:List UInt8} {bD aj:Option atd} {a b:Int} (h:o.op= .slice t x bD aj as6) (au:P.underlying t=as4 .string) (ad:af x=str s) (ef:wb af bD a) (dA:wY af aj s.length b) (aF:hj s a b=as4 r) (ar:D .pure (str r) m):cd P af o m D:=by
 obtain ⟨bg,U,aa,rfl⟩:=On aF;obtain ⟨a',rfl⟩:=auF bg;obtain ⟨cR,rfl⟩:=auF (Int.le_trans bg U);exact cd.pure (XP h au ad (FE ef) (Ft dA) (by omega) (by omega)) ar
theorem aj9 {s:List UInt8} {c:UInt8} {b5:as'} {n:Int} (h:o.op= .index t x y) (au:P.underlying t=as4 .string) (ad:af x=str s) (aJ:af y= .int b5 n) (a5:aD s n=as4 c) (ar:D .pure (.int .u8 c.toNat) m):cd P af o m D:=by
 obtain ⟨bg,U,aa⟩:=m1 a5;exact cd.pure (XO h au ad aJ bg aa) ar
theorem afn {s:List UInt8} {tid:atc} (h:o.op= .convert t u x) (au:P.underlying t=as4 (.slice tid)) (he:P.underlying tid=as4 (.int .u8)) (hu:P.underlying u=as4 .string) (ad:af x=v) (aE:eC (js tid) z s v) (aM:dp z e m k) (ar:D (.read fun m=>eJ P af o m (str s)) (str s) m):cd P af o m D:=
 cd.read (Zu h au he hu ad (aE.src aM.bi) (by obtain ⟨a,c,rfl⟩:=aE.len;grind)) ar
theorem afm {s:List UInt8} {tid:atc} (h:o.op= .convert t u x) (au:P.underlying t=as4 (.slice tid)) (he:P.underlying tid=as4 (.int .u8)) (hu:P.underlying u=as4 .string) (ad:af x=v) (aE:dL (js tid) z e m k s v) (ar:D (.read fun m=>eJ P af o m (str s)) (str s) m):cd P af o m D:=
 cd.read (Zu h au he hu ad aE.bs.src (by obtain ⟨a,c,rfl⟩:=aE.bs.len;exact ⟨_,_,_,rfl⟩)) ar
theorem aj8 {cm:Array (Nat×atd)} {bl:Array Field} {pl:List (Option (Nat×Nat))} {cN:as7} (vs:List (Nat×as7)) (cs:List as7) (h:o.op= .build t cm) (au:P.underlying t=as4 (.struct bl)) (aj:P.info? t=as4 i) (a4:i.zero=as4 cN) (da:cN.cells.toList.all cQ=as5)
  (yu:lV P bl=pl) (aL:pl.all avs=as5) (oj:cm.toList.map (fun p=>(p.1,af p.2))=vs) (ah:jc (fun k=>(pl[k]?).join) cN.cells.toList vs=as4 cs) (ar:D .pure (.agg cs.toArray) m):cd P af o m D:=by
 subst yu oj;exact cd.pure (.build t cm bl i cN cs h au aj a4 da (by grind) ah) ar
variable {ops l:List Oper} {fr:Nat->as7} {nY:(Nat->as7)->Mem->Prop}
theorem gm.L3 {j d:Nat} {want mH:Bool} (a5:o.guard=as4 (j,want)) (aQ:(ops[j]?).bind (·.dst)=as4 d) (ab:fr d= .bool mH) (ag:mH=want) (h:cd P (a6 fr) o m fun _ v bx=>gm P ops l nY (set fr o.dst v) bx):gm P ops (o::l) nY fr m:=
 gm.L4 (by subst ag;simp[wanted,a5,aQ,ab]) h
theorem gm.JF {j d:Nat} {want mH:Bool} (a5:o.guard=as4 (j,want)) (aQ:(ops[j]?).bind (·.dst)=as4 d) (ab:fr d= .bool mH) (ag:mH= !want) (h:gm P ops l nY (set fr o.dst undef) m):gm P ops (o::l) nY fr m:=
 gm.skip (by subst ag;simp[wanted,a5,aQ,ab]) h
theorem gm.Qh {j d:Nat} {want:Bool} (a5:o.guard=as4 (j,want)) (aQ:(ops[j]?).bind (·.dst)=as4 d) (ab:fr d=undef) (h:gm P ops l nY (set fr o.dst undef) m):gm P ops (o::l) nY fr m:=
 gm.skip (by simp[wanted,a5,aQ,ab,undef]) h
theorem g4.L3 {B:Array Nat} {n:Nat} {A:Acc} {j d:Nat} {want mH:Bool} (a5:o.guard=as4 (j,want)) (aQ:(ops[j]?).bind (·.dst)=as4 d) (ab:fr d= .bool mH) (ag:mH=want) (h:cd P (a6 fr) o m fun t v bx=>sC B n A m t bx/\g4 P ops B (n+1) l (oQ A n m t) nY (set fr o.dst v) bx):g4 P ops B n (o::l) A nY fr m:=
 g4.cons (by subst ag;simp[wanted,a5,aQ,ab]) h
theorem g4.JF {B:Array Nat} {n:Nat} {A:Acc} {j d:Nat} {want mH:Bool} (a5:o.guard=as4 (j,want)) (aQ:(ops[j]?).bind (·.dst)=as4 d) (ab:fr d= .bool mH) (ag:mH= !want) (h:g4 P ops B (n+1) l A nY (set fr o.dst undef) m):g4 P ops B n (o::l) A nY fr m:=
 g4.skip (by subst ag;simp[wanted,a5,aQ,ab]) h
theorem g4.Qh {B:Array Nat} {n:Nat} {A:Acc} {j d:Nat} {want:Bool} (a5:o.guard=as4 (j,want)) (aQ:(ops[j]?).bind (·.dst)=as4 d) (ab:fr d=undef) (h:g4 P ops B (n+1) l A nY (set fr o.dst undef) m):g4 P ops B n (o::l) A nY fr m:=
 g4.skip (by simp[wanted,a5,aQ,ab,undef]) h
end
end Go.ay
end
section
namespace Go.ay
theorem Vu {d:TypeDesc} {k:as7} (ar:avt d k):∀(l:List MapEntry) (i:Nat),(∀x∈l,avt d x.key)->Instr.findNow d k l i=as4 (m3 k l i)
 |[],i,_=>rfl
 |e::es,i,h=>by
  obtain ⟨r,aF,arT⟩:=MapKept.sameNow_of_keys ar (h e (.head _));have aq:=Vu ar es (i+1) (fun x ad=>h x (.tail _ ad))
  grind [m3,Instr.findNow]
theorem aiO {P:atb} {bh:atc} {d:TypeDesc} (aQ:P.underlying bh=as4 d) {g6:as7->Prop} (a5:∀v,g6 v->avt d v):Keyed P bh g6 where
 check:=fun em v w h=>MapKept.run_checkKey aQ (a5 v h) em _
 find:=fun v es w h aE=>MapKept.run_findKey aQ (Vu (a5 v h) es 0 fun x ad=>a5 _ (aE x ad))
 stays:=fun v w h=>MapKept.run_keyThatStays (a5 v h)
structure nn (aB bK:Type) where
 eb:aB->List as7
 vc:bK->List as7
 tid:atc
structure oO (P:atb) (bh:atc) {aB:Type} (eb:aB->List as7):Prop where
 len:∀a,(eb a).length=P.cellsOf bh
 pos:0<P.cellsOf bh
 flat:∀a,(eb a).all cQ=as5
 Mq:∀a,ay.flat (dY (dG P bh) (eb a))=as5
 inj:∀a b,dY (dG P bh) (eb a)=dY (dG P bh) (eb b)->a=b
 keyed:Keyed P bh fun v=>∃a,v=dY (dG P bh) (eb a)
structure pJ (P:atb) (bc:atc) {bK:Type} (vc:bK->List as7):Prop where
 len:∀b,(vc b).length=P.cellsOf bc
 one:dG P bc=as9->P.cellsOf bc=1
 flat:∀b,(vc b).all cQ=as5
def UR (k:as') (n:Int):List as7:=[.int k n]
def aej (s:List UInt8):List as7:=[str s]
def YO (b:Bool):List as7:=[.bool b]
theorem Yx {P:atb} {t:atc} {d:TypeDesc} (h:P.underlying t=as4 d) (aQ:jz d=as9):dG P t=as9:=by grind [dG]
theorem aoh {a b:List UInt8} (h:str a=str b):a=b:=by
 grind [str]
section
variable {aB bK:Type}
def nN [DecidableEq aB]:List (aB×bK)->aB->Option bK
 |[],_=>as6
 |p::es,a=>if p.1=a then as4 p.2 else nN es a
def sY [DecidableEq aB]:List (aB×bK)->aB->bK->List (aB×bK)
 |[],a,b=>[(a,b)]
 |p::es,a,b=>if p.1=a then (p.1,b)::es else p::sY es a b
def nn.n9 (M:nn aB bK) (es:List (aB×bK)):List (List as7×List as7):=es.map fun p=>(M.eb p.1,M.vc p.2)
def nn.cells (M:nn aB bK) (es:List (aB×bK)):List as7:=(M.n9 es).flatMap fun p=>p.1++p.2
structure iw (M:nn aB bK) (z:Nat->bm) (e m:Mem) (k:Option Nat) (es:List (aB×bK)) (v:as7):Prop where
 bs:∃r,v= .map (as4 r)/\m.aS r= .map (M.cells es) M.tid/\r<m.next/\z r= .dead/\e.next<=r
def lz (M:nn aB bK) (z:Nat->bm) (es:List (aB×bK)) (v:as7):Prop:=
 (v= .map as6/\es=[])\/∃r,v= .map (as4 r)/\z r= .map (M.cells es) M.tid
def rB:as7->Option Nat
 | .map r=>r
 |_=>as6
variable {M:nn aB bK} {z z':Nat->bm} {e m m':Mem} {k q:Option Nat} {es:List (aB×bK)} {v:as7}
theorem iw.lt (h:iw M z e m k es v):∀b,rB v=as4 b->b<m.next:=by
 obtain ⟨r,rfl,U,aa,ao,aN⟩:=h.bs;intro b ag;cases ag;grind
theorem iw.same (h:iw M z e m k es v) (s:fD m m' q) (e3:eB (rB v) q):iw M z e m' k es v:=by
 obtain ⟨r,rfl,U,aa,ao,aN⟩:=h.bs;exact ⟨r,rfl,by rw[s.aS r aa (e3 r rfl)];grind,atu aa s.next,ao,aN⟩
theorem iw.iF (h:iw M z e m k es v) (a4:eM z z') (ag:∀b,rB v=as4 b->z' b=z b):iw M z' e m k es v:=by
 obtain ⟨r,rfl,U,aa,ao,aN⟩:=h.bs;exact ⟨r,rfl,U,aa,by rw[ag r rfl];grind,aN⟩
theorem iw.bb (h:iw M z e m k es v):∀c,rB v=as4 c->z c= .dead/\(e.next<=c\/k=as4 c):=by
 obtain ⟨r,rfl,U,aa,ao,aN⟩:=h.bs;intro c ah;cases ah;grind
theorem iw.freeze (h:iw M z e m k es v) (aM:dp z e m k):∃z',dt e.next z z'/\dp z' e m k/\lz M z' es v/\∀p,eB p (rB v)->∀b,p=as4 b->z' b=z b:=by
 obtain ⟨r,rfl,U,aa,ao,aN⟩:=h.bs;refine ⟨iK z m (as4 r),⟨zt fun b ag=>by grind,fun b ag=> ?_⟩,⟨Gf aM.bi (fun b ag=>by cases ag;exact ⟨aa,by rw[U];rfl⟩),aM.dead,aM.l8,aM.next,aM.kept⟩, .inr ⟨r,rfl,by grind [iK]⟩,fun p aL b ag=> ?_⟩
 ·grind [iK]
 ·have:=aL b ag;unfold iK;rw[if_neg (show ¬as4 r=as4 b from this)]
theorem lz.mono (h:lz M z es v) (a4:eM z z'):lz M z' es v:=by
 rcases h with h|⟨r,rfl,U⟩
 ·exact .inl h
 ·exact .inr ⟨r,rfl,by rw[a4 r (by rw[U];exact atm)];grind⟩
theorem Xv {P:atb} {bh bc:atc} (K:oO P bh M.eb) (V:pJ P bc M.vc) (es:List (aB×bK)):nm (P.cellsOf bh) (P.cellsOf bc) (M.cells es) (M.n9 es):=by
 refine ⟨rfl,fun p aL=> ?_⟩;obtain ⟨x,ad,rfl⟩:=atw.1 aL;exact ⟨K.len _,V.len _⟩
theorem Xo [DecidableEq aB] {P:atb} {bh bc:atc} (K:oO P bh M.eb) (a:aB) (cg:bK):∀es:List (aB×bK),qI (dG P bh) (dG P bc) (dY (dG P bh) (M.eb a)) (dY (dG P bc) (M.vc cg)) (M.n9 es) (dY (dG P bc) (M.vc ((nN es a).getD cg))) (nN es a).isSome
 |[]=> .mR
 |p::es=>by
  simp only[nN];by_cases h:p.1=a
  ·rw[if_pos h];exact .oe (M.eb p.1,M.vc p.2) (M.n9 es) (by grind)
  ·rw[if_neg h];exact .next (M.eb p.1,M.vc p.2) (M.n9 es) _ _ (fun bJ=>h (K.inj _ _ bJ)) (Xo K a cg es)
theorem Yk [DecidableEq aB] {P:atb} {bh:atc} (K:oO P bh M.eb) (a:aB) (b:bK):∀es:List (aB×bK),qL (dG P bh) (M.eb a) (M.vc b) (M.n9 es) (M.n9 (sY es a b))
 |[]=> .mR
 |p::es=>by
  simp only[sY];by_cases h:p.1=a
  ·rw[if_pos h];exact .oe (M.eb p.1,M.vc p.2) (M.n9 es) (by grind)
  ·rw[if_neg h];exact .next (M.eb p.1,M.vc p.2) (M.n9 es) _ (fun bJ=>h (K.inj _ _ bJ)) (Yk K a b es)
theorem V7 {P:atb} {bh:atc} (es:List (aB×bK)):∀p∈M.n9 es,∃a,dY (dG P bh) p.1=dY (dG P bh) (M.eb a):=by
 intro p aL;obtain ⟨x,ad,rfl⟩:=atw.1 aL
 grind
theorem NY {P:atb} {bc:atc} {vc:bK->List as7} (V:pJ P bc vc) (b:bK):iR (dY (dG P bc) (vc b))=as5:=by
 have U:=V.flat b;have aa:=V.len b;cases aY:dG P bc with
 |true=>grind [dY,iR]
 |false=>
  rw[V.one aY] at aa
  match ab:vc b,aa with
  |[c],_=>rw[ab] at U;simp at U;simp only[dY,List.headD_cons];cases c<;>first|exact U|grind [cQ]|(simp[cQ] at U;simp[U])
variable {P:atb} {af:atd->as7} {o:Oper} {D:Tag->as7->Mem->Prop} {x cJ:atd} {fh bh bc:atc} {i:TypeInfo} {a:aB} {cg:bK} {bR qv:as7} {ok:Bool}
theorem X3 [DecidableEq aB] {r:Nat} (h:o.op= .lookup fh x cJ ok) (g0:P.underlying fh=as4 (.map bh bc)) (hu:P.underlying M.tid=as4 (.map bh bc)) (K:oO P bh M.eb) (V:pJ P bc M.vc) (aj:P.info? bc=as4 i) (a4:i.zero=as4 (dY (dG P bc) (M.vc cg)))
  (ad:af x= .map (as4 r)) (hm:m.aS r= .map (M.cells es) M.tid) (lM:af cJ=dY (dG P bh) (M.eb a)):
  eJ P af o m (if ok then .tuple #[dY (dG P bc) (M.vc ((nN es a).getD cg)), .bool (nN es a).isSome] else dY (dG P bc) (M.vc ((nN es a).getD cg))):=
 .lookup fh x cJ ok M.tid bh bc r _ _ i _ _ _ _ h g0 hu (.inl ⟨ad,hm,Xv K V es⟩) K.pos V.one K.keyed (by rw[lM];exact K.Mq a) ⟨a,lM⟩ (V7 es) aj a4 (NY V cg) (by rw[lM];exact Xo K a cg es)
theorem apt [DecidableEq aB] (h:o.op= .lookup fh x cJ ok) (g0:P.underlying fh=as4 (.map bh bc)) (hu:P.underlying M.tid=as4 (.map bh bc)) (K:oO P bh M.eb) (V:pJ P bc M.vc) (aj:P.info? bc=as4 i) (a4:i.zero=as4 (dY (dG P bc) (M.vc cg)))
  (ad:af x=v) (an:iw M z e m k es v) (lM:af cJ=qv) (om:qv=dY (dG P bh) (M.eb a)) {y:Option bK} (aJ:nN es a=y)
  (hw:(if ok then .tuple #[dY (dG P bc) (M.vc (y.getD cg)), .bool y.isSome] else dY (dG P bc) (M.vc (y.getD cg)))=bR):eJ P af o m bR:=by
 obtain ⟨r,rfl,U,_⟩:=an.bs
 grind [X3]
theorem X7 [DecidableEq aB] (h:o.op= .lookup fh x cJ ok) (g0:P.underlying fh=as4 (.map bh bc)) (hu:P.underlying M.tid=as4 (.map bh bc)) (K:oO P bh M.eb) (V:pJ P bc M.vc) (aj:P.info? bc=as4 i) (a4:i.zero=as4 (dY (dG P bc) (M.vc cg)))
  (ad:af x=v) (an:iw M z e m k es v) (lM:af cJ=qv) (om:qv=dY (dG P bh) (M.eb a)) {y:Option bK} (aJ:nN es a=y)
  (hw:(if ok then .tuple #[dY (dG P bc) (M.vc (y.getD cg)), .bool y.isSome] else dY (dG P bc) (M.vc (y.getD cg)))=bR) (ar:D (.read fun m=>eJ P af o m bR) bR m):cd P af o m D:=
 cd.read (apt h g0 hu K V aj a4 ad an lM om aJ hw) ar
theorem apu [DecidableEq aB] (h:o.op= .lookup fh x cJ ok) (g0:P.underlying fh=as4 (.map bh bc)) (hu:P.underlying M.tid=as4 (.map bh bc)) (K:oO P bh M.eb) (V:pJ P bc M.vc) (aj:P.info? bc=as4 i) (a4:i.zero=as4 (dY (dG P bc) (M.vc cg)))
  (ad:af x=v) (an:lz M z es v) (bi:jU z m) (lM:af cJ=qv) (om:qv=dY (dG P bh) (M.eb a)) {y:Option bK} (aJ:nN es a=y)
  (hw:(if ok then .tuple #[dY (dG P bc) (M.vc (y.getD cg)), .bool y.isSome] else dY (dG P bc) (M.vc (y.getD cg)))=bR):eJ P af o m bR:=by
 subst hw aJ;rcases an with ⟨rfl,rfl⟩|⟨r,rfl,U⟩
 ·exact .lookup fh x cJ ok M.tid bh bc 0 [] [] i _ _ _ _ h g0 hu (.inr ⟨ad,rfl⟩) K.pos V.one K.keyed (by rw[lM,om];exact K.Mq a) ⟨a,lM.trans om⟩ (fun p aL=>by grind) aj a4 (NY V cg) .mR
 ·exact X3 h g0 hu K V aj a4 ad (by rw[(bi.hv (show (_:bm).hv by rw[U];exact atm)).1];grind) (lM.trans om)
theorem X8 [DecidableEq aB] (h:o.op= .lookup fh x cJ ok) (g0:P.underlying fh=as4 (.map bh bc)) (hu:P.underlying M.tid=as4 (.map bh bc)) (K:oO P bh M.eb) (V:pJ P bc M.vc) (aj:P.info? bc=as4 i) (a4:i.zero=as4 (dY (dG P bc) (M.vc cg)))
  (ad:af x=v) (an:lz M z es v) (aM:dp z e m k) (lM:af cJ=qv) (om:qv=dY (dG P bh) (M.eb a)) {y:Option bK} (aJ:nN es a=y)
  (hw:(if ok then .tuple #[dY (dG P bc) (M.vc (y.getD cg)), .bool y.isSome] else dY (dG P bc) (M.vc (y.getD cg)))=bR) (ar:D (.read fun m=>eJ P af o m bR) bR m):cd P af o m D:=
 cd.read (apu h g0 hu K V aj a4 ad an aM.bi lM om aJ hw) ar
theorem aiN {t:atc} (M:nn aB bK) (h:o.op= .makeMap t as6) (au:P.underlying t=as4 (.map bh bc)) (aw:M.tid=t) (aM:dp z e m k)
  (ar:∀bH m',dp z e m' k->iw M z e m' k [] bH->fD m m' as6->(∀p,(∀b,p=as4 b->b<m.next)->eB p (rB bH))->D .new bH m'):cd P af o m D:=by
 have aea:z m.next= .dead:=by
  cases a4:z m.next with
  |dead=>rfl
  |ro rd=>have:=(aM.bi m.next (by grind)).2;omega
  |own L t=>have:=(aM.bi m.next (by grind)).2;omega
  |map L t=>have:=(aM.bi m.next (by grind)).2;omega
  |lock _ _ _ _=>have:=(aM.bi m.next (by grind)).2;omega
 refine cd.new (.makeMap t bh bc h au) (ar _ _ (aM.push _) ⟨m.next,rfl,by grind [Mem.push,nn.cells,nn.n9],by simp[Mem.push],aea,aM.next⟩ (yS aM.dead) fun p aL b ag yf=> ?_);cases yf
 grind
theorem aj' [DecidableEq aB] {gC gj:atd} {b:bK} {xg:as7} (h:o.op= .mapUpdate fh x gC gj\/o.op= .insert fh x gC gj) (g0:P.underlying fh=as4 (.map bh bc)) (hu:P.underlying M.tid=as4 (.map bh bc)) (K:oO P bh M.eb) (V:pJ P bc M.vc)
  (ad:af x=v) (an:iw M z e m k es v) (mg:af gC=qv) (om:qv=dY (dG P bh) (M.eb a)) (ad0:af gj=xg) (ad4:xg=dY (dG P bc) (M.vc b)) (aM:dp z e m k) {tA:List (aB×bK)} (oc:sY es a b=tA)
  (ar:∀m',dp z e m' k->iw M z e m' k tA v->fD m m' (rB v)->D .e4 undef m'):cd P af o m D:=by
 obtain ⟨r,rfl,U,aa,ao,aN⟩:=an.bs;subst oc;have mh:=yX (x:= .map (M.cells (sY es a b)) M.tid) aM.dead aa;have tN:=NY V b;have Nr:=ad0.trans ad4;have eR:storable (af gj)=as5:=by rw[Nr];cases ah:dY (dG P bc) (M.vc b)<;>first|rfl|grind [iR,cQ]|grind [iR,cQ,storable]
 have acs:∀c∈M.vc b,c∈(af gj).cells.toList:=by
  intro c ah;rw[Nr];cases aY:dG P bc with
  |true=>grind [dY,au3]
  |false=>
   have aa:=V.len b;rw[V.one aY] at aa
   match ab:M.vc b,aa with
   |[d],_=>rw[ab] at ah;simp at ah;subst ah;simp only[dY,List.headD_cons];have bd:=V.flat b;rw[ab] at bd;simp at bd;cases c<;>first|(simp[cQ] at bd;done)|simp[au3]
 refine cd.e4 (n:=0) (.mapUpdate fh x gC gj M.tid bh bc r _ (M.eb a) (M.vc b) _ (M.n9 (sY es a b)) _ h g0 hu ad U (Xv K V es) K.pos K.keyed (mg.trans om) (K.len a) (K.flat a) (by rw[mg,om];exact K.Mq a) ⟨a,mg.trans om⟩ (V7 es) eR Nr (V.len b) acs (Yk K a b es)) (ar _ (aM.same mh an.bb) ⟨r,rfl,by simp[Mem.put,nn.cells],aa,ao,aN⟩ mh)
end
end Go.ay
end
section
namespace Go.ay
section
variable {P:atb} {af:atd->as7} {o:Oper} {x y:atd} {t u:atc} {k ZM:as'} {a:Int}
noncomputable instance asW:DecidableEq as7:=fun _ _=>Classical.propDecidable _
def xK (P:atb) (t:atc) (x y:as7):Prop:=
 (∃k cK a b,P.underlying t=as4 (.int cK)/\x= .int k a/\y= .int k b)\/(∃a b,P.underlying t=as4 .bool/\x= .bool a/\y= .bool b)\/(∃a b,P.underlying t=as4 .string/\x=str a/\y=str b)
def pF (P:atb):List Field->Nat->List as7->List as7->Prop
 |[],_,[],[]=>True
 | f :: bl, i, x :: xs, y :: b1 => f.offset = i ∧ f.name ≠ "_" ∧ xK P f.type x y ∧ pF P bl (i + 1) xs b1
 |_,_,_,_=>False
theorem aiX {t:atc} {x y:as7} (h:xK P t x y) (d:Nat) (w:World):(Op.equalIn (d+1) t x y).run P w= .ok (decide (x=y)) w:=by
 rcases h with ⟨k,cK,a,b,h,rfl,rfl⟩|⟨a,b,h,rfl,rfl⟩|⟨a,b,h,rfl,rfl⟩
 ·rw[run_equalIn_int w d t k cK a b h];congr 1
  grind
 ·rw[run_equalIn_bool' w d t a b h];congr 1
  grind
 ·rw[str,str,run_equalIn_string w d t _ _ h];congr 1
  grind [ByteArray.toList_eq]
theorem ahC {t:atc} {x y:as7} (h:xK P t x y):dG P t=as9:=by
 rcases h with ⟨k,cK,a,b,h,_⟩|⟨a,b,h,_⟩|⟨a,b,h,_⟩<;>simp[dG,h,jz]
theorem WL {t:atc} {cs:Array as7} {i:Nat} {v:as7} (aY:dG P t=as9) {d:TypeDesc} (aQ:P.underlying t=as4 d) (ab:cs[i]? =as4 v) (w:World):(part t cs i).run P w= .ok v w:=by
 simp_all [dG,part,rA]
theorem aiZ {t:atc} {x y:as7} (h:xK P t x y):∃d,P.underlying t=as4 d:=by
 rcases h with ⟨k,cK,a,b,h,_⟩|⟨a,b,h,_⟩|⟨a,b,h,_⟩<;>exact ⟨_,h⟩
theorem VT {pre pre':List as7} (d:Nat) (w:World):∀{bl:List Field} {i:Nat} {xs b1:List as7},pF P bl i xs b1->pre.length=i->pre'.length=i->(Op.eqFields (d+1) (pre++xs).toArray (pre'++b1).toArray bl).run P w= .ok (decide (xs=b1)) w
 |[],i,[],[],_,_,_=>by rfl
 |f::bl,i,x::xs,y::b1,⟨U,aa,ao,aN⟩,aL,tW=>by
  obtain ⟨L9,aQ⟩:=aiZ ao;have aY:=ahC ao;have aU:=WL (P:=P) (cs:=(pre++x::xs).toArray) (i:=f.offset) (v:=x) aY aQ (by grind) w;have aO:=WL (P:=P) (cs:=(pre'++y::b1).toArray) (i:=f.offset) (v:=y) aY aQ (by grind) w;have aq:=VT (pre:=pre++[x]) (pre':=pre'++[y]) d w aN (by grind) (by grind);simp only[List.append_assoc,List.singleton_append] at aq;simp only[Op.eqFields];rw[if_pos aa];simp only[atE,aU,aO,atz,aiX ao d w];by_cases v7:x=y
  ·simp_all
  simp_all
 |[],_,_::_,_,h,_,_=>h.elim
 |[],_,[],_::_,h,_,_=>h.elim
 |_::_,_,[],_,h,_,_=>h.elim
 |_::_,_,_::_,[],h,_,_=>h.elim
theorem aoD {bl:Array Field} {xs b1:List as7} (au:P.underlying t=as4 (.struct bl)) (aL:P.stoodInHeld t=as9) (h:pF P bl.toList 0 xs b1) (w:World):(Op.equalIn 10000 t (.agg xs.toArray) (.agg b1.toArray)).run P w= .ok (decide (xs=b1)) w:=by
 have bd:P.fieldsOf t=bl:=by grind [atb.fieldsOf]
 rw[show (10000:Nat)=9998+1+1 from rfl,run_equalIn_struct w _ t _ _ (by grind) aL,bd];have:=VT (P:=P) (pre:=[]) (pre':=[]) 9998 w h rfl rfl
 grind
theorem pF.flat:∀{bl:List Field} {i:Nat} {xs b1:List as7},pF P bl i xs b1->xs.all cQ=as5/\b1.all cQ=as5
 |[],i,[],[],_=>⟨rfl,rfl⟩
 |f::bl,i,x::xs,y::b1,⟨_,_,ao,aN⟩=>by
  obtain ⟨aU,aO⟩:=pF.flat aN;have:cQ x=as5/\cQ y=as5:=by rcases ao with ⟨k,cK,a,b,h,rfl,rfl⟩|⟨a,b,h,rfl,rfl⟩|⟨a,b,h,rfl,rfl⟩<;>exact ⟨rfl,rfl⟩
  grind
 |[],_,_::_,_,h=>h.elim
 |[],_,[],_::_,h=>h.elim
 |_::_,_,[],_,h=>h.elim
 |_::_,_,_::_,[],h=>h.elim
theorem EZ {bl:Array Field} {xs b1:List as7} {r:Bool} (neq:Bool) (h:o.op= .binOp (if neq then .neq else .eql) t x y u) (au:P.underlying t=as4 (.struct bl)) (aL:P.stoodInHeld t=as9) (a5:P.eqGuardType P.depth t=as9) (aE:pF P bl.toList 0 xs b1)
  (ad:af x= .agg xs.toArray) (aJ:af y= .agg b1.toArray) (aF:r=as5↔xs=b1):cX P af o (.bool (if neq then !r else r)):=by
 have tN:=aE.flat;refine rD (x:=x) (y:=y) (by rw[h];rfl) (by grind) (by grind [flat,iR]) (by grind [flat,iR]) rfl fun w=> ?_;have he:=aoD au aL aE w;have ez:decide (xs=b1)=r:=by
  grind
 rw[ez] at he;cases neq with
 |false=>simp_all [execOp,run_eqGuard_agg,run_eql_struct]
 |true=>simp_all [execOp,run_eqGuard_agg,run_neq_struct]
end
section
variable {aB:Type} {T:cr aB} {z:Nat->bm} {e m:Mem} {k:Option Nat} {xs:List aB} {v:as7} {t:atc}
variable {P:atb} {af:atd->as7} {o:Oper} {x:atd} {i:TypeInfo} {D:Tag->as7->Mem->Prop}
end
@[reducible] def asU (n:Int):as7:= .int .i64 n
@[reducible] def asT (b:Bool):as7:= .bool b
@[reducible] def asV (b:Nat):as7:= .pointer (as4 ⟨b,0,as6⟩)
section
variable {P:atb} {ops l:List Oper} {K:(Nat->as7)->Mem->Prop} {fr:Nat->as7} {m:Mem} {o:Oper} {v:as7}
theorem ap3 (a5:wanted ops fr o=as5) (h:cX P (a6 fr) o v) (ar:gm P ops l K (set fr o.dst v) m):gm P ops (o::l) K fr m:=gm.L4 a5 (cd.pure h ar)
theorem gC {j d:Nat} {want mH:Bool} (a5:o.guard=as4 (j,want)) (aQ:(ops[j]?).bind (·.dst)=as4 d) (ab:fr d= .bool mH) (ag:mH= !want) (h:gm P ops l K (set fr o.dst undef) m):gm P ops (o::l) K fr m:=gm.JF a5 aQ ab ag h
end
structure aq6 {aB:Type} (T:cr aB) (z:Nat->bm) (e m:Mem) (k:Option Nat) (xs:List aB) (v:as7):Prop where
 bs:e9 T z m xs v
 fresh:∀b,cY v=as4 b->e.next<=b\/k=as4 b
section
variable {aB:Type} {T:cr aB} {z z':Nat->bm} {e m m':Mem} {k q:Option Nat} {xs:List aB} {v kr:as7} {t:atc}
variable {P:atb} {af:atd->as7} {o:Oper} {w:as7} {b1:List aB} {x y:atd} {u:atc} {i:TypeInfo} {K:as7->Mem->Prop} {D:Tag->as7->Mem->Prop}
end
end Go.ay
end
section
namespace Go.ay
theorem We (w:World):∀b,(ho w).next<=b->(ho w).aS b= .dead:=(Xr w).dead
theorem akb (w:World):jU (ho w).aS (ho w):=fun b ag=>⟨by
 by_cases h:b<w.heap.size
 ·simp[ho,h,bm.mem]
 ·simp[ho,h,bm.mem],by
 by_cases h:b<(ho w).next
 ·exact h
 ·exact absurd (We w b (by omega)) ag⟩
theorem Ok {w:World} {b:Nat} (h:b<w.heap.size):((ho w).aS b).hv:=by
 simp[ho,h,bm.hv]
theorem aen {w:World} {b o:Nat} {v:as7} (h:(ho w).load b o=as4 v):ll (ho w).aS b o=as4 v:=by
 unfold Mem.load at h;unfold ll;exact h
open Classical in
noncomputable def seen (w:World) (b:Nat) (c:as7):as7:=if dD (hk w) c c then c else (uU b c).getD c
theorem uu {w:World} {b:Nat} {c:as7} (h:dD (hk w) c c):seen w b c=c:=by simp[seen,h]
def wq (w:World) (c:as7):Prop:=dD (hk w) c c\/∃a,c= .slice (as4 a) 0 0
theorem y9 {w:World} {c:as7} (h:cQ c=as5):wq w c:= .inl (m0 h)
theorem yT {w:World} {b:Nat} {c:as7} (h:cQ c=as5):seen w b c=c:=uu (m0 h)
theorem asI {w:World} {b:Nat} {c:as7} (h:wq w c) (ag:b<w.heap.size):dD (hk w) (seen w b c) c:=by
 by_cases ab:dD (hk w) c c
 ·rw[uu ab];exact ab
 ·rcases h with h|⟨a,rfl⟩
  ·exact absurd h ab
  ·simp only[seen,ab,if_false,uU,avq];exact ⟨⟨b,0,0,0⟩,rfl,by simp[hk,ag], .inr (.inr (.inr (.inl ⟨rfl,rfl,a,rfl⟩)))⟩
theorem aiv {w:World} {b o:Nat} {c:as7} (h:wq w c) (ah:w.cell? ⟨b,o,as6⟩=as4 c):(ho w).load b o=as4 (seen w b c):=by
 have bS:b<w.heap.size:=avg w ⟨b,o,as6⟩ ah;by_cases ab:dD (hk w) c c
 ·rw[uu ab];exact ahQ ah ab
 ·rcases h with h|⟨a,rfl⟩
  ·exact absurd h ab
  ·simp[Mem.load,ho,bS,ah,ab,uU,seen]
theorem ahi {w:World} {a:Addr} {v:as7} (h:w.cell? a=as4 v):a.spot=as6/\a.block<w.heap.size:=by
 refine ⟨?_,avg w a h⟩;simp only[World.cell?] at h;split at h
 ·split at h
  ·cases h
  ·rename_i aE;simpa using aE
 ·cases h
structure nq (P:atb) {aB:Type} (T:cr aB) (G:aB->Prop):Prop where
 a9:P.cellsOf T.tid=T.a9
 pos:0<T.a9
 rd:∀{H:Type} {enc:atc×as7->H} {w:World} {kz:Nat} {cs:List as7} {x:DataW H×List MemPlace},auS enc P w 0 (fun _=>as5) as5 kz T.tid cs=as4 x->
  (∀c∈cs,wq w c)/\∀b,(b<w.heap.size\/∀c∈cs,dD (hk w) c c)->∃a,T.rd (ho w).aS a (cs.map (seen w b))/\G a
theorem nq.conv {P:atb} {aB:Type} {T xM:cr aB} {G:aB->Prop} (h:nq P T G) (au:xM.tid=T.tid) (aE:xM.a9=T.a9) (aF:∀z x cs,T.rd z x cs->xM.rd z x cs):nq P xM G where
 a9:=by rw[au,aE];exact h.a9
 pos:=by rw[aE];exact h.pos
 rd:=fun e=>by rw[au] at e;obtain ⟨U,aa⟩:=h.rd e;exact ⟨U,fun b ag=>by obtain ⟨x,ad,a5⟩:=aa b ag;exact ⟨x,aF _ _ _ ad,a5⟩⟩
def TR (k:as') (n:Int):Prop:=k.min<=n/\n<=k.max
def TU (s:List UInt8):Prop:=s.length<=maxLen
def TP {aB:Type} (_:aB):Prop:=True
def x4 {aB:Type} (G:aB->Prop) (xs:List aB):Prop:=xs.length<=maxLen/\∀x∈xs,G x
theorem aou {P:atb} {t:atc} {k:as'} {i:TypeInfo} (au:P.underlying t=as4 (.int k)) (aj:P.info? t=as4 i) (aE:i.size=1):nq P (Di t k) (TR k) where
 a9:=by simp[Di,cr.flat,auv,aj,aE]
 pos:=by simp[Di,cr.flat]
 rd:=fun h=>by obtain ⟨n,rfl,_,hw⟩:=DataW.trod_int au h;exact ⟨fun c ah=>by simp at ah;subst ah;exact y9 rfl,fun b _=>⟨n,by simp[Di,cr.flat,yT (w:=_) (b:=b) (c:= .int k n) rfl],by simpa[Lit.wf,TR] using hw⟩⟩
theorem apU {P:atb} {t:atc} {i:TypeInfo} (au:P.underlying t=as4 (.int .u8)) (aj:P.info? t=as4 i) (aE:i.size=1):nq P (js t) TP where
 a9:=by simp[js,cr.flat,auv,aj,aE]
 pos:=by simp[js,cr.flat]
 rd:=fun h=>by
  obtain ⟨n,rfl,_,hw⟩:=DataW.trod_int au h;refine ⟨fun c ah=>by simp at ah;subst ah;exact y9 rfl,fun b _=>⟨auu n.toNat, ?_,trivial⟩⟩;simp[Lit.wf,as'.min,as'.max,as'.signed,as'.bits] at hw;have:((auu n.toNat).toNat:Int)=n:=by simp;omega
  show [aul .u8 n].map (seen _ b)=[aul .u8 ((auu n.toNat).toNat:Int)];rw[this];simp[yT (w:=_) (b:=b) (c:= .int .u8 n) rfl]
theorem asJ {P:atb} {t:atc} {i:TypeInfo} (au:P.underlying t=as4 .bool) (aj:P.info? t=as4 i) (aE:i.size=1):nq P (zz t) TP where
 a9:=by simp[zz,cr.flat,auv,aj,aE]
 pos:=by simp[zz,cr.flat]
 rd:=fun h=>by obtain ⟨n,rfl,_⟩:=DataW.trod_bool au h;exact ⟨fun c ah=>by simp at ah;subst ah;exact y9 rfl,fun b _=>⟨n,by simp[zz,cr.flat,yT (w:=_) (b:=b) (c:= .bool n) rfl],trivial⟩⟩
theorem asE {P:atb} {t:atc} {i:TypeInfo} (au:P.underlying t=as4 .string) (aj:P.info? t=as4 i) (aE:i.size=1):nq P (Dj t) TU where
 a9:=by simp[Dj,cr.flat,auv,aj,aE]
 pos:=by simp[Dj,cr.flat]
 rd:=fun h=>by obtain ⟨n,rfl,_,aE⟩:=DataW.trod_string au h;exact ⟨fun c ah=>by simp at ah;subst ah;exact y9 rfl,fun b _=>⟨n.data.toList,by simp[Dj,cr.flat,str,yT (w:=_) (b:=b) (c:= .string n) rfl],by simpa[TU] using aE⟩⟩
theorem XM {P:atb} {aB:Type} {T:cr aB} {G:aB->Prop} {t:atc} (jj:nq P T G) (au:P.underlying t=as4 (.slice T.tid)) {H:Type} {enc:atc×as7->H} {w:World} {kz:Nat} {cs:List as7} {x:DataW H×List MemPlace}
  (h:auS enc P w 0 (fun _=>as5) as5 kz t cs=as4 x):∃c,cs=[c]/\wq w c/\∀b,(b<w.heap.size\/dD (hk w) c c)->∃xs,eC T (ho w).aS xs (seen w b c)/\x4 G xs:=by
 rcases Deep.open_slice au h with ⟨rfl,_⟩|⟨a,len,cap,m,n,D,Z6,rfl,_,ax,hm,kj,_,ad⟩
 ·exact ⟨_,rfl,y9 rfl,fun b _=>⟨[],by rw[yT rfl];exact .nil,by simp[x4]⟩⟩
 ·simp only[if_true] at kj;subst kj;refine ⟨_,rfl, ?_⟩;rcases Nat.eq_zero_or_pos m with bg|gA
  ·subst bg;have fW:len=0:=by omega
   subst fW;refine ⟨.inr ⟨a,rfl⟩,fun b ag=>⟨[], ?_,by simp[x4]⟩⟩;by_cases ab:dD (hk w) (.slice (as4 a) 0 0) (.slice (as4 a) 0 0)
   ·rw[uu ab];obtain ⟨e,U,aa,_⟩:=ab;obtain ⟨aS,off,spot⟩:=a;simp only at U aa;subst U;exact .inr ⟨aS,off,0,rfl,Ok (uB aa).1, .inr ⟨by simp[cF],atk _⟩,fun i x aj=>by simp at aj⟩
   ·have ag:b<w.heap.size:=by
     rcases ag with ag|ag
     ·exact ag
     ·exact absurd ag ab
    simp only[seen,ab,if_false,uU,avq];exact .inr ⟨b,0,0,rfl,Ok ag, .inr ⟨by simp[cF],atk _⟩,fun i x aj=>by simp at aj⟩
  ·have aE:=jj.a9;have aL:=jj.pos;obtain ⟨pN,aU,_⟩:=ad 0 gA;obtain ⟨_,aO,bT⟩:=World.cells?_some aU;rw[aE] at aO bT;have cP:=bT 0 aL;obtain ⟨kr,v3⟩:∃v,pN[0]? =as4 v:=⟨pN[0]'(by omega),by simp[show 0<pN.length by omega]⟩
   rw[v3] at cP;simp only[Nat.zero_mul] at cP;have tI:(a.add 0).add 0=a:=by simp[Addr.add]
   rw[tI] at cP;obtain ⟨UI,fV⟩:=ahi cP;obtain ⟨aS,off,spot⟩:=a;simp only at UI fV;subst UI;have ab:dD (hk w) (.slice (as4 ⟨aS,off,as6⟩) len m) (.slice (as4 ⟨aS,off,as6⟩) len m):=
    ⟨⟨aS,0,0,0⟩,rfl,by simp[hk,fV], .inl ⟨by simp only[maxLen] at hm;simp only[cF];omega,by simp⟩⟩
   refine ⟨.inl ab,fun b _=> ?_⟩;rw[uu ab];have me:∀i,i<len->∃y:aB,G y/\∃ds,T.rd (ho w).aS y ds/\mW (ho w).aS aS (off+i*T.a9) ds:=by
    intro i aj;obtain ⟨ci,b5,cc⟩:=ad i (by omega);obtain ⟨_,eH,ja⟩:=World.cells?_some b5;rw[aE] at eH ja;obtain ⟨ey,ez⟩:=jj.rd cc;obtain ⟨y,aJ,kN⟩:=ez aS (.inl fV);refine ⟨y,kN,_,aJ,fun j u a0=> ?_⟩;rw[aub] at a0;cases ah:ci[j]? with
    |none=>rw[ah] at a0;cases a0
    |some c=>rw[ah] at a0;simp at a0;subst a0;have Uo:=(atp.1 ah).1;have p4:=ja j (by omega);rw[ah,m2,m2] at p4;exact aen (aiv (ey c (at3 ah)) p4)
   have:∃xs:List aB,xs.length=len/\(∀y∈xs,G y)/\∀(i:Nat) (y:aB),xs[i]? =as4 y->∃ds,T.rd (ho w).aS y ds/\mW (ho w).aS aS (off+i*T.a9) ds:=by
    clear ad ax hm ab aU gA;revert me;generalize len=l;induction l with
    |zero=>intro _;exact ⟨[],rfl,fun y aJ=>by simp at aJ,fun i y aj=>by simp at aj⟩
    |succ l aq=>
     intro me;obtain ⟨xs,bt,fb,e2⟩:=aq fun i aj=>me i (by omega);obtain ⟨y,kN,aJ⟩:=me l (by omega);refine ⟨xs++[y],by simp[bt],fun u hu=>by rcases List.mem_append.1 hu with hu|hu;exact fb u hu;simp at hu;subst hu;exact kN,fun i u aj=> ?_⟩;by_cases Uk:i<l
     ·rw[atN (by omega)] at aj;exact e2 i u aj
     ·have bS:=(atp.1 aj).1;simp at bS;have:i=l:=by omega
      subst this;rw[atM (by omega)] at aj;simp[bt] at aj;subst aj;exact aJ
   obtain ⟨xs,bt,fb,e2⟩:=this;refine ⟨xs, .inr ⟨aS,off,m,by rw[bt],Ok fV, .inr ⟨by simp only[maxLen] at hm;simp only[cF];omega,by rw[bt];exact ax⟩,e2⟩,by omega,fb⟩
theorem asF {P:atb} {aB:Type} {T:cr aB} {G:aB->Prop} {t:atc} {i:TypeInfo} (jj:nq P T G) (au:P.underlying t=as4 (.slice T.tid)) (aj:P.info? t=as4 i) (aE:i.size=1):nq P (LL t T) (x4 G) where
 a9:=by simp[LL,auv,aj,aE]
 pos:=by simp[LL]
 rd:=fun h=>by obtain ⟨c,rfl,U,aa⟩:=XM jj au h;refine ⟨fun d aQ=>by simp at aQ;subst aQ;exact U,fun b ag=> ?_⟩;obtain ⟨xs,ad,kN⟩:=aa b (ag.imp id fun h=>h c (by simp));exact ⟨xs,⟨_,rfl,ad⟩,kN⟩
theorem Xf {P:atb} {aB:Type} {T:cr aB} {G:aB->Prop} {t:atc} (jj:nq P T G) (au:P.underlying t=as4 (.slice T.tid)) {H:Type} {enc:atc×as7->H} {w:World} {base:Nat} {v:as7} {d:DataW H} {cm:List MemPlace}
  (ey:avu P w .any base t v) (h:DataW.Trod enc P w 0 (fun _=>as5) as5 t v d cm):cL (hk w) v v/\∃xs,eC T (ho w).aS xs v/\x4 G xs:=by
 obtain ⟨kz,bd⟩:=h;obtain ⟨c,ah,U,aa⟩:=XM jj au bd;have ab:dD (hk w) v v/\c=v:=by
  simp only[avu,au,Cell.okWide,Cell.ok] at ey;cases v with
  |slice a l fU=>
   have hD:c= .slice a l fU:=by simpa[au3] using ah.symm
   refine ⟨?_,hD⟩;cases a with
   |none=>exact rfl
   |some a=>
    simp only at ey;obtain ⟨ax,hm,bJ⟩:=ey;obtain ⟨_,aE,row,cells,q0,_⟩:=bJ;have bS:a.block<w.heap.size:=by
     by_cases ag:a.block<w.heap.size
     ·exact ag
     ·simp[World.shape?,Array.getElem?_eq_none (Nat.le_of_not_lt ag)] at q0
    obtain ⟨aS,off,spot⟩:=a;simp only at aE bS;subst aE;refine ⟨⟨aS,0,0,0⟩,rfl,by simp[hk,bS], .inl ⟨?_,by simp⟩⟩;simp only[as'.max,as'.signed,as'.bits] at hm;simp only[cF];simp at hm;omega
  |_=>simp at ey
 obtain ⟨ab,rfl⟩:=ab;refine ⟨cL.pc ab, ?_⟩;obtain ⟨xs,ad⟩:=aa 0 (.inr ab);rw[uu ab] at ad;exact ⟨xs,ad⟩
theorem ajk {P:atb} {w:World} {base:Nat} {u:atc} {c:as7} (h:Cell.okWide P w .any base u c) (ah:wq w c):dD (hk w) c c:=by
 rcases ah with ah|⟨a,rfl⟩
 ·exact ah
 ·cases hu:P.underlying u with
  |none=>simp[Cell.okWide,Cell.ok,hu] at h
  |some d=>
   cases d<;>simp only[Cell.okWide,Cell.ok,hu] at h
   obtain ⟨_,_,_,aE,row,cells,q0,_⟩:=h;have bS:a.block<w.heap.size:=by
    by_cases ag:a.block<w.heap.size
    ·exact ag
    ·simp[World.shape?,Array.getElem?_eq_none (Nat.le_of_not_lt ag)] at q0
   obtain ⟨aS,off,spot⟩:=a;simp only at aE bS;subst aE;exact ⟨⟨aS,0,0,0⟩,rfl,by simp[hk,bS], .inl ⟨by simp[cF],by simp⟩⟩
theorem asC {P:atb} {aB:Type} {T:cr aB} {G:aB->Prop} {bl:Array Field} (jj:nq P T G) (au:P.underlying T.tid=as4 (.struct bl)) {H:Type} {enc:atc×as7->H} {w:World} {base:Nat} {v:as7} {d:DataW H} {cm:List MemPlace}
  (ey:avu P w .any base T.tid v) (h:DataW.Trod enc P w 0 (fun _=>as5) as5 T.tid v d cm):cL (hk w) v v/\∃x cs,v= .agg cs.toArray/\T.rd (ho w).aS x cs/\G x:=by
 obtain ⟨kz,bd⟩:=h;simp only[avu,au] at ey;obtain ⟨cs,rfl,b6,ts,UJ,_,yi⟩:=ey;have tM:auS enc P w 0 (fun _=>as5) as5 kz T.tid cs.toList=as4 (d,cm):=by simpa[au3] using bd
 obtain ⟨U,aa⟩:=jj.rd tM;have lK:∀c∈cs.toList,dD (hk w) c c:=by intro c ah;obtain ⟨i,aj⟩:=List.getElem?_of_mem ah;obtain ⟨u,_,hu⟩:=yi i c (by simpa using aj);exact ajk hu (U c ah)
 obtain ⟨x,ad,kN⟩:=aa 0 (.inr lK);have Ej:cs.toList.map (seen w 0)=cs.toList:=by
  have:∀l:List as7,(∀c∈l,dD (hk w) c c)->l.map (seen w 0)=l:=by
   intro l;induction l with
   |nil=>intro _;rfl
   |cons c l aq=>intro ax;rw[aud,uu (ax c (by simp)),aq fun d aQ=>ax d (by simp[aQ])]
  exact this _ lK
 rw[Ej] at ad;refine ⟨⟨cs,rfl, ?_⟩,x,cs.toList,by simp,ad,kN⟩;have:∀l:List as7,(∀c∈l,dD (hk w) c c)->bp (dD (hk w)) l l:=by
  intro l;induction l with
  |nil=>intro _;exact atm
  |cons c l aq=>intro ax;exact ⟨ax c (by simp),aq fun d aQ=>ax d (by simp[aQ])⟩
 exact this _ lK
theorem aru {P:atb} {H:Type} {enc:atc×as7->H} {w:World} {n:Nat} {bl:Array Field} {cs:List as7} {xs:List (DataW H×List MemPlace)} (hlen:xs.length=bl.size)
  (bd:∀(i:Nat) (f:Field),bl[i]? =as4 f->auS enc P w 0 (fun _=>as5) as5 n f.type ((cs.drop f.offset).take (P.cellsOf f.type))=xs[i]?) (i:Nat) {f:Field} (aj:bl[i]? =as4 f):
  ∃y,auS enc P w 0 (fun _=>as5) as5 n f.type ((cs.drop f.offset).take (P.cellsOf f.type))=as4 y:=by
 have bS:=(auI.1 aj).1;rw[bd i f aj];exact ⟨xs[i]'(by omega),by simp[show i<xs.length by omega]⟩
theorem asD {P:atb} {aB:Type} {T:cr aB} {t e:atc} (au:P.underlying t=as4 (.slice e)) {H:Type} {enc:atc×as7->H} {w:World} {v:as7} {d:DataW H} {cm:List MemPlace} {z:Nat->bm} {xs:List aB}
  (h:DataW.Trod enc P w 0 (fun _=>as5) as5 t v d cm) (aE:eC T z xs v):xs.length=0\/∃iY spare,d= .slice iY spare/\iY.length=xs.length:=by
 obtain ⟨kz,bd⟩:=h;rcases aE with ⟨rfl,rfl⟩|⟨b,off,c,rfl,_⟩
 ·exact .inl rfl
 ·rcases Deep.open_slice au bd with ⟨bg,_⟩|⟨a,len,cap,m,n,D,Z6,ah,_,_,_,_,ad,_⟩
  ·simp[au3] at bg
  ·simp only[au3,List.cons.injEq,atZ.injEq,and_true] at ah;obtain ⟨_,U,_⟩:=ah;injection ad with ad _;exact .inr ⟨_,_,ad,by simp[<-U]⟩
end Go.ay
end
section
namespace Go.ay
section
variable {z:Nat->bm} {e m:Mem} {k:Option Nat} {b n:Nat} {cs:List as7} {t:atc} {v:as7}
variable {P:atb} {af:atd->as7} {o:Oper} {x:atd} {i:TypeInfo} {D:Tag->as7->Mem->Prop}
theorem iG.aeo (h:iG z e m k b cs t) (aM:dp z e m k):∃z',eM z z'/\dp z' e m k/\mW z' b 0 cs/\∀p,eB p (as4 b)->∀c,p=as4 c->z' c=z c:=by
 refine ⟨iK z m (as4 b),zt fun c ah=>by cases ah;exact h.dead,⟨Gf aM.bi (fun c ah=>by cases ah;exact ⟨h.lt,by rw[h.aS];rfl⟩),aM.dead,aM.l8,aM.next,aM.kept⟩,fun j u a0=> ?_,fun p aL c ah=> ?_⟩
 ·simp only[ll,iK,if_true,h.aS,atB];grind
 ·unfold iK;rw[if_neg (aL c ah)]
theorem iG.freeze (h:iG z e m k b cs t) (a2:e.next<=b) (aM:dp z e m k):∃z',dt e.next z z'/\dp z' e m k/\mW z' b 0 cs/\∀p,eB p (as4 b)->∀c,p=as4 c->z' c=z c:=by
 obtain ⟨z',U,aa,ao,aN⟩:=h.aeo aM;refine ⟨iK z m (as4 b),⟨zt fun c ah=>by cases ah;exact h.dead,fun c ah=> ?_⟩,⟨Gf aM.bi (fun c ah=>by cases ah;exact ⟨h.lt,by rw[h.aS];rfl⟩),aM.dead,aM.l8,aM.next,aM.kept⟩,fun j u a0=> ?_,fun p aL c ah=> ?_⟩
 ·grind [iK]
 ·simp only[ll,iK,if_true,h.aS,atB];grind
 ·unfold iK;rw[if_neg (aL c ah)]
theorem aj7 (h:o.op= .alloc t) (aj:P.info? t=as4 i) {cN:as7} (a4:i.zero=as4 cN) (da:cN.cells.toList.all cQ=as5) (aE:cN.cells.size=i.size) (cs:List as7) (ah:cN.cells.toList=cs) (aM:dp z e m k)
  (ar:∀b m',e.next<=b->dp z e m' k->iG z e m' k b cs t->fD m m' as6->(∀p,(∀c,p=as4 c->c<m.next)->eB p (as4 b))->D .new (.pointer (as4 ⟨b,0,as6⟩)) m'):cd P af o m D:=by
 subst ah;obtain ⟨aa,ao,aN,bI⟩:=Pm (L:=cN.cells.toList) (t:=t) aM;exact cd.new (.alloc t i cN h aj a4 da aE) (ar _ _ aM.next aa ao aN bI)
theorem afi (h:o.op= .box t x) (aj:P.info? t=as4 i) (ad:af x=v) (ab:storable v=as5) (cs:List as7) (ah:v.cells.toList=cs) (aE:cs.length=i.size) (aM:dp z e m k)
  (ar:∀b m',e.next<=b->dp z e m' k->iG z e m' k b cs t->fD m m' as6->(∀p,(∀c,p=as4 c->c<m.next)->eB p (as4 b))->D .new (.pointer (as4 ⟨b,0,as6⟩)) m'):cd P af o m D:=by
 subst ad ah;obtain ⟨aa,ao,aN,bI⟩:=Pm (L:=(af x).cells.toList) (t:=t) aM;exact cd.new (.box t x i h aj ab (by grind)) (ar _ _ aM.next aa ao aN bI)
theorem Zn {fn:Fn} {cap:Array atd} {caps:Array as7} (h:o.op= .makeFunc fn #[] cap) (ah:cap.map af=caps) (aE:caps.toList.all storable=as5):cX P af o (.func fn #[] caps):=by
 subst ah;have:=cX.func (P:=P) (af:=af) (o:=o) fn #[] cap h (fun x ad=>by
  grind)
 grind
theorem y6 {f:FuncId} {y:atd} {as:Array atd} {ts:Array atc} {args caps all:Array as7} (h:o.op= .call {callee:= .value y,args:=as,argTypes:=ts}) (bd:af y= .func (.func f) #[] caps) (aY:as.map af=args) (lK:args++caps=all):callee o af f all:=
 ⟨_,as,ts,#[],caps,h,bd,by grind⟩
end
open Classical in
noncomputable def ET {aB bK:Type} (xs:List aB) (f:Bool->Option bK):Option bK:=if xs=[] then (if f as5=f as9 then f as5 else as6) else f as9
theorem Fk {aB bK:Type} {xs:List aB} {f:Bool->Option bK} {r:bK} (h:ET xs f=as4 r) (t:Bool) (au:t=as5->xs=[]):f t=as4 r:=by
 unfold ET at h;by_cases ad:xs=[]
 ·rw[if_pos ad] at h;split at h
  ·cases t
   ·rename_i he;rw[<-he];exact h
   ·exact h
  ·cases h
 ·rw[if_neg ad] at h;cases t
  ·exact h
  ·exact absurd (au rfl) ad
section
variable {aB bK:Type} {T:cr aB} {z:Nat->bm} {e m:Mem} {k:Option Nat} {xs:List aB} {v:as7} {t u:atc} {f:Bool->Option bK} {r:bK}
variable {P:atb} {af:atd->as7} {o:Oper} {x y:atd} {gV:atc}
theorem wQ (neq:Bool) (h:o.op= .binOp (if neq then .neq else .eql) t x y u) (au:P.underlying t=as4 (.slice gV)) (ad:af x= .slice as6 0 0) (aJ:af y= .slice as6 0 0):cX P af o (.bool (!neq)):=by
 refine rD (x:=x) (y:=y) (by rw[h];rfl) (by grind) (by rw[ad];rfl) (by rw[aJ];rfl) rfl fun w=> ?_
 grind [eqGuard,Lib.run_eql_slice_nil,run_neq_slice_nil_any,execOp,atE,atz,Sem.run_pure]
theorem eC.NM (h:eC T z xs v):(v= .slice as6 0 0/\xs=[])\/∃a l c,v= .slice (as4 a) l c:=by
 rcases h with h|⟨b,off,c,rfl,_⟩
 ·grind
 grind
theorem e9.NM (h:e9 T z m xs v):(v= .slice as6 0 0/\xs=[])\/∃a l c,v= .slice (as4 a) l c:=by
 rcases h with h|⟨b,f0,L,c,rfl,_⟩
 ·grind
 grind
end
end Go.ay
end
section
namespace Go.ay
section
variable {aB:Type} {T:cr aB} {z z':Nat->bm} {e m m':Mem} {k p q:Option Nat} {xs r:List aB} {v:as7} {t u:atc} {b:Nat}
variable {P:atb} {af:atd->as7} {o:Oper} {x y:atd} {i:TypeInfo} {D:Tag->as7->Mem->Prop} {gV:atc}
theorem Gr (h:o.op= .call {callee:= .builtin .len,args:=#[x],argTypes:=#[t]}) (au:P.underlying t=as4 (.slice gV)) (ad:af x=v) (aE:∃a c,v= .slice a xs.length c):cX P af o (.int .i64 xs.length):=by
 obtain ⟨a,c,rfl⟩:=aE;exact .len x t gV a _ c h au ad
theorem dL.elem {n:Int} {a:aB} {f0 l c:Nat} (h:dL T z e m k xs v) (ab:v= .slice (as4 ⟨b,f0,as6⟩) l c) (a5:aD xs n=as4 a):
  ∃cs,T.rd z a cs/\xs[n.toNat]? =as4 a/\∀(j:Nat) (u:as7),cs[j]? =as4 u->m.load b (f0+n.toNat*T.a9+j)=as4 u:=by
 obtain ⟨bg,U,aa⟩:=m1 a5;rcases h.bs with ⟨_,rfl⟩|⟨cR,f1,L,bP,rfl,ag,_,_,ax,_,aN⟩
 ·grind
 ·obtain ⟨cs,aU,aO⟩:=aN _ a aa;cases ab;exact ⟨cs,aU,aa,fun j u a0=>by simp only[Mem.load,ag];exact aO j u a0⟩
def cr.as (T:cr aB) (t:atc):cr aB:={T with tid:=t}
theorem aj6 {x0:aB} {n:Nat} {c:List as7} (h:o.op= .alloc t) (aj:P.info? t=as4 i) {cN:as7} (a4:i.zero=as4 cN) (da:cN.cells.toList.all cQ=as5) (aE:cN.cells.size=i.size) (ah:cN.cells.toList=(att n c).flatten) (ez:T.rd z x0 c) (a2:aty n cF=as5) (aM:dp z e m k)
  (ar:∀b m',dp z e m' k->dL (T.as t) z e m' k (att n x0) (.slice (as4 ⟨b,0,as6⟩) n n)->fD m m' as6->(∀p,(∀c,p=as4 c->c<m.next)->eB p (as4 b))->D .new (.pointer (as4 ⟨b,0,as6⟩)) m'):cd P af o m D:=by
 obtain ⟨aa,ao,aN,bI⟩:=Pm (L:=cN.cells.toList) (t:=t) aM;have hlen:=T.len _ _ _ ez;have ax:cN.cells.toList.length=n*T.a9:=by simp_all
 have oh:n<cF:=by simp_all
 refine cd.new (.alloc t i cN h aj a4 da aE) (ar _ _ aa ⟨e9.xT ⟨m.next,cN.cells.toList,n,by simp,ao.aS,ao.lt,ao.dead, ?_, .inr ⟨oh,by simp, ?_⟩,fun j x a0=> ?_⟩,fun b ag=>by cases ag;exact aM.next⟩ aN bI)
 ·grind [cr.as]
 ·grind [cr.as]
 ·obtain ⟨bS,ad⟩:=atp.1 a0;simp at bS ad;subst ad;refine ⟨c,ez,fun q u bb=> ?_⟩;have adE:=(atp.1 bb).1;rw[ah];have key:∀(n j:Nat),j<n->(att n c).flatten[j*T.a9+q]? =as4 u:=by
   intro n;induction n with
   |zero=>grind
   |succ n aq=>
    intro j a0;rw[avO,avk];cases j with
    |zero=>grind
    |succ j=>
     rw[atM (by grind),hlen,show (j+1)*T.a9+q - T.a9=j*T.a9+q by grind]
     grind
  exact key n j bS
theorem afk {b5:as'} {n:Int} {a:aB} {l:Nat} (h:o.op= .indexAddr t x y) (au:P.underlying t=as4 (.array l gV)) (aj:P.info? gV=as4 i) (b6:i.size=T.a9) (ad:af x= .pointer (as4 ⟨b,0,as6⟩)) (aJ:af y= .int b5 n) (aE:dL T z e m k xs (.slice (as4 ⟨b,0,as6⟩) l l)) (a5:aD xs n=as4 a)
  (ar:∀cs,T.rd z a cs->xs[n.toNat]? =as4 a->(∀(j:Nat) (u:as7),cs[j]? =as4 u->m.load b (n.toNat*T.a9+j)=as4 u)->D .pure (.pointer (as4 ⟨b,n.toNat*T.a9,as6⟩)) m):cd P af o m D:=by
 obtain ⟨cs,aU,aO,bT⟩:=aE.elem rfl a5;obtain ⟨bg,U,aa⟩:=m1 a5;have ax:xs.length=l:=by
  obtain ⟨a',bP,he⟩:=aE.bs.len
  grind
 have:=cX.yE (P:=P) (af:=af) (o:=o) t x y gV i b 0 l b5 n h au aj ad aJ bg (by grind)
 grind [cd.pure]
end
end Go.ay
end
section
namespace Go.ay
structure l5 (D:Nat->Type) where
 T:(t:Nat)->cr (D t)
 eb:(t:Nat)->D t->List as7
section
variable (D:Nat->Type)
inductive bY where
 |int (k:as') (n:Int)
 |bool (b:Bool)
 |str (s:List UInt8)
 |gS|wk|pa
 |ae (e:Nat) (xs:List (D e))
 |mp (t bh bc:Nat) (es:List (D bh×D bc))
 |own (i:Nat)
 |ui
 |fn (f:Nat) (is:List Nat)
inductive aV where
 |un|undef
 |c (v:bY D)
 |agg (t:Nat) (cs:List (bY D))
 |box (i off:Nat)
 |arr (i:Nat)
 |el (i e:Nat) (cJ:Int) (off:Nat)
 |gU (t:Nat) (cs:List (bY D)) (off:Nat)
 |fn (f:Nat) (caps:List (Nat×List (bY D)))
 |nb (l:List (bY D⊕(Nat×List (bY D))))
 |cut (i e bD n:Nat)
 |full (e:Nat) (xs:List (D e))
 |tF (g:Nat) (s:List UInt8)
inductive aR where
 |dead
 |ae (e:Nat) (xs:List (D e)) (bi w:Bool)
 |box (t:Nat) (cs:List (bY D)) (bi w:Bool)
 |recv (t:Nat) (cs:List (bY D)) (w:Bool)
 |arr (e t n:Nat) (xs:List (D e)) (w:Bool)
 |map (t bh bc:Nat) (es:List (D bh×D bc)) (bi w:Bool)
 |nest (e t:Nat) (up:Option (List (D t)->D e)) (dH:List (List (D t))) (hole:Option (Int×Nat)) (w:Bool)
end
section
variable {D:Nat->Type} (G:l5 D)
def l5.M (t bh bc:Nat):nn (D bh) (D bc):=⟨G.eb bh,G.eb bc,t⟩
def qM (vs:List as7) (i:Nat) (g:as7):Prop:=vs[i]? =as4 g/\∃b,g= .pointer (as4 ⟨b,0,as6⟩)
def dJ (z:Nat->bm) (vs:List as7):bY D->as7->Prop
 | .int k n,v=>v= .int k n
 | .bool b,v=>v= .bool b
 | .str s,v=>v=ay.str s
 | .gS,v=>v= .slice as6 0 0
 | .wk,v=>v= .pointer as6
 | .pa,v=>v= .map as6
 | .ae e xs,v=>eC (G.T e) z xs v
 | .mp t bh bc es,v=>lz (G.M t bh bc) z es v
 | .own i,v=>vs[i]? =as4 v/\storable v=as5/\v.cells=#[v]
 | .ui,v=>v= .nilFunc
 | .fn f is,v=>∃gs:List as7,v= .func (.func f) #[] gs.toArray/\bp (qM vs) is gs
def s3 (z:Nat->bm) (vs:List as7):bY D⊕(Nat×List (bY D))->as7->Prop
 | .inl c,v=>dJ G z vs c v
 | .inr p,v=>∃ds:List as7,v= .agg ds.toArray/\bp (dJ G z vs) p.2 ds
def lX (z:Nat->bm) (vs:List as7) (cs:List (bY D)) (off:Nat) (v:as7):Prop:=
 ∃b o ds,v= .pointer (as4 ⟨b,o+off,as6⟩)/\mW z b o ds/\bp (dJ G z vs) cs ds
def nW (a9 bD n:Nat) (w v:as7):Prop:=
 (w= .slice as6 0 0/\v= .slice as6 0 0/\bD=0/\n=0)\/
 ∃b f0 l c off bP,w= .slice (as4 ⟨b,f0,as6⟩) l c/\v= .slice (as4 ⟨b,off,as6⟩) (n - bD) bP/\bD<=n/\n<=l/\(off=f0+bD*a9\/(n<=bD/\off=f0))/\((c=cF/\bP=cF)\/(c<cF/\bP=c - bD))
def rel (z:Nat->bm) (vs:List as7):aV D->as7->Prop
 | .un,_=>True
 | .undef,v=>v=_root_.Go.undef
 | .c c,v=>dJ G z vs c v
 | .agg _ cs,v=>∃ds:List as7,v= .agg ds.toArray/\bp (dJ G z vs) cs ds
 | .box i off,v=>∃b,vs[i]? =as4 (.pointer (as4 ⟨b,0,as6⟩))/\v= .pointer (as4 ⟨b,off,as6⟩)
 | .arr i,v=>∃b l,vs[i]? =as4 (.slice (as4 ⟨b,0,as6⟩) l l)/\v= .pointer (as4 ⟨b,0,as6⟩)
 | .el i e cJ off,v=>∃b f0 l c,vs[i]? =as4 (.slice (as4 ⟨b,f0,as6⟩) l c)/\v= .pointer (as4 ⟨b,f0+cJ.toNat*(G.T e).a9+off,as6⟩)
 | .gU _ cs off,v=>lX G z vs cs off v
 | .fn f caps,v=>∃gs:List as7,v= .func (.func f) #[] gs.toArray/\bp (fun c g=>lX G z vs c.2 0 g) caps gs
 | .nb l,v=>∃ds:List as7,v= .tuple ds.toArray/\bp (s3 G z vs) l ds
 | .cut i e bD n,v=>∃w,dJ G z vs (.own i) w/\nW (G.T e).a9 bD n w v
 | .tF g s,v=>∃n:Nat,n6[n]? =as4 s/\v= .chan (as4 (g*4096+n))
 | .full e xs,v=>eC (G.T e) z xs v/\xs.length<cF/\∃a,v= .slice a xs.length xs.length
def pG (t:atc):cr as7 where
 a9:=1
 tid:=t
 rd:=fun _ v cs=>cs=[v]/\storable v=as5/\v.cells=#[v]
 len:=fun _ v cs h=>by rw[h.1];rfl
 mono:=fun _ _ _ _ _ h=>h
 one:=fun _ v cs h c ah=>by rw[h.1] at ah;simp at ah;subst ah;exact h.2
def rX {aB:Type} (T:cr aB) (z:Nat->bm) (n eT j:Nat) (xs:List aB) (w:as7):Prop:=
 (w= .slice as6 0 0/\xs=[])\/
 ∃b f0 L c,w= .slice (as4 ⟨b,f0,as6⟩) xs.length c/\z b= .lock eT j L T.tid/\n<=b/\f0+xs.length*T.a9<=L.length/\(c=cF\/(c<cF/\xs.length<=c/\f0+c*T.a9<=L.length))/\
  ∀(i:Nat) (x:aB),xs[i]? =as4 x->∃cs,T.rd z x cs/\mX L (f0+i*T.a9) cs
def Lx (z z':Nat->bm) (n:Nat):Prop:=∀b j L t,z b= .lock n j L t->z' b=z b
theorem rX.iF {aB:Type} {T:cr aB} {z z':Nat->bm} {n eT j:Nat} {xs:List aB} {w:as7} (h:rX T z n eT j xs w) (a4:eM z z') (ar:Lx z z' eT):rX T z' n eT j xs w:=by
 rcases h with h|⟨b,f0,L,c,U,aa,ao,aN,bI,eg⟩
 ·exact .inl h
 ·refine .inr ⟨b,f0,L,c,U,by rw[ar b j L _ aa];grind,ao,aN,bI,fun i x aj=> ?_⟩;obtain ⟨cs,aU,aO⟩:=eg i x aj;exact ⟨cs,T.mono _ _ a4 _ _ aU,aO⟩
theorem rX.xS {aB:Type} {T:cr aB} {z:Nat->bm} {n n' eT j:Nat} {xs:List aB} {w:as7} (h:rX T z n eT j xs w) (a2:n'<=n):rX T z n' eT j xs w:=by
 rcases h with h|⟨b,f0,L,c,U,aa,ao,aN⟩
 ·exact .inl h
 ·exact .inr ⟨b,f0,L,c,U,aa,atx a2 ao,aN⟩
def fk (v:as7):Nat:=match cY v with|some b=>b+1|none=>0
def S7 (e t:Nat) (up:Option (List (D t)->D e)):Prop:=∀f,up=as4 f->(G.T e).a9=1/\(G.T e).tid=e/\∀z xs c,eC (G.T t) z xs c->(G.T e).rd z (f xs) [c]
structure r0 {aB:Type} (fb:Nat) (T:cr aB) (z:Nat->bm) (e m:Mem) (k:Option Nat) (vs:List as7) (dH:List (List aB)) (hole:Option (Int×Nat)) (v:as7) (ws:List as7):Prop where
 bs:dL (pG fb) z e m k ws v
 len:ws.length=dH.length
 mP:∀(j:Nat) (w:as7) (xs:List aB),ws[j]? =as4 w->dH[j]? =as4 xs->(∀p,hole=as4 p->(j:Int)≠p.1)->rX T z e.next (fk v) j xs w
 out:∀p,hole=as4 p->0<=p.1/\∃w,vs[p.2]? =as4 w/\ws[p.1.toNat]? =as4 w
def gz (z:Nat->bm) (e m:Mem) (k:Option Nat) (vs:List as7):aR D->as7->Prop
 | .dead,_=>True
 | .ae t xs as9 _,v=>dL (G.T t) z e m k xs v
 | .ae t xs as5 _,v=>eC (G.T t) z xs v
 | .box t cs as9 _,v=>∃b ds,v= .pointer (as4 ⟨b,0,as6⟩)/\iG z e m k b ds t/\e.next<=b/\bp (dJ G z vs) cs ds
 | .box t cs as5 _,v=>∃b ds,v= .pointer (as4 ⟨b,0,as6⟩)/\mW z b 0 ds/\bp (dJ G z vs) cs ds
 | .recv t cs _,v=>∃b ds,v= .pointer (as4 ⟨b,0,as6⟩)/\iG z e m k b ds t/\bp (dJ G z vs) cs ds
 | .arr t u n xs _,v=>(∃b,v= .slice (as4 ⟨b,0,as6⟩) n n)/\dL ((G.T t).as u) z e m k xs v
 | .map t bh bc es as9 _,v=>iw (G.M t bh bc) z e m k es v
 | .map t bh bc es as5 _,v=>lz (G.M t bh bc) z es v
 | .nest fb t up dH hole _,v=>S7 G fb t up/\∃ws,r0 fb (G.T t) z e m k vs dH hole v ws
def aR.live:aR D->Bool
 | .ae _ _ bi _| .box _ _ bi _| .map _ _ _ _ bi _=> !bi
 | .recv _ _ _| .arr _ _ _ _ _| .nest _ _ _ _ _ _=>as5
 | .dead=>as9
def aR.lv:aR D->Bool
 | .ae _ _ _ w| .box _ _ _ w| .recv _ _ w| .arr _ _ _ _ w| .map _ _ _ _ _ w=>w
 | .nest _ _ _ _ h w=>w||h.isSome
 | .dead=>as5
structure Inv (O bW:List (aR D)):Prop where
 len:O.length<=bW.length
 dN:∀(i:Nat) (o:aR D),i<O.length->bW[i]? =as4 o->o.live=as5->o.lv=as9->O[i]? =as4 o
theorem Inv.refl (O:List (aR D)):Inv O O:=⟨atk _,fun _ _ _ h _ _=>h⟩
theorem Inv.trans {O bW r1:List (aR D)} (h:Inv O bW) (k:Inv bW r1):Inv O r1:=⟨atx h.len k.len,fun i o aj an ax hw=>h.dN i o aj (k.dN i o (atu aj h.len) an ax hw) ax hw⟩
theorem Inv.push (O:List (aR D)) (o:aR D):Inv O (O++[o]):=⟨by simp,fun i p aj aL _ _=>by grind⟩
theorem Inv.set (O:List (aR D)) (i:Nat) {o:aR D} (h:o.live=as9\/o.lv=as5):Inv O (O.set i o):=⟨by simp,fun j p a0 aL ax hw=>by
 grind⟩
def dy:as7->Option Nat
 | .slice (as4 a) _ _=>as4 a.block
 | .pointer (as4 a)=>as4 a.block
 | .map r=>r
 |_=>as6
theorem gE {v:as7} (h:∀r,v≠ .map r):dy v=cY v:=by
 cases v with
 |slice a l c=>cases a<;>rfl
 |pointer a=>cases a<;>rfl
 |map r=>grind
 |_=>rfl
structure bC (O:List (aR D)) (z:Nat->bm) (e m:Mem) (k:Option Nat) (vs:List as7):Prop where
 aM:dp z e m k
 len:vs.length=O.length
 obj:∀(i:Nat) (o:aR D) (v:as7),O[i]? =as4 o->vs[i]? =as4 v->gz G z e m k vs o v
 e3:∀(i j:Nat) (o p:aR D) (v w:as7),i≠j->O[i]? =as4 o->O[j]? =as4 p->o.live=as5->p.live=as5->vs[i]? =as4 v->vs[j]? =as4 w->eB (dy v) (dy w)
variable {G}
theorem dJ.mono {z z':Nat->bm} {vs vs':List as7} {c:bY D} {v:as7} (h:dJ G z vs c v) (a4:eM z z') (ab:∀(i:Nat) (u:as7),vs[i]? =as4 u->vs'[i]? =as4 u):dJ G z' vs' c v:=by
 cases c with
 |ae e xs=>exact eC.mono a4 h
 |mp t bh bc es=>exact lz.mono h a4
 |own i=>exact ⟨ab _ _ h.1,h.2⟩
 |fn f is=>obtain ⟨gs,U,aa⟩:=h;exact ⟨gs,U,bp.mono (fun _ _ h=>⟨ab _ _ h.1,h.2⟩) aa⟩
 |_=>exact h
theorem m7.mono {z z':Nat->bm} {vs vs':List as7} {cs:List (bY D)} {ds:List as7} (h:bp (dJ G z vs) cs ds) (a4:eM z z') (ab:∀(i:Nat) (u:as7),vs[i]? =as4 u->vs'[i]? =as4 u):bp (dJ G z' vs') cs ds:=bp.mono (fun _ _ h=>dJ.mono h a4 ab) h
theorem lX.mono {z z':Nat->bm} {vs vs':List as7} {cs:List (bY D)} {off:Nat} {v:as7} (h:lX G z vs cs off v) (a4:eM z z') (ab:∀(i:Nat) (u:as7),vs[i]? =as4 u->vs'[i]? =as4 u):lX G z' vs' cs off v:=by
 obtain ⟨b,o,ds,U,aa,ao⟩:=h;exact ⟨b,o,ds,U,E8 a4 aa,m7.mono ao a4 ab⟩
theorem s3.mono {z z':Nat->bm} {vs vs':List as7} {c:bY D⊕(Nat×List (bY D))} {v:as7} (h:s3 G z vs c v) (a4:eM z z') (ab:∀(i:Nat) (u:as7),vs[i]? =as4 u->vs'[i]? =as4 u):s3 G z' vs' c v:=by
 cases c with
 |inl c=>exact dJ.mono h a4 ab
 |inr p=>obtain ⟨ds,U,aa⟩:=h;exact ⟨ds,U,m7.mono aa a4 ab⟩
theorem rel.mono {z z':Nat->bm} {vs vs':List as7} {s:aV D} {v:as7} (h:rel G z vs s v) (a4:eM z z') (ab:∀(i:Nat) (u:as7),vs[i]? =as4 u->vs'[i]? =as4 u):rel G z' vs' s v:=by
 cases s with
 |un=>trivial
 |undef=>exact h
 |c c=>exact dJ.mono h a4 ab
 |agg t cs=>obtain ⟨ds,U,aa⟩:=h;exact ⟨ds,U,m7.mono aa a4 ab⟩
 |box i off=>obtain ⟨b,U,aa⟩:=h;exact ⟨b,ab _ _ U,aa⟩
 |arr i=>obtain ⟨b,l,U,aa⟩:=h;exact ⟨b,l,ab _ _ U,aa⟩
 |el i e cJ off=>obtain ⟨b,f0,l,c,U,aa⟩:=h;exact ⟨b,f0,l,c,ab _ _ U,aa⟩
 |gU t cs off=>exact lX.mono h a4 ab
 |fn f caps=>obtain ⟨gs,U,aa⟩:=h;exact ⟨gs,U,bp.mono (fun _ _ h=>lX.mono h a4 ab) aa⟩
 |nb l=>obtain ⟨ds,U,aa⟩:=h;exact ⟨ds,U,bp.mono (fun _ _ h=>s3.mono h a4 ab) aa⟩
 |cut i e bD n=>obtain ⟨w,U,aa⟩:=h;exact ⟨w,dJ.mono U a4 ab,aa⟩
 |full e xs=>exact ⟨eC.mono a4 h.1,h.2⟩
 |tF g s=>exact h
theorem Ow {vs:List as7}:∀{is:List Nat} {gs:List as7},bp (qM vs) is gs->gs.all u3=as5
 |[],[],_=>rfl
 |[],_::_,h=>h.elim
 |_::_,[],h=>h.elim
 |_::_,_::_,⟨⟨_,_,h⟩,aa⟩=>by subst h;simp only[atX,Ow aa,u3,Bool.and_self]
theorem dJ.ZA {z:Nat->bm} {vs:List as7} {c:bY D} {v:as7} (h:dJ G z vs c v):storable v=as5/\v.cells=#[v]:=by
 cases c with
 |ae e xs=>obtain ⟨a,c,rfl⟩:=eC.len h;exact ⟨rfl,rfl⟩
 |mp t bh bc es=>rcases h with ⟨rfl,_⟩|⟨r,rfl,_⟩<;>exact ⟨rfl,rfl⟩
 |own i=>exact h.2
 |fn f is=>obtain ⟨gs,rfl,aa⟩:=h;exact ⟨by grind [storable,Ow],rfl⟩
 |_=>obtain rfl:=h;exact ⟨rfl,rfl⟩
theorem gz.same {z:Nat->bm} {e m m':Mem} {k q:Option Nat} {vs vs':List as7} {o:aR D} {v:as7} (h:gz G z e m k vs o v) (s:fD m m' q) (e3:o.live=as5->eB (dy v) q) (ab:∀(i:Nat) (u:as7),vs[i]? =as4 u->vs'[i]? =as4 u):gz G z e m' k vs' o v:=by
 have QD:=eM.refl z;cases o with
 |dead=>trivial
 |ae t xs bi w=>
  cases bi with
  |true=>exact h
  |false=>have h:dL (G.T t) z e m k xs v:=h;have e3:=e3 rfl;rw[gE (by obtain ⟨a,c,rfl⟩:=h.bs.len;grind)] at e3;exact h.same s e3
 |box t cs bi w=>
  cases bi with
  |true=>obtain ⟨b,ds,U,aa,ao⟩:=h;exact ⟨b,ds,U,aa,m7.mono ao QD ab⟩
  |false=>obtain ⟨b,ds,rfl,aa,aN,ao⟩:=h;exact ⟨b,ds,rfl,aa.same s (e3 rfl),aN,m7.mono ao QD ab⟩
 |recv t cs w=>obtain ⟨b,ds,rfl,aa,ao⟩:=h;exact ⟨b,ds,rfl,aa.same s (e3 rfl),m7.mono ao QD ab⟩
 |arr t u n xs w=>obtain ⟨⟨b,rfl⟩,h⟩:=h;exact ⟨⟨b,rfl⟩,h.same s (e3 rfl)⟩
 |map t bh bc es bi w=>
  cases bi with
  |true=>exact h
  |false=>have h:iw (G.M t bh bc) z e m k es v:=h;have e3:=e3 rfl;obtain ⟨r,rfl,_⟩:=h.bs;exact h.same s e3
 |nest fb t up dH hole w=>
  obtain ⟨hu,ws,h⟩:=h;have e3:=e3 rfl;rw[gE (by obtain ⟨a,c,rfl⟩:=h.bs.bs.len;grind)] at e3;refine ⟨hu,ws,h.bs.same s e3,h.len,h.mP,fun p aL=> ?_⟩;obtain ⟨bg,u,U,aa⟩:=h.out p aL
  grind
theorem gz.iF {z z':Nat->bm} {e m:Mem} {k:Option Nat} {vs:List as7} {o:aR D} {v:as7} (h:gz G z e m k vs o v) (a4:eM z z') (ag:o.live=as5->∀b,dy v=as4 b->z' b=z b) (ar:o.live=as5->Lx z z' (fk v)):gz G z' e m k vs o v:=by
 have ab:∀(i:Nat) (u:as7),vs[i]? =as4 u->vs[i]? =as4 u:=fun _ _ h=>h;cases o with
 |dead=>trivial
 |ae t xs bi w=>
  cases bi with
  |true=>exact eC.mono a4 h
  |false=>have h:dL (G.T t) z e m k xs v:=h;have ag:=ag rfl;rw[gE (by obtain ⟨a,c,rfl⟩:=h.bs.len;grind)] at ag;exact h.iF a4 ag
 |box t cs bi w=>
  cases bi with
  |true=>obtain ⟨b,ds,U,aa,ao⟩:=h;exact ⟨b,ds,U,E8 a4 aa,m7.mono ao a4 ab⟩
  |false=>obtain ⟨b,ds,rfl,aa,aN,ao⟩:=h;exact ⟨b,ds,rfl,aa.iF (ag rfl),aN,m7.mono ao a4 ab⟩
 |recv t cs w=>obtain ⟨b,ds,rfl,aa,ao⟩:=h;exact ⟨b,ds,rfl,aa.iF (ag rfl),m7.mono ao a4 ab⟩
 |arr t u n xs w=>obtain ⟨⟨b,rfl⟩,h⟩:=h;exact ⟨⟨b,rfl⟩,h.iF a4 (ag rfl)⟩
 |map t bh bc es bi w=>
  cases bi with
  |true=>exact lz.mono h a4
  |false=>have h:iw (G.M t bh bc) z e m k es v:=h;have ag:=ag rfl;obtain ⟨r,rfl,_⟩:=h.bs;exact h.iF a4 ag
 |nest fb t up dH hole w=>obtain ⟨hu,ws,h⟩:=h;have ag:=ag rfl;rw[gE (by obtain ⟨a,c,rfl⟩:=h.bs.bs.len;grind)] at ag;exact ⟨hu,ws,h.bs.iF a4 ag,h.len,fun j w xs U aa ao=>(h.mP j w xs U aa ao).iF a4 (ar rfl),h.out⟩
theorem gz.lt {z:Nat->bm} {e m:Mem} {k:Option Nat} {vs:List as7} {o:aR D} {v:as7} (h:gz G z e m k vs o v) (ax:o.live=as5):∀b,dy v=as4 b->b<m.next/\z b= .dead/\(e.next<=b\/k=as4 b):=by
 cases o with
 |dead=>cases ax
 |ae t xs bi w=>
  cases bi with
  |true=>cases ax
  |false=>have h:dL (G.T t) z e m k xs v:=h;rw[gE (by obtain ⟨a,c,rfl⟩:=h.bs.len;grind)];exact fun b ag=>⟨h.lt b ag,h.bb b ag⟩
 |box t cs bi w=>
  cases bi with
  |true=>cases ax
  |false=>obtain ⟨b,ds,rfl,aa,aN,ao⟩:=h;intro c ah;cases ah;exact ⟨aa.lt,aa.dead,aa.fresh⟩
 |recv t cs w=>obtain ⟨b,ds,rfl,aa,ao⟩:=h;intro c ah;cases ah;exact ⟨aa.lt,aa.dead,aa.fresh⟩
 |arr t u n xs w=>obtain ⟨⟨b,rfl⟩,h⟩:=h;intro c ah;cases ah;exact ⟨h.lt b rfl,h.bb b rfl⟩
 |map t bh bc es bi w=>
  cases bi with
  |true=>cases ax
  |false=>have h:iw (G.M t bh bc) z e m k es v:=h;obtain ⟨r,rfl,_⟩:=h.bs;exact fun b ag=>⟨h.lt b ag,h.bb b ag⟩
 |nest fb t up dH hole w=>obtain ⟨hu,ws,h⟩:=h;rw[gE (by obtain ⟨a,c,rfl⟩:=h.bs.bs.len;grind)];exact fun b ag=>⟨h.bs.lt b ag,h.bs.bb b ag⟩
variable {O:List (aR D)} {z z':Nat->bm} {e m m':Mem} {k q:Option Nat} {vs:List as7}
theorem bC.at (h:bC G O z e m k vs) {i:Nat} {o:aR D} (an:O[i]? =as4 o):∃v,vs[i]? =as4 v/\gz G z e m k vs o v:=by
 have bS:=(atp.1 an).1;have Uv:i<vs.length:=by rw[h.len];grind
 exact ⟨vs[i],atS Uv,h.obj i o _ an (atS Uv)⟩
theorem bC.mw (h:bC G O z e m k vs) {i:Nat} {o o':aR D} {v:as7} (an:O[i]? =as4 o) (ab:vs[i]? =as4 v) (ax:o.live=as5) (s:fD m m' (dy v)) (aM:dp z e m' k) (a2:gz G z e m' k vs o' v):bC G (O.set i o') z e m' k vs:=by
 have bS:=(atp.1 an).1;refine ⟨aM,by rw[aur];exact h.len,fun j p w a0 hw=> ?_,fun a b p iC u w kf aY ag jb kn hu hw=> ?_⟩
 ·rw[atQ] at a0;split at a0
  ·grind
  ·rename_i gP;exact (h.obj j p w a0 hw).same s (fun aL=>h.e3 j i p o w v (fun e=>gP e.symm) a0 an aL ax hw ab) fun _ _ h=>h
 ·have key:∀(a:Nat) (p:aR D),(O.set i o')[a]? =as4 p->p.live=as5->∃p8,O[a]? =as4 p8/\p8.live=as5:=by
   grind
  obtain ⟨iB,aU,aO⟩:=key a p aY jb;obtain ⟨iP,bT,cP⟩:=key b iC ag kn;exact h.e3 a b iB iP u w kf aU bT aO cP hu hw
theorem iS {vs ws:List as7}:∀(i:Nat) (u:as7),vs[i]? =as4 u->(vs++ws)[i]? =as4 u:=fun i u h=>by
 grind
theorem bC.push (h:bC G O z e m k vs) {o':aR D} {bH:as7} (s:fD m m' q) (aM:dp z e m' k) (bb:∀(i:Nat) (o:aR D) (v:as7),O[i]? =as4 o->vs[i]? =as4 v->o.live=as5->eB (dy v) q)
  (a2:gz G z e m' k (vs++[bH]) o' bH) (fg:∀p,(∀b,p=as4 b->b<m.next)->eB p q->eB p (dy bH)):bC G (O++[o']) z e m' k (vs++[bH]):=by
 refine ⟨aM,by simp[h.len],fun j p w a0 hw=> ?_,fun a b p iC u w kf aY ag jb kn hu hw=> ?_⟩
 ·by_cases bS:j<O.length
  ·rw[atN bS] at a0;rw[atN (by rw[h.len];grind)] at hw;exact (h.obj j p w a0 hw).same s (fun aL=>bb j p w a0 hw aL) iS
  ·rw[atM (by omega)] at a0;rw[atM (by rw[h.len];omega),h.len] at hw
   grind
 ·have dN:∀(a:Nat) (p:aR D) (u:as7),a<O.length->(O++[o'])[a]? =as4 p->(vs++[bH])[a]? =as4 u->O[a]? =as4 p/\vs[a]? =as4 u:=by
   intro a p u bS aY hu;rw[atN bS] at aY;rw[atN (by rw[h.len];grind)] at hu
   grind
  have new:∀(a:Nat) (p:aR D) (u:as7),¬a<O.length->(O++[o'])[a]? =as4 p->(vs++[bH])[a]? =as4 u->a=O.length/\u=bH:=by
   intro a p u bS aY hu;rw[atM (by omega)] at aY;have bg:a - O.length=0:=by grind
   rw[atM (by rw[h.len];omega),h.len,bg] at hu
   grind
  have lt:∀(a:Nat) (p:aR D) (u:as7),O[a]? =as4 p->vs[a]? =as4 u->p.live=as5->eB (dy u) (dy bH):=fun a p u aY hu ax=>fg _ (fun b ag=>((h.obj a p u aY hu).lt ax b ag).1) (bb a p u aY hu ax);by_cases U:a<O.length
  ·obtain ⟨cG,dE⟩:=dN a p u U aY hu;by_cases aa:b<O.length
   ·obtain ⟨ew,h1⟩:=dN b iC w aa ag hw;exact h.e3 a b p iC u w kf cG ew jb kn dE h1
   grind
  ·obtain ⟨bt,rfl⟩:=new a p u U aY hu;by_cases aa:b<O.length
   ·obtain ⟨ew,h1⟩:=dN b iC w aa ag hw;exact (lt b iC w ew h1 kn).symm
   grind
theorem bC.iK (h:bC G O z e m k vs) {i:Nat} {o o':aR D} {v:as7} (an:O[i]? =as4 o) (ab:vs[i]? =as4 v) (ax:o.live=as5) (gn:o'.live=as9) (a4:eM z z') (aM:dp z' e m k) (ag:∀p,eB p (dy v)->∀b,p=as4 b->z' b=z b) (a2:gz G z' e m k vs o' v):bC G (O.set i o') z' e m k vs:=by
 have bS:=(atp.1 an).1;refine ⟨aM,by rw[aur];exact h.len,fun j p w a0 hw=> ?_,fun a b p iC u w kf aY ej jb kn hu hw=> ?_⟩
 ·rw[atQ] at a0;split at a0
  ·grind
  ·rename_i gP;exact (h.obj j p w a0 hw).iF a4 (fun aL=>ag _ (h.e3 j i p o w v (fun e=>gP e.symm) a0 an aL ax hw ab)) fun _ b j L t ej=>ag (as4 b) (fun c ah ua=>by
    cases ah;have:=((h.obj i o v an ab).lt ax b ua).2.1
    grind) b rfl
 ·have key:∀(a:Nat) (p:aR D),(O.set i o')[a]? =as4 p->p.live=as5->O[a]? =as4 p:=by
   grind
  exact h.e3 a b p iC u w kf (key a p aY jb) (key b iC ej kn) jb kn hu hw
end
end Go.ay
end
section
namespace Go.ay
section
variable {D:Nat->Type} {G:l5 D} {O:List (aR D)} {z z':Nat->bm} {e m m':Mem} {k q:Option Nat} {vs vs':List as7}
theorem GB {v w:as7} (h:eB (cY v) (cY w)):fk v≠fk w\/fk v=0:=by
 unfold fk;cases ab:cY v with
 |none=>grind
 |some b=>
  cases hw:cY w with
  |none=>grind
  |some c=>
   refine .inl fun bJ=>h b ab ?_
   grind
theorem O1 {r:Option Nat}:fk (.map r)=0:=rfl
theorem bC.CM (h:bC G O z e m k vs) {i:Nat} {o o':aR D} {v:as7} {p:Option Nat} (an:O[i]? =as4 o) (ab:vs[i]? =as4 v) (ax:o.live=as5) (pZ:∀r,v≠ .map r) (a4:eM z z') (s:fD m m' (dy v)) (aM:dp z' e m' k)
  (aL:∀(j:Nat) (q:aR D) (w:as7),j≠i->O[j]? =as4 q->q.live=as5->vs[j]? =as4 w->eB (dy w) p)
  (adx:∀b,p=as4 b->z b= .dead)
  (ag:∀b,dy v≠as4 b->p≠as4 b->(fk v=0\/∀j L t,z b≠ .lock (fk v) j L t)->z' b=z b) (a2:gz G z' e m' k vs o' v):bC G (O.set i o') z' e m' k vs:=by
 have bS:=(atp.1 an).1;refine ⟨aM,by rw[aur];exact h.len,fun j q w a0 hw=> ?_,fun a b dn dz u w kf aY ej jb kn hu hw=> ?_⟩
 ·rw[atQ] at a0;split at a0
  ·grind
  ·rename_i gP;have cn:=h.obj j q w a0 hw;refine ((cn.same s (fun bb=>h.e3 j i q o w v (fun e=>gP e.symm) a0 an bb ax hw ab) fun _ _ h=>h).iF a4 (fun bb b MG=> ?_) fun bb b bZ L t og=> ?_)
   ·have U:=cn.lt bb b MG;refine ag b (h.e3 j i q o w v (fun e=>gP e.symm) a0 an bb ax hw ab b MG) (aL j q w (fun e=>gP e.symm) a0 bb hw b MG) (.inr fun j L t bJ=> ?_)
    grind
   ·refine ag b (fun bJ=> ?_) (fun bJ=> ?_) ?_
    ·have:=((h.obj i o v an ab).lt ax b bJ).2.1
     grind
    ·grind
    ·by_cases bg:fk v=0
     ·grind
     ·refine .inr fun p3 bp t2 bJ=> ?_;rw[og] at bJ;have bt:fk w=fk v:=by grind
      have fg:=h.e3 j i q o w v (fun e=>gP e.symm) a0 an bb ax hw ab
      grind [gE,O1,GB]
 ·have key:∀(a:Nat) (p:aR D),(O.set i o')[a]? =as4 p->p.live=as5->∃p8,O[a]? =as4 p8/\p8.live=as5:=by
   grind
  obtain ⟨iB,aU,aO⟩:=key a dn aY jb;obtain ⟨iP,bT,cP⟩:=key b dz ej kn;exact h.e3 a b iB iP u w kf aU bT aO cP hu hw
theorem bC.NW (h:bC G O z e m k vs) {o':aR D} {bH:as7} (a2:gz G z e m k (vs++[bH]) o' bH) (fg:o'.live=as5->∀(j:Nat) (q:aR D) (w:as7),O[j]? =as4 q->q.live=as5->vs[j]? =as4 w->eB (dy w) (dy bH)):bC G (O++[o']) z e m k (vs++[bH]):=by
 have dN:∀(a:Nat) (p:aR D) (u:as7),(O++[o'])[a]? =as4 p->(vs++[bH])[a]? =as4 u->(O[a]? =as4 p/\vs[a]? =as4 u)\/(a=O.length/\p=o'/\u=bH):=by
  intro a p u aY hu;by_cases bS:a<O.length
  ·rw[atN bS] at aY;rw[atN (by rw[h.len];grind)] at hu
   grind
  ·have bg:=(atp.1 aY).1;simp at bg;have:a=O.length:=by omega
   subst this;rw[atM (by omega)] at aY;rw[atM (by rw[h.len];omega),h.len] at hu
   grind
 refine ⟨h.aM,by simp[h.len],fun j p w a0 hw=> ?_,fun a b p iC u w kf aY ag jb kn hu hw=> ?_⟩
 ·rcases dN j p w a0 hw with ⟨U,aa⟩|⟨_,rfl,rfl⟩
  ·exact (h.obj j p w U aa).same (q:=as6) ⟨atk _,h.aM.dead,fun _ _ _=>rfl⟩ (fun _=>eB.nH) iS
  grind
 ·rcases dN a p u aY hu with ⟨cG,dE⟩|⟨bt,rfl,rfl⟩
  ·rcases dN b iC w ag hw with ⟨ew,h1⟩|⟨e2,rfl,rfl⟩
   ·exact h.e3 a b p iC u w kf cG ew jb kn dE h1
   grind
  ·rcases dN b iC w ag hw with ⟨ew,h1⟩|⟨e2,rfl,rfl⟩
   ·exact (fg jb b iC w ew kn h1).symm
   grind
theorem bC.aqP (h:bC G O z e m k vs) {i:Nat} {o':aR D} {v:as7} (aj:i<O.length) (ab:vs[i]? =as4 v) (a2:gz G z e m k vs o' v) (fg:∀(j:Nat) (q:aR D) (w:as7),j≠i->O[j]? =as4 q->q.live=as5->vs[j]? =as4 w->eB (dy w) (dy v)):bC G (O.set i o') z e m k vs:=by
 have dN:∀(a:Nat) (p:aR D),(O.set i o')[a]? =as4 p->(a≠i/\O[a]? =as4 p)\/(a=i/\p=o'):=by
  grind
 refine ⟨h.aM,by rw[aur];exact h.len,fun j p w a0 hw=> ?_,fun a b p q u w kf aY ag jb kn hu hw=> ?_⟩
 ·rcases dN j p a0 with ⟨_,U⟩|⟨rfl,rfl⟩
  ·exact h.obj j p w U hw
  grind
 ·rcases dN a p aY with ⟨cG,dE⟩|⟨rfl,rfl⟩
  ·rcases dN b q ag with ⟨ew,h1⟩|⟨rfl,rfl⟩
   ·exact h.e3 a b p q u w kf dE h1 jb kn hu hw
   grind
  ·rcases dN b q ag with ⟨ew,h1⟩|⟨rfl,rfl⟩
   ·rw[ab] at hu;cases hu;exact (fg b q w ew h1 kn hw).symm
   grind
variable {aB:Type} {T:cr aB} {fb:Nat} {dH:List (List aB)} {ws:List as7} {v:as7}
open Classical in
noncomputable def qk (z:Nat->bm) (n:Nat) (e m:Mem) (v:as7):Nat->bm:=fun b=>
 match z b with
 | .lock n' j L t=>if n'=n/\n≠0/\e.next<=b then .own L t else .lock n' j L t
 |x=>if cY v=as4 b then m.aS b else x
theorem ag4 {bK:Type} {tp:cr bK} {f:List aB->bK} (h:r0 fb T z e m k vs dH as6 v ws) (U:tp.a9=1) (aa:tp.tid=fb) (aF:∀z xs c,eC T z xs c->tp.rd z (f xs) [c]) (aM:dp z e m k):
  ∃z',dt e.next z z'/\dp z' e m k/\eC tp z' (dH.map f) v/\∀b,dy v≠as4 b->(fk v=0\/∀j L t,z b≠ .lock (fk v) j L t)->z' b=z b:=by
 have ab:dy v=cY v:=gE (by obtain ⟨a,c,rfl⟩:=h.bs.bs.len;grind);have yl:=fun b (ag:cY v=as4 b)=>(h.bs.bs.lt b ag).2;have other:∀b,cY v≠as4 b->(∀n j L t,z b≠ .lock n j L t)->qk z (fk v) e m v b=z b:=by
  grind [qk]
 have ac0:∀b n j L t,z b= .lock n j L t->qk z (fk v) e m v b=if n=fk v/\fk v≠0/\e.next<=b then .own L t else .lock n j L t:=by
  grind [qk]
 have qX:∀b,cY v=as4 b->qk z (fk v) e m v b=m.aS b:=by
  grind [qk]
 have hle:eM z (qk z (fk v) e m v):=fun b ag=>other b (fun bJ=>by rw[yl b bJ] at ag;exact ag) fun n j L t bJ=>by rw[bJ] at ag;exact ag
 refine ⟨qk z (fk v) e m v,⟨hle,fun b ag=> ?_⟩,⟨fun b ag=> ?_,aM.dead,aM.l8,aM.next,aM.kept⟩, ?_,fun b ag a2=> ?_⟩
 ·cases a4:z b with
  |lock n j L t=>grind
  |_=>
   have:=other b (fun bJ=>by have:=h.bs.fresh b bJ;omega) (fun n j L t bJ=>by grind)
   grind
 ·by_cases jF:cY v=as4 b
  ·rw[qX b jF];have:=h.bs.EK b jF
   grind
  ·cases a4:z b with
   |lock n j L t=>
    have:=aM.bi b (by grind);rw[a4] at this;rw[ac0 b n j L t a4];split
    ·exact this
    grind
   |_=>have ao:=other b jF (fun n j L t bJ=>by rw[a4] at bJ;cases bJ);rw[ao] at ag⊢;exact aM.bi b ag
 ·have mP:∀(j:Nat) (w:as7) (xs:List aB),ws[j]? =as4 w->dH[j]? =as4 xs->eC T (qk z (fk v) e m v) xs w:=by
   intro j w xs hw ad;rcases h.mP j w xs hw ad (fun p aL=>by grind) with bJ|⟨b,f0,L,c,rfl,aO,bT,cP,eG,gN⟩
   ·exact .inl bJ
   ·have p1:qk z (fk v) e m v b= .own L T.tid:=by
     have bg:fk v≠0:=by
      intro bg;unfold fk at bg;rcases h.bs.bs with ⟨rfl,q7⟩|⟨cR,o',L',bP,rfl,_⟩
      ·grind
      grind [cY]
     grind
    refine .inr ⟨b,f0,c,rfl,by rw[p1];exact atm, ?_,fun i x aj=> ?_⟩
    ·grind
    ·obtain ⟨cs,dn,dz⟩:=gN i x aj;refine ⟨cs,T.mono _ _ hle _ _ dn,fun a u aY=> ?_⟩;simp only[ll,p1];exact dz a u aY
  rcases h.bs.bs with ⟨rfl,q7⟩|⟨b,f0,L,c,rfl,aU,aO,bT,cP,eG,gN⟩
  ·have:dH=[]:=List.length_eq_zero_iff.1 (by rw[<-h.len,q7];rfl);subst this;exact .inl ⟨rfl,rfl⟩
  ·have p1:=qX b rfl;rw[aU] at p1;have ax:(dH.map f).length=ws.length:=by rw[List.length_map,h.len]
   refine .inr ⟨b,f0,c,by grind,by rw[p1];exact atm, ?_,fun i x aj=> ?_⟩
   ·rcases eG with eG|⟨eG,DW,_⟩
    ·exact .inl ⟨eG,L,by rw[p1,aa];rfl,by rw[ax,U];exact cP⟩
    grind
   ·rw[aub] at aj;obtain ⟨xs,ad,rfl⟩:=Option.map_eq_some_iff.1 aj;have bS:i<ws.length:=by grind
    have hw:=atS bS;obtain ⟨cs,dn,dz⟩:=gN i _ hw;refine ⟨[ws[i]],aF _ _ _ (mP i _ xs hw ad),fun a u aY=> ?_⟩;rw[dn.1] at dz;simp only[ll,p1,U];exact dz a u aY
 grind
theorem aio {ED j:Nat} {w:as7} {xs:List aB} (h:r0 fb T z e m k vs dH as6 v ws) (aM:dp z e m k) (hw:ws[j]? =as4 w) (ad:dH[j]? =as4 xs) (a0:∀(i:Nat) (u:as7),vs[i]? =as4 u->vs'[i]? =as4 u) (arV:vs'[ED]? =as4 w):
  ∃z',dt e.next z z'/\dp z' e m k/\r0 fb T z' e m k vs' dH (as4 ((j:Int),ED)) v ws/\dL T z' e m k xs w/\(∀b,z' b=z b\/cY w=as4 b/\fk v≠0/\∃L t,z b= .lock (fk v) j L t)/\∀b,cY w=as4 b->z b≠ .dead:=by
 have keep:∀{z'},eM z z'->(∀b,z' b=z b\/cY w=as4 b/\fk v≠0/\∃L t,z b= .lock (fk v) j L t)->(∀b,cY v=as4 b->z' b=z b)->r0 fb T z' e m k vs' dH (as4 ((j:Int),ED)) v ws:=by
  intro z' hle qU o5;refine ⟨h.bs.iF hle o5,h.len,fun p3 g2 Qx aU aO bT=> ?_,fun p aL=>by grind⟩;have ep:p3≠j:=fun bJ=>bT _ rfl (by grind);rcases h.mP p3 g2 Qx aU aO (fun p aL=>by grind) with bJ|⟨b,f0,L,c,dn,dz,dX,eE,qa,pe⟩
  ·exact .inl bJ
  ·refine .inr ⟨b,f0,L,c,dn, ?_,dX,eE,qa,fun i x aj=> ?_⟩
   ·grind
   ·obtain ⟨cs,kW,lu⟩:=pe i x aj;exact ⟨cs,T.mono _ _ hle _ _ kW,lu⟩
 rcases h.mP j w xs hw ad (fun p aL=>by grind) with ⟨rfl,rfl⟩|⟨b,f0,L,c,rfl,aO,bT,cP,eG,gN⟩
 ·exact ⟨z,dt.refl z,aM,keep (eM.refl z) (fun b=> .inl rfl) (fun _ _=>rfl),dL.nil,fun b=> .inl rfl,fun b ag=>by cases ag⟩
 ·have bg:fk v≠0:=by
   intro bg;unfold fk at bg;rcases h.bs.bs with ⟨rfl,q7⟩|⟨cR,o',L',bP,rfl,_⟩
   ·grind
   grind [cY]
  let z':Nat->bm:=fun c=>if c=b then .dead else z c
  have bt:z' b= .dead:=if_pos rfl;have e2:∀c,c≠b->z' c=z c:=fun c ah=>if_neg ah;have hle:eM z z':=fun c ah=>e2 c (fun bJ=>by rw[bJ,aO] at ah;exact ah);have qU:∀bP,z' bP=z bP\/cY (atZ (as4 ⟨b,f0,as6⟩) xs.length c)=as4 bP/\fk v≠0/\∃L t,z bP= .lock (fk v) j L t:=fun bP=>by
   by_cases ah:bP=b
   ·subst ah;exact .inr ⟨rfl,bg,L,_,aO⟩
   grind
  have vV:=aM.bi b (by grind);rw[aO] at vV;refine ⟨z',⟨hle,fun c ah=>e2 c (by omega)⟩,⟨fun c ah=> ?_,aM.dead,aM.l8,aM.next,aM.kept⟩,keep hle qU (fun c ah=>e2 c (fun bJ=> ?_)),⟨.inr ⟨b,f0,L,c,rfl,vV.1,vV.2,bt,cP,eG,fun i x aj=> ?_⟩,fun c ah=>by grind⟩,qU,fun c ah=>by grind⟩
  ·by_cases fc:c=b
   ·grind
   ·rw[e2 c fc] at ah⊢;exact aM.bi c ah
  ·subst bJ;have:=(h.bs.bs.lt c ah).2
   grind
  ·obtain ⟨cs,kW,lu⟩:=gN i x aj;exact ⟨cs,T.mono _ _ hle _ _ kW,lu⟩
theorem OQ {hole:Option (Int×Nat)} {j:Nat} {w:as7} {xs:List aB} {xf:List as7} (h:r0 fb T z e m k vs dH hole v ws) (aM:dp z e m' k) (an:dL (pG fb) z e m' k xf v) (q7:xf=ws.set j w) (a0:j<ws.length) (bJ:∀p,hole=as4 p->p.1=(j:Int)) (hw:dL T z e m' k xs w) (fg:eB (cY w) (cY v)):
  ∃z',dt e.next z z'/\dp z' e m' k/\r0 fb T z' e m' k vs (dH.set j xs) as6 v xf/\∀b,z' b=z b\/cY w=as4 b:=by
 have keep:∀{z'},eM z z'->(∀b,z' b=z b\/cY w=as4 b)->rX T z' e.next (fk v) j xs w->r0 fb T z' e m' k vs (dH.set j xs) as6 v xf:=by
  intro z' hle qU od;refine ⟨an.iF hle fun b ag=> ?_,by rw[q7,aur,aur];exact h.len,fun p3 g2 Qx aU aO bT=> ?_,fun p aL=>by grind⟩
  ·rcases qU b with ah|ah
   ·grind
   ·exact absurd ag (fg b ah)
  ·rw[q7,atQ] at aU;rw[atQ] at aO;by_cases he:j=p3
   ·grind
   ·rw[if_neg he] at aU aO;rcases h.mP p3 g2 Qx aU aO (fun p aL arR=>he (by grind)) with ah|⟨b,f0,L,c,dn,dz,dX,eE,qa,pe⟩
    ·exact .inl ah
    ·refine .inr ⟨b,f0,L,c,dn, ?_,dX,eE,qa,fun i x aj=> ?_⟩
     ·rcases qU b with ah|ah
      ·grind
      ·have:=(hw.bs.lt b ah).2
       grind
     ·obtain ⟨cs,kW,lu⟩:=pe i x aj;exact ⟨cs,T.mono _ _ hle _ _ kW,lu⟩
 rcases hw.bs with ⟨rfl,rfl⟩|⟨b,f0,L,c,rfl,aU,aO,bT,cP,eG,gN⟩
 ·exact ⟨z,dt.refl z,aM,keep (eM.refl z) (fun b=> .inl rfl) (.inl ⟨rfl,rfl⟩),fun b=> .inl rfl⟩
 ·let z':Nat->bm:=fun c=>if c=b then .lock (fk v) j L T.tid else z c
  have bt:z' b= .lock (fk v) j L T.tid:=if_pos rfl;have e2:∀c,c≠b->z' c=z c:=fun c ah=>if_neg ah;have hle:eM z z':=fun c ah=>e2 c (fun bJ=>by rw[bJ,bT] at ah;exact ah);have qU:∀bP,z' bP=z bP\/cY (atZ (as4 ⟨b,f0,as6⟩) xs.length c)=as4 bP:=fun bP=>by
   by_cases ah:bP=b
   ·subst ah;exact .inr rfl
   grind
  have hg:=hw.fresh b rfl;refine ⟨z',⟨hle,fun c ah=>e2 c (by omega)⟩,⟨fun c ah=> ?_,aM.dead,aM.l8,aM.next,aM.kept⟩,keep hle qU (.inr ⟨b,f0,L,c,rfl,bt,hg,cP,eG,fun i x aj=> ?_⟩),qU⟩
  ·by_cases fc:c=b
   ·subst fc;rw[bt];exact ⟨aU,aO⟩
   ·rw[e2 c fc] at ah⊢;exact aM.bi c ah
  ·obtain ⟨cs,kW,lu⟩:=gN i x aj;exact ⟨cs,T.mono _ _ hle _ _ kW,lu⟩
end
end Go.ay
end
section
namespace Go.ay
noncomputable section
section
variable {P:atb} {D:Nat->Type}
def w0:bY D->Bool
 | .gS| .wk| .pa| .own _=>as9
 |_=>as5
def ot:bY D->Bool
 | .own _=>as9
 | .fn _ is=>is.isEmpty
 |_=>as5
def nZ:List (bY D)->List (bY D)->Prop
 |[],[]=>True
 |c::cs,d::ds=>(w0 c=as5->d=c)/\nZ cs ds
 |_,_=>False
theorem nZ.eq:∀{cs ds:List (bY D)},nZ cs ds->cs.all w0=as5->cs=ds
 |[],[],_,_=>rfl
 |c::cs,d::ds,h,a2=>by simp only[atX,ati] at a2;rw[h.1 a2.1,nZ.eq h.2 a2.2]
 |[],_::_,h,_=>h.elim
 |_::_,[],h,_=>h.elim
theorem nZ.refl:∀(cs:List (bY D)),nZ cs cs
 |[]=>trivial
 |_::cs=>⟨fun _=>rfl,nZ.refl cs⟩
structure dM (P:atb) (G:l5 D) (t:Nat) where
 kD:D t->List (bY D)
 ox:List (bY D)->Option (D t)
 x0:D t
 i:TypeInfo
 cN:as7
 tid:(G.T t).tid=t
 aj:P.info? t=as4 i
 b6:i.size=(G.T t).a9
 gA:((G.T t).a9==0)=as9
 gO:atn i.bytes 32768=as5
 a4:i.zero=as4 cN
 da:cN.cells.toList.all cQ=as5
 dU:cN.cells.size=i.size
 Ch:∀z,(G.T t).rd z x0 cN.cells.toList
 pr:∀z vs x cs,(G.T t).rd z x cs->bp (dJ G z vs) (kD x) cs
 p9:∀z vs cs x ds,ox cs=as4 x->bp (dJ G z vs) cs ds->(G.T t).rd z x ds
 NV:∀x,ox (kD x)=as4 x
 E1:∀cs x,ox cs=as4 x->nZ cs (kD x)
 pz:List (bY D)
 o7:∀z vs,bp (dJ G z vs) pz cN.cells.toList
 NG:∀x,(kD x).all ot=as5
structure ZP (P:atb) (G:l5 D) (t:Nat) where
 e:Nat
 n:Nat
 ti:dM P G e
 i:TypeInfo
 cN:as7
 hu:P.underlying t=as4 (.array n e)
 aj:P.info? t=as4 i
 a4:i.zero=as4 cN
 da:cN.cells.toList.all cQ=as5
 dU:cN.cells.size=i.size
 o7:cN.cells.toList=(att n ti.cN.cells.toList).flatten
 a2:aty n cF=as5
structure LA (P:atb) (G:l5 D) (bh bc:Nat) where
 dec:DecidableEq (D bh)
 K:oO P bh (G.eb bh)
 V:pJ P bc (G.eb bc)
 ug:aV D->Option (D bh)
 Cr:bY D->Option (D bc)
 rP:D bc->bY D
 cg:D bc
 i:TypeInfo
 aj:P.info? bc=as4 i
 a4:i.zero=as4 (dY (dG P bc) (G.eb bc cg))
 MY:∀z vs s a v,ug s=as4 a->rel G z vs s v->v=dY (dG P bh) (G.eb bh a)
 UL:∀z vs c a v,Cr c=as4 a->dJ G z vs c v->v=dY (dG P bc) (G.eb bc a)
 yA:∀z vs a,dJ G z vs (rP a) (dY (dG P bc) (G.eb bc a))
 adZ:dG P bc=as9
structure QE (P:atb) (G:l5 D) (e:Nat) where
 to:List (D e)->List UInt8
 of:List UInt8->List (D e)
 aF:∀z xs v,eC (G.T e) z xs v->eC (js e) z (to xs) v
 an:∀z o9 m k xs v,dL (G.T e) z o9 m k xs v->dL (js e) z o9 m k (to xs) v
 ag:∀z o9 m k xs v,dL (js e) z o9 m k xs v->dL (G.T e) z o9 m k (of xs) v
 i:TypeInfo
 hu:P.underlying e=as4 (.int .u8)
 aj:P.info? e=as4 i
 ju:i.size=1
 aE:∀z m b1 w,Src (js e) z m b1 w->Src (G.T e) z m (of b1) w
structure LC (P:atb) (G:l5 D) (t:Nat) where
 bl:Array Field
 eq:D t->D t->Bool
 gw:D t->List as7
 au:P.underlying t=as4 (.struct bl)
 aL:P.stoodInHeld t=as9
 a5:P.eqGuardType P.depth t=as9
 aE:∀x y,pF P bl.toList 0 (gw x) (gw y)
 ab:∀z x ds,(G.T t).rd z x ds->ds=gw x
 he:∀x y,eq x y=as5↔gw x=gw y
structure tm (P:atb) (G:l5 D) where
 f:Nat
 g:Nat
 e:Nat
 Qi:List (D e)->Option (List (D e))
 gw:D e->List as7
 ab:∀z x ds,(G.T e).rd z x ds->ds=gw x
 aF:∀z x,(G.T e).rd z x (gw x)
 bd:∀x,(gw x).all cQ=as5
 ok:kS P f=as5
 bg:Y1 P f (.func (.func g) #[] #[])
 a2:∀xs b1,Qi xs=as4 b1->b1.length=xs.length
 aE:∀xs b1,Qi xs=as4 b1->0<xs.length->Y2 P f (.func (.func g) #[] #[]) xs.length (xs.flatMap gw) (b1.flatMap gw)
structure tk (P:atb) (G:l5 D) (e t:Nat) where
 up:List (D t)->D e
 b6:(G.T e).a9=1
 tid:(G.T e).tid=e
 aF:∀z xs c,eC (G.T t) z xs c->(G.T e).rd z (up xs) [c]
 i:TypeInfo
 aj:P.info? e=as4 i
 a4:i.zero=as4 (.slice as6 0 0)
 U:i.size=1
 gO:atn i.bytes 32768=as5
 hu:P.underlying e=as4 (.slice t)
 au:(G.T t).tid=t
structure et (P:atb) (D:Nat->Type) where
 G:l5 D
 S:List (tm P G):=[]
 I:(t:Nat)->Option (dM P G t)
 A:(t:Nat)->Option (ZP P G t)
 Lw:(bh bc:Nat)->Option (LA P G bh bc)
 B:(e:Nat)->Option (QE P G e)
 Q:(t:Nat)->Option (LC P G t)
 N:(e t:Nat)->Option (tk P G e t):=fun _ _=>as6
 F:(f:Nat)->List (aV D)->List (aR D)->Bool
 hJ:atd->Option atd->Option atd->Nat:=fun _ _ _=>0
 W:(f:Nat)->Bool:=fun _=>as9
 TV : Option { g : Nat // P.globalNamed "humpyard/yardgen.dests" = as4 g } := as6
 C:(f:Nat)->List (aV D)->List (aR D)->{af:Type}->(aV D->List (aR D)->Option af)->Option af
variable (X:et P D) {af:Type}
def eh:List (Nat×aV D)->Nat->aV D
 |[],_=> .un
 |p::E,i=>if ath p.1 i=as5 then p.2 else eh E i
def lp (E:List (Nat×aV D)):Option Nat->aV D->List (Nat×aV D)
 |none,_=>E
 |some d,v=>(d,v)::E
def NP:as7->aV D
 | .int k n=> .c (.int k n)
 | .bool b=> .c (.bool b)
 | .string b=> .c (.str b.data.toList)
 | .slice as6 0 0=> .c .gS
 | .pointer as6=> .c .wk
 | .map as6=> .c .pa
 | .nilFunc=> .c .ui
 |_=> .un
def cW (E:List (Nat×aV D)):atd->aV D
 | .tmp t=>eh E t
 | .const v=>NP v
 | .func f=> .fn f []
 | .global _=> .un
def Gt:atd->Bool
 | .const (.int _ n)=>n !=0
 |_=>as9
def Dx (op:BinOp) (y:atd) (k:as') (a b:Int) (K:bY D->Option af):Option af:=
 match op with
 | .add=>K (.int k (k.wrap (a+b)))
 | .sub=>K (.int k (k.wrap (a - b)))
 | .mul=>K (.int k (k.wrap (a*b)))
 | .and=>K (.int k (nL .and k a b))
 | .or=>K (.int k (nL .or k a b))
 | .xor=>K (.int k (nL .xor k a b))
 | .andNot=>K (.int k (nL .andNot k a b))
 | .eql=>K (.bool (a==b))
 | .neq=>K (.bool (a !=b))
 | .lss=>K (.bool (decide (a<b)))
 | .leq=>K (.bool (decide (a<=b)))
 | .gtr=>K (.bool (decide (b<a)))
 | .geq=>K (.bool (decide (b<=a)))
 | .quo=>if Gt y=as5 then K (.int k (k.wrap (Int.tdiv a b))) else as8 (tx a b) fun c=>K (.int k (k.wrap c))
 | .rem=>if Gt y=as5 then K (.int k (Int.tmod a b)) else as8 (nG a b) fun c=>K (.int k c)
 |_=>as6
def Tm (op:BinOp) (s r:List UInt8) (K:bY D->Option af):Option af:=
 match op with
 | .add=>as8 (cl s r) fun q=>K (.str q)
 | .eql=>K (.bool (s==r))
 | .neq=>K (.bool (!(s==r)))
 | .lss=>K (.bool (oB s r))
 | .leq=>K (.bool (oB s r||(s==r)))
 | .gtr=>K (.bool (!(oB s r||(s==r))))
 | .geq=>K (.bool (!oB s r))
 |_=>as6
def Tl (op:BinOp) (a b:Bool) (K:bY D->Option af):Option af:=
 match op with
 | .eql=>K (.bool (a==b))
 | .neq=>K (.bool (!(a==b)))
 |_=>as6
def isNil:atd->Bool
 | .const (.slice as6 0 0)=>as5
 |_=>as9
def oA (O:List (aR D)):aV D->Option ((e:Nat)×List (D e))
 | .c (.ae e xs)=>as4 ⟨e,xs⟩
 | .c (.own i)=>
  match O[i]? with
  |some (.ae e xs _ _)=>as4 ⟨e,xs⟩
  |_=>as6
 |_=>as6
def Yc:atd->Option Nat
 | .const (.int _ (.ofNat n))=>as4 n
 |_=>as6
def nR (k:as') (b:Int):Option Nat:=if 0<=b then as4 (min b.toNat k.bits) else as6
def xb (left:Bool) (k:as') (a:Int) (n:Nat):Int:=if left=as5 then k.wrap (a*((2 ^ n:Nat):Int)) else a.fdiv ((2 ^ n:Nat):Int)
def JE (left:Bool) (y:atd) (k:as') (a b:Int) (K:bY D->Option af):Option af:=
 match Yc y with
 |some n=>if atn n k.bits=as5 then K (.int k (xb left k a n)) else as6
 |none=>as8 (nR k b) fun n=>K (.int k (xb left k a n))
def Mo (op:BinOp) (t t1:Nat) (c1:List (bY D)) (t2:Nat) (c2:List (bY D)) (K:bY D->Option af):Option af:=
 match X.I t,X.Q t with
 |some ti,as4 mr=>
  match ti.ox c1,ti.ox c2 with
  |some a,as4 b=>(match op with| .eql=>K (.bool (mr.eq a b))| .neq=>K (.bool (!(mr.eq a b)))|_=>as6)
  |_,_=>as6
 |_,_=>as6
def LW (op:BinOp) (t:atc) (y:atd) (O:List (aR D)) (a b:aV D) (K:bY D->Option af):Option af:=
 match a,b with
 | .c (.int k a), .c (.int cK b)=>(match op with| .shl=>JE as5 y k a b K| .shr=>JE as9 y k a b K|op=>if k=cK then Dx op y k a b K else as6)
 | .c (.str s), .c (.str r)=>Tm op s r K
 | .c (.bool a), .c (.bool b)=>match P.underlying t with|some .bool=>Tl op a b K|_=>as6
 |a,_=>
  match op,P.underlying t,isNil y with
  | .eql,as4 (.slice _),as5=>
   match a with
   | .c .gS=>K (.bool as5)
   |a=>match oA O a with|some ⟨_,xs⟩=>ET xs fun t=>K (.bool t)|none=>as6
  | .neq,as4 (.slice _),as5=>
   match a with
   | .c .gS=>K (.bool as9)
   |a=>match oA O a with|some ⟨_,xs⟩=>ET xs fun t=>K (.bool (!t))|none=>as6
  |_,_,_=>as6
def vb:List (bY D)->Nat->List (bY D)->List (bY D)
 |L,_,[]=>L
 |L,o,v::vs=>vb (L.set o v) (o+1) vs
def tC (O:List (aR D)) (i:Nat):Option (bY D×List (aR D)):=
 match O[i]? with
 |some (.ae e xs _ w)=>as4 (.ae e xs,O.set i (.ae e xs as5 w))
 |some (.map t bh bc es _ w)=>as4 (.mp t bh bc es,O.set i (.map t bh bc es as5 w))
 |some (.nest e t (as4 up) dH as6 w)=>as4 (.ae e (dH.map up),O.set i (.ae e (dH.map up) as5 w))
 |_=>as6
def qR (O:List (aR D)):bY D->Option (bY D×List (aR D))
 | .own i=>tC O i
 |c=>as4 (c,O)
def vM (O:List (aR D)):List (bY D)->Option (List (bY D)×List (aR D))
 |[]=>as4 ([],O)
 |c::cs=>
  match qR O c with
  |some (bP,bW)=>match vM bW cs with|some (cs',r1)=>as4 (bP::cs',r1)|none=>as6
  |none=>as6
def wT:aV D->Option (List (bY D))
 | .c c=>as4 [c]
 | .agg _ cs=>as4 cs
 | .fn f []=>as4 [.fn f []]
 |_=>as6
def DU (O:List (aR D)) (s:aV D):Option (List (bY D)×List (aR D)):=
 match wT s with
 |some cs=>vM O cs
 |none=>as6
def m4 (t:atc) (cs:List (bY D)) (off:Nat) (K:aV D->Option af):Option af:=
 match P.underlying t with
 |none=>as6
 |some d=>
  if jz d=as5 then
   match P.info? t with
   |none=>as6
   |some i=>if ((cs.drop off).take i.size).length=i.size then K (.agg t ((cs.drop off).take i.size)) else as6
  else
   match cs[off]? with
   |some c=>K (.c c)
   |none=>as6
def asG (O:List (aR D)) (e:Nat):aV D->Option (List (D e)×List (aR D))
 | .c .gS=>as4 ([],O)
 | .c c=>
  match qR O c with
  |some (.ae b0 xs,bW)=>if h:b0=e then as4 (h▸xs,bW) else as6
  |_=>as6
 |_=>as6
def zX:atd->atd->Bool
 | .tmp a, .tmp b=>ath a b
 | .const (.int _ a), .const (.int _ b)=>a==b
 |_,_=>as9
structure QK (D:Nat->Type) where
 u:Nat
 bh:Nat
 bc:Nat
 es:List (D bh×D bc)
def PN (O:List (aR D)):aV D->Option (QK D)
 | .c (.mp u k v es)=>as4 ⟨u,k,v,es⟩
 | .c (.own i)=>(match O[i]? with|some (.map u k v es _ _)=>as4 ⟨u,k,v,es⟩|_=>as6)
 |_=>as6
def P0 (t:atc) (a b:aV D) (O:List (aR D)) (K:aV D->List (aR D)->Option af):Option af:=
 match b with
 | .c (.int _ n)=>
  match a with
  | .arr i=>
   match O[i]? with
   |some (.arr e u n' xs _)=>
    match X.I e,P.underlying t with
    |some _,as4 (.array l b0)=>if b0=e/\l=n' then as8 (aD xs n) fun _=>K (.el i e n 0) O else as6
    |_,_=>as6
   |_=>as6
  | .c (.ae e xs)=>
   match X.I e,P.underlying t with
   |some ti,as4 (.slice b0)=>if b0=e then as8 (aD xs n) fun a=>K (.gU e (ti.kD a) 0) O else as6
   |_,_=>as6
  | .c (.own i)=>
   match O[i]? with
   |some (.ae e xs bi _)=>
    match X.I e,P.underlying t with
    |some ti,as4 (.slice b0)=>if b0=e then as8 (aD xs n) fun a=>if bi=as5 then K (.gU e (ti.kD a) 0) O else K (.el i e n 0) O else as6
    |_,_=>as6
   |some (.nest e t1 _ dH _ _)=>
    match X.N e t1,P.underlying t with
    |some _,as4 (.slice b0)=>if b0=e then as8 (aD dH n) fun _=>K (.el i e n 0) O else as6
    |_,_=>as6
   |_=>as6
  | .cut i e bD aj=>
   match O[i]? with
   |some (.ae bt xs as9 _)=>
    match X.I e,P.underlying t with
    |some _,as4 (.slice b0)=>if b0=e/\bt=e then as8 (aD ((xs.take aj).drop bD) n) fun _=>K (.el i e ((bD:Int)+n) 0) O else as6
    |_,_=>as6
   |_=>as6
  |_=>as6
 |_=>as6
def PZ (t:atc) (g:Nat) (b:aV D) (O:List (aR D)) (K:aV D->List (aR D)->Option af):Option af:=
 match b,P.underlying t with
 | .c (.int _ n),as4 (.array l e)=>(match P.info? e with|some i=>if l=6/\i.size=1 then as8 (aD n6 n) fun s=>K (.tF g s) O else as6|none=>as6)
 |_,_=>as6
def FX {e:Nat} (ti:dM P X.G e):Nat->List (bY D)->Option (List (D e))
 |0,_=>as4 []
 |n+1,cs=>match ti.ox (cs.take (X.G.T e).a9),FX ti n (cs.drop (X.G.T e).a9) with|some a,as4 l=>as4 (a::l)|_,_=>as6
def Pv (t:atc) (a b:aV D) (O:List (aR D)) (K:aV D->List (aR D)->Option af):Option af:=
 match a,b,P.underlying t with
 | .agg _ cs, .c (.int _ n),as4 (.array l e)=>
  match X.I e,P.underlying e with
  |some ti,as4 d=>
   if jz d=as5 then
    match vM O cs with
    |some (cs',bW)=>(match FX X ti l cs' with|some as=>as8 (aD as n) fun a=>K (.agg e (ti.kD a)) bW|none=>as6)
    |none=>as6
   else as6
  |_,_=>as6
 |_,_,_=>as6
def OS (t:atc) (n:Nat) (a:aV D) (O:List (aR D)) (K:aV D->List (aR D)->Option af):Option af:=
 match a,P.underlying t with
 | .agg _ cs,as4 (.struct bl)=>(match bl[n]? with|some f=>if atn f.offset cs.length=as5 then m4 (P:=P) f.type cs f.offset fun v=>K v O else as6|none=>as6)
 |_,_=>as6
def PY (t:atc) (n:Nat) (a:aV D) (O:List (aR D)) (K:aV D->List (aR D)->Option af):Option af:=
 match P.underlying t with
 |some (.struct bl)=>
  match bl[n]? with
  |some f=>
   match P.info? f.type with
   |some k=>
    if k.size=0 then as6 else
    match a with
    | .box i off=>K (.box i (off+f.offset)) O
    | .gU dZ cs off=>K (.gU dZ cs (off+f.offset)) O
    | .el i e cJ off=>K (.el i e cJ (off+f.offset)) O
    |_=>as6
   |none=>as6
  |none=>as6
 |_=>as6
def u0 (O:List (aR D)) (i:Nat):Option (List (aR D)):=
 match O[i]? with
 |some (.nest _ _ _ _ as6 _)=>as4 O
 |some (.nest e t up dH (as4 p) _)=>
  match O[p.2]? with
  |some (.ae dZ xs as9 _)=>if h:dZ=t then as4 ((O.set i (.nest e t up (dH.set p.1.toNat (h▸xs)) as6 as5)).set p.2 .dead) else as6
  |_=>as6
 |_=>as6
def OU (t:atc) (i e:Nat) (cJ:Int) (off:Nat) (O:List (aR D)) (K:aV D->List (aR D)->Option af):Option af:=
 match u0 O i with
 |some b2=>
  match b2[i]? with
  |some (.nest bt t1 up dH as6 w)=>
   match X.N bt t1 with
   |some _=>if bt=e/\t=e/\off=0 then as8 (aD dH cJ) fun xs=>K (.c (.own b2.length)) (b2.set i (.nest bt t1 up dH (as4 (cJ,b2.length)) w)++[.ae t1 xs as9 as9]) else as6
   |none=>as6
  |_=>as6
 |none=>as6
def Pq:Option (aR D)->Bool
 |some (.nest _ _ _ _ _ _)=>as5
 |_=>as9
def F3 (t:atc) (a:aV D) (O:List (aR D)) (K:aV D->List (aR D)->Option af):Option af:=
 match a with
 | .gU _ cs off=>m4 (P:=P) t cs off fun v=>K v O
 | .tF g s=>(match X.TV,P.underlying t with|some p,as4 .string=>if p.1=g then K (.c (.str s)) O else as6|_,_=>as6)
 | .box i off=>
  match O[i]? with
  |some (.box _ cs _ _)=>m4 (P:=P) t cs off fun v=>K v O
  |some (.recv _ cs _)=>m4 (P:=P) t cs off fun v=>K v O
  |_=>as6
 | .el i e cJ off=>
  if Pq O[i]? =as5 then OU X t i e cJ off O K else
  match O[i]?,X.I e with
  |some (.ae b0 xs _ _),as4 ti=>if h:b0=e then as8 (aD (h▸xs:List (D e)) cJ) fun a=>m4 (P:=P) t (ti.kD a) off fun v=>K v O else as6
  |some (.arr b0 _ _ xs _),as4 ti=>if h:b0=e then as8 (aD (h▸xs:List (D e)) cJ) fun a=>m4 (P:=P) t (ti.kD a) off fun v=>K v O else as6
  |_,_=>as6
 |_=>as6
def OT (t:atc) (a:aV D) (O:List (aR D)) (K:aV D->List (aR D)->Option af):Option af:=
 match a with
 | .el i e cJ off=>
  match O[i]? with
  |some (.nest bt t1 _ _ (as4 p) _)=>
   match X.N bt t1,O[p.2]? with
   |some _,as4 (.ae _ _ as9 _)=>if bt=e/\t=e/\off=0 then (if p.1=cJ then K (.c (.own p.2)) O else as6) else as6
   |_,_=>as6
  |_=>as6
 |_=>as6
def XL (t:atc) (a:aV D) (O:List (aR D)) (K:aV D->List (aR D)->Option af):Option af:=
 F3 X t a O fun df bW=>match df with
  | .c (.own j)=>(match tC bW j with|some (c,dK)=>K (.c c) dK|none=>as6)
  |_=>as6
def OJ (t:atc) (i e:Nat) (cJ:Int) (off:Nat) (b:aV D) (O:List (aR D)) (K:aV D->List (aR D)->Option af):Option af:=
 match b with
 | .c (.own j)=>
  match O[i]?,O[j]? with
  |some (.nest bt t1 up dH hole _),as4 (.ae t2 xs as9 _)=>
   match X.N bt t1 with
   |some _=>
    if h:t2=t1 then
     if bt=e/\t=e/\off=0 then
      match hole with
      |none=>as8 (aD dH cJ) fun _=>K .undef ((O.set i (.nest bt t1 up (dH.set cJ.toNat (h▸xs)) as6 as5)).set j .dead)
      |some p=>if p.1=cJ then as8 (aD dH cJ) fun _=>K .undef ((O.set i (.nest bt t1 up (dH.set cJ.toNat (h▸xs)) as6 as5)).set j .dead) else as6
     else as6
    else as6
   |none=>as6
  |_,_=>as6
 | .c .gS=>
  match O[i]? with
  |some (.nest bt t1 up dH hole _)=>
   match X.N bt t1 with
   |some _=>
    if bt=e/\t=e/\off=0 then
     match hole with
     |none=>as8 (aD dH cJ) fun _=>K .undef (O.set i (.nest bt t1 up (dH.set cJ.toNat []) as6 as5))
     |some p=>if p.1=cJ then as8 (aD dH cJ) fun _=>K .undef (O.set i (.nest bt t1 up (dH.set cJ.toNat []) as6 as5)) else as6
    else as6
   |none=>as6
  |_=>as6
 |_=>as6
def OW (t:atc) (a b:aV D) (O:List (aR D)) (K:aV D->List (aR D)->Option af):Option af:=
 match P.info? t with
 |none=>as6
 |some k=>
  match a with
  | .box i off=>
   match wT b with
   |none=>as6
   |some new=>
    if new.length=k.size then
     match O[i]? with
     |some (.box u cs as9 _)=>if off+new.length<=cs.length then K .undef (O.set i (.box u (vb cs off new) as9 as5)) else as6
     |some (.recv u cs _)=>if off+new.length<=cs.length then K .undef (O.set i (.recv u (vb cs off new) as5)) else as6
     |_=>as6
    else as6
  | .el i e cJ off=>
   if Pq O[i]? =as5 then OJ X t i e cJ off b O K else
   match DU O b with
   |none=>as6
   |some (new,O)=>
    if new.length=k.size then
     match O[i]?,X.I e with
     |some (.ae b0 xs as9 _),as4 ti=>
      if h:b0=e then as8 (aD (h▸xs:List (D e)) cJ) fun a=>if off+new.length<=(ti.kD a).length then as8 (ti.ox (vb (ti.kD a) off new)) fun a'=>K .undef (O.set i (.ae e ((h▸xs:List (D e)).set cJ.toNat a') as9 as5)) else as6
      else as6
     |some (.arr b0 u n xs _),as4 ti=>
      if h:b0=e then as8 (aD (h▸xs:List (D e)) cJ) fun a=>if off+new.length<=(ti.kD a).length then as8 (ti.ox (vb (ti.kD a) off new)) fun a'=>K .undef (O.set i (.arr e u n ((h▸xs:List (D e)).set cJ.toNat a') as5)) else as6
      else as6
     |_,_=>as6
    else as6
  |_=>as6
def zG {e:Nat} (ti:dM P X.G e) (E:List (Nat×aV D)):Nat->List (Nat×atd)->List (aR D)->(List (D e)->List (aR D)->Option af)->Option af
 |_,[],O,K=>K [] O
 |n,(j,x)::cm,O,K=>
  if j=n then
   match DU O (cW E x) with
   |some (cs,O)=>as8 (ti.ox cs) fun a=>zG ti E (n+1) cm O fun as O=>K (a::as) O
   |none=>as6
  else as6
def uZ (pl:List (Option (Nat×Nat))) (E:List (Nat×aV D)):List (Nat×atd)->List (bY D)->Option (List (bY D))
 |[],cs=>as4 cs
 |(i,x)::cm,cs=>
  match (pl[i]?).join,wT (cW E x) with
  |some (off,size),as4 new=>if new.length=size/\off+size<=cs.length then uZ pl E cm (vb cs off new) else as6
  |_,_=>as6
def wc (E:List (Nat×aV D)):Option atd->Option Int
 |none=>as4 0
 |some y=>match cW E y with| .c (.int _ n)=>as4 n|_=>as6
def wZ (E:List (Nat×aV D)) (l:Int):Option atd->Option Int
 |none=>as4 l
 |some y=>match cW E y with| .c (.int _ n)=>as4 n|_=>as6
def PX (t:atc) (a:aV D) (E:List (Nat×aV D)) (bD aj:Option atd) (O:List (aR D)) (K:aV D->List (aR D)->Option af):Option af:=
 match a with
 | .c (.str s)=>
  match P.underlying t,wc E bD,wZ E (s.length:Int) aj with
  |some .string,as4 x,as4 y=>as8 (hj s x y) fun r=>K (.c (.str r)) O
  |_,_,_=>as6
 | .c c=>
  match qR O c with
  |some (.ae e xs,O)=>
   match P.underlying t,X.I e,wc E bD,wZ E (xs.length:Int) aj with
   |some (.slice b0),as4 _,as4 x,as4 y=>if b0=e then as8 (hj xs x y) fun r=>K (.c (.ae e r)) O else as6
   |_,_,_,_=>as6
  |_=>as6
 |_=>as6
def U4:aV D->Bool
 | .c .gS=>as5
 |_=>as9
def Pf (t:atc) (y:atd) (a:aV D) (E:List (Nat×aV D)) (bD aj:Option atd) (O:List (aR D)) (K:aV D->List (aR D)->Option af):Option af:=
 if U4 a=as5 then
  match P.underlying t,wc E bD,wZ E 0 aj with
  |some (.slice e),as4 p,as4 q=>(match X.I e with|some _=>if (p==0&&q==0)=as5 then K (.c .gS) O else as6|none=>as6)
  |_,_,_=>as6
 else
 match X.hJ y bD aj with
 |0=>PX X t a E bD aj O K
 |md+1=>
  match a with
  | .c (.own i)=>
   match O[i]?,P.underlying t with
   |some (.ae e xs as9 _),as4 (.slice b0)=>
    match X.I e,wc E bD,wZ E (xs.length:Int) aj with
    |some _,as4 p,as4 q=>
     if b0=e then as8 (hj xs p q) fun r=>
      if ath md 0=as5 then K (.cut i e p.toNat q.toNat) O
      else K (.c (.own O.length)) (O.set i .dead++[.ae e r as9 as9])
     else as6
    |_,_,_=>as6
   |_,_=>as6
  |_=>as6
def wX {aB:Type} (xs:List aB) (p q:Int):Option (List aB):=if 0<=p/\p<=(xs.length:Int)/\p<=4294967296/\p=q then as4 (xs.take p.toNat) else as6
def Pg (t:atc) (a b c:aV D) (O:List (aR D)) (K:aV D->List (aR D)->Option af):Option af:=
 match P.underlying t,b,c with
 |some (.slice b0), .c (.int _ p), .c (.int _ q)=>
  match a with
  | .c c=>
   match qR O c with
   |some (.ae e xs,O)=>
    match X.I e with
    |some _=>if b0=e then as8 (wX xs p q) fun r=>K (.full e r) O else as6
    |none=>as6
   |_=>as6
  |_=>as6
 |_,_,_=>as6
def Pe (s t:atc) (a:aV D) (O:List (aR D)) (K:aV D->List (aR D)->Option af):Option af:=
 match P.underlying s,P.underlying t with
 |some (.int _),as4 (.int cK)=>(match a with| .c (.int _ n)=>K (.c (.int cK (cK.wrap n))) O|_=>as6)
 |some .string,as4 (.slice e)=>(match a,X.B e with| .c (.str s),as4 ky=>as8 (cl s []) (fun ig=>K (.c (.own O.length)) (O++[.ae e (ky.of ig) as9 as9]))|_,_=>as6)
 |some (.slice e),as4 .string=>(match oA O a,X.B e with|some ⟨b0,xs⟩,as4 ky=>if h:b0=e then K (.c (.str (ky.to (h▸xs)))) O else as6|_,_=>as6)
 |_,_=>as6
def Gu (O:List (aR D)) (s:aV D):Option ((e:Nat)×List (D e)):=
 match s with
 | .cut i e bD n=>
  match O[i]? with
  |some (.ae b0 xs as9 _)=>if b0=e then as4 ⟨b0,(xs.take n).drop bD⟩ else as6
  |_=>as6
 |s=>oA O s
def O9 (e:Nat) (vI:TypeDesc) (b:aV D) (O:List (aR D)):Option (List (D e)):=
 match vI with
 | .slice _=>(match b with
  | .c .gS=>as4 []
  |b=>match Gu O b with|some ⟨b0,b1⟩=>if h:b0=e then as4 (h▸b1) else as6|none=>as6)
 | .string=>(match b,X.B e with
  | .c (.str s),as4 ky=>as4 (ky.of s)
  |_,_=>as6)
 |_=>as6
def GA (t u:atc) (a b:aV D) (O:List (aR D)) (K:aV D->List (aR D)->Option af):Option af:=
 match P.underlying t,P.underlying u with
 |some (.slice e),as4 vI=>
  match X.I e with
  |none=>as6
  |some _=>
   match O9 X e vI b O with
   |none=>as6
   |some b1=>
    match a with
    | .c .gS=>as8 (cl [] b1) fun r=>K (.c (.own O.length)) (O++[.ae e r as9 as9])
    | .full b0 xs=>if h:b0=e then (if b1.isEmpty=as5 then as6 else as8 (cl (h▸xs:List (D e)) b1) fun r=>K (.c (.own O.length)) (O++[.ae e r as9 as9])) else as6
    | .c (.own i)=>
     match O[i]? with
     |some (.ae b0 xs as9 _)=>if h:b0=e then as8 (cl (h▸xs:List (D e)) b1) fun r=>K (.c (.own O.length)) (O.set i .dead++[.ae e r as9 as9]) else as6
     |_=>as6
    | .cut i bt bD n=>
     if ath bD 0=as5 then
      if bt=e then
       match O[i]? with
       |some (.ae b0 xs as9 _)=>if h:b0=e then as8 (cl ((h▸xs:List (D e)).take n) b1) fun r=>K (.c (.own O.length)) (O.set i .dead++[.ae e r as9 as9]) else as6
       |_=>as6
      else as6
     else as6
    |_=>as6
 |_,_=>as6
def Pd (t u:atc) (a b:aV D) (O:List (aR D)) (K:aV D->List (aR D)->Option af):Option af:=
 match P.underlying t,P.underlying u with
 |some (.slice e),as4 (.slice _)=>
  match X.I e,a,Gu O b with
  |some _, .full b0 xs,as4 ⟨e2,b1⟩=>
   if h:b0=e then
    if aa:e2=e then as8 (cl (h▸xs:List (D e)) (aa▸b1:List (D e))) fun r=>if b1.isEmpty=as5 then K (.c (.ae e r)) O else K (.c (.own O.length)) (O++[.ae e r as9 as9])
    else as6
   else as6
  |_,_,_=>as6
 |_,_=>as6
def OR (t:atc) (a b:aV D) (O:List (aR D)) (K:aV D->List (aR D)->Option af):Option af:=
 match P.underlying t,a,b with
 |some (.slice e), .c .gS, .c (.int _ n)=>
  match X.I e with
  |some ti=>if (decide (0<n))=as5 then as8 (iM ti.x0 n) fun r=>K (.c (.own O.length)) (O++[.ae e r as9 as9]) else as6
  |none=>as6
 |some (.slice e), .c (.own i), .c (.int _ n)=>
  match u0 O i with
  |some b2=>
   match b2[i]? with
   |some (.nest bt t1 up mz as6 _)=>
    match X.N bt t1 with
    |some _=>if bt=e then as8 (iM ([]:List (D t1)) n) fun b1=>as8 (cl mz b1) fun r=>K (.c (.own b2.length)) (b2.set i .dead++[.nest bt t1 up r as6 as9]) else as6
    |none=>as6
   |_=>as6
  |none=>as6
 |_,_,_=>as6
def Pp:Option TypeDesc->Bool
 |some (.int _)=>as5
 |_=>as9
def P2 (t:atc) (l:Nat) (cm:List (Nat×atd)) (E:List (Nat×aV D)) (O:List (aR D)) (K:aV D->List (aR D)->Option af):Option af:=
 match P.underlying t with
 |some (.slice e)=>
  match P.underlying e with
  |some (.slice t1)=>
   match X.N e t1 with
   |some ei=>
    match l,cm with
    |0,[]=>K (.c (.own O.length)) (O++[.nest e t1 (as4 ei.up) [] as6 as9])
    |1,[(0,y)]=>
     match cW E y with
     | .c (.own j)=>
      match O[j]? with
      |some (.ae t2 _ as9 _)=>if t2=t1 then K (.c (.own O.length)) (O++[.nest e t1 (as4 ei.up) [[]] (as4 (0,j)) as9]) else as6
      |_=>as6
     |_=>as6
    |_,_=>as6
   |none=>as6
  |_=>as6
 |_=>as6
def Pk (t u:atc) (i:Nat) (b:aV D) (O:List (aR D)) (K:aV D->List (aR D)->Option af):Option af:=
 match P.underlying t,P.underlying u with
 |some (.slice e),as4 (.slice _)=>
  match b with
  | .c (.own j)=>
   if ath i j=as5 then as6 else
   match u0 O i with
   |some b2=>
    match u0 b2 j with
    |some dK=>
     match dK[i]?,dK[j]? with
     |some (.nest bt t1 up mz as6 _),as4 (.nest e2 t2 _ Cv as6 _)=>
      match X.N bt t1 with
      |some ei=>if h:t2=t1 then (if bt=e/\e2=e then as8 (cl mz (h▸Cv:List (List (D t1)))) fun r=>K (.c (.own dK.length)) ((dK.set i .dead).set j .dead++[.nest bt t1 up r as6 as9]) else as6) else as6
      |none=>as6
     |_,_=>as6
    |none=>as6
   |none=>as6
  |_=>as6
 |_,_=>as6
def P1 (t:atc) (a:aV D) (O:List (aR D)) (K:aV D->List (aR D)->Option af):Option af:=
 match a,P.underlying t with
 | .c (.str s),as4 .string=>K (.c (.int .i64 (s.length:Int))) O
 | .c .gS,as4 (.slice _)=>K (.c (.int .i64 (([]:List Int).length:Int))) O
 |a,as4 (.slice _)=>
  match oA O a with
  |some ⟨_,xs⟩=>K (.c (.int .i64 (xs.length:Int))) O
  |none=>
   match a with
   | .c (.own i)=>(match O[i]? with|some (.nest _ _ _ dH _ _)=>K (.c (.int .i64 (dH.length:Int))) O|_=>as6)
   | .cut i e bD aj=>(match O[i]? with|some (.ae b0 xs as9 _)=>if b0=e then K (.c (.int .i64 (((xs.take aj).drop bD).length:Int))) O else as6|_=>as6)
   |_=>as6
 |_,_=>as6
def Yy:bY D->Bool
 | .own _=>as9
 | .fn _ is=>is.isEmpty
 |_=>as5
def uY (O:List (aR D)):aV D->Option ((Nat×List (bY D))×List (aR D))
 | .gU t cs off=>if off=0 then as4 ((t,cs),O) else as6
 | .box i off=>
  match O[i]? with
  |some (.box t cs _ w)=>if off=0/\cs.all Yy=as5 then as4 ((t,cs),O.set i (.box t cs as5 w)) else as6
  |_=>as6
 |_=>as6
def zo:List (aV D)->List (aR D)->Option (List (Nat×List (bY D))×List (aR D))
 |[],O=>as4 ([],O)
 |s::l,O=>
  match uY O s with
  |some (c,O)=>(match zo l O with|some (r,O)=>as4 (c::r,O)|none=>as6)
  |none=>as6
def LY (O:List (aR D)):aV D->Option Nat
 | .box i off=>
  match O[i]? with
  |some (.box _ _ as9 _)=>if off=0 then as4 i else as6
  |_=>as6
 |_=>as6
def zC (O:List (aR D)):List (aV D)->Option (List Nat)
 |[]=>as4 []
 |s::l=>match LY O s,zC O l with|some i,as4 is=>as4 (i::is)|_,_=>as6
def Hp:List (aV D)->Option Nat
 |[_, .fn g []]=>as4 g
 |_=>as6
def Qg:Option Nat->Nat->Bool
 |some g,n=>ath g n
 |none,_=>as9
def u1:List (tm P X.G)->Nat->List (Nat×List (bY D))->List (aV D)->Option (tm P X.G)
 |[],_,_,_=>as6
 |s::l,f,caps,cp=>if (ath s.f f&&(caps.isEmpty&&Qg (Hp cp) s.g))=as5 then as4 s else u1 l f caps cp
def Pw (fm:tm P X.G) (cp:List (aV D)) (O:List (aR D)) (K:aV D->List (aR D)->Option af):Option af:=
 match cp with
 | .c .gS::_=>K (.nb []) O
 | .c (.own i)::_=>
  match O[i]? with
  |some (.ae e xs as9 _)=>if h:e=fm.e then as8 (fm.Qi (h▸xs:List (D fm.e))) fun b1=>K (.nb []) (O.set i (.ae fm.e b1 as9 as5)) else as6
  |_=>as6
 |_=>as6
def qc (c:Call) (E:List (Nat×aV D)) (O:List (aR D)) (K:aV D->List (aR D)->Option af):Option af:=
 match c.callee with
 | .builtin .len=>match c.args.toList,c.argTypes.toList with|[x],[t]=>P1 (P:=P) t (cW E x) O K|_,_=>as6
 | .builtin .append=>match c.args.toList,c.argTypes.toList with|[x,y],[t,u]=>if Pp (P.underlying u)=as5 then OR X t (cW E x) (cW E y) O K else if ath (X.hJ y (as4 x) (as4 x)) 6=as5 then Pd X t u (cW E x) (cW E y) O K else (match cW E x with| .c (.own i)=>if Pq O[i]? =as5 then Pk X t u i (cW E y) O K else GA X t u (cW E x) (cW E y) O K|_=>GA X t u (cW E x) (cW E y) O K)|_,_=>as6
 | .builtin .cap=>match c.args.toList,c.argTypes.toList with|[x],[t]=>(match cW E x,P.underlying t with| .c .gS,as4 (.slice _)=>K (.c (.int .i64 0)) O|_,_=>as6)|_,_=>as6
 | .builtin .max=>match c.args.toList with|[x,y]=>(match cW E x,cW E y with| .c (.int k a), .c (.int cK b)=>if k=cK then K (.c (.int k (max a b))) O else as6|_,_=>as6)|_=>as6
 | .builtin .min=>match c.args.toList with|[x,y]=>(match cW E x,cW E y with| .c (.int k a), .c (.int cK b)=>if k=cK then K (.c (.int k (min a b))) O else as6|_,_=>as6)|_=>as6
 | .value f=>
  match cW E f with
  | .fn f caps=>
   match u1 X X.S f caps (c.args.toList.map (cW E)) with
   |some fm=>Pw X fm (c.args.toList.map (cW E)) O K
   |none=>X.C f (c.args.toList.map (cW E)++caps.map fun p=> .gU p.1 p.2 0) O K
  | .c (.fn f is)=>X.C f (c.args.toList.map (cW E)++is.map fun i=> .box i 0) O K
  |_=>as6
 |_=>as6
def OV (e:Nat) (x y:atd) (n:Int) (O:List (aR D)) (K:aV D->List (aR D)->Option af):Option af:=
 match P.underlying e with
 |some (.slice t1)=>
  match X.N e t1,zX x y with
  |some ei,as5=>as8 (iM ([]:List (D t1)) n) fun r=>K (.c (.own O.length)) (O++[.nest e t1 (as4 ei.up) r as6 as9])
  |_,_=>as6
 |_=>as6
def hR (o:Op) (E:List (Nat×aV D)) (O:List (aR D)) (K:aV D->List (aR D)->Option af):Option af:=
 match o with
 | .move x=>K (cW E x) O
 | .assign x=>K (cW E x) O
 | .nilCheck x=>(match cW E x with| .box .. | .arr .. | .el .. | .gU .. =>K (cW E x) O|_=>as6)
 | .extract x i=>(match cW E x with| .nb l=>(match l[i]? with|some (.inl c)=>K (.c c) O|some (.inr p)=>K (.agg p.1 p.2) O|none=>as6)|_=>as6)
 | .pick c a b=>(match cW E c with| .c (.bool as5)=>K (cW E a) O| .c (.bool as9)=>K (cW E b) O|_=>as6)
 | .binOp op t x y u=>(match cW E x,cW E y with| .agg t1 c1, .agg t2 c2=>Mo X op t t1 c1 t2 c2 fun c=>K (.c c) O|a,b=>LW (P:=P) op t y O a b fun c=>K (.c c) O)
 | .unOp .not t x=>(match cW E x with| .c (.bool b)=>K (.c (.bool (!b))) O|_=>as6)
 | .unOp .neg t x=>(match cW E x with| .c (.int k a)=>K (.c (.int k (k.wrap (0 - a)))) O|_=>as6)
 | .convert s t x=>Pe X s t (cW E x) O K
 | .indexAddr t (.global g) y=>PZ (P:=P) t g (cW E y) O K
 | .indexAddr t x y=>P0 X t (cW E x) (cW E y) O K
 | .field t x n=>OS (P:=P) t n (cW E x) O K
 | .fieldAddr t x n=>PY (P:=P) t n (cW E x) O K
 | .load t x=>if ath (X.hJ x as6 as6) 4=as5 then XL X t (cW E x) O K else if ath (X.hJ x as6 as6) 7=as5 then OT X t (cW E x) O K else F3 X t (cW E x) O K
 | .store t x y=>OW X t (cW E x) (cW E y) O K
 | .alloc t=>
  (match X.A t with
  |some jA=>K (.arr O.length) (O++[.arr jA.e t jA.n (att jA.n jA.ti.x0) as9])
  |none=>match X.I t with|some ti=>K (.box O.length 0) (O++[.box t ti.pz as9 as9])|none=>as6)
 | .box t x=>
  (match P.info? t,wT (cW E x) with
  |some i,as4 cs=>if cs.length=i.size then K (.box O.length 0) (O++[.box t cs as9 as9]) else as6
  |_,_=>as6)
 | .makeSlice t x y=>
  (match P.underlying t,cW E x with
  |some (.slice e), .c (.int _ n)=>
   if ath (X.hJ x (as4 x) (as4 x)) 3=as5 then OV X e x y n O K else
   match X.I e,zX x y with
   |some ti,as5=>as8 (iM ti.x0 n) fun r=>K (.c (.own O.length)) (O++[.ae e r as9 as9])
   |_,_=>as6
  |_,_=>as6)
 | .buildSlice t l cm=>
  if ath (X.hJ (.const (.int .i64 (t:Int))) as6 as6) 3=as5 then P2 X t l cm.toList E O K else
  (match P.underlying t with
  |some (.slice e)=>
   match X.I e with
   |some ti=>zG X ti E 0 cm.toList O fun as O=>if as.length=l/\atn (l*(X.G.T e).a9) 16777216=as5 then K (.c (.own O.length)) (O++[.ae e as as9 as9]) else as6
   |none=>as6
  |_=>as6)
 | .build t cm=>
  (match P.underlying t,X.I t with
  |some (.struct bl),as4 ti=>if (lV P bl).all avs=as5 then (match uZ (lV P bl) E cm.toList ti.pz with|some cs=>K (.agg t cs) O|none=>as6) else as6
  |some (.array n e),as4 ti=>(match P.info? e with|some k=>(match uZ ((atW n).map fun j=>as4 (j*k.size,k.size)) E cm.toList ti.pz with|some cs=>K (.agg t cs) O|none=>as6)|none=>as6)
  |_,_=>as6)
 | .slice t x bD aj as6=>Pf X t x (cW E x) E bD aj O K
 | .slice t x as6 (as4 y) (as4 fl)=>Pg X t (cW E x) (cW E y) (cW E fl) O K
 | .index t x y=>(match P.underlying t,cW E x,cW E y with|some .string, .c (.str s), .c (.int _ n)=>as8 (aD s n) fun c=>K (.c (.int .u8 (UInt8.toNat c:Int))) O|_,a,b=>Pv X t a b O K)
 | .makeFunc (.func f) first cap=>
  if ath (X.hJ (.func f) as6 as6) 5=as5 then (match first.toList,zC O (cap.toList.map (cW E)) with|[],as4 is=>K (.c (.fn f is)) O|_,_=>as6) else
  (match first.toList,zo (cap.toList.map (cW E)) O with|[],as4 (caps,O)=>K (.fn f caps) O|_,_=>as6)
 | .makeMap t as6=>(match P.underlying t with|some (.map bh bc)=>K (.c (.own O.length)) (O++[.map t bh bc [] as9 as9])|_=>as6)
 | .lookup t x y ok=>
  (match PN O (cW E x),cW E y with
  |some ⟨u,bh,bc,es⟩,c=>
   match P.underlying t,P.underlying u with
   |some (.map k v),as4 (.map cK bH)=>
    if k=bh/\v=bc/\cK=bh/\bH=bc then
     match X.Lw bh bc with
     |some eP=>
      match eP.ug c with
      |some a=>ay.lt (@nN _ _ eP.dec es a) fun y=>if ok=as5 then K (.nb [.inl (eP.rP (y.getD eP.cg)), .inl (.bool y.isSome)]) O else K (.c (eP.rP (y.getD eP.cg))) O
      |none=>as6
     |none=>as6
    else as6
   |_,_=>as6
  |_,_=>as6)
 | .mapUpdate t x y w| .insert t x y w=>
  (match cW E x,cW E y,cW E w with
  | .c (.own i),c, .c d=>
   match O[i]? with
   |some (.map u bh bc es as9 _)=>
    match P.underlying t,P.underlying u with
    |some (.map k v),as4 (.map cK bH)=>
     if k=bh/\v=bc/\cK=bh/\bH=bc then
      match X.Lw bh bc with
      |some eP=>
       match eP.ug c,eP.Cr d with
       |some a,as4 b=>ay.lt (@sY _ _ eP.dec es a b) fun tA=>K .undef (O.set i (.map u bh bc tA as9 as5))
       |_,_=>as6
      |none=>as6
     else as6
    |_,_=>as6
   |_=>as6
  |_,_,_=>as6)
 | .call c=>qc X c E O K
 |_=>as6
def Yf:Op->Option Nat
 | .pick (.tmp d) _ _=>as4 d
 |_=>as6
def sU (E:List (Nat×aV D)) (d:Nat) (K:List (Nat×aV D)->Option af):Option af:=
 match eh E d with
 | .c (.bool b)=>if b=as5 then K ((d, .c (.bool as5))::E) else K ((d, .c (.bool as9))::E)
 | .undef=>K E
 |_=>as6
def yL (o:Oper) (E:List (Nat×aV D)) (O:List (aR D)) (K:List (Nat×aV D)->List (aR D)->Option af):Option af:=
 match Yf o.op with
 |some d=>sU E d fun E=>hR X o.op E O fun v O=>K (lp E o.dst v) O
 |none=>hR X o.op E O fun v O=>K (lp E o.dst v) O
def rM (ops:List Oper):List Oper->List (Nat×aV D)->List (aR D)->(List (Nat×aV D)->List (aR D)->Option af)->Option af
 |[],E,O,K=>K E O
 |o::os,E,O,K=>
  match o.guard with
  |none=>yL X o E O fun E O=>rM ops os E O K
  |some (j,want)=>
   match (ops[j]?).bind (·.dst) with
   |none=>as6
   |some d=>
    sU E d fun E=>
     match eh E d with
     | .c (.bool b)=>if b=want then yL X o E O fun E O=>rM ops os E O K else rM ops os (lp E o.dst .undef) O K
     | .undef=>rM ops os (lp E o.dst .undef) O K
     |_=>as6
inductive fa where
 |nI|bi|lost
 |ob (j:Nat)
def pk (E:List (Nat×aV D)):Op->Option fa
 | .load _ x=>(match cW E x with| .tF _ _=>as4 .bi| .gU _ (_::_) _=>as4 .bi| .box j _=>as4 (.ob j)| .el j _ _ _=>as4 (.ob j)|_=>as6)
 | .lookup _ x _ _=>(match cW E x with| .c (.mp _ _ _ _)=>as4 .bi| .c (.own j)=>as4 (.ob j)|_=>as6)
 | .convert _ _ x=>(match cW E x with| .c (.ae _ _)=>as4 .bi| .c (.own j)=>as4 (.ob j)| .c (.int _ _)=>as4 .nI| .c (.str _)=>as4 .nI|_=>as6)
 | .slice _ x _ _ _=>(match cW E x with| .c (.str _)=>as4 .nI| .c (.ae _ _)=>as4 .bi| .c (.own j)=>as4 (.ob j)|_=>as6)
 |_=>as4 .nI
def pf:List (aV D)->List Nat
 |[]=>[]
 | .box i _::l=>i::pf l
 |_::l=>pf l
def zl:List (aV D)->List Nat
 |[]=>[]
 | .c (.own i)::l=>i::zl l
 |_::l=>zl l
def qi (E:List (Nat×aV D)):Op->Option (List Nat)
 | .store _ x _=>(match cW E x with| .box j _=>as4 [j]| .el j _ _ _=>as4 [j]|_=>as6)
 | .mapUpdate _ x _ _=>(match cW E x with| .c (.own j)=>as4 [j]|_=>as6)
 | .insert _ x _ _=>(match cW E x with| .c (.own j)=>as4 [j]|_=>as6)
 | .call c=>
  match c.callee with
  | .builtin .append=>(match c.args.toList with|x::_=>(match cW E x with| .c .gS=>as4 []| .c (.own j)=>as4 [j]| .cut j _ _ _=>as4 [j]| .full _ _=>as4 []|_=>as6)|[]=>as6)
  | .value f=>(match cW E f with| .fn k7 caps=>(match u1 X X.S k7 caps (c.args.toList.map (cW E)) with|some _=>as4 (zl (c.args.toList.map (cW E)))|none=>if X.W k7=as5 then as6 else as4 (pf (c.args.toList.map (cW E))))|_=>as6)
  |_=>as6
 |_=>as6
structure fC where
 rd:List (Nat×fa)
 iX:List (Nat×(Bool×List Nat))
 iO:List (Nat×Nat)
 jX:List (Nat×Bool)
 ng:List Nat
def v9:aV D->Bool
 | .c (.ae _ _)=>as5
 | .gU _ (_::_) _=>as5
 |_=>as9
def ri (E:List (Nat×aV D)) (L:fC):atd->Bool
 | .tmp d=> !(L.ng.any (ath d))&&v9 (eh E d)
 |_=>as9
def pP (E:List (Nat×aV D)) (L:fC):Op->Bool
 | .move x=>ri E L x
 | .assign x=>ri E L x
 | .nilCheck x=>ri E L x
 | .fieldAddr _ x _=>ri E L x
 | .indexAddr _ x _=>ri E L x
 |_=>as9
def UT (E:List (Nat×aV D)) (L:fC):Op->Bool
 | .load _ x=>ri E L x
 | .slice _ x _ _ as6=>ri E L x
 |_=>as9
def qx (E:List (Nat×aV D)) (o:Oper) (L:fC):fC:=
 match o.dst with
 |none=>L
 |some d=>if pP E L o.op=as5 then {L with ng:=L.ng.filter fun e=> !(ath d e)} else {L with ng:=d::L.ng}
def ru (O:List (aR D)) (j:Nat):Bool:=match O[j]? with|some o=>o.live|none=>as9
def Gi (O:List (aR D)) (j:Nat):Bool:=match O[j]? with|some .dead=>as9|some (.box _ [] as5 _)=>as9|some _=>as5|none=>as9
def sV (O:List (aR D)) (ts:List Nat) (j:Nat):Bool:=Gi O j&& !(ts.any (ath j))
def sJ (O:List (aR D)):Nat->List (aR D)->List Nat
 |_,[]=>[]
 |i,o::l=>if o.live=as5 then i::sJ O (i+1) l else sJ O (i+1) l
def w3 (B:Array Nat) (i:Nat) (O:List (aR D)) (L:fC):fa->Bool
 | .nI=>as5
 | .bi=>L.iX.all fun y=>fq B i y.1||y.2.1
 | .ob j=>Gi O j&&L.iX.all fun y=>fq B i y.1||(y.2.1||y.2.2.any (ath j))
 | .lost=>as9
def Cn (O:List (aR D)) (ts:List Nat):fa->Bool
 | .ob j=>sV O ts j
 | .lost=>as9
 |_=>as5
def PI (B:Array Nat) (i:Nat) (O:List (aR D)) (L:fC) (ts:List Nat):Bool:=
 ts.all (ru O)&&((L.rd.all fun y=>fq B i y.1||Cn O ts y.2)&&L.iO.all fun y=>fq B i y.1||sV O ts y.2)
def rq (E:List (Nat×aV D)) (O:List (aR D)):Op->Bool
 | .call c=>
  match c.callee with
  | .value f=>(match cW E f with| .fn f caps=>(match u1 X X.S f caps (c.args.toList.map (cW E)) with|some _=>as9|none=>X.F f (c.args.toList.map (cW E)++caps.map fun p=> .gU p.1 p.2 0) O)|_=>as9)
  |_=>as9
 |_=>as9
def x1 (i:Nat) (O:List (aR D)) (ts:List Nat) (pq:Bool) (L:fC):fC:=
 {rd:=L.rd.map fun y=>if Cn O ts y.2=as5 then y else (y.1, .lost)
  iX:=((i,as5,sJ O 0 O)::L.iX).map fun y=>(y.1,y.2.1&&pq,y.2.2.filter (sV O ts))
  iO:=L.iO
  jX:=(i,ts.isEmpty)::L.jX.map fun y=>(y.1,y.2&&ts.isEmpty)
  ng:=L.ng}
def PO:aV D->Option (Option Nat)
 | .c (.own j)=>as4 (as4 j)
 | .box j _=>as4 (as4 j)
 | .arr j=>as4 (as4 j)
 | .c (.int _ _)=>as4 as6
 | .c (.str _)=>as4 as6
 |_=>as6
def U6 (o:Op) (v:aV D):Option (Option Nat):=if qg o=as5 then PO v else as4 as6
def nP (i:Nat) (s:fa) (n:Option Nat) (L:fC):fC:=
 {rd:=match s with| .nI=>L.rd|s=>(i,s)::L.rd
  iX:=match n with|some _=>L.iX.map fun y=>(y.1,as9,y.2.2)|none=>L.iX
  iO:=match n with|some j=>(i,j)::L.iO|none=>L.iO
  jX:=L.jX
  ng:=L.ng}
def TO:fa->Bool
 | .bi=>as5
 |_=>as9
def Gm (B:Array Nat) (i:Nat) (E:List (Nat×aV D)) (L:fC) (s:fa) (o:Op):Bool:=TO s&&UT E L o
def O8 (B:Array Nat) (i:Nat) (L:fC):Bool:=(L.rd.all fun y=>fq B i y.1)&&L.iO.all fun y=>fq B i y.1
def PJ (i:Nat) (L:fC):fC:=
 {rd:=L.rd.map fun y=>(y.1, .lost)
  iX:=(i,as9,[])::L.iX.map fun y=>(y.1,as9,[])
  iO:=L.iO
  jX:=L.jX
  ng:=L.ng}
def EY (B:Array Nat) (i:Nat) (o:Oper) (L:fC) (E:List (Nat×aV D)) (O:List (aR D)) (K:fC->List (Nat×aV D)->List (aR D)->Option af):Option af:=
 if kp o.op=as5 then
  match qi X E o.op with
  |some ts=>if PI B i O L ts=as5 then hR X o.op E O fun v bW=>K (qx E o (x1 i O ts (rq X E O o.op) L)) (lp E o.dst v) bW else as6
  |none=>if O8 B i L=as5 then hR X o.op E O fun v bW=>K (qx E o (PJ i L)) (lp E o.dst v) bW else as6
 else
  match pk E o.op with
  |some s=>
   if (w3 B i O L s||Gm B i E L s o.op)=as5 then
    hR X o.op E O fun v bW=>
     match U6 o.op v with
     |some n=>K (qx E o (nP i s n L)) (lp E o.dst v) bW
     |none=>as6
   else as6
  |none=>as6
def yK (B:Array Nat) (i:Nat) (o:Oper) (L:fC) (E:List (Nat×aV D)) (O:List (aR D)) (K:fC->List (Nat×aV D)->List (aR D)->Option af):Option af:=
 match Yf o.op with
 |some d=>sU E d fun E=>EY X B i o L E O K
 |none=>EY X B i o L E O K
def s4 (B:Array Nat) (ops:List Oper):Nat->List Oper->fC->List (Nat×aV D)->List (aR D)->(List (Nat×aV D)->List (aR D)->Option af)->Option af
 |_,[],_,E,O,K=>K E O
 |i,o::os,L,E,O,K=>
  match o.guard with
  |none=>yK X B i o L E O fun L E O=>s4 B ops (i+1) os L E O K
  |some (j,want)=>
   match (ops[j]?).bind (·.dst) with
   |none=>as6
   |some d=>
    sU E d fun E=>
     match eh E d with
     | .c (.bool b)=>if b=want then yK X B i o L E O fun L E O=>s4 B ops (i+1) os L E O K else s4 B ops (i+1) os L (lp E o.dst .undef) O K
     | .undef=>s4 B ops (i+1) os L (lp E o.dst .undef) O K
     |_=>as6
structure k1 (D:Nat->Type) where
 path:List Nat
 fits:List (Nat×aV D)->List (aR D)->Bool
 run:List (Nat×aV D)->List (aR D)->{af:Type}->(eS->List (Nat×aV D)->List (aR D)->Option af)->Option af
def DN:List Nat->List Nat->Bool
 |[],[]=>as5
 |a::p,b::q=>ath a b&&DN p q
 |_,_=>as9
def qf (us:List (k1 D)) (p:List Nat) (E:List (Nat×aV D)) (O:List (aR D)):Option (k1 D):=
 match us with
 |[]=>as6
 |u::us=>if (DN u.path p&&u.fits E O)=as5 then as4 u else qf us p E O
def aj3:Option (aR D)->Bool
 |some (.nest _ _ _ _ (as4 _) _)=>as5
 |_=>as9
def afB (O:List (aR D)) (n:Nat):Bool:=
 match O[n]? with
 |some (.nest _ _ _ _ (as4 p) _)=>(match O[p.2]? with|some o=> !o.live|none=>as9)
 |_=>as9
def GG:Nat->List (aR D)->Option (List (aR D))
 |0,O=>as4 O
 |n+1,O=>match GG n O with|some b2=>if aj3 b2[n]? =as5 then (if afB b2 n=as5 then as4 b2 else u0 b2 n) else as4 b2|none=>as6
def sX (K:List (Nat×aV D)->List (aR D)->Option af) (E:List (Nat×aV D)) (O:List (aR D)):Option af:=match GG O.length O with|some bW=>K E bW|none=>as6
def jD (us:List (k1 D)) (calm:Array Oper->Bool):Bool->List Nat->Code->List (Nat×aV D)->List (aR D)->(eS->List (Nat×aV D)->List (aR D)->Option af)->Option af
 |top,p, .seq a b,E,O,K=>
  match (if top=as5 then as6 else qf us p.reverse E O) with
  |some u=>u.run E O K
  |none=>jD us calm as9 (0::p) a E O fun e E O=>if e= .normal then jD us calm as9 (1::p) b E O K else K e E O
 |top,p, .cond c a b,E,O,K=>
  match (if top=as5 then as6 else qf us p.reverse E O) with
  |some u=>u.run E O K
  |none=>
   match cW E c with
   | .c (.bool t)=>if t=as5 then jD us calm as9 (0::p) a E O K else jD us calm as9 (1::p) b E O K
   |_=>as6
 |top,p, .block id c,E,O,K=>
  match (if top=as5 then as6 else qf us p.reverse E O) with
  |some u=>u.run E O K
  |none=>jD us calm as9 (0::p) c E O fun e E O=>K (if e= .exit id then .normal else e) E O
 |top,p, .scope c,E,O,K=>
  match (if top=as5 then as6 else qf us p.reverse E O) with
  |some u=>u.run E O K
  |none=>jD us calm as9 (0::p) c E O K
 |top,p, .region _ ops d,E,O,K=>
  match (if top=as5 then as6 else qf us p.reverse E O) with
  |some u=>u.run E O K
  |none=>if d=as5 then (if calm ops=as5 then rM X ops.toList ops.toList E O (sX (K .normal)) else s4 X (atI ops) ops.toList 0 ops.toList ⟨[],[],[],[],[]⟩ E O (sX (K .normal))) else rM X ops.toList ops.toList E O (sX (K .normal))
 |top,p, .loop c,E,O,K=>
  match (if top=as5 then as6 else qf us p.reverse E O) with
  |some u=>u.run E O K
  |none=>as6
 |_,_, .skip,E,O,K=>K .normal E O
 |_,_, .label _,E,O,K=>K .normal E O
 |_,_, .exit id,E,O,K=>K (.exit id) E O
 |_,_, .ret,E,O,K=>K .ret E O
 |_,_,_,_,_,_=>as6
end
end
end Go.ay
end
section
namespace Go.ay
theorem fJ {aB:Type} {p:Prop} [Decidable p] {a:Option aB} {x:aB} (h:(if p then a else as6)=as4 x):p/\a=as4 x:=by
 grind
section
variable {P:atb} {D:Nat->Type} {X:et P D} {af:Type} {z z':Nat->bm} {e m m':Mem} {k:Option Nat} {vs:List as7} {fr:Nat->as7} {E:List (Nat×aV D)} {O:List (aR D)} {o:Oper} {r:af}
def dj (X:et P D) (O:List (aR D)) (z:Nat->bm) (e:Mem) (k:Option Nat) (vs:List as7) (K:aV D->List (aR D)->Option af) (r:af) (v:as7) (m':Mem):Prop:=
 ∃z' vs' df bW,Inv O bW/\dt e.next z z'/\(∀(i:Nat) (u:as7),vs[i]? =as4 u->vs'[i]? =as4 u)/\bC X.G bW z' e m' k vs'/\rel X.G z' vs' df v/\K df bW=as4 r
theorem dj.here {K:aV D->List (aR D)->Option af} {df:aV D} {v:as7} (aw:bC X.G O z e m k vs) (ab:rel X.G z vs df v) (fy:K df O=as4 r):dj X O z e k vs K r v m:=⟨z,vs,df,O,Inv.refl O,dt.refl z,fun _ _ h=>h,aw,ab,fy⟩
theorem dj.from {K:aV D->List (aR D)->Option af} {v:as7} {cv:Nat->bm} {b2:List (aR D)} (aj:Inv O b2) (a4:dt e.next z cv) (h:dj X b2 cv e k vs K r v m'):dj X O z e k vs K r v m':=by
 obtain ⟨z',vs',df,bW,bg,U,aa,ao,aN,bI⟩:=h;exact ⟨z',vs',df,bW,aj.trans bg,a4.trans U,aa,ao,aN,bI⟩
theorem Ot (a1:∀d,rel X.G z vs (eh E d) (fr d)) (x:atd):rel X.G z vs (cW E x) (a6 fr x):=by
 cases x with
 |tmp t=>exact a1 t
 |func f=>exact ⟨[],rfl,trivial⟩
 |global g=>trivial
 |const v=>show rel X.G z vs (NP v) v;unfold NP;split<;>first|trivial|rfl
theorem XD {i:Nat} {c:bY D} {bW:List (aR D)} {v:as7} (aw:bC X.G O z e m k vs) (h:tC O i=as4 (c,bW)) (ab:vs[i]? =as4 v):∃z',Inv O bW/\dt e.next z z'/\bC X.G bW z' e m k vs/\dJ X.G z' vs c v:=by
 unfold tC at h;split at h
 ·rename_i t xs bi w an;cases h;have cn:=aw.obj i _ v an ab;cases bi with
  |true=>
   have:O.set i (.ae t xs as5 w)=O:=by
    apply auw;intro j;rw[atQ];split
    ·rename_i gP;subst gP;rw[an,if_pos (atp.1 an).1]
    ·rfl
   rw[this];exact ⟨z,Inv.refl O,dt.refl z,aw,cn⟩
  |false=>have cn:dL (X.G.T t) z e m k xs v:=cn;obtain ⟨z',U,aa,ao,aN⟩:=cn.freeze aw.aM;have ag:dy v=cY v:=gE (by obtain ⟨a,c,rfl⟩:=cn.bs.len;intro r;simp);exact ⟨z',Inv.set O i (.inl rfl),U,aw.iK an ab rfl rfl U.le aa (by rw[ag];exact aN) ao,ao⟩
 ·rename_i t bh bc es bi w an;cases h;have cn:=aw.obj i _ v an ab;cases bi with
  |true=>
   have:O.set i (.map t bh bc es as5 w)=O:=by
    apply auw;intro j;rw[atQ];split
    ·rename_i gP;subst gP;rw[an,if_pos (atp.1 an).1]
    ·rfl
   rw[this];exact ⟨z,Inv.refl O,dt.refl z,aw,cn⟩
  |false=>
   have cn:iw (X.G.M t bh bc) z e m k es v:=cn;obtain ⟨z',U,aa,ao,aN⟩:=cn.freeze aw.aM;have ag:dy v=rB v:=by obtain ⟨r,rfl,_⟩:=cn.bs;rfl
   exact ⟨z',Inv.set O i (.inl rfl),U,aw.iK an ab rfl rfl U.le aa (by rw[ag];exact aN) ao,ao⟩
 ·rename_i fb t up dH w an;cases h;obtain ⟨hu,ws,cn⟩:=aw.obj i _ v an ab;obtain ⟨U,aa,ao⟩:=hu up rfl;obtain ⟨z',aU,aO,bT,cP⟩:=ag4 cn U aa ao aw.aM;have pZ:∀r,v≠ .map r:=by obtain ⟨a,c,rfl⟩:=cn.bs.bs.len;intro r;simp
  exact ⟨z',Inv.set O i (.inl rfl),aU,aw.CM (p:=as6) an ab rfl pZ aU.le ⟨atk _,aw.aM.dead,fun _ _ _=>rfl⟩ aO (fun _ _ _ _ _ _ _=>eB.nH) (fun b ag=>by cases ag) (fun b ag _ ax=>cP b ag ax) bT,bT⟩
 ·cases h
theorem wP {c bP:bY D} {bW:List (aR D)} {v:as7} (aw:bC X.G O z e m k vs) (h:qR O c=as4 (bP,bW)) (ab:dJ X.G z vs c v):∃z',Inv O bW/\dt e.next z z'/\bC X.G bW z' e m k vs/\dJ X.G z' vs bP v:=by
 cases c with
 |own i=>exact XD aw h ab.1
 |_=>cases h;exact ⟨z,Inv.refl O,dt.refl z,aw,ab⟩
theorem FN:∀{cs cs':List (bY D)} {O bW:List (aR D)} {ds:List as7} {z:Nat->bm},bC X.G O z e m k vs->vM O cs=as4 (cs',bW)->bp (dJ X.G z vs) cs ds->∃z',Inv O bW/\dt e.next z z'/\bC X.G bW z' e m k vs/\bp (dJ X.G z' vs) cs' ds
 |[],cs',O,bW,[],z,aw,h,_=>by cases h;exact ⟨z,Inv.refl _,dt.refl z,aw,trivial⟩
 |c::cs,cs',O,bW,d::ds,z,aw,h,⟨U,aa⟩=>by
  unfold vM at h;split at h
  ·rename_i bP b2 ah;split at h
   ·rename_i abq dK h3;cases h;obtain ⟨cv,eO,aU,aO,bT⟩:=wP aw ah U;obtain ⟨cT,j2,b5,cc,eH⟩:=FN aO h3 (m7.mono aa aU.le fun _ _ h=>h);exact ⟨cT,eO.trans j2,aU.trans b5,cc,dJ.mono bT b5.le fun _ _ h=>h,eH⟩
   ·cases h
  ·cases h
 |[],_,_,_,_::_,_,_,_,h=>h.elim
 |_::_,_,_,_,[],_,_,_,h=>h.elim
theorem Fg {s:aV D} {cs:List (bY D)} {v:as7} (h:wT s=as4 cs) (ab:rel X.G z vs s v):storable v=as5/\bp (dJ X.G z vs) cs v.cells.toList:=by
 cases s with
 |c c=>cases h;have:=dJ.ZA ab;rw[this.2];exact ⟨this.1,ab,trivial⟩
 |agg t cs'=>cases h;obtain ⟨ds,rfl,aa⟩:=ab;exact ⟨rfl,aa⟩
 |fn f caps=>
  cases caps with
  |nil=>
   cases h;obtain ⟨gs,rfl,aa⟩:=ab;cases gs with
   |nil=>exact ⟨rfl,⟨[],rfl,trivial⟩,trivial⟩
   |cons _ _=>exact aa.elim
  |cons _ _=>cases h
 |_=>cases h
theorem XE {s:aV D} {cs:List (bY D)} {bW:List (aR D)} {v:as7} (aw:bC X.G O z e m k vs) (h:DU O s=as4 (cs,bW)) (ab:rel X.G z vs s v):∃z',Inv O bW/\dt e.next z z'/\bC X.G bW z' e m k vs/\storable v=as5/\bp (dJ X.G z' vs) cs v.cells.toList:=by
 unfold DU at h;split at h
 ·rename_i pN ah;obtain ⟨U,aa⟩:=Fg ah ab;obtain ⟨z',eO,aU,aO,bT⟩:=FN aw h aa;exact ⟨z',eO,aU,aO,U,bT⟩
 ·cases h
variable {x y:atd} {t u:atc}
theorem ajf {op:BinOp} {kk:as'} {a b:Int} {K:bY D->Option af} (an:o.op= .binOp op t x y u) (ad:a6 fr x= .int kk a) (aJ:a6 fr y= .int kk b) (h:Dx op y kk a b K=as4 r):∃c v,K c=as4 r/\cX P (a6 fr) o v/\dJ X.G z vs c v:=by
 have lit:Gt y=as5->b≠0:=fun ax ag=>by
  unfold Gt at ax;split at ax
  ·rename_i EH n;have:aul EH n= .int kk b:=aJ;cases this;simp[ag] at ax
  ·cases ax
 cases op with
 |add=>exact ⟨_,_,h,Va an ad aJ,rfl⟩
 |sub=>exact ⟨_,_,h,Vm an ad aJ,rfl⟩
 |mul=>exact ⟨_,_,h,Vh an ad aJ,rfl⟩
 |and=>exact ⟨_,_,h,Vb an ad aJ,rfl⟩
 |or=>exact ⟨_,_,h,Vl an ad aJ,rfl⟩
 |xor=>exact ⟨_,_,h,Vn an ad aJ,rfl⟩
 |andNot=>exact ⟨_,_,h,aov an ad aJ,rfl⟩
 |eql=>exact ⟨_,_,h,Vc an ad aJ,rfl⟩
 |neq=>exact ⟨_,_,h,Vj an ad aJ,rfl⟩
 |lss=>exact ⟨_,_,h,Vg an ad aJ,rfl⟩
 |leq=>exact ⟨_,_,h,Vf an ad aJ,rfl⟩
 |gtr=>exact ⟨_,_,h,Ve an ad aJ,rfl⟩
 |geq=>exact ⟨_,_,h,Vd an ad aJ,rfl⟩
 |quo=>
  simp only[Dx] at h;split at h
  ·rename_i ax;exact ⟨_,_,h,NT an ad aJ (lit ax),rfl⟩
  ·obtain ⟨c,ah,h⟩:=bind_some h;obtain ⟨U,rfl⟩:=ahm ah;exact ⟨_,_,h,NT an ad aJ U,rfl⟩
 |rem=>
  simp only[Dx] at h;split at h
  ·rename_i ax;exact ⟨_,_,h,NU an ad aJ (lit ax),rfl⟩
  ·obtain ⟨c,ah,h⟩:=bind_some h;obtain ⟨U,rfl⟩:=Wg ah;exact ⟨_,_,h,NU an ad aJ U,rfl⟩
 |shl=>cases h
 |shr=>cases h
theorem ajg {op:BinOp} {s q:List UInt8} {K:bY D->Option af} (an:o.op= .binOp op t x y u) (ad:a6 fr x=str s) (aJ:a6 fr y=str q) (h:Tm op s q K=as4 r):∃c v,K c=as4 r/\cX P (a6 fr) o v/\dJ X.G z vs c v:=by
 cases op with
 |add=>obtain ⟨c,ah,h⟩:=bind_some h;obtain ⟨U,rfl⟩:=rn ah;exact ⟨_,_,h,Zj an ad aJ (by simp only[qH] at U;omega),rfl⟩
 |eql=>exact ⟨_,_,h,Zm an ad aJ,rfl⟩
 |neq=>exact ⟨_,_,h,YX an ad aJ,rfl⟩
 |lss=>exact ⟨_,_,h,YT an ad aJ,rfl⟩
 |leq=>exact ⟨_,_,h,YS an ad aJ,rfl⟩
 |gtr=>exact ⟨_,_,h,Zp an ad aJ,rfl⟩
 |geq=>exact ⟨_,_,h,Zo an ad aJ,rfl⟩
 |_=>cases h
theorem aje {op:BinOp} {a b:Bool} {K:bY D->Option af} (an:o.op= .binOp op t x y u) (au:P.underlying t=as4 .bool) (ad:a6 fr x= .bool a) (aJ:a6 fr y= .bool b) (h:Tl op a b K=as4 r):∃c v,K c=as4 r/\cX P (a6 fr) o v/\dJ X.G z vs c v:=by
 cases op with
 |eql=>exact ⟨_,_,h,Zl an au ad aJ,rfl⟩
 |neq=>exact ⟨_,_,h,YW an au ad aJ,rfl⟩
 |_=>cases h
theorem Oq {s:aV D} {v:as7} {p:(t:Nat)×List (D t)} (aw:bC X.G O z e m k vs) (h:oA O s=as4 p) (ab:rel X.G z vs s v):eC (X.G.T p.1) z p.2 v\/∃(w:as7),dL (X.G.T p.1) z e m k p.2 v:=by
 unfold oA at h;split at h
 ·cases h;exact .inl ab
 ·rename_i i;split at h
  ·rename_i t xs bi w an;cases h;have cn:=aw.obj i _ v an ab.1;cases bi with
   |true=>exact .inl cn
   |false=>exact .inr ⟨v,cn⟩
  ·cases h
 ·cases h
theorem ahM {s:aV D} {v:as7} {p:(t:Nat)×List (D t)} (aw:bC X.G O z e m k vs) (h:oA O s=as4 p) (ab:rel X.G z vs s v):∃a c,v= .slice a p.2.length c:=by
 rcases Oq aw h ab with h|⟨_,h⟩
 ·exact h.len
 ·exact h.bs.len
theorem Wc {s:aV D} {v:as7} {p:(t:Nat)×List (D t)} (aw:bC X.G O z e m k vs) (h:oA O s=as4 p) (ab:rel X.G z vs s v):(v= .slice as6 0 0/\p.2=[])\/∃a l c,v= .slice (as4 a) l c:=by
 rcases Oq aw h ab with h|⟨_,h⟩
 ·exact h.NM
 ·exact h.bs.NM
theorem ahN {s:aV D} {v:as7} {p:(t:Nat)×List (D t)} (aw:bC X.G O z e m k vs) (h:oA O s=as4 p) (ab:rel X.G z vs s v):Src (X.G.T p.1) z m p.2 v:=by
 rcases Oq aw h ab with h|⟨_,h⟩
 ·exact h.src aw.aM.bi
 ·exact h.bs.src
theorem nW.ap1 {aB:Type} {T:cr aB} {z':Nat->bm} {xs:List aB} {bD n:Nat} {w v:as7} (ah:nW T.a9 bD n w v) (h:eC T z' xs w):eC T z' ((xs.take n).drop bD) v:=by
 rcases ah with ⟨rfl,rfl,rfl,rfl⟩|⟨b,f0,l,c,off,bP,rfl,rfl,U,aa,ao,aN⟩
 ·exact .inl ⟨rfl,by simp⟩
 ·rcases h with ⟨h,_⟩|⟨cR,NQ,c2,aU,aO,bT,cP⟩
  ·cases h
  ·cases aU;have ax:((xs.take n).drop bD).length=n - bD:=by simp;omega
   refine .inr ⟨b,off,bP,by rw[ax],aO, ?_,fun i x aj=> ?_⟩
   ·rw[ax];rcases bT with ⟨b5,L,cc,eH⟩|⟨b5,cc⟩
    ·rcases aN with ⟨_,bI⟩|⟨bI,_⟩
     ·refine .inl ⟨bI,L,cc, ?_⟩;have bt:n*T.a9<=xs.length*T.a9:=aug _ aa;rcases ao with ao|⟨ao,x9⟩
      ·rw[ao,atY,<-atJ,show bD+(n - bD)=n by omega];omega
      ·rw[x9,show n - bD=0 by omega];omega
     ·omega
    ·rcases aN with ⟨bI,_⟩|⟨bI,eg⟩
     ·omega
     ·exact .inr ⟨by omega,by omega⟩
   ·obtain ⟨cs,b5,cc⟩:=cP _ x (FL aj);refine ⟨cs,b5, ?_⟩;rcases ao with ao|⟨ao,x9⟩
    ·rw[ao,atY,<-atJ];exact cc
    ·have:=(atp.1 aj).1;omega
theorem nW.NS {aB:Type} {T:cr aB} {z':Nat->bm} {m':Mem} {xs:List aB} {bD n:Nat} {w v:as7} (ah:nW T.a9 bD n w v) (h:e9 T z' m' xs w):e9 T z' m' ((xs.take n).drop bD) v:=by
 rcases ah with ⟨rfl,rfl,_,rfl⟩|⟨b,f0,l,c,off,bP,rfl,rfl,U,aa,ao,aN⟩
 ·exact .inl ⟨rfl,by simp⟩
 ·rcases h with ⟨h,_⟩|⟨cR,f1,L,c2,aU,aO,bT,cP,eG,gN,DW⟩
  ·cases h
  ·cases aU;have ax:((xs.take n).drop bD).length=n - bD:=by simp;omega
   have bt:n*T.a9<=xs.length*T.a9:=aug _ aa;have e2:bD*T.a9+(n - bD)*T.a9=n*T.a9:=by rw[<-atJ,show bD+(n - bD)=n by omega]
   have xY:n<=bD->(n - bD)*T.a9=0:=fun h=>by rw[show n - bD=0 by omega,Nat.zero_mul]
   refine .inr ⟨b,off,L,bP,by rw[ax],aO,bT,cP, ?_, ?_,fun i x aj=> ?_⟩
   ·rw[ax];rcases ao with ao|⟨ao,x9⟩
    ·omega
    ·have:=xY ao;omega
   ·rw[ax];rcases aN with ⟨_,bI⟩|⟨bI,eg⟩
    ·exact .inl bI
    ·rcases gN with gN|⟨b5,cc,eH⟩
     ·omega
     ·subst eg;have vJ:bD*T.a9+(c - bD)*T.a9=c*T.a9:=by rw[<-atJ,show bD+(c - bD)=c by omega]
      refine .inr ⟨by omega,by omega, ?_⟩;rcases ao with ao|⟨ao,x9⟩<;>omega
   ·obtain ⟨cs,b5,cc⟩:=DW _ x (FL aj);refine ⟨cs,b5, ?_⟩;rcases ao with ao|⟨ao,x9⟩
    ·rw[ao,atY,<-atJ];exact cc
    ·have:=(atp.1 aj).1;omega
theorem nW.bs {aB:Type} {T:cr aB} {z':Nat->bm} {m':Mem} {xs:List aB} {n:Nat} {w v:as7} (ah:nW T.a9 0 n w v) (h:e9 T z' m' xs w):e9 T z' m' (xs.take n) v:=by simpa using ah.NS h
theorem nW.src {aB:Type} {T:cr aB} {z':Nat->bm} {m':Mem} {xs:List aB} {bD n:Nat} {w v:as7} (ah:nW T.a9 bD n w v) (h:e9 T z' m' xs w):Src T z' m' ((xs.take n).drop bD) v:=by
 rcases ah with ⟨rfl,rfl,rfl,rfl⟩|⟨b,f0,l,c,off,bP,rfl,rfl,U,aa,ao,aN⟩
 ·simpa using (e9.nil (T:=T) (z:=z') (m:=m')).src
 ·rcases h with ⟨h,_⟩|⟨cR,f1,L,c2,aU,aO,bT,cP,eG,gN,DW⟩
  ·cases h
  ·cases aU;have ax:((xs.take n).drop bD).length=n - bD:=by simp;omega
   rw[<-ax];refine Pu fun i y aJ=> ?_;obtain ⟨cs,b5,cc⟩:=DW _ y (FL aJ);refine ⟨cs,b5,fun k u ar=> ?_⟩;have:=(atp.1 aJ).1;have an:off=f0+bD*T.a9:=by
    rcases ao with ao|⟨ao,_⟩
    ·exact ao
    ·omega
   rw[an,atY f0,<-atJ];simp only[Mem.load,aO];exact cc k u ar
theorem nW.aS {a9 bD n:Nat} {w v:as7} (ah:nW a9 bD n w v):dy v=dy w:=by
 rcases ah with ⟨rfl,rfl,_,_⟩|⟨b,f0,l,c,off,bP,rfl,rfl,_⟩<;>rfl
theorem Wb {s:aV D} {v:as7} {p:(t:Nat)×List (D t)} (aw:bC X.G O z e m k vs) (h:Gu O s=as4 p) (ab:rel X.G z vs s v):Src (X.G.T p.1) z m p.2 v:=by
 unfold Gu at h;split at h
 ·obtain ⟨w,U,aa⟩:=ab;split at h
  ·rename_i b0 xs dk bN;split at h
   ·rename_i he;subst he;cases h;have cn:dL _ z e m k xs w:=aw.obj _ _ _ bN U.1;exact aa.src cn.bs
   ·cases h
  ·cases h
 ·exact ahN aw h ab
theorem WX (h:isNil y=as5):a6 fr y= .slice as6 0 0:=by
 unfold isNil at h;split at h
 ·rfl
 ·cases h
theorem Yj {op:BinOp} {left:Bool} {kk EH:as'} {a b:Int} {K:bY D->Option af} (an:o.op= .binOp op t x y u) (aY:a6 fr x= .int kk a) (ag:a6 fr y= .int EH b) (oi:(op= .shl/\left=as5)\/(op= .shr/\left=as9)) (h:JE left y kk a b K=as4 r):∃c v,K c=as4 r/\cX P (a6 fr) o v/\dJ X.G z vs c v:=by
 have fin:∀{n:Nat},0<=b->min b.toNat kk.bits=n->cX P (a6 fr) o (.int kk (xb left kk a n)):=by
  intro n oW a2;have:=Px (P:=P) (op:=op) an aY ag oW (by rcases oi with ⟨h,_⟩|⟨h,_⟩<;>simp[h]);rw[a2] at this;have e:(if op= .shl then kk.wrap (a*2 ^ n) else a.fdiv (2 ^ n))=xb left kk a n:=by rcases oi with ⟨rfl,rfl⟩|⟨rfl,rfl⟩<;>simp[xb,Int.natCast_pow]
  rw[<-e];exact this
 unfold JE at h;split at h
 ·rename_i n a2;obtain ⟨ax,h⟩:atn n kk.bits=as5/\K (.int kk (xb left kk a n))=as4 r:=by
   split at h
   ·exact ⟨‹_›,h⟩
   ·cases h
  have ga:b=n:=by
   unfold Yc at a2;split at a2
   ·cases a2;have ag:aul _ (Int.ofNat n)= .int EH b:=ag;cases ag;rfl
   ·cases a2
  exact ⟨_,_,h,fin (by omega) (by rw[ga,auc];exact Nat.min_eq_left (ato ax)),rfl⟩
 ·obtain ⟨n,a2,h⟩:=bind_some h;unfold nR at a2;split at a2
  ·rename_i oW;cases a2;exact ⟨_,_,h,fin oW rfl,rfl⟩
  ·cases a2
theorem apk {op:BinOp} {t1 t2:Nat} {c1 c2:List (bY D)} {K:bY D->Option af} (an:o.op= .binOp op t x y u) (aY:rel X.G z vs (.agg t1 c1) (a6 fr x)) (ag:rel X.G z vs (.agg t2 c2) (a6 fr y)) (h:Mo X op t t1 c1 t2 c2 K=as4 r):∃c v,K c=as4 r/\cX P (a6 fr) o v/\dJ X.G z vs c v:=by
 unfold Mo at h;split at h
 ·rename_i ti mr adR asf;split at h
  ·rename_i a b U aa;obtain ⟨ds,ad,Eo⟩:=aY;obtain ⟨lG,aJ,Ep⟩:=ag;have bt:=mr.ab z a ds (ti.p9 z vs c1 a ds U Eo);have e2:=mr.ab z b lG (ti.p9 z vs c2 b lG aa Ep);rw[bt] at ad;rw[e2] at aJ;split at h
   ·exact ⟨_,_,h,EZ as9 (by simpa using an) mr.au mr.aL mr.a5 (mr.aE a b) ad aJ (mr.he a b),rfl⟩
   ·exact ⟨_,_,h,EZ as5 (by simpa using an) mr.au mr.aL mr.a5 (mr.aE a b) ad aJ (mr.he a b),rfl⟩
   ·cases h
  ·cases h
 ·cases h
theorem aji {op:BinOp} {a b:aV D} {K:bY D->Option af} (an:o.op= .binOp op t x y u) (aw:bC X.G O z e m k vs) (aY:rel X.G z vs a (a6 fr x)) (ag:rel X.G z vs b (a6 fr y)) (h:LW (P:=P) op t y O a b K=as4 r):∃c v,K c=as4 r/\cX P (a6 fr) o v/\dJ X.G z vs c v:=by
 unfold LW at h;split at h
 ·split at h
  ·exact Yj an aY ag (.inl ⟨rfl,rfl⟩) h
  ·exact Yj an aY ag (.inr ⟨rfl,rfl⟩) h
  ·split at h
   ·rename_i ar;subst ar;exact ajf an aY ag h
   ·cases h
 ·exact ajg an aY ag h
 ·split at h
  ·rename_i au;exact aje an au aY ag h
  ·cases h
 ·split at h
  ·rename_i gV au a2;have aJ:=WX (fr:=fr) a2;split at h
   ·exact ⟨_,_,h,wQ as9 an au aY aJ,rfl⟩
   ·split at h
    ·rename_i dZ xs ax;rcases Wc aw ax aY with ⟨ab,v5⟩|⟨a',lk,bP,ab⟩
     ·exact ⟨_,_,Fk h as5 fun _=>v5,wQ as9 an au ab aJ,rfl⟩
     ·exact ⟨_,_,Fk h as9 (by simp), .tz as9 x y t u gV a' lk bP an au ab aJ,rfl⟩
    ·cases h
  ·rename_i gV au a2;have aJ:=WX (fr:=fr) a2;split at h
   ·exact ⟨_,_,h,wQ as5 an au aY aJ,rfl⟩
   ·split at h
    ·rename_i dZ xs ax;rcases Wc aw ax aY with ⟨ab,v5⟩|⟨a',lk,bP,ab⟩
     ·exact ⟨_,_,Fk h as5 fun _=>v5,wQ as5 an au ab aJ,rfl⟩
     ·exact ⟨_,_,Fk h as9 (by simp), .tz as5 x y t u gV a' lk bP an au ab aJ,rfl⟩
    ·cases h
  ·cases h
end
end Go.ay
end
section
namespace Go.ay
section
variable {P:atb} {D:Nat->Type} {X:et P D} {af:Type} {z z':Nat->bm} {e m m':Mem} {k:Option Nat} {vs:List as7} {fr:Nat->as7} {E:List (Nat×aV D)} {O:List (aR D)} {o:Oper} {r:af}
variable {x y:atd} {t u:atc} {K:aV D->List (aR D)->Option af}
theorem iT {df:aV D} {v:as7} (aw:bC X.G O z e m k vs) (fy:K df O=as4 r) (h:cX P (a6 fr) o v) (ab:rel X.G z vs df v):cd P (a6 fr) o m fun _ v m'=>dj X O z e k vs K r v m':=
 cd.pure h (dj.here aw ab fy)
theorem YN {gG:Nat} {ti:dM P X.G gG} {xs:List (D gG)} {n:Int} {kk:as'} {a:D gG} (an:o.op= .indexAddr t x y) (au:P.underlying t=as4 (.slice gG)) (aw:bC X.G O z e m k vs) (aE:eC (X.G.T gG) z xs (a6 fr x)) (aJ:a6 fr y= .int kk n) (a5:aD xs n=as4 a)
  (h:K (.gU gG (ti.kD a) 0) O=as4 r):cd P (a6 fr) o m fun _ v m'=>dj X O z e k vs K r v m':=by
 refine afl an au ti.aj ti.b6 rfl aJ aE a5 fun b off cs ez ah=> ?_;exact dj.here (df:= .gU gG (ti.kD a) 0) aw ⟨b,off,cs,rfl,ah,ti.pr _ _ _ _ ez⟩ h
theorem aib {a b:aV D} (an:o.op= .indexAddr t x y) (aw:bC X.G O z e m k vs) (aY:rel X.G z vs a (a6 fr x)) (ag:rel X.G z vs b (a6 fr y)) (h:P0 X t a b O K=as4 r):cd P (a6 fr) o m fun _ v m'=>dj X O z e k vs K r v m':=by
 unfold P0 at h;split at h
 ·rename_i kk n;have aJ:a6 fr y= .int kk n:=ag;split at h
  ·rename_i i;split at h
   ·rename_i t1 Co lS xs dk bN;split at h
    ·rename_i ti l b0 hC au;split at h
     ·rename_i ek;obtain ⟨rfl,rfl⟩:=ek;obtain ⟨a,a5,h⟩:=bind_some h;obtain ⟨b,NE,ab,ad⟩:=aY;obtain ⟨⟨cR,he⟩,cn⟩:=aw.obj i _ _ bN ab;cases he;refine afk an au ti.aj (T:=(X.G.T b0).as Co) ti.b6 ad aJ cn a5 fun cs ez so ah=> ?_;exact dj.here (df:= .el i b0 n 0) aw ⟨b,0,_,_,ab,by simp;rfl⟩ h
     grind
    grind
   grind
  ·rename_i bt xs;split at h
   ·rename_i ti b0 hC au;split at h
    ·rename_i ek;subst ek;obtain ⟨a,a5,h⟩:=bind_some h;exact YN (ti:=ti) an au aw aY aJ a5 h
    grind
   grind
  ·rename_i i;split at h
   ·rename_i t1 xs bi dk bN;split at h
    ·rename_i ti b0 hC au;split at h
     ·rename_i ek;subst ek;obtain ⟨a,a5,h⟩:=bind_some h;have cn:=aw.obj i _ _ bN aY.1;cases bi with
      |true=>exact YN (ti:=ti) an au aw cn aJ a5 h
      |false=>have cn:dL (X.G.T b0) z e m k xs (a6 fr x):=cn;refine YP an au ti.aj ti.b6 rfl aJ cn a5 fun b f0 l c cs ab ez so ah=> ?_;exact dj.here (df:= .el i b0 n 0) aw ⟨b,f0,l,c,by rw[<-ab];exact aY.1,rfl⟩ h
     grind
    grind
   ·rename_i bt t1 up dH hole dk bN;split at h
    ·rename_i ei b0 ap au;split at h
     ·rename_i ek;subst ek;obtain ⟨a,a5,h⟩:=bind_some h;obtain ⟨hu,ws,cn⟩:=aw.obj i _ _ bN aY.1;obtain ⟨eO,aU,aO⟩:=m1 a5;have bS:n.toNat<ws.length:=by rw[cn.len];grind
      have tR:aD ws n=as4 ws[n.toNat]:=by
       grind [aD]
      refine YP (T:=pG b0) an au ei.aj (by rw[ei.U];rfl) rfl aJ cn.bs tR fun b f0 l c cs ab ez so ah=> ?_;exact dj.here (df:= .el i b0 n 0) aw ⟨b,f0,l,c,by rw[<-ab];exact aY.1,by rw[ei.b6];rfl⟩ h
     grind
    grind
   grind
  ·rename_i i bt bD aj;split at h
   ·rename_i t1 xs dk bN;split at h
    ·rename_i ti b0 hC au;split at h
     ·rename_i ek;obtain ⟨rfl,rfl⟩:=ek;obtain ⟨a,a5,h⟩:=bind_some h;obtain ⟨w,hw,ah⟩:=aY;obtain ⟨eO,aU,aO⟩:=m1 a5;have hlen:n.toNat<((xs.take aj).drop bD).length:=(atp.1 aO).1;rw[List.length_drop,List.length_take] at hlen;rcases ah with ⟨_,_,rfl,rfl⟩|⟨b,f0,l,c,off,bP,rfl,ab,U,aa,ao,aN⟩
      ·omega
      ·have pX:off=f0+bD*(X.G.T t1).a9:=by grind
       refine cd.pure (v:= .pointer (as4 ⟨b,off+n.toNat*ti.i.size,as6⟩)) (.indexAddr t x y t1 ti.i b off _ bP kk n an au ti.aj ab aJ eO (by omega)) (dj.here (df:= .el i t1 ((bD:Int)+n) 0) aw ⟨b,f0,l,c,hw.1, ?_⟩ h);have bt:((bD:Int)+n).toNat=bD+n.toNat:=by omega
       rw[bt,pX,ti.b6,atJ,Nat.add_zero,atY]
     grind
    grind
   grind
  grind
 grind
theorem ah9 {n:Nat} {a:aV D} (an:o.op= .fieldAddr t x n) (aw:bC X.G O z e m k vs) (aY:rel X.G z vs a (a6 fr x)) (h:PY (P:=P) t n a O K=as4 r):cd P (a6 fr) o m fun _ v m'=>dj X O z e k vs K r v m':=by
 unfold PY at h;split at h
 ·rename_i bl au;split at h
  ·rename_i f bd;split at h
   ·rename_i i aj;split at h
    ·grind
    ·rename_i aE;have mh:(i.size==0)=as9:=by grind
     split at h
     ·obtain ⟨b,ab,ad⟩:=aY;exact iT aw h (Pn an au bd aj mh ad) ⟨b,ab,rfl⟩
     ·obtain ⟨b,pb,ds,ad,ah,aF⟩:=aY;exact iT aw h (Pn an au bd aj mh ad) ⟨b,pb,ds,by grind,ah,aF⟩
     ·obtain ⟨b,f0,l,c,ab,ad⟩:=aY;exact iT aw h (Pn an au bd aj mh ad) ⟨b,f0,l,c,ab,by grind⟩
     grind
   grind
  grind
 grind
theorem aii {b off:Nat} {cs:List (bY D)} {ds:List as7} {K:aV D->Option af} (an:o.op= .load t x) (ad:a6 fr x= .pointer (as4 ⟨b,off,as6⟩)) {pM:Nat} (ah:∀(j:Nat) (w:as7),ds[j]? =as4 w->m.load b (pM+j)=as4 w) {n:Nat} (pX:off=pM+n) (aF:bp (dJ X.G z vs) cs ds)
  (h:m4 (P:=P) t cs n K=as4 r):∃df v,K df=as4 r/\rel X.G z vs df v/\eJ P (a6 fr) o m v:=by
 subst pX;unfold m4 at h;split at h
 ·grind
 ·rename_i d aQ;split at h
  ·rename_i pS;split at h
   ·grind
   ·rename_i i aj;split at h
    ·rename_i hlen;have lf:bp (dJ X.G z vs) ((cs.drop n).take i.size) ((ds.drop n).take i.size):=bp.take _ (bp.drop _ aF);have j1:((ds.drop n).take i.size).length=i.size:=by rw[<-lf.length];grind
     refine ⟨_, .agg ((ds.drop n).take i.size).toArray,h,⟨_,rfl,lf⟩,aps an aQ pS aj j1 ad fun j w a0=> ?_⟩
     grind
    grind
  ·rename_i pS;split at h
   ·rename_i c h3;obtain ⟨w,hw,yy⟩:=aF.get n c h3;exact ⟨_,w,h,yy,PA an aQ (by grind) ad (ah n w hw)⟩
   grind
theorem bC.kill (h:bC X.G O z e m k vs) (i:Nat):bC X.G (O.set i .dead) z e m k vs:=by
 refine ⟨h.aM,by rw[aur];exact h.len,fun j p w a0 hw=> ?_,fun a b p iC u w kf aY ag jb kn hu hw=> ?_⟩
 ·rw[atQ] at a0;split at a0
  ·split at a0
   ·cases a0;trivial
   grind
  ·exact h.obj j p w a0 hw
 ·have key:∀(a:Nat) (p:aR D),(O.set i .dead)[a]? =as4 p->p.live=as5->O[a]? =as4 p:=by
   intro a p aY aL;rw[atQ] at aY;split at aY
   ·split at aY
    ·cases aY;cases aL
    grind
   grind
  exact h.e3 a b p iC u w kf (key a p aY jb) (key b iC ag kn) jb kn hu hw
theorem y3 {b2:List (aR D)} {i:Nat} (aw:bC X.G O z e m k vs) (h:u0 O i=as4 b2):∃z',Inv O b2/\dt e.next z z'/\bC X.G b2 z' e m k vs:=by
 unfold u0 at h;split at h
 ·grind [Inv.refl,dt.refl]
 ·rename_i bt t1 up dH p w bN;split at h
  ·rename_i t2 xs g2 MC;split at h
   ·rename_i ek;subst ek;cases h;obtain ⟨v,ab,hu,ws,cn⟩:=aw.at bN;obtain ⟨sD,u,tX,yt⟩:=cn.out p rfl;have q1:dL (X.G.T t2) z e m k xs u:=aw.obj p.2 _ u MC tX;have ep:i≠p.2:=fun bJ=>by grind
    have jF:dy v=cY v:=gE (by obtain ⟨a,c,rfl⟩:=cn.bs.bs.len;grind);have yh:dy u=cY u:=gE (by obtain ⟨a,c,rfl⟩:=q1.bs.len;grind);have pZ:∀r,v≠ .map r:=by obtain ⟨a,c,rfl⟩:=cn.bs.bs.len;grind
    have fg:=aw.e3 p.2 i _ _ u v (fun bJ=>ep bJ.symm) MC bN rfl rfl tX ab;rw[jF,yh] at fg;have bS:p.1.toNat<ws.length:=(atp.1 yt).1;have q7:ws=ws.set p.1.toNat u:=by
     apply auw
     grind
    obtain ⟨z',aU,aO,bT,cP⟩:=OQ cn aw.aM cn.bs q7 bS (fun q bb=>by grind) q1 fg;have yb:=aw.kill p.2;have yd:(O.set p.2 .dead)[i]? =as4 (.nest bt t2 up dH (as4 p) w):=by grind
    have yc:=yb.CM (o':= .nest bt t2 up (dH.set p.1.toNat xs) as6 as5) (p:=cY u) yd ab rfl pZ aU.le ⟨atk _,aw.aM.dead,fun _ _ _=>rfl⟩ aO (fun j q my a0 bb ax hw=> ?_) (fun b ag=>(q1.bs.lt b ag).2) (fun b ag aL _=> ?_) ⟨hu,ws,bT⟩
    ·have adO:(O.set i (.nest bt t2 up (dH.set p.1.toNat xs) as6 as5)).set p.2 .dead=(O.set p.2 .dead).set i (.nest bt t2 up (dH.set p.1.toNat xs) as6 as5):=List.set_comm _ _ ep;exact ⟨z',(Inv.set O i (.inr rfl)).trans (Inv.set _ p.2 (.inl rfl)),aU,by grind⟩
    ·rw[atQ] at bb;split at bb
     ·split at bb
      ·cases bb;cases ax
      grind
     ·rename_i MW;have:=aw.e3 j p.2 q _ my u (fun bJ=>MW bJ.symm) bb MC ax rfl hw tX
      grind
    grind
   grind
  grind
 grind
theorem ahL {i e2 t1:Nat} (ei:tk P X.G e2 t1) {up:Option (List (D t1)->D e2)} {dH:List (List (D t1))} {dk:Bool} {cJ:Int} {b2:List (aR D)} {cv:Nat->bm} (an:o.op= .load e2 x) (aw:bC X.G O z e m k vs) (ju:Inv O b2) (lj:dt e.next z cv) (h7:bC X.G b2 cv e m k vs) (bN:b2[i]? =as4 (.nest e2 t1 up dH as6 dk)) (aY:rel X.G z vs (.el i e2 cJ 0) (a6 fr x))
  (h:(as8 (aD dH cJ) fun xs=>K (.c (.own b2.length)) (b2.set i (.nest e2 t1 up dH (as4 (cJ,b2.length)) dk)++[.ae t1 xs as9 as9]))=as4 r):cd P (a6 fr) o m fun _ v m'=>dj X O z e k vs K r v m':=by
 obtain ⟨xs,a5,h⟩:=bind_some h;obtain ⟨b,f0,l,c,ab,ad⟩:=aY;obtain ⟨hu,ws,cn⟩:=h7.obj i _ _ bN ab;obtain ⟨eO,aU,aO⟩:=m1 a5;have bS:cJ.toNat<ws.length:=by rw[cn.len];grind
 have hw:=atS bS;have tR:aD ws cJ=as4 ws[cJ.toNat]:=by
  grind [aD]
 obtain ⟨cs,ez,_,ah⟩:=cn.bs.elem rfl tR;have MZ:m.load b (f0+cJ.toNat*(X.G.T e2).a9+0)=as4 ws[cJ.toNat]:=by rw[ei.b6];exact ah 0 _ (by rw[ez.1];rfl)
 generalize ws[cJ.toNat]=u at*;obtain ⟨cT,dn,dz,dX,eE,qa,pe⟩:=aio (vs':=vs++[u]) (ED:=b2.length) cn h7.aM hw aO iS (by rw[<-h7.len];simp);have pZ:∀r,atZ (as4 ⟨b,f0,as6⟩) l c≠ .map r:=fun r bJ=>by grind
 have lM:((cJ.toNat:Nat):Int)=cJ:=by omega
 rw[lM] at dX;have yh:dy u=cY u:=gE (by obtain ⟨a,c,rfl⟩:=eE.bs.len;grind);have aj:=(atp.1 bN).1;have ab5:bC X.G (b2++[.dead]) cv e m k (vs++[u]):=h7.NW trivial fun ax=>by cases ax
 have ab6:=ab5.CM (o:= .nest e2 t1 up dH as6 dk) (o':= .nest e2 t1 up dH (as4 (cJ,b2.length)) dk) (p:=as6) (by grind) (iS _ _ ab) rfl pZ dn.le ⟨atk _,aw.aM.dead,fun _ _ _=>rfl⟩ dz (fun _ _ _ _ _ _ _=>eB.nH) (fun b ag=>by grind) (fun cR _ _ ax=>by
  grind) ⟨hu,ws,dX⟩
 have hlen:((b2++[(.dead:aR D)]).set i (.nest e2 t1 up dH (as4 (cJ,b2.length)) dk)).length=b2.length+1:=by simp
 have T3:=ab6.aqP (i:=b2.length) (o':= .ae t1 xs as9 as9) (v:=u) (by grind) (by rw[<-h7.len];simp) (eE:dL (X.G.T t1) cT e m k xs u) (fun j q w a0 bb ax hw=> ?_)
 ·have Et:((b2++[(.dead:aR D)]).set i (.nest e2 t1 up dH (as4 (cJ,b2.length)) dk)).set b2.length (.ae t1 xs as9 as9)=b2.set i (.nest e2 t1 up dH (as4 (cJ,b2.length)) dk)++[.ae t1 xs as9 as9]:=by
   simp_all
  rw[Et] at T3;refine cd.read (PA an ei.hu rfl ad MZ) ⟨cT,vs++[u], .c (.own b2.length),_,ju.trans ((Inv.set b2 i (.inr ?_)).trans (Inv.push _ _)),lj.trans dn,iS,T3, ?_,h⟩
  ·simp[aR.lv]
  ·obtain ⟨a,bP,rfl⟩:=eE.bs.len;exact ⟨by rw[<-h7.len];simp,rfl,rfl⟩
 ·intro cR ej kl;rw[yh] at kl;refine pe cR kl ?_;have acS:j<b2.length:=by
   grind
  by_cases Ef:j=i
  ·subst Ef;rw[atN (by grind)] at hw;rw[ab] at hw;cases hw;exact ((h7.obj _ _ _ bN ab).lt rfl cR ej).2.1
  ·rw[List.getElem?_set_ne (fun bJ=>Ef bJ.symm),atN acS] at bb;rw[atN (by rw[h7.len];grind)] at hw;exact ((h7.obj j q w bb hw).lt ax cR ej).2.1
theorem ahy {i bt:Nat} {cJ:Int} {off:Nat} (an:o.op= .load t x) (aw:bC X.G O z e m k vs) (aY:rel X.G z vs (.el i bt cJ off) (a6 fr x)) (h:OU X t i bt cJ off O K=as4 r):cd P (a6 fr) o m fun _ v m'=>dj X O z e k vs K r v m':=by
 unfold OU at h;split at h
 ·rename_i b2 bd;obtain ⟨cv,ju,lj,h7⟩:=y3 aw bd;split at h
  ·rename_i e2 t1 up dH dk bN;split at h
   ·rename_i ei ap;split at h
    ·rename_i ar;obtain ⟨rfl,rfl,rfl⟩:=ar;exact ahL ei an aw ju lj h7 bN aY h
    grind
   grind
  grind
 grind
theorem ahx {a:aV D} (an:o.op= .load t x) (aw:bC X.G O z e m k vs) (aY:rel X.G z vs a (a6 fr x)) (h:OT X t a O K=as4 r):cd P (a6 fr) o m fun _ v m'=>dj X O z e k vs K r v m':=by
 unfold OT at h;split at h
 ·rename_i i e2 cJ off;split at h
  ·rename_i bt t1 up dH p dk bN;split at h
   ·rename_i ei t2 xs g2 ap aL;split at h
    ·rename_i ar;obtain ⟨rfl,rfl,rfl⟩:=ar;split at h
     ·rename_i lM;obtain ⟨b,f0,l,c,ab,ad⟩:=aY;obtain ⟨hu,ws,cn⟩:=aw.obj i _ _ bN ab;obtain ⟨eO,u,aU,aO⟩:=cn.out p rfl;subst lM;obtain ⟨cs,ez,_,ah⟩:=cn.bs.elem rfl (show aD ws p.1=as4 u by unfold aD;rw[if_pos eO];exact aO);have MZ:m.load b (f0+p.1.toNat*(X.G.T t).a9+0)=as4 u:=by
       rw[ei.b6];exact ah 0 _ (by rw[ez.1];rfl)
      have hu:dL (X.G.T t2) z e m k xs u:=aw.obj p.2 _ u aL aU;refine cd.read (PA an ei.hu rfl ad MZ) (dj.here (df:= .c (.own p.2)) aw ?_ h);obtain ⟨a,bP,rfl⟩:=hu.bs.len;exact ⟨aU,rfl,rfl⟩
     ·cases h
    ·cases h
   ·cases h
  ·cases h
 ·cases h
theorem V5 {bt:Nat} {ti:dM P X.G bt}:∀{l:Nat} {cs:List (bY D)} {ds:List as7} {as:List (D bt)},FX X ti l cs=as4 as->bp (dJ X.G z vs) cs ds->∀(i:Nat) (a:D bt),as[i]? =as4 a->i<l/\(X.G.T bt).rd z a ((ds.drop (i*(X.G.T bt).a9)).take (X.G.T bt).a9)
 |0,cs,ds,as,h,_,i,a,aj=>by cases h;simp at aj
 |n+1,cs,ds,as,h,aF,i,a,aj=>by
  simp only[FX] at h;split at h
  ·rename_i g5 wa U aa;cases h;cases i with
   |zero=>simp at aj;subst aj;refine ⟨by omega, ?_⟩;rw[Nat.zero_mul,List.drop_zero];exact ti.p9 z vs _ _ _ U (bp.take _ aF)
   |succ i=>have:=V5 aa (bp.drop _ aF) i a (by simpa using aj);refine ⟨by omega, ?_⟩;rw[List.drop_drop] at this;rw[atJ,Nat.one_mul,Nat.add_comm];exact this.2
  ·cases h
theorem ah0 {a b:aV D} (an:o.op= .index t x y) (aw:bC X.G O z e m k vs) (aY:rel X.G z vs a (a6 fr x)) (ag:rel X.G z vs b (a6 fr y)) (h:Pv X t a b O K=as4 r):cd P (a6 fr) o m fun _ v m'=>dj X O z e k vs K r v m':=by
 unfold Pv at h;split at h
 ·rename_i t1 cs kk n l bt au;obtain ⟨ds,ad,aF⟩:=aY;have ag:a6 fr y= .int kk n:=ag;split at h
  ·rename_i ti d hC aQ;obtain ⟨pS,h⟩:=fJ h;split at h
   ·rename_i cs' bW bd;split at h
    ·rename_i as ah;obtain ⟨a,a5,h⟩:=bind_some h;obtain ⟨eO,aU,aO⟩:=m1 a5;obtain ⟨cv,sF,dn,dz,dX⟩:=FN aw bd aF;obtain ⟨iB,iP⟩:=V5 ah dX _ a aO;have aL:(ds.toArray.extract (n.toNat*ti.i.size) (n.toNat*ti.i.size+ti.i.size))=((ds.drop (n.toNat*(X.G.T bt).a9)).take (X.G.T bt).a9).toArray:=by
      rw[ti.b6];apply auJ;simp
     refine cd.pure (.EC t x y bt d ti.i l kk n ds.toArray an au aQ pS ti.aj ad ag eO (by omega)) ⟨cv,vs, .agg bt (ti.kD a),bW,sF,dn,fun _ _ h=>h,dz, ?_,h⟩;rw[aL];exact ⟨_,rfl,ti.pr _ _ _ _ iP⟩
    ·cases h
   ·cases h
  ·cases h
 ·cases h
theorem ahw {n:Nat} {a:aV D} (an:o.op= .field t x n) (aw:bC X.G O z e m k vs) (aY:rel X.G z vs a (a6 fr x)) (h:OS (P:=P) t n a O K=as4 r):cd P (a6 fr) o m fun _ v m'=>dj X O z e k vs K r v m':=by
 unfold OS at h;split at h
 ·rename_i t1 cs bl au;obtain ⟨ds,ad,aF⟩:=aY;split at h
  ·rename_i f bd;obtain ⟨UA,h⟩:=fJ h;have UA:=ato UA;have ar3:=aF.length;unfold m4 at h;split at h
   ·cases h
   ·rename_i d aQ;split at h
    ·rename_i pS;split at h
     ·cases h
     ·rename_i i aj;split at h
      ·rename_i hlen;have lf:bp (dJ X.G z vs) ((cs.drop f.offset).take i.size) ((ds.drop f.offset).take i.size):=bp.take _ (bp.drop _ aF);have j1:((ds.drop f.offset).take i.size).length=i.size:=by rw[<-lf.length];exact hlen
       refine cd.pure (.field t x n bl f d ds.toArray (.agg ((ds.drop f.offset).take i.size).toArray) an au bd aQ ad ?_) (dj.here (df:= .agg f.type ((cs.drop f.offset).take i.size)) aw ⟨_,rfl,lf⟩ h);rw[if_pos pS];simp only[List.length_take,List.length_drop] at j1;refine ⟨i,aj,by simp;omega, ?_⟩;congr 1;apply auJ;simp
      ·cases h
    ·rename_i pS;split at h
     ·rename_i c h3;obtain ⟨w,hw,yy⟩:=aF.get f.offset c h3;refine cd.pure (.field t x n bl f d ds.toArray w an au bd aQ ad ?_) (dj.here (df:= .c c) aw yy h);rw[if_neg pS];simpa using hw
     ·cases h
  ·cases h
 ·cases h
theorem aia {g:Nat} {b:aV D} (an:o.op= .indexAddr t (.global g) y) (aw:bC X.G O z e m k vs) (ag:rel X.G z vs b (a6 fr y)) (h:PZ (P:=P) t g b O K=as4 r):cd P (a6 fr) o m fun _ v m'=>dj X O z e k vs K r v m':=by
 unfold PZ at h;split at h
 ·rename_i kk n l bt au;have ag:a6 fr y= .int kk n:=ag;split at h
  ·rename_i i aj;split at h
   ·rename_i ax;obtain ⟨s,a5,h⟩:=bind_some h;obtain ⟨eO,aU,aO⟩:=m1 a5;exact cd.pure (.DZ t _ y bt i l g kk n an au aj ax.2 rfl ag eO (by rw[ax.1];exact aU) (by omega)) (dj.here (df:= .tF g s) aw ⟨n.toNat,aO,rfl⟩ h)
   ·cases h
  ·cases h
 ·cases h
theorem Wi {a:aV D} (an:o.op= .load t x) (aw:bC X.G O z e m k vs) (aY:rel X.G z vs a (a6 fr x)) (h:F3 X t a O K=as4 r):cd P (a6 fr) o m fun _ v m'=>dj X O z e k vs K r v m':=by
 have fin:∀{b off:Nat} {cs:List (bY D)} {ds:List as7} {pM n:Nat},a6 fr x= .pointer (as4 ⟨b,off,as6⟩)->(∀(j:Nat) (w:as7),ds[j]? =as4 w->m.load b (pM+j)=as4 w)->off=pM+n->bp (dJ X.G z vs) cs ds->m4 (P:=P) t cs n (fun v=>K v O)=as4 r->cd P (a6 fr) o m fun _ v m'=>dj X O z e k vs K r v m':=by intro b off cs ds pM n ad ah pX aF h;obtain ⟨df,v,U,aa,ao⟩:=aii an ad ah pX aF h;exact cd.read ao (dj.here aw aa U)
 unfold F3 at h;split at h
 ·obtain ⟨b,pb,ds,ad,ah,aF⟩:=aY;exact fin ad (aw.aM.rc ah) rfl aF h
 ·rename_i g s;obtain ⟨n,a2,ad⟩:=aY;split at h
  ·rename_i p a5 au;split at h
   ·rename_i ady;exact cd.read (.tG t x g n s an ad a2 au (ady▸p.2)) (dj.here (df:= .c (.str s)) aw rfl h)
   ·cases h
  ·cases h
 ·rename_i i off;obtain ⟨b,ab,ad⟩:=aY;split at h
  ·rename_i u cs bi dk bN;have cn:=aw.obj i _ _ bN ab;cases bi with
   |true=>obtain ⟨cR,ds,he,ah,aF⟩:=cn;cases he;exact fin ad (aw.aM.rc ah) (atB _).symm aF h
   |false=>obtain ⟨cR,ds,he,ag,_,aF⟩:=cn;cases he;exact fin ad ag.rc (atB _).symm aF h
  ·rename_i u cs dk bN;obtain ⟨cR,ds,he,ag,aF⟩:=aw.obj i _ _ bN ab;cases he;exact fin ad ag.rc (atB _).symm aF h
  ·cases h
 ·rename_i i bt cJ off;split at h
  ·exact ahy an aw aY h
  obtain ⟨b,f0,l,c,ab,ad⟩:=aY;split at h
  ·rename_i e2 xs bi dk ti bN hC;split at h
   ·rename_i ek;subst ek;obtain ⟨a,a5,h⟩:=bind_some h;have cn:=aw.obj i _ _ bN ab;cases bi with
    |true=>
     have cn:eC (X.G.T e2) z xs _:=cn;obtain ⟨eO,aU,aO⟩:=m1 a5;rcases cn with ⟨he,_⟩|⟨cR,o',bP,he,_,_,aN⟩
     ·cases he
     ·cases he;obtain ⟨cs,ez,ah⟩:=aN _ a aO;exact fin ad (aw.aM.rc ah) rfl (ti.pr _ _ _ _ ez) h
    |false=>have cn:dL (X.G.T e2) z e m k xs _:=cn;obtain ⟨cs,ez,_,ah⟩:=cn.elem rfl a5;exact fin ad ah rfl (ti.pr _ _ _ _ ez) h
   ·cases h
  ·rename_i e2 u n xs dk ti bN hC;split at h
   ·rename_i ek;subst ek;obtain ⟨a,a5,h⟩:=bind_some h;obtain ⟨_,cn⟩:=aw.obj i _ _ bN ab;obtain ⟨cs,ez,_,ah⟩:=cn.elem rfl a5;exact fin ad ah rfl (ti.pr _ _ _ _ ez) h
   ·cases h
  ·cases h
 ·cases h
end
end Go.ay
end
section
namespace Go.ay
section
variable {P:atb} {D:Nat->Type} {X:et P D} {af:Type} {z z':Nat->bm} {e m m':Mem} {k:Option Nat} {vs:List as7} {fr:Nat->as7} {E:List (Nat×aV D)} {O:List (aR D)} {o:Oper} {r:af}
variable {x y:atd} {t u:atc} {K:aV D->List (aR D)->Option af}
theorem bp.set {aB bK:Type} {R:aB->bK->Prop}:∀{l:List aB} {k:List bK} (i:Nat) {a:aB} {b:bK},bp R l k->R a b->bp R (l.set i a) (k.set i b)
 |[],[],i,a,b,_,_=>by grind
 |x::l,y::k,0,a,b,⟨_,aa⟩,kf=>⟨kf,aa⟩
 |x::l,y::k,i+1,a,b,⟨U,aa⟩,kf=>⟨U,bp.set i aa kf⟩
 |[],_::_,_,_,_,h,_=>h.elim
 |_::_,[],_,_,_,h,_=>h.elim
theorem wI:∀{new:List (bY D)} {NL:List as7} {cs:List (bY D)} {ds:List as7} (off:Nat),bp (dJ X.G z vs) cs ds->bp (dJ X.G z vs) new NL->bp (dJ X.G z vs) (vb cs off new) (e1 ds off NL)
 |[],[],cs,ds,off,h,_=>h
 |c::new,d::NL,cs,ds,off,h,⟨U,aa⟩=>wI (off+1) (h.set off U) aa
 |[],_::_,_,_,_,_,h=>h.elim
 |_::_,[],_,_,_,_,h=>h.elim
theorem zw {a b:Nat} (h:a<=b):atn a b=as5:=by simp_all
theorem nJ {ob:aR D} {df:aV D} {v w:as7} (aw:bC X.G O z e m k vs) (aM:dp z e m' k) (s:fD m m' as6) (fg:∀p,(∀b,p=as4 b->b<m.next)->eB p (dy v)) (fy:K df (O++[ob])=as4 r) (cn:gz X.G z e m' k (vs++[v]) ob v) (ab:rel X.G z (vs++[v]) df w):dj X O z e k vs K r w m':=
 ⟨z,vs++[v],df,O++[ob],Inv.push O ob,dt.refl z,iS,aw.push s aM (fun _ _ _ _ _ _=>eB.nH) cn fun p aL _=>fg p aL,ab,fy⟩
theorem y0 {i:Nat} {ob NO:aR D} {v:as7} (aw:bC X.G O z e m k vs) (fy:K .undef (O.set i NO)=as4 r) (bN:O[i]? =as4 ob) (ab:vs[i]? =as4 v) (ax:ob.live=as5) (au:NO.lv=as5) (s:fD m m' (dy v)) (aM:dp z e m' k) (a2:gz X.G z e m' k vs NO v):dj X O z e k vs K r undef m':=
 ⟨z,vs, .undef,_,Inv.set O i (.inr au),dt.refl z,fun _ _ h=>h,aw.mw bN ab ax s aM a2,rfl,fy⟩
theorem zu (aw:bC X.G O z e m k vs) (v:as7):(vs++[v])[O.length]? =as4 v:=by
 rw[<-aw.len];simp
theorem mY {v:as7} {l:Nat} (aw:bC X.G O z e m k vs) (ab:∃a c,v= .slice a l c):rel X.G z (vs++[v]) (.c (.own O.length)) v:=by
 obtain ⟨a,c,rfl⟩:=ab;exact ⟨zu aw _,rfl,rfl⟩
theorem VX {i j bt t1:Nat} (ei:tk P X.G bt t1) {up:Option (List (D t1)->D bt)} {dH:List (List (D t1))} {hole:Option (Int×Nat)} {dk g2:Bool} {xs:List (D t1)} {cJ:Int} (an:o.op= .store bt x y) (aw:bC X.G O z e m k vs) (bN:O[i]? =as4 (.nest bt t1 up dH hole dk)) (a0:O[j]? =as4 (.ae t1 xs as9 g2)) (aY:rel X.G z vs (.el i bt cJ 0) (a6 fr x)) (ag:rel X.G z vs (.c (.own j)) (a6 fr y)) (bJ:∀p,hole=as4 p->p.1=cJ)
  (h:(as8 (aD dH cJ) fun _=>K .undef ((O.set i (.nest bt t1 up (dH.set cJ.toNat xs) as6 as5)).set j .dead))=as4 r):cd P (a6 fr) o m fun _ v m'=>dj X O z e k vs K r v m':=by
 obtain ⟨a,a5,h⟩:=bind_some h;obtain ⟨b,f0,l,c,ab,ad⟩:=aY;obtain ⟨hu,eR,nC⟩:=ag;obtain ⟨fF,ws,cn⟩:=aw.obj i _ _ bN ab;obtain ⟨eO,aU,aO⟩:=m1 a5;have bS:cJ.toNat<ws.length:=by rw[cn.len];grind
 have hw:=atS bS;have tR:aD ws cJ=as4 ws[cJ.toNat]:=by
  grind [aD]
 obtain ⟨cs,ez,_,ah⟩:=cn.bs.elem rfl tR;have q1:dL (X.G.T t1) z e m k xs (a6 fr y):=aw.obj j _ _ a0 hu;generalize q6:a6 fr y=u at*;have ep:i≠j:=fun bJ=>by grind
 have pZ:∀r,atZ (as4 ⟨b,f0,as6⟩) l c≠ .map r:=fun r bJ=>by grind
 have yh:dy u=cY u:=gE (by obtain ⟨a,c,rfl⟩:=q1.bs.len;grind);have fg:=aw.e3 j i _ _ u _ (fun bJ=>ep bJ.symm) a0 bN rfl rfl hu ab;rw[yh] at fg;rw[ei.b6] at ad;have vT:u.cells.toList=[u]:=by grind
 refine EF (T:=pG bt) (f:=0) (n:=cJ.toNat) an ei.aj ad rfl q6 eR vT (by rw[ei.U];rfl) cn.bs rfl hw ez ah (a':=u) ⟨rfl,eR,nC⟩ (by rw[ez.1];rfl) (by rw[ez.1];rfl) aw.aM fun m' eI rj fL=> ?_;have Nq:dL (X.G.T t1) z e m' k xs u:=q1.same fL fg;obtain ⟨z',dn,dz,dX,eE⟩:=OQ cn eI rj rfl bS (fun p aL=>by grind) Nq fg;have yb:=aw.kill j;have yd:(O.set j .dead)[i]? =as4 (.nest bt t1 up dH hole dk):=by grind
 have yc:=yb.CM (o':= .nest bt t1 up (dH.set cJ.toNat xs) as6 as5) (p:=cY u) yd ab rfl pZ dn.le fL dz (fun a q my aY bb ax hw=> ?_) (fun b ag=>(q1.bs.lt b ag).2) (fun b _ aL _=> ?_) ⟨fF,_,dX⟩
 ·have adO:(O.set i (.nest bt t1 up (dH.set cJ.toNat xs) as6 as5)).set j .dead=(O.set j .dead).set i (.nest bt t1 up (dH.set cJ.toNat xs) as6 as5):=List.set_comm _ _ ep;exact ⟨z',vs, .undef,_,(Inv.set O i (.inr rfl)).trans (Inv.set _ j (.inl rfl)),dn,fun _ _ h=>h,by grind,rfl,h⟩
 ·rw[atQ] at bb;split at bb
  ·split at bb
   ·cases bb;cases ax
   grind
  ·rename_i MW;have:=aw.e3 a j q _ my u (fun bJ=>MW bJ.symm) bb a0 ax rfl hw hu
   grind
 grind
theorem VD {i bt t1:Nat} (ei:tk P X.G bt t1) {up:Option (List (D t1)->D bt)} {dH:List (List (D t1))} {hole:Option (Int×Nat)} {dk:Bool} {cJ:Int} (an:o.op= .store bt x y) (aw:bC X.G O z e m k vs) (bN:O[i]? =as4 (.nest bt t1 up dH hole dk)) (aY:rel X.G z vs (.el i bt cJ 0) (a6 fr x)) (ag:rel X.G z vs (.c .gS) (a6 fr y)) (bJ:∀p,hole=as4 p->p.1=cJ)
  (h:(as8 (aD dH cJ) fun _=>K .undef (O.set i (.nest bt t1 up (dH.set cJ.toNat []) as6 as5)))=as4 r):cd P (a6 fr) o m fun _ v m'=>dj X O z e k vs K r v m':=by
 obtain ⟨a,a5,h⟩:=bind_some h;obtain ⟨b,f0,l,c,ab,ad⟩:=aY;obtain ⟨fF,ws,cn⟩:=aw.obj i _ _ bN ab;obtain ⟨eO,aU,aO⟩:=m1 a5;have bS:cJ.toNat<ws.length:=by rw[cn.len];grind
 have hw:=atS bS;have tR:aD ws cJ=as4 ws[cJ.toNat]:=by
  grind [aD]
 obtain ⟨cs,ez,_,ah⟩:=cn.bs.elem rfl tR;have ag:a6 fr y= .slice as6 0 0:=ag;have q1:dL (X.G.T t1) z e m k ([]:List (D t1)) (.slice as6 0 0):=⟨.inl ⟨rfl,rfl⟩,fun b ag=>by cases ag⟩
 have pZ:∀r,atZ (as4 ⟨b,f0,as6⟩) l c≠ .map r:=fun r bJ=>by grind
 have fg:eB (cY (.slice as6 0 0)) (cY (atZ (as4 ⟨b,f0,as6⟩) l c)):=fun b ag=>by cases ag
 rw[ei.b6] at ad;refine EF (T:=pG bt) (f:=0) (n:=cJ.toNat) an ei.aj ad rfl ag rfl (a':= .slice as6 0 0) rfl (by rw[ei.U];rfl) cn.bs rfl hw ez ah ⟨rfl,rfl,rfl⟩ (by rw[ez.1];rfl) (by rw[ez.1];rfl) aw.aM fun m' eI rj fL=> ?_;have Nq:dL (X.G.T t1) z e m' k ([]:List (D t1)) (.slice as6 0 0):=⟨.inl ⟨rfl,rfl⟩,fun b ag=>by cases ag⟩
 obtain ⟨z',dn,dz,dX,eE⟩:=OQ cn eI rj rfl bS (fun p aL=>by grind) Nq fg;have yc:=aw.CM (o':= .nest bt t1 up (dH.set cJ.toNat []) as6 as5) (p:=as6) bN ab rfl pZ dn.le fL dz (fun a q my aY bb ax hw=>fun b ag ej=>by grind) (fun b ag=>by grind) (fun b _ aL _=> ?_) ⟨fF,_,dX⟩
 ·exact ⟨z',vs, .undef,_,Inv.set O i (.inr rfl),dn,fun _ _ h=>h,yc,rfl,h⟩
 ·rcases eE b with ah|ah
  ·grind
  ·cases ah
theorem agV {i bt:Nat} {cJ:Int} {off:Nat} {b:aV D} (an:o.op= .store t x y) (aw:bC X.G O z e m k vs) (aY:rel X.G z vs (.el i bt cJ off) (a6 fr x)) (ag:rel X.G z vs b (a6 fr y)) (h:OJ X t i bt cJ off b O K=as4 r):cd P (a6 fr) o m fun _ v m'=>dj X O z e k vs K r v m':=by
 unfold OJ at h;split at h
 ·rename_i j;split at h
  ·rename_i e2 t1 up dH hole dk t2 xs g2 bN a0;split at h
   ·rename_i ei ap;split at h
    ·rename_i ek;subst ek;split at h
     ·rename_i ar;obtain ⟨rfl,rfl,rfl⟩:=ar;split at h
      ·exact VX ei an aw bN a0 aY ag (fun p aL=>by grind) h
      ·split at h
       ·rename_i p aL;exact VX ei an aw bN a0 aY ag (fun q bb=>by grind) h
       grind
     grind
    grind
   grind
  grind
 ·split at h
  ·rename_i e2 t1 up dH hole dk bN;split at h
   ·rename_i ei ap;split at h
    ·rename_i ar;obtain ⟨rfl,rfl,rfl⟩:=ar;split at h
     ·exact VD ei an aw bN aY ag (fun p aL=>by grind) h
     ·split at h
      ·rename_i p aL;exact VD ei an aw bN aY ag (fun q bb=>by grind) h
      grind
    grind
   grind
  grind
 grind
theorem ahA {a b:aV D} (an:o.op= .store t x y) (aw:bC X.G O z e m k vs) (aY:rel X.G z vs a (a6 fr x)) (ag:rel X.G z vs b (a6 fr y)) (h:OW X t a b O K=as4 r):cd P (a6 fr) o m fun _ v m'=>dj X O z e k vs K r v m':=by
 unfold OW at h;split at h
 ·grind
 ·rename_i i aj;split at h
  ·rename_i j off;split at h
   ·grind
   ·rename_i new a2;obtain ⟨eR,mO⟩:=Fg a2 ag;split at h
    ·rename_i b6;have q2:(a6 fr y).cells.toList.length=i.size:=by rw[<-mO.length];grind
     obtain ⟨ew,ab,ad⟩:=aY;split at h
     ·rename_i u cs dk bN;split at h
      ·rename_i hle;obtain ⟨h1,ds,he,mb,hg,aF⟩:=aw.obj j _ _ bN ab;cases he;refine US an aj ad rfl eR rfl q2 mb (zw (by rw[<-aF.length,<-mO.length];grind)) _ rfl aw.aM fun m' eI LX fL=> ?_;exact y0 aw h bN ab rfl rfl fL eI ⟨ew,_,rfl,LX,hg,wI off aF mO⟩
      grind
     ·rename_i u cs dk bN;split at h
      ·rename_i hle;obtain ⟨h1,ds,he,mb,aF⟩:=aw.obj j _ _ bN ab;cases he;refine US an aj ad rfl eR rfl q2 mb (zw (by rw[<-aF.length,<-mO.length];grind)) _ rfl aw.aM fun m' eI LX fL=> ?_;exact y0 aw h bN ab rfl rfl fL eI ⟨ew,_,rfl,LX,wI off aF mO⟩
      grind
     grind
    grind
  ·rename_i j bt cJ off;split at h
   ·grind [agV]
   split at h
   ·grind
   ·rename_i new b2 a2;obtain ⟨cv,ju,lj,h7,eR,mO⟩:=XE aw a2 ag;obtain ⟨ew,f0,l,c,ab,ad⟩:=aY;split at h
    ·rename_i b6;have q2:(a6 fr y).cells.toList.length=i.size:=by rw[<-mO.length];grind
     split at h
     ·rename_i e2 xs dk ti bN hC;split at h
      ·rename_i ek;subst ek;obtain ⟨a,a5,h⟩:=bind_some h;split at h
       ·rename_i hle;obtain ⟨a',aL,h⟩:=bind_some h;have cn:dL (X.G.T e2) cv e m k xs _:=h7.obj j _ _ bN ab;obtain ⟨cs,ez,so,ah⟩:=cn.elem rfl a5;have aF:=ti.pr cv vs a cs ez;refine EF (T:=X.G.T e2) an aj ad rfl rfl eR rfl q2 cn rfl so ez ah (ti.p9 cv vs _ a' _ aL (wI off aF mO)) rfl (zw (by rw[<-aF.length,<-mO.length];grind)) h7.aM fun m' eI rj fL=> ?_;exact dj.from ju lj (y0 h7 h bN ab rfl rfl fL eI rj)
       grind
      grind
     ·rename_i e2 u n xs dk ti bN hC;split at h
      ·rename_i ek;subst ek;obtain ⟨a,a5,h⟩:=bind_some h;split at h
       ·rename_i hle;obtain ⟨a',aL,h⟩:=bind_some h;obtain ⟨⟨h1,he⟩,cn⟩:=h7.obj j _ _ bN ab;obtain ⟨cs,ez,so,ah⟩:=cn.elem rfl a5;have aF:=ti.pr cv vs a cs ez;refine EF (T:=(X.G.T e2).as u) an aj ad rfl rfl eR rfl q2 cn rfl so ez ah (ti.p9 cv vs _ a' _ aL (wI off aF mO)) rfl (zw (by rw[<-aF.length,<-mO.length];grind)) h7.aM fun m' eI rj fL=> ?_;exact dj.from ju lj (y0 h7 h bN ab rfl rfl fL eI ⟨⟨h1,he⟩,rj⟩)
       grind
      grind
     grind
    grind
  grind
theorem ahs (an:o.op= .alloc t) (aw:bC X.G O z e m k vs)
  (h:(match X.A t with
  |some jA=>K (.arr O.length) (O++[.arr jA.e t jA.n (att jA.n jA.ti.x0) as9])
  |none=>match X.I t with|some ti=>K (.box O.length 0) (O++[.box t ti.pz as9 as9])|none=>as6)=as4 r):cd P (a6 fr) o m fun _ v m'=>dj X O z e k vs K r v m':=by
 split at h
 ·rename_i jA dW;refine aj6 (T:=X.G.T jA.e) (x0:=jA.ti.x0) an jA.aj jA.a4 jA.da jA.dU jA.o7 (jA.ti.Ch z) jA.a2 aw.aM fun b m' eI bs fL fg=> ?_;exact nJ (v:= .slice (as4 ⟨b,0,as6⟩) jA.n jA.n) aw eI fL fg h ⟨⟨b,rfl⟩,bs⟩ ⟨b,jA.n,zu aw _,rfl⟩
 ·split at h
  ·rename_i ti hC;refine aj7 an ti.aj ti.a4 ti.da ti.dU _ rfl aw.aM fun b m' a2 eI bM fL fg=> ?_;exact nJ (v:= .pointer (as4 ⟨b,0,as6⟩)) aw eI fL fg h ⟨b,_,rfl,bM,a2,ti.o7 _ _⟩ ⟨b,zu aw _,rfl⟩
  grind
theorem aix {i:TypeInfo} {cs:List (bY D)} (an:o.op= .box t x) (aw:bC X.G O z e m k vs) (a1:rel X.G z vs (cW E x) (a6 fr x)) (aj:P.info? t=as4 i) (ah:wT (cW E x)=as4 cs) (ax:cs.length=i.size)
  (h:K (.box O.length 0) (O++[.box t cs as9 as9])=as4 r):cd P (a6 fr) o m fun _ v m'=>dj X O z e k vs K r v m':=by
 obtain ⟨eR,aF⟩:=Fg ah a1;refine afi an aj rfl eR _ rfl (by rw[<-aF.length];grind) aw.aM fun b m' a2 eI bM fL fg=> ?_;exact nJ (v:= .pointer (as4 ⟨b,0,as6⟩)) aw eI fL fg h ⟨b,_,rfl,bM,a2,m7.mono aF (eM.refl z) iS⟩ ⟨b,zu aw _,rfl⟩
theorem WN {kk:as'} {n:Int} (h:zX x y=as5) (ad:a6 fr x= .int kk n):∃cc,a6 fr y= .int cc n:=by
 unfold zX at h;split at h
 ·simp_all
 ·rename_i b5 a cc b;have nF:aul b5 a= .int kk n:=ad;cases nF;have:n=b:=by grind
  subst this;exact ⟨cc,rfl⟩
 grind
theorem ahz {gG:Nat} {kk:as'} {n:Int} (an:o.op= .makeSlice t x y) (au:P.underlying t=as4 (.slice gG)) (aw:bC X.G O z e m k vs) (ad:a6 fr x= .int kk n) (h:OV X gG x y n O K=as4 r):cd P (a6 fr) o m fun _ v m'=>dj X O z e k vs K r v m':=by
 unfold OV at h;split at h
 ·rename_i t1 hu;split at h
  ·rename_i ei ap v7;obtain ⟨dH,hm,h⟩:=bind_some h;obtain ⟨cc,aJ⟩:=WN v7 ad;obtain ⟨e5,lS,rfl⟩:=y8 hm;have ac7:iM (atZ as6 0 0) n=as4 (att n.toNat (atZ as6 0 0)):=by
    grind [iM]
   refine YQ (T:=pG gG) (x0:=atZ as6 0 0) an au ei.aj ei.a4 rfl (by rw[ei.U];rfl) (by rw[ei.U];rfl) ei.gO ⟨rfl,rfl,rfl⟩ ad aJ aw.aM ac7 fun bH m' eI bs fL fg=> ?_;have ag:dy bH=cY bH:=gE (by obtain ⟨a,c,rfl⟩:=bs.bs.len;grind);refine nJ (v:=bH) aw eI fL (by grind) h ⟨fun f bd=>by cases bd;exact ⟨ei.b6,ei.tid,ei.aF⟩,_,bs,by simp,fun j w xs aU aO _=> .inl ?_,fun p aL=>by grind⟩ (mY aw bs.bs.len)
   grind
  grind
 grind
theorem ah2 {gG:Nat} {ti:dM P X.G gG} {kk:as'} {n:Int} (an:o.op= .makeSlice t x y) (au:P.underlying t=as4 (.slice gG)) (aw:bC X.G O z e m k vs) (ad:a6 fr x= .int kk n) (v7:zX x y=as5)
  (h:(as8 (iM ti.x0 n) fun r=>K (.c (.own O.length)) (O++[.ae gG r as9 as9]))=as4 r):cd P (a6 fr) o m fun _ v m'=>dj X O z e k vs K r v m':=by
 obtain ⟨xs,hm,h⟩:=bind_some h;have aJ:=WN v7 ad;obtain ⟨cc,aJ⟩:=aJ;refine YQ (T:=X.G.T gG) an (by rw[ti.tid];grind) (by rw[ti.tid];exact ti.aj) ti.a4 ti.da ti.dU ti.b6 ti.gO (ti.Ch z) ad aJ aw.aM hm fun bH m' eI bs fL fg=> ?_;have ag:dy bH=cY bH:=gE (by obtain ⟨a,c,rfl⟩:=bs.bs.len;grind);exact nJ (v:=bH) aw eI fL (by grind) h bs (mY aw bs.bs.len)
theorem W4 {gG:Nat} {ti:dM P X.G gG}:∀{cm:List (Nat×atd)} {n:Nat} {O:List (aR D)} {z:Nat->bm} {K:List (D gG)->List (aR D)->Option af},bC X.G O z e m k vs->(∀x,rel X.G z vs (cW E x) (a6 fr x))->zG X ti E n cm O K=as4 r->
  ∃z' bW as iI,Inv O bW/\dt e.next z z'/\bC X.G bW z' e m k vs/\uA (X.G.T gG) z' (a6 fr) cm n as iI/\K as bW=as4 r
 |[],n,O,z,K,aw,a1,h=>⟨z,O,[],[],Inv.refl O,dt.refl z,aw,trivial,h⟩
 |(j,x)::cm,n,O,z,K,aw,a1,h=>by
  unfold zG at h;split at h
  ·rename_i a0;split at h
   ·rename_i cs b2 ah;obtain ⟨a,aY,h⟩:=bind_some h;obtain ⟨cv,ju,lj,h7,eR,aF⟩:=XE aw ah (a1 x);obtain ⟨cT,dK,as,iI,eO,aU,aO,bT,cP⟩:=W4 h7 (fun x=>(a1 x).mono lj.le fun _ _ h=>h) h;exact ⟨cT,dK,a::as,(a6 fr x).cells.toList::iI,ju.trans eO,lj.trans aU,aO,⟨a0,eR,rfl,(X.G.T gG).mono _ _ aU.le _ _ (ti.p9 _ _ _ _ _ aY aF),bT⟩,cP⟩
   grind
  grind
theorem ahv {gG l:Nat} {ti:dM P X.G gG} {cm:Array (Nat×atd)} (an:o.op= .buildSlice t l cm) (au:P.underlying t=as4 (.slice gG)) (aw:bC X.G O z e m k vs) (a1:∀x,rel X.G z vs (cW E x) (a6 fr x))
  (h:(zG X ti E 0 cm.toList O fun as O=>if as.length=l/\atn (l*(X.G.T gG).a9) 16777216=as5 then K (.c (.own O.length)) (O++[.ae gG as as9 as9]) else as6)=as4 r):cd P (a6 fr) o m fun _ v m'=>dj X O z e k vs K r v m':=by
 obtain ⟨cv,b2,as,iI,eO,aU,aO,bT,cP⟩:=W4 aw a1 h;split at cP
 ·rename_i ax;have gA:0<(X.G.T gG).a9:=Nat.pos_of_ne_zero fun bg=>by have:=ti.gA;grind
  have si:=ato ax.2;have Uu:l<=l*(X.G.T gG).a9:=Nat.le_mul_of_pos_right _ gA;refine Pr (T:=X.G.T gG) an (by rw[ti.tid];grind) (by rw[ti.tid];exact ti.aj) ti.a4 ti.da ti.dU ti.b6 as iI ax.1 ax.2 (zw (show l+1<=9223372036854775808 by omega)) bT aO.aM fun bH m' eI bs fL fg=> ?_;have ag:dy bH=cY bH:=gE (by obtain ⟨a,c,rfl⟩:=bs.bs.len;grind);exact dj.from eO aU (nJ (v:=bH) aO eI fL (by grind) cP bs (mY aO bs.bs.len))
 grind
theorem O3 {pl:List (Option (Nat×Nat))} (a1:∀x,rel X.G z vs (cW E x) (a6 fr x)):∀{cm:List (Nat×atd)} {cs cs':List (bY D)} {ds:List as7},uZ pl E cm cs=as4 cs'->bp (dJ X.G z vs) cs ds->
  ∃lG,jc (fun k=>(pl[k]?).join) ds (cm.map fun p=>(p.1,a6 fr p.2))=as4 lG/\bp (dJ X.G z vs) cs' lG
 |[],cs,cs',ds,h,aF=>by cases h;exact ⟨ds,rfl,aF⟩
 |(i,x)::cm,cs,cs',ds,h,aF=>by
  unfold uZ at h;split at h
  ·rename_i off size new aL ah;split at h
   ·rename_i arM;obtain ⟨eR,mO⟩:=Fg ah (a1 x);obtain ⟨lG,aU,aO⟩:=O3 a1 h (wI off aF mO);refine ⟨lG, ?_,aO⟩;have b6:(a6 fr x).cells.size=size:=by
     have U:new.length=(a6 fr x).cells.toList.length:=mO.length
     grind
    simp only[aud,jc,aL];rw[if_pos ⟨eR,b6,by rw[<-aF.length];grind⟩]
    grind
   grind
  grind
theorem WU {n s:Nat}:∀{cm:List (Nat×as7)} {cs ds:List as7},jc (fun k=>(((atW n).map fun j=>as4 (j*s,s))[k]?).join) cs cm=as4 ds->jc (fun j=>as4 (j*s,s)) cs cm=as4 ds
 |[],_,_,h=>h
 |(i,v)::cm,cs,ds,h=>by
  simp only[jc] at h⊢;by_cases aj:i<n
  ·rw[aub,List.getElem?_range aj] at h;simp only[Option.map_some,Option.join_some] at h;split at h
   ·rename_i ah;rw[if_pos ah];exact WU h
   grind
  grind
theorem ahu {ti:dM P X.G t} {n DK:Nat} {kk:TypeInfo} {cm:Array (Nat×atd)} {cs:List (bY D)} (an:o.op= .build t cm) (au:P.underlying t=as4 (.array n DK)) (ar:P.info? DK=as4 kk) (aw:bC X.G O z e m k vs) (a1:∀x,rel X.G z vs (cW E x) (a6 fr x))
  (ah:uZ ((atW n).map fun j=>as4 (j*kk.size,kk.size)) E cm.toList ti.pz=as4 cs) (h:K (.agg t cs) O=as4 r):cd P (a6 fr) o m fun _ v m'=>dj X O z e k vs K r v m':=by
 obtain ⟨ds,aU,aO⟩:=O3 a1 ah (ti.o7 z vs);exact cd.pure (.xW t cm n DK ti.i kk ti.cN ds an au ti.aj ti.a4 ti.da ar (WU aU)) (dj.here (df:= .agg t cs) aw ⟨ds,rfl,aO⟩ h)
theorem agW {ti:dM P X.G t} {bl:Array Field} {cm:Array (Nat×atd)} {cs:List (bY D)} (an:o.op= .build t cm) (au:P.underlying t=as4 (.struct bl)) (aw:bC X.G O z e m k vs) (a1:∀x,rel X.G z vs (cW E x) (a6 fr x)) (aL:(lV P bl).all avs=as5)
  (ah:uZ (lV P bl) E cm.toList ti.pz=as4 cs) (h:K (.agg t cs) O=as4 r):cd P (a6 fr) o m fun _ v m'=>dj X O z e k vs K r v m':=by
 obtain ⟨ds,aU,aO⟩:=O3 a1 ah (ti.o7 z vs);exact aj8 _ ds an au ti.aj ti.a4 ti.da rfl aL rfl aU (dj.here (df:= .agg t cs) aw ⟨ds,rfl,aO⟩ h)
end
end Go.ay
end
section
namespace Go.ay
section
variable {P:atb} {D:Nat->Type} {X:et P D} {af:Type} {z z':Nat->bm} {e m m':Mem} {k:Option Nat} {vs:List as7} {fr:Nat->as7} {E:List (Nat×aV D)} {O:List (aR D)} {o:Oper} {r:af}
variable {x y:atd} {t u:atc} {K:aV D->List (aR D)->Option af}
theorem FF {bD:Option atd} {a:Int} (a1:∀x,rel X.G z vs (cW E x) (a6 fr x)) (h:wc E bD=as4 a):wb (a6 fr) bD a:=by
 cases bD with
 |none=>cases h;rfl
 |some y=>
  simp only[wc] at h;split at h
  ·rename_i kk n aE;cases h;have:=a1 y;rw[aE] at this;exact ⟨kk,this⟩
  grind
theorem Fu {aj:Option atd} {a:Int} {l:Nat} (a1:∀x,rel X.G z vs (cW E x) (a6 fr x)) (h:wZ E (l:Int) aj=as4 a):wY (a6 fr) aj l a:=by
 cases aj with
 |none=>cases h;rfl
 |some y=>
  simp only[wZ] at h;split at h
  ·rename_i kk n aE;cases h;have:=a1 y;rw[aE] at this;exact ⟨kk,this⟩
  grind
theorem aiy {a:aV D} {bD aj:Option atd} (an:o.op= .slice t x bD aj as6) (aw:bC X.G O z e m k vs) (a1:∀x,rel X.G z vs (cW E x) (a6 fr x)) (aY:rel X.G z vs a (a6 fr x)) (h:PX X t a E bD aj O K=as4 r):cd P (a6 fr) o m fun _ v m'=>dj X O z e k vs K r v m':=by
 unfold PX at h;split at h
 ·split at h
  ·rename_i s J aT au ef dA;obtain ⟨q,bb,h⟩:=bind_some h;exact afj an au aY (FF a1 ef) (Fu a1 dA) bb (dj.here (df:= .c (.str q)) aw rfl h)
  grind
 ·rename_i c asb;split at h
  ·rename_i bt xs b2 ah;obtain ⟨cv,ju,lj,h7,aF⟩:=wP aw ah aY;split at h
   ·rename_i e2 ti J aT au hC ef dA;split at h
    ·rename_i ek;subst ek;obtain ⟨q,bb,h⟩:=bind_some h;refine aei (T:=X.G.T e2) an (by rw[ti.tid];grind) (by rw[ti.tid];exact ti.aj) ti.b6 rfl (FF a1 ef) (Fu a1 dA) aF h7.aM bb fun bH I _ aE=> ?_;exact dj.from ju lj (dj.here (df:= .c (.ae e2 q)) h7 aE h)
    grind
   grind
  grind
 grind
theorem aex {aB:Type} {T:cr aB} {xs:List aB} {v:as7} {bD aj:Option atd} {a n:Nat} {i:TypeInfo} {af:atd->as7} (h:o.op= .slice t x bD aj as6) (au:P.underlying t=as4 (.slice T.tid)) (eo:P.info? T.tid=as4 i) (b6:i.size=T.a9) (ad:af x=v) (ef:nM af bD a) (dA:lq af aj xs.length n)
  (aE:e9 T z m xs v) (aY:a<=n) (a2:n<=xs.length):∃bH,(cX P af o bH\/eJ P af o m bH)/\nW T.a9 a n v bH:=by
 rcases aE with ⟨rfl,rfl⟩|⟨b,f0,L,c,rfl,aU,aO,bT,cP,eG,gN⟩
 ·have tU:n=0:=by grind
  subst tU;obtain rfl:a=0:=by omega
  exact ⟨.slice as6 0 0, .inl (.kK t x bD aj T.tid i h au eo ad ef dA), .inl ⟨rfl,rfl,rfl,rfl⟩⟩
 ·rcases eG with rfl|⟨ah,U,aa⟩
  ·refine ⟨_, .inr (.slice t x bD aj T.tid i L b f0 xs.length a n h au eo ad aU ef dA aY a2 (by grind)), .inr ⟨b,f0,xs.length,cF,_,cF,rfl,rfl,aY,a2, .inl (by grind), .inl ⟨rfl,rfl⟩⟩⟩
  ·refine ⟨_, .inl (.slice t x bD aj T.tid i b f0 xs.length c a n h au eo ad (by grind) ef dA aY (by omega) (fun _=>trivial)), .inr ⟨b,f0,xs.length,c,_,_,rfl,rfl,aY,a2, ?_, .inr ⟨ah,rfl⟩⟩⟩
   grind
theorem ahJ {a:aV D} {bD aj:Option atd} (an:o.op= .slice t x bD aj as6) (aw:bC X.G O z e m k vs) (a1:∀x,rel X.G z vs (cW E x) (a6 fr x)) (aY:rel X.G z vs a (a6 fr x)) (h:Pf X t x a E bD aj O K=as4 r):cd P (a6 fr) o m fun _ v m'=>dj X O z e k vs K r v m':=by
 unfold Pf at h;split at h
 ·rename_i vY;have ab:a6 fr x= .slice as6 0 0:=by
   unfold U4 at vY;split at vY
   ·exact aY
   grind
  split at h
  ·rename_i bt p q au ef dA;split at h
   ·rename_i ti hC;split at h
    ·rename_i bg;simp only[ati,beq_iff_eq] at bg;obtain ⟨rfl,rfl⟩:=bg;exact cd.pure (.kK t x bD aj bt ti.i an au ti.aj ab (FE (n:=0) (FF a1 ef)) (Ft (n:=0) (Fu (l:=0) a1 dA))) (dj.here (df:= .c .gS) aw rfl h)
    grind
   grind
  grind
 rename_i adi;split at h
 ·grind [aiy]
 ·rename_i md ar5;split at h
  ·rename_i i;have aY:dJ X.G z vs (.own i) (a6 fr x):=aY;split at h
   ·rename_i bt xs w e2 bN hu;split at h
    ·rename_i ti p q adR ef dA;by_cases ek:e2=bt
     case neg=>grind
     rw[if_pos ek] at h;subst ek;obtain ⟨Cj,aF,h⟩:=bind_some h;obtain ⟨pM,c1,c2,rfl⟩:=On aF;obtain ⟨p,rfl⟩:=auF pM;obtain ⟨q,rfl⟩:=auF (Int.le_trans pM c1);simp only[auc] at h;have cn:dL (X.G.T e2) z e m k xs (a6 fr x):=aw.obj i _ _ bN aY.1;obtain ⟨bH,U,aa⟩:=aex (T:=X.G.T e2) an (by rw[ti.tid];omega) (by rw[ti.tid];exact ti.aj) ti.b6 rfl (FE (FF a1 ef)) (Ft (Fu a1 dA)) cn.bs (by omega) (by omega);have ar:dj X O z e k vs K r bH m:=by
      by_cases El:ath md 0=as5
      ·rw[if_pos El] at h;exact dj.here (df:= .cut i e2 p q) aw ⟨_,aY,aa⟩ h
      ·rw[if_neg El] at h;have bs:dL (X.G.T e2) z e m k ((xs.take q).drop p) bH:=⟨aa.NS cn.bs,fun b ag=>cn.fresh b (by
        have mb:dy (a6 fr x)=cY (a6 fr x):=gE (by obtain ⟨a,c,bJ⟩:=cn.bs.len;grind);have jF:dy bH=cY bH:=gE (by obtain ⟨a,c,bJ⟩:=(aa.NS cn.bs).len;grind);rw[<-mb,<-aa.aS,jF];grind)⟩
       have T9:dy bH=dy (a6 fr x):=aa.aS;have fg:=fun j p8 w gP a0 ax hw=>aw.e3 j i p8 _ w _ gP a0 bN ax rfl hw aY.1;exact ⟨z,vs++[bH], .c (.own O.length),O.set i .dead++[.ae e2 ((xs.take q).drop p) as9 as9],(Inv.set O i (.inl rfl)).trans (Inv.push _ _),dt.refl z,iS,
        (aw.kill i).push (q:=dy (a6 fr x)) (o':= .ae e2 ((xs.take q).drop p) as9 as9) ⟨atk _,aw.aM.dead,fun _ _ _=>rfl⟩ aw.aM (fun j p w a0 hw ax=>by
         rw[atQ] at a0;split at a0
         ·split at a0
          ·cases a0;cases ax
          grind
         grind) bs (fun p aL T6=>by grind),mY aw (by obtain ⟨a,c,bJ⟩:=bs.bs.len;exact ⟨a,c,bJ⟩),h⟩
     rcases U with U|U
     ·exact cd.Vo (D:=fun _ v m'=>dj X O z e k vs K r v m') (I:=fun _=>True) U ar
     grind [cd.read]
    grind
   grind
  grind
theorem ahK {y fl:atd} (an:o.op= .slice t x as6 (as4 y) (as4 fl)) (aw:bC X.G O z e m k vs) (a1:∀x,rel X.G z vs (cW E x) (a6 fr x)) (h:Pg X t (cW E x) (cW E y) (cW E fl) O K=as4 r):cd P (a6 fr) o m fun _ v m'=>dj X O z e k vs K r v m':=by
 unfold Pg at h;have fJ:∀{aB:Type} {p:Prop} [Decidable p] {x:Option aB} {r:aB},(if p then x else as6)=as4 r->p/\x=as4 r:=by
  grind
 split at h
 ·rename_i b0 b5 p cc q au aL bb;have aJ:=a1 y;rw[aL] at aJ;have aJ:a6 fr y= .int b5 p:=aJ;have ld:=a1 fl;rw[bb] at ld;have ld:a6 fr fl= .int cc q:=ld;have aY:=a1 x;split at h
  ·rename_i c ad;rw[ad] at aY;split at h
   ·rename_i e2 xs b2 bd;split at h
    ·rename_i ti hC;obtain ⟨he,h⟩:=fJ h;subst he;obtain ⟨Cj,aF,h⟩:=bind_some h;unfold wX at aF;obtain ⟨acq,Ep⟩:=fJ aF;obtain ⟨bg,U,aa,Ni⟩:=acq;subst Ni;cases Ep;obtain ⟨cv,eO,aU,aO,bT⟩:=wP aw bd aY;obtain ⟨n,rfl⟩:=auF bg;have a2:n<=xs.length:=by omega
     have ada:n<cF:=by grind [cF]
     have key:∃v,cX P (a6 fr) o v/\rel X.G cv vs (.full b0 (xs.take n)) v:=by
      rcases (bT:eC (X.G.T b0) cv xs (a6 fr x)) with ⟨ab,rfl⟩|⟨b,off,bP,ab,aeh,asp,asq⟩
      ·have tU:n=0:=by grind
       subst tU;exact ⟨_, .Cm t x fl (as4 y) b0 ti.i cc an au ti.aj ab ⟨y,b5,rfl,aJ⟩ ld, .inl ⟨rfl,by rfl⟩,by grind,as6,by rfl⟩
      ·have eZ:(bP<cF/\n<=bP)\/(bP=cF/\n<=xs.length):=by
        grind
       have hlen:(xs.take n).length=n:=by grind
       refine ⟨_, .slice3 t x fl (as4 y) b0 ti.i b off xs.length bP n n cc an au ti.aj ab eZ ⟨y,b5,rfl,aJ⟩ ld (atk _), ?_⟩;refine ⟨.inr ⟨b,off,n,by grind,aeh, .inr ⟨ada,by grind⟩,fun i a aj=> ?_⟩,by grind,as4 ⟨b,off,as6⟩,by grind⟩
       grind
     grind [cd.pure,dj.from,dj.here]
    grind
   grind
  grind
 grind
theorem ail {a:aV D} {v:as7} {t:Nat} {xs:List (D t)} (aw:bC X.G O z e m k vs) (h:oA O a=as4 ⟨t,xs⟩) (ab:rel X.G z vs a v):eC (X.G.T t) z xs v\/dL (X.G.T t) z e m k xs v:=by
 unfold oA at h;split at h
 ·cases h;exact .inl ab
 ·split at h
  ·rename_i dZ as0 bi dk an;cases h;have cn:=aw.obj _ _ v an ab.1;cases bi with
   |true=>exact .inl cn
   |false=>exact .inr cn
  grind
 grind
theorem ahI {a:aV D} (an:o.op= .convert u t x) (aw:bC X.G O z e m k vs) (aY:rel X.G z vs a (a6 fr x)) (h:Pe X u t a O K=as4 r):cd P (a6 fr) o m fun _ v m'=>dj X O z e k vs K r v m':=by
 unfold Pe at h;split at h
 ·rename_i b5 cc hu au;split at h
  ·exact iT aw h (Zk an hu au aY) rfl
  grind
 ·rename_i gV hu au;split at h
  ·rename_i s ky jZ;obtain ⟨ig,aE,h⟩:=bind_some h;refine apw an hu au ky.hu ky.aj ky.ju aY aE aw.aM ?_;intro bH m' aM bs je fg;have rj:=ky.ag _ _ _ _ _ _ bs;have ag:dy bH=cY bH:=gE (by obtain ⟨a,c,rfl⟩:=bs.bs.len;grind);refine ⟨z,vs++[bH], .c (.own O.length),_,Inv.push O _,dt.refl z,iS,aw.push (q:=as6) je aM (fun _ _ _ _ _ _=>eB.nH) ?_ (fun p aL _=>by grind), ?_,h⟩
   ·exact rj
   ·refine ⟨?_, ?_⟩
    ·rw[<-aw.len];simp
    ·obtain ⟨a,c,rfl⟩:=bs.bs.len;exact ⟨rfl,rfl⟩
  grind
 ·rename_i gV hu au;split at h
  ·rename_i b0 xs ky ax jZ;split at h
   ·rename_i he;subst he;rcases ail aw ax aY with aE|aE
    ·exact afn an hu ky.hu au rfl (ky.aF _ _ _ aE) aw.aM (dj.here (df:= .c (.str (ky.to xs))) aw rfl h)
    ·exact afm an hu ky.hu au rfl (ky.an _ _ _ _ _ _ aE) (dj.here (df:= .c (.str (ky.to xs))) aw rfl h)
   grind
  grind
 grind
theorem aic {a:aV D} {ts:Array atc} (an:o.op= .call {callee:= .builtin .len,args:=#[x],argTypes:=#[t]}) (aw:bC X.G O z e m k vs) (aY:rel X.G z vs a (a6 fr x)) (h:P1 (P:=P) t a O K=as4 r):cd P (a6 fr) o m fun _ v m'=>dj X O z e k vs K r v m':=by
 unfold P1 at h;split at h
 ·rename_i s au;exact iT aw h (Zq an rfl au aY) rfl
 ·rename_i gV au;have ab:a6 fr x= .slice as6 0 0:=aY;exact iT aw h (Gr (xs:=([]:List Int)) an au rfl ⟨as6,0,ab⟩) rfl
 ·rename_i gV ar7 au;split at h
  ·rename_i bt xs ax;exact iT aw h (Gr an au rfl (ahM aw ax aY)) rfl
  ·split at h
   ·split at h
    ·rename_i bt t1 up dH hole w bN;obtain ⟨hu,ws,cn⟩:=aw.obj _ _ _ bN aY.1;exact iT aw h (Gr (xs:=dH) an au rfl (by obtain ⟨a,c,bJ⟩:=cn.bs.bs.len;exact ⟨a,c,by rw[bJ,cn.len]⟩)) rfl
    grind
   ·split at h
    ·rename_i i bt bD aj ac3 asZ e2 xs dk bN;split at h
     ·rename_i he;subst he;obtain ⟨w,hw,ah⟩:=aY;have cn:dL _ z e m k xs w:=aw.obj _ _ _ bN hw.1;obtain ⟨cG,c1,ax⟩:=cn.bs.len;refine iT aw h (Gr (xs:=(xs.take aj).drop bD) an au rfl ?_) rfl;rcases ah with ⟨_,ab,rfl,rfl⟩|⟨b,f0,l,c,off,bP,bg,ab,U,aa,ao,aN⟩
      ·grind
      grind
     grind
    grind
   grind
 grind
theorem WY {aB:Type} {T:cr aB} {xE:Tag->as7->Mem->Prop} {xs b1:List aB} {w:as7} {a:Option Addr} {af:atd->as7} {i:TypeInfo} (h:o.op= .call {callee:= .builtin .append,args:=#[x,y],argTypes:=#[t,u]}) (au:P.underlying t=as4 (.slice T.tid)) (aj:P.info? T.tid=as4 i) {cN:as7} (gR:i.zero=as4 cN) (da:cN.cells.toList.all cQ=as5) (dU:cN.cells.size=i.size)
  (b6:i.size=T.a9) (gA:(T.a9==0)=as9) (gO:atn i.bytes 32768=as5) (hu:(∃b0,P.underlying u=as4 (.slice b0))\/P.underlying u=as4 .string) (ad:af x= .slice a xs.length xs.length) (aE:Src T z m xs (.slice a xs.length xs.length)) (aJ:af y=w) (lg:Src T z m b1 w) (ep:b1.isEmpty=as9)
  (aM:dp z e m k) {r:List aB} (aF:cl xs b1=as4 r)
  (ar:∀bH m',dp z e m' k->dL T z e m' k r bH->fD m m' as6->(∀p,(∀b,p=as4 b->b<m.next)->eB p (cY bH))->xE .e4 bH m'):cd P af o m xE:=by
 obtain ⟨lP,rfl⟩:=rn aF;simp only[qH] at lP;have gO:=ato gO;have aL:0<T.a9:=by grind
 obtain ⟨hlen,cs,me,nC,ez⟩:=lg;obtain ⟨M4,os,hex,kQ,adN⟩:=aE;have ac6:hP (af y)=b1.length:=by grind
 have q9:0<b1.length:=by grind
 have hmul:(xs.length+b1.length)*i.bytes<=4294967296*32768:=avr lP gO;have o1:z m.next= .dead:=by
  have a4:=aM.bi;cases p2:z m.next with
  |dead=>rfl
  |ro rd=>have:=(a4 m.next (by grind)).2;omega
  |own L t=>have:=(a4 m.next (by grind)).2;omega
  |map L t=>have:=(a4 m.next (by grind)).2;omega
  |lock _ _ _ _=>have:=(a4 m.next (by grind)).2;omega
 have a1:gI P (iq P 0) af o m (.slice (as4 ⟨m.next,0,as6⟩) (xs.length+hP (af y)) cF) (m.push (.own (os++cs) T.tid)):=
  .pK x y t u T.tid i cN a xs.length xs.length (hP (af y)) os cs h au aj gR da dU (by grind) ad (by grind) (by grind) (by grind) (.el hu rfl (by grind)) (by grind) (by grind) (by grind)
 rw[ac6] at a1;have En:e9 T z (m.push (.own (os++cs) T.tid)) (xs++b1) (.slice (as4 ⟨m.next,0,as6⟩) (xs.length+b1.length) cF):=by
  refine e9.xT ⟨m.next,os++cs,cF,by simp,by simp[Mem.push],by simp[Mem.push],o1,by grind [atJ], .inl rfl,fun n q aY=> ?_⟩;rw[avn] at aY;split at aY
  ·obtain ⟨c,aU,aO⟩:=adN n q aY;refine ⟨c,aU,fun k q ar=> ?_⟩;have:=aO k q ar
   grind
  ·rename_i gK;obtain ⟨c,aU,aO⟩:=ez _ q aY;refine ⟨c,aU,fun k q ar=> ?_⟩;have:=aO k q ar;have U:n*T.a9=os.length+(n - xs.length)*T.a9:=by
    rw[kQ,<-atJ];grind
   grind
 obtain ⟨aU,aO,bT,cP⟩:=DX (k:=k) aM En rfl
 grind [cd.e4]
theorem ahd {bt:Nat} {vI:TypeDesc} {b:aV D} {b1:List (D bt)} (aw:bC X.G O z e m k vs) (hu:P.underlying u=as4 vI) (ag:rel X.G z vs b (a6 fr y)) (o6:O9 X bt vI b O=as4 b1):
  Src (X.G.T bt) z m b1 (a6 fr y)/\((∃b0,P.underlying u=as4 (.slice b0))\/P.underlying u=as4 .string):=by
 unfold O9 at o6;split at o6
 ·refine ⟨?_, .inl ⟨_,hu⟩⟩;split at o6
  ·cases o6;have ab:a6 fr y= .slice as6 0 0:=ag;rw[ab];exact (eC.nil (T:=X.G.T bt)).src aw.aM.bi
  ·split at o6
   ·rename_i e2 as1 ax;split at o6
    ·rename_i ek;subst ek;cases o6;exact Wb aw ax ag
    grind
   grind
 ·refine ⟨?_, .inr hu⟩;split at o6
  ·rename_i s ky _;cases o6;have ab:a6 fr y=ay.str s:=ag;rw[ab];exact ky.aE _ _ _ _ (aoi s)
  grind
 grind
theorem aiw {a b:aV D} (an:o.op= .call {callee:= .builtin .append,args:=#[x,y],argTypes:=#[t,u]}) (aw:bC X.G O z e m k vs) (aY:rel X.G z vs a (a6 fr x)) (ag:rel X.G z vs b (a6 fr y)) (h:GA X t u a b O K=as4 r):cd P (a6 fr) o m fun _ v m'=>dj X O z e k vs K r v m':=by
 unfold GA at h;split at h
 ·rename_i gG aqK au hu;split at h
  ·grind
  ·rename_i ti hC;split at h
   ·grind
   ·rename_i b1 o6;have yz:=ahd (u:=u) aw hu ag o6;have lg:Src (X.G.T gG) z m b1 (a6 fr y):=yz.1;have mi:P.underlying t=as4 (.slice (X.G.T gG).tid):=by rw[ti.tid];grind
    have eo:P.info? (X.G.T gG).tid=as4 ti.i:=by rw[ti.tid];exact ti.aj
    split at h
    ·obtain ⟨q,bb,h⟩:=bind_some h;have ab:a6 fr x= .slice as6 0 0:=aY;refine FP (T:=X.G.T gG) (z:=z) an mi eo ti.a4 ti.da ti.dU ti.b6 ti.gA ti.gO yz.2 ab dL.nil rfl lg aw.aM bb fun bH m' eI bs fL fg=> ?_;have jF:dy bH=cY bH:=gE (by obtain ⟨a,c,rfl⟩:=bs.bs.len;grind);exact nJ (v:=bH) aw eI fL (fun p aL=>by rw[jF];exact fg p aL eB.nH) h bs (mY aw bs.bs.len)
    ·rename_i e2 xs;by_cases ek:e2=gG
     case neg=>grind
     rw[dif_pos ek] at h;subst ek;by_cases ep:b1.isEmpty=as5
     case pos=>grind
     rw[if_neg ep] at h;obtain ⟨q,bb,h⟩:=bind_some h;obtain ⟨f1,f2,g5,f3⟩:=aY;refine WY (T:=X.G.T e2) (z:=z) an mi eo ti.a4 ti.da ti.dU ti.b6 ti.gA ti.gO yz.2 f3 (by rw[<-f3];exact eC.src f1 aw.aM.bi) rfl lg (by grind) aw.aM bb fun bH m' eI bs fL fg=> ?_;have jF:dy bH=cY bH:=gE (by obtain ⟨a,c,rfl⟩:=bs.bs.len;grind);exact nJ (v:=bH) aw eI fL (fun p aL=>by grind) h bs (mY aw bs.bs.len)
    ·rename_i i;split at h
     ·rename_i e2 xs dk bN;split at h
      ·rename_i ek;subst ek;obtain ⟨q,bb,h⟩:=bind_some h;have cn:dL (X.G.T e2) z e m k xs (a6 fr x):=aw.obj i _ _ bN aY.1;refine FP (T:=X.G.T e2) an mi eo ti.a4 ti.da ti.dU ti.b6 ti.gA ti.gO yz.2 rfl cn rfl lg aw.aM bb fun bH m' eI bs fL fg=> ?_;have jF:dy bH=cY bH:=gE (by obtain ⟨a,c,rfl⟩:=bs.bs.len;grind);have mb:dy (a6 fr x)=cY (a6 fr x):=gE (by obtain ⟨a,c,bJ⟩:=cn.bs.len;grind);have h7:=aw.kill i;have hlen:(O.set i .dead).length=O.length:=aur;refine ⟨z,vs++[bH], .c (.own O.length),O.set i .dead++[.ae e2 q as9 as9],(Inv.set O i (.inl rfl)).trans (Inv.push _ _),dt.refl z,iS,h7.push (o':= .ae e2 q as9 as9) fL eI (fun j p w a0 hw ax=> ?_) bs (fun p aL T6=>by grind), ?_,h⟩
       ·rw[atQ] at a0;split at a0
        ·split at a0
         ·cases a0;cases ax
         grind
        ·rename_i gP;rw[<-mb];exact aw.e3 j i p _ w _ (fun e=>gP e.symm) a0 bN ax rfl hw aY.1
       ·exact mY aw bs.bs.len
      grind
     grind
    ·rename_i i bt bD n;by_cases ef:ath bD 0=as5
     case neg=>grind
     rw[if_pos ef] at h;obtain rfl:=Nat.eq_of_beq_eq_true ef;by_cases tL:bt=gG
     case neg=>grind
     rw[if_pos tL] at h;subst tL;split at h
     ·rename_i e2 xs dk bN;split at h
      ·rename_i ek;subst ek;obtain ⟨q,bb,h⟩:=bind_some h;obtain ⟨xg,yC,hD⟩:=aY;have Na:dL (X.G.T e2) z e m k xs xg:=aw.obj i _ _ bN yC.1;have ack:dy xg=cY xg:=gE (by obtain ⟨a,c,bJ⟩:=Na.bs.len;grind);have En:=hD.bs Na.bs;have mb:dy (a6 fr x)=cY (a6 fr x):=gE (by obtain ⟨a,c,bJ⟩:=En.len;grind);have cn:dL (X.G.T e2) z e m k (xs.take n) (a6 fr x):=⟨En,fun b ag=>Na.fresh b (by rw[<-ack,<-hD.aS,mb];grind)⟩
       refine FP (T:=X.G.T e2) an mi eo ti.a4 ti.da ti.dU ti.b6 ti.gA ti.gO yz.2 rfl cn rfl lg aw.aM bb fun bH m' eI bs fL fg=> ?_;have jF:dy bH=cY bH:=gE (by obtain ⟨a,c,rfl⟩:=bs.bs.len;grind);have h7:=aw.kill i;refine ⟨z,vs++[bH], .c (.own O.length),O.set i .dead++[.ae e2 q as9 as9],(Inv.set O i (.inl rfl)).trans (Inv.push _ _),dt.refl z,iS,h7.push (o':= .ae e2 q as9 as9) fL eI (fun j p w a0 hw ax=> ?_) bs (fun p aL T6=>by grind), ?_,h⟩
       ·rw[atQ] at a0;split at a0
        ·split at a0
         ·cases a0;cases ax
         grind
        ·rename_i gP;rw[<-mb,hD.aS];exact aw.e3 j i p _ w _ (fun e=>gP e.symm) a0 bN ax rfl hw yC.1
       ·exact mY aw bs.bs.len
      grind
     grind
    grind
 grind
theorem ahG {a b:aV D} (an:o.op= .call {callee:= .builtin .append,args:=#[x,y],argTypes:=#[t,u]}) (aw:bC X.G O z e m k vs) (aY:rel X.G z vs a (a6 fr x)) (ag:rel X.G z vs b (a6 fr y)) (h:Pd X t u a b O K=as4 r):cd P (a6 fr) o m fun _ v m'=>dj X O z e k vs K r v m':=by
 unfold Pd at h;split at h
 ·rename_i gG aqK au hu;split at h
  ·rename_i ti bt xs e2 b1 hC ax;by_cases ek:bt=gG
   case neg=>grind
   rw[dif_pos ek] at h;subst ek;by_cases ek:e2=bt
   case neg=>grind
   rw[dif_pos ek] at h;subst ek;obtain ⟨q,bb,h⟩:=bind_some h;have lg:=Wb aw ax ag;have mi:P.underlying t=as4 (.slice (X.G.T e2).tid):=by rw[ti.tid];grind
   have eo:P.info? (X.G.T e2).tid=as4 ti.i:=by rw[ti.tid];exact ti.aj
   obtain ⟨f1,f2,g5,f3⟩:=aY;by_cases ep:b1.isEmpty=as5
   ·rw[if_pos ep] at h;obtain rfl:b1=[]:=by grind
    obtain ⟨lP,rfl⟩:=rn bb;obtain ⟨hlen,cs,me,nC,_⟩:=lg;obtain rfl:cs=[]:=aui (by grind);have a1:gI P (iq P 0) (a6 fr) o m (a6 fr x) m:= .r9 x y t u _ ti.i g5 xs.length xs.length an mi eo f3 (by omega) (atk _) (.el (.inl ⟨_,hu⟩) (by grind) (by rw[ti.b6];grind));exact cd.e4 a1 (dj.here (X:=X) aw (df:= .c (.ae e2 (xs++[]))) (by rw[auY];exact f1) h)
   ·rw[if_neg ep] at h;refine WY (T:=X.G.T e2) (z:=z) an mi eo ti.a4 ti.da ti.dU ti.b6 ti.gA ti.gO (.inl ⟨_,hu⟩) f3 (by rw[<-f3];exact eC.src f1 aw.aM.bi) rfl lg (by grind) aw.aM bb fun bH m' eI bs fL fg=> ?_;have jF:dy bH=cY bH:=gE (by obtain ⟨a,c,rfl⟩:=bs.bs.len;grind);exact nJ (v:=bH) aw eI fL (fun p aL=>by grind) h bs (mY aw bs.bs.len)
  grind
 grind
theorem aid {bh bc:Nat} (an:o.op= .makeMap t as6) (au:P.underlying t=as4 (.map bh bc)) (aw:bC X.G O z e m k vs) (h:K (.c (.own O.length)) (O++[.map t bh bc [] as9 as9])=as4 r):cd P (a6 fr) o m fun _ v m'=>dj X O z e k vs K r v m':=by
 refine aiN (X.G.M t bh bc) an au rfl aw.aM fun bH m' eI bs fL fg=> ?_;obtain ⟨q,rfl,bb⟩:=bs.bs;exact nJ (v:= .map (as4 q)) aw eI fL fg h bs ⟨zu aw _,rfl,rfl⟩
theorem ah1 {u bh bc:Nat} {es:List (D bh×D bc)} {a:D bh} {eP:LA P X.G bh bc} {ok:Bool} {c:aV D} (an:o.op= .lookup t x y ok) (au:P.underlying t=as4 (.map bh bc)) (hu:P.underlying u=as4 (.map bh bc)) (aw:bC X.G O z e m k vs)
  (ad:lz (X.G.M u bh bc) z es (a6 fr x)\/iw (X.G.M u bh bc) z e m k es (a6 fr x)) (aJ:rel X.G z vs c (a6 fr y)) (ar:eP.ug c=as4 a)
  (h:(ay.lt (@nN _ _ eP.dec es a) fun y=>if ok=as5 then K (.nb [.inl (eP.rP (y.getD eP.cg)), .inl (.bool y.isSome)]) O else K (.c (eP.rP (y.getD eP.cg))) O)=as4 r):cd P (a6 fr) o m fun _ v m'=>dj X O z e k vs K r v m':=by
 letI aQ:=eP.dec
 obtain ⟨w,hw,h⟩:=Xp h;have sr:=eP.MY z vs c a _ ar aJ;have yA:=eP.yA z vs (w.getD eP.cg);cases ok with
 |true=>
  rw[if_pos rfl] at h;have hrel:rel X.G z vs (.nb [.inl (eP.rP (w.getD eP.cg)), .inl (.bool w.isSome)]) (.tuple #[dY (dG P bc) (X.G.eb bc (w.getD eP.cg)), .bool w.isSome]):=⟨[_,_],rfl,yA,rfl,trivial⟩
  rcases ad with ad|ad
  ·exact X8 (M:=X.G.M u bh bc) (a:=a) (cg:=eP.cg) an au hu eP.K eP.V eP.aj eP.a4 rfl ad aw.aM rfl sr hw (if_pos rfl) (dj.here aw hrel h)
  ·exact X7 (M:=X.G.M u bh bc) (a:=a) (cg:=eP.cg) an au hu eP.K eP.V eP.aj eP.a4 rfl ad rfl sr hw (if_pos rfl) (dj.here aw hrel h)
 |false=>
  rw[if_neg (by simp)] at h;have hrel:rel X.G z vs (.c (eP.rP (w.getD eP.cg))) (dY (dG P bc) (X.G.eb bc (w.getD eP.cg))):=yA;rcases ad with ad|ad
  ·exact X8 (M:=X.G.M u bh bc) (a:=a) (cg:=eP.cg) an au hu eP.K eP.V eP.aj eP.a4 rfl ad aw.aM rfl sr hw (if_neg (by simp)) (dj.here aw hrel h)
  ·exact X7 (M:=X.G.M u bh bc) (a:=a) (cg:=eP.cg) an au hu eP.K eP.V eP.aj eP.a4 rfl ad rfl sr hw (if_neg (by simp)) (dj.here aw hrel h)
theorem WB {u bh bc i:Nat} {es:List (D bh×D bc)} {a:D bh} {b:D bc} {eP:LA P X.G bh bc} {c:aV D} {d:bY D} {w:atd} (an:o.op= .mapUpdate t x y w\/o.op= .insert t x y w) (au:P.underlying t=as4 (.map bh bc)) (hu:P.underlying u=as4 (.map bh bc)) (aw:bC X.G O z e m k vs)
  {dk:Bool} (bN:O[i]? =as4 (.map u bh bc es as9 dk)) (ad:vs[i]? =as4 (a6 fr x)) (aJ:rel X.G z vs c (a6 fr y)) (hw:dJ X.G z vs d (a6 fr w)) (ar:eP.ug c=as4 a) (ab:eP.Cr d=as4 b)
  (h:(ay.lt (@sY _ _ eP.dec es a b) fun tA=>K .undef (O.set i (.map u bh bc tA as9 as5)))=as4 r):cd P (a6 fr) o m fun _ v m'=>dj X O z e k vs K r v m':=by
 letI aQ:=eP.dec
 obtain ⟨tA,oc,h⟩:=Xp h;have cn:iw (X.G.M u bh bc) z e m k es (a6 fr x):=aw.obj i _ _ bN ad;refine aj' (M:=X.G.M u bh bc) (a:=a) (b:=b) an au hu eP.K eP.V rfl cn rfl (eP.MY z vs c a _ ar aJ) rfl (eP.UL z vs d b _ ab hw) aw.aM oc fun m' eI bs fL=> ?_;have jF:dy (a6 fr x)=rB (a6 fr x):=by obtain ⟨q,bb,_⟩:=cn.bs;rw[bb];rfl
 exact y0 aw h bN ad rfl rfl (by grind) eI bs
theorem Ov {s:aV D} {g:as7} {c:Nat×List (bY D)} {bW:List (aR D)} (aw:bC X.G O z e m k vs) (aE:rel X.G z vs s g) (h:uY O s=as4 (c,bW)):∃z',Inv O bW/\dt e.next z z'/\bC X.G bW z' e m k vs/\lX X.G z' vs c.2 0 g:=by
 cases s with
 |gU t cs off=>
  simp only[uY] at h;split at h
  ·rename_i bg;subst bg;cases h;exact ⟨z,Inv.refl _,dt.refl z,aw,aE⟩
  grind
 |box i off=>
  simp only[uY] at h;obtain ⟨b,ab,a5⟩:=aE;split at h
  ·rename_i t cs bi dk bN;split at h
   ·rename_i bg;obtain ⟨bg,_⟩:=bg;subst bg;cases h;have cn:=aw.obj i _ _ bN ab;rw[a5];cases bi with
    |true=>
     obtain ⟨h1,ds,he,ah,aF⟩:=cn;cases he;have:O.set i (.box t cs as5 dk)=O:=by
      apply auw
      grind
     rw[this];exact ⟨z,Inv.refl _,dt.refl z,aw,b,0,ds,rfl,ah,aF⟩
    |false=>obtain ⟨h1,ds,he,mb,hg,aF⟩:=cn;cases he;obtain ⟨cv,b5,cc,eH,ja⟩:=mb.freeze hg aw.aM;have Eo:=m7.mono aF b5.le fun _ _ h=>h;exact ⟨cv,Inv.set O i (.inl rfl),b5,aw.iK bN ab rfl rfl b5.le cc ja ⟨b,ds,rfl,eH,Eo⟩,b,0,ds,rfl,eH,Eo⟩
   grind
  grind
 |_=>cases h
theorem V4:∀{l:List (aV D)} {gs:List as7} {caps:List (Nat×List (bY D))} {O bW:List (aR D)} {z:Nat->bm},bC X.G O z e m k vs->bp (rel X.G z vs) l gs->zo l O=as4 (caps,bW)->∃z',Inv O bW/\dt e.next z z'/\bC X.G bW z' e m k vs/\bp (fun c g=>lX X.G z' vs c.2 0 g) caps gs
 |[],[],caps,O,bW,z,aw,_,h=>by cases h;exact ⟨z,Inv.refl _,dt.refl z,aw,trivial⟩
 |s::l,g::gs,caps,O,bW,z,aw,⟨U,aa⟩,h=>by
  unfold zo at h;split at h
  ·rename_i c b2 ah;split at h
   ·rename_i r dK aF;cases h;obtain ⟨cv,j2,b5,cc,eH⟩:=Ov aw U ah;obtain ⟨cT,eO,aU,aO,bT⟩:=V4 cc (bp.mono (fun _ _ h=>rel.mono h b5.le fun _ _ h=>h) aa) aF;exact ⟨cT,j2.trans eO,b5.trans aU,aO,lX.mono eH aU.le fun _ _ h=>h,bT⟩
   grind
  grind
 |[],_::_,_,_,_,_,_,h,_=>h.elim
 |_::_,[],_,_,_,_,_,h,_=>h.elim
theorem uC {xs:List atd} (a1:∀x,rel X.G z vs (cW E x) (a6 fr x)):bp (rel X.G z vs) (xs.map (cW E)) (xs.map (a6 fr)):=by
 induction xs with
 |nil=>trivial
 |cons x xs aq=>exact ⟨a1 x,aq⟩
theorem ajj {s:aV D} {i:Nat} {v:as7} (aw:bC X.G O z e m k vs) (h:LY O s=as4 i) (aF:rel X.G z vs s v):qM vs i v:=by
 unfold LY at h;split at h
 ·split at h
  ·split at h
   ·rename_i bg;cases h;subst bg;obtain ⟨b,U,aa⟩:=aF;exact ⟨by grind,b,aa⟩
   grind
  grind
 grind
theorem Wq (aw:bC X.G O z e m k vs):∀{l:List (aV D)} {gs:List as7} {is:List Nat},zC O l=as4 is->bp (rel X.G z vs) l gs->bp (qM vs) is gs
 |[],[],is,h,_=>by cases h;trivial
 |s::l,g::gs,is,h,⟨U,aa⟩=>by
  unfold zC at h;split at h
  ·rename_i i sy aj a0;cases h;exact ⟨ajj aw aj U,Wq aw a0 aa⟩
  grind
 |[],_::_,_,_,h=>h.elim
 |_::_,[],_,_,h=>h.elim
theorem ah' {f:FuncId} {first cap:Array atd} {is:List Nat} (an:o.op= .makeFunc (.func f) first cap) (bd:first.toList=[]) (aw:bC X.G O z e m k vs) (a1:∀x,rel X.G z vs (cW E x) (a6 fr x)) (ah:zC O (cap.toList.map (cW E))=as4 is) (h:K (.c (.fn f is)) O=as4 r):
  cd P (a6 fr) o m fun _ v m'=>dj X O z e k vs K r v m':=by
 have a5:=Wq aw ah (uC a1);have tM:first=#[]:=by grind
 subst tM;have eR:(cap.map (a6 fr)).toList.all storable=as5:=by
  rw[atq];intro v ab;rw[auA] at ab;have:=atq.1 (Ow a5) v ab;unfold u3 at this;split at this
  ·rfl
  grind
 exact iT aw h (Zn an rfl eR) ⟨cap.toList.map (a6 fr),by congr 1;grind,a5⟩
theorem aot {f:FuncId} {first cap:Array atd} {caps:List (Nat×List (bY D))} {bW:List (aR D)} (an:o.op= .makeFunc (.func f) first cap) (bd:first.toList=[]) (aw:bC X.G O z e m k vs) (a1:∀x,rel X.G z vs (cW E x) (a6 fr x)) (ah:zo (cap.toList.map (cW E)) O=as4 (caps,bW)) (h:K (.fn f caps) bW=as4 r):
  cd P (a6 fr) o m fun _ v m'=>dj X O z e k vs K r v m':=by
 obtain ⟨cv,eO,aU,aO,bT⟩:=V4 aw (uC a1) ah;have tM:first=#[]:=by grind
 subst tM;have eR:(cap.map (a6 fr)).toList.all storable=as5:=by
  rw[atq];intro v ab;rw[auA] at ab;have:∀(cs:List (Nat×List (bY D))) (gs:List as7),bp (fun c g=>lX X.G cv vs c.2 0 g) cs gs->∀v∈gs,storable v=as5:=by
   intro cs;induction cs with
   |nil=>intro gs a5 v ab;cases gs with
    |nil=>grind
    |cons _ _=>exact a5.elim
   |cons c cs aq=>intro gs a5 v ab;cases gs with
    |nil=>grind
    |cons g gs=>
     rcases List.mem_cons.1 ab with rfl|ab
     ·obtain ⟨b,pb,ds,he,_⟩:=a5.1;rw[he];rfl
     ·exact aq gs a5.2 v ab
  grind
 refine cd.pure (Zn an rfl eR) (dj.from eO aU (dj.here (df:= .fn f caps) aO ⟨cap.toList.map (a6 fr), ?_,bT⟩ h));congr 1
 grind
end
end Go.ay
end
section
namespace Go.ay
section
variable {P:atb} {D:Nat->Type} {X:et P D} {af:Type} {z z':Nat->bm} {e m m':Mem} {k:Option Nat} {vs:List as7} {fr:Nat->as7} {E:List (Nat×aV D)} {O:List (aR D)} {o:Oper} {r:af}
variable {x y:atd} {t u:atc} {K:aV D->List (aR D)->Option af}
theorem aie {l:Nat} {cm:Array (Nat×atd)} (an:o.op= .buildSlice t l cm) (aw:bC X.G O z e m k vs) (a1:∀x,rel X.G z vs (cW E x) (a6 fr x)) (h:P2 X t l cm.toList E O K=as4 r):cd P (a6 fr) o m fun _ v m'=>dj X O z e k vs K r v m':=by
 unfold P2 at h;split at h
 ·rename_i bt au;split at h
  ·rename_i t1 hu;split at h
   ·rename_i ei ap;split at h
    ·rename_i Nj;refine Pr (T:=pG bt) an au ei.aj ei.a4 rfl (by rw[ei.U];rfl) (by rw[ei.U];rfl) [] [] rfl rfl rfl (by rw[Nj];trivial) aw.aM fun bH m' eI bs fL fg=> ?_;have ag:dy bH=cY bH:=gE (by obtain ⟨a,c,rfl⟩:=bs.bs.len;grind);exact nJ (v:=bH) aw eI fL (by grind) h ⟨fun f bd=>by cases bd;exact ⟨ei.b6,ei.tid,ei.aF⟩,_,bs,rfl,fun j w xs aU aO _=>by grind,fun p aL=>by grind⟩ (mY aw bs.bs.len)
    ·rename_i y Nj;split at h
     ·rename_i j a0;split at h
      ·rename_i t2 xs w bN;split at h
       ·rename_i aa;have aJ:=a1 y;rw[a0] at aJ;obtain ⟨ab,aE,ah⟩:=aJ;refine Pr (T:=pG bt) an au ei.aj ei.a4 rfl (by rw[ei.U];rfl) (by rw[ei.U];rfl) [a6 fr y] [[a6 fr y]] rfl rfl rfl (by rw[Nj];exact ⟨rfl,aE,by grind,⟨rfl,aE,ah⟩,trivial⟩) aw.aM fun bH m' eI bs fL fg=> ?_;have ag:dy bH=cY bH:=gE (by obtain ⟨a,c,rfl⟩:=bs.bs.len;grind);refine nJ (v:=bH) aw eI fL (by grind) h ⟨fun f bd=>by cases bd;exact ⟨ei.b6,ei.tid,ei.aF⟩,_,bs,rfl,fun j w xs aU aO bT=> ?_,fun p aL=> ?_⟩ (mY aw bs.bs.len)
        ·grind
        grind
       grind
      grind
     grind
    grind
   grind
  grind
 grind
theorem bC.ZO (h:bC X.G O z e m k vs) (a4:eM z z') (aM:dp z' e m k) (aQ:∀b,z b= .dead->z' b= .dead) (ar:∀(j:Nat) (q:aR D) (w:as7),O[j]? =as4 q->vs[j]? =as4 w->q.live=as5->Lx z z' (fk w)):bC X.G O z' e m k vs where
 aM:=aM
 len:=h.len
 obj:=fun j q w a0 hw=>(h.obj j q w a0 hw).iF a4 (fun ax b ag=>by
  have:=((h.obj j q w a0 hw).lt ax b ag).2.1
  grind) fun ax=>ar j q w a0 hw ax
 e3:=h.e3
noncomputable def xB (z:Nat->bm) (e5 iN mS jb n':Nat):Nat->bm:=fun b=>
 match z b with
 | .lock n j L t=>if e5<=b/\n≠0/\n=iN then .lock n' j L t else if e5<=b/\n≠0/\n=mS then .lock n' (jb+j) L t else .lock n j L t
 |x=>x
theorem Ym {e5 iN mS jb n' b:Nat} (h:∀n j L t,z b≠ .lock n j L t):xB z e5 iN mS jb n' b=z b:=by
 grind [xB]
theorem rH {e5 iN mS jb n' b n j:Nat} {L:List as7} {t:atc} (h:z b= .lock n j L t):xB z e5 iN mS jb n' b=if e5<=b/\n≠0/\n=iN then .lock n' j L t else if e5<=b/\n≠0/\n=mS then .lock n' (jb+j) L t else .lock n j L t:=by
 grind [xB]
theorem Pa {aB:Type} {T:cr aB} {xs:List aB} {v:as7} (h:dL T z e m k xs v) (ad:xs≠[]):fk v≠0:=by
 intro bg;unfold fk at bg;rcases h.bs with ⟨rfl,q7⟩|⟨cR,o',L',bP,rfl,_⟩
 ·grind
 grind [cY]
theorem WZ {aB:Type} {T:cr aB} {x0:aB} {xE:Tag->as7->Mem->Prop} {af:atd->as7} {i:TypeInfo} {kk b5:as'} {n:Int} {v:as7} {xs:List aB} (h:o.op= .call {callee:= .builtin .append,args:=#[x,y],argTypes:=#[t,u]}) (au:P.underlying t=as4 (.slice T.tid)) (aj:P.info? T.tid=as4 i) {cN:as7} (gR:i.zero=as4 cN) (da:cN.cells.toList.all cQ=as5) (dU:cN.cells.size=i.size)
  (b6:i.size=T.a9) (gA:(T.a9==0)=as9) (gO:atn i.bytes 32768=as5) (hu:P.underlying u=as4 (.int kk)) (ad:af x=v) (aE:dL T z e m k xs v) (aJ:af y= .int b5 n) (ez:T.rd z x0 cN.cells.toList) (aM:dp z e m k) {b1 r:List aB} (hm:iM x0 n=as4 b1) (aF:cl xs b1=as4 r)
  (ar:∀bH m',dp z e m' k->dL T z e m' k r bH->fD m m' (cY v)->(∀p,(∀b,p=as4 b->b<m.next)->eB p (cY v)->eB p (cY bH))->xE .e4 bH m'):cd P af o m xE:=by
 obtain ⟨bg,U,rfl⟩:=y8 hm;obtain ⟨c,rfl⟩:=auF bg;have aL:0<T.a9:=by grind
 rw[auc] at aF;obtain ⟨bH,m',U,aa,ao,aN⟩:=aiH (C:=iq P 0) (k:=b5) h au aj gR da dU b6 aL (ato gO) hu ad aE.bs aJ ez aM.bi aM.dead aF;refine cd.e4 U (ar _ _ (aM.same ao aE.bb) ⟨aa,fun b ag=> ?_⟩ ao fun p aL aY b ag ej=> ?_)
 ·rcases aN b ag with aN|aN
  ·exact aE.fresh b aN
  ·have:=aM.next;omega
 ·rcases aN b ej with aN|aN
  ·exact aY b ag aN
  grind
theorem aht {a b:aV D} (an:o.op= .call {callee:= .builtin .append,args:=#[x,y],argTypes:=#[t,u]}) (hu:Pp (P.underlying u)=as5) (aw:bC X.G O z e m k vs) (aY:rel X.G z vs a (a6 fr x)) (ag:rel X.G z vs b (a6 fr y)) (h:OR X t a b O K=as4 r):cd P (a6 fr) o m fun _ v m'=>dj X O z e k vs K r v m':=by
 have Ev:∃kk,P.underlying u=as4 (.int kk):=by
  unfold Pp at hu
  grind
 obtain ⟨kk,Ev⟩:=Ev;unfold OR at h;split at h
 ·rename_i bt b5 n au;split at h
  ·rename_i ti hC;split at h
   ·rename_i a2;obtain ⟨xs,hm,h⟩:=bind_some h;have aF:cl ([]:List (D bt)) xs=as4 xs:=by
     obtain ⟨bg,U,rfl⟩:=y8 hm
     grind [cl,qH]
    refine WZ (T:=X.G.T bt) (xs:=[]) an (by rw[ti.tid];grind) (by rw[ti.tid];exact ti.aj) ti.a4 ti.da ti.dU ti.b6 ti.gA ti.gO Ev aY ⟨.inl ⟨rfl,rfl⟩,fun b ag=>by cases ag⟩ ag (ti.Ch z) aw.aM hm aF fun bH m' eI bs fL fg=> ?_;have jF:dy bH=cY bH:=gE (by obtain ⟨a,c,rfl⟩:=bs.bs.len;grind);exact nJ (v:=bH) aw eI fL (by rw[jF];exact fun p aL=>fg p aL (by intro b ag ej;cases ej)) h bs (mY aw bs.bs.len)
   grind
  grind
 ·rename_i gV i b5 n au;split at h
  ·rename_i b2 MO;split at h
   ·rename_i bt t1 up mz dk pR;split at h
    ·rename_i ei ap;split at h
     ·rename_i he;subst he;obtain ⟨b1,hm,h⟩:=bind_some h;obtain ⟨q,bb,h⟩:=bind_some h;obtain ⟨cv,i1,J,rZ⟩:=y3 aw MO;obtain ⟨Uw,ar4,rfl⟩:=y8 hm;have lP:=(rn bb).1;have adH:=(rn bb).2;subst adH;have pY:=aY.1;obtain ⟨xd,xe,iN⟩:=rZ.obj i _ _ pR pY;have ac':iM (atZ as6 0 0) n=as4 (att n.toNat (atZ as6 0 0)):=by
       grind [iM]
      have Nl:cl xe (att n.toNat (atZ as6 0 0))=as4 (xe++att n.toNat (atZ as6 0 0)):=by unfold cl;rw[iN.len,avD,if_pos (by grind)]
      refine WZ (T:=pG bt) an au ei.aj ei.a4 rfl (by rw[ei.U];rfl) (by rw[ei.U];rfl) rfl ei.gO Ev rfl iN.bs ag ⟨rfl,rfl,rfl⟩ rZ.aM ac' Nl fun bH m' eI bs fL fg=> ?_;have T8:dy (a6 fr x)=cY (a6 fr x):=gE (by obtain ⟨a,c,bJ⟩:=iN.bs.bs.len;grind);have jF:dy bH=cY bH:=gE (by obtain ⟨a,c,rfl⟩:=bs.bs.len;grind);have Ly:=rZ.mw (o':= .dead) pR pY rfl (by grind) eI trivial;have left:∀(l:Nat) (p:aR D) (w:as7),(b2.set i (.dead:aR D))[l]? =as4 p->vs[l]? =as4 w->p.live=as5->b2[l]? =as4 p/\l≠i:=by
       intro l p w ax hw aL;rw[atQ] at ax;split at ax
       ·split at ax
        ·cases ax;cases aL
        grind
       grind
      generalize oo:xB cv e.next (fk (a6 fr x)) 0 mz.length (fk bH)=hU;have TH:∀b,(∀n j L t,cv b≠ .lock n j L t)->hU b=cv b:=fun b bJ=>by rw[<-oo];grind [Ym]
      have hle:eM cv hU:=fun b bd=>TH b fun n j L t bJ=>by rw[bJ] at bd;exact bd
      have kP:∀b,cv b= .dead->hU b= .dead:=fun b aQ=>by grind
      have Nx:dt e.next cv hU:=⟨hle,fun b bS=>by
       cases a4:cv b with
       |lock n j L t=>rw[<-oo,rH a4,if_neg (by omega),if_neg (by omega)]
       |_=>grind⟩
      have eR:dp hU e m' k:=⟨fun b ag=>by
       cases a4:cv b with
       |lock n j L t=>
        have aN:=eI.bi b (by grind);rw[a4] at aN;rw[<-oo,rH a4];split
        ·exact aN
        grind
       |_=>
        have ao:=TH b (fun n j L t bJ=>by rw[a4] at bJ;cases bJ);rw[ao] at ag⊢;exact eI.bi b ag,eI.dead,eI.l8,eI.next,eI.kept⟩
      have xF:=Ly.ZO hle eR kP fun l p w ax hw aL b bZ L dZ og=>by
       obtain ⟨U,aa⟩:=left l p w ax hw aL;have ne:fk w≠0->fk w≠fk (a6 fr x):=by
        intro jE;have fg:=rZ.e3 l i _ _ _ _ aa U pR aL rfl hw pY
        grind [O1,gE,GB]
       rw[<-oo,rH og,og,if_neg fun bJ=>ne bJ.2.1 bJ.2.2,if_neg fun bJ=>bJ.2.1 bJ.2.2]
      have lR:gz X.G hU e m' k (vs++[bH]) (.nest bt t1 up (mz++att n.toNat []) as6 as9:aR D) bH:=by
       refine ⟨xd,_,bs.iF hle (fun b ag=>kP b (bs.bs.lt b ag).2▸((bs.bs.lt b ag).2).symm),by rw[aua,aua,iN.len,avD,avD],fun l w xs aU aO _=> ?_,fun p aL=>by grind⟩;by_cases ax:l<mz.length
       ·rw[atN (by rw[iN.len];grind)] at aU;rw[atN ax] at aO;rcases iN.mP l w xs aU aO (fun p aL=>by grind) with bJ|⟨b,f0,L,c,dn,dz,dX,eE,qa,pe⟩
        ·exact .inl bJ
        ·have bg:=Pa iN.bs (fun bJ=>by grind);refine .inr ⟨b,f0,L,c,dn,by rw[<-oo,rH dz,if_pos ⟨dX,bg,rfl⟩],dX,eE,qa,fun i x aj=> ?_⟩;obtain ⟨cs,kW,lu⟩:=pe i x aj;exact ⟨cs,(X.G.T t1).mono _ _ hle _ _ kW,lu⟩
       ·rw[atM (by rw[iN.len];omega)] at aU;rw[atM (by omega)] at aO;have U:=at3 aU;have aa:=at3 aO;exact .inl ⟨List.eq_of_mem_replicate U,List.eq_of_mem_replicate aa⟩
      have Lz:=xF.NW lR fun _ l p w ax aL hw=>by
       obtain ⟨U,aa⟩:=left l p w ax hw aL;rw[jF];refine fg _ (fun b ag=>((rZ.obj l p w U hw).lt aL b ag).1) ?_;have:=rZ.e3 l i _ _ _ _ aa U pR aL rfl hw pY
       grind
      have acW:(b2.set i (.dead:aR D)).length=b2.length:=by simp
      refine ⟨hU,vs++[bH],_,_,i1.trans ((Inv.set b2 i (.inl rfl)).trans (Inv.push _ _)),J.trans Nx,iS,Lz, ?_,h⟩;have:=mY xF bs.bs.len
      grind
     grind
    grind
   grind
  grind
 grind
theorem ahF {i:Nat} {b:aV D} (an:o.op= .call {callee:= .builtin .append,args:=#[x,y],argTypes:=#[t,u]}) (aw:bC X.G O z e m k vs) (aY:rel X.G z vs (.c (.own i)) (a6 fr x)) (ag:rel X.G z vs b (a6 fr y)) (h:Pk X t u i b O K=as4 r):cd P (a6 fr) o m fun _ v m'=>dj X O z e k vs K r v m':=by
 unfold Pk at h;split at h
 ·rename_i gV asS au hu;split at h
  ·rename_i j;split at h
   ·grind
   ·rename_i gP;have gP:i≠j:=fun bJ=>gP (by simp_all);split at h
    ·rename_i b2 MO;split at h
     ·rename_i dK acH;split at h
      ·rename_i bt t1 up mz dk e2 t2 aqJ Cv g2 pR MD;split at h
       ·rename_i ei ap;split at h
        ·rename_i ek;subst ek;split at h
         ·rename_i he;obtain ⟨rfl,rfl⟩:=he;obtain ⟨q,bb,h⟩:=bind_some h;have bb:cl mz Cv=as4 q:=bb;obtain ⟨cv,i1,J,rZ⟩:=y3 aw MO;obtain ⟨cT,i2,al,M2⟩:=y3 rZ acH;obtain ⟨lP,rfl⟩:=rn bb;have pY:=aY.1;have o5:=ag.1;obtain ⟨xd,xe,iN⟩:=M2.obj i _ _ pR pY;obtain ⟨_,Qs,mS⟩:=M2.obj j _ _ MD o5;have Nl:cl xe Qs=as4 (xe++Qs):=by
           unfold cl;rw[iN.len,mS.len,if_pos lP]
          refine FP (T:=pG e2) an au ei.aj ei.a4 rfl (by rw[ei.U];rfl) (by rw[ei.U];rfl) rfl ei.gO (.inl ⟨_,hu⟩) rfl iN.bs rfl mS.bs.bs.src M2.aM Nl fun bH m' eI bs fL fg=> ?_;have T8:dy (a6 fr x)=cY (a6 fr x):=gE (by obtain ⟨a,c,bJ⟩:=iN.bs.bs.len;grind);have MF:dy (a6 fr y)=cY (a6 fr y):=gE (by obtain ⟨a,c,bJ⟩:=mS.bs.bs.len;grind);have jF:dy bH=cY bH:=gE (by obtain ⟨a,c,rfl⟩:=bs.bs.len;grind);have acg:=M2.e3 i j _ _ _ _ gP pR MD rfl rfl pY o5;rw[T8,MF] at acg;have Ly:=M2.mw (o':= .dead) pR pY rfl (by grind) eI trivial;have ab8:(dK.set i (.dead:aR D))[j]? =as4 (.nest e2 t2 aqJ Cv as6 g2):=by grind
          have ZX:=Ly.mw (m':=m') (o':= .dead) ab8 o5 rfl ⟨atk _,eI.dead,fun _ _ _=>rfl⟩ eI trivial;have left:∀(l:Nat) (p:aR D) (w:as7),((dK.set i (.dead:aR D)).set j .dead)[l]? =as4 p->vs[l]? =as4 w->p.live=as5->dK[l]? =as4 p/\l≠i/\l≠j:=by
           intro l p w ax hw aL;rw[atQ] at ax;split at ax
           ·split at ax
            ·cases ax;cases aL
            grind
           ·rename_i U;rw[atQ] at ax;split at ax
            ·split at ax
             ·cases ax;cases aL
             grind
            grind
          generalize oo:xB cT e.next (fk (a6 fr x)) (fk (a6 fr y)) mz.length (fk bH)=hU;have bt:∀b,(∀n j L t,cT b≠ .lock n j L t)->hU b=cT b:=fun b bJ=>by rw[<-oo];grind [Ym]
          have hle:eM cT hU:=fun b bd=>bt b fun n j L t bJ=>by rw[bJ] at bd;exact bd
          have kP:∀b,cT b= .dead->hU b= .dead:=fun b aQ=>by grind
          have Nx:dt e.next cT hU:=⟨hle,fun b bS=>by
           cases a4:cT b with
           |lock n j L t=>rw[<-oo,rH a4,if_neg (by omega),if_neg (by omega)]
           |_=>grind⟩
          have eR:dp hU e m' k:=⟨fun b ag=>by
           cases a4:cT b with
           |lock n j L t=>
            have aN:=eI.bi b (by grind);rw[a4] at aN;rw[<-oo,rH a4];split
            ·exact aN
            ·split
             ·exact aN
             grind
           |_=>
            have ao:=bt b (fun n j L t bJ=>by rw[a4] at bJ;cases bJ);rw[ao] at ag⊢;exact eI.bi b ag,eI.dead,eI.l8,eI.next,eI.kept⟩
          have xF:=ZX.ZO hle eR kP fun l p w ax hw aL b bZ L dZ og=>by
           obtain ⟨U,aa,ao⟩:=left l p w ax hw aL;have ne:∀{bR:as7} {wa:Nat} {sD:aR D},l≠wa->dK[wa]? =as4 sD->sD.live=as5->vs[wa]? =as4 bR->(∀r,bR≠ .map r)->fk w≠0->fk w≠fk bR:=by
            intro bR wa sD ep aN bI eg g7 jE;have fg:=M2.e3 l wa _ _ _ _ ep U aN aL bI hw eg;by_cases UO:∃r,w= .map r
            ·obtain ⟨r,rfl⟩:=UO;exact absurd O1 jE
            ·rw[gE (fun r aF=>UO ⟨r,aF⟩),gE g7] at fg
             grind [GB]
           have bx:∀r,a6 fr x≠ .map r:=by obtain ⟨a,c,bJ⟩:=iN.bs.bs.len;grind
           have p6:∀r,a6 fr y≠ .map r:=by obtain ⟨a,c,bJ⟩:=mS.bs.bs.len;grind
           rw[<-oo,rH og,og,if_neg fun bJ=>ne aa pR rfl pY bx bJ.2.1 bJ.2.2,if_neg fun bJ=>ne ao MD rfl o5 p6 bJ.2.1 bJ.2.2]
          have lR:gz X.G hU e m' k (vs++[bH]) (.nest e2 t2 up (mz++Cv) as6 as9:aR D) bH:=by
           refine ⟨xd,xe++Qs,bs.iF hle (fun b ag=>kP b (bs.bs.lt b ag).2▸((bs.bs.lt b ag).2).symm),by rw[aua,aua,iN.len,mS.len],fun l w xs aU aO _=> ?_,fun p aL=>by grind⟩;by_cases ax:l<mz.length
           ·rw[atN (by rw[iN.len];grind)] at aU;rw[atN ax] at aO;rcases iN.mP l w xs aU aO (fun p aL=>by grind) with bJ|⟨b,f0,L,c,dn,dz,dX,eE,qa,pe⟩
            ·exact .inl bJ
            ·have bg:=Pa iN.bs (fun bJ=>by grind);refine .inr ⟨b,f0,L,c,dn,by rw[<-oo,rH dz,if_pos ⟨dX,bg,rfl⟩],dX,eE,qa,fun i x aj=> ?_⟩;obtain ⟨cs,kW,lu⟩:=pe i x aj;exact ⟨cs,(X.G.T t2).mono _ _ hle _ _ kW,lu⟩
           ·rw[atM (by rw[iN.len];omega),iN.len] at aU;rw[atM (by omega)] at aO;rcases mS.mP (l - mz.length) w xs aU aO (fun p aL=>by grind) with bJ|⟨b,f0,L,c,dn,dz,dX,eE,qa,pe⟩
            ·exact .inl bJ
            ·have bg:=Pa mS.bs (fun bJ=>by grind);have ep:fk (a6 fr y)≠fk (a6 fr x):=by
              grind [GB]
             refine .inr ⟨b,f0,L,c,dn,by rw[<-oo,rH dz,if_neg (fun bJ=>ep bJ.2.2),if_pos ⟨dX,bg,rfl⟩,show mz.length+(l - mz.length)=l by omega],dX,eE,qa,fun i x aj=> ?_⟩;obtain ⟨cs,kW,lu⟩:=pe i x aj;exact ⟨cs,(X.G.T t2).mono _ _ hle _ _ kW,lu⟩
          have Lz:=xF.NW lR fun _ l p w ax aL hw=>by
           obtain ⟨U,aa,ao⟩:=left l p w ax hw aL;rw[jF];refine fg _ (fun b ag=>((M2.obj l p w U hw).lt aL b ag).1) ?_;have:=M2.e3 l i _ _ _ _ aa U pR aL rfl hw pY
           grind
          have acW:((dK.set i (.dead:aR D)).set j .dead).length=dK.length:=by simp
          refine ⟨hU,vs++[bH],_,_,(i1.trans i2).trans ((Inv.set dK i (.inl rfl)).trans ((Inv.set _ j (.inl rfl)).trans (Inv.push _ _))),(J.trans al).trans Nx,iS,Lz, ?_,h⟩;have:=mY xF bs.bs.len
          grind
         grind
        grind
       grind
      grind
     grind
    grind
  grind
 grind
end
end Go.ay
end
