import Derived.MapKept
import Derived.Laws.StructEq
import Derived.Below
import Derived.Deep.Slices
import Derived.Test.YtfmpkhcaifbonaaGreatDoorMa
set_option linter.unusedSimpArgs false
set_option linter.unusedVariables false
open Array renaming ext'->awM,getElem?_eq_some_iff->awB,toList_map->awD
open Bool renaming and_eq_true->avk,false->ava,true->au7
open Go renaming IntKind->avb,Operand->avf,Program->avd,TypeId->ave,Value->au9
open Go.DataW renaming trod->av8
open Go.MapKept renaming IsKey->axt
open Go.Program renaming cellsOf->awg
open Go.Region renaming before->avK
open Go.Result renaming andThen_ok->avB
open Go.Sem renaming run_bind->avH
open Go.Value renaming cells->aw2,int->awn,okWide->axf,slice->avS
open Go.World renaming block_lt_of_cell?->axh
open Int renaming eq_ofNat_of_zero_le->aws,le_trans->axB,toNat_natCast->av'
open List renaming all_cons->av0,all_eq_true->avt,eq_nil_of_length_eq_zero->awd,ext_getElem?->aww,flatten_cons->axl,getElem?_append->axn,getElem?_append_left->avP,getElem?_append_right->avO,getElem?_eq_getElem->avV,getElem?_eq_some_iff->avr,getElem?_map->awb,getElem?_set->avU,length_append->awa,length_drop->aw4,length_replicate->axC,length_set->awt,map_cons->awe,mem_map->avy,mem_of_getElem?->av4,range->avQ,replicate->avw,replicate_succ->axP
open Nat renaming add_assoc->avZ,add_mul->avL,beq->avj,ble->avp,blt->avA,le_of_ble_eq_true->avq,le_refl->avm,le_succ->avJ,le_trans->avz,lt_of_lt_of_le->avx,mul_le_mul->axr,mul_le_mul_right->awc,zero_add->avD
open Option renaming bind->au',getD_some->axq,isSome->axs,some->avl,none->au8,some->au6
open True renaming intro->avo
open UInt8 renaming ofNat->awv
section
namespace Go.av
def aD {aA:Type} (xs:List aA) (i:Int):Option aA:=if 0<=i then xs[i.toNat]? else au8
theorem nr {aA:Type} {xs:List aA} {i:Int} {x:aA} (h:aD xs i=au6 x):0<=i/\i<xs.length/\xs[i.toNat]? =au6 x:=by
 grind [aD]
def aaR (z:Nat->bo) (p:au9) (cs:List au9):Prop:=∃b o,p= .pointer (au6 ⟨b,o,au8⟩)/\mR z b o cs
def Rt (m:Mem) (p:au9) (cs:List au9):Prop:=∃b o,p= .pointer (au6 ⟨b,o,au8⟩)/\∀(i:Nat) (u:au9),cs[i]? =au6 u->m.load b (o+i)=au6 u
section
variable {P:avd} {af:avf->au9} {o:Oper} {aA:Type} {T:ct aA} {z:Nat->bo} {m:Mem} {xs:List aA} {v:au9} {x y:avf} {t e u:ave} {i:TypeInfo} {d:TypeDesc}
theorem GI {b:Nat}:∀(n off:Nat) (cs:List au9),cs.length=n->(∀(i:Nat) (u:au9),cs[i]? =au6 u->m.load b (off+i)=au6 u)->eo m b off n=au6 cs
 |0,off,cs,az,_=>by rw[awd az];rfl
 |n+1,off,c::cs,az,h=>by
  have bf:=h 0 c (by rfl);have ar:=GI n (off+1) cs (by grind) fun i u aj=>by have:=h (i+1) u (by grind);rw[show off+1+i=off+(i+1) by omega];omega
  grind [eo]
 |n+1,off,[],az,_=>by grind
theorem aic {k:avb} {n:Int} {a:aA} (h:o.op= .indexAddr t x y) (aw:P.underlying t=au6 (.slice e)) (aj:P.info? e=au6 i) (b9:i.size=T.a7) (ae:af x=v) (aI:af y= .int k n) (aC:eu T z xs v) (a5:aD xs n=au6 a):
  ∃p cs,cW P af o p/\T.rd z a cs/\aaR z p cs:=by
 obtain ⟨bf,U,aa⟩:=nr a5;rcases aC with ⟨_,rfl⟩|⟨b,off,c,rfl,_,_,aN⟩
 ·grind
 ·obtain ⟨cs,aU,aQ⟩:=aN _ a aa;exact ⟨_,cs, .indexAddr t x y e i b off _ c k n h aw aj ae aI bf U,aU,b,_,rfl,by grind⟩
def aa7 (s:Nat) (v:au9) (n:Nat) (p:au9):Prop:=∃b f0 l c,v= .slice (au6 ⟨b,f0,au8⟩) l c/\p= .pointer (au6 ⟨b,f0+n*s,au8⟩)
theorem aib {k:avb} {n:Int} {a:aA} (h:o.op= .indexAddr t x y) (aw:P.underlying t=au6 (.slice e)) (aj:P.info? e=au6 i) (b9:i.size=T.a7) (ae:af x=v) (aI:af y= .int k n) (aC:fh T z m xs v) (a5:aD xs n=au6 a):
  ∃p cs,cW P af o p/\T.rd z a cs/\Rt m p cs/\aa7 T.a7 v n.toNat p:=by
 obtain ⟨bf,U,aa⟩:=nr a5;rcases aC with ⟨_,rfl⟩|⟨b,f0,L,c,rfl,ag,_,_,az,_,aN⟩
 ·grind
 ·obtain ⟨cs,aU,aQ⟩:=aN _ a aa;refine ⟨_,cs, .indexAddr t x y e i b f0 _ c k n h aw aj ae aI bf U,aU,⟨b,_,rfl,fun j u aZ=> ?_⟩,⟨b,f0,_,c,rfl,by grind⟩⟩;simp only[Mem.load,ag,b9];exact aQ j u aZ
def ho {aA:Type} (xs:List aA) (a b:Int):Option (List aA):=if 0<=a/\a<=b/\b<=xs.length then au6 ((xs.take b.toNat).drop a.toNat) else au8
theorem FT {xs:List aA} {a b:Int} {r:List aA} (h:ho xs a b=au6 r):0<=a/\a<=b/\b<=xs.length/\r=(xs.take b.toNat).drop a.toNat:=by
 grind [ho]
def uQ (af:avf->au9) (bD:Option avf) (n:Int):Prop:=match bD with|none=>n=0|some y=>∃k,af y= .int k n
def vB (af:avf->au9) (aj:Option avf) (l:Nat) (n:Int):Prop:=match aj with|none=>n=l|some y=>∃k,af y= .int k n
theorem zN {af:avf->au9} {bD:Option avf} {n:Nat} (h:uQ af bD n):n4 af bD n:=by
 cases bD with
 |none=>grind [uQ,n4]
 |some y=>exact h
theorem zD {af:avf->au9} {aj:Option avf} {l n:Nat} (h:vB af aj l n):lO af aj l n:=by
 cases aj with
 |none=>grind [vB,lO]
 |some y=>exact h
theorem zL {xs:List aA} {a b k:Nat} {r:aA} (h:((xs.take b).drop a)[k]? =au6 r):xs[a+k]? =au6 r:=by
 grind
theorem auM {bD aj:Option avf} {a b:Int} {r:List aA} (h:o.op= .slice t x bD aj au8) (aw:P.underlying t=au6 (.slice T.tid)) (eh:P.info? T.tid=au6 i) (b9:i.size=T.a7) (ae:af x=v)
  (dZ:uQ af bD a) (dy:vB af aj xs.length b) (aC:eu T z xs v) (a4:jI z m) (aE:ho xs a b=au6 r):
  ∃bI,(cW P af o bI\/eJ P af o m bI)/\eu T z r bI:=by
 obtain ⟨bf,U,aa,rfl⟩:=FT aE;obtain ⟨a',rfl⟩:=aws bf;obtain ⟨cB,rfl⟩:=aws (axB bf U);have lB:a'<=cB:=by omega
 have k3:cB<=xs.length:=by omega
 simp only[av'];have uB:=zN dZ;have uA:=zD dy;have hlen:((xs.take cB).drop a').length=cB - a':=by grind
 rcases aC with ⟨rfl,rfl⟩|⟨hl,off,c,rfl,ri,il,kS⟩
 ·have nT:cB=0:=by grind
  subst nT;have Nk:a'=0:=by omega
  subst Nk;exact ⟨.slice au8 0 0, .inl (.kH t x bD aj T.tid i h aw eh ae uB uA), .inl ⟨rfl,by rfl⟩⟩
 ·have yR:∀o',o'=off+a'*T.a7->∀(k:Nat) (w:aA),((xs.take cB).drop a')[k]? =au6 w->∃cs,T.rd z w cs/\mR z hl (o'+k*T.a7) cs:=by
   intro o' ky k w au;obtain ⟨cs,aU,aQ⟩:=kS _ w (zL au)
   grind
  rcases il with ⟨rfl,L,cU,sM⟩|⟨ai,hle⟩
  ·refine ⟨_, .inr (.slice t x bD aj T.tid i L hl off xs.length a' cB h aw eh ae ?_ uB uA lB k3 (by grind)), ?_⟩
   ·rw[(a4.hy ri).1];grind
   ·refine .inr ⟨hl,off+a'*T.a7,cJ,by grind,ri, .inl ⟨rfl,L,cU, ?_⟩,yR _ rfl⟩;rw[hlen,avZ,<-avL];have:(a'+(cB - a'))*T.a7<=xs.length*T.a7:=awc _ (by omega);omega
  ·refine ⟨_, .inl (.slice t x bD aj T.tid i hl off xs.length c a' cB h aw eh ae (by grind) uB uA lB (by omega) (fun _=>trivial)), ?_⟩;by_cases ku:c=a'
   ·have ac5:cB - a'=0:=by omega
    refine .inr ⟨hl,off,c - a',by grind,ri, .inr ⟨by omega,by grind⟩,fun k w au=> ?_⟩
    grind
   ·refine .inr ⟨hl,off+a'*T.a7,c - a',by grind,ri, .inr ⟨by omega,by grind⟩,yR _ rfl⟩
theorem Y5 {P:avd} {C:FuncId->Array au9->Mem->au9->Mem->Prop} {b off:Nat} {L cs:List au9} (h:o.op= .store t x y) (aj:P.info? t=au6 i) (ae:af x= .pointer (au6 ⟨b,off,au8⟩)) (hm:m.aS b= .own L e) (ab:storable (af y)=au7) (ie:(af y).cells.toList=cs) (aC:cs.length=i.size) (az:off+cs.length<=L.length):
  gR P C af o m undef (m.put b (.own (e9 L off cs) e)):=by
 subst ie;exact .store t x y b off i L e h ae aj hm ab (by grind) (by grind)
theorem zt {b:Nat} {x:bo} (aO:∀b,m.next<=b->m.aS b= .dead) (ag:b<m.next):fM m (m.put b x) (au6 b):=by
 refine ⟨avm _,fun c ai=> ?_,fun c ai au=> ?_⟩
 ·grind [Mem.put]
 grind [Mem.put]
theorem zo {x:bo} (aO:∀b,m.next<=b->m.aS b= .dead):fM m (m.push x) au8:=by
 refine ⟨avJ _,fun c ai=> ?_,fun c ai _=> ?_⟩
 ·grind [Mem.push]
 grind [Mem.push]
theorem fh.same {m':Mem} {q:Option Nat} (h:fh T z m xs v) (s:fM m m' q) (fo:eE (c9 v) q):fh T z m' xs v:=
 h.frame fun b ag bS=>⟨s.aS b bS (fun bd=>fo b ag bd),avx bS s.next⟩
theorem akj {m':Mem} {q:Option Nat} {b:Nat} {X:bo} (h:m.aS b=X) (ag:b<m.next) (s:fM m m' q) (fo:q≠au6 b):m'.aS b=X/\b<m'.next:=⟨by rw[s.aS b ag fo];exact h,avx ag s.next⟩
theorem fh.store {n:Nat} {a a':aA} {cs cs':List au9} {f:Nat} {new:List au9} {b f0 l c:Nat} (aC:fh T z m xs v) (aO:∀b,m.next<=b->m.aS b= .dead) (ab:v= .slice (au6 ⟨b,f0,au8⟩) l c) (aY:xs[n]? =au6 a) (aE:T.rd z a cs) (ai:Rt m (.pointer (au6 ⟨b,f0+n*T.a7,au8⟩)) cs) (lH:T.rd z a' cs') (ie:cs'=e9 cs f new) (bb:f+new.length<=cs.length):
  ∃L,m.aS b= .own L T.tid/\f0+n*T.a7+f+new.length<=L.length/\fh T z (m.put b (.own (e9 L (f0+n*T.a7+f) new) T.tid)) (xs.set n a') v/\fM m (m.put b (.own (e9 L (f0+n*T.a7+f) new) T.tid)) (au6 b):=by
 rcases aC with ⟨rfl,_⟩|⟨cB,f1,L,bQ,qj,ag,bS,a4,az,il,kS⟩
 ·grind
 ·subst ab;simp only[avS.injEq,avl.injEq,Addr.mk.injEq,and_true] at qj;obtain ⟨⟨rfl,rfl⟩,rfl,rfl⟩:=qj;have a1:n<xs.length:=(avr.1 aY).1;have hlen:=T.len z a cs aE;have wI:=T.len z a' cs' lH;have sH:f0+n*T.a7+T.a7<=L.length:=by
   have:(n+1)*T.a7<=xs.length*T.a7:=awc _ a1
   grind
  have cU:(e9 L (f0+n*T.a7+f) new).length=L.length:=nn _ _ _;refine ⟨L,ag,by omega, .inr ⟨b,f0,e9 L (f0+n*T.a7+f) new,c,by simp,by simp[Mem.put],bS,a4,by grind,by grind,fun k w au=> ?_⟩,zt aO bS⟩;rw[avU] at au;by_cases nX:n=k
  ·subst nX;simp[a1] at au;subst au;refine ⟨cs',lH,fun q u bd=> ?_⟩;have Vp:=(avr.1 bd).1;rw[ie,oQ _ _ _ _ bb] at bd;rw[oQ _ _ _ _ (by omega)];by_cases oA:f<=q/\q<f+new.length
   ·rw[if_pos oA] at bd;rw[if_pos (by omega),show f0+n*T.a7+q - (f0+n*T.a7+f)=q - f by omega];grind
   ·rw[if_neg oA] at bd;rw[if_neg (by omega)];obtain ⟨hE,mP,aM,atH⟩:=ai
    grind [Mem.load]
  ·rw[if_neg nX] at au;obtain ⟨Ul,aU,aQ⟩:=kS k w au;refine ⟨Ul,aU,fun q u bd=> ?_⟩;have Vp:=(avr.1 bd).1;rw[T.len z w Ul aU] at Vp;rw[oQ _ _ _ _ (by omega)];have rj:¬(f0+n*T.a7+f<=f0+k*T.a7+q/\f0+k*T.a7+q<f0+n*T.a7+f+new.length):=by
    rcases Nat.lt_or_gt_of_ne nX with cu|cu
    ·have:(n+1)*T.a7<=k*T.a7:=awc _ cu
     grind
    ·have:(k+1)*T.a7<=n*T.a7:=awc _ cu
     grind
   rw[if_neg rj];exact aQ q u bd
end
end Go.av
end
section
namespace Go.av
def si:Nat:=4294967296
def ck {aA:Type} (xs b7:List aA):Option (List aA):=if xs.length+b7.length<=si then au6 (xs++b7) else au8
theorem rL {aA:Type} {xs b7 r:List aA} (h:ck xs b7=au6 r):xs.length+b7.length<=si/\r=xs++b7:=by
 grind [ck]
def iG {aA:Type} (x:aA) (n:Int):Option (List aA):=if 0<=n/\n<=4294967296 then au6 (avw n.toNat x) else au8
theorem zF {aA:Type} {x:aA} {n:Int} {r:List aA} (h:iG x n=au6 r):0<=n/\n<=4294967296/\r=avw n.toNat x:=by
 grind [iG]
def fp (n:Int):Option UInt8:=if 0<=n/\n<256 then au6 (awv n.toNat) else au8
theorem Xm {n:Int} {u:UInt8} (h:fp n=au6 u):n=u.toNat:=by
 unfold fp at h;split at h
 ·rename_i ai;cases h;simp;omega
 grind
def ub (a b:Int):Option Int:=if b=0 then au8 else au6 (a.tdiv b)
def oJ (a b:Int):Option Int:=if b=0 then au8 else au6 (a.tmod b)
theorem aiB {a b r:Int} (h:ub a b=au6 r):b≠0/\r=a.tdiv b:=by
 grind [ub]
theorem Xc {a b r:Int} (h:oJ a b=au6 r):b≠0/\r=a.tmod b:=by
 grind [oJ]
def lt {aA bO:Type} (x:aA) (f:aA->Option bO):Option bO:=f x
theorem Yg {aA bO:Type} {x:aA} {f:aA->Option bO} {r:bO} (h:lt x f=au6 r):∃y,x=y/\f y=au6 r:=⟨x,rfl,h⟩
theorem bind_some {aA bO:Type} {x:Option aA} {f:aA->Option bO} {r:bO} (h:x.bind f=au6 r):∃y,x=au6 y/\f y=au6 r:=Option.bind_eq_some_iff.1 h
def jC (t:ave):ct UInt8:=ct.flat t (fun u=> .int .u8 u.toNat) fun _=>rfl
section
variable {P:avd} {C:FuncId->Array au9->Mem->au9->Mem->Prop} {af:avf->au9} {o:Oper} {aA:Type} {T:ct aA} {z:Nat->bo} {m:Mem} {xs b7:List aA} {v w:au9} {x y:avf} {t e u:ave} {i:TypeInfo} {d:TypeDesc}
def Src (T:ct aA) (z:Nat->bo) (m:Mem) (b7:List aA) (w:au9):Prop:=hZ w=b7.length/\∃cs,ji m T.a7 w=au6 cs/\cs.length=b7.length*T.a7/\∀(i:Nat) (y:aA),b7[i]? =au6 y->∃c,T.rd z y c/\nk cs (i*T.a7) c
theorem YN {m:Mem} {b:Nat}:∀(n off:Nat) (f:Nat->au9),(∀i,i<n->m.load b (off+i)=au6 (f i))->eo m b off n=au6 ((avQ n).map f)
 |0,off,f,_=>rfl
 |n+1,off,f,h=>by
  have bf:=h 0 (by omega);have ar:=YN n (off+1) (fun i=>f (i+1)) fun i aj=>by rw[show off+1+i=off+(i+1) by omega];exact h (i+1) (by omega)
  simp_all [eo,List.range_succ_eq_map]
theorem Qb {b off c:Nat} (h:∀(i:Nat) (y:aA),b7[i]? =au6 y->∃cs,T.rd z y cs/\∀(k:Nat) (u:au9),cs[k]? =au6 u->m.load b (off+i*T.a7+k)=au6 u):Src T z m b7 (.slice (au6 ⟨b,off,au8⟩) b7.length c):=by
 have atY:∀k,k<b7.length*T.a7->∃u,m.load b (off+k)=au6 u:=by
  intro k au;have gF:0<T.a7:=by
   grind
  have bd:k / T.a7<b7.length:=Nat.div_lt_of_lt_mul (by grind);obtain ⟨cs,U,aa⟩:=h (k / T.a7) b7[k / T.a7] (by grind);have hlen:=T.len z _ cs U;have aE:k%T.a7<cs.length:=by simp_all [Nat.mod_lt]
  refine ⟨cs[k%T.a7], ?_⟩;have:=aa (k%T.a7) _ (avV aE)
  grind [Nat.div_add_mod]
 let f:Nat->au9:=fun k=>(m.load b (off+k)).getD undef
 have bb:∀k,k<b7.length*T.a7->m.load b (off+k)=au6 (f k):=fun k au=>by
  grind
 refine ⟨rfl,(avQ (b7.length*T.a7)).map f,YN _ _ _ bb,by simp,fun i y aI=> ?_⟩;obtain ⟨cs,U,aa⟩:=h i y aI;refine ⟨cs,U,fun k u au=> ?_⟩;have sJ:=(avr.1 au).1;rw[T.len z y cs U] at sJ;have NG:=(avr.1 aI).1;have bS:i*T.a7+k<b7.length*T.a7:=by
  have:(i+1)*T.a7<=b7.length*T.a7:=awc _ NG
  grind
 grind
theorem eu.src (h:eu T z b7 w) (a4:jI z m):Src T z m b7 w:=by
 rcases h with ⟨rfl,rfl⟩|⟨b,off,c,rfl,_,_,aN⟩
 ·exact ⟨rfl,[],rfl,by simp,fun i y aI=>by grind⟩
 ·exact Qb fun i y aI=>by obtain ⟨cs,aU,aQ⟩:=aN i y aI;exact ⟨cs,aU,fun k u au=>O9 a4 (aQ k u au)⟩
theorem fh.src (h:fh T z m b7 w):Src T z m b7 w:=by
 rcases h with ⟨rfl,rfl⟩|⟨b,f0,L,c,rfl,ag,_,_,_,_,aN⟩
 ·exact ⟨rfl,[],rfl,by simp,fun i y aI=>by grind⟩
 ·exact Qb fun i y aI=>by obtain ⟨cs,aU,aQ⟩:=aN i y aI;exact ⟨cs,aU,fun k u au=>by simp only[Mem.load,ag];exact aQ k u au⟩
theorem aqR {tid:ave} (s:List UInt8):Src (jC tid) z m s (str s):=by
 refine ⟨by rfl,s.map fun u=> .int .u8 u.toNat,by rfl,by simp[jC,ct.flat],fun i y aI=> ?_⟩;refine ⟨[.int .u8 y.toNat],rfl,fun k u au=> ?_⟩
 grind [jC,ct.flat]
theorem fM.kill {b:Nat} {X:bo} (aO:∀b,m.next<=b->m.aS b= .dead) (ag:b<m.next):fM m ((m.put b .dead).push X) (au6 b):=by
 have U:=zt (m:=m) (x:= .dead) aO ag;refine ⟨avJ _,fun c ai=> ?_,fun c ai au=> ?_⟩
 ·have e:((m.put b .dead).push X).aS c=if c=m.next then X else (if c=b then .dead else m.aS c):=rfl
  have ai:m.next+1<=c:=ai
  grind
 ·have e:((m.put b .dead).push X).aS c=if c=m.next then X else (if c=b then .dead else m.aS c):=rfl
  grind
theorem XM {cs:List au9} (h:o.op= .call {callee:= .builtin .append,args:=#[x,y],argTypes:=#[t,u]}) (aw:P.underlying t=au6 (.slice T.tid)) (aj:P.info? T.tid=au6 i) {cR:au9} (g1:i.zero=au6 cR) (db:cR.cells.toList.all cP=au7) (dV:cR.cells.size=i.size)
  (b9:i.size=T.a7) (gF:0<T.a7) (No:(xs.length+b7.length)*i.bytes<=140737488355328) (mh:xs.length+b7.length<=140737488355328) (ae:af x=v) (aC:fh T z m xs v) (dY:qV P m u i (af y) b7.length cs) (nW:cs.length=b7.length*T.a7) (et:∀(i:Nat) (y:aA),b7[i]? =au6 y->∃c,T.rd z y c/\nk cs (i*T.a7) c)
  (a4:jI z m) (aO:∀b,m.next<=b->m.aS b= .dead):
  ∃bI m',gR P C af o m bI m'/\fh T z m' (xs++b7) bI/\fM m m' (c9 v)/\∀b,c9 bI=au6 b->c9 v=au6 b\/m.next<=b:=by
 have wB:=No;have Vj:xs.length+b7.length<9223372036854775807:=by omega
 have wD:cs.length=b7.length*i.size:=by grind
 have pn:z m.next= .dead:=by
  cases qp:z m.next with
  |dead=>rfl
  |ro rd=>have:=(a4 m.next (by grind)).2;omega
  |own L t=>have:=(a4 m.next (by grind)).2;omega
  |map L t=>have:=(a4 m.next (by grind)).2;omega
  |lock _ _ _ _=>have:=(a4 m.next (by grind)).2;omega
 have join:∀(dN:List au9),dN.length=xs.length*T.a7->(∀(i:Nat) (x:aA),xs[i]? =au6 x->∃c,T.rd z x c/\nk dN (i*T.a7) c)->
   ∀(i:Nat) (x:aA),(xs++b7)[i]? =au6 x->∃c,T.rd z x c/\nk (dN++cs) (i*T.a7) c:=by
  intro dN k7 ao i a aY;rw[axn] at aY;split at aY
  ·rename_i bS;obtain ⟨c,aU,aQ⟩:=ao i a aY;refine ⟨c,aU,fun k q au=> ?_⟩;have:=aQ k q au
   grind
  ·rename_i gU;obtain ⟨c,aU,aQ⟩:=et _ a aY;refine ⟨c,aU,fun k q au=> ?_⟩;have:=aQ k q au;have U:i*T.a7=dN.length+(i - xs.length)*T.a7:=by
    rw[k7,<-avL];grind
   grind
 rcases aC with ⟨rfl,rfl⟩|⟨b,f0,L,c,rfl,ag,bS,afk,az,il,aeV⟩
 ·by_cases rz:b7.length=0
  ·have adK:cs=[]:=awd (by grind);have afi:b7=[]:=awd rz;subst afi;subst adK;refine ⟨af x,m, .su x y t u T.tid i au8 0 0 h aw aj ae (by simp[cJ]) (avm _) dY, ?_,⟨avm _,aO,fun _ _ _=>rfl⟩, ?_⟩
   ·rw[ae];exact .inl ⟨rfl,rfl⟩
   grind
  ·refine ⟨_,_, .p5 x y t u T.tid i cR au8 0 0 b7.length [] cs h aw aj g1 db dV (by grind) ae (by omega) (by rw[ae];rfl) (by simp) dY wD (by grind) (by grind), ?_,zo aO, ?_⟩
   ·refine .inr ⟨m.next,0,cs,cJ,by simp,by simp[Mem.push],by simp[Mem.push],pn,by grind, .inl rfl, ?_⟩
    grind
   ·intro b ag;cases ag;grind
 ·have aeW:∀(i:Nat) (x:aA),xs[i]? =au6 x->∃c,T.rd z x c/\nk ((L.drop f0).take (xs.length*T.a7)) (i*T.a7) c:=by
   intro k a aY;obtain ⟨c,aU,aQ⟩:=aeV k a aY;refine ⟨c,aU,fun q iJ bd=> ?_⟩;have y2:=(avr.1 bd).1;rw[T.len z a c aU] at y2;have sJ:=(avr.1 aY).1;have:(k+1)*T.a7<=xs.length*T.a7:=awc _ sJ;rw[avL,Nat.one_mul] at this;rw[List.getElem?_take,if_pos (by omega),List.getElem?_drop,<-avZ];exact aQ q iJ bd
  have sQ:((L.drop f0).take (xs.length*T.a7)).length=xs.length*T.a7:=by grind
  rcases il with rfl|⟨mI,qe,pg⟩
  ·refine ⟨_,_, .append x y t u T.tid i cR b f0 xs.length b7.length L cs h aw aj g1 db dV (by grind) ae ag (by grind) dY wD wB Vj, ?_,fM.kill aO bS, ?_⟩
   ·refine .inr ⟨m.next,0,(L.drop f0).take (xs.length*T.a7)++cs,cJ,by simp,by grind [Mem.push,Mem.put],by simp[Mem.push,Mem.put],pn, ?_, .inl rfl, ?_⟩
    ·grind [avL]
    grind
   ·intro cB ek;cases ek;grind
  ·by_cases sH:xs.length+b7.length<=c
   ·have EH:f0+(xs.length+b7.length)*i.size<=L.length:=by
     rw[b9];exact avz (Nat.add_le_add_left (awc _ sH) _) pg
    refine ⟨_,_, .tX x y t u T.tid i b f0 xs.length c b7.length L cs h aw aj ae (by grind) sH ag dY wD EH, ?_,zt aO bS,fun cB ek=> .inl ek⟩;have E3:(e9 L (f0+xs.length*i.size) cs).length=L.length:=nn _ _ _;refine .inr ⟨b,f0,e9 L (f0+xs.length*i.size) cs,c,by simp,by simp[Mem.put],bS,afk, ?_, .inr ⟨mI, ?_, ?_⟩, ?_⟩
    ·simp_all
    ·grind
    ·grind
    ·intro k a aY;obtain ⟨bQ,aU,aQ⟩:=join _ sQ aeW k a aY;refine ⟨bQ,aU,fun q iJ bd=> ?_⟩;have:=aQ q iJ bd;have aeh:=(avr.1 this).1;rw[awa,sQ,nW] at aeh;rw[b9,avL] at EH;rw[b9,oQ _ _ _ _ (by grind)];rw[axn,sQ] at this;split at this
     ·grind
     ·rw[if_pos (by omega),show f0+k*T.a7+q - (f0+xs.length*T.a7)=k*T.a7+q - xs.length*T.a7 by omega]
      grind
   ·have adR:ji m i.size (af x)=au6 ((L.drop f0).take (xs.length*T.a7)):=by
     grind [ji,GI,Mem.load]
    refine ⟨_,_, .p5 x y t u T.tid i cR _ xs.length c b7.length ((L.drop f0).take (xs.length*T.a7)) cs h aw aj g1 db dV (by grind) ae (by omega) adR (by grind) dY wD wB Vj, ?_, ?_, ?_⟩
    ·refine .inr ⟨m.next,0,(L.drop f0).take (xs.length*T.a7)++cs,cJ,by simp,by simp[Mem.push],by simp[Mem.push],pn, ?_, .inl rfl,by grind⟩
     grind [avL]
    ·have:=zo (m:=m) (x:= .own ((L.drop f0).take (xs.length*T.a7)++cs) T.tid) aO;exact ⟨this.next,this.dead,fun c ai _=>this.aS c ai (by simp)⟩
    ·intro cB ek;cases ek;grind
theorem aj' (h:o.op= .call {callee:= .builtin .append,args:=#[x,y],argTypes:=#[t,u]}) (aw:P.underlying t=au6 (.slice T.tid)) (aj:P.info? T.tid=au6 i) {cR:au9} (g1:i.zero=au6 cR) (db:cR.cells.toList.all cP=au7) (dV:cR.cells.size=i.size)
  (b9:i.size=T.a7) (gF:0<T.a7) (No:(xs.length+b7.length)*i.bytes<=140737488355328) (mh:xs.length+b7.length<=140737488355328) (hu:(∃b2,P.underlying u=au6 (.slice b2))\/P.underlying u=au6 .string) (ae:af x=v) (aC:fh T z m xs v) (aI:af y=w) (lI:Src T z m b7 w)
  (a4:jI z m) (aO:∀b,m.next<=b->m.aS b= .dead):
  ∃bI m',gR P C af o m bI m'/\fh T z m' (xs++b7) bI/\fM m m' (c9 v)/\∀b,c9 bI=au6 b->c9 v=au6 b\/m.next<=b:=by
 obtain ⟨hlen,cs,kS,nW,et⟩:=lI;exact XM h aw aj g1 db dV b9 gF No mh ae aC (.el hu (by grind) (by grind)) nW et a4 aO
theorem aga {x0:aA} {cR:au9} (et:T.rd z x0 cR.cells.toList) (c:Nat):(avw c cR.cells.toList).flatten.length=(avw c x0).length*T.a7/\
  ∀(i:Nat) (y:aA),(avw c x0)[i]? =au6 y->∃d,T.rd z y d/\nk (avw c cR.cells.toList).flatten (i*T.a7) d:=by
 have hlen:cR.cells.toList.length=T.a7:=T.len z x0 _ et;refine ⟨by simp_all,fun j a aY=> ?_⟩;have aZ:=(avr.1 aY).1;have Nl:a=x0:=by grind
 subst Nl;refine ⟨_,et,fun q u bd=> ?_⟩;have y2:=(avr.1 bd).1;rw[hlen] at y2;have key:∀(c j:Nat),j<c->((avw c cR.cells.toList).flatten)[j*T.a7+q]? =cR.cells.toList[q]? :=by
  intro c;induction c with
  |zero=>grind
  |succ c ar=>
   intro j aZ;rw[axP,axl];cases j with
   |zero=>grind
   |succ j=>
    grind
 grind
theorem aka {x0:aA} {kk k:avb} {c:Nat} (h:o.op= .call {callee:= .builtin .append,args:=#[x,y],argTypes:=#[t,u]}) (aw:P.underlying t=au6 (.slice T.tid)) (aj:P.info? T.tid=au6 i) {cR:au9} (g1:i.zero=au6 cR) (db:cR.cells.toList.all cP=au7) (dV:cR.cells.size=i.size)
  (b9:i.size=T.a7) (gF:0<T.a7) (gY:i.bytes<=32768) (hu:P.underlying u=au6 (.int kk)) (ae:af x=v) (aC:fh T z m xs v) (aI:af y= .int k c) (et:T.rd z x0 cR.cells.toList)
  (a4:jI z m) (aO:∀b,m.next<=b->m.aS b= .dead) {r:List aA} (aE:ck xs (avw c x0)=au6 r):
  ∃bI m',gR P C af o m bI m'/\fh T z m' r bI/\fM m m' (c9 v)/\∀b,c9 bI=au6 b->c9 v=au6 b\/m.next<=b:=by
 obtain ⟨mh,rfl⟩:=rL aE;simp only[si,axC] at mh;have U:(xs.length+c)*i.bytes<=4294967296*32768:=axr mh gY;have aa:c*i.bytes<=4294967296*32768:=axr (by omega) gY;obtain ⟨aU,aQ⟩:=aga (T:=T) (z:=z) et c;exact XM h aw aj g1 db dV b9 gF (by grind) (by grind) ae aC
  (.mk kk k cR hu (by grind) g1 db dV (by omega) (by grind) (by grind) (by grind)) aU aQ a4 aO
theorem alk (h:o.op= .call {callee:= .builtin .append,args:=#[x,y],argTypes:=#[t,u]}) (aw:P.underlying t=au6 (.slice T.tid)) (aj:P.info? T.tid=au6 i) {cR:au9} (g1:i.zero=au6 cR) (db:cR.cells.toList.all cP=au7) (dV:cR.cells.size=i.size)
  (b9:i.size=T.a7) (gF:0<T.a7) (gY:i.bytes<=32768) (hu:(∃b2,P.underlying u=au6 (.slice b2))\/P.underlying u=au6 .string) (ae:af x=v) (aC:fh T z m xs v) (aI:af y=w) (lI:Src T z m b7 w)
  (a4:jI z m) (aO:∀b,m.next<=b->m.aS b= .dead) {r:List aA} (aE:ck xs b7=au6 r):
  ∃bI m',gR P C af o m bI m'/\fh T z m' r bI/\fM m m' (c9 v)/\∀b,c9 bI=au6 b->c9 v=au6 b\/m.next<=b:=by
 obtain ⟨mh,rfl⟩:=rL aE;simp only[si] at mh;have:(xs.length+b7.length)*i.bytes<=4294967296*32768:=axr mh gY;exact aj' h aw aj g1 db dV b9 gF (by omega) (by omega) hu ae aC aI lI a4 aO
theorem agb {x0:aA} {k cM:avb} {n n':Int} (h:o.op= .makeSlice t x y) (aw:P.underlying t=au6 (.slice T.tid)) (aj:P.info? T.tid=au6 i) {cR:au9} (g1:i.zero=au6 cR) (db:cR.cells.toList.all cP=au7) (dV:cR.cells.size=i.size) (b9:i.size=T.a7) (gY:i.bytes<=32768)
  (et:T.rd z x0 cR.cells.toList) (ae:af x= .int k n) (aI:af y= .int cM n) (a4:jI z m) {r:List aA} (aE:iG x0 n=au6 r):
  ∃L v,iy P af o m.next (.own L T.tid) v/\fh T z (m.push (.own L T.tid)) r v/\c9 v=au6 m.next:=by
 obtain ⟨bf,U,rfl⟩:=zF aE;obtain ⟨c,rfl⟩:=aws bf;have pn:z m.next= .dead:=by
  cases qp:z m.next with
  |dead=>rfl
  |ro rd=>have:=(a4 m.next (by grind)).2;omega
  |own L t=>have:=(a4 m.next (by grind)).2;omega
  |map L t=>have:=(a4 m.next (by grind)).2;omega
  |lock _ _ _ _=>have:=(a4 m.next (by grind)).2;omega
 have hlen:cR.cells.toList.length=T.a7:=by grind
 have uv:(avw c cR.cells.toList).flatten.length=c*T.a7:=by simp_all
 refine ⟨_,_, .makeSlice t x y c c k cM T.tid i cR h aw aj g1 db dV ae aI (avm _) ?_ (by omega), ?_,rfl⟩
 ·have:i.bytes*c<=32768*4294967296:=axr gY (by omega);omega
 ·simp only[av'];refine fh.yq ⟨m.next,(avw c cR.cells.toList).flatten,c,by simp,by simp[Mem.push],by simp[Mem.push],pn,by grind, .inr ⟨by grind [cJ],by simp,by grind⟩,fun j a aY=> ?_⟩;have aZ:=(avr.1 aY).1;have Nl:a=x0:=by grind
  subst Nl;refine ⟨_,et,fun q u bd=> ?_⟩;have y2:=(avr.1 bd).1;rw[hlen] at y2;have key:∀(c j:Nat),j<c->((avw c cR.cells.toList).flatten)[j*T.a7+q]? =cR.cells.toList[q]? :=by
   intro c;induction c with
   |zero=>grind
   |succ c ar=>
    intro j aZ;rw[axP,axl];cases j with
    |zero=>grind
    |succ j=>
     grind
  grind
def u5 (T:ct aA) (z:Nat->bo) (af:avf->au9):List (Nat×avf)->Nat->List aA->List (List au9)->Prop|[],_,[],[]=>True|(k,x)::cn,n,a::as,c::cs=>k=n/\storable (af x)=au7/\(af x).cells.toList=c/\T.rd z a c/\u5 T z af cn (n+1) as cs|_,_,_,_=>False
theorem XI:∀(new A B D:List au9),new.length=B.length->e9 (A++B++D) A.length new=A++new++D
 |[],A,B,D,h=>by grind [e9]
 |v::new,A,b::B,D,h=>by
  have e:(A++(b::B)++D).set A.length v=(A++[v])++B++D:=by simp
  simp only[e9,e];have:=XI new (A++[v]) B D (by grind)
  grind
 |_::_,A,[],D,h=>by grind
theorem WD:∀(cn:List (Nat×avf)) (n:Nat) (as:List aA) (iO:List (List au9)) (A D:List au9),u5 T z af cn n as iO->A.length=n*T.a7->D.length=as.length*T.a7->
  jm (fun k=>au6 (k*T.a7,T.a7)) (A++D) (cn.map fun p=>(p.1,af p.2))=au6 (A++iO.flatten)
 |[],n,[],[],A,D,_,_,Nf=>by simp_all [jm]
 |(k,x)::cn,n,a::as,c::iO,A,D,h,dY,Nf=>by
  obtain ⟨rfl,U,aa,ap,aN⟩:=h;have ai:=T.len z a c ap;have b9:(af x).cells.size=T.a7:=by grind
  simp only[List.length_cons,avL,Nat.one_mul] at Nf;simp only[awe,jm,U,b9,true_and,awa];rw[if_pos (by omega),aa,<-dY];have ae1:A++D=A++D.take T.a7++D.drop T.a7:=by simp_all
  rw[ae1,XI c A (D.take T.a7) (D.drop T.a7) (by grind)];rw[WD cn (k+1) as iO (A++c) (D.drop T.a7) aN (by grind) (by grind)];simp
 |[],_,_::_,_,_,_,h,_,_=>h.elim
 |[],_,[],_::_,_,_,h,_,_=>h.elim
 |_::_,_,[],_,_,_,h,_,_=>h.elim
 |_::_,_,_::_,[],_,_,h,_,_=>h.elim
theorem Xe:∀(cn:List (Nat×avf)) (n:Nat) (as:List aA) (iO:List (List au9)),u5 T z af cn n as iO->iO.flatten.length=as.length*T.a7/\∀(i:Nat) (a:aA),as[i]? =au6 a->∃c,T.rd z a c/\nk iO.flatten (i*T.a7) c
 |[],n,[],[],_=>⟨by simp,fun i a aY=>by grind⟩
 |(k,x)::cn,n,a::as,c::iO,h=>by
  obtain ⟨rfl,U,aa,ap,aN⟩:=h;have ai:=T.len z a c ap;obtain ⟨aU,aQ⟩:=Xe cn (k+1) as iO aN;refine ⟨by grind,fun i b ag=> ?_⟩;cases i with
  |zero=>
   simp at ag;subst ag;refine ⟨c,ap,fun q u bd=> ?_⟩
   grind
  |succ i=>obtain ⟨bQ,b6,cc⟩:=aQ i b (by grind);refine ⟨bQ,b6,fun q u bd=> ?_⟩;rw[axl,avL,Nat.one_mul,avO (by omega),ai,show i*T.a7+T.a7+q - T.a7=i*T.a7+q by omega];exact cc q u bd
 |[],_,_::_,_,h=>h.elim
 |[],_,[],_::_,h=>h.elim
 |_::_,_,[],_,h=>h.elim
 |_::_,_,_::_,[],h=>h.elim
theorem aqH {cn:Array (Nat×avf)} {l:Nat} {as:List aA} {iO:List (List au9)} (h:o.op= .buildSlice t l cn) (aw:P.underlying t=au6 (.slice T.tid)) (aj:P.info? T.tid=au6 i) {cR:au9} (g1:i.zero=au6 cR) (db:cR.cells.toList.all cP=au7) (dV:cR.cells.size=i.size) (b9:i.size=T.a7)
  (az:as.length=l) (sC:l*T.a7<=16777216) (sL:l<9223372036854775808) (ag:u5 T z af cn.toList 0 as iO) (a4:jI z m):
  ∃L v,iy P af o m.next (.own L T.tid) v/\fh T z (m.push (.own L T.tid)) as v/\c9 v=au6 m.next:=by
 have pn:z m.next= .dead:=by
  cases qp:z m.next with
  |dead=>rfl
  |ro rd=>have:=(a4 m.next (by grind)).2;omega
  |own L t=>have:=(a4 m.next (by grind)).2;omega
  |map L t=>have:=(a4 m.next (by grind)).2;omega
  |lock _ _ _ _=>have:=(a4 m.next (by grind)).2;omega
 have bb:=WD cn.toList 0 as iO [] (avw l cR.cells.toList).flatten ag (by simp) (by simp_all);obtain ⟨aU,aQ⟩:=Xe cn.toList 0 as iO ag;refine ⟨iO.flatten,_, .buildSlice t l cn T.tid i cR _ h aw aj g1 db dV (by grind) sL (by grind), ?_,rfl⟩;exact fh.yq ⟨m.next,iO.flatten,l,by grind,by simp[Mem.push],by simp[Mem.push],pn,by grind, .inr ⟨by grind [cJ],by omega,by grind⟩,aQ⟩
theorem aqm {s:List UInt8} {tid:ave} (h:o.op= .convert u t x) (hu:P.underlying u=au6 .string) (aw:P.underlying t=au6 (.slice tid)) (he:P.underlying tid=au6 (.int .u8)) (aj:P.info? tid=au6 i) (jE:i.size=1) (ae:af x=str s) (az:s.length<9223372036854775807) (a4:jI z m):
  ∃L v,iy P af o m.next (.own L tid) v/\fh (jC tid) z (m.push (.own L tid)) s v/\c9 v=au6 m.next:=by
 have pn:z m.next= .dead:=by
  cases qp:z m.next with
  |dead=>rfl
  |ro rd=>have:=(a4 m.next (by grind)).2;omega
  |own L t=>have:=(a4 m.next (by grind)).2;omega
  |map L t=>have:=(a4 m.next (by grind)).2;omega
  |lock _ _ _ _=>have:=(a4 m.next (by grind)).2;omega
 refine ⟨_,_, .bytes u t x tid i ⟨s.toArray⟩ h hu aw he aj jE ae (by grind [zv]), ?_,rfl⟩;refine fh.yq ⟨m.next,s.map fun u=> .int .u8 u.toNat,cJ,by rfl,by simp[Mem.push,jC,ct.flat],by simp[Mem.push],pn,by simp[jC,ct.flat], .inl rfl,fun k a aY=>⟨[.int .u8 a.toNat],rfl,fun q w bd=> ?_⟩⟩
 grind [jC,ct.flat]
theorem aar {s:List UInt8} {tid:ave} (h:o.op= .convert t u x) (aw:P.underlying t=au6 (.slice tid)) (he:P.underlying tid=au6 (.int .u8)) (hu:P.underlying u=au6 .string) (ae:af x=v) (aC:Src (jC tid) z m s v) (ab:∃a l c,v= .slice a l c):eJ P af o m (str s):=by
 obtain ⟨a,l,c,rfl⟩:=ab;obtain ⟨az,cs,kS,nW,et⟩:=aC;have ie:cs=s.map fun u=> .int .u8 u.toNat:=by
  apply aww;intro k;by_cases au:k<s.length
  ·obtain ⟨bQ,aU,aQ⟩:=et k s[k] (by grind);have aU:bQ=[.int .u8 s[k].toNat]:=aU;subst aU;have:=aQ 0 _ rfl
   grind [jC,ct.flat]
  grind [jC,ct.flat]
 subst ie;simp only[hZ] at az;subst az;cases a with
 |none=>
  simp only[ji,avl.injEq] at kS;have:s=[]:=by grind
  subst this;exact .vL t u x tid _ c h aw he hu ae
 |some a=>
  obtain ⟨b,off,spot⟩:=a;cases spot with
  |some q=>grind [ji]
  |none=>simp only[ji,jC,ct.flat,Nat.mul_one] at kS;exact .str t u x tid b off _ c s h aw he hu ae kS
end
def looks:Op->Bool| .load .. | .convert .. | .slice .. | .lookup .. =>au7|_=>ava
def qE:Op->Bool| .alloc _| .box .. | .buildSlice .. | .makeSlice .. | .convert .. | .makeMap .. =>au7|_=>ava
def calm (ops:Array Oper):Bool:=
 (avQ ops.size).all fun e=>match ops[e]? with
  |none=>au7
  |some uV=> !kF uV.op||(avQ ops.size).all fun r=>match ops[r]? with
   |none=>au7
   |some or=>(!(looks or.op)||(if r<e then fA (avK ops) e r else if e<r then fA (avK ops) r e else au7))&&(!(qE or.op)||(if r<e then fA (avK ops) e r else au7))
theorem FJ {P:avd} {af:avf->au9} {o:Oper} {m:Mem} {v:au9} (h:eJ P af o m v):looks o.op=au7:=by
 cases h<;>simp[*,looks]
theorem zl {P:avd} {af:avf->au9} {o:Oper} {n:Nat} {X:bo} {v:au9} (h:iy P af o n X v):qE o.op=au7:=by
 cases h<;>simp[*,qE]
theorem WZ {ops:Array Oper} (h:calm ops=au7) {e r:Nat} {uV or:Oper} (he:ops[e]? =au6 uV) (aE:ops[r]? =au6 or) (a0:kF uV.op=au7) (az:looks or.op=au7):(r<e->fA (avK ops) e r=au7)/\(e<r->fA (avK ops) r e=au7):=by
 grind [calm]
theorem aiK {ops:Array Oper} (h:calm ops=au7) {e r:Nat} {uV or:Oper} (he:ops[e]? =au6 uV) (aE:ops[r]? =au6 or) (a0:kF uV.op=au7) (az:qE or.op=au7) (bS:r<e):fA (avK ops) e r=au7:=by
 grind [calm]
theorem Wo {P:avd} {C:FuncId->Array au9->Mem->au9->Mem->Prop} {ops:Array Oper} (ai:calm ops=au7):∀(l pre:List Oper) (A:Acc) (fr bB:Nat->au9) (m m':Mem),ops.toList=pre++l->
  (∀x∈A.reads,∃o,ops[x.1]? =au6 o/\looks o.op=au7/\x.1<pre.length)->(∀x∈A.gm,∃o,ops[x.1]? =au6 o/\kF o.op=au7/\x.1<pre.length)->(∀x∈A.news,∃o,ops[x.1]? =au6 o/\qE o.op=au7/\x.1<pre.length)->
  jy P C ops.toList l fr m bB m'->g3 P C ops.toList (avK ops) pre.length l A fr m bB m'
 |[],pre,A,fr,bB,m,m',aM,U,aa,ap,h=>h
 |o::l,pre,A,fr,bB,m,m',aM,U,aa,ap,h=>by
  have ao:ops[pre.length]? =au6 o:=by rw[<-Array.getElem?_toList,aM];simp
  have uF:ops.toList=(pre++[o])++l:=by grind
  have hlen:(pre++[o]).length=pre.length+1:=by simp
  have up:∀{bO:Type} {p:Oper->Bool} {L:List (Nat×bO)},(∀x∈L,∃o,ops[x.1]? =au6 o/\p o=au7/\x.1<pre.length)->∀x∈L,∃o,ops[x.1]? =au6 o/\p o=au7/\x.1<pre.length+1:=fun bL x ae=>by
   grind
  have aat:=fun (A:Acc) (fr:Nat->au9) (m:Mem)=>Wo (P:=P) (C:=C) ai l (pre++[o]) A fr bB m m' uF;rw[hlen] at aat;simp only[jy] at h;simp only[g3];split at h
  ·rename_i hw;rw[if_pos hw];obtain ⟨v,bz,aC,aE⟩:=h;cases aC with
   |pure bd=>grind
   |read bd=>
    grind [FJ,WZ]
   |new bd=>
    grind [zl]
   |fb bd=>
    have ph:=OZ bd;refine .inr (.inr (.inr ⟨v,bz,bd,fun x ae aY=> ?_,fun x ae aY=> ?_,aat _ _ _ (up (p:=fun o=>looks o.op) U) ?_ (up (p:=fun o=>qE o.op) ap) aE⟩))
    ·grind [WZ]
    ·grind [aiK]
    grind
  grind
theorem W.calm {P:avd} {id:Nat} {ops:Array Oper} {Q:eY->(Nat->au9)->Mem->Prop} {fr:Nat->au9} {m:Mem} (ai:av.calm ops=au7) (h:gu P ops.toList ops.toList (Q .normal) fr m):W P (.region id ops au7) Q fr m:=by
 obtain ⟨n,bB,m',U,aa⟩:=h;refine W.draw ⟨n,bB,m', ?_,aa⟩;have:=Wo (P:=P) (C:=iA P n) ai ops.toList [] ⟨[],[],[]⟩ fr bB m m' (by rfl) (by simp) (by simp) (by simp) U
 grind
end Go.av
end
section
namespace Go.av
def sub:Code->List Nat->Code|c,[]=>c| .seq a b,0::p=>sub a p| .seq a b,_::p=>sub b p| .cond _ a b,0::p=>sub a p| .cond _ a b,_::p=>sub b p| .block _ c,_::p=>sub c p| .scope c,_::p=>sub c p| .loop c,_::p=>sub c p|c,_=>c
def hO (f:Func):Code:=f.body.getD .skip
theorem GL {fr:Nat->au9} {d:Option Tmp} {v:au9} {i:Nat} (h:d≠au6 i):set fr d v i=fr i:=by
 cases d with
 |none=>rfl
 |some t=>grind [set]
theorem OX {P:avd} {C:FuncId->Array au9->Mem->au9->Mem->Prop} {ops:List Oper} {i:Nat}:∀(l:List Oper) (fr bB:Nat->au9) (m m':Mem),(∀o∈l,o.dst≠au6 i)->jy P C ops l fr m bB m'->bB i=fr i
 |[],fr,bB,m,m',_,h=>by rw[h.1]
 |o::l,fr,bB,m,m',hw,h=>by
  have rv:∀o∈l,o.dst≠au6 i:=fun o ao=>hw o (by grind);simp only[jy] at h;split at h
  ·obtain ⟨v,bz,_,h⟩:=h;rw[OX l _ _ _ _ rv h];grind [GL]
  ·rw[OX l _ _ _ _ rv h];grind [GL]
theorem OO {P:avd} {C:FuncId->Array au9->Mem->au9->Mem->Prop} {ops:List Oper} {B:Array Nat} {i:Nat}:∀(l:List Oper) (n:Nat) (A:Acc) (fr bB:Nat->au9) (m m':Mem),(∀o∈l,o.dst≠au6 i)->g3 P C ops B n l A fr m bB m'->bB i=fr i
 |[],n,A,fr,bB,m,m',_,h=>by rw[h.1]
 |o::l,n,A,fr,bB,m,m',hw,h=>by
  have rv:∀o∈l,o.dst≠au6 i:=fun o ao=>hw o (by grind);have U:=hw o (by simp);simp only[g3] at h;split at h
  ·rcases h with ⟨v,_,h⟩|⟨v,_,_,h⟩|⟨X,v,_,h⟩|⟨v,bz,_,_,_,h⟩<;>(rw[OO l _ _ _ _ _ _ rv h];grind [GL])
  ·rw[OO l _ _ _ _ _ _ rv h];grind [GL]
theorem X2 {ops:Array Oper} {i:Nat} (h:(MP ops).contains i=ava):∀o∈ops.toList,o.dst≠au6 i:=by
 grind [MP]
theorem Wk {a b:List Nat} {i:Nat} (h:(a++b).contains i=ava):a.contains i=ava/\b.contains i=ava:=by
 grind
theorem aiS {P:avd} {C:FuncId->Array au9->Mem->au9->Mem->Prop} {i:Nat}:∀(n:Nat) (c:Code) (fr bB:Nat->au9) (m m':Mem) (e:eY),(pI c).contains i=ava->kh P C n c fr m e bB m'->bB i=fr i:=by
 intro n;induction n with
 |zero=>intro c fr bB m m' e _ h;exact h.elim
 |succ n ar=>
  intro c fr bB m m' e hw h;cases c with
  |skip=>rw[h.2.1]
  |label l=>rw[h.2.1]
  |exit id=>rw[h.2.1]
  |ret=>rw[h.2.1]
  |region id ops d=>
   cases d with
   |false=>exact OX _ _ _ _ _ (X2 hw) h.2
   |true=>exact OO _ _ _ _ _ _ _ (X2 hw) h.2
  |seq a b=>
   rcases h with ⟨bu,cX,bz,aU,aQ⟩|h
   rotate_left
   ·exact h.2.keep _ hw
   obtain ⟨U,aa⟩:=Wk hw
   grind
  |cond c a b=>
   obtain ⟨U,aa⟩:=Wk hw;obtain ⟨t,_,g⟩:=h
   grind
  |block id c=>obtain ⟨bu,g,_⟩:=h;exact ar c _ _ _ _ _ hw g
  |scope c=>exact ar c _ _ _ _ _ hw h
  |loop c=>
   obtain ⟨bu,cX,bz,aU,aQ⟩:=h;have b6:=ar c _ _ _ _ _ hw aU
   grind
  |rangeFunc f cn x y=>exact h.elim
  |goto l=>exact h.elim
  |refuse s=>exact h.elim
section
variable {P:avd} {Q ye:eY->(Nat->au9)->Mem->Prop} {fr:Nat->au9} {m:Mem}
theorem W.keep {c:Code} (h:W P c Q fr m) (bd:∀e bB m',(∀i,(pI c).contains i=ava->bB i=fr i)->Q e bB m'->ye e bB m'):W P c ye fr m:=
 let ⟨n,e,bB,m',U,aa⟩:=h
 ⟨n,e,bB,m',U,bd _ _ _ (fun _ aj=>aiS _ _ _ _ _ _ _ aj U) aa⟩
theorem W.acn {c:avf} {a b:Code} {t:Bool} (aw:a8 fr c= .bool t) (he:t=au7) (h:W P a Q fr m):W P (.cond c a b) Q fr m:=W.cond (t:=au7) (by rw[aw,he]) h
theorem W.acm {c:avf} {a b:Code} {t:Bool} (aw:a8 fr c= .bool t) (he:t=ava) (h:W P b Q fr m):W P (.cond c a b) Q fr m:=W.cond (t:=ava) (by rw[aw,he]) h
theorem oq.oB {i:Nat} (h:Q .normal fr m):oq i Q (.exit i) fr m:=by grind [oq]
theorem oq.nf {i j:Nat} (gZ:(j==i)=ava) (h:Q (.exit j) fr m):oq i Q (.exit j) fr m:=by
 grind [oq]
theorem gu.mono {ops l:List Oper} {K k1:(Nat->au9)->Mem->Prop} (h:gu P ops l K fr m) (au:∀fr m,K fr m->k1 fr m):gu P ops l k1 fr m:=
 let ⟨n,bB,m',U,aa⟩:=h;⟨n,bB,m',U,au _ _ aa⟩
end
structure dr (n:Nat) (z z':Nat->bo):Prop where
 le:eR z z'
 low:∀b,b<n->z' b=z b
theorem dr.refl {n:Nat} (z:Nat->bo):dr n z z:=⟨eR.refl z,fun _ _=>rfl⟩
theorem dr.trans {n:Nat} {a b c:Nat->bo} (h:dr n a b) (k:dr n b c):dr n a c:=⟨h.le.trans k.le,fun i aj=>by rw[k.low i aj,h.low i aj]⟩
theorem dr.yp {n n':Nat} {a b:Nat->bo} (h:dr n a b) (a1:n'<=n):dr n' a b:=⟨h.le,fun i aj=>h.low i (by omega)⟩
structure iM (z:Nat->bo) (e m:Mem) (k:Option Nat) (b:Nat) (cs:List au9) (t:ave):Prop where
 aS:m.aS b= .own cs t
 lt:b<m.next
 dead:z b= .dead
 fresh:e.next<=b\/k=au6 b
structure dM {aA:Type} (T:ct aA) (z:Nat->bo) (e m:Mem) (k:Option Nat) (xs:List aA) (v:au9):Prop where
 bt:fh T z m xs v
 fresh:∀b,c9 v=au6 b->e.next<=b
section
variable {aA:Type} {T:ct aA} {z z':Nat->bo} {e m m':Mem} {k q:Option Nat} {xs:List aA} {v:au9} {b:Nat} {cs:List au9} {t:ave}
theorem dM.same (h:dM T z e m k xs v) (s:fM m m' q) (fa:eE (c9 v) q):dM T z e m' k xs v:=⟨h.bt.same s fa,h.fresh⟩
theorem iM.same (h:iM z e m k b cs t) (s:fM m m' q) (fa:eE (au6 b) q):iM z e m' k b cs t:=by
 have:=akj h.aS h.lt s (fa b rfl);exact ⟨this.1,this.2,h.dead,h.fresh⟩
theorem dM.lt (h:dM T z e m k xs v):∀b,c9 v=au6 b->b<m.next:=fun b ag=>(h.bt.lt b ag).1
theorem dM.Fk (h:dM T z e m k xs v):∀b,c9 v=au6 b->b<m.next/\(m.aS b).mem=m.aS b:=fun b ag=>⟨h.lt b ag,by
 rcases h.bt with ⟨rfl,_⟩|⟨cB,o,L,c,rfl,U,_⟩
 ·cases ag
 ·cases ag;rw[U];rfl⟩
theorem fh.iL (h:fh T z m xs v) (a4:eR z z') (ag:∀b,c9 v=au6 b->z' b=z b):fh T z' m xs v:=by
 rcases h with h|⟨b,f0,L,c,rfl,U,aa,ap,aN,bK,ed⟩
 ·exact .inl h
 ·refine .inr ⟨b,f0,L,c,rfl,U,aa,by rw[ag b rfl];grind,aN,bK,fun i x aj=> ?_⟩;obtain ⟨cs,aU,aQ⟩:=ed i x aj;exact ⟨cs,T.mono _ _ a4 _ _ aU,aQ⟩
theorem dM.iL (h:dM T z e m k xs v) (a4:eR z z') (ag:∀b,c9 v=au6 b->z' b=z b):dM T z' e m k xs v:=⟨h.bt.iL a4 ag,h.fresh⟩
theorem iM.iL (h:iM z e m k b cs t) (ag:∀c,au6 b=au6 c->z' c=z c):iM z' e m k b cs t:=⟨h.aS,h.lt,by rw[ag b rfl];exact h.dead,h.fresh⟩
theorem dM.freeze (h:dM T z e m k xs v) (aL:dp z e m k):∃z',dr e.next z z'/\dp z' e m k/\eu T z' xs v/\∀p,eE p (c9 v)->∀b,p=au6 b->z' b=z b:=by
 refine ⟨iQ z m (c9 v),⟨z0 fun b ag=>(h.bt.lt b ag).2,fun b ag=> ?_⟩,⟨GQ aL.bl h.Fk,aL.dead,aL.mD,aL.next,aL.kept⟩,h.bt.asj,fun p aM b ag=> ?_⟩
 ·unfold iQ;rw[if_neg];intro ek;have:=h.fresh b ek;omega
 ·unfold iQ;rw[if_neg (aM b ag)]
theorem iM.bd (h:iM z e m k b cs t):∀c,au6 b=au6 c->z c= .dead/\(e.next<=c\/k=au6 c):=fun c ai=>by cases ai;exact ⟨h.dead,h.fresh⟩
theorem dM.bd (h:dM T z e m k xs v):∀c,c9 v=au6 c->z c= .dead/\(e.next<=c\/k=au6 c):=fun c ai=>⟨(h.bt.lt c ai).2, .inl (h.fresh c ai)⟩
theorem dM.nil:dM T z e m k [] (.slice au8 0 0):=⟨.nil,fun b ag=>by cases ag⟩
variable {P:avd} {C:FuncId->Array au9->Mem->au9->Mem->Prop} {af:avf->au9} {o:Oper} {w:au9} {b7:List aA} {x y:avf} {u:ave} {i:TypeInfo}
theorem alw (h:o.op= .call {callee:= .builtin .append,args:=#[x,y],argTypes:=#[t,u]}) (aw:P.underlying t=au6 (.slice T.tid)) (aj:P.info? T.tid=au6 i) {cR:au9} (g1:i.zero=au6 cR) (db:cR.cells.toList.all cP=au7) (dV:cR.cells.size=i.size)
  (b9:i.size=T.a7) (gF:0<T.a7) (gY:i.bytes<=32768) (hu:(∃b2,P.underlying u=au6 (.slice b2))\/P.underlying u=au6 .string) (ae:af x=v) (aC:dM T z e m k xs v) (aI:af y=w) (lI:Src T z m b7 w)
  (aL:dp z e m k) {r:List aA} (aE:ck xs b7=au6 r):
  ∃bI m',gR P C af o m bI m'/\dp z e m' k/\dM T z e m' k r bI/\fM m m' (c9 v)/\∀p,(∀b,p=au6 b->b<m.next)->eE p (c9 v)->eE p (c9 bI):=by
 obtain ⟨bI,m',U,aa,ap,aN⟩:=alk (C:=C) h aw aj g1 db dV b9 gF gY hu ae aC.bt aI lI aL.bl aL.dead aE;refine ⟨bI,m',U,aL.same ap aC.bd,⟨aa,fun b ag=> ?_⟩,ap,fun p aM aY b ag ek=> ?_⟩
 ·rcases aN b ag with aN|aN
  ·exact aC.fresh b aN
  ·have:=aL.next;omega
 ·rcases aN b ek with aN|aN
  ·exact aY b ag aN
  grind
theorem EB {L:List au9} {bI:au9} {b7:List aA} (aL:dp z e m k) (h:fh T z (m.push (.own L t)) b7 bI) (ag:c9 bI=au6 m.next):
  dp z e (m.push (.own L t)) k/\dM T z e (m.push (.own L t)) k b7 bI/\fM m (m.push (.own L t)) au8/\∀p,(∀b,p=au6 b->b<m.next)->eE p (c9 bI):=
 ⟨aL.push _,⟨h,fun b ek=>by rw[ag] at ek;cases ek;exact aL.next⟩,zo aL.dead,fun p aM b ek yK=>by grind⟩
theorem af0 {x0:aA} {b6 cc:avb} {n:Int} (h:o.op= .makeSlice t x y) (aw:P.underlying t=au6 (.slice T.tid)) (aj:P.info? T.tid=au6 i) {cR:au9} (g1:i.zero=au6 cR) (db:cR.cells.toList.all cP=au7) (dV:cR.cells.size=i.size) (b9:i.size=T.a7) (gY:i.bytes<=32768)
  (et:T.rd z x0 cR.cells.toList) (ae:af x= .int b6 n) (aI:af y= .int cc n) (aL:dp z e m k) {r:List aA} (aE:iG x0 n=au6 r):
  ∃bI m' L ec,iy P af o m.next (.own L ec) bI/\m'=m.push (.own L ec)/\dp z e m' k/\dM T z e m' k r bI/\fM m m' au8/\∀p,(∀b,p=au6 b->b<m.next)->eE p (c9 bI):=by
 obtain ⟨L,bI,U,aa,ap⟩:=agb (n':=n) h aw aj g1 db dV b9 gY et ae aI aL.bl aE
 grind [EB]
theorem aqx {cn:Array (Nat×avf)} {l:Nat} {as:List aA} {iO:List (List au9)} (h:o.op= .buildSlice t l cn) (aw:P.underlying t=au6 (.slice T.tid)) (aj:P.info? T.tid=au6 i) {cR:au9} (g1:i.zero=au6 cR) (db:cR.cells.toList.all cP=au7) (dV:cR.cells.size=i.size) (b9:i.size=T.a7)
  (az:as.length=l) (sC:l*T.a7<=16777216) (sL:l<9223372036854775808) (ag:u5 T z af cn.toList 0 as iO) (aL:dp z e m k):
  ∃bI m' L ec,iy P af o m.next (.own L ec) bI/\m'=m.push (.own L ec)/\dp z e m' k/\dM T z e m' k as bI/\fM m m' au8/\∀p,(∀b,p=au6 b->b<m.next)->eE p (c9 bI):=by
 obtain ⟨L,bI,U,aa,ap⟩:=aqH h aw aj g1 db dV b9 az sC sL ag aL.bl
 grind [EB]
theorem aqy {s:List UInt8} {tid:ave} (h:o.op= .convert u t x) (hu:P.underlying u=au6 .string) (aw:P.underlying t=au6 (.slice tid)) (he:P.underlying tid=au6 (.int .u8)) (aj:P.info? tid=au6 i) (jE:i.size=1) (ae:af x=str s) (az:s.length<9223372036854775807) (aL:dp z e m k):
  ∃bI m' L ec,iy P af o m.next (.own L ec) bI/\m'=m.push (.own L ec)/\dp z e m' k/\dM (jC tid) z e m' k s bI/\fM m m' au8/\∀p,(∀b,p=au6 b->b<m.next)->eE p (c9 bI):=by
 obtain ⟨L,bI,U,aa,ap⟩:=aqm h hu aw he aj jE ae az aL.bl
 grind [EB]
theorem P7 {L:List au9} (aL:dp z e m k):dp z e (m.push (.own L t)) k/\iM z e (m.push (.own L t)) k m.next L t/\fM m (m.push (.own L t)) au8/\∀p,(∀b,p=au6 b->b<m.next)->eE p (au6 m.next):=by
 refine ⟨aL.push _,⟨by simp[Mem.push],Nat.lt_succ_self _, ?_, .inl aL.next⟩,zo aL.dead,fun p aM b ek yK=>by grind⟩;cases qp:z m.next with
 |dead=>rfl
 |ro rd=>have:=(aL.bl m.next (by grind)).2;omega
 |own L t=>have:=(aL.bl m.next (by grind)).2;omega
 |map L t=>have:=(aL.bl m.next (by grind)).2;omega
 |lock _ _ _ _=>have:=(aL.bl m.next (by grind)).2;omega
theorem acV {off:Nat} {new cs':List au9} {g5:ave} (h:o.op= .store t x y) (aj:P.info? t=au6 i) (ae:af x= .pointer (au6 ⟨b,off,au8⟩)) (aI:af y=w) (ab:storable w=au7) (a1:w.cells.toList=new) (aC:new.length=i.size) (ag:iM z e m k b cs g5) (az:off+new.length<=cs.length) (ie:e9 cs off new=cs') (aL:dp z e m k):
  ∃m',gR P C af o m undef m'/\dp z e m' k/\iM z e m' k b cs' g5/\fM m m' (au6 b):=by
 subst aI ie;have mL:=zt (x:= .own (e9 cs off new) g5) aL.dead ag.lt;exact ⟨_,(Y5 h aj ae ag.aS ab a1 aC az),aL.same mL ag.bd,⟨by simp[Mem.put],ag.lt,ag.dead,ag.fresh⟩,mL⟩
theorem acX {off f0 n f l c:Nat} {new q8 yv:List au9} {a a':aA} (h:o.op= .store t x y) (aj:P.info? t=au6 i) (ae:af x= .pointer (au6 ⟨b,off,au8⟩)) (qi:off=f0+n*T.a7+f) (aI:af y=w) (ab:storable w=au7) (a1:w.cells.toList=new) (aC:new.length=i.size)
  (ao:dM T z e m k xs v) (ps:v= .slice (au6 ⟨b,f0,au8⟩) l c) (aY:xs[n]? =au6 a) (aE:T.rd z a q8) (ai:∀(i:Nat) (u:au9),q8[i]? =au6 u->m.load b (f0+n*T.a7+i)=au6 u) (lH:T.rd z a' yv) (ie:yv=e9 q8 f new) (bb:f+new.length<=q8.length) (aL:dp z e m k):
  ∃m',gR P C af o m undef m'/\dp z e m' k/\dM T z e m' k (xs.set n a') v/\fM m m' (c9 v):=by
 subst aI qi;obtain ⟨L,aU,aQ,bT,cT⟩:=ao.bt.store aL.dead ps aY aE ⟨b,_,rfl,ai⟩ lH ie bb;have jQ:c9 v=au6 b:=by rw[ps];rfl
 refine ⟨_,(Y5 h aj ae aU ab a1 aC aQ),aL.same cT (by rw[<-jQ];exact ao.bd),⟨bT,ao.fresh⟩,by grind⟩
theorem afZ {b6:avb} {n:Int} {a:aA} {g5:ave} (h:o.op= .indexAddr t x y) (aw:P.underlying t=au6 (.slice g5)) (aj:P.info? g5=au6 i) (b9:i.size=T.a7) (ae:af x=v) (aI:af y= .int b6 n) (aC:eu T z xs v) (a5:aD xs n=au6 a):
  ∃b off cs,cW P af o (.pointer (au6 ⟨b,off,au8⟩))/\T.rd z a cs/\mR z b off cs:=by
 obtain ⟨p,cs,U,aa,b,off,rfl,ap⟩:=aic h aw aj b9 ae aI aC a5
 grind
theorem afY {b6:avb} {n:Int} {a:aA} {g5:ave} (h:o.op= .indexAddr t x y) (aw:P.underlying t=au6 (.slice g5)) (aj:P.info? g5=au6 i) (b9:i.size=T.a7) (ae:af x=v) (aI:af y= .int b6 n) (aC:dM T z e m k xs v) (a5:aD xs n=au6 a):
  ∃b f0 l c cs,cW P af o (.pointer (au6 ⟨b,f0+n.toNat*T.a7,au8⟩))/\v= .slice (au6 ⟨b,f0,au8⟩) l c/\T.rd z a cs/\∀(j:Nat) (u:au9),cs[j]? =au6 u->m.load b (f0+n.toNat*T.a7+j)=au6 u:=by
 obtain ⟨p,cs,U,aa,ap,b,f0,l,c,rfl,rfl⟩:=aib h aw aj b9 ae aI aC.bt a5;obtain ⟨hE,mP,aN,bK⟩:=ap
 grind
theorem P8 {n:Nat} {bm:Array Field} {f:Field} {off:Nat} (h:o.op= .fieldAddr t x n) (aw:P.underlying t=au6 (.struct bm)) (bb:bm[n]? =au6 f) (aj:P.info? f.type=au6 i) (aC:(i.size==0)=ava) (ae:af x= .pointer (au6 ⟨b,off,au8⟩)):
  cW P af o (.pointer (au6 ⟨b,off+f.offset,au8⟩)):= .fieldAddr t x n bm f i b off h aw bb aj (by intro bf;rw[bf] at aC;cases aC) ae
theorem Qv {off:Nat} {d:TypeDesc} (h:o.op= .load t x) (aw:P.underlying t=au6 d) (aO:jK d=ava) (ae:af x= .pointer (au6 ⟨b,off,au8⟩)) (ab:m.load b off=au6 v):eJ P af o m v:= .load t x b off d v h ae aw aO ab
theorem aqz {off:Nat} {d:TypeDesc} (h:o.op= .load t x) (aw:P.underlying t=au6 d) (aO:jK d=au7) (aj:P.info? t=au6 i) (aC:cs.length=i.size) (ae:af x= .pointer (au6 ⟨b,off,au8⟩)) (ab:∀(j:Nat) (u:au9),cs[j]? =au6 u->m.load b (off+j)=au6 u):eJ P af o m (.agg cs.toArray):=
 .sT t x b off d i cs h ae aw aO aj (GI _ _ _ aC ab)
theorem iM.load (h:iM z e m k b cs t) {off:Nat} (ab:cs[off]? =au6 v):m.load b off=au6 v:=by simp only[Mem.load,h.aS];grind
theorem iM.rC (h:iM z e m k b cs t):∀(j:Nat) (u:au9),cs[j]? =au6 u->m.load b (0+j)=au6 u:=fun j u aZ=>by rw[avD];exact h.load aZ
theorem dp.rC (aL:dp z e m k) {off:Nat} (h:mR z b off cs):∀(j:Nat) (u:au9),cs[j]? =au6 u->m.load b (off+j)=au6 u:=fun j u aZ=>O9 aL.bl (h j u aZ)
end
theorem XN {args:Array au9} {n i:Nat} {v:au9} (h:args.toList[i]? =au6 v):(args++Array.replicate n undef).getD i undef=v:=by
 have U:args[i]? =au6 v:=by grind
 have bS:=(awB.1 U).1;simp_all [Array.getElem?_append_left]
theorem ajT {n:Nat} {v:au9} (h:flat v=au7):low n v:=F3 h
theorem hs.flat {P:avd} {f:FuncId} {fn:Func} {c:Code} {args:Array au9} {z:Nat->bo} {m:Mem} {r:au9} (bb:P.funcs[f]? =au6 fn) (ag:qC P fn c) (ew:la P f=au7) (b9:args.size<=fn.ntmps) (aE:av.flat r=au7)
  (h:∀fr,(∀i v,args.toList[i]? =au6 v->fr i=v)->W P c (fun e fr bz=>(e= .normal\/e= .ret)/\∃z',dp z' m bz au8/\∃vs,oP P fr bz fn.results.toList vs/\(vs.length=1\/∀x∈vs,storable x=au7)/\pack vs=r) fr m):hs P f args m fun v m'=>v=r/\m'=m:=by
 refine hs.enter bb ag ew b9 ((h _ fun i v aj=>XN aj).mono ?_);rintro e fr bz ⟨he,z',aL,vs,U,aa,ap⟩;refine ⟨he,vs,U,aa, .inr ⟨⟨ap,aL.asl⟩,by grind [ajT],fun b ag=> .inl (aL.kept b ag (by simp))⟩⟩
theorem hs.any {P:avd} {f:FuncId} {fn:Func} {c:Code} {args:Array au9} {m:Mem} {R:au9->Mem->Prop} (bb:P.funcs[f]? =au6 fn) (ag:qC P fn c) (ew:la P f=au7) (b9:args.size<=fn.ntmps)
  (h:∀fr,(∀i v,args.toList[i]? =au6 v->fr i=v)->W P c (fun e fr bz=>(e= .normal\/e= .ret)/\∃vs,oP P fr bz fn.results.toList vs/\(vs.length=1\/∀x∈vs,storable x=au7)/\R (pack vs) bz) fr m):hs P f args m R:=by
 refine hs.enter bb ag ew b9 ((h _ fun i v aj=>XN aj).mono ?_)
 grind
end Go.av
end
section
namespace Go.av
inductive Tag where
 |pure
 |read (I:Mem->Prop)
 |new
 |fb
def cj (P:avd) (af:avf->au9) (o:Oper) (m:Mem) (D:Tag->au9->Mem->Prop):Prop:=
 (∃v,cW P af o v/\D .pure v m)\/(∃v I,cW P af o v/\D (.read I) v m)\/(∃v,eJ P af o m v/\D (.read fun m=>eJ P af o m v) v m)\/
 (∃X v,iy P af o m.next X v/\D .new v (m.push X))\/(∃n v m',gR P (iA P n) af o m v m'/\D .fb v m')
section
variable {P:avd} {af:avf->au9} {o:Oper} {m:Mem} {D:Tag->au9->Mem->Prop} {K:au9->Mem->Prop}
theorem cj.pure {v:au9} (h:cW P af o v) (au:D .pure v m):cj P af o m D:= .inl ⟨v,h,au⟩
theorem cj.Wb {v:au9} {I:Mem->Prop} (h:cW P af o v) (au:D (.read I) v m):cj P af o m D:= .inr (.inl ⟨v,I,h,au⟩)
theorem cj.read {v:au9} (h:eJ P af o m v) (au:D (.read fun m=>eJ P af o m v) v m):cj P af o m D:= .inr (.inr (.inl ⟨v,h,au⟩))
theorem cj.new {v:au9} {X:bo} (h:iy P af o m.next X v) (au:D .new v (m.push X)):cj P af o m D:= .inr (.inr (.inr (.inl ⟨X,v,h,au⟩)))
theorem cj.fb {n:Nat} {v:au9} {m':Mem} (h:gR P (iA P n) af o m v m') (au:D .fb v m'):cj P af o m D:= .inr (.inr (.inr (.inr ⟨n,v,m',h,au⟩)))
theorem cj.w (h:cj P af o m fun _=>K):mz P af o m K:=by
 rcases h with ⟨v,h,au⟩|⟨v,I,h,au⟩|⟨v,h,au⟩|⟨X,v,h,au⟩|⟨n,v,m',h,au⟩
 ·grind [mz.pure]
 ·grind [mz.pure]
 ·grind [mz.read]
 ·grind [mz.new]
 grind [mz.fb]
theorem cj.call {f:FuncId} {args:Array au9} (ai:callee o af f args) (h:hs P f args m (D .fb)):cj P af o m D:=by
 obtain ⟨n,v,m',U,aa⟩:=h;exact .fb (.call f args v m' ai U) aa
end
theorem w3 {P:avd} {C:FuncId->Array au9->Mem->au9->Mem->Prop} {ops:List Oper} {B:Array Nat}:∀(l:List Oper) (i:Nat) (A hQ:Acc) (fr bB:Nat->au9) (m m':Mem),(∀x∈hQ.reads,x∈A.reads)->(∀x∈hQ.gm,x∈A.gm)->(∀x∈hQ.news,x∈A.news)->g3 P C ops B i l A fr m bB m'->g3 P C ops B i l hQ fr m bB m'
 |[],i,A,hQ,fr,bB,m,m',_,_,_,h=>h
 |o::l,i,A,hQ,fr,bB,m,m',U,aa,ap,h=>by
  simp only[g3] at h⊢;split at h
  ·rename_i hw;rw[if_pos hw];rcases h with ⟨v,aM,aO⟩|⟨v,aM,ao,aO⟩|⟨X,v,aM,aO⟩|⟨v,bz,aM,aU,aQ,aO⟩
   ·exact .inl ⟨v,aM,w3 l _ _ _ _ _ _ _ U aa ap aO⟩
   ·refine .inr (.inl ⟨v,aM,fun x ae=>ao x (aa x ae),w3 l _ {A with reads:=_::A.reads} _ _ _ _ _ (fun x ae=> ?_) aa ap aO⟩)
    grind
   ·refine .inr (.inr (.inl ⟨X,v,aM,w3 l _ {A with news:=_::A.news} _ _ _ _ _ U aa (fun x ae=> ?_) aO⟩))
    grind
   ·refine .inr (.inr (.inr ⟨v,bz,aM,fun x ae=>aU x (U x ae),fun x ae=>aQ x (ap x ae),w3 l _ {A with gm:=_::A.gm} _ _ _ _ _ U (fun x ae=> ?_) ap aO⟩))
    grind
  ·rename_i hw;rw[if_neg hw];exact w3 l _ _ _ _ _ _ _ U aa ap h
def sW (B:Array Nat) (i:Nat) (A:Acc) (m:Mem):Tag->Mem->Prop| .pure,_=>True| .read I,_=>∀x∈A.gm,fA B i x.1=ava->I x.2| .new,_=>True| .fb,bz=>(∀x∈A.reads,fA B i x.1=ava->x.2 bz)/\∀x∈A.news,fA B i x.1=ava->bz.aS x.2=m.aS x.2
def o9 (A:Acc) (i:Nat) (m:Mem):Tag->Acc
 | .pure=>A
 | .read I=>{A with reads:=(i,I)::A.reads}
 | .new=>{A with news:=(i,m.next)::A.news}
 | .fb=>{A with gm:=(i,m)::A.gm}
section
variable {P:avd} {ops l:List Oper} {B:Array Nat} {i:Nat} {A:Acc} {K:(Nat->au9)->Mem->Prop} {fr:Nat->au9} {m:Mem} {o:Oper}
theorem gu.MH (a5:wanted ops fr o=au7) (h:cj P (a8 fr) o m fun _ v bz=>gu P ops l K (set fr o.dst v) bz):gu P ops (o::l) K fr m:=gu.cons a5 h.w
theorem hc.cons (a5:wanted ops fr o=au7) (h:cj P (a8 fr) o m fun t v bz=>sW B i A m t bz/\hc P ops B (i+1) l (o9 A i m t) K (set fr o.dst v) bz):hc P ops B i (o::l) A K fr m:=by
 have up:∀{n n':Nat} (_:n<=n') {l:List Oper} {i:Nat} {A:Acc} {fr bB:Nat->au9} {m m':Mem},g3 P (iA P n) ops B i l A fr m bB m'->g3 P (iA P n') ops B i l A fr m bB m':=fun a1=>s3 (u1 _ _ a1) _ _ _ _ _ _ _;rcases h with ⟨v,h,_,n,bB,m',U,aa⟩|⟨v,I,h,_,n,bB,m',U,aa⟩|⟨v,h,ao,n,bB,m',U,aa⟩|⟨X,v,h,_,n,bB,m',U,aa⟩|⟨fc,v,bz,h,ao,n,bB,m',U,aa⟩
 ·refine ⟨n,bB,m', ?_,aa⟩;simp only[g3];rw[if_pos a5];exact .inl ⟨v,h,U⟩
 ·refine ⟨n,bB,m', ?_,aa⟩;simp only[g3];rw[if_pos a5];exact .inl ⟨v,h,w3 _ _ {A with reads:=(i,I)::A.reads} A _ _ _ _ (fun x ae=>List.mem_cons_of_mem _ ae) (fun x ae=>ae) (fun x ae=>ae) U⟩
 ·refine ⟨n,bB,m', ?_,aa⟩;simp only[g3];rw[if_pos a5];exact .inr (.inl ⟨v,h,ao,U⟩)
 ·refine ⟨n,bB,m', ?_,aa⟩;simp only[g3];rw[if_pos a5];exact .inr (.inr (.inl ⟨X,v,h,U⟩))
 ·refine ⟨max fc n,bB,m', ?_,aa⟩;simp only[g3];rw[if_pos a5];exact .inr (.inr (.inr ⟨v,bz,h.mono (u1 _ _ (Nat.le_max_left _ _)),ao.1,ao.2,up (Nat.le_max_right _ _) U⟩))
theorem hc.skip (a5:wanted ops fr o=ava) (h:hc P ops B (i+1) l A K (set fr o.dst undef) m):hc P ops B i (o::l) A K fr m:=by
 obtain ⟨n,bB,m',U,aa⟩:=h;refine ⟨n,bB,m', ?_,aa⟩
 grind [g3]
theorem hc.done (h:∀bB,bB=fr->K bB m):hc P ops B i [] A K fr m:=⟨0,_,_,⟨rfl,rfl⟩,h _ rfl⟩
end
theorem ahD {P:avd} {af:avf->au9} {o:Oper} {aA:Type} {T:ct aA} {z:Nat->bo} {xs:List aA} {v:au9} {x:avf} {t:ave} {i:TypeInfo} {bD aj:Option avf} {a b:Int} {r:List aA} (h:o.op= .slice t x bD aj au8) (aw:P.underlying t=au6 (.slice T.tid)) (eh:P.info? T.tid=au6 i) (b9:i.size=T.a7) (ae:af x=v)
  (dZ:uQ af bD a) (dy:vB af aj xs.length b) (aC:eu T z xs v) (aE:ho xs a b=au6 r):
  ∃bI,(cW P af o bI\/∀m,jI z m->eJ P af o m bI)/\eu T z r bI:=by
 obtain ⟨bf,U,aa,rfl⟩:=FT aE;obtain ⟨a',rfl⟩:=aws bf;obtain ⟨cB,rfl⟩:=aws (axB bf U);have lB:a'<=cB:=by omega
 have k3:cB<=xs.length:=by omega
 simp only[av'];have uB:=zN dZ;have uA:=zD dy;have hlen:((xs.take cB).drop a').length=cB - a':=by grind
 rcases aC with ⟨rfl,rfl⟩|⟨hl,off,c,rfl,ri,il,kS⟩
 ·have nT:cB=0:=by grind
  subst nT;have Nk:a'=0:=by omega
  subst Nk;exact ⟨.slice au8 0 0, .inl (.kH t x bD aj T.tid i h aw eh ae uB uA), .inl ⟨rfl,by rfl⟩⟩
 ·have yR:∀o',o'=off+a'*T.a7->∀(k:Nat) (w:aA),((xs.take cB).drop a')[k]? =au6 w->∃cs,T.rd z w cs/\mR z hl (o'+k*T.a7) cs:=by
   intro o' ky k w au;obtain ⟨cs,aU,aQ⟩:=kS _ w (zL au)
   grind
  rcases il with ⟨rfl,L,cU,sM⟩|⟨ai,hle⟩
  ·refine ⟨_, .inr fun m a4=>(.slice t x bD aj T.tid i L hl off xs.length a' cB h aw eh ae ?_ uB uA lB k3 (by grind)), ?_⟩
   ·rw[(a4.hy ri).1];grind
   ·refine .inr ⟨hl,off+a'*T.a7,cJ,by grind,ri, .inl ⟨rfl,L,cU, ?_⟩,yR _ rfl⟩;rw[hlen,avZ,<-avL];have:(a'+(cB - a'))*T.a7<=xs.length*T.a7:=awc _ (by omega);omega
  ·refine ⟨_, .inl (.slice t x bD aj T.tid i hl off xs.length c a' cB h aw eh ae (by grind) uB uA lB (by omega) (fun _=>trivial)), ?_⟩;by_cases ku:c=a'
   ·have ac5:cB - a'=0:=by omega
    refine .inr ⟨hl,off,c - a',by grind,ri, .inr ⟨by omega,by grind⟩,fun k w au=> ?_⟩
    grind
   ·refine .inr ⟨hl,off+a'*T.a7,c - a',by grind,ri, .inr ⟨by omega,by grind⟩,yR _ rfl⟩
section
variable {aA:Type} {T:ct aA} {z z':Nat->bo} {e m m':Mem} {k q:Option Nat} {xs:List aA} {v:au9} {b:Nat} {cs:List au9} {t:ave}
variable {P:avd} {af:avf->au9} {o:Oper} {w:au9} {b7:List aA} {x y:avf} {u:ave} {i:TypeInfo} {K:au9->Mem->Prop} {D:Tag->au9->Mem->Prop}
theorem Gm (h:o.op= .call {callee:= .builtin .append,args:=#[x,y],argTypes:=#[t,u]}) (aw:P.underlying t=au6 (.slice T.tid)) (aj:P.info? T.tid=au6 i) {cR:au9} (g1:i.zero=au6 cR) (db:cR.cells.toList.all cP=au7) (dV:cR.cells.size=i.size)
  (b9:i.size=T.a7) (gF:(T.a7==0)=ava) (gY:avp i.bytes 32768=au7) (hu:(∃b2,P.underlying u=au6 (.slice b2))\/P.underlying u=au6 .string) (ae:af x=v) (aC:dM T z e m k xs v) (aI:af y=w) (lI:Src T z m b7 w)
  (aL:dp z e m k) {r:List aA} (aE:ck xs b7=au6 r)
  (au:∀bI m',dp z e m' k->dM T z e m' k r bI->fM m m' (c9 v)->(∀p,(∀b,p=au6 b->b<m.next)->eE p (c9 v)->eE p (c9 bI))->D .fb bI m'):cj P af o m D:=by
 obtain ⟨bI,m',U,aa,ap,aN,bK⟩:=alw (C:=iA P 0) h aw aj g1 db dV b9 (by grind) (avq gY) hu ae aC aI lI aL aE
 grind [cj.fb]
theorem Zs {x0:aA} {b6 cc:avb} {n:Int} (h:o.op= .makeSlice t x y) (aw:P.underlying t=au6 (.slice T.tid)) (aj:P.info? T.tid=au6 i) {cR:au9} (g1:i.zero=au6 cR) (db:cR.cells.toList.all cP=au7) (dV:cR.cells.size=i.size) (b9:i.size=T.a7) (gY:avp i.bytes 32768=au7)
  (et:T.rd z x0 cR.cells.toList) (ae:af x= .int b6 n) (aI:af y= .int cc n) (aL:dp z e m k) {r:List aA} (aE:iG x0 n=au6 r)
  (au:∀bI m',dp z e m' k->dM T z e m' k r bI->fM m m' au8->(∀p,(∀b,p=au6 b->b<m.next)->eE p (c9 bI))->D .new bI m'):cj P af o m D:=by
 obtain ⟨bI,m',L,ec,U,rfl,aa,ap,aN,bK⟩:=af0 h aw aj g1 db dV b9 (avq gY) et ae aI aL aE
 grind [cj.new]
theorem P4 {cn:Array (Nat×avf)} {l:Nat} (h:o.op= .buildSlice t l cn) (aw:P.underlying t=au6 (.slice T.tid)) (aj:P.info? T.tid=au6 i) {cR:au9} (g1:i.zero=au6 cR) (db:cR.cells.toList.all cP=au7) (dV:cR.cells.size=i.size) (b9:i.size=T.a7)
  (as:List aA) (iO:List (List au9)) (az:as.length=l) (sC:avp (l*T.a7) 16777216=au7) (sL:avA l 9223372036854775808=au7) (ag:u5 T z af cn.toList 0 as iO) (aL:dp z e m k)
  (au:∀bI m',dp z e m' k->dM T z e m' k as bI->fM m m' au8->(∀p,(∀b,p=au6 b->b<m.next)->eE p (c9 bI))->D .new bI m'):cj P af o m D:=by
 obtain ⟨bI,m',L,ec,U,rfl,aa,ap,aN,bK⟩:=aqx h aw aj g1 db dV b9 az (avq sC) (by simp_all) ag aL
 grind [cj.new]
theorem aqD {s:List UInt8} {tid:ave} (h:o.op= .convert u t x) (hu:P.underlying u=au6 .string) (aw:P.underlying t=au6 (.slice tid)) (he:P.underlying tid=au6 (.int .u8)) (aj:P.info? tid=au6 i) (jE:i.size=1) (ae:af x=str s) {h3:List UInt8} (az:ck s []=au6 h3) (aL:dp z e m k)
  (au:∀bI m',dp z e m' k->dM (jC tid) z e m' k h3 bI->fM m m' au8->(∀p,(∀b,p=au6 b->b<m.next)->eE p (c9 bI))->D .new bI m'):cj P af o m D:=by
 obtain ⟨mh,rfl⟩:=rL az;rw[List.append_nil] at au;obtain ⟨bI,m',L,ec,U,rfl,aa,ap,aN,bK⟩:=aqy h hu aw he aj jE ae (by grind [si]) aL
 grind [cj.new]
theorem VE {off:Nat} {new:List au9} {g5:ave} (h:o.op= .store t x y) (aj:P.info? t=au6 i) (ae:af x= .pointer (au6 ⟨b,off,au8⟩)) (aI:af y=w) (ab:storable w=au7) (a1:w.cells.toList=new) (aC:new.length=i.size) (ag:iM z e m k b cs g5) (az:avp (off+new.length) cs.length=au7) (cs':List au9) (ie:e9 cs off new=cs') (aL:dp z e m k)
  (au:∀m',dp z e m' k->iM z e m' k b cs' g5->fM m m' (au6 b)->D .fb undef m'):cj P af o m D:=by
 obtain ⟨m',U,aa,ap,aN⟩:=acV (C:=iA P 0) h aj ae aI ab a1 aC ag (avq az) ie aL
 grind [cj.fb]
theorem Fg {off f0 n f l c:Nat} {new q8 yv:List au9} {a a':aA} (h:o.op= .store t x y) (aj:P.info? t=au6 i) (ae:af x= .pointer (au6 ⟨b,off,au8⟩)) (qi:off=f0+n*T.a7+f) (aI:af y=w) (ab:storable w=au7) (a1:w.cells.toList=new) (aC:new.length=i.size)
  (ao:dM T z e m k xs v) (ps:v= .slice (au6 ⟨b,f0,au8⟩) l c) (aY:xs[n]? =au6 a) (aE:T.rd z a q8) (ai:∀(i:Nat) (u:au9),q8[i]? =au6 u->m.load b (f0+n*T.a7+i)=au6 u) (lH:T.rd z a' yv) (ie:yv=e9 q8 f new) (bb:avp (f+new.length) q8.length=au7) (aL:dp z e m k)
  (au:∀m',dp z e m' k->dM T z e m' k (xs.set n a') v->fM m m' (c9 v)->D .fb undef m'):cj P af o m D:=by
 obtain ⟨m',U,aa,ap,aN⟩:=acX (C:=iA P 0) h aj ae qi aI ab a1 aC ao ps aY aE ai lH ie (avq bb) aL
 grind [cj.fb]
theorem af6 {b6:avb} {n:Int} {a:aA} {g5:ave} (h:o.op= .indexAddr t x y) (aw:P.underlying t=au6 (.slice g5)) (aj:P.info? g5=au6 i) (b9:i.size=T.a7) (ae:af x=v) (aI:af y= .int b6 n) (aC:eu T z xs v) (a5:aD xs n=au6 a)
  (au:∀b off cs,T.rd z a cs->mR z b off cs->D .pure (.pointer (au6 ⟨b,off,au8⟩)) m):cj P af o m D:=by
 obtain ⟨b,off,cs,U,aa,ap⟩:=afZ h aw aj b9 ae aI aC a5
 grind [cj.pure]
theorem Zr {b6:avb} {n:Int} {a:aA} {g5:ave} (h:o.op= .indexAddr t x y) (aw:P.underlying t=au6 (.slice g5)) (aj:P.info? g5=au6 i) (b9:i.size=T.a7) (ae:af x=v) (aI:af y= .int b6 n) (aC:dM T z e m k xs v) (a5:aD xs n=au6 a)
  (au:∀b f0 l c cs,v= .slice (au6 ⟨b,f0,au8⟩) l c->T.rd z a cs->xs[n.toNat]? =au6 a->(∀(j:Nat) (u:au9),cs[j]? =au6 u->m.load b (f0+n.toNat*T.a7+j)=au6 u)->D .pure (.pointer (au6 ⟨b,f0+n.toNat*T.a7,au8⟩)) m):cj P af o m D:=by
 obtain ⟨b,f0,l,c,cs,U,aa,ap,aN⟩:=afY h aw aj b9 ae aI aC a5;exact cj.pure U (au _ _ _ _ _ aa ap (nr a5).2.2 aN)
theorem aft {bD aj:Option avf} {a b:Int} {r:List aA} (h:o.op= .slice t x bD aj au8) (aw:P.underlying t=au6 (.slice T.tid)) (eh:P.info? T.tid=au6 i) (b9:i.size=T.a7) (ae:af x=v)
  (dZ:uQ af bD a) (dy:vB af aj xs.length b) (aC:eu T z xs v) (aL:dp z e m k) (aE:ho xs a b=au6 r) (au:∀bI I,(∀m,jI z m->I m)->eu T z r bI->D (.read I) bI m):cj P af o m D:=by
 obtain ⟨bI,U,aa⟩:=ahD h aw eh b9 ae dZ dy aC aE;rcases U with U|U
 ·exact cj.Wb (I:=fun _=>True) U (au _ _ (fun _ _=>trivial) aa)
 ·exact cj.read (U m aL.bl) (au _ _ U aa)
theorem af4 {s r:List UInt8} {bD aj:Option avf} {a b:Int} (h:o.op= .slice t x bD aj au8) (aw:P.underlying t=au6 .string) (ae:af x=str s) (dZ:uQ af bD a) (dy:vB af aj s.length b) (aE:ho s a b=au6 r) (au:D .pure (str r) m):cj P af o m D:=by
 obtain ⟨bf,U,aa,rfl⟩:=FT aE;obtain ⟨a',rfl⟩:=aws bf;obtain ⟨cB,rfl⟩:=aws (axB bf U);exact cj.pure (YK h aw ae (zN dZ) (zD dy) (by omega) (by omega)) au
theorem alE {s:List UInt8} {c:UInt8} {b6:avb} {n:Int} (h:o.op= .index t x y) (aw:P.underlying t=au6 .string) (ae:af x=str s) (aI:af y= .int b6 n) (a5:aD s n=au6 c) (au:D .pure (.int .u8 c.toNat) m):cj P af o m D:=by
 obtain ⟨bf,U,aa⟩:=nr a5;exact cj.pure (YJ h aw ae aI bf aa) au
theorem af8 {s:List UInt8} {tid:ave} (h:o.op= .convert t u x) (aw:P.underlying t=au6 (.slice tid)) (he:P.underlying tid=au6 (.int .u8)) (hu:P.underlying u=au6 .string) (ae:af x=v) (aC:eu (jC tid) z s v) (aL:dp z e m k) (au:D (.read fun m=>eJ P af o m (str s)) (str s) m):cj P af o m D:=
 cj.read (aar h aw he hu ae (aC.src aL.bl) (by obtain ⟨a,c,rfl⟩:=aC.len;grind)) au
theorem af7 {s:List UInt8} {tid:ave} (h:o.op= .convert t u x) (aw:P.underlying t=au6 (.slice tid)) (he:P.underlying tid=au6 (.int .u8)) (hu:P.underlying u=au6 .string) (ae:af x=v) (aC:dM (jC tid) z e m k s v) (au:D (.read fun m=>eJ P af o m (str s)) (str s) m):cj P af o m D:=
 cj.read (aar h aw he hu ae aC.bt.src (by obtain ⟨a,c,rfl⟩:=aC.bt.len;exact ⟨_,_,_,rfl⟩)) au
theorem alD {cn:Array (Nat×avf)} {bm:Array Field} {pl:List (Option (Nat×Nat))} {cR:au9} (vs:List (Nat×au9)) (cs:List au9) (h:o.op= .build t cn) (aw:P.underlying t=au6 (.struct bm)) (aj:P.info? t=au6 i) (a4:i.zero=au6 cR) (db:cR.cells.toList.all cP=au7)
  (y0:mn P bm=pl) (aM:pl.all axs=au7) (oF:cn.toList.map (fun p=>(p.1,af p.2))=vs) (ai:jm (fun k=>(pl[k]?).join) cR.cells.toList vs=au6 cs) (au:D .pure (.agg cs.toArray) m):cj P af o m D:=by
 subst y0 oF;exact cj.pure (.build t cn bm i cR cs h aw aj a4 db (by grind) ai) au
variable {ops l:List Oper} {fr:Nat->au9} {og:(Nat->au9)->Mem->Prop}
theorem gu.MG {j d:Nat} {want m6:Bool} (a5:o.guard=au6 (j,want)) (aO:(ops[j]?).bind (·.dst)=au6 d) (ab:fr d= .bool m6) (ag:m6=want) (h:cj P (a8 fr) o m fun _ v bz=>gu P ops l og (set fr o.dst v) bz):gu P ops (o::l) og fr m:=
 gu.MH (by subst ag;simp[wanted,a5,aO,ab]) h
theorem gu.Kg {j d:Nat} {want m6:Bool} (a5:o.guard=au6 (j,want)) (aO:(ops[j]?).bind (·.dst)=au6 d) (ab:fr d= .bool m6) (ag:m6= !want) (h:gu P ops l og (set fr o.dst undef) m):gu P ops (o::l) og fr m:=
 gu.skip (by subst ag;simp[wanted,a5,aO,ab]) h
theorem gu.Q3 {j d:Nat} {want:Bool} (a5:o.guard=au6 (j,want)) (aO:(ops[j]?).bind (·.dst)=au6 d) (ab:fr d=undef) (h:gu P ops l og (set fr o.dst undef) m):gu P ops (o::l) og fr m:=
 gu.skip (by simp[wanted,a5,aO,ab,undef]) h
theorem hc.MG {B:Array Nat} {n:Nat} {A:Acc} {j d:Nat} {want m6:Bool} (a5:o.guard=au6 (j,want)) (aO:(ops[j]?).bind (·.dst)=au6 d) (ab:fr d= .bool m6) (ag:m6=want) (h:cj P (a8 fr) o m fun t v bz=>sW B n A m t bz/\hc P ops B (n+1) l (o9 A n m t) og (set fr o.dst v) bz):hc P ops B n (o::l) A og fr m:=
 hc.cons (by subst ag;simp[wanted,a5,aO,ab]) h
theorem hc.Kg {B:Array Nat} {n:Nat} {A:Acc} {j d:Nat} {want m6:Bool} (a5:o.guard=au6 (j,want)) (aO:(ops[j]?).bind (·.dst)=au6 d) (ab:fr d= .bool m6) (ag:m6= !want) (h:hc P ops B (n+1) l A og (set fr o.dst undef) m):hc P ops B n (o::l) A og fr m:=
 hc.skip (by subst ag;simp[wanted,a5,aO,ab]) h
theorem hc.Q3 {B:Array Nat} {n:Nat} {A:Acc} {j d:Nat} {want:Bool} (a5:o.guard=au6 (j,want)) (aO:(ops[j]?).bind (·.dst)=au6 d) (ab:fr d=undef) (h:hc P ops B (n+1) l A og (set fr o.dst undef) m):hc P ops B n (o::l) A og fr m:=
 hc.skip (by simp[wanted,a5,aO,ab,undef]) h
end
end Go.av
end
section
namespace Go.av
theorem Wn {d:TypeDesc} {k:au9} (au:axt d k):∀(l:List MapEntry) (i:Nat),(∀x∈l,axt d x.key)->Instr.findNow d k l i=au6 (ns k l i)
 |[],i,_=>rfl
 |e::es,i,h=>by
  obtain ⟨r,aE,atO⟩:=MapKept.sameNow_of_keys au (h e (.head _));have ar:=Wn au es (i+1) (fun x ae=>h x (.tail _ ae))
  grind [ns,Instr.findNow]
theorem ajL {P:avd} {bi:ave} {d:TypeDesc} (aO:P.underlying bi=au6 d) {hf:au9->Prop} (a5:∀v,hf v->axt d v):Keyed P bi hf where
 check:=fun em v w h=>MapKept.run_checkKey aO (a5 v h) em _
 find:=fun v es w h aC=>MapKept.run_findKey aO (Wn (a5 v h) es 0 fun x ae=>a5 _ (aC x ae))
 stays:=fun v w h=>MapKept.run_keyThatStays (a5 v h)
structure nI (aA bO:Type) where
 ee:aA->List au9
 vc:bO->List au9
 tid:ave
structure o5 (P:avd) (bi:ave) {aA:Type} (ee:aA->List au9):Prop where
 len:∀a,(ee a).length=P.cellsOf bi
 pos:0<P.cellsOf bi
 flat:∀a,(ee a).all cP=au7
 M3:∀a,av.flat (eb (dG P bi) (ee a))=au7
 inj:∀a b,eb (dG P bi) (ee a)=eb (dG P bi) (ee b)->a=b
 keyed:Keyed P bi fun v=>∃a,v=eb (dG P bi) (ee a)
structure p3 (P:avd) (bg:ave) {bO:Type} (vc:bO->List au9):Prop where
 len:∀b,(vc b).length=P.cellsOf bg
 one:dG P bg=ava->P.cellsOf bg=1
 flat:∀b,(vc b).all cP=au7
def VD (k:avb) (n:Int):List au9:=[.int k n]
def afu (s:List UInt8):List au9:=[str s]
def Zq (b:Bool):List au9:=[.bool b]
theorem Zj {P:avd} {t:ave} {d:TypeDesc} (h:P.underlying t=au6 d) (aO:jK d=ava):dG P t=ava:=by grind [dG]
theorem aqQ {a b:List UInt8} (h:str a=str b):a=b:=by
 grind [str]
section
variable {aA bO:Type}
def n5 [DecidableEq aA]:List (aA×bO)->aA->Option bO|[],_=>au8|p::es,a=>if p.1=a then au6 p.2 else n5 es a
def tp [DecidableEq aA]:List (aA×bO)->aA->bO->List (aA×bO)|[],a,b=>[(a,b)]|p::es,a,b=>if p.1=a then (p.1,b)::es else p::tp es a b
def nI.ox (M:nI aA bO) (es:List (aA×bO)):List (List au9×List au9):=es.map fun p=>(M.ee p.1,M.vc p.2)
def nI.cells (M:nI aA bO) (es:List (aA×bO)):List au9:=(M.ox es).flatMap fun p=>p.1++p.2
structure iE (M:nI aA bO) (z:Nat->bo) (e m:Mem) (k:Option Nat) (es:List (aA×bO)) (v:au9):Prop where
 bt:∃r,v= .map (au6 r)/\m.aS r= .map (M.cells es) M.tid/\r<m.next/\z r= .dead/\e.next<=r
def lY (M:nI aA bO) (z:Nat->bo) (es:List (aA×bO)) (v:au9):Prop:=(v= .map au8/\es=[])\/∃r,v= .map (au6 r)/\z r= .map (M.cells es) M.tid
def rU:au9->Option Nat| .map r=>r|_=>au8
variable {M:nI aA bO} {z z':Nat->bo} {e m m':Mem} {k q:Option Nat} {es:List (aA×bO)} {v:au9}
theorem iE.lt (h:iE M z e m k es v):∀b,rU v=au6 b->b<m.next:=by
 obtain ⟨r,rfl,U,aa,ap,aN⟩:=h.bt;intro b ag;cases ag;grind
theorem iE.same (h:iE M z e m k es v) (s:fM m m' q) (fa:eE (rU v) q):iE M z e m' k es v:=by
 obtain ⟨r,rfl,U,aa,ap,aN⟩:=h.bt;exact ⟨r,rfl,by rw[s.aS r aa (fa r rfl)];grind,avx aa s.next,ap,aN⟩
theorem iE.iL (h:iE M z e m k es v) (a4:eR z z') (ag:∀b,rU v=au6 b->z' b=z b):iE M z' e m k es v:=by
 obtain ⟨r,rfl,U,aa,ap,aN⟩:=h.bt;exact ⟨r,rfl,U,aa,by rw[ag r rfl];grind,aN⟩
theorem iE.bd (h:iE M z e m k es v):∀c,rU v=au6 c->z c= .dead/\(e.next<=c\/k=au6 c):=by
 obtain ⟨r,rfl,U,aa,ap,aN⟩:=h.bt;intro c ai;cases ai;grind
theorem iE.freeze (h:iE M z e m k es v) (aL:dp z e m k):∃z',dr e.next z z'/\dp z' e m k/\lY M z' es v/\∀p,eE p (rU v)->∀b,p=au6 b->z' b=z b:=by
 obtain ⟨r,rfl,U,aa,ap,aN⟩:=h.bt;refine ⟨iQ z m (au6 r),⟨z0 fun b ag=>by grind,fun b ag=> ?_⟩,⟨GQ aL.bl (fun b ag=>by cases ag;exact ⟨aa,by rw[U];rfl⟩),aL.dead,aL.mD,aL.next,aL.kept⟩, .inr ⟨r,rfl,by grind [iQ]⟩,fun p aM b ag=> ?_⟩
 ·grind [iQ]
 ·have:=aM b ag;unfold iQ;rw[if_neg (show ¬au6 r=au6 b from this)]
theorem lY.mono (h:lY M z es v) (a4:eR z z'):lY M z' es v:=by
 rcases h with h|⟨r,rfl,U⟩
 ·exact .inl h
 ·exact .inr ⟨r,rfl,by rw[a4 r (by rw[U];exact avo)];grind⟩
theorem Yq {P:avd} {bi bg:ave} (K:o5 P bi M.ee) (V:p3 P bg M.vc) (es:List (aA×bO)):nH (P.cellsOf bi) (P.cellsOf bg) (M.cells es) (M.ox es):=by
 refine ⟨rfl,fun p aM=> ?_⟩;obtain ⟨x,ae,rfl⟩:=avy.1 aM;exact ⟨K.len _,V.len _⟩
theorem Yf [DecidableEq aA] {P:avd} {bi bg:ave} (K:o5 P bi M.ee) (a:aA) (cd:bO):∀es:List (aA×bO),q2 (dG P bi) (dG P bg) (eb (dG P bi) (M.ee a)) (eb (dG P bg) (M.vc cd)) (M.ox es) (eb (dG P bg) (M.vc ((n5 es a).getD cd))) (n5 es a).isSome
 |[]=> .nf
 |p::es=>by
  simp only[n5];by_cases h:p.1=a
  ·rw[if_pos h];exact .oB (M.ee p.1,M.vc p.2) (M.ox es) (by grind)
  ·rw[if_neg h];exact .next (M.ee p.1,M.vc p.2) (M.ox es) _ _ (fun bL=>h (K.inj _ _ bL)) (Yf K a cd es)
theorem YX [DecidableEq aA] {P:avd} {bi:ave} (K:o5 P bi M.ee) (a:aA) (b:bO):∀es:List (aA×bO),q4 (dG P bi) (M.ee a) (M.vc b) (M.ox es) (M.ox (tp es a b))
 |[]=> .nf
 |p::es=>by
  simp only[tp];by_cases h:p.1=a
  ·rw[if_pos h];exact .oB (M.ee p.1,M.vc p.2) (M.ox es) (by grind)
  ·rw[if_neg h];exact .next (M.ee p.1,M.vc p.2) (M.ox es) _ (fun bL=>h (K.inj _ _ bL)) (YX K a b es)
theorem W3 {P:avd} {bi:ave} (es:List (aA×bO)):∀p∈M.ox es,∃a,eb (dG P bi) p.1=eb (dG P bi) (M.ee a):=by
 intro p aM;obtain ⟨x,ae,rfl⟩:=avy.1 aM
 grind
theorem OJ {P:avd} {bg:ave} {vc:bO->List au9} (V:p3 P bg vc) (b:bO):iX (eb (dG P bg) (vc b))=au7:=by
 have U:=V.flat b;have aa:=V.len b;cases aY:dG P bg with
 |true=>grind [eb,iX]
 |false=>
  rw[V.one aY] at aa
  match ab:vc b,aa with
  |[c],_=>rw[ab] at U;simp at U;simp only[eb,List.headD_cons];cases c<;>first|exact U|grind [cP]|(simp[cP] at U;simp[U])
variable {P:avd} {af:avf->au9} {o:Oper} {D:Tag->au9->Mem->Prop} {x cL:avf} {fq bi bg:ave} {i:TypeInfo} {a:aA} {cd:bO} {bR qQ:au9} {ok:Bool}
theorem Y9 [DecidableEq aA] {r:Nat} (h:o.op= .lookup fq x cL ok) (g9:P.underlying fq=au6 (.map bi bg)) (hu:P.underlying M.tid=au6 (.map bi bg)) (K:o5 P bi M.ee) (V:p3 P bg M.vc) (aj:P.info? bg=au6 i) (a4:i.zero=au6 (eb (dG P bg) (M.vc cd)))
  (ae:af x= .map (au6 r)) (hm:m.aS r= .map (M.cells es) M.tid) (me:af cL=eb (dG P bi) (M.ee a)):
  eJ P af o m (if ok then .tuple #[eb (dG P bg) (M.vc ((n5 es a).getD cd)), .bool (n5 es a).isSome] else eb (dG P bg) (M.vc ((n5 es a).getD cd))):=
 .lookup fq x cL ok M.tid bi bg r _ _ i _ _ _ _ h g9 hu (.inl ⟨ae,hm,Yq K V es⟩) K.pos V.one K.keyed (by rw[me];exact K.M3 a) ⟨a,me⟩ (W3 es) aj a4 (OJ V cd) (by rw[me];exact Yf K a cd es)
theorem aqA [DecidableEq aA] (h:o.op= .lookup fq x cL ok) (g9:P.underlying fq=au6 (.map bi bg)) (hu:P.underlying M.tid=au6 (.map bi bg)) (K:o5 P bi M.ee) (V:p3 P bg M.vc) (aj:P.info? bg=au6 i) (a4:i.zero=au6 (eb (dG P bg) (M.vc cd)))
  (ae:af x=v) (ao:iE M z e m k es v) (me:af cL=qQ) (oG:qQ=eb (dG P bi) (M.ee a)) {y:Option bO} (aI:n5 es a=y)
  (hw:(if ok then .tuple #[eb (dG P bg) (M.vc (y.getD cd)), .bool y.isSome] else eb (dG P bg) (M.vc (y.getD cd)))=bR):eJ P af o m bR:=by
 obtain ⟨r,rfl,U,_⟩:=ao.bt
 grind [Y9]
theorem Zd [DecidableEq aA] (h:o.op= .lookup fq x cL ok) (g9:P.underlying fq=au6 (.map bi bg)) (hu:P.underlying M.tid=au6 (.map bi bg)) (K:o5 P bi M.ee) (V:p3 P bg M.vc) (aj:P.info? bg=au6 i) (a4:i.zero=au6 (eb (dG P bg) (M.vc cd)))
  (ae:af x=v) (ao:iE M z e m k es v) (me:af cL=qQ) (oG:qQ=eb (dG P bi) (M.ee a)) {y:Option bO} (aI:n5 es a=y)
  (hw:(if ok then .tuple #[eb (dG P bg) (M.vc (y.getD cd)), .bool y.isSome] else eb (dG P bg) (M.vc (y.getD cd)))=bR) (au:D (.read fun m=>eJ P af o m bR) bR m):cj P af o m D:=
 cj.read (aqA h g9 hu K V aj a4 ae ao me oG aI hw) au
theorem aqB [DecidableEq aA] (h:o.op= .lookup fq x cL ok) (g9:P.underlying fq=au6 (.map bi bg)) (hu:P.underlying M.tid=au6 (.map bi bg)) (K:o5 P bi M.ee) (V:p3 P bg M.vc) (aj:P.info? bg=au6 i) (a4:i.zero=au6 (eb (dG P bg) (M.vc cd)))
  (ae:af x=v) (ao:lY M z es v) (bl:jI z m) (me:af cL=qQ) (oG:qQ=eb (dG P bi) (M.ee a)) {y:Option bO} (aI:n5 es a=y)
  (hw:(if ok then .tuple #[eb (dG P bg) (M.vc (y.getD cd)), .bool y.isSome] else eb (dG P bg) (M.vc (y.getD cd)))=bR):eJ P af o m bR:=by
 subst hw aI;rcases ao with ⟨rfl,rfl⟩|⟨r,rfl,U⟩
 ·exact .lookup fq x cL ok M.tid bi bg 0 [] [] i _ _ _ _ h g9 hu (.inr ⟨ae,rfl⟩) K.pos V.one K.keyed (by rw[me,oG];exact K.M3 a) ⟨a,me.trans oG⟩ (fun p aM=>by grind) aj a4 (OJ V cd) .nf
 ·exact Y9 h g9 hu K V aj a4 ae (by rw[(bl.hy (show (_:bo).hy by rw[U];exact avo)).1];grind) (me.trans oG)
theorem Ze [DecidableEq aA] (h:o.op= .lookup fq x cL ok) (g9:P.underlying fq=au6 (.map bi bg)) (hu:P.underlying M.tid=au6 (.map bi bg)) (K:o5 P bi M.ee) (V:p3 P bg M.vc) (aj:P.info? bg=au6 i) (a4:i.zero=au6 (eb (dG P bg) (M.vc cd)))
  (ae:af x=v) (ao:lY M z es v) (aL:dp z e m k) (me:af cL=qQ) (oG:qQ=eb (dG P bi) (M.ee a)) {y:Option bO} (aI:n5 es a=y)
  (hw:(if ok then .tuple #[eb (dG P bg) (M.vc (y.getD cd)), .bool y.isSome] else eb (dG P bg) (M.vc (y.getD cd)))=bR) (au:D (.read fun m=>eJ P af o m bR) bR m):cj P af o m D:=
 cj.read (aqB h g9 hu K V aj a4 ae ao aL.bl me oG aI hw) au
theorem ajK {t:ave} (M:nI aA bO) (h:o.op= .makeMap t au8) (aw:P.underlying t=au6 (.map bi bg)) (ay:M.tid=t) (aL:dp z e m k)
  (au:∀bI m',dp z e m' k->iE M z e m' k [] bI->fM m m' au8->(∀p,(∀b,p=au6 b->b<m.next)->eE p (rU bI))->D .new bI m'):cj P af o m D:=by
 have afl:z m.next= .dead:=by
  cases a4:z m.next with
  |dead=>rfl
  |ro rd=>have:=(aL.bl m.next (by grind)).2;omega
  |own L t=>have:=(aL.bl m.next (by grind)).2;omega
  |map L t=>have:=(aL.bl m.next (by grind)).2;omega
  |lock _ _ _ _=>have:=(aL.bl m.next (by grind)).2;omega
 refine cj.new (.makeMap t bi bg h aw) (au _ _ (aL.push _) ⟨m.next,rfl,by grind [Mem.push,nI.cells,nI.ox],by simp[Mem.push],afl,aL.next⟩ (zo aL.dead) fun p aM b ag yK=> ?_);cases yK
 grind
theorem alF [DecidableEq aA] {gI gp:avf} {b:bO} {xM:au9} (h:o.op= .mapUpdate fq x gI gp\/o.op= .insert fq x gI gp) (g9:P.underlying fq=au6 (.map bi bg)) (hu:P.underlying M.tid=au6 (.map bi bg)) (K:o5 P bi M.ee) (V:p3 P bg M.vc)
  (ae:af x=v) (ao:iE M z e m k es v) (mK:af gI=qQ) (oG:qQ=eb (dG P bi) (M.ee a)) (afa:af gp=xM) (afe:xM=eb (dG P bg) (M.vc b)) (aL:dp z e m k) {ue:List (aA×bO)} (oz:tp es a b=ue)
  (au:∀m',dp z e m' k->iE M z e m' k ue v->fM m m' (rU v)->D .fb undef m'):cj P af o m D:=by
 obtain ⟨r,rfl,U,aa,ap,aN⟩:=ao.bt;subst oz;have mL:=zt (x:= .map (M.cells (tp es a b)) M.tid) aL.dead aa;have uv:=OJ V b;have N9:=afa.trans afe;have eX:storable (af gp)=au7:=by rw[N9];cases ai:eb (dG P bg) (M.vc b)<;>first|rfl|grind [iX,cP]|grind [iX,cP,storable]
 have adG:∀c∈M.vc b,c∈(af gp).cells.toList:=by
  intro c ai;rw[N9];cases aY:dG P bg with
  |true=>grind [eb,aw2]
  |false=>
   have aa:=V.len b;rw[V.one aY] at aa
   match ab:M.vc b,aa with
   |[d],_=>rw[ab] at ai;simp at ai;subst ai;simp only[eb,List.headD_cons];have bb:=V.flat b;rw[ab] at bb;simp at bb;cases c<;>first|(simp[cP] at bb;done)|simp[aw2]
 refine cj.fb (n:=0) (.mapUpdate fq x gI gp M.tid bi bg r _ (M.ee a) (M.vc b) _ (M.ox (tp es a b)) _ h g9 hu ae U (Yq K V es) K.pos K.keyed (mK.trans oG) (K.len a) (K.flat a) (by rw[mK,oG];exact K.M3 a) ⟨a,mK.trans oG⟩ (W3 es) eX N9 (V.len b) adG (YX K a b es)) (au _ (aL.same mL ao.bd) ⟨r,rfl,by simp[Mem.put,nI.cells],aa,ap,aN⟩ mL)
end
end Go.av
end
section
namespace Go.av
section
variable {P:avd} {af:avf->au9} {o:Oper} {x y:avf} {t u:ave} {k aaL:avb} {a:Int}
noncomputable instance auZ:DecidableEq au9:=fun _ _=>Classical.propDecidable _
def yh (P:avd) (t:ave) (x y:au9):Prop:=(∃k cM a b,P.underlying t=au6 (.int cM)/\x= .int k a/\y= .int k b)\/(∃a b,P.underlying t=au6 .bool/\x= .bool a/\y= .bool b)\/(∃a b,P.underlying t=au6 .string/\x=str a/\y=str b)
def p0 (P:avd):List Field->Nat->List au9->List au9->Prop|[],_,[],[]=>True| f :: bm, i, x :: xs, y :: b7 => f.offset = i ∧ f.name ≠ "_" ∧ yh P f.type x y ∧ p0 P bm (i + 1) xs b7|_,_,_,_=>False
theorem akq {t:ave} {x y:au9} (h:yh P t x y) (d:Nat) (w:World):(Op.equalIn (d+1) t x y).run P w= .ok (decide (x=y)) w:=by
 rcases h with ⟨k,cM,a,b,h,rfl,rfl⟩|⟨a,b,h,rfl,rfl⟩|⟨a,b,h,rfl,rfl⟩
 ·rw[run_equalIn_int w d t k cM a b h];congr 1
  grind
 ·rw[run_equalIn_bool' w d t a b h];congr 1
  grind
 ·rw[str,str,run_equalIn_string w d t _ _ h];congr 1
  grind [ByteArray.toList_eq]
theorem ai8 {t:ave} {x y:au9} (h:yh P t x y):dG P t=ava:=by
 rcases h with ⟨k,cM,a,b,h,_⟩|⟨a,b,h,_⟩|⟨a,b,h,_⟩<;>simp[dG,h,jK]
theorem XF {t:ave} {cs:Array au9} {i:Nat} {v:au9} (aY:dG P t=ava) {d:TypeDesc} (aO:P.underlying t=au6 d) (ab:cs[i]? =au6 v) (w:World):(part t cs i).run P w= .ok v w:=by
 simp_all [dG,part,rO]
theorem aks {t:ave} {x y:au9} (h:yh P t x y):∃d,P.underlying t=au6 d:=by
 rcases h with ⟨k,cM,a,b,h,_⟩|⟨a,b,h,_⟩|⟨a,b,h,_⟩<;>exact ⟨_,h⟩
theorem WQ {pre pre':List au9} (d:Nat) (w:World):∀{bm:List Field} {i:Nat} {xs b7:List au9},p0 P bm i xs b7->pre.length=i->pre'.length=i->(Op.eqFields (d+1) (pre++xs).toArray (pre'++b7).toArray bm).run P w= .ok (decide (xs=b7)) w
 |[],i,[],[],_,_,_=>by rfl
 |f::bm,i,x::xs,y::b7,⟨U,aa,ap,aN⟩,aM,uF=>by
  obtain ⟨MN,aO⟩:=aks ap;have aY:=ai8 ap;have aU:=XF (P:=P) (cs:=(pre++x::xs).toArray) (i:=f.offset) (v:=x) aY aO (by grind) w;have aQ:=XF (P:=P) (cs:=(pre'++y::b7).toArray) (i:=f.offset) (v:=y) aY aO (by grind) w;have ar:=WQ (pre:=pre++[x]) (pre':=pre'++[y]) d w aN (by grind) (by grind);simp only[List.append_assoc,List.singleton_append] at ar;simp only[Op.eqFields];rw[if_pos aa];simp only[avH,aU,aQ,avB,akq ap d w];by_cases wO:x=y
  ·simp_all
  simp_all
 |[],_,_::_,_,h,_,_=>h.elim
 |[],_,[],_::_,h,_,_=>h.elim
 |_::_,_,[],_,h,_,_=>h.elim
 |_::_,_,_::_,[],h,_,_=>h.elim
theorem aqM {bm:Array Field} {xs b7:List au9} (aw:P.underlying t=au6 (.struct bm)) (aM:P.stoodInHeld t=ava) (h:p0 P bm.toList 0 xs b7) (w:World):(Op.equalIn 10000 t (.agg xs.toArray) (.agg b7.toArray)).run P w= .ok (decide (xs=b7)) w:=by
 have bb:P.fieldsOf t=bm:=by grind [avd.fieldsOf]
 rw[show (10000:Nat)=9998+1+1 from rfl,run_equalIn_struct w _ t _ _ (by grind) aM,bb];have:=WQ (P:=P) (pre:=[]) (pre':=[]) 9998 w h rfl rfl
 grind
theorem p0.flat:∀{bm:List Field} {i:Nat} {xs b7:List au9},p0 P bm i xs b7->xs.all cP=au7/\b7.all cP=au7
 |[],i,[],[],_=>⟨rfl,rfl⟩
 |f::bm,i,x::xs,y::b7,⟨_,_,ap,aN⟩=>by
  obtain ⟨aU,aQ⟩:=p0.flat aN;have:cP x=au7/\cP y=au7:=by rcases ap with ⟨k,cM,a,b,h,rfl,rfl⟩|⟨a,b,h,rfl,rfl⟩|⟨a,b,h,rfl,rfl⟩<;>exact ⟨rfl,rfl⟩
  grind
 |[],_,_::_,_,h=>h.elim
 |[],_,[],_::_,h=>h.elim
 |_::_,_,[],_,h=>h.elim
 |_::_,_,_::_,[],h=>h.elim
theorem FB {bm:Array Field} {xs b7:List au9} {r:Bool} (neq:Bool) (h:o.op= .binOp (if neq then .neq else .eql) t x y u) (aw:P.underlying t=au6 (.struct bm)) (aM:P.stoodInHeld t=ava) (a5:P.eqGuardType P.depth t=ava) (aC:p0 P bm.toList 0 xs b7)
  (ae:af x= .agg xs.toArray) (aI:af y= .agg b7.toArray) (aE:r=au7↔xs=b7):cW P af o (.bool (if neq then !r else r)):=by
 have uv:=aC.flat;refine rW (x:=x) (y:=y) (by rw[h];rfl) (by grind) (by grind [flat,iX]) (by grind [flat,iX]) rfl fun w=> ?_;have he:=aqM aw aM aC w;have et:decide (xs=b7)=r:=by
  grind
 rw[et] at he;cases neq with
 |false=>simp_all [execOp,run_eqGuard_agg,run_eql_struct]
 |true=>simp_all [execOp,run_eqGuard_agg,run_neq_struct]
end
section
variable {aA:Type} {T:ct aA} {z:Nat->bo} {e m:Mem} {k:Option Nat} {xs:List aA} {v:au9} {t:ave}
variable {P:avd} {af:avf->au9} {o:Oper} {x:avf} {i:TypeInfo} {D:Tag->au9->Mem->Prop}
end
@[reducible] def auX (n:Int):au9:= .int .i64 n
@[reducible] def auW (b:Bool):au9:= .bool b
@[reducible] def auY (b:Nat):au9:= .pointer (au6 ⟨b,0,au8⟩)
section
variable {P:avd} {ops l:List Oper} {K:(Nat->au9)->Mem->Prop} {fr:Nat->au9} {m:Mem} {o:Oper} {v:au9}
theorem arG (a5:wanted ops fr o=au7) (h:cW P (a8 fr) o v) (au:gu P ops l K (set fr o.dst v) m):gu P ops (o::l) K fr m:=gu.MH a5 (cj.pure h au)
theorem gI {j d:Nat} {want m6:Bool} (a5:o.guard=au6 (j,want)) (aO:(ops[j]?).bind (·.dst)=au6 d) (ab:fr d= .bool m6) (ag:m6= !want) (h:gu P ops l K (set fr o.dst undef) m):gu P ops (o::l) K fr m:=gu.Kg a5 aO ab ag h
end
structure as2 {aA:Type} (T:ct aA) (z:Nat->bo) (e m:Mem) (k:Option Nat) (xs:List aA) (v:au9):Prop where
 bt:fh T z m xs v
 fresh:∀b,c9 v=au6 b->e.next<=b\/k=au6 b
section
variable {aA:Type} {T:ct aA} {z z':Nat->bo} {e m m':Mem} {k q:Option Nat} {xs:List aA} {v kJ:au9} {t:ave}
variable {P:avd} {af:avf->au9} {o:Oper} {w:au9} {b7:List aA} {x y:avf} {u:ave} {i:TypeInfo} {K:au9->Mem->Prop} {D:Tag->au9->Mem->Prop}
end
end Go.av
end
section
namespace Go.av
theorem Xa (w:World):∀b,(gJ w).next<=b->(gJ w).aS b= .dead:=(Yi w).dead
theorem akX (w:World):jI (gJ w).aS (gJ w):=fun b ag=>⟨by
 by_cases h:b<w.heap.size
 ·simp[gJ,h,bo.mem]
 ·simp[gJ,h,bo.mem],by
 by_cases h:b<(gJ w).next
 ·exact h
 ·exact absurd (Xa w b (by omega)) ag⟩
theorem O6 {w:World} {b:Nat} (h:b<w.heap.size):((gJ w).aS b).hy:=by
 simp[gJ,h,bo.hy]
theorem VG {w:World} {b o:Nat} {v:au9} (h:(gJ w).load b o=au6 v):k8 (gJ w).aS b o=au6 v:=by
 unfold Mem.load at h;unfold k8;exact h
open Classical in
noncomputable def seen (w:World) (b:Nat) (c:au9):au9:=if dC (hd w) c c then c else (vt b c).getD c
theorem pE {w:World} {b:Nat} {c:au9} (h:dC (hd w) c c):seen w b c=c:=by simp[seen,h]
def sX (w:World) (c:au9):Prop:=dC (hd w) c c\/∃a,c= .slice (au6 a) 0 0
theorem tb {w:World} {c:au9} (h:cP c=au7):sX w c:= .inl (nq h)
theorem s5 {w:World} {b:Nat} {c:au9} (h:cP c=au7):seen w b c=c:=pE (nq h)
theorem auI {w:World} {b:Nat} {c:au9} (h:sX w c) (ag:b<w.heap.size):dC (hd w) (seen w b c) c:=by
 by_cases ab:dC (hd w) c c
 ·rw[pE ab];exact ab
 ·rcases h with h|⟨a,rfl⟩
  ·exact absurd h ab
  ·simp only[seen,ab,if_false,vt,axq];exact ⟨⟨b,0,0,0⟩,rfl,by simp[hd,ag], .inr (.inr (.inr (.inl ⟨rfl,rfl,a,rfl⟩)))⟩
theorem Xu {w:World} {b o:Nat} {c:au9} (h:sX w c) (ai:w.cell? ⟨b,o,au8⟩=au6 c):(gJ w).load b o=au6 (seen w b c):=by
 have bS:b<w.heap.size:=axh w ⟨b,o,au8⟩ ai;by_cases ab:dC (hd w) c c
 ·rw[pE ab];exact ajg ai ab
 ·rcases h with h|⟨a,rfl⟩
  ·exact absurd h ab
  ·simp[Mem.load,gJ,bS,ai,ab,vt,seen]
theorem aiM {w:World} {a:Addr} {v:au9} (h:w.cell? a=au6 v):a.spot=au8/\a.block<w.heap.size:=by
 refine ⟨?_,axh w a h⟩;simp only[World.cell?] at h;split at h
 ·split at h
  ·cases h
  ·rename_i aC;simpa using aC
 ·cases h
structure lZ (P:avd) {aA:Type} (T:ct aA) (G:aA->Prop):Prop where
 a7:P.cellsOf T.tid=T.a7
 pos:0<T.a7
 rd:∀{H:Type} {enc:ave×au9->H} {w:World} {jv:Nat} {cs:List au9} {x:DataW H×List MemPlace},av8 enc P w 0 (fun _=>au7) au7 jv T.tid cs=au6 x->
  (∀c∈cs,sX w c)/\∀b,(b<w.heap.size\/∀c∈cs,dC (hd w) c c)->∃a,T.rd (gJ w).aS a (cs.map (seen w b))/\G a
theorem lZ.conv {P:avd} {aA:Type} {T tU:ct aA} {G:aA->Prop} (h:lZ P T G) (aw:tU.tid=T.tid) (aC:tU.a7=T.a7) (aE:∀z x cs,T.rd z x cs->tU.rd z x cs):lZ P tU G where
 a7:=by rw[aw,aC];exact h.a7
 pos:=by rw[aC];exact h.pos
 rd:=fun e=>by rw[aw] at e;obtain ⟨U,aa⟩:=h.rd e;exact ⟨U,fun b ag=>by obtain ⟨x,ae,a5⟩:=aa b ag;exact ⟨x,aE _ _ _ ae,a5⟩⟩
def UE (k:avb) (n:Int):Prop:=k.min<=n/\n<=k.max
def UH (s:List UInt8):Prop:=s.length<=maxLen
def M7 {aA:Type} (_:aA):Prop:=True
def yz {aA:Type} (G:aA->Prop) (xs:List aA):Prop:=xs.length<=maxLen/\∀x∈xs,G x
theorem YH {P:avd} {t:ave} {k:avb} {i:TypeInfo} (aw:P.underlying t=au6 (.int k)) (aj:P.info? t=au6 i) (aC:i.size=1):lZ P (DX t k) (UE k) where
 a7:=by simp[DX,ct.flat,awg,aj,aC]
 pos:=by simp[DX,ct.flat]
 rd:=fun h=>by obtain ⟨n,rfl,_,hw⟩:=DataW.trod_int aw h;exact ⟨fun c ai=>by simp at ai;subst ai;exact tb rfl,fun b _=>⟨n,by simp[DX,ct.flat,s5 (w:=_) (b:=b) (c:= .int k n) rfl],by simpa[Lit.wf,UE] using hw⟩⟩
theorem YQ {P:avd} {t:ave} {i:TypeInfo} (aw:P.underlying t=au6 (.int .u8)) (aj:P.info? t=au6 i) (aC:i.size=1):lZ P (jC t) M7 where
 a7:=by simp[jC,ct.flat,awg,aj,aC]
 pos:=by simp[jC,ct.flat]
 rd:=fun h=>by
  obtain ⟨n,rfl,_,hw⟩:=DataW.trod_int aw h;refine ⟨fun c ai=>by simp at ai;subst ai;exact tb rfl,fun b _=>⟨awv n.toNat, ?_,trivial⟩⟩;simp[Lit.wf,avb.min,avb.max,avb.signed,avb.bits] at hw;have:((awv n.toNat).toNat:Int)=n:=by simp;omega
  show [awn .u8 n].map (seen _ b)=[awn .u8 ((awv n.toNat).toNat:Int)];rw[this];simp[s5 (w:=_) (b:=b) (c:= .int .u8 n) rfl]
theorem auJ {P:avd} {t:ave} {i:TypeInfo} (aw:P.underlying t=au6 .bool) (aj:P.info? t=au6 i) (aC:i.size=1):lZ P (z7 t) M7 where
 a7:=by simp[z7,ct.flat,awg,aj,aC]
 pos:=by simp[z7,ct.flat]
 rd:=fun h=>by obtain ⟨n,rfl,_⟩:=DataW.trod_bool aw h;exact ⟨fun c ai=>by simp at ai;subst ai;exact tb rfl,fun b _=>⟨n,by simp[z7,ct.flat,s5 (w:=_) (b:=b) (c:= .bool n) rfl],trivial⟩⟩
theorem apx {P:avd} {t:ave} {i:TypeInfo} (aw:P.underlying t=au6 .string) (aj:P.info? t=au6 i) (aC:i.size=1):lZ P (DY t) UH where
 a7:=by simp[DY,ct.flat,awg,aj,aC]
 pos:=by simp[DY,ct.flat]
 rd:=fun h=>by obtain ⟨n,rfl,_,aC⟩:=DataW.trod_string aw h;exact ⟨fun c ai=>by simp at ai;subst ai;exact tb rfl,fun b _=>⟨n.data.toList,by simp[DY,ct.flat,str,s5 (w:=_) (b:=b) (c:= .string n) rfl],by simpa[UH] using aC⟩⟩
theorem xm {P:avd} {aA:Type} {T:ct aA} {G:aA->Prop} {t:ave} (iR:lZ P T G) (aw:P.underlying t=au6 (.slice T.tid)) {H:Type} {enc:ave×au9->H} {w:World} {jv:Nat} {cs:List au9} {x:DataW H×List MemPlace}
  (h:av8 enc P w 0 (fun _=>au7) au7 jv t cs=au6 x):∃c,cs=[c]/\sX w c/\∀b,(b<w.heap.size\/dC (hd w) c c)->∃xs,eu T (gJ w).aS xs (seen w b c)/\yz G xs:=by
 rcases Deep.open_slice aw h with ⟨rfl,_⟩|⟨a,len,cap,m,n,D,Md,rfl,_,az,hm,jT,_,ae⟩
 ·exact ⟨_,rfl,tb rfl,fun b _=>⟨[],by rw[s5 rfl];exact .nil,by simp[yz]⟩⟩
 ·simp only[if_true] at jT;subst jT;refine ⟨_,rfl, ?_⟩;rcases Nat.eq_zero_or_pos m with bf|gF
  ·subst bf;have gd:len=0:=by omega
   subst gd;refine ⟨.inr ⟨a,rfl⟩,fun b ag=>⟨[], ?_,by simp[yz]⟩⟩;by_cases ab:dC (hd w) (.slice (au6 a) 0 0) (.slice (au6 a) 0 0)
   ·rw[pE ab];obtain ⟨e,U,aa,_⟩:=ab;obtain ⟨aS,off,spot⟩:=a;simp only at U aa;subst U;exact .inr ⟨aS,off,0,rfl,O6 (u6 aa).1, .inr ⟨by simp[cJ],avm _⟩,fun i x aj=>by simp at aj⟩
   ·have ag:b<w.heap.size:=by
     rcases ag with ag|ag
     ·exact ag
     ·exact absurd ag ab
    simp only[seen,ab,if_false,vt,axq];exact .inr ⟨b,0,0,rfl,O6 ag, .inr ⟨by simp[cJ],avm _⟩,fun i x aj=>by simp at aj⟩
  ·have aC:=iR.a7;have aM:=iR.pos;obtain ⟨p7,aU,_⟩:=ae 0 gF;obtain ⟨_,aQ,bT⟩:=World.cells?_some aU;rw[aC] at aQ bT;have cT:=bT 0 aM;obtain ⟨kJ,wM⟩:∃v,p7[0]? =au6 v:=⟨p7[0]'(by omega),by simp[show 0<p7.length by omega]⟩
   rw[wM] at cT;simp only[Nat.zero_mul] at cT;have uo:(a.add 0).add 0=a:=by simp[Addr.add]
   rw[uo] at cT;obtain ⟨Vu,gb⟩:=aiM cT;obtain ⟨aS,off,spot⟩:=a;simp only at Vu gb;subst Vu;have ab:dC (hd w) (.slice (au6 ⟨aS,off,au8⟩) len m) (.slice (au6 ⟨aS,off,au8⟩) len m):=
    ⟨⟨aS,0,0,0⟩,rfl,by simp[hd,gb], .inl ⟨by simp only[maxLen] at hm;simp only[cJ];omega,by simp⟩⟩
   refine ⟨.inl ab,fun b _=> ?_⟩;rw[pE ab];have kS:∀i,i<len->∃y:aA,G y/\∃ds,T.rd (gJ w).aS y ds/\mR (gJ w).aS aS (off+i*T.a7) ds:=by
    intro i aj;obtain ⟨ci,b6,cc⟩:=ae i (by omega);obtain ⟨_,eF,jk⟩:=World.cells?_some b6;rw[aC] at eF jk;obtain ⟨ew,et⟩:=iR.rd cc;obtain ⟨y,aI,kp⟩:=et aS (.inl gb);refine ⟨y,kp,_,aI,fun j u aZ=> ?_⟩;rw[awb] at aZ;cases ai:ci[j]? with
    |none=>rw[ai] at aZ;cases aZ
    |some c=>rw[ai] at aZ;simp at aZ;subst aZ;have Va:=(avr.1 ai).1;have qs:=jk j (by omega);rw[ai,mT,mT] at qs;exact VG (Xu (ew c (av4 ai)) qs)
   have:∃xs:List aA,xs.length=len/\(∀y∈xs,G y)/\∀(i:Nat) (y:aA),xs[i]? =au6 y->∃ds,T.rd (gJ w).aS y ds/\mR (gJ w).aS aS (off+i*T.a7) ds:=by
    clear ae az hm ab aU gF;revert kS;generalize len=l;induction l with
    |zero=>intro _;exact ⟨[],rfl,fun y aI=>by simp at aI,fun i y aj=>by simp at aj⟩
    |succ l ar=>
     intro kS;obtain ⟨xs,bu,eK,e2⟩:=ar fun i aj=>kS i (by omega);obtain ⟨y,kp,aI⟩:=kS l (by omega);refine ⟨xs++[y],by simp[bu],fun u hu=>by rcases List.mem_append.1 hu with hu|hu;exact eK u hu;simp at hu;subst hu;exact kp,fun i u aj=> ?_⟩;by_cases NG:i<l
     ·rw[avP (by omega)] at aj;exact e2 i u aj
     ·have bS:=(avr.1 aj).1;simp at bS;have:i=l:=by omega
      subst this;rw[avO (by omega)] at aj;simp[bu] at aj;subst aj;exact aI
   obtain ⟨xs,bu,eK,e2⟩:=this;refine ⟨xs, .inr ⟨aS,off,m,by rw[bu],O6 gb, .inr ⟨by simp only[maxLen] at hm;simp only[cJ];omega,by rw[bu];exact az⟩,e2⟩,by omega,eK⟩
theorem auK {P:avd} {aA:Type} {T:ct aA} {G:aA->Prop} {t:ave} {i:TypeInfo} (iR:lZ P T G) (aw:P.underlying t=au6 (.slice T.tid)) (aj:P.info? t=au6 i) (aC:i.size=1):lZ P (Mm t T) (yz G) where
 a7:=by simp[Mm,awg,aj,aC]
 pos:=by simp[Mm]
 rd:=fun h=>by obtain ⟨c,rfl,U,aa⟩:=xm iR aw h;refine ⟨fun d aO=>by simp at aO;subst aO;exact U,fun b ag=> ?_⟩;obtain ⟨xs,ae,kp⟩:=aa b (ag.imp id fun h=>h c (by simp));exact ⟨xs,⟨_,rfl,ae⟩,kp⟩
theorem X7 {P:avd} {aA:Type} {T:ct aA} {G:aA->Prop} {t:ave} (iR:lZ P T G) (aw:P.underlying t=au6 (.slice T.tid)) {H:Type} {enc:ave×au9->H} {w:World} {base:Nat} {v:au9} {d:DataW H} {cn:List MemPlace}
  (ew:axf P w .any base t v) (h:DataW.Trod enc P w 0 (fun _=>au7) au7 t v d cn):cN (hd w) v v/\∃xs,eu T (gJ w).aS xs v/\yz G xs:=by
 obtain ⟨jv,bb⟩:=h;obtain ⟨c,ai,U,aa⟩:=xm iR aw bb;have ab:dC (hd w) v v/\c=v:=by
  simp only[axf,aw,Cell.okWide,Cell.ok] at ew;cases v with
  |slice a l ga=>
   have hM:c= .slice a l ga:=by simpa[aw2] using ai.symm
   refine ⟨?_,hM⟩;cases a with
   |none=>exact rfl
   |some a=>
    simp only at ew;obtain ⟨az,hm,bL⟩:=ew;obtain ⟨_,aC,row,cells,rm,_⟩:=bL;have bS:a.block<w.heap.size:=by
     by_cases ag:a.block<w.heap.size
     ·exact ag
     ·simp[World.shape?,Array.getElem?_eq_none (Nat.le_of_not_lt ag)] at rm
    obtain ⟨aS,off,spot⟩:=a;simp only at aC bS;subst aC;refine ⟨⟨aS,0,0,0⟩,rfl,by simp[hd,bS], .inl ⟨?_,by simp⟩⟩;simp only[avb.max,avb.signed,avb.bits] at hm;simp only[cJ];simp at hm;omega
  |_=>simp at ew
 obtain ⟨ab,rfl⟩:=ab;refine ⟨cN.pA ab, ?_⟩;obtain ⟨xs,ae⟩:=aa 0 (.inr ab);rw[pE ab] at ae;exact ⟨xs,ae⟩
theorem aky {P:avd} {w:World} {base:Nat} {u:ave} {c:au9} (h:Cell.okWide P w .any base u c) (ai:sX w c):dC (hd w) c c:=by
 rcases ai with ai|⟨a,rfl⟩
 ·exact ai
 ·cases hu:P.underlying u with
  |none=>simp[Cell.okWide,Cell.ok,hu] at h
  |some d=>
   cases d<;>simp only[Cell.okWide,Cell.ok,hu] at h
   obtain ⟨_,_,_,aC,row,cells,rm,_⟩:=h;have bS:a.block<w.heap.size:=by
    by_cases ag:a.block<w.heap.size
    ·exact ag
    ·simp[World.shape?,Array.getElem?_eq_none (Nat.le_of_not_lt ag)] at rm
   obtain ⟨aS,off,spot⟩:=a;simp only at aC bS;subst aC;exact ⟨⟨aS,0,0,0⟩,rfl,by simp[hd,bS], .inl ⟨by simp[cJ],by simp⟩⟩
theorem X6 {P:avd} {aA:Type} {T:ct aA} {G:aA->Prop} {bm:Array Field} {H:Type} {enc:ave×au9->H} {w:World} {base:Nat} {v:au9} {d:DataW H} {cn:List MemPlace}
  (iR:∀{jv:Nat} {cs:List au9},av8 enc P w 0 (fun _=>au7) au7 jv T.tid cs=au6 (d,cn)->(∀c∈cs,sX w c)/\((∀c∈cs,dC (hd w) c c)->∃a,T.rd (gJ w).aS a cs/\G a)) (aw:P.underlying T.tid=au6 (.struct bm))
  (ew:axf P w .any base T.tid v) (h:DataW.Trod enc P w 0 (fun _=>au7) au7 T.tid v d cn):cN (hd w) v v/\∃x cs,v= .agg cs.toArray/\T.rd (gJ w).aS x cs/\G x:=by
 obtain ⟨jv,bb⟩:=h;simp only[axf,aw] at ew;obtain ⟨cs,rfl,b9,ts,Vv,_,yN⟩:=ew;have pi:av8 enc P w 0 (fun _=>au7) au7 jv T.tid cs.toList=au6 (d,cn):=by simpa[aw2] using bb
 obtain ⟨U,aa⟩:=iR pi;have k4:∀c∈cs.toList,dC (hd w) c c:=by intro c ai;obtain ⟨i,aj⟩:=List.getElem?_of_mem ai;obtain ⟨u,_,hu⟩:=yN i c (by simpa using aj);exact aky hu (U c ai)
 obtain ⟨x,ae,kp⟩:=aa k4;refine ⟨⟨cs,rfl, ?_⟩,x,cs.toList,by simp,ae,kp⟩;have:∀l:List au9,(∀c∈l,dC (hd w) c c)->br (dC (hd w)) l l:=by
  intro l;induction l with
  |nil=>intro _;exact avo
  |cons c l ar=>intro az;exact ⟨az c (by simp),ar fun d aO=>az d (by simp[aO])⟩
 exact this _ k4
theorem auF {P:avd} {aA:Type} {T:ct aA} {G:aA->Prop} {bm:Array Field} (iR:lZ P T G) (aw:P.underlying T.tid=au6 (.struct bm)) {H:Type} {enc:ave×au9->H} {w:World} {base:Nat} {v:au9} {d:DataW H} {cn:List MemPlace}
  (ew:axf P w .any base T.tid v) (h:DataW.Trod enc P w 0 (fun _=>au7) au7 T.tid v d cn):cN (hd w) v v/\∃x cs,v= .agg cs.toArray/\T.rd (gJ w).aS x cs/\G x:=
 X6 (fun h=>(iR.rd h).imp id fun aa k4=>by
  obtain ⟨x,ae,kp⟩:=aa 0 (.inr k4);have:∀l:List au9,(∀c∈l,dC (hd w) c c)->l.map (seen w 0)=l:=by
   intro l;induction l with
   |nil=>intro _;rfl
   |cons c l ar=>intro az;rw[awe,pE (az c (by simp)),ar fun d aO=>az d (by simp[aO])]
  rw[this _ k4] at ae;exact ⟨x,ae,kp⟩) aw ew h
theorem atr {P:avd} {H:Type} {enc:ave×au9->H} {w:World} {n:Nat} {bm:Array Field} {cs:List au9} {xs:List (DataW H×List MemPlace)} (hlen:xs.length=bm.size)
  (bb:∀(i:Nat) (f:Field),bm[i]? =au6 f->av8 enc P w 0 (fun _=>au7) au7 n f.type ((cs.drop f.offset).take (P.cellsOf f.type))=xs[i]?) (i:Nat) {f:Field} (aj:bm[i]? =au6 f):
  ∃y,av8 enc P w 0 (fun _=>au7) au7 n f.type ((cs.drop f.offset).take (P.cellsOf f.type))=au6 y:=by
 have bS:=(awB.1 aj).1;rw[bb i f aj];exact ⟨xs[i]'(by omega),by simp[show i<xs.length by omega]⟩
theorem auG {P:avd} {aA:Type} {T:ct aA} {t e:ave} (aw:P.underlying t=au6 (.slice e)) {H:Type} {enc:ave×au9->H} {w:World} {v:au9} {d:DataW H} {cn:List MemPlace} {z:Nat->bo} {xs:List aA}
  (h:DataW.Trod enc P w 0 (fun _=>au7) au7 t v d cn) (aC:eu T z xs v):xs.length=0\/∃ji spare,d= .slice ji spare/\ji.length=xs.length:=by
 obtain ⟨jv,bb⟩:=h;rcases aC with ⟨rfl,rfl⟩|⟨b,off,c,rfl,_⟩
 ·exact .inl rfl
 ·rcases Deep.open_slice aw bb with ⟨bf,_⟩|⟨a,len,cap,m,n,D,Md,ai,_,_,_,_,ae,_⟩
  ·simp[aw2] at bf
  ·simp only[aw2,List.cons.injEq,avS.injEq,and_true] at ai;obtain ⟨_,U,_⟩:=ai;injection ae with ae _;exact .inr ⟨_,_,ae,by simp[<-U]⟩
end Go.av
end
section
namespace Go.av
section
variable {z:Nat->bo} {e m:Mem} {k:Option Nat} {b n:Nat} {cs:List au9} {t:ave} {v:au9}
variable {P:avd} {af:avf->au9} {o:Oper} {x:avf} {i:TypeInfo} {D:Tag->au9->Mem->Prop}
theorem iM.afy (h:iM z e m k b cs t) (aL:dp z e m k):∃z',eR z z'/\dp z' e m k/\mR z' b 0 cs/\∀p,eE p (au6 b)->∀c,p=au6 c->z' c=z c:=by
 refine ⟨iQ z m (au6 b),z0 fun c ai=>by cases ai;exact h.dead,⟨GQ aL.bl (fun c ai=>by cases ai;exact ⟨h.lt,by rw[h.aS];rfl⟩),aL.dead,aL.mD,aL.next,aL.kept⟩,fun j u aZ=> ?_,fun p aM c ai=> ?_⟩
 ·simp only[k8,iQ,if_true,h.aS,avD];grind
 ·unfold iQ;rw[if_neg (aM c ai)]
theorem iM.freeze (h:iM z e m k b cs t) (a1:e.next<=b) (aL:dp z e m k):∃z',dr e.next z z'/\dp z' e m k/\mR z' b 0 cs/\∀p,eE p (au6 b)->∀c,p=au6 c->z' c=z c:=by
 obtain ⟨z',U,aa,ap,aN⟩:=h.afy aL;refine ⟨iQ z m (au6 b),⟨z0 fun c ai=>by cases ai;exact h.dead,fun c ai=> ?_⟩,⟨GQ aL.bl (fun c ai=>by cases ai;exact ⟨h.lt,by rw[h.aS];rfl⟩),aL.dead,aL.mD,aL.next,aL.kept⟩,fun j u aZ=> ?_,fun p aM c ai=> ?_⟩
 ·grind [iQ]
 ·simp only[k8,iQ,if_true,h.aS,avD];grind
 ·unfold iQ;rw[if_neg (aM c ai)]
theorem alC (h:o.op= .alloc t) (aj:P.info? t=au6 i) {cR:au9} (a4:i.zero=au6 cR) (db:cR.cells.toList.all cP=au7) (aC:cR.cells.size=i.size) (cs:List au9) (ai:cR.cells.toList=cs) (aL:dp z e m k)
  (au:∀b m',e.next<=b->dp z e m' k->iM z e m' k b cs t->fM m m' au8->(∀p,(∀c,p=au6 c->c<m.next)->eE p (au6 b))->D .new (.pointer (au6 ⟨b,0,au8⟩)) m'):cj P af o m D:=by
 subst ai;obtain ⟨aa,ap,aN,bK⟩:=P7 (L:=cR.cells.toList) (t:=t) aL;exact cj.new (.alloc t i cR h aj a4 db aC) (au _ _ aL.next aa ap aN bK)
theorem af3 (h:o.op= .box t x) (aj:P.info? t=au6 i) (ae:af x=v) (ab:storable v=au7) (cs:List au9) (ai:v.cells.toList=cs) (aC:cs.length=i.size) (aL:dp z e m k)
  (au:∀b m',e.next<=b->dp z e m' k->iM z e m' k b cs t->fM m m' au8->(∀p,(∀c,p=au6 c->c<m.next)->eE p (au6 b))->D .new (.pointer (au6 ⟨b,0,au8⟩)) m'):cj P af o m D:=by
 subst ae ai;obtain ⟨aa,ap,aN,bK⟩:=P7 (L:=(af x).cells.toList) (t:=t) aL;exact cj.new (.box t x i h aj ab (by grind)) (au _ _ aL.next aa ap aN bK)
theorem ZX {fn:Fn} {cap:Array avf} {caps:Array au9} (h:o.op= .makeFunc fn #[] cap) (ai:cap.map af=caps) (aC:caps.toList.all storable=au7):cW P af o (.func fn #[] caps):=by
 subst ai;have:=cW.func (P:=P) (af:=af) (o:=o) fn #[] cap h (fun x ae=>by
  grind)
 grind
theorem zC {f:FuncId} {y:avf} {as:Array avf} {ts:Array ave} {args caps all:Array au9} (h:o.op= .call {callee:= .value y,args:=as,argTypes:=ts}) (bb:af y= .func (.func f) #[] caps) (aY:as.map af=args) (k4:args++caps=all):callee o af f all:=
 ⟨_,as,ts,#[],caps,h,bb,by grind⟩
end
open Classical in
noncomputable def Fv {aA bO:Type} (xs:List aA) (f:Bool->Option bO):Option bO:=if xs=[] then (if f au7=f ava then f au7 else au8) else f ava
theorem FX {aA bO:Type} {xs:List aA} {f:Bool->Option bO} {r:bO} (h:Fv xs f=au6 r) (t:Bool) (aw:t=au7->xs=[]):f t=au6 r:=by
 unfold Fv at h;by_cases ae:xs=[]
 ·rw[if_pos ae] at h;split at h
  ·cases t
   ·rename_i he;rw[<-he];exact h
   ·exact h
  ·cases h
 ·rw[if_neg ae] at h;cases t
  ·exact h
  ·exact absurd (aw rfl) ae
section
variable {aA bO:Type} {T:ct aA} {z:Nat->bo} {e m:Mem} {k:Option Nat} {xs:List aA} {v:au9} {t u:ave} {f:Bool->Option bO} {r:bO}
variable {P:avd} {af:avf->au9} {o:Oper} {x y:avf} {g5:ave}
theorem xn (neq:Bool) (h:o.op= .binOp (if neq then .neq else .eql) t x y u) (aw:P.underlying t=au6 (.slice g5)) (ae:af x= .slice au8 0 0) (aI:af y= .slice au8 0 0):cW P af o (.bool (!neq)):=by
 refine rW (x:=x) (y:=y) (by rw[h];rfl) (by grind) (by rw[ae];rfl) (by rw[aI];rfl) rfl fun w=> ?_
 grind [eqGuard,Lib.run_eql_slice_nil,run_neq_slice_nil_any,execOp,avH,avB,Sem.run_pure]
theorem eu.Ox (h:eu T z xs v):(v= .slice au8 0 0/\xs=[])\/∃a l c,v= .slice (au6 a) l c:=by
 rcases h with h|⟨b,off,c,rfl,_⟩
 ·grind
 grind
theorem fh.Ox (h:fh T z m xs v):(v= .slice au8 0 0/\xs=[])\/∃a l c,v= .slice (au6 a) l c:=by
 rcases h with h|⟨b,f0,L,c,rfl,_⟩
 ·grind
 grind
end
end Go.av
end
section
namespace Go.av
section
variable {aA:Type} {T:ct aA} {z z':Nat->bo} {e m m':Mem} {k p q:Option Nat} {xs r:List aA} {v:au9} {t u:ave} {b:Nat}
variable {P:avd} {af:avf->au9} {o:Oper} {x y:avf} {i:TypeInfo} {D:Tag->au9->Mem->Prop} {g5:ave}
theorem HR (h:o.op= .call {callee:= .builtin .len,args:=#[x],argTypes:=#[t]}) (aw:P.underlying t=au6 (.slice g5)) (ae:af x=v) (aC:∃a c,v= .slice a xs.length c):cW P af o (.int .i64 xs.length):=by
 obtain ⟨a,c,rfl⟩:=aC;exact .len x t g5 a _ c h aw ae
theorem dM.elem {n:Int} {a:aA} {f0 l c:Nat} (h:dM T z e m k xs v) (ab:v= .slice (au6 ⟨b,f0,au8⟩) l c) (a5:aD xs n=au6 a):
  ∃cs,T.rd z a cs/\xs[n.toNat]? =au6 a/\∀(j:Nat) (u:au9),cs[j]? =au6 u->m.load b (f0+n.toNat*T.a7+j)=au6 u:=by
 obtain ⟨bf,U,aa⟩:=nr a5;rcases h.bt with ⟨_,rfl⟩|⟨cB,f1,L,bQ,rfl,ag,_,_,az,_,aN⟩
 ·grind
 ·obtain ⟨cs,aU,aQ⟩:=aN _ a aa;cases ab;exact ⟨cs,aU,aa,fun j u aZ=>by simp only[Mem.load,ag];exact aQ j u aZ⟩
def ct.as (T:ct aA) (t:ave):ct aA:={T with tid:=t}
theorem alB {x0:aA} {n:Nat} {c:List au9} (h:o.op= .alloc t) (aj:P.info? t=au6 i) {cR:au9} (a4:i.zero=au6 cR) (db:cR.cells.toList.all cP=au7) (aC:cR.cells.size=i.size) (ai:cR.cells.toList=(avw n c).flatten) (et:T.rd z x0 c) (a1:avA n cJ=au7) (aL:dp z e m k)
  (au:∀b m',dp z e m' k->dM (T.as t) z e m' k (avw n x0) (.slice (au6 ⟨b,0,au8⟩) n n)->fM m m' au8->(∀p,(∀c,p=au6 c->c<m.next)->eE p (au6 b))->D .new (.pointer (au6 ⟨b,0,au8⟩)) m'):cj P af o m D:=by
 obtain ⟨aa,ap,aN,bK⟩:=P7 (L:=cR.cells.toList) (t:=t) aL;have hlen:=T.len _ _ _ et;have az:cR.cells.toList.length=n*T.a7:=by simp_all
 have oD:n<cJ:=by simp_all
 refine cj.new (.alloc t i cR h aj a4 db aC) (au _ _ aa ⟨fh.yq ⟨m.next,cR.cells.toList,n,by simp,ap.aS,ap.lt,ap.dead, ?_, .inr ⟨oD,by simp, ?_⟩,fun j x aZ=> ?_⟩,fun b ag=>by cases ag;exact aL.next⟩ aN bK)
 ·grind [ct.as]
 ·grind [ct.as]
 ·obtain ⟨bS,ae⟩:=avr.1 aZ;simp at bS ae;subst ae;refine ⟨c,et,fun q u bd=> ?_⟩;have aeP:=(avr.1 bd).1;rw[ai];have key:∀(n j:Nat),j<n->(avw n c).flatten[j*T.a7+q]? =au6 u:=by
   intro n;induction n with
   |zero=>grind
   |succ n ar=>
    intro j aZ;rw[axP,axl];cases j with
    |zero=>grind
    |succ j=>
     rw[avO (by grind),hlen,show (j+1)*T.a7+q - T.a7=j*T.a7+q by grind]
     grind
  exact key n j bS
theorem af5 {b6:avb} {n:Int} {a:aA} {l:Nat} (h:o.op= .indexAddr t x y) (aw:P.underlying t=au6 (.array l g5)) (aj:P.info? g5=au6 i) (b9:i.size=T.a7) (ae:af x= .pointer (au6 ⟨b,0,au8⟩)) (aI:af y= .int b6 n) (aC:dM T z e m k xs (.slice (au6 ⟨b,0,au8⟩) l l)) (a5:aD xs n=au6 a)
  (au:∀cs,T.rd z a cs->xs[n.toNat]? =au6 a->(∀(j:Nat) (u:au9),cs[j]? =au6 u->m.load b (n.toNat*T.a7+j)=au6 u)->D .pure (.pointer (au6 ⟨b,n.toNat*T.a7,au8⟩)) m):cj P af o m D:=by
 obtain ⟨cs,aU,aQ,bT⟩:=aC.elem rfl a5;obtain ⟨bf,U,aa⟩:=nr a5;have az:xs.length=l:=by
  obtain ⟨a',bQ,he⟩:=aC.bt.len
  grind
 have:=cW.za (P:=P) (af:=af) (o:=o) t x y g5 i b 0 l b6 n h aw aj ae aI bf (by grind)
 grind [cj.pure]
end
end Go.av
end
section
namespace Go.av
structure mA (D:Nat->Type) where
 T:(t:Nat)->ct (D t)
 ee:(t:Nat)->D t->List au9
section
variable (D:Nat->Type)
inductive bZ where
 |int (k:avb) (n:Int)
 |bool (b:Bool)
 |str (s:List UInt8)
 |g2|wY|py
 |ad (e:Nat) (xs:List (D e))
 |mp (t bi bg:Nat) (es:List (D bi×D bg))
 |own (i:Nat)
 |uR
 |fn (f:Nat) (is:List Nat)
inductive aX where
 |un|undef
 |c (v:bZ D)
 |agg (t:Nat) (cs:List (bZ D))
 |box (i off:Nat)
 |arr (i:Nat)
 |el (i e:Nat) (cL:Int) (off:Nat)
 |g4 (t:Nat) (cs:List (bZ D)) (off:Nat)
 |fn (f:Nat) (caps:List (Nat×List (bZ D)))
 |nz (l:List (bZ D⊕(Nat×List (bZ D))))
 |cut (i e bD n:Nat)
 |full (e:Nat) (xs:List (D e))
 |uj (g:Nat) (s:List UInt8)
inductive aT where
 |dead
 |ad (e:Nat) (xs:List (D e)) (bl w:Bool)
 |box (t:Nat) (cs:List (bZ D)) (bl w:Bool)
 |recv (t:Nat) (cs:List (bZ D)) (w:Bool)
 |arr (e t n:Nat) (xs:List (D e)) (w:Bool)
 |map (t bi bg:Nat) (es:List (D bi×D bg)) (bl w:Bool)
 |nest (e t:Nat) (up:Option (List (D t)->D e)) (dH:List (List (D t))) (hole:Option (Int×Nat)) (w:Bool)
end
section
variable {D:Nat->Type} (G:mA D)
def mA.M (t bi bg:Nat):nI (D bi) (D bg):=⟨G.ee bi,G.ee bg,t⟩
def q6 (vs:List au9) (i:Nat) (g:au9):Prop:=vs[i]? =au6 g/\∃b,g= .pointer (au6 ⟨b,0,au8⟩)
def dK (z:Nat->bo) (vs:List au9):bZ D->au9->Prop| .int k n,v=>v= .int k n| .bool b,v=>v= .bool b| .str s,v=>v=av.str s| .g2,v=>v= .slice au8 0 0| .wY,v=>v= .pointer au8| .py,v=>v= .map au8| .ad e xs,v=>eu (G.T e) z xs v| .mp t bi bg es,v=>lY (G.M t bi bg) z es v| .own i,v=>vs[i]? =au6 v/\storable v=au7/\v.cells=#[v]| .uR,v=>v= .nilFunc| .fn f is,v=>∃gs:List au9,v= .func (.func f) #[] gs.toArray/\br (q6 vs) is gs
def tw (z:Nat->bo) (vs:List au9):bZ D⊕(Nat×List (bZ D))->au9->Prop| .inl c,v=>dK G z vs c v| .inr p,v=>∃ds:List au9,v= .agg ds.toArray/\br (dK G z vs) p.2 ds
def mq (z:Nat->bo) (vs:List au9) (cs:List (bZ D)) (off:Nat) (v:au9):Prop:=∃b o ds,v= .pointer (au6 ⟨b,o+off,au8⟩)/\mR z b o ds/\br (dK G z vs) cs ds
def oe (a7 bD n:Nat) (w v:au9):Prop:=
 (w= .slice au8 0 0/\v= .slice au8 0 0/\bD=0/\n=0)\/
 ∃b f0 l c off bQ,w= .slice (au6 ⟨b,f0,au8⟩) l c/\v= .slice (au6 ⟨b,off,au8⟩) (n - bD) bQ/\bD<=n/\n<=l/\(off=f0+bD*a7\/(n<=bD/\off=f0))/\((c=cJ/\bQ=cJ)\/(c<cJ/\bQ=c - bD))
def rel (z:Nat->bo) (vs:List au9):aX D->au9->Prop| .un,_=>True| .undef,v=>v=_root_.Go.undef| .c c,v=>dK G z vs c v| .agg _ cs,v=>∃ds:List au9,v= .agg ds.toArray/\br (dK G z vs) cs ds| .box i off,v=>∃b,vs[i]? =au6 (.pointer (au6 ⟨b,0,au8⟩))/\v= .pointer (au6 ⟨b,off,au8⟩)| .arr i,v=>∃b l,vs[i]? =au6 (.slice (au6 ⟨b,0,au8⟩) l l)/\v= .pointer (au6 ⟨b,0,au8⟩)| .el i e cL off,v=>∃b f0 l c,vs[i]? =au6 (.slice (au6 ⟨b,f0,au8⟩) l c)/\v= .pointer (au6 ⟨b,f0+cL.toNat*(G.T e).a7+off,au8⟩)| .g4 _ cs off,v=>mq G z vs cs off v| .fn f caps,v=>∃gs:List au9,v= .func (.func f) #[] gs.toArray/\br (fun c g=>mq G z vs c.2 0 g) caps gs| .nz l,v=>∃ds:List au9,v= .tuple ds.toArray/\br (tw G z vs) l ds| .cut i e bD n,v=>∃w,dK G z vs (.own i) w/\oe (G.T e).a7 bD n w v| .uj g s,v=>∃n:Nat,ou[n]? =au6 s/\v= .chan (au6 (g*4096+n))| .full e xs,v=>eu (G.T e) z xs v/\xs.length<cJ/\∃a,v= .slice a xs.length xs.length
def p1 (t:ave):ct au9 where
 a7:=1
 tid:=t
 rd:=fun _ v cs=>cs=[v]/\storable v=au7/\v.cells=#[v]
 len:=fun _ v cs h=>by rw[h.1];rfl
 mono:=fun _ _ _ _ _ h=>h
 one:=fun _ v cs h c ai=>by rw[h.1] at ai;simp at ai;subst ai;exact h.2
def sg {aA:Type} (T:ct aA) (z:Nat->bo) (n eS j:Nat) (xs:List aA) (w:au9):Prop:=
 (w= .slice au8 0 0/\xs=[])\/
 ∃b f0 L c,w= .slice (au6 ⟨b,f0,au8⟩) xs.length c/\z b= .lock eS j L T.tid/\n<=b/\f0+xs.length*T.a7<=L.length/\(c=cJ\/(c<cJ/\xs.length<=c/\f0+c*T.a7<=L.length))/\
  ∀(i:Nat) (x:aA),xs[i]? =au6 x->∃cs,T.rd z x cs/\nk L (f0+i*T.a7) cs
def L8 (z z':Nat->bo) (n:Nat):Prop:=∀b j L t,z b= .lock n j L t->z' b=z b
theorem sg.iL {aA:Type} {T:ct aA} {z z':Nat->bo} {n eS j:Nat} {xs:List aA} {w:au9} (h:sg T z n eS j xs w) (a4:eR z z') (au:L8 z z' eS):sg T z' n eS j xs w:=by
 rcases h with h|⟨b,f0,L,c,U,aa,ap,aN,bK,ed⟩
 ·exact .inl h
 ·refine .inr ⟨b,f0,L,c,U,by rw[au b j L _ aa];grind,ap,aN,bK,fun i x aj=> ?_⟩;obtain ⟨cs,aU,aQ⟩:=ed i x aj;exact ⟨cs,T.mono _ _ a4 _ _ aU,aQ⟩
theorem sg.yp {aA:Type} {T:ct aA} {z:Nat->bo} {n n' eS j:Nat} {xs:List aA} {w:au9} (h:sg T z n eS j xs w) (a1:n'<=n):sg T z n' eS j xs w:=by
 rcases h with h|⟨b,f0,L,c,U,aa,ap,aN⟩
 ·exact .inl h
 ·exact .inr ⟨b,f0,L,c,U,aa,avz a1 ap,aN⟩
def fu (v:au9):Nat:=match c9 v with|some b=>b+1|none=>0
def TY (e t:Nat) (up:Option (List (D t)->D e)):Prop:=∀f,up=au6 f->(G.T e).a7=1/\(G.T e).tid=e/\∀z xs c,eu (G.T t) z xs c->(G.T e).rd z (f xs) [c]
structure sk {aA:Type} (eK:Nat) (T:ct aA) (z:Nat->bo) (e m:Mem) (k:Option Nat) (vs:List au9) (dH:List (List aA)) (hole:Option (Int×Nat)) (v:au9) (ws:List au9):Prop where
 bt:dM (p1 eK) z e m k ws v
 len:ws.length=dH.length
 nc:∀(j:Nat) (w:au9) (xs:List aA),ws[j]? =au6 w->dH[j]? =au6 xs->(∀p,hole=au6 p->(j:Int)≠p.1)->sg T z e.next (fu v) j xs w
 out:∀p,hole=au6 p->0<=p.1/\∃w,vs[p.2]? =au6 w/\ws[p.1.toNat]? =au6 w
def gD (z:Nat->bo) (e m:Mem) (k:Option Nat) (vs:List au9):aT D->au9->Prop| .dead,_=>True| .ad t xs ava _,v=>dM (G.T t) z e m k xs v| .ad t xs au7 _,v=>eu (G.T t) z xs v| .box t cs ava _,v=>∃b ds,v= .pointer (au6 ⟨b,0,au8⟩)/\iM z e m k b ds t/\e.next<=b/\br (dK G z vs) cs ds| .box t cs au7 _,v=>∃b ds,v= .pointer (au6 ⟨b,0,au8⟩)/\mR z b 0 ds/\br (dK G z vs) cs ds| .recv t cs _,v=>∃b ds,v= .pointer (au6 ⟨b,0,au8⟩)/\iM z e m k b ds t/\br (dK G z vs) cs ds| .arr t u n xs _,v=>(∃b,v= .slice (au6 ⟨b,0,au8⟩) n n)/\dM ((G.T t).as u) z e m k xs v| .map t bi bg es ava _,v=>iE (G.M t bi bg) z e m k es v| .map t bi bg es au7 _,v=>lY (G.M t bi bg) z es v| .nest eK t up dH hole _,v=>TY G eK t up/\∃ws,sk eK (G.T t) z e m k vs dH hole v ws
def aT.live:aT D->Bool| .ad _ _ bl _| .box _ _ bl _| .map _ _ _ _ bl _=> !bl| .recv _ _ _| .arr _ _ _ _ _| .nest _ _ _ _ _ _=>au7| .dead=>ava
def aT.lR:aT D->Bool| .ad _ _ _ w| .box _ _ _ w| .recv _ _ w| .arr _ _ _ _ w| .map _ _ _ _ _ w=>w| .nest _ _ _ _ h w=>w||h.isSome| .dead=>au7
structure Inv (O bY:List (aT D)):Prop where
 len:O.length<=bY.length
 dN:∀(i:Nat) (o:aT D),i<O.length->bY[i]? =au6 o->o.live=au7->o.lR=ava->O[i]? =au6 o
theorem Inv.refl (O:List (aT D)):Inv O O:=⟨avm _,fun _ _ _ h _ _=>h⟩
theorem Inv.trans {O bY sl:List (aT D)} (h:Inv O bY) (k:Inv bY sl):Inv O sl:=⟨avz h.len k.len,fun i o aj ao az hw=>h.dN i o aj (k.dN i o (avx aj h.len) ao az hw) az hw⟩
theorem Inv.push (O:List (aT D)) (o:aT D):Inv O (O++[o]):=⟨by simp,fun i p aj aM _ _=>by grind⟩
theorem Inv.set (O:List (aT D)) (i:Nat) {o:aT D} (h:o.live=ava\/o.lR=au7):Inv O (O.set i o):=⟨by simp,fun j p aZ aM az hw=>by
 grind⟩
def dz:au9->Option Nat| .slice (au6 a) _ _=>au6 a.block| .pointer (au6 a)=>au6 a.block| .map r=>r|_=>au8
theorem gL {v:au9} (h:∀r,v≠ .map r):dz v=c9 v:=by
 cases v with
 |slice a l c=>cases a<;>rfl
 |pointer a=>cases a<;>rfl
 |map r=>grind
 |_=>rfl
structure bF (O:List (aT D)) (z:Nat->bo) (e m:Mem) (k:Option Nat) (vs:List au9):Prop where
 aL:dp z e m k
 len:vs.length=O.length
 obj:∀(i:Nat) (o:aT D) (v:au9),O[i]? =au6 o->vs[i]? =au6 v->gD G z e m k vs o v
 fa:∀(i j:Nat) (o p:aT D) (v w:au9),i≠j->O[i]? =au6 o->O[j]? =au6 p->o.live=au7->p.live=au7->vs[i]? =au6 v->vs[j]? =au6 w->eE (dz v) (dz w)
variable {G}
theorem dK.mono {z z':Nat->bo} {vs vs':List au9} {c:bZ D} {v:au9} (h:dK G z vs c v) (a4:eR z z') (ab:∀(i:Nat) (u:au9),vs[i]? =au6 u->vs'[i]? =au6 u):dK G z' vs' c v:=by
 cases c with
 |ad e xs=>exact eu.mono a4 h
 |mp t bi bg es=>exact lY.mono h a4
 |own i=>exact ⟨ab _ _ h.1,h.2⟩
 |fn f is=>obtain ⟨gs,U,aa⟩:=h;exact ⟨gs,U,br.mono (fun _ _ h=>⟨ab _ _ h.1,h.2⟩) aa⟩
 |_=>exact h
theorem nw.mono {z z':Nat->bo} {vs vs':List au9} {cs:List (bZ D)} {ds:List au9} (h:br (dK G z vs) cs ds) (a4:eR z z') (ab:∀(i:Nat) (u:au9),vs[i]? =au6 u->vs'[i]? =au6 u):br (dK G z' vs') cs ds:=br.mono (fun _ _ h=>dK.mono h a4 ab) h
theorem mq.mono {z z':Nat->bo} {vs vs':List au9} {cs:List (bZ D)} {off:Nat} {v:au9} (h:mq G z vs cs off v) (a4:eR z z') (ab:∀(i:Nat) (u:au9),vs[i]? =au6 u->vs'[i]? =au6 u):mq G z' vs' cs off v:=by
 obtain ⟨b,o,ds,U,aa,ap⟩:=h;exact ⟨b,o,ds,U,FK a4 aa,nw.mono ap a4 ab⟩
theorem tw.mono {z z':Nat->bo} {vs vs':List au9} {c:bZ D⊕(Nat×List (bZ D))} {v:au9} (h:tw G z vs c v) (a4:eR z z') (ab:∀(i:Nat) (u:au9),vs[i]? =au6 u->vs'[i]? =au6 u):tw G z' vs' c v:=by
 cases c with
 |inl c=>exact dK.mono h a4 ab
 |inr p=>obtain ⟨ds,U,aa⟩:=h;exact ⟨ds,U,nw.mono aa a4 ab⟩
theorem rel.mono {z z':Nat->bo} {vs vs':List au9} {s:aX D} {v:au9} (h:rel G z vs s v) (a4:eR z z') (ab:∀(i:Nat) (u:au9),vs[i]? =au6 u->vs'[i]? =au6 u):rel G z' vs' s v:=by
 cases s with
 |un=>trivial
 |undef=>exact h
 |c c=>exact dK.mono h a4 ab
 |agg t cs=>obtain ⟨ds,U,aa⟩:=h;exact ⟨ds,U,nw.mono aa a4 ab⟩
 |box i off=>obtain ⟨b,U,aa⟩:=h;exact ⟨b,ab _ _ U,aa⟩
 |arr i=>obtain ⟨b,l,U,aa⟩:=h;exact ⟨b,l,ab _ _ U,aa⟩
 |el i e cL off=>obtain ⟨b,f0,l,c,U,aa⟩:=h;exact ⟨b,f0,l,c,ab _ _ U,aa⟩
 |g4 t cs off=>exact mq.mono h a4 ab
 |fn f caps=>obtain ⟨gs,U,aa⟩:=h;exact ⟨gs,U,br.mono (fun _ _ h=>mq.mono h a4 ab) aa⟩
 |nz l=>obtain ⟨ds,U,aa⟩:=h;exact ⟨ds,U,br.mono (fun _ _ h=>tw.mono h a4 ab) aa⟩
 |cut i e bD n=>obtain ⟨w,U,aa⟩:=h;exact ⟨w,dK.mono U a4 ab,aa⟩
 |full e xs=>exact ⟨eu.mono a4 h.1,h.2⟩
 |uj g s=>exact h
theorem Pf {vs:List au9}:∀{is:List Nat} {gs:List au9},br (q6 vs) is gs->gs.all vC=au7
 |[],[],_=>rfl
 |[],_::_,h=>h.elim
 |_::_,[],h=>h.elim
 |_::_,_::_,⟨⟨_,_,h⟩,aa⟩=>by subst h;simp only[av0,Pf aa,vC,Bool.and_self]
theorem dK.aaz {z:Nat->bo} {vs:List au9} {c:bZ D} {v:au9} (h:dK G z vs c v):storable v=au7/\v.cells=#[v]:=by
 cases c with
 |ad e xs=>obtain ⟨a,c,rfl⟩:=eu.len h;exact ⟨rfl,rfl⟩
 |mp t bi bg es=>rcases h with ⟨rfl,_⟩|⟨r,rfl,_⟩<;>exact ⟨rfl,rfl⟩
 |own i=>exact h.2
 |fn f is=>obtain ⟨gs,rfl,aa⟩:=h;exact ⟨by grind [storable,Pf],rfl⟩
 |_=>obtain rfl:=h;exact ⟨rfl,rfl⟩
theorem gD.same {z:Nat->bo} {e m m':Mem} {k q:Option Nat} {vs vs':List au9} {o:aT D} {v:au9} (h:gD G z e m k vs o v) (s:fM m m' q) (fa:o.live=au7->eE (dz v) q) (ab:∀(i:Nat) (u:au9),vs[i]? =au6 u->vs'[i]? =au6 u):gD G z e m' k vs' o v:=by
 have Rr:=eR.refl z;cases o with
 |dead=>trivial
 |ad t xs bl w=>
  cases bl with
  |true=>exact h
  |false=>have h:dM (G.T t) z e m k xs v:=h;have fa:=fa rfl;rw[gL (by obtain ⟨a,c,rfl⟩:=h.bt.len;grind)] at fa;exact h.same s fa
 |box t cs bl w=>
  cases bl with
  |true=>obtain ⟨b,ds,U,aa,ap⟩:=h;exact ⟨b,ds,U,aa,nw.mono ap Rr ab⟩
  |false=>obtain ⟨b,ds,rfl,aa,aN,ap⟩:=h;exact ⟨b,ds,rfl,aa.same s (fa rfl),aN,nw.mono ap Rr ab⟩
 |recv t cs w=>obtain ⟨b,ds,rfl,aa,ap⟩:=h;exact ⟨b,ds,rfl,aa.same s (fa rfl),nw.mono ap Rr ab⟩
 |arr t u n xs w=>obtain ⟨⟨b,rfl⟩,h⟩:=h;exact ⟨⟨b,rfl⟩,h.same s (fa rfl)⟩
 |map t bi bg es bl w=>
  cases bl with
  |true=>exact h
  |false=>have h:iE (G.M t bi bg) z e m k es v:=h;have fa:=fa rfl;obtain ⟨r,rfl,_⟩:=h.bt;exact h.same s fa
 |nest eK t up dH hole w=>
  obtain ⟨hu,ws,h⟩:=h;have fa:=fa rfl;rw[gL (by obtain ⟨a,c,rfl⟩:=h.bt.bt.len;grind)] at fa;refine ⟨hu,ws,h.bt.same s fa,h.len,h.nc,fun p aM=> ?_⟩;obtain ⟨bf,u,U,aa⟩:=h.out p aM
  grind
theorem gD.iL {z z':Nat->bo} {e m:Mem} {k:Option Nat} {vs:List au9} {o:aT D} {v:au9} (h:gD G z e m k vs o v) (a4:eR z z') (ag:o.live=au7->∀b,dz v=au6 b->z' b=z b) (au:o.live=au7->L8 z z' (fu v)):gD G z' e m k vs o v:=by
 have ab:∀(i:Nat) (u:au9),vs[i]? =au6 u->vs[i]? =au6 u:=fun _ _ h=>h;cases o with
 |dead=>trivial
 |ad t xs bl w=>
  cases bl with
  |true=>exact eu.mono a4 h
  |false=>have h:dM (G.T t) z e m k xs v:=h;have ag:=ag rfl;rw[gL (by obtain ⟨a,c,rfl⟩:=h.bt.len;grind)] at ag;exact h.iL a4 ag
 |box t cs bl w=>
  cases bl with
  |true=>obtain ⟨b,ds,U,aa,ap⟩:=h;exact ⟨b,ds,U,FK a4 aa,nw.mono ap a4 ab⟩
  |false=>obtain ⟨b,ds,rfl,aa,aN,ap⟩:=h;exact ⟨b,ds,rfl,aa.iL (ag rfl),aN,nw.mono ap a4 ab⟩
 |recv t cs w=>obtain ⟨b,ds,rfl,aa,ap⟩:=h;exact ⟨b,ds,rfl,aa.iL (ag rfl),nw.mono ap a4 ab⟩
 |arr t u n xs w=>obtain ⟨⟨b,rfl⟩,h⟩:=h;exact ⟨⟨b,rfl⟩,h.iL a4 (ag rfl)⟩
 |map t bi bg es bl w=>
  cases bl with
  |true=>exact lY.mono h a4
  |false=>have h:iE (G.M t bi bg) z e m k es v:=h;have ag:=ag rfl;obtain ⟨r,rfl,_⟩:=h.bt;exact h.iL a4 ag
 |nest eK t up dH hole w=>obtain ⟨hu,ws,h⟩:=h;have ag:=ag rfl;rw[gL (by obtain ⟨a,c,rfl⟩:=h.bt.bt.len;grind)] at ag;exact ⟨hu,ws,h.bt.iL a4 ag,h.len,fun j w xs U aa ap=>(h.nc j w xs U aa ap).iL a4 (au rfl),h.out⟩
theorem gD.lt {z:Nat->bo} {e m:Mem} {k:Option Nat} {vs:List au9} {o:aT D} {v:au9} (h:gD G z e m k vs o v) (az:o.live=au7):∀b,dz v=au6 b->b<m.next/\z b= .dead/\(e.next<=b\/k=au6 b):=by
 cases o with
 |dead=>cases az
 |ad t xs bl w=>
  cases bl with
  |true=>cases az
  |false=>have h:dM (G.T t) z e m k xs v:=h;rw[gL (by obtain ⟨a,c,rfl⟩:=h.bt.len;grind)];exact fun b ag=>⟨h.lt b ag,h.bd b ag⟩
 |box t cs bl w=>
  cases bl with
  |true=>cases az
  |false=>obtain ⟨b,ds,rfl,aa,aN,ap⟩:=h;intro c ai;cases ai;exact ⟨aa.lt,aa.dead,aa.fresh⟩
 |recv t cs w=>obtain ⟨b,ds,rfl,aa,ap⟩:=h;intro c ai;cases ai;exact ⟨aa.lt,aa.dead,aa.fresh⟩
 |arr t u n xs w=>obtain ⟨⟨b,rfl⟩,h⟩:=h;intro c ai;cases ai;exact ⟨h.lt b rfl,h.bd b rfl⟩
 |map t bi bg es bl w=>
  cases bl with
  |true=>cases az
  |false=>have h:iE (G.M t bi bg) z e m k es v:=h;obtain ⟨r,rfl,_⟩:=h.bt;exact fun b ag=>⟨h.lt b ag,h.bd b ag⟩
 |nest eK t up dH hole w=>obtain ⟨hu,ws,h⟩:=h;rw[gL (by obtain ⟨a,c,rfl⟩:=h.bt.bt.len;grind)];exact fun b ag=>⟨h.bt.lt b ag,h.bt.bd b ag⟩
variable {O:List (aT D)} {z z':Nat->bo} {e m m':Mem} {k q:Option Nat} {vs:List au9}
theorem bF.at (h:bF G O z e m k vs) {i:Nat} {o:aT D} (ao:O[i]? =au6 o):∃v,vs[i]? =au6 v/\gD G z e m k vs o v:=by
 have bS:=(avr.1 ao).1;have Vg:i<vs.length:=by rw[h.len];grind
 exact ⟨vs[i],avV Vg,h.obj i o _ ao (avV Vg)⟩
theorem bF.mY (h:bF G O z e m k vs) {i:Nat} {o o':aT D} {v:au9} (ao:O[i]? =au6 o) (ab:vs[i]? =au6 v) (az:o.live=au7) (s:fM m m' (dz v)) (aL:dp z e m' k) (a1:gD G z e m' k vs o' v):bF G (O.set i o') z e m' k vs:=by
 have bS:=(avr.1 ao).1;refine ⟨aL,by rw[awt];exact h.len,fun j p w aZ hw=> ?_,fun a b p iJ u w kr aY ag jl kB hu hw=> ?_⟩
 ·rw[avU] at aZ;split at aZ
  ·grind
  ·rename_i gZ;exact (h.obj j p w aZ hw).same s (fun aM=>h.fa j i p o w v (fun e=>gZ e.symm) aZ ao aM az hw ab) fun _ _ h=>h
 ·have key:∀(a:Nat) (p:aT D),(O.set i o')[a]? =au6 p->p.live=au7->∃qw,O[a]? =au6 qw/\qw.live=au7:=by
   grind
  obtain ⟨iI,aU,aQ⟩:=key a p aY jl;obtain ⟨iV,bT,cT⟩:=key b iJ ag kB;exact h.fa a b iI iV u w kr aU bT aQ cT hu hw
theorem iZ {vs ws:List au9}:∀(i:Nat) (u:au9),vs[i]? =au6 u->(vs++ws)[i]? =au6 u:=fun i u h=>by
 grind
theorem bF.push (h:bF G O z e m k vs) {o':aT D} {bI:au9} (s:fM m m' q) (aL:dp z e m' k) (bd:∀(i:Nat) (o:aT D) (v:au9),O[i]? =au6 o->vs[i]? =au6 v->o.live=au7->eE (dz v) q)
  (a1:gD G z e m' k (vs++[bI]) o' bI) (fo:∀p,(∀b,p=au6 b->b<m.next)->eE p q->eE p (dz bI)):bF G (O++[o']) z e m' k (vs++[bI]):=by
 refine ⟨aL,by simp[h.len],fun j p w aZ hw=> ?_,fun a b p iJ u w kr aY ag jl kB hu hw=> ?_⟩
 ·by_cases bS:j<O.length
  ·rw[avP bS] at aZ;rw[avP (by rw[h.len];grind)] at hw;exact (h.obj j p w aZ hw).same s (fun aM=>bd j p w aZ hw aM) iZ
  ·rw[avO (by omega)] at aZ;rw[avO (by rw[h.len];omega),h.len] at hw
   grind
 ·have dN:∀(a:Nat) (p:aT D) (u:au9),a<O.length->(O++[o'])[a]? =au6 p->(vs++[bI])[a]? =au6 u->O[a]? =au6 p/\vs[a]? =au6 u:=by
   intro a p u bS aY hu;rw[avP bS] at aY;rw[avP (by rw[h.len];grind)] at hu
   grind
  have new:∀(a:Nat) (p:aT D) (u:au9),¬a<O.length->(O++[o'])[a]? =au6 p->(vs++[bI])[a]? =au6 u->a=O.length/\u=bI:=by
   intro a p u bS aY hu;rw[avO (by omega)] at aY;have bf:a - O.length=0:=by grind
   rw[avO (by rw[h.len];omega),h.len,bf] at hu
   grind
  have lt:∀(a:Nat) (p:aT D) (u:au9),O[a]? =au6 p->vs[a]? =au6 u->p.live=au7->eE (dz u) (dz bI):=fun a p u aY hu az=>fo _ (fun b ag=>((h.obj a p u aY hu).lt az b ag).1) (bd a p u aY hu az);by_cases U:a<O.length
  ·obtain ⟨cz,dw⟩:=dN a p u U aY hu;by_cases aa:b<O.length
   ·obtain ⟨eA,hE⟩:=dN b iJ w aa ag hw;exact h.fa a b p iJ u w kr cz eA jl kB dw hE
   grind
  ·obtain ⟨bu,rfl⟩:=new a p u U aY hu;by_cases aa:b<O.length
   ·obtain ⟨eA,hE⟩:=dN b iJ w aa ag hw;exact (lt b iJ w eA hE kB).symm
   grind
theorem bF.iQ (h:bF G O z e m k vs) {i:Nat} {o o':aT D} {v:au9} (ao:O[i]? =au6 o) (ab:vs[i]? =au6 v) (az:o.live=au7) (gv:o'.live=ava) (a4:eR z z') (aL:dp z' e m k) (ag:∀p,eE p (dz v)->∀b,p=au6 b->z' b=z b) (a1:gD G z' e m k vs o' v):bF G (O.set i o') z' e m k vs:=by
 have bS:=(avr.1 ao).1;refine ⟨aL,by rw[awt];exact h.len,fun j p w aZ hw=> ?_,fun a b p iJ u w kr aY ek jl kB hu hw=> ?_⟩
 ·rw[avU] at aZ;split at aZ
  ·grind
  ·rename_i gZ;exact (h.obj j p w aZ hw).iL a4 (fun aM=>ag _ (h.fa j i p o w v (fun e=>gZ e.symm) aZ ao aM az hw ab)) fun _ b j L t ek=>ag (au6 b) (fun c ai qj=>by
    cases ai;have:=((h.obj i o v ao ab).lt az b qj).2.1
    grind) b rfl
 ·have key:∀(a:Nat) (p:aT D),(O.set i o')[a]? =au6 p->p.live=au7->O[a]? =au6 p:=by
   grind
  exact h.fa a b p iJ u w kr (key a p aY jl) (key b iJ ek kB) jl kB hu hw
end
end Go.av
end
section
namespace Go.av
section
variable {D:Nat->Type} {G:mA D} {O:List (aT D)} {z z':Nat->bo} {e m m':Mem} {k q:Option Nat} {vs vs':List au9}
theorem Hb {v w:au9} (h:eE (c9 v) (c9 w)):fu v≠fu w\/fu v=0:=by
 unfold fu;cases ab:c9 v with
 |none=>grind
 |some b=>
  cases hw:c9 w with
  |none=>grind
  |some c=>
   refine .inl fun bL=>h b ab ?_
   grind
theorem PM {r:Option Nat}:fu (.map r)=0:=rfl
theorem bF.Dn (h:bF G O z e m k vs) {i:Nat} {o o':aT D} {v:au9} {p:Option Nat} (ao:O[i]? =au6 o) (ab:vs[i]? =au6 v) (az:o.live=au7) (ql:∀r,v≠ .map r) (a4:eR z z') (s:fM m m' (dz v)) (aL:dp z' e m' k)
  (aM:∀(j:Nat) (q:aT D) (w:au9),j≠i->O[j]? =au6 q->q.live=au7->vs[j]? =au6 w->eE (dz w) p)
  (aeI:∀b,p=au6 b->z b= .dead)
  (ag:∀b,dz v≠au6 b->p≠au6 b->(fu v=0\/∀j L t,z b≠ .lock (fu v) j L t)->z' b=z b) (a1:gD G z' e m' k vs o' v):bF G (O.set i o') z' e m' k vs:=by
 have bS:=(avr.1 ao).1;refine ⟨aL,by rw[awt];exact h.len,fun j q w aZ hw=> ?_,fun a b dn dA u w kr aY ek jl kB hu hw=> ?_⟩
 ·rw[avU] at aZ;split at aZ
  ·grind
  ·rename_i gZ;have cp:=h.obj j q w aZ hw;refine ((cp.same s (fun bd=>h.fa j i q o w v (fun e=>gZ e.symm) aZ ao bd az hw ab) fun _ _ h=>h).iL a4 (fun bd b Nn=> ?_) fun bd b b0 L t oC=> ?_)
   ·have U:=cp.lt bd b Nn;refine ag b (h.fa j i q o w v (fun e=>gZ e.symm) aZ ao bd az hw ab b Nn) (aM j q w (fun e=>gZ e.symm) aZ bd hw b Nn) (.inr fun j L t bL=> ?_)
    grind
   ·refine ag b (fun bL=> ?_) (fun bL=> ?_) ?_
    ·have:=((h.obj i o v ao ab).lt az b bL).2.1
     grind
    ·grind
    ·by_cases bf:fu v=0
     ·grind
     ·refine .inr fun qq br t2 bL=> ?_;rw[oC] at bL;have bu:fu w=fu v:=by grind
      have fo:=h.fa j i q o w v (fun e=>gZ e.symm) aZ ao bd az hw ab
      grind [gL,PM,Hb]
 ·have key:∀(a:Nat) (p:aT D),(O.set i o')[a]? =au6 p->p.live=au7->∃qw,O[a]? =au6 qw/\qw.live=au7:=by
   grind
  obtain ⟨iI,aU,aQ⟩:=key a dn aY jl;obtain ⟨iV,bT,cT⟩:=key b dA ek kB;exact h.fa a b iI iV u w kr aU bT aQ cT hu hw
theorem bF.OH (h:bF G O z e m k vs) {o':aT D} {bI:au9} (a1:gD G z e m k (vs++[bI]) o' bI) (fo:o'.live=au7->∀(j:Nat) (q:aT D) (w:au9),O[j]? =au6 q->q.live=au7->vs[j]? =au6 w->eE (dz w) (dz bI)):bF G (O++[o']) z e m k (vs++[bI]):=by
 have dN:∀(a:Nat) (p:aT D) (u:au9),(O++[o'])[a]? =au6 p->(vs++[bI])[a]? =au6 u->(O[a]? =au6 p/\vs[a]? =au6 u)\/(a=O.length/\p=o'/\u=bI):=by
  intro a p u aY hu;by_cases bS:a<O.length
  ·rw[avP bS] at aY;rw[avP (by rw[h.len];grind)] at hu
   grind
  ·have bf:=(avr.1 aY).1;simp at bf;have:a=O.length:=by omega
   subst this;rw[avO (by omega)] at aY;rw[avO (by rw[h.len];omega),h.len] at hu
   grind
 refine ⟨h.aL,by simp[h.len],fun j p w aZ hw=> ?_,fun a b p iJ u w kr aY ag jl kB hu hw=> ?_⟩
 ·rcases dN j p w aZ hw with ⟨U,aa⟩|⟨_,rfl,rfl⟩
  ·exact (h.obj j p w U aa).same (q:=au8) ⟨avm _,h.aL.dead,fun _ _ _=>rfl⟩ (fun _=>eE.n0) iZ
  grind
 ·rcases dN a p u aY hu with ⟨cz,dw⟩|⟨bu,rfl,rfl⟩
  ·rcases dN b iJ w ag hw with ⟨eA,hE⟩|⟨e2,rfl,rfl⟩
   ·exact h.fa a b p iJ u w kr cz eA jl kB dw hE
   grind
  ·rcases dN b iJ w ag hw with ⟨eA,hE⟩|⟨e2,rfl,rfl⟩
   ·exact (fo jl b iJ w eA kB hE).symm
   grind
theorem bF.asH (h:bF G O z e m k vs) {i:Nat} {o':aT D} {v:au9} (aj:i<O.length) (ab:vs[i]? =au6 v) (a1:gD G z e m k vs o' v) (fo:∀(j:Nat) (q:aT D) (w:au9),j≠i->O[j]? =au6 q->q.live=au7->vs[j]? =au6 w->eE (dz w) (dz v)):bF G (O.set i o') z e m k vs:=by
 have dN:∀(a:Nat) (p:aT D),(O.set i o')[a]? =au6 p->(a≠i/\O[a]? =au6 p)\/(a=i/\p=o'):=by
  grind
 refine ⟨h.aL,by rw[awt];exact h.len,fun j p w aZ hw=> ?_,fun a b p q u w kr aY ag jl kB hu hw=> ?_⟩
 ·rcases dN j p aZ with ⟨_,U⟩|⟨rfl,rfl⟩
  ·exact h.obj j p w U hw
  grind
 ·rcases dN a p aY with ⟨cz,dw⟩|⟨rfl,rfl⟩
  ·rcases dN b q ag with ⟨eA,hE⟩|⟨rfl,rfl⟩
   ·exact h.fa a b p q u w kr dw hE jl kB hu hw
   grind
  ·rcases dN b q ag with ⟨eA,hE⟩|⟨rfl,rfl⟩
   ·rw[ab] at hu;cases hu;exact (fo b q w eA hE kB hw).symm
   grind
variable {aA:Type} {T:ct aA} {eK:Nat} {dH:List (List aA)} {ws:List au9} {v:au9}
open Classical in
noncomputable def qI (z:Nat->bo) (n:Nat) (e m:Mem) (v:au9):Nat->bo:=fun b=>
 match z b with
 | .lock n' j L t=>if n'=n/\n≠0/\e.next<=b then .own L t else .lock n' j L t
 |x=>if c9 v=au6 b then m.aS b else x
theorem aip {bO:Type} {tV:ct bO} {f:List aA->bO} (h:sk eK T z e m k vs dH au8 v ws) (U:tV.a7=1) (aa:tV.tid=eK) (aE:∀z xs c,eu T z xs c->tV.rd z (f xs) [c]) (aL:dp z e m k):
  ∃z',dr e.next z z'/\dp z' e m k/\eu tV z' (dH.map f) v/\∀b,dz v≠au6 b->(fu v=0\/∀j L t,z b≠ .lock (fu v) j L t)->z' b=z b:=by
 have ab:dz v=c9 v:=gL (by obtain ⟨a,c,rfl⟩:=h.bt.bt.len;grind);have yQ:=fun b (ag:c9 v=au6 b)=>(h.bt.bt.lt b ag).2;have other:∀b,c9 v≠au6 b->(∀n j L t,z b≠ .lock n j L t)->qI z (fu v) e m v b=z b:=by
  grind [qI]
 have aec:∀b n j L t,z b= .lock n j L t->qI z (fu v) e m v b=if n=fu v/\fu v≠0/\e.next<=b then .own L t else .lock n j L t:=by
  grind [qI]
 have rj:∀b,c9 v=au6 b->qI z (fu v) e m v b=m.aS b:=by
  grind [qI]
 have hle:eR z (qI z (fu v) e m v):=fun b ag=>other b (fun bL=>by rw[yQ b bL] at ag;exact ag) fun n j L t bL=>by rw[bL] at ag;exact ag
 refine ⟨qI z (fu v) e m v,⟨hle,fun b ag=> ?_⟩,⟨fun b ag=> ?_,aL.dead,aL.mD,aL.next,aL.kept⟩, ?_,fun b ag a1=> ?_⟩
 ·cases a4:z b with
  |lock n j L t=>grind
  |_=>
   have:=other b (fun bL=>by have:=h.bt.fresh b bL;omega) (fun n j L t bL=>by grind)
   grind
 ·by_cases jQ:c9 v=au6 b
  ·rw[rj b jQ];have:=h.bt.Fk b jQ
   grind
  ·cases a4:z b with
   |lock n j L t=>
    have:=aL.bl b (by grind);rw[a4] at this;rw[aec b n j L t a4];split
    ·exact this
    grind
   |_=>have ap:=other b jQ (fun n j L t bL=>by rw[a4] at bL;cases bL);rw[ap] at ag⊢;exact aL.bl b ag
 ·have nc:∀(j:Nat) (w:au9) (xs:List aA),ws[j]? =au6 w->dH[j]? =au6 xs->eu T (qI z (fu v) e m v) xs w:=by
   intro j w xs hw ae;rcases h.nc j w xs hw ae (fun p aM=>by grind) with bL|⟨b,f0,L,c,rfl,aQ,bT,cT,eL,gX⟩
   ·exact .inl bL
   ·have qo:qI z (fu v) e m v b= .own L T.tid:=by
     have bf:fu v≠0:=by
      intro bf;unfold fu at bf;rcases h.bt.bt with ⟨rfl,ry⟩|⟨cB,o',L',bQ,rfl,_⟩
      ·grind
      grind [c9]
     grind
    refine .inr ⟨b,f0,c,rfl,by rw[qo];exact avo, ?_,fun i x aj=> ?_⟩
    ·grind
    ·obtain ⟨cs,dn,dA⟩:=gX i x aj;refine ⟨cs,T.mono _ _ hle _ _ dn,fun a u aY=> ?_⟩;simp only[k8,qo];exact dA a u aY
  rcases h.bt.bt with ⟨rfl,ry⟩|⟨b,f0,L,c,rfl,aU,aQ,bT,cT,eL,gX⟩
  ·have:dH=[]:=List.length_eq_zero_iff.1 (by rw[<-h.len,ry];rfl);subst this;exact .inl ⟨rfl,rfl⟩
  ·have qo:=rj b rfl;rw[aU] at qo;have az:(dH.map f).length=ws.length:=by rw[List.length_map,h.len]
   refine .inr ⟨b,f0,c,by grind,by rw[qo];exact avo, ?_,fun i x aj=> ?_⟩
   ·rcases eL with eL|⟨eL,EA,_⟩
    ·exact .inl ⟨eL,L,by rw[qo,aa];rfl,by rw[az,U];exact cT⟩
    grind
   ·rw[awb] at aj;obtain ⟨xs,ae,rfl⟩:=Option.map_eq_some_iff.1 aj;have bS:i<ws.length:=by grind
    have hw:=avV bS;obtain ⟨cs,dn,dA⟩:=gX i _ hw;refine ⟨[ws[i]],aE _ _ _ (nc i _ xs hw ae),fun a u aY=> ?_⟩;rw[dn.1] at dA;simp only[k8,qo,U];exact dA a u aY
 grind
theorem ajV {Fe j:Nat} {w:au9} {xs:List aA} (h:sk eK T z e m k vs dH au8 v ws) (aL:dp z e m k) (hw:ws[j]? =au6 w) (ae:dH[j]? =au6 xs) (aZ:∀(i:Nat) (u:au9),vs[i]? =au6 u->vs'[i]? =au6 u) (atQ:vs'[Fe]? =au6 w):
  ∃z',dr e.next z z'/\dp z' e m k/\sk eK T z' e m k vs' dH (au6 ((j:Int),Fe)) v ws/\dM T z' e m k xs w/\(∀b,z' b=z b\/c9 w=au6 b/\fu v≠0/\∃L t,z b= .lock (fu v) j L t)/\∀b,c9 w=au6 b->z b≠ .dead:=by
 have keep:∀{z'},eR z z'->(∀b,z' b=z b\/c9 w=au6 b/\fu v≠0/\∃L t,z b= .lock (fu v) j L t)->(∀b,c9 v=au6 b->z' b=z b)->sk eK T z' e m k vs' dH (au6 ((j:Int),Fe)) v ws:=by
  intro z' hle rf ps;refine ⟨h.bt.iL hle ps,h.len,fun qq gV Rk aU aQ bT=> ?_,fun p aM=>by grind⟩;have ev:qq≠j:=fun bL=>bT _ rfl (by grind);rcases h.nc qq gV Rk aU aQ (fun p aM=>by grind) with bL|⟨b,f0,L,c,dn,dA,ea,eH,qy,pC⟩
  ·exact .inl bL
  ·refine .inr ⟨b,f0,L,c,dn, ?_,ea,eH,qy,fun i x aj=> ?_⟩
   ·grind
   ·obtain ⟨cs,lh,lQ⟩:=pC i x aj;exact ⟨cs,T.mono _ _ hle _ _ lh,lQ⟩
 rcases h.nc j w xs hw ae (fun p aM=>by grind) with ⟨rfl,rfl⟩|⟨b,f0,L,c,rfl,aQ,bT,cT,eL,gX⟩
 ·exact ⟨z,dr.refl z,aL,keep (eR.refl z) (fun b=> .inl rfl) (fun _ _=>rfl),dM.nil,fun b=> .inl rfl,fun b ag=>by cases ag⟩
 ·have bf:fu v≠0:=by
   intro bf;unfold fu at bf;rcases h.bt.bt with ⟨rfl,ry⟩|⟨cB,o',L',bQ,rfl,_⟩
   ·grind
   grind [c9]
  let z':Nat->bo:=fun c=>if c=b then .dead else z c
  have bu:z' b= .dead:=if_pos rfl;have e2:∀c,c≠b->z' c=z c:=fun c ai=>if_neg ai;have hle:eR z z':=fun c ai=>e2 c (fun bL=>by rw[bL,aQ] at ai;exact ai);have rf:∀bQ,z' bQ=z bQ\/c9 (avS (au6 ⟨b,f0,au8⟩) xs.length c)=au6 bQ/\fu v≠0/\∃L t,z bQ= .lock (fu v) j L t:=fun bQ=>by
   by_cases ai:bQ=b
   ·subst ai;exact .inr ⟨rfl,bf,L,_,aQ⟩
   grind
  have wF:=aL.bl b (by grind);rw[aQ] at wF;refine ⟨z',⟨hle,fun c ai=>e2 c (by omega)⟩,⟨fun c ai=> ?_,aL.dead,aL.mD,aL.next,aL.kept⟩,keep hle rf (fun c ai=>e2 c (fun bL=> ?_)),⟨.inr ⟨b,f0,L,c,rfl,wF.1,wF.2,bu,cT,eL,fun i x aj=> ?_⟩,fun c ai=>by grind⟩,rf,fun c ai=>by grind⟩
  ·by_cases fj:c=b
   ·grind
   ·rw[e2 c fj] at ai⊢;exact aL.bl c ai
  ·subst bL;have:=(h.bt.bt.lt c ai).2
   grind
  ·obtain ⟨cs,lh,lQ⟩:=gX i x aj;exact ⟨cs,T.mono _ _ hle _ _ lh,lQ⟩
theorem PB {hole:Option (Int×Nat)} {j:Nat} {w:au9} {xs:List aA} {xL:List au9} (h:sk eK T z e m k vs dH hole v ws) (aL:dp z e m' k) (ao:dM (p1 eK) z e m' k xL v) (ry:xL=ws.set j w) (aZ:j<ws.length) (bL:∀p,hole=au6 p->p.1=(j:Int)) (hw:dM T z e m' k xs w) (fo:eE (c9 w) (c9 v)):
  ∃z',dr e.next z z'/\dp z' e m' k/\sk eK T z' e m' k vs (dH.set j xs) au8 v xL/\∀b,z' b=z b\/c9 w=au6 b:=by
 have keep:∀{z'},eR z z'->(∀b,z' b=z b\/c9 w=au6 b)->sg T z' e.next (fu v) j xs w->sk eK T z' e m' k vs (dH.set j xs) au8 v xL:=by
  intro z' hle rf oA;refine ⟨ao.iL hle fun b ag=> ?_,by rw[ry,awt,awt];exact h.len,fun qq gV Rk aU aQ bT=> ?_,fun p aM=>by grind⟩
  ·rcases rf b with ai|ai
   ·grind
   ·exact absurd ag (fo b ai)
  ·rw[ry,avU] at aU;rw[avU] at aQ;by_cases he:j=qq
   ·grind
   ·rw[if_neg he] at aU aQ;rcases h.nc qq gV Rk aU aQ (fun p aM atM=>he (by grind)) with ai|⟨b,f0,L,c,dn,dA,ea,eH,qy,pC⟩
    ·exact .inl ai
    ·refine .inr ⟨b,f0,L,c,dn, ?_,ea,eH,qy,fun i x aj=> ?_⟩
     ·rcases rf b with ai|ai
      ·grind
      ·have:=(hw.bt.lt b ai).2
       grind
     ·obtain ⟨cs,lh,lQ⟩:=pC i x aj;exact ⟨cs,T.mono _ _ hle _ _ lh,lQ⟩
 rcases hw.bt with ⟨rfl,rfl⟩|⟨b,f0,L,c,rfl,aU,aQ,bT,cT,eL,gX⟩
 ·exact ⟨z,dr.refl z,aL,keep (eR.refl z) (fun b=> .inl rfl) (.inl ⟨rfl,rfl⟩),fun b=> .inl rfl⟩
 ·let z':Nat->bo:=fun c=>if c=b then .lock (fu v) j L T.tid else z c
  have bu:z' b= .lock (fu v) j L T.tid:=if_pos rfl;have e2:∀c,c≠b->z' c=z c:=fun c ai=>if_neg ai;have hle:eR z z':=fun c ai=>e2 c (fun bL=>by rw[bL,bT] at ai;exact ai);have rf:∀bQ,z' bQ=z bQ\/c9 (avS (au6 ⟨b,f0,au8⟩) xs.length c)=au6 bQ:=fun bQ=>by
   by_cases ai:bQ=b
   ·subst ai;exact .inr rfl
   grind
  have hq:=hw.fresh b rfl;refine ⟨z',⟨hle,fun c ai=>e2 c (by omega)⟩,⟨fun c ai=> ?_,aL.dead,aL.mD,aL.next,aL.kept⟩,keep hle rf (.inr ⟨b,f0,L,c,rfl,bu,hq,cT,eL,fun i x aj=> ?_⟩),rf⟩
  ·by_cases fj:c=b
   ·subst fj;rw[bu];exact ⟨aU,aQ⟩
   ·rw[e2 c fj] at ai⊢;exact aL.bl c ai
  ·obtain ⟨cs,lh,lQ⟩:=gX i x aj;exact ⟨cs,T.mono _ _ hle _ _ lh,lQ⟩
end
end Go.av
end
section
namespace Go.av
noncomputable section
section
variable {P:avd} {D:Nat->Type}
def xx:bZ D->Bool| .g2| .wY| .py| .own _=>ava|_=>au7
def oK:bZ D->Bool| .own _=>ava| .fn _ is=>is.isEmpty|_=>au7
def oh:List (bZ D)->List (bZ D)->Prop|[],[]=>True|c::cs,d::ds=>(xx c=au7->d=c)/\oh cs ds|_,_=>False
theorem oh.eq:∀{cs ds:List (bZ D)},oh cs ds->cs.all xx=au7->cs=ds
 |[],[],_,_=>rfl
 |c::cs,d::ds,h,a1=>by simp only[av0,avk] at a1;rw[h.1 a1.1,oh.eq h.2 a1.2]
 |[],_::_,h,_=>h.elim
 |_::_,[],h,_=>h.elim
theorem oh.refl:∀(cs:List (bZ D)),oh cs cs
 |[]=>trivial
 |_::cs=>⟨fun _=>rfl,oh.refl cs⟩
structure dI (P:avd) (G:mA D) (t:Nat) where
 kT:D t->List (bZ D)
 oO:List (bZ D)->Option (D t)
 x0:D t
 i:TypeInfo
 cR:au9
 tid:(G.T t).tid=t
 aj:P.info? t=au6 i
 b9:i.size=(G.T t).a7
 gF:((G.T t).a7==0)=ava
 gY:avp i.bytes 32768=au7
 a4:i.zero=au6 cR
 db:cR.cells.toList.all cP=au7
 dV:cR.cells.size=i.size
 CQ:∀z,(G.T t).rd z x0 cR.cells.toList
 pN:∀z vs x cs,(G.T t).rd z x cs->br (dK G z vs) (kT x) cs
 qx:∀z vs cs x ds,oO cs=au6 x->br (dK G z vs) cs ds->(G.T t).rd z x ds
 OG:∀x,oO (kT x)=au6 x
 FD:∀cs x,oO cs=au6 x->oh cs (kT x)
 pU:List (bZ D)
 pu:∀z vs,br (dK G z vs) pU cR.cells.toList
 Oo:∀x,(kT x).all oK=au7
structure aaP (P:avd) (G:mA D) (t:Nat) where
 e:Nat
 n:Nat
 ti:dI P G e
 i:TypeInfo
 cR:au9
 hu:P.underlying t=au6 (.array n e)
 aj:P.info? t=au6 i
 a4:i.zero=au6 cR
 db:cR.cells.toList.all cP=au7
 dV:cR.cells.size=i.size
 pu:cR.cells.toList=(avw n ti.cR.cells.toList).flatten
 a1:avA n cJ=au7
structure Mb (P:avd) (G:mA D) (bi bg:Nat) where
 dec:DecidableEq (D bi)
 K:o5 P bi (G.ee bi)
 V:p3 P bg (G.ee bg)
 uO:aX D->Option (D bi)
 C0:bZ D->Option (D bg)
 r7:D bg->bZ D
 cd:D bg
 i:TypeInfo
 aj:P.info? bg=au6 i
 a4:i.zero=au6 (eb (dG P bg) (G.ee bg cd))
 NJ:∀z vs s a v,uO s=au6 a->rel G z vs s v->v=eb (dG P bi) (G.ee bi a)
 Vx:∀z vs c a v,C0 c=au6 a->dK G z vs c v->v=eb (dG P bg) (G.ee bg a)
 y6:∀z vs a,dK G z vs (r7 a) (eb (dG P bg) (G.ee bg a))
 ae':dG P bg=ava
structure Rs (P:avd) (G:mA D) (e:Nat) where
 to:List (D e)->List UInt8
 of:List UInt8->List (D e)
 aE:∀z xs v,eu (G.T e) z xs v->eu (jC e) z (to xs) v
 ao:∀z pw m k xs v,dM (G.T e) z pw m k xs v->dM (jC e) z pw m k (to xs) v
 ag:∀z pw m k xs v,dM (jC e) z pw m k xs v->dM (G.T e) z pw m k (of xs) v
 i:TypeInfo
 hu:P.underlying e=au6 (.int .u8)
 aj:P.info? e=au6 i
 jE:i.size=1
 aC:∀z m b7 w,Src (jC e) z m b7 w->Src (G.T e) z m (of b7) w
structure Me (P:avd) (G:mA D) (t:Nat) where
 bm:Array Field
 eq:D t->D t->Bool
 gB:D t->List au9
 aw:P.underlying t=au6 (.struct bm)
 aM:P.stoodInHeld t=ava
 a5:P.eqGuardType P.depth t=ava
 aC:∀x y,p0 P bm.toList 0 (gB x) (gB y)
 ab:∀z x ds,(G.T t).rd z x ds->ds=gB x
 he:∀x y,eq x y=au7↔gB x=gB y
structure tS (P:avd) (G:mA D) where
 f:Nat
 g:Nat
 e:Nat
 Q4:List (D e)->Option (List (D e))
 gB:D e->List au9
 ab:∀z x ds,(G.T e).rd z x ds->ds=gB x
 aE:∀z x,(G.T e).rd z x (gB x)
 bb:∀x,(gB x).all cP=au7
 ok:la P f=au7
 bf:Wd P f (.func (.func g) #[] #[])
 a1:∀xs b7,Q4 xs=au6 b7->b7.length=xs.length
 aC:∀xs b7,Q4 xs=au6 b7->0<xs.length->We P f (.func (.func g) #[] #[]) xs.length (xs.flatMap gB) (b7.flatMap gB)
structure tQ (P:avd) (G:mA D) (e t:Nat) where
 up:List (D t)->D e
 b9:(G.T e).a7=1
 tid:(G.T e).tid=e
 aE:∀z xs c,eu (G.T t) z xs c->(G.T e).rd z (up xs) [c]
 i:TypeInfo
 aj:P.info? e=au6 i
 a4:i.zero=au6 (.slice au8 0 0)
 U:i.size=1
 gY:avp i.bytes 32768=au7
 hu:P.underlying e=au6 (.slice t)
 aw:(G.T t).tid=t
structure ez (P:avd) (D:Nat->Type) where
 G:mA D
 S:List (tS P G):=[]
 I:(t:Nat)->Option (dI P G t)
 A:(t:Nat)->Option (aaP P G t)
 L7:(bi bg:Nat)->Option (Mb P G bi bg)
 B:(e:Nat)->Option (Rs P G e)
 Q:(t:Nat)->Option (Me P G t)
 N:(e t:Nat)->Option (tQ P G e t):=fun _ _=>au8
 F:(f:Nat)->List (aX D)->List (aT D)->Bool
 hT:avf->Option avf->Option avf->Nat:=fun _ _ _=>0
 W:(f:Nat)->Bool:=fun _=>ava
 UI : Option { g : Nat // P.globalNamed "humpyard/yardgen.dests" = au6 g } := au8
 C:(f:Nat)->List (aX D)->List (aT D)->{af:Type}->(aX D->List (aT D)->Option af)->Option af
variable (X:ez P D) {af:Type}
def ei:List (Nat×aX D)->Nat->aX D|[],_=> .un|p::E,i=>if avj p.1 i=au7 then p.2 else ei E i
def lN (E:List (Nat×aX D)):Option Nat->aX D->List (Nat×aX D)|none,_=>E|some d,v=>(d,v)::E
def OA:au9->aX D| .int k n=> .c (.int k n)| .bool b=> .c (.bool b)| .string b=> .c (.str b.data.toList)| .slice au8 0 0=> .c .g2| .pointer au8=> .c .wY| .map au8=> .c .py| .nilFunc=> .c .uR|_=> .un
def cY (E:List (Nat×aX D)):avf->aX D| .tmp t=>ei E t| .const v=>OA v| .func f=> .fn f []| .global _=> .un
def G4:avf->Bool| .const (.int _ n)=>n !=0|_=>ava
def Ea (op:BinOp) (y:avf) (k:avb) (a b:Int) (K:bZ D->Option af):Option af:=match op with| .add=>K (.int k (k.wrap (a+b)))| .sub=>K (.int k (k.wrap (a - b)))| .mul=>K (.int k (k.wrap (a*b)))| .and=>K (.int k (lg .and k a b))| .or=>K (.int k (lg .or k a b))| .xor=>K (.int k (lg .xor k a b))| .andNot=>K (.int k (lg .andNot k a b))| .eql=>K (.bool (a==b))| .neq=>K (.bool (a !=b))| .lss=>K (.bool (decide (a<b)))| .leq=>K (.bool (decide (a<=b)))| .gtr=>K (.bool (decide (b<a)))| .geq=>K (.bool (decide (b<=a)))| .quo=>if G4 y=au7 then K (.int k (k.wrap (Int.tdiv a b))) else au' (ub a b) fun c=>K (.int k (k.wrap c))| .rem=>if G4 y=au7 then K (.int k (Int.tmod a b)) else au' (oJ a b) fun c=>K (.int k c)|_=>au8
def Ud (op:BinOp) (s r:List UInt8) (K:bZ D->Option af):Option af:=match op with| .add=>au' (ck s r) fun q=>K (.str q)| .eql=>K (.bool (s==r))| .neq=>K (.bool (!(s==r)))| .lss=>K (.bool (oS s r))| .leq=>K (.bool (oS s r||(s==r)))| .gtr=>K (.bool (!(oS s r||(s==r))))| .geq=>K (.bool (!oS s r))|_=>au8
def Uc (op:BinOp) (a b:Bool) (K:bZ D->Option af):Option af:=match op with| .eql=>K (.bool (a==b))| .neq=>K (.bool (!(a==b)))|_=>au8
def isNil:avf->Bool| .const (.slice au8 0 0)=>au7|_=>ava
def oR (O:List (aT D)):aX D->Option ((e:Nat)×List (D e))| .c (.ad e xs)=>au6 ⟨e,xs⟩| .c (.own i)=>(match O[i]? with|some (.ad e xs _ _)=>au6 ⟨e,xs⟩|_=>au8)|_=>au8
def YO:avf->Option Nat| .const (.int _ (.ofNat n))=>au6 n|_=>au8
def n8 (k:avb) (b:Int):Option Nat:=if 0<=b then au6 (min b.toNat k.bits) else au8
def xH (left:Bool) (k:avb) (a:Int) (n:Nat):Int:=if left=au7 then k.wrap (a*((2 ^ n:Nat):Int)) else a.fdiv ((2 ^ n:Nat):Int)
def Kf (left:Bool) (y:avf) (k:avb) (a b:Int) (K:bZ D->Option af):Option af:=match YO y with|some n=>if avp n k.bits=au7 then K (.int k (xH left k a n)) else au8|none=>au' (n8 k b) fun n=>K (.int k (xH left k a n))
def M0 (op:BinOp) (t t1:Nat) (c1:List (bZ D)) (t2:Nat) (c2:List (bZ D)) (K:bZ D->Option af):Option af:=
 match X.I t,X.Q t with
 |some ti,au6 mV=>
  match ti.oO c1,ti.oO c2 with
  |some a,au6 b=>(match op with| .eql=>K (.bool (mV.eq a b))| .neq=>K (.bool (!(mV.eq a b)))|_=>au8)
  |_,_=>au8
 |_,_=>au8
def Mz (op:BinOp) (t:ave) (y:avf) (O:List (aT D)) (a b:aX D) (K:bZ D->Option af):Option af:=
 match a,b with
 | .c (.int k a), .c (.int cM b)=>(match op with| .shl=>Kf au7 y k a b K| .shr=>Kf ava y k a b K|op=>if k=cM then Ea op y k a b K else au8)
 | .c (.str s), .c (.str r)=>Ud op s r K
 | .c (.bool a), .c (.bool b)=>match P.underlying t with|some .bool=>Uc op a b K|_=>au8
 |a,_=>
  match op,P.underlying t,isNil y with
  | .eql,au6 (.slice _),au7=>
   match a with
   | .c .g2=>K (.bool au7)
   |a=>match oR O a with|some ⟨_,xs⟩=>Fv xs fun t=>K (.bool t)|none=>au8
  | .neq,au6 (.slice _),au7=>
   match a with
   | .c .g2=>K (.bool ava)
   |a=>match oR O a with|some ⟨_,xs⟩=>Fv xs fun t=>K (.bool (!t))|none=>au8
  |_,_,_=>au8
def vI:List (bZ D)->Nat->List (bZ D)->List (bZ D)|L,_,[]=>L|L,o,v::vs=>vI (L.set o v) (o+1) vs
def ug (O:List (aT D)) (i:Nat):Option (bZ D×List (aT D)):=match O[i]? with|some (.ad e xs _ w)=>au6 (.ad e xs,O.set i (.ad e xs au7 w))|some (.map t bi bg es _ w)=>au6 (.mp t bi bg es,O.set i (.map t bi bg es au7 w))|some (.nest e t (au6 up) dH au8 w)=>au6 (.ad e (dH.map up),O.set i (.ad e (dH.map up) au7 w))|_=>au8
def rb (O:List (aT D)):bZ D->Option (bZ D×List (aT D))| .own i=>ug O i|c=>au6 (c,O)
def wu (O:List (aT D)):List (bZ D)->Option (List (bZ D)×List (aT D))
 |[]=>au6 ([],O)
 |c::cs=>
  match rb O c with
  |some (bQ,bY)=>match wu bY cs with|some (cs',sl)=>au6 (bQ::cs',sl)|none=>au8
  |none=>au8
def xp:aX D->Option (List (bZ D))| .c c=>au6 [c]| .agg _ cs=>au6 cs| .fn f []=>au6 [.fn f []]|_=>au8
def Ey (O:List (aT D)) (s:aX D):Option (List (bZ D)×List (aT D)):=match xp s with|some cs=>wu O cs|none=>au8
def nt (t:ave) (cs:List (bZ D)) (off:Nat) (K:aX D->Option af):Option af:=match P.underlying t with|none=>au8|some d=>if jK d then match P.info? t with|none=>au8|some i=>if ((cs.drop off).take i.size).length=i.size then K (.agg t ((cs.drop off).take i.size)) else au8 else match cs[off]? with|some c=>K (.c c)|none=>au8
def auL (O:List (aT D)) (e:Nat):aX D->Option (List (D e)×List (aT D))| .c .g2=>au6 ([],O)| .c c=>(match rb O c with|some (.ad b2 xs,bY)=>if h:b2=e then au6 (h▸xs,bY) else au8|_=>au8)|_=>au8
def Av:avf->avf->Bool| .tmp a, .tmp b=>avj a b| .const (.int _ a), .const (.int _ b)=>a==b|_,_=>ava
structure Rx (D:Nat->Type) where
 u:Nat
 bi:Nat
 bg:Nat
 es:List (D bi×D bg)
def Qy (O:List (aT D)):aX D->Option (Rx D)
 | .c (.mp u k v es)=>au6 ⟨u,k,v,es⟩
 | .c (.own i)=>(match O[i]? with|some (.map u k v es _ _)=>au6 ⟨u,k,v,es⟩|_=>au8)
 |_=>au8
def QH (t:ave) (a b:aX D) (O:List (aT D)) (K:aX D->List (aT D)->Option af):Option af:=match b with| .c (.int _ n)=>(match a with| .arr i=>(match O[i]? with|some (.arr e u n' xs _)=>(match X.I e,P.underlying t with|some _,au6 (.array l b2)=>if b2=e/\l=n' then au' (aD xs n) fun _=>K (.el i e n 0) O else au8|_,_=>au8)|_=>au8)| .c (.ad e xs)=>(match X.I e,P.underlying t with|some ti,au6 (.slice b2)=>if b2=e then au' (aD xs n) fun a=>K (.g4 e (ti.kT a) 0) O else au8|_,_=>au8)| .c (.own i)=>(match O[i]? with|some (.ad e xs bl _)=>(match X.I e,P.underlying t with|some ti,au6 (.slice b2)=>if b2=e then au' (aD xs n) fun a=>if bl=au7 then K (.g4 e (ti.kT a) 0) O else K (.el i e n 0) O else au8|_,_=>au8)|some (.nest e t1 _ dH _ _)=>(match X.N e t1,P.underlying t with|some _,au6 (.slice b2)=>if b2=e then au' (aD dH n) fun _=>K (.el i e n 0) O else au8|_,_=>au8)|_=>au8)| .cut i e bD aj=>(match O[i]? with|some (.ad bu xs ava _)=>(match X.I e,P.underlying t with|some _,au6 (.slice b2)=>if b2=e/\bu=e then au' (aD ((xs.take aj).drop bD) n) fun _=>K (.el i e ((bD:Int)+n) 0) O else au8|_,_=>au8)|_=>au8)|_=>au8)|_=>au8
def QG (t:ave) (g:Nat) (b:aX D) (O:List (aT D)) (K:aX D->List (aT D)->Option af):Option af:=
 match b,P.underlying t with
 | .c (.int _ n),au6 (.array l e)=>(match P.info? e with|some i=>if l=6/\i.size=1 then au' (aD ou n) fun s=>K (.uj g s) O else au8|none=>au8)
 |_,_=>au8
def Gw {e:Nat} (ti:dI P X.G e):Nat->List (bZ D)->Option (List (D e))
 |0,_=>au6 []
 |n+1,cs=>match ti.oO (cs.take (X.G.T e).a7),Gw ti n (cs.drop (X.G.T e).a7) with|some a,au6 l=>au6 (a::l)|_,_=>au8
def Qe (t:ave) (a b:aX D) (O:List (aT D)) (K:aX D->List (aT D)->Option af):Option af:=
 match a,b,P.underlying t with
 | .agg _ cs, .c (.int _ n),au6 (.array l e)=>
  match X.I e,P.underlying e with
  |some ti,au6 d=>
   if jK d=au7 then
    match wu O cs with
    |some (cs',bY)=>(match Gw X ti l cs' with|some as=>au' (aD as n) fun a=>K (.agg e (ti.kT a)) bY|none=>au8)
    |none=>au8
   else au8
  |_,_=>au8
 |_,_,_=>au8
def PD (t:ave) (n:Nat) (a:aX D) (O:List (aT D)) (K:aX D->List (aT D)->Option af):Option af:=
 match a,P.underlying t with
 | .agg _ cs,au6 (.struct bm)=>(match bm[n]? with|some f=>if avp f.offset cs.length=au7 then nt (P:=P) f.type cs f.offset fun v=>K v O else au8|none=>au8)
 |_,_=>au8
def QP (t:ave) (n:Nat) (a:aX D) (O:List (aT D)) (K:aX D->List (aT D)->Option af):Option af:=
 match P.underlying t with
 |some (.struct bm)=>
  match bm[n]? with
  |some f=>
   match P.info? f.type with
   |some k=>
    if k.size=0 then au8 else
    match a with
    | .box i off=>K (.box i (off+f.offset)) O
    | .g4 ec cs off=>K (.g4 ec cs (off+f.offset)) O
    | .el i e cL off=>K (.el i e cL (off+f.offset)) O
    |_=>au8
   |none=>au8
  |none=>au8
 |_=>au8
def vy (O:List (aT D)) (i:Nat):Option (List (aT D)):=match O[i]? with|some (.nest _ _ _ _ au8 _)=>au6 O|some (.nest e t up dH (au6 p) _)=>(match O[p.2]? with|some (.ad ec xs ava _)=>if h:ec=t then au6 ((O.set i (.nest e t up (dH.set p.1.toNat (h▸xs)) au8 au7)).set p.2 .dead) else au8|_=>au8)|_=>au8
def PF (t:ave) (i e:Nat) (cL:Int) (off:Nat) (O:List (aT D)) (K:aX D->List (aT D)->Option af):Option af:=match vy O i with|some b3=>(match b3[i]? with|some (.nest bu t1 up dH au8 w)=>(match X.N bu t1 with|some _=>if bu=e/\t=e/\off=0 then au' (aD dH cL) fun xs=>K (.c (.own b3.length)) (b3.set i (.nest bu t1 up dH (au6 (cL,b3.length)) w)++[.ad t1 xs ava ava]) else au8|none=>au8)|_=>au8)|none=>au8
def P3:Option (aT D)->Bool|some (.nest _ _ _ _ _ _)=>au7|_=>ava
def GH (t:ave) (a:aX D) (O:List (aT D)) (K:aX D->List (aT D)->Option af):Option af:=
 match a with
 | .g4 _ cs off=>nt (P:=P) t cs off fun v=>K v O
 | .uj g s=>(match X.UI,P.underlying t with|some p,au6 .string=>if p.1=g then K (.c (.str s)) O else au8|_,_=>au8)
 | .box i off=>
  match O[i]? with
  |some (.box _ cs _ _)=>nt (P:=P) t cs off fun v=>K v O
  |some (.recv _ cs _)=>nt (P:=P) t cs off fun v=>K v O
  |_=>au8
 | .el i e cL off=>
  if P3 O[i]? =au7 then PF X t i e cL off O K else
  match O[i]?,X.I e with
  |some (.ad b2 xs _ _),au6 ti=>if h:b2=e then au' (aD (h▸xs:List (D e)) cL) fun a=>nt (P:=P) t (ti.kT a) off fun v=>K v O else au8
  |some (.arr b2 _ _ xs _),au6 ti=>if h:b2=e then au' (aD (h▸xs:List (D e)) cL) fun a=>nt (P:=P) t (ti.kT a) off fun v=>K v O else au8
  |_,_=>au8
 |_=>au8
def PE (t:ave) (a:aX D) (O:List (aT D)) (K:aX D->List (aT D)->Option af):Option af:=match a with| .el i e cL off=>(match O[i]? with|some (.nest bu t1 _ _ (au6 p) _)=>(match X.N bu t1,O[p.2]? with|some _,au6 (.ad _ _ ava _)=>if bu=e/\t=e/\off=0 then (if p.1=cL then K (.c (.own p.2)) O else au8) else au8|_,_=>au8)|_=>au8)|_=>au8
def YG (t:ave) (a:aX D) (O:List (aT D)) (K:aX D->List (aT D)->Option af):Option af:=
 GH X t a O fun dh bY=>match dh with
  | .c (.own j)=>(match ug bY j with|some (c,dL)=>K (.c c) dL|none=>au8)
  |_=>au8
def Pr (t:ave) (i e:Nat) (cL:Int) (off:Nat) (b:aX D) (O:List (aT D)) (K:aX D->List (aT D)->Option af):Option af:=match b with| .c (.own j)=>(match O[i]?,O[j]? with|some (.nest bu t1 up dH hole _),au6 (.ad t2 xs ava _)=>(match X.N bu t1 with|some _=>if h:t2=t1 then if bu=e/\t=e/\off=0 then match hole with|none=>au' (aD dH cL) fun _=>K .undef ((O.set i (.nest bu t1 up (dH.set cL.toNat (h▸xs)) au8 au7)).set j .dead)|some p=>if p.1=cL then au' (aD dH cL) fun _=>K .undef ((O.set i (.nest bu t1 up (dH.set cL.toNat (h▸xs)) au8 au7)).set j .dead) else au8 else au8 else au8|none=>au8)|_,_=>au8)| .c .g2=>(match O[i]? with|some (.nest bu t1 up dH hole _)=>(match X.N bu t1 with|some _=>if bu=e/\t=e/\off=0 then match hole with|none=>au' (aD dH cL) fun _=>K .undef (O.set i (.nest bu t1 up (dH.set cL.toNat []) au8 au7))|some p=>if p.1=cL then au' (aD dH cL) fun _=>K .undef (O.set i (.nest bu t1 up (dH.set cL.toNat []) au8 au7)) else au8 else au8|none=>au8)|_=>au8)|_=>au8
def PH (t:ave) (a b:aX D) (O:List (aT D)) (K:aX D->List (aT D)->Option af):Option af:=
 match P.info? t with
 |none=>au8
 |some k=>
  match a with
  | .box i off=>
   match xp b with
   |none=>au8
   |some new=>
    if new.length=k.size then
     match O[i]? with
     |some (.box u cs ava _)=>if off+new.length<=cs.length then K .undef (O.set i (.box u (vI cs off new) ava au7)) else au8
     |some (.recv u cs _)=>if off+new.length<=cs.length then K .undef (O.set i (.recv u (vI cs off new) au7)) else au8
     |_=>au8
    else au8
  | .el i e cL off=>
   if P3 O[i]? =au7 then Pr X t i e cL off b O K else
   match Ey O b with
   |none=>au8
   |some (new,O)=>
    if new.length=k.size then
     match O[i]?,X.I e with
     |some (.ad b2 xs ava _),au6 ti=>
      if h:b2=e then au' (aD (h▸xs:List (D e)) cL) fun a=>if off+new.length<=(ti.kT a).length then au' (ti.oO (vI (ti.kT a) off new)) fun a'=>K .undef (O.set i (.ad e ((h▸xs:List (D e)).set cL.toNat a') ava au7)) else au8
      else au8
     |some (.arr b2 u n xs _),au6 ti=>
      if h:b2=e then au' (aD (h▸xs:List (D e)) cL) fun a=>if off+new.length<=(ti.kT a).length then au' (ti.oO (vI (ti.kT a) off new)) fun a'=>K .undef (O.set i (.arr e u n ((h▸xs:List (D e)).set cL.toNat a') au7)) else au8
      else au8
     |_,_=>au8
    else au8
  |_=>au8
def Ag {e:Nat} (ti:dI P X.G e) (E:List (Nat×aX D)):Nat->List (Nat×avf)->List (aT D)->(List (D e)->List (aT D)->Option af)->Option af|_,[],O,K=>K [] O|n,(j,x)::cn,O,K=>if j=n then match Ey O (cY E x) with|some (cs,O)=>au' (ti.oO cs) fun a=>Ag ti E (n+1) cn O fun as O=>K (a::as) O|none=>au8 else au8
def vx (pl:List (Option (Nat×Nat))) (E:List (Nat×aX D)):List (Nat×avf)->List (bZ D)->Option (List (bZ D))|[],cs=>au6 cs|(i,x)::cn,cs=>match (pl[i]?).join,xp (cY E x) with|some (off,size),au6 new=>if new.length=size/\off+size<=cs.length then vx pl E cn (vI cs off new) else au8|_,_=>au8
def wS (E:List (Nat×aX D)):Option avf->Option Int
 |none=>au6 0
 |some y=>match cY E y with| .c (.int _ n)=>au6 n|_=>au8
def xw (E:List (Nat×aX D)) (l:Int):Option avf->Option Int
 |none=>au6 l
 |some y=>match cY E y with| .c (.int _ n)=>au6 n|_=>au8
def QO (t:ave) (a:aX D) (E:List (Nat×aX D)) (bD aj:Option avf) (O:List (aT D)) (K:aX D->List (aT D)->Option af):Option af:=match a with| .c (.str s)=>(match P.underlying t,wS E bD,xw E (s.length:Int) aj with|some .string,au6 x,au6 y=>au' (ho s x y) fun r=>K (.c (.str r)) O|_,_,_=>au8)| .c c=>(match rb O c with|some (.ad e xs,O)=>(match P.underlying t,X.I e,wS E bD,xw E (xs.length:Int) aj with|some (.slice b2),au6 _,au6 x,au6 y=>if b2=e then au' (ho xs x y) fun r=>K (.c (.ad e r)) O else au8|_,_,_,_=>au8)|_=>au8)|_=>au8
def VQ:aX D->Bool| .c .g2=>au7|_=>ava
def Qc (t:ave) (y:avf) (a:aX D) (E:List (Nat×aX D)) (bD aj:Option avf) (O:List (aT D)) (K:aX D->List (aT D)->Option af):Option af:=
 if VQ a=au7 then
  match P.underlying t,wS E bD,xw E 0 aj with
  |some (.slice e),au6 p,au6 q=>(match X.I e with|some _=>if (p==0&&q==0)=au7 then K (.c .g2) O else au8|none=>au8)
  |_,_,_=>au8
 else
 match X.hT y bD aj with
 |0=>QO X t a E bD aj O K
 |md+1=>
  match a with
  | .c (.own i)=>
   match O[i]?,P.underlying t with
   |some (.ad e xs ava _),au6 (.slice b2)=>
    match X.I e,wS E bD,xw E (xs.length:Int) aj with
    |some _,au6 p,au6 q=>
     if b2=e then au' (ho xs p q) fun r=>
      if avj md 0=au7 then K (.cut i e p.toNat q.toNat) O
      else K (.c (.own O.length)) (O.set i .dead++[.ad e r ava ava])
     else au8
    |_,_,_=>au8
   |_,_=>au8
  |_=>au8
def xv {aA:Type} (xs:List aA) (p q:Int):Option (List aA):=if 0<=p/\p<=(xs.length:Int)/\p<=4294967296/\p=q then au6 (xs.take p.toNat) else au8
def Qd (t:ave) (a b c:aX D) (O:List (aT D)) (K:aX D->List (aT D)->Option af):Option af:=match P.underlying t,b,c with|some (.slice b2), .c (.int _ p), .c (.int _ q)=>(match a with| .c c=>(match rb O c with|some (.ad e xs,O)=>(match X.I e with|some _=>if b2=e then au' (xv xs p q) fun r=>K (.full e r) O else au8|none=>au8)|_=>au8)|_=>au8)|_,_,_=>au8
def P0 (s t:ave) (a:aX D) (O:List (aT D)) (K:aX D->List (aT D)->Option af):Option af:=
 match P.underlying s,P.underlying t with
 |some (.int _),au6 (.int cM)=>(match a with| .c (.int _ n)=>K (.c (.int cM (cM.wrap n))) O|_=>au8)
 |some .string,au6 (.slice e)=>(match a,X.B e with| .c (.str s),au6 kP=>au' (ck s []) (fun h3=>K (.c (.own O.length)) (O++[.ad e (kP.of h3) ava ava]))|_,_=>au8)
 |some (.slice e),au6 .string=>(match oR O a,X.B e with|some ⟨b2,xs⟩,au6 kP=>if h:b2=e then K (.c (.str (kP.to (h▸xs)))) O else au8|_,_=>au8)
 |_,_=>au8
def G5 (O:List (aT D)) (s:aX D):Option ((e:Nat)×List (D e)):=match s with| .cut i e bD n=>(match O[i]? with|some (.ad b2 xs ava _)=>if b2=e then au6 ⟨b2,(xs.take n).drop bD⟩ else au8|_=>au8)|s=>oR O s
def PU (e:Nat) (wk:TypeDesc) (b:aX D) (O:List (aT D)):Option (List (D e)):=
 match wk with
 | .slice _=>(match b with
  | .c .g2=>au6 []
  |b=>match G5 O b with|some ⟨b2,b7⟩=>if h:b2=e then au6 (h▸b7) else au8|none=>au8)
 | .string=>(match b,X.B e with
  | .c (.str s),au6 kP=>au6 (kP.of s)
  |_,_=>au8)
 |_=>au8
def G1 (t u:ave) (a b:aX D) (O:List (aT D)) (K:aX D->List (aT D)->Option af):Option af:=match P.underlying t,P.underlying u with|some (.slice e),au6 wk=>(match X.I e with|none=>au8|some _=>match PU X e wk b O with|none=>au8|some b7=>match a with| .c .g2=>au' (ck [] b7) fun r=>K (.c (.own O.length)) (O++[.ad e r ava ava])| .full b2 xs=>if h:b2=e then (if b7.isEmpty=au7 then au8 else au' (ck (h▸xs:List (D e)) b7) fun r=>K (.c (.own O.length)) (O++[.ad e r ava ava])) else au8| .c (.own i)=>(match O[i]? with|some (.ad b2 xs ava _)=>if h:b2=e then au' (ck (h▸xs:List (D e)) b7) fun r=>K (.c (.own O.length)) (O.set i .dead++[.ad e r ava ava]) else au8|_=>au8)| .cut i bu bD n=>if avj bD 0 then if bu=e then match O[i]? with|some (.ad b2 xs ava _)=>if h:b2=e then au' (ck ((h▸xs:List (D e)).take n) b7) fun r=>K (.c (.own O.length)) (O.set i .dead++[.ad e r ava ava]) else au8|_=>au8 else au8 else au8|_=>au8)|_,_=>au8
def PZ (t u:ave) (a b:aX D) (O:List (aT D)) (K:aX D->List (aT D)->Option af):Option af:=
 match P.underlying t,P.underlying u with
 |some (.slice e),au6 (.slice _)=>
  match X.I e,a,G5 O b with
  |some _, .full b2 xs,au6 ⟨e2,b7⟩=>
   if h:b2=e then
    if aa:e2=e then au' (ck (h▸xs:List (D e)) (aa▸b7:List (D e))) fun r=>if b7.isEmpty=au7 then K (.c (.ad e r)) O else K (.c (.own O.length)) (O++[.ad e r ava ava])
    else au8
   else au8
  |_,_,_=>au8
 |_,_=>au8
def PC (t:ave) (a b:aX D) (O:List (aT D)) (K:aX D->List (aT D)->Option af):Option af:=match P.underlying t,a,b with|some (.slice e), .c .g2, .c (.int _ n)=>(match X.I e with|some ti=>if (decide (0<n))=au7 then au' (iG ti.x0 n) fun r=>K (.c (.own O.length)) (O++[.ad e r ava ava]) else au8|none=>au8)|some (.slice e), .c (.own i), .c (.int _ n)=>(match vy O i with|some b3=>(match b3[i]? with|some (.nest bu t1 up m0 au8 _)=>(match X.N bu t1 with|some _=>if bu=e then au' (iG ([]:List (D t1)) n) fun b7=>au' (ck m0 b7) fun r=>K (.c (.own b3.length)) (b3.set i .dead++[.nest bu t1 up r au8 ava]) else au8|none=>au8)|_=>au8)|none=>au8)|_,_,_=>au8
def P2:Option TypeDesc->Bool|some (.int _)=>au7|_=>ava
def QJ (t:ave) (l:Nat) (cn:List (Nat×avf)) (E:List (Nat×aX D)) (O:List (aT D)) (K:aX D->List (aT D)->Option af):Option af:=match P.underlying t with|some (.slice e)=>(match P.underlying e with|some (.slice t1)=>(match X.N e t1 with|some ej=>(match l,cn with|0,[]=>K (.c (.own O.length)) (O++[.nest e t1 (au6 ej.up) [] au8 ava])|1,[(0,y)]=>(match cY E y with| .c (.own j)=>(match O[j]? with|some (.ad t2 _ ava _)=>if t2=t1 then K (.c (.own O.length)) (O++[.nest e t1 (au6 ej.up) [[]] (au6 (0,j)) ava]) else au8|_=>au8)|_=>au8)|_,_=>au8)|none=>au8)|_=>au8)|_=>au8
def PY (t u:ave) (i:Nat) (b:aX D) (O:List (aT D)) (K:aX D->List (aT D)->Option af):Option af:=
 match P.underlying t,P.underlying u with
 |some (.slice e),au6 (.slice _)=>
  match b with
  | .c (.own j)=>
   if avj i j=au7 then au8 else
   match vy O i with
   |some b3=>
    match vy b3 j with
    |some dL=>
     match dL[i]?,dL[j]? with
     |some (.nest bu t1 up m0 au8 _),au6 (.nest e2 t2 _ C6 au8 _)=>
      match X.N bu t1 with
      |some ej=>if h:t2=t1 then (if bu=e/\e2=e then au' (ck m0 (h▸C6:List (List (D t1)))) fun r=>K (.c (.own dL.length)) ((dL.set i .dead).set j .dead++[.nest bu t1 up r au8 ava]) else au8) else au8
      |none=>au8
     |_,_=>au8
    |none=>au8
   |none=>au8
  |_=>au8
 |_,_=>au8
def QI (t:ave) (a:aX D) (O:List (aT D)) (K:aX D->List (aT D)->Option af):Option af:=
 match a,P.underlying t with
 | .c (.str s),au6 .string=>K (.c (.int .i64 (s.length:Int))) O
 | .c .g2,au6 (.slice _)=>K (.c (.int .i64 (([]:List Int).length:Int))) O
 |a,au6 (.slice _)=>
  match oR O a with
  |some ⟨_,xs⟩=>K (.c (.int .i64 (xs.length:Int))) O
  |none=>
   match a with
   | .c (.own i)=>(match O[i]? with|some (.nest _ _ _ dH _ _)=>K (.c (.int .i64 (dH.length:Int))) O|_=>au8)
   | .cut i e bD aj=>(match O[i]? with|some (.ad b2 xs ava _)=>if b2=e then K (.c (.int .i64 (((xs.take aj).drop bD).length:Int))) O else au8|_=>au8)
   |_=>au8
 |_,_=>au8
def Zk:bZ D->Bool| .own _=>ava| .fn _ is=>is.isEmpty|_=>au7
def vw (O:List (aT D)):aX D->Option ((Nat×List (bZ D))×List (aT D))| .g4 t cs off=>if off=0 then au6 ((t,cs),O) else au8| .box i off=>(match O[i]? with|some (.box t cs _ w)=>if off=0/\cs.all Zk=au7 then au6 ((t,cs),O.set i (.box t cs au7 w)) else au8|_=>au8)|_=>au8
def zW:List (aX D)->List (aT D)->Option (List (Nat×List (bZ D))×List (aT D))
 |[],O=>au6 ([],O)
 |s::l,O=>
  match vw O s with
  |some (c,O)=>(match zW l O with|some (r,O)=>au6 (c::r,O)|none=>au8)
  |none=>au8
def MB (O:List (aT D)):aX D->Option Nat| .box i off=>(match O[i]? with|some (.box _ _ ava _)=>if off=0 then au6 i else au8|_=>au8)|_=>au8
def Aa (O:List (aT D)):List (aX D)->Option (List Nat)
 |[]=>au6 []
 |s::l=>match MB O s,Aa O l with|some i,au6 is=>au6 (i::is)|_,_=>au8
def HX:List (aX D)->Option Nat|[_, .fn g []]=>au6 g|_=>au8
def Q2:Option Nat->Nat->Bool|some g,n=>avj g n|none,_=>ava
def vz:List (tS P X.G)->Nat->List (Nat×List (bZ D))->List (aX D)->Option (tS P X.G)|[],_,_,_=>au8|s::l,f,caps,cq=>if (avj s.f f&&(caps.isEmpty&&Q2 (HX cq) s.g))=au7 then au6 s else vz l f caps cq
def Qf (fw:tS P X.G) (cq:List (aX D)) (O:List (aT D)) (K:aX D->List (aT D)->Option af):Option af:=match cq with| .c .g2::_=>K (.nz []) O| .c (.own i)::_=>(match O[i]? with|some (.ad e xs ava _)=>if h:e=fw.e then au' (fw.Q4 (h▸xs:List (D fw.e))) fun b7=>K (.nz []) (O.set i (.ad fw.e b7 ava au7)) else au8|_=>au8)|_=>au8
def qA (c:Call) (E:List (Nat×aX D)) (O:List (aT D)) (K:aX D->List (aT D)->Option af):Option af:=
 match c.callee with
 | .builtin .len=>match c.args.toList,c.argTypes.toList with|[x],[t]=>QI (P:=P) t (cY E x) O K|_,_=>au8
 | .builtin .append=>match c.args.toList,c.argTypes.toList with|[x,y],[t,u]=>if P2 (P.underlying u)=au7 then PC X t (cY E x) (cY E y) O K else if avj (X.hT y (au6 x) (au6 x)) 6=au7 then PZ X t u (cY E x) (cY E y) O K else (match cY E x with| .c (.own i)=>if P3 O[i]? =au7 then PY X t u i (cY E y) O K else G1 X t u (cY E x) (cY E y) O K|_=>G1 X t u (cY E x) (cY E y) O K)|_,_=>au8
 | .builtin .cap=>match c.args.toList,c.argTypes.toList with|[x],[t]=>(match cY E x,P.underlying t with| .c .g2,au6 (.slice _)=>K (.c (.int .i64 0)) O|_,_=>au8)|_,_=>au8
 | .builtin .max=>match c.args.toList with|[x,y]=>(match cY E x,cY E y with| .c (.int k a), .c (.int cM b)=>if k=cM then K (.c (.int k (max a b))) O else au8|_,_=>au8)|_=>au8
 | .builtin .min=>match c.args.toList with|[x,y]=>(match cY E x,cY E y with| .c (.int k a), .c (.int cM b)=>if k=cM then K (.c (.int k (min a b))) O else au8|_,_=>au8)|_=>au8
 | .value f=>
  match cY E f with
  | .fn f caps=>
   match vz X X.S f caps (c.args.toList.map (cY E)) with
   |some fw=>Qf X fw (c.args.toList.map (cY E)) O K
   |none=>X.C f (c.args.toList.map (cY E)++caps.map fun p=> .g4 p.1 p.2 0) O K
  | .c (.fn f is)=>X.C f (c.args.toList.map (cY E)++is.map fun i=> .box i 0) O K
  |_=>au8
 |_=>au8
def PG (e:Nat) (x y:avf) (n:Int) (O:List (aT D)) (K:aX D->List (aT D)->Option af):Option af:=match P.underlying e with|some (.slice t1)=>(match X.N e t1,Av x y with|some ej,au7=>au' (iG ([]:List (D t1)) n) fun r=>K (.c (.own O.length)) (O++[.nest e t1 (au6 ej.up) r au8 ava])|_,_=>au8)|_=>au8
def h1 (o:Op) (E:List (Nat×aX D)) (O:List (aT D)) (K:aX D->List (aT D)->Option af):Option af:=
 match o with
 | .move x=>K (cY E x) O
 | .assign x=>K (cY E x) O
 | .nilCheck x=>(match cY E x with| .box .. | .arr .. | .el .. | .g4 .. =>K (cY E x) O|_=>au8)
 | .extract x i=>(match cY E x with| .nz l=>(match l[i]? with|some (.inl c)=>K (.c c) O|some (.inr p)=>K (.agg p.1 p.2) O|none=>au8)|_=>au8)
 | .pick c a b=>(match cY E c with| .c (.bool au7)=>K (cY E a) O| .c (.bool ava)=>K (cY E b) O|_=>au8)
 | .binOp op t x y u=>(match cY E x,cY E y with| .agg t1 c1, .agg t2 c2=>M0 X op t t1 c1 t2 c2 fun c=>K (.c c) O|a,b=>Mz (P:=P) op t y O a b fun c=>K (.c c) O)
 | .unOp .not t x=>(match cY E x with| .c (.bool b)=>K (.c (.bool (!b))) O|_=>au8)
 | .unOp .neg t x=>(match cY E x with| .c (.int k a)=>K (.c (.int k (k.wrap (0 - a)))) O|_=>au8)
 | .convert s t x=>P0 X s t (cY E x) O K
 | .indexAddr t (.global g) y=>QG (P:=P) t g (cY E y) O K
 | .indexAddr t x y=>QH X t (cY E x) (cY E y) O K
 | .field t x n=>PD (P:=P) t n (cY E x) O K
 | .fieldAddr t x n=>QP (P:=P) t n (cY E x) O K
 | .load t x=>if avj (X.hT x au8 au8) 4=au7 then YG X t (cY E x) O K else if avj (X.hT x au8 au8) 7=au7 then PE X t (cY E x) O K else GH X t (cY E x) O K
 | .store t x y=>PH X t (cY E x) (cY E y) O K
 | .alloc t=>
  (match X.A t with
  |some jL=>K (.arr O.length) (O++[.arr jL.e t jL.n (avw jL.n jL.ti.x0) ava])
  |none=>match X.I t with|some ti=>K (.box O.length 0) (O++[.box t ti.pU ava ava])|none=>au8)
 | .box t x=>
  (match P.info? t,xp (cY E x) with
  |some i,au6 cs=>if cs.length=i.size then K (.box O.length 0) (O++[.box t cs ava ava]) else au8
  |_,_=>au8)
 | .makeSlice t x y=>
  (match P.underlying t,cY E x with
  |some (.slice e), .c (.int _ n)=>
   if avj (X.hT x (au6 x) (au6 x)) 3=au7 then PG X e x y n O K else
   match X.I e,Av x y with
   |some ti,au7=>au' (iG ti.x0 n) fun r=>K (.c (.own O.length)) (O++[.ad e r ava ava])
   |_,_=>au8
  |_,_=>au8)
 | .buildSlice t l cn=>
  if avj (X.hT (.const (.int .i64 (t:Int))) au8 au8) 3=au7 then QJ X t l cn.toList E O K else
  (match P.underlying t with
  |some (.slice e)=>
   match X.I e with
   |some ti=>Ag X ti E 0 cn.toList O fun as O=>if as.length=l/\avp (l*(X.G.T e).a7) 16777216=au7 then K (.c (.own O.length)) (O++[.ad e as ava ava]) else au8
   |none=>au8
  |_=>au8)
 | .build t cn=>
  (match P.underlying t,X.I t with
  |some (.struct bm),au6 ti=>if (mn P bm).all axs=au7 then (match vx (mn P bm) E cn.toList ti.pU with|some cs=>K (.agg t cs) O|none=>au8) else au8
  |some (.array n e),au6 ti=>(match P.info? e with|some k=>(match vx ((avQ n).map fun j=>au6 (j*k.size,k.size)) E cn.toList ti.pU with|some cs=>K (.agg t cs) O|none=>au8)|none=>au8)
  |_,_=>au8)
 | .slice t x bD aj au8=>Qc X t x (cY E x) E bD aj O K
 | .slice t x au8 (au6 y) (au6 fv)=>Qd X t (cY E x) (cY E y) (cY E fv) O K
 | .index t x y=>(match P.underlying t,cY E x,cY E y with|some .string, .c (.str s), .c (.int _ n)=>au' (aD s n) fun c=>K (.c (.int .u8 (UInt8.toNat c:Int))) O|_,a,b=>Qe X t a b O K)
 | .makeFunc (.func f) first cap=>
  if avj (X.hT (.func f) au8 au8) 5=au7 then (match first.toList,Aa O (cap.toList.map (cY E)) with|[],au6 is=>K (.c (.fn f is)) O|_,_=>au8) else
  (match first.toList,zW (cap.toList.map (cY E)) O with|[],au6 (caps,O)=>K (.fn f caps) O|_,_=>au8)
 | .makeMap t au8=>(match P.underlying t with|some (.map bi bg)=>K (.c (.own O.length)) (O++[.map t bi bg [] ava ava])|_=>au8)
 | .lookup t x y ok=>
  (match Qy O (cY E x),cY E y with
  |some ⟨u,bi,bg,es⟩,c=>
   match P.underlying t,P.underlying u with
   |some (.map k v),au6 (.map cM bI)=>
    if k=bi/\v=bg/\cM=bi/\bI=bg then
     match X.L7 bi bg with
     |some eV=>
      match eV.uO c with
      |some a=>av.lt (@n5 _ _ eV.dec es a) fun y=>if ok=au7 then K (.nz [.inl (eV.r7 (y.getD eV.cd)), .inl (.bool y.isSome)]) O else K (.c (eV.r7 (y.getD eV.cd))) O
      |none=>au8
     |none=>au8
    else au8
   |_,_=>au8
  |_,_=>au8)
 | .mapUpdate t x y w| .insert t x y w=>
  (match cY E x,cY E y,cY E w with
  | .c (.own i),c, .c d=>
   match O[i]? with
   |some (.map u bi bg es ava _)=>
    match P.underlying t,P.underlying u with
    |some (.map k v),au6 (.map cM bI)=>
     if k=bi/\v=bg/\cM=bi/\bI=bg then
      match X.L7 bi bg with
      |some eV=>
       match eV.uO c,eV.C0 d with
       |some a,au6 b=>av.lt (@tp _ _ eV.dec es a b) fun ue=>K .undef (O.set i (.map u bi bg ue ava au7))
       |_,_=>au8
      |none=>au8
     else au8
    |_,_=>au8
   |_=>au8
  |_,_,_=>au8)
 | .call c=>qA X c E O K
 |_=>au8
def YS:Op->Option Nat| .pick (.tmp d) _ _=>au6 d|_=>au8
def tl (E:List (Nat×aX D)) (d:Nat) (K:List (Nat×aX D)->Option af):Option af:=match ei E d with| .c (.bool b)=>if b=au7 then K ((d, .c (.bool au7))::E) else K ((d, .c (.bool ava))::E)| .undef=>K E|_=>au8
def zh (o:Oper) (E:List (Nat×aX D)) (O:List (aT D)) (K:List (Nat×aX D)->List (aT D)->Option af):Option af:=match YS o.op with|some d=>tl E d fun E=>h1 X o.op E O fun v O=>K (lN E o.dst v) O|none=>h1 X o.op E O fun v O=>K (lN E o.dst v) O
def r4 (ops:List Oper):List Oper->List (Nat×aX D)->List (aT D)->(List (Nat×aX D)->List (aT D)->Option af)->Option af
 |[],E,O,K=>K E O
 |o::os,E,O,K=>
  match o.guard with
  |none=>zh X o E O fun E O=>r4 ops os E O K
  |some (j,want)=>
   match (ops[j]?).bind (·.dst) with
   |none=>au8
   |some d=>
    tl E d fun E=>
     match ei E d with
     | .c (.bool b)=>if b=want then zh X o E O fun E O=>r4 ops os E O K else r4 ops os (lN E o.dst .undef) O K
     | .undef=>r4 ops os (lN E o.dst .undef) O K
     |_=>au8
inductive fi where
 |n1|bl|lost
 |ob (j:Nat)
def pJ (E:List (Nat×aX D)):Op->Option fi
 | .load _ x=>(match cY E x with| .uj _ _=>au6 .bl| .g4 _ (_::_) _=>au6 .bl| .box j _=>au6 (.ob j)| .el j _ _ _=>au6 (.ob j)|_=>au8)
 | .lookup _ x _ _=>(match cY E x with| .c (.mp _ _ _ _)=>au6 .bl| .c (.own j)=>au6 (.ob j)|_=>au8)
 | .convert _ _ x=>(match cY E x with| .c (.ad _ _)=>au6 .bl| .c (.own j)=>au6 (.ob j)| .c (.int _ _)=>au6 .n1| .c (.str _)=>au6 .n1|_=>au8)
 | .slice _ x _ _ _=>(match cY E x with| .c (.str _)=>au6 .n1| .c (.ad _ _)=>au6 .bl| .c (.own j)=>au6 (.ob j)|_=>au8)
 |_=>au6 .n1
def pD:List (aX D)->List Nat|[]=>[]| .box i _::l=>i::pD l|_::l=>pD l
def zT:List (aX D)->List Nat|[]=>[]| .c (.own i)::l=>i::zT l|_::l=>zT l
def qG (E:List (Nat×aX D)):Op->Option (List Nat)
 | .store _ x _=>(match cY E x with| .box j _=>au6 [j]| .el j _ _ _=>au6 [j]|_=>au8)
 | .mapUpdate _ x _ _=>(match cY E x with| .c (.own j)=>au6 [j]|_=>au8)
 | .insert _ x _ _=>(match cY E x with| .c (.own j)=>au6 [j]|_=>au8)
 | .call c=>
  match c.callee with
  | .builtin .append=>(match c.args.toList with|x::_=>(match cY E x with| .c .g2=>au6 []| .c (.own j)=>au6 [j]| .cut j _ _ _=>au6 [j]| .full _ _=>au6 []|_=>au8)|[]=>au8)
  | .value f=>(match cY E f with| .fn lA caps=>(match vz X X.S lA caps (c.args.toList.map (cY E)) with|some _=>au6 (zT (c.args.toList.map (cY E)))|none=>if X.W lA=au7 then au8 else au6 (pD (c.args.toList.map (cY E))))|_=>au8)
  |_=>au8
 |_=>au8
structure fL where
 rd:List (Nat×fi)
 jh:List (Nat×(Bool×List Nat))
 iU:List (Nat×Nat)
 ju:List (Nat×Bool)
 nC:List Nat
def wQ:aX D->Bool| .c (.ad _ _)=>au7| .g4 _ (_::_) _=>au7|_=>ava
def rG (E:List (Nat×aX D)) (L:fL):avf->Bool| .tmp d=> !(L.nC.any (avj d))&&wQ (ei E d)|_=>ava
def p9 (E:List (Nat×aX D)) (L:fL):Op->Bool| .move x=>rG E L x| .assign x=>rG E L x| .nilCheck x=>rG E L x| .fieldAddr _ x _=>rG E L x| .indexAddr _ x _=>rG E L x|_=>ava
def VF (E:List (Nat×aX D)) (L:fL):Op->Bool| .load _ x=>rG E L x| .slice _ x _ _ au8=>rG E L x|_=>ava
def qS (E:List (Nat×aX D)) (o:Oper) (L:fL):fL:=
 match o.dst with
 |none=>L
 |some d=>if p9 E L o.op=au7 then {L with nC:=L.nC.filter fun e=> !(avj d e)} else {L with nC:=d::L.nC}
def rQ (O:List (aT D)) (j:Nat):Bool:=match O[j]? with|some o=>o.live|none=>ava
def GU (O:List (aT D)) (j:Nat):Bool:=match O[j]? with|some .dead=>ava|some (.box _ [] au7 _)=>ava|some _=>au7|none=>ava
def tf (O:List (aT D)) (ts:List Nat) (j:Nat):Bool:=GU O j&& !(ts.any (avj j))
def s7 (O:List (aT D)):Nat->List (aT D)->List Nat|_,[]=>[]|i,o::l=>if o.live=au7 then i::s7 O (i+1) l else s7 O (i+1) l
def xA (B:Array Nat) (i:Nat) (O:List (aT D)) (L:fL):fi->Bool| .n1=>au7| .bl=>L.jh.all fun y=>fA B i y.1||y.2.1| .ob j=>GU O j&&L.jh.all fun y=>fA B i y.1||(y.2.1||y.2.2.any (avj j))| .lost=>ava
def CW (O:List (aT D)) (ts:List Nat):fi->Bool| .ob j=>tf O ts j| .lost=>ava|_=>au7
def Qt (B:Array Nat) (i:Nat) (O:List (aT D)) (L:fL) (ts:List Nat):Bool:=ts.all (rQ O)&&((L.rd.all fun y=>fA B i y.1||CW O ts y.2)&&L.iU.all fun y=>fA B i y.1||tf O ts y.2)
def rN (E:List (Nat×aX D)) (O:List (aT D)):Op->Bool
 | .call c=>
  match c.callee with
  | .value f=>(match cY E f with| .fn f caps=>(match vz X X.S f caps (c.args.toList.map (cY E)) with|some _=>ava|none=>X.F f (c.args.toList.map (cY E)++caps.map fun p=> .g4 p.1 p.2 0) O)|_=>ava)
  |_=>ava
 |_=>ava
def yw (i:Nat) (O:List (aT D)) (ts:List Nat) (pM:Bool) (L:fL):fL:=
 {rd:=L.rd.map fun y=>if CW O ts y.2=au7 then y else (y.1, .lost)
  jh:=((i,au7,s7 O 0 O)::L.jh).map fun y=>(y.1,y.2.1&&pM,y.2.2.filter (tf O ts))
  iU:=L.iU
  ju:=(i,ts.isEmpty)::L.ju.map fun y=>(y.1,y.2&&ts.isEmpty)
  nC:=L.nC}
def Qs:aX D->Option (Option Nat)| .c (.own j)=>au6 (au6 j)| .box j _=>au6 (au6 j)| .arr j=>au6 (au6 j)| .c (.int _ _)=>au6 au8| .c (.str _)=>au6 au8|_=>au8
def VS (o:Op) (v:aX D):Option (Option Nat):=if qE o=au7 then Qs v else au6 au8
def n7 (i:Nat) (s:fi) (n:Option Nat) (L:fL):fL:=
 {rd:=match s with| .n1=>L.rd|s=>(i,s)::L.rd
  jh:=match n with|some _=>L.jh.map fun y=>(y.1,ava,y.2.2)|none=>L.jh
  iU:=match n with|some j=>(i,j)::L.iU|none=>L.iU
  ju:=L.ju
  nC:=L.nC}
def UC:fi->Bool| .bl=>au7|_=>ava
def GF (B:Array Nat) (i:Nat) (E:List (Nat×aX D)) (L:fL) (s:fi) (o:Op):Bool:=UC s&&VF E L o
def PT (B:Array Nat) (i:Nat) (L:fL):Bool:=(L.rd.all fun y=>fA B i y.1)&&L.iU.all fun y=>fA B i y.1
def Qu (i:Nat) (L:fL):fL:=
 {rd:=L.rd.map fun y=>(y.1, .lost)
  jh:=(i,ava,[])::L.jh.map fun y=>(y.1,ava,[])
  iU:=L.iU
  ju:=L.ju
  nC:=L.nC}
def FA (B:Array Nat) (i:Nat) (o:Oper) (L:fL) (E:List (Nat×aX D)) (O:List (aT D)) (K:fL->List (Nat×aX D)->List (aT D)->Option af):Option af:=
 if kF o.op=au7 then
  match qG X E o.op with
  |some ts=>if Qt B i O L ts=au7 then h1 X o.op E O fun v bY=>K (qS E o (yw i O ts (rN X E O o.op) L)) (lN E o.dst v) bY else au8
  |none=>if PT B i L=au7 then h1 X o.op E O fun v bY=>K (qS E o (Qu i L)) (lN E o.dst v) bY else au8
 else
  match pJ E o.op with
  |some s=>
   if (xA B i O L s||GF B i E L s o.op)=au7 then
    h1 X o.op E O fun v bY=>
     match VS o.op v with
     |some n=>K (qS E o (n7 i s n L)) (lN E o.dst v) bY
     |none=>au8
   else au8
  |none=>au8
def zg (B:Array Nat) (i:Nat) (o:Oper) (L:fL) (E:List (Nat×aX D)) (O:List (aT D)) (K:fL->List (Nat×aX D)->List (aT D)->Option af):Option af:=match YS o.op with|some d=>tl E d fun E=>FA X B i o L E O K|none=>FA X B i o L E O K
def tx (B:Array Nat) (ops:List Oper):Nat->List Oper->fL->List (Nat×aX D)->List (aT D)->(List (Nat×aX D)->List (aT D)->Option af)->Option af
 |_,[],_,E,O,K=>K E O
 |i,o::os,L,E,O,K=>
  match o.guard with
  |none=>zg X B i o L E O fun L E O=>tx B ops (i+1) os L E O K
  |some (j,want)=>
   match (ops[j]?).bind (·.dst) with
   |none=>au8
   |some d=>
    tl E d fun E=>
     match ei E d with
     | .c (.bool b)=>if b=want then zg X B i o L E O fun L E O=>tx B ops (i+1) os L E O K else tx B ops (i+1) os L (lN E o.dst .undef) O K
     | .undef=>tx B ops (i+1) os L (lN E o.dst .undef) O K
     |_=>au8
structure lu (D:Nat->Type) where
 path:List Nat
 fits:List (Nat×aX D)->List (aT D)->Bool
 run:List (Nat×aX D)->List (aT D)->{af:Type}->(eY->List (Nat×aX D)->List (aT D)->Option af)->Option af
def Er:List Nat->List Nat->Bool|[],[]=>au7|a::p,b::q=>avj a b&&Er p q|_,_=>ava
def qD (us:List (lu D)) (p:List Nat) (E:List (Nat×aX D)) (O:List (aT D)):Option (lu D):=match us with|[]=>au8|u::us=>if (Er u.path p&&u.fits E O)=au7 then au6 u else qD us p E O
def aly:Option (aT D)->Bool|some (.nest _ _ _ _ (au6 _) _)=>au7|_=>ava
def ah' (O:List (aT D)) (n:Nat):Bool:=
 match O[n]? with
 |some (.nest _ _ _ _ (au6 p) _)=>(match O[p.2]? with|some o=> !o.live|none=>ava)
 |_=>ava
def Hf:Nat->List (aT D)->Option (List (aT D))
 |0,O=>au6 O
 |n+1,O=>match Hf n O with|some b3=>if aly b3[n]? =au7 then (if ah' b3 n=au7 then au6 b3 else vy b3 n) else au6 b3|none=>au8
def tn (K:List (Nat×aX D)->List (aT D)->Option af) (E:List (Nat×aX D)) (O:List (aT D)):Option af:=match Hf O.length O with|some bY=>K E bY|none=>au8
def jO (us:List (lu D)) (calm:Array Oper->Bool):Bool->List Nat->Code->List (Nat×aX D)->List (aT D)->(eY->List (Nat×aX D)->List (aT D)->Option af)->Option af|top,p, .seq a b,E,O,K=>(match (if top=au7 then au8 else qD us p.reverse E O) with|some u=>u.run E O K|none=>jO us calm ava (0::p) a E O fun e E O=>if e= .normal then jO us calm ava (1::p) b E O K else K e E O)|top,p, .cond c a b,E,O,K=>(match (if top=au7 then au8 else qD us p.reverse E O) with|some u=>u.run E O K|none=>match cY E c with| .c (.bool t)=>if t=au7 then jO us calm ava (0::p) a E O K else jO us calm ava (1::p) b E O K|_=>au8)|top,p, .block id c,E,O,K=>(match (if top=au7 then au8 else qD us p.reverse E O) with|some u=>u.run E O K|none=>jO us calm ava (0::p) c E O fun e E O=>K (if e= .exit id then .normal else e) E O)|top,p, .scope c,E,O,K=>(match (if top=au7 then au8 else qD us p.reverse E O) with|some u=>u.run E O K|none=>jO us calm ava (0::p) c E O K)|top,p, .region _ ops d,E,O,K=>(match (if top=au7 then au8 else qD us p.reverse E O) with|some u=>u.run E O K|none=>if d=au7 then (if calm ops=au7 then r4 X ops.toList ops.toList E O (tn (K .normal)) else tx X (avK ops) ops.toList 0 ops.toList ⟨[],[],[],[],[]⟩ E O (tn (K .normal))) else r4 X ops.toList ops.toList E O (tn (K .normal)))|top,p, .loop c,E,O,K=>(match (if top=au7 then au8 else qD us p.reverse E O) with|some u=>u.run E O K|none=>au8)|_,_, .skip,E,O,K=>K .normal E O|_,_, .label _,E,O,K=>K .normal E O|_,_, .exit id,E,O,K=>K (.exit id) E O|_,_, .ret,E,O,K=>K .ret E O|_,_,_,_,_,_=>au8
end
end
end Go.av
end
section
namespace Go.av
theorem fT {aA:Type} {p:Prop} [Decidable p] {a:Option aA} {x:aA} (h:(if p then a else au8)=au6 x):p/\a=au6 x:=by
 grind
section
variable {P:avd} {D:Nat->Type} {X:ez P D} {af:Type} {z z':Nat->bo} {e m m':Mem} {k:Option Nat} {vs:List au9} {fr:Nat->au9} {E:List (Nat×aX D)} {O:List (aT D)} {o:Oper} {r:af}
def dk (X:ez P D) (O:List (aT D)) (z:Nat->bo) (e:Mem) (k:Option Nat) (vs:List au9) (K:aX D->List (aT D)->Option af) (r:af) (v:au9) (m':Mem):Prop:=∃z' vs' dh bY,Inv O bY/\dr e.next z z'/\(∀(i:Nat) (u:au9),vs[i]? =au6 u->vs'[i]? =au6 u)/\bF X.G bY z' e m' k vs'/\rel X.G z' vs' dh v/\K dh bY=au6 r
theorem dk.here {K:aX D->List (aT D)->Option af} {dh:aX D} {v:au9} (ay:bF X.G O z e m k vs) (ab:rel X.G z vs dh v) (fH:K dh O=au6 r):dk X O z e k vs K r v m:=⟨z,vs,dh,O,Inv.refl O,dr.refl z,fun _ _ h=>h,ay,ab,fH⟩
theorem dk.from {K:aX D->List (aT D)->Option af} {v:au9} {b4:Nat->bo} {b3:List (aT D)} (aj:Inv O b3) (a4:dr e.next z b4) (h:dk X b3 b4 e k vs K r v m'):dk X O z e k vs K r v m':=by
 obtain ⟨z',vs',dh,bY,bf,U,aa,ap,aN,bK⟩:=h;exact ⟨z',vs',dh,bY,aj.trans bf,a4.trans U,aa,ap,aN,bK⟩
theorem Pc (a0:∀d,rel X.G z vs (ei E d) (fr d)) (x:avf):rel X.G z vs (cY E x) (a8 fr x):=by
 cases x with
 |tmp t=>exact a0 t
 |func f=>exact ⟨[],rfl,trivial⟩
 |global g=>trivial
 |const v=>show rel X.G z vs (OA v) v;unfold OA;split<;>first|trivial|rfl
theorem Yy {i:Nat} {c:bZ D} {bY:List (aT D)} {v:au9} (ay:bF X.G O z e m k vs) (h:ug O i=au6 (c,bY)) (ab:vs[i]? =au6 v):∃z',Inv O bY/\dr e.next z z'/\bF X.G bY z' e m k vs/\dK X.G z' vs c v:=by
 unfold ug at h;split at h
 ·rename_i t xs bl w ao;cases h;have cp:=ay.obj i _ v ao ab;cases bl with
  |true=>
   have:O.set i (.ad t xs au7 w)=O:=by
    apply aww;intro j;rw[avU];split
    ·rename_i gZ;subst gZ;rw[ao,if_pos (avr.1 ao).1]
    ·rfl
   rw[this];exact ⟨z,Inv.refl O,dr.refl z,ay,cp⟩
  |false=>have cp:dM (X.G.T t) z e m k xs v:=cp;obtain ⟨z',U,aa,ap,aN⟩:=cp.freeze ay.aL;have ag:dz v=c9 v:=gL (by obtain ⟨a,c,rfl⟩:=cp.bt.len;intro r;simp);exact ⟨z',Inv.set O i (.inl rfl),U,ay.iQ ao ab rfl rfl U.le aa (by rw[ag];exact aN) ap,ap⟩
 ·rename_i t bi bg es bl w ao;cases h;have cp:=ay.obj i _ v ao ab;cases bl with
  |true=>
   have:O.set i (.map t bi bg es au7 w)=O:=by
    apply aww;intro j;rw[avU];split
    ·rename_i gZ;subst gZ;rw[ao,if_pos (avr.1 ao).1]
    ·rfl
   rw[this];exact ⟨z,Inv.refl O,dr.refl z,ay,cp⟩
  |false=>
   have cp:iE (X.G.M t bi bg) z e m k es v:=cp;obtain ⟨z',U,aa,ap,aN⟩:=cp.freeze ay.aL;have ag:dz v=rU v:=by obtain ⟨r,rfl,_⟩:=cp.bt;rfl
   exact ⟨z',Inv.set O i (.inl rfl),U,ay.iQ ao ab rfl rfl U.le aa (by rw[ag];exact aN) ap,ap⟩
 ·rename_i eK t up dH w ao;cases h;obtain ⟨hu,ws,cp⟩:=ay.obj i _ v ao ab;obtain ⟨U,aa,ap⟩:=hu up rfl;obtain ⟨z',aU,aQ,bT,cT⟩:=aip cp U aa ap ay.aL;have ql:∀r,v≠ .map r:=by obtain ⟨a,c,rfl⟩:=cp.bt.bt.len;intro r;simp
  exact ⟨z',Inv.set O i (.inl rfl),aU,ay.Dn (p:=au8) ao ab rfl ql aU.le ⟨avm _,ay.aL.dead,fun _ _ _=>rfl⟩ aQ (fun _ _ _ _ _ _ _=>eE.n0) (fun b ag=>by cases ag) (fun b ag _ az=>cT b ag az) bT,bT⟩
 ·cases h
theorem xl {c bQ:bZ D} {bY:List (aT D)} {v:au9} (ay:bF X.G O z e m k vs) (h:rb O c=au6 (bQ,bY)) (ab:dK X.G z vs c v):∃z',Inv O bY/\dr e.next z z'/\bF X.G bY z' e m k vs/\dK X.G z' vs bQ v:=by
 cases c with
 |own i=>exact Yy ay h ab.1
 |_=>cases h;exact ⟨z,Inv.refl O,dr.refl z,ay,ab⟩
theorem Gk:∀{cs cs':List (bZ D)} {O bY:List (aT D)} {ds:List au9} {z:Nat->bo},bF X.G O z e m k vs->wu O cs=au6 (cs',bY)->br (dK X.G z vs) cs ds->∃z',Inv O bY/\dr e.next z z'/\bF X.G bY z' e m k vs/\br (dK X.G z' vs) cs' ds
 |[],cs',O,bY,[],z,ay,h,_=>by cases h;exact ⟨z,Inv.refl _,dr.refl z,ay,trivial⟩
 |c::cs,cs',O,bY,d::ds,z,ay,h,⟨U,aa⟩=>by
  unfold wu at h;split at h
  ·rename_i bQ b3 ai;split at h
   ·rename_i MI dL ie;cases h;obtain ⟨b4,eU,aU,aQ,bT⟩:=xl ay ai U;obtain ⟨cZ,jU,b6,cc,eF⟩:=Gk aQ ie (nw.mono aa aU.le fun _ _ h=>h);exact ⟨cZ,eU.trans jU,aU.trans b6,cc,dK.mono bT b6.le fun _ _ h=>h,eF⟩
   ·cases h
  ·cases h
 |[],_,_,_,_::_,_,_,_,h=>h.elim
 |_::_,_,_,_,[],_,_,_,h=>h.elim
theorem FR {s:aX D} {cs:List (bZ D)} {v:au9} (h:xp s=au6 cs) (ab:rel X.G z vs s v):storable v=au7/\br (dK X.G z vs) cs v.cells.toList:=by
 cases s with
 |c c=>cases h;have:=dK.aaz ab;rw[this.2];exact ⟨this.1,ab,trivial⟩
 |agg t cs'=>cases h;obtain ⟨ds,rfl,aa⟩:=ab;exact ⟨rfl,aa⟩
 |fn f caps=>
  cases caps with
  |nil=>
   cases h;obtain ⟨gs,rfl,aa⟩:=ab;cases gs with
   |nil=>exact ⟨rfl,⟨[],rfl,trivial⟩,trivial⟩
   |cons _ _=>exact aa.elim
  |cons _ _=>cases h
 |_=>cases h
theorem Yz {s:aX D} {cs:List (bZ D)} {bY:List (aT D)} {v:au9} (ay:bF X.G O z e m k vs) (h:Ey O s=au6 (cs,bY)) (ab:rel X.G z vs s v):∃z',Inv O bY/\dr e.next z z'/\bF X.G bY z' e m k vs/\storable v=au7/\br (dK X.G z' vs) cs v.cells.toList:=by
 unfold Ey at h;split at h
 ·rename_i p7 ai;obtain ⟨U,aa⟩:=FR ai ab;obtain ⟨z',eU,aU,aQ,bT⟩:=Gk ay h aa;exact ⟨z',eU,aU,aQ,U,bT⟩
 ·cases h
variable {x y:avf} {t u:ave}
theorem akJ {op:BinOp} {kk:avb} {a b:Int} {K:bZ D->Option af} (ao:o.op= .binOp op t x y u) (ae:a8 fr x= .int kk a) (aI:a8 fr y= .int kk b) (h:Ea op y kk a b K=au6 r):∃c v,K c=au6 r/\cW P (a8 fr) o v/\dK X.G z vs c v:=by
 have lit:G4 y=au7->b≠0:=fun az ag=>by
  unfold G4 at az;split at az
  ·rename_i Fi n;have:awn Fi n= .int kk b:=aI;cases this;simp[ag] at az
  ·cases az
 cases op with
 |add=>exact ⟨_,_,h,VX ao ae aI,rfl⟩
 |sub=>exact ⟨_,_,h,V9 ao ae aI,rfl⟩
 |mul=>exact ⟨_,_,h,V4 ao ae aI,rfl⟩
 |and=>exact ⟨_,_,h,VY ao ae aI,rfl⟩
 |or=>exact ⟨_,_,h,V8 ao ae aI,rfl⟩
 |xor=>exact ⟨_,_,h,Wa ao ae aI,rfl⟩
 |andNot=>exact ⟨_,_,h,apy ao ae aI,rfl⟩
 |eql=>exact ⟨_,_,h,VZ ao ae aI,rfl⟩
 |neq=>exact ⟨_,_,h,V6 ao ae aI,rfl⟩
 |lss=>exact ⟨_,_,h,V3 ao ae aI,rfl⟩
 |leq=>exact ⟨_,_,h,V2 ao ae aI,rfl⟩
 |gtr=>exact ⟨_,_,h,V1 ao ae aI,rfl⟩
 |geq=>exact ⟨_,_,h,V0 ao ae aI,rfl⟩
 |quo=>
  simp only[Ea] at h;split at h
  ·rename_i az;exact ⟨_,_,h,OE ao ae aI (lit az),rfl⟩
  ·obtain ⟨c,ai,h⟩:=bind_some h;obtain ⟨U,rfl⟩:=aiB ai;exact ⟨_,_,h,OE ao ae aI U,rfl⟩
 |rem=>
  simp only[Ea] at h;split at h
  ·rename_i az;exact ⟨_,_,h,OF ao ae aI (lit az),rfl⟩
  ·obtain ⟨c,ai,h⟩:=bind_some h;obtain ⟨U,rfl⟩:=Xc ai;exact ⟨_,_,h,OF ao ae aI U,rfl⟩
 |shl=>cases h
 |shr=>cases h
theorem akK {op:BinOp} {s q:List UInt8} {K:bZ D->Option af} (ao:o.op= .binOp op t x y u) (ae:a8 fr x=str s) (aI:a8 fr y=str q) (h:Ud op s q K=au6 r):∃c v,K c=au6 r/\cW P (a8 fr) o v/\dK X.G z vs c v:=by
 cases op with
 |add=>obtain ⟨c,ai,h⟩:=bind_some h;obtain ⟨U,rfl⟩:=rL ai;exact ⟨_,_,h,ZT ao ae aI (by simp only[si] at U;omega),rfl⟩
 |eql=>exact ⟨_,_,h,ZW ao ae aI,rfl⟩
 |neq=>exact ⟨_,_,h,ZD ao ae aI,rfl⟩
 |lss=>exact ⟨_,_,h,Zz ao ae aI,rfl⟩
 |leq=>exact ⟨_,_,h,Z1 ao ae aI,rfl⟩
 |gtr=>exact ⟨_,_,h,ZZ ao ae aI,rfl⟩
 |geq=>exact ⟨_,_,h,ZY ao ae aI,rfl⟩
 |_=>cases h
theorem akI {op:BinOp} {a b:Bool} {K:bZ D->Option af} (ao:o.op= .binOp op t x y u) (aw:P.underlying t=au6 .bool) (ae:a8 fr x= .bool a) (aI:a8 fr y= .bool b) (h:Uc op a b K=au6 r):∃c v,K c=au6 r/\cW P (a8 fr) o v/\dK X.G z vs c v:=by
 cases op with
 |eql=>exact ⟨_,_,h,ZV ao aw ae aI,rfl⟩
 |neq=>exact ⟨_,_,h,ZC ao aw ae aI,rfl⟩
 |_=>cases h
theorem Pb {s:aX D} {v:au9} {p:(t:Nat)×List (D t)} (ay:bF X.G O z e m k vs) (h:oR O s=au6 p) (ab:rel X.G z vs s v):eu (X.G.T p.1) z p.2 v\/∃(w:au9),dM (X.G.T p.1) z e m k p.2 v:=by
 unfold oR at h;split at h
 ·cases h;exact .inl ab
 ·rename_i i;split at h
  ·rename_i t xs bl w ao;cases h;have cp:=ay.obj i _ v ao ab.1;cases bl with
   |true=>exact .inl cp
   |false=>exact .inr ⟨v,cp⟩
  ·cases h
 ·cases h
theorem ajc {s:aX D} {v:au9} {p:(t:Nat)×List (D t)} (ay:bF X.G O z e m k vs) (h:oR O s=au6 p) (ab:rel X.G z vs s v):∃a c,v= .slice a p.2.length c:=by
 rcases Pb ay h ab with h|⟨_,h⟩
 ·exact h.len
 ·exact h.bt.len
theorem W8 {s:aX D} {v:au9} {p:(t:Nat)×List (D t)} (ay:bF X.G O z e m k vs) (h:oR O s=au6 p) (ab:rel X.G z vs s v):(v= .slice au8 0 0/\p.2=[])\/∃a l c,v= .slice (au6 a) l c:=by
 rcases Pb ay h ab with h|⟨_,h⟩
 ·exact h.Ox
 ·exact h.bt.Ox
theorem ajd {s:aX D} {v:au9} {p:(t:Nat)×List (D t)} (ay:bF X.G O z e m k vs) (h:oR O s=au6 p) (ab:rel X.G z vs s v):Src (X.G.T p.1) z m p.2 v:=by
 rcases Pb ay h ab with h|⟨_,h⟩
 ·exact h.src ay.aL.bl
 ·exact h.bt.src
theorem oe.arD {aA:Type} {T:ct aA} {z':Nat->bo} {xs:List aA} {bD n:Nat} {w v:au9} (ai:oe T.a7 bD n w v) (h:eu T z' xs w):eu T z' ((xs.take n).drop bD) v:=by
 rcases ai with ⟨rfl,rfl,rfl,rfl⟩|⟨b,f0,l,c,off,bQ,rfl,rfl,U,aa,ap,aN⟩
 ·exact .inl ⟨rfl,by simp⟩
 ·rcases h with ⟨h,_⟩|⟨cB,OB,c2,aU,aQ,bT,cT⟩
  ·cases h
  ·cases aU;have az:((xs.take n).drop bD).length=n - bD:=by simp;omega
   refine .inr ⟨b,off,bQ,by rw[az],aQ, ?_,fun i x aj=> ?_⟩
   ·rw[az];rcases bT with ⟨b6,L,cc,eF⟩|⟨b6,cc⟩
    ·rcases aN with ⟨_,bK⟩|⟨bK,_⟩
     ·refine .inl ⟨bK,L,cc, ?_⟩;have bu:n*T.a7<=xs.length*T.a7:=awc _ aa;rcases ap with ap|⟨ap,yE⟩
      ·rw[ap,avZ,<-avL,show bD+(n - bD)=n by omega];omega
      ·rw[yE,show n - bD=0 by omega];omega
     ·omega
    ·rcases aN with ⟨bK,_⟩|⟨bK,ed⟩
     ·omega
     ·exact .inr ⟨by omega,by omega⟩
   ·obtain ⟨cs,b6,cc⟩:=cT _ x (zL aj);refine ⟨cs,b6, ?_⟩;rcases ap with ap|⟨ap,yE⟩
    ·rw[ap,avZ,<-avL];exact cc
    ·have:=(avr.1 aj).1;omega
theorem oe.OD {aA:Type} {T:ct aA} {z':Nat->bo} {m':Mem} {xs:List aA} {bD n:Nat} {w v:au9} (ai:oe T.a7 bD n w v) (h:fh T z' m' xs w):fh T z' m' ((xs.take n).drop bD) v:=by
 rcases ai with ⟨rfl,rfl,_,rfl⟩|⟨b,f0,l,c,off,bQ,rfl,rfl,U,aa,ap,aN⟩
 ·exact .inl ⟨rfl,by simp⟩
 ·rcases h with ⟨h,_⟩|⟨cB,f1,L,c2,aU,aQ,bT,cT,eL,gX,EA⟩
  ·cases h
  ·cases aU;have az:((xs.take n).drop bD).length=n - bD:=by simp;omega
   have bu:n*T.a7<=xs.length*T.a7:=awc _ aa;have e2:bD*T.a7+(n - bD)*T.a7=n*T.a7:=by rw[<-avL,show bD+(n - bD)=n by omega]
   have uc:n<=bD->(n - bD)*T.a7=0:=fun h=>by rw[show n - bD=0 by omega,Nat.zero_mul]
   refine .inr ⟨b,off,L,bQ,by rw[az],aQ,bT,cT, ?_, ?_,fun i x aj=> ?_⟩
   ·rw[az];rcases ap with ap|⟨ap,yE⟩
    ·omega
    ·have:=uc ap;omega
   ·rw[az];rcases aN with ⟨_,bK⟩|⟨bK,ed⟩
    ·exact .inl bK
    ·rcases gX with gX|⟨b6,cc,eF⟩
     ·omega
     ·subst ed;have wm:bD*T.a7+(c - bD)*T.a7=c*T.a7:=by rw[<-avL,show bD+(c - bD)=c by omega]
      refine .inr ⟨by omega,by omega, ?_⟩;rcases ap with ap|⟨ap,yE⟩<;>omega
   ·obtain ⟨cs,b6,cc⟩:=EA _ x (zL aj);refine ⟨cs,b6, ?_⟩;rcases ap with ap|⟨ap,yE⟩
    ·rw[ap,avZ,<-avL];exact cc
    ·have:=(avr.1 aj).1;omega
theorem oe.bt {aA:Type} {T:ct aA} {z':Nat->bo} {m':Mem} {xs:List aA} {n:Nat} {w v:au9} (ai:oe T.a7 0 n w v) (h:fh T z' m' xs w):fh T z' m' (xs.take n) v:=by simpa using ai.OD h
theorem oe.src {aA:Type} {T:ct aA} {z':Nat->bo} {m':Mem} {xs:List aA} {bD n:Nat} {w v:au9} (ai:oe T.a7 bD n w v) (h:fh T z' m' xs w):Src T z' m' ((xs.take n).drop bD) v:=by
 rcases ai with ⟨rfl,rfl,rfl,rfl⟩|⟨b,f0,l,c,off,bQ,rfl,rfl,U,aa,ap,aN⟩
 ·simpa using (fh.nil (T:=T) (z:=z') (m:=m')).src
 ·rcases h with ⟨h,_⟩|⟨cB,f1,L,c2,aU,aQ,bT,cT,eL,gX,EA⟩
  ·cases h
  ·cases aU;have az:((xs.take n).drop bD).length=n - bD:=by simp;omega
   rw[<-az];refine Qb fun i y aI=> ?_;obtain ⟨cs,b6,cc⟩:=EA _ y (zL aI);refine ⟨cs,b6,fun k u au=> ?_⟩;have:=(avr.1 aI).1;have ao:off=f0+bD*T.a7:=by
    rcases ap with ap|⟨ap,_⟩
    ·exact ap
    ·omega
   rw[ao,avZ f0,<-avL];simp only[Mem.load,aQ];exact cc k u au
theorem oe.aS {a7 bD n:Nat} {w v:au9} (ai:oe a7 bD n w v):dz v=dz w:=by
 rcases ai with ⟨rfl,rfl,_,_⟩|⟨b,f0,l,c,off,bQ,rfl,rfl,_⟩<;>rfl
theorem W7 {s:aX D} {v:au9} {p:(t:Nat)×List (D t)} (ay:bF X.G O z e m k vs) (h:G5 O s=au6 p) (ab:rel X.G z vs s v):Src (X.G.T p.1) z m p.2 v:=by
 unfold G5 at h;split at h
 ·obtain ⟨w,U,aa⟩:=ab;split at h
  ·rename_i b2 xs di bP;split at h
   ·rename_i he;subst he;cases h;have cp:dM _ z e m k xs w:=ay.obj _ _ _ bP U.1;exact aa.src cp.bt
   ·cases h
  ·cases h
 ·exact ajd ay h ab
theorem XS (h:isNil y=au7):a8 fr y= .slice au8 0 0:=by
 unfold isNil at h;split at h
 ·rfl
 ·cases h
theorem YW {op:BinOp} {left:Bool} {kk Fi:avb} {a b:Int} {K:bZ D->Option af} (ao:o.op= .binOp op t x y u) (aY:a8 fr x= .int kk a) (ag:a8 fr y= .int Fi b) (oE:(op= .shl/\left=au7)\/(op= .shr/\left=ava)) (h:Kf left y kk a b K=au6 r):∃c v,K c=au6 r/\cW P (a8 fr) o v/\dK X.G z vs c v:=by
 have fin:∀{n:Nat},0<=b->min b.toNat kk.bits=n->cW P (a8 fr) o (.int kk (xH left kk a n)):=by
  intro n nT a1;have:=Qg (P:=P) (op:=op) ao aY ag nT (by rcases oE with ⟨h,_⟩|⟨h,_⟩<;>simp[h]);rw[a1] at this;have e:(if op= .shl then kk.wrap (a*2 ^ n) else a.fdiv (2 ^ n))=xH left kk a n:=by rcases oE with ⟨rfl,rfl⟩|⟨rfl,rfl⟩<;>simp[xH,Int.natCast_pow]
  rw[<-e];exact this
 unfold Kf at h;split at h
 ·rename_i n a1;obtain ⟨az,h⟩:avp n kk.bits=au7/\K (.int kk (xH left kk a n))=au6 r:=by
   split at h
   ·exact ⟨‹_›,h⟩
   ·cases h
  have gj:b=n:=by
   unfold YO at a1;split at a1
   ·cases a1;have ag:awn _ (Int.ofNat n)= .int Fi b:=ag;cases ag;rfl
   ·cases a1
  exact ⟨_,_,h,fin (by omega) (by rw[gj,av'];exact Nat.min_eq_left (avq az)),rfl⟩
 ·obtain ⟨n,a1,h⟩:=bind_some h;unfold n8 at a1;split at a1
  ·rename_i nT;cases a1;exact ⟨_,_,h,fin nT rfl,rfl⟩
  ·cases a1
theorem aqs {op:BinOp} {t1 t2:Nat} {c1 c2:List (bZ D)} {K:bZ D->Option af} (ao:o.op= .binOp op t x y u) (aY:rel X.G z vs (.agg t1 c1) (a8 fr x)) (ag:rel X.G z vs (.agg t2 c2) (a8 fr y)) (h:M0 X op t t1 c1 t2 c2 K=au6 r):∃c v,K c=au6 r/\cW P (a8 fr) o v/\dK X.G z vs c v:=by
 unfold M0 at h;split at h
 ·rename_i ti mV ae2 aue;split at h
  ·rename_i a b U aa;obtain ⟨ds,ae,EZ⟩:=aY;obtain ⟨l9,aI,E0⟩:=ag;have bu:=mV.ab z a ds (ti.qx z vs c1 a ds U EZ);have e2:=mV.ab z b l9 (ti.qx z vs c2 b l9 aa E0);rw[bu] at ae;rw[e2] at aI;split at h
   ·exact ⟨_,_,h,FB ava (by simpa using ao) mV.aw mV.aM mV.a5 (mV.aC a b) ae aI (mV.he a b),rfl⟩
   ·exact ⟨_,_,h,FB au7 (by simpa using ao) mV.aw mV.aM mV.a5 (mV.aC a b) ae aI (mV.he a b),rfl⟩
   ·cases h
  ·cases h
 ·cases h
theorem akM {op:BinOp} {a b:aX D} {K:bZ D->Option af} (ao:o.op= .binOp op t x y u) (ay:bF X.G O z e m k vs) (aY:rel X.G z vs a (a8 fr x)) (ag:rel X.G z vs b (a8 fr y)) (h:Mz (P:=P) op t y O a b K=au6 r):∃c v,K c=au6 r/\cW P (a8 fr) o v/\dK X.G z vs c v:=by
 unfold Mz at h;split at h
 ·split at h
  ·exact YW ao aY ag (.inl ⟨rfl,rfl⟩) h
  ·exact YW ao aY ag (.inr ⟨rfl,rfl⟩) h
  ·split at h
   ·rename_i au;subst au;exact akJ ao aY ag h
   ·cases h
 ·exact akK ao aY ag h
 ·split at h
  ·rename_i aw;exact akI ao aw aY ag h
  ·cases h
 ·split at h
  ·rename_i g5 aw a1;have aI:=XS (fr:=fr) a1;split at h
   ·exact ⟨_,_,h,xn ava ao aw aY aI,rfl⟩
   ·split at h
    ·rename_i ec xs az;rcases W8 ay az aY with ⟨ab,wN⟩|⟨a',lL,bQ,ab⟩
     ·exact ⟨_,_,FX h au7 fun _=>wN,xn ava ao aw ab aI,rfl⟩
     ·exact ⟨_,_,FX h ava (by simp), .ud ava x y t u g5 a' lL bQ ao aw ab aI,rfl⟩
    ·cases h
  ·rename_i g5 aw a1;have aI:=XS (fr:=fr) a1;split at h
   ·exact ⟨_,_,h,xn au7 ao aw aY aI,rfl⟩
   ·split at h
    ·rename_i ec xs az;rcases W8 ay az aY with ⟨ab,wN⟩|⟨a',lL,bQ,ab⟩
     ·exact ⟨_,_,FX h au7 fun _=>wN,xn au7 ao aw ab aI,rfl⟩
     ·exact ⟨_,_,FX h ava (by simp), .ud au7 x y t u g5 a' lL bQ ao aw ab aI,rfl⟩
    ·cases h
  ·cases h
end
end Go.av
end
section
namespace Go.av
section
variable {P:avd} {D:Nat->Type} {X:ez P D} {af:Type} {z z':Nat->bo} {e m m':Mem} {k:Option Nat} {vs:List au9} {fr:Nat->au9} {E:List (Nat×aX D)} {O:List (aT D)} {o:Oper} {r:af}
variable {x y:avf} {t u:ave} {K:aX D->List (aT D)->Option af}
theorem ja {dh:aX D} {v:au9} (ay:bF X.G O z e m k vs) (fH:K dh O=au6 r) (h:cW P (a8 fr) o v) (ab:rel X.G z vs dh v):cj P (a8 fr) o m fun _ v m'=>dk X O z e k vs K r v m':=
 cj.pure h (dk.here ay ab fH)
theorem Zp {gN:Nat} {ti:dI P X.G gN} {xs:List (D gN)} {n:Int} {kk:avb} {a:D gN} (ao:o.op= .indexAddr t x y) (aw:P.underlying t=au6 (.slice gN)) (ay:bF X.G O z e m k vs) (aC:eu (X.G.T gN) z xs (a8 fr x)) (aI:a8 fr y= .int kk n) (a5:aD xs n=au6 a)
  (h:K (.g4 gN (ti.kT a) 0) O=au6 r):cj P (a8 fr) o m fun _ v m'=>dk X O z e k vs K r v m':=by
 refine af6 ao aw ti.aj ti.b9 rfl aI aC a5 fun b off cs et ai=> ?_;exact dk.here (dh:= .g4 gN (ti.kT a) 0) ay ⟨b,off,cs,rfl,ai,ti.pN _ _ _ _ et⟩ h
theorem akf {a b:aX D} (ao:o.op= .indexAddr t x y) (ay:bF X.G O z e m k vs) (aY:rel X.G z vs a (a8 fr x)) (ag:rel X.G z vs b (a8 fr y)) (h:QH X t a b O K=au6 r):cj P (a8 fr) o m fun _ v m'=>dk X O z e k vs K r v m':=by
 unfold QH at h;split at h
 ·rename_i kk n;have aI:a8 fr y= .int kk n:=ag;split at h
  ·rename_i i;split at h
   ·rename_i t1 CX ml xs di bP;split at h
    ·rename_i ti l b2 hL aw;split at h
     ·rename_i en;obtain ⟨rfl,rfl⟩:=en;obtain ⟨a,a5,h⟩:=bind_some h;obtain ⟨b,Om,ab,ae⟩:=aY;obtain ⟨⟨cB,he⟩,cp⟩:=ay.obj i _ _ bP ab;cases he;refine af5 ao aw ti.aj (T:=(X.G.T b2).as CX) ti.b9 ae aI cp a5 fun cs et sI ai=> ?_;exact dk.here (dh:= .el i b2 n 0) ay ⟨b,0,_,_,ab,by simp;rfl⟩ h
     grind
    grind
   grind
  ·rename_i bu xs;split at h
   ·rename_i ti b2 hL aw;split at h
    ·rename_i en;subst en;obtain ⟨a,a5,h⟩:=bind_some h;exact Zp (ti:=ti) ao aw ay aY aI a5 h
    grind
   grind
  ·rename_i i;split at h
   ·rename_i t1 xs bl di bP;split at h
    ·rename_i ti b2 hL aw;split at h
     ·rename_i en;subst en;obtain ⟨a,a5,h⟩:=bind_some h;have cp:=ay.obj i _ _ bP aY.1;cases bl with
      |true=>exact Zp (ti:=ti) ao aw ay cp aI a5 h
      |false=>have cp:dM (X.G.T b2) z e m k xs (a8 fr x):=cp;refine Zr ao aw ti.aj ti.b9 rfl aI cp a5 fun b f0 l c cs ab et sI ai=> ?_;exact dk.here (dh:= .el i b2 n 0) ay ⟨b,f0,l,c,by rw[<-ab];exact aY.1,rfl⟩ h
     grind
    grind
   ·rename_i bu t1 up dH hole di bP;split at h
    ·rename_i ej b2 aq aw;split at h
     ·rename_i en;subst en;obtain ⟨a,a5,h⟩:=bind_some h;obtain ⟨hu,ws,cp⟩:=ay.obj i _ _ bP aY.1;obtain ⟨eU,aU,aQ⟩:=nr a5;have bS:n.toNat<ws.length:=by rw[cp.len];grind
      have uz:aD ws n=au6 ws[n.toNat]:=by
       grind [aD]
      refine Zr (T:=p1 b2) ao aw ej.aj (by rw[ej.U];rfl) rfl aI cp.bt uz fun b f0 l c cs ab et sI ai=> ?_;exact dk.here (dh:= .el i b2 n 0) ay ⟨b,f0,l,c,by rw[<-ab];exact aY.1,by rw[ej.b9];rfl⟩ h
     grind
    grind
   grind
  ·rename_i i bu bD aj;split at h
   ·rename_i t1 xs di bP;split at h
    ·rename_i ti b2 hL aw;split at h
     ·rename_i en;obtain ⟨rfl,rfl⟩:=en;obtain ⟨a,a5,h⟩:=bind_some h;obtain ⟨w,hw,ai⟩:=aY;obtain ⟨eU,aU,aQ⟩:=nr a5;have hlen:n.toNat<((xs.take aj).drop bD).length:=(avr.1 aQ).1;rw[aw4,List.length_take] at hlen;rcases ai with ⟨_,_,rfl,rfl⟩|⟨b,f0,l,c,off,bQ,rfl,ab,U,aa,ap,aN⟩
      ·omega
      ·have qi:off=f0+bD*(X.G.T t1).a7:=by grind
       refine cj.pure (v:= .pointer (au6 ⟨b,off+n.toNat*ti.i.size,au8⟩)) (.indexAddr t x y t1 ti.i b off _ bQ kk n ao aw ti.aj ab aI eU (by omega)) (dk.here (dh:= .el i t1 ((bD:Int)+n) 0) ay ⟨b,f0,l,c,hw.1, ?_⟩ h);have bu:((bD:Int)+n).toNat=bD+n.toNat:=by omega
       rw[bu,qi,ti.b9,avL,Nat.add_zero,avZ]
     grind
    grind
   grind
  grind
 grind
theorem ajG {n:Nat} {a:aX D} (ao:o.op= .fieldAddr t x n) (ay:bF X.G O z e m k vs) (aY:rel X.G z vs a (a8 fr x)) (h:QP (P:=P) t n a O K=au6 r):cj P (a8 fr) o m fun _ v m'=>dk X O z e k vs K r v m':=by
 unfold QP at h;split at h
 ·rename_i bm aw;split at h
  ·rename_i f bb;split at h
   ·rename_i i aj;split at h
    ·grind
    ·rename_i aC;have mL:(i.size==0)=ava:=by grind
     split at h
     ·obtain ⟨b,ab,ae⟩:=aY;exact ja ay h (P8 ao aw bb aj mL ae) ⟨b,ab,rfl⟩
     ·obtain ⟨b,pz,ds,ae,ai,aE⟩:=aY;exact ja ay h (P8 ao aw bb aj mL ae) ⟨b,pz,ds,by grind,ai,aE⟩
     ·obtain ⟨b,f0,l,c,ab,ae⟩:=aY;exact ja ay h (P8 ao aw bb aj mL ae) ⟨b,f0,l,c,ab,by grind⟩
     grind
   grind
  grind
 grind
theorem ajP {b off:Nat} {cs:List (bZ D)} {ds:List au9} {K:aX D->Option af} (ao:o.op= .load t x) (ae:a8 fr x= .pointer (au6 ⟨b,off,au8⟩)) {l7:Nat} (ai:∀(j:Nat) (w:au9),ds[j]? =au6 w->m.load b (l7+j)=au6 w) {n:Nat} (qi:off=l7+n) (aE:br (dK X.G z vs) cs ds)
  (h:nt (P:=P) t cs n K=au6 r):∃dh v,K dh=au6 r/\rel X.G z vs dh v/\eJ P (a8 fr) o m v:=by
 subst qi;unfold nt at h;split at h
 ·grind
 ·rename_i d aO;split at h
  ·rename_i qc;split at h
   ·grind
   ·rename_i i aj;split at h
    ·rename_i hlen;have lH:br (dK X.G z vs) ((cs.drop n).take i.size) ((ds.drop n).take i.size):=br.take _ (br.drop _ aE);have kd:((ds.drop n).take i.size).length=i.size:=by rw[<-lH.length];grind
     refine ⟨_, .agg ((ds.drop n).take i.size).toArray,h,⟨_,rfl,lH⟩,aqz ao aO qc aj kd ae fun j w aZ=> ?_⟩
     grind
    grind
  ·rename_i qc;split at h
   ·rename_i c ie;obtain ⟨w,hw,y4⟩:=aE.get n c ie;exact ⟨_,w,h,y4,Qv ao aO (by grind) ae (ai n w hw)⟩
   grind
theorem bF.kill (h:bF X.G O z e m k vs) (i:Nat):bF X.G (O.set i .dead) z e m k vs:=by
 refine ⟨h.aL,by rw[awt];exact h.len,fun j p w aZ hw=> ?_,fun a b p iJ u w kr aY ag jl kB hu hw=> ?_⟩
 ·rw[avU] at aZ;split at aZ
  ·split at aZ
   ·cases aZ;trivial
   grind
  ·exact h.obj j p w aZ hw
 ·have key:∀(a:Nat) (p:aT D),(O.set i .dead)[a]? =au6 p->p.live=au7->O[a]? =au6 p:=by
   intro a p aY aM;rw[avU] at aY;split at aY
   ·split at aY
    ·cases aY;cases aM
    grind
   grind
  exact h.fa a b p iJ u w kr (key a p aY jl) (key b iJ ag kB) jl kB hu hw
theorem zz {b3:List (aT D)} {i:Nat} (ay:bF X.G O z e m k vs) (h:vy O i=au6 b3):∃z',Inv O b3/\dr e.next z z'/\bF X.G b3 z' e m k vs:=by
 unfold vy at h;split at h
 ·grind [Inv.refl,dr.refl]
 ·rename_i bu t1 up dH p w bP;split at h
  ·rename_i t2 xs gV Ni;split at h
   ·rename_i en;subst en;cases h;obtain ⟨v,ab,hu,ws,cp⟩:=ay.at bP;obtain ⟨sY,u,uG,yZ⟩:=cp.out p rfl;have rn:dM (X.G.T t2) z e m k xs u:=ay.obj p.2 _ u Ni uG;have ev:i≠p.2:=fun bL=>by grind
    have jQ:dz v=c9 v:=gL (by obtain ⟨a,c,rfl⟩:=cp.bt.bt.len;grind);have yM:dz u=c9 u:=gL (by obtain ⟨a,c,rfl⟩:=rn.bt.len;grind);have ql:∀r,v≠ .map r:=by obtain ⟨a,c,rfl⟩:=cp.bt.bt.len;grind
    have fo:=ay.fa p.2 i _ _ u v (fun bL=>ev bL.symm) Ni bP rfl rfl uG ab;rw[jQ,yM] at fo;have bS:p.1.toNat<ws.length:=(avr.1 yZ).1;have ry:ws=ws.set p.1.toNat u:=by
     apply aww
     grind
    obtain ⟨z',aU,aQ,bT,cT⟩:=PB cp ay.aL cp.bt ry bS (fun q bd=>by grind) rn fo;have yG:=ay.kill p.2;have yI:(O.set p.2 .dead)[i]? =au6 (.nest bu t2 up dH (au6 p) w):=by grind
    have yH:=yG.Dn (o':= .nest bu t2 up (dH.set p.1.toNat xs) au8 au7) (p:=c9 u) yI ab rfl ql aU.le ⟨avm _,ay.aL.dead,fun _ _ _=>rfl⟩ aQ (fun j q lT aZ bd az hw=> ?_) (fun b ag=>(rn.bt.lt b ag).2) (fun b ag aM _=> ?_) ⟨hu,ws,bT⟩
    ·have aeZ:(O.set i (.nest bu t2 up (dH.set p.1.toNat xs) au8 au7)).set p.2 .dead=(O.set p.2 .dead).set i (.nest bu t2 up (dH.set p.1.toNat xs) au8 au7):=List.set_comm _ _ ev;exact ⟨z',(Inv.set O i (.inr rfl)).trans (Inv.set _ p.2 (.inl rfl)),aU,by grind⟩
    ·rw[avU] at bd;split at bd
     ·split at bd
      ·cases bd;cases az
      grind
     ·rename_i NH;have:=ay.fa j p.2 q _ lT u (fun bL=>NH bL.symm) bd Ni az rfl hw uG
      grind
    grind
   grind
  grind
 grind
theorem ajb {i e2 t1:Nat} (ej:tQ P X.G e2 t1) {up:Option (List (D t1)->D e2)} {dH:List (List (D t1))} {di:Bool} {cL:Int} {b3:List (aT D)} {b4:Nat->bo} (ao:o.op= .load e2 x) (ay:bF X.G O z e m k vs) (jE:Inv O b3) (lK:dr e.next z b4) (ik:bF X.G b3 b4 e m k vs) (bP:b3[i]? =au6 (.nest e2 t1 up dH au8 di)) (aY:rel X.G z vs (.el i e2 cL 0) (a8 fr x))
  (h:(au' (aD dH cL) fun xs=>K (.c (.own b3.length)) (b3.set i (.nest e2 t1 up dH (au6 (cL,b3.length)) di)++[.ad t1 xs ava ava]))=au6 r):cj P (a8 fr) o m fun _ v m'=>dk X O z e k vs K r v m':=by
 obtain ⟨xs,a5,h⟩:=bind_some h;obtain ⟨b,f0,l,c,ab,ae⟩:=aY;obtain ⟨hu,ws,cp⟩:=ik.obj i _ _ bP ab;obtain ⟨eU,aU,aQ⟩:=nr a5;have bS:cL.toNat<ws.length:=by rw[cp.len];grind
 have hw:=avV bS;have uz:aD ws cL=au6 ws[cL.toNat]:=by
  grind [aD]
 obtain ⟨cs,et,_,ai⟩:=cp.bt.elem rfl uz;have NK:m.load b (f0+cL.toNat*(X.G.T e2).a7+0)=au6 ws[cL.toNat]:=by rw[ej.b9];exact ai 0 _ (by rw[et.1];rfl)
 generalize ws[cL.toNat]=u at*;obtain ⟨cZ,dn,dA,ea,eH,qy,pC⟩:=ajV (vs':=vs++[u]) (Fe:=b3.length) cp ik.aL hw aQ iZ (by rw[<-ik.len];simp);have ql:∀r,avS (au6 ⟨b,f0,au8⟩) l c≠ .map r:=fun r bL=>by grind
 have me:((cL.toNat:Nat):Int)=cL:=by omega
 rw[me] at ea;have yM:dz u=c9 u:=gL (by obtain ⟨a,c,rfl⟩:=eH.bt.len;grind);have aj:=(avr.1 bP).1;have adl:bF X.G (b3++[.dead]) b4 e m k (vs++[u]):=ik.OH trivial fun az=>by cases az
 have adm:=adl.Dn (o:= .nest e2 t1 up dH au8 di) (o':= .nest e2 t1 up dH (au6 (cL,b3.length)) di) (p:=au8) (by grind) (iZ _ _ ab) rfl ql dn.le ⟨avm _,ay.aL.dead,fun _ _ _=>rfl⟩ dA (fun _ _ _ _ _ _ _=>eE.n0) (fun b ag=>by grind) (fun cB _ _ az=>by
  grind) ⟨hu,ws,ea⟩
 have hlen:((b3++[(.dead:aT D)]).set i (.nest e2 t1 up dH (au6 (cL,b3.length)) di)).length=b3.length+1:=by simp
 have UP:=adm.asH (i:=b3.length) (o':= .ad t1 xs ava ava) (v:=u) (by grind) (by rw[<-ik.len];simp) (eH:dM (X.G.T t1) cZ e m k xs u) (fun j q w aZ bd az hw=> ?_)
 ·have E3:((b3++[(.dead:aT D)]).set i (.nest e2 t1 up dH (au6 (cL,b3.length)) di)).set b3.length (.ad t1 xs ava ava)=b3.set i (.nest e2 t1 up dH (au6 (cL,b3.length)) di)++[.ad t1 xs ava ava]:=by
   simp_all
  rw[E3] at UP;refine cj.read (Qv ao ej.hu rfl ae NK) ⟨cZ,vs++[u], .c (.own b3.length),_,jE.trans ((Inv.set b3 i (.inr ?_)).trans (Inv.push _ _)),lK.trans dn,iZ,UP, ?_,h⟩
  ·simp[aT.lR]
  ·obtain ⟨a,bQ,rfl⟩:=eH.bt.len;exact ⟨by rw[<-ik.len];simp,rfl,rfl⟩
 ·intro cB ek kz;rw[yM] at kz;refine pC cB kz ?_;have ad5:j<b3.length:=by
   grind
  by_cases ES:j=i
  ·subst ES;rw[avP (by grind)] at hw;rw[ab] at hw;cases hw;exact ((ik.obj _ _ _ bP ab).lt rfl cB ek).2.1
  ·rw[List.getElem?_set_ne (fun bL=>ES bL.symm),avP ad5] at bd;rw[avP (by rw[ik.len];grind)] at hw;exact ((ik.obj j q w bd hw).lt az cB ek).2.1
theorem ai4 {i bu:Nat} {cL:Int} {off:Nat} (ao:o.op= .load t x) (ay:bF X.G O z e m k vs) (aY:rel X.G z vs (.el i bu cL off) (a8 fr x)) (h:PF X t i bu cL off O K=au6 r):cj P (a8 fr) o m fun _ v m'=>dk X O z e k vs K r v m':=by
 unfold PF at h;split at h
 ·rename_i b3 bb;obtain ⟨b4,jE,lK,ik⟩:=zz ay bb;split at h
  ·rename_i e2 t1 up dH di bP;split at h
   ·rename_i ej aq;split at h
    ·rename_i au;obtain ⟨rfl,rfl,rfl⟩:=au;exact ajb ej ao ay jE lK ik bP aY h
    grind
   grind
  grind
 grind
theorem ai3 {a:aX D} (ao:o.op= .load t x) (ay:bF X.G O z e m k vs) (aY:rel X.G z vs a (a8 fr x)) (h:PE X t a O K=au6 r):cj P (a8 fr) o m fun _ v m'=>dk X O z e k vs K r v m':=by
 unfold PE at h;split at h
 ·rename_i i e2 cL off;split at h
  ·rename_i bu t1 up dH p di bP;split at h
   ·rename_i ej t2 xs gV aq aM;split at h
    ·rename_i au;obtain ⟨rfl,rfl,rfl⟩:=au;split at h
     ·rename_i me;obtain ⟨b,f0,l,c,ab,ae⟩:=aY;obtain ⟨hu,ws,cp⟩:=ay.obj i _ _ bP ab;obtain ⟨eU,u,aU,aQ⟩:=cp.out p rfl;subst me;obtain ⟨cs,et,_,ai⟩:=cp.bt.elem rfl (show aD ws p.1=au6 u by unfold aD;rw[if_pos eU];exact aQ);have NK:m.load b (f0+p.1.toNat*(X.G.T t).a7+0)=au6 u:=by
       rw[ej.b9];exact ai 0 _ (by rw[et.1];rfl)
      have hu:dM (X.G.T t2) z e m k xs u:=ay.obj p.2 _ u aM aU;refine cj.read (Qv ao ej.hu rfl ae NK) (dk.here (dh:= .c (.own p.2)) ay ?_ h);obtain ⟨a,bQ,rfl⟩:=hu.bt.len;exact ⟨aU,rfl,rfl⟩
     ·cases h
    ·cases h
   ·cases h
  ·cases h
 ·cases h
theorem W1 {bu:Nat} {ti:dI P X.G bu}:∀{l:Nat} {cs:List (bZ D)} {ds:List au9} {as:List (D bu)},Gw X ti l cs=au6 as->br (dK X.G z vs) cs ds->∀(i:Nat) (a:D bu),as[i]? =au6 a->i<l/\(X.G.T bu).rd z a ((ds.drop (i*(X.G.T bu).a7)).take (X.G.T bu).a7)
 |0,cs,ds,as,h,_,i,a,aj=>by cases h;simp at aj
 |n+1,cs,ds,as,h,aE,i,a,aj=>by
  simp only[Gw] at h;split at h
  ·rename_i gH wR U aa;cases h;cases i with
   |zero=>simp at aj;subst aj;refine ⟨by omega, ?_⟩;rw[Nat.zero_mul,List.drop_zero];exact ti.qx z vs _ _ _ U (br.take _ aE)
   |succ i=>have:=W1 aa (br.drop _ aE) i a (by simpa using aj);refine ⟨by omega, ?_⟩;rw[List.drop_drop] at this;rw[avL,Nat.one_mul,Nat.add_comm];exact this.2
  ·cases h
theorem ajx {a b:aX D} (ao:o.op= .index t x y) (ay:bF X.G O z e m k vs) (aY:rel X.G z vs a (a8 fr x)) (ag:rel X.G z vs b (a8 fr y)) (h:Qe X t a b O K=au6 r):cj P (a8 fr) o m fun _ v m'=>dk X O z e k vs K r v m':=by
 unfold Qe at h;split at h
 ·rename_i t1 cs kk n l bu aw;obtain ⟨ds,ae,aE⟩:=aY;have ag:a8 fr y= .int kk n:=ag;split at h
  ·rename_i ti d hL aO;obtain ⟨qc,h⟩:=fT h;split at h
   ·rename_i cs' bY bb;split at h
    ·rename_i as ai;obtain ⟨a,a5,h⟩:=bind_some h;obtain ⟨eU,aU,aQ⟩:=nr a5;obtain ⟨b4,s0,dn,dA,ea⟩:=Gk ay bb aE;obtain ⟨iI,iV⟩:=W1 ai ea _ a aQ;have aM:(ds.toArray.extract (n.toNat*ti.i.size) (n.toNat*ti.i.size+ti.i.size))=((ds.drop (n.toNat*(X.G.T bu).a7)).take (X.G.T bu).a7).toArray:=by
      rw[ti.b9];apply awM;simp
     refine cj.pure (.Fc t x y bu d ti.i l kk n ds.toArray ao aw aO qc ti.aj ae ag eU (by omega)) ⟨b4,vs, .agg bu (ti.kT a),bY,s0,dn,fun _ _ h=>h,dA, ?_,h⟩;rw[aM];exact ⟨_,rfl,ti.pN _ _ _ _ iV⟩
    ·cases h
   ·cases h
  ·cases h
 ·cases h
theorem ai2 {n:Nat} {a:aX D} (ao:o.op= .field t x n) (ay:bF X.G O z e m k vs) (aY:rel X.G z vs a (a8 fr x)) (h:PD (P:=P) t n a O K=au6 r):cj P (a8 fr) o m fun _ v m'=>dk X O z e k vs K r v m':=by
 unfold PD at h;split at h
 ·rename_i t1 cs bm aw;obtain ⟨ds,ae,aE⟩:=aY;split at h
  ·rename_i f bb;obtain ⟨Vm,h⟩:=fT h;have Vm:=avq Vm;have atZ:=aE.length;unfold nt at h;split at h
   ·cases h
   ·rename_i d aO;split at h
    ·rename_i qc;split at h
     ·cases h
     ·rename_i i aj;split at h
      ·rename_i hlen;have lH:br (dK X.G z vs) ((cs.drop f.offset).take i.size) ((ds.drop f.offset).take i.size):=br.take _ (br.drop _ aE);have kd:((ds.drop f.offset).take i.size).length=i.size:=by rw[<-lH.length];exact hlen
       refine cj.pure (.field t x n bm f d ds.toArray (.agg ((ds.drop f.offset).take i.size).toArray) ao aw bb aO ae ?_) (dk.here (dh:= .agg f.type ((cs.drop f.offset).take i.size)) ay ⟨_,rfl,lH⟩ h);rw[if_pos qc];simp only[List.length_take,aw4] at kd;refine ⟨i,aj,by simp;omega, ?_⟩;congr 1;apply awM;simp
      ·cases h
    ·rename_i qc;split at h
     ·rename_i c ie;obtain ⟨w,hw,y4⟩:=aE.get f.offset c ie;refine cj.pure (.field t x n bm f d ds.toArray w ao aw bb aO ae ?_) (dk.here (dh:= .c c) ay y4 h);rw[if_neg qc];simpa using hw
     ·cases h
  ·cases h
 ·cases h
theorem ake {g:Nat} {b:aX D} (ao:o.op= .indexAddr t (.global g) y) (ay:bF X.G O z e m k vs) (ag:rel X.G z vs b (a8 fr y)) (h:QG (P:=P) t g b O K=au6 r):cj P (a8 fr) o m fun _ v m'=>dk X O z e k vs K r v m':=by
 unfold QG at h;split at h
 ·rename_i kk n l bu aw;have ag:a8 fr y= .int kk n:=ag;split at h
  ·rename_i i aj;split at h
   ·rename_i az;obtain ⟨s,a5,h⟩:=bind_some h;obtain ⟨eU,aU,aQ⟩:=nr a5;exact cj.pure (.ED t _ y bu i l g kk n ao aw aj az.2 rfl ag eU (by rw[az.1];exact aU) (by omega)) (dk.here (dh:= .uj g s) ay ⟨n.toNat,aQ,rfl⟩ h)
   ·cases h
  ·cases h
 ·cases h
theorem WT {a:aX D} (ao:o.op= .load t x) (ay:bF X.G O z e m k vs) (aY:rel X.G z vs a (a8 fr x)) (h:GH X t a O K=au6 r):cj P (a8 fr) o m fun _ v m'=>dk X O z e k vs K r v m':=by
 have fin:∀{b off:Nat} {cs:List (bZ D)} {ds:List au9} {l7 n:Nat},a8 fr x= .pointer (au6 ⟨b,off,au8⟩)->(∀(j:Nat) (w:au9),ds[j]? =au6 w->m.load b (l7+j)=au6 w)->off=l7+n->br (dK X.G z vs) cs ds->nt (P:=P) t cs n (fun v=>K v O)=au6 r->cj P (a8 fr) o m fun _ v m'=>dk X O z e k vs K r v m':=by intro b off cs ds l7 n ae ai qi aE h;obtain ⟨dh,v,U,aa,ap⟩:=ajP ao ae ai qi aE h;exact cj.read ap (dk.here ay aa U)
 unfold GH at h;split at h
 ·obtain ⟨b,pz,ds,ae,ai,aE⟩:=aY;exact fin ae (ay.aL.rC ai) rfl aE h
 ·rename_i g s;obtain ⟨n,a1,ae⟩:=aY;split at h
  ·rename_i p a5 aw;split at h
   ·rename_i aeJ;exact cj.read (.uk t x g n s ao ae a1 aw (aeJ▸p.2)) (dk.here (dh:= .c (.str s)) ay rfl h)
   ·cases h
  ·cases h
 ·rename_i i off;obtain ⟨b,ab,ae⟩:=aY;split at h
  ·rename_i u cs bl di bP;have cp:=ay.obj i _ _ bP ab;cases bl with
   |true=>obtain ⟨cB,ds,he,ai,aE⟩:=cp;cases he;exact fin ae (ay.aL.rC ai) (avD _).symm aE h
   |false=>obtain ⟨cB,ds,he,ag,_,aE⟩:=cp;cases he;exact fin ae ag.rC (avD _).symm aE h
  ·rename_i u cs di bP;obtain ⟨cB,ds,he,ag,aE⟩:=ay.obj i _ _ bP ab;cases he;exact fin ae ag.rC (avD _).symm aE h
  ·cases h
 ·rename_i i bu cL off;split at h
  ·exact ai4 ao ay aY h
  obtain ⟨b,f0,l,c,ab,ae⟩:=aY;split at h
  ·rename_i e2 xs bl di ti bP hL;split at h
   ·rename_i en;subst en;obtain ⟨a,a5,h⟩:=bind_some h;have cp:=ay.obj i _ _ bP ab;cases bl with
    |true=>
     have cp:eu (X.G.T e2) z xs _:=cp;obtain ⟨eU,aU,aQ⟩:=nr a5;rcases cp with ⟨he,_⟩|⟨cB,o',bQ,he,_,_,aN⟩
     ·cases he
     ·cases he;obtain ⟨cs,et,ai⟩:=aN _ a aQ;exact fin ae (ay.aL.rC ai) rfl (ti.pN _ _ _ _ et) h
    |false=>have cp:dM (X.G.T e2) z e m k xs _:=cp;obtain ⟨cs,et,_,ai⟩:=cp.elem rfl a5;exact fin ae ai rfl (ti.pN _ _ _ _ et) h
   ·cases h
  ·rename_i e2 u n xs di ti bP hL;split at h
   ·rename_i en;subst en;obtain ⟨a,a5,h⟩:=bind_some h;obtain ⟨_,cp⟩:=ay.obj i _ _ bP ab;obtain ⟨cs,et,_,ai⟩:=cp.elem rfl a5;exact fin ae ai rfl (ti.pN _ _ _ _ et) h
   ·cases h
  ·cases h
 ·cases h
end
end Go.av
end
section
namespace Go.av
section
variable {P:avd} {D:Nat->Type} {X:ez P D} {af:Type} {z z':Nat->bo} {e m m':Mem} {k:Option Nat} {vs:List au9} {fr:Nat->au9} {E:List (Nat×aX D)} {O:List (aT D)} {o:Oper} {r:af}
variable {x y:avf} {t u:ave} {K:aX D->List (aT D)->Option af}
theorem br.set {aA bO:Type} {R:aA->bO->Prop}:∀{l:List aA} {k:List bO} (i:Nat) {a:aA} {b:bO},br R l k->R a b->br R (l.set i a) (k.set i b)
 |[],[],i,a,b,_,_=>by grind
 |x::l,y::k,0,a,b,⟨_,aa⟩,kr=>⟨kr,aa⟩
 |x::l,y::k,i+1,a,b,⟨U,aa⟩,kr=>⟨U,br.set i aa kr⟩
 |[],_::_,_,_,_,h,_=>h.elim
 |_::_,[],_,_,_,h,_=>h.elim
theorem w7:∀{new:List (bZ D)} {Ow:List au9} {cs:List (bZ D)} {ds:List au9} (off:Nat),br (dK X.G z vs) cs ds->br (dK X.G z vs) new Ow->br (dK X.G z vs) (vI cs off new) (e9 ds off Ow)
 |[],[],cs,ds,off,h,_=>h
 |c::new,d::Ow,cs,ds,off,h,⟨U,aa⟩=>w7 (off+1) (h.set off U) aa
 |[],_::_,_,_,_,_,h=>h.elim
 |_::_,[],_,_,_,_,h=>h.elim
theorem z3 {a b:Nat} (h:a<=b):avp a b=au7:=by simp_all
theorem n2 {ob:aT D} {dh:aX D} {v w:au9} (ay:bF X.G O z e m k vs) (aL:dp z e m' k) (s:fM m m' au8) (fo:∀p,(∀b,p=au6 b->b<m.next)->eE p (dz v)) (fH:K dh (O++[ob])=au6 r) (cp:gD X.G z e m' k (vs++[v]) ob v) (ab:rel X.G z (vs++[v]) dh w):dk X O z e k vs K r w m':=
 ⟨z,vs++[v],dh,O++[ob],Inv.push O ob,dr.refl z,iZ,ay.push s aL (fun _ _ _ _ _ _=>eE.n0) cp fun p aM _=>fo p aM,ab,fH⟩
theorem zw {i:Nat} {ob Oz:aT D} {v:au9} (ay:bF X.G O z e m k vs) (fH:K .undef (O.set i Oz)=au6 r) (bP:O[i]? =au6 ob) (ab:vs[i]? =au6 v) (az:ob.live=au7) (aw:Oz.lR=au7) (s:fM m m' (dz v)) (aL:dp z e m' k) (a1:gD X.G z e m' k vs Oz v):dk X O z e k vs K r undef m':=
 ⟨z,vs, .undef,_,Inv.set O i (.inr aw),dr.refl z,fun _ _ h=>h,ay.mY bP ab az s aL a1,rfl,fH⟩
theorem z1 (ay:bF X.G O z e m k vs) (v:au9):(vs++[v])[O.length]? =au6 v:=by
 rw[<-ay.len];simp
theorem nm {v:au9} {l:Nat} (ay:bF X.G O z e m k vs) (ab:∃a c,v= .slice a l c):rel X.G z (vs++[v]) (.c (.own O.length)) v:=by
 obtain ⟨a,c,rfl⟩:=ab;exact ⟨z1 ay _,rfl,rfl⟩
theorem Wx {i j bu t1:Nat} (ej:tQ P X.G bu t1) {up:Option (List (D t1)->D bu)} {dH:List (List (D t1))} {hole:Option (Int×Nat)} {di gV:Bool} {xs:List (D t1)} {cL:Int} (ao:o.op= .store bu x y) (ay:bF X.G O z e m k vs) (bP:O[i]? =au6 (.nest bu t1 up dH hole di)) (aZ:O[j]? =au6 (.ad t1 xs ava gV)) (aY:rel X.G z vs (.el i bu cL 0) (a8 fr x)) (ag:rel X.G z vs (.c (.own j)) (a8 fr y)) (bL:∀p,hole=au6 p->p.1=cL)
  (h:(au' (aD dH cL) fun _=>K .undef ((O.set i (.nest bu t1 up (dH.set cL.toNat xs) au8 au7)).set j .dead))=au6 r):cj P (a8 fr) o m fun _ v m'=>dk X O z e k vs K r v m':=by
 obtain ⟨a,a5,h⟩:=bind_some h;obtain ⟨b,f0,l,c,ab,ae⟩:=aY;obtain ⟨hu,eX,nW⟩:=ag;obtain ⟨fO,ws,cp⟩:=ay.obj i _ _ bP ab;obtain ⟨eU,aU,aQ⟩:=nr a5;have bS:cL.toNat<ws.length:=by rw[cp.len];grind
 have hw:=avV bS;have uz:aD ws cL=au6 ws[cL.toNat]:=by
  grind [aD]
 obtain ⟨cs,et,_,ai⟩:=cp.bt.elem rfl uz;have rn:dM (X.G.T t1) z e m k xs (a8 fr y):=ay.obj j _ _ aZ hu;generalize rv:a8 fr y=u at*;have ev:i≠j:=fun bL=>by grind
 have ql:∀r,avS (au6 ⟨b,f0,au8⟩) l c≠ .map r:=fun r bL=>by grind
 have yM:dz u=c9 u:=gL (by obtain ⟨a,c,rfl⟩:=rn.bt.len;grind);have fo:=ay.fa j i _ _ u _ (fun bL=>ev bL.symm) aZ bP rfl rfl hu ab;rw[yM] at fo;rw[ej.b9] at ae;have wD:u.cells.toList=[u]:=by grind
 refine Fg (T:=p1 bu) (f:=0) (n:=cL.toNat) ao ej.aj ae rfl rv eX wD (by rw[ej.U];rfl) cp.bt rfl hw et ai (a':=u) ⟨rfl,eX,nW⟩ (by rw[et.1];rfl) (by rw[et.1];rfl) ay.aL fun m' eN rH fU=> ?_;have N8:dM (X.G.T t1) z e m' k xs u:=rn.same fU fo;obtain ⟨z',dn,dA,ea,eH⟩:=PB cp eN rH rfl bS (fun p aM=>by grind) N8 fo;have yG:=ay.kill j;have yI:(O.set j .dead)[i]? =au6 (.nest bu t1 up dH hole di):=by grind
 have yH:=yG.Dn (o':= .nest bu t1 up (dH.set cL.toNat xs) au8 au7) (p:=c9 u) yI ab rfl ql dn.le fU dA (fun a q lT aY bd az hw=> ?_) (fun b ag=>(rn.bt.lt b ag).2) (fun b _ aM _=> ?_) ⟨fO,_,ea⟩
 ·have aeZ:(O.set i (.nest bu t1 up (dH.set cL.toNat xs) au8 au7)).set j .dead=(O.set j .dead).set i (.nest bu t1 up (dH.set cL.toNat xs) au8 au7):=List.set_comm _ _ ev;exact ⟨z',vs, .undef,_,(Inv.set O i (.inr rfl)).trans (Inv.set _ j (.inl rfl)),dn,fun _ _ h=>h,by grind,rfl,h⟩
 ·rw[avU] at bd;split at bd
  ·split at bd
   ·cases bd;cases az
   grind
  ·rename_i NH;have:=ay.fa a j q _ lT u (fun bL=>NH bL.symm) bd aZ az rfl hw hu
   grind
 grind
theorem Wy {i bu t1:Nat} (ej:tQ P X.G bu t1) {up:Option (List (D t1)->D bu)} {dH:List (List (D t1))} {hole:Option (Int×Nat)} {di:Bool} {cL:Int} (ao:o.op= .store bu x y) (ay:bF X.G O z e m k vs) (bP:O[i]? =au6 (.nest bu t1 up dH hole di)) (aY:rel X.G z vs (.el i bu cL 0) (a8 fr x)) (ag:rel X.G z vs (.c .g2) (a8 fr y)) (bL:∀p,hole=au6 p->p.1=cL)
  (h:(au' (aD dH cL) fun _=>K .undef (O.set i (.nest bu t1 up (dH.set cL.toNat []) au8 au7)))=au6 r):cj P (a8 fr) o m fun _ v m'=>dk X O z e k vs K r v m':=by
 obtain ⟨a,a5,h⟩:=bind_some h;obtain ⟨b,f0,l,c,ab,ae⟩:=aY;obtain ⟨fO,ws,cp⟩:=ay.obj i _ _ bP ab;obtain ⟨eU,aU,aQ⟩:=nr a5;have bS:cL.toNat<ws.length:=by rw[cp.len];grind
 have hw:=avV bS;have uz:aD ws cL=au6 ws[cL.toNat]:=by
  grind [aD]
 obtain ⟨cs,et,_,ai⟩:=cp.bt.elem rfl uz;have ag:a8 fr y= .slice au8 0 0:=ag;have rn:dM (X.G.T t1) z e m k ([]:List (D t1)) (.slice au8 0 0):=⟨.inl ⟨rfl,rfl⟩,fun b ag=>by cases ag⟩
 have ql:∀r,avS (au6 ⟨b,f0,au8⟩) l c≠ .map r:=fun r bL=>by grind
 have fo:eE (c9 (.slice au8 0 0)) (c9 (avS (au6 ⟨b,f0,au8⟩) l c)):=fun b ag=>by cases ag
 rw[ej.b9] at ae;refine Fg (T:=p1 bu) (f:=0) (n:=cL.toNat) ao ej.aj ae rfl ag rfl (a':= .slice au8 0 0) rfl (by rw[ej.U];rfl) cp.bt rfl hw et ai ⟨rfl,rfl,rfl⟩ (by rw[et.1];rfl) (by rw[et.1];rfl) ay.aL fun m' eN rH fU=> ?_;have N8:dM (X.G.T t1) z e m' k ([]:List (D t1)) (.slice au8 0 0):=⟨.inl ⟨rfl,rfl⟩,fun b ag=>by cases ag⟩
 obtain ⟨z',dn,dA,ea,eH⟩:=PB cp eN rH rfl bS (fun p aM=>by grind) N8 fo;have yH:=ay.Dn (o':= .nest bu t1 up (dH.set cL.toNat []) au8 au7) (p:=au8) bP ab rfl ql dn.le fU dA (fun a q lT aY bd az hw=>fun b ag ek=>by grind) (fun b ag=>by grind) (fun b _ aM _=> ?_) ⟨fO,_,ea⟩
 ·exact ⟨z',vs, .undef,_,Inv.set O i (.inr rfl),dn,fun _ _ h=>h,yH,rfl,h⟩
 ·rcases eH b with ai|ai
  ·grind
  ·cases ai
theorem aiq {i bu:Nat} {cL:Int} {off:Nat} {b:aX D} (ao:o.op= .store t x y) (ay:bF X.G O z e m k vs) (aY:rel X.G z vs (.el i bu cL off) (a8 fr x)) (ag:rel X.G z vs b (a8 fr y)) (h:Pr X t i bu cL off b O K=au6 r):cj P (a8 fr) o m fun _ v m'=>dk X O z e k vs K r v m':=by
 unfold Pr at h;split at h
 ·rename_i j;split at h
  ·rename_i e2 t1 up dH hole di t2 xs gV bP aZ;split at h
   ·rename_i ej aq;split at h
    ·rename_i en;subst en;split at h
     ·rename_i au;obtain ⟨rfl,rfl,rfl⟩:=au;split at h
      ·exact Wx ej ao ay bP aZ aY ag (fun p aM=>by grind) h
      ·split at h
       ·rename_i p aM;exact Wx ej ao ay bP aZ aY ag (fun q bd=>by grind) h
       grind
     grind
    grind
   grind
  grind
 ·split at h
  ·rename_i e2 t1 up dH hole di bP;split at h
   ·rename_i ej aq;split at h
    ·rename_i au;obtain ⟨rfl,rfl,rfl⟩:=au;split at h
     ·exact Wy ej ao ay bP aY ag (fun p aM=>by grind) h
     ·split at h
      ·rename_i p aM;exact Wy ej ao ay bP aY ag (fun q bd=>by grind) h
      grind
    grind
   grind
  grind
 grind
theorem ai6 {a b:aX D} (ao:o.op= .store t x y) (ay:bF X.G O z e m k vs) (aY:rel X.G z vs a (a8 fr x)) (ag:rel X.G z vs b (a8 fr y)) (h:PH X t a b O K=au6 r):cj P (a8 fr) o m fun _ v m'=>dk X O z e k vs K r v m':=by
 unfold PH at h;split at h
 ·grind
 ·rename_i i aj;split at h
  ·rename_i j off;split at h
   ·grind
   ·rename_i new a1;obtain ⟨eX,nb⟩:=FR a1 ag;split at h
    ·rename_i b9;have rp:(a8 fr y).cells.toList.length=i.size:=by rw[<-nb.length];grind
     obtain ⟨eA,ab,ae⟩:=aY;split at h
     ·rename_i u cs di bP;split at h
      ·rename_i hle;obtain ⟨hE,ds,he,mH,hq,aE⟩:=ay.obj j _ _ bP ab;cases he;refine VE ao aj ae rfl eX rfl rp mH (z3 (by rw[<-aE.length,<-nb.length];grind)) _ rfl ay.aL fun m' eN MA fU=> ?_;exact zw ay h bP ab rfl rfl fU eN ⟨eA,_,rfl,MA,hq,w7 off aE nb⟩
      grind
     ·rename_i u cs di bP;split at h
      ·rename_i hle;obtain ⟨hE,ds,he,mH,aE⟩:=ay.obj j _ _ bP ab;cases he;refine VE ao aj ae rfl eX rfl rp mH (z3 (by rw[<-aE.length,<-nb.length];grind)) _ rfl ay.aL fun m' eN MA fU=> ?_;exact zw ay h bP ab rfl rfl fU eN ⟨eA,_,rfl,MA,w7 off aE nb⟩
      grind
     grind
    grind
  ·rename_i j bu cL off;split at h
   ·grind [aiq]
   split at h
   ·grind
   ·rename_i new b3 a1;obtain ⟨b4,jE,lK,ik,eX,nb⟩:=Yz ay a1 ag;obtain ⟨eA,f0,l,c,ab,ae⟩:=aY;split at h
    ·rename_i b9;have rp:(a8 fr y).cells.toList.length=i.size:=by rw[<-nb.length];grind
     split at h
     ·rename_i e2 xs di ti bP hL;split at h
      ·rename_i en;subst en;obtain ⟨a,a5,h⟩:=bind_some h;split at h
       ·rename_i hle;obtain ⟨a',aM,h⟩:=bind_some h;have cp:dM (X.G.T e2) b4 e m k xs _:=ik.obj j _ _ bP ab;obtain ⟨cs,et,sI,ai⟩:=cp.elem rfl a5;have aE:=ti.pN b4 vs a cs et;refine Fg (T:=X.G.T e2) ao aj ae rfl rfl eX rfl rp cp rfl sI et ai (ti.qx b4 vs _ a' _ aM (w7 off aE nb)) rfl (z3 (by rw[<-aE.length,<-nb.length];grind)) ik.aL fun m' eN rH fU=> ?_;exact dk.from jE lK (zw ik h bP ab rfl rfl fU eN rH)
       grind
      grind
     ·rename_i e2 u n xs di ti bP hL;split at h
      ·rename_i en;subst en;obtain ⟨a,a5,h⟩:=bind_some h;split at h
       ·rename_i hle;obtain ⟨a',aM,h⟩:=bind_some h;obtain ⟨⟨hE,he⟩,cp⟩:=ik.obj j _ _ bP ab;obtain ⟨cs,et,sI,ai⟩:=cp.elem rfl a5;have aE:=ti.pN b4 vs a cs et;refine Fg (T:=(X.G.T e2).as u) ao aj ae rfl rfl eX rfl rp cp rfl sI et ai (ti.qx b4 vs _ a' _ aM (w7 off aE nb)) rfl (z3 (by rw[<-aE.length,<-nb.length];grind)) ik.aL fun m' eN rH fU=> ?_;exact dk.from jE lK (zw ik h bP ab rfl rfl fU eN ⟨⟨hE,he⟩,rH⟩)
       grind
      grind
     grind
    grind
  grind
theorem aiY (ao:o.op= .alloc t) (ay:bF X.G O z e m k vs)
  (h:(match X.A t with
  |some jL=>K (.arr O.length) (O++[.arr jL.e t jL.n (avw jL.n jL.ti.x0) ava])
  |none=>match X.I t with|some ti=>K (.box O.length 0) (O++[.box t ti.pU ava ava])|none=>au8)=au6 r):cj P (a8 fr) o m fun _ v m'=>dk X O z e k vs K r v m':=by
 split at h
 ·rename_i jL dY;refine alB (T:=X.G.T jL.e) (x0:=jL.ti.x0) ao jL.aj jL.a4 jL.db jL.dV jL.pu (jL.ti.CQ z) jL.a1 ay.aL fun b m' eN bt fU fo=> ?_;exact n2 (v:= .slice (au6 ⟨b,0,au8⟩) jL.n jL.n) ay eN fU fo h ⟨⟨b,rfl⟩,bt⟩ ⟨b,jL.n,z1 ay _,rfl⟩
 ·split at h
  ·rename_i ti hL;refine alC ao ti.aj ti.a4 ti.db ti.dV _ rfl ay.aL fun b m' a1 eN bG fU fo=> ?_;exact n2 (v:= .pointer (au6 ⟨b,0,au8⟩)) ay eN fU fo h ⟨b,_,rfl,bG,a1,ti.pu _ _⟩ ⟨b,z1 ay _,rfl⟩
  grind
theorem ajE {i:TypeInfo} {cs:List (bZ D)} (ao:o.op= .box t x) (ay:bF X.G O z e m k vs) (a0:rel X.G z vs (cY E x) (a8 fr x)) (aj:P.info? t=au6 i) (ai:xp (cY E x)=au6 cs) (az:cs.length=i.size)
  (h:K (.box O.length 0) (O++[.box t cs ava ava])=au6 r):cj P (a8 fr) o m fun _ v m'=>dk X O z e k vs K r v m':=by
 obtain ⟨eX,aE⟩:=FR ai a0;refine af3 ao aj rfl eX _ rfl (by rw[<-aE.length];grind) ay.aL fun b m' a1 eN bG fU fo=> ?_;exact n2 (v:= .pointer (au6 ⟨b,0,au8⟩)) ay eN fU fo h ⟨b,_,rfl,bG,a1,nw.mono aE (eR.refl z) iZ⟩ ⟨b,z1 ay _,rfl⟩
theorem XH {kk:avb} {n:Int} (h:Av x y=au7) (ae:a8 fr x= .int kk n):∃cc,a8 fr y= .int cc n:=by
 unfold Av at h;split at h
 ·simp_all
 ·rename_i b6 a cc b;have nZ:awn b6 a= .int kk n:=ae;cases nZ;have:n=b:=by grind
  subst this;exact ⟨cc,rfl⟩
 grind
theorem ai5 {gN:Nat} {kk:avb} {n:Int} (ao:o.op= .makeSlice t x y) (aw:P.underlying t=au6 (.slice gN)) (ay:bF X.G O z e m k vs) (ae:a8 fr x= .int kk n) (h:PG X gN x y n O K=au6 r):cj P (a8 fr) o m fun _ v m'=>dk X O z e k vs K r v m':=by
 unfold PG at h;split at h
 ·rename_i t1 hu;split at h
  ·rename_i ej aq wO;obtain ⟨dH,hm,h⟩:=bind_some h;obtain ⟨cc,aI⟩:=XH wO ae;obtain ⟨fc,ml,rfl⟩:=zF hm;have aej:iG (avS au8 0 0) n=au6 (avw n.toNat (avS au8 0 0)):=by
    grind [iG]
   refine Zs (T:=p1 gN) (x0:=avS au8 0 0) ao aw ej.aj ej.a4 rfl (by rw[ej.U];rfl) (by rw[ej.U];rfl) ej.gY ⟨rfl,rfl,rfl⟩ ae aI ay.aL aej fun bI m' eN bt fU fo=> ?_;have ag:dz bI=c9 bI:=gL (by obtain ⟨a,c,rfl⟩:=bt.bt.len;grind);refine n2 (v:=bI) ay eN fU (by grind) h ⟨fun f bb=>by cases bb;exact ⟨ej.b9,ej.tid,ej.aE⟩,_,bt,by simp,fun j w xs aU aQ _=> .inl ?_,fun p aM=>by grind⟩ (nm ay bt.bt.len)
   grind
  grind
 grind
theorem ajz {gN:Nat} {ti:dI P X.G gN} {kk:avb} {n:Int} (ao:o.op= .makeSlice t x y) (aw:P.underlying t=au6 (.slice gN)) (ay:bF X.G O z e m k vs) (ae:a8 fr x= .int kk n) (wO:Av x y=au7)
  (h:(au' (iG ti.x0 n) fun r=>K (.c (.own O.length)) (O++[.ad gN r ava ava]))=au6 r):cj P (a8 fr) o m fun _ v m'=>dk X O z e k vs K r v m':=by
 obtain ⟨xs,hm,h⟩:=bind_some h;have aI:=XH wO ae;obtain ⟨cc,aI⟩:=aI;refine Zs (T:=X.G.T gN) ao (by rw[ti.tid];grind) (by rw[ti.tid];exact ti.aj) ti.a4 ti.db ti.dV ti.b9 ti.gY (ti.CQ z) ae aI ay.aL hm fun bI m' eN bt fU fo=> ?_;have ag:dz bI=c9 bI:=gL (by obtain ⟨a,c,rfl⟩:=bt.bt.len;grind);exact n2 (v:=bI) ay eN fU (by grind) h bt (nm ay bt.bt.len)
theorem XZ {gN:Nat} {ti:dI P X.G gN}:∀{cn:List (Nat×avf)} {n:Nat} {O:List (aT D)} {z:Nat->bo} {K:List (D gN)->List (aT D)->Option af},bF X.G O z e m k vs->(∀x,rel X.G z vs (cY E x) (a8 fr x))->Ag X ti E n cn O K=au6 r->
  ∃z' bY as iO,Inv O bY/\dr e.next z z'/\bF X.G bY z' e m k vs/\u5 (X.G.T gN) z' (a8 fr) cn n as iO/\K as bY=au6 r
 |[],n,O,z,K,ay,a0,h=>⟨z,O,[],[],Inv.refl O,dr.refl z,ay,trivial,h⟩
 |(j,x)::cn,n,O,z,K,ay,a0,h=>by
  unfold Ag at h;split at h
  ·rename_i aZ;split at h
   ·rename_i cs b3 ai;obtain ⟨a,aY,h⟩:=bind_some h;obtain ⟨b4,jE,lK,ik,eX,aE⟩:=Yz ay ai (a0 x);obtain ⟨cZ,dL,as,iO,eU,aU,aQ,bT,cT⟩:=XZ ik (fun x=>(a0 x).mono lK.le fun _ _ h=>h) h;exact ⟨cZ,dL,a::as,(a8 fr x).cells.toList::iO,jE.trans eU,lK.trans aU,aQ,⟨aZ,eX,rfl,(X.G.T gN).mono _ _ aU.le _ _ (ti.qx _ _ _ _ _ aY aE),bT⟩,cT⟩
   grind
  grind
theorem ai1 {gN l:Nat} {ti:dI P X.G gN} {cn:Array (Nat×avf)} (ao:o.op= .buildSlice t l cn) (aw:P.underlying t=au6 (.slice gN)) (ay:bF X.G O z e m k vs) (a0:∀x,rel X.G z vs (cY E x) (a8 fr x))
  (h:(Ag X ti E 0 cn.toList O fun as O=>if as.length=l/\avp (l*(X.G.T gN).a7) 16777216=au7 then K (.c (.own O.length)) (O++[.ad gN as ava ava]) else au8)=au6 r):cj P (a8 fr) o m fun _ v m'=>dk X O z e k vs K r v m':=by
 obtain ⟨b4,b3,as,iO,eU,aU,aQ,bT,cT⟩:=XZ ay a0 h;split at cT
 ·rename_i az;have gF:0<(X.G.T gN).a7:=Nat.pos_of_ne_zero fun bf=>by have:=ti.gF;grind
  have sC:=avq az.2;have Vf:l<=l*(X.G.T gN).a7:=Nat.le_mul_of_pos_right _ gF;refine P4 (T:=X.G.T gN) ao (by rw[ti.tid];grind) (by rw[ti.tid];exact ti.aj) ti.a4 ti.db ti.dV ti.b9 as iO az.1 az.2 (z3 (show l+1<=9223372036854775808 by omega)) bT aQ.aL fun bI m' eN bt fU fo=> ?_;have ag:dz bI=c9 bI:=gL (by obtain ⟨a,c,rfl⟩:=bt.bt.len;grind);exact dk.from eU aU (n2 (v:=bI) aQ eN fU (by grind) cT bt (nm aQ bt.bt.len))
 grind
theorem PO {pl:List (Option (Nat×Nat))} (a0:∀x,rel X.G z vs (cY E x) (a8 fr x)):∀{cn:List (Nat×avf)} {cs cs':List (bZ D)} {ds:List au9},vx pl E cn cs=au6 cs'->br (dK X.G z vs) cs ds->
  ∃l9,jm (fun k=>(pl[k]?).join) ds (cn.map fun p=>(p.1,a8 fr p.2))=au6 l9/\br (dK X.G z vs) cs' l9
 |[],cs,cs',ds,h,aE=>by cases h;exact ⟨ds,rfl,aE⟩
 |(i,x)::cn,cs,cs',ds,h,aE=>by
  unfold vx at h;split at h
  ·rename_i off size new aM ai;split at h
   ·rename_i U0;obtain ⟨eX,nb⟩:=FR ai (a0 x);obtain ⟨l9,aU,aQ⟩:=PO a0 h (w7 off aE nb);refine ⟨l9, ?_,aQ⟩;have b9:(a8 fr x).cells.size=size:=by
     have U:new.length=(a8 fr x).cells.toList.length:=nb.length
     grind
    simp only[awe,jm,aM];rw[if_pos ⟨eX,b9,by rw[<-aE.length];grind⟩]
    grind
   grind
  grind
theorem XP {n s:Nat}:∀{cn:List (Nat×au9)} {cs ds:List au9},jm (fun k=>(((avQ n).map fun j=>au6 (j*s,s))[k]?).join) cs cn=au6 ds->jm (fun j=>au6 (j*s,s)) cs cn=au6 ds
 |[],_,_,h=>h
 |(i,v)::cn,cs,ds,h=>by
  simp only[jm] at h⊢;by_cases aj:i<n
  ·rw[awb,List.getElem?_range aj] at h;simp only[Option.map_some,Option.join_some] at h;split at h
   ·rename_i ai;rw[if_pos ai];exact XP h
   grind
  grind
theorem ai0 {ti:dI P X.G t} {n En:Nat} {kk:TypeInfo} {cn:Array (Nat×avf)} {cs:List (bZ D)} (ao:o.op= .build t cn) (aw:P.underlying t=au6 (.array n En)) (au:P.info? En=au6 kk) (ay:bF X.G O z e m k vs) (a0:∀x,rel X.G z vs (cY E x) (a8 fr x))
  (ai:vx ((avQ n).map fun j=>au6 (j*kk.size,kk.size)) E cn.toList ti.pU=au6 cs) (h:K (.agg t cs) O=au6 r):cj P (a8 fr) o m fun _ v m'=>dk X O z e k vs K r v m':=by
 obtain ⟨ds,aU,aQ⟩:=PO a0 ai (ti.pu z vs);exact cj.pure (.yt t cn n En ti.i kk ti.cR ds ao aw ti.aj ti.a4 ti.db au (XP aU)) (dk.here (dh:= .agg t cs) ay ⟨ds,rfl,aQ⟩ h)
theorem air {ti:dI P X.G t} {bm:Array Field} {cn:Array (Nat×avf)} {cs:List (bZ D)} (ao:o.op= .build t cn) (aw:P.underlying t=au6 (.struct bm)) (ay:bF X.G O z e m k vs) (a0:∀x,rel X.G z vs (cY E x) (a8 fr x)) (aM:(mn P bm).all axs=au7)
  (ai:vx (mn P bm) E cn.toList ti.pU=au6 cs) (h:K (.agg t cs) O=au6 r):cj P (a8 fr) o m fun _ v m'=>dk X O z e k vs K r v m':=by
 obtain ⟨ds,aU,aQ⟩:=PO a0 ai (ti.pu z vs);exact alD _ ds ao aw ti.aj ti.a4 ti.db rfl aM rfl aU (dk.here (dh:= .agg t cs) ay ⟨ds,rfl,aQ⟩ h)
end
end Go.av
end
section
namespace Go.av
section
variable {P:avd} {D:Nat->Type} {X:ez P D} {af:Type} {z z':Nat->bo} {e m m':Mem} {k:Option Nat} {vs:List au9} {fr:Nat->au9} {E:List (Nat×aX D)} {O:List (aT D)} {o:Oper} {r:af}
variable {x y:avf} {t u:ave} {K:aX D->List (aT D)->Option af}
theorem Ge {bD:Option avf} {a:Int} (a0:∀x,rel X.G z vs (cY E x) (a8 fr x)) (h:wS E bD=au6 a):uQ (a8 fr) bD a:=by
 cases bD with
 |none=>cases h;rfl
 |some y=>
  simp only[wS] at h;split at h
  ·rename_i kk n aC;cases h;have:=a0 y;rw[aC] at this;exact ⟨kk,this⟩
  grind
theorem F4 {aj:Option avf} {a:Int} {l:Nat} (a0:∀x,rel X.G z vs (cY E x) (a8 fr x)) (h:xw E (l:Int) aj=au6 a):vB (a8 fr) aj l a:=by
 cases aj with
 |none=>cases h;rfl
 |some y=>
  simp only[xw] at h;split at h
  ·rename_i kk n aC;cases h;have:=a0 y;rw[aC] at this;exact ⟨kk,this⟩
  grind
theorem ajF {a:aX D} {bD aj:Option avf} (ao:o.op= .slice t x bD aj au8) (ay:bF X.G O z e m k vs) (a0:∀x,rel X.G z vs (cY E x) (a8 fr x)) (aY:rel X.G z vs a (a8 fr x)) (h:QO X t a E bD aj O K=au6 r):cj P (a8 fr) o m fun _ v m'=>dk X O z e k vs K r v m':=by
 unfold QO at h;split at h
 ·split at h
  ·rename_i s J aR aw dZ dy;obtain ⟨q,bd,h⟩:=bind_some h;exact af4 ao aw aY (Ge a0 dZ) (F4 a0 dy) bd (dk.here (dh:= .c (.str q)) ay rfl h)
  grind
 ·rename_i c aua;split at h
  ·rename_i bu xs b3 ai;obtain ⟨b4,jE,lK,ik,aE⟩:=xl ay ai aY;split at h
   ·rename_i e2 ti J aR aw hL dZ dy;split at h
    ·rename_i en;subst en;obtain ⟨q,bd,h⟩:=bind_some h;refine aft (T:=X.G.T e2) ao (by rw[ti.tid];grind) (by rw[ti.tid];exact ti.aj) ti.b9 rfl (Ge a0 dZ) (F4 a0 dy) aE ik.aL bd fun bI I _ aC=> ?_;exact dk.from jE lK (dk.here (dh:= .c (.ad e2 q)) ik aC h)
    grind
   grind
  grind
 grind
theorem afI {aA:Type} {T:ct aA} {xs:List aA} {v:au9} {bD aj:Option avf} {a n:Nat} {i:TypeInfo} {af:avf->au9} (h:o.op= .slice t x bD aj au8) (aw:P.underlying t=au6 (.slice T.tid)) (eh:P.info? T.tid=au6 i) (b9:i.size=T.a7) (ae:af x=v) (dZ:n4 af bD a) (dy:lO af aj xs.length n)
  (aC:fh T z m xs v) (aY:a<=n) (a1:n<=xs.length):∃bI,(cW P af o bI\/eJ P af o m bI)/\oe T.a7 a n v bI:=by
 rcases aC with ⟨rfl,rfl⟩|⟨b,f0,L,c,rfl,aU,aQ,bT,cT,eL,gX⟩
 ·have uD:n=0:=by grind
  subst uD;obtain rfl:a=0:=by omega
  exact ⟨.slice au8 0 0, .inl (.kH t x bD aj T.tid i h aw eh ae dZ dy), .inl ⟨rfl,rfl,rfl,rfl⟩⟩
 ·rcases eL with rfl|⟨ai,U,aa⟩
  ·refine ⟨_, .inr (.slice t x bD aj T.tid i L b f0 xs.length a n h aw eh ae aU dZ dy aY a1 (by grind)), .inr ⟨b,f0,xs.length,cJ,_,cJ,rfl,rfl,aY,a1, .inl (by grind), .inl ⟨rfl,rfl⟩⟩⟩
  ·refine ⟨_, .inl (.slice t x bD aj T.tid i b f0 xs.length c a n h aw eh ae (by grind) dZ dy aY (by omega) (fun _=>trivial)), .inr ⟨b,f0,xs.length,c,_,_,rfl,rfl,aY,a1, ?_, .inr ⟨ai,rfl⟩⟩⟩
   grind
theorem ajv {a:aX D} {bD aj:Option avf} (ao:o.op= .slice t x bD aj au8) (ay:bF X.G O z e m k vs) (a0:∀x,rel X.G z vs (cY E x) (a8 fr x)) (aY:rel X.G z vs a (a8 fr x)) (h:Qc X t x a E bD aj O K=au6 r):cj P (a8 fr) o m fun _ v m'=>dk X O z e k vs K r v m':=by
 unfold Qc at h;split at h
 ·rename_i wJ;have ab:a8 fr x= .slice au8 0 0:=by
   unfold VQ at wJ;split at wJ
   ·exact aY
   grind
  split at h
  ·rename_i bu p q aw dZ dy;split at h
   ·rename_i ti hL;split at h
    ·rename_i bf;simp only[avk,beq_iff_eq] at bf;obtain ⟨rfl,rfl⟩:=bf;exact cj.pure (.kH t x bD aj bu ti.i ao aw ti.aj ab (zN (n:=0) (Ge a0 dZ)) (zD (n:=0) (F4 (l:=0) a0 dy))) (dk.here (dh:= .c .g2) ay rfl h)
    grind
   grind
  grind
 rename_i aet;split at h
 ·grind [ajF]
 ·rename_i md at1;split at h
  ·rename_i i;have aY:dK X.G z vs (.own i) (a8 fr x):=aY;split at h
   ·rename_i bu xs w e2 bP hu;split at h
    ·rename_i ti p q ae2 dZ dy;by_cases en:e2=bu
     case neg=>grind
     rw[if_pos en] at h;subst en;obtain ⟨CS,aE,h⟩:=bind_some h;obtain ⟨l7,c1,c2,rfl⟩:=FT aE;obtain ⟨p,rfl⟩:=aws l7;obtain ⟨q,rfl⟩:=aws (axB l7 c1);simp only[av'] at h;have cp:dM (X.G.T e2) z e m k xs (a8 fr x):=ay.obj i _ _ bP aY.1;obtain ⟨bI,U,aa⟩:=afI (T:=X.G.T e2) ao (by rw[ti.tid];omega) (by rw[ti.tid];exact ti.aj) ti.b9 rfl (zN (Ge a0 dZ)) (zD (F4 a0 dy)) cp.bt (by omega) (by omega);have au:dk X O z e k vs K r bI m:=by
      by_cases EW:avj md 0=au7
      ·rw[if_pos EW] at h;exact dk.here (dh:= .cut i e2 p q) ay ⟨_,aY,aa⟩ h
      ·rw[if_neg EW] at h;have bt:dM (X.G.T e2) z e m k ((xs.take q).drop p) bI:=⟨aa.OD cp.bt,fun b ag=>cp.fresh b (by
        have mH:dz (a8 fr x)=c9 (a8 fr x):=gL (by obtain ⟨a,c,bL⟩:=cp.bt.len;grind);have jQ:dz bI=c9 bI:=gL (by obtain ⟨a,c,bL⟩:=(aa.OD cp.bt).len;grind);rw[<-mH,<-aa.aS,jQ];grind)⟩
       have UW:dz bI=dz (a8 fr x):=aa.aS;have fo:=fun j qw w gZ aZ az hw=>ay.fa j i qw _ w _ gZ aZ bP az rfl hw aY.1;exact ⟨z,vs++[bI], .c (.own O.length),O.set i .dead++[.ad e2 ((xs.take q).drop p) ava ava],(Inv.set O i (.inl rfl)).trans (Inv.push _ _),dr.refl z,iZ,
        (ay.kill i).push (q:=dz (a8 fr x)) (o':= .ad e2 ((xs.take q).drop p) ava ava) ⟨avm _,ay.aL.dead,fun _ _ _=>rfl⟩ ay.aL (fun j p w aZ hw az=>by
         rw[avU] at aZ;split at aZ
         ·split at aZ
          ·cases aZ;cases az
          grind
         grind) bt (fun p aM US=>by grind),nm ay (by obtain ⟨a,c,bL⟩:=bt.bt.len;exact ⟨a,c,bL⟩),h⟩
     rcases U with U|U
     ·exact cj.Wb (D:=fun _ v m'=>dk X O z e k vs K r v m') (I:=fun _=>True) U au
     grind [cj.read]
    grind
   grind
  grind
theorem ajw {y fv:avf} (ao:o.op= .slice t x au8 (au6 y) (au6 fv)) (ay:bF X.G O z e m k vs) (a0:∀x,rel X.G z vs (cY E x) (a8 fr x)) (h:Qd X t (cY E x) (cY E y) (cY E fv) O K=au6 r):cj P (a8 fr) o m fun _ v m'=>dk X O z e k vs K r v m':=by
 unfold Qd at h;have fT:∀{aA:Type} {p:Prop} [Decidable p] {x:Option aA} {r:aA},(if p then x else au8)=au6 r->p/\x=au6 r:=by
  grind
 split at h
 ·rename_i b2 b6 p cc q aw aM bd;have aI:=a0 y;rw[aM] at aI;have aI:a8 fr y= .int b6 p:=aI;have lG:=a0 fv;rw[bd] at lG;have lG:a8 fr fv= .int cc q:=lG;have aY:=a0 x;split at h
  ·rename_i c ae;rw[ae] at aY;split at h
   ·rename_i e2 xs b3 bb;split at h
    ·rename_i ti hL;obtain ⟨he,h⟩:=fT h;subst he;obtain ⟨CS,aE,h⟩:=bind_some h;unfold xv at aE;obtain ⟨adE,E0⟩:=fT aE;obtain ⟨bf,U,aa,N0⟩:=adE;subst N0;cases E0;obtain ⟨b4,eU,aU,aQ,bT⟩:=xl ay bb aY;obtain ⟨n,rfl⟩:=aws bf;have a1:n<=xs.length:=by omega
     have aen:n<cJ:=by grind [cJ]
     have key:∃v,cW P (a8 fr) o v/\rel X.G b4 vs (.full b2 (xs.take n)) v:=by
      rcases (bT:eu (X.G.T b2) b4 xs (a8 fr x)) with ⟨ab,rfl⟩|⟨b,off,bQ,ab,afs,aun,auo⟩
      ·have uD:n=0:=by grind
       subst uD;exact ⟨_, .CV t x fv (au6 y) b2 ti.i cc ao aw ti.aj ab ⟨y,b6,rfl,aI⟩ lG, .inl ⟨rfl,by rfl⟩,by grind,au8,by rfl⟩
      ·have e7:(bQ<cJ/\n<=bQ)\/(bQ=cJ/\n<=xs.length):=by
        grind
       have hlen:(xs.take n).length=n:=by grind
       refine ⟨_, .slice3 t x fv (au6 y) b2 ti.i b off xs.length bQ n n cc ao aw ti.aj ab e7 ⟨y,b6,rfl,aI⟩ lG (avm _), ?_⟩;refine ⟨.inr ⟨b,off,n,by grind,afs, .inr ⟨aen,by grind⟩,fun i a aj=> ?_⟩,by grind,au6 ⟨b,off,au8⟩,by grind⟩
       grind
     grind [cj.pure,dk.from,dk.here]
    grind
   grind
  grind
 grind
theorem ajS {a:aX D} {v:au9} {t:Nat} {xs:List (D t)} (ay:bF X.G O z e m k vs) (h:oR O a=au6 ⟨t,xs⟩) (ab:rel X.G z vs a v):eu (X.G.T t) z xs v\/dM (X.G.T t) z e m k xs v:=by
 unfold oR at h;split at h
 ·cases h;exact .inl ab
 ·split at h
  ·rename_i ec asS bl di ao;cases h;have cp:=ay.obj _ _ v ao ab.1;cases bl with
   |true=>exact .inl cp
   |false=>exact .inr cp
  grind
 grind
theorem aju {a:aX D} (ao:o.op= .convert u t x) (ay:bF X.G O z e m k vs) (aY:rel X.G z vs a (a8 fr x)) (h:P0 X u t a O K=au6 r):cj P (a8 fr) o m fun _ v m'=>dk X O z e k vs K r v m':=by
 unfold P0 at h;split at h
 ·rename_i b6 cc hu aw;split at h
  ·exact ja ay h (ZU ao hu aw aY) rfl
  grind
 ·rename_i g5 hu aw;split at h
  ·rename_i s kP kb;obtain ⟨h3,aC,h⟩:=bind_some h;refine aqD ao hu aw kP.hu kP.aj kP.jE aY aC ay.aL ?_;intro bI m' aL bt jo fo;have rH:=kP.ag _ _ _ _ _ _ bt;have ag:dz bI=c9 bI:=gL (by obtain ⟨a,c,rfl⟩:=bt.bt.len;grind);refine ⟨z,vs++[bI], .c (.own O.length),_,Inv.push O _,dr.refl z,iZ,ay.push (q:=au8) jo aL (fun _ _ _ _ _ _=>eE.n0) ?_ (fun p aM _=>by grind), ?_,h⟩
   ·exact rH
   ·refine ⟨?_, ?_⟩
    ·rw[<-ay.len];simp
    ·obtain ⟨a,c,rfl⟩:=bt.bt.len;exact ⟨rfl,rfl⟩
  grind
 ·rename_i g5 hu aw;split at h
  ·rename_i b2 xs kP az kb;split at h
   ·rename_i he;subst he;rcases ajS ay az aY with aC|aC
    ·exact af8 ao hu kP.hu aw rfl (kP.aE _ _ _ aC) ay.aL (dk.here (dh:= .c (.str (kP.to xs))) ay rfl h)
    ·exact af7 ao hu kP.hu aw rfl (kP.ao _ _ _ _ _ _ aC) (dk.here (dh:= .c (.str (kP.to xs))) ay rfl h)
   grind
  grind
 grind
theorem akg {a:aX D} {ts:Array ave} (ao:o.op= .call {callee:= .builtin .len,args:=#[x],argTypes:=#[t]}) (ay:bF X.G O z e m k vs) (aY:rel X.G z vs a (a8 fr x)) (h:QI (P:=P) t a O K=au6 r):cj P (a8 fr) o m fun _ v m'=>dk X O z e k vs K r v m':=by
 unfold QI at h;split at h
 ·rename_i s aw;exact ja ay h (Z0 ao rfl aw aY) rfl
 ·rename_i g5 aw;have ab:a8 fr x= .slice au8 0 0:=aY;exact ja ay h (HR (xs:=([]:List Int)) ao aw rfl ⟨au8,0,ab⟩) rfl
 ·rename_i g5 at3 aw;split at h
  ·rename_i bu xs az;exact ja ay h (HR ao aw rfl (ajc ay az aY)) rfl
  ·split at h
   ·split at h
    ·rename_i bu t1 up dH hole w bP;obtain ⟨hu,ws,cp⟩:=ay.obj _ _ _ bP aY.1;exact ja ay h (HR (xs:=dH) ao aw rfl (by obtain ⟨a,c,bL⟩:=cp.bt.bt.len;exact ⟨a,c,by rw[bL,cp.len]⟩)) rfl
    grind
   ·split at h
    ·rename_i i bu bD aj aef au2 e2 xs di bP;split at h
     ·rename_i he;subst he;obtain ⟨w,hw,ai⟩:=aY;have cp:dM _ z e m k xs w:=ay.obj _ _ _ bP hw.1;obtain ⟨cz,c1,az⟩:=cp.bt.len;refine ja ay h (HR (xs:=(xs.take aj).drop bD) ao aw rfl ?_) rfl;rcases ai with ⟨_,ab,rfl,rfl⟩|⟨b,f0,l,c,off,bQ,bf,ab,U,aa,ap,aN⟩
      ·grind
      grind
     grind
    grind
   grind
 grind
theorem XT {aA:Type} {T:ct aA} {ya:Tag->au9->Mem->Prop} {xs b7:List aA} {w:au9} {a:Option Addr} {af:avf->au9} {i:TypeInfo} (h:o.op= .call {callee:= .builtin .append,args:=#[x,y],argTypes:=#[t,u]}) (aw:P.underlying t=au6 (.slice T.tid)) (aj:P.info? T.tid=au6 i) {cR:au9} (g1:i.zero=au6 cR) (db:cR.cells.toList.all cP=au7) (dV:cR.cells.size=i.size)
  (b9:i.size=T.a7) (gF:(T.a7==0)=ava) (gY:avp i.bytes 32768=au7) (hu:(∃b2,P.underlying u=au6 (.slice b2))\/P.underlying u=au6 .string) (ae:af x= .slice a xs.length xs.length) (aC:Src T z m xs (.slice a xs.length xs.length)) (aI:af y=w) (lI:Src T z m b7 w) (ev:b7.isEmpty=ava)
  (aL:dp z e m k) {r:List aA} (aE:ck xs b7=au6 r)
  (au:∀bI m',dp z e m' k->dM T z e m' k r bI->fM m m' au8->(∀p,(∀b,p=au6 b->b<m.next)->eE p (c9 bI))->ya .fb bI m'):cj P af o m ya:=by
 obtain ⟨mh,rfl⟩:=rL aE;simp only[si] at mh;have gY:=avq gY;have aM:0<T.a7:=by grind
 obtain ⟨hlen,cs,kS,nW,et⟩:=lI;obtain ⟨NN,os,hex,k7,aeY⟩:=aC;have aei:hZ (af y)=b7.length:=by grind
 have rz:0<b7.length:=by grind
 have hmul:(xs.length+b7.length)*i.bytes<=4294967296*32768:=axr mh gY;have pn:z m.next= .dead:=by
  have a4:=aL.bl;cases qp:z m.next with
  |dead=>rfl
  |ro rd=>have:=(a4 m.next (by grind)).2;omega
  |own L t=>have:=(a4 m.next (by grind)).2;omega
  |map L t=>have:=(a4 m.next (by grind)).2;omega
  |lock _ _ _ _=>have:=(a4 m.next (by grind)).2;omega
 have a0:gR P (iA P 0) af o m (.slice (au6 ⟨m.next,0,au8⟩) (xs.length+hZ (af y)) cJ) (m.push (.own (os++cs) T.tid)):=
  .p5 x y t u T.tid i cR a xs.length xs.length (hZ (af y)) os cs h aw aj g1 db dV (by grind) ae (by grind) (by grind) (by grind) (.el hu rfl (by grind)) (by grind) (by grind) (by grind)
 rw[aei] at a0;have EY:fh T z (m.push (.own (os++cs) T.tid)) (xs++b7) (.slice (au6 ⟨m.next,0,au8⟩) (xs.length+b7.length) cJ):=by
  refine fh.yq ⟨m.next,os++cs,cJ,by simp,by simp[Mem.push],by simp[Mem.push],pn,by grind [avL], .inl rfl,fun n q aY=> ?_⟩;rw[axn] at aY;split at aY
  ·obtain ⟨c,aU,aQ⟩:=aeY n q aY;refine ⟨c,aU,fun k q au=> ?_⟩;have:=aQ k q au
   grind
  ·rename_i gU;obtain ⟨c,aU,aQ⟩:=et _ q aY;refine ⟨c,aU,fun k q au=> ?_⟩;have:=aQ k q au;have U:n*T.a7=os.length+(n - xs.length)*T.a7:=by
    rw[k7,<-avL];grind
   grind
 obtain ⟨aU,aQ,bT,cT⟩:=EB (k:=k) aL EY rfl
 grind [cj.fb]
theorem aiH {bu:Nat} {wk:TypeDesc} {b:aX D} {b7:List (D bu)} (ay:bF X.G O z e m k vs) (hu:P.underlying u=au6 wk) (ag:rel X.G z vs b (a8 fr y)) (pt:PU X bu wk b O=au6 b7):
  Src (X.G.T bu) z m b7 (a8 fr y)/\((∃b2,P.underlying u=au6 (.slice b2))\/P.underlying u=au6 .string):=by
 unfold PU at pt;split at pt
 ·refine ⟨?_, .inl ⟨_,hu⟩⟩;split at pt
  ·cases pt;have ab:a8 fr y= .slice au8 0 0:=ag;rw[ab];exact (eu.nil (T:=X.G.T bu)).src ay.aL.bl
  ·split at pt
   ·rename_i e2 au3 az;split at pt
    ·rename_i en;subst en;cases pt;exact W7 ay az ag
    grind
   grind
 ·refine ⟨?_, .inr hu⟩;split at pt
  ·rename_i s kP _;cases pt;have ab:a8 fr y=av.str s:=ag;rw[ab];exact kP.aC _ _ _ _ (aqR s)
  grind
 grind
theorem ajD {a b:aX D} (ao:o.op= .call {callee:= .builtin .append,args:=#[x,y],argTypes:=#[t,u]}) (ay:bF X.G O z e m k vs) (aY:rel X.G z vs a (a8 fr x)) (ag:rel X.G z vs b (a8 fr y)) (h:G1 X t u a b O K=au6 r):cj P (a8 fr) o m fun _ v m'=>dk X O z e k vs K r v m':=by
 unfold G1 at h;split at h
 ·rename_i gN asC aw hu;split at h
  ·grind
  ·rename_i ti hL;split at h
   ·grind
   ·rename_i b7 pt;have y5:=aiH (u:=u) ay hu ag pt;have lI:Src (X.G.T gN) z m b7 (a8 fr y):=y5.1;have mM:P.underlying t=au6 (.slice (X.G.T gN).tid):=by rw[ti.tid];grind
    have eh:P.info? (X.G.T gN).tid=au6 ti.i:=by rw[ti.tid];exact ti.aj
    split at h
    ·obtain ⟨q,bd,h⟩:=bind_some h;have ab:a8 fr x= .slice au8 0 0:=aY;refine Gm (T:=X.G.T gN) (z:=z) ao mM eh ti.a4 ti.db ti.dV ti.b9 ti.gF ti.gY y5.2 ab dM.nil rfl lI ay.aL bd fun bI m' eN bt fU fo=> ?_;have jQ:dz bI=c9 bI:=gL (by obtain ⟨a,c,rfl⟩:=bt.bt.len;grind);exact n2 (v:=bI) ay eN fU (fun p aM=>by rw[jQ];exact fo p aM eE.n0) h bt (nm ay bt.bt.len)
    ·rename_i e2 xs;by_cases en:e2=gN
     case neg=>grind
     rw[dif_pos en] at h;subst en;by_cases ev:b7.isEmpty=au7
     case pos=>grind
     rw[if_neg ev] at h;obtain ⟨q,bd,h⟩:=bind_some h;obtain ⟨f1,f2,gH,f3⟩:=aY;refine XT (T:=X.G.T e2) (z:=z) ao mM eh ti.a4 ti.db ti.dV ti.b9 ti.gF ti.gY y5.2 f3 (by rw[<-f3];exact eu.src f1 ay.aL.bl) rfl lI (by grind) ay.aL bd fun bI m' eN bt fU fo=> ?_;have jQ:dz bI=c9 bI:=gL (by obtain ⟨a,c,rfl⟩:=bt.bt.len;grind);exact n2 (v:=bI) ay eN fU (fun p aM=>by grind) h bt (nm ay bt.bt.len)
    ·rename_i i;split at h
     ·rename_i e2 xs di bP;split at h
      ·rename_i en;subst en;obtain ⟨q,bd,h⟩:=bind_some h;have cp:dM (X.G.T e2) z e m k xs (a8 fr x):=ay.obj i _ _ bP aY.1;refine Gm (T:=X.G.T e2) ao mM eh ti.a4 ti.db ti.dV ti.b9 ti.gF ti.gY y5.2 rfl cp rfl lI ay.aL bd fun bI m' eN bt fU fo=> ?_;have jQ:dz bI=c9 bI:=gL (by obtain ⟨a,c,rfl⟩:=bt.bt.len;grind);have mH:dz (a8 fr x)=c9 (a8 fr x):=gL (by obtain ⟨a,c,bL⟩:=cp.bt.len;grind);have ik:=ay.kill i;have hlen:(O.set i .dead).length=O.length:=awt;refine ⟨z,vs++[bI], .c (.own O.length),O.set i .dead++[.ad e2 q ava ava],(Inv.set O i (.inl rfl)).trans (Inv.push _ _),dr.refl z,iZ,ik.push (o':= .ad e2 q ava ava) fU eN (fun j p w aZ hw az=> ?_) bt (fun p aM US=>by grind), ?_,h⟩
       ·rw[avU] at aZ;split at aZ
        ·split at aZ
         ·cases aZ;cases az
         grind
        ·rename_i gZ;rw[<-mH];exact ay.fa j i p _ w _ (fun e=>gZ e.symm) aZ bP az rfl hw aY.1
       ·exact nm ay bt.bt.len
      grind
     grind
    ·rename_i i bu bD n;by_cases dZ:avj bD 0=au7
     case neg=>grind
     rw[if_pos dZ] at h;obtain rfl:=Nat.eq_of_beq_eq_true dZ;by_cases uu:bu=gN
     case neg=>grind
     rw[if_pos uu] at h;subst uu;split at h
     ·rename_i e2 xs di bP;split at h
      ·rename_i en;subst en;obtain ⟨q,bd,h⟩:=bind_some h;obtain ⟨xM,y8,hM⟩:=aY;have NT:dM (X.G.T e2) z e m k xs xM:=ay.obj i _ _ bP y8.1;have adz:dz xM=c9 xM:=gL (by obtain ⟨a,c,bL⟩:=NT.bt.len;grind);have EY:=hM.bt NT.bt;have mH:dz (a8 fr x)=c9 (a8 fr x):=gL (by obtain ⟨a,c,bL⟩:=EY.len;grind);have cp:dM (X.G.T e2) z e m k (xs.take n) (a8 fr x):=⟨EY,fun b ag=>NT.fresh b (by rw[<-adz,<-hM.aS,mH];grind)⟩
       refine Gm (T:=X.G.T e2) ao mM eh ti.a4 ti.db ti.dV ti.b9 ti.gF ti.gY y5.2 rfl cp rfl lI ay.aL bd fun bI m' eN bt fU fo=> ?_;have jQ:dz bI=c9 bI:=gL (by obtain ⟨a,c,rfl⟩:=bt.bt.len;grind);have ik:=ay.kill i;refine ⟨z,vs++[bI], .c (.own O.length),O.set i .dead++[.ad e2 q ava ava],(Inv.set O i (.inl rfl)).trans (Inv.push _ _),dr.refl z,iZ,ik.push (o':= .ad e2 q ava ava) fU eN (fun j p w aZ hw az=> ?_) bt (fun p aM US=>by grind), ?_,h⟩
       ·rw[avU] at aZ;split at aZ
        ·split at aZ
         ·cases aZ;cases az
         grind
        ·rename_i gZ;rw[<-mH,hM.aS];exact ay.fa j i p _ w _ (fun e=>gZ e.symm) aZ bP az rfl hw y8.1
       ·exact nm ay bt.bt.len
      grind
     grind
    grind
 grind
theorem ai' {a b:aX D} (ao:o.op= .call {callee:= .builtin .append,args:=#[x,y],argTypes:=#[t,u]}) (ay:bF X.G O z e m k vs) (aY:rel X.G z vs a (a8 fr x)) (ag:rel X.G z vs b (a8 fr y)) (h:PZ X t u a b O K=au6 r):cj P (a8 fr) o m fun _ v m'=>dk X O z e k vs K r v m':=by
 unfold PZ at h;split at h
 ·rename_i gN asC aw hu;split at h
  ·rename_i ti bu xs e2 b7 hL az;by_cases en:bu=gN
   case neg=>grind
   rw[dif_pos en] at h;subst en;by_cases en:e2=bu
   case neg=>grind
   rw[dif_pos en] at h;subst en;obtain ⟨q,bd,h⟩:=bind_some h;have lI:=W7 ay az ag;have mM:P.underlying t=au6 (.slice (X.G.T e2).tid):=by rw[ti.tid];grind
   have eh:P.info? (X.G.T e2).tid=au6 ti.i:=by rw[ti.tid];exact ti.aj
   obtain ⟨f1,f2,gH,f3⟩:=aY;by_cases ev:b7.isEmpty=au7
   ·rw[if_pos ev] at h;obtain rfl:b7=[]:=by grind
    obtain ⟨mh,rfl⟩:=rL bd;obtain ⟨hlen,cs,kS,nW,_⟩:=lI;obtain rfl:cs=[]:=awd (by grind);have a0:gR P (iA P 0) (a8 fr) o m (a8 fr x) m:= .su x y t u _ ti.i gH xs.length xs.length ao mM eh f3 (by omega) (avm _) (.el (.inl ⟨_,hu⟩) (by grind) (by rw[ti.b9];grind));exact cj.fb a0 (dk.here (X:=X) ay (dh:= .c (.ad e2 (xs++[]))) (by rw[List.append_nil];exact f1) h)
   ·rw[if_neg ev] at h;refine XT (T:=X.G.T e2) (z:=z) ao mM eh ti.a4 ti.db ti.dV ti.b9 ti.gF ti.gY (.inl ⟨_,hu⟩) f3 (by rw[<-f3];exact eu.src f1 ay.aL.bl) rfl lI (by grind) ay.aL bd fun bI m' eN bt fU fo=> ?_;have jQ:dz bI=c9 bI:=gL (by obtain ⟨a,c,rfl⟩:=bt.bt.len;grind);exact n2 (v:=bI) ay eN fU (fun p aM=>by grind) h bt (nm ay bt.bt.len)
  grind
 grind
theorem akh {bi bg:Nat} (ao:o.op= .makeMap t au8) (aw:P.underlying t=au6 (.map bi bg)) (ay:bF X.G O z e m k vs) (h:K (.c (.own O.length)) (O++[.map t bi bg [] ava ava])=au6 r):cj P (a8 fr) o m fun _ v m'=>dk X O z e k vs K r v m':=by
 refine ajK (X.G.M t bi bg) ao aw rfl ay.aL fun bI m' eN bt fU fo=> ?_;obtain ⟨q,rfl,bd⟩:=bt.bt;exact n2 (v:= .map (au6 q)) ay eN fU fo h bt ⟨z1 ay _,rfl,rfl⟩
theorem ajy {u bi bg:Nat} {es:List (D bi×D bg)} {a:D bi} {eV:Mb P X.G bi bg} {ok:Bool} {c:aX D} (ao:o.op= .lookup t x y ok) (aw:P.underlying t=au6 (.map bi bg)) (hu:P.underlying u=au6 (.map bi bg)) (ay:bF X.G O z e m k vs)
  (ae:lY (X.G.M u bi bg) z es (a8 fr x)\/iE (X.G.M u bi bg) z e m k es (a8 fr x)) (aI:rel X.G z vs c (a8 fr y)) (au:eV.uO c=au6 a)
  (h:(av.lt (@n5 _ _ eV.dec es a) fun y=>if ok=au7 then K (.nz [.inl (eV.r7 (y.getD eV.cd)), .inl (.bool y.isSome)]) O else K (.c (eV.r7 (y.getD eV.cd))) O)=au6 r):cj P (a8 fr) o m fun _ v m'=>dk X O z e k vs K r v m':=by
 letI aO:=eV.dec
 obtain ⟨w,hw,h⟩:=Yg h;have sK:=eV.NJ z vs c a _ au aI;have y6:=eV.y6 z vs (w.getD eV.cd);cases ok with
 |true=>
  rw[if_pos rfl] at h;have hrel:rel X.G z vs (.nz [.inl (eV.r7 (w.getD eV.cd)), .inl (.bool w.isSome)]) (.tuple #[eb (dG P bg) (X.G.ee bg (w.getD eV.cd)), .bool w.isSome]):=⟨[_,_],rfl,y6,rfl,trivial⟩
  rcases ae with ae|ae
  ·exact Ze (M:=X.G.M u bi bg) (a:=a) (cd:=eV.cd) ao aw hu eV.K eV.V eV.aj eV.a4 rfl ae ay.aL rfl sK hw (if_pos rfl) (dk.here ay hrel h)
  ·exact Zd (M:=X.G.M u bi bg) (a:=a) (cd:=eV.cd) ao aw hu eV.K eV.V eV.aj eV.a4 rfl ae rfl sK hw (if_pos rfl) (dk.here ay hrel h)
 |false=>
  rw[if_neg (by simp)] at h;have hrel:rel X.G z vs (.c (eV.r7 (w.getD eV.cd))) (eb (dG P bg) (X.G.ee bg (w.getD eV.cd))):=y6;rcases ae with ae|ae
  ·exact Ze (M:=X.G.M u bi bg) (a:=a) (cd:=eV.cd) ao aw hu eV.K eV.V eV.aj eV.a4 rfl ae ay.aL rfl sK hw (if_neg (by simp)) (dk.here ay hrel h)
  ·exact Zd (M:=X.G.M u bi bg) (a:=a) (cd:=eV.cd) ao aw hu eV.K eV.V eV.aj eV.a4 rfl ae rfl sK hw (if_neg (by simp)) (dk.here ay hrel h)
theorem Xw {u bi bg i:Nat} {es:List (D bi×D bg)} {a:D bi} {b:D bg} {eV:Mb P X.G bi bg} {c:aX D} {d:bZ D} {w:avf} (ao:o.op= .mapUpdate t x y w\/o.op= .insert t x y w) (aw:P.underlying t=au6 (.map bi bg)) (hu:P.underlying u=au6 (.map bi bg)) (ay:bF X.G O z e m k vs)
  {di:Bool} (bP:O[i]? =au6 (.map u bi bg es ava di)) (ae:vs[i]? =au6 (a8 fr x)) (aI:rel X.G z vs c (a8 fr y)) (hw:dK X.G z vs d (a8 fr w)) (au:eV.uO c=au6 a) (ab:eV.C0 d=au6 b)
  (h:(av.lt (@tp _ _ eV.dec es a b) fun ue=>K .undef (O.set i (.map u bi bg ue ava au7)))=au6 r):cj P (a8 fr) o m fun _ v m'=>dk X O z e k vs K r v m':=by
 letI aO:=eV.dec
 obtain ⟨ue,oz,h⟩:=Yg h;have cp:iE (X.G.M u bi bg) z e m k es (a8 fr x):=ay.obj i _ _ bP ae;refine alF (M:=X.G.M u bi bg) (a:=a) (b:=b) ao aw hu eV.K eV.V rfl cp rfl (eV.NJ z vs c a _ au aI) rfl (eV.Vx z vs d b _ ab hw) ay.aL oz fun m' eN bt fU=> ?_;have jQ:dz (a8 fr x)=rU (a8 fr x):=by obtain ⟨q,bd,_⟩:=cp.bt;rw[bd];rfl
 exact zw ay h bP ae rfl rfl (by grind) eN bt
theorem Pe {s:aX D} {g:au9} {c:Nat×List (bZ D)} {bY:List (aT D)} (ay:bF X.G O z e m k vs) (aC:rel X.G z vs s g) (h:vw O s=au6 (c,bY)):∃z',Inv O bY/\dr e.next z z'/\bF X.G bY z' e m k vs/\mq X.G z' vs c.2 0 g:=by
 cases s with
 |g4 t cs off=>
  simp only[vw] at h;split at h
  ·rename_i bf;subst bf;cases h;exact ⟨z,Inv.refl _,dr.refl z,ay,aC⟩
  grind
 |box i off=>
  simp only[vw] at h;obtain ⟨b,ab,a5⟩:=aC;split at h
  ·rename_i t cs bl di bP;split at h
   ·rename_i bf;obtain ⟨bf,_⟩:=bf;subst bf;cases h;have cp:=ay.obj i _ _ bP ab;rw[a5];cases bl with
    |true=>
     obtain ⟨hE,ds,he,ai,aE⟩:=cp;cases he;have:O.set i (.box t cs au7 di)=O:=by
      apply aww
      grind
     rw[this];exact ⟨z,Inv.refl _,dr.refl z,ay,b,0,ds,rfl,ai,aE⟩
    |false=>obtain ⟨hE,ds,he,mH,hq,aE⟩:=cp;cases he;obtain ⟨b4,b6,cc,eF,jk⟩:=mH.freeze hq ay.aL;have EZ:=nw.mono aE b6.le fun _ _ h=>h;exact ⟨b4,Inv.set O i (.inl rfl),b6,ay.iQ bP ab rfl rfl b6.le cc jk ⟨b,ds,rfl,eF,EZ⟩,b,0,ds,rfl,eF,EZ⟩
   grind
  grind
 |_=>cases h
theorem W0:∀{l:List (aX D)} {gs:List au9} {caps:List (Nat×List (bZ D))} {O bY:List (aT D)} {z:Nat->bo},bF X.G O z e m k vs->br (rel X.G z vs) l gs->zW l O=au6 (caps,bY)->∃z',Inv O bY/\dr e.next z z'/\bF X.G bY z' e m k vs/\br (fun c g=>mq X.G z' vs c.2 0 g) caps gs
 |[],[],caps,O,bY,z,ay,_,h=>by cases h;exact ⟨z,Inv.refl _,dr.refl z,ay,trivial⟩
 |s::l,g::gs,caps,O,bY,z,ay,⟨U,aa⟩,h=>by
  unfold zW at h;split at h
  ·rename_i c b3 ai;split at h
   ·rename_i r dL aE;cases h;obtain ⟨b4,jU,b6,cc,eF⟩:=Pe ay U ai;obtain ⟨cZ,eU,aU,aQ,bT⟩:=W0 cc (br.mono (fun _ _ h=>rel.mono h b6.le fun _ _ h=>h) aa) aE;exact ⟨cZ,jU.trans eU,b6.trans aU,aQ,mq.mono eF aU.le fun _ _ h=>h,bT⟩
   grind
  grind
 |[],_::_,_,_,_,_,_,h,_=>h.elim
 |_::_,[],_,_,_,_,_,h,_=>h.elim
theorem vb {xs:List avf} (a0:∀x,rel X.G z vs (cY E x) (a8 fr x)):br (rel X.G z vs) (xs.map (cY E)) (xs.map (a8 fr)):=by
 induction xs with
 |nil=>trivial
 |cons x xs ar=>exact ⟨a0 x,ar⟩
theorem akx {s:aX D} {i:Nat} {v:au9} (ay:bF X.G O z e m k vs) (h:MB O s=au6 i) (aE:rel X.G z vs s v):q6 vs i v:=by
 unfold MB at h;split at h
 ·split at h
  ·split at h
   ·rename_i bf;cases h;subst bf;obtain ⟨b,U,aa⟩:=aE;exact ⟨by grind,b,aa⟩
   grind
  grind
 grind
theorem Xh (ay:bF X.G O z e m k vs):∀{l:List (aX D)} {gs:List au9} {is:List Nat},Aa O l=au6 is->br (rel X.G z vs) l gs->br (q6 vs) is gs
 |[],[],is,h,_=>by cases h;trivial
 |s::l,g::gs,is,h,⟨U,aa⟩=>by
  unfold Aa at h;split at h
  ·rename_i i sS aj aZ;cases h;exact ⟨akx ay aj U,Xh ay aZ aa⟩
  grind
 |[],_::_,_,_,h=>h.elim
 |_::_,[],_,_,h=>h.elim
theorem ajH {f:FuncId} {first cap:Array avf} {is:List Nat} (ao:o.op= .makeFunc (.func f) first cap) (bb:first.toList=[]) (ay:bF X.G O z e m k vs) (a0:∀x,rel X.G z vs (cY E x) (a8 fr x)) (ai:Aa O (cap.toList.map (cY E))=au6 is) (h:K (.c (.fn f is)) O=au6 r):
  cj P (a8 fr) o m fun _ v m'=>dk X O z e k vs K r v m':=by
 have a5:=Xh ay ai (vb a0);have pi:first=#[]:=by grind
 subst pi;have eX:(cap.map (a8 fr)).toList.all storable=au7:=by
  rw[avt];intro v ab;rw[awD] at ab;have:=avt.1 (Pf a5) v ab;unfold vC at this;split at this
  ·rfl
  grind
 exact ja ay h (ZX ao rfl eX) ⟨cap.toList.map (a8 fr),by congr 1;grind,a5⟩
theorem apW {f:FuncId} {first cap:Array avf} {caps:List (Nat×List (bZ D))} {bY:List (aT D)} (ao:o.op= .makeFunc (.func f) first cap) (bb:first.toList=[]) (ay:bF X.G O z e m k vs) (a0:∀x,rel X.G z vs (cY E x) (a8 fr x)) (ai:zW (cap.toList.map (cY E)) O=au6 (caps,bY)) (h:K (.fn f caps) bY=au6 r):
  cj P (a8 fr) o m fun _ v m'=>dk X O z e k vs K r v m':=by
 obtain ⟨b4,eU,aU,aQ,bT⟩:=W0 ay (vb a0) ai;have pi:first=#[]:=by grind
 subst pi;have eX:(cap.map (a8 fr)).toList.all storable=au7:=by
  rw[avt];intro v ab;rw[awD] at ab;have:∀(cs:List (Nat×List (bZ D))) (gs:List au9),br (fun c g=>mq X.G b4 vs c.2 0 g) cs gs->∀v∈gs,storable v=au7:=by
   intro cs;induction cs with
   |nil=>intro gs a5 v ab;cases gs with
    |nil=>grind
    |cons _ _=>exact a5.elim
   |cons c cs ar=>intro gs a5 v ab;cases gs with
    |nil=>grind
    |cons g gs=>
     rcases List.mem_cons.1 ab with rfl|ab
     ·obtain ⟨b,pz,ds,he,_⟩:=a5.1;rw[he];rfl
     ·exact ar gs a5.2 v ab
  grind
 refine cj.pure (ZX ao rfl eX) (dk.from eU aU (dk.here (dh:= .fn f caps) aQ ⟨cap.toList.map (a8 fr), ?_,bT⟩ h));congr 1
 grind
end
end Go.av
end
section
namespace Go.av
section
variable {P:avd} {D:Nat->Type} {X:ez P D} {af:Type} {z z':Nat->bo} {e m m':Mem} {k:Option Nat} {vs:List au9} {fr:Nat->au9} {E:List (Nat×aX D)} {O:List (aT D)} {o:Oper} {r:af}
variable {x y:avf} {t u:ave} {K:aX D->List (aT D)->Option af}
theorem aki {l:Nat} {cn:Array (Nat×avf)} (ao:o.op= .buildSlice t l cn) (ay:bF X.G O z e m k vs) (a0:∀x,rel X.G z vs (cY E x) (a8 fr x)) (h:QJ X t l cn.toList E O K=au6 r):cj P (a8 fr) o m fun _ v m'=>dk X O z e k vs K r v m':=by
 unfold QJ at h;split at h
 ·rename_i bu aw;split at h
  ·rename_i t1 hu;split at h
   ·rename_i ej aq;split at h
    ·rename_i N1;refine P4 (T:=p1 bu) ao aw ej.aj ej.a4 rfl (by rw[ej.U];rfl) (by rw[ej.U];rfl) [] [] rfl rfl rfl (by rw[N1];trivial) ay.aL fun bI m' eN bt fU fo=> ?_;have ag:dz bI=c9 bI:=gL (by obtain ⟨a,c,rfl⟩:=bt.bt.len;grind);exact n2 (v:=bI) ay eN fU (by grind) h ⟨fun f bb=>by cases bb;exact ⟨ej.b9,ej.tid,ej.aE⟩,_,bt,rfl,fun j w xs aU aQ _=>by grind,fun p aM=>by grind⟩ (nm ay bt.bt.len)
    ·rename_i y N1;split at h
     ·rename_i j aZ;split at h
      ·rename_i t2 xs w bP;split at h
       ·rename_i aa;have aI:=a0 y;rw[aZ] at aI;obtain ⟨ab,aC,ai⟩:=aI;refine P4 (T:=p1 bu) ao aw ej.aj ej.a4 rfl (by rw[ej.U];rfl) (by rw[ej.U];rfl) [a8 fr y] [[a8 fr y]] rfl rfl rfl (by rw[N1];exact ⟨rfl,aC,by grind,⟨rfl,aC,ai⟩,trivial⟩) ay.aL fun bI m' eN bt fU fo=> ?_;have ag:dz bI=c9 bI:=gL (by obtain ⟨a,c,rfl⟩:=bt.bt.len;grind);refine n2 (v:=bI) ay eN fU (by grind) h ⟨fun f bb=>by cases bb;exact ⟨ej.b9,ej.tid,ej.aE⟩,_,bt,rfl,fun j w xs aU aQ bT=> ?_,fun p aM=> ?_⟩ (nm ay bt.bt.len)
        ·grind
        grind
       grind
      grind
     grind
    grind
   grind
  grind
 grind
theorem bF.aaO (h:bF X.G O z e m k vs) (a4:eR z z') (aL:dp z' e m k) (aO:∀b,z b= .dead->z' b= .dead) (au:∀(j:Nat) (q:aT D) (w:au9),O[j]? =au6 q->vs[j]? =au6 w->q.live=au7->L8 z z' (fu w)):bF X.G O z' e m k vs where
 aL:=aL
 len:=h.len
 obj:=fun j q w aZ hw=>(h.obj j q w aZ hw).iL a4 (fun az b ag=>by
  have:=((h.obj j q w aZ hw).lt az b ag).2.1
  grind) fun az=>au j q w aZ hw az
 fa:=h.fa
noncomputable def x7 (z:Nat->bo) (fc iT ng jl n':Nat):Nat->bo:=fun b=>
 match z b with
 | .lock n j L t=>if fc<=b/\n≠0/\n=iT then .lock n' j L t else if fc<=b/\n≠0/\n=ng then .lock n' (jl+j) L t else .lock n j L t
 |x=>x
theorem YZ {fc iT ng jl n' b:Nat} (h:∀n j L t,z b≠ .lock n j L t):x7 z fc iT ng jl n' b=z b:=by
 grind [x7]
theorem r0 {fc iT ng jl n' b n j:Nat} {L:List au9} {t:ave} (h:z b= .lock n j L t):x7 z fc iT ng jl n' b=if fc<=b/\n≠0/\n=iT then .lock n' j L t else if fc<=b/\n≠0/\n=ng then .lock n' (jl+j) L t else .lock n j L t:=by
 grind [x7]
theorem PV {aA:Type} {T:ct aA} {xs:List aA} {v:au9} (h:dM T z e m k xs v) (ae:xs≠[]):fu v≠0:=by
 intro bf;unfold fu at bf;rcases h.bt with ⟨rfl,ry⟩|⟨cB,o',L',bQ,rfl,_⟩
 ·grind
 grind [c9]
theorem XU {aA:Type} {T:ct aA} {x0:aA} {ya:Tag->au9->Mem->Prop} {af:avf->au9} {i:TypeInfo} {kk b6:avb} {n:Int} {v:au9} {xs:List aA} (h:o.op= .call {callee:= .builtin .append,args:=#[x,y],argTypes:=#[t,u]}) (aw:P.underlying t=au6 (.slice T.tid)) (aj:P.info? T.tid=au6 i) {cR:au9} (g1:i.zero=au6 cR) (db:cR.cells.toList.all cP=au7) (dV:cR.cells.size=i.size)
  (b9:i.size=T.a7) (gF:(T.a7==0)=ava) (gY:avp i.bytes 32768=au7) (hu:P.underlying u=au6 (.int kk)) (ae:af x=v) (aC:dM T z e m k xs v) (aI:af y= .int b6 n) (et:T.rd z x0 cR.cells.toList) (aL:dp z e m k) {b7 r:List aA} (hm:iG x0 n=au6 b7) (aE:ck xs b7=au6 r)
  (au:∀bI m',dp z e m' k->dM T z e m' k r bI->fM m m' (c9 v)->(∀p,(∀b,p=au6 b->b<m.next)->eE p (c9 v)->eE p (c9 bI))->ya .fb bI m'):cj P af o m ya:=by
 obtain ⟨bf,U,rfl⟩:=zF hm;obtain ⟨c,rfl⟩:=aws bf;have aM:0<T.a7:=by grind
 rw[av'] at aE;obtain ⟨bI,m',U,aa,ap,aN⟩:=aka (C:=iA P 0) (k:=b6) h aw aj g1 db dV b9 aM (avq gY) hu ae aC.bt aI et aL.bl aL.dead aE;refine cj.fb U (au _ _ (aL.same ap aC.bd) ⟨aa,fun b ag=> ?_⟩ ap fun p aM aY b ag ek=> ?_)
 ·rcases aN b ag with aN|aN
  ·exact aC.fresh b aN
  ·have:=aL.next;omega
 ·rcases aN b ek with aN|aN
  ·exact aY b ag aN
  grind
theorem aiZ {a b:aX D} (ao:o.op= .call {callee:= .builtin .append,args:=#[x,y],argTypes:=#[t,u]}) (hu:P2 (P.underlying u)=au7) (ay:bF X.G O z e m k vs) (aY:rel X.G z vs a (a8 fr x)) (ag:rel X.G z vs b (a8 fr y)) (h:PC X t a b O K=au6 r):cj P (a8 fr) o m fun _ v m'=>dk X O z e k vs K r v m':=by
 have E5:∃kk,P.underlying u=au6 (.int kk):=by
  unfold P2 at hu
  grind
 obtain ⟨kk,E5⟩:=E5;unfold PC at h;split at h
 ·rename_i bu b6 n aw;split at h
  ·rename_i ti hL;split at h
   ·rename_i a1;obtain ⟨xs,hm,h⟩:=bind_some h;have aE:ck ([]:List (D bu)) xs=au6 xs:=by
     obtain ⟨bf,U,rfl⟩:=zF hm
     grind [ck,si]
    refine XU (T:=X.G.T bu) (xs:=[]) ao (by rw[ti.tid];grind) (by rw[ti.tid];exact ti.aj) ti.a4 ti.db ti.dV ti.b9 ti.gF ti.gY E5 aY ⟨.inl ⟨rfl,rfl⟩,fun b ag=>by cases ag⟩ ag (ti.CQ z) ay.aL hm aE fun bI m' eN bt fU fo=> ?_;have jQ:dz bI=c9 bI:=gL (by obtain ⟨a,c,rfl⟩:=bt.bt.len;grind);exact n2 (v:=bI) ay eN fU (by rw[jQ];exact fun p aM=>fo p aM (by intro b ag ek;cases ek)) h bt (nm ay bt.bt.len)
   grind
  grind
 ·rename_i g5 i b6 n aw;split at h
  ·rename_i b3 Nz;split at h
   ·rename_i bu t1 up m0 di qb;split at h
    ·rename_i ej aq;split at h
     ·rename_i he;subst he;obtain ⟨b7,hm,h⟩:=bind_some h;obtain ⟨q,bd,h⟩:=bind_some h;obtain ⟨b4,i1,J,sj⟩:=zz ay Nz;obtain ⟨Vh,at0,rfl⟩:=zF hm;have mh:=(rL bd).1;have aeS:=(rL bd).2;subst aeS;have qk:=aY.1;obtain ⟨xJ,xK,iT⟩:=sj.obj i _ _ qb qk;have aem:iG (avS au8 0 0) n=au6 (avw n.toNat (avS au8 0 0)):=by
       grind [iG]
      have N3:ck xK (avw n.toNat (avS au8 0 0))=au6 (xK++avw n.toNat (avS au8 0 0)):=by unfold ck;rw[iT.len,axC,if_pos (by grind)]
      refine XU (T:=p1 bu) ao aw ej.aj ej.a4 rfl (by rw[ej.U];rfl) (by rw[ej.U];rfl) rfl ej.gY E5 rfl iT.bt ag ⟨rfl,rfl,rfl⟩ sj.aL aem N3 fun bI m' eN bt fU fo=> ?_;have UU:dz (a8 fr x)=c9 (a8 fr x):=gL (by obtain ⟨a,c,bL⟩:=iT.bt.bt.len;grind);have jQ:dz bI=c9 bI:=gL (by obtain ⟨a,c,rfl⟩:=bt.bt.len;grind);have L9:=sj.mY (o':= .dead) qb qk rfl (by grind) eN trivial;have left:∀(l:Nat) (p:aT D) (w:au9),(b3.set i (.dead:aT D))[l]? =au6 p->vs[l]? =au6 w->p.live=au7->b3[l]? =au6 p/\l≠i:=by
       intro l p w az hw aM;rw[avU] at az;split at az
       ·split at az
        ·cases az;cases aM
        grind
       grind
      generalize oH:x7 b4 e.next (fu (a8 fr x)) 0 m0.length (fu bI)=hJ;have Uw:∀b,(∀n j L t,b4 b≠ .lock n j L t)->hJ b=b4 b:=fun b bL=>by rw[<-oH];grind [YZ]
      have hle:eR b4 hJ:=fun b bb=>Uw b fun n j L t bL=>by rw[bL] at bb;exact bb
      have k6:∀b,b4 b= .dead->hJ b= .dead:=fun b aO=>by grind
      have Of:dr e.next b4 hJ:=⟨hle,fun b bS=>by
       cases a4:b4 b with
       |lock n j L t=>rw[<-oH,r0 a4,if_neg (by omega),if_neg (by omega)]
       |_=>grind⟩
      have eX:dp hJ e m' k:=⟨fun b ag=>by
       cases a4:b4 b with
       |lock n j L t=>
        have aN:=eN.bl b (by grind);rw[a4] at aN;rw[<-oH,r0 a4];split
        ·exact aN
        grind
       |_=>
        have ap:=Uw b (fun n j L t bL=>by rw[a4] at bL;cases bL);rw[ap] at ag⊢;exact eN.bl b ag,eN.dead,eN.mD,eN.next,eN.kept⟩
      have yc:=L9.aaO hle eX k6 fun l p w az hw aM b b0 L ec oC=>by
       obtain ⟨U,aa⟩:=left l p w az hw aM;have ne:fu w≠0->fu w≠fu (a8 fr x):=by
        intro jP;have fo:=sj.fa l i _ _ _ _ aa U qb aM rfl hw qk
        grind [PM,gL,Hb]
       rw[<-oH,r0 oC,oC,if_neg fun bL=>ne bL.2.1 bL.2.2,if_neg fun bL=>bL.2.1 bL.2.2]
      have mj:gD X.G hJ e m' k (vs++[bI]) (.nest bu t1 up (m0++avw n.toNat []) au8 ava:aT D) bI:=by
       refine ⟨xJ,_,bt.iL hle (fun b ag=>k6 b (bt.bt.lt b ag).2▸((bt.bt.lt b ag).2).symm),by rw[awa,awa,iT.len,axC,axC],fun l w xs aU aQ _=> ?_,fun p aM=>by grind⟩;by_cases az:l<m0.length
       ·rw[avP (by rw[iT.len];grind)] at aU;rw[avP az] at aQ;rcases iT.nc l w xs aU aQ (fun p aM=>by grind) with bL|⟨b,f0,L,c,dn,dA,ea,eH,qy,pC⟩
        ·exact .inl bL
        ·have bf:=PV iT.bt (fun bL=>by grind);refine .inr ⟨b,f0,L,c,dn,by rw[<-oH,r0 dA,if_pos ⟨ea,bf,rfl⟩],ea,eH,qy,fun i x aj=> ?_⟩;obtain ⟨cs,lh,lQ⟩:=pC i x aj;exact ⟨cs,(X.G.T t1).mono _ _ hle _ _ lh,lQ⟩
       ·rw[avO (by rw[iT.len];omega)] at aU;rw[avO (by omega)] at aQ;have U:=av4 aU;have aa:=av4 aQ;exact .inl ⟨List.eq_of_mem_replicate U,List.eq_of_mem_replicate aa⟩
      have Ma:=yc.OH mj fun _ l p w az aM hw=>by
       obtain ⟨U,aa⟩:=left l p w az hw aM;rw[jQ];refine fo _ (fun b ag=>((sj.obj l p w U hw).lt aM b ag).1) ?_;have:=sj.fa l i _ _ _ _ aa U qb aM rfl hw qk
       grind
      have ad9:(b3.set i (.dead:aT D)).length=b3.length:=by simp
      refine ⟨hJ,vs++[bI],_,_,i1.trans ((Inv.set b3 i (.inl rfl)).trans (Inv.push _ _)),J.trans Of,iZ,Ma, ?_,h⟩;have:=nm yc bt.bt.len
      grind
     grind
    grind
   grind
  grind
 grind
theorem ai9 {i:Nat} {b:aX D} (ao:o.op= .call {callee:= .builtin .append,args:=#[x,y],argTypes:=#[t,u]}) (ay:bF X.G O z e m k vs) (aY:rel X.G z vs (.c (.own i)) (a8 fr x)) (ag:rel X.G z vs b (a8 fr y)) (h:PY X t u i b O K=au6 r):cj P (a8 fr) o m fun _ v m'=>dk X O z e k vs K r v m':=by
 unfold PY at h;split at h
 ·rename_i g5 auV aw hu;split at h
  ·rename_i j;split at h
   ·grind
   ·rename_i gZ;have gZ:i≠j:=fun bL=>gZ (by simp_all);split at h
    ·rename_i b3 Nz;split at h
     ·rename_i dL adU;split at h
      ·rename_i bu t1 up m0 di e2 t2 asB C6 gV qb Nj;split at h
       ·rename_i ej aq;split at h
        ·rename_i en;subst en;split at h
         ·rename_i he;obtain ⟨rfl,rfl⟩:=he;obtain ⟨q,bd,h⟩:=bind_some h;have bd:ck m0 C6=au6 q:=bd;obtain ⟨b4,i1,J,sj⟩:=zz ay Nz;obtain ⟨cZ,i2,al,M2⟩:=zz sj adU;obtain ⟨mh,rfl⟩:=rL bd;have qk:=aY.1;have ps:=ag.1;obtain ⟨xJ,xK,iT⟩:=M2.obj i _ _ qb qk;obtain ⟨_,Rf,ng⟩:=M2.obj j _ _ Nj ps;have N3:ck xK Rf=au6 (xK++Rf):=by
           unfold ck;rw[iT.len,ng.len,if_pos mh]
          refine Gm (T:=p1 e2) ao aw ej.aj ej.a4 rfl (by rw[ej.U];rfl) (by rw[ej.U];rfl) rfl ej.gY (.inl ⟨_,hu⟩) rfl iT.bt rfl ng.bt.bt.src M2.aL N3 fun bI m' eN bt fU fo=> ?_;have UU:dz (a8 fr x)=c9 (a8 fr x):=gL (by obtain ⟨a,c,bL⟩:=iT.bt.bt.len;grind);have Nm:dz (a8 fr y)=c9 (a8 fr y):=gL (by obtain ⟨a,c,bL⟩:=ng.bt.bt.len;grind);have jQ:dz bI=c9 bI:=gL (by obtain ⟨a,c,rfl⟩:=bt.bt.len;grind);have adv:=M2.fa i j _ _ _ _ gZ qb Nj rfl rfl qk ps;rw[UU,Nm] at adv;have L9:=M2.mY (o':= .dead) qb qk rfl (by grind) eN trivial;have ado:(dL.set i (.dead:aT D))[j]? =au6 (.nest e2 t2 asB C6 au8 gV):=by grind
          have aaY:=L9.mY (m':=m') (o':= .dead) ado ps rfl ⟨avm _,eN.dead,fun _ _ _=>rfl⟩ eN trivial;have left:∀(l:Nat) (p:aT D) (w:au9),((dL.set i (.dead:aT D)).set j .dead)[l]? =au6 p->vs[l]? =au6 w->p.live=au7->dL[l]? =au6 p/\l≠i/\l≠j:=by
           intro l p w az hw aM;rw[avU] at az;split at az
           ·split at az
            ·cases az;cases aM
            grind
           ·rename_i U;rw[avU] at az;split at az
            ·split at az
             ·cases az;cases aM
             grind
            grind
          generalize oH:x7 cZ e.next (fu (a8 fr x)) (fu (a8 fr y)) m0.length (fu bI)=hJ;have bu:∀b,(∀n j L t,cZ b≠ .lock n j L t)->hJ b=cZ b:=fun b bL=>by rw[<-oH];grind [YZ]
          have hle:eR cZ hJ:=fun b bb=>bu b fun n j L t bL=>by rw[bL] at bb;exact bb
          have k6:∀b,cZ b= .dead->hJ b= .dead:=fun b aO=>by grind
          have Of:dr e.next cZ hJ:=⟨hle,fun b bS=>by
           cases a4:cZ b with
           |lock n j L t=>rw[<-oH,r0 a4,if_neg (by omega),if_neg (by omega)]
           |_=>grind⟩
          have eX:dp hJ e m' k:=⟨fun b ag=>by
           cases a4:cZ b with
           |lock n j L t=>
            have aN:=eN.bl b (by grind);rw[a4] at aN;rw[<-oH,r0 a4];split
            ·exact aN
            ·split
             ·exact aN
             grind
           |_=>
            have ap:=bu b (fun n j L t bL=>by rw[a4] at bL;cases bL);rw[ap] at ag⊢;exact eN.bl b ag,eN.dead,eN.mD,eN.next,eN.kept⟩
          have yc:=aaY.aaO hle eX k6 fun l p w az hw aM b b0 L ec oC=>by
           obtain ⟨U,aa,ap⟩:=left l p w az hw aM;have ne:∀{bR:au9} {wR:Nat} {sY:aT D},l≠wR->dL[wR]? =au6 sY->sY.live=au7->vs[wR]? =au6 bR->(∀r,bR≠ .map r)->fu w≠0->fu w≠fu bR:=by
            intro bR wR sY ev aN bK ed hg jP;have fo:=M2.fa l wR _ _ _ _ ev U aN aM bK hw ed;by_cases VA:∃r,w= .map r
            ·obtain ⟨r,rfl⟩:=VA;exact absurd PM jP
            ·rw[gL (fun r aE=>VA ⟨r,aE⟩),gL hg] at fo
             grind [Hb]
           have bz:∀r,a8 fr x≠ .map r:=by obtain ⟨a,c,bL⟩:=iT.bt.bt.len;grind
           have qu:∀r,a8 fr y≠ .map r:=by obtain ⟨a,c,bL⟩:=ng.bt.bt.len;grind
           rw[<-oH,r0 oC,oC,if_neg fun bL=>ne aa qb rfl qk bz bL.2.1 bL.2.2,if_neg fun bL=>ne ap Nj rfl ps qu bL.2.1 bL.2.2]
          have mj:gD X.G hJ e m' k (vs++[bI]) (.nest e2 t2 up (m0++C6) au8 ava:aT D) bI:=by
           refine ⟨xJ,xK++Rf,bt.iL hle (fun b ag=>k6 b (bt.bt.lt b ag).2▸((bt.bt.lt b ag).2).symm),by rw[awa,awa,iT.len,ng.len],fun l w xs aU aQ _=> ?_,fun p aM=>by grind⟩;by_cases az:l<m0.length
           ·rw[avP (by rw[iT.len];grind)] at aU;rw[avP az] at aQ;rcases iT.nc l w xs aU aQ (fun p aM=>by grind) with bL|⟨b,f0,L,c,dn,dA,ea,eH,qy,pC⟩
            ·exact .inl bL
            ·have bf:=PV iT.bt (fun bL=>by grind);refine .inr ⟨b,f0,L,c,dn,by rw[<-oH,r0 dA,if_pos ⟨ea,bf,rfl⟩],ea,eH,qy,fun i x aj=> ?_⟩;obtain ⟨cs,lh,lQ⟩:=pC i x aj;exact ⟨cs,(X.G.T t2).mono _ _ hle _ _ lh,lQ⟩
           ·rw[avO (by rw[iT.len];omega),iT.len] at aU;rw[avO (by omega)] at aQ;rcases ng.nc (l - m0.length) w xs aU aQ (fun p aM=>by grind) with bL|⟨b,f0,L,c,dn,dA,ea,eH,qy,pC⟩
            ·exact .inl bL
            ·have bf:=PV ng.bt (fun bL=>by grind);have ev:fu (a8 fr y)≠fu (a8 fr x):=by
              grind [Hb]
             refine .inr ⟨b,f0,L,c,dn,by rw[<-oH,r0 dA,if_neg (fun bL=>ev bL.2.2),if_pos ⟨ea,bf,rfl⟩,show m0.length+(l - m0.length)=l by omega],ea,eH,qy,fun i x aj=> ?_⟩;obtain ⟨cs,lh,lQ⟩:=pC i x aj;exact ⟨cs,(X.G.T t2).mono _ _ hle _ _ lh,lQ⟩
          have Ma:=yc.OH mj fun _ l p w az aM hw=>by
           obtain ⟨U,aa,ap⟩:=left l p w az hw aM;rw[jQ];refine fo _ (fun b ag=>((M2.obj l p w U hw).lt aM b ag).1) ?_;have:=M2.fa l i _ _ _ _ aa U qb aM rfl hw qk
           grind
          have ad9:((dL.set i (.dead:aT D)).set j .dead).length=dL.length:=by simp
          refine ⟨hJ,vs++[bI],_,_,(i1.trans i2).trans ((Inv.set dL i (.inl rfl)).trans ((Inv.set _ j (.inl rfl)).trans (Inv.push _ _))),(J.trans al).trans Of,iZ,Ma, ?_,h⟩;have:=nm yc bt.bt.len
          grind
         grind
        grind
       grind
      grind
     grind
    grind
  grind
 grind
end
end Go.av
end
