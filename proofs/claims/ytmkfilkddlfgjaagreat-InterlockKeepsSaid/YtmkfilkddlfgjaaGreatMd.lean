import Derived.Shelf.SlSortCmp.NoneTotal
import Derived.Shelf.SlicesG.Cmp
import Derived.Test.YtmkfilkddlfgjaaGreatProg
import Derived.WalkKit
import Derived.IntWalk
import Derived.Test.YtmkfilkddlfgjaaGreatMc
set_option linter.unusedSimpArgs false
set_option linter.unusedVariables false
set_option linter.unusedSectionVars false
open Array renaming getElem?_eq_some_iff->ar2,getElem?_modify->at0
open Bool renaming and_eq_true->aq5,and_eq_true_iff->asX,eq_false_iff->as7,false_eq_true->arz,false_or->arS,not_eq_true->arQ,not_false->atQ,not_true->ass,or_eq_false_iff->atM,or_eq_true->ar1,true_and->asJ,false->aqT,true->aqQ
open Go renaming IntKind->aqW,Program->aqV,Value->aqR
open Go.IntKind renaming wrap->aq0
open Go.Lib renaming compareInt->atP
open Go.Proofs renaming enters_of->auk
open Int renaming eq_ofNat_of_zero_le->arw,natCast_zero->asn
open List renaming all_cons->arL,all_eq_true->aq8,any_cons->asD,any_eq_true->ast,contains_eq_mem->atm,drop_length->asd,drop_zero->arv,flatMap_cons->ash,getElem?_drop->ar0,getElem?_eq_getElem->ars,getElem?_eq_none->asP,getElem?_eq_some_iff->aqZ,getElem?_of_mem->arM,getElem?_take->arD,getElem_mem->asu,length_append->ari,length_cons->arr,length_take->arA,mem_cons->aq6,mem_cons_of_mem->ard,mem_cons_self->arn,mem_of_getElem?->aq7,nodup_cons->asQ,not_mem_nil->asB,pairwise_iff_getElem->arH,replicate->arq,take_sublist->atn
open Nat renaming add_mul->arm,beq->aq9,beq_eq->as6,ble->art,ble_eq->asW,le_of_ble_eq_true->asa,le_refl->aq3,lt_trichotomy->asA,zero_add->ara,zero_le->ar7
open Option renaming bind->aqU,map_some->asv,some->ark,none->aqS,some->aqP
open Sum renaming inl->aq2,inr->aq1
open UInt8 renaming toNat->asc
section
namespace Go.aS
open Go.Sort Go.Shelf Go.Proofs
noncomputable def gK {ap:Type} [Inhabited ap] (ea:ap->ap->Int) (xs:List ap):List ap:=(pdq (ltOf ea) xs.toArray 0 xs.toArray.size (Lib.bitLen xs.toArray.size) aqQ aqQ).toList
noncomputable def ka {ap:Type} [Inhabited ap] (ea:ap->ap->Int) (xs:List ap):Option (List ap):=if xs.length<4611686018427387904 then aqP (gK ea xs) else aqS
noncomputable def zR {ap bx rc:Type} (key:ap->Int) (app:bx->rc->ap) (iv:List ap->Option (List ap)) (xs:List ap) (es:List (bx×rc)):Option (List ap×Int):=
 if xs.length+es.length<=4294967296/\((xs++es.map fun p=>app p.1 p.2).map key).Nodup then aqU (iv (xs++es.map fun p=>app p.1 p.2)) fun dT=>aqP (dT,0) else aqS
def fU (x y:Int):Int:=atP x y
section
variable {ap:Type} [Inhabited ap]
theorem XR (x y:Int):decide (fU x y<0)=decide (x<y):=by
 unfold fU atP;by_cases h1:x<y
 ·simp[h1]
 ·by_cases J:x>y<;>simp[h1,J]
theorem qT (f:ap->Int):SWO (ltOf fun x y=>fU (f x) (f y)):=by
 have e:∀x y,ltOf (fun x y=>fU (f x) (f y)) x y=decide (f x<f y):=fun x y=>XR _ _;refine ⟨fun x=> ?_,fun x y z h1 J=> ?_,fun x y z h1 J=> ?_⟩
 ·rw[e];simp
 ·rw[e] at*;simp at*;omega
 ·rw[e] at*;simp at*;omega
theorem NG (ea:ap->ap->Int) (hO:SWO (ltOf ea)) (xs:List ap):PermIn 0 xs.length xs.toArray (gK ea xs).toArray/\SortedIn (ltOf ea) 0 xs.length (gK ea xs).toArray:=by
 have h:=pdq_sorts (ltOf ea) hO xs.toArray 0 xs.toArray.size (Lib.bitLen xs.toArray.size) aqQ aqQ (ar7 _) (aq3 _) (Or.inl rfl);have e:(gK ea xs).toArray=pdq (ltOf ea) xs.toArray 0 xs.toArray.size (Lib.bitLen xs.toArray.size) aqQ aqQ:=by unfold gK;simp
 rw[e];simpa using h
theorem Cz (ea:ap->ap->Int) (hO:SWO (ltOf ea)) (xs:List ap):(gK ea xs).length=xs.length:=by
 have:=(NG ea hO xs).1.1;simpa using this
theorem y6 (ea:ap->ap->Int) (hO:SWO (ltOf ea)) (xs:List ap):(gK ea xs).Perm xs:=by
 have h:=(NG ea hO xs).1;have ai:=Cz ea hO xs;have J:=h.2.2;have aX:((gK ea xs).toArray.extract 0 xs.length).toList=gK ea xs:=by simp[<-ai]
 have e2:(xs.toArray.extract 0 xs.length).toList=xs:=by simp
 rw[aX,e2] at J;exact J
theorem Ni (f:ap->Int) (xs:List ap):(gK (fun x y=>fU (f x) (f y)) xs).Pairwise fun x y=>f x<=f y:=by
 have hO:=qT f;have h:=(NG _ hO xs).2;have ai:=Cz _ hO xs;rw[arH];intro i j ae ar cW;have:=h i j (ar7 _) cW (by omega);have e:∀x y,ltOf (fun x y=>fU (f x) (f y)) x y=decide (f x<f y):=fun x y=>XR _ _;rw[e] at this;have dY:(gK (fun x y=>fU (f x) (f y)) xs).toArray[i]! =(gK (fun x y=>fU (f x) (f y)) xs)[i]:=by rw[getElem!_pos _ _ (by simpa using ae)];simp
 have By:(gK (fun x y=>fU (f x) (f y)) xs).toArray[j]! =(gK (fun x y=>fU (f x) (f y)) xs)[j]:=by rw[getElem!_pos _ _ (by simpa using ar)];simp
 rw[dY,By] at this;simp at this;omega
theorem NS {enc:ap->List aqR} {k:Nat} (hk:∀x,(enc x).length=k):∀(xs:List ap) (t:Nat),t<xs.length*k->(xs.flatMap enc)[t]? =aqP ((enc xs.toArray[t / k]!)[t%k]!)
 |[],t,h=>by simp at h
 |x::xs,t,h=>by
  have iP:0<k:=by
   rcases Nat.eq_zero_or_pos k with aI|aI;·subst aI;simp at h
   ·exact aI
  rw[ash,List.getElem?_append];split
  ·rename_i aN;rw[hk] at aN;have h1:t / k=0:=Nat.div_eq_of_lt aN;have J:t%k=t:=Nat.mod_eq_of_lt aN;rw[h1,J];have:t<(enc x).length:=by rw[hk];exact aN
   simp[ars this,getElem!_pos (enc x) t this]
  ·rename_i e4;rw[hk] at e4⊢;have e4:k<=t:=by omega
   rw[NS hk xs (t - k) (by simp only[arr,arm] at h;omega)];have h1:t / k=(t - k) / k+1:=by rw[<-Nat.sub_add_cancel e4,Nat.add_div_right _ iP];simp
   have J:t%k=(t - k)%k:=by rw[<-Nat.sub_add_cancel e4,Nat.add_mod_right];simp
   have aN:(t - k) / k<xs.length:=by rw[Nat.div_lt_iff_lt_mul iP];simp only[arr,arm] at h;omega
   rw[h1,J];congr 3;simp[getElem!_pos xs.toArray ((t - k) / k) (by simpa using aN),getElem!_pos (x::xs).toArray ((t - k) / k+1) (by simpa using aN)]
theorem Gk {enc:ap->List aqR} {k:Nat} (hk:∀x,(enc x).length=k) (xs:List ap):(xs.flatMap enc).length=xs.length*k:=by
 induction xs with
 |nil=>simp
 |cons x xs a8=>rw[ash,ari,hk,a8,arr,arm];omega
variable {P:aqV} {af:Ren}
theorem agz (L:SlLaysF0.n6 P af) {f g k:Nat} (aP:af.f 6=f) (JB:∀w,(isAgg (af.t 24)).run P w= .ok aqQ w) (QP:∀w,(Go.sizeOf (af.t 24)).run P w= .ok k w) (enc:ap->List aqR) (hk:∀x,(enc x).length=k) (h1:∀x,(enc x).all cv=aqQ)
  (ea:ap->ap->Int) (hO:SWO (ltOf ea)) (Li:∀args w,(callFunc g args).run P w= .ok (.enter g args) w)
  (hU:∀(x y:ap) (W:World),Calls P g #[.agg (enc x).toArray, .agg (enc y).toArray] W fun e w'=>e= .returned (.int .i64 (ea x y))/\∃q r3,w'=grow (W.drewN q) r3)
  (xs:List ap) (bC:xs.length<4611686018427387904) (j1:0<k) (MF:0<xs.length):PS P f (.func (.func g) #[] #[]) xs.length (xs.flatMap enc) ((gK ea xs).flatMap enc):=by
 subst aP;intro w aH off cap cs t bg hw cG yq;have BD:=Gk hk xs;have hH:HoldsK enc k w aH off xs.toArray:=by
  intro j ar;rw[size_flatK] at ar;have ar:j<xs.length*k:=by simpa using ar
  have aG:=NS hk xs j ar;have ab:=cG j _ aG;have aN:off+j<cs.size:=(ar2.1 ab).1;refine ⟨?_, ?_⟩
  ·rw[get_flatK enc k xs.toArray j (by simpa using ar)];simp[World.cell?,hw,ab]
  ·simp only[World.frozen?,hw];have:=yq (off+j) aN;simp only[Bool.and_eq_false_iff,decide_eq_false_iff_not];by_cases h1:bg.1<=off+j
   ·right;exact fun J=>this ⟨h1,J⟩
   ·left;exact h1
 have hblk:aH<w.heap.size:=by
  rcases Nat.lt_or_ge aH w.heap.size with h|h
  ·exact h
  ·rw[Array.getElem?_eq_none h] at hw;cases hw
 have mY:∀x,∀v∈enc x,v.oneCell'=aqQ:=fun x v ad=>(WE (j:=fun _=>aqS) (aq8.1 (h1 x) v ad)).one;refine (AnyQ.slices_SortFunc_eq L k JB QP enc hk mY ea hO g #[] aH off cap xs.toArray w Li (fun m os apO _ x y=>hU x y _) hH hblk (by simpa using bC)).mono ?_;rintro e w' ⟨rfl,n,os,rfl⟩;have an:(pdq (ltOf ea) xs.toArray 0 xs.toArray.size (Lib.bitLen xs.toArray.size) aqQ aqQ)=(gK ea xs).toArray:=by unfold gK;simp
 rw[an];have vA:=Cz ea hO xs;have qI:(sortWorldK enc k w aH off n (gK ea xs).toArray os).heap.size=w.heap.size+os.size:=by simp[sortWorldK,grow,putRowK,putRow,mapBlock,Sort.ahead]
 have Fg:∀c,c<w.heap.size->(sortWorldK enc k w aH off n (gK ea xs).toArray os).heap[c]? =(w.heap.modify aH (onCells (putCells id off (flatK enc k (gK ea xs).toArray))))[c]? :=by intro c ab;simp only[sortWorldK,grow,putRowK,putRow,mapBlock,Sort.ahead];rw[Array.getElem?_append_left (by simpa using ab)]
 refine ⟨rfl,rfl,rfl,rfl,by rw[qI];omega,fun c ab dB=> ?_, ?_⟩
 ·rw[Fg c ab,at0,if_neg (by omega)]
 ·rw[Fg aH hblk,at0,if_pos rfl,hw];simp only[asv,onCells];congr 2;have hle:off+(xs.flatMap enc).length<=cs.size:=by
   have dS:0<xs.length*k:=Nat.mul_pos MF j1;have qD:=ars (l:=xs.flatMap enc) (i:=(xs.flatMap enc).length - 1) (by omega);have:=(ar2.1 (cG _ _ qD)).1;omega
  apply Array.ext_getElem?;intro i;have ack:off+((gK ea xs).flatMap enc).length<=cs.toList.length:=by rw[Gk hk,vA,<-BD,Array.length_toList];exact hle
  have aX:((eT cs.toList off ((gK ea xs).flatMap enc)).toArray)[i]? =if off<=i/\i<off+((gK ea xs).flatMap enc).length then ((gK ea xs).flatMap enc)[i - off]? else cs.toList[i]? :=by rw[<-oj _ _ _ _ ack];simp
  rw[aX];simp only[putCells];rw[Array.getElem?_mapIdx,size_flatK];by_cases fz:off<=i/\i<off+((gK ea xs).flatMap enc).length
  ·rw[if_pos fz];have gl:=Gk hk (gK ea xs);have ab5:i<cs.size:=by rw[gl,vA,<-BD] at fz;omega
   rw[Array.getElem?_eq_getElem ab5];simp only[asv];rw[if_pos ⟨fz.1,by rw[gl] at fz;simpa using fz.2⟩];have:=NS hk (gK ea xs) (i - off) (by rw[<-gl];omega);rw[this,get_flatK enc k _ _ (by rw[gl] at fz;simp;omega)];rfl
  ·rw[if_neg fz];have gl:=Gk hk (gK ea xs);have:¬(off<=i/\i<off+(gK ea xs).toArray.size*k):=by rw[gl] at fz;simpa using fz
   simp only[this,if_false];cases ab:cs[i]? with
   |none=>simp[ab]
   |some v=>simp[ab]
end
noncomputable section
section
variable {P:aqV} {D:Nat->Type} {G:lG D}
def mg:List hQ->Bool
 |[]=>aqQ
 | .ay _::_=>aqT
 | .mp _ _ _::_=>aqT
 | .fn::_=>aqT
 |_::ls=>mg ls
theorem GM {z:Nat->a6}:∀{ls:List hQ} {x:gu (fj G ls)} {ds:List aqR},mg ls=aqQ->ot z (fj G ls) x ds->ds=fJ ls x
 |[],_,[],_,_=>rfl
 |[],_,_::_,_,h=>h.elim
 | .int k::ls,x,d::ds,h,e=>by have h1:d= .int k x.1:=e.1;rw[fJ,h1,<-GM (ls:=ls) h e.2]
 | .bool::ls,x,d::ds,h,e=>by have h1:d= .bool x.1:=e.1;rw[fJ,h1,<-GM (ls:=ls) h e.2]
 | .str::ls,x,d::ds,h,e=>by have h1:d=aS.str x.1:=e.1;rw[fJ,h1,<-GM (ls:=ls) h e.2]
 | .ay _::_,_,_,h,_=>by cases h
 | .mp _ _ _::_,_,_,h,_=>by cases h
 | .fn::_,_,_,h,_=>by cases h
 | .int _::_,_,[],_,h=>h.elim
 | .bool::_,_,[],_,h=>h.elim
 | .str::_,_,[],_,h=>h.elim
theorem GL {z:Nat->a6}:∀{ls:List hQ} {x:gu (fj G ls)},mg ls=aqQ->ot z (fj G ls) x (fJ ls x)
 |[],_,_=>trivial
 | .int k::ls,x,h=>⟨rfl,GL (ls:=ls) h⟩
 | .bool::ls,x,h=>⟨rfl,GL (ls:=ls) h⟩
 | .str::ls,x,h=>⟨rfl,GL (ls:=ls) h⟩
 | .ay _::_,_,h=>by cases h
 | .mp _ _ _::_,_,h=>by cases h
 | .fn::_,_,h=>by cases h
theorem Cq:∀{ls:List hQ} {x:gu (fj G ls)},mg ls=aqQ->(fJ ls x).all cv=aqQ
 |[],_,_=>rfl
 | .int k::ls,x,h=>by simp only[fJ,arL,Cq (ls:=ls) (x:=x.2) h];rfl
 | .bool::ls,x,h=>by simp only[fJ,arL,Cq (ls:=ls) (x:=x.2) h];rfl
 | .str::ls,x,h=>by simp only[fJ,arL,Cq (ls:=ls) (x:=x.2) h];rfl
 | .ay _::_,_,h=>by cases h
 | .mp _ _ _::_,_,h=>by cases h
 | .fn::_,_,h=>by cases h
theorem ru:∀{ls:List hQ} {x:gu (fj G ls)},(fJ ls x).length=ls.length
 |[],_=>rfl
 | .int k::ls,x=>by simp only[fJ,arr,ru (ls:=ls)]
 | .bool::ls,x=>by simp only[fJ,arr,ru (ls:=ls)]
 | .str::ls,x=>by simp only[fJ,arr,ru (ls:=ls)]
 | .ay _::ls,x=>by simp only[fJ,arr,ru (ls:=ls)]
 | .mp _ _ _::ls,x=>by simp only[fJ,arr,ru (ls:=ls)]
 | .fn::ls,x=>by simp only[fJ,arr,ru (ls:=ls)]
def Qo {t:Nat} (ls:List hQ) (to:D t->gu (fj G ls)) (hI:G.T t=ha t (fj G ls) to) (au:mg ls=aqQ) (x0:D t) (key:D t->Int) {af:Ren} (L:SlLaysF0.n6 P af) (f g:Nat) (aP:af.f 6=f) (ok:mA P f=aqQ)
  (JB:∀w,(isAgg (af.t 24)).run P w= .ok aqQ w) (QP:∀w,(Go.sizeOf (af.t 24)).run P w= .ok ls.length w) (Li:∀args w,(callFunc g args).run P w= .ok (.enter g args) w) (dS:Nat.blt 0 ls.length=aqQ)
  (hU:∀(x y:D t) (W:World),Calls P g #[.agg (fJ ls (to x)).toArray, .agg (fJ ls (to y)).toArray] W fun e w'=>e= .returned (.int .i64 (fU (key x) (key y)))/\∃q r3,w'=grow (W.drewN q) r3):py P G where
 f:=f
 g:=g
 e:=t
 iv:= @ka (D t) ⟨x0⟩ fun x y=>fU (key x) (key y)
 dq:=fun x=>fJ ls (to x)
 ad:=fun z x ds h=>by rw[hI] at h;exact GM au h
 aw:=fun z x=>by rw[hI];exact GL au
 aP:=fun x=>Cq au
 ok:=ok
 aI:=fun p cap w=>by subst aP;exact AnyF.slices_SortFunc_none L p cap _ w
 aq:=fun xs bk h=>by
  letI:Inhabited (D t):=⟨x0⟩
  unfold ka at h;split at h
  ·cases h;exact Cz _ (qT key) xs
  ·cases h
 az:=fun xs bk h aI=>by
  letI:Inhabited (D t):=⟨x0⟩
  unfold ka at h;split at h
  ·rename_i aN;cases h;exact agz L aP JB QP (fun x=>fJ ls (to x)) (fun _=>ru) (fun _=>Cq au) (fun x y=>fU (key x) (key y)) (qT key) Li hU xs aN (asa dS) aI
  ·cases h
end
end
end Go.aS
end
section
namespace Go.aS
noncomputable section
theorem VE {ap:Type} {f:ap->Int}:∀{l:List ap},(l.map f).Nodup->∀{a b:ap},a∈l->b∈l->f a=f b->a=b
 |[],_,_,_,au,_,_=>by cases au
 |x::l,aq,a,b,au,aa,he=>by
  obtain ⟨h1,J⟩:=asQ.1 aq;rcases aq6.1 au with rfl|mX<;>rcases aq6.1 aa with rfl|ct
  ·rfl
  ·exact absurd (he▸List.mem_map_of_mem (f:=f) ct) h1
  ·exact absurd (he▸List.mem_map_of_mem (f:=f) mX) h1
  ·exact VE J mX ct he
section
variable {P:aqV} {D:Nat->Type} {X:dx P D}
def rC (fr:Nat->aqR):Nat->aqR:=fun t=>if t=32 then .bool aqT else if t=29\/t=30\/t=31 then any else fr t
theorem ahD {e kt vt t i7 iM i8 kI i9 i10:Nat} {jg iV iW hp:Array Oper} {fT:Code} {V:u6 P X e kt vt} {iv:List (D e)->Option (List (D e))} {dq:D e->List aqR} (K:AK X e kt vt t i7 iM i8 kI i9 i10 jg iV iW hp fT V iv dq)
  (bO:fQ X) (jN:P.follows .mixedOrders=aqQ) (vE:gn 45 fT=aqQ) {af:Type} {Jg:dX->List (Nat×aQ D)->List (aL D)->Option af} {r:af} {E:List (Nat×aQ D)} {O:List (aL D)} {em m:Mem} {z:Nat->a6} {k:Option Nat} {vs:List aqR} {fr:Nat->aqR}
  (dK:hT X [] calm aqQ [] fT E O Jg=aqP r) (av:bo X.G O z em m k vs) (aT:eC X z vs E (rC fr)) (hz:kD (X.G.M t kt vt) z [] (fr 8)):
  W P (sW i7 jg iM i8 iV 32 kI i9 iW i10 hp fT) (fun x=>hy X O z em k vs (Jg x) r) fr m:=by
 obtain ⟨n,ex,fu,m2,vr,lP⟩:=zv bO (B:=fT) (us:=[]) (L:=0) (by simp) fT aqQ [] _ _ Jg r (o9 fT) (ar7 _) (by simp) av aT dK;obtain ⟨vj,Bh⟩:=F1 jN n;refine W.ext (e:=ex) (fr':=fu) (m':=m2) ?_ lP;have hw:∀i,(jv (sW i7 jg iM i8 iV 32 kI i9 iW i10 hp fT)).contains i=aqT->(jv fT).contains i=aqT/\rC fr i=fr i:=by
  intro i ae;have h1:¬(i=4\/i=5\/i=32\/iT i=aqQ\/42<=i/\i<=44):=fun h=>by rw[K.BZ i h] at ae;cases ae
  refine ⟨as7.2 fun U=>h1 (by rcases K.MD i U with h|h|h<;>simp[h]), ?_⟩;unfold rC;rw[if_neg (fun h=>h1 (by simp[h])),if_neg (fun h=>h1 (.inr (.inr (.inr (.inl (by rcases h with h|h|h<;>rw[h]<;>rfl))))))]
 have pK:∀{n:Nat},(∀t,low n (fr t))->∀t,low n (rC fr t):=fun ai t=>by
  unfold rC;split
  ·trivial
  ·split
   ·trivial
   ·exact ai t
 refine ⟨Wy (Nt n) n vr,fun i ae=> ?_,fun cr ai=> ?_, ?_⟩
 ·rw[Nv n fT _ _ _ _ _ (hw i ae).1 vr];exact (hw i ae).2
 ·obtain ⟨h1,J,_⟩:=Cl vj n fT _ _ _ _ _ vE vr cr (pK ai);exact ⟨h1,J⟩
 ·intro N j a w Q du bp cr cG e9;have Mo:gn N fT=aqQ:=by
   simp only[sW,gn,aq5] at du;exact du.2
  have bi:44<N:=VH du 44 (K.BZ 44 (.inr (.inr (.inr (.inr ⟨by omega,by omega⟩)))));have abo:a.tmps.size=N:=cG.size;obtain ⟨gm,pU,aX,d1,dm,Lr,t1⟩:=K.qH.hb.cons;obtain ⟨gV,B6,e2,d2,ei,Ls,t2⟩:=t1.cons;have hR:=t2.nil;subst hR e2;dsimp only at d1 dm d2 ei;refine wp_seq (wp_seq (wp_region_list ?_));rw[aX];refine mN Lr (w':=w) (v:=dZ a 8) (Xf dm) ?_;rw[d1];obtain ⟨c4,nR⟩:∃c4,c4=a.put (aqP 29) (dZ a 8):=⟨_,rfl⟩
  have cq:c4.tmps.size=N/\c4.defers=[]:=by rw[nR,fS.1,fS.2];exact ⟨cG.size,cG.defers⟩
  have a7:∀t,dZ c4 t=if t=29 then dZ a 8 else dZ a t:=fun t=>by rw[nR];exact mG (by omega)
  rw[<-nR];obtain ⟨cN,it,iF,jP,vC,adm⟩:∃cN it,cN=w.alloc it/\(Instr.range t (dZ a 8)).run P w= .ok (.pointer (aqP ⟨w.heap.size,0,aqS⟩)) cN/\(∀ty,(Instr.next (.pointer (aqP ⟨w.heap.size,0,aqS⟩)) aqT ty).run P cN= .ok (.tuple #[.bool aqT]) cN)/\hE (dZ a 8):=by
   have ad:=cG.val 8;rcases hz with ⟨h1,_⟩|⟨bS,h1,J⟩
   ·rw[h1] at ad;have ad:dZ a 8= .map aqS:=ad;rw[ad];exact ⟨_,_,rfl,run_range_nilMap w t kt vt K.pL,fun ty=>run_next_nilMap w ty 0 0 #[],fun b aa=>by cases aa⟩
   ·rw[h1] at ad;obtain ⟨kv,yt,Fc⟩:∃q,j bS=aqP q/\dZ a 8= .map (aqP q.aH):=ad;have cg:(z bS).fF:=by rw[J];trivial
    obtain ⟨ih,iw,cs,gG,E',g1,g2,g3,g4,g5⟩:nM P j kv w.heap[kv.aH]? (.map ((X.G.M t kt vt).cells []) t):=by have:=bp.obj bS kv yt;rw[(av.aO.bg.fF cg).1,J] at this;exact this
    rw[K.pL] at g2;cases g2;have k2:=nJ.xo K.fy.pos g3 (G2 K.fy K.Bi []);subst k2;have hC:cs=#[]:=by have:=g4.length;rw[show ((X.G.M t kt vt).mV []).length=0 from rfl] at this;exact Array.eq_empty_of_size_eq_zero (by rw[<-Array.length_toList];exact this.symm)
    subst hC;rw[Fc];have E7:=MapKept.heap_alloc w (.mapIter (aqP kv.aH) gG #[] gG);refine ⟨_,_,rfl,run_range_map w t kt vt kv.aH #[] gG K.pL g1,fun ty=> ?_,fun b aa=>by cases aa⟩;rcases run_next_at (P:=P) (w.alloc (.mapIter (aqP kv.aH) gG #[] gG)) ty w.heap.size kv.aH gG gG #[] #[] gG E7.1 (by rw[E7.2 _ (bp.lt bS kv yt).2];exact g1) (fun x U=>by cases U) (aq3 _) with ⟨_,h⟩|⟨x,U,_⟩
    ·exact h
    ·have:=(mem_left U).1;cases this
  refine mN Ls (w':=cN) (v:= .pointer (aqP ⟨w.heap.size,0,aqS⟩)) (by simp[execOp,ei,oh,a7,jP]) ?_;rw[d2];obtain ⟨a2,kg⟩:∃a2,a2=c4.put (aqP 30) (.pointer (aqP ⟨w.heap.size,0,aqS⟩)):=⟨_,rfl⟩
  have z2:a2.tmps.size=N/\a2.defers=[]:=by rw[kg,fS.1,fS.2];exact cq
  have bj:∀t,dZ a2 t=if t=30 then .pointer (aqP ⟨w.heap.size,0,aqS⟩) else dZ c4 t:=fun t=>by rw[kg];exact mG (by rw[cq.1];omega)
  rw[<-kg];refine wpList_nil ?_;show (Code.block iM _).wp P _ a2 cN;refine wp_block (wp_loop_once ?_);obtain ⟨r0,MS,hR,d3,gb,aa1,t3⟩:=K.qH.hz.cons;obtain ⟨Vk,adZ,mn,d4,hi,aa2,t4⟩:=t3.cons;have x9:=t4.nil;subst x9 mn;dsimp only at d3 gb d4 hi;refine wp_seq (wp_region_list ?_);rw[hR];refine mN aa1 (v:= .tuple #[.bool aqT]) (w':=cN) (by simp[execOp,gb,oh,bj,vC]) ?_;rw[d3];obtain ⟨a3,vl⟩:∃a3,a3=a2.put (aqP 31) (.tuple #[.bool aqT]):=⟨_,rfl⟩
  have z3:a3.tmps.size=N/\a3.defers=[]:=by rw[vl,fS.1,fS.2];exact z2
  have bz:∀t,dZ a3 t=if t=31 then .tuple #[.bool aqT] else dZ a2 t:=fun t=>by rw[vl];exact mG (by rw[z2.1];omega)
  rw[<-vl];refine mN aa2 (w':=cN) (Ck (vs:=#[.bool aqT]) (v:= .bool aqT) hi (by rw[oh,bz,if_pos rfl]) rfl) ?_;rw[d4];obtain ⟨a4,vm⟩:∃a4,a4=a3.put (aqP 32) (.bool aqT):=⟨_,rfl⟩
  have z4:a4.tmps.size=N/\a4.defers=[]:=by rw[vm,fS.1,fS.2];exact z3
  have bI:∀t,dZ a4 t=if t=32 then .bool aqT else dZ a3 t:=fun t=>by rw[vm];exact mG (by rw[z3.1];omega)
  rw[<-vm];refine wpList_nil ?_;refine wp_seq (wp_cond_false (by rw[show Act.eval _ (.tmp 32)=dZ _ 32 from rfl,bI,if_pos rfl]) (wp_exit ?_));simp only[Exit.then,Exit.inBlock,if_true];have bu:=Post.iter bp it;rw[<-iF] at bu;have LB:jB j N (rC fr) a4:=by
   refine ⟨fun t=> ?_,z4.2,z4.1⟩;show b9 j (rC fr t) (dZ a4 t);unfold rC;rw[bI,bz,bj,a7];by_cases lJ:t=32
   ·rw[if_pos lJ,if_pos lJ];rfl
   rw[if_neg lJ,if_neg lJ];by_cases pG:t=31
   ·rw[if_pos (.inr (.inr pG)),if_pos pG];exact pb (fun b aa=>by cases aa)
   rw[if_neg pG];by_cases oN:t=30
   ·rw[if_pos (.inr (.inl oN)),if_pos oN];exact pb (fun b aa=>by cases aa)
   rw[if_neg oN];by_cases pF:t=29
   ·rw[if_pos (.inl pF),if_pos pF];exact pb adm
   rw[if_neg pF,if_neg (fun h=>by rcases h with h|h|h;exact pF h;exact oN h;exact pG h)];exact cG.val t
  exact Nw jN vj Bh n fT (rC fr) fu m m2 ex j a4 cN Q Mo vr bu.rel cr LB fun a5 anV adM acO abd=>e9 a5 anV adM (bu.trans acO) abd
end
section
variable {ap:Type} [Inhabited ap]
theorem afW (f:ap->Int) {xs bk:List ap} (aq:(xs.map f).Nodup) (an:xs.Perm bk):ka (fun x y=>fU (f x) (f y)) bk=ka (fun x y=>fU (f x) (f y)) xs:=by
 unfold ka;rw[an.length_eq];split
 ·congr 1;have h1:(gK (fun x y=>fU (f x) (f y)) bk).Perm (gK (fun x y=>fU (f x) (f y)) xs):=(y6 _ (qT f) bk).trans (an.symm.trans (y6 _ (qT f) xs).symm);have kr:((gK (fun x y=>fU (f x) (f y)) xs).map f).Nodup:=((y6 _ (qT f) xs).map f).nodup_iff.2 aq;refine h1.eq_of_pairwise (le:=fun x y=>f x<=f y) (fun a b au aa eH qw=> ?_) (Ni f bk) (Ni f xs);have mX:a∈gK (fun x y=>fU (f x) (f y)) xs:=h1.mem_iff.1 au;exact VE kr mX aa (Int.le_antisymm eH qw)
 ·rfl
end
end
end Go.aS
end
section
namespace Go.aS
noncomputable section
section
variable {P:aqV} {D:Nat->Type} {X:dx P D}
def Ir (D:Nat->Type) (e:Nat):List (kB D):=[⟨.ret,[.v 4 (.ay e), .v 5 (.int .i64)],[]⟩]
def zS (D:Nat->Type) (path:List Nat) (e kt vt t:Nat):gh D:=⟨path,[.o 6 (.ay e), .v 8 (.mp t kt vt)],[(6, .c (.own 0))],[0],Ir D e,[]⟩
def ZE (path:List Nat) (e kt vt t:Nat) (key:D e->Int) (app:D kt->D vt->D e) (iv:List (D e)->Option (List (D e))):(zS D path e kt vt t).F:=fun x=>zR (ap:=D e) (bx:=D kt) (rc:=D vt) key app iv x.1 x.2.1
def Af (em:Mem) (z:Nat->a6) (n:Nat) (x:a6):Nat->a6:=open Classical in fun b=>if b<em.next\/(z b).fF then z b else if b=n then x else .dead
theorem ajq {e kt vt t i7 iM i8 kI i9 i10:Nat} {jg iV iW hp:Array Oper} {fT:Code} {V:u6 P X e kt vt} {iv:List (D e)->Option (List (D e))} {dq:D e->List aqR} (K:AK X e kt vt t i7 iM i8 kI i9 i10 jg iV iW hp fT V iv dq)
  (bO:fQ X) (jN:P.follows .mixedOrders=aqQ) (vE:gn 45 fT=aqQ) (key:D e->Int) (BP:∀bk QO,(bk.map key).Nodup->bk.Perm QO->iv QO=iv bk) (MI:∀bk dT,iv bk=aqP dT->dT.length=bk.length)
  (Lz:∀(bk:List (D e)) (wf:Bool),hT X [] calm aqQ [] fT [(6, .c (.own 0))] [.ay e bk aqT wf] (ph X 1 [0] (Ir D e))=aqU (iv bk) fun dT=>aqP ((dT,(0:Int)):List (D e)×Int))
  {B:Code} {path:List Nat} (fG:sub B path=sW i7 jg iM i8 iV 32 kI i9 iW i10 hp fT):nI X B (zS D path e kt vt t) (ZE path e kt vt t key V.app iv):=by
 intro x ch z em m k b6 fr cG av aT;obtain ⟨xs,es,U⟩:∃(xs:List (D e)) (es:List (D kt×D vt)),x=(xs,es,()):=⟨x.1,x.2.1,rfl⟩
 subst U;have cG:zR (ap:=D e) (bx:=D kt) (rc:=D vt) key V.app iv xs es=aqP ch:=cG;unfold zR at cG;obtain ⟨⟨hlen,km⟩,cG⟩:=eV cG;obtain ⟨dT,az,cG⟩:=Option.bind_eq_some_iff.1 cG;cases cG;have av:bo X.G [.ay e xs aqT aqT] z em m k b6:=av;obtain ⟨v6,rfl⟩:∃v6,b6=[v6]:=by
  have:=av.len
  match b6,this with
  |[v],_=>exact ⟨v,rfl⟩
 have aT:eC X z [v6] [(8, .c (.mp t kt vt es)),(6, .c (.own 0))] fr:=aT;have dt:fr 6=v6:=by have:([v6]:List aqR)[0]? =aqP (fr 6)/\_:=aT 6;exact (ark.inj this.1).symm
 have hz:kD (X.G.M t kt vt) z es (fr 8):=aT 8;rw[show (zS D path e kt vt t).path=path from rfl,fG];cases es with
 |nil=>
  have az:iv xs=aqP dT:=by simpa using az
  have dK:=Lz xs aqT;rw[az] at dK;have dK:hT X [] calm aqQ [] fT [(6, .c (.own 0))] [.ay e xs aqT aqT] (ph X 1 [0] (Ir D e))=aqP ((dT,(0:Int)):List (D e)×Int):=dK;refine (ahD K bO jN vE dK av (fun d=> ?_) hz).mono ?_
  ·simp only[eh];split
   ·rename_i aB;have:=Nat.eq_of_beq_eq_true aB;subst this;exact aT 6
   ·trivial
  ·rintro ex eU m1 ⟨cq,iS,jA,bL,aI,h1,J,aj,aM,br⟩;obtain ⟨cL,y,g1,g2,g3,g4⟩:=Cv br;obtain ⟨z2,dd,bt,bE,cM⟩:=CN (X:=X) (ins:=(zS D path e kt vt t).ins) (ks:=[0]) (x:=(xs,[],())) (b6:=[v6]) aI J rfl aj aM g3;exact ⟨z2,dd,cL,y,g1,g2,g4,h1.trans bt,bE,cM⟩
 |cons ll aaT=>
  obtain ⟨es,jM⟩:∃es,es=ll::aaT:=⟨_,rfl⟩
  rw[<-jM] at hlen km az hz aT;have ca:es≠[]:=by rw[jM];simp
  obtain ⟨bS,hz,FG⟩:∃bS,fr 8= .map (aqP bS)/\z bS= .map ((X.G.M t kt vt).cells es) t:=by
   rcases hz with ⟨_,h⟩|h
   ·exact absurd h ca
   ·exact h
  have adE:0<dT.length:=by rw[MI _ _ az,ari,List.length_map,jM,arr];omega
  have hex:=ahC K bO jN hlen (fun bK an=> ?_) ca adE av dt hz FG
  ·refine W.ext hex ?_;have dF:=av.aO;have Ml:¬(z m.next).fF:=fun h=>by have:=(dF.bg.fF h).2;omega
   have lO:¬m.next<em.next:=by have:=dF.next;omega
   have FF:Af em z m.next (.own (dT.flatMap dq) (X.G.T e).tid) m.next= .own (dT.flatMap dq) (X.G.T e).tid:=by unfold Af;rw[if_neg (fun h=>by rcases h with h|h;exact lO h;exact Ml h),if_pos rfl]
   have MJ:∀b,b<em.next\/(z b).fF->Af em z m.next (.own (dT.flatMap dq) (X.G.T e).tid) b=z b:=fun b aa=>by unfold Af;rw[if_pos aa]
   refine ⟨Af em z m.next (.own (dT.flatMap dq) (X.G.T e).tid),[],⟨.ret,[.v 4 (.ay e), .v 5 (.int .i64)],[]⟩,((dT,(0:Int)):List (D e)×Int),arn,rfl,fun K=>rfl,⟨fun b aa=>MJ b (.inr aa),fun b aa=>MJ b (.inl aa)⟩, ?_, ?_⟩
   ·show bo X.G [.dead] _ em _ k [v6];refine ⟨⟨fun b aa=> ?_,fun b aa=>OK aa,dF.lI,Nat.le_trans dF.next (Nat.le_succ _),fun b aa hk=> ?_⟩,rfl,fun i o u ae hu=> ?_,fun i fH o p u l4 ca ae dY ai _ _ _=> ?_⟩
    ·show _/\b<m.next+1;by_cases h:b<em.next\/(z b).fF
     ·rw[MJ b h] at aa⊢;have:=dF.bg b aa;refine ⟨?_,by omega⟩;rw[OL this.2 (by
       rcases h with h|h
       ·exact .inl ⟨h, .inr aa⟩
       ·exact .inr h)]
      exact this.1
     ·by_cases aq:b=m.next
      ·rw[aq,FF,NZ];exact ⟨rfl,Nat.lt_succ_self _⟩
      ·unfold Af at aa;rw[if_neg h,if_neg aq] at aa;exact absurd rfl aa
    ·have:=dF.next;rw[OL (by omega) (.inl ⟨aa, .inl hk⟩)];exact dF.kept b aa hk
    ·cases i with
     |zero=>cases ae;trivial
     |succ i=>cases ae
    ·cases i with
     |zero=>cases ae;cases ai
     |succ i=>cases ae
   ·intro q aK;have aK:q=(4, .c (.ay e dT))\/q=(5, .c (.int .i64 0)):=by
     have:q∈[((4:Nat),(aQ.c (.ay e dT):aQ D)),(5, .c (.int .i64 0))]:=aK;simpa using this
    rcases aK with rfl|rfl
    ·have kl:∀x∈dT,(dq x).length=(X.G.T e).a1:=fun x _=>(X.G.T e).len _ _ _ (K.dE z x);show ev (X.G.T e) _ dT (.slice (aqP ⟨m.next,0,aqS⟩) dT.length dr);refine .inr ⟨m.next,0,dr,rfl,by rw[FF];trivial, .inl ⟨rfl,_,FF,by rw[CD kl];omega⟩,fun i x U=>⟨dq x,K.dE _ _,fun j v ad=> ?_⟩⟩;show kN _ m.next _=aqP v;rw[kN,FF,ara];exact OS kl i j x v U ad
    ·rfl
  ·have acR:(xs++es.map fun p=>V.app p.1 p.2).Perm (xs++bK.map fun p=>V.app p.1 p.2):=(an.symm.map _).append_left xs;rw[BP _ _ km acR];exact az
def nr:Code->Array Oper
 | .region _ ops _=>ops
 |_=>#[]
def oX:Code->Nat
 | .region i _ _=>i
 | .block i _=>i
 |_=>0
theorem mb.of:∀{l:List Oper} {bK:List (Option Nat×Op)},(l.map fun o=>(o.dst,o.op,o.guard))=bK.map (fun p=>(p.1,p.2,aqS))->mb l bK
 |[],[],_=>trivial
 |[],_::_,h=>by cases h
 |_::_,[],h=>by cases h
 |o::l,p::bK,h=>by simp only[List.map_cons,List.cons.injEq,Prod.mk.injEq] at h;exact ⟨h.1,mb.of h.2⟩
def ZO (l:List Nat):Bool:=l.all fun d=>aq9 d 6||(art 36 d&&art d 41)
def ZR (l:List Nat):Bool:=l.all fun d=>aq9 d 4||(aq9 d 5||(art 42 d&&art d 44))
def ZS (l:List Nat):Bool:=[4,5,6,9,10,29,30,31,32,33,34,35,36,37,38,39,40,41,42,43,44].all fun d=>l.contains d
theorem alB {l:List Nat} (h:ZO l=aqQ) (t:Nat) (ao:iT t=aqT\/t=29\/t=30\/t=31\/t=32\/t=33\/t=34\/t=35\/t=9\/t=10):l.contains t=aqT:=by
 refine as7.2 fun ab=> ?_;have:=aq8.1 h t (by simpa using ab);simp only[ar1,aq5,asW,as6] at this;have hw:iT t=aqQ:=by simp only[iT,ar1,aq5,asW,as6];omega
 rcases ao with ao|ao
 ·rw[hw] at ao;cases ao
 ·omega
theorem amf {l:List Nat} (h:ZR l=aqQ) (t:Nat) (ao:l.contains t=aqQ):t=4\/t=5\/42<=t/\t<=44:=by
 have:=aq8.1 h t (by simpa using ao);simpa only[ar1,aq5,asW,as6] using this
theorem amg {l:List Nat} (h:ZS l=aqQ) (t:Nat) (ao:t=4\/t=5\/t=32\/iT t=aqQ\/42<=t/\t<=44):l.contains t=aqQ:=by
 refine aq8.1 h t ?_;simp only[iT,ar1,aq5,asW,as6] at ao;simp only[aq6,asB,or_false];omega
def ad4 (P:aqV) (X:dx P D) (e kt vt:Nat) (k dc:aqW) (hk:D kt=Int) (ad:D vt=Int) (app:D kt->D vt->D e):u6 P X e kt vt where
 app:=app
 DC:=fun a=> .c (.int k (cast hk a))
 cY:=fun b=> .c (.int dc (cast ad b))
 oZ:=fun a=> .int k (cast hk a)
 nD:=fun b=> .int dc (cast ad b)
 hk:=fun _ _ _=>rfl
 ad:=fun _ _ _=>rfl
 M1:=fun _ b h=>by cases h
 dd:=fun _ b h=>by cases h
 TL:=fun _=>rfl
 yc:=fun _=>rfl
theorem agb {e kt vt t:Nat} (bO:fQ X) (jN:P.follows .mixedOrders=aqQ) {B:Code} {path:List Nat} (k dc:aqW) (hk:D kt=Int) (ad:D vt=Int) (app:D kt->D vt->D e) (x0:D e) (key:D e->Int)
  (fG:sub B path=sW (oX (sub B (path++[0,0]))) (nr (sub B (path++[0,0]))) (oX (sub B (path++[0,1]))) (oX (sub B (path++[0,1,0,0,0]))) (nr (sub B (path++[0,1,0,0,0]))) 32 (oX (sub B (path++[0,1,0,0,1,1])))
   (oX (sub B (path++[0,1,0,0,1,1,0,0]))) (nr (sub B (path++[0,1,0,0,1,1,0,0]))) (oX (sub B (path++[0,1,0,0,1,1,0,1]))) (nr (sub B (path++[0,1,0,0,1,1,0,1]))) (sub B (path++[1])))
  (hb:((nr (sub B (path++[0,0]))).toList.map fun o=>(o.dst,o.op,o.guard))=[(aqP 29, .move (.tmp 8),aqS),(aqP 30, .range t (.tmp 29),aqS)])
  (hz:((nr (sub B (path++[0,1,0,0,0]))).toList.map fun o=>(o.dst,o.op,o.guard))=[(aqP 31, .next (.tmp 30) aqT,aqS),(aqP 32, .extract (.tmp 31) 0,aqS)])
  (mo:((nr (sub B (path++[0,1,0,0,1,1,0,0]))).toList.map fun o=>(o.dst,o.op,o.guard))=[(aqP 33, .entry (.tmp 30),aqS),(aqP 34, .extract (.tmp 33) 0,aqS),(aqP 35, .extract (.tmp 33) 1,aqS),(aqP 9, .assign (.tmp 34),aqS),(aqP 10, .assign (.tmp 35),aqS)])
  (pL:P.underlying t=aqP (.map kt vt)) (fy:jX P kt (X.G.bQ kt)) (Bi:lH P vt (X.G.bQ vt))
  (yu:∀a,cZ (cT P kt) (X.G.bQ kt a)= .int k (cast hk a)) (FD:∀a,cZ (cT P vt) (X.G.bQ vt a)= .int dc (cast ad a))
  (hw:(ZO (tp (nr (sub B (path++[0,1,0,0,1,1,0,1]))))&&(ZR (jv (sub B (path++[1])))&&ZS (jv (sub B path))))=aqQ)
  (aa:∀(a:D kt) (b:D vt) (bk:List (D e)) (wf:Bool),pk X (nr (sub B (path++[0,1,0,0,1,1,0,1]))).toList (nr (sub B (path++[0,1,0,0,1,1,0,1]))).toList [(6, .c (.own 0)),(9, .c (.int k (cast hk a))),(10, .c (.int dc (cast ad b)))] [.ay e bk aqT wf] (Bb e)=aqU (dR bk [app a b]) fun r=>aqP r)
  (dK:∀(bk:List (D e)) (wf:Bool),hT X [] calm aqQ [] (sub B (path++[1])) [(6, .c (.own 0))] [.ay e bk aqT wf] (getD e)=aqU (@ka (D e) ⟨x0⟩ (fun x y=>fU (key x) (key y)) bk) fun r=>aqP r)
  (Lz:∀(bk:List (D e)) (wf:Bool),hT X [] calm aqQ [] (sub B (path++[1])) [(6, .c (.own 0))] [.ay e bk aqT wf] (ph X 1 [0] (Ir D e))=aqU (@ka (D e) ⟨x0⟩ (fun x y=>fU (key x) (key y)) bk) fun dT=>aqP ((dT,(0:Int)):List (D e)×Int))
  {dq:D e->List aqR} (j6:∀z x ds,(X.G.T e).rd z x ds->ds=dq x) (dE:∀z x,(X.G.T e).rd z x (dq x)) (hc:∀x,(dq x).all cv=aqQ) (dS:0<(X.G.T e).a1) (mY:P.cellsOf (X.G.T e).tid=(X.G.T e).a1) (vE:gn 45 (sub B (path++[1]))=aqQ):
  nI X B (zS D path e kt vt t) (ZE path e kt vt t key app (@ka (D e) ⟨x0⟩ fun x y=>fU (key x) (key y))):=by
 letI:Inhabited (D e):=⟨x0⟩
 simp only[aq5] at hw;have K:AK X e kt vt t (oX (sub B (path++[0,0]))) (oX (sub B (path++[0,1]))) (oX (sub B (path++[0,1,0,0,0]))) (oX (sub B (path++[0,1,0,0,1,1]))) (oX (sub B (path++[0,1,0,0,1,1,0,0]))) (oX (sub B (path++[0,1,0,0,1,1,0,1])))
   (nr (sub B (path++[0,0]))) (nr (sub B (path++[0,1,0,0,0]))) (nr (sub B (path++[0,1,0,0,1,1,0,0]))) (nr (sub B (path++[0,1,0,0,1,1,0,1]))) (sub B (path++[1])) (ad4 P X e kt vt k dc hk ad app) (ka fun x y=>fU (key x) (key y)) dq:={
  qH:=⟨mb.of hb,mb.of hz,mb.of mo⟩
  pL:=pL
  fy:=fy
  Bi:=Bi
  yu:=yu
  FD:=FD
  j5:=fun _=>rfl
  U0:=fun a b h=>by have h:aqR.int dc (cast ad a)= .int dc (cast ad b):=h;injection h with _ h;have:=congrArg (cast ad.symm) h;simpa using this
  vL:=alB hw.1
  aa:=fun a b bk wf ai=>by
   refine (aa a b bk wf).trans ?_;rw[show dR bk [app a b]=aqP (bk++[app a b]) by
    unfold dR;rw[if_pos (by show bk.length+1<=ma;omega)]]
   rfl
  MD:=amf hw.2.1
  BZ:=fun t ao=>by rw[<-fG];exact amg hw.2.2 t ao
  dK:=fun bk wf=>by rw[dK bk wf];cases ka (fun x y=>fU (key x) (key y)) bk<;>rfl
  j6:=j6
  dE:=dE
  hc:=hc
  dS:=dS
  mY:=mY}
 exact ajq K bO jN vE key (fun bk QO aq an=>afW key aq an) (fun bk dT h=>by
  unfold ka at h;split at h
  ·cases h;exact Cz _ (qT key) bk
  ·cases h) Lz fG
end
end
end Go.aS
end
section
namespace Go.aS
noncomputable section
section
variable {P:aqV} {D:Nat->Type} {bh:dx P D}
structure oz (bh:dx P D) where
 X:dx P D
 ok:fQ X
 hr:∀{d:bY D} {F:d.F},bX X d F->bX bh d F
 JS:∀{d:gZ D} {F:d.h2.F},fw X d F->fw bh d F
def oz.oJ (E:oz bh) (f:Operand->Option Operand->Option Operand->Nat):oz bh:=⟨E.X.oJ f,fQ.oJ E.ok,fun h=>E.hr (bX.oJ h),fun h=>E.JS (fw.base h)⟩
structure cz (bh:dx P D) where
 bc:List (nK D)
 gs:List (GE D)
 ok:∀y∈bc,bX bh y.d y.F
 Lu:∀y∈gs,fw bh y.d y.F
def cz.nil:cz bh:=⟨[],[],by simp,ahn⟩
def cz.da (T:cz bh) (d:bY D) (F:d.F) (h:bX bh d F):cz bh:=⟨⟨d,F⟩::T.bc,T.gs,ae7 (x:=⟨d,F⟩) h T.ok,T.Lu⟩
def cz.AX (T:cz bh) (d:gZ D) (F:d.h2.F) (h:fw bh d F):cz bh:=⟨T.bc,⟨d,F⟩::T.gs,T.ok,afZ (x:=⟨d,F⟩) h T.Lu⟩
def cz.aJ (T:cz bh):oz bh:=⟨(bh.with T.bc).gen T.gs,fQ.aaY (fQ.of T.ok) T.Lu,fun h=>bX.eJ (bX.eJ h),fun h=>fw.base (fw.base h)⟩
def cz.sub (T:cz bh) (d:bY D) (F:d.F) (h:bX bh d F):oz bh:=⟨T.aJ.X.sub ⟨d,F⟩,fQ.sub T.aJ.ok (bX.anP (bX.up h)),fun h=>T.aJ.hr (bX.sub h),fun h=>T.aJ.JS (fw.base h)⟩
structure aA (E:oz bh) (B:Code) where
 us:List (kZ D)
 ok:∀u∈us,px E.X B u
variable {E:oz bh} {B:Code}
def aA.nil:aA E B:=⟨[],aji⟩
def aA.add (gr:aA E B) (p:gh D) (F:p.F) (h:nI E.X B p F) (hk:p.oH B=aqQ):aA E B:=⟨p.yY E.X F::gr.us,ah3 (h.yY hk) gr.ok⟩
def aA.aO (gr:aA E B) (p:gh D) (F:p.F) (hk:p.oH B=aqQ:=by kernel_rfl)
  (dn:∀x,hT E.X gr.us calm aqQ p.path.reverse (aS.sub B p.path) (gw E.X p.ins x++p.eG) (dL E.X p.ins x) (ph E.X (fb p.ins) p.ks p.ic)=F x:=by intro x;kernel_rfl):aA E B:=
 gr.add p F (nI.of E.ok (fun u h _=>gr.ok u h) dn) hk
def YH:Code->Bool
 | .loop _=>aqQ
 |_=>aqT
theorem aeV {B:Code} {p:List Nat} (h:YH (aS.sub B p)=aqQ):aS.sub B p= .loop (aS.sub B (p++[0])):=by
 rw[<-O6];cases ab:aS.sub B p<;>rw[ab] at h<;>first|(cases h;done)|exact congrArg Code.loop (o9 _).symm
def aA.c8 (gr:aA E B) (N:Nat) (p:gh D) (F:Nat->p.F) (hk:(YH (aS.sub B p.path)&&p.oH B)=aqQ:=by kernel_rfl) (aI:∀x,F 0 x=aqS:=by exact fun x=>rfl)
  (dn:∀n x,hT E.X gr.us calm aqQ (0::p.path.reverse) (aS.sub B (p.path++[0])) (gw E.X p.ins x++p.eG) (dL E.X p.ins x) (YZ E.X p (F n))=F (n+1) x:=by intro n x;kernel_rfl):aA E B:=
 gr.add p (F N) (nI.loop E.ok (aeV (asX.1 hk).1) (asX.1 hk).2 (fun u h _=>gr.ok u h) aI dn N) (asX.1 hk).2
def Hp (P:aqV) (f np:Nat) (fn:Func):Bool:=fn.body.isSome&&(mA P f&&art np fn.ntmps)
theorem XO {fn:Func} (h:fn.body.isSome=aqQ):fn.body=aqP (bn fn):=by
 unfold bn;cases aa:fn.body with
 |none=>rw[aa] at h;cases h
 |some c=>rfl
def bY.fg (P:aqV) (d:bY D) (fn:Func):Bool:=Hp P d.f d.np fn&&(qZ d.outs&&((d.eG.all fun p=>sm p.2)&&((d.lj.all fun p=>sm p.2)&&(d.eG.all fun p=>(Dy p.2).isNone))))
theorem aA.fn {fn:Func} (gr:aA E (bn fn)) {d:bY D} {F:d.F} (aI:P.funcs[d.f]? =aqP fn) (h1:d.fg P fn=aqQ:=by kernel_rfl) (J:fn.results.toList=d.nC:=by exact rfl)
  (dn:∀r x,hT E.X gr.us calm aqQ [] (bn fn) (gw E.X d.ins x++(d.eG++Dw d.h5)) (pg E.X d.h5 r) (ZC E.X d)=F r x:=by intro r x;kernel_rfl):bX bh d F:=by
 unfold bY.fg Hp at h1;simp only[aq5] at h1;obtain ⟨⟨c4,a2,a3⟩,a4,a5,rr,pC⟩:=h1;exact E.hr (Jb.call ⟨⟨fn,_,aI,XO c4,a2,a3,J,D9.of E.ok (us:=gr.us) (fun u h _=>gr.ok u h) dn⟩,a4,a5,rr,pC⟩)
def gZ.fg (P:aqV) (d:gZ D) (fn:Func):Bool:=Hp P d.f d.np fn&&d.h2.oH (bn fn)
theorem aA.Lt {fn:Func} (gr:aA E (bn fn)) {d:gZ D} {F:d.h2.F} (aI:P.funcs[d.f]? =aqP fn) (h1:d.fg P fn=aqQ:=by kernel_rfl) (J:fn.results.toList=d.ch.map .tmp:=by exact rfl)
  (dn:∀x,hT E.X gr.us calm aqQ d.h2.path.reverse (aS.sub (bn fn) d.h2.path) (gw E.X d.h2.ins x++d.h2.eG) (dL E.X d.h2.ins x) (fun ex=>ph E.X (fb d.h2.ins) d.h2.ks d.h2.ic (Cb ex))=F x:=by intro x;kernel_rfl):fw bh d F:=by
 unfold gZ.fg Hp at h1;simp only[aq5] at h1;obtain ⟨⟨c4,a2,a3⟩,a4⟩:=h1;exact E.JS (Je.call ⟨⟨fn,_,aI,XO c4,a2,a3,J,a4,re.of E.ok (us:=gr.us) (fun u h _=>gr.ok u h) dn⟩⟩)
end
end
end Go.aS
end
section
set_option maxRecDepth 100000
set_option maxHeartbeats 1000000
namespace Go.W
open Go.aS
noncomputable section
structure er where
 l:(List Int)
 n:Int
deriving DecidableEq
structure aC where
 kind:Int
 name:(List UInt8)
 a:Int
 b:Int
 c:Int
 length:Int
deriving DecidableEq
structure aU where
 ak:Int
 bm:Int
 out:Int
deriving DecidableEq
structure Act where
 set:Bool
 id:Int
 from_:Int
 to:Int
deriving DecidableEq
structure aW where
 ak:Int
 eo:Int
deriving DecidableEq
structure bf where
 gR:Int
 dW:(List aU)
 dH:(List aW)
deriving DecidableEq
structure dC where
 a0:Int
 c4:Int
deriving DecidableEq
structure dI where
 l:(List aC)
 r:(List aU)
 cS:(List aW)
 seen:(List (dC×Bool))
deriving DecidableEq
structure Step where
 ak:Int
 bm:Int
deriving DecidableEq
structure dJ where
 ak:Int
 node:Int
deriving DecidableEq
structure Place where
 ak:Int
 bm:Int
deriving DecidableEq
def Aq (N:Nat) (x0:List Int):Option er:=
 aqP (er.mk x0 0)
def xE (N:Nat) (x0:Int):Option (List UInt8):=
 aqU (ov 112) fun a7=>
 aqU (ov (aq0 .u8 ((aq0 .i64 (48+(Int.tmod (aq0 .i64 (Int.tdiv x0 10)) 10)))))) fun bj=>
 aqU (ov (aq0 .u8 ((aq0 .i64 (48+(Int.tmod x0 10)))))) fun bz=>
 aS.lt ([a7,bj,bz]:List UInt8) fun bI=>
 aqP bI
def Ie (N:Nat) (x0:er) (bb:Int) (cP:Bool):Option Int:=
 if cP=aqQ then
  aqU (rZ x0.n (x0.l.length:Int)) fun a7=>
  aqU (aR x0.l a7) fun bj=>
  aqU (x8 x0.n (x0.l.length:Int)) fun bz=>
  aS.lt (aq0 .i64 (bj+(aq0 .i64 ((aq0 .i64 (bz))*7919)))) fun bI=>
  aqP bI
 else
  aqP bb
def P7 (N:Nat) (aD:Int) (bb:Int) (apq:Bool):Option Int:=
 if apq=aqQ then
  aS.lt (aq0 .i64 (bb+aD)) fun ck=>
  aqP ck
 else
  aqP bb
def kA (N:Nat) (x0:er) (aD:Int):Option (Int×er):=
 aqU (Ie N x0 0 (decide (0<(x0.l.length:Int)))) fun bR=>
 aqU (rZ bR aD) fun b3=>
 aqU (P7 N aD b3 (decide (b3<0))) fun cF=>
 aqP (cF,(er.mk x0.l (aq0 .i64 (x0.n+1))))
def IZ (N:Nat) (x0:er) (aD:List Int):Option (Int×er):=
 aqU (kA N x0 (aD.length:Int)) fun a7=>
 aqU (aR aD a7.1) fun bj=>
 aqP (bj,a7.2)
def H3 (N:Nat) (aY:List Int) (hP:Bool):Option (List Int):=
 if hP=aqQ then
  aqU (dR aY ([0]:List Int)) fun bz=>
  aqP bz
 else
  aqP aY
def H4 (N:Nat) (aD:Int) (bb:List aC) (aY:List Int) (bD:Int):Option Bool:=
 if (decide ((bb.length:Int)<aD))=aqQ then
  if (decide (0<(aY.length:Int)))=aqQ then
   aqP (decide (bD<62))
  else
   aqP aqT
 else
  aqP aqT
def H6 (N:Nat) (s4:Int) (Z8:Bool):Option Bool:=
 if Z8=aqQ then
  aqP Z8
 else
  aS.lt (s4==1) fun eM=>
  aqP eM
def PL (N:Nat) (x0:er) (aY:List Int):Option (er×Bool):=
 aqU (kA N x0 3) fun kY=>
 if (kY.1==0)=aqQ then
  aqP (kY.2,(decide (0<(aY.length:Int))))
 else
  aqP (kY.2,aqT)
def H5 (N:Nat) (x0:er) (aY:List Int) (bD:Int) (cJ:Int) (cj:aC) (s4:Int):Option (er×List Int×Int×aC):=
 aS.lt (s4==0) fun ep=>
 aqU (H6 N s4 ep) fun eb=>
 if eb=aqQ then
  aqU (dR aY ([bD,(aq0 .i64 (bD+1))]:List Int)) fun fm=>
  aS.lt (aq0 .i64 (bD+2)) fun e7=>
  aqP (x0,fm,e7,(aC.mk 2 cj.name cJ bD (aq0 .i64 (bD+1)) cj.length))
 else
  aS.lt (s4==2) fun gf=>
  if gf=aqQ then
   aqU (dR aY ([bD,(aq0 .i64 (bD+1))]:List Int)) fun gY=>
   aS.lt (aq0 .i64 (bD+2)) fun je=>
   aqP (x0,gY,je,(aC.mk 2 cj.name bD cJ (aq0 .i64 (bD+1)) cj.length))
  else
   aS.lt (s4==3) fun iU=>
   if iU=aqQ then
    aqU (dR aY ([bD]:List Int)) fun h7=>
    aS.lt (aq0 .i64 (bD+1)) fun kz=>
    aqP (x0,h7,kz,(aC.mk 3 cj.name cJ bD cj.c cj.length))
   else
    aqU (IZ N x0 ([1,300,100000]:List Int)) fun jf=>
    aqU (PL N jf.2 aY) fun mP=>
    if mP.2=aqQ then
     aqU (aR aY (aq0 .i64 ((aY.length:Int) - 1))) fun ox=>
     aqU (aR aY (aq0 .i64 ((aY.length:Int) - 1))) fun qi=>
     aqU (fV aY 0 (aq0 .i64 ((aY.length:Int) - 1))) fun q8=>
     aqP (mP.1,q8,bD,(aC.mk 1 cj.name cJ qi cj.c jf.1))
    else
     aqU (kA N mP.1 2) fun uT=>
     if (uT.1==0)=aqQ then
      aqU (dR aY ([bD]:List Int)) fun Ad=>
      aS.lt (aq0 .i64 (bD+1)) fun xy=>
      aqP (uT.2,Ad,xy,(aC.mk 1 cj.name cJ bD cj.c jf.1))
     else
      aS.lt (aq0 .i64 (bD+1)) fun xz=>
      aqP (uT.2,aY,xz,(aC.mk 1 cj.name cJ bD cj.c jf.1))
def Dn (N:Nat) (aD:Int):Nat->er->(List aC)->(List Int)->Int->Option (er×List aC×List Int×Int)
 |0,_,_,_,_=>aqS
 |n+1,x0,bb,aY,bD=>
  aqU (H4 N aD bb aY bD) fun bR=>
  if bR=aqQ then
   aqU (kA N x0 (aY.length:Int)) fun b3=>
   aqU (aR aY b3.1) fun ck=>
   aqU (aR aY b3.1) fun cF=>
   aqU (fV aY 0 b3.1) fun cH=>
   aqU (fV aY (aq0 .i64 (b3.1+1)) (aY.length:Int)) fun cy=>
   aqU (dR (List.take (Int.toNat b3.1) aY) (List.drop (Int.toNat (aq0 .i64 (b3.1+1))) (List.take (Int.toNat (aY.length:Int)) aY))) fun c6=>
   aqU (xE N (bb.length:Int)) fun dz=>
   aqU (kA N b3.2 6) fun dP=>
   aqU (H5 N dP.2 c6 bD cF (aC.mk 0 dz 0 0 0 0) dP.1) fun s5=>
   aqU (dR bb ([s5.2.2.2]:List aC)) fun Ae=>
   Dn N aD n s5.1 Ae s5.2.1 s5.2.2.1
  else
   aqP (x0,bb,aY,bD)
def H7 (N:Nat) (bb:List aC) (aY:List Int) (bD:Int):Option Bool:=
 if (decide (0<(aY.length:Int)))=aqQ then
  if (decide ((bb.length:Int)<96))=aqQ then
   aqP (decide (bD<64))
  else
   aqP aqT
 else
  aqP aqT
def PM (N:Nat) (bb:List aC) (aY:List Int) (bD:Int) (apm:Bool):Option (List aC×Int):=
 if apm=aqQ then
  aqU (xE N (bb.length:Int)) fun QI=>
  aqU (aR aY 0) fun Z9=>
  aqU (aR aY 0) fun QJ=>
  aqU (dR bb ([(aC.mk 1 QI QJ bD 0 200)]:List aC)) fun QK=>
  aS.lt (aq0 .i64 (bD+1)) fun QL=>
  aqP (QK,QL)
 else
  aqP (bb,bD)
def Dp (N:Nat):Nat->er->(List aC)->(List Int)->Int->Option (er×List aC)
 |0,_,_,_,_=>aqS
 |n+1,x0,bb,aY,bD=>
  aqU (H7 N bb aY bD) fun DN=>
  if DN=aqQ then
   aqU (kA N x0 5) fun IH=>
   aqU (PM N bb aY bD (decide (0<IH.1))) fun II=>
   aqU (fV aY 1 (aY.length:Int)) fun QM=>
   Dp N n IH.2 II.1 QM II.2
  else
   aqP (x0,bb)
def DT (N:Nat) (x0:er) (aD:Int):Option (List aC×er):=
 aqU (xE N 0) fun a7=>
 aqU (kA N x0 2) fun bj=>
 aqU (H3 N ([1]:List Int) (bj.1==0)) fun bI=>
 aqU (Dn N aD N bj.2 ([(aC.mk 1 a7 0 1 0 500)]:List aC) bI 2) fun xA=>
 aqU (Dp N N xA.1 xA.2.1 xA.2.2.1 xA.2.2.2) fun QN=>
 aqP (QN.2,QN.1)
def PY (N:Nat) (x0:List aC) (bH:List Int) (b0:Int):Option (List Int):=
 aqU (aR x0 b0) fun a7=>
 if (a7.kind==1)=aqQ then
  aqU (dR bH ([b0]:List Int)) fun bj=>
  aqP bj
 else
  aqP bH
def zG (N:Nat) (x0:List aC):Nat->(List Int)->Int->Option (List Int)
 |0,_,_=>aqS
 |n+1,bH,b0=>
  if (decide (b0<(x0.length:Int)))=aqQ then
   aqU (PY N x0 bH b0) fun bz=>
   aS.lt (aq0 .i64 (b0+1)) fun bI=>
   zG N x0 n bz bI
  else
   aqP bH
def DS (N:Nat) (x0:List aC):Option (List Int):=
 aqU (zG N x0 N [] 0) fun bR=>
 aqP bR
def Qi (N:Nat) (x0:List aC) (aD:Int):Option Bool:=
 if (decide (aD<0))=aqQ then
  aqP aqQ
 else
  aqP (decide ((x0.length:Int)<=aD))
def Qj (N:Nat) (hP:Int) (xv:Bool):Option Bool:=
 if xv=aqQ then
  aqP xv
 else
  aS.lt (hP==3) fun bI=>
  aqP bI
def ps (N:Nat) (x0:List aC) (aD:Int):Option (List Int):=
 aqU (Qi N x0 aD) fun a7=>
 if a7=aqQ then
  aqP []
 else
  aqU (aR x0 aD) fun bj=>
  aS.lt (bj.kind==1) fun bz=>
  aqU (Qj N bj.kind bz) fun bR=>
  if bR=aqQ then
   aqU (aR x0 aD) fun b3=>
   aqU (aR x0 aD) fun ck=>
   aqP ([b3.a,ck.b]:List Int)
  else
   aS.lt (bj.kind==2) fun cF=>
   if cF=aqQ then
    aqU (aR x0 aD) fun cH=>
    aqU (aR x0 aD) fun cy=>
    aqU (aR x0 aD) fun c6=>
    aqP ([cH.a,cy.b,c6.c]:List Int)
   else
    aqP []
def uH (N:Nat) (x0:List Int) (aD:Int):Nat->Int->Option (Sum (Unit) (Bool))
 |0,_=>aqS
 |n+1,bb=>
  if (decide (bb<(x0.length:Int)))=aqQ then
   aqU (aR x0 bb) fun a7=>
   if (a7==aD)=aqQ then
    aqP (aq1 aqQ)
   else
    aS.lt (aq0 .i64 (bb+1)) fun bj=>
    uH N x0 aD n bj
  else
   aqP (aq2 ())
def Ar (N:Nat) (x0:List Int) (aD:Int):Option Bool:=
 aqU (uH N x0 aD N 0) fun bz=>
 match bz with
 |aq2 bI=>
  aqP aqT
 |aq1 bR=>
  aqP bR
def PK (N:Nat) (x0:List aC) (aD:Int) (b7:Int) (bD:Int):Option Bool:=
 if (bD !=aD)=aqQ then
  aqU (ps N x0 bD) fun a7=>
  aqU (Ar N a7 b7) fun bj=>
  aqP bj
 else
  aqP aqT
def uA (N:Nat) (x0:List aC) (aD:Int) (b7:Int):Nat->Int->Option (Sum (Unit) (Int))
 |0,_=>aqS
 |n+1,bD=>
  if (decide (bD<(x0.length:Int)))=aqQ then
   aqU (PK N x0 aD b7 bD) fun bz=>
   if bz=aqQ then
    aqP (aq1 bD)
   else
    aS.lt (aq0 .i64 (bD+1)) fun bI=>
    uA N x0 aD b7 n bI
  else
   aqP (aq2 ())
def q9 (N:Nat) (x0:List aC) (aD:Int) (b7:Int):Option Int:=
 aqU (uA N x0 aD b7 N 0) fun bR=>
 match bR with
 |aq2 b3=>
  aqP (-1)
 |aq1 ck=>
  aqP ck
def xF (N:Nat) (x0:List aC) (aD:Int) (b7:Int):Option (List Int):=
 aqU (ps N x0 aD) fun a7=>
 aqU (Ar N a7 b7) fun bj=>
 aS.lt (!bj) fun bz=>
 if bz=aqQ then
  aqP []
 else
  aqU (aR a7 0) fun bI=>
  aqU (aR a7 0) fun bR=>
  aS.lt (bR==b7) fun b3=>
  if b3=aqQ then
   aqU (fV a7 1 (a7.length:Int)) fun ck=>
   aqU (dR ([]:List Int) ck) fun cF=>
   aqP cF
  else
   aqU (aR a7 0) fun cH=>
   aqU (aR a7 0) fun cy=>
   aqP ([cy]:List Int)
def Ia (N:Nat) (x0:er) (aD:List aC) (cj:Int) (cP:List Int):Option (er×Bool):=
 aqU (aR aD cj) fun c6=>
 if (c6.kind==1)=aqQ then
  aqU (kA N x0 2) fun dz=>
  if (dz.1==0)=aqQ then
   aqP (dz.2,aqQ)
  else
   aqU (aR cP 0) fun dP=>
   aqU (aR cP 0) fun ep=>
   aqU (q9 N aD cj ep) fun eM=>
   aqP (dz.2,(decide (eM<0)))
 else
  aqP (x0,aqT)
def sK (N:Nat) (aD:List aC):Nat->er->aU->(List aU)->Int->Option (Sum (er×List aU) (er×List aU))
 |0,_,_,_,_=>aqS
 |n+1,x0,aY,b1,cJ=>
  if (decide (cJ<12))=aqQ then
   aqU (q9 N aD aY.ak aY.out) fun cH=>
   if (decide (cH<0))=aqQ then
    aqP (aq2 (x0,b1))
   else
    aqU (xF N aD cH aY.out) fun cy=>
    aqU (Ia N x0 aD cH cy) fun eb=>
    if eb.2=aqQ then
     aqU (dR b1 ([(aU.mk cH aY.out (-1))]:List aU)) fun fm=>
     aqP (aq1 (eb.1,fm))
    else
     aqU (kA N eb.1 (cy.length:Int)) fun e7=>
     aqU (aR cy e7.1) fun gf=>
     aqU (aR cy e7.1) fun gY=>
     aqU (dR b1 ([(aU.mk cH aY.out gY)]:List aU)) fun je=>
     aS.lt (aq0 .i64 (cJ+1)) fun iU=>
     sK N aD n e7.2 (aU.mk cH aY.out gY) je iU
  else
   aqP (aq2 (x0,b1))
def DX (N:Nat) (x0:er) (aD:List aC):Option (List aU×er):=
 aqU (DS N aD) fun a7=>
 aqU (kA N x0 (a7.length:Int)) fun bj=>
 aqU (aR a7 bj.1) fun bz=>
 aqU (aR a7 bj.1) fun bI=>
 aqU (ps N aD bI) fun bR=>
 aqU (kA N bj.2 (bR.length:Int)) fun b3=>
 aqU (aR bR b3.1) fun ck=>
 aqU (aR bR b3.1) fun cF=>
 aqU (sK N aD N b3.2 (aU.mk bI (-1) cF) ([(aU.mk bI (-1) cF)]:List aU) 0) fun h7=>
 match h7 with
 |aq2 kz=>
  aqP (kz.2,kz.1)
 |aq1 jf=>
  aqP (jf.2,jf.1)
def HR (N:Nat) (x0:er) (aY:List aC) (bD:List Int) (cP:Act) (IE:Bool):Option (er×Act):=
 if IE=aqQ then
  aqU (kA N x0 (bD.length:Int)) fun c6=>
  aqU (aR bD c6.1) fun dz=>
  aqU (aR bD c6.1) fun dP=>
  aqU (kA N c6.2 (aq0 .i64 ((aY.length:Int)+1))) fun ep=>
  aqP (ep.2,(Act.mk cP.set cP.id dP ep.1))
 else
  aqP (x0,cP)
def w8 (N:Nat) (aD:Int) (aY:List aC) (bD:List Int):Nat->er->(List Act)->Int->Option (er×List Act)
 |0,_,_,_=>aqS
 |n+1,x0,b1,cJ=>
  if (decide (cJ<aD))=aqQ then
   aqU (DX N x0 aY) fun bz=>
   aqU (kA N bz.2 4) fun bI=>
   aqU (kA N bI.2 6) fun bR=>
   aqU (aR bz.1 0) fun b3=>
   aqU (aR bz.1 0) fun ck=>
   aqU (aR bz.1 (aq0 .i64 ((bz.1.length:Int) - 1))) fun cF=>
   aqU (aR bz.1 (aq0 .i64 ((bz.1.length:Int) - 1))) fun cH=>
   aqU (kA N bR.2 5) fun cy=>
   aqU (HR N cy.2 aY bD (Act.mk (decide (0<bI.1)) bR.1 ck.ak cH.ak) (cy.1==0)) fun eM=>
   aqU (dR b1 ([eM.2]:List Act)) fun eb=>
   aS.lt (aq0 .i64 (cJ+1)) fun fm=>
   w8 N aD aY bD n eM.1 eb fm
  else
   aqP (x0,b1)
def uY (N:Nat) (x0:er) (aD:Int):Option (List aC×List Act×er):=
 aqU (DT N x0 20) fun a7=>
 aqU (DS N a7.1) fun bj=>
 aqU (w8 N aD a7.1 bj N a7.2 [] 0) fun e7=>
 aqP (a7.1,e7.2,e7.1)
def HT (N:Nat) (x0:List UInt8) (bH:Int):Option Bool:=
 aqU (aR x0 bH) fun a7=>
 if (decide (97<=(asc a7:Int)))=aqQ then
  aqU (aR x0 bH) fun bj=>
  if (decide ((asc bj:Int)<=122))=aqQ then
   aqP (!aqQ)
  else
   aqU (aR x0 bH) fun bz=>
   if (decide (48<=(asc bz:Int)))=aqQ then
    aqU (aR x0 bH) fun bI=>
    aqP (!(decide ((asc bI:Int)<=57)))
   else
    aqP (!aqT)
 else
  aqU (aR x0 bH) fun bR=>
  if (decide (48<=(asc bR:Int)))=aqQ then
   aqU (aR x0 bH) fun b3=>
   aqP (!(decide ((asc b3:Int)<=57)))
  else
   aqP (!aqT)
def uG (N:Nat) (x0:List UInt8):Nat->Int->Option (Sum (Unit) (Bool))
 |0,_=>aqS
 |n+1,bH=>
  if (decide (bH<(x0.length:Int)))=aqQ then
   aqU (HT N x0 bH) fun ck=>
   if ck=aqQ then
    aqP (aq1 aqT)
   else
    aS.lt (aq0 .i64 (bH+1)) fun cF=>
    uG N x0 n cF
  else
   aqP (aq2 ())
def Qh (N:Nat) (x0:List UInt8):Option Bool:=
 if (decide (1<=(x0.length:Int)))=aqQ then
  aS.lt (decide ((x0.length:Int)<=12)) fun c6=>
  aqP c6
 else
  aqP aqT
def I6 (N:Nat) (x0:List UInt8):Option Bool:=
 aqU (uG N x0 N 0) fun cH=>
 match cH with
 |aq2 cy=>
  aqU (Qh N x0) fun dz=>
  aqP dz
 |aq1 dP=>
  aqP dP
def Qc (N:Nat) (bb:aC) (aY:List Int):Option Bool:=
 if ((aY.length:Int)==0)=aqQ then
  aqP aqQ
 else
  aqU (I6 N bb.name) fun bz=>
  aqP (!bz)
def Qd (N:Nat) (aY:List Int) (bD:Int):Option Bool:=
 aqU (aR aY bD) fun bR=>
 if (decide (bR<0))=aqQ then
  aqP aqQ
 else
  aqU (aR aY bD) fun b3=>
  if (decide (64<=b3))=aqQ then
   aqP aqQ
  else
   aqU (fV aY 0 bD) fun ck=>
   aqU (aR aY bD) fun cF=>
   aqU (Ar N ck cF) fun cH=>
   aqP cH
def sR (N:Nat) (aY:List Int):Nat->Int->Option (Sum (Unit) (Bool))
 |0,_=>aqS
 |n+1,bD=>
  if (decide (bD<(aY.length:Int)))=aqQ then
   aqU (Qd N aY bD) fun cy=>
   if cy=aqQ then
    aqP (aq1 aqT)
   else
    aS.lt (aq0 .i64 (bD+1)) fun c6=>
    sR N aY n c6
  else
   aqP (aq2 ())
def Qe (N:Nat) (bb:aC) (aY:List Int):Option Bool:=
 if ((aY.length:Int)==2)=aqQ then
  aqP (bb.c !=0)
 else
  aqP aqT
def Qf (N:Nat) (bb:aC):Option Bool:=
 if (decide (1<=bb.length))=aqQ then
  aS.lt (decide (bb.length<=100000)) fun eM=>
  aqP eM
 else
  aqP aqT
def nG (N:Nat) (x0:List aC) (aD:Int):Option Bool:=
 aqU (aR x0 aD) fun a7=>
 aqU (ps N x0 aD) fun bj=>
 aqU (Qc N a7 bj) fun bI=>
 if bI=aqQ then
  aqP aqT
 else
  aqU (sR N bj N 0) fun dz=>
  match dz with
  |aq2 dP=>
   aqU (Qe N a7 bj) fun ep=>
   if ep=aqQ then
    aqP aqT
   else
    if (a7.kind==1)=aqQ then
     aqU (Qf N a7) fun eb=>
     aqP eb
    else
     aS.lt (a7.length==0) fun fm=>
     aqP fm
  |aq1 e7=>
   aqP e7
def sP (N:Nat) (x0:List aC) (b0:Int):Nat->Int->Option (Sum (Unit) (Int))
 |0,_=>aqS
 |n+1,bb=>
  if (decide (bb<b0))=aqQ then
   aqU (aR x0 bb) fun bj=>
   aqU (aR x0 b0) fun bz=>
   if (bj.name==bz.name)=aqQ then
    aqP (aq1 8)
   else
    aS.lt (aq0 .i64 (bb+1)) fun bI=>
    sP N x0 b0 n bI
  else
   aqP (aq2 ())
def sQ (N:Nat) (bH:List Int) (aY:List Int):Nat->Int->Option (Sum (Unit) (Int))
 |0,_=>aqS
 |n+1,bD=>
  if (decide (bD<(aY.length:Int)))=aqQ then
   aqU (aR aY bD) fun cF=>
   aqU (aR aY bD) fun cH=>
   aqU (aR bH cH) fun cy=>
   aqU (aR bH cH) fun c6=>
   if (c6==2)=aqQ then
    aqP (aq1 17)
   else
    aS.lt (aq0 .i64 (bD+1)) fun dz=>
    sQ N bH aY n dz
  else
   aqP (aq2 ())
def w6 (N:Nat) (aY:List Int):Nat->(List Int)->Int->Option (List Int)
 |0,_,_=>aqS
 |n+1,bH,b1=>
  if (decide (b1<(aY.length:Int)))=aqQ then
   aqU (aR aY b1) fun eM=>
   aqU (aR aY b1) fun eb=>
   aqU (aR bH eb) fun fm=>
   aqU (aR bH eb) fun e7=>
   aqU (aR bH eb) fun gf=>
   aqU (aR bH eb) fun gY=>
   aS.lt (bH.set ((eb:Int).toNat) (aq0 .i64 (e7+1))) fun je=>
   aS.lt (aq0 .i64 (b1+1)) fun iU=>
   w6 N aY n je iU
  else
   aqP bH
def zL (N:Nat) (x0:List aC):Nat->(List Int)->Int->Option (Sum (Unit) (Int))
 |0,_,_=>aqS
 |n+1,bH,b0=>
  if (decide (b0<(x0.length:Int)))=aqQ then
   aqU (nG N x0 b0) fun a7=>
   if (!a7)=aqQ then
    aqP (aq1 1)
   else
    aqU (sP N x0 b0 N 0) fun bR=>
    match bR with
    |aq2 b3=>
     aqU (ps N x0 b0) fun ck=>
     aqU (sQ N bH ck N 0) fun dP=>
     match dP with
     |aq2 ep=>
      aqU (w6 N ck N bH 0) fun h7=>
      aS.lt (aq0 .i64 (b0+1)) fun kz=>
      zL N x0 n h7 kz
     |aq1 jf=>
      aqP (aq1 jf)
    |aq1 kY=>
     aqP (aq1 kY)
  else
   aqP (aq2 ())
def uX (N:Nat) (x0:List aC):Option Int:=
 if (decide (96<(x0.length:Int)))=aqQ then
  aqP 3
 else
  aqU (zL N x0 N (arq 64 0) 0) fun mP=>
  match mP with
  |aq2 ox=>
   aqP 0
  |aq1 qi=>
   aqP qi
def Qg (N:Nat) (x0:List aC) (aD:Int):Option Bool:=
 if (decide (0<=aD))=aqQ then
  if (decide (aD<(x0.length:Int)))=aqQ then
   aqU (aR x0 aD) fun a7=>
   aS.lt (a7.kind==1) fun bj=>
   aqP bj
  else
   aqP aqT
 else
  aqP aqT
def xJ (N:Nat) (x0:List aC) (aD:Int):Option Bool:=
 aqU (Qg N x0 aD) fun bz=>
 aqP bz
def uC (N:Nat) (x0:List aU) (aD:Int):Nat->Int->Option (Sum (Unit) (Bool))
 |0,_=>aqS
 |n+1,bb=>
  if (decide (bb<(x0.length:Int)))=aqQ then
   aqU (aR x0 bb) fun a7=>
   if (a7.ak==aD)=aqQ then
    aqP (aq1 aqQ)
   else
    aS.lt (aq0 .i64 (bb+1)) fun bj=>
    uC N x0 aD n bj
  else
   aqP (aq2 ())
def ra (N:Nat) (x0:List aU) (aD:Int):Option Bool:=
 aqU (uC N x0 aD N 0) fun bz=>
 match bz with
 |aq2 bI=>
  aqP aqT
 |aq1 bR=>
  aqP bR
def uI (N:Nat) (x0:List Int) (aD:Int):Nat->Int->Option (Sum (Unit) (Bool))
 |0,_=>aqS
 |n+1,bb=>
  if (decide (bb<(x0.length:Int)))=aqQ then
   aqU (aR x0 bb) fun a7=>
   if (a7==aD)=aqQ then
    aqP (aq1 aqQ)
   else
    aS.lt (aq0 .i64 (bb+1)) fun bj=>
    uI N x0 aD n bj
  else
   aqP (aq2 ())
def D5 (N:Nat) (x0:List Int) (aD:Int):Option Bool:=
 aqU (uI N x0 aD N 0) fun bz=>
 match bz with
 |aq2 bI=>
  aqP aqT
 |aq1 bR=>
  aqP bR
def uD (N:Nat) (x0:List aC) (aD:List aU) (bb:Int):Option Bool:=
 aqU (uX N x0) fun bj=>
 if (bj !=0)=aqQ then
  aqP aqQ
 else
  if (decide (bb<1))=aqQ then
   aqP aqQ
  else
   aqU (aR aD 0) fun bz=>
   aqU (xJ N x0 bz.ak) fun bI=>
   if (!bI)=aqQ then
    aqP aqQ
   else
    aqU (aR aD bb) fun bR=>
    aqU (xJ N x0 bR.ak) fun b3=>
    if (!b3)=aqQ then
     aqP aqQ
    else
     aqU (aR aD 0) fun ck=>
     if (ck.bm !=(-1))=aqQ then
      aqP aqQ
     else
      aqU (aR aD bb) fun cF=>
      aqP (cF.out !=(-1))
def Im (N:Nat) (x0:List aC) (aD:List aU) (aY:Int):Option Bool:=
 aqU (aR aD aY) fun cy=>
 if (decide (cy.ak<0))=aqQ then
  aqP aqQ
 else
  aqU (aR aD aY) fun c6=>
  if (decide ((x0.length:Int)<=c6.ak))=aqQ then
   aqP aqQ
  else
   aqU (fV aD 0 aY) fun dz=>
   aqU (aR aD aY) fun dP=>
   aqU (ra N dz dP.ak) fun ep=>
   aqP ep
def Io (N:Nat) (x0:List aC) (aD:List aU) (bb:Int) (aY:Int):Option Bool:=
 if (decide (aY<bb))=aqQ then
  aqU (aR aD aY) fun eb=>
  aqU (ps N x0 eb.ak) fun fm=>
  aqU (aR aD aY) fun e7=>
  aqU (D5 N fm e7.out) fun gf=>
  if (!gf)=aqQ then
   aqP aqQ
  else
   aqU (aR aD (aq0 .i64 (aY+1))) fun gY=>
   aqU (aR aD aY) fun je=>
   if (gY.bm !=je.out)=aqQ then
    aqP aqQ
   else
    aqU (aR aD (aq0 .i64 (aY+1))) fun iU=>
    aqU (aR aD aY) fun h7=>
    aqU (aR aD aY) fun kz=>
    aqU (q9 N x0 h7.ak kz.out) fun jf=>
    aqP (iU.ak !=jf)
 else
  aqP aqT
def Ip (N:Nat) (x0:List aC) (aD:List aU) (bb:Int) (aY:Int):Option Bool:=
 if (decide (0<aY))=aqQ then
  if (decide (aY<bb))=aqQ then
   aqU (aR aD aY) fun mP=>
   aqU (aR aD aY) fun ox=>
   aqU (xF N x0 mP.ak ox.bm) fun qi=>
   aqU (aR aD aY) fun q8=>
   aqU (D5 N qi q8.out) fun uT=>
   aqP (!uT)
  else
   aqP aqT
 else
  aqP aqT
def uE (N:Nat) (x0:List aC) (aD:List aU) (bb:Int):Nat->Int->Option (Sum (Unit) (Bool))
 |0,_=>aqS
 |n+1,aY=>
  if (decide (aY<=bb))=aqQ then
   aqU (Im N x0 aD aY) fun eM=>
   if eM=aqQ then
    aqP (aq1 aqT)
   else
    aqU (Io N x0 aD bb aY) fun kY=>
    if kY=aqQ then
     aqP (aq1 aqT)
    else
     aqU (Ip N x0 aD bb aY) fun Ad=>
     if Ad=aqQ then
      aqP (aq1 aqT)
     else
      aS.lt (aq0 .i64 (aY+1)) fun xy=>
      uE N x0 aD bb n xy
  else
   aqP (aq2 ())
def xI (N:Nat) (x0:List aC) (aD:List aU):Option Bool:=
 aS.lt (aq0 .i64 ((aD.length:Int) - 1)) fun a7=>
 aqU (uD N x0 aD a7) fun cH=>
 if cH=aqQ then
  aqP aqT
 else
  aqU (uE N x0 aD a7 N 0) fun xz=>
  match xz with
  |aq2 s5=>
   aqP aqQ
  |aq1 Ae=>
   aqP Ae
def zI (N:Nat) (bH:aU) (bb:aC):Option Bool:=
 if (bb.kind==2)=aqQ then
  if (bH.bm==bb.b)=aqQ then
   aqP aqQ
  else
   aS.lt (bH.out==bb.b) fun bz=>
   aqP bz
 else
  aqP aqT
def DU (N:Nat) (x0:List aC) (aD:aU):Option Int:=
 aqU (aR x0 aD.ak) fun a7=>
 aS.lt (a7.kind==3) fun bj=>
 if bj=aqQ then
  aqP 3
 else
  aqU (zI N aD a7) fun bI=>
  if bI=aqQ then
   aqP 1
  else
   aS.lt (a7.kind==2) fun bR=>
   if bR=aqQ then
    aqP 2
   else
    aqP 0
def zz (N:Nat) (x0:List aW) (bH:aW) (bb:Int):Option Bool:=
 if (decide (0<bb))=aqQ then
  aqU (aR x0 (aq0 .i64 (bb - 1))) fun bj=>
  aqP (decide (bH.ak<=bj.ak))
 else
  aqP aqT
def zN (N:Nat) (x0:List aW) (bH:aW):Nat->Int->Option Int
 |0,_=>aqS
 |n+1,bb=>
  aqU (zz N x0 bH bb) fun bz=>
  if bz=aqQ then
   aS.lt (aq0 .i64 (bb - 1)) fun bI=>
   zN N x0 bH n bI
  else
   aqP bb
def zA (N:Nat) (x0:List aW) (bH:aW) (bb:Int):Option Bool:=
 if (decide (bb<(x0.length:Int)))=aqQ then
  aqU (aR x0 bb) fun b3=>
  aqP (b3.ak==bH.ak)
 else
  aqP aqT
def rb (N:Nat) (x0:List aW) (aD:aW):Option (List aW):=
 aS.lt (x0.length:Int) fun a7=>
 aqU (zN N x0 aD N a7) fun bR=>
 aqU (zA N x0 aD bR) fun ck=>
 if ck=aqQ then
  aqP x0
 else
  aqU (uy x0 bR bR) fun cF=>
  aqU (fV x0 bR (x0.length:Int)) fun cH=>
  aqU (dR ([aD]:List aW) cH) fun cy=>
  if cy.isEmpty=aqQ then
   aqS
  else
   aqU (dR cF cy) fun c6=>
   aqP c6
def H8 (N:Nat) (x0:List aC) (aD:List aU) (aY:List aW) (bD:Int):Option (List aW):=
 aqU (aR aD bD) fun bj=>
 aqU (DU N x0 bj) fun bz=>
 if (bz !=0)=aqQ then
  aqU (aR aD bD) fun bI=>
  aqU (rb N aY (aW.mk bI.ak bz)) fun bR=>
  aqP bR
 else
  aqP aY
def w0 (N:Nat) (x0:List aC) (aD:List aU):Nat->(List aW)->Int->Option (List aW)
 |0,_,_=>aqS
 |n+1,aY,bD=>
  if (decide (bD<(aD.length:Int)))=aqQ then
   aqU (H8 N x0 aD aY bD) fun b3=>
   aS.lt (aq0 .i64 (bD+1)) fun ck=>
   w0 N x0 aD n b3 ck
  else
   aqP aY
def DV (N:Nat) (x0:List aC) (aD:List aU):Option (List aW×Int):=
 aqU (xI N x0 aD) fun a7=>
 if (!a7)=aqQ then
  aqP ([],1)
 else
  aqU (w0 N x0 aD N [] 0) fun cF=>
  aqP (cF,0)
def xc (N:Nat) (x0:List aW) (aD:Int):Nat->Int->Option (Sum (Unit) (Int))
 |0,_=>aqS
 |n+1,bb=>
  if (decide (bb<(x0.length:Int)))=aqQ then
   aqU (aR x0 bb) fun a7=>
   if (a7.ak==aD)=aqQ then
    aqU (aR x0 bb) fun bj=>
    aqP (aq1 bj.eo)
   else
    aS.lt (aq0 .i64 (bb+1)) fun bz=>
    xc N x0 aD n bz
  else
   aqP (aq2 ())
def xL (N:Nat) (x0:List aW) (aD:Int):Option Int:=
 aqU (xc N x0 aD N 0) fun bI=>
 match bI with
 |aq2 bR=>
  aqP 0
 |aq1 b3=>
  aqP b3
def zD (N:Nat) (self:dI->Int->Int->(List (dC×Bool))->Option (Int×dI×(List (dC×Bool)))) (x0:dI) (bD:Int):Option Bool:=
 if (decide (bD<0))=aqQ then
  aqP aqQ
 else
  aqU (ra N x0.r bD) fun bI=>
  aqP bI
def Dh (N:Nat) (self:dI->Int->Int->(List (dC×Bool))->Option (Int×dI×(List (dC×Bool)))) (b7:Int) (b1:aC):Option Bool:=
 if (b1.kind==2)=aqQ then
  aS.lt (b7==b1.a) fun cF=>
  aqP cF
 else
  aqP aqT
def Di (N:Nat) (self:dI->Int->Int->(List (dC×Bool))->Option (Int×dI×(List (dC×Bool)))) (b7:Int) (b1:aC):Option Bool:=
 if (b1.kind==2)=aqQ then
  aS.lt (b7==b1.b) fun dz=>
  aqP dz
 else
  aqP aqT
def zE (N:Nat) (self:dI->Int->Int->(List (dC×Bool))->Option (Int×dI×(List (dC×Bool)))) (x0:dI) (b7:Int) (bD:Int) (b1:aC) (cJ:Int) (sZ:List (dC×Bool)):Option (Sum (dI×Int×(List (dC×Bool))) (dI×Int×(List (dC×Bool)))):=
 aS.lt (b1.kind==1) fun ck=>
 if ck=aqQ then
  aqP (aq1 ((dI.mk x0.l x0.r x0.cS []),22,sZ))
 else
  aqU (Dh N self b7 b1) fun cH=>
  if cH=aqQ then
   aqU (self (dI.mk x0.l x0.r x0.cS []) bD b1.b sZ) fun cy=>
   if (cy.1 !=0)=aqQ then
    aqP (aq1 ((dI.mk cy.2.1.l cy.2.1.r cy.2.1.cS []),cy.1,cy.2.2))
   else
    aqU (self (dI.mk cy.2.1.l cy.2.1.r cy.2.1.cS []) bD b1.c cy.2.2) fun c6=>
    aqP (aq1 ((dI.mk c6.2.1.l c6.2.1.r c6.2.1.cS []),c6.1,c6.2.2))
  else
   aqU (Di N self b7 b1) fun dP=>
   if dP=aqQ then
    aqP (aq2 ((dI.mk x0.l x0.r x0.cS []),2,sZ))
   else
    aS.lt (b1.kind==2) fun ep=>
    if ep=aqQ then
     aqP (aq2 ((dI.mk x0.l x0.r x0.cS []),1,sZ))
    else
     aqP (aq2 ((dI.mk x0.l x0.r x0.cS []),cJ,sZ))
def Dj (N:Nat) (self:dI->Int->Int->(List (dC×Bool))->Option (Int×dI×(List (dC×Bool)))) (cJ:Int) (cP:Int):Option Bool:=
 if (cP !=0)=aqQ then
  aqP (cP !=cJ)
 else
  aqP aqT
def lB (N:Nat):Nat->dI->Int->Int->(List (dC×Bool))->Option (Int×dI×(List (dC×Bool)))
 |0,_,_,_,_=>aqS
 |c9+1,x0,aD,b7,sZ=>
  aS.lt (bs sZ (dC.mk aD b7)) fun a7=>
  if (a7.getD aqT)=aqQ then
   aqP (0,(dI.mk x0.l x0.r x0.cS []),sZ)
  else
   aS.lt (dV sZ (dC.mk aD b7) aqQ) fun bj=>
   aqU (q9 N x0.l aD b7) fun bz=>
   aqU (zD N (lB N c9) (dI.mk x0.l x0.r x0.cS []) bz) fun bR=>
   if bR=aqQ then
    aqP (0,(dI.mk x0.l x0.r x0.cS []),bj)
   else
    aqU (aR x0.l bz) fun b3=>
    aqU (zE N (lB N c9) (dI.mk x0.l x0.r x0.cS []) b7 bz b3 4 bj) fun eM=>
    match eM with
    |aq2 eb=>
     aqU (xL N eb.1.cS bz) fun fm=>
     aqU (Dj N (lB N c9) eb.2.1 fm) fun e7=>
     if e7=aqQ then
      aqP (17,(dI.mk eb.1.l eb.1.r eb.1.cS []),eb.2.2)
     else
      aqU (rb N eb.1.cS (aW.mk bz eb.2.1)) fun gf=>
      aqP (0,(dI.mk eb.1.l eb.1.r gf []),eb.2.2)
    |aq1 gY=>
     aqP (gY.2.1,(dI.mk gY.1.l gY.1.r gY.1.cS []),gY.2.2)
def Ib (N:Nat) (cj:aC) (cP:Int) (apr:Bool):Option Int:=
 if apr=aqQ then
  aqP cj.c
 else
  aqP cP
def PO (N:Nat) (x0:List aC) (aD:List aU) (b1:dI) (cJ:Int) (DI:List (dC×Bool)):Option (Sum (dI×(List (dC×Bool))) (Int)):=
 aqU (aR aD cJ) fun bj=>
 aqU (aR x0 bj.ak) fun bz=>
 if (bz.kind !=2)=aqQ then
  aqP (aq2 ((dI.mk b1.l b1.r b1.cS []),DI))
 else
  aqU (aR aD cJ) fun bI=>
  aqU (DU N x0 bI) fun bR=>
  aqU (Ib N bz bz.b (bR==1)) fun b3=>
  aqU (aR aD cJ) fun ck=>
  aqU (lB N N (dI.mk b1.l b1.r b1.cS []) ck.ak b3 DI) fun cF=>
  if (cF.1 !=0)=aqQ then
   aqP (aq1 cF.1)
  else
   aqP (aq2 ((dI.mk cF.2.1.l cF.2.1.r cF.2.1.cS []),cF.2.2))
def sN (N:Nat) (x0:List aC) (aD:List aU):Nat->dI->Int->(List (dC×Bool))->Option (Sum (dI×(List (dC×Bool))) (Int))
 |0,_,_,_=>aqS
 |n+1,b1,cJ,DI=>
  if (decide (cJ<(aD.length:Int)))=aqQ then
   aqU (PO N x0 aD (dI.mk b1.l b1.r b1.cS []) cJ DI) fun cH=>
   match cH with
   |aq2 cy=>
    aS.lt (aq0 .i64 (cJ+1)) fun c6=>
    sN N x0 aD n (dI.mk cy.1.l cy.1.r cy.1.cS []) c6 cy.2
   |aq1 dz=>
    aqP (aq1 dz)
  else
   aqP (aq2 ((dI.mk b1.l b1.r b1.cS []),DI))
def w1 (N:Nat) (b1:dI):Nat->(List aW)->Int->Option (List aW)
 |0,_,_=>aqS
 |n+1,aY,eB=>
  if (decide (eB<(b1.cS.length:Int)))=aqQ then
   aqU (aR b1.cS eB) fun eM=>
   aqU (rb N aY eM) fun eb=>
   aS.lt (aq0 .i64 (eB+1)) fun fm=>
   w1 N b1 n eb fm
  else
   aqP aY
def pq (N:Nat) (x0:List aC) (aD:List aU):Option (List aW×Int):=
 aqU (DV N x0 aD) fun a7=>
 if (a7.2 !=0)=aqQ then
  aqP ([],a7.2)
 else
  aqU (sN N x0 aD N (dI.mk x0 aD [] []) 0 []) fun dP=>
  match dP with
  |aq2 ep=>
   aqU (w1 N (dI.mk ep.1.l ep.1.r ep.1.cS []) N a7.1 0) fun e7=>
   aqP (e7,0)
  |aq1 gf=>
   aqP ([],gf)
def sU (N:Nat) (x0:List bf) (aD:Int):Nat->Int->Option (Sum (Unit) (Int))
 |0,_=>aqS
 |n+1,bb=>
  if (decide (bb<(x0.length:Int)))=aqQ then
   aqU (aR x0 bb) fun a7=>
   if (a7.gR==aD)=aqQ then
    aqP (aq1 bb)
   else
    aS.lt (aq0 .i64 (bb+1)) fun bj=>
    sU N x0 aD n bj
  else
   aqP (aq2 ())
def Ap (N:Nat) (x0:List bf) (aD:Int):Option Int:=
 aqU (sU N x0 aD N 0) fun bz=>
 match bz with
 |aq2 bI=>
  aqP (-1)
 |aq1 bR=>
  aqP bR
def sz (N:Nat) (x0:List aW) (aD:List aW):Nat->Int->Option (Sum (Unit) (Bool))
 |0,_=>aqS
 |n+1,bb=>
  if (decide (bb<(x0.length:Int)))=aqQ then
   aqU (aR x0 bb) fun a7=>
   aqU (aR aD bb) fun bj=>
   if (!(decide (a7=bj)))=aqQ then
    aqP (aq1 aqT)
   else
    aS.lt (aq0 .i64 (bb+1)) fun bz=>
    sz N x0 aD n bz
  else
   aqP (aq2 ())
def DP (N:Nat) (x0:List aW) (aD:List aW):Option Bool:=
 if ((x0.length:Int) !=(aD.length:Int))=aqQ then
  aqP aqT
 else
  aqU (sz N x0 aD N 0) fun bI=>
  match bI with
  |aq2 bR=>
   aqP aqQ
  |aq1 b3=>
   aqP b3
def sH (N:Nat) (b7:bf) (bH:bf):Nat->Int->Option (Sum (Unit) (Bool))
 |0,_=>aqS
 |n+1,bb=>
  if (decide (bb<(b7.dW.length:Int)))=aqQ then
   aqU (aR b7.dW bb) fun a7=>
   aqU (ra N bH.dW a7.ak) fun bj=>
   if bj=aqQ then
    aqP (aq1 aqQ)
   else
    aS.lt (aq0 .i64 (bb+1)) fun bz=>
    sH N b7 bH n bz
  else
   aqP (aq2 ())
def H9 (N:Nat) (b7:bf) (bH:bf) (aY:Int) (bD:Int):Option Bool:=
 aqU (aR b7.dH aY) fun b3=>
 aqU (aR bH.dH bD) fun ck=>
 if (b3.ak==ck.ak)=aqQ then
  aqU (aR b7.dH aY) fun cF=>
  aqU (aR bH.dH bD) fun cH=>
  aqP (cF.eo !=cH.eo)
 else
  aqP aqT
def sJ (N:Nat) (b7:bf) (bH:bf) (aY:Int):Nat->Int->Option (Sum (Unit) (Bool))
 |0,_=>aqS
 |n+1,bD=>
  if (decide (bD<(bH.dH.length:Int)))=aqQ then
   aqU (H9 N b7 bH aY bD) fun cy=>
   if cy=aqQ then
    aqP (aq1 aqQ)
   else
    aS.lt (aq0 .i64 (bD+1)) fun c6=>
    sJ N b7 bH aY n c6
  else
   aqP (aq2 ())
def sI (N:Nat) (b7:bf) (bH:bf):Nat->Int->Option (Sum (Unit) (Bool))
 |0,_=>aqS
 |n+1,aY=>
  if (decide (aY<(b7.dH.length:Int)))=aqQ then
   aqU (sJ N b7 bH aY N 0) fun dz=>
   match dz with
   |aq2 dP=>
    aS.lt (aq0 .i64 (aY+1)) fun ep=>
    sI N b7 bH n ep
   |aq1 eM=>
    aqP (aq1 eM)
  else
   aqP (aq2 ())
def DW (N:Nat) (x0:bf) (aD:bf):Option Bool:=
 aqU (sH N x0 aD N 0) fun bI=>
 match bI with
 |aq2 bR=>
  aqU (sI N x0 aD N 0) fun eb=>
  match eb with
  |aq2 fm=>
   aqP aqT
  |aq1 e7=>
   aqP e7
 |aq1 gf=>
  aqP gf
def HM (N:Nat) (x0:List aC) (aD:List bf):Option Bool:=
 aqU (uX N x0) fun a7=>
 if (a7 !=0)=aqQ then
  aqP aqQ
 else
  aqP (decide (16<(aD.length:Int)))
def HN (N:Nat) (aD:List bf) (bb:Int) (aY:List aW) (bD:Int):Option Bool:=
 aqU (aR aD bb) fun bR=>
 if (decide (bR.gR<0))=aqQ then
  aqP aqQ
 else
  aqU (aR aD bb) fun b3=>
  aqU (Ap N aD b3.gR) fun ck=>
  if (ck !=bb)=aqQ then
   aqP aqQ
  else
   if (bD !=0)=aqQ then
    aqP aqQ
   else
    aqU (aR aD bb) fun cF=>
    aqU (DP N cF.dH aY) fun cH=>
    aqP (!cH)
def w7 (N:Nat) (aD:List bf) (bb:Int):Nat->Int->Option (Sum (Unit) (Bool))
 |0,_=>aqS
 |n+1,b1=>
  if (decide (b1<bb))=aqQ then
   aqU (aR aD b1) fun c6=>
   aqU (aR aD bb) fun dz=>
   aqU (DW N c6 dz) fun dP=>
   if dP=aqQ then
    aqP (aq1 aqT)
   else
    aS.lt (aq0 .i64 (b1+1)) fun ep=>
    w7 N aD bb n ep
  else
   aqP (aq2 ())
def sT (N:Nat) (x0:List aC) (aD:List bf):Nat->Int->Option (Sum (Unit) (Bool))
 |0,_=>aqS
 |n+1,bb=>
  if (decide (bb<(aD.length:Int)))=aqQ then
   aqU (aR aD bb) fun bz=>
   aqU (pq N x0 bz.dW) fun bI=>
   aqU (HN N aD bb bI.1 bI.2) fun cy=>
   if cy=aqQ then
    aqP (aq1 aqT)
   else
    aqU (w7 N aD bb N 0) fun eM=>
    match eM with
    |aq2 eb=>
     aS.lt (aq0 .i64 (bb+1)) fun fm=>
     sT N x0 aD n fm
    |aq1 e7=>
     aqP (aq1 e7)
  else
   aqP (aq2 ())
def I4 (N:Nat) (x0:List aC) (aD:List bf):Option Bool:=
 aqU (HM N x0 aD) fun bj=>
 if bj=aqQ then
  aqP aqT
 else
  aqU (sT N x0 aD N 0) fun gf=>
  match gf with
  |aq2 gY=>
   aqP aqQ
  |aq1 je=>
   aqP je
def D2 (N:Nat) (x0:List aC) (aD:List bf):Option Int:=
 aqU (uX N x0) fun a7=>
 if (a7 !=0)=aqQ then
  aqP a7
 else
  aqU (I4 N x0 aD) fun bj=>
  if (!bj)=aqQ then
   aqP 1
  else
   aqP 0
def w4 (N:Nat) (x0:List bf):Nat->(List bf)->Int->Option (List bf)
 |0,_,_=>aqS
 |n+1,bH,b0=>
  if (decide (b0<(x0.length:Int)))=aqQ then
   aqU (aR x0 b0) fun a7=>
   aqU (aR x0 b0) fun bj=>
   aqU (dR ([]:List aU) bj.dW) fun bz=>
   aqU (aR x0 b0) fun bI=>
   aqU (dR ([]:List aW) bI.dH) fun bR=>
   aqU (dR bH ([(bf.mk a7.gR bz bR)]:List bf)) fun b3=>
   aS.lt (aq0 .i64 (b0+1)) fun ck=>
   w4 N x0 n b3 ck
  else
   aqP bH
def D0 (N:Nat) (x0:List bf):Option (List bf):=
 aqU (w4 N x0 N [] 0) fun cF=>
 aqP cF
def IY (N:Nat) (x0:List aC) (aD:List bf) (b7:Int):Option (List bf×Int):=
 aqU (D2 N x0 aD) fun a7=>
 if (a7 !=0)=aqQ then
  aqP ([],a7)
 else
  aqU (Ap N aD b7) fun bj=>
  if (decide (bj<0))=aqQ then
   aqP ([],13)
  else
   aqU (D0 N aD) fun bz=>
   aqU (uy bz bj bj) fun bI=>
   aqU (fV bz (aq0 .i64 (bj+1)) (bz.length:Int)) fun bR=>
   aqU (dR bI bR) fun b3=>
   if bR.isEmpty=aqQ then
    aqP (b3,0)
   else
    aqP (b3,0)
def D4 (N:Nat) (x0:List aC) (aD:aU):Option (List Int):=
 if (decide (aD.bm<0))=aqQ then
  aqU (ps N x0 aD.ak) fun a7=>
  aqP a7
 else
  aqU (xF N x0 aD.ak aD.bm) fun bj=>
  aqP bj
def Dr (N:Nat) (b1:Int) (cJ:Bool) (fl:Int) (eB:Bool):Option Bool:=
 if eB=aqQ then
  if (!cJ)=aqQ then
   aqP aqQ
  else
   aqP (decide (fl<b1))
 else
  aqP aqT
def HX (N:Nat) (x0:List aC) (aD:List (Step×Int)) (bb:aU) (b1:Int) (cJ:Bool) (cj:List Int) (cP:Int):Option (Int×Bool):=
 aqU (aR cj cP) fun bj=>
 aqU (aR cj cP) fun bz=>
 aqU (q9 N x0 bb.ak bz) fun bI=>
 aqU (aR cj cP) fun bR=>
 aqU (aR cj cP) fun b3=>
 aS.lt (bs aD (Step.mk bI b3)) fun ck=>
 aS.lt (ck.getD 0) fun cF=>
 aqU (Dr N b1 cJ cF ck.isSome) fun cH=>
 if cH=aqQ then
  aqP (cF,aqQ)
 else
  aqP (b1,cJ)
def xb (N:Nat) (x0:List aC) (aD:List (Step×Int)) (bb:aU) (cj:List Int):Nat->Int->Bool->Int->Option (Int×Bool)
 |0,_,_,_=>aqS
 |n+1,b1,cJ,cP=>
  if (decide (cP<(cj.length:Int)))=aqQ then
   aqU (HX N x0 aD bb b1 cJ cj cP) fun cy=>
   aS.lt (aq0 .i64 (cP+1)) fun c6=>
   xb N x0 aD bb cj n cy.1 cy.2 c6
  else
   aqP (b1,cJ)
def D3 (N:Nat) (x0:List aC) (aD:List (Step×Int)) (b7:aU):Option (Int×Bool):=
 aqU (D4 N x0 b7) fun a7=>
 aqU (xb N x0 aD b7 a7 N 0 aqT 0) fun dz=>
 aqP (dz.1,dz.2)
def wX (N:Nat) (aD:Int) (aY:List Int):Nat->(List (Step×Int))->Int->Option (List (Step×Int))
 |0,_,_=>aqS
 |n+1,bb,bD=>
  if (decide (bD<(aY.length:Int)))=aqQ then
   aqU (aR aY bD) fun bj=>
   aqU (aR aY bD) fun bz=>
   aS.lt (dV bb (Step.mk aD bz) 0) fun bI=>
   aS.lt (aq0 .i64 (bD+1)) fun bR=>
   wX N aD aY n bI bR
  else
   aqP bb
def Dm (N:Nat) (fl:Int) (eB:Bool) (ek:Int) (e0:Bool):Option Bool:=
 if eB=aqQ then
  if (!e0)=aqQ then
   aqP aqQ
  else
   aqP (decide ((aq0 .i64 (fl+1))<ek))
 else
  aqP aqT
def H0 (N:Nat) (x0:List aC) (aD:Int) (bb:List (Step×Int)) (b1:Bool) (cJ:Int) (cj:List Int) (cP:Int):Option ((List (Step×Int))×Bool):=
 if (cJ==aD)=aqQ then
  aqP (bb,b1)
 else
  aqU (aR cj cP) fun cF=>
  aqU (aR cj cP) fun cH=>
  aqU (D3 N x0 bb (aU.mk cJ cH 0)) fun cy=>
  aqU (aR cj cP) fun c6=>
  aqU (aR cj cP) fun dz=>
  aS.lt (bs bb (Step.mk cJ dz)) fun dP=>
  aS.lt (dP.getD 0) fun ep=>
  aqU (Dm N cy.1 cy.2 ep dP.isSome) fun eM=>
  if eM=aqQ then
   aqU (aR cj cP) fun eb=>
   aqU (aR cj cP) fun fm=>
   aS.lt (dV bb (Step.mk cJ fm) (aq0 .i64 (cy.1+1))) fun e7=>
   aqP (e7,aqQ)
  else
   aqP (bb,b1)
def wZ (N:Nat) (x0:List aC) (aD:Int) (cJ:Int) (cj:List Int):Nat->(List (Step×Int))->Bool->Int->Option ((List (Step×Int))×Bool)
 |0,_,_,_=>aqS
 |n+1,bb,b1,cP=>
  if (decide (cP<(cj.length:Int)))=aqQ then
   aqU (H0 N x0 aD bb b1 cJ cj cP) fun gf=>
   aS.lt (aq0 .i64 (cP+1)) fun gY=>
   wZ N x0 aD cJ cj n gf.1 gf.2 gY
  else
   aqP (bb,b1)
def wY (N:Nat) (x0:List aC) (aD:Int):Nat->(List (Step×Int))->Bool->Int->Option ((List (Step×Int))×Bool)
 |0,_,_,_=>aqS
 |n+1,bb,b1,cJ=>
  if (decide (cJ<(x0.length:Int)))=aqQ then
   aqU (ps N x0 cJ) fun ck=>
   aqU (wZ N x0 aD cJ ck N bb b1 0) fun je=>
   aS.lt (aq0 .i64 (cJ+1)) fun iU=>
   wY N x0 aD n je.1 je.2 iU
  else
   aqP (bb,b1)
def zH (N:Nat) (x0:List aC) (aD:Int):Nat->(List (Step×Int))->Bool->Option (List (Step×Int))
 |0,_,_=>aqS
 |n+1,bb,b1=>
  if b1=aqQ then
   aqU (wY N x0 aD N bb aqT 0) fun h7=>
   zH N x0 aD n h7.1 h7.2
  else
   aqP bb
def IX (N:Nat) (x0:List aC) (aD:Int):Option ((List (Step×Int))):=
 aqU (ps N x0 aD) fun a7=>
 aqU (wX N aD a7 N [] 0) fun b3=>
 aqU (zH N x0 aD N b3 aqQ) fun kz=>
 aqP kz
def HU (N:Nat) (x0:List aC) (aD:Int) (b7:Int):Option Bool:=
 aqU (xJ N x0 aD) fun bj=>
 if (!bj)=aqQ then
  aqP aqQ
 else
  aqU (xJ N x0 b7) fun bz=>
  if (!bz)=aqQ then
   aqP aqQ
  else
   aqP (aD==b7)
def HW (N:Nat) (cj:aU) (cP:Int) (ek:List Int) (e0:Int) (eK:Int) (hP:Int) (xv:Int) (qh:Bool):Option Bool:=
 if qh=aqQ then
  if (xv==cP)=aqQ then
   if (decide (e0<0))=aqQ then
    aqP aqQ
   else
    if (decide (hP<e0))=aqQ then
     aqP aqQ
    else
     if (hP==e0)=aqQ then
      aqU (aR ek eK) fun eM=>
      aqU (aR ek eK) fun eb=>
      aqP (decide (eb<cj.out))
     else
      aqP aqT
  else
   aqP aqT
 else
  aqP aqT
def HV (N:Nat) (x0:List aC) (cJ:List (Step×Int)) (cj:aU) (cP:Int) (ek:List Int) (e0:Int) (eK:Int):Option (aU×Int):=
 aqU (aR ek eK) fun cF=>
 aqU (aR ek eK) fun cH=>
 aqU (q9 N x0 cj.ak cH) fun cy=>
 aqU (aR ek eK) fun c6=>
 aqU (aR ek eK) fun dz=>
 aS.lt (bs cJ (Step.mk cy dz)) fun dP=>
 aS.lt (dP.getD 0) fun ep=>
 aqU (HW N cj cP ek e0 eK cy ep dP.isSome) fun fm=>
 if fm=aqQ then
  aqU (aR ek eK) fun e7=>
  aqU (aR ek eK) fun gf=>
  aqP ((aU.mk cj.ak cj.bm gf),cy)
 else
  aqP (cj,e0)
def xa (N:Nat) (x0:List aC) (cJ:List (Step×Int)) (cP:Int) (ek:List Int):Nat->aU->Int->Int->Option (aU×Int)
 |0,_,_,_=>aqS
 |n+1,cj,e0,eK=>
  if (decide (eK<(ek.length:Int)))=aqQ then
   aqU (HV N x0 cJ cj cP ek e0 eK) fun gY=>
   aS.lt (aq0 .i64 (eK+1)) fun je=>
   xa N x0 cJ cP ek n gY.1 gY.2 je
  else
   aqP (cj,e0)
def w9 (N:Nat) (x0:List aC) (cJ:List (Step×Int)):Nat->aU->Int->(List aU)->Option (Sum (aU×List aU) (Int))
 |0,_,_,_=>aqS
 |n+1,cj,cP,eB=>
  if (decide (0<=cP))=aqQ then
   aqU (D4 N x0 (aU.mk cj.ak cj.bm (-1))) fun ck=>
   aqU (xa N x0 cJ cP ck N (aU.mk cj.ak cj.bm (-1)) (-1) 0) fun iU=>
   aqU (ra N eB iU.1.ak) fun h7=>
   if h7=aqQ then
    aqP (aq1 17)
   else
    aqU (dR eB ([iU.1]:List aU)) fun kz=>
    aS.lt (aq0 .i64 (cP - 1)) fun jf=>
    w9 N x0 cJ n (aU.mk iU.2 iU.1.out 0) jf kz
  else
   aqP (aq2 (cj,eB))
def nH (N:Nat) (x0:List aC) (aD:Int) (b7:Int):Option (List aU×Int):=
 aqU (uX N x0) fun a7=>
 if (a7 !=0)=aqQ then
  aqP ([],a7)
 else
  aqU (HU N x0 aD b7) fun bI=>
  if bI=aqQ then
   aqP ([],2)
  else
   aqU (IX N x0 b7) fun bR=>
   aqU (D3 N x0 bR (aU.mk aD (-1) 0)) fun b3=>
   if (!b3.2)=aqQ then
    aqP ([],15)
   else
    aqU (w9 N x0 bR N (aU.mk aD (-1) 0) b3.1 []) fun kY=>
    match kY with
    |aq2 mP=>
     aqU (ra N mP.2 b7) fun ox=>
     if ox=aqQ then
      aqP ([],17)
     else
      aqU (dR mP.2 ([(aU.mk b7 mP.1.bm (-1))]:List aU)) fun qi=>
      aqP (qi,0)
    |aq1 q8=>
     aqP ([],q8)
def st (N:Nat) (aD:List bf) (eK:bf):Nat->Int->Option (Sum (Unit) (Int))
 |0,_=>aqS
 |n+1,hP=>
  if (decide (hP<(aD.length:Int)))=aqQ then
   aqU (aR aD hP) fun cF=>
   aqU (DW N cF eK) fun cH=>
   if cH=aqQ then
    aqP (aq1 23)
   else
    aS.lt (aq0 .i64 (hP+1)) fun cy=>
    st N aD eK n cy
  else
   aqP (aq2 ())
def D6 (N:Nat) (x0:List aC) (aD:List bf) (b7:Int) (bH:Int) (b0:Int):Option (List bf×Int):=
 aqU (D2 N x0 aD) fun a7=>
 if (a7 !=0)=aqQ then
  aqP ([],a7)
 else
  aS.lt (decide (b7<0)) fun bj=>
  if bj=aqQ then
   aqP ([],2)
  else
   aqU (Ap N aD b7) fun bz=>
   aS.lt (decide (0<=bz)) fun bI=>
   if bI=aqQ then
    aqP ([],8)
   else
    aS.lt ((aD.length:Int)==16) fun bR=>
    if bR=aqQ then
     aqP ([],18)
    else
     aqU (nH N x0 bH b0) fun b3=>
     if (b3.2 !=0)=aqQ then
      aqP ([],b3.2)
     else
      aqU (pq N x0 b3.1) fun ck=>
      if (ck.2 !=0)=aqQ then
       aqP ([],ck.2)
      else
       aqU (st N aD (bf.mk b7 b3.1 ck.1) N 0) fun c6=>
       match c6 with
       |aq2 dz=>
        aqU (D0 N aD) fun dP=>
        aqU (dR dP ([(bf.mk b7 b3.1 ck.1)]:List bf)) fun ep=>
        aqP (ep,0)
       |aq1 eM=>
        aqP ([],eM)
def Ii (N:Nat) (x0:List aC) (aD:List Act) (bb:List bf) (aY:Int) (bD:List bf) (b1:Int) (apn:Bool):Option (List bf×Int):=
 if apn=aqQ then
  aqU (aR aD aY) fun bI=>
  aqU (aR aD aY) fun bR=>
  aqU (aR aD aY) fun b3=>
  aqU (D6 N x0 bb bI.id bR.from_ b3.to) fun ck=>
  aqP (ck.1,ck.2)
 else
  aqP (bD,b1)
def Ih (N:Nat) (x0:List aC) (aD:List Act) (bb:List bf) (aY:Int):Option (List bf):=
 aqU (aR aD aY) fun a7=>
 aqU (IY N x0 bb a7.id) fun bj=>
 aqU (aR aD aY) fun bz=>
 aqU (Ii N x0 aD bb aY bj.1 bj.2 bz.set) fun cF=>
 if (cF.2==0)=aqQ then
  aqP cF.1
 else
  aqP bb
def w3 (N:Nat) (x0:List aC) (aD:List Act):Nat->(List bf)->Int->Option (List bf)
 |0,_,_=>aqS
 |n+1,bb,aY=>
  if (decide (aY<(aD.length:Int)))=aqQ then
   aqU (Ih N x0 aD bb aY) fun cH=>
   aS.lt (aq0 .i64 (aY+1)) fun cy=>
   w3 N x0 aD n cH cy
  else
   aqP bb
def DZ (N:Nat) (x0:List aC) (aD:List Act):Option (List bf):=
 aqU (w3 N x0 aD N [] 0) fun c6=>
 aqP c6
def P9 (N:Nat) (b0:Int) (bb:Bool):Option Bool:=
 if bb=aqQ then
  aqP bb
 else
  aS.lt (b0==3) fun bj=>
  aqP bj
def xG (N:Nat) (x0:aC):Option (List Int):=
 aS.lt (x0.kind==1) fun a7=>
 aqU (P9 N x0.kind a7) fun bz=>
 if bz=aqQ then
  aqP ([x0.a,x0.b]:List Int)
 else
  aS.lt (x0.kind==2) fun bI=>
  if bI=aqQ then
   aqP ([x0.a,x0.b,x0.c]:List Int)
  else
   aqP []
def Qa (N:Nat) (x0:List UInt8):Option Bool:=
 if (decide ((x0.length:Int)<1))=aqQ then
  aqP aqQ
 else
  aqP (decide (12<(x0.length:Int)))
def Ij (N:Nat) (x0:List UInt8) (bH:Int):Option Bool:=
 aqU (aR x0 bH) fun bj=>
 if (decide ((asc bj:Int)<97))=aqQ then
  aqU (aR x0 bH) fun bz=>
  if (decide ((asc bz:Int)<48))=aqQ then
   aqP aqQ
  else
   aqU (aR x0 bH) fun bI=>
   aqP (decide (57<(asc bI:Int)))
 else
  aqU (aR x0 bH) fun bR=>
  if (decide (122<(asc bR:Int)))=aqQ then
   aqU (aR x0 bH) fun b3=>
   if (decide ((asc b3:Int)<48))=aqQ then
    aqP aqQ
   else
    aqU (aR x0 bH) fun ck=>
    aqP (decide (57<(asc ck:Int)))
  else
   aqP aqT
def uB (N:Nat) (x0:List UInt8) (eB:Int):Nat->Int->Option (Sum (Unit) (Bool))
 |0,_=>aqS
 |n+1,ek=>
  if (decide (ek<eB))=aqQ then
   aqU (Ij N x0 ek) fun cF=>
   if cF=aqQ then
    aqP (aq1 aqT)
   else
    uB N x0 eB n (aq0 .i64 (ek+1))
  else
   aqP (aq2 ())
def I2 (N:Nat) (x0:List UInt8):Option Bool:=
 aqU (Qa N x0) fun a7=>
 if a7=aqQ then
  aqP aqT
 else
  aqU (uB N x0 (x0.length:Int) N 0) fun cH=>
  match cH with
  |aq2 cy=>
   aqP aqQ
  |aq1 c6=>
   aqP c6
def PG (N:Nat) (aD:aC) (bH:List Int):Option Bool:=
 o1 bH fun bj=>
 if bj=aqQ then
  aqP aqQ
 else
  aqU (I2 N aD.name) fun bz=>
  aqP (!bz)
def PH (N:Nat) (bb:Int):Option Bool:=
 if (decide (bb<0))=aqQ then
  aqP aqQ
 else
  aqP (decide (64<=bb))
def sF (N:Nat) (bb:Int) (xw:List Int) (ZZ:Int):Nat->Int->Option (Sum (Unit) (Bool))
 |0,_=>aqS
 |n+1,Ac=>
  if (decide (Ac<ZZ))=aqQ then
   aqU (aR xw Ac) fun cF=>
   if (bb==cF)=aqQ then
    aqP (aq1 aqT)
   else
    sF N bb xw ZZ n (aq0 .i64 (Ac+1))
  else
   aqP (aq2 ())
def sE (N:Nat) (bH:List Int) (xv:List Int) (qh:Int):Nat->Int->Option (Sum (Unit) (Bool))
 |0,_=>aqS
 |n+1,kX=>
  if (decide (kX<qh))=aqQ then
   aqU (aR xv kX) fun bR=>
   aqU (PH N bR) fun b3=>
   if b3=aqQ then
    aqP (aq1 aqT)
   else
    aqU (fV bH 0 kX) fun ck=>
    aqU (sF N bR ck (ck.length:Int) N 0) fun cH=>
    match cH with
    |aq2 cy=>
     sE N bH xv qh n (aq0 .i64 (kX+1))
    |aq1 c6=>
     aqP (aq1 c6)
  else
   aqP (aq2 ())
def PI (N:Nat) (aD:aC):Option Bool:=
 if (aD.c==0)=aqQ then
  if (decide (1<=aD.length))=aqQ then
   aS.lt (decide (aD.length<=100000)) fun ep=>
   aqP ep
  else
   aqP aqT
 else
  aqP aqT
def PJ (N:Nat) (aD:aC):Option Bool:=
 if (aD.length==0)=aqQ then
  if (aD.kind==2)=aqQ then
   aqP aqQ
  else
   aS.lt (aD.c==0) fun eb=>
   aqP eb
 else
  aqP aqT
def IW (N:Nat) (x0:aC):Option Bool:=
 aqU (xG N x0) fun a7=>
 aqU (PG N x0 a7) fun bI=>
 if bI=aqQ then
  aqP aqT
 else
  aqU (sE N a7 a7 (a7.length:Int) N 0) fun dz=>
  match dz with
  |aq2 dP=>
   if (x0.kind==1)=aqQ then
    aqU (PI N x0) fun eM=>
    aqP eM
   else
    aqU (PJ N x0) fun fm=>
    aqP fm
  |aq1 e7=>
   aqP e7
def PX (N:Nat) (b0:Int) (bb:Bool):Option Bool:=
 if bb=aqQ then
  aqP bb
 else
  aS.lt (b0==3) fun bj=>
  aqP bj
def IT (N:Nat) (x0:aC):Option Unit:=
 aS.lt (x0.kind==1) fun a7=>
 aqU (PX N x0.kind a7) fun bz=>
 if bz=aqQ then
  aqS
 else
  aS.lt (x0.kind==2) fun bI=>
  if bI=aqQ then
   aqS
  else
   aqP ()
def PZ (N:Nat):Option Bool:=
 aqP aqQ
def Zv (N:Nat) (qh:Int):Nat->Int->Option Unit
 |0,_=>aqS
 |n+1,kX=>
  if (decide (kX<qh))=aqQ then
   aqS
  else
   aqP ()
def Zw (N:Nat) (aD:aC):Option Bool:=
 if (aD.c==0)=aqQ then
  if (decide (1<=aD.length))=aqQ then
   aS.lt (decide (aD.length<=100000)) fun bI=>
   aqP bI
  else
   aqP aqT
 else
  aqP aqT
def Zx (N:Nat) (aD:aC):Option Bool:=
 if (aD.length==0)=aqQ then
  if (aD.kind==2)=aqQ then
   aqP aqQ
  else
   aS.lt (aD.c==0) fun b3=>
   aqP b3
 else
  aqP aqT
def QU (N:Nat) (x0:aC):Option Bool:=
 aqU (IT N x0) fun a7=>
 aqU (PZ N) fun bj=>
 if bj=aqQ then
  aqP aqT
 else
  aqU (Zv N (([]:List Int).length:Int) N 0) fun bz=>
  if (x0.kind==1)=aqQ then
   aqU (Zw N x0) fun bR=>
   aqP bR
  else
   aqU (Zx N x0) fun ck=>
   aqP ck
def QW (N:Nat) (x0:aC):Option Bool:=
 FY (QU N x0) (IW N x0)
def sM (N:Nat) (QD:List Int) (ZY:Int):Nat->(List (Int×Int))->Int->Option (Sum ((List (Int×Int))) (Int))
 |0,_,_=>aqS
 |n+1,b0,xw=>
  if (decide (xw<ZY))=aqQ then
   aqU (aR QD xw) fun b3=>
   aqU (aR QD xw) fun ck=>
   aS.lt (bs b0 ck) fun cF=>
   if ((cF.getD 0)==2)=aqQ then
    aqP (aq1 17)
   else
    aS.lt (bs b0 ck) fun cH=>
    aS.lt (dV b0 ck (aq0 .i64 ((cH.getD 0)+1))) fun cy=>
    sM N QD ZY n cy (aq0 .i64 (xw+1))
  else
   aqP (aq2 b0)
def zJ (N:Nat) (ek:List aC) (e0:Int):Nat->(List ((List UInt8)×Bool))->(List (Int×Int))->Int->Option (Sum (Unit) (Int))
 |0,_,_,_=>aqS
 |n+1,bH,b0,eK=>
  if (decide (eK<e0))=aqQ then
   aqU (aR ek eK) fun a7=>
   aqU (QW N a7) fun bj=>
   if (!bj)=aqQ then
    aqP (aq1 1)
   else
    aS.lt (bs bH a7.name) fun bz=>
    if (bz.getD aqT)=aqQ then
     aqP (aq1 8)
    else
     aS.lt (dV bH a7.name aqQ) fun bI=>
     aqU (xG N a7) fun bR=>
     aqU (sM N bR (bR.length:Int) N b0 0) fun c6=>
     match c6 with
     |aq2 dz=>
      zJ N ek e0 n bI dz (aq0 .i64 (eK+1))
     |aq1 dP=>
      aqP (aq1 dP)
  else
   aqP (aq2 ())
def s9 (N:Nat) (x0:List aC):Option Int:=
 if (decide (96<(x0.length:Int)))=aqQ then
  aqP 3
 else
  aqU (zJ N x0 (x0.length:Int) N [] [] 0) fun ep=>
  match ep with
  |aq2 eM=>
   aqP 0
  |aq1 eb=>
   aqP eb
def Ic (N:Nat) (x0:List aC) (aD:Int):Option Bool:=
 if (decide (0<=aD))=aqQ then
  if (decide (aD<(x0.length:Int)))=aqQ then
   aqU (aR x0 aD) fun a7=>
   aS.lt (a7.kind==1) fun bj=>
   aqP bj
  else
   aqP aqT
 else
  aqP aqT
def uV (N:Nat) (x0:List aC) (aD:Int):Option Bool:=
 aqU (Ic N x0 aD) fun bz=>
 aqP bz
def P8 (N:Nat) (x0:List aC) (aD:Int):Option Bool:=
 if (decide (aD<0))=aqQ then
  aqP aqQ
 else
  aqP (decide ((x0.length:Int)<=aD))
def uW (N:Nat) (x0:List aC) (aD:Int):Option (List Int):=
 aqU (P8 N x0 aD) fun a7=>
 if a7=aqQ then
  aqP []
 else
  aqU (aR x0 aD) fun bj=>
  aqU (xG N bj) fun bz=>
  aqP bz
def uK (N:Nat) (x0:List Int) (aD:Int) (bD:Int):Nat->Int->Option (Sum (Unit) (Int))
 |0,_=>aqS
 |n+1,b1=>
  if (decide (b1<bD))=aqQ then
   aqU (aR x0 b1) fun a7=>
   if (aD==a7)=aqQ then
    aqP (aq1 b1)
   else
    uK N x0 aD bD n (aq0 .i64 (b1+1))
  else
   aqP (aq2 ())
def QS (N:Nat) (x0:List Int) (aD:Int):Option Int:=
 aqU (uK N x0 aD (x0.length:Int) N 0) fun bj=>
 match bj with
 |aq2 bz=>
  aqP (-1)
 |aq1 bI=>
  aqP bI
def Ag (N:Nat) (x0:List Int) (aD:Int):Option Bool:=
 aqU (QS N x0 aD) fun a7=>
 aS.lt (decide (0<=a7)) fun bj=>
 aqP bj
def sB (N:Nat) (b7:Int) (bD:Int) (kc:List Int) (po:Int):Nat->Int->Option (Sum (Unit) (Int))
 |0,_=>aqS
 |n+1,s3=>
  if (decide (s3<po))=aqQ then
   aqU (aR kc s3) fun bz=>
   aqU (aR kc s3) fun bI=>
   if (bI==b7)=aqQ then
    aqP (aq1 bD)
   else
    sB N b7 bD kc po n (aq0 .i64 (s3+1))
  else
   aqP (aq2 ())
def PV (N:Nat) (aD:Int) (b7:Int) (cP:List aC) (eB:Int):Option (Sum (Unit) (Int)):=
 aqU (aR cP eB) fun a7=>
 if (eB==aD)=aqQ then
  aqP (aq2 ())
 else
  aqU (xG N a7) fun bj=>
  aqU (sB N b7 eB bj (bj.length:Int) N 0) fun bR=>
  match bR with
  |aq2 b3=>
   aqP (aq2 ())
  |aq1 ck=>
   aqP (aq1 ck)
def uL (N:Nat) (aD:Int) (b7:Int) (cP:List aC) (fl:Int):Nat->Int->Option (Sum (Unit) (Int))
 |0,_=>aqS
 |n+1,eB=>
  if (decide (eB<fl))=aqQ then
   aqU (PV N aD b7 cP eB) fun cF=>
   match cF with
   |aq2 cH=>
    uL N aD b7 cP fl n (aq0 .i64 (eB+1))
   |aq1 cy=>
    aqP (aq1 cy)
  else
   aqP (aq2 ())
def xD (N:Nat) (x0:List aC) (aD:Int) (b7:Int):Option Int:=
 aqU (uL N aD b7 x0 (x0.length:Int) N 0) fun c6=>
 match c6 with
 |aq2 dz=>
  aqP (-1)
 |aq1 dP=>
  aqP dP
def l2 (N:Nat) (b7:Int) (ek:Int):Nat->(List Int)->Int->Option (Sum (Unit) (List Int))
 |0,_,_=>aqS
 |n+1,bD,e0=>
  if (decide (e0<ek))=aqQ then
   aqU (aR bD e0) fun bj=>
   aqU (aR bD e0) fun bz=>
   if (bz !=b7)=aqQ then
    l2 N b7 ek n bD (aq0 .i64 (e0+1))
   else
    aS.lt (decide (0<e0)) fun bI=>
    if bI=aqQ then
     aqU (aR bD 0) fun bR=>
     aqU (aR bD 0) fun b3=>
     aqP (aq1 ([b3]:List Int))
    else
     aqU (fV bD 1 (bD.length:Int)) fun ck=>
     aqP (aq1 ck)
  else
   aqP (aq2 ())
def Al (N:Nat) (x0:List aC) (aD:Int) (b7:Int):Option (List Int):=
 aqU (uW N x0 aD) fun a7=>
 aqU (l2 N b7 (a7.length:Int) N a7 0) fun cF=>
 match cF with
 |aq2 cH=>
  aqP []
 |aq1 cy=>
  aqP cy
def zM (N:Nat) (x0:List aC) (aD:List aU) (bb:Int):Option Bool:=
 if (decide (bb<1))=aqQ then
  aqP aqQ
 else
  aqU (aR aD 0) fun bj=>
  aqU (uV N x0 bj.ak) fun bz=>
  if (!bz)=aqQ then
   aqP aqQ
  else
   aqU (aR aD bb) fun bI=>
   aqU (uV N x0 bI.ak) fun bR=>
   if (!bR)=aqQ then
    aqP aqQ
   else
    aqU (aR aD 0) fun b3=>
    if (b3.bm !=(-1))=aqQ then
     aqP aqQ
    else
     aqU (aR aD bb) fun ck=>
     aqP (ck.out !=(-1))
def HO (N:Nat) (x0:List aC) (aD:List aU) (bb:Int):Option Bool:=
 aqU (aR aD 0) fun cH=>
 aqU (uW N x0 cH.ak) fun cy=>
 aqU (aR aD 0) fun c6=>
 aqU (Ag N cy c6.out) fun dz=>
 if (!dz)=aqQ then
  aqP aqQ
 else
  aqU (aR aD bb) fun dP=>
  aqU (uW N x0 dP.ak) fun ep=>
  aqU (aR aD bb) fun eM=>
  aqU (Ag N ep eM.bm) fun eb=>
  aqP (!eb)
def HP (N:Nat) (x0:List aC) (bD:aU) (b1:aU):Option Bool:=
 if (bD.bm !=b1.out)=aqQ then
  aqP aqQ
 else
  if (decide (bD.ak<0))=aqQ then
   aqP aqQ
  else
   aqU (xD N x0 b1.ak b1.out) fun je=>
   aqP (je !=bD.ak)
def HQ (N:Nat) (x0:List aC) (bb:Int) (aY:Int) (bD:aU):Option Bool:=
 if (decide ((aq0 .i64 (aY+1))<bb))=aqQ then
  aqU (Al N x0 bD.ak bD.bm) fun h7=>
  aqU (Ag N h7 bD.out) fun kz=>
  aqP (!kz)
 else
  aqP aqT
def uF (N:Nat) (x0:List aC) (aD:List aU) (bb:Int) (Z6:List aU) (Z7:Int):Nat->Int->Option (Sum (Unit) (Bool))
 |0,_=>aqS
 |n+1,DL=>
  if (decide (DL<Z7))=aqQ then
   aqU (aR Z6 DL) fun gf=>
   aqU (aR aD DL) fun gY=>
   aqU (HP N x0 gf gY) fun iU=>
   if iU=aqQ then
    aqP (aq1 aqT)
   else
    aqU (HQ N x0 bb DL gf) fun jf=>
    if jf=aqQ then
     aqP (aq1 aqT)
    else
     uF N x0 aD bb Z6 Z7 n (aq0 .i64 (DL+1))
  else
   aqP (aq2 ())
def I5 (N:Nat) (x0:List aC) (aD:List aU):Option Bool:=
 aS.lt (aq0 .i64 ((aD.length:Int) - 1)) fun a7=>
 aqU (zM N x0 aD a7) fun cF=>
 if cF=aqQ then
  aqP aqT
 else
  aqU (HO N x0 aD a7) fun fm=>
  if fm=aqQ then
   aqP aqT
  else
   aqU (fV aD 1 (aD.length:Int)) fun e7=>
   aqU (uF N x0 aD a7 e7 (e7.length:Int) N 0) fun kY=>
   match kY with
   |aq2 mP=>
    aqP aqQ
   |aq1 ox=>
    aqP ox
def sO (N:Nat) (bD:List aU) (b1:Int):Nat->(List (Int×Bool))->Int->Option (Sum (Unit) (Bool))
 |0,_,_=>aqS
 |n+1,bH,cJ=>
  if (decide (cJ<b1))=aqQ then
   aqU (aR bD cJ) fun a7=>
   aS.lt (bs bH a7.ak) fun bj=>
   if (bj.getD aqT)=aqQ then
    aqP (aq1 aqQ)
   else
    aS.lt (dV bH a7.ak aqQ) fun bz=>
    sO N bD b1 n bz (aq0 .i64 (cJ+1))
  else
   aqP (aq2 ())
def DY (N:Nat) (x0:List aU):Option Bool:=
 aqU (sO N x0 (x0.length:Int) N [] 0) fun bI=>
 match bI with
 |aq2 bR=>
  aqP aqT
 |aq1 b3=>
  aqP b3
def PQ (N:Nat) (x0:List aC) (aD:List aU):Option Bool:=
 aqU (s9 N x0) fun a7=>
 if (a7==0)=aqQ then
  aqU (I5 N x0 aD) fun bj=>
  if bj=aqQ then
   aqU (DY N aD) fun bz=>
   aS.lt (!bz) fun bI=>
   aqP bI
  else
   aqP aqT
 else
  aqP aqT
def ta (N:Nat) (x0:List aC) (aD:List aU):Option Bool:=
 aqU (PQ N x0 aD) fun bR=>
 aqP bR
def IV (N:Nat) (x0:Int):Option Bool:=
 aS.lt (x0 !=x0) fun a7=>
 aqP a7
def Ak (N:Nat) (x0:Int) (aD:Int):Option Int:=
 aqU (IV N x0) fun a7=>
 aqU (IV N aD) fun bj=>
 if a7=aqQ then
  if bj=aqQ then
   aqP 0
  else
   aqP (-1)
 else
  if bj=aqQ then
   aqP 1
  else
   if (decide (x0<aD))=aqQ then
    aqP (-1)
   else
    if (decide (aD<x0))=aqQ then
     aqP 1
    else
     aqP 0
def zF (N:Nat) (b1:aU) (cJ:aC):Option Bool:=
 if (cJ.kind==2)=aqQ then
  if (b1.bm==cJ.b)=aqQ then
   aqP aqQ
  else
   aS.lt (b1.out==cJ.b) fun b3=>
   aqP b3
 else
  aqP aqT
def HZ (N:Nat) (x0:List aC) (aY:List aW) (ek:List aU) (eK:Int):Option (List aW):=
 aqU (aR ek eK) fun bj=>
 aqU (aR x0 bj.ak) fun bz=>
 aS.lt (bz.kind==3) fun bI=>
 if bI=aqQ then
  aqU (dR aY ([(aW.mk bj.ak 3)]:List aW)) fun bR=>
  aqP bR
 else
  aqU (zF N bj bz) fun ck=>
  if ck=aqQ then
   aqU (dR aY ([(aW.mk bj.ak 1)]:List aW)) fun cF=>
   aqP cF
  else
   aS.lt (bz.kind==2) fun cH=>
   if cH=aqQ then
    aqU (dR aY ([(aW.mk bj.ak 2)]:List aW)) fun cy=>
    aqP cy
   else
    aqP aY
def q1 (N:Nat) (x0:List aC) (ek:List aU) (e0:Int):Nat->(List aW)->Int->Option (List aW)
 |0,_,_=>aqS
 |n+1,aY,eK=>
  if (decide (eK<e0))=aqQ then
   aqU (HZ N x0 aY ek eK) fun c6=>
   q1 N x0 ek e0 n c6 (aq0 .i64 (eK+1))
  else
   aqP aY
def s7 (N:Nat) (x0:List aC) (aD:List aU):Option (List aW×Int):=
 aqU (ta N x0 aD) fun a7=>
 if (!a7)=aqQ then
  aqP ([],1)
 else
  aqU (q1 N x0 aD (aD.length:Int) N [] 0) fun dz=>
  aqU (@ka aW ⟨(aW.mk 0 0)⟩ (fun (a b:aW)=>fU a.ak b.ak) dz) fun dP=>
  aqP (dP,0)
def wV (N:Nat) (bD:List aU) (b1:Int):Nat->(List (Int×Bool))->Int->Option (List (Int×Bool))
 |0,_,_=>aqS
 |n+1,bH,cJ=>
  if (decide (cJ<b1))=aqQ then
   aqU (aR bD cJ) fun a7=>
   aS.lt (dV bH a7.ak aqQ) fun bj=>
   wV N bD b1 n bj (aq0 .i64 (cJ+1))
  else
   aqP bH
def IS (N:Nat) (x0:List aU):Option ((List (Int×Bool))):=
 aqU (wV N x0 (x0.length:Int) N [] 0) fun bz=>
 aqP bz
def Ig (N:Nat) (b7:aC) (bH:aU):Option Bool:=
 if (bH.bm==b7.b)=aqQ then
  aqP aqQ
 else
  aqP (bH.out==b7.b)
def I1 (N:Nat) (x0:aC) (aD:aU):Option Int:=
 aqU (Ig N x0 aD) fun a7=>
 if a7=aqQ then
  aqP x0.c
 else
  aqP x0.b
def Hx (N:Nat) (aD:Int) (aY:Int) (bD:Bool):Option Bool:=
 if bD=aqQ then
  aqP (aY !=aD)
 else
  aqP aqT
def xC (N:Nat) (x0:Int) (aD:Int) (s0:List (Int×Int)):Option (Int×(List (Int×Int))):=
 aS.lt (bs s0 x0) fun a7=>
 aS.lt (a7.getD 0) fun bj=>
 aqU (Hx N aD bj a7.isSome) fun bz=>
 if bz=aqQ then
  aqP (17,s0)
 else
  aS.lt (dV s0 x0 aD) fun bI=>
  aqP (0,bI)
def pr (N:Nat) (x0:aC) (aD:Int):Option Int:=
 if (aD==x0.b)=aqQ then
  aqP 2
 else
  aqP 1
def Hy (N:Nat) (self:dJ->(List aC)->(List (dJ×Bool))->(List (Int×Bool))->(List (dJ×Bool))->(List (Int×Bool))->(List (Int×Int))->(List (Int×Int))->Option (Int×(List (dJ×Bool))×(List (Int×Int)))) (aY:dJ) (b1:Int) (s0:List (dJ×Bool)) (DG:List (Int×Bool)):Option Bool:=
 aS.lt (bs s0 aY) fun bj=>
 if (bj.getD aqT)=aqQ then
  aqP aqQ
 else
  if (decide (b1<0))=aqQ then
   aqP aqQ
  else
   aS.lt (bs DG b1) fun bz=>
   aqP (bz.getD aqT)
def s6 (N:Nat):Nat->dJ->(List aC)->(List (dJ×Bool))->(List (Int×Bool))->(List (dJ×Bool))->(List (Int×Bool))->(List (Int×Int))->(List (Int×Int))->Option (Int×(List (dJ×Bool))×(List (Int×Int)))
 |0,_,_,_,_,_,_,_,_=>aqS
 |c9+1,x0,aD,b7,bH,s0,DG,aqF,DJ=>
  aqU (xD N aD x0.ak x0.node) fun a7=>
  aqU (Hy N (s6 N c9) x0 a7 s0 DG) fun bI=>
  if bI=aqQ then
   aqP (0,s0,DJ)
  else
   aS.lt (dV s0 x0 aqQ) fun bR=>
   aqU (aR aD a7) fun b3=>
   aS.lt (b3.kind==1) fun ck=>
   if ck=aqQ then
    aqP (22,bR,DJ)
   else
    aS.lt (b3.kind==3) fun cF=>
    if cF=aqQ then
     aqU (xC N a7 4 DJ) fun cH=>
     aqP (cH.1,bR,cH.2)
    else
     aS.lt (x0.node !=b3.a) fun cy=>
     if cy=aqQ then
      aqU (pr N b3 x0.node) fun c6=>
      aqU (xC N a7 c6 DJ) fun dz=>
      aqP (dz.1,bR,dz.2)
     else
      aqU (s6 N c9 (dJ.mk a7 b3.b) aD [] [] bR DG [] DJ) fun dP=>
      if (dP.1 !=0)=aqQ then
       aqP (dP.1,dP.2.1,dP.2.2)
      else
       aqU (s6 N c9 (dJ.mk a7 b3.c) aD [] [] dP.2.1 DG [] dP.2.2) fun ep=>
       aqP (ep.1,ep.2.1,ep.2.2)
def PN (N:Nat) (b7:(List aC)) (kb:List aU) (po:Int) (DH:List (Int×Int)) (IC:List (dJ×Bool)) (ID:List (Int×Bool)):Option (Sum ((List (Int×Int))×(List (dJ×Bool))) (Int)):=
 aqU (aR kb po) fun bj=>
 aqU (aR b7 bj.ak) fun bz=>
 if (bz.kind==2)=aqQ then
  aqU (I1 N bz bj) fun bI=>
  aqU (s6 N N (dJ.mk bj.ak bI) b7 [] [] IC ID [] DH) fun bR=>
  if (bR.1 !=0)=aqQ then
   aqP (aq1 bR.1)
  else
   aqP (aq2 (bR.2.2,bR.2.1))
 else
  aqP (aq2 (DH,IC))
def sL (N:Nat) (b7:(List aC)) (kb:List aU) (kc:Int) (ID:List (Int×Bool)):Nat->(List (Int×Int))->Int->(List (Int×Int))->(List (dJ×Bool))->(List (dJ×Bool))->Option (Sum ((List (Int×Int))×(List (Int×Int))) (Int))
 |0,_,_,_,_,_=>aqS
 |n+1,b1,po,DH,aqG,IC=>
  if (decide (po<kc))=aqQ then
   aqU (PN N b7 kb po DH IC ID) fun b3=>
   match b3 with
   |aq2 ck=>
    sL N b7 kb kc ID n [] (aq0 .i64 (po+1)) ck.1 [] ck.2
   |aq1 cF=>
    aqP (aq1 cF)
  else
   aqP (aq2 ([],DH))
def An (N:Nat) (x0:List aC) (aD:List aU):Option ((List (Int×Int))×Int):=
 aqU (IS N aD) fun a7=>
 aqU (sL N x0 aD (aD.length:Int) a7 N [] 0 [] [] []) fun cH=>
 match cH with
 |aq2 cy=>
  aqP (cy.2,0)
 |aq1 c6=>
  aqP ([],c6)
def Dl (N:Nat) (aY:List aW) (b1:List (Int×Int)):Option (List aW×Int):=
 zR (fun (x:aW)=>x.ak) (fun (a:Int) (b:Int)=>(aW.mk a b)) (@ka aW ⟨(aW.mk 0 0)⟩ (fun (a b:aW)=>fU a.ak b.ak)) aY b1
def nF (N:Nat) (x0:List aC) (aD:List aU):Option (List aW×Int):=
 aqU (s7 N x0 aD) fun a7=>
 if (a7.2 !=0)=aqQ then
  aqP ([],a7.2)
 else
  aqU (An N x0 aD) fun bj=>
  if (bj.2 !=0)=aqQ then
   aqP ([],bj.2)
  else
   aqU (Dl N a7.1 bj.1) fun bz=>
   aqP (bz.1,bz.2)
def sk (N:Nat) (x0:List aW) (aD:List aW) (fl:Int):Nat->Int->Option (Sum (Unit) (Bool))
 |0,_=>aqS
 |n+1,eB=>
  if (decide (eB<fl))=aqQ then
   aqU (aR x0 eB) fun a7=>
   aqU (aR aD eB) fun bj=>
   if (!(decide (a7=bj)))=aqQ then
    aqP (aq1 aqT)
   else
    sk N x0 aD fl n (aq0 .i64 (eB+1))
  else
   aqP (aq2 ())
def IM (N:Nat) (x0:List aW) (aD:List aW):Option Bool:=
 if ((x0.length:Int) !=(aD.length:Int))=aqQ then
  aqP aqT
 else
  aqU (sk N x0 aD (x0.length:Int) N 0) fun bz=>
  match bz with
  |aq2 bI=>
   aqP aqQ
  |aq1 bR=>
   aqP bR
def sv (N:Nat) (aY:aU) (kb:List aU) (kc:Int):Nat->Int->Option (Sum (Unit) (Bool))
 |0,_=>aqS
 |n+1,po=>
  if (decide (po<kc))=aqQ then
   aqU (aR kb po) fun bj=>
   if (aY.ak==bj.ak)=aqQ then
    aqP (aq1 aqQ)
   else
    sv N aY kb kc n (aq0 .i64 (po+1))
  else
   aqP (aq2 ())
def sl (N:Nat) (bH:bf) (ek:List aU) (e0:Int):Nat->Int->Option (Sum (Unit) (Bool))
 |0,_=>aqS
 |n+1,eK=>
  if (decide (eK<e0))=aqQ then
   aqU (aR ek eK) fun a7=>
   aqU (sv N a7 bH.dW (bH.dW.length:Int) N 0) fun bz=>
   match bz with
   |aq2 bI=>
    sl N bH ek e0 n (aq0 .i64 (eK+1))
   |aq1 bR=>
    aqP (aq1 bR)
  else
   aqP (aq2 ())
def HF (N:Nat) (cj:aW) (fl:aW):Option Bool:=
 if (cj.ak==fl.ak)=aqQ then
  aqP (cj.eo !=fl.eo)
 else
  aqP aqT
def sx (N:Nat) (cj:aW) (Z1:List aW) (IE:Int):Nat->Int->Option (Sum (Unit) (Bool))
 |0,_=>aqS
 |n+1,QF=>
  if (decide (QF<IE))=aqQ then
   aqU (aR Z1 QF) fun cH=>
   aqU (HF N cj cH) fun cy=>
   if cy=aqQ then
    aqP (aq1 aqQ)
   else
    sx N cj Z1 IE n (aq0 .i64 (QF+1))
  else
   aqP (aq2 ())
def sw (N:Nat) (bH:bf) (Ac:List aW) (Z0:Int):Nat->Int->Option (Sum (Unit) (Bool))
 |0,_=>aqS
 |n+1,QE=>
  if (decide (QE<Z0))=aqQ then
   aqU (aR Ac QE) fun cF=>
   aqU (sx N cF bH.dH (bH.dH.length:Int) N 0) fun c6=>
   match c6 with
   |aq2 dz=>
    sw N bH Ac Z0 n (aq0 .i64 (QE+1))
   |aq1 dP=>
    aqP (aq1 dP)
  else
   aqP (aq2 ())
def xB (N:Nat) (x0:bf) (aD:bf):Option Bool:=
 aqU (sl N aD x0.dW (x0.dW.length:Int) N 0) fun b3=>
 match b3 with
 |aq2 ck=>
  aqU (sw N aD x0.dH (x0.dH.length:Int) N 0) fun ep=>
  match ep with
  |aq2 eM=>
   aqP aqT
  |aq1 eb=>
   aqP eb
 |aq1 fm=>
  aqP fm
def Hz (N:Nat) (x0:List aC) (aD:List bf):Option Bool:=
 aqU (s9 N x0) fun a7=>
 if (a7 !=0)=aqQ then
  aqP aqQ
 else
  aqP (decide (16<(aD.length:Int)))
def HB (N:Nat) (aY:bf) (bD:List aW) (b1:Int):Option Bool:=
 if (decide (aY.gR<0))=aqQ then
  aqP aqQ
 else
  if (b1 !=0)=aqQ then
   aqP aqQ
  else
   aqU (IM N aY.dH bD) fun bR=>
   aqP (!bR)
def HY (N:Nat) (aY:bf) (cj:bf):Option Bool:=
 if (aY.gR==cj.gR)=aqQ then
  aqP aqQ
 else
  aqU (xB N aY cj) fun cF=>
  aqP cF
def wT (N:Nat) (bb:Int) (aY:bf) (Z2:List bf) (Z3:Int):Nat->Int->Option (Sum (Unit) (Sum (Unit) (Bool)))
 |0,_=>aqS
 |n+1,IF=>
  if (decide (IF<Z3))=aqQ then
   aqU (aR Z2 IF) fun ck=>
   if (decide (bb<=IF))=aqQ then
    aqP (aq2 ())
   else
    aqU (HY N aY ck) fun cH=>
    if cH=aqQ then
     aqP (aq1 (aq1 aqT))
    else
     wT N bb aY Z2 Z3 n (aq0 .i64 (IF+1))
  else
   aqP (aq1 (aq2 ()))
def HA (N:Nat) (x0:List aC) (aD:List bf) (qh:List bf) (kb:Int):Option (Sum (Unit) (Bool)):=
 aqU (aR qh kb) fun bz=>
 aqU (nF N x0 bz.dW) fun bI=>
 aqU (HB N bz bI.1 bI.2) fun b3=>
 if b3=aqQ then
  aqP (aq1 aqT)
 else
  aqU (wT N kb bz aD (aD.length:Int) N 0) fun cy=>
  match cy with
  |aq2 c6=>
   aqP (aq2 ())
  |aq1 (aq2 dz)=>
   aqP (aq2 ())
  |aq1 (aq1 dP)=>
   aqP (aq1 dP)
def sA (N:Nat) (x0:List aC) (aD:List bf) (qh:List bf) (kX:Int):Nat->Int->Option (Sum (Unit) (Bool))
 |0,_=>aqS
 |n+1,kb=>
  if (decide (kb<kX))=aqQ then
   aqU (HA N x0 aD qh kb) fun ep=>
   match ep with
   |aq2 eM=>
    sA N x0 aD qh kX n (aq0 .i64 (kb+1))
   |aq1 eb=>
    aqP (aq1 eb)
  else
   aqP (aq2 ())
def uU (N:Nat) (x0:List aC) (aD:List bf):Option Bool:=
 aqU (Hz N x0 aD) fun bj=>
 if bj=aqQ then
  aqP aqT
 else
  aqU (sA N x0 aD aD (aD.length:Int) N 0) fun fm=>
  match fm with
  |aq2 e7=>
   aqP aqQ
  |aq1 gf=>
   aqP gf
def DQ (N:Nat) (x0:List aC) (aD:List bf):Option Int:=
 aqU (s9 N x0) fun a7=>
 if (a7 !=0)=aqQ then
  aqP a7
 else
  aqU (uU N x0 aD) fun bj=>
  if (!bj)=aqQ then
   aqP 1
  else
   aqP 0
def QT (N:Nat) (x0:bf) (aD:Int):Option Bool:=
 aS.lt (x0.gR==aD) fun a7=>
 aqP a7
def sj (N:Nat) (x0:List bf) (aD:Int) (bD:Int):Nat->Int->Option (Sum (Unit) (Int))
 |0,_=>aqS
 |n+1,b1=>
  if (decide (b1<bD))=aqQ then
   aqU (aR x0 b1) fun a7=>
   aqU (QT N a7 aD) fun bj=>
   if bj=aqQ then
    aqP (aq1 b1)
   else
    sj N x0 aD bD n (aq0 .i64 (b1+1))
  else
   aqP (aq2 ())
def QQ (N:Nat) (x0:List bf) (aD:Int):Option Int:=
 aqU (sj N x0 aD (x0.length:Int) N 0) fun bz=>
 match bz with
 |aq2 bI=>
  aqP (-1)
 |aq1 bR=>
  aqP bR
def DR (N:Nat) (x0:List bf) (aD:Int):Option Int:=
 aqU (QQ N x0 aD) fun a7=>
 aqP a7
def wU (N:Nat) (aD:Int) (kX:List Int) (kb:Int):Nat->(List (Place×Int))->(List Place)->Int->Option ((List (Place×Int))×List Place)
 |0,_,_,_=>aqS
 |n+1,bb,aY,kc=>
  if (decide (kc<kb))=aqQ then
   aqU (aR kX kc) fun bj=>
   aqU (aR kX kc) fun bz=>
   aS.lt (dV bb (Place.mk aD bz) 0) fun bI=>
   aqU (dR aY ([(Place.mk aD bz)]:List Place)) fun bR=>
   wU N aD kX kb n bI bR (aq0 .i64 (kc+1))
  else
   aqP (bb,aY)
def PW (N:Nat) (bb:List (Place×Int)) (aY:List Place) (cj:Place) (cP:Int) (IG:List Int) (DK:Int):Option ((List (Place×Int))×List Place):=
 aqU (aR IG DK) fun dz=>
 aS.lt (bs bb (Place.mk cP dz)) fun dP=>
 aS.lt (dP.getD 0) fun ep=>
 if (!dP.isSome)=aqQ then
  aS.lt (bs bb cj) fun eM=>
  aS.lt (dV bb (Place.mk cP dz) (aq0 .i64 ((eM.getD 0)+1))) fun eb=>
  aqU (dR aY ([(Place.mk cP dz)]:List Place)) fun fm=>
  aqP (eb,fm)
 else
  aqP (bb,aY)
def sC (N:Nat) (cj:Place) (cP:Int) (IG:List Int) (s4:Int):Nat->(List (Place×Int))->(List Place)->Int->Option ((List (Place×Int))×List Place)
 |0,_,_,_=>aqS
 |n+1,bb,aY,DK=>
  if (decide (DK<s4))=aqQ then
   aqU (PW N bb aY cj cP IG DK) fun e7=>
   sC N cj cP IG s4 n e7.1 e7.2 (aq0 .i64 (DK+1))
  else
   aqP (bb,aY)
def Dk (N:Nat) (x0:List aC):Nat->(List (Place×Int))->(List Place)->Option (List (Place×Int))
 |0,_,_=>aqS
 |n+1,bb,aY=>
  if (decide (0<(aY.length:Int)))=aqQ then
   aqU (aR aY 0) fun ck=>
   aqU (aR aY 0) fun cF=>
   aqU (fV aY 1 (aY.length:Int)) fun cH=>
   aqU (xD N x0 cF.ak cF.bm) fun cy=>
   aqU (Al N x0 cy cF.bm) fun c6=>
   aqU (sC N cF cy c6 (c6.length:Int) N bb cH 0) fun gf=>
   Dk N x0 n gf.1 gf.2
  else
   aqP bb
def IQ (N:Nat) (x0:List aC) (aD:Int):Option ((List (Place×Int))):=
 aqU (uW N x0 aD) fun a7=>
 aqU (wU N aD a7 (a7.length:Int) N [] [] 0) fun b3=>
 aqU (Dk N x0 N b3.1 b3.2) fun gY=>
 aqP gY
def w2 (N:Nat) (bH:Int) (aY:List Int) (bD:Int):Nat->Int->Option (Sum (Unit) (Int))
 |0,_=>aqS
 |n+1,b1=>
  if (decide (b1<bD))=aqQ then
   aqU (aR aY b1) fun a7=>
   if (a7 !=bH)=aqQ then
    aqP (aq1 a7)
   else
    w2 N bH aY bD n (aq0 .i64 (b1+1))
  else
   aqP (aq2 ())
def I0 (N:Nat) (x0:List Int):Option Int:=
 aqU (w2 N 0 x0 (x0.length:Int) N 0) fun bj=>
 match bj with
 |aq2 bz=>
  aqP 0
 |aq1 bI=>
  aqP bI
def Qb (N:Nat) (aD:List (Place×Int)) (cP:Int) (fl:Place) (eB:Bool) (e0:Int) (eK:Place) (hP:Int):Option Bool:=
 if (!eB)=aqQ then
  aqP aqQ
 else
  aS.lt (bs aD fl) fun bR=>
  aqU (Ak N hP (bR.getD 0)) fun b3=>
  aqU (Ak N eK.ak fl.ak) fun ck=>
  aqU (Ak N e0 cP) fun cF=>
  aqU (I0 N ([b3,ck,cF]:List Int)) fun cH=>
  aqP (decide (cH<0))
def Il (N:Nat) (x0:List aC) (aD:List (Place×Int)) (b7:Int) (cP:Int) (fl:Place) (eB:Bool) (kX:List Int) (kc:Int):Option (Int×Place×Bool):=
 aqU (aR kX kc) fun a7=>
 aqU (xD N x0 b7 a7) fun bj=>
 aS.lt (bs aD (Place.mk bj a7)) fun bz=>
 aS.lt (bz.getD 0) fun bI=>
 if (!bz.isSome)=aqQ then
  aqP (cP,fl,eB)
 else
  aqU (Qb N aD cP fl eB a7 (Place.mk bj a7) bI) fun cy=>
  if cy=aqQ then
   aqP (a7,(Place.mk bj a7),aqQ)
  else
   aqP (cP,fl,eB)
def w5 (N:Nat) (x0:List aC) (aD:List (Place×Int)) (b7:Int) (kX:List Int) (kb:Int):Nat->Int->Place->Bool->Int->Option (Int×Place×Bool)
 |0,_,_,_,_=>aqS
 |n+1,cP,fl,eB,kc=>
  if (decide (kc<kb))=aqQ then
   aqU (Il N x0 aD b7 cP fl eB kX kc) fun c6=>
   w5 N x0 aD b7 kX kb n c6.1 c6.2.1 c6.2.2 (aq0 .i64 (kc+1))
  else
   aqP (cP,fl,eB)
def I3 (N:Nat) (x0:List aC) (aD:List (Place×Int)) (b7:Int) (bH:List Int):Option (Int×Place×Bool):=
 aqU (w5 N x0 aD b7 bH (bH.length:Int) N 0 (Place.mk 0 0) aqT 0) fun dz=>
 aqP (dz.1,dz.2.1,dz.2.2)
def Ik (N:Nat) (x0:List aC) (aD:Int) (b7:Int):Option Bool:=
 aqU (uV N x0 aD) fun bj=>
 if (!bj)=aqQ then
  aqP aqQ
 else
  aqU (uV N x0 b7) fun bz=>
  if (!bz)=aqQ then
   aqP aqQ
  else
   aqP (aD==b7)
def zK (N:Nat) (x0:List aC) (cJ:List (Place×Int)):Nat->(List aU)->(List Int)->Option (Sum (List aU) (Int))
 |0,_,_=>aqS
 |n+1,cj,cP=>
  aqU (aR cj (aq0 .i64 ((cj.length:Int) - 1))) fun ck=>
  aqU (aR cj (aq0 .i64 ((cj.length:Int) - 1))) fun cF=>
  aqU (I3 N x0 cJ cF.ak cP) fun cH=>
  if (!cH.2.2)=aqQ then
   aqP (aq1 15)
  else
   aqU (aR cj (aq0 .i64 ((cj.length:Int) - 1))) fun cy=>
   aS.lt (cj.set (((aq0 .i64 ((cj.length:Int) - 1)):Int).toNat) (aU.mk cy.ak cy.bm cH.1)) fun c6=>
   aqU (dR c6 ([(aU.mk cH.2.1.ak cH.2.1.bm (-1))]:List aU)) fun dz=>
   aS.lt (bs cJ cH.2.1) fun dP=>
   if ((dP.getD 0)==0)=aqQ then
    aqP (aq2 dz)
   else
    aqU (Al N x0 cH.2.1.ak cH.2.1.bm) fun ep=>
    zK N x0 cJ n dz ep
def l7 (N:Nat) (x0:List aC) (aD:Int) (b7:Int):Option (List aU×Int):=
 aqU (s9 N x0) fun a7=>
 if (a7 !=0)=aqQ then
  aqP ([],a7)
 else
  aqU (Ik N x0 aD b7) fun bI=>
  if bI=aqQ then
   aqP ([],2)
  else
   aqU (IQ N x0 b7) fun bR=>
   aqU (uW N x0 aD) fun b3=>
   aqU (zK N x0 bR N ([(aU.mk aD (-1) 0)]:List aU) b3) fun eM=>
   match eM with
   |aq2 eb=>
    aqU (DY N eb) fun fm=>
    if fm=aqQ then
     aqP ([],17)
    else
     aqP (eb,0)
   |aq1 e7=>
    aqP ([],e7)
def IN (N:Nat) (x0:List aU):Option (List aU):=
 o1 x0 fun a7=>
 if a7=aqQ then
  aqP []
 else
  aqU (dR ([]:List aU) x0) fun bj=>
  aqP bj
def IL (N:Nat) (x0:List aW):Option (List aW):=
 o1 x0 fun a7=>
 if a7=aqQ then
  aqP []
 else
  aqU (dR ([]:List aW) x0) fun bj=>
  aqP bj
def DO (N:Nat) (x0:bf):Option bf:=
 aqU (IN N x0.dW) fun a7=>
 aqU (IL N x0.dH) fun bj=>
 aqP (bf.mk x0.gR a7 bj)
def wW (N:Nat) (eB:bf) (Z4:List bf) (Z5:Int):Nat->(List bf)->Int->Option (Sum (List bf) (Int))
 |0,_,_=>aqS
 |n+1,ek,QG=>
  if (decide (QG<Z5))=aqQ then
   aqU (aR Z4 QG) fun cH=>
   aqU (xB N eB cH) fun cy=>
   if cy=aqQ then
    aqP (aq1 23)
   else
    aqU (DO N cH) fun c6=>
    aqU (dR ek ([c6]:List bf)) fun dz=>
    wW N eB Z4 Z5 n dz (aq0 .i64 (QG+1))
  else
   aqP (aq2 ek)
def s8 (N:Nat) (x0:List aC) (aD:List bf) (b7:Int) (bH:Int) (b0:Int):Option (List bf×Int):=
 aqU (DQ N x0 aD) fun a7=>
 aS.lt (a7 !=0) fun bj=>
 if bj=aqQ then
  aqP ([],a7)
 else
  aS.lt (decide (b7<0)) fun bz=>
  if bz=aqQ then
   aqP ([],2)
  else
   aqU (DR N aD b7) fun bI=>
   aS.lt (decide (0<=bI)) fun bR=>
   if bR=aqQ then
    aqP ([],8)
   else
    aS.lt ((aD.length:Int)==16) fun b3=>
    if b3=aqQ then
     aqP ([],18)
    else
     aqU (l7 N x0 bH b0) fun ck=>
     if (ck.2 !=0)=aqQ then
      aqP ([],ck.2)
     else
      aqU (nF N x0 ck.1) fun cF=>
      if (cF.2 !=0)=aqQ then
       aqP ([],cF.2)
      else
       aqU (wW N (bf.mk b7 ck.1 cF.1) aD (aD.length:Int) N [] 0) fun dP=>
       match dP with
       |aq2 ep=>
        aqU (dR ep ([(bf.mk b7 ck.1 cF.1)]:List bf)) fun eM=>
        aqP (eM,0)
       |aq1 eb=>
        aqP ([],eb)
def PU (N:Nat) (cJ:Int) (cj:List bf) (s3:List bf) (Ab:Int):Option (List bf):=
 aqU (aR s3 Ab) fun bz=>
 if (Ab !=cJ)=aqQ then
  aqU (DO N bz) fun bI=>
  aqU (dR cj ([bI]:List bf)) fun bR=>
  aqP bR
 else
  aqP cj
def wS (N:Nat) (cJ:Int) (s3:List bf) (ZX:Int):Nat->(List bf)->Int->Option (List bf)
 |0,_,_=>aqS
 |n+1,cj,Ab=>
  if (decide (Ab<ZX))=aqQ then
   aqU (PU N cJ cj s3 Ab) fun b3=>
   wS N cJ s3 ZX n b3 (aq0 .i64 (Ab+1))
  else
   aqP cj
def Ai (N:Nat) (x0:List aC) (aD:List bf) (b7:Int):Option (List bf×Int):=
 aqU (DQ N x0 aD) fun a7=>
 if (a7 !=0)=aqQ then
  aqP ([],a7)
 else
  aqU (DR N aD b7) fun bj=>
  if (decide (bj<0))=aqQ then
   aqP ([],13)
  else
   aqU (wS N bj aD (aD.length:Int) N [] 0) fun ck=>
   aqP (ck,0)
def sD (N:Nat) (x0:List aU) (aD:List aU):Nat->Int->Option (Sum (Unit) (Bool))
 |0,_=>aqS
 |n+1,bb=>
  if (decide (bb<(x0.length:Int)))=aqQ then
   aqU (aR x0 bb) fun a7=>
   aqU (aR aD bb) fun bj=>
   if (!(decide (a7=bj)))=aqQ then
    aqP (aq1 aqT)
   else
    aS.lt (aq0 .i64 (bb+1)) fun bz=>
    sD N x0 aD n bz
  else
   aqP (aq2 ())
def IU (N:Nat) (x0:List aU) (aD:List aU):Option Bool:=
 if ((x0.length:Int) !=(aD.length:Int))=aqQ then
  aqP aqT
 else
  aqU (sD N x0 aD N 0) fun bI=>
  match bI with
  |aq2 bR=>
   aqP aqQ
  |aq1 b3=>
   aqP b3
def H2 (N:Nat) (x0:List bf) (aD:List bf) (bb:Int):Option Bool:=
 aqU (aR x0 bb) fun a7=>
 aqU (aR aD bb) fun bj=>
 if (a7.gR !=bj.gR)=aqQ then
  aqP aqQ
 else
  aqU (aR x0 bb) fun bz=>
  aqU (aR aD bb) fun bI=>
  aqU (IU N bz.dW bI.dW) fun bR=>
  if (!bR)=aqQ then
   aqP aqQ
  else
   aqU (aR x0 bb) fun b3=>
   aqU (aR aD bb) fun ck=>
   aqU (DP N b3.dH ck.dH) fun cF=>
   aqP (!cF)
def sG (N:Nat) (x0:List bf) (aD:List bf):Nat->Int->Option (Sum (Unit) (Bool))
 |0,_=>aqS
 |n+1,bb=>
  if (decide (bb<(x0.length:Int)))=aqQ then
   aqU (H2 N x0 aD bb) fun cH=>
   if cH=aqQ then
    aqP (aq1 aqT)
   else
    aS.lt (aq0 .i64 (bb+1)) fun cy=>
    sG N x0 aD n cy
  else
   aqP (aq2 ())
def QV (N:Nat) (x0:List bf) (aD:List bf):Option Bool:=
 if ((x0.length:Int) !=(aD.length:Int))=aqQ then
  aqP aqT
 else
  aqU (sG N x0 aD N 0) fun c6=>
  match c6 with
  |aq2 dz=>
   aqP aqQ
  |aq1 dP=>
   aqP dP
def Aj (N:Nat) (x0:List bf) (aD:List bf):Option Bool:=
 aqU (QV N x0 aD) fun a7=>
 aqP a7
def xH (N:Nat):Option (List aC):=
 aqP ([(aC.mk 1 [116,49] 0 1 0 9),(aC.mk 2 [119] 1 2 3 0),(aC.mk 1 [116,50] 2 4 0 9),(aC.mk 3 [100] 3 5 0 0),(aC.mk 1 [116,51] 5 6 0 9),(aC.mk 1 [116,52] 4 7 0 9)]:List aC)
def HS (N:Nat) (aD:List bf) (b7:Int) (b0:Int) (aY:Int) (bD:List bf) (b1:Int):Option Bool:=
 if (b7==0)=aqQ then
  if ((aD.length:Int)==1)=aqQ then
   aqU (aR aD 0) fun cH=>
   if (cH.gR==7)=aqQ then
    aqU (aR aD 0) fun cy=>
    if ((cy.dW.length:Int)==3)=aqQ then
     aqU (aR aD 0) fun c6=>
     if ((c6.dH.length:Int)==2)=aqQ then
      aqU (xH N) fun dz=>
      aqU (uU N dz aD) fun dP=>
      if dP=aqQ then
       if (b0==23)=aqQ then
        if (aY==8)=aqQ then
         if (b1==0)=aqQ then
          aS.lt ((bD.length:Int)==0) fun ep=>
          aqP ep
         else
          aqP aqT
        else
         aqP aqT
       else
        aqP aqT
      else
       aqP aqT
     else
      aqP aqT
    else
     aqP aqT
   else
    aqP aqT
  else
   aqP aqT
 else
  aqP aqT
def xK (N:Nat):Option Bool:=
 aqU (xH N) fun a7=>
 aqU (s8 N a7 [] 7 0 2) fun bj=>
 aqU (xH N) fun bz=>
 aqU (s8 N bz bj.1 8 2 0) fun bI=>
 aqU (xH N) fun bR=>
 aqU (s8 N bR bj.1 7 2 5) fun b3=>
 aqU (xH N) fun ck=>
 aqU (Ai N ck bj.1 7) fun cF=>
 aqU (HS N bj.1 bj.2 bI.2 b3.2 cF.1 cF.2) fun eM=>
 aqP eM
def amm (N:Nat) (aY:List bf) (cJ:List bf) (cP:List bf) (fl:Int) (eB:List bf) (ek:Int):Option Bool:=
 if (fl !=0)=aqQ then
  aqP aqQ
 else
  aqU (Aj N cP aY) fun eb=>
  if (!eb)=aqQ then
   aqP aqQ
  else
   if (ek !=0)=aqQ then
    aqP aqQ
   else
    aqU (Aj N eB cJ) fun fm=>
    if (!fm)=aqQ then
     aqP aqQ
    else
     aqP ((cJ.length:Int) !=(aq0 .i64 ((aY.length:Int)+1)))
def aml (N:Nat) (bH:er) (b0:List aC) (aY:List bf):Option (Sum (er) (Bool)):=
 aqU (DX N bH b0) fun bI=>
 aqU (aR bI.1 0) fun bR=>
 aqU (aR bI.1 0) fun b3=>
 aqU (aR bI.1 (aq0 .i64 ((bI.1.length:Int) - 1))) fun ck=>
 aqU (aR bI.1 (aq0 .i64 ((bI.1.length:Int) - 1))) fun cF=>
 aqU (s8 N b0 aY 50 b3.ak cF.ak) fun cH=>
 if (cH.2 !=0)=aqQ then
  aqP (aq2 bI.2)
 else
  aqU (Ai N b0 cH.1 50) fun cy=>
  aqU (aR bI.1 0) fun c6=>
  aqU (aR bI.1 0) fun dz=>
  aqU (aR bI.1 (aq0 .i64 ((bI.1.length:Int) - 1))) fun dP=>
  aqU (aR bI.1 (aq0 .i64 ((bI.1.length:Int) - 1))) fun ep=>
  aqU (s8 N b0 cy.1 50 dz.ak ep.ak) fun eM=>
  aqU (amm N aY cH.1 cy.1 cy.2 eM.1 eM.2) fun e7=>
  if e7=aqQ then
   aqP (aq1 aqT)
  else
   aqP (aq2 bI.2)
def Zu (N:Nat) (b0:List aC) (aY:List bf):Nat->er->Int->Option (Sum (Unit) (Bool))
 |0,_,_=>aqS
 |n+1,bH,bD=>
  if (decide (bD<4))=aqQ then
   aqU (aml N bH b0 aY) fun gf=>
   match gf with
   |aq2 gY=>
    aS.lt (aq0 .i64 (bD+1)) fun je=>
    Zu N b0 aY n gY je
   |aq1 iU=>
    aqP (aq1 iU)
  else
   aqP (aq2 ())
def aqM (N:Nat) (x0:List Int):Option Bool:=
 aqU (Aq N x0) fun a7=>
 aqU (uY N a7 8) fun bj=>
 aqU (DZ N bj.1 bj.2.1) fun bz=>
 aqU (Zu N bj.1 bz N bj.2.2 0) fun h7=>
 match h7 with
 |aq2 kz=>
  aqU (xK N) fun jf=>
  aqP jf
 |aq1 kY=>
  aqP kY
def QR (N:Nat) (x0:aW) (aD:aW):Option Bool:=
 aS.lt (x0.ak==aD.ak) fun a7=>
 aqP a7
def si (N:Nat) (x0:List aW) (aD:aW) (bD:Int):Nat->Int->Option (Sum (Unit) (Int))
 |0,_=>aqS
 |n+1,b1=>
  if (decide (b1<bD))=aqQ then
   aqU (aR x0 b1) fun a7=>
   aqU (QR N a7 aD) fun bj=>
   if bj=aqQ then
    aqP (aq1 b1)
   else
    si N x0 aD bD n (aq0 .i64 (b1+1))
  else
   aqP (aq2 ())
def IK (N:Nat) (x0:List aW) (aD:aW):Option Int:=
 aqU (si N x0 aD (x0.length:Int) N 0) fun bz=>
 match bz with
 |aq2 bI=>
  aqP (-1)
 |aq1 bR=>
  aqP bR
def IJ (N:Nat) (x0:List aW) (aD:aW):Option Bool:=
 aqU (IK N x0 aD) fun a7=>
 aS.lt (decide (0<=a7)) fun bj=>
 aqP bj
def PT (N:Nat) (bH:List aW) (e0:List aW) (hP:Int):Option (List aW):=
 aqU (aR e0 hP) fun bj=>
 aqU (IJ N bH bj) fun bz=>
 if (!bz)=aqQ then
  aqU (dR bH ([bj]:List aW)) fun bI=>
  aqP bI
 else
  aqP bH
def xf (N:Nat) (e0:List aW) (eK:Int):Nat->(List aW)->Int->Option (List aW)
 |0,_,_=>aqS
 |n+1,bH,hP=>
  if (decide (hP<eK))=aqQ then
   aqU (PT N bH e0 hP) fun bR=>
   xf N e0 eK n bR (aq0 .i64 (hP+1))
  else
   aqP bH
def xe (N:Nat) (b1:List bf) (cJ:Int):Nat->(List aW)->Int->Option (List aW)
 |0,_,_=>aqS
 |n+1,bH,cj=>
  if (decide (cj<cJ))=aqQ then
   aqU (aR b1 cj) fun a7=>
   aqU (xf N a7.dH (a7.dH.length:Int) N bH 0) fun b3=>
   xe N b1 cJ n b3 (aq0 .i64 (cj+1))
  else
   aqP bH
def Ah (N:Nat) (x0:List bf):Option (List aW):=
 aqU (xe N x0 (x0.length:Int) N [] 0) fun ck=>
 aqU (@ka aW ⟨(aW.mk 0 0)⟩ (fun (a b:aW)=>fU a.ak b.ak) ck) fun cF=>
 aqP cF
def Iq (N:Nat) (x0:List aC) (aD:List aW) (bb:Int):Option Bool:=
 aqU (aR aD bb) fun a7=>
 if (decide (a7.ak<0))=aqQ then
  aqP aqQ
 else
  aqU (aR aD bb) fun bj=>
  if (decide ((x0.length:Int)<=bj.ak))=aqQ then
   aqP aqQ
  else
   aqU (fV aD 0 bb) fun bz=>
   aqU (aR aD bb) fun bI=>
   aqU (xL N bz bI.ak) fun bR=>
   aqP (bR !=0)
def HK (N:Nat) (aY:Int):Option Bool:=
 if (aY !=1)=aqQ then
  aqP (aY !=2)
 else
  aqP aqT
def HL (N:Nat) (aY:Int):Option Bool:=
 if (aY !=3)=aqQ then
  aqP (aY !=4)
 else
  aqP aqT
def Dq (N:Nat) (x0:List aC) (aD:List aW) (bb:Int):Option (Sum (Unit) (Bool)):=
 aqU (Iq N x0 aD bb) fun b3=>
 if b3=aqQ then
  aqP (aq1 aqT)
 else
  aqU (aR aD bb) fun ck=>
  aqU (aR aD bb) fun cF=>
  aqU (aR x0 cF.ak) fun cH=>
  aS.lt (cH.kind==2) fun cy=>
  if cy=aqQ then
   aqU (HK N ck.eo) fun c6=>
   if c6=aqQ then
    aqP (aq1 aqT)
   else
    aqP (aq2 ())
  else
   aS.lt (cH.kind==3) fun dz=>
   if dz=aqQ then
    aqU (HL N ck.eo) fun dP=>
    if dP=aqQ then
     aqP (aq1 aqT)
    else
     aqP (aq2 ())
   else
    aqP (aq1 aqT)
def sS (N:Nat) (x0:List aC) (aD:List aW):Nat->Int->Option (Sum (Unit) (Bool))
 |0,_=>aqS
 |n+1,bb=>
  if (decide (bb<(aD.length:Int)))=aqQ then
   aqU (Dq N x0 aD bb) fun ep=>
   match ep with
   |aq2 eM=>
    aS.lt (aq0 .i64 (bb+1)) fun eb=>
    sS N x0 aD n eb
   |aq1 fm=>
    aqP (aq1 fm)
  else
   aqP (aq2 ())
def Ao (N:Nat) (x0:List aC) (aD:List aW):Option Bool:=
 aqU (sS N x0 aD N 0) fun e7=>
 match e7 with
 |aq2 gf=>
  aqP aqQ
 |aq1 gY=>
  aqP gY
def Ht (N:Nat) (b0:List aC) (bb:List Act) (aY:List bf) (bD:Int) (b1:List bf) (cJ:Int) (apo:Bool):Option (List bf×Int):=
 if apo=aqQ then
  aqU (aR bb bD) fun cF=>
  aqU (aR bb bD) fun cH=>
  aqU (aR bb bD) fun cy=>
  aqU (aR bb bD) fun c6=>
  aqU (aR bb bD) fun dz=>
  aqU (aR bb bD) fun dP=>
  aqU (s8 N b0 aY cH.id c6.from_ dP.to) fun ep=>
  aqP (ep.1,ep.2)
 else
  aqP (b1,cJ)
def Hu (N:Nat) (b0:List aC) (aY:List bf) (cP:List aW):Option Bool:=
 aqU (uU N b0 aY) fun e7=>
 if (!e7)=aqQ then
  aqP aqQ
 else
  aqU (Ao N b0 cP) fun gf=>
  aqP (!gf)
def wQ (N:Nat) (aY:List bf) (fl:Int):Nat->(List Int)->Int->Option (Sum (List Int) (Bool))
 |0,_,_=>aqS
 |n+1,cj,eB=>
  aqU (aR aY fl) fun je=>
  if (decide (eB<(je.dW.length:Int)))=aqQ then
   aqU (aR aY fl) fun iU=>
   aqU (aR iU.dW eB) fun h7=>
   aqU (aR cj h7.ak) fun kz=>
   aqU (aR cj h7.ak) fun jf=>
   aqU (aR cj h7.ak) fun kY=>
   aqU (aR cj h7.ak) fun mP=>
   aS.lt (cj.set ((h7.ak:Int).toNat) (aq0 .i64 (jf+1))) fun ox=>
   aqU (aR aY fl) fun qi=>
   aqU (aR qi.dW eB) fun q8=>
   aqU (aR ox q8.ak) fun uT=>
   aqU (aR ox q8.ak) fun Ad=>
   if (decide (1<Ad))=aqQ then
    aqP (aq1 aqT)
   else
    aS.lt (aq0 .i64 (eB+1)) fun xy=>
    wQ N aY fl n ox xy
  else
   aqP (aq2 cj)
def Hv (N:Nat) (aY:List bf) (cP:List aW) (fl:Int) (ek:Int) (e0:Bool) (eK:Int):Option Bool:=
 if e0=aqQ then
  aqP aqQ
 else
  aqU (aR cP eK) fun xA=>
  aqU (aR cP eK) fun DN=>
  aqU (aR aY fl) fun IH=>
  aqU (aR IH.dH ek) fun QI=>
  aS.lt (decide (DN=QI)) fun Z9=>
  aqP Z9
def wR (N:Nat) (aY:List bf) (cP:List aW) (fl:Int) (ek:Int):Nat->Bool->Int->Option Bool
 |0,_,_=>aqS
 |n+1,e0,eK=>
  if (decide (eK<(cP.length:Int)))=aqQ then
   aqU (Hv N aY cP fl ek e0 eK) fun QJ=>
   aS.lt (aq0 .i64 (eK+1)) fun QK=>
   wR N aY cP fl ek n QJ QK
  else
   aqP e0
def sy (N:Nat) (aY:List bf) (cP:List aW) (fl:Int):Nat->Int->Option (Sum (Unit) (Bool))
 |0,_=>aqS
 |n+1,ek=>
  aqU (aR aY fl) fun Ae=>
  if (decide (ek<(Ae.dH.length:Int)))=aqQ then
   aqU (wR N aY cP fl ek N aqT 0) fun QL=>
   if (!QL)=aqQ then
    aqP (aq1 aqT)
   else
    aS.lt (aq0 .i64 (ek+1)) fun II=>
    sy N aY cP fl n II
  else
   aqP (aq2 ())
def wP (N:Nat) (aY:List bf) (cP:List aW):Nat->(List Int)->Int->Option (Sum (Unit) (Bool))
 |0,_,_=>aqS
 |n+1,cj,fl=>
  if (decide (fl<(aY.length:Int)))=aqQ then
   aqU (wQ N aY fl N cj 0) fun xz=>
   match xz with
   |aq2 s5=>
    aqU (sy N aY cP fl N 0) fun QM=>
    match QM with
    |aq2 QN=>
     aS.lt (aq0 .i64 (fl+1)) fun aps=>
     wP N aY cP n s5 aps
    |aq1 apt=>
     aqP (aq1 apt)
   |aq1 apu=>
    aqP (aq1 apu)
  else
   aqP (aq2 ())
def Hs (N:Nat) (b0:List aC) (bb:List Act) (aY:List bf) (bD:Int):Option (Sum (List bf) (Bool)):=
 aqU (aR bb bD) fun bz=>
 aqU (aR bb bD) fun bI=>
 aqU (Ai N b0 aY bI.id) fun bR=>
 aqU (aR bb bD) fun b3=>
 aqU (aR bb bD) fun ck=>
 aqU (Ht N b0 bb aY bD bR.1 bR.2 ck.set) fun eM=>
 if (eM.2 !=0)=aqQ then
  aqP (aq2 aY)
 else
  aqU (kO 0 (b0.length:Int)) fun eb=>
  aqU (Ah N eM.1) fun fm=>
  aqU (Hu N b0 eM.1 fm) fun gY=>
  if gY=aqQ then
   aqP (aq1 aqT)
  else
   aqU (wP N eM.1 fm N eb 0) fun apv=>
   match apv with
   |aq2 aqI=>
    aqP (aq2 eM.1)
   |aq1 apw=>
    aqP (aq1 apw)
def wO (N:Nat) (b0:List aC) (bb:List Act):Nat->(List bf)->Int->Option (Sum (List bf) (Bool))
 |0,_,_=>aqS
 |n+1,aY,bD=>
  if (decide (bD<(bb.length:Int)))=aqQ then
   aqU (Hs N b0 bb aY bD) fun apx=>
   match apx with
   |aq2 apy=>
    aS.lt (aq0 .i64 (bD+1)) fun apz=>
    wO N b0 bb n apy apz
   |aq1 apA=>
    aqP (aq1 apA)
  else
   aqP (aq2 aY)
def Hw (N:Nat) (b0:List aC) (bb:List Act) (aY:List bf):Option Bool:=
 aqU (DZ N b0 bb) fun apD=>
 aqU (Aj N aY apD) fun apE=>
 if apE=aqQ then
  aqU (xK N) fun apF=>
  aqP apF
 else
  aqP aqT
def IP (N:Nat) (x0:List Int):Option Bool:=
 aqU (Aq N x0) fun a7=>
 aqU (uY N a7 10) fun bj=>
 aqU (wO N bj.1 bj.2.1 N [] 0) fun apB=>
 match apB with
 |aq2 apC=>
  aqU (Hw N bj.1 bj.2.1 apC) fun apG=>
  aqP apG
 |aq1 apH=>
  aqP apH
def anb (N:Nat) (self:(List Int)->(List aC)->(List aU)->(List aW)->Int->Int->(List (dC×Bool))->Option (Bool×(List (dC×Bool)))) (b0:Int) (bb:List (dC×Bool)) (eB:Int):Option Bool:=
 if (decide (eB<0))=aqQ then
  aqP aqQ
 else
  aS.lt (bs bb (dC.mk eB b0)) fun bj=>
  aqP (bj.getD aqT)
def anc (N:Nat) (self:(List Int)->(List aC)->(List aU)->(List aW)->Int->Int->(List (dC×Bool))->Option (Bool×(List (dC×Bool)))) (aD:List aU) (eB:Int):Option Bool:=
 aqU (aR aD 0) fun b3=>
 if (eB !=b3.ak)=aqQ then
  aqU (aR aD (aq0 .i64 ((aD.length:Int) - 1))) fun ck=>
  aS.lt (eB !=ck.ak) fun cF=>
  aqP cF
 else
  aqP aqT
def ane (N:Nat) (self:(List Int)->(List aC)->(List aU)->(List aW)->Int->Int->(List (dC×Bool))->Option (Bool×(List (dC×Bool)))) (ek:aC) (e0:Int):Option Bool:=
 if (ek.kind==3)=aqQ then
  aqP (e0==4)
 else
  aqP aqT
def ang (N:Nat) (self:(List Int)->(List aC)->(List aU)->(List aW)->Int->Int->(List (dC×Bool))->Option (Bool×(List (dC×Bool)))) (b0:Int) (ek:aC) (e0:Int) (eK:List Int) (hP:Int):Option Bool:=
 if (ek.kind==2)=aqQ then
  if (b0==ek.a)=aqQ then
   if (e0==1)=aqQ then
    aqU (aR eK hP) fun ep=>
    if (ep==ek.c)=aqQ then
     aqP aqQ
    else
     if (e0==2)=aqQ then
      aqU (aR eK hP) fun eM=>
      aqP (eM==ek.b)
     else
      aqP aqT
   else
    if (e0==2)=aqQ then
     aqU (aR eK hP) fun eb=>
     aqP (eb==ek.b)
    else
     aqP aqT
  else
   aqP aqT
 else
  aqP aqT
def anf (N:Nat) (self:(List Int)->(List aC)->(List aU)->(List aW)->Int->Int->(List (dC×Bool))->Option (Bool×(List (dC×Bool)))) (Aa:List Int) (x0:List aC) (aD:List aU) (b7:List aW) (b0:Int) (bb:List (dC×Bool)) (eB:Int) (ek:aC) (e0:Int) (eK:List Int) (hP:Int):Option (Sum ((List (dC×Bool))) ((List (dC×Bool))×Bool)):=
 aqU (ang N self b0 ek e0 eK hP) fun fm=>
 if fm=aqQ then
  aqP (aq2 bb)
 else
  aqU (aR eK hP) fun e7=>
  aqU (self Aa x0 aD b7 eB e7 bb) fun gf=>
  if gf.1=aqQ then
   aqP (aq1 (gf.2,aqQ))
  else
   aqP (aq2 gf.2)
def Zy (N:Nat) (self:(List Int)->(List aC)->(List aU)->(List aW)->Int->Int->(List (dC×Bool))->Option (Bool×(List (dC×Bool)))) (Aa:List Int) (x0:List aC) (aD:List aU) (b7:List aW) (b0:Int) (eB:Int) (ek:aC) (e0:Int) (eK:List Int):Nat->(List (dC×Bool))->Int->Option (Sum ((List (dC×Bool))) ((List (dC×Bool))×Bool))
 |0,_,_=>aqS
 |n+1,bb,hP=>
  if (decide (hP<(eK.length:Int)))=aqQ then
   aqU (anf N self Aa x0 aD b7 b0 bb eB ek e0 eK hP) fun gY=>
   match gY with
   |aq2 je=>
    aS.lt (aq0 .i64 (hP+1)) fun iU=>
    Zy N self Aa x0 aD b7 b0 eB ek e0 eK n je iU
   |aq1 h7=>
    aqP (aq1 (h7.1,h7.2))
  else
   aqP (aq2 bb)
def Am (N:Nat):Nat->(List Int)->(List aC)->(List aU)->(List aW)->Int->Int->(List (dC×Bool))->Option (Bool×(List (dC×Bool)))
 |0,_,_,_,_,_,_,_=>aqS
 |c9+1,Aa,x0,aD,b7,bH,b0,bb=>
  aqU (q9 N x0 bH b0) fun a7=>
  aqU (anb N (Am N c9) b0 bb a7) fun bz=>
  if bz=aqQ then
   aqP (aqT,bb)
  else
   aS.lt (dV bb (dC.mk a7 b0) aqQ) fun bI=>
   aqU (ra N aD a7) fun bR=>
   if bR=aqQ then
    aqU (anc N (Am N c9) aD a7) fun cH=>
    aqP (cH,bI)
   else
    aqU (aR x0 a7) fun cy=>
    aqU (xL N b7 a7) fun c6=>
    aqU (xF N x0 a7 b0) fun dz=>
    aqU (ane N (Am N c9) cy c6) fun dP=>
    if dP=aqQ then
     aqP (aqT,bI)
    else
     aqU (Zy N (Am N c9) Aa x0 aD b7 b0 a7 cy c6 dz N bI 0) fun kz=>
     match kz with
     |aq2 jf=>
      aqP (aqT,jf)
     |aq1 kY=>
      aqP (kY.2,kY.1)
def ani (N:Nat) (x0:List aC) (aD:List aU) (cJ:Int):Option Bool:=
 aqU (aR x0 cJ) fun bz=>
 if (bz.kind !=1)=aqQ then
  aqP aqQ
 else
  aqU (ra N aD cJ) fun bI=>
  aqP bI
def anj (N:Nat) (x0:List aC) (aD:List aU) (b7:List aW) (b1:List Int) (cJ:Int):Option Bool:=
 aqU (aR x0 cJ) fun b3=>
 aqU (Am N N b1 x0 aD b7 cJ b3.a []) fun ck=>
 if ck.1=aqQ then
  aqP aqQ
 else
  aqU (aR x0 cJ) fun cF=>
  aqU (Am N N b1 x0 aD b7 cJ cF.b []) fun cH=>
  aqP cH.1
def anh (N:Nat) (x0:List aC) (aD:List aU) (b7:List aW) (b1:List Int) (cJ:Int):Option (List Int):=
 aqU (ani N x0 aD cJ) fun bR=>
 if bR=aqQ then
  aqP b1
 else
  aqU (anj N x0 aD b7 b1 cJ) fun cy=>
  if cy=aqQ then
   aqU (dR b1 ([cJ]:List Int)) fun c6=>
   aqP c6
  else
   aqP b1
def Zz (N:Nat) (x0:List aC) (aD:List aU) (b7:List aW):Nat->(List Int)->Int->Option (List Int)
 |0,_,_=>aqS
 |n+1,b1,cJ=>
  if (decide (cJ<(x0.length:Int)))=aqQ then
   aqU (anh N x0 aD b7 b1 cJ) fun dz=>
   aS.lt (aq0 .i64 (cJ+1)) fun dP=>
   Zz N x0 aD b7 n dz dP
  else
   aqP b1
def apI (N:Nat) (x0:List aC) (aD:List aU) (b7:List aW):Option (List Int×Int):=
 aqU (xI N x0 aD) fun a7=>
 if (!a7)=aqQ then
  aqP ([],1)
 else
  aqU (Ao N x0 b7) fun bj=>
  if (!bj)=aqQ then
   aqP ([],2)
  else
   aqU (Zz N x0 aD b7 N [] 0) fun ep=>
   aqP (ep,0)
def amk (N:Nat) (cJ:List Int) (cj:Int):Option Bool:=
 if (cj !=0)=aqQ then
  aqP aqQ
 else
  aqP (decide (0<(cJ.length:Int)))
def Zt (N:Nat) (b0:List aC) (aY:List bf) (bD:List aW):Nat->Int->Option (Sum (Unit) (Bool))
 |0,_=>aqS
 |n+1,b1=>
  if (decide (b1<(aY.length:Int)))=aqQ then
   aqU (aR aY b1) fun bR=>
   aqU (apI N b0 bR.dW bD) fun b3=>
   aqU (amk N b3.1 b3.2) fun ck=>
   if ck=aqQ then
    aqP (aq1 aqT)
   else
    aS.lt (aq0 .i64 (b1+1)) fun cF=>
    Zt N b0 aY bD n cF
  else
   aqP (aq2 ())
def aqL (N:Nat) (x0:List Int):Option Bool:=
 aqU (Aq N x0) fun a7=>
 aqU (uY N a7 10) fun bj=>
 aqU (DZ N bj.1 bj.2.1) fun bz=>
 aqU (Ah N bz) fun bI=>
 aqU (Zt N bj.1 bz bI N 0) fun cH=>
 match cH with
 |aq2 cy=>
  aqU (xK N) fun c6=>
  aqP c6
 |aq1 dz=>
  aqP dz
def ami (N:Nat) (b0:List aC) (bb:List Act) (aY:List bf) (bD:Int):Option (List bf):=
 aqU (aR bb bD) fun bz=>
 aqU (aR bb bD) fun bI=>
 aqU (aR bb bD) fun bR=>
 aqU (aR bb bD) fun b3=>
 aqU (D6 N b0 [] bD bI.from_ b3.to) fun ck=>
 if (ck.2==0)=aqQ then
  aqU (aR ck.1 0) fun cF=>
  aqU (aR ck.1 0) fun cH=>
  aqU (dR aY ([cH]:List bf)) fun cy=>
  aqP cy
 else
  aqP aY
def Zq (N:Nat) (b0:List aC) (bb:List Act):Nat->(List bf)->Int->Option (List bf)
 |0,_,_=>aqS
 |n+1,aY,bD=>
  if (decide (bD<(bb.length:Int)))=aqQ then
   aqU (ami N b0 bb aY bD) fun c6=>
   aS.lt (aq0 .i64 (bD+1)) fun dz=>
   Zq N b0 bb n c6 dz
  else
   aqP aY
def amj (N:Nat) (b0:List aC) (aY:List bf) (cj:Int) (cP:Int) (fl:Bool):Option Bool:=
 aqU (aR aY cP) fun gf=>
 aqU (aR aY cP) fun gY=>
 aqU (aR aY cj) fun je=>
 aqU (aR aY cj) fun iU=>
 aqU (xB N gY iU) fun h7=>
 if (!(fl==h7))=aqQ then
  aqP aqQ
 else
  if (cj !=cP)=aqQ then
   aqU (aR aY cj) fun kz=>
   aqU (aR aY cj) fun jf=>
   aqU (aR aY cP) fun kY=>
   aqU (aR aY cP) fun mP=>
   aqU (uU N b0 ([jf,mP]:List bf)) fun ox=>
   aqP (fl==ox)
  else
   aqP aqT
def Zs (N:Nat) (b0:List aC) (aY:List bf) (cj:Int):Nat->Int->Option (Sum (Unit) (Bool))
 |0,_=>aqS
 |n+1,cP=>
  if (decide (cP<(aY.length:Int)))=aqQ then
   aqU (aR aY cj) fun ep=>
   aqU (aR aY cj) fun eM=>
   aqU (aR aY cP) fun eb=>
   aqU (aR aY cP) fun fm=>
   aqU (xB N eM fm) fun e7=>
   aqU (amj N b0 aY cj cP e7) fun qi=>
   if qi=aqQ then
    aqP (aq1 aqT)
   else
    aS.lt (aq0 .i64 (cP+1)) fun q8=>
    Zs N b0 aY cj n q8
  else
   aqP (aq2 ())
def Zr (N:Nat) (b0:List aC) (aY:List bf):Nat->Int->Option (Sum (Unit) (Bool))
 |0,_=>aqS
 |n+1,cj=>
  if (decide (cj<(aY.length:Int)))=aqQ then
   aqU (Zs N b0 aY cj N 0) fun uT=>
   match uT with
   |aq2 Ad=>
    aS.lt (aq0 .i64 (cj+1)) fun xy=>
    Zr N b0 aY n xy
   |aq1 xz=>
    aqP (aq1 xz)
  else
   aqP (aq2 ())
def aqK (N:Nat) (x0:List Int):Option Bool:=
 aqU (Aq N x0) fun a7=>
 aqU (uY N a7 6) fun bj=>
 aqU (Zq N bj.1 bj.2.1 N [] 0) fun dP=>
 aqU (Zr N bj.1 dP N 0) fun s5=>
 match s5 with
 |aq2 Ae=>
  aqU (xK N) fun xA=>
  aqP xA
 |aq1 DN=>
  aqP DN
end
end Go.W
end
section
set_option maxRecDepth 100000
set_option maxHeartbeats 1000000
namespace Go.W
open Go.aS Go.Proofs Go.Sort Go.Shelf Go.RowKit Go.Lib
def aeO:Go.Shelf.Ren:=⟨fun|6=>36|15=>71|14=>70|28=>103|29=>104|20=>95|21=>96|22=>97|23=>98|24=>99|25=>100|26=>101|27=>102|46=>108|47=>109|48=>110|49=>111|50=>112|57=>115|n=>n,fun|22=>44|24=>51|25=>77|3=>3|39=>109|0=>0|53=>146|55=>148|4=>4|46=>140|45=>139|50=>118|5=>5|9=>9|66=>151|70=>155|76=>157|77=>158|n=>n,fun|n=>n⟩
theorem O5:Go.Proofs.SlLaysF0.n6 Tryz.prog aeO:={
 mixed:=by kernel_rfl,
 f6:=⟨Tryz.f36.name,by decide,Tryz.func36.trans (congrArg aqP (by kernel_rfl))⟩,
 f14:=⟨Tryz.f70.name,by decide,Tryz.func70.trans (congrArg aqP (by kernel_rfl))⟩,
 f15:=Tryz.func71.trans (congrArg aqP (by kernel_rfl)),
 f20:=⟨Tryz.f95.name,by decide,Tryz.func95.trans (congrArg aqP (by kernel_rfl))⟩,
 f21:=⟨Tryz.f96.name,by decide,Tryz.func96.trans (congrArg aqP (by kernel_rfl))⟩,
 f22:=⟨Tryz.f97.name,by decide,Tryz.func97.trans (congrArg aqP (by kernel_rfl))⟩,
 f23:=⟨Tryz.f98.name,by decide,Tryz.func98.trans (congrArg aqP (by kernel_rfl))⟩,
 f24:=⟨Tryz.f99.name,by decide,Tryz.func99.trans (congrArg aqP (by kernel_rfl))⟩,
 f25:=⟨Tryz.f100.name,by decide,Tryz.func100.trans (congrArg aqP (by kernel_rfl))⟩,
 f26:=⟨Tryz.f101.name,by decide,Tryz.func101.trans (congrArg aqP (by kernel_rfl))⟩,
 f27:=⟨Tryz.f102.name,by decide,Tryz.func102.trans (congrArg aqP (by kernel_rfl))⟩,
 f28:=Tryz.func103.trans (congrArg aqP (by kernel_rfl)),
 f29:=Tryz.func104.trans (congrArg aqP (by kernel_rfl)),
 f46:=⟨Tryz.f108.name,by decide,Tryz.func108.trans (congrArg aqP (by kernel_rfl))⟩,
 f47:=Tryz.func109.trans (congrArg aqP (by kernel_rfl)),
 f48:=Tryz.func110.trans (congrArg aqP (by kernel_rfl)),
 f49:=⟨Tryz.f111.name,by decide,Tryz.func111.trans (congrArg aqP (by kernel_rfl))⟩,
 f50:=⟨Tryz.f112.name,by decide,Tryz.func112.trans (congrArg aqP (by kernel_rfl))⟩,
 f57:=⟨Tryz.f115.name,by decide,Tryz.func115.trans (congrArg aqP (by kernel_rfl))⟩,
 t0:=Tryz.underlying0,
 a0:=Tryz.isAgg0,
 z0:=Tryz.sizeOf0,
 v0:=Tryz.zeroValue0,
 t3:=Tryz.underlying3,
 a3:=Tryz.isAgg3,
 z3:=Tryz.sizeOf3,
 v3:=Tryz.zeroValue3,
 t4:=Tryz.underlying4,
 a4:=Tryz.isAgg4,
 z4:=Tryz.sizeOf4,
 v4:=Tryz.zeroValue4,
 t5:=Tryz.underlying5,
 a5:=Tryz.isAgg5,
 z5:=Tryz.sizeOf5,
 v5:=Tryz.zeroValue5,
 t9:=Tryz.underlying9,
 a9:=Tryz.isAgg9,
 z9:=Tryz.sizeOf9,
 v9:=Tryz.zeroValue9,
 t22:=Tryz.underlying44,
 a22:=Tryz.isAgg44,
 z22:=Tryz.sizeOf44,
 v22:=Tryz.zeroValue44,
 t25:=Tryz.underlying77,
 a25:=Tryz.isAgg77,
 z25:=Tryz.sizeOf77,
 v25:=Tryz.zeroValue77,
 t39:=Tryz.underlying109,
 a39:=Tryz.isAgg109,
 z39:=Tryz.sizeOf109,
 v39:=Tryz.zeroValue109,
 t45:=Tryz.underlying139,
 a45:=Tryz.isAgg139,
 z45:=Tryz.sizeOf139,
 v45:=Tryz.zeroValue139,
 t46:=Tryz.underlying140,
 a46:=Tryz.isAgg140,
 z46:=Tryz.sizeOf140,
 v46:=Tryz.zeroValue140,
 t50:=Tryz.underlying118,
 a50:=Tryz.isAgg118,
 z50:=Tryz.sizeOf118,
 v50:=Tryz.zeroValue118,
 t53:=Tryz.underlying146,
 a53:=Tryz.isAgg146,
 z53:=Tryz.sizeOf146,
 v53:=Tryz.zeroValue146,
 t55:=Tryz.underlying148,
 a55:=Tryz.isAgg148,
 z55:=Tryz.sizeOf148,
 v55:=Tryz.zeroValue148,
 t66:=Tryz.underlying151,
 a66:=Tryz.isAgg151,
 z66:=Tryz.sizeOf151,
 v66:=Tryz.zeroValue151,
 t70:=Tryz.underlying155,
 a70:=Tryz.isAgg155,
 z70:=Tryz.sizeOf155,
 v70:=Tryz.zeroValue155,
 t76:=Tryz.underlying157,
 a76:=Tryz.isAgg157,
 z76:=Tryz.sizeOf157,
 v76:=Tryz.zeroValue157,
 t77:=Tryz.underlying158,
 a77:=Tryz.isAgg158,
 z77:=Tryz.sizeOf158,
 v77:=Tryz.zeroValue158}
def ae2:Go.Shelf.Ren:=⟨fun|5=>38|7=>72|n=>n,fun|22=>3|3=>3|4=>4|n=>n,fun|n=>n⟩
theorem Pc:Go.Proofs.SlLaysC2.n5 Tryz.prog ae2:={
 mixed:=by kernel_rfl,
 f5:=⟨Tryz.f38.name,by decide,Tryz.func38.trans (congrArg aqP (by kernel_rfl))⟩,
 f7:=⟨Tryz.f72.name,by decide,Tryz.func72.trans (congrArg aqP (by kernel_rfl))⟩,
 t3:=Tryz.underlying3,
 a3:=Tryz.isAgg3,
 z3:=Tryz.sizeOf3,
 v3:=Tryz.zeroValue3,
 t4:=Tryz.underlying4,
 a4:=Tryz.isAgg4,
 z4:=Tryz.sizeOf4,
 v4:=Tryz.zeroValue4,
 t22:=Tryz.underlying3,
 a22:=Tryz.isAgg3,
 z22:=Tryz.sizeOf3,
 v22:=Tryz.zeroValue3}
set_option maxHeartbeats 1000000 in
theorem aiC (x y:aW) (W:World):Calls Tryz.prog 37 #[.agg #[.int .i64 x.ak, .int .i64 x.eo], .agg #[.int .i64 y.ak, .int .i64 y.eo]] W fun e w'=>e= .returned (.int .i64 (fU x.ak y.ak))/\∃q r3,w'=grow (W.drewN q) r3:=by
 have pI:=fun rp=>AnyG.cmp_Compare_int Pc x.ak y.ak rp
 change ∀rp,Calls Tryz.prog 38 _ _ _ at pI
 unfold fU;generalize atP x.ak y.ak=r at pI⊢
 go_enter Tryz.func37,Tryz.ntmps37
 go_wp2_with (go_at_call 38;refine (pI _).mono ?_;rintro e w' ⟨rfl,rfl⟩)
 go_ret
 exact ⟨rfl,0,_,by rw[alloc_eq_grow,alloc_eq_grow,grow_grow];rfl⟩
set_option maxHeartbeats 1000000 in
theorem aiD (x y:aW) (W:World):Calls Tryz.prog 64 #[.agg #[.int .i64 x.ak, .int .i64 x.eo], .agg #[.int .i64 y.ak, .int .i64 y.eo]] W fun e w'=>e= .returned (.int .i64 (fU x.ak y.ak))/\∃q r3,w'=grow (W.drewN q) r3:=by
 have pI:=fun rp=>AnyG.cmp_Compare_int Pc x.ak y.ak rp
 change ∀rp,Calls Tryz.prog 38 _ _ _ at pI
 unfold fU;generalize atP x.ak y.ak=r at pI⊢
 go_enter Tryz.func64,Tryz.ntmps64
 go_wp2_with (go_at_call 38;refine (pI _).mono ?_;rintro e w' ⟨rfl,rfl⟩)
 go_ret
 exact ⟨rfl,0,_,by rw[alloc_eq_grow,alloc_eq_grow,grow_grow];rfl⟩
set_option maxHeartbeats 1000000 in
theorem aiE (x y:aW) (W:World):Calls Tryz.prog 89 #[.agg #[.int .i64 x.ak, .int .i64 x.eo], .agg #[.int .i64 y.ak, .int .i64 y.eo]] W fun e w'=>e= .returned (.int .i64 (fU x.ak y.ak))/\∃q r3,w'=grow (W.drewN q) r3:=by
 have pI:=fun rp=>AnyG.cmp_Compare_int Pc x.ak y.ak rp
 change ∀rp,Calls Tryz.prog 38 _ _ _ at pI
 unfold fU;generalize atP x.ak y.ak=r at pI⊢
 go_enter Tryz.func89,Tryz.ntmps89
 go_wp2_with (go_at_call 38;refine (pI _).mono ?_;rintro e w' ⟨rfl,rfl⟩)
 go_ret
 exact ⟨rfl,0,_,by rw[alloc_eq_grow,alloc_eq_grow,grow_grow];rfl⟩
end Go.W
end
section
set_option maxRecDepth 100000
set_option maxHeartbeats 1000000
namespace Go.W
noncomputable section
open Go.aS Go.Proofs
def AU:cf Int:=ha 3 [.int .i64] fun x=>(x,())
def aar:cf Bool:=ha 4 [.bool] fun x=>(x,())
def aav:cf UInt8:=kd 5
def aay:cf (List UInt8):=ha 9 [.str] fun x=>(x,())
def aao:cf (List Int):=ha 22 [.ay Int AU] fun x=>(x,())
def JA:cf aC:=ha 63 [.int .i64, .str, .int .i64, .int .i64, .int .i64, .int .i64] fun x=>(x.kind,x.name,x.a,x.b,x.c,x.length,())
def aap:cf (List aC):=ha 25 [.ay aC JA] fun x=>(x,())
def Er:cf aU:=ha 37 [.int .i64, .int .i64, .int .i64] fun x=>(x.ak,x.bm,x.out,())
def aaq:cf (List aU):=ha 31 [.ay aU Er] fun x=>(x,())
def aas:cf Act:=ha 43 [.bool, .int .i64, .int .i64, .int .i64] fun x=>(x.set,x.id,x.from_,x.to,())
def Es:cf aW:=ha 51 [.int .i64, .int .i64] fun x=>(x.ak,x.eo,())
def aat:cf (List aW):=ha 44 [.ay aW Es] fun x=>(x,())
def aau:cf bf:=ha 49 [.int .i64, .ay aU Er, .ay aW Es] fun x=>(x.gR,x.dW,x.dH,())
def aaw:cf er:=ha 55 [.ay Int AU, .int .i64] fun x=>(x.l,x.n,())
def aax:cf (List (dC×Bool)):=ha 84 [.mp dC Bool ⟨fun x=>[.int .i64 x.a0, .int .i64 x.c4],sr,84⟩] fun x=>(x,())
def aaz:cf (List (Place×Int)):=ha 92 [.mp Place Int ⟨fun x=>[.int .i64 x.ak, .int .i64 x.bm],oY .i64,92⟩] fun x=>(x,())
def aaA:cf Place:=ha 96 [.int .i64, .int .i64] fun x=>(x.ak,x.bm,())
def alD:cf (List (Int×Int)):=ha 100 [.mp Int Int ⟨oY .i64,oY .i64,100⟩] fun x=>(x,())
def alE:cf (List ((List UInt8)×Bool)):=ha 111 [.mp (List UInt8) Bool ⟨B4,sr,111⟩] fun x=>(x,())
def alF:cf dC:=ha 114 [.int .i64, .int .i64] fun x=>(x.a0,x.c4,())
def alG:cf (List (Step×Int)):=ha 116 [.mp Step Int ⟨fun x=>[.int .i64 x.ak, .int .i64 x.bm],oY .i64,116⟩] fun x=>(x,())
def alH:cf Step:=ha 122 [.int .i64, .int .i64] fun x=>(x.ak,x.bm,())
def alI:cf dI:=ha 125 [.ay aC JA, .ay aU Er, .ay aW Es, .mp dC Bool ⟨fun x=>[.int .i64 x.a0, .int .i64 x.c4],sr,84⟩] fun x=>(x.l,x.r,x.cS,x.seen,())
def alJ:cf (Option Nat):=ha 127 [.fn] fun x=>(x,())
def alK:cf (List (Int×Bool)):=ha 130 [.mp Int Bool ⟨oY .i64,sr,130⟩] fun x=>(x,())
def alL:cf (List (dJ×Bool)):=ha 132 [.mp dJ Bool ⟨fun x=>[.int .i64 x.ak, .int .i64 x.node],sr,132⟩] fun x=>(x,())
def alM:cf (Option Nat):=ha 133 [.fn] fun x=>(x,())
def alN:cf dJ:=ha 135 [.int .i64, .int .i64] fun x=>(x.ak,x.node,())
structure aam where
 ap:Type
 T:cf ap
 bQ:ap->List aqR
def Qs:Nat->aam
 |3=>⟨Int,AU,oY .i64⟩
 |4=>⟨Bool,aar,sr⟩
 |5=>⟨UInt8,aav,fun _=>[]⟩
 |9=>⟨(List UInt8),aay,B4⟩
 |22=>⟨(List Int),aao,fun _=>[]⟩
 |63=>⟨aC,JA,fun _=>[]⟩
 |25=>⟨(List aC),aap,fun _=>[]⟩
 |37=>⟨aU,Er,fun _=>[]⟩
 |31=>⟨(List aU),aaq,fun _=>[]⟩
 |43=>⟨Act,aas,fun _=>[]⟩
 |51=>⟨aW,Es,fun _=>[]⟩
 |44=>⟨(List aW),aat,fun _=>[]⟩
 |49=>⟨bf,aau,fun _=>[]⟩
 |55=>⟨er,aaw,fun _=>[]⟩
 |84=>⟨(List (dC×Bool)),aax,fun _=>[]⟩
 |92=>⟨(List (Place×Int)),aaz,fun _=>[]⟩
 |96=>⟨Place,aaA,fun x=>[.int .i64 x.ak, .int .i64 x.bm]⟩
 |100=>⟨(List (Int×Int)),alD,fun _=>[]⟩
 |111=>⟨(List ((List UInt8)×Bool)),alE,fun _=>[]⟩
 |114=>⟨dC,alF,fun x=>[.int .i64 x.a0, .int .i64 x.c4]⟩
 |116=>⟨(List (Step×Int)),alG,fun _=>[]⟩
 |122=>⟨Step,alH,fun x=>[.int .i64 x.ak, .int .i64 x.bm]⟩
 |125=>⟨dI,alI,fun _=>[]⟩
 |127=>⟨(Option Nat),alJ,fun _=>[]⟩
 |130=>⟨(List (Int×Bool)),alK,fun _=>[]⟩
 |132=>⟨(List (dJ×Bool)),alL,fun _=>[]⟩
 |133=>⟨(Option Nat),alM,fun _=>[]⟩
 |135=>⟨dJ,alN,fun x=>[.int .i64 x.ak, .int .i64 x.node]⟩
 |_=>⟨Bool,C7 4,sr⟩
def D (t:Nat):Type:=(Qs t).ap
def G:lG D:=⟨fun t=>(Qs t).T,fun t=>(Qs t).bQ⟩
def ZL:ft Tryz.prog G 3:=h6 [.int .i64] (fun (x:Int)=>(x,())) (fun y=>(y.1:Int)) (fun _=>rfl) (fun _=>rfl) (0:Int) Tryz.t3 (.int .i64 0) rfl Tryz.type3 rfl rfl rfl rfl rfl rfl (fun z=>⟨rfl,trivial⟩) rfl
def anw:ft Tryz.prog G 4:=h6 [.bool] (fun (x:Bool)=>(x,())) (fun y=>(y.1:Bool)) (fun _=>rfl) (fun _=>rfl) (aqT:Bool) Tryz.t4 (.bool aqT) rfl Tryz.type4 rfl rfl rfl rfl rfl rfl (fun z=>⟨rfl,trivial⟩) rfl
def anB:ft Tryz.prog G 5:=anI (fun (x:UInt8)=>x) (fun x=>x) (fun x=>x) (fun o=>by cases o<;>rfl) (fun _=>rfl) (fun _=>rfl) Tryz.t5 rfl rfl (fun _ _ _=>Iff.rfl) Tryz.type5 rfl rfl rfl
def anG:ft Tryz.prog G 9:=h6 [.str] (fun (x:(List UInt8))=>(x,())) (fun y=>(y.1:(List UInt8))) (fun _=>rfl) (fun _=>rfl) ([]:(List UInt8)) Tryz.t9 (.string ⟨#[]⟩) rfl Tryz.type9 rfl rfl rfl rfl rfl rfl (fun z=>⟨rfl,trivial⟩) rfl
def ans:ft Tryz.prog G 22:=h6 [.ay 3] (fun (x:(List Int))=>(x,())) (fun y=>(y.1:(List Int))) (fun _=>rfl) (fun _=>rfl) ([]:(List Int)) Tryz.t22 (.slice aqS 0 0) rfl Tryz.type22 rfl rfl rfl rfl rfl rfl (fun z=>⟨.inl ⟨rfl,rfl⟩,trivial⟩) rfl
def anE:ft Tryz.prog G 63:=h6 [.int .i64, .str, .int .i64, .int .i64, .int .i64, .int .i64] (fun (x:aC)=>(x.kind,x.name,x.a,x.b,x.c,x.length,())) (fun y=>((aC.mk y.1 y.2.1 y.2.2.1 y.2.2.2.1 y.2.2.2.2.1 y.2.2.2.2.2.1):aC)) (fun _=>rfl) (fun _=>rfl) ((aC.mk 0 [] 0 0 0 0):aC) Tryz.t63 (.agg #[.int .i64 0, .string ⟨#[]⟩, .int .i64 0, .int .i64 0, .int .i64 0, .int .i64 0]) rfl Tryz.type63 rfl rfl rfl rfl rfl rfl (fun z=>⟨rfl,rfl,rfl,rfl,rfl,rfl,trivial⟩) rfl
def ant:ft Tryz.prog G 25:=h6 [.ay 63] (fun (x:(List aC))=>(x,())) (fun y=>(y.1:(List aC))) (fun _=>rfl) (fun _=>rfl) ([]:(List aC)) Tryz.t25 (.slice aqS 0 0) rfl Tryz.type25 rfl rfl rfl rfl rfl rfl (fun z=>⟨.inl ⟨rfl,rfl⟩,trivial⟩) rfl
def anv:ft Tryz.prog G 37:=h6 [.int .i64, .int .i64, .int .i64] (fun (x:aU)=>(x.ak,x.bm,x.out,())) (fun y=>((aU.mk y.1 y.2.1 y.2.2.1):aU)) (fun _=>rfl) (fun _=>rfl) ((aU.mk 0 0 0):aU) Tryz.t37 (.agg #[.int .i64 0, .int .i64 0, .int .i64 0]) rfl Tryz.type37 rfl rfl rfl rfl rfl rfl (fun z=>⟨rfl,rfl,rfl,trivial⟩) rfl
def anu:ft Tryz.prog G 31:=h6 [.ay 37] (fun (x:(List aU))=>(x,())) (fun y=>(y.1:(List aU))) (fun _=>rfl) (fun _=>rfl) ([]:(List aU)) Tryz.t31 (.slice aqS 0 0) rfl Tryz.type31 rfl rfl rfl rfl rfl rfl (fun z=>⟨.inl ⟨rfl,rfl⟩,trivial⟩) rfl
def anx:ft Tryz.prog G 43:=h6 [.bool, .int .i64, .int .i64, .int .i64] (fun (x:Act)=>(x.set,x.id,x.from_,x.to,())) (fun y=>((Act.mk y.1 y.2.1 y.2.2.1 y.2.2.2.1):Act)) (fun _=>rfl) (fun _=>rfl) ((Act.mk aqT 0 0 0):Act) Tryz.t43 (.agg #[.bool aqT, .int .i64 0, .int .i64 0, .int .i64 0]) rfl Tryz.type43 rfl rfl rfl rfl rfl rfl (fun z=>⟨rfl,rfl,rfl,rfl,trivial⟩) rfl
def anC:ft Tryz.prog G 51:=h6 [.int .i64, .int .i64] (fun (x:aW)=>(x.ak,x.eo,())) (fun y=>((aW.mk y.1 y.2.1):aW)) (fun _=>rfl) (fun _=>rfl) ((aW.mk 0 0):aW) Tryz.t51 (.agg #[.int .i64 0, .int .i64 0]) rfl Tryz.type51 rfl rfl rfl rfl rfl rfl (fun z=>⟨rfl,rfl,trivial⟩) rfl
def anz:ft Tryz.prog G 44:=h6 [.ay 51] (fun (x:(List aW))=>(x,())) (fun y=>(y.1:(List aW))) (fun _=>rfl) (fun _=>rfl) ([]:(List aW)) Tryz.t44 (.slice aqS 0 0) rfl Tryz.type44 rfl rfl rfl rfl rfl rfl (fun z=>⟨.inl ⟨rfl,rfl⟩,trivial⟩) rfl
def anA:ft Tryz.prog G 49:=h6 [.int .i64, .ay 37, .ay 51] (fun (x:bf)=>(x.gR,x.dW,x.dH,())) (fun y=>((bf.mk y.1 y.2.1 y.2.2.1):bf)) (fun _=>rfl) (fun _=>rfl) ((bf.mk 0 [] []):bf) Tryz.t49 (.agg #[.int .i64 0, .slice aqS 0 0, .slice aqS 0 0]) rfl Tryz.type49 rfl rfl rfl rfl rfl rfl (fun z=>⟨rfl, .inl ⟨rfl,rfl⟩, .inl ⟨rfl,rfl⟩,trivial⟩) rfl
def anD:ft Tryz.prog G 55:=h6 [.ay 3, .int .i64] (fun (x:er)=>(x.l,x.n,())) (fun y=>((er.mk y.1 y.2.1):er)) (fun _=>rfl) (fun _=>rfl) ((er.mk [] 0):er) Tryz.t55 (.agg #[.slice aqS 0 0, .int .i64 0]) rfl Tryz.type55 rfl rfl rfl rfl rfl rfl (fun z=>⟨.inl ⟨rfl,rfl⟩,rfl,trivial⟩) rfl
def anF:ft Tryz.prog G 84:=h6 [.mp 84 114 4] (fun (x:(List (dC×Bool)))=>(x,())) (fun y=>(y.1:(List (dC×Bool)))) (fun _=>rfl) (fun _=>rfl) ([]:(List (dC×Bool))) Tryz.t84 (.map aqS) rfl Tryz.type84 rfl rfl rfl rfl rfl rfl (fun z=>⟨.inl ⟨rfl,rfl⟩,trivial⟩) rfl
def anH:ft Tryz.prog G 92:=h6 [.mp 92 96 3] (fun (x:(List (Place×Int)))=>(x,())) (fun y=>(y.1:(List (Place×Int)))) (fun _=>rfl) (fun _=>rfl) ([]:(List (Place×Int))) Tryz.t92 (.map aqS) rfl Tryz.type92 rfl rfl rfl rfl rfl rfl (fun z=>⟨.inl ⟨rfl,rfl⟩,trivial⟩) rfl
def ZM:ft Tryz.prog G 96:=h6 [.int .i64, .int .i64] (fun (x:Place)=>(x.ak,x.bm,())) (fun y=>((Place.mk y.1 y.2.1):Place)) (fun _=>rfl) (fun _=>rfl) ((Place.mk 0 0):Place) Tryz.t96 (.agg #[.int .i64 0, .int .i64 0]) rfl Tryz.type96 rfl rfl rfl rfl rfl rfl (fun z=>⟨rfl,rfl,trivial⟩) rfl
def amH:ft Tryz.prog G 100:=h6 [.mp 100 3 3] (fun (x:(List (Int×Int)))=>(x,())) (fun y=>(y.1:(List (Int×Int)))) (fun _=>rfl) (fun _=>rfl) ([]:(List (Int×Int))) Tryz.t100 (.map aqS) rfl Tryz.type100 rfl rfl rfl rfl rfl rfl (fun z=>⟨.inl ⟨rfl,rfl⟩,trivial⟩) rfl
def amI:ft Tryz.prog G 111:=h6 [.mp 111 9 4] (fun (x:(List ((List UInt8)×Bool)))=>(x,())) (fun y=>(y.1:(List ((List UInt8)×Bool)))) (fun _=>rfl) (fun _=>rfl) ([]:(List ((List UInt8)×Bool))) Tryz.t111 (.map aqS) rfl Tryz.type111 rfl rfl rfl rfl rfl rfl (fun z=>⟨.inl ⟨rfl,rfl⟩,trivial⟩) rfl
def Ze:ft Tryz.prog G 114:=h6 [.int .i64, .int .i64] (fun (x:dC)=>(x.a0,x.c4,())) (fun y=>((dC.mk y.1 y.2.1):dC)) (fun _=>rfl) (fun _=>rfl) ((dC.mk 0 0):dC) Tryz.t114 (.agg #[.int .i64 0, .int .i64 0]) rfl Tryz.type114 rfl rfl rfl rfl rfl rfl (fun z=>⟨rfl,rfl,trivial⟩) rfl
def amJ:ft Tryz.prog G 116:=h6 [.mp 116 122 3] (fun (x:(List (Step×Int)))=>(x,())) (fun y=>(y.1:(List (Step×Int)))) (fun _=>rfl) (fun _=>rfl) ([]:(List (Step×Int))) Tryz.t116 (.map aqS) rfl Tryz.type116 rfl rfl rfl rfl rfl rfl (fun z=>⟨.inl ⟨rfl,rfl⟩,trivial⟩) rfl
def Zf:ft Tryz.prog G 122:=h6 [.int .i64, .int .i64] (fun (x:Step)=>(x.ak,x.bm,())) (fun y=>((Step.mk y.1 y.2.1):Step)) (fun _=>rfl) (fun _=>rfl) ((Step.mk 0 0):Step) Tryz.t122 (.agg #[.int .i64 0, .int .i64 0]) rfl Tryz.type122 rfl rfl rfl rfl rfl rfl (fun z=>⟨rfl,rfl,trivial⟩) rfl
def amK:ft Tryz.prog G 125:=h6 [.ay 63, .ay 37, .ay 51, .mp 84 114 4] (fun (x:dI)=>(x.l,x.r,x.cS,x.seen,())) (fun y=>((dI.mk y.1 y.2.1 y.2.2.1 y.2.2.2.1):dI)) (fun _=>rfl) (fun _=>rfl) ((dI.mk [] [] [] []):dI) Tryz.t125 (.agg #[.slice aqS 0 0, .slice aqS 0 0, .slice aqS 0 0, .map aqS]) rfl Tryz.type125 rfl rfl rfl rfl rfl rfl (fun z=>⟨.inl ⟨rfl,rfl⟩, .inl ⟨rfl,rfl⟩, .inl ⟨rfl,rfl⟩, .inl ⟨rfl,rfl⟩,trivial⟩) rfl
def amL:ft Tryz.prog G 127:=h6 [.fn] (fun (x:(Option Nat))=>(x,())) (fun y=>(y.1:(Option Nat))) (fun _=>rfl) (fun _=>rfl) ((aqS:Option Nat):(Option Nat)) Tryz.t127 (.nilFunc) rfl Tryz.type127 rfl rfl rfl rfl rfl rfl (fun z=>⟨rfl,trivial⟩) rfl
def amM:ft Tryz.prog G 130:=h6 [.mp 130 3 4] (fun (x:(List (Int×Bool)))=>(x,())) (fun y=>(y.1:(List (Int×Bool)))) (fun _=>rfl) (fun _=>rfl) ([]:(List (Int×Bool))) Tryz.t130 (.map aqS) rfl Tryz.type130 rfl rfl rfl rfl rfl rfl (fun z=>⟨.inl ⟨rfl,rfl⟩,trivial⟩) rfl
def amd:ft Tryz.prog G 132:=h6 [.mp 132 135 4] (fun (x:(List (dJ×Bool)))=>(x,())) (fun y=>(y.1:(List (dJ×Bool)))) (fun _=>rfl) (fun _=>rfl) ([]:(List (dJ×Bool))) Tryz.t132 (.map aqS) rfl Tryz.type132 rfl rfl rfl rfl rfl rfl (fun z=>⟨.inl ⟨rfl,rfl⟩,trivial⟩) rfl
def ame:ft Tryz.prog G 133:=h6 [.fn] (fun (x:(Option Nat))=>(x,())) (fun y=>(y.1:(Option Nat))) (fun _=>rfl) (fun _=>rfl) ((aqS:Option Nat):(Option Nat)) Tryz.t133 (.nilFunc) rfl Tryz.type133 rfl rfl rfl rfl rfl rfl (fun z=>⟨rfl,trivial⟩) rfl
def Zg:ft Tryz.prog G 135:=h6 [.int .i64, .int .i64] (fun (x:dJ)=>(x.ak,x.node,())) (fun y=>((dJ.mk y.1 y.2.1):dJ)) (fun _=>rfl) (fun _=>rfl) ((dJ.mk 0 0):dJ) Tryz.t135 (.agg #[.int .i64 0, .int .i64 0]) rfl Tryz.type135 rfl rfl rfl rfl rfl rfl (fun z=>⟨rfl,rfl,trivial⟩) rfl
def aeE:mc Tryz.prog G 37:=WG [.int .i64, .int .i64, .int .i64] (fun (x:aU)=>(x.ak,x.bm,x.out,())) (fun y=>((aU.mk y.1 y.2.1 y.2.2.1):aU)) (fun _=>rfl) _ (fun (x y:aU)=>decide (x=y)) rfl (fun (x y:aU)=>decide_eq_true_iff) Tryz.underlying37 (by kernel_rfl) (by kernel_rfl) (by kernel_rfl)
def aeG:mc Tryz.prog G 51:=WG [.int .i64, .int .i64] (fun (x:aW)=>(x.ak,x.eo,())) (fun y=>((aW.mk y.1 y.2.1):aW)) (fun _=>rfl) _ (fun (x y:aW)=>decide (x=y)) rfl (fun (x y:aW)=>decide_eq_true_iff) Tryz.underlying51 (by kernel_rfl) (by kernel_rfl) (by kernel_rfl)
def aaJ:Q0 Tryz.prog G 5:=⟨fun xs=>xs,fun xs=>xs,fun _ _ _ h=>h,fun _ _ _ _ _ _ h=>h,fun _ _ _ _ _ _ h=>h,Tryz.t5,Tryz.underlying5,Tryz.type5,rfl⟩
def amZ:pu Tryz.prog G 114:=adW .i64 (inferInstance:DecidableEq dC) Ze (fun (x:dC)=>(x.a0,x.c4,())) (fun y=>((dC.mk y.1 y.2.1):dC)) (fun _=>rfl) (e:=3) Tryz.t114 Tryz.t3 rfl Tryz.underlying114 Tryz.underlying3 Tryz.type3 rfl Tryz.type114 rfl (fun _=>rfl)
def Iz:AV Tryz.prog G 4:=anR (fun n=>n) (fun n=>n) (fun _=>rfl) Tryz.t4 Tryz.underlying4 Tryz.type4 (ahO Tryz.underlying4 Tryz.type4 rfl) (fun _=>rfl) rfl
def adU:pu Tryz.prog G 96:=MR (inferInstance:DecidableEq Place) ZM [.int .i64, .int .i64] (fun (x:Place)=>(x.ak,x.bm,())) (fun y=>((Place.mk y.1 y.2.1):Place)) (fun _=>rfl) _ Tryz.t96 rfl Tryz.underlying96 Tryz.type96 (by kernel_rfl) rfl (by kernel_rfl) (fun _=>rfl) (fun _=>rfl)
def Iy:AV Tryz.prog G 3:=anS .i64 (fun n=>n) (fun n=>n) (fun _=>rfl) Tryz.t3 Tryz.underlying3 Tryz.type3 (amb Tryz.underlying3 Tryz.type3 rfl) (fun _=>rfl) rfl
def MQ:pu Tryz.prog G 3:=adV .i64 (fun n=>n) (inferInstance:DecidableEq Int) Tryz.t3 Tryz.underlying3 (aix Tryz.underlying3 Tryz.type3 rfl) (fun _=>rfl)
def adT:pu Tryz.prog G 9:=adX (fun n=>n) (inferInstance:DecidableEq (List UInt8)) Tryz.underlying9 (aiy Tryz.underlying9 Tryz.type9 rfl) (fun _=>rfl)
def am0:pu Tryz.prog G 122:=MR (inferInstance:DecidableEq Step) Zf [.int .i64, .int .i64] (fun (x:Step)=>(x.ak,x.bm,())) (fun y=>((Step.mk y.1 y.2.1):Step)) (fun _=>rfl) _ Tryz.t122 rfl Tryz.underlying122 Tryz.type122 (by kernel_rfl) rfl (by kernel_rfl) (fun _=>rfl) (fun _=>rfl)
def am1:pu Tryz.prog G 135:=MR (inferInstance:DecidableEq dJ) Zg [.int .i64, .int .i64] (fun (x:dJ)=>(x.ak,x.node,())) (fun y=>((dJ.mk y.1 y.2.1):dJ)) (fun _=>rfl) _ Tryz.t135 rfl Tryz.underlying135 Tryz.type135 (by kernel_rfl) rfl (by kernel_rfl) (fun _=>rfl) (fun _=>rfl)
def als:QZ Tryz.prog G 150:=⟨3,64,ZL,Tryz.t150, .agg #[.int .i64 0, .int .i64 0, .int .i64 0, .int .i64 0, .int .i64 0, .int .i64 0, .int .i64 0, .int .i64 0, .int .i64 0, .int .i64 0, .int .i64 0, .int .i64 0, .int .i64 0, .int .i64 0, .int .i64 0, .int .i64 0, .int .i64 0, .int .i64 0, .int .i64 0, .int .i64 0, .int .i64 0, .int .i64 0, .int .i64 0, .int .i64 0, .int .i64 0, .int .i64 0, .int .i64 0, .int .i64 0, .int .i64 0, .int .i64 0, .int .i64 0, .int .i64 0, .int .i64 0, .int .i64 0, .int .i64 0, .int .i64 0, .int .i64 0, .int .i64 0, .int .i64 0, .int .i64 0, .int .i64 0, .int .i64 0, .int .i64 0, .int .i64 0, .int .i64 0, .int .i64 0, .int .i64 0, .int .i64 0, .int .i64 0, .int .i64 0, .int .i64 0, .int .i64 0, .int .i64 0, .int .i64 0, .int .i64 0, .int .i64 0, .int .i64 0, .int .i64 0, .int .i64 0, .int .i64 0, .int .i64 0, .int .i64 0, .int .i64 0, .int .i64 0],Tryz.underlying150,Tryz.type150,rfl,rfl,rfl,rfl,rfl⟩
def ahI:py Tryz.prog G:=Qo (t:=51) [.int .i64, .int .i64] (fun (x:aW)=>(x.ak,x.eo,())) rfl rfl ((aW.mk 0 0):aW) (fun (x:aW)=>x.ak) O5 36 37 rfl (by kernel_rfl) Tryz.isAgg51 Tryz.sizeOf51 (auk Tryz.func37 (by kernel_rfl) rfl) rfl aiC
def ahJ:py Tryz.prog G:=Qo (t:=51) [.int .i64, .int .i64] (fun (x:aW)=>(x.ak,x.eo,())) rfl rfl ((aW.mk 0 0):aW) (fun (x:aW)=>x.ak) O5 36 64 rfl (by kernel_rfl) Tryz.isAgg51 Tryz.sizeOf51 (auk Tryz.func64 (by kernel_rfl) rfl) rfl aiD
def It:py Tryz.prog G:=Qo (t:=51) [.int .i64, .int .i64] (fun (x:aW)=>(x.ak,x.eo,())) rfl rfl ((aW.mk 0 0):aW) (fun (x:aW)=>x.ak) O5 36 89 rfl (by kernel_rfl) Tryz.isAgg51 Tryz.sizeOf51 (auk Tryz.func89 (by kernel_rfl) rfl) rfl aiE
def bh:dx Tryz.prog D where
 G:=G
 S:=[ahI,ahJ,It]
 I:=fun t=>match t with|3=>aqP ZL|4=>aqP anw|5=>aqP anB|9=>aqP anG|22=>aqP ans|63=>aqP anE|25=>aqP ant|37=>aqP anv|31=>aqP anu|43=>aqP anx|51=>aqP anC|44=>aqP anz|49=>aqP anA|55=>aqP anD|84=>aqP anF|92=>aqP anH|96=>aqP ZM|100=>aqP amH|111=>aqP amI|114=>aqP Ze|116=>aqP amJ|122=>aqP Zf|125=>aqP amK|127=>aqP amL|130=>aqP amM|132=>aqP amd|133=>aqP ame|135=>aqP Zg|_=>aqS
 A:=fun t=>match t with|150=>aqP als|_=>aqS
 Jf:=fun k v=>match k,v with|3,3=>aqP (vW MQ Iy)|3,4=>aqP (vW MQ Iz)|9,4=>aqP (vW adT Iz)|96,3=>aqP (vW adU Iy)|114,4=>aqP (vW amZ Iz)|122,3=>aqP (vW am0 Iy)|135,4=>aqP (vW am1 Iz)|_,_=>aqS
 B:=fun t=>match t with|5=>aqP aaJ|_=>aqS
 Q:=fun t=>match t with|37=>aqP aeE|51=>aqP aeG|_=>aqS
 F:=fun _ _ _=>aqT
 C:=fun _ _ _ _ _=>aqS
def vb (N:Nat):cz bh:=cz.nil
def Lc:bY D:=⟨6,1,[.v 0 (.ay 3)],[],aqS,0,[.o 2 (.box 55)],[(2, .box 0 0)],[.tmp 2],aqT⟩
def Sp (N:Nat):Lc.F:=fun r x=>Aq N x.1
theorem apg (N:Nat):bX bh Lc (Sp N):=aA.fn (aA.nil:aA (vb N).aJ (bn Tryz.f6)) Tryz.func6
def SB (N:Nat):cz bh:=(vb N).da Lc (Sp N) (apg N)
def Ky:bY D:=⟨45,1,[.v 0 (.int .i64)],[],aqS,0,[.v 2 .str],[],[.tmp 2],aqQ⟩
def RK (N:Nat):Ky.F:=fun r x=>xE N x.1
theorem aoD (N:Nat):bX bh Ky (RK N):=aA.fn (aA.nil:aA (SB N).aJ (bn Tryz.f45)) Tryz.func45
def Jq (N:Nat):cz bh:=(SB N).da Ky (RK N) (aoD N)
def alf (N:Nat):aA (Jq N).aJ (bn Tryz.f20):=aA.aO aA.nil ⟨[1,1,0,1],[.o 0 (.recv 55), .v 5 (.int .i64), .v 11 .bool],[(0, .box 0 0)],[1],[⟨.normal,[.v 5 (.int .i64)],[]⟩],[0,1]⟩ fun x=>Ie N x.1 x.2.1 x.2.2.1
def alg (N:Nat):aA (Jq N).aJ (bn Tryz.f20):=aA.aO (alf N) ⟨[1,1,1,1,1,0,1],[.o 0 (.recv 55), .v 1 (.int .i64), .v 5 (.int .i64), .v 51 .bool],[(0, .box 0 0)],[1],[⟨.normal,[.v 5 (.int .i64)],[]⟩],[0]⟩ fun x=>P7 N x.2.1 x.2.2.1 x.2.2.2.1
def KI:bY D:=⟨20,2,[.v 1 (.int .i64)],[],aqP (0,55),2,[.v 4 (.int .i64), .u 0 (.recv 55)],[],[.tmp 4],aqT⟩
def RU (N:Nat):KI.F:=fun r x=>kA N r x.1
theorem aoN (N:Nat):bX bh KI (RU N):=aA.fn (alg N) Tryz.func20
def SO (N:Nat):cz bh:=(Jq N).da KI (RU N) (aoN N)
def KJ:bY D:=⟨46,2,[.v 1 (.ay 3)],[],aqP (0,55),2,[.v 4 (.int .i64), .u 0 (.recv 55)],[],[.tmp 4],aqT⟩
def RV (N:Nat):KJ.F:=fun r x=>IZ N r x.1
theorem aoO (N:Nat):bX bh KJ (RV N):=aA.fn (aA.nil:aA (SO N).aJ (bn Tryz.f46)) Tryz.func46
def SY (N:Nat):cz bh:=(SO N).da KJ (RV N) (aoO N)
def rq (N:Nat):oz bh:=(SY N).aJ.oJ fun x bG ae=>match x,bG,ae with| .tmp 42,aqS,aqP (.tmp 43)=>1| .tmp 45,aqP (.tmp 47),aqS=>1| .tmp 80,aqS,aqP (.tmp 83)=>2| .tmp 178,aqP (.const _),aqS=>2|_,_,_=>0
def ajZ (N:Nat):aA (rq N) (bn Tryz.f18):=aA.aO aA.nil ⟨[1,1,1,0,1],[.o 0 (.recv 55), .o 5 (.ay 63), .o 6 (.ay 3), .v 17 .bool],[(0, .box 0 0),(5, .c (.own 1)),(6, .c (.own 2))],[1,1,0],[⟨.normal,[.o 6 (.ay 3)],[(6, .c (.own 3))]⟩],[0,1,5,7]⟩ fun x=>H3 N x.2.2.1 x.2.2.2.1
def aj1 (N:Nat):aA (rq N) (bn Tryz.f18):=aA.aO (ajZ N) ⟨[1,1,1,1,0,0,0,0,0],[.o 0 (.recv 55), .v 1 (.int .i64), .o 5 (.ay 63), .o 6 (.ay 3), .v 7 (.int .i64)],[(0, .box 0 0),(5, .c (.own 1)),(6, .c (.own 2))],[1,1,1],[⟨.normal,[.v 33 .bool],[]⟩],[0,1,5,6,7]⟩ fun x=>H4 N x.2.1 x.2.2.1 x.2.2.2.1 x.2.2.2.2.1
def aj3 (N:Nat):aA (rq N) (bn Tryz.f18):=aA.aO (aj1 N) ⟨[1,1,1,1,0,0,0,1,0,1,1,1,1,0,1,0,0,1],[.o 0 (.recv 55), .o 5 (.ay 63), .o 6 (.ay 3), .o 10 (.box 63), .v 55 (.int .i64), .v 96 .bool],[(0, .box 0 0),(5, .c (.own 1)),(6, .c (.own 2)),(10, .box 3 0)],[1,1,1,1],[⟨.normal,[.v 96 .bool],[]⟩],[0,1,5,6,7,9,10,55]⟩ fun x=>H6 N x.2.2.2.2.1 x.2.2.2.2.2.1
def aju (N:Nat):aA (rq N) (bn Tryz.f18):=aA.aO (aj3 N) ⟨[1,1,1,1,0,0,0,1,0,1,1,1,1,0,1,0,1,1,1,1,1,1,1,0],[.o 0 (.recv 55), .o 5 (.ay 63), .o 6 (.ay 3), .o 10 (.box 63)],[(0, .box 0 0),(5, .c (.own 1)),(6, .c (.own 2)),(10, .box 3 0)],[2,1,1,1],[⟨.normal,[.u 0 (.recv 55), .v 72 .bool],[]⟩],[0,1,5,6,7,10]⟩ fun x=>PL N x.1 x.2.2.1
def aj2 (N:Nat):aA (rq N) (bn Tryz.f18):=aA.aO (aju N) ⟨[1,1,1,1,0,0,0,1,0,1,1,1,1,0,1],[.o 0 (.recv 55), .o 5 (.ay 63), .o 6 (.ay 3), .v 7 (.int .i64), .v 9 (.int .i64), .o 10 (.box 63), .v 55 (.int .i64)],[(0, .box 0 0),(5, .c (.own 1)),(6, .c (.own 2)),(10, .box 3 0)],[2,1,0,2],[⟨.normal,[.u 0 (.recv 55), .o 6 (.ay 3), .v 7 (.int .i64), .u 3 (.box 63)],[(6, .c (.own 4))]⟩],[0,1,5,10]⟩ fun x=>H5 N x.1 x.2.2.1 x.2.2.2.1 x.2.2.2.2.1 x.2.2.2.2.2.1 x.2.2.2.2.2.2.1
def aj0 (N:Nat):aA (rq N) (bn Tryz.f18):=aA.c8 (aj2 N) N ⟨[1,1,1,1,0,0],[.o 0 (.recv 55), .v 1 (.int .i64), .o 5 (.ay 63), .o 6 (.ay 3), .v 7 (.int .i64)],[(0, .box 0 0),(5, .c (.own 1)),(6, .c (.own 2))],[2,0,0],[⟨.exit 0,[.u 0 (.recv 55), .o 5 (.ay 63), .o 6 (.ay 3), .v 7 (.int .i64)],[(5, .c (.own 3)),(6, .c (.own 4))]⟩],[0]⟩ fun n x=>Dn N x.2.1 n x.1 x.2.2.1 x.2.2.2.1 x.2.2.2.2.1
def ajw (N:Nat):aA (rq N) (bn Tryz.f18):=aA.aO (aj0 N) ⟨[1,1,1,1,1,0,0,0,0,0],[.o 0 (.recv 55), .o 5 (.ay 63), .o 6 (.ay 3), .v 7 (.int .i64)],[(0, .box 0 0),(5, .c (.own 1)),(6, .c (.own 2))],[1,1,1],[⟨.normal,[.v 161 .bool],[]⟩],[0,5,6,7]⟩ fun x=>H7 N x.2.1 x.2.2.1 x.2.2.2.1
def ajx (N:Nat):aA (rq N) (bn Tryz.f18):=aA.aO (ajw N) ⟨[1,1,1,1,1,0,0,0,1,0,0,1],[.o 0 (.recv 55), .o 5 (.ay 63), .o 6 (.ay 3), .v 7 (.int .i64), .v 164 .bool],[(0, .box 0 0),(5, .c (.own 1)),(6, .c (.own 2))],[1,0,1],[⟨.normal,[.o 5 (.ay 63), .v 7 (.int .i64)],[(5, .c (.own 3))]⟩],[0,6]⟩ fun x=>PM N x.2.1 x.2.2.1 x.2.2.2.1 x.2.2.2.2.1
def ajv (N:Nat):aA (rq N) (bn Tryz.f18):=aA.c8 (ajx N) N ⟨[1,1,1,1,1,0,0],[.o 0 (.recv 55), .o 5 (.ay 63), .o 6 (.ay 3), .v 7 (.int .i64)],[(0, .box 0 0),(5, .c (.own 1)),(6, .c (.own 2))],[2,0,0],[⟨.exit 3,[.u 0 (.recv 55), .o 5 (.ay 63)],[(5, .c (.own 3))]⟩],[0]⟩ fun n x=>Dp N n x.1 x.2.1 x.2.2.1 x.2.2.2.1
def Kt:bY D:=⟨18,2,[.v 1 (.int .i64)],[],aqP (0,55),2,[.o 4 (.ay 63), .u 0 (.recv 55)],[(4, .c (.own 1))],[.tmp 4],aqT⟩
def RF (N:Nat):Kt.F:=fun r x=>DT N r x.1
theorem aoy (N:Nat):bX bh Kt (RF N):=aA.fn (ajv N) Tryz.func18
def Ju (N:Nat):cz bh:=(SY N).da Kt (RF N) (aoy N)
def akp (N:Nat):aA (Ju N).aJ (bn Tryz.f19):=aA.aO aA.nil ⟨[1,1,0,1,0,0,1,0],[.v 0 (.ay 63), .o 3 (.ay 3), .v 4 (.int .i64)],[(3, .c (.own 0))],[0],[⟨.normal,[.o 3 (.ay 3)],[(3, .c (.own 1))]⟩],[0,4]⟩ fun x=>PY N x.1 x.2.1 x.2.2.1
def ako (N:Nat):aA (Ju N).aJ (bn Tryz.f19):=aA.c8 (akp N) N ⟨[1,1,0,1,0],[.v 0 (.ay 63), .o 3 (.ay 3), .v 4 (.int .i64)],[(3, .c (.own 0))],[0],[⟨.exit 0,[.o 3 (.ay 3)],[(3, .c (.own 1))]⟩],[]⟩ fun n x=>zG N x.1 n x.2.1 x.2.2.1
def Kk:bY D:=⟨19,1,[.v 0 (.ay 63)],[],aqS,0,[.o 2 (.ay 3)],[(2, .c (.own 0))],[.tmp 2],aqT⟩
def Rx (N:Nat):Kk.F:=fun r x=>DS N x.1
theorem aoo (N:Nat):bX bh Kk (Rx N):=aA.fn (ako N) Tryz.func19
def Jv (N:Nat):cz bh:=(Ju N).da Kk (Rx N) (aoo N)
def alU (N:Nat):aA (Jv N).aJ (bn Tryz.f23):=aA.aO aA.nil ⟨[1,0,0],[.v 0 (.ay 63), .v 1 (.int .i64)],[],[],[⟨.normal,[.v 12 .bool],[]⟩],[0,1]⟩ fun x=>Qi N x.1 x.2.1
def alV (N:Nat):aA (Jv N).aJ (bn Tryz.f23):=aA.aO (alU N) ⟨[1,1,0,1,0,0,1],[.v 17 (.int .i64), .v 18 .bool],[],[],[⟨.normal,[.v 18 .bool],[]⟩],[0,1,17]⟩ fun x=>Qj N x.1 x.2.1
def K7:bY D:=⟨23,2,[.v 0 (.ay 63), .v 1 (.int .i64)],[],aqS,0,[.o 4 (.ay 3)],[(4, .c (.own 0))],[.tmp 4],aqT⟩
def Sj (N:Nat):K7.F:=fun r x=>ps N x.1 x.2.1
theorem apb (N:Nat):bX bh K7 (Sj N):=aA.fn (alV N) Tryz.func23
def Th (N:Nat):cz bh:=(Jv N).da K7 (Sj N) (apb N)
def al5 (N:Nat):aA (Th N).aJ (bn Tryz.f53):=aA.c8 aA.nil N ⟨[1,0,1,0],[.v 0 (.ay 3), .v 1 (.int .i64), .v 5 (.int .i64)],[],[],[⟨.exit 0,[],[]⟩,⟨.ret,[.v 4 .bool],[]⟩],[]⟩ fun n x=>uH N x.1 x.2.1 n x.2.2.1
def Ld:bY D:=⟨53,2,[.v 0 (.ay 3), .v 1 (.int .i64)],[],aqS,0,[.v 4 .bool],[],[.tmp 4],aqQ⟩
def Sq (N:Nat):Ld.F:=fun r x=>Ar N x.1 x.2.1
theorem aph (N:Nat):bX bh Ld (Sq N):=aA.fn (al5 N) Tryz.func53
def Jx (N:Nat):cz bh:=(Th N).da Ld (Sq N) (aph N)
def ajQ (N:Nat):aA (Jx N).aJ (bn Tryz.f24):=aA.aO aA.nil ⟨[1,0,1,0,0,1,0,0,0],[.v 0 (.ay 63), .v 1 (.int .i64), .v 2 (.int .i64), .v 7 (.int .i64)],[],[],[⟨.normal,[.v 23 .bool],[]⟩],[0,1,2,7]⟩ fun x=>PK N x.1 x.2.1 x.2.2.1 x.2.2.2.1
def ajP (N:Nat):aA (Jx N).aJ (bn Tryz.f24):=aA.c8 (ajQ N) N ⟨[1,0,1,0],[.v 0 (.ay 63), .v 1 (.int .i64), .v 2 (.int .i64), .v 7 (.int .i64)],[],[],[⟨.exit 0,[],[]⟩,⟨.ret,[.v 6 (.int .i64)],[]⟩],[]⟩ fun n x=>uA N x.1 x.2.1 x.2.2.1 n x.2.2.2.1
def Kq:bY D:=⟨24,3,[.v 0 (.ay 63), .v 1 (.int .i64), .v 2 (.int .i64)],[],aqS,0,[.v 6 (.int .i64)],[],[.tmp 6],aqQ⟩
def RC (N:Nat):Kq.F:=fun r x=>q9 N x.1 x.2.1 x.2.2.1
theorem aov (N:Nat):bX bh Kq (RC N):=aA.fn (ajP N) Tryz.func24
def Ts (N:Nat):cz bh:=(Jx N).da Kq (RC N) (aov N)
def KC:bY D:=⟨25,3,[.v 0 (.ay 63), .v 1 (.int .i64), .v 2 (.int .i64)],[],aqS,0,[.o 6 (.ay 3)],[(6, .c (.own 0))],[.tmp 6],aqT⟩
def RO (N:Nat):KC.F:=fun r x=>xF N x.1 x.2.1 x.2.2.1
theorem aoH (N:Nat):bX bh KC (RO N):=aA.fn (aA.nil:aA (Ts N).aJ (bn Tryz.f25)) Tryz.func25
def Jn (N:Nat):cz bh:=(Ts N).da KC (RO N) (aoH N)
def ak4 (N:Nat):aA (Jn N).aJ (bn Tryz.f9):=aA.aO aA.nil ⟨[1,1,1,1,1,1,0,1,0,0,1,0,0,1,1,1,1,0,0],[.o 0 (.recv 55), .v 1 (.ay 63), .o 6 (.box 37), .o 8 (.ay 37), .v 10 (.int .i64), .o 11 (.ay 3)],[(0, .box 0 0),(6, .box 1 0),(8, .c (.own 2)),(11, .c (.own 3))],[2,1,1,1],[⟨.normal,[.u 0 (.recv 55), .v 76 .bool],[]⟩],[0,1,6,8,9,11]⟩ fun x=>Ia N x.1 x.2.1 x.2.2.2.2.1 x.2.2.2.2.2.1
def ak3 (N:Nat):aA (Jn N).aJ (bn Tryz.f9):=aA.c8 (ak4 N) N ⟨[1,1,1,1,1,1,0,1,0],[.o 0 (.recv 55), .v 1 (.ay 63), .o 6 (.box 37), .o 8 (.ay 37), .v 9 (.int .i64)],[(0, .box 0 0),(6, .box 1 0),(8, .c (.own 2))],[2,0,0],[⟨.exit 0,[.u 0 (.recv 55), .o 8 (.ay 37)],[(8, .c (.own 3))]⟩,⟨.ret,[.u 0 (.recv 55), .o 4 (.ay 37)],[(4, .c (.own 3))]⟩],[0]⟩ fun n x=>sK N x.2.1 n x.1 x.2.2.1 x.2.2.2.1 x.2.2.2.2.1
def Kx:bY D:=⟨9,2,[.v 1 (.ay 63)],[],aqP (0,55),2,[.o 4 (.ay 37), .u 0 (.recv 55)],[(4, .c (.own 1))],[.tmp 4],aqT⟩
def RJ (N:Nat):Kx.F:=fun r x=>DX N r x.1
theorem aoC (N:Nat):bX bh Kx (RJ N):=aA.fn (ak3 N) Tryz.func9
def Jo (N:Nat):cz bh:=(Jn N).da Kx (RJ N) (aoC N)
def alP (N:Nat):aA (Jo N).aJ (bn Tryz.f7):=aA.aO aA.nil ⟨[1,1,1,1,0,1,0,0,1,0,0,1,1,0,1],[.o 0 (.recv 55), .v 6 (.ay 63), .o 7 (.ay 3), .o 8 (.ay 43), .o 11 (.box 43), .v 43 .bool],[(0, .box 0 0),(7, .c (.own 1)),(8, .c (.own 2)),(11, .box 3 0)],[2,1,1,2],[⟨.normal,[.u 0 (.recv 55), .u 3 (.box 43)],[]⟩],[0,1,6,7,8,9,11]⟩ fun x=>HR N x.1 x.2.1 x.2.2.1 x.2.2.2.2.1 x.2.2.2.2.2.1
def alO (N:Nat):aA (Jo N).aJ (bn Tryz.f7):=aA.c8 (alP N) N ⟨[1,1,1,1,0,1,0],[.o 0 (.recv 55), .v 1 (.int .i64), .v 6 (.ay 63), .o 7 (.ay 3), .o 8 (.ay 43), .v 9 (.int .i64)],[(0, .box 0 0),(7, .c (.own 1)),(8, .c (.own 2))],[2,1,0],[⟨.exit 0,[.u 0 (.recv 55), .o 8 (.ay 43)],[(8, .c (.own 3))]⟩],[0,6]⟩ fun n x=>w8 N x.2.1 x.2.2.1 x.2.2.2.1 n x.1 x.2.2.2.2.1 x.2.2.2.2.2.1
def K4:bY D:=⟨7,2,[.v 1 (.int .i64)],[],aqP (0,55),2,[.v 4 (.ay 63), .o 5 (.ay 43), .u 0 (.recv 55)],[(5, .c (.own 1))],[.tmp 4, .tmp 5],aqT⟩
def Sg (N:Nat):K4.F:=fun r x=>uY N r x.1
theorem ao9 (N:Nat):bX bh K4 (Sg N):=aA.fn (alO N) Tryz.func7
def SC (N:Nat):cz bh:=(Jo N).da K4 (Sg N) (ao9 N)
def alo (N:Nat):aA (SC N).aJ (bn Tryz.f74):=aA.aO aA.nil ⟨[1,0,1,0,0,1],[.o 1 (.box 63), .v 4 (.int .i64), .v 5 .bool],[(1, .box 0 0)],[1],[⟨.normal,[.v 5 .bool],[]⟩],[1,4]⟩ fun x=>P9 N x.2.1 x.2.2.1
def KP:bY D:=⟨74,1,[.v 0 (.agg 63)],[],aqS,0,[.o 2 (.ay 3)],[(2, .c (.own 0))],[.tmp 2],aqT⟩
def R1 (N:Nat):KP.F:=fun r x=>xG N x.1
theorem aoU (N:Nat):bX bh KP (R1 N):=aA.fn (alo N) Tryz.func74
def Ef (N:Nat):cz bh:=(SC N).da KP (R1 N) (aoU N)
def alp (N:Nat):aA (Ef N).aJ (bn Tryz.f105):=aA.aO aA.nil ⟨[1,0,0],[.v 0 .str],[],[],[⟨.normal,[.v 11 .bool],[]⟩],[0]⟩ fun x=>Qa N x.1
def alr (N:Nat):aA (Ef N).aJ (bn Tryz.f105):=aA.aO (alp N) ⟨[1,1,0,1,0,0,1,1,0,0,1,0],[.v 0 .str, .v 3 (.int .i64)],[],[],[⟨.normal,[.v 38 .bool],[]⟩],[0,13,14]⟩ fun x=>Ij N x.1 x.2.1
def alq (N:Nat):aA (Ef N).aJ (bn Tryz.f105):=aA.c8 (alr N) N ⟨[1,1,0,1,0],[.v 0 .str, .v 13 (.int .i64), .v 14 (.int .i64)],[],[],[⟨.exit 0,[],[]⟩,⟨.ret,[.v 2 .bool],[]⟩],[]⟩ fun n x=>uB N x.1 x.2.1 n x.2.2.1
def KQ:bY D:=⟨105,1,[.v 0 .str],[],aqS,0,[.v 2 .bool],[],[.tmp 2],aqQ⟩
def R2 (N:Nat):KQ.F:=fun r x=>I2 N x.1
theorem aoV (N:Nat):bX bh KQ (R2 N):=aA.fn (alq N) Tryz.func105
def rm (N:Nat):cz bh:=(Ef N).da KQ (R2 N) (aoV N)
def ajJ (N:Nat):aA (rm N).aJ (bn Tryz.f73):=aA.aO aA.nil ⟨[1,1,0,0],[.o 1 (.box 63), .o 3 (.ay 3)],[(1, .box 0 0),(3, .c (.own 1))],[1,1],[⟨.normal,[.v 17 .bool],[]⟩],[1,3]⟩ fun x=>PG N x.1 x.2.1
def ajL (N:Nat):aA (rm N).aJ (bn Tryz.f73):=aA.aO (ajJ N) ⟨[1,1,1,0,1,0,0,1,1,0,0,1,0,0],[.o 1 (.box 63), .v 5 (.int .i64)],[(1, .box 0 0)],[1],[⟨.normal,[.v 30 .bool],[]⟩],[1,3,4,5,18,19,20]⟩ fun x=>PH N x.2.1
def ajM (N:Nat):aA (rm N).aJ (bn Tryz.f73):=aA.c8 (ajL N) N ⟨[1,1,1,0,1,0,0,1,1,0,0,1,1,1,0],[.o 1 (.box 63), .v 5 (.int .i64), .v 33 (.ay 3), .v 34 (.int .i64), .v 35 (.int .i64)],[(1, .box 0 0)],[1],[⟨.exit 2,[],[]⟩,⟨.ret,[.v 2 .bool],[]⟩],[1,3,18,19,20]⟩ fun n x=>sF N x.2.1 x.2.2.1 x.2.2.2.1 n x.2.2.2.2.1
def ajK (N:Nat):aA (rm N).aJ (bn Tryz.f73):=aA.c8 (ajM N) N ⟨[1,1,1,0,1,0],[.o 1 (.box 63), .v 3 (.ay 3), .v 18 (.ay 3), .v 19 (.int .i64), .v 20 (.int .i64)],[(1, .box 0 0)],[1],[⟨.exit 0,[],[]⟩,⟨.ret,[.v 2 .bool],[]⟩],[1]⟩ fun n x=>sE N x.2.1 x.2.2.1 x.2.2.2.1 n x.2.2.2.2.1
def ajN (N:Nat):aA (rm N).aJ (bn Tryz.f73):=aA.aO (ajK N) ⟨[1,1,1,1,0,1,0,0],[.o 1 (.box 63)],[(1, .box 0 0)],[1],[⟨.normal,[.v 2 .bool],[]⟩],[]⟩ fun x=>PI N x.1
def ajO (N:Nat):aA (rm N).aJ (bn Tryz.f73):=aA.aO (ajN N) ⟨[1,1,1,1,1,0],[.o 1 (.box 63)],[(1, .box 0 0)],[1],[⟨.normal,[.v 2 .bool],[]⟩],[]⟩ fun x=>PJ N x.1
def Kp:bY D:=⟨73,1,[.v 0 (.agg 63)],[],aqS,0,[.v 2 .bool],[],[.tmp 2],aqQ⟩
def Jd (N:Nat):Kp.F:=fun r x=>IW N x.1
theorem aou (N:Nat):bX bh Kp (Jd N):=aA.fn (ajO N) Tryz.func73
def akj (N:Nat):aA (rm N).aJ (bn Tryz.f74):=aA.aO aA.nil ⟨[1,0,1,0,0,1],[.o 1 (.box 63), .v 4 (.int .i64), .v 5 .bool],[(1, .box 0 0)],[1],[⟨.normal,[.v 5 .bool],[]⟩],[1,4]⟩ fun x=>PX N x.2.1 x.2.2.1
def Kh:bY D:=⟨74,1,[.v 0 (.agg 63)],[],aqS,0,[],[(2, .c .fv)],[.tmp 2],aqT⟩
def Ru (N:Nat):Kh.F:=fun r x=>IT N x.1
theorem aol (N:Nat):bX bh Kh (Ru N):=aA.fn (akj N) Tryz.func74
def Et (N:Nat):oz bh:=(rm N).sub Kh (Ru N) (aol N)
def ajF (N:Nat):aA (Et N) (bn Tryz.f73):=aA.aO aA.nil ⟨[1,1,0,0],[.o 1 (.box 63)],[(1, .box 0 0),(3, .c .fv)],[1],[⟨.normal,[.v 17 .bool],[]⟩],[1,3]⟩ fun x=>PZ N
def ajG (N:Nat):aA (Et N) (bn Tryz.f73):=aA.c8 (ajF N) N ⟨[1,1,1,0,1,0],[.o 1 (.box 63), .v 19 (.int .i64), .v 20 (.int .i64)],[(1, .box 0 0),(3, .c .fv),(18, .c .fv)],[1],[⟨.exit 0,[],[]⟩],[1]⟩ fun n x=>Zv N x.2.1 n x.2.2.1
def ajH (N:Nat):aA (Et N) (bn Tryz.f73):=aA.aO (ajG N) ⟨[1,1,1,1,0,1,0,0],[.o 1 (.box 63)],[(1, .box 0 0)],[1],[⟨.normal,[.v 2 .bool],[]⟩],[]⟩ fun x=>Zw N x.1
def ajI (N:Nat):aA (Et N) (bn Tryz.f73):=aA.aO (ajH N) ⟨[1,1,1,1,1,0],[.o 1 (.box 63)],[(1, .box 0 0)],[1],[⟨.normal,[.v 2 .bool],[]⟩],[]⟩ fun x=>Zx N x.1
def TI:bY D:=⟨73,1,[.v 0 (.agg 63)],[],aqS,0,[.v 2 .bool],[],[.tmp 2],aqQ⟩
def Jc (N:Nat):TI.F:=fun r x=>QU N x.1
theorem aot (N:Nat):bX bh TI (Jc N):=aA.fn (ajI N) Tryz.func73
def KB:bY D:=Kp
def RN (N:Nat):KB.F:=fun r x=>FY (Jc N r x) (Jd N r x)
theorem aoG (N:Nat):bX bh KB (RN N):=bX.or (Ax:=Jc N) (Ay:=Jd N) rfl (fun r x y h=>ajg h) (aot N) (aou N)
def Jp (N:Nat):cz bh:=(rm N).da KB (RN N) (aoG N)
def ak8 (N:Nat):aA (Jp N).aJ (bn Tryz.f39):=aA.c8 aA.nil N ⟨[1,1,1,1,0,1,0,0,1,1,0,0,1,1,1,1,1,0],[.o 3 (.map 111 9 4), .o 4 (.map 100 3 3), .o 31 (.ay 3), .v 32 (.int .i64), .v 33 (.int .i64)],[(3, .c (.own 0)),(4, .c (.own 1)),(31, .c (.own 2))],[1,2,1],[⟨.exit 2,[.u 1 (.map 100 3 3)],[]⟩,⟨.ret,[.v 2 (.int .i64)],[]⟩],[3,4,14,15,16]⟩ fun n x=>sM N x.2.2.1 x.2.2.2.1 n x.2.1 x.2.2.2.2.1
def ak7 (N:Nat):aA (Jp N).aJ (bn Tryz.f39):=aA.c8 (ak8 N) N ⟨[1,1,1,1,0,1,0],[.o 3 (.map 111 9 4), .o 4 (.map 100 3 3), .v 14 (.ay 63), .v 15 (.int .i64), .v 16 (.int .i64)],[(3, .c (.own 0)),(4, .c (.own 1))],[0,0],[⟨.exit 0,[],[]⟩,⟨.ret,[.v 2 (.int .i64)],[]⟩],[]⟩ fun n x=>zJ N x.2.2.1 x.2.2.2.1 n x.1 x.2.1 x.2.2.2.2.1
def KA:bY D:=⟨39,1,[.v 0 (.ay 63)],[],aqS,0,[.v 2 (.int .i64)],[],[.tmp 2],aqQ⟩
def RM (N:Nat):KA.F:=fun r x=>s9 N x.1
theorem aoF (N:Nat):bX bh KA (RM N):=aA.fn (ak7 N) Tryz.func39
def SD (N:Nat):cz bh:=(Jp N).da KA (RM N) (aoF N)
def ald (N:Nat):aA (SD N).aJ (bn Tryz.f56):=aA.aO aA.nil ⟨[1,0],[.v 0 (.ay 63), .v 1 (.int .i64)],[],[],[⟨.normal,[.v 4 .bool],[]⟩],[]⟩ fun x=>Ic N x.1 x.2.1
def KG:bY D:=⟨56,2,[.v 0 (.ay 63), .v 1 (.int .i64)],[],aqS,0,[.v 4 .bool],[],[.tmp 4],aqQ⟩
def RS (N:Nat):KG.F:=fun r x=>uV N x.1 x.2.1
theorem aoL (N:Nat):bX bh KG (RS N):=aA.fn (ald N) Tryz.func56
def SE (N:Nat):cz bh:=(SD N).da KG (RS N) (aoL N)
def aln (N:Nat):aA (SE N).aJ (bn Tryz.f58):=aA.aO aA.nil ⟨[1,0,0],[.v 0 (.ay 63), .v 1 (.int .i64)],[],[],[⟨.normal,[.v 12 .bool],[]⟩],[0,1]⟩ fun x=>P8 N x.1 x.2.1
def KO:bY D:=⟨58,2,[.v 0 (.ay 63), .v 1 (.int .i64)],[],aqS,0,[.o 4 (.ay 3)],[(4, .c (.own 0))],[.tmp 4],aqT⟩
def R0 (N:Nat):KO.F:=fun r x=>uW N x.1 x.2.1
theorem aoT (N:Nat):bX bh KO (R0 N):=aA.fn (aln N) Tryz.func58
def SF (N:Nat):cz bh:=(SE N).da KO (R0 N) (aoT N)
def aiW (N:Nat):aA (SF N).aJ (bn Tryz.f116):=aA.c8 aA.nil N ⟨[1,0,1,0],[.v 0 (.ay 3), .v 1 (.int .i64), .v 7 (.int .i64), .v 8 (.int .i64)],[],[],[⟨.exit 0,[],[]⟩,⟨.ret,[.v 4 (.int .i64)],[]⟩],[]⟩ fun n x=>uK N x.1 x.2.1 x.2.2.1 n x.2.2.2.1
def J1:bY D:=⟨116,2,[.v 0 (.ay 3), .v 1 (.int .i64)],[],aqS,0,[.v 4 (.int .i64)],[],[.tmp 4],aqQ⟩
def Re (N:Nat):J1.F:=fun r x=>QS N x.1 x.2.1
theorem an6 (N:Nat):bX bh J1 (Re N):=aA.fn (aiW N) Tryz.func116
def SG (N:Nat):cz bh:=(SF N).da J1 (Re N) (an6 N)
def JZ:bY D:=⟨114,2,[.v 0 (.ay 3), .v 1 (.int .i64)],[],aqS,0,[.v 4 .bool],[],[.tmp 4],aqQ⟩
def Rb (N:Nat):JZ.F:=fun r x=>Ag N x.1 x.2.1
theorem an4 (N:Nat):bX bh JZ (Rb N):=aA.fn (aA.nil:aA (SG N).aJ (bn Tryz.f114)) Tryz.func114
def Eg (N:Nat):cz bh:=(SG N).da JZ (Rb N) (an4 N)
def akd (N:Nat):aA (Eg N).aJ (bn Tryz.f86):=aA.c8 aA.nil N ⟨[1,0,1,0,0,1,1,0,0,1,1,1,0],[.v 2 (.int .i64), .v 7 (.int .i64), .o 22 (.ay 3), .v 23 (.int .i64), .v 24 (.int .i64)],[(22, .c (.own 0))],[1],[⟨.exit 2,[],[]⟩,⟨.ret,[.v 6 (.int .i64)],[]⟩],[1,2,11,12,13]⟩ fun n x=>sB N x.1 x.2.1 x.2.2.1 x.2.2.2.1 n x.2.2.2.2.1
def akc (N:Nat):aA (Eg N).aJ (bn Tryz.f86):=aA.aO (akd N) ⟨[1,0,1,0,0,1,1,0],[.v 1 (.int .i64), .v 2 (.int .i64), .v 11 (.ay 63), .v 13 (.int .i64)],[],[],[⟨.normal,[],[]⟩,⟨.ret,[.v 6 (.int .i64)],[]⟩],[1,2,11,12,13]⟩ fun x=>PV N x.1 x.2.1 x.2.2.1 x.2.2.2.1
def akb (N:Nat):aA (Eg N).aJ (bn Tryz.f86):=aA.c8 (akc N) N ⟨[1,0,1,0],[.v 1 (.int .i64), .v 2 (.int .i64), .v 11 (.ay 63), .v 12 (.int .i64), .v 13 (.int .i64)],[],[],[⟨.exit 0,[],[]⟩,⟨.ret,[.v 6 (.int .i64)],[]⟩],[]⟩ fun n x=>uL N x.1 x.2.1 x.2.2.1 x.2.2.2.1 n x.2.2.2.2.1
def Kd:bY D:=⟨86,3,[.v 0 (.ay 63), .v 1 (.int .i64), .v 2 (.int .i64)],[],aqS,0,[.v 6 (.int .i64)],[],[.tmp 6],aqQ⟩
def Rq (N:Nat):Kd.F:=fun r x=>xD N x.1 x.2.1 x.2.2.1
theorem aoh (N:Nat):bX bh Kd (Rq N):=aA.fn (akb N) Tryz.func86
def SH (N:Nat):cz bh:=(Eg N).da Kd (Rq N) (aoh N)
def ajE (N:Nat):aA (SH N).aJ (bn Tryz.f60):=aA.c8 aA.nil N ⟨[1,1,0,1,0],[.v 2 (.int .i64), .o 7 (.ay 3), .v 14 (.int .i64), .v 15 (.int .i64)],[(7, .c (.own 0)),(13, .c (.own 0))],[0],[⟨.exit 0,[],[]⟩,⟨.ret,[.v 6 (.ay 3)],[]⟩],[]⟩ fun n x=>l2 N x.1 x.2.2.1 n x.2.1 x.2.2.2.1
def Ko:bY D:=⟨60,3,[.v 0 (.ay 63), .v 1 (.int .i64), .v 2 (.int .i64)],[],aqS,0,[.v 6 (.ay 3)],[],[.tmp 6],aqT⟩
def RB (N:Nat):Ko.F:=fun r x=>Al N x.1 x.2.1 x.2.2.1
theorem aos (N:Nat):bX bh Ko (RB N):=aA.fn (ajE N) Tryz.func60
def xV (N:Nat):cz bh:=(SH N).da Ko (RB N) (aos N)
def akx (N:Nat):aA (xV N).aJ (bn Tryz.f107):=aA.aO aA.nil ⟨[1,1,0,0],[.v 0 (.ay 63), .v 1 (.ay 37), .v 5 (.int .i64)],[],[],[⟨.normal,[.v 47 .bool],[]⟩],[0,1,5]⟩ fun x=>zM N x.1 x.2.1 x.2.2.1
def aky (N:Nat):aA (xV N).aJ (bn Tryz.f107):=aA.aO (akx N) ⟨[1,1,1,0,0],[.v 0 (.ay 63), .v 1 (.ay 37), .v 5 (.int .i64)],[],[],[⟨.normal,[.v 75 .bool],[]⟩],[0,1,5]⟩ fun x=>HO N x.1 x.2.1 x.2.2.1
def akA (N:Nat):aA (xV N).aJ (bn Tryz.f107):=aA.aO (aky N) ⟨[1,1,1,1,0,1,0,0,1,1,0,0,1,1,0,0],[.v 0 (.ay 63), .o 7 (.box 37), .o 8 (.box 37)],[(7, .box 0 0),(8, .box 1 0)],[1,1],[⟨.normal,[.v 108 .bool],[]⟩],[0,1,5,6,7,77,78,79]⟩ fun x=>HP N x.1 x.2.1 x.2.2.1
def akB (N:Nat):aA (xV N).aJ (bn Tryz.f107):=aA.aO (akA N) ⟨[1,1,1,1,0,1,0,0,1,1,0,0,1,1,1,0],[.v 0 (.ay 63), .v 5 (.int .i64), .v 6 (.int .i64), .o 7 (.box 37)],[(7, .box 0 0)],[1],[⟨.normal,[.v 124 .bool],[]⟩],[0,1,5,77,78,79]⟩ fun x=>HQ N x.1 x.2.1 x.2.2.1 x.2.2.2.1
def akz (N:Nat):aA (xV N).aJ (bn Tryz.f107):=aA.c8 (akB N) N ⟨[1,1,1,1,0,1,0],[.v 0 (.ay 63), .v 1 (.ay 37), .v 5 (.int .i64), .v 77 (.ay 37), .v 78 (.int .i64), .v 79 (.int .i64)],[],[],[⟨.exit 0,[],[]⟩,⟨.ret,[.v 4 .bool],[]⟩],[]⟩ fun n x=>uF N x.1 x.2.1 x.2.2.1 x.2.2.2.1 x.2.2.2.2.1 n x.2.2.2.2.2.1
def K3:bY D:=⟨107,2,[.v 0 (.ay 63), .v 1 (.ay 37)],[],aqS,0,[.v 4 .bool],[],[.tmp 4],aqQ⟩
def Sf (N:Nat):K3.F:=fun r x=>I5 N x.1 x.2.1
theorem ao8 (N:Nat):bX bh K3 (Sf N):=aA.fn (akz N) Tryz.func107
def SI (N:Nat):cz bh:=(xV N).da K3 (Sf N) (ao8 N)
def ale (N:Nat):aA (SI N).aJ (bn Tryz.f61):=aA.c8 aA.nil N ⟨[1,1,0,1,0],[.o 3 (.map 130 3 4), .v 7 (.ay 37), .v 8 (.int .i64), .v 9 (.int .i64)],[(3, .c (.own 0))],[0],[⟨.exit 0,[],[]⟩,⟨.ret,[.v 2 .bool],[]⟩],[]⟩ fun n x=>sO N x.2.1 x.2.2.1 n x.1 x.2.2.2.1
def KH:bY D:=⟨61,1,[.v 0 (.ay 37)],[],aqS,0,[.v 2 .bool],[],[.tmp 2],aqQ⟩
def RT (N:Nat):KH.F:=fun r x=>DY N x.1
theorem aoM (N:Nat):bX bh KH (RT N):=aA.fn (ale N) Tryz.func61
def SJ (N:Nat):cz bh:=(SI N).da KH (RT N) (aoM N)
def alc (N:Nat):aA (SJ N).aJ (bn Tryz.f88):=aA.aO aA.nil ⟨[1,0],[.v 0 (.ay 63), .v 1 (.ay 37)],[],[],[⟨.normal,[.v 4 .bool],[]⟩],[]⟩ fun x=>PQ N x.1 x.2.1
def KF:bY D:=⟨88,2,[.v 0 (.ay 63), .v 1 (.ay 37)],[],aqS,0,[.v 4 .bool],[],[.tmp 4],aqQ⟩
def RR (N:Nat):KF.F:=fun r x=>ta N x.1 x.2.1
theorem aoK (N:Nat):bX bh KF (RR N):=aA.fn (alc N) Tryz.func88
def SK (N:Nat):cz bh:=(SJ N).da KF (RR N) (aoK N)
def Kl:bY D:=⟨72,1,[.v 0 (.int .i64)],[],aqS,0,[.v 2 .bool],[],[.tmp 2],aqQ⟩
def Ry (N:Nat):Kl.F:=fun r x=>IV N x.1
theorem aop (N:Nat):bX bh Kl (Ry N):=aA.fn (aA.nil:aA (SK N).aJ (bn Tryz.f72)) Tryz.func72
def SL (N:Nat):cz bh:=(SK N).da Kl (Ry N) (aop N)
def Ka:bY D:=⟨38,2,[.v 0 (.int .i64), .v 1 (.int .i64)],[],aqS,0,[.v 4 (.int .i64)],[],[.tmp 4],aqQ⟩
def Rn (N:Nat):Ka.F:=fun r x=>Ak N x.1 x.2.1
theorem aoe (N:Nat):bX bh Ka (Rn N):=aA.fn (aA.nil:aA (SL N).aJ (bn Tryz.f38)) Tryz.func38
def Eh (N:Nat):cz bh:=(SL N).da Ka (Rn N) (aoe N)
def akn (N:Nat):aA (Eh N).aJ (bn Tryz.f62):=aA.aO aA.nil ⟨[1,1,1,0,1,0,0,1,1,0,0,1,1,0,1,1,0],[.o 6 (.ay 51), .o 8 (.box 37), .o 9 (.box 63)],[(6, .c (.own 0)),(8, .box 1 0),(9, .box 2 0)],[1,1,1],[⟨.normal,[.v 35 .bool],[]⟩],[0,6,8,9,14,15,16]⟩ fun x=>zF N x.2.1 x.2.2.1
def akm (N:Nat):aA (Eh N).aJ (bn Tryz.f62):=aA.aO (akn N) ⟨[1,1,1,0,1,0,0,1,1,0],[.v 0 (.ay 63), .o 6 (.ay 51), .v 14 (.ay 37), .v 16 (.int .i64)],[(6, .c (.own 0))],[0],[⟨.normal,[.o 6 (.ay 51)],[(6, .c (.own 1))]⟩],[0,14,15,16]⟩ fun x=>HZ N x.1 x.2.1 x.2.2.1 x.2.2.2.1
def akl (N:Nat):aA (Eh N).aJ (bn Tryz.f62):=aA.c8 (akm N) N ⟨[1,1,1,0,1,0],[.v 0 (.ay 63), .o 6 (.ay 51), .v 14 (.ay 37), .v 15 (.int .i64), .v 16 (.int .i64)],[(6, .c (.own 0))],[0],[⟨.exit 0,[.o 6 (.ay 51)],[(6, .c (.own 1))]⟩],[]⟩ fun n x=>q1 N x.1 x.2.2.1 x.2.2.2.1 n x.2.1 x.2.2.2.2.1
def Kj:bY D:=⟨62,2,[.v 0 (.ay 63), .v 1 (.ay 37)],[],aqS,0,[.o 4 (.ay 51), .v 5 (.int .i64)],[(4, .c (.own 0))],[.tmp 4, .tmp 5],aqT⟩
def Rw (N:Nat):Kj.F:=fun r x=>s7 N x.1 x.2.1
theorem aon (N:Nat):bX bh Kj (Rw N):=aA.fn (akl N) Tryz.func62
def SM (N:Nat):cz bh:=(Eh N).da Kj (Rw N) (aon N)
def aki (N:Nat):aA (SM N).aJ (bn Tryz.f90):=aA.c8 aA.nil N ⟨[1,1,0,1,0],[.o 3 (.map 130 3 4), .v 7 (.ay 37), .v 8 (.int .i64), .v 9 (.int .i64)],[(3, .c (.own 0))],[2],[⟨.exit 0,[.u 0 (.map 130 3 4)],[]⟩],[3]⟩ fun n x=>wV N x.2.1 x.2.2.1 n x.1 x.2.2.2.1
def Kf:bY D:=⟨90,1,[.v 0 (.ay 37)],[],aqS,0,[.o 2 (.map 130 3 4)],[(2, .c (.own 0))],[.tmp 2],aqT⟩
def Rs (N:Nat):Kf.F:=fun r x=>IS N x.1
theorem aoj (N:Nat):bX bh Kf (Rs N):=aA.fn (aki N) Tryz.func90
def SN (N:Nat):cz bh:=(SM N).da Kf (Rs N) (aoj N)
def ali (N:Nat):aA (SN N).aJ (bn Tryz.f94):=aA.aO aA.nil ⟨[1,0,0],[.o 2 (.box 63), .o 3 (.box 37)],[(2, .box 0 0),(3, .box 1 0)],[1,1],[⟨.normal,[.v 16 .bool],[]⟩],[2]⟩ fun x=>Ig N x.1 x.2.1
def KM:bY D:=⟨94,2,[.v 0 (.agg 63), .v 1 (.agg 37)],[],aqS,0,[.v 4 (.int .i64)],[],[.tmp 4],aqQ⟩
def RY (N:Nat):KM.F:=fun r x=>I1 N x.1 x.2.1
theorem aoR (N:Nat):bX bh KM (RY N):=aA.fn (ali N) Tryz.func94
def SP (N:Nat):cz bh:=(SN N).da KM (RY N) (aoR N)
def J7:gZ D:=⟨91,3,[.o 100000000 (.box 25), .o 100000001 (.eP 132 [(0,5)]), .o 100000002 (.eP 130 [(0,6)]), .o 100000003 (.jY 127 91 [7]), .o 100000004 (.jY 133 92 [0,1,2,3,4]), .o 100000005 (.map 132 135 4), .o 100000006 (.map 130 3 4), .v 0 (.int .i64), .v 1 (.int .i64), .o 2 (.eP 100 [(0,8)]), .o 2002000 (.map 100 3 3)],[(2, .box 7 0)],[1,1,1,1,1,1,1,1,2],[.v 5 (.int .i64), .u 8 (.map 100 3 3)],[],[5],aqT⟩
def Rk (N:Nat):J7.h2.F:=fun x=>xC N x.2.2.2.2.2.2.2.1 x.2.2.2.2.2.2.2.2.1 x.2.2.2.2.2.2.2.2.2.2.1
def aiL (N:Nat):aA (SP N).aJ (bn Tryz.f91):=aA.aO aA.nil ⟨[1,0,1,0],[.o 100000000 (.box 25), .o 100000001 (.eP 132 [(0,5)]), .o 100000002 (.eP 130 [(0,6)]), .o 100000003 (.jY 127 91 [7]), .o 100000004 (.jY 133 92 [0,1,2,3,4]), .o 100000005 (.map 132 135 4), .o 100000006 (.map 130 3 4), .v 1 (.int .i64), .o 2 (.eP 100 [(0,8)]), .v 6 (.int .i64), .v 7 .bool, .o 2002000 (.map 100 3 3)],[(2, .box 7 0)],[1,1,1,1,1,1,1,1,1],[⟨.normal,[.v 19 .bool],[]⟩],[0,1,2]⟩ fun x=>Hx N x.2.2.2.2.2.2.2.1 x.2.2.2.2.2.2.2.2.2.1 x.2.2.2.2.2.2.2.2.2.2.1
theorem aob (N:Nat):fw bh J7 (Rk N):=aA.Lt (aiL N) Tryz.func91
def SQ (N:Nat):cz bh:=(SP N).AX J7 (Rk N) (aob N)
def KL:bY D:=⟨93,2,[.v 0 (.agg 63), .v 1 (.int .i64)],[],aqS,0,[.v 4 (.int .i64)],[],[.tmp 4],aqQ⟩
def RX (N:Nat):KL.F:=fun r x=>pr N x.1 x.2.1
theorem aoQ (N:Nat):bX bh KL (RX N):=aA.fn (aA.nil:aA (SQ N).aJ (bn Tryz.f93)) Tryz.func93
def SR (N:Nat):cz bh:=(SQ N).da KL (RX N) (aoQ N)
def tq:gZ D:=⟨92,6,[.v 0 (.agg 135), .o 1 (.box 25), .o 2 (.eP 132 [(0,5)]), .o 3 (.eP 130 [(0,6)]), .o 4 (.jY 127 91 [7]), .o 5 (.jY 133 92 [0,1,2,3,4]), .o 2002000 (.map 132 135 4), .o 2003000 (.map 130 3 4), .o 200016385 (.eP 100 [(0,8)]), .o 201048641 (.map 100 3 3)],[(1, .box 0 0),(2, .box 1 0),(3, .box 2 0),(4, .box 3 0),(5, .box 4 0)],[1,1,1,1,1,2,1,1,2],[.v 7 (.int .i64), .u 5 (.map 132 135 4), .u 8 (.map 100 3 3)],[],[7],aqQ⟩
def u2 (N c9:Nat):tq.h2.F:=fun x=>s6 N c9 x.1 x.2.1 x.2.2.1 x.2.2.2.1 x.2.2.2.2.2.2.1 x.2.2.2.2.2.2.2.1 x.2.2.2.2.2.2.2.2.1 x.2.2.2.2.2.2.2.2.2.1
def aan (N c9:Nat) (aw:fw bh tq (u2 N c9)):cz bh:=(SR N).AX tq (u2 N c9) aw
def aiM (N c9:Nat) (aw:fw bh tq (u2 N c9)):aA (aan N c9 aw).aJ (bn Tryz.f92):=aA.aO aA.nil ⟨[1,1,0,0],[.o 1 (.box 25), .o 2 (.eP 132 [(0,5)]), .o 3 (.eP 130 [(0,6)]), .o 4 (.jY 127 91 [7]), .o 5 (.jY 133 92 [0,1,2,3,4]), .v 6 (.gd 135), .v 8 (.int .i64), .o 2002000 (.map 132 135 4), .o 2003000 (.map 130 3 4), .o 200016385 (.eP 100 [(0,8)]), .o 201048641 (.map 100 3 3)],[(1, .box 0 0),(2, .box 1 0),(3, .box 2 0),(4, .box 3 0),(5, .box 4 0)],[1,1,1,1,1,1,1,1,1],[⟨.normal,[.v 28 .bool],[]⟩],[1,2,3,4,5,6,8]⟩ fun x=>Hy N (s6 N c9) x.2.2.2.2.2.1 x.2.2.2.2.2.2.1 x.2.2.2.2.2.2.2.1 x.2.2.2.2.2.2.2.2.1
theorem aec (N c9:Nat) (aw:fw bh tq (u2 N c9)):fw bh tq (u2 N (c9+1)):=aA.Lt (aiM N c9 aw) Tryz.func92
theorem ZV (N:Nat):∀c9:Nat,fw bh tq (u2 N c9)
 |0=>fw.none fun x=>rfl
 |c9+1=>aec N c9 (ZV N c9)
def SS (N:Nat):cz bh:=(SR N).AX tq (u2 N N) (ZV N N)
def Tw (N:Nat):oz bh:=(SS N).aJ.oJ fun x bG ae=>match x,bG,ae with| .func 91,aqS,aqS=>5| .func 92,aqS,aqS=>5|_,_,_=>0
def ak6 (N:Nat):aA (Tw N) (bn Tryz.f63):=aA.aO aA.nil ⟨[1,1,1,1,1,1,1,0,1,0,0,1,1,0],[.o 2 (.box 25), .o 8 (.eP 100 [(0,3)]), .o 10 (.jY 133 92 [0,4,5,6,2]), .v 21 (.ay 37), .v 23 (.int .i64), .o 2008000 (.map 100 3 3), .o 200040962 (.eP 132 [(0,7)]), .o 200040963 (.eP 130 [(0,8)]), .o 200040964 (.jY 127 91 [1]), .o 202621569 (.map 132 135 4), .o 202621633 (.map 130 3 4)],[(2, .box 0 0),(8, .box 1 0),(10, .box 2 0)],[1,1,1,2,1,1,1,2,1],[⟨.normal,[.u 3 (.map 100 3 3), .u 7 (.map 132 135 4)],[]⟩,⟨.ret,[.v 5 (.int .i64)],[(4, .c .oa)]⟩],[2,8,10,21,22,23]⟩ fun x=>PN N x.1 x.2.2.2.1 x.2.2.2.2.1 x.2.2.2.2.2.1 x.2.2.2.2.2.2.2.2.2.1 x.2.2.2.2.2.2.2.2.2.2.1
def ak5 (N:Nat):aA (Tw N) (bn Tryz.f63):=aA.c8 (ak6 N) N ⟨[1,1,1,1,1,1,1,0,1,0],[.o 2 (.box 25), .o 8 (.eP 100 [(0,3)]), .o 10 (.jY 133 92 [0,4,5,6,2]), .v 21 (.ay 37), .v 22 (.int .i64), .v 23 (.int .i64), .o 2008000 (.map 100 3 3), .o 200040962 (.eP 132 [(0,7)]), .o 200040963 (.eP 130 [(0,8)]), .o 200040964 (.jY 127 91 [1]), .o 202621569 (.map 132 135 4), .o 202621633 (.map 130 3 4)],[(2, .box 0 0),(8, .box 1 0),(10, .box 2 0)],[1,2,1,0,2,1,1,0,1],[⟨.exit 0,[.u 1 (.eP 100 [(0,9)]), .o 2008000 (.map 100 3 3)],[]⟩,⟨.ret,[.v 5 (.int .i64)],[(4, .c .oa)]⟩],[8]⟩ fun n x=>sL N x.1 x.2.2.2.1 x.2.2.2.2.1 x.2.2.2.2.2.2.2.2.2.2.2.1 n x.2.1 x.2.2.2.2.2.1 x.2.2.2.2.2.2.1 x.2.2.2.2.2.2.2.1 x.2.2.2.2.2.2.2.2.2.2.1
def Kz:bY D:=⟨63,2,[.v 0 (.ay 63), .v 1 (.ay 37)],[],aqS,0,[.v 4 (.mp 100 3 3), .v 5 (.int .i64)],[],[.tmp 4, .tmp 5],aqT⟩
def RL (N:Nat):Kz.F:=fun r x=>An N x.1 x.2.1
theorem aoE (N:Nat):bX bh Kz (RL N):=aA.fn (ak5 N) Tryz.func63
def Jr (N:Nat):cz bh:=(SS N).da Kz (RL N) (aoE N)
def Sy:gh D:=zS D [1,1,1,1,1] 51 3 3 100
def aiA (N:Nat):Sy.F:=fun x=>Dl N x.1 x.2.1
def akq (N:Nat):aA (Jr N).aJ (bn Tryz.f29):=aA.add aA.nil Sy (aiA N) (agb (e:=51) (kt:=3) (vt:=3) (t:=100) (Jr N).aJ.ok (by kernel_rfl) .i64 .i64 rfl rfl (fun (a:Int) (b:Int)=>(aW.mk a b)) ((aW.mk 0 0):aW) (fun (x:aW)=>x.ak) (by kernel_rfl) (by kernel_rfl) (by kernel_rfl) (by kernel_rfl) rfl MQ.K Iy.V (fun _=>rfl) (fun _=>rfl) (by kernel_rfl) (fun a b bk wf=>by kernel_rfl) (fun bk wf=>by kernel_rfl) (fun bk wf=>by kernel_rfl) It.ad It.aw It.aP (asa (by kernel_rfl)) (by kernel_rfl) (by kernel_rfl)) (by kernel_rfl)
def Km:bY D:=⟨29,2,[.v 0 (.ay 63), .v 1 (.ay 37)],[],aqS,0,[.v 4 (.ay 51), .v 5 (.int .i64)],[],[.tmp 4, .tmp 5],aqT⟩
def Rz (N:Nat):Km.F:=fun r x=>nF N x.1 x.2.1
theorem aoq (N:Nat):bX bh Km (Rz N):=aA.fn (akq N) Tryz.func29
def SU (N:Nat):cz bh:=(Jr N).da Km (Rz N) (aoq N)
def aiV (N:Nat):aA (SU N).aJ (bn Tryz.f40):=aA.c8 aA.nil N ⟨[1,1,0,1,0],[.v 0 (.ay 51), .v 1 (.ay 51), .v 12 (.int .i64), .v 13 (.int .i64)],[],[],[⟨.exit 0,[],[]⟩,⟨.ret,[.v 4 .bool],[]⟩],[]⟩ fun n x=>sk N x.1 x.2.1 x.2.2.1 n x.2.2.2.1
def JX:bY D:=⟨40,2,[.v 0 (.ay 51), .v 1 (.ay 51)],[],aqS,0,[.v 4 .bool],[],[.tmp 4],aqQ⟩
def Q9 (N:Nat):JX.F:=fun r x=>IM N x.1 x.2.1
theorem an2 (N:Nat):bX bh JX (Q9 N):=aA.fn (aiV N) Tryz.func40
def xW (N:Nat):cz bh:=(SU N).da JX (Q9 N) (an2 N)
def ai1 (N:Nat):aA (xW N).aJ (bn Tryz.f30):=aA.c8 aA.nil N ⟨[1,0,1,0,0,1,1,0,0,1,1,0],[.o 2 (.box 49), .o 3 (.box 49), .o 6 (.box 37), .v 21 (.ay 37), .v 22 (.int .i64), .v 23 (.int .i64)],[(2, .box 0 0),(3, .box 1 0),(6, .box 2 0)],[1,1,1],[⟨.exit 2,[],[]⟩,⟨.ret,[.v 4 .bool],[]⟩],[2,3,14,15,16]⟩ fun n x=>sv N x.2.2.1 x.2.2.2.1 x.2.2.2.2.1 n x.2.2.2.2.2.1
def ai0 (N:Nat):aA (xW N).aJ (bn Tryz.f30):=aA.c8 (ai1 N) N ⟨[1,0,1,0],[.o 2 (.box 49), .o 3 (.box 49), .v 14 (.ay 37), .v 15 (.int .i64), .v 16 (.int .i64)],[(2, .box 0 0),(3, .box 1 0)],[1,1],[⟨.exit 0,[],[]⟩,⟨.ret,[.v 4 .bool],[]⟩],[2,3]⟩ fun n x=>sl N x.2.1 x.2.2.1 x.2.2.2.1 n x.2.2.2.2.1
def ai4 (N:Nat):aA (xW N).aJ (bn Tryz.f30):=aA.aO (ai0 N) ⟨[1,1,0,1,0,0,1,1,0,0,1,1,0,0,1,1,0,0,1,0],[.o 3 (.box 49), .o 10 (.box 51), .o 12 (.box 51)],[(3, .box 0 0),(10, .box 1 0),(12, .box 2 0)],[1,1,1],[⟨.normal,[.v 59 .bool],[]⟩],[3,10,35,36,37,42,43,44]⟩ fun x=>HF N x.2.1 x.2.2.1
def ai3 (N:Nat):aA (xW N).aJ (bn Tryz.f30):=aA.c8 (ai4 N) N ⟨[1,1,0,1,0,0,1,1,0,0,1,1,0],[.o 3 (.box 49), .o 10 (.box 51), .v 42 (.ay 51), .v 43 (.int .i64), .v 44 (.int .i64)],[(3, .box 0 0),(10, .box 1 0)],[1,1],[⟨.exit 6,[],[]⟩,⟨.ret,[.v 4 .bool],[]⟩],[3,35,36,37]⟩ fun n x=>sx N x.2.1 x.2.2.1 x.2.2.2.1 n x.2.2.2.2.1
def ai2 (N:Nat):aA (xW N).aJ (bn Tryz.f30):=aA.c8 (ai3 N) N ⟨[1,1,0,1,0],[.o 3 (.box 49), .v 35 (.ay 51), .v 36 (.int .i64), .v 37 (.int .i64)],[(3, .box 0 0)],[1],[⟨.exit 4,[],[]⟩,⟨.ret,[.v 4 .bool],[]⟩],[]⟩ fun n x=>sw N x.1 x.2.1 x.2.2.1 n x.2.2.2.1
def J3:bY D:=⟨30,2,[.v 0 (.agg 49), .v 1 (.agg 49)],[],aqS,0,[.v 4 .bool],[],[.tmp 4],aqQ⟩
def Rg (N:Nat):J3.F:=fun r x=>xB N x.1 x.2.1
theorem an8 (N:Nat):bX bh J3 (Rg N):=aA.fn (ai2 N) Tryz.func30
def vd (N:Nat):cz bh:=(xW N).da J3 (Rg N) (an8 N)
def aj6 (N:Nat):aA (vd N).aJ (bn Tryz.f15):=aA.aO aA.nil ⟨[1,0,0,0],[.v 0 (.ay 63), .v 1 (.ay 49)],[],[],[⟨.normal,[.v 18 .bool],[]⟩],[0,1]⟩ fun x=>Hz N x.1 x.2.1
def aj9 (N:Nat):aA (vd N).aJ (bn Tryz.f15):=aA.aO (aj6 N) ⟨[1,0,1,1,0,1,0,0,1,1,0,0,1,1,0,0],[.o 6 (.box 49), .v 7 (.ay 51), .v 8 (.int .i64)],[(6, .box 0 0)],[1],[⟨.normal,[.v 46 .bool],[]⟩],[0,1,5,6,19,20,21]⟩ fun x=>HB N x.1 x.2.1 x.2.2.1
def aka (N:Nat):aA (vd N).aJ (bn Tryz.f15):=aA.aO (aj9 N) ⟨[1,0,1,1,0,1,0,0,1,1,0,0,1,1,1,1,0,0,1,1,0,0,1,1,0],[.o 6 (.box 49), .o 10 (.box 49)],[(6, .box 0 0),(10, .box 1 0)],[1,1],[⟨.normal,[.v 66 .bool],[]⟩],[0,1,5,6,19,20,21,47,48,49]⟩ fun x=>HY N x.1 x.2.1
def aj' (N:Nat):aA (vd N).aJ (bn Tryz.f15):=aA.c8 (aka N) N ⟨[1,0,1,1,0,1,0,0,1,1,0,0,1,1,1,1,0],[.v 5 (.int .i64), .o 6 (.box 49), .v 47 (.ay 49), .v 48 (.int .i64), .v 49 (.int .i64)],[(6, .box 0 0)],[1],[⟨.exit 1,[],[]⟩,⟨.exit 2,[],[]⟩,⟨.ret,[.v 4 .bool],[]⟩],[0,1,19,20,21]⟩ fun n x=>wT N x.1 x.2.1 x.2.2.1 x.2.2.2.1 n x.2.2.2.2.1
def aj8 (N:Nat):aA (vd N).aJ (bn Tryz.f15):=aA.aO (aj' N) ⟨[1,0,1,1,0,1,0,0,1,1,0],[.v 0 (.ay 63), .v 1 (.ay 49), .v 19 (.ay 49), .v 21 (.int .i64)],[],[],[⟨.normal,[],[]⟩,⟨.ret,[.v 4 .bool],[]⟩],[0,1,19,20,21]⟩ fun x=>HA N x.1 x.2.1 x.2.2.1 x.2.2.2.1
def aj7 (N:Nat):aA (vd N).aJ (bn Tryz.f15):=aA.c8 (aj8 N) N ⟨[1,0,1,1,0,1,0],[.v 0 (.ay 63), .v 1 (.ay 49), .v 19 (.ay 49), .v 20 (.int .i64), .v 21 (.int .i64)],[],[],[⟨.exit 0,[],[]⟩,⟨.ret,[.v 4 .bool],[]⟩],[]⟩ fun n x=>sA N x.1 x.2.1 x.2.2.1 x.2.2.2.1 n x.2.2.2.2.1
def Kb:bY D:=⟨15,2,[.v 0 (.ay 63), .v 1 (.ay 49)],[],aqS,0,[.v 4 .bool],[],[.tmp 4],aqQ⟩
def Ro (N:Nat):Kb.F:=fun r x=>uU N x.1 x.2.1
theorem aof (N:Nat):bX bh Kb (Ro N):=aA.fn (aj7 N) Tryz.func15
def SV (N:Nat):cz bh:=(vd N).da Kb (Ro N) (aof N)
def Kc:bY D:=⟨26,2,[.v 0 (.ay 63), .v 1 (.ay 49)],[],aqS,0,[.v 4 (.int .i64)],[],[.tmp 4],aqQ⟩
def Rp (N:Nat):Kc.F:=fun r x=>DQ N x.1 x.2.1
theorem aog (N:Nat):bX bh Kc (Rp N):=aA.fn (aA.nil:aA (SV N).aJ (bn Tryz.f26)) Tryz.func26
def SX (N:Nat):cz bh:=(SV N).da Kc (Rp N) (aog N)
def J5:bY D:=⟨55,2,[.v 0 (.agg 49), .v 1 (.gd 3)],[],aqS,0,[.v 3 .bool],[],[.tmp 3],aqQ⟩
def Ri (N:Nat):J5.F:=fun r x=>QT N x.1 x.2.1
theorem an' (N:Nat):bX bh J5 (Ri N):=aA.fn (aA.nil:aA (SX N).aJ (bn Tryz.f55)) Tryz.func55
def SZ (N:Nat):cz bh:=(SX N).da J5 (Ri N) (an' N)
def aiU (N:Nat):aA (SZ N).aJ (bn Tryz.f54):=aA.c8 aA.nil N ⟨[1,0,1,0],[.v 0 (.ay 49), .v 1 (.fn 55 [3]), .v 7 (.int .i64), .v 8 (.int .i64)],[],[],[⟨.exit 0,[],[]⟩,⟨.ret,[.v 4 (.int .i64)],[]⟩],[]⟩ fun n x=>sj N x.1 x.2.1.1 x.2.2.1 n x.2.2.2.1
def JV:bY D:=⟨54,2,[.v 0 (.ay 49), .v 1 (.fn 55 [3])],[],aqS,0,[.v 4 (.int .i64)],[],[.tmp 4],aqQ⟩
def Q7 (N:Nat):JV.F:=fun r x=>QQ N x.1 x.2.1.1
theorem an0 (N:Nat):bX bh JV (Q7 N):=aA.fn (aiU N) Tryz.func54
def S0 (N:Nat):cz bh:=(SZ N).da JV (Q7 N) (an0 N)
def Kg:bY D:=⟨27,2,[.v 0 (.ay 49), .v 1 (.int .i64)],[],aqS,0,[.v 4 (.int .i64)],[],[.tmp 4],aqQ⟩
def Rt (N:Nat):Kg.F:=fun r x=>DR N x.1 x.2.1
theorem aok (N:Nat):bX bh Kg (Rt N):=aA.fn (aA.nil:aA (S0 N).aJ (bn Tryz.f27)) Tryz.func27
def S1 (N:Nat):cz bh:=(S0 N).da Kg (Rt N) (aok N)
def JY:bY D:=⟨65,1,[.v 0 (.ay 37)],[],aqS,0,[.o 2 (.ay 37)],[(2, .c (.own 0))],[.tmp 2],aqT⟩
def Ra (N:Nat):JY.F:=fun r x=>IN N x.1
theorem an3 (N:Nat):bX bh JY (Ra N):=aA.fn (aA.nil:aA (S1 N).aJ (bn Tryz.f65)) Tryz.func65
def S2 (N:Nat):cz bh:=(S1 N).da JY (Ra N) (an3 N)
def JW:bY D:=⟨66,1,[.v 0 (.ay 51)],[],aqS,0,[.o 2 (.ay 51)],[(2, .c (.own 0))],[.tmp 2],aqT⟩
def Q8 (N:Nat):JW.F:=fun r x=>IL N x.1
theorem an1 (N:Nat):bX bh JW (Q8 N):=aA.fn (aA.nil:aA (S2 N).aJ (bn Tryz.f66)) Tryz.func66
def S3 (N:Nat):cz bh:=(S2 N).da JW (Q8 N) (an1 N)
def J8:bY D:=⟨31,1,[.v 0 (.agg 49)],[],aqS,0,[.v 1000000 (.agg 49)],[],[.cell 2 49],aqT⟩
def Rl (N:Nat):J8.F:=fun r x=>DO N x.1
theorem aoc (N:Nat):bX bh J8 (Rl N):=aA.fn (aA.nil:aA (S3 N).aJ (bn Tryz.f31)) Tryz.func31
def Js (N:Nat):cz bh:=(S3 N).da J8 (Rl N) (aoc N)
def aiK (N:Nat):aA (Js N).aJ (bn Tryz.f11):=aA.aO aA.nil ⟨[1,1,1,1,1,0,1,0,0,1,1,0],[.v 9 (.int .i64), .o 10 (.ay 49), .v 24 (.ay 49), .v 26 (.int .i64)],[(10, .c (.own 0))],[0],[⟨.normal,[.o 10 (.ay 49)],[(10, .c (.own 1))]⟩],[9,24,25,26]⟩ fun x=>PU N x.1 x.2.1 x.2.2.1 x.2.2.2.1
def aiJ (N:Nat):aA (Js N).aJ (bn Tryz.f11):=aA.c8 (aiK N) N ⟨[1,1,1,1,1,0,1,0],[.v 9 (.int .i64), .o 10 (.ay 49), .v 24 (.ay 49), .v 25 (.int .i64), .v 26 (.int .i64)],[(10, .c (.own 0))],[0],[⟨.exit 0,[.o 10 (.ay 49)],[(10, .c (.own 1))]⟩],[]⟩ fun n x=>wS N x.1 x.2.2.1 x.2.2.2.1 n x.2.1 x.2.2.2.2.1
def J4:bY D:=⟨11,3,[.v 0 (.ay 63), .v 1 (.ay 49), .v 2 (.int .i64)],[],aqS,0,[.o 6 (.ay 49), .v 7 (.int .i64)],[(6, .c (.own 0))],[.tmp 6, .tmp 7],aqT⟩
def Rh (N:Nat):J4.F:=fun r x=>Ai N x.1 x.2.1 x.2.2.1
theorem an9 (N:Nat):bX bh J4 (Rh N):=aA.fn (aiJ N) Tryz.func11
def S4 (N:Nat):cz bh:=(Js N).da J4 (Rh N) (an9 N)
def Eu (N:Nat):oz bh:=(S4 N).aJ.oJ fun x bG ae=>match x,bG,ae with| .tmp 42,aqP (.const _),aqS=>2|_,_,_=>0
def ake (N:Nat):aA (Eu N) (bn Tryz.f57):=aA.c8 aA.nil N ⟨[1,1,1,0,1,0],[.v 1 (.int .i64), .o 5 (.map 92 96 3), .o 6 (.ay 96), .o 20 (.ay 3), .v 21 (.int .i64), .v 22 (.int .i64)],[(5, .c (.own 0)),(6, .c (.own 1)),(20, .c (.own 2))],[2,0,1],[⟨.exit 0,[.u 0 (.map 92 96 3), .o 6 (.ay 96)],[(6, .c (.own 3))]⟩],[0,5]⟩ fun n x=>wU N x.1 x.2.2.2.1 x.2.2.2.2.1 n x.2.1 x.2.2.1 x.2.2.2.2.2.1
def akh (N:Nat):aA (Eu N) (bn Tryz.f57):=aA.aO (ake N) ⟨[1,1,1,1,0,0,0,1,0,1,1,1,1,0,0,1,1,0],[.o 5 (.map 92 96 3), .o 6 (.ay 96), .o 10 (.box 96), .v 11 (.int .i64), .v 54 (.ay 3), .v 56 (.int .i64)],[(5, .c (.own 0)),(6, .c (.own 1)),(10, .box 2 0)],[2,0,1],[⟨.normal,[.u 0 (.map 92 96 3), .o 6 (.ay 96)],[(6, .c (.own 3))]⟩],[0,5,10,11,54,55,56]⟩ fun x=>PW N x.1 x.2.1 x.2.2.1 x.2.2.2.1 x.2.2.2.2.1 x.2.2.2.2.2.1
def akg (N:Nat):aA (Eu N) (bn Tryz.f57):=aA.c8 (akh N) N ⟨[1,1,1,1,0,0,0,1,0,1,1,1,1,0],[.o 5 (.map 92 96 3), .o 6 (.ay 96), .o 10 (.box 96), .v 11 (.int .i64), .v 54 (.ay 3), .v 55 (.int .i64), .v 56 (.int .i64)],[(5, .c (.own 0)),(6, .c (.own 1)),(10, .box 2 0)],[2,0,1],[⟨.exit 4,[.u 0 (.map 92 96 3), .o 6 (.ay 96)],[(6, .c (.own 3))]⟩],[0,5]⟩ fun n x=>sC N x.2.2.1 x.2.2.2.1 x.2.2.2.2.1 x.2.2.2.2.2.1 n x.1 x.2.1 x.2.2.2.2.2.2.1
def akf (N:Nat):aA (Eu N) (bn Tryz.f57):=aA.c8 (akg N) N ⟨[1,1,1,1,0,0],[.v 0 (.ay 63), .o 5 (.map 92 96 3), .o 6 (.ay 96)],[(5, .c (.own 0)),(6, .c (.own 1))],[2,0],[⟨.exit 2,[.u 0 (.map 92 96 3)],[]⟩],[5]⟩ fun n x=>Dk N x.1 n x.2.1 x.2.2.1
def Ke:bY D:=⟨57,2,[.v 0 (.ay 63), .v 1 (.int .i64)],[],aqS,0,[.o 4 (.map 92 96 3)],[(4, .c (.own 0))],[.tmp 4],aqT⟩
def Rr (N:Nat):Ke.F:=fun r x=>IQ N x.1 x.2.1
theorem aoi (N:Nat):bX bh Ke (Rr N):=aA.fn (akf N) Tryz.func57
def S5 (N:Nat):cz bh:=(S4 N).da Ke (Rr N) (aoi N)
def alh (N:Nat):aA (S5 N).aJ (bn Tryz.f87):=aA.c8 aA.nil N ⟨[1,1,0,1,0],[.v 3 (.int .i64), .v 6 (.ay 3), .v 7 (.int .i64), .v 8 (.int .i64)],[],[],[⟨.exit 0,[],[]⟩,⟨.ret,[.v 2 (.int .i64)],[]⟩],[3]⟩ fun n x=>w2 N x.1 x.2.1 x.2.2.1 n x.2.2.2.1
def KK:bY D:=⟨87,1,[.v 0 (.ay 3)],[],aqS,0,[.v 2 (.int .i64)],[],[.tmp 2],aqQ⟩
def RW (N:Nat):KK.F:=fun r x=>I0 N x.1
theorem aoP (N:Nat):bX bh KK (RW N):=aA.fn (alh N) Tryz.func87
def Ei (N:Nat):cz bh:=(S5 N).da KK (RW N) (aoP N)
def akI (N:Nat):aA (Ei N).aJ (bn Tryz.f59):=aA.aO aA.nil ⟨[1,1,0,1,0,0,1,1,0,0,1,1,1,1,0],[.v 1 (.mp 92 96 3), .o 9 (.box 96), .v 11 (.int .i64), .o 12 (.box 96), .v 13 .bool, .v 15 (.int .i64), .o 16 (.box 96), .v 17 (.int .i64)],[(9, .box 0 0),(12, .box 1 0),(16, .box 2 0)],[1,1,1],[⟨.normal,[.v 59 .bool],[]⟩],[0,1,2,9,11,12,13,15,16,20,21,22]⟩ fun x=>Qb N x.1 x.2.2.1 x.2.2.2.1 x.2.2.2.2.1 x.2.2.2.2.2.1 x.2.2.2.2.2.2.1 x.2.2.2.2.2.2.2.1
def akH (N:Nat):aA (Ei N).aJ (bn Tryz.f59):=aA.aO (akI N) ⟨[1,1,0,1,0,0,1,1,0],[.v 0 (.ay 63), .v 1 (.mp 92 96 3), .v 2 (.int .i64), .o 9 (.box 96), .v 11 (.int .i64), .o 12 (.box 96), .v 13 .bool, .v 20 (.ay 3), .v 22 (.int .i64)],[(9, .box 0 0),(12, .box 1 0)],[1,2],[⟨.normal,[.v 11 (.int .i64), .u 1 (.box 96), .v 13 .bool],[]⟩],[0,1,2,9,12,20,21,22]⟩ fun x=>Il N x.1 x.2.1 x.2.2.1 x.2.2.2.2.1 x.2.2.2.2.2.1 x.2.2.2.2.2.2.1 x.2.2.2.2.2.2.2.1 x.2.2.2.2.2.2.2.2.1
def akG (N:Nat):aA (Ei N).aJ (bn Tryz.f59):=aA.c8 (akH N) N ⟨[1,1,0,1,0],[.v 0 (.ay 63), .v 1 (.mp 92 96 3), .v 2 (.int .i64), .o 9 (.box 96), .v 11 (.int .i64), .o 12 (.box 96), .v 13 .bool, .v 20 (.ay 3), .v 21 (.int .i64), .v 22 (.int .i64)],[(9, .box 0 0),(12, .box 1 0)],[1,2],[⟨.exit 0,[.v 11 (.int .i64), .u 1 (.box 96), .v 13 .bool],[]⟩],[9,12]⟩ fun n x=>w5 N x.1 x.2.1 x.2.2.1 x.2.2.2.2.2.2.2.1 x.2.2.2.2.2.2.2.2.1 n x.2.2.2.2.1 x.2.2.2.2.2.1 x.2.2.2.2.2.2.1 x.2.2.2.2.2.2.2.2.2.1
def KU:bY D:=⟨59,4,[.v 0 (.ay 63), .v 1 (.mp 92 96 3), .v 2 (.int .i64), .v 3 (.ay 3)],[],aqS,0,[.v 8 (.int .i64), .v 1000001 (.agg 96), .v 10 .bool],[],[.tmp 8, .cell 9 96, .tmp 10],aqQ⟩
def R6 (N:Nat):KU.F:=fun r x=>I3 N x.1 x.2.1 x.2.2.1 x.2.2.2.1
theorem aoZ (N:Nat):bX bh KU (R6 N):=aA.fn (akG N) Tryz.func59
def Jt (N:Nat):cz bh:=(Ei N).da KU (R6 N) (aoZ N)
def akE (N:Nat):aA (Jt N).aJ (bn Tryz.f28):=aA.aO aA.nil ⟨[1,1,0,0],[.v 0 (.ay 63), .v 1 (.int .i64), .v 2 (.int .i64)],[],[],[⟨.normal,[.v 35 .bool],[]⟩],[0,1,2]⟩ fun x=>Ik N x.1 x.2.1 x.2.2.1
def akF (N:Nat):aA (Jt N).aJ (bn Tryz.f28):=aA.c8 (akE N) N ⟨[1,1,1,1,1,1,0,0],[.v 0 (.ay 63), .o 9 (.map 92 96 3), .o 10 (.ay 37), .v 11 (.ay 3)],[(9, .c (.own 0)),(10, .c (.own 1))],[1,0],[⟨.exit 0,[.o 10 (.ay 37)],[(10, .c (.own 2))]⟩,⟨.ret,[.v 7 (.int .i64)],[(6, .c .fv)]⟩],[]⟩ fun n x=>zK N x.1 x.2.1 n x.2.2.1 x.2.2.2.1
def KT:bY D:=⟨28,3,[.v 0 (.ay 63), .v 1 (.int .i64), .v 2 (.int .i64)],[],aqS,0,[.o 6 (.ay 37), .v 7 (.int .i64)],[(6, .c (.own 0))],[.tmp 6, .tmp 7],aqT⟩
def R5 (N:Nat):KT.F:=fun r x=>l7 N x.1 x.2.1 x.2.2.1
theorem aoY (N:Nat):bX bh KT (R5 N):=aA.fn (akF N) Tryz.func28
def S6 (N:Nat):cz bh:=(Jt N).da KT (R5 N) (aoY N)
def akr (N:Nat):aA (S6 N).aJ (bn Tryz.f10):=aA.c8 aA.nil N ⟨[1,1,1,1,1,1,1,0,1,0],[.o 13 (.box 49), .o 14 (.ay 49), .v 60 (.ay 49), .v 61 (.int .i64), .v 62 (.int .i64)],[(13, .box 0 0),(14, .c (.own 1))],[1,0],[⟨.exit 1,[.o 14 (.ay 49)],[(14, .c (.own 2))]⟩,⟨.ret,[.v 11 (.int .i64)],[(10, .c .fv)]⟩],[13]⟩ fun n x=>wW N x.1 x.2.2.1 x.2.2.2.1 n x.2.1 x.2.2.2.2.1
def Kn:bY D:=⟨10,5,[.v 0 (.ay 63), .v 1 (.ay 49), .v 2 (.int .i64), .v 3 (.int .i64), .v 4 (.int .i64)],[],aqS,0,[.o 10 (.ay 49), .v 11 (.int .i64)],[(10, .c (.own 0))],[.tmp 10, .tmp 11],aqT⟩
def RA (N:Nat):Kn.F:=fun r x=>s8 N x.1 x.2.1 x.2.2.1 x.2.2.2.1 x.2.2.2.2.1
theorem aor (N:Nat):bX bh Kn (RA N):=aA.fn (akr N) Tryz.func10
def S7 (N:Nat):cz bh:=(S6 N).da Kn (RA N) (aor N)
def J0:bY D:=⟨35,2,[.v 0 (.agg 51), .v 1 (.gd 51)],[],aqS,0,[.v 3 .bool],[],[.tmp 3],aqQ⟩
def Rc (N:Nat):J0.F:=fun r x=>QR N x.1 x.2.1
theorem an5 (N:Nat):bX bh J0 (Rc N):=aA.fn (aA.nil:aA (S7 N).aJ (bn Tryz.f35)) Tryz.func35
def S8 (N:Nat):cz bh:=(S7 N).da J0 (Rc N) (an5 N)
def aiT (N:Nat):aA (S8 N).aJ (bn Tryz.f69):=aA.c8 aA.nil N ⟨[1,0,1,0],[.v 0 (.ay 51), .v 1 (.fn 35 [51]), .v 7 (.int .i64), .v 8 (.int .i64)],[],[],[⟨.exit 0,[],[]⟩,⟨.ret,[.v 4 (.int .i64)],[]⟩],[]⟩ fun n x=>si N x.1 x.2.1.1 x.2.2.1 n x.2.2.2.1
def JU:bY D:=⟨69,2,[.v 0 (.ay 51), .v 1 (.fn 35 [51])],[],aqS,0,[.v 4 (.int .i64)],[],[.tmp 4],aqQ⟩
def Q6 (N:Nat):JU.F:=fun r x=>IK N x.1 x.2.1.1
theorem anZ (N:Nat):bX bh JU (Q6 N):=aA.fn (aiT N) Tryz.func69
def S9 (N:Nat):cz bh:=(S8 N).da JU (Q6 N) (anZ N)
def JT:bY D:=⟨34,2,[.v 0 (.ay 51), .v 1 (.fn 35 [51])],[],aqS,0,[.v 4 .bool],[],[.tmp 4],aqQ⟩
def Q5 (N:Nat):JT.F:=fun r x=>IJ N x.1 x.2.1.1
theorem anY (N:Nat):bX bh JT (Q5 N):=aA.fn (aA.nil:aA (S9 N).aJ (bn Tryz.f34)) Tryz.func34
def Ej (N:Nat):cz bh:=(S9 N).da JT (Q5 N) (anY N)
def aiZ (N:Nat):aA (Ej N).aJ (bn Tryz.f14):=aA.aO aA.nil ⟨[1,1,0,1,0,0,1,1,0,0,1,1,0,0,1,1,0],[.o 3 (.ay 51), .v 15 (.ay 51), .v 17 (.int .i64)],[(3, .c (.own 0))],[0],[⟨.normal,[.o 3 (.ay 51)],[(3, .c (.own 1))]⟩],[8,9,10,15,16,17]⟩ fun x=>PT N x.1 x.2.1 x.2.2.1
def aiY (N:Nat):aA (Ej N).aJ (bn Tryz.f14):=aA.c8 (aiZ N) N ⟨[1,1,0,1,0,0,1,1,0,0,1,1,0],[.o 3 (.ay 51), .v 15 (.ay 51), .v 16 (.int .i64), .v 17 (.int .i64)],[(3, .c (.own 0))],[0],[⟨.exit 2,[.o 3 (.ay 51)],[(3, .c (.own 1))]⟩],[8,9,10]⟩ fun n x=>xf N x.2.1 x.2.2.1 n x.1 x.2.2.2.1
def aiX (N:Nat):aA (Ej N).aJ (bn Tryz.f14):=aA.c8 (aiY N) N ⟨[1,1,0,1,0],[.o 3 (.ay 51), .v 8 (.ay 49), .v 9 (.int .i64), .v 10 (.int .i64)],[(3, .c (.own 0))],[0],[⟨.exit 0,[.o 3 (.ay 51)],[(3, .c (.own 1))]⟩],[]⟩ fun n x=>xe N x.2.1 x.2.2.1 n x.1 x.2.2.2.1
def J2:bY D:=⟨14,1,[.v 0 (.ay 49)],[],aqS,0,[.o 2 (.ay 51)],[(2, .c (.own 0))],[.tmp 2],aqT⟩
def Rf (N:Nat):J2.F:=fun r x=>Ah N x.1
theorem an7 (N:Nat):bX bh J2 (Rf N):=aA.fn (aiX N) Tryz.func14
def Ta (N:Nat):cz bh:=(Ej N).da J2 (Rf N) (an7 N)
def ama (N:Nat):aA (Ta N).aJ (bn Tryz.f41):=aA.c8 aA.nil N ⟨[1,0,1,0],[.v 0 (.ay 51), .v 1 (.int .i64), .v 5 (.int .i64)],[],[],[⟨.exit 0,[],[]⟩,⟨.ret,[.v 4 (.int .i64)],[]⟩],[]⟩ fun n x=>xc N x.1 x.2.1 n x.2.2.1
def Lh:bY D:=⟨41,2,[.v 0 (.ay 51), .v 1 (.int .i64)],[],aqS,0,[.v 4 (.int .i64)],[],[.tmp 4],aqQ⟩
def Su (N:Nat):Lh.F:=fun r x=>xL N x.1 x.2.1
theorem apl (N:Nat):bX bh Lh (Su N):=aA.fn (ama N) Tryz.func41
def xX (N:Nat):cz bh:=(Ta N).da Lh (Su N) (apl N)
def ak0 (N:Nat):aA (xX N).aJ (bn Tryz.f16):=aA.aO aA.nil ⟨[1,0,1,0,0,1,0,0,0,0],[.v 0 (.ay 63), .v 1 (.ay 51), .v 5 (.int .i64)],[],[],[⟨.normal,[.v 40 .bool],[]⟩],[0,1,5]⟩ fun x=>Iq N x.1 x.2.1 x.2.2.1
def ak1 (N:Nat):aA (xX N).aJ (bn Tryz.f16):=aA.aO (ak0 N) ⟨[1,0,1,0,0,1,0,0,1,1,1,0,1,0,0],[.v 6 (.int .i64)],[],[],[⟨.normal,[.v 62 .bool],[]⟩],[0,1,5]⟩ fun x=>HK N x.1
def aks (N:Nat):aA (xX N).aJ (bn Tryz.f16):=aA.aO (ak1 N) ⟨[1,0,1,0,0,1,0,0,1,1,1,0,1,1,1,0,0],[.v 6 (.int .i64)],[],[],[⟨.normal,[.v 70 .bool],[]⟩],[0,1,5]⟩ fun x=>HL N x.1
def akZ (N:Nat):aA (xX N).aJ (bn Tryz.f16):=aA.aO (aks N) ⟨[1,0,1,0,0,1,0],[.v 0 (.ay 63), .v 1 (.ay 51), .v 5 (.int .i64)],[],[],[⟨.normal,[],[]⟩,⟨.ret,[.v 4 .bool],[]⟩],[0,1,5]⟩ fun x=>Dq N x.1 x.2.1 x.2.2.1
def akY (N:Nat):aA (xX N).aJ (bn Tryz.f16):=aA.c8 (akZ N) N ⟨[1,0,1,0],[.v 0 (.ay 63), .v 1 (.ay 51), .v 5 (.int .i64)],[],[],[⟨.exit 0,[],[]⟩,⟨.ret,[.v 4 .bool],[]⟩],[]⟩ fun n x=>sS N x.1 x.2.1 n x.2.2.1
def K0:bY D:=⟨16,2,[.v 0 (.ay 63), .v 1 (.ay 51)],[],aqS,0,[.v 4 .bool],[],[.tmp 4],aqQ⟩
def Sc (N:Nat):K0.F:=fun r x=>Ao N x.1 x.2.1
theorem ao5 (N:Nat):bX bh K0 (Sc N):=aA.fn (akY N) Tryz.func16
def Ek (N:Nat):cz bh:=(xX N).da K0 (Sc N) (ao5 N)
def alS (N:Nat):aA (Ek N).aJ (bn Tryz.f113):=aA.aO aA.nil ⟨[1,0,1,0,0,1,0,0,0],[.v 0 .str, .v 3 (.int .i64)],[],[],[⟨.normal,[.v 32 .bool],[]⟩],[0,3]⟩ fun x=>HT N x.1 x.2.1
def alR (N:Nat):aA (Ek N).aJ (bn Tryz.f113):=aA.c8 (alS N) N ⟨[1,0,1,0],[.v 0 .str, .v 3 (.int .i64)],[],[],[⟨.exit 0,[],[]⟩,⟨.ret,[.v 2 .bool],[]⟩],[0]⟩ fun n x=>uG N x.1 n x.2.1
def alT (N:Nat):aA (Ek N).aJ (bn Tryz.f113):=aA.aO (alR N) ⟨[1,1,0],[.v 0 .str],[],[],[⟨.normal,[.v 2 .bool],[]⟩],[]⟩ fun x=>Qh N x.1
def K6:bY D:=⟨113,1,[.v 0 .str],[],aqS,0,[.v 2 .bool],[],[.tmp 2],aqQ⟩
def Si (N:Nat):K6.F:=fun r x=>I6 N x.1
theorem apa (N:Nat):bX bh K6 (Si N):=aA.fn (alT N) Tryz.func113
def xY (N:Nat):cz bh:=(Ek N).da K6 (Si N) (apa N)
def akN (N:Nat):aA (xY N).aJ (bn Tryz.f106):=aA.aO aA.nil ⟨[1,1,0,0],[.o 5 (.box 63), .o 6 (.ay 3)],[(5, .box 0 0),(6, .c (.own 1))],[1,1],[⟨.normal,[.v 23 .bool],[]⟩],[5,6]⟩ fun x=>Qc N x.1 x.2.1
def akP (N:Nat):aA (xY N).aJ (bn Tryz.f106):=aA.aO (akN N) ⟨[1,1,1,0,1,0,0,1,0,0,0],[.o 5 (.box 63), .v 6 (.ay 3), .v 7 (.int .i64)],[(5, .box 0 0)],[1],[⟨.normal,[.v 51 .bool],[]⟩],[5,6,7]⟩ fun x=>Qd N x.2.1 x.2.2.1
def akO (N:Nat):aA (xY N).aJ (bn Tryz.f106):=aA.c8 (akP N) N ⟨[1,1,1,0,1,0],[.o 5 (.box 63), .v 6 (.ay 3), .v 7 (.int .i64)],[(5, .box 0 0)],[1],[⟨.exit 0,[],[]⟩,⟨.ret,[.v 4 .bool],[]⟩],[5,6]⟩ fun n x=>sR N x.2.1 n x.2.2.1
def akQ (N:Nat):aA (xY N).aJ (bn Tryz.f106):=aA.aO (akO N) ⟨[1,1,1,1,0,0],[.o 5 (.box 63), .v 6 (.ay 3)],[(5, .box 0 0)],[1],[⟨.normal,[.v 59 .bool],[]⟩],[5]⟩ fun x=>Qe N x.1 x.2.1
def akR (N:Nat):aA (xY N).aJ (bn Tryz.f106):=aA.aO (akQ N) ⟨[1,1,1,1,1,0,1,0,0],[.o 5 (.box 63)],[(5, .box 0 0)],[1],[⟨.normal,[.v 4 .bool],[]⟩],[]⟩ fun x=>Qf N x.1
def KX:bY D:=⟨106,2,[.v 0 (.ay 63), .v 1 (.int .i64)],[],aqS,0,[.v 4 .bool],[],[.tmp 4],aqQ⟩
def R9 (N:Nat):KX.F:=fun r x=>nG N x.1 x.2.1
theorem ao2 (N:Nat):bX bh KX (R9 N):=aA.fn (akR N) Tryz.func106
def AP (N:Nat):cz bh:=(xY N).da KX (R9 N) (ao2 N)
def akK (N:Nat):aA (AP N).aJ (bn Tryz.f75):=aA.c8 aA.nil N ⟨[1,1,1,0,1,0,0,1,0,0,1,0,1,0],[.v 0 (.ay 63), .o 3 (.eY 3 150 64), .v 4 (.int .i64), .v 5 (.int .i64)],[(3, .eY 0)],[1],[⟨.exit 2,[],[]⟩,⟨.ret,[.v 2 (.int .i64)],[]⟩],[0,3,4]⟩ fun n x=>sP N x.1 x.2.2.1 n x.2.2.2.1
def akL (N:Nat):aA (AP N).aJ (bn Tryz.f75):=aA.c8 (akK N) N ⟨[1,1,1,0,1,0,0,1,0,0,1,1,1,0,1,0],[.o 3 (.eY 3 150 64), .o 6 (.ay 3), .v 7 (.int .i64)],[(3, .eY 0),(6, .c (.own 1))],[1,1],[⟨.exit 4,[],[]⟩,⟨.ret,[.v 2 (.int .i64)],[]⟩],[0,3,4,6]⟩ fun n x=>sQ N x.1 x.2.1 n x.2.2.1
def akM (N:Nat):aA (AP N).aJ (bn Tryz.f75):=aA.c8 (akL N) N ⟨[1,1,1,0,1,0,0,1,0,0,1,1,1,1,1,0],[.o 3 (.eY 3 150 64), .o 6 (.ay 3), .v 8 (.int .i64)],[(3, .eY 0),(6, .c (.own 1))],[2,1],[⟨.exit 6,[.u 0 (.eY 3 150 64)],[]⟩],[0,3,4]⟩ fun n x=>w6 N x.2.1 n x.1 x.2.2.1
def akJ (N:Nat):aA (AP N).aJ (bn Tryz.f75):=aA.c8 (akM N) N ⟨[1,1,1,0,1,0],[.v 0 (.ay 63), .o 3 (.eY 3 150 64), .v 4 (.int .i64)],[(3, .eY 0)],[0],[⟨.exit 0,[],[]⟩,⟨.ret,[.v 2 (.int .i64)],[]⟩],[]⟩ fun n x=>zL N x.1 n x.2.1 x.2.2.1
def KW:bY D:=⟨75,1,[.v 0 (.ay 63)],[],aqS,0,[.v 2 (.int .i64)],[],[.tmp 2],aqQ⟩
def R8 (N:Nat):KW.F:=fun r x=>uX N x.1
theorem ao1 (N:Nat):bX bh KW (R8 N):=aA.fn (akJ N) Tryz.func75
def Tb (N:Nat):cz bh:=(AP N).da KW (R8 N) (ao1 N)
def akX (N:Nat):aA (Tb N).aJ (bn Tryz.f76):=aA.aO aA.nil ⟨[1,0],[.v 0 (.ay 63), .v 1 (.int .i64)],[],[],[⟨.normal,[.v 4 .bool],[]⟩],[]⟩ fun x=>Qg N x.1 x.2.1
def KZ:bY D:=⟨76,2,[.v 0 (.ay 63), .v 1 (.int .i64)],[],aqS,0,[.v 4 .bool],[],[.tmp 4],aqQ⟩
def Sb (N:Nat):KZ.F:=fun r x=>xJ N x.1 x.2.1
theorem ao4 (N:Nat):bX bh KZ (Sb N):=aA.fn (akX N) Tryz.func76
def Tc (N:Nat):cz bh:=(Tb N).da KZ (Sb N) (ao4 N)
def akC (N:Nat):aA (Tc N).aJ (bn Tryz.f43):=aA.c8 aA.nil N ⟨[1,0,1,0],[.v 0 (.ay 37), .v 1 (.int .i64), .v 5 (.int .i64)],[],[],[⟨.exit 0,[],[]⟩,⟨.ret,[.v 4 .bool],[]⟩],[]⟩ fun n x=>uC N x.1 x.2.1 n x.2.2.1
def KR:bY D:=⟨43,2,[.v 0 (.ay 37), .v 1 (.int .i64)],[],aqS,0,[.v 4 .bool],[],[.tmp 4],aqQ⟩
def R3 (N:Nat):KR.F:=fun r x=>ra N x.1 x.2.1
theorem aoW (N:Nat):bX bh KR (R3 N):=aA.fn (akC N) Tryz.func43
def Td (N:Nat):cz bh:=(Tc N).da KR (R3 N) (aoW N)
def al6 (N:Nat):aA (Td N).aJ (bn Tryz.f77):=aA.c8 aA.nil N ⟨[1,0,1,0],[.v 0 (.ay 3), .v 1 (.int .i64), .v 5 (.int .i64)],[],[],[⟨.exit 0,[],[]⟩,⟨.ret,[.v 4 .bool],[]⟩],[]⟩ fun n x=>uI N x.1 x.2.1 n x.2.2.1
def Le:bY D:=⟨77,2,[.v 0 (.ay 3), .v 1 (.int .i64)],[],aqS,0,[.v 4 .bool],[],[.tmp 4],aqQ⟩
def Sr (N:Nat):Le.F:=fun r x=>D5 N x.1 x.2.1
theorem api (N:Nat):bX bh Le (Sr N):=aA.fn (al6 N) Tryz.func77
def xZ (N:Nat):cz bh:=(Td N).da Le (Sr N) (api N)
def akS (N:Nat):aA (xZ N).aJ (bn Tryz.f42):=aA.aO aA.nil ⟨[1,1,0,0],[.v 0 (.ay 63), .v 1 (.ay 37), .v 5 (.int .i64)],[],[],[⟨.normal,[.v 50 .bool],[]⟩],[0,1,5]⟩ fun x=>uD N x.1 x.2.1 x.2.2.1
def akU (N:Nat):aA (xZ N).aJ (bn Tryz.f42):=aA.aO (akS N) ⟨[1,1,1,0,1,0,0,1,0,0,0,0],[.v 0 (.ay 63), .v 1 (.ay 37), .v 6 (.int .i64)],[],[],[⟨.normal,[.v 82 .bool],[]⟩],[0,1,5,6]⟩ fun x=>Im N x.1 x.2.1 x.2.2.1
def akV (N:Nat):aA (xZ N).aJ (bn Tryz.f42):=aA.aO (akU N) ⟨[1,1,1,0,1,0,0,1,0,0,1,0,0],[.v 0 (.ay 63), .v 1 (.ay 37), .v 5 (.int .i64), .v 6 (.int .i64)],[],[],[⟨.normal,[.v 136 .bool],[]⟩],[0,1,5,6]⟩ fun x=>Io N x.1 x.2.1 x.2.2.1 x.2.2.2.1
def akW (N:Nat):aA (xZ N).aJ (bn Tryz.f42):=aA.aO (akV N) ⟨[1,1,1,0,1,0,0,1,0,0,1,1,0],[.v 0 (.ay 63), .v 1 (.ay 37), .v 5 (.int .i64), .v 6 (.int .i64)],[],[],[⟨.normal,[.v 164 .bool],[]⟩],[0,1,5,6]⟩ fun x=>Ip N x.1 x.2.1 x.2.2.1 x.2.2.2.1
def akT (N:Nat):aA (xZ N).aJ (bn Tryz.f42):=aA.c8 (akW N) N ⟨[1,1,1,0,1,0],[.v 0 (.ay 63), .v 1 (.ay 37), .v 5 (.int .i64), .v 6 (.int .i64)],[],[],[⟨.exit 0,[],[]⟩,⟨.ret,[.v 4 .bool],[]⟩],[]⟩ fun n x=>uE N x.1 x.2.1 x.2.2.1 n x.2.2.2.1
def KY:bY D:=⟨42,2,[.v 0 (.ay 63), .v 1 (.ay 37)],[],aqS,0,[.v 4 .bool],[],[.tmp 4],aqQ⟩
def Sa (N:Nat):KY.F:=fun r x=>xI N x.1 x.2.1
theorem ao3 (N:Nat):bX bh KY (Sa N):=aA.fn (akT N) Tryz.func42
def Te (N:Nat):cz bh:=(xZ N).da KY (Sa N) (ao3 N)
def ajy (N:Nat):aA (Te N).aJ (bn Tryz.f83):=aA.aO aA.nil ⟨[1,1,0,0,1,1,0],[.o 3 (.box 37), .o 5 (.box 63)],[(3, .box 0 0),(5, .box 1 0)],[1,1],[⟨.normal,[.v 15 .bool],[]⟩],[5]⟩ fun x=>zI N x.1 x.2.1
def Ku:bY D:=⟨83,2,[.v 0 (.ay 63), .v 1 (.agg 37)],[],aqS,0,[.v 4 (.int .i64)],[],[.tmp 4],aqQ⟩
def RG (N:Nat):Ku.F:=fun r x=>DU N x.1 x.2.1
theorem aoz (N:Nat):bX bh Ku (RG N):=aA.fn (ajy N) Tryz.func83
def El (N:Nat):cz bh:=(Te N).da Ku (RG N) (aoz N)
def al8 (N:Nat):aA (El N).aJ (bn Tryz.f85):=aA.aO aA.nil ⟨[1,1,0,0,0,0,0],[.v 0 (.ay 51), .o 3 (.box 51), .v 5 (.int .i64)],[(3, .box 0 0)],[1],[⟨.normal,[.v 20 .bool],[]⟩],[0,3,5]⟩ fun x=>zz N x.1 x.2.1 x.2.2.1
def al7 (N:Nat):aA (El N).aJ (bn Tryz.f85):=aA.c8 (al8 N) N ⟨[1,1,0,0],[.v 0 (.ay 51), .o 3 (.box 51), .v 5 (.int .i64)],[(3, .box 0 0)],[1],[⟨.exit 0,[.v 5 (.int .i64)],[]⟩],[0,3]⟩ fun n x=>zN N x.1 x.2.1 n x.2.2.1
def al9 (N:Nat):aA (El N).aJ (bn Tryz.f85):=aA.aO (al7 N) ⟨[1,1,1,0,0],[.v 0 (.ay 51), .o 3 (.box 51), .v 5 (.int .i64)],[(3, .box 0 0)],[1],[⟨.normal,[.v 36 .bool],[]⟩],[0,3,5]⟩ fun x=>zA N x.1 x.2.1 x.2.2.1
def Lf:bY D:=⟨85,2,[.v 0 (.ay 51), .v 1 (.agg 51)],[],aqS,0,[.v 4 (.ay 51)],[],[.tmp 4],aqT⟩
def Ss (N:Nat):Lf.F:=fun r x=>rb N x.1 x.2.1
theorem apj (N:Nat):bX bh Lf (Ss N):=aA.fn (al9 N) Tryz.func85
def Jw (N:Nat):cz bh:=(El N).da Lf (Ss N) (apj N)
def ajA (N:Nat):aA (Jw N).aJ (bn Tryz.f82):=aA.aO aA.nil ⟨[1,1,1,0,1,0,0,1,0],[.v 0 (.ay 63), .v 1 (.ay 37), .v 6 (.ay 51), .v 7 (.int .i64)],[],[],[⟨.normal,[.v 6 (.ay 51)],[]⟩],[0,1,7]⟩ fun x=>H8 N x.1 x.2.1 x.2.2.1 x.2.2.2.1
def ajz (N:Nat):aA (Jw N).aJ (bn Tryz.f82):=aA.c8 (ajA N) N ⟨[1,1,1,0,1,0],[.v 0 (.ay 63), .v 1 (.ay 37), .v 6 (.ay 51), .v 7 (.int .i64)],[],[],[⟨.exit 0,[.v 6 (.ay 51)],[]⟩],[]⟩ fun n x=>w0 N x.1 x.2.1 n x.2.2.1 x.2.2.2.1
def Kv:bY D:=⟨82,2,[.v 0 (.ay 63), .v 1 (.ay 37)],[],aqS,0,[.v 4 (.ay 51), .v 5 (.int .i64)],[],[.tmp 4, .tmp 5],aqT⟩
def RH (N:Nat):Kv.F:=fun r x=>DV N x.1 x.2.1
theorem aoA (N:Nat):bX bh Kv (RH N):=aA.fn (ajz N) Tryz.func82
def Tf (N:Nat):cz bh:=(Jw N).da Kv (RH N) (aoA N)
def oK:gZ D:=⟨84,3,[.o 0 (.eP 125 [(3,1)]), .v 1 (.int .i64), .v 2 (.int .i64), .o 2000003 (.map 84 114 4)],[(0, .box 0 0)],[2,2],[.v 6 (.int .i64), .u 0 (.eP 125 [(3,1)]), .u 1 (.map 84 114 4)],[],[6],aqQ⟩
def pt (N c9:Nat):oK.h2.F:=fun x=>lB N c9 x.1 x.2.1 x.2.2.1 x.2.2.2.1
def AT (N c9:Nat) (aw:fw bh oK (pt N c9)):cz bh:=(Tf N).AX oK (pt N c9) aw
def aiN (N c9:Nat) (aw:fw bh oK (pt N c9)):aA (AT N c9 aw).aJ (bn Tryz.f84):=aA.aO aA.nil ⟨[1,1,1,1,0,0],[.o 0 (.eP 125 [(3,1)]), .v 7 (.int .i64), .o 2000003 (.map 84 114 4)],[(0, .box 0 0)],[1,1],[⟨.normal,[.v 43 .bool],[]⟩],[0,2,7]⟩ fun x=>zD N (lB N c9) x.1 x.2.1
def aiP (N c9:Nat) (aw:fw bh oK (pt N c9)):aA (AT N c9 aw).aJ (bn Tryz.f84):=aA.aO (aiN N c9 aw) ⟨[1,1,1,1,1,1,1,0,0,1,1,0],[.o 0 (.eP 125 [(3,1)]), .v 2 (.int .i64), .v 8 (.gd 63), .o 2000003 (.map 84 114 4)],[(0, .box 0 0)],[1,1],[⟨.normal,[.v 55 .bool],[]⟩],[0,2,7,8,9]⟩ fun x=>Dh N (lB N c9) x.2.1 x.2.2.1
def aiQ (N c9:Nat) (aw:fw bh oK (pt N c9)):aA (AT N c9 aw).aJ (bn Tryz.f84):=aA.aO (aiP N c9 aw) ⟨[1,1,1,1,1,1,1,0,0,1,1,1,1,0],[.o 0 (.eP 125 [(3,1)]), .v 2 (.int .i64), .v 8 (.gd 63), .o 2000003 (.map 84 114 4)],[(0, .box 0 0)],[1,1],[⟨.normal,[.v 78 .bool],[]⟩],[0,7,8,9]⟩ fun x=>Di N (lB N c9) x.2.1 x.2.2.1
def aiO (N c9:Nat) (aw:fw bh oK (pt N c9)):aA (AT N c9 aw).aJ (bn Tryz.f84):=aA.aO (aiQ N c9 aw) ⟨[1,1,1,1,1,1,1,0],[.o 0 (.eP 125 [(3,1)]), .v 2 (.int .i64), .v 7 (.int .i64), .v 8 (.gd 63), .v 9 (.int .i64), .o 2000003 (.map 84 114 4)],[(0, .box 0 0)],[2,2],[⟨.normal,[.u 0 (.eP 125 [(3,1)]), .v 9 (.int .i64), .u 1 (.map 84 114 4)],[]⟩,⟨.ret,[.u 0 (.eP 125 [(3,1)]), .v 6 (.int .i64), .u 1 (.map 84 114 4)],[]⟩],[0,7]⟩ fun x=>zE N (lB N c9) x.1 x.2.1 x.2.2.1 x.2.2.2.1 x.2.2.2.2.1 x.2.2.2.2.2.1
def aj4 (N c9:Nat) (aw:fw bh oK (pt N c9)):aA (AT N c9 aw).aJ (bn Tryz.f84):=aA.aO (aiO N c9 aw) ⟨[1,1,1,1,1,1,1,1,0,1,0],[.o 0 (.eP 125 [(3,1)]), .v 9 (.int .i64), .v 11 (.int .i64), .o 2000003 (.map 84 114 4)],[(0, .box 0 0)],[1,1],[⟨.normal,[.v 104 .bool],[]⟩],[0,7,9]⟩ fun x=>Dj N (lB N c9) x.2.1 x.2.2.1
theorem aed (N c9:Nat) (aw:fw bh oK (pt N c9)):fw bh oK (pt N (c9+1)):=aA.Lt (aj4 N c9 aw) Tryz.func84
theorem ZW (N:Nat):∀c9:Nat,fw bh oK (pt N c9)
 |0=>fw.none fun x=>rfl
 |c9+1=>aed N c9 (ZW N c9)
def AQ (N:Nat):cz bh:=(Tf N).AX oK (pt N N) (ZW N N)
def ala (N:Nat):aA (AQ N).aJ (bn Tryz.f51):=aA.aO aA.nil ⟨[1,1,1,1,0,1,0,0,1,0,0,1,1,1,0,1],[.o 8 (.eP 125 [(3,2)]), .o 10 (.box 63), .v 11 (.int .i64), .v 53 .bool, .o 2008003 (.map 84 114 4)],[(8, .box 0 0),(10, .box 1 0)],[1,1,1],[⟨.normal,[.v 11 (.int .i64)],[]⟩],[0,1,6,8,9]⟩ fun x=>Ib N x.2.1 x.2.2.1 x.2.2.2.1
def ak' (N:Nat):aA (AQ N).aJ (bn Tryz.f51):=aA.aO (ala N) ⟨[1,1,1,1,0,1,0,0,1,0],[.v 0 (.ay 63), .v 1 (.ay 37), .o 8 (.eP 125 [(3,1)]), .v 9 (.int .i64), .o 2008003 (.map 84 114 4)],[(8, .box 0 0)],[2,2],[⟨.normal,[.u 0 (.eP 125 [(3,1)]), .u 1 (.map 84 114 4)],[]⟩,⟨.ret,[.v 5 (.int .i64)],[(4, .c .fv)]⟩],[0,1,6,8,9]⟩ fun x=>PO N x.1 x.2.1 x.2.2.1 x.2.2.2.1 x.2.2.2.2.1
def ak9 (N:Nat):aA (AQ N).aJ (bn Tryz.f51):=aA.c8 (ak' N) N ⟨[1,1,1,1,0,1,0],[.v 0 (.ay 63), .v 1 (.ay 37), .o 8 (.eP 125 [(3,1)]), .v 9 (.int .i64), .o 2008003 (.map 84 114 4)],[(8, .box 0 0)],[0,0],[⟨.exit 0,[.o 8 (.eP 125 [(3,3)]), .o 2008003 (.map 84 114 4)],[(8, .box 2 0)]⟩,⟨.ret,[.v 5 (.int .i64)],[(4, .c .fv)]⟩],[6,8]⟩ fun n x=>sN N x.1 x.2.1 n x.2.2.1 x.2.2.2.1 x.2.2.2.2.1
def alb (N:Nat):aA (AQ N).aJ (bn Tryz.f51):=aA.c8 (ak9 N) N ⟨[1,1,1,1,1,0,1,0],[.v 6 (.ay 51), .o 8 (.eP 125 [(3,1)]), .v 13 (.int .i64), .o 2008003 (.map 84 114 4)],[(8, .box 0 0)],[1,1],[⟨.exit 2,[.v 6 (.ay 51)],[]⟩],[]⟩ fun n x=>w1 N x.2.1 n x.1 x.2.2.1
def KD:bY D:=⟨51,2,[.v 0 (.ay 63), .v 1 (.ay 37)],[],aqS,0,[.v 4 (.ay 51), .v 5 (.int .i64)],[],[.tmp 4, .tmp 5],aqT⟩
def RP (N:Nat):KD.F:=fun r x=>pq N x.1 x.2.1
theorem aoI (N:Nat):bX bh KD (RP N):=aA.fn (alb N) Tryz.func51
def Tg (N:Nat):cz bh:=(AQ N).da KD (RP N) (aoI N)
def al4 (N:Nat):aA (Tg N).aJ (bn Tryz.f48):=aA.c8 aA.nil N ⟨[1,0,1,0],[.v 0 (.ay 49), .v 1 (.int .i64), .v 5 (.int .i64)],[],[],[⟨.exit 0,[],[]⟩,⟨.ret,[.v 4 (.int .i64)],[]⟩],[]⟩ fun n x=>sU N x.1 x.2.1 n x.2.2.1
def Lb:bY D:=⟨48,2,[.v 0 (.ay 49), .v 1 (.int .i64)],[],aqS,0,[.v 4 (.int .i64)],[],[.tmp 4],aqQ⟩
def Sn (N:Nat):Lb.F:=fun r x=>Ap N x.1 x.2.1
theorem apf (N:Nat):bX bh Lb (Sn N):=aA.fn (al4 N) Tryz.func48
def Ti (N:Nat):cz bh:=(Tg N).da Lb (Sn N) (apf N)
def aj5 (N:Nat):aA (Ti N).aJ (bn Tryz.f68):=aA.c8 aA.nil N ⟨[1,1,0,1,0],[.v 0 (.ay 51), .v 1 (.ay 51), .v 5 (.int .i64)],[],[],[⟨.exit 0,[],[]⟩,⟨.ret,[.v 4 .bool],[]⟩],[]⟩ fun n x=>sz N x.1 x.2.1 n x.2.2.1
def J9:bY D:=⟨68,2,[.v 0 (.ay 51), .v 1 (.ay 51)],[],aqS,0,[.v 4 .bool],[],[.tmp 4],aqQ⟩
def Rm (N:Nat):J9.F:=fun r x=>DP N x.1 x.2.1
theorem aod (N:Nat):bX bh J9 (Rm N):=aA.fn (aj5 N) Tryz.func68
def AR (N:Nat):cz bh:=(Ti N).da J9 (Rm N) (aod N)
def ajB (N:Nat):aA (AR N).aJ (bn Tryz.f52):=aA.c8 aA.nil N ⟨[1,0,1,0],[.o 2 (.box 49), .o 3 (.box 49), .v 5 (.int .i64)],[(2, .box 0 0),(3, .box 1 0)],[1,1],[⟨.exit 0,[],[]⟩,⟨.ret,[.v 4 .bool],[]⟩],[2,3]⟩ fun n x=>sH N x.1 x.2.1 n x.2.2.1
def ak2 (N:Nat):aA (AR N).aJ (bn Tryz.f52):=aA.aO (ajB N) ⟨[1,1,0,1,0,0,1,0,0,1,0,0,1,0,0,0],[.o 2 (.box 49), .o 3 (.box 49), .v 6 (.int .i64), .v 7 (.int .i64)],[(2, .box 0 0),(3, .box 1 0)],[1,1],[⟨.normal,[.v 65 .bool],[]⟩],[2,3,6,7]⟩ fun x=>H9 N x.1 x.2.1 x.2.2.1 x.2.2.2.1
def ajD (N:Nat):aA (AR N).aJ (bn Tryz.f52):=aA.c8 (ak2 N) N ⟨[1,1,0,1,0,0,1,0,0,1,0],[.o 2 (.box 49), .o 3 (.box 49), .v 6 (.int .i64), .v 7 (.int .i64)],[(2, .box 0 0),(3, .box 1 0)],[1,1],[⟨.exit 4,[],[]⟩,⟨.ret,[.v 4 .bool],[]⟩],[2,3,6]⟩ fun n x=>sJ N x.1 x.2.1 x.2.2.1 n x.2.2.2.1
def ajC (N:Nat):aA (AR N).aJ (bn Tryz.f52):=aA.c8 (ajD N) N ⟨[1,1,0,1,0],[.o 2 (.box 49), .o 3 (.box 49), .v 6 (.int .i64)],[(2, .box 0 0),(3, .box 1 0)],[1,1],[⟨.exit 2,[],[]⟩,⟨.ret,[.v 4 .bool],[]⟩],[]⟩ fun n x=>sI N x.1 x.2.1 n x.2.2.1
def Kw:bY D:=⟨52,2,[.v 0 (.agg 49), .v 1 (.agg 49)],[],aqS,0,[.v 4 .bool],[],[.tmp 4],aqQ⟩
def RI (N:Nat):Kw.F:=fun r x=>DW N x.1 x.2.1
theorem aoB (N:Nat):bX bh Kw (RI N):=aA.fn (ajC N) Tryz.func52
def AS (N:Nat):cz bh:=(AR N).da Kw (RI N) (aoB N)
def akt (N:Nat):aA (AS N).aJ (bn Tryz.f78):=aA.aO aA.nil ⟨[1,0,0],[.v 0 (.ay 63), .v 1 (.ay 49)],[],[],[⟨.normal,[.v 16 .bool],[]⟩],[0,1]⟩ fun x=>HM N x.1 x.2.1
def akv (N:Nat):aA (AS N).aJ (bn Tryz.f78):=aA.aO (akt N) ⟨[1,1,0,1,0,0,1,0,0,1,0,0],[.v 1 (.ay 49), .v 5 (.int .i64), .v 6 (.ay 51), .v 7 (.int .i64)],[],[],[⟨.normal,[.v 63 .bool],[]⟩],[0,1,5]⟩ fun x=>HN N x.1 x.2.1 x.2.2.1 x.2.2.2.1
def akw (N:Nat):aA (AS N).aJ (bn Tryz.f78):=aA.c8 (akv N) N ⟨[1,1,0,1,0,0,1,0,0,1,1,1,0],[.v 1 (.ay 49), .v 5 (.int .i64), .v 8 (.int .i64)],[],[],[⟨.exit 2,[],[]⟩,⟨.ret,[.v 4 .bool],[]⟩],[0,1,5]⟩ fun n x=>w7 N x.1 x.2.1 n x.2.2.1
def aku (N:Nat):aA (AS N).aJ (bn Tryz.f78):=aA.c8 (akw N) N ⟨[1,1,0,1,0],[.v 0 (.ay 63), .v 1 (.ay 49), .v 5 (.int .i64)],[],[],[⟨.exit 0,[],[]⟩,⟨.ret,[.v 4 .bool],[]⟩],[]⟩ fun n x=>sT N x.1 x.2.1 n x.2.2.1
def K1:bY D:=⟨78,2,[.v 0 (.ay 63), .v 1 (.ay 49)],[],aqS,0,[.v 4 .bool],[],[.tmp 4],aqQ⟩
def Sd (N:Nat):K1.F:=fun r x=>I4 N x.1 x.2.1
theorem ao6 (N:Nat):bX bh K1 (Sd N):=aA.fn (aku N) Tryz.func78
def Tj (N:Nat):cz bh:=(AS N).da K1 (Sd N) (ao6 N)
def K2:bY D:=⟨47,2,[.v 0 (.ay 63), .v 1 (.ay 49)],[],aqS,0,[.v 4 (.int .i64)],[],[.tmp 4],aqQ⟩
def Se (N:Nat):K2.F:=fun r x=>D2 N x.1 x.2.1
theorem ao7 (N:Nat):bX bh K2 (Se N):=aA.fn (aA.nil:aA (Tj N).aJ (bn Tryz.f47)) Tryz.func47
def Tk (N:Nat):cz bh:=(Tj N).da K2 (Se N) (ao7 N)
def akD (N:Nat):aA (Tk N).aJ (bn Tryz.f49):=aA.c8 aA.nil N ⟨[1,1,0,1,0],[.v 0 (.ay 49), .o 3 (.ay 49), .v 4 (.int .i64)],[(3, .c (.own 0))],[0],[⟨.exit 0,[.o 3 (.ay 49)],[(3, .c (.own 1))]⟩],[]⟩ fun n x=>w4 N x.1 n x.2.1 x.2.2.1
def KS:bY D:=⟨49,1,[.v 0 (.ay 49)],[],aqS,0,[.o 2 (.ay 49)],[(2, .c (.own 0))],[.tmp 2],aqT⟩
def R4 (N:Nat):KS.F:=fun r x=>D0 N x.1
theorem aoX (N:Nat):bX bh KS (R4 N):=aA.fn (akD N) Tryz.func49
def Tl (N:Nat):cz bh:=(Tk N).da KS (R4 N) (aoX N)
def aaC (N:Nat):oz bh:=(Tl N).aJ.oJ fun x bG ae=>match x,bG,ae with| .tmp 31,aqP (.tmp 27),aqP (.tmp 27)=>6|_,_,_=>0
def KE:bY D:=⟨21,3,[.v 0 (.ay 63), .v 1 (.ay 49), .v 2 (.int .i64)],[],aqS,0,[.v 6 (.ay 49), .v 7 (.int .i64)],[],[.tmp 6, .tmp 7],aqT⟩
def RQ (N:Nat):KE.F:=fun r x=>IY N x.1 x.2.1 x.2.2.1
theorem aoJ (N:Nat):bX bh KE (RQ N):=aA.fn (aA.nil:aA (aaC N) (bn Tryz.f21)) Tryz.func21
def Tm (N:Nat):cz bh:=(Tl N).da KE (RQ N) (aoJ N)
def La:bY D:=⟨81,2,[.v 0 (.ay 63), .v 1 (.agg 37)],[],aqS,0,[.o 4 (.ay 3)],[(4, .c (.own 0))],[.tmp 4],aqT⟩
def Sm (N:Nat):La.F:=fun r x=>D4 N x.1 x.2.1
theorem ape (N:Nat):bX bh La (Sm N):=aA.fn (aA.nil:aA (Tm N).aJ (bn Tryz.f81)) Tryz.func81
def Em (N:Nat):cz bh:=(Tm N).da La (Sm N) (ape N)
def al3 (N:Nat):aA (Em N).aJ (bn Tryz.f80):=aA.aO aA.nil ⟨[1,1,1,0,1,0,0,1,0,0,1,0],[.o 5 (.box 37), .v 8 (.int .i64), .v 9 .bool, .o 10 (.ay 3), .v 12 (.int .i64), .v 13 .bool],[(5, .box 0 0),(10, .c (.own 1))],[1,1],[⟨.normal,[.v 50 .bool],[]⟩],[0,1,5,8,9,10,11,12]⟩ fun x=>Dr N x.2.1 x.2.2.1 x.2.2.2.2.1 x.2.2.2.2.2.1
def al2 (N:Nat):aA (Em N).aJ (bn Tryz.f80):=aA.aO (al3 N) ⟨[1,1,1,0,1,0,0,1,0],[.v 0 (.ay 63), .v 1 (.mp 116 122 3), .o 5 (.box 37), .v 8 (.int .i64), .v 9 .bool, .o 10 (.ay 3), .v 11 (.int .i64)],[(5, .box 0 0),(10, .c (.own 1))],[1,1],[⟨.normal,[.v 8 (.int .i64), .v 9 .bool],[]⟩],[0,1,5,10,11]⟩ fun x=>HX N x.1 x.2.1 x.2.2.1 x.2.2.2.1 x.2.2.2.2.1 x.2.2.2.2.2.1 x.2.2.2.2.2.2.1
def al1 (N:Nat):aA (Em N).aJ (bn Tryz.f80):=aA.c8 (al2 N) N ⟨[1,1,1,0,1,0],[.v 0 (.ay 63), .v 1 (.mp 116 122 3), .o 5 (.box 37), .v 8 (.int .i64), .v 9 .bool, .o 10 (.ay 3), .v 11 (.int .i64)],[(5, .box 0 0),(10, .c (.own 1))],[1,1],[⟨.exit 0,[.v 8 (.int .i64), .v 9 .bool],[]⟩],[]⟩ fun n x=>xb N x.1 x.2.1 x.2.2.1 x.2.2.2.2.2.1 n x.2.2.2.1 x.2.2.2.2.1 x.2.2.2.2.2.2.1
def K9:bY D:=⟨80,3,[.v 0 (.ay 63), .v 1 (.mp 116 122 3), .v 2 (.agg 37)],[],aqS,0,[.v 6 (.int .i64), .v 7 .bool],[],[.tmp 6, .tmp 7],aqQ⟩
def Sl (N:Nat):K9.F:=fun r x=>D3 N x.1 x.2.1 x.2.2.1
theorem apd (N:Nat):bX bh K9 (Sl N):=aA.fn (al1 N) Tryz.func80
def ve (N:Nat):cz bh:=(Em N).da K9 (Sl N) (apd N)
def ajR (N:Nat):aA (ve N).aJ (bn Tryz.f79):=aA.c8 aA.nil N ⟨[1,1,1,0,1,0],[.v 1 (.int .i64), .o 5 (.map 116 122 3), .o 6 (.ay 3), .v 7 (.int .i64)],[(5, .c (.own 0)),(6, .c (.own 1))],[2,1],[⟨.exit 0,[.u 0 (.map 116 122 3)],[]⟩],[0,1,5]⟩ fun n x=>wX N x.1 x.2.2.1 n x.2.1 x.2.2.2.1
def ajW (N:Nat):aA (ve N).aJ (bn Tryz.f79):=aA.aO (ajR N) ⟨[1,1,1,1,0,1,0,0,1,0,1,1,0,0,1,0,0,1,1,0,0,1,0,0,1,1,1,0],[.o 5 (.map 116 122 3), .o 10 (.ay 3), .v 12 (.int .i64), .v 13 .bool, .v 14 (.int .i64), .v 15 .bool],[(5, .c (.own 0)),(10, .c (.own 1))],[1,1],[⟨.normal,[.v 85 .bool],[]⟩],[0,1,5,8,9,10,11,12]⟩ fun x=>Dm N x.2.2.1 x.2.2.2.1 x.2.2.2.2.1 x.2.2.2.2.2.1
def ajV (N:Nat):aA (ve N).aJ (bn Tryz.f79):=aA.aO (ajW N) ⟨[1,1,1,1,0,1,0,0,1,0,1,1,0,0,1,0,0,1,1,0,0,1,0],[.v 0 (.ay 63), .v 1 (.int .i64), .o 5 (.map 116 122 3), .v 8 .bool, .v 9 (.int .i64), .o 10 (.ay 3), .v 11 (.int .i64)],[(5, .c (.own 0)),(10, .c (.own 1))],[2,1],[⟨.normal,[.u 0 (.map 116 122 3), .v 8 .bool],[]⟩],[0,1,5,9,10,11]⟩ fun x=>H0 N x.1 x.2.1 x.2.2.1 x.2.2.2.1 x.2.2.2.2.1 x.2.2.2.2.2.1 x.2.2.2.2.2.2.1
def ajU (N:Nat):aA (ve N).aJ (bn Tryz.f79):=aA.c8 (ajV N) N ⟨[1,1,1,1,0,1,0,0,1,0,1,1,0,0,1,0,0,1,1,0],[.v 0 (.ay 63), .v 1 (.int .i64), .o 5 (.map 116 122 3), .v 8 .bool, .v 9 (.int .i64), .o 10 (.ay 3), .v 11 (.int .i64)],[(5, .c (.own 0)),(10, .c (.own 1))],[2,1],[⟨.exit 6,[.u 0 (.map 116 122 3), .v 8 .bool],[]⟩],[0,1,5,9]⟩ fun n x=>wZ N x.1 x.2.1 x.2.2.2.2.1 x.2.2.2.2.2.1 n x.2.2.1 x.2.2.2.1 x.2.2.2.2.2.2.1
def ajT (N:Nat):aA (ve N).aJ (bn Tryz.f79):=aA.c8 (ajU N) N ⟨[1,1,1,1,0,1,0,0,1,0,1,1,0],[.v 0 (.ay 63), .v 1 (.int .i64), .o 5 (.map 116 122 3), .v 8 .bool, .v 9 (.int .i64)],[(5, .c (.own 0))],[2],[⟨.exit 4,[.u 0 (.map 116 122 3), .v 8 .bool],[]⟩],[0,1,5]⟩ fun n x=>wY N x.1 x.2.1 n x.2.2.1 x.2.2.2.1 x.2.2.2.2.1
def ajS (N:Nat):aA (ve N).aJ (bn Tryz.f79):=aA.c8 (ajT N) N ⟨[1,1,1,1,0,1,0],[.v 0 (.ay 63), .v 1 (.int .i64), .o 5 (.map 116 122 3), .v 8 .bool],[(5, .c (.own 0))],[2],[⟨.exit 2,[.u 0 (.map 116 122 3)],[]⟩],[5]⟩ fun n x=>zH N x.1 x.2.1 n x.2.2.1 x.2.2.2.1
def Kr:bY D:=⟨79,2,[.v 0 (.ay 63), .v 1 (.int .i64)],[],aqS,0,[.o 4 (.map 116 122 3)],[(4, .c (.own 0))],[.tmp 4],aqT⟩
def RD (N:Nat):Kr.F:=fun r x=>IX N x.1 x.2.1
theorem aow (N:Nat):bX bh Kr (RD N):=aA.fn (ajS N) Tryz.func79
def x1 (N:Nat):cz bh:=(ve N).da Kr (RD N) (aow N)
def alW (N:Nat):aA (x1 N).aJ (bn Tryz.f50):=aA.aO aA.nil ⟨[1,1,0,0],[.v 0 (.ay 63), .v 1 (.int .i64), .v 2 (.int .i64)],[],[],[⟨.normal,[.v 39 .bool],[]⟩],[0,1,2]⟩ fun x=>HU N x.1 x.2.1 x.2.2.1
def al0 (N:Nat):aA (x1 N).aJ (bn Tryz.f50):=aA.aO (alW N) ⟨[1,1,1,1,1,1,1,1,0,0,0,1,0,0,1,1,1,0,1,0,0,1,0,0,1,1,0],[.o 9 (.map 116 122 3), .o 10 (.box 37), .v 11 (.int .i64), .o 13 (.ay 37), .o 14 (.ay 3), .v 15 (.int .i64), .v 16 (.int .i64), .v 17 (.int .i64), .v 18 (.int .i64), .v 19 .bool],[(9, .c (.own 0)),(10, .box 1 0),(13, .c (.own 2)),(14, .c (.own 3))],[1,1,1,1],[⟨.normal,[.v 115 .bool],[]⟩],[0,2,9,10,11,13,14,15,16,17]⟩ fun x=>HW N x.2.1 x.2.2.1 x.2.2.2.2.1 x.2.2.2.2.2.1 x.2.2.2.2.2.2.1 x.2.2.2.2.2.2.2.1 x.2.2.2.2.2.2.2.2.1 x.2.2.2.2.2.2.2.2.2.1
def alZ (N:Nat):aA (x1 N).aJ (bn Tryz.f50):=aA.aO (al0 N) ⟨[1,1,1,1,1,1,1,1,0,0,0,1,0,0,1,1,1,0,1,0,0,1,0],[.v 0 (.ay 63), .o 9 (.map 116 122 3), .o 10 (.box 37), .v 11 (.int .i64), .o 13 (.ay 37), .o 14 (.ay 3), .v 15 (.int .i64), .v 16 (.int .i64)],[(9, .c (.own 0)),(10, .box 1 0),(13, .c (.own 2)),(14, .c (.own 3))],[1,2,1,1],[⟨.normal,[.u 1 (.box 37), .v 15 (.int .i64)],[]⟩],[0,2,9,10,11,13,14,16]⟩ fun x=>HV N x.1 x.2.1 x.2.2.1 x.2.2.2.1 x.2.2.2.2.2.1 x.2.2.2.2.2.2.1 x.2.2.2.2.2.2.2.1
def alY (N:Nat):aA (x1 N).aJ (bn Tryz.f50):=aA.c8 (alZ N) N ⟨[1,1,1,1,1,1,1,1,0,0,0,1,0,0,1,1,1,0,1,0],[.v 0 (.ay 63), .o 9 (.map 116 122 3), .o 10 (.box 37), .v 11 (.int .i64), .o 13 (.ay 37), .o 14 (.ay 3), .v 15 (.int .i64), .v 16 (.int .i64)],[(9, .c (.own 0)),(10, .box 1 0),(13, .c (.own 2)),(14, .c (.own 3))],[1,2,1,1],[⟨.exit 2,[.u 1 (.box 37), .v 15 (.int .i64)],[]⟩],[0,2,9,10,11,13]⟩ fun n x=>xa N x.1 x.2.1 x.2.2.2.1 x.2.2.2.2.2.1 n x.2.2.1 x.2.2.2.2.2.2.1 x.2.2.2.2.2.2.2.1
def alX (N:Nat):aA (x1 N).aJ (bn Tryz.f50):=aA.c8 (alY N) N ⟨[1,1,1,1,1,1,1,1,0,0],[.v 0 (.ay 63), .o 9 (.map 116 122 3), .o 10 (.box 37), .v 11 (.int .i64), .o 13 (.ay 37)],[(9, .c (.own 0)),(10, .box 1 0),(13, .c (.own 2))],[1,2,0],[⟨.exit 0,[.u 1 (.box 37), .o 13 (.ay 37)],[(13, .c (.own 3))]⟩,⟨.ret,[.v 7 (.int .i64)],[(6, .c .fv)]⟩],[2,10]⟩ fun n x=>w9 N x.1 x.2.1 n x.2.2.1 x.2.2.2.1 x.2.2.2.2.1
def K8:bY D:=⟨50,3,[.v 0 (.ay 63), .v 1 (.int .i64), .v 2 (.int .i64)],[],aqS,0,[.o 6 (.ay 37), .v 7 (.int .i64)],[(6, .c (.own 0))],[.tmp 6, .tmp 7],aqT⟩
def Sk (N:Nat):K8.F:=fun r x=>nH N x.1 x.2.1 x.2.2.1
theorem apc (N:Nat):bX bh K8 (Sk N):=aA.fn (alX N) Tryz.func50
def Tn (N:Nat):cz bh:=(x1 N).da K8 (Sk N) (apc N)
def al' (N:Nat):aA (Tn N).aJ (bn Tryz.f22):=aA.c8 aA.nil N ⟨[1,1,1,1,1,1,1,1,0,1,0],[.v 1 (.ay 49), .o 16 (.box 49), .v 17 (.int .i64)],[(16, .box 0 0)],[1],[⟨.exit 1,[],[]⟩,⟨.ret,[.v 11 (.int .i64)],[(10, .c .fv)]⟩],[1,16]⟩ fun n x=>st N x.1 x.2.1 n x.2.2.1
def Lg:bY D:=⟨22,5,[.v 0 (.ay 63), .v 1 (.ay 49), .v 2 (.int .i64), .v 3 (.int .i64), .v 4 (.int .i64)],[],aqS,0,[.o 10 (.ay 49), .v 11 (.int .i64)],[(10, .c (.own 0))],[.tmp 10, .tmp 11],aqT⟩
def St (N:Nat):Lg.F:=fun r x=>D6 N x.1 x.2.1 x.2.2.1 x.2.2.2.1 x.2.2.2.2.1
theorem apk (N:Nat):bX bh Lg (St N):=aA.fn (al' N) Tryz.func22
def En (N:Nat):cz bh:=(Tn N).da Lg (St N) (apk N)
def alm (N:Nat):aA (En N).aJ (bn Tryz.f8):=aA.aO aA.nil ⟨[1,1,0,1,0,0,1,0,0,1,0,1],[.v 0 (.ay 63), .v 1 (.ay 43), .v 5 (.ay 49), .v 6 (.int .i64), .v 7 (.ay 49), .v 8 (.int .i64), .v 30 .bool],[],[],[⟨.normal,[.v 7 (.ay 49), .v 8 (.int .i64)],[]⟩],[0,1,5,6]⟩ fun x=>Ii N x.1 x.2.1 x.2.2.1 x.2.2.2.1 x.2.2.2.2.1 x.2.2.2.2.2.1 x.2.2.2.2.2.2.1
def alk (N:Nat):aA (En N).aJ (bn Tryz.f8):=aA.aO (alm N) ⟨[1,1,0,1,0,0,1,0],[.v 0 (.ay 63), .v 1 (.ay 43), .v 5 (.ay 49), .v 6 (.int .i64)],[],[],[⟨.normal,[.v 5 (.ay 49)],[]⟩],[0,1,6]⟩ fun x=>Ih N x.1 x.2.1 x.2.2.1 x.2.2.2.1
def alj (N:Nat):aA (En N).aJ (bn Tryz.f8):=aA.c8 (alk N) N ⟨[1,1,0,1,0],[.v 0 (.ay 63), .v 1 (.ay 43), .v 5 (.ay 49), .v 6 (.int .i64)],[],[],[⟨.exit 0,[.v 5 (.ay 49)],[]⟩],[]⟩ fun n x=>w3 N x.1 x.2.1 n x.2.2.1 x.2.2.2.1
def KN:bY D:=⟨8,2,[.v 0 (.ay 63), .v 1 (.ay 43)],[],aqS,0,[.v 4 (.ay 49)],[],[.tmp 4],aqT⟩
def RZ (N:Nat):KN.F:=fun r x=>DZ N x.1 x.2.1
theorem aoS (N:Nat):bX bh KN (RZ N):=aA.fn (alj N) Tryz.func8
def To (N:Nat):cz bh:=(En N).da KN (RZ N) (aoS N)
def akk (N:Nat):aA (To N).aJ (bn Tryz.f67):=aA.c8 aA.nil N ⟨[1,1,0,1,0],[.v 0 (.ay 37), .v 1 (.ay 37), .v 5 (.int .i64)],[],[],[⟨.exit 0,[],[]⟩,⟨.ret,[.v 4 .bool],[]⟩],[]⟩ fun n x=>sD N x.1 x.2.1 n x.2.2.1
def Ki:bY D:=⟨67,2,[.v 0 (.ay 37), .v 1 (.ay 37)],[],aqS,0,[.v 4 .bool],[],[.tmp 4],aqQ⟩
def Rv (N:Nat):Ki.F:=fun r x=>IU N x.1 x.2.1
theorem aom (N:Nat):bX bh Ki (Rv N):=aA.fn (akk N) Tryz.func67
def Jy (N:Nat):cz bh:=(To N).da Ki (Rv N) (aom N)
def ajY (N:Nat):aA (Jy N).aJ (bn Tryz.f32):=aA.aO aA.nil ⟨[1,1,0,1,0,0,1,0,0,0],[.v 0 (.ay 49), .v 1 (.ay 49), .v 5 (.int .i64)],[],[],[⟨.normal,[.v 55 .bool],[]⟩],[0,1,5]⟩ fun x=>H2 N x.1 x.2.1 x.2.2.1
def ajX (N:Nat):aA (Jy N).aJ (bn Tryz.f32):=aA.c8 (ajY N) N ⟨[1,1,0,1,0],[.v 0 (.ay 49), .v 1 (.ay 49), .v 5 (.int .i64)],[],[],[⟨.exit 0,[],[]⟩,⟨.ret,[.v 4 .bool],[]⟩],[]⟩ fun n x=>sG N x.1 x.2.1 n x.2.2.1
def Ks:bY D:=⟨32,2,[.v 0 (.ay 49), .v 1 (.ay 49)],[],aqS,0,[.v 4 .bool],[],[.tmp 4],aqQ⟩
def RE (N:Nat):Ks.F:=fun r x=>QV N x.1 x.2.1
theorem aox (N:Nat):bX bh Ks (RE N):=aA.fn (ajX N) Tryz.func32
def Tp (N:Nat):cz bh:=(Jy N).da Ks (RE N) (aox N)
def J6:bY D:=⟨12,2,[.v 0 (.ay 49), .v 1 (.ay 49)],[],aqS,0,[.v 4 .bool],[],[.tmp 4],aqQ⟩
def Rj (N:Nat):J6.F:=fun r x=>Aj N x.1 x.2.1
theorem aoa (N:Nat):bX bh J6 (Rj N):=aA.fn (aA.nil:aA (Tp N).aJ (bn Tryz.f12)) Tryz.func12
def Tq (N:Nat):cz bh:=(Tp N).da J6 (Rj N) (aoa N)
def KV:bY D:=⟨33,0,[],[],aqS,0,[.o 0 (.ay 63)],[(0, .c (.own 0))],[.tmp 0],aqT⟩
def R7 (N:Nat):KV.F:=fun r x=>xH N
theorem ao0 (N:Nat):bX bh KV (R7 N):=aA.fn (aA.nil:aA (Tq N).aJ (bn Tryz.f33)) Tryz.func33
def Tr (N:Nat):cz bh:=(Tq N).da KV (R7 N) (ao0 N)
def alQ (N:Nat):aA (Tr N).aJ (bn Tryz.f13):=aA.aO aA.nil ⟨[1,1,1,1,1,0],[.v 1 (.ay 49), .v 2 (.int .i64), .v 4 (.int .i64), .v 6 (.int .i64), .o 7 (.ay 49), .v 8 (.int .i64)],[(7, .c (.own 0))],[1],[⟨.normal,[.v 0 .bool],[]⟩],[]⟩ fun x=>HS N x.1 x.2.1 x.2.2.1 x.2.2.2.1 x.2.2.2.2.1 x.2.2.2.2.2.1
def K5:bY D:=⟨13,0,[],[],aqS,0,[.v 0 .bool],[],[.tmp 0],aqQ⟩
def Sh (N:Nat):K5.F:=fun r x=>xK N
theorem ao' (N:Nat):bX bh K5 (Sh N):=aA.fn (alQ N) Tryz.func13
def pA (N:Nat):cz bh:=(Tr N).da K5 (Sh N) (ao' N)
def ai7 (N:Nat):aA (pA N).aJ (bn Tryz.f4):=aA.aO aA.nil ⟨[1,1,1,1,0,1,0,0,1,0,0,1,0,1],[.v 4 (.ay 63), .o 5 (.ay 43), .v 6 (.ay 49), .v 7 (.int .i64), .v 8 (.ay 49), .v 9 (.int .i64), .v 45 .bool],[(5, .c (.own 0))],[1],[⟨.normal,[.v 8 (.ay 49), .v 9 (.int .i64)],[]⟩],[4,5,6,7]⟩ fun x=>Ht N x.1 x.2.1 x.2.2.1 x.2.2.2.1 x.2.2.2.2.1 x.2.2.2.2.2.1 x.2.2.2.2.2.2.1
def ai8 (N:Nat):aA (pA N).aJ (bn Tryz.f4):=aA.aO (ai7 N) ⟨[1,1,1,1,0,1,0,0,1,0,0,1,1,1,1,1,1,0,0],[.v 4 (.ay 63), .o 5 (.ay 43), .v 6 (.ay 49), .o 10 (.ay 3), .o 11 (.ay 51)],[(5, .c (.own 0)),(10, .c (.own 1)),(11, .c (.own 2))],[1,1,1],[⟨.normal,[.v 84 .bool],[]⟩],[4,5,6,7,10,11]⟩ fun x=>Hu N x.1 x.2.2.1 x.2.2.2.2.1
def ai' (N:Nat):aA (pA N).aJ (bn Tryz.f4):=aA.c8 (ai8 N) N ⟨[1,1,1,1,0,1,0,0,1,0,0,1,1,1,1,1,1,1,1,0,0,1,0,0,0,1,0],[.o 5 (.ay 43), .v 6 (.ay 49), .o 10 (.ay 3), .o 11 (.ay 51), .v 12 (.int .i64), .v 13 (.int .i64)],[(5, .c (.own 0)),(10, .c (.own 1)),(11, .c (.own 2))],[1,2,1],[⟨.exit 4,[.u 1 (.ay 3)],[]⟩,⟨.ret,[.v 2 .bool],[]⟩],[4,5,6,7,10,11,12]⟩ fun n x=>wQ N x.2.1 x.2.2.2.2.1 n x.2.2.1 x.2.2.2.2.2.1
def aiH (N:Nat):aA (pA N).aJ (bn Tryz.f4):=aA.aO (ai' N) ⟨[1,1,1,1,0,1,0,0,1,0,0,1,1,1,1,1,1,1,1,0,0,1,0,0,1,1,0,0,1,0,0,1,0,1,0,0,1,0,0],[.o 5 (.ay 43), .v 6 (.ay 49), .o 10 (.ay 3), .o 11 (.ay 51), .v 12 (.int .i64), .v 14 (.int .i64), .v 15 .bool, .v 16 (.int .i64)],[(5, .c (.own 0)),(10, .c (.own 1)),(11, .c (.own 2))],[1,1,1],[⟨.normal,[.v 15 .bool],[]⟩],[4,5,6,7,10,11,12,14,16]⟩ fun x=>Hv N x.2.1 x.2.2.2.1 x.2.2.2.2.1 x.2.2.2.2.2.1 x.2.2.2.2.2.2.1 x.2.2.2.2.2.2.2.1
def ajb (N:Nat):aA (pA N).aJ (bn Tryz.f4):=aA.c8 (aiH N) N ⟨[1,1,1,1,0,1,0,0,1,0,0,1,1,1,1,1,1,1,1,0,0,1,0,0,1,1,0,0,1,0,0,1,0,1,0],[.o 5 (.ay 43), .v 6 (.ay 49), .o 10 (.ay 3), .o 11 (.ay 51), .v 12 (.int .i64), .v 14 (.int .i64), .v 15 .bool, .v 16 (.int .i64)],[(5, .c (.own 0)),(10, .c (.own 1)),(11, .c (.own 2))],[1,1,1],[⟨.exit 8,[.v 15 .bool],[]⟩],[4,5,6,7,10,11,12,14]⟩ fun n x=>wR N x.2.1 x.2.2.2.1 x.2.2.2.2.1 x.2.2.2.2.2.1 n x.2.2.2.2.2.2.1 x.2.2.2.2.2.2.2.1
def aja (N:Nat):aA (pA N).aJ (bn Tryz.f4):=aA.c8 (ajb N) N ⟨[1,1,1,1,0,1,0,0,1,0,0,1,1,1,1,1,1,1,1,0,0,1,0,0,1,1,0],[.o 5 (.ay 43), .v 6 (.ay 49), .o 10 (.ay 3), .o 11 (.ay 51), .v 12 (.int .i64), .v 14 (.int .i64)],[(5, .c (.own 0)),(10, .c (.own 1)),(11, .c (.own 2))],[1,1,1],[⟨.exit 6,[],[]⟩,⟨.ret,[.v 2 .bool],[]⟩],[4,5,6,7,10,11,12]⟩ fun n x=>sy N x.2.1 x.2.2.2.1 x.2.2.2.2.1 n x.2.2.2.2.2.1
def ai9 (N:Nat):aA (pA N).aJ (bn Tryz.f4):=aA.c8 (aja N) N ⟨[1,1,1,1,0,1,0,0,1,0,0,1,1,1,1,1,1,1,1,0],[.o 5 (.ay 43), .v 6 (.ay 49), .o 10 (.ay 3), .o 11 (.ay 51), .v 12 (.int .i64)],[(5, .c (.own 0)),(10, .c (.own 1)),(11, .c (.own 2))],[1,0,1],[⟨.exit 2,[],[]⟩,⟨.ret,[.v 2 .bool],[]⟩],[4,5,6,7]⟩ fun n x=>wP N x.2.1 x.2.2.2.1 n x.2.2.1 x.2.2.2.2.1
def ai6 (N:Nat):aA (pA N).aJ (bn Tryz.f4):=aA.aO (ai9 N) ⟨[1,1,1,1,0,1,0,0,1,0],[.v 4 (.ay 63), .o 5 (.ay 43), .v 6 (.ay 49), .v 7 (.int .i64)],[(5, .c (.own 0))],[1],[⟨.normal,[.v 6 (.ay 49)],[]⟩,⟨.ret,[.v 2 .bool],[]⟩],[4,5,7]⟩ fun x=>Hs N x.1 x.2.1 x.2.2.1 x.2.2.2.1
def ai5 (N:Nat):aA (pA N).aJ (bn Tryz.f4):=aA.c8 (ai6 N) N ⟨[1,1,1,1,0,1,0],[.v 4 (.ay 63), .o 5 (.ay 43), .v 6 (.ay 49), .v 7 (.int .i64)],[(5, .c (.own 0))],[1],[⟨.exit 0,[.v 6 (.ay 49)],[]⟩,⟨.ret,[.v 2 .bool],[]⟩],[4,5]⟩ fun n x=>wO N x.1 x.2.1 n x.2.2.1 x.2.2.2.1
def aiI (N:Nat):aA (pA N).aJ (bn Tryz.f4):=aA.aO (ai5 N) ⟨[1,1,1,1,1,0],[.v 4 (.ay 63), .o 5 (.ay 43), .v 6 (.ay 49)],[(5, .c (.own 0))],[0],[⟨.normal,[.v 2 .bool],[]⟩],[]⟩ fun x=>Hw N x.1 x.2.1 x.2.2.1
def EH:bY D:=⟨4,1,[.v 0 (.ay 3)],[],aqS,0,[.v 2 .bool],[],[.tmp 2],aqQ⟩
def Ea (N:Nat):EH.F:=fun r x=>IP N x.1
theorem ZU (N:Nat):bX bh EH (Ea N):=aA.fn (aiI N) Tryz.func4
def apM (N:Nat):cz bh:=(pA N).da EH (Ea N) (ZU N)
end
end Go.W
end
section
namespace Go.W
open Go.aS
theorem gW {n:Int} (h: -9223372036854775808<=n) (cp:n<=9223372036854775807):aq0 .i64 n=n:=by rw[aqW.wrap_i64];omega
theorem ZQ {n:Int} (h:0<=n) (cp:n<=255):aq0 .u8 n=n:=by rw[aqW.wrap_u8];omega
theorem bN {ap bx:Type} (x:ap) (f:ap->Option bx):aS.lt x f=f x:=rfl
theorem al {ap bx:Type} (x:ap) (f:ap->Option bx):aqU (aqP x) f=f x:=rfl
theorem OE {ap:Type} {xs:List ap} {i:Int} (aI:0<=i) (h1:i<xs.length):∃x,aR xs i=aqP x/\x∈xs/\xs[i.toNat]? =aqP x:=by
 have aN:i.toNat<xs.length:=by omega
 exact ⟨xs[i.toNat],by simp[aR,aI,aN],by simp,by simp[aN]⟩
def ho (c:Int) (s:er):Prop:=0<=s.n/\s.n<=c
theorem lZ (N:Nat) {c:Int} {s:er} (k:Int) (hk:1<=k) (rK:k<=1000000) (az:ho c s) (ab:c<=1000000000000):∃r cc,kA N s k=aqP (r,cc)/\0<=r/\r<k/\ho (c+1) cc:=by
 obtain ⟨aI,h1⟩:=az;have aa5:∃y,Ie N s 0 (decide (0<(s.l.length:Int)))=aqP y:=by
  unfold Ie;by_cases ai:0<(s.l.length:Int)
  ·rw[if_pos (by simpa using ai)];have ca:(s.l.length:Int)≠0:=by omega
   have hm:rZ s.n s.l.length=aqP (s.n.tmod s.l.length):=by unfold rZ;rw[if_neg ca]
   have aB:x8 s.n s.l.length=aqP (s.n.tdiv s.l.length):=by unfold x8;rw[if_neg ca]
   have acZ:0<=s.n.tmod s.l.length:=Int.tmod_nonneg _ aI;have yC:s.n.tmod s.l.length<s.l.length:=Int.tmod_lt_of_pos _ ai;obtain ⟨x,U,_,_⟩:=OE acZ yC;rw[hm,al,U,al,aB,al,bN];exact ⟨_,rfl⟩
  ·rw[if_neg (by simpa using ai)];exact ⟨_,rfl⟩
 obtain ⟨y,ag⟩:=aa5;unfold kA;rw[ag,al];have hm:rZ y k=aqP (y.tmod k):=by simp[rZ];omega
 have aN:y.tmod k<k:=Int.tmod_lt_of_pos _ (by omega);have Bu: -k<y.tmod k:=by have:=Int.lt_tmod_of_pos y (by omega:0<k);omega
 have aq:aq0 .i64 (s.n+1)=s.n+1:=gW (by omega) (by omega);simp only[hm,al,aq];unfold P7;by_cases UA:y.tmod k<0
 ·rw[if_pos (by simpa using UA),bN,al,gW (by omega) (by omega)];exact ⟨_,_,rfl,by omega,by omega,by constructor<;>simp<;>omega⟩
 ·rw[if_neg (by simpa using UA),al];exact ⟨_,_,rfl,by omega,by omega,by constructor<;>simp<;>omega⟩
theorem ah4 (N:Nat) {c:Int} {s:er} (l:List Int) (ai:1<=l.length) (gl:l.length<=1000) (az:ho c s) (ab:c<=1000000000000):∃x cc,IZ N s l=aqP (x,cc)/\x∈l/\ho (c+1) cc:=by
 obtain ⟨r,cc,h1,J,aj,aM⟩:=lZ N (s:=s) (c:=c) (l.length:Int) (by omega) (by omega) az ab;obtain ⟨x,U,hm,_⟩:=OE J aj;unfold IZ;rw[h1,al];simp only[U,al];exact ⟨x,cc,rfl,hm,aM⟩
end Go.W
end
section
namespace Go.W
open Go.aS
theorem cC {ap:Type} {xs:List ap} {i:Nat} {x:ap} (h:xs[i]? =aqP x):aR xs (i:Int)=aqP x:=by simp[aR,h]
theorem cI {ap:Type} {xs:List ap} {i:Nat} (h:i<xs.length):xs[i]? =aqP xs[i]:=by simp[h]
theorem jt {ap:Type} {xs:List ap} {i:Nat} {x:ap} (h:xs[i]? =aqP x):xs.drop i=x::xs.drop (i+1):=by
 obtain ⟨aN,rfl⟩:=aqZ.1 h;exact List.drop_eq_getElem_cons aN
theorem dh {i:Nat} (h:i<9223372036854775807):aq0 .i64 ((i:Int)+1)=((i+1:Nat):Int):=by rw[gW (by omega) (by omega)];omega
theorem ZP {i:Nat} (h:i<9223372036854775807):aq0 .i64 (((i+1:Nat):Int) - 1)=(i:Int):=by rw[gW (by omega) (by omega)];omega
theorem cA {a b:Int} (h:a<b):decide (a<b)=aqQ:=decide_eq_true h
theorem cw {a b:Int} (h:¬a<b):¬decide (a<b)=aqQ:=by simpa using h
theorem nn {a b:Int} (h:a<=b):decide (a<=b)=aqQ:=decide_eq_true h
theorem n9 {a b:Int} (h:¬a<=b):¬decide (a<=b)=aqQ:=by simpa using h
theorem hj {ap:Type} {xs bk:List ap} (h:xs.length+bk.length<=4294967296):dR xs bk=aqP (xs++bk):=if_pos h
theorem wo {ap:Type} {xs:List ap} {i:Nat} (h:i<=xs.length):fV xs (i:Int) (xs.length:Int)=aqP (xs.drop i):=by
 unfold fV;rw[if_pos (by omega)];simp
theorem y0 {ap:Type} {xs:List ap} {i:Nat} (h:i<=xs.length):fV xs 0 (i:Int)=aqP (xs.take i):=by
 unfold fV;rw[if_pos (by omega)];simp
theorem ho.le {c bP:Int} {s:er} (h:ho c s) (ab:c<=bP):ho bP s:=⟨h.1,Int.le_trans h.2 ab⟩
theorem ad5 (t:List Int):ho 0 (er.mk t 0):=⟨by simp,by simp⟩
def ch {ap bx:Type} (p:Nat->ap->Bool) (out:Nat->ap->bx):Nat->List ap->Sum Unit bx
 |_,[]=> .inl ()
 |i,x::xs=>if p i x=aqQ then .inr (out i x) else ch p out (i+1) xs
theorem jT {ap bx:Type} {l:List ap} (p:Nat->ap->Bool) (out:Nat->ap->bx) (F:Nat->Int->Option (Sum Unit bx)) (aI:∀n,F (n+1) (l.length:Int)=aqP (.inl ()))
  (h1:∀(n i:Nat) (x:ap),l[i]? =aqP x->F (n+1) (i:Int)=if p i x=aqQ then aqP (.inr (out i x)) else F n ((i+1:Nat):Int)):∀(k n i:Nat),k<n->i+k=l.length->F n (i:Int)=aqP (ch p out i (l.drop i))
 |k,0,i,aq,_=>by omega
 |0,n+1,i,aq,ae=>by
  obtain rfl:i=l.length:=by omega
  rw[aI,asd,ch]
 |k+1,n+1,i,aq,ae=>by
  have aN:i<l.length:=by omega
  rw[h1 n i _ (cI aN),jt (cI aN),ch];split
  ·rfl
  ·exact jT p out F aI h1 k n (i+1) (by omega) (by omega)
def p6 {ap:Type} (p:Nat->ap->Bool):Nat->List ap->Int
 |_,[]=> -1
 |i,x::xs=>if p i x=aqQ then (i:Int) else p6 p (i+1) xs
theorem y3 {ap:Type} (p:Nat->ap->Bool):∀(l:List ap) (i:Nat),ch p (fun i _=>(i:Int)) i l= .inl ()/\p6 p i l= -1\/ch p (fun i _=>(i:Int)) i l= .inr (p6 p i l)/\0<=p6 p i l
 |[],i=> .inl ⟨rfl,rfl⟩
 |x::xs,i=>by
  rw[ch,p6];by_cases h:p i x=aqQ
  ·rw[if_pos h,if_pos h];exact .inr ⟨rfl,by omega⟩
  ·rw[if_neg h,if_neg h];exact y3 p xs (i+1)
theorem F3 {ap:Type} (p:Nat->ap->Bool):∀(l:List ap) (i:Nat),(p6 p i l= -1/\∀(j:Nat) (x:ap),l[j]? =aqP x->p (i+j) x=aqT)\/
  ∃(j:Nat) (x:ap),p6 p i l=((i+j:Nat):Int)/\l[j]? =aqP x/\p (i+j) x=aqQ/\∀(bT:Nat) (y:ap),bT<j->l[bT]? =aqP y->p (i+bT) y=aqT
 |[],i=> .inl ⟨rfl,fun j x h=>by simp at h⟩
 |x::xs,i=>by
  rw[p6];by_cases h:p i x=aqQ
  ·rw[if_pos h];exact .inr ⟨0,x,by simp,by simp,by simpa using h,fun bT y ar=>by omega⟩
  ·rw[if_neg h];have cp:p i x=aqT:=by simpa using h
   rcases F3 p xs (i+1) with ⟨h1,J⟩|⟨j,y,h1,J,aj,aM⟩
   ·refine .inl ⟨h1,fun j y ar=> ?_⟩;cases j with
    |zero=>simp at ar;subst ar;exact cp
    |succ j=>have:=J j y (by simpa using ar);rwa [show i+1+j=i+(j+1) by omega] at this
   ·refine .inr ⟨j+1,y,by rw[h1];omega,by simpa using J,by rwa [show i+1+j=i+(j+1) by omega] at aj,fun bT z ar aE=> ?_⟩;cases bT with
    |zero=>simp at aE;subst aE;exact cp
    |succ bT=>have:=aM bT z (by omega) (by simpa using aE);rwa [show i+1+bT=i+(bT+1) by omega] at this
theorem iH {ap bx:Type} [DecidableEq ap] (m:List (ap×bx)) (a k:ap) (b:bx):bs (dV m a b) k=if a=k then aqP b else bs m k:=by
 induction m with
 |nil=>simp[dV,bs]
 |cons p m a8=>
  simp only[dV];by_cases h:p.1=a
  ·rw[if_pos h];simp only[bs];by_cases J:a=k
   ·simp[h,J]
   ·simp[h,J]
  ·rw[if_neg h];simp only[bs,a8];by_cases J:p.1=k
   ·have:¬a=k:=fun aj=>h (J.trans aj.symm);simp[J,this]
   ·simp[J]
end Go.W
end
section
namespace Go.W
open Go.aS
theorem O1 {ap:Type} (p:ap->Bool):∀(l:List ap) (i:Nat),ch (fun _ y=>p y) (fun _ _=>aqQ) i l=if l.any p=aqQ then .inr aqQ else .inl ()
 |[],i=>rfl
 |y::l,i=>by
  rw[ch,asD];by_cases h:p y=aqQ
  ·simp[h]
  ·simp only[arQ] at h;rw[h,if_neg (by simp),O1 p l (i+1),arS]
theorem G9 {l:List Int} {x:Int}:(l.any fun y=>y==x)=l.contains x:=by
 induction l with
 |nil=>rfl
 |cons y l a8=>
  rw[asD,List.contains_cons,a8];congr 1;by_cases h:y=x
  ·rw[h]
  ·have cp:¬x=y:=fun ax=>h ax.symm;have aX:(y==x)=aqT:=by simpa using h
   have e2:(x==y)=aqT:=by simpa using cp
   rw[aX,e2]
def bZ (x:aC):List Int:=if x.kind=1\/x.kind=3 then [x.a,x.b] else if x.kind=2 then [x.a,x.b,x.c] else []
def cV (l:List aC) (i:Int):List Int:=if 0<=i then (match l[i.toNat]? with|some x=>bZ x|none=>[]) else []
theorem ua (x:aC):(bZ x).length<=3:=by unfold bZ;split<;>(try split)<;>simp
theorem lr (l:List aC) (i:Int):(cV l i).length<=3:=by
 unfold cV;split
 ·split
  ·exact ua _
  ·simp
 ·simp
theorem zu {l:List aC} {i:Nat} {x:aC} (h:l[i]? =aqP x):cV l (i:Int)=bZ x:=by
 unfold cV;rw[if_pos (by omega)];simp[h]
theorem jb {l:List aC} {i n:Int} (h:n∈cV l i):0<=i/\i<l.length/\∃x,l[i.toNat]? =aqP x/\n∈bZ x:=by
 unfold cV at h;split at h
 ·rename_i aI;split at h
  ·rename_i x U;have:=(aqZ.1 U).1;exact ⟨aI,by omega,x,U,h⟩
  ·simp at h
 ·simp at h
theorem GJ (N:Nat) (x:aC):xG N x=aqP (bZ x):=by
 unfold xG bZ P9;simp only[bN];by_cases h1:x.kind=1
 ·simp[h1,al]
 ·by_cases aj:x.kind=3
  ·simp[aj,al]
  ·by_cases J:x.kind=2
   ·simp[J,al]
   ·simp[h1,J,aj,al]
theorem GI (N:Nat) (l:List aC) (i:Int):uW N l i=aqP (cV l i):=by
 unfold uW P8 cV;by_cases aI:i<0
 ·rw[if_pos (cA aI),al,if_pos rfl,if_neg (by omega)]
 ·rw[if_neg (cw aI),al,if_pos (by omega:0<=i)];by_cases h1:(l.length:Int)<=i
  ·rw[if_pos (nn h1),asP (by omega)]
  ·rw[if_neg (n9 h1)];have aN:i.toNat<l.length:=by omega
   have aG:aR l i=aqP l[i.toNat]:=by simp[aR,aN];omega
   rw[aG,al,GJ,al,cI aN]
theorem sb (N:Nat) (l:List aC) (i:Int):ps N l i=aqP (cV l i):=by
 unfold ps Qi cV;by_cases aI:i<0
 ·rw[if_pos (cA aI),al,if_pos rfl,if_neg (by omega)]
 ·rw[if_neg (cw aI),al,if_pos (by omega:0<=i)];by_cases h1:(l.length:Int)<=i
  ·rw[if_pos (nn h1),asP (by omega)]
  ·rw[if_neg (n9 h1)];have aN:i.toNat<l.length:=by omega
   have aG:aR l i=aqP l[i.toNat]:=by simp[aR,aN];omega
   rw[aG,al,cI aN];generalize l[i.toNat]=x at*;simp only[aG,al,bN];unfold bZ Qj;by_cases h1:x.kind=1
   ·simp[h1,al]
   ·by_cases aj:x.kind=3
    ·simp[aj,al,bN]
    ·by_cases J:x.kind=2
     ·simp[J,al,bN]
     ·simp[h1,J,aj,al,bN]
theorem X5 {l:List Int} {x:Int} (F:Nat->Int->Option (Sum Unit Bool)) (aI:∀n,F (n+1) (l.length:Int)=aqP (.inl ())) (h1:∀(n i:Nat) (y:Int),l[i]? =aqP y->F (n+1) (i:Int)=if (y==x)=aqQ then aqP (.inr aqQ) else F n ((i+1:Nat):Int))
  {n:Nat} (aq:l.length<n):F n 0=aqP (if l.contains x=aqQ then .inr aqQ else .inl ()):=by
 have h:=jT (l:=l) (fun _ y=>y==x) (fun _ _=>aqQ) F aI h1 l.length n 0 aq (by omega);simp only[asn,arv] at h;rw[h,O1 (fun y=>y==x),G9]
theorem O2 (N:Nat) {l:List Int} (bi:l.length<N) (ai:l.length<=1000000) (x:Int):Ar N l x=aqP (l.contains x):=by
 have h:=X5 (l:=l) (x:=x) (fun n i=>uH N l x n i) (fun n=>by
  show uH N l x (n+1) _=_;rw[uH,if_neg (cw (by omega))]) (fun n i y ag=>by
  show uH N l x (n+1) _=_;have aN:=(aqZ.1 ag).1;rw[uH,if_pos (cA (by omega)),cC ag,al,bN,dh (by omega)]) bi
 unfold Ar;rw[h,al];cases l.contains x<;>rfl
def qP (i n:Int) (k:Nat) (x:aC):Bool:=((k:Int) !=i)&&(bZ x).contains n
def bF (l:List aC) (i n:Int):Int:=p6 (qP i n) 0 l
theorem amB (N:Nat) (bi:4<=N) (x:aC) (n k:Int):sB N n k (bZ x) (bZ x).length N 0=aqP (if (bZ x).contains n=aqQ then .inr k else .inl ()):=by
 have h:=jT (l:=bZ x) (fun _ y=>y==n) (fun _ _=>k) (fun m i=>sB N n k (bZ x) (bZ x).length m i) (fun m=>by
  show sB N n k (bZ x) (bZ x).length (m+1) _=_;rw[sB,if_neg (cw (by omega))]) (fun m i y ag=>by
  show sB N n k (bZ x) (bZ x).length (m+1) _=_;have aN:=(aqZ.1 ag).1;have:=ua x;rw[sB,if_pos (cA (by omega)),cC ag];simp only[al,dh (show i<9223372036854775807 by omega)]) (bZ x).length N 0 (by have:=ua x;omega) (by omega)
 simp only[asn,arv] at h;rw[h];congr 1;rw[<-G9];generalize bZ x=e;have key:∀(e:List Int) (i:Nat),ch (fun _ y=>y==n) (fun _ _=>k) i e=if (e.any fun y=>y==n)=aqQ then .inr k else .inl ():=by
  intro e;induction e with
  |nil=>intro i;rfl
  |cons y e a8=>
   intro i;rw[ch,asD];by_cases h:(y==n)=aqQ
   ·simp[h]
   ·simp only[arQ] at h;rw[h,if_neg (by simp),a8,arS]
 exact key e 0
theorem XX {F:Option (Sum Unit Int)} {l:List aC} {i n:Int} (h:F=aqP (ch (qP i n) (fun k _=>(k:Int)) 0 l)):(aqU F fun y=>match y with| .inl _=>aqP (-1)| .inr y=>aqP y)=aqP (bF l i n):=by
 rw[h,al];unfold bF;rcases y3 (qP i n) l 0 with ⟨h1,J⟩|⟨h1,J⟩
 ·rw[h1,J]
 ·rw[h1]
theorem GR (N:Nat) {l:List aC} (bi:l.length+4<=N) (ai:l.length<=1000000) (i n:Int):xD N l i n=aqP (bF l i n):=by
 unfold xD;refine XX ?_;have h:=jT (l:=l) (qP i n) (fun k _=>(k:Int)) (fun m j=>uL N i n l l.length m j) (fun m=>by
  show uL N i n l l.length (m+1) _=_;rw[uL,if_neg (cw (by omega))]) (fun m j x U=>by
  show uL N i n l l.length (m+1) _=_;have aN:=(aqZ.1 U).1;rw[uL,if_pos (cA (by omega))];unfold PV qP;rw[cC U,al];by_cases iD:(j:Int)=i
  ·rw[if_pos (by simpa using iD)];simp only[al,iD,bne_self_eq_false,Bool.false_and,arz,if_false];rw[<-iD,dh (by omega)]
  ·rw[if_neg (by simpa using iD),GJ,al,amB N (by omega),al];have aa:((j:Int) !=i)=aqQ:=by simpa using iD
   rw[aa,asJ];by_cases ab:(bZ x).contains n=aqQ
   ·rw[if_pos ab,if_pos ab];rfl
   ·rw[if_neg ab,if_neg ab];simp only[al];rw[dh (by omega)]) l.length N 0 (by omega) (by omega)
 simpa using h
theorem wu (N:Nat) {l:List aC} (bi:l.length+4<=N) (ai:l.length<=1000000) (i n:Int):q9 N l i n=aqP (bF l i n):=by
 unfold q9;refine XX ?_;have h:=jT (l:=l) (qP i n) (fun k _=>(k:Int)) (fun m j=>uA N l i n m j) (fun m=>by
  show uA N l i n (m+1) _=_;rw[uA,if_neg (cw (by omega))]) (fun m j x U=>by
  show uA N l i n (m+1) _=_;have aN:=(aqZ.1 U).1;have hlen:=ua x;rw[uA,if_pos (cA (by omega))];unfold PK qP;by_cases iD:(j:Int)=i
  ·have aa:((j:Int) !=i)=aqT:=by simpa using iD
   rw[aa,Bool.false_and];simp only[arz,if_false,al,bN];rw[dh (by omega)]
  ·have aa:((j:Int) !=i)=aqQ:=by simpa using iD
   rw[aa,if_pos rfl,sb,al,zu U,O2 N (by omega) (by omega),al,al,asJ,bN,dh (by omega)]) l.length N 0 (by omega) (by omega)
 simpa using h
def iJ (e:List Int) (n:Int):List Int:=if e.contains n=aqQ then (if e.head? =aqP n then e.tail else e.take 1) else []
def fo (l:List aC) (i n:Int):List Int:=iJ (cV l i) n
theorem aft (N:Nat) (n:Int) {e:List Int} (he:e.length<=3):l2 N n e.length 4 e 0=aqP (if e.contains n=aqQ then .inr (iJ e n) else .inl ()):=by
 match e,he with
 |[],_=>rfl
 |[a],_=>
  by_cases h:a=n
  ·subst h;simp[l2,aR,al,bN,fV,iJ,dh]
  ·have cp:¬n=a:=fun ax=>h ax.symm;simp[l2,aR,al,bN,fV,iJ,h,cp,gW]
 |[a,b],_=>
  by_cases h:a=n
  ·subst h;simp[l2,aR,al,bN,fV,iJ,dh]
  ·have cp:¬n=a:=fun ax=>h ax.symm;by_cases J:b=n
   ·subst J;simp[l2,aR,al,bN,fV,iJ,h,cp,gW]
   ·have gi:¬n=b:=fun ax=>J ax.symm;simp[l2,aR,al,bN,fV,iJ,h,cp,J,gi,gW]
 |[a,b,c],_=>
  by_cases h:a=n
  ·subst h;simp[l2,aR,al,bN,fV,iJ,dh]
  ·have cp:¬n=a:=fun ax=>h ax.symm;by_cases J:b=n
   ·subst J;simp[l2,aR,al,bN,fV,iJ,h,cp,gW]
   ·have gi:¬n=b:=fun ax=>J ax.symm;by_cases aj:c=n
    ·subst aj;simp[l2,aR,al,bN,fV,iJ,h,cp,J,gi,gW]
    ·have rF:¬n=c:=fun ax=>aj ax.symm;simp[l2,aR,al,bN,fV,iJ,h,cp,J,gi,aj,rF,gW]
 |a::b::c::d::e,h=>simp at h
theorem VV {N:Nat} {n m:Int}:∀{k dc:Nat} {e:List Int} {i:Int} {r:Sum Unit (List Int)},k<=dc->l2 N n m k e i=aqP r->l2 N n m dc e i=aqP r
 |0,_,_,_,_,_,h=>by cases h
 |k+1,0,_,_,_,hk,_=>by omega
 |k+1,dc+1,e,i,r,hk,h=>by
  rw[l2] at h⊢;split at h
  ·rename_i ab;rw[if_pos ab];cases h1:aR e i with
   |none=>rw[h1] at h;cases h
   |some a=>
    rw[h1] at h;simp only[al] at h⊢;split at h
    ·rename_i aq;rw[if_pos aq];exact VV (by omega) h
    ·rename_i aq;rw[if_neg aq];exact h
  ·rename_i ab;rw[if_neg ab];exact h
theorem OX (N:Nat) (bi:4<=N) (l:List aC) (i n:Int):Al N l i n=aqP (fo l i n):=by
 unfold Al fo;rw[GI,al,VV bi (aft N n (lr l i)),al];by_cases ab:(cV l i).contains n=aqQ
 ·rw[if_pos ab]
 ·rw[if_neg ab,iJ,if_neg ab]
theorem O3 (N:Nat) (bi:4<=N) (l:List aC) (i n:Int):xF N l i n=aqP (fo l i n):=by
 unfold xF fo;have ai:=lr l i;rw[sb,al,O2 N (by omega) (by omega),al,bN];generalize cV l i=e at*;unfold iJ;by_cases ab:e.contains n=aqQ
 ·rw[ab];cases e with
  |nil=>simp at ab
  |cons a e=>
   simp only[ass,arz,if_false,aR,Int.le_refl,if_true,Int.toNat_zero,List.getElem?_cons_zero,al,bN,List.head?_cons,List.tail_cons];by_cases au:a=n
   ·subst au;have:=wo (xs:=a::e) (i:=1) (by simp);simp only[beq_self_eq_true,if_true];rw[show (1:Int)=((1:Nat):Int) from rfl,this,al,hj (by simp at ai⊢;omega),al];simp
   ·have:(a==n)=aqT:=by simpa using au
    rw[this];simp[au]
 ·simp only[arQ] at ab;rw[ab];simp
end Go.W
end
section
namespace Go.W
open Go.aS
def og (u:UInt8):Bool:=(decide (97<=u.toNat)&&decide (u.toNat<=122))||(decide (48<=u.toNat)&&decide (u.toNat<=57))
def kT (l:List UInt8):Bool:=l.all og&&(decide (1<=l.length)&&decide (l.length<=12))
theorem ajk (N:Nat) {l:List UInt8} {i:Nat} {u:UInt8} (h:l[i]? =aqP u):Ij N l i=aqP (!og u):=by
 unfold Ij og;rw[cC h];simp only[al];by_cases a:97<=u.toNat
 ·rw[if_neg (by simp;omega)];by_cases b:u.toNat<=122
  ·rw[if_neg (by simp;omega)];simp[a,b]
  ·rw[if_pos (by simp;omega),if_neg (by simp;omega)];simp[a,b,show ¬u.toNat<=57 by omega,show (57:Int)<u.toNat by omega]
 ·rw[if_pos (by simp;omega)];by_cases c:u.toNat<48
  ·rw[if_pos (by simp;omega)];simp[a,show ¬48<=u.toNat by omega]
  ·rw[if_neg (by simp;omega)];by_cases d:u.toNat<=57
   ·simp[a,show 48<=u.toNat by omega,d,show ¬(57:Int)<u.toNat by omega]
   ·simp[a,show 48<=u.toNat by omega,d,show (57:Int)<u.toNat by omega]
theorem ajp (N:Nat) {l:List UInt8} {i:Nat} {u:UInt8} (h:l[i]? =aqP u):HT N l i=aqP (!og u):=by
 unfold HT og;rw[cC h];simp only[al];by_cases a:97<=u.toNat
 ·rw[if_pos (by simp;omega)];by_cases b:u.toNat<=122
  ·rw[if_pos (by simp;omega)];simp[a,b]
  ·rw[if_neg (by simp;omega)];by_cases c:48<=u.toNat
   ·rw[if_pos (by simp;omega)];simp[a,b,c];omega
   ·omega
 ·rw[if_neg (by simp;omega)];by_cases c:48<=u.toNat
  ·rw[if_pos (by simp;omega)];simp[a,c];omega
  ·rw[if_neg (by simp;omega)];simp[a,c]
theorem O0 {ap bx:Type} (p:ap->Bool) (b:bx):∀(l:List ap) (i:Nat),ch (fun _ y=> !p y) (fun _ _=>b) i l=if l.all p=aqQ then .inl () else .inr b
 |[],i=>rfl
 |y::l,i=>by
  rw[ch,arL];by_cases h:p y=aqQ
  ·rw[h];simp only[ass,arz,if_false,asJ];exact O0 p b l (i+1)
  ·simp only[arQ] at h;rw[h];simp
theorem agi (N:Nat) {l:List UInt8} (bi:14<=N):I2 N l=aqP (kT l):=by
 unfold I2 Qa kT;by_cases h1:l.length<1
 ·rw[if_pos (cA (by omega)),al,if_pos rfl];simp[show ¬1<=l.length by omega]
 ·rw[if_neg (cw (by omega)),al];by_cases J:12<l.length
  ·rw[if_pos (by simpa using by omega)];simp[show ¬l.length<=12 by omega]
  ·rw[if_neg (by simpa using by omega)];have h:=jT (l:=l) (fun _ y=> !og y) (fun _ _=>aqT) (fun m i=>uB N l l.length m i) (fun m=>by
    show uB N l l.length (m+1) _=_;rw[uB,if_neg (cw (by omega))]) (fun m i y ag=>by
    show uB N l l.length (m+1) _=_;have aN:=(aqZ.1 ag).1;rw[uB,if_pos (cA (by omega)),ajk N ag,al,dh (by omega)]) l.length N 0 (by omega) (by omega)
   simp only[asn,arv] at h;rw[h,O0 og,al];by_cases aj:l.all og=aqQ
   ·rw[if_pos aj,aj];simp[show 1<=l.length by omega,show l.length<=12 by omega]
   ·rw[if_neg aj];simp only[arQ] at aj;rw[aj];simp
theorem ags (N:Nat) {l:List UInt8} (bi:l.length<N) (ai:l.length<=9223372036854775807):I6 N l=aqP (kT l):=by
 unfold I6 kT;have h:=jT (l:=l) (fun _ y=> !og y) (fun _ _=>aqT) (fun m i=>uG N l m i) (fun m=>by
  show uG N l (m+1) _=_;rw[uG,if_neg (cw (by omega))]) (fun m i y ag=>by
  show uG N l (m+1) _=_;have aN:=(aqZ.1 ag).1;rw[uG,if_pos (cA (by omega)),ajp N ag,al,bN,dh (by omega)]) l.length N 0 (by omega) (by omega)
 simp only[asn,arv] at h;rw[h,O0 og,al];by_cases aj:l.all og=aqQ
 ·rw[if_pos aj,aj];unfold Qh;by_cases a:1<=l.length
  ·rw[if_pos (nn (by omega))];simp only[bN,al,decide_eq_true a,asJ];congr 1;rw[decide_eq_decide];omega
  ·rw[if_neg (n9 (by omega))];simp[a,al]
 ·rw[if_neg aj];simp only[arQ] at aj;rw[aj];simp
def mB (e:List Int) (i:Nat) (a:Int):Bool:=(decide (a<0)||decide (64<=a))||(e.take i).contains a
def r1 (e:List Int):Bool:=match ch (mB e) (fun _ _=>aqT) 0 e with| .inl _=>aqQ| .inr _=>aqT
def jc (x:aC):Bool:=
 (!(bZ x).isEmpty&&kT x.name)&&(r1 (bZ x)&&if x.kind=1 then x.c==0&&(decide (1<=x.length)&&decide (x.length<=100000)) else x.length==0&&(x.kind==2||x.c==0))
theorem tZ {ap bx:Type} {p:Nat->ap->Bool} {out:Nat->ap->bx}:∀{l:List ap} {i:Nat},ch p out i l= .inl ()↔∀(j:Nat) (x:ap),l[j]? =aqP x->p (i+j) x=aqT
 |[],i=>by simp[ch]
 |x::l,i=>by
  rw[ch];by_cases h:p i x=aqQ
  ·rw[if_pos h];constructor
   ·intro ax;cases ax
   ·intro ax;have:=ax 0 x rfl;rw[Nat.add_zero,h] at this;cases this
  ·rw[if_neg h,tZ];simp only[arQ] at h;constructor
   ·intro ax j y ar;cases j with
    |zero=>simp at ar;subst ar;exact h
    |succ j=>have:=ax j y (by simpa using ar);rwa [show i+1+j=i+(j+1) by omega] at this
   ·intro ax j y ar;have:=ax (j+1) y (by simpa using ar)
    rwa [show i+(j+1)=i+1+j by omega] at this
theorem GO {e:List Int}:r1 e=aqQ↔e.Nodup/\∀a∈e,0<=a/\a<64:=by
 have h1:r1 e=aqQ↔ch (mB e) (fun _ _=>aqT) 0 e= .inl ():=by
  unfold r1;split
  ·rename_i u h;simp[h]
  ·rename_i u h;simp[h]
 rw[h1,tZ];constructor
 ·intro h;refine ⟨?_,fun a au=> ?_⟩
  ·refine arH.2 fun i j ae ar cW dn=> ?_;have By:=cI ar;have:=h j _ By;rw[ara] at this;simp only[mB,atM,atm,decide_eq_false_iff_not] at this;apply this.2;refine aq7 (i:=i) ?_;rw[arD,if_pos cW,cI ae,dn]
  ·obtain ⟨j,ar⟩:=arM au;have:=h j a ar;simp only[mB,atM,decide_eq_false_iff_not] at this;omega
 ·rintro ⟨J,aj⟩ j x ar;rw[ara];have:=aj x (aq7 ar);simp only[mB,atM,decide_eq_false_iff_not];refine ⟨⟨by omega,by omega⟩, ?_⟩;simp only[atm,decide_eq_false_iff_not];intro hm;obtain ⟨i,ae⟩:=arM hm;rw[arD] at ae;split at ae
  ·rename_i cW;have gj:=(aqZ.1 ar).1;obtain ⟨iC,ae⟩:=aqZ.1 ae;obtain ⟨_,ar⟩:=aqZ.1 ar;exact arH.1 J i j iC gj cW (by rw[ae,ar])
  ·cases ae
theorem ah8 (N:Nat) {e:List Int} (bi:e.length<N) (ai:e.length<=1000000) (a:Int):sF N a e e.length N 0=aqP (if e.contains a=aqQ then .inr aqT else .inl ()):=by
 have h:=jT (l:=e) (fun _ y=>y==a) (fun _ _=>aqT) (fun m i=>sF N a e e.length m i) (fun m=>by
  show sF N a e e.length (m+1) _=_;rw[sF,if_neg (cw (by omega))]) (fun m i y ag=>by
  show sF N a e e.length (m+1) _=_;have aN:=(aqZ.1 ag).1;rw[sF,if_pos (cA (by omega)),cC ag,al,dh (by omega)];by_cases E9:a=y
  ·rw[if_pos (by simpa using E9),if_pos (by simpa using E9.symm)]
  ·rw[if_neg (by simpa using E9),if_neg (by simpa using fun ax:y=a=>E9 ax.symm)]) e.length N 0 bi (by omega)
 simp only[asn,arv] at h;rw[h];congr 1;have key:∀(e:List Int) (i:Nat),ch (fun _ y=>y==a) (fun _ _=>aqT) i e=if (e.any fun y=>y==a)=aqQ then .inr aqT else .inl ():=by
  intro e;induction e with
  |nil=>intro i;rfl
  |cons y e a8=>
   intro i;rw[ch,asD];by_cases h:(y==a)=aqQ
   ·simp[h]
   ·simp only[arQ] at h;rw[h,if_neg (by simp),a8,arS]
 rw[key,G9]
theorem ah7 (N:Nat) (bi:10<=N) {e:List Int} (he:e.length<=3):sE N e e e.length N 0=aqP (ch (mB e) (fun _ _=>aqT) 0 e):=by
 have h:=jT (l:=e) (mB e) (fun _ _=>aqT) (fun m i=>sE N e e e.length m i) (fun m=>by
  show sE N e e e.length (m+1) _=_;rw[sE,if_neg (cw (by omega))]) (fun m i a au=>by
  show sE N e e e.length (m+1) _=_;have aN:=(aqZ.1 au).1;rw[sE,if_pos (cA (by omega)),cC au,al];unfold PH mB;by_cases aI:a<0
  ·rw[if_pos (cA aI),al];simp[aI]
  ·rw[if_neg (cw aI),al];by_cases h1:64<=a
   ·simp[h1]
   ·rw[if_neg (by simpa using by omega),y0 (by omega),al,ah8 N (by rw[arA];omega) (by rw[arA];omega),al];have aX:decide (a<0)=aqT:=by simpa using by omega
    have e2:decide (64<=a)=aqT:=by simpa using by omega
    rw[aX,e2,arS,arS];by_cases ab:(e.take i).contains a=aqQ
    ·rw[if_pos ab,if_pos ab]
    ·rw[if_neg ab,if_neg ab];simp only[];rw[dh (by omega)]) e.length N 0 (by omega) (by omega)
 simpa using h
theorem ahG (N:Nat) (bi:10<=N) {e:List Int} (he:e.length<=3):sR N e N 0=aqP (ch (mB e) (fun _ _=>aqT) 0 e):=by
 have h:=jT (l:=e) (mB e) (fun _ _=>aqT) (fun m i=>sR N e m i) (fun m=>by
  show sR N e (m+1) _=_;rw[sR,if_neg (cw (by omega))]) (fun m i a au=>by
  show sR N e (m+1) _=_;have aN:=(aqZ.1 au).1;rw[sR,if_pos (cA (by omega))];unfold Qd mB;rw[cC au];simp only[al];by_cases aI:a<0
  ·rw[if_pos (cA aI),al];simp[aI]
  ·rw[if_neg (cw aI)];by_cases h1:64<=a
   ·rw[if_pos (nn h1),al];simp[h1]
   ·rw[if_neg (n9 h1),y0 (by omega),al,O2 N (by rw[arA];omega) (by rw[arA];omega),al,al];have aX:decide (a<0)=aqT:=by simpa using by omega
    have e2:decide (64<=a)=aqT:=by simpa using by omega
    rw[aX,e2,arS,arS,bN,dh (by omega)]) e.length N 0 (by omega) (by omega)
 simpa using h
theorem afk (N:Nat) (bi:20<=N) (x:aC) (U:bZ x≠[]\/kT x.name=aqT):IW N x=aqP (jc x):=by
 unfold IW jc PG;have he:=ua x;rw[GJ,al,agi N (by omega)];by_cases ca:bZ x=[]
 ·have aq:kT x.name=aqT:=by rcases U with h|h;exact absurd ca h;exact h
  rw[ca,aq];simp[o1,al]
 ·have oS:∀{bx:Type} (f:Bool->Option bx),o1 (bZ x) f=f aqT:=fun f=>by unfold o1;rw[if_neg ca]
  rw[oS];have hV:(bZ x).isEmpty=aqT:=by cases h:bZ x with|nil=>exact absurd h ca|cons _ _=>rfl
  simp only[arz,if_false,al,hV,atQ,asJ];by_cases aq:kT x.name=aqQ
  ·rw[aq];simp only[ass,arz,if_false,asJ];rw[ah7 N (by omega) he,al];unfold r1;cases aw:ch (mB (bZ x)) (fun _ _=>aqT) 0 (bZ x) with
   |inr b=>
    have:b=aqT:=by
     have key:∀(e:List Int) (i:Nat) (b:Bool),ch (mB (bZ x)) (fun _ _=>aqT) i e= .inr b->b=aqT:=by
      intro e;induction e with
      |nil=>intro i b h;cases h
      |cons y e a8=>
       intro i b h;rw[ch] at h;split at h
       ·cases h;rfl
       ·exact a8 _ _ h
     exact key _ _ _ aw
    subst this;simp
   |inl u=>
    simp only[asJ];by_cases h1:x.kind=1
    ·rw[if_pos (by simpa using h1),if_pos h1];unfold PI;by_cases ab:x.c=0
     ·rw[if_pos (by simpa using ab)];by_cases au:1<=x.length
      ·rw[if_pos (nn au)];simp[bN,al,ab,au]
      ·rw[if_neg (n9 au)];simp[al,au]
     ·rw[if_neg (by simpa using ab)];simp[al,ab]
    ·rw[if_neg (by simpa using h1),if_neg h1];unfold PJ;by_cases au:x.length=0
     ·rw[if_pos (by simpa using au)];by_cases J:x.kind=2
      ·rw[if_pos (by simpa using J)];simp[al,au,J]
      ·rw[if_neg (by simpa using J)];simp[bN,al,au,J]
     ·rw[if_neg (by simpa using au)];simp[al,au]
  ·simp only[arQ] at aq;rw[aq];simp
theorem afq (N:Nat) (x:aC):IT N x=if bZ x=[] then aqP () else aqS:=by
 unfold IT PX bZ;simp only[bN];by_cases h1:x.kind=1
 ·simp[h1,al]
 ·by_cases aj:x.kind=3
  ·simp[aj,al]
  ·by_cases J:x.kind=2
   ·simp[J,al]
   ·simp[h1,J,aj,al]
theorem afs (N:Nat) (bi:20<=N) (x:aC):QW N x=aqP (jc x):=by
 unfold QW QU;rw[afq];by_cases he:bZ x=[]
 ·rw[if_pos he,al];have aI:PZ N=aqP aqQ:=rfl;rw[aI,al,if_pos rfl];unfold jc;rw[he];rfl
 ·rw[if_neg he,afk N bi x (.inl he)];rfl
theorem agc (N:Nat) {l:List aC} {i:Nat} {x:aC} (U:l[i]? =aqP x) (bi:20<=N) (aq:x.name.length<N) (Mj:x.name.length<=9223372036854775807):nG N l i=aqP (jc x):=by
 unfold nG jc Qc;have he:=ua x;rw[cC U,al,sb,zu U,al,ags N aq Mj];by_cases ca:bZ x=[]
 ·rw[ca];simp[al]
 ·have hV:(bZ x).isEmpty=aqT:=by cases h:bZ x with|nil=>exact absurd h ca|cons _ _=>rfl
  have hlen:((bZ x).length:Int)≠0:=by cases h:bZ x with|nil=>exact absurd h ca|cons _ _=>simp;omega
  rw[if_neg (by simpa using hlen)];simp only[al,hV,atQ,asJ];by_cases ht:kT x.name=aqQ
  ·rw[ht];simp only[ass,arz,if_false,asJ];rw[ahG N (by omega) he,al];unfold r1;cases aw:ch (mB (bZ x)) (fun _ _=>aqT) 0 (bZ x) with
   |inr b=>
    have:b=aqT:=by
     have key:∀(e:List Int) (i:Nat) (b:Bool),ch (mB (bZ x)) (fun _ _=>aqT) i e= .inr b->b=aqT:=by
      intro e;induction e with
      |nil=>intro i b h;cases h
      |cons y e a8=>
       intro i b h;rw[ch] at h;split at h
       ·cases h;rfl
       ·exact a8 _ _ h
     exact key _ _ _ aw
    subst this;simp
   |inl u=>
    simp only[asJ];unfold Qe;have gl:((bZ x).length:Int)=2↔(x.kind=1\/x.kind=3):=by
     unfold bZ;split
     ·rename_i h;simp[h]
     ·rename_i h;split
      ·simp[h]
      ·simp[h]
    by_cases h1:x.kind=1
    ·rw[if_pos (by simpa using gl.2 (.inl h1)),al,if_pos h1];by_cases ab:x.c=0
     ·unfold Qf;by_cases au:1<=x.length
      ·simp[bN,al,ab,au,h1]
      ·simp[al,au,h1,ab]
     ·simp[ab]
    ·by_cases aj:x.kind=3
     ·rw[if_pos (by simpa using gl.2 (.inr aj)),al,if_neg h1];by_cases ab:x.c=0
      ·simp[bN,ab,aj]
      ·simp[ab,aj]
     ·have J:x.kind=2:=by
       have:=ca;unfold bZ at this;rw[if_neg (by omega)] at this;split at this
       ·assumption
       ·exact absurd rfl this
      have ai:¬((bZ x).length:Int)=2:=by rw[gl];omega
      rw[if_neg (by simpa using ai),al,if_neg h1];simp[bN,J]
  ·simp only[arQ] at ht;rw[ht];simp
end Go.W
end
section
namespace Go.W
open Go.aS
def fx (l:List aC) (n:Int):Int:=((l.filter fun x=>(bZ x).contains n).length:Int)
theorem Nu (l:List aC) (n:Int):0<=fx l n:=by unfold fx;omega
theorem Yz (l:List aC) (n:Int):fx l n<=l.length:=by unfold fx;have:=List.length_filter_le (fun x=>(bZ x).contains n) l;omega
theorem l0 {ap:Type} {l:List ap} {i:Nat} {x:ap} (h:l[i]? =aqP x):l.take (i+1)=l.take i++[x]:=by
 rw[List.take_add_one,h];rfl
theorem ue (l:List aC) (x:aC) (n:Int):fx (l++[x]) n=fx l n+if n∈bZ x then 1 else 0:=by
 unfold fx;rw[List.filter_append];by_cases h:n∈bZ x
 ·simp[h]
 ·simp[h]
def hF (l:List aC) (i:Nat) (x:aC):Int:=
 if jc x=aqT then 1 else if ((l.take i).any fun y=>y.name==x.name)=aqQ then 8 else if ((bZ x).any fun n=>fx (l.take i) n==2)=aqQ then 17 else 0
def nt (l:List aC) (i:Nat) (x:aC):Bool:=hF l i x !=0
def qe (l:List aC):Int:=if 96<l.length then 3 else match ch (nt l) (hF l) 0 l with| .inl _=>0| .inr c=>c
structure aaB (l:List aC) (i:Nat) (bH:List (List UInt8×Bool)) (b0:List (Int×Int)):Prop where
 pX:∀k,(bs bH k).getD aqT=(l.take i).any fun y=>y.name==k
 fR:∀n,(bs b0 n).getD 0=fx (l.take i) n
theorem Vy (N:Nat) {e:List Int} (aB:e.Nodup) (ai:e.length<=3):∀(k n i:Nat) (b0:List (Int×Int)),k<n->i+k=e.length->(∀a,0<=(bs b0 a).getD 0/\(bs b0 a).getD 0<=1000+i)->
  (((e.drop i).any fun a=>(bs b0 a).getD 0==2)=aqQ/\sM N e e.length n b0 i=aqP (.inr 17))\/
  (((e.drop i).any fun a=>(bs b0 a).getD 0==2)=aqT/\∃xx,sM N e e.length n b0 i=aqP (.inl xx)/\∀m,(bs xx m).getD 0=(bs b0 m).getD 0+if m∈e.drop i then 1 else 0)
 |k,0,i,b0,aq,_,_=>by omega
 |0,n+1,i,b0,aq,ae,aa=>by
  obtain rfl:i=e.length:=by omega
  rw[sM,if_neg (cw (by omega)),asd];exact .inr ⟨rfl,b0,rfl,fun m=>by simp⟩
 |k+1,n+1,i,b0,aq,ae,aa=>by
  have aN:i<e.length:=by omega
  have au:=cI aN;rw[sM,if_pos (cA (by omega)),cC au,jt au,asD];simp only[al,bN];have qw:=aa e[i];by_cases J:(bs b0 e[i]).getD 0=2
  ·have gi:((bs b0 e[i]).getD 0==2)=aqQ:=by simpa using J
   rw[if_pos gi,gi];exact .inl ⟨rfl,rfl⟩
  ·have gi:((bs b0 e[i]).getD 0==2)=aqT:=by simpa using J
   rw[if_neg (by rw[gi];simp),dh (by omega),gW (by omega) (by omega),gi,arS];have jQ:∀m,(bs (dV b0 e[i] ((bs b0 e[i]).getD 0+1)) m).getD 0=(bs b0 m).getD 0+if m=e[i] then 1 else 0:=by
    intro m;rw[iH];by_cases hm:m=e[i]
    ·subst hm;simp
    ·rw[if_neg (fun ax=>hm ax.symm),if_neg hm];simp
   have pM:e[i]∉e.drop (i+1):=by intro hm;obtain ⟨j,ar⟩:=arM hm;rw[ar0] at ar;obtain ⟨gj,ar⟩:=aqZ.1 ar;exact arH.1 aB i (i+1+j) aN gj (by omega) ar.symm
   have LN:((e.drop (i+1)).any fun a=>(bs (dV b0 e[i] ((bs b0 e[i]).getD 0+1)) a).getD 0==2)=((e.drop (i+1)).any fun a=>(bs b0 a).getD 0==2):=by
    rw[Bool.eq_iff_iff];simp only[ast];constructor
    ·rintro ⟨a,h1,aj⟩;refine ⟨a,h1, ?_⟩;rw[jQ,if_neg (fun ax=>pM (by rw[<-ax];exact h1)),Int.add_zero] at aj;exact aj
    ·rintro ⟨a,h1,aj⟩;refine ⟨a,h1, ?_⟩;rw[jQ,if_neg (fun ax=>pM (by rw[<-ax];exact h1)),Int.add_zero];exact aj
   have a8:=Vy N aB ai k n (i+1) (dV b0 e[i] ((bs b0 e[i]).getD 0+1)) (by omega) (by omega) (fun a=>by
    rw[jQ];have:=aa a;split
    ·rename_i h;subst h;omega
    ·omega)
   rw[LN] at a8;rcases a8 with ⟨g1,g2⟩|⟨g1,xx,g2,g3⟩
   ·exact .inl ⟨g1,g2⟩
   ·refine .inr ⟨g1,xx,g2,fun m=> ?_⟩;rw[g3 m,jQ m];by_cases hm:m=e[i]
    ·subst hm;rw[if_pos rfl,if_neg pM,if_pos arn];omega
    ·rw[if_neg hm];by_cases gP:m∈e.drop (i+1)
     ·rw[if_pos gP,if_pos (ard _ gP)];omega
     ·rw[if_neg gP,if_neg (by simp only[aq6,not_or];exact ⟨hm,gP⟩)];omega
theorem mE {x:aC} (h:jc x=aqQ):(bZ x).Nodup/\(∀a∈bZ x,0<=a/\a<64)/\bZ x≠[]/\kT x.name=aqQ:=by
 unfold jc at h;simp only[aq5,Bool.not_eq_true'] at h;obtain ⟨h1,J⟩:=GO.1 h.2.1;exact ⟨h1,J,fun ax=>by rw[ax] at h;simp at h,h.1.2⟩
theorem VJ (N:Nat) (bi:100<=N) {l:List aC} (ai:l.length<=96):∀(k n i:Nat) (bH:List (List UInt8×Bool)) (b0:List (Int×Int)),k<n->i+k=l.length->aaB l i bH b0->
  zJ N l l.length n bH b0 i=aqP (ch (nt l) (hF l) i (l.drop i))
 |k,0,i,bH,b0,aq,_,_=>by omega
 |0,n+1,i,bH,b0,aq,ae,cb=>by
  obtain rfl:i=l.length:=by omega
  rw[zJ,if_neg (cw (by omega)),asd];rfl
 |k+1,n+1,i,bH,b0,aq,ae,cb=>by
  have aN:i<l.length:=by omega
  have U:=cI aN;rw[zJ,if_pos (cA (by omega)),cC U,jt U,ch,al,afs N (by omega) _,al];unfold nt;by_cases la:jc l[i]=aqQ
  case neg=>
   simp only[arQ] at la;have ab:hF l i l[i]=1:=by unfold hF;rw[if_pos la]
   rw[la,ab];simp
  obtain ⟨aX,e2,hR,mn⟩:=mE la;rw[la];simp only[ass,arz,if_false,bN,cb.pX];by_cases ht:((l.take i).any fun y=>y.name==l[i].name)=aqQ
  ·have ab:hF l i l[i]=8:=by unfold hF;rw[if_neg (by rw[la];simp),if_pos ht]
   rw[if_pos ht,ab];simp
  ·rw[if_neg ht,GJ,al];have aa:∀a,0<=(bs b0 a).getD 0/\(bs b0 a).getD 0<=1000+(0:Nat):=fun a=>by
    rw[cb.fR];have h1:=Nu (l.take i) a;have J:=Yz (l.take i) a;rw[arA] at J;omega
   have LN:((bZ l[i]).any fun a=>(bs b0 a).getD 0==2)=((bZ l[i]).any fun a=>fx (l.take i) a==2):=by simp only[cb.fR]
   have aj:=ua l[i];have:=Vy N aX aj (bZ l[i]).length N 0 b0 (by omega) (by omega) aa;rw[arv,LN] at this;rcases this with ⟨g1,g2⟩|⟨g1,xx,g2,g3⟩
   ·have ab:hF l i l[i]=17:=by unfold hF;rw[if_neg (by rw[la];simp),if_neg ht,if_pos g1]
    have g2:sM N (bZ l[i]) (bZ l[i]).length N b0 0=aqP (.inr 17):=g2;rw[g2,ab];simp[al]
   ·have ab:hF l i l[i]=0:=by unfold hF;rw[if_neg (by rw[la];simp),if_neg ht,if_neg (by rw[g1];simp)]
    have g2:sM N (bZ l[i]) (bZ l[i]).length N b0 0=aqP (.inl xx):=g2;rw[g2,ab];simp only[al,bne_self_eq_false,arz,if_false];rw[dh (by omega)];refine VJ N bi ai k n (i+1) _ xx (by omega) (by omega) ⟨fun q=> ?_,fun m=> ?_⟩
    ·rw[iH,l0 U,List.any_append];by_cases aK:l[i].name=q
     ·rw[if_pos aK];simp[aK]
     ·rw[if_neg aK,cb.pX];simp[aK]
    ·rw[g3 m,cb.fR,l0 U,ue]
theorem NJ (N:Nat) (bi:100<=N) {l:List aC}:s9 N l=aqP (qe l):=by
 unfold s9 qe;by_cases ai:96<l.length
 ·rw[if_pos (by simpa using by omega),if_pos ai]
 ·rw[if_neg (by simpa using by omega),if_neg ai];have h:=VJ N bi (l:=l) (by omega) l.length N 0 [] [] (by omega) (by omega) ⟨fun k=>by simp[bs],fun n=>by simp[bs,fx]⟩;simp only[asn,arv] at h;rw[h,al];cases ch (nt l) (hF l) 0 l<;>rfl
structure Ed (l:List aC) (i:Nat) (bH:List Int):Prop where
 len:bH.length=64
 fR:∀n:Nat,n<64->bH[n]? =aqP (fx (l.take i) (n:Int))
theorem Ed.get {l:List aC} {i:Nat} {bH:List Int} (h:Ed l i bH) {a:Int} (aI:0<=a) (h1:a<64):aR bH a=aqP (fx (l.take i) a):=by
 obtain ⟨n,rfl⟩:=arw aI;have:=h.fR n (by omega);exact cC this
theorem ank (N:Nat) {l:List aC} {i:Nat} {x:aC} (U:l[i]? =aqP x) (bi:l.length<N) (ai:l.length<=96):sP N l i N 0=aqP (if ((l.take i).any fun y=>y.name==x.name)=aqQ then .inr 8 else .inl ()):=by
 have ae:=(aqZ.1 U).1;have hlen:(l.take i).length=i:=by rw[arA];omega
 have h:=jT (l:=l.take i) (fun _ y=>y.name==x.name) (fun _ _=>(8:Int)) (fun m j=>sP N l i m j) (fun m=>by
  show sP N l i (m+1) _=_;rw[hlen,sP,if_neg (cw (by omega))]) (fun m j y ag=>by
  show sP N l i (m+1) _=_;have aN:=(aqZ.1 ag).1;rw[hlen] at aN;rw[arD,if_pos aN] at ag;rw[sP,if_pos (cA (by omega)),cC ag,al,cC U,al,bN,dh (by omega)]) i N 0 (by omega) (by rw[hlen];omega)
 simp only[asn,arv] at h;rw[h];congr 1;have key:∀(q:List aC) (j:Nat),ch (fun _ y=>y.name==x.name) (fun _ _=>(8:Int)) j q=if (q.any fun y=>y.name==x.name)=aqQ then .inr 8 else .inl ():=by
  intro q;induction q with
  |nil=>intro j;rfl
  |cons y q a8=>
   intro j;rw[ch,asD];by_cases h:(y.name==x.name)=aqQ
   ·simp[h]
   ·simp only[arQ] at h;rw[h,if_neg (by simp),a8,arS]
 exact key _ 0
theorem anl (N:Nat) (bi:10<=N) {l:List aC} {i:Nat} {bH:List Int} (cb:Ed l i bH) {e:List Int} (he:e.length<=3) (aw:∀a∈e,0<=a/\a<64):sQ N bH e N 0=aqP (if (e.any fun a=>fx (l.take i) a==2)=aqQ then .inr 17 else .inl ()):=by
 have h:=jT (l:=e) (fun _ a=>fx (l.take i) a==2) (fun _ _=>(17:Int)) (fun m j=>sQ N bH e m j) (fun m=>by
  show sQ N bH e (m+1) _=_;rw[sQ,if_neg (cw (by omega))]) (fun m j y ag=>by
  show sQ N bH e (m+1) _=_;have aN:=(aqZ.1 ag).1;obtain ⟨aI,h1⟩:=aw y (aq7 ag);rw[sQ,if_pos (cA (by omega)),cC ag];simp only[al,cb.get aI h1,bN];rw[dh (by omega)]) e.length N 0 (by omega) (by omega)
 simp only[asn,arv] at h;rw[h];congr 1;have key:∀(q:List Int) (j:Nat),ch (fun _ a=>fx (l.take i) a==2) (fun _ _=>(17:Int)) j q=if (q.any fun a=>fx (l.take i) a==2)=aqQ then .inr 17 else .inl ():=by
  intro q;induction q with
  |nil=>intro j;rfl
  |cons y q a8=>
   intro j;rw[ch,asD];by_cases h:(fx (l.take i) y==2)=aqQ
   ·simp[h]
   ·simp only[arQ] at h;rw[h,if_neg (by simp),a8,arS]
 exact key _ 0
theorem ZF (N:Nat) {e:List Int} (aB:e.Nodup) (he:e.length<=3) (aw:∀a∈e,0<=a/\a<64):∀(k n i:Nat) (bH:List Int) (f:Int->Int),k<n->i+k=e.length->bH.length=64->(∀m:Nat,m<64->bH[m]? =aqP (f m))->(∀m,0<=f m/\f m<=1000+i)->
  ∃uR,w6 N e n bH i=aqP uR/\uR.length=64/\∀m:Nat,m<64->uR[m]? =aqP (f m+if (m:Int)∈e.drop i then 1 else 0)
 |k,0,i,bH,f,aq,_,_,_,_=>by omega
 |0,n+1,i,bH,f,aq,ae,h1,J,aj=>by
  obtain rfl:i=e.length:=by omega
  rw[w6,if_neg (cw (by omega)),asd];exact ⟨bH,rfl,h1,fun m hm=>by simpa using J m hm⟩
 |k+1,n+1,i,bH,f,aq,ae,h1,J,aj=>by
  have aN:i<e.length:=by omega
  have au:=cI aN;obtain ⟨nz,ej⟩:=aw _ (asu aN);obtain ⟨q,aK⟩:=arw nz;have UL:q<64:=by omega
  have aG:aR bH e[i]=aqP (f q):=by rw[aK];exact cC (J q UL)
  have aP:=aj q;rw[w6,if_pos (cA (by omega)),cC au,jt au];simp only[al,bN,aG];rw[dh (by omega),gW (by omega) (by omega)];have pM:e[i]∉e.drop (i+1):=by intro hm;obtain ⟨j,ar⟩:=arM hm;rw[ar0] at ar;obtain ⟨gj,ar⟩:=aqZ.1 ar;exact arH.1 aB i (i+1+j) aN gj (by omega) ar.symm
  obtain ⟨uR,g1,g2,g3⟩:=ZF N aB he aw k n (i+1) (bH.set q (f q+1)) (fun m=>if m=(q:Int) then f m+1 else f m) (by omega) (by omega) (by rw[List.length_set];exact h1) (fun m hm=>by
   rw[List.getElem?_set];by_cases tF:q=m
   ·subst tF;simp[h1,UL]
   ·rw[if_neg tF,J m hm,if_neg (by omega)]) (fun m=>by have:=aj m;split<;>omega)
  refine ⟨uR,by rw[aK];exact g1,g2,fun m hm=> ?_⟩;rw[g3 m hm];congr 1;by_cases tF:(m:Int)=q
  ·rw[if_pos tF,if_neg (by rw[tF,<-aK];exact pM),if_pos (by rw[tF,<-aK];exact arn)];omega
  ·rw[if_neg tF];by_cases gP:(m:Int)∈e.drop (i+1)
   ·rw[if_pos gP,if_pos (ard _ gP)]
   ·rw[if_neg gP,if_neg (by simp only[aq6,not_or];exact ⟨by rw[aK];exact tF,gP⟩)]
theorem VK (N:Nat) (bi:100<=N) {l:List aC} (ai:l.length<=96) (ht:∀x∈l,x.name.length<N/\x.name.length<=9223372036854775807):∀(k n i:Nat) (bH:List Int),k<n->i+k=l.length->Ed l i bH->
  zL N l n bH i=aqP (ch (nt l) (hF l) i (l.drop i))
 |k,0,i,bH,aq,_,_=>by omega
 |0,n+1,i,bH,aq,ae,cb=>by
  obtain rfl:i=l.length:=by omega
  rw[zL,if_neg (cw (by omega)),asd];rfl
 |k+1,n+1,i,bH,aq,ae,cb=>by
  have aN:i<l.length:=by omega
  have U:=cI aN;obtain ⟨b5,cd⟩:=ht _ (asu aN);rw[zL,if_pos (cA (by omega)),agc N U (by omega) b5 cd,jt U,ch,al];unfold nt;by_cases la:jc l[i]=aqQ
  case neg=>
   simp only[arQ] at la;have ab:hF l i l[i]=1:=by unfold hF;rw[if_pos la]
   rw[la,ab];simp
  obtain ⟨aX,e2,hR,mn⟩:=mE la;rw[la];simp only[ass,arz,if_false];rw[ank N U (by omega) ai,al];by_cases BJ:((l.take i).any fun y=>y.name==l[i].name)=aqQ
  ·have ab:hF l i l[i]=8:=by unfold hF;rw[if_neg (by rw[la];simp),if_pos BJ]
   rw[if_pos BJ,ab];simp
  ·have aj:=ua l[i];rw[if_neg BJ];simp only[];rw[sb,zu U,al,anl N (by omega) cb aj e2,al];by_cases g1:((bZ l[i]).any fun a=>fx (l.take i) a==2)=aqQ
   ·have ab:hF l i l[i]=17:=by unfold hF;rw[if_neg (by rw[la];simp),if_neg BJ,if_pos g1]
    rw[if_pos g1,ab];simp
   ·have ab:hF l i l[i]=0:=by unfold hF;rw[if_neg (by rw[la];simp),if_neg BJ,if_neg g1]
    rw[if_neg g1,ab];simp only[bne_self_eq_false,arz,if_false];obtain ⟨uR,bt,bE,cM⟩:=ZF N aX aj e2 (bZ l[i]).length N 0 bH (fun m=>fx (l.take i) m) (by omega) (by omega) cb.len cb.fR (fun m=>by
     have h1:=Nu (l.take i) m;have J:=Yz (l.take i) m;rw[arA] at J;omega)
    have bt:w6 N (bZ l[i]) N bH 0=aqP uR:=bt;rw[bt,al,bN,dh (by omega)];refine VK N bi ai ht k n (i+1) uR (by omega) (by omega) ⟨bE,fun m hm=> ?_⟩;rw[cM m hm,l0 U,ue,arv]
theorem Gq (N:Nat) (bi:100<=N) {l:List aC} (ht:l.length<=96->∀x∈l,x.name.length<N/\x.name.length<=9223372036854775807):uX N l=aqP (qe l):=by
 unfold uX qe;by_cases ai:96<l.length
 ·rw[if_pos (by simpa using by omega),if_pos ai]
 ·rw[if_neg (by simpa using by omega),if_neg ai];have h:=VK N bi (by omega) (ht (by omega)) l.length N 0 (arq 64 0) (by omega) (by omega) ⟨by simp,fun n aq=>by rw[List.getElem?_replicate,if_pos aq];simp[fx]⟩;simp only[asn,arv] at h;rw[h,al];cases ch (nt l) (hF l) 0 l<;>rfl
structure ef (l:List aC):Prop where
 len:l.length<=96
 snd:∀x∈l,jc x=aqQ
 pX:l.Pairwise fun x y=>x.name≠y.name
 fR:∀n,fx l n<=2
theorem ef.err {l:List aC} (h:ef l):qe l=0:=by
 unfold qe;rw[if_neg (by have:=h.len;omega)];have:ch (nt l) (hF l) 0 l= .inl ():=by
  rw[tZ];intro j x ar;rw[ara];have gj:=(aqZ.1 ar).1;have ab:hF l j x=0:=by
   unfold hF;rw[if_neg (by rw[h.snd x (aq7 ar)];simp),if_neg,if_neg]
   ·intro ax;obtain ⟨n,aq,Mj⟩:=ast.1 ax;have J:fx (l.take j) n=2:=by simpa using Mj
    have aj:=ue (l.take j) x n;rw[if_pos aq,<-l0 ar,J] at aj;have aM:fx (l.take (j+1)) n<=fx l n:=by unfold fx;have:=(atn (j+1) l).filter (fun x=>(bZ x).contains n);have:=this.length_le;omega
    have:=h.fR n;omega
   ·intro ax;obtain ⟨y,ag,ady⟩:=ast.1 ax;obtain ⟨i,ae⟩:=arM ag;rw[arD] at ae;split at ae
    ·rename_i cW;obtain ⟨iC,ae⟩:=aqZ.1 ae;obtain ⟨_,ar⟩:=aqZ.1 ar;have:=arH.1 h.pX i j iC gj cW;rw[ae,ar] at this;exact this (by simpa using ady)
    ·cases ae
  unfold nt;rw[ab];rfl
 rw[this]
theorem ef.p (N:Nat) (bi:100<=N) {l:List aC} (h:ef l):s9 N l=aqP 0:=by
 rw[NJ N bi,h.err]
theorem ef.r (N:Nat) (bi:100<=N) {l:List aC} (h:ef l):uX N l=aqP 0:=by
 rw[Gq N bi fun _ x U=>by
  have h1:=(mE (h.snd x U)).2.2.2;unfold kT at h1;simp only[aq5,decide_eq_true_eq] at h1;omega,h.err]
end Go.W
end
section
namespace Go.W
open Go.aS
theorem Nn {l:List aC} {n:Int} {a b:Nat} (h:a<=b):fx (l.take a) n<=fx (l.take b) n:=by
 unfold fx;have h1:l.take a=(l.take b).take a:=by rw[List.take_take];congr 1;omega
 rw[h1];have:=((atn a (l.take b)).filter (fun x=>(bZ x).contains n)).length_le;omega
theorem Oj {l:List aC} {n:Int} {i:Nat} {x:aC} (h:l[i]? =aqP x) (aq:n∈bZ x):fx (l.take (i+1)) n=fx (l.take i) n+1:=by
 rw[l0 h,ue,if_pos aq]
theorem ag' {l:List aC} {n:Int} {a:Nat}:fx (l.take a) n<=fx l n:=by
 have:=Nn (l:=l) (n:=n) (Nat.le_max_left a l.length);rw[List.take_of_length_le (Nat.le_max_right _ _)] at this;exact this
theorem x7 {l:List aC} {n:Int} {i j k:Nat} {x y z:aC} (U:l[i]? =aqP x) (ag:l[j]? =aqP y) (aE:l[k]? =aqP z) (h1:n∈bZ x) (J:n∈bZ y) (aj:n∈bZ z) (cW:i<j) (Uo:j<k):3<=fx l n:=by
 have c4:=Oj U h1;have a2:=Oj ag J;have a3:=Oj aE aj;have ff:=Nn (l:=l) (n:=n) (show i+1<=j by omega);have gA:=Nn (l:=l) (n:=n) (show j+1<=k by omega);have mS:=ag' (l:=l) (n:=n) (a:=k+1);have qp:=Nu (l.take i) n;omega
theorem ef.of {l:List aC} (h:qe l=0):ef l:=by
 unfold qe at h;split at h
 ·cases h
 rename_i ai;have nh:ch (nt l) (hF l) 0 l= .inl ():=by
  cases aw:ch (nt l) (hF l) 0 l with
  |inl u=>rfl
  |inr c=>
   rw[aw] at h;simp only at h;have key:∀(e:List aC) (i:Nat) (c:Int),ch (nt l) (hF l) i e= .inr c->c≠0:=by
    intro e;induction e with
    |nil=>intro i c h;cases h
    |cons y e a8=>
     intro i c h;rw[ch] at h;split at h
     ·rename_i an;cases h;unfold nt at an;simpa using an
     ·exact a8 _ _ h
   exact absurd h (key _ _ _ aw)
 have ab:∀(j:Nat) (x:aC),l[j]? =aqP x->hF l j x=0:=fun j x ar=>by have:=(tZ.1 nh) j x ar;rw[ara] at this;unfold nt at this;simpa using this
 have aj:∀(j:Nat) (x:aC),l[j]? =aqP x->jc x=aqQ/\((l.take j).any fun y=>y.name==x.name)=aqT/\((bZ x).any fun n=>fx (l.take j) n==2)=aqT:=fun j x ar=>by
  have:=ab j x ar;unfold hF at this;split at this
  ·cases this
  ·rename_i a;split at this
   ·cases this
   ·rename_i b;split at this
    ·cases this
    ·rename_i c;exact ⟨by simpa using a,by simpa using b,by simpa using c⟩
 refine ⟨by omega,fun x U=> ?_, ?_,fun n=> ?_⟩
 ·obtain ⟨j,ar⟩:=arM U;exact (aj j x ar).1
 ·rw[arH];intro i j ae ar cW ca;have aa:=(aj j _ (cI ar)).2.1;rw[List.any_eq_false] at aa;have hm:l[i]∈l.take j:=by
   refine aq7 (i:=i) ?_;rw[arD,if_pos cW];exact cI ae
  exact aa _ hm (by simpa using ca)
 ·have key:∀(i:Nat),i<=l.length->fx (l.take i) n<=2:=by
   intro i;induction i with
   |zero=>intro _;simp[fx]
   |succ i a8=>
    intro ae;have U:=cI (xs:=l) (i:=i) (by omega);rw[l0 U,ue];have:=a8 (by omega);split
    ·rename_i hm;have aa:=(aj i _ U).2.2;rw[List.any_eq_false] at aa;have:=aa n hm;simp at this;omega
    ·omega
  have:=key l.length (aq3 _);rw[List.take_length] at this;exact this
theorem ef.two {l:List aC} (h:ef l) {n:Int} {i j k:Nat} {x y z:aC} (U:l[i]? =aqP x) (ag:l[j]? =aqP y) (aE:l[k]? =aqP z) (h1:n∈bZ x) (J:n∈bZ y) (aj:n∈bZ z):i=j\/j=k\/i=k:=by
 have ab:=h.fR n;rcases asA i j with a|a|a
 ·rcases asA j k with b|b|b
  ·have:=x7 U ag aE h1 J aj a b;omega
  ·exact .inr (.inl b)
  ·rcases asA i k with c|c|c
   ·have:=x7 U aE ag h1 aj J c b;omega
   ·exact .inr (.inr c)
   ·have:=x7 aE U ag aj h1 J c a;omega
 ·exact .inl a
 ·rcases asA i k with b|b|b
  ·have:=x7 ag U aE J h1 aj a b;omega
  ·exact .inr (.inr b)
  ·rcases asA j k with c|c|c
   ·have:=x7 ag aE U J aj h1 c b;omega
   ·exact .inr (.inl c)
   ·have:=x7 aE ag U aj J h1 c a;omega
theorem GC (l:List aC) (i n:Int):(bF l i n= -1/\∀(j:Nat) (x:aC),l[j]? =aqP x->(j:Int)≠i->n∉bZ x)\/
  ∃(j:Nat) (x:aC),bF l i n=(j:Int)/\l[j]? =aqP x/\(j:Int)≠i/\n∈bZ x:=by
 rcases F3 (qP i n) l 0 with ⟨h1,J⟩|⟨j,x,h1,J,aj,_⟩
 ·refine .inl ⟨h1,fun j x ar iD aq=> ?_⟩;have:=J j x ar;rw[ara] at this;unfold qP at this;have aX:((j:Int) !=i)=aqQ:=by simpa using iD
  rw[aX] at this;simp[aq] at this
 ·rw[ara] at h1 aj;unfold qP at aj;simp only[aq5,bne_iff_ne,ne_eq] at aj;exact .inr ⟨j,x,h1,J,aj.1,by simpa using aj.2⟩
theorem zk {l:List aC} {i n:Int} (h:0<=bF l i n):n∈cV l (bF l i n)/\bF l i n≠i:=by
 rcases GC l i n with ⟨h1,_⟩|⟨j,x,h1,J,aj,aM⟩
 ·omega
 ·rw[h1,zu J];exact ⟨aM,aj⟩
theorem ef.yS {l:List aC} (h:ef l) {i n:Int} (aq:n∈cV l i) (hk:0<=bF l i n):bF l (bF l i n) n=i:=by
 obtain ⟨aI,h1,x,U,U3⟩:=jb aq;obtain ⟨a,rfl⟩:=arw aI;rw[Int.toNat_natCast] at U;rcases GC l (a:Int) n with ⟨g1,_⟩|⟨j,y,g1,g2,g3,g4⟩
 ·omega
 ·rw[g1];rcases GC l (j:Int) n with ⟨bt,bE⟩|⟨c,z,bt,bE,cM,fI⟩
  ·exact absurd U3 (bE a x U (by omega))
  ·rw[bt];rcases h.two U g2 bE U3 g4 fI with e|e|e
   ·omega
   ·omega
   ·omega
theorem ef.nodup {l:List aC} (h:ef l) (i:Int):(cV l i).Nodup:=by
 unfold cV;split
 ·split
  ·rename_i x U;exact (mE (h.snd x (aq7 U))).1
  ·exact List.nodup_nil
 ·exact List.nodup_nil
theorem GK {e:List Int} {n m:Int} (h:m∈iJ e n):n∈e/\m∈e:=by
 unfold iJ at h;split at h
 ·rename_i ab;refine ⟨by simpa using ab, ?_⟩;split at h
  ·exact List.mem_of_mem_tail h
  ·exact List.mem_of_mem_take h
 ·simp at h
theorem agB {e:List Int} (aB:e.Nodup) {n m:Int} (h:m∈iJ e n):n∈iJ e m/\n≠m:=by
 obtain ⟨h1,J⟩:=GK h;unfold iJ at h⊢;rw[if_pos (by simpa using h1)] at h;rw[if_pos (by simpa using J)];cases e with
 |nil=>simp at h1
 |cons a e=>
  have k5:=asQ.1 aB;simp only[List.head?_cons,List.tail_cons,ark.injEq,List.take_succ_cons,List.take_zero,aq6,asB,or_false] at h⊢;split at h
  ·rename_i au;subst au;have ca:¬a=m:=fun ax=>k5.1 (ax▸h);rw[if_neg ca];exact ⟨by simp,ca⟩
  ·rename_i au;simp only[aq6,asB,or_false] at h;subst h;rw[if_pos rfl];refine ⟨?_,fun ax=>au ax.symm⟩;rcases aq6.1 h1 with ax|ax
   ·exact absurd ax.symm au
   ·exact ax
theorem wv {l:List aC} {i n m:Int} (h:m∈fo l i n):n∈cV l i/\m∈cV l i:=GK h
theorem ef.Qu {l:List aC} (h:ef l) {i n m:Int} (hm:m∈fo l i n):n∈fo l i m/\n≠m:=agB (h.nodup i) hm
theorem ud (l:List aC) (i n:Int):(fo l i n).length<=3:=by
 have:=lr l i;unfold fo iJ;split
 ·split
  ·rw[List.length_tail];omega
  ·rw[arA];omega
 ·simp
end Go.W
end
