import Derived.Shelf.SlSortCmp.NoneTotal
import Derived.Shelf.SlicesG.Cmp
import Derived.Test.YtmkfilkddlfgjaaGreatProg
import Derived.WalkKit
import Derived.IntWalk
import Derived.Test.YtmkfilkddlfgjaaGreatMc
set_option linter.unusedSimpArgs false
set_option linter.unusedVariables false
set_option linter.unusedSectionVars false
open Array renaming getElem?_eq_some_iff->ar9,getElem?_modify->at5
open Bool renaming and_eq_true->ara,and_eq_true_iff->as1,eq_false_iff->atr,false_eq_true->arE,false_or->arZ,not_eq_true->arW,not_false->atX,not_true->asx,or_eq_false_iff->atU,or_eq_true->ar7,true_and->asQ,false->aqZ,true->aqW
open Go renaming IntKind->aq2,Program->aq1,Value->aqX
open Go.IntKind renaming wrap->aq6
open Go.Lib renaming compareInt->atW
open Go.Proofs renaming enters_of->aup
open Int renaming eq_ofNat_of_zero_le->arI,natCast_zero->ast
open List renaming all_cons->arR,all_eq_true->arc,any_cons->asR,any_eq_true->asH,contains_eq_mem->atd,drop_length->asi,drop_zero->arB,flatMap_cons->asn,getElem?_drop->ar6,getElem?_eq_getElem->ary,getElem?_eq_none->atb,getElem?_eq_some_iff->aq5,getElem?_of_mem->arS,getElem?_take->arK,getElem_mem->asy,length_append->aro,length_cons->arw,length_take->arG,mem_cons->arb,mem_cons_of_mem->ark,mem_cons_self->arp,mem_of_getElem?->are,nodup_cons->asU,not_mem_nil->asF,pairwise_iff_getElem->arT,replicate->arx,take_sublist->ats
open Nat renaming add_mul->art,beq->ard,beq_eq->atc,ble->arz,ble_eq->as0,le_of_ble_eq_true->asg,le_refl->aq9,lt_trichotomy->asE,zero_add->arh,zero_le->asd
open Option renaming bind->aq0,map_some->asz,some->arr,none->aqY,some->aqV
open Sum renaming inl->aq8,inr->aq7
open UInt8 renaming toNat->ash
section
namespace Go.aS
open Go.Sort Go.Shelf Go.Proofs
noncomputable def gL {au:Type} [Inhabited au] (ea:au->au->Int) (xs:List au):List au:=(pdq (ltOf ea) xs.toArray 0 xs.toArray.size (Lib.bitLen xs.toArray.size) aqW aqW).toList
noncomputable def kn {au:Type} [Inhabited au] (ea:au->au->Int) (xs:List au):Option (List au):=if xs.length<4611686018427387904 then aqV (gL ea xs) else aqY
noncomputable def Aa {au bz rp:Type} (key:au->Int) (app:bz->rp->au) (iC:List au->Option (List au)) (xs:List au) (es:List (bz×rp)):Option (List au×Int):=
 if xs.length+es.length<=4294967296/\((xs++es.map fun p=>app p.1 p.2).map key).Nodup then aq0 (iC (xs++es.map fun p=>app p.1 p.2)) fun dS=>aqV (dS,0) else aqY
def fW (x y:Int):Int:=atW x y
section
variable {au:Type} [Inhabited au]
theorem XM (x y:Int):decide (fW x y<0)=decide (x<y):=by
 unfold fW atW;by_cases h1:x<y
 ·simp[h1]
 ·by_cases J:x>y<;>simp[h1,J]
theorem q3 (f:au->Int):SWO (ltOf fun x y=>fW (f x) (f y)):=by
 have e:∀x y,ltOf (fun x y=>fW (f x) (f y)) x y=decide (f x<f y):=fun x y=>XM _ _;refine ⟨fun x=> ?_,fun x y z h1 J=> ?_,fun x y z h1 J=> ?_⟩
 ·rw[e];simp
 ·rw[e] at*;simp at*;omega
 ·rw[e] at*;simp at*;omega
theorem Nu (ea:au->au->Int) (hO:SWO (ltOf ea)) (xs:List au):PermIn 0 xs.length xs.toArray (gL ea xs).toArray/\SortedIn (ltOf ea) 0 xs.length (gL ea xs).toArray:=by
 have h:=pdq_sorts (ltOf ea) hO xs.toArray 0 xs.toArray.size (Lib.bitLen xs.toArray.size) aqW aqW (asd _) (aq9 _) (Or.inl rfl);have e:(gL ea xs).toArray=pdq (ltOf ea) xs.toArray 0 xs.toArray.size (Lib.bitLen xs.toArray.size) aqW aqW:=by unfold gL;simp
 rw[e];simpa using h
theorem CN (ea:au->au->Int) (hO:SWO (ltOf ea)) (xs:List au):(gL ea xs).length=xs.length:=by
 have:=(Nu ea hO xs).1.1;simpa using this
theorem zj (ea:au->au->Int) (hO:SWO (ltOf ea)) (xs:List au):(gL ea xs).Perm xs:=by
 have h:=(Nu ea hO xs).1;have ah:=CN ea hO xs;have J:=h.2.2;have aX:((gL ea xs).toArray.extract 0 xs.length).toList=gL ea xs:=by simp[<-ah]
 have e2:(xs.toArray.extract 0 xs.length).toList=xs:=by simp
 rw[aX,e2] at J;exact J
theorem Nk (f:au->Int) (xs:List au):(gL (fun x y=>fW (f x) (f y)) xs).Pairwise fun x y=>f x<=f y:=by
 have hO:=q3 f;have h:=(Nu _ hO xs).2;have ah:=CN _ hO xs;rw[arT];intro i j ae av cY;have:=h i j (asd _) cY (by omega);have e:∀x y,ltOf (fun x y=>fW (f x) (f y)) x y=decide (f x<f y):=fun x y=>XM _ _;rw[e] at this;have dY:(gL (fun x y=>fW (f x) (f y)) xs).toArray[i]! =(gL (fun x y=>fW (f x) (f y)) xs)[i]:=by rw[getElem!_pos _ _ (by simpa using ae)];simp
 have BK:(gL (fun x y=>fW (f x) (f y)) xs).toArray[j]! =(gL (fun x y=>fW (f x) (f y)) xs)[j]:=by rw[getElem!_pos _ _ (by simpa using av)];simp
 rw[dY,BK] at this;simp at this;omega
theorem NS {enc:au->List aqX} {k:Nat} (hk:∀x,(enc x).length=k):∀(xs:List au) (t:Nat),t<xs.length*k->(xs.flatMap enc)[t]? =aqV ((enc xs.toArray[t / k]!)[t%k]!)
 |[],t,h=>by simp at h
 |x::xs,t,h=>by
  have hE:0<k:=by
   rcases Nat.eq_zero_or_pos k with aI|aI;·subst aI;simp at h
   ·exact aI
  rw[asn,List.getElem?_append];split
  ·rename_i aN;rw[hk] at aN;have h1:t / k=0:=Nat.div_eq_of_lt aN;have J:t%k=t:=Nat.mod_eq_of_lt aN;rw[h1,J];have:t<(enc x).length:=by rw[hk];exact aN
   simp[ary this,getElem!_pos (enc x) t this]
  ·rename_i e8;rw[hk] at e8⊢;have e8:k<=t:=by omega
   rw[NS hk xs (t - k) (by simp only[arw,art] at h;omega)];have h1:t / k=(t - k) / k+1:=by rw[<-Nat.sub_add_cancel e8,Nat.add_div_right _ hE];simp
   have J:t%k=(t - k)%k:=by rw[<-Nat.sub_add_cancel e8,Nat.add_mod_right];simp
   have aN:(t - k) / k<xs.length:=by rw[Nat.div_lt_iff_lt_mul hE];simp only[arw,art] at h;omega
   rw[h1,J];congr 3;simp[getElem!_pos xs.toArray ((t - k) / k) (by simpa using aN),getElem!_pos (x::xs).toArray ((t - k) / k+1) (by simpa using aN)]
theorem Gt {enc:au->List aqX} {k:Nat} (hk:∀x,(enc x).length=k) (xs:List au):(xs.flatMap enc).length=xs.length*k:=by
 induction xs with
 |nil=>simp
 |cons x xs a8=>rw[asn,aro,hk,a8,arw,art];omega
variable {P:aq1} {af:Ren}
theorem agI (L:SlLaysF0.n6 P af) {f g k:Nat} (aP:af.f 6=f) (JE:∀w,(isAgg (af.t 24)).run P w= .ok aqW w) (QS:∀w,(Go.sizeOf (af.t 24)).run P w= .ok k w) (enc:au->List aqX) (hk:∀x,(enc x).length=k) (h1:∀x,(enc x).all cx=aqW)
  (ea:au->au->Int) (hO:SWO (ltOf ea)) (Lj:∀args w,(callFunc g args).run P w= .ok (.enter g args) w)
  (hV:∀(x y:au) (W:World),Calls P g #[.agg (enc x).toArray, .agg (enc y).toArray] W fun e w'=>e= .returned (.int .i64 (ea x y))/\∃q sc,w'=grow (W.drewN q) sc)
  (xs:List au) (bE:xs.length<4611686018427387904) (kc:0<k) (MG:0<xs.length):PT P f (.func (.func g) #[] #[]) xs.length (xs.flatMap enc) ((gL ea xs).flatMap enc):=by
 subst aP;intro w aG off cap cs t bg hw cB yB;have BQ:=Gt hk xs;have hH:HoldsK enc k w aG off xs.toArray:=by
  intro j av;rw[size_flatK] at av;have av:j<xs.length*k:=by simpa using av
  have aH:=NS hk xs j av;have ab:=cB j _ aH;have aN:off+j<cs.size:=(ar9.1 ab).1;refine ⟨?_, ?_⟩
  ·rw[get_flatK enc k xs.toArray j (by simpa using av)];simp[World.cell?,hw,ab]
  ·simp only[World.frozen?,hw];have:=yB (off+j) aN;simp only[Bool.and_eq_false_iff,decide_eq_false_iff_not];by_cases h1:bg.1<=off+j
   ·right;exact fun J=>this ⟨h1,J⟩
   ·left;exact h1
 have hblk:aG<w.heap.size:=by
  rcases Nat.lt_or_ge aG w.heap.size with h|h
  ·exact h
  ·rw[Array.getElem?_eq_none h] at hw;cases hw
 have nb:∀x,∀v∈enc x,v.oneCell'=aqW:=fun x v ad=>(WD (j:=fun _=>aqY) (arc.1 (h1 x) v ad)).one;refine (AnyQ.slices_SortFunc_eq L k JE QS enc hk nb ea hO g #[] aG off cap xs.toArray w Lj (fun m os apR _ x y=>hV x y _) hH hblk (by simpa using bE)).mono ?_;rintro e w' ⟨rfl,n,os,rfl⟩;have ap:(pdq (ltOf ea) xs.toArray 0 xs.toArray.size (Lib.bitLen xs.toArray.size) aqW aqW)=(gL ea xs).toArray:=by unfold gL;simp
 rw[ap];have vP:=CN ea hO xs;have qS:(sortWorldK enc k w aG off n (gL ea xs).toArray os).heap.size=w.heap.size+os.size:=by simp[sortWorldK,grow,putRowK,putRow,mapBlock,Sort.ahead]
 have Fq:∀c,c<w.heap.size->(sortWorldK enc k w aG off n (gL ea xs).toArray os).heap[c]? =(w.heap.modify aG (onCells (putCells id off (flatK enc k (gL ea xs).toArray))))[c]? :=by intro c ab;simp only[sortWorldK,grow,putRowK,putRow,mapBlock,Sort.ahead];rw[Array.getElem?_append_left (by simpa using ab)]
 refine ⟨rfl,rfl,rfl,rfl,by rw[qS];omega,fun c ab dE=> ?_, ?_⟩
 ·rw[Fq c ab,at5,if_neg (by omega)]
 ·rw[Fq aG hblk,at5,if_pos rfl,hw];simp only[asz,onCells];congr 2;have hle:off+(xs.flatMap enc).length<=cs.size:=by
   have dQ:0<xs.length*k:=Nat.mul_pos MG kc;have qN:=ary (l:=xs.flatMap enc) (i:=(xs.flatMap enc).length - 1) (by omega);have:=(ar9.1 (cB _ _ qN)).1;omega
  apply Array.ext_getElem?;intro i;have acg:off+((gL ea xs).flatMap enc).length<=cs.toList.length:=by rw[Gt hk,vP,<-BQ,Array.length_toList];exact hle
  have aX:((eU cs.toList off ((gL ea xs).flatMap enc)).toArray)[i]? =if off<=i/\i<off+((gL ea xs).flatMap enc).length then ((gL ea xs).flatMap enc)[i - off]? else cs.toList[i]? :=by rw[<-ou _ _ _ _ acg];simp
  rw[aX];simp only[putCells];rw[Array.getElem?_mapIdx,size_flatK];by_cases fC:off<=i/\i<off+((gL ea xs).flatMap enc).length
  ·rw[if_pos fC];have gl:=Gt hk (gL ea xs);have ab3:i<cs.size:=by rw[gl,vP,<-BQ] at fC;omega
   rw[Array.getElem?_eq_getElem ab3];simp only[asz];rw[if_pos ⟨fC.1,by rw[gl] at fC;simpa using fC.2⟩];have:=NS hk (gL ea xs) (i - off) (by rw[<-gl];omega);rw[this,get_flatK enc k _ _ (by rw[gl] at fC;simp;omega)];rfl
  ·rw[if_neg fC];have gl:=Gt hk (gL ea xs);have:¬(off<=i/\i<off+(gL ea xs).toArray.size*k):=by rw[gl] at fC;simpa using fC
   simp only[this,if_false];cases ab:cs[i]? with
   |none=>simp[ab]
   |some v=>simp[ab]
end
noncomputable section
section
variable {P:aq1} {D:Nat->Type} {G:lP D}
def iH:List hR->Bool
 |[]=>aqW
 | .az _::_=>aqZ
 | .mp _ _ _::_=>aqZ
 | .fn::_=>aqZ
 |_::ls=>iH ls
theorem GS {z:Nat->a6}:∀{ls:List hR} {x:gr (fm G ls)} {ds:List aqX},iH ls=aqW->oz z (fm G ls) x ds->ds=fL ls x
 |[],_,[],_,_=>rfl
 |[],_,_::_,_,h=>h.elim
 | .int k::ls,x,d::ds,h,e=>by have h1:d= .int k x.1:=e.1;rw[fL,h1,<-GS (ls:=ls) h e.2]
 | .bool::ls,x,d::ds,h,e=>by have h1:d= .bool x.1:=e.1;rw[fL,h1,<-GS (ls:=ls) h e.2]
 | .str::ls,x,d::ds,h,e=>by have h1:d=aS.str x.1:=e.1;rw[fL,h1,<-GS (ls:=ls) h e.2]
 | .az _::_,_,_,h,_=>by cases h
 | .mp _ _ _::_,_,_,h,_=>by cases h
 | .fn::_,_,_,h,_=>by cases h
 | .int _::_,_,[],_,h=>h.elim
 | .bool::_,_,[],_,h=>h.elim
 | .str::_,_,[],_,h=>h.elim
theorem GR {z:Nat->a6}:∀{ls:List hR} {x:gr (fm G ls)},iH ls=aqW->oz z (fm G ls) x (fL ls x)
 |[],_,_=>trivial
 | .int k::ls,x,h=>⟨rfl,GR (ls:=ls) h⟩
 | .bool::ls,x,h=>⟨rfl,GR (ls:=ls) h⟩
 | .str::ls,x,h=>⟨rfl,GR (ls:=ls) h⟩
 | .az _::_,_,h=>by cases h
 | .mp _ _ _::_,_,h=>by cases h
 | .fn::_,_,h=>by cases h
theorem CF:∀{ls:List hR} {x:gr (fm G ls)},iH ls=aqW->(fL ls x).all cx=aqW
 |[],_,_=>rfl
 | .int k::ls,x,h=>by simp only[fL,arR,CF (ls:=ls) (x:=x.2) h];rfl
 | .bool::ls,x,h=>by simp only[fL,arR,CF (ls:=ls) (x:=x.2) h];rfl
 | .str::ls,x,h=>by simp only[fL,arR,CF (ls:=ls) (x:=x.2) h];rfl
 | .az _::_,_,h=>by cases h
 | .mp _ _ _::_,_,h=>by cases h
 | .fn::_,_,h=>by cases h
theorem qz:∀{ls:List hR} {x:gr (fm G ls)},(fL ls x).length=ls.length
 |[],_=>rfl
 | .int k::ls,x=>by simp only[fL,arw,qz (ls:=ls)]
 | .bool::ls,x=>by simp only[fL,arw,qz (ls:=ls)]
 | .str::ls,x=>by simp only[fL,arw,qz (ls:=ls)]
 | .az _::ls,x=>by simp only[fL,arw,qz (ls:=ls)]
 | .mp _ _ _::ls,x=>by simp only[fL,arw,qz (ls:=ls)]
 | .fn::ls,x=>by simp only[fL,arw,qz (ls:=ls)]
def Qu {t:Nat} (ls:List hR) (to:D t->gr (fm G ls)) (hK:G.T t=hd t (fm G ls) to) (aq:iH ls=aqW) (x0:D t) (key:D t->Int) {af:Ren} (L:SlLaysF0.n6 P af) (f g:Nat) (aP:af.f 6=f) (ok:mA P f=aqW)
  (JE:∀w,(isAgg (af.t 24)).run P w= .ok aqW w) (QS:∀w,(Go.sizeOf (af.t 24)).run P w= .ok ls.length w) (Lj:∀args w,(callFunc g args).run P w= .ok (.enter g args) w) (dQ:Nat.blt 0 ls.length=aqW)
  (hV:∀(x y:D t) (W:World),Calls P g #[.agg (fL ls (to x)).toArray, .agg (fL ls (to y)).toArray] W fun e w'=>e= .returned (.int .i64 (fW (key x) (key y)))/\∃q sc,w'=grow (W.drewN q) sc):pH P G where
 f:=f
 g:=g
 e:=t
 iC:= @kn (D t) ⟨x0⟩ fun x y=>fW (key x) (key y)
 dq:=fun x=>fL ls (to x)
 ad:=fun z x ds h=>by rw[hK] at h;exact GS aq h
 an:=fun z x=>by rw[hK];exact GR aq
 aP:=fun x=>CF aq
 ok:=ok
 aI:=fun p cap w=>by subst aP;exact AnyF.slices_SortFunc_none L p cap _ w
 ar:=fun xs bi h=>by
  letI:Inhabited (D t):=⟨x0⟩
  unfold kn at h;split at h
  ·cases h;exact CN _ (q3 key) xs
  ·cases h
 ay:=fun xs bi h aI=>by
  letI:Inhabited (D t):=⟨x0⟩
  unfold kn at h;split at h
  ·rename_i aN;cases h;exact agI L aP JE QS (fun x=>fL ls (to x)) (fun _=>qz) (fun _=>CF aq) (fun x y=>fW (key x) (key y)) (q3 key) Lj hV xs aN (asg dQ) aI
  ·cases h
end
end
end Go.aS
end
section
namespace Go.aS
noncomputable section
theorem VA {au:Type} {f:au->Int}:∀{l:List au},(l.map f).Nodup->∀{a b:au},a∈l->b∈l->f a=f b->a=b
 |[],_,_,_,aq,_,_=>by cases aq
 |x::l,ar,a,b,aq,aa,he=>by
  obtain ⟨h1,J⟩:=asU.1 ar;rcases arb.1 aq with rfl|na<;>rcases arb.1 aa with rfl|cu
  ·rfl
  ·exact absurd (he▸List.mem_map_of_mem (f:=f) cu) h1
  ·exact absurd (he▸List.mem_map_of_mem (f:=f) na) h1
  ·exact VA J na cu he
section
variable {P:aq1} {D:Nat->Type} {X:dB P D}
def rI (fr:Nat->aqX):Nat->aqX:=fun t=>if t=32 then .bool aqZ else if t=29\/t=30\/t=31 then any else fr t
theorem ahN {e kt vt t i7 iT i8 kR i9 i10:Nat} {jt je jf hp:Array Oper} {fU:Code} {V:vl P X e kt vt} {iC:List (D e)->Option (List (D e))} {dq:D e->List aqX} (K:AX X e kt vt t i7 iT i8 kR i9 i10 jt je jf hp fU V iC dq)
  (bW:fS X) (jV:P.follows .mixedOrders=aqW) (vT:gn 45 fU=aqW) {af:Type} {Jk:dX->List (Nat×aQ D)->List (aL D)->Option af} {r:af} {E:List (Nat×aQ D)} {O:List (aL D)} {em m:Mem} {z:Nat->a6} {k:Option Nat} {vs:List aqX} {fr:Nat->aqX}
  (ev:hT X [] calm aqW [] fU E O Jk=aqV r) (aw:bm X.G O z em m k vs) (aT:eA X z vs E (rI fr)) (hU:kL (X.G.M t kt vt) z [] (fr 8)):
  W P (s8 i7 jt iT i8 je 32 kR i9 jf i10 hp fU) (fun x=>hy X O z em k vs (Jk x) r) fr m:=by
 obtain ⟨n,ex,fx,m2,vI,kW⟩:=zH bW (B:=fU) (us:=[]) (L:=0) (by simp) fU aqW [] _ _ Jk r (pj fU) (asd _) (by simp) aw aT ev;obtain ⟨vA,Bu⟩:=F7 jV n;refine W.ext (e:=ex) (fr':=fx) (m':=m2) ?_ kW;have hw:∀i,(jD (s8 i7 jt iT i8 je 32 kR i9 jf i10 hp fU)).contains i=aqZ->(jD fU).contains i=aqZ/\rI fr i=fr i:=by
  intro i ae;have h1:¬(i=4\/i=5\/i=32\/jc i=aqW\/42<=i/\i<=44):=fun h=>by rw[K.Cc i h] at ae;cases ae
  refine ⟨atr.2 fun U=>h1 (by rcases K.ME i U with h|h|h<;>simp[h]), ?_⟩;unfold rI;rw[if_neg (fun h=>h1 (by simp[h])),if_neg (fun h=>h1 (.inr (.inr (.inr (.inl (by rcases h with h|h|h<;>rw[h]<;>rfl))))))]
 have pR:∀{n:Nat},(∀t,low n (fr t))->∀t,low n (rI fr t):=fun ah t=>by
  unfold rI;split
  ·trivial
  ·split
   ·trivial
   ·exact ah t
 refine ⟨Wx (Nw n) n vI,fun i ae=> ?_,fun ct ah=> ?_, ?_⟩
 ·rw[Ny n fU _ _ _ _ _ (hw i ae).1 vI];exact (hw i ae).2
 ·obtain ⟨h1,J,_⟩:=Cy vA n fU _ _ _ _ _ vT vI ct (pR ah);exact ⟨h1,J⟩
 ·intro N j a w Q dw br ct cB fc;have Mo:gn N fU=aqW:=by
   simp only[s8,gn,ara] at dw;exact dw.2
  have bj:44<N:=VC dw 44 (K.Cc 44 (.inr (.inr (.inr (.inr ⟨by omega,by omega⟩)))));have abj:a.tmps.size=N:=cB.size;obtain ⟨gm,p1,aX,d1,c8,Ls,t1⟩:=K.qR.h3.cons;obtain ⟨gW,Ci,e2,d2,dR,Lt,t2⟩:=t1.cons;have ij:=t2.nil;subst ij e2;dsimp only at d1 c8 d2 dR;refine wp_seq (wp_seq (wp_region_list ?_));rw[aX];refine mN Ls (w':=w) (v:=dZ a 8) (W9 c8) ?_;rw[d1];obtain ⟨c0,nU⟩:∃c0,c0=a.put (aqV 29) (dZ a 8):=⟨_,rfl⟩
  have cr:c0.tmps.size=N/\c0.defers=[]:=by rw[nU,fT.1,fT.2];exact ⟨cB.size,cB.defers⟩
  have a7:∀t,dZ c0 t=if t=29 then dZ a 8 else dZ a t:=fun t=>by rw[nU];exact mG (by omega)
  rw[<-nU];obtain ⟨cO,it,iM,jX,vR,adm⟩:∃cO it,cO=w.alloc it/\(Instr.range t (dZ a 8)).run P w= .ok (.pointer (aqV ⟨w.heap.size,0,aqY⟩)) cO/\(∀ty,(Instr.next (.pointer (aqV ⟨w.heap.size,0,aqY⟩)) aqZ ty).run P cO= .ok (.tuple #[.bool aqZ]) cO)/\hF (dZ a 8):=by
   have ad:=cB.val 8;rcases hU with ⟨h1,_⟩|⟨bV,h1,J⟩
   ·rw[h1] at ad;have ad:dZ a 8= .map aqY:=ad;rw[ad];exact ⟨_,_,rfl,run_range_nilMap w t kt vt K.pS,fun ty=>run_next_nilMap w ty 0 0 #[],fun b aa=>by cases aa⟩
   ·rw[h1] at ad;obtain ⟨kF,yE,Fm⟩:∃q,j bV=aqV q/\dZ a 8= .map (aqV q.aG):=ad;have cg:(z bV).fJ:=by rw[J];trivial
    obtain ⟨ir,iD,cs,gH,E',g1,g2,g3,g4,g5⟩:nM P j kF w.heap[kF.aG]? (.map ((X.G.M t kt vt).cells []) t):=by have:=br.obj bV kF yE;rw[(aw.aO.bg.fJ cg).1,J] at this;exact this
    rw[K.pS] at g2;cases g2;have lg:=nJ.xz K.fB.pos g3 (G8 K.fB K.Bv []);subst lg;have hC:cs=#[]:=by have:=g4.length;rw[show ((X.G.M t kt vt).mY []).length=0 from rfl] at this;exact Array.eq_empty_of_size_eq_zero (by rw[<-Array.length_toList];exact this.symm)
    subst hC;rw[Fm];have Fh:=MapKept.heap_alloc w (.mapIter (aqV kF.aG) gH #[] gH);refine ⟨_,_,rfl,run_range_map w t kt vt kF.aG #[] gH K.pS g1,fun ty=> ?_,fun b aa=>by cases aa⟩;rcases run_next_at (P:=P) (w.alloc (.mapIter (aqV kF.aG) gH #[] gH)) ty w.heap.size kF.aG gH gH #[] #[] gH Fh.1 (by rw[Fh.2 _ (br.lt bV kF yE).2];exact g1) (fun x U=>by cases U) (aq9 _) with ⟨_,h⟩|⟨x,U,_⟩
    ·exact h
    ·have:=(mem_left U).1;cases this
  refine mN Lt (w':=cO) (v:= .pointer (aqV ⟨w.heap.size,0,aqY⟩)) (by simp[execOp,dR,oq,a7,jX]) ?_;rw[d2];obtain ⟨a2,kv⟩:∃a2,a2=c0.put (aqV 30) (.pointer (aqV ⟨w.heap.size,0,aqY⟩)):=⟨_,rfl⟩
  have z2:a2.tmps.size=N/\a2.defers=[]:=by rw[kv,fT.1,fT.2];exact cr
  have bh:∀t,dZ a2 t=if t=30 then .pointer (aqV ⟨w.heap.size,0,aqY⟩) else dZ c0 t:=fun t=>by rw[kv];exact mG (by rw[cr.1];omega)
  rw[<-kv];refine wpList_nil ?_;show (Code.block iT _).wp P _ a2 cO;refine wp_block (wp_loop_once ?_);obtain ⟨r9,MT,ij,d3,gX,aaW,t3⟩:=K.qR.hU.cons;obtain ⟨Vh,adZ,oR,d4,hX,aaX,t4⟩:=t3.cons;have yk:=t4.nil;subst yk oR;dsimp only at d3 gX d4 hX;refine wp_seq (wp_region_list ?_);rw[ij];refine mN aaW (v:= .tuple #[.bool aqZ]) (w':=cO) (by simp[execOp,gX,oq,bh,vR]) ?_;rw[d3];obtain ⟨a3,vC⟩:∃a3,a3=a2.put (aqV 31) (.tuple #[.bool aqZ]):=⟨_,rfl⟩
  have z3:a3.tmps.size=N/\a3.defers=[]:=by rw[vC,fT.1,fT.2];exact z2
  have bA:∀t,dZ a3 t=if t=31 then .tuple #[.bool aqZ] else dZ a2 t:=fun t=>by rw[vC];exact mG (by rw[z2.1];omega)
  rw[<-vC];refine mN aaX (w':=cO) (Cu (vs:=#[.bool aqZ]) (v:= .bool aqZ) hX (by rw[oq,bA,if_pos rfl]) rfl) ?_;rw[d4];obtain ⟨a4,vD⟩:∃a4,a4=a3.put (aqV 32) (.bool aqZ):=⟨_,rfl⟩
  have z4:a4.tmps.size=N/\a4.defers=[]:=by rw[vD,fT.1,fT.2];exact z3
  have bI:∀t,dZ a4 t=if t=32 then .bool aqZ else dZ a3 t:=fun t=>by rw[vD];exact mG (by rw[z3.1];omega)
  rw[<-vD];refine wpList_nil ?_;refine wp_seq (wp_cond_false (by rw[show Act.eval _ (.tmp 32)=dZ _ 32 from rfl,bI,if_pos rfl]) (wp_exit ?_));simp only[Exit.then,Exit.inBlock,if_true];have bt:=Post.iter br it;rw[<-iM] at bt;have LB:jJ j N (rI fr) a4:=by
   refine ⟨fun t=> ?_,z4.2,z4.1⟩;show cb j (rI fr t) (dZ a4 t);unfold rI;rw[bI,bA,bh,a7];by_cases lS:t=32
   ·rw[if_pos lS,if_pos lS];rfl
   rw[if_neg lS,if_neg lS];by_cases pN:t=31
   ·rw[if_pos (.inr (.inr pN)),if_pos pN];exact pn (fun b aa=>by cases aa)
   rw[if_neg pN];by_cases oU:t=30
   ·rw[if_pos (.inr (.inl oU)),if_pos oU];exact pn (fun b aa=>by cases aa)
   rw[if_neg oU];by_cases pM:t=29
   ·rw[if_pos (.inl pM),if_pos pM];exact pn adm
   rw[if_neg pM,if_neg (fun h=>by rcases h with h|h|h;exact pM h;exact oU h;exact pN h)];exact cB.val t
  exact Nz jV vA Bu n fU (rI fr) fx m m2 ex j a4 cO Q Mo vI bt.rel ct LB fun a5 anZ adL acK aa9=>fc a5 anZ adL (bt.trans acK) aa9
end
section
variable {au:Type} [Inhabited au]
theorem af2 (f:au->Int) {xs bi:List au} (ar:(xs.map f).Nodup) (ap:xs.Perm bi):kn (fun x y=>fW (f x) (f y)) bi=kn (fun x y=>fW (f x) (f y)) xs:=by
 unfold kn;rw[ap.length_eq];split
 ·congr 1;have h1:(gL (fun x y=>fW (f x) (f y)) bi).Perm (gL (fun x y=>fW (f x) (f y)) xs):=(zj _ (q3 f) bi).trans (ap.symm.trans (zj _ (q3 f) xs).symm);have j1:((gL (fun x y=>fW (f x) (f y)) xs).map f).Nodup:=((zj _ (q3 f) xs).map f).nodup_iff.2 ar;refine h1.eq_of_pairwise (le:=fun x y=>f x<=f y) (fun a b aq aa eF qG=> ?_) (Nk f bi) (Nk f xs);have na:a∈gL (fun x y=>fW (f x) (f y)) xs:=h1.mem_iff.1 aq;exact VA j1 na aa (Int.le_antisymm eF qG)
 ·rfl
end
end
end Go.aS
end
section
namespace Go.aS
noncomputable section
section
variable {P:aq1} {D:Nat->Type} {X:dB P D}
def Ix (D:Nat->Type) (e:Nat):List (kK D):=[⟨.ret,[.v 4 (.az e), .v 5 (.int .i64)],[]⟩]
def Ab (D:Nat->Type) (path:List Nat) (e kt vt t:Nat):gh D:=⟨path,[.o 6 (.az e), .v 8 (.mp t kt vt)],[(6, .c (.own 0))],[0],Ix D e,[]⟩
def Zx (path:List Nat) (e kt vt t:Nat) (key:D e->Int) (app:D kt->D vt->D e) (iC:List (D e)->Option (List (D e))):(Ab D path e kt vt t).F:=fun x=>Aa (au:=D e) (bz:=D kt) (rp:=D vt) key app iC x.1 x.2.1
def As (em:Mem) (z:Nat->a6) (n:Nat) (x:a6):Nat->a6:=open Classical in fun b=>if b<em.next\/(z b).fJ then z b else if b=n then x else .dead
theorem ajw {e kt vt t i7 iT i8 kR i9 i10:Nat} {jt je jf hp:Array Oper} {fU:Code} {V:vl P X e kt vt} {iC:List (D e)->Option (List (D e))} {dq:D e->List aqX} (K:AX X e kt vt t i7 iT i8 kR i9 i10 jt je jf hp fU V iC dq)
  (bW:fS X) (jV:P.follows .mixedOrders=aqW) (vT:gn 45 fU=aqW) (key:D e->Int) (B1:∀bi QR,(bi.map key).Nodup->bi.Perm QR->iC QR=iC bi) (MJ:∀bi dS,iC bi=aqV dS->dS.length=bi.length)
  (Lz:∀(bi:List (D e)) (wf:Bool),hT X [] calm aqW [] fU [(6, .c (.own 0))] [.az e bi aqZ wf] (pu X 1 [0] (Ix D e))=aq0 (iC bi) fun dS=>aqV ((dS,(0:Int)):List (D e)×Int))
  {B:Code} {path:List Nat} (fK:sub B path=s8 i7 jt iT i8 je 32 kR i9 jf i10 hp fU):nI X B (Ab D path e kt vt t) (Zx path e kt vt t key V.app iC):=by
 intro x ch z em m k b7 fr cB aw aT;obtain ⟨xs,es,U⟩:∃(xs:List (D e)) (es:List (D kt×D vt)),x=(xs,es,()):=⟨x.1,x.2.1,rfl⟩
 subst U;have cB:Aa (au:=D e) (bz:=D kt) (rp:=D vt) key V.app iC xs es=aqV ch:=cB;unfold Aa at cB;obtain ⟨⟨hlen,kd⟩,cB⟩:=eW cB;obtain ⟨dS,ay,cB⟩:=Option.bind_eq_some_iff.1 cB;cases cB;have aw:bm X.G [.az e xs aqZ aqZ] z em m k b7:=aw;obtain ⟨v6,rfl⟩:∃v6,b7=[v6]:=by
  have:=aw.len
  match b7,this with
  |[v],_=>exact ⟨v,rfl⟩
 have aT:eA X z [v6] [(8, .c (.mp t kt vt es)),(6, .c (.own 0))] fr:=aT;have dv:fr 6=v6:=by have:([v6]:List aqX)[0]? =aqV (fr 6)/\_:=aT 6;exact (arr.inj this.1).symm
 have hU:kL (X.G.M t kt vt) z es (fr 8):=aT 8;rw[show (Ab D path e kt vt t).path=path from rfl,fK];cases es with
 |nil=>
  have ay:iC xs=aqV dS:=by simpa using ay
  have ev:=Lz xs aqZ;rw[ay] at ev;have ev:hT X [] calm aqW [] fU [(6, .c (.own 0))] [.az e xs aqZ aqZ] (pu X 1 [0] (Ix D e))=aqV ((dS,(0:Int)):List (D e)×Int):=ev;refine (ahN K bW jV vT ev aw (fun d=> ?_) hU).mono ?_
  ·simp only[eg];split
   ·rename_i aB;have:=Nat.eq_of_beq_eq_true aB;subst this;exact aT 6
   ·trivial
  ·rintro ex eV m1 ⟨cr,jb,jI,bL,aI,h1,J,aj,aM,bq⟩;obtain ⟨cN,y,g1,g2,g3,g4⟩:=CK bq;obtain ⟨z2,dd,bs,bC,cQ⟩:=C0 (X:=X) (ins:=(Ab D path e kt vt t).ins) (ks:=[0]) (x:=(xs,[],())) (b7:=[v6]) aI J rfl aj aM g3;exact ⟨z2,dd,cN,y,g1,g2,g4,h1.trans bs,bC,cQ⟩
 |cons lz aaO=>
  obtain ⟨es,jT⟩:∃es,es=lz::aaO:=⟨_,rfl⟩
  rw[<-jT] at hlen kd ay hU aT;have b8:es≠[]:=by rw[jT];simp
  obtain ⟨bV,hU,FM⟩:∃bV,fr 8= .map (aqV bV)/\z bV= .map ((X.G.M t kt vt).cells es) t:=by
   rcases hU with ⟨_,h⟩|h
   ·exact absurd h b8
   ·exact h
  have adD:0<dS.length:=by rw[MJ _ _ ay,aro,List.length_map,jT,arw];omega
  have hex:=ahM K bW jV hlen (fun bK ap=> ?_) b8 adD aw dv hU FM
  ·refine W.ext hex ?_;have dH:=aw.aO;have Ml:¬(z m.next).fJ:=fun h=>by have:=(dH.bg.fJ h).2;omega
   have lW:¬m.next<em.next:=by have:=dH.next;omega
   have FL:As em z m.next (.own (dS.flatMap dq) (X.G.T e).tid) m.next= .own (dS.flatMap dq) (X.G.T e).tid:=by unfold As;rw[if_neg (fun h=>by rcases h with h|h;exact lW h;exact Ml h),if_pos rfl]
   have MK:∀b,b<em.next\/(z b).fJ->As em z m.next (.own (dS.flatMap dq) (X.G.T e).tid) b=z b:=fun b aa=>by unfold As;rw[if_pos aa]
   refine ⟨As em z m.next (.own (dS.flatMap dq) (X.G.T e).tid),[],⟨.ret,[.v 4 (.az e), .v 5 (.int .i64)],[]⟩,((dS,(0:Int)):List (D e)×Int),arp,rfl,fun K=>rfl,⟨fun b aa=>MK b (.inr aa),fun b aa=>MK b (.inl aa)⟩, ?_, ?_⟩
   ·show bm X.G [.dead] _ em _ k [v6];refine ⟨⟨fun b aa=> ?_,fun b aa=>OI aa,dH.lR,Nat.le_trans dH.next (Nat.le_succ _),fun b aa hk=> ?_⟩,rfl,fun i o u ae hu=> ?_,fun i hD o p u l9 b8 ae dY ah _ _ _=> ?_⟩
    ·show _/\b<m.next+1;by_cases h:b<em.next\/(z b).fJ
     ·rw[MK b h] at aa⊢;have:=dH.bg b aa;refine ⟨?_,by omega⟩;rw[OJ this.2 (by
       rcases h with h|h
       ·exact .inl ⟨h, .inr aa⟩
       ·exact .inr h)]
      exact this.1
     ·by_cases ar:b=m.next
      ·rw[ar,FL,NX];exact ⟨rfl,Nat.lt_succ_self _⟩
      ·unfold As at aa;rw[if_neg h,if_neg ar] at aa;exact absurd rfl aa
    ·have:=dH.next;rw[OJ (by omega) (.inl ⟨aa, .inl hk⟩)];exact dH.kept b aa hk
    ·cases i with
     |zero=>cases ae;trivial
     |succ i=>cases ae
    ·cases i with
     |zero=>cases ae;cases ah
     |succ i=>cases ae
   ·intro q aJ;have aJ:q=(4, .c (.az e dS))\/q=(5, .c (.int .i64 0)):=by
     have:q∈[((4:Nat),(aQ.c (.az e dS):aQ D)),(5, .c (.int .i64 0))]:=aJ;simpa using this
    rcases aJ with rfl|rfl
    ·have kz:∀x∈dS,(dq x).length=(X.G.T e).a1:=fun x _=>(X.G.T e).len _ _ _ (K.dG z x);show er (X.G.T e) _ dS (.slice (aqV ⟨m.next,0,aqY⟩) dS.length dr);refine .inr ⟨m.next,0,dr,rfl,by rw[FL];trivial, .inl ⟨rfl,_,FL,by rw[CR kz];omega⟩,fun i x U=>⟨dq x,K.dG _ _,fun j v ad=> ?_⟩⟩;show kY _ m.next _=aqV v;rw[kY,FL,arh];exact OP kz i j x v U ad
    ·rfl
  ·have acN:(xs++es.map fun p=>V.app p.1 p.2).Perm (xs++bK.map fun p=>V.app p.1 p.2):=(ap.symm.map _).append_left xs;rw[B1 _ _ kd acN];exact ay
def nt:Code->Array Oper
 | .region _ ops _=>ops
 |_=>#[]
def o5:Code->Nat
 | .region i _ _=>i
 | .block i _=>i
 |_=>0
theorem mh.of:∀{l:List Oper} {bK:List (Option Nat×Op)},(l.map fun o=>(o.dst,o.op,o.guard))=bK.map (fun p=>(p.1,p.2,aqY))->mh l bK
 |[],[],_=>trivial
 |[],_::_,h=>by cases h
 |_::_,[],h=>by cases h
 |o::l,p::bK,h=>by simp only[List.map_cons,List.cons.injEq,Prod.mk.injEq] at h;exact ⟨h.1,mh.of h.2⟩
def ZI (l:List Nat):Bool:=l.all fun d=>ard d 6||(arz 36 d&&arz d 41)
def ZL (l:List Nat):Bool:=l.all fun d=>ard d 4||(ard d 5||(arz 42 d&&arz d 44))
def ZM (l:List Nat):Bool:=[4,5,6,9,10,29,30,31,32,33,34,35,36,37,38,39,40,41,42,43,44].all fun d=>l.contains d
theorem alN {l:List Nat} (h:ZI l=aqW) (t:Nat) (ao:jc t=aqZ\/t=29\/t=30\/t=31\/t=32\/t=33\/t=34\/t=35\/t=9\/t=10):l.contains t=aqZ:=by
 refine atr.2 fun ab=> ?_;have:=arc.1 h t (by simpa using ab);simp only[ar7,ara,as0,atc] at this;have hw:jc t=aqW:=by simp only[jc,ar7,ara,as0,atc];omega
 rcases ao with ao|ao
 ·rw[hw] at ao;cases ao
 ·omega
theorem amp {l:List Nat} (h:ZL l=aqW) (t:Nat) (ao:l.contains t=aqW):t=4\/t=5\/42<=t/\t<=44:=by
 have:=arc.1 h t (by simpa using ao);simpa only[ar7,ara,as0,atc] using this
theorem anc {l:List Nat} (h:ZM l=aqW) (t:Nat) (ao:t=4\/t=5\/t=32\/jc t=aqW\/42<=t/\t<=44):l.contains t=aqW:=by
 refine arc.1 h t ?_;simp only[jc,ar7,ara,as0,atc] at ao;simp only[arb,asF,or_false];omega
def ad4 (P:aq1) (X:dB P D) (e kt vt:Nat) (k dc:aq2) (hk:D kt=Int) (ad:D vt=Int) (app:D kt->D vt->D e):vl P X e kt vt where
 app:=app
 DN:=fun a=> .c (.int k (cast hk a))
 c3:=fun b=> .c (.int dc (cast ad b))
 o7:=fun a=> .int k (cast hk a)
 nE:=fun b=> .int dc (cast ad b)
 hk:=fun _ _ _=>rfl
 ad:=fun _ _ _=>rfl
 M3:=fun _ b h=>by cases h
 dd:=fun _ b h=>by cases h
 TL:=fun _=>rfl
 yn:=fun _=>rfl
theorem agi {e kt vt t:Nat} (bW:fS X) (jV:P.follows .mixedOrders=aqW) {B:Code} {path:List Nat} (k dc:aq2) (hk:D kt=Int) (ad:D vt=Int) (app:D kt->D vt->D e) (x0:D e) (key:D e->Int)
  (fK:sub B path=s8 (o5 (sub B (path++[0,0]))) (nt (sub B (path++[0,0]))) (o5 (sub B (path++[0,1]))) (o5 (sub B (path++[0,1,0,0,0]))) (nt (sub B (path++[0,1,0,0,0]))) 32 (o5 (sub B (path++[0,1,0,0,1,1])))
   (o5 (sub B (path++[0,1,0,0,1,1,0,0]))) (nt (sub B (path++[0,1,0,0,1,1,0,0]))) (o5 (sub B (path++[0,1,0,0,1,1,0,1]))) (nt (sub B (path++[0,1,0,0,1,1,0,1]))) (sub B (path++[1])))
  (h3:((nt (sub B (path++[0,0]))).toList.map fun o=>(o.dst,o.op,o.guard))=[(aqV 29, .move (.tmp 8),aqY),(aqV 30, .range t (.tmp 29),aqY)])
  (hU:((nt (sub B (path++[0,1,0,0,0]))).toList.map fun o=>(o.dst,o.op,o.guard))=[(aqV 31, .next (.tmp 30) aqZ,aqY),(aqV 32, .extract (.tmp 31) 0,aqY)])
  (nT:((nt (sub B (path++[0,1,0,0,1,1,0,0]))).toList.map fun o=>(o.dst,o.op,o.guard))=[(aqV 33, .entry (.tmp 30),aqY),(aqV 34, .extract (.tmp 33) 0,aqY),(aqV 35, .extract (.tmp 33) 1,aqY),(aqV 9, .assign (.tmp 34),aqY),(aqV 10, .assign (.tmp 35),aqY)])
  (pS:P.underlying t=aqV (.map kt vt)) (fB:j7 P kt (X.G.bS kt)) (Bv:lQ P vt (X.G.bS vt))
  (yF:∀a,c4 (cW P kt) (X.G.bS kt a)= .int k (cast hk a)) (FJ:∀a,c4 (cW P vt) (X.G.bS vt a)= .int dc (cast ad a))
  (hw:(ZI (tC (nt (sub B (path++[0,1,0,0,1,1,0,1]))))&&(ZL (jD (sub B (path++[1])))&&ZM (jD (sub B path))))=aqW)
  (aa:∀(a:D kt) (b:D vt) (bi:List (D e)) (wf:Bool),pv X (nt (sub B (path++[0,1,0,0,1,1,0,1]))).toList (nt (sub B (path++[0,1,0,0,1,1,0,1]))).toList [(6, .c (.own 0)),(9, .c (.int k (cast hk a))),(10, .c (.int dc (cast ad b)))] [.az e bi aqZ wf] (Bo e)=aq0 (dP bi [app a b]) fun r=>aqV r)
  (ev:∀(bi:List (D e)) (wf:Bool),hT X [] calm aqW [] (sub B (path++[1])) [(6, .c (.own 0))] [.az e bi aqZ wf] (getD e)=aq0 (@kn (D e) ⟨x0⟩ (fun x y=>fW (key x) (key y)) bi) fun r=>aqV r)
  (Lz:∀(bi:List (D e)) (wf:Bool),hT X [] calm aqW [] (sub B (path++[1])) [(6, .c (.own 0))] [.az e bi aqZ wf] (pu X 1 [0] (Ix D e))=aq0 (@kn (D e) ⟨x0⟩ (fun x y=>fW (key x) (key y)) bi) fun dS=>aqV ((dS,(0:Int)):List (D e)×Int))
  {dq:D e->List aqX} (ki:∀z x ds,(X.G.T e).rd z x ds->ds=dq x) (dG:∀z x,(X.G.T e).rd z x (dq x)) (hf:∀x,(dq x).all cx=aqW) (dQ:0<(X.G.T e).a1) (nb:P.cellsOf (X.G.T e).tid=(X.G.T e).a1) (vT:gn 45 (sub B (path++[1]))=aqW):
  nI X B (Ab D path e kt vt t) (Zx path e kt vt t key app (@kn (D e) ⟨x0⟩ fun x y=>fW (key x) (key y))):=by
 letI:Inhabited (D e):=⟨x0⟩
 simp only[ara] at hw;have K:AX X e kt vt t (o5 (sub B (path++[0,0]))) (o5 (sub B (path++[0,1]))) (o5 (sub B (path++[0,1,0,0,0]))) (o5 (sub B (path++[0,1,0,0,1,1]))) (o5 (sub B (path++[0,1,0,0,1,1,0,0]))) (o5 (sub B (path++[0,1,0,0,1,1,0,1])))
   (nt (sub B (path++[0,0]))) (nt (sub B (path++[0,1,0,0,0]))) (nt (sub B (path++[0,1,0,0,1,1,0,0]))) (nt (sub B (path++[0,1,0,0,1,1,0,1]))) (sub B (path++[1])) (ad4 P X e kt vt k dc hk ad app) (kn fun x y=>fW (key x) (key y)) dq:={
  qR:=⟨mh.of h3,mh.of hU,mh.of nT⟩
  pS:=pS
  fB:=fB
  Bv:=Bv
  yF:=yF
  FJ:=FJ
  kh:=fun _=>rfl
  UY:=fun a b h=>by have h:aqX.int dc (cast ad a)= .int dc (cast ad b):=h;injection h with _ h;have:=congrArg (cast ad.symm) h;simpa using this
  vZ:=alN hw.1
  aa:=fun a b bi wf ah=>by
   refine (aa a b bi wf).trans ?_;rw[show dP bi [app a b]=aqV (bi++[app a b]) by
    unfold dP;rw[if_pos (by show bi.length+1<=mg;omega)]]
   rfl
  ME:=amp hw.2.1
  Cc:=fun t ao=>by rw[<-fK];exact anc hw.2.2 t ao
  ev:=fun bi wf=>by rw[ev bi wf];cases kn (fun x y=>fW (key x) (key y)) bi<;>rfl
  ki:=ki
  dG:=dG
  hf:=hf
  dQ:=dQ
  nb:=nb}
 exact ajw K bW jV vT key (fun bi QR ar ap=>af2 key ar ap) (fun bi dS h=>by
  unfold kn at h;split at h
  ·cases h;exact CN _ (q3 key) bi
  ·cases h) Lz fK
end
end
end Go.aS
end
section
namespace Go.aS
noncomputable section
section
variable {P:aq1} {D:Nat->Type} {bd:dB P D}
structure oG (bd:dB P D) where
 X:dB P D
 ok:fS X
 hr:∀{d:b4 D} {F:d.F},b3 X d F->b3 bd d F
 JV:∀{d:gM D} {F:d.hY.F},eL X d F->eL bd d F
def oG.oP (E:oG bd) (f:Operand->Option Operand->Option Operand->Nat):oG bd:=⟨E.X.oP f,fS.oP E.ok,fun h=>E.hr (b3.oP h),fun h=>E.JV (eL.base h)⟩
structure cA (bd:dB P D) where
 bc:List (nK D)
 gs:List (GE D)
 ok:∀y∈bc,b3 bd y.d y.F
 Lu:∀y∈gs,eL bd y.d y.F
def cA.nil:cA bd:=⟨[],[],by simp,ahu⟩
def cA.db (T:cA bd) (d:b4 D) (F:d.F) (h:b3 bd d F):cA bd:=⟨⟨d,F⟩::T.bc,T.gs,afa (x:=⟨d,F⟩) h T.ok,T.Lu⟩
def cA.vv (T:cA bd) (d:gM D) (F:d.hY.F) (h:eL bd d F):cA bd:=⟨T.bc,⟨d,F⟩::T.gs,T.ok,af5 (x:=⟨d,F⟩) h T.Lu⟩
def cA.aK (T:cA bd):oG bd:=⟨(bd.with T.bc).gen T.gs,fS.aaT (fS.of T.ok) T.Lu,fun h=>b3.eI (b3.eI h),fun h=>eL.base (eL.base h)⟩
def cA.sub (T:cA bd) (d:b4 D) (F:d.F) (h:b3 bd d F):oG bd:=⟨T.aK.X.sub ⟨d,F⟩,fS.sub T.aK.ok (b3.anT (b3.up h)),fun h=>T.aK.hr (b3.sub h),fun h=>T.aK.JV (eL.base h)⟩
structure aA (E:oG bd) (B:Code) where
 us:List (k9 D)
 ok:∀u∈us,pG E.X B u
variable {E:oG bd} {B:Code}
def aA.nil:aA E B:=⟨[],ajo⟩
def aA.add (dF:aA E B) (p:gh D) (F:p.F) (h:nI E.X B p F) (hk:p.oN B=aqW):aA E B:=⟨p.zb E.X F::dF.us,aia (h.zb hk) dF.ok⟩
def aA.aO (dF:aA E B) (p:gh D) (F:p.F) (hk:p.oN B=aqW:=by kernel_rfl)
  (dn:∀x,hT E.X dF.us calm aqW p.path.reverse (aS.sub B p.path) (gv E.X p.ins x++p.eE) (dL E.X p.ins x) (pu E.X (ff p.ins) p.ks p.ik)=F x:=by intro x;kernel_rfl):aA E B:=
 dF.add p F (nI.of E.ok (fun u h _=>dF.ok u h) dn) hk
def Yz:Code->Bool
 | .loop _=>aqW
 |_=>aqZ
theorem aeV {B:Code} {p:List Nat} (h:Yz (aS.sub B p)=aqW):aS.sub B p= .loop (aS.sub B (p++[0])):=by
 rw[<-O4];cases ab:aS.sub B p<;>rw[ab] at h<;>first|(cases h;done)|exact congrArg Code.loop (pj _).symm
def aA.dg (dF:aA E B) (N:Nat) (p:gh D) (F:Nat->p.F) (hk:(Yz (aS.sub B p.path)&&p.oN B)=aqW:=by kernel_rfl) (aI:∀x,F 0 x=aqY:=by exact fun x=>rfl)
  (dn:∀n x,hT E.X dF.us calm aqW (0::p.path.reverse) (aS.sub B (p.path++[0])) (gv E.X p.ins x++p.eE) (dL E.X p.ins x) (YR E.X p (F n))=F (n+1) x:=by intro n x;kernel_rfl):aA E B:=
 dF.add p (F N) (nI.loop E.ok (aeV (as1.1 hk).1) (as1.1 hk).2 (fun u h _=>dF.ok u h) aI dn N) (as1.1 hk).2
def Hv (P:aq1) (f nr:Nat) (fn:Func):Bool:=fn.body.isSome&&(mA P f&&arz nr fn.ntmps)
theorem XJ {fn:Func} (h:fn.body.isSome=aqW):fn.body=aqV (bn fn):=by
 unfold bn;cases aa:fn.body with
 |none=>rw[aa] at h;cases h
 |some c=>rfl
def b4.fj (P:aq1) (d:b4 D) (fn:Func):Bool:=Hv P d.f d.nr fn&&(q9 d.outs&&((d.eE.all fun p=>sz p.2)&&((d.lx.all fun p=>sz p.2)&&(d.eE.all fun p=>(DK p.2).isNone))))
theorem aA.fn {fn:Func} (dF:aA E (bn fn)) {d:b4 D} {F:d.F} (aI:P.funcs[d.f]? =aqV fn) (h1:d.fj P fn=aqW:=by kernel_rfl) (J:fn.results.toList=d.nC:=by exact rfl)
  (dn:∀r x,hT E.X dF.us calm aqW [] (bn fn) (gv E.X d.ins x++(d.eE++DI d.h9)) (pt E.X d.h9 r) (Zv E.X d)=F r x:=by intro r x;kernel_rfl):b3 bd d F:=by
 unfold b4.fj Hv at h1;simp only[ara] at h1;obtain ⟨⟨c0,a2,a3⟩,a4,a5,rC,pJ⟩:=h1;exact E.hr (Jf.call ⟨⟨fn,_,aI,XJ c0,a2,a3,J,Ei.of E.ok (us:=dF.us) (fun u h _=>dF.ok u h) dn⟩,a4,a5,rC,pJ⟩)
def gM.fj (P:aq1) (d:gM D) (fn:Func):Bool:=Hv P d.f d.nr fn&&d.hY.oN (bn fn)
theorem aA.E3 {fn:Func} (dF:aA E (bn fn)) {d:gM D} {F:d.hY.F} (aI:P.funcs[d.f]? =aqV fn) (h1:d.fj P fn=aqW:=by kernel_rfl) (J:fn.results.toList=d.ch.map .tmp:=by exact rfl)
  (dn:∀x,hT E.X dF.us calm aqW d.hY.path.reverse (aS.sub (bn fn) d.hY.path) (gv E.X d.hY.ins x++d.hY.eE) (dL E.X d.hY.ins x) (fun ex=>pu E.X (ff d.hY.ins) d.hY.ks d.hY.ik (Cn ex))=F x:=by intro x;kernel_rfl):eL bd d F:=by
 unfold gM.fj Hv at h1;simp only[ara] at h1;obtain ⟨⟨c0,a2,a3⟩,a4⟩:=h1;exact E.JV (Ji.call ⟨⟨fn,_,aI,XJ c0,a2,a3,J,a4,rq.of E.ok (us:=dF.us) (fun u h _=>dF.ok u h) dn⟩⟩)
end
end
end Go.aS
end
section
set_option maxRecDepth 100000
set_option maxHeartbeats 1000000
namespace Go.W
open Go.aS
noncomputable section
structure en where
 l:(List Int)
 n:Int
deriving DecidableEq
structure aC where
 kind:Int
 name:(List UInt8)
 a:Int
 b:Int
 c:Int
 length:Int
deriving DecidableEq
structure aU where
 ak:Int
 bp:Int
 out:Int
deriving DecidableEq
structure Act where
 set:Bool
 id:Int
 from_:Int
 to:Int
deriving DecidableEq
structure aW where
 ak:Int
 ej:Int
deriving DecidableEq
structure bk where
 gS:Int
 eJ:(List aU)
 dU:(List aW)
deriving DecidableEq
structure dx where
 a0:Int
 c0:Int
deriving DecidableEq
structure dK where
 l:(List aC)
 r:(List aU)
 cV:(List aW)
 seen:(List (dx×Bool))
deriving DecidableEq
structure Step where
 ak:Int
 bp:Int
deriving DecidableEq
structure cd where
 ak:Int
 node:Int
deriving DecidableEq
structure Place where
 ak:Int
 bp:Int
deriving DecidableEq
def AD (N:Nat) (x0:List Int):Option en:=
 aqV (en.mk x0 0)
def xN (N:Nat) (x0:Int):Option (List UInt8):=
 aq0 (oB 112) fun a7=>
 aq0 (oB (aq6 .u8 ((aq6 .i64 (48+(Int.tmod (aq6 .i64 (Int.tdiv x0 10)) 10)))))) fun bh=>
 aq0 (oB (aq6 .u8 ((aq6 .i64 (48+(Int.tmod x0 10)))))) fun bA=>
 aS.lt ([a7,bh,bA]:List UInt8) fun bI=>
 aqV bI
def Io (N:Nat) (x0:en) (bb:Int) (cR:Bool):Option Int:=
 if cR=aqW then
  aq0 (r7 x0.n (x0.l.length:Int)) fun a7=>
  aq0 (aR x0.l a7) fun bh=>
  aq0 (yj x0.n (x0.l.length:Int)) fun bA=>
  aS.lt (aq6 .i64 (bh+(aq6 .i64 ((aq6 .i64 (bA))*7919)))) fun bI=>
  aqV bI
 else
  aqV bb
def Qc (N:Nat) (aD:Int) (bb:Int) (aps:Bool):Option Int:=
 if aps=aqW then
  aS.lt (aq6 .i64 (bb+aD)) fun ck=>
  aqV ck
 else
  aqV bb
def kJ (N:Nat) (x0:en) (aD:Int):Option (Int×en):=
 aq0 (Io N x0 0 (decide (0<(x0.l.length:Int)))) fun bU=>
 aq0 (r7 bU aD) fun b5=>
 aq0 (Qc N aD b5 (decide (b5<0))) fun cG=>
 aqV (cG,(en.mk x0.l (aq6 .i64 (x0.n+1))))
def I4 (N:Nat) (x0:en) (aD:List Int):Option (Int×en):=
 aq0 (kJ N x0 (aD.length:Int)) fun a7=>
 aq0 (aR aD a7.1) fun bh=>
 aqV (bh,a7.2)
def H5 (N:Nat) (aY:List Int) (hQ:Bool):Option (List Int):=
 if hQ=aqW then
  aq0 (dP aY ([0]:List Int)) fun bA=>
  aqV bA
 else
  aqV aY
def H6 (N:Nat) (aD:Int) (bb:List aC) (aY:List Int) (bF:Int):Option Bool:=
 if (decide ((bb.length:Int)<aD))=aqW then
  if (decide (0<(aY.length:Int)))=aqW then
   aqV (decide (bF<62))
  else
   aqV aqZ
 else
  aqV aqZ
def H8 (N:Nat) (te:Int) (Z3:Bool):Option Bool:=
 if Z3=aqW then
  aqV Z3
 else
  aS.lt (te==1) fun eN=>
  aqV eN
def PQ (N:Nat) (x0:en) (aY:List Int):Option (en×Bool):=
 aq0 (kJ N x0 3) fun k8=>
 if (k8.1==0)=aqW then
  aqV (k8.2,(decide (0<(aY.length:Int))))
 else
  aqV (k8.2,aqZ)
def H7 (N:Nat) (x0:en) (aY:List Int) (bF:Int) (cK:Int) (cj:aC) (te:Int):Option (en×List Int×Int×aC):=
 aS.lt (te==0) fun ek=>
 aq0 (H8 N te ek) fun ec=>
 if ec=aqW then
  aq0 (dP aY ([bF,(aq6 .i64 (bF+1))]:List Int)) fun fq=>
  aS.lt (aq6 .i64 (bF+2)) fun fb=>
  aqV (x0,fq,fb,(aC.mk 2 cj.name cK bF (aq6 .i64 (bF+1)) cj.length))
 else
  aS.lt (te==2) fun gf=>
  if gf=aqW then
   aq0 (dP aY ([bF,(aq6 .i64 (bF+1))]:List Int)) fun hc=>
   aS.lt (aq6 .i64 (bF+2)) fun jo=>
   aqV (x0,hc,jo,(aC.mk 2 cj.name bF cK (aq6 .i64 (bF+1)) cj.length))
  else
   aS.lt (te==3) fun jd=>
   if jd=aqW then
    aq0 (dP aY ([bF]:List Int)) fun ib=>
    aS.lt (aq6 .i64 (bF+1)) fun kI=>
    aqV (x0,ib,kI,(aC.mk 3 cj.name cK bF cj.c cj.length))
   else
    aq0 (I4 N x0 ([1,300,100000]:List Int)) fun jq=>
    aq0 (PQ N jq.2 aY) fun mP=>
    if mP.2=aqW then
     aq0 (aR aY (aq6 .i64 ((aY.length:Int) - 1))) fun oD=>
     aq0 (aR aY (aq6 .i64 ((aY.length:Int) - 1))) fun qs=>
     aq0 (fX aY 0 (aq6 .i64 ((aY.length:Int) - 1))) fun rk=>
     aqV (mP.1,rk,bF,(aC.mk 1 cj.name cK qs cj.c jq.1))
    else
     aq0 (kJ N mP.1 2) fun u6=>
     if (u6.1==0)=aqW then
      aq0 (dP aY ([bF]:List Int)) fun Aq=>
      aS.lt (aq6 .i64 (bF+1)) fun xH=>
      aqV (u6.2,Aq,xH,(aC.mk 1 cj.name cK bF cj.c jq.1))
     else
      aS.lt (aq6 .i64 (bF+1)) fun xI=>
      aqV (u6.2,aY,xI,(aC.mk 1 cj.name cK bF cj.c jq.1))
def DA (N:Nat) (aD:Int):Nat->en->(List aC)->(List Int)->Int->Option (en×List aC×List Int×Int)
 |0,_,_,_,_=>aqY
 |n+1,x0,bb,aY,bF=>
  aq0 (H6 N aD bb aY bF) fun bU=>
  if bU=aqW then
   aq0 (kJ N x0 (aY.length:Int)) fun b5=>
   aq0 (aR aY b5.1) fun ck=>
   aq0 (aR aY b5.1) fun cG=>
   aq0 (fX aY 0 b5.1) fun cI=>
   aq0 (fX aY (aq6 .i64 (b5.1+1)) (aY.length:Int)) fun cz=>
   aq0 (dP (List.take (Int.toNat b5.1) aY) (List.drop (Int.toNat (aq6 .i64 (b5.1+1))) (List.take (Int.toNat (aY.length:Int)) aY))) fun c9=>
   aq0 (xN N (bb.length:Int)) fun dD=>
   aq0 (kJ N b5.2 6) fun dN=>
   aq0 (H7 N dN.2 c9 bF cG (aC.mk 0 dD 0 0 0 0) dN.1) fun tf=>
   aq0 (dP bb ([tf.2.2.2]:List aC)) fun Ar=>
   DA N aD n tf.1 Ar tf.2.1 tf.2.2.1
  else
   aqV (x0,bb,aY,bF)
def H9 (N:Nat) (bb:List aC) (aY:List Int) (bF:Int):Option Bool:=
 if (decide (0<(aY.length:Int)))=aqW then
  if (decide ((bb.length:Int)<96))=aqW then
   aqV (decide (bF<64))
  else
   aqV aqZ
 else
  aqV aqZ
def P6 (N:Nat) (bb:List aC) (aY:List Int) (bF:Int) (apo:Bool):Option (List aC×Int):=
 if apo=aqW then
  aq0 (xN N (bb.length:Int)) fun QL=>
  aq0 (aR aY 0) fun Z4=>
  aq0 (aR aY 0) fun QM=>
  aq0 (dP bb ([(aC.mk 1 QL QM bF 0 200)]:List aC)) fun QN=>
  aS.lt (aq6 .i64 (bF+1)) fun QO=>
  aqV (QN,QO)
 else
  aqV (bb,bF)
def DB (N:Nat):Nat->en->(List aC)->(List Int)->Int->Option (en×List aC)
 |0,_,_,_,_=>aqY
 |n+1,x0,bb,aY,bF=>
  aq0 (H9 N bb aY bF) fun DY=>
  if DY=aqW then
   aq0 (kJ N x0 5) fun IN=>
   aq0 (P6 N bb aY bF (decide (0<IN.1))) fun IP=>
   aq0 (fX aY 1 (aY.length:Int)) fun QP=>
   DB N n IN.2 IP.1 QP IP.2
  else
   aqV (x0,bb)
def D5 (N:Nat) (x0:en) (aD:Int):Option (List aC×en):=
 aq0 (xN N 0) fun a7=>
 aq0 (kJ N x0 2) fun bh=>
 aq0 (H5 N ([1]:List Int) (bh.1==0)) fun bI=>
 aq0 (DA N aD N bh.2 ([(aC.mk 1 a7 0 1 0 500)]:List aC) bI 2) fun xJ=>
 aq0 (DB N N xJ.1 xJ.2.1 xJ.2.2.1 xJ.2.2.2) fun QQ=>
 aqV (QQ.2,QQ.1)
def PI (N:Nat) (x0:List aC) (bH:List Int) (b2:Int):Option (List Int):=
 aq0 (aR x0 b2) fun a7=>
 if (a7.kind==1)=aqW then
  aq0 (dP bH ([b2]:List Int)) fun bh=>
  aqV bh
 else
  aqV bH
def zR (N:Nat) (x0:List aC):Nat->(List Int)->Int->Option (List Int)
 |0,_,_=>aqY
 |n+1,bH,b2=>
  if (decide (b2<(x0.length:Int)))=aqW then
   aq0 (PI N x0 bH b2) fun bA=>
   aS.lt (aq6 .i64 (b2+1)) fun bI=>
   zR N x0 n bA bI
  else
   aqV bH
def D4 (N:Nat) (x0:List aC):Option (List Int):=
 aq0 (zR N x0 N [] 0) fun bU=>
 aqV bU
def Qo (N:Nat) (x0:List aC) (aD:Int):Option Bool:=
 if (decide (aD<0))=aqW then
  aqV aqW
 else
  aqV (decide ((x0.length:Int)<=aD))
def Qp (N:Nat) (hQ:Int) (xE:Bool):Option Bool:=
 if xE=aqW then
  aqV xE
 else
  aS.lt (hQ==3) fun bI=>
  aqV bI
def pA (N:Nat) (x0:List aC) (aD:Int):Option (List Int):=
 aq0 (Qo N x0 aD) fun a7=>
 if a7=aqW then
  aqV []
 else
  aq0 (aR x0 aD) fun bh=>
  aS.lt (bh.kind==1) fun bA=>
  aq0 (Qp N bh.kind bA) fun bU=>
  if bU=aqW then
   aq0 (aR x0 aD) fun b5=>
   aq0 (aR x0 aD) fun ck=>
   aqV ([b5.a,ck.b]:List Int)
  else
   aS.lt (bh.kind==2) fun cG=>
   if cG=aqW then
    aq0 (aR x0 aD) fun cI=>
    aq0 (aR x0 aD) fun cz=>
    aq0 (aR x0 aD) fun c9=>
    aqV ([cI.a,cz.b,c9.c]:List Int)
   else
    aqV []
def uS (N:Nat) (x0:List Int) (aD:Int):Nat->Int->Option (Sum (Unit) (Bool))
 |0,_=>aqY
 |n+1,bb=>
  if (decide (bb<(x0.length:Int)))=aqW then
   aq0 (aR x0 bb) fun a7=>
   if (a7==aD)=aqW then
    aqV (aq7 aqW)
   else
    aS.lt (aq6 .i64 (bb+1)) fun bh=>
    uS N x0 aD n bh
  else
   aqV (aq8 ())
def AE (N:Nat) (x0:List Int) (aD:Int):Option Bool:=
 aq0 (uS N x0 aD N 0) fun bA=>
 match bA with
 |aq8 bI=>
  aqV aqZ
 |aq7 bU=>
  aqV bU
def PO (N:Nat) (x0:List aC) (aD:Int) (b9:Int) (bF:Int):Option Bool:=
 if (bF !=aD)=aqW then
  aq0 (pA N x0 bF) fun a7=>
  aq0 (AE N a7 b9) fun bh=>
  aqV bh
 else
  aqV aqZ
def uX (N:Nat) (x0:List aC) (aD:Int) (b9:Int):Nat->Int->Option (Sum (Unit) (Int))
 |0,_=>aqY
 |n+1,bF=>
  if (decide (bF<(x0.length:Int)))=aqW then
   aq0 (PO N x0 aD b9 bF) fun bA=>
   if bA=aqW then
    aqV (aq7 bF)
   else
    aS.lt (aq6 .i64 (bF+1)) fun bI=>
    uX N x0 aD b9 n bI
  else
   aqV (aq8 ())
def rl (N:Nat) (x0:List aC) (aD:Int) (b9:Int):Option Int:=
 aq0 (uX N x0 aD b9 N 0) fun bU=>
 match bU with
 |aq8 b5=>
  aqV (-1)
 |aq7 ck=>
  aqV ck
def xO (N:Nat) (x0:List aC) (aD:Int) (b9:Int):Option (List Int):=
 aq0 (pA N x0 aD) fun a7=>
 aq0 (AE N a7 b9) fun bh=>
 aS.lt (!bh) fun bA=>
 if bA=aqW then
  aqV []
 else
  aq0 (aR a7 0) fun bI=>
  aq0 (aR a7 0) fun bU=>
  aS.lt (bU==b9) fun b5=>
  if b5=aqW then
   aq0 (fX a7 1 (a7.length:Int)) fun ck=>
   aq0 (dP ([]:List Int) ck) fun cG=>
   aqV cG
  else
   aq0 (aR a7 0) fun cI=>
   aq0 (aR a7 0) fun cz=>
   aqV ([cz]:List Int)
def Ih (N:Nat) (x0:en) (aD:List aC) (cj:Int) (cR:List Int):Option (en×Bool):=
 aq0 (aR aD cj) fun c9=>
 if (c9.kind==1)=aqW then
  aq0 (kJ N x0 2) fun dD=>
  if (dD.1==0)=aqW then
   aqV (dD.2,aqW)
  else
   aq0 (aR cR 0) fun dN=>
   aq0 (aR cR 0) fun ek=>
   aq0 (rl N aD cj ek) fun eN=>
   aqV (dD.2,(decide (eN<0)))
 else
  aqV (x0,aqZ)
def sR (N:Nat) (aD:List aC):Nat->en->aU->(List aU)->Int->Option (Sum (en×List aU) (en×List aU))
 |0,_,_,_,_=>aqY
 |n+1,x0,aY,bO,cK=>
  if (decide (cK<12))=aqW then
   aq0 (rl N aD aY.ak aY.out) fun cI=>
   if (decide (cI<0))=aqW then
    aqV (aq8 (x0,bO))
   else
    aq0 (xO N aD cI aY.out) fun cz=>
    aq0 (Ih N x0 aD cI cz) fun ec=>
    if ec.2=aqW then
     aq0 (dP bO ([(aU.mk cI aY.out (-1))]:List aU)) fun fq=>
     aqV (aq7 (ec.1,fq))
    else
     aq0 (kJ N ec.1 (cz.length:Int)) fun fb=>
     aq0 (aR cz fb.1) fun gf=>
     aq0 (aR cz fb.1) fun hc=>
     aq0 (dP bO ([(aU.mk cI aY.out hc)]:List aU)) fun jo=>
     aS.lt (aq6 .i64 (cK+1)) fun jd=>
     sR N aD n fb.2 (aU.mk cI aY.out hc) jo jd
  else
   aqV (aq8 (x0,bO))
def D9 (N:Nat) (x0:en) (aD:List aC):Option (List aU×en):=
 aq0 (D4 N aD) fun a7=>
 aq0 (kJ N x0 (a7.length:Int)) fun bh=>
 aq0 (aR a7 bh.1) fun bA=>
 aq0 (aR a7 bh.1) fun bI=>
 aq0 (pA N aD bI) fun bU=>
 aq0 (kJ N bh.2 (bU.length:Int)) fun b5=>
 aq0 (aR bU b5.1) fun ck=>
 aq0 (aR bU b5.1) fun cG=>
 aq0 (sR N aD N b5.2 (aU.mk bI (-1) cG) ([(aU.mk bI (-1) cG)]:List aU) 0) fun ib=>
 match ib with
 |aq8 kI=>
  aqV (kI.2,kI.1)
 |aq7 jq=>
  aqV (jq.2,jq.1)
def HX (N:Nat) (x0:en) (aY:List aC) (bF:List Int) (cR:Act) (IK:Bool):Option (en×Act):=
 if IK=aqW then
  aq0 (kJ N x0 (bF.length:Int)) fun c9=>
  aq0 (aR bF c9.1) fun dD=>
  aq0 (aR bF c9.1) fun dN=>
  aq0 (kJ N c9.2 (aq6 .i64 ((aY.length:Int)+1))) fun ek=>
  aqV (ek.2,(Act.mk cR.set cR.id dN ek.1))
 else
  aqV (x0,cR)
def xi (N:Nat) (aD:Int) (aY:List aC) (bF:List Int):Nat->en->(List Act)->Int->Option (en×List Act)
 |0,_,_,_=>aqY
 |n+1,x0,bO,cK=>
  if (decide (cK<aD))=aqW then
   aq0 (D9 N x0 aY) fun bA=>
   aq0 (kJ N bA.2 4) fun bI=>
   aq0 (kJ N bI.2 6) fun bU=>
   aq0 (aR bA.1 0) fun b5=>
   aq0 (aR bA.1 0) fun ck=>
   aq0 (aR bA.1 (aq6 .i64 ((bA.1.length:Int) - 1))) fun cG=>
   aq0 (aR bA.1 (aq6 .i64 ((bA.1.length:Int) - 1))) fun cI=>
   aq0 (kJ N bU.2 5) fun cz=>
   aq0 (HX N cz.2 aY bF (Act.mk (decide (0<bI.1)) bU.1 ck.ak cI.ak) (cz.1==0)) fun eN=>
   aq0 (dP bO ([eN.2]:List Act)) fun ec=>
   aS.lt (aq6 .i64 (cK+1)) fun fq=>
   xi N aD aY bF n eN.1 ec fq
  else
   aqV (x0,bO)
def vd (N:Nat) (x0:en) (aD:Int):Option (List aC×List Act×en):=
 aq0 (D5 N x0 20) fun a7=>
 aq0 (D4 N a7.1) fun bh=>
 aq0 (xi N aD a7.1 bh N a7.2 [] 0) fun fb=>
 aqV (a7.1,fb.2,fb.1)
def HZ (N:Nat) (x0:List UInt8) (bH:Int):Option Bool:=
 aq0 (aR x0 bH) fun a7=>
 if (decide (97<=(ash a7:Int)))=aqW then
  aq0 (aR x0 bH) fun bh=>
  if (decide ((ash bh:Int)<=122))=aqW then
   aqV (!aqW)
  else
   aq0 (aR x0 bH) fun bA=>
   if (decide (48<=(ash bA:Int)))=aqW then
    aq0 (aR x0 bH) fun bI=>
    aqV (!(decide ((ash bI:Int)<=57)))
   else
    aqV (!aqZ)
 else
  aq0 (aR x0 bH) fun bU=>
  if (decide (48<=(ash bU:Int)))=aqW then
   aq0 (aR x0 bH) fun b5=>
   aqV (!(decide ((ash b5:Int)<=57)))
  else
   aqV (!aqZ)
def uR (N:Nat) (x0:List UInt8):Nat->Int->Option (Sum (Unit) (Bool))
 |0,_=>aqY
 |n+1,bH=>
  if (decide (bH<(x0.length:Int)))=aqW then
   aq0 (HZ N x0 bH) fun ck=>
   if ck=aqW then
    aqV (aq7 aqZ)
   else
    aS.lt (aq6 .i64 (bH+1)) fun cG=>
    uR N x0 n cG
  else
   aqV (aq8 ())
def Qn (N:Nat) (x0:List UInt8):Option Bool:=
 if (decide (1<=(x0.length:Int)))=aqW then
  aS.lt (decide ((x0.length:Int)<=12)) fun c9=>
  aqV c9
 else
  aqV aqZ
def Jb (N:Nat) (x0:List UInt8):Option Bool:=
 aq0 (uR N x0 N 0) fun cI=>
 match cI with
 |aq8 cz=>
  aq0 (Qn N x0) fun dD=>
  aqV dD
 |aq7 dN=>
  aqV dN
def Qi (N:Nat) (bb:aC) (aY:List Int):Option Bool:=
 if ((aY.length:Int)==0)=aqW then
  aqV aqW
 else
  aq0 (Jb N bb.name) fun bA=>
  aqV (!bA)
def Qj (N:Nat) (aY:List Int) (bF:Int):Option Bool:=
 aq0 (aR aY bF) fun bU=>
 if (decide (bU<0))=aqW then
  aqV aqW
 else
  aq0 (aR aY bF) fun b5=>
  if (decide (64<=b5))=aqW then
   aqV aqW
  else
   aq0 (fX aY 0 bF) fun ck=>
   aq0 (aR aY bF) fun cG=>
   aq0 (AE N ck cG) fun cI=>
   aqV cI
def sY (N:Nat) (aY:List Int):Nat->Int->Option (Sum (Unit) (Bool))
 |0,_=>aqY
 |n+1,bF=>
  if (decide (bF<(aY.length:Int)))=aqW then
   aq0 (Qj N aY bF) fun cz=>
   if cz=aqW then
    aqV (aq7 aqZ)
   else
    aS.lt (aq6 .i64 (bF+1)) fun c9=>
    sY N aY n c9
  else
   aqV (aq8 ())
def Qk (N:Nat) (bb:aC) (aY:List Int):Option Bool:=
 if ((aY.length:Int)==2)=aqW then
  aqV (bb.c !=0)
 else
  aqV aqZ
def Ql (N:Nat) (bb:aC):Option Bool:=
 if (decide (1<=bb.length))=aqW then
  aS.lt (decide (bb.length<=100000)) fun eN=>
  aqV eN
 else
  aqV aqZ
def nG (N:Nat) (x0:List aC) (aD:Int):Option Bool:=
 aq0 (aR x0 aD) fun a7=>
 aq0 (pA N x0 aD) fun bh=>
 aq0 (Qi N a7 bh) fun bI=>
 if bI=aqW then
  aqV aqZ
 else
  aq0 (sY N bh N 0) fun dD=>
  match dD with
  |aq8 dN=>
   aq0 (Qk N a7 bh) fun ek=>
   if ek=aqW then
    aqV aqZ
   else
    if (a7.kind==1)=aqW then
     aq0 (Ql N a7) fun ec=>
     aqV ec
    else
     aS.lt (a7.length==0) fun fq=>
     aqV fq
  |aq7 fb=>
   aqV fb
def sW (N:Nat) (x0:List aC) (b2:Int):Nat->Int->Option (Sum (Unit) (Int))
 |0,_=>aqY
 |n+1,bb=>
  if (decide (bb<b2))=aqW then
   aq0 (aR x0 bb) fun bh=>
   aq0 (aR x0 b2) fun bA=>
   if (bh.name==bA.name)=aqW then
    aqV (aq7 8)
   else
    aS.lt (aq6 .i64 (bb+1)) fun bI=>
    sW N x0 b2 n bI
  else
   aqV (aq8 ())
def sX (N:Nat) (bH:List Int) (aY:List Int):Nat->Int->Option (Sum (Unit) (Int))
 |0,_=>aqY
 |n+1,bF=>
  if (decide (bF<(aY.length:Int)))=aqW then
   aq0 (aR aY bF) fun cG=>
   aq0 (aR aY bF) fun cI=>
   aq0 (aR bH cI) fun cz=>
   aq0 (aR bH cI) fun c9=>
   if (c9==2)=aqW then
    aqV (aq7 17)
   else
    aS.lt (aq6 .i64 (bF+1)) fun dD=>
    sX N bH aY n dD
  else
   aqV (aq8 ())
def xg (N:Nat) (aY:List Int):Nat->(List Int)->Int->Option (List Int)
 |0,_,_=>aqY
 |n+1,bH,bO=>
  if (decide (bO<(aY.length:Int)))=aqW then
   aq0 (aR aY bO) fun eN=>
   aq0 (aR aY bO) fun ec=>
   aq0 (aR bH ec) fun fq=>
   aq0 (aR bH ec) fun fb=>
   aq0 (aR bH ec) fun gf=>
   aq0 (aR bH ec) fun hc=>
   aS.lt (bH.set ((ec:Int).toNat) (aq6 .i64 (fb+1))) fun jo=>
   aS.lt (aq6 .i64 (bO+1)) fun jd=>
   xg N aY n jo jd
  else
   aqV bH
def zX (N:Nat) (x0:List aC):Nat->(List Int)->Int->Option (Sum (Unit) (Int))
 |0,_,_=>aqY
 |n+1,bH,b2=>
  if (decide (b2<(x0.length:Int)))=aqW then
   aq0 (nG N x0 b2) fun a7=>
   if (!a7)=aqW then
    aqV (aq7 1)
   else
    aq0 (sW N x0 b2 N 0) fun bU=>
    match bU with
    |aq8 b5=>
     aq0 (pA N x0 b2) fun ck=>
     aq0 (sX N bH ck N 0) fun dN=>
     match dN with
     |aq8 ek=>
      aq0 (xg N ck N bH 0) fun ib=>
      aS.lt (aq6 .i64 (b2+1)) fun kI=>
      zX N x0 n ib kI
     |aq7 jq=>
      aqV (aq7 jq)
    |aq7 k8=>
     aqV (aq7 k8)
  else
   aqV (aq8 ())
def vb (N:Nat) (x0:List aC):Option Int:=
 if (decide (96<(x0.length:Int)))=aqW then
  aqV 3
 else
  aq0 (zX N x0 N (arx 64 0) 0) fun mP=>
  match mP with
  |aq8 oD=>
   aqV 0
  |aq7 qs=>
   aqV qs
def Qm (N:Nat) (x0:List aC) (aD:Int):Option Bool:=
 if (decide (0<=aD))=aqW then
  if (decide (aD<(x0.length:Int)))=aqW then
   aq0 (aR x0 aD) fun a7=>
   aS.lt (a7.kind==1) fun bh=>
   aqV bh
  else
   aqV aqZ
 else
  aqV aqZ
def xT (N:Nat) (x0:List aC) (aD:Int):Option Bool:=
 aq0 (Qm N x0 aD) fun bA=>
 aqV bA
def uN (N:Nat) (x0:List aU) (aD:Int):Nat->Int->Option (Sum (Unit) (Bool))
 |0,_=>aqY
 |n+1,bb=>
  if (decide (bb<(x0.length:Int)))=aqW then
   aq0 (aR x0 bb) fun a7=>
   if (a7.ak==aD)=aqW then
    aqV (aq7 aqW)
   else
    aS.lt (aq6 .i64 (bb+1)) fun bh=>
    uN N x0 aD n bh
  else
   aqV (aq8 ())
def rm (N:Nat) (x0:List aU) (aD:Int):Option Bool:=
 aq0 (uN N x0 aD N 0) fun bA=>
 match bA with
 |aq8 bI=>
  aqV aqZ
 |aq7 bU=>
  aqV bU
def uT (N:Nat) (x0:List Int) (aD:Int):Nat->Int->Option (Sum (Unit) (Bool))
 |0,_=>aqY
 |n+1,bb=>
  if (decide (bb<(x0.length:Int)))=aqW then
   aq0 (aR x0 bb) fun a7=>
   if (a7==aD)=aqW then
    aqV (aq7 aqW)
   else
    aS.lt (aq6 .i64 (bb+1)) fun bh=>
    uT N x0 aD n bh
  else
   aqV (aq8 ())
def Eg (N:Nat) (x0:List Int) (aD:Int):Option Bool:=
 aq0 (uT N x0 aD N 0) fun bA=>
 match bA with
 |aq8 bI=>
  aqV aqZ
 |aq7 bU=>
  aqV bU
def uO (N:Nat) (x0:List aC) (aD:List aU) (bb:Int):Option Bool:=
 aq0 (vb N x0) fun bh=>
 if (bh !=0)=aqW then
  aqV aqW
 else
  if (decide (bb<1))=aqW then
   aqV aqW
  else
   aq0 (aR aD 0) fun bA=>
   aq0 (xT N x0 bA.ak) fun bI=>
   if (!bI)=aqW then
    aqV aqW
   else
    aq0 (aR aD bb) fun bU=>
    aq0 (xT N x0 bU.ak) fun b5=>
    if (!b5)=aqW then
     aqV aqW
    else
     aq0 (aR aD 0) fun ck=>
     if (ck.bp !=(-1))=aqW then
      aqV aqW
     else
      aq0 (aR aD bb) fun cG=>
      aqV (cG.out !=(-1))
def Iu (N:Nat) (x0:List aC) (aD:List aU) (aY:Int):Option Bool:=
 aq0 (aR aD aY) fun cz=>
 if (decide (cz.ak<0))=aqW then
  aqV aqW
 else
  aq0 (aR aD aY) fun c9=>
  if (decide ((x0.length:Int)<=c9.ak))=aqW then
   aqV aqW
  else
   aq0 (fX aD 0 aY) fun dD=>
   aq0 (aR aD aY) fun dN=>
   aq0 (rm N dD dN.ak) fun ek=>
   aqV ek
def Iv (N:Nat) (x0:List aC) (aD:List aU) (bb:Int) (aY:Int):Option Bool:=
 if (decide (aY<bb))=aqW then
  aq0 (aR aD aY) fun ec=>
  aq0 (pA N x0 ec.ak) fun fq=>
  aq0 (aR aD aY) fun fb=>
  aq0 (Eg N fq fb.out) fun gf=>
  if (!gf)=aqW then
   aqV aqW
  else
   aq0 (aR aD (aq6 .i64 (aY+1))) fun hc=>
   aq0 (aR aD aY) fun jo=>
   if (hc.bp !=jo.out)=aqW then
    aqV aqW
   else
    aq0 (aR aD (aq6 .i64 (aY+1))) fun jd=>
    aq0 (aR aD aY) fun ib=>
    aq0 (aR aD aY) fun kI=>
    aq0 (rl N x0 ib.ak kI.out) fun jq=>
    aqV (jd.ak !=jq)
 else
  aqV aqZ
def Iw (N:Nat) (x0:List aC) (aD:List aU) (bb:Int) (aY:Int):Option Bool:=
 if (decide (0<aY))=aqW then
  if (decide (aY<bb))=aqW then
   aq0 (aR aD aY) fun mP=>
   aq0 (aR aD aY) fun oD=>
   aq0 (xO N x0 mP.ak oD.bp) fun qs=>
   aq0 (aR aD aY) fun rk=>
   aq0 (Eg N qs rk.out) fun u6=>
   aqV (!u6)
  else
   aqV aqZ
 else
  aqV aqZ
def uP (N:Nat) (x0:List aC) (aD:List aU) (bb:Int):Nat->Int->Option (Sum (Unit) (Bool))
 |0,_=>aqY
 |n+1,aY=>
  if (decide (aY<=bb))=aqW then
   aq0 (Iu N x0 aD aY) fun eN=>
   if eN=aqW then
    aqV (aq7 aqZ)
   else
    aq0 (Iv N x0 aD bb aY) fun k8=>
    if k8=aqW then
     aqV (aq7 aqZ)
    else
     aq0 (Iw N x0 aD bb aY) fun Aq=>
     if Aq=aqW then
      aqV (aq7 aqZ)
     else
      aS.lt (aq6 .i64 (aY+1)) fun xH=>
      uP N x0 aD bb n xH
  else
   aqV (aq8 ())
def xS (N:Nat) (x0:List aC) (aD:List aU):Option Bool:=
 aS.lt (aq6 .i64 ((aD.length:Int) - 1)) fun a7=>
 aq0 (uO N x0 aD a7) fun cI=>
 if cI=aqW then
  aqV aqZ
 else
  aq0 (uP N x0 aD a7 N 0) fun xI=>
  match xI with
  |aq8 tf=>
   aqV aqW
  |aq7 Ar=>
   aqV Ar
def zT (N:Nat) (bH:aU) (bb:aC):Option Bool:=
 if (bb.kind==2)=aqW then
  if (bH.bp==bb.b)=aqW then
   aqV aqW
  else
   aS.lt (bH.out==bb.b) fun bA=>
   aqV bA
 else
  aqV aqZ
def D6 (N:Nat) (x0:List aC) (aD:aU):Option Int:=
 aq0 (aR x0 aD.ak) fun a7=>
 aS.lt (a7.kind==3) fun bh=>
 if bh=aqW then
  aqV 3
 else
  aq0 (zT N aD a7) fun bI=>
  if bI=aqW then
   aqV 1
  else
   aS.lt (a7.kind==2) fun bU=>
   if bU=aqW then
    aqV 2
   else
    aqV 0
def z1 (N:Nat) (x0:List aW) (bH:aW) (bb:Int):Option Bool:=
 if (decide (0<bb))=aqW then
  aq0 (aR x0 (aq6 .i64 (bb - 1))) fun bh=>
  aqV (decide (bH.ak<=bh.ak))
 else
  aqV aqZ
def zZ (N:Nat) (x0:List aW) (bH:aW):Nat->Int->Option Int
 |0,_=>aqY
 |n+1,bb=>
  aq0 (z1 N x0 bH bb) fun bA=>
  if bA=aqW then
   aS.lt (aq6 .i64 (bb - 1)) fun bI=>
   zZ N x0 bH n bI
  else
   aqV bb
def zL (N:Nat) (x0:List aW) (bH:aW) (bb:Int):Option Bool:=
 if (decide (bb<(x0.length:Int)))=aqW then
  aq0 (aR x0 bb) fun b5=>
  aqV (b5.ak==bH.ak)
 else
  aqV aqZ
def rn (N:Nat) (x0:List aW) (aD:aW):Option (List aW):=
 aS.lt (x0.length:Int) fun a7=>
 aq0 (zZ N x0 aD N a7) fun bU=>
 aq0 (zL N x0 aD bU) fun ck=>
 if ck=aqW then
  aqV x0
 else
  aq0 (uL x0 bU bU) fun cG=>
  aq0 (fX x0 bU (x0.length:Int)) fun cI=>
  aq0 (dP ([aD]:List aW) cI) fun cz=>
  if cz.isEmpty=aqW then
   aqY
  else
   aq0 (dP cG cz) fun c9=>
   aqV c9
def Ia (N:Nat) (x0:List aC) (aD:List aU) (aY:List aW) (bF:Int):Option (List aW):=
 aq0 (aR aD bF) fun bh=>
 aq0 (D6 N x0 bh) fun bA=>
 if (bA !=0)=aqW then
  aq0 (aR aD bF) fun bI=>
  aq0 (rn N aY (aW.mk bI.ak bA)) fun bU=>
  aqV bU
 else
  aqV aY
def w9 (N:Nat) (x0:List aC) (aD:List aU):Nat->(List aW)->Int->Option (List aW)
 |0,_,_=>aqY
 |n+1,aY,bF=>
  if (decide (bF<(aD.length:Int)))=aqW then
   aq0 (Ia N x0 aD aY bF) fun b5=>
   aS.lt (aq6 .i64 (bF+1)) fun ck=>
   w9 N x0 aD n b5 ck
  else
   aqV aY
def D7 (N:Nat) (x0:List aC) (aD:List aU):Option (List aW×Int):=
 aq0 (xS N x0 aD) fun a7=>
 if (!a7)=aqW then
  aqV ([],1)
 else
  aq0 (w9 N x0 aD N [] 0) fun cG=>
  aqV (cG,0)
def xm (N:Nat) (x0:List aW) (aD:Int):Nat->Int->Option (Sum (Unit) (Int))
 |0,_=>aqY
 |n+1,bb=>
  if (decide (bb<(x0.length:Int)))=aqW then
   aq0 (aR x0 bb) fun a7=>
   if (a7.ak==aD)=aqW then
    aq0 (aR x0 bb) fun bh=>
    aqV (aq7 bh.ej)
   else
    aS.lt (aq6 .i64 (bb+1)) fun bA=>
    xm N x0 aD n bA
  else
   aqV (aq8 ())
def xV (N:Nat) (x0:List aW) (aD:Int):Option Int:=
 aq0 (xm N x0 aD N 0) fun bI=>
 match bI with
 |aq8 bU=>
  aqV 0
 |aq7 b5=>
  aqV b5
def zO (N:Nat) (self:dK->Int->Int->(List (dx×Bool))->Option (Int×dK×(List (dx×Bool)))) (x0:dK) (bF:Int):Option Bool:=
 if (decide (bF<0))=aqW then
  aqV aqW
 else
  aq0 (rm N x0.r bF) fun bI=>
  aqV bI
def Du (N:Nat) (self:dK->Int->Int->(List (dx×Bool))->Option (Int×dK×(List (dx×Bool)))) (b9:Int) (bO:aC):Option Bool:=
 if (bO.kind==2)=aqW then
  aS.lt (b9==bO.a) fun cG=>
  aqV cG
 else
  aqV aqZ
def Dv (N:Nat) (self:dK->Int->Int->(List (dx×Bool))->Option (Int×dK×(List (dx×Bool)))) (b9:Int) (bO:aC):Option Bool:=
 if (bO.kind==2)=aqW then
  aS.lt (b9==bO.b) fun dD=>
  aqV dD
 else
  aqV aqZ
def zP (N:Nat) (self:dK->Int->Int->(List (dx×Bool))->Option (Int×dK×(List (dx×Bool)))) (x0:dK) (b9:Int) (bF:Int) (bO:aC) (cK:Int) (tb:List (dx×Bool)):Option (Sum (dK×Int×(List (dx×Bool))) (dK×Int×(List (dx×Bool)))):=
 aS.lt (bO.kind==1) fun ck=>
 if ck=aqW then
  aqV (aq7 ((dK.mk x0.l x0.r x0.cV []),22,tb))
 else
  aq0 (Du N self b9 bO) fun cI=>
  if cI=aqW then
   aq0 (self (dK.mk x0.l x0.r x0.cV []) bF bO.b tb) fun cz=>
   if (cz.1 !=0)=aqW then
    aqV (aq7 ((dK.mk cz.2.1.l cz.2.1.r cz.2.1.cV []),cz.1,cz.2.2))
   else
    aq0 (self (dK.mk cz.2.1.l cz.2.1.r cz.2.1.cV []) bF bO.c cz.2.2) fun c9=>
    aqV (aq7 ((dK.mk c9.2.1.l c9.2.1.r c9.2.1.cV []),c9.1,c9.2.2))
  else
   aq0 (Dv N self b9 bO) fun dN=>
   if dN=aqW then
    aqV (aq8 ((dK.mk x0.l x0.r x0.cV []),2,tb))
   else
    aS.lt (bO.kind==2) fun ek=>
    if ek=aqW then
     aqV (aq8 ((dK.mk x0.l x0.r x0.cV []),1,tb))
    else
     aqV (aq8 ((dK.mk x0.l x0.r x0.cV []),cK,tb))
def Dw (N:Nat) (self:dK->Int->Int->(List (dx×Bool))->Option (Int×dK×(List (dx×Bool)))) (cK:Int) (cR:Int):Option Bool:=
 if (cR !=0)=aqW then
  aqV (cR !=cK)
 else
  aqV aqZ
def lL (N:Nat):Nat->dK->Int->Int->(List (dx×Bool))->Option (Int×dK×(List (dx×Bool)))
 |0,_,_,_,_=>aqY
 |bM+1,x0,aD,b9,tb=>
  aS.lt (bw tb (dx.mk aD b9)) fun a7=>
  if (a7.getD aqZ)=aqW then
   aqV (0,(dK.mk x0.l x0.r x0.cV []),tb)
  else
   aS.lt (dA tb (dx.mk aD b9) aqW) fun bh=>
   aq0 (rl N x0.l aD b9) fun bA=>
   aq0 (zO N (lL N bM) (dK.mk x0.l x0.r x0.cV []) bA) fun bU=>
   if bU=aqW then
    aqV (0,(dK.mk x0.l x0.r x0.cV []),bh)
   else
    aq0 (aR x0.l bA) fun b5=>
    aq0 (zP N (lL N bM) (dK.mk x0.l x0.r x0.cV []) b9 bA b5 4 bh) fun eN=>
    match eN with
    |aq8 ec=>
     aq0 (xV N ec.1.cV bA) fun fq=>
     aq0 (Dw N (lL N bM) ec.2.1 fq) fun fb=>
     if fb=aqW then
      aqV (17,(dK.mk ec.1.l ec.1.r ec.1.cV []),ec.2.2)
     else
      aq0 (rn N ec.1.cV (aW.mk bA ec.2.1)) fun gf=>
      aqV (0,(dK.mk ec.1.l ec.1.r gf []),ec.2.2)
    |aq7 hc=>
     aqV (hc.2.1,(dK.mk hc.1.l hc.1.r hc.1.cV []),hc.2.2)
def Il (N:Nat) (cj:aC) (cR:Int) (apt:Bool):Option Int:=
 if apt=aqW then
  aqV cj.c
 else
  aqV cR
def Qa (N:Nat) (x0:List aC) (aD:List aU) (bO:dK) (cK:Int) (DT:List (dx×Bool)):Option (Sum (dK×(List (dx×Bool))) (Int)):=
 aq0 (aR aD cK) fun bh=>
 aq0 (aR x0 bh.ak) fun bA=>
 if (bA.kind !=2)=aqW then
  aqV (aq8 ((dK.mk bO.l bO.r bO.cV []),DT))
 else
  aq0 (aR aD cK) fun bI=>
  aq0 (D6 N x0 bI) fun bU=>
  aq0 (Il N bA bA.b (bU==1)) fun b5=>
  aq0 (aR aD cK) fun ck=>
  aq0 (lL N N (dK.mk bO.l bO.r bO.cV []) ck.ak b5 DT) fun cG=>
  if (cG.1 !=0)=aqW then
   aqV (aq7 cG.1)
  else
   aqV (aq8 ((dK.mk cG.2.1.l cG.2.1.r cG.2.1.cV []),cG.2.2))
def sU (N:Nat) (x0:List aC) (aD:List aU):Nat->dK->Int->(List (dx×Bool))->Option (Sum (dK×(List (dx×Bool))) (Int))
 |0,_,_,_=>aqY
 |n+1,bO,cK,DT=>
  if (decide (cK<(aD.length:Int)))=aqW then
   aq0 (Qa N x0 aD (dK.mk bO.l bO.r bO.cV []) cK DT) fun cI=>
   match cI with
   |aq8 cz=>
    aS.lt (aq6 .i64 (cK+1)) fun c9=>
    sU N x0 aD n (dK.mk cz.1.l cz.1.r cz.1.cV []) c9 cz.2
   |aq7 dD=>
    aqV (aq7 dD)
  else
   aqV (aq8 ((dK.mk bO.l bO.r bO.cV []),DT))
def xb (N:Nat) (bO:dK):Nat->(List aW)->Int->Option (List aW)
 |0,_,_=>aqY
 |n+1,aY,ez=>
  if (decide (ez<(bO.cV.length:Int)))=aqW then
   aq0 (aR bO.cV ez) fun eN=>
   aq0 (rn N aY eN) fun ec=>
   aS.lt (aq6 .i64 (ez+1)) fun fq=>
   xb N bO n ec fq
  else
   aqV aY
def oE (N:Nat) (x0:List aC) (aD:List aU):Option (List aW×Int):=
 aq0 (D7 N x0 aD) fun a7=>
 if (a7.2 !=0)=aqW then
  aqV ([],a7.2)
 else
  aq0 (sU N x0 aD N (dK.mk x0 aD [] []) 0 []) fun dN=>
  match dN with
  |aq8 ek=>
   aq0 (xb N (dK.mk ek.1.l ek.1.r ek.1.cV []) N a7.1 0) fun fb=>
   aqV (fb,0)
  |aq7 gf=>
   aqV ([],gf)
def s3 (N:Nat) (x0:List bk) (aD:Int):Nat->Int->Option (Sum (Unit) (Int))
 |0,_=>aqY
 |n+1,bb=>
  if (decide (bb<(x0.length:Int)))=aqW then
   aq0 (aR x0 bb) fun a7=>
   if (a7.gS==aD)=aqW then
    aqV (aq7 bb)
   else
    aS.lt (aq6 .i64 (bb+1)) fun bh=>
    s3 N x0 aD n bh
  else
   aqV (aq8 ())
def AB (N:Nat) (x0:List bk) (aD:Int):Option Int:=
 aq0 (s3 N x0 aD N 0) fun bA=>
 match bA with
 |aq8 bI=>
  aqV (-1)
 |aq7 bU=>
  aqV bU
def sI (N:Nat) (x0:List aW) (aD:List aW):Nat->Int->Option (Sum (Unit) (Bool))
 |0,_=>aqY
 |n+1,bb=>
  if (decide (bb<(x0.length:Int)))=aqW then
   aq0 (aR x0 bb) fun a7=>
   aq0 (aR aD bb) fun bh=>
   if (!(decide (a7=bh)))=aqW then
    aqV (aq7 aqZ)
   else
    aS.lt (aq6 .i64 (bb+1)) fun bA=>
    sI N x0 aD n bA
  else
   aqV (aq8 ())
def D1 (N:Nat) (x0:List aW) (aD:List aW):Option Bool:=
 if ((x0.length:Int) !=(aD.length:Int))=aqW then
  aqV aqZ
 else
  aq0 (sI N x0 aD N 0) fun bI=>
  match bI with
  |aq8 bU=>
   aqV aqW
  |aq7 b5=>
   aqV b5
def sO (N:Nat) (b9:bk) (bH:bk):Nat->Int->Option (Sum (Unit) (Bool))
 |0,_=>aqY
 |n+1,bb=>
  if (decide (bb<(b9.eJ.length:Int)))=aqW then
   aq0 (aR b9.eJ bb) fun a7=>
   aq0 (rm N bH.eJ a7.ak) fun bh=>
   if bh=aqW then
    aqV (aq7 aqW)
   else
    aS.lt (aq6 .i64 (bb+1)) fun bA=>
    sO N b9 bH n bA
  else
   aqV (aq8 ())
def Ig (N:Nat) (b9:bk) (bH:bk) (aY:Int) (bF:Int):Option Bool:=
 aq0 (aR b9.dU aY) fun b5=>
 aq0 (aR bH.dU bF) fun ck=>
 if (b5.ak==ck.ak)=aqW then
  aq0 (aR b9.dU aY) fun cG=>
  aq0 (aR bH.dU bF) fun cI=>
  aqV (cG.ej !=cI.ej)
 else
  aqV aqZ
def sQ (N:Nat) (b9:bk) (bH:bk) (aY:Int):Nat->Int->Option (Sum (Unit) (Bool))
 |0,_=>aqY
 |n+1,bF=>
  if (decide (bF<(bH.dU.length:Int)))=aqW then
   aq0 (Ig N b9 bH aY bF) fun cz=>
   if cz=aqW then
    aqV (aq7 aqW)
   else
    aS.lt (aq6 .i64 (bF+1)) fun c9=>
    sQ N b9 bH aY n c9
  else
   aqV (aq8 ())
def sP (N:Nat) (b9:bk) (bH:bk):Nat->Int->Option (Sum (Unit) (Bool))
 |0,_=>aqY
 |n+1,aY=>
  if (decide (aY<(b9.dU.length:Int)))=aqW then
   aq0 (sQ N b9 bH aY N 0) fun dD=>
   match dD with
   |aq8 dN=>
    aS.lt (aq6 .i64 (aY+1)) fun ek=>
    sP N b9 bH n ek
   |aq7 eN=>
    aqV (aq7 eN)
  else
   aqV (aq8 ())
def D8 (N:Nat) (x0:bk) (aD:bk):Option Bool:=
 aq0 (sO N x0 aD N 0) fun bI=>
 match bI with
 |aq8 bU=>
  aq0 (sP N x0 aD N 0) fun ec=>
  match ec with
  |aq8 fq=>
   aqV aqZ
  |aq7 fb=>
   aqV fb
 |aq7 gf=>
  aqV gf
def HS (N:Nat) (x0:List aC) (aD:List bk):Option Bool:=
 aq0 (vb N x0) fun a7=>
 if (a7 !=0)=aqW then
  aqV aqW
 else
  aqV (decide (16<(aD.length:Int)))
def HT (N:Nat) (aD:List bk) (bb:Int) (aY:List aW) (bF:Int):Option Bool:=
 aq0 (aR aD bb) fun bU=>
 if (decide (bU.gS<0))=aqW then
  aqV aqW
 else
  aq0 (aR aD bb) fun b5=>
  aq0 (AB N aD b5.gS) fun ck=>
  if (ck !=bb)=aqW then
   aqV aqW
  else
   if (bF !=0)=aqW then
    aqV aqW
   else
    aq0 (aR aD bb) fun cG=>
    aq0 (D1 N cG.dU aY) fun cI=>
    aqV (!cI)
def xh (N:Nat) (aD:List bk) (bb:Int):Nat->Int->Option (Sum (Unit) (Bool))
 |0,_=>aqY
 |n+1,bO=>
  if (decide (bO<bb))=aqW then
   aq0 (aR aD bO) fun c9=>
   aq0 (aR aD bb) fun dD=>
   aq0 (D8 N c9 dD) fun dN=>
   if dN=aqW then
    aqV (aq7 aqZ)
   else
    aS.lt (aq6 .i64 (bO+1)) fun ek=>
    xh N aD bb n ek
  else
   aqV (aq8 ())
def s0 (N:Nat) (x0:List aC) (aD:List bk):Nat->Int->Option (Sum (Unit) (Bool))
 |0,_=>aqY
 |n+1,bb=>
  if (decide (bb<(aD.length:Int)))=aqW then
   aq0 (aR aD bb) fun bA=>
   aq0 (oE N x0 bA.eJ) fun bI=>
   aq0 (HT N aD bb bI.1 bI.2) fun cz=>
   if cz=aqW then
    aqV (aq7 aqZ)
   else
    aq0 (xh N aD bb N 0) fun eN=>
    match eN with
    |aq8 ec=>
     aS.lt (aq6 .i64 (bb+1)) fun fq=>
     s0 N x0 aD n fq
    |aq7 fb=>
     aqV (aq7 fb)
  else
   aqV (aq8 ())
def I9 (N:Nat) (x0:List aC) (aD:List bk):Option Bool:=
 aq0 (HS N x0 aD) fun bh=>
 if bh=aqW then
  aqV aqZ
 else
  aq0 (s0 N x0 aD N 0) fun gf=>
  match gf with
  |aq8 hc=>
   aqV aqW
  |aq7 jo=>
   aqV jo
def Ed (N:Nat) (x0:List aC) (aD:List bk):Option Int:=
 aq0 (vb N x0) fun a7=>
 if (a7 !=0)=aqW then
  aqV a7
 else
  aq0 (I9 N x0 aD) fun bh=>
  if (!bh)=aqW then
   aqV 1
  else
   aqV 0
def xe (N:Nat) (x0:List bk):Nat->(List bk)->Int->Option (List bk)
 |0,_,_=>aqY
 |n+1,bH,b2=>
  if (decide (b2<(x0.length:Int)))=aqW then
   aq0 (aR x0 b2) fun a7=>
   aq0 (aR x0 b2) fun bh=>
   aq0 (dP ([]:List aU) bh.eJ) fun bA=>
   aq0 (aR x0 b2) fun bI=>
   aq0 (dP ([]:List aW) bI.dU) fun bU=>
   aq0 (dP bH ([(bk.mk a7.gS bA bU)]:List bk)) fun b5=>
   aS.lt (aq6 .i64 (b2+1)) fun ck=>
   xe N x0 n b5 ck
  else
   aqV bH
def Eb (N:Nat) (x0:List bk):Option (List bk):=
 aq0 (xe N x0 N [] 0) fun cG=>
 aqV cG
def I3 (N:Nat) (x0:List aC) (aD:List bk) (b9:Int):Option (List bk×Int):=
 aq0 (Ed N x0 aD) fun a7=>
 if (a7 !=0)=aqW then
  aqV ([],a7)
 else
  aq0 (AB N aD b9) fun bh=>
  if (decide (bh<0))=aqW then
   aqV ([],13)
  else
   aq0 (Eb N aD) fun bA=>
   aq0 (uL bA bh bh) fun bI=>
   aq0 (fX bA (aq6 .i64 (bh+1)) (bA.length:Int)) fun bU=>
   aq0 (dP bI bU) fun b5=>
   if bU.isEmpty=aqW then
    aqV (b5,0)
   else
    aqV (b5,0)
def Ef (N:Nat) (x0:List aC) (aD:aU):Option (List Int):=
 if (decide (aD.bp<0))=aqW then
  aq0 (pA N x0 aD.ak) fun a7=>
  aqV a7
 else
  aq0 (xO N x0 aD.ak aD.bp) fun bh=>
  aqV bh
def DD (N:Nat) (bO:Int) (cK:Bool) (fp:Int) (ez:Bool):Option Bool:=
 if ez=aqW then
  if (!cK)=aqW then
   aqV aqW
  else
   aqV (decide (fp<bO))
 else
  aqV aqZ
def H4 (N:Nat) (x0:List aC) (aD:List (Step×Int)) (bb:aU) (bO:Int) (cK:Bool) (cj:List Int) (cR:Int):Option (Int×Bool):=
 aq0 (aR cj cR) fun bh=>
 aq0 (aR cj cR) fun bA=>
 aq0 (rl N x0 bb.ak bA) fun bI=>
 aq0 (aR cj cR) fun bU=>
 aq0 (aR cj cR) fun b5=>
 aS.lt (bw aD (Step.mk bI b5)) fun ck=>
 aS.lt (ck.getD 0) fun cG=>
 aq0 (DD N bO cK cG ck.isSome) fun cI=>
 if cI=aqW then
  aqV (cG,aqW)
 else
  aqV (bO,cK)
def xl (N:Nat) (x0:List aC) (aD:List (Step×Int)) (bb:aU) (cj:List Int):Nat->Int->Bool->Int->Option (Int×Bool)
 |0,_,_,_=>aqY
 |n+1,bO,cK,cR=>
  if (decide (cR<(cj.length:Int)))=aqW then
   aq0 (H4 N x0 aD bb bO cK cj cR) fun cz=>
   aS.lt (aq6 .i64 (cR+1)) fun c9=>
   xl N x0 aD bb cj n cz.1 cz.2 c9
  else
   aqV (bO,cK)
def Ee (N:Nat) (x0:List aC) (aD:List (Step×Int)) (b9:aU):Option (Int×Bool):=
 aq0 (Ef N x0 b9) fun a7=>
 aq0 (xl N x0 aD b9 a7 N 0 aqZ 0) fun dD=>
 aqV (dD.1,dD.2)
def w6 (N:Nat) (aD:Int) (aY:List Int):Nat->(List (Step×Int))->Int->Option (List (Step×Int))
 |0,_,_=>aqY
 |n+1,bb,bF=>
  if (decide (bF<(aY.length:Int)))=aqW then
   aq0 (aR aY bF) fun bh=>
   aq0 (aR aY bF) fun bA=>
   aS.lt (dA bb (Step.mk aD bA) 0) fun bI=>
   aS.lt (aq6 .i64 (bF+1)) fun bU=>
   w6 N aD aY n bI bU
  else
   aqV bb
def Dz (N:Nat) (fp:Int) (ez:Bool) (eh:Int) (e4:Bool):Option Bool:=
 if ez=aqW then
  if (!e4)=aqW then
   aqV aqW
  else
   aqV (decide ((aq6 .i64 (fp+1))<eh))
 else
  aqV aqZ
def HG (N:Nat) (x0:List aC) (aD:Int) (bb:List (Step×Int)) (bO:Bool) (cK:Int) (cj:List Int) (cR:Int):Option ((List (Step×Int))×Bool):=
 if (cK==aD)=aqW then
  aqV (bb,bO)
 else
  aq0 (aR cj cR) fun cG=>
  aq0 (aR cj cR) fun cI=>
  aq0 (Ee N x0 bb (aU.mk cK cI 0)) fun cz=>
  aq0 (aR cj cR) fun c9=>
  aq0 (aR cj cR) fun dD=>
  aS.lt (bw bb (Step.mk cK dD)) fun dN=>
  aS.lt (dN.getD 0) fun ek=>
  aq0 (Dz N cz.1 cz.2 ek dN.isSome) fun eN=>
  if eN=aqW then
   aq0 (aR cj cR) fun ec=>
   aq0 (aR cj cR) fun fq=>
   aS.lt (dA bb (Step.mk cK fq) (aq6 .i64 (cz.1+1))) fun fb=>
   aqV (fb,aqW)
  else
   aqV (bb,bO)
def w8 (N:Nat) (x0:List aC) (aD:Int) (cK:Int) (cj:List Int):Nat->(List (Step×Int))->Bool->Int->Option ((List (Step×Int))×Bool)
 |0,_,_,_=>aqY
 |n+1,bb,bO,cR=>
  if (decide (cR<(cj.length:Int)))=aqW then
   aq0 (HG N x0 aD bb bO cK cj cR) fun gf=>
   aS.lt (aq6 .i64 (cR+1)) fun hc=>
   w8 N x0 aD cK cj n gf.1 gf.2 hc
  else
   aqV (bb,bO)
def w7 (N:Nat) (x0:List aC) (aD:Int):Nat->(List (Step×Int))->Bool->Int->Option ((List (Step×Int))×Bool)
 |0,_,_,_=>aqY
 |n+1,bb,bO,cK=>
  if (decide (cK<(x0.length:Int)))=aqW then
   aq0 (pA N x0 cK) fun ck=>
   aq0 (w8 N x0 aD cK ck N bb bO 0) fun jo=>
   aS.lt (aq6 .i64 (cK+1)) fun jd=>
   w7 N x0 aD n jo.1 jo.2 jd
  else
   aqV (bb,bO)
def zS (N:Nat) (x0:List aC) (aD:Int):Nat->(List (Step×Int))->Bool->Option (List (Step×Int))
 |0,_,_=>aqY
 |n+1,bb,bO=>
  if bO=aqW then
   aq0 (w7 N x0 aD N bb aqZ 0) fun ib=>
   zS N x0 aD n ib.1 ib.2
  else
   aqV bb
def I2 (N:Nat) (x0:List aC) (aD:Int):Option ((List (Step×Int))):=
 aq0 (pA N x0 aD) fun a7=>
 aq0 (w6 N aD a7 N [] 0) fun b5=>
 aq0 (zS N x0 aD N b5 aqW) fun kI=>
 aqV kI
def H0 (N:Nat) (x0:List aC) (aD:Int) (b9:Int):Option Bool:=
 aq0 (xT N x0 aD) fun bh=>
 if (!bh)=aqW then
  aqV aqW
 else
  aq0 (xT N x0 b9) fun bA=>
  if (!bA)=aqW then
   aqV aqW
  else
   aqV (aD==b9)
def H3 (N:Nat) (cj:aU) (cR:Int) (eh:List Int) (e4:Int) (eK:Int) (hQ:Int) (xE:Int) (qq:Bool):Option Bool:=
 if qq=aqW then
  if (xE==cR)=aqW then
   if (decide (e4<0))=aqW then
    aqV aqW
   else
    if (decide (hQ<e4))=aqW then
     aqV aqW
    else
     if (hQ==e4)=aqW then
      aq0 (aR eh eK) fun eN=>
      aq0 (aR eh eK) fun ec=>
      aqV (decide (ec<cj.out))
     else
      aqV aqZ
  else
   aqV aqZ
 else
  aqV aqZ
def H2 (N:Nat) (x0:List aC) (cK:List (Step×Int)) (cj:aU) (cR:Int) (eh:List Int) (e4:Int) (eK:Int):Option (aU×Int):=
 aq0 (aR eh eK) fun cG=>
 aq0 (aR eh eK) fun cI=>
 aq0 (rl N x0 cj.ak cI) fun cz=>
 aq0 (aR eh eK) fun c9=>
 aq0 (aR eh eK) fun dD=>
 aS.lt (bw cK (Step.mk cz dD)) fun dN=>
 aS.lt (dN.getD 0) fun ek=>
 aq0 (H3 N cj cR eh e4 eK cz ek dN.isSome) fun fq=>
 if fq=aqW then
  aq0 (aR eh eK) fun fb=>
  aq0 (aR eh eK) fun gf=>
  aqV ((aU.mk cj.ak cj.bp gf),cz)
 else
  aqV (cj,e4)
def xk (N:Nat) (x0:List aC) (cK:List (Step×Int)) (cR:Int) (eh:List Int):Nat->aU->Int->Int->Option (aU×Int)
 |0,_,_,_=>aqY
 |n+1,cj,e4,eK=>
  if (decide (eK<(eh.length:Int)))=aqW then
   aq0 (H2 N x0 cK cj cR eh e4 eK) fun hc=>
   aS.lt (aq6 .i64 (eK+1)) fun jo=>
   xk N x0 cK cR eh n hc.1 hc.2 jo
  else
   aqV (cj,e4)
def xj (N:Nat) (x0:List aC) (cK:List (Step×Int)):Nat->aU->Int->(List aU)->Option (Sum (aU×List aU) (Int))
 |0,_,_,_=>aqY
 |n+1,cj,cR,ez=>
  if (decide (0<=cR))=aqW then
   aq0 (Ef N x0 (aU.mk cj.ak cj.bp (-1))) fun ck=>
   aq0 (xk N x0 cK cR ck N (aU.mk cj.ak cj.bp (-1)) (-1) 0) fun jd=>
   aq0 (rm N ez jd.1.ak) fun ib=>
   if ib=aqW then
    aqV (aq7 17)
   else
    aq0 (dP ez ([jd.1]:List aU)) fun kI=>
    aS.lt (aq6 .i64 (cR - 1)) fun jq=>
    xj N x0 cK n (aU.mk jd.2 jd.1.out 0) jq kI
  else
   aqV (aq8 (cj,ez))
def nH (N:Nat) (x0:List aC) (aD:Int) (b9:Int):Option (List aU×Int):=
 aq0 (vb N x0) fun a7=>
 if (a7 !=0)=aqW then
  aqV ([],a7)
 else
  aq0 (H0 N x0 aD b9) fun bI=>
  if bI=aqW then
   aqV ([],2)
  else
   aq0 (I2 N x0 b9) fun bU=>
   aq0 (Ee N x0 bU (aU.mk aD (-1) 0)) fun b5=>
   if (!b5.2)=aqW then
    aqV ([],15)
   else
    aq0 (xj N x0 bU N (aU.mk aD (-1) 0) b5.1 []) fun k8=>
    match k8 with
    |aq8 mP=>
     aq0 (rm N mP.2 b9) fun oD=>
     if oD=aqW then
      aqV ([],17)
     else
      aq0 (dP mP.2 ([(aU.mk b9 mP.1.bp (-1))]:List aU)) fun qs=>
      aqV (qs,0)
    |aq7 rk=>
     aqV ([],rk)
def s4 (N:Nat) (aD:List bk) (eK:bk):Nat->Int->Option (Sum (Unit) (Int))
 |0,_=>aqY
 |n+1,hQ=>
  if (decide (hQ<(aD.length:Int)))=aqW then
   aq0 (aR aD hQ) fun cG=>
   aq0 (D8 N cG eK) fun cI=>
   if cI=aqW then
    aqV (aq7 23)
   else
    aS.lt (aq6 .i64 (hQ+1)) fun cz=>
    s4 N aD eK n cz
  else
   aqV (aq8 ())
def AF (N:Nat) (x0:List aC) (aD:List bk) (b9:Int) (bH:Int) (b2:Int):Option (List bk×Int):=
 aq0 (Ed N x0 aD) fun a7=>
 if (a7 !=0)=aqW then
  aqV ([],a7)
 else
  aS.lt (decide (b9<0)) fun bh=>
  if bh=aqW then
   aqV ([],2)
  else
   aq0 (AB N aD b9) fun bA=>
   aS.lt (decide (0<=bA)) fun bI=>
   if bI=aqW then
    aqV ([],8)
   else
    aS.lt ((aD.length:Int)==16) fun bU=>
    if bU=aqW then
     aqV ([],18)
    else
     aq0 (nH N x0 bH b2) fun b5=>
     if (b5.2 !=0)=aqW then
      aqV ([],b5.2)
     else
      aq0 (oE N x0 b5.1) fun ck=>
      if (ck.2 !=0)=aqW then
       aqV ([],ck.2)
      else
       aq0 (s4 N aD (bk.mk b9 b5.1 ck.1) N 0) fun c9=>
       match c9 with
       |aq8 dD=>
        aq0 (Eb N aD) fun dN=>
        aq0 (dP dN ([(bk.mk b9 b5.1 ck.1)]:List bk)) fun ek=>
        aqV (ek,0)
       |aq7 eN=>
        aqV ([],eN)
def Qd (N:Nat) (x0:List aC) (aD:List Act) (bb:List bk) (aY:Int) (bF:List bk) (bO:Int) (apq:Bool):Option (List bk×Int):=
 if apq=aqW then
  aq0 (aR aD aY) fun bI=>
  aq0 (aR aD aY) fun bU=>
  aq0 (aR aD aY) fun b5=>
  aq0 (AF N x0 bb bI.id bU.from_ b5.to) fun ck=>
  aqV (ck.1,ck.2)
 else
  aqV (bF,bO)
def Iq (N:Nat) (x0:List aC) (aD:List Act) (bb:List bk) (aY:Int):Option (List bk):=
 aq0 (aR aD aY) fun a7=>
 aq0 (I3 N x0 bb a7.id) fun bh=>
 aq0 (aR aD aY) fun bA=>
 aq0 (Qd N x0 aD bb aY bh.1 bh.2 bA.set) fun cG=>
 if (cG.2==0)=aqW then
  aqV cG.1
 else
  aqV bb
def xd (N:Nat) (x0:List aC) (aD:List Act):Nat->(List bk)->Int->Option (List bk)
 |0,_,_=>aqY
 |n+1,bb,aY=>
  if (decide (aY<(aD.length:Int)))=aqW then
   aq0 (Iq N x0 aD bb aY) fun cI=>
   aS.lt (aq6 .i64 (aY+1)) fun cz=>
   xd N x0 aD n cI cz
  else
   aqV bb
def Az (N:Nat) (x0:List aC) (aD:List Act):Option (List bk):=
 aq0 (xd N x0 aD N [] 0) fun c9=>
 aqV c9
def Qf (N:Nat) (b2:Int) (bb:Bool):Option Bool:=
 if bb=aqW then
  aqV bb
 else
  aS.lt (b2==3) fun bh=>
  aqV bh
def xQ (N:Nat) (x0:aC):Option (List Int):=
 aS.lt (x0.kind==1) fun a7=>
 aq0 (Qf N x0.kind a7) fun bA=>
 if bA=aqW then
  aqV ([x0.a,x0.b]:List Int)
 else
  aS.lt (x0.kind==2) fun bI=>
  if bI=aqW then
   aqV ([x0.a,x0.b,x0.c]:List Int)
  else
   aqV []
def Qg (N:Nat) (x0:List UInt8):Option Bool:=
 if (decide ((x0.length:Int)<1))=aqW then
  aqV aqW
 else
  aqV (decide (12<(x0.length:Int)))
def Ir (N:Nat) (x0:List UInt8) (bH:Int):Option Bool:=
 aq0 (aR x0 bH) fun bh=>
 if (decide ((ash bh:Int)<97))=aqW then
  aq0 (aR x0 bH) fun bA=>
  if (decide ((ash bA:Int)<48))=aqW then
   aqV aqW
  else
   aq0 (aR x0 bH) fun bI=>
   aqV (decide (57<(ash bI:Int)))
 else
  aq0 (aR x0 bH) fun bU=>
  if (decide (122<(ash bU:Int)))=aqW then
   aq0 (aR x0 bH) fun b5=>
   if (decide ((ash b5:Int)<48))=aqW then
    aqV aqW
   else
    aq0 (aR x0 bH) fun ck=>
    aqV (decide (57<(ash ck:Int)))
  else
   aqV aqZ
def uY (N:Nat) (x0:List UInt8) (ez:Int):Nat->Int->Option (Sum (Unit) (Bool))
 |0,_=>aqY
 |n+1,eh=>
  if (decide (eh<ez))=aqW then
   aq0 (Ir N x0 eh) fun cG=>
   if cG=aqW then
    aqV (aq7 aqZ)
   else
    uY N x0 ez n (aq6 .i64 (eh+1))
  else
   aqV (aq8 ())
def I7 (N:Nat) (x0:List UInt8):Option Bool:=
 aq0 (Qg N x0) fun a7=>
 if a7=aqW then
  aqV aqZ
 else
  aq0 (uY N x0 (x0.length:Int) N 0) fun cI=>
  match cI with
  |aq8 cz=>
   aqV aqW
  |aq7 c9=>
   aqV c9
def PK (N:Nat) (aD:aC) (bH:List Int):Option Bool:=
 o9 bH fun bh=>
 if bh=aqW then
  aqV aqW
 else
  aq0 (I7 N aD.name) fun bA=>
  aqV (!bA)
def PL (N:Nat) (bb:Int):Option Bool:=
 if (decide (bb<0))=aqW then
  aqV aqW
 else
  aqV (decide (64<=bb))
def sN (N:Nat) (bb:Int) (xF:List Int) (ZU:Int):Nat->Int->Option (Sum (Unit) (Bool))
 |0,_=>aqY
 |n+1,Ap=>
  if (decide (Ap<ZU))=aqW then
   aq0 (aR xF Ap) fun cG=>
   if (bb==cG)=aqW then
    aqV (aq7 aqZ)
   else
    sN N bb xF ZU n (aq6 .i64 (Ap+1))
  else
   aqV (aq8 ())
def sM (N:Nat) (bH:List Int) (xE:List Int) (qq:Int):Nat->Int->Option (Sum (Unit) (Bool))
 |0,_=>aqY
 |n+1,k7=>
  if (decide (k7<qq))=aqW then
   aq0 (aR xE k7) fun bU=>
   aq0 (PL N bU) fun b5=>
   if b5=aqW then
    aqV (aq7 aqZ)
   else
    aq0 (fX bH 0 k7) fun ck=>
    aq0 (sN N bU ck (ck.length:Int) N 0) fun cI=>
    match cI with
    |aq8 cz=>
     sM N bH xE qq n (aq6 .i64 (k7+1))
    |aq7 c9=>
     aqV (aq7 c9)
  else
   aqV (aq8 ())
def PM (N:Nat) (aD:aC):Option Bool:=
 if (aD.c==0)=aqW then
  if (decide (1<=aD.length))=aqW then
   aS.lt (decide (aD.length<=100000)) fun ek=>
   aqV ek
  else
   aqV aqZ
 else
  aqV aqZ
def PN (N:Nat) (aD:aC):Option Bool:=
 if (aD.length==0)=aqW then
  if (aD.kind==2)=aqW then
   aqV aqW
  else
   aS.lt (aD.c==0) fun ec=>
   aqV ec
 else
  aqV aqZ
def I1 (N:Nat) (x0:aC):Option Bool:=
 aq0 (xQ N x0) fun a7=>
 aq0 (PK N x0 a7) fun bI=>
 if bI=aqW then
  aqV aqZ
 else
  aq0 (sM N a7 a7 (a7.length:Int) N 0) fun dD=>
  match dD with
  |aq8 dN=>
   if (x0.kind==1)=aqW then
    aq0 (PM N x0) fun eN=>
    aqV eN
   else
    aq0 (PN N x0) fun fq=>
    aqV fq
  |aq7 fb=>
   aqV fb
def PH (N:Nat) (b2:Int) (bb:Bool):Option Bool:=
 if bb=aqW then
  aqV bb
 else
  aS.lt (b2==3) fun bh=>
  aqV bh
def IZ (N:Nat) (x0:aC):Option Unit:=
 aS.lt (x0.kind==1) fun a7=>
 aq0 (PH N x0.kind a7) fun bA=>
 if bA=aqW then
  aqY
 else
  aS.lt (x0.kind==2) fun bI=>
  if bI=aqW then
   aqY
  else
   aqV ()
def PJ (N:Nat):Option Bool:=
 aqV aqW
def Zp (N:Nat) (qq:Int):Nat->Int->Option Unit
 |0,_=>aqY
 |n+1,k7=>
  if (decide (k7<qq))=aqW then
   aqY
  else
   aqV ()
def Zq (N:Nat) (aD:aC):Option Bool:=
 if (aD.c==0)=aqW then
  if (decide (1<=aD.length))=aqW then
   aS.lt (decide (aD.length<=100000)) fun bI=>
   aqV bI
  else
   aqV aqZ
 else
  aqV aqZ
def Zr (N:Nat) (aD:aC):Option Bool:=
 if (aD.length==0)=aqW then
  if (aD.kind==2)=aqW then
   aqV aqW
  else
   aS.lt (aD.c==0) fun b5=>
   aqV b5
 else
  aqV aqZ
def QY (N:Nat) (x0:aC):Option Bool:=
 aq0 (IZ N x0) fun a7=>
 aq0 (PJ N) fun bh=>
 if bh=aqW then
  aqV aqZ
 else
  aq0 (Zp N (([]:List Int).length:Int) N 0) fun bA=>
  if (x0.kind==1)=aqW then
   aq0 (Zq N x0) fun bU=>
   aqV bU
  else
   aq0 (Zr N x0) fun ck=>
   aqV ck
def QZ (N:Nat) (x0:aC):Option Bool:=
 F4 (QY N x0) (I1 N x0)
def sT (N:Nat) (QG:List Int) (ZT:Int):Nat->(List (Int×Int))->Int->Option (Sum ((List (Int×Int))) (Int))
 |0,_,_=>aqY
 |n+1,b2,xF=>
  if (decide (xF<ZT))=aqW then
   aq0 (aR QG xF) fun b5=>
   aq0 (aR QG xF) fun ck=>
   aS.lt (bw b2 ck) fun cG=>
   if ((cG.getD 0)==2)=aqW then
    aqV (aq7 17)
   else
    aS.lt (bw b2 ck) fun cI=>
    aS.lt (dA b2 ck (aq6 .i64 ((cI.getD 0)+1))) fun cz=>
    sT N QG ZT n cz (aq6 .i64 (xF+1))
  else
   aqV (aq8 b2)
def zV (N:Nat) (eh:List aC) (e4:Int):Nat->(List ((List UInt8)×Bool))->(List (Int×Int))->Int->Option (Sum (Unit) (Int))
 |0,_,_,_=>aqY
 |n+1,bH,b2,eK=>
  if (decide (eK<e4))=aqW then
   aq0 (aR eh eK) fun a7=>
   aq0 (QZ N a7) fun bh=>
   if (!bh)=aqW then
    aqV (aq7 1)
   else
    aS.lt (bw bH a7.name) fun bA=>
    if (bA.getD aqZ)=aqW then
     aqV (aq7 8)
    else
     aS.lt (dA bH a7.name aqW) fun bI=>
     aq0 (xQ N a7) fun bU=>
     aq0 (sT N bU (bU.length:Int) N b2 0) fun c9=>
     match c9 with
     |aq8 dD=>
      zV N eh e4 n bI dD (aq6 .i64 (eK+1))
     |aq7 dN=>
      aqV (aq7 dN)
  else
   aqV (aq8 ())
def tk (N:Nat) (x0:List aC):Option Int:=
 if (decide (96<(x0.length:Int)))=aqW then
  aqV 3
 else
  aq0 (zV N x0 (x0.length:Int) N [] [] 0) fun ek=>
  match ek with
  |aq8 eN=>
   aqV 0
  |aq7 ec=>
   aqV ec
def Im (N:Nat) (x0:List aC) (aD:Int):Option Bool:=
 if (decide (0<=aD))=aqW then
  if (decide (aD<(x0.length:Int)))=aqW then
   aq0 (aR x0 aD) fun a7=>
   aS.lt (a7.kind==1) fun bh=>
   aqV bh
  else
   aqV aqZ
 else
  aqV aqZ
def u9 (N:Nat) (x0:List aC) (aD:Int):Option Bool:=
 aq0 (Im N x0 aD) fun bA=>
 aqV bA
def Qe (N:Nat) (x0:List aC) (aD:Int):Option Bool:=
 if (decide (aD<0))=aqW then
  aqV aqW
 else
  aqV (decide ((x0.length:Int)<=aD))
def va (N:Nat) (x0:List aC) (aD:Int):Option (List Int):=
 aq0 (Qe N x0 aD) fun a7=>
 if a7=aqW then
  aqV []
 else
  aq0 (aR x0 aD) fun bh=>
  aq0 (xQ N bh) fun bA=>
  aqV bA
def uV (N:Nat) (x0:List Int) (aD:Int) (bF:Int):Nat->Int->Option (Sum (Unit) (Int))
 |0,_=>aqY
 |n+1,bO=>
  if (decide (bO<bF))=aqW then
   aq0 (aR x0 bO) fun a7=>
   if (aD==a7)=aqW then
    aqV (aq7 bO)
   else
    uV N x0 aD bF n (aq6 .i64 (bO+1))
  else
   aqV (aq8 ())
def QV (N:Nat) (x0:List Int) (aD:Int):Option Int:=
 aq0 (uV N x0 aD (x0.length:Int) N 0) fun bh=>
 match bh with
 |aq8 bA=>
  aqV (-1)
 |aq7 bI=>
  aqV bI
def Au (N:Nat) (x0:List Int) (aD:Int):Option Bool:=
 aq0 (QV N x0 aD) fun a7=>
 aS.lt (decide (0<=a7)) fun bh=>
 aqV bh
def sK (N:Nat) (b9:Int) (bF:Int) (kp:List Int) (py:Int):Nat->Int->Option (Sum (Unit) (Int))
 |0,_=>aqY
 |n+1,td=>
  if (decide (td<py))=aqW then
   aq0 (aR kp td) fun bA=>
   aq0 (aR kp td) fun bI=>
   if (bI==b9)=aqW then
    aqV (aq7 bF)
   else
    sK N b9 bF kp py n (aq6 .i64 (td+1))
  else
   aqV (aq8 ())
def PX (N:Nat) (aD:Int) (b9:Int) (cR:List aC) (ez:Int):Option (Sum (Unit) (Int)):=
 aq0 (aR cR ez) fun a7=>
 if (ez==aD)=aqW then
  aqV (aq8 ())
 else
  aq0 (xQ N a7) fun bh=>
  aq0 (sK N b9 ez bh (bh.length:Int) N 0) fun bU=>
  match bU with
  |aq8 b5=>
   aqV (aq8 ())
  |aq7 ck=>
   aqV (aq7 ck)
def uW (N:Nat) (aD:Int) (b9:Int) (cR:List aC) (fp:Int):Nat->Int->Option (Sum (Unit) (Int))
 |0,_=>aqY
 |n+1,ez=>
  if (decide (ez<fp))=aqW then
   aq0 (PX N aD b9 cR ez) fun cG=>
   match cG with
   |aq8 cI=>
    uW N aD b9 cR fp n (aq6 .i64 (ez+1))
   |aq7 cz=>
    aqV (aq7 cz)
  else
   aqV (aq8 ())
def xM (N:Nat) (x0:List aC) (aD:Int) (b9:Int):Option Int:=
 aq0 (uW N aD b9 x0 (x0.length:Int) N 0) fun c9=>
 match c9 with
 |aq8 dD=>
  aqV (-1)
 |aq7 dN=>
  aqV dN
def l7 (N:Nat) (b9:Int) (eh:Int):Nat->(List Int)->Int->Option (Sum (Unit) (List Int))
 |0,_,_=>aqY
 |n+1,bF,e4=>
  if (decide (e4<eh))=aqW then
   aq0 (aR bF e4) fun bh=>
   aq0 (aR bF e4) fun bA=>
   if (bA !=b9)=aqW then
    l7 N b9 eh n bF (aq6 .i64 (e4+1))
   else
    aS.lt (decide (0<e4)) fun bI=>
    if bI=aqW then
     aq0 (aR bF 0) fun bU=>
     aq0 (aR bF 0) fun b5=>
     aqV (aq7 ([b5]:List Int))
    else
     aq0 (fX bF 1 (bF.length:Int)) fun ck=>
     aqV (aq7 ck)
  else
   aqV (aq8 ())
def Ax (N:Nat) (x0:List aC) (aD:Int) (b9:Int):Option (List Int):=
 aq0 (va N x0 aD) fun a7=>
 aq0 (l7 N b9 (a7.length:Int) N a7 0) fun cG=>
 match cG with
 |aq8 cI=>
  aqV []
 |aq7 cz=>
  aqV cz
def zY (N:Nat) (x0:List aC) (aD:List aU) (bb:Int):Option Bool:=
 if (decide (bb<1))=aqW then
  aqV aqW
 else
  aq0 (aR aD 0) fun bh=>
  aq0 (u9 N x0 bh.ak) fun bA=>
  if (!bA)=aqW then
   aqV aqW
  else
   aq0 (aR aD bb) fun bI=>
   aq0 (u9 N x0 bI.ak) fun bU=>
   if (!bU)=aqW then
    aqV aqW
   else
    aq0 (aR aD 0) fun b5=>
    if (b5.bp !=(-1))=aqW then
     aqV aqW
    else
     aq0 (aR aD bb) fun ck=>
     aqV (ck.out !=(-1))
def HU (N:Nat) (x0:List aC) (aD:List aU) (bb:Int):Option Bool:=
 aq0 (aR aD 0) fun cI=>
 aq0 (va N x0 cI.ak) fun cz=>
 aq0 (aR aD 0) fun c9=>
 aq0 (Au N cz c9.out) fun dD=>
 if (!dD)=aqW then
  aqV aqW
 else
  aq0 (aR aD bb) fun dN=>
  aq0 (va N x0 dN.ak) fun ek=>
  aq0 (aR aD bb) fun eN=>
  aq0 (Au N ek eN.bp) fun ec=>
  aqV (!ec)
def HV (N:Nat) (x0:List aC) (bF:aU) (bO:aU):Option Bool:=
 if (bF.bp !=bO.out)=aqW then
  aqV aqW
 else
  if (decide (bF.ak<0))=aqW then
   aqV aqW
  else
   aq0 (xM N x0 bO.ak bO.out) fun jo=>
   aqV (jo !=bF.ak)
def HW (N:Nat) (x0:List aC) (bb:Int) (aY:Int) (bF:aU):Option Bool:=
 if (decide ((aq6 .i64 (aY+1))<bb))=aqW then
  aq0 (Ax N x0 bF.ak bF.bp) fun ib=>
  aq0 (Au N ib bF.out) fun kI=>
  aqV (!kI)
 else
  aqV aqZ
def uQ (N:Nat) (x0:List aC) (aD:List aU) (bb:Int) (Z1:List aU) (Z2:Int):Nat->Int->Option (Sum (Unit) (Bool))
 |0,_=>aqY
 |n+1,DW=>
  if (decide (DW<Z2))=aqW then
   aq0 (aR Z1 DW) fun gf=>
   aq0 (aR aD DW) fun hc=>
   aq0 (HV N x0 gf hc) fun jd=>
   if jd=aqW then
    aqV (aq7 aqZ)
   else
    aq0 (HW N x0 bb DW gf) fun jq=>
    if jq=aqW then
     aqV (aq7 aqZ)
    else
     uQ N x0 aD bb Z1 Z2 n (aq6 .i64 (DW+1))
  else
   aqV (aq8 ())
def Ja (N:Nat) (x0:List aC) (aD:List aU):Option Bool:=
 aS.lt (aq6 .i64 ((aD.length:Int) - 1)) fun a7=>
 aq0 (zY N x0 aD a7) fun cG=>
 if cG=aqW then
  aqV aqZ
 else
  aq0 (HU N x0 aD a7) fun fq=>
  if fq=aqW then
   aqV aqZ
  else
   aq0 (fX aD 1 (aD.length:Int)) fun fb=>
   aq0 (uQ N x0 aD a7 fb (fb.length:Int) N 0) fun k8=>
   match k8 with
   |aq8 mP=>
    aqV aqW
   |aq7 oD=>
    aqV oD
def sV (N:Nat) (bF:List aU) (bO:Int):Nat->(List (Int×Bool))->Int->Option (Sum (Unit) (Bool))
 |0,_,_=>aqY
 |n+1,bH,cK=>
  if (decide (cK<bO))=aqW then
   aq0 (aR bF cK) fun a7=>
   aS.lt (bw bH a7.ak) fun bh=>
   if (bh.getD aqZ)=aqW then
    aqV (aq7 aqW)
   else
    aS.lt (dA bH a7.ak aqW) fun bA=>
    sV N bF bO n bA (aq6 .i64 (cK+1))
  else
   aqV (aq8 ())
def Ea (N:Nat) (x0:List aU):Option Bool:=
 aq0 (sV N x0 (x0.length:Int) N [] 0) fun bI=>
 match bI with
 |aq8 bU=>
  aqV aqZ
 |aq7 b5=>
  aqV b5
def Qb (N:Nat) (x0:List aC) (aD:List aU):Option Bool:=
 aq0 (tk N x0) fun a7=>
 if (a7==0)=aqW then
  aq0 (Ja N x0 aD) fun bh=>
  if bh=aqW then
   aq0 (Ea N aD) fun bA=>
   aS.lt (!bA) fun bI=>
   aqV bI
  else
   aqV aqZ
 else
  aqV aqZ
def tl (N:Nat) (x0:List aC) (aD:List aU):Option Bool:=
 aq0 (Qb N x0 aD) fun bU=>
 aqV bU
def I0 (N:Nat) (x0:Int):Option Bool:=
 aS.lt (x0 !=x0) fun a7=>
 aqV a7
def Aw (N:Nat) (x0:Int) (aD:Int):Option Int:=
 aq0 (I0 N x0) fun a7=>
 aq0 (I0 N aD) fun bh=>
 if a7=aqW then
  if bh=aqW then
   aqV 0
  else
   aqV (-1)
 else
  if bh=aqW then
   aqV 1
  else
   if (decide (x0<aD))=aqW then
    aqV (-1)
   else
    if (decide (aD<x0))=aqW then
     aqV 1
    else
     aqV 0
def zQ (N:Nat) (bO:aU) (cK:aC):Option Bool:=
 if (cK.kind==2)=aqW then
  if (bO.bp==cK.b)=aqW then
   aqV aqW
  else
   aS.lt (bO.out==cK.b) fun b5=>
   aqV b5
 else
  aqV aqZ
def HF (N:Nat) (x0:List aC) (aY:List aW) (eh:List aU) (eK:Int):Option (List aW):=
 aq0 (aR eh eK) fun bh=>
 aq0 (aR x0 bh.ak) fun bA=>
 aS.lt (bA.kind==3) fun bI=>
 if bI=aqW then
  aq0 (dP aY ([(aW.mk bh.ak 3)]:List aW)) fun bU=>
  aqV bU
 else
  aq0 (zQ N bh bA) fun ck=>
  if ck=aqW then
   aq0 (dP aY ([(aW.mk bh.ak 1)]:List aW)) fun cG=>
   aqV cG
  else
   aS.lt (bA.kind==2) fun cI=>
   if cI=aqW then
    aq0 (dP aY ([(aW.mk bh.ak 2)]:List aW)) fun cz=>
    aqV cz
   else
    aqV aY
def rb (N:Nat) (x0:List aC) (eh:List aU) (e4:Int):Nat->(List aW)->Int->Option (List aW)
 |0,_,_=>aqY
 |n+1,aY,eK=>
  if (decide (eK<e4))=aqW then
   aq0 (HF N x0 aY eh eK) fun c9=>
   rb N x0 eh e4 n c9 (aq6 .i64 (eK+1))
  else
   aqV aY
def th (N:Nat) (x0:List aC) (aD:List aU):Option (List aW×Int):=
 aq0 (tl N x0 aD) fun a7=>
 if (!a7)=aqW then
  aqV ([],1)
 else
  aq0 (rb N x0 aD (aD.length:Int) N [] 0) fun dD=>
  aq0 (@kn aW ⟨(aW.mk 0 0)⟩ (fun (a b:aW)=>fW a.ak b.ak) dD) fun dN=>
  aqV (dN,0)
def w4 (N:Nat) (bF:List aU) (bO:Int):Nat->(List (Int×Bool))->Int->Option (List (Int×Bool))
 |0,_,_=>aqY
 |n+1,bH,cK=>
  if (decide (cK<bO))=aqW then
   aq0 (aR bF cK) fun a7=>
   aS.lt (dA bH a7.ak aqW) fun bh=>
   w4 N bF bO n bh (aq6 .i64 (cK+1))
  else
   aqV bH
def IY (N:Nat) (x0:List aU):Option ((List (Int×Bool))):=
 aq0 (w4 N x0 (x0.length:Int) N [] 0) fun bA=>
 aqV bA
def Ip (N:Nat) (b9:aC) (bH:aU):Option Bool:=
 if (bH.bp==b9.b)=aqW then
  aqV aqW
 else
  aqV (bH.out==b9.b)
def I6 (N:Nat) (x0:aC) (aD:aU):Option Int:=
 aq0 (Ip N x0 aD) fun a7=>
 if a7=aqW then
  aqV x0.c
 else
  aqV x0.b
def Hz (N:Nat) (aD:Int) (aY:Int) (bF:Bool):Option Bool:=
 if bF=aqW then
  aqV (aY !=aD)
 else
  aqV aqZ
def xL (N:Nat) (x0:Int) (aD:Int) (tc:List (Int×Int)):Option (Int×(List (Int×Int))):=
 aS.lt (bw tc x0) fun a7=>
 aS.lt (a7.getD 0) fun bh=>
 aq0 (Hz N aD bh a7.isSome) fun bA=>
 if bA=aqW then
  aqV (17,tc)
 else
  aS.lt (dA tc x0 aD) fun bI=>
  aqV (0,bI)
def pz (N:Nat) (x0:aC) (aD:Int):Option Int:=
 if (aD==x0.b)=aqW then
  aqV 2
 else
  aqV 1
def HA (N:Nat) (self:cd->(List aC)->(List (cd×Bool))->(List (Int×Bool))->(List (cd×Bool))->(List (Int×Bool))->(List (Int×Int))->(List (Int×Int))->Option (Int×(List (cd×Bool))×(List (Int×Int)))) (aY:cd) (bO:Int) (tc:List (cd×Bool)) (DR:List (Int×Bool)):Option Bool:=
 aS.lt (bw tc aY) fun bh=>
 if (bh.getD aqZ)=aqW then
  aqV aqW
 else
  if (decide (bO<0))=aqW then
   aqV aqW
  else
   aS.lt (bw DR bO) fun bA=>
   aqV (bA.getD aqZ)
def tg (N:Nat):Nat->cd->(List aC)->(List (cd×Bool))->(List (Int×Bool))->(List (cd×Bool))->(List (Int×Bool))->(List (Int×Int))->(List (Int×Int))->Option (Int×(List (cd×Bool))×(List (Int×Int)))
 |0,_,_,_,_,_,_,_,_=>aqY
 |bM+1,x0,aD,b9,bH,tc,DR,aqL,DU=>
  aq0 (xM N aD x0.ak x0.node) fun a7=>
  aq0 (HA N (tg N bM) x0 a7 tc DR) fun bI=>
  if bI=aqW then
   aqV (0,tc,DU)
  else
   aS.lt (dA tc x0 aqW) fun bU=>
   aq0 (aR aD a7) fun b5=>
   aS.lt (b5.kind==1) fun ck=>
   if ck=aqW then
    aqV (22,bU,DU)
   else
    aS.lt (b5.kind==3) fun cG=>
    if cG=aqW then
     aq0 (xL N a7 4 DU) fun cI=>
     aqV (cI.1,bU,cI.2)
    else
     aS.lt (x0.node !=b5.a) fun cz=>
     if cz=aqW then
      aq0 (pz N b5 x0.node) fun c9=>
      aq0 (xL N a7 c9 DU) fun dD=>
      aqV (dD.1,bU,dD.2)
     else
      aq0 (tg N bM (cd.mk a7 b5.b) aD [] [] bU DR [] DU) fun dN=>
      if (dN.1 !=0)=aqW then
       aqV (dN.1,dN.2.1,dN.2.2)
      else
       aq0 (tg N bM (cd.mk a7 b5.c) aD [] [] dN.2.1 DR [] dN.2.2) fun ek=>
       aqV (ek.1,ek.2.1,ek.2.2)
def P9 (N:Nat) (b9:(List aC)) (ko:List aU) (py:Int) (DS:List (Int×Int)) (II:List (cd×Bool)) (IJ:List (Int×Bool)):Option (Sum ((List (Int×Int))×(List (cd×Bool))) (Int)):=
 aq0 (aR ko py) fun bh=>
 aq0 (aR b9 bh.ak) fun bA=>
 if (bA.kind==2)=aqW then
  aq0 (I6 N bA bh) fun bI=>
  aq0 (tg N N (cd.mk bh.ak bI) b9 [] [] II IJ [] DS) fun bU=>
  if (bU.1 !=0)=aqW then
   aqV (aq7 bU.1)
  else
   aqV (aq8 (bU.2.2,bU.2.1))
 else
  aqV (aq8 (DS,II))
def sS (N:Nat) (b9:(List aC)) (ko:List aU) (kp:Int) (IJ:List (Int×Bool)):Nat->(List (Int×Int))->Int->(List (Int×Int))->(List (cd×Bool))->(List (cd×Bool))->Option (Sum ((List (Int×Int))×(List (Int×Int))) (Int))
 |0,_,_,_,_,_=>aqY
 |n+1,bO,py,DS,aqM,II=>
  if (decide (py<kp))=aqW then
   aq0 (P9 N b9 ko py DS II IJ) fun b5=>
   match b5 with
   |aq8 ck=>
    sS N b9 ko kp IJ n [] (aq6 .i64 (py+1)) ck.1 [] ck.2
   |aq7 cG=>
    aqV (aq7 cG)
  else
   aqV (aq8 ([],DS))
def Ay (N:Nat) (x0:List aC) (aD:List aU):Option ((List (Int×Int))×Int):=
 aq0 (IY N aD) fun a7=>
 aq0 (sS N x0 aD (aD.length:Int) a7 N [] 0 [] [] []) fun cI=>
 match cI with
 |aq8 cz=>
  aqV (cz.2,0)
 |aq7 c9=>
  aqV ([],c9)
def Dy (N:Nat) (aY:List aW) (bO:List (Int×Int)):Option (List aW×Int):=
 Aa (fun (x:aW)=>x.ak) (fun (a:Int) (b:Int)=>(aW.mk a b)) (@kn aW ⟨(aW.mk 0 0)⟩ (fun (a b:aW)=>fW a.ak b.ak)) aY bO
def mQ (N:Nat) (x0:List aC) (aD:List aU):Option (List aW×Int):=
 aq0 (th N x0 aD) fun a7=>
 if (a7.2 !=0)=aqW then
  aqV ([],a7.2)
 else
  aq0 (Ay N x0 aD) fun bh=>
  if (bh.2 !=0)=aqW then
   aqV ([],bh.2)
  else
   aq0 (Dy N a7.1 bh.1) fun bA=>
   aqV (bA.1,bA.2)
def sw (N:Nat) (x0:List aW) (aD:List aW) (fp:Int):Nat->Int->Option (Sum (Unit) (Bool))
 |0,_=>aqY
 |n+1,ez=>
  if (decide (ez<fp))=aqW then
   aq0 (aR x0 ez) fun a7=>
   aq0 (aR aD ez) fun bh=>
   if (!(decide (a7=bh)))=aqW then
    aqV (aq7 aqZ)
   else
    sw N x0 aD fp n (aq6 .i64 (ez+1))
  else
   aqV (aq8 ())
def IU (N:Nat) (x0:List aW) (aD:List aW):Option Bool:=
 if ((x0.length:Int) !=(aD.length:Int))=aqW then
  aqV aqZ
 else
  aq0 (sw N x0 aD (x0.length:Int) N 0) fun bA=>
  match bA with
  |aq8 bI=>
   aqV aqW
  |aq7 bU=>
   aqV bU
def sF (N:Nat) (aY:aU) (ko:List aU) (kp:Int):Nat->Int->Option (Sum (Unit) (Bool))
 |0,_=>aqY
 |n+1,py=>
  if (decide (py<kp))=aqW then
   aq0 (aR ko py) fun bh=>
   if (aY.ak==bh.ak)=aqW then
    aqV (aq7 aqW)
   else
    sF N aY ko kp n (aq6 .i64 (py+1))
  else
   aqV (aq8 ())
def sy (N:Nat) (bH:bk) (eh:List aU) (e4:Int):Nat->Int->Option (Sum (Unit) (Bool))
 |0,_=>aqY
 |n+1,eK=>
  if (decide (eK<e4))=aqW then
   aq0 (aR eh eK) fun a7=>
   aq0 (sF N a7 bH.eJ (bH.eJ.length:Int) N 0) fun bA=>
   match bA with
   |aq8 bI=>
    sy N bH eh e4 n (aq6 .i64 (eK+1))
   |aq7 bU=>
    aqV (aq7 bU)
  else
   aqV (aq8 ())
def Hy (N:Nat) (cj:aW) (fp:aW):Option Bool:=
 if (cj.ak==fp.ak)=aqW then
  aqV (cj.ej !=fp.ej)
 else
  aqV aqZ
def sH (N:Nat) (cj:aW) (ZW:List aW) (IK:Int):Nat->Int->Option (Sum (Unit) (Bool))
 |0,_=>aqY
 |n+1,QI=>
  if (decide (QI<IK))=aqW then
   aq0 (aR ZW QI) fun cI=>
   aq0 (Hy N cj cI) fun cz=>
   if cz=aqW then
    aqV (aq7 aqW)
   else
    sH N cj ZW IK n (aq6 .i64 (QI+1))
  else
   aqV (aq8 ())
def sG (N:Nat) (bH:bk) (Ap:List aW) (ZV:Int):Nat->Int->Option (Sum (Unit) (Bool))
 |0,_=>aqY
 |n+1,QH=>
  if (decide (QH<ZV))=aqW then
   aq0 (aR Ap QH) fun cG=>
   aq0 (sH N cG bH.dU (bH.dU.length:Int) N 0) fun c9=>
   match c9 with
   |aq8 dD=>
    sG N bH Ap ZV n (aq6 .i64 (QH+1))
   |aq7 dN=>
    aqV (aq7 dN)
  else
   aqV (aq8 ())
def xK (N:Nat) (x0:bk) (aD:bk):Option Bool:=
 aq0 (sy N aD x0.eJ (x0.eJ.length:Int) N 0) fun b5=>
 match b5 with
 |aq8 ck=>
  aq0 (sG N aD x0.dU (x0.dU.length:Int) N 0) fun ek=>
  match ek with
  |aq8 eN=>
   aqV aqZ
  |aq7 ec=>
   aqV ec
 |aq7 fq=>
  aqV fq
def HB (N:Nat) (x0:List aC) (aD:List bk):Option Bool:=
 aq0 (tk N x0) fun a7=>
 if (a7 !=0)=aqW then
  aqV aqW
 else
  aqV (decide (16<(aD.length:Int)))
def HD (N:Nat) (aY:bk) (bF:List aW) (bO:Int):Option Bool:=
 if (decide (aY.gS<0))=aqW then
  aqV aqW
 else
  if (bO !=0)=aqW then
   aqV aqW
  else
   aq0 (IU N aY.dU bF) fun bU=>
   aqV (!bU)
def HE (N:Nat) (aY:bk) (cj:bk):Option Bool:=
 if (aY.gS==cj.gS)=aqW then
  aqV aqW
 else
  aq0 (xK N aY cj) fun cG=>
  aqV cG
def w2 (N:Nat) (bb:Int) (aY:bk) (ZX:List bk) (ZY:Int):Nat->Int->Option (Sum (Unit) (Sum (Unit) (Bool)))
 |0,_=>aqY
 |n+1,IL=>
  if (decide (IL<ZY))=aqW then
   aq0 (aR ZX IL) fun ck=>
   if (decide (bb<=IL))=aqW then
    aqV (aq8 ())
   else
    aq0 (HE N aY ck) fun cI=>
    if cI=aqW then
     aqV (aq7 (aq7 aqZ))
    else
     w2 N bb aY ZX ZY n (aq6 .i64 (IL+1))
  else
   aqV (aq7 (aq8 ()))
def HC (N:Nat) (x0:List aC) (aD:List bk) (qq:List bk) (ko:Int):Option (Sum (Unit) (Bool)):=
 aq0 (aR qq ko) fun bA=>
 aq0 (mQ N x0 bA.eJ) fun bI=>
 aq0 (HD N bA bI.1 bI.2) fun b5=>
 if b5=aqW then
  aqV (aq7 aqZ)
 else
  aq0 (w2 N ko bA aD (aD.length:Int) N 0) fun cz=>
  match cz with
  |aq8 c9=>
   aqV (aq8 ())
  |aq7 (aq8 dD)=>
   aqV (aq8 ())
  |aq7 (aq7 dN)=>
   aqV (aq7 dN)
def sJ (N:Nat) (x0:List aC) (aD:List bk) (qq:List bk) (k7:Int):Nat->Int->Option (Sum (Unit) (Bool))
 |0,_=>aqY
 |n+1,ko=>
  if (decide (ko<k7))=aqW then
   aq0 (HC N x0 aD qq ko) fun ek=>
   match ek with
   |aq8 eN=>
    sJ N x0 aD qq k7 n (aq6 .i64 (ko+1))
   |aq7 ec=>
    aqV (aq7 ec)
  else
   aqV (aq8 ())
def u7 (N:Nat) (x0:List aC) (aD:List bk):Option Bool:=
 aq0 (HB N x0 aD) fun bh=>
 if bh=aqW then
  aqV aqZ
 else
  aq0 (sJ N x0 aD aD (aD.length:Int) N 0) fun fq=>
  match fq with
  |aq8 fb=>
   aqV aqW
  |aq7 gf=>
   aqV gf
def D2 (N:Nat) (x0:List aC) (aD:List bk):Option Int:=
 aq0 (tk N x0) fun a7=>
 if (a7 !=0)=aqW then
  aqV a7
 else
  aq0 (u7 N x0 aD) fun bh=>
  if (!bh)=aqW then
   aqV 1
  else
   aqV 0
def QW (N:Nat) (x0:bk) (aD:Int):Option Bool:=
 aS.lt (x0.gS==aD) fun a7=>
 aqV a7
def sv (N:Nat) (x0:List bk) (aD:Int) (bF:Int):Nat->Int->Option (Sum (Unit) (Int))
 |0,_=>aqY
 |n+1,bO=>
  if (decide (bO<bF))=aqW then
   aq0 (aR x0 bO) fun a7=>
   aq0 (QW N a7 aD) fun bh=>
   if bh=aqW then
    aqV (aq7 bO)
   else
    sv N x0 aD bF n (aq6 .i64 (bO+1))
  else
   aqV (aq8 ())
def QT (N:Nat) (x0:List bk) (aD:Int):Option Int:=
 aq0 (sv N x0 aD (x0.length:Int) N 0) fun bA=>
 match bA with
 |aq8 bI=>
  aqV (-1)
 |aq7 bU=>
  aqV bU
def D3 (N:Nat) (x0:List bk) (aD:Int):Option Int:=
 aq0 (QT N x0 aD) fun a7=>
 aqV a7
def w3 (N:Nat) (aD:Int) (k7:List Int) (ko:Int):Nat->(List (Place×Int))->(List Place)->Int->Option ((List (Place×Int))×List Place)
 |0,_,_,_=>aqY
 |n+1,bb,aY,kp=>
  if (decide (kp<ko))=aqW then
   aq0 (aR k7 kp) fun bh=>
   aq0 (aR k7 kp) fun bA=>
   aS.lt (dA bb (Place.mk aD bA) 0) fun bI=>
   aq0 (dP aY ([(Place.mk aD bA)]:List Place)) fun bU=>
   w3 N aD k7 ko n bI bU (aq6 .i64 (kp+1))
  else
   aqV (bb,aY)
def PG (N:Nat) (bb:List (Place×Int)) (aY:List Place) (cj:Place) (cR:Int) (IM:List Int) (DV:Int):Option ((List (Place×Int))×List Place):=
 aq0 (aR IM DV) fun dD=>
 aS.lt (bw bb (Place.mk cR dD)) fun dN=>
 aS.lt (dN.getD 0) fun ek=>
 if (!dN.isSome)=aqW then
  aS.lt (bw bb cj) fun eN=>
  aS.lt (dA bb (Place.mk cR dD) (aq6 .i64 ((eN.getD 0)+1))) fun ec=>
  aq0 (dP aY ([(Place.mk cR dD)]:List Place)) fun fq=>
  aqV (ec,fq)
 else
  aqV (bb,aY)
def sL (N:Nat) (cj:Place) (cR:Int) (IM:List Int) (te:Int):Nat->(List (Place×Int))->(List Place)->Int->Option ((List (Place×Int))×List Place)
 |0,_,_,_=>aqY
 |n+1,bb,aY,DV=>
  if (decide (DV<te))=aqW then
   aq0 (PG N bb aY cj cR IM DV) fun fb=>
   sL N cj cR IM te n fb.1 fb.2 (aq6 .i64 (DV+1))
  else
   aqV (bb,aY)
def Dx (N:Nat) (x0:List aC):Nat->(List (Place×Int))->(List Place)->Option (List (Place×Int))
 |0,_,_=>aqY
 |n+1,bb,aY=>
  if (decide (0<(aY.length:Int)))=aqW then
   aq0 (aR aY 0) fun ck=>
   aq0 (aR aY 0) fun cG=>
   aq0 (fX aY 1 (aY.length:Int)) fun cI=>
   aq0 (xM N x0 cG.ak cG.bp) fun cz=>
   aq0 (Ax N x0 cz cG.bp) fun c9=>
   aq0 (sL N cG cz c9 (c9.length:Int) N bb cI 0) fun gf=>
   Dx N x0 n gf.1 gf.2
  else
   aqV bb
def IX (N:Nat) (x0:List aC) (aD:Int):Option ((List (Place×Int))):=
 aq0 (va N x0 aD) fun a7=>
 aq0 (w3 N aD a7 (a7.length:Int) N [] [] 0) fun b5=>
 aq0 (Dx N x0 N b5.1 b5.2) fun hc=>
 aqV hc
def xc (N:Nat) (bH:Int) (aY:List Int) (bF:Int):Nat->Int->Option (Sum (Unit) (Int))
 |0,_=>aqY
 |n+1,bO=>
  if (decide (bO<bF))=aqW then
   aq0 (aR aY bO) fun a7=>
   if (a7 !=bH)=aqW then
    aqV (aq7 a7)
   else
    xc N bH aY bF n (aq6 .i64 (bO+1))
  else
   aqV (aq8 ())
def I5 (N:Nat) (x0:List Int):Option Int:=
 aq0 (xc N 0 x0 (x0.length:Int) N 0) fun bh=>
 match bh with
 |aq8 bA=>
  aqV 0
 |aq7 bI=>
  aqV bI
def Qh (N:Nat) (aD:List (Place×Int)) (cR:Int) (fp:Place) (ez:Bool) (e4:Int) (eK:Place) (hQ:Int):Option Bool:=
 if (!ez)=aqW then
  aqV aqW
 else
  aS.lt (bw aD fp) fun bU=>
  aq0 (Aw N hQ (bU.getD 0)) fun b5=>
  aq0 (Aw N eK.ak fp.ak) fun ck=>
  aq0 (Aw N e4 cR) fun cG=>
  aq0 (I5 N ([b5,ck,cG]:List Int)) fun cI=>
  aqV (decide (cI<0))
def It (N:Nat) (x0:List aC) (aD:List (Place×Int)) (b9:Int) (cR:Int) (fp:Place) (ez:Bool) (k7:List Int) (kp:Int):Option (Int×Place×Bool):=
 aq0 (aR k7 kp) fun a7=>
 aq0 (xM N x0 b9 a7) fun bh=>
 aS.lt (bw aD (Place.mk bh a7)) fun bA=>
 aS.lt (bA.getD 0) fun bI=>
 if (!bA.isSome)=aqW then
  aqV (cR,fp,ez)
 else
  aq0 (Qh N aD cR fp ez a7 (Place.mk bh a7) bI) fun cz=>
  if cz=aqW then
   aqV (a7,(Place.mk bh a7),aqW)
  else
   aqV (cR,fp,ez)
def xf (N:Nat) (x0:List aC) (aD:List (Place×Int)) (b9:Int) (k7:List Int) (ko:Int):Nat->Int->Place->Bool->Int->Option (Int×Place×Bool)
 |0,_,_,_,_=>aqY
 |n+1,cR,fp,ez,kp=>
  if (decide (kp<ko))=aqW then
   aq0 (It N x0 aD b9 cR fp ez k7 kp) fun c9=>
   xf N x0 aD b9 k7 ko n c9.1 c9.2.1 c9.2.2 (aq6 .i64 (kp+1))
  else
   aqV (cR,fp,ez)
def I8 (N:Nat) (x0:List aC) (aD:List (Place×Int)) (b9:Int) (bH:List Int):Option (Int×Place×Bool):=
 aq0 (xf N x0 aD b9 bH (bH.length:Int) N 0 (Place.mk 0 0) aqZ 0) fun dD=>
 aqV (dD.1,dD.2.1,dD.2.2)
def Is (N:Nat) (x0:List aC) (aD:Int) (b9:Int):Option Bool:=
 aq0 (u9 N x0 aD) fun bh=>
 if (!bh)=aqW then
  aqV aqW
 else
  aq0 (u9 N x0 b9) fun bA=>
  if (!bA)=aqW then
   aqV aqW
  else
   aqV (aD==b9)
def zW (N:Nat) (x0:List aC) (cK:List (Place×Int)):Nat->(List aU)->(List Int)->Option (Sum (List aU) (Int))
 |0,_,_=>aqY
 |n+1,cj,cR=>
  aq0 (aR cj (aq6 .i64 ((cj.length:Int) - 1))) fun ck=>
  aq0 (aR cj (aq6 .i64 ((cj.length:Int) - 1))) fun cG=>
  aq0 (I8 N x0 cK cG.ak cR) fun cI=>
  if (!cI.2.2)=aqW then
   aqV (aq7 15)
  else
   aq0 (aR cj (aq6 .i64 ((cj.length:Int) - 1))) fun cz=>
   aS.lt (cj.set (((aq6 .i64 ((cj.length:Int) - 1)):Int).toNat) (aU.mk cz.ak cz.bp cI.1)) fun c9=>
   aq0 (dP c9 ([(aU.mk cI.2.1.ak cI.2.1.bp (-1))]:List aU)) fun dD=>
   aS.lt (bw cK cI.2.1) fun dN=>
   if ((dN.getD 0)==0)=aqW then
    aqV (aq8 dD)
   else
    aq0 (Ax N x0 cI.2.1.ak cI.2.1.bp) fun ek=>
    zW N x0 cK n dD ek
def mR (N:Nat) (x0:List aC) (aD:Int) (b9:Int):Option (List aU×Int):=
 aq0 (tk N x0) fun a7=>
 if (a7 !=0)=aqW then
  aqV ([],a7)
 else
  aq0 (Is N x0 aD b9) fun bI=>
  if bI=aqW then
   aqV ([],2)
  else
   aq0 (IX N x0 b9) fun bU=>
   aq0 (va N x0 aD) fun b5=>
   aq0 (zW N x0 bU N ([(aU.mk aD (-1) 0)]:List aU) b5) fun eN=>
   match eN with
   |aq8 ec=>
    aq0 (Ea N ec) fun fq=>
    if fq=aqW then
     aqV ([],17)
    else
     aqV (ec,0)
   |aq7 fb=>
    aqV ([],fb)
def IV (N:Nat) (x0:List aU):Option (List aU):=
 o9 x0 fun a7=>
 if a7=aqW then
  aqV []
 else
  aq0 (dP ([]:List aU) x0) fun bh=>
  aqV bh
def IT (N:Nat) (x0:List aW):Option (List aW):=
 o9 x0 fun a7=>
 if a7=aqW then
  aqV []
 else
  aq0 (dP ([]:List aW) x0) fun bh=>
  aqV bh
def D0 (N:Nat) (x0:bk):Option bk:=
 aq0 (IV N x0.eJ) fun a7=>
 aq0 (IT N x0.dU) fun bh=>
 aqV (bk.mk x0.gS a7 bh)
def w5 (N:Nat) (ez:bk) (ZZ:List bk) (Z0:Int):Nat->(List bk)->Int->Option (Sum (List bk) (Int))
 |0,_,_=>aqY
 |n+1,eh,QJ=>
  if (decide (QJ<Z0))=aqW then
   aq0 (aR ZZ QJ) fun cI=>
   aq0 (xK N ez cI) fun cz=>
   if cz=aqW then
    aqV (aq7 23)
   else
    aq0 (D0 N cI) fun c9=>
    aq0 (dP eh ([c9]:List bk)) fun dD=>
    w5 N ez ZZ Z0 n dD (aq6 .i64 (QJ+1))
  else
   aqV (aq8 eh)
def tj (N:Nat) (x0:List aC) (aD:List bk) (b9:Int) (bH:Int) (b2:Int):Option (List bk×Int):=
 aq0 (D2 N x0 aD) fun a7=>
 aS.lt (a7 !=0) fun bh=>
 if bh=aqW then
  aqV ([],a7)
 else
  aS.lt (decide (b9<0)) fun bA=>
  if bA=aqW then
   aqV ([],2)
  else
   aq0 (D3 N aD b9) fun bI=>
   aS.lt (decide (0<=bI)) fun bU=>
   if bU=aqW then
    aqV ([],8)
   else
    aS.lt ((aD.length:Int)==16) fun b5=>
    if b5=aqW then
     aqV ([],18)
    else
     aq0 (mR N x0 bH b2) fun ck=>
     if (ck.2 !=0)=aqW then
      aqV ([],ck.2)
     else
      aq0 (mQ N x0 ck.1) fun cG=>
      if (cG.2 !=0)=aqW then
       aqV ([],cG.2)
      else
       aq0 (w5 N (bk.mk b9 ck.1 cG.1) aD (aD.length:Int) N [] 0) fun dN=>
       match dN with
       |aq8 ek=>
        aq0 (dP ek ([(bk.mk b9 ck.1 cG.1)]:List bk)) fun eN=>
        aqV (eN,0)
       |aq7 ec=>
        aqV ([],ec)
def PW (N:Nat) (cK:Int) (cj:List bk) (td:List bk) (Ao:Int):Option (List bk):=
 aq0 (aR td Ao) fun bA=>
 if (Ao !=cK)=aqW then
  aq0 (D0 N bA) fun bI=>
  aq0 (dP cj ([bI]:List bk)) fun bU=>
  aqV bU
 else
  aqV cj
def w1 (N:Nat) (cK:Int) (td:List bk) (ZS:Int):Nat->(List bk)->Int->Option (List bk)
 |0,_,_=>aqY
 |n+1,cj,Ao=>
  if (decide (Ao<ZS))=aqW then
   aq0 (PW N cK cj td Ao) fun b5=>
   w1 N cK td ZS n b5 (aq6 .i64 (Ao+1))
  else
   aqV cj
def Av (N:Nat) (x0:List aC) (aD:List bk) (b9:Int):Option (List bk×Int):=
 aq0 (D2 N x0 aD) fun a7=>
 if (a7 !=0)=aqW then
  aqV ([],a7)
 else
  aq0 (D3 N aD b9) fun bh=>
  if (decide (bh<0))=aqW then
   aqV ([],13)
  else
   aq0 (w1 N bh aD (aD.length:Int) N [] 0) fun ck=>
   aqV (ck,0)
def Zo (N:Nat) (x0:List aU) (aD:List aU):Nat->Int->Option (Sum (Unit) (Bool))
 |0,_=>aqY
 |n+1,bb=>
  if (decide (bb<(x0.length:Int)))=aqW then
   aq0 (aR x0 bb) fun a7=>
   aq0 (aR aD bb) fun bh=>
   if (!(decide (a7=bh)))=aqW then
    aqV (aq7 aqZ)
   else
    aS.lt (aq6 .i64 (bb+1)) fun bA=>
    Zo N x0 aD n bA
  else
   aqV (aq8 ())
def apK (N:Nat) (x0:List aU) (aD:List aU):Option Bool:=
 if ((x0.length:Int) !=(aD.length:Int))=aqW then
  aqV aqZ
 else
  aq0 (Zo N x0 aD N 0) fun bI=>
  match bI with
  |aq8 bU=>
   aqV aqW
  |aq7 b5=>
   aqV b5
def ano (N:Nat) (x0:List bk) (aD:List bk) (bb:Int):Option Bool:=
 aq0 (aR x0 bb) fun a7=>
 aq0 (aR aD bb) fun bh=>
 if (a7.gS !=bh.gS)=aqW then
  aqV aqW
 else
  aq0 (aR x0 bb) fun bA=>
  aq0 (aR aD bb) fun bI=>
  aq0 (apK N bA.eJ bI.eJ) fun bU=>
  if (!bU)=aqW then
   aqV aqW
  else
   aq0 (aR x0 bb) fun b5=>
   aq0 (aR aD bb) fun ck=>
   aq0 (D1 N b5.dU ck.dU) fun cG=>
   aqV (!cG)
def Zs (N:Nat) (x0:List bk) (aD:List bk):Nat->Int->Option (Sum (Unit) (Bool))
 |0,_=>aqY
 |n+1,bb=>
  if (decide (bb<(x0.length:Int)))=aqW then
   aq0 (ano N x0 aD bb) fun cI=>
   if cI=aqW then
    aqV (aq7 aqZ)
   else
    aS.lt (aq6 .i64 (bb+1)) fun cz=>
    Zs N x0 aD n cz
  else
   aqV (aq8 ())
def apL (N:Nat) (x0:List bk) (aD:List bk):Option Bool:=
 if ((x0.length:Int) !=(aD.length:Int))=aqW then
  aqV aqZ
 else
  aq0 (Zs N x0 aD N 0) fun c9=>
  match c9 with
  |aq8 dD=>
   aqV aqW
  |aq7 dN=>
   aqV dN
def QX (N:Nat) (x0:List bk) (aD:List bk):Option Bool:=
 aq0 (apL N x0 aD) fun a7=>
 aqV a7
def xR (N:Nat):Option (List aC):=
 aqV ([(aC.mk 1 [116,49] 0 1 0 9),(aC.mk 2 [119] 1 2 3 0),(aC.mk 1 [116,50] 2 4 0 9),(aC.mk 3 [100] 3 5 0 0),(aC.mk 1 [116,51] 5 6 0 9),(aC.mk 1 [116,52] 4 7 0 9)]:List aC)
def HY (N:Nat) (aD:List bk) (b9:Int) (b2:Int) (aY:Int) (bF:List bk) (bO:Int):Option Bool:=
 if (b9==0)=aqW then
  if ((aD.length:Int)==1)=aqW then
   aq0 (aR aD 0) fun cI=>
   if (cI.gS==7)=aqW then
    aq0 (aR aD 0) fun cz=>
    if ((cz.eJ.length:Int)==3)=aqW then
     aq0 (aR aD 0) fun c9=>
     if ((c9.dU.length:Int)==2)=aqW then
      aq0 (xR N) fun dD=>
      aq0 (u7 N dD aD) fun dN=>
      if dN=aqW then
       if (b2==23)=aqW then
        if (aY==8)=aqW then
         if (bO==0)=aqW then
          aS.lt ((bF.length:Int)==0) fun ek=>
          aqV ek
         else
          aqV aqZ
        else
         aqV aqZ
       else
        aqV aqZ
      else
       aqV aqZ
     else
      aqV aqZ
    else
     aqV aqZ
   else
    aqV aqZ
  else
   aqV aqZ
 else
  aqV aqZ
def xU (N:Nat):Option Bool:=
 aq0 (xR N) fun a7=>
 aq0 (tj N a7 [] 7 0 2) fun bh=>
 aq0 (xR N) fun bA=>
 aq0 (tj N bA bh.1 8 2 0) fun bI=>
 aq0 (xR N) fun bU=>
 aq0 (tj N bU bh.1 7 2 5) fun b5=>
 aq0 (xR N) fun ck=>
 aq0 (Av N ck bh.1 7) fun cG=>
 aq0 (HY N bh.1 bh.2 bI.2 b5.2 cG.1 cG.2) fun eN=>
 aqV eN
def ani (N:Nat) (aY:List bk) (cK:List bk) (cR:List bk) (fp:Int) (ez:List bk) (eh:Int):Option Bool:=
 if (fp !=0)=aqW then
  aqV aqW
 else
  aq0 (QX N cR aY) fun ec=>
  if (!ec)=aqW then
   aqV aqW
  else
   if (eh !=0)=aqW then
    aqV aqW
   else
    aq0 (QX N ez cK) fun fq=>
    if (!fq)=aqW then
     aqV aqW
    else
     aqV ((cK.length:Int) !=(aq6 .i64 ((aY.length:Int)+1)))
def anh (N:Nat) (bH:en) (b2:List aC) (aY:List bk):Option (Sum (en) (Bool)):=
 aq0 (D9 N bH b2) fun bI=>
 aq0 (aR bI.1 0) fun bU=>
 aq0 (aR bI.1 0) fun b5=>
 aq0 (aR bI.1 (aq6 .i64 ((bI.1.length:Int) - 1))) fun ck=>
 aq0 (aR bI.1 (aq6 .i64 ((bI.1.length:Int) - 1))) fun cG=>
 aq0 (tj N b2 aY 50 b5.ak cG.ak) fun cI=>
 if (cI.2 !=0)=aqW then
  aqV (aq8 bI.2)
 else
  aq0 (Av N b2 cI.1 50) fun cz=>
  aq0 (aR bI.1 0) fun c9=>
  aq0 (aR bI.1 0) fun dD=>
  aq0 (aR bI.1 (aq6 .i64 ((bI.1.length:Int) - 1))) fun dN=>
  aq0 (aR bI.1 (aq6 .i64 ((bI.1.length:Int) - 1))) fun ek=>
  aq0 (tj N b2 cz.1 50 dD.ak ek.ak) fun eN=>
  aq0 (ani N aY cI.1 cz.1 cz.2 eN.1 eN.2) fun fb=>
  if fb=aqW then
   aqV (aq7 aqZ)
  else
   aqV (aq8 bI.2)
def Zi (N:Nat) (b2:List aC) (aY:List bk):Nat->en->Int->Option (Sum (Unit) (Bool))
 |0,_,_=>aqY
 |n+1,bH,bF=>
  if (decide (bF<4))=aqW then
   aq0 (anh N bH b2 aY) fun gf=>
   match gf with
   |aq8 hc=>
    aS.lt (aq6 .i64 (bF+1)) fun jo=>
    Zi N b2 aY n hc jo
   |aq7 jd=>
    aqV (aq7 jd)
  else
   aqV (aq8 ())
def aqR (N:Nat) (x0:List Int):Option Bool:=
 aq0 (AD N x0) fun a7=>
 aq0 (vd N a7 8) fun bh=>
 aq0 (Az N bh.1 bh.2.1) fun bA=>
 aq0 (Zi N bh.1 bA N bh.2.2 0) fun ib=>
 match ib with
 |aq8 kI=>
  aq0 (xU N) fun jq=>
  aqV jq
 |aq7 k8=>
  aqV k8
def QU (N:Nat) (x0:aW) (aD:aW):Option Bool:=
 aS.lt (x0.ak==aD.ak) fun a7=>
 aqV a7
def su (N:Nat) (x0:List aW) (aD:aW) (bF:Int):Nat->Int->Option (Sum (Unit) (Int))
 |0,_=>aqY
 |n+1,bO=>
  if (decide (bO<bF))=aqW then
   aq0 (aR x0 bO) fun a7=>
   aq0 (QU N a7 aD) fun bh=>
   if bh=aqW then
    aqV (aq7 bO)
   else
    su N x0 aD bF n (aq6 .i64 (bO+1))
  else
   aqV (aq8 ())
def IS (N:Nat) (x0:List aW) (aD:aW):Option Int:=
 aq0 (su N x0 aD (x0.length:Int) N 0) fun bA=>
 match bA with
 |aq8 bI=>
  aqV (-1)
 |aq7 bU=>
  aqV bU
def IQ (N:Nat) (x0:List aW) (aD:aW):Option Bool:=
 aq0 (IS N x0 aD) fun a7=>
 aS.lt (decide (0<=a7)) fun bh=>
 aqV bh
def PV (N:Nat) (bH:List aW) (e4:List aW) (hQ:Int):Option (List aW):=
 aq0 (aR e4 hQ) fun bh=>
 aq0 (IQ N bH bh) fun bA=>
 if (!bA)=aqW then
  aq0 (dP bH ([bh]:List aW)) fun bI=>
  aqV bI
 else
  aqV bH
def xp (N:Nat) (e4:List aW) (eK:Int):Nat->(List aW)->Int->Option (List aW)
 |0,_,_=>aqY
 |n+1,bH,hQ=>
  if (decide (hQ<eK))=aqW then
   aq0 (PV N bH e4 hQ) fun bU=>
   xp N e4 eK n bU (aq6 .i64 (hQ+1))
  else
   aqV bH
def xo (N:Nat) (bO:List bk) (cK:Int):Nat->(List aW)->Int->Option (List aW)
 |0,_,_=>aqY
 |n+1,bH,cj=>
  if (decide (cj<cK))=aqW then
   aq0 (aR bO cj) fun a7=>
   aq0 (xp N a7.dU (a7.dU.length:Int) N bH 0) fun b5=>
   xo N bO cK n b5 (aq6 .i64 (cj+1))
  else
   aqV bH
def DZ (N:Nat) (x0:List bk):Option (List aW):=
 aq0 (xo N x0 (x0.length:Int) N [] 0) fun ck=>
 aq0 (@kn aW ⟨(aW.mk 0 0)⟩ (fun (a b:aW)=>fW a.ak b.ak) ck) fun cG=>
 aqV cG
def HP (N:Nat) (x0:List aC) (aD:List aW) (bb:Int):Option Bool:=
 aq0 (aR aD bb) fun a7=>
 if (decide (a7.ak<0))=aqW then
  aqV aqW
 else
  aq0 (aR aD bb) fun bh=>
  if (decide ((x0.length:Int)<=bh.ak))=aqW then
   aqV aqW
  else
   aq0 (fX aD 0 bb) fun bA=>
   aq0 (aR aD bb) fun bI=>
   aq0 (xV N bA bI.ak) fun bU=>
   aqV (bU !=0)
def HQ (N:Nat) (aY:Int):Option Bool:=
 if (aY !=1)=aqW then
  aqV (aY !=2)
 else
  aqV aqZ
def HR (N:Nat) (aY:Int):Option Bool:=
 if (aY !=3)=aqW then
  aqV (aY !=4)
 else
  aqV aqZ
def DC (N:Nat) (x0:List aC) (aD:List aW) (bb:Int):Option (Sum (Unit) (Bool)):=
 aq0 (HP N x0 aD bb) fun b5=>
 if b5=aqW then
  aqV (aq7 aqZ)
 else
  aq0 (aR aD bb) fun ck=>
  aq0 (aR aD bb) fun cG=>
  aq0 (aR x0 cG.ak) fun cI=>
  aS.lt (cI.kind==2) fun cz=>
  if cz=aqW then
   aq0 (HQ N ck.ej) fun c9=>
   if c9=aqW then
    aqV (aq7 aqZ)
   else
    aqV (aq8 ())
  else
   aS.lt (cI.kind==3) fun dD=>
   if dD=aqW then
    aq0 (HR N ck.ej) fun dN=>
    if dN=aqW then
     aqV (aq7 aqZ)
    else
     aqV (aq8 ())
   else
    aqV (aq7 aqZ)
def sZ (N:Nat) (x0:List aC) (aD:List aW):Nat->Int->Option (Sum (Unit) (Bool))
 |0,_=>aqY
 |n+1,bb=>
  if (decide (bb<(aD.length:Int)))=aqW then
   aq0 (DC N x0 aD bb) fun ek=>
   match ek with
   |aq8 eN=>
    aS.lt (aq6 .i64 (bb+1)) fun ec=>
    sZ N x0 aD n ec
   |aq7 fq=>
    aqV (aq7 fq)
  else
   aqV (aq8 ())
def AA (N:Nat) (x0:List aC) (aD:List aW):Option Bool:=
 aq0 (sZ N x0 aD N 0) fun fb=>
 match fb with
 |aq8 gf=>
  aqV aqW
 |aq7 hc=>
  aqV hc
def ank (N:Nat) (b2:List aC) (bb:List Act) (aY:List bk) (bF:Int) (bO:List bk) (cK:Int) (apr:Bool):Option (List bk×Int):=
 if apr=aqW then
  aq0 (aR bb bF) fun cG=>
  aq0 (aR bb bF) fun cI=>
  aq0 (aR bb bF) fun cz=>
  aq0 (aR bb bF) fun c9=>
  aq0 (aR bb bF) fun dD=>
  aq0 (aR bb bF) fun dN=>
  aq0 (tj N b2 aY cI.id c9.from_ dN.to) fun ek=>
  aqV (ek.1,ek.2)
 else
  aqV (bO,cK)
def anl (N:Nat) (b2:List aC) (aY:List bk) (cR:List aW):Option Bool:=
 aq0 (u7 N b2 aY) fun fb=>
 if (!fb)=aqW then
  aqV aqW
 else
  aq0 (AA N b2 cR) fun gf=>
  aqV (!gf)
def Zl (N:Nat) (aY:List bk) (fp:Int):Nat->(List Int)->Int->Option (Sum (List Int) (Bool))
 |0,_,_=>aqY
 |n+1,cj,ez=>
  aq0 (aR aY fp) fun jo=>
  if (decide (ez<(jo.eJ.length:Int)))=aqW then
   aq0 (aR aY fp) fun jd=>
   aq0 (aR jd.eJ ez) fun ib=>
   aq0 (aR cj ib.ak) fun kI=>
   aq0 (aR cj ib.ak) fun jq=>
   aq0 (aR cj ib.ak) fun k8=>
   aq0 (aR cj ib.ak) fun mP=>
   aS.lt (cj.set ((ib.ak:Int).toNat) (aq6 .i64 (jq+1))) fun oD=>
   aq0 (aR aY fp) fun qs=>
   aq0 (aR qs.eJ ez) fun rk=>
   aq0 (aR oD rk.ak) fun u6=>
   aq0 (aR oD rk.ak) fun Aq=>
   if (decide (1<Aq))=aqW then
    aqV (aq7 aqZ)
   else
    aS.lt (aq6 .i64 (ez+1)) fun xH=>
    Zl N aY fp n oD xH
  else
   aqV (aq8 cj)
def anm (N:Nat) (aY:List bk) (cR:List aW) (fp:Int) (eh:Int) (e4:Bool) (eK:Int):Option Bool:=
 if e4=aqW then
  aqV aqW
 else
  aq0 (aR cR eK) fun xJ=>
  aq0 (aR cR eK) fun DY=>
  aq0 (aR aY fp) fun IN=>
  aq0 (aR IN.dU eh) fun QL=>
  aS.lt (decide (DY=QL)) fun Z4=>
  aqV Z4
def Zn (N:Nat) (aY:List bk) (cR:List aW) (fp:Int) (eh:Int):Nat->Bool->Int->Option Bool
 |0,_,_=>aqY
 |n+1,e4,eK=>
  if (decide (eK<(cR.length:Int)))=aqW then
   aq0 (anm N aY cR fp eh e4 eK) fun QM=>
   aS.lt (aq6 .i64 (eK+1)) fun QN=>
   Zn N aY cR fp eh n QM QN
  else
   aqV e4
def Zm (N:Nat) (aY:List bk) (cR:List aW) (fp:Int):Nat->Int->Option (Sum (Unit) (Bool))
 |0,_=>aqY
 |n+1,eh=>
  aq0 (aR aY fp) fun Ar=>
  if (decide (eh<(Ar.dU.length:Int)))=aqW then
   aq0 (Zn N aY cR fp eh N aqZ 0) fun QO=>
   if (!QO)=aqW then
    aqV (aq7 aqZ)
   else
    aS.lt (aq6 .i64 (eh+1)) fun IP=>
    Zm N aY cR fp n IP
  else
   aqV (aq8 ())
def Zk (N:Nat) (aY:List bk) (cR:List aW):Nat->(List Int)->Int->Option (Sum (Unit) (Bool))
 |0,_,_=>aqY
 |n+1,cj,fp=>
  if (decide (fp<(aY.length:Int)))=aqW then
   aq0 (Zl N aY fp N cj 0) fun xI=>
   match xI with
   |aq8 tf=>
    aq0 (Zm N aY cR fp N 0) fun QP=>
    match QP with
    |aq8 QQ=>
     aS.lt (aq6 .i64 (fp+1)) fun apu=>
     Zk N aY cR n tf apu
    |aq7 apv=>
     aqV (aq7 apv)
   |aq7 apw=>
    aqV (aq7 apw)
  else
   aqV (aq8 ())
def anj (N:Nat) (b2:List aC) (bb:List Act) (aY:List bk) (bF:Int):Option (Sum (List bk) (Bool)):=
 aq0 (aR bb bF) fun bA=>
 aq0 (aR bb bF) fun bI=>
 aq0 (Av N b2 aY bI.id) fun bU=>
 aq0 (aR bb bF) fun b5=>
 aq0 (aR bb bF) fun ck=>
 aq0 (ank N b2 bb aY bF bU.1 bU.2 ck.set) fun eN=>
 if (eN.2 !=0)=aqW then
  aqV (aq8 aY)
 else
  aq0 (l1 0 (b2.length:Int)) fun ec=>
  aq0 (DZ N eN.1) fun fq=>
  aq0 (anl N b2 eN.1 fq) fun hc=>
  if hc=aqW then
   aqV (aq7 aqZ)
  else
   aq0 (Zk N eN.1 fq N ec 0) fun apx=>
   match apx with
   |aq8 aqO=>
    aqV (aq8 eN.1)
   |aq7 apy=>
    aqV (aq7 apy)
def Zj (N:Nat) (b2:List aC) (bb:List Act):Nat->(List bk)->Int->Option (Sum (List bk) (Bool))
 |0,_,_=>aqY
 |n+1,aY,bF=>
  if (decide (bF<(bb.length:Int)))=aqW then
   aq0 (anj N b2 bb aY bF) fun apz=>
   match apz with
   |aq8 apA=>
    aS.lt (aq6 .i64 (bF+1)) fun apB=>
    Zj N b2 bb n apA apB
   |aq7 apC=>
    aqV (aq7 apC)
  else
   aqV (aq8 aY)
def ann (N:Nat) (b2:List aC) (bb:List Act) (aY:List bk):Option Bool:=
 aq0 (Az N b2 bb) fun apF=>
 aq0 (QX N aY apF) fun apG=>
 if apG=aqW then
  aq0 (xU N) fun apH=>
  aqV apH
 else
  aqV aqZ
def aqS (N:Nat) (x0:List Int):Option Bool:=
 aq0 (AD N x0) fun a7=>
 aq0 (vd N a7 10) fun bh=>
 aq0 (Zj N bh.1 bh.2.1 N [] 0) fun apD=>
 match apD with
 |aq8 apE=>
  aq0 (ann N bh.1 bh.2.1 apE) fun apI=>
  aqV apI
 |aq7 apJ=>
  aqV apJ
def Ib (N:Nat) (self:(List Int)->(List aC)->(List aU)->(List aW)->Int->Int->(List (dx×Bool))->Option (Bool×(List (dx×Bool)))) (b2:Int) (bb:List (dx×Bool)) (ez:Int):Option Bool:=
 if (decide (ez<0))=aqW then
  aqV aqW
 else
  aS.lt (bw bb (dx.mk ez b2)) fun bh=>
  aqV (bh.getD aqZ)
def P7 (N:Nat) (self:(List Int)->(List aC)->(List aU)->(List aW)->Int->Int->(List (dx×Bool))->Option (Bool×(List (dx×Bool)))) (aD:List aU) (ez:Int):Option Bool:=
 aq0 (aR aD 0) fun b5=>
 if (ez !=b5.ak)=aqW then
  aq0 (aR aD (aq6 .i64 ((aD.length:Int) - 1))) fun ck=>
  aS.lt (ez !=ck.ak) fun cG=>
  aqV cG
 else
  aqV aqZ
def Ic (N:Nat) (self:(List Int)->(List aC)->(List aU)->(List aW)->Int->Int->(List (dx×Bool))->Option (Bool×(List (dx×Bool)))) (eh:aC) (e4:Int):Option Bool:=
 if (eh.kind==3)=aqW then
  aqV (e4==4)
 else
  aqV aqZ
def Ie (N:Nat) (self:(List Int)->(List aC)->(List aU)->(List aW)->Int->Int->(List (dx×Bool))->Option (Bool×(List (dx×Bool)))) (b2:Int) (eh:aC) (e4:Int) (eK:List Int) (hQ:Int):Option Bool:=
 if (eh.kind==2)=aqW then
  if (b2==eh.a)=aqW then
   if (e4==1)=aqW then
    aq0 (aR eK hQ) fun ek=>
    if (ek==eh.c)=aqW then
     aqV aqW
    else
     if (e4==2)=aqW then
      aq0 (aR eK hQ) fun eN=>
      aqV (eN==eh.b)
     else
      aqV aqZ
   else
    if (e4==2)=aqW then
     aq0 (aR eK hQ) fun ec=>
     aqV (ec==eh.b)
    else
     aqV aqZ
  else
   aqV aqZ
 else
  aqV aqZ
def P8 (N:Nat) (self:(List Int)->(List aC)->(List aU)->(List aW)->Int->Int->(List (dx×Bool))->Option (Bool×(List (dx×Bool)))) (An:List Int) (x0:List aC) (aD:List aU) (b9:List aW) (b2:Int) (bb:List (dx×Bool)) (ez:Int) (eh:aC) (e4:Int) (eK:List Int) (hQ:Int):Option (Sum ((List (dx×Bool))) ((List (dx×Bool))×Bool)):=
 aq0 (Ie N self b2 eh e4 eK hQ) fun fq=>
 if fq=aqW then
  aqV (aq8 bb)
 else
  aq0 (aR eK hQ) fun fb=>
  aq0 (self An x0 aD b9 ez fb bb) fun gf=>
  if gf.1=aqW then
   aqV (aq7 (gf.2,aqW))
  else
   aqV (aq8 gf.2)
def zU (N:Nat) (self:(List Int)->(List aC)->(List aU)->(List aW)->Int->Int->(List (dx×Bool))->Option (Bool×(List (dx×Bool)))) (An:List Int) (x0:List aC) (aD:List aU) (b9:List aW) (b2:Int) (ez:Int) (eh:aC) (e4:Int) (eK:List Int):Nat->(List (dx×Bool))->Int->Option (Sum ((List (dx×Bool))) ((List (dx×Bool))×Bool))
 |0,_,_=>aqY
 |n+1,bb,hQ=>
  if (decide (hQ<(eK.length:Int)))=aqW then
   aq0 (P8 N self An x0 aD b9 b2 bb ez eh e4 eK hQ) fun hc=>
   match hc with
   |aq8 jo=>
    aS.lt (aq6 .i64 (hQ+1)) fun jd=>
    zU N self An x0 aD b9 b2 ez eh e4 eK n jo jd
   |aq7 ib=>
    aqV (aq7 (ib.1,ib.2))
  else
   aqV (aq8 bb)
def jr (N:Nat):Nat->(List Int)->(List aC)->(List aU)->(List aW)->Int->Int->(List (dx×Bool))->Option (Bool×(List (dx×Bool)))
 |0,_,_,_,_,_,_,_=>aqY
 |bM+1,An,x0,aD,b9,bH,b2,bb=>
  aq0 (rl N x0 bH b2) fun a7=>
  aq0 (Ib N (jr N bM) b2 bb a7) fun bA=>
  if bA=aqW then
   aqV (aqZ,bb)
  else
   aS.lt (dA bb (dx.mk a7 b2) aqW) fun bI=>
   aq0 (rm N aD a7) fun bU=>
   if bU=aqW then
    aq0 (P7 N (jr N bM) aD a7) fun cI=>
    aqV (cI,bI)
   else
    aq0 (aR x0 a7) fun cz=>
    aq0 (xV N b9 a7) fun c9=>
    aq0 (xO N x0 a7 b2) fun dD=>
    aq0 (Ic N (jr N bM) cz c9) fun dN=>
    if dN=aqW then
     aqV (aqZ,bI)
    else
     aq0 (zU N (jr N bM) An x0 aD b9 b2 a7 cz c9 dD N bI 0) fun kI=>
     match kI with
     |aq8 jq=>
      aqV (aqZ,jq)
     |aq7 k8=>
      aqV (k8.2,k8.1)
def Ij (N:Nat) (x0:List aC) (aD:List aU) (cK:Int):Option Bool:=
 aq0 (aR x0 cK) fun bA=>
 if (bA.kind !=1)=aqW then
  aqV aqW
 else
  aq0 (rm N aD cK) fun bI=>
  aqV bI
def Ik (N:Nat) (x0:List aC) (aD:List aU) (b9:List aW) (bO:List Int) (cK:Int):Option Bool:=
 aq0 (aR x0 cK) fun b5=>
 aq0 (jr N N bO x0 aD b9 cK b5.a []) fun ck=>
 if ck.1=aqW then
  aqV aqW
 else
  aq0 (aR x0 cK) fun cG=>
  aq0 (jr N N bO x0 aD b9 cK cG.b []) fun cI=>
  aqV cI.1
def Ii (N:Nat) (x0:List aC) (aD:List aU) (b9:List aW) (bO:List Int) (cK:Int):Option (List Int):=
 aq0 (Ij N x0 aD cK) fun bU=>
 if bU=aqW then
  aqV bO
 else
  aq0 (Ik N x0 aD b9 bO cK) fun cz=>
  if cz=aqW then
   aq0 (dP bO ([cK]:List Int)) fun c9=>
   aqV c9
  else
   aqV bO
def xa (N:Nat) (x0:List aC) (aD:List aU) (b9:List aW):Nat->(List Int)->Int->Option (List Int)
 |0,_,_=>aqY
 |n+1,bO,cK=>
  if (decide (cK<(x0.length:Int)))=aqW then
   aq0 (Ii N x0 aD b9 bO cK) fun dD=>
   aS.lt (aq6 .i64 (cK+1)) fun dN=>
   xa N x0 aD b9 n dD dN
  else
   aqV bO
def xP (N:Nat) (x0:List aC) (aD:List aU) (b9:List aW):Option (List Int×Int):=
 aq0 (xS N x0 aD) fun a7=>
 if (!a7)=aqW then
  aqV ([],1)
 else
  aq0 (AA N x0 b9) fun bh=>
  if (!bh)=aqW then
   aqV ([],2)
  else
   aq0 (xa N x0 aD b9 N [] 0) fun ek=>
   aqV (ek,0)
def PU (N:Nat) (cK:List Int) (cj:Int):Option Bool:=
 if (cj !=0)=aqW then
  aqV aqW
 else
  aqV (decide (0<(cK.length:Int)))
def sx (N:Nat) (b2:List aC) (aY:List bk) (bF:List aW):Nat->Int->Option (Sum (Unit) (Bool))
 |0,_=>aqY
 |n+1,bO=>
  if (decide (bO<(aY.length:Int)))=aqW then
   aq0 (aR aY bO) fun bU=>
   aq0 (xP N b2 bU.eJ bF) fun b5=>
   aq0 (PU N b5.1 b5.2) fun ck=>
   if ck=aqW then
    aqV (aq7 aqZ)
   else
    aS.lt (aq6 .i64 (bO+1)) fun cG=>
    sx N b2 aY bF n cG
  else
   aqV (aq8 ())
def IW (N:Nat) (x0:List Int):Option Bool:=
 aq0 (AD N x0) fun a7=>
 aq0 (vd N a7 10) fun bh=>
 aq0 (Az N bh.1 bh.2.1) fun bA=>
 aq0 (DZ N bA) fun bI=>
 aq0 (sx N bh.1 bA bI N 0) fun cI=>
 match cI with
 |aq8 cz=>
  aq0 (xU N) fun c9=>
  aqV c9
 |aq7 dD=>
  aqV dD
def anf (N:Nat) (b2:List aC) (bb:List Act) (aY:List bk) (bF:Int):Option (List bk):=
 aq0 (aR bb bF) fun bA=>
 aq0 (aR bb bF) fun bI=>
 aq0 (aR bb bF) fun bU=>
 aq0 (aR bb bF) fun b5=>
 aq0 (AF N b2 [] bF bI.from_ b5.to) fun ck=>
 if (ck.2==0)=aqW then
  aq0 (aR ck.1 0) fun cG=>
  aq0 (aR ck.1 0) fun cI=>
  aq0 (dP aY ([cI]:List bk)) fun cz=>
  aqV cz
 else
  aqV aY
def Zf (N:Nat) (b2:List aC) (bb:List Act):Nat->(List bk)->Int->Option (List bk)
 |0,_,_=>aqY
 |n+1,aY,bF=>
  if (decide (bF<(bb.length:Int)))=aqW then
   aq0 (anf N b2 bb aY bF) fun c9=>
   aS.lt (aq6 .i64 (bF+1)) fun dD=>
   Zf N b2 bb n c9 dD
  else
   aqV aY
def ang (N:Nat) (b2:List aC) (aY:List bk) (cj:Int) (cR:Int) (fp:Bool):Option Bool:=
 aq0 (aR aY cR) fun gf=>
 aq0 (aR aY cR) fun hc=>
 aq0 (aR aY cj) fun jo=>
 aq0 (aR aY cj) fun jd=>
 aq0 (xK N hc jd) fun ib=>
 if (!(fp==ib))=aqW then
  aqV aqW
 else
  if (cj !=cR)=aqW then
   aq0 (aR aY cj) fun kI=>
   aq0 (aR aY cj) fun jq=>
   aq0 (aR aY cR) fun k8=>
   aq0 (aR aY cR) fun mP=>
   aq0 (u7 N b2 ([jq,mP]:List bk)) fun oD=>
   aqV (fp==oD)
  else
   aqV aqZ
def Zh (N:Nat) (b2:List aC) (aY:List bk) (cj:Int):Nat->Int->Option (Sum (Unit) (Bool))
 |0,_=>aqY
 |n+1,cR=>
  if (decide (cR<(aY.length:Int)))=aqW then
   aq0 (aR aY cj) fun ek=>
   aq0 (aR aY cj) fun eN=>
   aq0 (aR aY cR) fun ec=>
   aq0 (aR aY cR) fun fq=>
   aq0 (xK N eN fq) fun fb=>
   aq0 (ang N b2 aY cj cR fb) fun qs=>
   if qs=aqW then
    aqV (aq7 aqZ)
   else
    aS.lt (aq6 .i64 (cR+1)) fun rk=>
    Zh N b2 aY cj n rk
  else
   aqV (aq8 ())
def Zg (N:Nat) (b2:List aC) (aY:List bk):Nat->Int->Option (Sum (Unit) (Bool))
 |0,_=>aqY
 |n+1,cj=>
  if (decide (cj<(aY.length:Int)))=aqW then
   aq0 (Zh N b2 aY cj N 0) fun u6=>
   match u6 with
   |aq8 Aq=>
    aS.lt (aq6 .i64 (cj+1)) fun xH=>
    Zg N b2 aY n xH
   |aq7 xI=>
    aqV (aq7 xI)
  else
   aqV (aq8 ())
def aqQ (N:Nat) (x0:List Int):Option Bool:=
 aq0 (AD N x0) fun a7=>
 aq0 (vd N a7 6) fun bh=>
 aq0 (Zf N bh.1 bh.2.1 N [] 0) fun dN=>
 aq0 (Zg N bh.1 dN N 0) fun tf=>
 match tf with
 |aq8 Ar=>
  aq0 (xU N) fun xJ=>
  aqV xJ
 |aq7 DY=>
  aqV DY
end
end Go.W
end
section
set_option maxRecDepth 100000
set_option maxHeartbeats 1000000
namespace Go.W
open Go.aS Go.Proofs Go.Sort Go.Shelf Go.RowKit Go.Lib
def aeQ:Go.Shelf.Ren:=⟨fun|6=>36|15=>71|14=>70|28=>103|29=>104|20=>95|21=>96|22=>97|23=>98|24=>99|25=>100|26=>101|27=>102|46=>108|47=>109|48=>110|49=>111|50=>112|57=>115|n=>n,fun|22=>44|24=>51|25=>77|3=>3|39=>109|0=>0|53=>146|55=>148|4=>4|46=>140|45=>139|50=>118|5=>5|9=>9|66=>151|70=>155|76=>157|77=>158|n=>n,fun|n=>n⟩
theorem O3:Go.Proofs.SlLaysF0.n6 Tryz.prog aeQ:={
 mixed:=by kernel_rfl,
 f6:=⟨Tryz.f36.name,by decide,Tryz.func36.trans (congrArg aqV (by kernel_rfl))⟩,
 f14:=⟨Tryz.f70.name,by decide,Tryz.func70.trans (congrArg aqV (by kernel_rfl))⟩,
 f15:=Tryz.func71.trans (congrArg aqV (by kernel_rfl)),
 f20:=⟨Tryz.f95.name,by decide,Tryz.func95.trans (congrArg aqV (by kernel_rfl))⟩,
 f21:=⟨Tryz.f96.name,by decide,Tryz.func96.trans (congrArg aqV (by kernel_rfl))⟩,
 f22:=⟨Tryz.f97.name,by decide,Tryz.func97.trans (congrArg aqV (by kernel_rfl))⟩,
 f23:=⟨Tryz.f98.name,by decide,Tryz.func98.trans (congrArg aqV (by kernel_rfl))⟩,
 f24:=⟨Tryz.f99.name,by decide,Tryz.func99.trans (congrArg aqV (by kernel_rfl))⟩,
 f25:=⟨Tryz.f100.name,by decide,Tryz.func100.trans (congrArg aqV (by kernel_rfl))⟩,
 f26:=⟨Tryz.f101.name,by decide,Tryz.func101.trans (congrArg aqV (by kernel_rfl))⟩,
 f27:=⟨Tryz.f102.name,by decide,Tryz.func102.trans (congrArg aqV (by kernel_rfl))⟩,
 f28:=Tryz.func103.trans (congrArg aqV (by kernel_rfl)),
 f29:=Tryz.func104.trans (congrArg aqV (by kernel_rfl)),
 f46:=⟨Tryz.f108.name,by decide,Tryz.func108.trans (congrArg aqV (by kernel_rfl))⟩,
 f47:=Tryz.func109.trans (congrArg aqV (by kernel_rfl)),
 f48:=Tryz.func110.trans (congrArg aqV (by kernel_rfl)),
 f49:=⟨Tryz.f111.name,by decide,Tryz.func111.trans (congrArg aqV (by kernel_rfl))⟩,
 f50:=⟨Tryz.f112.name,by decide,Tryz.func112.trans (congrArg aqV (by kernel_rfl))⟩,
 f57:=⟨Tryz.f115.name,by decide,Tryz.func115.trans (congrArg aqV (by kernel_rfl))⟩,
 t0:=Tryz.underlying0,
 a0:=Tryz.isAgg0,
 z0:=Tryz.sizeOf0,
 v0:=Tryz.zeroValue0,
 t3:=Tryz.underlying3,
 a3:=Tryz.isAgg3,
 z3:=Tryz.sizeOf3,
 v3:=Tryz.zeroValue3,
 t4:=Tryz.underlying4,
 a4:=Tryz.isAgg4,
 z4:=Tryz.sizeOf4,
 v4:=Tryz.zeroValue4,
 t5:=Tryz.underlying5,
 a5:=Tryz.isAgg5,
 z5:=Tryz.sizeOf5,
 v5:=Tryz.zeroValue5,
 t9:=Tryz.underlying9,
 a9:=Tryz.isAgg9,
 z9:=Tryz.sizeOf9,
 v9:=Tryz.zeroValue9,
 t22:=Tryz.underlying44,
 a22:=Tryz.isAgg44,
 z22:=Tryz.sizeOf44,
 v22:=Tryz.zeroValue44,
 t25:=Tryz.underlying77,
 a25:=Tryz.isAgg77,
 z25:=Tryz.sizeOf77,
 v25:=Tryz.zeroValue77,
 t39:=Tryz.underlying109,
 a39:=Tryz.isAgg109,
 z39:=Tryz.sizeOf109,
 v39:=Tryz.zeroValue109,
 t45:=Tryz.underlying139,
 a45:=Tryz.isAgg139,
 z45:=Tryz.sizeOf139,
 v45:=Tryz.zeroValue139,
 t46:=Tryz.underlying140,
 a46:=Tryz.isAgg140,
 z46:=Tryz.sizeOf140,
 v46:=Tryz.zeroValue140,
 t50:=Tryz.underlying118,
 a50:=Tryz.isAgg118,
 z50:=Tryz.sizeOf118,
 v50:=Tryz.zeroValue118,
 t53:=Tryz.underlying146,
 a53:=Tryz.isAgg146,
 z53:=Tryz.sizeOf146,
 v53:=Tryz.zeroValue146,
 t55:=Tryz.underlying148,
 a55:=Tryz.isAgg148,
 z55:=Tryz.sizeOf148,
 v55:=Tryz.zeroValue148,
 t66:=Tryz.underlying151,
 a66:=Tryz.isAgg151,
 z66:=Tryz.sizeOf151,
 v66:=Tryz.zeroValue151,
 t70:=Tryz.underlying155,
 a70:=Tryz.isAgg155,
 z70:=Tryz.sizeOf155,
 v70:=Tryz.zeroValue155,
 t76:=Tryz.underlying157,
 a76:=Tryz.isAgg157,
 z76:=Tryz.sizeOf157,
 v76:=Tryz.zeroValue157,
 t77:=Tryz.underlying158,
 a77:=Tryz.isAgg158,
 z77:=Tryz.sizeOf158,
 v77:=Tryz.zeroValue158}
def ae5:Go.Shelf.Ren:=⟨fun|5=>38|7=>72|n=>n,fun|22=>3|3=>3|4=>4|n=>n,fun|n=>n⟩
theorem Pd:Go.Proofs.SlLaysC2.n5 Tryz.prog ae5:={
 mixed:=by kernel_rfl,
 f5:=⟨Tryz.f38.name,by decide,Tryz.func38.trans (congrArg aqV (by kernel_rfl))⟩,
 f7:=⟨Tryz.f72.name,by decide,Tryz.func72.trans (congrArg aqV (by kernel_rfl))⟩,
 t3:=Tryz.underlying3,
 a3:=Tryz.isAgg3,
 z3:=Tryz.sizeOf3,
 v3:=Tryz.zeroValue3,
 t4:=Tryz.underlying4,
 a4:=Tryz.isAgg4,
 z4:=Tryz.sizeOf4,
 v4:=Tryz.zeroValue4,
 t22:=Tryz.underlying3,
 a22:=Tryz.isAgg3,
 z22:=Tryz.sizeOf3,
 v22:=Tryz.zeroValue3}
set_option maxHeartbeats 1000000 in
theorem aiK (x y:aW) (W:World):Calls Tryz.prog 37 #[.agg #[.int .i64 x.ak, .int .i64 x.ej], .agg #[.int .i64 y.ak, .int .i64 y.ej]] W fun e w'=>e= .returned (.int .i64 (fW x.ak y.ak))/\∃q sc,w'=grow (W.drewN q) sc:=by
 have pP:=fun rA=>AnyG.cmp_Compare_int Pd x.ak y.ak rA
 change ∀rA,Calls Tryz.prog 38 _ _ _ at pP
 unfold fW;generalize atW x.ak y.ak=r at pP⊢
 go_enter Tryz.func37,Tryz.ntmps37
 go_wp2_with (go_at_call 38;refine (pP _).mono ?_;rintro e w' ⟨rfl,rfl⟩)
 go_ret
 exact ⟨rfl,0,_,by rw[alloc_eq_grow,alloc_eq_grow,grow_grow];rfl⟩
set_option maxHeartbeats 1000000 in
theorem aiL (x y:aW) (W:World):Calls Tryz.prog 64 #[.agg #[.int .i64 x.ak, .int .i64 x.ej], .agg #[.int .i64 y.ak, .int .i64 y.ej]] W fun e w'=>e= .returned (.int .i64 (fW x.ak y.ak))/\∃q sc,w'=grow (W.drewN q) sc:=by
 have pP:=fun rA=>AnyG.cmp_Compare_int Pd x.ak y.ak rA
 change ∀rA,Calls Tryz.prog 38 _ _ _ at pP
 unfold fW;generalize atW x.ak y.ak=r at pP⊢
 go_enter Tryz.func64,Tryz.ntmps64
 go_wp2_with (go_at_call 38;refine (pP _).mono ?_;rintro e w' ⟨rfl,rfl⟩)
 go_ret
 exact ⟨rfl,0,_,by rw[alloc_eq_grow,alloc_eq_grow,grow_grow];rfl⟩
set_option maxHeartbeats 1000000 in
theorem aiq (x y:aW) (W:World):Calls Tryz.prog 89 #[.agg #[.int .i64 x.ak, .int .i64 x.ej], .agg #[.int .i64 y.ak, .int .i64 y.ej]] W fun e w'=>e= .returned (.int .i64 (fW x.ak y.ak))/\∃q sc,w'=grow (W.drewN q) sc:=by
 have pP:=fun rA=>AnyG.cmp_Compare_int Pd x.ak y.ak rA
 change ∀rA,Calls Tryz.prog 38 _ _ _ at pP
 unfold fW;generalize atW x.ak y.ak=r at pP⊢
 go_enter Tryz.func89,Tryz.ntmps89
 go_wp2_with (go_at_call 38;refine (pP _).mono ?_;rintro e w' ⟨rfl,rfl⟩)
 go_ret
 exact ⟨rfl,0,_,by rw[alloc_eq_grow,alloc_eq_grow,grow_grow];rfl⟩
end Go.W
end
section
set_option maxRecDepth 100000
set_option maxHeartbeats 1000000
namespace Go.W
noncomputable section
open Go.aS Go.Proofs
def A8:cf Int:=hd 3 [.int .i64] fun x=>(x,())
def aam:cf Bool:=hd 4 [.bool] fun x=>(x,())
def aaq:cf UInt8:=kq 5
def aat:cf (List UInt8):=hd 9 [.str] fun x=>(x,())
def aaj:cf (List Int):=hd 22 [.az Int A8] fun x=>(x,())
def JD:cf aC:=hd 63 [.int .i64, .str, .int .i64, .int .i64, .int .i64, .int .i64] fun x=>(x.kind,x.name,x.a,x.b,x.c,x.length,())
def aak:cf (List aC):=hd 25 [.az aC JD] fun x=>(x,())
def EA:cf aU:=hd 37 [.int .i64, .int .i64, .int .i64] fun x=>(x.ak,x.bp,x.out,())
def aal:cf (List aU):=hd 31 [.az aU EA] fun x=>(x,())
def aan:cf Act:=hd 43 [.bool, .int .i64, .int .i64, .int .i64] fun x=>(x.set,x.id,x.from_,x.to,())
def EB:cf aW:=hd 51 [.int .i64, .int .i64] fun x=>(x.ak,x.ej,())
def aao:cf (List aW):=hd 44 [.az aW EB] fun x=>(x,())
def aap:cf bk:=hd 49 [.int .i64, .az aU EA, .az aW EB] fun x=>(x.gS,x.eJ,x.dU,())
def aar:cf en:=hd 55 [.az Int A8, .int .i64] fun x=>(x.l,x.n,())
def aas:cf (List (dx×Bool)):=hd 84 [.mp dx Bool ⟨fun x=>[.int .i64 x.a0, .int .i64 x.c0],sD,84⟩] fun x=>(x,())
def aau:cf (List (Place×Int)):=hd 92 [.mp Place Int ⟨fun x=>[.int .i64 x.ak, .int .i64 x.bp],o6 .i64,92⟩] fun x=>(x,())
def aav:cf Place:=hd 96 [.int .i64, .int .i64] fun x=>(x.ak,x.bp,())
def alP:cf (List (Int×Int)):=hd 100 [.mp Int Int ⟨o6 .i64,o6 .i64,100⟩] fun x=>(x,())
def alQ:cf (List ((List UInt8)×Bool)):=hd 111 [.mp (List UInt8) Bool ⟨Cg,sD,111⟩] fun x=>(x,())
def alx:cf dx:=hd 114 [.int .i64, .int .i64] fun x=>(x.a0,x.c0,())
def aly:cf (List (Step×Int)):=hd 116 [.mp Step Int ⟨fun x=>[.int .i64 x.ak, .int .i64 x.bp],o6 .i64,116⟩] fun x=>(x,())
def alz:cf Step:=hd 122 [.int .i64, .int .i64] fun x=>(x.ak,x.bp,())
def alA:cf dK:=hd 125 [.az aC JD, .az aU EA, .az aW EB, .mp dx Bool ⟨fun x=>[.int .i64 x.a0, .int .i64 x.c0],sD,84⟩] fun x=>(x.l,x.r,x.cV,x.seen,())
def alB:cf (Option Nat):=hd 127 [.fn] fun x=>(x,())
def alC:cf (List (Int×Bool)):=hd 130 [.mp Int Bool ⟨o6 .i64,sD,130⟩] fun x=>(x,())
def alD:cf (List (cd×Bool)):=hd 132 [.mp cd Bool ⟨fun x=>[.int .i64 x.ak, .int .i64 x.node],sD,132⟩] fun x=>(x,())
def alE:cf (Option Nat):=hd 133 [.fn] fun x=>(x,())
def alF:cf cd:=hd 135 [.int .i64, .int .i64] fun x=>(x.ak,x.node,())
structure aah where
 au:Type
 T:cf au
 bS:au->List aqX
def Qw:Nat->aah
 |3=>⟨Int,A8,o6 .i64⟩
 |4=>⟨Bool,aam,sD⟩
 |5=>⟨UInt8,aaq,fun _=>[]⟩
 |9=>⟨(List UInt8),aat,Cg⟩
 |22=>⟨(List Int),aaj,fun _=>[]⟩
 |63=>⟨aC,JD,fun _=>[]⟩
 |25=>⟨(List aC),aak,fun _=>[]⟩
 |37=>⟨aU,EA,fun _=>[]⟩
 |31=>⟨(List aU),aal,fun _=>[]⟩
 |43=>⟨Act,aan,fun _=>[]⟩
 |51=>⟨aW,EB,fun _=>[]⟩
 |44=>⟨(List aW),aao,fun _=>[]⟩
 |49=>⟨bk,aap,fun _=>[]⟩
 |55=>⟨en,aar,fun _=>[]⟩
 |84=>⟨(List (dx×Bool)),aas,fun _=>[]⟩
 |92=>⟨(List (Place×Int)),aau,fun _=>[]⟩
 |96=>⟨Place,aav,fun x=>[.int .i64 x.ak, .int .i64 x.bp]⟩
 |100=>⟨(List (Int×Int)),alP,fun _=>[]⟩
 |111=>⟨(List ((List UInt8)×Bool)),alQ,fun _=>[]⟩
 |114=>⟨dx,alx,fun x=>[.int .i64 x.a0, .int .i64 x.c0]⟩
 |116=>⟨(List (Step×Int)),aly,fun _=>[]⟩
 |122=>⟨Step,alz,fun x=>[.int .i64 x.ak, .int .i64 x.bp]⟩
 |125=>⟨dK,alA,fun _=>[]⟩
 |127=>⟨(Option Nat),alB,fun _=>[]⟩
 |130=>⟨(List (Int×Bool)),alC,fun _=>[]⟩
 |132=>⟨(List (cd×Bool)),alD,fun _=>[]⟩
 |133=>⟨(Option Nat),alE,fun _=>[]⟩
 |135=>⟨cd,alF,fun x=>[.int .i64 x.ak, .int .i64 x.node]⟩
 |_=>⟨Bool,Dj 4,sD⟩
def D (t:Nat):Type:=(Qw t).au
def G:lP D:=⟨fun t=>(Qw t).T,fun t=>(Qw t).bS⟩
def ZF:fw Tryz.prog G 3:=ia [.int .i64] (fun (x:Int)=>(x,())) (fun y=>(y.1:Int)) (fun _=>rfl) (fun _=>rfl) (0:Int) Tryz.t3 (.int .i64 0) rfl Tryz.type3 rfl rfl rfl rfl rfl rfl (fun z=>⟨rfl,trivial⟩) rfl
def anD:fw Tryz.prog G 4:=ia [.bool] (fun (x:Bool)=>(x,())) (fun y=>(y.1:Bool)) (fun _=>rfl) (fun _=>rfl) (aqZ:Bool) Tryz.t4 (.bool aqZ) rfl Tryz.type4 rfl rfl rfl rfl rfl rfl (fun z=>⟨rfl,trivial⟩) rfl
def anH:fw Tryz.prog G 5:=anO (fun (x:UInt8)=>x) (fun x=>x) (fun x=>x) (fun o=>by cases o<;>rfl) (fun _=>rfl) (fun _=>rfl) Tryz.t5 rfl rfl (fun _ _ _=>Iff.rfl) Tryz.type5 rfl rfl rfl
def anM:fw Tryz.prog G 9:=ia [.str] (fun (x:(List UInt8))=>(x,())) (fun y=>(y.1:(List UInt8))) (fun _=>rfl) (fun _=>rfl) ([]:(List UInt8)) Tryz.t9 (.string ⟨#[]⟩) rfl Tryz.type9 rfl rfl rfl rfl rfl rfl (fun z=>⟨rfl,trivial⟩) rfl
def anz:fw Tryz.prog G 22:=ia [.az 3] (fun (x:(List Int))=>(x,())) (fun y=>(y.1:(List Int))) (fun _=>rfl) (fun _=>rfl) ([]:(List Int)) Tryz.t22 (.slice aqY 0 0) rfl Tryz.type22 rfl rfl rfl rfl rfl rfl (fun z=>⟨.inl ⟨rfl,rfl⟩,trivial⟩) rfl
def anK:fw Tryz.prog G 63:=ia [.int .i64, .str, .int .i64, .int .i64, .int .i64, .int .i64] (fun (x:aC)=>(x.kind,x.name,x.a,x.b,x.c,x.length,())) (fun y=>((aC.mk y.1 y.2.1 y.2.2.1 y.2.2.2.1 y.2.2.2.2.1 y.2.2.2.2.2.1):aC)) (fun _=>rfl) (fun _=>rfl) ((aC.mk 0 [] 0 0 0 0):aC) Tryz.t63 (.agg #[.int .i64 0, .string ⟨#[]⟩, .int .i64 0, .int .i64 0, .int .i64 0, .int .i64 0]) rfl Tryz.type63 rfl rfl rfl rfl rfl rfl (fun z=>⟨rfl,rfl,rfl,rfl,rfl,rfl,trivial⟩) rfl
def anA:fw Tryz.prog G 25:=ia [.az 63] (fun (x:(List aC))=>(x,())) (fun y=>(y.1:(List aC))) (fun _=>rfl) (fun _=>rfl) ([]:(List aC)) Tryz.t25 (.slice aqY 0 0) rfl Tryz.type25 rfl rfl rfl rfl rfl rfl (fun z=>⟨.inl ⟨rfl,rfl⟩,trivial⟩) rfl
def anC:fw Tryz.prog G 37:=ia [.int .i64, .int .i64, .int .i64] (fun (x:aU)=>(x.ak,x.bp,x.out,())) (fun y=>((aU.mk y.1 y.2.1 y.2.2.1):aU)) (fun _=>rfl) (fun _=>rfl) ((aU.mk 0 0 0):aU) Tryz.t37 (.agg #[.int .i64 0, .int .i64 0, .int .i64 0]) rfl Tryz.type37 rfl rfl rfl rfl rfl rfl (fun z=>⟨rfl,rfl,rfl,trivial⟩) rfl
def anB:fw Tryz.prog G 31:=ia [.az 37] (fun (x:(List aU))=>(x,())) (fun y=>(y.1:(List aU))) (fun _=>rfl) (fun _=>rfl) ([]:(List aU)) Tryz.t31 (.slice aqY 0 0) rfl Tryz.type31 rfl rfl rfl rfl rfl rfl (fun z=>⟨.inl ⟨rfl,rfl⟩,trivial⟩) rfl
def anE:fw Tryz.prog G 43:=ia [.bool, .int .i64, .int .i64, .int .i64] (fun (x:Act)=>(x.set,x.id,x.from_,x.to,())) (fun y=>((Act.mk y.1 y.2.1 y.2.2.1 y.2.2.2.1):Act)) (fun _=>rfl) (fun _=>rfl) ((Act.mk aqZ 0 0 0):Act) Tryz.t43 (.agg #[.bool aqZ, .int .i64 0, .int .i64 0, .int .i64 0]) rfl Tryz.type43 rfl rfl rfl rfl rfl rfl (fun z=>⟨rfl,rfl,rfl,rfl,trivial⟩) rfl
def anI:fw Tryz.prog G 51:=ia [.int .i64, .int .i64] (fun (x:aW)=>(x.ak,x.ej,())) (fun y=>((aW.mk y.1 y.2.1):aW)) (fun _=>rfl) (fun _=>rfl) ((aW.mk 0 0):aW) Tryz.t51 (.agg #[.int .i64 0, .int .i64 0]) rfl Tryz.type51 rfl rfl rfl rfl rfl rfl (fun z=>⟨rfl,rfl,trivial⟩) rfl
def anF:fw Tryz.prog G 44:=ia [.az 51] (fun (x:(List aW))=>(x,())) (fun y=>(y.1:(List aW))) (fun _=>rfl) (fun _=>rfl) ([]:(List aW)) Tryz.t44 (.slice aqY 0 0) rfl Tryz.type44 rfl rfl rfl rfl rfl rfl (fun z=>⟨.inl ⟨rfl,rfl⟩,trivial⟩) rfl
def anG:fw Tryz.prog G 49:=ia [.int .i64, .az 37, .az 51] (fun (x:bk)=>(x.gS,x.eJ,x.dU,())) (fun y=>((bk.mk y.1 y.2.1 y.2.2.1):bk)) (fun _=>rfl) (fun _=>rfl) ((bk.mk 0 [] []):bk) Tryz.t49 (.agg #[.int .i64 0, .slice aqY 0 0, .slice aqY 0 0]) rfl Tryz.type49 rfl rfl rfl rfl rfl rfl (fun z=>⟨rfl, .inl ⟨rfl,rfl⟩, .inl ⟨rfl,rfl⟩,trivial⟩) rfl
def anJ:fw Tryz.prog G 55:=ia [.az 3, .int .i64] (fun (x:en)=>(x.l,x.n,())) (fun y=>((en.mk y.1 y.2.1):en)) (fun _=>rfl) (fun _=>rfl) ((en.mk [] 0):en) Tryz.t55 (.agg #[.slice aqY 0 0, .int .i64 0]) rfl Tryz.type55 rfl rfl rfl rfl rfl rfl (fun z=>⟨.inl ⟨rfl,rfl⟩,rfl,trivial⟩) rfl
def anL:fw Tryz.prog G 84:=ia [.mp 84 114 4] (fun (x:(List (dx×Bool)))=>(x,())) (fun y=>(y.1:(List (dx×Bool)))) (fun _=>rfl) (fun _=>rfl) ([]:(List (dx×Bool))) Tryz.t84 (.map aqY) rfl Tryz.type84 rfl rfl rfl rfl rfl rfl (fun z=>⟨.inl ⟨rfl,rfl⟩,trivial⟩) rfl
def anN:fw Tryz.prog G 92:=ia [.mp 92 96 3] (fun (x:(List (Place×Int)))=>(x,())) (fun y=>(y.1:(List (Place×Int)))) (fun _=>rfl) (fun _=>rfl) ([]:(List (Place×Int))) Tryz.t92 (.map aqY) rfl Tryz.type92 rfl rfl rfl rfl rfl rfl (fun z=>⟨.inl ⟨rfl,rfl⟩,trivial⟩) rfl
def ZG:fw Tryz.prog G 96:=ia [.int .i64, .int .i64] (fun (x:Place)=>(x.ak,x.bp,())) (fun y=>((Place.mk y.1 y.2.1):Place)) (fun _=>rfl) (fun _=>rfl) ((Place.mk 0 0):Place) Tryz.t96 (.agg #[.int .i64 0, .int .i64 0]) rfl Tryz.type96 rfl rfl rfl rfl rfl rfl (fun z=>⟨rfl,rfl,trivial⟩) rfl
def amh:fw Tryz.prog G 100:=ia [.mp 100 3 3] (fun (x:(List (Int×Int)))=>(x,())) (fun y=>(y.1:(List (Int×Int)))) (fun _=>rfl) (fun _=>rfl) ([]:(List (Int×Int))) Tryz.t100 (.map aqY) rfl Tryz.type100 rfl rfl rfl rfl rfl rfl (fun z=>⟨.inl ⟨rfl,rfl⟩,trivial⟩) rfl
def ami:fw Tryz.prog G 111:=ia [.mp 111 9 4] (fun (x:(List ((List UInt8)×Bool)))=>(x,())) (fun y=>(y.1:(List ((List UInt8)×Bool)))) (fun _=>rfl) (fun _=>rfl) ([]:(List ((List UInt8)×Bool))) Tryz.t111 (.map aqY) rfl Tryz.type111 rfl rfl rfl rfl rfl rfl (fun z=>⟨.inl ⟨rfl,rfl⟩,trivial⟩) rfl
def Y4:fw Tryz.prog G 114:=ia [.int .i64, .int .i64] (fun (x:dx)=>(x.a0,x.c0,())) (fun y=>((dx.mk y.1 y.2.1):dx)) (fun _=>rfl) (fun _=>rfl) ((dx.mk 0 0):dx) Tryz.t114 (.agg #[.int .i64 0, .int .i64 0]) rfl Tryz.type114 rfl rfl rfl rfl rfl rfl (fun z=>⟨rfl,rfl,trivial⟩) rfl
def amj:fw Tryz.prog G 116:=ia [.mp 116 122 3] (fun (x:(List (Step×Int)))=>(x,())) (fun y=>(y.1:(List (Step×Int)))) (fun _=>rfl) (fun _=>rfl) ([]:(List (Step×Int))) Tryz.t116 (.map aqY) rfl Tryz.type116 rfl rfl rfl rfl rfl rfl (fun z=>⟨.inl ⟨rfl,rfl⟩,trivial⟩) rfl
def Y5:fw Tryz.prog G 122:=ia [.int .i64, .int .i64] (fun (x:Step)=>(x.ak,x.bp,())) (fun y=>((Step.mk y.1 y.2.1):Step)) (fun _=>rfl) (fun _=>rfl) ((Step.mk 0 0):Step) Tryz.t122 (.agg #[.int .i64 0, .int .i64 0]) rfl Tryz.type122 rfl rfl rfl rfl rfl rfl (fun z=>⟨rfl,rfl,trivial⟩) rfl
def amk:fw Tryz.prog G 125:=ia [.az 63, .az 37, .az 51, .mp 84 114 4] (fun (x:dK)=>(x.l,x.r,x.cV,x.seen,())) (fun y=>((dK.mk y.1 y.2.1 y.2.2.1 y.2.2.2.1):dK)) (fun _=>rfl) (fun _=>rfl) ((dK.mk [] [] [] []):dK) Tryz.t125 (.agg #[.slice aqY 0 0, .slice aqY 0 0, .slice aqY 0 0, .map aqY]) rfl Tryz.type125 rfl rfl rfl rfl rfl rfl (fun z=>⟨.inl ⟨rfl,rfl⟩, .inl ⟨rfl,rfl⟩, .inl ⟨rfl,rfl⟩, .inl ⟨rfl,rfl⟩,trivial⟩) rfl
def aml:fw Tryz.prog G 127:=ia [.fn] (fun (x:(Option Nat))=>(x,())) (fun y=>(y.1:(Option Nat))) (fun _=>rfl) (fun _=>rfl) ((aqY:Option Nat):(Option Nat)) Tryz.t127 (.nilFunc) rfl Tryz.type127 rfl rfl rfl rfl rfl rfl (fun z=>⟨rfl,trivial⟩) rfl
def amm:fw Tryz.prog G 130:=ia [.mp 130 3 4] (fun (x:(List (Int×Bool)))=>(x,())) (fun y=>(y.1:(List (Int×Bool)))) (fun _=>rfl) (fun _=>rfl) ([]:(List (Int×Bool))) Tryz.t130 (.map aqY) rfl Tryz.type130 rfl rfl rfl rfl rfl rfl (fun z=>⟨.inl ⟨rfl,rfl⟩,trivial⟩) rfl
def amn:fw Tryz.prog G 132:=ia [.mp 132 135 4] (fun (x:(List (cd×Bool)))=>(x,())) (fun y=>(y.1:(List (cd×Bool)))) (fun _=>rfl) (fun _=>rfl) ([]:(List (cd×Bool))) Tryz.t132 (.map aqY) rfl Tryz.type132 rfl rfl rfl rfl rfl rfl (fun z=>⟨.inl ⟨rfl,rfl⟩,trivial⟩) rfl
def amo:fw Tryz.prog G 133:=ia [.fn] (fun (x:(Option Nat))=>(x,())) (fun y=>(y.1:(Option Nat))) (fun _=>rfl) (fun _=>rfl) ((aqY:Option Nat):(Option Nat)) Tryz.t133 (.nilFunc) rfl Tryz.type133 rfl rfl rfl rfl rfl rfl (fun z=>⟨rfl,trivial⟩) rfl
def Y6:fw Tryz.prog G 135:=ia [.int .i64, .int .i64] (fun (x:cd)=>(x.ak,x.node,())) (fun y=>((cd.mk y.1 y.2.1):cd)) (fun _=>rfl) (fun _=>rfl) ((cd.mk 0 0):cd) Tryz.t135 (.agg #[.int .i64 0, .int .i64 0]) rfl Tryz.type135 rfl rfl rfl rfl rfl rfl (fun z=>⟨rfl,rfl,trivial⟩) rfl
def aeF:mT Tryz.prog G 51:=aeI [.int .i64, .int .i64] (fun (x:aW)=>(x.ak,x.ej,())) (fun y=>((aW.mk y.1 y.2.1):aW)) (fun _=>rfl) _ (fun (x y:aW)=>decide (x=y)) rfl (fun (x y:aW)=>decide_eq_true_iff) Tryz.underlying51 (by kernel_rfl) (by kernel_rfl) (by kernel_rfl)
def aaE:Q3 Tryz.prog G 5:=⟨fun xs=>xs,fun xs=>xs,fun _ _ _ h=>h,fun _ _ _ _ _ _ h=>h,fun _ _ _ _ _ _ h=>h,Tryz.t5,Tryz.underlying5,Tryz.type5,rfl⟩
def am6:pD Tryz.prog G 114:=adW .i64 (inferInstance:DecidableEq dx) Y4 (fun (x:dx)=>(x.a0,x.c0,())) (fun y=>((dx.mk y.1 y.2.1):dx)) (fun _=>rfl) (e:=3) Tryz.t114 Tryz.t3 rfl Tryz.underlying114 Tryz.underlying3 Tryz.type3 rfl Tryz.type114 rfl (fun _=>rfl)
def IF:A9 Tryz.prog G 4:=anV (fun n=>n) (fun n=>n) (fun _=>rfl) Tryz.t4 Tryz.underlying4 Tryz.type4 (ahX Tryz.underlying4 Tryz.type4 rfl) (fun _=>rfl) rfl
def adU:pD Tryz.prog G 96:=MS (inferInstance:DecidableEq Place) ZG [.int .i64, .int .i64] (fun (x:Place)=>(x.ak,x.bp,())) (fun y=>((Place.mk y.1 y.2.1):Place)) (fun _=>rfl) _ Tryz.t96 rfl Tryz.underlying96 Tryz.type96 (by kernel_rfl) rfl (by kernel_rfl) (fun _=>rfl) (fun _=>rfl)
def IE:A9 Tryz.prog G 3:=anW .i64 (fun n=>n) (fun n=>n) (fun _=>rfl) Tryz.t3 Tryz.underlying3 Tryz.type3 (alK Tryz.underlying3 Tryz.type3 rfl) (fun _=>rfl) rfl
def MR:pD Tryz.prog G 3:=adV .i64 (fun n=>n) (inferInstance:DecidableEq Int) Tryz.t3 Tryz.underlying3 (aii Tryz.underlying3 Tryz.type3 rfl) (fun _=>rfl)
def adT:pD Tryz.prog G 9:=adX (fun n=>n) (inferInstance:DecidableEq (List UInt8)) Tryz.underlying9 (aij Tryz.underlying9 Tryz.type9 rfl) (fun _=>rfl)
def am7:pD Tryz.prog G 122:=MS (inferInstance:DecidableEq Step) Y5 [.int .i64, .int .i64] (fun (x:Step)=>(x.ak,x.bp,())) (fun y=>((Step.mk y.1 y.2.1):Step)) (fun _=>rfl) _ Tryz.t122 rfl Tryz.underlying122 Tryz.type122 (by kernel_rfl) rfl (by kernel_rfl) (fun _=>rfl) (fun _=>rfl)
def am8:pD Tryz.prog G 135:=MS (inferInstance:DecidableEq cd) Y6 [.int .i64, .int .i64] (fun (x:cd)=>(x.ak,x.node,())) (fun y=>((cd.mk y.1 y.2.1):cd)) (fun _=>rfl) _ Tryz.t135 rfl Tryz.underlying135 Tryz.type135 (by kernel_rfl) rfl (by kernel_rfl) (fun _=>rfl) (fun _=>rfl)
def alG:Q2 Tryz.prog G 150:=⟨3,64,ZF,Tryz.t150, .agg #[.int .i64 0, .int .i64 0, .int .i64 0, .int .i64 0, .int .i64 0, .int .i64 0, .int .i64 0, .int .i64 0, .int .i64 0, .int .i64 0, .int .i64 0, .int .i64 0, .int .i64 0, .int .i64 0, .int .i64 0, .int .i64 0, .int .i64 0, .int .i64 0, .int .i64 0, .int .i64 0, .int .i64 0, .int .i64 0, .int .i64 0, .int .i64 0, .int .i64 0, .int .i64 0, .int .i64 0, .int .i64 0, .int .i64 0, .int .i64 0, .int .i64 0, .int .i64 0, .int .i64 0, .int .i64 0, .int .i64 0, .int .i64 0, .int .i64 0, .int .i64 0, .int .i64 0, .int .i64 0, .int .i64 0, .int .i64 0, .int .i64 0, .int .i64 0, .int .i64 0, .int .i64 0, .int .i64 0, .int .i64 0, .int .i64 0, .int .i64 0, .int .i64 0, .int .i64 0, .int .i64 0, .int .i64 0, .int .i64 0, .int .i64 0, .int .i64 0, .int .i64 0, .int .i64 0, .int .i64 0, .int .i64 0, .int .i64 0, .int .i64 0, .int .i64 0],Tryz.underlying150,Tryz.type150,rfl,rfl,rfl,rfl,rfl⟩
def Iz:pH Tryz.prog G:=Qu (t:=51) [.int .i64, .int .i64] (fun (x:aW)=>(x.ak,x.ej,())) rfl rfl ((aW.mk 0 0):aW) (fun (x:aW)=>x.ak) O3 36 37 rfl (by kernel_rfl) Tryz.isAgg51 Tryz.sizeOf51 (aup Tryz.func37 (by kernel_rfl) rfl) rfl aiK
def ahS:pH Tryz.prog G:=Qu (t:=51) [.int .i64, .int .i64] (fun (x:aW)=>(x.ak,x.ej,())) rfl rfl ((aW.mk 0 0):aW) (fun (x:aW)=>x.ak) O3 36 64 rfl (by kernel_rfl) Tryz.isAgg51 Tryz.sizeOf51 (aup Tryz.func64 (by kernel_rfl) rfl) rfl aiL
def ahT:pH Tryz.prog G:=Qu (t:=51) [.int .i64, .int .i64] (fun (x:aW)=>(x.ak,x.ej,())) rfl rfl ((aW.mk 0 0):aW) (fun (x:aW)=>x.ak) O3 36 89 rfl (by kernel_rfl) Tryz.isAgg51 Tryz.sizeOf51 (aup Tryz.func89 (by kernel_rfl) rfl) rfl aiq
def bd:dB Tryz.prog D where
 G:=G
 S:=[Iz,ahS,ahT]
 I:=fun t=>match t with|3=>aqV ZF|4=>aqV anD|5=>aqV anH|9=>aqV anM|22=>aqV anz|63=>aqV anK|25=>aqV anA|37=>aqV anC|31=>aqV anB|43=>aqV anE|51=>aqV anI|44=>aqV anF|49=>aqV anG|55=>aqV anJ|84=>aqV anL|92=>aqV anN|96=>aqV ZG|100=>aqV amh|111=>aqV ami|114=>aqV Y4|116=>aqV amj|122=>aqV Y5|125=>aqV amk|127=>aqV aml|130=>aqV amm|132=>aqV amn|133=>aqV amo|135=>aqV Y6|_=>aqY
 A:=fun t=>match t with|150=>aqV alG|_=>aqY
 Jj:=fun k v=>match k,v with|3,3=>aqV (wk MR IE)|3,4=>aqV (wk MR IF)|9,4=>aqV (wk adT IF)|96,3=>aqV (wk adU IE)|114,4=>aqV (wk am6 IF)|122,3=>aqV (wk am7 IE)|135,4=>aqV (wk am8 IF)|_,_=>aqY
 B:=fun t=>match t with|5=>aqV aaE|_=>aqY
 Q:=fun t=>match t with|51=>aqV aeF|_=>aqY
 F:=fun _ _ _=>aqZ
 C:=fun _ _ _ _ _=>aqY
def vq (N:Nat):cA bd:=cA.nil
def Ld:b4 D:=⟨6,1,[.v 0 (.az 3)],[],aqY,0,[.o 2 (.box 55)],[(2, .box 0 0)],[.tmp 2],aqZ⟩
def Sq (N:Nat):Ld.F:=fun r x=>AD N x.1
theorem api (N:Nat):b3 bd Ld (Sq N):=aA.fn (aA.nil:aA (vq N).aK (bn Tryz.f6)) Tryz.func6
def SC (N:Nat):cA bd:=(vq N).db Ld (Sq N) (api N)
def Ky:b4 D:=⟨45,1,[.v 0 (.int .i64)],[],aqY,0,[.v 2 .str],[],[.tmp 2],aqW⟩
def RK (N:Nat):Ky.F:=fun r x=>xN N x.1
theorem aoE (N:Nat):b3 bd Ky (RK N):=aA.fn (aA.nil:aA (SC N).aK (bn Tryz.f45)) Tryz.func45
def Js (N:Nat):cA bd:=(SC N).db Ky (RK N) (aoE N)
def alo (N:Nat):aA (Js N).aK (bn Tryz.f20):=aA.aO aA.nil ⟨[1,1,0,1],[.o 0 (.recv 55), .v 5 (.int .i64), .v 11 .bool],[(0, .box 0 0)],[1],[⟨.normal,[.v 5 (.int .i64)],[]⟩],[0,1]⟩ fun x=>Io N x.1 x.2.1 x.2.2.1
def alp (N:Nat):aA (Js N).aK (bn Tryz.f20):=aA.aO (alo N) ⟨[1,1,1,1,1,0,1],[.o 0 (.recv 55), .v 1 (.int .i64), .v 5 (.int .i64), .v 51 .bool],[(0, .box 0 0)],[1],[⟨.normal,[.v 5 (.int .i64)],[]⟩],[0]⟩ fun x=>Qc N x.2.1 x.2.2.1 x.2.2.2.1
def KJ:b4 D:=⟨20,2,[.v 1 (.int .i64)],[],aqV (0,55),2,[.v 4 (.int .i64), .u 0 (.recv 55)],[],[.tmp 4],aqZ⟩
def RV (N:Nat):KJ.F:=fun r x=>kJ N r x.1
theorem aoP (N:Nat):b3 bd KJ (RV N):=aA.fn (alp N) Tryz.func20
def SM (N:Nat):cA bd:=(Js N).db KJ (RV N) (aoP N)
def KK:b4 D:=⟨46,2,[.v 1 (.az 3)],[],aqV (0,55),2,[.v 4 (.int .i64), .u 0 (.recv 55)],[],[.tmp 4],aqZ⟩
def RW (N:Nat):KK.F:=fun r x=>I4 N r x.1
theorem aoQ (N:Nat):b3 bd KK (RW N):=aA.fn (aA.nil:aA (SM N).aK (bn Tryz.f46)) Tryz.func46
def SU (N:Nat):cA bd:=(SM N).db KK (RW N) (aoQ N)
def rB (N:Nat):oG bd:=(SU N).aK.oP fun x bG ae=>match x,bG,ae with| .tmp 42,aqY,aqV (.tmp 43)=>1| .tmp 45,aqV (.tmp 47),aqY=>1| .tmp 80,aqY,aqV (.tmp 83)=>2| .tmp 178,aqV (.const _),aqY=>2|_,_,_=>0
def ajX (N:Nat):aA (rB N) (bn Tryz.f18):=aA.aO aA.nil ⟨[1,1,1,0,1],[.o 0 (.recv 55), .o 5 (.az 63), .o 6 (.az 3), .v 17 .bool],[(0, .box 0 0),(5, .c (.own 1)),(6, .c (.own 2))],[1,1,0],[⟨.normal,[.o 6 (.az 3)],[(6, .c (.own 3))]⟩],[0,1,5,7]⟩ fun x=>H5 N x.2.2.1 x.2.2.2.1
def ajZ (N:Nat):aA (rB N) (bn Tryz.f18):=aA.aO (ajX N) ⟨[1,1,1,1,0,0,0,0,0],[.o 0 (.recv 55), .v 1 (.int .i64), .o 5 (.az 63), .o 6 (.az 3), .v 7 (.int .i64)],[(0, .box 0 0),(5, .c (.own 1)),(6, .c (.own 2))],[1,1,1],[⟨.normal,[.v 33 .bool],[]⟩],[0,1,5,6,7]⟩ fun x=>H6 N x.2.1 x.2.2.1 x.2.2.2.1 x.2.2.2.2.1
def aj1 (N:Nat):aA (rB N) (bn Tryz.f18):=aA.aO (ajZ N) ⟨[1,1,1,1,0,0,0,1,0,1,1,1,1,0,1,0,0,1],[.o 0 (.recv 55), .o 5 (.az 63), .o 6 (.az 3), .o 10 (.box 63), .v 55 (.int .i64), .v 96 .bool],[(0, .box 0 0),(5, .c (.own 1)),(6, .c (.own 2)),(10, .box 3 0)],[1,1,1,1],[⟨.normal,[.v 96 .bool],[]⟩],[0,1,5,6,7,9,10,55]⟩ fun x=>H8 N x.2.2.2.2.1 x.2.2.2.2.2.1
def aj2 (N:Nat):aA (rB N) (bn Tryz.f18):=aA.aO (aj1 N) ⟨[1,1,1,1,0,0,0,1,0,1,1,1,1,0,1,0,1,1,1,1,1,1,1,0],[.o 0 (.recv 55), .o 5 (.az 63), .o 6 (.az 3), .o 10 (.box 63)],[(0, .box 0 0),(5, .c (.own 1)),(6, .c (.own 2)),(10, .box 3 0)],[2,1,1,1],[⟨.normal,[.u 0 (.recv 55), .v 72 .bool],[]⟩],[0,1,5,6,7,10]⟩ fun x=>PQ N x.1 x.2.2.1
def aj0 (N:Nat):aA (rB N) (bn Tryz.f18):=aA.aO (aj2 N) ⟨[1,1,1,1,0,0,0,1,0,1,1,1,1,0,1],[.o 0 (.recv 55), .o 5 (.az 63), .o 6 (.az 3), .v 7 (.int .i64), .v 9 (.int .i64), .o 10 (.box 63), .v 55 (.int .i64)],[(0, .box 0 0),(5, .c (.own 1)),(6, .c (.own 2)),(10, .box 3 0)],[2,1,0,2],[⟨.normal,[.u 0 (.recv 55), .o 6 (.az 3), .v 7 (.int .i64), .u 3 (.box 63)],[(6, .c (.own 4))]⟩],[0,1,5,10]⟩ fun x=>H7 N x.1 x.2.2.1 x.2.2.2.1 x.2.2.2.2.1 x.2.2.2.2.2.1 x.2.2.2.2.2.2.1
def ajY (N:Nat):aA (rB N) (bn Tryz.f18):=aA.dg (aj0 N) N ⟨[1,1,1,1,0,0],[.o 0 (.recv 55), .v 1 (.int .i64), .o 5 (.az 63), .o 6 (.az 3), .v 7 (.int .i64)],[(0, .box 0 0),(5, .c (.own 1)),(6, .c (.own 2))],[2,0,0],[⟨.exit 0,[.u 0 (.recv 55), .o 5 (.az 63), .o 6 (.az 3), .v 7 (.int .i64)],[(5, .c (.own 3)),(6, .c (.own 4))]⟩],[0]⟩ fun n x=>DA N x.2.1 n x.1 x.2.2.1 x.2.2.2.1 x.2.2.2.2.1
def aj4 (N:Nat):aA (rB N) (bn Tryz.f18):=aA.aO (ajY N) ⟨[1,1,1,1,1,0,0,0,0,0],[.o 0 (.recv 55), .o 5 (.az 63), .o 6 (.az 3), .v 7 (.int .i64)],[(0, .box 0 0),(5, .c (.own 1)),(6, .c (.own 2))],[1,1,1],[⟨.normal,[.v 161 .bool],[]⟩],[0,5,6,7]⟩ fun x=>H9 N x.2.1 x.2.2.1 x.2.2.2.1
def aj5 (N:Nat):aA (rB N) (bn Tryz.f18):=aA.aO (aj4 N) ⟨[1,1,1,1,1,0,0,0,1,0,0,1],[.o 0 (.recv 55), .o 5 (.az 63), .o 6 (.az 3), .v 7 (.int .i64), .v 164 .bool],[(0, .box 0 0),(5, .c (.own 1)),(6, .c (.own 2))],[1,0,1],[⟨.normal,[.o 5 (.az 63), .v 7 (.int .i64)],[(5, .c (.own 3))]⟩],[0,6]⟩ fun x=>P6 N x.2.1 x.2.2.1 x.2.2.2.1 x.2.2.2.2.1
def aj3 (N:Nat):aA (rB N) (bn Tryz.f18):=aA.dg (aj5 N) N ⟨[1,1,1,1,1,0,0],[.o 0 (.recv 55), .o 5 (.az 63), .o 6 (.az 3), .v 7 (.int .i64)],[(0, .box 0 0),(5, .c (.own 1)),(6, .c (.own 2))],[2,0,0],[⟨.exit 3,[.u 0 (.recv 55), .o 5 (.az 63)],[(5, .c (.own 3))]⟩],[0]⟩ fun n x=>DB N n x.1 x.2.1 x.2.2.1 x.2.2.2.1
def Kt:b4 D:=⟨18,2,[.v 1 (.int .i64)],[],aqV (0,55),2,[.o 4 (.az 63), .u 0 (.recv 55)],[(4, .c (.own 1))],[.tmp 4],aqZ⟩
def RF (N:Nat):Kt.F:=fun r x=>D5 N r x.1
theorem aoz (N:Nat):b3 bd Kt (RF N):=aA.fn (aj3 N) Tryz.func18
def Ju (N:Nat):cA bd:=(SU N).db Kt (RF N) (aoz N)
def akp (N:Nat):aA (Ju N).aK (bn Tryz.f19):=aA.aO aA.nil ⟨[1,1,0,1,0,0,1,0],[.v 0 (.az 63), .o 3 (.az 3), .v 4 (.int .i64)],[(3, .c (.own 0))],[0],[⟨.normal,[.o 3 (.az 3)],[(3, .c (.own 1))]⟩],[0,4]⟩ fun x=>PI N x.1 x.2.1 x.2.2.1
def ako (N:Nat):aA (Ju N).aK (bn Tryz.f19):=aA.dg (akp N) N ⟨[1,1,0,1,0],[.v 0 (.az 63), .o 3 (.az 3), .v 4 (.int .i64)],[(3, .c (.own 0))],[0],[⟨.exit 0,[.o 3 (.az 3)],[(3, .c (.own 1))]⟩],[]⟩ fun n x=>zR N x.1 n x.2.1 x.2.2.1
def Kl:b4 D:=⟨19,1,[.v 0 (.az 63)],[],aqY,0,[.o 2 (.az 3)],[(2, .c (.own 0))],[.tmp 2],aqZ⟩
def Ry (N:Nat):Kl.F:=fun r x=>D4 N x.1
theorem aoq (N:Nat):b3 bd Kl (Ry N):=aA.fn (ako N) Tryz.func19
def Jw (N:Nat):cA bd:=(Ju N).db Kl (Ry N) (aoq N)
def al1 (N:Nat):aA (Jw N).aK (bn Tryz.f23):=aA.aO aA.nil ⟨[1,0,0],[.v 0 (.az 63), .v 1 (.int .i64)],[],[],[⟨.normal,[.v 12 .bool],[]⟩],[0,1]⟩ fun x=>Qo N x.1 x.2.1
def al2 (N:Nat):aA (Jw N).aK (bn Tryz.f23):=aA.aO (al1 N) ⟨[1,1,0,1,0,0,1],[.v 17 (.int .i64), .v 18 .bool],[],[],[⟨.normal,[.v 18 .bool],[]⟩],[0,1,17]⟩ fun x=>Qp N x.1 x.2.1
def K8:b4 D:=⟨23,2,[.v 0 (.az 63), .v 1 (.int .i64)],[],aqY,0,[.o 4 (.az 3)],[(4, .c (.own 0))],[.tmp 4],aqZ⟩
def Sk (N:Nat):K8.F:=fun r x=>pA N x.1 x.2.1
theorem apd (N:Nat):b3 bd K8 (Sk N):=aA.fn (al2 N) Tryz.func23
def Tg (N:Nat):cA bd:=(Jw N).db K8 (Sk N) (apd N)
def amb (N:Nat):aA (Tg N).aK (bn Tryz.f53):=aA.dg aA.nil N ⟨[1,0,1,0],[.v 0 (.az 3), .v 1 (.int .i64), .v 5 (.int .i64)],[],[],[⟨.exit 0,[],[]⟩,⟨.ret,[.v 4 .bool],[]⟩],[]⟩ fun n x=>uS N x.1 x.2.1 n x.2.2.1
def Le:b4 D:=⟨53,2,[.v 0 (.az 3), .v 1 (.int .i64)],[],aqY,0,[.v 4 .bool],[],[.tmp 4],aqW⟩
def Sr (N:Nat):Le.F:=fun r x=>AE N x.1 x.2.1
theorem apj (N:Nat):b3 bd Le (Sr N):=aA.fn (amb N) Tryz.func53
def Jz (N:Nat):cA bd:=(Tg N).db Le (Sr N) (apj N)
def ajQ (N:Nat):aA (Jz N).aK (bn Tryz.f24):=aA.aO aA.nil ⟨[1,0,1,0,0,1,0,0,0],[.v 0 (.az 63), .v 1 (.int .i64), .v 2 (.int .i64), .v 7 (.int .i64)],[],[],[⟨.normal,[.v 23 .bool],[]⟩],[0,1,2,7]⟩ fun x=>PO N x.1 x.2.1 x.2.2.1 x.2.2.2.1
def ajP (N:Nat):aA (Jz N).aK (bn Tryz.f24):=aA.dg (ajQ N) N ⟨[1,0,1,0],[.v 0 (.az 63), .v 1 (.int .i64), .v 2 (.int .i64), .v 7 (.int .i64)],[],[],[⟨.exit 0,[],[]⟩,⟨.ret,[.v 6 (.int .i64)],[]⟩],[]⟩ fun n x=>uX N x.1 x.2.1 x.2.2.1 n x.2.2.2.1
def Kr:b4 D:=⟨24,3,[.v 0 (.az 63), .v 1 (.int .i64), .v 2 (.int .i64)],[],aqY,0,[.v 6 (.int .i64)],[],[.tmp 6],aqW⟩
def RD (N:Nat):Kr.F:=fun r x=>rl N x.1 x.2.1 x.2.2.1
theorem aox (N:Nat):b3 bd Kr (RD N):=aA.fn (ajP N) Tryz.func24
def Ts (N:Nat):cA bd:=(Jz N).db Kr (RD N) (aox N)
def KC:b4 D:=⟨25,3,[.v 0 (.az 63), .v 1 (.int .i64), .v 2 (.int .i64)],[],aqY,0,[.o 6 (.az 3)],[(6, .c (.own 0))],[.tmp 6],aqZ⟩
def RO (N:Nat):KC.F:=fun r x=>xO N x.1 x.2.1 x.2.2.1
theorem aoI (N:Nat):b3 bd KC (RO N):=aA.fn (aA.nil:aA (Ts N).aK (bn Tryz.f25)) Tryz.func25
def Jq (N:Nat):cA bd:=(Ts N).db KC (RO N) (aoI N)
def ak8 (N:Nat):aA (Jq N).aK (bn Tryz.f9):=aA.aO aA.nil ⟨[1,1,1,1,1,1,0,1,0,0,1,0,0,1,1,1,1,0,0],[.o 0 (.recv 55), .v 1 (.az 63), .o 6 (.box 37), .o 8 (.az 37), .v 10 (.int .i64), .o 11 (.az 3)],[(0, .box 0 0),(6, .box 1 0),(8, .c (.own 2)),(11, .c (.own 3))],[2,1,1,1],[⟨.normal,[.u 0 (.recv 55), .v 76 .bool],[]⟩],[0,1,6,8,9,11]⟩ fun x=>Ih N x.1 x.2.1 x.2.2.2.2.1 x.2.2.2.2.2.1
def ak7 (N:Nat):aA (Jq N).aK (bn Tryz.f9):=aA.dg (ak8 N) N ⟨[1,1,1,1,1,1,0,1,0],[.o 0 (.recv 55), .v 1 (.az 63), .o 6 (.box 37), .o 8 (.az 37), .v 9 (.int .i64)],[(0, .box 0 0),(6, .box 1 0),(8, .c (.own 2))],[2,0,0],[⟨.exit 0,[.u 0 (.recv 55), .o 8 (.az 37)],[(8, .c (.own 3))]⟩,⟨.ret,[.u 0 (.recv 55), .o 4 (.az 37)],[(4, .c (.own 3))]⟩],[0]⟩ fun n x=>sR N x.2.1 n x.1 x.2.2.1 x.2.2.2.1 x.2.2.2.2.1
def Kx:b4 D:=⟨9,2,[.v 1 (.az 63)],[],aqV (0,55),2,[.o 4 (.az 37), .u 0 (.recv 55)],[(4, .c (.own 1))],[.tmp 4],aqZ⟩
def RJ (N:Nat):Kx.F:=fun r x=>D9 N r x.1
theorem aoD (N:Nat):b3 bd Kx (RJ N):=aA.fn (ak7 N) Tryz.func9
def Jr (N:Nat):cA bd:=(Jq N).db Kx (RJ N) (aoD N)
def alW (N:Nat):aA (Jr N).aK (bn Tryz.f7):=aA.aO aA.nil ⟨[1,1,1,1,0,1,0,0,1,0,0,1,1,0,1],[.o 0 (.recv 55), .v 6 (.az 63), .o 7 (.az 3), .o 8 (.az 43), .o 11 (.box 43), .v 43 .bool],[(0, .box 0 0),(7, .c (.own 1)),(8, .c (.own 2)),(11, .box 3 0)],[2,1,1,2],[⟨.normal,[.u 0 (.recv 55), .u 3 (.box 43)],[]⟩],[0,1,6,7,8,9,11]⟩ fun x=>HX N x.1 x.2.1 x.2.2.1 x.2.2.2.2.1 x.2.2.2.2.2.1
def alV (N:Nat):aA (Jr N).aK (bn Tryz.f7):=aA.dg (alW N) N ⟨[1,1,1,1,0,1,0],[.o 0 (.recv 55), .v 1 (.int .i64), .v 6 (.az 63), .o 7 (.az 3), .o 8 (.az 43), .v 9 (.int .i64)],[(0, .box 0 0),(7, .c (.own 1)),(8, .c (.own 2))],[2,1,0],[⟨.exit 0,[.u 0 (.recv 55), .o 8 (.az 43)],[(8, .c (.own 3))]⟩],[0,6]⟩ fun n x=>xi N x.2.1 x.2.2.1 x.2.2.2.1 n x.1 x.2.2.2.2.1 x.2.2.2.2.2.1
def K5:b4 D:=⟨7,2,[.v 1 (.int .i64)],[],aqV (0,55),2,[.v 4 (.az 63), .o 5 (.az 43), .u 0 (.recv 55)],[(5, .c (.own 1))],[.tmp 4, .tmp 5],aqZ⟩
def Sh (N:Nat):K5.F:=fun r x=>vd N r x.1
theorem apa (N:Nat):b3 bd K5 (Sh N):=aA.fn (alV N) Tryz.func7
def Eo (N:Nat):cA bd:=(Jr N).db K5 (Sh N) (apa N)
def alZ (N:Nat):aA (Eo N).aK (bn Tryz.f113):=aA.aO aA.nil ⟨[1,0,1,0,0,1,0,0,0],[.v 0 .str, .v 3 (.int .i64)],[],[],[⟨.normal,[.v 32 .bool],[]⟩],[0,3]⟩ fun x=>HZ N x.1 x.2.1
def alY (N:Nat):aA (Eo N).aK (bn Tryz.f113):=aA.dg (alZ N) N ⟨[1,0,1,0],[.v 0 .str, .v 3 (.int .i64)],[],[],[⟨.exit 0,[],[]⟩,⟨.ret,[.v 2 .bool],[]⟩],[0]⟩ fun n x=>uR N x.1 n x.2.1
def al0 (N:Nat):aA (Eo N).aK (bn Tryz.f113):=aA.aO (alY N) ⟨[1,1,0],[.v 0 .str],[],[],[⟨.normal,[.v 2 .bool],[]⟩],[]⟩ fun x=>Qn N x.1
def K7:b4 D:=⟨113,1,[.v 0 .str],[],aqY,0,[.v 2 .bool],[],[.tmp 2],aqW⟩
def Sj (N:Nat):K7.F:=fun r x=>Jb N x.1
theorem apc (N:Nat):b3 bd K7 (Sj N):=aA.fn (al0 N) Tryz.func113
def x6 (N:Nat):cA bd:=(Eo N).db K7 (Sj N) (apc N)
def akV (N:Nat):aA (x6 N).aK (bn Tryz.f106):=aA.aO aA.nil ⟨[1,1,0,0],[.o 5 (.box 63), .o 6 (.az 3)],[(5, .box 0 0),(6, .c (.own 1))],[1,1],[⟨.normal,[.v 23 .bool],[]⟩],[5,6]⟩ fun x=>Qi N x.1 x.2.1
def akX (N:Nat):aA (x6 N).aK (bn Tryz.f106):=aA.aO (akV N) ⟨[1,1,1,0,1,0,0,1,0,0,0],[.o 5 (.box 63), .v 6 (.az 3), .v 7 (.int .i64)],[(5, .box 0 0)],[1],[⟨.normal,[.v 51 .bool],[]⟩],[5,6,7]⟩ fun x=>Qj N x.2.1 x.2.2.1
def akW (N:Nat):aA (x6 N).aK (bn Tryz.f106):=aA.dg (akX N) N ⟨[1,1,1,0,1,0],[.o 5 (.box 63), .v 6 (.az 3), .v 7 (.int .i64)],[(5, .box 0 0)],[1],[⟨.exit 0,[],[]⟩,⟨.ret,[.v 4 .bool],[]⟩],[5,6]⟩ fun n x=>sY N x.2.1 n x.2.2.1
def akY (N:Nat):aA (x6 N).aK (bn Tryz.f106):=aA.aO (akW N) ⟨[1,1,1,1,0,0],[.o 5 (.box 63), .v 6 (.az 3)],[(5, .box 0 0)],[1],[⟨.normal,[.v 59 .bool],[]⟩],[5]⟩ fun x=>Qk N x.1 x.2.1
def akZ (N:Nat):aA (x6 N).aK (bn Tryz.f106):=aA.aO (akY N) ⟨[1,1,1,1,1,0,1,0,0],[.o 5 (.box 63)],[(5, .box 0 0)],[1],[⟨.normal,[.v 4 .bool],[]⟩],[]⟩ fun x=>Ql N x.1
def KY:b4 D:=⟨106,2,[.v 0 (.az 63), .v 1 (.int .i64)],[],aqY,0,[.v 4 .bool],[],[.tmp 4],aqW⟩
def Sa (N:Nat):KY.F:=fun r x=>nG N x.1 x.2.1
theorem ao4 (N:Nat):b3 bd KY (Sa N):=aA.fn (akZ N) Tryz.func106
def A2 (N:Nat):cA bd:=(x6 N).db KY (Sa N) (ao4 N)
def akS (N:Nat):aA (A2 N).aK (bn Tryz.f75):=aA.dg aA.nil N ⟨[1,1,1,0,1,0,0,1,0,0,1,0,1,0],[.v 0 (.az 63), .o 3 (.eZ 3 150 64), .v 4 (.int .i64), .v 5 (.int .i64)],[(3, .eZ 0)],[1],[⟨.exit 2,[],[]⟩,⟨.ret,[.v 2 (.int .i64)],[]⟩],[0,3,4]⟩ fun n x=>sW N x.1 x.2.2.1 n x.2.2.2.1
def akT (N:Nat):aA (A2 N).aK (bn Tryz.f75):=aA.dg (akS N) N ⟨[1,1,1,0,1,0,0,1,0,0,1,1,1,0,1,0],[.o 3 (.eZ 3 150 64), .o 6 (.az 3), .v 7 (.int .i64)],[(3, .eZ 0),(6, .c (.own 1))],[1,1],[⟨.exit 4,[],[]⟩,⟨.ret,[.v 2 (.int .i64)],[]⟩],[0,3,4,6]⟩ fun n x=>sX N x.1 x.2.1 n x.2.2.1
def akU (N:Nat):aA (A2 N).aK (bn Tryz.f75):=aA.dg (akT N) N ⟨[1,1,1,0,1,0,0,1,0,0,1,1,1,1,1,0],[.o 3 (.eZ 3 150 64), .o 6 (.az 3), .v 8 (.int .i64)],[(3, .eZ 0),(6, .c (.own 1))],[2,1],[⟨.exit 6,[.u 0 (.eZ 3 150 64)],[]⟩],[0,3,4]⟩ fun n x=>xg N x.2.1 n x.1 x.2.2.1
def akR (N:Nat):aA (A2 N).aK (bn Tryz.f75):=aA.dg (akU N) N ⟨[1,1,1,0,1,0],[.v 0 (.az 63), .o 3 (.eZ 3 150 64), .v 4 (.int .i64)],[(3, .eZ 0)],[0],[⟨.exit 0,[],[]⟩,⟨.ret,[.v 2 (.int .i64)],[]⟩],[]⟩ fun n x=>zX N x.1 n x.2.1 x.2.2.1
def KX:b4 D:=⟨75,1,[.v 0 (.az 63)],[],aqY,0,[.v 2 (.int .i64)],[],[.tmp 2],aqW⟩
def R9 (N:Nat):KX.F:=fun r x=>vb N x.1
theorem ao3 (N:Nat):b3 bd KX (R9 N):=aA.fn (akR N) Tryz.func75
def SD (N:Nat):cA bd:=(A2 N).db KX (R9 N) (ao3 N)
def ak5 (N:Nat):aA (SD N).aK (bn Tryz.f76):=aA.aO aA.nil ⟨[1,0],[.v 0 (.az 63), .v 1 (.int .i64)],[],[],[⟨.normal,[.v 4 .bool],[]⟩],[]⟩ fun x=>Qm N x.1 x.2.1
def K0:b4 D:=⟨76,2,[.v 0 (.az 63), .v 1 (.int .i64)],[],aqY,0,[.v 4 .bool],[],[.tmp 4],aqW⟩
def Sc (N:Nat):K0.F:=fun r x=>xT N x.1 x.2.1
theorem ao6 (N:Nat):b3 bd K0 (Sc N):=aA.fn (ak5 N) Tryz.func76
def SE (N:Nat):cA bd:=(SD N).db K0 (Sc N) (ao6 N)
def akK (N:Nat):aA (SE N).aK (bn Tryz.f43):=aA.dg aA.nil N ⟨[1,0,1,0],[.v 0 (.az 37), .v 1 (.int .i64), .v 5 (.int .i64)],[],[],[⟨.exit 0,[],[]⟩,⟨.ret,[.v 4 .bool],[]⟩],[]⟩ fun n x=>uN N x.1 x.2.1 n x.2.2.1
def KS:b4 D:=⟨43,2,[.v 0 (.az 37), .v 1 (.int .i64)],[],aqY,0,[.v 4 .bool],[],[.tmp 4],aqW⟩
def R4 (N:Nat):KS.F:=fun r x=>rm N x.1 x.2.1
theorem aoY (N:Nat):b3 bd KS (R4 N):=aA.fn (akK N) Tryz.func43
def SF (N:Nat):cA bd:=(SE N).db KS (R4 N) (aoY N)
def amc (N:Nat):aA (SF N).aK (bn Tryz.f77):=aA.dg aA.nil N ⟨[1,0,1,0],[.v 0 (.az 3), .v 1 (.int .i64), .v 5 (.int .i64)],[],[],[⟨.exit 0,[],[]⟩,⟨.ret,[.v 4 .bool],[]⟩],[]⟩ fun n x=>uT N x.1 x.2.1 n x.2.2.1
def Lf:b4 D:=⟨77,2,[.v 0 (.az 3), .v 1 (.int .i64)],[],aqY,0,[.v 4 .bool],[],[.tmp 4],aqW⟩
def Ss (N:Nat):Lf.F:=fun r x=>Eg N x.1 x.2.1
theorem apk (N:Nat):b3 bd Lf (Ss N):=aA.fn (amc N) Tryz.func77
def x7 (N:Nat):cA bd:=(SF N).db Lf (Ss N) (apk N)
def ak0 (N:Nat):aA (x7 N).aK (bn Tryz.f42):=aA.aO aA.nil ⟨[1,1,0,0],[.v 0 (.az 63), .v 1 (.az 37), .v 5 (.int .i64)],[],[],[⟨.normal,[.v 50 .bool],[]⟩],[0,1,5]⟩ fun x=>uO N x.1 x.2.1 x.2.2.1
def ak2 (N:Nat):aA (x7 N).aK (bn Tryz.f42):=aA.aO (ak0 N) ⟨[1,1,1,0,1,0,0,1,0,0,0,0],[.v 0 (.az 63), .v 1 (.az 37), .v 6 (.int .i64)],[],[],[⟨.normal,[.v 82 .bool],[]⟩],[0,1,5,6]⟩ fun x=>Iu N x.1 x.2.1 x.2.2.1
def ak3 (N:Nat):aA (x7 N).aK (bn Tryz.f42):=aA.aO (ak2 N) ⟨[1,1,1,0,1,0,0,1,0,0,1,0,0],[.v 0 (.az 63), .v 1 (.az 37), .v 5 (.int .i64), .v 6 (.int .i64)],[],[],[⟨.normal,[.v 136 .bool],[]⟩],[0,1,5,6]⟩ fun x=>Iv N x.1 x.2.1 x.2.2.1 x.2.2.2.1
def ak4 (N:Nat):aA (x7 N).aK (bn Tryz.f42):=aA.aO (ak3 N) ⟨[1,1,1,0,1,0,0,1,0,0,1,1,0],[.v 0 (.az 63), .v 1 (.az 37), .v 5 (.int .i64), .v 6 (.int .i64)],[],[],[⟨.normal,[.v 164 .bool],[]⟩],[0,1,5,6]⟩ fun x=>Iw N x.1 x.2.1 x.2.2.1 x.2.2.2.1
def ak1 (N:Nat):aA (x7 N).aK (bn Tryz.f42):=aA.dg (ak4 N) N ⟨[1,1,1,0,1,0],[.v 0 (.az 63), .v 1 (.az 37), .v 5 (.int .i64), .v 6 (.int .i64)],[],[],[⟨.exit 0,[],[]⟩,⟨.ret,[.v 4 .bool],[]⟩],[]⟩ fun n x=>uP N x.1 x.2.1 x.2.2.1 n x.2.2.2.1
def KZ:b4 D:=⟨42,2,[.v 0 (.az 63), .v 1 (.az 37)],[],aqY,0,[.v 4 .bool],[],[.tmp 4],aqW⟩
def Sb (N:Nat):KZ.F:=fun r x=>xS N x.1 x.2.1
theorem ao5 (N:Nat):b3 bd KZ (Sb N):=aA.fn (ak1 N) Tryz.func42
def SG (N:Nat):cA bd:=(x7 N).db KZ (Sb N) (ao5 N)
def aj6 (N:Nat):aA (SG N).aK (bn Tryz.f83):=aA.aO aA.nil ⟨[1,1,0,0,1,1,0],[.o 3 (.box 37), .o 5 (.box 63)],[(3, .box 0 0),(5, .box 1 0)],[1,1],[⟨.normal,[.v 15 .bool],[]⟩],[5]⟩ fun x=>zT N x.1 x.2.1
def Ku:b4 D:=⟨83,2,[.v 0 (.az 63), .v 1 (.agg 37)],[],aqY,0,[.v 4 (.int .i64)],[],[.tmp 4],aqW⟩
def RG (N:Nat):Ku.F:=fun r x=>D6 N x.1 x.2.1
theorem aoA (N:Nat):b3 bd Ku (RG N):=aA.fn (aj6 N) Tryz.func83
def Ep (N:Nat):cA bd:=(SG N).db Ku (RG N) (aoA N)
def ame (N:Nat):aA (Ep N).aK (bn Tryz.f85):=aA.aO aA.nil ⟨[1,1,0,0,0,0,0],[.v 0 (.az 51), .o 3 (.box 51), .v 5 (.int .i64)],[(3, .box 0 0)],[1],[⟨.normal,[.v 20 .bool],[]⟩],[0,3,5]⟩ fun x=>z1 N x.1 x.2.1 x.2.2.1
def amd (N:Nat):aA (Ep N).aK (bn Tryz.f85):=aA.dg (ame N) N ⟨[1,1,0,0],[.v 0 (.az 51), .o 3 (.box 51), .v 5 (.int .i64)],[(3, .box 0 0)],[1],[⟨.exit 0,[.v 5 (.int .i64)],[]⟩],[0,3]⟩ fun n x=>zZ N x.1 x.2.1 n x.2.2.1
def amf (N:Nat):aA (Ep N).aK (bn Tryz.f85):=aA.aO (amd N) ⟨[1,1,1,0,0],[.v 0 (.az 51), .o 3 (.box 51), .v 5 (.int .i64)],[(3, .box 0 0)],[1],[⟨.normal,[.v 36 .bool],[]⟩],[0,3,5]⟩ fun x=>zL N x.1 x.2.1 x.2.2.1
def Lg:b4 D:=⟨85,2,[.v 0 (.az 51), .v 1 (.agg 51)],[],aqY,0,[.v 4 (.az 51)],[],[.tmp 4],aqZ⟩
def St (N:Nat):Lg.F:=fun r x=>rn N x.1 x.2.1
theorem apl (N:Nat):b3 bd Lg (St N):=aA.fn (amf N) Tryz.func85
def Jt (N:Nat):cA bd:=(Ep N).db Lg (St N) (apl N)
def ajy (N:Nat):aA (Jt N).aK (bn Tryz.f82):=aA.aO aA.nil ⟨[1,1,1,0,1,0,0,1,0],[.v 0 (.az 63), .v 1 (.az 37), .v 6 (.az 51), .v 7 (.int .i64)],[],[],[⟨.normal,[.v 6 (.az 51)],[]⟩],[0,1,7]⟩ fun x=>Ia N x.1 x.2.1 x.2.2.1 x.2.2.2.1
def aj7 (N:Nat):aA (Jt N).aK (bn Tryz.f82):=aA.dg (ajy N) N ⟨[1,1,1,0,1,0],[.v 0 (.az 63), .v 1 (.az 37), .v 6 (.az 51), .v 7 (.int .i64)],[],[],[⟨.exit 0,[.v 6 (.az 51)],[]⟩],[]⟩ fun n x=>w9 N x.1 x.2.1 n x.2.2.1 x.2.2.2.1
def Kv:b4 D:=⟨82,2,[.v 0 (.az 63), .v 1 (.az 37)],[],aqY,0,[.v 4 (.az 51), .v 5 (.int .i64)],[],[.tmp 4, .tmp 5],aqZ⟩
def RH (N:Nat):Kv.F:=fun r x=>D7 N x.1 x.2.1
theorem aoB (N:Nat):b3 bd Kv (RH N):=aA.fn (aj7 N) Tryz.func82
def SH (N:Nat):cA bd:=(Jt N).db Kv (RH N) (aoB N)
def alI (N:Nat):aA (SH N).aK (bn Tryz.f41):=aA.dg aA.nil N ⟨[1,0,1,0],[.v 0 (.az 51), .v 1 (.int .i64), .v 5 (.int .i64)],[],[],[⟨.exit 0,[],[]⟩,⟨.ret,[.v 4 (.int .i64)],[]⟩],[]⟩ fun n x=>xm N x.1 x.2.1 n x.2.2.1
def Li:b4 D:=⟨41,2,[.v 0 (.az 51), .v 1 (.int .i64)],[],aqY,0,[.v 4 (.int .i64)],[],[.tmp 4],aqW⟩
def Sv (N:Nat):Li.F:=fun r x=>xV N x.1 x.2.1
theorem apn (N:Nat):b3 bd Li (Sv N):=aA.fn (alI N) Tryz.func41
def SI (N:Nat):cA bd:=(SH N).db Li (Sv N) (apn N)
def oQ:gM D:=⟨84,3,[.o 0 (.eQ 125 [(3,1)]), .v 1 (.int .i64), .v 2 (.int .i64), .o 2000003 (.map 84 114 4)],[(0, .box 0 0)],[2,2],[.v 6 (.int .i64), .u 0 (.eQ 125 [(3,1)]), .u 1 (.map 84 114 4)],[],[6],aqW⟩
def pB (N bM:Nat):oQ.hY.F:=fun x=>lL N bM x.1 x.2.1 x.2.2.1 x.2.2.2.1
def A7 (N bM:Nat) (an:eL bd oQ (pB N bM)):cA bd:=(SI N).vv oQ (pB N bM) an
def aiP (N bM:Nat) (an:eL bd oQ (pB N bM)):aA (A7 N bM an).aK (bn Tryz.f84):=aA.aO aA.nil ⟨[1,1,1,1,0,0],[.o 0 (.eQ 125 [(3,1)]), .v 7 (.int .i64), .o 2000003 (.map 84 114 4)],[(0, .box 0 0)],[1,1],[⟨.normal,[.v 43 .bool],[]⟩],[0,2,7]⟩ fun x=>zO N (lL N bM) x.1 x.2.1
def aiR (N bM:Nat) (an:eL bd oQ (pB N bM)):aA (A7 N bM an).aK (bn Tryz.f84):=aA.aO (aiP N bM an) ⟨[1,1,1,1,1,1,1,0,0,1,1,0],[.o 0 (.eQ 125 [(3,1)]), .v 2 (.int .i64), .v 8 (.fH 63), .o 2000003 (.map 84 114 4)],[(0, .box 0 0)],[1,1],[⟨.normal,[.v 55 .bool],[]⟩],[0,2,7,8,9]⟩ fun x=>Du N (lL N bM) x.2.1 x.2.2.1
def aiS (N bM:Nat) (an:eL bd oQ (pB N bM)):aA (A7 N bM an).aK (bn Tryz.f84):=aA.aO (aiR N bM an) ⟨[1,1,1,1,1,1,1,0,0,1,1,1,1,0],[.o 0 (.eQ 125 [(3,1)]), .v 2 (.int .i64), .v 8 (.fH 63), .o 2000003 (.map 84 114 4)],[(0, .box 0 0)],[1,1],[⟨.normal,[.v 78 .bool],[]⟩],[0,7,8,9]⟩ fun x=>Dv N (lL N bM) x.2.1 x.2.2.1
def aiQ (N bM:Nat) (an:eL bd oQ (pB N bM)):aA (A7 N bM an).aK (bn Tryz.f84):=aA.aO (aiS N bM an) ⟨[1,1,1,1,1,1,1,0],[.o 0 (.eQ 125 [(3,1)]), .v 2 (.int .i64), .v 7 (.int .i64), .v 8 (.fH 63), .v 9 (.int .i64), .o 2000003 (.map 84 114 4)],[(0, .box 0 0)],[2,2],[⟨.normal,[.u 0 (.eQ 125 [(3,1)]), .v 9 (.int .i64), .u 1 (.map 84 114 4)],[]⟩,⟨.ret,[.u 0 (.eQ 125 [(3,1)]), .v 6 (.int .i64), .u 1 (.map 84 114 4)],[]⟩],[0,7]⟩ fun x=>zP N (lL N bM) x.1 x.2.1 x.2.2.1 x.2.2.2.1 x.2.2.2.2.1 x.2.2.2.2.2.1
def aiT (N bM:Nat) (an:eL bd oQ (pB N bM)):aA (A7 N bM an).aK (bn Tryz.f84):=aA.aO (aiQ N bM an) ⟨[1,1,1,1,1,1,1,1,0,1,0],[.o 0 (.eQ 125 [(3,1)]), .v 9 (.int .i64), .v 11 (.int .i64), .o 2000003 (.map 84 114 4)],[(0, .box 0 0)],[1,1],[⟨.normal,[.v 104 .bool],[]⟩],[0,7,9]⟩ fun x=>Dw N (lL N bM) x.2.1 x.2.2.1
theorem aec (N bM:Nat) (an:eL bd oQ (pB N bM)):eL bd oQ (pB N (bM+1)):=aA.E3 (aiT N bM an) Tryz.func84
theorem ZQ (N:Nat):∀bM:Nat,eL bd oQ (pB N bM)
 |0=>eL.none fun x=>rfl
 |bM+1=>aec N bM (ZQ N bM)
def A3 (N:Nat):cA bd:=(SI N).vv oQ (pB N N) (ZQ N N)
def ali (N:Nat):aA (A3 N).aK (bn Tryz.f51):=aA.aO aA.nil ⟨[1,1,1,1,0,1,0,0,1,0,0,1,1,1,0,1],[.o 8 (.eQ 125 [(3,2)]), .o 10 (.box 63), .v 11 (.int .i64), .v 53 .bool, .o 2008003 (.map 84 114 4)],[(8, .box 0 0),(10, .box 1 0)],[1,1,1],[⟨.normal,[.v 11 (.int .i64)],[]⟩],[0,1,6,8,9]⟩ fun x=>Il N x.2.1 x.2.2.1 x.2.2.2.1
def alh (N:Nat):aA (A3 N).aK (bn Tryz.f51):=aA.aO (ali N) ⟨[1,1,1,1,0,1,0,0,1,0],[.v 0 (.az 63), .v 1 (.az 37), .o 8 (.eQ 125 [(3,1)]), .v 9 (.int .i64), .o 2008003 (.map 84 114 4)],[(8, .box 0 0)],[2,2],[⟨.normal,[.u 0 (.eQ 125 [(3,1)]), .u 1 (.map 84 114 4)],[]⟩,⟨.ret,[.v 5 (.int .i64)],[(4, .c .fz)]⟩],[0,1,6,8,9]⟩ fun x=>Qa N x.1 x.2.1 x.2.2.1 x.2.2.2.1 x.2.2.2.2.1
def alg (N:Nat):aA (A3 N).aK (bn Tryz.f51):=aA.dg (alh N) N ⟨[1,1,1,1,0,1,0],[.v 0 (.az 63), .v 1 (.az 37), .o 8 (.eQ 125 [(3,1)]), .v 9 (.int .i64), .o 2008003 (.map 84 114 4)],[(8, .box 0 0)],[0,0],[⟨.exit 0,[.o 8 (.eQ 125 [(3,3)]), .o 2008003 (.map 84 114 4)],[(8, .box 2 0)]⟩,⟨.ret,[.v 5 (.int .i64)],[(4, .c .fz)]⟩],[6,8]⟩ fun n x=>sU N x.1 x.2.1 n x.2.2.1 x.2.2.2.1 x.2.2.2.2.1
def alj (N:Nat):aA (A3 N).aK (bn Tryz.f51):=aA.dg (alg N) N ⟨[1,1,1,1,1,0,1,0],[.v 6 (.az 51), .o 8 (.eQ 125 [(3,1)]), .v 13 (.int .i64), .o 2008003 (.map 84 114 4)],[(8, .box 0 0)],[1,1],[⟨.exit 2,[.v 6 (.az 51)],[]⟩],[]⟩ fun n x=>xb N x.2.1 n x.1 x.2.2.1
def KE:b4 D:=⟨51,2,[.v 0 (.az 63), .v 1 (.az 37)],[],aqY,0,[.v 4 (.az 51), .v 5 (.int .i64)],[],[.tmp 4, .tmp 5],aqZ⟩
def RQ (N:Nat):KE.F:=fun r x=>oE N x.1 x.2.1
theorem aoK (N:Nat):b3 bd KE (RQ N):=aA.fn (alj N) Tryz.func51
def SJ (N:Nat):cA bd:=(A3 N).db KE (RQ N) (aoK N)
def ama (N:Nat):aA (SJ N).aK (bn Tryz.f48):=aA.dg aA.nil N ⟨[1,0,1,0],[.v 0 (.az 49), .v 1 (.int .i64), .v 5 (.int .i64)],[],[],[⟨.exit 0,[],[]⟩,⟨.ret,[.v 4 (.int .i64)],[]⟩],[]⟩ fun n x=>s3 N x.1 x.2.1 n x.2.2.1
def Lc:b4 D:=⟨48,2,[.v 0 (.az 49), .v 1 (.int .i64)],[],aqY,0,[.v 4 (.int .i64)],[],[.tmp 4],aqW⟩
def Sp (N:Nat):Lc.F:=fun r x=>AB N x.1 x.2.1
theorem aph (N:Nat):b3 bd Lc (Sp N):=aA.fn (ama N) Tryz.func48
def SK (N:Nat):cA bd:=(SJ N).db Lc (Sp N) (aph N)
def aiU (N:Nat):aA (SK N).aK (bn Tryz.f68):=aA.dg aA.nil N ⟨[1,1,0,1,0],[.v 0 (.az 51), .v 1 (.az 51), .v 5 (.int .i64)],[],[],[⟨.exit 0,[],[]⟩,⟨.ret,[.v 4 .bool],[]⟩],[]⟩ fun n x=>sI N x.1 x.2.1 n x.2.2.1
def Kb:b4 D:=⟨68,2,[.v 0 (.az 51), .v 1 (.az 51)],[],aqY,0,[.v 4 .bool],[],[.tmp 4],aqW⟩
def Ro (N:Nat):Kb.F:=fun r x=>D1 N x.1 x.2.1
theorem aog (N:Nat):b3 bd Kb (Ro N):=aA.fn (aiU N) Tryz.func68
def A4 (N:Nat):cA bd:=(SK N).db Kb (Ro N) (aog N)
def ajF (N:Nat):aA (A4 N).aK (bn Tryz.f52):=aA.dg aA.nil N ⟨[1,0,1,0],[.o 2 (.box 49), .o 3 (.box 49), .v 5 (.int .i64)],[(2, .box 0 0),(3, .box 1 0)],[1,1],[⟨.exit 0,[],[]⟩,⟨.ret,[.v 4 .bool],[]⟩],[2,3]⟩ fun n x=>sO N x.1 x.2.1 n x.2.2.1
def ak6 (N:Nat):aA (A4 N).aK (bn Tryz.f52):=aA.aO (ajF N) ⟨[1,1,0,1,0,0,1,0,0,1,0,0,1,0,0,0],[.o 2 (.box 49), .o 3 (.box 49), .v 6 (.int .i64), .v 7 (.int .i64)],[(2, .box 0 0),(3, .box 1 0)],[1,1],[⟨.normal,[.v 65 .bool],[]⟩],[2,3,6,7]⟩ fun x=>Ig N x.1 x.2.1 x.2.2.1 x.2.2.2.1
def ajH (N:Nat):aA (A4 N).aK (bn Tryz.f52):=aA.dg (ak6 N) N ⟨[1,1,0,1,0,0,1,0,0,1,0],[.o 2 (.box 49), .o 3 (.box 49), .v 6 (.int .i64), .v 7 (.int .i64)],[(2, .box 0 0),(3, .box 1 0)],[1,1],[⟨.exit 4,[],[]⟩,⟨.ret,[.v 4 .bool],[]⟩],[2,3,6]⟩ fun n x=>sQ N x.1 x.2.1 x.2.2.1 n x.2.2.2.1
def ajG (N:Nat):aA (A4 N).aK (bn Tryz.f52):=aA.dg (ajH N) N ⟨[1,1,0,1,0],[.o 2 (.box 49), .o 3 (.box 49), .v 6 (.int .i64)],[(2, .box 0 0),(3, .box 1 0)],[1,1],[⟨.exit 2,[],[]⟩,⟨.ret,[.v 4 .bool],[]⟩],[]⟩ fun n x=>sP N x.1 x.2.1 n x.2.2.1
def Kw:b4 D:=⟨52,2,[.v 0 (.agg 49), .v 1 (.agg 49)],[],aqY,0,[.v 4 .bool],[],[.tmp 4],aqW⟩
def RI (N:Nat):Kw.F:=fun r x=>D8 N x.1 x.2.1
theorem aoC (N:Nat):b3 bd Kw (RI N):=aA.fn (ajG N) Tryz.func52
def A5 (N:Nat):cA bd:=(A4 N).db Kw (RI N) (aoC N)
def akB (N:Nat):aA (A5 N).aK (bn Tryz.f78):=aA.aO aA.nil ⟨[1,0,0],[.v 0 (.az 63), .v 1 (.az 49)],[],[],[⟨.normal,[.v 16 .bool],[]⟩],[0,1]⟩ fun x=>HS N x.1 x.2.1
def akD (N:Nat):aA (A5 N).aK (bn Tryz.f78):=aA.aO (akB N) ⟨[1,1,0,1,0,0,1,0,0,1,0,0],[.v 1 (.az 49), .v 5 (.int .i64), .v 6 (.az 51), .v 7 (.int .i64)],[],[],[⟨.normal,[.v 63 .bool],[]⟩],[0,1,5]⟩ fun x=>HT N x.1 x.2.1 x.2.2.1 x.2.2.2.1
def akE (N:Nat):aA (A5 N).aK (bn Tryz.f78):=aA.dg (akD N) N ⟨[1,1,0,1,0,0,1,0,0,1,1,1,0],[.v 1 (.az 49), .v 5 (.int .i64), .v 8 (.int .i64)],[],[],[⟨.exit 2,[],[]⟩,⟨.ret,[.v 4 .bool],[]⟩],[0,1,5]⟩ fun n x=>xh N x.1 x.2.1 n x.2.2.1
def akC (N:Nat):aA (A5 N).aK (bn Tryz.f78):=aA.dg (akE N) N ⟨[1,1,0,1,0],[.v 0 (.az 63), .v 1 (.az 49), .v 5 (.int .i64)],[],[],[⟨.exit 0,[],[]⟩,⟨.ret,[.v 4 .bool],[]⟩],[]⟩ fun n x=>s0 N x.1 x.2.1 n x.2.2.1
def K2:b4 D:=⟨78,2,[.v 0 (.az 63), .v 1 (.az 49)],[],aqY,0,[.v 4 .bool],[],[.tmp 4],aqW⟩
def Se (N:Nat):K2.F:=fun r x=>I9 N x.1 x.2.1
theorem ao8 (N:Nat):b3 bd K2 (Se N):=aA.fn (akC N) Tryz.func78
def SL (N:Nat):cA bd:=(A5 N).db K2 (Se N) (ao8 N)
def K3:b4 D:=⟨47,2,[.v 0 (.az 63), .v 1 (.az 49)],[],aqY,0,[.v 4 (.int .i64)],[],[.tmp 4],aqW⟩
def Sf (N:Nat):K3.F:=fun r x=>Ed N x.1 x.2.1
theorem ao9 (N:Nat):b3 bd K3 (Sf N):=aA.fn (aA.nil:aA (SL N).aK (bn Tryz.f47)) Tryz.func47
def SN (N:Nat):cA bd:=(SL N).db K3 (Sf N) (ao9 N)
def akL (N:Nat):aA (SN N).aK (bn Tryz.f49):=aA.dg aA.nil N ⟨[1,1,0,1,0],[.v 0 (.az 49), .o 3 (.az 49), .v 4 (.int .i64)],[(3, .c (.own 0))],[0],[⟨.exit 0,[.o 3 (.az 49)],[(3, .c (.own 1))]⟩],[]⟩ fun n x=>xe N x.1 n x.2.1 x.2.2.1
def KT:b4 D:=⟨49,1,[.v 0 (.az 49)],[],aqY,0,[.o 2 (.az 49)],[(2, .c (.own 0))],[.tmp 2],aqZ⟩
def R5 (N:Nat):KT.F:=fun r x=>Eb N x.1
theorem aoZ (N:Nat):b3 bd KT (R5 N):=aA.fn (akL N) Tryz.func49
def SO (N:Nat):cA bd:=(SN N).db KT (R5 N) (aoZ N)
def aax (N:Nat):oG bd:=(SO N).aK.oP fun x bG ae=>match x,bG,ae with| .tmp 31,aqV (.tmp 27),aqV (.tmp 27)=>6|_,_,_=>0
def KF:b4 D:=⟨21,3,[.v 0 (.az 63), .v 1 (.az 49), .v 2 (.int .i64)],[],aqY,0,[.v 6 (.az 49), .v 7 (.int .i64)],[],[.tmp 6, .tmp 7],aqZ⟩
def RR (N:Nat):KF.F:=fun r x=>I3 N x.1 x.2.1 x.2.2.1
theorem aoL (N:Nat):b3 bd KF (RR N):=aA.fn (aA.nil:aA (aax N) (bn Tryz.f21)) Tryz.func21
def SP (N:Nat):cA bd:=(SO N).db KF (RR N) (aoL N)
def Lb:b4 D:=⟨81,2,[.v 0 (.az 63), .v 1 (.agg 37)],[],aqY,0,[.o 4 (.az 3)],[(4, .c (.own 0))],[.tmp 4],aqZ⟩
def Sn (N:Nat):Lb.F:=fun r x=>Ef N x.1 x.2.1
theorem apg (N:Nat):b3 bd Lb (Sn N):=aA.fn (aA.nil:aA (SP N).aK (bn Tryz.f81)) Tryz.func81
def Er (N:Nat):cA bd:=(SP N).db Lb (Sn N) (apg N)
def al' (N:Nat):aA (Er N).aK (bn Tryz.f80):=aA.aO aA.nil ⟨[1,1,1,0,1,0,0,1,0,0,1,0],[.o 5 (.box 37), .v 8 (.int .i64), .v 9 .bool, .o 10 (.az 3), .v 12 (.int .i64), .v 13 .bool],[(5, .box 0 0),(10, .c (.own 1))],[1,1],[⟨.normal,[.v 50 .bool],[]⟩],[0,1,5,8,9,10,11,12]⟩ fun x=>DD N x.2.1 x.2.2.1 x.2.2.2.2.1 x.2.2.2.2.2.1
def al9 (N:Nat):aA (Er N).aK (bn Tryz.f80):=aA.aO (al' N) ⟨[1,1,1,0,1,0,0,1,0],[.v 0 (.az 63), .v 1 (.mp 116 122 3), .o 5 (.box 37), .v 8 (.int .i64), .v 9 .bool, .o 10 (.az 3), .v 11 (.int .i64)],[(5, .box 0 0),(10, .c (.own 1))],[1,1],[⟨.normal,[.v 8 (.int .i64), .v 9 .bool],[]⟩],[0,1,5,10,11]⟩ fun x=>H4 N x.1 x.2.1 x.2.2.1 x.2.2.2.1 x.2.2.2.2.1 x.2.2.2.2.2.1 x.2.2.2.2.2.2.1
def al8 (N:Nat):aA (Er N).aK (bn Tryz.f80):=aA.dg (al9 N) N ⟨[1,1,1,0,1,0],[.v 0 (.az 63), .v 1 (.mp 116 122 3), .o 5 (.box 37), .v 8 (.int .i64), .v 9 .bool, .o 10 (.az 3), .v 11 (.int .i64)],[(5, .box 0 0),(10, .c (.own 1))],[1,1],[⟨.exit 0,[.v 8 (.int .i64), .v 9 .bool],[]⟩],[]⟩ fun n x=>xl N x.1 x.2.1 x.2.2.1 x.2.2.2.2.2.1 n x.2.2.2.1 x.2.2.2.2.1 x.2.2.2.2.2.2.1
def La:b4 D:=⟨80,3,[.v 0 (.az 63), .v 1 (.mp 116 122 3), .v 2 (.agg 37)],[],aqY,0,[.v 6 (.int .i64), .v 7 .bool],[],[.tmp 6, .tmp 7],aqW⟩
def Sm (N:Nat):La.F:=fun r x=>Ee N x.1 x.2.1 x.2.2.1
theorem apf (N:Nat):b3 bd La (Sm N):=aA.fn (al8 N) Tryz.func80
def vr (N:Nat):cA bd:=(Er N).db La (Sm N) (apf N)
def ajR (N:Nat):aA (vr N).aK (bn Tryz.f79):=aA.dg aA.nil N ⟨[1,1,1,0,1,0],[.v 1 (.int .i64), .o 5 (.map 116 122 3), .o 6 (.az 3), .v 7 (.int .i64)],[(5, .c (.own 0)),(6, .c (.own 1))],[2,1],[⟨.exit 0,[.u 0 (.map 116 122 3)],[]⟩],[0,1,5]⟩ fun n x=>w6 N x.1 x.2.2.1 n x.2.1 x.2.2.2.1
def ajW (N:Nat):aA (vr N).aK (bn Tryz.f79):=aA.aO (ajR N) ⟨[1,1,1,1,0,1,0,0,1,0,1,1,0,0,1,0,0,1,1,0,0,1,0,0,1,1,1,0],[.o 5 (.map 116 122 3), .o 10 (.az 3), .v 12 (.int .i64), .v 13 .bool, .v 14 (.int .i64), .v 15 .bool],[(5, .c (.own 0)),(10, .c (.own 1))],[1,1],[⟨.normal,[.v 85 .bool],[]⟩],[0,1,5,8,9,10,11,12]⟩ fun x=>Dz N x.2.2.1 x.2.2.2.1 x.2.2.2.2.1 x.2.2.2.2.2.1
def ajV (N:Nat):aA (vr N).aK (bn Tryz.f79):=aA.aO (ajW N) ⟨[1,1,1,1,0,1,0,0,1,0,1,1,0,0,1,0,0,1,1,0,0,1,0],[.v 0 (.az 63), .v 1 (.int .i64), .o 5 (.map 116 122 3), .v 8 .bool, .v 9 (.int .i64), .o 10 (.az 3), .v 11 (.int .i64)],[(5, .c (.own 0)),(10, .c (.own 1))],[2,1],[⟨.normal,[.u 0 (.map 116 122 3), .v 8 .bool],[]⟩],[0,1,5,9,10,11]⟩ fun x=>HG N x.1 x.2.1 x.2.2.1 x.2.2.2.1 x.2.2.2.2.1 x.2.2.2.2.2.1 x.2.2.2.2.2.2.1
def ajU (N:Nat):aA (vr N).aK (bn Tryz.f79):=aA.dg (ajV N) N ⟨[1,1,1,1,0,1,0,0,1,0,1,1,0,0,1,0,0,1,1,0],[.v 0 (.az 63), .v 1 (.int .i64), .o 5 (.map 116 122 3), .v 8 .bool, .v 9 (.int .i64), .o 10 (.az 3), .v 11 (.int .i64)],[(5, .c (.own 0)),(10, .c (.own 1))],[2,1],[⟨.exit 6,[.u 0 (.map 116 122 3), .v 8 .bool],[]⟩],[0,1,5,9]⟩ fun n x=>w8 N x.1 x.2.1 x.2.2.2.2.1 x.2.2.2.2.2.1 n x.2.2.1 x.2.2.2.1 x.2.2.2.2.2.2.1
def ajT (N:Nat):aA (vr N).aK (bn Tryz.f79):=aA.dg (ajU N) N ⟨[1,1,1,1,0,1,0,0,1,0,1,1,0],[.v 0 (.az 63), .v 1 (.int .i64), .o 5 (.map 116 122 3), .v 8 .bool, .v 9 (.int .i64)],[(5, .c (.own 0))],[2],[⟨.exit 4,[.u 0 (.map 116 122 3), .v 8 .bool],[]⟩],[0,1,5]⟩ fun n x=>w7 N x.1 x.2.1 n x.2.2.1 x.2.2.2.1 x.2.2.2.2.1
def ajS (N:Nat):aA (vr N).aK (bn Tryz.f79):=aA.dg (ajT N) N ⟨[1,1,1,1,0,1,0],[.v 0 (.az 63), .v 1 (.int .i64), .o 5 (.map 116 122 3), .v 8 .bool],[(5, .c (.own 0))],[2],[⟨.exit 2,[.u 0 (.map 116 122 3)],[]⟩],[5]⟩ fun n x=>zS N x.1 x.2.1 n x.2.2.1 x.2.2.2.1
def Ks:b4 D:=⟨79,2,[.v 0 (.az 63), .v 1 (.int .i64)],[],aqY,0,[.o 4 (.map 116 122 3)],[(4, .c (.own 0))],[.tmp 4],aqZ⟩
def RE (N:Nat):Ks.F:=fun r x=>I2 N x.1 x.2.1
theorem aoy (N:Nat):b3 bd Ks (RE N):=aA.fn (ajS N) Tryz.func79
def x8 (N:Nat):cA bd:=(vr N).db Ks (RE N) (aoy N)
def al3 (N:Nat):aA (x8 N).aK (bn Tryz.f50):=aA.aO aA.nil ⟨[1,1,0,0],[.v 0 (.az 63), .v 1 (.int .i64), .v 2 (.int .i64)],[],[],[⟨.normal,[.v 39 .bool],[]⟩],[0,1,2]⟩ fun x=>H0 N x.1 x.2.1 x.2.2.1
def al7 (N:Nat):aA (x8 N).aK (bn Tryz.f50):=aA.aO (al3 N) ⟨[1,1,1,1,1,1,1,1,0,0,0,1,0,0,1,1,1,0,1,0,0,1,0,0,1,1,0],[.o 9 (.map 116 122 3), .o 10 (.box 37), .v 11 (.int .i64), .o 13 (.az 37), .o 14 (.az 3), .v 15 (.int .i64), .v 16 (.int .i64), .v 17 (.int .i64), .v 18 (.int .i64), .v 19 .bool],[(9, .c (.own 0)),(10, .box 1 0),(13, .c (.own 2)),(14, .c (.own 3))],[1,1,1,1],[⟨.normal,[.v 115 .bool],[]⟩],[0,2,9,10,11,13,14,15,16,17]⟩ fun x=>H3 N x.2.1 x.2.2.1 x.2.2.2.2.1 x.2.2.2.2.2.1 x.2.2.2.2.2.2.1 x.2.2.2.2.2.2.2.1 x.2.2.2.2.2.2.2.2.1 x.2.2.2.2.2.2.2.2.2.1
def al6 (N:Nat):aA (x8 N).aK (bn Tryz.f50):=aA.aO (al7 N) ⟨[1,1,1,1,1,1,1,1,0,0,0,1,0,0,1,1,1,0,1,0,0,1,0],[.v 0 (.az 63), .o 9 (.map 116 122 3), .o 10 (.box 37), .v 11 (.int .i64), .o 13 (.az 37), .o 14 (.az 3), .v 15 (.int .i64), .v 16 (.int .i64)],[(9, .c (.own 0)),(10, .box 1 0),(13, .c (.own 2)),(14, .c (.own 3))],[1,2,1,1],[⟨.normal,[.u 1 (.box 37), .v 15 (.int .i64)],[]⟩],[0,2,9,10,11,13,14,16]⟩ fun x=>H2 N x.1 x.2.1 x.2.2.1 x.2.2.2.1 x.2.2.2.2.2.1 x.2.2.2.2.2.2.1 x.2.2.2.2.2.2.2.1
def al5 (N:Nat):aA (x8 N).aK (bn Tryz.f50):=aA.dg (al6 N) N ⟨[1,1,1,1,1,1,1,1,0,0,0,1,0,0,1,1,1,0,1,0],[.v 0 (.az 63), .o 9 (.map 116 122 3), .o 10 (.box 37), .v 11 (.int .i64), .o 13 (.az 37), .o 14 (.az 3), .v 15 (.int .i64), .v 16 (.int .i64)],[(9, .c (.own 0)),(10, .box 1 0),(13, .c (.own 2)),(14, .c (.own 3))],[1,2,1,1],[⟨.exit 2,[.u 1 (.box 37), .v 15 (.int .i64)],[]⟩],[0,2,9,10,11,13]⟩ fun n x=>xk N x.1 x.2.1 x.2.2.2.1 x.2.2.2.2.2.1 n x.2.2.1 x.2.2.2.2.2.2.1 x.2.2.2.2.2.2.2.1
def al4 (N:Nat):aA (x8 N).aK (bn Tryz.f50):=aA.dg (al5 N) N ⟨[1,1,1,1,1,1,1,1,0,0],[.v 0 (.az 63), .o 9 (.map 116 122 3), .o 10 (.box 37), .v 11 (.int .i64), .o 13 (.az 37)],[(9, .c (.own 0)),(10, .box 1 0),(13, .c (.own 2))],[1,2,0],[⟨.exit 0,[.u 1 (.box 37), .o 13 (.az 37)],[(13, .c (.own 3))]⟩,⟨.ret,[.v 7 (.int .i64)],[(6, .c .fz)]⟩],[2,10]⟩ fun n x=>xj N x.1 x.2.1 n x.2.2.1 x.2.2.2.1 x.2.2.2.2.1
def K9:b4 D:=⟨50,3,[.v 0 (.az 63), .v 1 (.int .i64), .v 2 (.int .i64)],[],aqY,0,[.o 6 (.az 37), .v 7 (.int .i64)],[(6, .c (.own 0))],[.tmp 6, .tmp 7],aqZ⟩
def Sl (N:Nat):K9.F:=fun r x=>nH N x.1 x.2.1 x.2.2.1
theorem ape (N:Nat):b3 bd K9 (Sl N):=aA.fn (al4 N) Tryz.func50
def SQ (N:Nat):cA bd:=(x8 N).db K9 (Sl N) (ape N)
def alH (N:Nat):aA (SQ N).aK (bn Tryz.f22):=aA.dg aA.nil N ⟨[1,1,1,1,1,1,1,1,0,1,0],[.v 1 (.az 49), .o 16 (.box 49), .v 17 (.int .i64)],[(16, .box 0 0)],[1],[⟨.exit 1,[],[]⟩,⟨.ret,[.v 11 (.int .i64)],[(10, .c .fz)]⟩],[1,16]⟩ fun n x=>s4 N x.1 x.2.1 n x.2.2.1
def Lh:b4 D:=⟨22,5,[.v 0 (.az 63), .v 1 (.az 49), .v 2 (.int .i64), .v 3 (.int .i64), .v 4 (.int .i64)],[],aqY,0,[.o 10 (.az 49), .v 11 (.int .i64)],[(10, .c (.own 0))],[.tmp 10, .tmp 11],aqZ⟩
def Su (N:Nat):Lh.F:=fun r x=>AF N x.1 x.2.1 x.2.2.1 x.2.2.2.1 x.2.2.2.2.1
theorem apm (N:Nat):b3 bd Lh (Su N):=aA.fn (alH N) Tryz.func22
def Es (N:Nat):cA bd:=(SQ N).db Lh (Su N) (apm N)
def alv (N:Nat):aA (Es N).aK (bn Tryz.f8):=aA.aO aA.nil ⟨[1,1,0,1,0,0,1,0,0,1,0,1],[.v 0 (.az 63), .v 1 (.az 43), .v 5 (.az 49), .v 6 (.int .i64), .v 7 (.az 49), .v 8 (.int .i64), .v 30 .bool],[],[],[⟨.normal,[.v 7 (.az 49), .v 8 (.int .i64)],[]⟩],[0,1,5,6]⟩ fun x=>Qd N x.1 x.2.1 x.2.2.1 x.2.2.2.1 x.2.2.2.2.1 x.2.2.2.2.2.1 x.2.2.2.2.2.2.1
def alu (N:Nat):aA (Es N).aK (bn Tryz.f8):=aA.aO (alv N) ⟨[1,1,0,1,0,0,1,0],[.v 0 (.az 63), .v 1 (.az 43), .v 5 (.az 49), .v 6 (.int .i64)],[],[],[⟨.normal,[.v 5 (.az 49)],[]⟩],[0,1,6]⟩ fun x=>Iq N x.1 x.2.1 x.2.2.1 x.2.2.2.1
def als (N:Nat):aA (Es N).aK (bn Tryz.f8):=aA.dg (alu N) N ⟨[1,1,0,1,0],[.v 0 (.az 63), .v 1 (.az 43), .v 5 (.az 49), .v 6 (.int .i64)],[],[],[⟨.exit 0,[.v 5 (.az 49)],[]⟩],[]⟩ fun n x=>xd N x.1 x.2.1 n x.2.2.1 x.2.2.2.1
def KO:b4 D:=⟨8,2,[.v 0 (.az 63), .v 1 (.az 43)],[],aqY,0,[.v 4 (.az 49)],[],[.tmp 4],aqZ⟩
def R0 (N:Nat):KO.F:=fun r x=>Az N x.1 x.2.1
theorem aoU (N:Nat):b3 bd KO (R0 N):=aA.fn (als N) Tryz.func8
def SR (N:Nat):cA bd:=(Es N).db KO (R0 N) (aoU N)
def J3:b4 D:=⟨35,2,[.v 0 (.agg 51), .v 1 (.fH 51)],[],aqY,0,[.v 3 .bool],[],[.tmp 3],aqW⟩
def Rg (N:Nat):J3.F:=fun r x=>QU N x.1 x.2.1
theorem an9 (N:Nat):b3 bd J3 (Rg N):=aA.fn (aA.nil:aA (SR N).aK (bn Tryz.f35)) Tryz.func35
def SS (N:Nat):cA bd:=(SR N).db J3 (Rg N) (an9 N)
def ai1 (N:Nat):aA (SS N).aK (bn Tryz.f69):=aA.dg aA.nil N ⟨[1,0,1,0],[.v 0 (.az 51), .v 1 (.fn 35 [51]), .v 7 (.int .i64), .v 8 (.int .i64)],[],[],[⟨.exit 0,[],[]⟩,⟨.ret,[.v 4 (.int .i64)],[]⟩],[]⟩ fun n x=>su N x.1 x.2.1.1 x.2.2.1 n x.2.2.2.1
def JX:b4 D:=⟨69,2,[.v 0 (.az 51), .v 1 (.fn 35 [51])],[],aqY,0,[.v 4 (.int .i64)],[],[.tmp 4],aqW⟩
def Q9 (N:Nat):JX.F:=fun r x=>IS N x.1 x.2.1.1
theorem an3 (N:Nat):b3 bd JX (Q9 N):=aA.fn (ai1 N) Tryz.func69
def SV (N:Nat):cA bd:=(SS N).db JX (Q9 N) (an3 N)
def JW:b4 D:=⟨34,2,[.v 0 (.az 51), .v 1 (.fn 35 [51])],[],aqY,0,[.v 4 .bool],[],[.tmp 4],aqW⟩
def Q8 (N:Nat):JW.F:=fun r x=>IQ N x.1 x.2.1.1
theorem an2 (N:Nat):b3 bd JW (Q8 N):=aA.fn (aA.nil:aA (SV N).aK (bn Tryz.f34)) Tryz.func34
def SX (N:Nat):cA bd:=(SV N).db JW (Q8 N) (an2 N)
def Km:b4 D:=⟨72,1,[.v 0 (.int .i64)],[],aqY,0,[.v 2 .bool],[],[.tmp 2],aqW⟩
def Rz (N:Nat):Km.F:=fun r x=>I0 N x.1
theorem aor (N:Nat):b3 bd Km (Rz N):=aA.fn (aA.nil:aA (SX N).aK (bn Tryz.f72)) Tryz.func72
def SY (N:Nat):cA bd:=(SX N).db Km (Rz N) (aor N)
def Kc:b4 D:=⟨38,2,[.v 0 (.int .i64), .v 1 (.int .i64)],[],aqY,0,[.v 4 (.int .i64)],[],[.tmp 4],aqW⟩
def Rp (N:Nat):Kc.F:=fun r x=>Aw N x.1 x.2.1
theorem aoh (N:Nat):b3 bd Kc (Rp N):=aA.fn (aA.nil:aA (SY N).aK (bn Tryz.f38)) Tryz.func38
def Et (N:Nat):cA bd:=(SY N).db Kc (Rp N) (aoh N)
def ai9 (N:Nat):aA (Et N).aK (bn Tryz.f14):=aA.aO aA.nil ⟨[1,1,0,1,0,0,1,1,0,0,1,1,0,0,1,1,0],[.o 3 (.az 51), .v 15 (.az 51), .v 17 (.int .i64)],[(3, .c (.own 0))],[0],[⟨.normal,[.o 3 (.az 51)],[(3, .c (.own 1))]⟩],[8,9,10,15,16,17]⟩ fun x=>PV N x.1 x.2.1 x.2.2.1
def ai8 (N:Nat):aA (Et N).aK (bn Tryz.f14):=aA.dg (ai9 N) N ⟨[1,1,0,1,0,0,1,1,0,0,1,1,0],[.o 3 (.az 51), .v 15 (.az 51), .v 16 (.int .i64), .v 17 (.int .i64)],[(3, .c (.own 0))],[0],[⟨.exit 2,[.o 3 (.az 51)],[(3, .c (.own 1))]⟩],[8,9,10]⟩ fun n x=>xp N x.2.1 x.2.2.1 n x.1 x.2.2.2.1
def ai7 (N:Nat):aA (Et N).aK (bn Tryz.f14):=aA.dg (ai8 N) N ⟨[1,1,0,1,0],[.o 3 (.az 51), .v 8 (.az 49), .v 9 (.int .i64), .v 10 (.int .i64)],[(3, .c (.own 0))],[0],[⟨.exit 0,[.o 3 (.az 51)],[(3, .c (.own 1))]⟩],[]⟩ fun n x=>xo N x.2.1 x.2.2.1 n x.1 x.2.2.2.1
def J5:b4 D:=⟨14,1,[.v 0 (.az 49)],[],aqY,0,[.o 2 (.az 51)],[(2, .c (.own 0))],[.tmp 2],aqZ⟩
def Ri (N:Nat):J5.F:=fun r x=>DZ N x.1
theorem aoa (N:Nat):b3 bd J5 (Ri N):=aA.fn (ai7 N) Tryz.func14
def x9 (N:Nat):cA bd:=(Et N).db J5 (Ri N) (aoa N)
def aky (N:Nat):aA (x9 N).aK (bn Tryz.f16):=aA.aO aA.nil ⟨[1,0,1,0,0,1,0,0,0,0],[.v 0 (.az 63), .v 1 (.az 51), .v 5 (.int .i64)],[],[],[⟨.normal,[.v 40 .bool],[]⟩],[0,1,5]⟩ fun x=>HP N x.1 x.2.1 x.2.2.1
def akz (N:Nat):aA (x9 N).aK (bn Tryz.f16):=aA.aO (aky N) ⟨[1,0,1,0,0,1,0,0,1,1,1,0,1,0,0],[.v 6 (.int .i64)],[],[],[⟨.normal,[.v 62 .bool],[]⟩],[0,1,5]⟩ fun x=>HQ N x.1
def akA (N:Nat):aA (x9 N).aK (bn Tryz.f16):=aA.aO (akz N) ⟨[1,0,1,0,0,1,0,0,1,1,1,0,1,1,1,0,0],[.v 6 (.int .i64)],[],[],[⟨.normal,[.v 70 .bool],[]⟩],[0,1,5]⟩ fun x=>HR N x.1
def akx (N:Nat):aA (x9 N).aK (bn Tryz.f16):=aA.aO (akA N) ⟨[1,0,1,0,0,1,0],[.v 0 (.az 63), .v 1 (.az 51), .v 5 (.int .i64)],[],[],[⟨.normal,[],[]⟩,⟨.ret,[.v 4 .bool],[]⟩],[0,1,5]⟩ fun x=>DC N x.1 x.2.1 x.2.2.1
def akw (N:Nat):aA (x9 N).aK (bn Tryz.f16):=aA.dg (akx N) N ⟨[1,0,1,0],[.v 0 (.az 63), .v 1 (.az 51), .v 5 (.int .i64)],[],[],[⟨.exit 0,[],[]⟩,⟨.ret,[.v 4 .bool],[]⟩],[]⟩ fun n x=>sZ N x.1 x.2.1 n x.2.2.1
def K1:b4 D:=⟨16,2,[.v 0 (.az 63), .v 1 (.az 51)],[],aqY,0,[.v 4 .bool],[],[.tmp 4],aqW⟩
def Sd (N:Nat):K1.F:=fun r x=>AA N x.1 x.2.1
theorem ao7 (N:Nat):b3 bd K1 (Sd N):=aA.fn (akw N) Tryz.func16
def SZ (N:Nat):cA bd:=(x9 N).db K1 (Sd N) (ao7 N)
def nR:gM D:=⟨44,6,[.o 100000000 (.az 3), .v 0 (.az 63), .v 1 (.az 37), .v 2 (.az 51), .v 3 (.int .i64), .v 4 (.int .i64), .o 5 (.map 84 114 4)],[(5, .c (.own 1))],[1,2],[.v 12 .bool, .u 1 (.map 84 114 4)],[],[12],aqW⟩
def oH (N bM:Nat):nR.hY.F:=fun x=>jr N bM x.1 x.2.1 x.2.2.1 x.2.2.2.1 x.2.2.2.2.1 x.2.2.2.2.2.1 x.2.2.2.2.2.2.1
def yc (N bM:Nat) (an:eL bd nR (oH N bM)):cA bd:=(SZ N).vv nR (oH N bM) an
def ajz (N bM:Nat) (an:eL bd nR (oH N bM)):aA (yc N bM an).aK (bn Tryz.f44):=aA.aO aA.nil ⟨[1,1,0,0],[.o 100000000 (.az 3), .v 4 (.int .i64), .o 5 (.map 84 114 4), .v 13 (.int .i64)],[(5, .c (.own 1))],[1,1],[⟨.normal,[.v 30 .bool],[]⟩],[0,1,2,4,5,13]⟩ fun x=>Ib N (jr N bM) x.2.1 x.2.2.1 x.2.2.2.1
def ajA (N bM:Nat) (an:eL bd nR (oH N bM)):aA (yc N bM an).aK (bn Tryz.f44):=aA.aO (ajz N bM an) ⟨[1,1,1,1,0,1,0,0],[.o 100000000 (.az 3), .v 1 (.az 37), .o 5 (.map 84 114 4), .v 13 (.int .i64)],[(5, .c (.own 1))],[1,1],[⟨.normal,[.v 12 .bool],[]⟩],[5]⟩ fun x=>P7 N (jr N bM) x.2.1 x.2.2.2.1
def ajB (N bM:Nat) (an:eL bd nR (oH N bM)):aA (yc N bM an).aK (bn Tryz.f44):=aA.aO (ajA N bM an) ⟨[1,1,1,1,1,1,1,0,0],[.o 100000000 (.az 3), .o 5 (.map 84 114 4), .v 14 (.fH 63), .v 15 (.int .i64), .v 16 (.az 3)],[(5, .c (.own 1))],[1,1],[⟨.normal,[.v 72 .bool],[]⟩],[0,1,2,4,5,13,14,15,16]⟩ fun x=>Ic N (jr N bM) x.2.2.1 x.2.2.2.1
def ajE (N bM:Nat) (an:eL bd nR (oH N bM)):aA (yc N bM an).aK (bn Tryz.f44):=aA.aO (ajB N bM an) ⟨[1,1,1,1,1,1,1,1,0,1,0,0,1,0,0,0,0],[.o 100000000 (.az 3), .v 4 (.int .i64), .o 5 (.map 84 114 4), .v 14 (.fH 63), .v 15 (.int .i64), .v 16 (.az 3), .v 17 (.int .i64)],[(5, .c (.own 1))],[1,1],[⟨.normal,[.v 113 .bool],[]⟩],[0,1,2,4,5,13,14,15,16,17]⟩ fun x=>Ie N (jr N bM) x.2.1 x.2.2.2.1 x.2.2.2.2.1 x.2.2.2.2.2.1 x.2.2.2.2.2.2.1
def ajD (N bM:Nat) (an:eL bd nR (oH N bM)):aA (yc N bM an).aK (bn Tryz.f44):=aA.aO (ajE N bM an) ⟨[1,1,1,1,1,1,1,1,0,1,0,0,1,0],[.o 100000000 (.az 3), .v 0 (.az 63), .v 1 (.az 37), .v 2 (.az 51), .v 4 (.int .i64), .o 5 (.map 84 114 4), .v 13 (.int .i64), .v 14 (.fH 63), .v 15 (.int .i64), .v 16 (.az 3), .v 17 (.int .i64)],[(5, .c (.own 1))],[1,2],[⟨.normal,[.u 1 (.map 84 114 4)],[]⟩,⟨.ret,[.u 1 (.map 84 114 4), .v 12 .bool],[]⟩],[0,1,2,4,5,13,14,15,16,17]⟩ fun x=>P8 N (jr N bM) x.1 x.2.1 x.2.2.1 x.2.2.2.1 x.2.2.2.2.1 x.2.2.2.2.2.1 x.2.2.2.2.2.2.1 x.2.2.2.2.2.2.2.1 x.2.2.2.2.2.2.2.2.1 x.2.2.2.2.2.2.2.2.2.1 x.2.2.2.2.2.2.2.2.2.2.1
def ajC (N bM:Nat) (an:eL bd nR (oH N bM)):aA (yc N bM an).aK (bn Tryz.f44):=aA.dg (ajD N bM an) N ⟨[1,1,1,1,1,1,1,1,0,1,0],[.o 100000000 (.az 3), .v 0 (.az 63), .v 1 (.az 37), .v 2 (.az 51), .v 4 (.int .i64), .o 5 (.map 84 114 4), .v 13 (.int .i64), .v 14 (.fH 63), .v 15 (.int .i64), .v 16 (.az 3), .v 17 (.int .i64)],[(5, .c (.own 1))],[1,2],[⟨.exit 0,[.u 1 (.map 84 114 4)],[]⟩,⟨.ret,[.u 1 (.map 84 114 4), .v 12 .bool],[]⟩],[5]⟩ fun n x=>zU N (jr N bM) x.1 x.2.1 x.2.2.1 x.2.2.2.1 x.2.2.2.2.1 x.2.2.2.2.2.2.1 x.2.2.2.2.2.2.2.1 x.2.2.2.2.2.2.2.2.1 x.2.2.2.2.2.2.2.2.2.1 n x.2.2.2.2.2.1 x.2.2.2.2.2.2.2.2.2.2.1
theorem aed (N bM:Nat) (an:eL bd nR (oH N bM)):eL bd nR (oH N (bM+1)):=aA.E3 (ajC N bM an) Tryz.func44
theorem ZR (N:Nat):∀bM:Nat,eL bd nR (oH N bM)
 |0=>eL.none fun x=>rfl
 |bM+1=>aed N bM (ZR N bM)
def A6 (N:Nat):cA bd:=(SZ N).vv nR (oH N N) (ZR N N)
def ale (N:Nat):aA (A6 N).aK (bn Tryz.f17):=aA.aO aA.nil ⟨[1,1,1,1,0,1,0,0,1,0,0,0,0],[.v 0 (.az 63), .v 1 (.az 37), .o 8 (.az 3), .v 9 (.int .i64)],[(8, .c (.own 0))],[1],[⟨.normal,[.v 34 .bool],[]⟩],[0,1,2,8,9]⟩ fun x=>Ij N x.1 x.2.1 x.2.2.2.1
def alf (N:Nat):aA (A6 N).aK (bn Tryz.f17):=aA.aO (ale N) ⟨[1,1,1,1,0,1,0,0,1,0,0,1,0],[.v 0 (.az 63), .v 1 (.az 37), .v 2 (.az 51), .o 8 (.az 3), .v 9 (.int .i64)],[(8, .c (.own 0))],[1],[⟨.normal,[.v 58 .bool],[]⟩],[0,1,2,8,9]⟩ fun x=>Ik N x.1 x.2.1 x.2.2.1 x.2.2.2.1 x.2.2.2.2.1
def ald (N:Nat):aA (A6 N).aK (bn Tryz.f17):=aA.aO (alf N) ⟨[1,1,1,1,0,1,0,0,1,0],[.v 0 (.az 63), .v 1 (.az 37), .v 2 (.az 51), .o 8 (.az 3), .v 9 (.int .i64)],[(8, .c (.own 0))],[0],[⟨.normal,[.o 8 (.az 3)],[(8, .c (.own 1))]⟩],[0,1,2,9]⟩ fun x=>Ii N x.1 x.2.1 x.2.2.1 x.2.2.2.1 x.2.2.2.2.1
def alc (N:Nat):aA (A6 N).aK (bn Tryz.f17):=aA.dg (ald N) N ⟨[1,1,1,1,0,1,0],[.v 0 (.az 63), .v 1 (.az 37), .v 2 (.az 51), .o 8 (.az 3), .v 9 (.int .i64)],[(8, .c (.own 0))],[0],[⟨.exit 0,[.o 8 (.az 3)],[(8, .c (.own 1))]⟩],[]⟩ fun n x=>xa N x.1 x.2.1 x.2.2.1 n x.2.2.2.1 x.2.2.2.2.1
def KD:b4 D:=⟨17,3,[.v 0 (.az 63), .v 1 (.az 37), .v 2 (.az 51)],[],aqY,0,[.o 6 (.az 3), .v 7 (.int .i64)],[(6, .c (.own 0))],[.tmp 6, .tmp 7],aqZ⟩
def RP (N:Nat):KD.F:=fun r x=>xP N x.1 x.2.1 x.2.2.1
theorem aoJ (N:Nat):b3 bd KD (RP N):=aA.fn (alc N) Tryz.func17
def S0 (N:Nat):cA bd:=(A6 N).db KD (RP N) (aoJ N)
def KW:b4 D:=⟨33,0,[],[],aqY,0,[.o 0 (.az 63)],[(0, .c (.own 0))],[.tmp 0],aqZ⟩
def R8 (N:Nat):KW.F:=fun r x=>xR N
theorem ao2 (N:Nat):b3 bd KW (R8 N):=aA.fn (aA.nil:aA (S0 N).aK (bn Tryz.f33)) Tryz.func33
def S1 (N:Nat):cA bd:=(S0 N).db KW (R8 N) (ao2 N)
def akG (N:Nat):aA (S1 N).aK (bn Tryz.f74):=aA.aO aA.nil ⟨[1,0,1,0,0,1],[.o 1 (.box 63), .v 4 (.int .i64), .v 5 .bool],[(1, .box 0 0)],[1],[⟨.normal,[.v 5 .bool],[]⟩],[1,4]⟩ fun x=>Qf N x.2.1 x.2.2.1
def KQ:b4 D:=⟨74,1,[.v 0 (.agg 63)],[],aqY,0,[.o 2 (.az 3)],[(2, .c (.own 0))],[.tmp 2],aqZ⟩
def R2 (N:Nat):KQ.F:=fun r x=>xQ N x.1
theorem aoW (N:Nat):b3 bd KQ (R2 N):=aA.fn (akG N) Tryz.func74
def Eu (N:Nat):cA bd:=(S1 N).db KQ (R2 N) (aoW N)
def akH (N:Nat):aA (Eu N).aK (bn Tryz.f105):=aA.aO aA.nil ⟨[1,0,0],[.v 0 .str],[],[],[⟨.normal,[.v 11 .bool],[]⟩],[0]⟩ fun x=>Qg N x.1
def akJ (N:Nat):aA (Eu N).aK (bn Tryz.f105):=aA.aO (akH N) ⟨[1,1,0,1,0,0,1,1,0,0,1,0],[.v 0 .str, .v 3 (.int .i64)],[],[],[⟨.normal,[.v 38 .bool],[]⟩],[0,13,14]⟩ fun x=>Ir N x.1 x.2.1
def akI (N:Nat):aA (Eu N).aK (bn Tryz.f105):=aA.dg (akJ N) N ⟨[1,1,0,1,0],[.v 0 .str, .v 13 (.int .i64), .v 14 (.int .i64)],[],[],[⟨.exit 0,[],[]⟩,⟨.ret,[.v 2 .bool],[]⟩],[]⟩ fun n x=>uY N x.1 x.2.1 n x.2.2.1
def KR:b4 D:=⟨105,1,[.v 0 .str],[],aqY,0,[.v 2 .bool],[],[.tmp 2],aqW⟩
def R3 (N:Nat):KR.F:=fun r x=>I7 N x.1
theorem aoX (N:Nat):b3 bd KR (R3 N):=aA.fn (akI N) Tryz.func105
def ry (N:Nat):cA bd:=(Eu N).db KR (R3 N) (aoX N)
def ajJ (N:Nat):aA (ry N).aK (bn Tryz.f73):=aA.aO aA.nil ⟨[1,1,0,0],[.o 1 (.box 63), .o 3 (.az 3)],[(1, .box 0 0),(3, .c (.own 1))],[1,1],[⟨.normal,[.v 17 .bool],[]⟩],[1,3]⟩ fun x=>PK N x.1 x.2.1
def ajL (N:Nat):aA (ry N).aK (bn Tryz.f73):=aA.aO (ajJ N) ⟨[1,1,1,0,1,0,0,1,1,0,0,1,0,0],[.o 1 (.box 63), .v 5 (.int .i64)],[(1, .box 0 0)],[1],[⟨.normal,[.v 30 .bool],[]⟩],[1,3,4,5,18,19,20]⟩ fun x=>PL N x.2.1
def ajM (N:Nat):aA (ry N).aK (bn Tryz.f73):=aA.dg (ajL N) N ⟨[1,1,1,0,1,0,0,1,1,0,0,1,1,1,0],[.o 1 (.box 63), .v 5 (.int .i64), .v 33 (.az 3), .v 34 (.int .i64), .v 35 (.int .i64)],[(1, .box 0 0)],[1],[⟨.exit 2,[],[]⟩,⟨.ret,[.v 2 .bool],[]⟩],[1,3,18,19,20]⟩ fun n x=>sN N x.2.1 x.2.2.1 x.2.2.2.1 n x.2.2.2.2.1
def ajK (N:Nat):aA (ry N).aK (bn Tryz.f73):=aA.dg (ajM N) N ⟨[1,1,1,0,1,0],[.o 1 (.box 63), .v 3 (.az 3), .v 18 (.az 3), .v 19 (.int .i64), .v 20 (.int .i64)],[(1, .box 0 0)],[1],[⟨.exit 0,[],[]⟩,⟨.ret,[.v 2 .bool],[]⟩],[1]⟩ fun n x=>sM N x.2.1 x.2.2.1 x.2.2.2.1 n x.2.2.2.2.1
def ajN (N:Nat):aA (ry N).aK (bn Tryz.f73):=aA.aO (ajK N) ⟨[1,1,1,1,0,1,0,0],[.o 1 (.box 63)],[(1, .box 0 0)],[1],[⟨.normal,[.v 2 .bool],[]⟩],[]⟩ fun x=>PM N x.1
def ajO (N:Nat):aA (ry N).aK (bn Tryz.f73):=aA.aO (ajN N) ⟨[1,1,1,1,1,0],[.o 1 (.box 63)],[(1, .box 0 0)],[1],[⟨.normal,[.v 2 .bool],[]⟩],[]⟩ fun x=>PN N x.1
def Kq:b4 D:=⟨73,1,[.v 0 (.agg 63)],[],aqY,0,[.v 2 .bool],[],[.tmp 2],aqW⟩
def Jh (N:Nat):Kq.F:=fun r x=>I1 N x.1
theorem aow (N:Nat):b3 bd Kq (Jh N):=aA.fn (ajO N) Tryz.func73
def akk (N:Nat):aA (ry N).aK (bn Tryz.f74):=aA.aO aA.nil ⟨[1,0,1,0,0,1],[.o 1 (.box 63), .v 4 (.int .i64), .v 5 .bool],[(1, .box 0 0)],[1],[⟨.normal,[.v 5 .bool],[]⟩],[1,4]⟩ fun x=>PH N x.2.1 x.2.2.1
def Kj:b4 D:=⟨74,1,[.v 0 (.agg 63)],[],aqY,0,[],[(2, .c .fz)],[.tmp 2],aqZ⟩
def Rw (N:Nat):Kj.F:=fun r x=>IZ N x.1
theorem aoo (N:Nat):b3 bd Kj (Rw N):=aA.fn (akk N) Tryz.func74
def EC (N:Nat):oG bd:=(ry N).sub Kj (Rw N) (aoo N)
def akt (N:Nat):aA (EC N) (bn Tryz.f73):=aA.aO aA.nil ⟨[1,1,0,0],[.o 1 (.box 63)],[(1, .box 0 0),(3, .c .fz)],[1],[⟨.normal,[.v 17 .bool],[]⟩],[1,3]⟩ fun x=>PJ N
def aku (N:Nat):aA (EC N) (bn Tryz.f73):=aA.dg (akt N) N ⟨[1,1,1,0,1,0],[.o 1 (.box 63), .v 19 (.int .i64), .v 20 (.int .i64)],[(1, .box 0 0),(3, .c .fz),(18, .c .fz)],[1],[⟨.exit 0,[],[]⟩],[1]⟩ fun n x=>Zp N x.2.1 n x.2.2.1
def akv (N:Nat):aA (EC N) (bn Tryz.f73):=aA.aO (aku N) ⟨[1,1,1,1,0,1,0,0],[.o 1 (.box 63)],[(1, .box 0 0)],[1],[⟨.normal,[.v 2 .bool],[]⟩],[]⟩ fun x=>Zq N x.1
def ajI (N:Nat):aA (EC N) (bn Tryz.f73):=aA.aO (akv N) ⟨[1,1,1,1,1,0],[.o 1 (.box 63)],[(1, .box 0 0)],[1],[⟨.normal,[.v 2 .bool],[]⟩],[]⟩ fun x=>Zr N x.1
def TJ:b4 D:=⟨73,1,[.v 0 (.agg 63)],[],aqY,0,[.v 2 .bool],[],[.tmp 2],aqW⟩
def Jg (N:Nat):TJ.F:=fun r x=>QY N x.1
theorem aov (N:Nat):b3 bd TJ (Jg N):=aA.fn (ajI N) Tryz.func73
def KB:b4 D:=Kq
def RN (N:Nat):KB.F:=fun r x=>F4 (Jg N r x) (Jh N r x)
theorem aoH (N:Nat):b3 bd KB (RN N):=b3.or (AL:=Jg N) (AM:=Jh N) rfl (fun r x y h=>ajm h) (aov N) (aow N)
def Jv (N:Nat):cA bd:=(ry N).db KB (RN N) (aoH N)
def alb (N:Nat):aA (Jv N).aK (bn Tryz.f39):=aA.dg aA.nil N ⟨[1,1,1,1,0,1,0,0,1,1,0,0,1,1,1,1,1,0],[.o 3 (.map 111 9 4), .o 4 (.map 100 3 3), .o 31 (.az 3), .v 32 (.int .i64), .v 33 (.int .i64)],[(3, .c (.own 0)),(4, .c (.own 1)),(31, .c (.own 2))],[1,2,1],[⟨.exit 2,[.u 1 (.map 100 3 3)],[]⟩,⟨.ret,[.v 2 (.int .i64)],[]⟩],[3,4,14,15,16]⟩ fun n x=>sT N x.2.2.1 x.2.2.2.1 n x.2.1 x.2.2.2.2.1
def ala (N:Nat):aA (Jv N).aK (bn Tryz.f39):=aA.dg (alb N) N ⟨[1,1,1,1,0,1,0],[.o 3 (.map 111 9 4), .o 4 (.map 100 3 3), .v 14 (.az 63), .v 15 (.int .i64), .v 16 (.int .i64)],[(3, .c (.own 0)),(4, .c (.own 1))],[0,0],[⟨.exit 0,[],[]⟩,⟨.ret,[.v 2 (.int .i64)],[]⟩],[]⟩ fun n x=>zV N x.2.2.1 x.2.2.2.1 n x.1 x.2.1 x.2.2.2.2.1
def KA:b4 D:=⟨39,1,[.v 0 (.az 63)],[],aqY,0,[.v 2 (.int .i64)],[],[.tmp 2],aqW⟩
def RM (N:Nat):KA.F:=fun r x=>tk N x.1
theorem aoG (N:Nat):b3 bd KA (RM N):=aA.fn (ala N) Tryz.func39
def S2 (N:Nat):cA bd:=(Jv N).db KA (RM N) (aoG N)
def alm (N:Nat):aA (S2 N).aK (bn Tryz.f56):=aA.aO aA.nil ⟨[1,0],[.v 0 (.az 63), .v 1 (.int .i64)],[],[],[⟨.normal,[.v 4 .bool],[]⟩],[]⟩ fun x=>Im N x.1 x.2.1
def KH:b4 D:=⟨56,2,[.v 0 (.az 63), .v 1 (.int .i64)],[],aqY,0,[.v 4 .bool],[],[.tmp 4],aqW⟩
def RT (N:Nat):KH.F:=fun r x=>u9 N x.1 x.2.1
theorem aoN (N:Nat):b3 bd KH (RT N):=aA.fn (alm N) Tryz.func56
def S3 (N:Nat):cA bd:=(S2 N).db KH (RT N) (aoN N)
def alw (N:Nat):aA (S3 N).aK (bn Tryz.f58):=aA.aO aA.nil ⟨[1,0,0],[.v 0 (.az 63), .v 1 (.int .i64)],[],[],[⟨.normal,[.v 12 .bool],[]⟩],[0,1]⟩ fun x=>Qe N x.1 x.2.1
def KP:b4 D:=⟨58,2,[.v 0 (.az 63), .v 1 (.int .i64)],[],aqY,0,[.o 4 (.az 3)],[(4, .c (.own 0))],[.tmp 4],aqZ⟩
def R1 (N:Nat):KP.F:=fun r x=>va N x.1 x.2.1
theorem aoV (N:Nat):b3 bd KP (R1 N):=aA.fn (alw N) Tryz.func58
def S4 (N:Nat):cA bd:=(S3 N).db KP (R1 N) (aoV N)
def ai6 (N:Nat):aA (S4 N).aK (bn Tryz.f116):=aA.dg aA.nil N ⟨[1,0,1,0],[.v 0 (.az 3), .v 1 (.int .i64), .v 7 (.int .i64), .v 8 (.int .i64)],[],[],[⟨.exit 0,[],[]⟩,⟨.ret,[.v 4 (.int .i64)],[]⟩],[]⟩ fun n x=>uV N x.1 x.2.1 x.2.2.1 n x.2.2.2.1
def J4:b4 D:=⟨116,2,[.v 0 (.az 3), .v 1 (.int .i64)],[],aqY,0,[.v 4 (.int .i64)],[],[.tmp 4],aqW⟩
def Rh (N:Nat):J4.F:=fun r x=>QV N x.1 x.2.1
theorem an' (N:Nat):b3 bd J4 (Rh N):=aA.fn (ai6 N) Tryz.func116
def S5 (N:Nat):cA bd:=(S4 N).db J4 (Rh N) (an' N)
def J2:b4 D:=⟨114,2,[.v 0 (.az 3), .v 1 (.int .i64)],[],aqY,0,[.v 4 .bool],[],[.tmp 4],aqW⟩
def Rf (N:Nat):J2.F:=fun r x=>Au N x.1 x.2.1
theorem an8 (N:Nat):b3 bd J2 (Rf N):=aA.fn (aA.nil:aA (S5 N).aK (bn Tryz.f114)) Tryz.func114
def Ev (N:Nat):cA bd:=(S5 N).db J2 (Rf N) (an8 N)
def ake (N:Nat):aA (Ev N).aK (bn Tryz.f86):=aA.dg aA.nil N ⟨[1,0,1,0,0,1,1,0,0,1,1,1,0],[.v 2 (.int .i64), .v 7 (.int .i64), .o 22 (.az 3), .v 23 (.int .i64), .v 24 (.int .i64)],[(22, .c (.own 0))],[1],[⟨.exit 2,[],[]⟩,⟨.ret,[.v 6 (.int .i64)],[]⟩],[1,2,11,12,13]⟩ fun n x=>sK N x.1 x.2.1 x.2.2.1 x.2.2.2.1 n x.2.2.2.2.1
def akd (N:Nat):aA (Ev N).aK (bn Tryz.f86):=aA.aO (ake N) ⟨[1,0,1,0,0,1,1,0],[.v 1 (.int .i64), .v 2 (.int .i64), .v 11 (.az 63), .v 13 (.int .i64)],[],[],[⟨.normal,[],[]⟩,⟨.ret,[.v 6 (.int .i64)],[]⟩],[1,2,11,12,13]⟩ fun x=>PX N x.1 x.2.1 x.2.2.1 x.2.2.2.1
def akc (N:Nat):aA (Ev N).aK (bn Tryz.f86):=aA.dg (akd N) N ⟨[1,0,1,0],[.v 1 (.int .i64), .v 2 (.int .i64), .v 11 (.az 63), .v 12 (.int .i64), .v 13 (.int .i64)],[],[],[⟨.exit 0,[],[]⟩,⟨.ret,[.v 6 (.int .i64)],[]⟩],[]⟩ fun n x=>uW N x.1 x.2.1 x.2.2.1 x.2.2.2.1 n x.2.2.2.2.1
def Kf:b4 D:=⟨86,3,[.v 0 (.az 63), .v 1 (.int .i64), .v 2 (.int .i64)],[],aqY,0,[.v 6 (.int .i64)],[],[.tmp 6],aqW⟩
def Rs (N:Nat):Kf.F:=fun r x=>xM N x.1 x.2.1 x.2.2.1
theorem aok (N:Nat):b3 bd Kf (Rs N):=aA.fn (akc N) Tryz.func86
def S6 (N:Nat):cA bd:=(Ev N).db Kf (Rs N) (aok N)
def aks (N:Nat):aA (S6 N).aK (bn Tryz.f60):=aA.dg aA.nil N ⟨[1,1,0,1,0],[.v 2 (.int .i64), .o 7 (.az 3), .v 14 (.int .i64), .v 15 (.int .i64)],[(7, .c (.own 0)),(13, .c (.own 0))],[0],[⟨.exit 0,[],[]⟩,⟨.ret,[.v 6 (.az 3)],[]⟩],[]⟩ fun n x=>l7 N x.1 x.2.2.1 n x.2.1 x.2.2.2.1
def Kp:b4 D:=⟨60,3,[.v 0 (.az 63), .v 1 (.int .i64), .v 2 (.int .i64)],[],aqY,0,[.v 6 (.az 3)],[],[.tmp 6],aqZ⟩
def RC (N:Nat):Kp.F:=fun r x=>Ax N x.1 x.2.1 x.2.2.1
theorem aou (N:Nat):b3 bd Kp (RC N):=aA.fn (aks N) Tryz.func60
def ya (N:Nat):cA bd:=(S6 N).db Kp (RC N) (aou N)
def akF (N:Nat):aA (ya N).aK (bn Tryz.f107):=aA.aO aA.nil ⟨[1,1,0,0],[.v 0 (.az 63), .v 1 (.az 37), .v 5 (.int .i64)],[],[],[⟨.normal,[.v 47 .bool],[]⟩],[0,1,5]⟩ fun x=>zY N x.1 x.2.1 x.2.2.1
def alR (N:Nat):aA (ya N).aK (bn Tryz.f107):=aA.aO (akF N) ⟨[1,1,1,0,0],[.v 0 (.az 63), .v 1 (.az 37), .v 5 (.int .i64)],[],[],[⟨.normal,[.v 75 .bool],[]⟩],[0,1,5]⟩ fun x=>HU N x.1 x.2.1 x.2.2.1
def alT (N:Nat):aA (ya N).aK (bn Tryz.f107):=aA.aO (alR N) ⟨[1,1,1,1,0,1,0,0,1,1,0,0,1,1,0,0],[.v 0 (.az 63), .o 7 (.box 37), .o 8 (.box 37)],[(7, .box 0 0),(8, .box 1 0)],[1,1],[⟨.normal,[.v 108 .bool],[]⟩],[0,1,5,6,7,77,78,79]⟩ fun x=>HV N x.1 x.2.1 x.2.2.1
def alU (N:Nat):aA (ya N).aK (bn Tryz.f107):=aA.aO (alT N) ⟨[1,1,1,1,0,1,0,0,1,1,0,0,1,1,1,0],[.v 0 (.az 63), .v 5 (.int .i64), .v 6 (.int .i64), .o 7 (.box 37)],[(7, .box 0 0)],[1],[⟨.normal,[.v 124 .bool],[]⟩],[0,1,5,77,78,79]⟩ fun x=>HW N x.1 x.2.1 x.2.2.1 x.2.2.2.1
def alS (N:Nat):aA (ya N).aK (bn Tryz.f107):=aA.dg (alU N) N ⟨[1,1,1,1,0,1,0],[.v 0 (.az 63), .v 1 (.az 37), .v 5 (.int .i64), .v 77 (.az 37), .v 78 (.int .i64), .v 79 (.int .i64)],[],[],[⟨.exit 0,[],[]⟩,⟨.ret,[.v 4 .bool],[]⟩],[]⟩ fun n x=>uQ N x.1 x.2.1 x.2.2.1 x.2.2.2.1 x.2.2.2.2.1 n x.2.2.2.2.2.1
def K4:b4 D:=⟨107,2,[.v 0 (.az 63), .v 1 (.az 37)],[],aqY,0,[.v 4 .bool],[],[.tmp 4],aqW⟩
def Sg (N:Nat):K4.F:=fun r x=>Ja N x.1 x.2.1
theorem ao' (N:Nat):b3 bd K4 (Sg N):=aA.fn (alS N) Tryz.func107
def S7 (N:Nat):cA bd:=(ya N).db K4 (Sg N) (ao' N)
def aln (N:Nat):aA (S7 N).aK (bn Tryz.f61):=aA.dg aA.nil N ⟨[1,1,0,1,0],[.o 3 (.map 130 3 4), .v 7 (.az 37), .v 8 (.int .i64), .v 9 (.int .i64)],[(3, .c (.own 0))],[0],[⟨.exit 0,[],[]⟩,⟨.ret,[.v 2 .bool],[]⟩],[]⟩ fun n x=>sV N x.2.1 x.2.2.1 n x.1 x.2.2.2.1
def KI:b4 D:=⟨61,1,[.v 0 (.az 37)],[],aqY,0,[.v 2 .bool],[],[.tmp 2],aqW⟩
def RU (N:Nat):KI.F:=fun r x=>Ea N x.1
theorem aoO (N:Nat):b3 bd KI (RU N):=aA.fn (aln N) Tryz.func61
def S8 (N:Nat):cA bd:=(S7 N).db KI (RU N) (aoO N)
def alk (N:Nat):aA (S8 N).aK (bn Tryz.f88):=aA.aO aA.nil ⟨[1,0],[.v 0 (.az 63), .v 1 (.az 37)],[],[],[⟨.normal,[.v 4 .bool],[]⟩],[]⟩ fun x=>Qb N x.1 x.2.1
def KG:b4 D:=⟨88,2,[.v 0 (.az 63), .v 1 (.az 37)],[],aqY,0,[.v 4 .bool],[],[.tmp 4],aqW⟩
def RS (N:Nat):KG.F:=fun r x=>tl N x.1 x.2.1
theorem aoM (N:Nat):b3 bd KG (RS N):=aA.fn (alk N) Tryz.func88
def Ew (N:Nat):cA bd:=(S8 N).db KG (RS N) (aoM N)
def akn (N:Nat):aA (Ew N).aK (bn Tryz.f62):=aA.aO aA.nil ⟨[1,1,1,0,1,0,0,1,1,0,0,1,1,0,1,1,0],[.o 6 (.az 51), .o 8 (.box 37), .o 9 (.box 63)],[(6, .c (.own 0)),(8, .box 1 0),(9, .box 2 0)],[1,1,1],[⟨.normal,[.v 35 .bool],[]⟩],[0,6,8,9,14,15,16]⟩ fun x=>zQ N x.2.1 x.2.2.1
def akm (N:Nat):aA (Ew N).aK (bn Tryz.f62):=aA.aO (akn N) ⟨[1,1,1,0,1,0,0,1,1,0],[.v 0 (.az 63), .o 6 (.az 51), .v 14 (.az 37), .v 16 (.int .i64)],[(6, .c (.own 0))],[0],[⟨.normal,[.o 6 (.az 51)],[(6, .c (.own 1))]⟩],[0,14,15,16]⟩ fun x=>HF N x.1 x.2.1 x.2.2.1 x.2.2.2.1
def akl (N:Nat):aA (Ew N).aK (bn Tryz.f62):=aA.dg (akm N) N ⟨[1,1,1,0,1,0],[.v 0 (.az 63), .o 6 (.az 51), .v 14 (.az 37), .v 15 (.int .i64), .v 16 (.int .i64)],[(6, .c (.own 0))],[0],[⟨.exit 0,[.o 6 (.az 51)],[(6, .c (.own 1))]⟩],[]⟩ fun n x=>rb N x.1 x.2.2.1 x.2.2.2.1 n x.2.1 x.2.2.2.2.1
def Kk:b4 D:=⟨62,2,[.v 0 (.az 63), .v 1 (.az 37)],[],aqY,0,[.o 4 (.az 51), .v 5 (.int .i64)],[(4, .c (.own 0))],[.tmp 4, .tmp 5],aqZ⟩
def Rx (N:Nat):Kk.F:=fun r x=>th N x.1 x.2.1
theorem aop (N:Nat):b3 bd Kk (Rx N):=aA.fn (akl N) Tryz.func62
def S9 (N:Nat):cA bd:=(Ew N).db Kk (Rx N) (aop N)
def akj (N:Nat):aA (S9 N).aK (bn Tryz.f90):=aA.dg aA.nil N ⟨[1,1,0,1,0],[.o 3 (.map 130 3 4), .v 7 (.az 37), .v 8 (.int .i64), .v 9 (.int .i64)],[(3, .c (.own 0))],[2],[⟨.exit 0,[.u 0 (.map 130 3 4)],[]⟩],[3]⟩ fun n x=>w4 N x.2.1 x.2.2.1 n x.1 x.2.2.2.1
def Kh:b4 D:=⟨90,1,[.v 0 (.az 37)],[],aqY,0,[.o 2 (.map 130 3 4)],[(2, .c (.own 0))],[.tmp 2],aqZ⟩
def Ru (N:Nat):Kh.F:=fun r x=>IY N x.1
theorem aom (N:Nat):b3 bd Kh (Ru N):=aA.fn (akj N) Tryz.func90
def Ta (N:Nat):cA bd:=(S9 N).db Kh (Ru N) (aom N)
def alr (N:Nat):aA (Ta N).aK (bn Tryz.f94):=aA.aO aA.nil ⟨[1,0,0],[.o 2 (.box 63), .o 3 (.box 37)],[(2, .box 0 0),(3, .box 1 0)],[1,1],[⟨.normal,[.v 16 .bool],[]⟩],[2]⟩ fun x=>Ip N x.1 x.2.1
def KN:b4 D:=⟨94,2,[.v 0 (.agg 63), .v 1 (.agg 37)],[],aqY,0,[.v 4 (.int .i64)],[],[.tmp 4],aqW⟩
def RZ (N:Nat):KN.F:=fun r x=>I6 N x.1 x.2.1
theorem aoT (N:Nat):b3 bd KN (RZ N):=aA.fn (alr N) Tryz.func94
def Tb (N:Nat):cA bd:=(Ta N).db KN (RZ N) (aoT N)
def J9:gM D:=⟨91,3,[.o 100000000 (.box 25), .o 100000001 (.eQ 132 [(0,5)]), .o 100000002 (.eQ 130 [(0,6)]), .o 100000003 (.j9 127 91 [7]), .o 100000004 (.j9 133 92 [0,1,2,3,4]), .o 100000005 (.map 132 135 4), .o 100000006 (.map 130 3 4), .v 0 (.int .i64), .v 1 (.int .i64), .o 2 (.eQ 100 [(0,8)]), .o 2002000 (.map 100 3 3)],[(2, .box 7 0)],[1,1,1,1,1,1,1,1,2],[.v 5 (.int .i64), .u 8 (.map 100 3 3)],[],[5],aqZ⟩
def Rm (N:Nat):J9.hY.F:=fun x=>xL N x.2.2.2.2.2.2.2.1 x.2.2.2.2.2.2.2.2.1 x.2.2.2.2.2.2.2.2.2.2.1
def aiN (N:Nat):aA (Tb N).aK (bn Tryz.f91):=aA.aO aA.nil ⟨[1,0,1,0],[.o 100000000 (.box 25), .o 100000001 (.eQ 132 [(0,5)]), .o 100000002 (.eQ 130 [(0,6)]), .o 100000003 (.j9 127 91 [7]), .o 100000004 (.j9 133 92 [0,1,2,3,4]), .o 100000005 (.map 132 135 4), .o 100000006 (.map 130 3 4), .v 1 (.int .i64), .o 2 (.eQ 100 [(0,8)]), .v 6 (.int .i64), .v 7 .bool, .o 2002000 (.map 100 3 3)],[(2, .box 7 0)],[1,1,1,1,1,1,1,1,1],[⟨.normal,[.v 19 .bool],[]⟩],[0,1,2]⟩ fun x=>Hz N x.2.2.2.2.2.2.2.1 x.2.2.2.2.2.2.2.2.2.1 x.2.2.2.2.2.2.2.2.2.2.1
theorem aoe (N:Nat):eL bd J9 (Rm N):=aA.E3 (aiN N) Tryz.func91
def Tc (N:Nat):cA bd:=(Tb N).vv J9 (Rm N) (aoe N)
def KM:b4 D:=⟨93,2,[.v 0 (.agg 63), .v 1 (.int .i64)],[],aqY,0,[.v 4 (.int .i64)],[],[.tmp 4],aqW⟩
def RY (N:Nat):KM.F:=fun r x=>pz N x.1 x.2.1
theorem aoS (N:Nat):b3 bd KM (RY N):=aA.fn (aA.nil:aA (Tc N).aK (bn Tryz.f93)) Tryz.func93
def Td (N:Nat):cA bd:=(Tc N).db KM (RY N) (aoS N)
def tD:gM D:=⟨92,6,[.v 0 (.agg 135), .o 1 (.box 25), .o 2 (.eQ 132 [(0,5)]), .o 3 (.eQ 130 [(0,6)]), .o 4 (.j9 127 91 [7]), .o 5 (.j9 133 92 [0,1,2,3,4]), .o 2002000 (.map 132 135 4), .o 2003000 (.map 130 3 4), .o 200016385 (.eQ 100 [(0,8)]), .o 201048641 (.map 100 3 3)],[(1, .box 0 0),(2, .box 1 0),(3, .box 2 0),(4, .box 3 0),(5, .box 4 0)],[1,1,1,1,1,2,1,1,2],[.v 7 (.int .i64), .u 5 (.map 132 135 4), .u 8 (.map 100 3 3)],[],[7],aqW⟩
def vh (N bM:Nat):tD.hY.F:=fun x=>tg N bM x.1 x.2.1 x.2.2.1 x.2.2.2.1 x.2.2.2.2.2.2.1 x.2.2.2.2.2.2.2.1 x.2.2.2.2.2.2.2.2.1 x.2.2.2.2.2.2.2.2.2.1
def aai (N bM:Nat) (an:eL bd tD (vh N bM)):cA bd:=(Td N).vv tD (vh N bM) an
def aiO (N bM:Nat) (an:eL bd tD (vh N bM)):aA (aai N bM an).aK (bn Tryz.f92):=aA.aO aA.nil ⟨[1,1,0,0],[.o 1 (.box 25), .o 2 (.eQ 132 [(0,5)]), .o 3 (.eQ 130 [(0,6)]), .o 4 (.j9 127 91 [7]), .o 5 (.j9 133 92 [0,1,2,3,4]), .v 6 (.fH 135), .v 8 (.int .i64), .o 2002000 (.map 132 135 4), .o 2003000 (.map 130 3 4), .o 200016385 (.eQ 100 [(0,8)]), .o 201048641 (.map 100 3 3)],[(1, .box 0 0),(2, .box 1 0),(3, .box 2 0),(4, .box 3 0),(5, .box 4 0)],[1,1,1,1,1,1,1,1,1],[⟨.normal,[.v 28 .bool],[]⟩],[1,2,3,4,5,6,8]⟩ fun x=>HA N (tg N bM) x.2.2.2.2.2.1 x.2.2.2.2.2.2.1 x.2.2.2.2.2.2.2.1 x.2.2.2.2.2.2.2.2.1
theorem aeb (N bM:Nat) (an:eL bd tD (vh N bM)):eL bd tD (vh N (bM+1)):=aA.E3 (aiO N bM an) Tryz.func92
theorem ZP (N:Nat):∀bM:Nat,eL bd tD (vh N bM)
 |0=>eL.none fun x=>rfl
 |bM+1=>aeb N bM (ZP N bM)
def Te (N:Nat):cA bd:=(Td N).vv tD (vh N N) (ZP N N)
def Tw (N:Nat):oG bd:=(Te N).aK.oP fun x bG ae=>match x,bG,ae with| .func 91,aqY,aqY=>5| .func 92,aqY,aqY=>5|_,_,_=>0
def ak' (N:Nat):aA (Tw N) (bn Tryz.f63):=aA.aO aA.nil ⟨[1,1,1,1,1,1,1,0,1,0,0,1,1,0],[.o 2 (.box 25), .o 8 (.eQ 100 [(0,3)]), .o 10 (.j9 133 92 [0,4,5,6,2]), .v 21 (.az 37), .v 23 (.int .i64), .o 2008000 (.map 100 3 3), .o 200040962 (.eQ 132 [(0,7)]), .o 200040963 (.eQ 130 [(0,8)]), .o 200040964 (.j9 127 91 [1]), .o 202621569 (.map 132 135 4), .o 202621633 (.map 130 3 4)],[(2, .box 0 0),(8, .box 1 0),(10, .box 2 0)],[1,1,1,2,1,1,1,2,1],[⟨.normal,[.u 3 (.map 100 3 3), .u 7 (.map 132 135 4)],[]⟩,⟨.ret,[.v 5 (.int .i64)],[(4, .c .oi)]⟩],[2,8,10,21,22,23]⟩ fun x=>P9 N x.1 x.2.2.2.1 x.2.2.2.2.1 x.2.2.2.2.2.1 x.2.2.2.2.2.2.2.2.2.1 x.2.2.2.2.2.2.2.2.2.2.1
def ak9 (N:Nat):aA (Tw N) (bn Tryz.f63):=aA.dg (ak' N) N ⟨[1,1,1,1,1,1,1,0,1,0],[.o 2 (.box 25), .o 8 (.eQ 100 [(0,3)]), .o 10 (.j9 133 92 [0,4,5,6,2]), .v 21 (.az 37), .v 22 (.int .i64), .v 23 (.int .i64), .o 2008000 (.map 100 3 3), .o 200040962 (.eQ 132 [(0,7)]), .o 200040963 (.eQ 130 [(0,8)]), .o 200040964 (.j9 127 91 [1]), .o 202621569 (.map 132 135 4), .o 202621633 (.map 130 3 4)],[(2, .box 0 0),(8, .box 1 0),(10, .box 2 0)],[1,2,1,0,2,1,1,0,1],[⟨.exit 0,[.u 1 (.eQ 100 [(0,9)]), .o 2008000 (.map 100 3 3)],[]⟩,⟨.ret,[.v 5 (.int .i64)],[(4, .c .oi)]⟩],[8]⟩ fun n x=>sS N x.1 x.2.2.2.1 x.2.2.2.2.1 x.2.2.2.2.2.2.2.2.2.2.2.1 n x.2.1 x.2.2.2.2.2.1 x.2.2.2.2.2.2.1 x.2.2.2.2.2.2.2.1 x.2.2.2.2.2.2.2.2.2.2.1
def Kz:b4 D:=⟨63,2,[.v 0 (.az 63), .v 1 (.az 37)],[],aqY,0,[.v 4 (.mp 100 3 3), .v 5 (.int .i64)],[],[.tmp 4, .tmp 5],aqZ⟩
def RL (N:Nat):Kz.F:=fun r x=>Ay N x.1 x.2.1
theorem aoF (N:Nat):b3 bd Kz (RL N):=aA.fn (ak9 N) Tryz.func63
def Jx (N:Nat):cA bd:=(Te N).db Kz (RL N) (aoF N)
def Sz:gh D:=Ab D [1,1,1,1,1] 51 3 3 100
def aiI (N:Nat):Sz.F:=fun x=>Dy N x.1 x.2.1
def akq (N:Nat):aA (Jx N).aK (bn Tryz.f29):=aA.add aA.nil Sz (aiI N) (agi (e:=51) (kt:=3) (vt:=3) (t:=100) (Jx N).aK.ok (by kernel_rfl) .i64 .i64 rfl rfl (fun (a:Int) (b:Int)=>(aW.mk a b)) ((aW.mk 0 0):aW) (fun (x:aW)=>x.ak) (by kernel_rfl) (by kernel_rfl) (by kernel_rfl) (by kernel_rfl) rfl MR.K IE.V (fun _=>rfl) (fun _=>rfl) (by kernel_rfl) (fun a b bi wf=>by kernel_rfl) (fun bi wf=>by kernel_rfl) (fun bi wf=>by kernel_rfl) Iz.ad Iz.an Iz.aP (asg (by kernel_rfl)) (by kernel_rfl) (by kernel_rfl)) (by kernel_rfl)
def Kn:b4 D:=⟨29,2,[.v 0 (.az 63), .v 1 (.az 37)],[],aqY,0,[.v 4 (.az 51), .v 5 (.int .i64)],[],[.tmp 4, .tmp 5],aqZ⟩
def RA (N:Nat):Kn.F:=fun r x=>mQ N x.1 x.2.1
theorem aos (N:Nat):b3 bd Kn (RA N):=aA.fn (akq N) Tryz.func29
def Tf (N:Nat):cA bd:=(Jx N).db Kn (RA N) (aos N)
def ai3 (N:Nat):aA (Tf N).aK (bn Tryz.f40):=aA.dg aA.nil N ⟨[1,1,0,1,0],[.v 0 (.az 51), .v 1 (.az 51), .v 12 (.int .i64), .v 13 (.int .i64)],[],[],[⟨.exit 0,[],[]⟩,⟨.ret,[.v 4 .bool],[]⟩],[]⟩ fun n x=>sw N x.1 x.2.1 x.2.2.1 n x.2.2.2.1
def J0:b4 D:=⟨40,2,[.v 0 (.az 51), .v 1 (.az 51)],[],aqY,0,[.v 4 .bool],[],[.tmp 4],aqW⟩
def Rc (N:Nat):J0.F:=fun r x=>IU N x.1 x.2.1
theorem an6 (N:Nat):b3 bd J0 (Rc N):=aA.fn (ai3 N) Tryz.func40
def yb (N:Nat):cA bd:=(Tf N).db J0 (Rc N) (an6 N)
def aja (N:Nat):aA (yb N).aK (bn Tryz.f30):=aA.dg aA.nil N ⟨[1,0,1,0,0,1,1,0,0,1,1,0],[.o 2 (.box 49), .o 3 (.box 49), .o 6 (.box 37), .v 21 (.az 37), .v 22 (.int .i64), .v 23 (.int .i64)],[(2, .box 0 0),(3, .box 1 0),(6, .box 2 0)],[1,1,1],[⟨.exit 2,[],[]⟩,⟨.ret,[.v 4 .bool],[]⟩],[2,3,14,15,16]⟩ fun n x=>sF N x.2.2.1 x.2.2.2.1 x.2.2.2.2.1 n x.2.2.2.2.2.1
def ai' (N:Nat):aA (yb N).aK (bn Tryz.f30):=aA.dg (aja N) N ⟨[1,0,1,0],[.o 2 (.box 49), .o 3 (.box 49), .v 14 (.az 37), .v 15 (.int .i64), .v 16 (.int .i64)],[(2, .box 0 0),(3, .box 1 0)],[1,1],[⟨.exit 0,[],[]⟩,⟨.ret,[.v 4 .bool],[]⟩],[2,3]⟩ fun n x=>sy N x.2.1 x.2.2.1 x.2.2.2.1 n x.2.2.2.2.1
def ajd (N:Nat):aA (yb N).aK (bn Tryz.f30):=aA.aO (ai' N) ⟨[1,1,0,1,0,0,1,1,0,0,1,1,0,0,1,1,0,0,1,0],[.o 3 (.box 49), .o 10 (.box 51), .o 12 (.box 51)],[(3, .box 0 0),(10, .box 1 0),(12, .box 2 0)],[1,1,1],[⟨.normal,[.v 59 .bool],[]⟩],[3,10,35,36,37,42,43,44]⟩ fun x=>Hy N x.2.1 x.2.2.1
def ajc (N:Nat):aA (yb N).aK (bn Tryz.f30):=aA.dg (ajd N) N ⟨[1,1,0,1,0,0,1,1,0,0,1,1,0],[.o 3 (.box 49), .o 10 (.box 51), .v 42 (.az 51), .v 43 (.int .i64), .v 44 (.int .i64)],[(3, .box 0 0),(10, .box 1 0)],[1,1],[⟨.exit 6,[],[]⟩,⟨.ret,[.v 4 .bool],[]⟩],[3,35,36,37]⟩ fun n x=>sH N x.2.1 x.2.2.1 x.2.2.2.1 n x.2.2.2.2.1
def ajb (N:Nat):aA (yb N).aK (bn Tryz.f30):=aA.dg (ajc N) N ⟨[1,1,0,1,0],[.o 3 (.box 49), .v 35 (.az 51), .v 36 (.int .i64), .v 37 (.int .i64)],[(3, .box 0 0)],[1],[⟨.exit 4,[],[]⟩,⟨.ret,[.v 4 .bool],[]⟩],[]⟩ fun n x=>sG N x.1 x.2.1 x.2.2.1 n x.2.2.2.1
def J6:b4 D:=⟨30,2,[.v 0 (.agg 49), .v 1 (.agg 49)],[],aqY,0,[.v 4 .bool],[],[.tmp 4],aqW⟩
def Rj (N:Nat):J6.F:=fun r x=>xK N x.1 x.2.1
theorem aob (N:Nat):b3 bd J6 (Rj N):=aA.fn (ajb N) Tryz.func30
def vu (N:Nat):cA bd:=(yb N).db J6 (Rj N) (aob N)
def aiV (N:Nat):aA (vu N).aK (bn Tryz.f15):=aA.aO aA.nil ⟨[1,0,0,0],[.v 0 (.az 63), .v 1 (.az 49)],[],[],[⟨.normal,[.v 18 .bool],[]⟩],[0,1]⟩ fun x=>HB N x.1 x.2.1
def aj' (N:Nat):aA (vu N).aK (bn Tryz.f15):=aA.aO (aiV N) ⟨[1,0,1,1,0,1,0,0,1,1,0,0,1,1,0,0],[.o 6 (.box 49), .v 7 (.az 51), .v 8 (.int .i64)],[(6, .box 0 0)],[1],[⟨.normal,[.v 46 .bool],[]⟩],[0,1,5,6,19,20,21]⟩ fun x=>HD N x.1 x.2.1 x.2.2.1
def akb (N:Nat):aA (vu N).aK (bn Tryz.f15):=aA.aO (aj' N) ⟨[1,0,1,1,0,1,0,0,1,1,0,0,1,1,1,1,0,0,1,1,0,0,1,1,0],[.o 6 (.box 49), .o 10 (.box 49)],[(6, .box 0 0),(10, .box 1 0)],[1,1],[⟨.normal,[.v 66 .bool],[]⟩],[0,1,5,6,19,20,21,47,48,49]⟩ fun x=>HE N x.1 x.2.1
def aka (N:Nat):aA (vu N).aK (bn Tryz.f15):=aA.dg (akb N) N ⟨[1,0,1,1,0,1,0,0,1,1,0,0,1,1,1,1,0],[.v 5 (.int .i64), .o 6 (.box 49), .v 47 (.az 49), .v 48 (.int .i64), .v 49 (.int .i64)],[(6, .box 0 0)],[1],[⟨.exit 1,[],[]⟩,⟨.exit 2,[],[]⟩,⟨.ret,[.v 4 .bool],[]⟩],[0,1,19,20,21]⟩ fun n x=>w2 N x.1 x.2.1 x.2.2.1 x.2.2.2.1 n x.2.2.2.2.1
def aj9 (N:Nat):aA (vu N).aK (bn Tryz.f15):=aA.aO (aka N) ⟨[1,0,1,1,0,1,0,0,1,1,0],[.v 0 (.az 63), .v 1 (.az 49), .v 19 (.az 49), .v 21 (.int .i64)],[],[],[⟨.normal,[],[]⟩,⟨.ret,[.v 4 .bool],[]⟩],[0,1,19,20,21]⟩ fun x=>HC N x.1 x.2.1 x.2.2.1 x.2.2.2.1
def aj8 (N:Nat):aA (vu N).aK (bn Tryz.f15):=aA.dg (aj9 N) N ⟨[1,0,1,1,0,1,0],[.v 0 (.az 63), .v 1 (.az 49), .v 19 (.az 49), .v 20 (.int .i64), .v 21 (.int .i64)],[],[],[⟨.exit 0,[],[]⟩,⟨.ret,[.v 4 .bool],[]⟩],[]⟩ fun n x=>sJ N x.1 x.2.1 x.2.2.1 x.2.2.2.1 n x.2.2.2.2.1
def Kd:b4 D:=⟨15,2,[.v 0 (.az 63), .v 1 (.az 49)],[],aqY,0,[.v 4 .bool],[],[.tmp 4],aqW⟩
def Rq (N:Nat):Kd.F:=fun r x=>u7 N x.1 x.2.1
theorem aoi (N:Nat):b3 bd Kd (Rq N):=aA.fn (aj8 N) Tryz.func15
def Th (N:Nat):cA bd:=(vu N).db Kd (Rq N) (aoi N)
def Ke:b4 D:=⟨26,2,[.v 0 (.az 63), .v 1 (.az 49)],[],aqY,0,[.v 4 (.int .i64)],[],[.tmp 4],aqW⟩
def Rr (N:Nat):Ke.F:=fun r x=>D2 N x.1 x.2.1
theorem aoj (N:Nat):b3 bd Ke (Rr N):=aA.fn (aA.nil:aA (Th N).aK (bn Tryz.f26)) Tryz.func26
def Ti (N:Nat):cA bd:=(Th N).db Ke (Rr N) (aoj N)
def J8:b4 D:=⟨55,2,[.v 0 (.agg 49), .v 1 (.fH 3)],[],aqY,0,[.v 3 .bool],[],[.tmp 3],aqW⟩
def Rl (N:Nat):J8.F:=fun r x=>QW N x.1 x.2.1
theorem aod (N:Nat):b3 bd J8 (Rl N):=aA.fn (aA.nil:aA (Ti N).aK (bn Tryz.f55)) Tryz.func55
def Tj (N:Nat):cA bd:=(Ti N).db J8 (Rl N) (aod N)
def ai2 (N:Nat):aA (Tj N).aK (bn Tryz.f54):=aA.dg aA.nil N ⟨[1,0,1,0],[.v 0 (.az 49), .v 1 (.fn 55 [3]), .v 7 (.int .i64), .v 8 (.int .i64)],[],[],[⟨.exit 0,[],[]⟩,⟨.ret,[.v 4 (.int .i64)],[]⟩],[]⟩ fun n x=>sv N x.1 x.2.1.1 x.2.2.1 n x.2.2.2.1
def JY:b4 D:=⟨54,2,[.v 0 (.az 49), .v 1 (.fn 55 [3])],[],aqY,0,[.v 4 (.int .i64)],[],[.tmp 4],aqW⟩
def Ra (N:Nat):JY.F:=fun r x=>QT N x.1 x.2.1.1
theorem an4 (N:Nat):b3 bd JY (Ra N):=aA.fn (ai2 N) Tryz.func54
def Tk (N:Nat):cA bd:=(Tj N).db JY (Ra N) (an4 N)
def Ki:b4 D:=⟨27,2,[.v 0 (.az 49), .v 1 (.int .i64)],[],aqY,0,[.v 4 (.int .i64)],[],[.tmp 4],aqW⟩
def Rv (N:Nat):Ki.F:=fun r x=>D3 N x.1 x.2.1
theorem aon (N:Nat):b3 bd Ki (Rv N):=aA.fn (aA.nil:aA (Tk N).aK (bn Tryz.f27)) Tryz.func27
def Tl (N:Nat):cA bd:=(Tk N).db Ki (Rv N) (aon N)
def ED (N:Nat):oG bd:=(Tl N).aK.oP fun x bG ae=>match x,bG,ae with| .tmp 42,aqV (.const _),aqY=>2|_,_,_=>0
def akf (N:Nat):aA (ED N) (bn Tryz.f57):=aA.dg aA.nil N ⟨[1,1,1,0,1,0],[.v 1 (.int .i64), .o 5 (.map 92 96 3), .o 6 (.az 96), .o 20 (.az 3), .v 21 (.int .i64), .v 22 (.int .i64)],[(5, .c (.own 0)),(6, .c (.own 1)),(20, .c (.own 2))],[2,0,1],[⟨.exit 0,[.u 0 (.map 92 96 3), .o 6 (.az 96)],[(6, .c (.own 3))]⟩],[0,5]⟩ fun n x=>w3 N x.1 x.2.2.2.1 x.2.2.2.2.1 n x.2.1 x.2.2.1 x.2.2.2.2.2.1
def aki (N:Nat):aA (ED N) (bn Tryz.f57):=aA.aO (akf N) ⟨[1,1,1,1,0,0,0,1,0,1,1,1,1,0,0,1,1,0],[.o 5 (.map 92 96 3), .o 6 (.az 96), .o 10 (.box 96), .v 11 (.int .i64), .v 54 (.az 3), .v 56 (.int .i64)],[(5, .c (.own 0)),(6, .c (.own 1)),(10, .box 2 0)],[2,0,1],[⟨.normal,[.u 0 (.map 92 96 3), .o 6 (.az 96)],[(6, .c (.own 3))]⟩],[0,5,10,11,54,55,56]⟩ fun x=>PG N x.1 x.2.1 x.2.2.1 x.2.2.2.1 x.2.2.2.2.1 x.2.2.2.2.2.1
def akh (N:Nat):aA (ED N) (bn Tryz.f57):=aA.dg (aki N) N ⟨[1,1,1,1,0,0,0,1,0,1,1,1,1,0],[.o 5 (.map 92 96 3), .o 6 (.az 96), .o 10 (.box 96), .v 11 (.int .i64), .v 54 (.az 3), .v 55 (.int .i64), .v 56 (.int .i64)],[(5, .c (.own 0)),(6, .c (.own 1)),(10, .box 2 0)],[2,0,1],[⟨.exit 4,[.u 0 (.map 92 96 3), .o 6 (.az 96)],[(6, .c (.own 3))]⟩],[0,5]⟩ fun n x=>sL N x.2.2.1 x.2.2.2.1 x.2.2.2.2.1 x.2.2.2.2.2.1 n x.1 x.2.1 x.2.2.2.2.2.2.1
def akg (N:Nat):aA (ED N) (bn Tryz.f57):=aA.dg (akh N) N ⟨[1,1,1,1,0,0],[.v 0 (.az 63), .o 5 (.map 92 96 3), .o 6 (.az 96)],[(5, .c (.own 0)),(6, .c (.own 1))],[2,0],[⟨.exit 2,[.u 0 (.map 92 96 3)],[]⟩],[5]⟩ fun n x=>Dx N x.1 n x.2.1 x.2.2.1
def Kg:b4 D:=⟨57,2,[.v 0 (.az 63), .v 1 (.int .i64)],[],aqY,0,[.o 4 (.map 92 96 3)],[(4, .c (.own 0))],[.tmp 4],aqZ⟩
def Rt (N:Nat):Kg.F:=fun r x=>IX N x.1 x.2.1
theorem aol (N:Nat):b3 bd Kg (Rt N):=aA.fn (akg N) Tryz.func57
def Tm (N:Nat):cA bd:=(Tl N).db Kg (Rt N) (aol N)
def alq (N:Nat):aA (Tm N).aK (bn Tryz.f87):=aA.dg aA.nil N ⟨[1,1,0,1,0],[.v 3 (.int .i64), .v 6 (.az 3), .v 7 (.int .i64), .v 8 (.int .i64)],[],[],[⟨.exit 0,[],[]⟩,⟨.ret,[.v 2 (.int .i64)],[]⟩],[3]⟩ fun n x=>xc N x.1 x.2.1 x.2.2.1 n x.2.2.2.1
def KL:b4 D:=⟨87,1,[.v 0 (.az 3)],[],aqY,0,[.v 2 (.int .i64)],[],[.tmp 2],aqW⟩
def RX (N:Nat):KL.F:=fun r x=>I5 N x.1
theorem aoR (N:Nat):b3 bd KL (RX N):=aA.fn (alq N) Tryz.func87
def Ex (N:Nat):cA bd:=(Tm N).db KL (RX N) (aoR N)
def akQ (N:Nat):aA (Ex N).aK (bn Tryz.f59):=aA.aO aA.nil ⟨[1,1,0,1,0,0,1,1,0,0,1,1,1,1,0],[.v 1 (.mp 92 96 3), .o 9 (.box 96), .v 11 (.int .i64), .o 12 (.box 96), .v 13 .bool, .v 15 (.int .i64), .o 16 (.box 96), .v 17 (.int .i64)],[(9, .box 0 0),(12, .box 1 0),(16, .box 2 0)],[1,1,1],[⟨.normal,[.v 59 .bool],[]⟩],[0,1,2,9,11,12,13,15,16,20,21,22]⟩ fun x=>Qh N x.1 x.2.2.1 x.2.2.2.1 x.2.2.2.2.1 x.2.2.2.2.2.1 x.2.2.2.2.2.2.1 x.2.2.2.2.2.2.2.1
def akP (N:Nat):aA (Ex N).aK (bn Tryz.f59):=aA.aO (akQ N) ⟨[1,1,0,1,0,0,1,1,0],[.v 0 (.az 63), .v 1 (.mp 92 96 3), .v 2 (.int .i64), .o 9 (.box 96), .v 11 (.int .i64), .o 12 (.box 96), .v 13 .bool, .v 20 (.az 3), .v 22 (.int .i64)],[(9, .box 0 0),(12, .box 1 0)],[1,2],[⟨.normal,[.v 11 (.int .i64), .u 1 (.box 96), .v 13 .bool],[]⟩],[0,1,2,9,12,20,21,22]⟩ fun x=>It N x.1 x.2.1 x.2.2.1 x.2.2.2.2.1 x.2.2.2.2.2.1 x.2.2.2.2.2.2.1 x.2.2.2.2.2.2.2.1 x.2.2.2.2.2.2.2.2.1
def akO (N:Nat):aA (Ex N).aK (bn Tryz.f59):=aA.dg (akP N) N ⟨[1,1,0,1,0],[.v 0 (.az 63), .v 1 (.mp 92 96 3), .v 2 (.int .i64), .o 9 (.box 96), .v 11 (.int .i64), .o 12 (.box 96), .v 13 .bool, .v 20 (.az 3), .v 21 (.int .i64), .v 22 (.int .i64)],[(9, .box 0 0),(12, .box 1 0)],[1,2],[⟨.exit 0,[.v 11 (.int .i64), .u 1 (.box 96), .v 13 .bool],[]⟩],[9,12]⟩ fun n x=>xf N x.1 x.2.1 x.2.2.1 x.2.2.2.2.2.2.2.1 x.2.2.2.2.2.2.2.2.1 n x.2.2.2.2.1 x.2.2.2.2.2.1 x.2.2.2.2.2.2.1 x.2.2.2.2.2.2.2.2.2.1
def KV:b4 D:=⟨59,4,[.v 0 (.az 63), .v 1 (.mp 92 96 3), .v 2 (.int .i64), .v 3 (.az 3)],[],aqY,0,[.v 8 (.int .i64), .v 1000001 (.agg 96), .v 10 .bool],[],[.tmp 8, .cell 9 96, .tmp 10],aqW⟩
def R7 (N:Nat):KV.F:=fun r x=>I8 N x.1 x.2.1 x.2.2.1 x.2.2.2.1
theorem ao1 (N:Nat):b3 bd KV (R7 N):=aA.fn (akO N) Tryz.func59
def Jy (N:Nat):cA bd:=(Ex N).db KV (R7 N) (ao1 N)
def akM (N:Nat):aA (Jy N).aK (bn Tryz.f28):=aA.aO aA.nil ⟨[1,1,0,0],[.v 0 (.az 63), .v 1 (.int .i64), .v 2 (.int .i64)],[],[],[⟨.normal,[.v 35 .bool],[]⟩],[0,1,2]⟩ fun x=>Is N x.1 x.2.1 x.2.2.1
def akN (N:Nat):aA (Jy N).aK (bn Tryz.f28):=aA.dg (akM N) N ⟨[1,1,1,1,1,1,0,0],[.v 0 (.az 63), .o 9 (.map 92 96 3), .o 10 (.az 37), .v 11 (.az 3)],[(9, .c (.own 0)),(10, .c (.own 1))],[1,0],[⟨.exit 0,[.o 10 (.az 37)],[(10, .c (.own 2))]⟩,⟨.ret,[.v 7 (.int .i64)],[(6, .c .fz)]⟩],[]⟩ fun n x=>zW N x.1 x.2.1 n x.2.2.1 x.2.2.2.1
def KU:b4 D:=⟨28,3,[.v 0 (.az 63), .v 1 (.int .i64), .v 2 (.int .i64)],[],aqY,0,[.o 6 (.az 37), .v 7 (.int .i64)],[(6, .c (.own 0))],[.tmp 6, .tmp 7],aqZ⟩
def R6 (N:Nat):KU.F:=fun r x=>mR N x.1 x.2.1 x.2.2.1
theorem ao0 (N:Nat):b3 bd KU (R6 N):=aA.fn (akN N) Tryz.func28
def Tn (N:Nat):cA bd:=(Jy N).db KU (R6 N) (ao0 N)
def J1:b4 D:=⟨65,1,[.v 0 (.az 37)],[],aqY,0,[.o 2 (.az 37)],[(2, .c (.own 0))],[.tmp 2],aqZ⟩
def Re (N:Nat):J1.F:=fun r x=>IV N x.1
theorem an7 (N:Nat):b3 bd J1 (Re N):=aA.fn (aA.nil:aA (Tn N).aK (bn Tryz.f65)) Tryz.func65
def To (N:Nat):cA bd:=(Tn N).db J1 (Re N) (an7 N)
def JZ:b4 D:=⟨66,1,[.v 0 (.az 51)],[],aqY,0,[.o 2 (.az 51)],[(2, .c (.own 0))],[.tmp 2],aqZ⟩
def Rb (N:Nat):JZ.F:=fun r x=>IT N x.1
theorem an5 (N:Nat):b3 bd JZ (Rb N):=aA.fn (aA.nil:aA (To N).aK (bn Tryz.f66)) Tryz.func66
def Tp (N:Nat):cA bd:=(To N).db JZ (Rb N) (an5 N)
def Ka:b4 D:=⟨31,1,[.v 0 (.agg 49)],[],aqY,0,[.v 1000000 (.agg 49)],[],[.cell 2 49],aqZ⟩
def Rn (N:Nat):Ka.F:=fun r x=>D0 N x.1
theorem aof (N:Nat):b3 bd Ka (Rn N):=aA.fn (aA.nil:aA (Tp N).aK (bn Tryz.f31)) Tryz.func31
def Tq (N:Nat):cA bd:=(Tp N).db Ka (Rn N) (aof N)
def akr (N:Nat):aA (Tq N).aK (bn Tryz.f10):=aA.dg aA.nil N ⟨[1,1,1,1,1,1,1,0,1,0],[.o 13 (.box 49), .o 14 (.az 49), .v 60 (.az 49), .v 61 (.int .i64), .v 62 (.int .i64)],[(13, .box 0 0),(14, .c (.own 1))],[1,0],[⟨.exit 1,[.o 14 (.az 49)],[(14, .c (.own 2))]⟩,⟨.ret,[.v 11 (.int .i64)],[(10, .c .fz)]⟩],[13]⟩ fun n x=>w5 N x.1 x.2.2.1 x.2.2.2.1 n x.2.1 x.2.2.2.2.1
def Ko:b4 D:=⟨10,5,[.v 0 (.az 63), .v 1 (.az 49), .v 2 (.int .i64), .v 3 (.int .i64), .v 4 (.int .i64)],[],aqY,0,[.o 10 (.az 49), .v 11 (.int .i64)],[(10, .c (.own 0))],[.tmp 10, .tmp 11],aqZ⟩
def RB (N:Nat):Ko.F:=fun r x=>tj N x.1 x.2.1 x.2.2.1 x.2.2.2.1 x.2.2.2.2.1
theorem aot (N:Nat):b3 bd Ko (RB N):=aA.fn (akr N) Tryz.func10
def JA (N:Nat):cA bd:=(Tq N).db Ko (RB N) (aot N)
def aiM (N:Nat):aA (JA N).aK (bn Tryz.f11):=aA.aO aA.nil ⟨[1,1,1,1,1,0,1,0,0,1,1,0],[.v 9 (.int .i64), .o 10 (.az 49), .v 24 (.az 49), .v 26 (.int .i64)],[(10, .c (.own 0))],[0],[⟨.normal,[.o 10 (.az 49)],[(10, .c (.own 1))]⟩],[9,24,25,26]⟩ fun x=>PW N x.1 x.2.1 x.2.2.1 x.2.2.2.1
def aje (N:Nat):aA (JA N).aK (bn Tryz.f11):=aA.dg (aiM N) N ⟨[1,1,1,1,1,0,1,0],[.v 9 (.int .i64), .o 10 (.az 49), .v 24 (.az 49), .v 25 (.int .i64), .v 26 (.int .i64)],[(10, .c (.own 0))],[0],[⟨.exit 0,[.o 10 (.az 49)],[(10, .c (.own 1))]⟩],[]⟩ fun n x=>w1 N x.1 x.2.2.1 x.2.2.2.1 n x.2.1 x.2.2.2.2.1
def J7:b4 D:=⟨11,3,[.v 0 (.az 63), .v 1 (.az 49), .v 2 (.int .i64)],[],aqY,0,[.o 6 (.az 49), .v 7 (.int .i64)],[(6, .c (.own 0))],[.tmp 6, .tmp 7],aqZ⟩
def Rk (N:Nat):J7.F:=fun r x=>Av N x.1 x.2.1 x.2.2.1
theorem aoc (N:Nat):b3 bd J7 (Rk N):=aA.fn (aje N) Tryz.func11
def Tr (N:Nat):cA bd:=(JA N).db J7 (Rk N) (aoc N)
def alX (N:Nat):aA (Tr N).aK (bn Tryz.f13):=aA.aO aA.nil ⟨[1,1,1,1,1,0],[.v 1 (.az 49), .v 2 (.int .i64), .v 4 (.int .i64), .v 6 (.int .i64), .o 7 (.az 49), .v 8 (.int .i64)],[(7, .c (.own 0))],[1],[⟨.normal,[.v 0 .bool],[]⟩],[]⟩ fun x=>HY N x.1 x.2.1 x.2.2.1 x.2.2.2.1 x.2.2.2.2.1 x.2.2.2.2.2.1
def K6:b4 D:=⟨13,0,[],[],aqY,0,[.v 0 .bool],[],[.tmp 0],aqW⟩
def Si (N:Nat):K6.F:=fun r x=>xU N
theorem apb (N:Nat):b3 bd K6 (Si N):=aA.fn (alX N) Tryz.func13
def JB (N:Nat):cA bd:=(Tr N).db K6 (Si N) (apb N)
def ai5 (N:Nat):aA (JB N).aK (bn Tryz.f5):=aA.aO aA.nil ⟨[1,1,1,1,1,0,1,0,0,1,0,0,1,0],[.o 9 (.az 3), .v 10 (.int .i64)],[(9, .c (.own 0))],[1],[⟨.normal,[.v 46 .bool],[]⟩],[4,6,7,8]⟩ fun x=>PU N x.1 x.2.1
def ai4 (N:Nat):aA (JB N).aK (bn Tryz.f5):=aA.dg (ai5 N) N ⟨[1,1,1,1,1,0,1,0],[.v 4 (.az 63), .v 6 (.az 49), .v 7 (.az 51), .v 8 (.int .i64)],[],[],[⟨.exit 0,[],[]⟩,⟨.ret,[.v 2 .bool],[]⟩],[]⟩ fun n x=>sx N x.1 x.2.1 x.2.2.1 n x.2.2.2.1
def EP:b4 D:=⟨5,1,[.v 0 (.az 3)],[],aqY,0,[.v 2 .bool],[],[.tmp 2],aqW⟩
def Ej (N:Nat):EP.F:=fun r x=>IW N x.1
theorem ZO (N:Nat):b3 bd EP (Ej N):=aA.fn (ai4 N) Tryz.func5
def apP (N:Nat):cA bd:=(JB N).db EP (Ej N) (ZO N)
end
end Go.W
end
section
namespace Go.W
open Go.aS
theorem ha {n:Int} (h: -9223372036854775808<=n) (cq:n<=9223372036854775807):aq6 .i64 n=n:=by rw[aq2.wrap_i64];omega
theorem ZK {n:Int} (h:0<=n) (cq:n<=255):aq6 .u8 n=n:=by rw[aq2.wrap_u8];omega
theorem bP {au bz:Type} (x:au) (f:au->Option bz):aS.lt x f=f x:=rfl
theorem al {au bz:Type} (x:au) (f:au->Option bz):aq0 (aqV x) f=f x:=rfl
theorem OB {au:Type} {xs:List au} {i:Int} (aI:0<=i) (h1:i<xs.length):∃x,aR xs i=aqV x/\x∈xs/\xs[i.toNat]? =aqV x:=by
 have aN:i.toNat<xs.length:=by omega
 exact ⟨xs[i.toNat],by simp[aR,aI,aN],by simp,by simp[aN]⟩
def ho (c:Int) (s:en):Prop:=0<=s.n/\s.n<=c
theorem l4 (N:Nat) {c:Int} {s:en} (k:Int) (hk:1<=k) (rQ:k<=1000000) (ay:ho c s) (ab:c<=1000000000000):∃r b1,kJ N s k=aqV (r,b1)/\0<=r/\r<k/\ho (c+1) b1:=by
 obtain ⟨aI,h1⟩:=ay;have aa0:∃y,Io N s 0 (decide (0<(s.l.length:Int)))=aqV y:=by
  unfold Io;by_cases ah:0<(s.l.length:Int)
  ·rw[if_pos (by simpa using ah)];have b8:(s.l.length:Int)≠0:=by omega
   have hm:r7 s.n s.l.length=aqV (s.n.tmod s.l.length):=by unfold r7;rw[if_neg b8]
   have aB:yj s.n s.l.length=aqV (s.n.tdiv s.l.length):=by unfold yj;rw[if_neg b8]
   have acV:0<=s.n.tmod s.l.length:=Int.tmod_nonneg _ aI;have yP:s.n.tmod s.l.length<s.l.length:=Int.tmod_lt_of_pos _ ah;obtain ⟨x,U,_,_⟩:=OB acV yP;rw[hm,al,U,al,aB,al,bP];exact ⟨_,rfl⟩
  ·rw[if_neg (by simpa using ah)];exact ⟨_,rfl⟩
 obtain ⟨y,ag⟩:=aa0;unfold kJ;rw[ag,al];have hm:r7 y k=aqV (y.tmod k):=by simp[r7];omega
 have aN:y.tmod k<k:=Int.tmod_lt_of_pos _ (by omega);have BG: -k<y.tmod k:=by have:=Int.lt_tmod_of_pos y (by omega:0<k);omega
 have ar:aq6 .i64 (s.n+1)=s.n+1:=ha (by omega) (by omega);simp only[hm,al,ar];unfold Qc;by_cases Uz:y.tmod k<0
 ·rw[if_pos (by simpa using Uz),bP,al,ha (by omega) (by omega)];exact ⟨_,_,rfl,by omega,by omega,by constructor<;>simp<;>omega⟩
 ·rw[if_neg (by simpa using Uz),al];exact ⟨_,_,rfl,by omega,by omega,by constructor<;>simp<;>omega⟩
theorem aib (N:Nat) {c:Int} {s:en} (l:List Int) (ah:1<=l.length) (gl:l.length<=1000) (ay:ho c s) (ab:c<=1000000000000):∃x b1,I4 N s l=aqV (x,b1)/\x∈l/\ho (c+1) b1:=by
 obtain ⟨r,b1,h1,J,aj,aM⟩:=l4 N (s:=s) (c:=c) (l.length:Int) (by omega) (by omega) ay ab;obtain ⟨x,U,hm,_⟩:=OB J aj;unfold I4;rw[h1,al];simp only[U,al];exact ⟨x,b1,rfl,hm,aM⟩
end Go.W
end
section
namespace Go.W
open Go.aS
theorem cJ {au:Type} {xs:List au} {i:Nat} {x:au} (h:xs[i]? =aqV x):aR xs (i:Int)=aqV x:=by simp[aR,h]
theorem cM {au:Type} {xs:List au} {i:Nat} (h:i<xs.length):xs[i]? =aqV xs[i]:=by simp[h]
theorem jA {au:Type} {xs:List au} {i:Nat} {x:au} (h:xs[i]? =aqV x):xs.drop i=x::xs.drop (i+1):=by
 obtain ⟨aN,rfl⟩:=aq5.1 h;exact List.drop_eq_getElem_cons aN
theorem dm {i:Nat} (h:i<9223372036854775807):aq6 .i64 ((i:Int)+1)=((i+1:Nat):Int):=by rw[ha (by omega) (by omega)];omega
theorem ZJ {i:Nat} (h:i<9223372036854775807):aq6 .i64 (((i+1:Nat):Int) - 1)=(i:Int):=by rw[ha (by omega) (by omega)];omega
theorem cH {a b:Int} (h:a<b):decide (a<b)=aqW:=decide_eq_true h
theorem cF {a b:Int} (h:¬a<b):¬decide (a<b)=aqW:=by simpa using h
theorem nq {a b:Int} (h:a<=b):decide (a<=b)=aqW:=decide_eq_true h
theorem oh {a b:Int} (h:¬a<=b):¬decide (a<=b)=aqW:=by simpa using h
theorem gY {au:Type} {xs bi:List au} (h:xs.length+bi.length<=4294967296):dP xs bi=aqV (xs++bi):=if_pos h
theorem wH {au:Type} {xs:List au} {i:Nat} (h:i<=xs.length):fX xs (i:Int) (xs.length:Int)=aqV (xs.drop i):=by
 unfold fX;rw[if_pos (by omega)];simp
theorem zd {au:Type} {xs:List au} {i:Nat} (h:i<=xs.length):fX xs 0 (i:Int)=aqV (xs.take i):=by
 unfold fX;rw[if_pos (by omega)];simp
theorem ho.le {c bQ:Int} {s:en} (h:ho c s) (ab:c<=bQ):ho bQ s:=⟨h.1,Int.le_trans h.2 ab⟩
theorem ad5 (t:List Int):ho 0 (en.mk t 0):=⟨by simp,by simp⟩
def ch {au bz:Type} (p:Nat->au->Bool) (out:Nat->au->bz):Nat->List au->Sum Unit bz
 |_,[]=> .inl ()
 |i,x::xs=>if p i x=aqW then .inr (out i x) else ch p out (i+1) xs
theorem j2 {au bz:Type} {l:List au} (p:Nat->au->Bool) (out:Nat->au->bz) (F:Nat->Int->Option (Sum Unit bz)) (aI:∀n,F (n+1) (l.length:Int)=aqV (.inl ()))
  (h1:∀(n i:Nat) (x:au),l[i]? =aqV x->F (n+1) (i:Int)=if p i x=aqW then aqV (.inr (out i x)) else F n ((i+1:Nat):Int)):∀(k n i:Nat),k<n->i+k=l.length->F n (i:Int)=aqV (ch p out i (l.drop i))
 |k,0,i,ar,_=>by omega
 |0,n+1,i,ar,ae=>by
  obtain rfl:i=l.length:=by omega
  rw[aI,asi,ch]
 |k+1,n+1,i,ar,ae=>by
  have aN:i<l.length:=by omega
  rw[h1 n i _ (cM aN),jA (cM aN),ch];split
  ·rfl
  ·exact j2 p out F aI h1 k n (i+1) (by omega) (by omega)
def qe {au:Type} (p:Nat->au->Bool):Nat->List au->Int
 |_,[]=> -1
 |i,x::xs=>if p i x=aqW then (i:Int) else qe p (i+1) xs
theorem zg {au:Type} (p:Nat->au->Bool):∀(l:List au) (i:Nat),ch p (fun i _=>(i:Int)) i l= .inl ()/\qe p i l= -1\/ch p (fun i _=>(i:Int)) i l= .inr (qe p i l)/\0<=qe p i l
 |[],i=> .inl ⟨rfl,rfl⟩
 |x::xs,i=>by
  rw[ch,qe];by_cases h:p i x=aqW
  ·rw[if_pos h,if_pos h];exact .inr ⟨rfl,by omega⟩
  ·rw[if_neg h,if_neg h];exact zg p xs (i+1)
theorem F9 {au:Type} (p:Nat->au->Bool):∀(l:List au) (i:Nat),(qe p i l= -1/\∀(j:Nat) (x:au),l[j]? =aqV x->p (i+j) x=aqZ)\/
  ∃(j:Nat) (x:au),qe p i l=((i+j:Nat):Int)/\l[j]? =aqV x/\p (i+j) x=aqW/\∀(bX:Nat) (y:au),bX<j->l[bX]? =aqV y->p (i+bX) y=aqZ
 |[],i=> .inl ⟨rfl,fun j x h=>by simp at h⟩
 |x::xs,i=>by
  rw[qe];by_cases h:p i x=aqW
  ·rw[if_pos h];exact .inr ⟨0,x,by simp,by simp,by simpa using h,fun bX y av=>by omega⟩
  ·rw[if_neg h];have cq:p i x=aqZ:=by simpa using h
   rcases F9 p xs (i+1) with ⟨h1,J⟩|⟨j,y,h1,J,aj,aM⟩
   ·refine .inl ⟨h1,fun j y av=> ?_⟩;cases j with
    |zero=>simp at av;subst av;exact cq
    |succ j=>have:=J j y (by simpa using av);rwa [show i+1+j=i+(j+1) by omega] at this
   ·refine .inr ⟨j+1,y,by rw[h1];omega,by simpa using J,by rwa [show i+1+j=i+(j+1) by omega] at aj,fun bX z av aF=> ?_⟩;cases bX with
    |zero=>simp at aF;subst aF;exact cq
    |succ bX=>have:=aM bX z (by omega) (by simpa using aF);rwa [show i+1+bX=i+(bX+1) by omega] at this
theorem ix {au bz:Type} [DecidableEq au] (m:List (au×bz)) (a k:au) (b:bz):bw (dA m a b) k=if a=k then aqV b else bw m k:=by
 induction m with
 |nil=>simp[dA,bw]
 |cons p m a8=>
  simp only[dA];by_cases h:p.1=a
  ·rw[if_pos h];simp only[bw];by_cases J:a=k
   ·simp[h,J]
   ·simp[h,J]
  ·rw[if_neg h];simp only[bw,a8];by_cases J:p.1=k
   ·have:¬a=k:=fun aj=>h (J.trans aj.symm);simp[J,this]
   ·simp[J]
end Go.W
end
section
namespace Go.W
open Go.aS
theorem O0 {au:Type} (p:au->Bool):∀(l:List au) (i:Nat),ch (fun _ y=>p y) (fun _ _=>aqW) i l=if l.any p=aqW then .inr aqW else .inl ()
 |[],i=>rfl
 |y::l,i=>by
  rw[ch,asR];by_cases h:p y=aqW
  ·simp[h]
  ·simp only[arW] at h;rw[h,if_neg (by simp),O0 p l (i+1),arZ]
theorem Hi {l:List Int} {x:Int}:(l.any fun y=>y==x)=l.contains x:=by
 induction l with
 |nil=>rfl
 |cons y l a8=>
  rw[asR,List.contains_cons,a8];congr 1;by_cases h:y=x
  ·rw[h]
  ·have cq:¬x=y:=fun ax=>h ax.symm;have aX:(y==x)=aqZ:=by simpa using h
   have e2:(x==y)=aqZ:=by simpa using cq
   rw[aX,e2]
def bT (x:aC):List Int:=if x.kind=1\/x.kind=3 then [x.a,x.b] else if x.kind=2 then [x.a,x.b,x.c] else []
def cU (l:List aC) (i:Int):List Int:=if 0<=i then (match l[i.toNat]? with|some x=>bT x|none=>[]) else []
theorem uo (x:aC):(bT x).length<=3:=by unfold bT;split<;>(try split)<;>simp
theorem lE (l:List aC) (i:Int):(cU l i).length<=3:=by
 unfold cU;split
 ·split
  ·exact uo _
  ·simp
 ·simp
theorem sm {l:List aC} {i:Nat} {x:aC} (h:l[i]? =aqV x):cU l (i:Int)=bT x:=by
 unfold cU;rw[if_pos (by omega)];simp[h]
theorem jC {l:List aC} {i n:Int} (h:n∈cU l i):0<=i/\i<l.length/\∃x,l[i.toNat]? =aqV x/\n∈bT x:=by
 unfold cU at h;split at h
 ·rename_i aI;split at h
  ·rename_i x U;have:=(aq5.1 U).1;exact ⟨aI,by omega,x,U,h⟩
  ·simp at h
 ·simp at h
theorem Gy (N:Nat) (x:aC):xQ N x=aqV (bT x):=by
 unfold xQ bT Qf;simp only[bP];by_cases h1:x.kind=1
 ·simp[h1,al]
 ·by_cases aj:x.kind=3
  ·simp[aj,al]
  ·by_cases J:x.kind=2
   ·simp[J,al]
   ·simp[h1,J,aj,al]
theorem GQ (N:Nat) (l:List aC) (i:Int):va N l i=aqV (cU l i):=by
 unfold va Qe cU;by_cases aI:i<0
 ·rw[if_pos (cH aI),al,if_pos rfl,if_neg (by omega)]
 ·rw[if_neg (cF aI),al,if_pos (by omega:0<=i)];by_cases h1:(l.length:Int)<=i
  ·rw[if_pos (nq h1),atb (by omega)]
  ·rw[if_neg (oh h1)];have aN:i.toNat<l.length:=by omega
   have aH:aR l i=aqV l[i.toNat]:=by simp[aR,aN];omega
   rw[aH,al,Gy,al,cM aN]
theorem sk (N:Nat) (l:List aC) (i:Int):pA N l i=aqV (cU l i):=by
 unfold pA Qo cU;by_cases aI:i<0
 ·rw[if_pos (cH aI),al,if_pos rfl,if_neg (by omega)]
 ·rw[if_neg (cF aI),al,if_pos (by omega:0<=i)];by_cases h1:(l.length:Int)<=i
  ·rw[if_pos (nq h1),atb (by omega)]
  ·rw[if_neg (oh h1)];have aN:i.toNat<l.length:=by omega
   have aH:aR l i=aqV l[i.toNat]:=by simp[aR,aN];omega
   rw[aH,al,cM aN];generalize l[i.toNat]=x at*;simp only[aH,al,bP];unfold bT Qp;by_cases h1:x.kind=1
   ·simp[h1,al]
   ·by_cases aj:x.kind=3
    ·simp[aj,al,bP]
    ·by_cases J:x.kind=2
     ·simp[J,al,bP]
     ·simp[h1,J,aj,al,bP]
theorem XY {l:List Int} {x:Int} (F:Nat->Int->Option (Sum Unit Bool)) (aI:∀n,F (n+1) (l.length:Int)=aqV (.inl ())) (h1:∀(n i:Nat) (y:Int),l[i]? =aqV y->F (n+1) (i:Int)=if (y==x)=aqW then aqV (.inr aqW) else F n ((i+1:Nat):Int))
  {n:Nat} (ar:l.length<n):F n 0=aqV (if l.contains x=aqW then .inr aqW else .inl ()):=by
 have h:=j2 (l:=l) (fun _ y=>y==x) (fun _ _=>aqW) F aI h1 l.length n 0 ar (by omega);simp only[ast,arB] at h;rw[h,O0 (fun y=>y==x),Hi]
theorem O1 (N:Nat) {l:List Int} (bj:l.length<N) (ah:l.length<=1000000) (x:Int):AE N l x=aqV (l.contains x):=by
 have h:=XY (l:=l) (x:=x) (fun n i=>uS N l x n i) (fun n=>by
  show uS N l x (n+1) _=_;rw[uS,if_neg (cF (by omega))]) (fun n i y ag=>by
  show uS N l x (n+1) _=_;have aN:=(aq5.1 ag).1;rw[uS,if_pos (cH (by omega)),cJ ag,al,bP,dm (by omega)]) bj
 unfold AE;rw[h,al];cases l.contains x<;>rfl
def qZ (i n:Int) (k:Nat) (x:aC):Bool:=((k:Int) !=i)&&(bT x).contains n
def bu (l:List aC) (i n:Int):Int:=qe (qZ i n) 0 l
theorem amJ (N:Nat) (bj:4<=N) (x:aC) (n k:Int):sK N n k (bT x) (bT x).length N 0=aqV (if (bT x).contains n=aqW then .inr k else .inl ()):=by
 have h:=j2 (l:=bT x) (fun _ y=>y==n) (fun _ _=>k) (fun m i=>sK N n k (bT x) (bT x).length m i) (fun m=>by
  show sK N n k (bT x) (bT x).length (m+1) _=_;rw[sK,if_neg (cF (by omega))]) (fun m i y ag=>by
  show sK N n k (bT x) (bT x).length (m+1) _=_;have aN:=(aq5.1 ag).1;have:=uo x;rw[sK,if_pos (cH (by omega)),cJ ag];simp only[al,dm (show i<9223372036854775807 by omega)]) (bT x).length N 0 (by have:=uo x;omega) (by omega)
 simp only[ast,arB] at h;rw[h];congr 1;rw[<-Hi];generalize bT x=e;have key:∀(e:List Int) (i:Nat),ch (fun _ y=>y==n) (fun _ _=>k) i e=if (e.any fun y=>y==n)=aqW then .inr k else .inl ():=by
  intro e;induction e with
  |nil=>intro i;rfl
  |cons y e a8=>
   intro i;rw[ch,asR];by_cases h:(y==n)=aqW
   ·simp[h]
   ·simp only[arW] at h;rw[h,if_neg (by simp),a8,arZ]
 exact key e 0
theorem XQ {F:Option (Sum Unit Int)} {l:List aC} {i n:Int} (h:F=aqV (ch (qZ i n) (fun k _=>(k:Int)) 0 l)):(aq0 F fun y=>match y with| .inl _=>aqV (-1)| .inr y=>aqV y)=aqV (bu l i n):=by
 rw[h,al];unfold bu;rcases zg (qZ i n) l 0 with ⟨h1,J⟩|⟨h1,J⟩
 ·rw[h1,J]
 ·rw[h1]
theorem GY (N:Nat) {l:List aC} (bj:l.length+4<=N) (ah:l.length<=1000000) (i n:Int):xM N l i n=aqV (bu l i n):=by
 unfold xM;refine XQ ?_;have h:=j2 (l:=l) (qZ i n) (fun k _=>(k:Int)) (fun m j=>uW N i n l l.length m j) (fun m=>by
  show uW N i n l l.length (m+1) _=_;rw[uW,if_neg (cF (by omega))]) (fun m j x U=>by
  show uW N i n l l.length (m+1) _=_;have aN:=(aq5.1 U).1;rw[uW,if_pos (cH (by omega))];unfold PX qZ;rw[cJ U,al];by_cases iJ:(j:Int)=i
  ·rw[if_pos (by simpa using iJ)];simp only[al,iJ,bne_self_eq_false,Bool.false_and,arE,if_false];rw[<-iJ,dm (by omega)]
  ·rw[if_neg (by simpa using iJ),Gy,al,amJ N (by omega),al];have aa:((j:Int) !=i)=aqW:=by simpa using iJ
   rw[aa,asQ];by_cases ab:(bT x).contains n=aqW
   ·rw[if_pos ab,if_pos ab];rfl
   ·rw[if_neg ab,if_neg ab];simp only[al];rw[dm (by omega)]) l.length N 0 (by omega) (by omega)
 simpa using h
theorem uu (N:Nat) {l:List aC} (bj:l.length+4<=N) (ah:l.length<=1000000) (i n:Int):rl N l i n=aqV (bu l i n):=by
 unfold rl;refine XQ ?_;have h:=j2 (l:=l) (qZ i n) (fun k _=>(k:Int)) (fun m j=>uX N l i n m j) (fun m=>by
  show uX N l i n (m+1) _=_;rw[uX,if_neg (cF (by omega))]) (fun m j x U=>by
  show uX N l i n (m+1) _=_;have aN:=(aq5.1 U).1;have hlen:=uo x;rw[uX,if_pos (cH (by omega))];unfold PO qZ;by_cases iJ:(j:Int)=i
  ·have aa:((j:Int) !=i)=aqZ:=by simpa using iJ
   rw[aa,Bool.false_and];simp only[arE,if_false,al,bP];rw[dm (by omega)]
  ·have aa:((j:Int) !=i)=aqW:=by simpa using iJ
   rw[aa,if_pos rfl,sk,al,sm U,O1 N (by omega) (by omega),al,al,asQ,bP,dm (by omega)]) l.length N 0 (by omega) (by omega)
 simpa using h
def hI (e:List Int) (n:Int):List Int:=if e.contains n=aqW then (if e.head? =aqV n then e.tail else e.take 1) else []
def e3 (l:List aC) (i n:Int):List Int:=hI (cU l i) n
theorem afw (N:Nat) (n:Int) {e:List Int} (he:e.length<=3):l7 N n e.length 4 e 0=aqV (if e.contains n=aqW then .inr (hI e n) else .inl ()):=by
 match e,he with
 |[],_=>rfl
 |[a],_=>
  by_cases h:a=n
  ·subst h;simp[l7,aR,al,bP,fX,hI,dm]
  ·have cq:¬n=a:=fun ax=>h ax.symm;simp[l7,aR,al,bP,fX,hI,h,cq,ha]
 |[a,b],_=>
  by_cases h:a=n
  ·subst h;simp[l7,aR,al,bP,fX,hI,dm]
  ·have cq:¬n=a:=fun ax=>h ax.symm;by_cases J:b=n
   ·subst J;simp[l7,aR,al,bP,fX,hI,h,cq,ha]
   ·have gk:¬n=b:=fun ax=>J ax.symm;simp[l7,aR,al,bP,fX,hI,h,cq,J,gk,ha]
 |[a,b,c],_=>
  by_cases h:a=n
  ·subst h;simp[l7,aR,al,bP,fX,hI,dm]
  ·have cq:¬n=a:=fun ax=>h ax.symm;by_cases J:b=n
   ·subst J;simp[l7,aR,al,bP,fX,hI,h,cq,ha]
   ·have gk:¬n=b:=fun ax=>J ax.symm;by_cases aj:c=n
    ·subst aj;simp[l7,aR,al,bP,fX,hI,h,cq,J,gk,ha]
    ·have rL:¬n=c:=fun ax=>aj ax.symm;simp[l7,aR,al,bP,fX,hI,h,cq,J,gk,aj,rL,ha]
 |a::b::c::d::e,h=>simp at h
theorem VR {N:Nat} {n m:Int}:∀{k dc:Nat} {e:List Int} {i:Int} {r:Sum Unit (List Int)},k<=dc->l7 N n m k e i=aqV r->l7 N n m dc e i=aqV r
 |0,_,_,_,_,_,h=>by cases h
 |k+1,0,_,_,_,hk,_=>by omega
 |k+1,dc+1,e,i,r,hk,h=>by
  rw[l7] at h⊢;split at h
  ·rename_i ab;rw[if_pos ab];cases h1:aR e i with
   |none=>rw[h1] at h;cases h
   |some a=>
    rw[h1] at h;simp only[al] at h⊢;split at h
    ·rename_i ar;rw[if_pos ar];exact VR (by omega) h
    ·rename_i ar;rw[if_neg ar];exact h
  ·rename_i ab;rw[if_neg ab];exact h
theorem OV (N:Nat) (bj:4<=N) (l:List aC) (i n:Int):Ax N l i n=aqV (e3 l i n):=by
 unfold Ax e3;rw[GQ,al,VR bj (afw N n (lE l i)),al];by_cases ab:(cU l i).contains n=aqW
 ·rw[if_pos ab]
 ·rw[if_neg ab,hI,if_neg ab]
theorem G3 (N:Nat) (bj:4<=N) (l:List aC) (i n:Int):xO N l i n=aqV (e3 l i n):=by
 unfold xO e3;have ah:=lE l i;rw[sk,al,O1 N (by omega) (by omega),al,bP];generalize cU l i=e at*;unfold hI;by_cases ab:e.contains n=aqW
 ·rw[ab];cases e with
  |nil=>simp at ab
  |cons a e=>
   simp only[asx,arE,if_false,aR,Int.le_refl,if_true,Int.toNat_zero,List.getElem?_cons_zero,al,bP,List.head?_cons,List.tail_cons];by_cases aq:a=n
   ·subst aq;have:=wH (xs:=a::e) (i:=1) (by simp);simp only[beq_self_eq_true,if_true];rw[show (1:Int)=((1:Nat):Int) from rfl,this,al,gY (by simp at ah⊢;omega),al];simp
   ·have:(a==n)=aqZ:=by simpa using aq
    rw[this];simp[aq]
 ·simp only[arW] at ab;rw[ab];simp
end Go.W
end
section
namespace Go.W
open Go.aS
def oo (u:UInt8):Bool:=(decide (97<=u.toNat)&&decide (u.toNat<=122))||(decide (48<=u.toNat)&&decide (u.toNat<=57))
def k3 (l:List UInt8):Bool:=l.all oo&&(decide (1<=l.length)&&decide (l.length<=12))
theorem ajq (N:Nat) {l:List UInt8} {i:Nat} {u:UInt8} (h:l[i]? =aqV u):Ir N l i=aqV (!oo u):=by
 unfold Ir oo;rw[cJ h];simp only[al];by_cases a:97<=u.toNat
 ·rw[if_neg (by simp;omega)];by_cases b:u.toNat<=122
  ·rw[if_neg (by simp;omega)];simp[a,b]
  ·rw[if_pos (by simp;omega),if_neg (by simp;omega)];simp[a,b,show ¬u.toNat<=57 by omega,show (57:Int)<u.toNat by omega]
 ·rw[if_pos (by simp;omega)];by_cases c:u.toNat<48
  ·rw[if_pos (by simp;omega)];simp[a,show ¬48<=u.toNat by omega]
  ·rw[if_neg (by simp;omega)];by_cases d:u.toNat<=57
   ·simp[a,show 48<=u.toNat by omega,d,show ¬(57:Int)<u.toNat by omega]
   ·simp[a,show 48<=u.toNat by omega,d,show (57:Int)<u.toNat by omega]
theorem ajv (N:Nat) {l:List UInt8} {i:Nat} {u:UInt8} (h:l[i]? =aqV u):HZ N l i=aqV (!oo u):=by
 unfold HZ oo;rw[cJ h];simp only[al];by_cases a:97<=u.toNat
 ·rw[if_pos (by simp;omega)];by_cases b:u.toNat<=122
  ·rw[if_pos (by simp;omega)];simp[a,b]
  ·rw[if_neg (by simp;omega)];by_cases c:48<=u.toNat
   ·rw[if_pos (by simp;omega)];simp[a,b,c];omega
   ·omega
 ·rw[if_neg (by simp;omega)];by_cases c:48<=u.toNat
  ·rw[if_pos (by simp;omega)];simp[a,c];omega
  ·rw[if_neg (by simp;omega)];simp[a,c]
theorem OZ {au bz:Type} (p:au->Bool) (b:bz):∀(l:List au) (i:Nat),ch (fun _ y=> !p y) (fun _ _=>b) i l=if l.all p=aqW then .inl () else .inr b
 |[],i=>rfl
 |y::l,i=>by
  rw[ch,arR];by_cases h:p y=aqW
  ·rw[h];simp only[asx,arE,if_false,asQ];exact OZ p b l (i+1)
  ·simp only[arW] at h;rw[h];simp
theorem agp (N:Nat) {l:List UInt8} (bj:14<=N):I7 N l=aqV (k3 l):=by
 unfold I7 Qg k3;by_cases h1:l.length<1
 ·rw[if_pos (cH (by omega)),al,if_pos rfl];simp[show ¬1<=l.length by omega]
 ·rw[if_neg (cF (by omega)),al];by_cases J:12<l.length
  ·rw[if_pos (by simpa using by omega)];simp[show ¬l.length<=12 by omega]
  ·rw[if_neg (by simpa using by omega)];have h:=j2 (l:=l) (fun _ y=> !oo y) (fun _ _=>aqZ) (fun m i=>uY N l l.length m i) (fun m=>by
    show uY N l l.length (m+1) _=_;rw[uY,if_neg (cF (by omega))]) (fun m i y ag=>by
    show uY N l l.length (m+1) _=_;have aN:=(aq5.1 ag).1;rw[uY,if_pos (cH (by omega)),ajq N ag,al,dm (by omega)]) l.length N 0 (by omega) (by omega)
   simp only[ast,arB] at h;rw[h,OZ oo,al];by_cases aj:l.all oo=aqW
   ·rw[if_pos aj,aj];simp[show 1<=l.length by omega,show l.length<=12 by omega]
   ·rw[if_neg aj];simp only[arW] at aj;rw[aj];simp
theorem agA (N:Nat) {l:List UInt8} (bj:l.length<N) (ah:l.length<=9223372036854775807):Jb N l=aqV (k3 l):=by
 unfold Jb k3;have h:=j2 (l:=l) (fun _ y=> !oo y) (fun _ _=>aqZ) (fun m i=>uR N l m i) (fun m=>by
  show uR N l (m+1) _=_;rw[uR,if_neg (cF (by omega))]) (fun m i y ag=>by
  show uR N l (m+1) _=_;have aN:=(aq5.1 ag).1;rw[uR,if_pos (cH (by omega)),ajv N ag,al,bP,dm (by omega)]) l.length N 0 (by omega) (by omega)
 simp only[ast,arB] at h;rw[h,OZ oo,al];by_cases aj:l.all oo=aqW
 ·rw[if_pos aj,aj];unfold Qn;by_cases a:1<=l.length
  ·rw[if_pos (nq (by omega))];simp only[bP,al,decide_eq_true a,asQ];congr 1;rw[decide_eq_decide];omega
  ·rw[if_neg (oh (by omega))];simp[a,al]
 ·rw[if_neg aj];simp only[arW] at aj;rw[aj];simp
def mB (e:List Int) (i:Nat) (a:Int):Bool:=(decide (a<0)||decide (64<=a))||(e.take i).contains a
def sa (e:List Int):Bool:=match ch (mB e) (fun _ _=>aqZ) 0 e with| .inl _=>aqW| .inr _=>aqZ
def iZ (x:aC):Bool:=
 (!(bT x).isEmpty&&k3 x.name)&&(sa (bT x)&&if x.kind=1 then x.c==0&&(decide (1<=x.length)&&decide (x.length<=100000)) else x.length==0&&(x.kind==2||x.c==0))
theorem um {au bz:Type} {p:Nat->au->Bool} {out:Nat->au->bz}:∀{l:List au} {i:Nat},ch p out i l= .inl ()↔∀(j:Nat) (x:au),l[j]? =aqV x->p (i+j) x=aqZ
 |[],i=>by simp[ch]
 |x::l,i=>by
  rw[ch];by_cases h:p i x=aqW
  ·rw[if_pos h];constructor
   ·intro ax;cases ax
   ·intro ax;have:=ax 0 x rfl;rw[Nat.add_zero,h] at this;cases this
  ·rw[if_neg h,um];simp only[arW] at h;constructor
   ·intro ax j y av;cases j with
    |zero=>simp at av;subst av;exact h
    |succ j=>have:=ax j y (by simpa using av);rwa [show i+1+j=i+(j+1) by omega] at this
   ·intro ax j y av;have:=ax (j+1) y (by simpa using av)
    rwa [show i+(j+1)=i+1+j by omega] at this
theorem GV {e:List Int}:sa e=aqW↔e.Nodup/\∀a∈e,0<=a/\a<64:=by
 have h1:sa e=aqW↔ch (mB e) (fun _ _=>aqZ) 0 e= .inl ():=by
  unfold sa;split
  ·rename_i u h;simp[h]
  ·rename_i u h;simp[h]
 rw[h1,um];constructor
 ·intro h;refine ⟨?_,fun a aq=> ?_⟩
  ·refine arT.2 fun i j ae av cY dn=> ?_;have BK:=cM av;have:=h j _ BK;rw[arh] at this;simp only[mB,atU,atd,decide_eq_false_iff_not] at this;apply this.2;refine are (i:=i) ?_;rw[arK,if_pos cY,cM ae,dn]
  ·obtain ⟨j,av⟩:=arS aq;have:=h j a av;simp only[mB,atU,decide_eq_false_iff_not] at this;omega
 ·rintro ⟨J,aj⟩ j x av;rw[arh];have:=aj x (are av);simp only[mB,atU,decide_eq_false_iff_not];refine ⟨⟨by omega,by omega⟩, ?_⟩;simp only[atd,decide_eq_false_iff_not];intro hm;obtain ⟨i,ae⟩:=arS hm;rw[arK] at ae;split at ae
  ·rename_i cY;have gA:=(aq5.1 av).1;obtain ⟨jk,ae⟩:=aq5.1 ae;obtain ⟨_,av⟩:=aq5.1 av;exact arT.1 J i j jk gA cY (by rw[ae,av])
  ·cases ae
theorem aih (N:Nat) {e:List Int} (bj:e.length<N) (ah:e.length<=1000000) (a:Int):sN N a e e.length N 0=aqV (if e.contains a=aqW then .inr aqZ else .inl ()):=by
 have h:=j2 (l:=e) (fun _ y=>y==a) (fun _ _=>aqZ) (fun m i=>sN N a e e.length m i) (fun m=>by
  show sN N a e e.length (m+1) _=_;rw[sN,if_neg (cF (by omega))]) (fun m i y ag=>by
  show sN N a e e.length (m+1) _=_;have aN:=(aq5.1 ag).1;rw[sN,if_pos (cH (by omega)),cJ ag,al,dm (by omega)];by_cases Fj:a=y
  ·rw[if_pos (by simpa using Fj),if_pos (by simpa using Fj.symm)]
  ·rw[if_neg (by simpa using Fj),if_neg (by simpa using fun ax:y=a=>Fj ax.symm)]) e.length N 0 bj (by omega)
 simp only[ast,arB] at h;rw[h];congr 1;have key:∀(e:List Int) (i:Nat),ch (fun _ y=>y==a) (fun _ _=>aqZ) i e=if (e.any fun y=>y==a)=aqW then .inr aqZ else .inl ():=by
  intro e;induction e with
  |nil=>intro i;rfl
  |cons y e a8=>
   intro i;rw[ch,asR];by_cases h:(y==a)=aqW
   ·simp[h]
   ·simp only[arW] at h;rw[h,if_neg (by simp),a8,arZ]
 rw[key,Hi]
theorem aif (N:Nat) (bj:10<=N) {e:List Int} (he:e.length<=3):sM N e e e.length N 0=aqV (ch (mB e) (fun _ _=>aqZ) 0 e):=by
 have h:=j2 (l:=e) (mB e) (fun _ _=>aqZ) (fun m i=>sM N e e e.length m i) (fun m=>by
  show sM N e e e.length (m+1) _=_;rw[sM,if_neg (cF (by omega))]) (fun m i a aq=>by
  show sM N e e e.length (m+1) _=_;have aN:=(aq5.1 aq).1;rw[sM,if_pos (cH (by omega)),cJ aq,al];unfold PL mB;by_cases aI:a<0
  ·rw[if_pos (cH aI),al];simp[aI]
  ·rw[if_neg (cF aI),al];by_cases h1:64<=a
   ·simp[h1]
   ·rw[if_neg (by simpa using by omega),zd (by omega),al,aih N (by rw[arG];omega) (by rw[arG];omega),al];have aX:decide (a<0)=aqZ:=by simpa using by omega
    have e2:decide (64<=a)=aqZ:=by simpa using by omega
    rw[aX,e2,arZ,arZ];by_cases ab:(e.take i).contains a=aqW
    ·rw[if_pos ab,if_pos ab]
    ·rw[if_neg ab,if_neg ab];simp only[];rw[dm (by omega)]) e.length N 0 (by omega) (by omega)
 simpa using h
theorem ahQ (N:Nat) (bj:10<=N) {e:List Int} (he:e.length<=3):sY N e N 0=aqV (ch (mB e) (fun _ _=>aqZ) 0 e):=by
 have h:=j2 (l:=e) (mB e) (fun _ _=>aqZ) (fun m i=>sY N e m i) (fun m=>by
  show sY N e (m+1) _=_;rw[sY,if_neg (cF (by omega))]) (fun m i a aq=>by
  show sY N e (m+1) _=_;have aN:=(aq5.1 aq).1;rw[sY,if_pos (cH (by omega))];unfold Qj mB;rw[cJ aq];simp only[al];by_cases aI:a<0
  ·rw[if_pos (cH aI),al];simp[aI]
  ·rw[if_neg (cF aI)];by_cases h1:64<=a
   ·rw[if_pos (nq h1),al];simp[h1]
   ·rw[if_neg (oh h1),zd (by omega),al,O1 N (by rw[arG];omega) (by rw[arG];omega),al,al];have aX:decide (a<0)=aqZ:=by simpa using by omega
    have e2:decide (64<=a)=aqZ:=by simpa using by omega
    rw[aX,e2,arZ,arZ,bP,dm (by omega)]) e.length N 0 (by omega) (by omega)
 simpa using h
theorem afn (N:Nat) (bj:20<=N) (x:aC) (U:bT x≠[]\/k3 x.name=aqZ):I1 N x=aqV (iZ x):=by
 unfold I1 iZ PK;have he:=uo x;rw[Gy,al,agp N (by omega)];by_cases b8:bT x=[]
 ·have ar:k3 x.name=aqZ:=by rcases U with h|h;exact absurd b8 h;exact h
  rw[b8,ar];simp[o9,al]
 ·have o0:∀{bz:Type} (f:Bool->Option bz),o9 (bT x) f=f aqZ:=fun f=>by unfold o9;rw[if_neg b8]
  rw[o0];have im:(bT x).isEmpty=aqZ:=by cases h:bT x with|nil=>exact absurd h b8|cons _ _=>rfl
  simp only[arE,if_false,al,im,atX,asQ];by_cases ar:k3 x.name=aqW
  ·rw[ar];simp only[asx,arE,if_false,asQ];rw[aif N (by omega) he,al];unfold sa;cases an:ch (mB (bT x)) (fun _ _=>aqZ) 0 (bT x) with
   |inr b=>
    have:b=aqZ:=by
     have key:∀(e:List Int) (i:Nat) (b:Bool),ch (mB (bT x)) (fun _ _=>aqZ) i e= .inr b->b=aqZ:=by
      intro e;induction e with
      |nil=>intro i b h;cases h
      |cons y e a8=>
       intro i b h;rw[ch] at h;split at h
       ·cases h;rfl
       ·exact a8 _ _ h
     exact key _ _ _ an
    subst this;simp
   |inl u=>
    simp only[asQ];by_cases h1:x.kind=1
    ·rw[if_pos (by simpa using h1),if_pos h1];unfold PM;by_cases ab:x.c=0
     ·rw[if_pos (by simpa using ab)];by_cases aq:1<=x.length
      ·rw[if_pos (nq aq)];simp[bP,al,ab,aq]
      ·rw[if_neg (oh aq)];simp[al,aq]
     ·rw[if_neg (by simpa using ab)];simp[al,ab]
    ·rw[if_neg (by simpa using h1),if_neg h1];unfold PN;by_cases aq:x.length=0
     ·rw[if_pos (by simpa using aq)];by_cases J:x.kind=2
      ·rw[if_pos (by simpa using J)];simp[al,aq,J]
      ·rw[if_neg (by simpa using J)];simp[bP,al,aq,J]
     ·rw[if_neg (by simpa using aq)];simp[al,aq]
  ·simp only[arW] at ar;rw[ar];simp
theorem aft (N:Nat) (x:aC):IZ N x=if bT x=[] then aqV () else aqY:=by
 unfold IZ PH bT;simp only[bP];by_cases h1:x.kind=1
 ·simp[h1,al]
 ·by_cases aj:x.kind=3
  ·simp[aj,al]
  ·by_cases J:x.kind=2
   ·simp[J,al]
   ·simp[h1,J,aj,al]
theorem afv (N:Nat) (bj:20<=N) (x:aC):QZ N x=aqV (iZ x):=by
 unfold QZ QY;rw[aft];by_cases he:bT x=[]
 ·rw[if_pos he,al];have aI:PJ N=aqV aqW:=rfl;rw[aI,al,if_pos rfl];unfold iZ;rw[he];rfl
 ·rw[if_neg he,afn N bj x (.inl he)];rfl
theorem agj (N:Nat) {l:List aC} {i:Nat} {x:aC} (U:l[i]? =aqV x) (bj:20<=N) (ar:x.name.length<N) (Mi:x.name.length<=9223372036854775807):nG N l i=aqV (iZ x):=by
 unfold nG iZ Qi;have he:=uo x;rw[cJ U,al,sk,sm U,al,agA N ar Mi];by_cases b8:bT x=[]
 ·rw[b8];simp[al]
 ·have im:(bT x).isEmpty=aqZ:=by cases h:bT x with|nil=>exact absurd h b8|cons _ _=>rfl
  have hlen:((bT x).length:Int)≠0:=by cases h:bT x with|nil=>exact absurd h b8|cons _ _=>simp;omega
  rw[if_neg (by simpa using hlen)];simp only[al,im,atX,asQ];by_cases gQ:k3 x.name=aqW
  ·rw[gQ];simp only[asx,arE,if_false,asQ];rw[ahQ N (by omega) he,al];unfold sa;cases an:ch (mB (bT x)) (fun _ _=>aqZ) 0 (bT x) with
   |inr b=>
    have:b=aqZ:=by
     have key:∀(e:List Int) (i:Nat) (b:Bool),ch (mB (bT x)) (fun _ _=>aqZ) i e= .inr b->b=aqZ:=by
      intro e;induction e with
      |nil=>intro i b h;cases h
      |cons y e a8=>
       intro i b h;rw[ch] at h;split at h
       ·cases h;rfl
       ·exact a8 _ _ h
     exact key _ _ _ an
    subst this;simp
   |inl u=>
    simp only[asQ];unfold Qk;have gl:((bT x).length:Int)=2↔(x.kind=1\/x.kind=3):=by
     unfold bT;split
     ·rename_i h;simp[h]
     ·rename_i h;split
      ·simp[h]
      ·simp[h]
    by_cases h1:x.kind=1
    ·rw[if_pos (by simpa using gl.2 (.inl h1)),al,if_pos h1];by_cases ab:x.c=0
     ·unfold Ql;by_cases aq:1<=x.length
      ·simp[bP,al,ab,aq,h1]
      ·simp[al,aq,h1,ab]
     ·simp[ab]
    ·by_cases aj:x.kind=3
     ·rw[if_pos (by simpa using gl.2 (.inr aj)),al,if_neg h1];by_cases ab:x.c=0
      ·simp[bP,ab,aj]
      ·simp[ab,aj]
     ·have J:x.kind=2:=by
       have:=b8;unfold bT at this;rw[if_neg (by omega)] at this;split at this
       ·assumption
       ·exact absurd rfl this
      have ah:¬((bT x).length:Int)=2:=by rw[gl];omega
      rw[if_neg (by simpa using ah),al,if_neg h1];simp[bP,J]
  ·simp only[arW] at gQ;rw[gQ];simp
end Go.W
end
section
namespace Go.W
open Go.aS
def fA (l:List aC) (n:Int):Int:=((l.filter fun x=>(bT x).contains n).length:Int)
theorem Nx (l:List aC) (n:Int):0<=fA l n:=by unfold fA;omega
theorem Yr (l:List aC) (n:Int):fA l n<=l.length:=by unfold fA;have:=List.length_filter_le (fun x=>(bT x).contains n) l;omega
theorem mE {au:Type} {l:List au} {i:Nat} {x:au} (h:l[i]? =aqV x):l.take (i+1)=l.take i++[x]:=by
 rw[List.take_add_one,h];rfl
theorem uw (l:List aC) (x:aC) (n:Int):fA (l++[x]) n=fA l n+if n∈bT x then 1 else 0:=by
 unfold fA;rw[List.filter_append];by_cases h:n∈bT x
 ·simp[h]
 ·simp[h]
def hG (l:List aC) (i:Nat) (x:aC):Int:=
 if iZ x=aqZ then 1 else if ((l.take i).any fun y=>y.name==x.name)=aqW then 8 else if ((bT x).any fun n=>fA (l.take i) n==2)=aqW then 17 else 0
def nv (l:List aC) (i:Nat) (x:aC):Bool:=hG l i x !=0
def qn (l:List aC):Int:=if 96<l.length then 3 else match ch (nv l) (hG l) 0 l with| .inl _=>0| .inr c=>c
structure aaw (l:List aC) (i:Nat) (bH:List (List UInt8×Bool)) (b2:List (Int×Int)):Prop where
 p5:∀k,(bw bH k).getD aqZ=(l.take i).any fun y=>y.name==k
 mn:∀n,(bw b2 n).getD 0=fA (l.take i) n
theorem Vu (N:Nat) {e:List Int} (aB:e.Nodup) (ah:e.length<=3):∀(k n i:Nat) (b2:List (Int×Int)),k<n->i+k=e.length->(∀a,0<=(bw b2 a).getD 0/\(bw b2 a).getD 0<=1000+i)->
  (((e.drop i).any fun a=>(bw b2 a).getD 0==2)=aqW/\sT N e e.length n b2 i=aqV (.inr 17))\/
  (((e.drop i).any fun a=>(bw b2 a).getD 0==2)=aqZ/\∃xG,sT N e e.length n b2 i=aqV (.inl xG)/\∀m,(bw xG m).getD 0=(bw b2 m).getD 0+if m∈e.drop i then 1 else 0)
 |k,0,i,b2,ar,_,_=>by omega
 |0,n+1,i,b2,ar,ae,aa=>by
  obtain rfl:i=e.length:=by omega
  rw[sT,if_neg (cF (by omega)),asi];exact .inr ⟨rfl,b2,rfl,fun m=>by simp⟩
 |k+1,n+1,i,b2,ar,ae,aa=>by
  have aN:i<e.length:=by omega
  have aq:=cM aN;rw[sT,if_pos (cH (by omega)),cJ aq,jA aq,asR];simp only[al,bP];have qG:=aa e[i];by_cases J:(bw b2 e[i]).getD 0=2
  ·have gk:((bw b2 e[i]).getD 0==2)=aqW:=by simpa using J
   rw[if_pos gk,gk];exact .inl ⟨rfl,rfl⟩
  ·have gk:((bw b2 e[i]).getD 0==2)=aqZ:=by simpa using J
   rw[if_neg (by rw[gk];simp),dm (by omega),ha (by omega) (by omega),gk,arZ];have jY:∀m,(bw (dA b2 e[i] ((bw b2 e[i]).getD 0+1)) m).getD 0=(bw b2 m).getD 0+if m=e[i] then 1 else 0:=by
    intro m;rw[ix];by_cases hm:m=e[i]
    ·subst hm;simp
    ·rw[if_neg (fun ax=>hm ax.symm),if_neg hm];simp
   have pT:e[i]∉e.drop (i+1):=by intro hm;obtain ⟨j,av⟩:=arS hm;rw[ar6] at av;obtain ⟨gA,av⟩:=aq5.1 av;exact arT.1 aB i (i+1+j) aN gA (by omega) av.symm
   have LN:((e.drop (i+1)).any fun a=>(bw (dA b2 e[i] ((bw b2 e[i]).getD 0+1)) a).getD 0==2)=((e.drop (i+1)).any fun a=>(bw b2 a).getD 0==2):=by
    rw[Bool.eq_iff_iff];simp only[asH];constructor
    ·rintro ⟨a,h1,aj⟩;refine ⟨a,h1, ?_⟩;rw[jY,if_neg (fun ax=>pT (by rw[<-ax];exact h1)),Int.add_zero] at aj;exact aj
    ·rintro ⟨a,h1,aj⟩;refine ⟨a,h1, ?_⟩;rw[jY,if_neg (fun ax=>pT (by rw[<-ax];exact h1)),Int.add_zero];exact aj
   have a8:=Vu N aB ah k n (i+1) (dA b2 e[i] ((bw b2 e[i]).getD 0+1)) (by omega) (by omega) (fun a=>by
    rw[jY];have:=aa a;split
    ·rename_i h;subst h;omega
    ·omega)
   rw[LN] at a8;rcases a8 with ⟨g1,g2⟩|⟨g1,xG,g2,g3⟩
   ·exact .inl ⟨g1,g2⟩
   ·refine .inr ⟨g1,xG,g2,fun m=> ?_⟩;rw[g3 m,jY m];by_cases hm:m=e[i]
    ·subst hm;rw[if_pos rfl,if_neg pT,if_pos arp];omega
    ·rw[if_neg hm];by_cases iK:m∈e.drop (i+1)
     ·rw[if_pos iK,if_pos (ark _ iK)];omega
     ·rw[if_neg iK,if_neg (by simp only[arb,not_or];exact ⟨hm,iK⟩)];omega
theorem l5 {x:aC} (h:iZ x=aqW):(bT x).Nodup/\(∀a∈bT x,0<=a/\a<64)/\bT x≠[]/\k3 x.name=aqW:=by
 unfold iZ at h;simp only[ara,Bool.not_eq_true'] at h;obtain ⟨h1,J⟩:=GV.1 h.2.1;exact ⟨h1,J,fun ax=>by rw[ax] at h;simp at h,h.1.2⟩
theorem VF (N:Nat) (bj:100<=N) {l:List aC} (ah:l.length<=96):∀(k n i:Nat) (bH:List (List UInt8×Bool)) (b2:List (Int×Int)),k<n->i+k=l.length->aaw l i bH b2->
  zV N l l.length n bH b2 i=aqV (ch (nv l) (hG l) i (l.drop i))
 |k,0,i,bH,b2,ar,_,_=>by omega
 |0,n+1,i,bH,b2,ar,ae,cc=>by
  obtain rfl:i=l.length:=by omega
  rw[zV,if_neg (cF (by omega)),asi];rfl
 |k+1,n+1,i,bH,b2,ar,ae,cc=>by
  have aN:i<l.length:=by omega
  have U:=cM aN;rw[zV,if_pos (cH (by omega)),cJ U,jA U,ch,al,afv N (by omega) _,al];unfold nv;by_cases lp:iZ l[i]=aqW
  case neg=>
   simp only[arW] at lp;have ab:hG l i l[i]=1:=by unfold hG;rw[if_pos lp]
   rw[lp,ab];simp
  obtain ⟨aX,e2,ij,oR⟩:=l5 lp;rw[lp];simp only[asx,arE,if_false,bP,cc.p5];by_cases gQ:((l.take i).any fun y=>y.name==l[i].name)=aqW
  ·have ab:hG l i l[i]=8:=by unfold hG;rw[if_neg (by rw[lp];simp),if_pos gQ]
   rw[if_pos gQ,ab];simp
  ·rw[if_neg gQ,Gy,al];have aa:∀a,0<=(bw b2 a).getD 0/\(bw b2 a).getD 0<=1000+(0:Nat):=fun a=>by
    rw[cc.mn];have h1:=Nx (l.take i) a;have J:=Yr (l.take i) a;rw[arG] at J;omega
   have LN:((bT l[i]).any fun a=>(bw b2 a).getD 0==2)=((bT l[i]).any fun a=>fA (l.take i) a==2):=by simp only[cc.mn]
   have aj:=uo l[i];have:=Vu N aX aj (bT l[i]).length N 0 b2 (by omega) (by omega) aa;rw[arB,LN] at this;rcases this with ⟨g1,g2⟩|⟨g1,xG,g2,g3⟩
   ·have ab:hG l i l[i]=17:=by unfold hG;rw[if_neg (by rw[lp];simp),if_neg gQ,if_pos g1]
    have g2:sT N (bT l[i]) (bT l[i]).length N b2 0=aqV (.inr 17):=g2;rw[g2,ab];simp[al]
   ·have ab:hG l i l[i]=0:=by unfold hG;rw[if_neg (by rw[lp];simp),if_neg gQ,if_neg (by rw[g1];simp)]
    have g2:sT N (bT l[i]) (bT l[i]).length N b2 0=aqV (.inl xG):=g2;rw[g2,ab];simp only[al,bne_self_eq_false,arE,if_false];rw[dm (by omega)];refine VF N bj ah k n (i+1) _ xG (by omega) (by omega) ⟨fun q=> ?_,fun m=> ?_⟩
    ·rw[ix,mE U,List.any_append];by_cases aJ:l[i].name=q
     ·rw[if_pos aJ];simp[aJ]
     ·rw[if_neg aJ,cc.p5];simp[aJ]
    ·rw[g3 m,cc.mn,mE U,uw]
theorem NL (N:Nat) (bj:100<=N) {l:List aC}:tk N l=aqV (qn l):=by
 unfold tk qn;by_cases ah:96<l.length
 ·rw[if_pos (by simpa using by omega),if_pos ah]
 ·rw[if_neg (by simpa using by omega),if_neg ah];have h:=VF N bj (l:=l) (by omega) l.length N 0 [] [] (by omega) (by omega) ⟨fun k=>by simp[bw],fun n=>by simp[bw,fA]⟩;simp only[ast,arB] at h;rw[h,al];cases ch (nv l) (hG l) 0 l<;>rfl
structure Em (l:List aC) (i:Nat) (bH:List Int):Prop where
 len:bH.length=64
 mn:∀n:Nat,n<64->bH[n]? =aqV (fA (l.take i) (n:Int))
theorem Em.get {l:List aC} {i:Nat} {bH:List Int} (h:Em l i bH) {a:Int} (aI:0<=a) (h1:a<64):aR bH a=aqV (fA (l.take i) a):=by
 obtain ⟨n,rfl⟩:=arI aI;have:=h.mn n (by omega);exact cJ this
theorem anp (N:Nat) {l:List aC} {i:Nat} {x:aC} (U:l[i]? =aqV x) (bj:l.length<N) (ah:l.length<=96):sW N l i N 0=aqV (if ((l.take i).any fun y=>y.name==x.name)=aqW then .inr 8 else .inl ()):=by
 have ae:=(aq5.1 U).1;have hlen:(l.take i).length=i:=by rw[arG];omega
 have h:=j2 (l:=l.take i) (fun _ y=>y.name==x.name) (fun _ _=>(8:Int)) (fun m j=>sW N l i m j) (fun m=>by
  show sW N l i (m+1) _=_;rw[hlen,sW,if_neg (cF (by omega))]) (fun m j y ag=>by
  show sW N l i (m+1) _=_;have aN:=(aq5.1 ag).1;rw[hlen] at aN;rw[arK,if_pos aN] at ag;rw[sW,if_pos (cH (by omega)),cJ ag,al,cJ U,al,bP,dm (by omega)]) i N 0 (by omega) (by rw[hlen];omega)
 simp only[ast,arB] at h;rw[h];congr 1;have key:∀(q:List aC) (j:Nat),ch (fun _ y=>y.name==x.name) (fun _ _=>(8:Int)) j q=if (q.any fun y=>y.name==x.name)=aqW then .inr 8 else .inl ():=by
  intro q;induction q with
  |nil=>intro j;rfl
  |cons y q a8=>
   intro j;rw[ch,asR];by_cases h:(y.name==x.name)=aqW
   ·simp[h]
   ·simp only[arW] at h;rw[h,if_neg (by simp),a8,arZ]
 exact key _ 0
theorem anq (N:Nat) (bj:10<=N) {l:List aC} {i:Nat} {bH:List Int} (cc:Em l i bH) {e:List Int} (he:e.length<=3) (an:∀a∈e,0<=a/\a<64):sX N bH e N 0=aqV (if (e.any fun a=>fA (l.take i) a==2)=aqW then .inr 17 else .inl ()):=by
 have h:=j2 (l:=e) (fun _ a=>fA (l.take i) a==2) (fun _ _=>(17:Int)) (fun m j=>sX N bH e m j) (fun m=>by
  show sX N bH e (m+1) _=_;rw[sX,if_neg (cF (by omega))]) (fun m j y ag=>by
  show sX N bH e (m+1) _=_;have aN:=(aq5.1 ag).1;obtain ⟨aI,h1⟩:=an y (are ag);rw[sX,if_pos (cH (by omega)),cJ ag];simp only[al,cc.get aI h1,bP];rw[dm (by omega)]) e.length N 0 (by omega) (by omega)
 simp only[ast,arB] at h;rw[h];congr 1;have key:∀(q:List Int) (j:Nat),ch (fun _ a=>fA (l.take i) a==2) (fun _ _=>(17:Int)) j q=if (q.any fun a=>fA (l.take i) a==2)=aqW then .inr 17 else .inl ():=by
  intro q;induction q with
  |nil=>intro j;rfl
  |cons y q a8=>
   intro j;rw[ch,asR];by_cases h:(fA (l.take i) y==2)=aqW
   ·simp[h]
   ·simp only[arW] at h;rw[h,if_neg (by simp),a8,arZ]
 exact key _ 0
theorem Zy (N:Nat) {e:List Int} (aB:e.Nodup) (he:e.length<=3) (an:∀a∈e,0<=a/\a<64):∀(k n i:Nat) (bH:List Int) (f:Int->Int),k<n->i+k=e.length->bH.length=64->(∀m:Nat,m<64->bH[m]? =aqV (f m))->(∀m,0<=f m/\f m<=1000+i)->
  ∃u4,xg N e n bH i=aqV u4/\u4.length=64/\∀m:Nat,m<64->u4[m]? =aqV (f m+if (m:Int)∈e.drop i then 1 else 0)
 |k,0,i,bH,f,ar,_,_,_,_=>by omega
 |0,n+1,i,bH,f,ar,ae,h1,J,aj=>by
  obtain rfl:i=e.length:=by omega
  rw[xg,if_neg (cF (by omega)),asi];exact ⟨bH,rfl,h1,fun m hm=>by simpa using J m hm⟩
 |k+1,n+1,i,bH,f,ar,ae,h1,J,aj=>by
  have aN:i<e.length:=by omega
  have aq:=cM aN;obtain ⟨oy,fg⟩:=an _ (asy aN);obtain ⟨q,aJ⟩:=arI oy;have UK:q<64:=by omega
  have aH:aR bH e[i]=aqV (f q):=by rw[aJ];exact cJ (J q UK)
  have aP:=aj q;rw[xg,if_pos (cH (by omega)),cJ aq,jA aq];simp only[al,bP,aH];rw[dm (by omega),ha (by omega) (by omega)];have pT:e[i]∉e.drop (i+1):=by intro hm;obtain ⟨j,av⟩:=arS hm;rw[ar6] at av;obtain ⟨gA,av⟩:=aq5.1 av;exact arT.1 aB i (i+1+j) aN gA (by omega) av.symm
  obtain ⟨u4,g1,g2,g3⟩:=Zy N aB he an k n (i+1) (bH.set q (f q+1)) (fun m=>if m=(q:Int) then f m+1 else f m) (by omega) (by omega) (by rw[List.length_set];exact h1) (fun m hm=>by
   rw[List.getElem?_set];by_cases tP:q=m
   ·subst tP;simp[h1,UK]
   ·rw[if_neg tP,J m hm,if_neg (by omega)]) (fun m=>by have:=aj m;split<;>omega)
  refine ⟨u4,by rw[aJ];exact g1,g2,fun m hm=> ?_⟩;rw[g3 m hm];congr 1;by_cases tP:(m:Int)=q
  ·rw[if_pos tP,if_neg (by rw[tP,<-aJ];exact pT),if_pos (by rw[tP,<-aJ];exact arp)];omega
  ·rw[if_neg tP];by_cases iK:(m:Int)∈e.drop (i+1)
   ·rw[if_pos iK,if_pos (ark _ iK)]
   ·rw[if_neg iK,if_neg (by simp only[arb,not_or];exact ⟨by rw[aJ];exact tP,iK⟩)]
theorem Wb (N:Nat) (bj:100<=N) {l:List aC} (ah:l.length<=96) (gQ:∀x∈l,x.name.length<N/\x.name.length<=9223372036854775807):∀(k n i:Nat) (bH:List Int),k<n->i+k=l.length->Em l i bH->
  zX N l n bH i=aqV (ch (nv l) (hG l) i (l.drop i))
 |k,0,i,bH,ar,_,_=>by omega
 |0,n+1,i,bH,ar,ae,cc=>by
  obtain rfl:i=l.length:=by omega
  rw[zX,if_neg (cF (by omega)),asi];rfl
 |k+1,n+1,i,bH,ar,ae,cc=>by
  have aN:i<l.length:=by omega
  have U:=cM aN;obtain ⟨cm,cw⟩:=gQ _ (asy aN);rw[zX,if_pos (cH (by omega)),agj N U (by omega) cm cw,jA U,ch,al];unfold nv;by_cases lp:iZ l[i]=aqW
  case neg=>
   simp only[arW] at lp;have ab:hG l i l[i]=1:=by unfold hG;rw[if_pos lp]
   rw[lp,ab];simp
  obtain ⟨aX,e2,ij,oR⟩:=l5 lp;rw[lp];simp only[asx,arE,if_false];rw[anp N U (by omega) ah,al];by_cases BV:((l.take i).any fun y=>y.name==l[i].name)=aqW
  ·have ab:hG l i l[i]=8:=by unfold hG;rw[if_neg (by rw[lp];simp),if_pos BV]
   rw[if_pos BV,ab];simp
  ·have aj:=uo l[i];rw[if_neg BV];simp only[];rw[sk,sm U,al,anq N (by omega) cc aj e2,al];by_cases g1:((bT l[i]).any fun a=>fA (l.take i) a==2)=aqW
   ·have ab:hG l i l[i]=17:=by unfold hG;rw[if_neg (by rw[lp];simp),if_neg BV,if_pos g1]
    rw[if_pos g1,ab];simp
   ·have ab:hG l i l[i]=0:=by unfold hG;rw[if_neg (by rw[lp];simp),if_neg BV,if_neg g1]
    rw[if_neg g1,ab];simp only[bne_self_eq_false,arE,if_false];obtain ⟨u4,bs,bC,cQ⟩:=Zy N aX aj e2 (bT l[i]).length N 0 bH (fun m=>fA (l.take i) m) (by omega) (by omega) cc.len cc.mn (fun m=>by
     have h1:=Nx (l.take i) m;have J:=Yr (l.take i) m;rw[arG] at J;omega)
    have bs:xg N (bT l[i]) N bH 0=aqV u4:=bs;rw[bs,al,bP,dm (by omega)];refine Wb N bj ah gQ k n (i+1) u4 (by omega) (by omega) ⟨bC,fun m hm=> ?_⟩;rw[cQ m hm,mE U,uw,arB]
theorem Gm (N:Nat) (bj:100<=N) {l:List aC} (gQ:l.length<=96->∀x∈l,x.name.length<N/\x.name.length<=9223372036854775807):vb N l=aqV (qn l):=by
 unfold vb qn;by_cases ah:96<l.length
 ·rw[if_pos (by simpa using by omega),if_pos ah]
 ·rw[if_neg (by simpa using by omega),if_neg ah];have h:=Wb N bj (by omega) (gQ (by omega)) l.length N 0 (arx 64 0) (by omega) (by omega) ⟨by simp,fun n ar=>by rw[List.getElem?_replicate,if_pos ar];simp[fA]⟩;simp only[ast,arB] at h;rw[h,al];cases ch (nv l) (hG l) 0 l<;>rfl
structure dV (l:List aC):Prop where
 len:l.length<=96
 snd:∀x∈l,iZ x=aqW
 p5:l.Pairwise fun x y=>x.name≠y.name
 mn:∀n,fA l n<=2
theorem dV.err {l:List aC} (h:dV l):qn l=0:=by
 unfold qn;rw[if_neg (by have:=h.len;omega)];have:ch (nv l) (hG l) 0 l= .inl ():=by
  rw[um];intro j x av;rw[arh];have gA:=(aq5.1 av).1;have ab:hG l j x=0:=by
   unfold hG;rw[if_neg (by rw[h.snd x (are av)];simp),if_neg,if_neg]
   ·intro ax;obtain ⟨n,ar,Mi⟩:=asH.1 ax;have J:fA (l.take j) n=2:=by simpa using Mi
    have aj:=uw (l.take j) x n;rw[if_pos ar,<-mE av,J] at aj;have aM:fA (l.take (j+1)) n<=fA l n:=by unfold fA;have:=(ats (j+1) l).filter (fun x=>(bT x).contains n);have:=this.length_le;omega
    have:=h.mn n;omega
   ·intro ax;obtain ⟨y,ag,adx⟩:=asH.1 ax;obtain ⟨i,ae⟩:=arS ag;rw[arK] at ae;split at ae
    ·rename_i cY;obtain ⟨jk,ae⟩:=aq5.1 ae;obtain ⟨_,av⟩:=aq5.1 av;have:=arT.1 h.p5 i j jk gA cY;rw[ae,av] at this;exact this (by simpa using adx)
    ·cases ae
  unfold nv;rw[ab];rfl
 rw[this]
theorem dV.p (N:Nat) (bj:100<=N) {l:List aC} (h:dV l):tk N l=aqV 0:=by
 rw[NL N bj,h.err]
theorem dV.r (N:Nat) (bj:100<=N) {l:List aC} (h:dV l):vb N l=aqV 0:=by
 rw[Gm N bj fun _ x U=>by
  have h1:=(l5 (h.snd x U)).2.2.2;unfold k3 at h1;simp only[ara,decide_eq_true_eq] at h1;omega,h.err]
end Go.W
end
section
namespace Go.W
open Go.aS
theorem Np {l:List aC} {n:Int} {a b:Nat} (h:a<=b):fA (l.take a) n<=fA (l.take b) n:=by
 unfold fA;have h1:l.take a=(l.take b).take a:=by rw[List.take_take];congr 1;omega
 rw[h1];have:=((ats a (l.take b)).filter (fun x=>(bT x).contains n)).length_le;omega
theorem Og {l:List aC} {n:Int} {i:Nat} {x:aC} (h:l[i]? =aqV x) (ar:n∈bT x):fA (l.take (i+1)) n=fA (l.take i) n+1:=by
 rw[mE h,uw,if_pos ar]
theorem ahi {l:List aC} {n:Int} {a:Nat}:fA (l.take a) n<=fA l n:=by
 have:=Np (l:=l) (n:=n) (Nat.le_max_left a l.length);rw[List.take_of_length_le (Nat.le_max_right _ _)] at this;exact this
theorem yi {l:List aC} {n:Int} {i j k:Nat} {x y z:aC} (U:l[i]? =aqV x) (ag:l[j]? =aqV y) (aF:l[k]? =aqV z) (h1:n∈bT x) (J:n∈bT y) (aj:n∈bT z) (cY:i<j) (Un:j<k):3<=fA l n:=by
 have c0:=Og U h1;have a2:=Og ag J;have a3:=Og aF aj;have e6:=Np (l:=l) (n:=n) (show i+1<=j by omega);have gj:=Np (l:=l) (n:=n) (show j+1<=k by omega);have mV:=ahi (l:=l) (n:=n) (a:=k+1);have qA:=Nx (l.take i) n;omega
theorem dV.of {l:List aC} (h:qn l=0):dV l:=by
 unfold qn at h;split at h
 ·cases h
 rename_i ah;have nk:ch (nv l) (hG l) 0 l= .inl ():=by
  cases an:ch (nv l) (hG l) 0 l with
  |inl u=>rfl
  |inr c=>
   rw[an] at h;simp only at h;have key:∀(e:List aC) (i:Nat) (c:Int),ch (nv l) (hG l) i e= .inr c->c≠0:=by
    intro e;induction e with
    |nil=>intro i c h;cases h
    |cons y e a8=>
     intro i c h;rw[ch] at h;split at h
     ·rename_i ap;cases h;unfold nv at ap;simpa using ap
     ·exact a8 _ _ h
   exact absurd h (key _ _ _ an)
 have ab:∀(j:Nat) (x:aC),l[j]? =aqV x->hG l j x=0:=fun j x av=>by have:=(um.1 nk) j x av;rw[arh] at this;unfold nv at this;simpa using this
 have aj:∀(j:Nat) (x:aC),l[j]? =aqV x->iZ x=aqW/\((l.take j).any fun y=>y.name==x.name)=aqZ/\((bT x).any fun n=>fA (l.take j) n==2)=aqZ:=fun j x av=>by
  have:=ab j x av;unfold hG at this;split at this
  ·cases this
  ·rename_i a;split at this
   ·cases this
   ·rename_i b;split at this
    ·cases this
    ·rename_i c;exact ⟨by simpa using a,by simpa using b,by simpa using c⟩
 refine ⟨by omega,fun x U=> ?_, ?_,fun n=> ?_⟩
 ·obtain ⟨j,av⟩:=arS U;exact (aj j x av).1
 ·rw[arT];intro i j ae av cY b8;have aa:=(aj j _ (cM av)).2.1;rw[List.any_eq_false] at aa;have hm:l[i]∈l.take j:=by
   refine are (i:=i) ?_;rw[arK,if_pos cY];exact cM ae
  exact aa _ hm (by simpa using b8)
 ·have key:∀(i:Nat),i<=l.length->fA (l.take i) n<=2:=by
   intro i;induction i with
   |zero=>intro _;simp[fA]
   |succ i a8=>
    intro ae;have U:=cM (xs:=l) (i:=i) (by omega);rw[mE U,uw];have:=a8 (by omega);split
    ·rename_i hm;have aa:=(aj i _ U).2.2;rw[List.any_eq_false] at aa;have:=aa n hm;simp at this;omega
    ·omega
  have:=key l.length (aq9 _);rw[List.take_length] at this;exact this
theorem dV.two {l:List aC} (h:dV l) {n:Int} {i j k:Nat} {x y z:aC} (U:l[i]? =aqV x) (ag:l[j]? =aqV y) (aF:l[k]? =aqV z) (h1:n∈bT x) (J:n∈bT y) (aj:n∈bT z):i=j\/j=k\/i=k:=by
 have ab:=h.mn n;rcases asE i j with a|a|a
 ·rcases asE j k with b|b|b
  ·have:=yi U ag aF h1 J aj a b;omega
  ·exact .inr (.inl b)
  ·rcases asE i k with c|c|c
   ·have:=yi U aF ag h1 aj J c b;omega
   ·exact .inr (.inr c)
   ·have:=yi aF U ag aj h1 J c a;omega
 ·exact .inl a
 ·rcases asE i k with b|b|b
  ·have:=yi ag U aF J h1 aj a b;omega
  ·exact .inr (.inr b)
  ·rcases asE j k with c|c|c
   ·have:=yi ag aF U J aj h1 c b;omega
   ·exact .inr (.inl c)
   ·have:=yi aF ag U aj J h1 c a;omega
theorem GL (l:List aC) (i n:Int):(bu l i n= -1/\∀(j:Nat) (x:aC),l[j]? =aqV x->(j:Int)≠i->n∉bT x)\/
  ∃(j:Nat) (x:aC),bu l i n=(j:Int)/\l[j]? =aqV x/\(j:Int)≠i/\n∈bT x:=by
 rcases F9 (qZ i n) l 0 with ⟨h1,J⟩|⟨j,x,h1,J,aj,_⟩
 ·refine .inl ⟨h1,fun j x av iJ ar=> ?_⟩;have:=J j x av;rw[arh] at this;unfold qZ at this;have aX:((j:Int) !=i)=aqW:=by simpa using iJ
  rw[aX] at this;simp[ar] at this
 ·rw[arh] at h1 aj;unfold qZ at aj;simp only[ara,bne_iff_ne,ne_eq] at aj;exact .inr ⟨j,x,h1,J,aj.1,by simpa using aj.2⟩
theorem zx {l:List aC} {i n:Int} (h:0<=bu l i n):n∈cU l (bu l i n)/\bu l i n≠i:=by
 rcases GL l i n with ⟨h1,_⟩|⟨j,x,h1,J,aj,aM⟩
 ·omega
 ·rw[h1,sm J];exact ⟨aM,aj⟩
theorem dV.ud {l:List aC} (h:dV l) {i n:Int} (ar:n∈cU l i) (hk:0<=bu l i n):bu l (bu l i n) n=i:=by
 obtain ⟨aI,h1,x,U,U1⟩:=jC ar;obtain ⟨a,rfl⟩:=arI aI;rw[Int.toNat_natCast] at U;rcases GL l (a:Int) n with ⟨g1,_⟩|⟨j,y,g1,g2,g3,g4⟩
 ·omega
 ·rw[g1];rcases GL l (j:Int) n with ⟨bs,bC⟩|⟨c,z,bs,bC,cQ,fy⟩
  ·exact absurd U1 (bC a x U (by omega))
  ·rw[bs];rcases h.two U g2 bC U1 g4 fy with e|e|e
   ·omega
   ·omega
   ·omega
theorem dV.nodup {l:List aC} (h:dV l) (i:Int):(cU l i).Nodup:=by
 unfold cU;split
 ·split
  ·rename_i x U;exact (l5 (h.snd x (are U))).1
  ·exact List.nodup_nil
 ·exact List.nodup_nil
theorem Gz {e:List Int} {n m:Int} (h:m∈hI e n):n∈e/\m∈e:=by
 unfold hI at h;split at h
 ·rename_i ab;refine ⟨by simpa using ab, ?_⟩;split at h
  ·exact List.mem_of_mem_tail h
  ·exact List.mem_of_mem_take h
 ·simp at h
theorem agK {e:List Int} (aB:e.Nodup) {n m:Int} (h:m∈hI e n):n∈hI e m/\n≠m:=by
 obtain ⟨h1,J⟩:=Gz h;unfold hI at h⊢;rw[if_pos (by simpa using h1)] at h;rw[if_pos (by simpa using J)];cases e with
 |nil=>simp at h1
 |cons a e=>
  have jR:=asU.1 aB;simp only[List.head?_cons,List.tail_cons,arr.injEq,List.take_succ_cons,List.take_zero,arb,asF,or_false] at h⊢;split at h
  ·rename_i aq;subst aq;have b8:¬a=m:=fun ax=>jR.1 (ax▸h);rw[if_neg b8];exact ⟨by simp,b8⟩
  ·rename_i aq;simp only[arb,asF,or_false] at h;subst h;rw[if_pos rfl];refine ⟨?_,fun ax=>aq ax.symm⟩;rcases arb.1 h1 with ax|ax
   ·exact absurd ax.symm aq
   ·exact ax
theorem zt {l:List aC} {i n m:Int} (h:m∈e3 l i n):n∈cU l i/\m∈cU l i:=Gz h
theorem dV.ZE {l:List aC} (h:dV l) {i n m:Int} (hm:m∈e3 l i n):n∈e3 l i m/\n≠m:=agK (h.nodup i) hm
theorem sn (l:List aC) (i n:Int):(e3 l i n).length<=3:=by
 have:=lE l i;unfold e3 hI;split
 ·split
  ·rw[List.length_tail];omega
  ·rw[arG];omega
 ·simp
end Go.W
end
