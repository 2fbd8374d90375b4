/- LRtY LRtZ LRtX LFr LFk1 LFk2 LFk3 LFk4 LFk5 LFk6 LFk7 LFk8 LFkP LIl1 LIl2 LIl3 LIl4 LIlR -/
import Derived.Test.YtmkfilkddlfgjaaGreatMe
section
set_option linter.unusedVariables false
set_option linter.unusedSimpArgs false
namespace Go.W
open Go.AM
theorem qgL (N:Nat) {s:List Setting} {x:Setting} (hl:s.length≤100000):∀(k n:Nat),k<n→k≤s.length→(∀(j:Nat) y,k≤j→s[j]? =some y→x.element≤y.element)→
  ∃i:Nat,qlm N s x n k=some (i:Int)∧i≤s.length∧(∀(j:Nat) y,i≤j→s[j]? =some y→x.element≤y.element)∧(∀y,0<i→s[i - 1]? =some y→y.element<x.element)
 |k,0,hn,_,_=>by omega
 |0,n+1,hn,hk,hg=>by
  rw[qlm]
  have h1:qln N s x ((0:Nat):Int)=some false:=by
   unfold qln
   rw[if_neg (dneg (by omega))]
  rw[h1,qaa,if_neg (by simp)]
  exact ⟨0,rfl,by omega,hg,fun y h=>by omega⟩
 |k+1,n+1,hn,hk,hg=>by
  have hv:=qak (xs:=s) (i:=k) (by omega)
  rw[qlm]
  have h1:qln N s x ((k+1:Nat):Int)=some (decide (x.element≤s[k].element)):=by
   unfold qln
   rw[if_pos (dpos (by omega)),w64p (by omega),qac hv,qaa]
  rw[h1,qaa]
  by_cases hc:x.element≤s[k].element
  ·rw[if_pos (lpos hc),qad,w64p (by omega)]
   refine qgL N hl k n (by omega) (by omega) fun j y hj hy=> ?_
   by_cases hjk:j=k
   ·subst hjk;rw[hv] at hy;cases hy;exact hc
   ·exact hg j y (by omega) hy
  ·rw[if_neg (lneg hc)]
   refine ⟨k+1,rfl,hk,hg,fun y _ hy=> ?_⟩
   rw[Nat.add_sub_cancel,hv] at hy;cases hy
   omega
theorem qmS (N:Nat) {s:List Setting} {x:Setting} (hl:s.length≤100000) (hN:s.length<N) (hs:s.Pairwise fun a b=>a.element<b.element) (hx:∀y∈s,y.element≠x.element):
  ∃s',zdP N s x=some s'∧(s'.Pairwise fun a b=>a.element<b.element)∧(∀y,y∈s'↔y=x∨y∈s)∧s'.length=s.length+1:=by
 obtain ⟨i,h1,h2,h3,h4⟩:=qgL N (s:=s) (x:=x) hl s.length N hN (Nat.le_refl _) (fun j y hj hy=>by
  have:=(List.getElem?_eq_some_iff.1 hy).1
  omega)
 unfold zdP
 rw[qad,h1,qaa]
 have hp2:qlo N s x i=some false:=by
  unfold qlo
  by_cases hi:i<s.length
  ·have hv:=qak hi
   rw[if_pos (dpos (by omega)),qac hv,qaa]
   congr 1
   simpa using hx _ (List.mem_of_getElem? hv)
  ·rw[if_neg (dneg (by omega))]
 rw[hp2,qaa,if_neg (by simp)]
 have hc3:qhN s (i:Int) (i:Int)=some (s.take i):=by
  unfold qhN
  rw[if_pos ⟨by omega,by omega,by omega,rfl⟩,Int.toNat_natCast]
 rw[hc3,qaa,qbt h2,qaa,qap (by rw[List.length_drop];simp;omega),qaa,if_neg (by simp),qap (by rw[List.length_take];simp;omega),qaa]
 have hlow:∀y∈s.take i,y.element<x.element:=by
  intro y hy
  obtain ⟨j,hj⟩:=List.getElem?_of_mem hy
  rw[List.getElem?_take] at hj
  split at hj
  ·rename_i hji
   have hi1:=qak (xs:=s) (i:=i - 1) (by omega)
   have hb:=h4 _ (by omega) hi1
   by_cases hj1:j=i - 1
   ·rw[hj1,hi1] at hj;cases hj;exact hb
   ·obtain ⟨hjl,hj⟩:=List.getElem?_eq_some_iff.1 hj
    have:=List.pairwise_iff_getElem.1 hs j (i - 1) hjl (by omega) (by omega)
    rw[hj] at this
    omega
  ·cases hj
 have hhigh:∀y∈s.drop i,x.element<y.element:=by
  intro y hy
  obtain ⟨j,hj⟩:=List.getElem?_of_mem hy
  rw[List.getElem?_drop] at hj
  have:=h3 (i+j) y (by omega) hj
  have:=hx y (List.mem_of_getElem? hj)
  omega
 refine ⟨_,rfl, ?_,fun y=> ?_,by simp;omega⟩
 ·rw[List.pairwise_append]
  refine ⟨hs.sublist (List.take_sublist _ _), ?_,fun a ha b hb=> ?_⟩
  ·rw[List.singleton_append,List.pairwise_cons]
   exact ⟨hhigh,hs.sublist (List.drop_sublist _ _)⟩
  ·have h5:=hlow a ha
   rw[List.singleton_append] at hb
   rcases List.mem_cons.1 hb with rfl|hb
   ·exact h5
   ·have:=hhigh b hb;omega
 ·have:=List.take_append_drop i s
  constructor
  ·intro hy
   rcases List.mem_append.1 hy with hy|hy
   ·exact .inr (List.mem_of_mem_take hy)
   ·rw[List.singleton_append] at hy
    rcases List.mem_cons.1 hy with hy|hy
    ·exact .inl hy
    ·exact .inr (List.mem_of_mem_drop hy)
  ·rintro (rfl|hy)
   ·exact List.mem_append_right _ (by simp)
   ·rw[←this] at hy
    rcases List.mem_append.1 hy with hy|hy
    ·exact List.mem_append_left _ hy
    ·exact List.mem_append_right _ (by simp[hy])
def posE (x:PlantElement) (v:Visit):Int:=if x.kind=3 then 3 else if x.kind=2 then (if v.in_=x.b∨v.out=x.b then 1 else 2) else 0
theorem qoC (x:PlantElement) (v:Visit):setE x v=if posE x v=0 then [] else [Setting.mk v.element (posE x v)]:=by
 unfold setE posE
 by_cases h3:x.kind=3
 ·simp[h3]
 ·by_cases h2:x.kind=2
  ·by_cases hb:v.in_=x.b∨v.out=x.b
   ·simp[h2,hb]
   ·simp[h2,hb]
  ·simp[h3,h2]
theorem qnb (N:Nat) {l:List PlantElement} {v:Visit} {x:PlantElement} (hx:getI l v.element=some x):zbS N l v=some (posE x v):=by
 unfold zbS posE
 rw[hx,qaa,qad]
 by_cases h3:x.kind=3
 ·rw[if_pos (by simpa using h3),if_pos h3]
 ·rw[if_neg (by simpa using h3),if_neg h3]
  by_cases h2:x.kind=2
  ·have hs2:qlh N v x=some (decide (v.in_=x.b∨v.out=x.b)):=by
    unfold qlh
    rw[if_pos (by simpa using h2)]
    by_cases a:v.in_=x.b
    ·rw[if_pos (by simpa using a)];simp[a]
    ·rw[if_neg (by simpa using a),qad]
     congr 1
     exact Bool.eq_iff_iff.2 (by simp[a])
   rw[hs2,qaa,if_pos h2]
   by_cases hb:v.in_=x.b∨v.out=x.b
   ·rw[if_pos (by simpa using hb),if_pos hb]
   ·rw[if_neg (by simpa using hb),if_neg hb,qad,if_pos (by simpa using h2)]
  ·have hs2:qlh N v x=some false:=by
    unfold qlh
    rw[if_neg (by simpa using h2)]
   rw[hs2,qaa,if_neg (by simp),qad,if_neg (by simpa using h2),if_neg h2]
theorem qfL (N:Nat) {l:List PlantElement} {r:List Visit} (hr:∀v∈r,0≤v.element∧v.element<l.length) (hd:(elems r).Nodup) (hl:r.length≤50000) (hN:r.length<N):∀(k n i:Nat) (s:List Setting),k<n→i+k=r.length→s.length≤i→(s.Pairwise fun a b=>a.element<b.element)→(∀y,y∈s↔y∈qaE l (r.take i))→
  ∃s',qjA N l r n s i=some s'∧(s'.Pairwise fun a b=>a.element<b.element)∧∀y,y∈s'↔y∈qaE l r
 |k,0,i,s,hn,_,_,_,_=>by omega
 |0,n+1,i,s,hn,hi,ha,hp,hm=>by
  obtain rfl:i=r.length:=by omega
  rw[qjA,if_neg (dneg (by omega))]
  rw[List.take_length] at hm
  exact ⟨s,rfl,hp,hm⟩
 |k+1,n+1,i,s,hn,hi,ha,hp,hm=>by
  have hlt:i<r.length:=by omega
  have hv:=qak hlt
  obtain ⟨h0,h1⟩:=hr _ (List.mem_of_getElem? hv)
  obtain ⟨q,hq⟩:=Int.eq_ofNat_of_zero_le h0
  have hx:=qak (xs:=l) (i:=q) (by omega)
  have hg:getI l (r[i]).element=some (l[q]'(by omega)):=by rw[hq];exact qac hx
  have hx2:l[(r[i]).element.toNat]? =some (l[q]'(by omega)):=by rw[hq,Int.toNat_natCast];exact hx
  have hset:setV l r[i]=setE (l[q]'(by omega)) r[i]:=by unfold setV;rw[hx2]
  have htk:∀y,y∈qaE l (r.take (i+1))↔y∈qaE l (r.take i)∨y∈setV l r[i]:=fun y=>by
   rw[qaW hv]
   unfold qaE
   rw[List.flatMap_append,List.flatMap_cons,List.flatMap_nil,List.append_nil,List.mem_append]
  have key:∃s',qo3 N l r s i=some s'∧(s'.Pairwise fun a b=>a.element<b.element)∧(∀y,y∈s'↔y∈qaE l (r.take (i+1)))∧s'.length≤i+1:=by
   unfold qo3
   rw[qac hv,qaa,qnb N hg,qaa]
   rw[qoC] at hset
   by_cases hz:posE (l[q]'(by omega)) r[i]=0
   ·rw[if_neg (by simpa using hz)]
    rw[if_pos hz] at hset
    exact ⟨s,rfl,hp,fun y=>by rw[htk,hset,hm];simp,by omega⟩
   ·rw[if_pos (by simpa using hz),qaa]
    rw[if_neg hz] at hset
    obtain ⟨s',p1,p2,p3,p4⟩:=qmS N (s:=s) (x:=Setting.mk r[i].element (posE (l[q]'(by omega)) r[i])) (by omega) (by omega) hp (fun y hy hh=>by
     have hy:=(hm y).1 hy
     unfold qaE at hy
     obtain ⟨v,hv1,hv2⟩:=List.mem_flatMap.1 hy
     have e:=qjj hv2
     have hd2:(elems (r.take (i+1))).Nodup:=hd.sublist ((List.take_sublist (i+1) r).map _)
     unfold elems at hd2
     rw[qaW hv,List.map_append,List.nodup_append] at hd2
     exact hd2.2.2 v.element (List.mem_map_of_mem hv1) r[i].element (by simp) (by rw[←e,hh]))
    rw[p1,qaa]
    exact ⟨s',rfl,p2,fun y=>by rw[p3,htk,hset,hm];simp[or_comm],by omega⟩
  obtain ⟨s',g1,g2,g3,g4⟩:=key
  rw[qjA,if_pos (dpos (by omega)),g1,qaa,qad,w64s (by omega)]
  exact qfL N hr hd hl hN k n (i+1) s' (by omega) (by omega) g4 g2 g3
theorem qrm (N:Nat) {l:List PlantElement} {r:List Visit} (hN:r.length+l.length+4000≤N) (hl:l.length≤1000000) (hr:r.length≤9223372036854775807) (hnm:l.length≤96→∀x∈l,x.name.length<N∧x.name.length≤9223372036854775807):
  ∃b s e,zcF N l r=some b∧zcY N l r=some b∧zbG N l r=some (s,e)∧zbT N l r=some (s,e)∧s.length≤96:=by
 obtain ⟨b1,p1,p2⟩:=qi8 N (l:=l) (r:=r) (by omega) hl hr
 obtain ⟨b2,r1,r2⟩:=qmV N (l:=l) (r:=r) (by omega) hl hr hnm
 have hb:b1=b2:=Bool.eq_iff_iff.2 (p2.trans r2.symm)
 subst hb
 cases b1 with
 |false=>
  refine ⟨false,[],1,p1,r1, ?_, ?_,by simp⟩
  ·unfold zbG
   rw[p1,qaa,if_pos (by simp)]
  ·unfold zbT
   rw[r1,qaa,if_pos (by simp)]
 |true=>
  have hR:=p2.1 rfl
  have hP:=PlOk.of hR.1
  have hll:=hP.len
  have hrl:r.length≤l.length:=by
   have h1:=qbF (b:=(List.range l.length).map fun (i:Nat)=>(i:Int)) hR.2.2 fun x hx=>by
    unfold elems at hx
    obtain ⟨v,hv,rfl⟩:=List.mem_map.1 hx
    obtain ⟨a,b⟩:=hR.2.1.ok v hv
    exact List.mem_map.2 ⟨v.element.toNat,List.mem_range.2 (by omega),by omega⟩
   simp[elems] at h1
   exact h1
  have hs:=qfb N (by omega) hP hR (by omega)
  have hsl:=qdX l r
  refine ⟨true,qbQ (qaE l r),0,p1,r1,hs, ?_,by rw[qfV];omega⟩
  unfold zbT
  rw[r1,qaa,if_neg (by simp)]
  obtain ⟨s',g1,g2,g3⟩:=qfL N hR.2.1.ok hR.2.2 (by omega) (by omega) r.length N 0 [] (by omega) (by omega) (by simp) (by simp) (by simp[qaE])
  have g1:qjA N l r N [] 0=some s':=g1
  rw[g1,qaa]
  have hlt:=qcA (hR.2.2.sublist (qb4 l r))
  rw[qcJ g2 hlt fun y=>by rw[g3,qcM]]
end Go.W
end
section
set_option linter.unusedVariables false
set_option linter.unusedSimpArgs false
namespace Go.W
open Go.AM
def Nm13 (l:List PlantElement):Prop:=∀x∈l,x.name.length≤13
theorem Nm13.set {l:List PlantElement} (h:Nm13 l) {i:Nat} {x:PlantElement} (hx:x.name.length≤13):Nm13 (l.set i x):=fun y hy=>by
 rcases List.mem_or_eq_of_mem_set hy with hy|hy
 ·exact h y hy
 ·rw[hy];exact hx
end Go.W
end
section
set_option linter.unusedVariables false
set_option linter.unusedSimpArgs false
namespace Go.W
open Go.AM
theorem WayP.inner {l:List PlantElement} {r:List Visit} (h:WayP l r) {i:Nat} {v:Visit} {x:PlantElement} (hv:r[i]? =some v) (hx:l[v.element.toNat]? =some x) (hk:x.kind≠1):v.out∈thrE (qaf x) v.in_:=by
 have hlt:=(List.getElem?_eq_some_iff.1 hv).1
 have two:=h.two
 by_cases h0:i=0
 ·subst h0
  obtain ⟨_,y,hy,hk'⟩:=(h.st v hv).1
  rw[hx] at hy;cases hy;exact absurd hk' hk
 ·by_cases h1:i+1<r.length
  ·have hm:=h.mid i v (by omega) h1 hv
   unfold thr at hm
   have he:=(h.ok v (List.mem_of_getElem? hv)).1
   obtain ⟨j,hj⟩:=Int.eq_ofNat_of_zero_le he
   rw[hj] at hx hm
   rw[Int.toNat_natCast] at hx
   rw[qfx hx] at hm
   exact hm
  ·have e:i=r.length - 1:=by omega
   rw[e] at hv
   obtain ⟨_,y,hy,hk'⟩:=(h.en v hv).1
   rw[hx] at hy;cases hy;exact absurd hk' hk
theorem qcB {x:PlantElement} (hx:qaO x=true) (hk:x.kind=2) {n m:Int} (h:m∈thrE (qaf x) n):x.a≠x.b∧x.a≠x.c∧x.b≠x.c∧((n=x.a∧thrE (qaf x) n=[x.b,x.c]∧(m=x.b∨m=x.c))∨(n=x.b∧m=x.a)∨(n=x.c∧m=x.a)):=by
 have hd:=(qaq hx).1
 have he:qaf x=[x.a,x.b,x.c]:=by unfold qaf;rw[if_neg (by omega),if_pos hk]
 rw[he] at h hd⊢
 simp at hd
 refine ⟨hd.1.1,hd.1.2,hd.2, ?_⟩
 obtain ⟨h1,h2⟩:=qez h
 unfold thrE at h⊢
 rw[if_pos (by simpa using h1)] at h
 rw[if_pos (by simpa using h1)]
 simp only[List.head?_cons,Option.some.injEq,List.tail_cons,List.take_succ_cons,List.take_zero] at h⊢
 by_cases ha:x.a=n
 ·rw[if_pos ha] at h⊢
  simp at h
  exact .inl ⟨ha.symm,rfl,h⟩
 ·rw[if_neg ha] at h
  simp at h h1
  rcases h1 with h1|h1|h1
  ·exact absurd h1.symm ha
  ·exact .inr (.inl ⟨h1,h⟩)
  ·exact .inr (.inr ⟨h1,h⟩)
end Go.W
end
section
namespace Go.W
end Go.W
end
section
set_option linter.unusedVariables false
set_option linter.unusedSimpArgs false
set_option linter.unusedSectionVars false
namespace Go.W
open Go.AM
section
variable {V K:Type} [DecidableEq K]
structure Sr (V K:Type) where
 dead:V→Bool
 fin:V→Bool
 hit:V→Bool
 suc:V→List V
 key:V→K
variable (S:Sr V K)
inductive Rch:V→Prop
 |here {v:V}:S.dead v=false→S.fin v=true→S.hit v=true→Rch v
 |step {v u:V}:S.dead v=false→S.fin v=false→u∈S.suc v→Rch u→Rch v
def Sn (s:List (K×Bool)) (v:V):Prop:=(qae s (S.key v)).getD false=true
instance (s:List (K×Bool)) (v:V):Decidable (Sn S s v):=by unfold Sn;infer_instance
def Cl1 (s:List (K×Bool)) (v:V):Prop:=S.dead v=false∧(S.fin v=true→S.hit v=false)∧(S.fin v=false→∀u∈S.suc v,S.dead u=true∨Sn S s u)
variable {S}
theorem Cl1.mono {s s':List (K×Bool)} {v:V} (h:Cl1 S s v) (hs:∀u,Sn S s u→Sn S s' u):Cl1 S s' v:=⟨h.1,h.2.1,fun hf u hu=>(h.2.2 hf u hu).imp id (hs u)⟩
theorem qeK {α:Type} {p q:α→Bool} (h:∀y,q y=true→p y=true):∀{l:List α},(l.filter q).length≤(l.filter p).length
 |[]=>by simp
 |y::l=>by
  have ih:=qeK h (l:=l)
  rw[List.filter_cons,List.filter_cons]
  cases hy:q y with
  |true=>rw[h y hy];simpa using ih
  |false=>
   cases hy2:p y with
   |true=>simp;omega
   |false=>simpa using ih
theorem filter_lt {α:Type} {p q:α→Bool}:∀{l:List α} {x:α},x∈l→(∀y,q y=true→p y=true)→p x=true→q x=false→(l.filter q).length<(l.filter p).length
 |[],_,h,_,_,_=>by cases h
 |y::l,x,h,hpq,hp,hq=>by
  have hle:(l.filter q).length≤(l.filter p).length:=qeK hpq
  rcases List.mem_cons.1 h with rfl|h
  ·rw[List.filter_cons,List.filter_cons,hp,hq]
   simp only[if_true,List.length_cons]
   exact Nat.lt_succ_of_le hle
  ·have ih:=filter_lt h hpq hp hq
   rw[List.filter_cons,List.filter_cons]
   cases hy:q y with
   |true=>rw[hpq y hy];simpa using ih
   |false=>
    cases hy2:p y with
    |true=>simp;omega
    |false=>simpa using ih
structure Out (S:Sr V K) (U:List V) (s:List (K×Bool)) (b:Bool) (s':List (K×Bool)) (P:Prop) (T:Prop):Prop where
 sub:∀u,Sn S s u→Sn S s' u
 yes:b=true→T
 no:b=false→P∧∀u∈U,Sn S s' u→¬Sn S s u→Cl1 S s' u
theorem Rch.live {v:V} (h:Rch S v):S.dead v=false:=by cases h<;>assumption
end
end Go.W
end
section
set_option linter.unusedVariables false
set_option linter.unusedSimpArgs false
namespace Go.W
open Go.AM
def onwE (x:PlantElement) (p n:Int):List Int:=if x.kind=3∧p=4 then [] else if x.kind=2∧n=x.a∧p=1 then [x.b] else if x.kind=2∧n=x.a∧p=2 then [x.c] else thrE (qaf x) n
def onw (l:List PlantElement) (p:Int→Int) (i n:Int):List Int:=if 0≤i then (match l[i.toNat]? with|some x=>onwE x (p i) n|none=>[]) else []
def vS {K:Type} (l:List PlantElement) (on:List Int) (p:Int→Int) (fi la:Int) (key:Spot→K):Sr Spot K where
 dead:=fun v=>decide (nbr l v.element v.node<0)
 fin:=fun v=>on.contains (nbr l v.element v.node)
 hit:=fun v=>(nbr l v.element v.node !=fi)&&(nbr l v.element v.node !=la)
 suc:=fun v=>(onw l p (nbr l v.element v.node) v.node).map (Spot.mk (nbr l v.element v.node))
 key:=key
def allS (l:List PlantElement):List Spot:=(List.range l.length).flatMap fun (i:Nat)=>(eI l (i:Int)).map fun n=>Spot.mk (i:Int) n
theorem sum3 (l:List PlantElement):∀(k:List Nat),(k.flatMap fun (i:Nat)=>(eI l (i:Int)).map fun n=>Spot.mk (i:Int) n).length≤3*k.length
 |[]=>by simp
 |i::k=>by
  have:=sum3 l k
  have:=qbd l (i:Int)
  rw[List.flatMap_cons,List.length_append,List.length_map,List.length_cons]
  omega
theorem allS_len (l:List PlantElement):(allS l).length≤3*l.length:=by
 have:=sum3 l (List.range l.length)
 rwa [List.length_range] at this
theorem qf4 {l:List PlantElement} {v:Spot}:v∈allS l↔v.node∈eI l v.element:=by
 constructor
 ·intro h
  obtain ⟨i,_,h⟩:=List.mem_flatMap.1 h
  obtain ⟨n,hn,rfl⟩:=List.mem_map.1 h
  exact hn
 ·intro h
  obtain ⟨h0,h1,_⟩:=qaS h
  refine List.mem_flatMap.2 ⟨v.element.toNat,List.mem_range.2 (by omega),List.mem_map.2 ⟨v.node, ?_, ?_⟩⟩
  ·rw[Int.toNat_of_nonneg h0];exact h
  ·rw[Int.toNat_of_nonneg h0]
theorem qlX {l:List PlantElement} {i:Int} {x:PlantElement} (h0:0≤i) (h:l[i.toNat]? =some x):getI l i=some x:=by
 obtain ⟨a,rfl⟩:=Int.eq_ofNat_of_zero_le h0
 exact qac (by simpa using h)
theorem qsD {l:List PlantElement} {i n:Int} (h:0≤nbr l i n):∃x,l[(nbr l i n).toNat]? =some x∧getI l (nbr l i n)=some x∧n∈qaf x∧x∈l:=by
 obtain ⟨h1,_⟩:=qdS h
 obtain ⟨h0,h2,x,hx,hn⟩:=qaS h1
 exact ⟨x,hx,qlX h0 hx,hn,List.mem_of_getElem? hx⟩
theorem qlH {l:List PlantElement} {i:Int} {x:PlantElement} (h0:0≤i) (h:l[i.toNat]? =some x):eI l i=qaf x:=by
 unfold eI;rw[if_pos h0,h]
theorem qn7 {x:PlantElement} {p n m:Int} (h:m∈onwE x p n):m∈qaf x:=by
 unfold onwE at h
 split at h
 ·cases h
 ·split at h
  ·rename_i h1 h2
   have:=List.mem_singleton.1 h
   subst this
   unfold qaf;rw[if_neg (by omega),if_pos h2.1];simp
  ·split at h
   ·rename_i h1 h2 h3
    have:=List.mem_singleton.1 h
    subst this
    unfold qaf;rw[if_neg (by omega),if_pos h3.1];simp
   ·exact (qez h).2
abbrev SpS:=List (Spot×Bool)
abbrev OnM:=List (Int×Bool)
def OnR (m:OnM) (on:List Int):Prop:=∀k,(qae m k).getD false=on.contains k
end Go.W
end
section
set_option linter.unusedVariables false
set_option linter.unusedSimpArgs false
namespace Go.W
open Go.AM
def atP (s:List Setting) (a:Int):Int:=match s.find? (fun y=>y.element==a) with|some y=>y.position|none=>0
def ok1 (l:List PlantElement) (y:Setting):Prop:=0≤y.element∧∃x,l[y.element.toNat]? =some x∧((x.kind=2∧(y.position=1∨y.position=2))∨(x.kind=3∧(y.position=3∨y.position=4)))
def KnP (l:List PlantElement) (s:List Setting):Prop:=∀(i:Nat) (y:Setting),s[i]? =some y→ok1 l y∧∀z∈s.take i,z.element≠y.element
theorem ok1.pos {l:List PlantElement} {y:Setting} (h:ok1 l y):y.position≠0:=by
 obtain ⟨_,x,_,h|h⟩:=h<;>omega
theorem qkc {α:Type} {s:List α} {i:Nat} {z:α}:z∈s.take i↔∃j,j<i∧s[j]? =some z:=by
 constructor
 ·intro h
  obtain ⟨j,hj⟩:=List.getElem?_of_mem h
  rw[List.getElem?_take] at hj
  split at hj
  ·exact ⟨j,‹_›,hj⟩
  ·cases hj
 ·rintro ⟨j,hj,h⟩
  refine List.mem_of_getElem? (i:=j) ?_
  rw[List.getElem?_take,if_pos hj];exact h
instance (l:List PlantElement) (y:Setting):Decidable (ok1 l y):=by
 unfold ok1
 cases h:l[y.element.toNat]? with
 |none=>exact isFalse (by simp)
 |some x=>exact decidable_of_iff (0≤y.element∧((x.kind=2∧(y.position=1∨y.position=2))∨(x.kind=3∧(y.position=3∨y.position=4)))) (by simp)
theorem qhP (N:Nat) {r:List Visit} (hr:r.length≤1000000):∀(k n i:Nat) (m:OnM),k<n→i+k=r.length→OnR m (elems (r.take i))→∃m',qjv N r (r.length:Int) n m i=some m'∧OnR m' (elems r)
 |k,0,i,m,hn,_,_=>by omega
 |0,n+1,i,m,hn,hi,hm=>by
  obtain rfl:i=r.length:=by omega
  rw[qjv,if_neg (dneg (by omega))]
  rw[List.take_length] at hm
  exact ⟨m,rfl,hm⟩
 |k+1,n+1,i,m,hn,hi,hm=>by
  have hv:=qak (xs:=r) (i:=i) (by omega)
  rw[qjv,if_pos (dpos (by omega)),qac hv,qaa,qad,w64s (by omega)]
  refine qhP N hr k n (i+1) _ (by omega) (by omega) fun a=> ?_
  rw[qan,qaW hv]
  unfold elems
  rw[List.map_append,List.contains_eq_mem]
  by_cases ha:r[i].element=a
  ·rw[if_pos ha];simp[ha]
  ·rw[if_neg ha,hm]
   unfold elems
   rw[List.contains_eq_mem]
   have:a≠r[i].element:=fun h=>ha h.symm
   simp[this]
theorem qqu (N:Nat) {r:List Visit} (hr:r.length≤1000000) (hN:r.length<N):∃m,zbC N r=some m∧OnR m (elems r):=by
 unfold zbC
 obtain ⟨m,h1,h2⟩:=qhP N hr r.length N 0 [] hN (by omega) (fun a=>by simp[elems,qae])
 exact ⟨m,by rw[show qjv N r _ N [] 0=_ from h1];rfl,h2⟩
def endR (r:List Visit):Int×Int:=((r[0]?.map Visit.element).getD 0,(r[r.length - 1]?.map Visit.element).getD 0)
end Go.W
end
section
set_option linter.unusedVariables false
set_option linter.unusedSimpArgs false
namespace Go.W
open Go.AM
theorem qwp (N:Nat) {s:List Setting} (hs:s.length≤1000000) (hN:s.length<N) (a:Int):zdR N s a=some (atP s a):=by
 have h:=qar (l:=s) (fun _ y=>y.element==a) (fun _ y=>y.position) (qjM N s a) (fun n=>by
  rw[qjM,if_neg (dneg (by omega))]) (fun n i y hy=>by
  have hlt:=(List.getElem?_eq_some_iff.1 hy).1
  rw[qjM,if_pos (dpos (by omega)),qac hy,qaa,qaa,qad,w64s (by omega)]) s.length N 0 hN (by omega)
 have hr:∀(q:List Setting) (i:Nat),res (fun _ y=>y.element==a) (fun _ (y:Setting)=>y.position) i q=match q.find? (fun y=>y.element==a) with|some y=> .inr y.position|none=> .inl ():=by
  intro q
  induction q with
  |nil=>intro i;rfl
  |cons y q ih=>
   intro i
   rw[res,List.find?_cons]
   cases hy:(y.element==a) with
   |true=>rfl
   |false=>simpa using ih (i+1)
 unfold zdR
 rw[show qjM N s a N 0=_ from h,qaa,List.drop_zero,hr]
 unfold atP
 cases s.find? (fun y=>y.element==a)<;>rfl
abbrev SpR:=List (A2_int×Bool)
end Go.W
end
section
set_option linter.unusedVariables false
set_option linter.unusedSimpArgs false
namespace Go.W
open Go.AM
theorem qor (N:Nat) {s:List Setting} {x:Setting} (hl:s.length≤100000) (hN:s.length<N) (hs:s.Pairwise fun a b=>a.element<b.element) {y:Setting} (hy:y∈s) (he:y.element=x.element):zdP N s x=some s:=by
 obtain ⟨i,h1,h2,h3,h4⟩:=qgL N (s:=s) (x:=x) hl s.length N hN (Nat.le_refl _) (fun j y hj hy=>by
  have:=(List.getElem?_eq_some_iff.1 hy).1
  omega)
 obtain ⟨j,hj⟩:=List.getElem?_of_mem hy
 obtain ⟨hjl,hje⟩:=List.getElem?_eq_some_iff.1 hj
 have hij:i≤j:=by
  refine Nat.le_of_not_lt fun hlt=> ?_
  have hi1:=qak (xs:=s) (i:=i - 1) (by omega)
  have hb:=h4 _ (by omega) hi1
  by_cases hji:j=i - 1
  ·rw[hji,hi1] at hj
   have hj:=Option.some.inj hj
   rw[hj] at hb;omega
  ·have:=List.pairwise_iff_getElem.1 hs j (i - 1) hjl (by omega) (by omega)
   rw[hje] at this
   omega
 have hv:=qak (xs:=s) (i:=i) (by omega)
 have hge:=h3 i _ (Nat.le_refl _) hv
 have hle:s[i].element=x.element:=by
  by_cases h:i=j
  ·subst h
   rw[hv] at hj
   have hj:=Option.some.inj hj
   rw[hj];exact he
  ·have:=List.pairwise_iff_getElem.1 hs i j (by omega) hjl (by omega)
   rw[hje] at this
   omega
 unfold zdP
 rw[qad,h1,qaa]
 have hp2:qlo N s x i=some true:=by
  unfold qlo
  rw[if_pos (dpos (by omega)),qac hv,qaa]
  simp[hle]
 rw[hp2,qaa,if_pos rfl]
abbrev OutM:=List (Int×Int)
structure OutOk (l:List PlantElement) (on:List Int) (out:OutM):Prop where
 nd:(out.map Prod.fst).Nodup
 ok:∀i p,qae out i=some p→0≤i∧i∉on∧∃x,l[i.toNat]? =some x∧((x.kind=2∧(p=1∨p=2))∨(x.kind=3∧p=4))
structure NeedR (out:OutM) (need:List Setting):Prop where
 lt:need.Pairwise fun a b=>a.element<b.element
 mem:∀y,y∈need↔qae out y.element=some y.position
theorem qmT {s:List Setting} (hs:s.Pairwise fun a b=>a.element<b.element) {y z:Setting} (hy:y∈s) (hz:z∈s) (he:y.element=z.element):y=z:=by
 obtain ⟨i,hi⟩:=List.getElem?_of_mem hy
 obtain ⟨j,hj⟩:=List.getElem?_of_mem hz
 obtain ⟨hil,hie⟩:=List.getElem?_eq_some_iff.1 hi
 obtain ⟨hjl,hje⟩:=List.getElem?_eq_some_iff.1 hj
 rcases Nat.lt_trichotomy i j with h|h|h
 ·have:=List.pairwise_iff_getElem.1 hs i j hil hjl h
  rw[hie,hje] at this;omega
 ·subst h;rw[hi] at hj;cases hj;rfl
 ·have:=List.pairwise_iff_getElem.1 hs j i hjl hil h
  rw[hie,hje] at this;omega
theorem qsU {s:List Setting} (hs:s.Pairwise fun a b=>a.element<b.element) {n:Nat} (h:∀y∈s,0≤y.element∧y.element<n):s.length≤n:=by
 have hnd:(s.map Setting.element).Nodup:=by
  unfold List.Nodup
  rw[List.pairwise_map]
  exact hs.imp fun h he=>by omega
 have:=qbF (b:=(List.range n).map fun (i:Nat)=>(i:Int)) hnd fun a ha=>by
  obtain ⟨y,hy,rfl⟩:=List.mem_map.1 ha
  have:=h y hy
  exact List.mem_map.2 ⟨y.element.toNat,List.mem_range.2 (by omega),by omega⟩
 simpa using this
theorem NeedR.at {l:List PlantElement} {on:List Int} {out:OutM} {need:List Setting} (h:NeedR out need) (ho:OutOk l on out) (i:Int):atP need i=(qae out i).getD 0:=by
 unfold atP
 cases hf:need.find? (fun y=>y.element==i) with
 |none=>
  cases hg:qae out i with
  |none=>rfl
  |some p=>
   have:Setting.mk i p∈need:=(h.mem _).2 hg
   have:=List.find?_eq_none.1 hf _ this
   simp at this
 |some y=>
  have h1:=List.mem_of_find?_eq_some hf
  have h2:=List.find?_some hf
  have h2:y.element=i:=by simpa using h2
  have:=(h.mem y).1 h1
  rw[h2] at this
  rw[this];rfl
theorem OutOk.len {l:List PlantElement} {on:List Int} {out:OutM} {need:List Setting} (ho:OutOk l on out) (h:NeedR out need):need.length≤l.length:=qsU h.lt fun y hy=>by
 obtain ⟨h0,_,x,hx,_⟩:=ho.ok _ _ ((h.mem y).1 hy)
 have:=(List.getElem?_eq_some_iff.1 hx).1
 omega
theorem qh5 {α β:Type} [DecidableEq α]:∀{m:List (α×β)} {k:α} {v:β},(m.map Prod.fst).Nodup→((qao m k v).map Prod.fst).Nodup∧∀a,a∈(qao m k v).map Prod.fst→a=k∨a∈m.map Prod.fst
 |[],k,v,_=>by simp[qao]
 |p::m,k,v,h=>by
  rw[List.map_cons,List.nodup_cons] at h
  simp only[qao]
  by_cases hk:p.1=k
  ·rw[if_pos hk]
   rw[List.map_cons,List.nodup_cons]
   exact ⟨h,fun a ha=> .inr ha⟩
  ·rw[if_neg hk,List.map_cons,List.nodup_cons]
   obtain ⟨h1,h2⟩:=qh5 (k:=k) (v:=v) h.2
   refine ⟨⟨fun hh=> ?_,h1⟩,fun a ha=> ?_⟩
   ·rcases h2 _ hh with h3|h3
    ·exact hk h3
    ·exact h.1 h3
   ·rcases List.mem_cons.1 ha with h3|h3
    ·exact .inr (by rw[h3];simp)
    ·rcases h2 _ h3 with h4|h4
     ·exact .inl h4
     ·exact .inr (by simp[h4])
theorem qqU (N:Nat) (hN:3000≤N) {l:List PlantElement} (hl:l.length≤96) {on:List Int} {out:OutM} {need:List Setting} (ho:OutOk l on out) (hn:NeedR out need) {i p:Int} {x:PlantElement} (h0:0≤i) (hon:i∉on) (hx:l[i.toNat]? =some x) (hp:(x.kind=2∧(p=1∨p=2))∨(x.kind=3∧p=4)):
  (zaS N i p out=some (17,out)∧atP need i≠0∧atP need i≠p)∨
  (∃need',zaS N i p out=some (0,qao out i p)∧(atP need i=0∨atP need i=p)∧zdP N need (Setting.mk i p)=some need'∧OutOk l on (qao out i p)∧NeedR (qao out i p) need'∧∀j q,qae out j=some q→qae (qao out i p) j=some q):=by
 have hat:=hn.at ho i
 have hlen:=ho.len hn
 have e0:qoP N p ((qae out i).getD 0) (qae out i).isSome=some (decide (∃q,qae out i=some q∧q≠p)):=by
  unfold qoP
  cases hg:qae out i with
  |none=>simp
  |some q=>
   simp only[Option.isSome_some,if_true,Option.getD_some]
   congr 1
   rw[Bool.eq_iff_iff]
   simp
 unfold zaS
 rw[qad,qad,e0,qaa]
 by_cases hc:∃q,qae out i=some q∧q≠p
 ·rw[if_pos (by simpa using hc)]
  obtain ⟨q,hq,hqp⟩:=hc
  have hq0:q≠0:=by
   obtain ⟨_,_,y,_,h|h⟩:=ho.ok i q hq<;>omega
  refine .inl ⟨rfl, ?_, ?_⟩
  ·rw[hat,hq];exact hq0
  ·rw[hat,hq];exact hqp
 ·rw[if_neg (by simpa using hc),qad]
  have hmono:∀j q,qae out j=some q→qae (qao out i p) j=some q:=fun j q hj=>by
   rw[qan]
   by_cases h:i=j
   ·subst h
    have hqp:q=p:=Decidable.byContradiction fun hqp=>hc ⟨q,hj,hqp⟩
    rw[if_pos rfl,hqp]
   ·rw[if_neg h];exact hj
  have hout:OutOk l on (qao out i p):=by
   refine ⟨(qh5 ho.nd).1,fun j q hj=> ?_⟩
   rw[qan] at hj
   split at hj
   ·rename_i h;subst h;cases hj;exact ⟨h0,hon,x,hx,hp⟩
   ·exact ho.ok j q hj
  cases hg:qae out i with
  |none=>
   have hnew:∀y∈need,y.element≠(Setting.mk i p).element:=fun y hy he=>by
    have:=(hn.mem y).1 hy
    rw[show y.element=i from he,hg] at this
    cases this
   obtain ⟨need',h1,h2,h3,h4⟩:=qmS N (by omega) (by omega) hn.lt hnew
   refine .inr ⟨need',rfl, .inl (by rw[hat,hg];rfl),h1,hout,⟨h2,fun y=> ?_⟩,hmono⟩
   rw[h3,qan]
   constructor
   ·rintro (rfl|hy)
    ·rw[if_pos rfl]
    ·rw[if_neg (fun he=>hnew y hy he.symm)]
     exact (hn.mem y).1 hy
   ·intro h
    split at h
    ·rename_i he
     cases h
     left;cases y;simp only at he;rw[he]
    ·exact .inr ((hn.mem y).2 h)
  |some q=>
   have hqp:q=p:=Decidable.byContradiction fun hqp=>hc ⟨q,hg,hqp⟩
   subst hqp
   have hy:Setting.mk i q∈need:=(hn.mem _).2 hg
   refine .inr ⟨need,rfl, .inr (by rw[hat,hg];rfl),qor N (by omega) (by omega) hn.lt hy rfl,hout,⟨hn.lt,fun y=> ?_⟩,hmono⟩
   rw[hn.mem,qan]
   by_cases h:i=y.element
   ·rw[if_pos h,←h,hg]
   ·rw[if_neg h]
end Go.W
end
section
set_option linter.unusedVariables false
set_option linter.unusedSimpArgs false
namespace Go.W
open Go.AM
def Dng (d:SpS) (v:Spot):Prop:=(qae d v).getD false=true
instance (d:SpS) (v:Spot):Decidable (Dng d v):=by unfold Dng;infer_instance
def Dr (t:SpR) (v:Spot):Prop:=(qae t (A2_int.mk v.element v.node)).getD false=true
instance (t:SpR) (v:Spot):Decidable (Dr t v):=by unfold Dr;infer_instance
def Tr (l:List PlantElement) (on:List Int) (v:Spot):Prop:=nbr l v.element v.node<0∨nbr l v.element v.node∈on
instance (l:List PlantElement) (on:List Int) (v:Spot):Decidable (Tr l on v):=by unfold Tr;infer_instance
def Hn (l:List PlantElement) (on:List Int) (d:SpS) (v:Spot):Prop:=Tr l on v∨Dng d v
structure GR (l:List PlantElement) (on:List Int) (d:SpS) (o:OutM) (t:SpR) (need:List Setting):Prop where
 fwd:∀v,Dng d v→Dr t v
 bwd:∀v,Dr t v→Dng d v∨Tr l on v
 ok:OutOk l on o
 nd:NeedR o need
def GC (l:List PlantElement) (on:List Int) (d:SpS) (o:OutM) (v:Spot):Prop:=
 ¬Tr l on v∧∃x,l[(nbr l v.element v.node).toNat]? =some x∧x.kind≠1∧(x.kind=3→qae o (nbr l v.element v.node)=some 4)∧(x.kind=2→v.node≠x.a→qae o (nbr l v.element v.node)=some (if v.node=x.b then 2 else 1))∧
  (x.kind=2→v.node=x.a→Hn l on d (Spot.mk (nbr l v.element v.node) x.b)∧Hn l on d (Spot.mk (nbr l v.element v.node) x.c))
theorem GC.mono {l:List PlantElement} {on:List Int} {d d':SpS} {o o':OutM} {v:Spot} (h:GC l on d o v) (hd:∀u,Dng d u→Dng d' u) (ho:∀j q,qae o j=some q→qae o' j=some q):GC l on d' o' v:=by
 obtain ⟨h0,x,h1,h2,h3,h4,h5⟩:=h
 exact ⟨h0,x,h1,h2,fun hk=>ho _ _ (h3 hk),fun hk ha=>ho _ _ (h4 hk ha),fun hk ha=>⟨(h5 hk ha).1.imp id (hd _),(h5 hk ha).2.imp id (hd _)⟩⟩
structure GOut (l:List PlantElement) (on:List Int) (d:SpS) (o:OutM) (d':SpS) (o':OutM):Prop where
 sub:∀u,Dng d u→Dng d' u
 mono:∀j q,qae o j=some q→qae o' j=some q
 clo:∀u,Dng d' u→¬Dng d u→GC l on d' o' u
theorem GOut.refl {l:List PlantElement} {on:List Int} (d:SpS) (o:OutM):GOut l on d o d o:=⟨fun _ h=>h,fun _ _ h=>h,fun u h1 h2=>absurd h1 h2⟩
theorem GOut.trans {l:List PlantElement} {on:List Int} {d d1 d2:SpS} {o o1 o2:OutM} (h:GOut l on d o d1 o1) (k:GOut l on d1 o1 d2 o2):GOut l on d o d2 o2:=
 ⟨fun u hu=>k.sub u (h.sub u hu),fun j q hq=>k.mono j q (h.mono j q hq),fun u h1 h2=>by
  by_cases h3:Dng d1 u
  ·exact (h.clo u h3 h2).mono k.sub k.mono
  ·exact k.clo u h1 h3⟩
theorem qd3 {d:SpS} {v u:Spot}:Dng (qao d v true) u↔(v=u∨Dng d u):=by
 unfold Dng
 rw[qan]
 by_cases h:v=u<;>simp[h]
theorem qhO {t:SpR} {v u:Spot}:Dr (qao t (A2_int.mk v.element v.node) true) u↔(v=u∨Dr t u):=by
 unfold Dr
 rw[qan]
 have:A2_int.mk v.element v.node=A2_int.mk u.element u.node↔v=u:=by
  cases v;cases u;simp
 by_cases h:v=u
 ·rw[if_pos (this.2 h)];simp[h]
 ·rw[if_neg (fun hh=>h (this.1 hh))];simp[h]
theorem qqN {x:PlantElement} (h:qaO x=true):x.kind=1∨x.kind=2∨x.kind=3:=by
 have:=(qaq h).2.2.1
 unfold qaf at this
 split at this
 ·rename_i h;rcases h with h|h<;>simp[h]
 ·split at this
  ·rename_i h;simp[h]
  ·exact absurd rfl this
def lfD (l:List PlantElement) (d:SpS):Nat:=((allS l).filter fun u=> !decide (Dng d u)).length
theorem qnU {l:List PlantElement} {d d':SpS} (h:∀u,Dng d u→Dng d' u):lfD l d'≤lfD l d:=by
 unfold lfD
 refine qeK fun u hu=> ?_
 simp only[Bool.not_eq_true',decide_eq_false_iff_not] at hu⊢
 exact fun hh=>hu (h u hh)
theorem qqO {l:List PlantElement} {d:SpS} {v:Spot} (hv:v∈allS l) (hn:¬Dng d v):lfD l (qao d v true)<lfD l d:=by
 unfold lfD
 refine filter_lt hv (fun u hu=> ?_) (by simpa using hn) ?_
 ·simp only[Bool.not_eq_true',decide_eq_false_iff_not] at hu⊢
  exact fun h=>hu (qd3.2 (.inr h))
 ·simp only[Bool.not_eq_false',decide_eq_true_eq]
  exact qd3.2 (.inl rfl)
theorem qsx (l:List PlantElement) (hl:l.length≤96) (d:SpS):lfD l d≤288:=by
 have h1:=allS_len l
 have h2:=List.length_filter_le (fun u=> !decide (Dng d u)) (allS l)
 unfold lfD
 omega
def pG (N rc:Nat) (l:List PlantElement) (onm:OnM) (v:Spot) (d:SpS) (o:OutM):Option (Int×SpS×OutM):=zaT N rc v l [] [] d onm [] o
def rG (N rc:Nat) (l:List PlantElement) (r:List Visit) (need:List Setting) (v:Spot) (t:SpR):Option (Int×Guardian×SpR):=zaU N rc (Guardian.mk l r need []) v.element v.node t
def Both (l:List PlantElement) (r:List Visit) (d:SpS) (o:OutM) (v:Spot) (p:Option (Int×SpS×OutM)) (q:Option (Int×Guardian×SpR)):Prop:=
 (∃e d' o' g t',e≠0∧p=some (e,d',o')∧q=some (e,g,t'))∨
 (∃d' o' t' need',p=some (0,d',o')∧q=some (0,Guardian.mk l r need' [],t')∧GR l (elems r) d' o' t' need'∧GOut l (elems r) d o d' o'∧Hn l (elems r) d' v)
theorem qwr (N:Nat) (self:Guardian→Int→Int→SpR→Option (Int×Guardian×SpR)) (p a:Int):qnv N self p a=some (decide (a≠0∧a≠p)):=by
 unfold qnv
 by_cases h:a=0
 ·rw[if_neg (by simpa using h)];simp[h]
 ·rw[if_pos (by simpa using h)];congr 1;rw[Bool.eq_iff_iff];simp[h]
theorem grd (N:Nat) (hN:3000≤N) {l:List PlantElement} (hP:PlOk l) {r:List Visit} (hr:r.length≤1000) {onm:OnM} (hon:OnR onm (elems r)):
  ∀(rc:Nat) (v:Spot) (d:SpS) (o:OutM) (t:SpR) (need:List Setting),v∈allS l→GR l (elems r) d o t need→lfD l d<rc→Both l r d o v (pG N rc l onm v d o) (rG N rc l r need v t)
 |0,_,_,_,_,_,_,_,h=>by omega
 |rc+1,v,d,o,t,need,hv,hG,hlf=>by
  have hl:=hP.len
  unfold pG rG
  rw[zaT,zaU,qgI N (by omega) (by omega),qaa,qad]
  have e0:qoQ N (zaT N rc) v (nbr l v.element v.node) d onm=some (decide (Dng d v∨Tr l (elems r) v)):=by
   unfold qoQ
   rw[qad]
   by_cases h:(qae d v).getD false=true
   ·rw[if_pos h];simp[Dng,h]
   ·rw[if_neg h]
    by_cases h2:nbr l v.element v.node<0
    ·rw[if_pos (dpos h2)];simp[Tr,h2]
    ·rw[if_neg (dneg h2),qad,hon,List.contains_eq_mem]
     congr 1;rw[Bool.eq_iff_iff];simp[Dng,Tr,h,h2]
  rw[e0,qaa]
  by_cases c:Dng d v∨Tr l (elems r) v
  ·rw[if_pos (by simpa using c),qad]
   by_cases hs:(qae t (A2_int.mk v.element v.node)).getD false=true
   ·rw[if_pos hs]
    exact .inr ⟨d,o,t,need,rfl,rfl,hG, .refl d o,c.symm⟩
   ·rw[if_neg hs,qad]
    dsimp only
    rw[qc1 N (by omega) (by omega),qaa]
    have hT:Tr l (elems r) v:=c.resolve_left fun h=>hs (hG.fwd v h)
    have e1:qlc N (zaU N rc) (Guardian.mk l r need []) (nbr l v.element v.node)=some true:=by
     unfold qlc
     by_cases h2:nbr l v.element v.node<0
     ·rw[if_pos (dpos h2)]
     ·rw[if_neg (dneg h2)]
      dsimp only
      rw[qbU N (by omega) (by omega),qaa,List.contains_eq_mem]
      have:=hT.resolve_left h2
      simp[this]
    rw[e1,qaa,if_pos rfl]
    refine .inr ⟨d,o,_,need,rfl,rfl,⟨fun u hu=>qhO.2 (.inr (hG.fwd u hu)),fun u hu=> ?_,hG.ok,hG.nd⟩, .refl d o, .inl hT⟩
    rcases qhO.1 hu with h|h
    ·subst h;exact .inr hT
    ·exact hG.bwd u h
  ·rw[if_neg (by simpa using c)]
   have hnd:¬Dng d v:=fun h=>c (.inl h)
   have hnt:¬Tr l (elems r) v:=fun h=>c (.inr h)
   have hns:¬(qae t (A2_int.mk v.element v.node)).getD false=true:=fun h=>c (hG.bwd v h)
   have h0:0≤nbr l v.element v.node:=by unfold Tr at hnt;omega
   have hno:nbr l v.element v.node∉elems r:=fun h=>hnt (.inr h)
   rw[qad,if_neg hns,qad]
   dsimp only
   rw[qc1 N (by omega) (by omega),qaa]
   have e1:qlc N (zaU N rc) (Guardian.mk l r need []) (nbr l v.element v.node)=some false:=by
    unfold qlc
    rw[if_neg (dneg (by omega))]
    dsimp only
    rw[qbU N (by omega) (by omega),qaa,List.contains_eq_mem]
    simp[hno]
   obtain ⟨x,hx,hxI,hnx,hxm⟩:=qsD h0
   rw[e1,qaa,if_neg (by simp),hxI,qaa,qaa,qad]
   obtain ⟨d0,hd0⟩:∃d0,d0=qao d v true:=⟨_,rfl⟩
   obtain ⟨t0,ht0⟩:∃t0,t0=qao t (A2_int.mk v.element v.node) true:=⟨_,rfl⟩
   rw[←hd0,←ht0]
   have hsub0:∀u,Dng d u→Dng d0 u:=fun u hu=>by rw[hd0];exact qd3.2 (.inr hu)
   have hv0:Dng d0 v:=by rw[hd0];exact qd3.2 (.inl rfl)
   have hnew:∀u,Dng d0 u→¬Dng d u→u=v:=fun u h1 h2=>by
    rw[hd0] at h1
    rcases qd3.1 h1 with h|h
    ·exact h.symm
    ·exact absurd h h2
   have hG0:∀{o' need'},OutOk l (elems r) o'→NeedR o' need'→GR l (elems r) d0 o' t0 need':=fun h1 h2=>by
    refine ⟨fun u hu=> ?_,fun u hu=> ?_,h1,h2⟩
    ·rw[hd0] at hu;rw[ht0]
     rcases qd3.1 hu with h|h
     ·exact qhO.2 (.inl h)
     ·exact qhO.2 (.inr (hG.fwd u h))
    ·rw[ht0] at hu;rw[hd0]
     rcases qhO.1 hu with h|h
     ·exact .inl (qd3.2 (.inl h))
     ·exact (hG.bwd u h).imp (fun h=>qd3.2 (.inr h)) id
   have hlf0:lfD l d0<rc:=by
    have:=qqO hv hnd
    rw[←hd0] at this
    omega
   have hsnd:=hP.snd x hxm
   have step:∀p,((x.kind=2∧(p=1∨p=2))∨(x.kind=3∧p=4))→x.kind≠1→(x.kind=3→p=4)→(x.kind=2→v.node≠x.a∧p=if v.node=x.b then 2 else 1)→
     ∀q,(q=Option.bind (zdR N need (nbr l v.element v.node)) fun y17=>Option.bind (qnv N (zaU N rc) p y17) fun y18=>if y18=true then some (17,Guardian.mk l r need [],t0) else Option.bind (zdP N need (Setting.mk (nbr l v.element v.node) p)) fun y19=>some (0,Guardian.mk l r y19 [],t0))→
     Both l r d o v (Option.bind (zaS N (nbr l v.element v.node) p o) fun y9=>some (y9.1,d0,y9.2)) q:=by
    intro p hp hk1 hk3 hk2 q hq
    have hnl:=hG.ok.len hG.nd
    rw[hq,qwp N (by omega) (by omega),qaa,qwr,qaa]
    rcases qqU N hN hl hG.ok hG.nd h0 hno hx hp with ⟨g1,g2,g3⟩|⟨need',g1,g2,g3,g4,g5,g6⟩
    ·rw[g1,qaa,if_pos (by simpa using ⟨g2,g3⟩)]
     exact .inl ⟨17,_,_,_,_,by omega,rfl,rfl⟩
    ·rw[g1,qaa,if_neg (by rw[decide_eq_true_eq];rintro ⟨h1,h2⟩;rcases g2 with h|h;exact h1 h;exact h2 h),g3,qaa]
     refine .inr ⟨d0,_,t0,need',rfl,rfl,hG0 g4 g5,⟨hsub0,g6,fun u h1 h2=> ?_⟩, .inr hv0⟩
     rw[hnew u h1 h2]
     refine ⟨hnt,x,hx,hk1,fun hk=> ?_,fun hk ha=> ?_,fun hk ha=>absurd ha (hk2 hk).1⟩
     ·rw[qan,if_pos rfl,hk3 hk]
     ·rw[qan,if_pos rfl,(hk2 hk).2]
   rcases qqN hsnd with hk|hk|hk
   ·rw[if_pos (by simpa using hk)]
    unfold qld
    rw[qad,if_pos (by simpa using hk),qaa]
    exact .inl ⟨22,_,_,_,_,by omega,rfl,rfl⟩
   ·rw[if_neg (by simp[hk]),qad,if_neg (by simp[hk]),qad]
    have e2:qnt N (zaU N rc) v.node x=some (decide (v.node=x.a)):=by
     unfold qnt
     rw[if_pos (by simpa using hk),qad];congr 1
    have e3:qnu N (zaU N rc) v.node x=some (decide (v.node=x.b)):=by
     unfold qnu
     rw[if_pos (by simpa using hk),qad];congr 1
    by_cases ha:v.node=x.a
    ·rw[if_neg (by simpa using ha)]
     unfold qld
     rw[qad,if_neg (by simp[hk]),e2,qaa,if_pos (by simpa using ha)]
     have he:qaf x=[x.a,x.b,x.c]:=by unfold qaf;rw[if_neg (by omega),if_pos hk]
     have hub:Spot.mk (nbr l v.element v.node) x.b∈allS l:=by rw[qf4];show x.b∈eI l (nbr l v.element v.node);rw[qlH h0 hx,he];simp
     have huc:Spot.mk (nbr l v.element v.node) x.c∈allS l:=by rw[qf4];show x.c∈eI l (nbr l v.element v.node);rw[qlH h0 hx,he];simp
     rcases grd N hN hP hr hon rc _ d0 o t0 need hub (hG0 hG.ok hG.nd) hlf0 with ⟨e,d',o',g,t',h1,h2,h3⟩|⟨d1,o1,t1,need1,h2,h3,h4,h5,h6⟩
     ·unfold pG at h2
      unfold rG at h3
      simp only at h2 h3
      rw[h2,h3,qaa,qaa,if_pos (by simpa using h1),if_pos (by simpa using h1),qaa]
      exact .inl ⟨e,_,_,_,_,h1,rfl,rfl⟩
     ·unfold pG at h2
      unfold rG at h3
      simp only at h2 h3
      rw[h2,h3,qaa,qaa,if_neg (by simp),if_neg (by simp)]
      dsimp only
      rcases grd N hN hP hr hon rc _ d1 o1 t1 need1 huc h4 (Nat.lt_of_le_of_lt (qnU h5.sub) hlf0) with ⟨e,d',o',g,t',k1,k2,k3⟩|⟨d2,o2,t2,need2,k2,k3,k4,k5,k6⟩
      ·unfold pG at k2
       unfold rG at k3
       simp only at k2 k3
       rw[k2,k3,qaa,qaa,qaa]
       exact .inl ⟨e,_,_,_,_,k1,rfl,rfl⟩
      ·unfold pG at k2
       unfold rG at k3
       simp only at k2 k3
       rw[k2,k3,qaa,qaa,qaa]
       have h12:=h5.trans k5
       refine .inr ⟨d2,o2,t2,need2,rfl,rfl,k4,⟨fun u hu=>h12.sub u (hsub0 u hu),h12.mono,fun u a1 a2=> ?_⟩, .inr (h12.sub v hv0)⟩
       by_cases a3:Dng d0 u
       ·rw[hnew u a3 a2]
        refine ⟨hnt,x,hx,by omega,fun h=>by omega,fun _ h=>absurd ha h,fun _ _=>⟨h6.imp id (k5.sub _),k6⟩⟩
       ·exact h12.clo u a1 a3
    ·rw[if_pos (by simpa using ha)]
     unfold qld
     rw[qad,if_neg (c:=(x.kind==1)=true) (by simp[hk]),e2,qaa,if_neg (c:=decide (v.node=x.a)=true) (by simpa using ha),e3,qaa]
     unfold zcL
     by_cases hb:v.node=x.b
     ·rw[if_pos (by simpa using hb),if_pos (by simpa using hb),qaa,qaa]
      exact step 2 (.inl ⟨hk, .inr rfl⟩) (by omega) (by omega) (fun _=>⟨ha,by rw[if_pos hb]⟩) _ rfl
     ·rw[if_neg (by simpa using hb),if_neg (by simpa using hb),qaa,qad,if_pos (by simpa using hk),qaa]
      exact step 1 (.inl ⟨hk, .inl rfl⟩) (by omega) (by omega) (fun _=>⟨ha,by rw[if_neg hb]⟩) _ rfl
   ·rw[if_neg (by simp[hk]),qad,if_pos (by simpa using hk)]
    unfold qld qnt qnu
    rw[qad,if_neg (by simp[hk]),if_neg (by simp[hk]),qaa,if_neg (by simp),if_neg (by simp[hk]),qaa,if_neg (by simp),qad,if_neg (by simp[hk]),qaa]
    exact step 4 (.inr ⟨hk,rfl⟩) (by omega) (fun _=>rfl) (fun h=>by omega) _ rfl
end Go.W
end
section
set_option linter.unusedVariables false
set_option linter.unusedSimpArgs false
namespace Go.W
open Go.AM
def qfg (x:PlantElement) (v:Visit):Int:=if v.in_=x.b∨v.out=x.b then x.c else x.b
theorem qoj (N:Nat) (x:PlantElement) (v:Visit):zcM N x v=some (qfg x v):=by
 have h:qo9 N x v=some (decide (v.in_=x.b∨v.out=x.b)):=by
  unfold qo9
  by_cases h:v.in_=x.b
  ·rw[if_pos (by simpa using h)];simp[h]
  ·rw[if_neg (by simpa using h)];congr 1;rw[Bool.eq_iff_iff];simp[h]
 unfold zcM qfg
 rw[h,qaa]
 by_cases h:v.in_=x.b∨v.out=x.b
 ·rw[if_pos (by simpa using h),if_pos h]
 ·rw[if_neg (by simpa using h),if_neg h]
structure NI (l:List PlantElement) (r:List Visit) (i:Nat) (d:SpS) (o:OutM):Prop where
 clo:∀u,Dng d u→GC l (elems r) d o u
 han:∀v∈r.take i,∀x,l[v.element.toNat]? =some x→x.kind=2→Hn l (elems r) d (Spot.mk v.element (qfg x v))
theorem qdT (N:Nat) (hN:3000≤N) {l:List PlantElement} (hP:PlOk l) {r:List Visit} (hr:r.length≤1000) (hrv:∀v∈r,0≤v.element∧v.element<l.length) {onm:OnM} (hon:OnR onm (elems r)):
  ∀(k n i:Nat) (d:SpS) (o:OutM) (t:SpR) (need:List Setting),k<n→i+k=r.length→GR l (elems r) d o t need→NI l r i d o→
  (∃e,e≠0∧qhm N l r (r.length:Int) onm n [] i o [] d=some (.inr e)∧qho N l r n (Guardian.mk l r need []) i t=some (.inr e))∨
  (∃d' o' t' need',qhm N l r (r.length:Int) onm n [] i o [] d=some (.inl ([],o'))∧qho N l r n (Guardian.mk l r need []) i t=some (.inl (Guardian.mk l r need' [],t'))∧GR l (elems r) d' o' t' need'∧NI l r r.length d' o')
 |k,0,i,d,o,t,need,hn,_,_,_=>by omega
 |0,n+1,i,d,o,t,need,hn,hi,hG,hI=>by
  obtain rfl:i=r.length:=by omega
  rw[qhm,if_neg (dneg (by omega)),qho,if_neg (dneg (by omega))]
  exact .inr ⟨d,o,t,need,rfl,rfl,hG,hI⟩
 |k+1,n+1,i,d,o,t,need,hn,hi,hG,hI=>by
  have hl:=hP.len
  have hv:=qak (xs:=r) (i:=i) (by omega)
  obtain ⟨v,hve⟩:∃v,v=r[i]:=⟨_,rfl⟩
  rw[←hve] at hv
  have hvm:=List.mem_of_getElem? hv
  obtain ⟨h0,h1⟩:=hrv v hvm
  obtain ⟨a,ha⟩:=Int.eq_ofNat_of_zero_le h0
  have hx:=qak (xs:=l) (i:=a) (by omega)
  obtain ⟨x,hxe⟩:∃x,x=l[a]:=⟨_,rfl⟩
  rw[←hxe] at hx
  have hx':l[v.element.toNat]? =some x:=by rw[ha,Int.toNat_natCast];exact hx
  have hxI:=qlX h0 hx'
  have htk:∀u,u∈r.take (i+1)↔u∈r.take i∨u=v:=fun u=>by rw[qaW hv];simp
  rw[qhm,if_pos (dpos (by omega)),qho,if_pos (dpos (by omega))]
  unfold qrI qrJ
  rw[qac hv,qaa,hxI,qaa,qaa,hxI,qaa]
  by_cases hk:x.kind=2
  ·rw[if_pos (by simpa using hk),if_neg (by simp[hk]),qoj,qaa,qaa,qnb N hxI,qaa]
   have hp:posE x v=if v.in_=x.b∨v.out=x.b then 1 else 2:=by unfold posE;rw[if_neg (by omega),if_pos hk]
   have h2:qo6 N x x.b (posE x v==1)=some (qfg x v):=by
    unfold qo6 qfg
    by_cases h:v.in_=x.b∨v.out=x.b
    ·rw[if_pos (by rw[hp,if_pos h];rfl),if_pos h]
    ·rw[if_neg (by rw[hp,if_neg h];decide),if_neg h]
   rw[h2,qaa,qaa]
   have he:qaf x=[x.a,x.b,x.c]:=by unfold qaf;rw[if_neg (by omega),if_pos hk]
   have hvs:Spot.mk v.element (qfg x v)∈allS l:=by
    rw[qf4]
    show qfg x v∈eI l v.element
    rw[qlH h0 hx',he]
    unfold qfg
    split<;>simp
   rcases grd N hN hP hr hon N _ d o t need hvs hG (by have:=qsx l hl d;omega) with ⟨e,d',o',g,t',k1,k2,k3⟩|⟨d1,o1,t1,need1,k2,k3,k4,k5,k6⟩
   ·unfold pG at k2
    unfold rG at k3
    simp only at k2 k3
    rw[k2,k3,qaa,qaa,if_pos (by simpa using k1),if_pos (by simpa using k1),qaa,qaa]
    exact .inl ⟨e,k1,rfl,rfl⟩
   ·unfold pG at k2
    unfold rG at k3
    simp only at k2 k3
    rw[k2,k3,qaa,qaa,if_neg (by simp),if_neg (by simp),qaa,qaa]
    dsimp only
    rw[w64s (by omega),qad]
    refine qdT N hN hP hr hrv hon k n (i+1) d1 o1 t1 need1 (by omega) (by omega) k4 ⟨fun u hu=> ?_,fun u hu y hy hky=> ?_⟩
    ·by_cases h:Dng d u
     ·exact (hI.clo u h).mono k5.sub k5.mono
     ·exact k5.clo u hu h
    ·rcases (htk u).1 hu with hu|rfl
     ·exact (hI.han u hu y hy hky).imp id (k5.sub _)
     ·rw[hx'] at hy;cases hy;exact k6
  ·rw[if_neg (by simpa using hk),if_pos (by simpa using hk),qaa,qaa]
   dsimp only
   rw[w64s (by omega),qad]
   refine qdT N hN hP hr hrv hon k n (i+1) d o t need (by omega) (by omega) hG ⟨hI.clo,fun u hu y hy hky=> ?_⟩
   rcases (htk u).1 hu with hu|rfl
   ·exact hI.han u hu y hy hky
   ·rw[hx'] at hy;cases hy;exact absurd hky hk
structure PrP (l:List PlantElement) (r:List Visit) (s:List Setting) (d:SpS) (o:OutM):Prop where
 lt:s.Pairwise fun a b=>a.element<b.element
 mem:∀y,y∈s↔y∈qaE l r∨qae o y.element=some y.position
 ok:OutOk l (elems r) o
 ni:NI l r r.length d o
theorem qkp (N:Nat) (hN:3000≤N) {g:Guardian} (hl:g.need.length≤1000) (hlt:g.need.Pairwise fun a b=>a.element<b.element):∀(k n i:Nat) (s:List Setting),k<n→i+k=g.need.length→s.length≤1000+i→(s.Pairwise fun a b=>a.element<b.element)→(∀y∈s,∀z∈g.need.drop i,y.element≠z.element)→
  ∃s',qjB N g n s i=some s'∧(s'.Pairwise fun a b=>a.element<b.element)∧∀y,y∈s'↔y∈s∨y∈g.need.drop i
 |k,0,i,s,hn,_,_,_,_=>by omega
 |0,n+1,i,s,hn,hi,hs,hp,hd=>by
  obtain rfl:i=g.need.length:=by omega
  rw[qjB,if_neg (dneg (by omega))]
  exact ⟨s,rfl,hp,fun y=>by rw[List.drop_length];simp⟩
 |k+1,n+1,i,s,hn,hi,hs,hp,hd=>by
  have hv:=qak (xs:=g.need) (i:=i) (by omega)
  obtain ⟨v,hve⟩:∃v,v=g.need[i]:=⟨_,rfl⟩
  rw[←hve] at hv
  have hdr:g.need.drop i=v::g.need.drop (i+1):=qaF hv
  rw[hdr] at hd
  obtain ⟨s1,h1,h2,h3,h4⟩:=qmS N (s:=s) (x:=v) (by omega) (by omega) hp fun y hy=>hd y hy v List.mem_cons_self
  rw[qjB,if_pos (dpos (by omega)),qac hv,qaa,h1,qaa,qad,w64s (by omega)]
  have hnd:(v::g.need.drop (i+1)).Pairwise fun a b=>a.element<b.element:=by rw[←hdr];exact hlt.sublist (List.drop_sublist _ _)
  obtain ⟨s',g1,g2,g3⟩:=qkp N hN hl hlt k n (i+1) s1 (by omega) (by omega) (by omega) h2 fun y hy z hz=>by
   rcases (h3 y).1 hy with rfl|hy
   ·have:=(List.pairwise_cons.1 hnd).1 z hz
    omega
   ·exact hd y hy z (List.mem_cons_of_mem _ hz)
  refine ⟨s',g1,g2,fun y=> ?_⟩
  rw[g3,h3,hdr,List.mem_cons]
  constructor
  ·rintro ((h|h)|h)
   ·exact .inr (.inl h)
   ·exact .inl h
   ·exact .inr (.inr h)
  ·rintro (h|h|h)
   ·exact .inl (.inr h)
   ·exact .inl (.inl h)
   ·exact .inr h
theorem qcm {α β:Type} [DecidableEq α]:∀{m:List (α×β)},(m.map Prod.fst).Nodup→∀{p:α×β},p∈m→qae m p.1=some p.2
 |[],_,p,h=>by cases h
 |q::m,hd,p,h=>by
  rw[List.map_cons,List.nodup_cons] at hd
  simp only[qae]
  rcases List.mem_cons.1 h with rfl|h
  ·rw[if_pos rfl]
  ·rw[if_neg (fun he=>hd.1 (by rw[he];exact List.mem_map.2 ⟨p,h,rfl⟩))]
   exact qcm hd.2 h
theorem qd7 {α β:Type} [DecidableEq α]:∀{m:List (α×β)} {a:α} {b:β},qae m a=some b→(a,b)∈m
 |[],a,b,h=>by simp[qae] at h
 |q::m,a,b,h=>by
  simp only[qae] at h
  split at h
  ·rename_i hq;cases h;rw[←hq];simp
  ·exact List.mem_cons_of_mem _ (qd7 h)
theorem qnk {l:List PlantElement} {r:List Visit} {y:Setting} (h:y∈qaE l r):y.element∈elems r:=(qb4 l r).subset (List.mem_map.2 ⟨y,h,rfl⟩)
theorem qk2 (N:Nat) (hN:6000≤N) {l:List PlantElement} (hl:l.length≤96) {r:List Visit} (hr:r.length≤1000) (hnm:∀x∈l,x.name.length<N∧x.name.length≤9223372036854775807):
  (¬RtP l r∧zbJ N l r=some ([],1)∧zcD N l r=some ([],1))∨(RtP l r∧∃e,e≠0∧zbJ N l r=some ([],e)∧zcD N l r=some ([],e))∨
  (RtP l r∧∃s d o,zbJ N l r=some (s,0)∧zcD N l r=some (s,0)∧PrP l r s d o∧s.length≤1000):=by
 obtain ⟨b,s0,e0,p1,p2,p3,p4,p5⟩:=qrm N (l:=l) (r:=r) (by omega) (by omega) (by omega) (fun _=>hnm)
 by_cases hR:RtP l r
 ·have hP:=PlOk.of hR.1
  have hs:=qfb N (by omega) hP hR (by omega)
  rw[p3] at hs
  cases hs
  obtain ⟨own,hown⟩:∃own,own=qbQ (qaE l r):=⟨_,rfl⟩
  rw[←hown] at p3 p4 p5
  have hkeys:((qaE l r).map Setting.element).Nodup:=(qb4 l r).nodup hR.2.2
  have olt:own.Pairwise fun a b=>a.element<b.element:=by rw[hown];exact qcA hkeys
  have omem:∀y,y∈own↔y∈qaE l r:=fun y=>by rw[hown];exact qcM
  unfold zbJ zcD
  rw[p3,p4,qaa,qaa,if_neg (by simp),if_neg (by simp)]
  unfold zbY
  obtain ⟨onm,o1,o2⟩:=qqu N (r:=r) (by omega) (by omega)
  rw[o1,qaa]
  have hG:GR l (elems r) [] [] [] []:=⟨fun v h=>by simp[Dng,qae] at h,fun v h=>by simp[Dr,qae] at h,⟨by simp,fun i p h=>by simp[qae] at h⟩,⟨List.Pairwise.nil,fun y=>by simp[qae]⟩⟩
  rcases qdT N (by omega) hP hr hR.2.1.ok o2 r.length N 0 [] [] [] [] (by omega) (by omega) hG ⟨fun u h=>by simp[Dng,qae] at h,fun v h=>by simp at h⟩ with ⟨e,k1,k2,k3⟩|⟨d,o,t,need,k2,k3,k4,k5⟩
  ·rw[show qhm N l r (r.length:Int) onm N [] 0 [] [] []=_ from k2,show qho N l r N (Guardian.mk l r [] []) 0 []=_ from k3,qaa,qaa]
   dsimp only
   rw[qaa,if_pos (by simpa using k1)]
   exact .inr (.inl ⟨hR,e,k1,rfl,rfl⟩)
  ·rw[show qhm N l r (r.length:Int) onm N [] 0 [] [] []=_ from k2,show qho N l r N (Guardian.mk l r [] []) 0 []=_ from k3,qaa,qaa]
   dsimp only
   rw[qaa,if_neg (by simp)]
   have hneed:=k4.ok.len k4.nd
   have hdis:∀y∈own,∀p,qae o y.element≠some p:=fun y hy p hp=>(k4.ok.ok _ _ hp).2.1 (qnk ((omem y).1 hy))
   obtain ⟨s',q1,q2,q3⟩:=qkp N (by omega) (g:=Guardian.mk l r need []) (by show need.length≤1000;omega) k4.nd.lt need.length N 0 own (by omega) (by show 0+need.length=need.length;omega) (by omega) olt fun y hy z hz=>by
    have hz:z∈need:=by simpa using hz
    intro he
    have:=(k4.nd.mem z).1 hz
    rw[←he] at this
    exact hdis y hy _ this
   have q3:∀y,y∈s'↔y∈own∨y∈need:=fun y=>by simpa using q3 y
   dsimp only
   rw[show qjB N (Guardian.mk l r need []) N own 0=_ from q1,qaa]
   have holen:o.length≤96:=by
    have:=qbF (b:=(List.range l.length).map fun (i:Nat)=>(i:Int)) k4.ok.nd fun a ha=>by
     obtain ⟨v,hv⟩:=qbg.2 ha
     obtain ⟨h0,_,x,hx,_⟩:=k4.ok.ok _ _ hv
     have:=(List.getElem?_eq_some_iff.1 hx).1
     exact List.mem_map.2 ⟨a.toNat,List.mem_range.2 this,by omega⟩
    simp at this
    omega
   have hall:((own++o.map fun p=>Setting.mk p.1 p.2).map Setting.element).Nodup:=by
    rw[List.map_append,List.nodup_append]
    refine ⟨?_, ?_, ?_⟩
    ·unfold List.Nodup
     rw[List.pairwise_map]
     exact olt.imp fun h he=>by omega
    ·rw[List.map_map]
     exact k4.ok.nd
    ·intro a ha c hc hac
     obtain ⟨y,hy,rfl⟩:=List.mem_map.1 ha
     obtain ⟨z,hz,rfl⟩:=List.mem_map.1 hc
     obtain ⟨p,hp,rfl⟩:=List.mem_map.1 hz
     have:=qcm k4.ok.nd hp
     exact hdis y hy p.2 (by rw[hac];exact this)
   have hz:qnx N own o=some (qbQ (own++o.map fun p=>Setting.mk p.1 p.2),0):=by
    unfold qnx rngM
    rw[if_pos ⟨by omega,hall⟩]
    unfold srtI
    rw[if_pos (by rw[List.length_append,List.length_map];omega),qaa]
    rfl
   rw[hz,qaa]
   have hmem:∀y,y∈qbQ (own++o.map fun p=>Setting.mk p.1 p.2)↔y∈qaE l r∨qae o y.element=some y.position:=fun y=>by
    rw[qcM,List.mem_append,omem]
    constructor
    ·rintro (h|h)
     ·exact .inl h
     ·obtain ⟨p,hp,rfl⟩:=List.mem_map.1 h
      exact .inr (qcm k4.ok.nd hp)
    ·rintro (h|h)
     ·exact .inl h
     ·exact .inr (List.mem_map.2 ⟨_,qd7 h,rfl⟩)
   have heq:qbQ (own++o.map fun p=>Setting.mk p.1 p.2)=s':=qcJ (qcA hall) q2 fun y=>by
    rw[hmem,q3,omem,k4.nd.mem]
   refine .inr (.inr ⟨hR,_,d,o,rfl,by rw[heq],⟨qcA hall,hmem,k4.ok,k5⟩, ?_⟩)
   rw[qfV,List.length_append,List.length_map]
   omega
 ·have hb:b=false:=by
   obtain ⟨b',h1,h2⟩:=qi8 N (l:=l) (r:=r) (by omega) (by omega) (by omega)
   rw[p1] at h1;cases h1
   cases b with
   |false=>rfl
   |true=>exact absurd (h2.1 rfl) hR
  subst hb
  have he:s0=[]∧e0=1:=by
   unfold zbG at p3
   rw[p1,qaa,if_pos (by simp)] at p3
   cases p3;exact ⟨rfl,rfl⟩
  obtain ⟨rfl,rfl⟩:=he
  refine .inl ⟨hR, ?_, ?_⟩
  ·unfold zbJ;rw[p3,qaa,if_pos (by simp)]
  ·unfold zcD;rw[p4,qaa,if_pos (by simp)]
end Go.W
end
section
set_option linter.unusedVariables false
set_option linter.unusedSimpArgs false
namespace Go.W
open Go.AM
theorem qwN {l:List PlantElement} (hP:PlOk l) {N:Nat} (hN:20≤N):∀x∈l,x.name.length<N∧x.name.length≤9223372036854775807:=fun x hx=>by
 have h1:=(qaq (hP.snd x hx)).2.2.2
 unfold pnOk at h1
 simp only[Bool.and_eq_true,decide_eq_true_eq] at h1
 omega
theorem KnP.of {l:List PlantElement} {s:List Setting} (h1:∀y∈s,ok1 l y) (h2:s.Pairwise fun a b=>a.element<b.element):KnP l s:=fun i y hy=>by
 refine ⟨h1 y (List.mem_of_getElem? hy),fun z hz he=> ?_⟩
 obtain ⟨j,hj,hz⟩:=qkc.1 hz
 obtain ⟨hil,hie⟩:=List.getElem?_eq_some_iff.1 hy
 obtain ⟨hjl,hje⟩:=List.getElem?_eq_some_iff.1 hz
 have:=List.pairwise_iff_getElem.1 h2 j i hjl hil hj
 rw[hie,hje] at this
 omega
theorem qp2 {q:List Setting} (h:q.Pairwise fun a b=>a.element<b.element) (hl:q.length≤1000): @srtI Setting ⟨Setting.mk 0 0⟩ (fun a b=>cmpI a.element b.element) q=some q:=by
 have hn:(q.map Setting.element).Nodup:=by
  unfold List.Nodup
  rw[List.pairwise_map]
  exact h.imp fun h he=>by omega
 have e:qbQ q=q:=qcJ (qcA hn) h fun x=>qcM
 unfold srtI
 rw[if_pos (by omega)]
 exact congrArg some e
end Go.W
end
section
set_option linter.unusedVariables false
set_option linter.unusedSimpArgs false
namespace Go.W
open Go.AM
theorem qeJ {r:List Visit} {k:Int}:k∈elems r↔∃(j:Nat) (v:Visit),r[j]? =some v∧v.element=k:=by
 unfold elems
 rw[List.mem_map]
 constructor
 ·rintro ⟨v,hv,rfl⟩
  obtain ⟨j,hj⟩:=List.getElem?_of_mem hv
  exact ⟨j,v,hj,rfl⟩
 ·rintro ⟨j,v,hj,rfl⟩
  exact ⟨v,List.mem_of_getElem? hj,rfl⟩
theorem qkQ {l:List PlantElement} {r:List Visit} (hR:RtP l r) {k n:Int} (hk:k∈elems r) (hf:k≠(endR r).1) (hl:k≠(endR r).2) (hn:n∈eI l k) (ho:nbr l k n∉elems r):∃v∈r,∃x,v.element=k∧l[k.toNat]? =some x∧x.kind=2∧n=qfg x v:=by
 have hP:=PlOk.of hR.1
 have hW:=hR.2.1
 obtain ⟨j,v,hj,rfl⟩:=qeJ.1 hk
 have hjl:=(List.getElem?_eq_some_iff.1 hj).1
 have e0:=qak (xs:=r) (i:=0) (by omega)
 have e1:=qak (xs:=r) (i:=r.length - 1) (by omega)
 have he:endR r=(r[0].element,r[r.length - 1].element):=by unfold endR;rw[e0,e1];rfl
 rw[he] at hf hl
 have j0:0<j:=by
  refine Nat.pos_of_ne_zero fun h=> ?_
  subst h
  rw[e0] at hj;cases hj;exact hf rfl
 have j1:j+1<r.length:=by
  refine Nat.lt_of_not_le fun h=> ?_
  have:j=r.length - 1:=by omega
  subst this
  rw[e1] at hj;cases hj;exact hl rfl
 have hp:=qak (xs:=r) (i:=j - 1) (by omega)
 have hq:=qak (xs:=r) (i:=j+1) j1
 have s1:=hW.step (j - 1) _ v hp (by rw[show j - 1+1=j by omega];exact hj)
 have s2:=hW.step j v _ hj hq
 have hmid:=hW.mid j v j0 j1 hj
 have hio:=hP.thr_sym hmid
 have hmem:=qdZ hmid
 have n1:nbr l v.element v.in_∈elems r:=by
  have hin:=hW.outs (i:=j - 1) (by omega) hp
  have h0:0≤nbr l r[j - 1].element r[j - 1].out:=by rw[←s1.2.2];exact s1.2.1
  have:=hP.nbr_sym hin h0
  rw[←s1.2.2,←s1.1] at this
  rw[this]
  exact qeJ.2 ⟨j - 1,_,hp,rfl⟩
 have n2:nbr l v.element v.out∈elems r:=by
  rw[←s2.2.2]
  exact qeJ.2 ⟨j+1,_,hq,rfl⟩
 have d1:n≠v.in_:=fun h=>ho (by rw[h];exact n1)
 have d2:n≠v.out:=fun h=>ho (by rw[h];exact n2)
 obtain ⟨h0,h1,x,hx,hnx⟩:=qaS hn
 have hsnd:=hP.snd x (List.mem_of_getElem? hx)
 have hee:=qlH h0 hx
 unfold thr at hmid
 rw[hee] at hmid hmem
 rcases qqN hsnd with hk|hk|hk
 ·have:qaf x=[x.a,x.b]:=by unfold qaf;rw[if_pos (.inl hk)]
  rw[this] at hmem hnx
  simp only[List.mem_cons,List.not_mem_nil,or_false] at hmem hnx
  have:=hio.2
  omega
 ·refine ⟨v,List.mem_of_getElem? hj,x,rfl,hx,hk, ?_⟩
  have:qaf x=[x.a,x.b,x.c]:=by unfold qaf;rw[if_neg (by omega),if_pos hk]
  obtain ⟨q1,q2,q3,hc⟩:=qcB hsnd hk hmid
  rw[this] at hnx
  simp only[List.mem_cons,List.not_mem_nil,or_false] at hnx
  unfold qfg
  rcases hc with ⟨c1,_,c2⟩|⟨c1,c2⟩|⟨c1,c2⟩
  ·split<;>omega
  ·rw[if_pos (.inl c1)];omega
  ·rw[if_neg (by omega)];omega
 ·have:qaf x=[x.a,x.b]:=by unfold qaf;rw[if_pos (.inr hk)]
  rw[this] at hmem hnx
  simp only[List.mem_cons,List.not_mem_nil,or_false] at hmem hnx
  have:=hio.2
  omega
theorem qwv {l:List PlantElement} {r:List Visit} (hR:RtP l r) {d:SpS} {o:OutM} (hN:NI l r r.length d o) {p:Int→Int} (hp:∀i q,qae o i=some q→p i=q) {v:Spot} (h:Rch (vS l (elems r) p (endR r).1 (endR r).2 (id:Spot→Spot)) v):
  v.node∈eI l v.element→v.element∉elems r→Dng d (Spot.mk (nbr l v.element v.node) v.node):=by
 have hP:=PlOk.of hR.1
 induction h with
 | @here v hd hf hh=>
  intro hn hno
  have h0:0≤nbr l v.element v.node:=by simpa[vS] using hd
  have hk:nbr l v.element v.node∈elems r:=by simpa[vS] using hf
  have hh:nbr l v.element v.node≠(endR r).1∧nbr l v.element v.node≠(endR r).2:=by simpa[vS] using hh
  have hs:=hP.nbr_sym hn h0
  obtain ⟨w,hw,x,h1,h2,h3,h4⟩:=qkQ hR hk hh.1 hh.2 (qdS h0).1 (by rw[hs];exact hno)
  rcases hN.han w (by rw[List.take_length];exact hw) x (by rw[h1];exact h2) h3 with ht|hdn
  ·exfalso
   unfold Tr at ht
   simp only[h1,←h4,hs] at ht
   rcases ht with ht|ht
   ·have:=(qaS hn).1;omega
   ·exact hno ht
  ·rw[h1,←h4] at hdn;exact hdn
 | @step v u hd hf hu hr ih=>
  intro hn hno
  have h0:0≤nbr l v.element v.node:=by simpa[vS] using hd
  have hkn:nbr l v.element v.node∉elems r:=by simpa[vS] using hf
  have hs:=hP.nbr_sym hn h0
  obtain ⟨m,hm,rfl⟩:=List.mem_map.1 hu
  obtain ⟨k,hk⟩:∃k,k=nbr l v.element v.node:=⟨_,rfl⟩
  rw[←hk] at hm ih h0 hkn hs⊢
  have hnk:v.node∈eI l k:=by rw[hk];exact (qdS (by rw[←hk];exact h0)).1
  obtain ⟨x,hx⟩:∃x,l[k.toNat]? =some x:=by obtain ⟨_,_,x,hx,_⟩:=qaS hnk;exact ⟨x,hx⟩
  have hee:=qlH h0 hx
  have hm':m∈onwE x (p k) v.node:=by
   unfold onw at hm
   rw[if_pos h0,hx] at hm
   exact hm
  have hmk:m∈eI l k:=by rw[hee];exact qn7 hm'
  have hdn:=ih hmk hkn
  simp only at hdn
  obtain ⟨hnt,y,hy,c1,c3,c2,c4⟩:=hN.clo _ hdn
  have hkm:0≤nbr l k m:=by
   have:=hr.live
   rw[←hk] at this
   simpa[vS] using this
  have hsm:=hP.nbr_sym hmk hkm
  simp only[hsm] at hy c3 c2 c4
  rw[hx] at hy;cases hy
  have hsnd:=hP.snd x (List.mem_of_getElem? hx)
  rcases qqN hsnd with hkd|hkd|hkd
  ·exact absurd hkd c1
  ·have he:qaf x=[x.a,x.b,x.c]:=by unfold qaf;rw[if_neg (by omega),if_pos hkd]
   have hnd:=(qaq hsnd).1
   rw[he] at hnd
   simp at hnd
   have hnx:v.node∈qaf x:=by rw[←hee];exact hnk
   rw[he] at hnx
   simp only[List.mem_cons,List.not_mem_nil,or_false] at hnx
   by_cases ha:m=x.a
   ·have hb:v.node≠x.a:=by
     intro hva
     unfold onwE at hm'
     rw[if_neg (by omega)] at hm'
     split at hm'
     ·have:=List.mem_singleton.1 hm';omega
     ·split at hm'
      ·have:=List.mem_singleton.1 hm';omega
      ·obtain ⟨q1,q2,q3,hc⟩:=qcB hsnd hkd hm'
       omega
    have hh:=c4 hkd ha
    have hw:Hn l (elems r) d (Spot.mk k v.node):=by
     rcases hnx with h|h|h
     ·exact absurd h hb
     ·rw[h];exact hh.1
     ·rw[h];exact hh.2
    rcases hw with ht|hw
    ·exfalso
     unfold Tr at ht
     simp only[hs] at ht
     rcases ht with ht|ht
     ·have:=(qaS hn).1;omega
     ·exact hno ht
    ·exact hw
   ·exfalso
    have hpk:=hp _ _ (c2 hkd ha)
    unfold onwE at hm'
    rw[if_neg (by omega)] at hm'
    split at hm'
    ·rename_i h;have:=List.mem_singleton.1 hm'
     rw[if_pos this] at hpk;omega
    ·split at hm'
     ·rename_i h1 h;have:=List.mem_singleton.1 hm'
      have hcb:m≠x.b:=by omega
      rw[if_neg hcb] at hpk;omega
     ·rename_i h1 h2
      obtain ⟨q1,q2,q3,hc⟩:=qcB hsnd hkd hm'
      rcases hc with ⟨e1,_,e2⟩|⟨_,e⟩|⟨_,e⟩
      ·rcases e2 with e2|e2
       ·rw[if_pos e2] at hpk;exact h2 ⟨hkd,e1,hpk⟩
       ·rw[if_neg (by omega)] at hpk;exact h1 ⟨hkd,e1,hpk⟩
      ·exact ha e
      ·exact ha e
  ·exfalso
   have hpk:=hp _ _ (c3 hkd)
   unfold onwE at hm'
   rw[if_pos ⟨hkd,hpk⟩] at hm'
   cases hm'
theorem qpv {s:List Setting} (hs:s.Pairwise fun a b=>a.element<b.element) {y:Setting} (hy:y∈s):atP s y.element=y.position:=by
 unfold atP
 cases hf:s.find? (fun z=>z.element==y.element) with
 |none=>
  have:=List.find?_eq_none.1 hf y hy
  simp at this
 |some z=>
  have h1:=List.mem_of_find?_eq_some hf
  have h2:=List.find?_some hf
  rw[qmT hs h1 hy (by simpa using h2)]
theorem qnj {l:List PlantElement} {r:List Visit} (hW:WayP l r) {y:Setting} (h:y∈qaE l r):ok1 l y:=by
 obtain ⟨v,hv,hy⟩:=List.mem_flatMap.1 h
 have he:=qjj hy
 obtain ⟨h0,h1⟩:=hW.ok v hv
 unfold setV at hy
 split at hy
 ·rename_i x hx
  refine ⟨by rw[he];exact h0,x,by rw[he];exact hx, ?_⟩
  unfold setE at hy
  split at hy
  ·rename_i hk
   have:=List.mem_singleton.1 hy
   subst this
   exact .inr ⟨hk, .inl rfl⟩
  ·split at hy
   ·rename_i hk
    split at hy
    ·have:=List.mem_singleton.1 hy
     subst this
     exact .inl ⟨hk, .inl rfl⟩
    ·have:=List.mem_singleton.1 hy
     subst this
     exact .inl ⟨hk, .inr rfl⟩
   ·cases hy
 ·cases hy
theorem PrP.ok1 {l:List PlantElement} {r:List Visit} (hW:WayP l r) {s:List Setting} {d:SpS} {o:OutM} (h:PrP l r s d o):∀y∈s,ok1 l y:=fun y hy=>by
 rcases (h.mem y).1 hy with hy|hy
 ·exact qnj hW hy
 ·obtain ⟨h0,_,x,hx,hk⟩:=h.ok.ok _ _ hy
  refine ⟨h0,x,hx, ?_⟩
  rcases hk with hk|hk
  ·exact .inl hk
  ·exact .inr ⟨hk.1, .inr hk.2⟩
end Go.W
end
section
set_option linter.unusedVariables false
set_option linter.unusedSimpArgs false
namespace Go.W
open Go.AM
theorem qlv {α β:Type} {l:List α} (p:α→Bool) (out:β) (F:Nat→Int→Option (Sum Unit β)) (h0:∀n,F (n+1) (l.length:Int)=some (.inl ()))
  (h1:∀(n i:Nat) (x:α),l[i]? =some x→F (n+1) (i:Int)=if p x=true then some (.inr out) else F n ((i+1:Nat):Int)):∀(k n i:Nat),k<n→i+k=l.length→F n (i:Int)=some (if (l.drop i).any p=true then .inr out else .inl ())
 |k,0,i,hn,_=>by omega
 |0,n+1,i,hn,hi=>by
  obtain rfl:i=l.length:=by omega
  rw[h0,List.drop_length];rfl
 |k+1,n+1,i,hn,hi=>by
  have hlt:i<l.length:=by omega
  rw[h1 n i _ (qak hlt),qaF (qak hlt),List.any_cons]
  by_cases h:p l[i]=true
  ·rw[if_pos h,h];rfl
  ·rw[if_neg h,qlv p out F h0 h1 k n (i+1) (by omega) (by omega)]
   rw[Bool.not_eq_true] at h
   rw[h,Bool.false_or]
theorem qa8 {α β:Type} {l:List α} (p:α→Bool) (out:β) (F:Nat→Int→Option (Sum Unit β)) (N:Nat) (hN:l.length<N) (h0:∀n,F (n+1) (l.length:Int)=some (.inl ()))
  (h1:∀(n i:Nat) (x:α),l[i]? =some x→F (n+1) (i:Int)=if p x=true then some (.inr out) else F n ((i+1:Nat):Int)):F N 0=some (if l.any p=true then .inr out else .inl ()):=by
 have h:=qlv p out F h0 h1 l.length N 0 hN (by omega)
 rw[List.drop_zero] at h
 exact h
def cfV (a b:Lock):Bool:=a.visits.any fun v=>(elems b.visits).contains v.element
def cf1 (s t:Setting):Bool:=s.element==t.element&&s.position !=t.position
def cfS (a b:Lock):Bool:=a.settings.any fun s=>b.settings.any (cf1 s)
def cf (a b:Lock):Bool:=cfV a b||cfS a b
theorem qjU {a b:Lock}:cf a b=true↔(∃e,e∈elems a.visits∧e∈elems b.visits)∨∃s∈a.settings,∃t∈b.settings,s.element=t.element∧s.position≠t.position:=by
 unfold cf cfV cfS cf1
 simp only[Bool.or_eq_true,List.any_eq_true,Bool.and_eq_true,beq_iff_eq,bne_iff_ne,List.contains_iff_mem,elems,List.mem_map]
 constructor
 ·rintro (⟨v,hv,w,hw,h⟩|h)
  ·exact .inl ⟨v.element,⟨v,hv,rfl⟩,w,hw,h⟩
  ·exact .inr h
 ·rintro (⟨e,⟨v,hv,rfl⟩,w,hw,h⟩|h)
  ·exact .inl ⟨v,hv,w,hw,h⟩
  ·exact .inr h
theorem qgb (a b:Lock):cf a b=cf b a:=by
 have key:∀a b:Lock,cf a b=true→cf b a=true:=fun a b h=>by
  rcases qjU.1 h with ⟨e,h1,h2⟩|⟨s,hs,t,ht,h1,h2⟩
  ·exact qjU.2 (.inl ⟨e,h2,h1⟩)
  ·exact qjU.2 (.inr ⟨t,ht,s,hs,h1.symm,fun h=>h2 h.symm⟩)
 rw[Bool.eq_iff_iff]
 exact ⟨key a b,key b a⟩
theorem qhK (r:List Visit) (x:Int):(r.any fun w=>x==w.element)=(elems r).contains x:=by
 rw[Bool.eq_iff_iff]
 simp only[List.any_eq_true,beq_iff_eq,List.contains_iff_mem,elems,List.mem_map]
 constructor
 ·rintro ⟨w,hw,h⟩;exact ⟨w,hw,h.symm⟩
 ·rintro ⟨w,hw,h⟩;exact ⟨w,hw,h.symm⟩
def Bnd (x:Lock):Prop:=x.visits.length≤1000∧x.settings.length≤1000
theorem qpS (N:Nat) (hN:3000≤N) {a b:Lock} (ha:Bnd a) (hb:Bnd b):zbV N a b=some (cf a b):=by
 obtain ⟨ha1,ha2⟩:=ha
 obtain ⟨hb1,hb2⟩:=hb
 have h0:qhi N a b N 0=some (if cfV a b=true then .inr true else .inl ()):=qa8 (fun v=>(elems b.visits).contains v.element) true (fun n i=>qhi N a b n i) N (l:=a.visits) (by omega) (fun n=>by
   show qhi N a b (n+1) _=_
   rw[qhi,if_neg (dneg (by omega))]) fun n i v hv=>by
  have hl:=(List.getElem?_eq_some_iff.1 hv).1
  show qhi N a b (n+1) i=_
  rw[qhi,if_pos (dpos (by omega)),qac hv,qaa,qbU N (by omega) (by omega),qaa,qad,w64s (by omega)]
 have h2:∀(i:Nat) (s:Setting),a.settings[i]? =some s→qhk N a b i N 0=some (if b.settings.any (cf1 s)=true then .inr true else .inl ()):=fun i s hs=>qa8 (cf1 s) true (fun n j=>qhk N a b i n j) N (l:=b.settings) (by omega) (fun n=>by
   show qhk N a b i (n+1) _=_
   rw[qhk,if_neg (dneg (by omega))]) fun n j t ht=>by
  have hl:=(List.getElem?_eq_some_iff.1 ht).1
  show qhk N a b i (n+1) j=_
  have h3:qo4 N a b i j=some (cf1 s t):=by
   unfold qo4 cf1
   rw[qac hs,qaa,qac ht,qaa]
   by_cases h:s.element=t.element
   ·rw[if_pos (by simpa using h),qaa,qaa];simp[h]
   ·rw[if_neg (by simpa using h)];simp[h]
  rw[qhk,if_pos (dpos (by omega)),h3,qaa,qad,w64s (by omega)]
 have h1:qhj N a b N 0=some (if cfS a b=true then .inr true else .inl ()):=qa8 (fun s=>b.settings.any (cf1 s)) true (fun n i=>qhj N a b n i) N (l:=a.settings) (by omega) (fun n=>by
   show qhj N a b (n+1) _=_
   rw[qhj,if_neg (dneg (by omega))]) fun n i s hs=>by
  have hl:=(List.getElem?_eq_some_iff.1 hs).1
  show qhj N a b (n+1) i=_
  rw[qhj,if_pos (dpos (by omega)),h2 i s hs,qaa]
  by_cases h:b.settings.any (cf1 s)=true
  ·rw[if_pos h,if_pos h]
  ·rw[if_neg h,if_neg h];dsimp only;rw[qad,w64s (by omega)]
 unfold zbV cf
 rw[h0,qaa]
 by_cases h:cfV a b=true
 ·rw[if_pos h,h];rfl
 ·rw[if_neg h]
  rw[Bool.not_eq_true] at h
  dsimp only
  rw[h1,qaa,h]
  by_cases h:cfS a b=true
  ·rw[if_pos h,h];rfl
  ·rw[if_neg h]
   rw[Bool.not_eq_true] at h
   rw[h];rfl
theorem qpP (N:Nat) (hN:3000≤N) {a b:Lock} (ha:Bnd a) (hb:Bnd b):zaN N a b=some (cf a b):=by
 obtain ⟨ha1,ha2⟩:=ha
 obtain ⟨hb1,hb2⟩:=hb
 have h1:∀v:Visit,qg7 N v b.visits (b.visits.length:Int) N 0=some (if (elems b.visits).contains v.element=true then .inr true else .inl ()):=fun v=>by
  rw[←qhK]
  exact qa8 (fun w=>v.element==w.element) true (fun n i=>qg7 N v b.visits (b.visits.length:Int) n i) N (l:=b.visits) (by omega) (fun n=>by
   show qg7 N v b.visits (b.visits.length:Int) (n+1) _=_
   rw[qg7,if_neg (dneg (by omega))]) fun n i w hw=>by
   have hl:=(List.getElem?_eq_some_iff.1 hw).1
   show qg7 N v b.visits (b.visits.length:Int) (n+1) i=_
   rw[qg7,if_pos (dpos (by omega)),qac hw,qaa,w64s (by omega)]
 have h0:qg6 N b a.visits (a.visits.length:Int) N 0=some (if cfV a b=true then .inr true else .inl ()):=qa8 (fun v=>(elems b.visits).contains v.element) true (fun n i=>qg6 N b a.visits (a.visits.length:Int) n i) N (l:=a.visits) (by omega) (fun n=>by
   show qg6 N b a.visits (a.visits.length:Int) (n+1) _=_
   rw[qg6,if_neg (dneg (by omega))]) fun n i v hv=>by
  have hl:=(List.getElem?_eq_some_iff.1 hv).1
  show qg6 N b a.visits (a.visits.length:Int) (n+1) i=_
  rw[qg6,if_pos (dpos (by omega)),qac hv,qaa,h1,qaa]
  by_cases h:(elems b.visits).contains v.element=true
  ·rw[if_pos h,if_pos h]
  ·rw[if_neg h,if_neg h];dsimp only;rw[w64s (by omega)]
 have h3:∀s:Setting,qg9 N s b.settings (b.settings.length:Int) N 0=some (if b.settings.any (cf1 s)=true then .inr true else .inl ()):=fun s=>qa8 (cf1 s) true (fun n j=>qg9 N s b.settings (b.settings.length:Int) n j) N (l:=b.settings) (by omega) (fun n=>by
   show qg9 N s b.settings (b.settings.length:Int) (n+1) _=_
   rw[qg9,if_neg (dneg (by omega))]) fun n j t ht=>by
  have hl:=(List.getElem?_eq_some_iff.1 ht).1
  show qg9 N s b.settings (b.settings.length:Int) (n+1) j=_
  have h4:qoO N s t=some (cf1 s t):=by
   unfold qoO cf1
   by_cases h:s.element=t.element
   ·rw[if_pos (by simpa using h)];simp[h]
   ·rw[if_neg (by simpa using h)];simp[h]
  rw[qg9,if_pos (dpos (by omega)),qac ht,qaa,h4,qaa,w64s (by omega)]
 have h2:qg8 N b a.settings (a.settings.length:Int) N 0=some (if cfS a b=true then .inr true else .inl ()):=qa8 (fun s=>b.settings.any (cf1 s)) true (fun n i=>qg8 N b a.settings (a.settings.length:Int) n i) N (l:=a.settings) (by omega) (fun n=>by
   show qg8 N b a.settings (a.settings.length:Int) (n+1) _=_
   rw[qg8,if_neg (dneg (by omega))]) fun n i s hs=>by
  have hl:=(List.getElem?_eq_some_iff.1 hs).1
  show qg8 N b a.settings (a.settings.length:Int) (n+1) i=_
  rw[qg8,if_pos (dpos (by omega)),qac hs,qaa,h3,qaa]
  by_cases h:b.settings.any (cf1 s)=true
  ·rw[if_pos h,if_pos h]
  ·rw[if_neg h,if_neg h];dsimp only;rw[w64s (by omega)]
 unfold zaN cf
 rw[h0,qaa]
 by_cases h:cfV a b=true
 ·rw[if_pos h,h];rfl
 ·rw[if_neg h]
  rw[Bool.not_eq_true] at h
  dsimp only
  rw[h2,qaa,h]
  by_cases h:cfS a b=true
  ·rw[if_pos h,h];rfl
  ·rw[if_neg h]
   rw[Bool.not_eq_true] at h
   rw[h];rfl
def fi (s:List Lock) (id:Int):Int:=qcR (fun _ (x:Lock)=>x.iD==id) 0 s
theorem qm7 (N:Nat) {s:List Lock} (hs:s.length≤1000) (hN:3000≤N) (id:Int):zdL N s id=some (fi s id):=by
 have h:=qar (fun _ (x:Lock)=>x.iD==id) (fun i _=>(i:Int)) (fun n i=>qhu N s id n i) (l:=s) (fun n=>by
   show qhu N s id (n+1) _=_
   rw[qhu,if_neg (dneg (by omega))]) (fun n i x hx=>by
  have hl:=(List.getElem?_eq_some_iff.1 hx).1
  show qhu N s id (n+1) i=_
  rw[qhu,if_pos (dpos (by omega)),qac hx,qaa,qad,w64s (by omega)]) s.length N 0 (by omega) (by omega)
 rw[List.drop_zero] at h
 unfold zdL fi
 rw[show qhu N s id N 0=_ from h,qaa]
 rcases qct (fun _ (x:Lock)=>x.iD==id) s 0 with ⟨h1,h2⟩|⟨h1,_⟩
 ·rw[h1,h2]
 ·rw[h1]
theorem qpQ (N:Nat) {s:List Lock} (hs:s.length≤1000) (hN:3000≤N) (id:Int):zbD N s id=some (fi s id):=by
 have h:=qar (fun _ (x:Lock)=>x.iD==id) (fun i _=>(i:Int)) (fun n i=>qg4 N s id (s.length:Int) n i) (l:=s) (fun n=>by
   show qg4 N s id (s.length:Int) (n+1) _=_
   rw[qg4,if_neg (dneg (by omega))]) (fun n i x hx=>by
  have hl:=(List.getElem?_eq_some_iff.1 hx).1
  show qg4 N s id (s.length:Int) (n+1) i=_
  have hk:zaQ N x id=some (x.iD==id):=rfl
  rw[qg4,if_pos (dpos (by omega)),qac hx,qaa,hk,qaa,w64s (by omega)]) s.length N 0 (by omega) (by omega)
 rw[List.drop_zero] at h
 unfold zbD zaC fi
 rw[show qg4 N s id (s.length:Int) N 0=_ from h,qaa]
 rcases qct (fun _ (x:Lock)=>x.iD==id) s 0 with ⟨h1,h2⟩|⟨h1,_⟩
 ·rw[h1,h2];rfl
 ·rw[h1];rfl
theorem qnJ (s:List Lock) (id:Int):fi s id= -1∧(∀x∈s,x.iD≠id)∨∃(k:Nat) (x:Lock),fi s id=(k:Int)∧s[k]? =some x∧x.iD=id:=by
 rcases qcY (fun _ (x:Lock)=>x.iD==id) s 0 with ⟨h1,h2⟩|⟨j,x,h1,h2,h3,_⟩
 ·refine .inl ⟨h1,fun x hx=> ?_⟩
  obtain ⟨j,hj⟩:=List.getElem?_of_mem hx
  simpa using h2 j x hj
 ·exact .inr ⟨j,x,by rw[fi,h1];simp,h2,by simpa using h3⟩
theorem qpX (N:Nat) {a:List Setting} (ha:a.length≤1000) (hN:3000≤N):zaW N a a=some true:=by
 have h:=qa8 (fun _:Setting=>false) false (fun n i=>qha N a a n i) N (l:=a) (by omega) (fun n=>by
   show qha N a a (n+1) _=_
   rw[qha,if_neg (dneg (by omega))]) fun n i x hx=>by
  have hl:=(List.getElem?_eq_some_iff.1 hx).1
  show qha N a a (n+1) i=_
  rw[qha,if_pos (dpos (by omega)),qac hx,qaa,qaa,if_neg (by simp),if_neg (by simp),qad,w64s (by omega)]
 unfold zaW
 rw[if_neg (by simp),show qha N a a N 0=_ from h,if_neg (by simp),qaa]
theorem qsT (N:Nat) {a:List Setting} (ha:a.length≤1000) (hN:3000≤N):zaE N a a=some true:=by
 have h:=qa8 (fun _:Setting=>false) false (fun n i=>qg5 N a a (a.length:Int) n i) N (l:=a) (by omega) (fun n=>by
   show qg5 N a a (a.length:Int) (n+1) _=_
   rw[qg5,if_neg (dneg (by omega))]) fun n i x hx=>by
  have hl:=(List.getElem?_eq_some_iff.1 hx).1
  show qg5 N a a (a.length:Int) (n+1) i=_
  rw[qg5,if_pos (dpos (by omega)),qac hx,qaa,qaa,if_neg (by simp),if_neg (by simp),w64s (by omega)]
 unfold zaE
 rw[if_neg (by simp),show qg5 N a a (a.length:Int) N 0=_ from h,if_neg (by simp),qaa]
structure LkOk (N:Nat) (l:List PlantElement) (x:Lock):Prop where
 id:0≤x.iD
 bnd:Bnd x
 p:zbJ N l x.visits=some (x.settings,0)
 r:zcD N l x.visits=some (x.settings,0)
 rt:RtP l x.visits
 pr:∃d o,PrP l x.visits x.settings d o
structure VOk (N:Nat) (l:List PlantElement) (s:List Lock):Prop where
 len:s.length≤16
 ok:∀x∈s,LkOk N l x
 pw:s.Pairwise fun a b=>a.iD≠b.iD∧cf a b=false
def bad1 (a b:Lock):Bool:=(a.iD==b.iD)||cf a b
theorem pv5 (N:Nat) (hN:3000≤N) {a b:Lock} (ha:Bnd a) (hb:Bnd b):qoU N a b=some (bad1 a b):=by
 unfold qoU bad1
 by_cases h:a.iD=b.iD
 ·rw[if_pos (by simpa using h)];simp[h]
 ·rw[if_neg (by simpa using h),qpP N hN ha hb,qaa];simp[h]
theorem pv4 (N:Nat) (hN:3000≤N) {s:List Lock} (hs:∀x∈s,Bnd x) (hl:s.length≤1000) {a:Lock} (ha:Bnd a) {i:Nat} (hi:i<s.length):∀(k n j:Nat),k<n→j+k=i→
  qjt N i a s (s.length:Int) n j=some (if ((s.take i).drop j).any (bad1 a)=true then .inr (.inr false) else .inl ())
 |k,0,j,hn,_=>by omega
 |0,n+1,j,hn,hj=>by
  obtain rfl:j=i:=by omega
  rw[qjt,if_pos (dpos (by omega)),qac (qak hi),qaa,if_pos (lpos (by omega)),List.drop_eq_nil_of_le (by simp;omega)]
  rfl
 |k+1,n+1,j,hn,hj=>by
  have hlt:j<s.length:=by omega
  have hv:=qak hlt
  have htk:(s.take i)[j]? =some s[j]:=by rw[List.getElem?_take,if_pos (by omega)];exact hv
  rw[qjt,if_pos (dpos (by omega)),qac hv,qaa,if_neg (lneg (by omega)),pv5 N hN ha (hs _ (List.getElem_mem hlt)),qaa,w64s (by omega),qaF htk,List.any_cons]
  by_cases h:bad1 a s[j]=true
  ·rw[if_pos h,h];rfl
  ·rw[if_neg h,pv4 N hN hs hl ha hi k n (j+1) (by omega) (by omega)]
   rw[Bool.not_eq_true] at h
   rw[h,Bool.false_or]
def vRes (s:List Lock):Sum Unit Bool:=res (fun i x=>(s.take i).any (bad1 x)) (fun _ _=>false) 0 s
theorem qos (N:Nat) (hN:6000≤N) {l:List PlantElement} (hP:PlOk l) {s:List Lock} (hs:∀x∈s,LkOk N l x) (hl:s.length≤16):zaY N l s=some (match vRes s with| .inl _=>true| .inr b=>b):=by
 have h2:∀(i:Nat) (x:Lock),s[i]? =some x→qoS N l s s i=some (if (s.take i).any (bad1 x)=true then .inr false else .inl ()):=fun i x hx=>by
  have hlt:=(List.getElem?_eq_some_iff.1 hx).1
  have hk:=hs x (List.mem_of_getElem? hx)
  have h3:qoT N x x.settings 0=some false:=by
   unfold qoT
   rw[if_neg (dneg (by have:=hk.id;omega)),if_neg (by simp),qsT N hk.bnd.2 (by omega),qaa];rfl
  have h4:=pv4 N (by omega) (fun y hy=>(hs y hy).bnd) (by omega) hk.bnd hlt i N 0 (by omega) (by omega)
  unfold qoS
  rw[qac hx,qaa,hk.p,qaa,h3,qaa,if_neg (by simp),show qjt N i x s (s.length:Int) N 0=_ from h4,qaa,List.drop_zero]
  by_cases h:(s.take i).any (bad1 x)=true
  ·rw[if_pos h,if_pos h]
  ·rw[if_neg h,if_neg h]
 have h:=qar (fun i x=>(s.take i).any (bad1 x)) (fun _ _=>false) (fun n i=>qhb N l s s (s.length:Int) n i) (l:=s) (fun n=>by
   show qhb N l s s (s.length:Int) (n+1) _=_
   rw[qhb,if_neg (dneg (by omega))]) (fun n i x hx=>by
  have hlt:=(List.getElem?_eq_some_iff.1 hx).1
  show qhb N l s s (s.length:Int) (n+1) i=_
  rw[qhb,if_pos (dpos (by omega)),h2 i x hx,qaa]
  by_cases h:(s.take i).any (bad1 x)=true
  ·rw[if_pos h,if_pos h]
  ·rw[if_neg h,if_neg h];dsimp only;rw[w64s (by omega)]) s.length N 0 (by omega) (by omega)
 rw[List.drop_zero] at h
 unfold zaY
 have h0:qoR N l s=some false:=by
  unfold qoR
  rw[hP.p N (by omega),qaa,if_neg (by simp)]
  congr 1
  exact decide_eq_false (by omega)
 rw[h0,qaa,if_neg (by simp),show qhb N l s s (s.length:Int) N 0=_ from h,qaa]
 unfold vRes
 cases res (fun i x=>(s.take i).any (bad1 x)) (fun _ _=>false) 0 s<;>rfl
theorem VOk.res {N:Nat} {l:List PlantElement} {s:List Lock} (h:VOk N l s):vRes s= .inl ():=by
 refine qbH.2 fun j x hx=> ?_
 rw[Nat.zero_add,Bool.eq_false_iff]
 intro hc
 obtain ⟨y,hy,hb⟩:=List.any_eq_true.1 hc
 obtain ⟨i,hi,hy⟩:=qkc.1 hy
 obtain ⟨hil,hie⟩:=List.getElem?_eq_some_iff.1 hy
 obtain ⟨hjl,hje⟩:=List.getElem?_eq_some_iff.1 hx
 have:=List.pairwise_iff_getElem.1 h.pw i j hil hjl hi
 rw[hie,hje] at this
 unfold bad1 at hb
 rw[qgb,this.2] at hb
 simp at hb
 exact this.1 hb.symm
theorem VOk.p {N:Nat} (hN:6000≤N) {l:List PlantElement} (hP:PlOk l) {s:List Lock} (h:VOk N l s):zaY N l s=some true:=by
 rw[qos N hN hP h.ok h.len,h.res]
theorem VOk.fi {N:Nat} {l:List PlantElement} {s:List Lock} (h:VOk N l s) {i:Nat} {x:Lock} (hx:s[i]? =some x):fi s x.iD=(i:Int):=by
 rcases qnJ s x.iD with ⟨_,h2⟩|⟨k,y,h1,h2,h3⟩
 ·exact absurd rfl (h2 x (List.mem_of_getElem? hx))
 ·rw[h1]
  obtain ⟨hil,hie⟩:=List.getElem?_eq_some_iff.1 hx
  obtain ⟨hkl,hke⟩:=List.getElem?_eq_some_iff.1 h2
  rcases Nat.lt_trichotomy k i with hki|rfl|hki
  ·have:=List.pairwise_iff_getElem.1 h.pw k i hkl hil hki
   rw[hie,hke] at this
   exact absurd h3 this.1
  ·rfl
  ·have:=List.pairwise_iff_getElem.1 h.pw i k hil hkl hki
   rw[hie,hke] at this
   exact absurd h3.symm this.1
theorem VOk.r {N:Nat} (hN:6000≤N) {l:List PlantElement} (hP:PlOk l) {s:List Lock} (h:VOk N l s):zdB N l s=some true:=by
 have hl:=h.len
 have h3:∀(i:Nat) (x:Lock),s[i]? =some x→∀(k n j:Nat),k<n→j+k=i→qjH N s i n j=some (.inl ()):=by
  intro i x hx k
  obtain ⟨hil,hie⟩:=List.getElem?_eq_some_iff.1 hx
  induction k with
  |zero=>
   intro n j hn hj
   obtain rfl:j=i:=by omega
   cases n with
   |zero=>omega
   |succ n=>rw[qjH,if_neg (dneg (by omega))]
  |succ k ih=>
   intro n j hn hj
   cases n with
   |zero=>omega
   |succ n=>
    have hjl:j<s.length:=by omega
    have:=List.pairwise_iff_getElem.1 h.pw j i hjl hil (by omega)
    rw[hie] at this
    rw[qjH,if_pos (dpos (by omega)),qac (qak hjl),qaa,qac hx,qaa,qpS N (by omega) (h.ok _ (List.getElem_mem hjl)).bnd (h.ok x (List.mem_of_getElem? hx)).bnd,qaa,this.2,if_neg (by simp),qad,w64s (by omega)]
    exact ih n (j+1) (by omega) (by omega)
 have h1:=qa8 (fun _:Lock=>false) false (fun n i=>qht N l s n i) N (l:=s) (by omega) (fun n=>by
   show qht N l s (n+1) _=_
   rw[qht,if_neg (dneg (by omega))]) fun n i x hx=>by
  have hlt:=(List.getElem?_eq_some_iff.1 hx).1
  have hk:=h.ok x (List.mem_of_getElem? hx)
  have h2:qpj N s i x.settings 0=some false:=by
   unfold qpj
   rw[qac hx,qaa,qaa,qaa,if_neg (dneg (by have:=hk.id;omega)),qm7 N (by omega) (by omega),qaa,h.fi hx,if_neg (by simp),if_neg (by simp),qpX N hk.bnd.2 (by omega),qaa]
   rfl
  show qht N l s (n+1) i=_
  rw[qht,if_pos (dpos (by omega)),qac hx,qaa,hk.r,qaa,h2,qaa,if_neg (by simp),show qjH N s i N 0=_ from h3 i x hx i N 0 (by omega) (by omega),qaa]
  dsimp only
  rw[if_neg (by simp),qad,w64s (by omega)]
 have h0:qpi N l s=some false:=by
  unfold qpi
  rw[hP.r N (by omega),qaa,if_neg (by simp)]
  congr 1
  exact decide_eq_false (by omega)
 unfold zdB
 rw[h0,qaa,if_neg (by simp),show qht N l s N 0=_ from h1,if_neg (by simp),qaa]
end Go.W
end
section
set_option linter.unusedVariables false
set_option linter.unusedSimpArgs false
namespace Go.W
open Go.AM
theorem qpY {l:List PlantElement} {r:List Visit} (hR:RtP l r):r.length≤l.length:=by
 have:=qbF (b:=(List.range l.length).map fun (i:Nat)=>(i:Int)) hR.2.2 fun a ha=>by
  obtain ⟨v,hv,rfl⟩:=List.mem_map.1 ha
  obtain ⟨h0,h1⟩:=hR.2.1.ok v hv
  exact List.mem_map.2 ⟨v.element.toNat,List.mem_range.2 (by omega),by omega⟩
 simpa[elems] using this
theorem qey (N:Nat) (hN:6000≤N) {l:List PlantElement} (hP:PlOk l) {r:List Visit} (hr:r.length≤1000):∃p,zbJ N l r=some p∧zcD N l r=some p∧p.1.length≤1000∧(p.2=0→RtP l r∧∃d o,PrP l r p.1 d o):=by
 rcases qk2 N hN hP.len hr (qwN hP (by omega)) with ⟨_,h1,h2⟩|⟨_,e,he,h1,h2⟩|⟨hR,s,d,o,h1,h2,h3,h4⟩
 ·exact ⟨_,h1,h2,by simp,fun h=>absurd h (by simp)⟩
 ·exact ⟨_,h1,h2,by simp,fun h=>absurd h he⟩
 ·exact ⟨_,h1,h2,h4,fun _=>⟨hR,d,o,h3⟩⟩
theorem qm9 (N:Nat) (hN:100000≤N) {l:List PlantElement} (hP:PlOk l) (fr to:Int):∃f,zdI N l fr to=some f∧f.1.length≤1000:=by
 have hl:=hP.len
 rcases qoy N hN hP fr to with ⟨h,_⟩|⟨_,_,_,h|h|⟨r,h,hR,_⟩⟩
 ·exact ⟨_,h,by simp⟩
 ·exact ⟨_,h,by simp⟩
 ·exact ⟨_,h,by simp⟩
 ·exact ⟨_,h,by have:=qpY hR;show r.length≤1000;omega⟩
theorem qie (N:Nat) (hN:4000≤N) {l:List PlantElement} (hP:PlOk l) (fr to:Int):∃f,zcT N l fr to=some f∧f.1.length≤1000:=by
 have hl:=hP.len
 rcases qqv N hN hP fr to with ⟨h,_⟩|⟨_,_,_,h|h|⟨r,h,hR,_⟩⟩
 ·exact ⟨_,h,by simp⟩
 ·exact ⟨_,h,by simp⟩
 ·exact ⟨_,h,by simp⟩
 ·exact ⟨_,h,by have:=qpY hR;show r.length≤1000;omega⟩
def setR (s:List Lock) (id:Int) (f:List Visit×Int) (p:List Setting×Int):List Lock×Int:=
 if id<0 then ([],2) else if 0≤fi s id then ([],8) else if s.length=16 then ([],18) else if f.2≠0 then ([],f.2) else if p.2≠0 then ([],p.2)
 else if s.any (cf (Lock.mk id f.1 p.1))=true then ([],23) else (s++[Lock.mk id f.1 p.1],0)
theorem qji {N:Nat} {l:List PlantElement} {s:List Lock} (hV:VOk N l s) {id:Int} {f:List Visit×Int} {p:List Setting×Int} (hf:f.1.length≤1000) (hp:zbJ N l f.1=some p) (hr:zcD N l f.1=some p) (hl:p.1.length≤1000) (h0:p.2=0→RtP l f.1∧∃d o,PrP l f.1 p.1 d o):
  (setR s id f p).2=0→(setR s id f p).1=s++[Lock.mk id f.1 p.1]∧VOk N l (s++[Lock.mk id f.1 p.1])∧fi s id= -1∧s.length≠16:=by
 unfold setR
 by_cases h1:id<0
 ·rw[if_pos h1];intro h;simp at h
 rw[if_neg h1]
 by_cases h2:0≤fi s id
 ·rw[if_pos h2];intro h;simp at h
 rw[if_neg h2]
 by_cases h3:s.length=16
 ·rw[if_pos h3];intro h;simp at h
 rw[if_neg h3]
 by_cases h4:f.2≠0
 ·rw[if_pos h4];intro h;exact absurd h h4
 rw[if_neg h4]
 by_cases h5:p.2≠0
 ·rw[if_pos h5];intro h;exact absurd h h5
 rw[if_neg h5]
 by_cases h6:s.any (cf (Lock.mk id f.1 p.1))=true
 ·rw[if_pos h6];intro h;simp at h
 rw[if_neg h6]
 intro _
 have h5:p.2=0:=by omega
 obtain ⟨hR,hd⟩:=h0 h5
 have hfi:fi s id= -1∧∀x∈s,x.iD≠id:=by
  rcases qnJ s id with h|⟨k,x,h,_⟩
  ·exact h
  ·omega
 have hpp:(p.1,(0:Int))=p:=by rw[←h5]
 refine ⟨rfl,⟨?_, ?_, ?_⟩,hfi.1,h3⟩
 ·have:=hV.len;simp;omega
 ·intro x hx
  rcases List.mem_append.1 hx with hx|hx
  ·exact hV.ok x hx
  ·rw[List.mem_singleton.1 hx]
   exact ⟨by show 0≤id;omega,⟨hf,hl⟩,by rw[hpp];exact hp,by rw[hpp];exact hr,hR,hd⟩
 ·rw[List.pairwise_append]
  refine ⟨hV.pw,by simp,fun a ha b hb=> ?_⟩
  rw[List.mem_singleton.1 hb]
  refine ⟨hfi.2 a ha, ?_⟩
  rw[qgb,Bool.eq_false_iff]
  exact fun hc=>h6 (List.any_eq_true.2 ⟨a,ha,hc⟩)
theorem qqk (N:Nat) {xs:List Visit} (h:xs.length≤1000):zaF N xs=some xs:=by
 unfold zaF
 refine qms fun t ht=> ?_
 cases t with
 |true=>rw[if_pos rfl,ht rfl]
 |false=>rw[if_neg (by simp),qap (by simp;omega),qaa,List.nil_append]
theorem qqj (N:Nat) {xs:List Setting} (h:xs.length≤1000):zaD N xs=some xs:=by
 unfold zaD
 refine qms fun t ht=> ?_
 cases t with
 |true=>rw[if_pos rfl,ht rfl]
 |false=>rw[if_neg (by simp),qap (by simp;omega),qaa,List.nil_append]
theorem qhL (N:Nat) {x:Lock} (h:Bnd x):zaV N x=some x:=by
 unfold zaV
 rw[qqk N h.1,qaa,qqj N h.2,qaa]
theorem qif (N:Nat) (hN:6000≤N) {x:Lock} (hx:Bnd x) {s:List Lock} (hs:∀y∈s,Bnd y) (hl:s.length≤1000):∀(k n i:Nat) (acc:List Lock),k<n→i+k=s.length→acc.length≤i→
  qjw N x s (s.length:Int) n acc i=some (if (s.drop i).any (cf x)=true then .inr 23 else .inl (acc++s.drop i))
 |k,0,i,acc,hn,_,_=>by omega
 |0,n+1,i,acc,hn,hi,_=>by
  obtain rfl:i=s.length:=by omega
  rw[qjw,if_neg (dneg (by omega)),List.drop_length,List.append_nil];rfl
 |k+1,n+1,i,acc,hn,hi,ha=>by
  have hlt:i<s.length:=by omega
  have hb:=hs _ (List.getElem_mem hlt)
  rw[qjw,if_pos (dpos (by omega)),qac (qak hlt),qaa,qpP N (by omega) hx hb,qaa,qaF (qak hlt),List.any_cons]
  by_cases h:cf x s[i]=true
  ·rw[if_pos h,h];rfl
  ·rw[if_neg h,qhL N hb,qaa,qap (by simp;omega),qaa,w64s (by omega),qif N hN hx hs hl k n (i+1) _ (by omega) (by omega) (by simp;omega)]
   rw[Bool.not_eq_true] at h
   rw[h,Bool.false_or,List.append_assoc];rfl
theorem qgJ (N:Nat) (hN:6000≤N) {l:List PlantElement} (hP:PlOk l) {s:List Lock} (hV:VOk N l s) {id fr to:Int} {f:List Visit×Int} {p:List Setting×Int} (hf:zcT N l fr to=some f) (hfl:f.1.length≤1000) (hp:zbJ N l f.1=some p) (hpl:p.1.length≤1000):
  zbK N l s id fr to=some (setR s id f p):=by
 have hl:=hV.len
 unfold zbK zaZ setR
 rw[hP.p N (by omega),qaa,if_neg (by simp),hV.p hN hP,qaa,if_neg (by simp),qaa,qad,if_neg (by simp),qad]
 by_cases h1:id<0
 ·rw[if_pos (dpos h1),if_pos h1]
 rw[if_neg (dneg h1),if_neg h1,qpQ N (by omega) (by omega),qaa,qad]
 by_cases h2:0≤fi s id
 ·rw[if_pos (lpos h2),if_pos h2]
 rw[if_neg (lneg h2),if_neg h2,qad]
 by_cases h3:s.length=16
 ·rw[if_pos (by simp[h3]),if_pos h3]
 rw[if_neg (by simp;omega),if_neg h3,hf,qaa]
 by_cases h4:f.2≠0
 ·rw[if_pos (by simpa using h4),if_pos h4]
 rw[if_neg (by simpa using h4),if_neg h4,hp,qaa]
 by_cases h5:p.2≠0
 ·rw[if_pos (by simpa using h5),if_pos h5]
 rw[if_neg (by simpa using h5),if_neg h5]
 have h:=qif N hN (x:=Lock.mk id f.1 p.1) ⟨hfl,hpl⟩ (fun y hy=>(hV.ok y hy).bnd) (by omega) s.length N 0 [] (by omega) (by omega) (by simp)
 rw[List.drop_zero,List.nil_append] at h
 rw[show qjw N (Lock.mk id f.1 p.1) s (s.length:Int) N [] 0=_ from h,qaa]
 by_cases h6:s.any (cf (Lock.mk id f.1 p.1))=true
 ·rw[if_pos h6,if_pos h6]
 ·rw[if_neg h6,if_neg h6]
  dsimp only
  rw[qap (by simp;omega),qaa]
theorem qeE (N:Nat) {s:List Lock} (hs:∀y∈s,Bnd y) (hl:s.length≤1000):∀(k n i:Nat) (acc:List Lock),k<n→i+k=s.length→acc.length≤i→qjE N s n acc i=some (acc++s.drop i)
 |k,0,i,acc,hn,_,_=>by omega
 |0,n+1,i,acc,hn,hi,_=>by
  obtain rfl:i=s.length:=by omega
  rw[qjE,if_neg (dneg (by omega)),List.drop_length,List.append_nil]
 |k+1,n+1,i,acc,hn,hi,ha=>by
  have hlt:i<s.length:=by omega
  have hb:=hs _ (List.getElem_mem hlt)
  rw[qjE,if_pos (dpos (by omega)),qac (qak hlt),qaa,qaa,qap (by have:=hb.1;simp;omega),qaa,qaa,qap (by have:=hb.2;simp;omega),qaa,List.nil_append,List.nil_append,qap (by simp;omega),qaa,qad,w64s (by omega),
   qeE N hs hl k n (i+1) _ (by omega) (by omega) (by simp;omega),qaF (qak hlt),List.append_assoc]
  rfl
theorem qhM (N:Nat) (hN:3000≤N) {s:List Lock} (hs:∀y∈s,Bnd y) (hl:s.length≤1000):zcS N s=some s:=by
 have h:=qeE N hs hl s.length N 0 [] (by omega) (by omega) (by simp)
 rw[List.drop_zero,List.nil_append] at h
 unfold zcS
 rw[show qjE N s N [] 0=_ from h,qaa]
theorem qrk (N:Nat) (hN:6000≤N) {l:List PlantElement} (hP:PlOk l) {s:List Lock} (hV:VOk N l s) {id fr to:Int} {f:List Visit×Int} {p:List Setting×Int} (hf:zdI N l fr to=some f) (hfl:f.1.length≤1000) (hp:zcD N l f.1=some p) (hpl:p.1.length≤1000):
  zdQ N l s id fr to=some (setR s id f p):=by
 have hl:=hV.len
 unfold zdQ zdC setR
 rw[hP.r N (by omega),qaa,if_neg (by simp),hV.r hN hP,qaa,if_neg (by simp),qaa,if_neg (by simp),qad]
 by_cases h1:id<0
 ·rw[if_pos (dpos h1),if_pos h1]
 rw[if_neg (dneg h1),if_neg h1,qm7 N (by omega) (by omega),qaa,qad]
 by_cases h2:0≤fi s id
 ·rw[if_pos (lpos h2),if_pos h2]
 rw[if_neg (lneg h2),if_neg h2,qad]
 by_cases h3:s.length=16
 ·rw[if_pos (by simp[h3]),if_pos h3]
 rw[if_neg (by simp;omega),if_neg h3,hf,qaa]
 by_cases h4:f.2≠0
 ·rw[if_pos (by simpa using h4),if_pos h4]
 rw[if_neg (by simpa using h4),if_neg h4,hp,qaa]
 by_cases h5:p.2≠0
 ·rw[if_pos (by simpa using h5),if_pos h5]
 rw[if_neg (by simpa using h5),if_neg h5]
 have h:=qa8 (cf (Lock.mk id f.1 p.1)) (23:Int) (fun n i=>qhv N s (Lock.mk id f.1 p.1) n i) N (l:=s) (by omega) (fun n=>by
   show qhv N s (Lock.mk id f.1 p.1) (n+1) _=_
   rw[qhv,if_neg (dneg (by omega))]) fun n i y hy=>by
  have hlt:=(List.getElem?_eq_some_iff.1 hy).1
  show qhv N s (Lock.mk id f.1 p.1) (n+1) i=_
  rw[qhv,if_pos (dpos (by omega)),qac hy,qaa,qpS N (by omega) (hV.ok y (List.mem_of_getElem? hy)).bnd ⟨hfl,hpl⟩,qaa,qgb,qad,w64s (by omega)]
 rw[show qhv N s (Lock.mk id f.1 p.1) N 0=_ from h,qaa]
 by_cases h6:s.any (cf (Lock.mk id f.1 p.1))=true
 ·rw[if_pos h6,if_pos h6]
 ·rw[if_neg h6,if_neg h6]
  dsimp only
  rw[qhM N (by omega) (fun y hy=>(hV.ok y hy).bnd) (by omega),qaa,qap (by simp;omega),qaa]
def del (s:List Lock) (k:Nat):List Lock:=s.take k++s.drop (k+1)
def relR (s:List Lock) (id:Int):List Lock×Int:=if fi s id<0 then ([],13) else (del s (fi s id).toNat,0)
theorem qqm (s:List Lock) (k:Nat):(del s k).Sublist s:=by
 unfold del
 conv=>rhs;rw[←List.take_append_drop k s]
 have h:=List.drop_sublist 1 (s.drop k)
 rw[List.drop_drop] at h
 exact List.Sublist.append (List.Sublist.refl _) h
theorem VOk.sub {N:Nat} {l:List PlantElement} {s t:List Lock} (h:VOk N l s) (ht:t.Sublist s):VOk N l t:=⟨by have:=h.len;have:=ht.length_le;omega,fun x hx=>h.ok x (ht.subset hx),h.pw.sublist ht⟩
theorem qe4 (N:Nat) {s:List Lock} (hs:∀y∈s,Bnd y) (hl:s.length≤1000) {q:Nat} (hq:q<s.length):∀(k n i:Nat) (acc:List Lock),k<n→i+k=s.length→acc.length≤i→qjs N (q:Int) s (s.length:Int) n acc i=some (acc++if i≤q then (s.take q).drop i++s.drop (q+1) else s.drop i)
 |k,0,i,acc,hn,_,_=>by omega
 |0,n+1,i,acc,hn,hi,_=>by
  obtain rfl:i=s.length:=by omega
  rw[qjs,if_neg (dneg (by omega)),if_neg (by omega),List.drop_length,List.append_nil]
 |k+1,n+1,i,acc,hn,hi,ha=>by
  have hlt:i<s.length:=by omega
  have hb:=hs _ (List.getElem_mem hlt)
  rw[qjs,if_pos (dpos (by omega))]
  unfold qrv
  rw[qac (qak hlt),qaa]
  by_cases h:i=q
  ·subst h
   have hd:(s.take i).drop i=[]:=List.drop_eq_nil_of_le (by rw[List.length_take];omega)
   rw[if_neg (by simp),qaa,w64s (by omega),qe4 N hs hl hq k n (i+1) _ (by omega) (by omega) (by omega),if_neg (by omega),if_pos (Nat.le_refl i),hd,List.nil_append]
  ·rw[if_pos (by simp;omega),qhL N hb,qaa,qap (by simp;omega),qaa,qaa,w64s (by omega),qe4 N hs hl hq k n (i+1) _ (by omega) (by omega) (by simp;omega)]
   by_cases h2:i<q
   ·have htk:(s.take q)[i]? =some s[i]:=by rw[List.getElem?_take,if_pos h2];exact qak hlt
    rw[if_pos (by omega),if_pos (by omega),qaF htk,List.append_assoc]
    rfl
   ·rw[if_neg (by omega),if_neg (by omega),qaF (qak hlt),List.append_assoc]
    rfl
theorem qmO (N:Nat) (hN:6000≤N) {l:List PlantElement} (hP:PlOk l) {s:List Lock} (hV:VOk N l s) (id:Int):zaP N l s id=some (relR s id):=by
 have hl:=hV.len
 unfold zaP zaZ relR
 rw[hP.p N (by omega),qaa,if_neg (by simp),hV.p hN hP,qaa,if_neg (by simp),qaa,if_neg (by simp),qpQ N (by omega) (by omega),qaa]
 rcases qnJ s id with ⟨h,_⟩|⟨k,x,h,hx,_⟩
 ·rw[h,if_pos (by decide),if_pos (by decide)]
 ·have hk:=(List.getElem?_eq_some_iff.1 hx).1
  have hr:=qe4 N (fun y hy=>(hV.ok y hy).bnd) (by omega) hk s.length N 0 [] (by omega) (by omega) (by simp)
  rw[h,if_neg (dneg (by omega)),if_neg (by omega),show qjs N (k:Int) s (s.length:Int) N [] 0=_ from hr,qaa,if_pos (by omega),List.drop_zero,List.nil_append]
  rfl
theorem qrj (N:Nat) (hN:6000≤N) {l:List PlantElement} (hP:PlOk l) {s:List Lock} (hV:VOk N l s) (id:Int):zcE N l s id=some (relR s id):=by
 have hl:=hV.len
 unfold zcE zdC relR
 rw[hP.r N (by omega),qaa,if_neg (by simp),hV.r hN hP,qaa,if_neg (by simp),qaa,if_neg (by simp),qm7 N (by omega) (by omega),qaa]
 rcases qnJ s id with ⟨h,_⟩|⟨k,x,h,hx,_⟩
 ·rw[h,if_pos (by decide),if_pos (by decide)]
 ·have hk:=(List.getElem?_eq_some_iff.1 hx).1
  have hc3:qhN s (k:Int) (k:Int)=some (s.take k):=by
   unfold qhN;rw[if_pos ⟨by omega,by omega,by omega,rfl⟩];simp
  rw[h,if_neg (dneg (by omega)),if_neg (by omega),qhM N (by omega) (fun y hy=>(hV.ok y hy).bnd) (by omega),qaa,hc3,qaa,w64s (by omega),qbt (by omega),qaa,qap (by simp;omega),qaa,ite_self]
  rfl
theorem VOk.rel {N:Nat} {l:List PlantElement} {s:List Lock} (h:VOk N l s) {id:Int} (h0:(relR s id).2=0):VOk N l (relR s id).1:=by
 unfold relR at h0⊢
 by_cases h1:Go.W.fi s id<0
 ·rw[if_pos h1] at h0;simp at h0
 ·rw[if_neg h1];exact h.sub (qqm s _)
theorem VOk.nil (N:Nat) (l:List PlantElement):VOk N l []:=⟨by simp,by simp,List.Pairwise.nil⟩
end Go.W
end
section
set_option linter.unusedVariables false
set_option linter.unusedSimpArgs false
namespace Go.W
open Go.AM
theorem qoL {l:List PlantElement} (hP:MadeP l):1≤(trks l 0 l).length:=by
 obtain ⟨x,hx,hk⟩:=hP.fst
 have key:∀q:List PlantElement,q[0]? =some x→1≤(trks l 0 q).length:=fun q hq=>by
  cases q with
  |nil=>simp at hq
  |cons y q=>
   have:y=x:=by simpa using hq
   subst this
   rw[trks,if_pos hk];simp
 exact key l hx
theorem act1 (N:Nat) {l:List PlantElement} (hP:MadeP l) {c:Int} {s:Maker} (hs:Mk c s) (hc:c≤1000000) (a:Act) (b:Bool):∃s' a',qpn N s l (trks l 0 l) a b=some (s',a')∧Mk (c+2) s'∧a'.id=a.id:=by
 have hl:=hP.ok.len
 have ht:=qoL hP
 have ht2:=qg1 l l 0
 unfold qpn
 cases b with
 |false=>rw[if_neg (by simp)];exact ⟨s,a,rfl,hs.le (by omega),rfl⟩
 |true=>
  rw[if_pos rfl]
  obtain ⟨r,s1,h1,h2,h3,h4⟩:=qaU N (s:=s) (c:=c) ((trks l 0 l).length:Int) (by omega) (by omega) hs (by omega)
  obtain ⟨x,hx,_⟩:=qiW h2 h3
  obtain ⟨r2,s2,g1,g2,g3,g4⟩:=qaU N (s:=s1) (c:=c+1) ((l.length:Int)+1) (by omega) (by omega) h4 (by omega)
  rw[h1,qaa]
  dsimp only
  rw[hx,qaa,qaa,w64 (by omega) (by omega),g1,qaa]
  exact ⟨s2,_,rfl,g4.le (by omega),rfl⟩
theorem qhy (N:Nat) (hN:4000≤N) {l:List PlantElement} (hP:MadeP l) {m:Nat} (hm:m≤100):∀(k n i:Nat) (c:Int) (s:Maker) (q:List Act),k<n→i+k=m→Mk c s→c+40*k≤900000→q.length=i→(∀a∈q,0≤a.id∧a.id<6)→
  ∃q' s',qjI N (m:Int) l (trks l 0 l) n s q i=some (s',q')∧Mk (c+40*k) s'∧q'.length=m∧∀a∈q',0≤a.id∧a.id<6
 |k,0,i,c,s,q,hn,_,_,_,_,_=>by omega
 |0,n+1,i,c,s,q,hn,hi,hs,hc,hq,ha=>by
  obtain rfl:i=m:=by omega
  rw[qjI,if_neg (dneg (by omega))]
  exact ⟨q,s,rfl,hs.le (by omega),hq,ha⟩
 |k+1,n+1,i,c,s,q,hn,hi,hs,hc,hq,ha=>by
  obtain ⟨w,s1,h1,h2,h3,h4,_⟩:=qns N hN hP hs (by omega)
  obtain ⟨a,s2,a1,a2,a3,a4⟩:=qaU N (s:=s1) (c:=c+30) 4 (by omega) (by omega) h2 (by omega)
  obtain ⟨b,s3,b1,b2,b3,b4⟩:=qaU N (s:=s2) (c:=c+30+1) 6 (by omega) (by omega) a4 (by omega)
  obtain ⟨e,s4,e1,e2,e3,e4⟩:=qaU N (s:=s3) (c:=c+30+1+1) 5 (by omega) (by omega) b4 (by omega)
  have hw0:=qak (xs:=w) (i:=0) (by omega)
  have hw1:=qak (xs:=w) (i:=w.length - 1) (by omega)
  have hwi:IntKind.wrap .i64 ((w.length:Int) - 1)=((w.length - 1:Nat):Int):=by rw[w64 (by omega) (by omega)];omega
  have hg0:getI w 0=some (w[0]'(by omega)):=qac (i:=0) hw0
  obtain ⟨s5,a',f1,f2,f3⟩:=act1 N hP e4 (by omega) (Act.mk (decide (0<a)) b (w[0]'(by omega)).element (w[w.length - 1]'(by omega)).element) (e==0)
  rw[qjI,if_pos (dpos (by omega)),h1,qaa]
  dsimp only
  rw[a1,qaa]
  dsimp only
  rw[b1,qaa,hg0,qaa,qaa,hwi,qac hw1,qaa,qaa]
  dsimp only
  rw[e1,qaa]
  dsimp only
  rw[f1,qaa,qap (by simp;omega),qaa,qad,w64s (by omega)]
  obtain ⟨q',s',g1,g2,g3,g4⟩:=qhy N hN hP hm k n (i+1) (c+40) s5 (q++[a']) (by omega) (by omega) (f2.le (by omega)) (by omega) (by simp;omega) fun x hx=>by
   rcases List.mem_append.1 hx with hx|hx
   ·exact ha x hx
   ·rw[List.mem_singleton.1 hx,f3];exact ⟨b2,b3⟩
  exact ⟨q',s',g1,g2.le (by omega),g3,g4⟩
theorem qqa (N:Nat) (hN:4000≤N) {s:Maker} (hs:Mk 0 s) {m:Nat} (hm:m≤100):∃l q s',zdE N s (m:Int)=some (l,q,s')∧MadeP l∧Mk 40000 s'∧q.length=m∧∀a∈q,0≤a.id∧a.id<6:=by
 obtain ⟨l,s1,h1,h2,hP⟩:=qom N (by omega) hs (k:=20) (by omega)
 have hl:=hP.ok.len
 obtain ⟨q,s',g1,g2,g3,g4⟩:=qhy N hN hP hm m N 0 30000 s1 [] (by omega) (by omega) h2 (by omega) rfl (by simp)
 unfold zdE
 rw[h1,qaa]
 dsimp only
 rw[qip N (by omega) (by omega),qaa,show qjI N (m:Int) l (trks l 0 l) N s1 [] 0=_ from g1,qaa]
 exact ⟨l,q,s',rfl,hP,g2.le (by omega),g3,g4⟩
def qa6:List PlantElement:=[(PlantElement.mk 1 [116,49] 0 1 0 9),(PlantElement.mk 2 [119] 1 2 3 0),(PlantElement.mk 1 [116,50] 2 4 0 9),(PlantElement.mk 3 [100] 3 5 0 0),(PlantElement.mk 1 [116,51] 5 6 0 9),(PlantElement.mk 1 [116,52] 4 7 0 9)]
def wI:List Visit:=[(Visit.mk 0 (-1) 1),(Visit.mk 1 1 2),(Visit.mk 2 2 (-1))]
def wJ:List Visit:=[(Visit.mk 2 (-1) 2),(Visit.mk 1 2 1),(Visit.mk 0 1 (-1))]
def sI:List Setting:=[Setting.mk 1 1,Setting.mk 3 4]
theorem qhY:PlOk qa6:=PlOk.of (by
 have h1:=qe6 160 (by omega) (l:=qa6)
 have h2:zbZ 160 qa6=some 0:=by kernel_rfl
 rw[h1] at h2
 exact Option.some.inj h2)
theorem qsi (M:Nat):zcT (M+60) qa6 0 2=some (wI,0):=by kernel_rfl
theorem qsj (M:Nat):zcT (M+60) qa6 2 0=some (wJ,0):=by kernel_rfl
theorem qwz (M:Nat):zcF (M+60) qa6 wI=some true:=by kernel_rfl
theorem qwA (M:Nat):zcF (M+60) qa6 wJ=some true:=by kernel_rfl
theorem qwx (M:Nat):qfl (M+60) qa6 wI (wI.length:Int) (M+60) [] 0=some [Setting.mk 1 1]:=by kernel_rfl
theorem qwy (M:Nat):qfl (M+60) qa6 wJ (wJ.length:Int) (M+60) [] 0=some [Setting.mk 1 1]:=by kernel_rfl
theorem qsk (M:Nat):zbY (M+60) qa6 wI=some ([(3,4)],0):=by kernel_rfl
theorem qsl (M:Nat):zbY (M+60) qa6 wJ=some ([(3,4)],0):=by kernel_rfl
theorem qsm {N:Nat} {w:List Visit} (h1:zcF N qa6 w=some true) (h2:qfl N qa6 w (w.length:Int) N [] 0=some [Setting.mk 1 1]) (h3:zbY N qa6 w=some ([(3,4)],0)):zbJ N qa6 w=some (sI,0):=by
 have hset:zbG N qa6 w=some ([Setting.mk 1 1],0):=by
  unfold zbG
  rw[h1,qaa,if_neg (by simp),h2,qaa,qp2 (by simp) (by simp),qaa]
 unfold zbJ
 rw[hset,qaa,if_neg (by simp),h3,qaa,if_neg (by simp)]
 unfold qnx rngM
 rw[if_pos ⟨by simp,by simp⟩]
 simp only[List.map_cons,List.map_nil,List.cons_append,List.nil_append]
 rw[qp2 (by simp) (by simp),qaa,qaa]
 rfl
def lI:Lock:=Lock.mk 7 wI sI
theorem qs0 {N:Nat} (hN:100000≤N):zdF N=some true:=by
 obtain ⟨M,rfl⟩:∃M,N=M+60:=⟨N - 60,by omega⟩
 have hs:zcV (M+60)=some qa6:=rfl
 have p1:=qsm (qwz M) (qwx M) (qsk M)
 have p2:=qsm (qwA M) (qwy M) (qsl M)
 have hV0:=VOk.nil (M+60) qa6
 obtain ⟨p,q1,q2,q3,q4⟩:=qey (M+60) (by omega) qhY (r:=wI) (by decide)
 rw[p1] at q1
 cases q1
 have e1:setR [] 7 (wI,0) (sI,0)=([lI],0):=by kernel_rfl
 have k1:=qgJ (M+60) (by omega) qhY hV0 (id:=7) (qsi M) (show wI.length≤1000 by decide) p1 (show sI.length≤1000 by decide)
 rw[e1] at k1
 obtain ⟨_,hV,_,_⟩:=qji hV0 (id:=7) (f:=(wI,0)) (p:=(sI,0)) (show wI.length≤1000 by decide) p1 q2 (show sI.length≤1000 by decide) q4 (by rw[e1])
 have hV:VOk (M+60) qa6 [lI]:=hV
 have k2:=qgJ (M+60) (by omega) qhY hV (id:=8) (qsj M) (show wJ.length≤1000 by decide) p2 (show sI.length≤1000 by decide)
 have e2:setR [lI] 8 (wJ,0) (sI,0)=([],23):=by kernel_rfl
 rw[e2] at k2
 obtain ⟨f,f1,f2⟩:=qie (M+60) (by omega) qhY 2 5
 obtain ⟨p,g1,_,g3,_⟩:=qey (M+60) (by omega) qhY f2
 have k3:=qgJ (M+60) (by omega) qhY hV (id:=7) f1 f2 g1 g3
 have e3:setR [lI] 7 f p=([],8):=by kernel_rfl
 rw[e3] at k3
 have k4:=qmO (M+60) (by omega) qhY hV 7
 have e4:relR [lI] 7=([],0):=by kernel_rfl
 rw[e4] at k4
 unfold zdF
 rw[hs,qaa,k1,qaa,qaa]
 dsimp only
 rw[k2,qaa,qaa,k3,qaa,qaa,k4,qaa]
 have h0:qpo (M+60) [lI] 0 23 8 [] 0=some true:=by
  have hg:getI [lI] 0=some lI:=rfl
  unfold qpo
  rw[if_pos (by rfl),if_pos (by rfl),hg,qaa,if_pos (by rfl),qaa,if_pos (by rfl),qaa,if_pos (by rfl),hs,qaa,hV.p (by omega) qhY,qaa,if_pos rfl,if_pos (by rfl),if_pos (by rfl),if_pos (by rfl),qad]
  rfl
 dsimp only
 rw[h0,qaa]
end Go.W
end
section
set_option linter.unusedVariables false
set_option linter.unusedSimpArgs false
namespace Go.W
open Go.AM
theorem qrq (N:Nat) {a:List Visit} (ha:a.length≤1000) (hN:3000≤N):zbF N a a=some true:=by
 have h:=qa8 (fun _:Visit=>false) false (fun n i=>qhe N a a n i) N (l:=a) (by omega) (fun n=>by
   show qhe N a a (n+1) _=_
   rw[qhe,if_neg (dneg (by omega))]) fun n i x hx=>by
  have hl:=(List.getElem?_eq_some_iff.1 hx).1
  show qhe N a a (n+1) i=_
  rw[qhe,if_pos (dpos (by omega)),qac hx,qaa,qaa,if_neg (by simp),if_neg (by simp),qad,w64s (by omega)]
 unfold zbF
 rw[if_neg (by simp),show qhe N a a N 0=_ from h,if_neg (by simp),qaa]
theorem qp1 (N:Nat) (hN:3000≤N) {s:List Lock} (hs:∀x∈s,Bnd x) (hl:s.length≤1000):zaR N s s=some true:=by
 have h:=qa8 (fun _:Lock=>false) false (fun n i=>qhh N s s n i) N (l:=s) (by omega) (fun n=>by
   show qhh N s s (n+1) _=_
   rw[qhh,if_neg (dneg (by omega))]) fun n i x hx=>by
  have hl:=(List.getElem?_eq_some_iff.1 hx).1
  have hb:=hs x (List.mem_of_getElem? hx)
  have h1:qoX N s s i=some false:=by
   unfold qoX
   rw[qac hx,qaa,qaa,if_neg (by simp),qaa,qaa,qrq N hb.1 hN,qaa,if_neg (by simp),qaa,qaa,qpX N hb.2 hN,qaa]
   rfl
  show qhh N s s (n+1) i=_
  rw[qhh,if_pos (dpos (by omega)),h1,qaa,if_neg (by simp),if_neg (by simp),qad,w64s (by omega)]
 unfold zaR zbQ
 rw[if_neg (by simp),show qhh N s s N 0=_ from h,if_neg (by simp),qaa,qaa]
theorem qxc (N:Nat) (hN:100000≤N) {l:List PlantElement} (hP:PlOk l) {s:List Lock} (hV:VOk N l s) {id fr to:Int}:∃f p,zdI N l fr to=some f∧f.1.length≤1000∧zbJ N l f.1=some p∧zcD N l f.1=some p∧p.1.length≤1000∧zdQ N l s id fr to=some (setR s id f p)∧
  ((setR s id f p).2=0→VOk N l (setR s id f p).1):=by
 obtain ⟨f,f1,f2⟩:=qm9 N hN hP fr to
 obtain ⟨p,p1,p2,p3,p4⟩:=qey N (by omega) hP f2
 refine ⟨f,p,f1,f2,p1,p2,p3,qrk N (by omega) hP hV f1 f2 p2 p3,fun h=> ?_⟩
 obtain ⟨g1,g2,_⟩:=qji hV (id:=id) f2 p1 p2 p3 p4 h
 rw[g1];exact g2
theorem qkS (N:Nat) (hN:100000≤N) {l:List PlantElement} (hP:PlOk l) {q:List Act} {s:List Lock} {i:Nat} (hi:i<q.length) (hV:VOk N l s):∃s',qpa N l q s i=some s'∧VOk N l s':=by
 have ha:=qak hi
 unfold qpa
 rw[qac ha,qaa,qrj N (by omega) hP hV,qaa,qaa]
 unfold qrM
 cases (q[i]).set with
 |false=>
  rw[if_neg (by simp),qaa]
  dsimp only
  by_cases h0:(relR s q[i].id).2=0
  ·rw[if_pos (by simpa using h0)];exact ⟨_,rfl,hV.rel h0⟩
  ·rw[if_neg (by simpa using h0)];exact ⟨_,rfl,hV⟩
 |true=>
  obtain ⟨f,p,_,_,_,_,_,h1,h2⟩:=qxc N hN hP hV (id:=q[i].id) (fr:=q[i].from_) (to:=q[i].to)
  rw[if_pos rfl,qac ha,qaa,qaa,qaa,h1,qaa,qaa]
  dsimp only
  by_cases h0:(setR s q[i].id f p).2=0
  ·rw[if_pos (by simpa using h0)];exact ⟨_,rfl,h2 h0⟩
  ·rw[if_neg (by simpa using h0)];exact ⟨_,rfl,hV⟩
theorem qeS (N:Nat) (hN:100000≤N) {l:List PlantElement} (hP:PlOk l) {q:List Act} (hq:q.length≤1000):∀(k n i:Nat) (s:List Lock),k<n→i+k=q.length→VOk N l s→∃s',qjD N l q n s i=some s'∧VOk N l s'
 |k,0,i,s,hn,_,_=>by omega
 |0,n+1,i,s,hn,hi,h=>by
  rw[qjD,if_neg (dneg (by omega))]
  exact ⟨s,rfl,h⟩
 |k+1,n+1,i,s,hn,hi,h=>by
  obtain ⟨s1,h1,h2⟩:=qkS N hN hP (q:=q) (i:=i) (by omega) h
  rw[qjD,if_pos (dpos (by omega)),h1,qaa,qad,w64s (by omega)]
  exact qeS N hN hP hq k n (i+1) s1 (by omega) (by omega) h2
theorem qmc (N:Nat) (hN:100000≤N) {l:List PlantElement} (hP:PlOk l) {q:List Act} (hq:q.length≤1000):∃s,zcN N l q=some s∧VOk N l s:=by
 obtain ⟨s,h1,h2⟩:=qeS N hN hP hq q.length N 0 [] (by omega) (by omega) (VOk.nil N l)
 unfold zcN
 rw[show qjD N l q N [] 0=_ from h1,qaa]
 exact ⟨s,rfl,h2⟩
def InL (s:List Lock) (y:Setting):Prop:=∃x∈s,y∈x.settings
theorem VOk.fun {N:Nat} {l:List PlantElement} {s:List Lock} (h:VOk N l s) {y z:Setting} (hy:InL s y) (hz:InL s z) (he:y.element=z.element):y=z:=by
 have hp:y.position=z.position:=by
  obtain ⟨a,ha,hy⟩:=hy
  obtain ⟨b,hb,hz⟩:=hz
  by_cases hab:a=b
  ·subst hab
   obtain ⟨d,o,hpr⟩:=(h.ok a ha).pr
   rw[←qpv hpr.lt hy,←qpv hpr.lt hz,he]
  ·obtain ⟨i,hi⟩:=List.getElem?_of_mem ha
   obtain ⟨j,hj⟩:=List.getElem?_of_mem hb
   obtain ⟨hil,hie⟩:=List.getElem?_eq_some_iff.1 hi
   obtain ⟨hjl,hje⟩:=List.getElem?_eq_some_iff.1 hj
   have hc:cf a b=false:=by
    rcases Nat.lt_trichotomy i j with hlt|rfl|hlt
    ·have:=(List.pairwise_iff_getElem.1 h.pw i j hil hjl hlt).2
     rwa [hie,hje] at this
    ·rw[hie] at hje;exact absurd hje hab
    ·have:=(List.pairwise_iff_getElem.1 h.pw j i hjl hil hlt).2
     rw[hie,hje,qgb] at this;exact this
   by_cases hpos:y.position=z.position
   ·exact hpos
   ·rw[Bool.eq_false_iff] at hc
    exact absurd (qjU.2 (.inr ⟨y,hy,z,hz,he,hpos⟩)) hc
 cases y;cases z;simp at he hp⊢;exact ⟨he,hp⟩
structure PoI (s:List Lock) (q:List Setting) (P:Setting→Prop) (c:Nat):Prop where
 len:q.length≤c
 nd:(q.map Setting.element).Nodup
 mem:∀y,y∈q↔P y
 sub:∀y,P y→InL s y
end Go.W
end
section
set_option linter.unusedVariables false
set_option linter.unusedSimpArgs false
namespace Go.W
open Go.AM
theorem qox {N:Nat} {l:List PlantElement} {s:List Lock} {x:Lock} (h:VOk N l (s++[x])):relR (s++[x]) x.iD=(s,0):=by
 have hf:=h.fi (i:=s.length) (x:=x) (by simp)
 unfold relR
 rw[hf,if_neg (by omega)]
 unfold del
 simp
theorem qnR (N:Nat) (hN:100000≤N) {l:List PlantElement} (hP:MadeP l) {s:List Lock} (hV:VOk N l s) {c:Int} {k:Maker} (hk:Mk c k) (hc:c≤800000):∃k',qoM N k l s=some (.inl k')∧Mk (c+30) k':=by
 have hl:=hV.len
 obtain ⟨w,k',h1,h2,h3,h4,_⟩:=qns N (by omega) hP hk (by omega)
 have hw0:=qak (xs:=w) (i:=0) (by omega)
 have hw1:=qak (xs:=w) (i:=w.length - 1) (by omega)
 have hwi:IntKind.wrap .i64 ((w.length:Int) - 1)=((w.length - 1:Nat):Int):=by rw[w64 (by omega) (by omega)];omega
 have hg0:getI w 0=some (w[0]'(by omega)):=qac (i:=0) hw0
 obtain ⟨fr,hfr⟩:∃fr,fr=(w[0]'(by omega)).element:=⟨_,rfl⟩
 obtain ⟨to,hto⟩:∃to,to=(w[w.length - 1]'(by omega)).element:=⟨_,rfl⟩
 obtain ⟨f,f1,f2⟩:=qie N (by omega) hP.ok fr to
 obtain ⟨p,p1,p2,p3,p4⟩:=qey N (by omega) hP.ok f2
 have hs:=qgJ N (by omega) hP.ok hV (id:=50) f1 f2 p1 p3
 have hsr:=qji hV (id:=50) f2 p1 p2 p3 p4
 unfold qoM
 rw[h1,qaa]
 dsimp only
 rw[hg0,qaa,qaa,hwi,qac hw1,qaa,qaa,←hfr,←hto,hs,qaa]
 by_cases h0:(setR s 50 f p).2=0
 ·obtain ⟨g1,g2,_,_⟩:=hsr h0
  obtain ⟨x,hx⟩:∃x,x=Lock.mk 50 f.1 p.1:=⟨_,rfl⟩
  rw[←hx] at g1 g2
  have hset:setR s 50 f p=(s++[x],0):=by rw[←g1,←h0]
  have hrel:=qox g2
  have hid:x.iD=50:=by rw[hx]
  rw[hid] at hrel
  rw[hset] at hs
  have h2':qoN N s (s++[x]) s 0 (s++[x]) 0=some false:=by
   unfold qoN
   rw[if_neg (by simp),qp1 N (by omega) (fun y hy=>(hV.ok y hy).bnd) (by omega),qaa,if_neg (by simp),if_neg (by simp),qp1 N (by omega) (fun y hy=>(g2.ok y hy).bnd) (by simp;omega),qaa,if_neg (by simp),w64s (by omega)]
   simp
  rw[hset,if_neg (by simp)]
  dsimp only
  rw[qmO N (by omega) hP.ok g2,hrel,qaa,qaa,qaa,qaa]
  dsimp only
  rw[qaa]
  try dsimp only
  rw[←hfr,←hto,hs,qaa]
  dsimp only
  rw[h2',qaa,if_neg (by simp)]
  exact ⟨k',rfl,h2⟩
 ·rw[if_pos (by simpa using h0)]
  exact ⟨k',rfl,h2⟩
theorem qhZ (N:Nat) (hN:100000≤N) {l:List PlantElement} (hP:MadeP l) {s:List Lock} (hV:VOk N l s):∀(j n i:Nat) (c:Int) (k:Maker),j<n→i+j=4→Mk c k→c+30*j≤700000→qjr N l s n k i=some (.inl ())
 |j,0,i,c,k,hn,_,_,_=>by omega
 |0,n+1,i,c,k,hn,hi,hk,hc=>by
  obtain rfl:i=4:=by omega
  rw[qjr,if_neg (dneg (by omega))]
 |j+1,n+1,i,c,k,hn,hi,hk,hc=>by
  obtain ⟨k',h1,h2⟩:=qnR N hN hP hV hk (by omega)
  rw[qjr,if_pos (dpos (by omega)),h1,qaa]
  dsimp only
  rw[qad,w64s (by omega)]
  exact qhZ N hN hP hV j n (i+1) (c+30) k' (by omega) (by omega) h2 (by omega)
theorem relT (t:List Int):∃N,zaK N t=some true:=by
 refine ⟨100000, ?_⟩
 obtain ⟨N,hN⟩:∃N:Nat,N=100000:=⟨_,rfl⟩
 rw[←hN]
 have hN:100000≤N:=by omega
 obtain ⟨l,q,s',h1,hP,hs',h2,_⟩:=qqa N (by omega) (mk0 t) (m:=8) (by omega)
 obtain ⟨s,g1,hV⟩:=qmc N hN hP.ok (q:=q) (by omega)
 have h4:=qhZ N hN hP hV 4 N 0 40000 s' (by omega) (by omega) hs' (by omega)
 have h1:zdE N (Maker.mk t 0) 8=some (l,q,s'):=h1
 have h4:qjr N l s N s' 0=some (.inl ()):=h4
 unfold zaK zdM
 rw[qaa,h1,qaa]
 dsimp only
 rw[g1,qaa,h4,qaa]
 dsimp only
 rw[qs0 hN,qaa]
end Go.W
end
