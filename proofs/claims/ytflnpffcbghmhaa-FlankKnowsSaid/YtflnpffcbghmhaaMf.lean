/- LFk2 LFk3 LFk4 LFk5 LFk6 LFk7 LFk8 LFkN -/
import Derived.Test.YtflnpffcbghmhaaMe
section
set_option linter.unusedVariables false
set_option linter.unusedSimpArgs false
namespace Go.W
open Go.AM
def onwE (x:PlantElement) (p n:Int):List Int:=if x.kind=3∧p=4 then [] else if x.kind=2∧n=x.a∧p=1 then [x.b] else if x.kind=2∧n=x.a∧p=2 then [x.c] else thrE (qae x) n
def onw (l:List PlantElement) (p:Int→Int) (i n:Int):List Int:=if 0≤i then (match l[i.toNat]? with|some x=>onwE x (p i) n|none=>[]) else []
def vS {K:Type} (l:List PlantElement) (on:List Int) (p:Int→Int) (fi la:Int) (key:Spot→K):Sr Spot K where
 dead:=fun v=>decide (nbr l v.element v.node<0)
 fin:=fun v=>on.contains (nbr l v.element v.node)
 hit:=fun v=>(nbr l v.element v.node !=fi)&&(nbr l v.element v.node !=la)
 suc:=fun v=>(onw l p (nbr l v.element v.node) v.node).map (Spot.mk (nbr l v.element v.node))
 key:=key
def allS (l:List PlantElement):List Spot:=(List.range l.length).flatMap fun (i:Nat)=>(eI l (i:Int)).map fun n=>Spot.mk (i:Int) n
theorem sum3 (l:List PlantElement):∀(k:List Nat),(k.flatMap fun (i:Nat)=>(eI l (i:Int)).map fun n=>Spot.mk (i:Int) n).length≤3*k.length
 |[]=>by simp
 |i::k=>by
  have:=sum3 l k
  have:=qdJ l (i:Int)
  rw[List.flatMap_cons,List.length_append,List.length_map,List.length_cons]
  omega
theorem allS_len (l:List PlantElement):(allS l).length≤3*l.length:=by
 have:=sum3 l (List.range l.length)
 rwa [List.length_range] at this
theorem qfs {l:List PlantElement} {v:Spot}:v∈allS l↔v.node∈eI l v.element:=by
 constructor
 ·intro h
  obtain ⟨i,_,h⟩:=List.mem_flatMap.1 h
  obtain ⟨n,hn,rfl⟩:=List.mem_map.1 h
  exact hn
 ·intro h
  obtain ⟨h0,h1,_⟩:=qef h
  refine List.mem_flatMap.2 ⟨v.element.toNat,List.mem_range.2 (by omega),List.mem_map.2 ⟨v.node, ?_, ?_⟩⟩
  ·rw[Int.toNat_of_nonneg h0];exact h
  ·rw[Int.toNat_of_nonneg h0]
theorem qhO {l:List PlantElement} {i:Int} {x:PlantElement} (h0:0≤i) (h:l[i.toNat]? =some x):getI l i=some x:=by
 obtain ⟨a,rfl⟩:=Int.eq_ofNat_of_zero_le h0
 exact qad (by simpa using h)
theorem qm0 {l:List PlantElement} {i n:Int} (h:0≤nbr l i n):∃x,l[(nbr l i n).toNat]? =some x∧getI l (nbr l i n)=some x∧n∈qae x∧x∈l:=by
 obtain ⟨h1,_⟩:=qhT h
 obtain ⟨h0,h2,x,hx,hn⟩:=qef h1
 exact ⟨x,hx,qhO h0 hx,hn,List.mem_of_getElem? hx⟩
theorem qwK {l:List PlantElement} {i:Int} {x:PlantElement} (h0:0≤i) (h:l[i.toNat]? =some x):eI l i=qae x:=by
 unfold eI;rw[if_pos h0,h]
theorem qrI {x:PlantElement} {p n m:Int} (h:m∈onwE x p n):m∈qae x:=by
 unfold onwE at h
 split at h
 ·cases h
 ·split at h
  ·rename_i h1 h2
   have:=List.mem_singleton.1 h
   subst this
   unfold qae;rw[if_neg (by omega),if_pos h2.1];simp
  ·split at h
   ·rename_i h1 h2 h3
    have:=List.mem_singleton.1 h
    subst this
    unfold qae;rw[if_neg (by omega),if_pos h3.1];simp
   ·exact (qll h).2
theorem qCF {K:Type} {l:List PlantElement} {on:List Int} {p:Int→Int} {fi la:Int} {key:Spot→K}:∀v∈allS l,∀u∈(vS l on p fi la key).suc v,u∈allS l:=by
 intro v hv u hu
 obtain ⟨m,hm,rfl⟩:=List.mem_map.1 hu
 rw[qfs]
 show m∈eI l (nbr l v.element v.node)
 unfold onw at hm
 split at hm
 ·rename_i h0
  obtain ⟨x,hx,_,_⟩:=qm0 h0
  rw[hx] at hm
  rw[qwK h0 hx]
  exact qrI hm
 ·cases hm
theorem qxx (N:Nat) (hN:4≤N) {l:List PlantElement} {m:List (Int×Int)} {i n:Int} {x:PlantElement} (h0:0≤i) (hx:l[i.toNat]? =some x):zbA N l m i n=some (onw l (fun i=>(qai m i).getD 0) i n):=by
 unfold zbA
 rw[qhO h0 hx,qaa,qaf,qaf]
 have e0:qsq N x ((qai m i).getD 0)=some (decide (x.kind=3∧(qai m i).getD 0=4)):=by
  unfold qsq
  by_cases h:x.kind=3
  ·rw[if_pos (by simpa using h),qaf];congr 1;rw[Bool.eq_iff_iff];simp[h]
  ·rw[if_neg (by simpa using h)];simp[h]
 have e1:qsr N n x ((qai m i).getD 0)=some (decide (x.kind=2∧n=x.a∧(qai m i).getD 0=1)):=by
  unfold qsr
  by_cases h:x.kind=2
  ·rw[if_pos (by simpa using h)]
   by_cases h2:n=x.a
   ·rw[if_pos (by simpa using h2),qaf];congr 1;rw[Bool.eq_iff_iff];simp[h,h2]
   ·rw[if_neg (by simpa using h2)];simp[h2]
  ·rw[if_neg (by simpa using h)];simp[h]
 have e2:qss N n x ((qai m i).getD 0)=some (decide (x.kind=2∧n=x.a∧(qai m i).getD 0=2)):=by
  unfold qss
  by_cases h:x.kind=2
  ·rw[if_pos (by simpa using h)]
   by_cases h2:n=x.a
   ·rw[if_pos (by simpa using h2),qaf];congr 1;rw[Bool.eq_iff_iff];simp[h,h2]
   ·rw[if_neg (by simpa using h2)];simp[h2]
  ·rw[if_neg (by simpa using h)];simp[h]
 rw[e0,qaa,e1,e2]
 unfold onw onwE
 rw[if_pos h0,hx]
 simp only
 by_cases c0:x.kind=3∧(qai m i).getD 0=4
 ·rw[if_pos (by simpa using c0),if_pos c0]
 rw[if_neg (by simpa using c0),if_neg c0,qaa]
 by_cases c1:x.kind=2∧n=x.a∧(qai m i).getD 0=1
 ·rw[if_pos (by simpa using c1),if_pos c1]
 rw[if_neg (by simpa using c1),if_neg c1,qaa]
 by_cases c2:x.kind=2∧n=x.a∧(qai m i).getD 0=2
 ·rw[if_pos (by simpa using c2),if_pos c2]
 rw[if_neg (by simpa using c2),if_neg c2,qnu N hN,qaa]
 unfold thr
 rw[qwK h0 hx]
abbrev SpS:=List (Spot×Bool)
abbrev OnM:=List (Int×Bool)
def OnR (m:OnM) (on:List Int):Prop:=∀k,(qai m k).getD false=on.contains k
def sumF {K:Type} (r:Bool×List (K×Bool)):Sum (List (K×Bool)) (Bool×List (K×Bool)):=if r.1=true then .inr (true,r.2) else .inl r.2
theorem qCq (N:Nat) (self:List Int→Spot→List PlantElement→SpS→OnM→Int→Int→List (Int×Int)→SpS→OnM→Option (Bool×SpS)) (x13:List Int) (l:List PlantElement) (fi la:Int) (m:List (Int×Int)) (k0:Int) {o:List Int} (ho:o.length≤1000) (onm:OnM):
  ∀(k n i:Nat) (t:SpS),k<n→i+k=o.length→qlX N self x13 l fi la m k0 o (o.length:Int) onm n i t=Option.bind (lpF (fun v s=>self x13 v l [] [] fi la m s onm) ((o.drop i).map (Spot.mk k0)) t) fun r=>some (sumF r)
 |k,0,i,t,hn,_=>by omega
 |0,n+1,i,t,hn,hi=>by
  obtain rfl:i=o.length:=by omega
  rw[qlX,if_neg (dneg (by omega)),List.drop_length]
  rfl
 |k+1,n+1,i,t,hn,hi=>by
  have hv:=qar (xs:=o) (i:=i) (by omega)
  rw[qlX,if_pos (dpos (by omega)),qad hv,qaa,qbK hv,List.map_cons,lpF]
  cases hs:self x13 (Spot.mk k0 o[i]) l [] [] fi la m t onm with
  |none=>rfl
  |some r=>
   rw[qaa,qaa]
   obtain ⟨b,t'⟩:=r
   cases b with
   |true=>rfl
   |false=>
    simp only[Bool.false_eq_true,if_false]
    rw[w64s (by omega)]
    exact qCq N self x13 l fi la m k0 ho onm k n (i+1) t' (by omega) (by omega)
theorem qxu (N:Nat) (hN:1100≤N) {l:List PlantElement} (hl:l.length≤96) {on:List Int} {onm:OnM} (hon:OnR onm on) {m:List (Int×Int)} {fi la:Int} (x13:List Int) (rc:Nat) (v:Spot) (s:SpS):
  zaB N (rc+1) x13 v l [] [] fi la m s onm=if (vS l on (fun i=>(qai m i).getD 0) fi la id).dead v=true∨Sn (vS l on (fun i=>(qai m i).getD 0) fi la id) s v then some (false,s) else if (vS l on (fun i=>(qai m i).getD 0) fi la id).fin v=true then some ((vS l on (fun i=>(qai m i).getD 0) fi la id).hit v,qaJ s v true)
   else lpF (fun v s=>zaB N rc x13 v l [] [] fi la m s onm) ((vS l on (fun i=>(qai m i).getD 0) fi la (id:Spot→Spot)).suc v) (qaJ s v true):=by
 rw[zaB,qnr N (by omega) (by omega),qaa]
 have e0:qsd N (zaB N rc) v (nbr l v.element v.node) s=some (decide (nbr l v.element v.node<0∨(qai s v).getD false=true)):=by
  unfold qsd
  rw[qaf]
  by_cases h:(qai s v).getD false=true
  ·rw[if_pos h];simp[h]
  ·rw[if_neg h];simp[h]
 rw[e0,qaa]
 by_cases c:nbr l v.element v.node<0∨(qai s v).getD false=true
 ·rw[if_pos (by simpa using c),if_pos (by simpa[vS,Sn] using c)]
 rw[if_neg (by simpa using c),if_neg (by simpa[vS,Sn] using c),qaf,qaf,hon]
 have h0:0≤nbr l v.element v.node:=by omega
 by_cases c2:on.contains (nbr l v.element v.node)=true
 ·rw[if_pos c2,if_pos (show (vS l on _ fi la id).fin v=true from c2)]
  unfold qxS
  by_cases c3:nbr l v.element v.node=fi
  ·rw[if_neg (by simpa using c3),qaa]
   simp[vS,c3]
  ·rw[if_pos (by simpa using c3),qaf,qaa]
   simp[vS,c3]
 ·rw[if_neg c2,if_neg (show ¬(vS l on _ fi la id).fin v=true from c2)]
  obtain ⟨x,hx,_,_,_⟩:=qm0 h0
  rw[qxx N (by omega) h0 hx,qaa]
  have hol:(onw l (fun i=>(qai m i).getD 0) (nbr l v.element v.node) v.node).length≤3:=by
   unfold onw onwE
   rw[if_pos h0,hx]
   simp only
   split
   ·simp
   ·split
    ·simp
    ·split
     ·simp
     ·have:=qeG l (nbr l v.element v.node) v.node
      unfold thr at this
      rw[qwK h0 hx] at this
      exact this
  refine (congrArg (fun q=>Option.bind q _) (qCq N (zaB N rc) x13 l fi la m (nbr l v.element v.node) (by omega) onm (onw l (fun i=>(qai m i).getD 0) (nbr l v.element v.node) v.node).length N 0 (qaJ s v true) (by omega) (by omega))).trans ?_
  rw[List.drop_zero]
  show Option.bind (Option.bind (lpF _ ((vS l on _ fi la (id:Spot→Spot)).suc v) _) _) _=_
  cases hq:lpF (fun v s=>zaB N rc x13 v l [] [] fi la m s onm) ((vS l on (fun i=>(qai m i).getD 0) fi la (id:Spot→Spot)).suc v) (qaJ s v true) with
  |none=>rfl
  |some r=>
   obtain ⟨b,t⟩:=r
   cases b<;>rfl
theorem qEb {l:List PlantElement} {on:List Int} {p:Int→Int} {fi la:Int}:∀v∈allS l,∀u∈allS l,(vS l on p fi la (id:Spot→Spot)).dead v=false→(vS l on p fi la (id:Spot→Spot)).dead u=false→(vS l on p fi la (id:Spot→Spot)).key v=(vS l on p fi la (id:Spot→Spot)).key u→v=u:=fun v _ u _ _ _ h=>h
theorem qn2 {K:Type} [DecidableEq K] {S:Sr Spot K} {U:List Spot} (hU:∀v∈U,∀u∈S.suc v,u∈U) {s1 s2:List (K×Bool)} {b:Bool} {v u:Spot} (hv:v∈U) (hu:u∈U) (h1:Out S U [] false s1 (S.dead v=true∨Sn S s1 v) (Rch S v)) (h2:Out S U s1 b s2 (S.dead u=true∨Sn S s2 u) (Rch S u)):
  b=true↔Rch S v∨Rch S u:=by
 constructor
 ·exact fun hb=> .inr (h2.yes hb)
 ·intro hr
  cases hb:b with
  |true=>rfl
  |false=>
   obtain ⟨p1,p2⟩:=h1.no rfl
   obtain ⟨p3,p4⟩:=h2.no hb
   have hc:∀x∈U,Sn S s2 x→Cl1 S s2 x:=fun x hx hs=>by
    by_cases hs1:Sn S s1 x
    ·exact (p2 x hx hs1 (by simp[Sn,qai])).mono h2.sub
    ·exact p4 x hx hs hs1
   rcases hr with hr|hr
   ·rcases p1 with p1|p1
    ·rw[hr.live] at p1;cases p1
    ·exact (qvm hU hc hr hv (h2.sub v p1)).elim
   ·rcases p3 with p3|p3
    ·rw[hr.live] at p3;cases p3
    ·exact (qvm hU hc hr hu p3).elim
theorem qvj {K:Type} [DecidableEq K] (S:Sr Spot K) (l:List PlantElement) (hl:l.length≤96) (s:List (K×Bool)):lftN S (allS l) s≤288:=by
 have h1:=allS_len l
 have h2:=List.length_filter_le (fun u=> !decide (Sn S s u)) (allS l)
 unfold lftN
 omega
open Classical in
theorem qrU (N:Nat) (hN:1100≤N) {l:List PlantElement} (hl:l.length≤96) {on:List Int} {onm:OnM} (hon:OnR onm on) {m:List (Int×Int)} {fi la:Int} (x13:List Int) {i:Nat} {x:PlantElement} (hx:l[i]? =some x) (hk:x.kind=1):
  qsk N l m fi la x13 i x onm []=some (decide (Rch (vS l on (fun i=>(qai m i).getD 0) fi la (id:Spot→Spot)) (Spot.mk i x.a)∨Rch (vS l on (fun i=>(qai m i).getD 0) fi la (id:Spot→Spot)) (Spot.mk i x.b))):=by
 obtain ⟨S,hS⟩:∃S,S=vS l on (fun i=>(qai m i).getD 0) fi la (id:Spot→Spot):=⟨_,rfl⟩
 rw[←hS]
 have he:qae x=[x.a,x.b]:=by unfold qae;rw[if_pos (.inl hk)]
 have ha:Spot.mk i x.a∈allS l:=by rw[qfs];show x.a∈eI l (i:Int);rw[qdK hx,he];simp
 have hb:Spot.mk i x.b∈allS l:=by rw[qfs];show x.b∈eI l (i:Int);rw[qdK hx,he];simp
 have hU:∀v∈allS l,∀u∈S.suc v,u∈allS l:=by rw[hS];exact qCF
 have D:=dfs (S:=S) hU (by rw[hS];exact qEb) (by rw[hS];intro v _ u _ h;have h:v=u:=h;rw[h]) (fun rc v s=>zaB N rc x13 v l [] [] fi la m s onm) (fun rc v s hv=>by rw[hS];exact qxu N hN hl hon x13 rc v s)
 obtain ⟨b1,s1,g1,g2⟩:=D N (Spot.mk i x.a) [] ha (by have:=qvj S l hl [];omega)
 unfold qsk
 rw[g1,qaa]
 cases b1 with
 |true=>
  rw[if_pos rfl]
  have:=g2.yes rfl
  simp[this]
 |false=>
  rw[if_neg (by simp)]
  obtain ⟨b2,s2,g3,g4⟩:=D N (Spot.mk i x.b) s1 hb (by have:=qvj S l hl s1;omega)
  rw[g3,qaa]
  have:=qn2 hU ha hb g2 g4
  cases b2 with
  |true=>simp[this.1 rfl]
  |false=>simp[←this]
end Go.W
end
section
set_option linter.unusedVariables false
set_option linter.unusedSimpArgs false
namespace Go.W
open Go.AM
def atP (s:List Setting) (a:Int):Int:=match s.find? (fun y=>y.element==a) with|some y=>y.position|none=>0
def ok1 (l:List PlantElement) (y:Setting):Prop:=0≤y.element∧∃x,l[y.element.toNat]? =some x∧((x.kind=2∧(y.position=1∨y.position=2))∨(x.kind=3∧(y.position=3∨y.position=4)))
def KnP (l:List PlantElement) (s:List Setting):Prop:=∀(i:Nat) (y:Setting),s[i]? =some y→ok1 l y∧∀z∈s.take i,z.element≠y.element
theorem ok1.pos {l:List PlantElement} {y:Setting} (h:ok1 l y):y.position≠0:=by
 obtain ⟨_,x,_,h|h⟩:=h<;>omega
theorem qzh {l:List PlantElement} {s:List Setting} (h:∀z∈s,ok1 l z) (a:Int):atP s a≠0↔∃z∈s,z.element=a:=by
 unfold atP
 cases hf:s.find? (fun y=>y.element==a) with
 |none=>
  have:=List.find?_eq_none.1 hf
  simp only[ne_eq,not_true,false_iff,not_exists,not_and]
  exact fun z hz he=>this z hz (by simpa using he)
 |some y=>
  have h1:=List.mem_of_find?_eq_some hf
  have h2:=List.find?_some hf
  simp only
  exact ⟨fun _=>⟨y,h1,by simpa using h2⟩,fun _=>(h y h1).pos⟩
theorem qqa (s:List Setting) (y:Setting) (a:Int) (h:∀z∈s,z.element≠y.element):atP (s++[y]) a=if y.element=a then y.position else atP s a:=by
 unfold atP
 rw[List.find?_append]
 by_cases ha:y.element=a
 ·rw[if_pos ha]
  have:s.find? (fun z=>z.element==a)=none:=List.find?_eq_none.2 fun z hz=>by simpa using fun he=>h z hz (he.trans ha.symm)
  rw[this];simp[ha]
 ·rw[if_neg ha]
  cases s.find? (fun z=>z.element==a) with
  |none=>simp[ha]
  |some z=>simp
theorem qiO {α:Type} {s:List α} {i:Nat} {z:α}:z∈s.take i↔∃j,j<i∧s[j]? =some z:=by
 constructor
 ·intro h
  obtain ⟨j,hj⟩:=List.getElem?_of_mem h
  rw[List.getElem?_take] at hj
  split at hj
  ·exact ⟨j,‹_›,hj⟩
  ·cases hj
 ·rintro ⟨j,hj,h⟩
  refine List.mem_of_getElem? (i:=j) ?_
  rw[List.getElem?_take,if_pos hj];exact h
instance (l:List PlantElement) (y:Setting):Decidable (ok1 l y):=by
 unfold ok1
 cases h:l[y.element.toNat]? with
 |none=>exact isFalse (by simp)
 |some x=>exact decidable_of_iff (0≤y.element∧((x.kind=2∧(y.position=1∨y.position=2))∨(x.kind=3∧(y.position=3∨y.position=4)))) (by simp)
theorem qk6 (N:Nat) {l:List PlantElement} (hl:l.length≤96) {s:List Setting} (hs:s.length≤1000):∀(k n i:Nat) (m:List (Int×Int)),k<n→i+k=s.length→(∀(j:Nat) y,j<i→s[j]? =some y→ok1 l y∧∀z∈s.take j,z.element≠y.element)→(∀a,(qai m a).getD 0=atP (s.take i) a)→
  (∃m',qgt N l s (s.length:Int) n m i=some (.inl m')∧KnP l s∧∀a,(qai m' a).getD 0=atP s a)∨(qgt N l s (s.length:Int) n m i=some (.inr false)∧¬KnP l s)
 |k,0,i,m,hn,_,_,_=>by omega
 |0,n+1,i,m,hn,hi,hok,hm=>by
  obtain rfl:i=s.length:=by omega
  rw[qgt,if_neg (dneg (by omega))]
  refine .inl ⟨m,rfl,fun j y hj=>hok j y (List.getElem?_eq_some_iff.1 hj).1 hj,fun a=> ?_⟩
  rw[hm,List.take_length]
 |k+1,n+1,i,m,hn,hi,hok,hm=>by
  have hv:=qar (xs:=s) (i:=i) (by omega)
  obtain ⟨y,hy⟩:∃y,y=s[i]:=⟨_,rfl⟩
  rw[←hy] at hv
  rw[qgt,if_pos (dpos (by omega)),qad hv,qaa]
  have hall:∀z∈s.take i,ok1 l z:=fun z hz=>by
   obtain ⟨j,hj,hz⟩:=qiO.1 hz
   exact (hok j z hj hz).1
  have e1:qsu N l m y=some (decide (y.element<0∨(l.length:Int)≤y.element∨∃z∈s.take i,z.element=y.element)):=by
   unfold qsu
   by_cases h1:y.element<0
   ·rw[if_pos (dpos h1)];simp[h1]
   ·rw[if_neg (dneg h1)]
    by_cases h2:(l.length:Int)≤y.element
    ·rw[if_pos (lpos h2)];simp[h2]
    ·rw[if_neg (lneg h2),qaf,hm]
     congr 1
     rw[Bool.eq_iff_iff]
     have:=qzh hall y.element
     simp only[bne_iff_ne,ne_eq,decide_eq_true_eq,h1,h2,false_or]
     exact this
  rw[e1,qaa]
  by_cases c1:y.element<0∨(l.length:Int)≤y.element∨∃z∈s.take i,z.element=y.element
  ·rw[if_pos (by simpa using c1)]
   refine .inr ⟨rfl,fun hK=> ?_⟩
   obtain ⟨⟨k1,x,k2,_⟩,k3⟩:=hK i y hv
   rcases c1 with c1|c1|⟨z,hz,c1⟩
   ·omega
   ·have:=(List.getElem?_eq_some_iff.1 k2).1
    omega
   ·exact k3 z hz c1
  ·rw[if_neg (by simpa using c1)]
   have c1a:0≤y.element∧y.element<l.length:=by
    constructor
    ·exact Int.not_lt.1 fun h=>c1 (.inl h)
    ·exact Int.not_le.1 fun h=>c1 (.inr (.inl h))
   have hno:∀z∈s.take i,z.element≠y.element:=fun z hz he=>c1 (.inr (.inr ⟨z,hz,he⟩))
   obtain ⟨a,ha⟩:=Int.eq_ofNat_of_zero_le c1a.1
   have hx:=qar (xs:=l) (i:=a) (by omega)
   obtain ⟨x,hxe⟩:∃x,x=l[a]:=⟨_,rfl⟩
   rw[←hxe] at hx
   have hx':l[y.element.toNat]? =some x:=by rw[ha,Int.toNat_natCast];exact hx
   have e2:qsv N y=some (decide (y.position=1∨y.position=2)):=by
    unfold qsv
    by_cases h:y.position=1
    ·rw[if_pos (by simpa using h)];simp[h]
    ·rw[if_neg (by simpa using h),qaf];congr 1;rw[Bool.eq_iff_iff];simp[h]
   have e3:qsw N y=some (decide (y.position=3∨y.position=4)):=by
    unfold qsw
    by_cases h:y.position=3
    ·rw[if_pos (by simpa using h)];simp[h]
    ·rw[if_neg (by simpa using h),qaf];congr 1;rw[Bool.eq_iff_iff];simp[h]
   rw[e2,qaa,e3,qaa,qhO c1a.1 hx',qaa]
   have e4:qsx N (decide (y.position=1∨y.position=2)) (decide (y.position=3∨y.position=4)) x.kind=some (decide (¬ok1 l y)):=by
    have hiff:ok1 l y↔((x.kind=2∧(y.position=1∨y.position=2))∨(x.kind=3∧(y.position=3∨y.position=4))):=by
     unfold ok1
     rw[hx']
     constructor
     ·rintro ⟨_,x',hx2,h⟩
      cases hx2;exact h
     ·exact fun h=>⟨c1a.1,x,rfl,h⟩
    unfold qsx
    by_cases h2:x.kind=2
    ·rw[if_pos (by simpa using h2)]
     by_cases hp:y.position=1∨y.position=2
     ·rw[if_neg (by simp[hp])]
      have:ok1 l y:=hiff.2 (.inl ⟨h2,hp⟩)
      simp[this]
     ·rw[if_pos (by simpa using hp),if_neg (by rw[h2];simp)]
      have:¬ok1 l y:=fun h=>by rcases hiff.1 h with h|h;exact hp h.2;omega
      simp[this]
    ·rw[if_neg (by simpa using h2),if_pos (by simp)]
     by_cases h3:x.kind=3
     ·rw[if_pos (by simpa using h3)]
      congr 1
      rw[Bool.eq_iff_iff]
      simp only[Bool.not_eq_true',decide_eq_false_iff_not,decide_eq_true_eq]
      rw[hiff]
      simp[h2,h3]
     ·rw[if_neg (by simpa using h3)]
      have:¬ok1 l y:=fun h=>by rcases hiff.1 h with h|h;exact h2 h.1;exact h3 h.1
      simp[this]
   rw[e4,qaa]
   by_cases c2:ok1 l y
   ·rw[if_neg (by simpa using c2),qaf,w64s (by omega)]
    refine qk6 N hl hs k n (i+1) _ (by omega) (by omega) (fun j z hj hz=> ?_) (fun b=> ?_)
    ·by_cases hji:j=i
     ·subst hji;rw[hv] at hz;cases hz;exact ⟨c2,hno⟩
     ·exact hok j z (by omega) hz
    ·rw[qbC,qbT hv,qqa _ _ _ hno]
     by_cases hb:y.element=b
     ·rw[if_pos hb,if_pos hb];rfl
     ·rw[if_neg hb,if_neg hb];exact hm b
   ·rw[if_pos (by simpa using c2)]
    exact .inr ⟨rfl,fun hK=>c2 (hK i y hv).1⟩
theorem qnq (N:Nat) {l:List PlantElement} (hl:l.length≤96) {s:List Setting} (hs:s.length≤1000) (hN:s.length<N):
  (∃m,zbG N l s=some (m,true)∧KnP l s∧∀a,(qai m a).getD 0=atP s a)∨(zbG N l s=some ([],false)∧¬KnP l s):=by
 unfold zbG
 rcases qk6 N hl hs s.length N 0 [] hN (by omega) (fun j y hj=>by omega) (fun a=>rfl) with ⟨m,h1,h2,h3⟩|⟨h1,h2⟩
 ·exact .inl ⟨m,by rw[show qgt N l s _ N [] 0=_ from h1];rfl,h2,h3⟩
 ·exact .inr ⟨by rw[show qgt N l s _ N [] 0=_ from h1];rfl,h2⟩
theorem qgQ (N:Nat) {r:List Visit} (hr:r.length≤1000000):∀(k n i:Nat) (m:OnM),k<n→i+k=r.length→OnR m (elems (r.take i))→∃m',qih N r (r.length:Int) n m i=some m'∧OnR m' (elems r)
 |k,0,i,m,hn,_,_=>by omega
 |0,n+1,i,m,hn,hi,hm=>by
  obtain rfl:i=r.length:=by omega
  rw[qih,if_neg (dneg (by omega))]
  rw[List.take_length] at hm
  exact ⟨m,rfl,hm⟩
 |k+1,n+1,i,m,hn,hi,hm=>by
  have hv:=qar (xs:=r) (i:=i) (by omega)
  rw[qih,if_pos (dpos (by omega)),qad hv,qaa,qaf,w64s (by omega)]
  refine qgQ N hr k n (i+1) _ (by omega) (by omega) fun a=> ?_
  rw[qbC,qbT hv]
  unfold elems
  rw[List.map_append,List.contains_eq_mem]
  by_cases ha:r[i].element=a
  ·rw[if_pos ha];simp[ha]
  ·rw[if_neg ha,hm]
   unfold elems
   rw[List.contains_eq_mem]
   have:a≠r[i].element:=fun h=>ha h.symm
   simp[this]
theorem qwP (N:Nat) {r:List Visit} (hr:r.length≤1000000) (hN:r.length<N):∃m,zaK N r=some m∧OnR m (elems r):=by
 unfold zaK
 obtain ⟨m,h1,h2⟩:=qgQ N hr r.length N 0 [] hN (by omega) (fun a=>by simp[elems,qai])
 exact ⟨m,by rw[show qih N r _ N [] 0=_ from h1];rfl,h2⟩
def Exps (l:List PlantElement) (r:List Visit) (s:List Setting) (fi la:Int) (i:Nat):Prop:=∃x,l[i]? =some x∧x.kind=1∧(i:Int)∉elems r∧(Rch (vS l (elems r) (atP s) fi la (id:Spot→Spot)) (Spot.mk i x.a)∨Rch (vS l (elems r) (atP s) fi la (id:Spot→Spot)) (Spot.mk i x.b))
open Classical in
noncomputable def exps (l:List PlantElement) (r:List Visit) (s:List Setting) (fi la:Int):List Int:=((List.range l.length).filter fun i=>decide (Exps l r s fi la i)).map fun (i:Nat)=>(i:Int)
def endR (r:List Visit):Int×Int:=((r[0]?.map Visit.element).getD 0,(r[r.length - 1]?.map Visit.element).getD 0)
theorem qhI {p:Nat→Bool} (i:Nat):(List.range (i+1)).filter p=(List.range i).filter p++(if p i=true then [i] else []):=by
 rw[List.range_succ,List.filter_append]
 cases h:p i<;>simp[h]
open Classical in
theorem qg8 (N:Nat) (hN:1100≤N) {l:List PlantElement} (hl:l.length≤96) {r:List Visit} {s:List Setting} {onm:OnM} (hon:OnR onm (elems r)) {m:List (Int×Int)} (hm:∀a,(qai m a).getD 0=atP s a) {fi la:Int}:∀(k n i:Nat) (acc:List Int),k<n→i+k=l.length→
  acc=((List.range i).filter fun i=>decide (Exps l r s fi la i)).map (fun (i:Nat)=>(i:Int))→qik N l m fi la l (l.length:Int) onm n acc i=some (exps l r s fi la)
 |k,0,i,acc,hn,_,_=>by omega
 |0,n+1,i,acc,hn,hi,ha=>by
  obtain rfl:i=l.length:=by omega
  rw[qik,if_neg (dneg (by omega)),ha]
  rfl
 |k+1,n+1,i,acc,hn,hi,ha=>by
  have hv:=qar (xs:=l) (i:=i) (by omega)
  obtain ⟨x,hxe⟩:∃x,x=l[i]:=⟨_,rfl⟩
  rw[←hxe] at hv
  have hpe:(fun i=>(qai m i).getD 0)=atP s:=funext hm
  rw[qik,if_pos (dpos (by omega))]
  have hacc:acc.length≤96:=by
   rw[ha,List.length_map]
   have:=List.length_filter_le (fun i=>decide (Exps l r s fi la i)) (List.range i)
   rw[List.length_range] at this
   omega
  have e1:qsi N l m fi la acc l i onm=some (((List.range (i+1)).filter fun i=>decide (Exps l r s fi la i)).map (fun (i:Nat)=>(i:Int))):=by
   unfold qsi
   rw[qad hv,qaa]
   have e2:qsj N i x onm=some (decide (x.kind≠1∨(i:Int)∈elems r)):=by
    unfold qsj
    by_cases h:x.kind=1
    ·rw[if_neg (by simpa using h),qaf,hon,List.contains_eq_mem];simp[h]
    ·rw[if_pos (by simpa using h)];simp[h]
   rw[e2,qaa,qhI]
   by_cases c:x.kind≠1∨(i:Int)∈elems r
   ·rw[if_pos (by simpa using c)]
    have:¬Exps l r s fi la i:=fun ⟨y,hy,h1,h2,_⟩=>by
     rw[hv] at hy;cases hy
     rcases c with c|c
     ·exact c h1
     ·exact h2 c
    rw[if_neg (by simpa using this),List.append_nil,ha]
   ·rw[if_neg (by simpa using c)]
    have hk:x.kind=1:=Decidable.byContradiction fun h=>c (.inl h)
    have hne:(i:Int)∉elems r:=fun h=>c (.inr h)
    rw[qrU N hN hl hon acc hv hk,qaa,hpe]
    have hiff:Exps l r s fi la i↔(Rch (vS l (elems r) (atP s) fi la (id:Spot→Spot)) (Spot.mk i x.a)∨Rch (vS l (elems r) (atP s) fi la (id:Spot→Spot)) (Spot.mk i x.b)):=by
     constructor
     ·rintro ⟨y,hy,_,_,h⟩
      rw[hv] at hy;cases hy;exact h
     ·exact fun h=>⟨x,hv,hk,hne,h⟩
    by_cases hE:Exps l r s fi la i
    ·rw[if_pos (decide_eq_true (hiff.1 hE)),if_pos (decide_eq_true hE),qaY (by simp;omega),qaa,ha,List.map_append]
     rfl
    ·rw[if_neg (by simpa using fun h=>hE (hiff.2 h)),if_neg (by simpa using hE),List.append_nil,ha]
  rw[e1,qaa,w64s (by omega)]
  exact qg8 N hN hl hon hm k n (i+1) _ (by omega) (by omega) rfl
theorem qnp (N:Nat) {l:List PlantElement} (hl:l.length≤96) {r:List Visit} {s:List Setting} (hr:r.length≤1000) (hs:s.length≤1000) (hN:3000≤N):
  (¬RtP l r∧zaQ N l r s=some ([],1))∨(RtP l r∧¬KnP l s∧zaQ N l r s=some ([],2))∨(RtP l r∧KnP l s∧zaQ N l r s=some (exps l r s (endR r).1 (endR r).2,0)):=by
 obtain ⟨b,h1,h2⟩:=qnn N (l:=l) (r:=r) (by omega) (by omega) (by omega)
 unfold zaQ
 rw[h1,qaa]
 cases b with
 |false=>exact .inl ⟨fun h=>(by have:=h2.2 h;cases this),rfl⟩
 |true=>
  have hR:=h2.1 rfl
  rw[if_neg (by simp)]
  rcases qnq N hl hs (by omega) with ⟨m,k1,k2,k3⟩|⟨k1,k2⟩
  ·rw[k1,qaa,if_neg (by simp)]
   obtain ⟨onm,o1,o2⟩:=qwP N (r:=r) (by omega) (by omega)
   have h2r:=hR.2.1.two
   have e0:=qar (xs:=r) (i:=0) (by omega)
   have e1:=qar (xs:=r) (i:=r.length - 1) (by omega)
   have hw:IntKind.wrap .i64 ((r.length:Int) - 1)=((r.length - 1:Nat):Int):=by rw[w64 (by omega) (by omega)];omega
   rw[o1,qaa,show getI r 0=some r[0] from qad (i:=0) e0,qaa,hw,qad e1,qaa]
   refine .inr (.inr ⟨hR,k2, ?_⟩)
   have he:endR r=(r[0].element,r[r.length - 1].element):=by unfold endR;rw[e0,e1];rfl
   rw[he,show qik N l m r[0].element r[r.length - 1].element l (l.length:Int) onm N [] 0=_ from qg8 N (by omega) hl o2 k3 l.length N 0 [] (by omega) (by omega) rfl]
   rfl
  ·rw[k1,qaa,if_pos (by simp)]
   exact .inr (.inl ⟨hR,k2,rfl⟩)
end Go.W
end
section
set_option linter.unusedVariables false
set_option linter.unusedSimpArgs false
namespace Go.W
open Go.AM
abbrev SpR:=List (S109×Bool)
end Go.W
end
section
set_option linter.unusedVariables false
set_option linter.unusedSimpArgs false
namespace Go.W
open Go.AM
abbrev OutM:=List (Int×Int)
structure OutOk (l:List PlantElement) (on:List Int) (out:OutM):Prop where
 nd:(out.map Prod.fst).Nodup
 ok:∀i p,qai out i=some p→0≤i∧i∉on∧∃x,l[i.toNat]? =some x∧((x.kind=2∧(p=1∨p=2))∨(x.kind=3∧p=4))
structure NeedR (out:OutM) (need:List Setting):Prop where
 lt:need.Pairwise fun a b=>a.element<b.element
 mem:∀y,y∈need↔qai out y.element=some y.position
theorem qCs {s:List Setting} (hs:s.Pairwise fun a b=>a.element<b.element) {n:Nat} (h:∀y∈s,0≤y.element∧y.element<n):s.length≤n:=by
 have hnd:(s.map Setting.element).Nodup:=by
  unfold List.Nodup
  rw[List.pairwise_map]
  exact hs.imp fun h he=>by omega
 have:=qiT (b:=(List.range n).map fun (i:Nat)=>(i:Int)) hnd fun a ha=>by
  obtain ⟨y,hy,rfl⟩:=List.mem_map.1 ha
  have:=h y hy
  exact List.mem_map.2 ⟨y.element.toNat,List.mem_range.2 (by omega),by omega⟩
 simpa using this
theorem NeedR.at {l:List PlantElement} {on:List Int} {out:OutM} {need:List Setting} (h:NeedR out need) (ho:OutOk l on out) (i:Int):atP need i=(qai out i).getD 0:=by
 unfold atP
 cases hf:need.find? (fun y=>y.element==i) with
 |none=>
  cases hg:qai out i with
  |none=>rfl
  |some p=>
   have:Setting.mk i p∈need:=(h.mem _).2 hg
   have:=List.find?_eq_none.1 hf _ this
   simp at this
 |some y=>
  have h1:=List.mem_of_find?_eq_some hf
  have h2:=List.find?_some hf
  have h2:y.element=i:=by simpa using h2
  have:=(h.mem y).1 h1
  rw[h2] at this
  rw[this];rfl
theorem OutOk.len {l:List PlantElement} {on:List Int} {out:OutM} {need:List Setting} (ho:OutOk l on out) (h:NeedR out need):need.length≤l.length:=qCs h.lt fun y hy=>by
 obtain ⟨h0,_,x,hx,_⟩:=ho.ok _ _ ((h.mem y).1 hy)
 have:=(List.getElem?_eq_some_iff.1 hx).1
 omega
end Go.W
end
section
set_option linter.unusedVariables false
set_option linter.unusedSimpArgs false
namespace Go.W
open Go.AM
def Dn (d:SpS) (v:Spot):Prop:=(qai d v).getD false=true
instance (d:SpS) (v:Spot):Decidable (Dn d v):=by unfold Dn;infer_instance
def Dr (t:SpR) (v:Spot):Prop:=(qai t (S109.mk v.element v.node)).getD false=true
instance (t:SpR) (v:Spot):Decidable (Dr t v):=by unfold Dr;infer_instance
def Tr (l:List PlantElement) (on:List Int) (v:Spot):Prop:=nbr l v.element v.node<0∨nbr l v.element v.node∈on
instance (l:List PlantElement) (on:List Int) (v:Spot):Decidable (Tr l on v):=by unfold Tr;infer_instance
def Hn (l:List PlantElement) (on:List Int) (d:SpS) (v:Spot):Prop:=Tr l on v∨Dn d v
structure GR (l:List PlantElement) (on:List Int) (d:SpS) (o:OutM) (t:SpR) (need:List Setting):Prop where
 fwd:∀v,Dn d v→Dr t v
 bwd:∀v,Dr t v→Dn d v∨Tr l on v
 ok:OutOk l on o
 nd:NeedR o need
def GC (l:List PlantElement) (on:List Int) (d:SpS) (o:OutM) (v:Spot):Prop:=
 ¬Tr l on v∧∃x,l[(nbr l v.element v.node).toNat]? =some x∧x.kind≠1∧(x.kind=3→qai o (nbr l v.element v.node)=some 4)∧(x.kind=2→v.node≠x.a→qai o (nbr l v.element v.node)=some (if v.node=x.b then 2 else 1))∧
  (x.kind=2→v.node=x.a→Hn l on d (Spot.mk (nbr l v.element v.node) x.b)∧Hn l on d (Spot.mk (nbr l v.element v.node) x.c))
theorem GC.mono {l:List PlantElement} {on:List Int} {d d':SpS} {o o':OutM} {v:Spot} (h:GC l on d o v) (hd:∀u,Dn d u→Dn d' u) (ho:∀j q,qai o j=some q→qai o' j=some q):GC l on d' o' v:=by
 obtain ⟨h0,x,h1,h2,h3,h4,h5⟩:=h
 exact ⟨h0,x,h1,h2,fun hk=>ho _ _ (h3 hk),fun hk ha=>ho _ _ (h4 hk ha),fun hk ha=>⟨(h5 hk ha).1.imp id (hd _),(h5 hk ha).2.imp id (hd _)⟩⟩
structure GOut (l:List PlantElement) (on:List Int) (d:SpS) (o:OutM) (d':SpS) (o':OutM):Prop where
 sub:∀u,Dn d u→Dn d' u
 mono:∀j q,qai o j=some q→qai o' j=some q
 clo:∀u,Dn d' u→¬Dn d u→GC l on d' o' u
theorem GOut.trans {l:List PlantElement} {on:List Int} {d d1 d2:SpS} {o o1 o2:OutM} (h:GOut l on d o d1 o1) (k:GOut l on d1 o1 d2 o2):GOut l on d o d2 o2:=
 ⟨fun u hu=>k.sub u (h.sub u hu),fun j q hq=>k.mono j q (h.mono j q hq),fun u h1 h2=>by
  by_cases h3:Dn d1 u
  ·exact (h.clo u h3 h2).mono k.sub k.mono
  ·exact k.clo u h1 h3⟩
theorem qDG {x:PlantElement} (h:qaL x=true):x.kind=1∨x.kind=2∨x.kind=3:=by
 have:=(qaR h).2.2.1
 unfold qae at this
 split at this
 ·rename_i h;rcases h with h|h<;>simp[h]
 ·split at this
  ·rename_i h;simp[h]
  ·exact absurd rfl this
def Both (l:List PlantElement) (r:List Visit) (d:SpS) (o:OutM) (v:Spot) (p:Option (Int×SpS×OutM)) (q:Option (Int×Guardian×SpR)):Prop:=
 (∃e d' o' g t',e≠0∧p=some (e,d',o')∧q=some (e,g,t'))∨
 (∃d' o' t' need',p=some (0,d',o')∧q=some (0,Guardian.mk l r need' [],t')∧GR l (elems r) d' o' t' need'∧GOut l (elems r) d o d' o'∧Hn l (elems r) d' v)
end Go.W
end
section
set_option linter.unusedVariables false
set_option linter.unusedSimpArgs false
namespace Go.W
open Go.AM
def qDv (x:PlantElement) (v:Visit):Int:=if v.in_=x.b∨v.out=x.b then x.c else x.b
structure NI (l:List PlantElement) (r:List Visit) (i:Nat) (d:SpS) (o:OutM):Prop where
 clo:∀u,Dn d u→GC l (elems r) d o u
 han:∀v∈r.take i,∀x,l[v.element.toNat]? =some x→x.kind=2→Hn l (elems r) d (Spot.mk v.element (qDv x v))
structure PrP (l:List PlantElement) (r:List Visit) (s:List Setting) (d:SpS) (o:OutM):Prop where
 lt:s.Pairwise fun a b=>a.element<b.element
 mem:∀y,y∈s↔y∈qCy l r∨qai o y.element=some y.position
 ok:OutOk l (elems r) o
 ni:NI l r r.length d o
end Go.W
end
section
set_option linter.unusedVariables false
set_option linter.unusedSimpArgs false
namespace Go.W
open Go.AM
theorem qlo (N:Nat) (hN:6000≤N) {l:List PlantElement} (hP:MadeP l):∀(k n i:Nat) (c:Int) (s:Maker),k<n→i+k=6→Mk c s→c+30*k≤900000→
  ∃s',Mk (c+30*k) s'∧(qgz N l n s i=some (.inl s')∨∃w,qgz N l n s i=some (.inr (s',l,w))∧w.length≤13∧RtP l w)
 |k,0,i,c,s,hn,_,_,_=>by omega
 |0,n+1,i,c,s,hn,hi,hs,hc=>by
  obtain rfl:i=6:=by omega
  rw[qgz,if_neg (dneg (by omega))]
  exact ⟨s,hs.le (by omega), .inl rfl⟩
 |k+1,n+1,i,c,s,hn,hi,hs,hc=>by
  rw[qgz,if_pos (dpos (by omega))]
  obtain ⟨w,s1,h1,h2,h3,h4,_⟩:=qxQ N (by omega) hP hs (by omega)
  obtain ⟨b,_,k2,k3⟩:=qxP N (by omega) hP.ok (w:=w) (by omega)
  rw[h1,qaa]
  simp only[]
  rw[k2,qaa]
  cases b with
  |true=>exact ⟨s1,h2.le (by omega), .inr ⟨w,rfl,h4,k3.1 rfl⟩⟩
  |false=>
   rw[if_neg (by simp),qaf,w64s (by omega)]
   obtain ⟨s',g1,g2⟩:=qlo N hN hP k n (i+1) (c+30) s1 (by omega) (by omega) h2 (by omega)
   exact ⟨s',g1.le (by omega),g2⟩
theorem qCK (N:Nat) (hN:6000≤N) {c:Int} {s:Maker} (hs:Mk c s) (h0:0≤c) (hc:c≤800000):∃l w s',zcP N s=some (l,w,s')∧Mk (c+31000) s'∧PlOk l∧w.length≤13∧(w=[]∨RtP l w):=by
 unfold zcP
 obtain ⟨l,s1,h1,h2,hP⟩:=qrW N (by omega) (b:=c) h0 (by omega) hs (k:=20) (by omega)
 obtain ⟨s',g1,g2⟩:=qlo N hN hP 6 N 0 (c+30000) s1 (by omega) (by omega) h2 (by omega)
 rw[h1,qaa]
 simp only[]
 rcases g2 with g2|⟨w,g2,g3,g4⟩
 ·rw[show qgz N l N s1 0=_ from g2,qaa]
  exact ⟨l,[],s',rfl,g1.le (by omega),hP.ok,by simp, .inl rfl⟩
 ·rw[show qgz N l N s1 0=_ from g2,qaa]
  exact ⟨l,w,s',rfl,g1.le (by omega),hP.ok,g3, .inr g4⟩
theorem KnP.of {l:List PlantElement} {s:List Setting} (h1:∀y∈s,ok1 l y) (h2:s.Pairwise fun a b=>a.element<b.element):KnP l s:=fun i y hy=>by
 refine ⟨h1 y (List.mem_of_getElem? hy),fun z hz he=> ?_⟩
 obtain ⟨j,hj,hz⟩:=qiO.1 hz
 obtain ⟨hil,hie⟩:=List.getElem?_eq_some_iff.1 hy
 obtain ⟨hjl,hje⟩:=List.getElem?_eq_some_iff.1 hz
 have:=List.pairwise_iff_getElem.1 h2 j i hjl hil hj
 rw[hie,hje] at this
 omega
theorem qcp (N:Nat) (hN:6000≤N) {l:List PlantElement} (hP:PlOk l):∀(k n i:Nat) (c:Int) (s:Maker) (q:List Setting),k<n→i+k=l.length→Mk c s→c+2*k≤900000→q.length≤i→(∀y∈q,ok1 l y∧y.element<i)→(q.Pairwise fun a b=>a.element<b.element)→
  ∃q' s',qil N l n s q i=some (s',q')∧Mk (c+2*k) s'∧q'.length≤l.length∧(∀y∈q',ok1 l y)∧(q'.Pairwise fun a b=>a.element<b.element)
 |k,0,i,c,s,q,hn,_,_,_,_,_,_=>by omega
 |0,n+1,i,c,s,q,hn,hi,hs,hc,hq,h1,h2=>by
  obtain rfl:i=l.length:=by omega
  rw[qil,if_neg (dneg (by omega))]
  exact ⟨q,s,rfl,hs.le (by omega),hq,fun y hy=>(h1 y hy).1,h2⟩
 |k+1,n+1,i,c,s,q,hn,hi,hs,hc,hq,h1,h2=>by
  have hl:=hP.len
  have hv:=qar (xs:=l) (i:=i) (by omega)
  obtain ⟨x,hxe⟩:∃x,x=l[i]:=⟨_,rfl⟩
  rw[←hxe] at hv
  have hsnd:=hP.snd x (List.mem_of_getElem? hv)
  rw[qil,if_pos (dpos (by omega))]
  obtain ⟨b,s1,a1,a2,a3,a4⟩:=qba N (s:=s) (c:=c) 2 (by omega) (by omega) hs (by omega)
  have e2:qsB N s l i=some (s1,decide (b=0∨x.kind=1)):=by
   unfold qsB
   rw[a1,qaa]
   simp only[]
   by_cases h:b=0
   ·rw[if_pos (by simpa using h)];simp[h]
   ·rw[if_neg (by simpa using h),qad hv,qaa,qaf]
    congr 2;rw[Bool.eq_iff_iff];simp[h]
  have hq1:∀y∈q,ok1 l y∧y.element<((i+1:Nat):Int):=fun y hy=>⟨(h1 y hy).1,by have:=(h1 y hy).2;omega⟩
  have add:∀p,((x.kind=2∧(p=1∨p=2))∨(x.kind=3∧(p=3∨p=4)))→(∀y∈q++[Setting.mk i p],ok1 l y∧y.element<((i+1:Nat):Int))∧(q++[Setting.mk i p]).Pairwise fun a b=>a.element<b.element:=by
   intro p hp
   refine ⟨fun y hy=> ?_, ?_⟩
   ·rcases List.mem_append.1 hy with hy|hy
    ·exact hq1 y hy
    ·have:=List.mem_singleton.1 hy
     subst this
     exact ⟨⟨by show (0:Int)≤(i:Int);omega,x,by show l[((i:Nat):Int).toNat]? =_;rw[Int.toNat_natCast];exact hv,hp⟩,by show (i:Int)<_;omega⟩
   ·rw[List.pairwise_append]
    refine ⟨h2,by simp,fun y hy z hz=> ?_⟩
    have:=List.mem_singleton.1 hz
    subst this
    exact (h1 y hy).2
  unfold qyi
  rw[e2,qaa]
  simp only[]
  by_cases c1:b=0∨x.kind=1
  ·rw[if_pos (by simpa using c1),qaa]
   simp only[]
   rw[qaf,w64s (by omega)]
   obtain ⟨q',s',g1,g2,g3⟩:=qcp N hN hP k n (i+1) (c+1) s1 q (by omega) (by omega) a4 (by omega) (by omega) hq1 h2
   exact ⟨q',s',g1,g2.le (by omega),g3⟩
  ·rw[if_neg (by simpa using c1),qad hv,qaa,qaf]
   have hk1:x.kind≠1:=fun h=>c1 (.inr h)
   by_cases hk:x.kind=2
   ·rw[if_pos (by simpa using hk)]
    obtain ⟨p,s2,b1,b2,b3⟩:=qh2 N (s:=s1) (c:=c+1) [1,2] (by simp) (by simp) a4 (by omega)
    rw[b1,qaa,qaY (by simp;omega),qaa,qaa]
    simp only[]
    rw[qaf,w64s (by omega)]
    have hp:=add p (.inl ⟨hk,by simpa using b2⟩)
    obtain ⟨q',s',g1,g2,g3⟩:=qcp N hN hP k n (i+1) (c+1+1) s2 _ (by omega) (by omega) b3 (by omega) (by simp;omega) hp.1 hp.2
    exact ⟨q',s',g1,g2.le (by omega),g3⟩
   ·rw[if_neg (by simpa using hk)]
    have hk3:x.kind=3:=by rcases qDG hsnd with h|h|h;exact absurd h hk1;exact absurd h hk;exact h
    obtain ⟨p,s2,b1,b2,b3⟩:=qh2 N (s:=s1) (c:=c+1) [3,4] (by simp) (by simp) a4 (by omega)
    rw[b1,qaa,qaY (by simp;omega),qaa,qaa]
    simp only[]
    rw[qaf,w64s (by omega)]
    have hp:=add p (.inr ⟨hk3,by simpa using b2⟩)
    obtain ⟨q',s',g1,g2,g3⟩:=qcp N hN hP k n (i+1) (c+1+1) s2 _ (by omega) (by omega) b3 (by omega) (by simp;omega) hp.1 hp.2
    exact ⟨q',s',g1,g2.le (by omega),g3⟩
theorem qqy (N:Nat) (hN:6000≤N) {l:List PlantElement} (hP:PlOk l) {c:Int} {s:Maker} (hs:Mk c s) (hc:c≤800000):∃q s',zbZ N s l=some (q,s')∧Mk (c+200) s'∧q.length≤96∧(∀y∈q,ok1 l y)∧(q.Pairwise fun a b=>a.element<b.element):=by
 have hl:=hP.len
 obtain ⟨q,s',h1,h2,h3,h4,h5⟩:=qcp N hN hP l.length N 0 c s [] (by omega) (by omega) hs (by omega) (by simp) (by simp) List.Pairwise.nil
 unfold zbZ
 rw[show qil N l N s [] 0=_ from h1,qaa]
 exact ⟨q,s',rfl,h2.le (by omega),by omega,h4,h5⟩
def qbY:List PlantElement:=[(PlantElement.mk 1 [116,49] 0 1 0 9),(PlantElement.mk 2 [119] 1 2 3 0),(PlantElement.mk 1 [116,50] 2 4 0 9),(PlantElement.mk 3 [100] 3 5 0 0),(PlantElement.mk 1 [116,51] 5 6 0 9)]
def smallW:List Visit:=[(Visit.mk 0 (-1) 1),(Visit.mk 1 1 2),(Visit.mk 2 2 (-1))]
theorem qBL (M:Nat):zcL (M+60) qbY 0 2=some (smallW,0):=by kernel_rfl
theorem qwW (M:Nat):zbN (M+60) qbY smallW=some true:=by kernel_rfl
theorem qqu (M:Nat):zbN (M+60) qbY []=some false:=by kernel_rfl
theorem qBO (M:Nat):qsh (M+60) qbY smallW (smallW.length:Int) (M+60) [] 0=some [Setting.mk 1 1]:=by kernel_rfl
theorem qBM (M:Nat):zbH (M+60) qbY smallW=some ([(3,4)],0):=by kernel_rfl
theorem qBJ (M:Nat):zaQ (M+60) qbY smallW []=some ([4],0):=by kernel_rfl
theorem qBK (M:Nat):zaQ (M+60) qbY smallW [Setting.mk 1 1,Setting.mk 3 4]=some ([],0):=by kernel_rfl
theorem qvs {q:List Setting} (h:q.Pairwise fun a b=>a.element<b.element) (hl:q.length≤1000): @srtI Setting ⟨Setting.mk 0 0⟩ (fun a b=>cmpI a.element b.element) q=some q:=by
 have hn:(q.map Setting.element).Nodup:=by
  unfold List.Nodup
  rw[List.pairwise_map]
  exact h.imp fun h he=>by omega
 have e:qfl q=q:=qfh (qnS hn) h fun x=>qlV
 unfold srtI
 rw[if_pos (by omega)]
 exact congrArg some e
theorem qBN (M:Nat):zaR (M+60) qbY smallW=some ([Setting.mk 1 1,Setting.mk 3 4],0):=by
 have hset:zaO (M+60) qbY smallW=some ([Setting.mk 1 1],0):=by
  unfold zaO
  rw[qwW,qaa,if_neg (by simp),qBO,qaa,qvs (by simp) (by simp),qaa]
 unfold zaR
 rw[hset,qaa,if_neg (by simp),qBM,qaa,if_neg (by simp)]
 unfold qxY rngM
 rw[if_pos ⟨by simp,by simp⟩]
 simp only[List.map_cons,List.map_nil,List.cons_append,List.nil_append]
 rw[qvs (by simp) (by simp),qaa,qaa]
theorem qwV (M:Nat):zaR (M+60) qbY []=some ([],1):=by
 have hset:zaO (M+60) qbY []=some ([],1):=by
  unfold zaO
  rw[qqu,qaa,if_pos (by simp)]
 unfold zaR
 rw[hset,qaa,if_pos (by simp)]
theorem qCx {N:Nat} (h:60≤N):zcI N=some true:=by
 obtain ⟨M,rfl⟩:∃M,N=M+60:=⟨N - 60,by omega⟩
 unfold zcI
 have h0:zcA (M+60)=some qbY:=rfl
 rw[h0,qaa,qBL,qaa,qaa]
 simp only[]
 rw[qBN,qaa,qaa,qBJ,qaa,qaa]
 simp only[]
 rw[qBK,qaa,qaa,qwV,qaa]
 have h1:qyp (M+60) [Setting.mk 1 1,Setting.mk 3 4] 0 [4] 0 [] 0 1=some true:=by kernel_rfl
 rw[h1,qaa]
end Go.W
end
section
set_option linter.unusedVariables false
set_option linter.unusedSimpArgs false
namespace Go.W
open Go.AM
theorem onw0 {x:PlantElement} (hs:qaL x=true) {p n m:Int} (hn:n∈qae x) (h:m∈onwE x p n):m∈onwE x 0 n:=by
 have h0:onwE x 0 n=thrE (qae x) n:=by
  unfold onwE
  rw[if_neg (by omega),if_neg (by omega),if_neg (by omega)]
 rw[h0]
 have hsw:x.kind=2→n=x.a→thrE (qae x) n=[x.b,x.c]:=fun hk ha=>by
  have he:qae x=[x.a,x.b,x.c]:=by unfold qae;rw[if_neg (by omega),if_pos hk]
  rw[he,ha]
  unfold thrE
  rw[if_pos (by simp),if_pos (by simp)]
  rfl
 unfold onwE at h
 split at h
 ·cases h
 ·split at h
  ·rename_i h1
   rw[hsw h1.1 h1.2.1]
   rw[List.mem_singleton.1 h];simp
  ·split at h
   ·rename_i h1
    rw[hsw h1.1 h1.2.1]
    rw[List.mem_singleton.1 h];simp
   ·exact h
theorem qk8 {K:Type} {l:List PlantElement} (hP:PlOk l) {on:List Int} {p q:Int→Int} (hpq:∀i,q i=p i∨q i=0) {fi la:Int} {key:Spot→K} {v:Spot} (h:Rch (vS l on p fi la key) v):Rch (vS l on q fi la key) v:=by
 induction h with
 |here h1 h2 h3=>exact .here h1 h2 h3
 | @step v u h1 h2 h3 _ ih=>
  refine .step h1 h2 ?_ ih
  have h0:0≤nbr l v.element v.node:=by simpa[vS] using h1
  obtain ⟨m,hm,rfl⟩:=List.mem_map.1 h3
  refine List.mem_map.2 ⟨m, ?_,rfl⟩
  obtain ⟨x,hx,_,hn,hxm⟩:=qm0 h0
  unfold onw at hm⊢
  rw[if_pos h0,hx] at hm⊢
  simp only at hm⊢
  rcases hpq (nbr l v.element v.node) with h|h
  ·rw[h];exact hm
  ·rw[h];exact onw0 (hP.snd x hxm) hn hm
theorem qqb (s:List Setting) (k:Nat) (a:Int):atP (s.take k) a=atP s a∨atP (s.take k) a=0:=by
 unfold atP
 cases hf:(s.take k).find? (fun y=>y.element==a) with
 |none=>exact .inr rfl
 |some y=>
  left
  have:s.find? (fun y=>y.element==a)=some y:=by
   rw[←List.take_append_drop k s,List.find?_append,hf];rfl
  rw[this]
theorem qix (l:List PlantElement) (r:List Visit) (s:List Setting) (fi la:Int):(exps l r s fi la).Pairwise (·<·):=by
 unfold exps
 rw[List.pairwise_map]
 refine (List.Pairwise.sublist List.filter_sublist List.pairwise_lt_range).imp fun h=> ?_
 omega
open Classical in
theorem qqo {l:List PlantElement} (hP:PlOk l) {r:List Visit} {s t:List Setting} (h:∀i,atP t i=atP s i∨atP t i=0) {fi la:Int} {a:Int} (ha:a∈exps l r s fi la):a∈exps l r t fi la:=by
 unfold exps at ha⊢
 obtain ⟨i,hi,rfl⟩:=List.mem_map.1 ha
 refine List.mem_map.2 ⟨i, ?_,rfl⟩
 rw[List.mem_filter] at hi⊢
 refine ⟨hi.1, ?_⟩
 have h1:=of_decide_eq_true hi.2
 obtain ⟨x,hx,hk,ho,hr⟩:=h1
 exact decide_eq_true ⟨x,hx,hk,ho,hr.imp (qk8 hP h) (qk8 hP h)⟩
theorem qgS (l:List PlantElement) (r:List Visit) (s:List Setting) (fi la:Int):(exps l r s fi la).length≤l.length:=by
 unfold exps
 rw[List.length_map]
 have:=List.length_filter_le (fun i=> @decide (Exps l r s fi la i) (Classical.propDecidable _)) (List.range l.length)
 rw[List.length_range] at this
 exact this
theorem qiL (N:Nat) {a b:List Int} (ha:a.length≤1000) {j:Nat} {y:Int} (hy:b[j]? =some y) {i:Nat} (hi:a[i]? =some y) (hlt:∀(k:Nat) z,k<i→a[k]? =some z→z<y):∀(k n m:Nat),k<n→m+k=i→qp6 N a b j n m=some (i:Int)
 |k,0,m,hn,_=>by omega
 |k,n+1,m,hn,hm=>by
  have hil:=(List.getElem?_eq_some_iff.1 hi).1
  have hv:=qar (xs:=a) (i:=m) (by omega)
  have e6:qsf N a b j m=some (decide (a[m]'(by omega)<y)):=by
   unfold qsf
   rw[if_pos (dpos (by omega)),qad hv,qaa,qaa,qad hy,qaa,qaa]
  rw[qp6,e6,qaa]
  cases k with
  |zero=>
   obtain rfl:m=i:=by omega
   rw[hv] at hi
   have hi:=Option.some.inj hi
   rw[if_neg (by rw[hi];simp)]
  |succ k=>
   rw[if_pos (dpos (hlt m _ (by omega) hv)),qaf,w64s (by omega)]
   exact qiL N ha hy hi hlt k n (m+1) (by omega) (by omega)
theorem qiK (N:Nat) {a b:List Int} (ha:a.length≤1000) (hb:b.length≤1000) (hN:3000≤N) (aa:a.Pairwise (·<·)) (ab:b.Pairwise (·<·)) (hs:∀y∈b,y∈a):∀(k n j m:Nat),k<n→j+k=b.length→(∀(i:Nat) z y,i<m→a[i]? =some z→b[j]? =some y→z<y)→qij N a b n j m=some (.inl ())
 |k,0,j,m,hn,_,_=>by omega
 |0,n+1,j,m,hn,hj,_=>by
  obtain rfl:j=b.length:=by omega
  rw[qij,if_neg (dneg (by omega))]
 |k+1,n+1,j,m,hn,hj,hm=>by
  have hv:=qar (xs:=b) (i:=j) (by omega)
  obtain ⟨y,hye⟩:∃y,y=b[j]:=⟨_,rfl⟩
  rw[←hye] at hv
  obtain ⟨i,hi⟩:=List.getElem?_of_mem (hs y (List.mem_of_getElem? hv))
  obtain ⟨hil,hie⟩:=List.getElem?_eq_some_iff.1 hi
  have hlt:∀(q:Nat) z,q<i→a[q]? =some z→z<y:=fun q z hq hz=>by
   obtain ⟨h1,h2⟩:=List.getElem?_eq_some_iff.1 hz
   have:=List.pairwise_iff_getElem.1 aa q i h1 hil hq
   rw[h2,hie] at this
   exact this
  have hmi:m≤i:=Nat.le_of_not_lt fun h=>by
   have:=hm i y y h hi hv
   omega
  rw[qij,if_pos (dpos (by omega)),qiL N ha hv hi hlt (i - m) N m (by omega) (by omega),qaa]
  have e7:qsg N a b j i=some false:=by
   unfold qsg
   rw[if_neg (by simp;omega),qad hi,qaa,qaa,qad hv,qaa,qaa]
   simp
  rw[e7,qaa,if_neg (by simp),qaf,w64s (by omega)]
  refine qiK N ha hb hN aa ab hs k n (j+1) i (by omega) (by omega) fun q z w hq hz hw=> ?_
  have h1:=hlt q z hq hz
  obtain ⟨h2,h3⟩:=List.getElem?_eq_some_iff.1 hw
  have:=List.pairwise_iff_getElem.1 ab j (j+1) (by omega) h2 (by omega)
  rw[h3,←hye] at this
  omega
theorem qxw (N:Nat) (x n:Int) (h:1≤n∧n≤1000000):∃r,zaY N x n=some r∧0≤r∧r<n:=by
 unfold zaY
 rw[if_neg (by simp;omega)]
 have hm:modI x n=some (x.tmod n):=by unfold modI;rw[if_neg (by omega)]
 have h1:x.tmod n<n:=Int.tmod_lt_of_pos _ (by omega)
 have h2: -n<x.tmod n:=by have:=Int.lt_tmod_of_pos x (by omega:0<n);omega
 rw[hm,qaa]
 unfold qx9
 by_cases h3:x.tmod n<0
 ·rw[if_pos (by simpa using h3),qaf,qaa,w64 (by omega) (by omega)]
  exact ⟨_,rfl,by omega,by omega⟩
 ·rw[if_neg (by simpa using h3),qaa]
  exact ⟨_,rfl,by omega,by omega⟩
theorem qwQ (N:Nat) (hN:6000≤N) (x1:Int) {c:Int} {s:Maker} (hs:Mk c s) (h0:0≤c) (hc:c≤700000):∃s',qse N x1 s=some (.inl s')∧Mk (c+40000) s':=by
 unfold qse
 obtain ⟨l,w,s1,h1,h2,hP,h3,hw⟩:=qCK N hN hs h0 (by omega)
 have hl:=hP.len
 obtain ⟨q,s2,k1,k2,k3,k4,k5⟩:=qqy N hN hP h2 (by omega)
 rw[h1,qaa]
 simp only[]
 rw[k1,qaa]
 simp only[]
 obtain ⟨pl,g1,g2,g3⟩:=qxw N x1 ((q.length:Int)+1) ⟨by omega,by omega⟩
 rw[w64 (by omega) (by omega),g1,qaa]
 obtain ⟨pl,rfl⟩:=Int.eq_ofNat_of_zero_le g2
 rw[qbx (by omega),qaa]
 have htl:(q.take pl).length≤1000:=by rw[List.length_take];omega
 rcases hw with rfl|hR
 ·have hno:¬RtP l []:=fun h=>by have:=h.2.1.two;simp at this
  have e1:∀t:List Setting,t.length≤1000→zaQ N l [] t=some ([],1):=fun t ht=>by
   rcases qnp N hl (r:=[]) (s:=t) (by simp) ht (by omega) with ⟨_,h⟩|⟨h,_⟩|⟨h,_⟩
   ·exact h
   ·exact absurd h hno
   ·exact absurd h hno
  rw[e1 _ htl,qaa,e1 _ (by omega),qaa,if_pos (by simp)]
  exact ⟨s2,rfl,k2.le (by omega)⟩
 ·have h2r:=hR.2.1.two
  have hK:KnP l q:=KnP.of k4 k5
  have hKt:KnP l (q.take pl):=KnP.of (fun y hy=>k4 y (List.mem_of_mem_take hy)) (k5.sublist (List.take_sublist _ _))
  have e1:∀t:List Setting,t.length≤1000→KnP l t→zaQ N l w t=some (exps l w t (endR w).1 (endR w).2,0):=fun t ht hk=>by
   rcases qnp N hl (r:=w) (s:=t) (by omega) ht (by omega) with ⟨h,_⟩|⟨_,h,_⟩|⟨_,_,h⟩
   ·exact absurd hR h
   ·exact absurd hk h
   ·exact h
  rw[e1 _ htl hKt,qaa,e1 _ (by omega) hK,qaa,if_neg (by simp;intro h;rw[h] at h2r;simp at h2r)]
  have h33:qxV N 0 0=some false:=rfl
  rw[h33,qaa,if_neg (by simp)]
  have l1:=qgS l w (q.take pl) (endR w).1 (endR w).2
  have l2:=qgS l w q (endR w).1 (endR w).2
  have:=qiK N (a:=exps l w (q.take pl) (endR w).1 (endR w).2) (b:=exps l w q (endR w).1 (endR w).2) (by omega) (by omega) (by omega) (qix ..) (qix ..) (fun y hy=>qqo hP (qqb q pl) hy) _ N 0 0 (by omega) (Nat.zero_add _) (fun i z y h=>by omega)
  rw[show qij N _ _ N 0 0=_ from this,qaa]
  exact ⟨s2,rfl,k2.le (by omega)⟩
theorem qiA (N:Nat) (hN:6000≤N) (x1:Int):∀(k n i:Nat) (c:Int) (s:Maker),k<n→i+k=4→Mk c s→0≤c→c+40000*k≤700000→qii N x1 n s i=some (.inl ())
 |k,0,i,c,s,hn,_,_,_,_=>by omega
 |0,n+1,i,c,s,hn,hi,hs,hc0,hc=>by
  obtain rfl:i=4:=by omega
  rw[qii,if_neg (dneg (by omega))]
 |k+1,n+1,i,c,s,hn,hi,hs,hc0,hc=>by
  rw[qii,if_pos (dpos (by omega))]
  obtain ⟨s',h1,h2⟩:=qwQ N hN x1 hs hc0 (by omega)
  rw[h1,qaa]
  dsimp only
  rw[qaf,w64s (by omega)]
  exact qiA N hN x1 k n (i+1) (c+40000) s' (by omega) (by omega) h2 (by omega) (by omega)
theorem qwR (t:List Int) (n:Int):∃N,zaM N t n=some true:=by
 refine ⟨6000, ?_⟩
 unfold zaM zcO
 have h0:=qiA 6000 (by omega) n 4 6000 0 0 (Maker.mk t 0) (by omega) (by omega) (mk0 t) (by omega) (by omega)
 have h0:qii 6000 n 6000 (Maker.mk t 0) 0=some (.inl ()):=h0
 rw[qaa,h0,qaa]
 simp only[]
 rw[qCx (by omega),qaa]
end Go.W
end
