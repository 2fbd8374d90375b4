/- LFk1 LFk2 LFk3 LFk4 LFk5 LFk6 LFk7 LFk8 LFkP -/
import Derived.Test.YtflnpffcbghmhaaMe
section
set_option linter.unusedVariables false
set_option linter.unusedSimpArgs false
set_option linter.unusedSectionVars false
namespace Go.W
open Go.AM
section
variable {V K:Type} [DecidableEq K]
def lpF (f:V→List (K×Bool)→Option (Bool×List (K×Bool))):List V→List (K×Bool)→Option (Bool×List (K×Bool))
 |[],s=>some (false,s)
 |u::us,s=>Option.bind (f u s) fun r=>if r.1=true then some (true,r.2) else lpF f us r.2
structure Sr (V K:Type) where
 dead:V→Bool
 fin:V→Bool
 hit:V→Bool
 suc:V→List V
 key:V→K
variable (S:Sr V K)
inductive Rch:V→Prop
 |here {v:V}:S.dead v=false→S.fin v=true→S.hit v=true→Rch v
 |step {v u:V}:S.dead v=false→S.fin v=false→u∈S.suc v→Rch u→Rch v
def Sn (s:List (K×Bool)) (v:V):Prop:=(qaf s (S.key v)).getD false=true
instance (s:List (K×Bool)) (v:V):Decidable (Sn S s v):=by unfold Sn;infer_instance
def Cl1 (s:List (K×Bool)) (v:V):Prop:=S.dead v=false∧(S.fin v=true→S.hit v=false)∧(S.fin v=false→∀u∈S.suc v,S.dead u=true∨Sn S s u)
variable {S}
theorem Cl1.mono {s s':List (K×Bool)} {v:V} (h:Cl1 S s v) (hs:∀u,Sn S s u→Sn S s' u):Cl1 S s' v:=⟨h.1,h.2.1,fun hf u hu=>(h.2.2 hf u hu).imp id (hs u)⟩
theorem qhH {s:List (K×Bool)} {v u:V}:Sn S (qax s (S.key v) true) u↔(S.key v=S.key u∨Sn S s u):=by
 unfold Sn
 rw[qaE]
 by_cases h:S.key v=S.key u
 ·simp[h]
 ·simp[h]
theorem qc3 {α:Type} {p q:α→Bool} (h:∀y,q y=true→p y=true):∀{l:List α},(l.filter q).length≤(l.filter p).length
 |[]=>by simp
 |y::l=>by
  have ih:=qc3 h (l:=l)
  rw[List.filter_cons,List.filter_cons]
  cases hy:q y with
  |true=>rw[h y hy];simpa using ih
  |false=>
   cases hy2:p y with
   |true=>simp;omega
   |false=>simpa using ih
def lftN (S:Sr V K) (U:List V) (s:List (K×Bool)):Nat:=(U.filter fun u=> !decide (Sn S s u)).length
theorem qrh {U:List V} {s s':List (K×Bool)} (hs:∀u,Sn S s u→Sn S s' u):lftN S U s'≤lftN S U s:=by
 unfold lftN
 refine qc3 fun u hu=> ?_
 simp only[Bool.not_eq_true',decide_eq_false_iff_not] at hu⊢
 exact fun h=>hu (hs u h)
theorem filter_lt {α:Type} {p q:α→Bool}:∀{l:List α} {x:α},x∈l→(∀y,q y=true→p y=true)→p x=true→q x=false→(l.filter q).length<(l.filter p).length
 |[],_,h,_,_,_=>by cases h
 |y::l,x,h,hpq,hp,hq=>by
  have hle:(l.filter q).length≤(l.filter p).length:=qc3 hpq
  rcases List.mem_cons.1 h with rfl|h
  ·rw[List.filter_cons,List.filter_cons,hp,hq]
   simp only[if_true,List.length_cons]
   exact Nat.lt_succ_of_le hle
  ·have ih:=filter_lt h hpq hp hq
   rw[List.filter_cons,List.filter_cons]
   cases hy:q y with
   |true=>rw[hpq y hy];simpa using ih
   |false=>
    cases hy2:p y with
    |true=>simp;omega
    |false=>simpa using ih
theorem qxV {U:List V} {s:List (K×Bool)} {v:V} (hv:v∈U) (hn:¬Sn S s v):lftN S U (qax s (S.key v) true)<lftN S U s:=by
 unfold lftN
 refine filter_lt hv (fun u hu=> ?_) (by simpa using hn) ?_
 ·simp only[Bool.not_eq_true',decide_eq_false_iff_not] at hu⊢
  exact fun h=>hu (qhH.2 (.inr h))
 ·simp only[Bool.not_eq_false',decide_eq_true_eq]
  exact qhH.2 (.inl rfl)
structure Out (S:Sr V K) (U:List V) (s:List (K×Bool)) (b:Bool) (s':List (K×Bool)) (P:Prop) (T:Prop):Prop where
 sub:∀u,Sn S s u→Sn S s' u
 yes:b=true→T
 no:b=false→P∧∀u∈U,Sn S s' u→¬Sn S s u→Cl1 S s' u
theorem dfs {U:List V} (hU:∀v∈U,∀u∈S.suc v,u∈U) (hk:∀v∈U,∀u∈U,S.dead v=false→S.dead u=false→S.key v=S.key u→v=u) (hdk:∀v∈U,∀u∈U,S.key v=S.key u→S.dead v=S.dead u)
  (F:Nat→V→List (K×Bool)→Option (Bool×List (K×Bool)))
  (hF:∀rc v s,v∈U→F (rc+1) v s=if S.dead v=true∨Sn S s v then some (false,s) else if S.fin v=true then some (S.hit v,qax s (S.key v) true) else lpF (F rc) (S.suc v) (qax s (S.key v) true)):
  ∀(rc:Nat) (v:V) (s:List (K×Bool)),v∈U→lftN S U s<rc→∃b s',F rc v s=some (b,s')∧Out S U s b s' (S.dead v=true∨Sn S s' v) (Rch S v)
 |0,_,_,_,h=>by omega
 |rc+1,v,s,hv,h=>by
  rw[hF rc v s hv]
  by_cases h1:S.dead v=true∨Sn S s v
  ·rw[if_pos h1]
   exact ⟨false,s,rfl,fun _ h=>h,(by simp),fun _=>⟨h1,fun u _ h2 h3=>absurd h2 h3⟩⟩
  ·rw[if_neg h1]
   have hd:S.dead v=false:=by simpa using fun hh=>h1 (.inl hh)
   have hn:¬Sn S s v:=fun hh=>h1 (.inr hh)
   obtain ⟨s0,hs0⟩:∃s0,s0=qax s (S.key v) true:=⟨_,rfl⟩
   rw[←hs0]
   have hsub0:∀u,Sn S s u→Sn S s0 u:=fun u hu=>by rw[hs0];exact qhH.2 (.inr hu)
   have hv0:Sn S s0 v:=by rw[hs0];exact qhH.2 (.inl rfl)
   have hnew:∀u∈U,Sn S s0 u→¬Sn S s u→u=v:=fun u hu h2 h3=>by
    rw[hs0] at h2
    rcases qhH.1 h2 with h4|h4
    ·have hdu:S.dead u=false:=by rw[←hdk v hv u hu h4];exact hd
     exact (hk v hv u hu hd hdu h4).symm
    ·exact absurd h4 h3
   by_cases h2:S.fin v=true
   ·rw[if_pos h2]
    refine ⟨_,_,rfl,hsub0,fun hh=> .here hd h2 hh,fun hh=>⟨.inr hv0,fun u hu g1 g2=> ?_⟩⟩
    rw[hnew u hu g1 g2]
    exact ⟨hd,fun _=>hh,(fun h3=>by rw[h2] at h3;cases h3)⟩
   ·rw[if_neg h2]
    have hf:S.fin v=false:=by simpa using h2
    have hlt:lftN S U s0<rc:=by
     have:=qxV hv hn
     rw[←hs0] at this
     omega
    have loop:∀(q:List V) (t:List (K×Bool)),(∀u∈q,u∈U)→(∀u,Sn S s0 u→Sn S t u)→
      ∃b s',lpF (F rc) q t=some (b,s')∧Out S U t b s' (∀u∈q,S.dead u=true∨Sn S s' u) (∃u∈q,Rch S u):=by
     intro q
     induction q with
     |nil=>intro t _ _;exact ⟨false,t,rfl,fun _ h=>h,(by simp),fun _=>⟨by simp,fun u _ h2 h3=>absurd h2 h3⟩⟩
     |cons u q ih=>
      intro t hq ht
      have hlt':lftN S U t<rc:=Nat.lt_of_le_of_lt (qrh ht) hlt
      obtain ⟨b,s1,g1,g2⟩:=dfs hU hk hdk F hF rc u t (hq u List.mem_cons_self) hlt'
      rw[lpF,g1,qaa]
      cases b with
      |true=>exact ⟨true,s1,rfl,g2.sub,fun _=>⟨u,List.mem_cons_self,g2.yes rfl⟩,by simp⟩
      |false=>
       rw[if_neg (by simp)]
       obtain ⟨b,s2,g3,g4⟩:=ih s1 (fun x hx=>hq x (List.mem_cons_of_mem _ hx)) (fun x hx=>g2.sub x (ht x hx))
       refine ⟨b,s2,g3,fun x hx=>g4.sub x (g2.sub x hx),fun hb=> ?_,fun hb=> ?_⟩
       ·obtain ⟨x,hx,hr⟩:=g4.yes hb
        exact ⟨x,List.mem_cons_of_mem _ hx,hr⟩
       ·obtain ⟨k1,k2⟩:=g2.no rfl
        obtain ⟨k3,k4⟩:=g4.no hb
        refine ⟨fun x hx=> ?_,fun x hx a1 a2=> ?_⟩
        ·rcases List.mem_cons.1 hx with rfl|hx
         ·exact k1.imp id (g4.sub x)
         ·exact k3 x hx
        ·by_cases a3:Sn S s1 x
         ·exact (k2 x hx a3 a2).mono g4.sub
         ·exact k4 x hx a1 a3
    obtain ⟨b,s',g1,g2⟩:=loop (S.suc v) s0 (hU v hv) (fun _ h=>h)
    refine ⟨b,s',g1,fun u hu=>g2.sub u (hsub0 u hu),fun hb=> ?_,fun hb=> ?_⟩
    ·obtain ⟨u,hu,hr⟩:=g2.yes hb
     exact .step hd hf hu hr
    ·obtain ⟨k1,k2⟩:=g2.no hb
     refine ⟨.inr (g2.sub v hv0),fun u hu a1 a2=> ?_⟩
     by_cases a3:Sn S s0 u
     ·rw[hnew u hu a3 a2]
      exact ⟨hd,(fun h3=>by rw[hf] at h3;cases h3),fun _=>k1⟩
     ·exact k2 u hu a1 a3
theorem qv8 {U:List V} (hU:∀v∈U,∀u∈S.suc v,u∈U) {s:List (K×Bool)} (hc:∀u∈U,Sn S s u→Cl1 S s u) {v:V} (hr:Rch S v):v∈U→Sn S s v→False:=by
 induction hr with
 |here hd hf hh=>
  intro hv hs
  have:=(hc _ hv hs).2.1 hf
  rw[hh] at this;cases this
 |step hd hf hu hr ih=>
  intro hv hs
  rcases (hc _ hv hs).2.2 hf _ hu with h1|h1
  ·cases hr with
   |here hd'=>rw[hd'] at h1;cases h1
   |step hd'=>rw[hd'] at h1;cases h1
  ·exact ih (hU _ hv _ hu) h1
theorem Rch.live {v:V} (h:Rch S v):S.dead v=false:=by cases h<;>assumption
end
end Go.W
end
section
set_option linter.unusedVariables false
set_option linter.unusedSimpArgs false
namespace Go.W
open Go.AM
def onwE (x:PlantElement) (p n:Int):List Int:=if x.kind=3∧p=4 then [] else if x.kind=2∧n=x.a∧p=1 then [x.b] else if x.kind=2∧n=x.a∧p=2 then [x.c] else thrE (qag x) n
def onw (l:List PlantElement) (p:Int→Int) (i n:Int):List Int:=if 0≤i then (match l[i.toNat]? with|some x=>onwE x (p i) n|none=>[]) else []
def vS {K:Type} (l:List PlantElement) (on:List Int) (p:Int→Int) (fi la:Int) (key:Spot→K):Sr Spot K where
 dead:=fun v=>decide (nbr l v.element v.node<0)
 fin:=fun v=>on.contains (nbr l v.element v.node)
 hit:=fun v=>(nbr l v.element v.node !=fi)&&(nbr l v.element v.node !=la)
 suc:=fun v=>(onw l p (nbr l v.element v.node) v.node).map (Spot.mk (nbr l v.element v.node))
 key:=key
def allS (l:List PlantElement):List Spot:=(List.range l.length).flatMap fun (i:Nat)=>(eI l (i:Int)).map fun n=>Spot.mk (i:Int) n
theorem sum3 (l:List PlantElement):∀(k:List Nat),(k.flatMap fun (i:Nat)=>(eI l (i:Int)).map fun n=>Spot.mk (i:Int) n).length≤3*k.length
 |[]=>by simp
 |i::k=>by
  have:=sum3 l k
  have:=qdY l (i:Int)
  rw[List.flatMap_cons,List.length_append,List.length_map,List.length_cons]
  omega
theorem allS_len (l:List PlantElement):(allS l).length≤3*l.length:=by
 have:=sum3 l (List.range l.length)
 rwa [List.length_range] at this
theorem qcv {l:List PlantElement} {v:Spot}:v∈allS l↔v.node∈eI l v.element:=by
 constructor
 ·intro h
  obtain ⟨i,_,h⟩:=List.mem_flatMap.1 h
  obtain ⟨n,hn,rfl⟩:=List.mem_map.1 h
  exact hn
 ·intro h
  obtain ⟨h0,h1,_⟩:=qb1 h
  refine List.mem_flatMap.2 ⟨v.element.toNat,List.mem_range.2 (by omega),List.mem_map.2 ⟨v.node, ?_, ?_⟩⟩
  ·rw[Int.toNat_of_nonneg h0];exact h
  ·rw[Int.toNat_of_nonneg h0]
theorem qga {l:List PlantElement} {i:Int} {x:PlantElement} (h0:0≤i) (h:l[i.toNat]? =some x):getI l i=some x:=by
 obtain ⟨a,rfl⟩:=Int.eq_ofNat_of_zero_le h0
 exact qae (by simpa using h)
theorem qnD {l:List PlantElement} {i n:Int} (h:0≤nbr l i n):∃x,l[(nbr l i n).toNat]? =some x∧getI l (nbr l i n)=some x∧n∈qag x∧x∈l:=by
 obtain ⟨h1,_⟩:=qeO h
 obtain ⟨h0,h2,x,hx,hn⟩:=qb1 h1
 exact ⟨x,hx,qga h0 hx,hn,List.mem_of_getElem? hx⟩
theorem qhh {l:List PlantElement} {i:Int} {x:PlantElement} (h0:0≤i) (h:l[i.toNat]? =some x):eI l i=qag x:=by
 unfold eI;rw[if_pos h0,h]
theorem qlp {x:PlantElement} {p n m:Int} (h:m∈onwE x p n):m∈qag x:=by
 unfold onwE at h
 split at h
 ·cases h
 ·split at h
  ·rename_i h1 h2
   have:=List.mem_singleton.1 h
   subst this
   unfold qag;rw[if_neg (by omega),if_pos h2.1];simp
  ·split at h
   ·rename_i h1 h2 h3
    have:=List.mem_singleton.1 h
    subst this
    unfold qag;rw[if_neg (by omega),if_pos h3.1];simp
   ·exact (qer h).2
theorem qDp {K:Type} {l:List PlantElement} {on:List Int} {p:Int→Int} {fi la:Int} {key:Spot→K}:∀v∈allS l,∀u∈(vS l on p fi la key).suc v,u∈allS l:=by
 intro v hv u hu
 obtain ⟨m,hm,rfl⟩:=List.mem_map.1 hu
 rw[qcv]
 show m∈eI l (nbr l v.element v.node)
 unfold onw at hm
 split at hm
 ·rename_i h0
  obtain ⟨x,hx,_,_⟩:=qnD h0
  rw[hx] at hm
  rw[qhh h0 hx]
  exact qlp hm
 ·cases hm
theorem qyj (N:Nat) (hN:4≤N) {l:List PlantElement} {m:List (Int×Int)} {i n:Int} {x:PlantElement} (h0:0≤i) (hx:l[i.toNat]? =some x):zbA N l m i n=some (onw l (fun i=>(qaf m i).getD 0) i n):=by
 unfold zbA
 rw[qga h0 hx,qaa,qad,qad]
 have e0:qtc N x ((qaf m i).getD 0)=some (decide (x.kind=3∧(qaf m i).getD 0=4)):=by
  unfold qtc
  by_cases h:x.kind=3
  ·rw[if_pos (by simpa using h),qad];congr 1;rw[Bool.eq_iff_iff];simp[h]
  ·rw[if_neg (by simpa using h)];simp[h]
 have e1:qtd N n x ((qaf m i).getD 0)=some (decide (x.kind=2∧n=x.a∧(qaf m i).getD 0=1)):=by
  unfold qtd
  by_cases h:x.kind=2
  ·rw[if_pos (by simpa using h)]
   by_cases h2:n=x.a
   ·rw[if_pos (by simpa using h2),qad];congr 1;rw[Bool.eq_iff_iff];simp[h,h2]
   ·rw[if_neg (by simpa using h2)];simp[h2]
  ·rw[if_neg (by simpa using h)];simp[h]
 have e2:qte N n x ((qaf m i).getD 0)=some (decide (x.kind=2∧n=x.a∧(qaf m i).getD 0=2)):=by
  unfold qte
  by_cases h:x.kind=2
  ·rw[if_pos (by simpa using h)]
   by_cases h2:n=x.a
   ·rw[if_pos (by simpa using h2),qad];congr 1;rw[Bool.eq_iff_iff];simp[h,h2]
   ·rw[if_neg (by simpa using h2)];simp[h2]
  ·rw[if_neg (by simpa using h)];simp[h]
 rw[e0,qaa,e1,e2]
 unfold onw onwE
 rw[if_pos h0,hx]
 simp only
 by_cases c0:x.kind=3∧(qaf m i).getD 0=4
 ·rw[if_pos (by simpa using c0),if_pos c0]
 rw[if_neg (by simpa using c0),if_neg c0,qaa]
 by_cases c1:x.kind=2∧n=x.a∧(qaf m i).getD 0=1
 ·rw[if_pos (by simpa using c1),if_pos c1]
 rw[if_neg (by simpa using c1),if_neg c1,qaa]
 by_cases c2:x.kind=2∧n=x.a∧(qaf m i).getD 0=2
 ·rw[if_pos (by simpa using c2),if_pos c2]
 rw[if_neg (by simpa using c2),if_neg c2,qn5 N hN,qaa]
 unfold thr
 rw[qhh h0 hx]
abbrev SpS:=List (Spot×Bool)
abbrev OnM:=List (Int×Bool)
def OnR (m:OnM) (on:List Int):Prop:=∀k,(qaf m k).getD false=on.contains k
def sumF {K:Type} (r:Bool×List (K×Bool)):Sum (List (K×Bool)) (Bool×List (K×Bool)):=if r.1=true then .inr (true,r.2) else .inl r.2
theorem qDc (N:Nat) (self:List Int→Spot→List PlantElement→SpS→OnM→Int→Int→List (Int×Int)→SpS→OnM→Option (Bool×SpS)) (x13:List Int) (l:List PlantElement) (fi la:Int) (m:List (Int×Int)) (k0:Int) {o:List Int} (ho:o.length≤1000) (onm:OnM):
  ∀(k n i:Nat) (t:SpS),k<n→i+k=o.length→qmq N self x13 l fi la m k0 o (o.length:Int) onm n i t=Option.bind (lpF (fun v s=>self x13 v l [] [] fi la m s onm) ((o.drop i).map (Spot.mk k0)) t) fun r=>some (sumF r)
 |k,0,i,t,hn,_=>by omega
 |0,n+1,i,t,hn,hi=>by
  obtain rfl:i=o.length:=by omega
  rw[qmq,if_neg (dneg (by omega)),List.drop_length]
  rfl
 |k+1,n+1,i,t,hn,hi=>by
  have hv:=qao (xs:=o) (i:=i) (by omega)
  rw[qmq,if_pos (dpos (by omega)),qae hv,qaa,qbm hv,List.map_cons,lpF]
  cases hs:self x13 (Spot.mk k0 o[i]) l [] [] fi la m t onm with
  |none=>rfl
  |some r=>
   rw[qaa,qaa]
   obtain ⟨b,t'⟩:=r
   cases b with
   |true=>rfl
   |false=>
    simp only[Bool.false_eq_true,if_false]
    rw[w64s (by omega)]
    exact qDc N self x13 l fi la m k0 ho onm k n (i+1) t' (by omega) (by omega)
theorem qyh (N:Nat) (hN:1100≤N) {l:List PlantElement} (hl:l.length≤96) {on:List Int} {onm:OnM} (hon:OnR onm on) {m:List (Int×Int)} {fi la:Int} (x13:List Int) (rc:Nat) (v:Spot) (s:SpS):
  zaB N (rc+1) x13 v l [] [] fi la m s onm=if (vS l on (fun i=>(qaf m i).getD 0) fi la id).dead v=true∨Sn (vS l on (fun i=>(qaf m i).getD 0) fi la id) s v then some (false,s) else if (vS l on (fun i=>(qaf m i).getD 0) fi la id).fin v=true then some ((vS l on (fun i=>(qaf m i).getD 0) fi la id).hit v,qax s v true)
   else lpF (fun v s=>zaB N rc x13 v l [] [] fi la m s onm) ((vS l on (fun i=>(qaf m i).getD 0) fi la (id:Spot→Spot)).suc v) (qax s v true):=by
 rw[zaB,qiy N (by omega) (by omega),qaa]
 have e0:qsW N (zaB N rc) v (nbr l v.element v.node) s=some (decide (nbr l v.element v.node<0∨(qaf s v).getD false=true)):=by
  unfold qsW
  rw[qad]
  by_cases h:(qaf s v).getD false=true
  ·rw[if_pos h];simp[h]
  ·rw[if_neg h];simp[h]
 rw[e0,qaa]
 by_cases c:nbr l v.element v.node<0∨(qaf s v).getD false=true
 ·rw[if_pos (by simpa using c),if_pos (by simpa[vS,Sn] using c)]
 rw[if_neg (by simpa using c),if_neg (by simpa[vS,Sn] using c),qad,qad,hon]
 have h0:0≤nbr l v.element v.node:=by omega
 by_cases c2:on.contains (nbr l v.element v.node)=true
 ·rw[if_pos c2,if_pos (show (vS l on _ fi la id).fin v=true from c2)]
  unfold qyE
  by_cases c3:nbr l v.element v.node=fi
  ·rw[if_neg (by simpa using c3),qaa]
   simp[vS,c3]
  ·rw[if_pos (by simpa using c3),qad,qaa]
   simp[vS,c3]
 ·rw[if_neg c2,if_neg (show ¬(vS l on _ fi la id).fin v=true from c2)]
  obtain ⟨x,hx,_,_,_⟩:=qnD h0
  rw[qyj N (by omega) h0 hx,qaa]
  have hol:(onw l (fun i=>(qaf m i).getD 0) (nbr l v.element v.node) v.node).length≤3:=by
   unfold onw onwE
   rw[if_pos h0,hx]
   simp only
   split
   ·simp
   ·split
    ·simp
    ·split
     ·simp
     ·have:=qe1 l (nbr l v.element v.node) v.node
      unfold thr at this
      rw[qhh h0 hx] at this
      exact this
  refine (congrArg (fun q=>Option.bind q _) (qDc N (zaB N rc) x13 l fi la m (nbr l v.element v.node) (by omega) onm (onw l (fun i=>(qaf m i).getD 0) (nbr l v.element v.node) v.node).length N 0 (qax s v true) (by omega) (by omega))).trans ?_
  rw[List.drop_zero]
  show Option.bind (Option.bind (lpF _ ((vS l on _ fi la (id:Spot→Spot)).suc v) _) _) _=_
  cases hq:lpF (fun v s=>zaB N rc x13 v l [] [] fi la m s onm) ((vS l on (fun i=>(qaf m i).getD 0) fi la (id:Spot→Spot)).suc v) (qax s v true) with
  |none=>rfl
  |some r=>
   obtain ⟨b,t⟩:=r
   cases b<;>rfl
theorem qEO {l:List PlantElement} {on:List Int} {p:Int→Int} {fi la:Int}:∀v∈allS l,∀u∈allS l,(vS l on p fi la (id:Spot→Spot)).dead v=false→(vS l on p fi la (id:Spot→Spot)).dead u=false→(vS l on p fi la (id:Spot→Spot)).key v=(vS l on p fi la (id:Spot→Spot)).key u→v=u:=fun v _ u _ _ _ h=>h
theorem qoG {K:Type} [DecidableEq K] {S:Sr Spot K} {U:List Spot} (hU:∀v∈U,∀u∈S.suc v,u∈U) {s1 s2:List (K×Bool)} {b:Bool} {v u:Spot} (hv:v∈U) (hu:u∈U) (h1:Out S U [] false s1 (S.dead v=true∨Sn S s1 v) (Rch S v)) (h2:Out S U s1 b s2 (S.dead u=true∨Sn S s2 u) (Rch S u)):
  b=true↔Rch S v∨Rch S u:=by
 constructor
 ·exact fun hb=> .inr (h2.yes hb)
 ·intro hr
  cases hb:b with
  |true=>rfl
  |false=>
   obtain ⟨p1,p2⟩:=h1.no rfl
   obtain ⟨p3,p4⟩:=h2.no hb
   have hc:∀x∈U,Sn S s2 x→Cl1 S s2 x:=fun x hx hs=>by
    by_cases hs1:Sn S s1 x
    ·exact (p2 x hx hs1 (by simp[Sn,qaf])).mono h2.sub
    ·exact p4 x hx hs hs1
   rcases hr with hr|hr
   ·rcases p1 with p1|p1
    ·rw[hr.live] at p1;cases p1
    ·exact (qv8 hU hc hr hv (h2.sub v p1)).elim
   ·rcases p3 with p3|p3
    ·rw[hr.live] at p3;cases p3
    ·exact (qv8 hU hc hr hu p3).elim
theorem qv5 {K:Type} [DecidableEq K] (S:Sr Spot K) (l:List PlantElement) (hl:l.length≤96) (s:List (K×Bool)):lftN S (allS l) s≤288:=by
 have h1:=allS_len l
 have h2:=List.length_filter_le (fun u=> !decide (Sn S s u)) (allS l)
 unfold lftN
 omega
open Classical in
theorem qsz (N:Nat) (hN:1100≤N) {l:List PlantElement} (hl:l.length≤96) {on:List Int} {onm:OnM} (hon:OnR onm on) {m:List (Int×Int)} {fi la:Int} (x13:List Int) {i:Nat} {x:PlantElement} (hx:l[i]? =some x) (hk:x.kind=1):
  qs6 N l m fi la x13 i x onm []=some (decide (Rch (vS l on (fun i=>(qaf m i).getD 0) fi la (id:Spot→Spot)) (Spot.mk i x.a)∨Rch (vS l on (fun i=>(qaf m i).getD 0) fi la (id:Spot→Spot)) (Spot.mk i x.b))):=by
 obtain ⟨S,hS⟩:∃S,S=vS l on (fun i=>(qaf m i).getD 0) fi la (id:Spot→Spot):=⟨_,rfl⟩
 rw[←hS]
 have he:qag x=[x.a,x.b]:=by unfold qag;rw[if_pos (.inl hk)]
 have ha:Spot.mk i x.a∈allS l:=by rw[qcv];show x.a∈eI l (i:Int);rw[qc0 hx,he];simp
 have hb:Spot.mk i x.b∈allS l:=by rw[qcv];show x.b∈eI l (i:Int);rw[qc0 hx,he];simp
 have hU:∀v∈allS l,∀u∈S.suc v,u∈allS l:=by rw[hS];exact qDp
 have D:=dfs (S:=S) hU (by rw[hS];exact qEO) (by rw[hS];intro v _ u _ h;have h:v=u:=h;rw[h]) (fun rc v s=>zaB N rc x13 v l [] [] fi la m s onm) (fun rc v s hv=>by rw[hS];exact qyh N hN hl hon x13 rc v s)
 obtain ⟨b1,s1,g1,g2⟩:=D N (Spot.mk i x.a) [] ha (by have:=qv5 S l hl [];omega)
 unfold qs6
 rw[g1,qaa]
 cases b1 with
 |true=>
  rw[if_pos rfl]
  have:=g2.yes rfl
  simp[this]
 |false=>
  rw[if_neg (by simp)]
  obtain ⟨b2,s2,g3,g4⟩:=D N (Spot.mk i x.b) s1 hb (by have:=qv5 S l hl s1;omega)
  rw[g3,qaa]
  have:=qoG hU ha hb g2 g4
  cases b2 with
  |true=>simp[this.1 rfl]
  |false=>simp[←this]
end Go.W
end
section
set_option linter.unusedVariables false
set_option linter.unusedSimpArgs false
namespace Go.W
open Go.AM
def atP (s:List Setting) (a:Int):Int:=match s.find? (fun y=>y.element==a) with|some y=>y.position|none=>0
def ok1 (l:List PlantElement) (y:Setting):Prop:=0≤y.element∧∃x,l[y.element.toNat]? =some x∧((x.kind=2∧(y.position=1∨y.position=2))∨(x.kind=3∧(y.position=3∨y.position=4)))
def KnP (l:List PlantElement) (s:List Setting):Prop:=∀(i:Nat) (y:Setting),s[i]? =some y→ok1 l y∧∀z∈s.take i,z.element≠y.element
theorem ok1.pos {l:List PlantElement} {y:Setting} (h:ok1 l y):y.position≠0:=by
 obtain ⟨_,x,_,h|h⟩:=h<;>omega
theorem qz3 {l:List PlantElement} {s:List Setting} (h:∀z∈s,ok1 l z) (a:Int):atP s a≠0↔∃z∈s,z.element=a:=by
 unfold atP
 cases hf:s.find? (fun y=>y.element==a) with
 |none=>
  have:=List.find?_eq_none.1 hf
  simp only[ne_eq,not_true,false_iff,not_exists,not_and]
  exact fun z hz he=>this z hz (by simpa using he)
 |some y=>
  have h1:=List.mem_of_find?_eq_some hf
  have h2:=List.find?_some hf
  simp only
  exact ⟨fun _=>⟨y,h1,by simpa using h2⟩,fun _=>(h y h1).pos⟩
theorem qqP (s:List Setting) (y:Setting) (a:Int) (h:∀z∈s,z.element≠y.element):atP (s++[y]) a=if y.element=a then y.position else atP s a:=by
 unfold atP
 rw[List.find?_append]
 by_cases ha:y.element=a
 ·rw[if_pos ha]
  have:s.find? (fun z=>z.element==a)=none:=List.find?_eq_none.2 fun z hz=>by simpa using fun he=>h z hz (he.trans ha.symm)
  rw[this];simp[ha]
 ·rw[if_neg ha]
  cases s.find? (fun z=>z.element==a) with
  |none=>simp[ha]
  |some z=>simp
theorem qji {α:Type} {s:List α} {i:Nat} {z:α}:z∈s.take i↔∃j,j<i∧s[j]? =some z:=by
 constructor
 ·intro h
  obtain ⟨j,hj⟩:=List.getElem?_of_mem h
  rw[List.getElem?_take] at hj
  split at hj
  ·exact ⟨j,‹_›,hj⟩
  ·cases hj
 ·rintro ⟨j,hj,h⟩
  refine List.mem_of_getElem? (i:=j) ?_
  rw[List.getElem?_take,if_pos hj];exact h
instance (l:List PlantElement) (y:Setting):Decidable (ok1 l y):=by
 unfold ok1
 cases h:l[y.element.toNat]? with
 |none=>exact isFalse (by simp)
 |some x=>exact decidable_of_iff (0≤y.element∧((x.kind=2∧(y.position=1∨y.position=2))∨(x.kind=3∧(y.position=3∨y.position=4)))) (by simp)
theorem qlx (N:Nat) {l:List PlantElement} (hl:l.length≤96) {s:List Setting} (hs:s.length≤1000):∀(k n i:Nat) (m:List (Int×Int)),k<n→i+k=s.length→(∀(j:Nat) y,j<i→s[j]? =some y→ok1 l y∧∀z∈s.take j,z.element≠y.element)→(∀a,(qaf m a).getD 0=atP (s.take i) a)→
  (∃m',qgS N l s (s.length:Int) n m i=some (.inl m')∧KnP l s∧∀a,(qaf m' a).getD 0=atP s a)∨(qgS N l s (s.length:Int) n m i=some (.inr false)∧¬KnP l s)
 |k,0,i,m,hn,_,_,_=>by omega
 |0,n+1,i,m,hn,hi,hok,hm=>by
  obtain rfl:i=s.length:=by omega
  rw[qgS,if_neg (dneg (by omega))]
  refine .inl ⟨m,rfl,fun j y hj=>hok j y (List.getElem?_eq_some_iff.1 hj).1 hj,fun a=> ?_⟩
  rw[hm,List.take_length]
 |k+1,n+1,i,m,hn,hi,hok,hm=>by
  have hv:=qao (xs:=s) (i:=i) (by omega)
  obtain ⟨y,hy⟩:∃y,y=s[i]:=⟨_,rfl⟩
  rw[←hy] at hv
  rw[qgS,if_pos (dpos (by omega)),qae hv,qaa]
  have hall:∀z∈s.take i,ok1 l z:=fun z hz=>by
   obtain ⟨j,hj,hz⟩:=qji.1 hz
   exact (hok j z hj hz).1
  have e1:qtg N l m y=some (decide (y.element<0∨(l.length:Int)≤y.element∨∃z∈s.take i,z.element=y.element)):=by
   unfold qtg
   by_cases h1:y.element<0
   ·rw[if_pos (dpos h1)];simp[h1]
   ·rw[if_neg (dneg h1)]
    by_cases h2:(l.length:Int)≤y.element
    ·rw[if_pos (lpos h2)];simp[h2]
    ·rw[if_neg (lneg h2),qad,hm]
     congr 1
     rw[Bool.eq_iff_iff]
     have:=qz3 hall y.element
     simp only[bne_iff_ne,ne_eq,decide_eq_true_eq,h1,h2,false_or]
     exact this
  rw[e1,qaa]
  by_cases c1:y.element<0∨(l.length:Int)≤y.element∨∃z∈s.take i,z.element=y.element
  ·rw[if_pos (by simpa using c1)]
   refine .inr ⟨rfl,fun hK=> ?_⟩
   obtain ⟨⟨k1,x,k2,_⟩,k3⟩:=hK i y hv
   rcases c1 with c1|c1|⟨z,hz,c1⟩
   ·omega
   ·have:=(List.getElem?_eq_some_iff.1 k2).1
    omega
   ·exact k3 z hz c1
  ·rw[if_neg (by simpa using c1)]
   have c1a:0≤y.element∧y.element<l.length:=by
    constructor
    ·exact Int.not_lt.1 fun h=>c1 (.inl h)
    ·exact Int.not_le.1 fun h=>c1 (.inr (.inl h))
   have hno:∀z∈s.take i,z.element≠y.element:=fun z hz he=>c1 (.inr (.inr ⟨z,hz,he⟩))
   obtain ⟨a,ha⟩:=Int.eq_ofNat_of_zero_le c1a.1
   have hx:=qao (xs:=l) (i:=a) (by omega)
   obtain ⟨x,hxe⟩:∃x,x=l[a]:=⟨_,rfl⟩
   rw[←hxe] at hx
   have hx':l[y.element.toNat]? =some x:=by rw[ha,Int.toNat_natCast];exact hx
   have e2:qth N y=some (decide (y.position=1∨y.position=2)):=by
    unfold qth
    by_cases h:y.position=1
    ·rw[if_pos (by simpa using h)];simp[h]
    ·rw[if_neg (by simpa using h),qad];congr 1;rw[Bool.eq_iff_iff];simp[h]
   have e3:qti N y=some (decide (y.position=3∨y.position=4)):=by
    unfold qti
    by_cases h:y.position=3
    ·rw[if_pos (by simpa using h)];simp[h]
    ·rw[if_neg (by simpa using h),qad];congr 1;rw[Bool.eq_iff_iff];simp[h]
   rw[e2,qaa,e3,qaa,qga c1a.1 hx',qaa]
   have e4:qtj N (decide (y.position=1∨y.position=2)) (decide (y.position=3∨y.position=4)) x.kind=some (decide (¬ok1 l y)):=by
    have hiff:ok1 l y↔((x.kind=2∧(y.position=1∨y.position=2))∨(x.kind=3∧(y.position=3∨y.position=4))):=by
     unfold ok1
     rw[hx']
     constructor
     ·rintro ⟨_,x',hx2,h⟩
      cases hx2;exact h
     ·exact fun h=>⟨c1a.1,x,rfl,h⟩
    unfold qtj
    by_cases h2:x.kind=2
    ·rw[if_pos (by simpa using h2)]
     by_cases hp:y.position=1∨y.position=2
     ·rw[if_neg (by simp[hp])]
      have:ok1 l y:=hiff.2 (.inl ⟨h2,hp⟩)
      simp[this]
     ·rw[if_pos (by simpa using hp),if_neg (by rw[h2];simp)]
      have:¬ok1 l y:=fun h=>by rcases hiff.1 h with h|h;exact hp h.2;omega
      simp[this]
    ·rw[if_neg (by simpa using h2),if_pos (by simp)]
     by_cases h3:x.kind=3
     ·rw[if_pos (by simpa using h3)]
      congr 1
      rw[Bool.eq_iff_iff]
      simp only[Bool.not_eq_true',decide_eq_false_iff_not,decide_eq_true_eq]
      rw[hiff]
      simp[h2,h3]
     ·rw[if_neg (by simpa using h3)]
      have:¬ok1 l y:=fun h=>by rcases hiff.1 h with h|h;exact h2 h.1;exact h3 h.1
      simp[this]
   rw[e4,qaa]
   by_cases c2:ok1 l y
   ·rw[if_neg (by simpa using c2),qad,w64s (by omega)]
    refine qlx N hl hs k n (i+1) _ (by omega) (by omega) (fun j z hj hz=> ?_) (fun b=> ?_)
    ·by_cases hji:j=i
     ·subst hji;rw[hv] at hz;cases hz;exact ⟨c2,hno⟩
     ·exact hok j z (by omega) hz
    ·rw[qaE,qbd hv,qqP _ _ _ hno]
     by_cases hb:y.element=b
     ·rw[if_pos hb,if_pos hb];rfl
     ·rw[if_neg hb,if_neg hb];exact hm b
   ·rw[if_pos (by simpa using c2)]
    exact .inr ⟨rfl,fun hK=>c2 (hK i y hv).1⟩
theorem qn2 (N:Nat) {l:List PlantElement} (hl:l.length≤96) {s:List Setting} (hs:s.length≤1000) (hN:s.length<N):
  (∃m,zbG N l s=some (m,true)∧KnP l s∧∀a,(qaf m a).getD 0=atP s a)∨(zbG N l s=some ([],false)∧¬KnP l s):=by
 unfold zbG
 rcases qlx N hl hs s.length N 0 [] hN (by omega) (fun j y hj=>by omega) (fun a=>rfl) with ⟨m,h1,h2,h3⟩|⟨h1,h2⟩
 ·exact .inl ⟨m,by rw[show qgS N l s _ N [] 0=_ from h1];rfl,h2,h3⟩
 ·exact .inr ⟨by rw[show qgS N l s _ N [] 0=_ from h1];rfl,h2⟩
theorem qhi (N:Nat) {r:List Visit} (hr:r.length≤1000000):∀(k n i:Nat) (m:OnM),k<n→i+k=r.length→OnR m (elems (r.take i))→∃m',qiP N r (r.length:Int) n m i=some m'∧OnR m' (elems r)
 |k,0,i,m,hn,_,_=>by omega
 |0,n+1,i,m,hn,hi,hm=>by
  obtain rfl:i=r.length:=by omega
  rw[qiP,if_neg (dneg (by omega))]
  rw[List.take_length] at hm
  exact ⟨m,rfl,hm⟩
 |k+1,n+1,i,m,hn,hi,hm=>by
  have hv:=qao (xs:=r) (i:=i) (by omega)
  rw[qiP,if_pos (dpos (by omega)),qae hv,qaa,qad,w64s (by omega)]
  refine qhi N hr k n (i+1) _ (by omega) (by omega) fun a=> ?_
  rw[qaE,qbd hv]
  unfold elems
  rw[List.map_append,List.contains_eq_mem]
  by_cases ha:r[i].element=a
  ·rw[if_pos ha];simp[ha]
  ·rw[if_neg ha,hm]
   unfold elems
   rw[List.contains_eq_mem]
   have:a≠r[i].element:=fun h=>ha h.symm
   simp[this]
theorem qmW (N:Nat) {r:List Visit} (hr:r.length≤1000000) (hN:r.length<N):∃m,zaK N r=some m∧OnR m (elems r):=by
 unfold zaK
 obtain ⟨m,h1,h2⟩:=qhi N hr r.length N 0 [] hN (by omega) (fun a=>by simp[elems,qaf])
 exact ⟨m,by rw[show qiP N r _ N [] 0=_ from h1];rfl,h2⟩
def Exps (l:List PlantElement) (r:List Visit) (s:List Setting) (fi la:Int) (i:Nat):Prop:=∃x,l[i]? =some x∧x.kind=1∧(i:Int)∉elems r∧(Rch (vS l (elems r) (atP s) fi la (id:Spot→Spot)) (Spot.mk i x.a)∨Rch (vS l (elems r) (atP s) fi la (id:Spot→Spot)) (Spot.mk i x.b))
open Classical in
noncomputable def exps (l:List PlantElement) (r:List Visit) (s:List Setting) (fi la:Int):List Int:=((List.range l.length).filter fun i=>decide (Exps l r s fi la i)).map fun (i:Nat)=>(i:Int)
def endR (r:List Visit):Int×Int:=((r[0]?.map Visit.element).getD 0,(r[r.length - 1]?.map Visit.element).getD 0)
theorem qif {p:Nat→Bool} (i:Nat):(List.range (i+1)).filter p=(List.range i).filter p++(if p i=true then [i] else []):=by
 rw[List.range_succ,List.filter_append]
 cases h:p i<;>simp[h]
open Classical in
theorem qhB (N:Nat) (hN:1100≤N) {l:List PlantElement} (hl:l.length≤96) {r:List Visit} {s:List Setting} {onm:OnM} (hon:OnR onm (elems r)) {m:List (Int×Int)} (hm:∀a,(qaf m a).getD 0=atP s a) {fi la:Int}:∀(k n i:Nat) (acc:List Int),k<n→i+k=l.length→
  acc=((List.range i).filter fun i=>decide (Exps l r s fi la i)).map (fun (i:Nat)=>(i:Int))→qiQ N l m fi la l (l.length:Int) onm n acc i=some (exps l r s fi la)
 |k,0,i,acc,hn,_,_=>by omega
 |0,n+1,i,acc,hn,hi,ha=>by
  obtain rfl:i=l.length:=by omega
  rw[qiQ,if_neg (dneg (by omega)),ha]
  rfl
 |k+1,n+1,i,acc,hn,hi,ha=>by
  have hv:=qao (xs:=l) (i:=i) (by omega)
  obtain ⟨x,hxe⟩:∃x,x=l[i]:=⟨_,rfl⟩
  rw[←hxe] at hv
  have hpe:(fun i=>(qaf m i).getD 0)=atP s:=funext hm
  rw[qiQ,if_pos (dpos (by omega))]
  have hacc:acc.length≤96:=by
   rw[ha,List.length_map]
   have:=List.length_filter_le (fun i=>decide (Exps l r s fi la i)) (List.range i)
   rw[List.length_range] at this
   omega
  have e1:qs4 N l m fi la acc l i onm=some (((List.range (i+1)).filter fun i=>decide (Exps l r s fi la i)).map (fun (i:Nat)=>(i:Int))):=by
   unfold qs4
   rw[qae hv,qaa]
   have e2:qs5 N i x onm=some (decide (x.kind≠1∨(i:Int)∈elems r)):=by
    unfold qs5
    by_cases h:x.kind=1
    ·rw[if_neg (by simpa using h),qad,hon,List.contains_eq_mem];simp[h]
    ·rw[if_pos (by simpa using h)];simp[h]
   rw[e2,qaa,qif]
   by_cases c:x.kind≠1∨(i:Int)∈elems r
   ·rw[if_pos (by simpa using c)]
    have:¬Exps l r s fi la i:=fun ⟨y,hy,h1,h2,_⟩=>by
     rw[hv] at hy;cases hy
     rcases c with c|c
     ·exact c h1
     ·exact h2 c
    rw[if_neg (by simpa using this),List.append_nil,ha]
   ·rw[if_neg (by simpa using c)]
    have hk:x.kind=1:=Decidable.byContradiction fun h=>c (.inl h)
    have hne:(i:Int)∉elems r:=fun h=>c (.inr h)
    rw[qsz N hN hl hon acc hv hk,qaa,hpe]
    have hiff:Exps l r s fi la i↔(Rch (vS l (elems r) (atP s) fi la (id:Spot→Spot)) (Spot.mk i x.a)∨Rch (vS l (elems r) (atP s) fi la (id:Spot→Spot)) (Spot.mk i x.b)):=by
     constructor
     ·rintro ⟨y,hy,_,_,h⟩
      rw[hv] at hy;cases hy;exact h
     ·exact fun h=>⟨x,hv,hk,hne,h⟩
    by_cases hE:Exps l r s fi la i
    ·rw[if_pos (decide_eq_true (hiff.1 hE)),if_pos (decide_eq_true hE),qaH (by simp;omega),qaa,ha,List.map_append]
     rfl
    ·rw[if_neg (by simpa using fun h=>hE (hiff.2 h)),if_neg (by simpa using hE),List.append_nil,ha]
  rw[e1,qaa,w64s (by omega)]
  exact qhB N hN hl hon hm k n (i+1) _ (by omega) (by omega) rfl
theorem qn1 (N:Nat) {l:List PlantElement} (hl:l.length≤96) {r:List Visit} {s:List Setting} (hr:r.length≤1000) (hs:s.length≤1000) (hN:3000≤N):
  (¬RtP l r∧zaQ N l r s=some ([],1))∨(RtP l r∧¬KnP l s∧zaQ N l r s=some ([],2))∨(RtP l r∧KnP l s∧zaQ N l r s=some (exps l r s (endR r).1 (endR r).2,0)):=by
 obtain ⟨b,h1,h2⟩:=qgt N (l:=l) (r:=r) (by omega) (by omega) (by omega)
 unfold zaQ
 rw[h1,qaa]
 cases b with
 |false=>exact .inl ⟨fun h=>(by have:=h2.2 h;cases this),rfl⟩
 |true=>
  have hR:=h2.1 rfl
  rw[if_neg (by simp)]
  rcases qn2 N hl hs (by omega) with ⟨m,k1,k2,k3⟩|⟨k1,k2⟩
  ·rw[k1,qaa,if_neg (by simp)]
   obtain ⟨onm,o1,o2⟩:=qmW N (r:=r) (by omega) (by omega)
   have h2r:=hR.2.1.two
   have e0:=qao (xs:=r) (i:=0) (by omega)
   have e1:=qao (xs:=r) (i:=r.length - 1) (by omega)
   have hw:IntKind.wrap .i64 ((r.length:Int) - 1)=((r.length - 1:Nat):Int):=by rw[w64 (by omega) (by omega)];omega
   rw[o1,qaa,show getI r 0=some r[0] from qae (i:=0) e0,qaa,hw,qae e1,qaa]
   refine .inr (.inr ⟨hR,k2, ?_⟩)
   have he:endR r=(r[0].element,r[r.length - 1].element):=by unfold endR;rw[e0,e1];rfl
   rw[he,show qiQ N l m r[0].element r[r.length - 1].element l (l.length:Int) onm N [] 0=_ from qhB N (by omega) hl o2 k3 l.length N 0 [] (by omega) (by omega) rfl]
   rfl
  ·rw[k1,qaa,if_pos (by simp)]
   exact .inr (.inl ⟨hR,k2,rfl⟩)
end Go.W
end
section
set_option linter.unusedVariables false
set_option linter.unusedSimpArgs false
namespace Go.W
open Go.AM
theorem qDX (N:Nat) {s:List Setting} (hs:s.length≤1000000) (hN:s.length<N) (a:Int):zcT N s a=some (atP s a):=by
 have h:=qat (l:=s) (fun _ y=>y.element==a) (fun _ y=>y.position) (qmB N s a) (fun n=>by
  rw[qmB,if_neg (dneg (by omega))]) (fun n i y hy=>by
  have hlt:=(List.getElem?_eq_some_iff.1 hy).1
  rw[qmB,if_pos (dpos (by omega)),qae hy,qaa,qaa,qad,w64s (by omega)]) s.length N 0 hN (by omega)
 have hr:∀(q:List Setting) (i:Nat),res (fun _ y=>y.element==a) (fun _ (y:Setting)=>y.position) i q=match q.find? (fun y=>y.element==a) with|some y=> .inr y.position|none=> .inl ():=by
  intro q
  induction q with
  |nil=>intro i;rfl
  |cons y q ih=>
   intro i
   rw[res,List.find?_cons]
   cases hy:(y.element==a) with
   |true=>rfl
   |false=>simpa using ih (i+1)
 unfold zcT
 rw[show qmB N s a N 0=_ from h,qaa,List.drop_zero,hr]
 unfold atP
 cases s.find? (fun y=>y.element==a)<;>rfl
abbrev SpR:=List (S109×Bool)
end Go.W
end
section
set_option linter.unusedVariables false
set_option linter.unusedSimpArgs false
namespace Go.W
open Go.AM
theorem qlB (N:Nat) {s:List Setting} {x:Setting} (hl:s.length≤100000) (hN:s.length<N) (hs:s.Pairwise fun a b=>a.element<b.element) {y:Setting} (hy:y∈s) (he:y.element=x.element):zcS N s x=some s:=by
 obtain ⟨i,h1,h2,h3,h4⟩:=qgw N (s:=s) (x:=x) hl s.length N hN (Nat.le_refl _) (fun j y hj hy=>by
  have:=(List.getElem?_eq_some_iff.1 hy).1
  omega)
 obtain ⟨j,hj⟩:=List.getElem?_of_mem hy
 obtain ⟨hjl,hje⟩:=List.getElem?_eq_some_iff.1 hj
 have hij:i≤j:=by
  refine Nat.le_of_not_lt fun hlt=> ?_
  have hi1:=qao (xs:=s) (i:=i - 1) (by omega)
  have hb:=h4 _ (by omega) hi1
  by_cases hji:j=i - 1
  ·rw[hji,hi1] at hj
   have hj:=Option.some.inj hj
   rw[hj] at hb;omega
  ·have:=List.pairwise_iff_getElem.1 hs j (i - 1) hjl (by omega) (by omega)
   rw[hje] at this
   omega
 have hv:=qao (xs:=s) (i:=i) (by omega)
 have hge:=h3 i _ (Nat.le_refl _) hv
 have hle:s[i].element=x.element:=by
  by_cases h:i=j
  ·subst h
   rw[hv] at hj
   have hj:=Option.some.inj hj
   rw[hj];exact he
  ·have:=List.pairwise_iff_getElem.1 hs i j (by omega) hjl (by omega)
   rw[hje] at this
   omega
 unfold zcS
 rw[qad,h1,qaa]
 have hp2:qmA N s x i=some true:=by
  unfold qmA
  rw[if_pos (dpos (by omega)),qae hv,qaa]
  simp[hle]
 rw[hp2,qaa,if_pos rfl]
abbrev OutM:=List (Int×Int)
structure OutOk (l:List PlantElement) (on:List Int) (out:OutM):Prop where
 nd:(out.map Prod.fst).Nodup
 ok:∀i p,qaf out i=some p→0≤i∧i∉on∧∃x,l[i.toNat]? =some x∧((x.kind=2∧(p=1∨p=2))∨(x.kind=3∧p=4))
structure NeedR (out:OutM) (need:List Setting):Prop where
 lt:need.Pairwise fun a b=>a.element<b.element
 mem:∀y,y∈need↔qaf out y.element=some y.position
theorem qn8 {s:List Setting} (hs:s.Pairwise fun a b=>a.element<b.element) {y z:Setting} (hy:y∈s) (hz:z∈s) (he:y.element=z.element):y=z:=by
 obtain ⟨i,hi⟩:=List.getElem?_of_mem hy
 obtain ⟨j,hj⟩:=List.getElem?_of_mem hz
 obtain ⟨hil,hie⟩:=List.getElem?_eq_some_iff.1 hi
 obtain ⟨hjl,hje⟩:=List.getElem?_eq_some_iff.1 hj
 rcases Nat.lt_trichotomy i j with h|h|h
 ·have:=List.pairwise_iff_getElem.1 hs i j hil hjl h
  rw[hie,hje] at this;omega
 ·subst h;rw[hi] at hj;cases hj;rfl
 ·have:=List.pairwise_iff_getElem.1 hs j i hjl hil h
  rw[hie,hje] at this;omega
theorem qwc {s:List Setting} (hs:s.Pairwise fun a b=>a.element<b.element) {n:Nat} (h:∀y∈s,0≤y.element∧y.element<n):s.length≤n:=by
 have hnd:(s.map Setting.element).Nodup:=by
  unfold List.Nodup
  rw[List.pairwise_map]
  exact hs.imp fun h he=>by omega
 have:=qen (b:=(List.range n).map fun (i:Nat)=>(i:Int)) hnd fun a ha=>by
  obtain ⟨y,hy,rfl⟩:=List.mem_map.1 ha
  have:=h y hy
  exact List.mem_map.2 ⟨y.element.toNat,List.mem_range.2 (by omega),by omega⟩
 simpa using this
theorem NeedR.at {l:List PlantElement} {on:List Int} {out:OutM} {need:List Setting} (h:NeedR out need) (ho:OutOk l on out) (i:Int):atP need i=(qaf out i).getD 0:=by
 unfold atP
 cases hf:need.find? (fun y=>y.element==i) with
 |none=>
  cases hg:qaf out i with
  |none=>rfl
  |some p=>
   have:Setting.mk i p∈need:=(h.mem _).2 hg
   have:=List.find?_eq_none.1 hf _ this
   simp at this
 |some y=>
  have h1:=List.mem_of_find?_eq_some hf
  have h2:=List.find?_some hf
  have h2:y.element=i:=by simpa using h2
  have:=(h.mem y).1 h1
  rw[h2] at this
  rw[this];rfl
theorem OutOk.len {l:List PlantElement} {on:List Int} {out:OutM} {need:List Setting} (ho:OutOk l on out) (h:NeedR out need):need.length≤l.length:=qwc h.lt fun y hy=>by
 obtain ⟨h0,_,x,hx,_⟩:=ho.ok _ _ ((h.mem y).1 hy)
 have:=(List.getElem?_eq_some_iff.1 hx).1
 omega
theorem qhu {α β:Type} [DecidableEq α]:∀{m:List (α×β)} {k:α} {v:β},(m.map Prod.fst).Nodup→((qax m k v).map Prod.fst).Nodup∧∀a,a∈(qax m k v).map Prod.fst→a=k∨a∈m.map Prod.fst
 |[],k,v,_=>by simp[qax]
 |p::m,k,v,h=>by
  rw[List.map_cons,List.nodup_cons] at h
  simp only[qax]
  by_cases hk:p.1=k
  ·rw[if_pos hk]
   rw[List.map_cons,List.nodup_cons]
   exact ⟨h,fun a ha=> .inr ha⟩
  ·rw[if_neg hk,List.map_cons,List.nodup_cons]
   obtain ⟨h1,h2⟩:=qhu (k:=k) (v:=v) h.2
   refine ⟨⟨fun hh=> ?_,h1⟩,fun a ha=> ?_⟩
   ·rcases h2 _ hh with h3|h3
    ·exact hk h3
    ·exact h.1 h3
   ·rcases List.mem_cons.1 ha with h3|h3
    ·exact .inr (by rw[h3];simp)
    ·rcases h2 _ h3 with h4|h4
     ·exact .inl h4
     ·exact .inr (by simp[h4])
theorem qx2 (N:Nat) (hN:3000≤N) {l:List PlantElement} (hl:l.length≤96) {on:List Int} {out:OutM} {need:List Setting} (ho:OutOk l on out) (hn:NeedR out need) {i p:Int} {x:PlantElement} (h0:0≤i) (hon:i∉on) (hx:l[i.toNat]? =some x) (hp:(x.kind=2∧(p=1∨p=2))∨(x.kind=3∧p=4)):
  (zaE N i p out=some (17,out)∧atP need i≠0∧atP need i≠p)∨
  (∃need',zaE N i p out=some (0,qax out i p)∧(atP need i=0∨atP need i=p)∧zcS N need (Setting.mk i p)=some need'∧OutOk l on (qax out i p)∧NeedR (qax out i p) need'∧∀j q,qaf out j=some q→qaf (qax out i p) j=some q):=by
 have hat:=hn.at ho i
 have hlen:=ho.len hn
 have e0:qsX N p ((qaf out i).getD 0) (qaf out i).isSome=some (decide (∃q,qaf out i=some q∧q≠p)):=by
  unfold qsX
  cases hg:qaf out i with
  |none=>simp
  |some q=>
   simp only[Option.isSome_some,if_true,Option.getD_some]
   congr 1
   rw[Bool.eq_iff_iff]
   simp
 unfold zaE
 rw[qad,qad,e0,qaa]
 by_cases hc:∃q,qaf out i=some q∧q≠p
 ·rw[if_pos (by simpa using hc)]
  obtain ⟨q,hq,hqp⟩:=hc
  have hq0:q≠0:=by
   obtain ⟨_,_,y,_,h|h⟩:=ho.ok i q hq<;>omega
  refine .inl ⟨rfl, ?_, ?_⟩
  ·rw[hat,hq];exact hq0
  ·rw[hat,hq];exact hqp
 ·rw[if_neg (by simpa using hc),qad]
  have hmono:∀j q,qaf out j=some q→qaf (qax out i p) j=some q:=fun j q hj=>by
   rw[qaE]
   by_cases h:i=j
   ·subst h
    have hqp:q=p:=Decidable.byContradiction fun hqp=>hc ⟨q,hj,hqp⟩
    rw[if_pos rfl,hqp]
   ·rw[if_neg h];exact hj
  have hout:OutOk l on (qax out i p):=by
   refine ⟨(qhu ho.nd).1,fun j q hj=> ?_⟩
   rw[qaE] at hj
   split at hj
   ·rename_i h;subst h;cases hj;exact ⟨h0,hon,x,hx,hp⟩
   ·exact ho.ok j q hj
  cases hg:qaf out i with
  |none=>
   have hnew:∀y∈need,y.element≠(Setting.mk i p).element:=fun y hy he=>by
    have:=(hn.mem y).1 hy
    rw[show y.element=i from he,hg] at this
    cases this
   obtain ⟨need',h1,h2,h3,h4⟩:=qlA N (by omega) (by omega) hn.lt hnew
   refine .inr ⟨need',rfl, .inl (by rw[hat,hg];rfl),h1,hout,⟨h2,fun y=> ?_⟩,hmono⟩
   rw[h3,qaE]
   constructor
   ·rintro (rfl|hy)
    ·rw[if_pos rfl]
    ·rw[if_neg (fun he=>hnew y hy he.symm)]
     exact (hn.mem y).1 hy
   ·intro h
    split at h
    ·rename_i he
     cases h
     left;cases y;simp only at he;rw[he]
    ·exact .inr ((hn.mem y).2 h)
  |some q=>
   have hqp:q=p:=Decidable.byContradiction fun hqp=>hc ⟨q,hg,hqp⟩
   subst hqp
   have hy:Setting.mk i q∈need:=(hn.mem _).2 hg
   refine .inr ⟨need,rfl, .inr (by rw[hat,hg];rfl),qlB N (by omega) (by omega) hn.lt hy rfl,hout,⟨hn.lt,fun y=> ?_⟩,hmono⟩
   rw[hn.mem,qaE]
   by_cases h:i=y.element
   ·rw[if_pos h,←h,hg]
   ·rw[if_neg h]
end Go.W
end
section
set_option linter.unusedVariables false
set_option linter.unusedSimpArgs false
namespace Go.W
open Go.AM
def Dn (d:SpS) (v:Spot):Prop:=(qaf d v).getD false=true
instance (d:SpS) (v:Spot):Decidable (Dn d v):=by unfold Dn;infer_instance
def Dr (t:SpR) (v:Spot):Prop:=(qaf t (S109.mk v.element v.node)).getD false=true
instance (t:SpR) (v:Spot):Decidable (Dr t v):=by unfold Dr;infer_instance
def Tr (l:List PlantElement) (on:List Int) (v:Spot):Prop:=nbr l v.element v.node<0∨nbr l v.element v.node∈on
instance (l:List PlantElement) (on:List Int) (v:Spot):Decidable (Tr l on v):=by unfold Tr;infer_instance
def Hn (l:List PlantElement) (on:List Int) (d:SpS) (v:Spot):Prop:=Tr l on v∨Dn d v
structure GR (l:List PlantElement) (on:List Int) (d:SpS) (o:OutM) (t:SpR) (need:List Setting):Prop where
 fwd:∀v,Dn d v→Dr t v
 bwd:∀v,Dr t v→Dn d v∨Tr l on v
 ok:OutOk l on o
 nd:NeedR o need
def GC (l:List PlantElement) (on:List Int) (d:SpS) (o:OutM) (v:Spot):Prop:=
 ¬Tr l on v∧∃x,l[(nbr l v.element v.node).toNat]? =some x∧x.kind≠1∧(x.kind=3→qaf o (nbr l v.element v.node)=some 4)∧(x.kind=2→v.node≠x.a→qaf o (nbr l v.element v.node)=some (if v.node=x.b then 2 else 1))∧
  (x.kind=2→v.node=x.a→Hn l on d (Spot.mk (nbr l v.element v.node) x.b)∧Hn l on d (Spot.mk (nbr l v.element v.node) x.c))
theorem GC.mono {l:List PlantElement} {on:List Int} {d d':SpS} {o o':OutM} {v:Spot} (h:GC l on d o v) (hd:∀u,Dn d u→Dn d' u) (ho:∀j q,qaf o j=some q→qaf o' j=some q):GC l on d' o' v:=by
 obtain ⟨h0,x,h1,h2,h3,h4,h5⟩:=h
 exact ⟨h0,x,h1,h2,fun hk=>ho _ _ (h3 hk),fun hk ha=>ho _ _ (h4 hk ha),fun hk ha=>⟨(h5 hk ha).1.imp id (hd _),(h5 hk ha).2.imp id (hd _)⟩⟩
structure GOut (l:List PlantElement) (on:List Int) (d:SpS) (o:OutM) (d':SpS) (o':OutM):Prop where
 sub:∀u,Dn d u→Dn d' u
 mono:∀j q,qaf o j=some q→qaf o' j=some q
 clo:∀u,Dn d' u→¬Dn d u→GC l on d' o' u
theorem GOut.refl {l:List PlantElement} {on:List Int} (d:SpS) (o:OutM):GOut l on d o d o:=⟨fun _ h=>h,fun _ _ h=>h,fun u h1 h2=>absurd h1 h2⟩
theorem GOut.trans {l:List PlantElement} {on:List Int} {d d1 d2:SpS} {o o1 o2:OutM} (h:GOut l on d o d1 o1) (k:GOut l on d1 o1 d2 o2):GOut l on d o d2 o2:=
 ⟨fun u hu=>k.sub u (h.sub u hu),fun j q hq=>k.mono j q (h.mono j q hq),fun u h1 h2=>by
  by_cases h3:Dn d1 u
  ·exact (h.clo u h3 h2).mono k.sub k.mono
  ·exact k.clo u h1 h3⟩
theorem qdW {d:SpS} {v u:Spot}:Dn (qax d v true) u↔(v=u∨Dn d u):=by
 unfold Dn
 rw[qaE]
 by_cases h:v=u<;>simp[h]
theorem qhg {t:SpR} {v u:Spot}:Dr (qax t (S109.mk v.element v.node) true) u↔(v=u∨Dr t u):=by
 unfold Dr
 rw[qaE]
 have:S109.mk v.element v.node=S109.mk u.element u.node↔v=u:=by
  cases v;cases u;simp
 by_cases h:v=u
 ·rw[if_pos (this.2 h)];simp[h]
 ·rw[if_neg (fun hh=>h (this.1 hh))];simp[h]
theorem qrc {x:PlantElement} (h:qaP x=true):x.kind=1∨x.kind=2∨x.kind=3:=by
 have:=(qaA h).2.2.1
 unfold qag at this
 split at this
 ·rename_i h;rcases h with h|h<;>simp[h]
 ·split at this
  ·rename_i h;simp[h]
  ·exact absurd rfl this
def lfD (l:List PlantElement) (d:SpS):Nat:=((allS l).filter fun u=> !decide (Dn d u)).length
theorem qrg {l:List PlantElement} {d d':SpS} (h:∀u,Dn d u→Dn d' u):lfD l d'≤lfD l d:=by
 unfold lfD
 refine qc3 fun u hu=> ?_
 simp only[Bool.not_eq_true',decide_eq_false_iff_not] at hu⊢
 exact fun hh=>hu (h u hh)
theorem qxU {l:List PlantElement} {d:SpS} {v:Spot} (hv:v∈allS l) (hn:¬Dn d v):lfD l (qax d v true)<lfD l d:=by
 unfold lfD
 refine filter_lt hv (fun u hu=> ?_) (by simpa using hn) ?_
 ·simp only[Bool.not_eq_true',decide_eq_false_iff_not] at hu⊢
  exact fun h=>hu (qdW.2 (.inr h))
 ·simp only[Bool.not_eq_false',decide_eq_true_eq]
  exact qdW.2 (.inl rfl)
theorem qCU (l:List PlantElement) (hl:l.length≤96) (d:SpS):lfD l d≤288:=by
 have h1:=allS_len l
 have h2:=List.length_filter_le (fun u=> !decide (Dn d u)) (allS l)
 unfold lfD
 omega
def pG (N rc:Nat) (l:List PlantElement) (onm:OnM) (v:Spot) (d:SpS) (o:OutM):Option (Int×SpS×OutM):=zaF N rc v l [] [] d onm [] o
def rG (N rc:Nat) (l:List PlantElement) (r:List Visit) (need:List Setting) (v:Spot) (t:SpR):Option (Int×Guardian×SpR):=zaH N rc (Guardian.mk l r need []) v.element v.node t
def Both (l:List PlantElement) (r:List Visit) (d:SpS) (o:OutM) (v:Spot) (p:Option (Int×SpS×OutM)) (q:Option (Int×Guardian×SpR)):Prop:=
 (∃e d' o' g t',e≠0∧p=some (e,d',o')∧q=some (e,g,t'))∨
 (∃d' o' t' need',p=some (0,d',o')∧q=some (0,Guardian.mk l r need' [],t')∧GR l (elems r) d' o' t' need'∧GOut l (elems r) d o d' o'∧Hn l (elems r) d' v)
theorem qD6 (N:Nat) (self:Guardian→Int→Int→SpR→Option (Int×Guardian×SpR)) (p a:Int):qs2 N self p a=some (decide (a≠0∧a≠p)):=by
 unfold qs2
 by_cases h:a=0
 ·rw[if_neg (by simpa using h)];simp[h]
 ·rw[if_pos (by simpa using h)];congr 1;rw[Bool.eq_iff_iff];simp[h]
theorem grd (N:Nat) (hN:3000≤N) {l:List PlantElement} (hP:PlOk l) {r:List Visit} (hr:r.length≤1000) {onm:OnM} (hon:OnR onm (elems r)):
  ∀(rc:Nat) (v:Spot) (d:SpS) (o:OutM) (t:SpR) (need:List Setting),v∈allS l→GR l (elems r) d o t need→lfD l d<rc→Both l r d o v (pG N rc l onm v d o) (rG N rc l r need v t)
 |0,_,_,_,_,_,_,_,h=>by omega
 |rc+1,v,d,o,t,need,hv,hG,hlf=>by
  have hl:=hP.len
  unfold pG rG
  rw[zaF,zaH,qiy N (by omega) (by omega),qaa,qad]
  have e0:qsY N (zaF N rc) v (nbr l v.element v.node) d onm=some (decide (Dn d v∨Tr l (elems r) v)):=by
   unfold qsY
   rw[qad]
   by_cases h:(qaf d v).getD false=true
   ·rw[if_pos h];simp[Dn,h]
   ·rw[if_neg h]
    by_cases h2:nbr l v.element v.node<0
    ·rw[if_pos (dpos h2)];simp[Tr,h2]
    ·rw[if_neg (dneg h2),qad,hon,List.contains_eq_mem]
     congr 1;rw[Bool.eq_iff_iff];simp[Dn,Tr,h,h2]
  rw[e0,qaa]
  by_cases c:Dn d v∨Tr l (elems r) v
  ·rw[if_pos (by simpa using c),qad]
   by_cases hs:(qaf t (S109.mk v.element v.node)).getD false=true
   ·rw[if_pos hs]
    exact .inr ⟨d,o,t,need,rfl,rfl,hG, .refl d o,c.symm⟩
   ·rw[if_neg hs,qad]
    dsimp only
    rw[qeW N (by omega) (by omega),qaa]
    have hT:Tr l (elems r) v:=c.resolve_left fun h=>hs (hG.fwd v h)
    have e1:qqI N (zaH N rc) (Guardian.mk l r need []) (nbr l v.element v.node)=some true:=by
     unfold qqI
     by_cases h2:nbr l v.element v.node<0
     ·rw[if_pos (dpos h2)]
     ·rw[if_neg (dneg h2)]
      dsimp only
      rw[qe3 N (by omega) (by omega),qaa,List.contains_eq_mem]
      have:=hT.resolve_left h2
      simp[this]
    rw[e1,qaa,if_pos rfl]
    refine .inr ⟨d,o,_,need,rfl,rfl,⟨fun u hu=>qhg.2 (.inr (hG.fwd u hu)),fun u hu=> ?_,hG.ok,hG.nd⟩, .refl d o, .inl hT⟩
    rcases qhg.1 hu with h|h
    ·subst h;exact .inr hT
    ·exact hG.bwd u h
  ·rw[if_neg (by simpa using c)]
   have hnd:¬Dn d v:=fun h=>c (.inl h)
   have hnt:¬Tr l (elems r) v:=fun h=>c (.inr h)
   have hns:¬(qaf t (S109.mk v.element v.node)).getD false=true:=fun h=>c (hG.bwd v h)
   have h0:0≤nbr l v.element v.node:=by unfold Tr at hnt;omega
   have hno:nbr l v.element v.node∉elems r:=fun h=>hnt (.inr h)
   rw[qad,if_neg hns,qad]
   dsimp only
   rw[qeW N (by omega) (by omega),qaa]
   have e1:qqI N (zaH N rc) (Guardian.mk l r need []) (nbr l v.element v.node)=some false:=by
    unfold qqI
    rw[if_neg (dneg (by omega))]
    dsimp only
    rw[qe3 N (by omega) (by omega),qaa,List.contains_eq_mem]
    simp[hno]
   obtain ⟨x,hx,hxI,hnx,hxm⟩:=qnD h0
   rw[e1,qaa,if_neg (by simp),hxI,qaa,qaa,qad]
   obtain ⟨d0,hd0⟩:∃d0,d0=qax d v true:=⟨_,rfl⟩
   obtain ⟨t0,ht0⟩:∃t0,t0=qax t (S109.mk v.element v.node) true:=⟨_,rfl⟩
   rw[←hd0,←ht0]
   have hsub0:∀u,Dn d u→Dn d0 u:=fun u hu=>by rw[hd0];exact qdW.2 (.inr hu)
   have hv0:Dn d0 v:=by rw[hd0];exact qdW.2 (.inl rfl)
   have hnew:∀u,Dn d0 u→¬Dn d u→u=v:=fun u h1 h2=>by
    rw[hd0] at h1
    rcases qdW.1 h1 with h|h
    ·exact h.symm
    ·exact absurd h h2
   have hG0:∀{o' need'},OutOk l (elems r) o'→NeedR o' need'→GR l (elems r) d0 o' t0 need':=fun h1 h2=>by
    refine ⟨fun u hu=> ?_,fun u hu=> ?_,h1,h2⟩
    ·rw[hd0] at hu;rw[ht0]
     rcases qdW.1 hu with h|h
     ·exact qhg.2 (.inl h)
     ·exact qhg.2 (.inr (hG.fwd u h))
    ·rw[ht0] at hu;rw[hd0]
     rcases qhg.1 hu with h|h
     ·exact .inl (qdW.2 (.inl h))
     ·exact (hG.bwd u h).imp (fun h=>qdW.2 (.inr h)) id
   have hlf0:lfD l d0<rc:=by
    have:=qxU hv hnd
    rw[←hd0] at this
    omega
   have hsnd:=hP.snd x hxm
   have step:∀p,((x.kind=2∧(p=1∨p=2))∨(x.kind=3∧p=4))→x.kind≠1→(x.kind=3→p=4)→(x.kind=2→v.node≠x.a∧p=if v.node=x.b then 2 else 1)→
     ∀q,(q=Option.bind (zcT N need (nbr l v.element v.node)) fun y17=>Option.bind (qs2 N (zaH N rc) p y17) fun y18=>if y18=true then some (17,Guardian.mk l r need [],t0) else Option.bind (zcS N need (Setting.mk (nbr l v.element v.node) p)) fun y19=>some (0,Guardian.mk l r y19 [],t0))→
     Both l r d o v (Option.bind (zaE N (nbr l v.element v.node) p o) fun y9=>some (y9.1,d0,y9.2)) q:=by
    intro p hp hk1 hk3 hk2 q hq
    have hnl:=hG.ok.len hG.nd
    rw[hq,qDX N (by omega) (by omega),qaa,qD6,qaa]
    rcases qx2 N hN hl hG.ok hG.nd h0 hno hx hp with ⟨g1,g2,g3⟩|⟨need',g1,g2,g3,g4,g5,g6⟩
    ·rw[g1,qaa,if_pos (by simpa using ⟨g2,g3⟩)]
     exact .inl ⟨17,_,_,_,_,by omega,rfl,rfl⟩
    ·rw[g1,qaa,if_neg (by rw[decide_eq_true_eq];rintro ⟨h1,h2⟩;rcases g2 with h|h;exact h1 h;exact h2 h),g3,qaa]
     refine .inr ⟨d0,_,t0,need',rfl,rfl,hG0 g4 g5,⟨hsub0,g6,fun u h1 h2=> ?_⟩, .inr hv0⟩
     rw[hnew u h1 h2]
     refine ⟨hnt,x,hx,hk1,fun hk=> ?_,fun hk ha=> ?_,fun hk ha=>absurd ha (hk2 hk).1⟩
     ·rw[qaE,if_pos rfl,hk3 hk]
     ·rw[qaE,if_pos rfl,(hk2 hk).2]
   rcases qrc hsnd with hk|hk|hk
   ·rw[if_pos (by simpa using hk)]
    unfold qqJ
    rw[qad,if_pos (by simpa using hk),qaa]
    exact .inl ⟨22,_,_,_,_,by omega,rfl,rfl⟩
   ·rw[if_neg (by simp[hk]),qad,if_neg (by simp[hk]),qad]
    have e2:qs0 N (zaH N rc) v.node x=some (decide (v.node=x.a)):=by
     unfold qs0
     rw[if_pos (by simpa using hk),qad];congr 1
    have e3:qs1 N (zaH N rc) v.node x=some (decide (v.node=x.b)):=by
     unfold qs1
     rw[if_pos (by simpa using hk),qad];congr 1
    by_cases ha:v.node=x.a
    ·rw[if_neg (by simpa using ha)]
     unfold qqJ
     rw[qad,if_neg (by simp[hk]),e2,qaa,if_pos (by simpa using ha)]
     have he:qag x=[x.a,x.b,x.c]:=by unfold qag;rw[if_neg (by omega),if_pos hk]
     have hub:Spot.mk (nbr l v.element v.node) x.b∈allS l:=by rw[qcv];show x.b∈eI l (nbr l v.element v.node);rw[qhh h0 hx,he];simp
     have huc:Spot.mk (nbr l v.element v.node) x.c∈allS l:=by rw[qcv];show x.c∈eI l (nbr l v.element v.node);rw[qhh h0 hx,he];simp
     rcases grd N hN hP hr hon rc _ d0 o t0 need hub (hG0 hG.ok hG.nd) hlf0 with ⟨e,d',o',g,t',h1,h2,h3⟩|⟨d1,o1,t1,need1,h2,h3,h4,h5,h6⟩
     ·unfold pG at h2
      unfold rG at h3
      simp only at h2 h3
      rw[h2,h3,qaa,qaa,if_pos (by simpa using h1),if_pos (by simpa using h1),qaa]
      exact .inl ⟨e,_,_,_,_,h1,rfl,rfl⟩
     ·unfold pG at h2
      unfold rG at h3
      simp only at h2 h3
      rw[h2,h3,qaa,qaa,if_neg (by simp),if_neg (by simp)]
      dsimp only
      rcases grd N hN hP hr hon rc _ d1 o1 t1 need1 huc h4 (Nat.lt_of_le_of_lt (qrg h5.sub) hlf0) with ⟨e,d',o',g,t',k1,k2,k3⟩|⟨d2,o2,t2,need2,k2,k3,k4,k5,k6⟩
      ·unfold pG at k2
       unfold rG at k3
       simp only at k2 k3
       rw[k2,k3,qaa,qaa,qaa]
       exact .inl ⟨e,_,_,_,_,k1,rfl,rfl⟩
      ·unfold pG at k2
       unfold rG at k3
       simp only at k2 k3
       rw[k2,k3,qaa,qaa,qaa]
       have h12:=h5.trans k5
       refine .inr ⟨d2,o2,t2,need2,rfl,rfl,k4,⟨fun u hu=>h12.sub u (hsub0 u hu),h12.mono,fun u a1 a2=> ?_⟩, .inr (h12.sub v hv0)⟩
       by_cases a3:Dn d0 u
       ·rw[hnew u a3 a2]
        refine ⟨hnt,x,hx,by omega,fun h=>by omega,fun _ h=>absurd ha h,fun _ _=>⟨h6.imp id (k5.sub _),k6⟩⟩
       ·exact h12.clo u a1 a3
    ·rw[if_pos (by simpa using ha)]
     unfold qqJ
     rw[qad,if_neg (c:=(x.kind==1)=true) (by simp[hk]),e2,qaa,if_neg (c:=decide (v.node=x.a)=true) (by simpa using ha),e3,qaa]
     unfold zbS
     by_cases hb:v.node=x.b
     ·rw[if_pos (by simpa using hb),if_pos (by simpa using hb),qaa,qaa]
      exact step 2 (.inl ⟨hk, .inr rfl⟩) (by omega) (by omega) (fun _=>⟨ha,by rw[if_pos hb]⟩) _ rfl
     ·rw[if_neg (by simpa using hb),if_neg (by simpa using hb),qaa,qad,if_pos (by simpa using hk),qaa]
      exact step 1 (.inl ⟨hk, .inl rfl⟩) (by omega) (by omega) (fun _=>⟨ha,by rw[if_neg hb]⟩) _ rfl
   ·rw[if_neg (by simp[hk]),qad,if_pos (by simpa using hk)]
    unfold qqJ qs0 qs1
    rw[qad,if_neg (by simp[hk]),if_neg (by simp[hk]),qaa,if_neg (by simp),if_neg (by simp[hk]),qaa,if_neg (by simp),qad,if_neg (by simp[hk]),qaa]
    exact step 4 (.inr ⟨hk,rfl⟩) (by omega) (fun _=>rfl) (fun h=>by omega) _ rfl
end Go.W
end
section
set_option linter.unusedVariables false
set_option linter.unusedSimpArgs false
namespace Go.W
open Go.AM
def qe8 (x:PlantElement) (v:Visit):Int:=if v.in_=x.b∨v.out=x.b then x.c else x.b
theorem qsA (N:Nat) (x:PlantElement) (v:Visit):zbT N x v=some (qe8 x v):=by
 have h:qtm N x v=some (decide (v.in_=x.b∨v.out=x.b)):=by
  unfold qtm
  by_cases h:v.in_=x.b
  ·rw[if_pos (by simpa using h)];simp[h]
  ·rw[if_neg (by simpa using h)];congr 1;rw[Bool.eq_iff_iff];simp[h]
 unfold zbT qe8
 rw[h,qaa]
 by_cases h:v.in_=x.b∨v.out=x.b
 ·rw[if_pos (by simpa using h),if_pos h]
 ·rw[if_neg (by simpa using h),if_neg h]
structure NI (l:List PlantElement) (r:List Visit) (i:Nat) (d:SpS) (o:OutM):Prop where
 clo:∀u,Dn d u→GC l (elems r) d o u
 han:∀v∈r.take i,∀x,l[v.element.toNat]? =some x→x.kind=2→Hn l (elems r) d (Spot.mk v.element (qe8 x v))
theorem qdN (N:Nat) (hN:3000≤N) {l:List PlantElement} (hP:PlOk l) {r:List Visit} (hr:r.length≤1000) (hrv:∀v∈r,0≤v.element∧v.element<l.length) {onm:OnM} (hon:OnR onm (elems r)):
  ∀(k n i:Nat) (d:SpS) (o:OutM) (t:SpR) (need:List Setting),k<n→i+k=r.length→GR l (elems r) d o t need→NI l r i d o→
  (∃e,e≠0∧qgT N l r (r.length:Int) onm n [] i o [] d=some (.inr e)∧qhV N l r n (Guardian.mk l r need []) i t=some (.inr e))∨
  (∃d' o' t' need',qgT N l r (r.length:Int) onm n [] i o [] d=some (.inl ([],o'))∧qhV N l r n (Guardian.mk l r need []) i t=some (.inl (Guardian.mk l r need' [],t'))∧GR l (elems r) d' o' t' need'∧NI l r r.length d' o')
 |k,0,i,d,o,t,need,hn,_,_,_=>by omega
 |0,n+1,i,d,o,t,need,hn,hi,hG,hI=>by
  obtain rfl:i=r.length:=by omega
  rw[qgT,if_neg (dneg (by omega)),qhV,if_neg (dneg (by omega))]
  exact .inr ⟨d,o,t,need,rfl,rfl,hG,hI⟩
 |k+1,n+1,i,d,o,t,need,hn,hi,hG,hI=>by
  have hl:=hP.len
  have hv:=qao (xs:=r) (i:=i) (by omega)
  obtain ⟨v,hve⟩:∃v,v=r[i]:=⟨_,rfl⟩
  rw[←hve] at hv
  have hvm:=List.mem_of_getElem? hv
  obtain ⟨h0,h1⟩:=hrv v hvm
  obtain ⟨a,ha⟩:=Int.eq_ofNat_of_zero_le h0
  have hx:=qao (xs:=l) (i:=a) (by omega)
  obtain ⟨x,hxe⟩:∃x,x=l[a]:=⟨_,rfl⟩
  rw[←hxe] at hx
  have hx':l[v.element.toNat]? =some x:=by rw[ha,Int.toNat_natCast];exact hx
  have hxI:=qga h0 hx'
  have htk:∀u,u∈r.take (i+1)↔u∈r.take i∨u=v:=fun u=>by rw[qbd hv];simp
  rw[qgT,if_pos (dpos (by omega)),qhV,if_pos (dpos (by omega))]
  unfold qyX qDI
  rw[qae hv,qaa,hxI,qaa,qaa,hxI,qaa]
  by_cases hk:x.kind=2
  ·rw[if_pos (by simpa using hk),if_neg (by simp[hk]),qsA,qaa,qaa,qon N hxI,qaa]
   have hp:posE x v=if v.in_=x.b∨v.out=x.b then 1 else 2:=by unfold posE;rw[if_neg (by omega),if_pos hk]
   have h2:qyY N x x.b (posE x v==1)=some (qe8 x v):=by
    unfold qyY qe8
    by_cases h:v.in_=x.b∨v.out=x.b
    ·rw[if_pos (by rw[hp,if_pos h];rfl),if_pos h]
    ·rw[if_neg (by rw[hp,if_neg h];decide),if_neg h]
   rw[h2,qaa,qaa]
   have he:qag x=[x.a,x.b,x.c]:=by unfold qag;rw[if_neg (by omega),if_pos hk]
   have hvs:Spot.mk v.element (qe8 x v)∈allS l:=by
    rw[qcv]
    show qe8 x v∈eI l v.element
    rw[qhh h0 hx',he]
    unfold qe8
    split<;>simp
   rcases grd N hN hP hr hon N _ d o t need hvs hG (by have:=qCU l hl d;omega) with ⟨e,d',o',g,t',k1,k2,k3⟩|⟨d1,o1,t1,need1,k2,k3,k4,k5,k6⟩
   ·unfold pG at k2
    unfold rG at k3
    simp only at k2 k3
    rw[k2,k3,qaa,qaa,if_pos (by simpa using k1),if_pos (by simpa using k1),qaa,qaa]
    exact .inl ⟨e,k1,rfl,rfl⟩
   ·unfold pG at k2
    unfold rG at k3
    simp only at k2 k3
    rw[k2,k3,qaa,qaa,if_neg (by simp),if_neg (by simp),qaa,qaa]
    dsimp only
    rw[w64s (by omega),qad]
    refine qdN N hN hP hr hrv hon k n (i+1) d1 o1 t1 need1 (by omega) (by omega) k4 ⟨fun u hu=> ?_,fun u hu y hy hky=> ?_⟩
    ·by_cases h:Dn d u
     ·exact (hI.clo u h).mono k5.sub k5.mono
     ·exact k5.clo u hu h
    ·rcases (htk u).1 hu with hu|rfl
     ·exact (hI.han u hu y hy hky).imp id (k5.sub _)
     ·rw[hx'] at hy;cases hy;exact k6
  ·rw[if_neg (by simpa using hk),if_pos (by simpa using hk),qaa,qaa]
   dsimp only
   rw[w64s (by omega),qad]
   refine qdN N hN hP hr hrv hon k n (i+1) d o t need (by omega) (by omega) hG ⟨hI.clo,fun u hu y hy hky=> ?_⟩
   rcases (htk u).1 hu with hu|rfl
   ·exact hI.han u hu y hy hky
   ·rw[hx'] at hy;cases hy;exact absurd hky hk
structure PrP (l:List PlantElement) (r:List Visit) (s:List Setting) (d:SpS) (o:OutM):Prop where
 lt:s.Pairwise fun a b=>a.element<b.element
 mem:∀y,y∈s↔y∈qaG l r∨qaf o y.element=some y.position
 ok:OutOk l (elems r) o
 ni:NI l r r.length d o
theorem qlz (N:Nat) (hN:3000≤N) {g:Guardian} (hl:g.need.length≤1000) (hlt:g.need.Pairwise fun a b=>a.element<b.element):∀(k n i:Nat) (s:List Setting),k<n→i+k=g.need.length→s.length≤1000+i→(s.Pairwise fun a b=>a.element<b.element)→(∀y∈s,∀z∈g.need.drop i,y.element≠z.element)→
  ∃s',qmv N g n s i=some s'∧(s'.Pairwise fun a b=>a.element<b.element)∧∀y,y∈s'↔y∈s∨y∈g.need.drop i
 |k,0,i,s,hn,_,_,_,_=>by omega
 |0,n+1,i,s,hn,hi,hs,hp,hd=>by
  obtain rfl:i=g.need.length:=by omega
  rw[qmv,if_neg (dneg (by omega))]
  exact ⟨s,rfl,hp,fun y=>by rw[List.drop_length];simp⟩
 |k+1,n+1,i,s,hn,hi,hs,hp,hd=>by
  have hv:=qao (xs:=g.need) (i:=i) (by omega)
  obtain ⟨v,hve⟩:∃v,v=g.need[i]:=⟨_,rfl⟩
  rw[←hve] at hv
  have hdr:g.need.drop i=v::g.need.drop (i+1):=qbm hv
  rw[hdr] at hd
  obtain ⟨s1,h1,h2,h3,h4⟩:=qlA N (s:=s) (x:=v) (by omega) (by omega) hp fun y hy=>hd y hy v List.mem_cons_self
  rw[qmv,if_pos (dpos (by omega)),qae hv,qaa,h1,qaa,qad,w64s (by omega)]
  have hnd:(v::g.need.drop (i+1)).Pairwise fun a b=>a.element<b.element:=by rw[←hdr];exact hlt.sublist (List.drop_sublist _ _)
  obtain ⟨s',g1,g2,g3⟩:=qlz N hN hl hlt k n (i+1) s1 (by omega) (by omega) (by omega) h2 fun y hy z hz=>by
   rcases (h3 y).1 hy with rfl|hy
   ·have:=(List.pairwise_cons.1 hnd).1 z hz
    omega
   ·exact hd y hy z (List.mem_cons_of_mem _ hz)
  refine ⟨s',g1,g2,fun y=> ?_⟩
  rw[g3,h3,hdr,List.mem_cons]
  constructor
  ·rintro ((h|h)|h)
   ·exact .inr (.inl h)
   ·exact .inl h
   ·exact .inr (.inr h)
  ·rintro (h|h|h)
   ·exact .inl (.inr h)
   ·exact .inl (.inl h)
   ·exact .inr h
theorem qcf {α β:Type} [DecidableEq α]:∀{m:List (α×β)},(m.map Prod.fst).Nodup→∀{p:α×β},p∈m→qaf m p.1=some p.2
 |[],_,p,h=>by cases h
 |q::m,hd,p,h=>by
  rw[List.map_cons,List.nodup_cons] at hd
  simp only[qaf]
  rcases List.mem_cons.1 h with rfl|h
  ·rw[if_pos rfl]
  ·rw[if_neg (fun he=>hd.1 (by rw[he];exact List.mem_map.2 ⟨p,h,rfl⟩))]
   exact qcf hd.2 h
theorem qd1 {α β:Type} [DecidableEq α]:∀{m:List (α×β)} {a:α} {b:β},qaf m a=some b→(a,b)∈m
 |[],a,b,h=>by simp[qaf] at h
 |q::m,a,b,h=>by
  simp only[qaf] at h
  split at h
  ·rename_i hq;cases h;rw[←hq];simp
  ·exact List.mem_cons_of_mem _ (qd1 h)
theorem qow {l:List PlantElement} {r:List Visit} {y:Setting} (h:y∈qaG l r):y.element∈elems r:=(qbV l r).subset (List.mem_map.2 ⟨y,h,rfl⟩)
theorem qmg (N:Nat) (hN:6000≤N) {l:List PlantElement} (hl:l.length≤96) {r:List Visit} (hr:r.length≤1000) (hnm:∀x∈l,x.name.length<N∧x.name.length≤9223372036854775807):
  (¬RtP l r∧zaR N l r=some ([],1)∧zbM N l r=some ([],1))∨(RtP l r∧∃e,e≠0∧zaR N l r=some ([],e)∧zbM N l r=some ([],e))∨
  (RtP l r∧∃s d o,zaR N l r=some (s,0)∧zbM N l r=some (s,0)∧PrP l r s d o∧s.length≤1000):=by
 obtain ⟨b,s0,e0,p1,p2,p3,p4,p5⟩:=qyv N (l:=l) (r:=r) (by omega) (by omega) (by omega) (fun _=>hnm)
 by_cases hR:RtP l r
 ·have hP:=PlOk.of hR.1
  have hs:=qe0 N (by omega) hP hR (by omega)
  rw[p3] at hs
  cases hs
  obtain ⟨own,hown⟩:∃own,own=qbI (qaG l r):=⟨_,rfl⟩
  rw[←hown] at p3 p4 p5
  have hkeys:((qaG l r).map Setting.element).Nodup:=(qbV l r).nodup hR.2.2
  have olt:own.Pairwise fun a b=>a.element<b.element:=by rw[hown];exact qcs hkeys
  have omem:∀y,y∈own↔y∈qaG l r:=fun y=>by rw[hown];exact qcH
  unfold zaR zbM
  rw[p3,p4,qaa,qaa,if_neg (by simp),if_neg (by simp)]
  unfold zbH
  obtain ⟨onm,o1,o2⟩:=qmW N (r:=r) (by omega) (by omega)
  rw[o1,qaa]
  have hG:GR l (elems r) [] [] [] []:=⟨fun v h=>by simp[Dn,qaf] at h,fun v h=>by simp[Dr,qaf] at h,⟨by simp,fun i p h=>by simp[qaf] at h⟩,⟨List.Pairwise.nil,fun y=>by simp[qaf]⟩⟩
  rcases qdN N (by omega) hP hr hR.2.1.ok o2 r.length N 0 [] [] [] [] (by omega) (by omega) hG ⟨fun u h=>by simp[Dn,qaf] at h,fun v h=>by simp at h⟩ with ⟨e,k1,k2,k3⟩|⟨d,o,t,need,k2,k3,k4,k5⟩
  ·rw[show qgT N l r (r.length:Int) onm N [] 0 [] [] []=_ from k2,show qhV N l r N (Guardian.mk l r [] []) 0 []=_ from k3,qaa,qaa]
   dsimp only
   rw[qaa,if_pos (by simpa using k1)]
   exact .inr (.inl ⟨hR,e,k1,rfl,rfl⟩)
  ·rw[show qgT N l r (r.length:Int) onm N [] 0 [] [] []=_ from k2,show qhV N l r N (Guardian.mk l r [] []) 0 []=_ from k3,qaa,qaa]
   dsimp only
   rw[qaa,if_neg (by simp)]
   have hneed:=k4.ok.len k4.nd
   have hdis:∀y∈own,∀p,qaf o y.element≠some p:=fun y hy p hp=>(k4.ok.ok _ _ hp).2.1 (qow ((omem y).1 hy))
   obtain ⟨s',q1,q2,q3⟩:=qlz N (by omega) (g:=Guardian.mk l r need []) (by show need.length≤1000;omega) k4.nd.lt need.length N 0 own (by omega) (by show 0+need.length=need.length;omega) (by omega) olt fun y hy z hz=>by
    have hz:z∈need:=by simpa using hz
    intro he
    have:=(k4.nd.mem z).1 hz
    rw[←he] at this
    exact hdis y hy _ this
   have q3:∀y,y∈s'↔y∈own∨y∈need:=fun y=>by simpa using q3 y
   dsimp only
   rw[show qmv N (Guardian.mk l r need []) N own 0=_ from q1,qaa]
   have holen:o.length≤96:=by
    have:=qen (b:=(List.range l.length).map fun (i:Nat)=>(i:Int)) k4.ok.nd fun a ha=>by
     obtain ⟨v,hv⟩:=qht.2 ha
     obtain ⟨h0,_,x,hx,_⟩:=k4.ok.ok _ _ hv
     have:=(List.getElem?_eq_some_iff.1 hx).1
     exact List.mem_map.2 ⟨a.toNat,List.mem_range.2 this,by omega⟩
    simp at this
    omega
   have hall:((own++o.map fun p=>Setting.mk p.1 p.2).map Setting.element).Nodup:=by
    rw[List.map_append,List.nodup_append]
    refine ⟨?_, ?_, ?_⟩
    ·unfold List.Nodup
     rw[List.pairwise_map]
     exact olt.imp fun h he=>by omega
    ·rw[List.map_map]
     exact k4.ok.nd
    ·intro a ha c hc hac
     obtain ⟨y,hy,rfl⟩:=List.mem_map.1 ha
     obtain ⟨z,hz,rfl⟩:=List.mem_map.1 hc
     obtain ⟨p,hp,rfl⟩:=List.mem_map.1 hz
     have:=qcf k4.ok.nd hp
     exact hdis y hy p.2 (by rw[hac];exact this)
   have hz:qqK N own o=some (qbI (own++o.map fun p=>Setting.mk p.1 p.2),0):=by
    unfold qqK rngM
    rw[if_pos ⟨by omega,hall⟩]
    unfold srtI
    rw[if_pos (by rw[List.length_append,List.length_map];omega),qaa]
    rfl
   rw[hz,qaa]
   have hmem:∀y,y∈qbI (own++o.map fun p=>Setting.mk p.1 p.2)↔y∈qaG l r∨qaf o y.element=some y.position:=fun y=>by
    rw[qcH,List.mem_append,omem]
    constructor
    ·rintro (h|h)
     ·exact .inl h
     ·obtain ⟨p,hp,rfl⟩:=List.mem_map.1 h
      exact .inr (qcf k4.ok.nd hp)
    ·rintro (h|h)
     ·exact .inl h
     ·exact .inr (List.mem_map.2 ⟨_,qd1 h,rfl⟩)
   have heq:qbI (own++o.map fun p=>Setting.mk p.1 p.2)=s':=qcE (qcs hall) q2 fun y=>by
    rw[hmem,q3,omem,k4.nd.mem]
   refine .inr (.inr ⟨hR,_,d,o,rfl,by rw[heq],⟨qcs hall,hmem,k4.ok,k5⟩, ?_⟩)
   rw[qfI,List.length_append,List.length_map]
   omega
 ·have hb:b=false:=by
   obtain ⟨b',h1,h2⟩:=qgt N (l:=l) (r:=r) (by omega) (by omega) (by omega)
   rw[p1] at h1;cases h1
   cases b with
   |false=>rfl
   |true=>exact absurd (h2.1 rfl) hR
  subst hb
  have he:s0=[]∧e0=1:=by
   unfold zaO at p3
   rw[p1,qaa,if_pos (by simp)] at p3
   cases p3;exact ⟨rfl,rfl⟩
  obtain ⟨rfl,rfl⟩:=he
  refine .inl ⟨hR, ?_, ?_⟩
  ·unfold zaR;rw[p3,qaa,if_pos (by simp)]
  ·unfold zbM;rw[p4,qaa,if_pos (by simp)]
end Go.W
end
section
set_option linter.unusedVariables false
set_option linter.unusedSimpArgs false
namespace Go.W
open Go.AM
theorem qEk {l:List PlantElement} (hP:PlOk l) {N:Nat} (hN:20≤N):∀x∈l,x.name.length<N∧x.name.length≤9223372036854775807:=fun x hx=>by
 have h1:=(qaA (hP.snd x hx)).2.2.2
 unfold pnOk at h1
 simp only[Bool.and_eq_true,decide_eq_true_eq] at h1
 omega
theorem qlQ (N:Nat) (hN:6000≤N) {l:List PlantElement} (hP:MadeP l):∀(k n i:Nat) (c:Int) (s:Maker),k<n→i+k=6→Mk c s→c+30*k≤900000→
  ∃s',Mk (c+30*k) s'∧(qgZ N l n s i=some (.inl s')∨∃w,qgZ N l n s i=some (.inr (s',l,w))∧w.length≤13∧RtP l w)
 |k,0,i,c,s,hn,_,_,_=>by omega
 |0,n+1,i,c,s,hn,hi,hs,hc=>by
  obtain rfl:i=6:=by omega
  rw[qgZ,if_neg (dneg (by omega))]
  exact ⟨s,hs.le (by omega), .inl rfl⟩
 |k+1,n+1,i,c,s,hn,hi,hs,hc=>by
  rw[qgZ,if_pos (dpos (by omega))]
  obtain ⟨w,s1,h1,h2,h3,h4,_⟩:=qyC N (by omega) hP hs (by omega)
  obtain ⟨b,_,k2,k3⟩:=qqH N (by omega) hP.ok (w:=w) (by omega)
  rw[h1,qaa]
  simp only[]
  rw[k2,qaa]
  cases b with
  |true=>exact ⟨s1,h2.le (by omega), .inr ⟨w,rfl,h4,k3.1 rfl⟩⟩
  |false=>
   rw[if_neg (by simp),qad,w64s (by omega)]
   obtain ⟨s',g1,g2⟩:=qlQ N hN hP k n (i+1) (c+30) s1 (by omega) (by omega) h2 (by omega)
   exact ⟨s',g1.le (by omega),g2⟩
theorem qDu (N:Nat) (hN:6000≤N) {c:Int} {s:Maker} (hs:Mk c s) (h0:0≤c) (hc:c≤800000):∃l w s',zcP N s=some (l,w,s')∧Mk (c+31000) s'∧PlOk l∧w.length≤13∧(w=[]∨RtP l w):=by
 unfold zcP
 obtain ⟨l,s1,h1,h2,hP⟩:=qsC N (by omega) (b:=c) h0 (by omega) hs (k:=20) (by omega)
 obtain ⟨s',g1,g2⟩:=qlQ N hN hP 6 N 0 (c+30000) s1 (by omega) (by omega) h2 (by omega)
 rw[h1,qaa]
 simp only[]
 rcases g2 with g2|⟨w,g2,g3,g4⟩
 ·rw[show qgZ N l N s1 0=_ from g2,qaa]
  exact ⟨l,[],s',rfl,g1.le (by omega),hP.ok,by simp, .inl rfl⟩
 ·rw[show qgZ N l N s1 0=_ from g2,qaa]
  exact ⟨l,w,s',rfl,g1.le (by omega),hP.ok,g3, .inr g4⟩
theorem KnP.of {l:List PlantElement} {s:List Setting} (h1:∀y∈s,ok1 l y) (h2:s.Pairwise fun a b=>a.element<b.element):KnP l s:=fun i y hy=>by
 refine ⟨h1 y (List.mem_of_getElem? hy),fun z hz he=> ?_⟩
 obtain ⟨j,hj,hz⟩:=qji.1 hz
 obtain ⟨hil,hie⟩:=List.getElem?_eq_some_iff.1 hy
 obtain ⟨hjl,hje⟩:=List.getElem?_eq_some_iff.1 hz
 have:=List.pairwise_iff_getElem.1 h2 j i hjl hil hj
 rw[hie,hje] at this
 omega
theorem qcy (N:Nat) (hN:6000≤N) {l:List PlantElement} (hP:PlOk l):∀(k n i:Nat) (c:Int) (s:Maker) (q:List Setting),k<n→i+k=l.length→Mk c s→c+2*k≤900000→q.length≤i→(∀y∈q,ok1 l y∧y.element<i)→(q.Pairwise fun a b=>a.element<b.element)→
  ∃q' s',qiR N l n s q i=some (s',q')∧Mk (c+2*k) s'∧q'.length≤l.length∧(∀y∈q',ok1 l y)∧(q'.Pairwise fun a b=>a.element<b.element)
 |k,0,i,c,s,q,hn,_,_,_,_,_,_=>by omega
 |0,n+1,i,c,s,q,hn,hi,hs,hc,hq,h1,h2=>by
  obtain rfl:i=l.length:=by omega
  rw[qiR,if_neg (dneg (by omega))]
  exact ⟨q,s,rfl,hs.le (by omega),hq,fun y hy=>(h1 y hy).1,h2⟩
 |k+1,n+1,i,c,s,q,hn,hi,hs,hc,hq,h1,h2=>by
  have hl:=hP.len
  have hv:=qao (xs:=l) (i:=i) (by omega)
  obtain ⟨x,hxe⟩:∃x,x=l[i]:=⟨_,rfl⟩
  rw[←hxe] at hv
  have hsnd:=hP.snd x (List.mem_of_getElem? hv)
  rw[qiR,if_pos (dpos (by omega))]
  obtain ⟨b,s1,a1,a2,a3,a4⟩:=qbc N (s:=s) (c:=c) 2 (by omega) (by omega) hs (by omega)
  have e2:qto N s l i=some (s1,decide (b=0∨x.kind=1)):=by
   unfold qto
   rw[a1,qaa]
   simp only[]
   by_cases h:b=0
   ·rw[if_pos (by simpa using h)];simp[h]
   ·rw[if_neg (by simpa using h),qae hv,qaa,qad]
    congr 2;rw[Bool.eq_iff_iff];simp[h]
  have hq1:∀y∈q,ok1 l y∧y.element<((i+1:Nat):Int):=fun y hy=>⟨(h1 y hy).1,by have:=(h1 y hy).2;omega⟩
  have add:∀p,((x.kind=2∧(p=1∨p=2))∨(x.kind=3∧(p=3∨p=4)))→(∀y∈q++[Setting.mk i p],ok1 l y∧y.element<((i+1:Nat):Int))∧(q++[Setting.mk i p]).Pairwise fun a b=>a.element<b.element:=by
   intro p hp
   refine ⟨fun y hy=> ?_, ?_⟩
   ·rcases List.mem_append.1 hy with hy|hy
    ·exact hq1 y hy
    ·have:=List.mem_singleton.1 hy
     subst this
     exact ⟨⟨by show (0:Int)≤(i:Int);omega,x,by show l[((i:Nat):Int).toNat]? =_;rw[Int.toNat_natCast];exact hv,hp⟩,by show (i:Int)<_;omega⟩
   ·rw[List.pairwise_append]
    refine ⟨h2,by simp,fun y hy z hz=> ?_⟩
    have:=List.mem_singleton.1 hz
    subst this
    exact (h1 y hy).2
  unfold qy4
  rw[e2,qaa]
  simp only[]
  by_cases c1:b=0∨x.kind=1
  ·rw[if_pos (by simpa using c1),qaa]
   simp only[]
   rw[qad,w64s (by omega)]
   obtain ⟨q',s',g1,g2,g3⟩:=qcy N hN hP k n (i+1) (c+1) s1 q (by omega) (by omega) a4 (by omega) (by omega) hq1 h2
   exact ⟨q',s',g1,g2.le (by omega),g3⟩
  ·rw[if_neg (by simpa using c1),qae hv,qaa,qad]
   have hk1:x.kind≠1:=fun h=>c1 (.inr h)
   by_cases hk:x.kind=2
   ·rw[if_pos (by simpa using hk)]
    obtain ⟨p,s2,b1,b2,b3⟩:=qix N (s:=s1) (c:=c+1) [1,2] (by simp) (by simp) a4 (by omega)
    rw[b1,qaa,qaH (by simp;omega),qaa,qaa]
    simp only[]
    rw[qad,w64s (by omega)]
    have hp:=add p (.inl ⟨hk,by simpa using b2⟩)
    obtain ⟨q',s',g1,g2,g3⟩:=qcy N hN hP k n (i+1) (c+1+1) s2 _ (by omega) (by omega) b3 (by omega) (by simp;omega) hp.1 hp.2
    exact ⟨q',s',g1,g2.le (by omega),g3⟩
   ·rw[if_neg (by simpa using hk)]
    have hk3:x.kind=3:=by rcases qrc hsnd with h|h|h;exact absurd h hk1;exact absurd h hk;exact h
    obtain ⟨p,s2,b1,b2,b3⟩:=qix N (s:=s1) (c:=c+1) [3,4] (by simp) (by simp) a4 (by omega)
    rw[b1,qaa,qaH (by simp;omega),qaa,qaa]
    simp only[]
    rw[qad,w64s (by omega)]
    have hp:=add p (.inr ⟨hk3,by simpa using b2⟩)
    obtain ⟨q',s',g1,g2,g3⟩:=qcy N hN hP k n (i+1) (c+1+1) s2 _ (by omega) (by omega) b3 (by omega) (by simp;omega) hp.1 hp.2
    exact ⟨q',s',g1,g2.le (by omega),g3⟩
theorem qrd (N:Nat) (hN:6000≤N) {l:List PlantElement} (hP:PlOk l) {c:Int} {s:Maker} (hs:Mk c s) (hc:c≤800000):∃q s',zbZ N s l=some (q,s')∧Mk (c+200) s'∧q.length≤96∧(∀y∈q,ok1 l y)∧(q.Pairwise fun a b=>a.element<b.element):=by
 have hl:=hP.len
 obtain ⟨q,s',h1,h2,h3,h4,h5⟩:=qcy N hN hP l.length N 0 c s [] (by omega) (by omega) hs (by omega) (by simp) (by simp) List.Pairwise.nil
 unfold zbZ
 rw[show qiR N l N s [] 0=_ from h1,qaa]
 exact ⟨q,s',rfl,h2.le (by omega),by omega,h4,h5⟩
def qb2:List PlantElement:=[(PlantElement.mk 1 [116,49] 0 1 0 9),(PlantElement.mk 2 [119] 1 2 3 0),(PlantElement.mk 1 [116,50] 2 4 0 9),(PlantElement.mk 3 [100] 3 5 0 0),(PlantElement.mk 1 [116,51] 5 6 0 9)]
def smallW:List Visit:=[(Visit.mk 0 (-1) 1),(Visit.mk 1 1 2),(Visit.mk 2 2 (-1))]
theorem qCw (M:Nat):zcL (M+60) qb2 0 2=some (smallW,0):=by kernel_rfl
theorem qxF (M:Nat):zbN (M+60) qb2 smallW=some true:=by kernel_rfl
theorem qq8 (M:Nat):zbN (M+60) qb2 []=some false:=by kernel_rfl
theorem qCz (M:Nat):qhT (M+60) qb2 smallW (smallW.length:Int) (M+60) [] 0=some [Setting.mk 1 1]:=by kernel_rfl
theorem qCx (M:Nat):zbH (M+60) qb2 smallW=some ([(3,4)],0):=by kernel_rfl
theorem qCu (M:Nat):zaQ (M+60) qb2 smallW []=some ([4],0):=by kernel_rfl
theorem qCv (M:Nat):zaQ (M+60) qb2 smallW [Setting.mk 1 1,Setting.mk 3 4]=some ([],0):=by kernel_rfl
theorem qwf {q:List Setting} (h:q.Pairwise fun a b=>a.element<b.element) (hl:q.length≤1000): @srtI Setting ⟨Setting.mk 0 0⟩ (fun a b=>cmpI a.element b.element) q=some q:=by
 have hn:(q.map Setting.element).Nodup:=by
  unfold List.Nodup
  rw[List.pairwise_map]
  exact h.imp fun h he=>by omega
 have e:qbI q=q:=qcE (qcs hn) h fun x=>qcH
 unfold srtI
 rw[if_pos (by omega)]
 exact congrArg some e
theorem qCy (M:Nat):zaR (M+60) qb2 smallW=some ([Setting.mk 1 1,Setting.mk 3 4],0):=by
 have hset:zaO (M+60) qb2 smallW=some ([Setting.mk 1 1],0):=by
  unfold zaO
  rw[qxF,qaa,if_neg (by simp),qCz,qaa,qwf (by simp) (by simp),qaa]
 unfold zaR
 rw[hset,qaa,if_neg (by simp),qCx,qaa,if_neg (by simp)]
 unfold qqK rngM
 rw[if_pos ⟨by simp,by simp⟩]
 simp only[List.map_cons,List.map_nil,List.cons_append,List.nil_append]
 rw[qwf (by simp) (by simp),qaa,qaa]
theorem qxE (M:Nat):zaR (M+60) qb2 []=some ([],1):=by
 have hset:zaO (M+60) qb2 []=some ([],1):=by
  unfold zaO
  rw[qq8,qaa,if_pos (by simp)]
 unfold zaR
 rw[hset,qaa,if_pos (by simp)]
theorem qDi {N:Nat} (h:60≤N):zcI N=some true:=by
 obtain ⟨M,rfl⟩:∃M,N=M+60:=⟨N - 60,by omega⟩
 unfold zcI
 have h0:zcA (M+60)=some qb2:=rfl
 rw[h0,qaa,qCw,qaa,qaa]
 simp only[]
 rw[qCy,qaa,qaa,qCu,qaa,qaa]
 simp only[]
 rw[qCv,qaa,qaa,qxE,qaa]
 have h1:qzb (M+60) [Setting.mk 1 1,Setting.mk 3 4] 0 [4] 0 [] 0 1=some true:=by kernel_rfl
 rw[h1,qaa]
end Go.W
end
section
set_option linter.unusedVariables false
set_option linter.unusedSimpArgs false
namespace Go.W
open Go.AM
theorem qeA {r:List Visit} {k:Int}:k∈elems r↔∃(j:Nat) (v:Visit),r[j]? =some v∧v.element=k:=by
 unfold elems
 rw[List.mem_map]
 constructor
 ·rintro ⟨v,hv,rfl⟩
  obtain ⟨j,hj⟩:=List.getElem?_of_mem hv
  exact ⟨j,v,hj,rfl⟩
 ·rintro ⟨j,v,hj,rfl⟩
  exact ⟨v,List.mem_of_getElem? hj,rfl⟩
theorem ql6 {l:List PlantElement} {r:List Visit} (hR:RtP l r) {k n:Int} (hk:k∈elems r) (hf:k≠(endR r).1) (hl:k≠(endR r).2) (hn:n∈eI l k) (ho:nbr l k n∉elems r):∃v∈r,∃x,v.element=k∧l[k.toNat]? =some x∧x.kind=2∧n=qe8 x v:=by
 have hP:=PlOk.of hR.1
 have hW:=hR.2.1
 obtain ⟨j,v,hj,rfl⟩:=qeA.1 hk
 have hjl:=(List.getElem?_eq_some_iff.1 hj).1
 have e0:=qao (xs:=r) (i:=0) (by omega)
 have e1:=qao (xs:=r) (i:=r.length - 1) (by omega)
 have he:endR r=(r[0].element,r[r.length - 1].element):=by unfold endR;rw[e0,e1];rfl
 rw[he] at hf hl
 have j0:0<j:=by
  refine Nat.pos_of_ne_zero fun h=> ?_
  subst h
  rw[e0] at hj;cases hj;exact hf rfl
 have j1:j+1<r.length:=by
  refine Nat.lt_of_not_le fun h=> ?_
  have:j=r.length - 1:=by omega
  subst this
  rw[e1] at hj;cases hj;exact hl rfl
 have hp:=qao (xs:=r) (i:=j - 1) (by omega)
 have hq:=qao (xs:=r) (i:=j+1) j1
 have s1:=hW.step (j - 1) _ v hp (by rw[show j - 1+1=j by omega];exact hj)
 have s2:=hW.step j v _ hj hq
 have hmid:=hW.mid j v j0 j1 hj
 have hio:=hP.thr_sym hmid
 have hmem:=qiL hmid
 have n1:nbr l v.element v.in_∈elems r:=by
  have hin:=hW.outs (i:=j - 1) (by omega) hp
  have h0:0≤nbr l r[j - 1].element r[j - 1].out:=by rw[←s1.2.2];exact s1.2.1
  have:=hP.nbr_sym hin h0
  rw[←s1.2.2,←s1.1] at this
  rw[this]
  exact qeA.2 ⟨j - 1,_,hp,rfl⟩
 have n2:nbr l v.element v.out∈elems r:=by
  rw[←s2.2.2]
  exact qeA.2 ⟨j+1,_,hq,rfl⟩
 have d1:n≠v.in_:=fun h=>ho (by rw[h];exact n1)
 have d2:n≠v.out:=fun h=>ho (by rw[h];exact n2)
 obtain ⟨h0,h1,x,hx,hnx⟩:=qb1 hn
 have hsnd:=hP.snd x (List.mem_of_getElem? hx)
 have hee:=qhh h0 hx
 unfold thr at hmid
 rw[hee] at hmid hmem
 rcases qrc hsnd with hk|hk|hk
 ·have:qag x=[x.a,x.b]:=by unfold qag;rw[if_pos (.inl hk)]
  rw[this] at hmem hnx
  simp only[List.mem_cons,List.not_mem_nil,or_false] at hmem hnx
  have:=hio.2
  omega
 ·refine ⟨v,List.mem_of_getElem? hj,x,rfl,hx,hk, ?_⟩
  have:qag x=[x.a,x.b,x.c]:=by unfold qag;rw[if_neg (by omega),if_pos hk]
  obtain ⟨q1,q2,q3,hc⟩:=qct hsnd hk hmid
  rw[this] at hnx
  simp only[List.mem_cons,List.not_mem_nil,or_false] at hnx
  unfold qe8
  rcases hc with ⟨c1,_,c2⟩|⟨c1,c2⟩|⟨c1,c2⟩
  ·split<;>omega
  ·rw[if_pos (.inl c1)];omega
  ·rw[if_neg (by omega)];omega
 ·have:qag x=[x.a,x.b]:=by unfold qag;rw[if_pos (.inr hk)]
  rw[this] at hmem hnx
  simp only[List.mem_cons,List.not_mem_nil,or_false] at hmem hnx
  have:=hio.2
  omega
theorem qxL {l:List PlantElement} {r:List Visit} (hR:RtP l r) {d:SpS} {o:OutM} (hN:NI l r r.length d o) {p:Int→Int} (hp:∀i q,qaf o i=some q→p i=q) {v:Spot} (h:Rch (vS l (elems r) p (endR r).1 (endR r).2 (id:Spot→Spot)) v):
  v.node∈eI l v.element→v.element∉elems r→Dn d (Spot.mk (nbr l v.element v.node) v.node):=by
 have hP:=PlOk.of hR.1
 induction h with
 | @here v hd hf hh=>
  intro hn hno
  have h0:0≤nbr l v.element v.node:=by simpa[vS] using hd
  have hk:nbr l v.element v.node∈elems r:=by simpa[vS] using hf
  have hh:nbr l v.element v.node≠(endR r).1∧nbr l v.element v.node≠(endR r).2:=by simpa[vS] using hh
  have hs:=hP.nbr_sym hn h0
  obtain ⟨w,hw,x,h1,h2,h3,h4⟩:=ql6 hR hk hh.1 hh.2 (qeO h0).1 (by rw[hs];exact hno)
  rcases hN.han w (by rw[List.take_length];exact hw) x (by rw[h1];exact h2) h3 with ht|hdn
  ·exfalso
   unfold Tr at ht
   simp only[h1,←h4,hs] at ht
   rcases ht with ht|ht
   ·have:=(qb1 hn).1;omega
   ·exact hno ht
  ·rw[h1,←h4] at hdn;exact hdn
 | @step v u hd hf hu hr ih=>
  intro hn hno
  have h0:0≤nbr l v.element v.node:=by simpa[vS] using hd
  have hkn:nbr l v.element v.node∉elems r:=by simpa[vS] using hf
  have hs:=hP.nbr_sym hn h0
  obtain ⟨m,hm,rfl⟩:=List.mem_map.1 hu
  obtain ⟨k,hk⟩:∃k,k=nbr l v.element v.node:=⟨_,rfl⟩
  rw[←hk] at hm ih h0 hkn hs⊢
  have hnk:v.node∈eI l k:=by rw[hk];exact (qeO (by rw[←hk];exact h0)).1
  obtain ⟨x,hx⟩:∃x,l[k.toNat]? =some x:=by obtain ⟨_,_,x,hx,_⟩:=qb1 hnk;exact ⟨x,hx⟩
  have hee:=qhh h0 hx
  have hm':m∈onwE x (p k) v.node:=by
   unfold onw at hm
   rw[if_pos h0,hx] at hm
   exact hm
  have hmk:m∈eI l k:=by rw[hee];exact qlp hm'
  have hdn:=ih hmk hkn
  simp only at hdn
  obtain ⟨hnt,y,hy,c1,c3,c2,c4⟩:=hN.clo _ hdn
  have hkm:0≤nbr l k m:=by
   have:=hr.live
   rw[←hk] at this
   simpa[vS] using this
  have hsm:=hP.nbr_sym hmk hkm
  simp only[hsm] at hy c3 c2 c4
  rw[hx] at hy;cases hy
  have hsnd:=hP.snd x (List.mem_of_getElem? hx)
  rcases qrc hsnd with hkd|hkd|hkd
  ·exact absurd hkd c1
  ·have he:qag x=[x.a,x.b,x.c]:=by unfold qag;rw[if_neg (by omega),if_pos hkd]
   have hnd:=(qaA hsnd).1
   rw[he] at hnd
   simp at hnd
   have hnx:v.node∈qag x:=by rw[←hee];exact hnk
   rw[he] at hnx
   simp only[List.mem_cons,List.not_mem_nil,or_false] at hnx
   by_cases ha:m=x.a
   ·have hb:v.node≠x.a:=by
     intro hva
     unfold onwE at hm'
     rw[if_neg (by omega)] at hm'
     split at hm'
     ·have:=List.mem_singleton.1 hm';omega
     ·split at hm'
      ·have:=List.mem_singleton.1 hm';omega
      ·obtain ⟨q1,q2,q3,hc⟩:=qct hsnd hkd hm'
       omega
    have hh:=c4 hkd ha
    have hw:Hn l (elems r) d (Spot.mk k v.node):=by
     rcases hnx with h|h|h
     ·exact absurd h hb
     ·rw[h];exact hh.1
     ·rw[h];exact hh.2
    rcases hw with ht|hw
    ·exfalso
     unfold Tr at ht
     simp only[hs] at ht
     rcases ht with ht|ht
     ·have:=(qb1 hn).1;omega
     ·exact hno ht
    ·exact hw
   ·exfalso
    have hpk:=hp _ _ (c2 hkd ha)
    unfold onwE at hm'
    rw[if_neg (by omega)] at hm'
    split at hm'
    ·rename_i h;have:=List.mem_singleton.1 hm'
     rw[if_pos this] at hpk;omega
    ·split at hm'
     ·rename_i h1 h;have:=List.mem_singleton.1 hm'
      have hcb:m≠x.b:=by omega
      rw[if_neg hcb] at hpk;omega
     ·rename_i h1 h2
      obtain ⟨q1,q2,q3,hc⟩:=qct hsnd hkd hm'
      rcases hc with ⟨e1,_,e2⟩|⟨_,e⟩|⟨_,e⟩
      ·rcases e2 with e2|e2
       ·rw[if_pos e2] at hpk;exact h2 ⟨hkd,e1,hpk⟩
       ·rw[if_neg (by omega)] at hpk;exact h1 ⟨hkd,e1,hpk⟩
      ·exact ha e
      ·exact ha e
  ·exfalso
   have hpk:=hp _ _ (c3 hkd)
   unfold onwE at hm'
   rw[if_pos ⟨hkd,hpk⟩] at hm'
   cases hm'
theorem qz4 {s:List Setting} (hs:s.Pairwise fun a b=>a.element<b.element) {y:Setting} (hy:y∈s):atP s y.element=y.position:=by
 unfold atP
 cases hf:s.find? (fun z=>z.element==y.element) with
 |none=>
  have:=List.find?_eq_none.1 hf y hy
  simp at this
 |some z=>
  have h1:=List.mem_of_find?_eq_some hf
  have h2:=List.find?_some hf
  rw[qn8 hs h1 hy (by simpa using h2)]
theorem qov {l:List PlantElement} {r:List Visit} (hW:WayP l r) {y:Setting} (h:y∈qaG l r):ok1 l y:=by
 obtain ⟨v,hv,hy⟩:=List.mem_flatMap.1 h
 have he:=qiF hy
 obtain ⟨h0,h1⟩:=hW.ok v hv
 unfold setV at hy
 split at hy
 ·rename_i x hx
  refine ⟨by rw[he];exact h0,x,by rw[he];exact hx, ?_⟩
  unfold setE at hy
  split at hy
  ·rename_i hk
   have:=List.mem_singleton.1 hy
   subst this
   exact .inr ⟨hk, .inl rfl⟩
  ·split at hy
   ·rename_i hk
    split at hy
    ·have:=List.mem_singleton.1 hy
     subst this
     exact .inl ⟨hk, .inl rfl⟩
    ·have:=List.mem_singleton.1 hy
     subst this
     exact .inl ⟨hk, .inr rfl⟩
   ·cases hy
 ·cases hy
theorem PrP.ok1 {l:List PlantElement} {r:List Visit} (hW:WayP l r) {s:List Setting} {d:SpS} {o:OutM} (h:PrP l r s d o):∀y∈s,ok1 l y:=fun y hy=>by
 rcases (h.mem y).1 hy with hy|hy
 ·exact qov hW hy
 ·obtain ⟨h0,_,x,hx,hk⟩:=h.ok.ok _ _ hy
  refine ⟨h0,x,hx, ?_⟩
  rcases hk with hk|hk
  ·exact .inl hk
  ·exact .inr ⟨hk.1, .inr hk.2⟩
theorem qd2 {l:List PlantElement} {r:List Visit} (hR:RtP l r) {s:List Setting} {d:SpS} {o:OutM} (h:PrP l r s d o) {q:List Setting} (hq:q.Pairwise fun a b=>a.element<b.element) (hsq:∀y∈s,y∈q):exps l r q (endR r).1 (endR r).2=[]:=by
 have hp:∀i z,qaf o i=some z→atP q i=z:=fun i z hz=>qz4 hq (y:=Setting.mk i z) (hsq _ ((h.mem _).2 (.inr hz)))
 have hno:∀i,¬Exps l r q (endR r).1 (endR r).2 i:=by
  rintro i ⟨x,hx,hk,hon,hr⟩
  have he:qag x=[x.a,x.b]:=by unfold qag;rw[if_pos (.inl hk)]
  have key:∀n,n∈qag x→Rch (vS l (elems r) (atP q) (endR r).1 (endR r).2 (id:Spot→Spot)) (Spot.mk i n)→False:=by
   intro n hn hr
   have hnI:n∈eI l (i:Int):=by rw[qc0 hx];exact hn
   have hd:=qxL hR h.ni hp hr hnI hon
   obtain ⟨_,y,hy,c1,_⟩:=h.ni.clo _ hd
   have h0:0≤nbr l (i:Int) n:=by simpa[vS] using hr.live
   have:=(PlOk.of hR.1).nbr_sym hnI h0
   simp only[this,Int.toNat_natCast] at hy
   rw[hx] at hy;cases hy
   exact c1 hk
  rcases hr with hr|hr
  ·exact key _ (by rw[he];simp) hr
  ·exact key _ (by rw[he];simp) hr
 unfold exps
 rw[List.map_eq_nil_iff,List.filter_eq_nil_iff]
 intro i _
 simpa using hno i
theorem qym (N:Nat) {s:List Setting} {x:Setting} (hl:s.length≤100000) (hN:s.length<N) (hs:s.Pairwise fun a b=>a.element<b.element):
  ∃s',zcS N s x=some s'∧(s'.Pairwise fun a b=>a.element<b.element)∧(∀y∈s,y∈s')∧(∀y∈s',y=x∨y∈s)∧s'.length≤s.length+1:=by
 by_cases h:∃y∈s,y.element=x.element
 ·obtain ⟨y,hy,he⟩:=h
  exact ⟨s,qlB N hl hN hs hy he,hs,fun _ h=>h,fun _ h=> .inr h,by omega⟩
 ·obtain ⟨s',h1,h2,h3,h4⟩:=qlA N hl hN hs (x:=x) fun y hy he=>h ⟨y,hy,he⟩
  exact ⟨s',h1,h2,fun y hy=>(h3 y).2 (.inr hy),fun y hy=>(h3 y).1 hy,by omega⟩
theorem qiW (N:Nat) (hN:6000≤N) {q:List Setting} (hq:q.length≤96):∀(k n i:Nat) (s:List Setting),k<n→i+k=q.length→s.length≤1000+i→(s.Pairwise fun a b=>a.element<b.element)→
  ∃s',qhR N q n s i=some s'∧(s'.Pairwise fun a b=>a.element<b.element)∧(∀y∈s,y∈s')∧(∀y∈s',y∈q∨y∈s)∧s'.length≤1000+q.length
 |k,0,i,s,hn,_,_,_=>by omega
 |0,n+1,i,s,hn,hi,hl,hs=>by
  obtain rfl:i=q.length:=by omega
  rw[qhR,if_neg (dneg (by omega))]
  exact ⟨s,rfl,hs,fun _ h=>h,fun _ h=> .inr h,hl⟩
 |k+1,n+1,i,s,hn,hi,hl,hs=>by
  have hv:=qao (xs:=q) (i:=i) (by omega)
  obtain ⟨s1,h1,h2,h3,h4,h5⟩:=qym N (s:=s) (x:=q[i]) (by omega) (by omega) hs
  rw[qhR,if_pos (dpos (by omega)),qae hv,qaa,qaa,h1,qaa,qad,w64s (by omega)]
  obtain ⟨s',g1,g2,g3,g4,g5⟩:=qiW N hN hq k n (i+1) s1 (by omega) (by omega) (by omega) h2
  refine ⟨s',g1,g2,fun y hy=>g3 y (h3 y hy),fun y hy=> ?_,g5⟩
  rcases g4 y hy with h|h
  ·exact .inl h
  ·rcases h4 y h with rfl|h
   ·exact .inl (List.mem_of_getElem? hv)
   ·exact .inr h
theorem qxA (N:Nat) (hN:6000≤N) {c:Int} {s:Maker} (hs:Mk c s) (h0:0≤c) (hc:c≤700000):∃s',qsZ N s=some (.inl s')∧Mk (c+40000) s':=by
 unfold qsZ
 obtain ⟨l,w,s1,h1,h2,hP,h3,_⟩:=qDu N hN hs h0 (by omega)
 have hl:=hP.len
 rw[h1,qaa]
 simp only[]
 have bad:∀e,e≠0→zaR N l w=some ([],e)→∃s',(Option.bind (zaR N l w) fun y3=>
   if (y3.2 !=0)=true then
    some (Sum.inl s1)
   else
    Option.bind (zbZ N s1 l) fun y4=>
    Option.bind (appI ([]:List Setting) y3.1) fun y5=>
    Option.bind (qhR N y4.1 N y5 0) fun y10=>
    Option.bind (zaQ N l w y3.1) fun y11=>
    Option.bind (zaQ N l w y10) fun y12=>
    Option.bind (qyF N y11.1 y11.2 y12.1 y12.2) fun y13=>
    if y13=true then
     some (Sum.inr false)
    else
     some (Sum.inl y4.2))=some (.inl s')∧Mk (c+40000) s':=fun e he hp=>by
  rw[hp,qaa,if_pos (by simpa using he)]
  exact ⟨s1,rfl,h2.le (by omega)⟩
 rcases qmg N hN hl (r:=w) (by omega) (qEk hP (by omega)) with ⟨_,p1,_⟩|⟨_,e,he,p1,_⟩|⟨hR,a,d,o,p1,_,p2,p3⟩
 ·exact bad 1 (by omega) p1
 ·exact bad e he p1
 ·obtain ⟨q,s2,k1,k2,k3,k4,k5⟩:=qrd N hN hP h2 (by omega)
  rw[p1,qaa,if_neg (by simp),k1,qaa,qaH (by simp;omega),qaa,List.nil_append]
  simp only[]
  obtain ⟨b,g1,g2,g3,g4,g5⟩:=qiW N hN k3 q.length N 0 a (by omega) (by omega) (by omega) p2.lt
  rw[show qhR N q N a 0=_ from g1,qaa]
  have ha1:=p2.ok1 hR.2.1
  have hKa:KnP l a:=KnP.of ha1 p2.lt
  have hKb:KnP l b:=KnP.of (fun y hy=>by rcases g4 y hy with h|h;exact k4 y h;exact ha1 y h) g2
  have e1:zaQ N l w a=some ([],0):=by
   rcases qn1 N hl (r:=w) (s:=a) (by omega) (by omega) (by omega) with ⟨h,_⟩|⟨_,h,_⟩|⟨_,_,h⟩
   ·exact absurd hR h
   ·exact absurd hKa h
   ·rw[h,qd2 hR p2 p2.lt fun _ h=>h]
  have hbl:b.length≤l.length:=qwc g2 fun y hy=>by
   have hy1:ok1 l y:=by rcases g4 y hy with h|h;exact k4 y h;exact ha1 y h
   obtain ⟨h0,x,hx,_⟩:=hy1
   have:=(List.getElem?_eq_some_iff.1 hx).1
   omega
  have e2:zaQ N l w b=some ([],0):=by
   rcases qn1 N hl (r:=w) (s:=b) (by omega) (by omega) (by omega) with ⟨h,_⟩|⟨_,h,_⟩|⟨_,_,h⟩
   ·exact absurd hR h
   ·exact absurd hKb h
   ·rw[h,qd2 hR p2 g2 g3]
  rw[e1,qaa,e2,qaa]
  exact ⟨s2,rfl,k2.le (by omega)⟩
theorem qi7 (N:Nat) (hN:6000≤N):∀(k n i:Nat) (c:Int) (s:Maker),k<n→i+k=4→Mk c s→0≤c→c+40000*k≤700000→qiO N n s i=some (.inl ())
 |k,0,i,c,s,hn,_,_,_,_=>by omega
 |0,n+1,i,c,s,hn,hi,hs,hc0,hc=>by
  obtain rfl:i=4:=by omega
  rw[qiO,if_neg (dneg (by omega))]
 |k+1,n+1,i,c,s,hn,hi,hs,hc0,hc=>by
  rw[qiO,if_pos (dpos (by omega))]
  obtain ⟨s',h1,h2⟩:=qxA N hN hs hc0 (by omega)
  rw[h1,qaa]
  dsimp only
  rw[qad,w64s (by omega)]
  exact qi7 N hN k n (i+1) (c+40000) s' (by omega) (by omega) h2 (by omega) (by omega)
theorem qCt (t:List Int):∃N,zaG N t=some true:=by
 refine ⟨6000, ?_⟩
 unfold zaG zcO
 have h0:=qi7 6000 (by omega) 4 6000 0 0 (Maker.mk t 0) (by omega) (by omega) (mk0 t) (by omega) (by omega)
 have h0:qiO 6000 6000 (Maker.mk t 0) 0=some (.inl ()):=h0
 rw[qaa,h0,qaa]
 simp only[]
 rw[qDi (by omega),qaa]
end Go.W
end
