/- LFr LFk1 LFk2 LFk3 LFk4 LFk5 LFk6 LFk7 LFk8 LFkE -/
import Derived.Test.YtflnpffcbghmhaaMe
section
set_option linter.unusedSimpArgs false
set_option linter.unusedVariables false
set_option maxRecDepth 100000
namespace Go.W
open Go.AM
theorem qhx {α β:Type} [DecidableEq α]:∀{m:List (α×β)} {k:α},(∃v,qaf m k=some v)↔k∈m.map Prod.fst
 |[],k=>by simp[qaf]
 |p::m,k=>by
  simp only[qaf,List.map_cons,List.mem_cons]
  by_cases h:p.1=k
  ·rw[if_pos h];simp[h]
  ·rw[if_neg h,qhx]
   constructor
   ·exact .inr
   ·rintro (hh|hh)
    ·exact absurd hh.symm h
    ·exact hh
theorem qer {α:Type} [DecidableEq α]:∀{a b:List α},a.Nodup→(∀x∈a,x∈b)→a.length≤b.length
 |[],b,_,_=>by simp
 |x::a,b,hd,hs=>by
  have hd':=List.nodup_cons.1 hd
  have hx:=hs x List.mem_cons_self
  have:=qer (a:=a) (b:=b.erase x) hd'.2 fun y hy=>(List.mem_erase_of_ne (by rintro rfl;exact hd'.1 hy)).2 (hs y (List.mem_cons_of_mem _ hy))
  rw[List.length_erase_of_mem hx] at this
  have hpos:=List.length_pos_of_mem hx
  simp only[List.length_cons];omega
open Go.AM
open Go.AM
def trk (l:List PlantElement) (i:Int):Prop:=0≤i∧∃x,l[i.toNat]? =some x∧x.kind=1
instance (l:List PlantElement) (i:Int):Decidable (trk l i):=by
 unfold trk
 cases h:l[i.toNat]? with
 |none=>exact isFalse (by rintro ⟨_,x,hx,_⟩;cases hx)
 |some y=>exact if h2:0≤i∧y.kind=1 then isTrue ⟨h2.1,y,rfl,h2.2⟩ else isFalse (by rintro ⟨a,x,hx,b⟩;cases hx;exact h2 ⟨a,b⟩)
theorem qoO (N:Nat) (l:List PlantElement) (i:Int):zbK N l i=some (decide (trk l i)):=by
 unfold zbK quT
 by_cases h0:0≤i
 ·rw[if_pos (lpos h0)]
  by_cases h1:i<l.length
  ·rw[if_pos (dpos h1)]
   have hlt:i.toNat<l.length:=by omega
   have hg:getI l i=some l[i.toNat]:=by simp[getI,h0,hlt]
   rw[hg,qaa,qad,qaa]
   congr 1
   by_cases hk:l[i.toNat].kind=1
   ·rw[decide_eq_true (show trk l i from ⟨h0,_,qap hlt,hk⟩)];simpa using hk
   ·rw[decide_eq_false (show ¬trk l i from by rintro ⟨_,x,hx,hk'⟩;rw[qap hlt] at hx;cases hx;exact hk hk')];simpa using hk
  ·rw[if_neg (dneg h1),qaa,decide_eq_false (show ¬trk l i from by rintro ⟨_,x,hx,_⟩;have:=(List.getElem?_eq_some_iff.1 hx).1;omega)]
 ·rw[if_neg (lneg h0),qaa,decide_eq_false (show ¬trk l i from fun h=>h0 h.1)]
theorem qAW (N:Nat) (l:List PlantElement) (i:Int):zcA N l i=some (decide (trk l i)):=by
 have h:=qoO N l i
 unfold zbK quT at h
 unfold zcA qBA
 exact h
theorem qcR (N:Nat) {l:List Int} (hN:l.length<N) (hl:l.length≤1000000) (x:Int):zaA N l x=some (l.contains x):=by
 unfold zaA zaC
 have h:=qau (l:=l) (fun _ y=>x==y) (fun i _=>(i:Int)) (fun m i=>qhV N l x l.length m i) (fun m=>by
  show qhV N l x l.length (m+1) _=_
  rw[qhV,if_neg (dneg (by omega))]) (fun m i y hy=>by
  show qhV N l x l.length (m+1) _=_
  have hlt:=(List.getElem?_eq_some_iff.1 hy).1
  rw[qhV,if_pos (dpos (by omega)),qae hy,qaa,w64s (by omega)]) l.length N 0 hN (by omega)
 simp only[Int.natCast_zero,List.drop_zero] at h
 rw[h,qaa]
 have key:(∃u,res (fun _ y=>x==y) (fun i _=>(i:Int)) 0 l= .inl u)↔l.contains x=false:=by
  have:res (fun _ y=>x==y) (fun i (_:Int)=>(i:Int)) 0 l= .inl ()↔_:=qbX
  constructor
  ·rintro ⟨u,hu⟩
   have h2:=this.1 hu
   rw[Bool.eq_false_iff]
   intro hc
   have hm:x∈l:=by simpa using hc
   obtain ⟨j,hj⟩:=List.getElem?_of_mem hm
   have:=h2 j x hj
   simp at this
  ·intro hc
   refine ⟨(),this.2 fun j y hj=> ?_⟩
   have hm:x∉l:=by simpa using hc
   simp only[beq_eq_false_iff_ne,ne_eq]
   rintro rfl
   exact hm (List.mem_of_getElem? hj)
 rcases qeY (fun _ y=>x==y) l 0 with ⟨h1,h2⟩|⟨h1,h2⟩
 ·rw[h1]
  have:=key.1 ⟨(),h1⟩
  rw[this]
  rfl
 ·rw[h1]
  have:l.contains x=true:=by
   cases hc:l.contains x with
   |true=>rfl
   |false=>obtain ⟨u,hu⟩:=key.2 hc;rw[h1] at hu;cases hu
  rw[this]
  simp only[qaa,qad]
  rw[decide_eq_true h2]
theorem qoR (N:Nat) {l:List Int} (hN:l.length<N) (hl:l.length≤1000000) (x:Int):zcN N l x=some (l.contains x):=by
 have h:=qnY (l:=l) (x:=x) (fun n i=>qh6 N l x n i) (fun n=>by
  show qh6 N l x (n+1) _=_
  rw[qh6,if_neg (dneg (by omega))]) (fun n i y hy=>by
  show qh6 N l x (n+1) _=_
  have hlt:=(List.getElem?_eq_some_iff.1 hy).1
  rw[qh6,if_pos (dpos (by omega)),qae hy,qaa,qad,w64s (by omega)]) hN
 unfold zcN
 rw[h,qaa]
 cases l.contains x<;>rfl
def elems (r:List Visit):List Int:=r.map Visit.element
theorem qcw (N:Nat) {r:List Visit} (hN:r.length<N) (hl:r.length≤9223372036854775807) (x:Int):zbT N r x=some ((elems r).contains x):=by
 have h:=qau (l:=r) (fun _ y=>y.element==x) (fun _ _=>true) (fun n i=>qh0 N r x n i) (fun n=>by
  show qh0 N r x (n+1) _=_
  rw[qh0,if_neg (dneg (by omega))]) (fun n i y hy=>by
  show qh0 N r x (n+1) _=_
  have hlt:=(List.getElem?_eq_some_iff.1 hy).1
  rw[qh0,if_pos (dpos (by omega)),qae hy,qaa,qad,w64s (by omega)]) r.length N 0 hN (by omega)
 simp only[Int.natCast_zero,List.drop_zero] at h
 unfold zbT
 rw[h,qaa,qiF (fun y:Visit=>y.element==x)]
 have e:(r.any fun y=>y.element==x)=(elems r).contains x:=by
  unfold elems
  rw[←qi4,List.any_map]
  rfl
 rw[e]
 cases (elems r).contains x<;>rfl
theorem qfO (N:Nat) {r:List Visit} (hl:r.length≤9223372036854775807):∀(k n i:Nat) (x3:List (Int×Bool)),k<n→i+k=r.length→(∀a,(qaf x3 a).getD false=(elems (r.take i)).contains a)→(elems (r.take i)).Nodup→
  (qgX N r r.length n x3 i=some (.inl ())∧(elems r).Nodup)∨(qgX N r r.length n x3 i=some (.inr true)∧¬(elems r).Nodup)
 |k,0,i,x3,hn,_,_,_=>by omega
 |0,n+1,i,x3,hn,hi,h1,h2=>by
  obtain rfl:i=r.length:=by omega
  rw[qgX,if_neg (dneg (by omega))]
  rw[List.take_length] at h2
  exact .inl ⟨rfl,h2⟩
 |k+1,n+1,i,x3,hn,hi,h1,h2=>by
  have hlt:i<r.length:=by omega
  have ha:=qap hlt
  rw[qgX,if_pos (dpos (by omega)),qae ha,qaa,qad,h1]
  have htk:elems (r.take (i+1))=elems (r.take i)++[r[i].element]:=by unfold elems;rw[qbf ha,List.map_append];rfl
  by_cases hc:(elems (r.take i)).contains r[i].element=true
  ·rw[if_pos hc]
   refine .inr ⟨rfl,fun hd=> ?_⟩
   have hs:(elems (r.take (i+1))).Nodup:=hd.sublist ((List.take_sublist (i+1) r).map _)
   rw[htk,List.nodup_append] at hs
   exact hs.2.2 _ (by simpa using hc) _ (by simp) rfl
  ·rw[if_neg hc,qad,w64s (by omega)]
   refine qfO N hl k n (i+1) _ (by omega) (by omega) (fun a=> ?_) ?_
   ·rw[qaD,htk]
    by_cases hh:r[i].element=a
    ·rw[if_pos hh];simp[hh]
    ·rw[if_neg hh,h1]
     have hh':¬a=r[i].element:=fun q=>hh q.symm
     simp[hh']
   ·rw[htk,List.nodup_append]
    refine ⟨h2,by simp,fun x hx y hy=> ?_⟩
    simp at hy
    subst hy
    rintro rfl
    exact hc (by simpa using hx)
theorem qum (N:Nat) {r:List Visit} (hN:r.length<N) (hl:r.length≤9223372036854775807):∃b,zbL N r=some b∧(b=false↔(elems r).Nodup):=by
 unfold zbL
 have h:=qfO N hl r.length N 0 [] hN (by omega) (fun a=>by simp[qaf,elems]) (by simp[elems])
 rcases h with ⟨h1,h2⟩|⟨h1,h2⟩
 ·have h1:qgX N r r.length N [] 0=some (.inl ()):=h1
  rw[h1,qaa]
  exact ⟨false,rfl,by simp[h2]⟩
 ·have h1:qgX N r r.length N [] 0=some (.inr true):=h1
  rw[h1,qaa]
  exact ⟨true,rfl,by simp[h2]⟩
structure WayP (l:List PlantElement) (r:List Visit):Prop where
 two:2≤r.length
 st:∀v,r[0]? =some v→trk l v.element∧v.in_= -1∧v.out∈eI l v.element
 en:∀v,r[r.length - 1]? =some v→trk l v.element∧v.out= -1
 step:∀(i:Nat) v w,r[i]? =some v→r[i+1]? =some w→w.in_=v.out∧0≤w.element∧w.element=nbr l v.element v.out
 mid:∀(i:Nat) v,0<i→i+1<r.length→r[i]? =some v→v.out∈thr l v.element v.in_
theorem WayP.ins {l:List PlantElement} {r:List Visit} (h:WayP l r) {i:Nat} {v:Visit} (hi:0<i) (hv:r[i]? =some v):v.in_∈eI l v.element:=by
 obtain ⟨j,rfl⟩:∃j,i=j+1:=⟨i - 1,by omega⟩
 have hlt:=(List.getElem?_eq_some_iff.1 hv).1
 have hj:=qap (xs:=r) (i:=j) (by omega)
 obtain ⟨a,b,c⟩:=h.step j _ v hj hv
 rw[c,a]
 exact (qir (by rw[←c];exact b)).1
theorem WayP.outs {l:List PlantElement} {r:List Visit} (h:WayP l r) {i:Nat} {v:Visit} (hi:i+1<r.length) (hv:r[i]? =some v):v.out∈eI l v.element:=by
 cases i with
 |zero=>exact (h.st v hv).2.2
 |succ i=>exact (qpm (h.mid (i+1) v (by omega) hi hv)).2
theorem qa5 {a:Bool} {x:Option Bool} {p q:Prop} (ha:a=false↔p) (hx:∃b,x=some b∧(b=false↔q)):∃b,(if a=true then some true else x)=some b∧(b=false↔p∧q):=by
 cases a with
 |true=>exact ⟨true,rfl,by simp at ha;simp[ha]⟩
 |false=>
  obtain ⟨b,h1,h2⟩:=hx
  refine ⟨b,by simpa using h1, ?_⟩
  rw[h2]
  simp at ha
  simp[ha]
theorem qju {p:Prop} [Decidable p]:(!decide p)=false↔p:=by simp
theorem qon {l:List Int} {x:Int}:(!l.contains x)=false↔x∈l:=by simp
theorem qg8 {a b:Int}:(a !=b)=false↔a=b:=by simp
theorem qFq {a b:Int}:decide (a<b)=false↔b≤a:=by simp
theorem qAM (N:Nat) {l:List PlantElement} {r:List Visit} (hN:r.length+l.length+10≤N) (hl:l.length≤1000000) (hr:r.length≤9223372036854775807):∃b,zcC N l r=some b∧(b=true↔WayP l r):=by
 unfold zcC
 rw[qad]
 by_cases h2:r.length<2
 ·have h:qna N l r (IntKind.wrap .i64 ((r.length:Int) - 1))=some true:=by
   unfold qna
   rw[if_pos (dpos (by rw[w64 (by omega) (by omega)];omega))]
  rw[h,qaa,if_pos rfl]
  exact ⟨false,rfl,by simp;intro hw;have:=hw.two;omega⟩
 have hw:IntKind.wrap .i64 ((r.length:Int) - 1)=((r.length - 1:Nat):Int):=by rw[w64 (by omega) (by omega)];omega
 rw[hw]
 have h0:=qap (xs:=r) (i:=0) (by omega)
 have hz:=qap (xs:=r) (i:=r.length - 1) (by omega)
 generalize hv0:r[0]'(by omega)=v at h0
 generalize hvz:r[r.length - 1]'(by omega)=w at hz
 have g0:getI r 0=some v:=qae h0
 have gz:getI r ((r.length - 1:Nat):Int)=some w:=qae hz
 have e1:=qd1 l v.element
 have e2:=qd1 l w.element
 have c0:∃b,qna N l r ((r.length - 1:Nat):Int)=some b∧(b=false↔trk l v.element∧trk l w.element∧v.in_= -1∧w.out= -1):=by
  unfold qna
  rw[if_neg (dneg (by omega))]
  simp only[g0,gz,qaa,qoO]
  exact qa5 qju (qa5 qju (qa5 qg8 ⟨_,rfl,qg8⟩))
 have c1:∃b,qu5 N l r ((r.length - 1:Nat):Int)=some b∧(b=false↔v.out∈eI l v.element∧w.in_∈eI l w.element):=by
  unfold qu5
  simp only[g0,gz,qaa,ql6]
  rw[qcR N (by omega) (by omega),qcR N (by omega) (by omega)]
  simp only[qaa]
  exact qa5 qon ⟨_,rfl,qon⟩
 obtain ⟨b0,p0,q0⟩:=c0
 obtain ⟨b1,p1,q1⟩:=c1
 rw[p0,qaa]
 have st':∀{x},r[0]? =some x→x=v:=fun hx=>by rw[h0] at hx;cases hx;rfl
 have en':∀{x},r[r.length - 1]? =some x→x=w:=fun hx=>by rw[hz] at hx;cases hx;rfl
 cases b0 with
 |true=>
  rw[if_pos rfl]
  refine ⟨false,rfl, ?_⟩
  simp only[Bool.false_eq_true,false_iff]
  intro hw
  have a:=hw.st v h0
  have b:=hw.en w hz
  have:=q0.2 ⟨a.1,b.1,a.2.1,b.2⟩
  cases this
 |false=>
  rw[if_neg (by simp),p1,qaa]
  have q0:=q0.1 rfl
  cases b1 with
  |true=>
   rw[if_pos rfl]
   refine ⟨false,rfl, ?_⟩
   simp only[Bool.false_eq_true,false_iff]
   intro hw
   have:=q1.2 ⟨(hw.st v h0).2.2,hw.ins (by omega) hz⟩
   cases this
  |false=>
   rw[if_neg (by simp)]
   have q1:=q1.1 rfl
   have hcut:cutI r 1 (r.length:Int)=some (r.drop 1):=qcb (i:=1) (by omega)
   rw[hcut,qaa]
   have hlen:(r.drop 1).length=r.length - 1:=List.length_drop
   let bad:Nat→Visit→Prop:=fun i y=>¬((y.in_=(r.getD i (Visit.mk 0 0 0)).out∧0≤y.element∧nbr l (r.getD i (Visit.mk 0 0 0)).element (r.getD i (Visit.mk 0 0 0)).out=y.element)∧(i+2<r.length→y.out∈thr l y.element y.in_))
   have hloop:=qau (l:=r.drop 1) (fun i y=> @decide (bad i y) (Classical.propDecidable _)) (fun _ _=>false) (fun m i=>qh3 N l r ((r.length - 1:Nat):Int) (r.drop 1) (r.drop 1).length m i) (fun m=>by
    show qh3 N l r _ (r.drop 1) (r.drop 1).length (m+1) _=_
    rw[qh3,if_neg (dneg (by omega))]) (fun m i y hy=>by
    show qh3 N l r _ (r.drop 1) (r.drop 1).length (m+1) _=_
    have hlt:=(List.getElem?_eq_some_iff.1 hy).1
    have hi:=qap (xs:=r) (i:=i) (by omega)
    rw[qh3,if_pos (dpos (by omega)),qae hy,qaa,qae hi,qaa]
    have hgd:r.getD i (Visit.mk 0 0 0)=r[i]'(by omega):=by simp[List.getD,hi]
    have d3:∃b,qu6 N l y (r[i]'(by omega))=some b∧(b=false↔y.in_=(r.getD i (Visit.mk 0 0 0)).out∧0≤y.element∧nbr l (r.getD i (Visit.mk 0 0 0)).element (r.getD i (Visit.mk 0 0 0)).out=y.element):=by
     unfold qu6
     rw[hgd,qiB N (by omega) (by omega),qaa]
     exact qa5 qg8 (qa5 qFq ⟨_,rfl,qg8⟩)
    have d4:∃b,qu7 N l ((r.length - 1:Nat):Int) i y=some b∧(b=false↔(i+2<r.length→y.out∈thr l y.element y.in_)):=by
     unfold qu7
     rw[w64s (by omega)]
     by_cases hh:i+2<r.length
     ·rw[if_pos (dpos (by omega)),qoN N (by omega),qaa,qcR N (by have:=qdV l y.element y.in_;omega) (by have:=qdV l y.element y.in_;omega),qaa]
      exact ⟨_,rfl,by rw[qon];simp[hh]⟩
     ·rw[if_neg (dneg (by omega))]
      exact ⟨false,rfl,by simp[hh]⟩
    obtain ⟨b3,r3,s3⟩:=d3
    obtain ⟨b4,r4,s4⟩:=d4
    rw[r3,qaa]
    cases b3 with
    |true=>
     have hb:bad i y:=fun hh=>by have:=s3.2 hh.1;cases this
     rw[if_pos rfl, @decide_eq_true _ (Classical.propDecidable _) hb,if_pos rfl]
    |false=>
     rw[if_neg (by simp),r4,qaa]
     cases b4 with
     |true=>
      have hb:bad i y:=fun hh=>by have:=s4.2 hh.2;cases this
      rw[if_pos rfl, @decide_eq_true _ (Classical.propDecidable _) hb,if_pos rfl]
     |false=>
      have hb:¬bad i y:=fun hh=>hh ⟨s3.1 rfl,s4.1 rfl⟩
      rw[if_neg (by simp), @decide_eq_false _ (Classical.propDecidable _) hb,if_neg (by simp),w64s (by omega)]) (r.drop 1).length N 0 (by omega) (by omega)
   simp only[Int.natCast_zero,List.drop_zero] at hloop
   rw[hloop,qaa]
   have hiff:WayP l r↔∀(j:Nat) (y:Visit),(r.drop 1)[j]? =some y→¬bad j y:=by
    constructor
    ·intro hw j y hj hb
     rw[List.getElem?_drop,Nat.add_comm] at hj
     have hlt:=(List.getElem?_eq_some_iff.1 hj).1
     have hi:=qap (xs:=r) (i:=j) (by omega)
     have hgd:r.getD j (Visit.mk 0 0 0)=r[j]'(by omega):=by simp[List.getD,hi]
     obtain ⟨a,b,c⟩:=hw.step j _ y hi hj
     refine hb ⟨by rw[hgd];exact ⟨a,b,c.symm⟩,fun hh=>hw.mid (j+1) y (by omega) (by omega) hj⟩
    ·intro hh
     refine ⟨by omega,fun x hx=> ?_,fun x hx=> ?_,fun i x y hx hy=> ?_,fun i x hi hi2 hx=> ?_⟩
     ·rw[st' hx];exact ⟨q0.1,q0.2.2.1,q1.1⟩
     ·rw[en' hx];exact ⟨q0.2.1,q0.2.2.2⟩
     ·have:=Classical.not_not.1 (hh i y (by rw[List.getElem?_drop,Nat.add_comm];exact hy))
      have hgd:r.getD i (Visit.mk 0 0 0)=x:=by simp[List.getD,hx]
      rw[hgd] at this
      exact ⟨this.1.1,this.1.2.1,this.1.2.2.symm⟩
     ·obtain ⟨j,rfl⟩:∃j,i=j+1:=⟨i - 1,by omega⟩
      have:=Classical.not_not.1 (hh j x (by rw[List.getElem?_drop,Nat.add_comm];exact hx))
      exact this.2 (by omega)
   have hres:=qbX (p:=fun i y=> @decide (bad i y) (Classical.propDecidable _)) (out:=fun _ _=>false) (l:=r.drop 1) (i:=0)
   cases hr2:res (fun i y=> @decide (bad i y) (Classical.propDecidable _)) (fun _ _=>false) 0 (r.drop 1) with
   |inl u=>
    refine ⟨true,rfl, ?_⟩
    simp only[true_iff]
    refine hiff.2 fun j y hj=> ?_
    have:=(hres.1 hr2) j y hj
    rw[Nat.zero_add] at this
    exact @of_decide_eq_false _ (Classical.propDecidable _) this
   |inr b=>
    have hbf:b=false:=by
     have key:∀(e:List Visit) (i:Nat) (b:Bool),res (fun i y=> @decide (bad i y) (Classical.propDecidable _)) (fun _ _=>false) i e= .inr b→b=false:=by
      intro e
      induction e with
      |nil=>intro i b h;cases h
      |cons y e ih=>
       intro i b h
       rw[res] at h
       split at h
       ·cases h;rfl
       ·exact ih _ _ h
     exact key _ _ _ hr2
    subst hbf
    refine ⟨false,rfl, ?_⟩
    simp only[Bool.false_eq_true,false_iff]
    intro hw
    have:=hres.2 fun j y hj=>by
     rw[Nat.zero_add]
     exact @decide_eq_false _ (Classical.propDecidable _) (hiff.1 hw j y hj)
    rw[this] at hr2;cases hr2
open Go.AM
def RtP (l:List PlantElement) (r:List Visit):Prop:=vErr l=0∧WayP l r∧(elems r).Nodup
theorem qgv (N:Nat) {l:List PlantElement} {r:List Visit} (hN:r.length+l.length+200≤N) (hl:l.length≤1000000) (hr:r.length≤9223372036854775807):∃b,zbJ N l r=some b∧(b=true↔RtP l r):=by
 unfold zbJ qBq RtP
 rw[qhG N (by omega),qaa]
 by_cases h0:vErr l=0
 ·rw[if_pos (by simpa using h0)]
  obtain ⟨b,h1,h2⟩:=qAM N (l:=l) (r:=r) (by omega) hl hr
  obtain ⟨c,h3,h4⟩:=qum N (r:=r) (by omega) hr
  rw[h1,qaa]
  cases b with
  |true=>
   rw[if_pos rfl,h3]
   simp only[qaa,qad]
   refine ⟨!c,rfl, ?_⟩
   simp only[Bool.not_eq_true',h4]
   exact ⟨fun h=>⟨h0,h2.1 rfl,h⟩,fun h=>h.2.2⟩
  |false=>
   rw[if_neg (by simp),qaa]
   refine ⟨false,rfl, ?_⟩
   simp only[Bool.false_eq_true,false_iff]
   intro h
   have:=h2.2 h.2.1
   cases this
 ·rw[if_neg (by simpa using h0),qaa]
  exact ⟨false,rfl,by simp[h0]⟩
theorem qiC (N:Nat) {l:List PlantElement} {r:List Visit} (hN:r.length+l.length+200≤N) (hl:l.length≤1000000) (hr:r.length≤9223372036854775807) (hnm:l.length≤96→∀x∈l,x.name.length<N∧x.name.length≤9223372036854775807):∃b,zbZ N l r=some b∧(b=true↔RtP l r):=by
 unfold zbZ
 rw[qad]
 by_cases h0:vErr l=0
 case neg=>
  have h:qh1 N l r (IntKind.wrap .i64 ((r.length:Int) - 1))=some true:=by
   unfold qh1
   rw[qds N (by omega) hnm,qaa,if_pos (by simpa using h0)]
  rw[h,qaa,if_pos rfl]
  exact ⟨false,rfl,by simp[RtP,h0]⟩
 by_cases h2:r.length<2
 ·have h:qh1 N l r (IntKind.wrap .i64 ((r.length:Int) - 1))=some true:=by
   unfold qh1
   rw[qds N (by omega) hnm,qaa,if_neg (by simpa using h0),if_pos (dpos (by rw[w64 (by omega) (by omega)];omega))]
  rw[h,qaa,if_pos rfl]
  refine ⟨false,rfl, ?_⟩
  simp only[Bool.false_eq_true,false_iff]
  intro hw
  have:=hw.2.1.two
  omega
 have hw:IntKind.wrap .i64 ((r.length:Int) - 1)=((r.length - 1:Nat):Int):=by rw[w64 (by omega) (by omega)];omega
 rw[hw]
 have h0':=qap (xs:=r) (i:=0) (by omega)
 have hz:=qap (xs:=r) (i:=r.length - 1) (by omega)
 generalize hv0:r[0]'(by omega)=v at h0'
 generalize hvz:r[r.length - 1]'(by omega)=w at hz
 have g0:getI r 0=some v:=qae h0'
 have gz:getI r ((r.length - 1:Nat):Int)=some w:=qae hz
 have st':∀{x},r[0]? =some x→x=v:=fun hx=>by rw[h0'] at hx;cases hx;rfl
 have en':∀{x},r[r.length - 1]? =some x→x=w:=fun hx=>by rw[hz] at hx;cases hx;rfl
 have c0:∃b,qh1 N l r ((r.length - 1:Nat):Int)=some b∧(b=false↔trk l v.element∧trk l w.element∧v.in_= -1∧w.out= -1):=by
  unfold qh1
  rw[qds N (by omega) hnm,qaa,if_neg (by simpa using h0),if_neg (dneg (by omega))]
  simp only[g0,gz,qaa,qAW]
  exact qa5 qju (qa5 qju (qa5 qg8 ⟨_,rfl,qg8⟩))
 obtain ⟨b0,p0,q0⟩:=c0
 rw[p0,qaa]
 cases b0 with
 |true=>
  rw[if_pos rfl]
  refine ⟨false,rfl, ?_⟩
  simp only[Bool.false_eq_true,false_iff]
  intro hh
  have a:=hh.2.1.st v h0'
  have b:=hh.2.1.en w hz
  have:=q0.2 ⟨a.1,b.1,a.2.1,b.2⟩
  cases this
 |false=>
  rw[if_neg (by simp)]
  have q0:=q0.1 rfl
  let nx:Nat→Visit:=fun i=>r.getD (i+1) (Visit.mk 0 0 0)
  let good:Nat→Visit→Prop:=fun i y=>(0≤y.element∧y.element<l.length∧y.element∉elems (r.take i))∧(i+1<r.length→y.out∈eI l y.element∧(nx i).in_=y.out∧(nx i).element=nbr l y.element y.out)∧(0<i→i+1<r.length→y.out∈thr l y.element y.in_)
  have hloop:=qau (l:=r) (fun i y=> @decide (¬good i y) (Classical.propDecidable _)) (fun _ _=>false) (fun m i=>qh2 N l r ((r.length - 1:Nat):Int) m i) (fun m=>by
   show qh2 N l r _ (m+1) _=_
   rw[qh2,if_neg (lneg (by omega))]) (fun m i y hy=>by
   show qh2 N l r _ (m+1) _=_
   have hlt:=(List.getElem?_eq_some_iff.1 hy).1
   rw[qh2,if_pos (lpos (by omega))]
   have hte:=qdV l y.element y.in_
   have hee:=qd1 l y.element
   have d2:∃b,quZ N l r i=some b∧(b=false↔0≤y.element∧y.element<l.length∧y.element∉elems (r.take i)):=by
    unfold quZ
    simp only[qae hy,qaa]
    rw[qbF (by omega),qaa,qcw N (by rw[List.length_take];omega) (by rw[List.length_take];omega),qaa]
    refine qa5 qFq (qa5 (p:=y.element<l.length) (by simp) ⟨_,rfl,by simp⟩)
   have d3:∃b,qu0 N l r ((r.length - 1:Nat):Int) i=some b∧(b=false↔(i+1<r.length→y.out∈eI l y.element∧(nx i).in_=y.out∧(nx i).element=nbr l y.element y.out)):=by
    unfold qu0
    by_cases hh:i+1<r.length
    ·have hx:=qap hh
     have hgd:nx i=r[i+1]:=by show r.getD (i+1) (Visit.mk 0 0 0)=_;simp[List.getD,hx]
     rw[if_pos (dpos (by omega)),w64s (by omega)]
     simp only[qae hy,qae hx,qaa,qcB]
     rw[qoR N (by omega) (by omega),qdR N (by omega) (by omega)]
     simp only[qaa]
     obtain ⟨b,k1,k2⟩:=qa5 (a:= !(eI l y.element).contains y.out) qon (qa5 (a:=r[i+1].in_ !=y.out) qg8 (x:=some (r[i+1].element !=nbr l y.element y.out)) ⟨_,rfl,qg8⟩)
     exact ⟨b,k1,by rw[k2,hgd];simp[hh]⟩
    ·rw[if_neg (dneg (by omega))]
     exact ⟨false,rfl,by simp[hh]⟩
   have d4:∃b,qu1 N l r ((r.length - 1:Nat):Int) i=some b∧(b=false↔(0<i→i+1<r.length→y.out∈thr l y.element y.in_)):=by
    unfold qu1
    by_cases hi:0<i
    ·rw[if_pos (dpos (by omega))]
     by_cases hh:i+1<r.length
     ·rw[if_pos (dpos (by omega))]
      simp only[qae hy,qaa]
      rw[qiI N (by omega),qaa,qoR N (by omega) (by omega),qaa]
      exact ⟨_,rfl,by rw[qon];simp[hi,hh]⟩
     ·rw[if_neg (dneg (by omega))]
      exact ⟨false,rfl,by simp[hh]⟩
    ·rw[if_neg (dneg (by omega))]
     exact ⟨false,rfl,by simp[hi]⟩
   obtain ⟨b2,r2,s2⟩:=d2
   obtain ⟨b3,r3,s3⟩:=d3
   obtain ⟨b4,r4,s4⟩:=d4
   rw[r2,qaa]
   cases b2 with
   |true=>
    have hb:¬good i y:=fun hh=>by have:=s2.2 hh.1;cases this
    rw[if_pos rfl, @decide_eq_true _ (Classical.propDecidable _) hb,if_pos rfl]
   |false=>
    rw[if_neg (by simp),r3,qaa]
    cases b3 with
    |true=>
     have hb:¬good i y:=fun hh=>by have:=s3.2 hh.2.1;cases this
     rw[if_pos rfl, @decide_eq_true _ (Classical.propDecidable _) hb,if_pos rfl]
    |false=>
     rw[if_neg (by simp),r4,qaa]
     cases b4 with
     |true=>
      have hb:¬good i y:=fun hh=>by have:=s4.2 hh.2.2;cases this
      rw[if_pos rfl, @decide_eq_true _ (Classical.propDecidable _) hb,if_pos rfl]
     |false=>
      have hb:¬¬good i y:=fun hh=>hh ⟨s2.1 rfl,s3.1 rfl,s4.1 rfl⟩
      rw[if_neg (by simp), @decide_eq_false _ (Classical.propDecidable _) hb,if_neg (by simp),qad,w64s (by omega)]) r.length N 0 (by omega) (by omega)
  simp only[Int.natCast_zero,List.drop_zero] at hloop
  rw[hloop,qaa]
  have hiff:RtP l r↔∀(j:Nat) (y:Visit),r[j]? =some y→good j y:=by
   constructor
   ·rintro ⟨_,hw,hd⟩ j y hj
    have hlt:=(List.getElem?_eq_some_iff.1 hj).1
    refine ⟨?_,fun hh=> ?_,fun h1 h2=>hw.mid j y h1 h2 hj⟩
    ·have hin:0≤y.element∧y.element<l.length:=by
      cases j with
      |zero=>
       obtain ⟨a,x,hx,_⟩:=(hw.st y hj).1
       have:=(List.getElem?_eq_some_iff.1 hx).1
       omega
      |succ j=>
       have:=qd2 (hw.ins (by omega) hj)
       exact ⟨this.1,this.2.1⟩
     refine ⟨hin.1,hin.2,fun hm=> ?_⟩
     unfold elems at hm hd
     obtain ⟨z,hz,hze⟩:=List.mem_map.1 hm
     obtain ⟨i,hi⟩:=List.getElem?_of_mem hz
     rw[List.getElem?_take] at hi
     split at hi
     ·rename_i hij
      obtain ⟨hil,hi⟩:=List.getElem?_eq_some_iff.1 hi
      obtain ⟨_,hj⟩:=List.getElem?_eq_some_iff.1 hj
      have:=List.pairwise_iff_getElem.1 hd i j (by simpa using hil) (by simpa using hlt) hij
      rw[List.getElem_map,List.getElem_map,hi,hj] at this
      exact this hze
     ·cases hi
    ·have hx:=qap hh
     have hgd:nx j=r[j+1]:=by show r.getD (j+1) (Visit.mk 0 0 0)=_;simp[List.getD,hx]
     rw[hgd]
     obtain ⟨a,b,c⟩:=hw.step j y _ hj hx
     exact ⟨hw.outs hh hj,a,c⟩
   ·intro hh
    refine ⟨h0,⟨by omega,fun x hx=> ?_,fun x hx=> ?_,fun i x y hx hy=> ?_,fun i x hi hi2 hx=>(hh i x hx).2.2 hi hi2⟩, ?_⟩
    ·have e:=st' hx
     have:=(hh 0 x hx).2.1 (by omega)
     rw[e] at this⊢
     exact ⟨q0.1,q0.2.2.1,this.1⟩
    ·rw[en' hx];exact ⟨q0.2.1,q0.2.2.2⟩
    ·have hlt:=(List.getElem?_eq_some_iff.1 hy).1
     have:=(hh i x hx).2.1 hlt
     have hgd:nx i=y:=by show r.getD (i+1) (Visit.mk 0 0 0)=_;simp[List.getD,hy]
     rw[hgd] at this
     exact ⟨this.2.1,(hh (i+1) y hy).1.1,this.2.2⟩
    ·unfold elems
     refine List.pairwise_iff_getElem.2 fun i j hi hj hij=> ?_
     rw[List.getElem_map,List.getElem_map]
     intro he
     have hjr:j<r.length:=by simpa using hj
     have hir:i<r.length:=by simpa using hi
     refine (hh j r[j] (qap hjr)).1.2.2 ?_
     rw[←he]
     unfold elems
     refine List.mem_map.2 ⟨r[i],List.mem_of_getElem? (i:=i) ?_,rfl⟩
     rw[List.getElem?_take,if_pos hij,qap hir]
  have hres:=qbX (p:=fun i y=> @decide (¬good i y) (Classical.propDecidable _)) (out:=fun _ _=>false) (l:=r) (i:=0)
  cases hr2:res (fun i y=> @decide (¬good i y) (Classical.propDecidable _)) (fun _ _=>false) 0 r with
  |inl u=>
   refine ⟨true,rfl, ?_⟩
   simp only[true_iff]
   refine hiff.2 fun j y hj=> ?_
   have:=(hres.1 hr2) j y hj
   rw[Nat.zero_add] at this
   exact Classical.not_not.1 (@of_decide_eq_false _ (Classical.propDecidable _) this)
  |inr b=>
   have hbf:b=false:=by
    have key:∀(e:List Visit) (i:Nat) (b:Bool),res (fun i y=> @decide (¬good i y) (Classical.propDecidable _)) (fun _ _=>false) i e= .inr b→b=false:=by
     intro e
     induction e with
     |nil=>intro i b h;cases h
     |cons y e ih=>
      intro i b h
      rw[res] at h
      split at h
      ·cases h;rfl
      ·exact ih _ _ h
    exact key _ _ _ hr2
   subst hbf
   refine ⟨false,rfl, ?_⟩
   simp only[Bool.false_eq_true,false_iff]
   intro hw
   have:=hres.2 fun j y hj=>by
    rw[Nat.zero_add]
    exact @decide_eq_false _ (Classical.propDecidable _) (fun hh=>hh (hiff.1 hw j y hj))
   rw[this] at hr2;cases hr2
open Go.AM
def qst (v1 e1 n1 v2 e2 n2:Int):Prop:=v1<v2∨(v1=v2∧(e1<e2∨(e1=e2∧n1<n2)))
instance (v1 e1 n1 v2 e2 n2:Int):Decidable (qst v1 e1 n1 v2 e2 n2):=by unfold qst;infer_instance
def qF7 (l:List PlantElement) (e n:Int):List Int:=if n<0 then eI l e else thr l e n
def Bst (l:List PlantElement) (g:Int→Int→Option Int) (e:Int) (o:List Int) (out:Int):Prop:=out∈o∧∃v,g (nbr l e out) out=some v∧∀m∈o,∀w,g (nbr l e m) m=some w→¬qst w (nbr l e m) m v (nbr l e out) out
theorem Bst.uniq {l:List PlantElement} {g:Int→Int→Option Int} {e:Int} {o:List Int} {a b:Int} (h:Bst l g e o a) (k:Bst l g e o b):a=b:=by
 obtain ⟨h1,v,h2,h3⟩:=h
 obtain ⟨k1,w,k2,k3⟩:=k
 have p:=h3 b k1 w k2
 have q:=k3 a h1 v h2
 unfold qst at p q
 omega
structure Pth (l:List PlantElement) (g:Int→Int→Option Int) (fr:Int) (r:List Visit):Prop where
 best:∀(i:Nat) v,i+1<r.length→r[i]? =some v→Bst l g v.element (qF7 l v.element v.in_) v.out
 nz:∀(i:Nat) v,0<i→i+1<r.length→r[i]? =some v→g v.element v.in_≠some 0
 ne:1≤r.length
 st:∀v,r[0]? =some v→v.element=fr∧v.in_= -1
 step:∀(i:Nat) v w,r[i]? =some v→r[i+1]? =some w→w.in_=v.out∧0≤w.element∧w.element=nbr l v.element v.out∧v.out∈eI l v.element
 mid:∀(i:Nat) v,0<i→i+1<r.length→r[i]? =some v→v.out∈thr l v.element v.in_
theorem Pth.add {l:List PlantElement} {g:Int→Int→Option Int} {fr:Int} {r:List Visit} {v:Visit} {out:Int} (h:Pth l g fr r) (hv:r[r.length - 1]? =some v) (h0:0≤nbr l v.element out) (ho:out∈eI l v.element) (ht:1<r.length→out∈thr l v.element v.in_) (hb:Bst l g v.element (qF7 l v.element v.in_) out) (hz:1<r.length→g v.element v.in_≠some 0):
  Pth l g fr (r.set (r.length - 1) (Visit.mk v.element v.in_ out)++[Visit.mk (nbr l v.element out) out (-1)]):=by
 have hne:=h.ne
 have hlen:(r.set (r.length - 1) (Visit.mk v.element v.in_ out)).length=r.length:=List.length_set
 have get:∀(i:Nat) x,(r.set (r.length - 1) (Visit.mk v.element v.in_ out)++[Visit.mk (nbr l v.element out) out (-1)])[i]? =some x→(i+1<r.length∧r[i]? =some x)∨(i+1=r.length∧x=Visit.mk v.element v.in_ out)∨(i=r.length∧x=Visit.mk (nbr l v.element out) out (-1)):=by
  intro i x hx
  by_cases hi:i<r.length
  ·rw[List.getElem?_append_left (by omega),List.getElem?_set] at hx
   by_cases he:r.length - 1=i
   ·rw[if_pos he,if_pos (by omega)] at hx
    exact .inr (.inl ⟨by omega,by cases hx;rfl⟩)
   ·rw[if_neg he] at hx
    exact .inl ⟨by omega,hx⟩
  ·rw[List.getElem?_append_right (by omega)] at hx
   have:=(List.getElem?_eq_some_iff.1 hx).1
   simp at this
   have hi2:i=r.length:=by omega
   subst hi2
   rw[hlen] at hx
   simp at hx
   exact .inr (.inr ⟨rfl,hx.symm⟩)
 refine ⟨fun i x hi2 hx=> ?_,fun i x hi hi2 hx=> ?_,by simp,fun x hx=> ?_,fun i x y hx hy=> ?_,fun i x hi hi2 hx=> ?_⟩
 ·simp only[List.length_append,List.length_set,List.length_cons,List.length_nil] at hi2
  rcases get i x hx with ⟨a,b⟩|⟨a,rfl⟩|⟨a,_⟩
  ·exact h.best i x a b
  ·exact hb
  ·omega
 ·simp only[List.length_append,List.length_set,List.length_cons,List.length_nil] at hi2
  rcases get i x hx with ⟨a,b⟩|⟨a,rfl⟩|⟨a,_⟩
  ·exact h.nz i x hi a b
  ·exact hz (by omega)
  ·omega
 ·rcases get 0 x hx with ⟨_,a⟩|⟨a,rfl⟩|⟨a,_⟩
  ·exact h.st x a
  ·have:r.length - 1=0:=by omega
   rw[this] at hv
   have:=h.st v hv
   exact this
  ·omega
 ·rcases get i x hx with ⟨a,b⟩|⟨a,rfl⟩|⟨a,_⟩
  ·rcases get (i+1) y hy with ⟨c,dd⟩|⟨c,rfl⟩|⟨c,_⟩
   ·exact h.step i x y b dd
   ·have hv':r[i+1]? =some v:=by rw[←hv];congr 1;omega
    exact h.step i x v b hv'
   ·omega
  ·rcases get (i+1) y hy with ⟨c,_⟩|⟨c,_⟩|⟨c,rfl⟩
   ·omega
   ·omega
   ·exact ⟨rfl,h0,rfl,ho⟩
  ·rcases get (i+1) y hy with ⟨c,_⟩|⟨c,_⟩|⟨c,_⟩<;>omega
 ·simp only[List.length_append,List.length_set,List.length_cons,List.length_nil] at hi2
  rcases get i x hx with ⟨a,b⟩|⟨a,rfl⟩|⟨a,_⟩
  ·exact h.mid i x hi (by omega) b
  ·exact ht (by omega)
  ·omega
theorem Pth.same {l:List PlantElement} {g:Int→Int→Option Int} {fr:Int} {r1 r2:List Visit} (h1:Pth l g fr r1) (h2:Pth l g fr r2) (two:2≤r2.length) (hz:∀z,r2[r2.length - 1]? =some z→g z.element z.in_=some 0):
  ∀i,i<r1.length→i<r2.length∧∀v1 v2,r1[i]? =some v1→r2[i]? =some v2→v1.element=v2.element∧v1.in_=v2.in_∧(i+1<r1.length→i+1<r2.length∧v1.out=v2.out):=by
 have nxt:∀(i:Nat) v1 v2,r1[i]? =some v1→r2[i]? =some v2→v1.element=v2.element→v1.in_=v2.in_→i+1<r1.length→i+1<r2.length∧v1.out=v2.out:=by
  intro i v1 v2 a b e1 e2 hi
  have hi2:=(List.getElem?_eq_some_iff.1 b).1
  have hlt:i+1<r2.length:=by
   by_cases hh:i+1=r2.length
   ·have e:i=r2.length - 1:=by omega
    have b':=b
    rw[e] at b'
    have:=hz v2 b'
    have hne:=h1.nz i v1 (by omega) hi a
    rw[e1,e2] at hne
    exact absurd this hne
   ·omega
  refine ⟨hlt, ?_⟩
  have p:=h1.best i v1 hi a
  have q:=h2.best i v2 hlt b
  rw[e1,e2] at p
  exact p.uniq q
 intro i
 induction i with
 |zero=>
  intro hi
  refine ⟨by omega,fun v1 v2 a b=> ?_⟩
  obtain ⟨p1,p2⟩:=h1.st v1 a
  obtain ⟨q1,q2⟩:=h2.st v2 b
  have e1:v1.element=v2.element:=by rw[p1,q1]
  have e2:v1.in_=v2.in_:=by rw[p2,q2]
  exact ⟨e1,e2,fun hh=>nxt 0 v1 v2 a b e1 e2 hh⟩
 |succ i ih=>
  intro hi
  obtain ⟨g1,g2⟩:=ih (by omega)
  have a:=qap (xs:=r1) (i:=i) (by omega)
  have b:=qap (xs:=r2) (i:=i) g1
  obtain ⟨e1,e2,e3⟩:=g2 _ _ a b
  obtain ⟨e4,e5⟩:=e3 hi
  refine ⟨e4,fun v1 v2 c dd=> ?_⟩
  obtain ⟨p1,p2,p3,p4⟩:=h1.step i _ v1 a c
  obtain ⟨q1,q2,q3,q4⟩:=h2.step i _ v2 b dd
  have f1:v1.element=v2.element:=by rw[p3,q3,e1,e5]
  have f2:v1.in_=v2.in_:=by rw[p1,q1,e5]
  exact ⟨f1,f2,fun hh=>nxt (i+1) v1 v2 c dd f1 f2 hh⟩
theorem Pth.once {l:List PlantElement} {g:Int→Int→Option Int} {fr:Int} {r1 r2:List Visit} (h1:Pth l g fr r1) (h2:Pth l g fr r2) (two:2≤r2.length) (hz:∀z,r2[r2.length - 1]? =some z→g z.element z.in_=some 0) (hd:(elems r2).Nodup):(elems r1).Nodup:=by
 have s1:=h1.same h2 two hz
 have:elems r1=(elems r2).take r1.length:=by
  refine List.ext_getElem? fun i=> ?_
  unfold elems
  rw[List.getElem?_take]
  by_cases hi:i<r1.length
  ·have a:=qap (xs:=r1) (i:=i) hi
   have b:=qap (xs:=r2) (i:=i) (s1 i hi).1
   rw[if_pos hi,List.getElem?_map,List.getElem?_map,a,b]
   simp only[Option.map_some]
   rw[((s1 i hi).2 _ _ a b).1]
  ·rw[if_neg hi,List.getElem?_map,List.getElem?_eq_none (by omega)]
   rfl
 rw[this]
 exact hd.sublist (List.take_sublist _ _)
open Go.AM
def trks (l:List PlantElement):Nat→List PlantElement→List Int
 |_,[]=>[]
 |i,x::xs=>if x.kind=1 then (i:Int)::trks l (i+1) xs else trks l (i+1) xs
theorem qmp (l:List PlantElement):∀(q:List PlantElement) (i:Nat),(trks l i q).length≤q.length
 |[],i=>by simp[trks]
 |x::q,i=>by
  rw[trks]
  have:=qmp l q (i+1)
  split<;>simp<;>omega
theorem qgN {l:List PlantElement} {a:Int}:∀{q:List PlantElement} {i:Nat},a∈trks l i q→∃(j:Nat) (x:PlantElement),a=((i+j:Nat):Int)∧q[j]? =some x∧x.kind=1
 |[],i,h=>by simp[trks] at h
 |x::q,i,h=>by
  rw[trks] at h
  split at h
  ·rename_i hk
   rcases List.mem_cons.1 h with rfl|h
   ·exact ⟨0,x,by simp,rfl,hk⟩
   ·obtain ⟨j,y,h1,h2,h3⟩:=qgN h
    exact ⟨j+1,y,by rw[h1];omega,by simpa using h2,h3⟩
  ·obtain ⟨j,y,h1,h2,h3⟩:=qgN h
   exact ⟨j+1,y,by rw[h1];omega,by simpa using h2,h3⟩
theorem qcW (N:Nat) {l:List PlantElement} (hl:l.length≤1000000):∀(k n i:Nat) (q:List Int),k<n→i+k=l.length→q.length≤i→qm5 N l n q i=some (q++trks l i (l.drop i))
 |k,0,i,q,hn,_,_=>by omega
 |0,n+1,i,q,hn,hi,hq=>by
  obtain rfl:i=l.length:=by omega
  rw[qm5,if_neg (dneg (by omega)),List.drop_length,trks,List.append_nil]
 |k+1,n+1,i,q,hn,hi,hq=>by
  have hlt:i<l.length:=by omega
  have ha:=qap hlt
  rw[qm5,if_pos (dpos (by omega))]
  unfold qA9
  rw[qae ha,qaa,qbe ha,trks]
  by_cases hk:l[i].kind=1
  ·rw[if_pos (by simpa using hk),if_pos hk,qaF (by simp;omega),qaa,qaa,qad,w64s (by omega),qcW N hl k n (i+1) _ (by omega) (by omega) (by simp;omega)]
   simp
  ·rw[if_neg (by simpa using hk),if_neg hk,qaa,qad,w64s (by omega),qcW N hl k n (i+1) _ (by omega) (by omega) (by omega)]
theorem qpo (N:Nat) {l:List PlantElement} (hl:l.length≤1000000) (hN:l.length<N):zaN N l=some (trks l 0 l):=by
 unfold zaN
 have h:=qcW N hl l.length N 0 [] hN (by omega) (by simp)
 simp only[Int.natCast_zero,List.drop_zero,List.nil_append] at h
 rw[h,qaa]
open Go.AM
theorem qnD {x:PlantElement} (h:qag x≠[]):2≤(qag x).length:=by
 unfold qag at*
 split
 ·simp
 ·split
  ·simp
  ·rename_i h1 h2
   rw[if_neg h1,if_neg h2] at h;exact absurd rfl h
theorem qA1 {l:List PlantElement} (hP:PlOk l) {i n:Int} (h:n∈eI l i):0<(thr l i n).length:=by
 obtain ⟨h0,h1,x,hx,hn⟩:=qd2 h
 obtain ⟨j,rfl⟩:=Int.eq_ofNat_of_zero_le h0
 rw[Int.toNat_natCast] at hx
 have h2:=qnD (qaE (hP.snd x (List.mem_of_getElem? hx))).2.2.1
 unfold thr thrE
 rw[qcM hx,if_pos (by simpa using hn)]
 split
 ·rw[List.length_tail];omega
 ·rw[List.length_take];omega
structure WkI (l:List PlantElement) (w:List Visit) (v:Visit):Prop where
 ne:1≤w.length
 last:w[w.length - 1]? =some v
 st:∀v,w[0]? =some v→trk l v.element∧v.in_= -1∧v.out∈eI l v.element
 out:v.out∈eI l v.element
 step:∀(i:Nat) v w',w[i]? =some v→w[i+1]? =some w'→w'.in_=v.out∧0≤w'.element∧w'.element=nbr l v.element v.out
 mid:∀(i:Nat) v,0<i→w[i]? =some v→v.out∈thr l v.element v.in_
theorem qfh {α:Type} {w:List α} {y:α} {i:Nat} {x:α} (h:(w++[y])[i]? =some x):(i<w.length∧w[i]? =some x)∨(i=w.length∧x=y):=by
 by_cases hi:i<w.length
 ·rw[List.getElem?_append_left hi] at h;exact .inl ⟨hi,h⟩
 ·have:=(List.getElem?_eq_some_iff.1 h).1
  simp at this
  have:i=w.length:=by omega
  subst this
  simp at h
  exact .inr ⟨rfl,h.symm⟩
theorem WkI.step' {l:List PlantElement} {w:List Visit} {v y:Visit} (h:WkI l w v) (h1:y.in_=v.out) (h0:0≤nbr l v.element v.out) (h2:y.element=nbr l v.element v.out):∀(i:Nat) a b,(w++[y])[i]? =some a→(w++[y])[i+1]? =some b→b.in_=a.out∧0≤b.element∧b.element=nbr l a.element a.out:=by
 intro i a b ha hb
 rcases qfh hb with ⟨p,q⟩|⟨p,rfl⟩
 ·rcases qfh ha with ⟨r,s⟩|⟨r,_⟩
  ·exact h.step i a b s q
  ·omega
 ·rcases qfh ha with ⟨r,s⟩|⟨r,_⟩
  ·have:=h.last
   rw[show w.length - 1=i by omega,s] at this
   cases this
   exact ⟨h1,by rw[h2];exact h0,h2⟩
  ·omega
theorem WkI.st' {l:List PlantElement} {w:List Visit} {v y:Visit} (h:WkI l w v):∀a,(w++[y])[0]? =some a→trk l a.element∧a.in_= -1∧a.out∈eI l a.element:=by
 intro a ha
 rcases qfh ha with ⟨_,q⟩|⟨p,_⟩
 ·exact h.st a q
 ·have:=h.ne;omega
theorem WkI.add {l:List PlantElement} {w:List Visit} {v:Visit} {o:Int} (h:WkI l w v) (h0:0≤nbr l v.element v.out) (ho:o∈thr l (nbr l v.element v.out) v.out):WkI l (w++[Visit.mk (nbr l v.element v.out) v.out o]) (Visit.mk (nbr l v.element v.out) v.out o) where
 ne:=by simp
 last:=by simp
 st:=h.st'
 out:=(qpm ho).2
 step:=h.step' rfl h0 rfl
 mid:=fun i a hi ha=>by
  rcases qfh ha with ⟨_,q⟩|⟨_,rfl⟩
  ·exact h.mid i a hi q
  ·exact ho
theorem WkI.fin {l:List PlantElement} {w:List Visit} {v:Visit} (h:WkI l w v) (h0:0≤nbr l v.element v.out) (ht:trk l (nbr l v.element v.out)):WayP l (w++[Visit.mk (nbr l v.element v.out) v.out (-1)]) where
 two:=by have:=h.ne;simp;omega
 st:=h.st'
 en:=fun a ha=>by simp at ha;subst ha;exact ⟨ht,rfl⟩
 step:=h.step' rfl h0 rfl
 mid:=fun i a hi hi2 ha=>by
  rcases qfh ha with ⟨_,q⟩|⟨p,_⟩
  ·exact h.mid i a hi q
  ·simp at hi2;omega
theorem qGq {l:List PlantElement} {i n:Int} (h:0≤nbr l i n):nbr l i n<l.length:=by
 rcases qeo l i n with ⟨a,_⟩|⟨j,x,a,b,_⟩
 ·omega
 ·have:=(List.getElem?_eq_some_iff.1 b).1
  omega
theorem qHI (N:Nat) (hN:4000≤N) {l:List PlantElement} (hP:PlOk l) {c:Int} {s:Maker} (hs:Mk c s) (hc:c≤1000000) {e n:Int} (h0:0≤e) (h1:e<l.length) {o:List Int} (ho:0<o.length):∃b s',quK N s l e o=some (s',b)∧Mk (c+1) s'∧(b=true→trk l e):=by
 have hll:=hP.len
 obtain ⟨j,rfl⟩:=Int.eq_ofNat_of_zero_le h0
 have hj:=qap (xs:=l) (i:=j) (by omega)
 have g0:getI o 0=some o[0]:=qae (qap (xs:=o) (i:=0) ho)
 unfold quK
 rw[qae hj,qaa]
 by_cases hk:l[j].kind=1
 ·have ht:trk l (j:Int):=⟨by omega,_,hj,hk⟩
  rw[if_pos (by simpa using hk)]
  obtain ⟨r,s',p1,p2,p3,p4⟩:=qa0 N (s:=s) (c:=c) 2 (by omega) (by omega) hs (by omega)
  rw[p1,qaa]
  by_cases hr:r=0
  ·rw[if_pos (by simpa using hr)];exact ⟨_,_,rfl,p4,fun _=>ht⟩
  ·rw[if_neg (by simpa using hr),g0,qaa,qaa,qdR N (by omega) (by omega),qaa]
   exact ⟨_,_,rfl,p4,fun _=>ht⟩
 ·rw[if_neg (by simpa using hk)]
  exact ⟨_,_,rfl,hs.le (by omega),fun h=>by cases h⟩
theorem qhT (N:Nat) (hN:4000≤N) {l:List PlantElement} (hP:PlOk l):∀(k n i:Nat) (c:Int) (s:Maker) (v:Visit) (w:List Visit),k<n→i+k=12→Mk c s→c+2*k≤1000000→WkI l w v→w.length=i+1→
  ∃s' w',(qgS N l n s v w i=some (.inl (s',w'))∨qgS N l n s v w i=some (.inr (s',w')))∧Mk (c+2*k) s'∧1≤w'.length∧w'.length≤13∧(WayP l w'∨∀v,w'[w'.length - 1]? =some v→v.out≠ -1)
 |k,0,i,c,s,v,w,hn,_,_,_,_,_=>by omega
 |k,n+1,i,c,s,v,w,hn,hi,hs,hc,hI,hl=>by
  have hll:=hP.len
  have stop:∀v',w[w.length - 1]? =some v'→v'.out≠ -1:=fun v' hv'=>by
   rw[hI.last] at hv';cases hv'
   obtain ⟨_,_,x,hx,hn⟩:=qd2 hI.out
   have:=(qaE (hP.snd x (List.mem_of_getElem? hx))).2.1 _ hn
   omega
  cases k with
  |zero=>
   rw[qgS,if_neg (dneg (by omega))]
   exact ⟨s,w, .inl rfl,hs.le (by omega),by omega,by omega, .inr stop⟩
  |succ k=>
   rw[qgS,if_pos (dpos (by omega)),qdR N (by omega) (by omega),qaa]
   by_cases h0:nbr l v.element v.out<0
   ·rw[if_pos (dpos h0)]
    exact ⟨s,w, .inl rfl,hs.le (by omega),by omega,by omega, .inr stop⟩
   ·rw[if_neg (dneg h0),qiI N (by omega),qaa]
    have h0':0≤nbr l v.element v.out:=by omega
    have hpos:=qA1 hP (qir h0').1
    have h3:=qdV l (nbr l v.element v.out) v.out
    obtain ⟨b,s1,q1,q2,q3⟩:=qHI N hN hP hs (by omega) h0' (qGq h0') (n:=v.out) hpos
    rw[q1,qaa]
    simp only[]
    cases b with
    |true=>
     rw[if_pos rfl,qaF (by simp;omega),qaa]
     exact ⟨_,_, .inr rfl,q2.le (by omega),by simp,by simp;omega, .inl (hI.fin h0' (q3 rfl))⟩
    |false=>
     rw[if_neg (by simp)]
     obtain ⟨r,s2,p1,p2,p3,p4⟩:=qa0 N (s:=s1) (c:=c+1) ((thr l (nbr l v.element v.out) v.out).length:Int) (by omega) (by omega) q2 (by omega)
     obtain ⟨r,rfl⟩:=Int.eq_ofNat_of_zero_le p2
     have hr:=qap (xs:=thr l (nbr l v.element v.out) v.out) (i:=r) (by omega)
     rw[p1,qaa]
     simp only[]
     rw[qae hr,qaa,qaa,qaF (by simp;omega),qaa,qad,w64s (by omega)]
     have hI':=hI.add h0' (List.mem_of_getElem? hr)
     obtain ⟨s',w',g1,g2,g3,g4,g5⟩:=qhT N hN hP k n (i+1) (c+1+1) s2 _ _ (by omega) (by omega) p4 (by omega) hI' (by simp;omega)
     exact ⟨s',w',g1,g2.le (by omega),g3,g4,g5⟩
theorem qA4 (N:Nat) (hN:4000≤N) {l:List PlantElement} (hP:MadeP l) {c:Int} {s:Maker} (hs:Mk c s) (hc:c≤900000):
  ∃w s',zbA N s l=some (w,s')∧Mk (c+30) s'∧1≤w.length∧w.length≤13∧(WayP l w∨∀v,w[w.length - 1]? =some v→v.out≠ -1):=by
 have hll:=hP.ok.len
 unfold zbA
 rw[qpo N (by omega) (by omega),qaa]
 have hlen:=qmp l l 0
 have hpos:0<(trks l 0 l).length:=by
  obtain ⟨x,hx,hk⟩:=hP.fst
  cases l with
  |nil=>simp at hx
  |cons y l=>
   simp at hx;subst hx
   rw[trks,if_pos hk];simp
 have htrk:∀a∈trks l 0 l,trk l a:=by
  intro a ha
  obtain ⟨j,x,h1,h2,h3⟩:=qgN ha
  rw[Nat.zero_add] at h1
  subst h1
  exact ⟨by omega,x,by simpa using h2,h3⟩
 obtain ⟨r,s1,p1,p2,p3,p4⟩:=qa0 N (s:=s) (c:=c) ((trks l 0 l).length:Int) (by omega) (by omega) hs (by omega)
 obtain ⟨r,rfl⟩:=Int.eq_ofNat_of_zero_le p2
 have hr:=qap (xs:=trks l 0 l) (i:=r) (by omega)
 have ht:=htrk _ (List.mem_of_getElem? hr)
 rw[p1,qaa]
 simp only[]
 rw[qae hr,qaa,qaa,qcB,qaa]
 generalize (trks l 0 l)[r]'(by omega)=e at*
 have hpos2:0<(eI l e).length:=by
  obtain ⟨a,x,b,cc⟩:=ht
  unfold eI
  rw[if_pos a,b]
  simp[qag,cc]
 have h3:=qd1 l e
 obtain ⟨q,s2,q1,q2,q3,q4⟩:=qa0 N (s:=s1) (c:=c+1) ((eI l e).length:Int) (by omega) (by omega) p4 (by omega)
 obtain ⟨q,rfl⟩:=Int.eq_ofNat_of_zero_le q2
 have hq:=qap (xs:=eI l e) (i:=q) (by omega)
 rw[q1,qaa]
 simp only[]
 rw[qae hq,qaa,qaa]
 have hmem:=List.mem_of_getElem? hq
 generalize (eI l e)[q]'(by omega)=o at*
 have hI:WkI l [Visit.mk e (-1) o] (Visit.mk e (-1) o):=⟨by simp,by simp,fun v hv=>by simp at hv;subst hv;exact ⟨ht,rfl,hmem⟩,hmem,fun i v w hv hw=>by simp at hw,fun i v hi hv=>by
  have:=(List.getElem?_eq_some_iff.1 hv).1
  simp at this;omega⟩
 obtain ⟨s',w',g1,g2,g3,g4,g5⟩:=qhT N hN hP.ok 12 N 0 (c+1+1) s2 _ _ (by omega) (by omega) q4 (by omega) hI rfl
 refine ⟨w',s', ?_,g2.le (by omega),g3,g4,g5⟩
 rcases g1 with g1|g1
 ·have g1:qgS N l N s2 (Visit.mk e (-1) o) [Visit.mk e (-1) o] 0=some (.inl (s',w')):=g1
  rw[g1];rfl
 ·have g1:qgS N l N s2 (Visit.mk e (-1) o) [Visit.mk e (-1) o] 0=some (.inr (s',w')):=g1
  rw[g1];rfl
theorem qrT (N:Nat) (hN:4000≤N) {l:List PlantElement} (hP:PlOk l) {w:List Visit} (hw:w.length≤3000):∃b,zbJ N l w=some b∧zbZ N l w=some b∧(b=true↔RtP l w):=by
 have hll:=hP.len
 obtain ⟨b1,p1,p2⟩:=qgv N (l:=l) (r:=w) (by omega) (by omega) (by omega)
 obtain ⟨b2,r1,r2⟩:=qiC N (l:=l) (r:=w) (by omega) (by omega) (by omega) fun _ x hx=>by
  have h1:=(qaE (hP.snd x hx)).2.2.2
  unfold pnOk at h1
  simp only[Bool.and_eq_true,decide_eq_true_eq] at h1
  omega
 have:b1=b2:=Bool.eq_iff_iff.2 (p2.trans r2.symm)
 exact ⟨b1,p1,by rw[this];exact r1,p2⟩
open Go.AM
def setE (x:PlantElement) (v:Visit):List Setting:=
 if x.kind=3 then [Setting.mk v.element 3] else if x.kind=2 then (if v.in_=x.b∨v.out=x.b then [Setting.mk v.element 1] else [Setting.mk v.element 2]) else []
def setV (l:List PlantElement) (v:Visit):List Setting:=match l[v.element.toNat]? with|some x=>setE x v|none=>[]
def qaH (l:List PlantElement) (r:List Visit):List Setting:=r.flatMap (setV l)
theorem qud (x:PlantElement) (v:Visit):(setE x v).length≤1:=by
 unfold setE
 split
 ·simp
 ·split
  ·split<;>simp
  ·simp
theorem qpd {l:List PlantElement} {v:Visit} {s:Setting} (h:s∈setV l v):s.element=v.element:=by
 unfold setV at h
 split at h
 ·unfold setE at h
  split at h
  ·simp at h;subst h;rfl
  ·split at h
   ·split at h<;>(simp at h;subst h;rfl)
   ·simp at h
 ·simp at h
theorem qgI (l:List PlantElement) (v:Visit):(setV l v).length≤1:=by
 unfold setV
 split
 ·exact qud _ _
 ·simp
theorem qdT (l:List PlantElement):∀(r:List Visit),(qaH l r).length≤r.length
 |[]=>by simp[qaH]
 |v::r=>by
  have:=qdT l r
  have h1:=qgI l v
  unfold qaH at*
  rw[List.flatMap_cons,List.length_append,List.length_cons]
  omega
theorem qHC (N:Nat) {l:List PlantElement} {r:List Visit} {i:Nat} {v:Visit} (hv:r[i]? =some v) (h0:0≤v.element) (h1:v.element<l.length) {acc:List Setting} (ha:acc.length≤1000000):quu N l acc r i=some (acc++setV l v):=by
 obtain ⟨j,hj⟩:=Int.eq_ofNat_of_zero_le h0
 have hjl:=qap (xs:=l) (i:=j) (by omega)
 unfold quu setV
 have hg:getI l v.element=some (l[j]'(by omega)):=by rw[hj];exact qae hjl
 have hg2:l[v.element.toNat]? =some (l[j]'(by omega)):=by rw[hj,Int.toNat_natCast];exact hjl
 rw[qae hv,qaa,hg,qaa,qad,hg2]
 generalize l[j]'(by omega)=x at*
 simp only[]
 unfold setE
 by_cases h3:x.kind=3
 ·rw[if_pos (by simpa using h3),if_pos h3,qaF (by simp;omega),qaa]
 ·rw[if_neg (by simpa using h3),if_neg h3]
  by_cases h2:x.kind=2
  ·have hs2:qm4 N v x=some (decide (v.in_=x.b∨v.out=x.b)):=by
    unfold qm4
    rw[if_pos (by simpa using h2)]
    by_cases a:v.in_=x.b
    ·rw[if_pos (by simpa using a)];simp[a]
    ·rw[if_neg (by simpa using a),qad]
     congr 1
     exact Bool.eq_iff_iff.2 (by simp[a])
   rw[hs2,qaa,if_pos h2]
   by_cases hb:v.in_=x.b∨v.out=x.b
   ·rw[if_pos (by simpa using hb),if_pos hb,qaF (by simp;omega),qaa]
   ·rw[if_neg (by simpa using hb),if_neg hb,qad,if_pos (by simpa using h2),qaF (by simp;omega),qaa]
  ·have hs2:qm4 N v x=some false:=by
    unfold qm4
    rw[if_neg (by simpa using h2)]
   rw[hs2,qaa,if_neg (by simp),qad,if_neg (by simpa using h2),if_neg h2,List.append_nil]
theorem qhL (N:Nat) {l:List PlantElement} {r:List Visit} (hr:∀v∈r,0≤v.element∧v.element<l.length) (hl:r.length≤100000):∀(k n i:Nat) (acc:List Setting),k<n→i+k=r.length→acc.length≤i→qhX N l r r.length n acc i=some (acc++qaH l (r.drop i))
 |k,0,i,acc,hn,_,_=>by omega
 |0,n+1,i,acc,hn,hi,ha=>by
  obtain rfl:i=r.length:=by omega
  rw[qhX,if_neg (dneg (by omega)),List.drop_length]
  simp[qaH]
 |k+1,n+1,i,acc,hn,hi,ha=>by
  have hlt:i<r.length:=by omega
  have hv:=qap hlt
  obtain ⟨h0,h1⟩:=hr _ (List.mem_of_getElem? hv)
  have h2:=qgI l r[i]
  rw[qhX,if_pos (dpos (by omega)),qHC N hv h0 h1 (by omega),qaa,w64s (by omega),qhL N hr hl k n (i+1) _ (by omega) (by omega) (by simp;omega),qbe hv]
  unfold qaH
  rw[List.flatMap_cons,List.append_assoc]
theorem WayP.ok {l:List PlantElement} {r:List Visit} (h:WayP l r):∀v∈r,0≤v.element∧v.element<l.length:=by
 intro v hv
 obtain ⟨i,hi⟩:=List.getElem?_of_mem hv
 have hlt:=(List.getElem?_eq_some_iff.1 hi).1
 have two:=h.two
 by_cases h0:i+1<r.length
 ·have:=qd2 (h.outs h0 hi);exact ⟨this.1,this.2.1⟩
 ·have:=qd2 (h.ins (by omega) hi);exact ⟨this.1,this.2.1⟩
instance instSet:Inhabited Setting:=⟨Setting.mk 0 0⟩
noncomputable def qbM (q:List Setting):List Setting:= @srtL Setting instSet (fun (a b:Setting)=>cmpI a.element b.element) q
theorem qe3 (N:Nat) (hN:4000≤N) {l:List PlantElement} (hP:PlOk l) {r:List Visit} (hr:RtP l r) (hl:r.length≤3000):zaM N l r=some (qbM (qaH l r),0):=by
 obtain ⟨b,h1,_,h3⟩:=qrT N hN hP (w:=r) hl
 unfold zaM
 rw[h1,qaa,h3.2 hr,if_neg (by simp)]
 have h:=qhL N (l:=l) (r:=r) hr.2.1.ok (by omega) r.length N 0 [] (by omega) (by omega) (by simp)
 have h:qhX N l r r.length N [] 0=some (qaH l r):=h
 have:=qdT l r
 rw[h,qaa]
 unfold srtI
 rw[if_pos (by omega),qaa]
 rfl
theorem qcH {q:List Setting} {x:Setting}:x∈qbM q↔x∈q:=(@qbN Setting instSet (fun (a b:Setting)=>cmpI a.element b.element) (qbE Setting.element) q).mem_iff
theorem qfI (q:List Setting):(qbM q).length=q.length:=(@qbN Setting instSet (fun (a b:Setting)=>cmpI a.element b.element) (qbE Setting.element) q).length_eq
theorem qcu {q:List Setting} (h:(q.map Setting.element).Nodup):(qbM q).Pairwise fun a b=>a.element<b.element:=by
 have h1:(qbM q).Pairwise fun a b=>a.element≤b.element:= @qcV Setting instSet Setting.element q
 have hp:(qbM q).Perm q:= @qbN Setting instSet (fun (a b:Setting)=>cmpI a.element b.element) (qbE Setting.element) q
 have h2:((qbM q).map Setting.element).Nodup:=(hp.map Setting.element).nodup_iff.2 h
 rw[List.nodup_iff_pairwise_ne,List.pairwise_map] at h2
 exact (h1.and h2).imp fun ⟨a,b⟩=>by omega
theorem qcE:∀{a b:List Setting},a.Pairwise (fun x y=>x.element<y.element)→b.Pairwise (fun x y=>x.element<y.element)→(∀x,x∈a↔x∈b)→a=b
 |[],[],_,_,_=>rfl
 |[],y::b,_,_,h=>by have:=(h y).2 List.mem_cons_self;cases this
 |x::a,[],_,_,h=>by have:=(h x).1 List.mem_cons_self;cases this
 |x::a,y::b,h1,h2,h=>by
  rw[List.pairwise_cons] at h1 h2
  have hxy:x=y:=by
   rcases List.mem_cons.1 ((h x).1 List.mem_cons_self) with e|e
   ·exact e
   ·rcases List.mem_cons.1 ((h y).2 List.mem_cons_self) with f|f
    ·exact f.symm
    ·have:=h2.1 _ e;have:=h1.1 _ f;omega
  subst hxy
  congr 1
  refine qcE h1.2 h2.2 fun z=>⟨fun hz=> ?_,fun hz=> ?_⟩
  ·rcases List.mem_cons.1 ((h z).1 (List.mem_cons_of_mem _ hz)) with e|e
   ·have:=h1.1 _ hz;rw[e] at this;omega
   ·exact e
  ·rcases List.mem_cons.1 ((h z).2 (List.mem_cons_of_mem _ hz)) with e|e
   ·have:=h2.1 _ hz;rw[e] at this;omega
   ·exact e
theorem qbZ (l:List PlantElement):∀(r:List Visit),((qaH l r).map Setting.element).Sublist (elems r)
 |[]=>by simp[qaH,elems]
 |v::r=>by
  have ih:=qbZ l r
  have h1:=qgI l v
  have h2:=fun s=>qpd (l:=l) (v:=v) (s:=s)
  unfold qaH elems at*
  rw[List.flatMap_cons,List.map_append,List.map_cons]
  generalize setV l v=q at*
  match q,h1 with
  |[],_=>exact (List.Sublist.cons _ ih)
  |[s],_=>
   have:=h2 s (by simp)
   simp only[List.map_cons,List.map_nil,List.cons_append,List.nil_append]
   rw[this]
   exact List.Sublist.cons_cons _ ih
def swV (v:Visit):Visit:=Visit.mk v.element v.out v.in_
theorem qHB (l:List PlantElement) (v:Visit):setV l (swV v)=setV l v:=by
 unfold setV
 show (match l[v.element.toNat]? with|some x=>setE x (swV v)|none=>[])=_
 cases l[v.element.toNat]? with
 |none=>rfl
 |some x=>
  show setE x (swV v)=setE x v
  unfold setE swV
  simp only[Or.comm]
theorem quj (N:Nat) {a:List Setting} (hN:a.length<N) (hl:a.length≤1000000):zaD N a a=some true:=by
 have key:∀(k n i:Nat),k<n→i+k=a.length→qiR N a a n i=some (.inl ()):=by
  intro k
  induction k with
  |zero=>
   intro n i hn hi
   obtain ⟨n,rfl⟩:∃m,n=m+1:=⟨n - 1,by omega⟩
   rw[qiR,if_neg (dneg (by omega))]
  |succ k ih=>
   intro n i hn hi
   obtain ⟨n,rfl⟩:∃m,n=m+1:=⟨n - 1,by omega⟩
   have hv:=qap (xs:=a) (i:=i) (by omega)
   rw[qiR,if_pos (dpos (by omega)),qae hv,qaa,qaa,if_neg (by simp),qad,w64s (by omega)]
   exact ih n (i+1) (by omega) (by omega)
 have h:=key a.length N 0 hN (by omega)
 have h:qiR N a a N 0=some (.inl ()):=h
 unfold zaD zaH
 rw[if_neg (by simp),h]
 rfl
open Go.AM
theorem WayP.inner {l:List PlantElement} {r:List Visit} (h:WayP l r) {i:Nat} {v:Visit} {x:PlantElement} (hv:r[i]? =some v) (hx:l[v.element.toNat]? =some x) (hk:x.kind≠1):v.out∈thrE (qag x) v.in_:=by
 have hlt:=(List.getElem?_eq_some_iff.1 hv).1
 have two:=h.two
 by_cases h0:i=0
 ·subst h0
  obtain ⟨_,y,hy,hk'⟩:=(h.st v hv).1
  rw[hx] at hy;cases hy;exact absurd hk' hk
 ·by_cases h1:i+1<r.length
  ·have hm:=h.mid i v (by omega) h1 hv
   unfold thr at hm
   have he:=(h.ok v (List.mem_of_getElem? hv)).1
   obtain ⟨j,hj⟩:=Int.eq_ofNat_of_zero_le he
   rw[hj] at hx hm
   rw[Int.toNat_natCast] at hx
   rw[qcM hx] at hm
   exact hm
  ·have e:i=r.length - 1:=by omega
   rw[e] at hv
   obtain ⟨_,y,hy,hk'⟩:=(h.en v hv).1
   rw[hx] at hy;cases hy;exact absurd hk' hk
open Go.AM
theorem qgy (N:Nat) {s:List Setting} {x:Setting} (hl:s.length≤100000):∀(k n:Nat),k<n→k≤s.length→(∀(j:Nat) y,k≤j→s[j]? =some y→x.element≤y.element)→
  ∃i:Nat,qnc N s x n k=some (i:Int)∧i≤s.length∧(∀(j:Nat) y,i≤j→s[j]? =some y→x.element≤y.element)∧(∀y,0<i→s[i - 1]? =some y→y.element<x.element)
 |k,0,hn,_,_=>by omega
 |0,n+1,hn,hk,hg=>by
  rw[qnc]
  have h1:qnd N s x ((0:Nat):Int)=some false:=by
   unfold qnd
   rw[if_neg (dneg (by omega))]
  rw[h1,qaa,if_neg (by simp)]
  exact ⟨0,rfl,by omega,hg,fun y h=>by omega⟩
 |k+1,n+1,hn,hk,hg=>by
  have hv:=qap (xs:=s) (i:=k) (by omega)
  rw[qnc]
  have h1:qnd N s x ((k+1:Nat):Int)=some (decide (x.element≤s[k].element)):=by
   unfold qnd
   rw[if_pos (dpos (by omega)),w64p (by omega),qae hv,qaa]
  rw[h1,qaa]
  by_cases hc:x.element≤s[k].element
  ·rw[if_pos (lpos hc),qad,w64p (by omega)]
   refine qgy N hl k n (by omega) (by omega) fun j y hj hy=> ?_
   by_cases hjk:j=k
   ·subst hjk;rw[hv] at hy;cases hy;exact hc
   ·exact hg j y (by omega) hy
  ·rw[if_neg (lneg hc)]
   refine ⟨k+1,rfl,hk,hg,fun y _ hy=> ?_⟩
   rw[Nat.add_sub_cancel,hv] at hy;cases hy
   omega
theorem qoQ (N:Nat) {s:List Setting} {x:Setting} (hl:s.length≤100000) (hN:s.length<N) (hs:s.Pairwise fun a b=>a.element<b.element) (hx:∀y∈s,y.element≠x.element):
  ∃s',zcO N s x=some s'∧(s'.Pairwise fun a b=>a.element<b.element)∧(∀y,y∈s'↔y=x∨y∈s)∧s'.length=s.length+1:=by
 obtain ⟨i,h1,h2,h3,h4⟩:=qgy N (s:=s) (x:=x) hl s.length N hN (Nat.le_refl _) (fun j y hj hy=>by
  have:=(List.getElem?_eq_some_iff.1 hy).1
  omega)
 unfold zcO
 rw[qad,h1,qaa]
 have hp2:qne N s x i=some false:=by
  unfold qne
  by_cases hi:i<s.length
  ·have hv:=qap hi
   rw[if_pos (dpos (by omega)),qae hv,qaa]
   congr 1
   simpa using hx _ (List.mem_of_getElem? hv)
  ·rw[if_neg (dneg (by omega))]
 rw[hp2,qaa,if_neg (by simp)]
 have hc3:qnx s (i:Int) (i:Int)=some (s.take i):=by
  unfold qnx
  rw[if_pos ⟨by omega,by omega,by omega,rfl⟩,Int.toNat_natCast]
 rw[hc3,qaa,qcb h2,qaa,qaF (by rw[List.length_drop];simp;omega),qaa,if_neg (by simp),qaF (by rw[List.length_take];simp;omega),qaa]
 have hlow:∀y∈s.take i,y.element<x.element:=by
  intro y hy
  obtain ⟨j,hj⟩:=List.getElem?_of_mem hy
  rw[List.getElem?_take] at hj
  split at hj
  ·rename_i hji
   have hi1:=qap (xs:=s) (i:=i - 1) (by omega)
   have hb:=h4 _ (by omega) hi1
   by_cases hj1:j=i - 1
   ·rw[hj1,hi1] at hj;cases hj;exact hb
   ·obtain ⟨hjl,hj⟩:=List.getElem?_eq_some_iff.1 hj
    have:=List.pairwise_iff_getElem.1 hs j (i - 1) hjl (by omega) (by omega)
    rw[hj] at this
    omega
  ·cases hj
 have hhigh:∀y∈s.drop i,x.element<y.element:=by
  intro y hy
  obtain ⟨j,hj⟩:=List.getElem?_of_mem hy
  rw[List.getElem?_drop] at hj
  have:=h3 (i+j) y (by omega) hj
  have:=hx y (List.mem_of_getElem? hj)
  omega
 refine ⟨_,rfl, ?_,fun y=> ?_,by simp;omega⟩
 ·rw[List.pairwise_append]
  refine ⟨hs.sublist (List.take_sublist _ _), ?_,fun a ha b hb=> ?_⟩
  ·rw[List.singleton_append,List.pairwise_cons]
   exact ⟨hhigh,hs.sublist (List.drop_sublist _ _)⟩
  ·have h5:=hlow a ha
   rw[List.singleton_append] at hb
   rcases List.mem_cons.1 hb with rfl|hb
   ·exact h5
   ·have:=hhigh b hb;omega
 ·have:=List.take_append_drop i s
  constructor
  ·intro hy
   rcases List.mem_append.1 hy with hy|hy
   ·exact .inr (List.mem_of_mem_take hy)
   ·rw[List.singleton_append] at hy
    rcases List.mem_cons.1 hy with hy|hy
    ·exact .inl hy
    ·exact .inr (List.mem_of_mem_drop hy)
  ·rintro (rfl|hy)
   ·exact List.mem_append_right _ (by simp)
   ·rw[←this] at hy
    rcases List.mem_append.1 hy with hy|hy
    ·exact List.mem_append_left _ hy
    ·exact List.mem_append_right _ (by simp[hy])
def posE (x:PlantElement) (v:Visit):Int:=if x.kind=3 then 3 else if x.kind=2 then (if v.in_=x.b∨v.out=x.b then 1 else 2) else 0
theorem que (x:PlantElement) (v:Visit):setE x v=if posE x v=0 then [] else [Setting.mk v.element (posE x v)]:=by
 unfold setE posE
 by_cases h3:x.kind=3
 ·simp[h3]
 ·by_cases h2:x.kind=2
  ·by_cases hb:v.in_=x.b∨v.out=x.b
   ·simp[h2,hb]
   ·simp[h2,hb]
  ·simp[h3,h2]
theorem qo6 (N:Nat) {l:List PlantElement} {v:Visit} {x:PlantElement} (hx:getI l v.element=some x):zaX N l v=some (posE x v):=by
 unfold zaX posE
 rw[hx,qaa,qad]
 by_cases h3:x.kind=3
 ·rw[if_pos (by simpa using h3),if_pos h3]
 ·rw[if_neg (by simpa using h3),if_neg h3]
  by_cases h2:x.kind=2
  ·have hs2:qm6 N v x=some (decide (v.in_=x.b∨v.out=x.b)):=by
    unfold qm6
    rw[if_pos (by simpa using h2)]
    by_cases a:v.in_=x.b
    ·rw[if_pos (by simpa using a)];simp[a]
    ·rw[if_neg (by simpa using a),qad]
     congr 1
     exact Bool.eq_iff_iff.2 (by simp[a])
   rw[hs2,qaa,if_pos h2]
   by_cases hb:v.in_=x.b∨v.out=x.b
   ·rw[if_pos (by simpa using hb),if_pos hb]
   ·rw[if_neg (by simpa using hb),if_neg hb,qad,if_pos (by simpa using h2)]
  ·have hs2:qm6 N v x=some false:=by
    unfold qm6
    rw[if_neg (by simpa using h2)]
   rw[hs2,qaa,if_neg (by simp),qad,if_neg (by simpa using h2),if_neg h2]
theorem qfz (N:Nat) {l:List PlantElement} {r:List Visit} (hr:∀v∈r,0≤v.element∧v.element<l.length) (hd:(elems r).Nodup) (hl:r.length≤50000) (hN:r.length<N):∀(k n i:Nat) (s:List Setting),k<n→i+k=r.length→s.length≤i→(s.Pairwise fun a b=>a.element<b.element)→(∀y,y∈s↔y∈qaH l (r.take i))→
  ∃s',qiV N l r n s i=some s'∧(s'.Pairwise fun a b=>a.element<b.element)∧∀y,y∈s'↔y∈qaH l r
 |k,0,i,s,hn,_,_,_,_=>by omega
 |0,n+1,i,s,hn,hi,ha,hp,hm=>by
  obtain rfl:i=r.length:=by omega
  rw[qiV,if_neg (dneg (by omega))]
  rw[List.take_length] at hm
  exact ⟨s,rfl,hp,hm⟩
 |k+1,n+1,i,s,hn,hi,ha,hp,hm=>by
  have hlt:i<r.length:=by omega
  have hv:=qap hlt
  obtain ⟨h0,h1⟩:=hr _ (List.mem_of_getElem? hv)
  obtain ⟨q,hq⟩:=Int.eq_ofNat_of_zero_le h0
  have hx:=qap (xs:=l) (i:=q) (by omega)
  have hg:getI l (r[i]).element=some (l[q]'(by omega)):=by rw[hq];exact qae hx
  have hx2:l[(r[i]).element.toNat]? =some (l[q]'(by omega)):=by rw[hq,Int.toNat_natCast];exact hx
  have hset:setV l r[i]=setE (l[q]'(by omega)) r[i]:=by unfold setV;rw[hx2]
  have htk:∀y,y∈qaH l (r.take (i+1))↔y∈qaH l (r.take i)∨y∈setV l r[i]:=fun y=>by
   rw[qbf hv]
   unfold qaH
   rw[List.flatMap_append,List.flatMap_cons,List.flatMap_nil,List.append_nil,List.mem_append]
  have key:∃s',quG N l r s i=some s'∧(s'.Pairwise fun a b=>a.element<b.element)∧(∀y,y∈s'↔y∈qaH l (r.take (i+1)))∧s'.length≤i+1:=by
   unfold quG
   rw[qae hv,qaa,qo6 N hg,qaa]
   rw[que] at hset
   by_cases hz:posE (l[q]'(by omega)) r[i]=0
   ·rw[if_neg (by simpa using hz)]
    rw[if_pos hz] at hset
    exact ⟨s,rfl,hp,fun y=>by rw[htk,hset,hm];simp,by omega⟩
   ·rw[if_pos (by simpa using hz),qaa]
    rw[if_neg hz] at hset
    obtain ⟨s',p1,p2,p3,p4⟩:=qoQ N (s:=s) (x:=Setting.mk r[i].element (posE (l[q]'(by omega)) r[i])) (by omega) (by omega) hp (fun y hy hh=>by
     have hy:=(hm y).1 hy
     unfold qaH at hy
     obtain ⟨v,hv1,hv2⟩:=List.mem_flatMap.1 hy
     have e:=qpd hv2
     have hd2:(elems (r.take (i+1))).Nodup:=hd.sublist ((List.take_sublist (i+1) r).map _)
     unfold elems at hd2
     rw[qbf hv,List.map_append,List.nodup_append] at hd2
     exact hd2.2.2 v.element (List.mem_map_of_mem hv1) r[i].element (by simp) (by rw[←e,hh]))
    rw[p1,qaa]
    exact ⟨s',rfl,p2,fun y=>by rw[p3,htk,hset,hm];simp[or_comm],by omega⟩
  obtain ⟨s',g1,g2,g3,g4⟩:=key
  rw[qiV,if_pos (dpos (by omega)),g1,qaa,qad,w64s (by omega)]
  exact qfz N hr hd hl hN k n (i+1) s' (by omega) (by omega) g4 g2 g3
theorem qAX (N:Nat) {l:List PlantElement} {r:List Visit} (hN:r.length+l.length+4000≤N) (hl:l.length≤1000000) (hr:r.length≤9223372036854775807) (hnm:l.length≤96→∀x∈l,x.name.length<N∧x.name.length≤9223372036854775807):
  ∃b s e,zbJ N l r=some b∧zbZ N l r=some b∧zaM N l r=some (s,e)∧zaY N l r=some (s,e)∧s.length≤96:=by
 obtain ⟨b1,p1,p2⟩:=qgv N (l:=l) (r:=r) (by omega) hl hr
 obtain ⟨b2,r1,r2⟩:=qiC N (l:=l) (r:=r) (by omega) hl hr hnm
 have hb:b1=b2:=Bool.eq_iff_iff.2 (p2.trans r2.symm)
 subst hb
 cases b1 with
 |false=>
  refine ⟨false,[],1,p1,r1, ?_, ?_,by simp⟩
  ·unfold zaM
   rw[p1,qaa,if_pos (by simp)]
  ·unfold zaY
   rw[r1,qaa,if_pos (by simp)]
 |true=>
  have hR:=p2.1 rfl
  have hP:=PlOk.of hR.1
  have hll:=hP.len
  have hrl:r.length≤l.length:=by
   have h1:=qer (b:=(List.range l.length).map fun (i:Nat)=>(i:Int)) hR.2.2 fun x hx=>by
    unfold elems at hx
    obtain ⟨v,hv,rfl⟩:=List.mem_map.1 hx
    obtain ⟨a,b⟩:=hR.2.1.ok v hv
    exact List.mem_map.2 ⟨v.element.toNat,List.mem_range.2 (by omega),by omega⟩
   simp[elems] at h1
   exact h1
  have hs:=qe3 N (by omega) hP hR (by omega)
  have hsl:=qdT l r
  refine ⟨true,qbM (qaH l r),0,p1,r1,hs, ?_,by rw[qfI];omega⟩
  unfold zaY
  rw[r1,qaa,if_neg (by simp)]
  obtain ⟨s',g1,g2,g3⟩:=qfz N hR.2.1.ok hR.2.2 (by omega) (by omega) r.length N 0 [] (by omega) (by omega) (by simp) (by simp) (by simp[qaH])
  have g1:qiV N l r N [] 0=some s':=g1
  rw[g1,qaa]
  have hlt:=qcu (hR.2.2.sublist (qbZ l r))
  rw[qcE g2 hlt fun y=>by rw[g3,qcH]]
end Go.W
end
section
set_option linter.unusedVariables false
set_option linter.unusedSimpArgs false
set_option linter.unusedSectionVars false
namespace Go.W
open Go.AM
section
variable {V K:Type} [DecidableEq K]
def lpF (f:V→List (K×Bool)→Option (Bool×List (K×Bool))):List V→List (K×Bool)→Option (Bool×List (K×Bool))
 |[],s=>some (false,s)
 |u::us,s=>Option.bind (f u s) fun r=>if r.1=true then some (true,r.2) else lpF f us r.2
structure Sr (V K:Type) where
 dead:V→Bool
 fin:V→Bool
 hit:V→Bool
 suc:V→List V
 key:V→K
variable (S:Sr V K)
inductive Rch:V→Prop
 |here {v:V}:S.dead v=false→S.fin v=true→S.hit v=true→Rch v
 |step {v u:V}:S.dead v=false→S.fin v=false→u∈S.suc v→Rch u→Rch v
def Sn (s:List (K×Bool)) (v:V):Prop:=(qaf s (S.key v)).getD false=true
instance (s:List (K×Bool)) (v:V):Decidable (Sn S s v):=by unfold Sn;infer_instance
def Cl1 (s:List (K×Bool)) (v:V):Prop:=S.dead v=false∧(S.fin v=true→S.hit v=false)∧(S.fin v=false→∀u∈S.suc v,S.dead u=true∨Sn S s u)
variable {S}
theorem Cl1.mono {s s':List (K×Bool)} {v:V} (h:Cl1 S s v) (hs:∀u,Sn S s u→Sn S s' u):Cl1 S s' v:=⟨h.1,h.2.1,fun hf u hu=>(h.2.2 hf u hu).imp id (hs u)⟩
theorem qhM {s:List (K×Bool)} {v u:V}:Sn S (qas s (S.key v) true) u↔(S.key v=S.key u∨Sn S s u):=by
 unfold Sn
 rw[qaD]
 by_cases h:S.key v=S.key u
 ·simp[h]
 ·simp[h]
theorem qc3 {α:Type} {p q:α→Bool} (h:∀y,q y=true→p y=true):∀{l:List α},(l.filter q).length≤(l.filter p).length
 |[]=>by simp
 |y::l=>by
  have ih:=qc3 h (l:=l)
  rw[List.filter_cons,List.filter_cons]
  cases hy:q y with
  |true=>rw[h y hy];simpa using ih
  |false=>
   cases hy2:p y with
   |true=>simp;omega
   |false=>simpa using ih
def lftN (S:Sr V K) (U:List V) (s:List (K×Bool)):Nat:=(U.filter fun u=> !decide (Sn S s u)).length
theorem qsv {U:List V} {s s':List (K×Bool)} (hs:∀u,Sn S s u→Sn S s' u):lftN S U s'≤lftN S U s:=by
 unfold lftN
 refine qc3 fun u hu=> ?_
 simp only[Bool.not_eq_true',decide_eq_false_iff_not] at hu⊢
 exact fun h=>hu (hs u h)
theorem filter_lt {α:Type} {p q:α→Bool}:∀{l:List α} {x:α},x∈l→(∀y,q y=true→p y=true)→p x=true→q x=false→(l.filter q).length<(l.filter p).length
 |[],_,h,_,_,_=>by cases h
 |y::l,x,h,hpq,hp,hq=>by
  have hle:(l.filter q).length≤(l.filter p).length:=qc3 hpq
  rcases List.mem_cons.1 h with rfl|h
  ·rw[List.filter_cons,List.filter_cons,hp,hq]
   simp only[if_true,List.length_cons]
   exact Nat.lt_succ_of_le hle
  ·have ih:=filter_lt h hpq hp hq
   rw[List.filter_cons,List.filter_cons]
   cases hy:q y with
   |true=>rw[hpq y hy];simpa using ih
   |false=>
    cases hy2:p y with
    |true=>simp;omega
    |false=>simpa using ih
theorem qAk {U:List V} {s:List (K×Bool)} {v:V} (hv:v∈U) (hn:¬Sn S s v):lftN S U (qas s (S.key v) true)<lftN S U s:=by
 unfold lftN
 refine filter_lt hv (fun u hu=> ?_) (by simpa using hn) ?_
 ·simp only[Bool.not_eq_true',decide_eq_false_iff_not] at hu⊢
  exact fun h=>hu (qhM.2 (.inr h))
 ·simp only[Bool.not_eq_false',decide_eq_true_eq]
  exact qhM.2 (.inl rfl)
structure Out (S:Sr V K) (U:List V) (s:List (K×Bool)) (b:Bool) (s':List (K×Bool)) (P:Prop) (T:Prop):Prop where
 sub:∀u,Sn S s u→Sn S s' u
 yes:b=true→T
 no:b=false→P∧∀u∈U,Sn S s' u→¬Sn S s u→Cl1 S s' u
theorem dfs {U:List V} (hU:∀v∈U,∀u∈S.suc v,u∈U) (hk:∀v∈U,∀u∈U,S.dead v=false→S.dead u=false→S.key v=S.key u→v=u) (hdk:∀v∈U,∀u∈U,S.key v=S.key u→S.dead v=S.dead u)
  (F:Nat→V→List (K×Bool)→Option (Bool×List (K×Bool)))
  (hF:∀rc v s,v∈U→F (rc+1) v s=if S.dead v=true∨Sn S s v then some (false,s) else if S.fin v=true then some (S.hit v,qas s (S.key v) true) else lpF (F rc) (S.suc v) (qas s (S.key v) true)):
  ∀(rc:Nat) (v:V) (s:List (K×Bool)),v∈U→lftN S U s<rc→∃b s',F rc v s=some (b,s')∧Out S U s b s' (S.dead v=true∨Sn S s' v) (Rch S v)
 |0,_,_,_,h=>by omega
 |rc+1,v,s,hv,h=>by
  rw[hF rc v s hv]
  by_cases h1:S.dead v=true∨Sn S s v
  ·rw[if_pos h1]
   exact ⟨false,s,rfl,fun _ h=>h,(by simp),fun _=>⟨h1,fun u _ h2 h3=>absurd h2 h3⟩⟩
  ·rw[if_neg h1]
   have hd:S.dead v=false:=by simpa using fun hh=>h1 (.inl hh)
   have hn:¬Sn S s v:=fun hh=>h1 (.inr hh)
   obtain ⟨s0,hs0⟩:∃s0,s0=qas s (S.key v) true:=⟨_,rfl⟩
   rw[←hs0]
   have hsub0:∀u,Sn S s u→Sn S s0 u:=fun u hu=>by rw[hs0];exact qhM.2 (.inr hu)
   have hv0:Sn S s0 v:=by rw[hs0];exact qhM.2 (.inl rfl)
   have hnew:∀u∈U,Sn S s0 u→¬Sn S s u→u=v:=fun u hu h2 h3=>by
    rw[hs0] at h2
    rcases qhM.1 h2 with h4|h4
    ·have hdu:S.dead u=false:=by rw[←hdk v hv u hu h4];exact hd
     exact (hk v hv u hu hd hdu h4).symm
    ·exact absurd h4 h3
   by_cases h2:S.fin v=true
   ·rw[if_pos h2]
    refine ⟨_,_,rfl,hsub0,fun hh=> .here hd h2 hh,fun hh=>⟨.inr hv0,fun u hu g1 g2=> ?_⟩⟩
    rw[hnew u hu g1 g2]
    exact ⟨hd,fun _=>hh,(fun h3=>by rw[h2] at h3;cases h3)⟩
   ·rw[if_neg h2]
    have hf:S.fin v=false:=by simpa using h2
    have hlt:lftN S U s0<rc:=by
     have:=qAk hv hn
     rw[←hs0] at this
     omega
    have loop:∀(q:List V) (t:List (K×Bool)),(∀u∈q,u∈U)→(∀u,Sn S s0 u→Sn S t u)→
      ∃b s',lpF (F rc) q t=some (b,s')∧Out S U t b s' (∀u∈q,S.dead u=true∨Sn S s' u) (∃u∈q,Rch S u):=by
     intro q
     induction q with
     |nil=>intro t _ _;exact ⟨false,t,rfl,fun _ h=>h,(by simp),fun _=>⟨by simp,fun u _ h2 h3=>absurd h2 h3⟩⟩
     |cons u q ih=>
      intro t hq ht
      have hlt':lftN S U t<rc:=Nat.lt_of_le_of_lt (qsv ht) hlt
      obtain ⟨b,s1,g1,g2⟩:=dfs hU hk hdk F hF rc u t (hq u List.mem_cons_self) hlt'
      rw[lpF,g1,qaa]
      cases b with
      |true=>exact ⟨true,s1,rfl,g2.sub,fun _=>⟨u,List.mem_cons_self,g2.yes rfl⟩,by simp⟩
      |false=>
       rw[if_neg (by simp)]
       obtain ⟨b,s2,g3,g4⟩:=ih s1 (fun x hx=>hq x (List.mem_cons_of_mem _ hx)) (fun x hx=>g2.sub x (ht x hx))
       refine ⟨b,s2,g3,fun x hx=>g4.sub x (g2.sub x hx),fun hb=> ?_,fun hb=> ?_⟩
       ·obtain ⟨x,hx,hr⟩:=g4.yes hb
        exact ⟨x,List.mem_cons_of_mem _ hx,hr⟩
       ·obtain ⟨k1,k2⟩:=g2.no rfl
        obtain ⟨k3,k4⟩:=g4.no hb
        refine ⟨fun x hx=> ?_,fun x hx a1 a2=> ?_⟩
        ·rcases List.mem_cons.1 hx with rfl|hx
         ·exact k1.imp id (g4.sub x)
         ·exact k3 x hx
        ·by_cases a3:Sn S s1 x
         ·exact (k2 x hx a3 a2).mono g4.sub
         ·exact k4 x hx a1 a3
    obtain ⟨b,s',g1,g2⟩:=loop (S.suc v) s0 (hU v hv) (fun _ h=>h)
    refine ⟨b,s',g1,fun u hu=>g2.sub u (hsub0 u hu),fun hb=> ?_,fun hb=> ?_⟩
    ·obtain ⟨u,hu,hr⟩:=g2.yes hb
     exact .step hd hf hu hr
    ·obtain ⟨k1,k2⟩:=g2.no hb
     refine ⟨.inr (g2.sub v hv0),fun u hu a1 a2=> ?_⟩
     by_cases a3:Sn S s0 u
     ·rw[hnew u hu a3 a2]
      exact ⟨hd,(fun h3=>by rw[hf] at h3;cases h3),fun _=>k1⟩
     ·exact k2 u hu a1 a3
theorem qoq {U:List V} (hU:∀v∈U,∀u∈S.suc v,u∈U) {s:List (K×Bool)} (hc:∀u∈U,Sn S s u→Cl1 S s u) {v:V} (hr:Rch S v):v∈U→Sn S s v→False:=by
 induction hr with
 |here hd hf hh=>
  intro hv hs
  have:=(hc _ hv hs).2.1 hf
  rw[hh] at this;cases this
 |step hd hf hu hr ih=>
  intro hv hs
  rcases (hc _ hv hs).2.2 hf _ hu with h1|h1
  ·cases hr with
   |here hd'=>rw[hd'] at h1;cases h1
   |step hd'=>rw[hd'] at h1;cases h1
  ·exact ih (hU _ hv _ hu) h1
theorem Rch.live {v:V} (h:Rch S v):S.dead v=false:=by cases h<;>assumption
end
end Go.W
end
section
set_option linter.unusedVariables false
set_option linter.unusedSimpArgs false
namespace Go.W
open Go.AM
def onwE (x:PlantElement) (p n:Int):List Int:=if x.kind=3∧p=4 then [] else if x.kind=2∧n=x.a∧p=1 then [x.b] else if x.kind=2∧n=x.a∧p=2 then [x.c] else thrE (qag x) n
def onw (l:List PlantElement) (p:Int→Int) (i n:Int):List Int:=if 0≤i then (match l[i.toNat]? with|some x=>onwE x (p i) n|none=>[]) else []
def vS {K:Type} (l:List PlantElement) (on:List Int) (p:Int→Int) (fi la:Int) (key:Spot→K):Sr Spot K where
 dead:=fun v=>decide (nbr l v.element v.node<0)
 fin:=fun v=>on.contains (nbr l v.element v.node)
 hit:=fun v=>(nbr l v.element v.node !=fi)&&(nbr l v.element v.node !=la)
 suc:=fun v=>(onw l p (nbr l v.element v.node) v.node).map (Spot.mk (nbr l v.element v.node))
 key:=key
theorem qoS {K K':Type} {l:List PlantElement} {on:List Int} {p:Int→Int} {fi la:Int} {key:Spot→K} {key':Spot→K'} {v:Spot} (h:Rch (vS l on p fi la key) v):Rch (vS l on p fi la key') v:=by
 induction h with
 |here h1 h2 h3=>exact .here h1 h2 h3
 |step h1 h2 h3 _ ih=>exact .step h1 h2 h3 ih
def allS (l:List PlantElement):List Spot:=(List.range l.length).flatMap fun (i:Nat)=>(eI l (i:Int)).map fun n=>Spot.mk (i:Int) n
theorem sum3 (l:List PlantElement):∀(k:List Nat),(k.flatMap fun (i:Nat)=>(eI l (i:Int)).map fun n=>Spot.mk (i:Int) n).length≤3*k.length
 |[]=>by simp
 |i::k=>by
  have:=sum3 l k
  have:=qd1 l (i:Int)
  rw[List.flatMap_cons,List.length_append,List.length_map,List.length_cons]
  omega
theorem allS_len (l:List PlantElement):(allS l).length≤3*l.length:=by
 have:=sum3 l (List.range l.length)
 rwa [List.length_range] at this
theorem qbh {l:List PlantElement} {v:Spot}:v∈allS l↔v.node∈eI l v.element:=by
 constructor
 ·intro h
  obtain ⟨i,_,h⟩:=List.mem_flatMap.1 h
  obtain ⟨n,hn,rfl⟩:=List.mem_map.1 h
  exact hn
 ·intro h
  obtain ⟨h0,h1,_⟩:=qd2 h
  refine List.mem_flatMap.2 ⟨v.element.toNat,List.mem_range.2 (by omega),List.mem_map.2 ⟨v.node, ?_, ?_⟩⟩
  ·rw[Int.toNat_of_nonneg h0];exact h
  ·rw[Int.toNat_of_nonneg h0]
theorem qeI {l:List PlantElement} {i:Int} {x:PlantElement} (h0:0≤i) (h:l[i.toNat]? =some x):getI l i=some x:=by
 obtain ⟨a,rfl⟩:=Int.eq_ofNat_of_zero_le h0
 exact qae (by simpa using h)
theorem qjr {l:List PlantElement} {i n:Int} (h:0≤nbr l i n):∃x,l[(nbr l i n).toNat]? =some x∧getI l (nbr l i n)=some x∧n∈qag x∧x∈l:=by
 obtain ⟨h1,_⟩:=qir h
 obtain ⟨h0,h2,x,hx,hn⟩:=qd2 h1
 exact ⟨x,hx,qeI h0 hx,hn,List.mem_of_getElem? hx⟩
theorem qif {l:List PlantElement} {i:Int} {x:PlantElement} (h0:0≤i) (h:l[i.toNat]? =some x):eI l i=qag x:=by
 unfold eI;rw[if_pos h0,h]
theorem qtL {x:PlantElement} {p n m:Int} (h:m∈onwE x p n):m∈qag x:=by
 unfold onwE at h
 split at h
 ·cases h
 ·split at h
  ·rename_i h1 h2
   have:=List.mem_singleton.1 h
   subst this
   unfold qag;rw[if_neg (by omega),if_pos h2.1];simp
  ·split at h
   ·rename_i h1 h2 h3
    have:=List.mem_singleton.1 h
    subst this
    unfold qag;rw[if_neg (by omega),if_pos h3.1];simp
   ·exact (qmo h).2
theorem qzx {K:Type} {l:List PlantElement} {on:List Int} {p:Int→Int} {fi la:Int} {key:Spot→K}:∀v∈allS l,∀u∈(vS l on p fi la key).suc v,u∈allS l:=by
 intro v hv u hu
 obtain ⟨m,hm,rfl⟩:=List.mem_map.1 hu
 rw[qbh]
 show m∈eI l (nbr l v.element v.node)
 unfold onw at hm
 split at hm
 ·rename_i h0
  obtain ⟨x,hx,_,_⟩:=qjr h0
  rw[hx] at hm
  rw[qif h0 hx]
  exact qtL hm
 ·cases hm
theorem qAJ (N:Nat) (hN:4≤N) {l:List PlantElement} {m:List (Int×Int)} {i n:Int} {x:PlantElement} (h0:0≤i) (hx:l[i.toNat]? =some x):zaW N l m i n=some (onw l (fun i=>(qaf m i).getD 0) i n):=by
 unfold zaW
 rw[qeI h0 hx,qaa,qad,qad]
 have e0:quD N x ((qaf m i).getD 0)=some (decide (x.kind=3∧(qaf m i).getD 0=4)):=by
  unfold quD
  by_cases h:x.kind=3
  ·rw[if_pos (by simpa using h),qad];congr 1;rw[Bool.eq_iff_iff];simp[h]
  ·rw[if_neg (by simpa using h)];simp[h]
 have e1:quE N n x ((qaf m i).getD 0)=some (decide (x.kind=2∧n=x.a∧(qaf m i).getD 0=1)):=by
  unfold quE
  by_cases h:x.kind=2
  ·rw[if_pos (by simpa using h)]
   by_cases h2:n=x.a
   ·rw[if_pos (by simpa using h2),qad];congr 1;rw[Bool.eq_iff_iff];simp[h,h2]
   ·rw[if_neg (by simpa using h2)];simp[h2]
  ·rw[if_neg (by simpa using h)];simp[h]
 have e2:quF N n x ((qaf m i).getD 0)=some (decide (x.kind=2∧n=x.a∧(qaf m i).getD 0=2)):=by
  unfold quF
  by_cases h:x.kind=2
  ·rw[if_pos (by simpa using h)]
   by_cases h2:n=x.a
   ·rw[if_pos (by simpa using h2),qad];congr 1;rw[Bool.eq_iff_iff];simp[h,h2]
   ·rw[if_neg (by simpa using h2)];simp[h2]
  ·rw[if_neg (by simpa using h)];simp[h]
 rw[e0,qaa,e1,e2]
 unfold onw onwE
 rw[if_pos h0,hx]
 simp only
 by_cases c0:x.kind=3∧(qaf m i).getD 0=4
 ·rw[if_pos (by simpa using c0),if_pos c0]
 rw[if_neg (by simpa using c0),if_neg c0,qaa]
 by_cases c1:x.kind=2∧n=x.a∧(qaf m i).getD 0=1
 ·rw[if_pos (by simpa using c1),if_pos c1]
 rw[if_neg (by simpa using c1),if_neg c1,qaa]
 by_cases c2:x.kind=2∧n=x.a∧(qaf m i).getD 0=2
 ·rw[if_pos (by simpa using c2),if_pos c2]
 rw[if_neg (by simpa using c2),if_neg c2,qoN N hN,qaa]
 unfold thr
 rw[qif h0 hx]
abbrev SpS:=List (Spot×Bool)
abbrev OnM:=List (Int×Bool)
def OnR (m:OnM) (on:List Int):Prop:=∀k,(qaf m k).getD false=on.contains k
def sumF {K:Type} (r:Bool×List (K×Bool)):Sum (List (K×Bool)) (Bool×List (K×Bool)):=if r.1=true then .inr (true,r.2) else .inl r.2
theorem qGc (N:Nat) (self:List Int→Spot→List PlantElement→SpS→OnM→Int→Int→List (Int×Int)→SpS→OnM→Option (Bool×SpS)) (x13:List Int) (l:List PlantElement) (fi la:Int) (m:List (Int×Int)) (k0:Int) {o:List Int} (ho:o.length≤1000) (onm:OnM):
  ∀(k n i:Nat) (t:SpS),k<n→i+k=o.length→qm1 N self x13 l fi la m k0 o (o.length:Int) onm n i t=Option.bind (lpF (fun v s=>self x13 v l [] [] fi la m s onm) ((o.drop i).map (Spot.mk k0)) t) fun r=>some (sumF r)
 |k,0,i,t,hn,_=>by omega
 |0,n+1,i,t,hn,hi=>by
  obtain rfl:i=o.length:=by omega
  rw[qm1,if_neg (dneg (by omega)),List.drop_length]
  rfl
 |k+1,n+1,i,t,hn,hi=>by
  have hv:=qap (xs:=o) (i:=i) (by omega)
  rw[qm1,if_pos (dpos (by omega)),qae hv,qaa,qbe hv,List.map_cons,lpF]
  cases hs:self x13 (Spot.mk k0 o[i]) l [] [] fi la m t onm with
  |none=>rfl
  |some r=>
   rw[qaa,qaa]
   obtain ⟨b,t'⟩:=r
   cases b with
   |true=>rfl
   |false=>
    simp only[Bool.false_eq_true,if_false]
    rw[w64s (by omega)]
    exact qGc N self x13 l fi la m k0 ho onm k n (i+1) t' (by omega) (by omega)
theorem qAG (N:Nat) (hN:1100≤N) {l:List PlantElement} (hl:l.length≤96) {on:List Int} {onm:OnM} (hon:OnR onm on) {m:List (Int×Int)} {fi la:Int} (x13:List Int) (rc:Nat) (v:Spot) (s:SpS):
  zaB N (rc+1) x13 v l [] [] fi la m s onm=if (vS l on (fun i=>(qaf m i).getD 0) fi la id).dead v=true∨Sn (vS l on (fun i=>(qaf m i).getD 0) fi la id) s v then some (false,s) else if (vS l on (fun i=>(qaf m i).getD 0) fi la id).fin v=true then some ((vS l on (fun i=>(qaf m i).getD 0) fi la id).hit v,qas s v true)
   else lpF (fun v s=>zaB N rc x13 v l [] [] fi la m s onm) ((vS l on (fun i=>(qaf m i).getD 0) fi la (id:Spot→Spot)).suc v) (qas s v true):=by
 rw[zaB,qiB N (by omega) (by omega),qaa]
 have e0:qun N (zaB N rc) v (nbr l v.element v.node) s=some (decide (nbr l v.element v.node<0∨(qaf s v).getD false=true)):=by
  unfold qun
  rw[qad]
  by_cases h:(qaf s v).getD false=true
  ·rw[if_pos h];simp[h]
  ·rw[if_neg h];simp[h]
 rw[e0,qaa]
 by_cases c:nbr l v.element v.node<0∨(qaf s v).getD false=true
 ·rw[if_pos (by simpa using c),if_pos (by simpa[vS,Sn] using c)]
 rw[if_neg (by simpa using c),if_neg (by simpa[vS,Sn] using c),qad,qad,hon]
 have h0:0≤nbr l v.element v.node:=by omega
 by_cases c2:on.contains (nbr l v.element v.node)=true
 ·rw[if_pos c2,if_pos (show (vS l on _ fi la id).fin v=true from c2)]
  unfold qA6
  by_cases c3:nbr l v.element v.node=fi
  ·rw[if_neg (by simpa using c3),qaa]
   simp[vS,c3]
  ·rw[if_pos (by simpa using c3),qad,qaa]
   simp[vS,c3]
 ·rw[if_neg c2,if_neg (show ¬(vS l on _ fi la id).fin v=true from c2)]
  obtain ⟨x,hx,_,_,_⟩:=qjr h0
  rw[qAJ N (by omega) h0 hx,qaa]
  have hol:(onw l (fun i=>(qaf m i).getD 0) (nbr l v.element v.node) v.node).length≤3:=by
   unfold onw onwE
   rw[if_pos h0,hx]
   simp only
   split
   ·simp
   ·split
    ·simp
    ·split
     ·simp
     ·have:=qdV l (nbr l v.element v.node) v.node
      unfold thr at this
      rw[qif h0 hx] at this
      exact this
  refine (congrArg (fun q=>Option.bind q _) (qGc N (zaB N rc) x13 l fi la m (nbr l v.element v.node) (by omega) onm (onw l (fun i=>(qaf m i).getD 0) (nbr l v.element v.node) v.node).length N 0 (qas s v true) (by omega) (by omega))).trans ?_
  rw[List.drop_zero]
  show Option.bind (Option.bind (lpF _ ((vS l on _ fi la (id:Spot→Spot)).suc v) _) _) _=_
  cases hq:lpF (fun v s=>zaB N rc x13 v l [] [] fi la m s onm) ((vS l on (fun i=>(qaf m i).getD 0) fi la (id:Spot→Spot)).suc v) (qas s v true) with
  |none=>rfl
  |some r=>
   obtain ⟨b,t⟩:=r
   cases b<;>rfl
theorem qHF {l:List PlantElement} {on:List Int} {p:Int→Int} {fi la:Int}:∀v∈allS l,∀u∈allS l,(vS l on p fi la (id:Spot→Spot)).dead v=false→(vS l on p fi la (id:Spot→Spot)).dead u=false→(vS l on p fi la (id:Spot→Spot)).key v=(vS l on p fi la (id:Spot→Spot)).key u→v=u:=fun v _ u _ _ _ h=>h
theorem qpp {K:Type} [DecidableEq K] {S:Sr Spot K} {U:List Spot} (hU:∀v∈U,∀u∈S.suc v,u∈U) {s1 s2:List (K×Bool)} {b:Bool} {v u:Spot} (hv:v∈U) (hu:u∈U) (h1:Out S U [] false s1 (S.dead v=true∨Sn S s1 v) (Rch S v)) (h2:Out S U s1 b s2 (S.dead u=true∨Sn S s2 u) (Rch S u)):
  b=true↔Rch S v∨Rch S u:=by
 constructor
 ·exact fun hb=> .inr (h2.yes hb)
 ·intro hr
  cases hb:b with
  |true=>rfl
  |false=>
   obtain ⟨p1,p2⟩:=h1.no rfl
   obtain ⟨p3,p4⟩:=h2.no hb
   have hc:∀x∈U,Sn S s2 x→Cl1 S s2 x:=fun x hx hs=>by
    by_cases hs1:Sn S s1 x
    ·exact (p2 x hx hs1 (by simp[Sn,qaf])).mono h2.sub
    ·exact p4 x hx hs hs1
   rcases hr with hr|hr
   ·rcases p1 with p1|p1
    ·rw[hr.live] at p1;cases p1
    ·exact (qoq hU hc hr hv (h2.sub v p1)).elim
   ·rcases p3 with p3|p3
    ·rw[hr.live] at p3;cases p3
    ·exact (qoq hU hc hr hu p3).elim
theorem ql0 {K:Type} [DecidableEq K] {S:Sr Spot K} {U:List Spot} (hU:∀v∈U,∀u∈S.suc v,u∈U) {s1:List (K×Bool)} {b:Bool} {v:Spot} (hv:v∈U) (h1:Out S U [] b s1 (S.dead v=true∨Sn S s1 v) (Rch S v)):b=true↔Rch S v:=by
 constructor
 ·exact h1.yes
 ·intro hr
  cases hb:b with
  |true=>rfl
  |false=>
   obtain ⟨p1,p2⟩:=h1.no hb
   rcases p1 with p1|p1
   ·rw[hr.live] at p1;cases p1
   ·exact (qoq hU (fun x hx hs=>p2 x hx hs (by simp[Sn,qaf])) hr hv p1).elim
theorem qjo {K:Type} [DecidableEq K] (S:Sr Spot K) (l:List PlantElement) (hl:l.length≤96) (s:List (K×Bool)):lftN S (allS l) s≤288:=by
 have h1:=allS_len l
 have h2:=List.length_filter_le (fun u=> !decide (Sn S s u)) (allS l)
 unfold lftN
 omega
open Classical in
theorem qtX (N:Nat) (hN:1100≤N) {l:List PlantElement} (hl:l.length≤96) {on:List Int} {onm:OnM} (hon:OnR onm on) {m:List (Int×Int)} {fi la:Int} (x13:List Int) {i:Nat} {x:PlantElement} (hx:l[i]? =some x) (hk:x.kind=1):
  qux N l m fi la x13 i x onm []=some (decide (Rch (vS l on (fun i=>(qaf m i).getD 0) fi la (id:Spot→Spot)) (Spot.mk i x.a)∨Rch (vS l on (fun i=>(qaf m i).getD 0) fi la (id:Spot→Spot)) (Spot.mk i x.b))):=by
 obtain ⟨S,hS⟩:∃S,S=vS l on (fun i=>(qaf m i).getD 0) fi la (id:Spot→Spot):=⟨_,rfl⟩
 rw[←hS]
 have he:qag x=[x.a,x.b]:=by unfold qag;rw[if_pos (.inl hk)]
 have ha:Spot.mk i x.a∈allS l:=by rw[qbh];show x.a∈eI l (i:Int);rw[qcM hx,he];simp
 have hb:Spot.mk i x.b∈allS l:=by rw[qbh];show x.b∈eI l (i:Int);rw[qcM hx,he];simp
 have hU:∀v∈allS l,∀u∈S.suc v,u∈allS l:=by rw[hS];exact qzx
 have D:=dfs (S:=S) hU (by rw[hS];exact qHF) (by rw[hS];intro v _ u _ h;have h:v=u:=h;rw[h]) (fun rc v s=>zaB N rc x13 v l [] [] fi la m s onm) (fun rc v s hv=>by rw[hS];exact qAG N hN hl hon x13 rc v s)
 obtain ⟨b1,s1,g1,g2⟩:=D N (Spot.mk i x.a) [] ha (by have:=qjo S l hl [];omega)
 unfold qux
 rw[g1,qaa]
 cases b1 with
 |true=>
  rw[if_pos rfl]
  have:=g2.yes rfl
  simp[this]
 |false=>
  rw[if_neg (by simp)]
  obtain ⟨b2,s2,g3,g4⟩:=D N (Spot.mk i x.b) s1 hb (by have:=qjo S l hl s1;omega)
  rw[g3,qaa]
  have:=qpp hU ha hb g2 g4
  cases b2 with
  |true=>simp[this.1 rfl]
  |false=>simp[←this]
end Go.W
end
section
set_option linter.unusedVariables false
set_option linter.unusedSimpArgs false
namespace Go.W
open Go.AM
def atP (s:List Setting) (a:Int):Int:=match s.find? (fun y=>y.element==a) with|some y=>y.position|none=>0
def ok1 (l:List PlantElement) (y:Setting):Prop:=0≤y.element∧∃x,l[y.element.toNat]? =some x∧((x.kind=2∧(y.position=1∨y.position=2))∨(x.kind=3∧(y.position=3∨y.position=4)))
def KnP (l:List PlantElement) (s:List Setting):Prop:=∀(i:Nat) (y:Setting),s[i]? =some y→ok1 l y∧∀z∈s.take i,z.element≠y.element
theorem ok1.pos {l:List PlantElement} {y:Setting} (h:ok1 l y):y.position≠0:=by
 obtain ⟨_,x,_,h|h⟩:=h<;>omega
theorem qxE {l:List PlantElement} {s:List Setting} (h:∀z∈s,ok1 l z) (a:Int):atP s a≠0↔∃z∈s,z.element=a:=by
 unfold atP
 cases hf:s.find? (fun y=>y.element==a) with
 |none=>
  have:=List.find?_eq_none.1 hf
  simp only[ne_eq,not_true,false_iff,not_exists,not_and]
  exact fun z hz he=>this z hz (by simpa using he)
 |some y=>
  have h1:=List.mem_of_find?_eq_some hf
  have h2:=List.find?_some hf
  simp only
  exact ⟨fun _=>⟨y,h1,by simpa using h2⟩,fun _=>(h y h1).pos⟩
theorem qr2 (s:List Setting) (y:Setting) (a:Int) (h:∀z∈s,z.element≠y.element):atP (s++[y]) a=if y.element=a then y.position else atP s a:=by
 unfold atP
 rw[List.find?_append]
 by_cases ha:y.element=a
 ·rw[if_pos ha]
  have:s.find? (fun z=>z.element==a)=none:=List.find?_eq_none.2 fun z hz=>by simpa using fun he=>h z hz (he.trans ha.symm)
  rw[this];simp[ha]
 ·rw[if_neg ha]
  cases s.find? (fun z=>z.element==a) with
  |none=>simp[ha]
  |some z=>simp
theorem qgl {α:Type} {s:List α} {i:Nat} {z:α}:z∈s.take i↔∃j,j<i∧s[j]? =some z:=by
 constructor
 ·intro h
  obtain ⟨j,hj⟩:=List.getElem?_of_mem h
  rw[List.getElem?_take] at hj
  split at hj
  ·exact ⟨j,‹_›,hj⟩
  ·cases hj
 ·rintro ⟨j,hj,h⟩
  refine List.mem_of_getElem? (i:=j) ?_
  rw[List.getElem?_take,if_pos hj];exact h
instance (l:List PlantElement) (y:Setting):Decidable (ok1 l y):=by
 unfold ok1
 cases h:l[y.element.toNat]? with
 |none=>exact isFalse (by simp)
 |some x=>exact decidable_of_iff (0≤y.element∧((x.kind=2∧(y.position=1∨y.position=2))∨(x.kind=3∧(y.position=3∨y.position=4)))) (by simp)
theorem ql8 (N:Nat) {l:List PlantElement} (hl:l.length≤96) {s:List Setting} (hs:s.length≤1000):∀(k n i:Nat) (m:List (Int×Int)),k<n→i+k=s.length→(∀(j:Nat) y,j<i→s[j]? =some y→ok1 l y∧∀z∈s.take j,z.element≠y.element)→(∀a,(qaf m a).getD 0=atP (s.take i) a)→
  (∃m',qgT N l s (s.length:Int) n m i=some (.inl m')∧KnP l s∧∀a,(qaf m' a).getD 0=atP s a)∨(qgT N l s (s.length:Int) n m i=some (.inr false)∧¬KnP l s)
 |k,0,i,m,hn,_,_,_=>by omega
 |0,n+1,i,m,hn,hi,hok,hm=>by
  obtain rfl:i=s.length:=by omega
  rw[qgT,if_neg (dneg (by omega))]
  refine .inl ⟨m,rfl,fun j y hj=>hok j y (List.getElem?_eq_some_iff.1 hj).1 hj,fun a=> ?_⟩
  rw[hm,List.take_length]
 |k+1,n+1,i,m,hn,hi,hok,hm=>by
  have hv:=qap (xs:=s) (i:=i) (by omega)
  obtain ⟨y,hy⟩:∃y,y=s[i]:=⟨_,rfl⟩
  rw[←hy] at hv
  rw[qgT,if_pos (dpos (by omega)),qae hv,qaa]
  have hall:∀z∈s.take i,ok1 l z:=fun z hz=>by
   obtain ⟨j,hj,hz⟩:=qgl.1 hz
   exact (hok j z hj hz).1
  have e1:quL N l m y=some (decide (y.element<0∨(l.length:Int)≤y.element∨∃z∈s.take i,z.element=y.element)):=by
   unfold quL
   by_cases h1:y.element<0
   ·rw[if_pos (dpos h1)];simp[h1]
   ·rw[if_neg (dneg h1)]
    by_cases h2:(l.length:Int)≤y.element
    ·rw[if_pos (lpos h2)];simp[h2]
    ·rw[if_neg (lneg h2),qad,hm]
     congr 1
     rw[Bool.eq_iff_iff]
     have:=qxE hall y.element
     simp only[bne_iff_ne,ne_eq,decide_eq_true_eq,h1,h2,false_or]
     exact this
  rw[e1,qaa]
  by_cases c1:y.element<0∨(l.length:Int)≤y.element∨∃z∈s.take i,z.element=y.element
  ·rw[if_pos (by simpa using c1)]
   refine .inr ⟨rfl,fun hK=> ?_⟩
   obtain ⟨⟨k1,x,k2,_⟩,k3⟩:=hK i y hv
   rcases c1 with c1|c1|⟨z,hz,c1⟩
   ·omega
   ·have:=(List.getElem?_eq_some_iff.1 k2).1
    omega
   ·exact k3 z hz c1
  ·rw[if_neg (by simpa using c1)]
   have c1a:0≤y.element∧y.element<l.length:=by
    constructor
    ·exact Int.not_lt.1 fun h=>c1 (.inl h)
    ·exact Int.not_le.1 fun h=>c1 (.inr (.inl h))
   have hno:∀z∈s.take i,z.element≠y.element:=fun z hz he=>c1 (.inr (.inr ⟨z,hz,he⟩))
   obtain ⟨a,ha⟩:=Int.eq_ofNat_of_zero_le c1a.1
   have hx:=qap (xs:=l) (i:=a) (by omega)
   obtain ⟨x,hxe⟩:∃x,x=l[a]:=⟨_,rfl⟩
   rw[←hxe] at hx
   have hx':l[y.element.toNat]? =some x:=by rw[ha,Int.toNat_natCast];exact hx
   have e2:quM N y=some (decide (y.position=1∨y.position=2)):=by
    unfold quM
    by_cases h:y.position=1
    ·rw[if_pos (by simpa using h)];simp[h]
    ·rw[if_neg (by simpa using h),qad];congr 1;rw[Bool.eq_iff_iff];simp[h]
   have e3:quN N y=some (decide (y.position=3∨y.position=4)):=by
    unfold quN
    by_cases h:y.position=3
    ·rw[if_pos (by simpa using h)];simp[h]
    ·rw[if_neg (by simpa using h),qad];congr 1;rw[Bool.eq_iff_iff];simp[h]
   rw[e2,qaa,e3,qaa,qeI c1a.1 hx',qaa]
   have e4:quO N (decide (y.position=1∨y.position=2)) (decide (y.position=3∨y.position=4)) x.kind=some (decide (¬ok1 l y)):=by
    have hiff:ok1 l y↔((x.kind=2∧(y.position=1∨y.position=2))∨(x.kind=3∧(y.position=3∨y.position=4))):=by
     unfold ok1
     rw[hx']
     constructor
     ·rintro ⟨_,x',hx2,h⟩
      cases hx2;exact h
     ·exact fun h=>⟨c1a.1,x,rfl,h⟩
    unfold quO
    by_cases h2:x.kind=2
    ·rw[if_pos (by simpa using h2)]
     by_cases hp:y.position=1∨y.position=2
     ·rw[if_neg (by simp[hp])]
      have:ok1 l y:=hiff.2 (.inl ⟨h2,hp⟩)
      simp[this]
     ·rw[if_pos (by simpa using hp),if_neg (by rw[h2];simp)]
      have:¬ok1 l y:=fun h=>by rcases hiff.1 h with h|h;exact hp h.2;omega
      simp[this]
    ·rw[if_neg (by simpa using h2),if_pos (by simp)]
     by_cases h3:x.kind=3
     ·rw[if_pos (by simpa using h3)]
      congr 1
      rw[Bool.eq_iff_iff]
      simp only[Bool.not_eq_true',decide_eq_false_iff_not,decide_eq_true_eq]
      rw[hiff]
      simp[h2,h3]
     ·rw[if_neg (by simpa using h3)]
      have:¬ok1 l y:=fun h=>by rcases hiff.1 h with h|h;exact h2 h.1;exact h3 h.1
      simp[this]
   rw[e4,qaa]
   by_cases c2:ok1 l y
   ·rw[if_neg (by simpa using c2),qad,w64s (by omega)]
    refine ql8 N hl hs k n (i+1) _ (by omega) (by omega) (fun j z hj hz=> ?_) (fun b=> ?_)
    ·by_cases hji:j=i
     ·subst hji;rw[hv] at hz;cases hz;exact ⟨c2,hno⟩
     ·exact hok j z (by omega) hz
    ·rw[qaD,qbf hv,qr2 _ _ _ hno]
     by_cases hb:y.element=b
     ·rw[if_pos hb,if_pos hb];rfl
     ·rw[if_neg hb,if_neg hb];exact hm b
   ·rw[if_pos (by simpa using c2)]
    exact .inr ⟨rfl,fun hK=>c2 (hK i y hv).1⟩
theorem qoK (N:Nat) {l:List PlantElement} (hl:l.length≤96) {s:List Setting} (hs:s.length≤1000) (hN:s.length<N):
  (∃m,zbC N l s=some (m,true)∧KnP l s∧∀a,(qaf m a).getD 0=atP s a)∨(zbC N l s=some ([],false)∧¬KnP l s):=by
 unfold zbC
 rcases ql8 N hl hs s.length N 0 [] hN (by omega) (fun j y hj=>by omega) (fun a=>rfl) with ⟨m,h1,h2,h3⟩|⟨h1,h2⟩
 ·exact .inl ⟨m,by rw[show qgT N l s _ N [] 0=_ from h1];rfl,h2,h3⟩
 ·exact .inr ⟨by rw[show qgT N l s _ N [] 0=_ from h1];rfl,h2⟩
theorem qhk (N:Nat) {r:List Visit} (hr:r.length≤1000000):∀(k n i:Nat) (m:OnM),k<n→i+k=r.length→OnR m (elems (r.take i))→∃m',qiS N r (r.length:Int) n m i=some m'∧OnR m' (elems r)
 |k,0,i,m,hn,_,_=>by omega
 |0,n+1,i,m,hn,hi,hm=>by
  obtain rfl:i=r.length:=by omega
  rw[qiS,if_neg (dneg (by omega))]
  rw[List.take_length] at hm
  exact ⟨m,rfl,hm⟩
 |k+1,n+1,i,m,hn,hi,hm=>by
  have hv:=qap (xs:=r) (i:=i) (by omega)
  rw[qiS,if_pos (dpos (by omega)),qae hv,qaa,qad,w64s (by omega)]
  refine qhk N hr k n (i+1) _ (by omega) (by omega) fun a=> ?_
  rw[qaD,qbf hv]
  unfold elems
  rw[List.map_append,List.contains_eq_mem]
  by_cases ha:r[i].element=a
  ·rw[if_pos ha];simp[ha]
  ·rw[if_neg ha,hm]
   unfold elems
   rw[List.contains_eq_mem]
   have:a≠r[i].element:=fun h=>ha h.symm
   simp[this]
theorem qnB (N:Nat) {r:List Visit} (hr:r.length≤1000000) (hN:r.length<N):∃m,zaJ N r=some m∧OnR m (elems r):=by
 unfold zaJ
 obtain ⟨m,h1,h2⟩:=qhk N hr r.length N 0 [] hN (by omega) (fun a=>by simp[elems,qaf])
 exact ⟨m,by rw[show qiS N r _ N [] 0=_ from h1];rfl,h2⟩
def Exps (l:List PlantElement) (r:List Visit) (s:List Setting) (fi la:Int) (i:Nat):Prop:=∃x,l[i]? =some x∧x.kind=1∧(i:Int)∉elems r∧(Rch (vS l (elems r) (atP s) fi la (id:Spot→Spot)) (Spot.mk i x.a)∨Rch (vS l (elems r) (atP s) fi la (id:Spot→Spot)) (Spot.mk i x.b))
open Classical in
noncomputable def exps (l:List PlantElement) (r:List Visit) (s:List Setting) (fi la:Int):List Int:=((List.range l.length).filter fun i=>decide (Exps l r s fi la i)).map fun (i:Nat)=>(i:Int)
def endR (r:List Visit):Int×Int:=((r[0]?.map Visit.element).getD 0,(r[r.length - 1]?.map Visit.element).getD 0)
theorem qeE {p:Nat→Bool} (i:Nat):(List.range (i+1)).filter p=(List.range i).filter p++(if p i=true then [i] else []):=by
 rw[List.range_succ,List.filter_append]
 cases h:p i<;>simp[h]
open Classical in
theorem qhF (N:Nat) (hN:1100≤N) {l:List PlantElement} (hl:l.length≤96) {r:List Visit} {s:List Setting} {onm:OnM} (hon:OnR onm (elems r)) {m:List (Int×Int)} (hm:∀a,(qaf m a).getD 0=atP s a) {fi la:Int}:∀(k n i:Nat) (acc:List Int),k<n→i+k=l.length→
  acc=((List.range i).filter fun i=>decide (Exps l r s fi la i)).map (fun (i:Nat)=>(i:Int))→qiU N l m fi la l (l.length:Int) onm n acc i=some (exps l r s fi la)
 |k,0,i,acc,hn,_,_=>by omega
 |0,n+1,i,acc,hn,hi,ha=>by
  obtain rfl:i=l.length:=by omega
  rw[qiU,if_neg (dneg (by omega)),ha]
  rfl
 |k+1,n+1,i,acc,hn,hi,ha=>by
  have hv:=qap (xs:=l) (i:=i) (by omega)
  obtain ⟨x,hxe⟩:∃x,x=l[i]:=⟨_,rfl⟩
  rw[←hxe] at hv
  have hpe:(fun i=>(qaf m i).getD 0)=atP s:=funext hm
  rw[qiU,if_pos (dpos (by omega))]
  have hacc:acc.length≤96:=by
   rw[ha,List.length_map]
   have:=List.length_filter_le (fun i=>decide (Exps l r s fi la i)) (List.range i)
   rw[List.length_range] at this
   omega
  have e1:quv N l m fi la acc l i onm=some (((List.range (i+1)).filter fun i=>decide (Exps l r s fi la i)).map (fun (i:Nat)=>(i:Int))):=by
   unfold quv
   rw[qae hv,qaa]
   have e2:quw N i x onm=some (decide (x.kind≠1∨(i:Int)∈elems r)):=by
    unfold quw
    by_cases h:x.kind=1
    ·rw[if_neg (by simpa using h),qad,hon,List.contains_eq_mem];simp[h]
    ·rw[if_pos (by simpa using h)];simp[h]
   rw[e2,qaa,qeE]
   by_cases c:x.kind≠1∨(i:Int)∈elems r
   ·rw[if_pos (by simpa using c)]
    have:¬Exps l r s fi la i:=fun ⟨y,hy,h1,h2,_⟩=>by
     rw[hv] at hy;cases hy
     rcases c with c|c
     ·exact c h1
     ·exact h2 c
    rw[if_neg (by simpa using this),List.append_nil,ha]
   ·rw[if_neg (by simpa using c)]
    have hk:x.kind=1:=Decidable.byContradiction fun h=>c (.inl h)
    have hne:(i:Int)∉elems r:=fun h=>c (.inr h)
    rw[qtX N hN hl hon acc hv hk,qaa,hpe]
    have hiff:Exps l r s fi la i↔(Rch (vS l (elems r) (atP s) fi la (id:Spot→Spot)) (Spot.mk i x.a)∨Rch (vS l (elems r) (atP s) fi la (id:Spot→Spot)) (Spot.mk i x.b)):=by
     constructor
     ·rintro ⟨y,hy,_,_,h⟩
      rw[hv] at hy;cases hy;exact h
     ·exact fun h=>⟨x,hv,hk,hne,h⟩
    by_cases hE:Exps l r s fi la i
    ·rw[if_pos (decide_eq_true (hiff.1 hE)),if_pos (decide_eq_true hE),qaF (by simp;omega),qaa,ha,List.map_append]
     rfl
    ·rw[if_neg (by simpa using fun h=>hE (hiff.2 h)),if_neg (by simpa using hE),List.append_nil,ha]
  rw[e1,qaa,w64s (by omega)]
  exact qhF N hN hl hon hm k n (i+1) _ (by omega) (by omega) rfl
theorem qAH (N:Nat) {l:List PlantElement} (hl:l.length≤96) {r:List Visit} {s:List Setting} (hr:r.length≤1000) (hs:s.length≤1000) (hN:3000≤N):
  (¬RtP l r∧zaO N l r s=some ([],1))∨(RtP l r∧¬KnP l s∧zaO N l r s=some ([],2))∨(RtP l r∧KnP l s∧zaO N l r s=some (exps l r s (endR r).1 (endR r).2,0)):=by
 obtain ⟨b,h1,h2⟩:=qgv N (l:=l) (r:=r) (by omega) (by omega) (by omega)
 unfold zaO
 rw[h1,qaa]
 cases b with
 |false=>exact .inl ⟨fun h=>(by have:=h2.2 h;cases this),rfl⟩
 |true=>
  have hR:=h2.1 rfl
  rw[if_neg (by simp)]
  rcases qoK N hl hs (by omega) with ⟨m,k1,k2,k3⟩|⟨k1,k2⟩
  ·rw[k1,qaa,if_neg (by simp)]
   obtain ⟨onm,o1,o2⟩:=qnB N (r:=r) (by omega) (by omega)
   have h2r:=hR.2.1.two
   have e0:=qap (xs:=r) (i:=0) (by omega)
   have e1:=qap (xs:=r) (i:=r.length - 1) (by omega)
   have hw:IntKind.wrap .i64 ((r.length:Int) - 1)=((r.length - 1:Nat):Int):=by rw[w64 (by omega) (by omega)];omega
   rw[o1,qaa,show getI r 0=some r[0] from qae (i:=0) e0,qaa,hw,qae e1,qaa]
   refine .inr (.inr ⟨hR,k2, ?_⟩)
   have he:endR r=(r[0].element,r[r.length - 1].element):=by unfold endR;rw[e0,e1];rfl
   rw[he,show qiU N l m r[0].element r[r.length - 1].element l (l.length:Int) onm N [] 0=_ from qhF N (by omega) hl o2 k3 l.length N 0 [] (by omega) (by omega) rfl]
   rfl
  ·rw[k1,qaa,if_pos (by simp)]
   exact .inr (.inl ⟨hR,k2,rfl⟩)
end Go.W
end
section
set_option linter.unusedVariables false
set_option linter.unusedSimpArgs false
namespace Go.W
open Go.AM
theorem qzH (N:Nat) {s:List Setting} (hs:s.length≤1000000) (hN:s.length<N) (a:Int):zcP N s a=some (atP s a):=by
 have h:=qau (l:=s) (fun _ y=>y.element==a) (fun _ y=>y.position) (qi0 N s a) (fun n=>by
  rw[qi0,if_neg (dneg (by omega))]) (fun n i y hy=>by
  have hlt:=(List.getElem?_eq_some_iff.1 hy).1
  rw[qi0,if_pos (dpos (by omega)),qae hy,qaa,qaa,qad,w64s (by omega)]) s.length N 0 hN (by omega)
 have hr:∀(q:List Setting) (i:Nat),res (fun _ y=>y.element==a) (fun _ (y:Setting)=>y.position) i q=match q.find? (fun y=>y.element==a) with|some y=> .inr y.position|none=> .inl ():=by
  intro q
  induction q with
  |nil=>intro i;rfl
  |cons y q ih=>
   intro i
   rw[res,List.find?_cons]
   cases hy:(y.element==a) with
   |true=>rfl
   |false=>simpa using ih (i+1)
 unfold zcP
 rw[show qi0 N s a N 0=_ from h,qaa,List.drop_zero,hr]
 unfold atP
 cases s.find? (fun y=>y.element==a)<;>rfl
theorem qmd (N:Nat) {l:List PlantElement} (hl:l.length≤96) {s:List Setting} (hs:s.length≤1000) (hN:s.length<N):∀(k n i:Nat),k<n→i+k=s.length→(∀(j:Nat) y,j<i→s[j]? =some y→ok1 l y∧∀z∈s.take j,z.element≠y.element)→
  (qg1 N l s n i=some (.inl ())∧KnP l s)∨(qg1 N l s n i=some (.inr false)∧¬KnP l s)
 |k,0,i,hn,_,_=>by omega
 |0,n+1,i,hn,hi,hok=>by
  obtain rfl:i=s.length:=by omega
  rw[qg1,if_neg (dneg (by omega))]
  exact .inl ⟨rfl,fun j y hj=>hok j y (List.getElem?_eq_some_iff.1 hj).1 hj⟩
 |k+1,n+1,i,hn,hi,hok=>by
  have hv:=qap (xs:=s) (i:=i) (by omega)
  obtain ⟨y,hy⟩:∃y,y=s[i]:=⟨_,rfl⟩
  rw[←hy] at hv
  rw[qg1,if_pos (dpos (by omega))]
  have hall:∀z∈s.take i,ok1 l z:=fun z hz=>by
   obtain ⟨j,hj,hz⟩:=qgl.1 hz
   exact (hok j z hj hz).1
  have e1:qu2 N l s i=some (decide (y.element<0∨(l.length:Int)≤y.element∨∃z∈s.take i,z.element=y.element)):=by
   unfold qu2
   rw[qae hv,qaa]
   by_cases h1:y.element<0
   ·rw[if_pos (dpos h1)];simp[h1]
   ·rw[if_neg (dneg h1),qaa]
    by_cases h2:(l.length:Int)≤y.element
    ·rw[if_pos (lpos h2)];simp[h2]
    ·rw[if_neg (lneg h2),qbF (by omega),qaa,qaa,qzH N (by rw[List.length_take];omega) (by rw[List.length_take];omega),qaa]
     congr 1
     rw[Bool.eq_iff_iff]
     have:=qxE hall y.element
     simp only[bne_iff_ne,ne_eq,decide_eq_true_eq,h1,h2,false_or]
     exact this
  have hstep:(qr0 N l s i=some (.inl ())∧ok1 l y∧∀z∈s.take i,z.element≠y.element)∨(qr0 N l s i=some (.inr false)∧¬KnP l s):=by
   unfold qr0
   rw[e1,qaa]
   by_cases c1:y.element<0∨(l.length:Int)≤y.element∨∃z∈s.take i,z.element=y.element
   ·rw[if_pos (by simpa using c1)]
    refine .inr ⟨rfl,fun hK=> ?_⟩
    obtain ⟨⟨k1,x,k2,_⟩,k3⟩:=hK i y hv
    rcases c1 with c1|c1|⟨z,hz,c1⟩
    ·omega
    ·have:=(List.getElem?_eq_some_iff.1 k2).1
     omega
    ·exact k3 z hz c1
   ·rw[if_neg (by simpa using c1),qae hv,qaa,qaa]
    have c1a:0≤y.element∧y.element<l.length:=by
     constructor
     ·exact Int.not_lt.1 fun h=>c1 (.inl h)
     ·exact Int.not_le.1 fun h=>c1 (.inr (.inl h))
    have hno:∀z∈s.take i,z.element≠y.element:=fun z hz he=>c1 (.inr (.inr ⟨z,hz,he⟩))
    obtain ⟨a,ha⟩:=Int.eq_ofNat_of_zero_le c1a.1
    have hx:=qap (xs:=l) (i:=a) (by omega)
    obtain ⟨x,hxe⟩:∃x,x=l[a]:=⟨_,rfl⟩
    rw[←hxe] at hx
    have hx':l[y.element.toNat]? =some x:=by rw[ha,Int.toNat_natCast];exact hx
    have hiff:ok1 l y↔((x.kind=2∧(y.position=1∨y.position=2))∨(x.kind=3∧(y.position=3∨y.position=4))):=by
     unfold ok1
     rw[hx']
     constructor
     ·rintro ⟨_,x',hx2,h⟩
      cases hx2;exact h
     ·exact fun h=>⟨c1a.1,x,rfl,h⟩
    rw[qeI c1a.1 hx',qaa,qad]
    by_cases h2:x.kind=2
    ·rw[if_pos (by simpa using h2)]
     have e3:qu3 N y.position=some (decide (¬(y.position=1∨y.position=2))):=by
      unfold qu3
      by_cases h:y.position=1
      ·rw[if_neg (by simpa using h)];simp[h]
      ·rw[if_pos (by simpa using h)];congr 1;rw[Bool.eq_iff_iff];simp[h]
     rw[e3,qaa]
     by_cases hp:y.position=1∨y.position=2
     ·rw[if_neg (by rw[decide_eq_true_eq];exact fun h=>h hp)];exact .inl ⟨rfl,hiff.2 (.inl ⟨h2,hp⟩),hno⟩
     ·rw[if_pos (by simpa using hp)]
      exact .inr ⟨rfl,fun hK=>by rcases hiff.1 (hK i y hv).1 with h|h;exact hp h.2;omega⟩
    ·rw[if_neg (by simpa using h2),qad]
     by_cases h3:x.kind=3
     ·rw[if_pos (by simpa using h3)]
      have e3:qu4 N y.position=some (decide (¬(y.position=3∨y.position=4))):=by
       unfold qu4
       by_cases h:y.position=3
       ·rw[if_neg (by simpa using h)];simp[h]
       ·rw[if_pos (by simpa using h)];congr 1;rw[Bool.eq_iff_iff];simp[h]
      rw[e3,qaa]
      by_cases hp:y.position=3∨y.position=4
      ·rw[if_neg (by rw[decide_eq_true_eq];exact fun h=>h hp)];exact .inl ⟨rfl,hiff.2 (.inr ⟨h3,hp⟩),hno⟩
      ·rw[if_pos (by simpa using hp)]
       exact .inr ⟨rfl,fun hK=>by rcases hiff.1 (hK i y hv).1 with h|h;exact h2 h.1;exact hp h.2⟩
     ·rw[if_neg (by simpa using h3)]
      exact .inr ⟨rfl,fun hK=>by rcases hiff.1 (hK i y hv).1 with h|h;exact h2 h.1;exact h3 h.1⟩
  rcases hstep with ⟨g1,g2,g3⟩|⟨g1,g2⟩
  ·rw[g1,qaa]
   dsimp only
   rw[qad,w64s (by omega)]
   refine qmd N hl hs hN k n (i+1) (by omega) (by omega) (fun j z hj hz=> ?_)
   by_cases hji:j=i
   ·subst hji;rw[hv] at hz;cases hz;exact ⟨g2,g3⟩
   ·exact hok j z (by omega) hz
  ·rw[g1,qaa]
   exact .inr ⟨rfl,g2⟩
theorem qo4 (N:Nat) {l:List PlantElement} (hl:l.length≤96) {s:List Setting} (hs:s.length≤1000) (hN:s.length<N):(zcB N l s=some true∧KnP l s)∨(zcB N l s=some false∧¬KnP l s):=by
 unfold zcB
 rcases qmd N hl hs hN s.length N 0 hN (by omega) (fun j y hj=>by omega) with ⟨h1,h2⟩|⟨h1,h2⟩
 ·exact .inl ⟨by rw[show qg1 N l s N 0=_ from h1];rfl,h2⟩
 ·exact .inr ⟨by rw[show qg1 N l s N 0=_ from h1];rfl,h2⟩
abbrev SpR:=List (S109×Bool)
def keyR (l:List PlantElement) (v:Spot):S109:=S109.mk (nbr l v.element v.node) v.node
def skp (x:PlantElement) (p n m:Int):Bool:=decide (x.kind=2∧n=x.a∧((p=1∧m=x.c)∨(p=2∧m=x.b)))
theorem qGk {x:PlantElement} (hx:qaP x=true) {p n:Int} (hn:n∈qag x) (hd:¬(x.kind=3∧p=4)):(thrE (qag x) n).filter (fun m=> !skp x p n m)=onwE x p n:=by
 unfold onwE
 rw[if_neg hd]
 by_cases h2:x.kind=2
 ·have hnd:=(qaE hx).1
  have he:qag x=[x.a,x.b,x.c]:=by unfold qag;rw[if_neg (by omega),if_pos h2]
  rw[he] at hnd hn⊢
  simp at hnd hn
  by_cases ha:n=x.a
  ·have ht:thrE [x.a,x.b,x.c] n=[x.b,x.c]:=by
    unfold thrE
    rw[if_pos (by simp[ha]),if_pos (by simp[ha])]
    rfl
   rw[ht]
   by_cases p1:p=1
   ·have:¬x.b=x.c:=hnd.2
    simp[h2,ha,p1,skp,this]
   ·by_cases p2:p=2
    ·have:¬x.c=x.b:=fun h=>hnd.2 h.symm
     simp[h2,ha,p2,skp,this]
    ·simp[h2,ha,p1,p2,skp]
  ·rw[if_neg (fun h=>ha h.2.1),if_neg (fun h=>ha h.2.1)]
   refine List.filter_eq_self.2 fun m _=> ?_
   simp[skp,ha]
 ·rw[if_neg (fun h=>h2 h.1),if_neg (fun h=>h2 h.1)]
  refine List.filter_eq_self.2 fun m _=> ?_
  simp[skp,h2]
theorem qub (N:Nat) (self:List Int→List PlantElement→List Visit→List Setting→Int→Int→SpR→Option (Bool×SpR)) (x:PlantElement) (p n:Int) {o:List Int} {j:Nat} {m:Int} (hm:o[j]? =some m):quJ N self n x p o j=some (skp x p n m):=by
 unfold quJ skp
 by_cases h2:x.kind=2
 ·rw[if_pos (by simpa using h2)]
  by_cases ha:n=x.a
  ·rw[if_pos (by simpa using ha)]
   by_cases p1:p=1
   ·rw[if_pos (by simpa using p1),qae hm,qaa]
    by_cases hc:m=x.c
    ·rw[if_pos (by simpa using hc)];simp[h2,ha,p1,hc]
    ·rw[if_neg (by simpa using hc),if_neg (by rw[p1];simp)];simp[h2,ha,p1,hc]
   ·rw[if_neg (by simpa using p1)]
    by_cases p2:p=2
    ·rw[if_pos (by simpa using p2),qae hm,qaa]
     congr 1
     rw[Bool.eq_iff_iff]
     simp[h2,ha,p2]
    ·rw[if_neg (by simpa using p2)];simp[p1,p2]
  ·rw[if_neg (by simpa using ha)];simp[ha]
 ·rw[if_neg (by simpa using h2)];simp[h2]
def sumR {K:Type} (r:Bool×List (K×Bool)):Sum (List (K×Bool)) (List (K×Bool)×Bool):=if r.1=true then .inr (r.2,true) else .inl r.2
theorem qAR (N:Nat) (self:List Int→List PlantElement→List Visit→List Setting→Int→Int→SpR→Option (Bool×SpR)) (x8:List Int) (l:List PlantElement) (r:List Visit) (s:List Setting) (n0 k0:Int) (x:PlantElement) (p:Int) {o:List Int} (ho:o.length≤1000):
  ∀(k n i:Nat) (t:SpR),k<n→i+k=o.length→qm7 N self x8 l r s n0 k0 x p o n t i=Option.bind (lpF (fun (v:Spot) t=>self x8 l r s v.element v.node t) (((o.drop i).filter fun m=> !skp x p n0 m).map (Spot.mk k0)) t) fun r=>some (sumR r)
 |k,0,i,t,hn,_=>by omega
 |0,n+1,i,t,hn,hi=>by
  obtain rfl:i=o.length:=by omega
  rw[qm7,if_neg (dneg (by omega)),List.drop_length]
  rfl
 |k+1,n+1,i,t,hn,hi=>by
  have hv:=qap (xs:=o) (i:=i) (by omega)
  rw[qm7,if_pos (dpos (by omega)),qbe hv,List.filter_cons]
  unfold qBn
  rw[qub N self x p n0 hv,qaa]
  cases hsk:skp x p n0 o[i] with
  |true=>
   rw[if_pos rfl,qaa]
   dsimp only
   rw[qad,w64s (by omega)]
   simpa using qAR N self x8 l r s n0 k0 x p ho k n (i+1) t (by omega) (by omega)
  |false=>
   rw[if_neg (by simp),qae hv,qaa,if_pos (by simp),List.map_cons,lpF]
   cases hs:self x8 l r s k0 o[i] t with
   |none=>rfl
   |some q=>
    obtain ⟨b,t'⟩:=q
    cases b with
    |true=>rfl
    |false=>
     rw[qaa,qaa]
     simp only[Bool.false_eq_true,if_false,qaa]
     rw[qad,w64s (by omega)]
     exact qAR N self x8 l r s n0 k0 x p ho k n (i+1) t' (by omega) (by omega)
theorem qAN (N:Nat) (hN:3000≤N) {l:List PlantElement} (hP:PlOk l) {r:List Visit} (hr:r.length≤1000) (h2:2≤r.length) {s:List Setting} (hs:s.length≤1000) (x8:List Int) (rc:Nat) (v:Spot) (t:SpR):
  zaZ N (rc+1) x8 l r s v.element v.node t=if (vS l (elems r) (atP s) (endR r).1 (endR r).2 (keyR l)).dead v=true∨Sn (vS l (elems r) (atP s) (endR r).1 (endR r).2 (keyR l)) t v then some (false,t) else if (vS l (elems r) (atP s) (endR r).1 (endR r).2 (keyR l)).fin v=true then some ((vS l (elems r) (atP s) (endR r).1 (endR r).2 (keyR l)).hit v,qas t (keyR l v) true)
   else lpF (fun v t=>zaZ N rc x8 l r s v.element v.node t) ((vS l (elems r) (atP s) (endR r).1 (endR r).2 (keyR l)).suc v) (qas t (keyR l v) true):=by
 have hl:=hP.len
 rw[zaZ,qdR N (by omega) (by omega),qaa]
 have e0:quH N (zaZ N rc) v.node t (nbr l v.element v.node)=some (decide (nbr l v.element v.node<0∨(qaf t (keyR l v)).getD false=true)):=by
  unfold quH
  by_cases h:nbr l v.element v.node<0
  ·rw[if_pos (dpos h)];simp[h]
  ·rw[if_neg (dneg h),qad]
   congr 1
   rw[Bool.eq_iff_iff]
   simp[h,keyR]
 rw[e0,qaa]
 by_cases c:nbr l v.element v.node<0∨(qaf t (keyR l v)).getD false=true
 ·rw[if_pos (by simpa using c),if_pos (by simpa[vS,Sn] using c)]
 rw[if_neg (by simpa using c),if_neg (by simpa[vS,Sn] using c),qad,qcw N (by omega) (by omega),qaa]
 have h0:0≤nbr l v.element v.node:=by omega
 have e0:=qap (xs:=r) (i:=0) (by omega)
 have e1:=qap (xs:=r) (i:=r.length - 1) (by omega)
 have hw:IntKind.wrap .i64 ((r.length:Int) - 1)=((r.length - 1:Nat):Int):=by rw[w64 (by omega) (by omega)];omega
 have he:endR r=(r[0].element,r[r.length - 1].element):=by unfold endR;rw[e0,e1];rfl
 by_cases c2:(elems r).contains (nbr l v.element v.node)=true
 ·rw[if_pos c2,if_pos (show (vS l (elems r) _ _ _ (keyR l)).fin v=true from c2)]
  unfold qBm
  rw[show getI r 0=some r[0] from qae (i:=0) e0,qaa]
  by_cases c3:nbr l v.element v.node=r[0].element
  ·rw[if_neg (by simpa using c3),qaa]
   simp[vS,he,c3,keyR]
  ·rw[if_pos (by simpa using c3),hw,qae e1,qaa,qad,qaa]
   simp[vS,he,c3,keyR]
 ·rw[if_neg c2,if_neg (show ¬(vS l (elems r) _ _ _ (keyR l)).fin v=true from c2)]
  obtain ⟨x,hx,hxI,hnx,hxm⟩:=qjr h0
  rw[hxI,qaa,qzH N (by omega) (by omega),qaa,qiI N (by omega),qaa]
  have e2:quI N (zaZ N rc) x (atP s (nbr l v.element v.node))=some (decide (x.kind=3∧atP s (nbr l v.element v.node)=4)):=by
   unfold quI
   by_cases h:x.kind=3
   ·rw[if_pos (by simpa using h)];congr 1;rw[Bool.eq_iff_iff];simp[h]
   ·rw[if_neg (by simpa using h)];simp[h]
  rw[e2,qaa]
  have hsuc:(vS l (elems r) (atP s) (endR r).1 (endR r).2 (keyR l)).suc v=(onwE x (atP s (nbr l v.element v.node)) v.node).map (Spot.mk (nbr l v.element v.node)):=by
   show (onw l (atP s) _ _).map _=_
   unfold onw
   rw[if_pos h0,hx]
  rw[hsuc]
  by_cases c3:x.kind=3∧atP s (nbr l v.element v.node)=4
  ·rw[if_pos (by simpa using c3)]
   unfold onwE
   rw[if_pos c3]
   rfl
  ·rw[if_neg (by simpa using c3),←qGk (hP.snd x hxm) hnx c3]
   have ht:thr l (nbr l v.element v.node) v.node=thrE (qag x) v.node:=by unfold thr;rw[qif h0 hx]
   have htl:=qdV l (nbr l v.element v.node) v.node
   refine (congrArg (fun q=>Option.bind q _) (qAR N (zaZ N rc) x8 l r s v.node (nbr l v.element v.node) x (atP s (nbr l v.element v.node)) (o:=thr l (nbr l v.element v.node) v.node) (by omega) (thr l (nbr l v.element v.node) v.node).length N 0 (qas t (keyR l v) true) (by omega) (by omega))).trans ?_
   rw[List.drop_zero,ht]
   cases hq:lpF (fun (v:Spot) t=>zaZ N rc x8 l r s v.element v.node t) (((thrE (qag x) v.node).filter fun m=> !skp x (atP s (nbr l v.element v.node)) v.node m).map (Spot.mk (nbr l v.element v.node))) (qas t (keyR l v) true) with
   |none=>rfl
   |some q=>
    obtain ⟨b,t'⟩:=q
    cases b<;>rfl
theorem qsq {l:List PlantElement} (hP:PlOk l) {v u:Spot} (hv:v∈allS l) (hu:u∈allS l) (h0:0≤nbr l v.element v.node) (h:keyR l v=keyR l u):v=u:=by
 simp only[keyR,S109.mk.injEq] at h
 obtain ⟨a,n⟩:=v
 obtain ⟨b,m⟩:=u
 simp only at h h0
 obtain ⟨h1,rfl⟩:=h
 rw[qbh] at hv hu
 have e1:=hP.nbr_sym hv h0
 have e2:=hP.nbr_sym hu (by show 0≤nbr l b n;omega)
 simp only at e1 e2
 rw[h1] at e1
 rw[←e1,e2]
open Classical in
theorem qt9 (N:Nat) (hN:3000≤N) {l:List PlantElement} (hP:PlOk l) {r:List Visit} (hr:r.length≤1000) (h2:2≤r.length) {s:List Setting} (hs:s.length≤1000) (x8:List Int) {i:Nat} {x:PlantElement} (hx:l[i]? =some x) (hk:x.kind=1):
  quR N l r s x8 i=some (decide (Rch (vS l (elems r) (atP s) (endR r).1 (endR r).2 (id:Spot→Spot)) (Spot.mk i x.a)∨Rch (vS l (elems r) (atP s) (endR r).1 (endR r).2 (id:Spot→Spot)) (Spot.mk i x.b))):=by
 obtain ⟨S,hS⟩:∃S,S=vS l (elems r) (atP s) (endR r).1 (endR r).2 (keyR l):=⟨_,rfl⟩
 have hkey:∀v,Rch (vS l (elems r) (atP s) (endR r).1 (endR r).2 (id:Spot→Spot)) v↔Rch S v:=fun v=>by rw[hS];exact ⟨qoS,qoS⟩
 rw[hkey,hkey]
 have he:qag x=[x.a,x.b]:=by unfold qag;rw[if_pos (.inl hk)]
 have ha:Spot.mk i x.a∈allS l:=by rw[qbh];show x.a∈eI l (i:Int);rw[qcM hx,he];simp
 have hb:Spot.mk i x.b∈allS l:=by rw[qbh];show x.b∈eI l (i:Int);rw[qcM hx,he];simp
 have hU:∀v∈allS l,∀u∈S.suc v,u∈allS l:=by rw[hS];exact qzx
 have D:=dfs (S:=S) hU (by
   rw[hS]
   intro v hv u hu hd _ hkk
   exact qsq hP hv hu (by simpa[vS] using hd) hkk) (by
   rw[hS]
   intro v hv u hu hkk
   have hkk:keyR l v=keyR l u:=hkk
   simp only[keyR,S109.mk.injEq] at hkk
   show decide _=decide _
   rw[hkk.1]) (fun rc v t=>zaZ N rc x8 l r s v.element v.node t) (fun rc v t hv=>by rw[hS];exact qAN N hN hP hr h2 hs x8 rc v t)
 obtain ⟨b1,s1,g1,g2⟩:=D N (Spot.mk i x.a) [] ha (by have:=qjo S l hP.len [];omega)
 obtain ⟨b2,s2,g3,g4⟩:=D N (Spot.mk i x.b) [] hb (by have:=qjo S l hP.len [];omega)
 have r1:=ql0 hU ha g2
 have r2:=ql0 hU hb g4
 unfold quR
 rw[qae hx,qaa,show zaZ N N x8 l r s i x.a []=_ from g1,qaa]
 cases b1 with
 |true=>rw[if_pos rfl];simp[r1.1 rfl]
 |false=>
  rw[if_neg (by simp),qaa,show zaZ N N x8 l r s i x.b []=_ from g3,qaa]
  have n1:¬Rch S (Spot.mk i x.a):=fun h=>by have:=r1.2 h;cases this
  cases b2 with
  |true=>simp[r2.1 rfl]
  |false=>
   have n2:¬Rch S (Spot.mk i x.b):=fun h=>by have:=r2.2 h;cases this
   simp[n1,n2]
open Classical in
theorem qhJ (N:Nat) (hN:3000≤N) {l:List PlantElement} (hP:PlOk l) {r:List Visit} (hr:r.length≤1000) (h2:2≤r.length) {s:List Setting} (hs:s.length≤1000):∀(k n i:Nat) (acc:List Int),k<n→i+k=l.length→
  acc=((List.range i).filter fun i=>decide (Exps l r s (endR r).1 (endR r).2 i)).map (fun (i:Nat)=>(i:Int))→qiW N l r s n acc i=some (exps l r s (endR r).1 (endR r).2)
 |k,0,i,acc,hn,_,_=>by omega
 |0,n+1,i,acc,hn,hi,ha=>by
  obtain rfl:i=l.length:=by omega
  rw[qiW,if_neg (dneg (by omega)),ha]
  rfl
 |k+1,n+1,i,acc,hn,hi,ha=>by
  have hl:=hP.len
  have hv:=qap (xs:=l) (i:=i) (by omega)
  obtain ⟨x,hxe⟩:∃x,x=l[i]:=⟨_,rfl⟩
  rw[←hxe] at hv
  rw[qiW,if_pos (dpos (by omega))]
  have hacc:acc.length≤96:=by
   rw[ha,List.length_map]
   have:=List.length_filter_le (fun i=>decide (Exps l r s (endR r).1 (endR r).2 i)) (List.range i)
   rw[List.length_range] at this
   omega
  have e1:quP N l r s acc i=some (((List.range (i+1)).filter fun i=>decide (Exps l r s (endR r).1 (endR r).2 i)).map (fun (i:Nat)=>(i:Int))):=by
   unfold quP
   have e2:quQ N l r i=some (decide (x.kind≠1∨(i:Int)∈elems r)):=by
    unfold quQ
    rw[qae hv,qaa]
    by_cases h:x.kind=1
    ·rw[if_neg (by simpa using h),qcw N (by omega) (by omega),qaa,List.contains_eq_mem];simp[h]
    ·rw[if_pos (by simpa using h)];simp[h]
   rw[e2,qaa,qeE]
   by_cases c:x.kind≠1∨(i:Int)∈elems r
   ·rw[if_pos (by simpa using c)]
    have:¬Exps l r s (endR r).1 (endR r).2 i:=fun ⟨y,hy,h1,h2,_⟩=>by
     rw[hv] at hy;cases hy
     rcases c with c|c
     ·exact c h1
     ·exact h2 c
    rw[if_neg (by simpa using this),List.append_nil,ha]
   ·rw[if_neg (by simpa using c)]
    have hk:x.kind=1:=Decidable.byContradiction fun h=>c (.inl h)
    have hne:(i:Int)∉elems r:=fun h=>c (.inr h)
    rw[qt9 N hN hP hr h2 hs acc hv hk,qaa]
    have hiff:Exps l r s (endR r).1 (endR r).2 i↔(Rch (vS l (elems r) (atP s) (endR r).1 (endR r).2 (id:Spot→Spot)) (Spot.mk i x.a)∨Rch (vS l (elems r) (atP s) (endR r).1 (endR r).2 (id:Spot→Spot)) (Spot.mk i x.b)):=by
     constructor
     ·rintro ⟨y,hy,_,_,h⟩
      rw[hv] at hy;cases hy;exact h
     ·exact fun h=>⟨x,hv,hk,hne,h⟩
    by_cases hE:Exps l r s (endR r).1 (endR r).2 i
    ·rw[if_pos (decide_eq_true (hiff.1 hE)),if_pos (decide_eq_true hE),qaF (by simp;omega),qaa,ha,List.map_append]
     rfl
    ·rw[if_neg (by simpa using fun h=>hE (hiff.2 h)),if_neg (by simpa using hE),List.append_nil,ha]
  rw[e1,qaa,qad,w64s (by omega)]
  exact qhJ N hN hP hr h2 hs k n (i+1) _ (by omega) (by omega) rfl
theorem qAP (N:Nat) {l:List PlantElement} (hl:l.length≤96) {r:List Visit} {s:List Setting} (hr:r.length≤1000) (hs:s.length≤1000) (hN:3000≤N) (hnm:∀x∈l,x.name.length<N∧x.name.length≤9223372036854775807):
  (¬RtP l r∧zbH N l r s=some ([],1))∨(RtP l r∧¬KnP l s∧zbH N l r s=some ([],2))∨(RtP l r∧KnP l s∧zbH N l r s=some (exps l r s (endR r).1 (endR r).2,0)):=by
 obtain ⟨b,h1,h2⟩:=qiC N (l:=l) (r:=r) (by omega) (by omega) (by omega) (fun _=>hnm)
 unfold zbH
 rw[h1,qaa]
 cases b with
 |false=>exact .inl ⟨fun h=>(by have:=h2.2 h;cases this),rfl⟩
 |true=>
  have hR:=h2.1 rfl
  rw[if_neg (by simp)]
  rcases qo4 N hl hs (by omega) with ⟨k1,k2⟩|⟨k1,k2⟩
  ·rw[k1,qaa,if_neg (by simp)]
   refine .inr (.inr ⟨hR,k2, ?_⟩)
   rw[show qiW N l r s N [] 0=_ from qhJ N hN (PlOk.of hR.1) hr hR.2.1.two hs l.length N 0 [] (by omega) (by omega) rfl]
   rfl
  ·rw[k1,qaa,if_pos (by simp)]
   exact .inr (.inl ⟨hR,k2,rfl⟩)
end Go.W
end
section
set_option linter.unusedVariables false
set_option linter.unusedSimpArgs false
namespace Go.W
open Go.AM
theorem qt5 (N:Nat) {s:List Setting} {x:Setting} (hl:s.length≤100000) (hN:s.length<N) (hs:s.Pairwise fun a b=>a.element<b.element) {y:Setting} (hy:y∈s) (he:y.element=x.element):zcO N s x=some s:=by
 obtain ⟨i,h1,h2,h3,h4⟩:=qgy N (s:=s) (x:=x) hl s.length N hN (Nat.le_refl _) (fun j y hj hy=>by
  have:=(List.getElem?_eq_some_iff.1 hy).1
  omega)
 obtain ⟨j,hj⟩:=List.getElem?_of_mem hy
 obtain ⟨hjl,hje⟩:=List.getElem?_eq_some_iff.1 hj
 have hij:i≤j:=by
  refine Nat.le_of_not_lt fun hlt=> ?_
  have hi1:=qap (xs:=s) (i:=i - 1) (by omega)
  have hb:=h4 _ (by omega) hi1
  by_cases hji:j=i - 1
  ·rw[hji,hi1] at hj
   have hj:=Option.some.inj hj
   rw[hj] at hb;omega
  ·have:=List.pairwise_iff_getElem.1 hs j (i - 1) hjl (by omega) (by omega)
   rw[hje] at this
   omega
 have hv:=qap (xs:=s) (i:=i) (by omega)
 have hge:=h3 i _ (Nat.le_refl _) hv
 have hle:s[i].element=x.element:=by
  by_cases h:i=j
  ·subst h
   rw[hv] at hj
   have hj:=Option.some.inj hj
   rw[hj];exact he
  ·have:=List.pairwise_iff_getElem.1 hs i j (by omega) hjl (by omega)
   rw[hje] at this
   omega
 unfold zcO
 rw[qad,h1,qaa]
 have hp2:qne N s x i=some true:=by
  unfold qne
  rw[if_pos (dpos (by omega)),qae hv,qaa]
  simp[hle]
 rw[hp2,qaa,if_pos rfl]
abbrev OutM:=List (Int×Int)
structure OutOk (l:List PlantElement) (on:List Int) (out:OutM):Prop where
 nd:(out.map Prod.fst).Nodup
 ok:∀i p,qaf out i=some p→0≤i∧i∉on∧∃x,l[i.toNat]? =some x∧((x.kind=2∧(p=1∨p=2))∨(x.kind=3∧p=4))
structure NeedR (out:OutM) (need:List Setting):Prop where
 lt:need.Pairwise fun a b=>a.element<b.element
 mem:∀y,y∈need↔qaf out y.element=some y.position
theorem qGe {s:List Setting} (hs:s.Pairwise fun a b=>a.element<b.element) {n:Nat} (h:∀y∈s,0≤y.element∧y.element<n):s.length≤n:=by
 have hnd:(s.map Setting.element).Nodup:=by
  unfold List.Nodup
  rw[List.pairwise_map]
  exact hs.imp fun h he=>by omega
 have:=qer (b:=(List.range n).map fun (i:Nat)=>(i:Int)) hnd fun a ha=>by
  obtain ⟨y,hy,rfl⟩:=List.mem_map.1 ha
  have:=h y hy
  exact List.mem_map.2 ⟨y.element.toNat,List.mem_range.2 (by omega),by omega⟩
 simpa using this
theorem NeedR.at {l:List PlantElement} {on:List Int} {out:OutM} {need:List Setting} (h:NeedR out need) (ho:OutOk l on out) (i:Int):atP need i=(qaf out i).getD 0:=by
 unfold atP
 cases hf:need.find? (fun y=>y.element==i) with
 |none=>
  cases hg:qaf out i with
  |none=>rfl
  |some p=>
   have:Setting.mk i p∈need:=(h.mem _).2 hg
   have:=List.find?_eq_none.1 hf _ this
   simp at this
 |some y=>
  have h1:=List.mem_of_find?_eq_some hf
  have h2:=List.find?_some hf
  have h2:y.element=i:=by simpa using h2
  have:=(h.mem y).1 h1
  rw[h2] at this
  rw[this];rfl
theorem OutOk.len {l:List PlantElement} {on:List Int} {out:OutM} {need:List Setting} (ho:OutOk l on out) (h:NeedR out need):need.length≤l.length:=qGe h.lt fun y hy=>by
 obtain ⟨h0,_,x,hx,_⟩:=ho.ok _ _ ((h.mem y).1 hy)
 have:=(List.getElem?_eq_some_iff.1 hx).1
 omega
theorem qhy {α β:Type} [DecidableEq α]:∀{m:List (α×β)} {k:α} {v:β},(m.map Prod.fst).Nodup→((qas m k v).map Prod.fst).Nodup∧∀a,a∈(qas m k v).map Prod.fst→a=k∨a∈m.map Prod.fst
 |[],k,v,_=>by simp[qas]
 |p::m,k,v,h=>by
  rw[List.map_cons,List.nodup_cons] at h
  simp only[qas]
  by_cases hk:p.1=k
  ·rw[if_pos hk]
   rw[List.map_cons,List.nodup_cons]
   exact ⟨h,fun a ha=> .inr ha⟩
  ·rw[if_neg hk,List.map_cons,List.nodup_cons]
   obtain ⟨h1,h2⟩:=qhy (k:=k) (v:=v) h.2
   refine ⟨⟨fun hh=> ?_,h1⟩,fun a ha=> ?_⟩
   ·rcases h2 _ hh with h3|h3
    ·exact hk h3
    ·exact h.1 h3
   ·rcases List.mem_cons.1 ha with h3|h3
    ·exact .inr (by rw[h3];simp)
    ·rcases h2 _ h3 with h4|h4
     ·exact .inl h4
     ·exact .inr (by simp[h4])
theorem qAr (N:Nat) (hN:3000≤N) {l:List PlantElement} (hl:l.length≤96) {on:List Int} {out:OutM} {need:List Setting} (ho:OutOk l on out) (hn:NeedR out need) {i p:Int} {x:PlantElement} (h0:0≤i) (hon:i∉on) (hx:l[i.toNat]? =some x) (hp:(x.kind=2∧(p=1∨p=2))∨(x.kind=3∧p=4)):
  (zaE N i p out=some (17,out)∧atP need i≠0∧atP need i≠p)∨
  (∃need',zaE N i p out=some (0,qas out i p)∧(atP need i=0∨atP need i=p)∧zcO N need (Setting.mk i p)=some need'∧OutOk l on (qas out i p)∧NeedR (qas out i p) need'∧∀j q,qaf out j=some q→qaf (qas out i p) j=some q):=by
 have hat:=hn.at ho i
 have hlen:=ho.len hn
 have e0:qup N p ((qaf out i).getD 0) (qaf out i).isSome=some (decide (∃q,qaf out i=some q∧q≠p)):=by
  unfold qup
  cases hg:qaf out i with
  |none=>simp
  |some q=>
   simp only[Option.isSome_some,if_true,Option.getD_some]
   congr 1
   rw[Bool.eq_iff_iff]
   simp
 unfold zaE
 rw[qad,qad,e0,qaa]
 by_cases hc:∃q,qaf out i=some q∧q≠p
 ·rw[if_pos (by simpa using hc)]
  obtain ⟨q,hq,hqp⟩:=hc
  have hq0:q≠0:=by
   obtain ⟨_,_,y,_,h|h⟩:=ho.ok i q hq<;>omega
  refine .inl ⟨rfl, ?_, ?_⟩
  ·rw[hat,hq];exact hq0
  ·rw[hat,hq];exact hqp
 ·rw[if_neg (by simpa using hc),qad]
  have hmono:∀j q,qaf out j=some q→qaf (qas out i p) j=some q:=fun j q hj=>by
   rw[qaD]
   by_cases h:i=j
   ·subst h
    have hqp:q=p:=Decidable.byContradiction fun hqp=>hc ⟨q,hj,hqp⟩
    rw[if_pos rfl,hqp]
   ·rw[if_neg h];exact hj
  have hout:OutOk l on (qas out i p):=by
   refine ⟨(qhy ho.nd).1,fun j q hj=> ?_⟩
   rw[qaD] at hj
   split at hj
   ·rename_i h;subst h;cases hj;exact ⟨h0,hon,x,hx,hp⟩
   ·exact ho.ok j q hj
  cases hg:qaf out i with
  |none=>
   have hnew:∀y∈need,y.element≠(Setting.mk i p).element:=fun y hy he=>by
    have:=(hn.mem y).1 hy
    rw[show y.element=i from he,hg] at this
    cases this
   obtain ⟨need',h1,h2,h3,h4⟩:=qoQ N (by omega) (by omega) hn.lt hnew
   refine .inr ⟨need',rfl, .inl (by rw[hat,hg];rfl),h1,hout,⟨h2,fun y=> ?_⟩,hmono⟩
   rw[h3,qaD]
   constructor
   ·rintro (rfl|hy)
    ·rw[if_pos rfl]
    ·rw[if_neg (fun he=>hnew y hy he.symm)]
     exact (hn.mem y).1 hy
   ·intro h
    split at h
    ·rename_i he
     cases h
     left;cases y;simp only at he;rw[he]
    ·exact .inr ((hn.mem y).2 h)
  |some q=>
   have hqp:q=p:=Decidable.byContradiction fun hqp=>hc ⟨q,hg,hqp⟩
   subst hqp
   have hy:Setting.mk i q∈need:=(hn.mem _).2 hg
   refine .inr ⟨need,rfl, .inr (by rw[hat,hg];rfl),qt5 N (by omega) (by omega) hn.lt hy rfl,hout,⟨hn.lt,fun y=> ?_⟩,hmono⟩
   rw[hn.mem,qaD]
   by_cases h:i=y.element
   ·rw[if_pos h,←h,hg]
   ·rw[if_neg h]
end Go.W
end
section
set_option linter.unusedVariables false
set_option linter.unusedSimpArgs false
namespace Go.W
open Go.AM
def Dn (d:SpS) (v:Spot):Prop:=(qaf d v).getD false=true
instance (d:SpS) (v:Spot):Decidable (Dn d v):=by unfold Dn;infer_instance
def Dr (t:SpR) (v:Spot):Prop:=(qaf t (S109.mk v.element v.node)).getD false=true
instance (t:SpR) (v:Spot):Decidable (Dr t v):=by unfold Dr;infer_instance
def Tr (l:List PlantElement) (on:List Int) (v:Spot):Prop:=nbr l v.element v.node<0∨nbr l v.element v.node∈on
instance (l:List PlantElement) (on:List Int) (v:Spot):Decidable (Tr l on v):=by unfold Tr;infer_instance
def Hn (l:List PlantElement) (on:List Int) (d:SpS) (v:Spot):Prop:=Tr l on v∨Dn d v
structure GR (l:List PlantElement) (on:List Int) (d:SpS) (o:OutM) (t:SpR) (need:List Setting):Prop where
 fwd:∀v,Dn d v→Dr t v
 bwd:∀v,Dr t v→Dn d v∨Tr l on v
 ok:OutOk l on o
 nd:NeedR o need
def GC (l:List PlantElement) (on:List Int) (d:SpS) (o:OutM) (v:Spot):Prop:=
 ¬Tr l on v∧∃x,l[(nbr l v.element v.node).toNat]? =some x∧x.kind≠1∧(x.kind=3→qaf o (nbr l v.element v.node)=some 4)∧(x.kind=2→v.node≠x.a→qaf o (nbr l v.element v.node)=some (if v.node=x.b then 2 else 1))∧
  (x.kind=2→v.node=x.a→Hn l on d (Spot.mk (nbr l v.element v.node) x.b)∧Hn l on d (Spot.mk (nbr l v.element v.node) x.c))
theorem GC.mono {l:List PlantElement} {on:List Int} {d d':SpS} {o o':OutM} {v:Spot} (h:GC l on d o v) (hd:∀u,Dn d u→Dn d' u) (ho:∀j q,qaf o j=some q→qaf o' j=some q):GC l on d' o' v:=by
 obtain ⟨h0,x,h1,h2,h3,h4,h5⟩:=h
 exact ⟨h0,x,h1,h2,fun hk=>ho _ _ (h3 hk),fun hk ha=>ho _ _ (h4 hk ha),fun hk ha=>⟨(h5 hk ha).1.imp id (hd _),(h5 hk ha).2.imp id (hd _)⟩⟩
structure GOut (l:List PlantElement) (on:List Int) (d:SpS) (o:OutM) (d':SpS) (o':OutM):Prop where
 sub:∀u,Dn d u→Dn d' u
 mono:∀j q,qaf o j=some q→qaf o' j=some q
 clo:∀u,Dn d' u→¬Dn d u→GC l on d' o' u
theorem GOut.refl {l:List PlantElement} {on:List Int} (d:SpS) (o:OutM):GOut l on d o d o:=⟨fun _ h=>h,fun _ _ h=>h,fun u h1 h2=>absurd h1 h2⟩
theorem GOut.trans {l:List PlantElement} {on:List Int} {d d1 d2:SpS} {o o1 o2:OutM} (h:GOut l on d o d1 o1) (k:GOut l on d1 o1 d2 o2):GOut l on d o d2 o2:=
 ⟨fun u hu=>k.sub u (h.sub u hu),fun j q hq=>k.mono j q (h.mono j q hq),fun u h1 h2=>by
  by_cases h3:Dn d1 u
  ·exact (h.clo u h3 h2).mono k.sub k.mono
  ·exact k.clo u h1 h3⟩
theorem qdZ {d:SpS} {v u:Spot}:Dn (qas d v true) u↔(v=u∨Dn d u):=by
 unfold Dn
 rw[qaD]
 by_cases h:v=u<;>simp[h]
theorem qhj {t:SpR} {v u:Spot}:Dr (qas t (S109.mk v.element v.node) true) u↔(v=u∨Dr t u):=by
 unfold Dr
 rw[qaD]
 have:S109.mk v.element v.node=S109.mk u.element u.node↔v=u:=by
  cases v;cases u;simp
 by_cases h:v=u
 ·rw[if_pos (this.2 h)];simp[h]
 ·rw[if_neg (fun hh=>h (this.1 hh))];simp[h]
theorem qFS {x:PlantElement} (h:qaP x=true):x.kind=1∨x.kind=2∨x.kind=3:=by
 have:=(qaE h).2.2.1
 unfold qag at this
 split at this
 ·rename_i h;rcases h with h|h<;>simp[h]
 ·split at this
  ·rename_i h;simp[h]
  ·exact absurd rfl this
def lfD (l:List PlantElement) (d:SpS):Nat:=((allS l).filter fun u=> !decide (Dn d u)).length
theorem qsu {l:List PlantElement} {d d':SpS} (h:∀u,Dn d u→Dn d' u):lfD l d'≤lfD l d:=by
 unfold lfD
 refine qc3 fun u hu=> ?_
 simp only[Bool.not_eq_true',decide_eq_false_iff_not] at hu⊢
 exact fun hh=>hu (h u hh)
theorem qAj {l:List PlantElement} {d:SpS} {v:Spot} (hv:v∈allS l) (hn:¬Dn d v):lfD l (qas d v true)<lfD l d:=by
 unfold lfD
 refine filter_lt hv (fun u hu=> ?_) (by simpa using hn) ?_
 ·simp only[Bool.not_eq_true',decide_eq_false_iff_not] at hu⊢
  exact fun h=>hu (qdZ.2 (.inr h))
 ·simp only[Bool.not_eq_false',decide_eq_true_eq]
  exact qdZ.2 (.inl rfl)
theorem qFT (l:List PlantElement) (hl:l.length≤96) (d:SpS):lfD l d≤288:=by
 have h1:=allS_len l
 have h2:=List.length_filter_le (fun u=> !decide (Dn d u)) (allS l)
 unfold lfD
 omega
def pG (N rc:Nat) (l:List PlantElement) (onm:OnM) (v:Spot) (d:SpS) (o:OutM):Option (Int×SpS×OutM):=zaF N rc v l [] [] d onm [] o
def rG (N rc:Nat) (l:List PlantElement) (r:List Visit) (need:List Setting) (v:Spot) (t:SpR):Option (Int×Guardian×SpR):=zaG N rc (Guardian.mk l r need []) v.element v.node t
def Both (l:List PlantElement) (r:List Visit) (d:SpS) (o:OutM) (v:Spot) (p:Option (Int×SpS×OutM)) (q:Option (Int×Guardian×SpR)):Prop:=
 (∃e d' o' g t',e≠0∧p=some (e,d',o')∧q=some (e,g,t'))∨
 (∃d' o' t' need',p=some (0,d',o')∧q=some (0,Guardian.mk l r need' [],t')∧GR l (elems r) d' o' t' need'∧GOut l (elems r) d o d' o'∧Hn l (elems r) d' v)
theorem qGY (N:Nat) (self:Guardian→Int→Int→SpR→Option (Int×Guardian×SpR)) (p a:Int):qrW N self p a=some (decide (a≠0∧a≠p)):=by
 unfold qrW
 by_cases h:a=0
 ·rw[if_neg (by simpa using h)];simp[h]
 ·rw[if_pos (by simpa using h)];congr 1;rw[Bool.eq_iff_iff];simp[h]
theorem grd (N:Nat) (hN:3000≤N) {l:List PlantElement} (hP:PlOk l) {r:List Visit} (hr:r.length≤1000) {onm:OnM} (hon:OnR onm (elems r)):
  ∀(rc:Nat) (v:Spot) (d:SpS) (o:OutM) (t:SpR) (need:List Setting),v∈allS l→GR l (elems r) d o t need→lfD l d<rc→Both l r d o v (pG N rc l onm v d o) (rG N rc l r need v t)
 |0,_,_,_,_,_,_,_,h=>by omega
 |rc+1,v,d,o,t,need,hv,hG,hlf=>by
  have hl:=hP.len
  unfold pG rG
  rw[zaF,zaG,qiB N (by omega) (by omega),qaa,qad]
  have e0:quq N (zaF N rc) v (nbr l v.element v.node) d onm=some (decide (Dn d v∨Tr l (elems r) v)):=by
   unfold quq
   rw[qad]
   by_cases h:(qaf d v).getD false=true
   ·rw[if_pos h];simp[Dn,h]
   ·rw[if_neg h]
    by_cases h2:nbr l v.element v.node<0
    ·rw[if_pos (dpos h2)];simp[Tr,h2]
    ·rw[if_neg (dneg h2),qad,hon,List.contains_eq_mem]
     congr 1;rw[Bool.eq_iff_iff];simp[Dn,Tr,h,h2]
  rw[e0,qaa]
  by_cases c:Dn d v∨Tr l (elems r) v
  ·rw[if_pos (by simpa using c),qad]
   by_cases hs:(qaf t (S109.mk v.element v.node)).getD false=true
   ·rw[if_pos hs]
    exact .inr ⟨d,o,t,need,rfl,rfl,hG, .refl d o,c.symm⟩
   ·rw[if_neg hs,qad]
    dsimp only
    rw[qdR N (by omega) (by omega),qaa]
    have hT:Tr l (elems r) v:=c.resolve_left fun h=>hs (hG.fwd v h)
    have e1:qm2 N (zaG N rc) (Guardian.mk l r need []) (nbr l v.element v.node)=some true:=by
     unfold qm2
     by_cases h2:nbr l v.element v.node<0
     ·rw[if_pos (dpos h2)]
     ·rw[if_neg (dneg h2)]
      dsimp only
      rw[qcw N (by omega) (by omega),qaa,List.contains_eq_mem]
      have:=hT.resolve_left h2
      simp[this]
    rw[e1,qaa,if_pos rfl]
    refine .inr ⟨d,o,_,need,rfl,rfl,⟨fun u hu=>qhj.2 (.inr (hG.fwd u hu)),fun u hu=> ?_,hG.ok,hG.nd⟩, .refl d o, .inl hT⟩
    rcases qhj.1 hu with h|h
    ·subst h;exact .inr hT
    ·exact hG.bwd u h
  ·rw[if_neg (by simpa using c)]
   have hnd:¬Dn d v:=fun h=>c (.inl h)
   have hnt:¬Tr l (elems r) v:=fun h=>c (.inr h)
   have hns:¬(qaf t (S109.mk v.element v.node)).getD false=true:=fun h=>c (hG.bwd v h)
   have h0:0≤nbr l v.element v.node:=by unfold Tr at hnt;omega
   have hno:nbr l v.element v.node∉elems r:=fun h=>hnt (.inr h)
   rw[qad,if_neg hns,qad]
   dsimp only
   rw[qdR N (by omega) (by omega),qaa]
   have e1:qm2 N (zaG N rc) (Guardian.mk l r need []) (nbr l v.element v.node)=some false:=by
    unfold qm2
    rw[if_neg (dneg (by omega))]
    dsimp only
    rw[qcw N (by omega) (by omega),qaa,List.contains_eq_mem]
    simp[hno]
   obtain ⟨x,hx,hxI,hnx,hxm⟩:=qjr h0
   rw[e1,qaa,if_neg (by simp),hxI,qaa,qaa,qad]
   obtain ⟨d0,hd0⟩:∃d0,d0=qas d v true:=⟨_,rfl⟩
   obtain ⟨t0,ht0⟩:∃t0,t0=qas t (S109.mk v.element v.node) true:=⟨_,rfl⟩
   rw[←hd0,←ht0]
   have hsub0:∀u,Dn d u→Dn d0 u:=fun u hu=>by rw[hd0];exact qdZ.2 (.inr hu)
   have hv0:Dn d0 v:=by rw[hd0];exact qdZ.2 (.inl rfl)
   have hnew:∀u,Dn d0 u→¬Dn d u→u=v:=fun u h1 h2=>by
    rw[hd0] at h1
    rcases qdZ.1 h1 with h|h
    ·exact h.symm
    ·exact absurd h h2
   have hG0:∀{o' need'},OutOk l (elems r) o'→NeedR o' need'→GR l (elems r) d0 o' t0 need':=fun h1 h2=>by
    refine ⟨fun u hu=> ?_,fun u hu=> ?_,h1,h2⟩
    ·rw[hd0] at hu;rw[ht0]
     rcases qdZ.1 hu with h|h
     ·exact qhj.2 (.inl h)
     ·exact qhj.2 (.inr (hG.fwd u h))
    ·rw[ht0] at hu;rw[hd0]
     rcases qhj.1 hu with h|h
     ·exact .inl (qdZ.2 (.inl h))
     ·exact (hG.bwd u h).imp (fun h=>qdZ.2 (.inr h)) id
   have hlf0:lfD l d0<rc:=by
    have:=qAj hv hnd
    rw[←hd0] at this
    omega
   have hsnd:=hP.snd x hxm
   have step:∀p,((x.kind=2∧(p=1∨p=2))∨(x.kind=3∧p=4))→x.kind≠1→(x.kind=3→p=4)→(x.kind=2→v.node≠x.a∧p=if v.node=x.b then 2 else 1)→
     ∀q,(q=Option.bind (zcP N need (nbr l v.element v.node)) fun y17=>Option.bind (qrW N (zaG N rc) p y17) fun y18=>if y18=true then some (17,Guardian.mk l r need [],t0) else Option.bind (zcO N need (Setting.mk (nbr l v.element v.node) p)) fun y19=>some (0,Guardian.mk l r y19 [],t0))→
     Both l r d o v (Option.bind (zaE N (nbr l v.element v.node) p o) fun y9=>some (y9.1,d0,y9.2)) q:=by
    intro p hp hk1 hk3 hk2 q hq
    have hnl:=hG.ok.len hG.nd
    rw[hq,qzH N (by omega) (by omega),qaa,qGY,qaa]
    rcases qAr N hN hl hG.ok hG.nd h0 hno hx hp with ⟨g1,g2,g3⟩|⟨need',g1,g2,g3,g4,g5,g6⟩
    ·rw[g1,qaa,if_pos (by simpa using ⟨g2,g3⟩)]
     exact .inl ⟨17,_,_,_,_,by omega,rfl,rfl⟩
    ·rw[g1,qaa,if_neg (by rw[decide_eq_true_eq];rintro ⟨h1,h2⟩;rcases g2 with h|h;exact h1 h;exact h2 h),g3,qaa]
     refine .inr ⟨d0,_,t0,need',rfl,rfl,hG0 g4 g5,⟨hsub0,g6,fun u h1 h2=> ?_⟩, .inr hv0⟩
     rw[hnew u h1 h2]
     refine ⟨hnt,x,hx,hk1,fun hk=> ?_,fun hk ha=> ?_,fun hk ha=>absurd ha (hk2 hk).1⟩
     ·rw[qaD,if_pos rfl,hk3 hk]
     ·rw[qaD,if_pos rfl,(hk2 hk).2]
   rcases qFS hsnd with hk|hk|hk
   ·rw[if_pos (by simpa using hk)]
    unfold qm3
    rw[qad,if_pos (by simpa using hk),qaa]
    exact .inl ⟨22,_,_,_,_,by omega,rfl,rfl⟩
   ·rw[if_neg (by simp[hk]),qad,if_neg (by simp[hk]),qad]
    have e2:qrU N (zaG N rc) v.node x=some (decide (v.node=x.a)):=by
     unfold qrU
     rw[if_pos (by simpa using hk),qad];congr 1
    have e3:qrV N (zaG N rc) v.node x=some (decide (v.node=x.b)):=by
     unfold qrV
     rw[if_pos (by simpa using hk),qad];congr 1
    by_cases ha:v.node=x.a
    ·rw[if_neg (by simpa using ha)]
     unfold qm3
     rw[qad,if_neg (by simp[hk]),e2,qaa,if_pos (by simpa using ha)]
     have he:qag x=[x.a,x.b,x.c]:=by unfold qag;rw[if_neg (by omega),if_pos hk]
     have hub:Spot.mk (nbr l v.element v.node) x.b∈allS l:=by rw[qbh];show x.b∈eI l (nbr l v.element v.node);rw[qif h0 hx,he];simp
     have huc:Spot.mk (nbr l v.element v.node) x.c∈allS l:=by rw[qbh];show x.c∈eI l (nbr l v.element v.node);rw[qif h0 hx,he];simp
     rcases grd N hN hP hr hon rc _ d0 o t0 need hub (hG0 hG.ok hG.nd) hlf0 with ⟨e,d',o',g,t',h1,h2,h3⟩|⟨d1,o1,t1,need1,h2,h3,h4,h5,h6⟩
     ·unfold pG at h2
      unfold rG at h3
      simp only at h2 h3
      rw[h2,h3,qaa,qaa,if_pos (by simpa using h1),if_pos (by simpa using h1),qaa]
      exact .inl ⟨e,_,_,_,_,h1,rfl,rfl⟩
     ·unfold pG at h2
      unfold rG at h3
      simp only at h2 h3
      rw[h2,h3,qaa,qaa,if_neg (by simp),if_neg (by simp)]
      dsimp only
      rcases grd N hN hP hr hon rc _ d1 o1 t1 need1 huc h4 (Nat.lt_of_le_of_lt (qsu h5.sub) hlf0) with ⟨e,d',o',g,t',k1,k2,k3⟩|⟨d2,o2,t2,need2,k2,k3,k4,k5,k6⟩
      ·unfold pG at k2
       unfold rG at k3
       simp only at k2 k3
       rw[k2,k3,qaa,qaa,qaa]
       exact .inl ⟨e,_,_,_,_,k1,rfl,rfl⟩
      ·unfold pG at k2
       unfold rG at k3
       simp only at k2 k3
       rw[k2,k3,qaa,qaa,qaa]
       have h12:=h5.trans k5
       refine .inr ⟨d2,o2,t2,need2,rfl,rfl,k4,⟨fun u hu=>h12.sub u (hsub0 u hu),h12.mono,fun u a1 a2=> ?_⟩, .inr (h12.sub v hv0)⟩
       by_cases a3:Dn d0 u
       ·rw[hnew u a3 a2]
        refine ⟨hnt,x,hx,by omega,fun h=>by omega,fun _ h=>absurd ha h,fun _ _=>⟨h6.imp id (k5.sub _),k6⟩⟩
       ·exact h12.clo u a1 a3
    ·rw[if_pos (by simpa using ha)]
     unfold qm3
     rw[qad,if_neg (c:=(x.kind==1)=true) (by simp[hk]),e2,qaa,if_neg (c:=decide (v.node=x.a)=true) (by simpa using ha),e3,qaa]
     unfold zbO
     by_cases hb:v.node=x.b
     ·rw[if_pos (by simpa using hb),if_pos (by simpa using hb),qaa,qaa]
      exact step 2 (.inl ⟨hk, .inr rfl⟩) (by omega) (by omega) (fun _=>⟨ha,by rw[if_pos hb]⟩) _ rfl
     ·rw[if_neg (by simpa using hb),if_neg (by simpa using hb),qaa,qad,if_pos (by simpa using hk),qaa]
      exact step 1 (.inl ⟨hk, .inl rfl⟩) (by omega) (by omega) (fun _=>⟨ha,by rw[if_neg hb]⟩) _ rfl
   ·rw[if_neg (by simp[hk]),qad,if_pos (by simpa using hk)]
    unfold qm3 qrU qrV
    rw[qad,if_neg (by simp[hk]),if_neg (by simp[hk]),qaa,if_neg (by simp),if_neg (by simp[hk]),qaa,if_neg (by simp),qad,if_neg (by simp[hk]),qaa]
    exact step 4 (.inr ⟨hk,rfl⟩) (by omega) (fun _=>rfl) (fun h=>by omega) _ rfl
end Go.W
end
section
set_option linter.unusedVariables false
set_option linter.unusedSimpArgs false
namespace Go.W
open Go.AM
def qho (x:PlantElement) (v:Visit):Int:=if v.in_=x.b∨v.out=x.b then x.c else x.b
theorem qtY (N:Nat) (x:PlantElement) (v:Visit):zbP N x v=some (qho x v):=by
 have h:quV N x v=some (decide (v.in_=x.b∨v.out=x.b)):=by
  unfold quV
  by_cases h:v.in_=x.b
  ·rw[if_pos (by simpa using h)];simp[h]
  ·rw[if_neg (by simpa using h)];congr 1;rw[Bool.eq_iff_iff];simp[h]
 unfold zbP qho
 rw[h,qaa]
 by_cases h:v.in_=x.b∨v.out=x.b
 ·rw[if_pos (by simpa using h),if_pos h]
 ·rw[if_neg (by simpa using h),if_neg h]
structure NI (l:List PlantElement) (r:List Visit) (i:Nat) (d:SpS) (o:OutM):Prop where
 clo:∀u,Dn d u→GC l (elems r) d o u
 han:∀v∈r.take i,∀x,l[v.element.toNat]? =some x→x.kind=2→Hn l (elems r) d (Spot.mk v.element (qho x v))
theorem qdO (N:Nat) (hN:3000≤N) {l:List PlantElement} (hP:PlOk l) {r:List Visit} (hr:r.length≤1000) (hrv:∀v∈r,0≤v.element∧v.element<l.length) {onm:OnM} (hon:OnR onm (elems r)):
  ∀(k n i:Nat) (d:SpS) (o:OutM) (t:SpR) (need:List Setting),k<n→i+k=r.length→GR l (elems r) d o t need→NI l r i d o→
  (∃e,e≠0∧qgU N l r (r.length:Int) onm n [] i o [] d=some (.inr e)∧qgW N l r n (Guardian.mk l r need []) i t=some (.inr e))∨
  (∃d' o' t' need',qgU N l r (r.length:Int) onm n [] i o [] d=some (.inl ([],o'))∧qgW N l r n (Guardian.mk l r need []) i t=some (.inl (Guardian.mk l r need' [],t'))∧GR l (elems r) d' o' t' need'∧NI l r r.length d' o')
 |k,0,i,d,o,t,need,hn,_,_,_=>by omega
 |0,n+1,i,d,o,t,need,hn,hi,hG,hI=>by
  obtain rfl:i=r.length:=by omega
  rw[qgU,if_neg (dneg (by omega)),qgW,if_neg (dneg (by omega))]
  exact .inr ⟨d,o,t,need,rfl,rfl,hG,hI⟩
 |k+1,n+1,i,d,o,t,need,hn,hi,hG,hI=>by
  have hl:=hP.len
  have hv:=qap (xs:=r) (i:=i) (by omega)
  obtain ⟨v,hve⟩:∃v,v=r[i]:=⟨_,rfl⟩
  rw[←hve] at hv
  have hvm:=List.mem_of_getElem? hv
  obtain ⟨h0,h1⟩:=hrv v hvm
  obtain ⟨a,ha⟩:=Int.eq_ofNat_of_zero_le h0
  have hx:=qap (xs:=l) (i:=a) (by omega)
  obtain ⟨x,hxe⟩:∃x,x=l[a]:=⟨_,rfl⟩
  rw[←hxe] at hx
  have hx':l[v.element.toNat]? =some x:=by rw[ha,Int.toNat_natCast];exact hx
  have hxI:=qeI h0 hx'
  have htk:∀u,u∈r.take (i+1)↔u∈r.take i∨u=v:=fun u=>by rw[qbf hv];simp
  rw[qgU,if_pos (dpos (by omega)),qgW,if_pos (dpos (by omega))]
  unfold qBo qBp
  rw[qae hv,qaa,hxI,qaa,qaa,hxI,qaa]
  by_cases hk:x.kind=2
  ·rw[if_pos (by simpa using hk),if_neg (by simp[hk]),qtY,qaa,qaa,qo6 N hxI,qaa]
   have hp:posE x v=if v.in_=x.b∨v.out=x.b then 1 else 2:=by unfold posE;rw[if_neg (by omega),if_pos hk]
   have h2:quS N x x.b (posE x v==1)=some (qho x v):=by
    unfold quS qho
    by_cases h:v.in_=x.b∨v.out=x.b
    ·rw[if_pos (by rw[hp,if_pos h];rfl),if_pos h]
    ·rw[if_neg (by rw[hp,if_neg h];decide),if_neg h]
   rw[h2,qaa,qaa]
   have he:qag x=[x.a,x.b,x.c]:=by unfold qag;rw[if_neg (by omega),if_pos hk]
   have hvs:Spot.mk v.element (qho x v)∈allS l:=by
    rw[qbh]
    show qho x v∈eI l v.element
    rw[qif h0 hx',he]
    unfold qho
    split<;>simp
   rcases grd N hN hP hr hon N _ d o t need hvs hG (by have:=qFT l hl d;omega) with ⟨e,d',o',g,t',k1,k2,k3⟩|⟨d1,o1,t1,need1,k2,k3,k4,k5,k6⟩
   ·unfold pG at k2
    unfold rG at k3
    simp only at k2 k3
    rw[k2,k3,qaa,qaa,if_pos (by simpa using k1),if_pos (by simpa using k1),qaa,qaa]
    exact .inl ⟨e,k1,rfl,rfl⟩
   ·unfold pG at k2
    unfold rG at k3
    simp only at k2 k3
    rw[k2,k3,qaa,qaa,if_neg (by simp),if_neg (by simp),qaa,qaa]
    dsimp only
    rw[w64s (by omega),qad]
    refine qdO N hN hP hr hrv hon k n (i+1) d1 o1 t1 need1 (by omega) (by omega) k4 ⟨fun u hu=> ?_,fun u hu y hy hky=> ?_⟩
    ·by_cases h:Dn d u
     ·exact (hI.clo u h).mono k5.sub k5.mono
     ·exact k5.clo u hu h
    ·rcases (htk u).1 hu with hu|rfl
     ·exact (hI.han u hu y hy hky).imp id (k5.sub _)
     ·rw[hx'] at hy;cases hy;exact k6
  ·rw[if_neg (by simpa using hk),if_pos (by simpa using hk),qaa,qaa]
   dsimp only
   rw[w64s (by omega),qad]
   refine qdO N hN hP hr hrv hon k n (i+1) d o t need (by omega) (by omega) hG ⟨hI.clo,fun u hu y hy hky=> ?_⟩
   rcases (htk u).1 hu with hu|rfl
   ·exact hI.han u hu y hy hky
   ·rw[hx'] at hy;cases hy;exact absurd hky hk
structure PrP (l:List PlantElement) (r:List Visit) (s:List Setting) (d:SpS) (o:OutM):Prop where
 lt:s.Pairwise fun a b=>a.element<b.element
 mem:∀y,y∈s↔y∈qaH l r∨qaf o y.element=some y.position
 ok:OutOk l (elems r) o
 ni:NI l r r.length d o
theorem qma (N:Nat) (hN:3000≤N) {g:Guardian} (hl:g.need.length≤1000) (hlt:g.need.Pairwise fun a b=>a.element<b.element):∀(k n i:Nat) (s:List Setting),k<n→i+k=g.need.length→s.length≤1000+i→(s.Pairwise fun a b=>a.element<b.element)→(∀y∈s,∀z∈g.need.drop i,y.element≠z.element)→
  ∃s',qiX N g n s i=some s'∧(s'.Pairwise fun a b=>a.element<b.element)∧∀y,y∈s'↔y∈s∨y∈g.need.drop i
 |k,0,i,s,hn,_,_,_,_=>by omega
 |0,n+1,i,s,hn,hi,hs,hp,hd=>by
  obtain rfl:i=g.need.length:=by omega
  rw[qiX,if_neg (dneg (by omega))]
  exact ⟨s,rfl,hp,fun y=>by rw[List.drop_length];simp⟩
 |k+1,n+1,i,s,hn,hi,hs,hp,hd=>by
  have hv:=qap (xs:=g.need) (i:=i) (by omega)
  obtain ⟨v,hve⟩:∃v,v=g.need[i]:=⟨_,rfl⟩
  rw[←hve] at hv
  have hdr:g.need.drop i=v::g.need.drop (i+1):=qbe hv
  rw[hdr] at hd
  obtain ⟨s1,h1,h2,h3,h4⟩:=qoQ N (s:=s) (x:=v) (by omega) (by omega) hp fun y hy=>hd y hy v List.mem_cons_self
  rw[qiX,if_pos (dpos (by omega)),qae hv,qaa,h1,qaa,qad,w64s (by omega)]
  have hnd:(v::g.need.drop (i+1)).Pairwise fun a b=>a.element<b.element:=by rw[←hdr];exact hlt.sublist (List.drop_sublist _ _)
  obtain ⟨s',g1,g2,g3⟩:=qma N hN hl hlt k n (i+1) s1 (by omega) (by omega) (by omega) h2 fun y hy z hz=>by
   rcases (h3 y).1 hy with rfl|hy
   ·have:=(List.pairwise_cons.1 hnd).1 z hz
    omega
   ·exact hd y hy z (List.mem_cons_of_mem _ hz)
  refine ⟨s',g1,g2,fun y=> ?_⟩
  rw[g3,h3,hdr,List.mem_cons]
  constructor
  ·rintro ((h|h)|h)
   ·exact .inr (.inl h)
   ·exact .inl h
   ·exact .inr (.inr h)
  ·rintro (h|h|h)
   ·exact .inl (.inr h)
   ·exact .inl (.inl h)
   ·exact .inr h
theorem qch {α β:Type} [DecidableEq α]:∀{m:List (α×β)},(m.map Prod.fst).Nodup→∀{p:α×β},p∈m→qaf m p.1=some p.2
 |[],_,p,h=>by cases h
 |q::m,hd,p,h=>by
  rw[List.map_cons,List.nodup_cons] at hd
  simp only[qaf]
  rcases List.mem_cons.1 h with rfl|h
  ·rw[if_pos rfl]
  ·rw[if_neg (fun he=>hd.1 (by rw[he];exact List.mem_map.2 ⟨p,h,rfl⟩))]
   exact qch hd.2 h
theorem qd5 {α β:Type} [DecidableEq α]:∀{m:List (α×β)} {a:α} {b:β},qaf m a=some b→(a,b)∈m
 |[],a,b,h=>by simp[qaf] at h
 |q::m,a,b,h=>by
  simp only[qaf] at h
  split at h
  ·rename_i hq;cases h;rw[←hq];simp
  ·exact List.mem_cons_of_mem _ (qd5 h)
theorem qpe {l:List PlantElement} {r:List Visit} {y:Setting} (h:y∈qaH l r):y.element∈elems r:=(qbZ l r).subset (List.mem_map.2 ⟨y,h,rfl⟩)
theorem qmR (N:Nat) (hN:6000≤N) {l:List PlantElement} (hl:l.length≤96) {r:List Visit} (hr:r.length≤1000) (hnm:∀x∈l,x.name.length<N∧x.name.length≤9223372036854775807):
  (¬RtP l r∧zaP N l r=some ([],1)∧zbI N l r=some ([],1))∨(RtP l r∧∃e,e≠0∧zaP N l r=some ([],e)∧zbI N l r=some ([],e))∨
  (RtP l r∧∃s d o,zaP N l r=some (s,0)∧zbI N l r=some (s,0)∧PrP l r s d o∧s.length≤1000):=by
 obtain ⟨b,s0,e0,p1,p2,p3,p4,p5⟩:=qAX N (l:=l) (r:=r) (by omega) (by omega) (by omega) (fun _=>hnm)
 by_cases hR:RtP l r
 ·have hP:=PlOk.of hR.1
  have hs:=qe3 N (by omega) hP hR (by omega)
  rw[p3] at hs
  cases hs
  obtain ⟨own,hown⟩:∃own,own=qbM (qaH l r):=⟨_,rfl⟩
  rw[←hown] at p3 p4 p5
  have hkeys:((qaH l r).map Setting.element).Nodup:=(qbZ l r).nodup hR.2.2
  have olt:own.Pairwise fun a b=>a.element<b.element:=by rw[hown];exact qcu hkeys
  have omem:∀y,y∈own↔y∈qaH l r:=fun y=>by rw[hown];exact qcH
  unfold zaP zbI
  rw[p3,p4,qaa,qaa,if_neg (by simp),if_neg (by simp)]
  unfold zbD
  obtain ⟨onm,o1,o2⟩:=qnB N (r:=r) (by omega) (by omega)
  rw[o1,qaa]
  have hG:GR l (elems r) [] [] [] []:=⟨fun v h=>by simp[Dn,qaf] at h,fun v h=>by simp[Dr,qaf] at h,⟨by simp,fun i p h=>by simp[qaf] at h⟩,⟨List.Pairwise.nil,fun y=>by simp[qaf]⟩⟩
  rcases qdO N (by omega) hP hr hR.2.1.ok o2 r.length N 0 [] [] [] [] (by omega) (by omega) hG ⟨fun u h=>by simp[Dn,qaf] at h,fun v h=>by simp at h⟩ with ⟨e,k1,k2,k3⟩|⟨d,o,t,need,k2,k3,k4,k5⟩
  ·rw[show qgU N l r (r.length:Int) onm N [] 0 [] [] []=_ from k2,show qgW N l r N (Guardian.mk l r [] []) 0 []=_ from k3,qaa,qaa]
   dsimp only
   rw[qaa,if_pos (by simpa using k1)]
   exact .inr (.inl ⟨hR,e,k1,rfl,rfl⟩)
  ·rw[show qgU N l r (r.length:Int) onm N [] 0 [] [] []=_ from k2,show qgW N l r N (Guardian.mk l r [] []) 0 []=_ from k3,qaa,qaa]
   dsimp only
   rw[qaa,if_neg (by simp)]
   have hneed:=k4.ok.len k4.nd
   have hdis:∀y∈own,∀p,qaf o y.element≠some p:=fun y hy p hp=>(k4.ok.ok _ _ hp).2.1 (qpe ((omem y).1 hy))
   obtain ⟨s',q1,q2,q3⟩:=qma N (by omega) (g:=Guardian.mk l r need []) (by show need.length≤1000;omega) k4.nd.lt need.length N 0 own (by omega) (by show 0+need.length=need.length;omega) (by omega) olt fun y hy z hz=>by
    have hz:z∈need:=by simpa using hz
    intro he
    have:=(k4.nd.mem z).1 hz
    rw[←he] at this
    exact hdis y hy _ this
   have q3:∀y,y∈s'↔y∈own∨y∈need:=fun y=>by simpa using q3 y
   dsimp only
   rw[show qiX N (Guardian.mk l r need []) N own 0=_ from q1,qaa]
   have holen:o.length≤96:=by
    have:=qer (b:=(List.range l.length).map fun (i:Nat)=>(i:Int)) k4.ok.nd fun a ha=>by
     obtain ⟨v,hv⟩:=qhx.2 ha
     obtain ⟨h0,_,x,hx,_⟩:=k4.ok.ok _ _ hv
     have:=(List.getElem?_eq_some_iff.1 hx).1
     exact List.mem_map.2 ⟨a.toNat,List.mem_range.2 this,by omega⟩
    simp at this
    omega
   have hall:((own++o.map fun p=>Setting.mk p.1 p.2).map Setting.element).Nodup:=by
    rw[List.map_append,List.nodup_append]
    refine ⟨?_, ?_, ?_⟩
    ·unfold List.Nodup
     rw[List.pairwise_map]
     exact olt.imp fun h he=>by omega
    ·rw[List.map_map]
     exact k4.ok.nd
    ·intro a ha c hc hac
     obtain ⟨y,hy,rfl⟩:=List.mem_map.1 ha
     obtain ⟨z,hz,rfl⟩:=List.mem_map.1 hc
     obtain ⟨p,hp,rfl⟩:=List.mem_map.1 hz
     have:=qch k4.ok.nd hp
     exact hdis y hy p.2 (by rw[hac];exact this)
   have hz:qrX N own o=some (qbM (own++o.map fun p=>Setting.mk p.1 p.2),0):=by
    unfold qrX rngM
    rw[if_pos ⟨by omega,hall⟩]
    unfold srtI
    rw[if_pos (by rw[List.length_append,List.length_map];omega),qaa]
    rfl
   rw[hz,qaa]
   have hmem:∀y,y∈qbM (own++o.map fun p=>Setting.mk p.1 p.2)↔y∈qaH l r∨qaf o y.element=some y.position:=fun y=>by
    rw[qcH,List.mem_append,omem]
    constructor
    ·rintro (h|h)
     ·exact .inl h
     ·obtain ⟨p,hp,rfl⟩:=List.mem_map.1 h
      exact .inr (qch k4.ok.nd hp)
    ·rintro (h|h)
     ·exact .inl h
     ·exact .inr (List.mem_map.2 ⟨_,qd5 h,rfl⟩)
   have heq:qbM (own++o.map fun p=>Setting.mk p.1 p.2)=s':=qcE (qcu hall) q2 fun y=>by
    rw[hmem,q3,omem,k4.nd.mem]
   refine .inr (.inr ⟨hR,_,d,o,rfl,by rw[heq],⟨qcu hall,hmem,k4.ok,k5⟩, ?_⟩)
   rw[qfI,List.length_append,List.length_map]
   omega
 ·have hb:b=false:=by
   obtain ⟨b',h1,h2⟩:=qgv N (l:=l) (r:=r) (by omega) (by omega) (by omega)
   rw[p1] at h1;cases h1
   cases b with
   |false=>rfl
   |true=>exact absurd (h2.1 rfl) hR
  subst hb
  have he:s0=[]∧e0=1:=by
   unfold zaM at p3
   rw[p1,qaa,if_pos (by simp)] at p3
   cases p3;exact ⟨rfl,rfl⟩
  obtain ⟨rfl,rfl⟩:=he
  refine .inl ⟨hR, ?_, ?_⟩
  ·unfold zaP;rw[p3,qaa,if_pos (by simp)]
  ·unfold zbI;rw[p4,qaa,if_pos (by simp)]
end Go.W
end
section
set_option linter.unusedVariables false
set_option linter.unusedSimpArgs false
namespace Go.W
open Go.AM
theorem qF0 {l:List PlantElement} (hP:PlOk l) {N:Nat} (hN:20≤N):∀x∈l,x.name.length<N∧x.name.length≤9223372036854775807:=fun x hx=>by
 have h1:=(qaE (hP.snd x hx)).2.2.2
 unfold pnOk at h1
 simp only[Bool.and_eq_true,decide_eq_true_eq] at h1
 omega
theorem qmr (N:Nat) (hN:6000≤N) {l:List PlantElement} (hP:MadeP l):∀(k n i:Nat) (c:Int) (s:Maker),k<n→i+k=6→Mk c s→c+30*k≤900000→
  ∃s',Mk (c+30*k) s'∧(qg2 N l n s i=some (.inl s')∨∃w,qg2 N l n s i=some (.inr (s',l,w))∧w.length≤13∧RtP l w)
 |k,0,i,c,s,hn,_,_,_=>by omega
 |0,n+1,i,c,s,hn,hi,hs,hc=>by
  obtain rfl:i=6:=by omega
  rw[qg2,if_neg (dneg (by omega))]
  exact ⟨s,hs.le (by omega), .inl rfl⟩
 |k+1,n+1,i,c,s,hn,hi,hs,hc=>by
  rw[qg2,if_pos (dpos (by omega))]
  obtain ⟨w,s1,h1,h2,h3,h4,_⟩:=qA4 N (by omega) hP hs (by omega)
  obtain ⟨b,_,k2,k3⟩:=qrT N (by omega) hP.ok (w:=w) (by omega)
  rw[h1,qaa]
  simp only[]
  rw[k2,qaa]
  cases b with
  |true=>exact ⟨s1,h2.le (by omega), .inr ⟨w,rfl,h4,k3.1 rfl⟩⟩
  |false=>
   rw[if_neg (by simp),qad,w64s (by omega)]
   obtain ⟨s',g1,g2⟩:=qmr N hN hP k n (i+1) (c+30) s1 (by omega) (by omega) h2 (by omega)
   exact ⟨s',g1.le (by omega),g2⟩
theorem qGw (N:Nat) (hN:6000≤N) {c:Int} {s:Maker} (hs:Mk c s) (h0:0≤c) (hc:c≤800000):∃l w s',zcL N s=some (l,w,s')∧Mk (c+31000) s'∧PlOk l∧w.length≤13∧(w=[]∨RtP l w):=by
 unfold zcL
 obtain ⟨l,s1,h1,h2,hP⟩:=qt0 N (by omega) (b:=c) h0 (by omega) hs (k:=20) (by omega)
 obtain ⟨s',g1,g2⟩:=qmr N hN hP 6 N 0 (c+30000) s1 (by omega) (by omega) h2 (by omega)
 rw[h1,qaa]
 simp only[]
 rcases g2 with g2|⟨w,g2,g3,g4⟩
 ·rw[show qg2 N l N s1 0=_ from g2,qaa]
  exact ⟨l,[],s',rfl,g1.le (by omega),hP.ok,by simp, .inl rfl⟩
 ·rw[show qg2 N l N s1 0=_ from g2,qaa]
  exact ⟨l,w,s',rfl,g1.le (by omega),hP.ok,g3, .inr g4⟩
theorem KnP.of {l:List PlantElement} {s:List Setting} (h1:∀y∈s,ok1 l y) (h2:s.Pairwise fun a b=>a.element<b.element):KnP l s:=fun i y hy=>by
 refine ⟨h1 y (List.mem_of_getElem? hy),fun z hz he=> ?_⟩
 obtain ⟨j,hj,hz⟩:=qgl.1 hz
 obtain ⟨hil,hie⟩:=List.getElem?_eq_some_iff.1 hy
 obtain ⟨hjl,hje⟩:=List.getElem?_eq_some_iff.1 hz
 have:=List.pairwise_iff_getElem.1 h2 j i hjl hil hj
 rw[hie,hje] at this
 omega
theorem qcy (N:Nat) (hN:6000≤N) {l:List PlantElement} (hP:PlOk l):∀(k n i:Nat) (c:Int) (s:Maker) (q:List Setting),k<n→i+k=l.length→Mk c s→c+2*k≤900000→q.length≤i→(∀y∈q,ok1 l y∧y.element<i)→(q.Pairwise fun a b=>a.element<b.element)→
  ∃q' s',qiY N l n s q i=some (s',q')∧Mk (c+2*k) s'∧q'.length≤l.length∧(∀y∈q',ok1 l y)∧(q'.Pairwise fun a b=>a.element<b.element)
 |k,0,i,c,s,q,hn,_,_,_,_,_,_=>by omega
 |0,n+1,i,c,s,q,hn,hi,hs,hc,hq,h1,h2=>by
  obtain rfl:i=l.length:=by omega
  rw[qiY,if_neg (dneg (by omega))]
  exact ⟨q,s,rfl,hs.le (by omega),hq,fun y hy=>(h1 y hy).1,h2⟩
 |k+1,n+1,i,c,s,q,hn,hi,hs,hc,hq,h1,h2=>by
  have hl:=hP.len
  have hv:=qap (xs:=l) (i:=i) (by omega)
  obtain ⟨x,hxe⟩:∃x,x=l[i]:=⟨_,rfl⟩
  rw[←hxe] at hv
  have hsnd:=hP.snd x (List.mem_of_getElem? hv)
  rw[qiY,if_pos (dpos (by omega))]
  obtain ⟨b,s1,a1,a2,a3,a4⟩:=qa0 N (s:=s) (c:=c) 2 (by omega) (by omega) hs (by omega)
  have e2:quY N s l i=some (s1,decide (b=0∨x.kind=1)):=by
   unfold quY
   rw[a1,qaa]
   simp only[]
   by_cases h:b=0
   ·rw[if_pos (by simpa using h)];simp[h]
   ·rw[if_neg (by simpa using h),qae hv,qaa,qad]
    congr 2;rw[Bool.eq_iff_iff];simp[h]
  have hq1:∀y∈q,ok1 l y∧y.element<((i+1:Nat):Int):=fun y hy=>⟨(h1 y hy).1,by have:=(h1 y hy).2;omega⟩
  have add:∀p,((x.kind=2∧(p=1∨p=2))∨(x.kind=3∧(p=3∨p=4)))→(∀y∈q++[Setting.mk i p],ok1 l y∧y.element<((i+1:Nat):Int))∧(q++[Setting.mk i p]).Pairwise fun a b=>a.element<b.element:=by
   intro p hp
   refine ⟨fun y hy=> ?_, ?_⟩
   ·rcases List.mem_append.1 hy with hy|hy
    ·exact hq1 y hy
    ·have:=List.mem_singleton.1 hy
     subst this
     exact ⟨⟨by show (0:Int)≤(i:Int);omega,x,by show l[((i:Nat):Int).toNat]? =_;rw[Int.toNat_natCast];exact hv,hp⟩,by show (i:Int)<_;omega⟩
   ·rw[List.pairwise_append]
    refine ⟨h2,by simp,fun y hy z hz=> ?_⟩
    have:=List.mem_singleton.1 hz
    subst this
    exact (h1 y hy).2
  unfold qBv
  rw[e2,qaa]
  simp only[]
  by_cases c1:b=0∨x.kind=1
  ·rw[if_pos (by simpa using c1),qaa]
   simp only[]
   rw[qad,w64s (by omega)]
   obtain ⟨q',s',g1,g2,g3⟩:=qcy N hN hP k n (i+1) (c+1) s1 q (by omega) (by omega) a4 (by omega) (by omega) hq1 h2
   exact ⟨q',s',g1,g2.le (by omega),g3⟩
  ·rw[if_neg (by simpa using c1),qae hv,qaa,qad]
   have hk1:x.kind≠1:=fun h=>c1 (.inr h)
   by_cases hk:x.kind=2
   ·rw[if_pos (by simpa using hk)]
    obtain ⟨p,s2,b1,b2,b3⟩:=qiA N (s:=s1) (c:=c+1) [1,2] (by simp) (by simp) a4 (by omega)
    rw[b1,qaa,qaF (by simp;omega),qaa,qaa]
    simp only[]
    rw[qad,w64s (by omega)]
    have hp:=add p (.inl ⟨hk,by simpa using b2⟩)
    obtain ⟨q',s',g1,g2,g3⟩:=qcy N hN hP k n (i+1) (c+1+1) s2 _ (by omega) (by omega) b3 (by omega) (by simp;omega) hp.1 hp.2
    exact ⟨q',s',g1,g2.le (by omega),g3⟩
   ·rw[if_neg (by simpa using hk)]
    have hk3:x.kind=3:=by rcases qFS hsnd with h|h|h;exact absurd h hk1;exact absurd h hk;exact h
    obtain ⟨p,s2,b1,b2,b3⟩:=qiA N (s:=s1) (c:=c+1) [3,4] (by simp) (by simp) a4 (by omega)
    rw[b1,qaa,qaF (by simp;omega),qaa,qaa]
    simp only[]
    rw[qad,w64s (by omega)]
    have hp:=add p (.inr ⟨hk3,by simpa using b2⟩)
    obtain ⟨q',s',g1,g2,g3⟩:=qcy N hN hP k n (i+1) (c+1+1) s2 _ (by omega) (by omega) b3 (by omega) (by simp;omega) hp.1 hp.2
    exact ⟨q',s',g1,g2.le (by omega),g3⟩
theorem qsr (N:Nat) (hN:6000≤N) {l:List PlantElement} (hP:PlOk l) {c:Int} {s:Maker} (hs:Mk c s) (hc:c≤800000):∃q s',zbV N s l=some (q,s')∧Mk (c+200) s'∧q.length≤96∧(∀y∈q,ok1 l y)∧(q.Pairwise fun a b=>a.element<b.element):=by
 have hl:=hP.len
 obtain ⟨q,s',h1,h2,h3,h4,h5⟩:=qcy N hN hP l.length N 0 c s [] (by omega) (by omega) hs (by omega) (by simp) (by simp) List.Pairwise.nil
 unfold zbV
 rw[show qiY N l N s [] 0=_ from h1,qaa]
 exact ⟨q,s',rfl,h2.le (by omega),by omega,h4,h5⟩
def qb5:List PlantElement:=[(PlantElement.mk 1 [116,49] 0 1 0 9),(PlantElement.mk 2 [119] 1 2 3 0),(PlantElement.mk 1 [116,50] 2 4 0 9),(PlantElement.mk 3 [100] 3 5 0 0),(PlantElement.mk 1 [116,51] 5 6 0 9)]
def smallW:List Visit:=[(Visit.mk 0 (-1) 1),(Visit.mk 1 1 2),(Visit.mk 2 2 (-1))]
theorem qFw (M:Nat):zcH (M+60) qb5 0 2=some (smallW,0):=by kernel_rfl
theorem qz3 (M:Nat):zbJ (M+60) qb5 smallW=some true:=by kernel_rfl
theorem qsm (M:Nat):zbJ (M+60) qb5 []=some false:=by kernel_rfl
theorem qFz (M:Nat):qhX (M+60) qb5 smallW (smallW.length:Int) (M+60) [] 0=some [Setting.mk 1 1]:=by kernel_rfl
theorem qFx (M:Nat):zbD (M+60) qb5 smallW=some ([(3,4)],0):=by kernel_rfl
theorem qFu (M:Nat):zaO (M+60) qb5 smallW []=some ([4],0):=by kernel_rfl
theorem qFv (M:Nat):zaO (M+60) qb5 smallW [Setting.mk 1 1,Setting.mk 3 4]=some ([],0):=by kernel_rfl
theorem qyq {q:List Setting} (h:q.Pairwise fun a b=>a.element<b.element) (hl:q.length≤1000): @srtI Setting ⟨Setting.mk 0 0⟩ (fun a b=>cmpI a.element b.element) q=some q:=by
 have hn:(q.map Setting.element).Nodup:=by
  unfold List.Nodup
  rw[List.pairwise_map]
  exact h.imp fun h he=>by omega
 have e:qbM q=q:=qcE (qcu hn) h fun x=>qcH
 unfold srtI
 rw[if_pos (by omega)]
 exact congrArg some e
theorem qFy (M:Nat):zaP (M+60) qb5 smallW=some ([Setting.mk 1 1,Setting.mk 3 4],0):=by
 have hset:zaM (M+60) qb5 smallW=some ([Setting.mk 1 1],0):=by
  unfold zaM
  rw[qz3,qaa,if_neg (by simp),qFz,qaa,qyq (by simp) (by simp),qaa]
 unfold zaP
 rw[hset,qaa,if_neg (by simp),qFx,qaa,if_neg (by simp)]
 unfold qrX rngM
 rw[if_pos ⟨by simp,by simp⟩]
 simp only[List.map_cons,List.map_nil,List.cons_append,List.nil_append]
 rw[qyq (by simp) (by simp),qaa,qaa]
theorem qz2 (M:Nat):zaP (M+60) qb5 []=some ([],1):=by
 have hset:zaM (M+60) qb5 []=some ([],1):=by
  unfold zaM
  rw[qsm,qaa,if_pos (by simp)]
 unfold zaP
 rw[hset,qaa,if_pos (by simp)]
theorem qGj {N:Nat} (h:60≤N):zcE N=some true:=by
 obtain ⟨M,rfl⟩:∃M,N=M+60:=⟨N - 60,by omega⟩
 unfold zcE
 have h0:zbW (M+60)=some qb5:=rfl
 rw[h0,qaa,qFw,qaa,qaa]
 simp only[]
 rw[qFy,qaa,qaa,qFu,qaa,qaa]
 simp only[]
 rw[qFv,qaa,qaa,qz2,qaa]
 have h1:qBB (M+60) [Setting.mk 1 1,Setting.mk 3 4] 0 [4] 0 [] 0 1=some true:=by kernel_rfl
 rw[h1,qaa]
end Go.W
end
section
set_option linter.unusedVariables false
set_option linter.unusedSimpArgs false
namespace Go.W
open Go.AM
theorem qhq (N:Nat) {l:List Int} (hl:l.length≤60000):∀(k n i:Nat),k<n→i+k=l.length→qnb N l l n i=some (.inl ())
 |k,0,i,hn,_=>by omega
 |0,n+1,i,hn,hi=>by rw[qnb,if_neg (dneg (by omega))]
 |k+1,n+1,i,hn,hi=>by
  have hlt:i<l.length:=by omega
  rw[qnb,if_pos (dpos (by omega)),qae (qap hlt),qaa,qaa,if_neg (by simp),qad,w64s (by omega)]
  exact qhq N hl k n (i+1) (by omega) (by omega)
theorem qz9 (N:Nat) {l:List Int} (hN:l.length<N) (hl:l.length≤60000):zcD N l l=some true:=by
 have h:=qhq N hl l.length N 0 (by omega) (by omega)
 simp only[Int.natCast_zero] at h
 unfold zcD
 rw[if_neg (by simp),h];rfl
theorem qsg (l:List PlantElement) (r:List Visit) (s:List Setting) (fi la:Int):(exps l r s fi la).length≤l.length:=by
 unfold exps
 rw[List.length_map]
 have:=List.length_filter_le (fun i=> @decide (Exps l r s fi la i) (Classical.propDecidable _)) (List.range l.length)
 rw[List.length_range] at this
 exact this
theorem qnF (N:Nat) (hN:6000≤N) {l:List PlantElement} (hl:l.length≤96) {r:List Visit} (hr:r.length≤1000) {s:List Setting} (hs:s.length≤1000) (hnm:∀x∈l,x.name.length<N∧x.name.length≤9223372036854775807):zbU N l r s=some true:=by
 have hp:∃a e,zaP N l r=some (a,e)∧zbI N l r=some (a,e)∧a.length≤1000:=by
  rcases qmR N hN hl hr hnm with ⟨_,h1,h2⟩|⟨_,e,_,h1,h2⟩|⟨_,q,d,o,h1,h2,_,h3⟩
  ·exact ⟨_,_,h1,h2,by simp⟩
  ·exact ⟨_,_,h1,h2,by simp⟩
  ·exact ⟨_,_,h1,h2,h3⟩
 have he:∃a e,zaO N l r s=some (a,e)∧zbH N l r s=some (a,e)∧a.length≤1000:=by
  rcases qAH N hl hr hs (by omega) with ⟨h1,h2⟩|⟨h1,h1',h2⟩|⟨h1,h1',h2⟩<;>rcases qAP N hl hr hs (by omega) hnm with ⟨k1,k2⟩|⟨k1,k1',k2⟩|⟨k1,k1',k2⟩
  ·exact ⟨_,_,h2,k2,by simp⟩
  ·exact absurd k1 h1
  ·exact absurd k1 h1
  ·exact absurd h1 k1
  ·exact ⟨_,_,h2,k2,by simp⟩
  ·exact absurd k1' h1'
  ·exact absurd h1 k1
  ·exact absurd h1' k1'
  ·exact ⟨_,_,h2,k2,by have:=qsg l r s (endR r).1 (endR r).2;omega⟩
 obtain ⟨a,e,p1,p2,p3⟩:=hp
 obtain ⟨b,f,q1,q2,q3⟩:=he
 unfold zbU
 rw[p1,qaa,p2,qaa,q1,qaa,q2,qaa]
 have h0:quX N a e a e b f b f=some true:=by
  unfold quX
  rw[quj N (by omega) (by omega),qaa,if_pos rfl,if_pos (by simp),qz9 N (by omega) (by omega),qaa,if_pos rfl,qad]
  simp
 rw[h0,qaa]
theorem qjb (N:Nat) (hN:6000≤N):∀(k n i:Nat) (c:Int) (s:Maker),k<n→i+k=3→Mk c s→0≤c→c+40000*k≤800000→qiT N n s i=some (.inl ())
 |k,0,i,c,s,hn,_,_,_,_=>by omega
 |0,n+1,i,c,s,hn,hi,hs,hc0,hc=>by
  obtain rfl:i=3:=by omega
  rw[qiT,if_neg (dneg (by omega))]
 |k+1,n+1,i,c,s,hn,hi,hs,hc0,hc=>by
  rw[qiT,if_pos (dpos (by omega))]
  obtain ⟨l,w,s1,h1,h2,hP,h3,_⟩:=qGw N hN hs hc0 (by omega)
  obtain ⟨q,s2,k1,k2,k3,_,_⟩:=qsr N hN hP h2 (by omega)
  have hl:=hP.len
  rw[h1,qaa]
  simp only[]
  rw[k1,qaa]
  simp only[]
  have hx1:∃s3 q',qur N s2 l q ((i:Int)==1)=some (s3,q')∧Mk (c+31000+200+2) s3∧q'.length≤97:=by
   unfold qur
   cases hb:((i:Int)==1) with
   |false=>exact ⟨s2,q,if_neg (by simp),k2.le (by omega),by omega⟩
   |true=>
    rw[if_pos rfl,w64 (by omega) (by omega)]
    obtain ⟨a,s3,a1,a2,a3,a4⟩:=qa0 N (s:=s2) (c:=c+31000+200) ((l.length:Int)+2) (by omega) (by omega) k2 (by omega)
    obtain ⟨b,s4,b1,b2,b3,b4⟩:=qa0 N (s:=s3) (c:=c+31000+200+1) 6 (by omega) (by omega) a4 (by omega)
    rw[a1,qaa]
    simp only[]
    rw[b1,qaa,qaF (by simp;omega),qaa]
    exact ⟨_,_,rfl,b4.le (by omega),by simp;omega⟩
  obtain ⟨s3,q',g1,g2,g3⟩:=hx1
  rw[g1,qaa]
  simp only[]
  have h2':qus N l w q'=some false:=by
   unfold qus
   rw[qnF N hN hl (by omega) (by omega) (qF0 hP (by omega)),qaa,if_neg (by simp),qnF N hN hl (by omega) (by simp) (qF0 hP (by omega)),qaa]
   rfl
  rw[h2',qaa,if_neg (by simp),qad,w64s (by omega)]
  exact qjb N hN k n (i+1) (c+40000) s3 (by omega) (by omega) (g2.le (by omega)) (by omega) (by omega)
theorem qnG (N:Nat) (hN:6000≤N) (t:List Int) (l:List PlantElement) (r:List Visit) (s:List Setting) (hnm:∀x∈l,x.name.length<N∧x.name.length≤9223372036854775807):zaK N t l r s=some true:=by
 unfold zaK zcK
 have h0:=qjb N hN 3 N 0 0 (Maker.mk t 0) (by omega) (by omega) (mk0 t) (by omega) (by omega)
 have h0:qiT N N (Maker.mk t 0) 0=some (.inl ()):=h0
 rw[qaa,h0,qaa]
 simp only[]
 have h4:qut N l r s=some true:=by
  unfold qut
  by_cases a:(60:Int)<l.length
  ·rw[if_pos (dpos a)]
  ·rw[if_neg (dneg a)]
   by_cases b:(100:Int)<r.length
   ·rw[if_pos (dpos b)]
   ·rw[if_neg (dneg b)]
    by_cases c:(100:Int)<s.length
    ·rw[if_pos (dpos c)]
    ·rw[if_neg (dneg c),qnF N hN (by omega) (by omega) (by omega) hnm,qaa,if_pos rfl,qGj (by omega),qaa]
 rw[h4,qaa]
theorem qzY (t:List Int) (_:gSl (gInt .i64) t) (l:List PlantElement) (hl:gSl (fun x:PlantElement=>gInt .i64 x.kind∧gStr x.name∧gInt .i64 x.a∧gInt .i64 x.b∧gInt .i64 x.c∧gInt .i64 x.length) l)
  (r:List Visit) (hr:gSl (fun x:Visit=>gInt .i64 x.element∧gInt .i64 x.in_∧gInt .i64 x.out) r) (s:List Setting) (hs:gSl (fun x:Setting=>gInt .i64 x.element∧gInt .i64 x.position) s):∃N,zaK N t l r s=some true:=by
 have h3:maxLen≤9223372036854775807:=by decide
 refine ⟨maxLen+6000,qnG _ (by omega) t l r s fun x hx=> ?_⟩
 have h2:=(hl.2 x hx).2.1
 simp only[gStr] at h2
 omega
end Go.W
end
