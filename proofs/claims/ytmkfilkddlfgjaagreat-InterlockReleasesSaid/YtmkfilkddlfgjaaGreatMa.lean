/- AmBase AmSem AmPure AmPure2 AmRead AmNew AmEff AmEff2 AmEff3 AmLow AmTrace AmStep AmDraw AmDraw2 AmDraw3 AmDraw4 AmDraw5 AmSort AmCode AmMono AmTy -/
import Derived.Calls
import Derived.Orders
import Derived.Tactics
import Derived.Below
import Derived.WalkKit
import Derived.WalkSpells
import Derived.Scope
section
namespace Go.AM
def BIG:Nat:=9223372036854775808
structure Emb1 where
 blk:Nat
 cap:Nat
 es:Nat
 sh:Nat
def Emb:Type:=Nat→Option Emb1
inductive Blk where
 |dead
 |ro (rd:Nat→Option Value)
 |own (cells:List Value) (elem:TypeId)
 |map (cells:List Value) (type:TypeId)
 |lock (nest at_:Nat) (cells:List Value) (elem:TypeId)
def Blk.isOwn:Blk→Bool
 | .own _ _| .map _ _=>true
 |_=>false
def Blk.live:Blk→Bool
 | .dead=>false
 |_=>true
structure Mem where
 next:Nat
 blk:Nat→Blk
def Mem.load (m:Mem) (b o:Nat):Option Value:=
 match m.blk b with
 | .ro rd=>rd o
 | .own L _=>L[o]?
 | .map _ _=>none
 | .lock _ _ _ _=>none
 | .dead=>none
def Mem.put (m:Mem) (b:Nat) (x:Blk):Mem:={m with blk:=fun i=>if i=b then x else m.blk i}
def Mem.push (m:Mem) (x:Blk):Mem:={next:=m.next+1,blk:=fun i=>if i=m.next then x else m.blk i}
def Mem.trunc (m:Mem) (n:Nat):Mem:={next:=n,blk:=fun i=>if i<n then m.blk i else .dead}
def L2 {α β:Type} (R:α→β→Prop):List α→List β→Prop
 |[],[]=>True
 |a::l,b::k=>R a b∧L2 R l k
 |_,_=>False
def VRp (j:Emb):Value→Value→Prop
 | .pointer (some a),cv=>∃e,a.spot=none∧j a.block=some e∧cv= .pointer (some ⟨e.blk,e.sh+a.off,none⟩)
 |_,_=>False
def VR0 (j:Emb):Value→Value→Prop
 | .pointer (some a),cv=>∃e,a.spot=none∧j a.block=some e∧cv= .pointer (some ⟨e.blk,e.sh+a.off,none⟩)
 | .slice (some a) l c,cv=>∃e,a.spot=none∧j a.block=some e∧
   ((c<BIG∧cv= .slice (some ⟨e.blk,e.sh+a.off,none⟩) l c)∨
    (c=BIG∧0<e.es∧l≤e.cap - a.off / e.es∧e.cap<BIG∧a.off%e.es=0∧a.off / e.es≤e.cap∧cv= .slice (some ⟨e.blk,e.sh+a.off,none⟩) l (e.cap - a.off / e.es))∨
    (c=BIG∧l=0∧∃o',cv= .slice (some ⟨e.blk,o',none⟩) 0 0)∨
    (c=0∧l=0∧∃a',cv= .slice (some a') 0 0))
 | .map (some r),cv=>∃e,j r=some e∧cv= .map (some e.blk)
 | .func fn fs cs,cv=>fs=#[]∧∃ds:Array Value,cv= .func fn #[] ds∧L2 (VRp j) cs.toList ds.toList
 | .chan _,_| .iface ..,_| .agg _,_| .tuple _,_=>False
 |v,cv=>cv=v
def VR1 (j:Emb):Value→Value→Prop
 | .agg cs,cv=>∃ds:Array Value,cv= .agg ds∧L2 (VR0 j) cs.toList ds.toList
 |v,cv=>VR0 j v cv
def VR (j:Emb):Value→Value→Prop
 | .chan _,cv=>∀b,cv≠ .bool b
 | .tuple cs,cv=>∃ds:Array Value,cv= .tuple ds∧L2 (VR1 j) cs.toList ds.toList
 | .func fn fs cs,cv=>∃gs ds:Array Value,cv= .func fn gs ds∧L2 (VR1 j) fs.toList gs.toList∧L2 (VR1 j) cs.toList ds.toList
 |v,cv=>VR1 j v cv
def qah:Value→Bool
 | .bool _| .int _ _| .float _ _| .complex _ _ _| .string _| .pointer none| .slice none _ _| .map none| .nilFunc| .nilIface=>true
 | .func _ fs cs=>fs.isEmpty&&cs.isEmpty
 |_=>false
def aggT:TypeDesc→Bool
 | .struct _| .array _ _=>true
 |_=>false
def qaj (P:Program) (t:TypeId):Bool:=
 match P.underlying t with
 |some d=>aggT d
 |none=>false
def qal:Bool→List Value→Value
 |true,cs=> .agg cs.toArray
 |false,cs=>cs.headD undef
structure EntL (ks vs:Nat) (L:List Value) (E:List (List Value×List Value)):Prop where
 eq:L=E.flatMap fun p=>p.1++p.2
 len:∀p∈E,p.1.length=ks∧p.2.length=vs
def EntW (P:Program) (j:Emb) (kt vt:TypeId) (p:List Value×List Value) (x:MapEntry):Prop:=
 x.key=qal (qaj P kt) p.1∧p.1.all qah=true∧VR1 j (qal (qaj P vt) p.2) x.val
def qeC (cs:Array MapEntry) (clock:Nat):Prop:=(cs.toList.map (·.born)).Nodup∧∀x∈cs.toList,x.born<clock
def ObjR (P:Program) (j:Emb) (e:Emb1) (o:Option Obj):Blk→Prop
 | .dead=>True
 | .ro rd=>∀i v,rd i=some v→∃(cs:Array Value) (t:TypeId) (fz:Nat×Nat) (cv:Value),o=some (.cells cs t fz)∧cs[e.sh+i]? =some cv∧VR0 j v cv
 | .own L t=>∃(cs:Array Value) (fz:Nat×Nat),o=some (.cells cs t fz)∧(∀i:Nat,i<cs.size→¬(fz.1≤i∧i<fz.2))∧
  P.cellsOf t=e.es∧e.sh+e.cap*e.es≤cs.size∧L.length≤e.cap*e.es∧∀(i:Nat) (v:Value),L[i]? =some v→∃cv,cs[e.sh+i]? =some cv∧VR0 j v cv
 | .map L u=>∃(kt vt:TypeId) (cs:Array MapEntry) (clock:Nat) (E:List (List Value×List Value)),o=some (.map cs clock)∧P.underlying u=some (.map kt vt)∧
  EntL (P.cellsOf kt) (P.cellsOf vt) L E∧L2 (EntW P j kt vt) E cs.toList∧qeC cs clock
 | .lock _ _ _ _=>False
structure Rel (P:Program) (j:Emb) (m:Mem) (w:World):Prop where
 lt:∀b e,j b=some e→b<m.next∧e.blk<w.heap.size
 obj:∀b e,j b=some e→ObjR P j e w.heap[e.blk]? (m.blk b)
 inj:∀b b' e e',j b=some e→j b'=some e'→(m.blk b).isOwn=true→(m.blk b').live=true→e.blk=e'.blk→b=b'
structure Frm (j:Emb) (m:Mem) (w w':World):Prop where
 os:w'.os=w.os
 tape:w'.tape=w.tape
 output:w'.output=w.output
 size:w.heap.size≤w'.heap.size
 block:∀c,c<w.heap.size→(∀b e,j b=some e→(m.blk b).isOwn=true→e.blk≠c)→w'.heap[c]? =w.heap[c]?
structure Post (P:Program) (j:Emb) (m:Mem) (w:World) (j':Emb) (m':Mem) (w':World):Prop where
 rel:Rel P j' m' w'
 frm:Frm j m w w'
 next:m.next≤m'.next
 ext:∀b,b<m.next→j' b=j b
 fresh:∀b e,j' b=some e→m.next≤b→w.heap.size≤e.blk∨∃b0 e0,j b0=some e0∧(m.blk b0).isOwn=true∧e0.blk=e.blk
 old:∀b,b<m.next→(m'.blk b).isOwn=true→(m.blk b).isOwn=true
 alive:∀b,b<m.next→(m'.blk b).live=true→(m.blk b).live=true
theorem L2.mono {α β:Type} {R S:α→β→Prop} (h:∀a b,R a b→S a b):∀{l:List α} {k:List β},L2 R l k→L2 S l k
 |[],[],_=>True.intro
 |_::_,_::_,⟨h1,h2⟩=>⟨h _ _ h1,L2.mono h h2⟩
 |[],_::_,h=>h.elim
 |_::_,[],h=>h.elim
theorem L2.length {α β:Type} {R:α→β→Prop}:∀{l:List α} {k:List β},L2 R l k→l.length=k.length
 |[],[],_=>rfl
 |_::l,_::k,⟨_,h2⟩=>by simp[L2.length h2]
 |[],_::_,h=>h.elim
 |_::_,[],h=>h.elim
theorem L2.get {α β:Type} {R:α→β→Prop}:∀{l:List α} {k:List β} (_:L2 R l k) (i:Nat) (a:α),l[i]? =some a→∃b,k[i]? =some b∧R a b
 |[],[],_,i,a,h=>by simp at h
 |x::l,y::k,⟨h1,h2⟩,0,a,h=>by simp at h;subst h;exact ⟨y,by simp,h1⟩
 |x::l,y::k,⟨h1,h2⟩,i+1,a,h=>by simpa using L2.get h2 i a (by simpa using h)
 |[],_::_,h,_,_,_=>h.elim
 |_::_,[],h,_,_,_=>h.elim
theorem L2.of_get {α β:Type} {R:α→β→Prop}:∀{l:List α} {k:List β},l.length=k.length→(∀(i:Nat) a b,l[i]? =some a→k[i]? =some b→R a b)→L2 R l k
 |[],[],_,_=>True.intro
 |x::l,y::k,hl,h=>⟨h 0 x y (by simp) (by simp),L2.of_get (by simpa using hl) fun i a b ha hb=>h (i+1) a b (by simpa using ha) (by simpa using hb)⟩
 |[],_::_,hl,_=>by simp at hl
 |_::_,[],hl,_=>by simp at hl
theorem L2.append {α β:Type} {R:α→β→Prop}:∀{l l':List α} {k k':List β},L2 R l k→L2 R l' k'→L2 R (l++l') (k++k')
 |[],_,[],_,_,h=>h
 |_::_,_,_::_,_,⟨h1,h2⟩,h=>⟨h1,L2.append h2 h⟩
 |[],_,_::_,_,h,_=>h.elim
 |_::_,_,[],_,h,_=>h.elim
theorem L2.take {α β:Type} {R:α→β→Prop}:∀(n:Nat) {l:List α} {k:List β},L2 R l k→L2 R (l.take n) (k.take n)
 |0,_,_,_=>by simp[L2]
 |n+1,[],[],_=>by simp[L2]
 |n+1,_::_,_::_,⟨h1,h2⟩=>by simpa[L2] using ⟨h1,L2.take n h2⟩
 |_+1,[],_::_,h=>h.elim
 |_+1,_::_,[],h=>h.elim
theorem L2.drop {α β:Type} {R:α→β→Prop}:∀(n:Nat) {l:List α} {k:List β},L2 R l k→L2 R (l.drop n) (k.drop n)
 |0,_,_,h=>by simpa using h
 |n+1,[],[],_=>by simp[L2]
 |n+1,_::_,_::_,⟨_,h2⟩=>by simpa using L2.drop n h2
 |_+1,[],_::_,h=>h.elim
 |_+1,_::_,[],h=>h.elim
theorem VRp.mono {j j':Emb} (h:∀b e,j b=some e→j' b=some e) {v cv:Value} (hv:VRp j v cv):VRp j' v cv:=by
 unfold VRp at hv⊢
 split at hv
 ·obtain ⟨e,h1,h2,h3⟩:=hv;exact ⟨e,h1,h _ _ h2,h3⟩
 ·exact hv.elim
theorem VR0.mono {j j':Emb} (h:∀b e,j b=some e→j' b=some e) {v cv:Value} (hv:VR0 j v cv):VR0 j' v cv:=by
 cases v with
 |func fn fs cs=>obtain ⟨h1,ds,h2,h3⟩:=hv;exact ⟨h1,ds,h2,h3.mono fun _ _=>VRp.mono h⟩
 |pointer a=>cases a with
  |none=>exact hv
  |some a=>obtain ⟨e,h1,h2,h3⟩:=hv;exact ⟨e,h1,h _ _ h2,h3⟩
 |slice a l c=>cases a with
  |none=>exact hv
  |some a=>obtain ⟨e,h1,h2,h3⟩:=hv;exact ⟨e,h1,h _ _ h2,h3⟩
 |map r=>cases r with
  |none=>exact hv
  |some r=>obtain ⟨e,h2,h3⟩:=hv;exact ⟨e,h _ _ h2,h3⟩
 |_=>exact hv
theorem VR1.mono {j j':Emb} (h:∀b e,j b=some e→j' b=some e) {v cv:Value} (hv:VR1 j v cv):VR1 j' v cv:=by
 cases v with
 |agg cs=>obtain ⟨ds,h1,h2⟩:=hv;exact ⟨ds,h1,h2.mono fun _ _=>VR0.mono h⟩
 |_=>simp only[VR1] at hv⊢;exact VR0.mono h hv
theorem VR.mono {j j':Emb} (h:∀b e,j b=some e→j' b=some e) {v cv:Value} (hv:VR j v cv):VR j' v cv:=by
 cases v with
 |chan _=>exact hv
 |tuple cs=>obtain ⟨ds,h1,h2⟩:=hv;exact ⟨ds,h1,h2.mono fun _ _=>VR1.mono h⟩
 |func fn fs cs=>obtain ⟨gs,ds,h1,h2,h3⟩:=hv;exact ⟨gs,ds,h1,h2.mono fun _ _=>VR1.mono h,h3.mono fun _ _=>VR1.mono h⟩
 |_=>simp only[VR] at hv⊢;exact VR1.mono h hv
theorem ObjR.mono {P:Program} {j j':Emb} {e:Emb1} {o:Option Obj} {x:Blk} (h:ObjR P j e o x) (hj:∀b e,j b=some e→j' b=some e):ObjR P j' e o x:=by
 cases x with
 |dead=>trivial
 |ro rd=>
  intro i v hi
  obtain ⟨cs,t,fz,cv,h1,h2,h3⟩:=h i v hi
  exact ⟨cs,t,fz,cv,h1,h2,h3.mono hj⟩
 |own L t=>
  obtain ⟨cs,fz,h1,h2,h3,h4,h5,h6⟩:=h
  refine ⟨cs,fz,h1,h2,h3,h4,h5,fun i v hi=> ?_⟩
  obtain ⟨cv,g1,g2⟩:=h6 i v hi
  exact ⟨cv,g1,g2.mono hj⟩
 |map L u=>
  obtain ⟨kt,vt,cs,clock,E,h1,h2,h3,h4,h5⟩:=h
  exact ⟨kt,vt,cs,clock,E,h1,h2,h3,h4.mono fun p x ⟨g1,g2,g3⟩=>⟨g1,g2,g3.mono hj⟩,h5⟩
 |lock _ _ _ _=>exact h.elim
theorem Rel.own {P:Program} {j:Emb} {m:Mem} {w:World} (h:Rel P j m w) (b:Nat) (e:Emb1) (L:List Value) (t:TypeId) (hj:j b=some e) (hb:m.blk b= .own L t):∃(cs:Array Value) (fz:Nat×Nat),w.heap[e.blk]? =some (.cells cs t fz)∧(∀i:Nat,i<cs.size→¬(fz.1≤i∧i<fz.2))∧
  P.cellsOf t=e.es∧e.sh+e.cap*e.es≤cs.size∧L.length≤e.cap*e.es∧∀(i:Nat) (v:Value),L[i]? =some v→∃cv,cs[e.sh+i]? =some cv∧VR0 j v cv:=by
 have:=h.obj b e hj
 rw[hb] at this
 exact this
theorem VR1.of0 {j:Emb} {v cv:Value} (h:VR0 j v cv):VR1 j v cv:=by
 cases v<;>first|exact h|exact h.elim
theorem VRp.of {j:Emb} {v cv:Value} (h:VRp j v cv):VR0 j v cv:=by
 unfold VRp at h
 split at h
 ·exact h
 ·exact h.elim
theorem VR.of1 {j:Emb} {v cv:Value} (h:VR1 j v cv):VR j v cv:=by
 cases v with
 |func fn fs cs=>
  obtain ⟨h1,ds,h2,h3⟩:=h
  subst h1
  exact ⟨#[],ds,h2,trivial,h3.mono fun _ _ h=>VR1.of0 (VRp.of h)⟩
 |tuple _=>exact h.elim
 |chan _=>exact h.elim
 |_=>exact h
theorem VR.of0 {j:Emb} {v cv:Value} (h:VR0 j v cv):VR j v cv:=VR.of1 (VR1.of0 h)
theorem VR0.one {j:Emb} {v cv:Value} (h:VR0 j v cv):cv.oneCell'=true:=by
 cases v with
 |pointer a=>cases a with
  |none=>cases h;rfl
  |some a=>obtain ⟨e,h1,h2,h3⟩:=h;subst h3;rfl
 |slice a l c=>cases a with
  |none=>cases h;rfl
  |some a=>
   obtain ⟨e,h1,h2,h3⟩:=h
   rcases h3 with ⟨_,rfl⟩|⟨_,_,_,_,_,_,rfl⟩|⟨_,_,_,rfl⟩|⟨_,_,_,rfl⟩<;>rfl
 |map r=>cases r with
  |none=>cases h;rfl
  |some r=>obtain ⟨e,h2,h3⟩:=h;subst h3;rfl
 |chan _=>exact h.elim
 |func _ _ _=>obtain ⟨_,ds,h2,_⟩:=h;subst h2;rfl
 |iface _ _=>exact h.elim
 |agg _=>exact h.elim
 |tuple _=>exact h.elim
 |_=>cases h;rfl
theorem VR0.cells {j:Emb} {v cv:Value} (h:VR0 j v cv):v.cells=#[v]∧cv.cells=#[cv]:=by
 refine ⟨?_, ?_⟩
 ·cases v<;>first|rfl|exact h.elim
 ·have:=h.one
  cases cv<;>first|rfl|simp[Value.oneCell'] at this
theorem VR1.cells {j:Emb} {v cv:Value} (h:VR1 j v cv):L2 (VR0 j) v.cells.toList cv.cells.toList:=by
 cases v with
 |agg cs=>obtain ⟨ds,rfl,h2⟩:=h;exact h2
 |_=>
  simp only[VR1] at h
  have h0:=h
  have:=VR0.cells h0
  rw[this.1,this.2]
  exact ⟨h0,True.intro⟩
theorem Frm.refl (j:Emb) (m:Mem) (w:World):Frm j m w w:=⟨rfl,rfl,rfl,Nat.le_refl _,fun _ _ _=>rfl⟩
theorem Post.refl {P:Program} {j:Emb} {m:Mem} {w:World} (h:Rel P j m w):Post P j m w j m w:=
 ⟨h,Frm.refl j m w,Nat.le_refl _,fun _ _=>rfl,fun b e hb hn=>absurd (h.lt b e hb).1 (Nat.not_lt.2 hn),fun _ _ h=>h,fun _ _ h=>h⟩
theorem Post.up {P:Program} {j j':Emb} {m m':Mem} {w w':World} (h:Post P j m w j' m' w') (hr:Rel P j m w):∀b e,j b=some e→j' b=some e:=
 fun b e hb=>by rw[h.ext b (hr.lt b e hb).1];exact hb
theorem Post.trans {P:Program} {j j' j'':Emb} {m m' m'':Mem} {w w' w'':World} (h:Post P j m w j' m' w') (k:Post P j' m' w' j'' m'' w''):Post P j m w j'' m'' w'' where
 rel:=k.rel
 frm:=by
  refine ⟨k.frm.os.trans h.frm.os,k.frm.tape.trans h.frm.tape,k.frm.output.trans h.frm.output,Nat.le_trans h.frm.size k.frm.size,fun c hc hn=> ?_⟩
  rw[k.frm.block c (Nat.lt_of_lt_of_le hc h.frm.size) ?_,h.frm.block c hc hn]
  intro b e hb ho he
  rcases Nat.lt_or_ge b m.next with hlt|hge
  ·exact hn b e (by rw[←h.ext b hlt];exact hb) (h.old b hlt ho) he
  ·rcases h.fresh b e hb hge with hf|⟨b0,e0,hb0,ho0,he0⟩
   ·omega
   ·exact hn b0 e0 hb0 ho0 (he0.trans he)
 next:=Nat.le_trans h.next k.next
 ext:=fun b hb=>by rw[k.ext b (Nat.lt_of_lt_of_le hb h.next),h.ext b hb]
 fresh:=by
  intro b e hb hge
  have old':∀b e,j' b=some e→(m'.blk b).isOwn=true→w.heap.size≤e.blk∨∃b0 e0,j b0=some e0∧(m.blk b0).isOwn=true∧e0.blk=e.blk:=by
   intro b e hb ho
   rcases Nat.lt_or_ge b m.next with hlt|hge
   ·exact .inr ⟨b,e,by rw[←h.ext b hlt];exact hb,h.old b hlt ho,rfl⟩
   ·exact h.fresh b e hb hge
  rcases Nat.lt_or_ge b m'.next with hlt|hge'
  ·exact h.fresh b e (by rw[←k.ext b hlt];exact hb) hge
  ·rcases k.fresh b e hb hge' with hf|⟨b0,e0,hb0,ho0,he0⟩
   ·exact .inl (Nat.le_trans h.frm.size hf)
   ·rw[←he0];exact old' b0 e0 hb0 ho0
 old:=fun b hb ho=>h.old b hb (k.old b (Nat.lt_of_lt_of_le hb h.next) ho)
 alive:=fun b hb ho=>h.alive b hb (k.alive b (Nat.lt_of_lt_of_le hb h.next) ho)
end Go.AM
end
section
namespace Go.AM
def qbf:Value→Bool
 | .agg cs=>cs.toList.all qah
 |v=>qah v
def flat:Value→Bool
 | .tuple cs=>cs.toList.all qbf
 |v=>qbf v
def qiX:Value→Bool
 | .pointer (some _)=>true
 |_=>false
def storable:Value→Bool
 | .tuple _| .chan _=>false
 | .func _ fs cs=>fs.isEmpty&&cs.toList.all qiX
 |_=>true
def set (fr:Nat→Value) (d:Option Tmp) (v:Value):Nat→Value:=
 match d with
 |some t=>fun i=>if i=t then v else fr i
 |none=>fr
def ev (fr:Nat→Value):Operand→Value
 | .tmp t=>fr t
 | .const v=>v
 | .global g=> .pointer (some ⟨g,0,none⟩)
 | .func f=> .func (.func f) #[] #[]
def rdN (m:Mem) (b:Nat):Nat→Nat→Option (List Value)
 |_,0=>some []
 |o,n+1=>match m.load b o,rdN m b (o+1) n with
  |some v,some l=>some (v::l)
  |_,_=>none
def setN:List Value→Nat→List Value→List Value
 |L,_,[]=>L
 |L,o,v::vs=>setN (L.set o v) (o+1) vs
def qbA (place:Nat→Option (Nat×Nat)) (cells:List Value):List (Nat×Value)→Option (List Value)
 |[]=>some cells
 |(i,v)::rest=>
  match place i with
  |none=>none
  |some (off,size)=>if storable v=true∧v.cells.size=size∧off+size≤cells.length then qbA place (setN cells off v.cells.toList) rest else none
def qcp (P:Program) (fs:Array Field):List (Option (Nat×Nat)):=fs.toList.map fun f=>(P.info? f.type).map fun i=>(f.offset,i.size)
def qfh (ρ:Operand→Value) (lo:Option Operand) (n:Nat):Prop:=
 match lo with
 |none=>n=0
 |some y=>∃k,ρ y= .int k n
def qbM (ρ:Operand→Value) (hi:Option Operand) (l n:Nat):Prop:=
 match hi with
 |none=>n=l
 |some y=>∃k,ρ y= .int k n
inductive PureR (P:Program) (ρ:Operand→Value) (o:Oper):Value→Prop where
 |flat (v:Value) (hs:∀cs b,o.op≠ .select cs b) (h:∀x∈o.op.operands,flat (ρ x)=true) (hv:flat v=true) (hr:∀w,(execOp ρ o).run P w= .ok (.value v) w):PureR P ρ o v
 |move (x:Operand) (h:o.op= .move x∨o.op= .assign x):PureR P ρ o (ρ x)
 |pick (c a b:Operand) (t:Bool) (h:o.op= .pick c a b) (hc:ρ c= .bool t):PureR P ρ o (if t then ρ a else ρ b)
 |extract (x:Operand) (i:Nat) (vs:Array Value) (v:Value) (h:o.op= .extract x i) (hx:ρ x= .tuple vs) (hv:vs[i]? =some v):PureR P ρ o v
 |field (t:TypeId) (x:Operand) (i:Nat) (fs:Array Field) (f:Field) (d:TypeDesc) (cs:Array Value) (v:Value) (h:o.op= .field t x i) (ht:P.underlying t=some (.struct fs)) (hf:fs[i]? =some f)
   (hd:P.underlying f.type=some d) (hx:ρ x= .agg cs) (hv:if aggT d=true then ∃k,P.info? f.type=some k∧f.offset+k.size≤cs.size∧v= .agg (cs.extract f.offset (f.offset+k.size)) else cs[f.offset]? =some v):PureR P ρ o v
 |build (t:TypeId) (ps:Array (Nat×Operand)) (fs:Array Field) (i:TypeInfo) (z:Value) (cs:List Value) (h:o.op= .build t ps) (ht:P.underlying t=some (.struct fs)) (hi:P.info? t=some i) (hz:i.zero=some z)
   (hzf:z.cells.toList.all qah=true) (hp:∀x∈qcp P fs,x.isSome=true)
   (hc:qbA (fun k=>((qcp P fs)[k]?).join) z.cells.toList (ps.toList.map fun p=>(p.1,ρ p.2))=some cs):PureR P ρ o (.agg cs.toArray)
 |buildA (t:TypeId) (ps:Array (Nat×Operand)) (n:Nat) (e:TypeId) (i k:TypeInfo) (z:Value) (cs:List Value) (h:o.op= .build t ps) (ht:P.underlying t=some (.array n e)) (hi:P.info? t=some i) (hz:i.zero=some z)
   (hzf:z.cells.toList.all qah=true) (he:P.info? e=some k)
   (hc:qbA (fun j=>some (j*k.size,k.size)) z.cells.toList (ps.toList.map fun p=>(p.1,ρ p.2))=some cs):PureR P ρ o (.agg cs.toArray)
 |nilCheck (x:Operand) (a:Addr) (h:o.op= .nilCheck x) (hx:ρ x= .pointer (some a)):PureR P ρ o (.pointer (some a))
 |fieldAddr (t:TypeId) (x:Operand) (i:Nat) (fs:Array Field) (f:Field) (k:TypeInfo) (b off:Nat) (h:o.op= .fieldAddr t x i) (ht:P.underlying t=some (.struct fs)) (hf:fs[i]? =some f)
   (hk:P.info? f.type=some k) (hs:k.size≠0) (hx:ρ x= .pointer (some ⟨b,off,none⟩)):PureR P ρ o (.pointer (some ⟨b,off+f.offset,none⟩))
 |indexAddr (t:TypeId) (x y:Operand) (e:TypeId) (i:TypeInfo) (b off l c:Nat) (k:IntKind) (n:Int) (h:o.op= .indexAddr t x y) (ht:P.underlying t=some (.slice e)) (hi:P.info? e=some i)
   (hx:ρ x= .slice (some ⟨b,off,none⟩) l c) (hy:ρ y= .int k n) (h0:0≤n) (h1:n<l):PureR P ρ o (.pointer (some ⟨b,off+n.toNat*i.size,none⟩))
 |indexAddrA (t:TypeId) (x y:Operand) (e:TypeId) (i:TypeInfo) (b off l:Nat) (k:IntKind) (n:Int) (h:o.op= .indexAddr t x y) (ht:P.underlying t=some (.array l e)) (hi:P.info? e=some i)
   (hx:ρ x= .pointer (some ⟨b,off,none⟩)) (hy:ρ y= .int k n) (h0:0≤n) (h1:n<l):PureR P ρ o (.pointer (some ⟨b,off+n.toNat*i.size,none⟩))
 |slice (t:TypeId) (x:Operand) (lo hi:Option Operand) (e:TypeId) (i:TypeInfo) (b off l c:Nat) (n h':Nat) (h:o.op= .slice t x lo hi none) (ht:P.underlying t=some (.slice e)) (hi':P.info? e=some i)
   (hx:ρ x= .slice (some ⟨b,off,none⟩) l c) (hb:c≠BIG) (hlo:qfh ρ lo n) (hhi:qbM ρ hi l h') (h1:n≤h') (h2:h'≤c)
   (h3:hi=none→True):PureR P ρ o (.slice (some ⟨b,if c=n then off else off+n*i.size,none⟩) (h' - n) (c - n))
 |slice3 (t:TypeId) (x mx:Operand) (hi:Option Operand) (e:TypeId) (i:TypeInfo) (b off l c:Nat) (h' k':Nat) (km:IntKind) (h:o.op= .slice t x none hi (some mx)) (ht:P.underlying t=some (.slice e)) (hi':P.info? e=some i)
   (hx:ρ x= .slice (some ⟨b,off,none⟩) l c) (hc:(c≠BIG∧k'≤c)∨(c=BIG∧k'≤l)) (hhi:∃y k,hi=some y∧ρ y= .int k h') (hmx:ρ mx= .int km k') (h1:h'≤k'):PureR P ρ o (.slice (some ⟨b,off,none⟩) h' k')
 |slice3Nil (t:TypeId) (x mx:Operand) (hi:Option Operand) (e:TypeId) (i:TypeInfo) (km:IntKind) (h:o.op= .slice t x none hi (some mx)) (ht:P.underlying t=some (.slice e)) (hi':P.info? e=some i)
   (hx:ρ x= .slice none 0 0) (hhi:∃y k,hi=some y∧ρ y= .int k 0) (hmx:ρ mx= .int km 0):PureR P ρ o (.slice none 0 0)
 |sliceNil (t:TypeId) (x:Operand) (lo hi:Option Operand) (e:TypeId) (i:TypeInfo) (h:o.op= .slice t x lo hi none) (ht:P.underlying t=some (.slice e)) (hi':P.info? e=some i)
   (hx:ρ x= .slice none 0 0) (hlo:qfh ρ lo 0) (hhi:qbM ρ hi 0 0):PureR P ρ o (.slice none 0 0)
 |len (x:Operand) (t e:TypeId) (a:Option Addr) (l c:Nat) (h:o.op= .call {callee:= .builtin .len,args:=#[x],argTypes:=#[t]}) (ht:P.underlying t=some (.slice e)) (hx:ρ x= .slice a l c):PureR P ρ o (.int .i64 l)
 |capNil (x:Operand) (t e:TypeId) (h:o.op= .call {callee:= .builtin .cap,args:=#[x],argTypes:=#[t]}) (ht:P.underlying t=some (.slice e)) (hx:ρ x= .slice none 0 0):PureR P ρ o (.int .i64 0)
 |eqNil (neq:Bool) (x y:Operand) (t u e:TypeId) (a:Addr) (l c:Nat) (h:o.op= .binOp (if neq then .neq else .eql) t x y u) (ht:P.underlying t=some (.slice e))
   (hx:ρ x= .slice (some a) l c) (hy:ρ y= .slice none 0 0):PureR P ρ o (.bool neq)
 |func (fn:Fn) (first captured:Array Operand) (h:o.op= .makeFunc fn first captured) (hf:∀x∈first.toList++captured.toList,storable (ρ x)=true):PureR P ρ o (.func fn (first.map ρ) (captured.map ρ))
inductive Look (ka va:Bool) (key z:Value):List (List Value×List Value)→Value→Bool→Prop where
 |miss:Look ka va key z [] z false
 |hit (p:List Value×List Value) (E:List (List Value×List Value)) (h:qal ka p.1=key):Look ka va key z (p::E) (qal va p.2) true
 |next (p:List Value×List Value) (E:List (List Value×List Value)) (v:Value) (b:Bool) (h:qal ka p.1≠key) (hE:Look ka va key z E v b):Look ka va key z (p::E) v b
inductive Upd (ka:Bool) (key val:List Value):List (List Value×List Value)→List (List Value×List Value)→Prop where
 |miss:Upd ka key val [] [(key,val)]
 |hit (p:List Value×List Value) (E:List (List Value×List Value)) (h:qal ka p.1=qal ka key):Upd ka key val (p::E) ((p.1,val)::E)
 |next (p:List Value×List Value) (E E':List (List Value×List Value)) (h:qal ka p.1≠qal ka key) (hE:Upd ka key val E E'):Upd ka key val (p::E) (p::E')
open Classical in
noncomputable def qbL (v:Value):List MapEntry→Nat→Option (Nat×Value)
 |[],_=>none
 |e::es,i=>if e.key=v then some (i,e.val) else qbL v es (i+1)
structure Keyed (P:Program) (kt:TypeId) (good:Value→Prop):Prop where
 check:∀(em:Bool) (v:Value) (w:World),good v→(Instr.checkKey em 10000 kt v).run P w= .ok () w
 find:∀(v:Value) (es:List MapEntry) (w:World),good v→(∀x∈es,good x.key)→(Instr.findKey kt v es).run P w= .ok (qbL v es 0) w
 stays:∀(v:Value) (w:World),good v→(Instr.keyThatStays v v).run P w= .ok v w
inductive ReadR (P:Program) (ρ:Operand→Value) (o:Oper) (m:Mem):Value→Prop where
 |load (t:TypeId) (x:Operand) (b off:Nat) (d:TypeDesc) (v:Value) (h:o.op= .load t x) (hx:ρ x= .pointer (some ⟨b,off,none⟩)) (ht:P.underlying t=some d) (hd:aggT d=false) (hv:m.load b off=some v):ReadR P ρ o m v
 |loadA (t:TypeId) (x:Operand) (b off:Nat) (d:TypeDesc) (i:TypeInfo) (cs:List Value) (h:o.op= .load t x) (hx:ρ x= .pointer (some ⟨b,off,none⟩)) (ht:P.underlying t=some d) (hd:aggT d=true) (hi:P.info? t=some i)
   (hv:rdN m b off i.size=some cs):ReadR P ρ o m (.agg cs.toArray)
 |slice (t:TypeId) (x:Operand) (lo hi:Option Operand) (e:TypeId) (i:TypeInfo) (L:List Value) (b off l:Nat) (n h':Nat) (h:o.op= .slice t x lo hi none) (ht:P.underlying t=some (.slice e)) (hi':P.info? e=some i)
   (hx:ρ x= .slice (some ⟨b,off,none⟩) l BIG) (hm:m.blk b= .own L e) (hlo:qfh ρ lo n) (hhi:qbM ρ hi l h') (h1:n≤h') (h2:h'≤l)
   (h3:off+l*i.size≤L.length):ReadR P ρ o m (.slice (some ⟨b,off+n*i.size,none⟩) (h' - n) BIG)
 |str (s t:TypeId) (x:Operand) (e:TypeId) (b off l c:Nat) (cs:List UInt8) (h:o.op= .convert s t x) (hs:P.underlying s=some (.slice e)) (he:P.underlying e=some (.int .u8)) (ht:P.underlying t=some .string)
   (hx:ρ x= .slice (some ⟨b,off,none⟩) l c) (hv:rdN m b off l=some (cs.map fun u=> .int .u8 u.toNat)):ReadR P ρ o m (.string ⟨cs.toArray⟩)
 |strNil (s t:TypeId) (x:Operand) (e:TypeId) (l c:Nat) (h:o.op= .convert s t x) (hs:P.underlying s=some (.slice e)) (he:P.underlying e=some (.int .u8)) (ht:P.underlying t=some .string)
   (hx:ρ x= .slice none l c):ReadR P ρ o m (.string .empty)
 |lookup (xt:TypeId) (x ix:Operand) (ok:Bool) (u kt vt:TypeId) (b:Nat) (L:List Value) (E:List (List Value×List Value)) (i:TypeInfo) (z v0:Value) (t:Bool) (good:Value→Prop) (h:o.op= .lookup xt x ix ok)
   (hxt:P.underlying xt=some (.map kt vt)) (hu:P.underlying u=some (.map kt vt)) (hx:(ρ x= .map (some b)∧m.blk b= .map L u∧EntL (P.cellsOf kt) (P.cellsOf vt) L E)∨(ρ x= .map none∧E=[])) (hks:0<P.cellsOf kt)
   (hv1:qaj P vt=false→P.cellsOf vt=1) (K:Keyed P kt good) (hf:flat (ρ ix)=true) (hk:good (ρ ix)) (hg:∀p∈E,good (qal (qaj P kt) p.1)) (hi:P.info? vt=some i) (hz:i.zero=some z) (hzf:qbf z=true)
   (hl:Look (qaj P kt) (qaj P vt) (ρ ix) z E v0 t):ReadR P ρ o m (if ok then .tuple #[v0, .bool t] else v0)
inductive NewR (P:Program) (ρ:Operand→Value) (o:Oper) (n:Nat):Blk→Value→Prop where
 |alloc (t:TypeId) (i:TypeInfo) (z:Value) (h:o.op= .alloc t) (hi:P.info? t=some i) (hz:i.zero=some z) (hzf:z.cells.toList.all qah=true) (hs:z.cells.size=i.size):
   NewR P ρ o n (.own z.cells.toList t) (.pointer (some ⟨n,0,none⟩))
 |box (t:TypeId) (x:Operand) (i:TypeInfo) (h:o.op= .box t x) (hi:P.info? t=some i) (hv:storable (ρ x)=true) (hs:(ρ x).cells.size=i.size):
   NewR P ρ o n (.own (ρ x).cells.toList t) (.pointer (some ⟨n,0,none⟩))
 |buildSlice (t:TypeId) (l:Nat) (ps:Array (Nat×Operand)) (e:TypeId) (i:TypeInfo) (z:Value) (cs:List Value) (h:o.op= .buildSlice t l ps) (ht:P.underlying t=some (.slice e)) (hi:P.info? e=some i) (hz:i.zero=some z)
   (hzf:z.cells.toList.all qah=true) (hzs:z.cells.size=i.size) (h24:l*i.size≤16777216) (hl63:l<9223372036854775808)
   (hc:qbA (fun k=>some (k*i.size,i.size)) (List.replicate l z.cells.toList).flatten (ps.toList.map fun p=>(p.1,ρ p.2))=some cs):
   NewR P ρ o n (.own cs e) (.slice (some ⟨n,0,none⟩) l l)
 |makeSlice (t:TypeId) (x y:Operand) (l c:Nat) (k k':IntKind) (e:TypeId) (i:TypeInfo) (z:Value) (h:o.op= .makeSlice t x y) (ht:P.underlying t=some (.slice e)) (hi:P.info? e=some i) (hz:i.zero=some z)
   (hzf:z.cells.toList.all qah=true) (hzs:z.cells.size=i.size) (hx:ρ x= .int k l) (hy:ρ y= .int k' c) (hlc:l≤c) (hb:i.bytes*c≤140737488355328) (hc:c<9223372036854775808):
   NewR P ρ o n (.own (List.replicate c z.cells.toList).flatten e) (.slice (some ⟨n,0,none⟩) l c)
 |bytes (s t:TypeId) (x:Operand) (e:TypeId) (i:TypeInfo) (b:ByteArray) (h:o.op= .convert s t x) (hs:P.underlying s=some .string) (ht:P.underlying t=some (.slice e)) (he:P.underlying e=some (.int .u8)) (hi:P.info? e=some i)
   (hi1:i.size=1) (hx:ρ x= .string b) (hb:b.size<9223372036854775807):
   NewR P ρ o n (.own (b.data.toList.map fun u=> .int .u8 u.toNat) e) (.slice (some ⟨n,0,none⟩) b.size BIG)
 |makeMap (t kt vt:TypeId) (h:o.op= .makeMap t none) (ht:P.underlying t=some (.map kt vt)):NewR P ρ o n (.map [] t) (.map (some n))
def elems (m:Mem) (sz:Nat):Value→Option (List Value)
 | .slice (some ⟨b,off,none⟩) l _=>rdN m b off (l*sz)
 | .slice none _ _=>some []
 | .string s=>if sz=1 then some (s.data.toList.map fun u=> .int .u8 u.toNat) else none
 |_=>none
def lenV:Value→Nat
 | .slice _ l _=>l
 | .string s=>s.size
 |_=>0
def callee (o:Oper) (ρ:Operand→Value) (f:FuncId) (args:Array Value):Prop:=
 ∃x as ts first captured,o.op= .call {callee:= .value x,args:=as,argTypes:=ts}∧ρ x= .func (.func f) first captured∧args=first++as.map ρ++captured
inductive AddR (P:Program) (m:Mem) (u:TypeId) (i:TypeInfo) (v:Value) (n:Nat) (new:List Value):Prop where
 |el (hu:(∃e',P.underlying u=some (.slice e'))∨P.underlying u=some .string) (hl:lenV v=n) (he:elems m i.size v=some new)
 |mk (kk k:IntKind) (z:Value) (hu:P.underlying u=some (.int kk)) (hv:v= .int k n) (hz:i.zero=some z) (hzf:z.cells.toList.all qah=true) (hzs:z.cells.size=i.size) (hsz:0<i.size)
   (hb:n*i.bytes≤140737488355328) (hm:n<9223372036854775807) (hnew:new=(List.replicate n z.cells.toList).flatten)
inductive EffR (P:Program) (C:FuncId→Array Value→Mem→Value→Mem→Prop) (ρ:Operand→Value) (o:Oper) (m:Mem):Value→Mem→Prop where
 |store (t:TypeId) (x y:Operand) (b off:Nat) (i:TypeInfo) (L:List Value) (e:TypeId) (h:o.op= .store t x y) (hx:ρ x= .pointer (some ⟨b,off,none⟩)) (hi:P.info? t=some i) (hm:m.blk b= .own L e)
   (hv:storable (ρ y)=true) (hs:(ρ y).cells.size=i.size) (hl:off+i.size≤L.length):EffR P C ρ o m undef (m.put b (.own (setN L off (ρ y).cells.toList) e))
 |call (f:FuncId) (args:Array Value) (v:Value) (m':Mem) (h:callee o ρ f args) (hC:C f args m v m'):EffR P C ρ o m v m'
 |appendNone (x y:Operand) (t u:TypeId) (e:TypeId) (i:TypeInfo) (a:Option Addr) (l c:Nat) (h:o.op= .call {callee:= .builtin .append,args:=#[x,y],argTypes:=#[t,u]}) (ht:P.underlying t=some (.slice e)) (hi:P.info? e=some i)
   (hx:ρ x= .slice a l c) (hc:c≠BIG) (hlc:l≤c) (hy:AddR P m u i (ρ y) 0 []):EffR P C ρ o m (ρ x) m
 |appendNew (x y:Operand) (t u:TypeId) (e:TypeId) (i:TypeInfo) (z:Value) (a:Option Addr) (l c n:Nat) (old new:List Value) (h:o.op= .call {callee:= .builtin .append,args:=#[x,y],argTypes:=#[t,u]})
   (ht:P.underlying t=some (.slice e)) (hi:P.info? e=some i) (hz:i.zero=some z) (hzf:z.cells.toList.all qah=true) (hzs:z.cells.size=i.size) (hsz:0<i.size)
   (hx:ρ x= .slice a l c) (hc:c<l+n)
   (ho:elems m i.size (ρ x)=some old) (hol:old.length=l*i.size) (hy:AddR P m u i (ρ y) n new) (hn:new.length=n*i.size) (hb:(l+n)*i.bytes≤140737488355328) (hm:l+n<9223372036854775807):
   EffR P C ρ o m (.slice (some ⟨m.next,0,none⟩) (l+n) BIG) (m.push (.own (old++new) e))
 |appendIn (x y:Operand) (t u:TypeId) (e:TypeId) (i:TypeInfo) (b off l c n:Nat) (L new:List Value) (h:o.op= .call {callee:= .builtin .append,args:=#[x,y],argTypes:=#[t,u]})
   (ht:P.underlying t=some (.slice e)) (hi:P.info? e=some i) (hx:ρ x= .slice (some ⟨b,off,none⟩) l c) (hcb:c≠BIG)
   (hc:l+n≤c) (hm:m.blk b= .own L e) (hy:AddR P m u i (ρ y) n new) (hn:new.length=n*i.size) (hl:off+(l+n)*i.size≤L.length):
   EffR P C ρ o m (.slice (some ⟨b,off,none⟩) (l+n) c) (m.put b (.own (setN L (off+l*i.size) new) e))
 |append (x y:Operand) (t u:TypeId) (e:TypeId) (i:TypeInfo) (z:Value) (b off l n:Nat) (L new:List Value) (h:o.op= .call {callee:= .builtin .append,args:=#[x,y],argTypes:=#[t,u]})
   (ht:P.underlying t=some (.slice e)) (hi:P.info? e=some i) (hz:i.zero=some z) (hzf:z.cells.toList.all qah=true) (hzs:z.cells.size=i.size) (hsz:0<i.size)
   (hx:ρ x= .slice (some ⟨b,off,none⟩) l BIG) (hmb:m.blk b= .own L e) (hlL:off+l*i.size≤L.length)
   (hy:AddR P m u i (ρ y) n new) (hn:new.length=n*i.size) (hb:(l+n)*i.bytes≤140737488355328) (hm:l+n<9223372036854775807):
   EffR P C ρ o m (.slice (some ⟨m.next,0,none⟩) (l+n) BIG) ((m.put b .dead).push (.own ((L.drop off).take (l*i.size)++new) e))
 |copy (x y:Operand) (t u:TypeId) (e:TypeId) (i:TypeInfo) (b off l c:Nat) (L:List Value) (cs:List Value) (h:o.op= .call {callee:= .builtin .copy,args:=#[x,y],argTypes:=#[t,u]}) (ht:P.underlying t=some (.slice e)) (hi:P.info? e=some i)
   (hx:ρ x= .slice (some ⟨b,off,none⟩) l c) (hm:m.blk b= .own L e) (hy:elems m i.size (ρ y)=some cs) (hn:cs.length=lenV (ρ y)*i.size) (hl:off+l*i.size≤L.length):
   EffR P C ρ o m (.int .i64 (Nat.min (lenV (ρ y)) l)) (m.put b (.own (setN L off (cs.take (Nat.min (lenV (ρ y)) l*i.size))) e))
 |mapUpdate (xt:TypeId) (x kx vx:Operand) (u kt vt:TypeId) (b:Nat) (L kc vc:List Value) (E E':List (List Value×List Value)) (good:Value→Prop) (h:o.op= .mapUpdate xt x kx vx∨o.op= .insert xt x kx vx)
   (hxt:P.underlying xt=some (.map kt vt)) (hu:P.underlying u=some (.map kt vt)) (hx:ρ x= .map (some b)) (hm:m.blk b= .map L u) (hE:EntL (P.cellsOf kt) (P.cellsOf vt) L E) (hks:0<P.cellsOf kt)
   (K:Keyed P kt good) (hkc:ρ kx=qal (qaj P kt) kc) (hkl:kc.length=P.cellsOf kt) (hkf:kc.all qah=true) (hf:flat (ρ kx)=true) (hk:good (ρ kx)) (hg:∀p∈E,good (qal (qaj P kt) p.1))
   (hvs:storable (ρ vx)=true) (hvc:ρ vx=qal (qaj P vt) vc) (hvl:vc.length=P.cellsOf vt) (hvv:∀v∈vc,v∈(ρ vx).cells.toList) (hup:Upd (qaj P kt) kc vc E E'):
   EffR P C ρ o m undef (m.put b (.map (E'.flatMap fun p=>p.1++p.2) u))
inductive StepR (P:Program) (C:FuncId→Array Value→Mem→Value→Mem→Prop) (ρ:Operand→Value) (o:Oper) (m:Mem):Value→Mem→Prop where
 |pure {v:Value} (h:PureR P ρ o v):StepR P C ρ o m v m
 |read {v:Value} (h:ReadR P ρ o m v):StepR P C ρ o m v m
 |new {X:Blk} {v:Value} (h:NewR P ρ o m.next X v):StepR P C ρ o m v (m.push X)
 |eff {v:Value} {m':Mem} (h:EffR P C ρ o m v m'):StepR P C ρ o m v m'
def wanted (ops:List Oper) (fr:Nat→Value) (o:Oper):Bool:=
 match o.guard with
 |none=>true
 |some (j,want)=>
  match (ops[j]?).bind (·.dst) with
  |some d=>(match fr d with| .bool b=>b==want|_=>false)
  |none=>false
def seqR (P:Program) (C:FuncId→Array Value→Mem→Value→Mem→Prop) (ops:List Oper):List Oper→(Nat→Value)→Mem→(Nat→Value)→Mem→Prop
 |[],fr,m,fr',m'=>fr'=fr∧m'=m
 |o::os,fr,m,fr',m'=>
  if wanted ops fr o=true then ∃v m1,StepR P C (ev fr) o m v m1∧seqR P C ops os (set fr o.dst v) m1 fr' m'
  else seqR P C ops os (set fr o.dst undef) m fr' m'
def qbl:Op→Bool
 | .store .. | .mapUpdate .. | .insert .. =>true
 | .call {callee:= .builtin .len, .. }| .call {callee:= .builtin .max, .. }| .call {callee:= .builtin .min, .. }=>false
 | .call _=>true
 |_=>false
def anc (B:Array Nat) (i k:Nat):Bool:=(B.getD i 0).testBit k
structure Acc where
 reads:List (Nat×(Mem→Prop))
 effs:List (Nat×Mem)
 news:List (Nat×Nat)
def qaK (P:Program) (C:FuncId→Array Value→Mem→Value→Mem→Prop) (ops:List Oper) (B:Array Nat):Nat→List Oper→Acc→(Nat→Value)→Mem→(Nat→Value)→Mem→Prop
 |_,[],_,fr,m,fr',m'=>fr'=fr∧m'=m
 |i,o::os,A,fr,m,fr',m'=>
  if wanted ops fr o=true then
   (∃v,PureR P (ev fr) o v∧qaK P C ops B (i+1) os A (set fr o.dst v) m fr' m')∨
   (∃v,ReadR P (ev fr) o m v∧(∀x∈A.effs,anc B i x.1=false→ReadR P (ev fr) o x.2 v)∧
    qaK P C ops B (i+1) os {A with reads:=(i,fun m=>ReadR P (ev fr) o m v)::A.reads} (set fr o.dst v) m fr' m')∨
   (∃X v,NewR P (ev fr) o m.next X v∧qaK P C ops B (i+1) os {A with news:=(i,m.next)::A.news} (set fr o.dst v) (m.push X) fr' m')∨
   (∃v m1,EffR P C (ev fr) o m v m1∧(∀x∈A.reads,anc B i x.1=false→x.2 m1)∧(∀x∈A.news,anc B i x.1=false→m1.blk x.2=m.blk x.2)∧
    qaK P C ops B (i+1) os {A with effs:=(i,m)::A.effs} (set fr o.dst v) m1 fr' m')
  else qaK P C ops B (i+1) os A (set fr o.dst undef) m fr' m'
inductive AExit where
 |normal
 |exit (id:Nat)
 |ret
 deriving DecidableEq
def lowA (n:Nat):Option Addr→Prop
 |some a=>a.block<n
 |none=>True
def lowP (n:Nat):Value→Prop
 | .pointer a=>lowA n a
 |_=>False
def low0 (n:Nat):Value→Prop
 | .pointer a| .slice a _ _=>lowA n a
 | .map (some r)=>r<n
 | .func _ fs cs=>fs=#[]∧∀v∈cs.toList,lowP n v
 | .chan _| .iface _ _| .agg _| .tuple _=>False
 |_=>True
def low1 (n:Nat):Value→Prop
 | .agg cs=>∀v∈cs.toList,low0 n v
 |v=>low0 n v
def low (n:Nat):Value→Prop
 | .chan _=>True
 | .tuple cs=>∀v∈cs.toList,low1 n v
 | .func _ a b=>(∀v∈a.toList,low1 n v)∧∀v∈b.toList,low1 n v
 |v=>low1 n v
def lowB (n:Nat):Blk→Prop
 | .own L _| .map L _=>∀v∈L,low0 n v
 | .ro rd=>∀i v,rd i=some v→low0 n v
 | .dead=>True
 | .lock _ _ _ _=>True
def okX:Operand→Bool
 | .tmp _| .func _=>true
 | .const v=>flat v
 | .global _=>false
def qcy (ops:Array Oper) (o:Oper):List Nat:=
 (o.op.operands.toList.filterMap fun| .tmp t=>some t|_=>none)++
 (match o.guard with|some (g,_)=>((ops[g]?).bind (·.dst)).toList|none=>[])++o.dst.toList
def clash (ops:Array Oper) (x o:Oper):Bool:=
 (match x.dst with|some d=>(qcy ops o).contains d|none=>false)||(match o.dst with|some d=>(qcy ops x).contains d|none=>false)||(qbl x.op&&qbl o.op)
def qd4 (ops:Array Oper):Bool:=
 (List.range ops.size).all fun i=>
  match ops[i]? with
  |none=>true
  |some o=>(o.after.toList.all fun e=> !Region.binds .any e||decide (e.on<i))&&
   (List.range i).all fun x=>match ops[x]? with|none=>true|some y=> !clash ops y o||anc (Region.before ops) i x
def qat (n:Nat):Code→Bool
 | .region _ ops draw=>(ops.toList.all fun o=>o.op.operands.toList.all okX&&(match o.dst with|some d=>decide (d<n)|none=>true))&&(!draw||qd4 ops)
 | .seq a b=>qat n a&&qat n b
 | .cond c a b=>okX c&&qat n a&&qat n b
 | .block _ c=>qat n c
 | .scope c=>qat n c
 | .loop c=>qat n c
 |_=>true
structure FR (j:Emb) (N:Nat) (fr:Nat→Value) (a:Act):Prop where
 val:∀t,VR j (fr t) (a.tmps.getD t undef)
 defers:a.defers=[]
 size:a.tmps.size=N
def AExit.out:AExit→Exit
 | .normal=> .normal
 | .exit id=> .exit id
 | .ret=> .ret
def dsts (ops:Array Oper):List Nat:=ops.toList.filterMap (·.dst)
def qaT:Code→List Nat
 | .region _ ops _=>dsts ops
 | .seq a b=>qaT a++qaT b
 | .cond _ a b=>qaT a++qaT b
 | .block _ c=>qaT c
 | .scope c=>qaT c
 | .loop c=>qaT c
 |_=>[]
structure WF (m:Mem):Prop where
 dead:∀b,m.next≤b→m.blk b= .dead
 low:∀b,lowB m.next (m.blk b)
structure ExtC (P:Program) (c:Code) (fr:Nat→Value) (m:Mem) (e:AExit) (fr':Nat→Value) (m':Mem):Prop where
 next:m.next≤m'.next
 keep:∀i,(qaT c).contains i=false→fr' i=fr i
 low:WF m→(∀t,low m.next (fr t))→WF m'∧∀t,low m'.next (fr' t)
 sound:∀{N:Nat} {j:Emb} {a:Act} {w:World} {Q:Exit→Act→World→Prop},qat N c=true→Rel P j m w→WF m→FR j N fr a→(∀a' w' j',Post P j m w j' m' w'→FR j' N fr' a'→Q e.out a' w')→c.wp P Q a w
def qbY (P:Program) (C:FuncId→Array Value→Mem→Value→Mem→Prop):Nat→Code→(Nat→Value)→Mem→AExit→(Nat→Value)→Mem→Prop
 |0,_,_,_,_,_,_=>False
 |_+1, .skip,fr,m,e,fr',m'=>e= .normal∧fr'=fr∧m'=m
 |_+1, .label _,fr,m,e,fr',m'=>e= .normal∧fr'=fr∧m'=m
 |_+1, .exit id,fr,m,e,fr',m'=>e= .exit id∧fr'=fr∧m'=m
 |_+1, .ret,fr,m,e,fr',m'=>e= .ret∧fr'=fr∧m'=m
 |_+1, .region _ ops false,fr,m,e,fr',m'=>e= .normal∧seqR P C ops.toList ops.toList fr m fr' m'
 |_+1, .region _ ops true,fr,m,e,fr',m'=>e= .normal∧qaK P C ops.toList (Region.before ops) 0 ops.toList ⟨[],[],[]⟩ fr m fr' m'
 |n+1, .seq a b,fr,m,e,fr',m'=>(∃e1 fr1 m1,qbY P C n a fr m e1 fr1 m1∧(if e1= .normal then qbY P C n b fr1 m1 e fr' m' else e=e1∧fr'=fr1∧m'=m1))∨ExtC P (.seq a b) fr m e fr' m'
 |n+1, .cond c a b,fr,m,e,fr',m'=>∃t,ev fr c= .bool t∧qbY P C n (if t then a else b) fr m e fr' m'
 |n+1, .scope c,fr,m,e,fr',m'=>qbY P C n c fr m e fr' m'
 |n+1, .block id c,fr,m,e,fr',m'=>∃e1,qbY P C n c fr m e1 fr' m'∧e=(if e1= .exit id then .normal else e1)
 |n+1, .loop c,fr,m,e,fr',m'=>∃e1 fr1 m1,qbY P C n c fr m e1 fr1 m1∧(if e1= .normal then qbY P C n (.loop c) fr1 m1 e fr' m' else e=e1∧fr'=fr1∧m'=m1)
 |_+1,_,_,_,_,_,_=>False
def qgP (P:Program) (fr:Nat→Value) (m:Mem):ResultVar→Value→Prop
 | .tmp t,v=>v=fr t
 | .cell a t,v=>∃b off,fr a= .pointer (some ⟨b,off,none⟩)∧∃d,P.underlying t=some d∧
   (if aggT d=true then ∃i cs,P.info? t=some i∧rdN m b off i.size=some cs∧v= .agg cs.toArray else m.load b off=some v)
def qaV (P:Program) (fr:Nat→Value) (m:Mem):List ResultVar→List Value→Prop
 |[],[]=>True
 |r::rs,v::vs=>qgP P fr m r v∧qaV P fr m rs vs
 |_,_=>False
def okFn (P:Program) (f:FuncId):Bool:=
 match P.funcs[f]? with
 | some fn => !(fn.name == "runtime.NumGoroutine") && (match fn.body with | some c => qat fn.ntmps c | none => false)
 |none=>false
def pack:List Value→Value
 |[x]=>x
 |vs=> .tuple vs.toArray
def qs1 (P:Program) (f:FuncId) (fv:Value):Prop:=∀(p:Option Addr) (cap:Nat) (w:World),Calls P f #[.slice p 0 cap,fv] w fun e w'=>e= .returned (.tuple #[])∧w'=w
def qro (P:Program) (f:FuncId) (fv:Value) (l:Nat) (F F':List Value):Prop:=
 ∀(w:World) (blk off cap:Nat) (cs:Array Value) (t:TypeId) (fz:Nat×Nat),w.heap[blk]? =some (.cells cs t fz)→(∀(i:Nat) (v:Value),F[i]? =some v→cs[off+i]? =some v)→(∀i,i<cs.size→¬(fz.1≤i∧i<fz.2))→
  Calls P f #[.slice (some ⟨blk,off,none⟩) l cap,fv] w fun e w'=>e= .returned (.tuple #[])∧w'.os=w.os∧w'.tape=w.tape∧w'.output=w.output∧w.heap.size≤w'.heap.size∧
   (∀c,c<w.heap.size→c≠blk→w'.heap[c]? =w.heap[c]?)∧w'.heap[blk]? =some (.cells (setN cs.toList off F').toArray t fz)
inductive SortR (P:Program) (f:FuncId) (args:Array Value) (m:Mem):Value→Mem→Prop where
 |none (a:Option Addr) (c g:Nat) (h:qs1 P f (.func (.func g) #[] #[])) (ha:args=#[.slice a 0 c, .func (.func g) #[] #[]]):SortR P f args m (.tuple #[]) m
 |row (b off l c g:Nat) (L:List Value) (e:TypeId) (F F':List Value) (h:qro P f (.func (.func g) #[] #[]) l F F') (ha:args=#[.slice (some ⟨b,off,none⟩) l c, .func (.func g) #[] #[]]) (hl:0<l) (hm:m.blk b= .own L e)
   (hF:(L.drop off).take F.length=F) (hn:off+F.length≤L.length) (hF':F'.length=F.length) (f1:F.all qah=true) (f2:F'.all qah=true):SortR P f args m (.tuple #[]) (m.put b (.own (setN L off F') e))
def qba (P:Program):Nat→FuncId→Array Value→Mem→Value→Mem→Prop
 |0,_,_,_,_,_=>False
 |n+1,f,args,m,v,m'=>(okFn P f=true∧SortR P f args m v m')∨∃fn c e fr m1 vs,P.funcs[f]? =some fn∧fn.body=some c∧okFn P f=true∧args.size≤fn.ntmps∧
   qbY P (qba P n) n c (fun i=>(args++Array.replicate (fn.ntmps - args.size) undef).getD i undef) m e fr m1∧(e= .normal∨e= .ret)∧
   qaV P fr m1 fn.results.toList vs∧v=pack vs∧(vs.length=1∨∀x∈vs,storable x=true)∧
   (m'=m1∨(m'=m1.trunc m.next∧low m.next v∧∀b,b<m.next→m1.blk b=m.blk b∨lowB m.next (m1.blk b)))
end Go.AM
end
section
set_option linter.unusedSimpArgs false
set_option linter.unusedVariables false
namespace Go.AM
theorem L2.nil_left {α β:Type} {R:α→β→Prop} {l:List β} (h:L2 R [] l):l=[]:=by
 cases l with
 |nil=>rfl
 |cons _ _=>exact h.elim
theorem qcE {fn:Fn} {fs cs:Array Value} (h:qah (.func fn fs cs)=true):fs=#[]∧cs=#[]:=by
 simp only[qah,Bool.and_eq_true] at h
 exact ⟨by simpa using h.1,by simpa using h.2⟩
theorem qdb {j:Emb} {v cv:Value} (h:qah v=true) (hv:VR0 j v cv):cv=v:=by
 cases v with
 |pointer a=>cases a with
  |none=>exact hv
  |some a=>simp[qah] at h
 |slice a l c=>cases a with
  |none=>exact hv
  |some a=>simp[qah] at h
 |map r=>cases r with
  |none=>exact hv
  |some r=>simp[qah] at h
 |chan _=>simp[qah] at h
 |func _ _ _=>
  obtain ⟨rfl,rfl⟩:=qcE (fn:= .func 0) (by simpa[flat,qbf,qah] using h)
  obtain ⟨_,ds,h2,h3⟩:=hv
  have:ds=#[]:=Array.ext' (L2.nil_left h3)
  rw[h2,this]
 |iface _ _=>simp[qah] at h
 |agg _=>simp[qah] at h
 |tuple _=>simp[qah] at h
 |_=>exact hv
theorem qaD {j:Emb} {v:Value} (h:qah v=true):VR0 j v v:=by
 cases v with
 |pointer a=>cases a with
  |none=>exact rfl
  |some a=>simp[qah] at h
 |slice a l c=>cases a with
  |none=>exact rfl
  |some a=>simp[qah] at h
 |map r=>cases r with
  |none=>exact rfl
  |some r=>simp[qah] at h
 |chan _=>simp[qah] at h
 |func _ _ _=>
  obtain ⟨rfl,rfl⟩:=qcE (fn:= .func 0) (by simpa[flat,qbf,qah] using h)
  exact ⟨rfl,#[],rfl,trivial⟩
 |iface _ _=>simp[qah] at h
 |agg _=>simp[qah] at h
 |tuple _=>simp[qah] at h
 |_=>exact rfl
theorem L2.eq_of {α:Type} {R:α→α→Prop} {p:α→Bool} (h:∀a b,p a=true→R a b→b=a):∀{l k:List α},l.all p=true→L2 R l k→k=l
 |[],[],_,_=>rfl
 |a::l,b::k,hp,⟨h1,h2⟩=>by
  simp only[List.all_cons,Bool.and_eq_true] at hp
  rw[h a b hp.1 h1,L2.eq_of h hp.2 h2]
 |[],_::_,_,hh=>hh.elim
 |_::_,[],_,hh=>hh.elim
theorem L2.self {α:Type} {R:α→α→Prop} {p:α→Bool} (h:∀a,p a=true→R a a):∀{l:List α},l.all p=true→L2 R l l
 |[],_=>True.intro
 |a::l,hp=>by
  simp only[List.all_cons,Bool.and_eq_true] at hp
  exact ⟨h a hp.1,L2.self h hp.2⟩
theorem qgi {j:Emb} {v cv:Value} (h:qbf v=true) (hv:VR1 j v cv):cv=v:=by
 cases v with
 |agg cs=>
  obtain ⟨ds,rfl,h2⟩:=hv
  have:=L2.eq_of (fun a b=>qdb (j:=j)) h h2
  rw[Array.ext' this]
 |_=>exact qdb (j:=j) h (by simpa only[VR1] using hv)
theorem qbp {j:Emb} {v:Value} (h:qbf v=true):VR1 j v v:=by
 cases v with
 |agg cs=>exact ⟨cs,rfl,L2.self (fun a=>qaD) h⟩
 |_=>simp only[VR1];exact qaD h
theorem qiU {j:Emb} {v cv:Value} (h:flat v=true) (hv:VR j v cv):cv=v:=by
 cases v with
 |tuple cs=>
  obtain ⟨ds,rfl,h2⟩:=hv
  have:=L2.eq_of (fun a b=>qgi (j:=j)) h h2
  rw[Array.ext' this]
 |func _ _ _=>
  obtain ⟨rfl,rfl⟩:=qcE (fn:= .func 0) (by simpa[flat,qbf,qah] using h)
  obtain ⟨gs,ds,h1,h2,h3⟩:=hv
  rw[h1,Array.ext' (L2.nil_left h2),Array.ext' (L2.nil_left h3)]
 |chan _=>simp[flat,qbf,qah] at h
 |_=>exact qgi (j:=j) h (by simpa only[VR] using hv)
theorem qde {j:Emb} {v:Value} (h:flat v=true):VR j v v:=by
 cases v with
 |tuple cs=>exact ⟨cs,rfl,L2.self (fun a=>qbp) h⟩
 |func _ _ _=>
  obtain ⟨rfl,rfl⟩:=qcE (fn:= .func 0) (by simpa[flat,qbf,qah] using h)
  exact ⟨#[],#[],rfl,trivial,trivial⟩
 |chan _=>simp[flat,qbf,qah] at h
 |_=>simp only[VR];exact qbp h
theorem VRp.of_ptr {j:Emb}:∀{l k:List Value},l.all qiX=true→L2 (VR1 j) l k→L2 (VRp j) l k
 |[],[],_,_=>trivial
 |[],_::_,_,h=>h.elim
 |_::_,[],_,h=>h.elim
 |v::l,cv::k,hp,⟨h1,h2⟩=>by
  simp only[List.all_cons,Bool.and_eq_true] at hp
  refine ⟨?_,VRp.of_ptr hp.2 h2⟩
  have hv:=hp.1
  unfold qiX at hv
  split at hv
  ·exact h1
  ·cases hv
theorem VR.storable {j:Emb} {v cv:Value} (h:VR j v cv) (hs:storable v=true):VR1 j v cv:=by
 cases v with
 |tuple _=>simp[AM.storable] at hs
 |chan _=>simp[AM.storable] at hs
 |func fn fs cs=>
  simp only[AM.storable,Bool.and_eq_true] at hs
  have hf:fs=#[]:=by simpa using hs.1
  subst hf
  obtain ⟨gs,ds,h1,h2,h3⟩:=h
  rw[Array.ext' (L2.nil_left h2)] at h1
  exact ⟨rfl,ds,h1,VRp.of_ptr hs.2 h3⟩
 |_=>exact h
theorem VR.int {j:Emb} {k:IntKind} {n:Int} {cv:Value} (h:VR j (.int k n) cv):cv= .int k n:=h
theorem VR.bool {j:Emb} {b:Bool} {cv:Value} (h:VR j (.bool b) cv):cv= .bool b:=h
theorem VR.str {j:Emb} {b:ByteArray} {cv:Value} (h:VR j (.string b) cv):cv= .string b:=h
theorem VR.sliceNil {j:Emb} {l c:Nat} {cv:Value} (h:VR j (.slice none l c) cv):cv= .slice none l c:=h
theorem VR.ptr {j:Emb} {a:Addr} {cv:Value} (h:VR j (.pointer (some a)) cv):∃e,a.spot=none∧j a.block=some e∧cv= .pointer (some ⟨e.blk,e.sh+a.off,none⟩):=h
theorem VR.slice {j:Emb} {a:Addr} {l c:Nat} {cv:Value} (h:VR j (.slice (some a) l c) cv):∃e,a.spot=none∧j a.block=some e∧
   ((c<BIG∧cv= .slice (some ⟨e.blk,e.sh+a.off,none⟩) l c)∨
    (c=BIG∧0<e.es∧l≤e.cap - a.off / e.es∧e.cap<BIG∧a.off%e.es=0∧a.off / e.es≤e.cap∧cv= .slice (some ⟨e.blk,e.sh+a.off,none⟩) l (e.cap - a.off / e.es))∨
    (c=BIG∧l=0∧∃o',cv= .slice (some ⟨e.blk,o',none⟩) 0 0)∨
    (c=0∧l=0∧∃a',cv= .slice (some a') 0 0)):=h
theorem qaY (b o n:Nat):(⟨b,o,none⟩:Addr).add n=⟨b,o+n,none⟩:=by
 unfold Addr.add
 split<;>simp_all
theorem qax:∀(vs L:List Value) (o:Nat),(setN L o vs).length=L.length
 |[],L,o=>rfl
 |v::vs,L,o=>by simp[setN,qax vs]
theorem qaR (vs:List Value):∀(L:List Value) (o i:Nat),o+vs.length≤L.length→(setN L o vs)[i]? =if o≤i∧i<o+vs.length then vs[i - o]? else L[i]? :=by
 induction vs with
 |nil=>intro L o i h;simp[setN];intro h1 h2;omega
 |cons v vs ih=>
  intro L o i h
  simp only[List.length_cons] at h
  simp only[setN,List.length_cons]
  rw[ih (L.set o v) (o+1) i (by simp;omega)]
  by_cases h1:o+1≤i∧i<o+1+vs.length
  ·rw[if_pos h1,if_pos (by omega),show i - o=(i - (o+1))+1 by omega];simp
  ·rw[if_neg h1]
   by_cases h2:o=i
   ·subst h2
    rw[if_pos (by omega),List.getElem?_set_self (by omega)]
    simp
   ·rw[if_neg (by omega),List.getElem?_set_ne h2]
theorem qlO (vs:List Value):∀(A:Array Value) (o k:Nat),((vs.zipIdx k).foldl (fun cs (c,j)=>cs.setIfInBounds (o+j) c) A).toList=setN A.toList (o+k) vs:=by
 induction vs with
 |nil=>intro A o k;simp[setN]
 |cons v vs ih=>
  intro A o k
  simp only[List.zipIdx_cons,List.foldl_cons,setN]
  rw[ih]
  simp[Nat.add_assoc]
theorem qbZ {j:Emb} {place:Nat→Option (Nat×Nat)}:∀(ps cps:List (Nat×Value)) (L:List Value) (A:Array Value) (cs:List Value),L2 (fun p q=>p.1=q.1∧VR j p.2 q.2) ps cps→L2 (VR0 j) L A.toList→qbA place L ps=some cs→
  ∃ds,Instr.fill place A cps=some ds∧L2 (VR0 j) cs ds.toList
 |[],[],L,A,cs,_,hL,h=>by simp only[qbA,Option.some.injEq] at h;subst h;exact ⟨A,rfl,hL⟩
 |(i,v)::ps,(k,cv)::cps,L,A,cs,⟨⟨h1,h2⟩,h3⟩,hL,h=>by
  simp only at h1 h2
  subst h1
  simp only[qbA] at h
  cases hp:place i with
  |none=>simp[hp] at h
  |some q=>
   obtain ⟨off,size⟩:=q
   simp only[hp] at h
   split at h
   ·rename_i hc
    obtain ⟨hs,hsz,hl⟩:=hc
    have h1':=VR.storable h2 hs
    have hcc:=VR1.cells h1'
    have hlen:cv.cells.size=size:=by have:=hcc.length;simp at this;omega
    have hLA:L.length=A.size:=by have:=hL.length;simpa using this
    simp only[Instr.fill,hp,hlen,ne_eq,not_true_eq_false,decide_false,Bool.false_or,decide_eq_true_eq]
    rw[if_neg (by omega)]
    refine qbZ ps cps _ _ cs h3 ?_ h
    have hf:=qlO cv.cells.toList A off 0
    simp only[Nat.add_zero] at hf
    have hzz:(cv.cells.zipIdx.foldl (fun cs (c,j)=>cs.setIfInBounds (off+j) c) A)=((cv.cells.toList.zipIdx).foldl (fun cs (c,j)=>cs.setIfInBounds (off+j) c) A):=by
     rw[←Array.foldl_toList,Array.toList_zipIdx]
    rw[hzz,hf]
    refine L2.of_get (by simp[qax,hLA]) ?_
    intro i a b ha hb
    rw[qaR _ _ _ _ (by simp;omega)] at ha
    rw[qaR _ _ _ _ (by simp;omega)] at hb
    have hll:=hcc.length
    rw[hll] at ha
    split at ha
    ·rename_i hin
     rw[if_pos hin] at hb
     obtain ⟨b',hb',hr⟩:=hcc.get _ _ ha
     rw[hb'] at hb;cases hb;exact hr
    ·rename_i hin
     rw[if_neg hin] at hb
     obtain ⟨b',hb',hr⟩:=hL.get _ _ ha
     rw[hb'] at hb;cases hb;exact hr
   ·simp at h
 |[],_::_,_,_,_,h,_,_=>h.elim
 |_::_,[],_,_,_,h,_,_=>h.elim
def OpsR (j:Emb) (ρ cρ:Operand→Value) (o:Oper):Prop:=∀x∈o.op.operands,VR j (ρ x) (cρ x)
theorem qas {P:Program} {t:TypeId} {d:TypeDesc} (h:P.underlying t=some d) (w:World):(underlying t).run P w= .ok d w:=run_underlying h w
theorem qec {P:Program} {t:TypeId} {i:TypeInfo} (h:P.info? t=some i) (w:World):(typeInfo t).run P w= .ok i w:=by simp[typeInfo,h]
theorem qaI {P:Program} {t:TypeId} {i:TypeInfo} (h:P.info? t=some i) (w:World):(sizeOf t).run P w= .ok i.size w:=by simp[sizeOf,qec h]
theorem qbI {P:Program} {t:TypeId} {i:TypeInfo} {z:Value} (h:P.info? t=some i) (hz:i.zero=some z) (w:World):(zeroValue t).run P w= .ok z w:=by simp[zeroValue,qec h,hz]
theorem qe8 {P:Program} {t:TypeId} {d:TypeDesc} (h:P.underlying t=some d) (w:World):(isAgg t).run P w= .ok (aggT d) w:=by
 simp only[isAgg,Sem.run_bind,qas h,Result.andThen_ok]
 cases d<;>simp[aggT]
theorem OpsR.map2 {j:Emb} {ρ cρ:Operand→Value} {o:Oper} (ps:List (Nat×Operand)) (h:∀p∈ps,VR j (ρ p.2) (cρ p.2)):L2 (fun (p q:Nat×Value)=>p.1=q.1∧VR j p.2 q.2) (ps.map fun p=>(p.1,ρ p.2)) (ps.map fun p=>(p.1,cρ p.2)):=by
 induction ps with
 |nil=>exact True.intro
 |cons p ps ih=>exact ⟨⟨rfl,h p (by simp)⟩,ih fun q hq=>h q (by simp[hq])⟩
theorem qfQ {P:Program} (w:World):∀(fs:List Field),(∀x∈fs.map (fun f=>(P.info? f.type).map fun i=>(f.offset,i.size)),x.isSome=true)→
  (fs.mapM (m:=Sem) fun f=>do pure (f.offset,←sizeOf f.type)).run P w= .ok (fs.map fun f=>(f.offset,((P.info? f.type).map (·.size)).getD 0)) w
 |[],_=>by simp
 |f::fs,h=>by
  have h0:=h _ (by simp;exact .inl rfl)
  simp only[Option.isSome_map] at h0
  obtain ⟨i,hi⟩:=Option.isSome_iff_exists.1 h0
  have ih:=qfQ w fs (fun x hx=>h x (by simp only[List.map_cons,List.mem_cons];exact .inr hx))
  simp only[List.mapM_cons,Sem.run_bind,qaI hi,Result.andThen_ok,Sem.run_pure,ih,List.map_cons,hi,Option.map_some,Option.getD_some]
theorem OpsR.nums {j:Emb} {ρ cρ:Operand→Value} {y:Operand} {k:IntKind} {n:Int} (h:VR j (ρ y) (cρ y)) (hy:ρ y= .int k n):cρ y= .int k n:=by
 rw[hy] at h;exact h.int
end Go.AM
end
section
set_option linter.unusedSimpArgs false
set_option linter.unusedVariables false
namespace Go.AM
theorem qmR {P:Program} {j:Emb} {ρ cρ:Operand→Value} {o:Oper} {v:Value} (hs:∀cs b,o.op≠ .select cs b) (h:∀x∈o.op.operands,flat (ρ x)=true) (hr:∀w,(execOp ρ o).run P w= .ok (.value v) w)
  (hv:OpsR j ρ cρ o) (w:World):(execOp cρ o).run P w= .ok (.value v) w:=by
 rw[←hr w]
 congr 1
 exact execOp_congr o hs fun x hx=>qiU (h x hx) (hv x hx)
theorem L2.extract {α β:Type} {R:α→β→Prop} {A:Array α} {B:Array β} (h:L2 R A.toList B.toList) (i k:Nat):L2 R (A.extract i k).toList (B.extract i k).toList:=by
 simp only[Array.toList_extract,List.extract_eq_drop_take']
 exact (h.take k).drop i
theorem L2.size {α β:Type} {R:α→β→Prop} {A:Array α} {B:Array β} (h:L2 R A.toList B.toList):A.size=B.size:=by simpa using h.length
theorem L2.getA {α β:Type} {R:α→β→Prop} {A:Array α} {B:Array β} (h:L2 R A.toList B.toList) (i:Nat) (a:α) (ha:A[i]? =some a):∃b,B[i]? =some b∧R a b:=by
 have:=h.get i a (by simpa using ha)
 simpa using this
theorem L2.map {α β γ:Type} {R:β→γ→Prop} (f:α→β) (g:α→γ):∀(l:List α),(∀x∈l,R (f x) (g x))→L2 R (l.map f) (l.map g)
 |[],_=>True.intro
 |x::l,h=>⟨h x (by simp),L2.map f g l fun y hy=>h y (by simp[hy])⟩
theorem VR1.up {j:Emb} {v cv:Value} (h:VR1 j v cv):VR j v cv:=VR.of1 h
theorem qlL {P:Program} {cρ:Operand→Value} {o:Oper} (neq:Bool) (x y:Operand) (t u e:TypeId) (a:Addr) (l c:Nat) (h:o.op= .binOp (if neq then .neq else .eql) t x y u) (ht:P.underlying t=some (.slice e))
   (hx:cρ x= .slice (some a) l c) (hy:cρ y= .slice none 0 0) (w:World):(execOp cρ o).run P w= .ok (.value (.bool neq)) w:=by
 have hg:(eqGuard (if neq then .neq else .eql) t x y (.slice (some a) l c) (.slice none 0 0)).run P w= .ok () w:=by
  cases neq<;>simp[eqGuard]
 have hb:(binOp (if neq then .neq else .eql) t (.slice (some a) l c) (.slice none 0 0)).run P w= .ok (.bool neq) w:=by
  cases neq
  ·exact Lib.run_eql_slice_nil w t e (some a) l c 0 0 ht
  ·exact run_neq_slice_nil_any w t e (some a) l c 0 0 ht
 simp only[execOp,h,hx,hy,Sem.run_bind,hg,hb,Result.andThen_ok,Sem.run_pure]
theorem qfG {P:Program} {j:Emb} {ρ cρ:Operand→Value} {o:Oper} {v:Value} (h:PureR P ρ o v) (hO:OpsR j ρ cρ o) (w:World):∃cv,(execOp cρ o).run P w= .ok (.value cv) w∧VR j v cv:=by
 cases h with
 |flat v hs h hv hr=>exact ⟨v,qmR hs h hr hO w,qde hv⟩
 |move x h=>
  refine ⟨cρ x, ?_,hO x ?_⟩
  ·rcases h with h|h<;>simp[execOp,h]
  ·rcases h with h|h<;>simp[h,Op.operands]
 |pick c a b t h hc=>
  have h1:=hO c (by simp[h,Op.operands])
  rw[hc] at h1
  have h2:=h1.bool
  have ha:=hO a (by simp[h,Op.operands])
  have hb:=hO b (by simp[h,Op.operands])
  refine ⟨if t then cρ a else cρ b, ?_, ?_⟩
  ·simp only[execOp,h,h2];cases t<;>simp[asBool]
  ·cases t<;>simpa
 |extract x i vs v h hx hv=>
  have h1:=hO x (by simp[h,Op.operands])
  rw[hx] at h1
  obtain ⟨ds,hd,h2⟩:=h1
  obtain ⟨b,hb,hr⟩:=h2.getA i v hv
  exact ⟨b,by simp[execOp,h,Instr.extract,hd,hb],hr.up⟩
 |field t x i fs f d cs v h ht hf hd hx hv=>
  have h1:=hO x (by simp[h,Op.operands])
  rw[hx] at h1
  obtain ⟨ds,hds,h2⟩:=h1
  by_cases ha:aggT d=true
  ·rw[if_pos ha] at hv
   obtain ⟨k,hk,hle,rfl⟩:=hv
   refine ⟨.agg (ds.extract f.offset (f.offset+k.size)), ?_,⟨_,rfl,h2.extract _ _⟩⟩
   simp[execOp,h,Instr.field,qas ht,hf,hds,asAgg,part,qe8 hd,ha,qaI hk]
  ·rw[if_neg ha] at hv
   obtain ⟨b,hb,hr⟩:=h2.getA _ _ hv
   refine ⟨b, ?_,VR.of0 hr⟩
   simp[execOp,h,Instr.field,qas ht,hf,hds,asAgg,part,qe8 hd,ha,hb]
 |build t ps fs i z cs h ht hi hz hzf hp hc=>
  have h2:=OpsR.map2 (j:=j) (ρ:=ρ) (cρ:=cρ) (o:=o) ps.toList (fun p hp=>hO p.2 (by
   simp only[h,Op.operands];simp only[List.mem_toArray,List.mem_map];exact ⟨p,hp,rfl⟩))
  obtain ⟨ds,hds,hr⟩:=qbZ (j:=j) _ _ _ z.cells cs h2 (L2.self (fun a=>qaD) hzf) hc
  refine ⟨.agg ds, ?_,⟨_,rfl,by simpa using hr⟩⟩
  have hpl:=qfQ (P:=P) w fs.toList (by simpa[qcp] using hp)
  have hpl':(fs.mapM (m:=Sem) fun f=>do pure (f.offset,←sizeOf f.type)).run P w= .ok (fs.map fun f=>(f.offset,((P.info? f.type).map (·.size)).getD 0)) w:=by
   rw[Array.mapM_eq_mapM_toList]
   simp only[Sem.run_map,hpl,Result.andThen_ok]
   congr 1
   apply Array.ext'
   simp
  have hfe:(fun k:Nat=>(fs.map fun f=>(f.offset,((P.info? f.type).map (·.size)).getD 0))[k]?)=(fun k:Nat=>((qcp P fs)[k]?).join):=by
   funext k
   simp only[qcp,Array.getElem?_map,List.getElem?_map,Array.getElem?_toList]
   cases hk:fs[k]? with
   |none=>simp
   |some f=>
    have hm:f∈fs.toList:=by
     have:=Array.mem_of_getElem? hk
     simpa using this
    have:=hp ((P.info? f.type).map fun i=>(f.offset,i.size)) (by simp only[qcp,List.mem_map];exact ⟨f,hm,rfl⟩)
    simp only[Option.isSome_map] at this
    obtain ⟨q,hq⟩:=Option.isSome_iff_exists.1 this
    simp[hq]
  have hpp:(ps.map fun (i,x)=>(i,cρ x)).toList=ps.toList.map fun p=>(p.1,cρ p.2):=by simp
  simp only[execOp,h,Instr.build,Sem.run_bind,qbI hi hz,Result.andThen_ok,qas ht,hpl',hfe,hpp,hds,Sem.run_pure]
 |buildA t ps n e i k z cs h ht hi hz hzf he hc=>
  have h2:=OpsR.map2 (j:=j) (ρ:=ρ) (cρ:=cρ) (o:=o) ps.toList (fun p hp=>hO p.2 (by
   simp only[h,Op.operands];simp only[List.mem_toArray,List.mem_map];exact ⟨p,hp,rfl⟩))
  obtain ⟨ds,hds,hr⟩:=qbZ (j:=j) _ _ _ z.cells cs h2 (L2.self (fun a=>qaD) hzf) hc
  refine ⟨.agg ds, ?_,⟨_,rfl,by simpa using hr⟩⟩
  have hpp:(ps.map fun (i,x)=>(i,cρ x)).toList=ps.toList.map fun p=>(p.1,cρ p.2):=by simp
  simp only[execOp,h,Instr.build,Sem.run_bind,qbI hi hz,Result.andThen_ok,qas ht,qaI he,hpp,hds,Sem.run_pure]
 |nilCheck x a h hx=>
  have h1:=hO x (by simp[h,Op.operands])
  rw[hx] at h1
  obtain ⟨e,hs,hj,hc⟩:=h1.ptr
  exact ⟨_,by simp[execOp,h,hc],⟨e,hs,hj,rfl⟩⟩
 |fieldAddr t x i fs f k b off h ht hf hk hs hx=>
  have h1:=hO x (by simp[h,Op.operands])
  rw[hx] at h1
  obtain ⟨e,_,hj,hc⟩:=h1.ptr
  refine ⟨.pointer (some ⟨e.blk,e.sh+(off+f.offset),none⟩), ?_,⟨e,rfl,hj,rfl⟩⟩
  simp[execOp,h,Instr.fieldAt,qas ht,hf,hc,Instr.sureAddr,fieldPlace,qaI hk,hs,qaY,Nat.add_assoc]
 |indexAddr t x y e i b off l c k n h ht hi hx hy h0 h1=>
  have hX:=hO x (by simp[h,Op.operands])
  have hY:=hO y (by simp[h,Op.operands])
  rw[hx] at hX
  rw[hy] at hY
  have hcy:=hY.int
  obtain ⟨q,_,hj,hc⟩:=hX.slice
  have hcx:∃c',cρ x= .slice (some ⟨q.blk,q.sh+off,none⟩) l c':=by
   rcases hc with ⟨_,hc⟩|⟨_,_,_,_,_,_,hc⟩|⟨_,hl,_,hc⟩|⟨_,hl,_⟩
   ·exact ⟨_,hc⟩
   ·exact ⟨_,hc⟩
   ·omega
   ·omega
  obtain ⟨c',hcx⟩:=hcx
  refine ⟨.pointer (some ⟨q.blk,q.sh+(off+n.toNat*i.size),none⟩), ?_,⟨q,rfl,hj,rfl⟩⟩
  simp[execOp,h,Instr.indexAt,hcy,asIntOf,qas ht,hcx,h0,h1,qaI hi,qaY,Nat.add_assoc]
 |indexAddrA t x y e i b off l k n h ht hi hx hy h0 h1=>
  have hX:=hO x (by simp[h,Op.operands])
  have hY:=hO y (by simp[h,Op.operands])
  rw[hx] at hX
  rw[hy] at hY
  have hcy:=hY.int
  obtain ⟨q,_,hj,hc⟩:=hX.ptr
  refine ⟨.pointer (some ⟨q.blk,q.sh+(off+n.toNat*i.size),none⟩), ?_,⟨q,rfl,hj,rfl⟩⟩
  simp[execOp,h,Instr.indexAt,hcy,asIntOf,qas ht,hc,Instr.sureAddr,h0,h1,qaI hi,qaY,Nat.add_assoc]
 |slice t x lo hi e i b off l c n h' h ht hi' hx hb hlo hhi h1 h2 h3=>
  have hX:=hO x (by simp[h,Op.operands])
  rw[hx] at hX
  obtain ⟨q,_,hj,hc⟩:=hX.slice
  have hex:∃a':Addr,cρ x= .slice (some a') l c∧((c<BIG∧a'=⟨q.blk,q.sh+off,none⟩)∨(c=0∧l=0)):=by
   rcases hc with ⟨hlt,hc⟩|⟨hc,_⟩|⟨hc,_⟩|⟨hc,hl,a',ha⟩
   ·exact ⟨_,hc, .inl ⟨hlt,rfl⟩⟩
   ·exact absurd hc hb
   ·exact absurd hc hb
   ·subst hc;subst hl;exact ⟨a',ha, .inr ⟨rfl,rfl⟩⟩
  obtain ⟨a',hcx,hor⟩:=hex
  have hbnd:(Instr.sliceBounds true l c (lo.map cρ) (hi.map cρ) none).run P w= .ok (n,h',c) w:=by
   cases lo with
   |none=>
    simp only[qfh] at hlo
    subst hlo
    cases hi with
    |none=>simp only[qbM] at hhi;subst hhi;simp[Instr.sliceBounds]
    |some y=>
     obtain ⟨k,hy⟩:=hhi
     have:=OpsR.nums (hO y (by simp[h,Op.operands])) hy
     simp[Instr.sliceBounds,this,Instr.sliceBound,asIntOf,h2]
   |some u=>
    obtain ⟨k,hu⟩:=hlo
    have hu':=OpsR.nums (hO u (by simp[h,Op.operands])) hu
    cases hi with
    |none=>simp only[qbM] at hhi;subst hhi;simp[Instr.sliceBounds,hu',Instr.sliceBound,asIntOf,h1]
    |some y=>
     obtain ⟨k',hy⟩:=hhi
     have:=OpsR.nums (hO y (by simp[h,Op.operands])) hy
     simp[Instr.sliceBounds,this,hu',Instr.sliceBound,asIntOf,h1,h2]
  refine ⟨.slice (some (if c=n then a' else a'.add (n*i.size))) (h' - n) (c - n), ?_, ?_⟩
  ·simp only[execOp,h,Instr.sliceAt,Sem.run_bind,qas ht,Result.andThen_ok,Option.map_none,Instr.slice,hcx,hbnd,qaI hi',Sem.run_pure]
   congr 3
   split<;>simp
  ·refine ⟨q,rfl,hj, ?_⟩
   rcases hor with ⟨hlt,rfl⟩|⟨rfl,rfl⟩
   ·refine .inl ⟨Nat.lt_of_le_of_lt (Nat.sub_le c n) hlt, ?_⟩
    congr 2
    split<;>simp[qaY,Nat.add_assoc]
   ·have hn:n=0:=by omega
    have hh:h'=0:=by omega
    subst hn;subst hh
    exact .inr (.inr (.inr ⟨rfl,rfl,_,rfl⟩))
 |slice3 t x mx hi e i b off l c h' k' km h ht hi' hx hc hhi hmx h1=>
  obtain ⟨y,ky,rfl,hy⟩:=hhi
  have hX:=hO x (by simp[h,Op.operands])
  rw[hx] at hX
  have hy':=OpsR.nums (hO y (by simp[h,Op.operands])) hy
  have hm':=OpsR.nums (hO mx (by simp[h,Op.operands])) hmx
  obtain ⟨q,_,hj,hcc⟩:=hX.slice
  have hex:∃(a':Addr) (c':Nat),cρ x= .slice (some a') l c'∧k'≤c'∧VR0 j (.slice (some ⟨b,off,none⟩) h' k') (.slice (some a') h' k'):=by
   rcases hcc with ⟨hlt,hcc⟩|⟨hcb,_,hle,hcap,_,_,hcc⟩|⟨hcb,hl0,o',hcc⟩|⟨hc0,hl0,a',hcc⟩
   ·rcases hc with ⟨_,hk⟩|⟨hcb,_⟩
    ·exact ⟨_,_,hcc,hk,q,rfl,hj, .inl ⟨Nat.lt_of_le_of_lt hk hlt,rfl⟩⟩
    ·exact absurd (hcb▸hlt) (Nat.lt_irrefl _)
   ·rcases hc with ⟨hcn,_⟩|⟨_,hk⟩
    ·exact absurd hcb hcn
    ·exact ⟨_,_,hcc,Nat.le_trans hk hle,q,rfl,hj, .inl ⟨Nat.lt_of_le_of_lt (Nat.le_trans hk hle) (Nat.lt_of_le_of_lt (Nat.sub_le _ _) hcap),rfl⟩⟩
   ·rcases hc with ⟨hcn,_⟩|⟨_,hk⟩
    ·exact absurd hcb hcn
    ·have hk0:k'=0:=by omega
     have hh0:h'=0:=by omega
     subst hk0 hh0
     subst hl0
     exact ⟨_,_,hcc,Nat.zero_le _,q,rfl,hj, .inr (.inr (.inr ⟨rfl,rfl,_,rfl⟩))⟩
   ·subst hc0 hl0
    have hk0:k'=0:=by rcases hc with ⟨_,hk⟩|⟨_,hk⟩<;>omega
    have hh0:h'=0:=by omega
    subst hk0 hh0
    exact ⟨a',_,hcc,Nat.le_refl _,q,rfl,hj, .inr (.inr (.inr ⟨rfl,rfl,_,rfl⟩))⟩
  obtain ⟨a',c',hcx,hk,hv⟩:=hex
  have hbnd:(Instr.sliceBounds true l c' (none:Option Value) ((some y).map cρ) (some (cρ mx))).run P w= .ok (0,h',k') w:=by
   simp[Instr.sliceBounds,hy',hm',Instr.sliceBound,asIntOf,hk,h1]
  refine ⟨_, ?_,VR.of0 hv⟩
  simp only[execOp,h,Instr.sliceAt,Sem.run_bind,qas ht,Result.andThen_ok,Option.map_none,Option.map_some,Instr.slice,hcx] at hbnd⊢
  simp only[hbnd,qaI hi',Sem.run_pure,Result.andThen_ok,Nat.sub_zero,Nat.zero_mul]
  congr 3
  split
  ·rfl
  ·rcases a' with ⟨b1,o1,s1⟩
   cases s1<;>simp[Addr.add]
 |slice3Nil t x mx hi e i km h ht hi' hx hhi hmx=>
  obtain ⟨y,ky,rfl,hy⟩:=hhi
  have hX:=hO x (by simp[h,Op.operands])
  rw[hx] at hX
  have hcx:=hX.sliceNil
  have hy':=OpsR.nums (hO y (by simp[h,Op.operands])) hy
  have hm':=OpsR.nums (hO mx (by simp[h,Op.operands])) hmx
  refine ⟨.slice none 0 0, ?_,rfl⟩
  have hbnd:(Instr.sliceBounds true 0 0 (none:Option Value) ((some y).map cρ) (some (cρ mx))).run P w= .ok (0,0,0) w:=by
   simp[Instr.sliceBounds,hy',hm',Instr.sliceBound,asIntOf]
  simp only[Option.map_some] at hbnd
  simp[execOp,h,Instr.sliceAt,qas ht,Instr.slice,hcx,hbnd,qaI hi']
 |sliceNil t x lo hi e i h ht hi' hx hlo hhi=>
  have hX:=hO x (by simp[h,Op.operands])
  rw[hx] at hX
  have hcx:=hX.sliceNil
  refine ⟨.slice none 0 0, ?_,rfl⟩
  have hbnd:(Instr.sliceBounds true 0 0 (lo.map cρ) (hi.map cρ) none).run P w= .ok (0,0,0) w:=by
   cases lo with
   |none=>
    cases hi with
    |none=>simp[Instr.sliceBounds]
    |some y=>
     obtain ⟨k,hy⟩:=hhi
     have:=OpsR.nums (hO y (by simp[h,Op.operands])) hy
     simp[Instr.sliceBounds,this,Instr.sliceBound,asIntOf]
   |some u=>
    obtain ⟨k,hu⟩:=hlo
    have hu':=OpsR.nums (hO u (by simp[h,Op.operands])) hu
    cases hi with
    |none=>simp[Instr.sliceBounds,hu',Instr.sliceBound,asIntOf]
    |some y=>
     obtain ⟨k',hy⟩:=hhi
     have:=OpsR.nums (hO y (by simp[h,Op.operands])) hy
     simp[Instr.sliceBounds,this,hu',Instr.sliceBound,asIntOf]
  simp[execOp,h,Instr.sliceAt,qas ht,Instr.slice,hcx,hbnd,qaI hi']
 |len x t e a l c h ht hx=>
  have hX:=hO x (by simp[h,Op.operands,Call.operands])
  rw[hx] at hX
  have hcx:∃a' c',cρ x= .slice a' l c':=by
   cases a with
   |none=>exact ⟨_,_,hX.sliceNil⟩
   |some a=>
    obtain ⟨q,_,hj,hc⟩:=hX.slice
    rcases hc with ⟨_,hc⟩|⟨_,_,_,_,_,_,hc⟩|⟨_,hl,_,hc⟩|⟨_,hl,_,hc⟩
    ·exact ⟨_,_,hc⟩
    ·exact ⟨_,_,hc⟩
    ·subst hl;exact ⟨_,_,hc⟩
    ·subst hl;exact ⟨_,_,hc⟩
  obtain ⟨a',c',hcx⟩:=hcx
  exact ⟨.int .i64 l,by simp[execOp,h,resolve,invoke,builtin,Builtin.len_,qas ht,hcx,goInt],rfl⟩
 |capNil x t e h ht hx=>
  have hX:=hO x (by simp[h,Op.operands,Call.operands])
  rw[hx] at hX
  have hcx:=hX.sliceNil
  exact ⟨.int .i64 0,by simp[execOp,h,resolve,invoke,builtin,Builtin.cap_,qas ht,hcx,goInt],rfl⟩
 |eqNil neq x y t u e a l c h ht hx hy=>
  have hX:=hO x (by simp[h,Op.operands])
  rw[hx] at hX
  have hY:=hO y (by simp[h,Op.operands])
  rw[hy] at hY
  have hcy:=hY.sliceNil
  have hcx:∃a' c',cρ x= .slice (some a') l c':=by
   obtain ⟨q,_,hj,hc⟩:=hX.slice
   rcases hc with ⟨_,hc⟩|⟨_,_,_,_,_,_,hc⟩|⟨_,hl,_,hc⟩|⟨_,hl,_,hc⟩
   ·exact ⟨_,_,hc⟩
   ·exact ⟨_,_,hc⟩
   ·subst hl;exact ⟨_,_,hc⟩
   ·subst hl;exact ⟨_,_,hc⟩
  obtain ⟨a',c',hcx⟩:=hcx
  refine ⟨.bool neq, ?_,rfl⟩
  exact qlL neq x y t u e a' l c' h ht hcx hcy w
 |func fn first captured h hf=>
  refine ⟨.func fn (first.map cρ) (captured.map cρ),by simp[execOp,h,Instr.makeFunc],⟨_,_,rfl, ?_, ?_⟩⟩
  ·simp only[Array.toList_map]
   exact L2.map _ _ _ fun x hx=>VR.storable (hO x (by simp[h,Op.operands];exact .inl (by simpa using hx))) (hf x (by simp[hx]))
  ·simp only[Array.toList_map]
   exact L2.map _ _ _ fun x hx=>VR.storable (hO x (by simp[h,Op.operands];exact .inr (by simpa using hx))) (hf x (by simp[hx]))
end Go.AM
end
section
set_option linter.unusedSimpArgs false
set_option linter.unusedVariables false
namespace Go.AM
structure RdOk (P:Program) (j:Emb) (m:Mem) (w:World):Prop where
 load:∀b e o v,j b=some e→m.load b o=some v→∃cv,w.cell? ⟨e.blk,e.sh+o,none⟩=some cv∧VR0 j v cv
 own:∀b e L t,j b=some e→m.blk b= .own L t→P.cellsOf t=e.es∧L.length≤e.cap*e.es
 map:∀b e L u,j b=some e→m.blk b= .map L u→ObjR P j e w.heap[e.blk]? (.map L u)
theorem Rel.load {P:Program} {j:Emb} {m:Mem} {w:World} (h:Rel P j m w) (b:Nat) (e:Emb1) (o:Nat) (v:Value) (hj:j b=some e) (hl:m.load b o=some v):∃cv,w.cell? ⟨e.blk,e.sh+o,none⟩=some cv∧VR0 j v cv:=by
 unfold Mem.load at hl
 have ho:=h.obj b e hj
 cases hb:m.blk b with
 |dead=>simp[hb] at hl
 |map L u=>simp[hb] at hl
 |lock _ _ _ _=>simp[hb] at hl
 |ro rd=>
  simp only[hb] at hl ho
  obtain ⟨cs,t,fz,cv,h1,h2,h3⟩:=ho o v hl
  exact ⟨cv,by simp[World.cell?,h1,h2],h3⟩
 |own L t=>
  simp only[hb] at hl
  obtain ⟨cs,fz,hw,hf,h1,h2,h3,h4⟩:=h.own b e L t hj hb
  obtain ⟨cv,hc,hr⟩:=h4 o v hl
  exact ⟨cv,by simp[World.cell?,hw,hc],hr⟩
theorem Rel.rdOk {P:Program} {j:Emb} {m:Mem} {w:World} (h:Rel P j m w):RdOk P j m w:=
 ⟨h.load,fun b e L t hj hb=>by
  obtain ⟨cs,fz,hw,hf,h1,h2,h3,h4⟩:=h.own b e L t hj hb
  exact ⟨h1,by omega⟩,fun b e L u hj hb=>by have:=h.obj b e hj;rw[hb] at this;exact this⟩
theorem qcr {P:Program} {j:Emb} {m:Mem} {w:World} (h:RdOk P j m w) {b:Nat} {e:Emb1} (hj:j b=some e):∀(n o:Nat) (cs:List Value),rdN m b o n=some cs→
  ∃ds:List Value,L2 (VR0 j) cs ds∧ds.length=n∧∀(i:Nat) (u:Value),ds[i]? =some u→w.cell? ⟨e.blk,e.sh+o+i,none⟩=some u
 |0,o,cs,hr=>by simp only[rdN,Option.some.injEq] at hr;subst hr;exact ⟨[],True.intro,rfl,fun i u hu=>by simp at hu⟩
 |n+1,o,cs,hr=>by
  simp only[rdN] at hr
  cases h1:m.load b o with
  |none=>simp[h1] at hr
  |some v=>
   cases h2:rdN m b (o+1) n with
   |none=>simp[h1,h2] at hr
   |some l=>
    simp only[h1,h2,Option.some.injEq] at hr
    subst hr
    obtain ⟨cv,hc,hv⟩:=h.load b e o v hj h1
    obtain ⟨ds,hl,hn,hd⟩:=qcr h hj n (o+1) l h2
    refine ⟨cv::ds,⟨hv,hl⟩,by simp[hn],fun i u hu=> ?_⟩
    cases i with
    |zero=>simp at hu;subst hu;simpa using hc
    |succ i=>
     have:=hd i u (by simpa using hu)
     rw[show e.sh+o+(i+1)=e.sh+(o+1)+i by omega];exact this
theorem qbO {P:Program} {w:World} {c o n:Nat} {ds:List Value} (hn:ds.length=n) (hd:∀(i:Nat) (u:Value),ds[i]? =some u→w.cell? ⟨c,o+i,none⟩=some u):(loadCells ⟨c,o,none⟩ n).run P w= .ok ds.toArray w:=by
 rw[←hn]
 exact run_loadCells_list w ⟨c,o,none⟩ ds (fun i u hu=>by rw[qaY];exact hd i u hu)
theorem qfN {P:Program} {w:World} {a:Addr}:(loadCells a 0).run P w= .ok #[] w:=rfl
theorem qfu {P:Program} (w:World):∀(cs:List UInt8) (s:ByteArray) (f:Value→ByteArray→Sem (ForInStep ByteArray)),
  (∀u s,f (.int .u8 (u:UInt8).toNat) s=pure (.yield (s.push u)))→
  (forIn (cs.map fun u=>Value.int .u8 (u.toNat:Int)) s f).run P w= .ok (⟨s.data++cs.toArray⟩:ByteArray) w
 |[],s,f,hf=>by simp
 |u::cs,s,f,hf=>by
  simp only[List.map_cons,List.forIn_cons,hf,pure_bind,qfu w cs (s.push u) f hf]
  congr 1
  simp[ByteArray.push]
theorem qrs (u:UInt8):UInt8.ofNat ((u.toNat:Int).toNat)=u:=by simp
theorem qfP {P:Program} {w:World} {r:Nat} {es:Array MapEntry} {clock:Nat} (hb:w.heap[r]? =some (.map es clock)):(getObj r).run P w= .ok (.map es clock) w:=by
 simp[getObj,Sem.run,hb]
theorem qpZ {P:Program} {w:World} {r:Nat} {es:Array MapEntry} {clock:Nat} (o:Obj) (hb:w.heap[r]? =some (.map es clock)):(setObj r o).run P w= .ok () {w with heap:=w.heap.setIfInBounds r o}:=by
 simp[setObj,Sem.run,hb]
theorem EntL.uniq {ks vs:Nat} (hk:0<ks):∀{L:List Value} {E E':List (List Value×List Value)},EntL ks vs L E→EntL ks vs L E'→E=E'
 |L,[],[],_,_=>rfl
 |L,[],p::E',h,h'=>by
  have h1:=h.eq
  rw[h'.eq] at h1
  have:=(h'.len p (by simp)).1
  have h2:=congrArg List.length h1
  rw[List.flatMap_cons,List.length_append,List.length_append] at h2
  simp only[List.flatMap_nil,List.length_nil] at h2
  omega
 |L,p::E,[],h,h'=>by
  have h1:=h'.eq
  rw[h.eq] at h1
  have:=(h.len p (by simp)).1
  have h2:=congrArg List.length h1
  rw[List.flatMap_cons,List.length_append,List.length_append] at h2
  simp only[List.flatMap_nil,List.length_nil] at h2
  omega
 |L,p::E,q::E',h,h'=>by
  have h1:=h.eq
  rw[h'.eq] at h1
  simp only[List.flatMap_cons,List.append_assoc] at h1
  obtain ⟨e1,h1⟩:=List.append_inj h1 (by rw[(h.len p (by simp)).1,(h'.len q (by simp)).1])
  obtain ⟨e2,h1⟩:=List.append_inj h1 (by rw[(h.len p (by simp)).2,(h'.len q (by simp)).2])
  have ih:=EntL.uniq hk (L:=E.flatMap fun p=>p.1++p.2) (E:=E) (E':=E') ⟨rfl,fun r hr=>h.len r (by simp[hr])⟩ ⟨h1.symm,fun r hr=>h'.len r (by simp[hr])⟩
  rw[ih]
  congr 1
  exact (Prod.ext e1 e2).symm
theorem Look.find {P:Program} {j:Emb} {kt vt:TypeId} {key z v:Value} {t:Bool} {E:List (List Value×List Value)} (h:Look (qaj P kt) (qaj P vt) key z E v t):∀{es:List MapEntry} (i:Nat),L2 (EntW P j kt vt) E es→
  (t=true∧∃n cv,qbL key es i=some (n,cv)∧VR1 j v cv)∨(t=false∧v=z∧qbL key es i=none):=by
 induction h with
 |miss=>
  intro es i hE
  cases es with
  |nil=>exact .inr ⟨rfl,rfl,rfl⟩
  |cons _ _=>exact hE.elim
 |hit p E h=>
  intro es i hE
  cases es with
  |nil=>exact hE.elim
  |cons x es=>
   obtain ⟨⟨h1,h2,h3⟩,_⟩:=hE
   exact .inl ⟨rfl,i,x.val,by rw[qbL,if_pos (h1.trans h)],h3⟩
 |next p E v b h hE ih=>
  intro es i hE
  cases es with
  |nil=>exact hE.elim
  |cons x es=>
   obtain ⟨⟨h1,h2,h3⟩,hE⟩:=hE
   have:=ih (i+1) hE
   rw[qbL,if_neg (fun hh=>h (h1.symm.trans hh))]
   exact this
theorem qeO {P:Program} {j:Emb} {kt vt:TypeId} {good:Value→Prop}:∀{E:List (List Value×List Value)} {es:List MapEntry},L2 (EntW P j kt vt) E es→(∀p∈E,good (qal (qaj P kt) p.1))→∀x∈es,good x.key
 |[],[],_,_,x,hx=>by simp at hx
 |p::E,y::es,⟨h1,h2⟩,hg,x,hx=>by
  rcases List.mem_cons.1 hx with rfl|hx
  ·rw[h1.1];exact hg p (by simp)
  ·exact qeO h2 (fun q hq=>hg q (by simp[hq])) x hx
 |[],_::_,h,_,_,_=>h.elim
 |_::_,[],h,_,_,_=>h.elim
theorem qfH {P:Program} {j:Emb} {ρ cρ:Operand→Value} {o:Oper} {m:Mem} {v:Value} (h:ReadR P ρ o m v) (hO:OpsR j ρ cρ o) {w:World} (hR:RdOk P j m w):∃cv,(execOp cρ o).run P w= .ok (.value cv) w∧VR j v cv:=by
 cases h with
 |load t x b off d v h hx ht hd hv=>
  have hX:=hO x (by simp[h,Op.operands])
  rw[hx] at hX
  obtain ⟨q,_,hj,hc⟩:=hX.ptr
  obtain ⟨cv,hcc,hr⟩:=hR.load b q off v hj hv
  exact ⟨cv,by simp[execOp,h,Instr.loadAt,hc,Instr.sureAddr,loadVar,qe8 ht,hd,hcc],VR.of0 hr⟩
 |loadA t x b off d i cs h hx ht hd hi hv=>
  have hX:=hO x (by simp[h,Op.operands])
  rw[hx] at hX
  obtain ⟨q,_,hj,hc⟩:=hX.ptr
  obtain ⟨ds,hl,hn,hdd⟩:=qcr hR hj _ _ _ hv
  exact ⟨.agg ds.toArray,by simp[execOp,h,Instr.loadAt,hc,Instr.sureAddr,loadVar,qe8 ht,hd,qaI hi,qbO hn hdd],⟨_,rfl,by simpa using hl⟩⟩
 |slice t x lo hi e i L b off l n h' h ht hi' hx hm hlo hhi h1 h2 h3=>
  have hX:=hO x (by simp[h,Op.operands])
  rw[hx] at hX
  obtain ⟨q,_,hj,hc⟩:=hX.slice
  obtain ⟨hes,_⟩:=hR.own b q L e hj hm
  have hsz:i.size=q.es:=by simpa[Program.cellsOf,hi'] using hes
  have key:∀(o' cc:Nat),cρ x= .slice (some ⟨q.blk,o',none⟩) l cc→l≤cc→
    (execOp cρ o).run P w= .ok (.value (.slice (some ⟨q.blk,if cc=n then o' else o'+n*i.size,none⟩) (h' - n) (cc - n))) w:=by
   intro o' cc hcx hle
   have hbnd:(Instr.sliceBounds true l cc (lo.map cρ) (hi.map cρ) none).run P w= .ok (n,h',cc) w:=by
    cases lo with
    |none=>
     simp only[qfh] at hlo
     subst hlo
     cases hi with
     |none=>simp only[qbM] at hhi;subst hhi;simp[Instr.sliceBounds]
     |some y=>
      obtain ⟨k,hy⟩:=hhi
      have:=OpsR.nums (hO y (by simp[h,Op.operands])) hy
      simp[Instr.sliceBounds,this,Instr.sliceBound,asIntOf,show h'≤cc by omega]
    |some u=>
     obtain ⟨k,hu⟩:=hlo
     have hu':=OpsR.nums (hO u (by simp[h,Op.operands])) hu
     cases hi with
     |none=>simp only[qbM] at hhi;subst hhi;simp[Instr.sliceBounds,hu',Instr.sliceBound,asIntOf,h1]
     |some y=>
      obtain ⟨k',hy⟩:=hhi
      have:=OpsR.nums (hO y (by simp[h,Op.operands])) hy
      simp[Instr.sliceBounds,this,hu',Instr.sliceBound,asIntOf,h1,show h'≤cc by omega]
   simp only[execOp,h,Instr.sliceAt,Sem.run_bind,qas ht,Result.andThen_ok,Option.map_none,Instr.slice,hcx,hbnd,qaI hi',Sem.run_pure]
   congr 3
   split<;>simp[qaY]
  rcases hc with ⟨hlt,_⟩|⟨_,hpos,hle,hcap,hmod,hdiv,hc⟩|⟨_,hl0,o',hc⟩|⟨hc0,_⟩
  rotate_left 3
  ·simp[BIG] at hc0
  ·exact absurd hlt (Nat.lt_irrefl _)
  ·have hle:l≤q.cap - off / q.es:=hle
   have hmod:off%q.es=0:=hmod
   have hdiv:off / q.es≤q.cap:=hdiv
   refine ⟨_,key _ _ hc hle,⟨q,rfl,hj, ?_⟩⟩
   by_cases hz:q.cap - off / q.es=n
   ·have:h' - n=0:=by omega
    right;right;left
    refine ⟨rfl,this,q.sh+off, ?_⟩
    simp[hz,this]
   ·right;left
    have hdv:(off+n*i.size) / q.es=off / q.es+n:=by rw[hsz];exact Nat.add_mul_div_right _ _ hpos
    refine ⟨rfl,hpos, ?_,hcap, ?_, ?_, ?_⟩
    ·simp only[hdv];omega
    ·simp only[hsz,Nat.add_mul_mod_self_right];exact hmod
    ·simp only[hdv];omega
    ·simp only[hdv,if_neg hz,Nat.add_assoc]
     congr 1
     omega
  ·subst hl0
   refine ⟨_,key _ _ hc (Nat.le_refl _),⟨q,rfl,hj, ?_⟩⟩
   right;right;left
   refine ⟨rfl,by omega,o', ?_⟩
   have:n=0:=by omega
   have:h'=0:=by omega
   simp[*]
 |str s t x e b off l c cs h hs he ht hx hv=>
  have hX:=hO x (by simp[h,Op.operands])
  rw[hx] at hX
  obtain ⟨q,_,hj,hc⟩:=hX.slice
  obtain ⟨ds,hl,hn,hdd⟩:=qcr hR hj _ _ _ hv
  have hds:ds=cs.map fun u=> .int .u8 u.toNat:=L2.eq_of (p:=qah) (fun a b=>qdb (j:=j)) (by simp[qah]) hl
  subst hds
  refine ⟨.string ⟨cs.toArray⟩, ?_,rfl⟩
  have key:∀(a':Addr) (cc:Nat),cρ x= .slice (some a') l cc→(a'=⟨q.blk,q.sh+off,none⟩∨l=0)→(execOp cρ o).run P w= .ok (.value (.string ⟨cs.toArray⟩)) w:=by
   intro a' cc hcx ho
   have hlc:(loadCells a' l).run P w= .ok ((cs.map fun u=>Value.int .u8 (u.toNat:Int)).toArray) w:=by
    rcases ho with rfl|ho
    ·exact qbO hn hdd
    ·subst ho
     have:cs=[]:=by simpa using hn
     subst this
     exact qfN
   have hb:(Conv.bytesToString (.slice (some a') l cc)).run P w= .ok (.string ⟨cs.toArray⟩) w:=by
    simp only[Conv.bytesToString,Sem.run_bind,hlc,Result.andThen_ok,List.forIn_toArray]
    rw[qfu (P:=P) w cs ByteArray.empty _ (fun u s=>by simp[qrs])]
    simp[ByteArray.empty,ByteArray.emptyWithCapacity]
    rfl
   simp[execOp,h,convert,qas hs,qas ht,hcx,qas he,hb]
  rcases hc with ⟨_,hc⟩|⟨_,_,_,_,_,_,hc⟩|⟨_,hl0,o',hc⟩|⟨_,hl0,a',hc⟩
  ·exact key _ _ hc (.inl rfl)
  ·exact key _ _ hc (.inl rfl)
  ·exact key _ 0 (by rw[hc,hl0]) (.inr hl0)
  ·exact key a' 0 (by rw[hc,hl0]) (.inr hl0)
 |strNil s t x e l c h hs he ht hx=>
  have hX:=hO x (by simp[h,Op.operands])
  rw[hx] at hX
  have hcx:=hX.sliceNil
  refine ⟨.string .empty, ?_,rfl⟩
  simp[execOp,h,convert,qas hs,qas ht,hcx,qas he,Conv.bytesToString]
 |lookup xt x ix ok u kt vt b L E i z v0 t good h hxt hu hx hks hv1 K hf hk hg hi hz hzf hl=>
  have hX:=hO x (by simp[h,Op.operands])
  have hcx:=qiU hf (hO ix (by simp[h,Op.operands]))
  have core:∃(es:Array MapEntry),L2 (EntW P j kt vt) E es.toList∧((∃r clock,cρ x= .map (some r)∧w.heap[r]? =some (.map es clock))∨(cρ x= .map none∧es=#[])):=by
   rcases hx with ⟨hx,hm,hE⟩|⟨hx,rfl⟩
   ·rw[hx] at hX
    obtain ⟨q,hj,hc⟩:∃q,j b=some q∧cρ x= .map (some q.blk):=hX
    obtain ⟨kt',vt',cs,clock,E',g1,g2,g3,g4,_⟩:=hR.map b q L u hj hm
    have hkv:kt'=kt∧vt'=vt:=by rw[hu] at g2;simpa using g2.symm
    obtain ⟨rfl,rfl⟩:=hkv
    have:=EntL.uniq hks hE g3
    subst this
    exact ⟨cs,g4, .inl ⟨_,_,hc,g1⟩⟩
   ·rw[hx] at hX
    exact ⟨#[],True.intro, .inr ⟨hX,rfl⟩⟩
  obtain ⟨es,g4,hc⟩:=core
  have hfind:=K.find (ρ ix) es.toList w hk (qeO g4 hg)
  have hchk:=K.check es.isEmpty (ρ ix) w hk
  have hf0:=hl.find 0 g4
  rcases hc with ⟨r,clock,hc,g1⟩|⟨hc,rfl⟩
  ·rcases hf0 with ⟨rfl,n,cv,h1,h2⟩|⟨rfl,rfl,h1⟩
   ·rw[h1] at hfind
    cases ok with
    |false=>exact ⟨cv,by simp[execOp,h,Instr.lookup,qas hxt,hc,qfP g1,hcx,hchk,hfind],VR.of1 h2⟩
    |true=>exact ⟨.tuple #[cv, .bool true],by simp[execOp,h,Instr.lookup,qas hxt,hc,qfP g1,hcx,hchk,hfind],⟨_,rfl,h2,VR1.of0 rfl,True.intro⟩⟩
   ·rw[h1] at hfind
    cases ok with
    |false=>exact ⟨v0,by simp[execOp,h,Instr.lookup,qas hxt,hc,qfP g1,hcx,hchk,hfind,qbI hi hz],VR.of1 (qbp hzf)⟩
    |true=>exact ⟨.tuple #[v0, .bool false],by simp[execOp,h,Instr.lookup,qas hxt,hc,qfP g1,hcx,hchk,hfind,qbI hi hz],⟨_,rfl,qbp hzf,VR1.of0 rfl,True.intro⟩⟩
  ·rcases hf0 with ⟨rfl,n,cv,h1,h2⟩|⟨rfl,rfl,h1⟩
   ·simp[qbL] at h1
   ·rw[h1] at hfind
    simp only[List.isEmpty_toArray,List.isEmpty_nil] at hchk hfind
    have hchk:=K.check true (ρ ix) w hk
    cases ok with
    |false=>exact ⟨v0,by simp[execOp,h,Instr.lookup,qas hxt,hc,hcx,hchk,hfind,qbI hi hz],VR.of1 (qbp hzf)⟩
    |true=>exact ⟨.tuple #[v0, .bool false],by simp[execOp,h,Instr.lookup,qas hxt,hc,hcx,hchk,hfind,qbI hi hz],⟨_,rfl,qbp hzf,VR1.of0 rfl,True.intro⟩⟩
end Go.AM
end
section
set_option linter.unusedSimpArgs false
set_option linter.unusedVariables false
namespace Go.AM
def Emb.up (j:Emb) (n:Nat) (e:Emb1):Emb:=fun b=>if b=n then some e else j b
theorem Rel.none_next {P:Program} {j:Emb} {m:Mem} {w:World} (h:Rel P j m w):j m.next=none:=by
 cases hj:j m.next with
 |none=>rfl
 |some e=>exact absurd (h.lt _ _ hj).1 (Nat.lt_irrefl _)
theorem Emb.up_le {j:Emb} {n:Nat} {e:Emb1} (hn:j n=none):∀b x,j b=some x→j.up n e b=some x:=by
 intro b x hb
 unfold Emb.up
 split
 ·rename_i h;subst h;rw[hn] at hb;cases hb
 ·exact hb
theorem Rel.push {P:Program} {j:Emb} {m:Mem} {w w':World} (h:Rel P j m w) {X:Blk} {e:Emb1} {ob:Obj}
  (hw:w'.heap=w.heap.push ob) (hos:w'.os=w.os) (htp:w'.tape=w.tape) (hout:w'.output=w.output) (he:e.blk=w.heap.size)
  (hX:ObjR P j e (some ob) X):Post P j m w (j.up m.next e) (m.push X) w':=by
 have hn:=h.none_next
 have hle:=Emb.up_le (e:=e) hn
 have hold:∀c,c<w.heap.size→w'.heap[c]? =w.heap[c]? :=fun c hc=>by rw[hw,Array.getElem?_push,if_neg (by omega)]
 have hsize:w'.heap.size=w.heap.size+1:=by rw[hw];simp
 have hnew:w'.heap[w.heap.size]? =some ob:=by rw[hw];simp
 have hblk:∀b,b≠m.next→(m.push X).blk b=m.blk b:=fun b hb=>by simp[Mem.push,hb]
 have hself:(m.push X).blk m.next=X:=by simp[Mem.push]
 have hup:∀b x,j.up m.next e b=some x→b≠m.next→j b=some x:=fun b x hb hne=>by simpa[Emb.up,hne] using hb
 refine ⟨⟨?_, ?_, ?_⟩,⟨hos,htp,hout,by omega,fun c hc _=>hold c hc⟩,by simp[Mem.push], ?_, ?_, ?_,fun b hb hl'=>by rw[hblk b (by omega)] at hl';exact hl'⟩
 ·intro b x hb
  by_cases hbn:b=m.next
  ·subst hbn
   have:x=e:=by simpa[Emb.up] using hb.symm
   subst this
   exact ⟨by simp[Mem.push],by omega⟩
  ·have:=h.lt b x (hup b x hb hbn)
   exact ⟨by simp only[Mem.push];omega,by omega⟩
 ·intro b x hb
  by_cases hbn:b=m.next
  ·subst hbn
   have:x=e:=by simpa[Emb.up] using hb.symm
   subst this
   rw[hself,he,hnew]
   exact hX.mono hle
  ·have hjb:=hup b x hb hbn
   rw[hblk b hbn,hold _ (h.lt b x hjb).2]
   exact (h.obj b x hjb).mono hle
 ·intro b b' x x' hb hb' ho hl' hxx
  by_cases hbn:b=m.next
  ·by_cases hbn':b'=m.next
   ·rw[hbn,hbn']
   ·have hx:x=e:=by subst hbn;simpa[Emb.up] using hb.symm
    have:=(h.lt b' x' (hup b' x' hb' hbn')).2
    rw[←hxx,hx,he] at this
    omega
  ·have hjb:=hup b x hb hbn
   by_cases hbn':b'=m.next
   ·have hx:x'=e:=by subst hbn';simpa[Emb.up] using hb'.symm
    have:=(h.lt b x hjb).2
    rw[hxx,hx,he] at this
    omega
   ·rw[hblk b hbn] at ho
    rw[hblk b' hbn'] at hl'
    exact h.inj b b' x x' hjb (hup b' x' hb' hbn') ho hl' hxx
 ·intro b hb
  simp[Emb.up,show b≠m.next by omega]
 ·intro b x hb hge
  by_cases hbn:b=m.next
  ·have hx:x=e:=by subst hbn;simpa[Emb.up] using hb.symm
   exact .inl (by rw[hx,he];exact Nat.le_refl _)
  ·exact absurd (h.lt b x (hup b x hb hbn)).1 (Nat.not_lt.2 hge)
 ·intro b hb ho
  rw[hblk b (by omega)] at ho
  exact ho
theorem Rel.kill {P:Program} {j:Emb} {m:Mem} {w:World} (h:Rel P j m w) (b:Nat):Post P j m w j (m.put b .dead) w:=by
 have hblk:∀c x,(m.put b .dead).blk c=x→(x≠ .dead)→m.blk c=x:=by
  intro c x hc hx
  simp only[Mem.put] at hc
  split at hc
  ·exact absurd hc.symm hx
  ·exact hc
 refine ⟨⟨h.lt, ?_, ?_⟩,Frm.refl j m w,Nat.le_refl _,fun _ _=>rfl, ?_, ?_,fun c hc hl'=>by
  have e1:m.blk c=(m.put b .dead).blk c:=by
   refine hblk c _ rfl ?_
   intro hd;rw[hd] at hl';cases hl'
  rw[e1];exact hl'⟩
 ·intro c x hc
  by_cases hd:(m.put b .dead).blk c= .dead
  ·rw[hd];trivial
  ·rw[←hblk _ _ rfl hd];exact h.obj c x hc
 ·intro c c' x x' hc hc' ho hl hxx
  have e1:m.blk c=(m.put b .dead).blk c:=by
   refine hblk c _ rfl ?_
   intro hd;rw[hd] at ho;cases ho
  have e2:m.blk c'=(m.put b .dead).blk c':=by
   refine hblk c' _ rfl ?_
   intro hd;rw[hd] at hl;cases hl
  exact h.inj c c' x x' hc hc' (by rw[e1];exact ho) (by rw[e2];exact hl) hxx
 ·intro c e hc hn
  exact absurd (h.lt c e hc).1 (Nat.not_lt.2 hn)
 ·intro c hc ho
  have e1:m.blk c=(m.put b .dead).blk c:=by
   refine hblk c _ rfl ?_
   intro hd;rw[hd] at ho;cases ho
  rw[e1];exact ho
def qbC (w:World) (c:Nat) (cs:Array Value) (t:TypeId) (fz:Nat×Nat):World:={w with heap:=w.heap.setIfInBounds c (.cells cs t fz)}
theorem qe7 {w:World} {c:Nat} {cs:Array Value} {t:TypeId} {fz:Nat×Nat} {x:Nat} (hx:x≠c):(qbC w c cs t fz).heap[x]? =w.heap[x]? :=by
 simp only[qbC]
 rw[Array.getElem?_setIfInBounds_ne (by omega)]
theorem qdV {w:World} {c:Nat} {cs:Array Value} {t:TypeId} {fz:Nat×Nat} (hc:c<w.heap.size):(qbC w c cs t fz).heap[c]? =some (.cells cs t fz):=by
 simp[qbC,hc]
def setO (w:World) (c:Nat) (o:Obj):World:={w with heap:=w.heap.setIfInBounds c o}
theorem qkA {w:World} {c:Nat} {o:Obj} {x:Nat} (hx:x≠c):(setO w c o).heap[x]? =w.heap[x]? :=by
 simp only[setO]
 rw[Array.getElem?_setIfInBounds_ne (by omega)]
theorem qni {w:World} {c:Nat} {o:Obj} (hc:c<w.heap.size):(setO w c o).heap[c]? =some o:=by
 simp[setO,hc]
theorem Rel.turn {P:Program} {j:Emb} {m:Mem} {w:World} (h:Rel P j m w) {b:Nat} {e:Emb1} {X:Blk} {ob:Obj} (hj:j b=some e) (hobn:(m.blk b).isOwn=true) (hX:ObjR P j e (some ob) X) (hXo:X.isOwn=true):
  Post P j m w j (m.put b X) (setO w e.blk ob):=by
 have hlt:=(h.lt b e hj).2
 have hlv:(m.blk b).live=true:=by cases hb:m.blk b<;>simp[hb,Blk.isOwn,Blk.live] at hobn⊢
 have hne:∀c x,j c=some x→(m.blk c).live=true→c≠b→x.blk≠e.blk:=fun c x hc hl hcb hxe=>hcb (h.inj b c e x hj hc hobn hl hxe.symm).symm
 have hblk:∀c,c≠b→(m.put b X).blk c=m.blk c:=fun c hc=>by simp[Mem.put,hc]
 have hself:(m.put b X).blk b=X:=by simp[Mem.put]
 have hsize:(setO w e.blk ob).heap.size=w.heap.size:=by simp[setO]
 refine ⟨⟨?_, ?_, ?_⟩,⟨rfl,rfl,rfl,by rw[hsize];exact Nat.le_refl _, ?_⟩,Nat.le_refl _,fun _ _=>rfl, ?_, ?_,fun c hc hl'=>by
  by_cases hcb:c=b
  ·subst hcb;exact hlv
  ·rw[hblk c hcb] at hl';exact hl'⟩
 ·intro c x hc
  have:=h.lt c x hc
  exact ⟨this.1,by rw[hsize];exact this.2⟩
 ·intro c x hc
  by_cases hcb:c=b
  ·subst hcb
   rw[hj] at hc;cases hc
   rw[hself,qni hlt]
   exact hX
  ·rw[hblk c hcb]
   cases hl:(m.blk c).live with
   |false=>
    cases hb:m.blk c<;>simp[hb,Blk.live] at hl
    trivial
   |true=>
    rw[qkA (hne c x hc hl hcb)]
    exact h.obj c x hc
 ·intro c c' x x' hc hc' ho hl' hxx
  have e1:(m.blk c).isOwn=true:=by
   by_cases hcb:c=b
   ·subst hcb;exact hobn
   ·rw[hblk c hcb] at ho;exact ho
  have e2:(m.blk c').live=true:=by
   by_cases hcb:c'=b
   ·subst hcb;exact hlv
   ·rw[hblk c' hcb] at hl';exact hl'
  exact h.inj c c' x x' hc hc' e1 e2 hxx
 ·intro c hc hn
  exact qkA (Ne.symm (hn b e hj hobn))
 ·intro c x hc hge
  exact absurd (h.lt c x hc).1 (Nat.not_lt.2 hge)
 ·intro c hc ho
  by_cases hcb:c=b
  ·subst hcb;exact hobn
  ·rw[hblk c hcb] at ho;exact ho
theorem Rel.write {P:Program} {j:Emb} {m:Mem} {w:World} (h:Rel P j m w) {b:Nat} {e:Emb1} {L L':List Value} {t:TypeId} {cs cs':Array Value} {fz:Nat×Nat} (hj:j b=some e) (hb:m.blk b= .own L t)
  (hw:w.heap[e.blk]? =some (.cells cs t fz)) (hs:cs'.size=cs.size) (hl:L'.length≤e.cap*e.es) (hv:∀(i:Nat) (v:Value),L'[i]? =some v→∃cv,cs'[e.sh+i]? =some cv∧VR0 j v cv):
  Post P j m w j (m.put b (.own L' t)) (qbC w e.blk cs' t fz):=by
 obtain ⟨cs0,fz0,g1,g2,g3,g4,g5,g6⟩:=h.own b e L t hj hb
 have hcs:cs0=cs∧fz0=fz:=by rw[hw] at g1;simp at g1;exact ⟨g1.1.symm,g1.2.symm⟩
 obtain ⟨rfl,rfl⟩:=hcs
 exact h.turn hj (by rw[hb];rfl) ⟨cs',fz0,rfl,by rw[hs];exact g2,g3,by rw[hs];exact g4,hl,hv⟩ rfl
theorem Rel.reuse {P:Program} {j:Emb} {m:Mem} {w:World} (h:Rel P j m w) {b:Nat} {e e2:Emb1} {L L':List Value} {t:TypeId} {cs cs':Array Value} {fz:Nat×Nat} (hj:j b=some e) (hb:m.blk b= .own L t)
  (hw:w.heap[e.blk]? =some (.cells cs t fz)) (hs:cs'.size=cs.size) (heb:e2.blk=e.blk) (hee:e2.es=e.es) (hec:e2.sh+e2.cap*e2.es≤cs.size) (hl:L'.length≤e2.cap*e2.es) (hv:∀(i:Nat) (v:Value),L'[i]? =some v→∃cv,cs'[e2.sh+i]? =some cv∧VR0 j v cv):
  Post P j m w (j.up m.next e2) ((m.put b .dead).push (.own L' t)) (qbC w e.blk cs' t fz):=by
 have hlt:=(h.lt b e hj).2
 have hn:=h.none_next
 have hle:=Emb.up_le (e:=e2) hn
 have hobn:(m.blk b).isOwn=true:=by rw[hb];rfl
 have hne:∀c x,j c=some x→(m.blk c).live=true→c≠b→x.blk≠e.blk:=fun c x hc hl hcb hxe=>hcb (h.inj b c e x hj hc hobn hl hxe.symm).symm
 have hbn:b<m.next:=(h.lt b e hj).1
 have hnext:(m.put b .dead).next=m.next:=rfl
 have hblk:∀c,c≠b→c≠m.next→((m.put b .dead).push (.own L' t)).blk c=m.blk c:=fun c hc hc'=>by simp[Mem.put,Mem.push,hc,hc']
 have hdead:((m.put b .dead).push (.own L' t)).blk b= .dead:=by simp[Mem.put,Mem.push,show b≠m.next by omega]
 have hnewb:((m.put b .dead).push (.own L' t)).blk m.next= .own L' t:=by simp[Mem.put,Mem.push]
 have hup:∀b x,j.up m.next e2 b=some x→b≠m.next→j b=some x:=fun b x hb hne=>by simpa[Emb.up,hne] using hb
 obtain ⟨cs0,fz0,g1,g2,g3,g4,g5,g6⟩:=h.own b e L t hj hb
 have hcs:cs0=cs∧fz0=fz:=by rw[hw] at g1;simp at g1;exact ⟨g1.1.symm,g1.2.symm⟩
 obtain ⟨rfl,rfl⟩:=hcs
 have hsize:(qbC w e.blk cs' t fz0).heap.size=w.heap.size:=by simp[qbC]
 refine ⟨⟨?_, ?_, ?_⟩,⟨rfl,rfl,rfl,by rw[hsize];exact Nat.le_refl _, ?_⟩,by simp[Mem.push,hnext], ?_, ?_, ?_,fun c hc hl'=>by
  by_cases hcb:c=b
  ·subst hcb;rw[hb];rfl
  ·rw[hblk c hcb (by omega)] at hl';exact hl'⟩
 ·intro c x hc
  by_cases hcn:c=m.next
  ·subst hcn
   have:x=e2:=by simpa[Emb.up] using hc.symm
   subst this
   exact ⟨by simp[Mem.push,hnext],by rw[hsize,heb];exact hlt⟩
  ·have:=h.lt c x (hup c x hc hcn)
   exact ⟨by simp only[Mem.push,hnext];omega,by rw[hsize];exact this.2⟩
 ·intro c x hc
  by_cases hcn:c=m.next
  ·subst hcn
   have hx:x=e2:=by simpa[Emb.up] using hc.symm
   subst hx
   rw[hnewb,heb,qdV hlt]
   refine ⟨cs',fz0,rfl,by rw[hs];exact g2,by rw[hee];exact g3,by rw[hs];exact hec,hl,fun i v hi=> ?_⟩
   obtain ⟨cv,q1,q2⟩:=hv i v hi
   exact ⟨cv,q1,q2.mono hle⟩
  ·by_cases hcb:c=b
   ·subst hcb;rw[hdead];trivial
   ·have hjc:=hup c x hc hcn
    rw[hblk c hcb hcn]
    cases hlv:(m.blk c).live with
    |false=>
     cases hbb:m.blk c<;>simp[hbb,Blk.live] at hlv
     trivial
    |true=>
     rw[qe7 (hne c x hjc hlv hcb)]
     exact (h.obj c x hjc).mono hle
 ·intro c c' x x' hc hc' ho hl' hxx
  have hcb:c≠b:=by intro hh;subst hh;rw[hdead] at ho;cases ho
  have hcb':c'≠b:=by intro hh;subst hh;rw[hdead] at hl';cases hl'
  by_cases hcn:c=m.next
  ·by_cases hcn':c'=m.next
   ·rw[hcn,hcn']
   ·have hx:x=e2:=by subst hcn;simpa[Emb.up] using hc.symm
    rw[hblk c' hcb' hcn'] at hl'
    exact absurd (by rw[←hxx,hx,heb]) (hne c' x' (hup c' x' hc' hcn') hl' hcb')
  ·rw[hblk c hcb hcn] at ho
   have hjc:=hup c x hc hcn
   by_cases hcn':c'=m.next
   ·have hx:x'=e2:=by subst hcn';simpa[Emb.up] using hc'.symm
    have hlv:(m.blk c).live=true:=by cases hm:m.blk c<;>simp[hm,Blk.isOwn,Blk.live] at*
    exact absurd (by rw[hxx,hx,heb]) (hne c x hjc hlv hcb)
   ·rw[hblk c' hcb' hcn'] at hl'
    exact h.inj c c' x x' hjc (hup c' x' hc' hcn') ho hl' hxx
 ·intro c hc hn'
  exact qe7 (Ne.symm (hn' b e hj hobn))
 ·intro c hc
  simp[Emb.up,show c≠m.next by omega]
 ·intro c x hc hge
  by_cases hcn:c=m.next
  ·have hx:x=e2:=by subst hcn;simpa[Emb.up] using hc.symm
   exact .inr ⟨b,e,hj,hobn,by rw[hx,heb]⟩
  ·exact absurd (h.lt c x (hup c x hc hcn)).1 (Nat.not_lt.2 hge)
 ·intro c hc ho
  by_cases hcb:c=b
  ·subst hcb;exact hobn
  ·rw[hblk c hcb (by omega)] at ho;exact ho
end Go.AM
end
section
set_option linter.unusedSimpArgs false
set_option linter.unusedVariables false
namespace Go.AM
structure NewOk (P:Program) (j:Emb) (w w':World) (X:Blk) (e:Emb1) (ob:Obj):Prop where
 heap:w'.heap=w.heap.push ob
 os:w'.os=w.os
 tape:w'.tape=w.tape
 output:w'.output=w.output
 blk:e.blk=w.heap.size
 obj:ObjR P j e (some ob) X
 own:X.isOwn=true
theorem NewOk.cells {P:Program} {j:Emb} {w w':World} {L:List Value} {t:TypeId} {e:Emb1} {cs:Array Value} {fz:Nat×Nat} (h1:w'.heap=w.heap.push (.cells cs t fz)) (h2:w'.os=w.os) (h3:w'.tape=w.tape) (h4:w'.output=w.output) (h5:e.blk=w.heap.size)
  (h6:∀i:Nat,i<cs.size→¬(fz.1≤i∧i<fz.2)) (h7:P.cellsOf t=e.es) (h8:cs.size=e.cap*e.es) (h9:L.length≤cs.size) (h10:∀(i:Nat) (v:Value),L[i]? =some v→∃cv,cs[i]? =some cv∧VR0 j v cv) (h11:e.sh=0:=by rfl):NewOk P j w w' (.own L t) e (.cells cs t fz):=
 ⟨h1,h2,h3,h4,h5,⟨cs,fz,rfl,h6,h7,by rw[h11,h8];omega,by rw[←h8];exact h9,fun i v hi=>by rw[h11,Nat.zero_add];exact h10 i v hi⟩,rfl⟩
theorem L2.vals {R:Value→Value→Prop} {L:List Value} {cs:Array Value} (h:L2 R L cs.toList):L.length=cs.size∧∀(i:Nat) (v:Value),L[i]? =some v→∃cv,cs[i]? =some cv∧R v cv:=
 ⟨by simpa using h.length,fun i v hi=>by obtain ⟨b,hb,hr⟩:=h.get i v hi;exact ⟨b,by simpa using hb,hr⟩⟩
theorem qmt {n:Nat}:∀i:Nat,i<n→¬(((0,0):Nat×Nat).1≤i∧i<((0,0):Nat×Nat).2):=fun i _ h=>absurd h.2 (Nat.not_lt_zero i)
theorem qbc {P:Program} {t:TypeId} {i:TypeInfo} (h:P.info? t=some i):P.cellsOf t=i.size:=by simp[Program.cellsOf,h]
theorem qig:Array.range 0=#[]:=by apply Array.ext';simp
theorem qgO (z:Array Value) (l:Nat):((Array.range (l*z.size)).map (fun k=>z[k%z.size]!)).toList=(List.replicate l z.toList).flatten:=by
 induction l with
 |zero=>simp
 |succ l ih=>
  have e:Array.range ((l+1)*z.size)=Array.range (l*z.size)++((Array.range z.size).map (l*z.size+·)):=by
   rw[Nat.add_mul,Nat.one_mul,Array.range_add]
  rw[e,Array.map_append,Array.toList_append,ih,List.replicate_succ',List.flatten_append]
  congr 1
  simp only[List.flatten_cons,List.flatten_nil,List.append_nil,Array.map_map]
  apply List.ext_getElem?
  intro i
  simp only[Array.toList_map,List.getElem?_map,Array.toList_range,List.getElem?_range]
  by_cases hi:i<z.size
  ·simp[hi,Nat.mod_eq_of_lt hi,Nat.mul_add_mod_self_right]
  ·simp[hi]
theorem qel {j:Emb} {L:List Value} (h:L.all qah=true):L2 (VR0 j) L L:=L2.self (fun _=>qaD) h
theorem qb2 {z:List Value} (h:z.all qah=true) (l:Nat):(List.replicate l z).flatten.all qah=true:=by
 simp only[List.all_eq_true] at h⊢
 intro x hx
 simp only[List.mem_flatten,List.mem_replicate] at hx
 obtain ⟨l',⟨_,rfl⟩,hx⟩:=hx
 exact h x hx
theorem qmq {P:Program} {j:Emb} {ρ cρ:Operand→Value} {o:Oper} {n:Nat} {X:Blk} {v:Value} (h:NewR P ρ o n X v) (hO:OpsR j ρ cρ o) (w:World):
  ∃cv w' e ob,(execOp cρ o).run P w= .ok (.value cv) w'∧NewOk P j w w' X e ob∧∀j':Emb,j' n=some e→VR j' v cv:=by
 cases h with
 |alloc t i z h hi hz hzf hs=>
  have hl2:=(qel (j:=j) hzf).vals
  refine ⟨.pointer (some ⟨w.heap.size,0,none⟩),w.alloc (.cells z.cells t),⟨w.heap.size,1,i.size,0⟩,_, ?_,
   .cells rfl rfl rfl rfl rfl qmt (qbc hi) (by simp[hs]) (by simp) hl2.2,fun j' hj=>⟨_,rfl,hj,rfl⟩⟩
  simp[execOp,h,Instr.alloc,qbI hi hz,newVar,newRow]
 |box t x i h hi hv hs=>
  have hX:=VR.storable (hO x (by simp[h,Op.operands])) hv
  have hl2:=hX.cells.vals
  refine ⟨.pointer (some ⟨w.heap.size,0,none⟩),w.alloc (.cells (cρ x).cells t),⟨w.heap.size,1,i.size,0⟩,_, ?_,
   .cells rfl rfl rfl rfl rfl qmt (qbc hi) ?_ ?_ hl2.2,fun j' hj=>⟨_,rfl,hj,rfl⟩⟩
  ·simp[execOp,h,Instr.box,newVar,newRow]
  ·have:=hl2.1;simp at this;simp;omega
  ·exact Nat.le_of_eq hl2.1
 |buildSlice t l ps e i z cs h ht hi hz hzf hzs h24 hl63 hc=>
  have h2:=OpsR.map2 (j:=j) (ρ:=ρ) (cρ:=cρ) (o:=o) ps.toList (fun p hp=>hO p.2 (by
   simp only[h,Op.operands];simp only[List.mem_toArray,List.mem_map];exact ⟨p,hp,rfl⟩))
  have hbase:L2 (VR0 j) (List.replicate l z.cells.toList).flatten ((Array.range (l*i.size)).map (fun k=>z.cells[k%z.cells.size]!)).toList:=by
   rw[←hzs,qgO]
   exact qel (qb2 hzf l)
  obtain ⟨ds,hds,hr⟩:=qbZ (j:=j) _ _ _ _ cs h2 hbase hc
  have hl2:=hr.vals
  have hlen:cs.length=l*i.size:=by
   have:∀(ps:List (Nat×Value)) (L cs:List Value) (pl:Nat→Option (Nat×Nat)),qbA pl L ps=some cs→cs.length=L.length:=by
    intro ps
    induction ps with
    |nil=>intro L cs pl hh;simp only[qbA,Option.some.injEq] at hh;rw[hh]
    |cons p ps ih=>
     intro L cs pl hh
     obtain ⟨a,b⟩:=p
     simp only[qbA] at hh
     cases hp:pl a with
     |none=>simp[hp] at hh
     |some q=>
      simp only[hp] at hh
      split at hh
      ·rw[ih _ _ _ hh,qax]
      ·cases hh
   rw[this _ _ _ _ hc]
   have hb:=hbase.length
   simpa using hb
  have hpp:(ps.map fun (i,x)=>(i,cρ x)).toList=ps.toList.map fun p=>(p.1,cρ p.2):=by simp
  refine ⟨.slice (some ⟨w.heap.size,0,none⟩) l l,w.alloc (.cells ds e),⟨w.heap.size,l,i.size,0⟩,_, ?_,
   .cells rfl rfl rfl rfl rfl qmt (qbc hi) (by rw[←hl2.1,hlen]) (Nat.le_of_eq hl2.1) hl2.2,fun j' hj=>⟨_,rfl,hj, .inl ⟨hl63,rfl⟩⟩⟩
  by_cases hz0:l*i.size=0
  ·have hdd:Instr.fill (fun k=>some (k*i.size,i.size)) ((Array.range 0).map (fun k=>(#[]:Array Value)[k%0]!)) (ps.toList.map fun p=>(p.1,cρ p.2))=some ds:=by
    rw[hz0,qig] at hds;rw[qig];simpa using hds
   simp only[execOp,h,Instr.buildSlice,Sem.run_bind,qas ht,Result.andThen_ok,qaI hi]
   simp only[hz0]
   simp[qig] at hdd
   simp[hdd,hpp,newRow,qig]
  ·simp only[execOp,h,Instr.buildSlice,Sem.run_bind,qas ht,Result.andThen_ok,qaI hi]
   rw[if_neg (by omega)]
   simp only[hz0,if_false,Sem.run_bind,qbI hi hz,Result.andThen_ok,Sem.run_pure,hpp,hds]
   simp[newRow]
 |makeSlice t x y l c k k' e i z h ht hi hz hzf hzs hx hy hlc hb hc=>
  have hX:=hO x (by simp[h,Op.operands])
  rw[hx] at hX
  have hcx:=hX.int
  have hY:=hO y (by simp[h,Op.operands])
  rw[hy] at hY
  have hcy:=hY.int
  have hl2:=(qel (j:=j) (qb2 hzf c)).length
  have hwl:IntKind.i64.wrap (l:Int)=(l:Int):=IntWalk.i64_in _ (by omega)
  have hwc:IntKind.i64.wrap (c:Int)=(c:Int):=IntWalk.i64_in _ (by omega)
  have hbi:(i.bytes:Int)*(c:Int)≤140737488355328:=by
   have:((i.bytes*c:Nat):Int)≤140737488355328:=by omega
   rwa [Int.natCast_mul] at this
  refine ⟨.slice (some ⟨w.heap.size,0,none⟩) l c,w.alloc (.cells ((Array.range (c*i.size)).map (fun k=>z.cells[k%z.cells.size]!)) e),⟨w.heap.size,c,i.size,0⟩,_, ?_,
   .cells rfl rfl rfl rfl rfl qmt (qbc hi) (by simp) ?_ ?_,fun j' hj=>⟨_,rfl,hj, .inl ⟨hc,rfl⟩⟩⟩
  ·have htl:∀q:Int,0≤q→q≤c→(decide (q<0)||decide ((i.bytes:Int)*q>2 ^ 48))=false:=by
    intro q h0 h1
    have:(i.bytes:Int)*q≤(i.bytes:Int)*c:=Int.mul_le_mul_of_nonneg_left h1 (by omega)
    simp
    omega
   have hs:(Instr.makeSlice t (.int k l) (.int k' c)).run P w= .ok (.slice (some ⟨w.heap.size,0,none⟩) l c) (w.alloc (.cells ((Array.range (c*i.size)).map (fun k=>z.cells[k%z.cells.size]!)) e)):=by
    simp only[Instr.makeSlice,Sem.run_bind,qas ht,Result.andThen_ok,asInt,asIntOf,Sem.run_pure,qec hi,hwl,hwc]
    rw[htl c (by omega) (by omega)]
    have h1:¬((l:Int)<0):=by omega
    have h2:¬((l:Int)>(c:Int)):=by omega
    simp only[h1,h2,decide_false,Bool.or_self,Bool.false_eq_true,if_false,Sem.run_bind,run_askRoom,Result.andThen_ok,Int.toNat_natCast,qaI hi,Sem.run_pure]
    by_cases hz0:c*i.size=0
    ·simp[hz0,newRow,qig]
    ·simp[hz0,qbI hi hz,newRow]
   simp[execOp,h,hcx,hcy,hs]
  ·simp[hzs]
  ·intro a v ha
   refine ⟨v, ?_, ?_⟩
   ·have:=qgO z.cells c
    rw[hzs] at this
    rw[←Array.getElem?_toList,hzs,this]
    exact ha
   ·have:=qb2 hzf c
    simp only[List.all_eq_true] at this
    exact qaD (this v (List.mem_of_getElem? ha))
 |bytes s t x e i b h hs ht he hi hi1 hx hb=>
  have hX:=hO x (by simp[h,Op.operands])
  rw[hx] at hX
  have hcx:=hX.str
  let cap:=(Question.appendCap b.size 0 e).cut (w.tape w.drawn (.appendCap b.size 0 e))
  have hcap:b.size≤cap∧cap<BIG:=by
   have hlt:=Nat.mod_lt (w.tape w.drawn (.appendCap b.size 0 e)) (show 0<2 ^ 63 - b.size by omega)
   simp only[cap,Question.cut,BIG]
   omega
  let row:Array Value:=b.data.map (fun u=> .int .u8 u.toNat)++Array.replicate (cap - b.size) (.int .u8 0)
  have hrow:row.size=cap:=by simp[row];have:b.data.size=b.size:=rfl;omega
  refine ⟨.slice (some ⟨w.heap.size,0,none⟩) b.size cap,(w.drew.alloc (.cells row e)).freeze {block:=w.heap.size,off:=cap} 1,⟨w.heap.size,cap,1,0⟩,Obj.cells row e (cap,cap+1), ?_,
   .cells ?_ ?_ ?_ ?_ rfl ?_ (by rw[qbc hi,hi1]) (by simp[hrow]) ?_ ?_,fun j' hj=>⟨_,rfl,hj, .inr (.inl ⟨rfl,Nat.one_pos, ?_,hcap.2, ?_, ?_, ?_⟩)⟩⟩
  ·have hsb:(Conv.stringToBytes e b).run P w= .ok (.slice (some ⟨w.heap.size,0,none⟩) b.size cap) ((w.drew.alloc (.cells row e)).freeze {block:=w.heap.size,off:=cap} 1):=by
    simp only[Conv.stringToBytes,Sem.run_bind,run_choose,Question.forced,Bool.false_eq_true,if_false,Result.andThen_ok,newRow,run_newObj,Sem.run_pure,markStringish,run_shape]
    have hsh0:(w.drew.alloc (.cells row e)).heap[w.heap.size]? =some (.cells row e):=by
     show (w.heap.push (Obj.cells row e))[w.heap.size]? =_
     simp
    have hsh:((w.drew.alloc (.cells row e)).shape? w.heap.size)=some (e,row.size):=by simp only[World.shape?,hsh0]
    show (Result.andThen (Sem.run P (match (w.drew.alloc (.cells row e)).shape? w.heap.size with|some (_,n)=>freeze {block:=w.heap.size,off:=n} 1|_=>pure ()) (w.drew.alloc (.cells row e))) _)=_
    rw[hsh]
    simp[hrow]
    rfl
   simp[execOp,h,convert,qas hs,qas ht,hcx,qas he,hsb]
  ·simp only[World.freeze,Nat.one_ne_zero,if_false,World.alloc,World.drew]
   apply Array.ext_getElem?
   intro k
   simp only[Array.getElem?_modify,Array.getElem?_push]
   by_cases hk:w.heap.size=k
   ·subst hk;simp
   ·simp[hk,Ne.symm hk]
  ·unfold World.freeze;rw[if_neg (by decide)];rfl
  ·unfold World.freeze;rw[if_neg (by decide)];rfl
  ·unfold World.freeze;rw[if_neg (by decide)];rfl
  ·intro k hk hh;simp only at hh;omega
  ·simp[hrow];have:b.data.size=b.size:=rfl;omega
  ·intro a v ha
   refine ⟨v, ?_, ?_⟩
   ·simp only[row]
    have hlt:a<b.data.size:=by
     have:=(List.getElem?_eq_some_iff.1 ha).1
     simpa using this
    rw[Array.getElem?_append_left (by simpa using hlt)]
    simp only[List.getElem?_map,Array.getElem?_toList] at ha
    simpa using ha
   ·simp only[List.getElem?_map] at ha
    cases hq:b.data.toList[a]? with
    |none=>simp[hq] at ha
    |some u=>simp[hq] at ha;subst ha;rfl
  ·simp;omega
  ·simp
  ·simp
  ·simp
 |makeMap t kt vt h ht=>
  refine ⟨.map (some w.heap.size),w.alloc (.map #[] 0),⟨w.heap.size,0,0,0⟩,_, ?_,⟨rfl,rfl,rfl,rfl,rfl,⟨kt,vt,#[],0,[],rfl,ht,⟨rfl,fun p hp=>by simp at hp⟩,True.intro,⟨by simp,fun x hx=>by simp at hx⟩⟩,rfl⟩,fun j' hj=>⟨_,hj,rfl⟩⟩
  simp[execOp,h,Instr.makeMap]
theorem qmr {P:Program} {j:Emb} {ρ cρ:Operand→Value} {o:Oper} {m:Mem} {w:World} {X:Blk} {v:Value} (h:NewR P ρ o m.next X v) (hO:OpsR j ρ cρ o) (hR:Rel P j m w):
  ∃cv w' j',(execOp cρ o).run P w= .ok (.value cv) w'∧Post P j m w j' (m.push X) w'∧VR j' v cv:=by
 obtain ⟨cv,w',e,ob,hr,hn,hv⟩:=qmq h hO w
 exact ⟨cv,w',j.up m.next e,hr,hR.push hn.heap hn.os hn.tape hn.output hn.blk hn.obj,hv _ (by simp[Emb.up])⟩
end Go.AM
end
section
set_option linter.unusedSimpArgs false
set_option linter.unusedVariables false
namespace Go.AM
theorem qcI {w:World} {c:Nat} {cs:Array Value} {t:TypeId} {fz:Nat×Nat} (h:w.heap[c]? =some (.cells cs t fz)):qbC w c cs t fz=w:=by
 have:w.heap.setIfInBounds c (.cells cs t fz)=w.heap:=by
  apply Array.ext_getElem?
  intro k
  by_cases hk:k=c
  ·subst hk
   have hlt:=(Array.getElem?_eq_some_iff.1 h).1
   rw[Array.getElem?_setIfInBounds_self_of_lt hlt,h]
  ·rw[Array.getElem?_setIfInBounds_ne (by omega)]
 simp only[qbC,this]
theorem qje {w:World} {c:Nat} {cs cs':Array Value} {t:TypeId} {fz:Nat×Nat}:qbC (qbC w c cs t fz) c cs' t fz=qbC w c cs' t fz:=by
 simp[qbC]
theorem qgT {w:World} {c o:Nat} {cs:Array Value} {t:TypeId} {fz:Nat×Nat} {v:Value} (h:w.heap[c]? =some (.cells cs t fz)):w.setCell ⟨c,o,none⟩ v=qbC w c (cs.setIfInBounds o v) t fz:=by
 have:(w.setCell ⟨c,o,none⟩ v).heap=(qbC w c (cs.setIfInBounds o v) t fz).heap:=by
  simp only[World.setCell,qbC]
  apply Array.ext_getElem?
  intro k
  rw[Array.getElem?_modify]
  by_cases hk:c=k
  ·subst hk
   have hlt:=(Array.getElem?_eq_some_iff.1 h).1
   rw[if_pos rfl,h,Array.getElem?_setIfInBounds_self_of_lt hlt]
   simp
  ·rw[if_neg hk,Array.getElem?_setIfInBounds_ne hk]
 simp only[World.setCell] at this
 simp only[World.setCell,qbC,this] at*
theorem qbP {P:Program} (c o:Nat) (t:TypeId) (fz:Nat×Nat):∀(vs:List Value) (i:Nat) (cs:Array Value) (w:World),w.heap[c]? =some (.cells cs t fz)→(∀k:Nat,k<cs.size→¬(fz.1≤k∧k<fz.2))→
  o+i+vs.length≤cs.size→(∀v∈vs,v.oneCell'=true)→(storeCells ⟨c,o,none⟩ vs i).run P w= .ok () (qbC w c (setN cs.toList (o+i) vs).toArray t fz)
 |[],i,cs,w,h,hf,hl,h1=>by
  simp only[storeCells,setN,Array.toArray_toList,qcI h]
  rfl
 |v::vs,i,cs,w,h,hf,hl,h1=>by
  simp only[List.length_cons] at hl
  have hlt:=(Array.getElem?_eq_some_iff.1 h).1
  have hc:w.cell? ⟨c,o+i,none⟩=some cs[o+i]:=by simp[World.cell?,h]
  have hfr:w.frozen? ⟨c,o+i,none⟩=false:=by
   have:=hf (o+i) (by omega)
   simp only[World.frozen?,h]
   simp only[Bool.and_eq_false_iff,decide_eq_false_iff_not]
   by_cases hh:fz.1≤o+i
   ·exact .inr (fun h2=>this ⟨hh,h2⟩)
   ·exact .inl hh
  have ih:=qbP (P:=P) c o t fz vs (i+1) (cs.setIfInBounds (o+i) v) (qbC w c (cs.setIfInBounds (o+i) v) t fz) (qdV hlt) (by simpa using hf) (by simp;omega) (fun x hx=>h1 x (by simp[hx]))
  simp only[storeCells,Sem.run_bind,qaY,run_store P w ⟨c,o+i,none⟩ v _ (h1 v (by simp)),hc,hfr,Bool.false_eq_true,if_false,Result.andThen_ok,qgT h]
  rw[ih,qje]
  simp[setN,Nat.add_assoc]
theorem L2.one {j:Emb}:∀{L K:List Value},L2 (VR0 j) L K→∀v∈K,v.oneCell'=true
 |[],[],_,v,hv=>by simp at hv
 |a::L,b::K,⟨h1,h2⟩,v,hv=>by
  rcases List.mem_cons.1 hv with rfl|hv
  ·exact h1.one
  ·exact L2.one h2 v hv
 |[],_::_,h,_,_=>h.elim
 |_::_,[],h,_,_=>h.elim
theorem qcX {P:Program} {j:Emb} {m:Mem} {w:World} (hR:RdOk P j m w) {sz:Nat} {y cy:Value} {new:List Value} (hv:VR j y cy) (h:elems m sz y=some new):
  (Builtin.lenOf cy).run P w= .ok (lenV y) w∧∃ds:List Value,L2 (VR0 j) new ds∧(new.length=lenV y*sz→∀k,k≤lenV y→∀w':World,w'.heap=w.heap→(Builtin.firstCells sz k cy).run P w'= .ok (ds.take (k*sz)).toArray w'):=by
 cases y with
 |slice a l c=>
  cases a with
  |none=>
   have hcy:=hv.sliceNil
   subst hcy
   simp only[elems,Option.some.injEq] at h
   subst h
   refine ⟨by simp[Builtin.lenOf,lenV],[],True.intro,fun hn k hk w' hw=> ?_⟩
   simp[Builtin.firstCells]
  |some a=>
   obtain ⟨b,off,spot⟩:=a
   obtain ⟨q,hs,hj,hc⟩:=hv.slice
   simp only at hs hj
   subst hs
   simp only[elems] at h
   obtain ⟨ds,hl,hn,hdd⟩:=qcr hR hj _ _ _ h
   have key:∀(a':Addr) (cc:Nat),cy= .slice (some a') l cc→(a'=⟨q.blk,q.sh+off,none⟩∨l=0)→(Builtin.lenOf cy).run P w= .ok (lenV (.slice (some ⟨b,off,none⟩) l c)) w∧
     ∃ds:List Value,L2 (VR0 j) new ds∧(new.length=lenV (.slice (some ⟨b,off,none⟩) l c)*sz→∀k,k≤lenV (.slice (some ⟨b,off,none⟩) l c)→∀w':World,w'.heap=w.heap→(Builtin.firstCells sz k cy).run P w'= .ok (ds.take (k*sz)).toArray w'):=by
    intro a' cc hcy ho
    subst hcy
    refine ⟨by simp[Builtin.lenOf,lenV],ds,hl,fun hnn k hk w' hw=> ?_⟩
    simp only[lenV] at hk
    simp only[Builtin.firstCells]
    have hlen:(ds.take (k*sz)).length=k*sz:=by
     rw[List.length_take,hn]
     exact Nat.min_eq_left (Nat.mul_le_mul_right _ hk)
    rcases ho with rfl|ho
    ·exact qbO hlen (fun i u hu=>by
      rw[List.getElem?_take] at hu
      split at hu
      ·have:=hdd i u hu
       rw[←this];simp only[World.cell?,hw]
      ·cases hu)
    ·subst ho
     have hk0:k=0:=by omega
     subst hk0
     simp only[Nat.zero_mul,List.take_zero]
     exact qfN
   rcases hc with ⟨_,hc⟩|⟨_,_,_,_,_,_,hc⟩|⟨_,hl0,o',hc⟩|⟨_,hl0,a',hc⟩
   ·exact key _ _ hc (.inl rfl)
   ·exact key _ _ hc (.inl rfl)
   ·exact key _ 0 (by rw[hc,hl0]) (.inr hl0)
   ·exact key a' 0 (by rw[hc,hl0]) (.inr hl0)
 |string s=>
  have hcy:=hv.str
  subst hcy
  simp only[elems] at h
  split at h
  ·rename_i hsz
   subst hsz
   simp only[Option.some.injEq] at h
   subst h
   refine ⟨by simp[Builtin.lenOf,lenV],s.data.toList.map fun u=> .int .u8 u.toNat,qel (by simp only[List.all_map,List.all_eq_true,Function.comp];intro u _;rfl),fun hn k hk w' hw=> ?_⟩
   simp only[Builtin.firstCells,Sem.run_pure,Nat.mul_one,lenV] at hk⊢
   congr 1
   apply Array.ext'
   simp only[ByteArray.data_extract,Array.toList_map,Array.toList_extract,List.extract_eq_drop_take',List.drop_zero,List.map_take]
  ·cases h
 |_=>simp[elems] at h
inductive AddC (P:Program) (w:World) (u:TypeId) (i:TypeInfo) (cy:Value) (n:Nat) (dn:List Value):Prop where
 |el (hu:(∃e',P.underlying u=some (.slice e'))∨P.underlying u=some .string) (hl:∀w',(Builtin.lenOf cy).run P w'= .ok n w') (hf:∀w',w'.heap=w.heap→(Builtin.firstCells i.size n cy).run P w'= .ok dn.toArray w')
 |mk (kk k:IntKind) (z:Value) (hu:P.underlying u=some (.int kk)) (hv:cy= .int k n) (hz:i.zero=some z) (hsz:0<i.size) (hb:n*i.bytes≤140737488355328) (hm:n<9223372036854775807) (hdn:dn.toArray=Builtin.zeroCells z.cells n)
theorem zc0 (z:Array Value):Builtin.zeroCells z 0=#[]:=by simp[Builtin.zeroCells]
theorem qa5 {P:Program} {t u ty e:TypeId} {i:TypeInfo} {base:Option Addr} {l c n:Nat} {cy:Value} {w:World} {dn:List Value} (ht:P.underlying t=some (.slice e)) (hi:P.info? e=some i)
  (hA:AddC P w u i cy n dn) (hc:l+n≤c):
  (Builtin.append_ #[t,u] ty #[.slice base l c,cy]).run P w=
   match base with
   |some a=>((storeCells (a.add (l*i.size)) dn).run P w).andThen fun _ w=> .ok (.slice base (l+n) c) w
   |none=> .ok (.slice base (l+n) c) w:=by
 cases hA with
 |el hu hn hf=>
  have hn:=hn w
  have hf:=hf w rfl
  rcases hu with ⟨e',hd⟩|hd<;>cases base<;>simp[Builtin.append_,qas ht,qas hd,qaI hi,hn,hc,hf]
 |mk kk k z hu hv hz hsz hb hm hdn=>
  subst hv
  have h0:IntKind.wrap .i64 (n:Int)=n:=by rw[IntKind.wrap_i64];omega
  have h4:¬((n:Int)<0):=by omega
  have h5:¬((281474976710656:Int)<(n:Int)*(i.bytes:Int)):=by
   have:(n:Int)*(i.bytes:Int)=((n*i.bytes:Nat):Int):=by simp
   rw[this];omega
  have h8:¬i.size=0:=by omega
  have hd':dn=(Builtin.zeroCells z.cells n).toList:=by rw[←hdn]
  subst hd'
  by_cases h7:n=0
  ·subst h7
   cases base<;>simp[Builtin.append_,qas ht,qas hu,qaI hi,qec hi,qbI hi hz,hc,asInt,asIntOf,zc0,show IntKind.wrap .i64 (0:Int)=0 from rfl]<;>omega
  ·have h9:¬n*i.size=0:=by rw[Nat.mul_eq_zero];omega
   cases base<;>simp[Builtin.append_,qas ht,qas hu,qaI hi,qec hi,qbI hi hz,h0,h4,h5,h7,h8,h9,hc,asInt,asIntOf]
theorem qfj {P:Program} {t u ty e:TypeId} {i:TypeInfo} {z:Value} {base:Option Addr} {l c n:Nat} {cy:Value} {w:World} {old:Array Value} {dn:List Value} (ht:P.underlying t=some (.slice e)) (hi:P.info? e=some i) (hz:i.zero=some z)
  (hA:AddC P w u i cy n dn) (hc:c<l+n) (hm:l+n<9223372036854775807) (hb:(l+n)*i.bytes≤140737488355328)
  (ho:∀w',w'.heap=w.heap→(Builtin.firstCells i.size l (.slice base l c)).run P w'= .ok old w'):
  (Builtin.append_ #[t,u] ty #[.slice base l c,cy]).run P w=
   .ok (.slice (some ⟨w.heap.size,0,none⟩) (l+n) (grownCap w (l+n) c e)) (w.drew.alloc (.cells (old++dn.toArray++Builtin.zeroCells z.cells (grownCap w (l+n) c e - (l+n))) e)):=by
 have h1:¬(l+n≤c):=by omega
 have h2:¬(9223372036854775807<((l:Int)+(n:Int))):=by omega
 have hfit:=growslice_fits hc hb
 have h3:¬(281474976710656<Builtin.nextslicecap (l+n) c*i.bytes):=by omega
 have ho':=ho w.drew rfl
 cases hA with
 |el hu hn hf=>
  have hf':=hf w.drew rfl
  rcases hu with ⟨e',hd⟩|hd<;>simp[Builtin.append_,qas ht,qas hd,qaI hi,qec hi,qbI hi hz,hn,h1,h2,h3,Question.forced,ho',hf',newRow,grownCap]
 |mk kk k z' hu hv hz' hsz hb' hm' hdn=>
  rw[hz] at hz'
  cases hz'
  subst hv
  have h0:IntKind.wrap .i64 (n:Int)=n:=by rw[IntKind.wrap_i64];omega
  have h4:¬((n:Int)<0):=by omega
  have h5:¬((281474976710656:Int)<(n:Int)*(i.bytes:Int)):=by
   have:(n:Int)*(i.bytes:Int)=((n*i.bytes:Nat):Int):=by simp
   rw[this];omega
  have h8:¬i.size=0:=by omega
  rw[hdn]
  by_cases h7:n=0
  ·subst h7
   simp only[Nat.add_zero] at h1 h3
   have h2':¬(9223372036854775807<(l:Int)):=by omega
   simp[Builtin.append_,qas ht,qas hu,qaI hi,qec hi,qbI hi hz,h1,h2',h3,Question.forced,ho',newRow,grownCap,asInt,asIntOf,zc0,show IntKind.wrap .i64 (0:Int)=0 from rfl]
  ·have h9:¬n*i.size=0:=by rw[Nat.mul_eq_zero];omega
   simp[Builtin.append_,qas ht,qas hu,qaI hi,qec hi,qbI hi hz,h0,h1,h2,h3,h4,h5,h7,h8,h9,Question.forced,ho',newRow,grownCap,asInt,asIntOf]
end Go.AM
end
section
set_option linter.unusedSimpArgs false
set_option linter.unusedVariables false
namespace Go.AM
theorem qgU {j:Emb} {L new:List Value} {cs:Array Value} {ds:List Value} {o sh:Nat} (h:∀(i:Nat) (v:Value),L[i]? =some v→∃cv,cs[sh+i]? =some cv∧VR0 j v cv) (hd:L2 (VR0 j) new ds) (hl:o+new.length≤L.length) (hL:sh+L.length≤cs.size):
  ∀(i:Nat) (v:Value),(setN L o new)[i]? =some v→∃cv,(setN cs.toList (sh+o) ds).toArray[sh+i]? =some cv∧VR0 j v cv:=by
 intro i v hi
 have hlen:=hd.length
 rw[qaR _ _ _ _ hl] at hi
 simp only[List.getElem?_toArray]
 rw[qaR _ _ _ _ (by simp;omega)]
 rw[←hlen]
 split at hi
 ·rename_i hin
  rw[if_pos (by omega),show sh+i - (sh+o)=i - o by omega]
  exact hd.get _ _ hi
 ·rename_i hin
  rw[if_neg (by omega)]
  simpa using h i v hi
theorem qdB (cs:Array Value) (o:Nat) (ds:List Value):(setN cs.toList o ds).toArray.size=cs.size:=by simp[qax]
theorem qa9 {P:Program} {cρ:Operand→Value} {o:Oper} {x y:Operand} {t u:TypeId} (h:o.op= .call {callee:= .builtin .append,args:=#[x,y],argTypes:=#[t,u]}) {w w':World} {v:Value}
  (hr:(Builtin.append_ #[t,u] o.type #[cρ x,cρ y]).run P w= .ok v w'):(execOp cρ o).run P w= .ok (.value v) w':=by
 simp[execOp,h,resolve,invoke,builtin,hr]
def qhx (P:Program) (j:Emb) (m:Mem) (w:World) (cρ:Operand→Value) (o:Oper) (v:Value) (m':Mem):Prop:=
 ∃n cv w' j',(execOp cρ o).run P w= .ok n w'∧(n= .value cv∨(n= .skip∧cv=undef))∧Post P j m w j' m' w'∧VR j' v cv
theorem qjm {P:Program} {j:Emb} {ρ cρ:Operand→Value} {o:Oper} {m:Mem} {w:World} {t:TypeId} {x y:Operand} {b off:Nat} {i:TypeInfo} {L:List Value} {e:TypeId} (h:o.op= .store t x y) (hx:ρ x= .pointer (some ⟨b,off,none⟩)) (hi:P.info? t=some i) (hm:m.blk b= .own L e)
   (hv:storable (ρ y)=true) (hs:(ρ y).cells.size=i.size) (hl:off+i.size≤L.length) (hO:OpsR j ρ cρ o) (hR:Rel P j m w):qhx P j m w cρ o undef (m.put b (.own (setN L off (ρ y).cells.toList) e)):=by
 have hX:=hO x (by simp[h,Op.operands])
 rw[hx] at hX
 obtain ⟨q,_,hj,hc⟩:=hX.ptr
 have hY:=VR.storable (hO y (by simp[h,Op.operands])) hv
 have hcell:=hY.cells
 obtain ⟨cs,fz,g1,g2,g3,g4,g5,g6⟩:=hR.own b q L e hj hm
 have hn:(cρ y).cells.size=i.size:=by have:=hcell.length;simp at this;omega
 have hst:=qbP (P:=P) q.blk (q.sh+off) e fz (cρ y).cells.toList 0 cs w g1 g2 (by simp;omega) (L2.one hcell)
 simp only[Nat.add_zero] at hst
 refine ⟨.skip,undef,_,j, ?_, .inr ⟨rfl,rfl⟩,hR.write hj hm g1 (qdB cs _ _) (by rw[qax];exact g5) (qgU g6 hcell (by simp;omega) (by omega)), ?_⟩
 ·simp[execOp,h,Instr.storeAt,hc,Instr.sureAddr,storeVar,qaI hi,hn,hst]
 ·exact ⟨#[],rfl,True.intro⟩
theorem qd5 {P:Program} {j:Emb} {m:Mem} {w:World} (hR:RdOk P j m w) {sz:Nat} {y cy:Value} {new:List Value} (hv:VR j y cy) (h:elems m sz y=some new) (hn:new.length=lenV y*sz):
  ∃ds:List Value,L2 (VR0 j) new ds∧∀w':World,w'.heap=w.heap→(Builtin.firstCells sz (lenV y) cy).run P w'= .ok ds.toArray w':=by
 obtain ⟨_,ds,hd,hf⟩:=qcX hR hv h
 refine ⟨ds,hd,fun w' hw=> ?_⟩
 rw[hf hn _ (Nat.le_refl _) w' hw,←hn,hd.length,List.take_length]
theorem qnG {P:Program} {j:Emb} {m:Mem} {w w':World} (h:Rel P j m w) (hw:w'.heap=w.heap):Rel P j m w':=
 ⟨fun b e hb=>by have:=h.lt b e hb;rw[hw];exact this,fun b e hb=>by rw[hw];exact h.obj b e hb,h.inj⟩
theorem qm5 {z:Value} (hzf:z.cells.toList.all qah=true) (n:Nat):∀v∈(List.replicate n z.cells.toList).flatten,qah v=true:=by
 have:=qb2 hzf n
 simpa only[List.all_eq_true] using this
theorem qc5 {P:Program} {j:Emb} {m:Mem} {w:World} (hR:RdOk P j m w) {u:TypeId} {i:TypeInfo} {y cy:Value} {n:Nat} {new:List Value} (hv:VR j y cy) (h:AddR P m u i y n new) (hn:new.length=n*i.size):
  ∃dn:List Value,L2 (VR0 j) new dn∧AddC P w u i cy n dn:=by
 cases h with
 |el hu hl he=>
  subst hl
  obtain ⟨hlen,_⟩:=qcX hR hv he
  obtain ⟨dn,hdn,hfn⟩:=qd5 hR hv he hn
  refine ⟨dn,hdn, .el hu (fun w'=> ?_) hfn⟩
  have:=hlen
  cases hcy:cy<;>simp[hcy,Builtin.lenOf] at this⊢<;>exact this
 |mk kk k z hu hy hz hzf hzs hsz hb hm hnew=>
  subst hnew
  have hcy:cy= .int k n:=by rw[hy] at hv;exact hv.int
  refine ⟨(List.replicate n z.cells.toList).flatten,L2.of_get rfl fun a v v' ha hb'=> ?_, .mk kk k z hu hcy hz hsz hb hm ?_⟩
  ·rw[ha] at hb'
   cases hb'
   exact qaD (qm5 hzf n v (List.mem_of_getElem? ha))
  ·have:=qgO z.cells n
   rw[←this]
   exact Array.toArray_toList
theorem qb9 {P:Program} {j:Emb} {cρ:Operand→Value} {o:Oper} {m m0:Mem} {w:World} {x y:Operand} {t u e:TypeId} {i:TypeInfo} {z:Value} {base:Option Addr} {l c n:Nat} {old new:List Value} {ds dn:List Value}
   (h:o.op= .call {callee:= .builtin .append,args:=#[x,y],argTypes:=#[t,u]})
   (ht:P.underlying t=some (.slice e)) (hi:P.info? e=some i) (hz:i.zero=some z) (hzs:z.cells.size=i.size) (hsz:0<i.size)
   (hx:cρ x= .slice base l c) (hA:AddC P w u i (cρ y) n dn) (hc:c<l+n)
   (hol:old.length=l*i.size) (hnl:new.length=n*i.size) (hd:L2 (VR0 j) old ds) (hdn:L2 (VR0 j) new dn)
   (hfo:∀w',w'.heap=w.heap→(Builtin.firstCells i.size l (.slice base l c)).run P w'= .ok ds.toArray w')
   (hb:(l+n)*i.bytes≤140737488355328) (hm:l+n<9223372036854775807) (hR:Rel P j m0 w) (hnext:m0.next=m.next):
  ∃cv w' j',(execOp cρ o).run P w= .ok (.value cv) w'∧Post P j m0 w j' (m0.push (.own (old++new) e)) w'∧VR j' (.slice (some ⟨m.next,0,none⟩) (l+n) BIG) cv:=by
 have hrun:=qfj (P:=P) (ty:=o.type) (base:=base) (z:=z) ht hi hz hA hc hm hb hfo
 let cap:=grownCap w (l+n) c e
 have hcap:l+n≤cap:=grownCap_ge w _ c e
 have hcapB:cap<BIG:=by
  have hlt:=Nat.mod_lt (w.tape w.drawn (.appendCap (l+n) c e)) (show 0<2 ^ 63 - (l+n) by omega)
  simp only[cap,grownCap,Question.cut,BIG]
  omega
 let row:=ds.toArray++dn.toArray++Builtin.zeroCells z.cells (cap - (l+n))
 have e1:=hd.length
 have e2:=hdn.length
 have hrow:row.size=cap*i.size:=by
  simp only[row,Array.size_append,List.size_toArray,size_zeroCells,hzs]
  rw[←e1,←e2,hol,hnl,←Nat.add_mul,←Nat.add_mul]
  congr 1;omega
 have hpost:=hR.push (w':=w.drew.alloc (.cells row e)) (X:= .own (old++new) e) (e:=⟨w.heap.size,cap,i.size,0⟩) (ob:= .cells row e) rfl rfl rfl rfl rfl ⟨row,(0,0),rfl,qmt,qbc hi,by rw[hrow,Nat.zero_add];exact Nat.le_refl _,
  (by rw[List.length_append,hol,hnl,←Nat.add_mul];exact Nat.mul_le_mul_right _ hcap),
  (fun k v hk=>by
   have hL2:=L2.append hd hdn
   obtain ⟨cv,hcv,hr⟩:=hL2.get k v hk
   refine ⟨cv, ?_,hr⟩
   rw[Nat.zero_add]
   have hlt:k<(ds++dn).length:=(List.getElem?_eq_some_iff.1 hcv).1
   simp only[row]
   rw[Array.getElem?_append_left (by simpa using hlt),←Array.getElem?_toList]
   simpa using hcv)⟩
 refine ⟨.slice (some ⟨w.heap.size,0,none⟩) (l+n) cap,_,_,qa9 h (by rw[hx];exact hrun),hpost,⟨⟨w.heap.size,cap,i.size,0⟩,rfl,by simp[Emb.up,hnext], .inr (.inl ⟨rfl,hsz, ?_,hcapB, ?_, ?_, ?_⟩)⟩⟩
 ·simpa using hcap
 ·simp
 ·simp
 ·simp
theorem qgY {cs:Array MapEntry} {clock:Nat} (h:qeC cs clock) (i:Nat) (f:MapEntry→MapEntry) (hf:∀e,(f e).born=e.born):qeC (cs.modify i f) clock:=by
 have hb:(cs.modify i f).toList.map (·.born)=cs.toList.map (·.born):=by
  rw[Array.toList_modify]
  refine List.ext_getElem? fun k=> ?_
  simp only[List.getElem?_map,List.getElem?_modify]
  cases hk:cs.toList[k]? with
  |none=>rfl
  |some e=>by_cases hik:i=k<;>simp[hik,hf]
 refine ⟨by rw[hb];exact h.1,fun x hx=> ?_⟩
 have hm:x.born∈(cs.modify i f).toList.map (·.born):=List.mem_map.2 ⟨x,hx,rfl⟩
 rw[hb] at hm
 obtain ⟨y,hy,he⟩:=List.mem_map.1 hm
 rw[←he];exact h.2 y hy
theorem qjl {cs:Array MapEntry} {clock:Nat} (h:qeC cs clock) (e:MapEntry) (he:e.born=clock):qeC (cs.push e) (clock+1):=by
 refine ⟨?_,fun x hx=> ?_⟩
 ·rw[Array.toList_push,List.map_append,List.nodup_append]
  refine ⟨h.1,by simp,fun a ha b hb=> ?_⟩
  obtain ⟨y,hy,rfl⟩:=List.mem_map.1 ha
  simp only[List.map_cons,List.map_nil,List.mem_singleton] at hb
  rw[hb,he]
  exact Nat.ne_of_lt (h.2 y hy)
 ·rw[Array.toList_push] at hx
  rcases List.mem_append.1 hx with hx|hx
  ·exact Nat.lt_succ_of_lt (h.2 x hx)
  ·simp only[List.mem_singleton] at hx
   rw[hx,he];exact Nat.lt_succ_self _
theorem Upd.find {P:Program} {j:Emb} {kt vt:TypeId} {kc vc:List Value} {E E':List (List Value×List Value)} {cv:Value} {clock:Nat} (h:Upd (qaj P kt) kc vc E E') (hf:kc.all qah=true) (hv:VR1 j (qal (qaj P vt) vc) cv):∀{es:List MapEntry} (n:Nat),L2 (EntW P j kt vt) E es→
  (∃i y,qbL (qal (qaj P kt) kc) es n=some (n+i,y.val)∧es[i]? =some y∧y.key=qal (qaj P kt) kc∧L2 (EntW P j kt vt) E' (es.modify i fun e=>{e with key:=qal (qaj P kt) kc,val:=cv}))∨
  (qbL (qal (qaj P kt) kc) es n=none∧L2 (EntW P j kt vt) E' (es++[{key:=qal (qaj P kt) kc,val:=cv,born:=clock}])):=by
 induction h with
 |miss=>
  intro es n hE
  cases es with
  |nil=>exact .inr ⟨rfl,⟨rfl,hf,hv⟩,True.intro⟩
  |cons _ _=>exact hE.elim
 |hit p E h=>
  intro es n hE
  cases es with
  |nil=>exact hE.elim
  |cons x es=>
   obtain ⟨⟨h1,h2,h3⟩,h4⟩:=hE
   refine .inl ⟨0,x,by rw[qbL,if_pos (h1.trans h)];rfl,rfl,h1.trans h, ?_⟩
   exact ⟨⟨h.symm,h2,hv⟩,h4⟩
 |next p E E' h hE2 ih=>
  intro es n hE
  cases es with
  |nil=>exact hE.elim
  |cons x es=>
   obtain ⟨⟨h1,h2,h3⟩,h4⟩:=hE
   have hne:¬x.key=qal (qaj P kt) kc:=fun hh=>h (h1.symm.trans hh)
   rcases ih (n+1) h4 with ⟨i,y,g1,g2,g3,g4⟩|⟨g1,g2⟩
   ·refine .inl ⟨i+1,y, ?_,by simpa using g2,g3, ?_⟩
    ·rw[qbL,if_neg hne,g1,show n+1+i=n+(i+1) by omega]
    ·exact ⟨⟨h1,h2,h3⟩,g4⟩
   ·refine .inr ⟨?_, ?_⟩
    ·rw[qbL,if_neg hne,g1]
    ·exact ⟨⟨h1,h2,h3⟩,g2⟩
theorem qlI {P:Program} {C:FuncId→Array Value→Mem→Value→Mem→Prop} {j:Emb} {ρ cρ:Operand→Value} {o:Oper} {m m':Mem} {w:World} {v:Value} (h:EffR P C ρ o m v m') (hO:OpsR j ρ cρ o) (hR:Rel P j m w):
  qhx P j m w cρ o v m'∨∃f args,callee o ρ f args∧C f args m v m':=by
 cases h with
 |store t x y b off i L e h hx hi hm hv hs hl=>exact .inl (qjm h hx hi hm hv hs hl hO hR)
 |call f args v m' h hC=>exact .inr ⟨f,args,h,hC⟩
 |appendNone x y t u e i a l c h ht hi hx hc hlc hy=>
  left
  have hX:=hO x (by simp[h,Op.operands,Call.operands])
  rw[hx] at hX
  have hY:=hO y (by simp[h,Op.operands,Call.operands])
  obtain ⟨ds,hd,hA⟩:=qc5 hR.rdOk hY hy (by simp)
  have hds:ds=[]:=by have:=hd.length;simpa using this.symm
  subst hds
  have hcx:∃a',cρ x= .slice a' l c∧VR j (.slice a l c) (.slice a' l c):=by
   cases a with
   |none=>exact ⟨none,hX.sliceNil,rfl⟩
   |some a=>
    obtain ⟨q,hs,hj,hcc⟩:=hX.slice
    rcases hcc with ⟨hlt,hcc⟩|⟨hcc,_⟩|⟨hcc,_⟩|⟨hc0,hl0,a',hcc⟩
    ·exact ⟨_,hcc,⟨q,hs,hj, .inl ⟨hlt,rfl⟩⟩⟩
    ·exact absurd hcc hc
    ·exact absurd hcc hc
    ·subst hc0;subst hl0;exact ⟨_,hcc,⟨q,hs,hj, .inr (.inr (.inr ⟨rfl,rfl,a',rfl⟩))⟩⟩
  obtain ⟨a',hcx,hvr⟩:=hcx
  refine ⟨.value (.slice a' l c), .slice a' l c,w,j,qa9 h ?_, .inl rfl,Post.refl hR,by rw[hx];exact hvr⟩
  rw[hcx,qa5 ht hi hA (by omega)]
  cases a'<;>simp[storeCells]
 |appendNew x y t u e i z a l c n old new h ht hi hz hzf hzs hsz hx hc ho hol hy hn hb hm=>
  left
  have hX:=hO x (by simp[h,Op.operands,Call.operands])
  have hY:=hO y (by simp[h,Op.operands,Call.operands])
  have hlx:lenV (ρ x)=l:=by rw[hx];rfl
  have hcx:∃a',cρ x= .slice a' l c:=by
   rw[hx] at hX
   cases a with
   |none=>exact ⟨none,hX.sliceNil⟩
   |some a=>
    obtain ⟨q,hs,hj,hcc⟩:=hX.slice
    rcases hcc with ⟨hlt,hcc⟩|⟨hcc,_⟩|⟨hcc,_⟩|⟨hc0,hl0,a',hcc⟩
    ·exact ⟨_,hcc⟩
    ·simp only[BIG] at hcc;omega
    ·simp only[BIG] at hcc;omega
    ·subst hc0;subst hl0;exact ⟨_,hcc⟩
  obtain ⟨a',hcx⟩:=hcx
  obtain ⟨ds,hd,hfo0⟩:=qd5 hR.rdOk hX ho (by rw[hol,hlx])
  obtain ⟨dn,hdn,hA⟩:=qc5 hR.rdOk hY hy hn
  have hfo:∀w':World,w'.heap=w.heap→(Builtin.firstCells i.size l (.slice a' l c)).run P w'= .ok ds.toArray w':=by
   rw[hcx,hlx] at hfo0;exact hfo0
  obtain ⟨cv,w',j',h1,h2,h3⟩:=qb9 (m:=m) h ht hi hz hzs hsz hcx hA hc hol hn hd hdn hfo hb hm hR rfl
  exact ⟨.value cv,cv,w',j',h1, .inl rfl,h2,h3⟩
 |appendIn x y t u e i b off l c n L new h ht hi hx hcb hc hm hy hn hl=>
  left
  have hX:=hO x (by simp[h,Op.operands,Call.operands])
  rw[hx] at hX
  have hY:=hO y (by simp[h,Op.operands,Call.operands])
  obtain ⟨dn,hdn,hA⟩:=qc5 hR.rdOk hY hy hn
  obtain ⟨q,_,hj,hcc⟩:=hX.slice
  rcases hcc with ⟨hlt,hcx⟩|⟨hcc,_⟩|⟨hcc,_⟩|⟨hc0,hl0,a',hcx⟩
  rotate_left 3
  ·
   subst hc0;subst hl0
   have hy0:n=0:=by omega
   have hn0:new=[]:=by rw[hy0,Nat.zero_mul] at hn;exact List.length_eq_zero_iff.1 hn
   subst hn0
   have hdn0:dn=[]:=by have:=hdn.length;simpa using this.symm
   subst hdn0
   obtain ⟨cs,fz,g1,g2,g3,g4,g5,g6⟩:=hR.own b q L e hj hm
   have hw:=hR.write (L':=L) hj hm g1 (cs':=cs) rfl g5 g6
   rw[qcI g1] at hw
   refine ⟨.value _,_,_,j,qa9 h (v:= .slice (some a') (0+n) 0) ?_, .inl rfl,hw,⟨q,rfl,hj, .inr (.inr (.inr ⟨rfl,by omega,a',by rw[hy0]⟩))⟩⟩
   rw[hcx,qa5 ht hi hA hc]
   simp[storeCells]
  ·obtain ⟨cs,fz,g1,g2,g3,g4,g5,g6⟩:=hR.own b q L e hj hm
   rw[Nat.add_mul,←hn,←Nat.add_assoc] at hl
   have hst:=qbP (P:=P) q.blk (q.sh+(off+l*i.size)) e fz dn 0 cs w g1 g2 (by rw[←hdn.length];omega) (L2.one hdn)
   simp only[Nat.add_zero] at hst
   refine ⟨.value _,_,_,j,qa9 h (v:= .slice (some ⟨q.blk,q.sh+off,none⟩) (l+n) c) ?_, .inl rfl,hR.write hj hm g1 (qdB cs _ _) (by rw[qax];exact g5) (qgU g6 hdn hl (by omega)),
    ⟨q,rfl,hj, .inl ⟨hlt,rfl⟩⟩⟩
   rw[hcx,qa5 ht hi hA hc]
   simp only[qaY,Nat.add_assoc,hst,Result.andThen_ok]
  ·exact absurd hcc hcb
  ·exact absurd hcc hcb
 |append x y t u e i z b off l n L new h ht hi hz hzf hzs hsz hx hmb hlL hy hn hb hm=>
  left
  have hX:=hO x (by simp[h,Op.operands,Call.operands])
  have hX0:=hX
  rw[hx] at hX
  have hY:=hO y (by simp[h,Op.operands,Call.operands])
  obtain ⟨dn,hdn,hA⟩:=qc5 hR.rdOk hY hy hn
  obtain ⟨q,_,hj,hcc⟩:=hX.slice
  have hj:j b=some q:=hj
  obtain ⟨cs,fz,g1,g2,g3,g4,g5,g6⟩:=hR.own b q L e hj hmb
  have hes:i.size=q.es:=by rw[←g3,qbc hi]
  have htl:((L.drop off).take (l*i.size)).length=l*i.size:=by rw[List.length_take,List.length_drop];omega
  have htake:∀(k:Nat) (v:Value),((L.drop off).take (l*i.size))[k]? =some v→∃cv,((cs.toList.drop (q.sh+off)).take (l*i.size))[k]? =some cv∧VR0 j v cv:=by
   intro k v hk
   rw[List.getElem?_take] at hk⊢
   split at hk
   ·rename_i hlt
    rw[if_pos hlt]
    rw[List.getElem?_drop] at hk⊢
    rw[Nat.add_assoc]
    simpa using g6 (off+k) v hk
   ·cases hk
  have hold2:L2 (VR0 j) ((L.drop off).take (l*i.size)) ((cs.toList.drop (q.sh+off)).take (l*i.size)):=L2.of_get (by rw[htl,List.length_take,List.length_drop];simp;omega) (fun k a b' ha hb'=>by
   obtain ⟨cv,h1,h2⟩:=htake k a ha
   rw[h1] at hb';cases hb';exact h2)
  have out:∀(o' c':Nat),cρ x= .slice (some ⟨q.blk,o',none⟩) l c'→(o'=q.sh+off∨l=0)→c'<l+n→qhx P j m w cρ o (.slice (some ⟨m.next,0,none⟩) (l+n) BIG) ((m.put b .dead).push (.own ((L.drop off).take (l*i.size)++new) e)):=by
   intro o' c' hcx ho hc
   have hk:=hR.kill b
   have hfo:∀w':World,w'.heap=w.heap→(Builtin.firstCells i.size l (.slice (some ⟨q.blk,o',none⟩) l c')).run P w'= .ok ((cs.toList.drop (q.sh+off)).take (l*i.size)).toArray w':=by
    intro w' hw
    simp only[Builtin.firstCells]
    rcases ho with rfl|ho
    ·refine qbO (by rw[List.length_take,List.length_drop];simp;omega) (fun k u hu=> ?_)
     rw[List.getElem?_take] at hu
     split at hu
     ·rw[List.getElem?_drop] at hu
      simp only[World.cell?,hw,g1];simpa using hu
     ·cases hu
    ·subst ho
     simp only[Nat.zero_mul,List.take_zero]
     exact qbO (ds:=[]) rfl (fun k u hu=>by simp at hu)
   obtain ⟨cv,w',j',h1,h2,h3⟩:=qb9 (m:=m) (m0:=m.put b .dead) h ht hi hz hzs hsz hcx hA hc htl hn hold2 hdn hfo hb hm hk.rel rfl
   exact ⟨.value cv,cv,w',j',h1, .inl rfl,Post.trans hk h2,h3⟩
  rcases hcc with ⟨hlt,_⟩|⟨_,hpos,hle,hcap,hmod,hdiv,hcx⟩|⟨_,hl0,o',hcx⟩|⟨hc0,_⟩
  rotate_left 3
  ·simp[BIG] at hc0
  ·exact absurd hlt (Nat.lt_irrefl _)
  ·have hle:l≤q.cap - off / q.es:=hle
   have hmod:off%q.es=0:=hmod
   have hdiv:off / q.es≤q.cap:=hdiv
   have hoff:off=off / q.es*q.es:=by
    have:=Nat.div_add_mod off q.es
    rw[hmod,Nat.add_zero,Nat.mul_comm] at this
    exact this.symm
   have hcap2:off+(q.cap - off / q.es)*q.es=q.cap*q.es:=by
    rw[Nat.sub_mul,←hoff]
    have:off≤q.cap*q.es:=by
     have:=Nat.mul_le_mul_right q.es hdiv
     omega
    omega
   have hcx:cρ x= .slice (some ⟨q.blk,q.sh+off,none⟩) l (q.cap - off / q.es):=hcx
   by_cases hfit:l+n≤q.cap - off / q.es
   ·have hsz':off+(l+n)*i.size≤q.cap*q.es:=by
     have:(l+n)*i.size≤(q.cap - off / q.es)*q.es:=by rw[hes];exact Nat.mul_le_mul_right _ hfit
     omega
    have hsz'':q.sh+off+l*i.size+new.length≤cs.size:=by rw[hn];rw[Nat.add_mul] at hsz';omega
    have hst:=qbP (P:=P) q.blk (q.sh+off+l*i.size) e fz dn 0 cs w g1 g2 (by rw[←hdn.length];omega) (L2.one hdn)
    simp only[Nat.add_zero] at hst
    refine ⟨.value _,_,_,j.up m.next ⟨q.blk,q.cap - off / q.es,q.es,q.sh+off⟩,qa9 h (v:= .slice (some ⟨q.blk,q.sh+off,none⟩) (l+n) (q.cap - off / q.es)) ?_, .inl rfl,
     hR.reuse (e2:=⟨q.blk,q.cap - off / q.es,q.es,q.sh+off⟩) (L':=(L.drop off).take (l*i.size)++new) hj hmb g1 (qdB cs (q.sh+off+l*i.size) dn) rfl rfl (by simp only[];omega) (by rw[List.length_append,htl,hn,←Nat.add_mul];simp only[];omega) ?_,
     ⟨⟨q.blk,q.cap - off / q.es,q.es,q.sh+off⟩,rfl,by simp[Emb.up], .inr (.inl ⟨rfl,hpos,by simpa using hfit,Nat.lt_of_le_of_lt (Nat.sub_le _ _) hcap,by simp,by simp,by simp⟩)⟩⟩
    ·rw[hcx,qa5 ht hi hA hfit]
     simp only[qaY,hst,Result.andThen_ok]
    ·intro k v hk
     simp only[List.getElem?_toArray]
     rw[qaR _ _ _ _ (by rw[←hdn.length];simpa using hsz'')]
     rw[List.getElem?_append,htl] at hk
     split at hk
     ·rename_i hlt
      rw[if_neg (by omega)]
      obtain ⟨cv,h1,h2⟩:=htake k v hk
      rw[List.getElem?_take,if_pos hlt,List.getElem?_drop] at h1
      exact ⟨cv,h1,h2⟩
     ·rename_i hge
      obtain ⟨cv,h1,h2⟩:=hdn.get _ _ hk
      have:=(List.getElem?_eq_some_iff.1 h1).1
      rw[if_pos (by omega)]
      exact ⟨cv,by rw[show q.sh+off+k - (q.sh+off+l*i.size)=k - l*i.size by omega];exact h1,h2⟩
   ·exact out _ _ hcx (.inl rfl) (by omega)
  ·by_cases hfit:l+n≤0
   ·have hy0:n=0:=by omega
    have hnil:new=[]:=by
     have:new.length=0:=by rw[hn,hy0,Nat.zero_mul]
     exact List.eq_nil_of_length_eq_zero this
    subst hnil
    subst hl0
    have hdnn:dn=[]:=by have:=hdn.length;exact List.eq_nil_of_length_eq_zero this.symm
    subst hdnn
    have hre:=hR.reuse (e2:=q) (L':=(L.drop off).take (0*i.size)++[]) hj hmb g1 (cs':=cs) rfl rfl rfl g4 (by simp) (fun k v hk=>by simp at hk)
    rw[qcI g1] at hre
    refine ⟨.value (.slice (some ⟨q.blk,o',none⟩) 0 0),_,w,j.up m.next q,qa9 h ?_, .inl rfl,hre,⟨q,rfl,by simp[Emb.up], .inr (.inr (.inl ⟨rfl,by omega,o',rfl⟩))⟩⟩
    subst hy0
    rw[hcx,qa5 ht hi hA (by omega)]
    simp[storeCells]
   ·exact out o' 0 (by rw[hcx,hl0]) (.inr hl0) (by omega)
 |copy x y t u e i b off l c L cs h ht hi hx hm hy hn hl=>
  left
  have hX:=hO x (by simp[h,Op.operands,Call.operands])
  rw[hx] at hX
  have hY:=hO y (by simp[h,Op.operands,Call.operands])
  obtain ⟨hlen,dn0,hdn0,hf⟩:=qcX hR.rdOk hY hy
  have hmin:Nat.min (lenV (ρ y)) l≤lenV (ρ y):=Nat.min_le_left _ _
  have hf:=hf hn _ hmin w rfl
  have hdn:=hdn0.take (Nat.min (lenV (ρ y)) l*i.size)
  obtain ⟨q,_,hj,hcc⟩:=hX.slice
  have hj:j b=some q:=hj
  obtain ⟨ds,fz,g1,g2,g3,g4,g5,g6⟩:=hR.own b q L e hj hm
  have hl':off+(cs.take (Nat.min (lenV (ρ y)) l*i.size)).length≤L.length:=by
   rw[List.length_take]
   have:Nat.min (lenV (ρ y)) l*i.size≤l*i.size:=Nat.mul_le_mul_right _ (Nat.min_le_right _ _)
   omega
  have key:∀(a':Addr) (c':Nat),cρ x= .slice (some a') l c'→(a'=⟨q.blk,q.sh+off,none⟩∨l=0)→qhx P j m w cρ o (.int .i64 (Nat.min (lenV (ρ y)) l)) (m.put b (.own (setN L off (cs.take (Nat.min (lenV (ρ y)) l*i.size))) e)):=by
   intro a' c' hcx ho
   rcases ho with rfl|ho
   ·have hst:=qbP (P:=P) q.blk (q.sh+off) e fz _ 0 ds w g1 g2 (by rw[←hdn.length];omega) (L2.one hdn)
    simp only[Nat.add_zero] at hst
    refine ⟨.value _, .int .i64 (Nat.min (lenV (ρ y)) l),_,j, ?_, .inl rfl,hR.write hj hm g1 (qdB ds _ _) (by rw[qax];exact g5) (qgU g6 hdn hl' (by omega)),rfl⟩
    simp only[execOp,h,resolve,invoke,builtin,Sem.run_bind,Sem.run_pure,Result.andThen_ok,List.map_toArray,List.map_cons,List.map_nil,Builtin.copy_,List.getElem?_toArray,List.getElem?_cons_zero,List.getElem?_cons_succ,qas ht,hcx,hlen,qaI hi,hf,hst,goInt]
   ·subst ho
    have h0:Nat.min (lenV (ρ y)) 0=0:=Nat.min_zero _
    simp only[h0,Nat.zero_mul,List.take_zero,setN] at hf hl'⊢
    have hw:=hR.write (L':=L) hj hm g1 (cs':=ds) rfl g5 g6
    rw[qcI g1] at hw
    refine ⟨.value _, .int .i64 (0:Nat),w,j, ?_, .inl rfl,hw,rfl⟩
    have h0':Nat.min (lenV (ρ y)) 0=0:=Nat.min_zero _
    simp only[execOp,h,resolve,invoke,builtin,Sem.run_bind,Sem.run_pure,Result.andThen_ok,List.map_toArray,List.map_cons,List.map_nil,Builtin.copy_,List.getElem?_toArray,List.getElem?_cons_zero,List.getElem?_cons_succ,qas ht,hcx,hlen,qaI hi,h0',hf,goInt,storeCells]
  rcases hcc with ⟨_,hcx⟩|⟨_,_,_,_,_,_,hcx⟩|⟨_,hl0,o',hcx⟩|⟨_,hl0,a',hcx⟩
  ·exact key _ _ hcx (.inl rfl)
  ·exact key _ _ hcx (.inl rfl)
  ·exact key _ 0 (by rw[hcx,hl0]) (.inr hl0)
  ·exact key a' 0 (by rw[hcx,hl0]) (.inr hl0)
 |mapUpdate xt x kx vx u kt vt b L kc vc E E' good h hxt hu hx hmb hE hks K hkc hkl hkf hf hk hg hvs hvc hvl hvv hup=>
  left
  have hm3:∀y∈([x,kx,vx]:List Operand),y∈o.op.operands:=by
   intro y hy
   rcases h with h|h<;>(simp[h,Op.operands];simpa using hy)
  have hX:=hO x (hm3 x (by simp))
  rw[hx] at hX
  obtain ⟨q,hj,hc⟩:∃q,j b=some q∧cρ x= .map (some q.blk):=hX
  have hck:=qiU hf (hO kx (hm3 kx (by simp)))
  have hcv:=VR.storable (hO vx (hm3 vx (by simp))) hvs
  have hmap:=hR.obj b q hj
  rw[hmb] at hmap
  obtain ⟨kt',vt',cs,clock,E0,g1,g2,g3,g4,g5⟩:=hmap
  have hkv:kt'=kt∧vt'=vt:=by rw[hu] at g2;simpa using g2.symm
  obtain ⟨rfl,rfl⟩:=hkv
  have:=EntL.uniq hks hE g3
  subst this
  have hfind:=K.find (ρ kx) cs.toList w hk (qeO g4 hg)
  have hchk:=K.check false (ρ kx) w hk
  have hlen':EntL (P.cellsOf kt') (P.cellsOf vt') (E'.flatMap fun p=>p.1++p.2) E':=by
   refine ⟨rfl, ?_⟩
   have:=hE.len
   clear hE g3 g4 hg
   induction hup with
   |miss=>intro p hp;simp at hp;subst hp;exact ⟨hkl,hvl⟩
   |hit p E h=>
    intro r hr
    rcases List.mem_cons.1 hr with rfl|hr
    ·exact ⟨(this p (by simp)).1,hvl⟩
    ·exact this r (by simp[hr])
   |next p E E' h hE2 ih=>
    intro r hr
    rcases List.mem_cons.1 hr with rfl|hr
    ·exact this r (by simp)
    ·exact ih (fun r hr=>this r (by simp[hr])) r hr
  have key:=hup.find (j:=j) (cv:=cρ vx) (clock:=clock) hkf (by rw[←hvc];exact hcv) 0 g4
  rw[←hkc] at key
  have fin:∀(cs':Array MapEntry) (clock':Nat),L2 (EntW P j kt' vt') E' cs'.toList→qeC cs' clock'→(execOp cρ o).run P w= .ok .skip (setO w q.blk (.map cs' clock'))→
    qhx P j m w cρ o undef (m.put b (.map (E'.flatMap fun p=>p.1++p.2) u)):=by
   intro cs' clock' hl2 hst hrun
   refine ⟨.skip,undef,_,j,hrun, .inr ⟨rfl,rfl⟩,hR.turn hj (by rw[hmb];rfl) ⟨kt',vt',cs',clock',E',rfl,hu,hlen',hl2,hst⟩ rfl,⟨#[],rfl,True.intro⟩⟩
  have hex:∀w',(Instr.mapUpdate xt (cρ x) (cρ kx) (cρ vx)).run P w= .ok () w'→(execOp cρ o).run P w= .ok .skip w':=by
   intro w' hw'
   rcases h with h|h<;>simp[execOp,h,hw']
  rcases key with ⟨i,y,h1,h2,h3,h4⟩|⟨h1,h2⟩
  ·refine fin (cs.modify i fun e=>{e with key:=ρ kx,val:=cρ vx}) clock ?_ (qgY g5 i _ fun _=>rfl) (hex _ ?_)
   ·simpa[Array.toList_modify] using h4
   ·have hst:=K.stays (ρ kx) w hk
    rw[h1] at hfind
    have hg2:cs[i]? =some y:=by simpa using h2
    simp[Instr.mapUpdate,qas hxt,hc,qfP g1,hck,hchk,hfind,hg2,h3,hst,qpZ _ g1,setO]
  ·refine fin (cs.push {key:=ρ kx,val:=cρ vx,born:=clock}) (clock+1) ?_ (qjl g5 _ rfl) (hex _ ?_)
   ·simpa using h2
   ·rw[h1] at hfind
    simp[Instr.mapUpdate,qas hxt,hc,qfP g1,hck,hchk,hfind,qpZ _ g1,setO]
end Go.AM
end
section
set_option linter.unusedSimpArgs false
set_option linter.unusedVariables false
namespace Go.AM
theorem qmh {n n':Nat} (h:n≤n') {v:Value} (hv:lowP n v):lowP n' v:=by
 unfold lowP at hv⊢
 split at hv
 ·rename_i a
  cases a with
  |none=>exact hv
  |some a=>exact Nat.lt_of_lt_of_le hv h
 ·exact hv.elim
theorem qmg {n:Nat} {v:Value} (hv:lowP n v):low0 n v:=by
 unfold lowP at hv
 split at hv
 ·exact hv
 ·exact hv.elim
theorem qa2 {n n':Nat} (h:n≤n') {v:Value} (hv:low0 n v):low0 n' v:=by
 cases v with
 |func fn fs cs=>exact ⟨hv.1,fun v hm=>qmh h (hv.2 v hm)⟩
 |pointer a=>cases a with
  |none=>exact hv
  |some a=>exact Nat.lt_of_lt_of_le hv h
 |slice a l c=>cases a with
  |none=>exact hv
  |some a=>exact Nat.lt_of_lt_of_le hv h
 |map r=>cases r with
  |none=>exact hv
  |some r=>exact Nat.lt_of_lt_of_le hv h
 |_=>exact hv
theorem qdj {n n':Nat} (h:n≤n') {v:Value} (hv:low1 n v):low1 n' v:=by
 cases v with
 |agg cs=>exact fun v hm=>qa2 h (hv v hm)
 |_=>simp only[low1] at hv⊢;exact qa2 h hv
theorem qeq {n n':Nat} (h:n≤n') {v:Value} (hv:low n v):low n' v:=by
 cases v with
 |chan _=>trivial
 |tuple cs=>exact fun v hm=>qdj h (hv v hm)
 |func _ a b=>exact ⟨fun v hm=>qdj h (hv.1 v hm),fun v hm=>qdj h (hv.2 v hm)⟩
 |_=>simp only[low] at hv⊢;exact qdj h hv
theorem qdk {n n':Nat} (h:n≤n') {x:Blk} (hv:lowB n x):lowB n' x:=by
 cases x with
 |dead=>exact hv
 |ro rd=>exact fun i v hi=>qa2 h (hv i v hi)
 |own L t=>exact fun v hm=>qa2 h (hv v hm)
 |map L t=>exact fun v hm=>qa2 h (hv v hm)
 |lock _ _ _ _=>trivial
theorem qch {n:Nat} {v:Value} (h:qah v=true):low0 n v:=by
 cases v with
 |pointer a=>cases a with
  |none=>exact True.intro
  |some a=>simp[qah] at h
 |slice a l c=>cases a with
  |none=>exact True.intro
  |some a=>simp[qah] at h
 |map r=>cases r with
  |none=>exact True.intro
  |some r=>simp[qah] at h
 |chan _=>simp[qah] at h
 |func _ _ _=>
  simp only[qah,Bool.and_eq_true,Array.isEmpty_iff] at h
  obtain ⟨rfl,rfl⟩:=h
  exact ⟨rfl,fun v hm=>absurd hm (by simp)⟩
 |iface _ _=>simp[qah] at h
 |agg _=>simp[qah] at h
 |tuple _=>simp[qah] at h
 |_=>exact True.intro
theorem qeL {n:Nat} {v:Value} (h:qbf v=true):low1 n v:=by
 cases v with
 |agg cs=>simp only[qbf,List.all_eq_true] at h;exact fun v hm=>qch (h v hm)
 |_=>simp only[low1];exact qch h
theorem qgo {n:Nat} {v:Value} (h:flat v=true):low n v:=by
 cases v with
 |tuple cs=>simp only[flat,List.all_eq_true] at h;exact fun v hm=>qeL (h v hm)
 |func _ _ _=>
  simp only[flat,qbf,qah,Bool.and_eq_true,Array.isEmpty_iff] at h
  obtain ⟨rfl,rfl⟩:=h
  exact ⟨fun v hm=>absurd hm (by simp),fun v hm=>absurd hm (by simp)⟩
 |chan _=>trivial
 |_=>simp only[low];exact qeL h
theorem qep {n:Nat} {v:Value} (h:low0 n v):low1 n v:=by
 cases v<;>first|exact h|exact h.elim
theorem qeT {n:Nat} {v:Value} (h:low1 n v):low n v:=by
 cases v with
 |func fn fs cs=>exact ⟨fun v hm=>by rw[h.1] at hm;exact absurd hm (by simp),fun v hm=>qep (qmg (h.2 v hm))⟩
 |tuple _=>exact h.elim
 |chan _=>trivial
 |_=>exact h
theorem qiZ {n:Nat} {v:Value} (h:low0 n v):low n v:=qeT (qep h)
theorem qaL {n:Nat} {v:Value} (h:low n v) (hs:storable v=true):low1 n v:=by
 cases v with
 |tuple _=>simp[storable] at hs
 |chan _=>simp[storable] at hs
 |func fn fs cs=>
  simp only[storable,Bool.and_eq_true,Array.isEmpty_iff,List.all_eq_true] at hs
  refine ⟨hs.1,fun v hm=> ?_⟩
  have h1:=h.2 v hm
  have h2:=hs.2 v hm
  unfold qiX at h2
  split at h2
  ·exact h1
  ·cases h2
 |_=>exact h
theorem qcF {n:Nat} {v:Value} (h:low1 n v):∀c∈v.cells.toList,low0 n c:=by
 cases v with
 |agg cs=>exact h
 |_=>intro c hc;simp only[Value.cells,List.mem_singleton] at hc;subst hc;exact h
theorem qcL:∀(vs L:List Value) (o:Nat) (v:Value),v∈setN L o vs→v∈L∨v∈vs
 |[],L,o,v,h=> .inl h
 |u::vs,L,o,v,h=>by
  rcases qcL vs (L.set o u) (o+1) v h with h|h
  ·rcases List.mem_or_eq_of_mem_set h with h|h
   ·exact .inl h
   ·exact .inr (by simp[h])
  ·exact .inr (by simp[h])
theorem qc8 {n:Nat} {place:Nat→Option (Nat×Nat)}:∀(ps:List (Nat×Value)) (L cs:List Value),(∀p∈ps,low n p.2)→(∀v∈L,low0 n v)→qbA place L ps=some cs→∀v∈cs,low0 n v
 |[],L,cs,_,hL,h=>by simp only[qbA,Option.some.injEq] at h;subst h;exact hL
 |(i,v)::ps,L,cs,hp,hL,h=>by
  simp only[qbA] at h
  cases hq:place i with
  |none=>simp[hq] at h
  |some q=>
   simp only[hq] at h
   split at h
   ·rename_i hc
    refine qc8 ps _ cs (fun p hm=>hp p (by simp[hm])) ?_ h
    intro u hu
    rcases qcL _ _ _ _ hu with hu|hu
    ·exact hL u hu
    ·exact qcF (qaL (hp (i,v) (by simp)) hc.1) u hu
   ·cases h
theorem qgs {m:Mem} (hm:WF m) {b o:Nat} {v:Value} (h:m.load b o=some v):low0 m.next v:=by
 have:=hm.low b
 unfold Mem.load at h
 cases hb:m.blk b with
 |dead=>simp[hb] at h
 |ro rd=>simp only[hb] at h;rw[hb] at this;exact this o v h
 |own L t=>simp only[hb] at h;rw[hb] at this;exact this v (List.mem_of_getElem? h)
 |map L t=>simp[hb] at h
 |lock _ _ _ _=>simp[hb] at h
theorem qgM {m:Mem} (hm:WF m) {b:Nat}:∀(n o:Nat) (cs:List Value),rdN m b o n=some cs→∀v∈cs,low0 m.next v
 |0,o,cs,h=>by simp only[rdN,Option.some.injEq] at h;subst h;intro v hv;simp at hv
 |n+1,o,cs,h=>by
  simp only[rdN] at h
  cases h1:m.load b o with
  |none=>simp[h1] at h
  |some u=>
   cases h2:rdN m b (o+1) n with
   |none=>simp[h1,h2] at h
   |some l=>
    simp only[h1,h2,Option.some.injEq] at h
    subst h
    intro v hv
    rcases List.mem_cons.1 hv with rfl|hv
    ·exact qgs hm h1
    ·exact qgM hm n (o+1) l h2 v hv
theorem qaZ {n:Nat} {L:List Value} (h:L.all qah=true):∀v∈L,low0 n v:=by
 simp only[List.all_eq_true] at h
 exact fun v hv=>qch (h v hv)
theorem qoq {P:Program} {ρ:Operand→Value} {o:Oper} {v:Value} {n:Nat} (h:PureR P ρ o v) (hρ:∀x∈o.op.operands,low n (ρ x)):low n v:=by
 cases h with
 |flat v hs h hv hr=>exact qgo hv
 |move x h=>exact hρ x (by rcases h with h|h<;>simp[h,Op.operands])
 |pick c a b t h hc=>
  cases t
  ·exact hρ b (by simp[h,Op.operands])
  ·exact hρ a (by simp[h,Op.operands])
 |extract x i vs v h hx hv=>
  have:=hρ x (by simp[h,Op.operands])
  rw[hx] at this
  exact qeT (this v (by have:=Array.mem_of_getElem? hv;simpa using this))
 |field t x i fs f d cs v h ht hf hd hx hv=>
  have:=hρ x (by simp[h,Op.operands])
  rw[hx] at this
  split at hv
  ·obtain ⟨k,hk,hle,rfl⟩:=hv
   intro u hu
   refine this u ?_
   simp only[Array.toList_extract,List.extract_eq_drop_take'] at hu
   exact List.mem_of_mem_take (List.mem_of_mem_drop hu)
  ·exact qiZ (this v (by have:=Array.mem_of_getElem? hv;simpa using this))
 |build t ps fs i z cs h ht hi hz hzf hp hc=>
  have:=qc8 (n:=n) _ _ _ (by
   intro p hp
   simp only[List.mem_map] at hp
   obtain ⟨q,hq,rfl⟩:=hp
   exact hρ q.2 (by simp only[h,Op.operands];simp only[List.mem_toArray,List.mem_map];exact ⟨q,hq,rfl⟩)) (qaZ hzf) hc
  simpa[low,low1] using this
 |buildA t ps n e i k z cs h ht hi hz hzf he hc=>
  have:=qc8 (n:=_) _ _ _ (by
   intro p hp
   simp only[List.mem_map] at hp
   obtain ⟨q,hq,rfl⟩:=hp
   exact hρ q.2 (by simp only[h,Op.operands];simp only[List.mem_toArray,List.mem_map];exact ⟨q,hq,rfl⟩)) (qaZ hzf) hc
  simpa[low,low1] using this
 |nilCheck x a h hx=>
  have:=hρ x (by simp[h,Op.operands])
  rw[hx] at this
  exact this
 |fieldAddr t x i fs f k b off h ht hf hk hs hx=>
  have:=hρ x (by simp[h,Op.operands])
  rw[hx] at this
  exact this
 |indexAddr t x y e i b off l c k n h ht hi hx hy h0 h1=>
  have:=hρ x (by simp[h,Op.operands])
  rw[hx] at this
  exact this
 |indexAddrA t x y e i b off l k n h ht hi hx hy h0 h1=>
  have:=hρ x (by simp[h,Op.operands])
  rw[hx] at this
  exact this
 |slice t x lo hi e i b off l c n h' h ht hi' hx hb hlo hhi h1 h2 h3=>
  have:=hρ x (by simp[h,Op.operands])
  rw[hx] at this
  exact this
 |sliceNil t x lo hi e i h ht hi' hx hlo hhi=>exact True.intro
 |slice3 t x mx hi e i b off l c h' k' km h ht hi' hx hc hhi hmx h1=>
  have:=hρ x (by simp[h,Op.operands])
  rw[hx] at this
  exact this
 |slice3Nil t x mx hi e i km h ht hi' hx hhi hmx=>exact True.intro
 |len x t e a l c h ht hx=>exact True.intro
 |capNil x t e h ht hx=>exact True.intro
 |eqNil neq x y t u e a l c h ht hx hy=>exact True.intro
 |func fn first captured h hf=>
  refine ⟨?_, ?_⟩
  ·intro v hv
   simp only[Array.toList_map,List.mem_map] at hv
   obtain ⟨x,hx,rfl⟩:=hv
   exact qaL (hρ x (by simp[h,Op.operands];exact .inl (by simpa using hx))) (hf x (by simp[hx]))
  ·intro v hv
   simp only[Array.toList_map,List.mem_map] at hv
   obtain ⟨x,hx,rfl⟩:=hv
   exact qaL (hρ x (by simp[h,Op.operands];exact .inr (by simpa using hx))) (hf x (by simp[hx]))
theorem qlC {P:Program} {vt:TypeId} {n:Nat} {cs:List Value} (hv1:qaj P vt=false→P.cellsOf vt=1) (hl:cs.length=P.cellsOf vt) (h:∀c∈cs,low0 n c):low1 n (qal (qaj P vt) cs):=by
 cases ha:qaj P vt with
 |true=>simpa[qal,low1] using h
 |false=>
  have:=hv1 ha
  match cs,hl with
  |[v],_=>exact qep (h v (by simp))
  |[],hl=>simp at hl;omega
  |_::_::_,hl=>simp at hl;omega
theorem qov {P:Program} {ρ:Operand→Value} {o:Oper} {m:Mem} {v:Value} (h:ReadR P ρ o m v) (hm:WF m) (hρ:∀x∈o.op.operands,low m.next (ρ x)):low m.next v:=by
 cases h with
 |load t x b off d v h hx ht hd hv=>exact qiZ (qgs hm hv)
 |loadA t x b off d i cs h hx ht hd hi hv=>simpa[low,low1] using qgM hm _ _ _ hv
 |slice t x lo hi e i L b off l n h' h ht hi' hx hm' hlo hhi h1 h2 h3=>
  have:=hρ x (by simp[h,Op.operands])
  rw[hx] at this
  exact this
 |str s t x e b off l c cs h hs he ht hx hv=>exact True.intro
 |strNil s t x e l c h hs he ht hx=>exact True.intro
 |lookup xt x ix ok u kt vt b L E i z v0 t good h hxt hu hx hks hv1 K hf hk hg hi hz hzf hl=>
  have h0:low1 m.next v0:=by
   have hEl:(∀p∈E,∀c∈p.2,low0 m.next c)∧∀p∈E,p.2.length=P.cellsOf vt:=by
    rcases hx with ⟨hx,hmb,hE⟩|⟨hx,rfl⟩
    ·have hL:=hm.low b
     rw[hmb] at hL
     exact ⟨fun p hp c hc=>hL c (by rw[hE.eq];exact List.mem_flatMap.2 ⟨p,hp,by simp[hc]⟩),fun p hp=>(hE.len p hp).2⟩
    ·exact ⟨fun p hp=>by simp at hp,fun p hp=>by simp at hp⟩
   obtain ⟨hE',hlen⟩:=hEl
   clear hg hx
   induction hl with
   |miss=>exact qeL hzf
   |hit p E h=>exact qlC hv1 (hlen p (by simp)) (hE' p (by simp))
   |next p E v b h hl ih=>exact ih (fun q hq=>hE' q (by simp[hq])) (fun q hq=>hlen q (by simp[hq]))
  cases ok with
  |false=>exact qeT h0
  |true=>
   intro v hv
   simp at hv
   rcases hv with rfl|rfl
   ·exact h0
   ·exact True.intro
theorem qqW {P:Program} {ρ:Operand→Value} {o:Oper} {n:Nat} {X:Blk} {v:Value} (h:NewR P ρ o n X v) (hρ:∀x∈o.op.operands,low n (ρ x)):low (n+1) v∧lowB n X:=by
 cases h with
 |alloc t i z h hi hz hzf hs=>exact ⟨Nat.lt_succ_self n,qaZ hzf⟩
 |box t x i h hi hv hs=>exact ⟨Nat.lt_succ_self n,qcF (qaL (hρ x (by simp[h,Op.operands])) hv)⟩
 |buildSlice t l ps e i z cs h ht hi hz hzf hzs h24 hl63 hc=>
  refine ⟨Nat.lt_succ_self n,qc8 _ _ _ ?_ (qaZ (qb2 hzf l)) hc⟩
  intro p hp
  simp only[List.mem_map] at hp
  obtain ⟨q,hq,rfl⟩:=hp
  exact hρ q.2 (by simp only[h,Op.operands];simp only[List.mem_toArray,List.mem_map];exact ⟨q,hq,rfl⟩)
 |makeSlice t x y l c k k' e i z h ht hi hz hzf hzs hx hy hlc hb hc=>exact ⟨Nat.lt_succ_self n,qaZ (qb2 hzf c)⟩
 |bytes s t x e i b h hs ht he hi hi1 hx hb=>exact ⟨Nat.lt_succ_self n,qaZ (by simp only[List.all_map,List.all_eq_true,Function.comp];intro u _;rfl)⟩
 |makeMap t kt vt h ht=>exact ⟨Nat.lt_succ_self n,fun v hv=>by simp at hv⟩
theorem WF.push {m:Mem} (h:WF m) {X:Blk} (hL:lowB (m.next+1) X):WF (m.push X) where
 dead:=fun b hb=>by
  simp only[Mem.push] at hb⊢
  rw[if_neg (by omega)]
  exact h.dead b (by omega)
 low:=fun b=>by
  simp only[Mem.push]
  split
  ·exact hL
  ·exact qdk (Nat.le_succ _) (h.low b)
theorem WF.put {m:Mem} (h:WF m) {b:Nat} {x:Blk} (hx:lowB m.next x) (hb:b<m.next∨x= .dead):WF (m.put b x) where
 dead:=fun c hc=>by
  have hc:m.next≤c:=hc
  simp only[Mem.put]
  split
  ·rcases hb with hb|hb
   ·omega
   ·exact hb
  ·exact h.dead c hc
 low:=fun c=>by
  simp only[Mem.put]
  split
  ·exact hx
  ·exact h.low c
theorem WF.lt {m:Mem} (h:WF m) {b:Nat} (hb:m.blk b≠ .dead):b<m.next:=by
 rcases Nat.lt_or_ge b m.next with h1|h1
 ·exact h1
 ·exact absurd (h.dead b h1) hb
def qb7 (C:FuncId→Array Value→Mem→Value→Mem→Prop):Prop:=∀f args m v m',C f args m v m'→WF m→(∀a∈args.toList,low m.next a)→low m'.next v∧WF m'∧m.next≤m'.next
theorem qeI {m:Mem} (hm:WF m) {sz:Nat} {y:Value} {cs:List Value} (h:elems m sz y=some cs):∀v∈cs,low0 m.next v:=by
 cases y with
 |slice a l c=>
  cases a with
  |none=>simp only[elems,Option.some.injEq] at h;subst h;intro v hv;simp at hv
  |some a=>
   obtain ⟨b,off,spot⟩:=a
   cases spot with
   |none=>exact qgM hm _ _ _ h
   |some _=>simp[elems] at h
 |string s=>
  simp only[elems] at h
  split at h
  ·simp only[Option.some.injEq] at h;subst h
   exact qaZ (by simp only[List.all_map,List.all_eq_true,Function.comp];intro u _;rfl)
  ·cases h
 |_=>simp[elems] at h
theorem qiE {P:Program} {m:Mem} (hm:WF m) {u:TypeId} {i:TypeInfo} {y:Value} {n:Nat} {cs:List Value} (h:AddR P m u i y n cs):∀v∈cs,low0 m.next v:=by
 cases h with
 |el hu hl he=>exact qeI hm he
 |mk kk k z hu hy hz hzf hzs hsz hb hmm hnew=>
  subst hnew
  exact qaZ (qb2 hzf n)
theorem qkI {o:Oper} {ρ:Operand→Value} {f:FuncId} {args:Array Value} {n:Nat} (h:callee o ρ f args) (hρ:∀x∈o.op.operands,low n (ρ x)):∀a∈args.toList,low n a:=by
 obtain ⟨x,as,ts,first,captured,h,hx,rfl⟩:=h
 have hf:=hρ x (by simp[h,Op.operands,Call.operands])
 rw[hx] at hf
 intro a ha
 simp only[Array.toList_append,List.mem_append,Array.toList_map,List.mem_map] at ha
 rcases ha with (ha|⟨y,hy,rfl⟩)|ha
 ·exact qeT (hf.1 a ha)
 ·exact hρ y (by simp[h,Op.operands,Call.operands];exact .inr (by simpa using hy))
 ·exact qeT (hf.2 a ha)
theorem qqt {P:Program} {C:FuncId→Array Value→Mem→Value→Mem→Prop} {ρ:Operand→Value} {o:Oper} {m m':Mem} {v:Value} (h:EffR P C ρ o m v m') (hm:WF m) (hρ:∀x∈o.op.operands,low m.next (ρ x)) (hC:qb7 C):low m'.next v∧WF m'∧m.next≤m'.next:=by
 cases h with
 |store t x y b off i L e h hx hi hmb hv hs hl=>
  refine ⟨fun u hu=>by simp at hu,hm.put ?_ (.inl (hm.lt (by rw[hmb];simp))),Nat.le_refl _⟩
  intro u hu
  rcases qcL _ _ _ _ hu with hu|hu
  ·have:=hm.low b;rw[hmb] at this;exact this u hu
  ·exact qcF (qaL (hρ y (by simp[h,Op.operands])) hv) u hu
 |call f args v m' h hcall=>exact hC f args m v m' hcall hm (qkI h hρ)
 |appendNone x y t u e i a l c h ht hi hx hc hlc hy=>exact ⟨hρ x (by simp[h,Op.operands,Call.operands]),hm,Nat.le_refl _⟩
 |appendNew x y t u e i z a l c n old new h ht hi hz hzf hzs hsz hx hc ho hol hy hn hb hmm=>
  refine ⟨Nat.lt_succ_self _,hm.push ?_,Nat.le_succ _⟩
  intro w hw
  rcases List.mem_append.1 hw with hw|hw
  ·exact qa2 (Nat.le_succ _) (qeI hm ho w hw)
  ·exact qa2 (Nat.le_succ _) (qiE hm hy w hw)
 |appendIn x y t u e i b off l c n L new h ht hi hx hcb hc hmb hy hn hl=>
  refine ⟨?_,hm.put ?_ (.inl (hm.lt (by rw[hmb];simp))),Nat.le_refl _⟩
  ·have:=hρ x (by simp[h,Op.operands,Call.operands])
   rw[hx] at this
   exact this
  ·intro w hw
   rcases qcL _ _ _ _ hw with hw|hw
   ·have:=hm.low b;rw[hmb] at this;exact this w hw
   ·exact qiE hm hy w hw
 |append x y t u e i z b off l n L new h ht hi hz hzf hzs hsz hx hmb hlL hy hn hb hmm=>
  have h1:WF (m.put b .dead):=hm.put True.intro (.inr rfl)
  refine ⟨Nat.lt_succ_self _,h1.push ?_,Nat.le_succ _⟩
  intro w hw
  rcases List.mem_append.1 hw with hw|hw
  ·have:=hm.low b;rw[hmb] at this
   exact qa2 (Nat.le_succ _) (this w (List.mem_of_mem_drop (List.mem_of_mem_take hw)))
  ·exact qa2 (Nat.le_succ _) (qiE hm hy w hw)
 |copy x y t u e i b off l c L cs h ht hi hx hmb hy hn hl=>
  refine ⟨True.intro,hm.put ?_ (.inl (hm.lt (by rw[hmb];simp))),Nat.le_refl _⟩
  intro w hw
  rcases qcL _ _ _ _ hw with hw|hw
  ·have:=hm.low b;rw[hmb] at this;exact this w hw
  ·exact qeI hm hy w (List.mem_of_mem_take hw)
 |mapUpdate xt x kx vx u kt vt b L kc vc E E' good h hxt hu hx hmb hE hks K hkc hkl hkf hf hk hg hvs hvc hvl hvv hup=>
  refine ⟨fun u hu=>by simp at hu,hm.put ?_ (.inl (hm.lt (by rw[hmb];simp))),Nat.le_refl _⟩
  have hL:=hm.low b
  rw[hmb] at hL
  have hE':∀p∈E,∀c∈p.1++p.2,low0 m.next c:=fun p hp c hc=>hL c (by rw[hE.eq];exact List.mem_flatMap.2 ⟨p,hp,hc⟩)
  have hkl0:∀c∈kc,low0 m.next c:=qaZ hkf
  have hvl0:∀c∈vc,low0 m.next c:=fun c hc=>by
   refine qcF (qaL (hρ vx ?_) hvs) c (hvv c hc)
   rcases h with h|h<;>simp[h,Op.operands]
  have key:∀p∈E',∀c∈p.1++p.2,low0 m.next c:=by
   clear hE hg hL
   induction hup with
   |miss=>
    intro p hp c hc
    simp at hp;subst hp
    rcases List.mem_append.1 hc with hc|hc
    ·exact hkl0 c hc
    ·exact hvl0 c hc
   |hit p E h=>
    intro q hq c hc
    rcases List.mem_cons.1 hq with rfl|hq
    ·rcases List.mem_append.1 hc with hc|hc
     ·exact hE' p (by simp) c (by simp[hc])
     ·exact hvl0 c hc
    ·exact hE' q (by simp[hq]) c hc
   |next p E E' h hE2 ih=>
    intro q hq c hc
    rcases List.mem_cons.1 hq with rfl|hq
    ·exact hE' q (by simp) c hc
    ·exact ih (fun q hq=>hE' q (by simp[hq])) q hq c hc
  intro v hv
  obtain ⟨p,hp,hc⟩:=List.mem_flatMap.1 hv
  exact key p hp v hc
theorem qpB {fr:Nat→Value} {n:Nat} (h:∀t,low n (fr t)) {x:Operand} (hx:okX x=true):low n (ev fr x):=by
 cases x with
 |tmp t=>exact h t
 |const v=>exact qgo hx
 |global g=>simp[okX] at hx
 |func f=>exact ⟨fun v hv=>by simp at hv,fun v hv=>by simp at hv⟩
theorem qfa {fr:Nat→Value} {n:Nat} (h:∀t,low n (fr t)) {d:Option Tmp} {v:Value} (hv:low n v):∀t,low n (set fr d v t):=by
 intro t
 cases d with
 |none=>exact h t
 |some d=>simp only[set];split;exact hv;exact h t
theorem qcD {n:Nat}:low n undef:=fun v hv=>by simp at hv
theorem qb5 {P:Program} {C:FuncId→Array Value→Mem→Value→Mem→Prop} {fr:Nat→Value} {o:Oper} {m m':Mem} {v:Value} (h:StepR P C (ev fr) o m v m') (hm:WF m) (hf:∀t,low m.next (fr t)) (hC:qb7 C) (ho:∀x∈o.op.operands,okX x=true):
  low m'.next v∧WF m'∧m.next≤m'.next:=by
 have hρ:∀x∈o.op.operands,low m.next (ev fr x):=fun x hx=>qpB hf (ho x hx)
 cases h with
 |pure h=>exact ⟨qoq h hρ,hm,Nat.le_refl _⟩
 |read h=>exact ⟨qov h hm hρ,hm,Nat.le_refl _⟩
 |new h=>
  have:=qqW h hρ
  exact ⟨this.1,hm.push (qdk (Nat.le_succ _) this.2),Nat.le_succ _⟩
 |eff h=>exact qqt h hm hρ hC
end Go.AM
end
section
set_option linter.unusedSimpArgs false
set_option linter.unusedVariables false
namespace Go.AM
def qp9 (P:Program) (C:FuncId→Array Value→Mem→Value→Mem→Prop) (ops:List Oper) (o:Oper) (fr:Nat→Value) (m:Mem) (v:Value) (m':Mem) (k:Nat):Prop:=
 (k=0∧wanted ops fr o=false∧v=undef∧m'=m)∨
 (k=1∧wanted ops fr o=true∧PureR P (ev fr) o v∧m'=m)∨
 (k=2∧wanted ops fr o=true∧ReadR P (ev fr) o m v∧m'=m)∨
 (k=3∧wanted ops fr o=true∧∃X,NewR P (ev fr) o m.next X v∧m'=m.push X)∨
 (k=4∧wanted ops fr o=true∧EffR P C (ev fr) o m v m')
structure Tr (P:Program) (C:FuncId→Array Value→Mem→Value→Mem→Prop) (ops:List Oper) (B:Array Nat) (i:Nat) (l:List Oper) (fs:Nat→Nat→Value) (ms:Nat→Mem) (vs:Nat→Value) (kd:Nat→Nat):Prop where
 frame:∀n o,l[n]? =some o→fs (i+n+1)=set (fs (i+n)) o.dst (vs (i+n))
 run:∀n o,l[n]? =some o→qp9 P C ops o (fs (i+n)) (ms (i+n)) (vs (i+n)) (ms (i+n+1)) (kd (i+n))
 after:∀r e o,l[r]? =some o→kd (i+r)=2→e<l.length→kd (i+e)=4→r<e→anc B (i+e) (i+r)=false→ReadR P (ev (fs (i+r))) o (ms (i+e+1)) (vs (i+r))
 news:∀x e,x<l.length→kd (i+x)=3→e<l.length→kd (i+e)=4→x<e→anc B (i+e) (i+x)=false→(ms (i+e+1)).blk (ms (i+x)).next=(ms (i+e)).blk (ms (i+x)).next
 ahead:∀r e o,l[r]? =some o→kd (i+r)=2→e<l.length→kd (i+e)=4→e<r→anc B (i+r) (i+e)=false→ReadR P (ev (fs (i+r))) o (ms (i+e)) (vs (i+r))
theorem qs7 {P:Program} {C:FuncId→Array Value→Mem→Value→Mem→Prop} {ops:List Oper} {B:Array Nat}:∀(l:List Oper) (i:Nat) (A:Acc) (fr:Nat→Value) (m:Mem) (fr':Nat→Value) (m':Mem),qaK P C ops B i l A fr m fr' m'→
  ∃fs ms vs kd,Tr P C ops B i l fs ms vs kd∧fs i=fr∧ms i=m∧fs (i+l.length)=fr'∧ms (i+l.length)=m'∧
   (∀x∈A.reads,∀e,e<l.length→kd (i+e)=4→anc B (i+e) x.1=false→x.2 (ms (i+e+1)))∧
   (∀x∈A.effs,∀r o,l[r]? =some o→kd (i+r)=2→anc B (i+r) x.1=false→ReadR P (ev (fs (i+r))) o x.2 (vs (i+r)))∧
   (∀x∈A.news,∀e,e<l.length→kd (i+e)=4→anc B (i+e) x.1=false→(ms (i+e+1)).blk x.2=(ms (i+e)).blk x.2)
 |[],i,A,fr,m,fr',m',h=>by
  simp only[qaK] at h
  obtain ⟨rfl,rfl⟩:=h
  refine ⟨fun _=>fr',fun _=>m',fun _=>undef,fun _=>0,⟨?_, ?_, ?_, ?_, ?_⟩,rfl,rfl,rfl,rfl, ?_, ?_, ?_⟩
  all_goals (intros;simp at*)
 |o::os,i,A,fr,m,fr',m',h=>by
  have key:∀(v:Value) (m1:Mem) (k:Nat) (A':Acc),qp9 P C ops o fr m v m1 k→qaK P C ops B (i+1) os A' (set fr o.dst v) m1 fr' m'→
    (∀x∈A.reads,x∈A'.reads)→(∀x∈A.effs,x∈A'.effs)→(k=2→(i,fun m=>ReadR P (ev fr) o m v)∈A'.reads)→(k=4→(i,m)∈A'.effs)→
    (k=2→∀x∈A.effs,anc B i x.1=false→ReadR P (ev fr) o x.2 v)→(k=4→∀x∈A.reads,anc B i x.1=false→x.2 m1)→(∀x∈A.news,x∈A'.news)→(k=3→(i,m.next)∈A'.news)→(k=4→∀x∈A.news,anc B i x.1=false→m1.blk x.2=m.blk x.2)→
    ∃fs ms vs kd,Tr P C ops B i (o::os) fs ms vs kd∧fs i=fr∧ms i=m∧fs (i+(o::os).length)=fr'∧ms (i+(o::os).length)=m'∧
     (∀x∈A.reads,∀e,e<(o::os).length→kd (i+e)=4→anc B (i+e) x.1=false→x.2 (ms (i+e+1)))∧
     (∀x∈A.effs,∀r o',(o::os)[r]? =some o'→kd (i+r)=2→anc B (i+r) x.1=false→ReadR P (ev (fs (i+r))) o' x.2 (vs (i+r)))∧
     (∀x∈A.news,∀e,e<(o::os).length→kd (i+e)=4→anc B (i+e) x.1=false→(ms (i+e+1)).blk x.2=(ms (i+e)).blk x.2):=by
   intro v m1 k A' hrun hd hAr hAe hk2 hk4 hr2 hr4 hAn hk3 hn4
   obtain ⟨fs,ms,vs,kd,ht,h1,h2,h3,h4,h5,h6,h7⟩:=qs7 os (i+1) A' _ _ _ _ hd
   refine ⟨fun n=>if n=i then fr else fs n,fun n=>if n=i then m else ms n,fun n=>if n=i then v else vs n,fun n=>if n=i then k else kd n,⟨?_, ?_, ?_, ?_, ?_⟩,by simp,by simp, ?_, ?_, ?_, ?_, ?_⟩
   ·intro n o' hn
    cases n with
    |zero=>
     simp only[List.getElem?_cons_zero,Option.some.injEq] at hn
     subst hn
     simp only[Nat.add_zero,if_pos,Nat.succ_ne_self,if_false,Nat.add_eq_left,Nat.one_ne_zero,h1]
    |succ n=>
     have e1:i+(n+1)=i+1+n:=by omega
     have:=ht.frame n o' (by simpa using hn)
     rw[e1]
     simp only[show ¬(i+1+n+1=i) by omega,show ¬(i+1+n=i) by omega,if_false,this]
   ·intro n o' hn
    cases n with
    |zero=>
     simp only[List.getElem?_cons_zero,Option.some.injEq] at hn
     subst hn
     simp only[Nat.add_zero,if_pos,Nat.add_eq_left,Nat.one_ne_zero,if_false,h2]
     exact hrun
    |succ n=>
     have e1:i+(n+1)=i+1+n:=by omega
     have:=ht.run n o' (by simpa using hn)
     rw[e1]
     simp only[show ¬(i+1+n+1=i) by omega,show ¬(i+1+n=i) by omega,if_false]
     exact this
   ·intro r e o' hr hk he hke hre hanc
    cases e with
    |zero=>omega
    |succ e=>
     have e1:i+(e+1)=i+1+e:=by omega
     rw[e1] at hke hanc⊢
     simp only[show ¬(i+1+e=i) by omega,if_false] at hke
     simp only[show ¬(i+1+e+1=i) by omega,if_false]
     cases r with
     |zero=>
      simp only[List.getElem?_cons_zero,Option.some.injEq] at hr
      subst hr
      simp only[Nat.add_zero,if_pos] at hk hanc⊢
      exact h5 _ (hk2 hk) e (by simpa using he) hke hanc
     |succ r=>
      have e2:i+(r+1)=i+1+r:=by omega
      rw[e2] at hk hanc⊢
      simp only[show ¬(i+1+r=i) by omega,if_false] at hk⊢
      exact ht.after r e o' (by simpa using hr) hk (by simpa using he) hke (by omega) hanc
   ·intro x e hx hk he hke hxe hanc
    cases e with
    |zero=>omega
    |succ e=>
     have e1:i+(e+1)=i+1+e:=by omega
     rw[e1] at hke hanc⊢
     simp only[show ¬(i+1+e=i) by omega,if_false] at hke
     simp only[show ¬(i+1+e+1=i) by omega,show ¬(i+1+e=i) by omega,if_false]
     cases x with
     |zero=>
      simp only[Nat.add_zero,if_pos] at hk hanc⊢
      exact h7 _ (hk3 hk) e (by simpa using he) hke hanc
     |succ x=>
      have e2:i+(x+1)=i+1+x:=by omega
      rw[e2] at hk hanc⊢
      simp only[show ¬(i+1+x=i) by omega,if_false] at hk⊢
      exact ht.news x e (by simpa using hx) hk (by simpa using he) hke (by omega) hanc
   ·intro r e o' hr hk he hke hre hanc
    cases r with
    |zero=>omega
    |succ r=>
     have e2:i+(r+1)=i+1+r:=by omega
     rw[e2] at hk hanc⊢
     simp only[show ¬(i+1+r=i) by omega,if_false] at hk⊢
     cases e with
     |zero=>
      simp only[Nat.add_zero,if_pos] at hke hanc⊢
      exact h6 _ (hk4 hke) r o' (by simpa using hr) hk hanc
     |succ e=>
      have e1:i+(e+1)=i+1+e:=by omega
      rw[e1] at hke hanc⊢
      simp only[show ¬(i+1+e=i) by omega,if_false] at hke⊢
      exact ht.ahead r e o' (by simpa using hr) hk (by simpa using he) hke (by omega) hanc
   ·have e1:i+(o::os).length=i+1+os.length:=by simp;omega
    rw[e1]
    simp only[show ¬(i+1+os.length=i) by omega,if_false,h3]
   ·have e1:i+(o::os).length=i+1+os.length:=by simp;omega
    rw[e1]
    simp only[show ¬(i+1+os.length=i) by omega,if_false,h4]
   ·intro x hx e he hke hanc
    cases e with
    |zero=>
     simp only[Nat.add_zero,if_pos,Nat.add_eq_left,Nat.one_ne_zero,if_false,h2] at hke hanc⊢
     exact hr4 hke x hx hanc
    |succ e=>
     have e1:i+(e+1)=i+1+e:=by omega
     rw[e1] at hke hanc⊢
     simp only[show ¬(i+1+e=i) by omega,if_false] at hke
     simp only[show ¬(i+1+e+1=i) by omega,if_false]
     exact h5 x (hAr x hx) e (by simpa using he) hke hanc
   ·intro x hx r o' hr hk hanc
    cases r with
    |zero=>
     simp only[List.getElem?_cons_zero,Option.some.injEq] at hr
     subst hr
     simp only[Nat.add_zero,if_pos] at hk hanc⊢
     exact hr2 hk x hx hanc
    |succ r=>
     have e2:i+(r+1)=i+1+r:=by omega
     rw[e2] at hk hanc⊢
     simp only[show ¬(i+1+r=i) by omega,if_false] at hk⊢
     exact h6 x (hAe x hx) r o' (by simpa using hr) hk hanc
   ·intro x hx e he hke hanc
    cases e with
    |zero=>
     simp only[Nat.add_zero,if_pos,Nat.add_eq_left,Nat.one_ne_zero,if_false,h2] at hke hanc⊢
     exact hn4 hke x hx hanc
    |succ e=>
     have e1:i+(e+1)=i+1+e:=by omega
     rw[e1] at hke hanc⊢
     simp only[show ¬(i+1+e=i) by omega,if_false] at hke
     simp only[show ¬(i+1+e+1=i) by omega,show ¬(i+1+e=i) by omega,if_false]
     exact h7 x (hAn x hx) e (by simpa using he) hke hanc
  simp only[qaK] at h
  split at h
  ·rename_i hw
   rcases h with ⟨v,hp,hd⟩|⟨v,hp,hobl,hd⟩|⟨X,v,hp,hd⟩|⟨v,m1,hp,hobl,hobl2,hd⟩
   ·exact key v m 1 A (.inr (.inl ⟨rfl,hw,hp,rfl⟩)) hd (fun _ h=>h) (fun _ h=>h) (by simp) (by simp) (by simp) (by simp) (fun _ h=>h) (by simp) (by simp)
   ·exact key v m 2 _ (.inr (.inr (.inl ⟨rfl,hw,hp,rfl⟩))) hd (fun _ h=>by simp[h]) (fun _ h=>h) (fun _=>by simp) (by simp) (fun _=>hobl) (by simp) (fun _ h=>h) (by simp) (by simp)
   ·exact key v _ 3 _ (.inr (.inr (.inr (.inl ⟨rfl,hw,X,hp,rfl⟩)))) hd (fun _ h=>h) (fun _ h=>h) (by simp) (by simp) (by simp) (by simp) (fun _ h=>by simp[h]) (fun _=>by simp) (by simp)
   ·exact key v m1 4 _ (.inr (.inr (.inr (.inr ⟨rfl,hw,hp⟩)))) hd (fun _ h=>h) (fun _ h=>by simp[h]) (by simp) (fun _=>by simp) (by simp) (fun _=>hobl) (fun _ h=>h) (by simp) (fun _=>hobl2)
  ·rename_i hw
   exact key undef m 0 A (.inl ⟨rfl,by simpa using hw,rfl,rfl⟩) h (fun _ h=>h) (fun _ h=>h) (by simp) (by simp) (by simp) (by simp) (fun _ h=>h) (by simp) (by simp)
end Go.AM
end
section
set_option linter.unusedSimpArgs false
set_option linter.unusedVariables false
namespace Go.AM
def qfn (P:Program) (C:FuncId→Array Value→Mem→Value→Mem→Prop):Prop:=∀f args m v m',C f args m v m'→∀(j:Emb) (w:World) (cargs:Array Value),WF m→Rel P j m w→L2 (VR j) args.toList cargs.toList→
 (∃ fn, P.funcs[f]? = some fn ∧ (fn.name == "runtime.NumGoroutine") = false ∧ fn.body.isNone = false) ∧
 Calls P f cargs w fun e w'=>∃cv j',e= .returned cv∧Post P j m w j' m' w'∧VR j' v cv
theorem qjP {j:Emb} {n:Nat} (hj:∀b e,j b=some e→b<n) {v cv:Value}:(VR0 j v cv→low0 n v)∧(VR1 j v cv→low1 n v)∧(VR j v cv→low n v):=by
 have hl:∀{R:Value→Value→Prop} {p:Value→Prop},(∀a b,R a b→p a)→∀{l k:List Value},L2 R l k→∀v∈l,p v:=by
  intro R p hRp l
  induction l with
  |nil=>intro k _ v hv;simp at hv
  |cons a l ih=>
   intro k h v hv
   cases k with
   |nil=>exact h.elim
   |cons b k=>
    rcases List.mem_cons.1 hv with rfl|hv
    ·exact hRp _ _ h.1
    ·exact ih h.2 v hv
 have hq:∀v cv:Value,VRp j v cv→lowP n v:=by
  intro v cv h
  unfold VRp at h
  split at h
  ·obtain ⟨e,_,h,_⟩:=h;exact hj _ _ h
  ·exact h.elim
 have h0:∀{v cv:Value},VR0 j v cv→low0 n v:=by
  intro v cv h
  cases v with
  |pointer a=>cases a with
   |none=>exact True.intro
   |some a=>obtain ⟨e,_,h,_⟩:=h;exact hj _ _ h
  |slice a l c=>cases a with
   |none=>exact True.intro
   |some a=>obtain ⟨e,_,h,_⟩:=h;exact hj _ _ h
  |map r=>cases r with
   |none=>exact True.intro
   |some r=>obtain ⟨e,h,_⟩:=h;exact hj _ _ h
  |chan _=>exact h
  |func _ _ _=>obtain ⟨e1,ds,_,h⟩:=h;exact ⟨e1,hl (R:=VRp j) (p:=lowP n) hq h⟩
  |iface _ _=>exact h
  |agg _=>exact h
  |tuple _=>exact h
  |_=>exact True.intro
 have h1:∀{v cv:Value},VR1 j v cv→low1 n v:=by
  intro v cv h
  cases v with
  |agg cs=>obtain ⟨ds,_,h⟩:=h;exact hl (R:=VR0 j) (p:=low0 n) (fun a b=>h0) h
  |_=>simp only[VR1] at h;simp only[low1];exact h0 h
 refine ⟨h0,h1, ?_⟩
 intro h
 cases v with
 |tuple cs=>obtain ⟨ds,_,h⟩:=h;exact hl (R:=VR1 j) (p:=low1 n) (fun a b=>h1) h
 |chan _=>trivial
 |func fn a b=>obtain ⟨gs,ds,_,h,h'⟩:=h;exact ⟨hl (R:=VR1 j) (p:=low1 n) (fun a b=>h1) h,hl (R:=VR1 j) (p:=low1 n) (fun a b=>h1) h'⟩
 |_=>simp only[VR] at h;simp only[low];exact h1 h
def Emb.below (j:Emb) (n:Nat):Emb:=fun b=>if b<n then j b else none
theorem qaC {j:Emb} {n b:Nat} {e:Emb1} (h:j.below n b=some e):b<n∧j b=some e:=by
 unfold Emb.below at h
 split at h
 ·exact ⟨‹_›,h⟩
 ·cases h
theorem qej {j:Emb} {n b:Nat} {e:Emb1} (h:b<n) (hj:j b=some e):j.below n b=some e:=by simp[Emb.below,h,hj]
theorem qbV {j:Emb} {n:Nat} {v cv:Value}:(VR0 j v cv→low0 n v→VR0 (j.below n) v cv)∧(VR1 j v cv→low1 n v→VR1 (j.below n) v cv)∧(VR j v cv→low n v→VR (j.below n) v cv):=by
 have hl2:∀{R S:Value→Value→Prop} {p:Value→Prop},(∀a b,R a b→p a→S a b)→∀{l k:List Value},L2 R l k→(∀v∈l,p v)→L2 S l k:=by
  intro R S p hRS l
  induction l with
  |nil=>intro k h _;cases k with|nil=>exact True.intro|cons _ _=>exact h.elim
  |cons a l ih=>
   intro k h hp
   cases k with
   |nil=>exact h.elim
   |cons b k=>exact ⟨hRS _ _ h.1 (hp a (by simp)),ih h.2 fun v hv=>hp v (by simp[hv])⟩
 have hq:∀v cv:Value,VRp j v cv→lowP n v→VRp (j.below n) v cv:=by
  intro v cv h hl
  unfold VRp at h⊢
  split at h
  ·obtain ⟨e,h1,h2,h3⟩:=h;exact ⟨e,h1,qej hl h2,h3⟩
  ·exact h.elim
 have h0:∀{v cv:Value},VR0 j v cv→low0 n v→VR0 (j.below n) v cv:=by
  intro v cv h hl
  cases v with
  |func _ _ _=>obtain ⟨e1,ds,e2,h⟩:=h;exact ⟨e1,ds,e2,hl2 (R:=VRp j) (S:=VRp (j.below n)) (p:=lowP n) hq h hl.2⟩
  |pointer a=>cases a with
   |none=>exact h
   |some a=>obtain ⟨e,h1,h2,h3⟩:=h;exact ⟨e,h1,qej hl h2,h3⟩
  |slice a l c=>cases a with
   |none=>exact h
   |some a=>obtain ⟨e,h1,h2,h3⟩:=h;exact ⟨e,h1,qej hl h2,h3⟩
  |map r=>cases r with
   |none=>exact h
   |some r=>obtain ⟨e,h2,h3⟩:=h;exact ⟨e,qej hl h2,h3⟩
  |_=>exact h
 have h1:∀{v cv:Value},VR1 j v cv→low1 n v→VR1 (j.below n) v cv:=by
  intro v cv h hl
  cases v with
  |agg cs=>obtain ⟨ds,e1,h⟩:=h;exact ⟨ds,e1,hl2 (R:=VR0 j) (S:=VR0 (j.below n)) (p:=low0 n) (fun a b=>h0) h hl⟩
  |_=>simp only[VR1] at h⊢;simp only[low1] at hl;exact h0 h hl
 refine ⟨h0,h1, ?_⟩
 intro h hl
 cases v with
 |tuple cs=>obtain ⟨ds,e1,h⟩:=h;exact ⟨ds,e1,hl2 (R:=VR1 j) (S:=VR1 (j.below n)) (p:=low1 n) (fun a b=>h1) h hl⟩
 |chan _=>exact h
 |func fn a b=>obtain ⟨gs,ds,e1,h,h'⟩:=h;exact ⟨gs,ds,e1,hl2 (R:=VR1 j) (S:=VR1 (j.below n)) (p:=low1 n) (fun a b=>h1) h hl.1,hl2 (R:=VR1 j) (S:=VR1 (j.below n)) (p:=low1 n) (fun a b=>h1) h' hl.2⟩
 |_=>simp only[VR] at h⊢;simp only[low] at hl;exact h1 h hl
theorem L2.mapA {α β γ:Type} {R:β→γ→Prop} (f:α→β) (g:α→γ) (A:Array α) (h:∀x∈A.toList,R (f x) (g x)):L2 R (A.map f).toList (A.map g).toList:=by
 simp only[Array.toList_map];exact L2.map f g _ h
theorem qhE {P : Program} {f : FuncId} {fn : Func} {args : Array Value} {w : World} (hf : P.funcs[f]? = some fn) (hname : (fn.name == "runtime.NumGoroutine") = false) (hbody : fn.body.isNone = false) : (callFunc f args).run P w = .ok (.enter f args) w := by
 simp only[callFunc,Sem.run_bind,run_program,Result.andThen_ok,hf,hname,hbody,if_false,Bool.false_eq_true,Sem.run_pure]
theorem qpz {P:Program} {C:FuncId→Array Value→Mem→Value→Mem→Prop} {j:Emb} {ρ:Operand→Value} {o:Oper} {m m':Mem} {w:World} {v:Value} {a:Act} (h:EffR P C ρ o m v m') (hO:OpsR j ρ a.eval o) (hR:Rel P j m w) (hW:WF m) (hS:qfn P C)
  {K:Act→World→Prop} {Q:Exit→Act→World→Prop} (hK:∀cv w' j',Post P j m w j' m' w'→VR j' v cv→K (a.put o.dst cv) w'):o.wp P a w K Q:=by
 rcases qlI h hO hR with ⟨n,cv,w',j',hr,hn,hp,hv⟩|⟨f,args,hc,hC⟩
 ·unfold Oper.wp
  rw[hr]
  rcases hn with rfl|⟨rfl,rfl⟩
  ·exact hK cv w' j' hp hv
  ·exact hK undef w' j' hp hv
 ·obtain ⟨x,as,ts,first,captured,hop,hx,rfl⟩:=hc
  have hX:=hO x (by simp[hop,Op.operands,Call.operands])
  rw[hx] at hX
  obtain ⟨gs,ds,hcx,h1,h2⟩:=hX
  have hargs:L2 (VR j) (first++as.map ρ++captured).toList (gs++as.map a.eval++ds).toList:=by
   simp only[Array.toList_append]
   refine L2.append (L2.append (h1.mono fun _ _=>VR.of1) (L2.mapA _ _ _ fun y hy=> ?_)) (h2.mono fun _ _=>VR.of1)
   exact hO y (by simp[hop,Op.operands,Call.operands];exact .inr (by simpa using hy))
  obtain ⟨⟨fn,hf,hname,hbody⟩,hcalls⟩:=hS _ _ _ _ _ hC j w _ hW hR hargs
  have hrun:(execOp a.eval o).run P w= .ok (.enter f (gs++as.map a.eval++ds)) w:=by
   simp only[execOp,hop,resolve,hcx,Deferred.ofValue,invoke,Sem.run_bind,Sem.run_pure,Result.andThen_ok,qhE hf hname hbody]
  unfold Oper.wp
  rw[hrun,Oper.upon_enter]
  refine hcalls.mono ?_
  rintro e w' ⟨cv,j',rfl,hp,hv⟩
  exact hK cv w' j' hp hv
end Go.AM
end
section
set_option linter.unusedSimpArgs false
set_option linter.unusedVariables false
namespace Go.AM
theorem qlG {ops:Array Oper} (h:qd4 ops=true) {i:Nat} {o:Oper} (ho:ops[i]? =some o) {e:Edge} (he:e∈o.after) (hb:Region.binds .any e=true):e.on<i:=by
 simp only[qd4,List.all_eq_true,List.mem_range] at h
 have:=h i (Array.getElem?_eq_some_iff.1 ho).1
 simp only[ho,Bool.and_eq_true,List.all_eq_true] at this
 have:=this.1 e (by simpa using he)
 simpa[hb] using this
theorem qcg {ops:Array Oper} (h:qd4 ops=true) {i x:Nat} {o y:Oper} (ho:ops[i]? =some o) (hy:ops[x]? =some y) (hx:x<i) (hc:clash ops y o=true):anc (Region.before ops) i x=true:=by
 simp only[qd4,List.all_eq_true,List.mem_range] at h
 have:=h i (Array.getElem?_eq_some_iff.1 ho).1
 simp only[ho,Bool.and_eq_true,List.all_eq_true] at this
 have:=this.2 x (by simpa using hx)
 simpa[hy,hc] using this
def qjN (ops:Array Oper) (S:Nat→Prop):Prop:=∀a o,S a→ops[a]? =some o→∀e∈o.after,Region.binds .any e=true→S e.on
def qfe (acc:Array Nat) (o:Oper):Array Nat:=acc.push (o.after.foldl (fun s e=>if Region.binds .any e then s|||2 ^ e.on|||acc.getD e.on 0 else s) 0)
def Good (ops:Array Oper) (i bits:Nat):Prop:=∀x,bits.testBit x=true→∀S,qjN ops S→(∀o,ops[i]? =some o→∀e∈o.after,Region.binds .any e=true→S e.on)→S x
theorem qhA (acc:Array Nat):∀(l:List Edge) (s x:Nat),(l.foldl (fun s e=>if Region.binds .any e then s|||2 ^ e.on|||acc.getD e.on 0 else s) s).testBit x=true→
  s.testBit x=true∨∃e∈l,Region.binds .any e=true∧(x=e.on∨(acc.getD e.on 0).testBit x=true)
 |[],s,x,h=> .inl h
 |e::l,s,x,h=>by
  simp only[List.foldl_cons] at h
  rcases qhA acc l _ x h with h|⟨e',he',hb,hx⟩
  ·split at h
   ·rename_i hb
    simp only[Nat.testBit_or,Bool.or_eq_true,Nat.testBit_two_pow,decide_eq_true_eq] at h
    rcases h with (h|h)|h
    ·exact .inl h
    ·exact .inr ⟨e,by simp,hb, .inl h.symm⟩
    ·exact .inr ⟨e,by simp,hb, .inr h⟩
   ·exact .inl h
  ·exact .inr ⟨e',by simp[he'],hb,hx⟩
theorem qeD {ops:Array Oper}:∀(l pre:List Oper) (acc:Array Nat),ops.toList=pre++l→acc.size=pre.length→(∀i,i<acc.size→Good ops i (acc.getD i 0))→
  ∀i,Good ops i ((l.foldl qfe acc).getD i 0)
 |[],pre,acc,hp,hs,hg=>by
  intro i
  by_cases hi:i<acc.size
  ·exact hg i hi
  ·simp only[List.foldl_nil]
   intro x hx
   simp[Array.getD,hi] at hx
 |o::l,pre,acc,hp,hs,hg=>by
  simp only[List.foldl_cons]
  refine qeD l (pre++[o]) (qfe acc o) (by simp[hp]) (by simp[qfe,hs]) ?_
  intro i hi
  by_cases h:i<acc.size
  ·have:(qfe acc o).getD i 0=acc.getD i 0:=by
    simp only[qfe,Array.getD,Array.size_push,h,Nat.lt_succ_of_lt h,dite_true]
    simp[Array.getElem_push,h]
   rw[this];exact hg i h
  ·have hie:i=acc.size:=by simp[qfe] at hi;omega
   subst hie
   have hoi:ops[acc.size]? =some o:=by
    rw[←Array.getElem?_toList,hp,hs];simp
   intro x hx S hS hd
   have hb:(qfe acc o).getD acc.size 0=o.after.foldl (fun s e=>if Region.binds .any e then s|||2 ^ e.on|||acc.getD e.on 0 else s) 0:=by
    simp[qfe,Array.getD]
   rw[hb,←Array.foldl_toList] at hx
   rcases qhA acc _ 0 x hx with h0|⟨e,he,hbn,hxe⟩
   ·simp at h0
   ·have hse:=hd o hoi e (by simpa using he) hbn
    rcases hxe with rfl|hxe
    ·exact hse
    ·by_cases hlt:e.on<acc.size
     ·exact hg e.on hlt x hxe S hS fun o' ho' e' he' hb'=>hS e.on o' hse ho' e' he' hb'
     ·simp[Array.getD,hlt] at hxe
theorem qfq {ops:Array Oper} {i x:Nat} (h:anc (Region.before ops) i x=true) {S:Nat→Prop} (hS:qjN ops S) (hd:∀o,ops[i]? =some o→∀e∈o.after,Region.binds .any e=true→S e.on):S x:=by
 have hb:Region.before ops=ops.toList.foldl qfe #[]:=by
  rw[show Region.before ops=ops.foldl qfe #[] from rfl,←Array.foldl_toList]
 have:=qeD (ops:=ops) ops.toList [] #[] (by simp) (by simp) (by intro i hi;simp at hi) i
 rw[←hb] at this
 exact this x h S hS hd
theorem qg0 {P:Program} {C:FuncId→Array Value→Mem→Value→Mem→Prop} {ops:List Oper} {B:Array Nat} {fs:Nat→Nat→Value} {ms:Nat→Mem} {vs:Nat→Value} {kd:Nat→Nat} (T:Tr P C ops B 0 ops fs ms vs kd)
  (hC:qb7 C) (hX:∀o∈ops,∀x∈o.op.operands,okX x=true) (h0:WF (ms 0)) (hl:∀t,low (ms 0).next (fs 0 t)):∀i,i≤ops.length→WF (ms i)∧(∀t,low (ms i).next (fs i t))∧(∀n,n<i→(ms n).next≤(ms (n+1)).next∧low (ms (n+1)).next (vs n))
 |0,_=>⟨h0,hl,fun n hn=>by omega⟩
 |i+1,hi=>by
  obtain ⟨h1,h2,h3⟩:=qg0 T hC hX h0 hl i (by omega)
  have ho:ops[i]? =some ops[i]:=by simp[show i<ops.length by omega]
  have hr:=T.run i ops[i] ho
  have hf:=T.frame i ops[i] ho
  simp only[Nat.zero_add] at hr hf
  have hm:=hX ops[i] (by simp)
  have step:low (ms (i+1)).next (vs i)∧WF (ms (i+1))∧(ms i).next≤(ms (i+1)).next:=by
   rcases hr with ⟨_,_,hv,hmm⟩|⟨_,_,hp,hmm⟩|⟨_,_,hp,hmm⟩|⟨_,_,Xb,hp,hmm⟩|⟨_,_,hp⟩
   ·rw[hmm,hv];exact ⟨qcD,h1,Nat.le_refl _⟩
   ·rw[hmm];exact qb5 (.pure hp) h1 h2 hC hm
   ·rw[hmm];exact qb5 (.read hp) h1 h2 hC hm
   ·rw[hmm];exact qb5 (.new hp) h1 h2 hC hm
   ·exact qb5 (.eff hp) h1 h2 hC hm
  refine ⟨step.2.1, ?_, ?_⟩
  ·rw[hf]
   exact qfa (fun t=>qeq step.2.2 (h2 t)) step.1
  ·intro n hn
   by_cases hni:n=i
   ·subst hni;exact ⟨step.2.2,step.1⟩
   ·exact h3 n (by omega)
theorem qfZ {ms:Nat→Mem} {vs:Nat→Value} {k:Nat} (h:∀n,n<k→(ms n).next≤(ms (n+1)).next∧low (ms (n+1)).next (vs n)):∀b a,a≤b→b≤k→(ms a).next≤(ms b).next
 |0,a,h1,h2=>by
  have:a=0:=by omega
  subst this;exact Nat.le_refl _
 |b+1,a,h1,h2=>by
  by_cases e:a=b+1
  ·subst e;exact Nat.le_refl _
  ·exact Nat.le_trans (qfZ h b a (by omega) (by omega)) (h b (by omega)).1
theorem qd0 {P:Program} {C:FuncId→Array Value→Mem→Value→Mem→Prop} {ops:List Oper} {B:Array Nat} {fs:Nat→Nat→Value} {ms:Nat→Mem} {vs:Nat→Value} {kd:Nat→Nat} (T:Tr P C ops B 0 ops fs ms vs kd) (t:Nat):
  ∀i,i≤ops.length→((∃x o,x<i∧ops[x]? =some o∧o.dst=some t∧fs i t=vs x∧∀y p,x<y→y<i→ops[y]? =some p→p.dst≠some t)∨
   ((∀x o,x<i→ops[x]? =some o→o.dst≠some t)∧fs i t=fs 0 t))
 |0,_=> .inr ⟨fun x o hx=>by omega,rfl⟩
 |i+1,hi=>by
  have ho:ops[i]? =some ops[i]:=by simp[show i<ops.length by omega]
  have hf:=T.frame i ops[i] ho
  simp only[Nat.zero_add] at hf
  by_cases hd:ops[i].dst=some t
  ·left
   refine ⟨i,ops[i],by omega,ho,hd, ?_,fun y p h1 h2=>by omega⟩
   rw[hf,hd];simp[set]
  ·have he:fs (i+1) t=fs i t:=by
    rw[hf]
    cases hdd:ops[i].dst with
    |none=>rfl
    |some d=>
     have:t≠d:=by intro h;subst h;exact hd hdd
     simp[set,this]
   rcases qd0 T t i (by omega) with ⟨x,o,h1,h2,h3,h4,h5⟩|⟨h1,h2⟩
   ·left
    refine ⟨x,o,by omega,h2,h3,by rw[he];exact h4,fun y p hy1 hy2 hp=> ?_⟩
    by_cases hyi:y=i
    ·subst hyi;rw[ho] at hp;cases hp;exact hd
    ·exact h5 y p hy1 (by omega) hp
   ·right
    refine ⟨fun x o hx hp=> ?_,by rw[he];exact h2⟩
    by_cases hyi:x=i
    ·subst hyi;rw[ho] at hp;cases hp;exact hd
    ·exact h1 x o (by omega) hp
theorem qcP {P:Program} {C:FuncId→Array Value→Mem→Value→Mem→Prop} {ops:List Oper} {B:Array Nat} {fs:Nat→Nat→Value} {ms:Nat→Mem} {vs:Nat→Value} {kd:Nat→Nat} (T:Tr P C ops B 0 ops fs ms vs kd) {s:Nat}:
  ∀z,s≤z→z≤ops.length→(∀e,s≤e→e<z→kd e≠4)→(∀b,b<(ms s).next→(ms z).blk b=(ms s).blk b)∧
   (∀x,s≤x→x<z→kd x=3→∀o Xb,ops[x]? =some o→ms (x+1)=(ms x).push Xb→(ms z).blk (ms x).next=Xb)∧(∀x,s≤x→x<z→(ms x).next≤(ms z).next∧(kd x=3→(ms x).next<(ms z).next))
 |z,hsz,hz,hne=>by
  induction z with
  |zero=>
   have:s=0:=by omega
   subst this
   exact ⟨fun _ _=>rfl,fun x h1 h2=>by omega,fun x h1 h2=>by omega⟩
  |succ z ih=>
   by_cases hs:s=z+1
   ·subst hs
    exact ⟨fun _ _=>rfl,fun x h1 h2=>by omega,fun x h1 h2=>by omega⟩
   ·obtain ⟨h1,h2,h3⟩:=ih (by omega) (by omega) (fun e he1 he2=>hne e he1 (by omega))
    have ho:ops[z]? =some ops[z]:=by simp[show z<ops.length by omega]
    have hr:=T.run z ops[z] ho
    simp only[Nat.zero_add] at hr
    have hsn:(ms s).next≤(ms z).next:=by
     by_cases e:s=z
     ·subst e;exact Nat.le_refl _
     ·exact (h3 s (Nat.le_refl _) (by omega)).1
    have same:ms (z+1)=ms z→kd z≠3→(∀b,b<(ms s).next→(ms (z+1)).blk b=(ms s).blk b)∧(∀x,s≤x→x<z+1→kd x=3→∀o Xb,ops[x]? =some o→ms (x+1)=(ms x).push Xb→(ms (z+1)).blk (ms x).next=Xb)∧(∀x,s≤x→x<z+1→(ms x).next≤(ms (z+1)).next∧(kd x=3→(ms x).next<(ms (z+1)).next)):=fun he hk=>⟨fun b hb=>by rw[he];exact h1 b hb,
     fun x hx1 hx2 hk' o Xb hop hm=>by
      by_cases e:x=z
      ·subst e;exact absurd hk' hk
      ·rw[he];exact h2 x hx1 (by omega) hk' o Xb hop hm,
     fun x hx1 hx2=>by
      rw[he]
      by_cases e:x=z
      ·subst e;exact ⟨Nat.le_refl _,fun hk'=>absurd hk' hk⟩
      ·exact h3 x hx1 (by omega)⟩
    rcases hr with ⟨hk,_,hv,hmm⟩|⟨hk,_,hp,hmm⟩|⟨hk,_,hp,hmm⟩|⟨hk,_,Xb,hp,hmm⟩|⟨hk,_,hp⟩
    ·exact same hmm (by omega)
    ·exact same hmm (by omega)
    ·exact same hmm (by omega)
    ·refine ⟨fun b hb=> ?_,fun x hx1 hx2 hk' o Yb hop hm=> ?_,fun x hx1 hx2=> ?_⟩
     ·rw[hmm,←h1 b hb]
      simp only[Mem.push]
      rw[if_neg (by omega)]
     ·by_cases e:x=z
      ·subst e
       rw[hm];simp[Mem.push]
      ·have hlt:=(h3 x hx1 (by omega)).2 hk'
       rw[hmm,←h2 x hx1 (by omega) hk' o Yb hop hm]
       simp only[Mem.push]
       rw[if_neg (by omega)]
     ·by_cases e:x=z
      ·subst e
       rw[hmm];simp[Mem.push]
      ·have:=h3 x hx1 (by omega)
       rw[hmm];simp only[Mem.push]
       exact ⟨by omega,fun hk'=>by have:=this.2 hk';omega⟩
    ·exact absurd hk (hne z (by omega) (by omega))
end Go.AM
end
section
set_option linter.unusedSimpArgs false
set_option linter.unusedVariables false
namespace Go.AM
theorem Rel.place {P:Program} {j:Emb} {M:Mem} {w w':World} {b0:Nat} {X:Blk} {e:Emb1} {ob:Obj} (h:Rel P j M w) (hn:j b0=none) (hb:b0<M.next) (N:NewOk P j w w' X e ob):
  Rel P (j.up b0 e) (M.put b0 X) w':=by
 have hle:=Emb.up_le (e:=e) hn
 have hold:∀c,c<w.heap.size→w'.heap[c]? =w.heap[c]? :=fun c hc=>by rw[N.heap,Array.getElem?_push,if_neg (by omega)]
 have hsize:w'.heap.size=w.heap.size+1:=by rw[N.heap];simp
 have hnew:w'.heap[w.heap.size]? =some ob:=by rw[N.heap];simp
 have hblk:∀b,b≠b0→(M.put b0 X).blk b=M.blk b:=fun b hb=>by simp[Mem.put,hb]
 have hput:(M.put b0 X).blk b0=X:=by simp[Mem.put]
 have hup:∀b x,j.up b0 e b=some x→b≠b0→j b=some x:=fun b x hb hne=>by simpa[Emb.up,hne] using hb
 have hself:∀x,j.up b0 e b0=some x→x=e:=fun x hx=>by simpa[Emb.up] using hx.symm
 refine ⟨?_, ?_, ?_⟩
 ·intro b x hb'
  by_cases hbn:b=b0
  ·subst hbn
   have:=hself x hb'
   subst this
   exact ⟨hb,by rw[N.blk];omega⟩
  ·have:=h.lt b x (hup b x hb' hbn)
   exact ⟨this.1,by omega⟩
 ·intro b x hb'
  by_cases hbn:b=b0
  ·subst hbn
   have hx:=hself x hb'
   subst hx
   rw[hput,N.blk,hnew]
   exact N.obj.mono hle
  ·have hjb:=hup b x hb' hbn
   rw[hblk b hbn,hold _ (h.lt b x hjb).2]
   exact (h.obj b x hjb).mono hle
 ·intro b b' x x' hb1 hb1' ho hl' hxx
  by_cases hbn:b=b0
  ·by_cases hbn':b'=b0
   ·rw[hbn,hbn']
   ·have hx:x=e:=by subst hbn;exact hself x hb1
    have:=(h.lt b' x' (hup b' x' hb1' hbn')).2
    rw[←hxx,hx,N.blk] at this
    omega
  ·have hjb:=hup b x hb1 hbn
   by_cases hbn':b'=b0
   ·have hx:x'=e:=by subst hbn';exact hself x' hb1'
    have:=(h.lt b x hjb).2
    rw[hxx,hx,N.blk] at this
    omega
   ·rw[hblk b hbn] at ho
    rw[hblk b' hbn'] at hl'
    exact h.inj b b' x x' hjb (hup b' x' hb1' hbn') ho hl' hxx
theorem qiJ {P:Program} {j:Emb} {n:Nat} {vt:TypeId} {cs:List Value} {cv:Value} (h:VR1 j (qal (qaj P vt) cs) cv) (hl:∀c∈cs,low0 n c):VR1 (j.below n) (qal (qaj P vt) cs) cv:=by
 refine qbV.2.1 h ?_
 cases ha:qaj P vt with
 |true=>simpa[qal,low1] using hl
 |false=>
  cases cs with
  |nil=>rw[ha] at h;exact absurd h (by simp[qal,VR1,VR0,undef])
  |cons c cs=>exact qep (hl c (by simp))
theorem ObjR.below {P:Program} {j:Emb} {n:Nat} {e:Emb1} {o:Option Obj} {x:Blk} (h:ObjR P j e o x) (hl:lowB n x):ObjR P (j.below n) e o x:=by
 cases x with
 |dead=>trivial
 |ro rd=>
  intro i v hi
  obtain ⟨cs,t,fz,cv,h1,h2,h3⟩:=h i v hi
  exact ⟨cs,t,fz,cv,h1,h2,qbV.1 h3 (hl i v hi)⟩
 |own L t=>
  obtain ⟨cs,fz,h1,h2,h3,h4,h5,h6⟩:=h
  refine ⟨cs,fz,h1,h2,h3,h4,h5,fun i v hi=> ?_⟩
  obtain ⟨cv,g1,g2⟩:=h6 i v hi
  exact ⟨cv,g1,qbV.1 g2 (hl v (List.mem_of_getElem? hi))⟩
 |lock _ _ _ _=>exact h.elim
 |map L u=>
  obtain ⟨kt,vt,cs,clock,E,h1,h2,h3,h4,h5⟩:=h
  have hE:∀p∈E,∀c∈p.2,low0 n c:=fun p hp c hc=>hl c (by rw[h3.eq];exact List.mem_flatMap.2 ⟨p,hp,by simp[hc]⟩)
  refine ⟨kt,vt,cs,clock,E,h1,h2,h3, ?_,h5⟩
  clear h1 h3 hl h5
  generalize cs.toList=cl at h4
  induction E generalizing cl with
  |nil=>cases cl with
   |nil=>trivial
   |cons _ _=>exact h4.elim
  |cons p E ih=>
   cases cl with
   |nil=>exact h4.elim
   |cons x cl=>exact ⟨⟨h4.1.1,h4.1.2.1,qiJ h4.1.2.2 (hE p (by simp))⟩,ih (fun q hq=>hE q (by simp[hq])) cl h4.2⟩
theorem Rel.below {P:Program} {j:Emb} {M m:Mem} {w:World} (h:Rel P j M w) (hW:WF m) (ha:∀b e,j b=some e→b<m.next→M.blk b=m.blk b):Rel P (j.below m.next) m w:=by
 refine ⟨?_, ?_, ?_⟩
 ·intro b e hb
  obtain ⟨h1,h2⟩:=qaC hb
  exact ⟨h1,(h.lt b e h2).2⟩
 ·intro b e hb
  obtain ⟨h1,h2⟩:=qaC hb
  rw[←ha b e h2 h1]
  exact (h.obj b e h2).below (by rw[ha b e h2 h1];exact hW.low b)
 ·intro b b' e e' hb hb' ho hl hee
  obtain ⟨h1,h2⟩:=qaC hb
  obtain ⟨h1',h2'⟩:=qaC hb'
  exact h.inj b b' e e' h2 h2' (by rw[ha b e h2 h1];exact ho) (by rw[ha b' e' h2' h1'];exact hl) hee
def Emb.join (j1:Emb) (n:Nat) (j:Emb):Emb:=fun b=>if b<n then j1 b else j b
def Mem.join (m1:Mem) (M:Mem):Mem:={next:=M.next,blk:=fun b=>if b<m1.next then m1.blk b else M.blk b}
theorem Rel.join {P:Program} {j j1:Emb} {M m m1:Mem} {w w':World} (h:Rel P j M w) (ha:∀b e,j b=some e→b<m.next→M.blk b=m.blk b) (p:Post P (j.below m.next) m w j1 m1 w')
  (hg:∀b e,j b=some e→b<m.next∨m1.next≤b) (hbig:m1.next≤M.next):
  Rel P (j1.join m1.next j) (m1.join M) w'∧(∀b e,j b=some e→j1.join m1.next j b=some e)∧(∀b e,j1 b=some e→j1.join m1.next j b=some e):=by
 have hn:=p.next
 have up1:∀b e,j1 b=some e→j1.join m1.next j b=some e:=fun b e hb=>by
  have:=(p.rel.lt b e hb).1
  simp[Emb.join,this,hb]
 have lowEq:∀b,b<m.next→j1 b=j b:=fun b hb=>by rw[p.ext b hb];simp[Emb.below,hb]
 have up:∀b e,j b=some e→j1.join m1.next j b=some e:=fun b e hb=>by
  rcases hg b e hb with h1|h1
  ·simp[Emb.join,show b<m1.next by omega,lowEq b h1,hb]
  ·simp[Emb.join,show ¬b<m1.next by omega,hb]
 have split:∀b e,j1.join m1.next j b=some e→(b<m1.next∧j1 b=some e)∨(m1.next≤b∧j b=some e):=fun b e hb=>by
  unfold Emb.join at hb
  split at hb
  ·exact .inl ⟨‹_›,hb⟩
  ·exact .inr ⟨by omega,hb⟩
 have blk1:∀b,b<m1.next→(m1.join M).blk b=m1.blk b:=fun b hb=>by simp[Mem.join,hb]
 have blk2:∀b,m1.next≤b→(m1.join M).blk b=M.blk b:=fun b hb=>by simp[Mem.join,show ¬b<m1.next by omega]
 have far:∀b e,j b=some e→m1.next≤b→(M.blk b).live=true→w'.heap[e.blk]? =w.heap[e.blk]? :=fun b e hb hge hl=>by
  refine p.frm.block e.blk (h.lt b e hb).2 fun b0 e0 hb0 ho he=> ?_
  obtain ⟨h1,h2⟩:=qaC hb0
  have:=h.inj b0 b e0 e h2 hb (by rw[ha b0 e0 h2 h1];exact ho) hl he
  omega
 refine ⟨⟨?_, ?_, ?_⟩,up,up1⟩
 ·intro b e hb
  rcases split b e hb with ⟨h1,h2⟩|⟨h1,h2⟩
  ·exact ⟨by simp only[Mem.join];omega,(p.rel.lt b e h2).2⟩
  ·have:=h.lt b e h2
   exact ⟨this.1,Nat.lt_of_lt_of_le this.2 p.frm.size⟩
 ·intro b e hb
  rcases split b e hb with ⟨h1,h2⟩|⟨h1,h2⟩
  ·rw[blk1 b h1]
   exact (p.rel.obj b e h2).mono up1
  ·rw[blk2 b h1]
   cases hl:(M.blk b).live with
   |false=>
    cases hb:M.blk b<;>simp[hb,Blk.live] at hl
    trivial
   |true=>
    rw[far b e h2 h1 hl]
    exact (h.obj b e h2).mono up
 ·
  have cross:∀b b' e e',b<m1.next→j1 b=some e→m1.next≤b'→j b'=some e'→(M.blk b').live=true→(((m1.blk b).isOwn=true)∨((M.blk b').isOwn=true∧(m1.blk b).live=true))→e.blk≠e'.blk:=by
   intro b b' e e' h1 h2 h1' h2' hl' hor hee
   rcases Nat.lt_or_ge b m.next with hlt|hge
   ·have hjb:j b=some e:=by rw[←lowEq b hlt];exact h2
    have hbe:b=b':=by
     rcases hor with ho|⟨ho',hl⟩
     ·exact h.inj b b' e e' hjb h2' (by rw[ha b e hjb hlt];exact p.old b hlt ho) hl' hee
     ·exact (h.inj b' b e' e h2' hjb ho' (by rw[ha b e hjb hlt];exact p.alive b hlt hl) hee.symm).symm
    omega
   ·rcases p.fresh b e h2 hge with hf|⟨b0,e0,hb0,ho0,he0⟩
    ·have:=(h.lt b' e' h2').2
     omega
    ·obtain ⟨g1,g2⟩:=qaC hb0
     have:=h.inj b0 b' e0 e' g2 h2' (by rw[ha b0 e0 g2 g1];exact ho0) hl' (by rw[he0,hee])
     omega
  intro b b' e e' hb hb' ho hl hee
  rcases split b e hb with ⟨h1,h2⟩|⟨h1,h2⟩<;>rcases split b' e' hb' with ⟨h1',h2'⟩|⟨h1',h2'⟩
  ·rw[blk1 b h1] at ho
   rw[blk1 b' h1'] at hl
   exact p.rel.inj b b' e e' h2 h2' ho hl hee
  ·rw[blk1 b h1] at ho
   rw[blk2 b' h1'] at hl
   exact absurd hee (cross b b' e e' h1 h2 h1' h2' hl (.inl ho))
  ·rw[blk2 b h1] at ho
   rw[blk1 b' h1'] at hl
   have hlv:(M.blk b).live=true:=by cases hm:M.blk b<;>simp[hm,Blk.isOwn,Blk.live] at*
   exact absurd hee.symm (cross b' b e' e h1' h2' h1 h2 hlv (.inr ⟨ho,hl⟩))
  ·rw[blk2 b h1] at ho
   rw[blk2 b' h1'] at hl
   exact h.inj b b' e e' h2 h2' ho hl hee
end Go.AM
end
section
set_option linter.unusedSimpArgs false
set_option linter.unusedVariables false
namespace Go.AM
structure Ctx (P:Program) (C:FuncId→Array Value→Mem→Value→Mem→Prop) (ops:Array Oper) (N:Nat) (fs:Nat→Nat→Value) (ms:Nat→Mem) (vs:Nat→Value) (kd:Nat→Nat) (j0:Emb) (w0:World):Prop where
 T:Tr P C ops.toList (Region.before ops) 0 ops.toList fs ms vs kd
 ok:qd4 ops=true
 okx:∀o∈ops.toList,∀x∈o.op.operands,okX x=true
 dst:∀o∈ops.toList,∀d,o.dst=some d→d<N
 keeps:qb7 C
 sound:qfn P C
 rel0:Rel P j0 (ms 0) w0
 wf0:WF (ms 0)
 low0:∀t,low (ms 0).next (fs 0 t)
structure Mid (P:Program) (ops:Array Oper) (N:Nat) (fs:Nat→Nat→Value) (ms:Nat→Mem) (vs:Nat→Value) (kd:Nat→Nat) (j0:Emb) (w0:World) (listed:Array Bool) (a:Act) (w:World) (s:Nat) (M:Mem) (j:Emb):Prop where
 size:listed.size=ops.size
 closed:qjN ops (fun i=>listed.getD i false=true)
 sle:s≤ops.size
 last:s=0∨kd (s - 1)=4
 effs:∀i,i<ops.size→kd i=4→(listed.getD i false=true↔i<s)
 rel:Rel P j M w
 big:M.next=(ms ops.size).next
 agree:∀b,b<(ms s).next→M.blk b=(ms s).blk b
 dom:∀b e,j b=some e→b<(ms s).next∨∃i,s≤i∧i<ops.size∧listed.getD i false=true∧kd i=3∧b=(ms i).next
 unl:∀i,i<ops.size→kd i=3→listed.getD i false=false→j (ms i).next=none
 flo:∀i,s≤i→i<ops.size→listed.getD i false=true→kd i=3→∀Xb,ms (i+1)=(ms i).push Xb→M.blk (ms i).next=Xb
 defers:a.defers=[]
 tmps:a.tmps.size=N
 cur:∀t,(∃i o,ops[i]? =some o∧listed.getD i false=true∧o.dst=some t∧(∀x p,i<x→ops[x]? =some p→listed.getD x false=true→p.dst≠some t)∧VR j (vs i) (a.tmps.getD t undef))∨
  ((∀x p,ops[x]? =some p→listed.getD x false=true→p.dst≠some t)∧VR j (fs 0 t) (a.tmps.getD t undef))
 frm:Frm j0 (ms 0) w0 w
 ext:∀b,b<(ms 0).next→j b=j0 b
 fresh:∀b e,j b=some e→(ms 0).next≤b→w0.heap.size≤e.blk∨∃b0 e0,j0 b0=some e0∧((ms 0).blk b0).isOwn=true∧e0.blk=e.blk
 old:∀b,b<(ms 0).next→(M.blk b).isOwn=true→((ms 0).blk b).isOwn=true
 alive:∀b,b<(ms 0).next→(M.blk b).live=true→((ms 0).blk b).live=true
section
variable {P:Program} {C:FuncId→Array Value→Mem→Value→Mem→Prop} {ops:Array Oper} {N:Nat} {fs:Nat→Nat→Value} {ms:Nat→Mem} {vs:Nat→Value} {kd:Nat→Nat} {j0:Emb} {w0:World}
theorem Ctx.wf (X:Ctx P C ops N fs ms vs kd j0 w0):∀i,i≤ops.size→WF (ms i)∧(∀t,low (ms i).next (fs i t)):=fun i hi=>by
 have:=qg0 X.T X.keeps X.okx X.wf0 X.low0 i (by simpa using hi)
 exact ⟨this.1,this.2.1⟩
theorem Ctx.mono (X:Ctx P C ops N fs ms vs kd j0 w0):∀a b,a≤b→b≤ops.size→(ms a).next≤(ms b).next:=fun a b h1 h2=>by
 have:=qg0 X.T X.keeps X.okx X.wf0 X.low0 ops.size (by simp)
 exact qfZ this.2.2 b a h1 h2
theorem Ctx.run (X:Ctx P C ops N fs ms vs kd j0 w0) {i:Nat} {o:Oper} (ho:ops[i]? =some o):qp9 P C ops.toList o (fs i) (ms i) (vs i) (ms (i+1)) (kd i):=by
 have:=X.T.run i o (by simpa using ho)
 simpa using this
theorem Ctx.new (X:Ctx P C ops N fs ms vs kd j0 w0) {i:Nat} (hi:i<ops.size) (hk:kd i=3):∃o Xb,ops[i]? =some o∧NewR P (ev (fs i)) o (ms i).next Xb (vs i)∧ms (i+1)=(ms i).push Xb:=by
 have ho:ops[i]? =some ops[i]:=by simp[hi]
 rcases X.run ho with ⟨hk',_⟩|⟨hk',_⟩|⟨hk',_⟩|⟨_,_,Xb,hp,hm⟩|⟨hk',_⟩
 ·omega
 ·omega
 ·omega
 ·exact ⟨_,Xb,ho,hp,hm⟩
 ·omega
theorem Ctx.new_lt (X:Ctx P C ops N fs ms vs kd j0 w0) {i:Nat} (hi:i<ops.size) (hk:kd i=3):(ms i).next<(ms (i+1)).next:=by
 obtain ⟨o,Xb,_,_,hm⟩:=X.new hi hk
 rw[hm];simp[Mem.push]
theorem qeH {ρ:Operand→Value} {o:Oper} {m m':Mem} {v:Value} (h:EffR P C ρ o m v m'):qbl o.op=true:=by
 cases h with
 |call f args v m' h hC=>obtain ⟨x,as,ts,first,captured,h,_⟩:=h;simp[h,qbl]
 |mapUpdate xt x kx vx u kt vt b L kc vc E E' good h=>rcases h with h|h<;>simp[h,qbl]
 |_=>rename_i h _ _ _ _ _;first|simp[*,qbl]|skip
 all_goals simp[*,qbl]
theorem Ctx.isE (X:Ctx P C ops N fs ms vs kd j0 w0) {i:Nat} {o:Oper} (ho:ops[i]? =some o) (hk:kd i=4):qbl o.op=true:=by
 rcases X.run ho with ⟨hk',_⟩|⟨hk',_⟩|⟨hk',_⟩|⟨hk',_⟩|⟨_,_,hp⟩
 ·omega
 ·omega
 ·omega
 ·omega
 ·exact qeH hp
variable {listed:Array Bool} {a:Act} {w:World} {s:Nat} {M:Mem} {j:Emb}
theorem Mid.agreeZ (X:Ctx P C ops N fs ms vs kd j0 w0) (D:Mid P ops N fs ms vs kd j0 w0 listed a w s M j) {z:Nat} (hsz:s≤z) (hz:z≤ops.size) (hne:∀e,s≤e→e<z→kd e≠4):
  ∀b e,j b=some e→b<(ms z).next→M.blk b=(ms z).blk b:=by
 obtain ⟨g1,g2,g3⟩:=qcP X.T z hsz (by simpa using hz) hne
 intro b e hb hlt
 rcases Nat.lt_or_ge b (ms s).next with h|h
 ·rw[D.agree b h,g1 b h]
 ·rcases D.dom b e hb with h'|⟨i,h1,h2,h3,h4,rfl⟩
  ·omega
  ·have hiz:i<z:=by
    rcases Nat.lt_or_ge i z with h|h
    ·exact h
    ·have:=X.mono z i h (by omega);omega
   obtain ⟨o,Xb,ho,_,hm⟩:=X.new h2 h4
   rw[D.flo i h1 h2 h3 h4 Xb hm,g2 i h1 hiz h4 o Xb (by simpa using ho) hm]
theorem Mid.rdOk (X:Ctx P C ops N fs ms vs kd j0 w0) (D:Mid P ops N fs ms vs kd j0 w0 listed a w s M j) {z:Nat} (hsz:s≤z) (hz:z≤ops.size) (hne:∀e,s≤e→e<z→kd e≠4):RdOk P j (ms z) w:=by
 have hA:=D.agreeZ X hsz hz hne
 have hW:=(X.wf z hz).1
 have hr:=D.rel.rdOk
 refine ⟨fun b e o v hb hv=> ?_,fun b e L t hb hl=> ?_,fun b e L u hb hl=> ?_⟩
 ·have hlt:b<(ms z).next:=hW.lt (by intro hd;simp[Mem.load,hd] at hv)
  refine hr.load b e o v hb ?_
  unfold Mem.load at hv⊢
  rw[hA b e hb hlt];exact hv
 ·have hlt:b<(ms z).next:=hW.lt (by rw[hl];simp)
  exact hr.own b e L t hb (by rw[hA b e hb hlt];exact hl)
 ·have hlt:b<(ms z).next:=hW.lt (by rw[hl];simp)
  exact hr.map b e L u hb (by rw[hA b e hb hlt];exact hl)
structure Ready (ops:Array Oper) (listed:Array Bool) (i:Nat) (o:Oper):Prop where
 at_:ops[i]? =some o
 not:listed.getD i false=false
 deps:∀e∈o.after,Region.binds .any e=true→listed.getD e.on false=true
theorem Ready.anc (D:Mid P ops N fs ms vs kd j0 w0 listed a w s M j) {i:Nat} {o:Oper} (R:Ready ops listed i o) {x:Nat} (h:AM.anc (Region.before ops) i x=true):listed.getD x false=true:=
 qfq h D.closed fun o' ho'=>by rw[R.at_] at ho';cases ho';exact R.deps
theorem Mid.ancIn (D:Mid P ops N fs ms vs kd j0 w0 listed a w s M j) {i x:Nat} (hi:listed.getD i false=true) (h:AM.anc (Region.before ops) i x=true):listed.getD x false=true:=
 qfq h D.closed fun o' ho'=>D.closed i o' hi ho'
theorem Ready.writers (X:Ctx P C ops N fs ms vs kd j0 w0) (D:Mid P ops N fs ms vs kd j0 w0 listed a w s M j) {i:Nat} {o:Oper} (R:Ready ops listed i o) {t:Nat} (ht:t∈qcy ops o) {x:Nat} {p:Oper} (hp:ops[x]? =some p) (hd:p.dst=some t):
  (listed.getD x false=true↔x<i)∨x=i:=by
 rcases Nat.lt_trichotomy x i with h|h|h
 ·left
  refine ⟨fun _=>h,fun _=> ?_⟩
  refine R.anc D (qcg X.ok R.at_ hp h ?_)
  simp[clash,hd,ht]
 ·exact .inr h
 ·left
  refine ⟨fun hl=> ?_,fun h'=>by omega⟩
  have:listed.getD i false=true:=D.ancIn hl (qcg X.ok hp R.at_ h (by simp[clash,hd,ht]))
  rw[R.not] at this
  cases this
theorem Mid.slot (X:Ctx P C ops N fs ms vs kd j0 w0) (D:Mid P ops N fs ms vs kd j0 w0 listed a w s M j) {i:Nat} {o:Oper} (R:Ready ops listed i o) {t:Nat} (ht:t∈qcy ops o):VR j (fs i t) (a.tmps.getD t undef):=by
 have hi:i<ops.size:=(Array.getElem?_eq_some_iff.1 R.at_).1
 have hw:=fun {x:Nat} {p:Oper} (hp:ops[x]? =some p) (hd:p.dst=some t)=>R.writers X D ht hp hd
 have hself:∀{x:Nat},x=i→listed.getD x false=true→False:=fun hx hl=>by subst hx;rw[R.not] at hl;cases hl
 rcases qd0 X.T t i (by simpa using Nat.le_of_lt hi) with ⟨x,p,h1,h2,h3,h4,h5⟩|⟨h1,h2⟩
 ·have h2':ops[x]? =some p:=by simpa using h2
  have hlx:listed.getD x false=true:=by
   rcases hw h2' h3 with h|h
   ·exact h.2 h1
   ·omega
  rcases D.cur t with ⟨y,q,g1,g2,g3,g4,g5⟩|⟨g1,_⟩
  ·have hyi:y<i:=by
    rcases hw g1 g3 with h|h
    ·exact h.1 g2
    ·exact (hself h g2).elim
   have:y=x:=by
    rcases Nat.lt_trichotomy y x with h|h|h
    ·exact absurd h3 (g4 x p h h2' hlx)
    ·exact h
    ·exact absurd g3 (h5 y q h hyi (by simpa using g1))
   subst this
   rw[h4];exact g5
  ·exact absurd h3 (g1 x p h2' hlx)
 ·rcases D.cur t with ⟨y,q,g1,g2,g3,g4,g5⟩|⟨_,g2⟩
  ·rcases hw g1 g3 with h|h
   ·exact absurd g3 (h1 y q (h.1 g2) (by simpa using g1))
   ·exact (hself h g2).elim
  ·rw[h2];exact g2
theorem qmu {fr:Nat→Value} {a:Act} {j:Emb} {x:Operand} (hx:okX x=true) (h:∀t,x= .tmp t→VR j (fr t) (a.tmps.getD t undef)):VR j (ev fr x) (a.eval x):=by
 cases x with
 |tmp t=>exact h t rfl
 |const v=>exact qde hx
 |global g=>simp[okX] at hx
 |func f=>exact ⟨#[],#[],rfl,True.intro,True.intro⟩
theorem Mid.opsR (X:Ctx P C ops N fs ms vs kd j0 w0) (D:Mid P ops N fs ms vs kd j0 w0 listed a w s M j) {i:Nat} {o:Oper} (R:Ready ops listed i o):OpsR j (ev (fs i)) a.eval o:=by
 intro x hx
 have hm:o∈ops.toList:=by have:=Array.mem_of_getElem? R.at_;simpa using this
 refine qmu (X.okx o hm x hx) fun t ht=>D.slot X R ?_
 subst ht
 simp only[qcy,List.mem_append,List.mem_filterMap]
 exact .inl (.inl ⟨.tmp t,by simpa using hx,rfl⟩)
theorem qfo {j:Emb} {v cv:Value} (h:VR j v cv) (hb:∀b,v≠ .bool b):∀b,cv≠ .bool b:=by
 intro b hcv
 subst hcv
 cases v with
 |bool b'=>exact hb b' rfl
 |pointer q=>cases q with
  |none=>cases h
  |some q=>obtain ⟨e,_,_,h⟩:=h;cases h
 |slice q l c=>cases q with
  |none=>cases h
  |some q=>obtain ⟨e,_,_,h⟩:=h;rcases h with ⟨_,h⟩|⟨_,_,_,_,_,_,h⟩|⟨_,_,_,h⟩|⟨_,_,_,h⟩<;>cases h
 |map r=>cases r with
  |none=>cases h
  |some r=>obtain ⟨e,_,h⟩:=h;cases h
 |agg cs=>obtain ⟨ds,h,_⟩:=h;cases h
 |tuple cs=>obtain ⟨ds,h,_⟩:=h;cases h
 |func fn f c=>obtain ⟨ds,es,h,_⟩:=h;cases h
 |chan _=>exact h b rfl
 |iface _ _=>exact h
 |_=>cases h
theorem qis {ops:Array Oper} {N:Nat} {fr:Nat→Value} {a:Act} {j:Emb} {o:Oper} (hN:a.tmps.size=N) (hdst:∀p∈ops.toList,∀d,p.dst=some d→d<N) (h:∀g w d,o.guard=some (g,w)→(ops[g]?).bind (·.dst)=some d→VR j (fr d) (a.tmps.getD d undef)):
  Region.wanted o (yielded ops a.tmps)=wanted ops.toList fr o:=by
 unfold Region.wanted wanted
 cases hg:o.guard with
 |none=>rfl
 |some gw=>
  obtain ⟨g,want⟩:=gw
  simp only[yielded,Array.getElem?_toList]
  cases hd:(ops[g]?).bind (·.dst) with
  |none=>simp
  |some d=>
   have hv:=h g want d hg hd
   have hlt:d<a.tmps.size:=by
    rw[hN]
    cases hp:ops[g]? with
    |none=>simp[hp] at hd
    |some p=>
     simp[hp] at hd
     exact hdst p (by have:=Array.mem_of_getElem? hp;simpa using this) d hd
   have hget:a.tmps[d]? =some (a.tmps.getD d undef):=by simp[Array.getD,hlt]
   simp only[Option.bind_some,hget]
   by_cases hb:∃b,fr d= .bool b
   ·obtain ⟨b,hb⟩:=hb
    rw[hb] at hv
    rw[hb,hv.bool]
    simp
   ·have hb':∀b,fr d≠ .bool b:=fun b h=>hb ⟨b,h⟩
    have hc:=qfo hv hb'
    cases hfd:fr d<;>first|exact absurd hfd (hb' _)|(cases hcd:a.tmps.getD d undef<;>first|exact absurd hcd (hc _)|rfl)
theorem Mid.wanted (X:Ctx P C ops N fs ms vs kd j0 w0) (D:Mid P ops N fs ms vs kd j0 w0 listed a w s M j) {i:Nat} {o:Oper} (R:Ready ops listed i o):Region.wanted o (yielded ops a.tmps)=AM.wanted ops.toList (fs i) o:=by
 refine qis D.tmps X.dst fun g wnt d hg hd=>D.slot X R ?_
 simp only[qcy,List.mem_append,hg,hd]
 exact .inl (.inr (by simp))
end
end Go.AM
end
section
set_option linter.unusedSimpArgs false
set_option linter.unusedVariables false
namespace Go.AM
theorem qaw {A:Array Bool} {i x:Nat} (hi:i<A.size):((A.setIfInBounds i true).getD x false=true)↔(x=i∨A.getD x false=true):=by
 simp only[Array.getD,Array.size_setIfInBounds]
 by_cases hx:x<A.size
 ·simp only[hx,dite_true]
  by_cases hxi:x=i
  ·subst hxi;simp
  ·simp[Array.getElem_setIfInBounds,hx,Ne.symm hxi,hxi]
 ·simp only[hx,dite_false]
  constructor
  ·intro h;cases h
  ·rintro (h|h)
   ·omega
   ·cases h
theorem qb0 {A:Array Bool} {i x:Nat} (hi:i<A.size) (h:(A.setIfInBounds i true).getD x false=false):x≠i∧A.getD x false=false:=by
 refine ⟨fun hx=> ?_, ?_⟩
 ·have:=(qaw (A:=A) (x:=x) hi).2 (.inl hx)
  rw[h] at this;cases this
 ·cases hA:A.getD x false with
  |false=>rfl
  |true=>
   have:=(qaw (A:=A) (x:=x) hi).2 (.inr hA)
   rw[h] at this;cases this
theorem qai {a:Act} {d:Option Tmp} {v:Value}:(a.put d v).tmps.size=a.tmps.size∧(a.put d v).defers=a.defers:=by
 cases d<;>simp[Act.put]
theorem qgK {a:Act} {d t:Nat} {v:Value} (hd:d<a.tmps.size):(a.put (some d) v).tmps.getD t undef=if t=d then v else a.tmps.getD t undef:=by
 simp only[Act.put,Array.getD,Array.size_setIfInBounds]
 by_cases ht:t=d
 ·subst ht;simp[hd]
 ·by_cases hs:t<a.tmps.size
  ·simp[hs,Array.getElem_setIfInBounds,Ne.symm ht,ht]
  ·simp[hs,ht]
section
variable {P:Program} {C:FuncId→Array Value→Mem→Value→Mem→Prop} {ops:Array Oper} {N:Nat} {fs:Nat→Nat→Value} {ms:Nat→Mem} {vs:Nat→Value} {kd:Nat→Nat} {j0:Emb} {w0:World}
variable {listed:Array Bool} {a:Act} {w:World} {s:Nat} {M:Mem} {j:Emb}
theorem Ready.lt {i:Nat} {o:Oper} (R:Ready ops listed i o):i<ops.size:=(Array.getElem?_eq_some_iff.1 R.at_).1
theorem Mid.closed' (D:Mid P ops N fs ms vs kd j0 w0 listed a w s M j) {i:Nat} {o:Oper} (R:Ready ops listed i o):qjN ops (fun x=>(listed.setIfInBounds i true).getD x false=true):=by
 have hi:i<listed.size:=by rw[D.size];exact R.lt
 intro x p hx hp e he hb
 refine (qaw hi).2 (.inr ?_)
 rcases (qaw hi).1 hx with rfl|hx
 ·rw[R.at_] at hp;cases hp;exact R.deps e he hb
 ·exact D.closed x p hx hp e he hb
theorem Mid.cur' (X:Ctx P C ops N fs ms vs kd j0 w0) (D:Mid P ops N fs ms vs kd j0 w0 listed a w s M j) {i:Nat} {o:Oper} (R:Ready ops listed i o) {j':Emb} (hup:∀b e,j b=some e→j' b=some e) {cv:Value} (hv:VR j' (vs i) cv):
  ∀t,(∃x p,ops[x]? =some p∧(listed.setIfInBounds i true).getD x false=true∧p.dst=some t∧(∀y q,x<y→ops[y]? =some q→(listed.setIfInBounds i true).getD y false=true→q.dst≠some t)∧VR j' (vs x) ((a.put o.dst cv).tmps.getD t undef))∨
  ((∀x p,ops[x]? =some p→(listed.setIfInBounds i true).getD x false=true→p.dst≠some t)∧VR j' (fs 0 t) ((a.put o.dst cv).tmps.getD t undef)):=by
 have hi:i<listed.size:=by rw[D.size];exact R.lt
 have hmem:o∈ops.toList:=by have:=Array.mem_of_getElem? R.at_;simpa using this
 intro t
 by_cases hd:o.dst=some t
 ·left
  refine ⟨i,o,R.at_,(qaw hi).2 (.inl rfl),hd,fun y q hy hq hl hqt=> ?_, ?_⟩
  ·rcases (qaw hi).1 hl with h|h
   ·omega
   ·have ht:t∈qcy ops o:=by simp[qcy,hd]
    rcases R.writers X D ht hq hqt with h'|h'
    ·have:=h'.1 h;omega
    ·omega
  ·have hlt:t<a.tmps.size:=by rw[D.tmps];exact X.dst o hmem t hd
   rw[hd,qgK hlt,if_pos rfl];exact hv
 ·have hsame:(a.put o.dst cv).tmps.getD t undef=a.tmps.getD t undef:=by
   cases hdd:o.dst with
   |none=>rfl
   |some d=>
    have hlt:d<a.tmps.size:=by rw[D.tmps];exact X.dst o hmem d hdd
    have:t≠d:=by intro h;subst h;exact hd hdd
    rw[qgK hlt,if_neg this]
  rw[hsame]
  rcases D.cur t with ⟨x,p,g1,g2,g3,g4,g5⟩|⟨g1,g2⟩
  ·left
   refine ⟨x,p,g1,(qaw hi).2 (.inr g2),g3,fun y q hy hq hl=> ?_,g5.mono hup⟩
   rcases (qaw hi).1 hl with h|h
   ·subst h;rw[R.at_] at hq;cases hq;exact hd
   ·exact g4 y q hy hq h
  ·right
   refine ⟨fun y q hq hl=> ?_,g2.mono hup⟩
   rcases (qaw hi).1 hl with h|h
   ·subst h;rw[R.at_] at hq;cases hq;exact hd
   ·exact g1 y q hq h
theorem Mid.quiet (X:Ctx P C ops N fs ms vs kd j0 w0) (D:Mid P ops N fs ms vs kd j0 w0 listed a w s M j) {i:Nat} {o:Oper} (R:Ready ops listed i o) (hk3:kd i≠3) (hk4:kd i≠4) {cv:Value} (hv:VR j (vs i) cv):
  Mid P ops N fs ms vs kd j0 w0 (listed.setIfInBounds i true) (a.put o.dst cv) w s M j:=by
 have hi:i<listed.size:=by rw[D.size];exact R.lt
 refine ⟨by simp[D.size],D.closed' R,D.sle,D.last, ?_,D.rel,D.big,D.agree, ?_, ?_, ?_,by rw[qai.2];exact D.defers,by rw[qai.1];exact D.tmps,D.cur' X R (fun _ _ h=>h) hv,D.frm,D.ext,D.fresh,D.old,D.alive⟩
 ·intro x hx hk
  rw[qaw hi,←D.effs x hx hk]
  constructor
  ·rintro (h|h)
   ·subst h;exact absurd hk hk4
   ·exact h
  ·exact .inr
 ·intro b e hb
  rcases D.dom b e hb with h|⟨x,h1,h2,h3,h4,h5⟩
  ·exact .inl h
  ·exact .inr ⟨x,h1,h2,(qaw hi).2 (.inr h3),h4,h5⟩
 ·intro x hx hk hl
  exact D.unl x hx hk (qb0 hi hl).2
 ·intro x h1 h2 h3 h4
  rcases (qaw hi).1 h3 with h|h
  ·subst h;exact absurd h4 hk3
  ·exact D.flo x h1 h2 h h4
theorem Mid.seen (X:Ctx P C ops N fs ms vs kd j0 w0) (D:Mid P ops N fs ms vs kd j0 w0 listed a w s M j) {i:Nat} {o:Oper} (R:Ready ops listed i o) (hk:kd i=3) {Xb:Blk} (hm:ms (i+1)=(ms i).push Xb):
  ∀n,i<n→n≤s→(ms n).blk (ms i).next=Xb:=by
 intro n
 induction n with
 |zero=>intro h;omega
 |succ n ih=>
  intro h1 h2
  have hs:=D.sle
  by_cases hin:n=i
  ·subst hin;rw[hm];simp[Mem.push]
  ·have hprev:=ih (by omega) (by omega)
   have hn:n<ops.size:=by omega
   have ho:ops[n]? =some ops[n]:=by simp[hn]
   have hlt:(ms i).next<(ms n).next:=Nat.lt_of_lt_of_le (X.new_lt R.lt hk) (X.mono (i+1) n (by omega) (by omega))
   rcases X.run ho with ⟨_,_,_,hmm⟩|⟨_,_,_,hmm⟩|⟨_,_,_,hmm⟩|⟨_,_,Yb,_,hmm⟩|⟨hkn,_,hp⟩
   ·rw[hmm];exact hprev
   ·rw[hmm];exact hprev
   ·rw[hmm];exact hprev
   ·rw[hmm]
    simp only[Mem.push]
    rw[if_neg (by omega)];exact hprev
   ·have hln:listed.getD n false=true:=(D.effs n hn hkn).2 (by omega)
    have hanc:anc (Region.before ops) n i=false:=by
     cases hA:anc (Region.before ops) n i with
     |false=>rfl
     |true=>
      have:=D.ancIn hln hA
      rw[R.not] at this;cases this
    have:=X.T.news i n (by simpa using R.lt) (by simpa using hk) (by simpa using hn) (by simpa using hkn) (by omega) (by simpa using hanc)
    simp only[Nat.zero_add] at this
    rw[this];exact hprev
theorem Mid.fresh' (X:Ctx P C ops N fs ms vs kd j0 w0) (D:Mid P ops N fs ms vs kd j0 w0 listed a w s M j) {i:Nat} {o:Oper} (R:Ready ops listed i o) (hk:kd i=3) {Xb:Blk} (hm:ms (i+1)=(ms i).push Xb)
  {w':World} {e:Emb1} {ob:Obj} (Nw:NewOk P j w w' Xb e ob) {cv:Value} (hv:VR (j.up (ms i).next e) (vs i) cv):
  Mid P ops N fs ms vs kd j0 w0 (listed.setIfInBounds i true) (a.put o.dst cv) w' s (M.put (ms i).next Xb) (j.up (ms i).next e):=by
 have hi:i<listed.size:=by rw[D.size];exact R.lt
 have hfree:=D.unl i R.lt hk R.not
 have hle:=Emb.up_le (e:=e) hfree
 have hlt:=X.new_lt R.lt hk
 have hbig:(ms i).next<M.next:=by
  rw[D.big]
  exact Nat.lt_of_lt_of_le hlt (X.mono (i+1) ops.size R.lt (Nat.le_refl _))
 have h0:(ms 0).next≤(ms i).next:=X.mono 0 i (Nat.zero_le _) (Nat.le_of_lt R.lt)
 have hup:∀b x,j.up (ms i).next e b=some x→b≠(ms i).next→j b=some x:=fun b x hb hne=>by simpa[Emb.up,hne] using hb
 have hblk:∀b,b≠(ms i).next→(M.put (ms i).next Xb).blk b=M.blk b:=fun b hb=>by simp[Mem.put,hb]
 have distinct:∀x,x<ops.size→kd x=3→x≠i→(ms x).next≠(ms i).next:=by
  intro x hx hkx hne he
  rcases Nat.lt_or_ge x i with h|h
  ·have:=X.new_lt hx hkx
   have:=X.mono (x+1) i (by omega) (Nat.le_of_lt R.lt)
   omega
  ·have:=X.mono (i+1) x (by omega) (Nat.le_of_lt hx)
   omega
 refine ⟨by simp[D.size],D.closed' R,D.sle,D.last, ?_,D.rel.place hfree hbig Nw,D.big, ?_, ?_, ?_, ?_,by rw[qai.2];exact D.defers,by rw[qai.1];exact D.tmps,D.cur' X R hle hv, ?_, ?_, ?_, ?_, ?_⟩
 ·intro x hx hkx
  rw[qaw hi,←D.effs x hx hkx]
  constructor
  ·rintro (h|h)
   ·subst h;omega
   ·exact h
  ·exact .inr
 ·intro b hb
  by_cases hbi:b=(ms i).next
  ·subst hbi
   have his:i<s:=by
    rcases Nat.lt_or_ge i s with h|h
    ·exact h
    ·have:=X.mono s i h (Nat.le_of_lt R.lt);omega
   rw[D.seen X R hk hm s his (Nat.le_refl _)]
   simp[Mem.put]
  ·rw[hblk b hbi];exact D.agree b hb
 ·intro b x hb
  by_cases hbi:b=(ms i).next
  ·subst hbi
   rcases Nat.lt_or_ge (ms i).next (ms s).next with h|h
   ·exact .inl h
   ·right
    refine ⟨i, ?_,R.lt,(qaw hi).2 (.inl rfl),hk,rfl⟩
    rcases Nat.lt_or_ge i s with h'|h'
    ·have:=X.mono (i+1) s h' D.sle;omega
    ·exact h'
  ·rcases D.dom b x (hup b x hb hbi) with h|⟨y,h1,h2,h3,h4,h5⟩
   ·exact .inl h
   ·exact .inr ⟨y,h1,h2,(qaw hi).2 (.inr h3),h4,h5⟩
 ·intro x hx hkx hl
  obtain ⟨h1,h2⟩:=qb0 hi hl
  have:=distinct x hx hkx h1
  simp only[Emb.up,this,if_false]
  exact D.unl x hx hkx h2
 ·intro x h1 h2 h3 h4 Yb hm'
  by_cases hxi:x=i
  ·subst hxi
   have hYX:Yb=Xb:=by
    have e1:(ms (x+1)).blk (ms x).next=Yb:=by rw[hm'];simp[Mem.push]
    have e2:(ms (x+1)).blk (ms x).next=Xb:=by rw[hm];simp[Mem.push]
    rw[←e1,e2]
   rw[hYX];simp[Mem.put]
  ·rw[hblk _ (distinct x h2 h4 hxi)]
   rcases (qaw hi).1 h3 with h|h
   ·exact absurd h hxi
   ·exact D.flo x h1 h2 h h4 Yb hm'
 ·have hold:∀c,c<w.heap.size→w'.heap[c]? =w.heap[c]? :=fun c hc=>by rw[Nw.heap,Array.getElem?_push,if_neg (by omega)]
  exact ⟨Nw.os.trans D.frm.os,Nw.tape.trans D.frm.tape,Nw.output.trans D.frm.output,by rw[Nw.heap];simp;have:=D.frm.size;omega,fun c hc hh=>by
   rw[hold c (Nat.lt_of_lt_of_le hc D.frm.size)];exact D.frm.block c hc hh⟩
 ·intro b hb
  simp only[Emb.up,show b≠(ms i).next by omega,if_false]
  exact D.ext b hb
 ·intro b x hb hge
  by_cases hbi:b=(ms i).next
  ·subst hbi
   have hx:x=e:=by simpa[Emb.up] using hb.symm
   subst hx
   exact .inl (by rw[Nw.blk];exact D.frm.size)
  ·exact D.fresh b x (hup b x hb hbi) hge
 ·intro b hb ho
  rw[hblk b (by omega)] at ho
  exact D.old b hb ho
 ·intro b hb ho
  rw[hblk b (by omega)] at ho
  exact D.alive b hb ho
theorem Mid.eff (X:Ctx P C ops N fs ms vs kd j0 w0) (D:Mid P ops N fs ms vs kd j0 w0 listed a w s M j) {i:Nat} {o:Oper} (R:Ready ops listed i o) (hk:kd i=4):
  s≤i∧(∀e,s≤e→e<i→kd e≠4)∧Rel P (j.below (ms i).next) (ms i) w∧
  ∀{w':World} {j1:Emb} {cv:Value},Post P (j.below (ms i).next) (ms i) w j1 (ms (i+1)) w'→VR j1 (vs i) cv→
   Mid P ops N fs ms vs kd j0 w0 (listed.setIfInBounds i true) (a.put o.dst cv) w' (i+1) ((ms (i+1)).join M) (j1.join (ms (i+1)).next j):=by
 have hi:i<listed.size:=by rw[D.size];exact R.lt
 have hsi:s≤i:=by
  rcases Nat.lt_or_ge i s with h|h
  ·have:=(D.effs i R.lt hk).2 h
   rw[R.not] at this;cases this
  ·exact h
 have hord:∀e,e<i→kd e=4→listed.getD e false=true:=by
  intro e he hke
  have hes:e<ops.size:=Nat.lt_trans he R.lt
  have hoe:ops[e]? =some ops[e]:=by simp[hes]
  refine R.anc D (qcg X.ok R.at_ hoe he ?_)
  simp[clash,X.isE hoe hke,X.isE R.at_ hk]
 have hne:∀e,s≤e→e<i→kd e≠4:=by
  intro e h1 h2 hke
  have:=(D.effs e (Nat.lt_trans h2 R.lt) hke).1 (hord e h2 hke)
  omega
 have hA:=D.agreeZ X hsi (Nat.le_of_lt R.lt) hne
 have hW:=(X.wf i (Nat.le_of_lt R.lt)).1
 refine ⟨hsi,hne,D.rel.below hW hA, ?_⟩
 intro w' j1 cv p hv
 have hmono:=p.next
 have hdom:∀b e,j b=some e→b<(ms i).next∨((ms (i+1)).next≤b∧∃x,i+1≤x∧x<ops.size∧listed.getD x false=true∧kd x=3∧b=(ms x).next):=by
  intro b e hb
  rcases D.dom b e hb with h|⟨x,h1,h2,h3,h4,h5⟩
  ·exact .inl (Nat.lt_of_lt_of_le h (X.mono s i hsi (Nat.le_of_lt R.lt)))
  ·subst h5
   rcases Nat.lt_trichotomy x i with h|h|h
   ·exact .inl (Nat.lt_of_lt_of_le (X.new_lt h2 h4) (X.mono (x+1) i h (Nat.le_of_lt R.lt)))
   ·subst h;omega
   ·exact .inr ⟨X.mono (i+1) x h (Nat.le_of_lt h2),x,h,h2,h3,h4,rfl⟩
 have hbig:(ms (i+1)).next≤M.next:=by rw[D.big];exact X.mono (i+1) ops.size R.lt (Nat.le_refl _)
 obtain ⟨hrel,hup,hup1⟩:=D.rel.join hA p (fun b e hb=>by rcases hdom b e hb with h|h;exact .inl h;exact .inr h.1) hbig
 have h0i:(ms 0).next≤(ms i).next:=X.mono 0 i (Nat.zero_le _) (Nat.le_of_lt R.lt)
 have jlow:∀b,b<(ms i).next→j1 b=j b:=fun b hb=>by rw[p.ext b hb];simp[Emb.below,hb]
 have blkA:∀b e,j b=some e→b<(ms i).next→M.blk b=(ms i).blk b:=hA
 refine ⟨by simp[D.size],D.closed' R,R.lt, .inr (by simpa using hk), ?_,hrel,D.big, ?_, ?_, ?_, ?_,by rw[qai.2];exact D.defers,by rw[qai.1];exact D.tmps,D.cur' X R hup (hv.mono hup1), ?_, ?_, ?_, ?_, ?_⟩
 ·intro x hx hkx
  rw[qaw hi,D.effs x hx hkx]
  constructor
  ·rintro (h|h)<;>omega
  ·intro h
   rcases Nat.lt_or_ge x i with h'|h'
   ·exact .inr ((D.effs x hx hkx).1 (hord x h' hkx))
   ·exact .inl (by omega)
 ·intro b hb
  simp[Mem.join,hb]
 ·intro b e hb
  unfold Emb.join at hb
  split at hb
  ·exact .inl ‹_›
  ·rcases hdom b e hb with h|⟨h1,x,h2,h3,h4,h5,h6⟩
   ·omega
   ·exact .inr ⟨x,h2,h3,(qaw hi).2 (.inr h4),h5,h6⟩
 ·intro x hx hkx hl
  obtain ⟨h1,h2⟩:=qb0 hi hl
  have hjx:=D.unl x hx hkx h2
  rcases Nat.lt_or_ge x i with h|h
  ·have hxl:(ms x).next<(ms i).next:=Nat.lt_of_lt_of_le (X.new_lt hx hkx) (X.mono (x+1) i h (Nat.le_of_lt R.lt))
   simp only[Emb.join,show (ms x).next<(ms (i+1)).next by omega,if_true]
   rw[jlow _ hxl];exact hjx
  ·have:(ms (i+1)).next≤(ms x).next:=X.mono (i+1) x (by omega) (Nat.le_of_lt hx)
   simp only[Emb.join,show ¬(ms x).next<(ms (i+1)).next by omega,if_false]
   exact hjx
 ·intro x h1 h2 h3 h4 Xb hm
  have:(ms (i+1)).next≤(ms x).next:=X.mono (i+1) x h1 (Nat.le_of_lt h2)
  simp only[Mem.join,show ¬(ms x).next<(ms (i+1)).next by omega,if_false]
  rcases (qaw hi).1 h3 with h|h
  ·omega
  ·exact D.flo x (by omega) h2 h h4 Xb hm
 ·refine ⟨p.frm.os.trans D.frm.os,p.frm.tape.trans D.frm.tape,p.frm.output.trans D.frm.output,Nat.le_trans D.frm.size p.frm.size,fun c hc hh=> ?_⟩
  rw[p.frm.block c (Nat.lt_of_lt_of_le hc D.frm.size) ?_]
  ·exact D.frm.block c hc hh
  ·intro b e hb ho he
   obtain ⟨g1,g2⟩:=qaC hb
   rcases Nat.lt_or_ge b (ms 0).next with h|h
   ·exact hh b e (by rw[←D.ext b h];exact g2) (D.old b h (by rw[blkA b e g2 g1];exact ho)) he
   ·rcases D.fresh b e g2 h with hf|⟨b0,e0,k1,k2,k3⟩
    ·omega
    ·exact hh b0 e0 k1 k2 (k3.trans he)
 ·intro b hb
  simp only[Emb.join,show b<(ms (i+1)).next by omega,if_true]
  rw[jlow b (by omega)]
  exact D.ext b hb
 ·intro b e hb hge
  unfold Emb.join at hb
  split at hb
  ·rcases Nat.lt_or_ge b (ms i).next with h|h
   ·exact D.fresh b e (by rw[←jlow b h];exact hb) hge
   ·rcases p.fresh b e hb h with hf|⟨b0,e0,k1,k2,k3⟩
    ·exact .inl (Nat.le_trans D.frm.size hf)
    ·obtain ⟨g1,g2⟩:=qaC k1
     rcases Nat.lt_or_ge b0 (ms 0).next with h'|h'
     ·exact .inr ⟨b0,e0,by rw[←D.ext b0 h'];exact g2,D.old b0 h' (by rw[blkA b0 e0 g2 g1];exact k2),k3⟩
     ·rw[←k3];exact D.fresh b0 e0 g2 h'
  ·exact D.fresh b e hb hge
 ·intro b hb ho
  have hbi:b<(ms (i+1)).next:=by omega
  simp only[Mem.join,hbi,if_true] at ho
  have ho':=p.old b (by omega) ho
  have hg:=(qcP X.T i hsi (by simpa using Nat.le_of_lt R.lt) hne).1
  have hbs:b<(ms s).next:=Nat.lt_of_lt_of_le hb (X.mono 0 s (Nat.zero_le _) D.sle)
  exact D.old b hb (by rw[D.agree b hbs,←hg b hbs];exact ho')
 ·intro b hb ho
  have hbi:b<(ms (i+1)).next:=by omega
  simp only[Mem.join,hbi,if_true] at ho
  have ho':=p.alive b (by omega) ho
  have hg:=(qcP X.T i hsi (by simpa using Nat.le_of_lt R.lt) hne).1
  have hbs:b<(ms s).next:=Nat.lt_of_lt_of_le hb (X.mono 0 s (Nat.zero_le _) D.sle)
  exact D.alive b hb (by rw[D.agree b hbs,←hg b hbs];exact ho')
end
end Go.AM
end
section
set_option linter.unusedSimpArgs false
set_option linter.unusedVariables false
namespace Go.AM
section
variable {P:Program} {C:FuncId→Array Value→Mem→Value→Mem→Prop} {ops:Array Oper} {N:Nat} {fs:Nat→Nat→Value} {ms:Nat→Mem} {vs:Nat→Value} {kd:Nat→Nat} {j0:Emb} {w0:World}
variable {listed:Array Bool} {a:Act} {w:World} {s:Nat} {M:Mem} {j:Emb}
theorem qm3 {i:Nat} (h:i∈Region.ready .any ops listed):∃o,i<ops.size∧ops[i]? =some o∧listed.getD i true=false∧∀e∈o.after,Region.binds .any e=true→listed.getD e.on false=true:=by
 simp only[Region.ready,List.mem_filter,List.mem_range,Bool.and_eq_true,Bool.not_eq_true'] at h
 obtain ⟨h1,h2,h3⟩:=h
 have ho:ops[i]? =some ops[i]:=by simp[h1]
 rw[ho] at h3
 simp only[Option.map_some,Option.getD_some,Array.all_eq_true'] at h3
 refine ⟨_,h1,ho,h2,fun e he hb=> ?_⟩
 have:=h3 e he
 simpa[hb] using this
theorem qbu {A:Array Bool} {i:Nat} (hi:i<A.size):A.getD i true=A.getD i false:=by simp[Array.getD,hi]
def left (n:Nat) (listed:Array Bool):Nat:=((List.range n).filter fun i=> !listed.getD i false).length
theorem filter_lt {α:Type} {p q:α→Bool}:∀(l:List α) (x:α),x∈l→(∀y,p y=true→q y=true)→q x=true→p x=false→(l.filter p).length<(l.filter q).length
 |[],x,hx,_,_,_=>by simp at hx
 |y::l,x,hx,hpq,hqx,hpx=>by
  have hle:(l.filter p).length≤(l.filter q).length:=by
   clear hx
   induction l with
   |nil=>simp
   |cons z l ih=>
    simp only[List.filter_cons]
    by_cases hz:p z=true
    ·simp only[hz,hpq z hz,if_true,List.length_cons];omega
    ·by_cases hq:q z=true
     ·simp only[hz,hq,if_true,List.length_cons];simp;omega
     ·simp[hz,hq];exact ih
  rcases List.mem_cons.1 hx with rfl|hx
  ·simp only[List.filter_cons,hqx,hpx,if_true]
   simp;omega
  ·have ih:=filter_lt l x hx hpq hqx hpx
   simp only[List.filter_cons]
   by_cases hz:p y=true
   ·simp only[hz,hpq y hz,if_true,List.length_cons];omega
   ·by_cases hq:q y=true
    ·simp only[hz,hq,if_true,List.length_cons];simp;omega
    ·simp[hz,hq];exact ih
theorem qkG {n:Nat} (h:left n listed=0):∀i,i<n→listed.getD i false=true:=by
 intro i hi
 cases hl:listed.getD i false with
 |true=>rfl
 |false=>
  have:i∈(List.range n).filter fun i=> !listed.getD i false:=List.mem_filter.2 ⟨List.mem_range.2 hi,by rw[hl];rfl⟩
  rw[List.eq_nil_of_length_eq_zero h] at this
  simp at this
theorem Mid.all (X:Ctx P C ops N fs ms vs kd j0 w0) (D:Mid P ops N fs ms vs kd j0 w0 listed a w s M j) (h:Region.ready .any ops listed=[]):∀i,i<ops.size→listed.getD i false=true:=by
 intro i
 induction i using Nat.strongRecOn with
 |_ i ih=>
  intro hi
  cases hl:listed.getD i false with
  |true=>rfl
  |false=>
   have ho:ops[i]? =some ops[i]:=by simp[hi]
   have:i∈Region.ready .any ops listed:=by
    simp only[Region.ready,List.mem_filter,List.mem_range,Bool.and_eq_true,Bool.not_eq_true']
    refine ⟨hi,by rw[qbu (by rw[D.size];exact hi)];exact hl, ?_⟩
    rw[ho]
    simp only[Option.map_some,Option.getD_some,Array.all_eq_true']
    intro e he
    cases hb:Region.binds .any e with
    |false=>simp
    |true=>
     have hon:=qlG X.ok ho he hb
     simp[ih e.on hon (by omega)]
   rw[h] at this
   simp at this
theorem Mid.end (X:Ctx P C ops N fs ms vs kd j0 w0) (D:Mid P ops N fs ms vs kd j0 w0 listed a w s M j) (h:∀i,i<ops.size→listed.getD i false=true):
  Post P j0 (ms 0) w0 (j.below (ms ops.size).next) (ms ops.size) w∧(∀t,VR (j.below (ms ops.size).next) (fs ops.size t) (a.tmps.getD t undef))∧a.defers=[]∧a.tmps.size=N:=by
 have hne:∀e,s≤e→e<ops.size→kd e≠4:=fun e h1 h2 hk=>by
  have:=(D.effs e h2 hk).1 (h e h2);omega
 have hA:=D.agreeZ X D.sle (Nat.le_refl _) hne
 obtain ⟨hW,hL⟩:=X.wf ops.size (Nat.le_refl _)
 have h0:(ms 0).next≤(ms ops.size).next:=X.mono 0 _ (Nat.zero_le _) (Nat.le_refl _)
 have hg:=(qcP X.T ops.size D.sle (by simp) hne).1
 have hbs:∀b,b<(ms 0).next→(ms ops.size).blk b=M.blk b:=fun b hb=>by
  have hb':=Nat.lt_of_lt_of_le hb (X.mono 0 s (Nat.zero_le _) D.sle)
  rw[hg b hb',D.agree b hb']
 refine ⟨⟨D.rel.below hW hA,D.frm,h0, ?_, ?_, ?_, ?_⟩, ?_,D.defers,D.tmps⟩
 ·intro b hb
  simp only[Emb.below,show b<(ms ops.size).next by omega,if_true]
  exact D.ext b hb
 ·intro b e hb hge
  exact D.fresh b e (qaC hb).2 hge
 ·intro b hb ho
  exact D.old b hb (by rw[←hbs b hb];exact ho)
 ·intro b hb ho
  exact D.alive b hb (by rw[←hbs b hb];exact ho)
 ·intro t
  refine qbV.2.2 ?_ (hL t)
  rcases qd0 X.T t ops.size (by simp) with ⟨x,p,h1,h2,h3,h4,h5⟩|⟨h1,h2⟩
  ·have h2':ops[x]? =some p:=by simpa using h2
   rcases D.cur t with ⟨y,q,g1,g2,g3,g4,g5⟩|⟨g1,_⟩
   ·have hy:=(Array.getElem?_eq_some_iff.1 g1).1
    have:y=x:=by
     rcases Nat.lt_trichotomy y x with hh|hh|hh
     ·exact absurd h3 (g4 x p hh h2' (h x h1))
     ·exact hh
     ·exact absurd g3 (h5 y q hh hy (by simpa using g1))
    subst this
    rw[h4];exact g5
   ·exact absurd h3 (g1 x p h2' (h x h1))
  ·rcases D.cur t with ⟨y,q,g1,g2,g3,g4,g5⟩|⟨_,g2⟩
   ·exact absurd g3 (h1 y q (Array.getElem?_eq_some_iff.1 g1).1 (by simpa using g1))
   ·rw[h2];exact g2
theorem Mid.go (X:Ctx P C ops N fs ms vs kd j0 w0) {Q:Exit→Act→World→Prop} (hQ:∀a w j',Post P j0 (ms 0) w0 j' (ms ops.size) w→(∀t,VR j' (fs ops.size t) (a.tmps.getD t undef))→a.defers=[]→a.tmps.size=N→Q .normal a w):
  ∀(fuel:Nat) (listed:Array Bool) (a:Act) (w:World) (s:Nat) (M:Mem) (j:Emb),Mid P ops N fs ms vs kd j0 w0 listed a w s M j→left ops.size listed≤fuel→wpAny P .any ops Q fuel listed a w:=by
 intro fuel
 induction fuel with
 |zero=>
  intro listed a w s M j D hl
  have hall:=qkG (n:=ops.size) (by omega:left ops.size listed=0)
  obtain ⟨h1,h2,h3,h4⟩:=D.end X hall
  refine ⟨?_,hQ _ _ _ h1 h2 h3 h4⟩
  simp only[Region.ready,List.filter_eq_nil_iff,List.mem_range]
  intro i hi
  have:=hall i hi
  rw[qbu (by rw[D.size];exact hi),this]
  simp
 |succ fuel ih=>
  intro listed a w s M j D hl
  refine ⟨fun hr=> ?_,fun i hi=> ?_⟩
  ·obtain ⟨h1,h2,h3,h4⟩:=D.end X (D.all X hr)
   exact hQ _ _ _ h1 h2 h3 h4
  ·obtain ⟨o,hlt,ho,hnot,hdeps⟩:=qm3 hi
   have hls:i<listed.size:=by rw[D.size];exact hlt
   have R:Ready ops listed i o:=⟨ho,by rw[←qbu hls];exact hnot,hdeps⟩
   have hdec:left ops.size (listed.setIfInBounds i true)≤fuel:=by
    have:left ops.size (listed.setIfInBounds i true)<left ops.size listed:=by
     refine filter_lt _ i (by simpa using hlt) (fun y hy=> ?_) (by rw[R.not];rfl) (by rw[(qaw hls).2 (.inl rfl)];rfl)
     simp only[Bool.not_eq_true'] at hy⊢
     exact (qb0 hls hy).2
    omega
   have hwant:=D.wanted X R
   have hopsR:=D.opsR X R
   unfold wpOp
   rw[ho]
   simp only[]
   rcases X.run ho with ⟨hk,hw,hv,_⟩|⟨hk,hw,hp,_⟩|⟨hk,hw,hp,_⟩|⟨hk,hw,Xb,hp,hm⟩|⟨hk,hw,hp⟩
   ·rw[hwant,hw,if_neg (by simp)]
    exact ih _ _ _ s M j (D.quiet X R (by omega) (by omega) (by rw[hv];exact ⟨#[],rfl,True.intro⟩)) hdec
   ·rw[hwant,hw,if_pos rfl]
    left
    obtain ⟨cv,hr,hcv⟩:=qfG hp hopsR w
    unfold Oper.wp
    rw[hr]
    exact ih _ _ _ s M j (D.quiet X R (by omega) (by omega) hcv) hdec
   ·rw[hwant,hw,if_pos rfl]
    left
    have hread:∃z,ReadR P (ev (fs i)) o (ms z) (vs i)∧RdOk P j (ms z) w:=by
     rcases Nat.lt_or_ge i s with his|his
     ·refine ⟨s, ?_,D.rdOk X (Nat.le_refl _) D.sle (fun e h1 h2=>by omega)⟩
      rcases D.last with h0|hlast
      ·omega
      ·have hs1:s - 1+1=s:=by omega
       have hsl:=D.sle
       have hne:i≠s - 1:=by intro h;rw[←h] at hlast;omega
       have hls1:listed.getD (s - 1) false=true:=(D.effs (s - 1) (by omega) hlast).2 (by omega)
       have hanc:anc (Region.before ops) (s - 1) i=false:=by
        cases hA:anc (Region.before ops) (s - 1) i with
        |false=>rfl
        |true=>
         have:=D.ancIn hls1 hA
         rw[R.not] at this;cases this
       have:=X.T.after i (s - 1) o (by simpa using ho) (by simpa using hk) (by simp;omega) (by simpa using hlast) (by omega) (by simpa using hanc)
       simp only[Nat.zero_add,hs1] at this
       exact this
     ·by_cases hex:∃e,s≤e∧e<i∧kd e=4
      ·
       have hmin:∃z,s≤z∧z<i∧kd z=4∧∀e,s≤e→e<z→kd e≠4:=by
        obtain ⟨e,h1,h2,h3⟩:=hex
        clear hwant hopsR
        induction e using Nat.strongRecOn with
        |_ e ihe=>
         by_cases hm:∃e',s≤e'∧e'<e∧kd e'=4
         ·obtain ⟨e',g1,g2,g3⟩:=hm
          exact ihe e' g2 g1 (by omega) g3
         ·exact ⟨e,h1,h2,h3,fun e' g1 g2 g3=>hm ⟨e',g1,g2,g3⟩⟩
       obtain ⟨z,h1,h2,h3,h4⟩:=hmin
       refine ⟨z, ?_,D.rdOk X h1 (by omega) h4⟩
       have hanc:anc (Region.before ops) i z=false:=by
        cases hA:anc (Region.before ops) i z with
        |false=>rfl
        |true=>
         have:=(D.effs z (by omega) h3).1 (R.anc D hA);omega
       have:=X.T.ahead i z o (by simpa using ho) (by simpa using hk) (by simp;omega) (by simpa using h3) h2 (by simpa using hanc)
       simpa using this
      ·exact ⟨i,hp,D.rdOk X his (Nat.le_of_lt hlt) (fun e h1 h2 h3=>hex ⟨e,h1,h2,h3⟩)⟩
    obtain ⟨z,hrd,hok⟩:=hread
    obtain ⟨cv,hr,hcv⟩:=qfH hrd hopsR hok
    unfold Oper.wp
    rw[hr]
    exact ih _ _ _ s M j (D.quiet X R (by omega) (by omega) hcv) hdec
   ·rw[hwant,hw,if_pos rfl]
    left
    obtain ⟨cv,w',e,ob,hr,hn,hcv⟩:=qmq hp hopsR w
    unfold Oper.wp
    rw[hr]
    exact ih _ _ _ s _ _ (D.fresh' X R hk hm hn (hcv _ (by simp[Emb.up]))) hdec
   ·rw[hwant,hw,if_pos rfl]
    left
    obtain ⟨h1,h2,h3,h4⟩:=D.eff X R hk
    obtain ⟨hWi,hLi⟩:=X.wf i (Nat.le_of_lt hlt)
    have hmem:o∈ops.toList:=by have:=Array.mem_of_getElem? ho;simpa using this
    have hopsB:OpsR (j.below (ms i).next) (ev (fs i)) a.eval o:=fun x hx=>qbV.2.2 (hopsR x hx) (qpB hLi (X.okx o hmem x hx))
    exact qpz hp hopsB h3 hWi X.sound fun cv w' j1 hpost hcv=>ih _ _ _ _ _ _ (h4 hpost hcv) hdec
end
theorem qkK {P:Program} {C:FuncId→Array Value→Mem→Value→Mem→Prop} {ops:Array Oper} {id:Nat} {fr fr':Nat→Value} {m m':Mem} {j:Emb} {a:Act} {w:World} {Q:Exit→Act→World→Prop}
  (hmix:P.follows .mixedOrders=true) (h:qaK P C ops.toList (Region.before ops) 0 ops.toList ⟨[],[],[]⟩ fr m fr' m') (hok:qd4 ops=true) (hX:∀o∈ops.toList,∀x∈o.op.operands,okX x=true) (hdst:∀o∈ops.toList,∀d,o.dst=some d→d<a.tmps.size)
  (hC:qb7 C) (hS:qfn P C) (hR:Rel P j m w) (hW:WF m) (hfr:∀t,VR j (fr t) (a.tmps.getD t undef)) (hd:a.defers=[])
  (hQ:∀a' w' j',Post P j m w j' m' w'→(∀t,VR j' (fr' t) (a'.tmps.getD t undef))→a'.defers=[]→a'.tmps.size=a.tmps.size→Q .normal a' w'):(Code.region id ops true).wp P Q a w:=by
 refine wp_region_any hmix ?_
 obtain ⟨fs,ms,vs,kd,T,h1,h2,h3,h4,_⟩:=qs7 _ _ _ _ _ _ _ h
 simp only[Nat.zero_add,Array.length_toList] at h3 h4
 have hR':Rel P j (ms 0) {w with drawn:=w.drawn+1}:=by rw[h2];exact qnG hR rfl
 have hlt:∀b e,j b=some e→b<(ms 0).next:=fun b e hb=>by rw[h2];exact (hR.lt b e hb).1
 have X:Ctx P C ops a.tmps.size fs ms vs kd j {w with drawn:=w.drawn+1}:=⟨T,hok,hX,hdst,hC,hS,hR',by rw[h2];exact hW,fun t=>by rw[h1];exact (qjP hlt).2.2 (hfr t)⟩
 have hnl:∀i,(Array.replicate ops.size false).getD i false=true→False:=by
  intro i hi
  simp only[Array.getD,Array.size_replicate] at hi
  split at hi<;>simp at hi
 have D:Mid P ops a.tmps.size fs ms vs kd j {w with drawn:=w.drawn+1} (Array.replicate ops.size false) a {w with drawn:=w.drawn+1} 0 {next:=(ms ops.size).next,blk:=(ms 0).blk} j:=by
  refine ⟨by simp,fun i o hi=>(hnl i hi).elim,Nat.zero_le _, .inl rfl,fun i _ _=>⟨fun h=>(hnl i h).elim,fun h=>by omega⟩, ?_,rfl,fun b _=>rfl,fun b e hb=> .inl (hlt b e hb), ?_,fun i _ _ h=>(hnl i h).elim,hd,rfl, ?_,Frm.refl _ _ _,fun _ _=>rfl, ?_,fun _ _ h=>h,fun _ _ h=>h⟩
  ·refine ⟨fun b e hb=>⟨Nat.lt_of_lt_of_le (hlt b e hb) (X.mono 0 _ (Nat.zero_le _) (Nat.le_refl _)),(hR'.lt b e hb).2⟩,hR'.obj,hR'.inj⟩
  ·intro i hi hk hl
   cases hj:j (ms i).next with
   |none=>rfl
   |some e=>
    have:=hlt _ e hj
    have:=X.mono 0 i (Nat.zero_le _) (Nat.le_of_lt hi)
    omega
  ·intro t
   right
   exact ⟨fun x p _ hl=>(hnl x hl).elim,by rw[h1];exact hfr t⟩
  ·intro b e hb hge
   have:=hlt b e hb;omega
 refine Mid.go X (fun a' w' j' p hv hd' hs=>hQ a' w' j' ?_ (by rw[h3] at hv;exact hv) hd' hs) _ _ _ _ _ _ _ D ?_
 ·rw[h2,h4] at p
  exact ⟨p.rel,⟨p.frm.os,p.frm.tape,p.frm.output,p.frm.size,p.frm.block⟩,p.next,p.ext,p.fresh,p.old,p.alive⟩
 ·unfold left
  refine Nat.le_trans (List.length_filter_le _ _) ?_
  simp
end Go.AM
end
section
set_option linter.unusedSimpArgs false
set_option linter.unusedVariables false
namespace Go.AM
theorem Rel.grew {P:Program} {j:Emb} {m:Mem} {w w':World} (h:Rel P j m w) (h1:w'.os=w.os) (h2:w'.tape=w.tape) (h3:w'.output=w.output) (h4:w.heap.size≤w'.heap.size) (h5:∀c,c<w.heap.size→w'.heap[c]? =w.heap[c]?):Post P j m w j m w':=
 ⟨⟨fun b e hb=>⟨(h.lt b e hb).1,Nat.lt_of_lt_of_le (h.lt b e hb).2 h4⟩,fun b e hb=>by rw[h5 _ (h.lt b e hb).2];exact h.obj b e hb,h.inj⟩,
  ⟨h1,h2,h3,h4,fun c hc _=>h5 c hc⟩,Nat.le_refl _,fun _ _=>rfl,fun b e hb hn=>absurd (h.lt b e hb).1 (Nat.not_lt.2 hn),fun _ _ h=>h,fun _ _ h=>h⟩
theorem qhT {j:Emb} {v:Value} (h:qah v=true):VR0 j v v:=qaD h
theorem qk9 {P:Program} {f:FuncId} {args:Array Value} {m m':Mem} {v:Value} (h:SortR P f args m v m') (hW:WF m):low m'.next v∧WF m'∧m.next≤m'.next:=by
 cases h with
 |none a c g h ha=>exact ⟨by intro x hx;simp at hx,hW,Nat.le_refl _⟩
 |row b off l c g L e F F' h ha hl hm hF hn hF' f1 f2=>
  refine ⟨by intro x hx;simp at hx,⟨fun c hc=> ?_,fun c=> ?_⟩,Nat.le_refl _⟩
  ·have hc:m.next≤c:=hc
   simp only[Mem.put]
   split
   ·rename_i hcb
    subst hcb
    have:=hW.dead c hc
    rw[hm] at this;cases this
   ·exact hW.dead c hc
  ·simp only[Mem.put]
   split
   ·intro v hv
    rcases qcL _ _ _ _ hv with hv|hv
    ·have:=hW.low b
     rw[hm] at this
     exact this v hv
    ·exact qch (List.all_eq_true.1 f2 v hv)
   ·exact hW.low c
theorem qik {j:Emb} {s:Value} {g:Nat} {cargs:Array Value} (h:L2 (VR j) (#[s, .func (.func g) #[] #[]]:Array Value).toList cargs.toList):∃cs,VR j s cs∧cargs=#[cs, .func (.func g) #[] #[]]:=by
 obtain ⟨l⟩:=cargs
 match l,h with
 |[c1,c2],⟨h1,⟨gs,ds,h2,h3,h4⟩,_⟩=>
  refine ⟨c1,h1, ?_⟩
  have e1:gs=#[]:=by
   obtain ⟨l⟩:=gs
   cases l with
   |nil=>rfl
   |cons _ _=>exact h3.elim
  have e2:ds=#[]:=by
   obtain ⟨l⟩:=ds
   cases l with
   |nil=>rfl
   |cons _ _=>exact h4.elim
  subst e1 e2 h2
  rfl
 |[_],⟨_,h⟩=>exact h.elim
 |[],h=>exact h.elim
 |_::_::_::_,⟨_,_,h⟩=>exact h.elim
theorem qla {P:Program} {f:FuncId} {args:Array Value} {m m':Mem} {v:Value} (h:SortR P f args m v m') {j:Emb} {w:World} {cargs:Array Value} (hR:Rel P j m w) (hA:L2 (VR j) args.toList cargs.toList):
  Calls P f cargs w fun e w'=>∃cv j',e= .returned cv∧Post P j m w j' m' w'∧VR j' v cv:=by
 cases h with
 |none a c g h ha=>
  subst ha
  obtain ⟨cs,h1,rfl⟩:=qik hA
  have hx:∃p cap,cs= .slice p 0 cap:=by
   cases a with
   |none=>exact ⟨_,_,h1.sliceNil⟩
   |some a=>
    obtain ⟨q,_,_,hc⟩:=h1.slice
    rcases hc with ⟨_,hc⟩|⟨_,_,_,_,_,_,hc⟩|⟨_,_,_,hc⟩|⟨_,_,_,hc⟩<;>exact ⟨_,_,hc⟩
  obtain ⟨p,cap,rfl⟩:=hx
  refine (h p cap w).mono ?_
  rintro e w' ⟨rfl,rfl⟩
  exact ⟨_,j,rfl,Post.refl hR,#[],rfl,True.intro⟩
 |row b off l c g L e F F' h ha hl hm hF hn hF' f1 f2=>
  subst ha
  obtain ⟨cs0,h1,rfl⟩:=qik hA
  obtain ⟨q,_,hj,hc⟩:=h1.slice
  have hx:∃cap,cs0= .slice (some ⟨q.blk,q.sh+off,none⟩) l cap:=by
   rcases hc with ⟨_,hc⟩|⟨_,_,_,_,_,_,hc⟩|⟨_,hl0,_⟩|⟨_,hl0,_⟩
   ·exact ⟨_,hc⟩
   ·exact ⟨_,hc⟩
   ·omega
   ·omega
  obtain ⟨cap,rfl⟩:=hx
  have hj:j b=some q:=hj
  obtain ⟨cs,fz,g1,g2,g3,g4,g5,g6⟩:=hR.own b q L e hj hm
  have hFc:∀(i:Nat) (v:Value),F[i]? =some v→cs[q.sh+off+i]? =some v:=by
   intro i v hi
   have hlt:=(List.getElem?_eq_some_iff.1 hi).1
   have hi2:=hi
   rw[←hF,List.getElem?_take,if_pos hlt,List.getElem?_drop] at hi2
   obtain ⟨cv,k1,k2⟩:=g6 _ v hi2
   have hfl:qah v=true:=List.all_eq_true.1 f1 v (List.mem_of_getElem? hi)
   rw[qdb hfl k2] at k1
   rw[Nat.add_assoc];exact k1
  refine (h w q.blk (q.sh+off) cap cs e fz g1 hFc g2).mono ?_
  rintro ex w' ⟨rfl,k1,k2,k3,k4,k5,k6⟩
  have hlt:=(hR.lt b q hj).2
  have hlen:(setN cs.toList (q.sh+off) F').length=cs.size:=by rw[qax];simp
  have hlL:(setN L off F').length=L.length:=qax _ _ _
  have hp:=hR.write (L':=setN L off F') (cs':=(setN cs.toList (q.sh+off) F').toArray) hj hm g1 (by simpa using hlen) (by rw[hlL];exact g5) (fun i v hi=>by
   rw[qaR _ _ _ _ (by omega)] at hi
   rw[List.getElem?_toArray,qaR _ _ _ _ (by rw[hF'];simp;omega)]
   by_cases hin:off≤i∧i<off+F'.length
   ·rw[if_pos hin] at hi
    rw[if_pos (by omega),show q.sh+i - (q.sh+off)=i - off by omega]
    exact ⟨v,hi,qhT (List.all_eq_true.1 f2 v (List.mem_of_getElem? hi))⟩
   ·rw[if_neg hin] at hi
    rw[if_neg (by omega)]
    obtain ⟨cv,k1,k2⟩:=g6 i v hi
    exact ⟨cv,by simpa using k1,k2⟩)
  refine ⟨_,j,rfl,hp.trans (hp.rel.grew k1 k2 k3 (by simpa[qbC] using k4) fun c hc=> ?_),#[],rfl,True.intro⟩
  have hc:c<w.heap.size:=by simpa[qbC] using hc
  by_cases hcb:c=q.blk
  ·subst hcb
   rw[k6,qdV hlt]
  ·rw[k5 c hc hcb,qe7 hcb]
end Go.AM
end
section
set_option linter.unusedSimpArgs false
set_option linter.unusedVariables false
namespace Go.AM
theorem FR.put {j j':Emb} {N:Nat} {fr:Nat→Value} {a:Act} {d:Option Tmp} {v cv:Value} (h:FR j N fr a) (hup:∀b e,j b=some e→j' b=some e) (hd:∀t,d=some t→t<N) (hv:VR j' v cv):FR j' N (set fr d v) (a.put d cv):=by
 refine ⟨fun t=> ?_,by rw[qai.2];exact h.defers,by rw[qai.1];exact h.size⟩
 cases d with
 |none=>exact (h.val t).mono hup
 |some x=>
  have hx:x<a.tmps.size:=by rw[h.size];exact hd x rfl
  rw[qgK hx]
  simp only[set]
  split
  ·exact hv
  ·exact (h.val t).mono hup
theorem FR.ops {j:Emb} {N:Nat} {fr:Nat→Value} {a:Act} (h:FR j N fr a) {o:Oper} (ho:∀x∈o.op.operands,okX x=true):OpsR j (ev fr) a.eval o:=
 fun x hx=>qmu (ho x hx) fun t _=>h.val t
theorem qkF (j:Emb):VR j undef undef:=⟨#[],rfl,True.intro⟩
theorem qdA {P:Program} {C:FuncId→Array Value→Mem→Value→Mem→Prop} {ops:Array Oper} {N:Nat} {Q:Exit→Act→World→Prop} (hC:qb7 C) (hS:qfn P C) (hdst:∀o∈ops.toList,∀d,o.dst=some d→d<N):
  ∀(l:List Oper) (fr fr':Nat→Value) (m m':Mem) (j:Emb) (a:Act) (w:World),(∀o∈l,(∀x∈o.op.operands,okX x=true)∧∀d,o.dst=some d→d<N)→seqR P C ops.toList l fr m fr' m'→Rel P j m w→WF m→FR j N fr a→
   (∀a' w' j',Post P j m w j' m' w'→FR j' N fr' a'→Q .normal a' w')→wpList P ops Q l a w
 |[],fr,fr',m,m',j,a,w,hl,h,hR,hW,hF,hQ=>by
  simp only[seqR] at h
  obtain ⟨rfl,rfl⟩:=h
  exact hQ a w j (Post.refl hR) hF
 |o::l,fr,fr',m,m',j,a,w,hl,h,hR,hW,hF,hQ=>by
  obtain ⟨hx,hd⟩:=hl o (by simp)
  have hl':∀o∈l,(∀x∈o.op.operands,okX x=true)∧∀d,o.dst=some d→d<N:=fun p hp=>hl p (by simp[hp])
  have hwant:Region.wanted o (yielded ops a.tmps)=wanted ops.toList fr o:=qis hF.size hdst fun g w d hg hd=>hF.val d
  unfold wpList
  rw[hwant]
  simp only[seqR] at h
  by_cases hw:wanted ops.toList fr o=true
  ·rw[if_pos hw]
   rw[if_pos hw] at h
   obtain ⟨v,m1,hstep,hrest⟩:=h
   have hlow:∀t,low m.next (fr t):=fun t=>(qjP fun b e hb=>(hR.lt b e hb).1).2.2 (hF.val t)
   have hst:=qb5 hstep hW hlow hC hx
   have hops:=hF.ops hx
   have cont:∀cv w' j',Post P j m w j' m1 w'→VR j' v cv→wpList P ops Q l (a.put o.dst cv) w':=fun cv w' j' hp hv=>
    qdA hC hS hdst l _ _ _ _ j' _ _ hl' hrest hp.rel hst.2.1 (hF.put (hp.up hR) hd hv) fun a' w'' j'' hp' hF'=>hQ a' w'' j'' (hp.trans hp') hF'
   left
   cases hstep with
   |pure h=>
    obtain ⟨cv,hr,hv⟩:=qfG h hops w
    unfold Oper.wp
    rw[hr]
    exact cont cv w j (Post.refl hR) hv
   |read h=>
    obtain ⟨cv,hr,hv⟩:=qfH h hops hR.rdOk
    unfold Oper.wp
    rw[hr]
    exact cont cv w j (Post.refl hR) hv
   |new h=>
    obtain ⟨cv,w',j',hr,hp,hv⟩:=qmr h hops hR
    unfold Oper.wp
    rw[hr]
    exact cont cv w' j' hp hv
   |eff h=>exact qpz h hops hR hW hS cont
  ·rw[if_neg hw]
   rw[if_neg hw] at h
   exact qdA hC hS hdst l _ _ _ _ j _ _ hl' h hR hW (hF.put (fun _ _ h=>h) hd (qkF j)) hQ
theorem qgR {P:Program} {C:FuncId→Array Value→Mem→Value→Mem→Prop} {ops:List Oper} (hC:qb7 C):∀(l:List Oper) (fr fr':Nat→Value) (m m':Mem),(∀o∈l,∀x∈o.op.operands,okX x=true)→seqR P C ops l fr m fr' m'→WF m→(∀t,low m.next (fr t))→
  WF m'∧(∀t,low m'.next (fr' t))∧m.next≤m'.next
 |[],fr,fr',m,m',hl,h,hW,hf=>by
  simp only[seqR] at h
  obtain ⟨rfl,rfl⟩:=h
  exact ⟨hW,hf,Nat.le_refl _⟩
 |o::l,fr,fr',m,m',hl,h,hW,hf=>by
  simp only[seqR] at h
  have hl':∀o∈l,∀x∈o.op.operands,okX x=true:=fun p hp=>hl p (by simp[hp])
  split at h
  ·obtain ⟨v,m1,hstep,hrest⟩:=h
   have hst:=qb5 hstep hW hf hC (hl o (by simp))
   have:=qgR hC l _ _ _ _ hl' hrest hst.2.1 (qfa (fun t=>qeq hst.2.2 (hf t)) hst.1)
   exact ⟨this.1,this.2.1,Nat.le_trans hst.2.2 this.2.2⟩
  ·exact qgR hC l _ _ _ _ hl' h hW (qfa hf qcD)
theorem qge {P:Program} {C:FuncId→Array Value→Mem→Value→Mem→Prop} {ops:List Oper} {B:Array Nat} (hC:qb7 C):∀(l:List Oper) (i:Nat) (A:Acc) (fr fr':Nat→Value) (m m':Mem),(∀o∈l,∀x∈o.op.operands,okX x=true)→qaK P C ops B i l A fr m fr' m'→WF m→(∀t,low m.next (fr t))→
  WF m'∧(∀t,low m'.next (fr' t))∧m.next≤m'.next
 |[],i,A,fr,fr',m,m',hl,h,hW,hf=>by
  simp only[qaK] at h
  obtain ⟨rfl,rfl⟩:=h
  exact ⟨hW,hf,Nat.le_refl _⟩
 |o::l,i,A,fr,fr',m,m',hl,h,hW,hf=>by
  simp only[qaK] at h
  have hl':∀o∈l,∀x∈o.op.operands,okX x=true:=fun p hp=>hl p (by simp[hp])
  have key:∀v m1 A',StepR P C (ev fr) o m v m1→qaK P C ops B (i+1) l A' (set fr o.dst v) m1 fr' m'→WF m'∧(∀t,low m'.next (fr' t))∧m.next≤m'.next:=by
   intro v m1 A' hstep hrest
   have hst:=qb5 hstep hW hf hC (hl o (by simp))
   have:=qge hC l _ _ _ _ _ _ hl' hrest hst.2.1 (qfa (fun t=>qeq hst.2.2 (hf t)) hst.1)
   exact ⟨this.1,this.2.1,Nat.le_trans hst.2.2 this.2.2⟩
  split at h
  ·rcases h with ⟨v,hp,hd⟩|⟨v,hp,_,hd⟩|⟨X,v,hp,hd⟩|⟨v,m1,hp,_,_,hd⟩
   ·exact key _ _ _ (.pure hp) hd
   ·exact key _ _ _ (.read hp) hd
   ·exact key _ _ _ (.new hp) hd
   ·exact key _ _ _ (.eff hp) hd
  ·exact qge hC l _ _ _ _ _ _ hl' h hW (qfa hf qcD)
theorem qev {n id:Nat} {ops:Array Oper} {d:Bool} (h:qat n (.region id ops d)=true):(∀o∈ops.toList,(∀x∈o.op.operands,okX x=true)∧∀d,o.dst=some d→d<n)∧(d=true→qd4 ops=true):=by
 simp only[qat,Bool.and_eq_true,List.all_eq_true,Bool.or_eq_true,Bool.not_eq_true'] at h
 refine ⟨fun o ho=>⟨fun x hx=>(h.1 o ho).1 x (by simpa using hx),fun t ht=> ?_⟩,fun hd=> ?_⟩
 ·have:=(h.1 o ho).2
  rw[ht] at this
  simpa using this
 ·rcases h.2 with h|h
  ·rw[hd] at h;cases h
  ·exact h
theorem qc7 {P:Program} {C:FuncId→Array Value→Mem→Value→Mem→Prop} (hC:qb7 C) {N:Nat}:∀(n:Nat) (c:Code) (fr fr':Nat→Value) (m m':Mem) (e:AExit),qat N c=true→qbY P C n c fr m e fr' m'→WF m→(∀t,low m.next (fr t))→
  WF m'∧(∀t,low m'.next (fr' t))∧m.next≤m'.next:=by
 intro n
 induction n with
 |zero=>intro c fr fr' m m' e _ h;exact h.elim
 |succ n ih=>
  intro c fr fr' m m' e hok h hW hf
  cases c with
  |skip=>obtain ⟨_,rfl,rfl⟩:=h;exact ⟨hW,hf,Nat.le_refl _⟩
  |label l=>obtain ⟨_,rfl,rfl⟩:=h;exact ⟨hW,hf,Nat.le_refl _⟩
  |exit id=>obtain ⟨_,rfl,rfl⟩:=h;exact ⟨hW,hf,Nat.le_refl _⟩
  |ret=>obtain ⟨_,rfl,rfl⟩:=h;exact ⟨hW,hf,Nat.le_refl _⟩
  |region id ops d=>
   have hr:=qev hok
   cases d with
   |false=>exact qgR hC _ _ _ _ _ (fun o ho=>(hr.1 o ho).1) h.2 hW hf
   |true=>exact qge hC _ _ _ _ _ _ _ (fun o ho=>(hr.1 o ho).1) h.2 hW hf
  |seq a b=>
   simp only[qat,Bool.and_eq_true] at hok
   rcases h with ⟨e1,fr1,m1,h1,h2⟩|h
   rotate_left
   ·exact ⟨(h.low hW hf).1,(h.low hW hf).2,h.next⟩
   obtain ⟨g1,g2,g3⟩:=ih a _ _ _ _ _ hok.1 h1 hW hf
   split at h2
   ·obtain ⟨k1,k2,k3⟩:=ih b _ _ _ _ _ hok.2 h2 g1 g2
    exact ⟨k1,k2,Nat.le_trans g3 k3⟩
   ·obtain ⟨_,rfl,rfl⟩:=h2;exact ⟨g1,g2,g3⟩
  |cond c a b=>
   simp only[qat,Bool.and_eq_true] at hok
   obtain ⟨t,_,h1⟩:=h
   cases t
   ·exact ih b _ _ _ _ _ hok.2 h1 hW hf
   ·exact ih a _ _ _ _ _ hok.1.2 h1 hW hf
  |block id c=>
   obtain ⟨e1,h1,_⟩:=h
   exact ih c _ _ _ _ _ hok h1 hW hf
  |scope c=>exact ih c _ _ _ _ _ hok h hW hf
  |loop c=>
   obtain ⟨e1,fr1,m1,h1,h2⟩:=h
   obtain ⟨g1,g2,g3⟩:=ih c _ _ _ _ _ hok h1 hW hf
   split at h2
   ·obtain ⟨k1,k2,k3⟩:=ih (.loop c) _ _ _ _ _ hok h2 g1 g2
    exact ⟨k1,k2,Nat.le_trans g3 k3⟩
   ·obtain ⟨_,rfl,rfl⟩:=h2;exact ⟨g1,g2,g3⟩
  |rangeFunc f ps x y=>exact h.elim
  |goto l=>exact h.elim
  |refuse s=>exact h.elim
def qpu (P:Program) (C:FuncId→Array Value→Mem→Value→Mem→Prop) (N n:Nat) (c:Code):Prop:=
 ∀(fr fr':Nat→Value) (m m':Mem) (e:AExit) (j:Emb) (a:Act) (w:World) (Q:Exit→Act→World→Prop),
  qat N c=true→qbY P C n c fr m e fr' m'→Rel P j m w→WF m→FR j N fr a→(∀a' w' j',Post P j m w j' m' w'→FR j' N fr' a'→Q e.out a' w')→c.wp P Q a w
theorem FR.low {P:Program} {j:Emb} {N:Nat} {fr:Nat→Value} {a:Act} {m:Mem} {w:World} (hF:FR j N fr a) (hR:Rel P j m w):∀t,low m.next (fr t):=fun t=>(qjP fun b e hb=>(hR.lt b e hb).1).2.2 (hF.val t)
theorem qkT {P:Program} {C:FuncId→Array Value→Mem→Value→Mem→Prop} (hC:qb7 C) {N:Nat} {c:Code} (hok:qat N c=true):∀(n:Nat),(∀n',n'<n→qpu P C N n' c)→∀(fr fr':Nat→Value) (m m':Mem) (e:AExit) (j:Emb) (a:Act) (w:World) (Q:Exit→Act→World→Prop),
  qbY P C n (.loop c) fr m e fr' m'→Rel P j m w→WF m→FR j N fr a→(∀a' w' j',Post P j m w j' m' w'→FR j' N fr' a'→Q e.out a' w')→
  ∀(b:Frame) (k:List Item) (cs:List Frame),∃e' a' w',Q e' a' w'∧Arrives P (lone (b.at a (.code c:: .inLoop c::k)) cs w) b k cs e' a' w':=by
 intro n
 induction n with
 |zero=>intro _ fr fr' m m' e j a w Q h;exact h.elim
 |succ n ih=>
  intro hA fr fr' m m' e j a w Q h hR hW hF hQ b k cs
  obtain ⟨e1,fr1,m1,h1,h2⟩:=h
  have hl:=qc7 hC n c _ _ _ _ _ hok h1 hW (hF.low hR)
  by_cases he:e1= .normal
  ·subst he
   rw[if_pos rfl] at h2
   have key:c.wp P (fun e a' w'=>e= .normal∧∃e' a'' w'',Q e' a'' w''∧Arrives P (lone (b.at a' (.code c:: .inLoop c::k)) cs w') b k cs e' a'' w'') a w:=
    hA n (Nat.lt_succ_self n) _ _ _ _ _ j a w _ hok h1 hR hW hF fun a1 w1 j1 hp hF1=>
     ⟨rfl,ih (fun n' hn'=>hA n' (by omega)) _ _ _ _ _ j1 a1 w1 Q h2 hp.rel hl.1 hF1 (fun a2 w2 j2 hp2 hF2=>hQ a2 w2 j2 (hp.trans hp2) hF2) b k cs⟩
   obtain ⟨e',a1,w1,⟨rfl,e2,a2,w2,hq2,harr2⟩,harr⟩:=key b (.inLoop c::k) cs
   exact ⟨e2,a2,w2,hq2, .of_steps (Steps.trans harr (.one step_inLoop)) harr2⟩
  ·rw[if_neg he] at h2
   obtain ⟨rfl,rfl,rfl⟩:=h2
   have key:c.wp P (fun e' a' w'=>e'≠ .normal∧Q e' a' w') a w:=
    hA n (Nat.lt_succ_self n) _ _ _ _ _ j a w _ hok h1 hR hW hF fun a1 w1 j1 hp hF1=>⟨by cases e with
     |normal=>exact absurd rfl he
     |exit id=>simp[AExit.out]
     |ret=>simp[AExit.out],hQ a1 w1 j1 hp hF1⟩
   obtain ⟨e',a1,w1,⟨hne,hq⟩,harr⟩:=key b (.inLoop c::k) cs
   exact ⟨e',a1,w1,hq, .pass (x:= .inLoop c) rfl (fun _ _=> .inl hne) harr⟩
theorem qdH {P:Program} {C:FuncId→Array Value→Mem→Value→Mem→Prop} (hmix:P.follows .mixedOrders=true) (hC:qb7 C) (hS:qfn P C) {N:Nat}:∀(n:Nat) (c:Code),qpu P C N n c:=by
 intro n
 induction n using Nat.strongRecOn with
 |_ n ih=>
 cases n with
 |zero=>intro c fr fr' m m' e j a w Q _ h;exact h.elim
 |succ n=>
  intro c fr fr' m m' e j a w Q hok h hR hW hF hQ
  have hlow:=hF.low hR
  have ihn:=ih n (Nat.lt_succ_self n)
  cases c with
  |skip=>obtain ⟨rfl,rfl,rfl⟩:=h;exact wp_skip (hQ a w j (Post.refl hR) hF)
  |label l=>obtain ⟨rfl,rfl,rfl⟩:=h;exact wp_label (hQ a w j (Post.refl hR) hF)
  |exit id=>obtain ⟨rfl,rfl,rfl⟩:=h;exact wp_exit (hQ a w j (Post.refl hR) hF)
  |ret=>obtain ⟨rfl,rfl,rfl⟩:=h;exact wp_ret (hQ a w j (Post.refl hR) hF)
  |region id ops d=>
   have hr:=qev hok
   have hdst:∀o∈ops.toList,∀d,o.dst=some d→d<N:=fun o ho=>(hr.1 o ho).2
   cases d with
   |false=>
    obtain ⟨rfl,h⟩:=h
    exact wp_region_list (qdA hC hS hdst _ _ _ _ _ j a w hr.1 h hR hW hF hQ)
   |true=>
    obtain ⟨rfl,h⟩:=h
    exact qkK hmix h (hr.2 rfl) (fun o ho=>(hr.1 o ho).1) (by rw[hF.size];exact hdst) hC hS hR hW hF.val hF.defers fun a' w' j' hp hv hd hs=>hQ a' w' j' hp ⟨hv,hd,by rw[hs];exact hF.size⟩
  |seq a' b=>
   have hok0:=hok
   simp only[qat,Bool.and_eq_true] at hok
   rcases h with ⟨e1,fr1,m1,h1,h2⟩|h
   rotate_left
   ·exact h.sound hok0 hR hW hF hQ
   have hl:=qc7 hC n a' _ _ _ _ _ hok.1 h1 hW hlow
   refine wp_seq (ihn a' _ _ _ _ _ j a w _ hok.1 h1 hR hW hF fun a1 w1 j1 hp hF1=> ?_)
   split at h2
   ·rename_i he
    subst he
    exact ihn b _ _ _ _ _ j1 a1 w1 Q hok.2 h2 hp.rel hl.1 hF1 fun a2 w2 j2 hp2 hF2=>hQ a2 w2 j2 (hp.trans hp2) hF2
   ·rename_i he
    obtain ⟨rfl,rfl,rfl⟩:=h2
    cases e with
    |normal=>exact absurd rfl he
    |exit id=>exact hQ a1 w1 j1 hp hF1
    |ret=>exact hQ a1 w1 j1 hp hF1
  |cond c x y=>
   simp only[qat,Bool.and_eq_true] at hok
   obtain ⟨t,ht,h1⟩:=h
   have hv:VR j (ev fr c) (a.eval c):=qmu hok.1.1 fun t _=>hF.val t
   rw[ht] at hv
   refine wp_cond hv.bool ?_
   cases t
   ·exact ihn y _ _ _ _ _ j a w Q hok.2 h1 hR hW hF hQ
   ·exact ihn x _ _ _ _ _ j a w Q hok.1.2 h1 hR hW hF hQ
  |scope c=>
   refine wp_scope_straight (ihn c _ _ _ _ _ j a w _ hok h hR hW hF fun a1 w1 j1 hp hF1=> ?_)
   have:=hQ a1 w1 j1 hp hF1
   cases e<;>exact this
  |block id c=>
   obtain ⟨e1,h1,he⟩:=h
   refine wp_block (ihn c _ _ _ _ _ j a w _ hok h1 hR hW hF fun a1 w1 j1 hp hF1=> ?_)
   have:=hQ a1 w1 j1 hp hF1
   rw[he] at this
   cases e1 with
   |normal=>simp only[AExit.out] at this⊢;exact this
   |exit id'=>
    by_cases hid:id'=id
    ·subst hid
     simp only[if_pos,AExit.out] at this
     simp only[AExit.out,Exit.inBlock,if_pos]
     exact this
    ·simp only[AExit.exit.injEq,hid,if_false,AExit.out] at this
     simp only[AExit.out,Exit.inBlock,hid,if_false]
     exact this
   |ret=>simp only[AExit.out] at this⊢;exact this
  |loop c=>
   intro b k cs
   obtain ⟨e',a1,w1,hq,harr⟩:=qkT hC (c:=c) hok (n+1) (fun n' hn'=>ih n' hn' c) _ _ _ _ _ j a w Q h hR hW hF hQ b k cs
   exact ⟨e',a1,w1,hq, .of_steps (.one step_loop) harr⟩
  |rangeFunc f ps x y=>exact h.elim
  |goto l=>exact h.elim
  |refuse s=>exact h.elim
theorem qih {P:Program} {fr:Nat→Value} {m:Mem} {j:Emb} {N:Nat} {a:Act} {w:World} (hR:Rel P j m w) (hF:FR j N fr a) {r:ResultVar} {v:Value} (h:qgP P fr m r v):
  ∃cv,(match r with| .tmp t=>(pure (a.tmps.getD t undef):Sem Value)| .cell x t=>do loadVar t (←asAddr (a.tmps.getD x undef))).run P w= .ok cv w∧VR j v cv:=by
 cases r with
 |tmp t=>
  simp only[qgP] at h
  subst h
  exact ⟨_,rfl,hF.val t⟩
 |cell x t=>
  obtain ⟨b,off,hx,d,hd,hv⟩:=h
  have hX:=hF.val x
  rw[hx] at hX
  obtain ⟨q,_,hj,hc⟩:=hX.ptr
  by_cases ha:aggT d=true
  ·rw[if_pos ha] at hv
   obtain ⟨i,cs,hi,hrd,rfl⟩:=hv
   obtain ⟨ds,hl,hn,hdd⟩:=qcr hR.rdOk hj _ _ _ hrd
   exact ⟨.agg ds.toArray,by simp[hc,asAddr,loadVar,qe8 hd,ha,qaI hi,qbO hn hdd],⟨_,rfl,by simpa using hl⟩⟩
  ·rw[if_neg ha] at hv
   obtain ⟨cv,hcc,hr⟩:=hR.rdOk.load b q off v hj hv
   exact ⟨cv,by simp[hc,asAddr,loadVar,qe8 hd,ha,hcc],VR.of0 hr⟩
theorem qdv {P:Program} {fr:Nat→Value} {m:Mem} {j:Emb} {N:Nat} {a:Act} {w:World} (hR:Rel P j m w) (hF:FR j N fr a):∀(rs:List ResultVar) (vs:List Value),qaV P fr m rs vs→
  ∃cvs:List Value,(rs.mapM (m:=Sem) fun| .tmp t=>pure (a.tmps.getD t undef)| .cell x t=>do loadVar t (←asAddr (a.tmps.getD x undef))).run P w= .ok cvs w∧L2 (VR j) vs cvs
 |[],[],_=>⟨[],rfl,True.intro⟩
 |r::rs,v::vs,⟨h1,h2⟩=>by
  obtain ⟨cv,hr,hv⟩:=qih hR hF h1
  obtain ⟨cvs,hrs,hvs⟩:=qdv hR hF rs vs h2
  refine ⟨cv::cvs, ?_,hv,hvs⟩
  simp only[List.mapM_cons,Sem.run_bind,Sem.run_pure]
  cases r with
  |tmp t=>simp only[Sem.run_pure] at hr⊢;rw[hr];simp only[Result.andThen_ok,hrs]
  |cell x t=>simp only[Sem.run_bind] at hr⊢;rw[hr];simp only[Result.andThen_ok,hrs]
 |[],_::_,h=>h.elim
 |_::_,[],h=>h.elim
theorem qeB {j:Emb}:∀{vs cvs:List Value},L2 (VR j) vs cvs→(∀x∈vs,storable x=true)→L2 (VR1 j) vs cvs
 |[],[],_,_=>True.intro
 |v::vs,c::cvs,⟨h1,h2⟩,hs=>⟨VR.storable h1 (hs v (by simp)),qeB h2 fun x hx=>hs x (by simp[hx])⟩
 |[],_::_,h,_=>h.elim
 |_::_,[],h,_=>h.elim
theorem qkH {j:Emb} {args cargs:Array Value} (h:L2 (VR j) args.toList cargs.toList) (n:Nat):∀t,VR j ((args++Array.replicate (n - args.size) undef).getD t undef) ((cargs++Array.replicate (n - cargs.size) undef).getD t undef):=by
 have hs:=h.size
 intro t
 by_cases ht:t<args.size
 ·have e1:(args++Array.replicate (n - args.size) undef).getD t undef=args[t]:=by
   rw[Array.getD_eq_getD_getElem?,Array.getElem?_append_left ht];simp[ht]
  have ht':t<cargs.size:=by omega
  have e2:(cargs++Array.replicate (n - cargs.size) undef).getD t undef=cargs[t]:=by
   rw[Array.getD_eq_getD_getElem?,Array.getElem?_append_left ht'];simp[ht']
  rw[e1,e2]
  obtain ⟨b,hb,hr⟩:=h.getA t args[t] (by simp[ht])
  rw[Array.getElem?_eq_getElem ht'] at hb
  cases hb;exact hr
 ·have e:∀(A:Array Value),A.size≤t→(A++Array.replicate (n - A.size) undef).getD t undef=undef:=by
   intro A hA
   rw[Array.getD_eq_getD_getElem?,Array.getElem?_append_right hA]
   by_cases hh:t - A.size<n - A.size
   ·simp[hh]
   ·simp[hh]
  rw[e args (by omega),e cargs (by omega)]
  exact qkF j
theorem qe1 {P : Program} {f : FuncId} {fn : Func} {c : Code} (h : okFn P f = true) (hf : P.funcs[f]? = some fn) (hc : fn.body = some c) : (fn.name == "runtime.NumGoroutine") = false ∧ qat fn.ntmps c = true := by
 simp only[okFn,hf,hc,Bool.and_eq_true,Bool.not_eq_true'] at h
 exact h
theorem WF.trunc {m m1:Mem} (h:WF m) (hb:∀b,b<m.next→m1.blk b=m.blk b∨lowB m.next (m1.blk b)):WF (m1.trunc m.next) where
 dead:=fun b hb'=>by
  have hb':m.next≤b:=hb'
  simp[Mem.trunc,show ¬b<m.next by omega]
 low:=fun b=>by
  simp only[Mem.trunc]
  split
  ·rename_i hlt
   rcases hb b hlt with h1|h1
   ·rw[h1];exact h.low b
   ·exact h1
  ·exact True.intro
theorem qbW {P:Program} (hmix:P.follows .mixedOrders=true):∀n,qb7 (qba P n)∧qfn P (qba P n):=by
 intro n
 induction n with
 |zero=>exact ⟨fun f args m v m' h=>h.elim,fun f args m v m' h=>h.elim⟩
 |succ n ih=>
  obtain ⟨hC,hS⟩:=ih
  refine ⟨?_, ?_⟩
  ·intro f args m v m' h hW hl
   rcases h with ⟨_,h⟩|h
   ·exact qk9 h hW
   obtain ⟨fn,c,e,fr,m1,vs,hf,hb,hokf,hsz,hrun,he,hres,rfl,hst,hm⟩:=h
   have hok:=qe1 hokf hf hb
   have hfr:∀t,low m.next ((args++Array.replicate (fn.ntmps - args.size) undef).getD t undef):=by
    intro t
    rw[Array.getD_eq_getD_getElem?]
    cases hq:(args++Array.replicate (fn.ntmps - args.size) undef)[t]? with
    |none=>exact qcD
    |some x=>
     have:=Array.mem_of_getElem? hq
     simp only[Array.mem_append,Array.mem_replicate] at this
     rcases this with h|⟨_,rfl⟩
     ·exact hl x (by simpa using h)
     ·exact qcD
   obtain ⟨g1,g2,g3⟩:=qc7 hC n c _ _ _ _ _ hok.2 hrun hW hfr
   rcases hm with rfl|⟨rfl,hlow,hblk⟩
   ·refine ⟨?_,g1,g3⟩
    have hr:∀(rs:List ResultVar) (vs:List Value),qaV P fr m' rs vs→∀x∈vs,low m'.next x:=by
     intro rs
     induction rs with
     |nil=>intro vs h x hx;cases vs with|nil=>simp at hx|cons _ _=>exact h.elim
     |cons r rs ih=>
      intro vs h x hx
      cases vs with
      |nil=>exact h.elim
      |cons u us=>
       rcases List.mem_cons.1 hx with rfl|hx
       ·cases r with
        |tmp t=>have:=h.1;simp only[qgP] at this;rw[this];exact g2 t
        |cell q t=>
         obtain ⟨b,off,_,d,hd,hv⟩:=h.1
         split at hv
         ·obtain ⟨i,cs,hi,hrd,rfl⟩:=hv
          simpa[low,low1] using qgM g1 _ _ _ hrd
         ·exact qiZ (qgs g1 hv)
       ·exact ih us h.2 x hx
    have hall:=hr _ _ hres
    rcases hst with h1|h1
    ·match vs,h1 with
     |[x],_=>exact hall x (by simp)
    ·match vs with
     |[]=>intro x hx;simp at hx
     |[x]=>exact hall x (by simp)
     |x::y::l=>intro z hz;exact qaL (hall z (by simpa using hz)) (h1 z (by simpa using hz))
   ·exact ⟨hlow,hW.trunc hblk,Nat.le_refl _⟩
  ·intro f args m v m' h j w cargs hW hR hargs
   rcases h with ⟨hokf,h⟩|h
   ·refine ⟨?_,qla h hR hargs⟩
    cases hf:P.funcs[f]? with
    |none=>simp[okFn,hf] at hokf
    |some fn=>
     cases hb:fn.body with
     |none=>simp[okFn,hf,hb] at hokf
     |some c=>exact ⟨fn,rfl,(qe1 hokf hf hb).1,by simp[hb]⟩
   obtain ⟨fn,c,e,fr,m1,vs,hf,hb,hokf,hsz,hrun,he,hres,rfl,hst,hm⟩:=h
   have hok:=qe1 hokf hf hb
   refine ⟨⟨fn,hf,hok.1,by simp[hb]⟩, ?_⟩
   refine calls_of_wp hf hb ?_
   have hF:FR j fn.ntmps (fun i=>(args++Array.replicate (fn.ntmps - args.size) undef).getD i undef) {tmps:=cargs++Array.replicate (fn.ntmps - cargs.size) undef,defers:=[]}:=
    ⟨qkH hargs fn.ntmps,rfl,by have:=hargs.size;simp;omega⟩
   have hl:=qc7 hC n c _ _ _ _ _ hok.2 hrun hW (hF.low hR)
   refine qdH hmix hC hS n c _ _ _ _ _ j _ w _ hok.2 hrun hR hW hF fun a' w' j' hp hF'=> ?_
   obtain ⟨cvs,hcr,hcv⟩:=qdv hp.rel hF' _ _ hres
   have hlen:=hcv.length
   have hrr:(results fn a'.tmps).run P w'= .ok (pack cvs) w':=by
    simp only[results,Sem.run_bind]
    rw[Array.mapM_eq_mapM_toList]
    simp only[Sem.run_map]
    have hcr':=hcr
    refine Eq.trans (congrArg (fun r=>Result.andThen (Result.andThen r _) _) hcr') ?_
    simp only[Result.andThen_ok,Sem.run_pure]
    congr 1
    match cvs with
    |[]=>rfl
    |[x]=>rfl
    |x::y::l=>simp[pack]
   have hval:VR j' (pack vs) (pack cvs):=by
    rcases hst with h1|h1
    ·match vs,cvs,h1,hcv with
     |[x],[y],_,hh=>exact hh.1
     |[x],[],_,hh=>exact hh.elim
     |[x],_::_::_,_,hh=>exact hh.2.elim
    ·have h2:=qeB hcv h1
     match vs,cvs,hcv,h2 with
     |[x],[y],hh,_=>exact hh.1
     |[],[],_,_=>exact ⟨_,rfl,True.intro⟩
     |x::y::l,x'::y'::l',_,hh=>exact ⟨_,rfl,by simpa using hh⟩
     |[x],[],hh,_=>exact hh.elim
     |[x],_::_::_,hh,_=>exact hh.2.elim
     |[],_::_,hh,_=>exact hh.elim
     |_::_::_,[],hh,_=>exact hh.elim
     |_::_::_,[_],hh,_=>exact hh.2.elim
   have hfin:∃j'',Post P j m w j'' m' w'∧VR j'' (pack vs) (pack cvs):=by
    rcases hm with rfl|⟨rfl,hlow,hblk⟩
    ·exact ⟨j',hp,hval⟩
    ·have hWt:=hW.trunc hblk
     have hrel:Rel P (j'.below m.next) (m1.trunc m.next) w':=Rel.below (m:=m1.trunc m.next) hp.rel hWt (fun b e hb hlt=>by
      have hlt:b<m.next:=hlt
      simp[Mem.trunc,hlt])
     refine ⟨j'.below m.next,⟨hrel,hp.frm,Nat.le_refl _,fun b hb=> ?_,fun b e hb hge=> ?_,fun b hb ho=> ?_,fun b hb ho=> ?_⟩,qbV.2.2 hval hlow⟩
     ·simp only[Emb.below,hb,if_true];exact hp.ext b hb
     ·have:=(qaC hb).1;omega
     ·simp only[Mem.trunc,hb,if_true] at ho;exact hp.old b hb ho
     ·simp only[Mem.trunc,hb,if_true] at ho;exact hp.alive b hb ho
   obtain ⟨j'',hp'',hv''⟩:=hfin
   rcases he with rfl|rfl
   ·exact ⟨hF'.defers,_,hrr,_,j'',rfl,hp'',hv''⟩
   ·exact ⟨hF'.defers,_,hrr,_,j'',rfl,hp'',hv''⟩
end Go.AM
end
section
set_option linter.unusedSimpArgs false
set_option linter.unusedVariables false
namespace Go.AM
def CLe (C C':FuncId→Array Value→Mem→Value→Mem→Prop):Prop:=∀f args m v m',C f args m v m'→C' f args m v m'
theorem EffR.mono {P:Program} {C C':FuncId→Array Value→Mem→Value→Mem→Prop} (hC:CLe C C') {ρ:Operand→Value} {o:Oper} {m m':Mem} {v:Value} (h:EffR P C ρ o m v m'):EffR P C' ρ o m v m':=by
 cases h with
 |store t x y b off i L e h hx hi hm hv hs hl=>exact .store t x y b off i L e h hx hi hm hv hs hl
 |call f args v m' h hC'=>exact .call f args v m' h (hC _ _ _ _ _ hC')
 |appendNone x y t u e i a l c h ht hi hx hc hlc hy=>exact .appendNone x y t u e i a l c h ht hi hx hc hlc hy
 |appendNew x y t u e i z a l c n old new h ht hi hz hzf hzs hsz hx hc ho hol hy hn hb hm=>exact .appendNew x y t u e i z a l c n old new h ht hi hz hzf hzs hsz hx hc ho hol hy hn hb hm
 |appendIn x y t u e i b off l c n L new h ht hi hx hcb hc hm hy hn hl=>exact .appendIn x y t u e i b off l c n L new h ht hi hx hcb hc hm hy hn hl
 |append x y t u e i z b off l n L new h ht hi hz hzf hzs hsz hx hmb hlL hy hn hb hm=>exact .append x y t u e i z b off l n L new h ht hi hz hzf hzs hsz hx hmb hlL hy hn hb hm
 |copy x y t u e i b off l c L cs h ht hi hx hm hy hn hl=>exact .copy x y t u e i b off l c L cs h ht hi hx hm hy hn hl
 |mapUpdate xt x kx vx u kt vt b L kc vc E E' good h hxt hu hx hmb hE hks K hkc hkl hkf hf hk hg hvs hvc hvl hvv hup=>exact .mapUpdate xt x kx vx u kt vt b L kc vc E E' good h hxt hu hx hmb hE hks K hkc hkl hkf hf hk hg hvs hvc hvl hvv hup
theorem StepR.mono {P:Program} {C C':FuncId→Array Value→Mem→Value→Mem→Prop} (hC:CLe C C') {ρ:Operand→Value} {o:Oper} {m m':Mem} {v:Value} (h:StepR P C ρ o m v m'):StepR P C' ρ o m v m':=by
 cases h with
 |pure h=>exact .pure h
 |read h=>exact .read h
 |new h=>exact .new h
 |eff h=>exact .eff (h.mono hC)
theorem qcx {P:Program} {C C':FuncId→Array Value→Mem→Value→Mem→Prop} (hC:CLe C C') {ops:List Oper}:∀(l:List Oper) (fr fr':Nat→Value) (m m':Mem),seqR P C ops l fr m fr' m'→seqR P C' ops l fr m fr' m'
 |[],fr,fr',m,m',h=>h
 |o::l,fr,fr',m,m',h=>by
  simp only[seqR] at h⊢
  split at h
  ·rename_i hw
   rw[if_pos hw]
   obtain ⟨v,m1,h1,h2⟩:=h
   exact ⟨v,m1,h1.mono hC,qcx hC l _ _ _ _ h2⟩
  ·rename_i hw
   rw[if_neg hw]
   exact qcx hC l _ _ _ _ h
theorem qaX {P:Program} {C C':FuncId→Array Value→Mem→Value→Mem→Prop} (hC:CLe C C') {ops:List Oper} {B:Array Nat}:∀(l:List Oper) (i:Nat) (A:Acc) (fr fr':Nat→Value) (m m':Mem),qaK P C ops B i l A fr m fr' m'→qaK P C' ops B i l A fr m fr' m'
 |[],i,A,fr,fr',m,m',h=>h
 |o::l,i,A,fr,fr',m,m',h=>by
  simp only[qaK] at h⊢
  split at h
  ·rename_i hw
   rw[if_pos hw]
   rcases h with ⟨v,hp,hd⟩|⟨v,hp,ho,hd⟩|⟨X,v,hp,hd⟩|⟨v,m1,hp,h1,h2,hd⟩
   ·exact .inl ⟨v,hp,qaX hC l _ _ _ _ _ _ hd⟩
   ·exact .inr (.inl ⟨v,hp,ho,qaX hC l _ _ _ _ _ _ hd⟩)
   ·exact .inr (.inr (.inl ⟨X,v,hp,qaX hC l _ _ _ _ _ _ hd⟩))
   ·exact .inr (.inr (.inr ⟨v,m1,hp.mono hC,h1,h2,qaX hC l _ _ _ _ _ _ hd⟩))
  ·rename_i hw
   rw[if_neg hw]
   exact qaX hC l _ _ _ _ _ _ h
theorem qfw {P:Program} {C C':FuncId→Array Value→Mem→Value→Mem→Prop} (hC:CLe C C'):∀(n n':Nat),n≤n'→∀(c:Code) (fr fr':Nat→Value) (m m':Mem) (e:AExit),qbY P C n c fr m e fr' m'→qbY P C' n' c fr m e fr' m':=by
 intro n
 induction n with
 |zero=>intro n' _ c fr fr' m m' e h;exact h.elim
 |succ n ih=>
  intro n' hn c fr fr' m m' e h
  cases n' with
  |zero=>omega
  |succ n'=>
   have hn':n≤n':=by omega
   cases c with
   |skip=>exact h
   |label l=>exact h
   |exit id=>exact h
   |ret=>exact h
   |region id ops d=>
    cases d with
    |false=>exact ⟨h.1,qcx hC _ _ _ _ _ h.2⟩
    |true=>exact ⟨h.1,qaX hC _ _ _ _ _ _ _ h.2⟩
   |seq a b=>
    rcases h with ⟨e1,fr1,m1,h1,h2⟩|h
    rotate_left
    ·exact .inr h
    refine .inl ⟨e1,fr1,m1,ih n' hn' _ _ _ _ _ _ h1, ?_⟩
    split at h2
    ·rename_i he;rw[if_pos he];exact ih n' hn' _ _ _ _ _ _ h2
    ·rename_i he;rw[if_neg he];exact h2
   |cond c a b=>
    obtain ⟨t,ht,h1⟩:=h
    exact ⟨t,ht,ih n' hn' _ _ _ _ _ _ h1⟩
   |scope c=>exact ih n' hn' _ _ _ _ _ _ h
   |block id c=>
    obtain ⟨e1,h1,he⟩:=h
    exact ⟨e1,ih n' hn' _ _ _ _ _ _ h1,he⟩
   |loop c=>
    obtain ⟨e1,fr1,m1,h1,h2⟩:=h
    refine ⟨e1,fr1,m1,ih n' hn' _ _ _ _ _ _ h1, ?_⟩
    split at h2
    ·rename_i he;rw[if_pos he];exact ih n' hn' _ _ _ _ _ _ h2
    ·rename_i he;rw[if_neg he];exact h2
   |rangeFunc f ps x y=>exact h.elim
   |goto l=>exact h.elim
   |refuse s=>exact h.elim
theorem qbb {P:Program}:∀(n n':Nat),n≤n'→CLe (qba P n) (qba P n'):=by
 intro n
 induction n with
 |zero=>intro n' _ f args m v m' h;exact h.elim
 |succ n ih=>
  intro n' hn f args m v m' h
  cases n' with
  |zero=>omega
  |succ n'=>
   rcases h with h|h
   ·exact .inl h
   obtain ⟨fn,c,e,fr,m1,vs,hf,hb,hok,hsz,hrun,rest⟩:=h
   exact .inr ⟨fn,c,e,fr,m1,vs,hf,hb,hok,hsz,qfw (ih n' (by omega)) n n' (by omega) _ _ _ _ _ _ hrun,rest⟩
def CallW (P:Program) (f:FuncId) (args:Array Value) (m:Mem) (R:Value→Mem→Prop):Prop:=∃n v m',qba P n f args m v m'∧R v m'
def W (P:Program) (c:Code) (Q:AExit→(Nat→Value)→Mem→Prop) (fr:Nat→Value) (m:Mem):Prop:=∃n e fr' m',qbY P (qba P n) n c fr m e fr' m'∧Q e fr' m'
def StepW (P:Program) (ρ:Operand→Value) (o:Oper) (m:Mem) (K:Value→Mem→Prop):Prop:=∃n v m',StepR P (qba P n) ρ o m v m'∧K v m'
def SeqW (P:Program) (ops l:List Oper) (K:(Nat→Value)→Mem→Prop) (fr:Nat→Value) (m:Mem):Prop:=∃n fr' m',seqR P (qba P n) ops l fr m fr' m'∧K fr' m'
def DrawW (P:Program) (ops:List Oper) (B:Array Nat) (i:Nat) (l:List Oper) (A:Acc) (K:(Nat→Value)→Mem→Prop) (fr:Nat→Value) (m:Mem):Prop:=∃n fr' m',qaK P (qba P n) ops B i l A fr m fr' m'∧K fr' m'
section
variable {P:Program} {Q Q':AExit→(Nat→Value)→Mem→Prop} {fr:Nat→Value} {m:Mem}
theorem CallW.mono {f:FuncId} {args:Array Value} {R R':Value→Mem→Prop} (h:CallW P f args m R) (hr:∀v m',R v m'→R' v m'):CallW P f args m R':=
 let ⟨n,v,m',h1,h2⟩:=h;⟨n,v,m',h1,hr _ _ h2⟩
theorem W.mono {c:Code} (h:W P c Q fr m) (hq:∀e fr m,Q e fr m→Q' e fr m):W P c Q' fr m:=
 let ⟨n,e,fr',m',h1,h2⟩:=h;⟨n,e,fr',m',h1,hq _ _ _ h2⟩
theorem W.skip (h:Q .normal fr m):W P .skip Q fr m:=⟨1,_,_,_,⟨rfl,rfl,rfl⟩,h⟩
theorem W.label {l:Nat} (h:Q .normal fr m):W P (.label l) Q fr m:=⟨1,_,_,_,⟨rfl,rfl,rfl⟩,h⟩
theorem W.exit {id:Nat} (h:Q (.exit id) fr m):W P (.exit id) Q fr m:=⟨1,_,_,_,⟨rfl,rfl,rfl⟩,h⟩
theorem W.ret (h:Q .ret fr m):W P .ret Q fr m:=⟨1,_,_,_,⟨rfl,rfl,rfl⟩,h⟩
def qs3 (next:(Nat→Value)→Mem→Prop) (Q:AExit→(Nat→Value)→Mem→Prop):AExit→(Nat→Value)→Mem→Prop
 | .normal,fr,m=>next fr m
 |e,fr,m=>Q e fr m
def blockQ (id:Nat) (Q:AExit→(Nat→Value)→Mem→Prop):AExit→(Nat→Value)→Mem→Prop
 | .exit id',fr,m=>if id'=id then Q .normal fr m else Q (.exit id') fr m
 |e,fr,m=>Q e fr m
theorem qce {n N k:Nat} (h:n≤N) (hk:n≤k) {c:Code} {fr fr':Nat→Value} {m m':Mem} {e:AExit} (hc:qbY P (qba P n) n c fr m e fr' m'):qbY P (qba P N) k c fr m e fr' m':=qfw (qbb n N h) n k hk _ _ _ _ _ _ hc
theorem W.seq {a b:Code} (h:W P a (qs3 (W P b Q) Q) fr m):W P (.seq a b) Q fr m:=by
 obtain ⟨n,e,fr1,m1,h1,h2⟩:=h
 cases e with
 |normal=>
  obtain ⟨n2,e2,fr2,m2,h3,h4⟩:=h2
  exact ⟨max n n2+1,e2,fr2,m2, .inl ⟨_,_,_,qce (by omega) (by omega) h1,by rw[if_pos rfl];exact qce (by omega) (by omega) h3⟩,h4⟩
 |exit id=>exact ⟨n+1,_,fr1,m1, .inl ⟨_,_,_,qce (by omega) (by omega) h1,by rw[if_neg (by simp)];exact ⟨rfl,rfl,rfl⟩⟩,h2⟩
 |ret=>exact ⟨n+1,_,fr1,m1, .inl ⟨_,_,_,qce (by omega) (by omega) h1,by rw[if_neg (by simp)];exact ⟨rfl,rfl,rfl⟩⟩,h2⟩
theorem W.cond {c:Operand} {a b:Code} {t:Bool} (ht:ev fr c= .bool t) (h:W P (if t then a else b) Q fr m):W P (.cond c a b) Q fr m:=by
 obtain ⟨n,e,fr1,m1,h1,h2⟩:=h
 exact ⟨n+1,e,fr1,m1,⟨t,ht,qce (by omega) (by omega) h1⟩,h2⟩
theorem W.block {id:Nat} {c:Code} (h:W P c (blockQ id Q) fr m):W P (.block id c) Q fr m:=by
 obtain ⟨n,e,fr1,m1,h1,h2⟩:=h
 refine ⟨n+1,_,fr1,m1,⟨e,qce (by omega) (by omega) h1,rfl⟩, ?_⟩
 cases e with
 |normal=>simpa[blockQ] using h2
 |exit id'=>
  simp only[blockQ] at h2
  by_cases he:id'=id
  ·subst he;simpa using h2
  ·simp only[he,if_false] at h2
   simp only[AExit.exit.injEq,he,if_false];exact h2
 |ret=>simpa[blockQ] using h2
theorem W.scope {c:Code} (h:W P c Q fr m):W P (.scope c) Q fr m:=by
 obtain ⟨n,e,fr1,m1,h1,h2⟩:=h
 exact ⟨n+1,e,fr1,m1,(show qbY P (qba P (n+1)) n c fr m e fr1 m1 from qce (by omega) (by omega) h1),h2⟩
theorem W.loop1 {c:Code} (h:W P c (qs3 (W P (.loop c) Q) Q) fr m):W P (.loop c) Q fr m:=by
 obtain ⟨n,e,fr1,m1,h1,h2⟩:=h
 cases e with
 |normal=>
  obtain ⟨n2,e2,fr2,m2,h3,h4⟩:=h2
  exact ⟨max n n2+1,e2,fr2,m2,⟨_,_,_,qce (by omega) (by omega) h1,by rw[if_pos rfl];exact qce (by omega) (by omega) h3⟩,h4⟩
 |exit id=>exact ⟨n+1,_,fr1,m1,⟨_,_,_,qce (by omega) (by omega) h1,by rw[if_neg (by simp)];exact ⟨rfl,rfl,rfl⟩⟩,h2⟩
 |ret=>exact ⟨n+1,_,fr1,m1,⟨_,_,_,qce (by omega) (by omega) h1,by rw[if_neg (by simp)];exact ⟨rfl,rfl,rfl⟩⟩,h2⟩
theorem W.region {id:Nat} {ops:Array Oper} (h:SeqW P ops.toList ops.toList (Q .normal) fr m):W P (.region id ops false) Q fr m:=by
 obtain ⟨n,fr',m',h1,h2⟩:=h
 exact ⟨n+1, .normal,fr',m',⟨rfl,qcx (qbb _ _ (Nat.le_succ _)) _ _ _ _ _ h1⟩,h2⟩
theorem W.draw {id:Nat} {ops:Array Oper} (h:DrawW P ops.toList (Region.before ops) 0 ops.toList ⟨[],[],[]⟩ (Q .normal) fr m):W P (.region id ops true) Q fr m:=by
 obtain ⟨n,fr',m',h1,h2⟩:=h
 exact ⟨n+1, .normal,fr',m',⟨rfl,qaX (qbb _ _ (Nat.le_succ _)) _ _ _ _ _ _ _ h1⟩,h2⟩
end
section
variable {P:Program} {ops l:List Oper} {K:(Nat→Value)→Mem→Prop} {fr:Nat→Value} {m:Mem} {o:Oper}
theorem SeqW.nil (h:K fr m):SeqW P ops [] K fr m:=⟨0,_,_,⟨rfl,rfl⟩,h⟩
theorem SeqW.skip (hg:wanted ops fr o=false) (h:SeqW P ops l K (set fr o.dst undef) m):SeqW P ops (o::l) K fr m:=by
 obtain ⟨n,fr',m',h1,h2⟩:=h
 refine ⟨n,fr',m', ?_,h2⟩
 simp only[seqR]
 rw[if_neg (by simp[hg])]
 exact h1
theorem SeqW.cons (hg:wanted ops fr o=true) (h:StepW P (ev fr) o m fun v m1=>SeqW P ops l K (set fr o.dst v) m1):SeqW P ops (o::l) K fr m:=by
 obtain ⟨n,v,m1,hs,n2,fr',m',h1,h2⟩:=h
 refine ⟨max n n2,fr',m', ?_,h2⟩
 simp only[seqR]
 rw[if_pos hg]
 exact ⟨v,m1,hs.mono (qbb _ _ (Nat.le_max_left _ _)),qcx (qbb _ _ (Nat.le_max_right _ _)) _ _ _ _ _ h1⟩
theorem StepW.pure {ρ:Operand→Value} {R:Value→Mem→Prop} {v:Value} (h:PureR P ρ o v) (hk:R v m):StepW P ρ o m R:=⟨0,v,m, .pure h,hk⟩
theorem StepW.read {ρ:Operand→Value} {R:Value→Mem→Prop} {v:Value} (h:ReadR P ρ o m v) (hk:R v m):StepW P ρ o m R:=⟨0,v,m, .read h,hk⟩
theorem StepW.new {ρ:Operand→Value} {R:Value→Mem→Prop} {v:Value} {X:Blk} (h:NewR P ρ o m.next X v) (hk:R v (m.push X)):StepW P ρ o m R:=⟨0,v,_, .new h,hk⟩
theorem StepW.eff {ρ:Operand→Value} {R:Value→Mem→Prop} {v:Value} {m':Mem} {n:Nat} (h:EffR P (qba P n) ρ o m v m') (hk:R v m'):StepW P ρ o m R:=⟨n,v,m', .eff h,hk⟩
end
theorem CallW.enter {P:Program} {f:FuncId} {fn:Func} {c:Code} {args:Array Value} {m:Mem} {R:Value→Mem→Prop} (hf:P.funcs[f]? =some fn) (hb:fn.body=some c) (hok:okFn P f=true) (hsz:args.size≤fn.ntmps)
  (h:W P c (fun e fr m1=>(e= .normal∨e= .ret)∧∃vs,qaV P fr m1 fn.results.toList vs∧(vs.length=1∨∀x∈vs,storable x=true)∧
   (R (pack vs) m1∨(R (pack vs) (m1.trunc m.next)∧low m.next (pack vs)∧∀b,b<m.next→m1.blk b=m.blk b∨lowB m.next (m1.blk b))))
   (fun i=>(args++Array.replicate (fn.ntmps - args.size) undef).getD i undef) m):CallW P f args m R:=by
 obtain ⟨n,e,fr,m1,h1,he,vs,hv,hs,hR⟩:=h
 rcases hR with hR|⟨hR,hl,hbk⟩
 ·exact ⟨n+1,_,_, .inr ⟨fn,c,e,fr,m1,vs,hf,hb,hok,hsz,h1,he,hv,rfl,hs, .inl rfl⟩,hR⟩
 ·exact ⟨n+1,_,_, .inr ⟨fn,c,e,fr,m1,vs,hf,hb,hok,hsz,h1,he,hv,rfl,hs, .inr ⟨rfl,hl,hbk⟩⟩,hR⟩
theorem CallW.sort {P:Program} {f:FuncId} {args:Array Value} {m m':Mem} {v:Value} {R:Value→Mem→Prop} (hok:okFn P f=true) (h:SortR P f args m v m') (hR:R v m'):CallW P f args m R:=⟨1,v,m', .inl ⟨hok,h⟩,hR⟩
def emb0 (w:World):Emb:=fun b=>if b<w.heap.size then some ⟨b,0,0,0⟩ else none
def qjh (b:Nat):Value→Option Value
 | .slice (some _) 0 0=>some (.slice (some ⟨b,0,none⟩) 0 0)
 |_=>none
open Classical in
noncomputable def mem0 (w:World):Mem:={next:=w.heap.size,blk:=fun b=>if b<w.heap.size then .ro (fun i=>match w.cell? ⟨b,i,none⟩ with|some v=>if VR0 (emb0 w) v v then some v else qjh b v|none=>none) else .dead}
theorem qfT {b:Nat} {v u:Value} (h:qjh b v=some u):∃a,v= .slice (some a) 0 0∧u= .slice (some ⟨b,0,none⟩) 0 0:=by
 unfold qjh at h
 split at h
 ·cases h;exact ⟨_,rfl,rfl⟩
 ·cases h
theorem qdJ {w:World} {b:Nat} {e:Emb1} (h:emb0 w b=some e):b<w.heap.size∧e.blk=b:=by
 unfold emb0 at h
 split at h
 ·cases h;exact ⟨‹_›,rfl⟩
 ·cases h
theorem qlJ {w:World} {b:Nat} {e:Emb1} (h:emb0 w b=some e):e.sh=0:=by
 unfold emb0 at h
 split at h
 ·cases h;rfl
 ·cases h
theorem qmj {w:World} {b i:Nat} {v:Value} (h:w.cell? ⟨b,i,none⟩=some v) (hv:VR0 (emb0 w) v v):(mem0 w).load b i=some v:=by
 have hlt:b<w.heap.size:=World.block_lt_of_cell? w ⟨b,i,none⟩ h
 simp[Mem.load,mem0,hlt,h,hv]
theorem qmk (w:World):WF (mem0 w) where
 dead:=fun b hb=>by
  have hb:w.heap.size≤b:=hb
  simp[mem0,show ¬b<w.heap.size by omega]
 low:=fun b=>by
  simp only[mem0]
  split
  ·intro i v hi
   simp only at hi
   split at hi
   ·split at hi
    ·rename_i hv
     cases hi
     exact (qjP (fun b e h=>(qdJ h).1)).1 hv
    ·obtain ⟨a,_,rfl⟩:=qfT hi
     assumption
   ·cases hi
  ·exact True.intro
theorem qn2 (P:Program) (w:World):Rel P (emb0 w) (mem0 w) w:=by
 refine ⟨?_, ?_, ?_⟩
 ·intro b e hb
  obtain ⟨h1,h2⟩:=qdJ hb
  exact ⟨h1,by rw[h2];exact h1⟩
 ·intro b e hb
  obtain ⟨h1,h2⟩:=qdJ hb
  simp only[mem0,h1,if_true]
  intro i v hi
  simp only at hi
  have cell:∀u,w.cell? ⟨b,i,none⟩=some u→∃(cs:Array Value) (t:TypeId) (fz:Nat×Nat),w.heap[e.blk]? =some (.cells cs t fz)∧cs[i]? =some u:=by
   intro u hu
   rw[h2]
   simp only[World.cell?] at hu
   split at hu
   ·rename_i c t f hc
    exact ⟨c,t,f,hc,by simpa using hu⟩
   ·cases hu
  split at hi
  ·rename_i u hu
   obtain ⟨cs,t,fz,g1,g2⟩:=cell u hu
   split at hi
   ·rename_i hv
    cases hi
    exact ⟨cs,t,fz,_,g1,by rw[qlJ hb,Nat.zero_add];exact g2,hv⟩
   ·obtain ⟨a,rfl,rfl⟩:=qfT hi
    exact ⟨cs,t,fz,_,g1,by rw[qlJ hb,Nat.zero_add];exact g2,e,rfl,hb, .inr (.inr (.inr ⟨rfl,rfl,a,rfl⟩))⟩
  ·cases hi
 ·intro b b' e e' hb hb' ho
  obtain ⟨h1,h2⟩:=qdJ hb
  simp[mem0,h1,Blk.isOwn] at ho
theorem qiY {P:Program} (hmix:P.follows .mixedOrders=true) {f:FuncId} {args:Array Value} {w:World} (hargs:∀a∈args.toList,VR (emb0 w) a a) (h:CallW P f args (mem0 w) fun v _=>v= .bool true):
  Calls P f args w fun e w'=>e= .returned (.bool true)∧RowKit.Below w.heap.size w w':=by
 obtain ⟨n,v,m',h1,rfl⟩:=h
 have hs:=(qbW hmix n).2 f args (mem0 w) _ m' h1 (emb0 w) w args (qmk w) (qn2 P w) (by
  have:∀l:List Value,(∀a∈l,VR (emb0 w) a a)→L2 (VR (emb0 w)) l l:=by
   intro l
   induction l with
   |nil=>intro _;exact True.intro
   |cons a l ih=>intro h;exact ⟨h a (by simp),ih fun b hb=>h b (by simp[hb])⟩
  exact this _ hargs)
 refine hs.2.mono ?_
 rintro e w' ⟨cv,j',rfl,hp,hv⟩
 have hcv:=hv.bool
 subst hcv
 refine ⟨rfl,hp.frm.os,hp.frm.tape,hp.frm.output,hp.frm.size,fun k hk=>hp.frm.block k hk fun b e hb ho=> ?_⟩
 obtain ⟨h1,h2⟩:=qdJ hb
 simp[mem0,h1,Blk.isOwn] at ho
end Go.AM
end
section
set_option linter.unusedSimpArgs false
set_option linter.unusedVariables false
namespace Go.AM
def Blk.fzn:Blk→Prop
 | .dead| .lock _ _ _ _=>False
 |_=>True
def Blk.mem:Blk→Blk
 | .lock _ _ L t=> .own L t
 |b=>b
theorem Blk.fzn.ne {x:Blk} (h:x.fzn):x≠ .dead:=fun e=>by rw[e] at h;exact h
theorem Blk.fzn.mem {x:Blk} (h:x.fzn):x.mem=x:=by cases x<;>first|rfl|exact h.elim
def Fz (z:Nat→Blk) (m:Mem):Prop:=∀b,z b≠ .dead→m.blk b=(z b).mem∧b<m.next
theorem Fz.fzn {z:Nat→Blk} {m:Mem} (h:Fz z m) {b:Nat} (hb:(z b).fzn):m.blk b=z b∧b<m.next:=by
 have:=h b hb.ne
 rw[hb.mem] at this
 exact this
def Zle (z z':Nat→Blk):Prop:=∀b,(z b).fzn→z' b=z b
theorem Zle.refl (z:Nat→Blk):Zle z z:=fun _ _=>rfl
theorem Zle.trans {a b c:Nat→Blk} (h:Zle a b) (k:Zle b c):Zle a c:=fun x hx=>by
 have h1:=h x hx
 rw[k x (by rw[h1];exact hx),h1]
def ldz (z:Nat→Blk) (b o:Nat):Option Value:=
 match z b with
 | .ro rd=>rd o
 | .own L _=>L[o]?
 | .map _ _=>none
 | .lock _ _ _ _=>none
 | .dead=>none
theorem qdh {z:Nat→Blk} {b o:Nat} {v:Value} (h:ldz z b o=some v):(z b).fzn:=by
 unfold ldz at h
 cases hz:z b with
 |dead=>rw[hz] at h;cases h
 |lock _ _ _ _=>rw[hz] at h;cases h
 |_=>exact True.intro
theorem qnT {z z':Nat→Blk} (h:Zle z z') {b o:Nat} {v:Value} (hl:ldz z b o=some v):ldz z' b o=some v:=by
 have:=h b (qdh hl)
 unfold ldz at hl⊢
 rw[this];exact hl
theorem qka {z:Nat→Blk} {m:Mem} (h:Fz z m) {b o:Nat} {v:Value} (hl:ldz z b o=some v):m.load b o=some v:=by
 have:=(h b (qdh hl).ne).1
 rw[(qdh hl).mem] at this
 unfold ldz at hl
 unfold Mem.load
 rw[this];exact hl
structure Ty (α:Type) where
 sz:Nat
 tid:TypeId
 rd:(Nat→Blk)→α→List Value→Prop
 len:∀z x cs,rd z x cs→cs.length=sz
 mono:∀z z',Zle z z'→∀x cs,rd z x cs→rd z' x cs
 one:∀z x cs,rd z x cs→∀c∈cs,storable c=true∧c.cells=#[c]
def qa1 (z:Nat→Blk) (b o:Nat) (cs:List Value):Prop:=∀(i:Nat) (u:Value),cs[i]? =some u→ldz z b (o+i)=some u
def qbs (L:List Value) (o:Nat) (cs:List Value):Prop:=∀(i:Nat) (u:Value),cs[i]? =some u→L[o+i]? =some u
def SlR {α:Type} (T:Ty α) (z:Nat→Blk) (xs:List α) (v:Value):Prop:=
 (v= .slice none 0 0∧xs=[])∨
 ∃b off c,v= .slice (some ⟨b,off,none⟩) xs.length c∧(z b).fzn∧((c=BIG∧∃L,z b= .own L T.tid∧off+xs.length*T.sz≤L.length)∨(c<BIG∧xs.length≤c))∧
  ∀(i:Nat) (x:α),xs[i]? =some x→∃cs,T.rd z x cs∧qa1 z b (off+i*T.sz) cs
theorem qbD {z z':Nat→Blk} (h:Zle z z') {b o:Nat} {cs:List Value} (hc:qa1 z b o cs):qa1 z' b o cs:=fun i u hi=>qnT h (hc i u hi)
theorem SlR.mono {α:Type} {T:Ty α} {z z':Nat→Blk} (h:Zle z z') {xs:List α} {v:Value} (hs:SlR T z xs v):SlR T z' xs v:=by
 rcases hs with hs|⟨b,off,c,h1,h2,h3,h4⟩
 ·exact .inl hs
 ·refine .inr ⟨b,off,c,h1,by rw[h b h2];exact h2, ?_,fun i x hi=> ?_⟩
  ·rcases h3 with ⟨h3,L,h5,h6⟩|h3
   ·exact .inl ⟨h3,L,by rw[h b h2];exact h5,h6⟩
   ·exact .inr h3
  ·obtain ⟨cs,g1,g2⟩:=h4 i x hi
   exact ⟨cs,T.mono z z' h x cs g1,qbD h g2⟩
theorem SlR.nil {α:Type} {T:Ty α} {z:Nat→Blk}:SlR T z [] (.slice none 0 0):= .inl ⟨rfl,rfl⟩
theorem SlR.len {α:Type} {T:Ty α} {z:Nat→Blk} {xs:List α} {v:Value} (h:SlR T z xs v):∃a c,v= .slice a xs.length c:=by
 rcases h with ⟨rfl,rfl⟩|⟨b,off,c,rfl,_⟩
 ·exact ⟨_,_,rfl⟩
 ·exact ⟨_,_,rfl⟩
def qag:Value→Option Nat
 | .slice (some a) _ _=>some a.block
 | .pointer (some a)=>some a.block
 |_=>none
def Ow {α:Type} (T:Ty α) (z:Nat→Blk) (m:Mem) (xs:List α) (v:Value):Prop:=
 (v= .slice none 0 0∧xs=[])∨
 ∃b o L c,v= .slice (some ⟨b,o,none⟩) xs.length c∧m.blk b= .own L T.tid∧b<m.next∧z b= .dead∧o+xs.length*T.sz≤L.length∧(c=BIG∨(c<BIG∧xs.length≤c∧o+c*T.sz≤L.length))∧
  ∀(i:Nat) (x:α),xs[i]? =some x→∃cs,T.rd z x cs∧qbs L (o+i*T.sz) cs
theorem Ow.at0 {α:Type} {T:Ty α} {z:Nat→Blk} {m:Mem} {xs:List α} {v:Value} (h:∃b L c,v= .slice (some ⟨b,0,none⟩) xs.length c∧m.blk b= .own L T.tid∧b<m.next∧z b= .dead∧xs.length*T.sz≤L.length∧(c=BIG∨(c<BIG∧xs.length≤c∧c*T.sz≤L.length))∧
  ∀(i:Nat) (x:α),xs[i]? =some x→∃cs,T.rd z x cs∧qbs L (i*T.sz) cs):Ow T z m xs v:=by
 obtain ⟨b,L,c,h1,h2,h3,h4,h5,h6,h7⟩:=h
 exact .inr ⟨b,0,L,c,h1,h2,h3,h4,by rw[Nat.zero_add];exact h5,by rw[Nat.zero_add];exact h6,fun i x hx=>by rw[Nat.zero_add];exact h7 i x hx⟩
theorem Ow.nil {α:Type} {T:Ty α} {z:Nat→Blk} {m:Mem}:Ow T z m [] (.slice none 0 0):= .inl ⟨rfl,rfl⟩
theorem Ow.frame {α:Type} {T:Ty α} {z:Nat→Blk} {m m':Mem} {xs:List α} {v:Value} (h:Ow T z m xs v) (hb:∀b,qag v=some b→b<m.next→m'.blk b=m.blk b∧b<m'.next):Ow T z m' xs v:=by
 rcases h with h|⟨b,o,L,c,rfl,h1,h2,h3,h4,h5,h6⟩
 ·exact .inl h
 ·obtain ⟨g1,g2⟩:=hb b rfl h2
  exact .inr ⟨b,o,L,c,rfl,by rw[g1];exact h1,g2,h3,h4,h5,h6⟩
theorem Ow.lt {α:Type} {T:Ty α} {z:Nat→Blk} {m:Mem} {xs:List α} {v:Value} (h:Ow T z m xs v):∀b,qag v=some b→b<m.next∧z b= .dead:=by
 rcases h with ⟨rfl,_⟩|⟨b,o,L,c,rfl,h1,h2,h3,_⟩
 ·intro b hb;cases hb
 ·intro b' hb;cases hb;exact ⟨h2,h3⟩
theorem Ow.len {α:Type} {T:Ty α} {z:Nat→Blk} {m:Mem} {xs:List α} {v:Value} (h:Ow T z m xs v):∃a c,v= .slice a xs.length c:=by
 rcases h with ⟨rfl,rfl⟩|⟨b,o,L,c,rfl,_⟩
 ·exact ⟨_,_,rfl⟩
 ·exact ⟨_,_,rfl⟩
def frz (z:Nat→Blk) (m:Mem) (p:Option Nat):Nat→Blk:=fun b=>if p=some b then m.blk b else z b
theorem qhU {z:Nat→Blk} {m:Mem} {p:Option Nat} (h:∀b,p=some b→z b= .dead):Zle z (frz z m p):=by
 intro b hb
 unfold frz
 split
 ·exact absurd (h b ‹_›) hb.ne
 ·rfl
theorem qj2 {z:Nat→Blk} {m:Mem} {p:Option Nat} (h:Fz z m) (hp:∀b,p=some b→b<m.next∧(m.blk b).mem=m.blk b):Fz (frz z m p) m:=by
 intro b hb
 unfold frz at hb⊢
 split at hb
 ·rw[if_pos ‹_›];exact ⟨(hp b ‹_›).2.symm,(hp b ‹_›).1⟩
 ·rw[if_neg ‹_›];exact h b hb
theorem Ow.toR {α:Type} {T:Ty α} {z:Nat→Blk} {m:Mem} {xs:List α} {v:Value} (h:Ow T z m xs v):SlR T (frz z m (qag v)) xs v:=by
 rcases h with h|⟨b,o,L,c,rfl,h1,h2,h3,h4,h5,h6⟩
 ·exact .inl h
 ·have hz:frz z m (qag (.slice (some ⟨b,o,none⟩) xs.length c)) b= .own L T.tid:=by simp[frz,qag,h1]
  have hle:Zle z (frz z m (qag (.slice (some ⟨b,o,none⟩) xs.length c))):=qhU fun b' hb'=>by cases hb';exact h3
  refine .inr ⟨b,o,c,rfl,by rw[hz];exact True.intro, ?_,fun i x hi=> ?_⟩
  ·rcases h5 with rfl|⟨h5,h7,h8⟩
   ·exact .inl ⟨rfl,L,hz,h4⟩
   ·exact .inr ⟨h5,h7⟩
  ·obtain ⟨cs,g1,g2⟩:=h6 i x hi
   refine ⟨cs,T.mono _ _ hle x cs g1,fun k u hk=> ?_⟩
   simp only[ldz,hz]
   exact g2 k u hk
def Ap (p q:Option Nat):Prop:=∀b,p=some b→q≠some b
theorem Ap.symm {p q:Option Nat} (h:Ap p q):Ap q p:=fun b hq hp=>h b hp hq
theorem Ap.none' {q:Option Nat}:Ap q Option.none:=fun _ _ h=>by cases h
structure St (z:Nat→Blk) (e m:Mem) (k:Option Nat):Prop where
 fz:Fz z m
 dead:∀b,m.next≤b→m.blk b= .dead
 dead0:∀b,e.next≤b→e.blk b= .dead
 next:e.next≤m.next
 kept:∀b,b<e.next→k≠some b→m.blk b=e.blk b
theorem St.start {z:Nat→Blk} {m:Mem} {k:Option Nat} (h:Fz z m) (hd:∀b,m.next≤b→m.blk b= .dead):St z m m k:=⟨h,hd,hd,Nat.le_refl _,fun _ _ _=>rfl⟩
theorem St.push {z:Nat→Blk} {e m:Mem} {k:Option Nat} (h:St z e m k) (x:Blk):St z e (m.push x) k:=by
 refine ⟨fun b hb=> ?_,fun b hb=> ?_,h.dead0,Nat.le_succ_of_le h.next,fun b hb hk=> ?_⟩
 ·have:=h.fz b hb
  refine ⟨?_,Nat.lt_succ_of_lt this.2⟩
  simp only[Mem.push]
  rw[if_neg (by omega)]
  exact this.1
 ·simp only[Mem.push] at hb⊢
  rw[if_neg (by omega)]
  exact h.dead b (by omega)
 ·simp only[Mem.push]
  have:=h.next
  rw[if_neg (by omega)]
  exact h.kept b hb hk
theorem St.put {z:Nat→Blk} {e m:Mem} {k:Option Nat} (h:St z e m k) {b:Nat} (x:Blk) (hz:z b= .dead) (hlt:b<m.next) (hb:e.next≤b∨k=some b):St z e (m.put b x) k:=by
 refine ⟨fun c hc=> ?_,fun c hc=> ?_,h.dead0,h.next,fun c hc hk=> ?_⟩
 ·have:=h.fz c hc
  refine ⟨?_,this.2⟩
  simp only[Mem.put]
  rw[if_neg (fun hcb=>hc (by rw[hcb];exact hz))]
  exact this.1
 ·have hc:m.next≤c:=hc
  simp only[Mem.put]
  rw[if_neg (by omega)]
  exact h.dead c hc
 ·simp only[Mem.put]
  rw[if_neg ?_]
  ·exact h.kept c hc hk
  ·intro hcb
   subst hcb
   rcases hb with hb|hb
   ·omega
   ·exact hk hb
structure Same (m m':Mem) (k:Option Nat):Prop where
 next:m.next≤m'.next
 dead:∀b,m'.next≤b→m'.blk b= .dead
 blk:∀b,b<m.next→k≠some b→m'.blk b=m.blk b
theorem St.same {z:Nat→Blk} {e m m':Mem} {k q:Option Nat} (h:St z e m k) (s:Same m m' q) (hq:∀b,q=some b→z b= .dead∧(e.next≤b∨k=some b)):St z e m' k:=by
 refine ⟨fun b hb=> ?_,s.dead,h.dead0,Nat.le_trans h.next s.next,fun b hb hk=> ?_⟩
 ·have:=h.fz b hb
  refine ⟨?_,Nat.lt_of_lt_of_le this.2 s.next⟩
  rw[s.blk b this.2 (fun hqb=>hb (hq b hqb).1)]
  exact this.1
 ·rw[s.blk b (Nat.lt_of_lt_of_le hb h.next) (fun hqb=> ?_)]
  ·exact h.kept b hb hk
  ·rcases (hq b hqb).2 with h'|h'
   ·omega
   ·exact hk h'
theorem St.trunc_eq {z:Nat→Blk} {e m:Mem} (h:St z e m none):m.trunc e.next=e:=by
 have:(m.trunc e.next).blk=e.blk:=by
  funext b
  simp only[Mem.trunc]
  split
  ·exact h.kept b ‹_› (by simp)
  ·exact (h.dead0 b (by omega)).symm
 cases e
 simp only[Mem.trunc] at this⊢
 rw[this]
def Ty.flat {α:Type} (t:TypeId) (f:α→Value) (hf:∀x,qah (f x)=true):Ty α where
 sz:=1
 tid:=t
 rd:=fun _ x cs=>cs=[f x]
 len:=fun _ _ _ h=>by rw[h];rfl
 mono:=fun _ _ _ _ _ h=>h
 one:=fun _ x cs h c hc=>by
  rw[h] at hc
  simp only[List.mem_singleton] at hc
  subst hc
  have:=hf x
  cases hx:f x<;>simp[hx,qah] at this<;>first|exact ⟨rfl,rfl⟩|exact ⟨by simp[storable,this],rfl⟩
def str (s:List UInt8):Value:= .string ⟨s.toArray⟩
def TInt (t:TypeId) (k:IntKind):Ty Int:=Ty.flat t (fun n=> .int k n) fun _=>rfl
def qlq (t:TypeId):Ty Bool:=Ty.flat t (fun n=> .bool n) fun _=>rfl
def TStr (t:TypeId):Ty (List UInt8):=Ty.flat t str fun _=>rfl
def TSl {α:Type} (t:TypeId) (T:Ty α):Ty (List α) where
 sz:=1
 tid:=t
 rd:=fun z xs cs=>∃v,cs=[v]∧SlR T z xs v
 len:=fun _ _ _ h=>by obtain ⟨v,rfl,_⟩:=h;rfl
 mono:=fun _ _ h _ _ hh=>by obtain ⟨v,h1,h2⟩:=hh;exact ⟨v,h1,h2.mono h⟩
 one:=fun _ _ cs h c hc=>by
  obtain ⟨v,rfl,h2⟩:=h
  simp only[List.mem_singleton] at hc
  subst hc
  obtain ⟨a,n,rfl⟩:=h2.len
  exact ⟨rfl,rfl⟩
end Go.AM
end
