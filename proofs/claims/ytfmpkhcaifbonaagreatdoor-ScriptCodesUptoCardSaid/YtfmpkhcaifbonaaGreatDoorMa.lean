import Derived.Calls
import Derived.Orders
import Derived.Tactics
import Derived.Below
import Derived.Defers
import Derived.WalkKit
import Derived.WalkSpells
import Derived.Scope
set_option linter.unusedSimpArgs false
set_option linter.unusedVariables false
open Array renaming ext'->awM,getD_eq_getD_getElem?->axe,getElem?_eq_some_iff->awB,getElem?_push->awH,getElem?_toList->aw8,isEmpty_iff->axO,mem_of_getElem?->axj,range->awE,replicate->av1,toList_append->axL,toList_extract->axI,toList_map->awD
open BitVec renaming ofInt->awx
open Bool renaming and_eq_true->avk,false_eq_true->axw,false->ava,true->au7
open Go renaming IntKind->avb,Operand->avf,Program->avd,TypeId->ave,Value->au9
open Go.Builtin renaming append_->awG,firstCells->awi,lenOf->axy,zeroCells->aw0
open Go.Call renaming operands->avN
open Go.Conv renaming bytesToString->axK
open Go.Instr renaming lookup->aw',mapUpdate->axN,slice->awO,sliceAt->awN,sliceBound->av3,sliceBounds->avC,sureAddr->awW
open Go.IntKind renaming wrap->avc,wrap_i64->axa
open Go.Op renaming operands->avi,stringOp->awS
open Go.Oper renaming wp->awj
open Go.Program renaming cellsOf->awg
open Go.Question renaming forced->axx
open Go.Region renaming before->avK,binds->awq,ready->axd,wanted->awI
open Go.Result renaming andThen->axm,andThen_ok->avB
open Go.Sem renaming run_bind->avH,run_pure->avM
open Go.Value renaming int->awn
open Go.World renaming block_lt_of_cell?->axh,cell?->av7,setCell->awY
open List renaming all_cons->av0,all_eq_true->avt,ext_getElem?->aww,extract_eq_drop_take'->axJ,getElem?_cons_succ->awp,getElem?_cons_zero->axo,getElem?_eq_some_iff->avr,getElem?_map->awb,getElem?_toArray->axb,map_cons->awe,map_nil->axz,map_toArray->axM,mem_append->avT,mem_cons->avu,mem_map->avy,mem_of_getElem?->av4,mem_of_mem_drop->axp,mem_of_mem_take->axc,mem_singleton->aw1,mem_toArray->axi,range->avQ,replicate->avw
open Nat renaming add_assoc->avZ,add_mul->avL,add_mul_div_right->axv,add_zero->av2,le_of_lt->avR,le_refl->avm,le_succ->avJ,le_trans->avz,lt_irrefl->awP,lt_of_le_of_lt->axk,lt_of_lt_of_le->avx,lt_or_ge->avY,lt_succ_self->av5,lt_trichotomy->axA,min->awo,mul_le_mul_right->awc,ne_of_lt->av9,not_lt->awu,zero_add->avD,zero_le->awf
open Option renaming bind_some->avv,map_none->aw9,map_some->awC,some->avl,none->au8,some->au6
open True renaming intro->avo
section
namespace Go.av
def cJ:Nat:=9223372036854775808
structure j5 where
 aS:Nat
 cap:Nat
 es:Nat
 dS:Nat
def bH:Type:=Nat->Option j5
inductive bo where
 |dead
 |ro (rd:Nat->Option au9)
 |own (cells:List au9) (elem:ave)
 |map (cells:List au9) (type:ave)
 |lock (nest at_:Nat) (cells:List au9) (elem:ave)
def bo.ig:bo->Bool| .own _ _| .map _ _=>au7|_=>ava
def bo.live:bo->Bool| .dead=>ava|_=>au7
structure Mem where
 next:Nat
 aS:Nat->bo
def Mem.load (m:Mem) (b o:Nat):Option au9:=match m.aS b with| .ro rd=>rd o| .own L _=>L[o]?| .map _ _=>au8| .lock _ _ _ _=>au8| .dead=>au8
def Mem.put (m:Mem) (b:Nat) (x:bo):Mem:={m with aS:=fun i=>if i=b then x else m.aS i}
def Mem.push (m:Mem) (x:bo):Mem:={next:=m.next+1,aS:=fun i=>if i=m.next then x else m.aS i}
def Mem.lS (m:Mem) (n:Nat):Mem:={next:=n,aS:=fun i=>if i<n then m.aS i else .dead}
def br {aA bO:Type} (R:aA->bO->Prop):List aA->List bO->Prop|[],[]=>True|a::l,b::k=>R a b/\br R l k|_,_=>False
def jJ (j:bH):au9->au9->Prop| .pointer (au6 a),ba=>∃e,a.spot=au8/\j a.block=au6 e/\ba= .pointer (au6 ⟨e.aS,e.dS+a.off,au8⟩)|_,_=>False
def dC (j:bH):au9->au9->Prop
 | .pointer (au6 a),ba=>∃e,a.spot=au8/\j a.block=au6 e/\ba= .pointer (au6 ⟨e.aS,e.dS+a.off,au8⟩)
 | .slice (au6 a) l c,ba=>∃e,a.spot=au8/\j a.block=au6 e/\
   ((c<cJ/\ba= .slice (au6 ⟨e.aS,e.dS+a.off,au8⟩) l c)\/
    (c=cJ/\0<e.es/\l<=e.cap - a.off / e.es/\e.cap<cJ/\a.off%e.es=0/\a.off / e.es<=e.cap/\ba= .slice (au6 ⟨e.aS,e.dS+a.off,au8⟩) l (e.cap - a.off / e.es))\/
    (c=cJ/\l=0/\∃o',ba= .slice (au6 ⟨e.aS,o',au8⟩) 0 0)\/
    (c=0/\l=0/\∃a',ba= .slice (au6 a') 0 0)\/
    (∃k,c=cJ+k/\0<k/\l<=k/\0<e.es/\k<=e.cap - a.off / e.es/\e.cap<cJ/\a.off%e.es=0/\a.off / e.es<=e.cap/\ba= .slice (au6 ⟨e.aS,e.dS+a.off,au8⟩) l (e.cap - a.off / e.es)))
 | .map (au6 r),ba=>∃e,j r=au6 e/\ba= .map (au6 e.aS)
 | .func fn bm cs,ba=>bm=#[]/\∃ds:Array au9,ba= .func fn #[] ds/\br (jJ j) cs.toList ds.toList
 | .chan _,_| .iface ..,_| .agg _,_| .tuple _,_=>False
 |v,ba=>ba=v
def e5 (j:bH):au9->au9->Prop| .agg cs,ba=>∃ds:Array au9,ba= .agg ds/\br (dC j) cs.toList ds.toList|v,ba=>dC j v ba
def cN (j:bH):au9->au9->Prop| .chan au8,ba=>∀b,ba≠ .bool b| .chan (au6 k),ba=>ba= .pointer (au6 ⟨k / 4096,k%4096,au8⟩)| .tuple cs,ba=>∃ds:Array au9,ba= .tuple ds/\br (e5 j) cs.toList ds.toList| .func fn bm cs,ba=>∃gs ds:Array au9,ba= .func fn gs ds/\br (e5 j) bm.toList gs.toList/\br (e5 j) cs.toList ds.toList|v,ba=>e5 j v ba
def cP:au9->Bool| .bool _| .int _ _| .float _ _| .complex _ _ _| .string _| .pointer au8| .slice au8 _ _| .map au8| .nilFunc| .nilIface=>au7| .func _ bm cs=>bm.isEmpty&&cs.isEmpty|_=>ava
def jK:TypeDesc->Bool| .struct _| .array _ _=>au7|_=>ava
def dG (P:avd) (t:ave):Bool:=match P.underlying t with|some d=>jK d|none=>ava
def eb:Bool->List au9->au9|true,cs=> .agg cs.toArray|false,cs=>cs.headD undef
structure nH (ks vs:Nat) (L:List au9) (E:List (List au9×List au9)):Prop where
 eq:L=E.flatMap fun p=>p.1++p.2
 len:∀p∈E,p.1.length=ks/\p.2.length=vs
def sf (P:avd) (j:bH) (bi bg:ave) (p:List au9×List au9) (x:MapEntry):Prop:=x.key=eb (dG P bi) p.1/\p.1.all cP=au7/\e5 j (eb (dG P bg) p.2) x.val
def xo (cs:Array MapEntry) (clock:Nat):Prop:=(cs.toList.map (·.born)).Nodup/\∀x∈cs.toList,x.born<clock
def oj (P:avd) (j:bH) (e:j5) (o:Option Obj):bo->Prop
 | .dead=>True
 | .ro rd=>∀i v,rd i=au6 v->∃(cs:Array au9) (t:ave) (bl:Nat×Nat) (ba:au9),o=au6 (.cells cs t bl)/\cs[e.dS+i]? =au6 ba/\dC j v ba
 | .own L t=>∃(cs:Array au9) (bl:Nat×Nat),o=au6 (.cells cs t bl)/\(∀i:Nat,i<cs.size->¬(bl.1<=i/\i<bl.2))/\
  P.cellsOf t=e.es/\e.dS+e.cap*e.es<=cs.size/\L.length<=e.cap*e.es/\∀(i:Nat) (v:au9),L[i]? =au6 v->∃ba,cs[e.dS+i]? =au6 ba/\dC j v ba
 | .map L u=>∃(bi bg:ave) (cs:Array MapEntry) (clock:Nat) (E:List (List au9×List au9)),o=au6 (.map cs clock)/\P.underlying u=au6 (.map bi bg)/\
  nH (P.cellsOf bi) (P.cellsOf bg) L E/\br (sf P j bi bg) E cs.toList/\xo cs clock
 | .lock _ _ _ _=>False
def Q8 (P : avd) (g : Nat) : Prop := P.globalNamed "internal/bytealg.MaxLen" = au6 g ∨ P.globalNamed "internal/strconv.uint64pow10" = au6 g ∨ P.globalNamed "humpyard/yardgen.dests" = au6 g
def ou:List (List UInt8):=[[97],[98],[99],[100],[101],[102,97,114]]
structure l1 (P:avd) (w:World):Prop where
 len : ∀ g, P.globalNamed "internal/bytealg.MaxLen" = au6 g → ∃ m, w.cell? ⟨g, 0, au8⟩ = au6 (.int .i64 m)
 pow : ∀ g, P.globalNamed "internal/strconv.uint64pow10" = au6 g → w.var? P "internal/strconv.uint64pow10" = au6 ((avQ 20).map fun i => awn .u64 ((10 ^ i : Nat) : Int)).toArray
 Kk : ∀ g, P.globalNamed "humpyard/yardgen.dests" = au6 g → ∀ n s, ou[n]? = au6 s → w.cell? ⟨g, n, au8⟩ = au6 (.string ⟨s.toArray⟩)
structure DZ (P:avd) (j:bH) (m:Mem) (w:World):Prop where
 val:l1 P w
 sep:∀b e,j b=au6 e->(m.aS b).ig=au7->¬Q8 P e.aS
structure RG (P:avd) (j:bH) (m:Mem) (w:World):Prop where
 lt:∀b e,j b=au6 e->b<m.next/\e.aS<w.heap.size
 obj:∀b e,j b=au6 e->oj P j e w.heap[e.aS]? (m.aS b)
 inj:∀b cB e b2,j b=au6 e->j cB=au6 b2->(m.aS b).ig=au7->(m.aS cB).live=au7->e.aS=b2.aS->b=cB
structure Rel (P:avd) (j:bH) (m:Mem) (w:World):Prop extends RG P j m w where
 kI:DZ P j m w
structure q1 (j:bH) (m:Mem) (w w':World):Prop where
 os:w'.os=w.os
 tape:w'.tape=w.tape
 output:w'.output=w.output
 size:w.heap.size<=w'.heap.size
 block:∀c,c<w.heap.size->(∀b e,j b=au6 e->(m.aS b).ig=au7->e.aS≠c)->w'.heap[c]? =w.heap[c]?
structure Post (P:avd) (j:bH) (m:Mem) (w:World) (b0:bH) (m':Mem) (w':World):Prop where
 rel:Rel P b0 m' w'
 e6:q1 j m w w'
 next:m.next<=m'.next
 ext:∀b,b<m.next->b0 b=j b
 fresh:∀b e,b0 b=au6 e->m.next<=b->w.heap.size<=e.aS\/∃eS eK,j eS=au6 eK/\(m.aS eS).ig=au7/\eK.aS=e.aS
 dN:∀b,b<m.next->(m'.aS b).ig=au7->(m.aS b).ig=au7
 alive:∀b,b<m.next->(m'.aS b).live=au7->(m.aS b).live=au7
theorem l1.lt {P:avd} {w:World} (h:l1 P w) {g:Nat} (a5:Q8 P g):g<w.heap.size:=by
 rcases a5 with a5|a5|a5
 ·obtain ⟨m,hm⟩:=h.len g a5;exact axh w ⟨g,0,au8⟩ hm
 rotate_left
 ·exact axh w ⟨g,0,au8⟩ (h.Kk g a5 0 _ rfl)
 ·have:=h.pow g a5;unfold World.var? at this;rw[a5] at this;simp only[avv] at this;split at this
  ·rename_i ai;exact (awB.1 ai).1
  ·cases this
theorem l1.keep {P:avd} {w w':World} (h:l1 P w) (au:∀g,Q8 P g->w'.heap[g]? =w.heap[g]?):l1 P w':=
 ⟨fun g a5=>by obtain ⟨m,hm⟩:=h.len g a5;exact ⟨m,by rw[<-hm];simp only[av7,au g (.inl a5)]⟩,
  fun g a5=>by rw[<-h.pow g a5];simp only[World.var?,a5,avv,au g (.inr (.inl a5))],
  fun g a5 n s aC=>by rw[<-h.Kk g a5 n s aC];simp only[av7,au g (.inr (.inr a5))]⟩
theorem DZ.step {P:avd} {j b0:bH} {m m':Mem} {w w':World} (t:DZ P j m w) (bb:q1 j m w w') (he:∀b,b<m.next->b0 b=j b)
  (a1:∀b e,b0 b=au6 e->m.next<=b->w.heap.size<=e.aS\/∃eS eK,j eS=au6 eK/\(m.aS eS).ig=au7/\eK.aS=e.aS) (ao:∀b,b<m.next->(m'.aS b).ig=au7->(m.aS b).ig=au7):DZ P b0 m' w':=
 ⟨t.val.keep fun g a5=>bb.block g (t.val.lt a5) fun b e ag cp h=>t.sep b e ag cp (h▸a5),fun b e ag cp a5=>by
  rcases avY b m.next with bS|gU
  ·exact t.sep b e ((he b bS).symm.trans ag) (ao b bS cp) a5
  ·rcases a1 b e ag gU with U|⟨eS,eK,U,aa,ap⟩
   ·exact absurd (t.val.lt a5) (awu.2 U)
   ·exact t.sep eS eK U aa (ap▸a5)⟩
theorem Post.of {P:avd} {j b0:bH} {m m':Mem} {w w':World} (r:Rel P j m w) (rel:RG P b0 m' w') (e6:q1 j m w w') (next:m.next<=m'.next) (ext:∀b,b<m.next->b0 b=j b)
  (fresh:∀b e,b0 b=au6 e->m.next<=b->w.heap.size<=e.aS\/∃eS eK,j eS=au6 eK/\(m.aS eS).ig=au7/\eK.aS=e.aS) (dN:∀b,b<m.next->(m'.aS b).ig=au7->(m.aS b).ig=au7) (alive:∀b,b<m.next->(m'.aS b).live=au7->(m.aS b).live=au7):Post P j m w b0 m' w':=
 ⟨⟨rel,r.kI.step e6 ext fresh dN⟩,e6,next,ext,fresh,dN,alive⟩
theorem br.mono {aA bO:Type} {R S:aA->bO->Prop} (h:∀a b,R a b->S a b):∀{l:List aA} {k:List bO},br R l k->br S l k
 |[],[],_=>avo
 |_::_,_::_,⟨U,aa⟩=>⟨h _ _ U,br.mono h aa⟩
 |[],_::_,h=>h.elim
 |_::_,[],h=>h.elim
theorem br.length {aA bO:Type} {R:aA->bO->Prop}:∀{l:List aA} {k:List bO},br R l k->l.length=k.length
 |[],[],_=>rfl
 |_::l,_::k,⟨_,aa⟩=>by simp[br.length aa]
 |[],_::_,h=>h.elim
 |_::_,[],h=>h.elim
theorem br.get {aA bO:Type} {R:aA->bO->Prop}:∀{l:List aA} {k:List bO} (_:br R l k) (i:Nat) (a:aA),l[i]? =au6 a->∃b,k[i]? =au6 b/\R a b
 |[],[],_,i,a,h=>by grind
 |x::l,y::k,⟨U,aa⟩,0,a,h=>by grind
 |x::l,y::k,⟨U,aa⟩,i+1,a,h=>by simpa using br.get aa i a (by grind)
 |[],_::_,h,_,_,_=>h.elim
 |_::_,[],h,_,_,_=>h.elim
theorem br.Fx {aA bO:Type} {R:aA->bO->Prop}:∀{l:List aA} {k:List bO},l.length=k.length->(∀(i:Nat) a b,l[i]? =au6 a->k[i]? =au6 b->R a b)->br R l k
 |[],[],_,_=>avo
 |x::l,y::k,az,h=>⟨h 0 x y (by rfl) (by rfl),br.Fx (by grind) fun i a b aY ag=>h (i+1) a b (by grind) (by grind)⟩
 |[],_::_,az,_=>by grind
 |_::_,[],az,_=>by grind
theorem br.append {aA bO:Type} {R:aA->bO->Prop}:∀{l lL:List aA} {k cM:List bO},br R l k->br R lL cM->br R (l++lL) (k++cM)
 |[],_,[],_,_,h=>h
 |_::_,_,_::_,_,⟨U,aa⟩,h=>⟨U,br.append aa h⟩
 |[],_,_::_,_,h,_=>h.elim
 |_::_,_,[],_,h,_=>h.elim
theorem br.take {aA bO:Type} {R:aA->bO->Prop}:∀(n:Nat) {l:List aA} {k:List bO},br R l k->br R (l.take n) (k.take n)
 |0,_,_,_=>by simp[br]
 |n+1,[],[],_=>by grind
 |n+1,_::_,_::_,⟨U,aa⟩=>by simpa[br] using ⟨U,br.take n aa⟩
 |_+1,[],_::_,h=>h.elim
 |_+1,_::_,[],h=>h.elim
theorem br.drop {aA bO:Type} {R:aA->bO->Prop}:∀(n:Nat) {l:List aA} {k:List bO},br R l k->br R (l.drop n) (k.drop n)
 |0,_,_,h=>by grind
 |n+1,[],[],_=>by grind
 |n+1,_::_,_::_,⟨_,aa⟩=>by simpa using br.drop n aa
 |_+1,[],_::_,h=>h.elim
 |_+1,_::_,[],h=>h.elim
theorem jJ.mono {j b0:bH} (h:∀b e,j b=au6 e->b0 b=au6 e) {v ba:au9} (ab:jJ j v ba):jJ b0 v ba:=by
 unfold jJ at ab⊢
 grind
theorem dC.mono {j b0:bH} (h:∀b e,j b=au6 e->b0 b=au6 e) {v ba:au9} (ab:dC j v ba):dC b0 v ba:=by
 cases v with
 |func fn bm cs=>obtain ⟨U,ds,aa,ap⟩:=ab;exact ⟨U,ds,aa,ap.mono fun _ _=>jJ.mono h⟩
 |pointer a=>cases a with
  |none=>exact ab
  |some a=>obtain ⟨e,U,aa,ap⟩:=ab;exact ⟨e,U,h _ _ aa,ap⟩
 |slice a l c=>cases a with
  |none=>exact ab
  |some a=>obtain ⟨e,U,aa,ap⟩:=ab;exact ⟨e,U,h _ _ aa,ap⟩
 |map r=>cases r with
  |none=>exact ab
  |some r=>obtain ⟨e,aa,ap⟩:=ab;exact ⟨e,h _ _ aa,ap⟩
 |_=>exact ab
theorem e5.mono {j b0:bH} (h:∀b e,j b=au6 e->b0 b=au6 e) {v ba:au9} (ab:e5 j v ba):e5 b0 v ba:=by
 cases v with
 |agg cs=>obtain ⟨ds,U,aa⟩:=ab;exact ⟨ds,U,aa.mono fun _ _=>dC.mono h⟩
 |_=>grind [e5,dC.mono]
theorem cN.mono {j b0:bH} (h:∀b e,j b=au6 e->b0 b=au6 e) {v ba:au9} (ab:cN j v ba):cN b0 v ba:=by
 cases v with
 |chan r=>cases r<;>exact ab
 |tuple cs=>obtain ⟨ds,U,aa⟩:=ab;exact ⟨ds,U,aa.mono fun _ _=>e5.mono h⟩
 |func fn bm cs=>obtain ⟨gs,ds,U,aa,ap⟩:=ab;exact ⟨gs,ds,U,aa.mono fun _ _=>e5.mono h,ap.mono fun _ _=>e5.mono h⟩
 |_=>simp only[cN] at ab⊢;exact e5.mono h ab
theorem oj.mono {P:avd} {j b0:bH} {e:j5} {o:Option Obj} {x:bo} (h:oj P j e o x) (aZ:∀b e,j b=au6 e->b0 b=au6 e):oj P b0 e o x:=by
 cases x with
 |dead=>trivial
 |ro rd=>intro i v aj;obtain ⟨cs,t,bl,ba,U,aa,ap⟩:=h i v aj;exact ⟨cs,t,bl,ba,U,aa,ap.mono aZ⟩
 |own L t=>obtain ⟨cs,bl,U,aa,ap,aN,bK,ed⟩:=h;refine ⟨cs,bl,U,aa,ap,aN,bK,fun i v aj=> ?_⟩;obtain ⟨ba,aU,aQ⟩:=ed i v aj;exact ⟨ba,aU,aQ.mono aZ⟩
 |map L u=>obtain ⟨bi,bg,cs,clock,E,U,aa,ap,aN,bK⟩:=h;exact ⟨bi,bg,cs,clock,E,U,aa,ap,aN.mono fun p x ⟨aU,aQ,bT⟩=>⟨aU,aQ,bT.mono aZ⟩,bK⟩
 |lock _ _ _ _=>exact h.elim
theorem Rel.own {P:avd} {j:bH} {m:Mem} {w:World} (h:Rel P j m w) (b:Nat) (e:j5) (L:List au9) (t:ave) (aZ:j b=au6 e) (ag:m.aS b= .own L t):∃(cs:Array au9) (bl:Nat×Nat),w.heap[e.aS]? =au6 (.cells cs t bl)/\(∀i:Nat,i<cs.size->¬(bl.1<=i/\i<bl.2))/\
  P.cellsOf t=e.es/\e.dS+e.cap*e.es<=cs.size/\L.length<=e.cap*e.es/\∀(i:Nat) (v:au9),L[i]? =au6 v->∃ba,cs[e.dS+i]? =au6 ba/\dC j v ba:=by
 have:=h.obj b e aZ;rw[ag] at this;exact this
theorem e5.pA {j:bH} {v ba:au9} (h:dC j v ba):e5 j v ba:=by
 cases v<;>first|exact h|exact h.elim
theorem jJ.of {j:bH} {v ba:au9} (h:jJ j v ba):dC j v ba:=by
 unfold jJ at h;split at h
 ·exact h
 grind
theorem cN.uW {j:bH} {v ba:au9} (h:e5 j v ba):cN j v ba:=by
 cases v with
 |func fn bm cs=>obtain ⟨U,ds,aa,ap⟩:=h;subst U;exact ⟨#[],ds,aa,trivial,ap.mono fun _ _ h=>e5.pA (jJ.of h)⟩
 |tuple _=>exact h.elim
 |chan _=>exact h.elim
 |_=>exact h
theorem cN.pA {j:bH} {v ba:au9} (h:dC j v ba):cN j v ba:=cN.uW (e5.pA h)
theorem dC.one {j:bH} {v ba:au9} (h:dC j v ba):ba.oneCell'=au7:=by
 cases v with
 |pointer a=>cases a with
  |none=>cases h;rfl
  |some a=>obtain ⟨e,U,aa,ap⟩:=h;subst ap;rfl
 |slice a l c=>cases a with
  |none=>cases h;rfl
  |some a=>obtain ⟨e,U,aa,ap⟩:=h;rcases ap with ⟨_,rfl⟩|⟨_,_,_,_,_,_,rfl⟩|⟨_,_,_,rfl⟩|⟨_,_,_,rfl⟩|⟨_,_,_,_,_,_,_,_,_,rfl⟩<;>rfl
 |map r=>cases r with
  |none=>cases h;rfl
  |some r=>obtain ⟨e,aa,ap⟩:=h;subst ap;rfl
 |chan _=>exact h.elim
 |func _ _ _=>obtain ⟨_,ds,aa,_⟩:=h;subst aa;rfl
 |iface _ _=>exact h.elim
 |agg _=>exact h.elim
 |tuple _=>exact h.elim
 |_=>cases h;rfl
theorem dC.cells {j:bH} {v ba:au9} (h:dC j v ba):v.cells=#[v]/\ba.cells=#[ba]:=by
 refine ⟨?_, ?_⟩
 ·cases v<;>first|rfl|exact h.elim
 ·have:=h.one;cases ba<;>first|rfl|grind [au9.oneCell']
theorem e5.cells {j:bH} {v ba:au9} (h:e5 j v ba):br (dC j) v.cells.toList ba.cells.toList:=by
 cases v with
 |agg cs=>obtain ⟨ds,rfl,aa⟩:=h;exact aa
 |_=>simp only[e5] at h;have bf:=h;have:=dC.cells bf;rw[this.1,this.2];exact ⟨bf,avo⟩
theorem q1.refl (j:bH) (m:Mem) (w:World):q1 j m w w:=⟨rfl,rfl,rfl,avm _,fun _ _ _=>rfl⟩
theorem Post.refl {P:avd} {j:bH} {m:Mem} {w:World} (h:Rel P j m w):Post P j m w j m w:=
 ⟨h,q1.refl j m w,avm _,fun _ _=>rfl,fun b e ag a1=>absurd (h.lt b e ag).1 (awu.2 a1),fun _ _ h=>h,fun _ _ h=>h⟩
theorem Post.up {P:avd} {j b0:bH} {m m':Mem} {w w':World} (h:Post P j m w b0 m' w') (aE:Rel P j m w):∀b e,j b=au6 e->b0 b=au6 e:=
 fun b e ag=>by rw[h.ext b (aE.lt b e ag).1];grind
theorem Post.trans {P:avd} {j b0 uM:bH} {m m' VJ:Mem} {w w' vN:World} (h:Post P j m w b0 m' w') (k:Post P b0 m' w' uM VJ vN):Post P j m w uM VJ vN where
 rel:=k.rel
 e6:=by
  refine ⟨k.e6.os.trans h.e6.os,k.e6.tape.trans h.e6.tape,k.e6.output.trans h.e6.output,avz h.e6.size k.e6.size,fun c ai a1=> ?_⟩;rw[k.e6.block c (avx ai h.e6.size) ?_,h.e6.block c ai a1];intro b e ag ao he;rcases avY b m.next with bS|gU
  ·exact a1 b e (by rw[<-h.ext b bS];grind) (h.dN b bS ao) he
  ·rcases h.fresh b e ag gU with bb|⟨eS,eK,nT,uE,U2⟩
   ·omega
   grind
 next:=avz h.next k.next
 ext:=fun b ag=>by rw[k.ext b (avx ag h.next),h.ext b ag]
 fresh:=by
  intro b e ag gU;have auB:∀b e,b0 b=au6 e->(m'.aS b).ig=au7->w.heap.size<=e.aS\/∃eS eK,j eS=au6 eK/\(m.aS eS).ig=au7/\eK.aS=e.aS:=by
   intro b e ag ao;rcases avY b m.next with bS|gU
   ·exact .inr ⟨b,e,by rw[<-h.ext b bS];grind,h.dN b bS ao,rfl⟩
   ·exact h.fresh b e ag gU
  rcases avY b m'.next with bS|adX
  ·exact h.fresh b e (by rw[<-k.ext b bS];grind) gU
  ·rcases k.fresh b e ag adX with bb|⟨eS,eK,nT,uE,U2⟩
   ·exact .inl (avz h.e6.size bb)
   grind
 dN:=fun b ag ao=>h.dN b ag (k.dN b (avx ag h.next) ao)
 alive:=fun b ag ao=>h.alive b ag (k.alive b (avx ag h.next) ao)
end Go.av
end
section
namespace Go.av
def iX:au9->Bool| .agg cs=>cs.toList.all cP|v=>cP v
def flat:au9->Bool| .tuple cs=>cs.toList.all iX|v=>iX v
def vC:au9->Bool| .pointer (au6 _)=>au7|_=>ava
def storable:au9->Bool| .tuple _| .chan _=>ava| .func _ bm cs=>bm.isEmpty&&cs.toList.all vC|_=>au7
def set (fr:Nat->au9) (d:Option Tmp) (v:au9):Nat->au9:=match d with|some t=>fun i=>if i=t then v else fr i|none=>fr
def a8 (fr:Nat->au9):avf->au9| .tmp t=>fr t| .const v=>v| .global g=> .chan (au6 (g*4096))| .func f=> .func (.func f) #[] #[]
def eo (m:Mem) (b:Nat):Nat->Nat->Option (List au9)
 |_,0=>au6 []
 |o,n+1=>match m.load b o,eo m b (o+1) n with
  |some v,au6 l=>au6 (v::l)
  |_,_=>au8
def e9:List au9->Nat->List au9->List au9|L,_,[]=>L|L,o,v::vs=>e9 (L.set o v) (o+1) vs
def jm (place:Nat->Option (Nat×Nat)) (cells:List au9):List (Nat×au9)->Option (List au9)|[]=>au6 cells|(i,v)::rest=>match place i with|none=>au8|some (off,size)=>if storable v=au7/\v.cells.size=size/\off+size<=cells.length then jm place (e9 cells off v.cells.toList) rest else au8
def mn (P:avd) (bm:Array Field):List (Option (Nat×Nat)):=bm.toList.map fun f=>(P.info? f.type).map fun i=>(f.offset,i.size)
def n4 (af:avf->au9) (bD:Option avf) (n:Nat):Prop:=match bD with|none=>n=0|some y=>∃k,af y= .int k n
def lO (af:avf->au9) (aj:Option avf) (l n:Nat):Prop:=match aj with|none=>n=l|some y=>∃k,af y= .int k n
inductive cW (P:avd) (af:avf->au9) (o:Oper):au9->Prop where
 |flat (v:au9) (aC:∀cs b,o.op≠ .select cs b) (h:∀x∈o.op.operands,flat (af x)=au7) (ab:flat v=au7) (aE:∀w,(execOp af o).run P w= .ok (.value v) w):cW P af o v
 |move (x:avf) (h:o.op= .move x\/o.op= .assign x):cW P af o (af x)
 |pick (c a b:avf) (t:Bool) (h:o.op= .pick c a b) (ai:af c= .bool t):cW P af o (if t then af a else af b)
 |extract (x:avf) (i:Nat) (vs:Array au9) (v:au9) (h:o.op= .extract x i) (ae:af x= .tuple vs) (ab:vs[i]? =au6 v):cW P af o v
 |field (t:ave) (x:avf) (i:Nat) (bm:Array Field) (f:Field) (d:TypeDesc) (cs:Array au9) (v:au9) (h:o.op= .field t x i) (aw:P.underlying t=au6 (.struct bm)) (bb:bm[i]? =au6 f)
   (aO:P.underlying f.type=au6 d) (ae:af x= .agg cs) (ab:if jK d=au7 then ∃k,P.info? f.type=au6 k/\f.offset+k.size<=cs.size/\v= .agg (cs.extract f.offset (f.offset+k.size)) else cs[f.offset]? =au6 v):cW P af o v
 |build (t:ave) (cn:Array (Nat×avf)) (bm:Array Field) (i:TypeInfo) (z:au9) (cs:List au9) (h:o.op= .build t cn) (aw:P.underlying t=au6 (.struct bm)) (aj:P.info? t=au6 i) (a4:i.zero=au6 z)
   (db:z.cells.toList.all cP=au7) (aM:∀x∈mn P bm,x.isSome=au7)
   (ai:jm (fun k=>((mn P bm)[k]?).join) z.cells.toList (cn.toList.map fun p=>(p.1,af p.2))=au6 cs):cW P af o (.agg cs.toArray)
 |yt (t:ave) (cn:Array (Nat×avf)) (n:Nat) (e:ave) (i k:TypeInfo) (z:au9) (cs:List au9) (h:o.op= .build t cn) (aw:P.underlying t=au6 (.array n e)) (aj:P.info? t=au6 i) (a4:i.zero=au6 z)
   (db:z.cells.toList.all cP=au7) (he:P.info? e=au6 k)
   (ai:jm (fun j=>au6 (j*k.size,k.size)) z.cells.toList (cn.toList.map fun p=>(p.1,af p.2))=au6 cs):cW P af o (.agg cs.toArray)
 |Fc (t:ave) (x y:avf) (e:ave) (d:TypeDesc) (i:TypeInfo) (l:Nat) (k:avb) (n:Int) (cs:Array au9) (h:o.op= .index t x y) (aw:P.underlying t=au6 (.array l e)) (aO:P.underlying e=au6 d) (aY:jK d=au7) (aj:P.info? e=au6 i)
   (ae:af x= .agg cs) (aI:af y= .int k n) (bf:0<=n) (U:n<l):cW P af o (.agg (cs.extract (n.toNat*i.size) (n.toNat*i.size+i.size)))
 |nilCheck (x:avf) (a:Addr) (h:o.op= .nilCheck x) (ae:af x= .pointer (au6 a)):cW P af o (.pointer (au6 a))
 |fieldAddr (t:ave) (x:avf) (i:Nat) (bm:Array Field) (f:Field) (k:TypeInfo) (b off:Nat) (h:o.op= .fieldAddr t x i) (aw:P.underlying t=au6 (.struct bm)) (bb:bm[i]? =au6 f)
   (au:P.info? f.type=au6 k) (aC:k.size≠0) (ae:af x= .pointer (au6 ⟨b,off,au8⟩)):cW P af o (.pointer (au6 ⟨b,off+f.offset,au8⟩))
 |indexAddr (t:ave) (x y:avf) (e:ave) (i:TypeInfo) (b off l c:Nat) (k:avb) (n:Int) (h:o.op= .indexAddr t x y) (aw:P.underlying t=au6 (.slice e)) (aj:P.info? e=au6 i)
   (ae:af x= .slice (au6 ⟨b,off,au8⟩) l c) (aI:af y= .int k n) (bf:0<=n) (U:n<l):cW P af o (.pointer (au6 ⟨b,off+n.toNat*i.size,au8⟩))
 |za (t:ave) (x y:avf) (e:ave) (i:TypeInfo) (b off l:Nat) (k:avb) (n:Int) (h:o.op= .indexAddr t x y) (aw:P.underlying t=au6 (.array l e)) (aj:P.info? e=au6 i)
   (ae:af x= .pointer (au6 ⟨b,off,au8⟩)) (aI:af y= .int k n) (bf:0<=n) (U:n<l):cW P af o (.pointer (au6 ⟨b,off+n.toNat*i.size,au8⟩))
 |ED (t:ave) (x y:avf) (e:ave) (i:TypeInfo) (l g:Nat) (k:avb) (n:Int) (h:o.op= .indexAddr t x y) (aw:P.underlying t=au6 (.array l e)) (aj:P.info? e=au6 i) (aC:i.size=1)
   (ae:af x= .chan (au6 (g*4096))) (aI:af y= .int k n) (bf:0<=n) (U:n<l) (az:l<4096):cW P af o (.chan (au6 (g*4096+n.toNat)))
 |slice (t:ave) (x:avf) (bD aj:Option avf) (e:ave) (i:TypeInfo) (b off l c:Nat) (n cu:Nat) (h:o.op= .slice t x bD aj au8) (aw:P.underlying t=au6 (.slice e)) (eh:P.info? e=au6 i)
   (ae:af x= .slice (au6 ⟨b,off,au8⟩) l c) (ag:c<cJ) (dZ:n4 af bD n) (dy:lO af aj l cu) (U:n<=cu) (aa:cu<=c)
   (ap:aj=au8->True):cW P af o (.slice (au6 ⟨b,if c=n then off else off+n*i.size,au8⟩) (cu - n) (c - n))
 |slice3 (t:ave) (x fv:avf) (aj:Option avf) (e:ave) (i:TypeInfo) (b off l c:Nat) (cu cM:Nat) (kA:avb) (h:o.op= .slice t x au8 aj (au6 fv)) (aw:P.underlying t=au6 (.slice e)) (eh:P.info? e=au6 i)
   (ae:af x= .slice (au6 ⟨b,off,au8⟩) l c) (ai:(c<cJ/\cM<=c)\/(c=cJ/\cM<=l)) (dy:∃y k,aj=au6 y/\af y= .int k cu) (lG:af fv= .int kA cM) (U:cu<=cM):cW P af o (.slice (au6 ⟨b,off,au8⟩) cu cM)
 |Kh (t:ave) (x bD aj fv:avf) (e:ave) (i:TypeInfo) (b off l c n cu cM:Nat) (Fj Fh kA:avb) (h:o.op= .slice t x (au6 bD) (au6 aj) (au6 fv)) (aw:P.underlying t=au6 (.slice e)) (eh:P.info? e=au6 i)
   (ae:af x= .slice (au6 ⟨b,off,au8⟩) l c) (ai:(c<cJ/\cM<=c)\/(c=cJ/\cM<=l)) (dZ:af bD= .int Fj n) (dy:af aj= .int Fh cu) (lG:af fv= .int kA cM) (bf:n<=cu) (U:cu<=cM):cW P af o (.chan au8)
 |CV (t:ave) (x fv:avf) (aj:Option avf) (e:ave) (i:TypeInfo) (kA:avb) (h:o.op= .slice t x au8 aj (au6 fv)) (aw:P.underlying t=au6 (.slice e)) (eh:P.info? e=au6 i)
   (ae:af x= .slice au8 0 0) (dy:∃y k,aj=au6 y/\af y= .int k 0) (lG:af fv= .int kA 0):cW P af o (.slice au8 0 0)
 |kH (t:ave) (x:avf) (bD aj:Option avf) (e:ave) (i:TypeInfo) (h:o.op= .slice t x bD aj au8) (aw:P.underlying t=au6 (.slice e)) (eh:P.info? e=au6 i)
   (ae:af x= .slice au8 0 0) (dZ:n4 af bD 0) (dy:lO af aj 0 0):cW P af o (.slice au8 0 0)
 |len (x:avf) (t e:ave) (a:Option Addr) (l c:Nat) (h:o.op= .call {callee:= .builtin .len,args:=#[x],argTypes:=#[t]}) (aw:P.underlying t=au6 (.slice e)) (ae:af x= .slice a l c):cW P af o (.int .i64 l)
 |yu (x:avf) (t e:ave) (h:o.op= .call {callee:= .builtin .cap,args:=#[x],argTypes:=#[t]}) (aw:P.underlying t=au6 (.slice e)) (ae:af x= .slice au8 0 0):cW P af o (.int .i64 0)
 |ud (neq:Bool) (x y:avf) (t u e:ave) (a:Addr) (l c:Nat) (h:o.op= .binOp (if neq then .neq else .eql) t x y u) (aw:P.underlying t=au6 (.slice e))
   (ae:af x= .slice (au6 a) l c) (aI:af y= .slice au8 0 0):cW P af o (.bool neq)
 |func (fn:Fn) (first captured:Array avf) (h:o.op= .makeFunc fn first captured) (bb:∀x∈first.toList++captured.toList,storable (af x)=au7):cW P af o (.func fn (first.map af) (captured.map af))
inductive q2 (ke gB:Bool) (key z:au9):List (List au9×List au9)->au9->Bool->Prop where
 |nf:q2 ke gB key z [] z ava
 |oB (p:List au9×List au9) (E:List (List au9×List au9)) (h:eb ke p.1=key):q2 ke gB key z (p::E) (eb gB p.2) au7
 |next (p:List au9×List au9) (E:List (List au9×List au9)) (v:au9) (b:Bool) (h:eb ke p.1≠key) (a0:q2 ke gB key z E v b):q2 ke gB key z (p::E) v b
inductive q4 (ke:Bool) (key val:List au9):List (List au9×List au9)->List (List au9×List au9)->Prop where
 |nf:q4 ke key val [] [(key,val)]
 |oB (p:List au9×List au9) (E:List (List au9×List au9)) (h:eb ke p.1=eb ke key):q4 ke key val (p::E) ((p.1,val)::E)
 |next (p:List au9×List au9) (E E':List (List au9×List au9)) (h:eb ke p.1≠eb ke key) (a0:q4 ke key val E E'):q4 ke key val (p::E) (p::E')
open Classical in
noncomputable def ns (v:au9):List MapEntry->Nat->Option (Nat×au9)|[],_=>au8|e::es,i=>if e.key=v then au6 (i,e.val) else ns v es (i+1)
structure Keyed (P:avd) (bi:ave) (hf:au9->Prop):Prop where
 check:∀(em:Bool) (v:au9) (w:World),hf v->(Instr.checkKey em 10000 bi v).run P w= .ok () w
 find:∀(v:au9) (es:List MapEntry) (w:World),hf v->(∀x∈es,hf x.key)->(Instr.findKey bi v es).run P w= .ok (ns v es 0) w
 stays:∀(v:au9) (w:World),hf v->(Instr.keyThatStays v v).run P w= .ok v w
inductive eJ (P:avd) (af:avf->au9) (o:Oper) (m:Mem):au9->Prop where
 |load (t:ave) (x:avf) (b off:Nat) (d:TypeDesc) (v:au9) (h:o.op= .load t x) (ae:af x= .pointer (au6 ⟨b,off,au8⟩)) (aw:P.underlying t=au6 d) (aO:jK d=ava) (ab:m.load b off=au6 v):eJ P af o m v
 | uk (t : ave) (x : avf) (g n : Nat) (s : List UInt8) (h : o.op = .load t x) (ae : af x = .chan (au6 (g * 4096 + n))) (a1 : ou[n]? = au6 s) (aw : P.underlying t = au6 .string) (a5 : P.globalNamed "humpyard/yardgen.dests" = au6 g) : eJ P af o m (.string ⟨s.toArray⟩)
 |sT (t:ave) (x:avf) (b off:Nat) (d:TypeDesc) (i:TypeInfo) (cs:List au9) (h:o.op= .load t x) (ae:af x= .pointer (au6 ⟨b,off,au8⟩)) (aw:P.underlying t=au6 d) (aO:jK d=au7) (aj:P.info? t=au6 i)
   (ab:eo m b off i.size=au6 cs):eJ P af o m (.agg cs.toArray)
 |slice (t:ave) (x:avf) (bD aj:Option avf) (e:ave) (i:TypeInfo) (L:List au9) (b off l:Nat) (n cu:Nat) (h:o.op= .slice t x bD aj au8) (aw:P.underlying t=au6 (.slice e)) (eh:P.info? e=au6 i)
   (ae:af x= .slice (au6 ⟨b,off,au8⟩) l cJ) (hm:m.aS b= .own L e) (dZ:n4 af bD n) (dy:lO af aj l cu) (U:n<=cu) (aa:cu<=l)
   (ap:off+l*i.size<=L.length):eJ P af o m (.slice (au6 ⟨b,off+n*i.size,au8⟩) (cu - n) cJ)
 |vK (t:ave) (x:avf) (bD aj:Option avf) (e:ave) (i:TypeInfo) (L:List au9) (b off l c k:Nat) (n cu:Nat) (h:o.op= .slice t x bD aj au8) (aw:P.underlying t=au6 (.slice e)) (eh:P.info? e=au6 i)
   (ae:af x= .slice (au6 ⟨b,off,au8⟩) l c) (au:(c=cJ/\k=l)\/c=cJ+k) (hm:m.aS b= .own L e) (dZ:n4 af bD n) (dy:lO af aj l cu) (U:n<=cu) (aa:cu<=k) (ap:n<k):
   eJ P af o m (.slice (au6 ⟨b,off+n*i.size,au8⟩) (cu - n) (cJ+(k - n)))
 |str (s t:ave) (x:avf) (e:ave) (b off l c:Nat) (cs:List UInt8) (h:o.op= .convert s t x) (aC:P.underlying s=au6 (.slice e)) (he:P.underlying e=au6 (.int .u8)) (aw:P.underlying t=au6 .string)
   (ae:af x= .slice (au6 ⟨b,off,au8⟩) l c) (ab:eo m b off l=au6 (cs.map fun u=> .int .u8 u.toNat)):eJ P af o m (.string ⟨cs.toArray⟩)
 |vL (s t:ave) (x:avf) (e:ave) (l c:Nat) (h:o.op= .convert s t x) (aC:P.underlying s=au6 (.slice e)) (he:P.underlying e=au6 (.int .u8)) (aw:P.underlying t=au6 .string)
   (ae:af x= .slice au8 l c):eJ P af o m (.string .empty)
 |lookup (fq:ave) (x cL:avf) (ok:Bool) (u bi bg:ave) (b:Nat) (L:List au9) (E:List (List au9×List au9)) (i:TypeInfo) (z kJ:au9) (t:Bool) (hf:au9->Prop) (h:o.op= .lookup fq x cL ok)
   (g9:P.underlying fq=au6 (.map bi bg)) (hu:P.underlying u=au6 (.map bi bg)) (ae:(af x= .map (au6 b)/\m.aS b= .map L u/\nH (P.cellsOf bi) (P.cellsOf bg) L E)\/(af x= .map au8/\E=[])) (lF:0<P.cellsOf bi)
   (rr:dG P bg=ava->P.cellsOf bg=1) (K:Keyed P bi hf) (bb:flat (af cL)=au7) (au:hf (af cL)) (a5:∀p∈E,hf (eb (dG P bi) p.1)) (aj:P.info? bg=au6 i) (a4:i.zero=au6 z) (db:iX z=au7)
   (az:q2 (dG P bi) (dG P bg) (af cL) z E kJ t):eJ P af o m (if ok then .tuple #[kJ, .bool t] else kJ)
inductive iy (P:avd) (af:avf->au9) (o:Oper) (n:Nat):bo->au9->Prop where
 |alloc (t:ave) (i:TypeInfo) (z:au9) (h:o.op= .alloc t) (aj:P.info? t=au6 i) (a4:i.zero=au6 z) (db:z.cells.toList.all cP=au7) (aC:z.cells.size=i.size):
   iy P af o n (.own z.cells.toList t) (.pointer (au6 ⟨n,0,au8⟩))
 |box (t:ave) (x:avf) (i:TypeInfo) (h:o.op= .box t x) (aj:P.info? t=au6 i) (ab:storable (af x)=au7) (aC:(af x).cells.size=i.size):
   iy P af o n (.own (af x).cells.toList t) (.pointer (au6 ⟨n,0,au8⟩))
 |buildSlice (t:ave) (l:Nat) (cn:Array (Nat×avf)) (e:ave) (i:TypeInfo) (z:au9) (cs:List au9) (h:o.op= .buildSlice t l cn) (aw:P.underlying t=au6 (.slice e)) (aj:P.info? e=au6 i) (a4:i.zero=au6 z)
   (db:z.cells.toList.all cP=au7) (dV:z.cells.size=i.size) (sC:l*i.size<=16777216) (sL:l<9223372036854775808)
   (ai:jm (fun k=>au6 (k*i.size,i.size)) (avw l z.cells.toList).flatten (cn.toList.map fun p=>(p.1,af p.2))=au6 cs):
   iy P af o n (.own cs e) (.slice (au6 ⟨n,0,au8⟩) l l)
 |makeSlice (t:ave) (x y:avf) (l c:Nat) (k cM:avb) (e:ave) (i:TypeInfo) (z:au9) (h:o.op= .makeSlice t x y) (aw:P.underlying t=au6 (.slice e)) (aj:P.info? e=au6 i) (a4:i.zero=au6 z)
   (db:z.cells.toList.all cP=au7) (dV:z.cells.size=i.size) (ae:af x= .int k l) (aI:af y= .int cM c) (qf:l<=c) (ag:i.bytes*c<=140737488355328) (ai:c<9223372036854775808):
   iy P af o n (.own (avw c z.cells.toList).flatten e) (.slice (au6 ⟨n,0,au8⟩) l c)
 |bytes (s t:ave) (x:avf) (e:ave) (i:TypeInfo) (b:ByteArray) (h:o.op= .convert s t x) (aC:P.underlying s=au6 .string) (aw:P.underlying t=au6 (.slice e)) (he:P.underlying e=au6 (.int .u8)) (aj:P.info? e=au6 i)
   (jE:i.size=1) (ae:af x= .string b) (ag:b.size<9223372036854775807):
   iy P af o n (.own (b.data.toList.map fun u=> .int .u8 u.toNat) e) (.slice (au6 ⟨n,0,au8⟩) b.size cJ)
 |makeMap (t bi bg:ave) (h:o.op= .makeMap t au8) (aw:P.underlying t=au6 (.map bi bg)):iy P af o n (.map [] t) (.map (au6 n))
def ji (m:Mem) (a7:Nat):au9->Option (List au9)| .slice (au6 ⟨b,off,au8⟩) l _=>eo m b off (l*a7)| .slice au8 _ _=>au6 []| .string s=>if a7=1 then au6 (s.data.toList.map fun u=> .int .u8 u.toNat) else au8|_=>au8
def hZ:au9->Nat| .slice _ l _=>l| .string s=>s.size|_=>0
def callee (o:Oper) (af:avf->au9) (f:FuncId) (args:Array au9):Prop:=∃x as ts first captured,o.op= .call {callee:= .value x,args:=as,argTypes:=ts}/\af x= .func (.func f) first captured/\args=first++as.map af++captured
inductive qV (P:avd) (m:Mem) (u:ave) (i:TypeInfo) (v:au9) (n:Nat) (new:List au9):Prop where
 |el (hu:(∃b2,P.underlying u=au6 (.slice b2))\/P.underlying u=au6 .string) (az:hZ v=n) (he:ji m i.size v=au6 new)
 |mk (kk k:avb) (z:au9) (hu:P.underlying u=au6 (.int kk)) (ab:v= .int k n) (a4:i.zero=au6 z) (db:z.cells.toList.all cP=au7) (dV:z.cells.size=i.size) (b9:0<i.size)
   (ag:n*i.bytes<=140737488355328) (hm:n<9223372036854775807) (mj:new=(avw n z.cells.toList).flatten)
inductive gR (P:avd) (C:FuncId->Array au9->Mem->au9->Mem->Prop) (af:avf->au9) (o:Oper) (m:Mem):au9->Mem->Prop where
 |store (t:ave) (x y:avf) (b off:Nat) (i:TypeInfo) (L:List au9) (e:ave) (h:o.op= .store t x y) (ae:af x= .pointer (au6 ⟨b,off,au8⟩)) (aj:P.info? t=au6 i) (hm:m.aS b= .own L e)
   (ab:storable (af y)=au7) (aC:(af y).cells.size=i.size) (az:off+i.size<=L.length):gR P C af o m undef (m.put b (.own (e9 L off (af y).cells.toList) e))
 |call (f:FuncId) (args:Array au9) (v:au9) (m':Mem) (h:callee o af f args) (cf:C f args m v m'):gR P C af o m v m'
 |su (x y:avf) (t u:ave) (e:ave) (i:TypeInfo) (a:Option Addr) (l c:Nat) (h:o.op= .call {callee:= .builtin .append,args:=#[x,y],argTypes:=#[t,u]}) (aw:P.underlying t=au6 (.slice e)) (aj:P.info? e=au6 i)
   (ae:af x= .slice a l c) (ai:c<cJ) (qf:l<=c) (aI:qV P m u i (af y) 0 []):gR P C af o m (af x) m
 |p5 (x y:avf) (t u:ave) (e:ave) (i:TypeInfo) (z:au9) (a:Option Addr) (l c n:Nat) (dN new:List au9) (h:o.op= .call {callee:= .builtin .append,args:=#[x,y],argTypes:=#[t,u]})
   (aw:P.underlying t=au6 (.slice e)) (aj:P.info? e=au6 i) (a4:i.zero=au6 z) (db:z.cells.toList.all cP=au7) (dV:z.cells.size=i.size) (b9:0<i.size)
   (ae:af x= .slice a l c) (ai:c<l+n)
   (ao:ji m i.size (af x)=au6 dN) (k7:dN.length=l*i.size) (aI:qV P m u i (af y) n new) (a1:new.length=n*i.size) (ag:(l+n)*i.bytes<=140737488355328) (hm:l+n<9223372036854775807):
   gR P C af o m (.slice (au6 ⟨m.next,0,au8⟩) (l+n) cJ) (m.push (.own (dN++new) e))
 |tX (x y:avf) (t u:ave) (e:ave) (i:TypeInfo) (b off l c n:Nat) (L new:List au9) (h:o.op= .call {callee:= .builtin .append,args:=#[x,y],argTypes:=#[t,u]})
   (aw:P.underlying t=au6 (.slice e)) (aj:P.info? e=au6 i) (ae:af x= .slice (au6 ⟨b,off,au8⟩) l c) (fj:c<cJ)
   (ai:l+n<=c) (hm:m.aS b= .own L e) (aI:qV P m u i (af y) n new) (a1:new.length=n*i.size) (az:off+(l+n)*i.size<=L.length):
   gR P C af o m (.slice (au6 ⟨b,off,au8⟩) (l+n) c) (m.put b (.own (e9 L (off+l*i.size) new) e))
 |we (x y:avf) (t u:ave) (e:ave) (i:TypeInfo) (b off l c k n:Nat) (L new:List au9) (h:o.op= .call {callee:= .builtin .append,args:=#[x,y],argTypes:=#[t,u]})
   (aw:P.underlying t=au6 (.slice e)) (aj:P.info? e=au6 i) (ae:af x= .slice (au6 ⟨b,off,au8⟩) l c) (fj:c=cJ+k) (mg:0<k)
   (ai:l+n<=k) (hm:m.aS b= .own L e) (aI:qV P m u i (af y) n new) (a1:new.length=n*i.size) (az:off+(l+n)*i.size<=L.length):
   gR P C af o m (.slice (au6 ⟨b,off,au8⟩) (l+n) c) (m.put b (.own (e9 L (off+l*i.size) new) e))
 |append (x y:avf) (t u:ave) (e:ave) (i:TypeInfo) (z:au9) (b off l n:Nat) (L new:List au9) (h:o.op= .call {callee:= .builtin .append,args:=#[x,y],argTypes:=#[t,u]})
   (aw:P.underlying t=au6 (.slice e)) (aj:P.info? e=au6 i) (a4:i.zero=au6 z) (db:z.cells.toList.all cP=au7) (dV:z.cells.size=i.size) (b9:0<i.size)
   (ae:af x= .slice (au6 ⟨b,off,au8⟩) l cJ) (iF:m.aS b= .own L e) (sM:off+l*i.size<=L.length)
   (aI:qV P m u i (af y) n new) (a1:new.length=n*i.size) (ag:(l+n)*i.bytes<=140737488355328) (hm:l+n<9223372036854775807):
   gR P C af o m (.slice (au6 ⟨m.next,0,au8⟩) (l+n) cJ) ((m.put b .dead).push (.own ((L.drop off).take (l*i.size)++new) e))
 |copy (x y:avf) (t u:ave) (e:ave) (i:TypeInfo) (b off l c:Nat) (L:List au9) (cs:List au9) (h:o.op= .call {callee:= .builtin .copy,args:=#[x,y],argTypes:=#[t,u]}) (aw:P.underlying t=au6 (.slice e)) (aj:P.info? e=au6 i)
   (ae:af x= .slice (au6 ⟨b,off,au8⟩) l c) (hm:m.aS b= .own L e) (aI:ji m i.size (af y)=au6 cs) (a1:cs.length=hZ (af y)*i.size) (az:off+l*i.size<=L.length):
   gR P C af o m (.int .i64 (awo (hZ (af y)) l)) (m.put b (.own (e9 L off (cs.take (awo (hZ (af y)) l*i.size))) e))
 |clear (x:avf) (t:ave) (e:ave) (i:TypeInfo) (z:au9) (b off l c:Nat) (L:List au9) (h:o.op= .call {callee:= .builtin .clear,args:=#[x],argTypes:=#[t]}) (aw:P.underlying t=au6 (.slice e)) (aj:P.info? e=au6 i)
   (a4:i.zero=au6 z) (db:z.cells.toList.all cP=au7) (dV:z.cells.size=i.size) (ae:af x= .slice (au6 ⟨b,off,au8⟩) l c) (hm:m.aS b= .own L e) (gd:0<l) (az:off+l*i.size<=L.length):
   gR P C af o m (.tuple #[]) (m.put b (.own (e9 L off (avw l z.cells.toList).flatten) e))
 |mapUpdate (fq:ave) (x gI gp:avf) (u bi bg:ave) (b:Nat) (L ee vc:List au9) (E E':List (List au9×List au9)) (hf:au9->Prop) (h:o.op= .mapUpdate fq x gI gp\/o.op= .insert fq x gI gp)
   (g9:P.underlying fq=au6 (.map bi bg)) (hu:P.underlying u=au6 (.map bi bg)) (ae:af x= .map (au6 b)) (hm:m.aS b= .map L u) (a0:nH (P.cellsOf bi) (P.cellsOf bg) L E) (lF:0<P.cellsOf bi)
   (K:Keyed P bi hf) (wG:af gI=eb (dG P bi) ee) (sJ:ee.length=P.cellsOf bi) (wH:ee.all cP=au7) (bb:flat (af gI)=au7) (au:hf (af gI)) (a5:∀p∈E,hf (eb (dG P bi) p.1))
   (oF:storable (af gp)=au7) (E6:af gp=eb (dG P bg) vc) (uJ:vc.length=P.cellsOf bg) (y7:∀v∈vc,v∈(af gp).cells.toList) (fO:q4 (dG P bi) ee vc E E'):
   gR P C af o m undef (m.put b (.map (E'.flatMap fun p=>p.1++p.2) u))
inductive nM (P:avd) (C:FuncId->Array au9->Mem->au9->Mem->Prop) (af:avf->au9) (o:Oper) (m:Mem):au9->Mem->Prop where
 |pure {v:au9} (h:cW P af o v):nM P C af o m v m
 |read {v:au9} (h:eJ P af o m v):nM P C af o m v m
 |new {X:bo} {v:au9} (h:iy P af o m.next X v):nM P C af o m v (m.push X)
 |fb {v:au9} {m':Mem} (h:gR P C af o m v m'):nM P C af o m v m'
def wanted (ops:List Oper) (fr:Nat->au9) (o:Oper):Bool:=
 match o.guard with
 |none=>au7
 |some (j,want)=>
  match (ops[j]?).bind (·.dst) with
  |some d=>(match fr d with| .bool b=>b==want|_=>ava)
  |none=>ava
def jy (P:avd) (C:FuncId->Array au9->Mem->au9->Mem->Prop) (ops:List Oper):List Oper->(Nat->au9)->Mem->(Nat->au9)->Mem->Prop
 |[],fr,m,bB,m'=>bB=fr/\m'=m
 |o::os,fr,m,bB,m'=>
  if wanted ops fr o=au7 then ∃v bz,nM P C (a8 fr) o m v bz/\jy P C ops os (set fr o.dst v) bz bB m'
  else jy P C ops os (set fr o.dst undef) m bB m'
def kF:Op->Bool| .store .. | .mapUpdate .. | .insert .. =>au7| .call {callee:= .builtin .len, .. }| .call {callee:= .builtin .max, .. }| .call {callee:= .builtin .min, .. }=>ava| .call _=>au7|_=>ava
def fA (B:Array Nat) (i k:Nat):Bool:=(B.getD i 0).testBit k
structure Acc where
 reads:List (Nat×(Mem->Prop))
 gm:List (Nat×Mem)
 news:List (Nat×Nat)
def g3 (P:avd) (C:FuncId->Array au9->Mem->au9->Mem->Prop) (ops:List Oper) (B:Array Nat):Nat->List Oper->Acc->(Nat->au9)->Mem->(Nat->au9)->Mem->Prop
 |_,[],_,fr,m,bB,m'=>bB=fr/\m'=m
 |i,o::os,A,fr,m,bB,m'=>
  if wanted ops fr o=au7 then
   (∃v,cW P (a8 fr) o v/\g3 P C ops B (i+1) os A (set fr o.dst v) m bB m')\/
   (∃v,eJ P (a8 fr) o m v/\(∀x∈A.gm,fA B i x.1=ava->eJ P (a8 fr) o x.2 v)/\
    g3 P C ops B (i+1) os {A with reads:=(i,fun m=>eJ P (a8 fr) o m v)::A.reads} (set fr o.dst v) m bB m')\/
   (∃X v,iy P (a8 fr) o m.next X v/\g3 P C ops B (i+1) os {A with news:=(i,m.next)::A.news} (set fr o.dst v) (m.push X) bB m')\/
   (∃v bz,gR P C (a8 fr) o m v bz/\(∀x∈A.reads,fA B i x.1=ava->x.2 bz)/\(∀x∈A.news,fA B i x.1=ava->bz.aS x.2=m.aS x.2)/\
    g3 P C ops B (i+1) os {A with gm:=(i,m)::A.gm} (set fr o.dst v) bz bB m')
  else g3 P C ops B (i+1) os A (set fr o.dst undef) m bB m'
inductive eY where
 |normal
 |exit (id:Nat)
 |ret
 deriving DecidableEq
def VI (n:Nat):Option Addr->Prop|some a=>a.block<n|none=>True
def qt (n:Nat):au9->Prop| .pointer a=>VI n a|_=>False
def hi (n:Nat):au9->Prop| .pointer a| .slice a _ _=>VI n a| .map (au6 r)=>r<n| .func _ bm cs=>bm=#[]/\∀v∈cs.toList,qt n v| .chan _| .iface _ _| .agg _| .tuple _=>False|_=>True
def hF (n:Nat):au9->Prop| .agg cs=>∀v∈cs.toList,hi n v|v=>hi n v
def low (n:Nat):au9->Prop| .chan _=>True| .tuple cs=>∀v∈cs.toList,hF n v| .func _ a b=>(∀v∈a.toList,hF n v)/\∀v∈b.toList,hF n v|v=>hF n v
def pv (n:Nat):bo->Prop| .own L _| .map L _=>∀v∈L,hi n v| .ro rd=>∀i v,rd i=au6 v->hi n v| .dead=>True| .lock _ _ _ _=>True
def mm:avf->Bool| .tmp _| .func _=>au7| .const v=>flat v| .global _=>au7
def s9 (ops:Array Oper) (o:Oper):List Nat:=
 (o.op.operands.toList.filterMap fun| .tmp t=>au6 t|_=>au8)++
 (match o.guard with|some (g,_)=>((ops[g]?).bind (·.dst)).toList|none=>[])++o.dst.toList
def q7 (ops:Array Oper) (x o:Oper):Bool:=
 (match x.dst with|some d=>(s9 ops o).contains d|none=>ava)||(match o.dst with|some d=>(s9 ops x).contains d|none=>ava)||(kF x.op&&kF o.op)
def tg (ops:Array Oper):Bool:=
 (avQ ops.size).all fun i=>
  match ops[i]? with
  |none=>au7
  |some o=>(o.after.toList.all fun e=> !Region.binds .any e||decide (e.on<i))&&
   (avQ i).all fun x=>match ops[x]? with|none=>au7|some y=> !q7 ops y o||fA (avK ops) i x
def iB (n:Nat):Code->Bool
 | .region _ ops draw=>(ops.toList.all fun o=>o.op.operands.toList.all mm&&(match o.dst with|some d=>decide (d<n)|none=>au7))&&(!draw||tg ops)
 | .seq a b=>iB n a&&iB n b
 | .cond c a b=>mm c&&iB n a&&iB n b
 | .block _ c=>iB n c
 | .scope c=>iB n c
 | .loop c=>iB n c
 |_=>au7
structure j6 (ds:List Deferred) (j:bH) (N:Nat) (fr:Nat->au9) (a:Act):Prop where
 val:∀t,cN j (fr t) (a.tmps.getD t undef)
 defers:a.defers=ds
 size:a.tmps.size=N
def eY.out:eY->Exit| .normal=> .normal| .exit id=> .exit id| .ret=> .ret
def MP (ops:Array Oper):List Nat:=ops.toList.filterMap (·.dst)
def pI:Code->List Nat| .region _ ops _=>MP ops| .seq a b=>pI a++pI b| .cond _ a b=>pI a++pI b| .block _ c=>pI c| .scope c=>pI c| .loop c=>pI c|_=>[]
structure WF (m:Mem):Prop where
 dead:∀b,m.next<=b->m.aS b= .dead
 low:∀b,pv m.next (m.aS b)
structure aaU (P:avd) (c:Code) (fr:Nat->au9) (m:Mem) (e:eY) (bB:Nat->au9) (m':Mem):Prop where
 next:m.next<=m'.next
 keep:∀i,(pI c).contains i=ava->bB i=fr i
 low:WF m->(∀t,low m.next (fr t))->WF m'/\∀t,low m'.next (bB t)
 sound:∀{ds:List Deferred} {N:Nat} {j:bH} {a:Act} {w:World} {Q:Exit->Act->World->Prop},iB N c=au7->Rel P j m w->WF m->j6 ds j N fr a->(∀a' w' b0,Post P j m w b0 m' w'->j6 ds b0 N bB a'->Q e.out a' w')->c.wp P Q a w
def Wc:Code->Bool| .seq (.region _ _ _) (.block _ (.loop _))=>au7|_=>ava
def kh (P:avd) (C:FuncId->Array au9->Mem->au9->Mem->Prop):Nat->Code->(Nat->au9)->Mem->eY->(Nat->au9)->Mem->Prop|0,_,_,_,_,_,_=>False|_+1, .skip,fr,m,e,bB,m'=>e= .normal/\bB=fr/\m'=m|_+1, .label _,fr,m,e,bB,m'=>e= .normal/\bB=fr/\m'=m|_+1, .exit id,fr,m,e,bB,m'=>e= .exit id/\bB=fr/\m'=m|_+1, .ret,fr,m,e,bB,m'=>e= .ret/\bB=fr/\m'=m|_+1, .region _ ops ava,fr,m,e,bB,m'=>e= .normal/\jy P C ops.toList ops.toList fr m bB m'|_+1, .region _ ops au7,fr,m,e,bB,m'=>e= .normal/\g3 P C ops.toList (avK ops) 0 ops.toList ⟨[],[],[]⟩ fr m bB m'|n+1, .seq a b,fr,m,e,bB,m'=>(∃bu cX bz,kh P C n a fr m bu cX bz/\(if bu= .normal then kh P C n b cX bz e bB m' else e=bu/\bB=cX/\m'=bz))\/(Wc a=au7/\aaU P (.seq a b) fr m e bB m')|n+1, .cond c a b,fr,m,e,bB,m'=>∃t,a8 fr c= .bool t/\kh P C n (if t then a else b) fr m e bB m'|n+1, .scope c,fr,m,e,bB,m'=>kh P C n c fr m e bB m'|n+1, .block id c,fr,m,e,bB,m'=>∃bu,kh P C n c fr m bu bB m'/\e=(if bu= .exit id then .normal else bu)|n+1, .loop c,fr,m,e,bB,m'=>∃bu cX bz,kh P C n c fr m bu cX bz/\(if bu= .normal then kh P C n (.loop c) cX bz e bB m' else e=bu/\bB=cX/\m'=bz)|_+1,_,_,_,_,_,_=>False
def zI (P:avd) (fr:Nat->au9) (m:Mem):ResultVar->au9->Prop
 | .tmp t,v=>v=fr t
 | .cell a t,v=>∃b off,fr a= .pointer (au6 ⟨b,off,au8⟩)/\∃d,P.underlying t=au6 d/\
   (if jK d=au7 then ∃i cs,P.info? t=au6 i/\eo m b off i.size=au6 cs/\v= .agg cs.toArray else m.load b off=au6 v)
def oP (P:avd) (fr:Nat->au9) (m:Mem):List ResultVar->List au9->Prop|[],[]=>True|r::rs,v::vs=>zI P fr m r v/\oP P fr m rs vs|_,_=>False
def la (P:avd) (f:FuncId):Bool:=
 match P.funcs[f]? with
 | au6 fn => !(fn.name == "runtime.NumGoroutine") && (match fn.body with | au6 c => iB fn.ntmps c | au8 => ava)
 |none=>ava
def pack:List au9->au9|[x]=>x|vs=> .tuple vs.toArray
def Wd (P:avd) (f:FuncId) (sA:au9):Prop:=∀(p:Option Addr) (cap:Nat) (w:World),Calls P f #[.slice p 0 cap,sA] w fun e w'=>e= .returned (.tuple #[])/\w'=w
def We (P:avd) (f:FuncId) (sA:au9) (l:Nat) (F m4:List au9):Prop:=
 ∀(w:World) (aS off cap:Nat) (cs:Array au9) (t:ave) (bl:Nat×Nat),w.heap[aS]? =au6 (.cells cs t bl)->(∀(i:Nat) (v:au9),F[i]? =au6 v->cs[off+i]? =au6 v)->(∀i,i<cs.size->¬(bl.1<=i/\i<bl.2))->
  Calls P f #[.slice (au6 ⟨aS,off,au8⟩) l cap,sA] w fun e w'=>e= .returned (.tuple #[])/\w'.os=w.os/\w'.tape=w.tape/\w'.output=w.output/\w.heap.size<=w'.heap.size/\
   (∀c,c<w.heap.size->c≠aS->w'.heap[c]? =w.heap[c]?)/\w'.heap[aS]? =au6 (.cells (e9 cs.toList off m4).toArray t bl)
structure Grown (w w':World):Prop where
 os:w'.os=w.os
 tape:w'.tape=w.tape
 output:w'.output=w.output
 size:w.heap.size<=w'.heap.size
 heap:∀c,c<w.heap.size->w'.heap[c]? =w.heap[c]?
inductive nL (P:avd) (f:FuncId) (args:Array au9) (m:Mem):au9->Mem->Prop where
 |none (a:Option Addr) (c g:Nat) (h:Wd P f (.func (.func g) #[] #[])) (aY:args=#[.slice a 0 c, .func (.func g) #[] #[]]):nL P f args m (.tuple #[]) m
 |flat (v:au9) (uf:args.toList.all av.flat=au7) (sA:av.flat v=au7) (h:∀w,l1 P w->Calls P f args w fun e w'=>e= .returned v/\Grown w w'):nL P f args m v m
 |any (v:au9) (m':Mem) (a1:m.next<=m'.next) (au:WF m->low m'.next v/\WF m') (h:∀(j:bH) (w:World) (hn:Array au9),WF m->Rel P j m w->br (cN j) args.toList hn.toList->Calls P f hn w fun e w'=>∃ba b0,e= .returned ba/\Post P j m w b0 m' w'/\cN b0 v ba):nL P f args m v m'
 |fresh (cs:List au9) (e:ave) (l:Nat) (uf:args.toList.all av.flat=au7) (Et:cs.all cP=au7) (az:cs.length=l*P.cellsOf e) (ag:l<cJ)
   (h:∀w,l1 P w->Calls P f args w fun x w'=>x= .returned (.slice (au6 ⟨w.heap.size,0,au8⟩) l l)/\w'=w.alloc (.cells cs.toArray e)):nL P f args m (.slice (au6 ⟨m.next,0,au8⟩) l l) (m.push (.own cs e))
 |row (b off l c g:Nat) (L:List au9) (e:ave) (F m4:List au9) (h:We P f (.func (.func g) #[] #[]) l F m4) (aY:args=#[.slice (au6 ⟨b,off,au8⟩) l c, .func (.func g) #[] #[]]) (az:0<l) (hm:m.aS b= .own L e)
   (dQ:(L.drop off).take F.length=F) (a1:off+F.length<=L.length) (mG:m4.length=F.length) (f1:F.all cP=au7) (f2:m4.all cP=au7):nL P f args m (.tuple #[]) (m.put b (.own (e9 L off m4) e))
def agx (P:avd) (g:FuncId):Prop:=
 (∃ fn, P.funcs[g]? = au6 fn ∧ (fn.name == "runtime.NumGoroutine") = ava ∧ fn.body.isNone = ava) ∧
  ∀(cs:Array au9) (w:World),CallsD P g cs .returning w fun e u w'=>(∃v,e= .returned v)/\u= .returning/\w'=w
structure aaS (P:avd) (fn:Func) (c A:Code) (id:Nat) (mk ov:Oper) (B:Code) (g k:Nat) (cs:Array avf):Prop where
 body:fn.body=au6 (.seq A (.seq (.region id #[mk,ov] ava) B))
 code:c= .seq A (.seq (.region id #[mk] ava) B)
 dS:Wc A=ava
 afD:mk.op= .makeFunc (.func g) #[] cs
 Ov:mk.dst=au6 k
 VK:mk.guard=au8
 acw:ov.op= .defer {callee:= .value (.tmp k),args:=#[],argTypes:=#[]}
 acs:ov.dst=au8
 acu:ov.guard=au8
 afG:agx P g
def qC (P:avd) (fn:Func) (c:Code):Prop:=fn.body=au6 c\/∃A id mk ov B g k cs,aaS P fn c A id mk ov B g k cs
def iA (P:avd):Nat->FuncId->Array au9->Mem->au9->Mem->Prop
 |0,_,_,_,_,_=>False
 |n+1,f,args,m,v,m'=>(la P f=au7/\nL P f args m v m')\/∃fn c e fr bz vs,P.funcs[f]? =au6 fn/\qC P fn c/\la P f=au7/\args.size<=fn.ntmps/\
   kh P (iA P n) n c (fun i=>(args++av1 (fn.ntmps - args.size) undef).getD i undef) m e fr bz/\(e= .normal\/e= .ret)/\
   oP P fr bz fn.results.toList vs/\v=pack vs/\(vs.length=1\/∀x∈vs,storable x=au7)/\
   (m'=bz\/(m'=bz.lS m.next/\low m.next v/\∀b,b<m.next->bz.aS b=m.aS b\/pv m.next (bz.aS b)))
end Go.av
end
section
namespace Go.av
theorem br.Fw {aA bO:Type} {R:aA->bO->Prop} {l:List bO} (h:br R [] l):l=[]:=by
 cases l with
 |nil=>rfl
 |cons _ _=>exact h.elim
theorem FH {fn:Fn} {bm cs:Array au9} (h:cP (.func fn bm cs)=au7):bm=#[]/\cs=#[]:=by
 grind [cP]
theorem zA {j:bH} {v ba:au9} (h:cP v=au7) (ab:dC j v ba):ba=v:=by
 cases v with
 |pointer a=>cases a with
  |none=>exact ab
  |some a=>grind [cP]
 |slice a l c=>cases a with
  |none=>exact ab
  |some a=>grind [cP]
 |map r=>cases r with
  |none=>exact ab
  |some r=>grind [cP]
 |chan _=>grind [cP]
 |func _ _ _=>
  obtain ⟨rfl,rfl⟩:=FH (fn:= .func 0) (by simpa[flat,iX,cP] using h);obtain ⟨_,ds,aa,ap⟩:=ab;have:ds=#[]:=awM (br.Fw ap)
  grind
 |iface _ _=>grind [cP]
 |agg _=>grind [cP]
 |tuple _=>grind [cP]
 |_=>exact ab
theorem nq {j:bH} {v:au9} (h:cP v=au7):dC j v v:=by
 cases v with
 |pointer a=>cases a with
  |none=>rfl
  |some a=>grind [cP]
 |slice a l c=>cases a with
  |none=>rfl
  |some a=>grind [cP]
 |map r=>cases r with
  |none=>rfl
  |some r=>grind [cP]
 |chan _=>grind [cP]
 |func _ _ _=>obtain ⟨rfl,rfl⟩:=FH (fn:= .func 0) (by simpa[flat,iX,cP] using h);exact ⟨rfl,#[],rfl,trivial⟩
 |iface _ _=>grind [cP]
 |agg _=>grind [cP]
 |tuple _=>grind [cP]
 |_=>rfl
theorem br.wo {aA:Type} {R:aA->aA->Prop} {p:aA->Bool} (h:∀a b,p a=au7->R a b->b=a):∀{l k:List aA},l.all p=au7->br R l k->k=l
 |[],[],_,_=>rfl
 |a::l,b::k,aM,⟨U,aa⟩=>by simp only[av0,avk] at aM;rw[h a b aM.1 U,br.wo h aM.2 aa]
 |[],_::_,_,bL=>bL.elim
 |_::_,[],_,bL=>bL.elim
theorem br.self {aA:Type} {R:aA->aA->Prop} {p:aA->Bool} (h:∀a,p a=au7->R a a):∀{l:List aA},l.all p=au7->br R l l
 |[],_=>avo
 |a::l,aM=>by simp only[av0,avk] at aM;exact ⟨h a aM.1,br.self h aM.2⟩
theorem XQ {j:bH} {v ba:au9} (h:iX v=au7) (ab:e5 j v ba):ba=v:=by
 cases v with
 |agg cs=>obtain ⟨ds,rfl,aa⟩:=ab;have:=br.wo (fun a b=>zA (j:=j)) h aa;simp_all
 |_=>exact zA (j:=j) h (by grind [e5])
theorem w4 {j:bH} {v:au9} (h:iX v=au7):e5 j v v:=by
 cases v with
 |agg cs=>exact ⟨cs,rfl,br.self (fun a=>nq) h⟩
 |_=>simp only[e5];exact nq h
theorem xj {j:bH} {v ba:au9} (h:flat v=au7) (ab:cN j v ba):ba=v:=by
 cases v with
 |tuple cs=>obtain ⟨ds,rfl,aa⟩:=ab;have:=br.wo (fun a b=>XQ (j:=j)) h aa;simp_all
 |func _ _ _=>obtain ⟨rfl,rfl⟩:=FH (fn:= .func 0) (by simpa[flat,iX,cP] using h);obtain ⟨gs,ds,U,aa,ap⟩:=ab;rw[U,awM (br.Fw aa),awM (br.Fw ap)]
 |chan _=>grind [flat,iX,cP]
 |_=>exact XQ (j:=j) h (by grind [cN])
theorem O3 {j:bH} {v:au9} (h:flat v=au7):cN j v v:=by
 cases v with
 |tuple cs=>exact ⟨cs,rfl,br.self (fun a=>w4) h⟩
 |func _ _ _=>obtain ⟨rfl,rfl⟩:=FH (fn:= .func 0) (by simpa[flat,iX,cP] using h);exact ⟨#[],#[],rfl,trivial,trivial⟩
 |chan _=>grind [flat,iX,cP]
 |_=>simp only[cN];exact w4 h
theorem jJ.VV {j:bH}:∀{l k:List au9},l.all vC=au7->br (e5 j) l k->br (jJ j) l k
 |[],[],_,_=>trivial
 |[],_::_,_,h=>h.elim
 |_::_,[],_,h=>h.elim
 |v::l,ba::k,aM,⟨U,aa⟩=>by
  simp only[av0,avk] at aM;refine ⟨?_,jJ.VV aM.2 aa⟩;have ab:=aM.1;unfold vC at ab;split at ab
  ·exact U
  grind
theorem cN.storable {j:bH} {v ba:au9} (h:cN j v ba) (aC:storable v=au7):e5 j v ba:=by
 cases v with
 |tuple _=>grind [av.storable]
 |chan _=>grind [av.storable]
 |func fn bm cs=>
  simp only[av.storable,avk] at aC;have bb:bm=#[]:=by grind
  subst bb;obtain ⟨gs,ds,U,aa,ap⟩:=h;rw[awM (br.Fw aa)] at U;exact ⟨rfl,ds,U,jJ.VV aC.2 ap⟩
 |_=>exact h
theorem cN.int {j:bH} {k:avb} {n:Int} {ba:au9} (h:cN j (.int k n) ba):ba= .int k n:=h
theorem cN.bool {j:bH} {b:Bool} {ba:au9} (h:cN j (.bool b) ba):ba= .bool b:=h
theorem cN.str {j:bH} {b:ByteArray} {ba:au9} (h:cN j (.string b) ba):ba= .string b:=h
theorem cN.kH {j:bH} {l c:Nat} {ba:au9} (h:cN j (.slice au8 l c) ba):ba= .slice au8 l c:=h
theorem cN.ptr {j:bH} {a:Addr} {ba:au9} (h:cN j (.pointer (au6 a)) ba):∃e,a.spot=au8/\j a.block=au6 e/\ba= .pointer (au6 ⟨e.aS,e.dS+a.off,au8⟩):=h
theorem cN.slice {j:bH} {a:Addr} {l c:Nat} {ba:au9} (h:cN j (.slice (au6 a) l c) ba):∃e,a.spot=au8/\j a.block=au6 e/\
   ((c<cJ/\ba= .slice (au6 ⟨e.aS,e.dS+a.off,au8⟩) l c)\/
    (c=cJ/\0<e.es/\l<=e.cap - a.off / e.es/\e.cap<cJ/\a.off%e.es=0/\a.off / e.es<=e.cap/\ba= .slice (au6 ⟨e.aS,e.dS+a.off,au8⟩) l (e.cap - a.off / e.es))\/
    (c=cJ/\l=0/\∃o',ba= .slice (au6 ⟨e.aS,o',au8⟩) 0 0)\/
    (c=0/\l=0/\∃a',ba= .slice (au6 a') 0 0)\/
    (∃k,c=cJ+k/\0<k/\l<=k/\0<e.es/\k<=e.cap - a.off / e.es/\e.cap<cJ/\a.off%e.es=0/\a.off / e.es<=e.cap/\ba= .slice (au6 ⟨e.aS,e.dS+a.off,au8⟩) l (e.cap - a.off / e.es))):=h
theorem cN.tA {j:bH} {a:Addr} {l c:Nat} {ba:au9} (h:cN j (.slice (au6 a) l c) ba) (ai:c<=cJ):∃e,a.spot=au8/\j a.block=au6 e/\
   ((c<cJ/\ba= .slice (au6 ⟨e.aS,e.dS+a.off,au8⟩) l c)\/
    (c=cJ/\0<e.es/\l<=e.cap - a.off / e.es/\e.cap<cJ/\a.off%e.es=0/\a.off / e.es<=e.cap/\ba= .slice (au6 ⟨e.aS,e.dS+a.off,au8⟩) l (e.cap - a.off / e.es))\/
    (c=cJ/\l=0/\∃o',ba= .slice (au6 ⟨e.aS,o',au8⟩) 0 0)\/
    (c=0/\l=0/\∃a',ba= .slice (au6 a') 0 0)):=by
 obtain ⟨e,U,aa,ap⟩:=h.slice;refine ⟨e,U,aa, ?_⟩;rcases ap with ap|ap|ap|ap|⟨k,au,mg,_⟩
 ·grind
 ·grind
 ·grind
 ·grind
 grind
theorem mT (b o n:Nat):(⟨b,o,au8⟩:Addr).add n=⟨b,o+n,au8⟩:=by
 grind [Addr.add]
theorem nn:∀(vs L:List au9) (o:Nat),(e9 L o vs).length=L.length
 |[],L,o=>rfl
 |v::vs,L,o=>by simp[e9,nn vs]
theorem oQ (vs:List au9):∀(L:List au9) (o i:Nat),o+vs.length<=L.length->(e9 L o vs)[i]? =if o<=i/\i<o+vs.length then vs[i - o]? else L[i]? :=by
 induction vs with
 |nil=>grind [e9]
 |cons v vs ar=>
  grind [e9]
theorem ajl (vs:List au9):∀(A:Array au9) (o k:Nat),((vs.zipIdx k).foldl (fun cs (c,j)=>cs.setIfInBounds (o+j) c) A).toList=e9 A.toList (o+k) vs:=by
 induction vs with
 |nil=>simp_all [e9]
 |cons v vs ar=>simp_all [e9,avZ]
theorem FL {j:bH} {place:Nat->Option (Nat×Nat)}:∀(cn Eh:List (Nat×au9)) (L:List au9) (A:Array au9) (cs:List au9),br (fun p q=>p.1=q.1/\cN j p.2 q.2) cn Eh->br (dC j) L A.toList->jm place L cn=au6 cs->
  ∃ds,Instr.fill place A Eh=au6 ds/\br (dC j) cs ds.toList
 |[],[],L,A,cs,_,cU,h=>by simp only[jm,avl.injEq] at h;subst h;exact ⟨A,rfl,cU⟩
 |(i,v)::cn,(k,ba)::Eh,L,A,cs,⟨⟨U,aa⟩,ap⟩,cU,h=>by
  simp only at U aa;subst U;simp only[jm] at h;cases aM:place i with
  |none=>grind
  |some q=>
   obtain ⟨off,size⟩:=q;simp only[aM] at h;split at h
   ·rename_i ai;obtain ⟨aC,b9,az⟩:=ai;have lB:=cN.storable aa aC;have e7:=e5.cells lB;have hlen:ba.cells.size=size:=by have:=e7.length;grind
    have atz:L.length=A.size:=by have:=cU.length;grind
    simp only[Instr.fill,aM,hlen,ne_eq,not_true_eq_false,decide_false,Bool.false_or,decide_eq_true_eq];rw[if_neg (by omega)];refine FL cn Eh _ _ cs ap ?_ h;have bb:=ajl ba.cells.toList A off 0;simp only[av2] at bb;have qp:(ba.cells.zipIdx.foldl (fun cs (c,j)=>cs.setIfInBounds (off+j) c) A)=((ba.cells.toList.zipIdx).foldl (fun cs (c,j)=>cs.setIfInBounds (off+j) c) A):=by
     grind [Array.toList_zipIdx]
    rw[qp,bb];refine br.Fx (by grind [nn]) ?_;intro i a b aY ag;rw[oQ _ _ _ _ (by grind)] at aY;rw[oQ _ _ _ _ (by grind)] at ag;have Vf:=e7.length;rw[Vf] at aY;split at aY
    ·rename_i oA;rw[if_pos oA] at ag;obtain ⟨cB,ek,aE⟩:=e7.get _ _ aY
     grind
    ·rename_i oA;rw[if_neg oA] at ag;obtain ⟨cB,ek,aE⟩:=cU.get _ _ aY
     grind
   grind
 |[],_::_,_,_,_,h,_,_=>h.elim
 |_::_,[],_,_,_,h,_,_=>h.elim
def hk (j:bH) (af cO:avf->au9) (o:Oper):Prop:=∀x∈o.op.operands,cN j (af x) (cO x)
theorem eZ {P:avd} {t:ave} {d:TypeDesc} (h:P.underlying t=au6 d) (w:World):(underlying t).run P w= .ok d w:=run_underlying h w
theorem tk {P:avd} {t:ave} {i:TypeInfo} (h:P.info? t=au6 i) (w:World):(typeInfo t).run P w= .ok i w:=by simp[typeInfo,h]
theorem iw {P:avd} {t:ave} {i:TypeInfo} (h:P.info? t=au6 i) (w:World):(sizeOf t).run P w= .ok i.size w:=by simp[sizeOf,tk h]
theorem mQ {P:avd} {t:ave} {i:TypeInfo} {z:au9} (h:P.info? t=au6 i) (a4:i.zero=au6 z) (w:World):(zeroValue t).run P w= .ok z w:=by simp_all [zeroValue,tk]
theorem rO {P:avd} {t:ave} {d:TypeDesc} (h:P.underlying t=au6 d) (w:World):(isAgg t).run P w= .ok (jK d) w:=by
 simp only[isAgg,avH,eZ h,avB];cases d<;>simp[jK]
theorem hk.Oq {j:bH} {af cO:avf->au9} {o:Oper} (cn:List (Nat×avf)) (h:∀p∈cn,cN j (af p.2) (cO p.2)):br (fun (p q:Nat×au9)=>p.1=q.1/\cN j p.2 q.2) (cn.map fun p=>(p.1,af p.2)) (cn.map fun p=>(p.1,cO p.2)):=by
 induction cn with
 |nil=>exact avo
 |cons p cn ar=>exact ⟨⟨rfl,h p (by simp)⟩,ar fun q bd=>h q (by grind)⟩
theorem WR {P:avd} (w:World):∀(bm:List Field),(∀x∈bm.map (fun f=>(P.info? f.type).map fun i=>(f.offset,i.size)),x.isSome=au7)->
  (bm.mapM (m:=Sem) fun f=>do pure (f.offset,<-sizeOf f.type)).run P w= .ok (bm.map fun f=>(f.offset,((P.info? f.type).map (·.size)).getD 0)) w
 |[],_=>by rfl
 |f::bm,h=>by have bf:=h _ (by simp;exact .inl rfl);simp only[Option.isSome_map] at bf;obtain ⟨i,aj⟩:=Option.isSome_iff_exists.1 bf;have ar:=WR w bm (fun x ae=>h x (by simp only[awe,avu];exact .inr ae));simp_all [iw]
theorem hk.gK {j:bH} {af cO:avf->au9} {y:avf} {k:avb} {n:Int} (h:cN j (af y) (cO y)) (aI:af y= .int k n):cO y= .int k n:=by
 rw[aI] at h;exact h.int
end Go.av
end
section
namespace Go.av
theorem ajA {P:avd} {j:bH} {af cO:avf->au9} {o:Oper} {v:au9} (aC:∀cs b,o.op≠ .select cs b) (h:∀x∈o.op.operands,flat (af x)=au7) (aE:∀w,(execOp af o).run P w= .ok (.value v) w)
  (ab:hk j af cO o) (w:World):(execOp cO o).run P w= .ok (.value v) w:=by
 rw[<-aE w];congr 1;exact execOp_congr o aC fun x ae=>xj (h x ae) (ab x ae)
theorem br.extract {aA bO:Type} {R:aA->bO->Prop} {A:Array aA} {B:Array bO} (h:br R A.toList B.toList) (i k:Nat):br R (A.extract i k).toList (B.extract i k).toList:=by
 simp only[axI,axJ];exact (h.take k).drop i
theorem br.size {aA bO:Type} {R:aA->bO->Prop} {A:Array aA} {B:Array bO} (h:br R A.toList B.toList):A.size=B.size:=by simpa using h.length
theorem br.M8 {aA bO:Type} {R:aA->bO->Prop} {A:Array aA} {B:Array bO} (h:br R A.toList B.toList) (i:Nat) (a:aA) (aY:A[i]? =au6 a):∃b,B[i]? =au6 b/\R a b:=by
 have:=h.get i a (by grind)
 grind
theorem br.map {aA bO o3:Type} {R:bO->o3->Prop} (f:aA->bO) (g:aA->o3):∀(l:List aA),(∀x∈l,R (f x) (g x))->br R (l.map f) (l.map g)
 |[],_=>avo
 |x::l,h=>⟨h x (by simp),br.map f g l fun y aI=>h y (by simp[aI])⟩
theorem e5.up {j:bH} {v ba:au9} (h:e5 j v ba):cN j v ba:=cN.uW h
theorem ajj {P:avd} {cO:avf->au9} {o:Oper} (neq:Bool) (x y:avf) (t u e:ave) (a:Addr) (l c:Nat) (h:o.op= .binOp (if neq then .neq else .eql) t x y u) (aw:P.underlying t=au6 (.slice e))
   (ae:cO x= .slice (au6 a) l c) (aI:cO y= .slice au8 0 0) (w:World):(execOp cO o).run P w= .ok (.value (.bool neq)) w:=by
 grind [eqGuard,Lib.run_eql_slice_nil,run_neq_slice_nil_any,execOp,avH,avB,avM]
theorem OT {P:avd} {j:bH} {af cO:avf->au9} {o:Oper} {v:au9} (h:cW P af o v) (bP:hk j af cO o) (w:World):∃ba,(execOp cO o).run P w= .ok (.value ba) w/\cN j v ba:=by
 cases h with
 |flat v aC h ab aE=>exact ⟨v,ajA aC h aE bP w,O3 ab⟩
 |move x h=>
  refine ⟨cO x, ?_,bP x ?_⟩
  ·rcases h with h|h<;>simp[execOp,h]
  ·rcases h with h|h<;>simp[h,avi]
 |pick c a b t h ai=>
  have U:=bP c (by simp[h,avi]);rw[ai] at U;have aa:=U.bool;have aY:=bP a (by simp[h,avi]);have ag:=bP b (by simp[h,avi]);refine ⟨if t then cO a else cO b, ?_, ?_⟩
  ·simp only[execOp,h,aa];cases t<;>simp[asBool]
  ·cases t<;>simpa
 |extract x i vs v h ae ab=>have U:=bP x (by simp[h,avi]);rw[ae] at U;obtain ⟨ds,aO,aa⟩:=U;obtain ⟨b,ag,aE⟩:=aa.M8 i v ab;exact ⟨b,by simp[execOp,h,Instr.extract,aO,ag],aE.up⟩
 |field t x i bm f d cs v h aw bb aO ae ab=>
  have U:=bP x (by simp[h,avi]);rw[ae] at U;obtain ⟨ds,m9,aa⟩:=U;by_cases aY:jK d=au7
  ·rw[if_pos aY] at ab;obtain ⟨k,au,hle,rfl⟩:=ab;refine ⟨.agg (ds.extract f.offset (f.offset+k.size)), ?_,⟨_,rfl,aa.extract _ _⟩⟩;simp[execOp,h,Instr.field,eZ aw,bb,m9,asAgg,part,rO aO,aY,iw au]
  ·rw[if_neg aY] at ab;obtain ⟨b,ag,aE⟩:=aa.M8 _ _ ab;refine ⟨b, ?_,cN.pA aE⟩;simp[execOp,h,Instr.field,eZ aw,bb,m9,asAgg,part,rO aO,aY,ag]
 |Fc t x y e d i l k n cs h aw aO aY aj ae aI bf U=>have cC:=bP x (by simp[h,avi]);have hX:=bP y (by simp[h,avi]);rw[ae] at cC;rw[aI] at hX;have kv:=hX.int;obtain ⟨ds,m9,aa⟩:=cC;refine ⟨.agg (ds.extract (n.toNat*i.size) (n.toNat*i.size+i.size)), ?_,⟨_,rfl,aa.extract _ _⟩⟩;simp[execOp,h,Instr.index,kv,asIntOf,eZ aw,m9,bf,U,part,rO aO,aY,iw aj]
 |build t cn bm i z cs h aw aj a4 db aM ai=>
  have aa:=hk.Oq (j:=j) (af:=af) (cO:=cO) (o:=o) cn.toList (fun p aM=>bP p.2 (by
   simp only[h,avi];simp only[axi,avy];exact ⟨p,aM,rfl⟩))
  obtain ⟨ds,m9,aE⟩:=FL (j:=j) _ _ _ z.cells cs aa (br.self (fun a=>nq) db) ai;refine ⟨.agg ds, ?_,⟨_,rfl,by simpa using aE⟩⟩;have y0:=WR (P:=P) w bm.toList (by simpa[mn] using aM);have aeK:(bm.mapM (m:=Sem) fun f=>do pure (f.offset,<-sizeOf f.type)).run P w= .ok (bm.map fun f=>(f.offset,((P.info? f.type).map (·.size)).getD 0)) w:=by rw[Array.mapM_eq_mapM_toList];simp only[Sem.run_map,y0,avB];congr 1;apply awM;simp
  have adV:(fun k:Nat=>(bm.map fun f=>(f.offset,((P.info? f.type).map (·.size)).getD 0))[k]?)=(fun k:Nat=>((mn P bm)[k]?).join):=by
   funext k;simp only[mn,Array.getElem?_map,awb,aw8];cases au:bm[k]? with
   |none=>simp
   |some f=>
    have hm:f∈bm.toList:=by have:=axj au;simpa using this
    have:=aM ((P.info? f.type).map fun i=>(f.offset,i.size)) (by simp only[mn,avy];exact ⟨f,hm,rfl⟩);simp only[Option.isSome_map] at this;obtain ⟨q,bd⟩:=Option.isSome_iff_exists.1 this;simp[bd]
  have y1:(cn.map fun (i,x)=>(i,cO x)).toList=cn.toList.map fun p=>(p.1,cO p.2):=by simp
  simp only[execOp,h,Instr.build,avH,mQ aj a4,avB,eZ aw,aeK,adV,y1,m9,avM]
 |yt t cn n e i k z cs h aw aj a4 db he ai=>
  have aa:=hk.Oq (j:=j) (af:=af) (cO:=cO) (o:=o) cn.toList (fun p aM=>bP p.2 (by
   simp only[h,avi];simp only[axi,avy];exact ⟨p,aM,rfl⟩))
  obtain ⟨ds,m9,aE⟩:=FL (j:=j) _ _ _ z.cells cs aa (br.self (fun a=>nq) db) ai;refine ⟨.agg ds, ?_,⟨_,rfl,by simpa using aE⟩⟩;have y1:(cn.map fun (i,x)=>(i,cO x)).toList=cn.toList.map fun p=>(p.1,cO p.2):=by simp
  simp only[execOp,h,Instr.build,avH,mQ aj a4,avB,eZ aw,iw he,y1,m9,avM]
 |nilCheck x a h ae=>have U:=bP x (by simp[h,avi]);rw[ae] at U;obtain ⟨e,aC,aZ,ai⟩:=U.ptr;exact ⟨_,by simp[execOp,h,ai],⟨e,aC,aZ,rfl⟩⟩
 |fieldAddr t x i bm f k b off h aw bb au aC ae=>have U:=bP x (by simp[h,avi]);rw[ae] at U;obtain ⟨e,_,aZ,ai⟩:=U.ptr;refine ⟨.pointer (au6 ⟨e.aS,e.dS+(off+f.offset),au8⟩), ?_,⟨e,rfl,aZ,rfl⟩⟩;simp[execOp,h,Instr.fieldAt,eZ aw,bb,ai,awW,fieldPlace,iw au,aC,mT,avZ]
 |indexAddr t x y e i b off l c k n h aw aj ae aI bf U=>
  have cC:=bP x (by simp[h,avi]);have hX:=bP y (by simp[h,avi]);rw[ae] at cC;rw[aI] at hX;have kv:=hX.int;obtain ⟨q,_,aZ,ai⟩:=cC.slice;have eg:∃bQ,cO x= .slice (au6 ⟨q.aS,q.dS+off,au8⟩) l bQ:=by
   rcases ai with ⟨_,ai⟩|⟨_,_,_,_,_,_,ai⟩|⟨_,az,_,ai⟩|⟨_,az,_⟩|⟨_,_,_,_,_,_,_,_,_,ai⟩
   ·exact ⟨_,ai⟩
   ·exact ⟨_,ai⟩
   ·omega
   ·omega
   ·exact ⟨_,ai⟩
  obtain ⟨bQ,eg⟩:=eg;refine ⟨.pointer (au6 ⟨q.aS,q.dS+(off+n.toNat*i.size),au8⟩), ?_,⟨q,rfl,aZ,rfl⟩⟩;simp[execOp,h,Instr.indexAt,kv,asIntOf,eZ aw,eg,bf,U,iw aj,mT,avZ]
 |za t x y e i b off l k n h aw aj ae aI bf U=>have cC:=bP x (by simp[h,avi]);have hX:=bP y (by simp[h,avi]);rw[ae] at cC;rw[aI] at hX;have kv:=hX.int;obtain ⟨q,_,aZ,ai⟩:=cC.ptr;refine ⟨.pointer (au6 ⟨q.aS,q.dS+(off+n.toNat*i.size),au8⟩), ?_,⟨q,rfl,aZ,rfl⟩⟩;simp[execOp,h,Instr.indexAt,kv,asIntOf,eZ aw,ai,awW,bf,U,iw aj,mT,avZ]
 |ED t x y e i l g k n h aw aj aC ae aI bf U az=>
  have cC:=bP x (by simp[h,avi]);have hX:=bP y (by simp[h,avi]);rw[ae] at cC;rw[aI] at hX;have kv:=hX.int;have ai:cO x= .pointer (au6 ⟨g,0,au8⟩):=by have cC:cO x= .pointer (au6 ⟨g*4096 / 4096,g*4096%4096,au8⟩):=cC;rw[cC,show g*4096 / 4096=g by omega,show g*4096%4096=0 by omega]
  refine ⟨.pointer (au6 ⟨g,n.toNat,au8⟩), ?_, ?_⟩
  ·simp[execOp,h,Instr.indexAt,kv,asIntOf,eZ aw,ai,awW,bf,U,iw aj,mT,aC]
  ·show au9.pointer _=_;rw[show (g*4096+n.toNat) / 4096=g by omega,show (g*4096+n.toNat)%4096=n.toNat by omega]
 |slice t x bD aj e i b off l c n cu h aw eh ae ag dZ dy U aa ap=>
  have cC:=bP x (by simp[h,avi]);rw[ae] at cC;obtain ⟨q,_,aZ,ai⟩:=cC.tA (avR ag);have hex:∃a':Addr,cO x= .slice (au6 a') l c/\((c<cJ/\a'=⟨q.aS,q.dS+off,au8⟩)\/(c=0/\l=0)):=by
   rcases ai with ⟨bS,ai⟩|⟨ai,_⟩|⟨ai,_⟩|⟨ai,az,a',aY⟩
   ·exact ⟨_,ai, .inl ⟨bS,rfl⟩⟩
   ·exact (av9 ag ai).elim
   ·exact (av9 ag ai).elim
   ·subst ai;subst az;exact ⟨a',aY, .inr ⟨rfl,rfl⟩⟩
  obtain ⟨a',eg,NY⟩:=hex;have k5:(avC au7 l c (bD.map cO) (aj.map cO) au8).run P w= .ok (n,cu,c) w:=by
   cases bD with
   |none=>
    simp only[n4] at dZ;subst dZ;cases aj with
    |none=>simp only[lO] at dy;subst dy;simp[avC]
    |some y=>obtain ⟨k,aI⟩:=dy;have:=hk.gK (bP y (by simp[h,avi])) aI;simp[avC,this,av3,asIntOf,aa]
   |some u=>
    obtain ⟨k,hu⟩:=dZ;have kz:=hk.gK (bP u (by simp[h,avi])) hu;cases aj with
    |none=>simp only[lO] at dy;subst dy;simp[avC,kz,av3,asIntOf,U]
    |some y=>obtain ⟨cM,aI⟩:=dy;have:=hk.gK (bP y (by simp[h,avi])) aI;simp[avC,this,kz,av3,asIntOf,U,aa]
  refine ⟨.slice (au6 (if c=n then a' else a'.add (n*i.size))) (cu - n) (c - n), ?_, ?_⟩
  ·simp only[execOp,h,awN,avH,eZ aw,avB,aw9,awO,eg,k5,iw eh,avM];congr 3;split<;>simp
  ·refine ⟨q,rfl,aZ, ?_⟩;rcases NY with ⟨bS,rfl⟩|⟨rfl,rfl⟩
   ·refine .inl ⟨axk (Nat.sub_le c n) bS, ?_⟩;congr 2;split<;>simp[mT,avZ]
   ·have a1:n=0:=by omega
    have bL:cu=0:=by omega
    subst a1;subst bL;exact .inr (.inr (.inr (.inl ⟨rfl,rfl,_,rfl⟩)))
 |slice3 t x fv aj e i b off l c cu cM kA h aw eh ae ai dy lG U=>
  obtain ⟨y,uP,rfl,aI⟩:=dy;have cC:=bP x (by simp[h,avi]);rw[ae] at cC;have qn:=hk.gK (bP y (by simp[h,avi])) aI;have kx:=hk.gK (bP fv (by simp[h,avi])) lG;obtain ⟨q,_,aZ,e7⟩:=cC.tA (by rcases ai with ⟨U,_⟩|⟨U,_⟩<;>omega);have hex:∃(a':Addr) (bQ:Nat),cO x= .slice (au6 a') l bQ/\cM<=bQ/\dC j (.slice (au6 ⟨b,off,au8⟩) cu cM) (.slice (au6 a') cu cM):=by
   rcases e7 with ⟨bS,e7⟩|⟨fj,_,hle,il,_,_,e7⟩|⟨fj,gd,o',e7⟩|⟨nV,gd,a',e7⟩
   ·rcases ai with ⟨_,au⟩|⟨fj,_⟩
    ·exact ⟨_,_,e7,au,q,rfl,aZ, .inl ⟨axk au bS,rfl⟩⟩
    ·exact absurd (fj▸bS) (awP _)
   ·rcases ai with ⟨ku,_⟩|⟨_,au⟩
    ·exact (av9 ku fj).elim
    ·exact ⟨_,_,e7,avz au hle,q,rfl,aZ, .inl ⟨axk (avz au hle) (axk (Nat.sub_le _ _) il),rfl⟩⟩
   ·rcases ai with ⟨ku,_⟩|⟨_,au⟩
    ·exact (av9 ku fj).elim
    ·have mg:cM=0:=by omega
     have NE:cu=0:=by omega
     subst mg NE;subst gd;exact ⟨_,_,e7,awf _,q,rfl,aZ, .inr (.inr (.inr (.inl ⟨rfl,rfl,_,rfl⟩)))⟩
   ·subst nV gd;have mg:cM=0:=by rcases ai with ⟨_,au⟩|⟨_,au⟩<;>omega
    have NE:cu=0:=by omega
    subst mg NE;exact ⟨a',_,e7,avm _,q,rfl,aZ, .inr (.inr (.inr (.inl ⟨rfl,rfl,_,rfl⟩)))⟩
  obtain ⟨a',bQ,eg,au,ab⟩:=hex;have k5:(avC au7 l bQ (au8:Option au9) ((au6 y).map cO) (au6 (cO fv))).run P w= .ok (0,cu,cM) w:=by simp[avC,qn,kx,av3,asIntOf,au,U]
  refine ⟨_, ?_,cN.pA ab⟩;simp only[execOp,h,awN,avH,eZ aw,avB,aw9,awC,awO,eg] at k5⊢;simp only[k5,iw eh,avM,avB,Nat.sub_zero,Nat.zero_mul];congr 3;split
  ·rfl
  ·rcases a' with ⟨eA,pz,s1⟩;cases s1<;>simp[Addr.add]
 |Kh t x bD aj fv e i b off l c n cu cM Fj Fh kA h aw eh ae ai dZ dy lG bf U=>
  have cC:=bP x (by simp[h,avi]);rw[ae] at cC;have gv:=hk.gK (bP bD (by simp[h,avi])) dZ;have qn:=hk.gK (bP aj (by simp[h,avi])) dy;have kx:=hk.gK (bP fv (by simp[h,avi])) lG;obtain ⟨q,_,aZ,e7⟩:=cC.tA (by rcases ai with ⟨U,_⟩|⟨U,_⟩<;>omega);have hex:∃(a':Addr) (bQ:Nat),cO x= .slice (au6 a') l bQ/\cM<=bQ:=by
   rcases e7 with ⟨bS,e7⟩|⟨fj,_,hle,il,_,_,e7⟩|⟨fj,gd,o',e7⟩|⟨nV,gd,a',e7⟩
   ·rcases ai with ⟨_,au⟩|⟨fj,_⟩
    ·exact ⟨_,_,e7,au⟩
    ·exact absurd (fj▸bS) (awP _)
   ·rcases ai with ⟨ku,_⟩|⟨_,au⟩
    ·exact (av9 ku fj).elim
    ·exact ⟨_,_,e7,avz au hle⟩
   ·rcases ai with ⟨ku,_⟩|⟨_,au⟩
    ·exact (av9 ku fj).elim
    ·subst gd;exact ⟨_,_,e7,au⟩
   ·subst nV gd;have mg:cM=0:=by rcases ai with ⟨_,au⟩|⟨_,au⟩<;>omega
    exact ⟨a',_,e7,by omega⟩
  obtain ⟨a',bQ,eg,au⟩:=hex;have k5:(avC au7 l bQ ((au6 bD).map cO) ((au6 aj).map cO) (au6 (cO fv))).run P w= .ok (n,cu,cM) w:=by simp[avC,gv,qn,kx,av3,asIntOf,au,U,bf]
  have jw:∃ch Om c2,(execOp cO o).run P w= .ok (.value (.slice ch Om c2)) w:=by simp only[execOp,h,awN,avH,eZ aw,avB,awC,awO,eg] at k5⊢;simp only[k5,iw eh,avM,avB];exact ⟨_,_,_,rfl⟩
  obtain ⟨ch,Om,c2,jw⟩:=jw;exact ⟨_,jw,fun b ag=>by cases ag⟩
 |CV t x fv aj e i kA h aw eh ae dy lG=>
  obtain ⟨y,uP,rfl,aI⟩:=dy;have cC:=bP x (by simp[h,avi]);rw[ae] at cC;have eg:=cC.kH;have qn:=hk.gK (bP y (by simp[h,avi])) aI;have kx:=hk.gK (bP fv (by simp[h,avi])) lG;refine ⟨.slice au8 0 0, ?_,rfl⟩;have k5:(avC au7 0 0 (au8:Option au9) ((au6 y).map cO) (au6 (cO fv))).run P w= .ok (0,0,0) w:=by simp[avC,qn,kx,av3,asIntOf]
  simp only[awC] at k5;simp[execOp,h,awN,eZ aw,awO,eg,k5,iw eh]
 |kH t x bD aj e i h aw eh ae dZ dy=>
  have cC:=bP x (by simp[h,avi]);rw[ae] at cC;have eg:=cC.kH;refine ⟨.slice au8 0 0, ?_,rfl⟩;have k5:(avC au7 0 0 (bD.map cO) (aj.map cO) au8).run P w= .ok (0,0,0) w:=by
   cases bD with
   |none=>
    cases aj with
    |none=>simp[avC]
    |some y=>obtain ⟨k,aI⟩:=dy;have:=hk.gK (bP y (by simp[h,avi])) aI;simp[avC,this,av3,asIntOf]
   |some u=>
    obtain ⟨k,hu⟩:=dZ;have kz:=hk.gK (bP u (by simp[h,avi])) hu;cases aj with
    |none=>simp[avC,kz,av3,asIntOf]
    |some y=>obtain ⟨cM,aI⟩:=dy;have:=hk.gK (bP y (by simp[h,avi])) aI;simp[avC,this,kz,av3,asIntOf]
  simp[execOp,h,awN,eZ aw,awO,eg,k5,iw eh]
 |len x t e a l c h aw ae=>
  have cC:=bP x (by simp[h,avi,avN]);rw[ae] at cC;have eg:∃a' bQ,cO x= .slice a' l bQ:=by
   cases a with
   |none=>exact ⟨_,_,cC.kH⟩
   |some a=>
    obtain ⟨q,_,aZ,ai⟩:=cC.slice;rcases ai with ⟨_,ai⟩|⟨_,_,_,_,_,_,ai⟩|⟨_,az,_,ai⟩|⟨_,az,_,ai⟩|⟨_,_,_,_,_,_,_,_,_,ai⟩
    ·exact ⟨_,_,ai⟩
    ·exact ⟨_,_,ai⟩
    ·subst az;exact ⟨_,_,ai⟩
    ·subst az;exact ⟨_,_,ai⟩
    ·exact ⟨_,_,ai⟩
  obtain ⟨a',bQ,eg⟩:=eg;exact ⟨.int .i64 l,by simp[execOp,h,resolve,invoke,builtin,Builtin.len_,eZ aw,eg,goInt],rfl⟩
 |yu x t e h aw ae=>have cC:=bP x (by simp[h,avi,avN]);rw[ae] at cC;have eg:=cC.kH;exact ⟨.int .i64 0,by simp[execOp,h,resolve,invoke,builtin,Builtin.cap_,eZ aw,eg,goInt],rfl⟩
 |ud neq x y t u e a l c h aw ae aI=>
  have cC:=bP x (by simp[h,avi]);rw[ae] at cC;have hX:=bP y (by simp[h,avi]);rw[aI] at hX;have kv:=hX.kH;have eg:∃a' bQ,cO x= .slice (au6 a') l bQ:=by
   obtain ⟨q,_,aZ,ai⟩:=cC.slice;rcases ai with ⟨_,ai⟩|⟨_,_,_,_,_,_,ai⟩|⟨_,az,_,ai⟩|⟨_,az,_,ai⟩|⟨_,_,_,_,_,_,_,_,_,ai⟩
   ·exact ⟨_,_,ai⟩
   ·exact ⟨_,_,ai⟩
   ·subst az;exact ⟨_,_,ai⟩
   ·subst az;exact ⟨_,_,ai⟩
   ·exact ⟨_,_,ai⟩
  obtain ⟨a',bQ,eg⟩:=eg;refine ⟨.bool neq, ?_,rfl⟩;exact ajj neq x y t u e a' l bQ h aw eg kv w
 |func fn first captured h bb=>
  refine ⟨.func fn (first.map cO) (captured.map cO),by simp[execOp,h,Instr.makeFunc],⟨_,_,rfl, ?_, ?_⟩⟩
  ·simp only[awD];exact br.map _ _ _ fun x ae=>cN.storable (bP x (by simp[h,avi];exact .inl (by simpa using ae))) (bb x (by simp[ae]))
  ·simp only[awD];exact br.map _ _ _ fun x ae=>cN.storable (bP x (by simp[h,avi];exact .inr (by simpa using ae))) (bb x (by simp[ae]))
end Go.av
end
section
namespace Go.av
structure sm (P:avd) (j:bH) (m:Mem) (w:World):Prop where
 load:∀b e o v,j b=au6 e->m.load b o=au6 v->∃ba,w.cell? ⟨e.aS,e.dS+o,au8⟩=au6 ba/\dC j v ba
 own:∀b e L t,j b=au6 e->m.aS b= .own L t->P.cellsOf t=e.es/\L.length<=e.cap*e.es
 map:∀b e L u,j b=au6 e->m.aS b= .map L u->oj P j e w.heap[e.aS]? (.map L u)
 kI:l1 P w
theorem Rel.load {P:avd} {j:bH} {m:Mem} {w:World} (h:Rel P j m w) (b:Nat) (e:j5) (o:Nat) (v:au9) (aZ:j b=au6 e) (az:m.load b o=au6 v):∃ba,w.cell? ⟨e.aS,e.dS+o,au8⟩=au6 ba/\dC j v ba:=by
 unfold Mem.load at az;have ao:=h.obj b e aZ;cases ag:m.aS b with
 |dead=>grind
 |map L u=>grind
 |lock _ _ _ _=>grind
 |ro rd=>
  simp only[ag] at az ao;obtain ⟨cs,t,bl,ba,U,aa,ap⟩:=ao o v az
  grind [av7]
 |own L t=>
  simp only[ag] at az;obtain ⟨cs,bl,hw,bb,U,aa,ap,aN⟩:=h.own b e L t aZ ag
  grind [av7]
theorem Rel.mW {P:avd} {j:bH} {m:Mem} {w:World} (h:Rel P j m w):sm P j m w:=
 ⟨h.load,fun b e L t aZ ag=>by
  obtain ⟨cs,bl,hw,bb,U,aa,ap,aN⟩:=h.own b e L t aZ ag;exact ⟨U,by omega⟩,fun b e L u aZ ag=>by have:=h.obj b e aZ;rw[ag] at this;exact this,h.kI.val⟩
theorem zm {P:avd} {j:bH} {m:Mem} {w:World} (h:sm P j m w) {b:Nat} {e:j5} (aZ:j b=au6 e):∀(n o:Nat) (cs:List au9),eo m b o n=au6 cs->
  ∃ds:List au9,br (dC j) cs ds/\ds.length=n/\∀(i:Nat) (u:au9),ds[i]? =au6 u->w.cell? ⟨e.aS,e.dS+o+i,au8⟩=au6 u
 |0,o,cs,aE=>by simp only[eo,avl.injEq] at aE;subst aE;exact ⟨[],avo,rfl,fun i u hu=>by grind⟩
 |n+1,o,cs,aE=>by
  simp only[eo] at aE;cases U:m.load b o with
  |none=>grind
  |some v=>
   cases aa:eo m b (o+1) n with
   |none=>grind
   |some l=>
    simp only[U,aa,avl.injEq] at aE;subst aE;obtain ⟨ba,ai,ab⟩:=h.load b e o v aZ U;obtain ⟨ds,az,a1,aO⟩:=zm h aZ n (o+1) l aa;refine ⟨ba::ds,⟨ab,az⟩,by grind,fun i u hu=> ?_⟩
    grind
theorem zn {P:avd} {w:World} {c o n:Nat} {ds:List au9} (a1:ds.length=n) (aO:∀(i:Nat) (u:au9),ds[i]? =au6 u->w.cell? ⟨c,o+i,au8⟩=au6 u):(loadCells ⟨c,o,au8⟩ n).run P w= .ok ds.toArray w:=by
 grind [run_loadCells_list,mT]
theorem WO {P:avd} {w:World} {a:Addr}:(loadCells a 0).run P w= .ok #[] w:=rfl
theorem WG {P:avd} (w:World):∀(cs:List UInt8) (s:ByteArray) (f:au9->ByteArray->Sem (ForInStep ByteArray)),
  (∀u s,f (.int .u8 (u:UInt8).toNat) s=pure (.yield (s.push u)))->
  (forIn (cs.map fun u=>awn .u8 (u.toNat:Int)) s f).run P w= .ok (⟨s.data++cs.toArray⟩:ByteArray) w
 |[],s,f,bb=>by rfl
 |u::cs,s,f,bb=>by simp only[awe,List.forIn_cons,bb,pure_bind,WG w cs (s.push u) f bb];simp_all
theorem aqS (u:UInt8):UInt8.ofNat ((u.toNat:Int).toNat)=u:=by simp
theorem xt {P:avd} {w:World} {r:Nat} {es:Array MapEntry} {clock:Nat} (ag:w.heap[r]? =au6 (.map es clock)):(getObj r).run P w= .ok (.map es clock) w:=by
 grind [getObj,Sem.run]
theorem YV {P:avd} {w:World} {r:Nat} {es:Array MapEntry} {clock:Nat} (o:Obj) (ag:w.heap[r]? =au6 (.map es clock)):(setObj r o).run P w= .ok () {w with heap:=w.heap.setIfInBounds r o}:=by
 grind [setObj,Sem.run]
theorem nH.Rd {ks vs:Nat} (au:0<ks):∀{L:List au9} {E E':List (List au9×List au9)},nH ks vs L E->nH ks vs L E'->E=E'
 |L,[],[],_,_=>rfl
 |L,[],p::E',h,cu=>by have U:=h.eq;rw[cu.eq] at U;have:=(cu.len p (by simp)).1;simp_all
 |L,p::E,[],h,cu=>by have U:=cu.eq;rw[h.eq] at U;have:=(h.len p (by simp)).1;simp_all
 |L,p::E,q::E',h,cu=>by have U:=h.eq;rw[cu.eq] at U;simp only[List.flatMap_cons,List.append_assoc] at U;obtain ⟨bu,U⟩:=List.append_inj U (by rw[(h.len p (by simp)).1,(cu.len q (by simp)).1]);obtain ⟨e2,U⟩:=List.append_inj U (by rw[(h.len p (by simp)).2,(cu.len q (by simp)).2]);have ar:=nH.Rd au (L:=E.flatMap fun p=>p.1++p.2) (E:=E) (E':=E') ⟨rfl,fun r aE=>h.len r (by simp[aE])⟩ ⟨U.symm,fun r aE=>cu.len r (by simp[aE])⟩;rw[ar];congr 1;exact (Prod.ext bu e2).symm
theorem q2.find {P:avd} {j:bH} {bi bg:ave} {key z v:au9} {t:Bool} {E:List (List au9×List au9)} (h:q2 (dG P bi) (dG P bg) key z E v t):∀{es:List MapEntry} (i:Nat),br (sf P j bi bg) E es->
  (t=au7/\∃n ba,ns key es i=au6 (n,ba)/\e5 j v ba)\/(t=ava/\v=z/\ns key es i=au8):=by
 induction h with
 |nf=>
  intro es i a0;cases es with
  |nil=>exact .inr ⟨rfl,rfl,rfl⟩
  |cons _ _=>exact a0.elim
 |oB p E h=>
  intro es i a0;cases es with
  |nil=>exact a0.elim
  |cons x es=>obtain ⟨⟨U,aa,ap⟩,_⟩:=a0;exact .inl ⟨rfl,i,x.val,by grind [ns],ap⟩
 |next p E v b h a0 ar=>
  intro es i a0;cases es with
  |nil=>exact a0.elim
  |cons x es=>
   obtain ⟨⟨U,aa,ap⟩,a0⟩:=a0
   grind [ns]
theorem O4 {P:avd} {j:bH} {bi bg:ave} {hf:au9->Prop}:∀{E:List (List au9×List au9)} {es:List MapEntry},br (sf P j bi bg) E es->(∀p∈E,hf (eb (dG P bi) p.1))->∀x∈es,hf x.key
 |[],[],_,_,x,ae=>by grind
 |p::E,y::es,⟨U,aa⟩,a5,x,ae=>by
  rcases avu.1 ae with rfl|ae
  ·rw[U.1];grind
  ·exact O4 aa (fun q bd=>a5 q (by grind)) x ae
 |[],_::_,h,_,_,_=>h.elim
 |_::_,[],h,_,_,_=>h.elim
theorem WN {P:avd} {j:bH} {af cO:avf->au9} {o:Oper} {m:Mem} {v:au9} (h:eJ P af o m v) (bP:hk j af cO o) {w:World} (cl:sm P j m w):∃ba,(execOp cO o).run P w= .ok (.value ba) w/\cN j v ba:=by
 cases h with
 |load t x b off d v h ae aw aO ab=>have cC:=bP x (by simp[h,avi]);rw[ae] at cC;obtain ⟨q,_,aZ,ai⟩:=cC.ptr;obtain ⟨ba,e7,aE⟩:=cl.load b q off v aZ ab;exact ⟨ba,by simp[execOp,h,Instr.loadAt,ai,awW,loadVar,rO aw,aO,e7],cN.pA aE⟩
 |uk t x g n s h ae a1 aw a5=>
  have cC:=bP x (by simp[h,avi]);rw[ae] at cC;have bS:n<4096:=avx (avr.1 a1).1 (by simp[ou]);have ai:cO x= .pointer (au6 ⟨g,n,au8⟩):=by have cC:cO x= .pointer (au6 ⟨(g*4096+n) / 4096,(g*4096+n)%4096,au8⟩):=cC;rw[cC,show (g*4096+n) / 4096=g by omega,show (g*4096+n)%4096=n by omega]
  exact ⟨_,by simp[execOp,h,Instr.loadAt,ai,awW,loadVar,rO aw,jK,cl.kI.Kk g a5 n s a1],rfl⟩
 |sT t x b off d i cs h ae aw aO aj ab=>have cC:=bP x (by simp[h,avi]);rw[ae] at cC;obtain ⟨q,_,aZ,ai⟩:=cC.ptr;obtain ⟨ds,az,a1,k6⟩:=zm cl aZ _ _ _ ab;exact ⟨.agg ds.toArray,by simp[execOp,h,Instr.loadAt,ai,awW,loadVar,rO aw,aO,iw aj,zn a1 k6],⟨_,rfl,by simpa using az⟩⟩
 |slice t x bD aj e i L b off l n cu h aw eh ae hm dZ dy U aa ap=>
  have cC:=bP x (by simp[h,avi]);rw[ae] at cC;obtain ⟨q,_,aZ,ai⟩:=cC.tA (avm _);obtain ⟨oz,_⟩:=cl.own b q L e aZ hm;have b9:i.size=q.es:=by simpa[awg,eh] using oz
  have key:∀(o' ij:Nat),cO x= .slice (au6 ⟨q.aS,o',au8⟩) l ij->l<=ij->
    (execOp cO o).run P w= .ok (.value (.slice (au6 ⟨q.aS,if ij=n then o' else o'+n*i.size,au8⟩) (cu - n) (ij - n))) w:=by
   intro o' ij eg hle;have k5:(avC au7 l ij (bD.map cO) (aj.map cO) au8).run P w= .ok (n,cu,ij) w:=by
    cases bD with
    |none=>
     simp only[n4] at dZ;subst dZ;cases aj with
     |none=>simp only[lO] at dy;subst dy;simp[avC]
     |some y=>obtain ⟨k,aI⟩:=dy;have:=hk.gK (bP y (by simp[h,avi])) aI;simp[avC,this,av3,asIntOf,show cu<=ij by omega]
    |some u=>
     obtain ⟨k,hu⟩:=dZ;have kz:=hk.gK (bP u (by simp[h,avi])) hu;cases aj with
     |none=>simp only[lO] at dy;subst dy;simp[avC,kz,av3,asIntOf,U]
     |some y=>obtain ⟨cM,aI⟩:=dy;have:=hk.gK (bP y (by simp[h,avi])) aI;simp[avC,this,kz,av3,asIntOf,U,show cu<=ij by omega]
   simp only[execOp,h,awN,avH,eZ aw,avB,aw9,awO,eg,k5,iw eh,avM];congr 3;split<;>simp[mT]
  rcases ai with ⟨bS,_⟩|⟨_,gF,hle,il,mi,hdiv,ai⟩|⟨_,gd,o',ai⟩|⟨nV,_⟩
  rotate_left 3
  ·simp[cJ] at nV
  ·exact absurd bS (awP _)
  ·have hle:l<=q.cap - off / q.es:=hle;have mi:off%q.es=0:=mi;have hdiv:off / q.es<=q.cap:=hdiv;refine ⟨_,key _ _ ai hle,⟨q,rfl,aZ, ?_⟩⟩;by_cases a4:q.cap - off / q.es=n
   ·have:cu - n=0:=by omega
    right;right;left;refine ⟨rfl,this,q.dS+off, ?_⟩;simp[a4,this]
   ·right;left;have EO:(off+n*i.size) / q.es=off / q.es+n:=by rw[b9];exact axv _ _ gF
    refine ⟨rfl,gF, ?_,il, ?_, ?_, ?_⟩
    ·simp only[EO];omega
    ·simp only[b9,Nat.add_mul_mod_self_right];exact mi
    ·simp only[EO];omega
    ·simp only[EO,if_neg a4,avZ];congr 1;omega
  ·subst gd;refine ⟨_,key _ _ ai (avm _),⟨q,rfl,aZ, ?_⟩⟩;right;right;left;refine ⟨rfl,by omega,o', ?_⟩;have:n=0:=by omega
   have:cu=0:=by omega
   simp[*]
 |vK t x bD aj e i L b off l c k n cu h aw eh ae au hm dZ dy U aa ap=>
  have cC:=bP x (by simp[h,avi]);rw[ae] at cC;obtain ⟨q,_,aZ,ai⟩:=cC.slice;have aZ:j b=au6 q:=aZ;obtain ⟨oz,_⟩:=cl.own b q L e aZ hm;have b9:i.size=q.es:=by simpa[awg,eh] using oz
  have hex:∃ij,cO x= .slice (au6 ⟨q.aS,q.dS+off,au8⟩) l ij/\l<=ij/\k<=ij/\0<q.es/\ij=q.cap - off / q.es/\q.cap<cJ/\off%q.es=0/\off / q.es<=q.cap:=by
   rcases ai with ⟨bS,_⟩|⟨fj,gF,hle,il,mi,hdiv,ai⟩|⟨fj,gd,_⟩|⟨nV,_⟩|⟨cM,mf,mg,oC,adS,il,bS,mi,hdiv,ai⟩
   ·rcases au with ⟨au,_⟩|au<;>omega
   ·rcases au with ⟨_,rfl⟩|au
    ·exact ⟨_,ai,hle,hle,gF,rfl,il,mi,hdiv⟩
    ·omega
   ·rcases au with ⟨_,rfl⟩|au<;>omega
   ·rcases au with ⟨au,_⟩|au<;>(rw[nV] at au;simp only[cJ] at au;omega)
   ·have EU:cM=k:=by rcases au with ⟨au,_⟩|au<;>omega
    subst EU;exact ⟨_,ai,avz oC il,il,adS,rfl,bS,mi,hdiv⟩
  obtain ⟨ij,eg,hle,wG,gF,e7,il,mi,hdiv⟩:=hex;have k5:(avC au7 l ij (bD.map cO) (aj.map cO) au8).run P w= .ok (n,cu,ij) w:=by
   cases bD with
   |none=>
    simp only[n4] at dZ;subst dZ;cases aj with
    |none=>simp only[lO] at dy;subst dy;simp[avC]
    |some y=>obtain ⟨k,aI⟩:=dy;have:=hk.gK (bP y (by simp[h,avi])) aI;simp[avC,this,av3,asIntOf,show cu<=ij by omega]
   |some u=>
    obtain ⟨k,hu⟩:=dZ;have kz:=hk.gK (bP u (by simp[h,avi])) hu;cases aj with
    |none=>simp only[lO] at dy;subst dy;simp[avC,kz,av3,asIntOf,U]
    |some y=>obtain ⟨cM,aI⟩:=dy;have:=hk.gK (bP y (by simp[h,avi])) aI;simp[avC,this,kz,av3,asIntOf,U,show cu<=ij by omega]
  have jw:(execOp cO o).run P w= .ok (.value (.slice (au6 ⟨q.aS,q.dS+off+n*i.size,au8⟩) (cu - n) (ij - n))) w:=by simp only[execOp,h,awN,avH,eZ aw,avB,aw9,awO,eg,k5,iw eh,avM];congr 3;rw[if_neg (by omega)];simp[mT]
  refine ⟨_,jw,⟨q,rfl,aZ, .inr (.inr (.inr (.inr ⟨k - n,rfl,by omega,by omega,gF, ?_,il, ?_, ?_, ?_⟩)))⟩⟩
  ·show k - n<=q.cap - (off+n*i.size) / q.es;rw[b9,axv _ _ gF];omega
  ·show (off+n*i.size)%q.es=0;rw[b9,Nat.add_mul_mod_self_right];exact mi
  ·show (off+n*i.size) / q.es<=q.cap;rw[b9,axv _ _ gF];omega
  ·show _=au9.slice (au6 ⟨q.aS,q.dS+(off+n*i.size),au8⟩) (cu - n) (q.cap - (off+n*i.size) / q.es);rw[b9,axv _ _ gF,<-avZ,e7,<-b9];congr 1;omega
 |str s t x e b off l c cs h aC he aw ae ab=>
  have cC:=bP x (by simp[h,avi]);rw[ae] at cC;obtain ⟨q,_,aZ,ai⟩:=cC.slice;obtain ⟨ds,az,a1,k6⟩:=zm cl aZ _ _ _ ab;have m9:ds=cs.map fun u=> .int .u8 u.toNat:=br.wo (p:=cP) (fun a b=>zA (j:=j)) (by simp[cP]) az;subst m9;refine ⟨.string ⟨cs.toArray⟩, ?_,rfl⟩;have key:∀(a':Addr) (ij:Nat),cO x= .slice (au6 a') l ij->(a'=⟨q.aS,q.dS+off,au8⟩\/l=0)->(execOp cO o).run P w= .ok (.value (.string ⟨cs.toArray⟩)) w:=by
   intro a' ij eg ao;have qf:(loadCells a' l).run P w= .ok ((cs.map fun u=>awn .u8 (u.toNat:Int)).toArray) w:=by
    rcases ao with rfl|ao
    ·exact zn a1 k6
    ·subst ao;have:cs=[]:=by simpa using a1
     subst this;exact WO
   have ag:(axK (.slice (au6 a') l ij)).run P w= .ok (.string ⟨cs.toArray⟩) w:=by simp only[axK,avH,qf,avB,List.forIn_toArray];rw[WG (P:=P) w cs ByteArray.empty _ (fun u s=>by simp[aqS])];simp[ByteArray.empty,ByteArray.emptyWithCapacity];rfl
   simp[execOp,h,convert,eZ aC,eZ aw,eg,eZ he,ag]
  rcases ai with ⟨_,ai⟩|⟨_,_,_,_,_,_,ai⟩|⟨_,gd,o',ai⟩|⟨_,gd,a',ai⟩|⟨_,_,_,_,_,_,_,_,_,ai⟩
  ·exact key _ _ ai (.inl rfl)
  ·exact key _ _ ai (.inl rfl)
  ·exact key _ 0 (by rw[ai,gd]) (.inr gd)
  ·exact key a' 0 (by rw[ai,gd]) (.inr gd)
  ·exact key _ _ ai (.inl rfl)
 |vL s t x e l c h aC he aw ae=>have cC:=bP x (by simp[h,avi]);rw[ae] at cC;have eg:=cC.kH;refine ⟨.string .empty, ?_,rfl⟩;simp[execOp,h,convert,eZ aC,eZ aw,eg,eZ he,axK]
 |lookup fq x cL ok u bi bg b L E i z kJ t hf h g9 hu ae lF rr K bb au a5 aj a4 db az=>
  have cC:=bP x (by simp[h,avi]);have eg:=xj bb (bP cL (by simp[h,avi]));have core:∃(es:Array MapEntry),br (sf P j bi bg) E es.toList/\((∃r clock,cO x= .map (au6 r)/\w.heap[r]? =au6 (.map es clock))\/(cO x= .map au8/\es=#[])):=by
   rcases ae with ⟨ae,hm,a0⟩|⟨ae,rfl⟩
   ·rw[ae] at cC;obtain ⟨q,aZ,ai⟩:∃q,j b=au6 q/\cO x= .map (au6 q.aS):=cC;obtain ⟨hN,hP,cs,clock,E',aU,aQ,bT,cT,_⟩:=cl.map b q L u aZ hm;have sK:hN=bi/\hP=bg:=by rw[hu] at aQ;simpa using aQ.symm
    obtain ⟨rfl,rfl⟩:=sK;have:=nH.Rd lF a0 bT;subst this;exact ⟨cs,cT, .inl ⟨_,_,ai,aU⟩⟩
   ·rw[ae] at cC;exact ⟨#[],avo, .inr ⟨cC,rfl⟩⟩
  obtain ⟨es,cT,ai⟩:=core;have mJ:=K.find (af cL) es.toList w au (O4 cT a5);have kt:=K.check es.isEmpty (af cL) w au;have U3:=az.find 0 cT;rcases ai with ⟨r,clock,ai,aU⟩|⟨ai,rfl⟩
  ·rcases U3 with ⟨rfl,n,ba,U,aa⟩|⟨rfl,rfl,U⟩
   ·rw[U] at mJ;cases ok with
    |false=>exact ⟨ba,by simp[execOp,h,aw',eZ g9,ai,xt aU,eg,kt,mJ],cN.uW aa⟩
    |true=>exact ⟨.tuple #[ba, .bool au7],by simp[execOp,h,aw',eZ g9,ai,xt aU,eg,kt,mJ],⟨_,rfl,aa,e5.pA rfl,avo⟩⟩
   ·rw[U] at mJ;cases ok with
    |false=>exact ⟨kJ,by simp[execOp,h,aw',eZ g9,ai,xt aU,eg,kt,mJ,mQ aj a4],cN.uW (w4 db)⟩
    |true=>exact ⟨.tuple #[kJ, .bool ava],by simp[execOp,h,aw',eZ g9,ai,xt aU,eg,kt,mJ,mQ aj a4],⟨_,rfl,w4 db,e5.pA rfl,avo⟩⟩
  ·rcases U3 with ⟨rfl,n,ba,U,aa⟩|⟨rfl,rfl,U⟩
   ·simp[ns] at U
   ·rw[U] at mJ;simp only[List.isEmpty_toArray,List.isEmpty_nil] at kt mJ;have kt:=K.check au7 (af cL) w au;cases ok with
    |false=>exact ⟨kJ,by simp[execOp,h,aw',eZ g9,ai,eg,kt,mJ,mQ aj a4],cN.uW (w4 db)⟩
    |true=>exact ⟨.tuple #[kJ, .bool ava],by simp[execOp,h,aw',eZ g9,ai,eg,kt,mJ,mQ aj a4],⟨_,rfl,w4 db,e5.pA rfl,avo⟩⟩
end Go.av
end
section
namespace Go.av
def bH.up (j:bH) (n:Nat) (e:j5):bH:=fun b=>if b=n then au6 e else j b
theorem Rel.Oy {P:avd} {j:bH} {m:Mem} {w:World} (h:Rel P j m w):j m.next=au8:=by
 cases aZ:j m.next with
 |none=>rfl
 |some e=>exact absurd (h.lt _ _ aZ).1 (awP _)
theorem bH.CY {j:bH} {n:Nat} {e:j5} (a1:j n=au8):∀b x,j b=au6 x->j.up n e b=au6 x:=by
 grind [bH.up]
theorem Rel.push {P:avd} {j:bH} {m:Mem} {w w':World} (h:Rel P j m w) {X:bo} {e:j5} {ob:Obj}
  (hw:w'.heap=w.heap.push ob) (aeH:w'.os=w.os) (ae4:w'.tape=w.tape) (rj:w'.output=w.output) (he:e.aS=w.heap.size)
  (cC:oj P j e (au6 ob) X):Post P j m w (j.up m.next e) (m.push X) w':=by
 have a1:=h.Oy;have hle:=bH.CY (e:=e) a1;have hold:∀c,c<w.heap.size->w'.heap[c]? =w.heap[c]? :=fun c ai=>by grind
 have N7:w'.heap.size=w.heap.size+1:=by grind
 have mj:w'.heap[w.heap.size]? =au6 ob:=by grind
 have gb:∀b,b≠m.next->(m.push X).aS b=m.aS b:=fun b ag=>by grind [Mem.push]
 have rl:(m.push X).aS m.next=X:=by simp[Mem.push]
 have fO:∀b x,j.up m.next e b=au6 x->b≠m.next->j b=au6 x:=fun b x ag ev=>by grind [bH.up]
 refine Post.of h ⟨?_, ?_, ?_⟩ ⟨aeH,ae4,rj,by omega,fun c ai _=>hold c ai⟩ (by simp[Mem.push]) ?_ ?_ ?_ (fun b ag gv=>by grind)
 ·intro b x ag;by_cases gj:b=m.next
  ·subst gj;have:x=e:=by grind [bH.up]
   subst this;exact ⟨by simp[Mem.push],by omega⟩
  ·have:=h.lt b x (fO b x ag gj)
   grind [Mem.push]
 ·intro b x ag;by_cases gj:b=m.next
  ·subst gj;have:x=e:=by grind [bH.up]
   subst this;rw[rl,he,mj];exact cC.mono hle
  ·have jR:=fO b x ag gj;rw[gb b gj,hold _ (h.lt b x jR).2];exact (h.obj b x jR).mono hle
 ·intro b cB x hj ag ek ao gv lJ;by_cases gj:b=m.next
  ·by_cases mc:cB=m.next
   ·grind
   ·have ae:x=e:=by grind [bH.up]
    have:=(h.lt cB hj (fO cB hj ek mc)).2
    grind
  ·have jR:=fO b x ag gj;by_cases mc:cB=m.next
   ·have ae:hj=e:=by grind [bH.up]
    have:=(h.lt b x jR).2
    grind
   ·rw[gb b gj] at ao;rw[gb cB mc] at gv;exact h.inj b cB x hj jR (fO cB hj ek mc) ao gv lJ
 ·grind [bH.up]
 ·intro b x ag gU;by_cases gj:b=m.next
  ·grind [bH.up]
  ·exact absurd (h.lt b x (fO b x ag gj)).1 (awu.2 gU)
 grind
theorem Rel.kill {P:avd} {j:bH} {m:Mem} {w:World} (h:Rel P j m w) (b:Nat):Post P j m w j (m.put b .dead) w:=by
 have gb:∀c x,(m.put b .dead).aS c=x->(x≠ .dead)->m.aS c=x:=by
  grind [Mem.put]
 refine Post.of h ⟨h.lt, ?_, ?_⟩ (q1.refl j m w) (avm _) (fun _ _=>rfl) ?_ ?_ (fun c ai gv=>by
  have bu:m.aS c=(m.put b .dead).aS c:=by refine gb c _ rfl ?_;intro aO;rw[aO] at gv;cases gv
  grind)
 ·intro c x ai;by_cases aO:(m.put b .dead).aS c= .dead
  ·rw[aO];trivial
  ·rw[<-gb _ _ rfl aO];exact h.obj c x ai
 ·intro c bQ x hj ai wC ao az lJ;have bu:m.aS c=(m.put b .dead).aS c:=by
   refine gb c _ rfl ?_;intro aO;rw[aO] at ao;cases ao
  have e2:m.aS bQ=(m.put b .dead).aS bQ:=by refine gb bQ _ rfl ?_;intro aO;rw[aO] at az;cases az
  exact h.inj c bQ x hj ai wC (by grind) (by grind) lJ
 ·intro c e ai a1;exact absurd (h.lt c e ai).1 (awu.2 a1)
 ·intro c ai ao;have bu:m.aS c=(m.put b .dead).aS c:=by
   refine gb c _ rfl ?_;intro aO;rw[aO] at ao;cases ao
  grind
def jY (w:World) (c:Nat) (cs:Array au9) (t:ave) (bl:Nat×Nat):World:={w with heap:=w.heap.setIfInBounds c (.cells cs t bl)}
theorem OV {w:World} {c:Nat} {cs:Array au9} {t:ave} {bl:Nat×Nat} {x:Nat} (ae:x≠c):(jY w c cs t bl).heap[x]? =w.heap[x]? :=by
 grind [jY]
theorem OU {w:World} {c:Nat} {cs:Array au9} {t:ave} {bl:Nat×Nat} (ai:c<w.heap.size):(jY w c cs t bl).heap[c]? =au6 (.cells cs t bl):=by
 grind [jY]
def qM (w:World) (c:Nat) (o:Obj):World:={w with heap:=w.heap.setIfInBounds c o}
theorem XJ {w:World} {c:Nat} {o:Obj} {x:Nat} (ae:x≠c):(qM w c o).heap[x]? =w.heap[x]? :=by
 grind [qM]
theorem ajr {w:World} {c:Nat} {o:Obj} (ai:c<w.heap.size):(qM w c o).heap[c]? =au6 o:=by
 grind [qM]
theorem Rel.mY {P:avd} {j:bH} {m:Mem} {w:World} (h:Rel P j m w) {b:Nat} {e:j5} {X:bo} {ob:Obj} (aZ:j b=au6 e) (NV:(m.aS b).ig=au7) (cC:oj P j e (au6 ob) X) (atC:X.ig=au7):
  Post P j m w j (m.put b X) (qM w e.aS ob):=by
 have bS:=(h.lt b e aZ).2;have uC:(m.aS b).live=au7:=by grind [bo.ig,bo.live]
 have ev:∀c x,j c=au6 x->(m.aS c).live=au7->c≠b->x.aS≠e.aS:=fun c x ai az fj sR=>fj (h.inj b c e x aZ ai NV az sR.symm).symm;have gb:∀c,c≠b->(m.put b X).aS c=m.aS c:=fun c ai=>by grind [Mem.put]
 have rl:(m.put b X).aS b=X:=by simp[Mem.put]
 have N7:(qM w e.aS ob).heap.size=w.heap.size:=by simp[qM]
 refine Post.of h ⟨?_, ?_, ?_⟩ ⟨rfl,rfl,rfl,by grind, ?_⟩ (avm _) (fun _ _=>rfl) ?_ ?_ (fun c ai gv=>by
  grind)
 ·intro c x ai;have:=h.lt c x ai;exact ⟨this.1,by grind⟩
 ·intro c x ai;by_cases fj:c=b
  ·grind [ajr]
  ·rw[gb c fj];cases az:(m.aS c).live with
   |false=>
    cases ag:m.aS c<;>simp[ag,bo.live] at az
    trivial
   |true=>rw[XJ (ev c x ai az fj)];exact h.obj c x ai
 ·intro c bQ x hj ai wC ao gv lJ;have bu:(m.aS c).ig=au7:=by
   grind
  have e2:(m.aS bQ).live=au7:=by
   grind
  exact h.inj c bQ x hj ai wC bu e2 lJ
 ·grind [XJ]
 ·intro c x ai gU;exact absurd (h.lt c x ai).1 (awu.2 gU)
 grind
theorem Rel.write {P:avd} {j:bH} {m:Mem} {w:World} (h:Rel P j m w) {b:Nat} {e:j5} {L L':List au9} {t:ave} {cs cs':Array au9} {bl:Nat×Nat} (aZ:j b=au6 e) (ag:m.aS b= .own L t)
  (hw:w.heap[e.aS]? =au6 (.cells cs t bl)) (aC:cs'.size=cs.size) (az:L'.length<=e.cap*e.es) (ab:∀(i:Nat) (v:au9),L'[i]? =au6 v->∃ba,cs'[e.dS+i]? =au6 ba/\dC j v ba):
  Post P j m w j (m.put b (.own L' t)) (jY w e.aS cs' t bl):=by
 obtain ⟨p7,wv,aU,aQ,bT,cT,eL,gX⟩:=h.own b e L t aZ ag;have ie:p7=cs/\wv=bl:=by grind
 obtain ⟨rfl,rfl⟩:=ie;exact h.mY aZ (by rw[ag];rfl) ⟨cs',wv,rfl,by grind,bT,by grind,az,ab⟩ rfl
theorem Rel.reuse {P:avd} {j:bH} {m:Mem} {w:World} (h:Rel P j m w) {b:Nat} {e e2:j5} {L L':List au9} {t:ave} {cs cs':Array au9} {bl:Nat×Nat} (aZ:j b=au6 e) (ag:m.aS b= .own L t)
  (hw:w.heap[e.aS]? =au6 (.cells cs t bl)) (aC:cs'.size=cs.size) (adQ:e2.aS=e.aS) (sG:e2.es=e.es) (atK:e2.dS+e2.cap*e2.es<=cs.size) (az:L'.length<=e2.cap*e2.es) (ab:∀(i:Nat) (v:au9),L'[i]? =au6 v->∃ba,cs'[e2.dS+i]? =au6 ba/\dC j v ba):
  Post P j m w (j.up m.next e2) ((m.put b .dead).push (.own L' t)) (jY w e.aS cs' t bl):=by
 have bS:=(h.lt b e aZ).2;have a1:=h.Oy;have hle:=bH.CY (e:=e2) a1;have NV:(m.aS b).ig=au7:=by rw[ag];rfl
 have ev:∀c x,j c=au6 x->(m.aS c).live=au7->c≠b->x.aS≠e.aS:=fun c x ai az fj sR=>fj (h.inj b c e x aZ ai NV az sR.symm).symm;have gj:b<m.next:=(h.lt b e aZ).1;have aeq:(m.put b .dead).next=m.next:=rfl;have gb:∀c,c≠b->c≠m.next->((m.put b .dead).push (.own L' t)).aS c=m.aS c:=fun c ai wC=>by simp_all [Mem.put,Mem.push]
 have yQ:((m.put b .dead).push (.own L' t)).aS b= .dead:=by simp[Mem.put,Mem.push,show b≠m.next by omega]
 have aep:((m.put b .dead).push (.own L' t)).aS m.next= .own L' t:=by simp[Mem.put,Mem.push]
 have fO:∀b x,j.up m.next e2 b=au6 x->b≠m.next->j b=au6 x:=fun b x ag ev=>by grind [bH.up]
 obtain ⟨p7,wv,aU,aQ,bT,cT,eL,gX⟩:=h.own b e L t aZ ag;have ie:p7=cs/\wv=bl:=by grind
 obtain ⟨rfl,rfl⟩:=ie;have N7:(jY w e.aS cs' t wv).heap.size=w.heap.size:=by simp[jY]
 refine Post.of h ⟨?_, ?_, ?_⟩ ⟨rfl,rfl,rfl,by grind, ?_⟩ (by grind [Mem.push]) ?_ ?_ ?_ (fun c ai gv=>by
  by_cases fj:c=b
  ·subst fj;rw[ag];rfl
  grind)
 ·intro c x ai;by_cases ku:c=m.next
  ·grind [bH.up,Mem.push]
  ·have:=h.lt c x (fO c x ai ku)
   grind [Mem.push]
 ·intro c x ai;by_cases ku:c=m.next
  ·subst ku;have ae:x=e2:=by grind [bH.up]
   subst ae;rw[aep,adQ,OU bS];refine ⟨cs',wv,rfl,by grind,by grind,by grind,az,fun i v aj=> ?_⟩;obtain ⟨ba,dn,dA⟩:=ab i v aj;exact ⟨ba,dn,dA.mono hle⟩
  ·by_cases fj:c=b
   ·subst fj;rw[yQ];trivial
   ·have ER:=fO c x ai ku;rw[gb c fj ku];cases uC:(m.aS c).live with
    |false=>
     cases Nm:m.aS c<;>simp[Nm,bo.live] at uC
     trivial
    |true=>rw[OV (ev c x ER uC fj)];exact (h.obj c x ER).mono hle
 ·intro c bQ x hj ai wC ao gv lJ;have fj:c≠b:=by intro bL;subst bL;rw[yQ] at ao;cases ao
  have adD:bQ≠b:=by intro bL;subst bL;rw[yQ] at gv;cases gv
  by_cases ku:c=m.next
  ·grind [bH.up]
  ·rw[gb c fj ku] at ao;have ER:=fO c x ai ku;by_cases UY:bQ=m.next
   ·grind [bH.up,bo.ig,bo.live]
   ·rw[gb bQ adD UY] at gv;exact h.inj c bQ x hj ER (fO bQ hj wC UY) ao gv lJ
 ·grind [OV]
 ·grind [bH.up]
 ·intro c x ai gU;by_cases ku:c=m.next
  ·grind [bH.up]
  ·exact absurd (h.lt c x (fO c x ai ku)).1 (awu.2 gU)
 grind
end Go.av
end
section
namespace Go.av
structure yd (P:avd) (j:bH) (w w':World) (X:bo) (e:j5) (ob:Obj):Prop where
 heap:w'.heap=w.heap.push ob
 os:w'.os=w.os
 tape:w'.tape=w.tape
 output:w'.output=w.output
 aS:e.aS=w.heap.size
 obj:oj P j e (au6 ob) X
 own:X.ig=au7
theorem yd.cells {P:avd} {j:bH} {w w':World} {L:List au9} {t:ave} {e:j5} {cs:Array au9} {bl:Nat×Nat} (U:w'.heap=w.heap.push (.cells cs t bl)) (aa:w'.os=w.os) (ap:w'.tape=w.tape) (aN:w'.output=w.output) (bK:e.aS=w.heap.size)
  (ed:∀i:Nat,i<cs.size->¬(bl.1<=i/\i<bl.2)) (hg:P.cellsOf t=e.es) (jP:cs.size=e.cap*e.es) (nS:L.length<=cs.size) (yD:∀(i:Nat) (v:au9),L[i]? =au6 v->∃ba,cs[i]? =au6 ba/\dC j v ba) (Nd:e.dS=0:=by rfl):yd P j w w' (.own L t) e (.cells cs t bl):=
 ⟨U,aa,ap,aN,bK,⟨cs,bl,rfl,ed,hg,by grind,by grind,fun i v aj=>by grind⟩,rfl⟩
theorem br.Re {R:au9->au9->Prop} {L:List au9} {cs:Array au9} (h:br R L cs.toList):L.length=cs.size/\∀(i:Nat) (v:au9),L[i]? =au6 v->∃ba,cs[i]? =au6 ba/\R v ba:=
 ⟨by simpa using h.length,fun i v aj=>by obtain ⟨b,ag,aE⟩:=h.get i v aj;grind⟩
theorem Ah {n:Nat}:∀i:Nat,i<n->¬(((0,0):Nat×Nat).1<=i/\i<((0,0):Nat×Nat).2):=fun i _ h=>absurd h.2 (Nat.not_lt_zero i)
theorem u2 {P:avd} {t:ave} {i:TypeInfo} (h:P.info? t=au6 i):P.cellsOf t=i.size:=by grind [awg]
theorem Qh:awE 0=#[]:=by rfl
theorem Gb (z:Array au9) (l:Nat):((awE (l*z.size)).map (fun k=>z[k%z.size]!)).toList=(avw l z.toList).flatten:=by
 induction l with
 |zero=>simp
 |succ l ar=>
  have e:awE ((l+1)*z.size)=awE (l*z.size)++((awE z.size).map (l*z.size+·)):=by rw[avL,Nat.one_mul,Array.range_add]
  rw[e,Array.map_append,axL,ar,List.replicate_succ',List.flatten_append];congr 1;simp only[List.flatten_cons,List.flatten_nil,List.append_nil,Array.map_map];apply aww;intro i;simp only[awD,awb,Array.toList_range,List.getElem?_range];by_cases aj:i<z.size
  ·simp_all [Nat.mod_eq_of_lt]
  grind
theorem F2 {j:bH} {L:List au9} (h:L.all cP=au7):br (dC j) L L:=br.self (fun _=>nq) h
theorem xe {z:List au9} (h:z.all cP=au7) (l:Nat):(avw l z).flatten.all cP=au7:=by
 grind
theorem Yl {P:avd} {j:bH} {af cO:avf->au9} {o:Oper} {n:Nat} {X:bo} {v:au9} (h:iy P af o n X v) (bP:hk j af cO o) (w:World):
  ∃ba w' e ob,(execOp cO o).run P w= .ok (.value ba) w'/\yd P j w w' X e ob/\∀b0:bH,b0 n=au6 e->cN b0 v ba:=by
 cases h with
 |alloc t i z h aj a4 db aC=>
  have kd:=(F2 (j:=j) db).Re;refine ⟨.pointer (au6 ⟨w.heap.size,0,au8⟩),w.alloc (.cells z.cells t),⟨w.heap.size,1,i.size,0⟩,_, ?_,
   .cells rfl rfl rfl rfl rfl Ah (u2 aj) (by grind) (by simp) kd.2,fun b0 aZ=>⟨_,rfl,aZ,rfl⟩⟩
  simp_all [execOp,Instr.alloc,mQ,newVar,newRow]
 |box t x i h aj ab aC=>
  have cC:=cN.storable (bP x (by grind [avi])) ab;have kd:=cC.cells.Re;refine ⟨.pointer (au6 ⟨w.heap.size,0,au8⟩),w.alloc (.cells (cO x).cells t),⟨w.heap.size,1,i.size,0⟩,_, ?_,
   .cells rfl rfl rfl rfl rfl Ah (u2 aj) ?_ ?_ kd.2,fun b0 aZ=>⟨_,rfl,aZ,rfl⟩⟩
  ·simp[execOp,h,Instr.box,newVar,newRow]
  ·grind
  grind
 |buildSlice t l cn e i z cs h aw aj a4 db dV sC sL ai=>
  have aa:=hk.Oq (j:=j) (af:=af) (cO:=cO) (o:=o) cn.toList (fun p aM=>bP p.2 (by
   grind [avi]))
  have yL:br (dC j) (avw l z.cells.toList).flatten ((awE (l*i.size)).map (fun k=>z.cells[k%z.cells.size]!)).toList:=by
   grind [Gb,F2]
  obtain ⟨ds,m9,aE⟩:=FL (j:=j) _ _ _ _ cs aa yL ai;have kd:=aE.Re;have hlen:cs.length=l*i.size:=by
   have:∀(cn:List (Nat×au9)) (L cs:List au9) (pl:Nat->Option (Nat×Nat)),jm pl L cn=au6 cs->cs.length=L.length:=by
    intro cn;induction cn with
    |nil=>grind [jm]
    |cons p cn ar=>
     grind [jm,nn]
   rw[this _ _ _ _ ai];simp_all
  have y1:(cn.map fun (i,x)=>(i,cO x)).toList=cn.toList.map fun p=>(p.1,cO p.2):=by simp
  refine ⟨.slice (au6 ⟨w.heap.size,0,au8⟩) l l,w.alloc (.cells ds e),⟨w.heap.size,l,i.size,0⟩,_, ?_,
   .cells rfl rfl rfl rfl rfl Ah (u2 aj) (by grind) (Nat.le_of_eq kd.1) kd.2,fun b0 aZ=>⟨_,rfl,aZ, .inl ⟨sL,rfl⟩⟩⟩
  by_cases afj:l*i.size=0
  ·have k6:Instr.fill (fun k=>au6 (k*i.size,i.size)) ((awE 0).map (fun k=>(#[]:Array au9)[k%0]!)) (cn.toList.map fun p=>(p.1,cO p.2))=au6 ds:=by
    grind
   simp only[execOp,h,Instr.buildSlice,avH,eZ aw,avB,iw aj];simp only[afj];simp[Qh] at k6;simp[k6,y1,newRow,Qh]
  ·simp only[execOp,h,Instr.buildSlice,avH,eZ aw,avB,iw aj];simp_all [mQ,newRow]
 |makeSlice t x y l c k cM e i z h aw aj a4 db dV ae aI qf ag ai=>
  have cC:=bP x (by grind [avi]);rw[ae] at cC;have eg:=cC.int;have hX:=bP y (by grind [avi]);rw[aI] at hX;have kv:=hX.int;have kd:=(F2 (j:=j) (xe db c)).length;have afd:avb.i64.wrap (l:Int)=(l:Int):=IntWalk.i64_in _ (by omega);have afc:avb.i64.wrap (c:Int)=(c:Int):=IntWalk.i64_in _ (by omega);have nU:(i.bytes:Int)*(c:Int)<=140737488355328:=by
   grind
  refine ⟨.slice (au6 ⟨w.heap.size,0,au8⟩) l c,w.alloc (.cells ((awE (c*i.size)).map (fun k=>z.cells[k%z.cells.size]!)) e),⟨w.heap.size,c,i.size,0⟩,_, ?_,
   .cells rfl rfl rfl rfl rfl Ah (u2 aj) (by simp) ?_ ?_,fun b0 aZ=>⟨_,rfl,aZ, .inl ⟨ai,rfl⟩⟩⟩
  ·have sQ:∀q:Int,0<=q->q<=c->(decide (q<0)||decide ((i.bytes:Int)*q>2 ^ 48))=ava:=by
    intro q bf U;have:(i.bytes:Int)*q<=(i.bytes:Int)*c:=Int.mul_le_mul_of_nonneg_left U (by omega)
    grind
   have aC:(Instr.makeSlice t (.int k l) (.int cM c)).run P w= .ok (.slice (au6 ⟨w.heap.size,0,au8⟩) l c) (w.alloc (.cells ((awE (c*i.size)).map (fun k=>z.cells[k%z.cells.size]!)) e)):=by
    simp only[Instr.makeSlice,avH,eZ aw,avB,asInt,asIntOf,avM,tk aj,afd,afc];rw[sQ c (by omega) (by omega)];have U:¬((l:Int)<0):=by omega
    have aa:¬((l:Int)>(c:Int)):=by omega
    simp only[U,aa,decide_false,Bool.or_self,axw,if_false,avH,run_askRoom,avB,Int.toNat_natCast,iw aj,avM];simp_all [newRow,Qh,mQ]
   simp_all [execOp]
  ·simp_all
  grind [Gb,xe,nq]
 |bytes s t x e i b h aC aw he aj jE ae ag=>
  have cC:=bP x (by grind [avi]);rw[ae] at cC;have eg:=cC.str
  let cap:=(Question.appendCap b.size 0 e).cut (w.tape w.drawn (.appendCap b.size 0 e))
  have il:b.size<=cap/\cap<cJ:=by
   have bS:=Nat.mod_lt (w.tape w.drawn (.appendCap b.size 0 e)) (show 0<2 ^ 63 - b.size by omega)
   grind [Question.cut,cJ]
  let row:Array au9:=b.data.map (fun u=> .int .u8 u.toNat)++av1 (cap - b.size) (.int .u8 0)
  have Vq:row.size=cap:=by simp[row];grind
  refine ⟨.slice (au6 ⟨w.heap.size,0,au8⟩) b.size cap,(w.drew.alloc (.cells row e)).freeze {block:=w.heap.size,off:=cap} 1,⟨w.heap.size,cap,1,0⟩,Obj.cells row e (cap,cap+1), ?_,
   .cells ?_ ?_ ?_ ?_ rfl ?_ (by grind [u2]) (by grind) ?_ ?_,fun b0 aZ=>⟨_,rfl,aZ, .inr (.inl ⟨rfl,Nat.one_pos, ?_,il.2, ?_, ?_, ?_⟩)⟩⟩
  ·have aug:(Conv.stringToBytes e b).run P w= .ok (.slice (au6 ⟨w.heap.size,0,au8⟩) b.size cap) ((w.drew.alloc (.cells row e)).freeze {block:=w.heap.size,off:=cap} 1):=by
    simp only[Conv.stringToBytes,avH,run_choose,axx,axw,if_false,avB,newRow,run_newObj,avM,markStringish,run_shape];have auh:(w.drew.alloc (.cells row e)).heap[w.heap.size]? =au6 (.cells row e):=by show (w.heap.push (Obj.cells row e))[w.heap.size]? =_;simp
    have rm:((w.drew.alloc (.cells row e)).shape? w.heap.size)=au6 (e,row.size):=by grind [World.shape?]
    show (axm (Sem.run P (match (w.drew.alloc (.cells row e)).shape? w.heap.size with|some (_,n)=>freeze {block:=w.heap.size,off:=n} 1|_=>pure ()) (w.drew.alloc (.cells row e))) _)=_;rw[rm];simp[Vq];rfl
   simp_all [execOp,convert,eZ]
  ·grind [World.freeze,World.alloc,World.drew]
  ·rfl
  ·rfl
  ·rfl
  ·grind
  ·grind
  ·intro a v aY;refine ⟨v, ?_, ?_⟩
   ·grind
   ·simp only[awb] at aY;cases bd:b.data.toList[a]? with
    |none=>grind
    |some u=>simp[bd] at aY;subst aY;rfl
  ·grind
  ·rfl
  ·simp
  grind
 |makeMap t bi bg h aw=>refine ⟨.map (au6 w.heap.size),w.alloc (.map #[] 0),⟨w.heap.size,0,0,0⟩,_, ?_,⟨rfl,rfl,rfl,rfl,rfl,⟨bi,bg,#[],0,[],rfl,aw,⟨rfl,fun p aM=>by grind⟩,avo,⟨by simp,fun x ae=>by grind⟩⟩,rfl⟩,fun b0 aZ=>⟨_,aZ,rfl⟩⟩;simp[execOp,h,Instr.makeMap]
theorem ajh {P:avd} {j:bH} {af cO:avf->au9} {o:Oper} {m:Mem} {w:World} {X:bo} {v:au9} (h:iy P af o m.next X v) (bP:hk j af cO o) (cl:Rel P j m w):
  ∃ba w' b0,(execOp cO o).run P w= .ok (.value ba) w'/\Post P j m w b0 (m.push X) w'/\cN b0 v ba:=by
 obtain ⟨ba,w',e,ob,aE,a1,ab⟩:=Yl h bP w;exact ⟨ba,w',j.up m.next e,aE,cl.push a1.heap a1.os a1.tape a1.output a1.aS a1.obj,ab _ (by simp[bH.up])⟩
end Go.av
end
section
namespace Go.av
theorem FF {w:World} {c:Nat} {cs:Array au9} {t:ave} {bl:Nat×Nat} (h:w.heap[c]? =au6 (.cells cs t bl)):jY w c cs t bl=w:=by
 have:w.heap.setIfInBounds c (.cells cs t bl)=w.heap:=by
  grind
 simp_all [jY]
theorem ais {w:World} {c:Nat} {cs cs':Array au9} {t:ave} {bl:Nat×Nat}:jY (jY w c cs t bl) c cs' t bl=jY w c cs' t bl:=by
 simp[jY]
theorem ain {w:World} {c o:Nat} {cs:Array au9} {t:ave} {bl:Nat×Nat} {v:au9} (h:w.heap[c]? =au6 (.cells cs t bl)):w.setCell ⟨c,o,au8⟩ v=jY w c (cs.setIfInBounds o v) t bl:=by
 have:(w.setCell ⟨c,o,au8⟩ v).heap=(jY w c (cs.setIfInBounds o v) t bl).heap:=by
  grind [awY,jY]
 grind [awY,jY]
theorem u3 {P:avd} (c o:Nat) (t:ave) (bl:Nat×Nat):∀(vs:List au9) (i:Nat) (cs:Array au9) (w:World),w.heap[c]? =au6 (.cells cs t bl)->(∀k:Nat,k<cs.size->¬(bl.1<=k/\k<bl.2))->
  o+i+vs.length<=cs.size->(∀v∈vs,v.oneCell'=au7)->(storeCells ⟨c,o,au8⟩ vs i).run P w= .ok () (jY w c (e9 cs.toList (o+i) vs).toArray t bl)
 |[],i,cs,w,h,bb,az,U=>by simp_all [storeCells,e9,FF]
 |v::vs,i,cs,w,h,bb,az,U=>by
  simp only[List.length_cons] at az;have bS:=(awB.1 h).1;have ai:w.cell? ⟨c,o+i,au8⟩=au6 cs[o+i]:=by grind [av7]
  have hq:w.frozen? ⟨c,o+i,au8⟩=ava:=by
   have:=bb (o+i) (by omega)
   grind [World.frozen?]
  have ar:=u3 (P:=P) c o t bl vs (i+1) (cs.setIfInBounds (o+i) v) (jY w c (cs.setIfInBounds (o+i) v) t bl) (OU bS) (by grind) (by grind) (fun x ae=>U x (by grind))
  grind [storeCells,avH,mT,run_store,avB,ain,ais,e9]
theorem br.one {j:bH}:∀{L K:List au9},br (dC j) L K->∀v∈K,v.oneCell'=au7
 |[],[],_,v,ab=>by grind
 |a::L,b::K,⟨U,aa⟩,v,ab=>by
  rcases avu.1 ab with rfl|ab
  ·exact U.one
  ·exact br.one aa v ab
 |[],_::_,h,_,_=>h.elim
 |_::_,[],h,_,_=>h.elim
theorem OK {P:avd} {j:bH} {m:Mem} {w:World} (cl:sm P j m w) {a7:Nat} {y jt:au9} {new:List au9} (ab:cN j y jt) (h:ji m a7 y=au6 new):
  (axy jt).run P w= .ok (hZ y) w/\∃ds:List au9,br (dC j) new ds/\(new.length=hZ y*a7->∀k,k<=hZ y->∀w':World,w'.heap=w.heap->(awi a7 k jt).run P w'= .ok (ds.take (k*a7)).toArray w'):=by
 cases y with
 |slice a l c=>
  cases a with
  |none=>have kv:=ab.kH;subst kv;simp only[ji,avl.injEq] at h;subst h;refine ⟨by rfl,[],avo,fun a1 k au w' hw=> ?_⟩;simp[awi]
  |some a=>
   obtain ⟨b,off,spot⟩:=a;obtain ⟨q,aC,aZ,ai⟩:=ab.slice;simp only at aC aZ;subst aC;simp only[ji] at h;obtain ⟨ds,az,a1,k6⟩:=zm cl aZ _ _ _ h;have key:∀(a':Addr) (ij:Nat),jt= .slice (au6 a') l ij->(a'=⟨q.aS,q.dS+off,au8⟩\/l=0)->(axy jt).run P w= .ok (hZ (.slice (au6 ⟨b,off,au8⟩) l c)) w/\
     ∃ds:List au9,br (dC j) new ds/\(new.length=hZ (.slice (au6 ⟨b,off,au8⟩) l c)*a7->∀k,k<=hZ (.slice (au6 ⟨b,off,au8⟩) l c)->∀w':World,w'.heap=w.heap->(awi a7 k jt).run P w'= .ok (ds.take (k*a7)).toArray w'):=by
    intro a' ij kv ao;subst kv;refine ⟨by rfl,ds,az,fun aet k au w' hw=> ?_⟩;simp only[hZ] at au;simp only[awi];have hlen:(ds.take (k*a7)).length=k*a7:=by simp_all
    rcases ao with rfl|ao
    ·grind [zn,av7]
    simp_all [WO]
   rcases ai with ⟨_,ai⟩|⟨_,_,_,_,_,_,ai⟩|⟨_,gd,o',ai⟩|⟨_,gd,a',ai⟩|⟨_,_,_,_,_,_,_,_,_,ai⟩
   ·grind
   ·grind
   ·grind
   ·grind
   grind
 |string s=>
  have kv:=ab.str;subst kv;simp only[ji] at h;split at h
  ·rename_i b9;subst b9;simp only[avl.injEq] at h;subst h;refine ⟨by rfl,s.data.toList.map fun u=> .int .u8 u.toNat,F2 (by simp only[List.all_map,avt,Function.comp];intro u _;rfl),fun a1 k au w' hw=> ?_⟩;simp only[awi,avM,Nat.mul_one,hZ] at au⊢;congr 1;apply awM;simp_all
  grind
 |_=>grind [ji]
inductive DH (P:avd) (w:World) (u:ave) (i:TypeInfo) (jt:au9) (n:Nat) (hW:List au9):Prop where
 |el (hu:(∃b2,P.underlying u=au6 (.slice b2))\/P.underlying u=au6 .string) (az:∀w',(axy jt).run P w'= .ok n w') (bb:∀w',w'.heap=w.heap->(awi i.size n jt).run P w'= .ok hW.toArray w')
 |mk (kk k:avb) (z:au9) (hu:P.underlying u=au6 (.int kk)) (ab:jt= .int k n) (a4:i.zero=au6 z) (b9:0<i.size) (ag:n*i.bytes<=140737488355328) (hm:n<9223372036854775807) (im:hW.toArray=aw0 z.cells n)
theorem aaN (z:Array au9):aw0 z 0=#[]:=by simp[aw0]
theorem w6 {P:avd} {t u ty e:ave} {i:TypeInfo} {base:Option Addr} {l c n:Nat} {jt:au9} {w:World} {hW:List au9} (aw:P.underlying t=au6 (.slice e)) (aj:P.info? e=au6 i)
  (dY:DH P w u i jt n hW) (ai:l+n<=c):
  (awG #[t,u] ty #[.slice base l c,jt]).run P w=
   match base with
   |some a=>((storeCells (a.add (l*i.size)) hW).run P w).andThen fun _ w=> .ok (.slice base (l+n) c) w
   |none=> .ok (.slice base (l+n) c) w:=by
 cases dY with
 |el hu a1 bb=>have a1:=a1 w;have bb:=bb w rfl;rcases hu with ⟨b2,aO⟩|aO<;>cases base<;>simp[awG,eZ aw,eZ aO,iw aj,a1,ai,bb]
 |mk kk k z hu ab a4 b9 ag hm im=>
  subst ab;have bf:avc .i64 (n:Int)=n:=by grind [axa]
  have aN:¬((n:Int)<0):=by omega
  have bK:¬((281474976710656:Int)<(n:Int)*(i.bytes:Int)):=by
   grind
  have jP:¬i.size=0:=by omega
  have yP:hW=(aw0 z.cells n).toList:=by grind
  subst yP;by_cases hg:n=0
  ·subst hg;cases base<;>simp[awG,eZ aw,eZ hu,iw aj,tk aj,mQ aj a4,ai,asInt,asIntOf,aaN,show avc .i64 (0:Int)=0 from rfl]<;>omega
  ·have nS:¬n*i.size=0:=by grind [Nat.mul_eq_zero]
   cases base<;>simp[awG,eZ aw,eZ hu,iw aj,tk aj,mQ aj a4,bf,aN,bK,hg,jP,nS,ai,asInt,asIntOf]
theorem ail {P:avd} {t u ty e:ave} {i:TypeInfo} {z:au9} {base:Option Addr} {l c n:Nat} {jt:au9} {w:World} {dN:Array au9} {hW:List au9} (aw:P.underlying t=au6 (.slice e)) (aj:P.info? e=au6 i) (a4:i.zero=au6 z)
  (dY:DH P w u i jt n hW) (ai:c<l+n) (hm:l+n<9223372036854775807) (ag:(l+n)*i.bytes<=140737488355328)
  (ao:∀w',w'.heap=w.heap->(awi i.size l (.slice base l c)).run P w'= .ok dN w'):
  (awG #[t,u] ty #[.slice base l c,jt]).run P w=
   .ok (.slice (au6 ⟨w.heap.size,0,au8⟩) (l+n) (grownCap w (l+n) c e)) (w.drew.alloc (.cells (dN++hW.toArray++aw0 z.cells (grownCap w (l+n) c e - (l+n))) e)):=by
 have U:¬(l+n<=c):=by omega
 have aa:¬(9223372036854775807<((l:Int)+(n:Int))):=by omega
 have sH:=growslice_fits ai ag;have ap:¬(281474976710656<Builtin.nextslicecap (l+n) c*i.bytes):=by omega
 have ky:=ao w.drew rfl;cases dY with
 |el hu a1 bb=>have pi:=bb w.drew rfl;rcases hu with ⟨b2,aO⟩|aO<;>simp[awG,eZ aw,eZ aO,iw aj,tk aj,mQ aj a4,a1,U,aa,ap,axx,ky,pi,newRow,grownCap]
 |mk kk k z' hu ab qo b9 ek kx im=>
  rw[a4] at qo;cases qo;subst ab;have bf:avc .i64 (n:Int)=n:=by grind [axa]
  have aN:¬((n:Int)<0):=by omega
  have bK:¬((281474976710656:Int)<(n:Int)*(i.bytes:Int)):=by
   grind
  have jP:¬i.size=0:=by omega
  rw[im];by_cases hg:n=0
  ·subst hg;simp only[av2] at U ap;have k3:¬(9223372036854775807<(l:Int)):=by omega
   simp[awG,eZ aw,eZ hu,iw aj,tk aj,mQ aj a4,U,k3,ap,axx,ky,newRow,grownCap,asInt,asIntOf,aaN,show avc .i64 (0:Int)=0 from rfl]
  ·have nS:¬n*i.size=0:=by grind [Nat.mul_eq_zero]
   simp[awG,eZ aw,eZ hu,iw aj,tk aj,mQ aj a4,bf,U,aa,ap,aN,bK,hg,jP,nS,axx,ky,newRow,grownCap,asInt,asIntOf]
end Go.av
end
section
namespace Go.av
theorem aj2 (b o n:Nat):({block:=b,off:=o}:Addr).add n=⟨b,o+n,au8⟩:=mT b o n
theorem zu {j:bH} {L new:List au9} {cs:Array au9} {ds:List au9} {o dS:Nat} (h:∀(i:Nat) (v:au9),L[i]? =au6 v->∃ba,cs[dS+i]? =au6 ba/\dC j v ba) (aO:br (dC j) new ds) (az:o+new.length<=L.length) (cU:dS+L.length<=cs.size):
  ∀(i:Nat) (v:au9),(e9 L o new)[i]? =au6 v->∃ba,(e9 cs.toList (dS+o) ds).toArray[dS+i]? =au6 ba/\dC j v ba:=by
 intro i v aj;have hlen:=aO.length;rw[oQ _ _ _ _ az] at aj;simp only[axb];rw[oQ _ _ _ _ (by grind)];rw[<-hlen];split at aj
 ·rename_i oA;rw[if_pos (by omega),show dS+i - (dS+o)=i - o by omega];exact aO.get _ _ aj
 grind
theorem xh (cs:Array au9) (o:Nat) (ds:List au9):(e9 cs.toList o ds).toArray.size=cs.size:=by simp[nn]
theorem u0 {P:avd} {cO:avf->au9} {o:Oper} {x y:avf} {t u:ave} (h:o.op= .call {callee:= .builtin .append,args:=#[x,y],argTypes:=#[t,u]}) {w w':World} {v:au9}
  (aE:(awG #[t,u] o.type #[cO x,cO y]).run P w= .ok v w'):(execOp cO o).run P w= .ok (.value v) w':=by
 simp_all [execOp,resolve,invoke,builtin]
def z2 (P:avd) (j:bH) (m:Mem) (w:World) (cO:avf->au9) (o:Oper) (v:au9) (m':Mem):Prop:=∃n ba w' b0,(execOp cO o).run P w= .ok n w'/\(n= .value ba\/(n= .skip/\ba=undef))/\Post P j m w b0 m' w'/\cN b0 v ba
theorem aiu {P:avd} {j:bH} {af cO:avf->au9} {o:Oper} {m:Mem} {w:World} {t:ave} {x y:avf} {b off:Nat} {i:TypeInfo} {L:List au9} {e:ave} (h:o.op= .store t x y) (ae:af x= .pointer (au6 ⟨b,off,au8⟩)) (aj:P.info? t=au6 i) (hm:m.aS b= .own L e)
   (ab:storable (af y)=au7) (aC:(af y).cells.size=i.size) (az:off+i.size<=L.length) (bP:hk j af cO o) (cl:Rel P j m w):z2 P j m w cO o undef (m.put b (.own (e9 L off (af y).cells.toList) e)):=by
 have cC:=bP x (by grind [avi]);rw[ae] at cC;obtain ⟨q,_,aZ,ai⟩:=cC.ptr;have hX:=cN.storable (bP y (by grind [avi])) ab;have yN:=hX.cells;obtain ⟨cs,bl,aU,aQ,bT,cT,eL,gX⟩:=cl.own b q L e aZ hm;have a1:(cO y).cells.size=i.size:=by have:=yN.length;grind
 have eX:=u3 (P:=P) q.aS (q.dS+off) e bl (cO y).cells.toList 0 cs w aU aQ (by grind) (br.one yN);simp only[av2] at eX;refine ⟨.skip,undef,_,j, ?_, .inr ⟨rfl,rfl⟩,cl.write aZ hm aU (xh cs _ _) (by grind [nn]) (zu gX yN (by grind) (by omega)), ?_⟩
 ·simp_all [execOp,Instr.storeAt,awW,storeVar,iw]
 ·exact ⟨#[],rfl,avo⟩
theorem Wl {P:avd} {j:bH} {m:Mem} {w:World} (cl:sm P j m w) {a7:Nat} {y jt:au9} {new:List au9} (ab:cN j y jt) (h:ji m a7 y=au6 new) (a1:new.length=hZ y*a7):
  ∃ds:List au9,br (dC j) new ds/\∀w':World,w'.heap=w.heap->(awi a7 (hZ y) jt).run P w'= .ok ds.toArray w':=by
 obtain ⟨_,ds,aO,bb⟩:=OK cl ab h;refine ⟨ds,aO,fun w' hw=> ?_⟩;rw[bb a1 _ (avm _) w' hw,<-a1,aO.length,List.take_length]
theorem aj9 {P:avd} {j:bH} {m:Mem} {w w':World} (h:Rel P j m w) (hw:w'.heap=w.heap):Rel P j m w':=
 ⟨⟨fun b e ag=>by have:=h.lt b e ag;grind,fun b e ag=>by rw[hw];exact h.obj b e ag,h.inj⟩,h.kI.val.keep fun _ _=>by grind,h.kI.sep⟩
theorem ajp {z:au9} (db:z.cells.toList.all cP=au7) (n:Nat):∀v∈(avw n z.cells.toList).flatten,cP v=au7:=by
 grind [xe]
theorem zj {P:avd} {j:bH} {m:Mem} {w:World} (cl:sm P j m w) {u:ave} {i:TypeInfo} {y jt:au9} {n:Nat} {new:List au9} (ab:cN j y jt) (h:qV P m u i y n new) (a1:new.length=n*i.size):
  ∃hW:List au9,br (dC j) new hW/\DH P w u i jt n hW:=by
 cases h with
 |el hu az he=>subst az;obtain ⟨hlen,_⟩:=OK cl ab he;obtain ⟨hW,im,NA⟩:=Wl cl ab he a1;refine ⟨hW,im, .el hu (fun w'=> ?_) NA⟩;have:=hlen;cases kv:jt<;>simp[kv,axy] at this⊢<;>exact this
 |mk kk k z hu aI a4 db dV b9 ag hm mj=>
  subst mj;have kv:jt= .int k n:=by rw[aI] at ab;exact ab.int
  refine ⟨(avw n z.cells.toList).flatten,br.Fx rfl fun a v bI aY ek=> ?_, .mk kk k z hu kv a4 b9 ag hm ?_⟩
  ·grind [nq,ajp]
  ·have:=Gb z.cells n;rw[<-this];rfl
theorem Wh {P:avd} {j:bH} {cO:avf->au9} {o:Oper} {m pw:Mem} {w:World} {x y:avf} {t u e:ave} {i:TypeInfo} {z:au9} {base:Option Addr} {l c n:Nat} {dN new:List au9} {ds hW:List au9}
   (h:o.op= .call {callee:= .builtin .append,args:=#[x,y],argTypes:=#[t,u]})
   (aw:P.underlying t=au6 (.slice e)) (aj:P.info? e=au6 i) (a4:i.zero=au6 z) (dV:z.cells.size=i.size) (b9:0<i.size)
   (ae:cO x= .slice base l c) (dY:DH P w u i (cO y) n hW) (ai:c<l+n)
   (k7:dN.length=l*i.size) (qg:new.length=n*i.size) (aO:br (dC j) dN ds) (im:br (dC j) new hW)
   (yT:∀w',w'.heap=w.heap->(awi i.size l (.slice base l c)).run P w'= .ok ds.toArray w')
   (ag:(l+n)*i.bytes<=140737488355328) (hm:l+n<9223372036854775807) (cl:Rel P j pw w) (aeq:pw.next=m.next):
  ∃ba w' b0,(execOp cO o).run P w= .ok (.value ba) w'/\Post P j pw w b0 (pw.push (.own (dN++new) e)) w'/\cN b0 (.slice (au6 ⟨m.next,0,au8⟩) (l+n) cJ) ba:=by
 have jw:=ail (P:=P) (ty:=o.type) (base:=base) (z:=z) aw aj a4 dY ai hm ag yT
 let cap:=grownCap w (l+n) c e
 have il:l+n<=cap:=grownCap_ge w _ c e;have adC:cap<cJ:=by
  have bS:=Nat.mod_lt (w.tape w.drawn (.appendCap (l+n) c e)) (show 0<2 ^ 63 - (l+n) by omega)
  grind [grownCap,Question.cut,cJ]
 let row:=ds.toArray++hW.toArray++aw0 z.cells (cap - (l+n))
 have bu:=aO.length;have e2:=im.length;have Vq:row.size=cap*i.size:=by
  simp only[row,Array.size_append,List.size_toArray,size_zeroCells,dV];rw[<-bu,<-e2,k7,qg,<-avL,<-avL]
  grind
 have uH:=cl.push (w':=w.drew.alloc (.cells row e)) (X:= .own (dN++new) e) (e:=⟨w.heap.size,cap,i.size,0⟩) (ob:= .cells row e) rfl rfl rfl rfl rfl ⟨row,(0,0),rfl,Ah,u2 aj,by grind,
  (by grind),
  (fun k v au=>by
   have EH:=br.append aO im;obtain ⟨ba,hM,aE⟩:=EH.get k v au
   grind)⟩
 refine ⟨.slice (au6 ⟨w.heap.size,0,au8⟩) (l+n) cap,_,_,u0 h (by grind),uH,⟨⟨w.heap.size,cap,i.size,0⟩,rfl,by grind [bH.up], .inr (.inl ⟨rfl,b9, ?_,adC, ?_, ?_, ?_⟩)⟩⟩
 ·simp_all
 ·rfl
 ·simp
 ·simp
theorem aio {cs:Array MapEntry} {clock:Nat} (h:xo cs clock) (i:Nat) (f:MapEntry->MapEntry) (bb:∀e,(f e).born=e.born):xo (cs.modify i f) clock:=by
 have ag:(cs.modify i f).toList.map (·.born)=cs.toList.map (·.born):=by
  rw[Array.toList_modify];refine aww fun k=> ?_
  grind
 refine ⟨by rw[ag];exact h.1,fun x ae=> ?_⟩;have hm:x.born∈(cs.modify i f).toList.map (·.born):=avy.2 ⟨x,ae,rfl⟩;rw[ag] at hm;obtain ⟨y,aI,he⟩:=avy.1 hm;rw[<-he];exact h.2 y aI
theorem ait {cs:Array MapEntry} {clock:Nat} (h:xo cs clock) (e:MapEntry) (he:e.born=clock):xo (cs.push e) (clock+1):=by
 refine ⟨?_,fun x ae=> ?_⟩
 ·rw[Array.toList_push,List.map_append,List.nodup_append];refine ⟨h.1,by simp,fun a aY b ag=> ?_⟩;obtain ⟨y,aI,rfl⟩:=avy.1 aY;simp only[awe,axz,aw1] at ag;rw[ag,he];exact av9 (h.2 y aI)
 ·rw[Array.toList_push] at ae;rcases avT.1 ae with ae|ae
  ·exact Nat.lt_succ_of_lt (h.2 x ae)
  grind
theorem q4.find {P:avd} {j:bH} {bi bg:ave} {ee vc:List au9} {E E':List (List au9×List au9)} {ba:au9} {clock:Nat} (h:q4 (dG P bi) ee vc E E') (bb:ee.all cP=au7) (ab:e5 j (eb (dG P bg) vc) ba):∀{es:List MapEntry} (n:Nat),br (sf P j bi bg) E es->
  (∃i y,ns (eb (dG P bi) ee) es n=au6 (n+i,y.val)/\es[i]? =au6 y/\y.key=eb (dG P bi) ee/\br (sf P j bi bg) E' (es.modify i fun e=>{e with key:=eb (dG P bi) ee,val:=ba}))\/
  (ns (eb (dG P bi) ee) es n=au8/\br (sf P j bi bg) E' (es++[{key:=eb (dG P bi) ee,val:=ba,born:=clock}])):=by
 induction h with
 |nf=>
  intro es n a0;cases es with
  |nil=>exact .inr ⟨rfl,⟨rfl,bb,ab⟩,avo⟩
  |cons _ _=>exact a0.elim
 |oB p E h=>
  intro es n a0;cases es with
  |nil=>exact a0.elim
  |cons x es=>obtain ⟨⟨U,aa,ap⟩,aN⟩:=a0;refine .inl ⟨0,x,by grind [ns],rfl,U.trans h, ?_⟩;exact ⟨⟨h.symm,aa,ab⟩,aN⟩
 |next p E E' h UN ar=>
  intro es n a0;cases es with
  |nil=>exact a0.elim
  |cons x es=>
   obtain ⟨⟨U,aa,ap⟩,aN⟩:=a0;have ev:¬x.key=eb (dG P bi) ee:=fun bL=>h (U.symm.trans bL);rcases ar (n+1) aN with ⟨i,y,aU,aQ,bT,cT⟩|⟨aU,aQ⟩
   ·refine .inl ⟨i+1,y, ?_,by grind,bT, ?_⟩
    ·grind [ns]
    ·exact ⟨⟨U,aa,ap⟩,cT⟩
   ·refine .inr ⟨?_, ?_⟩
    ·grind [ns]
    ·exact ⟨⟨U,aa,ap⟩,aQ⟩
theorem aji {P:avd} {C:FuncId->Array au9->Mem->au9->Mem->Prop} {j:bH} {af cO:avf->au9} {o:Oper} {m m':Mem} {w:World} {v:au9} (h:gR P C af o m v m') (bP:hk j af cO o) (cl:Rel P j m w):
  z2 P j m w cO o v m'\/∃f args,callee o af f args/\C f args m v m':=by
 cases h with
 |store t x y b off i L e h ae aj hm ab aC az=>grind [aiu]
 |call f args v m' h cf=>grind
 |su x y t u e i a l c h aw aj ae ai qf aI=>
  left;have cC:=bP x (by grind [avi,avN]);rw[ae] at cC;have hX:=bP y (by simp[h,avi,avN]);obtain ⟨ds,aO,dY⟩:=zj cl.mW hX aI (by simp);have m9:ds=[]:=by have:=aO.length;grind
  subst m9;have eg:∃a',cO x= .slice a' l c/\cN j (.slice a l c) (.slice a' l c):=by
   cases a with
   |none=>exact ⟨au8,cC.kH,rfl⟩
   |some a=>
    obtain ⟨q,aC,aZ,e7⟩:=cC.tA (avR ai);rcases e7 with ⟨bS,e7⟩|⟨e7,_⟩|⟨e7,_⟩|⟨nV,gd,a',e7⟩
    ·grind
    ·grind
    ·grind
    grind
  obtain ⟨a',eg,Vz⟩:=eg;refine ⟨.value (.slice a' l c), .slice a' l c,w,j,u0 h ?_, .inl rfl,Post.refl cl,by grind⟩;rw[eg,w6 aw aj dY (by omega)];cases a'<;>simp[storeCells]
 |p5 x y t u e i z a l c n dN new h aw aj a4 db dV b9 ae ai ao k7 aI a1 ag hm=>
  left;have cC:=bP x (by grind [avi,avN]);have hX:=bP y (by grind [avi,avN]);have NN:hZ (af x)=l:=by rw[ae];rfl
  have eg:∃a',cO x= .slice a' l c:=by
   rw[ae] at cC;cases a with
   |none=>exact ⟨au8,cC.kH⟩
   |some a=>
    obtain ⟨q,aC,aZ,e7⟩:=cC.tA (by grind [cJ]);rcases e7 with ⟨bS,e7⟩|⟨e7,_⟩|⟨e7,_⟩|⟨nV,gd,a',e7⟩
    ·grind
    ·grind [cJ]
    ·grind [cJ]
    grind
  obtain ⟨a',eg⟩:=eg;obtain ⟨ds,aO,atL⟩:=Wl cl.mW cC ao (by grind);obtain ⟨hW,im,dY⟩:=zj cl.mW hX aI a1;have yT:∀w':World,w'.heap=w.heap->(awi i.size l (.slice a' l c)).run P w'= .ok ds.toArray w':=by
   grind
  obtain ⟨ba,w',b0,U,aa,ap⟩:=Wh (m:=m) h aw aj a4 dV b9 eg dY ai k7 a1 aO im yT ag hm cl rfl;exact ⟨.value ba,ba,w',b0,U, .inl rfl,aa,ap⟩
 |tX x y t u e i b off l c n L new h aw aj ae fj ai hm aI a1 az=>
  left;have cC:=bP x (by grind [avi,avN]);rw[ae] at cC;have hX:=bP y (by grind [avi,avN]);obtain ⟨hW,im,dY⟩:=zj cl.mW hX aI a1;obtain ⟨q,_,aZ,e7⟩:=cC.tA (avR fj);rcases e7 with ⟨bS,eg⟩|⟨e7,_⟩|⟨e7,_⟩|⟨nV,gd,a',eg⟩
  rotate_left 3
  ·
   subst nV;subst gd;have rz:n=0:=by omega
   have uD:new=[]:=by simp_all
   subst uD;have Nx:hW=[]:=by have:=im.length;grind
   subst Nx;obtain ⟨cs,bl,aU,aQ,bT,cT,eL,gX⟩:=cl.own b q L e aZ hm;have hw:=cl.write (L':=L) aZ hm aU (cs':=cs) rfl eL gX;rw[FF aU] at hw;refine ⟨.value _,_,_,j,u0 h (v:= .slice (au6 a') (0+n) 0) ?_, .inl rfl,hw,⟨q,rfl,aZ, .inr (.inr (.inr (.inl ⟨rfl,by omega,a',by grind⟩)))⟩⟩;rw[eg,w6 aw aj dY ai];rfl
  ·obtain ⟨cs,bl,aU,aQ,bT,cT,eL,gX⟩:=cl.own b q L e aZ hm;rw[avL,<-a1,<-avZ] at az;have eX:=u3 (P:=P) q.aS (q.dS+(off+l*i.size)) e bl hW 0 cs w aU aQ (by rw[<-im.length];omega) (br.one im);simp only[av2] at eX;refine ⟨.value _,_,_,j,u0 h (v:= .slice (au6 ⟨q.aS,q.dS+off,au8⟩) (l+n) c) ?_, .inl rfl,cl.write aZ hm aU (xh cs _ _) (by grind [nn]) (zu gX im az (by omega)),
    ⟨q,rfl,aZ, .inl ⟨bS,rfl⟩⟩⟩
   grind [w6,mT,avB]
  ·grind
  grind
 |we x y t u e i b off l c k n L new h aw aj ae fj mg ai hm aI a1 az=>
  left;have cC:=bP x (by grind [avi,avN]);rw[ae] at cC;have hX:=bP y (by grind [avi,avN]);obtain ⟨hW,im,dY⟩:=zj cl.mW hX aI a1;obtain ⟨q,_,aZ,e7⟩:=cC.slice;have aZ:j b=au6 q:=aZ;rcases e7 with ⟨bS,_⟩|⟨e7,_⟩|⟨e7,_⟩|⟨nV,_⟩|⟨cM,mf,_,_,oz,il,bS,mi,hdiv,eg⟩
  ·omega
  ·omega
  ·omega
  ·grind
  ·have EU:cM=k:=by omega
   subst EU;have il:cM<=q.cap - off / q.es:=il;have mi:off%q.es=0:=mi;have hdiv:off / q.es<=q.cap:=hdiv;obtain ⟨cs,bl,aU,aQ,bT,cT,eL,gX⟩:=cl.own b q L e aZ hm;rw[avL,<-a1,<-avZ] at az;have eX:=u3 (P:=P) q.aS (q.dS+(off+l*i.size)) e bl hW 0 cs w aU aQ (by rw[<-im.length];omega) (br.one im);simp only[av2] at eX;refine ⟨.value _,_,_,j,u0 h (v:= .slice (au6 ⟨q.aS,q.dS+off,au8⟩) (l+n) (q.cap - off / q.es)) ?_, .inl rfl,cl.write aZ hm aU (xh cs _ _) (by grind [nn]) (zu gX im az (by omega)),
    ⟨q,rfl,aZ, .inr (.inr (.inr (.inr ⟨cM,mf,mg,ai,oz,il,bS,mi,hdiv,rfl⟩)))⟩⟩
   grind [w6,mT,avB]
 |append x y t u e i z b off l n L new h aw aj a4 db dV b9 ae iF sM aI a1 ag hm=>
  left;have cC:=bP x (by grind [avi,avN]);have atB:=cC;rw[ae] at cC;have hX:=bP y (by grind [avi,avN]);obtain ⟨hW,im,dY⟩:=zj cl.mW hX aI a1;obtain ⟨q,_,aZ,e7⟩:=cC.tA (avm _);have aZ:j b=au6 q:=aZ;obtain ⟨cs,bl,aU,aQ,bT,cT,eL,gX⟩:=cl.own b q L e aZ iF;have oz:i.size=q.es:=by grind [u2]
  have sQ:((L.drop off).take (l*i.size)).length=l*i.size:=by grind
  have auj:∀(k:Nat) (v:au9),((L.drop off).take (l*i.size))[k]? =au6 v->∃ba,((cs.toList.drop (q.dS+off)).take (l*i.size))[k]? =au6 ba/\dC j v ba:=by
   grind
  have aeE:br (dC j) ((L.drop off).take (l*i.size)) ((cs.toList.drop (q.dS+off)).take (l*i.size)):=br.Fx (by grind) (fun k a cB aY ek=>by
   grind)
  have out:∀(o' bQ:Nat),cO x= .slice (au6 ⟨q.aS,o',au8⟩) l bQ->(o'=q.dS+off\/l=0)->bQ<l+n->z2 P j m w cO o (.slice (au6 ⟨m.next,0,au8⟩) (l+n) cJ) ((m.put b .dead).push (.own ((L.drop off).take (l*i.size)++new) e)):=by
   intro o' bQ eg ao ai;have au:=cl.kill b;have yT:∀w':World,w'.heap=w.heap->(awi i.size l (.slice (au6 ⟨q.aS,o',au8⟩) l bQ)).run P w'= .ok ((cs.toList.drop (q.dS+off)).take (l*i.size)).toArray w':=by
    grind [awi,zn,av7]
   obtain ⟨ba,w',b0,U,aa,ap⟩:=Wh (m:=m) (pw:=m.put b .dead) h aw aj a4 dV b9 eg dY ai sQ a1 aeE im yT ag hm au.rel rfl;exact ⟨.value ba,ba,w',b0,U, .inl rfl,Post.trans au aa,ap⟩
  rcases e7 with ⟨bS,_⟩|⟨_,gF,hle,il,mi,hdiv,eg⟩|⟨_,gd,o',eg⟩|⟨nV,_⟩
  rotate_left 3
  ·grind [cJ]
  ·grind
  ·have hle:l<=q.cap - off / q.es:=hle;have mi:off%q.es=0:=mi;have hdiv:off / q.es<=q.cap:=hdiv;have qi:off=off / q.es*q.es:=by
    grind [Nat.div_add_mod]
   have atG:off+(q.cap - off / q.es)*q.es=q.cap*q.es:=by
    grind [Nat.sub_mul]
   have eg:cO x= .slice (au6 ⟨q.aS,q.dS+off,au8⟩) l (q.cap - off / q.es):=eg;by_cases sH:l+n<=q.cap - off / q.es
   ·have rp:off+(l+n)*i.size<=q.cap*q.es:=by
     have:(l+n)*i.size<=(q.cap - off / q.es)*q.es:=by rw[oz];exact awc _ sH
     omega
    have aui:q.dS+off+l*i.size+new.length<=cs.size:=by grind
    have eX:=u3 (P:=P) q.aS (q.dS+off+l*i.size) e bl hW 0 cs w aU aQ (by rw[<-im.length];omega) (br.one im);simp only[av2] at eX;refine ⟨.value _,_,_,j.up m.next ⟨q.aS,q.cap - off / q.es,q.es,q.dS+off⟩,u0 h (v:= .slice (au6 ⟨q.aS,q.dS+off,au8⟩) (l+n) (q.cap - off / q.es)) ?_, .inl rfl,
     cl.reuse (e2:=⟨q.aS,q.cap - off / q.es,q.es,q.dS+off⟩) (L':=(L.drop off).take (l*i.size)++new) aZ iF aU (xh cs (q.dS+off+l*i.size) hW) rfl rfl (by grind) (by grind) ?_,
     ⟨⟨q.aS,q.cap - off / q.es,q.es,q.dS+off⟩,rfl,by simp[bH.up], .inr (.inl ⟨rfl,gF,by simpa using sH,axk (Nat.sub_le _ _) il,by rfl,by simp,by simp⟩)⟩⟩
    ·grind [w6,mT,avB]
    ·intro k v au;simp only[axb];rw[oQ _ _ _ _ (by rw[<-im.length];grind)];rw[List.getElem?_append,sQ] at au;split at au
     ·grind
     ·rename_i gU;obtain ⟨ba,U,aa⟩:=im.get _ _ au;have:=(avr.1 U).1;rw[if_pos (by omega)];exact ⟨ba,by rw[show q.dS+off+k - (q.dS+off+l*i.size)=k - l*i.size by omega];grind,aa⟩
   grind
  ·by_cases sH:l+n<=0
   ·have rz:n=0:=by omega
    have wJ:new=[]:=by simp_all
    subst wJ;subst gd;have adO:hW=[]:=by have:=im.length;grind
    subst adO;have E1:=cl.reuse (e2:=q) (L':=(L.drop off).take (0*i.size)++[]) aZ iF aU (cs':=cs) rfl rfl rfl cT (by simp) (fun k v au=>by grind);rw[FF aU] at E1;refine ⟨.value (.slice (au6 ⟨q.aS,o',au8⟩) 0 0),_,w,j.up m.next q,u0 h ?_, .inl rfl,E1,⟨q,rfl,by simp[bH.up], .inr (.inr (.inl ⟨rfl,by omega,o',rfl⟩))⟩⟩;subst rz;rw[eg,w6 aw aj dY (by omega)];rfl
   grind
 |clear x t e i z b off l c L h aw aj a4 db dV ae hm gd az=>
  left;have cC:=bP x (by grind [avi,avN]);rw[ae] at cC;obtain ⟨q,_,aZ,e7⟩:=cC.slice;have aZ:j b=au6 q:=aZ;have eg:∃bQ,cO x= .slice (au6 ⟨q.aS,q.dS+off,au8⟩) l bQ:=by
   rcases e7 with ⟨_,ai⟩|⟨_,_,_,_,_,_,ai⟩|⟨_,bf,_⟩|⟨_,bf,_⟩|⟨_,_,_,_,_,_,_,_,_,ai⟩
   ·grind
   ·grind
   ·omega
   ·omega
   grind
  obtain ⟨bQ,eg⟩:=eg;obtain ⟨cs,bl,aU,aQ,bT,cT,eL,gX⟩:=cl.own b q L e aZ hm;have afm:z.cells.toList.length=i.size:=by grind
  have hlen:(avw l z.cells.toList).flatten.length=l*i.size:=by simp_all
  have aO:br (dC j) (avw l z.cells.toList).flatten (avw l z.cells.toList).flatten:=br.self (p:=cP) (fun a h=>nq h) (by
   grind)
  have gv:off+(avw l z.cells.toList).flatten.length<=L.length:=by grind
  have eX:=u3 (P:=P) q.aS (q.dS+off) e bl (avw l z.cells.toList).flatten 0 cs w aU aQ (by omega) (br.one aO);simp only[av2] at eX;have pu:(aw0 z.cells l).toList=(avw l z.cells.toList).flatten:=Gb z.cells l;refine ⟨.value _, .tuple #[],_,j, ?_, .inl rfl,cl.write aZ hm aU (xh cs _ _) (by grind [nn]) (zu gX aO gv (by omega)),⟨#[],rfl,avo⟩⟩;have atU:l≠0:=by omega
  cases l with
  |zero=>grind
  |succ l=>
  simp only[execOp,h,resolve,invoke,builtin,avH,avM,avB,axM,awe,axz,Builtin.clear_,axb,axo,eZ aw,eg,mQ aj a4,pu,eX]
 |copy x y t u e i b off l c L cs h aw aj ae hm aI a1 az=>
  left;have cC:=bP x (by grind [avi,avN]);rw[ae] at cC;have hX:=bP y (by grind [avi,avN]);obtain ⟨hlen,atn,Nx,bb⟩:=OK cl.mW hX aI;have NP:awo (hZ (af y)) l<=hZ (af y):=Nat.min_le_left _ _;have bb:=bb a1 _ NP w rfl;have im:=Nx.take (awo (hZ (af y)) l*i.size);obtain ⟨q,_,aZ,e7⟩:=cC.slice;have aZ:j b=au6 q:=aZ;obtain ⟨ds,bl,aU,aQ,bT,cT,eL,gX⟩:=cl.own b q L e aZ hm;have gv:off+(cs.take (awo (hZ (af y)) l*i.size)).length<=L.length:=by rw[List.length_take];have:awo (hZ (af y)) l*i.size<=l*i.size:=awc _ (Nat.min_le_right _ _);omega
  have key:∀(a':Addr) (bQ:Nat),cO x= .slice (au6 a') l bQ->(a'=⟨q.aS,q.dS+off,au8⟩\/l=0)->z2 P j m w cO o (.int .i64 (awo (hZ (af y)) l)) (m.put b (.own (e9 L off (cs.take (awo (hZ (af y)) l*i.size))) e)):=by
   intro a' bQ eg ao;rcases ao with rfl|ao
   ·have eX:=u3 (P:=P) q.aS (q.dS+off) e bl _ 0 ds w aU aQ (by grind) (br.one im);simp only[av2] at eX;refine ⟨.value _, .int .i64 (awo (hZ (af y)) l),_,j, ?_, .inl rfl,cl.write aZ hm aU (xh ds _ _) (by grind [nn]) (zu gX im gv (by omega)),rfl⟩;simp only[execOp,h,resolve,invoke,builtin,avH,avM,avB,axM,awe,axz,Builtin.copy_,axb,axo,awp,eZ aw,eg,hlen,iw aj,bb,eX,goInt]
   ·subst ao;have bf:awo (hZ (af y)) 0=0:=Nat.min_zero _;simp only[bf,Nat.zero_mul,List.take_zero,e9] at bb gv⊢;have hw:=cl.write (L':=L) aZ hm aU (cs':=ds) rfl eL gX;rw[FF aU] at hw;refine ⟨.value _, .int .i64 (0:Nat),w,j, ?_, .inl rfl,hw,rfl⟩;have ac4:awo (hZ (af y)) 0=0:=Nat.min_zero _;simp only[execOp,h,resolve,invoke,builtin,avH,avM,avB,axM,awe,axz,Builtin.copy_,axb,axo,awp,eZ aw,eg,hlen,iw aj,ac4,bb,goInt,storeCells]
  rcases e7 with ⟨_,eg⟩|⟨_,_,_,_,_,_,eg⟩|⟨_,gd,o',eg⟩|⟨_,gd,a',eg⟩|⟨_,_,_,_,_,_,_,_,_,eg⟩
  ·grind
  ·grind
  ·grind
  ·grind
  grind
 |mapUpdate fq x gI gp u bi bg b L ee vc E E' hf h g9 hu ae iF a0 lF K wG sJ wH bb au a5 oF E6 uJ y7 fO=>
  left;have NO:∀y∈([x,gI,gp]:List avf),y∈o.op.operands:=by
   grind [avi]
  have cC:=bP x (NO x (by simp));rw[ae] at cC;obtain ⟨q,aZ,ai⟩:∃q,j b=au6 q/\cO x= .map (au6 q.aS):=cC;have UX:=xj bb (bP gI (NO gI (by simp)));have hM:=cN.storable (bP gp (NO gp (by simp))) oF;have Vi:=cl.obj b q aZ;rw[iF] at Vi;obtain ⟨hN,hP,cs,clock,as0,aU,aQ,bT,cT,eL⟩:=Vi;have sK:hN=bi/\hP=bg:=by grind
  obtain ⟨rfl,rfl⟩:=sK;have:=nH.Rd lF a0 bT;subst this;have mJ:=K.find (af gI) cs.toList w au (O4 cT a5);have kt:=K.check ava (af gI) w au;have wI:nH (P.cellsOf hN) (P.cellsOf hP) (E'.flatMap fun p=>p.1++p.2) E':=by
   refine ⟨rfl, ?_⟩;have:=a0.len;clear a0 bT cT a5;induction fO with
   |nf=>grind
   |oB p E h=>
    grind
   |next p E E' h UN ar=>
    intro r aE;rcases avu.1 aE with rfl|aE
    ·grind
    ·exact ar (fun r aE=>this r (by grind)) r aE
  have key:=fO.find (j:=j) (ba:=cO gp) (clock:=clock) wH (by grind) 0 cT;rw[<-wG] at key;have fin:∀(cs':Array MapEntry) (Eg:Nat),br (sf P j hN hP) E' cs'.toList->xo cs' Eg->(execOp cO o).run P w= .ok .skip (qM w q.aS (.map cs' Eg))->
    z2 P j m w cO o undef (m.put b (.map (E'.flatMap fun p=>p.1++p.2) u)):=by
   intro cs' Eg kd eX jw;refine ⟨.skip,undef,_,j,jw, .inr ⟨rfl,rfl⟩,cl.mY aZ (by rw[iF];rfl) ⟨hN,hP,cs',Eg,E',rfl,hu,wI,kd,eX⟩ rfl,⟨#[],rfl,avo⟩⟩
  have hex:∀w',(axN fq (cO x) (cO gI) (cO gp)).run P w= .ok () w'->(execOp cO o).run P w= .ok .skip w':=by intro w' rv;rcases h with h|h<;>simp[execOp,h,rv]
  rcases key with ⟨i,y,U,aa,ap,aN⟩|⟨U,aa⟩
  ·refine fin (cs.modify i fun e=>{e with key:=af gI,val:=cO gp}) clock ?_ (aio eL i _ fun _=>rfl) (hex _ ?_)
   ·grind
   ·have eX:=K.stays (af gI) w au;rw[U] at mJ;have sI:cs[i]? =au6 y:=by grind
    simp[axN,eZ g9,ai,xt aU,UX,kt,mJ,sI,ap,eX,YV _ aU,qM]
  ·refine fin (cs.push {key:=af gI,val:=cO gp,born:=clock}) (clock+1) ?_ (ait eL _ rfl) (hex _ ?_)
   ·grind
   ·rw[U] at mJ;simp[axN,eZ g9,ai,xt aU,UX,kt,mJ,YV _ aU,qM]
end Go.av
end
section
namespace Go.av
theorem ajf {n n':Nat} (h:n<=n') {v:au9} (ab:qt n v):qt n' v:=by
 unfold qt at ab⊢;split at ab
 ·rename_i a;cases a with
  |none=>exact ab
  |some a=>exact avx ab h
 grind
theorem aje {n:Nat} {v:au9} (ab:qt n v):hi n v:=by
 unfold qt at ab;split at ab
 ·exact ab
 grind
theorem rM {n n':Nat} (h:n<=n') {v:au9} (ab:hi n v):hi n' v:=by
 cases v with
 |func fn bm cs=>exact ⟨ab.1,fun v hm=>ajf h (ab.2 v hm)⟩
 |pointer a=>cases a with
  |none=>exact ab
  |some a=>exact avx ab h
 |slice a l c=>cases a with
  |none=>exact ab
  |some a=>exact avx ab h
 |map r=>cases r with
  |none=>exact ab
  |some r=>exact avx ab h
 |_=>exact ab
theorem FW {n n':Nat} (h:n<=n') {v:au9} (ab:hF n v):hF n' v:=by
 cases v with
 |agg cs=>exact fun v hm=>rM h (ab v hm)
 |_=>grind [hF,rM]
theorem Pd {n n':Nat} (h:n<=n') {v:au9} (ab:low n v):low n' v:=by
 cases v with
 |chan _=>trivial
 |tuple cs=>exact fun v hm=>FW h (ab v hm)
 |func _ a b=>exact ⟨fun v hm=>FW h (ab.1 v hm),fun v hm=>FW h (ab.2 v hm)⟩
 |_=>grind [low,FW]
theorem W9 {n n':Nat} (h:n<=n') {x:bo} (ab:pv n x):pv n' x:=by
 cases x with
 |dead=>exact ab
 |ro rd=>exact fun i v aj=>rM h (ab i v aj)
 |own L t=>exact fun v hm=>rM h (ab v hm)
 |map L t=>exact fun v hm=>rM h (ab v hm)
 |lock _ _ _ _=>trivial
theorem qz {n:Nat} {v:au9} (h:cP v=au7):hi n v:=by
 cases v with
 |pointer a=>cases a with
  |none=>exact avo
  |some a=>grind [cP]
 |slice a l c=>cases a with
  |none=>exact avo
  |some a=>grind [cP]
 |map r=>cases r with
  |none=>exact avo
  |some r=>grind [cP]
 |chan _=>grind [cP]
 |func _ _ _=>simp only[cP,avk,axO] at h;obtain ⟨rfl,rfl⟩:=h;exact ⟨rfl,fun v hm=>absurd hm (by simp)⟩
 |iface _ _=>grind [cP]
 |agg _=>grind [cP]
 |tuple _=>grind [cP]
 |_=>exact avo
theorem O2 {n:Nat} {v:au9} (h:iX v=au7):hF n v:=by
 cases v with
 |agg cs=>simp only[iX,avt] at h;exact fun v hm=>qz (h v hm)
 |_=>simp only[hF];exact qz h
theorem F3 {n:Nat} {v:au9} (h:flat v=au7):low n v:=by
 cases v with
 |tuple cs=>simp only[flat,avt] at h;exact fun v hm=>O2 (h v hm)
 |func _ _ _=>simp only[flat,iX,cP,avk,axO] at h;obtain ⟨rfl,rfl⟩:=h;exact ⟨fun v hm=>absurd hm (by simp),fun v hm=>absurd hm (by simp)⟩
 |chan _=>trivial
 |_=>simp only[low];exact O2 h
theorem F6 {n:Nat} {v:au9} (h:hi n v):hF n v:=by
 cases v<;>first|exact h|exact h.elim
theorem zM {n:Nat} {v:au9} (h:hF n v):low n v:=by
 cases v with
 |func fn bm cs=>exact ⟨fun v hm=>by rw[h.1] at hm;grind,fun v hm=>F6 (aje (h.2 v hm))⟩
 |tuple _=>exact h.elim
 |chan _=>trivial
 |_=>exact h
theorem PA {n:Nat} {v:au9} (h:hi n v):low n v:=zM (F6 h)
theorem u4 {n:Nat} {v:au9} (h:low n v) (aC:storable v=au7):hF n v:=by
 cases v with
 |tuple _=>grind [storable]
 |chan _=>grind [storable]
 |func fn bm cs=>
  simp only[storable,avk,axO,avt] at aC;refine ⟨aC.1,fun v hm=> ?_⟩;have U:=h.2 v hm;have aa:=aC.2 v hm;unfold vC at aa;split at aa
  ·exact U
  grind
 |_=>exact h
theorem FI {n:Nat} {v:au9} (h:hF n v):∀c∈v.cells.toList,hi n c:=by
 cases v with
 |agg cs=>exact h
 |_=>intro c ai;simp only[au9.cells,aw1] at ai;subst ai;exact h
theorem te:∀(vs L:List au9) (o:Nat) (v:au9),v∈e9 L o vs->v∈L\/v∈vs
 |[],L,o,v,h=> .inl h
 |u::vs,L,o,v,h=>by
  rcases te vs (L.set o u) (o+1) v h with h|h
  ·grind
  grind
theorem FU {n:Nat} {place:Nat->Option (Nat×Nat)}:∀(cn:List (Nat×au9)) (L cs:List au9),(∀p∈cn,low n p.2)->(∀v∈L,hi n v)->jm place L cn=au6 cs->∀v∈cs,hi n v
 |[],L,cs,_,cU,h=>by grind [jm]
 |(i,v)::cn,L,cs,aM,cU,h=>by
  simp only[jm] at h;cases bd:place i with
  |none=>grind
  |some q=>
   simp only[bd] at h;split at h
   ·rename_i ai;refine FU cn _ cs (fun p hm=>aM p (by grind)) ?_ h;intro u hu;rcases te _ _ _ _ hu with hu|hu
    ·grind
    ·exact FI (u4 (aM (i,v) (by simp)) ai.1) u hu
   grind
theorem Pa {m:Mem} (hm:WF m) {b o:Nat} {v:au9} (h:m.load b o=au6 v):hi m.next v:=by
 have:=hm.low b;unfold Mem.load at h;cases ag:m.aS b with
 |dead=>grind
 |ro rd=>simp only[ag] at h;rw[ag] at this;exact this o v h
 |own L t=>simp only[ag] at h;rw[ag] at this;exact this v (av4 h)
 |map L t=>grind
 |lock _ _ _ _=>grind
theorem Gq {m:Mem} (hm:WF m) {b:Nat}:∀(n o:Nat) (cs:List au9),eo m b o n=au6 cs->∀v∈cs,hi m.next v
 |0,o,cs,h=>by grind [eo]
 |n+1,o,cs,h=>by
  simp only[eo] at h;cases U:m.load b o with
  |none=>grind
  |some u=>
   cases aa:eo m b (o+1) n with
   |none=>grind
   |some l=>
    simp only[U,aa,avl.injEq] at h;subst h;intro v ab;rcases avu.1 ab with rfl|ab
    ·grind [Pa]
    ·exact Gq hm n (o+1) l aa v ab
theorem rK {n:Nat} {L:List au9} (h:L.all cP=au7):∀v∈L,hi n v:=by
 grind [qz]
theorem akm {P:avd} {af:avf->au9} {o:Oper} {v:au9} {n:Nat} (h:cW P af o v) (hY:∀x∈o.op.operands,low n (af x)):low n v:=by
 cases h with
 |flat v aC h ab aE=>exact F3 ab
 |move x h=>exact hY x (by rcases h with h|h<;>simp[h,avi])
 |pick c a b t h ai=>
  cases t
  ·exact hY b (by simp[h,avi])
  ·exact hY a (by simp[h,avi])
 |extract x i vs v h ae ab=>have:=hY x (by simp[h,avi]);rw[ae] at this;exact zM (this v (by have:=axj ab;simpa using this))
 |field t x i bm f d cs v h aw bb aO ae ab=>
  have:=hY x (by simp[h,avi]);rw[ae] at this;split at ab
  ·obtain ⟨k,au,hle,rfl⟩:=ab;intro u hu;refine this u ?_;simp only[axI,axJ] at hu;exact axc (axp hu)
  ·exact PA (this v (by have:=axj ab;simpa using this))
 |Fc t x y e d i l k n' cs h aw aO aY aj ae aI bf U=>have:=hY x (by simp[h,avi]);rw[ae] at this;intro u hu;refine this u ?_;simp only[axI,axJ] at hu;exact axc (axp hu)
 |build t cn bm i z cs h aw aj a4 db aM ai=>
  have:=FU (n:=n) _ _ _ (by
   intro p aM;simp only[avy] at aM;obtain ⟨q,bd,rfl⟩:=aM;exact hY q.2 (by simp only[h,avi];simp only[axi,avy];exact ⟨q,bd,rfl⟩)) (rK db) ai
  simpa[low,hF] using this
 |yt t cn n e i k z cs h aw aj a4 db he ai=>
  have:=FU (n:=_) _ _ _ (by
   intro p aM;simp only[avy] at aM;obtain ⟨q,bd,rfl⟩:=aM;exact hY q.2 (by simp only[h,avi];simp only[axi,avy];exact ⟨q,bd,rfl⟩)) (rK db) ai
  simpa[low,hF] using this
 |nilCheck x a h ae=>have:=hY x (by simp[h,avi]);rw[ae] at this;exact this
 |fieldAddr t x i bm f k b off h aw bb au aC ae=>have:=hY x (by simp[h,avi]);rw[ae] at this;exact this
 |indexAddr t x y e i b off l c k n h aw aj ae aI bf U=>have:=hY x (by simp[h,avi]);rw[ae] at this;exact this
 |za t x y e i b off l k n h aw aj ae aI bf U=>have:=hY x (by simp[h,avi]);rw[ae] at this;exact this
 |ED t x y e i l g k n h aw aj aC ae aI bf U az=>exact avo
 |slice t x bD aj e i b off l c n cu h aw eh ae ag dZ dy U aa ap=>have:=hY x (by simp[h,avi]);rw[ae] at this;exact this
 |kH t x bD aj e i h aw eh ae dZ dy=>exact avo
 |slice3 t x fv aj e i b off l c cu cM kA h aw eh ae ai dy lG U=>have:=hY x (by simp[h,avi]);rw[ae] at this;exact this
 |Kh t x bD aj fv e i b off l c n cu cM Fj Fh kA h aw eh ae ai dZ dy lG bf U=>exact avo
 |CV t x fv aj e i kA h aw eh ae dy lG=>exact avo
 |len x t e a l c h aw ae=>exact avo
 |yu x t e h aw ae=>exact avo
 |ud neq x y t u e a l c h aw ae aI=>exact avo
 |func fn first captured h bb=>
  refine ⟨?_, ?_⟩
  ·intro v ab;simp only[awD,avy] at ab;obtain ⟨x,ae,rfl⟩:=ab;exact u4 (hY x (by simp[h,avi];exact .inl (by simpa using ae))) (bb x (by simp[ae]))
  ·intro v ab;simp only[awD,avy] at ab;obtain ⟨x,ae,rfl⟩:=ab;exact u4 (hY x (by simp[h,avi];exact .inr (by simpa using ae))) (bb x (by simp[ae]))
theorem aiL {P:avd} {bg:ave} {n:Nat} {cs:List au9} (rr:dG P bg=ava->P.cellsOf bg=1) (az:cs.length=P.cellsOf bg) (h:∀c∈cs,hi n c):hF n (eb (dG P bg) cs):=by
 cases aY:dG P bg with
 |true=>grind [eb,hF]
 |false=>
  have:=rr aY
  match cs,az with
  |[v],_=>exact F6 (h v (by simp))
  |[],az=>grind
  |_::_::_,az=>grind
theorem ako {P:avd} {af:avf->au9} {o:Oper} {m:Mem} {v:au9} (h:eJ P af o m v) (hm:WF m) (hY:∀x∈o.op.operands,low m.next (af x)):low m.next v:=by
 cases h with
 |load t x b off d v h ae aw aO ab=>exact PA (Pa hm ab)
 |uk t x g n s h ae a1 aw a5=>exact avo
 |sT t x b off d i cs h ae aw aO aj ab=>simpa[low,hF] using Gq hm _ _ _ ab
 |vK t x bD aj e i L b off l c k n cu h aw eh ae au kx dZ dy U aa ap=>have:=hY x (by simp[h,avi]);rw[ae] at this;exact this
 |slice t x bD aj e i L b off l n cu h aw eh ae kx dZ dy U aa ap=>have:=hY x (by simp[h,avi]);rw[ae] at this;exact this
 |str s t x e b off l c cs h aC he aw ae ab=>exact avo
 |vL s t x e l c h aC he aw ae=>exact avo
 |lookup fq x cL ok u bi bg b L E i z kJ t hf h g9 hu ae lF rr K bb au a5 aj a4 db az=>
  have bf:hF m.next kJ:=by
   have adb:(∀p∈E,∀c∈p.2,hi m.next c)/\∀p∈E,p.2.length=P.cellsOf bg:=by
    rcases ae with ⟨ae,iF,a0⟩|⟨ae,rfl⟩
    ·have cU:=hm.low b;rw[iF] at cU;exact ⟨fun p aM c ai=>cU c (by rw[a0.eq];exact List.mem_flatMap.2 ⟨p,aM,by simp[ai]⟩),fun p aM=>(a0.len p aM).2⟩
    ·exact ⟨fun p aM=>by simp at aM,fun p aM=>by simp at aM⟩
   obtain ⟨gT,hlen⟩:=adb;clear a5 ae;induction az with
   |nf=>exact O2 db
   |oB p E h=>exact aiL rr (hlen p (by simp)) (gT p (by simp))
   |next p E v b h az ar=>exact ar (fun q bd=>gT q (by simp[bd])) (fun q bd=>hlen q (by simp[bd]))
  cases ok with
  |false=>exact zM bf
  |true=>
   intro v ab;simp at ab;rcases ab with rfl|rfl
   ·exact bf
   ·exact avo
theorem akZ {P:avd} {af:avf->au9} {o:Oper} {n:Nat} {X:bo} {v:au9} (h:iy P af o n X v) (hY:∀x∈o.op.operands,low n (af x)):low (n+1) v/\pv n X:=by
 cases h with
 |alloc t i z h aj a4 db aC=>exact ⟨av5 n,rK db⟩
 |box t x i h aj ab aC=>exact ⟨av5 n,FI (u4 (hY x (by grind [avi])) ab)⟩
 |buildSlice t l cn e i z cs h aw aj a4 db dV sC sL ai=>
  refine ⟨av5 n,FU _ _ _ ?_ (rK (xe db l)) ai⟩
  grind [avi]
 |makeSlice t x y l c k cM e i z h aw aj a4 db dV ae aI qf ag ai=>exact ⟨av5 n,rK (xe db c)⟩
 |bytes s t x e i b h aC aw he aj jE ae ag=>exact ⟨av5 n,rK (by simp only[List.all_map,avt,Function.comp];intro u _;rfl)⟩
 |makeMap t bi bg h aw=>exact ⟨av5 n,fun v ab=>by grind⟩
theorem WF.push {m:Mem} (h:WF m) {X:bo} (cU:pv (m.next+1) X):WF (m.push X) where
 dead:=fun b ag=>by simp only[Mem.push] at ag⊢;rw[if_neg (by omega)];exact h.dead b (by omega)
 low:=fun b=>by
  simp only[Mem.push];split
  ·grind
  ·exact W9 (avJ _) (h.low b)
theorem WF.put {m:Mem} (h:WF m) {b:Nat} {x:bo} (ae:pv m.next x) (ag:b<m.next\/x= .dead):WF (m.put b x) where
 dead:=fun c ai=>by
  have ai:m.next<=c:=ai;simp only[Mem.put];split
  ·grind
  ·exact h.dead c ai
 low:=fun c=>by
  simp only[Mem.put];split
  ·grind
  ·exact h.low c
theorem WF.lt {m:Mem} (h:WF m) {b:Nat} (ag:m.aS b≠ .dead):b<m.next:=by
 rcases avY b m.next with U|U
 ·grind
 ·exact absurd (h.dead b U) ag
def n3 (C:FuncId->Array au9->Mem->au9->Mem->Prop):Prop:=∀f args m v m',C f args m v m'->WF m->(∀a∈args.toList,low m.next a)->low m'.next v/\WF m'/\m.next<=m'.next
theorem O1 {m:Mem} (hm:WF m) {a7:Nat} {y:au9} {cs:List au9} (h:ji m a7 y=au6 cs):∀v∈cs,hi m.next v:=by
 cases y with
 |slice a l c=>
  cases a with
  |none=>grind [ji]
  |some a=>
   obtain ⟨b,off,spot⟩:=a;cases spot with
   |none=>exact Gq hm _ _ _ h
   |some _=>grind [ji]
 |string s=>
  simp only[ji] at h;split at h
  ·simp only[avl.injEq] at h;subst h;exact rK (by simp only[List.all_map,avt,Function.comp];intro u _;rfl)
  grind
 |_=>grind [ji]
theorem Gh {P:avd} {m:Mem} (hm:WF m) {u:ave} {i:TypeInfo} {y:au9} {n:Nat} {cs:List au9} (h:qV P m u i y n cs):∀v∈cs,hi m.next v:=by
 cases h with
 |el hu az he=>grind [O1]
 |mk kk k z hu aI a4 db dV b9 ag jT mj=>
  grind [rK,xe]
theorem aiR {o:Oper} {af:avf->au9} {f:FuncId} {args:Array au9} {n:Nat} (h:callee o af f args) (hY:∀x∈o.op.operands,low n (af x)):∀a∈args.toList,low n a:=by
 obtain ⟨x,as,ts,first,captured,h,ae,rfl⟩:=h;have bb:=hY x (by grind [avi,avN]);rw[ae] at bb;intro a aY;simp only[axL,avT,awD,avy] at aY;rcases aY with (aY|⟨y,aI,rfl⟩)|aY
 ·exact zM (bb.1 a aY)
 ·grind [avi,avN]
 ·exact zM (bb.2 a aY)
theorem aln {P:avd} {C:FuncId->Array au9->Mem->au9->Mem->Prop} {af:avf->au9} {o:Oper} {m m':Mem} {v:au9} (h:gR P C af o m v m') (hm:WF m) (hY:∀x∈o.op.operands,low m.next (af x)) (cf:n3 C):low m'.next v/\WF m'/\m.next<=m'.next:=by
 cases h with
 |store t x y b off i L e h ae aj iF ab aC az=>
  refine ⟨fun u hu=>by grind,hm.put ?_ (.inl (hm.lt (by grind))),avm _⟩;intro u hu;rcases te _ _ _ _ hu with hu|hu
  ·have:=hm.low b;rw[iF] at this;exact this u hu
  ·exact FI (u4 (hY y (by grind [avi])) ab) u hu
 |call f args v m' h adA=>exact cf f args m v m' adA hm (aiR h hY)
 |su x y t u e i a l c h aw aj ae ai qf aI=>grind [avi,avN]
 |p5 x y t u e i z a l c n dN new h aw aj a4 db dV b9 ae ai ao k7 aI a1 ag jT=>
  refine ⟨av5 _,hm.push ?_,avJ _⟩;intro w hw;rcases avT.1 hw with hw|hw
  ·exact rM (avJ _) (O1 hm ao w hw)
  ·exact rM (avJ _) (Gh hm aI w hw)
 |we x y t u e i b off l c k n L new h aw aj ae fj mg ai iF aI a1 az=>
  refine ⟨?_,hm.put ?_ (.inl (hm.lt (by grind))),avm _⟩
  ·have:=hY x (by grind [avi,avN]);rw[ae] at this;exact this
  ·intro w hw;rcases te _ _ _ _ hw with hw|hw
   ·have:=hm.low b;rw[iF] at this;exact this w hw
   grind [Gh]
 |tX x y t u e i b off l c n L new h aw aj ae fj ai iF aI a1 az=>
  refine ⟨?_,hm.put ?_ (.inl (hm.lt (by grind))),avm _⟩
  ·have:=hY x (by grind [avi,avN]);rw[ae] at this;exact this
  ·intro w hw;rcases te _ _ _ _ hw with hw|hw
   ·have:=hm.low b;rw[iF] at this;exact this w hw
   grind [Gh]
 |append x y t u e i z b off l n L new h aw aj a4 db dV b9 ae iF sM aI a1 ag jT=>
  have U:WF (m.put b .dead):=hm.put avo (.inr rfl);refine ⟨av5 _,U.push ?_,avJ _⟩;intro w hw;rcases avT.1 hw with hw|hw
  ·have:=hm.low b;rw[iF] at this;exact rM (avJ _) (this w (axp (axc hw)))
  ·exact rM (avJ _) (Gh hm aI w hw)
 |clear x t e i z b off l c L h aw aj a4 db dV ae iF gd az=>
  refine ⟨by intro v ab;grind,hm.put ?_ (.inl (hm.lt (by grind))),avm _⟩;intro w hw;rcases te _ _ _ _ hw with hw|hw
  ·have:=hm.low b;rw[iF] at this;exact this w hw
  grind [List.mem_flatten,qz]
 |copy x y t u e i b off l c L cs h aw aj ae iF aI a1 az=>
  refine ⟨avo,hm.put ?_ (.inl (hm.lt (by grind))),avm _⟩;intro w hw;rcases te _ _ _ _ hw with hw|hw
  ·have:=hm.low b;rw[iF] at this;exact this w hw
  grind [O1]
 |mapUpdate fq x gI gp u bi bg b L ee vc E E' hf h g9 hu ae iF a0 lF K wG sJ wH bb au a5 oF E6 uJ y7 fO=>
  refine ⟨fun u hu=>by grind,hm.put ?_ (.inl (hm.lt (by grind))),avm _⟩;have cU:=hm.low b;rw[iF] at cU;have gT:∀p∈E,∀c∈p.1++p.2,hi m.next c:=fun p aM c ai=>cU c (by rw[a0.eq];grind);have atT:∀c∈ee,hi m.next c:=rK wH;have auk:∀c∈vc,hi m.next c:=fun c ai=>by
   refine FI (u4 (hY gp ?_) oF) c (y7 c ai)
   grind [avi]
  have key:∀p∈E',∀c∈p.1++p.2,hi m.next c:=by
   clear a0 a5 cU;induction fO with
   |nf=>
    grind
   |oB p E h=>
    intro q bd c ai
    grind
   |next p E E' h UN ar=>
    intro q bd c ai;rcases avu.1 bd with rfl|bd
    ·grind
    ·exact ar (fun q bd=>gT q (by grind)) q bd c ai
  intro v ab;obtain ⟨p,aM,ai⟩:=List.mem_flatMap.1 ab
  grind
theorem Y8 {fr:Nat->au9} {n:Nat} (h:∀t,low n (fr t)) {x:avf} (ae:mm x=au7):low n (a8 fr x):=by
 cases x with
 |tmp t=>exact h t
 |const v=>exact F3 ae
 |global g=>trivial
 |func f=>exact ⟨fun v ab=>by simp at ab,fun v ab=>by simp at ab⟩
theorem zK {fr:Nat->au9} {n:Nat} (h:∀t,low n (fr t)) {d:Option Tmp} {v:au9} (ab:low n v):∀t,low n (set fr d v t):=by
 intro t;cases d with
 |none=>exact h t
 |some d=>grind [set]
theorem FQ {n:Nat}:low n undef:=fun v ab=>by grind
theorem u7 {P:avd} {C:FuncId->Array au9->Mem->au9->Mem->Prop} {fr:Nat->au9} {o:Oper} {m m':Mem} {v:au9} (h:nM P C (a8 fr) o m v m') (hm:WF m) (bb:∀t,low m.next (fr t)) (cf:n3 C) (ao:∀x∈o.op.operands,mm x=au7):
  low m'.next v/\WF m'/\m.next<=m'.next:=by
 have hY:∀x∈o.op.operands,low m.next (a8 fr x):=fun x ae=>Y8 bb (ao x ae);cases h with
 |pure h=>grind [akm]
 |read h=>grind [ako]
 |new h=>have:=akZ h hY;exact ⟨this.1,hm.push (W9 (avJ _) this.2),avJ _⟩
 |fb h=>grind [aln]
end Go.av
end
section
namespace Go.av
def Qo (P:avd) (C:FuncId->Array au9->Mem->au9->Mem->Prop) (ops:List Oper) (o:Oper) (fr:Nat->au9) (m:Mem) (v:au9) (m':Mem) (k:Nat):Prop:=
 (k=0/\wanted ops fr o=ava/\v=undef/\m'=m)\/
 (k=1/\wanted ops fr o=au7/\cW P (a8 fr) o v/\m'=m)\/
 (k=2/\wanted ops fr o=au7/\eJ P (a8 fr) o m v/\m'=m)\/
 (k=3/\wanted ops fr o=au7/\∃X,iy P (a8 fr) o m.next X v/\m'=m.push X)\/
 (k=4/\wanted ops fr o=au7/\gR P C (a8 fr) o m v m')
structure wb (P:avd) (C:FuncId->Array au9->Mem->au9->Mem->Prop) (ops:List Oper) (B:Array Nat) (i:Nat) (l:List Oper) (bm:Nat->Nat->au9) (ms:Nat->Mem) (vs:Nat->au9) (cG:Nat->Nat):Prop where
 frame:∀n o,l[n]? =au6 o->bm (i+n+1)=set (bm (i+n)) o.dst (vs (i+n))
 run:∀n o,l[n]? =au6 o->Qo P C ops o (bm (i+n)) (ms (i+n)) (vs (i+n)) (ms (i+n+1)) (cG (i+n))
 after:∀r e o,l[r]? =au6 o->cG (i+r)=2->e<l.length->cG (i+e)=4->r<e->fA B (i+e) (i+r)=ava->eJ P (a8 (bm (i+r))) o (ms (i+e+1)) (vs (i+r))
 news:∀x e,x<l.length->cG (i+x)=3->e<l.length->cG (i+e)=4->x<e->fA B (i+e) (i+x)=ava->(ms (i+e+1)).aS (ms (i+x)).next=(ms (i+e)).aS (ms (i+x)).next
 ahead:∀r e o,l[r]? =au6 o->cG (i+r)=2->e<l.length->cG (i+e)=4->e<r->fA B (i+r) (i+e)=ava->eJ P (a8 (bm (i+r))) o (ms (i+e)) (vs (i+r))
theorem Wg {P:avd} {C:FuncId->Array au9->Mem->au9->Mem->Prop} {ops:List Oper} {B:Array Nat}:∀(l:List Oper) (i:Nat) (A:Acc) (fr:Nat->au9) (m:Mem) (bB:Nat->au9) (m':Mem),g3 P C ops B i l A fr m bB m'->
  ∃bm ms vs cG,wb P C ops B i l bm ms vs cG/\bm i=fr/\ms i=m/\bm (i+l.length)=bB/\ms (i+l.length)=m'/\
   (∀x∈A.reads,∀e,e<l.length->cG (i+e)=4->fA B (i+e) x.1=ava->x.2 (ms (i+e+1)))/\
   (∀x∈A.gm,∀r o,l[r]? =au6 o->cG (i+r)=2->fA B (i+r) x.1=ava->eJ P (a8 (bm (i+r))) o x.2 (vs (i+r)))/\
   (∀x∈A.news,∀e,e<l.length->cG (i+e)=4->fA B (i+e) x.1=ava->(ms (i+e+1)).aS x.2=(ms (i+e)).aS x.2)
 |[],i,A,fr,m,bB,m',h=>by simp only[g3] at h;obtain ⟨rfl,rfl⟩:=h;refine ⟨fun _=>bB,fun _=>m',fun _=>undef,fun _=>0,⟨?_, ?_, ?_, ?_, ?_⟩,rfl,rfl,rfl,rfl, ?_, ?_, ?_⟩;all_goals grind
 |o::os,i,A,fr,m,bB,m',h=>by
  have key:∀(v:au9) (bz:Mem) (k:Nat) (hQ:Acc),Qo P C ops o fr m v bz k->g3 P C ops B (i+1) os hQ (set fr o.dst v) bz bB m'->
    (∀x∈A.reads,x∈hQ.reads)->(∀x∈A.gm,x∈hQ.gm)->(k=2->(i,fun m=>eJ P (a8 fr) o m v)∈hQ.reads)->(k=4->(i,m)∈hQ.gm)->
    (k=2->∀x∈A.gm,fA B i x.1=ava->eJ P (a8 fr) o x.2 v)->(k=4->∀x∈A.reads,fA B i x.1=ava->x.2 bz)->(∀x∈A.news,x∈hQ.news)->(k=3->(i,m.next)∈hQ.news)->(k=4->∀x∈A.news,fA B i x.1=ava->bz.aS x.2=m.aS x.2)->
    ∃bm ms vs cG,wb P C ops B i (o::os) bm ms vs cG/\bm i=fr/\ms i=m/\bm (i+(o::os).length)=bB/\ms (i+(o::os).length)=m'/\
     (∀x∈A.reads,∀e,e<(o::os).length->cG (i+e)=4->fA B (i+e) x.1=ava->x.2 (ms (i+e+1)))/\
     (∀x∈A.gm,∀r o',(o::os)[r]? =au6 o'->cG (i+r)=2->fA B (i+r) x.1=ava->eJ P (a8 (bm (i+r))) o' x.2 (vs (i+r)))/\
     (∀x∈A.news,∀e,e<(o::os).length->cG (i+e)=4->fA B (i+e) x.1=ava->(ms (i+e+1)).aS x.2=(ms (i+e)).aS x.2):=by
   intro v bz k hQ jw aO aty atw rh g8 E0 sO atx Vb at5;obtain ⟨bm,ms,vs,cG,aw,U,aa,ap,aN,bK,ed,hg⟩:=Wg os (i+1) hQ _ _ _ _ aO;refine ⟨fun n=>if n=i then fr else bm n,fun n=>if n=i then m else ms n,fun n=>if n=i then v else vs n,fun n=>if n=i then k else cG n,⟨?_, ?_, ?_, ?_, ?_⟩,by simp,by simp, ?_, ?_, ?_, ?_, ?_⟩
   ·intro n o' a1;cases n with
    |zero=>
     grind
    |succ n=>
     have bu:i+(n+1)=i+1+n:=by omega
     have:=aw.frame n o' (by grind);rw[bu];simp only[show ¬(i+1+n+1=i) by omega,show ¬(i+1+n=i) by omega,if_false,this]
   ·intro n o' a1;cases n with
    |zero=>
     grind
    |succ n=>
     have bu:i+(n+1)=i+1+n:=by omega
     have:=aw.run n o' (by grind);rw[bu];simp only[show ¬(i+1+n+1=i) by omega,show ¬(i+1+n=i) by omega,if_false]
     grind
   ·intro r e o' aE au he jS E1 kc;cases e with
    |zero=>omega
    |succ e=>
     have bu:i+(e+1)=i+1+e:=by omega
     rw[bu] at jS kc⊢;simp only[show ¬(i+1+e=i) by omega,if_false] at jS;simp only[show ¬(i+1+e+1=i) by omega,if_false];cases r with
     |zero=>simp only[axo,avl.injEq] at aE;subst aE;simp only[av2,if_pos] at au kc⊢;exact bK _ (rh au) e (by grind) jS kc
     |succ r=>
      have e2:i+(r+1)=i+1+r:=by omega
      rw[e2] at au kc⊢;simp only[show ¬(i+1+r=i) by omega,if_false] at au⊢;exact aw.after r e o' (by grind) au (by grind) jS (by omega) kc
   ·intro x e ae au he jS sR kc;cases e with
    |zero=>omega
    |succ e=>
     have bu:i+(e+1)=i+1+e:=by omega
     rw[bu] at jS kc⊢;simp only[show ¬(i+1+e=i) by omega,if_false] at jS;simp only[show ¬(i+1+e+1=i) by omega,show ¬(i+1+e=i) by omega,if_false];cases x with
     |zero=>simp only[av2,if_pos] at au kc⊢;exact hg _ (Vb au) e (by grind) jS kc
     |succ x=>
      have e2:i+(x+1)=i+1+x:=by omega
      rw[e2] at au kc⊢;simp only[show ¬(i+1+x=i) by omega,if_false] at au⊢;exact aw.news x e (by grind) au (by grind) jS (by omega) kc
   ·intro r e o' aE au he jS E1 kc;cases r with
    |zero=>omega
    |succ r=>
     have e2:i+(r+1)=i+1+r:=by omega
     rw[e2] at au kc⊢;simp only[show ¬(i+1+r=i) by omega,if_false] at au⊢;cases e with
     |zero=>
      grind
     |succ e=>
      have bu:i+(e+1)=i+1+e:=by omega
      rw[bu] at jS kc⊢;simp only[show ¬(i+1+e=i) by omega,if_false] at jS⊢;exact aw.ahead r e o' (by grind) au (by grind) jS (by omega) kc
   ·grind
   ·grind
   ·intro x ae e he jS kc;cases e with
    |zero=>
     grind
    |succ e=>
     grind
   ·grind
   ·intro x ae e he jS kc;cases e with
    |zero=>
     grind
    |succ e=>
     have bu:i+(e+1)=i+1+e:=by omega
     rw[bu] at jS kc⊢;simp only[show ¬(i+1+e=i) by omega,if_false] at jS;simp only[show ¬(i+1+e+1=i) by omega,show ¬(i+1+e=i) by omega,if_false]
     grind
  simp only[g3] at h;split at h
  ·rename_i hw;rcases h with ⟨v,aM,aO⟩|⟨v,aM,NU,aO⟩|⟨X,v,aM,aO⟩|⟨v,bz,aM,NU,aez,aO⟩
   ·exact key v m 1 A (.inr (.inl ⟨rfl,hw,aM,rfl⟩)) aO (fun _ h=>h) (fun _ h=>h) (by simp) (by simp) (by simp) (by simp) (fun _ h=>h) (by simp) (by simp)
   ·exact key v m 2 _ (.inr (.inr (.inl ⟨rfl,hw,aM,rfl⟩))) aO (fun _ h=>by grind) (fun _ h=>h) (fun _=>by simp) (by simp) (fun _=>NU) (by simp) (fun _ h=>h) (by simp) (by simp)
   ·exact key v _ 3 _ (.inr (.inr (.inr (.inl ⟨rfl,hw,X,aM,rfl⟩)))) aO (fun _ h=>h) (fun _ h=>h) (by simp) (by simp) (by simp) (by simp) (fun _ h=>by grind) (fun _=>by simp) (by simp)
   ·exact key v bz 4 _ (.inr (.inr (.inr (.inr ⟨rfl,hw,aM⟩)))) aO (fun _ h=>h) (fun _ h=>by grind) (by simp) (fun _=>by simp) (by simp) (fun _=>NU) (fun _ h=>h) (by simp) (fun _=>aez)
  ·rename_i hw;exact key undef m 0 A (.inl ⟨rfl,by grind,rfl,rfl⟩) h (fun _ h=>h) (fun _ h=>h) (by simp) (by simp) (by simp) (by simp) (fun _ h=>h) (by simp) (by simp)
end Go.av
end
section
namespace Go.av
def vl (P:avd) (C:FuncId->Array au9->Mem->au9->Mem->Prop):Prop:=∀f args m v m',C f args m v m'->∀(j:bH) (w:World) (hn:Array au9),WF m->Rel P j m w->br (cN j) args.toList hn.toList->
 (∃ fn, P.funcs[f]? = au6 fn ∧ (fn.name == "runtime.NumGoroutine") = ava ∧ fn.body.isNone = ava) ∧
 Calls P f hn w fun e w'=>∃ba b0,e= .returned ba/\Post P j m w b0 m' w'/\cN b0 v ba
theorem Gv {j:bH} {n:Nat} (aZ:∀b e,j b=au6 e->b<n) {v ba:au9}:(dC j v ba->hi n v)/\(e5 j v ba->hF n v)/\(cN j v ba->low n v):=by
 have az:∀{R:au9->au9->Prop} {p:au9->Prop},(∀a b,R a b->p a)->∀{l k:List au9},br R l k->∀v∈l,p v:=by
  intro R p adr l;induction l with
  |nil=>intro k _ v ab;simp at ab
  |cons a l ar=>
   intro k h v ab;cases k with
   |nil=>exact h.elim
   |cons b k=>
    rcases avu.1 ab with rfl|ab
    ·exact adr _ _ h.1
    ·exact ar h.2 v ab
 have bd:∀v ba:au9,jJ j v ba->qt n v:=by
  intro v ba h;unfold jJ at h;split at h
  ·obtain ⟨e,_,h,_⟩:=h;exact aZ _ _ h
  ·exact h.elim
 have bf:∀{v ba:au9},dC j v ba->hi n v:=by
  intro v ba h;cases v with
  |pointer a=>cases a with
   |none=>exact avo
   |some a=>obtain ⟨e,_,h,_⟩:=h;exact aZ _ _ h
  |slice a l c=>cases a with
   |none=>exact avo
   |some a=>obtain ⟨e,_,h,_⟩:=h;exact aZ _ _ h
  |map r=>cases r with
   |none=>exact avo
   |some r=>obtain ⟨e,h,_⟩:=h;exact aZ _ _ h
  |chan r=>cases r<;>exact h
  |func _ _ _=>obtain ⟨bu,ds,_,h⟩:=h;exact ⟨bu,az (R:=jJ j) (p:=qt n) bd h⟩
  |iface _ _=>exact h
  |agg _=>exact h
  |tuple _=>exact h
  |_=>exact avo
 have U:∀{v ba:au9},e5 j v ba->hF n v:=by
  intro v ba h;cases v with
  |agg cs=>obtain ⟨ds,_,h⟩:=h;exact az (R:=dC j) (p:=hi n) (fun a b=>bf) h
  |_=>simp only[e5] at h;simp only[hF];exact bf h
 refine ⟨bf,U, ?_⟩;intro h;cases v with
 |tuple cs=>obtain ⟨ds,_,h⟩:=h;exact az (R:=e5 j) (p:=hF n) (fun a b=>U) h
 |chan _=>trivial
 |func fn a b=>obtain ⟨gs,ds,_,h,cu⟩:=h;exact ⟨az (R:=e5 j) (p:=hF n) (fun a b=>U) h,az (R:=e5 j) (p:=hF n) (fun a b=>U) cu⟩
 |_=>simp only[cN] at h;simp only[low];exact U h
def bH.below (j:bH) (n:Nat):bH:=fun b=>if b<n then j b else au8
theorem pF {j:bH} {n b:Nat} {e:j5} (h:j.below n b=au6 e):b<n/\j b=au6 e:=by
 grind [bH.below]
theorem FZ {j:bH} {n b:Nat} {e:j5} (h:b<n) (aZ:j b=au6 e):j.below n b=au6 e:=by grind [bH.below]
theorem xa {j:bH} {n:Nat} {v ba:au9}:(dC j v ba->hi n v->dC (j.below n) v ba)/\(e5 j v ba->hF n v->e5 (j.below n) v ba)/\(cN j v ba->low n v->cN (j.below n) v ba):=by
 have kd:∀{R S:au9->au9->Prop} {p:au9->Prop},(∀a b,R a b->p a->S a b)->∀{l k:List au9},br R l k->(∀v∈l,p v)->br S l k:=by
  intro R S p adq l;induction l with
  |nil=>intro k h _;cases k with|nil=>exact avo|cons _ _=>exact h.elim
  |cons a l ar=>
   intro k h aM;cases k with
   |nil=>exact h.elim
   |cons b k=>exact ⟨adq _ _ h.1 (aM a (by simp)),ar h.2 fun v ab=>aM v (by simp[ab])⟩
 have bd:∀v ba:au9,jJ j v ba->qt n v->jJ (j.below n) v ba:=by
  intro v ba h az;unfold jJ at h⊢;split at h
  ·obtain ⟨e,U,aa,ap⟩:=h;exact ⟨e,U,FZ az aa,ap⟩
  ·exact h.elim
 have bf:∀{v ba:au9},dC j v ba->hi n v->dC (j.below n) v ba:=by
  intro v ba h az;cases v with
  |func _ _ _=>obtain ⟨bu,ds,e2,h⟩:=h;exact ⟨bu,ds,e2,kd (R:=jJ j) (S:=jJ (j.below n)) (p:=qt n) bd h az.2⟩
  |pointer a=>cases a with
   |none=>exact h
   |some a=>obtain ⟨e,U,aa,ap⟩:=h;exact ⟨e,U,FZ az aa,ap⟩
  |slice a l c=>cases a with
   |none=>exact h
   |some a=>obtain ⟨e,U,aa,ap⟩:=h;exact ⟨e,U,FZ az aa,ap⟩
  |map r=>cases r with
   |none=>exact h
   |some r=>obtain ⟨e,aa,ap⟩:=h;exact ⟨e,FZ az aa,ap⟩
  |_=>exact h
 have U:∀{v ba:au9},e5 j v ba->hF n v->e5 (j.below n) v ba:=by
  intro v ba h az;cases v with
  |agg cs=>obtain ⟨ds,bu,h⟩:=h;exact ⟨ds,bu,kd (R:=dC j) (S:=dC (j.below n)) (p:=hi n) (fun a b=>bf) h az⟩
  |_=>simp only[e5] at h⊢;simp only[hF] at az;exact bf h az
 refine ⟨bf,U, ?_⟩;intro h az;cases v with
 |tuple cs=>obtain ⟨ds,bu,h⟩:=h;exact ⟨ds,bu,kd (R:=e5 j) (S:=e5 (j.below n)) (p:=hF n) (fun a b=>U) h az⟩
 |chan r=>cases r<;>exact h
 |func fn a b=>obtain ⟨gs,ds,bu,h,cu⟩:=h;exact ⟨gs,ds,bu,kd (R:=e5 j) (S:=e5 (j.below n)) (p:=hF n) (fun a b=>U) h az.1,kd (R:=e5 j) (S:=e5 (j.below n)) (p:=hF n) (fun a b=>U) cu az.2⟩
 |_=>simp only[cN] at h⊢;simp only[low] at az;exact U h az
theorem br.mapA {aA bO o3:Type} {R:bO->o3->Prop} (f:aA->bO) (g:aA->o3) (A:Array aA) (h:∀x∈A.toList,R (f x) (g x)):br R (A.map f).toList (A.map g).toList:=by
 grind [awD,br.map]
theorem Wj {P : avd} {f : FuncId} {fn : Func} {args : Array au9} {w : World} (bb : P.funcs[f]? = au6 fn) (aeo : (fn.name == "runtime.NumGoroutine") = ava) (ady : fn.body.isNone = ava) : (callFunc f args).run P w = .ok (.enter f args) w := by
 grind [callFunc,avH,run_program,avB,avM]
theorem Y6 {P:avd} {C:FuncId->Array au9->Mem->au9->Mem->Prop} {j:bH} {af:avf->au9} {o:Oper} {m m':Mem} {w:World} {v:au9} {a:Act} (h:gR P C af o m v m') (bP:hk j af a.eval o) (cl:Rel P j m w) (dO:WF m) (kq:vl P C)
  {K:Act->World->Prop} {Q:Exit->Act->World->Prop} (fH:∀ba w' b0,Post P j m w b0 m' w'->cN b0 v ba->K (a.put o.dst ba) w'):o.wp P a w K Q:=by
 rcases aji h bP cl with ⟨n,ba,w',b0,aE,a1,aM,ab⟩|⟨f,args,ai,cf⟩
 ·unfold awj;rw[aE];rcases a1 with rfl|⟨rfl,rfl⟩
  ·exact fH ba w' b0 aM ab
  ·exact fH undef w' b0 aM ab
 ·obtain ⟨x,as,ts,first,captured,oE,ae,rfl⟩:=ai;have cC:=bP x (by grind [avi,avN]);rw[ae] at cC;obtain ⟨gs,ds,eg,U,aa⟩:=cC;have uq:br (cN j) (first++as.map af++captured).toList (gs++as.map a.eval++ds).toList:=by
   simp only[axL];refine br.append (br.append (U.mono fun _ _=>cN.uW) (br.mapA _ _ _ fun y aI=> ?_)) (aa.mono fun _ _=>cN.uW);exact bP y (by grind [avi,avN])
  obtain ⟨⟨fn,bb,aeo,ady⟩,adB⟩:=kq _ _ _ _ _ cf j w _ dO cl uq;have jw:(execOp a.eval o).run P w= .ok (.enter f (gs++as.map a.eval++ds)) w:=by
   grind [execOp,resolve,Deferred.ofValue,invoke,Wj]
  unfold awj;rw[jw,Oper.upon_enter];refine adB.mono ?_
  grind
end Go.av
end
section
namespace Go.av
theorem aiD {ops:Array Oper} (h:tg ops=au7) {i:Nat} {o:Oper} (ao:ops[i]? =au6 o) {e:Edge} (he:e∈o.after) (ag:awq .any e=au7):e.on<i:=by
 grind [tg]
theorem OL {ops:Array Oper} (h:tg ops=au7) {i x:Nat} {o y:Oper} (ao:ops[i]? =au6 o) (aI:ops[x]? =au6 y) (ae:x<i) (ai:q7 ops y o=au7):fA (avK ops) i x=au7:=by
 grind [tg]
def Gu (ops:Array Oper) (S:Nat->Prop):Prop:=∀a o,S a->ops[a]? =au6 o->∀e∈o.after,awq .any e=au7->S e.on
def rV (acc:Array Nat) (o:Oper):Array Nat:=acc.push (o.after.foldl (fun s e=>if awq .any e then s|||2 ^ e.on|||acc.getD e.on 0 else s) 0)
def Good (ops:Array Oper) (i bits:Nat):Prop:=∀x,bits.testBit x=au7->∀S,Gu ops S->(∀o,ops[i]? =au6 o->∀e∈o.after,awq .any e=au7->S e.on)->S x
theorem Xd (acc:Array Nat):∀(l:List Edge) (s x:Nat),(l.foldl (fun s e=>if awq .any e then s|||2 ^ e.on|||acc.getD e.on 0 else s) s).testBit x=au7->
  s.testBit x=au7\/∃e∈l,awq .any e=au7/\(x=e.on\/(acc.getD e.on 0).testBit x=au7)
 |[],s,x,h=> .inl h
 |e::l,s,x,h=>by
  simp only[List.foldl_cons] at h;rcases Xd acc l _ x h with h|⟨b2,U1,ag,ae⟩
  ·grind
  grind
theorem Wt {ops:Array Oper}:∀(l pre:List Oper) (acc:Array Nat),ops.toList=pre++l->acc.size=pre.length->(∀i,i<acc.size->Good ops i (acc.getD i 0))->
  ∀i,Good ops i ((l.foldl rV acc).getD i 0)
 |[],pre,acc,aM,aC,a5=>by
  intro i;by_cases aj:i<acc.size
  ·grind
  ·simp only[List.foldl_nil];intro x ae
   grind
 |o::l,pre,acc,aM,aC,a5=>by
  simp only[List.foldl_cons];refine Wt l (pre++[o]) (rV acc o) (by grind) (by grind [rV]) ?_;intro i aj;by_cases h:i<acc.size
  ·simp_all [rV,Array.getElem_push]
  ·have ad3:i=acc.size:=by grind [rV]
   subst ad3;have aeA:ops[acc.size]? =au6 o:=by rw[<-aw8,aM,aC];simp
   intro x ae S kq aO;have ag:(rV acc o).getD acc.size 0=o.after.foldl (fun s e=>if awq .any e then s|||2 ^ e.on|||acc.getD e.on 0 else s) 0:=by simp[rV,Array.getD]
   rw[ag,<-Array.foldl_toList] at ae;rcases Xd acc _ 0 x ae with bf|⟨e,he,gj,sR⟩
   ·grind
   ·have ae0:=aO o aeA e (by grind) gj;rcases sR with rfl|sR
    ·grind
    ·by_cases bS:e.on<acc.size
     ·exact a5 e.on bS x sR S kq fun o' ky b2 U1 ek=>kq e.on o' ae0 ky b2 U1 ek
     grind
theorem WB {ops:Array Oper} {i x:Nat} (h:fA (avK ops) i x=au7) {S:Nat->Prop} (kq:Gu ops S) (aO:∀o,ops[i]? =au6 o->∀e∈o.after,awq .any e=au7->S e.on):S x:=by
 have ag:avK ops=ops.toList.foldl rV #[]:=by rw[show avK ops=ops.foldl rV #[] from rfl,<-Array.foldl_toList]
 have:=Wt (ops:=ops) ops.toList [] #[] (by rfl) (by rfl) (by grind) i;rw[<-ag] at this;exact this x h S kq aO
theorem Pw {P:avd} {C:FuncId->Array au9->Mem->au9->Mem->Prop} {ops:List Oper} {B:Array Nat} {bm:Nat->Nat->au9} {ms:Nat->Mem} {vs:Nat->au9} {cG:Nat->Nat} (T:wb P C ops B 0 ops bm ms vs cG)
  (cf:n3 C) (cC:∀o∈ops,∀x∈o.op.operands,mm x=au7) (bf:WF (ms 0)) (az:∀t,low (ms 0).next (bm 0 t)):∀i,i<=ops.length->WF (ms i)/\(∀t,low (ms i).next (bm i t))/\(∀n,n<i->(ms n).next<=(ms (n+1)).next/\low (ms (n+1)).next (vs n))
 |0,_=>⟨bf,az,fun n a1=>by omega⟩
 |i+1,aj=>by
  obtain ⟨U,aa,ap⟩:=Pw T cf cC bf az i (by omega);have ao:ops[i]? =au6 ops[i]:=by grind
  have aE:=T.run i ops[i] ao;have bb:=T.frame i ops[i] ao;simp only[avD] at aE bb;have hm:=cC ops[i] (by simp);have step:low (ms (i+1)).next (vs i)/\WF (ms (i+1))/\(ms i).next<=(ms (i+1)).next:=by
   rcases aE with ⟨_,_,ab,jT⟩|⟨_,_,aM,jT⟩|⟨_,_,aM,jT⟩|⟨_,_,hU,aM,jT⟩|⟨_,_,aM⟩
   ·grind [FQ]
   ·rw[jT];exact u7 (.pure aM) U aa cf hm
   ·rw[jT];exact u7 (.read aM) U aa cf hm
   ·rw[jT];exact u7 (.new aM) U aa cf hm
   ·exact u7 (.fb aM) U aa cf hm
  refine ⟨step.2.1, ?_, ?_⟩
  ·rw[bb]
   grind [zK,Pd]
  grind
theorem Wz {ms:Nat->Mem} {vs:Nat->au9} {k:Nat} (h:∀n,n<k->(ms n).next<=(ms (n+1)).next/\low (ms (n+1)).next (vs n)):∀b a,a<=b->b<=k->(ms a).next<=(ms b).next
 |0,a,U,aa=>by grind
 |b+1,a,U,aa=>by
  by_cases e:a=b+1
  ·grind
  ·exact avz (Wz h b a (by omega) (by omega)) (h b (by omega)).1
theorem OM {P:avd} {C:FuncId->Array au9->Mem->au9->Mem->Prop} {ops:List Oper} {B:Array Nat} {bm:Nat->Nat->au9} {ms:Nat->Mem} {vs:Nat->au9} {cG:Nat->Nat} (T:wb P C ops B 0 ops bm ms vs cG) (t:Nat):
  ∀i,i<=ops.length->((∃x o,x<i/\ops[x]? =au6 o/\o.dst=au6 t/\bm i t=vs x/\∀y p,x<y->y<i->ops[y]? =au6 p->p.dst≠au6 t)\/
   ((∀x o,x<i->ops[x]? =au6 o->o.dst≠au6 t)/\bm i t=bm 0 t))
 |0,_=> .inr ⟨fun x o ae=>by omega,rfl⟩
 |i+1,aj=>by
  have ao:ops[i]? =au6 ops[i]:=by grind
  have bb:=T.frame i ops[i] ao;simp only[avD] at bb;by_cases aO:ops[i].dst=au6 t
  ·left;refine ⟨i,ops[i],by omega,ao,aO, ?_,fun y p U aa=>by omega⟩
   grind [set]
  ·have he:bm (i+1) t=bm i t:=by
    rw[bb];cases k6:ops[i].dst with
    |none=>rfl
    |some d=>
     grind [set]
   rcases OM T t i (by omega) with ⟨x,o,U,aa,ap,aN,bK⟩|⟨U,aa⟩
   ·grind
   grind
theorem FG {P:avd} {C:FuncId->Array au9->Mem->au9->Mem->Prop} {ops:List Oper} {B:Array Nat} {bm:Nat->Nat->au9} {ms:Nat->Mem} {vs:Nat->au9} {cG:Nat->Nat} (T:wb P C ops B 0 ops bm ms vs cG) {s:Nat}:
  ∀z,s<=z->z<=ops.length->(∀e,s<=e->e<z->cG e≠4)->(∀b,b<(ms s).next->(ms z).aS b=(ms s).aS b)/\
   (∀x,s<=x->x<z->cG x=3->∀o hU,ops[x]? =au6 o->ms (x+1)=(ms x).push hU->(ms z).aS (ms x).next=hU)/\(∀x,s<=x->x<z->(ms x).next<=(ms z).next/\(cG x=3->(ms x).next<(ms z).next))
 |z,b9,a4,ev=>by
  induction z with
  |zero=>
   have:s=0:=by omega
   subst this;exact ⟨fun _ _=>rfl,fun x U aa=>by omega,fun x U aa=>by omega⟩
  |succ z ar=>
   by_cases aC:s=z+1
   ·subst aC;exact ⟨fun _ _=>rfl,fun x U aa=>by omega,fun x U aa=>by omega⟩
   ·obtain ⟨U,aa,ap⟩:=ar (by omega) (by omega) (fun e uu atJ=>ev e uu (by omega));have ao:ops[z]? =au6 ops[z]:=by grind
    have aE:=T.run z ops[z] ao;simp only[avD] at aE;have Vs:(ms s).next<=(ms z).next:=by
     grind
    have same:ms (z+1)=ms z->cG z≠3->(∀b,b<(ms s).next->(ms (z+1)).aS b=(ms s).aS b)/\(∀x,s<=x->x<z+1->cG x=3->∀o hU,ops[x]? =au6 o->ms (x+1)=(ms x).push hU->(ms (z+1)).aS (ms x).next=hU)/\(∀x,s<=x->x<z+1->(ms x).next<=(ms (z+1)).next/\(cG x=3->(ms x).next<(ms (z+1)).next)):=fun he au=>⟨fun b ag=>by grind,
     fun x E7 Oa mf o hU oE hm=>by
      grind,
     fun x E7 Oa=>by
      grind⟩
    rcases aE with ⟨au,_,ab,jT⟩|⟨au,_,aM,jT⟩|⟨au,_,aM,jT⟩|⟨au,_,hU,aM,jT⟩|⟨au,_,aM⟩
    ·grind
    ·grind
    ·grind
    ·refine ⟨fun b ag=> ?_,fun x E7 Oa mf o yn oE hm=> ?_,fun x E7 Oa=> ?_⟩
     ·grind [Mem.push]
     ·grind [Mem.push]
     grind [Mem.push]
    grind
end Go.av
end
section
namespace Go.av
theorem Rel.place {P:avd} {j:bH} {M:Mem} {w w':World} {eS:Nat} {X:bo} {e:j5} {ob:Obj} (h:Rel P j M w) (a1:j eS=au8) (ag:eS<M.next) (N:yd P j w w' X e ob):
  Rel P (j.up eS e) (M.put eS X) w':=by
 have hle:=bH.CY (e:=e) a1;have hold:∀c,c<w.heap.size->w'.heap[c]? =w.heap[c]? :=fun c ai=>by rw[N.heap,awH,if_neg (by omega)]
 have N7:w'.heap.size=w.heap.size+1:=by rw[N.heap];simp
 have mj:w'.heap[w.heap.size]? =au6 ob:=by rw[N.heap];simp
 have gb:∀b,b≠eS->(M.put eS X).aS b=M.aS b:=fun b ag=>by grind [Mem.put]
 have aeN:(M.put eS X).aS eS=X:=by simp[Mem.put]
 have fO:∀b x,j.up eS e b=au6 x->b≠eS->j b=au6 x:=fun b x ag ev=>by grind [bH.up]
 have rl:∀x,j.up eS e eS=au6 x->x=e:=fun x ae=>by grind [bH.up]
 refine ⟨⟨?_, ?_, ?_⟩,h.kI.val.keep fun g a5=>hold g (h.kI.val.lt a5),fun b x ek ao a5=> ?_⟩
 rotate_right
 ·by_cases gj:b=eS
  ·subst gj;have:=h.kI.val.lt a5;rw[rl x ek,N.aS] at this;omega
  ·rw[gb b gj] at ao;exact h.kI.sep b x (fO b x ek gj) ao a5
 ·intro b x ek;by_cases gj:b=eS
  ·subst gj;have:=rl x ek;subst this;exact ⟨ag,by rw[N.aS];omega⟩
  ·have:=h.lt b x (fO b x ek gj);exact ⟨this.1,by omega⟩
 ·intro b x ek;by_cases gj:b=eS
  ·subst gj;have ae:=rl x ek;subst ae;rw[aeN,N.aS,mj];exact N.obj.mono hle
  ·have jR:=fO b x ek gj;rw[gb b gj,hold _ (h.lt b x jR).2];exact (h.obj b x jR).mono hle
 ·intro b cB x hj EK UT ao gv lJ;by_cases gj:b=eS
  ·by_cases mc:cB=eS
   ·grind
   ·have ae:x=e:=by grind
    have:=(h.lt cB hj (fO cB hj UT mc)).2;rw[<-lJ,ae,N.aS] at this;omega
  ·have jR:=fO b x EK gj;by_cases mc:cB=eS
   ·have ae:hj=e:=by grind
    have:=(h.lt b x jR).2;rw[lJ,ae,N.aS] at this;omega
   ·rw[gb b gj] at ao;rw[gb cB mc] at gv;exact h.inj b cB x hj jR (fO cB hj UT mc) ao gv lJ
theorem aiw {P:avd} {j:bH} {n:Nat} {bg:ave} {cs:List au9} {ba:au9} (h:e5 j (eb (dG P bg) cs) ba) (az:∀c∈cs,hi n c):e5 (j.below n) (eb (dG P bg) cs) ba:=by
 refine xa.2.1 h ?_;cases aY:dG P bg with
 |true=>grind [eb,hF]
 |false=>
  cases cs with
  |nil=>grind [eb,e5,dC,undef]
  |cons c cs=>exact F6 (az c (by simp))
theorem oj.below {P:avd} {j:bH} {n:Nat} {e:j5} {o:Option Obj} {x:bo} (h:oj P j e o x) (az:pv n x):oj P (j.below n) e o x:=by
 cases x with
 |dead=>trivial
 |ro rd=>intro i v aj;obtain ⟨cs,t,bl,ba,U,aa,ap⟩:=h i v aj;exact ⟨cs,t,bl,ba,U,aa,xa.1 ap (az i v aj)⟩
 |own L t=>obtain ⟨cs,bl,U,aa,ap,aN,bK,ed⟩:=h;refine ⟨cs,bl,U,aa,ap,aN,bK,fun i v aj=> ?_⟩;obtain ⟨ba,aU,aQ⟩:=ed i v aj;exact ⟨ba,aU,xa.1 aQ (az v (av4 aj))⟩
 |lock _ _ _ _=>exact h.elim
 |map L u=>
  obtain ⟨bi,bg,cs,clock,E,U,aa,ap,aN,bK⟩:=h;have a0:∀p∈E,∀c∈p.2,hi n c:=fun p aM c ai=>az c (by rw[ap.eq];grind);refine ⟨bi,bg,cs,clock,E,U,aa,ap, ?_,bK⟩;clear U ap az bK;generalize cs.toList=kn at aN;induction E generalizing kn with
  |nil=>cases kn with
   |nil=>trivial
   |cons _ _=>exact aN.elim
  |cons p E ar=>
   cases kn with
   |nil=>exact aN.elim
   |cons x kn=>exact ⟨⟨aN.1.1,aN.1.2.1,aiw aN.1.2.2 (a0 p (by simp))⟩,ar (fun q bd=>a0 q (by grind)) kn aN.2⟩
theorem Rel.below {P:avd} {j:bH} {M m:Mem} {w:World} (h:Rel P j M w) (dO:WF m) (aY:∀b e,j b=au6 e->b<m.next->M.aS b=m.aS b):Rel P (j.below m.next) m w:=by
 refine ⟨⟨?_, ?_, ?_⟩,h.kI.val,fun b e ag ao=>by obtain ⟨U,aa⟩:=pF ag;exact h.kI.sep b e aa (by grind)⟩
 ·intro b e ag;obtain ⟨U,aa⟩:=pF ag;exact ⟨U,(h.lt b e aa).2⟩
 ·intro b e ag;obtain ⟨U,aa⟩:=pF ag;rw[<-aY b e aa U];exact (h.obj b e aa).below (by rw[aY b e aa U];exact dO.low b)
 ·intro b cB e b2 ag ek ao az sG;obtain ⟨U,aa⟩:=pF ag;obtain ⟨lB,k3⟩:=pF ek;exact h.inj b cB e b2 aa k3 (by grind) (by grind) sG
def bH.join (ha:bH) (n:Nat) (j:bH):bH:=fun b=>if b<n then ha b else j b
def Mem.join (bz:Mem) (M:Mem):Mem:={next:=M.next,aS:=fun b=>if b<bz.next then bz.aS b else M.aS b}
theorem Rel.join {P:avd} {j ha:bH} {M m bz:Mem} {w w':World} (h:Rel P j M w) (aY:∀b e,j b=au6 e->b<m.next->M.aS b=m.aS b) (p:Post P (j.below m.next) m w ha bz w')
  (a5:∀b e,j b=au6 e->b<m.next\/bz.next<=b) (EL:bz.next<=M.next):
  Rel P (ha.join bz.next j) (bz.join M) w'/\(∀b e,j b=au6 e->ha.join bz.next j b=au6 e)/\(∀b e,ha b=au6 e->ha.join bz.next j b=au6 e):=by
 have a1:=p.next;have xJ:∀b e,ha b=au6 e->ha.join bz.next j b=au6 e:=fun b e ag=>by
  have:=(p.rel.lt b e ag).1
  grind [bH.join]
 have aup:∀b,b<m.next->ha b=j b:=fun b ag=>by rw[p.ext b ag];grind [bH.below]
 have up:∀b e,j b=au6 e->ha.join bz.next j b=au6 e:=fun b e ag=>by
  grind [bH.join]
 have split:∀b e,ha.join bz.next j b=au6 e->(b<bz.next/\ha b=au6 e)\/(bz.next<=b/\j b=au6 e):=fun b e ag=>by
  grind [bH.join]
 have Eb:∀b,b<bz.next->(bz.join M).aS b=bz.aS b:=fun b ag=>by grind [Mem.join]
 have Ec:∀b,bz.next<=b->(bz.join M).aS b=M.aS b:=fun b ag=>by grind [Mem.join]
 have Uz:∀b e,j b=au6 e->bz.next<=b->(M.aS b).live=au7->w'.heap[e.aS]? =w.heap[e.aS]? :=fun b e ag gU az=>by refine p.e6.block e.aS (h.lt b e ag).2 fun eS eK nT ao he=> ?_;obtain ⟨U,aa⟩:=pF nT;have:=h.inj eS b eK e aa ag (by grind) az he;omega
 refine ⟨⟨⟨?_, ?_, ?_⟩,p.rel.kI.val,fun b e ag ao=> ?_⟩,up,xJ⟩
 rotate_right
 ·rcases split b e ag with ⟨U,aa⟩|⟨U,aa⟩
  ·rw[Eb b U] at ao;exact p.rel.kI.sep b e aa ao
  ·rw[Ec b U] at ao;exact h.kI.sep b e aa ao
 ·intro b e ag;rcases split b e ag with ⟨U,aa⟩|⟨U,aa⟩
  ·exact ⟨by grind [Mem.join],(p.rel.lt b e aa).2⟩
  ·have:=h.lt b e aa;exact ⟨this.1,avx this.2 p.e6.size⟩
 ·intro b e ag;rcases split b e ag with ⟨U,aa⟩|⟨U,aa⟩
  ·rw[Eb b U];exact (p.rel.obj b e aa).mono xJ
  ·rw[Ec b U];cases az:(M.aS b).live with
   |false=>
    cases ag:M.aS b<;>simp[ag,bo.live] at az
    trivial
   |true=>rw[Uz b e aa U az];exact (h.obj b e aa).mono up
 ·
  have atg:∀b cB e b2,b<bz.next->ha b=au6 e->bz.next<=cB->j cB=au6 b2->(M.aS cB).live=au7->(((bz.aS b).ig=au7)\/((M.aS cB).ig=au7/\(bz.aS b).live=au7))->e.aS≠b2.aS:=by
   intro b cB e b2 U aa lB k3 gv NY sG;rcases avY b m.next with bS|gU
   ·have jR:j b=au6 e:=by grind
    have atE:b=cB:=by
     rcases NY with ao|⟨ky,az⟩
     ·exact h.inj b cB e b2 jR k3 (by rw[aY b e jR bS];exact p.dN b bS ao) gv sG
     ·exact (h.inj cB b b2 e k3 jR ky (by rw[aY b e jR bS];exact p.alive b bS az) sG.symm).symm
    omega
   ·rcases p.fresh b e aa gU with bb|⟨eS,eK,nT,uE,U2⟩
    ·have:=(h.lt cB b2 k3).2;omega
    ·obtain ⟨aU,aQ⟩:=pF nT;have:=h.inj eS cB eK b2 aQ k3 (by grind) gv (by grind);omega
  intro b cB e b2 ag ek ao az sG;rcases split b e ag with ⟨U,aa⟩|⟨U,aa⟩<;>rcases split cB b2 ek with ⟨lB,k3⟩|⟨lB,k3⟩
  ·rw[Eb b U] at ao;rw[Eb cB lB] at az;exact p.rel.inj b cB e b2 aa k3 ao az sG
  ·grind
  ·grind [bo.ig,bo.live]
  ·rw[Ec b U] at ao;rw[Ec cB lB] at az;exact h.inj b cB e b2 aa k3 ao az sG
end Go.av
end
section
namespace Go.av
structure Ctx (P:avd) (C:FuncId->Array au9->Mem->au9->Mem->Prop) (ops:Array Oper) (N:Nat) (bm:Nat->Nat->au9) (ms:Nat->Mem) (vs:Nat->au9) (cG:Nat->Nat) (fI:bH) (bR:World):Prop where
 T:wb P C ops.toList (avK ops) 0 ops.toList bm ms vs cG
 ok:tg ops=au7
 Fz:∀o∈ops.toList,∀x∈o.op.operands,mm x=au7
 dst:∀o∈ops.toList,∀d,o.dst=au6 d->d<N
 keeps:n3 C
 sound:vl P C
 dK:Rel P fI (ms 0) bR
 Km:WF (ms 0)
 hi:∀t,low (ms 0).next (bm 0 t)
structure g6 (P:avd) (ops:Array Oper) (ds:List Deferred) (N:Nat) (bm:Nat->Nat->au9) (ms:Nat->Mem) (vs:Nat->au9) (cG:Nat->Nat) (fI:bH) (bR:World) (listed:Array Bool) (a:Act) (w:World) (s:Nat) (M:Mem) (j:bH):Prop where
 size:listed.size=ops.size
 closed:Gu ops (fun i=>listed.getD i ava=au7)
 sle:s<=ops.size
 last:s=0\/cG (s - 1)=4
 gm:∀i,i<ops.size->cG i=4->(listed.getD i ava=au7↔i<s)
 rel:Rel P j M w
 ys:M.next=(ms ops.size).next
 wc:∀b,b<(ms s).next->M.aS b=(ms s).aS b
 Ek:∀b e,j b=au6 e->b<(ms s).next\/∃i,s<=i/\i<ops.size/\listed.getD i ava=au7/\cG i=3/\b=(ms i).next
 vM:∀i,i<ops.size->cG i=3->listed.getD i ava=ava->j (ms i).next=au8
 Eu:∀i,s<=i->i<ops.size->listed.getD i ava=au7->cG i=3->∀hU,ms (i+1)=(ms i).push hU->M.aS (ms i).next=hU
 defers:a.defers=ds
 tmps:a.tmps.size=N
 cur:∀t,(∃i o,ops[i]? =au6 o/\listed.getD i ava=au7/\o.dst=au6 t/\(∀x p,i<x->ops[x]? =au6 p->listed.getD x ava=au7->p.dst≠au6 t)/\cN j (vs i) (a.tmps.getD t undef))\/
  ((∀x p,ops[x]? =au6 p->listed.getD x ava=au7->p.dst≠au6 t)/\cN j (bm 0 t) (a.tmps.getD t undef))
 e6:q1 fI (ms 0) bR w
 ext:∀b,b<(ms 0).next->j b=fI b
 fresh:∀b e,j b=au6 e->(ms 0).next<=b->bR.heap.size<=e.aS\/∃eS eK,fI eS=au6 eK/\((ms 0).aS eS).ig=au7/\eK.aS=e.aS
 dN:∀b,b<(ms 0).next->(M.aS b).ig=au7->((ms 0).aS b).ig=au7
 alive:∀b,b<(ms 0).next->(M.aS b).live=au7->((ms 0).aS b).live=au7
section
variable {P:avd} {C:FuncId->Array au9->Mem->au9->Mem->Prop} {ops:Array Oper} {N:Nat} {bm:Nat->Nat->au9} {ms:Nat->Mem} {vs:Nat->au9} {cG:Nat->Nat} {fI:bH} {bR:World}
theorem Ctx.wf (X:Ctx P C ops N bm ms vs cG fI bR):∀i,i<=ops.size->WF (ms i)/\(∀t,low (ms i).next (bm i t)):=fun i aj=>by
 have:=Pw X.T X.keeps X.Fz X.Km X.hi i (by grind)
 grind
theorem Ctx.mono (X:Ctx P C ops N bm ms vs cG fI bR):∀a b,a<=b->b<=ops.size->(ms a).next<=(ms b).next:=fun a b U aa=>by
 have:=Pw X.T X.keeps X.Fz X.Km X.hi ops.size (by simp);exact Wz this.2.2 b a U aa
theorem Ctx.run (X:Ctx P C ops N bm ms vs cG fI bR) {i:Nat} {o:Oper} (ao:ops[i]? =au6 o):Qo P C ops.toList o (bm i) (ms i) (vs i) (ms (i+1)) (cG i):=by
 have:=X.T.run i o (by grind)
 grind
theorem Ctx.new (X:Ctx P C ops N bm ms vs cG fI bR) {i:Nat} (aj:i<ops.size) (au:cG i=3):∃o hU,ops[i]? =au6 o/\iy P (a8 (bm i)) o (ms i).next hU (vs i)/\ms (i+1)=(ms i).push hU:=by
 have ao:ops[i]? =au6 ops[i]:=by grind
 rcases X.run ao with ⟨mf,_⟩|⟨mf,_⟩|⟨mf,_⟩|⟨_,_,hU,aM,hm⟩|⟨mf,_⟩
 ·omega
 ·omega
 ·omega
 ·grind
 grind
theorem Ctx.ze (X:Ctx P C ops N bm ms vs cG fI bR) {i:Nat} (aj:i<ops.size) (au:cG i=3):(ms i).next<(ms (i+1)).next:=by
 obtain ⟨o,hU,_,_,hm⟩:=X.new aj au
 grind [Mem.push]
theorem OZ {af:avf->au9} {o:Oper} {m m':Mem} {v:au9} (h:gR P C af o m v m'):kF o.op=au7:=by
 cases h with
 |call f args v m' h cf=>obtain ⟨x,as,ts,first,captured,h,_⟩:=h;grind [kF]
 |mapUpdate fq x gI gp u bi bg b L ee vc E E' hf h=>grind [kF]
 |_=>grind [kF]
 all_goals simp[*,kF]
theorem Ctx.VC (X:Ctx P C ops N bm ms vs cG fI bR) {i:Nat} {o:Oper} (ao:ops[i]? =au6 o) (au:cG i=4):kF o.op=au7:=by
 rcases X.run ao with ⟨mf,_⟩|⟨mf,_⟩|⟨mf,_⟩|⟨mf,_⟩|⟨_,_,aM⟩
 ·omega
 ·omega
 ·omega
 ·omega
 grind [OZ]
variable {ds:List Deferred} {listed:Array Bool} {a:Act} {w:World} {s:Nat} {M:Mem} {j:bH}
theorem g6.Ms (X:Ctx P C ops N bm ms vs cG fI bR) (D:g6 P ops ds N bm ms vs cG fI bR listed a w s M j) {z:Nat} (b9:s<=z) (a4:z<=ops.size) (ev:∀e,s<=e->e<z->cG e≠4):
  ∀b e,j b=au6 e->b<(ms z).next->M.aS b=(ms z).aS b:=by
 obtain ⟨aU,aQ,bT⟩:=FG X.T z b9 (by grind) ev;intro b e ag bS;rcases avY b (ms s).next with h|h
 ·rw[D.wc b h,aU b h]
 ·rcases D.Ek b e ag with cu|⟨i,U,aa,ap,aN,rfl⟩
  ·omega
  ·have ad4:i<z:=by
    rcases avY i z with h|h
    ·grind
    ·have:=X.mono z i h (by omega);omega
   obtain ⟨o,hU,ao,_,hm⟩:=X.new aa aN;rw[D.Eu i U aa ap aN hU hm,aQ i U ad4 aN o hU (by grind) hm]
theorem g6.mW (X:Ctx P C ops N bm ms vs cG fI bR) (D:g6 P ops ds N bm ms vs cG fI bR listed a w s M j) {z:Nat} (b9:s<=z) (a4:z<=ops.size) (ev:∀e,s<=e->e<z->cG e≠4):sm P j (ms z) w:=by
 have dY:=D.Ms X b9 a4 ev;have dO:=(X.wf z a4).1;have aE:=D.rel.mW;refine ⟨fun b e o v ag ab=> ?_,fun b e L t ag az=> ?_,fun b e L u ag az=> ?_,aE.kI⟩
 ·have bS:b<(ms z).next:=dO.lt (by intro aO;simp[Mem.load,aO] at ab);refine aE.load b e o v ag ?_;unfold Mem.load at ab⊢;rw[dY b e ag bS];exact ab
 ·have bS:b<(ms z).next:=dO.lt (by rw[az];simp);exact aE.own b e L t ag (by rw[dY b e ag bS];exact az)
 ·have bS:b<(ms z).next:=dO.lt (by rw[az];simp);exact aE.map b e L u ag (by rw[dY b e ag bS];exact az)
structure l0 (ops:Array Oper) (listed:Array Bool) (i:Nat) (o:Oper):Prop where
 at_:ops[i]? =au6 o
 not:listed.getD i ava=ava
 Uq:∀e∈o.after,awq .any e=au7->listed.getD e.on ava=au7
theorem l0.fA (D:g6 P ops ds N bm ms vs cG fI bR listed a w s M j) {i:Nat} {o:Oper} (R:l0 ops listed i o) {x:Nat} (h:av.fA (avK ops) i x=au7):listed.getD x ava=au7:=
 WB h D.closed fun o' ky=>by rw[R.at_] at ky;cases ky;exact R.Uq
theorem g6.Mt (D:g6 P ops ds N bm ms vs cG fI bR listed a w s M j) {i x:Nat} (aj:listed.getD i ava=au7) (h:av.fA (avK ops) i x=au7):listed.getD x ava=au7:=
 WB h D.closed fun o' ky=>D.closed i o' aj ky
theorem l0.aaF (X:Ctx P C ops N bm ms vs cG fI bR) (D:g6 P ops ds N bm ms vs cG fI bR listed a w s M j) {i:Nat} {o:Oper} (R:l0 ops listed i o) {t:Nat} (aw:t∈s9 ops o) {x:Nat} {p:Oper} (aM:ops[x]? =au6 p) (aO:p.dst=au6 t):
  (listed.getD x ava=au7↔x<i)\/x=i:=by
 rcases axA x i with h|h|h
 ·left;refine ⟨fun _=>h,fun _=> ?_⟩;refine R.fA D (OL X.ok R.at_ aM h ?_)
  grind [q7]
 ·grind
 ·left;refine ⟨fun az=> ?_,fun cu=>by omega⟩;have:listed.getD i ava=au7:=D.Mt az (OL X.ok aM R.at_ h (by grind [q7]));rw[R.not] at this
  grind
theorem g6.slot (X:Ctx P C ops N bm ms vs cG fI bR) (D:g6 P ops ds N bm ms vs cG fI bR listed a w s M j) {i:Nat} {o:Oper} (R:l0 ops listed i o) {t:Nat} (aw:t∈s9 ops o):cN j (bm i t) (a.tmps.getD t undef):=by
 have aj:i<ops.size:=(awB.1 R.at_).1;have hw:=fun {x:Nat} {p:Oper} (aM:ops[x]? =au6 p) (aO:p.dst=au6 t)=>R.aaF X D aw aM aO;have rl:∀{x:Nat},x=i->listed.getD x ava=au7->False:=fun ae az=>by subst ae;rw[R.not] at az;grind
 rcases OM X.T t i (by grind) with ⟨x,p,U,aa,ap,aN,bK⟩|⟨U,aa⟩
 ·have k3:ops[x]? =au6 p:=by grind
  have NN:listed.getD x ava=au7:=by
   grind
  rcases D.cur t with ⟨y,q,aU,aQ,bT,cT,eL⟩|⟨aU,_⟩
  ·grind [axA]
  grind
 ·rcases D.cur t with ⟨y,q,aU,aQ,bT,cT,eL⟩|⟨_,aQ⟩
  ·grind
  grind
theorem PX {fr:Nat->au9} {a:Act} {j:bH} {x:avf} (ae:mm x=au7) (h:∀t,x= .tmp t->cN j (fr t) (a.tmps.getD t undef)):cN j (a8 fr x) (a.eval x):=by
 cases x with
 |tmp t=>exact h t rfl
 |const v=>exact O3 ae
 |global g=>show au9.pointer _=_;rw[show g*4096 / 4096=g by omega,show g*4096%4096=0 by omega]
 |func f=>exact ⟨#[],#[],rfl,avo,avo⟩
theorem g6.afJ (X:Ctx P C ops N bm ms vs cG fI bR) (D:g6 P ops ds N bm ms vs cG fI bR listed a w s M j) {i:Nat} {o:Oper} (R:l0 ops listed i o):hk j (a8 (bm i)) a.eval o:=by
 intro x ae;have hm:o∈ops.toList:=by have:=axj R.at_;grind
 refine PX (X.Fz o hm x ae) fun t aw=>D.slot X R ?_;subst aw;simp only[s9,avT,List.mem_filterMap];exact .inl (.inl ⟨.tmp t,by grind,rfl⟩)
theorem aiz {j:bH} {v ba:au9} (h:cN j v ba) (ag:∀b,v≠ .bool b):∀b,ba≠ .bool b:=by
 intro b hM;subst hM;cases v with
 |bool cB=>exact ag cB rfl
 |pointer q=>cases q with
  |none=>cases h
  |some q=>obtain ⟨e,_,_,h⟩:=h;cases h
 |slice q l c=>cases q with
  |none=>cases h
  |some q=>obtain ⟨e,_,_,h⟩:=h;rcases h with ⟨_,h⟩|⟨_,_,_,_,_,_,h⟩|⟨_,_,_,h⟩|⟨_,_,_,h⟩|⟨_,_,_,_,_,_,_,_,_,h⟩<;>cases h
 |map r=>cases r with
  |none=>cases h
  |some r=>obtain ⟨e,_,h⟩:=h;cases h
 |agg cs=>obtain ⟨ds,h,_⟩:=h;cases h
 |tuple cs=>obtain ⟨ds,h,_⟩:=h;cases h
 |func fn f c=>obtain ⟨ds,es,h,_⟩:=h;cases h
 |chan r=>cases r with
  |none=>exact h b rfl
  |some k=>cases h
 |iface _ _=>exact h
 |_=>cases h
theorem Xo {ops:Array Oper} {N:Nat} {fr:Nat->au9} {a:Act} {j:bH} {o:Oper} (aq:a.tmps.size=N) (sF:∀p∈ops.toList,∀d,p.dst=au6 d->d<N) (h:∀g w d,o.guard=au6 (g,w)->(ops[g]?).bind (·.dst)=au6 d->cN j (fr d) (a.tmps.getD d undef)):
  awI o (yielded ops a.tmps)=wanted ops.toList fr o:=by
 unfold awI wanted;cases a5:o.guard with
 |none=>rfl
 |some ac3=>
  obtain ⟨g,want⟩:=ac3;simp only[yielded,aw8];cases aO:(ops[g]?).bind (·.dst) with
  |none=>rfl
  |some d=>
   have ab:=h g want d a5 aO;have bS:d<a.tmps.size:=by
    grind
   have adY:a.tmps[d]? =au6 (a.tmps.getD d undef):=by simp_all
   simp only[avv,adY];by_cases ag:∃b,fr d= .bool b
   ·obtain ⟨b,ag⟩:=ag;rw[ag] at ab;rw[ag,ab.bool];rfl
   grind [aiz]
theorem g6.wanted (X:Ctx P C ops N bm ms vs cG fI bR) (D:g6 P ops ds N bm ms vs cG fI bR listed a w s M j) {i:Nat} {o:Oper} (R:l0 ops listed i o):awI o (yielded ops a.tmps)=av.wanted ops.toList (bm i) o:=by
 refine Xo D.tmps X.dst fun g au1 d a5 aO=>D.slot X R ?_
 grind [s9]
end
end Go.av
end
section
namespace Go.av
theorem ld {A:Array Bool} {i x:Nat} (aj:i<A.size):((A.setIfInBounds i au7).getD x ava=au7)↔(x=i\/A.getD x ava=au7):=by
 simp only[Array.getD,Array.size_setIfInBounds];by_cases ae:x<A.size
 ·simp only[ae,dite_true];by_cases Ob:x=i
  ·simp_all
  simp_all [Ne.symm]
 grind
theorem FM {A:Array Bool} {i x:Nat} (aj:i<A.size) (h:(A.setIfInBounds i au7).getD x ava=ava):x≠i/\A.getD x ava=ava:=by
 grind [ld]
theorem td {a:Act} {d:Option Tmp} {v:au9}:(a.put d v).tmps.size=a.tmps.size/\(a.put d v).defers=a.defers:=by
 cases d<;>simp[Act.put]
theorem sZ {a:Act} {d t:Nat} {v:au9} (aO:d<a.tmps.size):(a.put (au6 d) v).tmps.getD t undef=if t=d then v else a.tmps.getD t undef:=by
 simp only[Act.put,Array.getD,Array.size_setIfInBounds];by_cases aw:t=d
 ·simp_all
 simp_all [Ne.symm]
section
variable {P:avd} {C:FuncId->Array au9->Mem->au9->Mem->Prop} {ops:Array Oper} {N:Nat} {bm:Nat->Nat->au9} {ms:Nat->Mem} {vs:Nat->au9} {ds:List Deferred} {cG:Nat->Nat} {fI:bH} {bR:World}
variable {listed:Array Bool} {a:Act} {w:World} {s:Nat} {M:Mem} {j:bH}
theorem l0.lt {i:Nat} {o:Oper} (R:l0 ops listed i o):i<ops.size:=(awB.1 R.at_).1
theorem g6.MF (D:g6 P ops ds N bm ms vs cG fI bR listed a w s M j) {i:Nat} {o:Oper} (R:l0 ops listed i o):Gu ops (fun x=>(listed.setIfInBounds i au7).getD x ava=au7):=by
 have aj:i<listed.size:=by rw[D.size];exact R.lt
 intro x p ae aM e he ag;refine (ld aj).2 (.inr ?_);rcases (ld aj).1 ae with rfl|ae
 ·rw[R.at_] at aM;cases aM;exact R.Uq e he ag
 ·exact D.closed x p ae aM e he ag
theorem g6.MJ (X:Ctx P C ops N bm ms vs cG fI bR) (D:g6 P ops ds N bm ms vs cG fI bR listed a w s M j) {i:Nat} {o:Oper} (R:l0 ops listed i o) {b0:bH} (fO:∀b e,j b=au6 e->b0 b=au6 e) {ba:au9} (ab:cN b0 (vs i) ba):
  ∀t,(∃x p,ops[x]? =au6 p/\(listed.setIfInBounds i au7).getD x ava=au7/\p.dst=au6 t/\(∀y q,x<y->ops[y]? =au6 q->(listed.setIfInBounds i au7).getD y ava=au7->q.dst≠au6 t)/\cN b0 (vs x) ((a.put o.dst ba).tmps.getD t undef))\/
  ((∀x p,ops[x]? =au6 p->(listed.setIfInBounds i au7).getD x ava=au7->p.dst≠au6 t)/\cN b0 (bm 0 t) ((a.put o.dst ba).tmps.getD t undef)):=by
 have aj:i<listed.size:=by rw[D.size];exact R.lt
 have EV:o∈ops.toList:=by have:=axj R.at_;grind
 intro t;by_cases aO:o.dst=au6 t
 ·left;refine ⟨i,o,R.at_,(ld aj).2 (.inl rfl),aO,fun y q aI bd az wK=> ?_, ?_⟩
  ·rcases (ld aj).1 az with h|h
   ·omega
   ·have aw:t∈s9 ops o:=by grind [s9]
    rcases R.aaF X D aw bd wK with cu|cu
    ·grind
    grind
  ·have bS:t<a.tmps.size:=by rw[D.tmps];exact X.dst o EV t aO
   grind [sZ]
 ·have E2:(a.put o.dst ba).tmps.getD t undef=a.tmps.getD t undef:=by
   cases k6:o.dst with
   |none=>rfl
   |some d=>
    have bS:d<a.tmps.size:=by rw[D.tmps];exact X.dst o EV d k6
    grind [sZ]
  rw[E2];rcases D.cur t with ⟨x,p,aU,aQ,bT,cT,eL⟩|⟨aU,aQ⟩
  ·left;refine ⟨x,p,aU,(ld aj).2 (.inr aQ),bT,fun y q aI bd az=> ?_,eL.mono fO⟩;rcases (ld aj).1 az with h|h
   ·subst h;rw[R.at_] at bd;grind
   grind
  ·right;refine ⟨fun y q bd az=> ?_,aQ.mono fO⟩;rcases (ld aj).1 az with h|h
   ·subst h;rw[R.at_] at bd;grind
   grind
theorem g6.quiet (X:Ctx P C ops N bm ms vs cG fI bR) (D:g6 P ops ds N bm ms vs cG fI bR listed a w s M j) {i:Nat} {o:Oper} (R:l0 ops listed i o) (Vb:cG i≠3) (g8:cG i≠4) {ba:au9} (ab:cN j (vs i) ba):
  g6 P ops ds N bm ms vs cG fI bR (listed.setIfInBounds i au7) (a.put o.dst ba) w s M j:=by
 have aj:i<listed.size:=by rw[D.size];exact R.lt
 refine ⟨by simp[D.size],D.MF R,D.sle,D.last, ?_,D.rel,D.ys,D.wc, ?_, ?_, ?_,by rw[td.2];exact D.defers,by rw[td.1];exact D.tmps,D.MJ X R (fun _ _ h=>h) ab,D.e6,D.ext,D.fresh,D.dN,D.alive⟩
 ·intro x ae au;rw[ld aj,<-D.gm x ae au]
  grind
 ·intro b e ag;rcases D.Ek b e ag with h|⟨x,U,aa,ap,aN,bK⟩
  ·grind
  grind [ld]
 ·intro x ae au az;exact D.vM x ae au (FM aj az).2
 ·intro x U aa ap aN;rcases (ld aj).1 ap with h|h
  ·grind
  ·exact D.Eu x U aa h aN
theorem g6.seen (X:Ctx P C ops N bm ms vs cG fI bR) (D:g6 P ops ds N bm ms vs cG fI bR listed a w s M j) {i:Nat} {o:Oper} (R:l0 ops listed i o) (au:cG i=3) {hU:bo} (hm:ms (i+1)=(ms i).push hU):
  ∀n,i<n->n<=s->(ms n).aS (ms i).next=hU:=by
 intro n;induction n with
 |zero=>grind
 |succ n ar=>
  intro U aa;have aC:=D.sle;by_cases oA:n=i
  ·grind [Mem.push]
  ·have aud:=ar (by omega) (by omega);have a1:n<ops.size:=by omega
   have ao:ops[n]? =au6 ops[n]:=by grind
   have bS:(ms i).next<(ms n).next:=avx (X.ze R.lt au) (X.mono (i+1) n (by omega) (by omega));rcases X.run ao with ⟨_,_,_,jT⟩|⟨_,_,_,jT⟩|⟨_,_,_,jT⟩|⟨_,_,yn,_,jT⟩|⟨nX,_,aM⟩
   ·grind
   ·grind
   ·grind
   ·grind [Mem.push]
   ·have aeb:listed.getD n ava=au7:=(D.gm n a1 nX).2 (by omega);have kc:fA (avK ops) n i=ava:=by
     cases dY:fA (avK ops) n i with
     |false=>rfl
     |true=>have:=D.Mt aeb dY;rw[R.not] at this;grind
    have:=X.T.news i n (by grind) (by grind) (by grind) (by grind) (by omega) (by grind)
    grind
theorem g6.acS (X:Ctx P C ops N bm ms vs cG fI bR) (D:g6 P ops ds N bm ms vs cG fI bR listed a w s M j) {i:Nat} {o:Oper} (R:l0 ops listed i o) (au:cG i=3) {hU:bo} (hm:ms (i+1)=(ms i).push hU)
  {w':World} {e:j5} {ob:Obj} (tR:yd P j w w' hU e ob) {ba:au9} (ab:cN (j.up (ms i).next e) (vs i) ba):
  g6 P ops ds N bm ms vs cG fI bR (listed.setIfInBounds i au7) (a.put o.dst ba) w' s (M.put (ms i).next hU) (j.up (ms i).next e):=by
 have aj:i<listed.size:=by rw[D.size];exact R.lt
 have U5:=D.vM i R.lt au R.not;have hle:=bH.CY (e:=e) U5;have bS:=X.ze R.lt au;have EL:(ms i).next<M.next:=by rw[D.ys];exact avx bS (X.mono (i+1) ops.size R.lt (avm _))
 have bf:(ms 0).next<=(ms i).next:=X.mono 0 i (awf _) (avR R.lt);have fO:∀b x,j.up (ms i).next e b=au6 x->b≠(ms i).next->j b=au6 x:=fun b x ag ev=>by grind [bH.up]
 have gb:∀b,b≠(ms i).next->(M.put (ms i).next hU).aS b=M.aS b:=fun b ag=>by grind [Mem.put]
 have distinct:∀x,x<ops.size->cG x=3->x≠i->(ms x).next≠(ms i).next:=by
  intro x ae mK ev he;rcases avY x i with h|h
  ·have:=X.ze ae mK;have:=X.mono (x+1) i (by omega) (avR R.lt);omega
  ·have:=X.mono (i+1) x (by omega) (avR ae);omega
 refine ⟨by simp[D.size],D.MF R,D.sle,D.last, ?_,D.rel.place U5 EL tR,D.ys, ?_, ?_, ?_, ?_,by rw[td.2];exact D.defers,by rw[td.1];exact D.tmps,D.MJ X R hle ab, ?_, ?_, ?_, ?_, ?_⟩
 ·intro x ae mK;rw[ld aj,<-D.gm x ae mK]
  grind
 ·intro b ag;by_cases nU:b=(ms i).next
  ·subst nU;have EQ:i<s:=by
    rcases avY i s with h|h
    ·grind
    ·have:=X.mono s i h (avR R.lt);omega
   rw[D.seen X R au hm s EQ (avm _)];simp[Mem.put]
  ·rw[gb b nU];exact D.wc b ag
 ·intro b x ag;by_cases nU:b=(ms i).next
  ·subst nU;rcases avY (ms i).next (ms s).next with h|h
   ·grind
   ·right;refine ⟨i, ?_,R.lt,(ld aj).2 (.inl rfl),au,rfl⟩;rcases avY i s with cu|cu
    ·have:=X.mono (i+1) s cu D.sle;omega
    grind
  ·rcases D.Ek b x (fO b x ag nU) with h|⟨y,U,aa,ap,aN,bK⟩
   ·grind
   grind [ld]
 ·intro x ae mK az;obtain ⟨U,aa⟩:=FM aj az;have:=distinct x ae mK U;simp only[bH.up,this,if_false];exact D.vM x ae mK aa
 ·intro x U aa ap aN yn kx;by_cases Ob:x=i
  ·subst Ob;have atD:yn=hU:=by
    have bu:(ms (x+1)).aS (ms x).next=yn:=by grind [Mem.push]
    grind [Mem.push]
   grind [Mem.put]
  ·rw[gb _ (distinct x aa aN Ob)];rcases (ld aj).1 ap with h|h
   ·grind
   ·exact D.Eu x U aa h aN yn kx
 ·have hold:∀c,c<w.heap.size->w'.heap[c]? =w.heap[c]? :=fun c ai=>by rw[tR.heap,awH,if_neg (by omega)]
  exact ⟨tR.os.trans D.e6.os,tR.tape.trans D.e6.tape,tR.output.trans D.e6.output,by rw[tR.heap];simp;have:=D.e6.size;omega,fun c ai bL=>by
   rw[hold c (avx ai D.e6.size)];exact D.e6.block c ai bL⟩
 ·intro b ag;simp only[bH.up,show b≠(ms i).next by omega,if_false];exact D.ext b ag
 ·intro b x ag gU;by_cases nU:b=(ms i).next
  ·subst nU;have ae:x=e:=by grind [bH.up]
   subst ae;exact .inl (by rw[tR.aS];exact D.e6.size)
  ·exact D.fresh b x (fO b x ag nU) gU
 ·intro b ag ao;rw[gb b (by omega)] at ao;exact D.dN b ag ao
 ·intro b ag ao;rw[gb b (by omega)] at ao;exact D.alive b ag ao
theorem g6.fb (X:Ctx P C ops N bm ms vs cG fI bR) (D:g6 P ops ds N bm ms vs cG fI bR listed a w s M j) {i:Nat} {o:Oper} (R:l0 ops listed i o) (au:cG i=4):
  s<=i/\(∀e,s<=e->e<i->cG e≠4)/\Rel P (j.below (ms i).next) (ms i) w/\
  ∀{w':World} {ha:bH} {ba:au9},Post P (j.below (ms i).next) (ms i) w ha (ms (i+1)) w'->cN ha (vs i) ba->
   g6 P ops ds N bm ms vs cG fI bR (listed.setIfInBounds i au7) (a.put o.dst ba) w' (i+1) ((ms (i+1)).join M) (ha.join (ms (i+1)).next j):=by
 have aj:i<listed.size:=by rw[D.size];exact R.lt
 have pq:s<=i:=by
  rcases avY i s with h|h
  ·have:=(D.gm i R.lt au).2 h;rw[R.not] at this;grind
  grind
 have aeG:∀e,e<i->cG e=4->listed.getD e ava=au7:=by
  intro e he jS;have oz:e<ops.size:=Nat.lt_trans he R.lt;have Vl:ops[e]? =au6 ops[e]:=by grind
  refine R.fA D (OL X.ok R.at_ Vl he ?_);simp[q7,X.VC Vl jS,X.VC R.at_ au]
 have ev:∀e,s<=e->e<i->cG e≠4:=by intro e U aa jS;have:=(D.gm e (Nat.lt_trans aa R.lt) jS).1 (aeG e aa jS);omega
 have dY:=D.Ms X pq (avR R.lt) ev;have dO:=(X.wf i (avR R.lt)).1;refine ⟨pq,ev,D.rel.below dO dY, ?_⟩;intro w' ha ba p ab;have at2:=p.next;have atI:∀b e,j b=au6 e->b<(ms i).next\/((ms (i+1)).next<=b/\∃x,i+1<=x/\x<ops.size/\listed.getD x ava=au7/\cG x=3/\b=(ms x).next):=by
  intro b e ag;rcases D.Ek b e ag with h|⟨x,U,aa,ap,aN,bK⟩
  ·exact .inl (avx h (X.mono s i pq (avR R.lt)))
  ·subst bK;rcases axA x i with h|h|h
   ·exact .inl (avx (X.ze aa aN) (X.mono (x+1) i h (avR R.lt)))
   ·grind
   ·exact .inr ⟨X.mono (i+1) x h (avR aa),x,h,aa,ap,aN,rfl⟩
 have EL:(ms (i+1)).next<=M.next:=by rw[D.ys];exact X.mono (i+1) ops.size R.lt (avm _)
 obtain ⟨hrel,fO,ae8⟩:=D.rel.join dY p (fun b e ag=>by grind) EL;have atu:(ms 0).next<=(ms i).next:=X.mono 0 i (awf _) (avR R.lt);have afr:∀b,b<(ms i).next->ha b=j b:=fun b ag=>by rw[p.ext b ag];grind [bH.below]
 have ata:∀b e,j b=au6 e->b<(ms i).next->M.aS b=(ms i).aS b:=dY;refine ⟨by simp[D.size],D.MF R,R.lt, .inr (by grind), ?_,hrel,D.ys, ?_, ?_, ?_, ?_,by rw[td.2];exact D.defers,by rw[td.1];exact D.tmps,D.MJ X R fO (ab.mono ae8), ?_, ?_, ?_, ?_, ?_⟩
 ·intro x ae mK;rw[ld aj,D.gm x ae mK]
  grind
 ·grind [Mem.join]
 ·grind [bH.join,ld]
 ·intro x ae mK az;obtain ⟨U,aa⟩:=FM aj az;have atS:=D.vM x ae mK aa;rcases avY x i with h|h
  ·have afh:(ms x).next<(ms i).next:=avx (X.ze ae mK) (X.mono (x+1) i h (avR R.lt))
   grind [bH.join]
  ·have:(ms (i+1)).next<=(ms x).next:=X.mono (i+1) x (by omega) (avR ae)
   grind [bH.join]
 ·intro x U aa ap aN hU hm;have:(ms (i+1)).next<=(ms x).next:=X.mono (i+1) x U (avR aa);simp only[Mem.join,show ¬(ms x).next<(ms (i+1)).next by omega,if_false];rcases (ld aj).1 ap with h|h
  ·omega
  ·exact D.Eu x (by omega) aa h aN hU hm
 ·refine ⟨p.e6.os.trans D.e6.os,p.e6.tape.trans D.e6.tape,p.e6.output.trans D.e6.output,avz D.e6.size p.e6.size,fun c ai bL=> ?_⟩;rw[p.e6.block c (avx ai D.e6.size) ?_]
  ·exact D.e6.block c ai bL
  ·intro b e ag ao he;obtain ⟨aU,aQ⟩:=pF ag;rcases avY b (ms 0).next with h|h
   ·exact bL b e (by rw[<-D.ext b h];grind) (D.dN b h (by grind)) he
   ·rcases D.fresh b e aQ h with bb|⟨eS,eK,b6,cc,eF⟩
    ·omega
    grind
 ·intro b ag;simp only[bH.join,show b<(ms (i+1)).next by omega,if_true];rw[afr b (by omega)];exact D.ext b ag
 ·intro b e ag gU;unfold bH.join at ag;split at ag
  ·rcases avY b (ms i).next with h|h
   ·exact D.fresh b e (by grind) gU
   ·rcases p.fresh b e ag h with bb|⟨eS,eK,b6,cc,eF⟩
    ·exact .inl (avz D.e6.size bb)
    ·obtain ⟨aU,aQ⟩:=pF b6;rcases avY eS (ms 0).next with cu|cu
     ·exact .inr ⟨eS,eK,by rw[<-D.ext eS cu];grind,D.dN eS cu (by grind),eF⟩
     ·rw[<-eF];exact D.fresh eS eK aQ cu
  ·exact D.fresh b e ag gU
 ·intro b ag ao;have nU:b<(ms (i+1)).next:=by omega
  simp only[Mem.join,nU,if_true] at ao;have ky:=p.dN b (by omega) ao;have a5:=(FG X.T i pq (by simpa using avR R.lt) ev).1;have qd:b<(ms s).next:=avx ag (X.mono 0 s (awf _) D.sle);exact D.dN b ag (by rw[D.wc b qd,<-a5 b qd];grind)
 ·intro b ag ao;have nU:b<(ms (i+1)).next:=by omega
  simp only[Mem.join,nU,if_true] at ao;have ky:=p.alive b (by omega) ao;have a5:=(FG X.T i pq (by simpa using avR R.lt) ev).1;have qd:b<(ms s).next:=avx ag (X.mono 0 s (awf _) D.sle);exact D.alive b ag (by rw[D.wc b qd,<-a5 b qd];grind)
end
end Go.av
end
section
namespace Go.av
section
variable {P:avd} {C:FuncId->Array au9->Mem->au9->Mem->Prop} {ops:Array Oper} {N:Nat} {bm:Nat->Nat->au9} {ms:Nat->Mem} {vs:Nat->au9} {ds:List Deferred} {cG:Nat->Nat} {fI:bH} {bR:World}
variable {listed:Array Bool} {a:Act} {w:World} {s:Nat} {M:Mem} {j:bH}
theorem ajn {i:Nat} (h:i∈axd .any ops listed):∃o,i<ops.size/\ops[i]? =au6 o/\listed.getD i au7=ava/\∀e∈o.after,awq .any e=au7->listed.getD e.on ava=au7:=by
 grind [axd,Array.all_eq_true']
theorem Wi {A:Array Bool} {i:Nat} (aj:i<A.size):A.getD i au7=A.getD i ava:=by grind
def left (n:Nat) (listed:Array Bool):Nat:=((avQ n).filter fun i=> !listed.getD i ava).length
theorem W4 {aA:Type} {p q:aA->Bool}:∀(l:List aA) (x:aA),x∈l->(∀y,p y=au7->q y=au7)->q x=au7->p x=ava->(l.filter p).length<(l.filter q).length
 |[],x,ae,_,_,_=>by grind
 |y::l,x,ae,N0,aeT,aeO=>by
  have hle:(l.filter p).length<=(l.filter q).length:=by
   clear ae;induction l with
   |nil=>simp
   |cons z l ar=>
    grind
  rcases avu.1 ae with rfl|ae
  ·grind
  ·have ar:=W4 l x ae N0 aeT aeO
   grind
theorem aiP {n:Nat} (h:left n listed=0):∀i,i<n->listed.getD i ava=au7:=by
 intro i aj;cases az:listed.getD i ava with
 |true=>rfl
 |false=>
  have:i∈(avQ n).filter fun i=> !listed.getD i ava:=List.mem_filter.2 ⟨List.mem_range.2 aj,by grind⟩;rw[List.eq_nil_of_length_eq_zero h] at this
  grind
theorem g6.all (X:Ctx P C ops N bm ms vs cG fI bR) (D:g6 P ops ds N bm ms vs cG fI bR listed a w s M j) (h:axd .any ops listed=[]):∀i,i<ops.size->listed.getD i ava=au7:=by
 intro i;induction i using Nat.strongRecOn with
 |_ i ar=>
  intro aj;cases az:listed.getD i ava with
  |true=>rfl
  |false=>
   have ao:ops[i]? =au6 ops[i]:=by grind
   have:i∈axd .any ops listed:=by
    simp only[axd,List.mem_filter,List.mem_range,avk,Bool.not_eq_true'];refine ⟨aj,by rw[Wi (by rw[D.size];grind)];grind, ?_⟩;rw[ao];simp only[awC,Option.getD_some,Array.all_eq_true'];intro e he;cases ag:awq .any e with
    |false=>rfl
    |true=>
     have aub:=aiD X.ok ao he ag
     grind
   grind
theorem g6.end (X:Ctx P C ops N bm ms vs cG fI bR) (D:g6 P ops ds N bm ms vs cG fI bR listed a w s M j) (h:∀i,i<ops.size->listed.getD i ava=au7):
  Post P fI (ms 0) bR (j.below (ms ops.size).next) (ms ops.size) w/\(∀t,cN (j.below (ms ops.size).next) (bm ops.size t) (a.tmps.getD t undef))/\a.defers=ds/\a.tmps.size=N:=by
 have ev:∀e,s<=e->e<ops.size->cG e≠4:=fun e U aa au=>by have:=(D.gm e aa au).1 (h e aa);omega
 have dY:=D.Ms X D.sle (avm _) ev;obtain ⟨dO,cU⟩:=X.wf ops.size (avm _);have bf:(ms 0).next<=(ms ops.size).next:=X.mono 0 _ (awf _) (avm _);have a5:=(FG X.T ops.size D.sle (by simp) ev).1;have qd:∀b,b<(ms 0).next->(ms ops.size).aS b=M.aS b:=fun b ag=>by have ek:=avx ag (X.mono 0 s (awf _) D.sle);rw[a5 b ek,D.wc b ek]
 refine ⟨⟨D.rel.below dO dY,D.e6,bf, ?_, ?_, ?_, ?_⟩, ?_,D.defers,D.tmps⟩
 ·intro b ag;simp only[bH.below,show b<(ms ops.size).next by omega,if_true];exact D.ext b ag
 ·intro b e ag gU;exact D.fresh b e (pF ag).2 gU
 ·intro b ag ao;exact D.dN b ag (by grind)
 ·intro b ag ao;exact D.alive b ag (by grind)
 ·intro t;refine xa.2.2 ?_ (cU t);rcases OM X.T t ops.size (by simp) with ⟨x,p,U,aa,ap,aN,bK⟩|⟨U,aa⟩
  ·have k3:ops[x]? =au6 p:=by grind
   rcases D.cur t with ⟨y,q,aU,aQ,bT,cT,eL⟩|⟨aU,_⟩
   ·grind [axA]
   grind
  ·rcases D.cur t with ⟨y,q,aU,aQ,bT,cT,eL⟩|⟨_,aQ⟩
   ·grind
   grind
theorem g6.go (X:Ctx P C ops N bm ms vs cG fI bR) {Q:Exit->Act->World->Prop} (hp:∀a w b0,Post P fI (ms 0) bR b0 (ms ops.size) w->(∀t,cN b0 (bm ops.size t) (a.tmps.getD t undef))->a.defers=ds->a.tmps.size=N->Q .normal a w):
  ∀(jv:Nat) (listed:Array Bool) (a:Act) (w:World) (s:Nat) (M:Mem) (j:bH),g6 P ops ds N bm ms vs cG fI bR listed a w s M j->left ops.size listed<=jv->wpAny P .any ops Q jv listed a w:=by
 intro jv;induction jv with
 |zero=>
  intro listed a w s M j D az;have k4:=aiP (n:=ops.size) (by omega:left ops.size listed=0);obtain ⟨U,aa,ap,aN⟩:=D.end X k4;refine ⟨?_,hp _ _ _ U aa ap aN⟩
  grind [axd,List.filter_eq_nil_iff,Wi]
 |succ jv ar=>
  intro listed a w s M j D az;refine ⟨fun aE=> ?_,fun i aj=> ?_⟩
  ·obtain ⟨U,aa,ap,aN⟩:=D.end X (D.all X aE)
   grind
  ·obtain ⟨o,bS,ao,at7,adN⟩:=ajn aj;have aef:i<listed.size:=by grind
   have R:l0 ops listed i o:=⟨ao,by grind,adN⟩
   have sE:left ops.size (listed.setIfInBounds i au7)<=jv:=by
    have:left ops.size (listed.setIfInBounds i au7)<left ops.size listed:=by
     refine W4 _ i (by grind) (fun y aI=> ?_) (by grind) (by simp_all)
     grind [FM]
    omega
   have qm:=D.wanted X R;have yY:=D.afJ X R;unfold wpOp;rw[ao];simp only[];rcases X.run ao with ⟨au,hw,ab,_⟩|⟨au,hw,aM,_⟩|⟨au,hw,aM,_⟩|⟨au,hw,hU,aM,hm⟩|⟨au,hw,aM⟩
   ·rw[qm,hw,if_neg (by simp)];exact ar _ _ _ s M j (D.quiet X R (by omega) (by omega) (by rw[ab];exact ⟨#[],rfl,avo⟩)) sE
   ·rw[qm,hw,if_pos rfl];left;obtain ⟨ba,aE,hM⟩:=OT aM yY w;unfold awj;rw[aE];exact ar _ _ _ s M j (D.quiet X R (by omega) (by omega) hM) sE
   ·rw[qm,hw,if_pos rfl];left;have aeX:∃z,eJ P (a8 (bm i)) o (ms z) (vs i)/\sm P j (ms z) w:=by
     rcases avY i s with EQ|EQ
     ·refine ⟨s, ?_,D.mW X (avm _) D.sle (fun e U aa=>by omega)⟩;rcases D.last with bf|aea
      ·omega
      ·have hh:s - 1+1=s:=by omega
       have rn:=D.sle;have ev:i≠s - 1:=by grind
       have aeg:listed.getD (s - 1) ava=au7:=(D.gm (s - 1) (by omega) aea).2 (by omega);have kc:fA (avK ops) (s - 1) i=ava:=by
        cases dY:fA (avK ops) (s - 1) i with
        |false=>rfl
        |true=>
         have:=D.Mt aeg dY
         grind
       have:=X.T.after i (s - 1) o (by grind) (by grind) (by grind) (by grind) (by omega) (by grind)
       grind
     ·by_cases hex:∃e,s<=e/\e<i/\cG e=4
      ·
       have NP:∃z,s<=z/\z<i/\cG z=4/\∀e,s<=e->e<z->cG e≠4:=by
        obtain ⟨e,U,aa,ap⟩:=hex;clear qm yY;induction e using Nat.strongRecOn with
        |_ e aum=>
         grind
       obtain ⟨z,U,aa,ap,aN⟩:=NP;refine ⟨z, ?_,D.mW X U (by omega) aN⟩;have kc:fA (avK ops) i z=ava:=by
        cases dY:fA (avK ops) i z with
        |false=>rfl
        |true=>have:=(D.gm z (by omega) ap).1 (R.fA D dY);omega
       have:=X.T.ahead i z o (by grind) (by grind) (by grind) (by grind) aa (by grind)
       grind
      ·exact ⟨i,aM,D.mW X EQ (avR bS) (fun e U aa ap=>hex ⟨e,U,aa,ap⟩)⟩
    obtain ⟨z,et,ew⟩:=aeX;obtain ⟨ba,aE,hM⟩:=WN et yY ew;unfold awj;rw[aE];exact ar _ _ _ s M j (D.quiet X R (by omega) (by omega) hM) sE
   ·rw[qm,hw,if_pos rfl];left;obtain ⟨ba,w',e,ob,aE,a1,hM⟩:=Yl aM yY w;unfold awj;rw[aE];exact ar _ _ _ s _ _ (D.acS X R au hm a1 (hM _ (by simp[bH.up]))) sE
   ·rw[qm,hw,if_pos rfl];left;obtain ⟨U,aa,ap,aN⟩:=D.fb X R au;obtain ⟨adt,adj⟩:=X.wf i (avR bS);have EV:o∈ops.toList:=by grind
    have aeF:hk (j.below (ms i).next) (a8 (bm i)) a.eval o:=fun x ae=>xa.2.2 (yY x ae) (Y8 adj (X.Fz o EV x ae));exact Y6 aM aeF ap adt X.sound fun ba w' ha uH hM=>ar _ _ _ _ _ _ (aN uH hM) sE
end
theorem aiT {P:avd} {C:FuncId->Array au9->Mem->au9->Mem->Prop} {ops:Array Oper} {id:Nat} {fr bB:Nat->au9} {m m':Mem} {j:bH} {a:Act} {ds:List Deferred} {w:World} {Q:Exit->Act->World->Prop}
  (nY:P.follows .mixedOrders=au7) (h:g3 P C ops.toList (avK ops) 0 ops.toList ⟨[],[],[]⟩ fr m bB m') (ew:tg ops=au7) (cC:∀o∈ops.toList,∀x∈o.op.operands,mm x=au7) (sF:∀o∈ops.toList,∀d,o.dst=au6 d->d<a.tmps.size)
  (cf:n3 C) (kq:vl P C) (cl:Rel P j m w) (dO:WF m) (hq:∀t,cN j (fr t) (a.tmps.getD t undef)) (aO:a.defers=ds)
  (hp:∀a' w' b0,Post P j m w b0 m' w'->(∀t,cN b0 (bB t) (a'.tmps.getD t undef))->a'.defers=ds->a'.tmps.size=a.tmps.size->Q .normal a' w'):(Code.region id ops au7).wp P Q a w:=by
 refine wp_region_any nY ?_;obtain ⟨bm,ms,vs,cG,T,U,aa,ap,aN,_⟩:=Wg _ _ _ _ _ _ _ h;simp only[avD,Array.length_toList] at ap aN;have wy:Rel P j (ms 0) {w with drawn:=w.drawn+1}:=by grind [aj9]
 have bS:∀b e,j b=au6 e->b<(ms 0).next:=fun b e ag=>by rw[aa];exact (cl.lt b e ag).1
 have X:Ctx P C ops a.tmps.size bm ms vs cG j {w with drawn:=w.drawn+1}:=⟨T,ew,cC,sF,cf,kq,wy,by grind,fun t=>by rw[U];exact (Gv bS).2.2 (hq t)⟩
 have qg:∀i,(av1 ops.size ava).getD i ava=au7->False:=by simp_all [Array.getD]
 have D:g6 P ops ds a.tmps.size bm ms vs cG j {w with drawn:=w.drawn+1} (av1 ops.size ava) a {w with drawn:=w.drawn+1} 0 {next:=(ms ops.size).next,aS:=(ms 0).aS} j:=by
  refine ⟨by simp,fun i o aj=>(qg i aj).elim,awf _, .inl rfl,fun i _ _=>⟨fun h=>(qg i h).elim,fun h=>by omega⟩, ?_,rfl,fun b _=>rfl,fun b e ag=> .inl (bS b e ag), ?_,fun i _ _ h=>(qg i h).elim,aO,rfl, ?_,q1.refl _ _ _,fun _ _=>rfl, ?_,fun _ _ h=>h,fun _ _ h=>h⟩
  ·refine ⟨⟨fun b e ag=>⟨avx (bS b e ag) (X.mono 0 _ (awf _) (avm _)),(wy.lt b e ag).2⟩,wy.obj,wy.inj⟩,wy.kI.val,wy.kI.sep⟩
  ·intro i aj au az;cases aZ:j (ms i).next with
   |none=>rfl
   |some e=>have:=bS _ e aZ;have:=X.mono 0 i (awf _) (avR aj);omega
  ·grind
  grind
 refine g6.go X (fun a' w' b0 p ab yP aC=>hp a' w' b0 ?_ (by grind) yP aC) _ _ _ _ _ _ _ D ?_
 ·rw[aa,aN] at p;exact ⟨p.rel,⟨p.e6.os,p.e6.tape,p.e6.output,p.e6.size,p.e6.block⟩,p.next,p.ext,p.fresh,p.dN,p.alive⟩
 grind [left]
end Go.av
end
section
namespace Go.av
theorem Rel.Nc {P:avd} {j:bH} {m:Mem} {w w':World} (h:Rel P j m w) (U:w'.os=w.os) (aa:w'.tape=w.tape) (ap:w'.output=w.output) (aN:w.heap.size<=w'.heap.size) (bK:∀c,c<w.heap.size->w'.heap[c]? =w.heap[c]?):Post P j m w j m w':=
 .of h ⟨fun b e ag=>⟨(h.lt b e ag).1,avx (h.lt b e ag).2 aN⟩,fun b e ag=>by rw[bK _ (h.lt b e ag).2];exact h.obj b e ag,h.inj⟩
  ⟨U,aa,ap,aN,fun c ai _=>bK c ai⟩ (avm _) (fun _ _=>rfl) (fun b e ag a1=>absurd (h.lt b e ag).1 (awu.2 a1)) (fun _ _ h=>h) (fun _ _ h=>h)
theorem ajk {j:bH} {v:au9} (h:cP v=au7):dC j v v:=nq h
theorem aiE {P:avd} {f:FuncId} {args:Array au9} {m m':Mem} {v:au9} (h:nL P f args m v m') (dO:WF m):low m'.next v/\WF m'/\m.next<=m'.next:=by
 cases h with
 |none a c g h aY=>exact ⟨by intro x ae;simp at ae,dO,avm _⟩
 |flat v uf sA h=>exact ⟨F3 sA,dO,avm _⟩
 |any v m' a1 au h=>exact ⟨(au dO).1,(au dO).2,a1⟩
 |fresh cs e l uf Et az ag h=>refine ⟨av5 _,dO.push ?_,avJ _⟩;intro v ab;exact qz (avt.1 Et v ab)
 |row b off l c g L e F m4 h aY az hm dQ a1 mG f1 f2=>
  refine ⟨by intro x ae;simp at ae,⟨fun c ai=> ?_,fun c=> ?_⟩,avm _⟩
  ·have ai:m.next<=c:=ai;simp only[Mem.put];split
   ·rename_i fj;subst fj;have:=dO.dead c ai;rw[hm] at this;cases this
   ·exact dO.dead c ai
  ·simp only[Mem.put];split
   ·intro v ab;rcases te _ _ _ _ ab with ab|ab
    ·have:=dO.low b;rw[hm] at this;exact this v ab
    ·exact qz (avt.1 f2 v ab)
   ·exact dO.low c
theorem Xj {j:bH} {s:au9} {g:Nat} {hn:Array au9} (h:br (cN j) (#[s, .func (.func g) #[] #[]]:Array au9).toList hn.toList):∃cs,cN j s cs/\hn=#[cs, .func (.func g) #[] #[]]:=by
 obtain ⟨l⟩:=hn
 match l,h with
 |[c1,c2],⟨U,⟨gs,ds,aa,ap,aN⟩,_⟩=>
  refine ⟨c1,U, ?_⟩;have bu:gs=#[]:=by
   obtain ⟨l⟩:=gs;cases l with
   |nil=>rfl
   |cons _ _=>exact ap.elim
  have e2:ds=#[]:=by
   obtain ⟨l⟩:=ds;cases l with
   |nil=>rfl
   |cons _ _=>exact aN.elim
  grind
 |[_],⟨_,h⟩=>exact h.elim
 |[],h=>exact h.elim
 |_::_::_::_,⟨_,_,h⟩=>exact h.elim
theorem aiF {P:avd} {f:FuncId} {args:Array au9} {m m':Mem} {v:au9} (h:nL P f args m v m') {j:bH} {w:World} {hn:Array au9} (dO:WF m) (cl:Rel P j m w) (dY:br (cN j) args.toList hn.toList):
  Calls P f hn w fun e w'=>∃ba b0,e= .returned ba/\Post P j m w b0 m' w'/\cN b0 v ba:=by
 cases h with
 |none a c g h aY=>
  subst aY;obtain ⟨cs,U,rfl⟩:=Xj dY;have ae:∃p cap,cs= .slice p 0 cap:=by
   cases a with
   |none=>exact ⟨_,_,U.kH⟩
   |some a=>obtain ⟨q,_,_,ai⟩:=U.slice;rcases ai with ⟨_,ai⟩|⟨_,_,_,_,_,_,ai⟩|⟨_,_,_,ai⟩|⟨_,_,_,ai⟩|⟨_,_,_,_,_,_,_,_,_,ai⟩<;>exact ⟨_,_,ai⟩
  obtain ⟨p,cap,rfl⟩:=ae;refine (h p cap w).mono ?_;rintro e w' ⟨rfl,rfl⟩;exact ⟨_,j,rfl,Post.refl cl,#[],rfl,avo⟩
 |flat v uf sA h=>
  have he:hn=args:=by have:=br.wo (p:=av.flat) (fun a b h aa=>xj h aa) uf dY;cases hn;cases args;simp at this;rw[this]
  subst he;refine (h w cl.kI.val).mono ?_;rintro e w' ⟨rfl,g⟩;exact ⟨v,j,rfl,cl.Nc g.os g.tape g.output g.size g.heap,O3 sA⟩
 |any v m' a1 au h=>exact h j w hn dO cl dY
 |fresh cs e l uf Et az ag h=>
  have he:hn=args:=by have:=br.wo (p:=av.flat) (fun a b h aa=>xj h aa) uf dY;cases hn;cases args;simp at this;rw[this]
  subst he;refine (h w cl.kI.val).mono ?_;rintro x w' ⟨rfl,rfl⟩;refine ⟨_,_,rfl,cl.push (X:= .own cs e) (e:=⟨w.heap.size,l,P.cellsOf e,0⟩) (ob:= .cells cs.toArray e) rfl rfl rfl rfl rfl ?_, ?_⟩
  ·exact ⟨cs.toArray,_,rfl,fun i aj bb=>by simp at bb,rfl,by simp[az],by rw[az];exact avm _,fun i v aj=>⟨v,by simpa using aj,nq (avt.1 Et v (av4 aj))⟩⟩
  ·exact ⟨⟨w.heap.size,l,P.cellsOf e,0⟩,rfl,by simp[bH.up], .inl ⟨ag,rfl⟩⟩
 |row b off l c g L e F m4 h aY az hm dQ a1 mG f1 f2=>
  subst aY;obtain ⟨p7,U,rfl⟩:=Xj dY;obtain ⟨q,_,aZ,ai⟩:=U.slice;have ae:∃cap,p7= .slice (au6 ⟨q.aS,q.dS+off,au8⟩) l cap:=by
   rcases ai with ⟨_,ai⟩|⟨_,_,_,_,_,_,ai⟩|⟨_,gd,_⟩|⟨_,gd,_⟩|⟨_,_,_,_,_,_,_,_,_,ai⟩
   ·exact ⟨_,ai⟩
   ·exact ⟨_,ai⟩
   ·omega
   ·omega
   ·exact ⟨_,ai⟩
  obtain ⟨cap,rfl⟩:=ae;have aZ:j b=au6 q:=aZ;obtain ⟨cs,bl,aU,aQ,bT,cT,eL,gX⟩:=cl.own b q L e aZ hm;have adf:∀(i:Nat) (v:au9),F[i]? =au6 v->cs[q.dS+off+i]? =au6 v:=by intro i v aj;have bS:=(avr.1 aj).1;have NF:=aj;rw[<-dQ,List.getElem?_take,if_pos bS,List.getElem?_drop] at NF;obtain ⟨ba,b6,cc⟩:=gX _ v NF;have uv:cP v=au7:=avt.1 f1 v (av4 aj);rw[zA uv cc] at b6;rw[avZ];exact b6
  refine (h w q.aS (q.dS+off) cap cs e bl aU adf aQ).mono ?_;rintro ex w' ⟨rfl,b6,cc,eF,jk,qs,Ff⟩;have bS:=(cl.lt b q aZ).2;have hlen:(e9 cs.toList (q.dS+off) m4).length=cs.size:=by rw[nn];simp
  have sM:(e9 L off m4).length=L.length:=nn _ _ _;have aM:=cl.write (L':=e9 L off m4) (cs':=(e9 cs.toList (q.dS+off) m4).toArray) aZ hm aU (by simpa using hlen) (by rw[sM];exact eL) (fun i v aj=>by
   rw[oQ _ _ _ _ (by omega)] at aj;rw[axb,oQ _ _ _ _ (by rw[mG];simp;omega)];by_cases oA:off<=i/\i<off+m4.length
   ·rw[if_pos oA] at aj;rw[if_pos (by omega),show q.dS+i - (q.dS+off)=i - off by omega];exact ⟨v,aj,ajk (avt.1 f2 v (av4 aj))⟩
   ·rw[if_neg oA] at aj;rw[if_neg (by omega)];obtain ⟨ba,b6,cc⟩:=gX i v aj;exact ⟨ba,by simpa using b6,cc⟩)
  refine ⟨_,j,rfl,aM.trans (aM.rel.Nc b6 cc eF (by simpa[jY] using jk) fun c ai=> ?_),#[],rfl,avo⟩;have ai:c<w.heap.size:=by simpa[jY] using ai
  by_cases fj:c=q.aS
  ·subst fj;rw[Ff,OU bS]
  ·rw[qs c ai fj,OV fj]
end Go.av
end
section
namespace Go.av
variable {ds:List Deferred}
theorem j6.put {j b0:bH} {N:Nat} {fr:Nat->au9} {a:Act} {d:Option Tmp} {v ba:au9} (h:j6 ds j N fr a) (fO:∀b e,j b=au6 e->b0 b=au6 e) (aO:∀t,d=au6 t->t<N) (ab:cN b0 v ba):j6 ds b0 N (set fr d v) (a.put d ba):=by
 refine ⟨fun t=> ?_,by rw[td.2];exact h.defers,by rw[td.1];exact h.size⟩;cases d with
 |none=>exact (h.val t).mono fO
 |some x=>
  have ae:x<a.tmps.size:=by rw[h.size];grind
  rw[sZ ae];simp only[set];split
  ·grind
  ·exact (h.val t).mono fO
theorem j6.ops {j:bH} {N:Nat} {fr:Nat->au9} {a:Act} (h:j6 ds j N fr a) {o:Oper} (ao:∀x∈o.op.operands,mm x=au7):hk j (a8 fr) a.eval o:=
 fun x ae=>PX (ao x ae) fun t _=>h.val t
theorem Xp (j:bH):cN j undef undef:=⟨#[],rfl,avo⟩
theorem OY {P:avd} {C:FuncId->Array au9->Mem->au9->Mem->Prop} {ops:Array Oper} {N:Nat} {Q:Exit->Act->World->Prop} (cf:n3 C) (kq:vl P C) (sF:∀o∈ops.toList,∀d,o.dst=au6 d->d<N):
  ∀(l:List Oper) (fr bB:Nat->au9) (m m':Mem) (j:bH) (a:Act) (w:World),(∀o∈l,(∀x∈o.op.operands,mm x=au7)/\∀d,o.dst=au6 d->d<N)->jy P C ops.toList l fr m bB m'->Rel P j m w->WF m->j6 ds j N fr a->
   (∀a' w' b0,Post P j m w b0 m' w'->j6 ds b0 N bB a'->Q .normal a' w')->wpList P ops Q l a w
 |[],fr,bB,m,m',j,a,w,az,h,cl,dO,dQ,hp=>by simp only[jy] at h;obtain ⟨rfl,rfl⟩:=h;exact hp a w j (Post.refl cl) dQ
 |o::l,fr,bB,m,m',j,a,w,az,h,cl,dO,dQ,hp=>by
  obtain ⟨ae,aO⟩:=az o (by simp);have gv:∀o∈l,(∀x∈o.op.operands,mm x=au7)/\∀d,o.dst=au6 d->d<N:=fun p aM=>az p (by grind);have qm:awI o (yielded ops a.tmps)=wanted ops.toList fr o:=Xo dQ.size sF fun g w d a5 aO=>dQ.val d;unfold wpList;rw[qm];simp only[jy] at h;by_cases hw:wanted ops.toList fr o=au7
  ·rw[if_pos hw];rw[if_pos hw] at h;obtain ⟨v,bz,wL,y3⟩:=h;have pk:∀t,low m.next (fr t):=fun t=>(Gv fun b e ag=>(cl.lt b e ag).1).2.2 (dQ.val t);have eX:=u7 wL dO pk cf ae;have NX:=dQ.ops ae;have cont:∀ba w' b0,Post P j m w b0 bz w'->cN b0 v ba->wpList P ops Q l (a.put o.dst ba) w':=fun ba w' b0 aM ab=>
    OY cf kq sF l _ _ _ _ b0 _ _ gv y3 aM.rel eX.2.1 (dQ.put (aM.up cl) aO ab) fun a' vN uM uF mG=>hp a' vN uM (aM.trans uF) mG
   left;cases wL with
   |pure h=>obtain ⟨ba,aE,ab⟩:=OT h NX w;unfold awj;rw[aE];exact cont ba w j (Post.refl cl) ab
   |read h=>obtain ⟨ba,aE,ab⟩:=WN h NX cl.mW;unfold awj;rw[aE];exact cont ba w j (Post.refl cl) ab
   |new h=>obtain ⟨ba,w',b0,aE,aM,ab⟩:=ajh h NX cl;unfold awj;rw[aE];exact cont ba w' b0 aM ab
   |fb h=>grind [Y6]
  ·rw[if_neg hw];rw[if_neg hw] at h;exact OY cf kq sF l _ _ _ _ j _ _ gv h cl dO (dQ.put (fun _ _ h=>h) aO (Xp j)) hp
theorem PK {P:avd} {C:FuncId->Array au9->Mem->au9->Mem->Prop} {ops:List Oper} (cf:n3 C):∀(l:List Oper) (fr bB:Nat->au9) (m m':Mem),(∀o∈l,∀x∈o.op.operands,mm x=au7)->jy P C ops l fr m bB m'->WF m->(∀t,low m.next (fr t))->
  WF m'/\(∀t,low m'.next (bB t))/\m.next<=m'.next
 |[],fr,bB,m,m',az,h,dO,bb=>by simp_all [jy]
 |o::l,fr,bB,m,m',az,h,dO,bb=>by
  simp only[jy] at h;have gv:∀o∈l,∀x∈o.op.operands,mm x=au7:=fun p aM=>az p (by grind);split at h
  ·obtain ⟨v,bz,wL,y3⟩:=h;have eX:=u7 wL dO bb cf (az o (by simp));have:=PK cf l _ _ _ _ gv y3 eX.2.1 (zK (fun t=>Pd eX.2.2 (bb t)) eX.1)
   grind
  ·exact PK cf l _ _ _ _ gv h dO (zK bb FQ)
theorem Pg {P:avd} {C:FuncId->Array au9->Mem->au9->Mem->Prop} {ops:List Oper} {B:Array Nat} (cf:n3 C):∀(l:List Oper) (i:Nat) (A:Acc) (fr bB:Nat->au9) (m m':Mem),(∀o∈l,∀x∈o.op.operands,mm x=au7)->g3 P C ops B i l A fr m bB m'->WF m->(∀t,low m.next (fr t))->
  WF m'/\(∀t,low m'.next (bB t))/\m.next<=m'.next
 |[],i,A,fr,bB,m,m',az,h,dO,bb=>by simp_all [g3]
 |o::l,i,A,fr,bB,m,m',az,h,dO,bb=>by
  simp only[g3] at h;have gv:∀o∈l,∀x∈o.op.operands,mm x=au7:=fun p aM=>az p (by grind);have key:∀v bz hQ,nM P C (a8 fr) o m v bz->g3 P C ops B (i+1) l hQ (set fr o.dst v) bz bB m'->WF m'/\(∀t,low m'.next (bB t))/\m.next<=m'.next:=by
   intro v bz hQ wL y3;have eX:=u7 wL dO bb cf (az o (by simp));have:=Pg cf l _ _ _ _ _ _ gv y3 eX.2.1 (zK (fun t=>Pd eX.2.2 (bb t)) eX.1)
   grind
  split at h
  ·rcases h with ⟨v,aM,aO⟩|⟨v,aM,_,aO⟩|⟨X,v,aM,aO⟩|⟨v,bz,aM,_,_,aO⟩
   ·exact key _ _ _ (.pure aM) aO
   ·exact key _ _ _ (.read aM) aO
   ·exact key _ _ _ (.new aM) aO
   ·exact key _ _ _ (.fb aM) aO
  ·exact Pg cf l _ _ _ _ _ _ gv h dO (zK bb FQ)
theorem Pq {n id:Nat} {ops:Array Oper} {d:Bool} (h:iB n (.region id ops d)=au7):(∀o∈ops.toList,(∀x∈o.op.operands,mm x=au7)/\∀d,o.dst=au6 d->d<n)/\(d=au7->tg ops=au7):=by
 grind [iB]
theorem zx {P:avd} {C:FuncId->Array au9->Mem->au9->Mem->Prop} (cf:n3 C) {N:Nat}:∀(n:Nat) (c:Code) (fr bB:Nat->au9) (m m':Mem) (e:eY),iB N c=au7->kh P C n c fr m e bB m'->WF m->(∀t,low m.next (fr t))->
  WF m'/\(∀t,low m'.next (bB t))/\m.next<=m'.next:=by
 intro n;induction n with
 |zero=>intro c fr bB m m' e _ h;exact h.elim
 |succ n ar=>
  intro c fr bB m m' e ew h dO bb;cases c with
  |skip=>obtain ⟨_,rfl,rfl⟩:=h;grind
  |label l=>obtain ⟨_,rfl,rfl⟩:=h;grind
  |exit id=>obtain ⟨_,rfl,rfl⟩:=h;grind
  |ret=>obtain ⟨_,rfl,rfl⟩:=h;grind
  |region id ops d=>
   have aE:=Pq ew;cases d with
   |false=>exact PK cf _ _ _ _ _ (fun o ao=>(aE.1 o ao).1) h.2 dO bb
   |true=>exact Pg cf _ _ _ _ _ _ _ (fun o ao=>(aE.1 o ao).1) h.2 dO bb
  |seq a b=>
   simp only[iB,avk] at ew;rcases h with ⟨bu,cX,bz,U,aa⟩|h
   rotate_left
   ·exact ⟨(h.2.low dO bb).1,(h.2.low dO bb).2,h.2.next⟩
   obtain ⟨aU,aQ,bT⟩:=ar a _ _ _ _ _ ew.1 U dO bb;split at aa
   ·grind
   simp_all
  |cond c a b=>
   simp only[iB,avk] at ew;obtain ⟨t,_,U⟩:=h
   grind
  |block id c=>obtain ⟨bu,U,_⟩:=h;exact ar c _ _ _ _ _ ew U dO bb
  |scope c=>exact ar c _ _ _ _ _ ew h dO bb
  |loop c=>
   obtain ⟨bu,cX,bz,U,aa⟩:=h;obtain ⟨aU,aQ,bT⟩:=ar c _ _ _ _ _ ew U dO bb;split at aa
   ·grind
   simp_all
  |rangeFunc f cn x y=>exact h.elim
  |goto l=>exact h.elim
  |refuse s=>exact h.elim
def Y0 (P:avd) (C:FuncId->Array au9->Mem->au9->Mem->Prop) (N n:Nat) (c:Code):Prop:=
 ∀⦃ds:List Deferred⦄ (fr bB:Nat->au9) (m m':Mem) (e:eY) (j:bH) (a:Act) (w:World) (Q:Exit->Act->World->Prop),
  iB N c=au7->kh P C n c fr m e bB m'->Rel P j m w->WF m->j6 ds j N fr a->(∀a' w' b0,Post P j m w b0 m' w'->j6 ds b0 N bB a'->Q e.out a' w')->c.wp P Q a w
theorem j6.low {P:avd} {j:bH} {N:Nat} {fr:Nat->au9} {a:Act} {m:Mem} {w:World} (dQ:j6 ds j N fr a) (cl:Rel P j m w):∀t,low m.next (fr t):=fun t=>(Gv fun b e ag=>(cl.lt b e ag).1).2.2 (dQ.val t)
theorem aiX {P:avd} {C:FuncId->Array au9->Mem->au9->Mem->Prop} (cf:n3 C) {N:Nat} {c:Code} (ew:iB N c=au7):∀(n:Nat),(∀n',n'<n->Y0 P C N n' c)->∀(fr bB:Nat->au9) (m m':Mem) (e:eY) (j:bH) (a:Act) (w:World) (Q:Exit->Act->World->Prop),
  kh P C n (.loop c) fr m e bB m'->Rel P j m w->WF m->j6 ds j N fr a->(∀a' w' b0,Post P j m w b0 m' w'->j6 ds b0 N bB a'->Q e.out a' w')->
  ∀(b:Frame) (k:List Item) (cs:List Frame),∃b2 a' w',Q b2 a' w'/\Arrives P (lone (b.at a (.code c:: .inLoop c::k)) cs w) b k cs b2 a' w':=by
 intro n;induction n with
 |zero=>intro _ fr bB m m' e j a w Q h;exact h.elim
 |succ n ar=>
  intro dY fr bB m m' e j a w Q h cl dO dQ hp b k cs;obtain ⟨bu,cX,bz,U,aa⟩:=h;have az:=zx cf n c _ _ _ _ _ ew U dO (dQ.low cl);by_cases he:bu= .normal
  ·subst he;rw[if_pos rfl] at aa;have key:c.wp P (fun e a' w'=>e= .normal/\∃b2 T5 vN,Q b2 T5 vN/\Arrives P (lone (b.at a' (.code c:: .inLoop c::k)) cs w') b k cs b2 T5 vN) a w:=
    dY n (av5 n) _ _ _ _ _ j a w _ ew U cl dO dQ fun cz di ha aM lE=>
     ⟨rfl,ar (fun n' oD=>dY n' (by omega)) _ _ _ _ _ ha cz di Q aa aM.rel az.1 lE (fun dw gV qq yZ um=>hp dw gV qq (aM.trans yZ) um) b k cs⟩
   obtain ⟨b2,cz,di,⟨rfl,e2,dw,gV,aeR,adw⟩,yJ⟩:=key b (.inLoop c::k) cs;exact ⟨e2,dw,gV,aeR, .of_steps (Steps.trans yJ (.one step_inLoop)) adw⟩
  ·rw[if_neg he] at aa;obtain ⟨rfl,rfl,rfl⟩:=aa;have key:c.wp P (fun b2 a' w'=>b2≠ .normal/\Q b2 a' w') a w:=
    dY n (av5 n) _ _ _ _ _ j a w _ ew U cl dO dQ fun cz di ha aM lE=>⟨by cases e with
     |normal=>grind
     |exit id=>simp[eY.out]
     |ret=>simp[eY.out],hp cz di ha aM lE⟩
   obtain ⟨b2,cz,di,⟨ev,bd⟩,yJ⟩:=key b (.inLoop c::k) cs;exact ⟨b2,cz,di,bd, .pass (x:= .inLoop c) rfl (fun _ _=> .inl ev) yJ⟩
theorem ON {P:avd} {C:FuncId->Array au9->Mem->au9->Mem->Prop} (nY:P.follows .mixedOrders=au7) (cf:n3 C) (kq:vl P C) {N:Nat}:∀(n:Nat) (c:Code),Y0 P C N n c:=by
 intro n;induction n using Nat.strongRecOn with
 |_ n ar=>
 cases n with
 |zero=>intro c ds fr bB m m' e j a w Q _ h;exact h.elim
 |succ n=>
  intro c ds fr bB m m' e j a w Q ew h cl dO dQ hp;have pk:=dQ.low cl;have wP:=ar n (av5 n);cases c with
  |skip=>obtain ⟨rfl,rfl,rfl⟩:=h;exact wp_skip (hp a w j (Post.refl cl) dQ)
  |label l=>obtain ⟨rfl,rfl,rfl⟩:=h;exact wp_label (hp a w j (Post.refl cl) dQ)
  |exit id=>obtain ⟨rfl,rfl,rfl⟩:=h;exact wp_exit (hp a w j (Post.refl cl) dQ)
  |ret=>obtain ⟨rfl,rfl,rfl⟩:=h;exact wp_ret (hp a w j (Post.refl cl) dQ)
  |region id ops d=>
   have aE:=Pq ew;have sF:∀o∈ops.toList,∀d,o.dst=au6 d->d<N:=fun o ao=>(aE.1 o ao).2;cases d with
   |false=>obtain ⟨rfl,h⟩:=h;exact wp_region_list (OY cf kq sF _ _ _ _ _ j a w aE.1 h cl dO dQ hp)
   |true=>obtain ⟨rfl,h⟩:=h;exact aiT nY h (aE.2 rfl) (fun o ao=>(aE.1 o ao).1) (by rw[dQ.size];grind) cf kq cl dO dQ.val dQ.defers fun a' w' b0 aM ab aO aC=>hp a' w' b0 aM ⟨ab,aO,by rw[aC];exact dQ.size⟩
  |seq a' b=>
   have aeB:=ew;simp only[iB,avk] at ew;rcases h with ⟨bu,cX,bz,U,aa⟩|h
   rotate_left
   ·exact h.2.sound aeB cl dO dQ hp
   have az:=zx cf n a' _ _ _ _ _ ew.1 U dO pk;refine wp_seq (wP a' _ _ _ _ _ j a w _ ew.1 U cl dO dQ fun cz di ha aM lE=> ?_);split at aa
   ·rename_i he;subst he;exact wP b _ _ _ _ _ ha cz di Q ew.2 aa aM.rel az.1 lE fun dw gV qq yZ um=>hp dw gV qq (aM.trans yZ) um
   ·rename_i he;obtain ⟨rfl,rfl,rfl⟩:=aa;cases e with
    |normal=>grind
    |exit id=>exact hp cz di ha aM lE
    |ret=>exact hp cz di ha aM lE
  |cond c x y=>
   simp only[iB,avk] at ew;obtain ⟨t,aw,U⟩:=h;have ab:cN j (a8 fr c) (a.eval c):=PX ew.1.1 fun t _=>dQ.val t;rw[aw] at ab;refine wp_cond ab.bool ?_;cases t
   ·exact wP y _ _ _ _ _ j a w Q ew.2 U cl dO dQ hp
   ·exact wP x _ _ _ _ _ j a w Q ew.1.2 U cl dO dQ hp
  |scope c=>refine wp_scope_straight (wP c _ _ _ _ _ j a w _ ew h cl dO dQ fun cz di ha aM lE=> ?_);have:=hp cz di ha aM lE;cases e<;>exact this
  |block id c=>
   obtain ⟨bu,U,he⟩:=h;refine wp_block (wP c _ _ _ _ _ j a w _ ew U cl dO dQ fun cz di ha aM lE=> ?_);have:=hp cz di ha aM lE;rw[he] at this;cases bu with
   |normal=>simp only[eY.out] at this⊢;exact this
   |exit Fb=>
    grind [eY.out,Exit.inBlock]
   |ret=>simp only[eY.out] at this⊢;exact this
  |loop c=>intro b k cs;obtain ⟨b2,cz,di,bd,yJ⟩:=aiX cf (c:=c) ew (n+1) (fun n' oD=>ar n' oD c) _ _ _ _ _ j a w Q h cl dO dQ hp b k cs;exact ⟨b2,cz,di,bd, .of_steps (.one step_loop) yJ⟩
  |rangeFunc f cn x y=>exact h.elim
  |goto l=>exact h.elim
  |refuse s=>exact h.elim
theorem aim {P:avd} {fr:Nat->au9} {m:Mem} {j:bH} {N:Nat} {a:Act} {w:World} (cl:Rel P j m w) (dQ:j6 ds j N fr a) {r:ResultVar} {v:au9} (h:zI P fr m r v):
  ∃ba,(match r with| .tmp t=>(pure (a.tmps.getD t undef):Sem au9)| .cell x t=>do loadVar t (<-asAddr (a.tmps.getD x undef))).run P w= .ok ba w/\cN j v ba:=by
 cases r with
 |tmp t=>simp only[zI] at h;subst h;exact ⟨_,rfl,dQ.val t⟩
 |cell x t=>
  obtain ⟨b,off,ae,d,aO,ab⟩:=h;have cC:=dQ.val x;rw[ae] at cC;obtain ⟨q,_,aZ,ai⟩:=cC.ptr;by_cases aY:jK d=au7
  ·rw[if_pos aY] at ab;obtain ⟨i,cs,aj,et,rfl⟩:=ab;obtain ⟨ds,az,a1,k6⟩:=zm cl.mW aZ _ _ _ et;exact ⟨.agg ds.toArray,by simp[ai,asAddr,loadVar,rO aO,aY,iw aj,zn a1 k6],⟨_,rfl,by grind⟩⟩
  ·rw[if_neg aY] at ab;obtain ⟨ba,e7,aE⟩:=cl.mW.load b q off v aZ ab;simp_all [asAddr,loadVar,rO,cN.pA]
theorem Wm {P:avd} {fr:Nat->au9} {m:Mem} {j:bH} {N:Nat} {a:Act} {w:World} (cl:Rel P j m w) (dQ:j6 ds j N fr a):∀(rs:List ResultVar) (vs:List au9),oP P fr m rs vs->
  ∃mC:List au9,(rs.mapM (m:=Sem) fun| .tmp t=>pure (a.tmps.getD t undef)| .cell x t=>do loadVar t (<-asAddr (a.tmps.getD x undef))).run P w= .ok mC w/\br (cN j) vs mC
 |[],[],_=>⟨[],rfl,avo⟩
 |r::rs,v::vs,⟨U,aa⟩=>by obtain ⟨ba,aE,ab⟩:=aim cl dQ U;obtain ⟨mC,auf,oF⟩:=Wm cl dQ rs vs aa;refine ⟨ba::mC, ?_,ab,oF⟩;simp_all
 |[],_::_,h=>h.elim
 |_::_,[],h=>h.elim
theorem Ws {j:bH}:∀{vs mC:List au9},br (cN j) vs mC->(∀x∈vs,storable x=au7)->br (e5 j) vs mC
 |[],[],_,_=>avo
 |v::vs,c::mC,⟨U,aa⟩,aC=>⟨cN.storable U (aC v (by simp)),Ws aa fun x ae=>aC x (by simp[ae])⟩
 |[],_::_,h,_=>h.elim
 |_::_,[],h,_=>h.elim
theorem aiQ {j:bH} {args hn:Array au9} (h:br (cN j) args.toList hn.toList) (n:Nat):∀t,cN j ((args++av1 (n - args.size) undef).getD t undef) ((hn++av1 (n - hn.size) undef).getD t undef):=by
 have aC:=h.size;intro t;by_cases aw:t<args.size
 ·have bu:(args++av1 (n - args.size) undef).getD t undef=args[t]:=by
   rw[axe,Array.getElem?_append_left aw];grind
  have mM:t<hn.size:=by omega
  have e2:(hn++av1 (n - hn.size) undef).getD t undef=hn[t]:=by simp_all [Array.getElem?_append_left]
  rw[bu,e2];obtain ⟨b,ag,aE⟩:=h.M8 t args[t] (by grind)
  grind
 ·have e:∀(A:Array au9),A.size<=t->(A++av1 (n - A.size) undef).getD t undef=undef:=by
   intro A dY;rw[axe,Array.getElem?_append_right dY]
   grind
  rw[e args (by omega),e hn (by omega)];exact Xp j
theorem WS {P : avd} {f : FuncId} {fn : Func} {c : Code} (h : la P f = au7) (bb : P.funcs[f]? = au6 fn) (ai : fn.body = au6 c) : (fn.name == "runtime.NumGoroutine") = ava ∧ iB fn.ntmps c = au7 := by
 grind [la]
theorem WM {P : avd} {f : FuncId} {fn : Func} {c : Code} (h : la P f = au7) (bb : P.funcs[f]? = au6 fn) (ai : qC P fn c) : (fn.name == "runtime.NumGoroutine") = ava ∧ iB fn.ntmps c = au7 ∧ fn.body.isNone = ava := by
 rcases ai with ai|⟨A,id,mk,ov,B,g,k,cs,D⟩
 ·grind [WS]
 ·have aa:=WS h bb D.body;refine ⟨aa.1, ?_,by simp[D.body]⟩;rw[D.code]
  grind [iB]
theorem aqF {P:avd} {C:FuncId->Array au9->Mem->au9->Mem->Prop} {af:avf->au9} {o:Oper} {m m':Mem} {v:au9} {fn:Fn} {cs:Array avf} (h:nM P C af o m v m') (ao:o.op= .makeFunc fn #[] cs):
  cW P af o v/\m'=m/\∃ds,v= .func fn #[] ds:=by
 cases h with
 |pure h=>
  refine ⟨h,rfl, ?_⟩;cases h with
  |func f a b cu bb=>simp_all
  |flat v aC h ab aE=>
   have:=aE default;simp[execOp,ao,Instr.makeFunc] at this
   grind
  |_=>grind
 |read h=>cases h<;>simp_all
 |new h=>cases h<;>simp_all
 |fb h=>
  cases h with
  |call f args v m' h cf=>obtain ⟨x,as,ts,first,captured,h,_⟩:=h;grind
  |_=>grind
theorem aik {P:avd} {C:FuncId->Array au9->Mem->au9->Mem->Prop} (nY:P.follows .mixedOrders=au7) (cf:n3 C) (kq:vl P C) {n:Nat} {f:FuncId} {fn:Func} {c:Code} {fr cX:Nat->au9} {m bz:Mem} {e:eY} {j:bH} {w:World} {args:Array au9} {R:Ending->World->Prop}
  (bb:P.funcs[f]? =au6 fn) (ag:qC P fn c) (ew:iB fn.ntmps c=au7) (jw:kh P C n c fr m e cX bz) (he:e= .normal\/e= .ret) (cl:Rel P j m w) (dO:WF m) (dQ:j6 [] j fn.ntmps fr {tmps:=args++av1 (fn.ntmps - args.size) undef,defers:=[]})
  (hp:∀ds a' w' b0,Post P j m w b0 bz w'->j6 ds b0 fn.ntmps cX a'->∃v,(results fn a'.tmps).run P w'= .ok v w'/\R (.returned v) w'):Calls P f args w R:=by
 rcases ag with ag|⟨A,id,mk,ov,B,g,k,cs,D⟩
 ·refine calls_of_wp bb ag (ON nY cf kq n c _ _ _ _ _ j _ w _ ew jw cl dO dQ fun a' w' b0 aM mG=> ?_);obtain ⟨v,U,aa⟩:=hp [] a' w' b0 aM mG;rcases he with rfl|rfl<;>exact ⟨mG.defers,v,U,aa⟩
 ·obtain rfl:=D.code;have Vn:iB fn.ntmps A=au7:=by grind [iB]
  have aeD:iB fn.ntmps (.region id #[mk] ava)=au7:=by grind [iB]
  have aeC:iB fn.ntmps B=au7:=by grind [iB]
  cases n with
  |zero=>exact jw.elim
  |succ n=>
  rcases jw with ⟨bu,UB,auq,dY,aa⟩|⟨h,_⟩
  rotate_left
  ·rw[D.dS] at h;grind
  have ad':=zx cf n A _ _ _ _ _ Vn dY dO (dQ.low cl);refine calls_of_wp_defers bb D.body (wp_seq (ON nY cf kq n A _ _ _ _ _ j _ w _ Vn dY cl dO dQ fun cz di ha uG lE=> ?_));by_cases uu:bu= .normal
  ·subst uu;rw[if_pos rfl] at aa;cases n with
   |zero=>exact aa.elim
   |succ n=>
   rcases aa with ⟨e2,ats,aur,UQ,ap⟩|⟨h,_⟩
   rotate_left
   ·cases h
   cases n with
   |zero=>exact UQ.elim
   |succ n=>
   obtain ⟨rfl,N6⟩:=UQ;rw[if_pos rfl] at ap;have y8:wanted [mk] UB mk=au7:=by unfold wanted;rw[D.VK]
   simp only[jy] at N6;rw[if_pos y8] at N6;obtain ⟨v,aus,eX,rfl,rfl⟩:=N6;obtain ⟨aeM,rfl,ds,rfl⟩:=aqF eX D.afD;have aE:=Pq aeD;obtain ⟨ae,aO⟩:=aE.1 mk (by simp);obtain ⟨ba,jw,ab⟩:=OT aeM (lE.ops ae) di;have wM:=ab;obtain ⟨gs,es,rfl,uy,_⟩:=wM;have adZ:gs=#[]:=by
    cases gs with
    |mk l=>cases l with
     |nil=>rfl
     |cons _ _=>exact uy.elim
   subst adZ;have ad6:k<fn.ntmps:=aO k D.Ov;have um:=lE.put (d:=au6 k) (fun b e ag=>ag) (fun t aw=>by grind) ab;show (Code.seq _ _).wp P _ cz di;refine wp_seq (wp_region_list ?_);unfold wpList;have qm:awI mk (yielded #[mk,ov] cz.tmps)=au7:=by unfold awI;rw[D.VK]
   rw[if_pos qm];refine .inl ?_;unfold awj;rw[jw,Oper.upon_value];unfold wpList;have afb:awI ov (yielded #[mk,ov] (cz.put mk.dst (.func (.func g) #[] es)).tmps)=au7:=by unfold awI;rw[D.acu]
   rw[if_pos afb];refine .inl ?_;unfold awj;rw[D.Ov];have pr:(cz.put (au6 k) (.func (.func g) #[] es)).eval (.tmp k)= .func (.func g) #[] es:=by simp[Act.eval,Act.put,lE.size,ad6]
   have adP:(execOp (cz.put (au6 k) (.func (.func g) #[] es)).eval ov).run P di= .ok (.defer {target:= .fn (.func g) es,args:=#[]}) di:=by simp[execOp,D.acw,resolve,pr,Deferred.ofValue]
   rw[adP,Oper.upon_defer];unfold wpList;rw[D.acs];show B.wp P _ _ _;have ade:j6 [{target:= .fn (.func g) es,args:=#[]}] ha fn.ntmps (set UB mk.dst (.func (.func g) #[] ds)) {(cz.put (au6 k) (.func (.func g) #[] es)) with defers:={target:= .fn (.func g) es,args:=#[]}::(cz.put (au6 k) (.func (.func g) #[] es)).defers}:=by rw[D.Ov];exact ⟨um.val,by rw[um.defers],um.size⟩
   have aed:=ad'.1;refine ON nY cf kq (n+1) B _ _ _ _ _ ha _ di _ aeC ap uG.rel aed ade fun a' w' b0 aM mG=> ?_;obtain ⟨v,dn,dA⟩:=hp _ a' w' b0 (uG.trans aM) mG;obtain ⟨⟨atq,b4,cZ,hJ⟩,Rp⟩:=D.afG;have U4:Leaves P fn a'.tmps R a'.defers .returning w':=by
    rw[mG.defers];refine ⟨by simp,_,es,g,#[]++es,rfl, ?_,(Rp (#[]++es) w').mono ?_⟩
    ·grind [invoke,Wj]
    ·rintro e u gV ⟨⟨bI,rfl⟩,rfl,rfl⟩;exact ⟨v,dn,dA⟩
   rcases he with rfl|rfl<;>exact U4
  ·rw[if_neg uu] at aa;obtain ⟨rfl,rfl,rfl⟩:=aa;obtain ⟨v,dn,dA⟩:=hp [] cz di ha uG lE;rcases he with rfl|rfl
   ·grind
   ·show Leaves P fn cz.tmps R cz.defers .returning di;rw[lE.defers];exact ⟨v,dn,dA⟩
theorem WF.lS {m bz:Mem} (h:WF m) (ag:∀b,b<m.next->bz.aS b=m.aS b\/pv m.next (bz.aS b)):WF (bz.lS m.next) where
 dead:=fun b ek=>by
  grind [Mem.lS]
 low:=fun b=>by
  simp only[Mem.lS];split
  ·rename_i bS;rcases ag b bS with U|U
   ·rw[U];exact h.low b
   grind
  ·exact avo
theorem Wu {P:avd} (nY:P.follows .mixedOrders=au7):∀n,n3 (iA P n)/\vl P (iA P n):=by
 intro n;induction n with
 |zero=>exact ⟨fun f args m v m' h=>h.elim,fun f args m v m' h=>h.elim⟩
 |succ n ar=>
  obtain ⟨cf,kq⟩:=ar;refine ⟨?_, ?_⟩
  ·intro f args m v m' h dO az;rcases h with ⟨_,h⟩|h
   ·grind [aiE]
   obtain ⟨fn,c,e,fr,bz,vs,bb,ag,EX,b9,jw,he,sP,rfl,eX,hm⟩:=h;have ew:=WM EX bb ag;have hq:∀t,low m.next ((args++av1 (fn.ntmps - args.size) undef).getD t undef):=by
    intro t;rw[axe]
    grind [FQ]
   obtain ⟨aU,aQ,bT⟩:=zx cf n c _ _ _ _ _ ew.2.1 jw dO hq;rcases hm with rfl|⟨rfl,pk,gb⟩
   ·refine ⟨?_,aU,bT⟩;have aE:∀(rs:List ResultVar) (vs:List au9),oP P fr m' rs vs->∀x∈vs,low m'.next x:=by
     intro rs;induction rs with
     |nil=>intro vs h x ae;cases vs with|nil=>grind|cons _ _=>exact h.elim
     |cons r rs ar=>
      intro vs h x ae;cases vs with
      |nil=>grind
      |cons u us=>
       rcases avu.1 ae with rfl|ae
       ·cases r with
        |tmp t=>have:=h.1;grind [zI]
        |cell q t=>
         obtain ⟨b,off,_,d,aO,ab⟩:=h.1
         grind [low,hF,Gq,PA,Pa]
       ·exact ar us h.2 x ae
    have k4:=aE _ _ sP;rcases eX with U|U
    ·match vs,U with
     |[x],_=>exact k4 x (by simp)
    ·match vs with
     |[]=>intro x ae;grind
     |[x]=>exact k4 x (by simp)
     |x::y::l=>intro z a4;grind [u4]
   ·exact ⟨pk,dO.lS gb,avm _⟩
  ·intro f args m v m' h j w hn dO cl uq;rcases h with ⟨EX,h⟩|h
   ·grind [aiF,la]
   obtain ⟨fn,c,e,fr,bz,vs,bb,ag,EX,b9,jw,he,sP,rfl,eX,hm⟩:=h;have ew:=WM EX bb ag;refine ⟨⟨fn,bb,ew.1,ew.2.2⟩, ?_⟩;have dQ:j6 [] j fn.ntmps (fun i=>(args++av1 (fn.ntmps - args.size) undef).getD i undef) {tmps:=hn++av1 (fn.ntmps - hn.size) undef,defers:=[]}:=
    ⟨aiQ uq fn.ntmps,rfl,by have:=uq.size;grind⟩
   have az:=zx cf n c _ _ _ _ _ ew.2.1 jw dO (dQ.low cl);refine aik nY cf kq bb ag ew.2.1 jw he cl dO dQ fun ds a' w' b0 aM mG=> ?_;obtain ⟨mC,adI,hM⟩:=Wm aM.rel mG _ _ sP;have hlen:=hM.length;have Vr:(results fn a'.tmps).run P w'= .ok (pack mC) w':=by
    simp only[results,avH];rw[Array.mapM_eq_mapM_toList];simp only[Sem.run_map];have adJ:=adI;refine Eq.trans (congrArg (fun r=>axm (axm r _) _) adJ) ?_;simp only[avB,avM];congr 1
    match mC with
    |[]=>rfl
    |[x]=>rfl
    |x::y::l=>rfl
   have pr:cN b0 (pack vs) (pack mC):=by
    rcases eX with U|U
    ·match vs,mC,U,hM with
     |[x],[y],_,bL=>exact bL.1
     |[x],[],_,bL=>grind
     |[x],_::_::_,_,bL=>grind
    ·have aa:=Ws hM U
     match vs,mC,hM,aa with
     |[x],[y],bL,_=>exact bL.1
     |[],[],_,_=>exact ⟨_,rfl,avo⟩
     |x::y::l,hj::j3::lL,_,bL=>exact ⟨_,rfl,by grind⟩
     |[x],[],bL,_=>grind
     |[x],_::_::_,bL,_=>grind
     |[],_::_,bL,_=>grind
     |_::_::_,[],bL,_=>grind
     |_::_::_,[_],bL,_=>grind
   have U4:∃uM,Post P j m w uM m' w'/\cN uM (pack vs) (pack mC):=by
    rcases hm with rfl|⟨rfl,pk,gb⟩
    ·grind
    ·have adu:=dO.lS gb;have hrel:Rel P (b0.below m.next) (bz.lS m.next) w':=Rel.below (m:=bz.lS m.next) aM.rel adu (fun b e ag bS=>by
      grind [Mem.lS])
     refine ⟨b0.below m.next,⟨hrel,aM.e6,avm _,fun b ag=> ?_,fun b e ag gU=> ?_,fun b ag ao=> ?_,fun b ag ao=> ?_⟩,xa.2.2 pr pk⟩
     ·simp only[bH.below,ag,if_true];exact aM.ext b ag
     ·have:=(pF ag).1;omega
     ·simp only[Mem.lS,ag,if_true] at ao;exact aM.dN b ag ao
     ·simp only[Mem.lS,ag,if_true] at ao;exact aM.alive b ag ao
   grind
end Go.av
end
section
namespace Go.av
def v7 (C lX:FuncId->Array au9->Mem->au9->Mem->Prop):Prop:=∀f args m v m',C f args m v m'->lX f args m v m'
theorem gR.mono {P:avd} {C lX:FuncId->Array au9->Mem->au9->Mem->Prop} (cf:v7 C lX) {af:avf->au9} {o:Oper} {m m':Mem} {v:au9} (h:gR P C af o m v m'):gR P lX af o m v m':=by
 cases h with
 |store t x y b off i L e h ae aj hm ab aC az=>exact .store t x y b off i L e h ae aj hm ab aC az
 |call f args v m' h ac'=>exact .call f args v m' h (cf _ _ _ _ _ ac')
 |su x y t u e i a l c h aw aj ae ai qf aI=>exact .su x y t u e i a l c h aw aj ae ai qf aI
 |p5 x y t u e i z a l c n dN new h aw aj a4 db dV b9 ae ai ao k7 aI a1 ag hm=>exact .p5 x y t u e i z a l c n dN new h aw aj a4 db dV b9 ae ai ao k7 aI a1 ag hm
 |we x y t u e i b off l c k n L new h aw aj ae fj mg ai hm aI a1 az=>exact .we x y t u e i b off l c k n L new h aw aj ae fj mg ai hm aI a1 az
 |tX x y t u e i b off l c n L new h aw aj ae fj ai hm aI a1 az=>exact .tX x y t u e i b off l c n L new h aw aj ae fj ai hm aI a1 az
 |append x y t u e i z b off l n L new h aw aj a4 db dV b9 ae iF sM aI a1 ag hm=>exact .append x y t u e i z b off l n L new h aw aj a4 db dV b9 ae iF sM aI a1 ag hm
 |clear x t e i z b off l c L h aw aj a4 db dV ae hm gd az=>exact .clear x t e i z b off l c L h aw aj a4 db dV ae hm gd az
 |copy x y t u e i b off l c L cs h aw aj ae hm aI a1 az=>exact .copy x y t u e i b off l c L cs h aw aj ae hm aI a1 az
 |mapUpdate fq x gI gp u bi bg b L ee vc E E' hf h g9 hu ae iF a0 lF K wG sJ wH bb au a5 oF E6 uJ y7 fO=>exact .mapUpdate fq x gI gp u bi bg b L ee vc E E' hf h g9 hu ae iF a0 lF K wG sJ wH bb au a5 oF E6 uJ y7 fO
theorem nM.mono {P:avd} {C lX:FuncId->Array au9->Mem->au9->Mem->Prop} (cf:v7 C lX) {af:avf->au9} {o:Oper} {m m':Mem} {v:au9} (h:nM P C af o m v m'):nM P lX af o m v m':=by
 cases h with
 |pure h=>exact .pure h
 |read h=>exact .read h
 |new h=>exact .new h
 |fb h=>exact .fb (h.mono cf)
theorem zp {P:avd} {C lX:FuncId->Array au9->Mem->au9->Mem->Prop} (cf:v7 C lX) {ops:List Oper}:∀(l:List Oper) (fr bB:Nat->au9) (m m':Mem),jy P C ops l fr m bB m'->jy P lX ops l fr m bB m'
 |[],fr,bB,m,m',h=>h
 |o::l,fr,bB,m,m',h=>by
  simp only[jy] at h⊢;split at h
  ·rename_i hw;rw[if_pos hw];obtain ⟨v,bz,U,aa⟩:=h;exact ⟨v,bz,U.mono cf,zp cf l _ _ _ _ aa⟩
  ·rename_i hw;rw[if_neg hw];exact zp cf l _ _ _ _ h
theorem s3 {P:avd} {C lX:FuncId->Array au9->Mem->au9->Mem->Prop} (cf:v7 C lX) {ops:List Oper} {B:Array Nat}:∀(l:List Oper) (i:Nat) (A:Acc) (fr bB:Nat->au9) (m m':Mem),g3 P C ops B i l A fr m bB m'->g3 P lX ops B i l A fr m bB m'
 |[],i,A,fr,bB,m,m',h=>h
 |o::l,i,A,fr,bB,m,m',h=>by
  simp only[g3] at h⊢;split at h
  ·rename_i hw;rw[if_pos hw];rcases h with ⟨v,aM,aO⟩|⟨v,aM,ao,aO⟩|⟨X,v,aM,aO⟩|⟨v,bz,aM,U,aa,aO⟩
   ·exact .inl ⟨v,aM,s3 cf l _ _ _ _ _ _ aO⟩
   ·exact .inr (.inl ⟨v,aM,ao,s3 cf l _ _ _ _ _ _ aO⟩)
   ·exact .inr (.inr (.inl ⟨X,v,aM,s3 cf l _ _ _ _ _ _ aO⟩))
   ·exact .inr (.inr (.inr ⟨v,bz,aM.mono cf,U,aa,s3 cf l _ _ _ _ _ _ aO⟩))
  ·rename_i hw;rw[if_neg hw];exact s3 cf l _ _ _ _ _ _ h
theorem WI {P:avd} {C lX:FuncId->Array au9->Mem->au9->Mem->Prop} (cf:v7 C lX):∀(n n':Nat),n<=n'->∀(c:Code) (fr bB:Nat->au9) (m m':Mem) (e:eY),kh P C n c fr m e bB m'->kh P lX n' c fr m e bB m':=by
 intro n;induction n with
 |zero=>intro n' _ c fr bB m m' e h;exact h.elim
 |succ n ar=>
  intro n' a1 c fr bB m m' e h;cases n' with
  |zero=>omega
  |succ n'=>
   have oD:n<=n':=by omega
   cases c with
   |skip=>exact h
   |label l=>exact h
   |exit id=>exact h
   |ret=>exact h
   |region id ops d=>
    cases d with
    |false=>exact ⟨h.1,zp cf _ _ _ _ _ h.2⟩
    |true=>exact ⟨h.1,s3 cf _ _ _ _ _ _ _ h.2⟩
   |seq a b=>
    rcases h with ⟨bu,cX,bz,U,aa⟩|h
    rotate_left
    ·exact .inr h
    refine .inl ⟨bu,cX,bz,ar n' oD _ _ _ _ _ _ U, ?_⟩
    grind
   |cond c a b=>obtain ⟨t,aw,U⟩:=h;exact ⟨t,aw,ar n' oD _ _ _ _ _ _ U⟩
   |scope c=>exact ar n' oD _ _ _ _ _ _ h
   |block id c=>obtain ⟨bu,U,he⟩:=h;exact ⟨bu,ar n' oD _ _ _ _ _ _ U,he⟩
   |loop c=>
    obtain ⟨bu,cX,bz,U,aa⟩:=h;refine ⟨bu,cX,bz,ar n' oD _ _ _ _ _ _ U, ?_⟩
    grind
   |rangeFunc f cn x y=>exact h.elim
   |goto l=>exact h.elim
   |refuse s=>exact h.elim
theorem u1 {P:avd}:∀(n n':Nat),n<=n'->v7 (iA P n) (iA P n'):=by
 intro n;induction n with
 |zero=>intro n' _ f args m v m' h;exact h.elim
 |succ n ar=>
  intro n' a1 f args m v m' h;cases n' with
  |zero=>omega
  |succ n'=>
   rcases h with h|h
   ·exact .inl h
   obtain ⟨fn,c,e,fr,bz,vs,bb,ag,ew,b9,jw,rest⟩:=h;exact .inr ⟨fn,c,e,fr,bz,vs,bb,ag,ew,b9,WI (ar n' (by omega)) n n' (by omega) _ _ _ _ _ _ jw,rest⟩
def hs (P:avd) (f:FuncId) (args:Array au9) (m:Mem) (R:au9->Mem->Prop):Prop:=∃n v m',iA P n f args m v m'/\R v m'
def W (P:avd) (c:Code) (Q:eY->(Nat->au9)->Mem->Prop) (fr:Nat->au9) (m:Mem):Prop:=∃n e bB m',kh P (iA P n) n c fr m e bB m'/\Q e bB m'
def mz (P:avd) (af:avf->au9) (o:Oper) (m:Mem) (K:au9->Mem->Prop):Prop:=∃n v m',nM P (iA P n) af o m v m'/\K v m'
def gu (P:avd) (ops l:List Oper) (K:(Nat->au9)->Mem->Prop) (fr:Nat->au9) (m:Mem):Prop:=∃n bB m',jy P (iA P n) ops l fr m bB m'/\K bB m'
def hc (P:avd) (ops:List Oper) (B:Array Nat) (i:Nat) (l:List Oper) (A:Acc) (K:(Nat->au9)->Mem->Prop) (fr:Nat->au9) (m:Mem):Prop:=∃n bB m',g3 P (iA P n) ops B i l A fr m bB m'/\K bB m'
section
variable {P:avd} {Q ye:eY->(Nat->au9)->Mem->Prop} {fr:Nat->au9} {m:Mem}
theorem hs.mono {f:FuncId} {args:Array au9} {R RC:au9->Mem->Prop} (h:hs P f args m R) (aE:∀v m',R v m'->RC v m'):hs P f args m RC:=
 let ⟨n,v,m',U,aa⟩:=h;⟨n,v,m',U,aE _ _ aa⟩
theorem W.mono {c:Code} (h:W P c Q fr m) (bd:∀e fr m,Q e fr m->ye e fr m):W P c ye fr m:=
 let ⟨n,e,bB,m',U,aa⟩:=h;⟨n,e,bB,m',U,bd _ _ _ aa⟩
theorem W.skip (h:Q .normal fr m):W P .skip Q fr m:=⟨1,_,_,_,⟨rfl,rfl,rfl⟩,h⟩
theorem W.label {l:Nat} (h:Q .normal fr m):W P (.label l) Q fr m:=⟨1,_,_,_,⟨rfl,rfl,rfl⟩,h⟩
theorem W.exit {id:Nat} (h:Q (.exit id) fr m):W P (.exit id) Q fr m:=⟨1,_,_,_,⟨rfl,rfl,rfl⟩,h⟩
theorem W.ret (h:Q .ret fr m):W P .ret Q fr m:=⟨1,_,_,_,⟨rfl,rfl,rfl⟩,h⟩
def Wf (next:(Nat->au9)->Mem->Prop) (Q:eY->(Nat->au9)->Mem->Prop):eY->(Nat->au9)->Mem->Prop| .normal,fr,m=>next fr m|e,fr,m=>Q e fr m
def oq (id:Nat) (Q:eY->(Nat->au9)->Mem->Prop):eY->(Nat->au9)->Mem->Prop| .exit Fb,fr,m=>if Fb=id then Q .normal fr m else Q (.exit Fb) fr m|e,fr,m=>Q e fr m
theorem pG {n N k:Nat} (h:n<=N) (au:n<=k) {c:Code} {fr bB:Nat->au9} {m m':Mem} {e:eY} (ai:kh P (iA P n) n c fr m e bB m'):kh P (iA P N) k c fr m e bB m':=WI (u1 n N h) n k au _ _ _ _ _ _ ai
theorem W.seq {a b:Code} (h:W P a (Wf (W P b Q) Q) fr m):W P (.seq a b) Q fr m:=by
 obtain ⟨n,e,cX,bz,U,aa⟩:=h;cases e with
 |normal=>obtain ⟨jF,e2,hx,qu,ap,aN⟩:=aa;exact ⟨max n jF+1,e2,hx,qu, .inl ⟨_,_,_,pG (by omega) (by omega) U,by rw[if_pos rfl];exact pG (by omega) (by omega) ap⟩,aN⟩
 |exit id=>exact ⟨n+1,_,cX,bz, .inl ⟨_,_,_,pG (by omega) (by omega) U,by grind⟩,aa⟩
 |ret=>exact ⟨n+1,_,cX,bz, .inl ⟨_,_,_,pG (by omega) (by omega) U,by grind⟩,aa⟩
theorem W.cond {c:avf} {a b:Code} {t:Bool} (aw:a8 fr c= .bool t) (h:W P (if t then a else b) Q fr m):W P (.cond c a b) Q fr m:=by
 obtain ⟨n,e,cX,bz,U,aa⟩:=h;exact ⟨n+1,e,cX,bz,⟨t,aw,pG (by omega) (by omega) U⟩,aa⟩
theorem W.block {id:Nat} {c:Code} (h:W P c (oq id Q) fr m):W P (.block id c) Q fr m:=by
 obtain ⟨n,e,cX,bz,U,aa⟩:=h;refine ⟨n+1,_,cX,bz,⟨e,pG (by omega) (by omega) U,rfl⟩, ?_⟩;cases e with
 |normal=>grind [oq]
 |exit Fb=>
  grind [oq]
 |ret=>grind [oq]
theorem W.scope {c:Code} (h:W P c Q fr m):W P (.scope c) Q fr m:=by
 obtain ⟨n,e,cX,bz,U,aa⟩:=h;exact ⟨n+1,e,cX,bz,(show kh P (iA P (n+1)) n c fr m e cX bz from pG (by omega) (by omega) U),aa⟩
theorem W.afz {c:Code} (h:W P c (Wf (W P (.loop c) Q) Q) fr m):W P (.loop c) Q fr m:=by
 obtain ⟨n,e,cX,bz,U,aa⟩:=h;cases e with
 |normal=>obtain ⟨jF,e2,hx,qu,ap,aN⟩:=aa;exact ⟨max n jF+1,e2,hx,qu,⟨_,_,_,pG (by omega) (by omega) U,by rw[if_pos rfl];exact pG (by omega) (by omega) ap⟩,aN⟩
 |exit id=>exact ⟨n+1,_,cX,bz,⟨_,_,_,pG (by omega) (by omega) U,by grind⟩,aa⟩
 |ret=>exact ⟨n+1,_,cX,bz,⟨_,_,_,pG (by omega) (by omega) U,by grind⟩,aa⟩
theorem W.region {id:Nat} {ops:Array Oper} (h:gu P ops.toList ops.toList (Q .normal) fr m):W P (.region id ops ava) Q fr m:=by
 obtain ⟨n,bB,m',U,aa⟩:=h;exact ⟨n+1, .normal,bB,m',⟨rfl,zp (u1 _ _ (avJ _)) _ _ _ _ _ U⟩,aa⟩
theorem W.draw {id:Nat} {ops:Array Oper} (h:hc P ops.toList (avK ops) 0 ops.toList ⟨[],[],[]⟩ (Q .normal) fr m):W P (.region id ops au7) Q fr m:=by
 obtain ⟨n,bB,m',U,aa⟩:=h;exact ⟨n+1, .normal,bB,m',⟨rfl,s3 (u1 _ _ (avJ _)) _ _ _ _ _ _ _ U⟩,aa⟩
end
section
variable {P:avd} {ops l:List Oper} {K:(Nat->au9)->Mem->Prop} {fr:Nat->au9} {m:Mem} {o:Oper}
theorem gu.nil (h:K fr m):gu P ops [] K fr m:=⟨0,_,_,⟨rfl,rfl⟩,h⟩
theorem gu.skip (a5:wanted ops fr o=ava) (h:gu P ops l K (set fr o.dst undef) m):gu P ops (o::l) K fr m:=by
 obtain ⟨n,bB,m',U,aa⟩:=h;refine ⟨n,bB,m', ?_,aa⟩
 grind [jy]
theorem gu.cons (a5:wanted ops fr o=au7) (h:mz P (a8 fr) o m fun v bz=>gu P ops l K (set fr o.dst v) bz):gu P ops (o::l) K fr m:=by
 obtain ⟨n,v,bz,aC,jF,bB,m',U,aa⟩:=h;refine ⟨max n jF,bB,m', ?_,aa⟩;simp only[jy];rw[if_pos a5];exact ⟨v,bz,aC.mono (u1 _ _ (Nat.le_max_left _ _)),zp (u1 _ _ (Nat.le_max_right _ _)) _ _ _ _ _ U⟩
theorem mz.pure {af:avf->au9} {R:au9->Mem->Prop} {v:au9} (h:cW P af o v) (au:R v m):mz P af o m R:=⟨0,v,m, .pure h,au⟩
theorem mz.read {af:avf->au9} {R:au9->Mem->Prop} {v:au9} (h:eJ P af o m v) (au:R v m):mz P af o m R:=⟨0,v,m, .read h,au⟩
theorem mz.new {af:avf->au9} {R:au9->Mem->Prop} {v:au9} {X:bo} (h:iy P af o m.next X v) (au:R v (m.push X)):mz P af o m R:=⟨0,v,_, .new h,au⟩
theorem mz.fb {af:avf->au9} {R:au9->Mem->Prop} {v:au9} {m':Mem} {n:Nat} (h:gR P (iA P n) af o m v m') (au:R v m'):mz P af o m R:=⟨n,v,m', .fb h,au⟩
end
theorem hs.enter {P:avd} {f:FuncId} {fn:Func} {c:Code} {args:Array au9} {m:Mem} {R:au9->Mem->Prop} (bb:P.funcs[f]? =au6 fn) (ag:qC P fn c) (ew:la P f=au7) (b9:args.size<=fn.ntmps)
  (h:W P c (fun e fr bz=>(e= .normal\/e= .ret)/\∃vs,oP P fr bz fn.results.toList vs/\(vs.length=1\/∀x∈vs,storable x=au7)/\
   (R (pack vs) bz\/(R (pack vs) (bz.lS m.next)/\low m.next (pack vs)/\∀b,b<m.next->bz.aS b=m.aS b\/pv m.next (bz.aS b))))
   (fun i=>(args++av1 (fn.ntmps - args.size) undef).getD i undef) m):hs P f args m R:=by
 obtain ⟨n,e,fr,bz,U,he,vs,ab,aC,cl⟩:=h;rcases cl with cl|⟨cl,az,UW⟩
 ·exact ⟨n+1,_,_, .inr ⟨fn,c,e,fr,bz,vs,bb,ag,ew,b9,U,he,ab,rfl,aC, .inl rfl⟩,cl⟩
 ·exact ⟨n+1,_,_, .inr ⟨fn,c,e,fr,bz,vs,bb,ag,ew,b9,U,he,ab,rfl,aC, .inr ⟨rfl,az,UW⟩⟩,cl⟩
theorem hs.sort {P:avd} {f:FuncId} {args:Array au9} {m m':Mem} {v:au9} {R:au9->Mem->Prop} (ew:la P f=au7) (h:nL P f args m v m') (cl:R v m'):hs P f args m R:=⟨1,v,m', .inl ⟨ew,h⟩,cl⟩
def hd (w:World):bH:=fun b=>if b<w.heap.size then au6 ⟨b,0,0,0⟩ else au8
def vt (b:Nat):au9->Option au9| .slice (au6 _) 0 0=>au6 (.slice (au6 ⟨b,0,au8⟩) 0 0)|_=>au8
open Classical in
noncomputable def gJ (w:World):Mem:={next:=w.heap.size,aS:=fun b=>if b<w.heap.size then .ro (fun i=>match w.cell? ⟨b,i,au8⟩ with|some v=>if dC (hd w) v v then au6 v else vt b v|none=>au8) else .dead}
theorem Wv {b:Nat} {v u:au9} (h:vt b v=au6 u):∃a,v= .slice (au6 a) 0 0/\u= .slice (au6 ⟨b,0,au8⟩) 0 0:=by
 unfold vt at h
 grind
theorem u6 {w:World} {b:Nat} {e:j5} (h:hd w b=au6 e):b<w.heap.size/\e.aS=b:=by
 grind [hd]
theorem Yp {w:World} {b:Nat} {e:j5} (h:hd w b=au6 e):e.dS=0:=by
 grind [hd]
theorem ajg {w:World} {b i:Nat} {v:au9} (h:w.cell? ⟨b,i,au8⟩=au6 v) (ab:dC (hd w) v v):(gJ w).load b i=au6 v:=by
 have bS:b<w.heap.size:=axh w ⟨b,i,au8⟩ h;simp[Mem.load,gJ,bS,h,ab]
theorem Yi (w:World):WF (gJ w) where
 dead:=fun b ag=>by have ag:w.heap.size<=b:=ag;simp[gJ,show ¬b<w.heap.size by omega]
 low:=fun b=>by
  simp only[gJ];split
  ·intro i v aj;simp only at aj;split at aj
   ·split at aj
    ·rename_i ab;cases aj;exact (Gv (fun b e h=>(u6 h).1)).1 ab
    ·obtain ⟨a,_,rfl⟩:=Wv aj;assumption
   ·cases aj
  ·exact avo
theorem ajU (P:avd) (w:World) (aw:l1 P w):Rel P (hd w) (gJ w) w:=by
 refine ⟨⟨?_, ?_, ?_⟩,aw,fun b e ag ao=>by obtain ⟨U,aa⟩:=u6 ag;simp[gJ,U,bo.ig] at ao⟩
 ·intro b e ag;obtain ⟨U,aa⟩:=u6 ag;exact ⟨U,by rw[aa];exact U⟩
 ·intro b e ag;obtain ⟨U,aa⟩:=u6 ag;simp only[gJ,U,if_true];intro i v aj;simp only at aj;have cell:∀u,w.cell? ⟨b,i,au8⟩=au6 u->∃(cs:Array au9) (t:ave) (bl:Nat×Nat),w.heap[e.aS]? =au6 (.cells cs t bl)/\cs[i]? =au6 u:=by
   intro u hu;rw[aa];simp only[av7] at hu;split at hu
   ·rename_i c t f ai;exact ⟨c,t,f,ai,by simpa using hu⟩
   ·cases hu
  split at aj
  ·rename_i u hu;obtain ⟨cs,t,bl,aU,aQ⟩:=cell u hu;split at aj
   ·rename_i ab;cases aj;exact ⟨cs,t,bl,_,aU,by rw[Yp ag,avD];exact aQ,ab⟩
   ·obtain ⟨a,rfl,rfl⟩:=Wv aj;exact ⟨cs,t,bl,_,aU,by rw[Yp ag,avD];exact aQ,e,rfl,ag, .inr (.inr (.inr (.inl ⟨rfl,rfl,a,rfl⟩)))⟩
  ·cases aj
 ·intro b cB e b2 ag ek ao;obtain ⟨U,aa⟩:=u6 ag;simp[gJ,U,bo.ig] at ao
theorem aiy {P:avd} (nY:P.follows .mixedOrders=au7) {f:FuncId} {args:Array au9} {w:World} (aw:l1 P w) (uq:∀a∈args.toList,cN (hd w) a a) (h:hs P f args (gJ w) fun v _=>v= .bool au7):
  Calls P f args w fun e w'=>e= .returned (.bool au7)/\RowKit.Below w.heap.size w w':=by
 obtain ⟨n,v,m',U,rfl⟩:=h;have aC:=(Wu nY n).2 f args (gJ w) _ m' U (hd w) w args (Yi w) (ajU P w aw) (by
  have:∀l:List au9,(∀a∈l,cN (hd w) a a)->br (cN (hd w)) l l:=by
   intro l;induction l with
   |nil=>intro _;exact avo
   |cons a l ar=>intro h;exact ⟨h a (by simp),ar fun b ag=>h b (by simp[ag])⟩
  exact this _ uq)
 refine aC.2.mono ?_;rintro e w' ⟨ba,b0,rfl,aM,ab⟩;have hM:=ab.bool;subst hM;refine ⟨rfl,aM.e6.os,aM.e6.tape,aM.e6.output,aM.e6.size,fun k au=>aM.e6.block k au fun b e ag ao=> ?_⟩;obtain ⟨U,aa⟩:=u6 ag;simp[gJ,U,bo.ig] at ao
end Go.av
end
section
namespace Go.av
def bo.hy:bo->Prop| .dead| .lock _ _ _ _=>False|_=>True
def bo.mem:bo->bo| .lock _ _ L t=> .own L t|b=>b
theorem bo.hy.ne {x:bo} (h:x.hy):x≠ .dead:=fun e=>by rw[e] at h;exact h
theorem bo.hy.mem {x:bo} (h:x.hy):x.mem=x:=by cases x<;>first|rfl|exact h.elim
def jI (z:Nat->bo) (m:Mem):Prop:=∀b,z b≠ .dead->m.aS b=(z b).mem/\b<m.next
theorem jI.hy {z:Nat->bo} {m:Mem} (h:jI z m) {b:Nat} (ag:(z b).hy):m.aS b=z b/\b<m.next:=by
 have:=h b ag.ne;rw[ag.mem] at this
 grind
def eR (z z':Nat->bo):Prop:=∀b,(z b).hy->z' b=z b
theorem eR.refl (z:Nat->bo):eR z z:=fun _ _=>rfl
theorem eR.trans {a b c:Nat->bo} (h:eR a b) (k:eR b c):eR a c:=fun x ae=>by
 have U:=h x ae;rw[k x (by grind),U]
def k8 (z:Nat->bo) (b o:Nat):Option au9:=match z b with| .ro rd=>rd o| .own L _=>L[o]?| .map _ _=>au8| .lock _ _ _ _=>au8| .dead=>au8
theorem zE {z:Nat->bo} {b o:Nat} {v:au9} (h:k8 z b o=au6 v):(z b).hy:=by
 unfold k8 at h;cases a4:z b with
 |dead=>grind
 |lock _ _ _ _=>grind
 |_=>exact avo
theorem ajN {z z':Nat->bo} (h:eR z z') {b o:Nat} {v:au9} (az:k8 z b o=au6 v):k8 z' b o=au6 v:=by
 have:=h b (zE az)
 grind [k8]
theorem O9 {z:Nat->bo} {m:Mem} (h:jI z m) {b o:Nat} {v:au9} (az:k8 z b o=au6 v):m.load b o=au6 v:=by
 have:=(h b (zE az).ne).1;rw[(zE az).mem] at this
 grind [k8,Mem.load]
structure ct (aA:Type) where
 a7:Nat
 tid:ave
 rd:(Nat->bo)->aA->List au9->Prop
 len:∀z x cs,rd z x cs->cs.length=a7
 mono:∀z z',eR z z'->∀x cs,rd z x cs->rd z' x cs
 one:∀z x cs,rd z x cs->∀c∈cs,storable c=au7/\c.cells=#[c]
def mR (z:Nat->bo) (b o:Nat) (cs:List au9):Prop:=∀(i:Nat) (u:au9),cs[i]? =au6 u->k8 z b (o+i)=au6 u
def nk (L:List au9) (o:Nat) (cs:List au9):Prop:=∀(i:Nat) (u:au9),cs[i]? =au6 u->L[o+i]? =au6 u
def eu {aA:Type} (T:ct aA) (z:Nat->bo) (xs:List aA) (v:au9):Prop:=
 (v= .slice au8 0 0/\xs=[])\/
 ∃b off c,v= .slice (au6 ⟨b,off,au8⟩) xs.length c/\(z b).hy/\((c=cJ/\∃L,z b= .own L T.tid/\off+xs.length*T.a7<=L.length)\/(c<cJ/\xs.length<=c))/\
  ∀(i:Nat) (x:aA),xs[i]? =au6 x->∃cs,T.rd z x cs/\mR z b (off+i*T.a7) cs
theorem FK {z z':Nat->bo} (h:eR z z') {b o:Nat} {cs:List au9} (ai:mR z b o cs):mR z' b o cs:=fun i u aj=>ajN h (ai i u aj)
theorem eu.mono {aA:Type} {T:ct aA} {z z':Nat->bo} (h:eR z z') {xs:List aA} {v:au9} (aC:eu T z xs v):eu T z' xs v:=by
 rcases aC with aC|⟨b,off,c,U,aa,ap,aN⟩
 ·exact .inl aC
 ·refine .inr ⟨b,off,c,U,by rw[h b aa];grind, ?_,fun i x aj=> ?_⟩
  ·rcases ap with ⟨ap,L,bK,ed⟩|ap
   ·exact .inl ⟨ap,L,by rw[h b aa];grind,ed⟩
   grind
  ·obtain ⟨cs,aU,aQ⟩:=aN i x aj;exact ⟨cs,T.mono z z' h x cs aU,FK h aQ⟩
theorem eu.nil {aA:Type} {T:ct aA} {z:Nat->bo}:eu T z [] (.slice au8 0 0):= .inl ⟨rfl,rfl⟩
theorem eu.len {aA:Type} {T:ct aA} {z:Nat->bo} {xs:List aA} {v:au9} (h:eu T z xs v):∃a c,v= .slice a xs.length c:=by
 rcases h with ⟨rfl,rfl⟩|⟨b,off,c,rfl,_⟩
 ·simp_all
 grind
def c9:au9->Option Nat| .slice (au6 a) _ _=>au6 a.block| .pointer (au6 a)=>au6 a.block|_=>au8
def fh {aA:Type} (T:ct aA) (z:Nat->bo) (m:Mem) (xs:List aA) (v:au9):Prop:=
 (v= .slice au8 0 0/\xs=[])\/
 ∃b o L c,v= .slice (au6 ⟨b,o,au8⟩) xs.length c/\m.aS b= .own L T.tid/\b<m.next/\z b= .dead/\o+xs.length*T.a7<=L.length/\(c=cJ\/(c<cJ/\xs.length<=c/\o+c*T.a7<=L.length))/\
  ∀(i:Nat) (x:aA),xs[i]? =au6 x->∃cs,T.rd z x cs/\nk L (o+i*T.a7) cs
theorem fh.yq {aA:Type} {T:ct aA} {z:Nat->bo} {m:Mem} {xs:List aA} {v:au9} (h:∃b L c,v= .slice (au6 ⟨b,0,au8⟩) xs.length c/\m.aS b= .own L T.tid/\b<m.next/\z b= .dead/\xs.length*T.a7<=L.length/\(c=cJ\/(c<cJ/\xs.length<=c/\c*T.a7<=L.length))/\
  ∀(i:Nat) (x:aA),xs[i]? =au6 x->∃cs,T.rd z x cs/\nk L (i*T.a7) cs):fh T z m xs v:=by
 obtain ⟨b,L,c,U,aa,ap,aN,bK,ed,hg⟩:=h;exact .inr ⟨b,0,L,c,U,aa,ap,aN,by grind,by grind,fun i x ae=>by grind⟩
theorem fh.nil {aA:Type} {T:ct aA} {z:Nat->bo} {m:Mem}:fh T z m [] (.slice au8 0 0):= .inl ⟨rfl,rfl⟩
theorem fh.frame {aA:Type} {T:ct aA} {z:Nat->bo} {m m':Mem} {xs:List aA} {v:au9} (h:fh T z m xs v) (ag:∀b,c9 v=au6 b->b<m.next->m'.aS b=m.aS b/\b<m'.next):fh T z m' xs v:=by
 rcases h with h|⟨b,o,L,c,rfl,U,aa,ap,aN,bK,ed⟩
 ·exact .inl h
 ·obtain ⟨aU,aQ⟩:=ag b rfl aa;exact .inr ⟨b,o,L,c,rfl,by grind,aQ,ap,aN,bK,ed⟩
theorem fh.lt {aA:Type} {T:ct aA} {z:Nat->bo} {m:Mem} {xs:List aA} {v:au9} (h:fh T z m xs v):∀b,c9 v=au6 b->b<m.next/\z b= .dead:=by
 rcases h with ⟨rfl,_⟩|⟨b,o,L,c,rfl,U,aa,ap,_⟩
 ·intro b ag;cases ag
 ·intro cB ag;cases ag;grind
theorem fh.len {aA:Type} {T:ct aA} {z:Nat->bo} {m:Mem} {xs:List aA} {v:au9} (h:fh T z m xs v):∃a c,v= .slice a xs.length c:=by
 rcases h with ⟨rfl,rfl⟩|⟨b,o,L,c,rfl,_⟩
 ·simp_all
 grind
def iQ (z:Nat->bo) (m:Mem) (p:Option Nat):Nat->bo:=fun b=>if p=au6 b then m.aS b else z b
theorem z0 {z:Nat->bo} {m:Mem} {p:Option Nat} (h:∀b,p=au6 b->z b= .dead):eR z (iQ z m p):=by
 intro b ag;unfold iQ;split
 ·exact absurd (h b ‹_›) ag.ne
 rfl
theorem GQ {z:Nat->bo} {m:Mem} {p:Option Nat} (h:jI z m) (aM:∀b,p=au6 b->b<m.next/\(m.aS b).mem=m.aS b):jI (iQ z m p) m:=by
 intro b ag;unfold iQ at ag⊢;split at ag
 ·grind
 ·rw[if_neg ‹_›];exact h b ag
theorem fh.asj {aA:Type} {T:ct aA} {z:Nat->bo} {m:Mem} {xs:List aA} {v:au9} (h:fh T z m xs v):eu T (iQ z m (c9 v)) xs v:=by
 rcases h with h|⟨b,o,L,c,rfl,U,aa,ap,aN,bK,ed⟩
 ·exact .inl h
 ·have a4:iQ z m (c9 (.slice (au6 ⟨b,o,au8⟩) xs.length c)) b= .own L T.tid:=by grind [iQ,c9]
  have hle:eR z (iQ z m (c9 (.slice (au6 ⟨b,o,au8⟩) xs.length c))):=z0 fun cB ek=>by cases ek;grind
  refine .inr ⟨b,o,c,rfl,by rw[a4];exact avo, ?_,fun i x aj=> ?_⟩
  ·grind
  ·obtain ⟨cs,aU,aQ⟩:=ed i x aj;refine ⟨cs,T.mono _ _ hle x cs aU,fun k u au=> ?_⟩;simp only[k8,a4];exact aQ k u au
def eE (p q:Option Nat):Prop:=∀b,p=au6 b->q≠au6 b
theorem eE.symm {p q:Option Nat} (h:eE p q):eE q p:=fun b bd aM=>h b aM bd
theorem eE.n0 {q:Option Nat}:eE q Option.none:=fun _ _ h=>by grind
structure dp (z:Nat->bo) (e m:Mem) (k:Option Nat):Prop where
 bl:jI z m
 dead:∀b,m.next<=b->m.aS b= .dead
 mD:∀b,e.next<=b->e.aS b= .dead
 next:e.next<=m.next
 kept:∀b,b<e.next->k≠au6 b->m.aS b=e.aS b
theorem dp.start {z:Nat->bo} {m:Mem} {k:Option Nat} (h:jI z m) (aO:∀b,m.next<=b->m.aS b= .dead):dp z m m k:=⟨h,aO,aO,avm _,fun _ _ _=>rfl⟩
theorem dp.push {z:Nat->bo} {e m:Mem} {k:Option Nat} (h:dp z e m k) (x:bo):dp z e (m.push x) k:=by
 refine ⟨fun b ag=> ?_,fun b ag=> ?_,h.mD,Nat.le_succ_of_le h.next,fun b ag au=> ?_⟩
 ·have:=h.bl b ag
  grind [Mem.push]
 ·simp only[Mem.push] at ag⊢;rw[if_neg (by omega)];exact h.dead b (by omega)
 ·simp only[Mem.push];have:=h.next;rw[if_neg (by omega)];exact h.kept b ag au
theorem dp.put {z:Nat->bo} {e m:Mem} {k:Option Nat} (h:dp z e m k) {b:Nat} (x:bo) (a4:z b= .dead) (bS:b<m.next) (ag:e.next<=b\/k=au6 b):dp z e (m.put b x) k:=by
 refine ⟨fun c ai=> ?_,fun c ai=> ?_,h.mD,h.next,fun c ai au=> ?_⟩
 ·have:=h.bl c ai
  grind [Mem.put]
 ·have ai:m.next<=c:=ai;simp only[Mem.put];rw[if_neg (by omega)];exact h.dead c ai
 ·simp only[Mem.put];rw[if_neg ?_]
  ·exact h.kept c ai au
  grind
structure fM (m m':Mem) (k:Option Nat):Prop where
 next:m.next<=m'.next
 dead:∀b,m'.next<=b->m'.aS b= .dead
 aS:∀b,b<m.next->k≠au6 b->m'.aS b=m.aS b
theorem dp.same {z:Nat->bo} {e m m':Mem} {k q:Option Nat} (h:dp z e m k) (s:fM m m' q) (bd:∀b,q=au6 b->z b= .dead/\(e.next<=b\/k=au6 b)):dp z e m' k:=by
 refine ⟨fun b ag=> ?_,s.dead,h.mD,avz h.next s.next,fun b ag au=> ?_⟩
 ·have:=h.bl b ag;refine ⟨?_,avx this.2 s.next⟩;rw[s.aS b this.2 (fun sN=>ag (bd b sN).1)]
  grind
 ·rw[s.aS b (avx ag h.next) (fun sN=> ?_)]
  ·exact h.kept b ag au
  grind
theorem dp.asl {z:Nat->bo} {e m:Mem} (h:dp z e m au8):m.lS e.next=e:=by
 have:(m.lS e.next).aS=e.aS:=by
  funext b;simp only[Mem.lS];split
  ·exact h.kept b ‹_› (by simp)
  ·exact (h.mD b (by omega)).symm
 simp_all [Mem.lS]
def ct.flat {aA:Type} (t:ave) (f:aA->au9) (bb:∀x,cP (f x)=au7):ct aA where
 a7:=1
 tid:=t
 rd:=fun _ x cs=>cs=[f x]
 len:=fun _ _ _ h=>by rw[h];rfl
 mono:=fun _ _ _ _ _ h=>h
 one:=fun _ x cs h c ai=>by rw[h] at ai;simp only[aw1] at ai;subst ai;have:=bb x;cases ae:f x<;>simp[ae,cP] at this<;>first|exact ⟨rfl,rfl⟩|exact ⟨by simp[storable,this],rfl⟩
def str (s:List UInt8):au9:= .string ⟨s.toArray⟩
def DX (t:ave) (k:avb):ct Int:=ct.flat t (fun n=> .int k n) fun _=>rfl
def z7 (t:ave):ct Bool:=ct.flat t (fun n=> .bool n) fun _=>rfl
def DY (t:ave):ct (List UInt8):=ct.flat t str fun _=>rfl
def Mm {aA:Type} (t:ave) (T:ct aA):ct (List aA) where
 a7:=1
 tid:=t
 rd:=fun z xs cs=>∃v,cs=[v]/\eu T z xs v
 len:=fun _ _ _ h=>by obtain ⟨v,rfl,_⟩:=h;rfl
 mono:=fun _ _ h _ _ bL=>by obtain ⟨v,U,aa⟩:=bL;exact ⟨v,U,aa.mono h⟩
 one:=fun _ _ cs h c ai=>by obtain ⟨v,rfl,aa⟩:=h;simp only[aw1] at ai;subst ai;obtain ⟨a,n,rfl⟩:=aa.len;exact ⟨rfl,rfl⟩
end Go.av
end
section
namespace Go.av
section
variable {P:avd} {af:avf->au9} {o:Oper}
theorem rW {x y:avf} (h:o.op.operands=#[x,y]) {v:au9} (aC:∀cs b,o.op≠ .select cs b) (ae:flat (af x)=au7) (aI:flat (af y)=au7) (ab:flat v=au7) (aE:∀w,(execOp af o).run P w= .ok (.value v) w):cW P af o v:=by
 refine .flat v aC (fun z a4=> ?_) ab aE
 grind
theorem GP {x:avf} (h:o.op.operands=#[x]) {v:au9} (aC:∀cs b,o.op≠ .select cs b) (ae:flat (af x)=au7) (ab:flat v=au7) (aE:∀w,(execOp af o).run P w= .ok (.value v) w):cW P af o v:=by
 refine .flat v aC (fun z a4=> ?_) ab aE
 grind
theorem aid {x:avf} {v:au9} (h:o.op= .move x) (ae:af x=v):cW P af o v:=ae▸ .move x (.inl h)
theorem apz {x:avf} {v:au9} (h:o.op= .assign x) (ae:af x=v):cW P af o v:=ae▸ .move x (.inr h)
theorem ZE {c a b:avf} {t:Bool} {v:au9} (h:o.op= .pick c a b) (ai:af c= .bool t) (ab:(if t then af a else af b)=v):cW P af o v:=ab▸ .pick c a b t h ai
theorem Xy {x:avf} {i:Nat} {vs:List au9} {v:au9} (h:o.op= .extract x i) (ae:af x= .tuple vs.toArray) (ab:vs[i]? =au6 v):cW P af o v:= .extract x i _ v h ae (by simpa using ab)
section
variable {x y:avf} {t u:ave} {k:avb} {a b:Int}
theorem mU {op:BinOp} (h:o.op= .binOp op t x y u) (ae:af x= .int k a) (aI:af y= .int k b) {v:au9} (oE:∀w,(binOp op t (.int k a) (.int k b)).run P w= .ok v w) (ab:flat v=au7):cW P af o v:=by
 refine rW (x:=x) (y:=y) (by rw[h];rfl) (by grind) (by rw[ae];rfl) (by rw[aI];rfl) ab fun w=> ?_;simp_all [eqGuard,execOp]
theorem mS {op:BinOp} (U:op≠ .shl) (aa:op≠ .shr) (w:World):(binOp op t (.int k a) (.int k b)).run P w=(match op with
   | .add| .sub| .mul=>Op.intArith op k a b
   | .quo| .rem=>Op.intDiv op k a b
   | .and| .or| .xor| .andNot=>Op.intBits op k a b
   |_=>Op.intCmp op a b).run P w:=by
 cases op<;>first|exact absurd rfl U|exact absurd rfl aa|grind [binOp]
theorem VX (h:o.op= .binOp .add t x y u) (ae:af x= .int k a) (aI:af y= .int k b):cW P af o (.int k (k.wrap (a+b))):=mU h ae aI (fun w=>by rw[mS (by simp) (by simp)];rfl) rfl
theorem V9 (h:o.op= .binOp .sub t x y u) (ae:af x= .int k a) (aI:af y= .int k b):cW P af o (.int k (k.wrap (a - b))):=mU h ae aI (fun w=>by rw[mS (by simp) (by simp)];rfl) rfl
theorem V4 (h:o.op= .binOp .mul t x y u) (ae:af x= .int k a) (aI:af y= .int k b):cW P af o (.int k (k.wrap (a*b))):=mU h ae aI (fun w=>by rw[mS (by simp) (by simp)];rfl) rfl
theorem OE (h:o.op= .binOp .quo t x y u) (ae:af x= .int k a) (aI:af y= .int k b) (ag:b≠0):cW P af o (.int k (k.wrap (a.tdiv b))):=mU h ae aI (fun w=>by rw[mS (by simp) (by simp)];simp[Op.intDiv,ag]) rfl
theorem OF (h:o.op= .binOp .rem t x y u) (ae:af x= .int k a) (aI:af y= .int k b) (ag:b≠0):cW P af o (.int k (a.tmod b)):=mU h ae aI (fun w=>by rw[mS (by simp) (by simp)];simp[Op.intDiv,ag]) rfl
def lg (op:BinOp) (k:avb) (x y:Int):Int:=
 let a:=awx k.bits x
 let b:=awx k.bits y
 match op with
 | .and=>k.wrap (a&&&b).toNat
 | .or=>k.wrap (a|||b).toNat
 | .xor=>k.wrap (a ^^^ b).toNat
 |_=>k.wrap (a&&&~~~b).toNat
theorem VY (h:o.op= .binOp .and t x y u) (ae:af x= .int k a) (aI:af y= .int k b):cW P af o (.int k (lg .and k a b)):=mU h ae aI (fun w=>by rw[mS (by simp) (by simp)];rfl) rfl
theorem V8 (h:o.op= .binOp .or t x y u) (ae:af x= .int k a) (aI:af y= .int k b):cW P af o (.int k (lg .or k a b)):=mU h ae aI (fun w=>by rw[mS (by simp) (by simp)];rfl) rfl
theorem Wa (h:o.op= .binOp .xor t x y u) (ae:af x= .int k a) (aI:af y= .int k b):cW P af o (.int k (lg .xor k a b)):=mU h ae aI (fun w=>by rw[mS (by simp) (by simp)];rfl) rfl
theorem apy (h:o.op= .binOp .andNot t x y u) (ae:af x= .int k a) (aI:af y= .int k b):cW P af o (.int k (lg .andNot k a b)):=mU h ae aI (fun w=>by rw[mS (by simp) (by simp)];rfl) rfl
theorem VZ (h:o.op= .binOp .eql t x y u) (ae:af x= .int k a) (aI:af y= .int k b):cW P af o (.bool (a==b)):=mU h ae aI (fun w=>by rw[mS (by simp) (by simp)];rfl) rfl
theorem V6 (h:o.op= .binOp .neq t x y u) (ae:af x= .int k a) (aI:af y= .int k b):cW P af o (.bool (a !=b)):=mU h ae aI (fun w=>by rw[mS (by simp) (by simp)];rfl) rfl
theorem V3 (h:o.op= .binOp .lss t x y u) (ae:af x= .int k a) (aI:af y= .int k b):cW P af o (.bool (decide (a<b))):=mU h ae aI (fun w=>by rw[mS (by simp) (by simp)];rfl) rfl
theorem V2 (h:o.op= .binOp .leq t x y u) (ae:af x= .int k a) (aI:af y= .int k b):cW P af o (.bool (decide (a<=b))):=mU h ae aI (fun w=>by rw[mS (by simp) (by simp)];rfl) rfl
theorem V1 (h:o.op= .binOp .gtr t x y u) (ae:af x= .int k a) (aI:af y= .int k b):cW P af o (.bool (decide (b<a))):=mU h ae aI (fun w=>by rw[mS (by simp) (by simp)];rfl) rfl
theorem V0 (h:o.op= .binOp .geq t x y u) (ae:af x= .int k a) (aI:af y= .int k b):cW P af o (.bool (decide (b<=a))):=mU h ae aI (fun w=>by rw[mS (by simp) (by simp)];rfl) rfl
theorem Qg {op:BinOp} {aaL:avb} (h:o.op= .binOp op t x y u) (ae:af x= .int k a) (aI:af y= .int aaL b) (ag:0<=b) (oE:op= .shl\/op= .shr):
  cW P af o (.int k (if op= .shl then k.wrap (a*2 ^ (min b.toNat k.bits)) else a.fdiv (2 ^ (min b.toNat k.bits)))):=by
 refine rW (x:=x) (y:=y) (by rw[h];rfl) (by grind) (by rw[ae];rfl) (by rw[aI];rfl) rfl fun w=> ?_;have a1:¬b<0:=by omega
 rcases oE with rfl|rfl
 ·simp[execOp,h,ae,aI,eqGuard,binOp,Op.shift,a1]
 ·simp[execOp,h,ae,aI,eqGuard,binOp,Op.shift,a1]
theorem V7 {b:Bool} (h:o.op= .unOp .not t x) (ae:af x= .bool b):cW P af o (.bool (!b)):=
 GP (x:=x) (by rw[h];rfl) (by grind) (by rw[ae];rfl) rfl fun w=>by simp only[execOp,h,ae];rfl
theorem V5 (h:o.op= .unOp .neg t x) (ae:af x= .int k a):cW P af o (.int k (k.wrap (0 - a))):=
 GP (x:=x) (by rw[h];rfl) (by grind) (by rw[ae];rfl) rfl fun w=>by simp only[execOp,h,ae];rfl
theorem ZU {d:TypeDesc} {cM:avb} (h:o.op= .convert t u x) (aw:P.underlying t=au6 d) (hu:P.underlying u=au6 (.int cM)) (ae:af x= .int k a):cW P af o (.int cM (cM.wrap a)):=
 GP (x:=x) (by rw[h];rfl) (by grind) (by rw[ae];rfl) rfl fun w=>by simp_all [execOp,convert,eZ,Conv.intToInt]
theorem ZA {ts:Array ave} (h:o.op= .call {callee:= .builtin .max,args:=#[x,y],argTypes:=ts}) (ae:af x= .int k a) (aI:af y= .int k b):cW P af o (.int k (max a b)):=by
 refine rW (x:=x) (y:=y) (by rw[h];rfl) (by grind) (by rw[ae];rfl) (by rw[aI];rfl) rfl fun w=> ?_;have:(awn k (if b>a then b else a))= .int k (max a b):=by grind
 simp_all [execOp,resolve,invoke,builtin,Builtin.max_,Builtin.max2]
theorem ZB {ts:Array ave} (h:o.op= .call {callee:= .builtin .min,args:=#[x,y],argTypes:=ts}) (ae:af x= .int k a) (aI:af y= .int k b):cW P af o (.int k (min a b)):=by
 refine rW (x:=x) (y:=y) (by rw[h];rfl) (by grind) (by rw[ae];rfl) (by rw[aI];rfl) rfl fun w=> ?_;have:(awn k (if b<a then b else a))= .int k (min a b):=by grind
 simp_all [execOp,resolve,invoke,builtin,Builtin.min_,Builtin.min2]
end
section
variable {x y:avf} {t u:ave} {s r:List UInt8}
theorem zv:(⟨s.toArray⟩:ByteArray).size=s.length:=by rfl
theorem Z0 {ts:Array ave} (h:o.op= .call {callee:= .builtin .len,args:=#[x],argTypes:=ts}) (Vv:ts[0]? =au6 t) (aw:P.underlying t=au6 .string) (ae:af x=str s):cW P af o (.int .i64 s.length):=
 GP (x:=x) (by rw[h];rfl) (by grind) (by rw[ae];rfl) rfl fun w=>by simp[execOp,h,ae,resolve,invoke,builtin,Builtin.len_,Vv,str,eZ aw,goInt,zv]
theorem YJ {k:avb} {n:Int} {c:UInt8} (h:o.op= .index t x y) (aw:P.underlying t=au6 .string) (ae:af x=str s) (aI:af y= .int k n) (bf:0<=n) (ai:s[n.toNat]? =au6 c):cW P af o (.int .u8 c.toNat):=by
 refine rW (x:=x) (y:=y) (by rw[h];rfl) (by grind) (by rw[ae];rfl) (by rw[aI];rfl) rfl fun w=> ?_;have a5:(⟨s.toArray⟩:ByteArray)[n.toNat]? =au6 c:=by have bS:=(avr.1 ai).1;have aa:=(avr.1 ai).2;rw[getElem?_pos (h:=by grind [zv])];congr 1
 simp_all [execOp,Instr.index,asIntOf,eZ,str]
theorem aiv (i k:Nat):(⟨s.toArray⟩:ByteArray).extract i k=⟨((s.take k).drop i).toArray⟩:=by
 have:((⟨s.toArray⟩:ByteArray).extract i k).data=((s.take k).drop i).toArray:=by
  grind [ByteArray.data_extract]
 cases ag:(⟨s.toArray⟩:ByteArray).extract i k
 grind
theorem YK {bD aj:Option avf} {a b:Nat} (h:o.op= .slice t x bD aj au8) (aw:P.underlying t=au6 .string) (ae:af x=str s) (dZ:n4 af bD a) (dy:lO af aj s.length b)
  (U:a<=b) (aa:b<=s.length):cW P af o (str ((s.take b).drop a)):=by
 refine .flat _ (by grind) (fun z a4=> ?_) rfl fun w=> ?_
 ·rw[h] at a4;cases bD with
  |none=>cases aj with
   |none=>simp[avi] at a4;subst a4;rw[ae];rfl
   |some y=>
    obtain ⟨k,aI⟩:=dy;simp[avi] at a4;rcases a4 with rfl|rfl
    ·rw[ae];rfl
    ·rw[aI];rfl
  |some q=>
   obtain ⟨cM,bd⟩:=dZ;cases aj with
   |none=>
    simp[avi] at a4;rcases a4 with rfl|rfl
    ·rw[ae];rfl
    ·rw[bd];rfl
   |some y=>
    obtain ⟨k,aI⟩:=dy;simp[avi] at a4;rcases a4 with rfl|rfl|rfl
    ·rw[ae];rfl
    ·rw[bd];rfl
    ·rw[aI];rfl
 ·have k5:(avC ava s.length s.length (bD.map af) (aj.map af) au8).run P w= .ok (a,b,s.length) w:=by
   cases bD with
   |none=>
    simp only[n4] at dZ;subst dZ;cases aj with
    |none=>simp_all [lO,avC]
    |some y=>obtain ⟨k,aI⟩:=dy;simp_all [avC,av3,asIntOf]
   |some q=>
    obtain ⟨cM,bd⟩:=dZ;cases aj with
    |none=>simp only[lO] at dy;simp_all [avC,av3,asIntOf]
    |some y=>obtain ⟨k,aI⟩:=dy;simp_all [avC,av3,asIntOf]
  simp only[execOp,h,awN,avH,eZ aw,avB,aw9,awO,ae,str,Option.isSome_none,axw,if_false,avM,zv,k5,aiv]
theorem va {op:BinOp} (h:o.op= .binOp op t x y u) (ae:af x=str s) (aI:af y=str r) (rm:op≠ .shl/\op≠ .shr) {v:au9} (oE:∀w,(awS op ⟨s.toArray⟩ ⟨r.toArray⟩).run P w= .ok v w) (ab:flat v=au7):cW P af o v:=by
 refine rW (x:=x) (y:=y) (by rw[h];rfl) (by grind) (by rw[ae];rfl) (by rw[aI];rfl) ab fun w=> ?_;simp_all [eqGuard,str,binOp,execOp]
def oS (s r:List UInt8):Bool:=Op.bytesLess s r
theorem Ki (l:List UInt8):(⟨l.toArray⟩:ByteArray).toList=l:=by simp_all
theorem ZW (h:o.op= .binOp .eql t x y u) (ae:af x=str s) (aI:af y=str r):cW P af o (.bool (s==r)):=va h ae aI (by simp) (fun w=>by simp_all [awS]) rfl
theorem ZD (h:o.op= .binOp .neq t x y u) (ae:af x=str s) (aI:af y=str r):cW P af o (.bool (!(s==r))):=va h ae aI (by simp) (fun w=>by simp_all [awS]) rfl
theorem Zz (h:o.op= .binOp .lss t x y u) (ae:af x=str s) (aI:af y=str r):cW P af o (.bool (oS s r)):=va h ae aI (by simp) (fun w=>by simp only[awS,Ki];rfl) rfl
theorem Z1 (h:o.op= .binOp .leq t x y u) (ae:af x=str s) (aI:af y=str r):cW P af o (.bool (oS s r||(s==r))):=va h ae aI (by simp) (fun w=>by simp only[awS,Ki];rfl) rfl
theorem ZZ (h:o.op= .binOp .gtr t x y u) (ae:af x=str s) (aI:af y=str r):cW P af o (.bool (!(oS s r||(s==r)))):=va h ae aI (by simp) (fun w=>by simp only[awS,Ki];rfl) rfl
theorem ZY (h:o.op= .binOp .geq t x y u) (ae:af x=str s) (aI:af y=str r):cW P af o (.bool (!oS s r)):=va h ae aI (by simp) (fun w=>by simp only[awS,Ki];rfl) rfl
theorem aqP:(⟨s.toArray⟩:ByteArray)++(⟨r.toArray⟩:ByteArray)=⟨(s++r).toArray⟩:=by
 rfl
theorem ZT (h:o.op= .binOp .add t x y u) (ae:af x=str s) (aI:af y=str r) (az:s.length+r.length<=9223372036854775807):cW P af o (str (s++r)):=va h ae aI (by simp) (fun w=>by
 simp only[awS,zv,awu.2 az];rw[if_neg (by show ¬_>(9223372036854775807:Int);omega),aqP];rfl) rfl
theorem WX {op:BinOp} {a b:Bool} (h:o.op= .binOp op t x y u) (aw:P.underlying t=au6 .bool) (ae:af x= .bool a) (aI:af y= .bool b) (oE:op= .eql\/op= .neq):cW P af o (.bool (if op= .eql then a==b else !(a==b))):=by
 refine rW (x:=x) (y:=y) (by rw[h];rfl) (by grind) (by rw[ae];rfl) (by rw[aI];rfl) rfl fun w=> ?_;have he:(Op.equal t (.bool a) (.bool b)).run P w= .ok (a==b) w:=by
  have aO:∀d:Nat,(Op.equalIn (d+1) t (.bool a) (.bool b)).run P w= .ok (a==b) w:=fun d=>by simp only[Op.equalIn,avH,eZ aw,avB,avM]
  exact aO 9999
 have a5:(eqGuard op t x y (.bool a) (.bool b)).run P w= .ok () w:=by rcases oE with rfl|rfl<;>rfl
 have ag:(binOp op t (.bool a) (.bool b)).run P w= .ok (.bool (if op= .eql then a==b else !(a==b))) w:=by
  rcases oE with rfl|rfl
  ·show (do pure (au9.bool (<-Op.equal t (.bool a) (.bool b))):Sem au9).run P w=_;simp_all
  ·show (do pure (au9.bool (!(<-Op.equal t (.bool a) (.bool b)))):Sem au9).run P w=_;simp_all
 grind [execOp,avH,avB,avM]
theorem ZV {a b:Bool} (h:o.op= .binOp .eql t x y u) (aw:P.underlying t=au6 .bool) (ae:af x= .bool a) (aI:af y= .bool b):cW P af o (.bool (a==b)):=WX h aw ae aI (.inl rfl)
theorem ZC {a b:Bool} (h:o.op= .binOp .neq t x y u) (aw:P.underlying t=au6 .bool) (ae:af x= .bool a) (aI:af y= .bool b):cW P af o (.bool (!(a==b))):=WX h aw ae aI (.inr rfl)
end
end
end Go.av
end
