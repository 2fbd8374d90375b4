import Derived.Calls
import Derived.Orders
import Derived.Tactics
import Derived.Below
import Derived.Defers
import Derived.WalkKit
import Derived.WalkSpells
import Derived.Scope
set_option linter.unusedSimpArgs false
set_option linter.unusedVariables false
open Array renaming ext'->auJ,getD_eq_getD_getElem?->avd,getElem?_eq_some_iff->auI,getElem?_push->auD,getElem?_toList->au8,isEmpty_iff->avN,mem_of_getElem?->avi,range->auB,replicate->at0,toList_append->avK,toList_extract->avH,toList_map->auA
open BitVec renaming ofInt->ave
open Bool renaming and_eq_true->ati,false_eq_true->avy,false->as9,true->as5
open Go renaming IntKind->as',Operand->atd,Program->atb,TypeId->atc,Value->as7
open Go.Builtin renaming append_->auC,firstCells->auf,lenOf->avA,zeroCells->au1
open Go.Call renaming operands->atL
open Go.Conv renaming bytesToString->avJ
open Go.Instr renaming lookup->au',mapUpdate->avM,slice->auL,sliceAt->auK,sliceBound->at1,sliceBounds->atA,sureAddr->auW
open Go.IntKind renaming wrap->ata,wrap_i64->avm
open Go.Op renaming operands->atg,stringOp->auR
open Go.Oper renaming wp->auh
open Go.Program renaming cellsOf->auv
open Go.Question renaming forced->avz
open Go.Region renaming before->atI,binds->aup,ready->avc,wanted->auE
open Go.Result renaming andThen->avl,andThen_ok->atz
open Go.Sem renaming run_bind->atE,run_pure->atK
open Go.Value renaming int->aul
open Go.World renaming block_lt_of_cell?->avg,cell?->at6,setCell->auZ
open List renaming all_cons->atX,all_eq_true->atq,ext_getElem?->auw,extract_eq_drop_take'->avI,getElem?_cons_succ->auo,getElem?_cons_zero->avo,getElem?_eq_some_iff->atp,getElem?_map->aub,getElem?_toArray->ava,map_cons->aud,map_nil->avB,map_toArray->avL,mem_append->atP,mem_cons->ats,mem_map->atw,mem_of_getElem?->at3,mem_of_mem_drop->avp,mem_of_mem_take->avb,mem_singleton->au2,mem_toArray->avh,range->atW,replicate->att
open Nat renaming add_assoc->atY,add_mul->atJ,add_mul_div_right->avx,add_zero->at2,le_of_lt->atO,le_refl->atk,le_succ->atG,le_trans->atx,lt_irrefl->auM,lt_of_le_of_lt->avj,lt_of_lt_of_le->atu,lt_or_ge->atV,lt_succ_self->at4,lt_trichotomy->avC,min->aum,mul_le_mul_right->aug,ne_of_lt->at7,not_lt->aut,zero_add->atB,zero_le->aue
open Option renaming bind_some->atr,map_none->au9,map_some->auN,some->atj,none->as6,some->as4
open True renaming intro->atm
section
namespace Go.ay
def cF:Nat:=9223372036854775808
structure jS where
 aS:Nat
 cap:Nat
 es:Nat
 dS:Nat
def bE:Type:=Nat->Option jS
inductive bm where
 |dead
 |ro (rd:Nat->Option as7)
 |own (cells:List as7) (elem:atc)
 |map (cells:List as7) (type:atc)
 |lock (nest at_:Nat) (cells:List as7) (elem:atc)
def bm.h4:bm->Bool
 | .own _ _| .map _ _=>as5
 |_=>as9
def bm.live:bm->Bool
 | .dead=>as9
 |_=>as5
structure Mem where
 next:Nat
 aS:Nat->bm
def Mem.load (m:Mem) (b o:Nat):Option as7:=
 match m.aS b with
 | .ro rd=>rd o
 | .own L _=>L[o]?
 | .map _ _=>as6
 | .lock _ _ _ _=>as6
 | .dead=>as6
def Mem.put (m:Mem) (b:Nat) (x:bm):Mem:={m with aS:=fun i=>if i=b then x else m.aS i}
def Mem.push (m:Mem) (x:bm):Mem:={next:=m.next+1,aS:=fun i=>if i=m.next then x else m.aS i}
def Mem.lx (m:Mem) (n:Nat):Mem:={next:=n,aS:=fun i=>if i<n then m.aS i else .dead}
def bp {aB bK:Type} (R:aB->bK->Prop):List aB->List bK->Prop
 |[],[]=>True
 |a::l,b::k=>R a b/\bp R l k
 |_,_=>False
def jy (j:bE):as7->as7->Prop
 | .pointer (as4 a),ba=>∃e,a.spot=as6/\j a.block=as4 e/\ba= .pointer (as4 ⟨e.aS,e.dS+a.off,as6⟩)
 |_,_=>False
def dD (j:bE):as7->as7->Prop
 | .pointer (as4 a),ba=>∃e,a.spot=as6/\j a.block=as4 e/\ba= .pointer (as4 ⟨e.aS,e.dS+a.off,as6⟩)
 | .slice (as4 a) l c,ba=>∃e,a.spot=as6/\j a.block=as4 e/\
   ((c<cF/\ba= .slice (as4 ⟨e.aS,e.dS+a.off,as6⟩) l c)\/
    (c=cF/\0<e.es/\l<=e.cap - a.off / e.es/\e.cap<cF/\a.off%e.es=0/\a.off / e.es<=e.cap/\ba= .slice (as4 ⟨e.aS,e.dS+a.off,as6⟩) l (e.cap - a.off / e.es))\/
    (c=cF/\l=0/\∃o',ba= .slice (as4 ⟨e.aS,o',as6⟩) 0 0)\/
    (c=0/\l=0/\∃a',ba= .slice (as4 a') 0 0)\/
    (∃k,c=cF+k/\0<k/\l<=k/\0<e.es/\k<=e.cap - a.off / e.es/\e.cap<cF/\a.off%e.es=0/\a.off / e.es<=e.cap/\ba= .slice (as4 ⟨e.aS,e.dS+a.off,as6⟩) l (e.cap - a.off / e.es)))
 | .map (as4 r),ba=>∃e,j r=as4 e/\ba= .map (as4 e.aS)
 | .func fn bl cs,ba=>bl=#[]/\∃ds:Array as7,ba= .func fn #[] ds/\bp (jy j) cs.toList ds.toList
 | .chan _,_| .iface ..,_| .agg _,_| .tuple _,_=>False
 |v,ba=>ba=v
def eX (j:bE):as7->as7->Prop
 | .agg cs,ba=>∃ds:Array as7,ba= .agg ds/\bp (dD j) cs.toList ds.toList
 |v,ba=>dD j v ba
def cL (j:bE):as7->as7->Prop
 | .chan as6,ba=>∀b,ba≠ .bool b
 | .chan (as4 k),ba=>ba= .pointer (as4 ⟨k / 4096,k%4096,as6⟩)
 | .tuple cs,ba=>∃ds:Array as7,ba= .tuple ds/\bp (eX j) cs.toList ds.toList
 | .func fn bl cs,ba=>∃gs ds:Array as7,ba= .func fn gs ds/\bp (eX j) bl.toList gs.toList/\bp (eX j) cs.toList ds.toList
 |v,ba=>eX j v ba
def cQ:as7->Bool
 | .bool _| .int _ _| .float _ _| .complex _ _ _| .string _| .pointer as6| .slice as6 _ _| .map as6| .nilFunc| .nilIface=>as5
 | .func _ bl cs=>bl.isEmpty&&cs.isEmpty
 |_=>as9
def jz:TypeDesc->Bool
 | .struct _| .array _ _=>as5
 |_=>as9
def dG (P:atb) (t:atc):Bool:=
 match P.underlying t with
 |some d=>jz d
 |none=>as9
def dY:Bool->List as7->as7
 |true,cs=> .agg cs.toArray
 |false,cs=>cs.headD undef
structure nm (ks vs:Nat) (L:List as7) (E:List (List as7×List as7)):Prop where
 eq:L=E.flatMap fun p=>p.1++p.2
 len:∀p∈E,p.1.length=ks/\p.2.length=vs
def rW (P:atb) (j:bE) (bh bc:atc) (p:List as7×List as7) (x:MapEntry):Prop:=
 x.key=dY (dG P bh) p.1/\p.1.all cQ=as5/\eX j (dY (dG P bc) p.2) x.val
def wS (cs:Array MapEntry) (clock:Nat):Prop:=(cs.toList.map (·.born)).Nodup/\∀x∈cs.toList,x.born<clock
def n1 (P:atb) (j:bE) (e:jS) (o:Option Obj):bm->Prop
 | .dead=>True
 | .ro rd=>∀i v,rd i=as4 v->∃(cs:Array as7) (t:atc) (bi:Nat×Nat) (ba:as7),o=as4 (.cells cs t bi)/\cs[e.dS+i]? =as4 ba/\dD j v ba
 | .own L t=>∃(cs:Array as7) (bi:Nat×Nat),o=as4 (.cells cs t bi)/\(∀i:Nat,i<cs.size->¬(bi.1<=i/\i<bi.2))/\
  P.cellsOf t=e.es/\e.dS+e.cap*e.es<=cs.size/\L.length<=e.cap*e.es/\∀(i:Nat) (v:as7),L[i]? =as4 v->∃ba,cs[e.dS+i]? =as4 ba/\dD j v ba
 | .map L u=>∃(bh bc:atc) (cs:Array MapEntry) (clock:Nat) (E:List (List as7×List as7)),o=as4 (.map cs clock)/\P.underlying u=as4 (.map bh bc)/\
  nm (P.cellsOf bh) (P.cellsOf bc) L E/\bp (rW P j bh bc) E cs.toList/\wS cs clock
 | .lock _ _ _ _=>False
def Qk (P : atb) (g : Nat) : Prop := P.globalNamed "internal/bytealg.MaxLen" = as4 g ∨ P.globalNamed "internal/strconv.uint64pow10" = as4 g ∨ P.globalNamed "humpyard/yardgen.dests" = as4 g
def n6:List (List UInt8):=[[97],[98],[99],[100],[101],[102,97,114]]
structure lB (P:atb) (w:World):Prop where
 len : ∀ g, P.globalNamed "internal/bytealg.MaxLen" = as4 g → ∃ m, w.cell? ⟨g, 0, as6⟩ = as4 (.int .i64 m)
 pow : ∀ g, P.globalNamed "internal/strconv.uint64pow10" = as4 g → w.var? P "internal/strconv.uint64pow10" = as4 ((atW 20).map fun i => aul .u64 ((10 ^ i : Nat) : Int)).toArray
 JJ : ∀ g, P.globalNamed "humpyard/yardgen.dests" = as4 g → ∀ n s, n6[n]? = as4 s → w.cell? ⟨g, n, as6⟩ = as4 (.string ⟨s.toArray⟩)
structure Dk (P:atb) (j:bE) (m:Mem) (w:World):Prop where
 val:lB P w
 sep:∀b e,j b=as4 e->(m.aS b).h4=as5->¬Qk P e.aS
structure QT (P:atb) (j:bE) (m:Mem) (w:World):Prop where
 lt:∀b e,j b=as4 e->b<m.next/\e.aS<w.heap.size
 obj:∀b e,j b=as4 e->n1 P j e w.heap[e.aS]? (m.aS b)
 inj:∀b cR e b0,j b=as4 e->j cR=as4 b0->(m.aS b).h4=as5->(m.aS cR).live=as5->e.aS=b0.aS->b=cR
structure Rel (P:atb) (j:bE) (m:Mem) (w:World):Prop extends QT P j m w where
 kq:Dk P j m w
structure qG (j:bE) (m:Mem) (w w':World):Prop where
 os:w'.os=w.os
 tape:w'.tape=w.tape
 output:w'.output=w.output
 size:w.heap.size<=w'.heap.size
 block:∀c,c<w.heap.size->(∀b e,j b=as4 e->(m.aS b).h4=as5->e.aS≠c)->w'.heap[c]? =w.heap[c]?
structure Post (P:atb) (j:bE) (m:Mem) (w:World) (bZ:bE) (m':Mem) (w':World):Prop where
 rel:Rel P bZ m' w'
 eY:qG j m w w'
 next:m.next<=m'.next
 ext:∀b,b<m.next->bZ b=j b
 fresh:∀b e,bZ b=as4 e->m.next<=b->w.heap.size<=e.aS\/∃eT fb,j eT=as4 fb/\(m.aS eT).h4=as5/\fb.aS=e.aS
 dN:∀b,b<m.next->(m'.aS b).h4=as5->(m.aS b).h4=as5
 alive:∀b,b<m.next->(m'.aS b).live=as5->(m.aS b).live=as5
theorem lB.lt {P:atb} {w:World} (h:lB P w) {g:Nat} (a5:Qk P g):g<w.heap.size:=by
 rcases a5 with a5|a5|a5
 ·obtain ⟨m,hm⟩:=h.len g a5;exact avg w ⟨g,0,as6⟩ hm
 rotate_left
 ·exact avg w ⟨g,0,as6⟩ (h.JJ g a5 0 _ rfl)
 ·have:=h.pow g a5;unfold World.var? at this;rw[a5] at this;simp only[atr] at this;split at this
  ·rename_i ah;exact (auI.1 ah).1
  ·cases this
theorem lB.keep {P:atb} {w w':World} (h:lB P w) (ar:∀g,Qk P g->w'.heap[g]? =w.heap[g]?):lB P w':=
 ⟨fun g a5=>by obtain ⟨m,hm⟩:=h.len g a5;exact ⟨m,by rw[<-hm];simp only[at6,ar g (.inl a5)]⟩,
  fun g a5=>by rw[<-h.pow g a5];simp only[World.var?,a5,atr,ar g (.inr (.inl a5))],
  fun g a5 n s aE=>by rw[<-h.JJ g a5 n s aE];simp only[at6,ar g (.inr (.inr a5))]⟩
theorem Dk.step {P:atb} {j bZ:bE} {m m':Mem} {w w':World} (t:Dk P j m w) (bd:qG j m w w') (he:∀b,b<m.next->bZ b=j b)
  (a2:∀b e,bZ b=as4 e->m.next<=b->w.heap.size<=e.aS\/∃eT fb,j eT=as4 fb/\(m.aS eT).h4=as5/\fb.aS=e.aS) (an:∀b,b<m.next->(m'.aS b).h4=as5->(m.aS b).h4=as5):Dk P bZ m' w':=
 ⟨t.val.keep fun g a5=>bd.block g (t.val.lt a5) fun b e ag cn h=>t.sep b e ag cn (h▸a5),fun b e ag cn a5=>by
  rcases atV b m.next with bS|gK
  ·exact t.sep b e ((he b bS).symm.trans ag) (an b bS cn) a5
  ·rcases a2 b e ag gK with U|⟨eT,fb,U,aa,ao⟩
   ·exact absurd (t.val.lt a5) (aut.2 U)
   ·exact t.sep eT fb U aa (ao▸a5)⟩
theorem Post.of {P:atb} {j bZ:bE} {m m':Mem} {w w':World} (r:Rel P j m w) (rel:QT P bZ m' w') (eY:qG j m w w') (next:m.next<=m'.next) (ext:∀b,b<m.next->bZ b=j b)
  (fresh:∀b e,bZ b=as4 e->m.next<=b->w.heap.size<=e.aS\/∃eT fb,j eT=as4 fb/\(m.aS eT).h4=as5/\fb.aS=e.aS) (dN:∀b,b<m.next->(m'.aS b).h4=as5->(m.aS b).h4=as5) (alive:∀b,b<m.next->(m'.aS b).live=as5->(m.aS b).live=as5):Post P j m w bZ m' w':=
 ⟨⟨rel,r.kq.step eY ext fresh dN⟩,eY,next,ext,fresh,dN,alive⟩
theorem bp.mono {aB bK:Type} {R S:aB->bK->Prop} (h:∀a b,R a b->S a b):∀{l:List aB} {k:List bK},bp R l k->bp S l k
 |[],[],_=>atm
 |_::_,_::_,⟨U,aa⟩=>⟨h _ _ U,bp.mono h aa⟩
 |[],_::_,h=>h.elim
 |_::_,[],h=>h.elim
theorem bp.length {aB bK:Type} {R:aB->bK->Prop}:∀{l:List aB} {k:List bK},bp R l k->l.length=k.length
 |[],[],_=>rfl
 |_::l,_::k,⟨_,aa⟩=>by simp[bp.length aa]
 |[],_::_,h=>h.elim
 |_::_,[],h=>h.elim
theorem bp.get {aB bK:Type} {R:aB->bK->Prop}:∀{l:List aB} {k:List bK} (_:bp R l k) (i:Nat) (a:aB),l[i]? =as4 a->∃b,k[i]? =as4 b/\R a b
 |[],[],_,i,a,h=>by grind
 |x::l,y::k,⟨U,aa⟩,0,a,h=>by grind
 |x::l,y::k,⟨U,aa⟩,i+1,a,h=>by simpa using bp.get aa i a (by grind)
 |[],_::_,h,_,_,_=>h.elim
 |_::_,[],h,_,_,_=>h.elim
theorem bp.EV {aB bK:Type} {R:aB->bK->Prop}:∀{l:List aB} {k:List bK},l.length=k.length->(∀(i:Nat) a b,l[i]? =as4 a->k[i]? =as4 b->R a b)->bp R l k
 |[],[],_,_=>atm
 |x::l,y::k,ax,h=>⟨h 0 x y (by rfl) (by rfl),bp.EV (by grind) fun i a b aY ag=>h (i+1) a b (by grind) (by grind)⟩
 |[],_::_,ax,_=>by grind
 |_::_,[],ax,_=>by grind
theorem bp.append {aB bK:Type} {R:aB->bK->Prop}:∀{l lk:List aB} {k cK:List bK},bp R l k->bp R lk cK->bp R (l++lk) (k++cK)
 |[],_,[],_,_,h=>h
 |_::_,_,_::_,_,⟨U,aa⟩,h=>⟨U,bp.append aa h⟩
 |[],_,_::_,_,h,_=>h.elim
 |_::_,_,[],_,h,_=>h.elim
theorem bp.take {aB bK:Type} {R:aB->bK->Prop}:∀(n:Nat) {l:List aB} {k:List bK},bp R l k->bp R (l.take n) (k.take n)
 |0,_,_,_=>by simp[bp]
 |n+1,[],[],_=>by grind
 |n+1,_::_,_::_,⟨U,aa⟩=>by simpa[bp] using ⟨U,bp.take n aa⟩
 |_+1,[],_::_,h=>h.elim
 |_+1,_::_,[],h=>h.elim
theorem bp.drop {aB bK:Type} {R:aB->bK->Prop}:∀(n:Nat) {l:List aB} {k:List bK},bp R l k->bp R (l.drop n) (k.drop n)
 |0,_,_,h=>by grind
 |n+1,[],[],_=>by grind
 |n+1,_::_,_::_,⟨_,aa⟩=>by simpa using bp.drop n aa
 |_+1,[],_::_,h=>h.elim
 |_+1,_::_,[],h=>h.elim
theorem jy.mono {j bZ:bE} (h:∀b e,j b=as4 e->bZ b=as4 e) {v ba:as7} (ab:jy j v ba):jy bZ v ba:=by
 unfold jy at ab⊢
 grind
theorem dD.mono {j bZ:bE} (h:∀b e,j b=as4 e->bZ b=as4 e) {v ba:as7} (ab:dD j v ba):dD bZ v ba:=by
 cases v with
 |func fn bl cs=>obtain ⟨U,ds,aa,ao⟩:=ab;exact ⟨U,ds,aa,ao.mono fun _ _=>jy.mono h⟩
 |pointer a=>cases a with
  |none=>exact ab
  |some a=>obtain ⟨e,U,aa,ao⟩:=ab;exact ⟨e,U,h _ _ aa,ao⟩
 |slice a l c=>cases a with
  |none=>exact ab
  |some a=>obtain ⟨e,U,aa,ao⟩:=ab;exact ⟨e,U,h _ _ aa,ao⟩
 |map r=>cases r with
  |none=>exact ab
  |some r=>obtain ⟨e,aa,ao⟩:=ab;exact ⟨e,h _ _ aa,ao⟩
 |_=>exact ab
theorem eX.mono {j bZ:bE} (h:∀b e,j b=as4 e->bZ b=as4 e) {v ba:as7} (ab:eX j v ba):eX bZ v ba:=by
 cases v with
 |agg cs=>obtain ⟨ds,U,aa⟩:=ab;exact ⟨ds,U,aa.mono fun _ _=>dD.mono h⟩
 |_=>grind [eX,dD.mono]
theorem cL.mono {j bZ:bE} (h:∀b e,j b=as4 e->bZ b=as4 e) {v ba:as7} (ab:cL j v ba):cL bZ v ba:=by
 cases v with
 |chan r=>cases r<;>exact ab
 |tuple cs=>obtain ⟨ds,U,aa⟩:=ab;exact ⟨ds,U,aa.mono fun _ _=>eX.mono h⟩
 |func fn bl cs=>obtain ⟨gs,ds,U,aa,ao⟩:=ab;exact ⟨gs,ds,U,aa.mono fun _ _=>eX.mono h,ao.mono fun _ _=>eX.mono h⟩
 |_=>simp only[cL] at ab⊢;exact eX.mono h ab
theorem n1.mono {P:atb} {j bZ:bE} {e:jS} {o:Option Obj} {x:bm} (h:n1 P j e o x) (a0:∀b e,j b=as4 e->bZ b=as4 e):n1 P bZ e o x:=by
 cases x with
 |dead=>trivial
 |ro rd=>intro i v aj;obtain ⟨cs,t,bi,ba,U,aa,ao⟩:=h i v aj;exact ⟨cs,t,bi,ba,U,aa,ao.mono a0⟩
 |own L t=>obtain ⟨cs,bi,U,aa,ao,aN,bI,eg⟩:=h;refine ⟨cs,bi,U,aa,ao,aN,bI,fun i v aj=> ?_⟩;obtain ⟨ba,aU,aO⟩:=eg i v aj;exact ⟨ba,aU,aO.mono a0⟩
 |map L u=>obtain ⟨bh,bc,cs,clock,E,U,aa,ao,aN,bI⟩:=h;exact ⟨bh,bc,cs,clock,E,U,aa,ao,aN.mono fun p x ⟨aU,aO,bT⟩=>⟨aU,aO,bT.mono a0⟩,bI⟩
 |lock _ _ _ _=>exact h.elim
theorem Rel.own {P:atb} {j:bE} {m:Mem} {w:World} (h:Rel P j m w) (b:Nat) (e:jS) (L:List as7) (t:atc) (a0:j b=as4 e) (ag:m.aS b= .own L t):∃(cs:Array as7) (bi:Nat×Nat),w.heap[e.aS]? =as4 (.cells cs t bi)/\(∀i:Nat,i<cs.size->¬(bi.1<=i/\i<bi.2))/\
  P.cellsOf t=e.es/\e.dS+e.cap*e.es<=cs.size/\L.length<=e.cap*e.es/\∀(i:Nat) (v:as7),L[i]? =as4 v->∃ba,cs[e.dS+i]? =as4 ba/\dD j v ba:=by
 have:=h.obj b e a0;rw[ag] at this;exact this
theorem eX.pc {j:bE} {v ba:as7} (h:dD j v ba):eX j v ba:=by
 cases v<;>first|exact h|exact h.elim
theorem jy.of {j:bE} {v ba:as7} (h:jy j v ba):dD j v ba:=by
 unfold jy at h;split at h
 ·exact h
 grind
theorem cL.um {j:bE} {v ba:as7} (h:eX j v ba):cL j v ba:=by
 cases v with
 |func fn bl cs=>obtain ⟨U,ds,aa,ao⟩:=h;subst U;exact ⟨#[],ds,aa,trivial,ao.mono fun _ _ h=>eX.pc (jy.of h)⟩
 |tuple _=>exact h.elim
 |chan _=>exact h.elim
 |_=>exact h
theorem cL.pc {j:bE} {v ba:as7} (h:dD j v ba):cL j v ba:=cL.um (eX.pc h)
theorem dD.one {j:bE} {v ba:as7} (h:dD j v ba):ba.oneCell'=as5:=by
 cases v with
 |pointer a=>cases a with
  |none=>cases h;rfl
  |some a=>obtain ⟨e,U,aa,ao⟩:=h;subst ao;rfl
 |slice a l c=>cases a with
  |none=>cases h;rfl
  |some a=>obtain ⟨e,U,aa,ao⟩:=h;rcases ao with ⟨_,rfl⟩|⟨_,_,_,_,_,_,rfl⟩|⟨_,_,_,rfl⟩|⟨_,_,_,rfl⟩|⟨_,_,_,_,_,_,_,_,_,rfl⟩<;>rfl
 |map r=>cases r with
  |none=>cases h;rfl
  |some r=>obtain ⟨e,aa,ao⟩:=h;subst ao;rfl
 |chan _=>exact h.elim
 |func _ _ _=>obtain ⟨_,ds,aa,_⟩:=h;subst aa;rfl
 |iface _ _=>exact h.elim
 |agg _=>exact h.elim
 |tuple _=>exact h.elim
 |_=>cases h;rfl
theorem dD.cells {j:bE} {v ba:as7} (h:dD j v ba):v.cells=#[v]/\ba.cells=#[ba]:=by
 refine ⟨?_, ?_⟩
 ·cases v<;>first|rfl|exact h.elim
 ·have:=h.one;cases ba<;>first|rfl|grind [as7.oneCell']
theorem eX.cells {j:bE} {v ba:as7} (h:eX j v ba):bp (dD j) v.cells.toList ba.cells.toList:=by
 cases v with
 |agg cs=>obtain ⟨ds,rfl,aa⟩:=h;exact aa
 |_=>simp only[eX] at h;have bg:=h;have:=dD.cells bg;rw[this.1,this.2];exact ⟨bg,atm⟩
theorem qG.refl (j:bE) (m:Mem) (w:World):qG j m w w:=⟨rfl,rfl,rfl,atk _,fun _ _ _=>rfl⟩
theorem Post.refl {P:atb} {j:bE} {m:Mem} {w:World} (h:Rel P j m w):Post P j m w j m w:=
 ⟨h,qG.refl j m w,atk _,fun _ _=>rfl,fun b e ag a2=>absurd (h.lt b e ag).1 (aut.2 a2),fun _ _ h=>h,fun _ _ h=>h⟩
theorem Post.up {P:atb} {j bZ:bE} {m m':Mem} {w w':World} (h:Post P j m w bZ m' w') (aF:Rel P j m w):∀b e,j b=as4 e->bZ b=as4 e:=
 fun b e ag=>by rw[h.ext b (aF.lt b e ag).1];grind
theorem Post.trans {P:atb} {j bZ ue:bE} {m m' UX:Mem} {w w' vh:World} (h:Post P j m w bZ m' w') (k:Post P bZ m' w' ue UX vh):Post P j m w ue UX vh where
 rel:=k.rel
 eY:=by
  refine ⟨k.eY.os.trans h.eY.os,k.eY.tape.trans h.eY.tape,k.eY.output.trans h.eY.output,atx h.eY.size k.eY.size,fun c ah a2=> ?_⟩;rw[k.eY.block c (atu ah h.eY.size) ?_,h.eY.block c ah a2];intro b e ag an he;rcases atV b m.next with bS|gK
  ·exact a2 b e (by rw[<-h.ext b bS];grind) (h.dN b bS an) he
  ·rcases h.fresh b e ag gK with bd|⟨eT,fb,oW,tV,Ue⟩
   ·omega
   grind
 next:=atx h.next k.next
 ext:=fun b ag=>by rw[k.ext b (atu ag h.next),h.ext b ag]
 fresh:=by
  intro b e ag gK;have asy:∀b e,bZ b=as4 e->(m'.aS b).h4=as5->w.heap.size<=e.aS\/∃eT fb,j eT=as4 fb/\(m.aS eT).h4=as5/\fb.aS=e.aS:=by
   intro b e ag an;rcases atV b m.next with bS|gK
   ·exact .inr ⟨b,e,by rw[<-h.ext b bS];grind,h.dN b bS an,rfl⟩
   ·exact h.fresh b e ag gK
  rcases atV b m'.next with bS|acK
  ·exact h.fresh b e (by rw[<-k.ext b bS];grind) gK
  ·rcases k.fresh b e ag acK with bd|⟨eT,fb,oW,tV,Ue⟩
   ·exact .inl (atx h.eY.size bd)
   grind
 dN:=fun b ag an=>h.dN b ag (k.dN b (atu ag h.next) an)
 alive:=fun b ag an=>h.alive b ag (k.alive b (atu ag h.next) an)
end Go.ay
end
section
namespace Go.ay
def iR:as7->Bool
 | .agg cs=>cs.toList.all cQ
 |v=>cQ v
def flat:as7->Bool
 | .tuple cs=>cs.toList.all iR
 |v=>iR v
def u3:as7->Bool
 | .pointer (as4 _)=>as5
 |_=>as9
def storable:as7->Bool
 | .tuple _| .chan _=>as9
 | .func _ bl cs=>bl.isEmpty&&cs.toList.all u3
 |_=>as5
def set (fr:Nat->as7) (d:Option Tmp) (v:as7):Nat->as7:=
 match d with
 |some t=>fun i=>if i=t then v else fr i
 |none=>fr
def a6 (fr:Nat->as7):atd->as7
 | .tmp t=>fr t
 | .const v=>v
 | .global g=> .chan (as4 (g*4096))
 | .func f=> .func (.func f) #[] #[]
def fK (m:Mem) (b:Nat):Nat->Nat->Option (List as7)
 |_,0=>as4 []
 |o,n+1=>match m.load b o,fK m b (o+1) n with
  |some v,as4 l=>as4 (v::l)
  |_,_=>as6
def e1:List as7->Nat->List as7->List as7
 |L,_,[]=>L
 |L,o,v::vs=>e1 (L.set o v) (o+1) vs
def jc (place:Nat->Option (Nat×Nat)) (cells:List as7):List (Nat×as7)->Option (List as7)
 |[]=>as4 cells
 |(i,v)::rest=>
  match place i with
  |none=>as6
  |some (off,size)=>if storable v=as5/\v.cells.size=size/\off+size<=cells.length then jc place (e1 cells off v.cells.toList) rest else as6
def lV (P:atb) (bl:Array Field):List (Option (Nat×Nat)):=bl.toList.map fun f=>(P.info? f.type).map fun i=>(f.offset,i.size)
def nM (af:atd->as7) (bD:Option atd) (n:Nat):Prop:=
 match bD with
 |none=>n=0
 |some y=>∃k,af y= .int k n
def lq (af:atd->as7) (aj:Option atd) (l n:Nat):Prop:=
 match aj with
 |none=>n=l
 |some y=>∃k,af y= .int k n
inductive cX (P:atb) (af:atd->as7) (o:Oper):as7->Prop where
 |flat (v:as7) (aE:∀cs b,o.op≠ .select cs b) (h:∀x∈o.op.operands,flat (af x)=as5) (ab:flat v=as5) (aF:∀w,(execOp af o).run P w= .ok (.value v) w):cX P af o v
 |move (x:atd) (h:o.op= .move x\/o.op= .assign x):cX P af o (af x)
 |pick (c a b:atd) (t:Bool) (h:o.op= .pick c a b) (ah:af c= .bool t):cX P af o (if t then af a else af b)
 |extract (x:atd) (i:Nat) (vs:Array as7) (v:as7) (h:o.op= .extract x i) (ad:af x= .tuple vs) (ab:vs[i]? =as4 v):cX P af o v
 |field (t:atc) (x:atd) (i:Nat) (bl:Array Field) (f:Field) (d:TypeDesc) (cs:Array as7) (v:as7) (h:o.op= .field t x i) (au:P.underlying t=as4 (.struct bl)) (bd:bl[i]? =as4 f)
   (aQ:P.underlying f.type=as4 d) (ad:af x= .agg cs) (ab:if jz d=as5 then ∃k,P.info? f.type=as4 k/\f.offset+k.size<=cs.size/\v= .agg (cs.extract f.offset (f.offset+k.size)) else cs[f.offset]? =as4 v):cX P af o v
 |build (t:atc) (cm:Array (Nat×atd)) (bl:Array Field) (i:TypeInfo) (z:as7) (cs:List as7) (h:o.op= .build t cm) (au:P.underlying t=as4 (.struct bl)) (aj:P.info? t=as4 i) (a4:i.zero=as4 z)
   (da:z.cells.toList.all cQ=as5) (aL:∀x∈lV P bl,x.isSome=as5)
   (ah:jc (fun k=>((lV P bl)[k]?).join) z.cells.toList (cm.toList.map fun p=>(p.1,af p.2))=as4 cs):cX P af o (.agg cs.toArray)
 |xW (t:atc) (cm:Array (Nat×atd)) (n:Nat) (e:atc) (i k:TypeInfo) (z:as7) (cs:List as7) (h:o.op= .build t cm) (au:P.underlying t=as4 (.array n e)) (aj:P.info? t=as4 i) (a4:i.zero=as4 z)
   (da:z.cells.toList.all cQ=as5) (he:P.info? e=as4 k)
   (ah:jc (fun j=>as4 (j*k.size,k.size)) z.cells.toList (cm.toList.map fun p=>(p.1,af p.2))=as4 cs):cX P af o (.agg cs.toArray)
 |EC (t:atc) (x y:atd) (e:atc) (d:TypeDesc) (i:TypeInfo) (l:Nat) (k:as') (n:Int) (cs:Array as7) (h:o.op= .index t x y) (au:P.underlying t=as4 (.array l e)) (aQ:P.underlying e=as4 d) (aY:jz d=as5) (aj:P.info? e=as4 i)
   (ad:af x= .agg cs) (aJ:af y= .int k n) (bg:0<=n) (U:n<l):cX P af o (.agg (cs.extract (n.toNat*i.size) (n.toNat*i.size+i.size)))
 |nilCheck (x:atd) (a:Addr) (h:o.op= .nilCheck x) (ad:af x= .pointer (as4 a)):cX P af o (.pointer (as4 a))
 |fieldAddr (t:atc) (x:atd) (i:Nat) (bl:Array Field) (f:Field) (k:TypeInfo) (b off:Nat) (h:o.op= .fieldAddr t x i) (au:P.underlying t=as4 (.struct bl)) (bd:bl[i]? =as4 f)
   (ar:P.info? f.type=as4 k) (aE:k.size≠0) (ad:af x= .pointer (as4 ⟨b,off,as6⟩)):cX P af o (.pointer (as4 ⟨b,off+f.offset,as6⟩))
 |indexAddr (t:atc) (x y:atd) (e:atc) (i:TypeInfo) (b off l c:Nat) (k:as') (n:Int) (h:o.op= .indexAddr t x y) (au:P.underlying t=as4 (.slice e)) (aj:P.info? e=as4 i)
   (ad:af x= .slice (as4 ⟨b,off,as6⟩) l c) (aJ:af y= .int k n) (bg:0<=n) (U:n<l):cX P af o (.pointer (as4 ⟨b,off+n.toNat*i.size,as6⟩))
 |yE (t:atc) (x y:atd) (e:atc) (i:TypeInfo) (b off l:Nat) (k:as') (n:Int) (h:o.op= .indexAddr t x y) (au:P.underlying t=as4 (.array l e)) (aj:P.info? e=as4 i)
   (ad:af x= .pointer (as4 ⟨b,off,as6⟩)) (aJ:af y= .int k n) (bg:0<=n) (U:n<l):cX P af o (.pointer (as4 ⟨b,off+n.toNat*i.size,as6⟩))
 |DZ (t:atc) (x y:atd) (e:atc) (i:TypeInfo) (l g:Nat) (k:as') (n:Int) (h:o.op= .indexAddr t x y) (au:P.underlying t=as4 (.array l e)) (aj:P.info? e=as4 i) (aE:i.size=1)
   (ad:af x= .chan (as4 (g*4096))) (aJ:af y= .int k n) (bg:0<=n) (U:n<l) (ax:l<4096):cX P af o (.chan (as4 (g*4096+n.toNat)))
 |slice (t:atc) (x:atd) (bD aj:Option atd) (e:atc) (i:TypeInfo) (b off l c:Nat) (n ct:Nat) (h:o.op= .slice t x bD aj as6) (au:P.underlying t=as4 (.slice e)) (eo:P.info? e=as4 i)
   (ad:af x= .slice (as4 ⟨b,off,as6⟩) l c) (ag:c<cF) (ef:nM af bD n) (dA:lq af aj l ct) (U:n<=ct) (aa:ct<=c)
   (ao:aj=as6->True):cX P af o (.slice (as4 ⟨b,if c=n then off else off+n*i.size,as6⟩) (ct - n) (c - n))
 |slice3 (t:atc) (x fl:atd) (aj:Option atd) (e:atc) (i:TypeInfo) (b off l c:Nat) (ct cK:Nat) (km:as') (h:o.op= .slice t x as6 aj (as4 fl)) (au:P.underlying t=as4 (.slice e)) (eo:P.info? e=as4 i)
   (ad:af x= .slice (as4 ⟨b,off,as6⟩) l c) (ah:(c<cF/\cK<=c)\/(c=cF/\cK<=l)) (dA:∃y k,aj=as4 y/\af y= .int k ct) (ld:af fl= .int km cK) (U:ct<=cK):cX P af o (.slice (as4 ⟨b,off,as6⟩) ct cK)
 |JG (t:atc) (x bD aj fl:atd) (e:atc) (i:TypeInfo) (b off l c n ct cK:Nat) (EI EG km:as') (h:o.op= .slice t x (as4 bD) (as4 aj) (as4 fl)) (au:P.underlying t=as4 (.slice e)) (eo:P.info? e=as4 i)
   (ad:af x= .slice (as4 ⟨b,off,as6⟩) l c) (ah:(c<cF/\cK<=c)\/(c=cF/\cK<=l)) (ef:af bD= .int EI n) (dA:af aj= .int EG ct) (ld:af fl= .int km cK) (bg:n<=ct) (U:ct<=cK):cX P af o (.chan as6)
 |Cm (t:atc) (x fl:atd) (aj:Option atd) (e:atc) (i:TypeInfo) (km:as') (h:o.op= .slice t x as6 aj (as4 fl)) (au:P.underlying t=as4 (.slice e)) (eo:P.info? e=as4 i)
   (ad:af x= .slice as6 0 0) (dA:∃y k,aj=as4 y/\af y= .int k 0) (ld:af fl= .int km 0):cX P af o (.slice as6 0 0)
 |kK (t:atc) (x:atd) (bD aj:Option atd) (e:atc) (i:TypeInfo) (h:o.op= .slice t x bD aj as6) (au:P.underlying t=as4 (.slice e)) (eo:P.info? e=as4 i)
   (ad:af x= .slice as6 0 0) (ef:nM af bD 0) (dA:lq af aj 0 0):cX P af o (.slice as6 0 0)
 |len (x:atd) (t e:atc) (a:Option Addr) (l c:Nat) (h:o.op= .call {callee:= .builtin .len,args:=#[x],argTypes:=#[t]}) (au:P.underlying t=as4 (.slice e)) (ad:af x= .slice a l c):cX P af o (.int .i64 l)
 |xX (x:atd) (t e:atc) (h:o.op= .call {callee:= .builtin .cap,args:=#[x],argTypes:=#[t]}) (au:P.underlying t=as4 (.slice e)) (ad:af x= .slice as6 0 0):cX P af o (.int .i64 0)
 |tz (neq:Bool) (x y:atd) (t u e:atc) (a:Addr) (l c:Nat) (h:o.op= .binOp (if neq then .neq else .eql) t x y u) (au:P.underlying t=as4 (.slice e))
   (ad:af x= .slice (as4 a) l c) (aJ:af y= .slice as6 0 0):cX P af o (.bool neq)
 |func (fn:Fn) (first captured:Array atd) (h:o.op= .makeFunc fn first captured) (bd:∀x∈first.toList++captured.toList,storable (af x)=as5):cX P af o (.func fn (first.map af) (captured.map af))
inductive qI (j3 gw:Bool) (key z:as7):List (List as7×List as7)->as7->Bool->Prop where
 |mR:qI j3 gw key z [] z as9
 |oe (p:List as7×List as7) (E:List (List as7×List as7)) (h:dY j3 p.1=key):qI j3 gw key z (p::E) (dY gw p.2) as5
 |next (p:List as7×List as7) (E:List (List as7×List as7)) (v:as7) (b:Bool) (h:dY j3 p.1≠key) (a1:qI j3 gw key z E v b):qI j3 gw key z (p::E) v b
inductive qL (j3:Bool) (key val:List as7):List (List as7×List as7)->List (List as7×List as7)->Prop where
 |mR:qL j3 key val [] [(key,val)]
 |oe (p:List as7×List as7) (E:List (List as7×List as7)) (h:dY j3 p.1=dY j3 key):qL j3 key val (p::E) ((p.1,val)::E)
 |next (p:List as7×List as7) (E E':List (List as7×List as7)) (h:dY j3 p.1≠dY j3 key) (a1:qL j3 key val E E'):qL j3 key val (p::E) (p::E')
open Classical in
noncomputable def m3 (v:as7):List MapEntry->Nat->Option (Nat×as7)
 |[],_=>as6
 |e::es,i=>if e.key=v then as4 (i,e.val) else m3 v es (i+1)
structure Keyed (P:atb) (bh:atc) (g6:as7->Prop):Prop where
 check:∀(em:Bool) (v:as7) (w:World),g6 v->(Instr.checkKey em 10000 bh v).run P w= .ok () w
 find:∀(v:as7) (es:List MapEntry) (w:World),g6 v->(∀x∈es,g6 x.key)->(Instr.findKey bh v es).run P w= .ok (m3 v es 0) w
 stays:∀(v:as7) (w:World),g6 v->(Instr.keyThatStays v v).run P w= .ok v w
inductive eJ (P:atb) (af:atd->as7) (o:Oper) (m:Mem):as7->Prop where
 |load (t:atc) (x:atd) (b off:Nat) (d:TypeDesc) (v:as7) (h:o.op= .load t x) (ad:af x= .pointer (as4 ⟨b,off,as6⟩)) (au:P.underlying t=as4 d) (aQ:jz d=as9) (ab:m.load b off=as4 v):eJ P af o m v
 | tG (t : atc) (x : atd) (g n : Nat) (s : List UInt8) (h : o.op = .load t x) (ad : af x = .chan (as4 (g * 4096 + n))) (a2 : n6[n]? = as4 s) (au : P.underlying t = as4 .string) (a5 : P.globalNamed "humpyard/yardgen.dests" = as4 g) : eJ P af o m (.string ⟨s.toArray⟩)
 |sz (t:atc) (x:atd) (b off:Nat) (d:TypeDesc) (i:TypeInfo) (cs:List as7) (h:o.op= .load t x) (ad:af x= .pointer (as4 ⟨b,off,as6⟩)) (au:P.underlying t=as4 d) (aQ:jz d=as5) (aj:P.info? t=as4 i)
   (ab:fK m b off i.size=as4 cs):eJ P af o m (.agg cs.toArray)
 |slice (t:atc) (x:atd) (bD aj:Option atd) (e:atc) (i:TypeInfo) (L:List as7) (b off l:Nat) (n ct:Nat) (h:o.op= .slice t x bD aj as6) (au:P.underlying t=as4 (.slice e)) (eo:P.info? e=as4 i)
   (ad:af x= .slice (as4 ⟨b,off,as6⟩) l cF) (hm:m.aS b= .own L e) (ef:nM af bD n) (dA:lq af aj l ct) (U:n<=ct) (aa:ct<=l)
   (ao:off+l*i.size<=L.length):eJ P af o m (.slice (as4 ⟨b,off+n*i.size,as6⟩) (ct - n) cF)
 |ve (t:atc) (x:atd) (bD aj:Option atd) (e:atc) (i:TypeInfo) (L:List as7) (b off l c k:Nat) (n ct:Nat) (h:o.op= .slice t x bD aj as6) (au:P.underlying t=as4 (.slice e)) (eo:P.info? e=as4 i)
   (ad:af x= .slice (as4 ⟨b,off,as6⟩) l c) (ar:(c=cF/\k=l)\/c=cF+k) (hm:m.aS b= .own L e) (ef:nM af bD n) (dA:lq af aj l ct) (U:n<=ct) (aa:ct<=k) (ao:n<k):
   eJ P af o m (.slice (as4 ⟨b,off+n*i.size,as6⟩) (ct - n) (cF+(k - n)))
 |str (s t:atc) (x:atd) (e:atc) (b off l c:Nat) (cs:List UInt8) (h:o.op= .convert s t x) (aE:P.underlying s=as4 (.slice e)) (he:P.underlying e=as4 (.int .u8)) (au:P.underlying t=as4 .string)
   (ad:af x= .slice (as4 ⟨b,off,as6⟩) l c) (ab:fK m b off l=as4 (cs.map fun u=> .int .u8 u.toNat)):eJ P af o m (.string ⟨cs.toArray⟩)
 |vf (s t:atc) (x:atd) (e:atc) (l c:Nat) (h:o.op= .convert s t x) (aE:P.underlying s=as4 (.slice e)) (he:P.underlying e=as4 (.int .u8)) (au:P.underlying t=as4 .string)
   (ad:af x= .slice as6 l c):eJ P af o m (.string .empty)
 |lookup (fh:atc) (x cJ:atd) (ok:Bool) (u bh bc:atc) (b:Nat) (L:List as7) (E:List (List as7×List as7)) (i:TypeInfo) (z kr:as7) (t:Bool) (g6:as7->Prop) (h:o.op= .lookup fh x cJ ok)
   (g0:P.underlying fh=as4 (.map bh bc)) (hu:P.underlying u=as4 (.map bh bc)) (ad:(af x= .map (as4 b)/\m.aS b= .map L u/\nm (P.cellsOf bh) (P.cellsOf bc) L E)\/(af x= .map as6/\E=[])) (lb:0<P.cellsOf bh)
   (q4:dG P bc=as9->P.cellsOf bc=1) (K:Keyed P bh g6) (bd:flat (af cJ)=as5) (ar:g6 (af cJ)) (a5:∀p∈E,g6 (dY (dG P bh) p.1)) (aj:P.info? bc=as4 i) (a4:i.zero=as4 z) (da:iR z=as5)
   (ax:qI (dG P bh) (dG P bc) (af cJ) z E kr t):eJ P af o m (if ok then .tuple #[kr, .bool t] else kr)
inductive ij (P:atb) (af:atd->as7) (o:Oper) (n:Nat):bm->as7->Prop where
 |alloc (t:atc) (i:TypeInfo) (z:as7) (h:o.op= .alloc t) (aj:P.info? t=as4 i) (a4:i.zero=as4 z) (da:z.cells.toList.all cQ=as5) (aE:z.cells.size=i.size):
   ij P af o n (.own z.cells.toList t) (.pointer (as4 ⟨n,0,as6⟩))
 |box (t:atc) (x:atd) (i:TypeInfo) (h:o.op= .box t x) (aj:P.info? t=as4 i) (ab:storable (af x)=as5) (aE:(af x).cells.size=i.size):
   ij P af o n (.own (af x).cells.toList t) (.pointer (as4 ⟨n,0,as6⟩))
 |buildSlice (t:atc) (l:Nat) (cm:Array (Nat×atd)) (e:atc) (i:TypeInfo) (z:as7) (cs:List as7) (h:o.op= .buildSlice t l cm) (au:P.underlying t=as4 (.slice e)) (aj:P.info? e=as4 i) (a4:i.zero=as4 z)
   (da:z.cells.toList.all cQ=as5) (dU:z.cells.size=i.size) (si:l*i.size<=16777216) (ss:l<9223372036854775808)
   (ah:jc (fun k=>as4 (k*i.size,i.size)) (att l z.cells.toList).flatten (cm.toList.map fun p=>(p.1,af p.2))=as4 cs):
   ij P af o n (.own cs e) (.slice (as4 ⟨n,0,as6⟩) l l)
 |makeSlice (t:atc) (x y:atd) (l c:Nat) (k cK:as') (e:atc) (i:TypeInfo) (z:as7) (h:o.op= .makeSlice t x y) (au:P.underlying t=as4 (.slice e)) (aj:P.info? e=as4 i) (a4:i.zero=as4 z)
   (da:z.cells.toList.all cQ=as5) (dU:z.cells.size=i.size) (ad:af x= .int k l) (aJ:af y= .int cK c) (qW:l<=c) (ag:i.bytes*c<=140737488355328) (ah:c<9223372036854775808):
   ij P af o n (.own (att c z.cells.toList).flatten e) (.slice (as4 ⟨n,0,as6⟩) l c)
 |bytes (s t:atc) (x:atd) (e:atc) (i:TypeInfo) (b:ByteArray) (h:o.op= .convert s t x) (aE:P.underlying s=as4 .string) (au:P.underlying t=as4 (.slice e)) (he:P.underlying e=as4 (.int .u8)) (aj:P.info? e=as4 i)
   (ju:i.size=1) (ad:af x= .string b) (ag:b.size<9223372036854775807):
   ij P af o n (.own (b.data.toList.map fun u=> .int .u8 u.toNat) e) (.slice (as4 ⟨n,0,as6⟩) b.size cF)
 |makeMap (t bh bc:atc) (h:o.op= .makeMap t as6) (au:P.underlying t=as4 (.map bh bc)):ij P af o n (.map [] t) (.map (as4 n))
def iY (m:Mem) (a9:Nat):as7->Option (List as7)
 | .slice (as4 ⟨b,off,as6⟩) l _=>fK m b off (l*a9)
 | .slice as6 _ _=>as4 []
 | .string s=>if a9=1 then as4 (s.data.toList.map fun u=> .int .u8 u.toNat) else as6
 |_=>as6
def hP:as7->Nat
 | .slice _ l _=>l
 | .string s=>s.size
 |_=>0
def callee (o:Oper) (af:atd->as7) (f:FuncId) (args:Array as7):Prop:=
 ∃x as ts first captured,o.op= .call {callee:= .value x,args:=as,argTypes:=ts}/\af x= .func (.func f) first captured/\args=first++as.map af++captured
inductive qA (P:atb) (m:Mem) (u:atc) (i:TypeInfo) (v:as7) (n:Nat) (new:List as7):Prop where
 |el (hu:(∃b0,P.underlying u=as4 (.slice b0))\/P.underlying u=as4 .string) (ax:hP v=n) (he:iY m i.size v=as4 new)
 |mk (kk k:as') (z:as7) (hu:P.underlying u=as4 (.int kk)) (ab:v= .int k n) (a4:i.zero=as4 z) (da:z.cells.toList.all cQ=as5) (dU:z.cells.size=i.size) (b6:0<i.size)
   (ag:n*i.bytes<=140737488355328) (hm:n<9223372036854775807) (lR:new=(att n z.cells.toList).flatten)
inductive gI (P:atb) (C:FuncId->Array as7->Mem->as7->Mem->Prop) (af:atd->as7) (o:Oper) (m:Mem):as7->Mem->Prop where
 |store (t:atc) (x y:atd) (b off:Nat) (i:TypeInfo) (L:List as7) (e:atc) (h:o.op= .store t x y) (ad:af x= .pointer (as4 ⟨b,off,as6⟩)) (aj:P.info? t=as4 i) (hm:m.aS b= .own L e)
   (ab:storable (af y)=as5) (aE:(af y).cells.size=i.size) (ax:off+i.size<=L.length):gI P C af o m undef (m.put b (.own (e1 L off (af y).cells.toList) e))
 |call (f:FuncId) (args:Array as7) (v:as7) (m':Mem) (h:callee o af f args) (ca:C f args m v m'):gI P C af o m v m'
 |r9 (x y:atd) (t u:atc) (e:atc) (i:TypeInfo) (a:Option Addr) (l c:Nat) (h:o.op= .call {callee:= .builtin .append,args:=#[x,y],argTypes:=#[t,u]}) (au:P.underlying t=as4 (.slice e)) (aj:P.info? e=as4 i)
   (ad:af x= .slice a l c) (ah:c<cF) (qW:l<=c) (aJ:qA P m u i (af y) 0 []):gI P C af o m (af x) m
 |pK (x y:atd) (t u:atc) (e:atc) (i:TypeInfo) (z:as7) (a:Option Addr) (l c n:Nat) (dN new:List as7) (h:o.op= .call {callee:= .builtin .append,args:=#[x,y],argTypes:=#[t,u]})
   (au:P.underlying t=as4 (.slice e)) (aj:P.info? e=as4 i) (a4:i.zero=as4 z) (da:z.cells.toList.all cQ=as5) (dU:z.cells.size=i.size) (b6:0<i.size)
   (ad:af x= .slice a l c) (ah:c<l+n)
   (an:iY m i.size (af x)=as4 dN) (kQ:dN.length=l*i.size) (aJ:qA P m u i (af y) n new) (a2:new.length=n*i.size) (ag:(l+n)*i.bytes<=140737488355328) (hm:l+n<9223372036854775807):
   gI P C af o m (.slice (as4 ⟨m.next,0,as6⟩) (l+n) cF) (m.push (.own (dN++new) e))
 |tr (x y:atd) (t u:atc) (e:atc) (i:TypeInfo) (b off l c n:Nat) (L new:List as7) (h:o.op= .call {callee:= .builtin .append,args:=#[x,y],argTypes:=#[t,u]})
   (au:P.underlying t=as4 (.slice e)) (aj:P.info? e=as4 i) (ad:af x= .slice (as4 ⟨b,off,as6⟩) l c) (fc:c<cF)
   (ah:l+n<=c) (hm:m.aS b= .own L e) (aJ:qA P m u i (af y) n new) (a2:new.length=n*i.size) (ax:off+(l+n)*i.size<=L.length):
   gI P C af o m (.slice (as4 ⟨b,off,as6⟩) (l+n) c) (m.put b (.own (e1 L (off+l*i.size) new) e))
 |vE (x y:atd) (t u:atc) (e:atc) (i:TypeInfo) (b off l c k n:Nat) (L new:List as7) (h:o.op= .call {callee:= .builtin .append,args:=#[x,y],argTypes:=#[t,u]})
   (au:P.underlying t=as4 (.slice e)) (aj:P.info? e=as4 i) (ad:af x= .slice (as4 ⟨b,off,as6⟩) l c) (fc:c=cF+k) (lO:0<k)
   (ah:l+n<=k) (hm:m.aS b= .own L e) (aJ:qA P m u i (af y) n new) (a2:new.length=n*i.size) (ax:off+(l+n)*i.size<=L.length):
   gI P C af o m (.slice (as4 ⟨b,off,as6⟩) (l+n) c) (m.put b (.own (e1 L (off+l*i.size) new) e))
 |append (x y:atd) (t u:atc) (e:atc) (i:TypeInfo) (z:as7) (b off l n:Nat) (L new:List as7) (h:o.op= .call {callee:= .builtin .append,args:=#[x,y],argTypes:=#[t,u]})
   (au:P.underlying t=as4 (.slice e)) (aj:P.info? e=as4 i) (a4:i.zero=as4 z) (da:z.cells.toList.all cQ=as5) (dU:z.cells.size=i.size) (b6:0<i.size)
   (ad:af x= .slice (as4 ⟨b,off,as6⟩) l cF) (iz:m.aS b= .own L e) (tS:off+l*i.size<=L.length)
   (aJ:qA P m u i (af y) n new) (a2:new.length=n*i.size) (ag:(l+n)*i.bytes<=140737488355328) (hm:l+n<9223372036854775807):
   gI P C af o m (.slice (as4 ⟨m.next,0,as6⟩) (l+n) cF) ((m.put b .dead).push (.own ((L.drop off).take (l*i.size)++new) e))
 |copy (x y:atd) (t u:atc) (e:atc) (i:TypeInfo) (b off l c:Nat) (L:List as7) (cs:List as7) (h:o.op= .call {callee:= .builtin .copy,args:=#[x,y],argTypes:=#[t,u]}) (au:P.underlying t=as4 (.slice e)) (aj:P.info? e=as4 i)
   (ad:af x= .slice (as4 ⟨b,off,as6⟩) l c) (hm:m.aS b= .own L e) (aJ:iY m i.size (af y)=as4 cs) (a2:cs.length=hP (af y)*i.size) (ax:off+l*i.size<=L.length):
   gI P C af o m (.int .i64 (aum (hP (af y)) l)) (m.put b (.own (e1 L off (cs.take (aum (hP (af y)) l*i.size))) e))
 |clear (x:atd) (t:atc) (e:atc) (i:TypeInfo) (z:as7) (b off l c:Nat) (L:List as7) (h:o.op= .call {callee:= .builtin .clear,args:=#[x],argTypes:=#[t]}) (au:P.underlying t=as4 (.slice e)) (aj:P.info? e=as4 i)
   (a4:i.zero=as4 z) (da:z.cells.toList.all cQ=as5) (dU:z.cells.size=i.size) (ad:af x= .slice (as4 ⟨b,off,as6⟩) l c) (hm:m.aS b= .own L e) (fW:0<l) (ax:off+l*i.size<=L.length):
   gI P C af o m (.tuple #[]) (m.put b (.own (e1 L off (att l z.cells.toList).flatten) e))
 |mapUpdate (fh:atc) (x gC gj:atd) (u bh bc:atc) (b:Nat) (L eb vc:List as7) (E E':List (List as7×List as7)) (g6:as7->Prop) (h:o.op= .mapUpdate fh x gC gj\/o.op= .insert fh x gC gj)
   (g0:P.underlying fh=as4 (.map bh bc)) (hu:P.underlying u=as4 (.map bh bc)) (ad:af x= .map (as4 b)) (hm:m.aS b= .map L u) (a1:nm (P.cellsOf bh) (P.cellsOf bc) L E) (lb:0<P.cellsOf bh)
   (K:Keyed P bh g6) (vW:af gC=dY (dG P bh) eb) (sq:eb.length=P.cellsOf bh) (vX:eb.all cQ=as5) (bd:flat (af gC)=as5) (ar:g6 (af gC)) (a5:∀p∈E,g6 (dY (dG P bh) p.1))
   (oj:storable (af gj)=as5) (Ew:af gj=dY (dG P bc) vc) (ub:vc.length=P.cellsOf bc) (yB:∀v∈vc,v∈(af gj).cells.toList) (fF:qL (dG P bh) eb vc E E'):
   gI P C af o m undef (m.put b (.map (E'.flatMap fun p=>p.1++p.2) u))
inductive nu (P:atb) (C:FuncId->Array as7->Mem->as7->Mem->Prop) (af:atd->as7) (o:Oper) (m:Mem):as7->Mem->Prop where
 |pure {v:as7} (h:cX P af o v):nu P C af o m v m
 |read {v:as7} (h:eJ P af o m v):nu P C af o m v m
 |new {X:bm} {v:as7} (h:ij P af o m.next X v):nu P C af o m v (m.push X)
 |e4 {v:as7} {m':Mem} (h:gI P C af o m v m'):nu P C af o m v m'
def wanted (ops:List Oper) (fr:Nat->as7) (o:Oper):Bool:=
 match o.guard with
 |none=>as5
 |some (j,want)=>
  match (ops[j]?).bind (·.dst) with
  |some d=>(match fr d with| .bool b=>b==want|_=>as9)
  |none=>as9
def jn (P:atb) (C:FuncId->Array as7->Mem->as7->Mem->Prop) (ops:List Oper):List Oper->(Nat->as7)->Mem->(Nat->as7)->Mem->Prop
 |[],fr,m,bA,m'=>bA=fr/\m'=m
 |o::os,fr,m,bA,m'=>
  if wanted ops fr o=as5 then ∃v bx,nu P C (a6 fr) o m v bx/\jn P C ops os (set fr o.dst v) bx bA m'
  else jn P C ops os (set fr o.dst undef) m bA m'
def kp:Op->Bool
 | .store .. | .mapUpdate .. | .insert .. =>as5
 | .call {callee:= .builtin .len, .. }| .call {callee:= .builtin .max, .. }| .call {callee:= .builtin .min, .. }=>as9
 | .call _=>as5
 |_=>as9
def fq (B:Array Nat) (i k:Nat):Bool:=(B.getD i 0).testBit k
structure Acc where
 reads:List (Nat×(Mem->Prop))
 gg:List (Nat×Mem)
 news:List (Nat×Nat)
def gT (P:atb) (C:FuncId->Array as7->Mem->as7->Mem->Prop) (ops:List Oper) (B:Array Nat):Nat->List Oper->Acc->(Nat->as7)->Mem->(Nat->as7)->Mem->Prop
 |_,[],_,fr,m,bA,m'=>bA=fr/\m'=m
 |i,o::os,A,fr,m,bA,m'=>
  if wanted ops fr o=as5 then
   (∃v,cX P (a6 fr) o v/\gT P C ops B (i+1) os A (set fr o.dst v) m bA m')\/
   (∃v,eJ P (a6 fr) o m v/\(∀x∈A.gg,fq B i x.1=as9->eJ P (a6 fr) o x.2 v)/\
    gT P C ops B (i+1) os {A with reads:=(i,fun m=>eJ P (a6 fr) o m v)::A.reads} (set fr o.dst v) m bA m')\/
   (∃X v,ij P (a6 fr) o m.next X v/\gT P C ops B (i+1) os {A with news:=(i,m.next)::A.news} (set fr o.dst v) (m.push X) bA m')\/
   (∃v bx,gI P C (a6 fr) o m v bx/\(∀x∈A.reads,fq B i x.1=as9->x.2 bx)/\(∀x∈A.news,fq B i x.1=as9->bx.aS x.2=m.aS x.2)/\
    gT P C ops B (i+1) os {A with gg:=(i,m)::A.gg} (set fr o.dst v) bx bA m')
  else gT P C ops B (i+1) os A (set fr o.dst undef) m bA m'
inductive eS where
 |normal
 |exit (id:Nat)
 |ret
 deriving DecidableEq
def UW (n:Nat):Option Addr->Prop
 |some a=>a.block<n
 |none=>True
def p5 (n:Nat):as7->Prop
 | .pointer a=>UW n a
 |_=>False
def g9 (n:Nat):as7->Prop
 | .pointer a| .slice a _ _=>UW n a
 | .map (as4 r)=>r<n
 | .func _ bl cs=>bl=#[]/\∀v∈cs.toList,p5 n v
 | .chan _| .iface _ _| .agg _| .tuple _=>False
 |_=>True
def hx (n:Nat):as7->Prop
 | .agg cs=>∀v∈cs.toList,g9 n v
 |v=>g9 n v
def low (n:Nat):as7->Prop
 | .chan _=>True
 | .tuple cs=>∀v∈cs.toList,hx n v
 | .func _ a b=>(∀v∈a.toList,hx n v)/\∀v∈b.toList,hx n v
 |v=>hx n v
def o8 (n:Nat):bm->Prop
 | .own L _| .map L _=>∀v∈L,g9 n v
 | .ro rd=>∀i v,rd i=as4 v->g9 n v
 | .dead=>True
 | .lock _ _ _ _=>True
def lT:atd->Bool
 | .tmp _| .func _=>as5
 | .const v=>flat v
 | .global _=>as5
def sL (ops:Array Oper) (o:Oper):List Nat:=
 (o.op.operands.toList.filterMap fun| .tmp t=>as4 t|_=>as6)++
 (match o.guard with|some (g,_)=>((ops[g]?).bind (·.dst)).toList|none=>[])++o.dst.toList
def qN (ops:Array Oper) (x o:Oper):Bool:=
 (match x.dst with|some d=>(sL ops o).contains d|none=>as9)||(match o.dst with|some d=>(sL ops x).contains d|none=>as9)||(kp x.op&&kp o.op)
def sQ (ops:Array Oper):Bool:=
 (atW ops.size).all fun i=>
  match ops[i]? with
  |none=>as5
  |some o=>(o.after.toList.all fun e=> !Region.binds .any e||decide (e.on<i))&&
   (atW i).all fun x=>match ops[x]? with|none=>as5|some y=> !qN ops y o||fq (atI ops) i x
def ir (n:Nat):Code->Bool
 | .region _ ops draw=>(ops.toList.all fun o=>o.op.operands.toList.all lT&&(match o.dst with|some d=>decide (d<n)|none=>as5))&&(!draw||sQ ops)
 | .seq a b=>ir n a&&ir n b
 | .cond c a b=>lT c&&ir n a&&ir n b
 | .block _ c=>ir n c
 | .scope c=>ir n c
 | .loop c=>ir n c
 |_=>as5
structure jT (ds:List Deferred) (j:bE) (N:Nat) (fr:Nat->as7) (a:Act):Prop where
 val:∀t,cL j (fr t) (a.tmps.getD t undef)
 defers:a.defers=ds
 size:a.tmps.size=N
def eS.out:eS->Exit
 | .normal=> .normal
 | .exit id=> .exit id
 | .ret=> .ret
def Mc (ops:Array Oper):List Nat:=ops.toList.filterMap (·.dst)
def pj:Code->List Nat
 | .region _ ops _=>Mc ops
 | .seq a b=>pj a++pj b
 | .cond _ a b=>pj a++pj b
 | .block _ c=>pj c
 | .scope c=>pj c
 | .loop c=>pj c
 |_=>[]
structure WF (m:Mem):Prop where
 dead:∀b,m.next<=b->m.aS b= .dead
 low:∀b,o8 m.next (m.aS b)
structure ZU (P:atb) (c:Code) (fr:Nat->as7) (m:Mem) (e:eS) (bA:Nat->as7) (m':Mem):Prop where
 next:m.next<=m'.next
 keep:∀i,(pj c).contains i=as9->bA i=fr i
 low:WF m->(∀t,low m.next (fr t))->WF m'/\∀t,low m'.next (bA t)
 sound:∀{ds:List Deferred} {N:Nat} {j:bE} {a:Act} {w:World} {Q:Exit->Act->World->Prop},ir N c=as5->Rel P j m w->WF m->jT ds j N fr a->(∀a' w' bZ,Post P j m w bZ m' w'->jT ds bZ N bA a'->Q e.out a' w')->c.wp P Q a w
def Y0:Code->Bool
 | .seq (.region _ _ _) (.block _ (.loop _))=>as5
 |_=>as9
def j6 (P:atb) (C:FuncId->Array as7->Mem->as7->Mem->Prop):Nat->Code->(Nat->as7)->Mem->eS->(Nat->as7)->Mem->Prop
 |0,_,_,_,_,_,_=>False
 |_+1, .skip,fr,m,e,bA,m'=>e= .normal/\bA=fr/\m'=m
 |_+1, .label _,fr,m,e,bA,m'=>e= .normal/\bA=fr/\m'=m
 |_+1, .exit id,fr,m,e,bA,m'=>e= .exit id/\bA=fr/\m'=m
 |_+1, .ret,fr,m,e,bA,m'=>e= .ret/\bA=fr/\m'=m
 |_+1, .region _ ops as9,fr,m,e,bA,m'=>e= .normal/\jn P C ops.toList ops.toList fr m bA m'
 |_+1, .region _ ops as5,fr,m,e,bA,m'=>e= .normal/\gT P C ops.toList (atI ops) 0 ops.toList ⟨[],[],[]⟩ fr m bA m'
 |n+1, .seq a b,fr,m,e,bA,m'=>(∃bt cU bx,j6 P C n a fr m bt cU bx/\(if bt= .normal then j6 P C n b cU bx e bA m' else e=bt/\bA=cU/\m'=bx))\/(Y0 a=as5/\ZU P (.seq a b) fr m e bA m')
 |n+1, .cond c a b,fr,m,e,bA,m'=>∃t,a6 fr c= .bool t/\j6 P C n (if t then a else b) fr m e bA m'
 |n+1, .scope c,fr,m,e,bA,m'=>j6 P C n c fr m e bA m'
 |n+1, .block id c,fr,m,e,bA,m'=>∃bt,j6 P C n c fr m bt bA m'/\e=(if bt= .exit id then .normal else bt)
 |n+1, .loop c,fr,m,e,bA,m'=>∃bt cU bx,j6 P C n c fr m bt cU bx/\(if bt= .normal then j6 P C n (.loop c) cU bx e bA m' else e=bt/\bA=cU/\m'=bx)
 |_+1,_,_,_,_,_,_=>False
def zh (P:atb) (fr:Nat->as7) (m:Mem):ResultVar->as7->Prop
 | .tmp t,v=>v=fr t
 | .cell a t,v=>∃b off,fr a= .pointer (as4 ⟨b,off,as6⟩)/\∃d,P.underlying t=as4 d/\
   (if jz d=as5 then ∃i cs,P.info? t=as4 i/\fK m b off i.size=as4 cs/\v= .agg cs.toArray else m.load b off=as4 v)
def oy (P:atb) (fr:Nat->as7) (m:Mem):List ResultVar->List as7->Prop
 |[],[]=>True
 |r::rs,v::vs=>zh P fr m r v/\oy P fr m rs vs
 |_,_=>False
def kS (P:atb) (f:FuncId):Bool:=
 match P.funcs[f]? with
 | as4 fn => !(fn.name == "runtime.NumGoroutine") && (match fn.body with | as4 c => ir fn.ntmps c | as6 => as9)
 |none=>as9
def pack:List as7->as7
 |[x]=>x
 |vs=> .tuple vs.toArray
def Y1 (P:atb) (f:FuncId) (sg:as7):Prop:=∀(p:Option Addr) (cap:Nat) (w:World),Calls P f #[.slice p 0 cap,sg] w fun e w'=>e= .returned (.tuple #[])/\w'=w
def Y2 (P:atb) (f:FuncId) (sg:as7) (l:Nat) (F mF:List as7):Prop:=
 ∀(w:World) (aS off cap:Nat) (cs:Array as7) (t:atc) (bi:Nat×Nat),w.heap[aS]? =as4 (.cells cs t bi)->(∀(i:Nat) (v:as7),F[i]? =as4 v->cs[off+i]? =as4 v)->(∀i,i<cs.size->¬(bi.1<=i/\i<bi.2))->
  Calls P f #[.slice (as4 ⟨aS,off,as6⟩) l cap,sg] w fun e w'=>e= .returned (.tuple #[])/\w'.os=w.os/\w'.tape=w.tape/\w'.output=w.output/\w.heap.size<=w'.heap.size/\
   (∀c,c<w.heap.size->c≠aS->w'.heap[c]? =w.heap[c]?)/\w'.heap[aS]? =as4 (.cells (e1 cs.toList off mF).toArray t bi)
structure Grown (w w':World):Prop where
 os:w'.os=w.os
 tape:w'.tape=w.tape
 output:w'.output=w.output
 size:w.heap.size<=w'.heap.size
 heap:∀c,c<w.heap.size->w'.heap[c]? =w.heap[c]?
inductive nt (P:atb) (f:FuncId) (args:Array as7) (m:Mem):as7->Mem->Prop where
 |none (a:Option Addr) (c g:Nat) (h:Y1 P f (.func (.func g) #[] #[])) (aY:args=#[.slice a 0 c, .func (.func g) #[] #[]]):nt P f args m (.tuple #[]) m
 |flat (v:as7) (tB:args.toList.all ay.flat=as5) (sg:ay.flat v=as5) (h:∀w,lB P w->Calls P f args w fun e w'=>e= .returned v/\Grown w w'):nt P f args m v m
 |any (v:as7) (m':Mem) (a2:m.next<=m'.next) (ar:WF m->low m'.next v/\WF m') (h:∀(j:bE) (w:World) (hc:Array as7),WF m->Rel P j m w->bp (cL j) args.toList hc.toList->Calls P f hc w fun e w'=>∃ba bZ,e= .returned ba/\Post P j m w bZ m' w'/\cL bZ v ba):nt P f args m v m'
 |fresh (cs:List as7) (e:atc) (l:Nat) (tB:args.toList.all ay.flat=as5) (DP:cs.all cQ=as5) (ax:cs.length=l*P.cellsOf e) (ag:l<cF)
   (h:∀w,lB P w->Calls P f args w fun x w'=>x= .returned (.slice (as4 ⟨w.heap.size,0,as6⟩) l l)/\w'=w.alloc (.cells cs.toArray e)):nt P f args m (.slice (as4 ⟨m.next,0,as6⟩) l l) (m.push (.own cs e))
 |row (b off l c g:Nat) (L:List as7) (e:atc) (F mF:List as7) (h:Y2 P f (.func (.func g) #[] #[]) l F mF) (aY:args=#[.slice (as4 ⟨b,off,as6⟩) l c, .func (.func g) #[] #[]]) (ax:0<l) (hm:m.aS b= .own L e)
   (dQ:(L.drop off).take F.length=F) (a2:off+F.length<=L.length) (ma:mF.length=F.length) (f1:F.all cQ=as5) (f2:mF.all cQ=as5):nt P f args m (.tuple #[]) (m.put b (.own (e1 L off mF) e))
def apB (P:atb) (g:FuncId):Prop:=
 (∃ fn, P.funcs[g]? = as4 fn ∧ (fn.name == "runtime.NumGoroutine") = as9 ∧ fn.body.isNone = as9) ∧
  ∀(cs:Array as7) (w:World),CallsD P g cs .returning w fun e u w'=>(∃v,e= .returned v)/\u= .returning/\w'=w
structure ZS (P:atb) (fn:Func) (c A:Code) (id:Nat) (mk n7:Oper) (B:Code) (g k:Nat) (cs:Array atd):Prop where
 body:fn.body=as4 (.seq A (.seq (.region id #[mk,n7] as9) B))
 code:c= .seq A (.seq (.region id #[mk] as9) B)
 dS:Y0 A=as9
 aet:mk.op= .makeFunc (.func g) #[] cs
 NK:mk.dst=as4 k
 UY:mk.guard=as6
 abw:n7.op= .defer {callee:= .value (.tmp k),args:=#[],argTypes:=#[]}
 abu:n7.dst=as6
 abv:n7.guard=as6
 aev:apB P g
def qe (P:atb) (fn:Func) (c:Code):Prop:=fn.body=as4 c\/∃A id mk n7 B g k cs,ZS P fn c A id mk n7 B g k cs
def iq (P:atb):Nat->FuncId->Array as7->Mem->as7->Mem->Prop
 |0,_,_,_,_,_=>False
 |n+1,f,args,m,v,m'=>(kS P f=as5/\nt P f args m v m')\/∃fn c e fr bx vs,P.funcs[f]? =as4 fn/\qe P fn c/\kS P f=as5/\args.size<=fn.ntmps/\
   j6 P (iq P n) n c (fun i=>(args++at0 (fn.ntmps - args.size) undef).getD i undef) m e fr bx/\(e= .normal\/e= .ret)/\
   oy P fr bx fn.results.toList vs/\v=pack vs/\(vs.length=1\/∀x∈vs,storable x=as5)/\
   (m'=bx\/(m'=bx.lx m.next/\low m.next v/\∀b,b<m.next->bx.aS b=m.aS b\/o8 m.next (bx.aS b)))
end Go.ay
end
section
namespace Go.ay
theorem bp.EU {aB bK:Type} {R:aB->bK->Prop} {l:List bK} (h:bp R [] l):l=[]:=by
 cases l with
 |nil=>rfl
 |cons _ _=>exact h.elim
theorem E4 {fn:Fn} {bl cs:Array as7} (h:cQ (.func fn bl cs)=as5):bl=#[]/\cs=#[]:=by
 grind [cQ]
theorem y4 {j:bE} {v ba:as7} (h:cQ v=as5) (ab:dD j v ba):ba=v:=by
 cases v with
 |pointer a=>cases a with
  |none=>exact ab
  |some a=>grind [cQ]
 |slice a l c=>cases a with
  |none=>exact ab
  |some a=>grind [cQ]
 |map r=>cases r with
  |none=>exact ab
  |some r=>grind [cQ]
 |chan _=>grind [cQ]
 |func _ _ _=>
  obtain ⟨rfl,rfl⟩:=E4 (fn:= .func 0) (by simpa[flat,iR,cQ] using h);obtain ⟨_,ds,aa,ao⟩:=ab;have:ds=#[]:=auJ (bp.EU ao)
  grind
 |iface _ _=>grind [cQ]
 |agg _=>grind [cQ]
 |tuple _=>grind [cQ]
 |_=>exact ab
theorem m0 {j:bE} {v:as7} (h:cQ v=as5):dD j v v:=by
 cases v with
 |pointer a=>cases a with
  |none=>rfl
  |some a=>grind [cQ]
 |slice a l c=>cases a with
  |none=>rfl
  |some a=>grind [cQ]
 |map r=>cases r with
  |none=>rfl
  |some r=>grind [cQ]
 |chan _=>grind [cQ]
 |func _ _ _=>obtain ⟨rfl,rfl⟩:=E4 (fn:= .func 0) (by simpa[flat,iR,cQ] using h);exact ⟨rfl,#[],rfl,trivial⟩
 |iface _ _=>grind [cQ]
 |agg _=>grind [cQ]
 |tuple _=>grind [cQ]
 |_=>rfl
theorem bp.vK {aB:Type} {R:aB->aB->Prop} {p:aB->Bool} (h:∀a b,p a=as5->R a b->b=a):∀{l k:List aB},l.all p=as5->bp R l k->k=l
 |[],[],_,_=>rfl
 |a::l,b::k,aL,⟨U,aa⟩=>by simp only[atX,ati] at aL;rw[h a b aL.1 U,bp.vK h aL.2 aa]
 |[],_::_,_,bJ=>bJ.elim
 |_::_,[],_,bJ=>bJ.elim
theorem bp.self {aB:Type} {R:aB->aB->Prop} {p:aB->Bool} (h:∀a,p a=as5->R a a):∀{l:List aB},l.all p=as5->bp R l l
 |[],_=>atm
 |a::l,aL=>by simp only[atX,ati] at aL;exact ⟨h a aL.1,bp.self h aL.2⟩
theorem WV {j:bE} {v ba:as7} (h:iR v=as5) (ab:eX j v ba):ba=v:=by
 cases v with
 |agg cs=>obtain ⟨ds,rfl,aa⟩:=ab;have:=bp.vK (fun a b=>y4 (j:=j)) h aa;simp_all
 |_=>exact y4 (j:=j) h (by grind [eX])
theorem wz {j:bE} {v:as7} (h:iR v=as5):eX j v v:=by
 cases v with
 |agg cs=>exact ⟨cs,rfl,bp.self (fun a=>m0) h⟩
 |_=>simp only[eX];exact m0 h
theorem wN {j:bE} {v ba:as7} (h:flat v=as5) (ab:cL j v ba):ba=v:=by
 cases v with
 |tuple cs=>obtain ⟨ds,rfl,aa⟩:=ab;have:=bp.vK (fun a b=>WV (j:=j)) h aa;simp_all
 |func _ _ _=>obtain ⟨rfl,rfl⟩:=E4 (fn:= .func 0) (by simpa[flat,iR,cQ] using h);obtain ⟨gs,ds,U,aa,ao⟩:=ab;rw[U,auJ (bp.EU aa),auJ (bp.EU ao)]
 |chan _=>grind [flat,iR,cQ]
 |_=>exact WV (j:=j) h (by grind [cL])
theorem Oh {j:bE} {v:as7} (h:flat v=as5):cL j v v:=by
 cases v with
 |tuple cs=>exact ⟨cs,rfl,bp.self (fun a=>wz) h⟩
 |func _ _ _=>obtain ⟨rfl,rfl⟩:=E4 (fn:= .func 0) (by simpa[flat,iR,cQ] using h);exact ⟨#[],#[],rfl,trivial,trivial⟩
 |chan _=>grind [flat,iR,cQ]
 |_=>simp only[cL];exact wz h
theorem jy.U8 {j:bE}:∀{l k:List as7},l.all u3=as5->bp (eX j) l k->bp (jy j) l k
 |[],[],_,_=>trivial
 |[],_::_,_,h=>h.elim
 |_::_,[],_,h=>h.elim
 |v::l,ba::k,aL,⟨U,aa⟩=>by
  simp only[atX,ati] at aL;refine ⟨?_,jy.U8 aL.2 aa⟩;have ab:=aL.1;unfold u3 at ab;split at ab
  ·exact U
  grind
theorem cL.storable {j:bE} {v ba:as7} (h:cL j v ba) (aE:storable v=as5):eX j v ba:=by
 cases v with
 |tuple _=>grind [ay.storable]
 |chan _=>grind [ay.storable]
 |func fn bl cs=>
  simp only[ay.storable,ati] at aE;have bd:bl=#[]:=by grind
  subst bd;obtain ⟨gs,ds,U,aa,ao⟩:=h;rw[auJ (bp.EU aa)] at U;exact ⟨rfl,ds,U,jy.U8 aE.2 ao⟩
 |_=>exact h
theorem cL.int {j:bE} {k:as'} {n:Int} {ba:as7} (h:cL j (.int k n) ba):ba= .int k n:=h
theorem cL.bool {j:bE} {b:Bool} {ba:as7} (h:cL j (.bool b) ba):ba= .bool b:=h
theorem cL.str {j:bE} {b:ByteArray} {ba:as7} (h:cL j (.string b) ba):ba= .string b:=h
theorem cL.kK {j:bE} {l c:Nat} {ba:as7} (h:cL j (.slice as6 l c) ba):ba= .slice as6 l c:=h
theorem cL.ptr {j:bE} {a:Addr} {ba:as7} (h:cL j (.pointer (as4 a)) ba):∃e,a.spot=as6/\j a.block=as4 e/\ba= .pointer (as4 ⟨e.aS,e.dS+a.off,as6⟩):=h
theorem cL.slice {j:bE} {a:Addr} {l c:Nat} {ba:as7} (h:cL j (.slice (as4 a) l c) ba):∃e,a.spot=as6/\j a.block=as4 e/\
   ((c<cF/\ba= .slice (as4 ⟨e.aS,e.dS+a.off,as6⟩) l c)\/
    (c=cF/\0<e.es/\l<=e.cap - a.off / e.es/\e.cap<cF/\a.off%e.es=0/\a.off / e.es<=e.cap/\ba= .slice (as4 ⟨e.aS,e.dS+a.off,as6⟩) l (e.cap - a.off / e.es))\/
    (c=cF/\l=0/\∃o',ba= .slice (as4 ⟨e.aS,o',as6⟩) 0 0)\/
    (c=0/\l=0/\∃a',ba= .slice (as4 a') 0 0)\/
    (∃k,c=cF+k/\0<k/\l<=k/\0<e.es/\k<=e.cap - a.off / e.es/\e.cap<cF/\a.off%e.es=0/\a.off / e.es<=e.cap/\ba= .slice (as4 ⟨e.aS,e.dS+a.off,as6⟩) l (e.cap - a.off / e.es))):=h
theorem cL.s6 {j:bE} {a:Addr} {l c:Nat} {ba:as7} (h:cL j (.slice (as4 a) l c) ba) (ah:c<=cF):∃e,a.spot=as6/\j a.block=as4 e/\
   ((c<cF/\ba= .slice (as4 ⟨e.aS,e.dS+a.off,as6⟩) l c)\/
    (c=cF/\0<e.es/\l<=e.cap - a.off / e.es/\e.cap<cF/\a.off%e.es=0/\a.off / e.es<=e.cap/\ba= .slice (as4 ⟨e.aS,e.dS+a.off,as6⟩) l (e.cap - a.off / e.es))\/
    (c=cF/\l=0/\∃o',ba= .slice (as4 ⟨e.aS,o',as6⟩) 0 0)\/
    (c=0/\l=0/\∃a',ba= .slice (as4 a') 0 0)):=by
 obtain ⟨e,U,aa,ao⟩:=h.slice;refine ⟨e,U,aa, ?_⟩;rcases ao with ao|ao|ao|ao|⟨k,ar,lO,_⟩
 ·grind
 ·grind
 ·grind
 ·grind
 grind
theorem m2 (b o n:Nat):(⟨b,o,as6⟩:Addr).add n=⟨b,o+n,as6⟩:=by
 grind [Addr.add]
theorem mZ:∀(vs L:List as7) (o:Nat),(e1 L o vs).length=L.length
 |[],L,o=>rfl
 |v::vs,L,o=>by simp[e1,mZ vs]
theorem oz (vs:List as7):∀(L:List as7) (o i:Nat),o+vs.length<=L.length->(e1 L o vs)[i]? =if o<=i/\i<o+vs.length then vs[i - o]? else L[i]? :=by
 induction vs with
 |nil=>grind [e1]
 |cons v vs aq=>
  grind [e1]
theorem ahU (vs:List as7):∀(A:Array as7) (o k:Nat),((vs.zipIdx k).foldl (fun cs (c,j)=>cs.setIfInBounds (o+j) c) A).toList=e1 A.toList (o+k) vs:=by
 induction vs with
 |nil=>simp_all [e1]
 |cons v vs aq=>simp_all [e1,atY]
theorem E9 {j:bE} {place:Nat->Option (Nat×Nat)}:∀(cm DE:List (Nat×as7)) (L:List as7) (A:Array as7) (cs:List as7),bp (fun p q=>p.1=q.1/\cL j p.2 q.2) cm DE->bp (dD j) L A.toList->jc place L cm=as4 cs->
  ∃ds,Instr.fill place A DE=as4 ds/\bp (dD j) cs ds.toList
 |[],[],L,A,cs,_,cV,h=>by simp only[jc,atj.injEq] at h;subst h;exact ⟨A,rfl,cV⟩
 |(i,v)::cm,(k,ba)::DE,L,A,cs,⟨⟨U,aa⟩,ao⟩,cV,h=>by
  simp only at U aa;subst U;simp only[jc] at h;cases aL:place i with
  |none=>grind
  |some q=>
   obtain ⟨off,size⟩:=q;simp only[aL] at h;split at h
   ·rename_i ah;obtain ⟨aE,b6,ax⟩:=ah;have mL:=cL.storable aa aE;have eZ:=eX.cells mL;have hlen:ba.cells.size=size:=by have:=eZ.length;grind
    have arD:L.length=A.size:=by have:=cV.length;grind
    simp only[Instr.fill,aL,hlen,ne_eq,not_true_eq_false,decide_false,Bool.false_or,decide_eq_true_eq];rw[if_neg (by omega)];refine E9 cm DE _ _ cs ao ?_ h;have bd:=ahU ba.cells.toList A off 0;simp only[at2] at bd;have p2:(ba.cells.zipIdx.foldl (fun cs (c,j)=>cs.setIfInBounds (off+j) c) A)=((ba.cells.toList.zipIdx).foldl (fun cs (c,j)=>cs.setIfInBounds (off+j) c) A):=by
     grind [Array.toList_zipIdx]
    rw[p2,bd];refine bp.EV (by grind [mZ]) ?_;intro i a b aY ag;rw[oz _ _ _ _ (by grind)] at aY;rw[oz _ _ _ _ (by grind)] at ag;have Uu:=eZ.length;rw[Uu] at aY;split at aY
    ·rename_i od;rw[if_pos od] at ag;obtain ⟨cR,ej,aF⟩:=eZ.get _ _ aY
     grind
    ·rename_i od;rw[if_neg od] at ag;obtain ⟨cR,ej,aF⟩:=cV.get _ _ aY
     grind
   grind
 |[],_::_,_,_,_,h,_,_=>h.elim
 |_::_,[],_,_,_,h,_,_=>h.elim
def hb (j:bE) (af cM:atd->as7) (o:Oper):Prop:=∀x∈o.op.operands,cL j (af x) (cM x)
theorem eU {P:atb} {t:atc} {d:TypeDesc} (h:P.underlying t=as4 d) (w:World):(underlying t).run P w= .ok d w:=run_underlying h w
theorem sT {P:atb} {t:atc} {i:TypeInfo} (h:P.info? t=as4 i) (w:World):(typeInfo t).run P w= .ok i w:=by simp[typeInfo,h]
theorem ie {P:atb} {t:atc} {i:TypeInfo} (h:P.info? t=as4 i) (w:World):(sizeOf t).run P w= .ok i.size w:=by simp[sizeOf,sT h]
theorem mn {P:atb} {t:atc} {i:TypeInfo} {z:as7} (h:P.info? t=as4 i) (a4:i.zero=as4 z) (w:World):(zeroValue t).run P w= .ok z w:=by simp_all [zeroValue,sT]
theorem rA {P:atb} {t:atc} {d:TypeDesc} (h:P.underlying t=as4 d) (w:World):(isAgg t).run P w= .ok (jz d) w:=by
 simp only[isAgg,atE,eU h,atz];cases d<;>simp[jz]
theorem hb.NH {j:bE} {af cM:atd->as7} {o:Oper} (cm:List (Nat×atd)) (h:∀p∈cm,cL j (af p.2) (cM p.2)):bp (fun (p q:Nat×as7)=>p.1=q.1/\cL j p.2 q.2) (cm.map fun p=>(p.1,af p.2)) (cm.map fun p=>(p.1,cM p.2)):=by
 induction cm with
 |nil=>exact atm
 |cons p cm aq=>exact ⟨⟨rfl,h p (by simp)⟩,aq fun q bb=>h q (by grind)⟩
theorem VU {P:atb} (w:World):∀(bl:List Field),(∀x∈bl.map (fun f=>(P.info? f.type).map fun i=>(f.offset,i.size)),x.isSome=as5)->
  (bl.mapM (m:=Sem) fun f=>do pure (f.offset,<-sizeOf f.type)).run P w= .ok (bl.map fun f=>(f.offset,((P.info? f.type).map (·.size)).getD 0)) w
 |[],_=>by rfl
 |f::bl,h=>by have bg:=h _ (by simp;exact .inl rfl);simp only[Option.isSome_map] at bg;obtain ⟨i,aj⟩:=Option.isSome_iff_exists.1 bg;have aq:=VU w bl (fun x ad=>h x (by simp only[aud,ats];exact .inr ad));simp_all [ie]
theorem hb.gD {j:bE} {af cM:atd->as7} {y:atd} {k:as'} {n:Int} (h:cL j (af y) (cM y)) (aJ:af y= .int k n):cM y= .int k n:=by
 rw[aJ] at h;exact h.int
end Go.ay
end
section
namespace Go.ay
theorem ah3 {P:atb} {j:bE} {af cM:atd->as7} {o:Oper} {v:as7} (aE:∀cs b,o.op≠ .select cs b) (h:∀x∈o.op.operands,flat (af x)=as5) (aF:∀w,(execOp af o).run P w= .ok (.value v) w)
  (ab:hb j af cM o) (w:World):(execOp cM o).run P w= .ok (.value v) w:=by
 rw[<-aF w];congr 1;exact execOp_congr o aE fun x ad=>wN (h x ad) (ab x ad)
theorem bp.extract {aB bK:Type} {R:aB->bK->Prop} {A:Array aB} {B:Array bK} (h:bp R A.toList B.toList) (i k:Nat):bp R (A.extract i k).toList (B.extract i k).toList:=by
 simp only[avH,avI];exact (h.take k).drop i
theorem bp.size {aB bK:Type} {R:aB->bK->Prop} {A:Array aB} {B:Array bK} (h:bp R A.toList B.toList):A.size=B.size:=by simpa using h.length
theorem bp.Mu {aB bK:Type} {R:aB->bK->Prop} {A:Array aB} {B:Array bK} (h:bp R A.toList B.toList) (i:Nat) (a:aB) (aY:A[i]? =as4 a):∃b,B[i]? =as4 b/\R a b:=by
 have:=h.get i a (by grind)
 grind
theorem bp.map {aB bK oM:Type} {R:bK->oM->Prop} (f:aB->bK) (g:aB->oM):∀(l:List aB),(∀x∈l,R (f x) (g x))->bp R (l.map f) (l.map g)
 |[],_=>atm
 |x::l,h=>⟨h x (by simp),bp.map f g l fun y aJ=>h y (by simp[aJ])⟩
theorem eX.up {j:bE} {v ba:as7} (h:eX j v ba):cL j v ba:=cL.um h
theorem ahS {P:atb} {cM:atd->as7} {o:Oper} (neq:Bool) (x y:atd) (t u e:atc) (a:Addr) (l c:Nat) (h:o.op= .binOp (if neq then .neq else .eql) t x y u) (au:P.underlying t=as4 (.slice e))
   (ad:cM x= .slice (as4 a) l c) (aJ:cM y= .slice as6 0 0) (w:World):(execOp cM o).run P w= .ok (.value (.bool neq)) w:=by
 grind [eqGuard,Lib.run_eql_slice_nil,run_neq_slice_nil_any,execOp,atE,atz,atK]
theorem N7 {P:atb} {j:bE} {af cM:atd->as7} {o:Oper} {v:as7} (h:cX P af o v) (bN:hb j af cM o) (w:World):∃ba,(execOp cM o).run P w= .ok (.value ba) w/\cL j v ba:=by
 cases h with
 |flat v aE h ab aF=>exact ⟨v,ah3 aE h aF bN w,Oh ab⟩
 |move x h=>
  refine ⟨cM x, ?_,bN x ?_⟩
  ·rcases h with h|h<;>simp[execOp,h]
  ·rcases h with h|h<;>simp[h,atg]
 |pick c a b t h ah=>
  have U:=bN c (by simp[h,atg]);rw[ah] at U;have aa:=U.bool;have aY:=bN a (by simp[h,atg]);have ag:=bN b (by simp[h,atg]);refine ⟨if t then cM a else cM b, ?_, ?_⟩
  ·simp only[execOp,h,aa];cases t<;>simp[asBool]
  ·cases t<;>simpa
 |extract x i vs v h ad ab=>have U:=bN x (by simp[h,atg]);rw[ad] at U;obtain ⟨ds,aQ,aa⟩:=U;obtain ⟨b,ag,aF⟩:=aa.Mu i v ab;exact ⟨b,by simp[execOp,h,Instr.extract,aQ,ag],aF.up⟩
 |field t x i bl f d cs v h au bd aQ ad ab=>
  have U:=bN x (by simp[h,atg]);rw[ad] at U;obtain ⟨ds,mM,aa⟩:=U;by_cases aY:jz d=as5
  ·rw[if_pos aY] at ab;obtain ⟨k,ar,hle,rfl⟩:=ab;refine ⟨.agg (ds.extract f.offset (f.offset+k.size)), ?_,⟨_,rfl,aa.extract _ _⟩⟩;simp[execOp,h,Instr.field,eU au,bd,mM,asAgg,part,rA aQ,aY,ie ar]
  ·rw[if_neg aY] at ab;obtain ⟨b,ag,aF⟩:=aa.Mu _ _ ab;refine ⟨b, ?_,cL.pc aF⟩;simp[execOp,h,Instr.field,eU au,bd,mM,asAgg,part,rA aQ,aY,ag]
 |EC t x y e d i l k n cs h au aQ aY aj ad aJ bg U=>have cB:=bN x (by simp[h,atg]);have hN:=bN y (by simp[h,atg]);rw[ad] at cB;rw[aJ] at hN;have kh:=hN.int;obtain ⟨ds,mM,aa⟩:=cB;refine ⟨.agg (ds.extract (n.toNat*i.size) (n.toNat*i.size+i.size)), ?_,⟨_,rfl,aa.extract _ _⟩⟩;simp[execOp,h,Instr.index,kh,asIntOf,eU au,mM,bg,U,part,rA aQ,aY,ie aj]
 |build t cm bl i z cs h au aj a4 da aL ah=>
  have aa:=hb.NH (j:=j) (af:=af) (cM:=cM) (o:=o) cm.toList (fun p aL=>bN p.2 (by
   simp only[h,atg];simp only[avh,atw];exact ⟨p,aL,rfl⟩))
  obtain ⟨ds,mM,aF⟩:=E9 (j:=j) _ _ _ z.cells cs aa (bp.self (fun a=>m0) da) ah;refine ⟨.agg ds, ?_,⟨_,rfl,by simpa using aF⟩⟩;have yu:=VU (P:=P) w bl.toList (by simpa[lV] using aL);have adz:(bl.mapM (m:=Sem) fun f=>do pure (f.offset,<-sizeOf f.type)).run P w= .ok (bl.map fun f=>(f.offset,((P.info? f.type).map (·.size)).getD 0)) w:=by rw[Array.mapM_eq_mapM_toList];simp only[Sem.run_map,yu,atz];congr 1;apply auJ;simp
  have acI:(fun k:Nat=>(bl.map fun f=>(f.offset,((P.info? f.type).map (·.size)).getD 0))[k]?)=(fun k:Nat=>((lV P bl)[k]?).join):=by
   funext k;simp only[lV,Array.getElem?_map,aub,au8];cases ar:bl[k]? with
   |none=>simp
   |some f=>
    have hm:f∈bl.toList:=by have:=avi ar;simpa using this
    have:=aL ((P.info? f.type).map fun i=>(f.offset,i.size)) (by simp only[lV,atw];exact ⟨f,hm,rfl⟩);simp only[Option.isSome_map] at this;obtain ⟨q,bb⟩:=Option.isSome_iff_exists.1 this;simp[bb]
  have yv:(cm.map fun (i,x)=>(i,cM x)).toList=cm.toList.map fun p=>(p.1,cM p.2):=by simp
  simp only[execOp,h,Instr.build,atE,mn aj a4,atz,eU au,adz,acI,yv,mM,atK]
 |xW t cm n e i k z cs h au aj a4 da he ah=>
  have aa:=hb.NH (j:=j) (af:=af) (cM:=cM) (o:=o) cm.toList (fun p aL=>bN p.2 (by
   simp only[h,atg];simp only[avh,atw];exact ⟨p,aL,rfl⟩))
  obtain ⟨ds,mM,aF⟩:=E9 (j:=j) _ _ _ z.cells cs aa (bp.self (fun a=>m0) da) ah;refine ⟨.agg ds, ?_,⟨_,rfl,by simpa using aF⟩⟩;have yv:(cm.map fun (i,x)=>(i,cM x)).toList=cm.toList.map fun p=>(p.1,cM p.2):=by simp
  simp only[execOp,h,Instr.build,atE,mn aj a4,atz,eU au,ie he,yv,mM,atK]
 |nilCheck x a h ad=>have U:=bN x (by simp[h,atg]);rw[ad] at U;obtain ⟨e,aE,a0,ah⟩:=U.ptr;exact ⟨_,by simp[execOp,h,ah],⟨e,aE,a0,rfl⟩⟩
 |fieldAddr t x i bl f k b off h au bd ar aE ad=>have U:=bN x (by simp[h,atg]);rw[ad] at U;obtain ⟨e,_,a0,ah⟩:=U.ptr;refine ⟨.pointer (as4 ⟨e.aS,e.dS+(off+f.offset),as6⟩), ?_,⟨e,rfl,a0,rfl⟩⟩;simp[execOp,h,Instr.fieldAt,eU au,bd,ah,auW,fieldPlace,ie ar,aE,m2,atY]
 |indexAddr t x y e i b off l c k n h au aj ad aJ bg U=>
  have cB:=bN x (by simp[h,atg]);have hN:=bN y (by simp[h,atg]);rw[ad] at cB;rw[aJ] at hN;have kh:=hN.int;obtain ⟨q,_,a0,ah⟩:=cB.slice;have ee:∃bP,cM x= .slice (as4 ⟨q.aS,q.dS+off,as6⟩) l bP:=by
   rcases ah with ⟨_,ah⟩|⟨_,_,_,_,_,_,ah⟩|⟨_,ax,_,ah⟩|⟨_,ax,_⟩|⟨_,_,_,_,_,_,_,_,_,ah⟩
   ·exact ⟨_,ah⟩
   ·exact ⟨_,ah⟩
   ·omega
   ·omega
   ·exact ⟨_,ah⟩
  obtain ⟨bP,ee⟩:=ee;refine ⟨.pointer (as4 ⟨q.aS,q.dS+(off+n.toNat*i.size),as6⟩), ?_,⟨q,rfl,a0,rfl⟩⟩;simp[execOp,h,Instr.indexAt,kh,asIntOf,eU au,ee,bg,U,ie aj,m2,atY]
 |yE t x y e i b off l k n h au aj ad aJ bg U=>have cB:=bN x (by simp[h,atg]);have hN:=bN y (by simp[h,atg]);rw[ad] at cB;rw[aJ] at hN;have kh:=hN.int;obtain ⟨q,_,a0,ah⟩:=cB.ptr;refine ⟨.pointer (as4 ⟨q.aS,q.dS+(off+n.toNat*i.size),as6⟩), ?_,⟨q,rfl,a0,rfl⟩⟩;simp[execOp,h,Instr.indexAt,kh,asIntOf,eU au,ah,auW,bg,U,ie aj,m2,atY]
 |DZ t x y e i l g k n h au aj aE ad aJ bg U ax=>
  have cB:=bN x (by simp[h,atg]);have hN:=bN y (by simp[h,atg]);rw[ad] at cB;rw[aJ] at hN;have kh:=hN.int;have ah:cM x= .pointer (as4 ⟨g,0,as6⟩):=by have cB:cM x= .pointer (as4 ⟨g*4096 / 4096,g*4096%4096,as6⟩):=cB;rw[cB,show g*4096 / 4096=g by omega,show g*4096%4096=0 by omega]
  refine ⟨.pointer (as4 ⟨g,n.toNat,as6⟩), ?_, ?_⟩
  ·simp[execOp,h,Instr.indexAt,kh,asIntOf,eU au,ah,auW,bg,U,ie aj,m2,aE]
  ·show as7.pointer _=_;rw[show (g*4096+n.toNat) / 4096=g by omega,show (g*4096+n.toNat)%4096=n.toNat by omega]
 |slice t x bD aj e i b off l c n ct h au eo ad ag ef dA U aa ao=>
  have cB:=bN x (by simp[h,atg]);rw[ad] at cB;obtain ⟨q,_,a0,ah⟩:=cB.s6 (atO ag);have hex:∃a':Addr,cM x= .slice (as4 a') l c/\((c<cF/\a'=⟨q.aS,q.dS+off,as6⟩)\/(c=0/\l=0)):=by
   rcases ah with ⟨bS,ah⟩|⟨ah,_⟩|⟨ah,_⟩|⟨ah,ax,a',aY⟩
   ·exact ⟨_,ah, .inl ⟨bS,rfl⟩⟩
   ·exact (at7 ag ah).elim
   ·exact (at7 ag ah).elim
   ·subst ah;subst ax;exact ⟨a',aY, .inr ⟨rfl,rfl⟩⟩
  obtain ⟨a',ee,Ng⟩:=hex;have kO:(atA as5 l c (bD.map cM) (aj.map cM) as6).run P w= .ok (n,ct,c) w:=by
   cases bD with
   |none=>
    simp only[nM] at ef;subst ef;cases aj with
    |none=>simp only[lq] at dA;subst dA;simp[atA]
    |some y=>obtain ⟨k,aJ⟩:=dA;have:=hb.gD (bN y (by simp[h,atg])) aJ;simp[atA,this,at1,asIntOf,aa]
   |some u=>
    obtain ⟨k,hu⟩:=ef;have kl:=hb.gD (bN u (by simp[h,atg])) hu;cases aj with
    |none=>simp only[lq] at dA;subst dA;simp[atA,kl,at1,asIntOf,U]
    |some y=>obtain ⟨cK,aJ⟩:=dA;have:=hb.gD (bN y (by simp[h,atg])) aJ;simp[atA,this,kl,at1,asIntOf,U,aa]
  refine ⟨.slice (as4 (if c=n then a' else a'.add (n*i.size))) (ct - n) (c - n), ?_, ?_⟩
  ·simp only[execOp,h,auK,atE,eU au,atz,au9,auL,ee,kO,ie eo,atK];congr 3;split<;>simp
  ·refine ⟨q,rfl,a0, ?_⟩;rcases Ng with ⟨bS,rfl⟩|⟨rfl,rfl⟩
   ·refine .inl ⟨avj (Nat.sub_le c n) bS, ?_⟩;congr 2;split<;>simp[m2,atY]
   ·have a2:n=0:=by omega
    have bJ:ct=0:=by omega
    subst a2;subst bJ;exact .inr (.inr (.inr (.inl ⟨rfl,rfl,_,rfl⟩)))
 |slice3 t x fl aj e i b off l c ct cK km h au eo ad ah dA ld U=>
  obtain ⟨y,uh,rfl,aJ⟩:=dA;have cB:=bN x (by simp[h,atg]);rw[ad] at cB;have q8:=hb.gD (bN y (by simp[h,atg])) aJ;have ki:=hb.gD (bN fl (by simp[h,atg])) ld;obtain ⟨q,_,a0,eZ⟩:=cB.s6 (by rcases ah with ⟨U,_⟩|⟨U,_⟩<;>omega);have hex:∃(a':Addr) (bP:Nat),cM x= .slice (as4 a') l bP/\cK<=bP/\dD j (.slice (as4 ⟨b,off,as6⟩) ct cK) (.slice (as4 a') ct cK):=by
   rcases eZ with ⟨bS,eZ⟩|⟨fc,_,hle,iy,_,_,eZ⟩|⟨fc,fW,o',eZ⟩|⟨nB,fW,a',eZ⟩
   ·rcases ah with ⟨_,ar⟩|⟨fc,_⟩
    ·exact ⟨_,_,eZ,ar,q,rfl,a0, .inl ⟨avj ar bS,rfl⟩⟩
    ·exact absurd (fc▸bS) (auM _)
   ·rcases ah with ⟨kB,_⟩|⟨_,ar⟩
    ·exact (at7 kB fc).elim
    ·exact ⟨_,_,eZ,atx ar hle,q,rfl,a0, .inl ⟨avj (atx ar hle) (avj (Nat.sub_le _ _) iy),rfl⟩⟩
   ·rcases ah with ⟨kB,_⟩|⟨_,ar⟩
    ·exact (at7 kB fc).elim
    ·have lO:cK=0:=by omega
     have MT:ct=0:=by omega
     subst lO MT;subst fW;exact ⟨_,_,eZ,aue _,q,rfl,a0, .inr (.inr (.inr (.inl ⟨rfl,rfl,_,rfl⟩)))⟩
   ·subst nB fW;have lO:cK=0:=by rcases ah with ⟨_,ar⟩|⟨_,ar⟩<;>omega
    have MT:ct=0:=by omega
    subst lO MT;exact ⟨a',_,eZ,atk _,q,rfl,a0, .inr (.inr (.inr (.inl ⟨rfl,rfl,_,rfl⟩)))⟩
  obtain ⟨a',bP,ee,ar,ab⟩:=hex;have kO:(atA as5 l bP (as6:Option as7) ((as4 y).map cM) (as4 (cM fl))).run P w= .ok (0,ct,cK) w:=by simp[atA,q8,ki,at1,asIntOf,ar,U]
  refine ⟨_, ?_,cL.pc ab⟩;simp only[execOp,h,auK,atE,eU au,atz,au9,auN,auL,ee] at kO⊢;simp only[kO,ie eo,atK,atz,Nat.sub_zero,Nat.zero_mul];congr 3;split
  ·rfl
  ·rcases a' with ⟨ew,pb,s1⟩;cases s1<;>simp[Addr.add]
 |JG t x bD aj fl e i b off l c n ct cK EI EG km h au eo ad ah ef dA ld bg U=>
  have cB:=bN x (by simp[h,atg]);rw[ad] at cB;have gn:=hb.gD (bN bD (by simp[h,atg])) ef;have q8:=hb.gD (bN aj (by simp[h,atg])) dA;have ki:=hb.gD (bN fl (by simp[h,atg])) ld;obtain ⟨q,_,a0,eZ⟩:=cB.s6 (by rcases ah with ⟨U,_⟩|⟨U,_⟩<;>omega);have hex:∃(a':Addr) (bP:Nat),cM x= .slice (as4 a') l bP/\cK<=bP:=by
   rcases eZ with ⟨bS,eZ⟩|⟨fc,_,hle,iy,_,_,eZ⟩|⟨fc,fW,o',eZ⟩|⟨nB,fW,a',eZ⟩
   ·rcases ah with ⟨_,ar⟩|⟨fc,_⟩
    ·exact ⟨_,_,eZ,ar⟩
    ·exact absurd (fc▸bS) (auM _)
   ·rcases ah with ⟨kB,_⟩|⟨_,ar⟩
    ·exact (at7 kB fc).elim
    ·exact ⟨_,_,eZ,atx ar hle⟩
   ·rcases ah with ⟨kB,_⟩|⟨_,ar⟩
    ·exact (at7 kB fc).elim
    ·subst fW;exact ⟨_,_,eZ,ar⟩
   ·subst nB fW;have lO:cK=0:=by rcases ah with ⟨_,ar⟩|⟨_,ar⟩<;>omega
    exact ⟨a',_,eZ,by omega⟩
  obtain ⟨a',bP,ee,ar⟩:=hex;have kO:(atA as5 l bP ((as4 bD).map cM) ((as4 aj).map cM) (as4 (cM fl))).run P w= .ok (n,ct,cK) w:=by simp[atA,gn,q8,ki,at1,asIntOf,ar,U,bg]
  have jk:∃cj NE c2,(execOp cM o).run P w= .ok (.value (.slice cj NE c2)) w:=by simp only[execOp,h,auK,atE,eU au,atz,auN,auL,ee] at kO⊢;simp only[kO,ie eo,atK,atz];exact ⟨_,_,_,rfl⟩
  obtain ⟨cj,NE,c2,jk⟩:=jk;exact ⟨_,jk,fun b ag=>by cases ag⟩
 |Cm t x fl aj e i km h au eo ad dA ld=>
  obtain ⟨y,uh,rfl,aJ⟩:=dA;have cB:=bN x (by simp[h,atg]);rw[ad] at cB;have ee:=cB.kK;have q8:=hb.gD (bN y (by simp[h,atg])) aJ;have ki:=hb.gD (bN fl (by simp[h,atg])) ld;refine ⟨.slice as6 0 0, ?_,rfl⟩;have kO:(atA as5 0 0 (as6:Option as7) ((as4 y).map cM) (as4 (cM fl))).run P w= .ok (0,0,0) w:=by simp[atA,q8,ki,at1,asIntOf]
  simp only[auN] at kO;simp[execOp,h,auK,eU au,auL,ee,kO,ie eo]
 |kK t x bD aj e i h au eo ad ef dA=>
  have cB:=bN x (by simp[h,atg]);rw[ad] at cB;have ee:=cB.kK;refine ⟨.slice as6 0 0, ?_,rfl⟩;have kO:(atA as5 0 0 (bD.map cM) (aj.map cM) as6).run P w= .ok (0,0,0) w:=by
   cases bD with
   |none=>
    cases aj with
    |none=>simp[atA]
    |some y=>obtain ⟨k,aJ⟩:=dA;have:=hb.gD (bN y (by simp[h,atg])) aJ;simp[atA,this,at1,asIntOf]
   |some u=>
    obtain ⟨k,hu⟩:=ef;have kl:=hb.gD (bN u (by simp[h,atg])) hu;cases aj with
    |none=>simp[atA,kl,at1,asIntOf]
    |some y=>obtain ⟨cK,aJ⟩:=dA;have:=hb.gD (bN y (by simp[h,atg])) aJ;simp[atA,this,kl,at1,asIntOf]
  simp[execOp,h,auK,eU au,auL,ee,kO,ie eo]
 |len x t e a l c h au ad=>
  have cB:=bN x (by simp[h,atg,atL]);rw[ad] at cB;have ee:∃a' bP,cM x= .slice a' l bP:=by
   cases a with
   |none=>exact ⟨_,_,cB.kK⟩
   |some a=>
    obtain ⟨q,_,a0,ah⟩:=cB.slice;rcases ah with ⟨_,ah⟩|⟨_,_,_,_,_,_,ah⟩|⟨_,ax,_,ah⟩|⟨_,ax,_,ah⟩|⟨_,_,_,_,_,_,_,_,_,ah⟩
    ·exact ⟨_,_,ah⟩
    ·exact ⟨_,_,ah⟩
    ·subst ax;exact ⟨_,_,ah⟩
    ·subst ax;exact ⟨_,_,ah⟩
    ·exact ⟨_,_,ah⟩
  obtain ⟨a',bP,ee⟩:=ee;exact ⟨.int .i64 l,by simp[execOp,h,resolve,invoke,builtin,Builtin.len_,eU au,ee,goInt],rfl⟩
 |xX x t e h au ad=>have cB:=bN x (by simp[h,atg,atL]);rw[ad] at cB;have ee:=cB.kK;exact ⟨.int .i64 0,by simp[execOp,h,resolve,invoke,builtin,Builtin.cap_,eU au,ee,goInt],rfl⟩
 |tz neq x y t u e a l c h au ad aJ=>
  have cB:=bN x (by simp[h,atg]);rw[ad] at cB;have hN:=bN y (by simp[h,atg]);rw[aJ] at hN;have kh:=hN.kK;have ee:∃a' bP,cM x= .slice (as4 a') l bP:=by
   obtain ⟨q,_,a0,ah⟩:=cB.slice;rcases ah with ⟨_,ah⟩|⟨_,_,_,_,_,_,ah⟩|⟨_,ax,_,ah⟩|⟨_,ax,_,ah⟩|⟨_,_,_,_,_,_,_,_,_,ah⟩
   ·exact ⟨_,_,ah⟩
   ·exact ⟨_,_,ah⟩
   ·subst ax;exact ⟨_,_,ah⟩
   ·subst ax;exact ⟨_,_,ah⟩
   ·exact ⟨_,_,ah⟩
  obtain ⟨a',bP,ee⟩:=ee;refine ⟨.bool neq, ?_,rfl⟩;exact ahS neq x y t u e a' l bP h au ee kh w
 |func fn first captured h bd=>
  refine ⟨.func fn (first.map cM) (captured.map cM),by simp[execOp,h,Instr.makeFunc],⟨_,_,rfl, ?_, ?_⟩⟩
  ·simp only[auA];exact bp.map _ _ _ fun x ad=>cL.storable (bN x (by simp[h,atg];exact .inl (by simpa using ad))) (bd x (by simp[ad]))
  ·simp only[auA];exact bp.map _ _ _ fun x ad=>cL.storable (bN x (by simp[h,atg];exact .inr (by simpa using ad))) (bd x (by simp[ad]))
end Go.ay
end
section
namespace Go.ay
structure r2 (P:atb) (j:bE) (m:Mem) (w:World):Prop where
 load:∀b e o v,j b=as4 e->m.load b o=as4 v->∃ba,w.cell? ⟨e.aS,e.dS+o,as6⟩=as4 ba/\dD j v ba
 own:∀b e L t,j b=as4 e->m.aS b= .own L t->P.cellsOf t=e.es/\L.length<=e.cap*e.es
 map:∀b e L u,j b=as4 e->m.aS b= .map L u->n1 P j e w.heap[e.aS]? (.map L u)
 kq:lB P w
theorem Rel.load {P:atb} {j:bE} {m:Mem} {w:World} (h:Rel P j m w) (b:Nat) (e:jS) (o:Nat) (v:as7) (a0:j b=as4 e) (ax:m.load b o=as4 v):∃ba,w.cell? ⟨e.aS,e.dS+o,as6⟩=as4 ba/\dD j v ba:=by
 unfold Mem.load at ax;have an:=h.obj b e a0;cases ag:m.aS b with
 |dead=>grind
 |map L u=>grind
 |lock _ _ _ _=>grind
 |ro rd=>
  simp only[ag] at ax an;obtain ⟨cs,t,bi,ba,U,aa,ao⟩:=an o v ax
  grind [at6]
 |own L t=>
  simp only[ag] at ax;obtain ⟨cs,bi,hw,bd,U,aa,ao,aN⟩:=h.own b e L t a0 ag
  grind [at6]
theorem Rel.mu {P:atb} {j:bE} {m:Mem} {w:World} (h:Rel P j m w):r2 P j m w:=
 ⟨h.load,fun b e L t a0 ag=>by
  obtain ⟨cs,bi,hw,bd,U,aa,ao,aN⟩:=h.own b e L t a0 ag;exact ⟨U,by omega⟩,fun b e L u a0 ag=>by have:=h.obj b e a0;rw[ag] at this;exact this,h.kq.val⟩
theorem yQ {P:atb} {j:bE} {m:Mem} {w:World} (h:r2 P j m w) {b:Nat} {e:jS} (a0:j b=as4 e):∀(n o:Nat) (cs:List as7),fK m b o n=as4 cs->
  ∃ds:List as7,bp (dD j) cs ds/\ds.length=n/\∀(i:Nat) (u:as7),ds[i]? =as4 u->w.cell? ⟨e.aS,e.dS+o+i,as6⟩=as4 u
 |0,o,cs,aF=>by simp only[fK,atj.injEq] at aF;subst aF;exact ⟨[],atm,rfl,fun i u hu=>by grind⟩
 |n+1,o,cs,aF=>by
  simp only[fK] at aF;cases U:m.load b o with
  |none=>grind
  |some v=>
   cases aa:fK m b (o+1) n with
   |none=>grind
   |some l=>
    simp only[U,aa,atj.injEq] at aF;subst aF;obtain ⟨ba,ah,ab⟩:=h.load b e o v a0 U;obtain ⟨ds,ax,a2,aQ⟩:=yQ h a0 n (o+1) l aa;refine ⟨ba::ds,⟨ab,ax⟩,by grind,fun i u hu=> ?_⟩
    grind
theorem yR {P:atb} {w:World} {c o n:Nat} {ds:List as7} (a2:ds.length=n) (aQ:∀(i:Nat) (u:as7),ds[i]? =as4 u->w.cell? ⟨c,o+i,as6⟩=as4 u):(loadCells ⟨c,o,as6⟩ n).run P w= .ok ds.toArray w:=by
 grind [run_loadCells_list,m2]
theorem VS {P:atb} {w:World} {a:Addr}:(loadCells a 0).run P w= .ok #[] w:=rfl
theorem VK {P:atb} (w:World):∀(cs:List UInt8) (s:ByteArray) (f:as7->ByteArray->Sem (ForInStep ByteArray)),
  (∀u s,f (.int .u8 (u:UInt8).toNat) s=pure (.yield (s.push u)))->
  (forIn (cs.map fun u=>aul .u8 (u.toNat:Int)) s f).run P w= .ok (⟨s.data++cs.toArray⟩:ByteArray) w
 |[],s,f,bd=>by rfl
 |u::cs,s,f,bd=>by simp only[aud,List.forIn_cons,bd,pure_bind,VK w cs (s.push u) f bd];simp_all
theorem aoj (u:UInt8):UInt8.ofNat ((u.toNat:Int).toNat)=u:=by simp
theorem wW {P:atb} {w:World} {r:Nat} {es:Array MapEntry} {clock:Nat} (ag:w.heap[r]? =as4 (.map es clock)):(getObj r).run P w= .ok (.map es clock) w:=by
 grind [getObj,Sem.run]
theorem Yi {P:atb} {w:World} {r:Nat} {es:Array MapEntry} {clock:Nat} (o:Obj) (ag:w.heap[r]? =as4 (.map es clock)):(setObj r o).run P w= .ok () {w with heap:=w.heap.setIfInBounds r o}:=by
 grind [setObj,Sem.run]
theorem nm.Qp {ks vs:Nat} (ar:0<ks):∀{L:List as7} {E E':List (List as7×List as7)},nm ks vs L E->nm ks vs L E'->E=E'
 |L,[],[],_,_=>rfl
 |L,[],p::E',h,ct=>by have U:=h.eq;rw[ct.eq] at U;have:=(ct.len p (by simp)).1;simp_all
 |L,p::E,[],h,ct=>by have U:=ct.eq;rw[h.eq] at U;have:=(h.len p (by simp)).1;simp_all
 |L,p::E,q::E',h,ct=>by have U:=h.eq;rw[ct.eq] at U;simp only[List.flatMap_cons,List.append_assoc] at U;obtain ⟨bt,U⟩:=List.append_inj U (by rw[(h.len p (by simp)).1,(ct.len q (by simp)).1]);obtain ⟨e2,U⟩:=List.append_inj U (by rw[(h.len p (by simp)).2,(ct.len q (by simp)).2]);have aq:=nm.Qp ar (L:=E.flatMap fun p=>p.1++p.2) (E:=E) (E':=E') ⟨rfl,fun r aF=>h.len r (by simp[aF])⟩ ⟨U.symm,fun r aF=>ct.len r (by simp[aF])⟩;rw[aq];congr 1;exact (Prod.ext bt e2).symm
theorem qI.find {P:atb} {j:bE} {bh bc:atc} {key z v:as7} {t:Bool} {E:List (List as7×List as7)} (h:qI (dG P bh) (dG P bc) key z E v t):∀{es:List MapEntry} (i:Nat),bp (rW P j bh bc) E es->
  (t=as5/\∃n ba,m3 key es i=as4 (n,ba)/\eX j v ba)\/(t=as9/\v=z/\m3 key es i=as6):=by
 induction h with
 |mR=>
  intro es i a1;cases es with
  |nil=>exact .inr ⟨rfl,rfl,rfl⟩
  |cons _ _=>exact a1.elim
 |oe p E h=>
  intro es i a1;cases es with
  |nil=>exact a1.elim
  |cons x es=>obtain ⟨⟨U,aa,ao⟩,_⟩:=a1;exact .inl ⟨rfl,i,x.val,by grind [m3],ao⟩
 |next p E v b h a1 aq=>
  intro es i a1;cases es with
  |nil=>exact a1.elim
  |cons x es=>
   obtain ⟨⟨U,aa,ao⟩,a1⟩:=a1
   grind [m3]
theorem Oi {P:atb} {j:bE} {bh bc:atc} {g6:as7->Prop}:∀{E:List (List as7×List as7)} {es:List MapEntry},bp (rW P j bh bc) E es->(∀p∈E,g6 (dY (dG P bh) p.1))->∀x∈es,g6 x.key
 |[],[],_,_,x,ad=>by grind
 |p::E,y::es,⟨U,aa⟩,a5,x,ad=>by
  rcases ats.1 ad with rfl|ad
  ·rw[U.1];grind
  ·exact Oi aa (fun q bb=>a5 q (by grind)) x ad
 |[],_::_,h,_,_,_=>h.elim
 |_::_,[],h,_,_,_=>h.elim
theorem VR {P:atb} {j:bE} {af cM:atd->as7} {o:Oper} {m:Mem} {v:as7} (h:eJ P af o m v) (bN:hb j af cM o) {w:World} (ch:r2 P j m w):∃ba,(execOp cM o).run P w= .ok (.value ba) w/\cL j v ba:=by
 cases h with
 |load t x b off d v h ad au aQ ab=>have cB:=bN x (by simp[h,atg]);rw[ad] at cB;obtain ⟨q,_,a0,ah⟩:=cB.ptr;obtain ⟨ba,eZ,aF⟩:=ch.load b q off v a0 ab;exact ⟨ba,by simp[execOp,h,Instr.loadAt,ah,auW,loadVar,rA au,aQ,eZ],cL.pc aF⟩
 |tG t x g n s h ad a2 au a5=>
  have cB:=bN x (by simp[h,atg]);rw[ad] at cB;have bS:n<4096:=atu (atp.1 a2).1 (by simp[n6]);have ah:cM x= .pointer (as4 ⟨g,n,as6⟩):=by have cB:cM x= .pointer (as4 ⟨(g*4096+n) / 4096,(g*4096+n)%4096,as6⟩):=cB;rw[cB,show (g*4096+n) / 4096=g by omega,show (g*4096+n)%4096=n by omega]
  exact ⟨_,by simp[execOp,h,Instr.loadAt,ah,auW,loadVar,rA au,jz,ch.kq.JJ g a5 n s a2],rfl⟩
 |sz t x b off d i cs h ad au aQ aj ab=>have cB:=bN x (by simp[h,atg]);rw[ad] at cB;obtain ⟨q,_,a0,ah⟩:=cB.ptr;obtain ⟨ds,ax,a2,kP⟩:=yQ ch a0 _ _ _ ab;exact ⟨.agg ds.toArray,by simp[execOp,h,Instr.loadAt,ah,auW,loadVar,rA au,aQ,ie aj,yR a2 kP],⟨_,rfl,by simpa using ax⟩⟩
 |slice t x bD aj e i L b off l n ct h au eo ad hm ef dA U aa ao=>
  have cB:=bN x (by simp[h,atg]);rw[ad] at cB;obtain ⟨q,_,a0,ah⟩:=cB.s6 (atk _);obtain ⟨oc,_⟩:=ch.own b q L e a0 hm;have b6:i.size=q.es:=by simpa[auv,eo] using oc
  have key:∀(o' ix:Nat),cM x= .slice (as4 ⟨q.aS,o',as6⟩) l ix->l<=ix->
    (execOp cM o).run P w= .ok (.value (.slice (as4 ⟨q.aS,if ix=n then o' else o'+n*i.size,as6⟩) (ct - n) (ix - n))) w:=by
   intro o' ix ee hle;have kO:(atA as5 l ix (bD.map cM) (aj.map cM) as6).run P w= .ok (n,ct,ix) w:=by
    cases bD with
    |none=>
     simp only[nM] at ef;subst ef;cases aj with
     |none=>simp only[lq] at dA;subst dA;simp[atA]
     |some y=>obtain ⟨k,aJ⟩:=dA;have:=hb.gD (bN y (by simp[h,atg])) aJ;simp[atA,this,at1,asIntOf,show ct<=ix by omega]
    |some u=>
     obtain ⟨k,hu⟩:=ef;have kl:=hb.gD (bN u (by simp[h,atg])) hu;cases aj with
     |none=>simp only[lq] at dA;subst dA;simp[atA,kl,at1,asIntOf,U]
     |some y=>obtain ⟨cK,aJ⟩:=dA;have:=hb.gD (bN y (by simp[h,atg])) aJ;simp[atA,this,kl,at1,asIntOf,U,show ct<=ix by omega]
   simp only[execOp,h,auK,atE,eU au,atz,au9,auL,ee,kO,ie eo,atK];congr 3;split<;>simp[m2]
  rcases ah with ⟨bS,_⟩|⟨_,gA,hle,iy,lQ,hdiv,ah⟩|⟨_,fW,o',ah⟩|⟨nB,_⟩
  rotate_left 3
  ·simp[cF] at nB
  ·exact absurd bS (auM _)
  ·have hle:l<=q.cap - off / q.es:=hle;have lQ:off%q.es=0:=lQ;have hdiv:off / q.es<=q.cap:=hdiv;refine ⟨_,key _ _ ah hle,⟨q,rfl,a0, ?_⟩⟩;by_cases a4:q.cap - off / q.es=n
   ·have:ct - n=0:=by omega
    right;right;left;refine ⟨rfl,this,q.dS+off, ?_⟩;simp[a4,this]
   ·right;left;have Eb:(off+n*i.size) / q.es=off / q.es+n:=by rw[b6];exact avx _ _ gA
    refine ⟨rfl,gA, ?_,iy, ?_, ?_, ?_⟩
    ·simp only[Eb];omega
    ·simp only[b6,Nat.add_mul_mod_self_right];exact lQ
    ·simp only[Eb];omega
    ·simp only[Eb,if_neg a4,atY];congr 1;omega
  ·subst fW;refine ⟨_,key _ _ ah (atk _),⟨q,rfl,a0, ?_⟩⟩;right;right;left;refine ⟨rfl,by omega,o', ?_⟩;have:n=0:=by omega
   have:ct=0:=by omega
   simp[*]
 |ve t x bD aj e i L b off l c k n ct h au eo ad ar hm ef dA U aa ao=>
  have cB:=bN x (by simp[h,atg]);rw[ad] at cB;obtain ⟨q,_,a0,ah⟩:=cB.slice;have a0:j b=as4 q:=a0;obtain ⟨oc,_⟩:=ch.own b q L e a0 hm;have b6:i.size=q.es:=by simpa[auv,eo] using oc
  have hex:∃ix,cM x= .slice (as4 ⟨q.aS,q.dS+off,as6⟩) l ix/\l<=ix/\k<=ix/\0<q.es/\ix=q.cap - off / q.es/\q.cap<cF/\off%q.es=0/\off / q.es<=q.cap:=by
   rcases ah with ⟨bS,_⟩|⟨fc,gA,hle,iy,lQ,hdiv,ah⟩|⟨fc,fW,_⟩|⟨nB,_⟩|⟨cK,lN,lO,og,acF,iy,bS,lQ,hdiv,ah⟩
   ·rcases ar with ⟨ar,_⟩|ar<;>omega
   ·rcases ar with ⟨_,rfl⟩|ar
    ·exact ⟨_,ah,hle,hle,gA,rfl,iy,lQ,hdiv⟩
    ·omega
   ·rcases ar with ⟨_,rfl⟩|ar<;>omega
   ·rcases ar with ⟨ar,_⟩|ar<;>(rw[nB] at ar;simp only[cF] at ar;omega)
   ·have Eh:cK=k:=by rcases ar with ⟨ar,_⟩|ar<;>omega
    subst Eh;exact ⟨_,ah,atx og iy,iy,acF,rfl,bS,lQ,hdiv⟩
  obtain ⟨ix,ee,hle,vW,gA,eZ,iy,lQ,hdiv⟩:=hex;have kO:(atA as5 l ix (bD.map cM) (aj.map cM) as6).run P w= .ok (n,ct,ix) w:=by
   cases bD with
   |none=>
    simp only[nM] at ef;subst ef;cases aj with
    |none=>simp only[lq] at dA;subst dA;simp[atA]
    |some y=>obtain ⟨k,aJ⟩:=dA;have:=hb.gD (bN y (by simp[h,atg])) aJ;simp[atA,this,at1,asIntOf,show ct<=ix by omega]
   |some u=>
    obtain ⟨k,hu⟩:=ef;have kl:=hb.gD (bN u (by simp[h,atg])) hu;cases aj with
    |none=>simp only[lq] at dA;subst dA;simp[atA,kl,at1,asIntOf,U]
    |some y=>obtain ⟨cK,aJ⟩:=dA;have:=hb.gD (bN y (by simp[h,atg])) aJ;simp[atA,this,kl,at1,asIntOf,U,show ct<=ix by omega]
  have jk:(execOp cM o).run P w= .ok (.value (.slice (as4 ⟨q.aS,q.dS+off+n*i.size,as6⟩) (ct - n) (ix - n))) w:=by simp only[execOp,h,auK,atE,eU au,atz,au9,auL,ee,kO,ie eo,atK];congr 3;rw[if_neg (by omega)];simp[m2]
  refine ⟨_,jk,⟨q,rfl,a0, .inr (.inr (.inr (.inr ⟨k - n,rfl,by omega,by omega,gA, ?_,iy, ?_, ?_, ?_⟩)))⟩⟩
  ·show k - n<=q.cap - (off+n*i.size) / q.es;rw[b6,avx _ _ gA];omega
  ·show (off+n*i.size)%q.es=0;rw[b6,Nat.add_mul_mod_self_right];exact lQ
  ·show (off+n*i.size) / q.es<=q.cap;rw[b6,avx _ _ gA];omega
  ·show _=as7.slice (as4 ⟨q.aS,q.dS+(off+n*i.size),as6⟩) (ct - n) (q.cap - (off+n*i.size) / q.es);rw[b6,avx _ _ gA,<-atY,eZ,<-b6];congr 1;omega
 |str s t x e b off l c cs h aE he au ad ab=>
  have cB:=bN x (by simp[h,atg]);rw[ad] at cB;obtain ⟨q,_,a0,ah⟩:=cB.slice;obtain ⟨ds,ax,a2,kP⟩:=yQ ch a0 _ _ _ ab;have mM:ds=cs.map fun u=> .int .u8 u.toNat:=bp.vK (p:=cQ) (fun a b=>y4 (j:=j)) (by simp[cQ]) ax;subst mM;refine ⟨.string ⟨cs.toArray⟩, ?_,rfl⟩;have key:∀(a':Addr) (ix:Nat),cM x= .slice (as4 a') l ix->(a'=⟨q.aS,q.dS+off,as6⟩\/l=0)->(execOp cM o).run P w= .ok (.value (.string ⟨cs.toArray⟩)) w:=by
   intro a' ix ee an;have qW:(loadCells a' l).run P w= .ok ((cs.map fun u=>aul .u8 (u.toNat:Int)).toArray) w:=by
    rcases an with rfl|an
    ·exact yR a2 kP
    ·subst an;have:cs=[]:=by simpa using a2
     subst this;exact VS
   have ag:(avJ (.slice (as4 a') l ix)).run P w= .ok (.string ⟨cs.toArray⟩) w:=by simp only[avJ,atE,qW,atz,List.forIn_toArray];rw[VK (P:=P) w cs ByteArray.empty _ (fun u s=>by simp[aoj])];simp[ByteArray.empty,ByteArray.emptyWithCapacity];rfl
   simp[execOp,h,convert,eU aE,eU au,ee,eU he,ag]
  rcases ah with ⟨_,ah⟩|⟨_,_,_,_,_,_,ah⟩|⟨_,fW,o',ah⟩|⟨_,fW,a',ah⟩|⟨_,_,_,_,_,_,_,_,_,ah⟩
  ·exact key _ _ ah (.inl rfl)
  ·exact key _ _ ah (.inl rfl)
  ·exact key _ 0 (by rw[ah,fW]) (.inr fW)
  ·exact key a' 0 (by rw[ah,fW]) (.inr fW)
  ·exact key _ _ ah (.inl rfl)
 |vf s t x e l c h aE he au ad=>have cB:=bN x (by simp[h,atg]);rw[ad] at cB;have ee:=cB.kK;refine ⟨.string .empty, ?_,rfl⟩;simp[execOp,h,convert,eU aE,eU au,ee,eU he,avJ]
 |lookup fh x cJ ok u bh bc b L E i z kr t g6 h g0 hu ad lb q4 K bd ar a5 aj a4 da ax=>
  have cB:=bN x (by simp[h,atg]);have ee:=wN bd (bN cJ (by simp[h,atg]));have core:∃(es:Array MapEntry),bp (rW P j bh bc) E es.toList/\((∃r clock,cM x= .map (as4 r)/\w.heap[r]? =as4 (.map es clock))\/(cM x= .map as6/\es=#[])):=by
   rcases ad with ⟨ad,hm,a1⟩|⟨ad,rfl⟩
   ·rw[ad] at cB;obtain ⟨q,a0,ah⟩:∃q,j b=as4 q/\cM x= .map (as4 q.aS):=cB;obtain ⟨hE,hF,cs,clock,E',aU,aO,bT,cP,_⟩:=ch.map b q L u a0 hm;have sr:hE=bh/\hF=bc:=by rw[hu] at aO;simpa using aO.symm
    obtain ⟨rfl,rfl⟩:=sr;have:=nm.Qp lb a1 bT;subst this;exact ⟨cs,cP, .inl ⟨_,_,ah,aU⟩⟩
   ·rw[ad] at cB;exact ⟨#[],atm, .inr ⟨cB,rfl⟩⟩
  obtain ⟨es,cP,ah⟩:=core;have mf:=K.find (af cJ) es.toList w ar (Oi cP a5);have kg:=K.check es.isEmpty (af cJ) w ar;have Ug:=ax.find 0 cP;rcases ah with ⟨r,clock,ah,aU⟩|⟨ah,rfl⟩
  ·rcases Ug with ⟨rfl,n,ba,U,aa⟩|⟨rfl,rfl,U⟩
   ·rw[U] at mf;cases ok with
    |false=>exact ⟨ba,by simp[execOp,h,au',eU g0,ah,wW aU,ee,kg,mf],cL.um aa⟩
    |true=>exact ⟨.tuple #[ba, .bool as5],by simp[execOp,h,au',eU g0,ah,wW aU,ee,kg,mf],⟨_,rfl,aa,eX.pc rfl,atm⟩⟩
   ·rw[U] at mf;cases ok with
    |false=>exact ⟨kr,by simp[execOp,h,au',eU g0,ah,wW aU,ee,kg,mf,mn aj a4],cL.um (wz da)⟩
    |true=>exact ⟨.tuple #[kr, .bool as9],by simp[execOp,h,au',eU g0,ah,wW aU,ee,kg,mf,mn aj a4],⟨_,rfl,wz da,eX.pc rfl,atm⟩⟩
  ·rcases Ug with ⟨rfl,n,ba,U,aa⟩|⟨rfl,rfl,U⟩
   ·simp[m3] at U
   ·rw[U] at mf;simp only[List.isEmpty_toArray,List.isEmpty_nil] at kg mf;have kg:=K.check as5 (af cJ) w ar;cases ok with
    |false=>exact ⟨kr,by simp[execOp,h,au',eU g0,ah,ee,kg,mf,mn aj a4],cL.um (wz da)⟩
    |true=>exact ⟨.tuple #[kr, .bool as9],by simp[execOp,h,au',eU g0,ah,ee,kg,mf,mn aj a4],⟨_,rfl,wz da,eX.pc rfl,atm⟩⟩
end Go.ay
end
section
namespace Go.ay
def bE.up (j:bE) (n:Nat) (e:jS):bE:=fun b=>if b=n then as4 e else j b
theorem Rel.NN {P:atb} {j:bE} {m:Mem} {w:World} (h:Rel P j m w):j m.next=as6:=by
 cases a0:j m.next with
 |none=>rfl
 |some e=>exact absurd (h.lt _ _ a0).1 (auM _)
theorem bE.Cp {j:bE} {n:Nat} {e:jS} (a2:j n=as6):∀b x,j b=as4 x->j.up n e b=as4 x:=by
 grind [bE.up]
theorem Rel.push {P:atb} {j:bE} {m:Mem} {w w':World} (h:Rel P j m w) {X:bm} {e:jS} {ob:Obj}
  (hw:w'.heap=w.heap.push ob) (adw:w'.os=w.os) (adT:w'.tape=w.tape) (qX:w'.output=w.output) (he:e.aS=w.heap.size)
  (cB:n1 P j e (as4 ob) X):Post P j m w (j.up m.next e) (m.push X) w':=by
 have a2:=h.NN;have hle:=bE.Cp (e:=e) a2;have hold:∀c,c<w.heap.size->w'.heap[c]? =w.heap[c]? :=fun c ah=>by grind
 have Np:w'.heap.size=w.heap.size+1:=by grind
 have lR:w'.heap[w.heap.size]? =as4 ob:=by grind
 have fV:∀b,b≠m.next->(m.push X).aS b=m.aS b:=fun b ag=>by grind [Mem.push]
 have qZ:(m.push X).aS m.next=X:=by simp[Mem.push]
 have fF:∀b x,j.up m.next e b=as4 x->b≠m.next->j b=as4 x:=fun b x ag ep=>by grind [bE.up]
 refine Post.of h ⟨?_, ?_, ?_⟩ ⟨adw,adT,qX,by omega,fun c ah _=>hold c ah⟩ (by simp[Mem.push]) ?_ ?_ ?_ (fun b ag gn=>by grind)
 ·intro b x ag;by_cases ga:b=m.next
  ·subst ga;have:x=e:=by grind [bE.up]
   subst this;exact ⟨by simp[Mem.push],by omega⟩
  ·have:=h.lt b x (fF b x ag ga)
   grind [Mem.push]
 ·intro b x ag;by_cases ga:b=m.next
  ·subst ga;have:x=e:=by grind [bE.up]
   subst this;rw[qZ,he,lR];exact cB.mono hle
  ·have jG:=fF b x ag ga;rw[fV b ga,hold _ (h.lt b x jG).2];exact (h.obj b x jG).mono hle
 ·intro b cR x ha ag ej an gn lh;by_cases ga:b=m.next
  ·by_cases lL:cR=m.next
   ·grind
   ·have ad:x=e:=by grind [bE.up]
    have:=(h.lt cR ha (fF cR ha ej lL)).2
    grind
  ·have jG:=fF b x ag ga;by_cases lL:cR=m.next
   ·have ad:ha=e:=by grind [bE.up]
    have:=(h.lt b x jG).2
    grind
   ·rw[fV b ga] at an;rw[fV cR lL] at gn;exact h.inj b cR x ha jG (fF cR ha ej lL) an gn lh
 ·grind [bE.up]
 ·intro b x ag gK;by_cases ga:b=m.next
  ·grind [bE.up]
  ·exact absurd (h.lt b x (fF b x ag ga)).1 (aut.2 gK)
 grind
theorem Rel.kill {P:atb} {j:bE} {m:Mem} {w:World} (h:Rel P j m w) (b:Nat):Post P j m w j (m.put b .dead) w:=by
 have fV:∀c x,(m.put b .dead).aS c=x->(x≠ .dead)->m.aS c=x:=by
  grind [Mem.put]
 refine Post.of h ⟨h.lt, ?_, ?_⟩ (qG.refl j m w) (atk _) (fun _ _=>rfl) ?_ ?_ (fun c ah gn=>by
  have bt:m.aS c=(m.put b .dead).aS c:=by refine fV c _ rfl ?_;intro aQ;rw[aQ] at gn;cases gn
  grind)
 ·intro c x ah;by_cases aQ:(m.put b .dead).aS c= .dead
  ·rw[aQ];trivial
  ·rw[<-fV _ _ rfl aQ];exact h.obj c x ah
 ·intro c bP x ha ah vS an ax lh;have bt:m.aS c=(m.put b .dead).aS c:=by
   refine fV c _ rfl ?_;intro aQ;rw[aQ] at an;cases an
  have e2:m.aS bP=(m.put b .dead).aS bP:=by refine fV bP _ rfl ?_;intro aQ;rw[aQ] at ax;cases ax
  exact h.inj c bP x ha ah vS (by grind) (by grind) lh
 ·intro c e ah a2;exact absurd (h.lt c e ah).1 (aut.2 a2)
 ·intro c ah an;have bt:m.aS c=(m.put b .dead).aS c:=by
   refine fV c _ rfl ?_;intro aQ;rw[aQ] at an;cases an
  grind
def jL (w:World) (c:Nat) (cs:Array as7) (t:atc) (bi:Nat×Nat):World:={w with heap:=w.heap.setIfInBounds c (.cells cs t bi)}
theorem Om {w:World} {c:Nat} {cs:Array as7} {t:atc} {bi:Nat×Nat} {x:Nat} (ad:x≠c):(jL w c cs t bi).heap[x]? =w.heap[x]? :=by
 grind [jL]
theorem N8 {w:World} {c:Nat} {cs:Array as7} {t:atc} {bi:Nat×Nat} (ah:c<w.heap.size):(jL w c cs t bi).heap[c]? =as4 (.cells cs t bi):=by
 grind [jL]
def qp (w:World) (c:Nat) (o:Obj):World:={w with heap:=w.heap.setIfInBounds c o}
theorem WQ {w:World} {c:Nat} {o:Obj} {x:Nat} (ad:x≠c):(qp w c o).heap[x]? =w.heap[x]? :=by
 grind [qp]
theorem ahX {w:World} {c:Nat} {o:Obj} (ah:c<w.heap.size):(qp w c o).heap[c]? =as4 o:=by
 grind [qp]
theorem Rel.mw {P:atb} {j:bE} {m:Mem} {w:World} (h:Rel P j m w) {b:Nat} {e:jS} {X:bm} {ob:Obj} (a0:j b=as4 e) (Nc:(m.aS b).h4=as5) (cB:n1 P j e (as4 ob) X) (arG:X.h4=as5):
  Post P j m w j (m.put b X) (qp w e.aS ob):=by
 have bS:=(h.lt b e a0).2;have tT:(m.aS b).live=as5:=by grind [bm.h4,bm.live]
 have ep:∀c x,j c=as4 x->(m.aS c).live=as5->c≠b->x.aS≠e.aS:=fun c x ah ax fc sx=>fc (h.inj b c e x a0 ah Nc ax sx.symm).symm;have fV:∀c,c≠b->(m.put b X).aS c=m.aS c:=fun c ah=>by grind [Mem.put]
 have qZ:(m.put b X).aS b=X:=by simp[Mem.put]
 have Np:(qp w e.aS ob).heap.size=w.heap.size:=by simp[qp]
 refine Post.of h ⟨?_, ?_, ?_⟩ ⟨rfl,rfl,rfl,by grind, ?_⟩ (atk _) (fun _ _=>rfl) ?_ ?_ (fun c ah gn=>by
  grind)
 ·intro c x ah;have:=h.lt c x ah;exact ⟨this.1,by grind⟩
 ·intro c x ah;by_cases fc:c=b
  ·grind [ahX]
  ·rw[fV c fc];cases ax:(m.aS c).live with
   |false=>
    cases ag:m.aS c<;>simp[ag,bm.live] at ax
    trivial
   |true=>rw[WQ (ep c x ah ax fc)];exact h.obj c x ah
 ·intro c bP x ha ah vS an gn lh;have bt:(m.aS c).h4=as5:=by
   grind
  have e2:(m.aS bP).live=as5:=by
   grind
  exact h.inj c bP x ha ah vS bt e2 lh
 ·grind [WQ]
 ·intro c x ah gK;exact absurd (h.lt c x ah).1 (aut.2 gK)
 grind
theorem Rel.write {P:atb} {j:bE} {m:Mem} {w:World} (h:Rel P j m w) {b:Nat} {e:jS} {L L':List as7} {t:atc} {cs cs':Array as7} {bi:Nat×Nat} (a0:j b=as4 e) (ag:m.aS b= .own L t)
  (hw:w.heap[e.aS]? =as4 (.cells cs t bi)) (aE:cs'.size=cs.size) (ax:L'.length<=e.cap*e.es) (ab:∀(i:Nat) (v:as7),L'[i]? =as4 v->∃ba,cs'[e.dS+i]? =as4 ba/\dD j v ba):
  Post P j m w j (m.put b (.own L' t)) (jL w e.aS cs' t bi):=by
 obtain ⟨pN,vN,aU,aO,bT,cP,eG,gN⟩:=h.own b e L t a0 ag;have h3:pN=cs/\vN=bi:=by grind
 obtain ⟨rfl,rfl⟩:=h3;exact h.mw a0 (by rw[ag];rfl) ⟨cs',vN,rfl,by grind,bT,by grind,ax,ab⟩ rfl
theorem Rel.reuse {P:atb} {j:bE} {m:Mem} {w:World} (h:Rel P j m w) {b:Nat} {e e2:jS} {L L':List as7} {t:atc} {cs cs':Array as7} {bi:Nat×Nat} (a0:j b=as4 e) (ag:m.aS b= .own L t)
  (hw:w.heap[e.aS]? =as4 (.cells cs t bi)) (aE:cs'.size=cs.size) (acD:e2.aS=e.aS) (sm:e2.es=e.es) (arP:e2.dS+e2.cap*e2.es<=cs.size) (ax:L'.length<=e2.cap*e2.es) (ab:∀(i:Nat) (v:as7),L'[i]? =as4 v->∃ba,cs'[e2.dS+i]? =as4 ba/\dD j v ba):
  Post P j m w (j.up m.next e2) ((m.put b .dead).push (.own L' t)) (jL w e.aS cs' t bi):=by
 have bS:=(h.lt b e a0).2;have a2:=h.NN;have hle:=bE.Cp (e:=e2) a2;have Nc:(m.aS b).h4=as5:=by rw[ag];rfl
 have ep:∀c x,j c=as4 x->(m.aS c).live=as5->c≠b->x.aS≠e.aS:=fun c x ah ax fc sx=>fc (h.inj b c e x a0 ah Nc ax sx.symm).symm;have ga:b<m.next:=(h.lt b e a0).1;have adf:(m.put b .dead).next=m.next:=rfl;have fV:∀c,c≠b->c≠m.next->((m.put b .dead).push (.own L' t)).aS c=m.aS c:=fun c ah vS=>by simp_all [Mem.put,Mem.push]
 have yl:((m.put b .dead).push (.own L' t)).aS b= .dead:=by simp[Mem.put,Mem.push,show b≠m.next by omega]
 have ade:((m.put b .dead).push (.own L' t)).aS m.next= .own L' t:=by simp[Mem.put,Mem.push]
 have fF:∀b x,j.up m.next e2 b=as4 x->b≠m.next->j b=as4 x:=fun b x ag ep=>by grind [bE.up]
 obtain ⟨pN,vN,aU,aO,bT,cP,eG,gN⟩:=h.own b e L t a0 ag;have h3:pN=cs/\vN=bi:=by grind
 obtain ⟨rfl,rfl⟩:=h3;have Np:(jL w e.aS cs' t vN).heap.size=w.heap.size:=by simp[jL]
 refine Post.of h ⟨?_, ?_, ?_⟩ ⟨rfl,rfl,rfl,by grind, ?_⟩ (by grind [Mem.push]) ?_ ?_ ?_ (fun c ah gn=>by
  by_cases fc:c=b
  ·subst fc;rw[ag];rfl
  grind)
 ·intro c x ah;by_cases kB:c=m.next
  ·grind [bE.up,Mem.push]
  ·have:=h.lt c x (fF c x ah kB)
   grind [Mem.push]
 ·intro c x ah;by_cases kB:c=m.next
  ·subst kB;have ad:x=e2:=by grind [bE.up]
   subst ad;rw[ade,acD,N8 bS];refine ⟨cs',vN,rfl,by grind,by grind,by grind,ax,fun i v aj=> ?_⟩;obtain ⟨ba,dn,dz⟩:=ab i v aj;exact ⟨ba,dn,dz.mono hle⟩
  ·by_cases fc:c=b
   ·subst fc;rw[yl];trivial
   ·have Ee:=fF c x ah kB;rw[fV c fc kB];cases tT:(m.aS c).live with
    |false=>
     cases MF:m.aS c<;>simp[MF,bm.live] at tT
     trivial
    |true=>rw[Om (ep c x Ee tT fc)];exact (h.obj c x Ee).mono hle
 ·intro c bP x ha ah vS an gn lh;have fc:c≠b:=by intro bJ;subst bJ;rw[yl] at an;cases an
  have acp:bP≠b:=by intro bJ;subst bJ;rw[yl] at gn;cases gn
  by_cases kB:c=m.next
  ·grind [bE.up]
  ·rw[fV c fc kB] at an;have Ee:=fF c x ah kB;by_cases Ub:bP=m.next
   ·grind [bE.up,bm.h4,bm.live]
   ·rw[fV bP acp Ub] at gn;exact h.inj c bP x ha Ee (fF bP ha vS Ub) an gn lh
 ·grind [Om]
 ·grind [bE.up]
 ·intro c x ah gK;by_cases kB:c=m.next
  ·grind [bE.up]
  ·exact absurd (h.lt c x (fF c x ah kB)).1 (aut.2 gK)
 grind
end Go.ay
end
section
namespace Go.ay
structure xG (P:atb) (j:bE) (w w':World) (X:bm) (e:jS) (ob:Obj):Prop where
 heap:w'.heap=w.heap.push ob
 os:w'.os=w.os
 tape:w'.tape=w.tape
 output:w'.output=w.output
 aS:e.aS=w.heap.size
 obj:n1 P j e (as4 ob) X
 own:X.h4=as5
theorem xG.cells {P:atb} {j:bE} {w w':World} {L:List as7} {t:atc} {e:jS} {cs:Array as7} {bi:Nat×Nat} (U:w'.heap=w.heap.push (.cells cs t bi)) (aa:w'.os=w.os) (ao:w'.tape=w.tape) (aN:w'.output=w.output) (bI:e.aS=w.heap.size)
  (eg:∀i:Nat,i<cs.size->¬(bi.1<=i/\i<bi.2)) (g7:P.cellsOf t=e.es) (jE:cs.size=e.cap*e.es) (nz:L.length<=cs.size) (x8:∀(i:Nat) (v:as7),L[i]? =as4 v->∃ba,cs[i]? =as4 ba/\dD j v ba) (Mz:e.dS=0:=by rfl):xG P j w w' (.own L t) e (.cells cs t bi):=
 ⟨U,aa,ao,aN,bI,⟨cs,bi,rfl,eg,g7,by grind,by grind,fun i v aj=>by grind⟩,rfl⟩
theorem bp.Qq {R:as7->as7->Prop} {L:List as7} {cs:Array as7} (h:bp R L cs.toList):L.length=cs.size/\∀(i:Nat) (v:as7),L[i]? =as4 v->∃ba,cs[i]? =as4 ba/\R v ba:=
 ⟨by simpa using h.length,fun i v aj=>by obtain ⟨b,ag,aF⟩:=h.get i v aj;grind⟩
theorem zH {n:Nat}:∀i:Nat,i<n->¬(((0,0):Nat×Nat).1<=i/\i<((0,0):Nat×Nat).2):=fun i _ h=>absurd h.2 (Nat.not_lt_zero i)
theorem ux {P:atb} {t:atc} {i:TypeInfo} (h:P.info? t=as4 i):P.cellsOf t=i.size:=by grind [auv]
theorem Py:auB 0=#[]:=by rfl
theorem FB (z:Array as7) (l:Nat):((auB (l*z.size)).map (fun k=>z[k%z.size]!)).toList=(att l z.toList).flatten:=by
 induction l with
 |zero=>simp
 |succ l aq=>
  have e:auB ((l+1)*z.size)=auB (l*z.size)++((auB z.size).map (l*z.size+·)):=by rw[atJ,Nat.one_mul,Array.range_add]
  rw[e,Array.map_append,avK,aq,List.replicate_succ',List.flatten_append];congr 1;simp only[List.flatten_cons,List.flatten_nil,List.append_nil,Array.map_map];apply auw;intro i;simp only[auA,aub,Array.toList_range,List.getElem?_range];by_cases aj:i<z.size
  ·simp_all [Nat.mod_eq_of_lt]
  grind
theorem Fq {j:bE} {L:List as7} (h:L.all cQ=as5):bp (dD j) L L:=bp.self (fun _=>m0) h
theorem wH {z:List as7} (h:z.all cQ=as5) (l:Nat):(att l z).flatten.all cQ=as5:=by
 grind
theorem Xu {P:atb} {j:bE} {af cM:atd->as7} {o:Oper} {n:Nat} {X:bm} {v:as7} (h:ij P af o n X v) (bN:hb j af cM o) (w:World):
  ∃ba w' e ob,(execOp cM o).run P w= .ok (.value ba) w'/\xG P j w w' X e ob/\∀bZ:bE,bZ n=as4 e->cL bZ v ba:=by
 cases h with
 |alloc t i z h aj a4 da aE=>
  have j1:=(Fq (j:=j) da).Qq;refine ⟨.pointer (as4 ⟨w.heap.size,0,as6⟩),w.alloc (.cells z.cells t),⟨w.heap.size,1,i.size,0⟩,_, ?_,
   .cells rfl rfl rfl rfl rfl zH (ux aj) (by grind) (by simp) j1.2,fun bZ a0=>⟨_,rfl,a0,rfl⟩⟩
  simp_all [execOp,Instr.alloc,mn,newVar,newRow]
 |box t x i h aj ab aE=>
  have cB:=cL.storable (bN x (by grind [atg])) ab;have j1:=cB.cells.Qq;refine ⟨.pointer (as4 ⟨w.heap.size,0,as6⟩),w.alloc (.cells (cM x).cells t),⟨w.heap.size,1,i.size,0⟩,_, ?_,
   .cells rfl rfl rfl rfl rfl zH (ux aj) ?_ ?_ j1.2,fun bZ a0=>⟨_,rfl,a0,rfl⟩⟩
  ·simp[execOp,h,Instr.box,newVar,newRow]
  ·grind
  grind
 |buildSlice t l cm e i z cs h au aj a4 da dU si ss ah=>
  have aa:=hb.NH (j:=j) (af:=af) (cM:=cM) (o:=o) cm.toList (fun p aL=>bN p.2 (by
   grind [atg]))
  have yg:bp (dD j) (att l z.cells.toList).flatten ((auB (l*i.size)).map (fun k=>z.cells[k%z.cells.size]!)).toList:=by
   grind [FB,Fq]
  obtain ⟨ds,mM,aF⟩:=E9 (j:=j) _ _ _ _ cs aa yg ah;have j1:=aF.Qq;have hlen:cs.length=l*i.size:=by
   have:∀(cm:List (Nat×as7)) (L cs:List as7) (pl:Nat->Option (Nat×Nat)),jc pl L cm=as4 cs->cs.length=L.length:=by
    intro cm;induction cm with
    |nil=>grind [jc]
    |cons p cm aq=>
     grind [jc,mZ]
   rw[this _ _ _ _ ah];simp_all
  have yv:(cm.map fun (i,x)=>(i,cM x)).toList=cm.toList.map fun p=>(p.1,cM p.2):=by simp
  refine ⟨.slice (as4 ⟨w.heap.size,0,as6⟩) l l,w.alloc (.cells ds e),⟨w.heap.size,l,i.size,0⟩,_, ?_,
   .cells rfl rfl rfl rfl rfl zH (ux aj) (by grind) (Nat.le_of_eq j1.1) j1.2,fun bZ a0=>⟨_,rfl,a0, .inl ⟨ss,rfl⟩⟩⟩
  by_cases ad9:l*i.size=0
  ·have kP:Instr.fill (fun k=>as4 (k*i.size,i.size)) ((auB 0).map (fun k=>(#[]:Array as7)[k%0]!)) (cm.toList.map fun p=>(p.1,cM p.2))=as4 ds:=by
    grind
   simp only[execOp,h,Instr.buildSlice,atE,eU au,atz,ie aj];simp only[ad9];simp[Py] at kP;simp[kP,yv,newRow,Py]
  ·simp only[execOp,h,Instr.buildSlice,atE,eU au,atz,ie aj];simp_all [mn,newRow]
 |makeSlice t x y l c k cK e i z h au aj a4 da dU ad aJ qW ag ah=>
  have cB:=bN x (by grind [atg]);rw[ad] at cB;have ee:=cB.int;have hN:=bN y (by grind [atg]);rw[aJ] at hN;have kh:=hN.int;have j1:=(Fq (j:=j) (wH da c)).length;have ad3:as'.i64.wrap (l:Int)=(l:Int):=IntWalk.i64_in _ (by omega);have ad2:as'.i64.wrap (c:Int)=(c:Int):=IntWalk.i64_in _ (by omega);have nA:(i.bytes:Int)*(c:Int)<=140737488355328:=by
   grind
  refine ⟨.slice (as4 ⟨w.heap.size,0,as6⟩) l c,w.alloc (.cells ((auB (c*i.size)).map (fun k=>z.cells[k%z.cells.size]!)) e),⟨w.heap.size,c,i.size,0⟩,_, ?_,
   .cells rfl rfl rfl rfl rfl zH (ux aj) (by simp) ?_ ?_,fun bZ a0=>⟨_,rfl,a0, .inl ⟨ah,rfl⟩⟩⟩
  ·have sw:∀q:Int,0<=q->q<=c->(decide (q<0)||decide ((i.bytes:Int)*q>2 ^ 48))=as9:=by
    intro q bg U;have:(i.bytes:Int)*q<=(i.bytes:Int)*c:=Int.mul_le_mul_of_nonneg_left U (by omega)
    grind
   have aE:(Instr.makeSlice t (.int k l) (.int cK c)).run P w= .ok (.slice (as4 ⟨w.heap.size,0,as6⟩) l c) (w.alloc (.cells ((auB (c*i.size)).map (fun k=>z.cells[k%z.cells.size]!)) e)):=by
    simp only[Instr.makeSlice,atE,eU au,atz,asInt,asIntOf,atK,sT aj,ad3,ad2];rw[sw c (by omega) (by omega)];have U:¬((l:Int)<0):=by omega
    have aa:¬((l:Int)>(c:Int)):=by omega
    simp only[U,aa,decide_false,Bool.or_self,avy,if_false,atE,run_askRoom,atz,Int.toNat_natCast,ie aj,atK];simp_all [newRow,Py,mn]
   simp_all [execOp]
  ·simp_all
  grind [FB,wH,m0]
 |bytes s t x e i b h aE au he aj ju ad ag=>
  have cB:=bN x (by grind [atg]);rw[ad] at cB;have ee:=cB.str
  let cap:=(Question.appendCap b.size 0 e).cut (w.tape w.drawn (.appendCap b.size 0 e))
  have iy:b.size<=cap/\cap<cF:=by
   have bS:=Nat.mod_lt (w.tape w.drawn (.appendCap b.size 0 e)) (show 0<2 ^ 63 - b.size by omega)
   grind [Question.cut,cF]
  let row:Array as7:=b.data.map (fun u=> .int .u8 u.toNat)++at0 (cap - b.size) (.int .u8 0)
  have UE:row.size=cap:=by simp[row];grind
  refine ⟨.slice (as4 ⟨w.heap.size,0,as6⟩) b.size cap,(w.drew.alloc (.cells row e)).freeze {block:=w.heap.size,off:=cap} 1,⟨w.heap.size,cap,1,0⟩,Obj.cells row e (cap,cap+1), ?_,
   .cells ?_ ?_ ?_ ?_ rfl ?_ (by grind [ux]) (by grind) ?_ ?_,fun bZ a0=>⟨_,rfl,a0, .inr (.inl ⟨rfl,Nat.one_pos, ?_,iy.2, ?_, ?_, ?_⟩)⟩⟩
  ·have ash:(Conv.stringToBytes e b).run P w= .ok (.slice (as4 ⟨w.heap.size,0,as6⟩) b.size cap) ((w.drew.alloc (.cells row e)).freeze {block:=w.heap.size,off:=cap} 1):=by
    simp only[Conv.stringToBytes,atE,run_choose,avz,avy,if_false,atz,newRow,run_newObj,atK,markStringish,run_shape];have asi:(w.drew.alloc (.cells row e)).heap[w.heap.size]? =as4 (.cells row e):=by show (w.heap.push (Obj.cells row e))[w.heap.size]? =_;simp
    have q0:((w.drew.alloc (.cells row e)).shape? w.heap.size)=as4 (e,row.size):=by grind [World.shape?]
    show (avl (Sem.run P (match (w.drew.alloc (.cells row e)).shape? w.heap.size with|some (_,n)=>freeze {block:=w.heap.size,off:=n} 1|_=>pure ()) (w.drew.alloc (.cells row e))) _)=_;rw[q0];simp[UE];rfl
   simp_all [execOp,convert,eU]
  ·grind [World.freeze,World.alloc,World.drew]
  ·rfl
  ·rfl
  ·rfl
  ·grind
  ·grind
  ·intro a v aY;refine ⟨v, ?_, ?_⟩
   ·grind
   ·simp only[aub] at aY;cases bb:b.data.toList[a]? with
    |none=>grind
    |some u=>simp[bb] at aY;subst aY;rfl
  ·grind
  ·rfl
  ·simp
  grind
 |makeMap t bh bc h au=>refine ⟨.map (as4 w.heap.size),w.alloc (.map #[] 0),⟨w.heap.size,0,0,0⟩,_, ?_,⟨rfl,rfl,rfl,rfl,rfl,⟨bh,bc,#[],0,[],rfl,au,⟨rfl,fun p aL=>by grind⟩,atm,⟨by simp,fun x ad=>by grind⟩⟩,rfl⟩,fun bZ a0=>⟨_,a0,rfl⟩⟩;simp[execOp,h,Instr.makeMap]
theorem ahR {P:atb} {j:bE} {af cM:atd->as7} {o:Oper} {m:Mem} {w:World} {X:bm} {v:as7} (h:ij P af o m.next X v) (bN:hb j af cM o) (ch:Rel P j m w):
  ∃ba w' bZ,(execOp cM o).run P w= .ok (.value ba) w'/\Post P j m w bZ (m.push X) w'/\cL bZ v ba:=by
 obtain ⟨ba,w',e,ob,aF,a2,ab⟩:=Xu h bN w;exact ⟨ba,w',j.up m.next e,aF,ch.push a2.heap a2.os a2.tape a2.output a2.aS a2.obj,ab _ (by simp[bE.up])⟩
end Go.ay
end
section
namespace Go.ay
theorem E7 {w:World} {c:Nat} {cs:Array as7} {t:atc} {bi:Nat×Nat} (h:w.heap[c]? =as4 (.cells cs t bi)):jL w c cs t bi=w:=by
 have:w.heap.setIfInBounds c (.cells cs t bi)=w.heap:=by
  grind
 simp_all [jL]
theorem agX {w:World} {c:Nat} {cs cs':Array as7} {t:atc} {bi:Nat×Nat}:jL (jL w c cs t bi) c cs' t bi=jL w c cs' t bi:=by
 simp[jL]
theorem agT {w:World} {c o:Nat} {cs:Array as7} {t:atc} {bi:Nat×Nat} {v:as7} (h:w.heap[c]? =as4 (.cells cs t bi)):w.setCell ⟨c,o,as6⟩ v=jL w c (cs.setIfInBounds o v) t bi:=by
 have:(w.setCell ⟨c,o,as6⟩ v).heap=(jL w c (cs.setIfInBounds o v) t bi).heap:=by
  grind [auZ,jL]
 grind [auZ,jL]
theorem uy {P:atb} (c o:Nat) (t:atc) (bi:Nat×Nat):∀(vs:List as7) (i:Nat) (cs:Array as7) (w:World),w.heap[c]? =as4 (.cells cs t bi)->(∀k:Nat,k<cs.size->¬(bi.1<=k/\k<bi.2))->
  o+i+vs.length<=cs.size->(∀v∈vs,v.oneCell'=as5)->(storeCells ⟨c,o,as6⟩ vs i).run P w= .ok () (jL w c (e1 cs.toList (o+i) vs).toArray t bi)
 |[],i,cs,w,h,bd,ax,U=>by simp_all [storeCells,e1,E7]
 |v::vs,i,cs,w,h,bd,ax,U=>by
  simp only[List.length_cons] at ax;have bS:=(auI.1 h).1;have ah:w.cell? ⟨c,o+i,as6⟩=as4 cs[o+i]:=by grind [at6]
  have hg:w.frozen? ⟨c,o+i,as6⟩=as9:=by
   have:=bd (o+i) (by omega)
   grind [World.frozen?]
  have aq:=uy (P:=P) c o t bi vs (i+1) (cs.setIfInBounds (o+i) v) (jL w c (cs.setIfInBounds (o+i) v) t bi) (N8 bS) (by grind) (by grind) (fun x ad=>U x (by grind))
  grind [storeCells,atE,m2,run_store,atz,agT,agX,e1]
theorem bp.one {j:bE}:∀{L K:List as7},bp (dD j) L K->∀v∈K,v.oneCell'=as5
 |[],[],_,v,ab=>by grind
 |a::L,b::K,⟨U,aa⟩,v,ab=>by
  rcases ats.1 ab with rfl|ab
  ·exact U.one
  ·exact bp.one aa v ab
 |[],_::_,h,_,_=>h.elim
 |_::_,[],h,_,_=>h.elim
theorem NZ {P:atb} {j:bE} {m:Mem} {w:World} (ch:r2 P j m w) {a9:Nat} {y ji:as7} {new:List as7} (ab:cL j y ji) (h:iY m a9 y=as4 new):
  (avA ji).run P w= .ok (hP y) w/\∃ds:List as7,bp (dD j) new ds/\(new.length=hP y*a9->∀k,k<=hP y->∀w':World,w'.heap=w.heap->(auf a9 k ji).run P w'= .ok (ds.take (k*a9)).toArray w'):=by
 cases y with
 |slice a l c=>
  cases a with
  |none=>have kh:=ab.kK;subst kh;simp only[iY,atj.injEq] at h;subst h;refine ⟨by rfl,[],atm,fun a2 k ar w' hw=> ?_⟩;simp[auf]
  |some a=>
   obtain ⟨b,off,spot⟩:=a;obtain ⟨q,aE,a0,ah⟩:=ab.slice;simp only at aE a0;subst aE;simp only[iY] at h;obtain ⟨ds,ax,a2,kP⟩:=yQ ch a0 _ _ _ h;have key:∀(a':Addr) (ix:Nat),ji= .slice (as4 a') l ix->(a'=⟨q.aS,q.dS+off,as6⟩\/l=0)->(avA ji).run P w= .ok (hP (.slice (as4 ⟨b,off,as6⟩) l c)) w/\
     ∃ds:List as7,bp (dD j) new ds/\(new.length=hP (.slice (as4 ⟨b,off,as6⟩) l c)*a9->∀k,k<=hP (.slice (as4 ⟨b,off,as6⟩) l c)->∀w':World,w'.heap=w.heap->(auf a9 k ji).run P w'= .ok (ds.take (k*a9)).toArray w'):=by
    intro a' ix kh an;subst kh;refine ⟨by rfl,ds,ax,fun adi k ar w' hw=> ?_⟩;simp only[hP] at ar;simp only[auf];have hlen:(ds.take (k*a9)).length=k*a9:=by simp_all
    rcases an with rfl|an
    ·grind [yR,at6]
    simp_all [VS]
   rcases ah with ⟨_,ah⟩|⟨_,_,_,_,_,_,ah⟩|⟨_,fW,o',ah⟩|⟨_,fW,a',ah⟩|⟨_,_,_,_,_,_,_,_,_,ah⟩
   ·grind
   ·grind
   ·grind
   ·grind
   grind
 |string s=>
  have kh:=ab.str;subst kh;simp only[iY] at h;split at h
  ·rename_i b6;subst b6;simp only[atj.injEq] at h;subst h;refine ⟨by rfl,s.data.toList.map fun u=> .int .u8 u.toNat,Fq (by simp only[List.all_map,atq,Function.comp];intro u _;rfl),fun a2 k ar w' hw=> ?_⟩;simp only[auf,atK,Nat.mul_one,hP] at ar⊢;congr 1;apply auJ;simp_all
  grind
 |_=>grind [iY]
inductive C2 (P:atb) (w:World) (u:atc) (i:TypeInfo) (ji:as7) (n:Nat) (hM:List as7):Prop where
 |el (hu:(∃b0,P.underlying u=as4 (.slice b0))\/P.underlying u=as4 .string) (ax:∀w',(avA ji).run P w'= .ok n w') (bd:∀w',w'.heap=w.heap->(auf i.size n ji).run P w'= .ok hM.toArray w')
 |mk (kk k:as') (z:as7) (hu:P.underlying u=as4 (.int kk)) (ab:ji= .int k n) (a4:i.zero=as4 z) (b6:0<i.size) (ag:n*i.bytes<=140737488355328) (hm:n<9223372036854775807) (h8:hM.toArray=au1 z.cells n)
theorem ZN (z:Array as7):au1 z 0=#[]:=by simp[au1]
theorem wB {P:atb} {t u ty e:atc} {i:TypeInfo} {base:Option Addr} {l c n:Nat} {ji:as7} {w:World} {hM:List as7} (au:P.underlying t=as4 (.slice e)) (aj:P.info? e=as4 i)
  (dW:C2 P w u i ji n hM) (ah:l+n<=c):
  (auC #[t,u] ty #[.slice base l c,ji]).run P w=
   match base with
   |some a=>((storeCells (a.add (l*i.size)) hM).run P w).andThen fun _ w=> .ok (.slice base (l+n) c) w
   |none=> .ok (.slice base (l+n) c) w:=by
 cases dW with
 |el hu a2 bd=>have a2:=a2 w;have bd:=bd w rfl;rcases hu with ⟨b0,aQ⟩|aQ<;>cases base<;>simp[auC,eU au,eU aQ,ie aj,a2,ah,bd]
 |mk kk k z hu ab a4 b6 ag hm h8=>
  subst ab;have bg:ata .i64 (n:Int)=n:=by grind [avm]
  have aN:¬((n:Int)<0):=by omega
  have bI:¬((281474976710656:Int)<(n:Int)*(i.bytes:Int)):=by
   grind
  have jE:¬i.size=0:=by omega
  have yk:hM=(au1 z.cells n).toList:=by grind
  subst yk;by_cases g7:n=0
  ·subst g7;cases base<;>simp[auC,eU au,eU hu,ie aj,sT aj,mn aj a4,ah,asInt,asIntOf,ZN,show ata .i64 (0:Int)=0 from rfl]<;>omega
  ·have nz:¬n*i.size=0:=by grind [Nat.mul_eq_zero]
   cases base<;>simp[auC,eU au,eU hu,ie aj,sT aj,mn aj a4,bg,aN,bI,g7,jE,nz,ah,asInt,asIntOf]
theorem agR {P:atb} {t u ty e:atc} {i:TypeInfo} {z:as7} {base:Option Addr} {l c n:Nat} {ji:as7} {w:World} {dN:Array as7} {hM:List as7} (au:P.underlying t=as4 (.slice e)) (aj:P.info? e=as4 i) (a4:i.zero=as4 z)
  (dW:C2 P w u i ji n hM) (ah:c<l+n) (hm:l+n<9223372036854775807) (ag:(l+n)*i.bytes<=140737488355328)
  (an:∀w',w'.heap=w.heap->(auf i.size l (.slice base l c)).run P w'= .ok dN w'):
  (auC #[t,u] ty #[.slice base l c,ji]).run P w=
   .ok (.slice (as4 ⟨w.heap.size,0,as6⟩) (l+n) (grownCap w (l+n) c e)) (w.drew.alloc (.cells (dN++hM.toArray++au1 z.cells (grownCap w (l+n) c e - (l+n))) e)):=by
 have U:¬(l+n<=c):=by omega
 have aa:¬(9223372036854775807<((l:Int)+(n:Int))):=by omega
 have sn:=growslice_fits ah ag;have ao:¬(281474976710656<Builtin.nextslicecap (l+n) c*i.bytes):=by omega
 have kC:=an w.drew rfl;cases dW with
 |el hu a2 bd=>have tM:=bd w.drew rfl;rcases hu with ⟨b0,aQ⟩|aQ<;>simp[auC,eU au,eU aQ,ie aj,sT aj,mn aj a4,a2,U,aa,ao,avz,kC,tM,newRow,grownCap]
 |mk kk k z' hu ab p1 b6 ej ki h8=>
  rw[a4] at p1;cases p1;subst ab;have bg:ata .i64 (n:Int)=n:=by grind [avm]
  have aN:¬((n:Int)<0):=by omega
  have bI:¬((281474976710656:Int)<(n:Int)*(i.bytes:Int)):=by
   grind
  have jE:¬i.size=0:=by omega
  rw[h8];by_cases g7:n=0
  ·subst g7;simp only[at2] at U ao;have lJ:¬(9223372036854775807<(l:Int)):=by omega
   simp[auC,eU au,eU hu,ie aj,sT aj,mn aj a4,U,lJ,ao,avz,kC,newRow,grownCap,asInt,asIntOf,ZN,show ata .i64 (0:Int)=0 from rfl]
  ·have nz:¬n*i.size=0:=by grind [Nat.mul_eq_zero]
   simp[auC,eU au,eU hu,ie aj,sT aj,mn aj a4,bg,U,aa,ao,aN,bI,g7,jE,nz,avz,kC,newRow,grownCap,asInt,asIntOf]
end Go.ay
end
section
namespace Go.ay
theorem yY {j:bE} {L new:List as7} {cs:Array as7} {ds:List as7} {o dS:Nat} (h:∀(i:Nat) (v:as7),L[i]? =as4 v->∃ba,cs[dS+i]? =as4 ba/\dD j v ba) (aQ:bp (dD j) new ds) (ax:o+new.length<=L.length) (cV:dS+L.length<=cs.size):
  ∀(i:Nat) (v:as7),(e1 L o new)[i]? =as4 v->∃ba,(e1 cs.toList (dS+o) ds).toArray[dS+i]? =as4 ba/\dD j v ba:=by
 intro i v aj;have hlen:=aQ.length;rw[oz _ _ _ _ ax] at aj;simp only[ava];rw[oz _ _ _ _ (by grind)];rw[<-hlen];split at aj
 ·rename_i od;rw[if_pos (by omega),show dS+i - (dS+o)=i - o by omega];exact aQ.get _ _ aj
 grind
theorem wM (cs:Array as7) (o:Nat) (ds:List as7):(e1 cs.toList o ds).toArray.size=cs.size:=by simp[mZ]
theorem uv {P:atb} {cM:atd->as7} {o:Oper} {x y:atd} {t u:atc} (h:o.op= .call {callee:= .builtin .append,args:=#[x,y],argTypes:=#[t,u]}) {w w':World} {v:as7}
  (aF:(auC #[t,u] o.type #[cM x,cM y]).run P w= .ok v w'):(execOp cM o).run P w= .ok (.value v) w':=by
 simp_all [execOp,resolve,invoke,builtin]
def zv (P:atb) (j:bE) (m:Mem) (w:World) (cM:atd->as7) (o:Oper) (v:as7) (m':Mem):Prop:=
 ∃n ba w' bZ,(execOp cM o).run P w= .ok n w'/\(n= .value ba\/(n= .skip/\ba=undef))/\Post P j m w bZ m' w'/\cL bZ v ba
theorem agZ {P:atb} {j:bE} {af cM:atd->as7} {o:Oper} {m:Mem} {w:World} {t:atc} {x y:atd} {b off:Nat} {i:TypeInfo} {L:List as7} {e:atc} (h:o.op= .store t x y) (ad:af x= .pointer (as4 ⟨b,off,as6⟩)) (aj:P.info? t=as4 i) (hm:m.aS b= .own L e)
   (ab:storable (af y)=as5) (aE:(af y).cells.size=i.size) (ax:off+i.size<=L.length) (bN:hb j af cM o) (ch:Rel P j m w):zv P j m w cM o undef (m.put b (.own (e1 L off (af y).cells.toList) e)):=by
 have cB:=bN x (by grind [atg]);rw[ad] at cB;obtain ⟨q,_,a0,ah⟩:=cB.ptr;have hN:=cL.storable (bN y (by grind [atg])) ab;have yi:=hN.cells;obtain ⟨cs,bi,aU,aO,bT,cP,eG,gN⟩:=ch.own b q L e a0 hm;have a2:(cM y).cells.size=i.size:=by have:=yi.length;grind
 have eR:=uy (P:=P) q.aS (q.dS+off) e bi (cM y).cells.toList 0 cs w aU aO (by grind) (bp.one yi);simp only[at2] at eR;refine ⟨.skip,undef,_,j, ?_, .inr ⟨rfl,rfl⟩,ch.write a0 hm aU (wM cs _ _) (by grind [mZ]) (yY gN yi (by grind) (by omega)), ?_⟩
 ·simp_all [execOp,Instr.storeAt,auW,storeVar,ie]
 ·exact ⟨#[],rfl,atm⟩
theorem Vt {P:atb} {j:bE} {m:Mem} {w:World} (ch:r2 P j m w) {a9:Nat} {y ji:as7} {new:List as7} (ab:cL j y ji) (h:iY m a9 y=as4 new) (a2:new.length=hP y*a9):
  ∃ds:List as7,bp (dD j) new ds/\∀w':World,w'.heap=w.heap->(auf a9 (hP y) ji).run P w'= .ok ds.toArray w':=by
 obtain ⟨_,ds,aQ,bd⟩:=NZ ch ab h;refine ⟨ds,aQ,fun w' hw=> ?_⟩;rw[bd a2 _ (atk _) w' hw,<-a2,aQ.length,List.take_length]
theorem aiF {P:atb} {j:bE} {m:Mem} {w w':World} (h:Rel P j m w) (hw:w'.heap=w.heap):Rel P j m w':=
 ⟨⟨fun b e ag=>by have:=h.lt b e ag;grind,fun b e ag=>by rw[hw];exact h.obj b e ag,h.inj⟩,h.kq.val.keep fun _ _=>by grind,h.kq.sep⟩
theorem ah8 {z:as7} (da:z.cells.toList.all cQ=as5) (n:Nat):∀v∈(att n z.cells.toList).flatten,cQ v=as5:=by
 grind [wH]
theorem yW {P:atb} {j:bE} {m:Mem} {w:World} (ch:r2 P j m w) {u:atc} {i:TypeInfo} {y ji:as7} {n:Nat} {new:List as7} (ab:cL j y ji) (h:qA P m u i y n new) (a2:new.length=n*i.size):
  ∃hM:List as7,bp (dD j) new hM/\C2 P w u i ji n hM:=by
 cases h with
 |el hu ax he=>subst ax;obtain ⟨hlen,_⟩:=NZ ch ab he;obtain ⟨hM,h8,MP⟩:=Vt ch ab he a2;refine ⟨hM,h8, .el hu (fun w'=> ?_) MP⟩;have:=hlen;cases kh:ji<;>simp[kh,avA] at this⊢<;>exact this
 |mk kk k z hu aJ a4 da dU b6 ag hm lR=>
  subst lR;have kh:ji= .int k n:=by rw[aJ] at ab;exact ab.int
  refine ⟨(att n z.cells.toList).flatten,bp.EV rfl fun a v bH aY ej=> ?_, .mk kk k z hu kh a4 b6 ag hm ?_⟩
  ·grind [m0,ah8]
  ·have:=FB z.cells n;rw[<-this];rfl
theorem Vq {P:atb} {j:bE} {cM:atd->as7} {o:Oper} {m o9:Mem} {w:World} {x y:atd} {t u e:atc} {i:TypeInfo} {z:as7} {base:Option Addr} {l c n:Nat} {dN new:List as7} {ds hM:List as7}
   (h:o.op= .call {callee:= .builtin .append,args:=#[x,y],argTypes:=#[t,u]})
   (au:P.underlying t=as4 (.slice e)) (aj:P.info? e=as4 i) (a4:i.zero=as4 z) (dU:z.cells.size=i.size) (b6:0<i.size)
   (ad:cM x= .slice base l c) (dW:C2 P w u i (cM y) n hM) (ah:c<l+n)
   (kQ:dN.length=l*i.size) (pV:new.length=n*i.size) (aQ:bp (dD j) dN ds) (h8:bp (dD j) new hM)
   (yn:∀w',w'.heap=w.heap->(auf i.size l (.slice base l c)).run P w'= .ok ds.toArray w')
   (ag:(l+n)*i.bytes<=140737488355328) (hm:l+n<9223372036854775807) (ch:Rel P j o9 w) (adf:o9.next=m.next):
  ∃ba w' bZ,(execOp cM o).run P w= .ok (.value ba) w'/\Post P j o9 w bZ (o9.push (.own (dN++new) e)) w'/\cL bZ (.slice (as4 ⟨m.next,0,as6⟩) (l+n) cF) ba:=by
 have jk:=agR (P:=P) (ty:=o.type) (base:=base) (z:=z) au aj a4 dW ah hm ag yn
 let cap:=grownCap w (l+n) c e
 have iy:l+n<=cap:=grownCap_ge w _ c e;have aco:cap<cF:=by
  have bS:=Nat.mod_lt (w.tape w.drawn (.appendCap (l+n) c e)) (show 0<2 ^ 63 - (l+n) by omega)
  grind [grownCap,Question.cut,cF]
 let row:=ds.toArray++hM.toArray++au1 z.cells (cap - (l+n))
 have bt:=aQ.length;have e2:=h8.length;have UE:row.size=cap*i.size:=by
  simp only[row,Array.size_append,List.size_toArray,size_zeroCells,dU];rw[<-bt,<-e2,kQ,pV,<-atJ,<-atJ]
  grind
 have tY:=ch.push (w':=w.drew.alloc (.cells row e)) (X:= .own (dN++new) e) (e:=⟨w.heap.size,cap,i.size,0⟩) (ob:= .cells row e) rfl rfl rfl rfl rfl ⟨row,(0,0),rfl,zH,ux aj,by grind,
  (by grind),
  (fun k v ar=>by
   have D3:=bp.append aQ h8;obtain ⟨ba,hD,aF⟩:=D3.get k v ar
   grind)⟩
 refine ⟨.slice (as4 ⟨w.heap.size,0,as6⟩) (l+n) cap,_,_,uv h (by grind),tY,⟨⟨w.heap.size,cap,i.size,0⟩,rfl,by grind [bE.up], .inr (.inl ⟨rfl,b6, ?_,aco, ?_, ?_, ?_⟩)⟩⟩
 ·simp_all
 ·rfl
 ·simp
 ·simp
theorem agU {cs:Array MapEntry} {clock:Nat} (h:wS cs clock) (i:Nat) (f:MapEntry->MapEntry) (bd:∀e,(f e).born=e.born):wS (cs.modify i f) clock:=by
 have ag:(cs.modify i f).toList.map (·.born)=cs.toList.map (·.born):=by
  rw[Array.toList_modify];refine auw fun k=> ?_
  grind
 refine ⟨by rw[ag];exact h.1,fun x ad=> ?_⟩;have hm:x.born∈(cs.modify i f).toList.map (·.born):=atw.2 ⟨x,ad,rfl⟩;rw[ag] at hm;obtain ⟨y,aJ,he⟩:=atw.1 hm;rw[<-he];exact h.2 y aJ
theorem agY {cs:Array MapEntry} {clock:Nat} (h:wS cs clock) (e:MapEntry) (he:e.born=clock):wS (cs.push e) (clock+1):=by
 refine ⟨?_,fun x ad=> ?_⟩
 ·rw[Array.toList_push,List.map_append,List.nodup_append];refine ⟨h.1,by simp,fun a aY b ag=> ?_⟩;obtain ⟨y,aJ,rfl⟩:=atw.1 aY;simp only[aud,avB,au2] at ag;rw[ag,he];exact at7 (h.2 y aJ)
 ·rw[Array.toList_push] at ad;rcases atP.1 ad with ad|ad
  ·exact Nat.lt_succ_of_lt (h.2 x ad)
  grind
theorem qL.find {P:atb} {j:bE} {bh bc:atc} {eb vc:List as7} {E E':List (List as7×List as7)} {ba:as7} {clock:Nat} (h:qL (dG P bh) eb vc E E') (bd:eb.all cQ=as5) (ab:eX j (dY (dG P bc) vc) ba):∀{es:List MapEntry} (n:Nat),bp (rW P j bh bc) E es->
  (∃i y,m3 (dY (dG P bh) eb) es n=as4 (n+i,y.val)/\es[i]? =as4 y/\y.key=dY (dG P bh) eb/\bp (rW P j bh bc) E' (es.modify i fun e=>{e with key:=dY (dG P bh) eb,val:=ba}))\/
  (m3 (dY (dG P bh) eb) es n=as6/\bp (rW P j bh bc) E' (es++[{key:=dY (dG P bh) eb,val:=ba,born:=clock}])):=by
 induction h with
 |mR=>
  intro es n a1;cases es with
  |nil=>exact .inr ⟨rfl,⟨rfl,bd,ab⟩,atm⟩
  |cons _ _=>exact a1.elim
 |oe p E h=>
  intro es n a1;cases es with
  |nil=>exact a1.elim
  |cons x es=>obtain ⟨⟨U,aa,ao⟩,aN⟩:=a1;refine .inl ⟨0,x,by grind [m3],rfl,U.trans h, ?_⟩;exact ⟨⟨h.symm,aa,ab⟩,aN⟩
 |next p E E' h T1 aq=>
  intro es n a1;cases es with
  |nil=>exact a1.elim
  |cons x es=>
   obtain ⟨⟨U,aa,ao⟩,aN⟩:=a1;have ep:¬x.key=dY (dG P bh) eb:=fun bJ=>h (U.symm.trans bJ);rcases aq (n+1) aN with ⟨i,y,aU,aO,bT,cP⟩|⟨aU,aO⟩
   ·refine .inl ⟨i+1,y, ?_,by grind,bT, ?_⟩
    ·grind [m3]
    ·exact ⟨⟨U,aa,ao⟩,cP⟩
   ·refine .inr ⟨?_, ?_⟩
    ·grind [m3]
    ·exact ⟨⟨U,aa,ao⟩,aO⟩
theorem ahb {P:atb} {C:FuncId->Array as7->Mem->as7->Mem->Prop} {j:bE} {af cM:atd->as7} {o:Oper} {m m':Mem} {w:World} {v:as7} (h:gI P C af o m v m') (bN:hb j af cM o) (ch:Rel P j m w):
  zv P j m w cM o v m'\/∃f args,callee o af f args/\C f args m v m':=by
 cases h with
 |store t x y b off i L e h ad aj hm ab aE ax=>grind [agZ]
 |call f args v m' h ca=>grind
 |r9 x y t u e i a l c h au aj ad ah qW aJ=>
  left;have cB:=bN x (by grind [atg,atL]);rw[ad] at cB;have hN:=bN y (by simp[h,atg,atL]);obtain ⟨ds,aQ,dW⟩:=yW ch.mu hN aJ (by simp);have mM:ds=[]:=by have:=aQ.length;grind
  subst mM;have ee:∃a',cM x= .slice a' l c/\cL j (.slice a l c) (.slice a' l c):=by
   cases a with
   |none=>exact ⟨as6,cB.kK,rfl⟩
   |some a=>
    obtain ⟨q,aE,a0,eZ⟩:=cB.s6 (atO ah);rcases eZ with ⟨bS,eZ⟩|⟨eZ,_⟩|⟨eZ,_⟩|⟨nB,fW,a',eZ⟩
    ·grind
    ·grind
    ·grind
    grind
  obtain ⟨a',ee,UN⟩:=ee;refine ⟨.value (.slice a' l c), .slice a' l c,w,j,uv h ?_, .inl rfl,Post.refl ch,by grind⟩;rw[ee,wB au aj dW (by omega)];cases a'<;>simp[storeCells]
 |pK x y t u e i z a l c n dN new h au aj a4 da dU b6 ad ah an kQ aJ a2 ag hm=>
  left;have cB:=bN x (by grind [atg,atL]);have hN:=bN y (by grind [atg,atL]);have M4:hP (af x)=l:=by rw[ad];rfl
  have ee:∃a',cM x= .slice a' l c:=by
   rw[ad] at cB;cases a with
   |none=>exact ⟨as6,cB.kK⟩
   |some a=>
    obtain ⟨q,aE,a0,eZ⟩:=cB.s6 (by grind [cF]);rcases eZ with ⟨bS,eZ⟩|⟨eZ,_⟩|⟨eZ,_⟩|⟨nB,fW,a',eZ⟩
    ·grind
    ·grind [cF]
    ·grind [cF]
    grind
  obtain ⟨a',ee⟩:=ee;obtain ⟨ds,aQ,arQ⟩:=Vt ch.mu cB an (by grind);obtain ⟨hM,h8,dW⟩:=yW ch.mu hN aJ a2;have yn:∀w':World,w'.heap=w.heap->(auf i.size l (.slice a' l c)).run P w'= .ok ds.toArray w':=by
   grind
  obtain ⟨ba,w',bZ,U,aa,ao⟩:=Vq (m:=m) h au aj a4 dU b6 ee dW ah kQ a2 aQ h8 yn ag hm ch rfl;exact ⟨.value ba,ba,w',bZ,U, .inl rfl,aa,ao⟩
 |tr x y t u e i b off l c n L new h au aj ad fc ah hm aJ a2 ax=>
  left;have cB:=bN x (by grind [atg,atL]);rw[ad] at cB;have hN:=bN y (by grind [atg,atL]);obtain ⟨hM,h8,dW⟩:=yW ch.mu hN aJ a2;obtain ⟨q,_,a0,eZ⟩:=cB.s6 (atO fc);rcases eZ with ⟨bS,ee⟩|⟨eZ,_⟩|⟨eZ,_⟩|⟨nB,fW,a',ee⟩
  rotate_left 3
  ·
   subst nB;subst fW;have q9:n=0:=by omega
   have tU:new=[]:=by simp_all
   subst tU;have MM:hM=[]:=by have:=h8.length;grind
   subst MM;obtain ⟨cs,bi,aU,aO,bT,cP,eG,gN⟩:=ch.own b q L e a0 hm;have hw:=ch.write (L':=L) a0 hm aU (cs':=cs) rfl eG gN;rw[E7 aU] at hw;refine ⟨.value _,_,_,j,uv h (v:= .slice (as4 a') (0+n) 0) ?_, .inl rfl,hw,⟨q,rfl,a0, .inr (.inr (.inr (.inl ⟨rfl,by omega,a',by grind⟩)))⟩⟩;rw[ee,wB au aj dW ah];rfl
  ·obtain ⟨cs,bi,aU,aO,bT,cP,eG,gN⟩:=ch.own b q L e a0 hm;rw[atJ,<-a2,<-atY] at ax;have eR:=uy (P:=P) q.aS (q.dS+(off+l*i.size)) e bi hM 0 cs w aU aO (by rw[<-h8.length];omega) (bp.one h8);simp only[at2] at eR;refine ⟨.value _,_,_,j,uv h (v:= .slice (as4 ⟨q.aS,q.dS+off,as6⟩) (l+n) c) ?_, .inl rfl,ch.write a0 hm aU (wM cs _ _) (by grind [mZ]) (yY gN h8 ax (by omega)),
    ⟨q,rfl,a0, .inl ⟨bS,rfl⟩⟩⟩
   grind [wB,m2,atz]
  ·grind
  grind
 |vE x y t u e i b off l c k n L new h au aj ad fc lO ah hm aJ a2 ax=>
  left;have cB:=bN x (by grind [atg,atL]);rw[ad] at cB;have hN:=bN y (by grind [atg,atL]);obtain ⟨hM,h8,dW⟩:=yW ch.mu hN aJ a2;obtain ⟨q,_,a0,eZ⟩:=cB.slice;have a0:j b=as4 q:=a0;rcases eZ with ⟨bS,_⟩|⟨eZ,_⟩|⟨eZ,_⟩|⟨nB,_⟩|⟨cK,lN,_,_,oc,iy,bS,lQ,hdiv,ee⟩
  ·omega
  ·omega
  ·omega
  ·grind
  ·have Eh:cK=k:=by omega
   subst Eh;have iy:cK<=q.cap - off / q.es:=iy;have lQ:off%q.es=0:=lQ;have hdiv:off / q.es<=q.cap:=hdiv;obtain ⟨cs,bi,aU,aO,bT,cP,eG,gN⟩:=ch.own b q L e a0 hm;rw[atJ,<-a2,<-atY] at ax;have eR:=uy (P:=P) q.aS (q.dS+(off+l*i.size)) e bi hM 0 cs w aU aO (by rw[<-h8.length];omega) (bp.one h8);simp only[at2] at eR;refine ⟨.value _,_,_,j,uv h (v:= .slice (as4 ⟨q.aS,q.dS+off,as6⟩) (l+n) (q.cap - off / q.es)) ?_, .inl rfl,ch.write a0 hm aU (wM cs _ _) (by grind [mZ]) (yY gN h8 ax (by omega)),
    ⟨q,rfl,a0, .inr (.inr (.inr (.inr ⟨cK,lN,lO,ah,oc,iy,bS,lQ,hdiv,rfl⟩)))⟩⟩
   grind [wB,m2,atz]
 |append x y t u e i z b off l n L new h au aj a4 da dU b6 ad iz tS aJ a2 ag hm=>
  left;have cB:=bN x (by grind [atg,atL]);have arF:=cB;rw[ad] at cB;have hN:=bN y (by grind [atg,atL]);obtain ⟨hM,h8,dW⟩:=yW ch.mu hN aJ a2;obtain ⟨q,_,a0,eZ⟩:=cB.s6 (atk _);have a0:j b=as4 q:=a0;obtain ⟨cs,bi,aU,aO,bT,cP,eG,gN⟩:=ch.own b q L e a0 iz;have oc:i.size=q.es:=by grind [ux]
  have sw:((L.drop off).take (l*i.size)).length=l*i.size:=by grind
  have asl:∀(k:Nat) (v:as7),((L.drop off).take (l*i.size))[k]? =as4 v->∃ba,((cs.toList.drop (q.dS+off)).take (l*i.size))[k]? =as4 ba/\dD j v ba:=by
   grind
  have adt:bp (dD j) ((L.drop off).take (l*i.size)) ((cs.toList.drop (q.dS+off)).take (l*i.size)):=bp.EV (by grind) (fun k a cR aY ej=>by
   grind)
  have out:∀(o' bP:Nat),cM x= .slice (as4 ⟨q.aS,o',as6⟩) l bP->(o'=q.dS+off\/l=0)->bP<l+n->zv P j m w cM o (.slice (as4 ⟨m.next,0,as6⟩) (l+n) cF) ((m.put b .dead).push (.own ((L.drop off).take (l*i.size)++new) e)):=by
   intro o' bP ee an ah;have ar:=ch.kill b;have yn:∀w':World,w'.heap=w.heap->(auf i.size l (.slice (as4 ⟨q.aS,o',as6⟩) l bP)).run P w'= .ok ((cs.toList.drop (q.dS+off)).take (l*i.size)).toArray w':=by
    grind [auf,yR,at6]
   obtain ⟨ba,w',bZ,U,aa,ao⟩:=Vq (m:=m) (o9:=m.put b .dead) h au aj a4 dU b6 ee dW ah sw a2 adt h8 yn ag hm ar.rel rfl;exact ⟨.value ba,ba,w',bZ,U, .inl rfl,Post.trans ar aa,ao⟩
  rcases eZ with ⟨bS,_⟩|⟨_,gA,hle,iy,lQ,hdiv,ee⟩|⟨_,fW,o',ee⟩|⟨nB,_⟩
  rotate_left 3
  ·grind [cF]
  ·grind
  ·have hle:l<=q.cap - off / q.es:=hle;have lQ:off%q.es=0:=lQ;have hdiv:off / q.es<=q.cap:=hdiv;have pX:off=off / q.es*q.es:=by
    grind [Nat.div_add_mod]
   have arK:off+(q.cap - off / q.es)*q.es=q.cap*q.es:=by
    grind [Nat.sub_mul]
   have ee:cM x= .slice (as4 ⟨q.aS,q.dS+off,as6⟩) l (q.cap - off / q.es):=ee;by_cases sn:l+n<=q.cap - off / q.es
   ·have q2:off+(l+n)*i.size<=q.cap*q.es:=by
     have:(l+n)*i.size<=(q.cap - off / q.es)*q.es:=by rw[oc];exact aug _ sn
     omega
    have asj:q.dS+off+l*i.size+new.length<=cs.size:=by grind
    have eR:=uy (P:=P) q.aS (q.dS+off+l*i.size) e bi hM 0 cs w aU aO (by rw[<-h8.length];omega) (bp.one h8);simp only[at2] at eR;refine ⟨.value _,_,_,j.up m.next ⟨q.aS,q.cap - off / q.es,q.es,q.dS+off⟩,uv h (v:= .slice (as4 ⟨q.aS,q.dS+off,as6⟩) (l+n) (q.cap - off / q.es)) ?_, .inl rfl,
     ch.reuse (e2:=⟨q.aS,q.cap - off / q.es,q.es,q.dS+off⟩) (L':=(L.drop off).take (l*i.size)++new) a0 iz aU (wM cs (q.dS+off+l*i.size) hM) rfl rfl (by grind) (by grind) ?_,
     ⟨⟨q.aS,q.cap - off / q.es,q.es,q.dS+off⟩,rfl,by simp[bE.up], .inr (.inl ⟨rfl,gA,by simpa using sn,avj (Nat.sub_le _ _) iy,by rfl,by simp,by simp⟩)⟩⟩
    ·grind [wB,m2,atz]
    ·intro k v ar;simp only[ava];rw[oz _ _ _ _ (by rw[<-h8.length];grind)];rw[List.getElem?_append,sw] at ar;split at ar
     ·grind
     ·rename_i gK;obtain ⟨ba,U,aa⟩:=h8.get _ _ ar;have:=(atp.1 U).1;rw[if_pos (by omega)];exact ⟨ba,by rw[show q.dS+off+k - (q.dS+off+l*i.size)=k - l*i.size by omega];grind,aa⟩
   grind
  ·by_cases sn:l+n<=0
   ·have q9:n=0:=by omega
    have vY:new=[]:=by simp_all
    subst vY;subst fW;have acB:hM=[]:=by have:=h8.length;grind
    subst acB;have Er:=ch.reuse (e2:=q) (L':=(L.drop off).take (0*i.size)++[]) a0 iz aU (cs':=cs) rfl rfl rfl cP (by simp) (fun k v ar=>by grind);rw[E7 aU] at Er;refine ⟨.value (.slice (as4 ⟨q.aS,o',as6⟩) 0 0),_,w,j.up m.next q,uv h ?_, .inl rfl,Er,⟨q,rfl,by simp[bE.up], .inr (.inr (.inl ⟨rfl,by omega,o',rfl⟩))⟩⟩;subst q9;rw[ee,wB au aj dW (by omega)];rfl
   grind
 |clear x t e i z b off l c L h au aj a4 da dU ad hm fW ax=>
  left;have cB:=bN x (by grind [atg,atL]);rw[ad] at cB;obtain ⟨q,_,a0,eZ⟩:=cB.slice;have a0:j b=as4 q:=a0;have ee:∃bP,cM x= .slice (as4 ⟨q.aS,q.dS+off,as6⟩) l bP:=by
   rcases eZ with ⟨_,ah⟩|⟨_,_,_,_,_,_,ah⟩|⟨_,bg,_⟩|⟨_,bg,_⟩|⟨_,_,_,_,_,_,_,_,_,ah⟩
   ·grind
   ·grind
   ·omega
   ·omega
   grind
  obtain ⟨bP,ee⟩:=ee;obtain ⟨cs,bi,aU,aO,bT,cP,eG,gN⟩:=ch.own b q L e a0 hm;have aeb:z.cells.toList.length=i.size:=by grind
  have hlen:(att l z.cells.toList).flatten.length=l*i.size:=by simp_all
  have aQ:bp (dD j) (att l z.cells.toList).flatten (att l z.cells.toList).flatten:=bp.self (p:=cQ) (fun a h=>m0 h) (by
   grind)
  have gn:off+(att l z.cells.toList).flatten.length<=L.length:=by grind
  have eR:=uy (P:=P) q.aS (q.dS+off) e bi (att l z.cells.toList).flatten 0 cs w aU aO (by omega) (bp.one aQ);simp only[at2] at eR;have o7:(au1 z.cells l).toList=(att l z.cells.toList).flatten:=FB z.cells l;refine ⟨.value _, .tuple #[],_,j, ?_, .inl rfl,ch.write a0 hm aU (wM cs _ _) (by grind [mZ]) (yY gN aQ gn (by omega)),⟨#[],rfl,atm⟩⟩;have arY:l≠0:=by omega
  cases l with
  |zero=>grind
  |succ l=>
  simp only[execOp,h,resolve,invoke,builtin,atE,atK,atz,avL,aud,avB,Builtin.clear_,ava,avo,eU au,ee,mn aj a4,o7,eR]
 |copy x y t u e i b off l c L cs h au aj ad hm aJ a2 ax=>
  left;have cB:=bN x (by grind [atg,atL]);rw[ad] at cB;have hN:=bN y (by grind [atg,atL]);obtain ⟨hlen,arp,MM,bd⟩:=NZ ch.mu hN aJ;have M6:aum (hP (af y)) l<=hP (af y):=Nat.min_le_left _ _;have bd:=bd a2 _ M6 w rfl;have h8:=MM.take (aum (hP (af y)) l*i.size);obtain ⟨q,_,a0,eZ⟩:=cB.slice;have a0:j b=as4 q:=a0;obtain ⟨ds,bi,aU,aO,bT,cP,eG,gN⟩:=ch.own b q L e a0 hm;have gn:off+(cs.take (aum (hP (af y)) l*i.size)).length<=L.length:=by rw[List.length_take];have:aum (hP (af y)) l*i.size<=l*i.size:=aug _ (Nat.min_le_right _ _);omega
  have key:∀(a':Addr) (bP:Nat),cM x= .slice (as4 a') l bP->(a'=⟨q.aS,q.dS+off,as6⟩\/l=0)->zv P j m w cM o (.int .i64 (aum (hP (af y)) l)) (m.put b (.own (e1 L off (cs.take (aum (hP (af y)) l*i.size))) e)):=by
   intro a' bP ee an;rcases an with rfl|an
   ·have eR:=uy (P:=P) q.aS (q.dS+off) e bi _ 0 ds w aU aO (by grind) (bp.one h8);simp only[at2] at eR;refine ⟨.value _, .int .i64 (aum (hP (af y)) l),_,j, ?_, .inl rfl,ch.write a0 hm aU (wM ds _ _) (by grind [mZ]) (yY gN h8 gn (by omega)),rfl⟩;simp only[execOp,h,resolve,invoke,builtin,atE,atK,atz,avL,aud,avB,Builtin.copy_,ava,avo,auo,eU au,ee,hlen,ie aj,bd,eR,goInt]
   ·subst an;have bg:aum (hP (af y)) 0=0:=Nat.min_zero _;simp only[bg,Nat.zero_mul,List.take_zero,e1] at bd gn⊢;have hw:=ch.write (L':=L) a0 hm aU (cs':=ds) rfl eG gN;rw[E7 aU] at hw;refine ⟨.value _, .int .i64 (0:Nat),w,j, ?_, .inl rfl,hw,rfl⟩;have abQ:aum (hP (af y)) 0=0:=Nat.min_zero _;simp only[execOp,h,resolve,invoke,builtin,atE,atK,atz,avL,aud,avB,Builtin.copy_,ava,avo,auo,eU au,ee,hlen,ie aj,abQ,bd,goInt,storeCells]
  rcases eZ with ⟨_,ee⟩|⟨_,_,_,_,_,_,ee⟩|⟨_,fW,o',ee⟩|⟨_,fW,a',ee⟩|⟨_,_,_,_,_,_,_,_,_,ee⟩
  ·grind
  ·grind
  ·grind
  ·grind
  grind
 |mapUpdate fh x gC gj u bh bc b L eb vc E E' g6 h g0 hu ad iz a1 lb K vW sq vX bd ar a5 oj Ew ub yB fF=>
  left;have M5:∀y∈([x,gC,gj]:List atd),y∈o.op.operands:=by
   grind [atg]
  have cB:=bN x (M5 x (by simp));rw[ad] at cB;obtain ⟨q,a0,ah⟩:∃q,j b=as4 q/\cM x= .map (as4 q.aS):=cB;have Ua:=wN bd (bN gC (M5 gC (by simp)));have hD:=cL.storable (bN gj (M5 gj (by simp))) oj;have Ej:=ch.obj b q a0;rw[iz] at Ej;obtain ⟨hE,hF,cs,clock,aq4,aU,aO,bT,cP,eG⟩:=Ej;have sr:hE=bh/\hF=bc:=by grind
  obtain ⟨rfl,rfl⟩:=sr;have:=nm.Qp lb a1 bT;subst this;have mf:=K.find (af gC) cs.toList w ar (Oi cP a5);have kg:=K.check as9 (af gC) w ar;have Ur:nm (P.cellsOf hE) (P.cellsOf hF) (E'.flatMap fun p=>p.1++p.2) E':=by
   refine ⟨rfl, ?_⟩;have:=a1.len;clear a1 bT cP a5;induction fF with
   |mR=>grind
   |oe p E h=>
    grind
   |next p E E' h T1 aq=>
    intro r aF;rcases ats.1 aF with rfl|aF
    ·grind
    ·exact aq (fun r aF=>this r (by grind)) r aF
  have key:=fF.find (j:=j) (ba:=cM gj) (clock:=clock) vX (by grind) 0 cP;rw[<-vW] at key;have fin:∀(cs':Array MapEntry) (DD:Nat),bp (rW P j hE hF) E' cs'.toList->wS cs' DD->(execOp cM o).run P w= .ok .skip (qp w q.aS (.map cs' DD))->
    zv P j m w cM o undef (m.put b (.map (E'.flatMap fun p=>p.1++p.2) u)):=by
   intro cs' DD j1 eR jk;refine ⟨.skip,undef,_,j,jk, .inr ⟨rfl,rfl⟩,ch.mw a0 (by rw[iz];rfl) ⟨hE,hF,cs',DD,E',rfl,hu,Ur,j1,eR⟩ rfl,⟨#[],rfl,atm⟩⟩
  have hex:∀w',(avM fh (cM x) (cM gC) (cM gj)).run P w= .ok () w'->(execOp cM o).run P w= .ok .skip w':=by intro w' q6;rcases h with h|h<;>simp[execOp,h,q6]
  rcases key with ⟨i,y,U,aa,ao,aN⟩|⟨U,aa⟩
  ·refine fin (cs.modify i fun e=>{e with key:=af gC,val:=cM gj}) clock ?_ (agU eG i _ fun _=>rfl) (hex _ ?_)
   ·grind
   ·have eR:=K.stays (af gC) w ar;rw[U] at mf;have so:cs[i]? =as4 y:=by grind
    simp[avM,eU g0,ah,wW aU,Ua,kg,mf,so,ao,eR,Yi _ aU,qp]
  ·refine fin (cs.push {key:=af gC,val:=cM gj,born:=clock}) (clock+1) ?_ (agY eG _ rfl) (hex _ ?_)
   ·grind
   ·rw[U] at mf;simp[avM,eU g0,ah,wW aU,Ua,kg,mf,Yi _ aU,qp]
end Go.ay
end
section
namespace Go.ay
theorem ahP {n n':Nat} (h:n<=n') {v:as7} (ab:p5 n v):p5 n' v:=by
 unfold p5 at ab⊢;split at ab
 ·rename_i a;cases a with
  |none=>exact ab
  |some a=>exact atu ab h
 grind
theorem ahO {n:Nat} {v:as7} (ab:p5 n v):g9 n v:=by
 unfold p5 at ab;split at ab
 ·exact ab
 grind
theorem rp {n n':Nat} (h:n<=n') {v:as7} (ab:g9 n v):g9 n' v:=by
 cases v with
 |func fn bl cs=>exact ⟨ab.1,fun v hm=>ahP h (ab.2 v hm)⟩
 |pointer a=>cases a with
  |none=>exact ab
  |some a=>exact atu ab h
 |slice a l c=>cases a with
  |none=>exact ab
  |some a=>exact atu ab h
 |map r=>cases r with
  |none=>exact ab
  |some r=>exact atu ab h
 |_=>exact ab
theorem Fj {n n':Nat} (h:n<=n') {v:as7} (ab:hx n v):hx n' v:=by
 cases v with
 |agg cs=>exact fun v hm=>rp h (ab v hm)
 |_=>grind [hx,rp]
theorem Ou {n n':Nat} (h:n<=n') {v:as7} (ab:low n v):low n' v:=by
 cases v with
 |chan _=>trivial
 |tuple cs=>exact fun v hm=>Fj h (ab v hm)
 |func _ a b=>exact ⟨fun v hm=>Fj h (ab.1 v hm),fun v hm=>Fj h (ab.2 v hm)⟩
 |_=>grind [low,Fj]
theorem Wd {n n':Nat} (h:n<=n') {x:bm} (ab:o8 n x):o8 n' x:=by
 cases x with
 |dead=>exact ab
 |ro rd=>exact fun i v aj=>rp h (ab i v aj)
 |own L t=>exact fun v hm=>rp h (ab v hm)
 |map L t=>exact fun v hm=>rp h (ab v hm)
 |lock _ _ _ _=>trivial
theorem qb {n:Nat} {v:as7} (h:cQ v=as5):g9 n v:=by
 cases v with
 |pointer a=>cases a with
  |none=>exact atm
  |some a=>grind [cQ]
 |slice a l c=>cases a with
  |none=>exact atm
  |some a=>grind [cQ]
 |map r=>cases r with
  |none=>exact atm
  |some r=>grind [cQ]
 |chan _=>grind [cQ]
 |func _ _ _=>simp only[cQ,ati,avN] at h;obtain ⟨rfl,rfl⟩:=h;exact ⟨rfl,fun v hm=>absurd hm (by simp)⟩
 |iface _ _=>grind [cQ]
 |agg _=>grind [cQ]
 |tuple _=>grind [cQ]
 |_=>exact atm
theorem Og {n:Nat} {v:as7} (h:iR v=as5):hx n v:=by
 cases v with
 |agg cs=>simp only[iR,atq] at h;exact fun v hm=>qb (h v hm)
 |_=>simp only[hx];exact qb h
theorem Fs {n:Nat} {v:as7} (h:flat v=as5):low n v:=by
 cases v with
 |tuple cs=>simp only[flat,atq] at h;exact fun v hm=>Og (h v hm)
 |func _ _ _=>simp only[flat,iR,cQ,ati,avN] at h;obtain ⟨rfl,rfl⟩:=h;exact ⟨fun v hm=>absurd hm (by simp),fun v hm=>absurd hm (by simp)⟩
 |chan _=>trivial
 |_=>simp only[low];exact Og h
theorem Fw {n:Nat} {v:as7} (h:g9 n v):hx n v:=by
 cases v<;>first|exact h|exact h.elim
theorem zd {n:Nat} {v:as7} (h:hx n v):low n v:=by
 cases v with
 |func fn bl cs=>exact ⟨fun v hm=>by rw[h.1] at hm;grind,fun v hm=>Fw (ahO (h.2 v hm))⟩
 |tuple _=>exact h.elim
 |chan _=>trivial
 |_=>exact h
theorem O7 {n:Nat} {v:as7} (h:g9 n v):low n v:=zd (Fw h)
theorem uz {n:Nat} {v:as7} (h:low n v) (aE:storable v=as5):hx n v:=by
 cases v with
 |tuple _=>grind [storable]
 |chan _=>grind [storable]
 |func fn bl cs=>
  simp only[storable,ati,avN,atq] at aE;refine ⟨aE.1,fun v hm=> ?_⟩;have U:=h.2 v hm;have aa:=aE.2 v hm;unfold u3 at aa;split at aa
  ·exact U
  grind
 |_=>exact h
theorem E5 {n:Nat} {v:as7} (h:hx n v):∀c∈v.cells.toList,g9 n c:=by
 cases v with
 |agg cs=>exact h
 |_=>intro c ah;simp only[as7.cells,au2] at ah;subst ah;exact h
theorem sP:∀(vs L:List as7) (o:Nat) (v:as7),v∈e1 L o vs->v∈L\/v∈vs
 |[],L,o,v,h=> .inl h
 |u::vs,L,o,v,h=>by
  rcases sP vs (L.set o u) (o+1) v h with h|h
  ·grind
  grind
theorem Fh {n:Nat} {place:Nat->Option (Nat×Nat)}:∀(cm:List (Nat×as7)) (L cs:List as7),(∀p∈cm,low n p.2)->(∀v∈L,g9 n v)->jc place L cm=as4 cs->∀v∈cs,g9 n v
 |[],L,cs,_,cV,h=>by grind [jc]
 |(i,v)::cm,L,cs,aL,cV,h=>by
  simp only[jc] at h;cases bb:place i with
  |none=>grind
  |some q=>
   simp only[bb] at h;split at h
   ·rename_i ah;refine Fh cm _ cs (fun p hm=>aL p (by grind)) ?_ h;intro u hu;rcases sP _ _ _ _ hu with hu|hu
    ·grind
    ·exact E5 (uz (aL (i,v) (by simp)) ah.1) u hu
   grind
theorem Oo {m:Mem} (hm:WF m) {b o:Nat} {v:as7} (h:m.load b o=as4 v):g9 m.next v:=by
 have:=hm.low b;unfold Mem.load at h;cases ag:m.aS b with
 |dead=>grind
 |ro rd=>simp only[ag] at h;rw[ag] at this;exact this o v h
 |own L t=>simp only[ag] at h;rw[ag] at this;exact this v (at3 h)
 |map L t=>grind
 |lock _ _ _ _=>grind
theorem FR {m:Mem} (hm:WF m) {b:Nat}:∀(n o:Nat) (cs:List as7),fK m b o n=as4 cs->∀v∈cs,g9 m.next v
 |0,o,cs,h=>by grind [fK]
 |n+1,o,cs,h=>by
  simp only[fK] at h;cases U:m.load b o with
  |none=>grind
  |some u=>
   cases aa:fK m b (o+1) n with
   |none=>grind
   |some l=>
    simp only[U,aa,atj.injEq] at h;subst h;intro v ab;rcases ats.1 ab with rfl|ab
    ·grind [Oo]
    ·exact FR hm n (o+1) l aa v ab
theorem rm {n:Nat} {L:List as7} (h:L.all cQ=as5):∀v∈L,g9 n v:=by
 grind [qb]
theorem aiT {P:atb} {af:atd->as7} {o:Oper} {v:as7} {n:Nat} (h:cX P af o v) (hO:∀x∈o.op.operands,low n (af x)):low n v:=by
 cases h with
 |flat v aE h ab aF=>exact Fs ab
 |move x h=>exact hO x (by rcases h with h|h<;>simp[h,atg])
 |pick c a b t h ah=>
  cases t
  ·exact hO b (by simp[h,atg])
  ·exact hO a (by simp[h,atg])
 |extract x i vs v h ad ab=>have:=hO x (by simp[h,atg]);rw[ad] at this;exact zd (this v (by have:=avi ab;simpa using this))
 |field t x i bl f d cs v h au bd aQ ad ab=>
  have:=hO x (by simp[h,atg]);rw[ad] at this;split at ab
  ·obtain ⟨k,ar,hle,rfl⟩:=ab;intro u hu;refine this u ?_;simp only[avH,avI] at hu;exact avb (avp hu)
  ·exact O7 (this v (by have:=avi ab;simpa using this))
 |EC t x y e d i l k n' cs h au aQ aY aj ad aJ bg U=>have:=hO x (by simp[h,atg]);rw[ad] at this;intro u hu;refine this u ?_;simp only[avH,avI] at hu;exact avb (avp hu)
 |build t cm bl i z cs h au aj a4 da aL ah=>
  have:=Fh (n:=n) _ _ _ (by
   intro p aL;simp only[atw] at aL;obtain ⟨q,bb,rfl⟩:=aL;exact hO q.2 (by simp only[h,atg];simp only[avh,atw];exact ⟨q,bb,rfl⟩)) (rm da) ah
  simpa[low,hx] using this
 |xW t cm n e i k z cs h au aj a4 da he ah=>
  have:=Fh (n:=_) _ _ _ (by
   intro p aL;simp only[atw] at aL;obtain ⟨q,bb,rfl⟩:=aL;exact hO q.2 (by simp only[h,atg];simp only[avh,atw];exact ⟨q,bb,rfl⟩)) (rm da) ah
  simpa[low,hx] using this
 |nilCheck x a h ad=>have:=hO x (by simp[h,atg]);rw[ad] at this;exact this
 |fieldAddr t x i bl f k b off h au bd ar aE ad=>have:=hO x (by simp[h,atg]);rw[ad] at this;exact this
 |indexAddr t x y e i b off l c k n h au aj ad aJ bg U=>have:=hO x (by simp[h,atg]);rw[ad] at this;exact this
 |yE t x y e i b off l k n h au aj ad aJ bg U=>have:=hO x (by simp[h,atg]);rw[ad] at this;exact this
 |DZ t x y e i l g k n h au aj aE ad aJ bg U ax=>exact atm
 |slice t x bD aj e i b off l c n ct h au eo ad ag ef dA U aa ao=>have:=hO x (by simp[h,atg]);rw[ad] at this;exact this
 |kK t x bD aj e i h au eo ad ef dA=>exact atm
 |slice3 t x fl aj e i b off l c ct cK km h au eo ad ah dA ld U=>have:=hO x (by simp[h,atg]);rw[ad] at this;exact this
 |JG t x bD aj fl e i b off l c n ct cK EI EG km h au eo ad ah ef dA ld bg U=>exact atm
 |Cm t x fl aj e i km h au eo ad dA ld=>exact atm
 |len x t e a l c h au ad=>exact atm
 |xX x t e h au ad=>exact atm
 |tz neq x y t u e a l c h au ad aJ=>exact atm
 |func fn first captured h bd=>
  refine ⟨?_, ?_⟩
  ·intro v ab;simp only[auA,atw] at ab;obtain ⟨x,ad,rfl⟩:=ab;exact uz (hO x (by simp[h,atg];exact .inl (by simpa using ad))) (bd x (by simp[ad]))
  ·intro v ab;simp only[auA,atw] at ab;obtain ⟨x,ad,rfl⟩:=ab;exact uz (hO x (by simp[h,atg];exact .inr (by simpa using ad))) (bd x (by simp[ad]))
theorem ahh {P:atb} {bc:atc} {n:Nat} {cs:List as7} (q4:dG P bc=as9->P.cellsOf bc=1) (ax:cs.length=P.cellsOf bc) (h:∀c∈cs,g9 n c):hx n (dY (dG P bc) cs):=by
 cases aY:dG P bc with
 |true=>grind [dY,hx]
 |false=>
  have:=q4 aY
  match cs,ax with
  |[v],_=>exact Fw (h v (by simp))
  |[],ax=>grind
  |_::_::_,ax=>grind
theorem aiV {P:atb} {af:atd->as7} {o:Oper} {m:Mem} {v:as7} (h:eJ P af o m v) (hm:WF m) (hO:∀x∈o.op.operands,low m.next (af x)):low m.next v:=by
 cases h with
 |load t x b off d v h ad au aQ ab=>exact O7 (Oo hm ab)
 |tG t x g n s h ad a2 au a5=>exact atm
 |sz t x b off d i cs h ad au aQ aj ab=>simpa[low,hx] using FR hm _ _ _ ab
 |ve t x bD aj e i L b off l c k n ct h au eo ad ar ki ef dA U aa ao=>have:=hO x (by simp[h,atg]);rw[ad] at this;exact this
 |slice t x bD aj e i L b off l n ct h au eo ad ki ef dA U aa ao=>have:=hO x (by simp[h,atg]);rw[ad] at this;exact this
 |str s t x e b off l c cs h aE he au ad ab=>exact atm
 |vf s t x e l c h aE he au ad=>exact atm
 |lookup fh x cJ ok u bh bc b L E i z kr t g6 h g0 hu ad lb q4 K bd ar a5 aj a4 da ax=>
  have bg:hx m.next kr:=by
   have abX:(∀p∈E,∀c∈p.2,g9 m.next c)/\∀p∈E,p.2.length=P.cellsOf bc:=by
    rcases ad with ⟨ad,iz,a1⟩|⟨ad,rfl⟩
    ·have cV:=hm.low b;rw[iz] at cV;exact ⟨fun p aL c ah=>cV c (by rw[a1.eq];exact List.mem_flatMap.2 ⟨p,aL,by simp[ah]⟩),fun p aL=>(a1.len p aL).2⟩
    ·exact ⟨fun p aL=>by simp at aL,fun p aL=>by simp at aL⟩
   obtain ⟨gJ,hlen⟩:=abX;clear a5 ad;induction ax with
   |mR=>exact Og da
   |oe p E h=>exact ahh q4 (hlen p (by simp)) (gJ p (by simp))
   |next p E v b h ax aq=>exact aq (fun q bb=>gJ q (by simp[bb])) (fun q bb=>hlen q (by simp[bb]))
  cases ok with
  |false=>exact zd bg
  |true=>
   intro v ab;simp at ab;rcases ab with rfl|rfl
   ·exact bg
   ·exact atm
theorem akd {P:atb} {af:atd->as7} {o:Oper} {n:Nat} {X:bm} {v:as7} (h:ij P af o n X v) (hO:∀x∈o.op.operands,low n (af x)):low (n+1) v/\o8 n X:=by
 cases h with
 |alloc t i z h aj a4 da aE=>exact ⟨at4 n,rm da⟩
 |box t x i h aj ab aE=>exact ⟨at4 n,E5 (uz (hO x (by grind [atg])) ab)⟩
 |buildSlice t l cm e i z cs h au aj a4 da dU si ss ah=>
  refine ⟨at4 n,Fh _ _ _ ?_ (rm (wH da l)) ah⟩
  grind [atg]
 |makeSlice t x y l c k cK e i z h au aj a4 da dU ad aJ qW ag ah=>exact ⟨at4 n,rm (wH da c)⟩
 |bytes s t x e i b h aE au he aj ju ad ag=>exact ⟨at4 n,rm (by simp only[List.all_map,atq,Function.comp];intro u _;rfl)⟩
 |makeMap t bh bc h au=>exact ⟨at4 n,fun v ab=>by grind⟩
theorem WF.push {m:Mem} (h:WF m) {X:bm} (cV:o8 (m.next+1) X):WF (m.push X) where
 dead:=fun b ag=>by simp only[Mem.push] at ag⊢;rw[if_neg (by omega)];exact h.dead b (by omega)
 low:=fun b=>by
  simp only[Mem.push];split
  ·grind
  ·exact Wd (atG _) (h.low b)
theorem WF.put {m:Mem} (h:WF m) {b:Nat} {x:bm} (ad:o8 m.next x) (ag:b<m.next\/x= .dead):WF (m.put b x) where
 dead:=fun c ah=>by
  have ah:m.next<=c:=ah;simp only[Mem.put];split
  ·grind
  ·exact h.dead c ah
 low:=fun c=>by
  simp only[Mem.put];split
  ·grind
  ·exact h.low c
theorem WF.lt {m:Mem} (h:WF m) {b:Nat} (ag:m.aS b≠ .dead):b<m.next:=by
 rcases atV b m.next with U|U
 ·grind
 ·exact absurd (h.dead b U) ag
def nK (C:FuncId->Array as7->Mem->as7->Mem->Prop):Prop:=∀f args m v m',C f args m v m'->WF m->(∀a∈args.toList,low m.next a)->low m'.next v/\WF m'/\m.next<=m'.next
theorem Of {m:Mem} (hm:WF m) {a9:Nat} {y:as7} {cs:List as7} (h:iY m a9 y=as4 cs):∀v∈cs,g9 m.next v:=by
 cases y with
 |slice a l c=>
  cases a with
  |none=>grind [iY]
  |some a=>
   obtain ⟨b,off,spot⟩:=a;cases spot with
   |none=>exact FR hm _ _ _ h
   |some _=>grind [iY]
 |string s=>
  simp only[iY] at h;split at h
  ·simp only[atj.injEq] at h;subst h;exact rm (by simp only[List.all_map,atq,Function.comp];intro u _;rfl)
  grind
 |_=>grind [iY]
theorem FJ {P:atb} {m:Mem} (hm:WF m) {u:atc} {i:TypeInfo} {y:as7} {n:Nat} {cs:List as7} (h:qA P m u i y n cs):∀v∈cs,g9 m.next v:=by
 cases h with
 |el hu ax he=>grind [Of]
 |mk kk k z hu aJ a4 da dU b6 ag kj lR=>
  grind [rm,wH]
theorem ag8 {o:Oper} {af:atd->as7} {f:FuncId} {args:Array as7} {n:Nat} (h:callee o af f args) (hO:∀x∈o.op.operands,low n (af x)):∀a∈args.toList,low n a:=by
 obtain ⟨x,as,ts,first,captured,h,ad,rfl⟩:=h;have bd:=hO x (by grind [atg,atL]);rw[ad] at bd;intro a aY;simp only[avK,atP,auA,atw] at aY;rcases aY with (aY|⟨y,aJ,rfl⟩)|aY
 ·exact zd (bd.1 a aY)
 ·grind [atg,atL]
 ·exact zd (bd.2 a aY)
theorem ai4 {P:atb} {C:FuncId->Array as7->Mem->as7->Mem->Prop} {af:atd->as7} {o:Oper} {m m':Mem} {v:as7} (h:gI P C af o m v m') (hm:WF m) (hO:∀x∈o.op.operands,low m.next (af x)) (ca:nK C):low m'.next v/\WF m'/\m.next<=m'.next:=by
 cases h with
 |store t x y b off i L e h ad aj iz ab aE ax=>
  refine ⟨fun u hu=>by grind,hm.put ?_ (.inl (hm.lt (by grind))),atk _⟩;intro u hu;rcases sP _ _ _ _ hu with hu|hu
  ·have:=hm.low b;rw[iz] at this;exact this u hu
  ·exact E5 (uz (hO y (by grind [atg])) ab) u hu
 |call f args v m' h acm=>exact ca f args m v m' acm hm (ag8 h hO)
 |r9 x y t u e i a l c h au aj ad ah qW aJ=>grind [atg,atL]
 |pK x y t u e i z a l c n dN new h au aj a4 da dU b6 ad ah an kQ aJ a2 ag kj=>
  refine ⟨at4 _,hm.push ?_,atG _⟩;intro w hw;rcases atP.1 hw with hw|hw
  ·exact rp (atG _) (Of hm an w hw)
  ·exact rp (atG _) (FJ hm aJ w hw)
 |vE x y t u e i b off l c k n L new h au aj ad fc lO ah iz aJ a2 ax=>
  refine ⟨?_,hm.put ?_ (.inl (hm.lt (by grind))),atk _⟩
  ·have:=hO x (by grind [atg,atL]);rw[ad] at this;exact this
  ·intro w hw;rcases sP _ _ _ _ hw with hw|hw
   ·have:=hm.low b;rw[iz] at this;exact this w hw
   grind [FJ]
 |tr x y t u e i b off l c n L new h au aj ad fc ah iz aJ a2 ax=>
  refine ⟨?_,hm.put ?_ (.inl (hm.lt (by grind))),atk _⟩
  ·have:=hO x (by grind [atg,atL]);rw[ad] at this;exact this
  ·intro w hw;rcases sP _ _ _ _ hw with hw|hw
   ·have:=hm.low b;rw[iz] at this;exact this w hw
   grind [FJ]
 |append x y t u e i z b off l n L new h au aj a4 da dU b6 ad iz tS aJ a2 ag kj=>
  have U:WF (m.put b .dead):=hm.put atm (.inr rfl);refine ⟨at4 _,U.push ?_,atG _⟩;intro w hw;rcases atP.1 hw with hw|hw
  ·have:=hm.low b;rw[iz] at this;exact rp (atG _) (this w (avp (avb hw)))
  ·exact rp (atG _) (FJ hm aJ w hw)
 |clear x t e i z b off l c L h au aj a4 da dU ad iz fW ax=>
  refine ⟨by intro v ab;grind,hm.put ?_ (.inl (hm.lt (by grind))),atk _⟩;intro w hw;rcases sP _ _ _ _ hw with hw|hw
  ·have:=hm.low b;rw[iz] at this;exact this w hw
  grind [List.mem_flatten,qb]
 |copy x y t u e i b off l c L cs h au aj ad iz aJ a2 ax=>
  refine ⟨atm,hm.put ?_ (.inl (hm.lt (by grind))),atk _⟩;intro w hw;rcases sP _ _ _ _ hw with hw|hw
  ·have:=hm.low b;rw[iz] at this;exact this w hw
  grind [Of]
 |mapUpdate fh x gC gj u bh bc b L eb vc E E' g6 h g0 hu ad iz a1 lb K vW sq vX bd ar a5 oj Ew ub yB fF=>
  refine ⟨fun u hu=>by grind,hm.put ?_ (.inl (hm.lt (by grind))),atk _⟩;have cV:=hm.low b;rw[iz] at cV;have gJ:∀p∈E,∀c∈p.1++p.2,g9 m.next c:=fun p aL c ah=>cV c (by rw[a1.eq];grind);have arX:∀c∈eb,g9 m.next c:=rm vX;have asm:∀c∈vc,g9 m.next c:=fun c ah=>by
   refine E5 (uz (hO gj ?_) oj) c (yB c ah)
   grind [atg]
  have key:∀p∈E',∀c∈p.1++p.2,g9 m.next c:=by
   clear a1 a5 cV;induction fF with
   |mR=>
    grind
   |oe p E h=>
    intro q bb c ah
    grind
   |next p E E' h T1 aq=>
    intro q bb c ah;rcases ats.1 bb with rfl|bb
    ·grind
    ·exact aq (fun q bb=>gJ q (by grind)) q bb c ah
  intro v ab;obtain ⟨p,aL,ah⟩:=List.mem_flatMap.1 ab
  grind
theorem X2 {fr:Nat->as7} {n:Nat} (h:∀t,low n (fr t)) {x:atd} (ad:lT x=as5):low n (a6 fr x):=by
 cases x with
 |tmp t=>exact h t
 |const v=>exact Fs ad
 |global g=>trivial
 |func f=>exact ⟨fun v ab=>by simp at ab,fun v ab=>by simp at ab⟩
theorem zc {fr:Nat->as7} {n:Nat} (h:∀t,low n (fr t)) {d:Option Tmp} {v:as7} (ab:low n v):∀t,low n (set fr d v t):=by
 intro t;cases d with
 |none=>exact h t
 |some d=>grind [set]
theorem Ff {n:Nat}:low n undef:=fun v ab=>by grind
theorem uG {P:atb} {C:FuncId->Array as7->Mem->as7->Mem->Prop} {fr:Nat->as7} {o:Oper} {m m':Mem} {v:as7} (h:nu P C (a6 fr) o m v m') (hm:WF m) (bd:∀t,low m.next (fr t)) (ca:nK C) (an:∀x∈o.op.operands,lT x=as5):
  low m'.next v/\WF m'/\m.next<=m'.next:=by
 have hO:∀x∈o.op.operands,low m.next (a6 fr x):=fun x ad=>X2 bd (an x ad);cases h with
 |pure h=>grind [aiT]
 |read h=>grind [aiV]
 |new h=>have:=akd h hO;exact ⟨this.1,hm.push (Wd (atG _) this.2),atG _⟩
 |e4 h=>grind [ai4]
end Go.ay
end
section
namespace Go.ay
def PE (P:atb) (C:FuncId->Array as7->Mem->as7->Mem->Prop) (ops:List Oper) (o:Oper) (fr:Nat->as7) (m:Mem) (v:as7) (m':Mem) (k:Nat):Prop:=
 (k=0/\wanted ops fr o=as9/\v=undef/\m'=m)\/
 (k=1/\wanted ops fr o=as5/\cX P (a6 fr) o v/\m'=m)\/
 (k=2/\wanted ops fr o=as5/\eJ P (a6 fr) o m v/\m'=m)\/
 (k=3/\wanted ops fr o=as5/\∃X,ij P (a6 fr) o m.next X v/\m'=m.push X)\/
 (k=4/\wanted ops fr o=as5/\gI P C (a6 fr) o m v m')
structure vA (P:atb) (C:FuncId->Array as7->Mem->as7->Mem->Prop) (ops:List Oper) (B:Array Nat) (i:Nat) (l:List Oper) (bl:Nat->Nat->as7) (ms:Nat->Mem) (vs:Nat->as7) (cD:Nat->Nat):Prop where
 frame:∀n o,l[n]? =as4 o->bl (i+n+1)=set (bl (i+n)) o.dst (vs (i+n))
 run:∀n o,l[n]? =as4 o->PE P C ops o (bl (i+n)) (ms (i+n)) (vs (i+n)) (ms (i+n+1)) (cD (i+n))
 after:∀r e o,l[r]? =as4 o->cD (i+r)=2->e<l.length->cD (i+e)=4->r<e->fq B (i+e) (i+r)=as9->eJ P (a6 (bl (i+r))) o (ms (i+e+1)) (vs (i+r))
 news:∀x e,x<l.length->cD (i+x)=3->e<l.length->cD (i+e)=4->x<e->fq B (i+e) (i+x)=as9->(ms (i+e+1)).aS (ms (i+x)).next=(ms (i+e)).aS (ms (i+x)).next
 ahead:∀r e o,l[r]? =as4 o->cD (i+r)=2->e<l.length->cD (i+e)=4->e<r->fq B (i+r) (i+e)=as9->eJ P (a6 (bl (i+r))) o (ms (i+e)) (vs (i+r))
theorem Y4 {P:atb} {C:FuncId->Array as7->Mem->as7->Mem->Prop} {ops:List Oper} {B:Array Nat}:∀(l:List Oper) (i:Nat) (A:Acc) (fr:Nat->as7) (m:Mem) (bA:Nat->as7) (m':Mem),gT P C ops B i l A fr m bA m'->
  ∃bl ms vs cD,vA P C ops B i l bl ms vs cD/\bl i=fr/\ms i=m/\bl (i+l.length)=bA/\ms (i+l.length)=m'/\
   (∀x∈A.reads,∀e,e<l.length->cD (i+e)=4->fq B (i+e) x.1=as9->x.2 (ms (i+e+1)))/\
   (∀x∈A.gg,∀r o,l[r]? =as4 o->cD (i+r)=2->fq B (i+r) x.1=as9->eJ P (a6 (bl (i+r))) o x.2 (vs (i+r)))/\
   (∀x∈A.news,∀e,e<l.length->cD (i+e)=4->fq B (i+e) x.1=as9->(ms (i+e+1)).aS x.2=(ms (i+e)).aS x.2)
 |[],i,A,fr,m,bA,m',h=>by simp only[gT] at h;obtain ⟨rfl,rfl⟩:=h;refine ⟨fun _=>bA,fun _=>m',fun _=>undef,fun _=>0,⟨?_, ?_, ?_, ?_, ?_⟩,rfl,rfl,rfl,rfl, ?_, ?_, ?_⟩;all_goals grind
 |o::os,i,A,fr,m,bA,m',h=>by
  have key:∀(v:as7) (bx:Mem) (k:Nat) (hG:Acc),PE P C ops o fr m v bx k->gT P C ops B (i+1) os hG (set fr o.dst v) bx bA m'->
    (∀x∈A.reads,x∈hG.reads)->(∀x∈A.gg,x∈hG.gg)->(k=2->(i,fun m=>eJ P (a6 fr) o m v)∈hG.reads)->(k=4->(i,m)∈hG.gg)->
    (k=2->∀x∈A.gg,fq B i x.1=as9->eJ P (a6 fr) o x.2 v)->(k=4->∀x∈A.reads,fq B i x.1=as9->x.2 bx)->(∀x∈A.news,x∈hG.news)->(k=3->(i,m.next)∈hG.news)->(k=4->∀x∈A.news,fq B i x.1=as9->bx.aS x.2=m.aS x.2)->
    ∃bl ms vs cD,vA P C ops B i (o::os) bl ms vs cD/\bl i=fr/\ms i=m/\bl (i+(o::os).length)=bA/\ms (i+(o::os).length)=m'/\
     (∀x∈A.reads,∀e,e<(o::os).length->cD (i+e)=4->fq B (i+e) x.1=as9->x.2 (ms (i+e+1)))/\
     (∀x∈A.gg,∀r o',(o::os)[r]? =as4 o'->cD (i+r)=2->fq B (i+r) x.1=as9->eJ P (a6 (bl (i+r))) o' x.2 (vs (i+r)))/\
     (∀x∈A.news,∀e,e<(o::os).length->cD (i+e)=4->fq B (i+e) x.1=as9->(ms (i+e+1)).aS x.2=(ms (i+e)).aS x.2):=by
   intro v bx k hG jk aQ arC arA qV gZ Ep su arB Up ar9;obtain ⟨bl,ms,vs,cD,au,U,aa,ao,aN,bI,eg,g7⟩:=Y4 os (i+1) hG _ _ _ _ aQ;refine ⟨fun n=>if n=i then fr else bl n,fun n=>if n=i then m else ms n,fun n=>if n=i then v else vs n,fun n=>if n=i then k else cD n,⟨?_, ?_, ?_, ?_, ?_⟩,by simp,by simp, ?_, ?_, ?_, ?_, ?_⟩
   ·intro n o' a2;cases n with
    |zero=>
     grind
    |succ n=>
     have bt:i+(n+1)=i+1+n:=by omega
     have:=au.frame n o' (by grind);rw[bt];simp only[show ¬(i+1+n+1=i) by omega,show ¬(i+1+n=i) by omega,if_false,this]
   ·intro n o' a2;cases n with
    |zero=>
     grind
    |succ n=>
     have bt:i+(n+1)=i+1+n:=by omega
     have:=au.run n o' (by grind);rw[bt];simp only[show ¬(i+1+n+1=i) by omega,show ¬(i+1+n=i) by omega,if_false]
     grind
   ·intro r e o' aF ar he jH Er j0;cases e with
    |zero=>omega
    |succ e=>
     have bt:i+(e+1)=i+1+e:=by omega
     rw[bt] at jH j0⊢;simp only[show ¬(i+1+e=i) by omega,if_false] at jH;simp only[show ¬(i+1+e+1=i) by omega,if_false];cases r with
     |zero=>simp only[avo,atj.injEq] at aF;subst aF;simp only[at2,if_pos] at ar j0⊢;exact bI _ (qV ar) e (by grind) jH j0
     |succ r=>
      have e2:i+(r+1)=i+1+r:=by omega
      rw[e2] at ar j0⊢;simp only[show ¬(i+1+r=i) by omega,if_false] at ar⊢;exact au.after r e o' (by grind) ar (by grind) jH (by omega) j0
   ·intro x e ad ar he jH sx j0;cases e with
    |zero=>omega
    |succ e=>
     have bt:i+(e+1)=i+1+e:=by omega
     rw[bt] at jH j0⊢;simp only[show ¬(i+1+e=i) by omega,if_false] at jH;simp only[show ¬(i+1+e+1=i) by omega,show ¬(i+1+e=i) by omega,if_false];cases x with
     |zero=>simp only[at2,if_pos] at ar j0⊢;exact g7 _ (Up ar) e (by grind) jH j0
     |succ x=>
      have e2:i+(x+1)=i+1+x:=by omega
      rw[e2] at ar j0⊢;simp only[show ¬(i+1+x=i) by omega,if_false] at ar⊢;exact au.news x e (by grind) ar (by grind) jH (by omega) j0
   ·intro r e o' aF ar he jH Er j0;cases r with
    |zero=>omega
    |succ r=>
     have e2:i+(r+1)=i+1+r:=by omega
     rw[e2] at ar j0⊢;simp only[show ¬(i+1+r=i) by omega,if_false] at ar⊢;cases e with
     |zero=>
      grind
     |succ e=>
      have bt:i+(e+1)=i+1+e:=by omega
      rw[bt] at jH j0⊢;simp only[show ¬(i+1+e=i) by omega,if_false] at jH⊢;exact au.ahead r e o' (by grind) ar (by grind) jH (by omega) j0
   ·grind
   ·grind
   ·intro x ad e he jH j0;cases e with
    |zero=>
     grind
    |succ e=>
     grind
   ·grind
   ·intro x ad e he jH j0;cases e with
    |zero=>
     grind
    |succ e=>
     have bt:i+(e+1)=i+1+e:=by omega
     rw[bt] at jH j0⊢;simp only[show ¬(i+1+e=i) by omega,if_false] at jH;simp only[show ¬(i+1+e+1=i) by omega,show ¬(i+1+e=i) by omega,if_false]
     grind
  simp only[gT] at h;split at h
  ·rename_i hw;rcases h with ⟨v,aL,aQ⟩|⟨v,aL,Nb,aQ⟩|⟨X,v,aL,aQ⟩|⟨v,bx,aL,Nb,ado,aQ⟩
   ·exact key v m 1 A (.inr (.inl ⟨rfl,hw,aL,rfl⟩)) aQ (fun _ h=>h) (fun _ h=>h) (by simp) (by simp) (by simp) (by simp) (fun _ h=>h) (by simp) (by simp)
   ·exact key v m 2 _ (.inr (.inr (.inl ⟨rfl,hw,aL,rfl⟩))) aQ (fun _ h=>by grind) (fun _ h=>h) (fun _=>by simp) (by simp) (fun _=>Nb) (by simp) (fun _ h=>h) (by simp) (by simp)
   ·exact key v _ 3 _ (.inr (.inr (.inr (.inl ⟨rfl,hw,X,aL,rfl⟩)))) aQ (fun _ h=>h) (fun _ h=>h) (by simp) (by simp) (by simp) (by simp) (fun _ h=>by grind) (fun _=>by simp) (by simp)
   ·exact key v bx 4 _ (.inr (.inr (.inr (.inr ⟨rfl,hw,aL⟩)))) aQ (fun _ h=>h) (fun _ h=>by grind) (by simp) (fun _=>by simp) (by simp) (fun _=>Nb) (fun _ h=>h) (by simp) (fun _=>ado)
  ·rename_i hw;exact key undef m 0 A (.inl ⟨rfl,by grind,rfl,rfl⟩) h (fun _ h=>h) (fun _ h=>h) (by simp) (by simp) (by simp) (by simp) (fun _ h=>h) (by simp) (by simp)
end Go.ay
end
section
namespace Go.ay
def uO (P:atb) (C:FuncId->Array as7->Mem->as7->Mem->Prop):Prop:=∀f args m v m',C f args m v m'->∀(j:bE) (w:World) (hc:Array as7),WF m->Rel P j m w->bp (cL j) args.toList hc.toList->
 (∃ fn, P.funcs[f]? = as4 fn ∧ (fn.name == "runtime.NumGoroutine") = as9 ∧ fn.body.isNone = as9) ∧
 Calls P f hc w fun e w'=>∃ba bZ,e= .returned ba/\Post P j m w bZ m' w'/\cL bZ v ba
theorem FW {j:bE} {n:Nat} (a0:∀b e,j b=as4 e->b<n) {v ba:as7}:(dD j v ba->g9 n v)/\(eX j v ba->hx n v)/\(cL j v ba->low n v):=by
 have ax:∀{R:as7->as7->Prop} {p:as7->Prop},(∀a b,R a b->p a)->∀{l k:List as7},bp R l k->∀v∈l,p v:=by
  intro R p aca l;induction l with
  |nil=>intro k _ v ab;simp at ab
  |cons a l aq=>
   intro k h v ab;cases k with
   |nil=>exact h.elim
   |cons b k=>
    rcases ats.1 ab with rfl|ab
    ·exact aca _ _ h.1
    ·exact aq h.2 v ab
 have bb:∀v ba:as7,jy j v ba->p5 n v:=by
  intro v ba h;unfold jy at h;split at h
  ·obtain ⟨e,_,h,_⟩:=h;exact a0 _ _ h
  ·exact h.elim
 have bg:∀{v ba:as7},dD j v ba->g9 n v:=by
  intro v ba h;cases v with
  |pointer a=>cases a with
   |none=>exact atm
   |some a=>obtain ⟨e,_,h,_⟩:=h;exact a0 _ _ h
  |slice a l c=>cases a with
   |none=>exact atm
   |some a=>obtain ⟨e,_,h,_⟩:=h;exact a0 _ _ h
  |map r=>cases r with
   |none=>exact atm
   |some r=>obtain ⟨e,h,_⟩:=h;exact a0 _ _ h
  |chan r=>cases r<;>exact h
  |func _ _ _=>obtain ⟨bt,ds,_,h⟩:=h;exact ⟨bt,ax (R:=jy j) (p:=p5 n) bb h⟩
  |iface _ _=>exact h
  |agg _=>exact h
  |tuple _=>exact h
  |_=>exact atm
 have U:∀{v ba:as7},eX j v ba->hx n v:=by
  intro v ba h;cases v with
  |agg cs=>obtain ⟨ds,_,h⟩:=h;exact ax (R:=dD j) (p:=g9 n) (fun a b=>bg) h
  |_=>simp only[eX] at h;simp only[hx];exact bg h
 refine ⟨bg,U, ?_⟩;intro h;cases v with
 |tuple cs=>obtain ⟨ds,_,h⟩:=h;exact ax (R:=eX j) (p:=hx n) (fun a b=>U) h
 |chan _=>trivial
 |func fn a b=>obtain ⟨gs,ds,_,h,ct⟩:=h;exact ⟨ax (R:=eX j) (p:=hx n) (fun a b=>U) h,ax (R:=eX j) (p:=hx n) (fun a b=>U) ct⟩
 |_=>simp only[cL] at h;simp only[low];exact U h
def bE.below (j:bE) (n:Nat):bE:=fun b=>if b<n then j b else as6
theorem pg {j:bE} {n b:Nat} {e:jS} (h:j.below n b=as4 e):b<n/\j b=as4 e:=by
 grind [bE.below]
theorem Fm {j:bE} {n b:Nat} {e:jS} (h:b<n) (a0:j b=as4 e):j.below n b=as4 e:=by grind [bE.below]
theorem wD {j:bE} {n:Nat} {v ba:as7}:(dD j v ba->g9 n v->dD (j.below n) v ba)/\(eX j v ba->hx n v->eX (j.below n) v ba)/\(cL j v ba->low n v->cL (j.below n) v ba):=by
 have j1:∀{R S:as7->as7->Prop} {p:as7->Prop},(∀a b,R a b->p a->S a b)->∀{l k:List as7},bp R l k->(∀v∈l,p v)->bp S l k:=by
  intro R S p ab' l;induction l with
  |nil=>intro k h _;cases k with|nil=>exact atm|cons _ _=>exact h.elim
  |cons a l aq=>
   intro k h aL;cases k with
   |nil=>exact h.elim
   |cons b k=>exact ⟨ab' _ _ h.1 (aL a (by simp)),aq h.2 fun v ab=>aL v (by simp[ab])⟩
 have bb:∀v ba:as7,jy j v ba->p5 n v->jy (j.below n) v ba:=by
  intro v ba h ax;unfold jy at h⊢;split at h
  ·obtain ⟨e,U,aa,ao⟩:=h;exact ⟨e,U,Fm ax aa,ao⟩
  ·exact h.elim
 have bg:∀{v ba:as7},dD j v ba->g9 n v->dD (j.below n) v ba:=by
  intro v ba h ax;cases v with
  |func _ _ _=>obtain ⟨bt,ds,e2,h⟩:=h;exact ⟨bt,ds,e2,j1 (R:=jy j) (S:=jy (j.below n)) (p:=p5 n) bb h ax.2⟩
  |pointer a=>cases a with
   |none=>exact h
   |some a=>obtain ⟨e,U,aa,ao⟩:=h;exact ⟨e,U,Fm ax aa,ao⟩
  |slice a l c=>cases a with
   |none=>exact h
   |some a=>obtain ⟨e,U,aa,ao⟩:=h;exact ⟨e,U,Fm ax aa,ao⟩
  |map r=>cases r with
   |none=>exact h
   |some r=>obtain ⟨e,aa,ao⟩:=h;exact ⟨e,Fm ax aa,ao⟩
  |_=>exact h
 have U:∀{v ba:as7},eX j v ba->hx n v->eX (j.below n) v ba:=by
  intro v ba h ax;cases v with
  |agg cs=>obtain ⟨ds,bt,h⟩:=h;exact ⟨ds,bt,j1 (R:=dD j) (S:=dD (j.below n)) (p:=g9 n) (fun a b=>bg) h ax⟩
  |_=>simp only[eX] at h⊢;simp only[hx] at ax;exact bg h ax
 refine ⟨bg,U, ?_⟩;intro h ax;cases v with
 |tuple cs=>obtain ⟨ds,bt,h⟩:=h;exact ⟨ds,bt,j1 (R:=eX j) (S:=eX (j.below n)) (p:=hx n) (fun a b=>U) h ax⟩
 |chan r=>cases r<;>exact h
 |func fn a b=>obtain ⟨gs,ds,bt,h,ct⟩:=h;exact ⟨gs,ds,bt,j1 (R:=eX j) (S:=eX (j.below n)) (p:=hx n) (fun a b=>U) h ax.1,j1 (R:=eX j) (S:=eX (j.below n)) (p:=hx n) (fun a b=>U) ct ax.2⟩
 |_=>simp only[cL] at h⊢;simp only[low] at ax;exact U h ax
theorem bp.mapA {aB bK oM:Type} {R:bK->oM->Prop} (f:aB->bK) (g:aB->oM) (A:Array aB) (h:∀x∈A.toList,R (f x) (g x)):bp R (A.map f).toList (A.map g).toList:=by
 grind [auA,bp.map]
theorem Vr {P : atb} {f : FuncId} {fn : Func} {args : Array as7} {w : World} (bd : P.funcs[f]? = as4 fn) (adb : (fn.name == "runtime.NumGoroutine") = as9) (acj : fn.body.isNone = as9) : (callFunc f args).run P w = .ok (.enter f args) w := by
 grind [callFunc,atE,run_program,atz,atK]
theorem X0 {P:atb} {C:FuncId->Array as7->Mem->as7->Mem->Prop} {j:bE} {af:atd->as7} {o:Oper} {m m':Mem} {w:World} {v:as7} {a:Act} (h:gI P C af o m v m') (bN:hb j af a.eval o) (ch:Rel P j m w) (dO:WF m) (ke:uO P C)
  {K:Act->World->Prop} {Q:Exit->Act->World->Prop} (fy:∀ba w' bZ,Post P j m w bZ m' w'->cL bZ v ba->K (a.put o.dst ba) w'):o.wp P a w K Q:=by
 rcases ahb h bN ch with ⟨n,ba,w',bZ,aF,a2,aL,ab⟩|⟨f,args,ah,ca⟩
 ·unfold auh;rw[aF];rcases a2 with rfl|⟨rfl,rfl⟩
  ·exact fy ba w' bZ aL ab
  ·exact fy undef w' bZ aL ab
 ·obtain ⟨x,as,ts,first,captured,oi,ad,rfl⟩:=ah;have cB:=bN x (by grind [atg,atL]);rw[ad] at cB;obtain ⟨gs,ds,ee,U,aa⟩:=cB;have tJ:bp (cL j) (first++as.map af++captured).toList (gs++as.map a.eval++ds).toList:=by
   simp only[avK];refine bp.append (bp.append (U.mono fun _ _=>cL.um) (bp.mapA _ _ _ fun y aJ=> ?_)) (aa.mono fun _ _=>cL.um);exact bN y (by grind [atg,atL])
  obtain ⟨⟨fn,bd,adb,acj⟩,acn⟩:=ke _ _ _ _ _ ca j w _ dO ch tJ;have jk:(execOp a.eval o).run P w= .ok (.enter f (gs++as.map a.eval++ds)) w:=by
   grind [execOp,resolve,Deferred.ofValue,invoke,Vr]
  unfold auh;rw[jk,Oper.upon_enter];refine acn.mono ?_
  grind
end Go.ay
end
section
namespace Go.ay
theorem ag' {ops:Array Oper} (h:sQ ops=as5) {i:Nat} {o:Oper} (an:ops[i]? =as4 o) {e:Edge} (he:e∈o.after) (ag:aup .any e=as5):e.on<i:=by
 grind [sQ]
theorem N0 {ops:Array Oper} (h:sQ ops=as5) {i x:Nat} {o y:Oper} (an:ops[i]? =as4 o) (aJ:ops[x]? =as4 y) (ad:x<i) (ah:qN ops y o=as5):fq (atI ops) i x=as5:=by
 grind [sQ]
def FZ (ops:Array Oper) (S:Nat->Prop):Prop:=∀a o,S a->ops[a]? =as4 o->∀e∈o.after,aup .any e=as5->S e.on
def rC (acc:Array Nat) (o:Oper):Array Nat:=acc.push (o.after.foldl (fun s e=>if aup .any e then s|||2 ^ e.on|||acc.getD e.on 0 else s) 0)
def Good (ops:Array Oper) (i bits:Nat):Prop:=∀x,bits.testBit x=as5->∀S,FZ ops S->(∀o,ops[i]? =as4 o->∀e∈o.after,aup .any e=as5->S e.on)->S x
theorem Wk (acc:Array Nat):∀(l:List Edge) (s x:Nat),(l.foldl (fun s e=>if aup .any e then s|||2 ^ e.on|||acc.getD e.on 0 else s) s).testBit x=as5->
  s.testBit x=as5\/∃e∈l,aup .any e=as5/\(x=e.on\/(acc.getD e.on 0).testBit x=as5)
 |[],s,x,h=> .inl h
 |e::l,s,x,h=>by
  simp only[List.foldl_cons] at h;rcases Wk acc l _ x h with h|⟨b0,Ud,ag,ad⟩
  ·grind
  grind
theorem VA {ops:Array Oper}:∀(l pre:List Oper) (acc:Array Nat),ops.toList=pre++l->acc.size=pre.length->(∀i,i<acc.size->Good ops i (acc.getD i 0))->
  ∀i,Good ops i ((l.foldl rC acc).getD i 0)
 |[],pre,acc,aL,aE,a5=>by
  intro i;by_cases aj:i<acc.size
  ·grind
  ·simp only[List.foldl_nil];intro x ad
   grind
 |o::l,pre,acc,aL,aE,a5=>by
  simp only[List.foldl_cons];refine VA l (pre++[o]) (rC acc o) (by grind) (by grind [rC]) ?_;intro i aj;by_cases h:i<acc.size
  ·simp_all [rC,Array.getElem_push]
  ·have acQ:i=acc.size:=by grind [rC]
   subst acQ;have adp:ops[acc.size]? =as4 o:=by rw[<-au8,aL,aE];simp
   intro x ad S ke aQ;have ag:(rC acc o).getD acc.size 0=o.after.foldl (fun s e=>if aup .any e then s|||2 ^ e.on|||acc.getD e.on 0 else s) 0:=by simp[rC,Array.getD]
   rw[ag,<-Array.foldl_toList] at ad;rcases Wk acc _ 0 x ad with bg|⟨e,he,ga,sx⟩
   ·grind
   ·have adP:=aQ o adp e (by grind) ga;rcases sx with rfl|sx
    ·grind
    ·by_cases bS:e.on<acc.size
     ·exact a5 e.on bS x sx S ke fun o' kC b0 Ud ej=>ke e.on o' adP kC b0 Ud ej
     grind
theorem VG {ops:Array Oper} {i x:Nat} (h:fq (atI ops) i x=as5) {S:Nat->Prop} (ke:FZ ops S) (aQ:∀o,ops[i]? =as4 o->∀e∈o.after,aup .any e=as5->S e.on):S x:=by
 have ag:atI ops=ops.toList.foldl rC #[]:=by rw[show atI ops=ops.foldl rC #[] from rfl,<-Array.foldl_toList]
 have:=VA (ops:=ops) ops.toList [] #[] (by rfl) (by rfl) (by grind) i;rw[<-ag] at this;exact this x h S ke aQ
theorem OO {P:atb} {C:FuncId->Array as7->Mem->as7->Mem->Prop} {ops:List Oper} {B:Array Nat} {bl:Nat->Nat->as7} {ms:Nat->Mem} {vs:Nat->as7} {cD:Nat->Nat} (T:vA P C ops B 0 ops bl ms vs cD)
  (ca:nK C) (cB:∀o∈ops,∀x∈o.op.operands,lT x=as5) (bg:WF (ms 0)) (ax:∀t,low (ms 0).next (bl 0 t)):∀i,i<=ops.length->WF (ms i)/\(∀t,low (ms i).next (bl i t))/\(∀n,n<i->(ms n).next<=(ms (n+1)).next/\low (ms (n+1)).next (vs n))
 |0,_=>⟨bg,ax,fun n a2=>by omega⟩
 |i+1,aj=>by
  obtain ⟨U,aa,ao⟩:=OO T ca cB bg ax i (by omega);have an:ops[i]? =as4 ops[i]:=by grind
  have aF:=T.run i ops[i] an;have bd:=T.frame i ops[i] an;simp only[atB] at aF bd;have hm:=cB ops[i] (by simp);have step:low (ms (i+1)).next (vs i)/\WF (ms (i+1))/\(ms i).next<=(ms (i+1)).next:=by
   rcases aF with ⟨_,_,ab,kj⟩|⟨_,_,aL,kj⟩|⟨_,_,aL,kj⟩|⟨_,_,hK,aL,kj⟩|⟨_,_,aL⟩
   ·grind [Ff]
   ·rw[kj];exact uG (.pure aL) U aa ca hm
   ·rw[kj];exact uG (.read aL) U aa ca hm
   ·rw[kj];exact uG (.new aL) U aa ca hm
   ·exact uG (.e4 aL) U aa ca hm
  refine ⟨step.2.1, ?_, ?_⟩
  ·rw[bd]
   grind [zc,Ou]
  grind
theorem VE {ms:Nat->Mem} {vs:Nat->as7} {k:Nat} (h:∀n,n<k->(ms n).next<=(ms (n+1)).next/\low (ms (n+1)).next (vs n)):∀b a,a<=b->b<=k->(ms a).next<=(ms b).next
 |0,a,U,aa=>by grind
 |b+1,a,U,aa=>by
  by_cases e:a=b+1
  ·grind
  ·exact atx (VE h b a (by omega) (by omega)) (h b (by omega)).1
theorem N9 {P:atb} {C:FuncId->Array as7->Mem->as7->Mem->Prop} {ops:List Oper} {B:Array Nat} {bl:Nat->Nat->as7} {ms:Nat->Mem} {vs:Nat->as7} {cD:Nat->Nat} (T:vA P C ops B 0 ops bl ms vs cD) (t:Nat):
  ∀i,i<=ops.length->((∃x o,x<i/\ops[x]? =as4 o/\o.dst=as4 t/\bl i t=vs x/\∀y p,x<y->y<i->ops[y]? =as4 p->p.dst≠as4 t)\/
   ((∀x o,x<i->ops[x]? =as4 o->o.dst≠as4 t)/\bl i t=bl 0 t))
 |0,_=> .inr ⟨fun x o ad=>by omega,rfl⟩
 |i+1,aj=>by
  have an:ops[i]? =as4 ops[i]:=by grind
  have bd:=T.frame i ops[i] an;simp only[atB] at bd;by_cases aQ:ops[i].dst=as4 t
  ·left;refine ⟨i,ops[i],by omega,an,aQ, ?_,fun y p U aa=>by omega⟩
   grind [set]
  ·have he:bl (i+1) t=bl i t:=by
    rw[bd];cases kP:ops[i].dst with
    |none=>rfl
    |some d=>
     grind [set]
   rcases N9 T t i (by omega) with ⟨x,o,U,aa,ao,aN,bI⟩|⟨U,aa⟩
   ·grind
   grind
theorem E3 {P:atb} {C:FuncId->Array as7->Mem->as7->Mem->Prop} {ops:List Oper} {B:Array Nat} {bl:Nat->Nat->as7} {ms:Nat->Mem} {vs:Nat->as7} {cD:Nat->Nat} (T:vA P C ops B 0 ops bl ms vs cD) {s:Nat}:
  ∀z,s<=z->z<=ops.length->(∀e,s<=e->e<z->cD e≠4)->(∀b,b<(ms s).next->(ms z).aS b=(ms s).aS b)/\
   (∀x,s<=x->x<z->cD x=3->∀o hK,ops[x]? =as4 o->ms (x+1)=(ms x).push hK->(ms z).aS (ms x).next=hK)/\(∀x,s<=x->x<z->(ms x).next<=(ms z).next/\(cD x=3->(ms x).next<(ms z).next))
 |z,b6,a4,ep=>by
  induction z with
  |zero=>
   have:s=0:=by omega
   subst this;exact ⟨fun _ _=>rfl,fun x U aa=>by omega,fun x U aa=>by omega⟩
  |succ z aq=>
   by_cases aE:s=z+1
   ·subst aE;exact ⟨fun _ _=>rfl,fun x U aa=>by omega,fun x U aa=>by omega⟩
   ·obtain ⟨U,aa,ao⟩:=aq (by omega) (by omega) (fun e tL arO=>ep e tL (by omega));have an:ops[z]? =as4 ops[z]:=by grind
    have aF:=T.run z ops[z] an;simp only[atB] at aF;have UG:(ms s).next<=(ms z).next:=by
     grind
    have same:ms (z+1)=ms z->cD z≠3->(∀b,b<(ms s).next->(ms (z+1)).aS b=(ms s).aS b)/\(∀x,s<=x->x<z+1->cD x=3->∀o hK,ops[x]? =as4 o->ms (x+1)=(ms x).push hK->(ms (z+1)).aS (ms x).next=hK)/\(∀x,s<=x->x<z+1->(ms x).next<=(ms (z+1)).next/\(cD x=3->(ms x).next<(ms (z+1)).next)):=fun he ar=>⟨fun b ag=>by grind,
     fun x Ex Ns lN o hK oi hm=>by
      grind,
     fun x Ex Ns=>by
      grind⟩
    rcases aF with ⟨ar,_,ab,kj⟩|⟨ar,_,aL,kj⟩|⟨ar,_,aL,kj⟩|⟨ar,_,hK,aL,kj⟩|⟨ar,_,aL⟩
    ·grind
    ·grind
    ·grind
    ·refine ⟨fun b ag=> ?_,fun x Ex Ns lN o xQ oi hm=> ?_,fun x Ex Ns=> ?_⟩
     ·grind [Mem.push]
     ·grind [Mem.push]
     grind [Mem.push]
    grind
end Go.ay
end
section
namespace Go.ay
theorem Rel.place {P:atb} {j:bE} {M:Mem} {w w':World} {eT:Nat} {X:bm} {e:jS} {ob:Obj} (h:Rel P j M w) (a2:j eT=as6) (ag:eT<M.next) (N:xG P j w w' X e ob):
  Rel P (j.up eT e) (M.put eT X) w':=by
 have hle:=bE.Cp (e:=e) a2;have hold:∀c,c<w.heap.size->w'.heap[c]? =w.heap[c]? :=fun c ah=>by rw[N.heap,auD,if_neg (by omega)]
 have Np:w'.heap.size=w.heap.size+1:=by rw[N.heap];simp
 have lR:w'.heap[w.heap.size]? =as4 ob:=by rw[N.heap];simp
 have fV:∀b,b≠eT->(M.put eT X).aS b=M.aS b:=fun b ag=>by grind [Mem.put]
 have adC:(M.put eT X).aS eT=X:=by simp[Mem.put]
 have fF:∀b x,j.up eT e b=as4 x->b≠eT->j b=as4 x:=fun b x ag ep=>by grind [bE.up]
 have qZ:∀x,j.up eT e eT=as4 x->x=e:=fun x ad=>by grind [bE.up]
 refine ⟨⟨?_, ?_, ?_⟩,h.kq.val.keep fun g a5=>hold g (h.kq.val.lt a5),fun b x ej an a5=> ?_⟩
 rotate_right
 ·by_cases ga:b=eT
  ·subst ga;have:=h.kq.val.lt a5;rw[qZ x ej,N.aS] at this;omega
  ·rw[fV b ga] at an;exact h.kq.sep b x (fF b x ej ga) an a5
 ·intro b x ej;by_cases ga:b=eT
  ·subst ga;have:=qZ x ej;subst this;exact ⟨ag,by rw[N.aS];omega⟩
  ·have:=h.lt b x (fF b x ej ga);exact ⟨this.1,by omega⟩
 ·intro b x ej;by_cases ga:b=eT
  ·subst ga;have ad:=qZ x ej;subst ad;rw[adC,N.aS,lR];exact N.obj.mono hle
  ·have jG:=fF b x ej ga;rw[fV b ga,hold _ (h.lt b x jG).2];exact (h.obj b x jG).mono hle
 ·intro b cR x ha D7 T7 an gn lh;by_cases ga:b=eT
  ·by_cases lL:cR=eT
   ·grind
   ·have ad:x=e:=by grind
    have:=(h.lt cR ha (fF cR ha T7 lL)).2;rw[<-lh,ad,N.aS] at this;omega
  ·have jG:=fF b x D7 ga;by_cases lL:cR=eT
   ·have ad:ha=e:=by grind
    have:=(h.lt b x jG).2;rw[lh,ad,N.aS] at this;omega
   ·rw[fV b ga] at an;rw[fV cR lL] at gn;exact h.inj b cR x ha jG (fF cR ha T7 lL) an gn lh
theorem ag1 {P:atb} {j:bE} {n:Nat} {bc:atc} {cs:List as7} {ba:as7} (h:eX j (dY (dG P bc) cs) ba) (ax:∀c∈cs,g9 n c):eX (j.below n) (dY (dG P bc) cs) ba:=by
 refine wD.2.1 h ?_;cases aY:dG P bc with
 |true=>grind [dY,hx]
 |false=>
  cases cs with
  |nil=>grind [dY,eX,dD,undef]
  |cons c cs=>exact Fw (ax c (by simp))
theorem n1.below {P:atb} {j:bE} {n:Nat} {e:jS} {o:Option Obj} {x:bm} (h:n1 P j e o x) (ax:o8 n x):n1 P (j.below n) e o x:=by
 cases x with
 |dead=>trivial
 |ro rd=>intro i v aj;obtain ⟨cs,t,bi,ba,U,aa,ao⟩:=h i v aj;exact ⟨cs,t,bi,ba,U,aa,wD.1 ao (ax i v aj)⟩
 |own L t=>obtain ⟨cs,bi,U,aa,ao,aN,bI,eg⟩:=h;refine ⟨cs,bi,U,aa,ao,aN,bI,fun i v aj=> ?_⟩;obtain ⟨ba,aU,aO⟩:=eg i v aj;exact ⟨ba,aU,wD.1 aO (ax v (at3 aj))⟩
 |lock _ _ _ _=>exact h.elim
 |map L u=>
  obtain ⟨bh,bc,cs,clock,E,U,aa,ao,aN,bI⟩:=h;have a1:∀p∈E,∀c∈p.2,g9 n c:=fun p aL c ah=>ax c (by rw[ao.eq];grind);refine ⟨bh,bc,cs,clock,E,U,aa,ao, ?_,bI⟩;clear U ao ax bI;generalize cs.toList=kc at aN;induction E generalizing kc with
  |nil=>cases kc with
   |nil=>trivial
   |cons _ _=>exact aN.elim
  |cons p E aq=>
   cases kc with
   |nil=>exact aN.elim
   |cons x kc=>exact ⟨⟨aN.1.1,aN.1.2.1,ag1 aN.1.2.2 (a1 p (by simp))⟩,aq (fun q bb=>a1 q (by grind)) kc aN.2⟩
theorem Rel.below {P:atb} {j:bE} {M m:Mem} {w:World} (h:Rel P j M w) (dO:WF m) (aY:∀b e,j b=as4 e->b<m.next->M.aS b=m.aS b):Rel P (j.below m.next) m w:=by
 refine ⟨⟨?_, ?_, ?_⟩,h.kq.val,fun b e ag an=>by obtain ⟨U,aa⟩:=pg ag;exact h.kq.sep b e aa (by grind)⟩
 ·intro b e ag;obtain ⟨U,aa⟩:=pg ag;exact ⟨U,(h.lt b e aa).2⟩
 ·intro b e ag;obtain ⟨U,aa⟩:=pg ag;rw[<-aY b e aa U];exact (h.obj b e aa).below (by rw[aY b e aa U];exact dO.low b)
 ·intro b cR e b0 ag ej an ax sm;obtain ⟨U,aa⟩:=pg ag;obtain ⟨mL,lJ⟩:=pg ej;exact h.inj b cR e b0 aa lJ (by grind) (by grind) sm
def bE.join (g1:bE) (n:Nat) (j:bE):bE:=fun b=>if b<n then g1 b else j b
def Mem.join (bx:Mem) (M:Mem):Mem:={next:=M.next,aS:=fun b=>if b<bx.next then bx.aS b else M.aS b}
theorem Rel.join {P:atb} {j g1:bE} {M m bx:Mem} {w w':World} (h:Rel P j M w) (aY:∀b e,j b=as4 e->b<m.next->M.aS b=m.aS b) (p:Post P (j.below m.next) m w g1 bx w')
  (a5:∀b e,j b=as4 e->b<m.next\/bx.next<=b) (D8:bx.next<=M.next):
  Rel P (g1.join bx.next j) (bx.join M) w'/\(∀b e,j b=as4 e->g1.join bx.next j b=as4 e)/\(∀b e,g1 b=as4 e->g1.join bx.next j b=as4 e):=by
 have a2:=p.next;have xd:∀b e,g1 b=as4 e->g1.join bx.next j b=as4 e:=fun b e ag=>by
  have:=(p.rel.lt b e ag).1
  grind [bE.join]
 have asr:∀b,b<m.next->g1 b=j b:=fun b ag=>by rw[p.ext b ag];grind [bE.below]
 have up:∀b e,j b=as4 e->g1.join bx.next j b=as4 e:=fun b e ag=>by
  grind [bE.join]
 have split:∀b e,g1.join bx.next j b=as4 e->(b<bx.next/\g1 b=as4 e)\/(bx.next<=b/\j b=as4 e):=fun b e ag=>by
  grind [bE.join]
 have Dy:∀b,b<bx.next->(bx.join M).aS b=bx.aS b:=fun b ag=>by grind [Mem.join]
 have Dz:∀b,bx.next<=b->(bx.join M).aS b=M.aS b:=fun b ag=>by grind [Mem.join]
 have TL:∀b e,j b=as4 e->bx.next<=b->(M.aS b).live=as5->w'.heap[e.aS]? =w.heap[e.aS]? :=fun b e ag gK ax=>by refine p.eY.block e.aS (h.lt b e ag).2 fun eT fb oW an he=> ?_;obtain ⟨U,aa⟩:=pg oW;have:=h.inj eT b fb e aa ag (by grind) ax he;omega
 refine ⟨⟨⟨?_, ?_, ?_⟩,p.rel.kq.val,fun b e ag an=> ?_⟩,up,xd⟩
 rotate_right
 ·rcases split b e ag with ⟨U,aa⟩|⟨U,aa⟩
  ·rw[Dy b U] at an;exact p.rel.kq.sep b e aa an
  ·rw[Dz b U] at an;exact h.kq.sep b e aa an
 ·intro b e ag;rcases split b e ag with ⟨U,aa⟩|⟨U,aa⟩
  ·exact ⟨by grind [Mem.join],(p.rel.lt b e aa).2⟩
  ·have:=h.lt b e aa;exact ⟨this.1,atu this.2 p.eY.size⟩
 ·intro b e ag;rcases split b e ag with ⟨U,aa⟩|⟨U,aa⟩
  ·rw[Dy b U];exact (p.rel.obj b e aa).mono xd
  ·rw[Dz b U];cases ax:(M.aS b).live with
   |false=>
    cases ag:M.aS b<;>simp[ag,bm.live] at ax
    trivial
   |true=>rw[TL b e aa U ax];exact (h.obj b e aa).mono up
 ·
  have ari:∀b cR e b0,b<bx.next->g1 b=as4 e->bx.next<=cR->j cR=as4 b0->(M.aS cR).live=as5->(((bx.aS b).h4=as5)\/((M.aS cR).h4=as5/\(bx.aS b).live=as5))->e.aS≠b0.aS:=by
   intro b cR e b0 U aa mL lJ gn Ng sm;rcases atV b m.next with bS|gK
   ·have jG:j b=as4 e:=by grind
    have arI:b=cR:=by
     rcases Ng with an|⟨kC,ax⟩
     ·exact h.inj b cR e b0 jG lJ (by rw[aY b e jG bS];exact p.dN b bS an) gn sm
     ·exact (h.inj cR b b0 e lJ jG kC (by rw[aY b e jG bS];exact p.alive b bS ax) sm.symm).symm
    omega
   ·rcases p.fresh b e aa gK with bd|⟨eT,fb,oW,tV,Ue⟩
    ·have:=(h.lt cR b0 lJ).2;omega
    ·obtain ⟨aU,aO⟩:=pg oW;have:=h.inj eT cR fb b0 aO lJ (by grind) gn (by grind);omega
  intro b cR e b0 ag ej an ax sm;rcases split b e ag with ⟨U,aa⟩|⟨U,aa⟩<;>rcases split cR b0 ej with ⟨mL,lJ⟩|⟨mL,lJ⟩
  ·rw[Dy b U] at an;rw[Dy cR mL] at ax;exact p.rel.inj b cR e b0 aa lJ an ax sm
  ·grind
  ·grind [bm.h4,bm.live]
  ·rw[Dz b U] at an;rw[Dz cR mL] at ax;exact h.inj b cR e b0 aa lJ an ax sm
end Go.ay
end
section
namespace Go.ay
structure Ctx (P:atb) (C:FuncId->Array as7->Mem->as7->Mem->Prop) (ops:Array Oper) (N:Nat) (bl:Nat->Nat->as7) (ms:Nat->Mem) (vs:Nat->as7) (cD:Nat->Nat) (fz:bE) (bR:World):Prop where
 T:vA P C ops.toList (atI ops) 0 ops.toList bl ms vs cD
 ok:sQ ops=as5
 EX:∀o∈ops.toList,∀x∈o.op.operands,lT x=as5
 dst:∀o∈ops.toList,∀d,o.dst=as4 d->d<N
 keeps:nK C
 sound:uO P C
 dJ:Rel P fz (ms 0) bR
 JL:WF (ms 0)
 g9:∀t,low (ms 0).next (bl 0 t)
structure gX (P:atb) (ops:Array Oper) (ds:List Deferred) (N:Nat) (bl:Nat->Nat->as7) (ms:Nat->Mem) (vs:Nat->as7) (cD:Nat->Nat) (fz:bE) (bR:World) (listed:Array Bool) (a:Act) (w:World) (s:Nat) (M:Mem) (j:bE):Prop where
 size:listed.size=ops.size
 closed:FZ ops (fun i=>listed.getD i as9=as5)
 sle:s<=ops.size
 last:s=0\/cD (s - 1)=4
 gg:∀i,i<ops.size->cD i=4->(listed.getD i as9=as5↔i<s)
 rel:Rel P j M w
 xV:M.next=(ms ops.size).next
 vD:∀b,b<(ms s).next->M.aS b=(ms s).aS b
 DH:∀b e,j b=as4 e->b<(ms s).next\/∃i,s<=i/\i<ops.size/\listed.getD i as9=as5/\cD i=3/\b=(ms i).next
 vg:∀i,i<ops.size->cD i=3->listed.getD i as9=as9->j (ms i).next=as6
 DQ:∀i,s<=i->i<ops.size->listed.getD i as9=as5->cD i=3->∀hK,ms (i+1)=(ms i).push hK->M.aS (ms i).next=hK
 defers:a.defers=ds
 tmps:a.tmps.size=N
 cur:∀t,(∃i o,ops[i]? =as4 o/\listed.getD i as9=as5/\o.dst=as4 t/\(∀x p,i<x->ops[x]? =as4 p->listed.getD x as9=as5->p.dst≠as4 t)/\cL j (vs i) (a.tmps.getD t undef))\/
  ((∀x p,ops[x]? =as4 p->listed.getD x as9=as5->p.dst≠as4 t)/\cL j (bl 0 t) (a.tmps.getD t undef))
 eY:qG fz (ms 0) bR w
 ext:∀b,b<(ms 0).next->j b=fz b
 fresh:∀b e,j b=as4 e->(ms 0).next<=b->bR.heap.size<=e.aS\/∃eT fb,fz eT=as4 fb/\((ms 0).aS eT).h4=as5/\fb.aS=e.aS
 dN:∀b,b<(ms 0).next->(M.aS b).h4=as5->((ms 0).aS b).h4=as5
 alive:∀b,b<(ms 0).next->(M.aS b).live=as5->((ms 0).aS b).live=as5
section
variable {P:atb} {C:FuncId->Array as7->Mem->as7->Mem->Prop} {ops:Array Oper} {N:Nat} {bl:Nat->Nat->as7} {ms:Nat->Mem} {vs:Nat->as7} {cD:Nat->Nat} {fz:bE} {bR:World}
theorem Ctx.wf (X:Ctx P C ops N bl ms vs cD fz bR):∀i,i<=ops.size->WF (ms i)/\(∀t,low (ms i).next (bl i t)):=fun i aj=>by
 have:=OO X.T X.keeps X.EX X.JL X.g9 i (by grind)
 grind
theorem Ctx.mono (X:Ctx P C ops N bl ms vs cD fz bR):∀a b,a<=b->b<=ops.size->(ms a).next<=(ms b).next:=fun a b U aa=>by
 have:=OO X.T X.keeps X.EX X.JL X.g9 ops.size (by simp);exact VE this.2.2 b a U aa
theorem Ctx.run (X:Ctx P C ops N bl ms vs cD fz bR) {i:Nat} {o:Oper} (an:ops[i]? =as4 o):PE P C ops.toList o (bl i) (ms i) (vs i) (ms (i+1)) (cD i):=by
 have:=X.T.run i o (by grind)
 grind
theorem Ctx.new (X:Ctx P C ops N bl ms vs cD fz bR) {i:Nat} (aj:i<ops.size) (ar:cD i=3):∃o hK,ops[i]? =as4 o/\ij P (a6 (bl i)) o (ms i).next hK (vs i)/\ms (i+1)=(ms i).push hK:=by
 have an:ops[i]? =as4 ops[i]:=by grind
 rcases X.run an with ⟨lN,_⟩|⟨lN,_⟩|⟨lN,_⟩|⟨_,_,hK,aL,hm⟩|⟨lN,_⟩
 ·omega
 ·omega
 ·omega
 ·grind
 grind
theorem Ctx.yH (X:Ctx P C ops N bl ms vs cD fz bR) {i:Nat} (aj:i<ops.size) (ar:cD i=3):(ms i).next<(ms (i+1)).next:=by
 obtain ⟨o,hK,_,_,hm⟩:=X.new aj ar
 grind [Mem.push]
theorem Od {af:atd->as7} {o:Oper} {m m':Mem} {v:as7} (h:gI P C af o m v m'):kp o.op=as5:=by
 cases h with
 |call f args v m' h ca=>obtain ⟨x,as,ts,first,captured,h,_⟩:=h;grind [kp]
 |mapUpdate fh x gC gj u bh bc b L eb vc E E' g6 h=>grind [kp]
 |_=>grind [kp]
 all_goals simp[*,kp]
theorem Ctx.UQ (X:Ctx P C ops N bl ms vs cD fz bR) {i:Nat} {o:Oper} (an:ops[i]? =as4 o) (ar:cD i=4):kp o.op=as5:=by
 rcases X.run an with ⟨lN,_⟩|⟨lN,_⟩|⟨lN,_⟩|⟨lN,_⟩|⟨_,_,aL⟩
 ·omega
 ·omega
 ·omega
 ·omega
 grind [Od]
variable {ds:List Deferred} {listed:Array Bool} {a:Act} {w:World} {s:Nat} {M:Mem} {j:bE}
theorem gX.LQ (X:Ctx P C ops N bl ms vs cD fz bR) (D:gX P ops ds N bl ms vs cD fz bR listed a w s M j) {z:Nat} (b6:s<=z) (a4:z<=ops.size) (ep:∀e,s<=e->e<z->cD e≠4):
  ∀b e,j b=as4 e->b<(ms z).next->M.aS b=(ms z).aS b:=by
 obtain ⟨aU,aO,bT⟩:=E3 X.T z b6 (by grind) ep;intro b e ag bS;rcases atV b (ms s).next with h|h
 ·rw[D.vD b h,aU b h]
 ·rcases D.DH b e ag with ct|⟨i,U,aa,ao,aN,rfl⟩
  ·omega
  ·have acR:i<z:=by
    rcases atV i z with h|h
    ·grind
    ·have:=X.mono z i h (by omega);omega
   obtain ⟨o,hK,an,_,hm⟩:=X.new aa aN;rw[D.DQ i U aa ao aN hK hm,aO i U acR aN o hK (by grind) hm]
theorem gX.mu (X:Ctx P C ops N bl ms vs cD fz bR) (D:gX P ops ds N bl ms vs cD fz bR listed a w s M j) {z:Nat} (b6:s<=z) (a4:z<=ops.size) (ep:∀e,s<=e->e<z->cD e≠4):r2 P j (ms z) w:=by
 have dW:=D.LQ X b6 a4 ep;have dO:=(X.wf z a4).1;have aF:=D.rel.mu;refine ⟨fun b e o v ag ab=> ?_,fun b e L t ag ax=> ?_,fun b e L u ag ax=> ?_,aF.kq⟩
 ·have bS:b<(ms z).next:=dO.lt (by intro aQ;simp[Mem.load,aQ] at ab);refine aF.load b e o v ag ?_;unfold Mem.load at ab⊢;rw[dW b e ag bS];exact ab
 ·have bS:b<(ms z).next:=dO.lt (by rw[ax];simp);exact aF.own b e L t ag (by rw[dW b e ag bS];exact ax)
 ·have bS:b<(ms z).next:=dO.lt (by rw[ax];simp);exact aF.map b e L u ag (by rw[dW b e ag bS];exact ax)
structure lA (ops:Array Oper) (listed:Array Bool) (i:Nat) (o:Oper):Prop where
 at_:ops[i]? =as4 o
 not:listed.getD i as9=as9
 TB:∀e∈o.after,aup .any e=as5->listed.getD e.on as9=as5
theorem lA.fq (D:gX P ops ds N bl ms vs cD fz bR listed a w s M j) {i:Nat} {o:Oper} (R:lA ops listed i o) {x:Nat} (h:ay.fq (atI ops) i x=as5):listed.getD x as9=as5:=
 VG h D.closed fun o' kC=>by rw[R.at_] at kC;cases kC;exact R.TB
theorem gX.LR (D:gX P ops ds N bl ms vs cD fz bR listed a w s M j) {i x:Nat} (aj:listed.getD i as9=as5) (h:ay.fq (atI ops) i x=as5):listed.getD x as9=as5:=
 VG h D.closed fun o' kC=>D.closed i o' aj kC
theorem lA.ZG (X:Ctx P C ops N bl ms vs cD fz bR) (D:gX P ops ds N bl ms vs cD fz bR listed a w s M j) {i:Nat} {o:Oper} (R:lA ops listed i o) {t:Nat} (au:t∈sL ops o) {x:Nat} {p:Oper} (aL:ops[x]? =as4 p) (aQ:p.dst=as4 t):
  (listed.getD x as9=as5↔x<i)\/x=i:=by
 rcases avC x i with h|h|h
 ·left;refine ⟨fun _=>h,fun _=> ?_⟩;refine R.fq D (N0 X.ok R.at_ aL h ?_)
  grind [qN]
 ·grind
 ·left;refine ⟨fun ax=> ?_,fun ct=>by omega⟩;have:listed.getD i as9=as5:=D.LR ax (N0 X.ok aL R.at_ h (by grind [qN]));rw[R.not] at this
  grind
theorem gX.slot (X:Ctx P C ops N bl ms vs cD fz bR) (D:gX P ops ds N bl ms vs cD fz bR listed a w s M j) {i:Nat} {o:Oper} (R:lA ops listed i o) {t:Nat} (au:t∈sL ops o):cL j (bl i t) (a.tmps.getD t undef):=by
 have aj:i<ops.size:=(auI.1 R.at_).1;have hw:=fun {x:Nat} {p:Oper} (aL:ops[x]? =as4 p) (aQ:p.dst=as4 t)=>R.ZG X D au aL aQ;have qZ:∀{x:Nat},x=i->listed.getD x as9=as5->False:=fun ad ax=>by subst ad;rw[R.not] at ax;grind
 rcases N9 X.T t i (by grind) with ⟨x,p,U,aa,ao,aN,bI⟩|⟨U,aa⟩
 ·have lJ:ops[x]? =as4 p:=by grind
  have M4:listed.getD x as9=as5:=by
   grind
  rcases D.cur t with ⟨y,q,aU,aO,bT,cP,eG⟩|⟨aU,_⟩
  ·grind [avC]
  grind
 ·rcases D.cur t with ⟨y,q,aU,aO,bT,cP,eG⟩|⟨_,aO⟩
  ·grind
  grind
theorem Pj {fr:Nat->as7} {a:Act} {j:bE} {x:atd} (ad:lT x=as5) (h:∀t,x= .tmp t->cL j (fr t) (a.tmps.getD t undef)):cL j (a6 fr x) (a.eval x):=by
 cases x with
 |tmp t=>exact h t rfl
 |const v=>exact Oh ad
 |global g=>show as7.pointer _=_;rw[show g*4096 / 4096=g by omega,show g*4096%4096=0 by omega]
 |func f=>exact ⟨#[],#[],rfl,atm,atm⟩
theorem gX.aey (X:Ctx P C ops N bl ms vs cD fz bR) (D:gX P ops ds N bl ms vs cD fz bR listed a w s M j) {i:Nat} {o:Oper} (R:lA ops listed i o):hb j (a6 (bl i)) a.eval o:=by
 intro x ad;have hm:o∈ops.toList:=by have:=avi R.at_;grind
 refine Pj (X.EX o hm x ad) fun t au=>D.slot X R ?_;subst au;simp only[sL,atP,List.mem_filterMap];exact .inl (.inl ⟨.tmp t,by grind,rfl⟩)
theorem ag5 {j:bE} {v ba:as7} (h:cL j v ba) (ag:∀b,v≠ .bool b):∀b,ba≠ .bool b:=by
 intro b hD;subst hD;cases v with
 |bool cR=>exact ag cR rfl
 |pointer q=>cases q with
  |none=>cases h
  |some q=>obtain ⟨e,_,_,h⟩:=h;cases h
 |slice q l c=>cases q with
  |none=>cases h
  |some q=>obtain ⟨e,_,_,h⟩:=h;rcases h with ⟨_,h⟩|⟨_,_,_,_,_,_,h⟩|⟨_,_,_,h⟩|⟨_,_,_,h⟩|⟨_,_,_,_,_,_,_,_,_,h⟩<;>cases h
 |map r=>cases r with
  |none=>cases h
  |some r=>obtain ⟨e,_,h⟩:=h;cases h
 |agg cs=>obtain ⟨ds,h,_⟩:=h;cases h
 |tuple cs=>obtain ⟨ds,h,_⟩:=h;cases h
 |func fn f c=>obtain ⟨ds,es,h,_⟩:=h;cases h
 |chan r=>cases r with
  |none=>exact h b rfl
  |some k=>cases h
 |iface _ _=>exact h
 |_=>cases h
theorem Wx {ops:Array Oper} {N:Nat} {fr:Nat->as7} {a:Act} {j:bE} {o:Oper} (ap:a.tmps.size=N) (sl:∀p∈ops.toList,∀d,p.dst=as4 d->d<N) (h:∀g w d,o.guard=as4 (g,w)->(ops[g]?).bind (·.dst)=as4 d->cL j (fr d) (a.tmps.getD d undef)):
  auE o (yielded ops a.tmps)=wanted ops.toList fr o:=by
 unfold auE wanted;cases a5:o.guard with
 |none=>rfl
 |some abP=>
  obtain ⟨g,want⟩:=abP;simp only[yielded,au8];cases aQ:(ops[g]?).bind (·.dst) with
  |none=>rfl
  |some d=>
   have ab:=h g want d a5 aQ;have bS:d<a.tmps.size:=by
    grind
   have acL:a.tmps[d]? =as4 (a.tmps.getD d undef):=by simp_all
   simp only[atr,acL];by_cases ag:∃b,fr d= .bool b
   ·obtain ⟨b,ag⟩:=ag;rw[ag] at ab;rw[ag,ab.bool];rfl
   grind [ag5]
theorem gX.wanted (X:Ctx P C ops N bl ms vs cD fz bR) (D:gX P ops ds N bl ms vs cD fz bR listed a w s M j) {i:Nat} {o:Oper} (R:lA ops listed i o):auE o (yielded ops a.tmps)=ay.wanted ops.toList (bl i) o:=by
 refine Wx D.tmps X.dst fun g asY d a5 aQ=>D.slot X R ?_
 grind [sL]
end
end Go.ay
end
section
namespace Go.ay
theorem kU {A:Array Bool} {i x:Nat} (aj:i<A.size):((A.setIfInBounds i as5).getD x as9=as5)↔(x=i\/A.getD x as9=as5):=by
 simp only[Array.getD,Array.size_setIfInBounds];by_cases ad:x<A.size
 ·simp only[ad,dite_true];by_cases Nt:x=i
  ·simp_all
  simp_all [Ne.symm]
 grind
theorem Fa {A:Array Bool} {i x:Nat} (aj:i<A.size) (h:(A.setIfInBounds i as5).getD x as9=as9):x≠i/\A.getD x as9=as9:=by
 grind [kU]
theorem sO {a:Act} {d:Option Tmp} {v:as7}:(a.put d v).tmps.size=a.tmps.size/\(a.put d v).defers=a.defers:=by
 cases d<;>simp[Act.put]
theorem sE {a:Act} {d t:Nat} {v:as7} (aQ:d<a.tmps.size):(a.put (as4 d) v).tmps.getD t undef=if t=d then v else a.tmps.getD t undef:=by
 simp only[Act.put,Array.getD,Array.size_setIfInBounds];by_cases au:t=d
 ·simp_all
 simp_all [Ne.symm]
section
variable {P:atb} {C:FuncId->Array as7->Mem->as7->Mem->Prop} {ops:Array Oper} {N:Nat} {bl:Nat->Nat->as7} {ms:Nat->Mem} {vs:Nat->as7} {ds:List Deferred} {cD:Nat->Nat} {fz:bE} {bR:World}
variable {listed:Array Bool} {a:Act} {w:World} {s:Nat} {M:Mem} {j:bE}
theorem lA.lt {i:Nat} {o:Oper} (R:lA ops listed i o):i<ops.size:=(auI.1 R.at_).1
theorem gX.L2 (D:gX P ops ds N bl ms vs cD fz bR listed a w s M j) {i:Nat} {o:Oper} (R:lA ops listed i o):FZ ops (fun x=>(listed.setIfInBounds i as5).getD x as9=as5):=by
 have aj:i<listed.size:=by rw[D.size];exact R.lt
 intro x p ad aL e he ag;refine (kU aj).2 (.inr ?_);rcases (kU aj).1 ad with rfl|ad
 ·rw[R.at_] at aL;cases aL;exact R.TB e he ag
 ·exact D.closed x p ad aL e he ag
theorem gX.L5 (X:Ctx P C ops N bl ms vs cD fz bR) (D:gX P ops ds N bl ms vs cD fz bR listed a w s M j) {i:Nat} {o:Oper} (R:lA ops listed i o) {bZ:bE} (fF:∀b e,j b=as4 e->bZ b=as4 e) {ba:as7} (ab:cL bZ (vs i) ba):
  ∀t,(∃x p,ops[x]? =as4 p/\(listed.setIfInBounds i as5).getD x as9=as5/\p.dst=as4 t/\(∀y q,x<y->ops[y]? =as4 q->(listed.setIfInBounds i as5).getD y as9=as5->q.dst≠as4 t)/\cL bZ (vs x) ((a.put o.dst ba).tmps.getD t undef))\/
  ((∀x p,ops[x]? =as4 p->(listed.setIfInBounds i as5).getD x as9=as5->p.dst≠as4 t)/\cL bZ (bl 0 t) ((a.put o.dst ba).tmps.getD t undef)):=by
 have aj:i<listed.size:=by rw[D.size];exact R.lt
 have Ek:o∈ops.toList:=by have:=avi R.at_;grind
 intro t;by_cases aQ:o.dst=as4 t
 ·left;refine ⟨i,o,R.at_,(kU aj).2 (.inl rfl),aQ,fun y q aJ bb ax vZ=> ?_, ?_⟩
  ·rcases (kU aj).1 ax with h|h
   ·omega
   ·have au:t∈sL ops o:=by grind [sL]
    rcases R.ZG X D au bb vZ with ct|ct
    ·grind
    grind
  ·have bS:t<a.tmps.size:=by rw[D.tmps];exact X.dst o Ek t aQ
   grind [sE]
 ·have Es:(a.put o.dst ba).tmps.getD t undef=a.tmps.getD t undef:=by
   cases kP:o.dst with
   |none=>rfl
   |some d=>
    have bS:d<a.tmps.size:=by rw[D.tmps];exact X.dst o Ek d kP
    grind [sE]
  rw[Es];rcases D.cur t with ⟨x,p,aU,aO,bT,cP,eG⟩|⟨aU,aO⟩
  ·left;refine ⟨x,p,aU,(kU aj).2 (.inr aO),bT,fun y q aJ bb ax=> ?_,eG.mono fF⟩;rcases (kU aj).1 ax with h|h
   ·subst h;rw[R.at_] at bb;grind
   grind
  ·right;refine ⟨fun y q bb ax=> ?_,aO.mono fF⟩;rcases (kU aj).1 ax with h|h
   ·subst h;rw[R.at_] at bb;grind
   grind
theorem gX.quiet (X:Ctx P C ops N bl ms vs cD fz bR) (D:gX P ops ds N bl ms vs cD fz bR listed a w s M j) {i:Nat} {o:Oper} (R:lA ops listed i o) (Up:cD i≠3) (gZ:cD i≠4) {ba:as7} (ab:cL j (vs i) ba):
  gX P ops ds N bl ms vs cD fz bR (listed.setIfInBounds i as5) (a.put o.dst ba) w s M j:=by
 have aj:i<listed.size:=by rw[D.size];exact R.lt
 refine ⟨by simp[D.size],D.L2 R,D.sle,D.last, ?_,D.rel,D.xV,D.vD, ?_, ?_, ?_,by rw[sO.2];exact D.defers,by rw[sO.1];exact D.tmps,D.L5 X R (fun _ _ h=>h) ab,D.eY,D.ext,D.fresh,D.dN,D.alive⟩
 ·intro x ad ar;rw[kU aj,<-D.gg x ad ar]
  grind
 ·intro b e ag;rcases D.DH b e ag with h|⟨x,U,aa,ao,aN,bI⟩
  ·grind
  grind [kU]
 ·intro x ad ar ax;exact D.vg x ad ar (Fa aj ax).2
 ·intro x U aa ao aN;rcases (kU aj).1 ao with h|h
  ·grind
  ·exact D.DQ x U aa h aN
theorem gX.seen (X:Ctx P C ops N bl ms vs cD fz bR) (D:gX P ops ds N bl ms vs cD fz bR listed a w s M j) {i:Nat} {o:Oper} (R:lA ops listed i o) (ar:cD i=3) {hK:bm} (hm:ms (i+1)=(ms i).push hK):
  ∀n,i<n->n<=s->(ms n).aS (ms i).next=hK:=by
 intro n;induction n with
 |zero=>grind
 |succ n aq=>
  intro U aa;have aE:=D.sle;by_cases od:n=i
  ·grind [Mem.push]
  ·have ase:=aq (by omega) (by omega);have a2:n<ops.size:=by omega
   have an:ops[n]? =as4 ops[n]:=by grind
   have bS:(ms i).next<(ms n).next:=atu (X.yH R.lt ar) (X.mono (i+1) n (by omega) (by omega));rcases X.run an with ⟨_,_,_,kj⟩|⟨_,_,_,kj⟩|⟨_,_,_,kj⟩|⟨_,_,xQ,_,kj⟩|⟨nD,_,aL⟩
   ·grind
   ·grind
   ·grind
   ·grind [Mem.push]
   ·have acZ:listed.getD n as9=as5:=(D.gg n a2 nD).2 (by omega);have j0:fq (atI ops) n i=as9:=by
     cases dW:fq (atI ops) n i with
     |false=>rfl
     |true=>have:=D.LR acZ dW;rw[R.not] at this;grind
    have:=X.T.news i n (by grind) (by grind) (by grind) (by grind) (by omega) (by grind)
    grind
theorem gX.abE (X:Ctx P C ops N bl ms vs cD fz bR) (D:gX P ops ds N bl ms vs cD fz bR listed a w s M j) {i:Nat} {o:Oper} (R:lA ops listed i o) (ar:cD i=3) {hK:bm} (hm:ms (i+1)=(ms i).push hK)
  {w':World} {e:jS} {ob:Obj} (tl:xG P j w w' hK e ob) {ba:as7} (ab:cL (j.up (ms i).next e) (vs i) ba):
  gX P ops ds N bl ms vs cD fz bR (listed.setIfInBounds i as5) (a.put o.dst ba) w' s (M.put (ms i).next hK) (j.up (ms i).next e):=by
 have aj:i<listed.size:=by rw[D.size];exact R.lt
 have Ui:=D.vg i R.lt ar R.not;have hle:=bE.Cp (e:=e) Ui;have bS:=X.yH R.lt ar;have D8:(ms i).next<M.next:=by rw[D.xV];exact atu bS (X.mono (i+1) ops.size R.lt (atk _))
 have bg:(ms 0).next<=(ms i).next:=X.mono 0 i (aue _) (atO R.lt);have fF:∀b x,j.up (ms i).next e b=as4 x->b≠(ms i).next->j b=as4 x:=fun b x ag ep=>by grind [bE.up]
 have fV:∀b,b≠(ms i).next->(M.put (ms i).next hK).aS b=M.aS b:=fun b ag=>by grind [Mem.put]
 have distinct:∀x,x<ops.size->cD x=3->x≠i->(ms x).next≠(ms i).next:=by
  intro x ad mg ep he;rcases atV x i with h|h
  ·have:=X.yH ad mg;have:=X.mono (x+1) i (by omega) (atO R.lt);omega
  ·have:=X.mono (i+1) x (by omega) (atO ad);omega
 refine ⟨by simp[D.size],D.L2 R,D.sle,D.last, ?_,D.rel.place Ui D8 tl,D.xV, ?_, ?_, ?_, ?_,by rw[sO.2];exact D.defers,by rw[sO.1];exact D.tmps,D.L5 X R hle ab, ?_, ?_, ?_, ?_, ?_⟩
 ·intro x ad mg;rw[kU aj,<-D.gg x ad mg]
  grind
 ·intro b ag;by_cases nA:b=(ms i).next
  ·subst nA;have Ed:i<s:=by
    rcases atV i s with h|h
    ·grind
    ·have:=X.mono s i h (atO R.lt);omega
   rw[D.seen X R ar hm s Ed (atk _)];simp[Mem.put]
  ·rw[fV b nA];exact D.vD b ag
 ·intro b x ag;by_cases nA:b=(ms i).next
  ·subst nA;rcases atV (ms i).next (ms s).next with h|h
   ·grind
   ·right;refine ⟨i, ?_,R.lt,(kU aj).2 (.inl rfl),ar,rfl⟩;rcases atV i s with ct|ct
    ·have:=X.mono (i+1) s ct D.sle;omega
    grind
  ·rcases D.DH b x (fF b x ag nA) with h|⟨y,U,aa,ao,aN,bI⟩
   ·grind
   grind [kU]
 ·intro x ad mg ax;obtain ⟨U,aa⟩:=Fa aj ax;have:=distinct x ad mg U;simp only[bE.up,this,if_false];exact D.vg x ad mg aa
 ·intro x U aa ao aN xQ ki;by_cases Nt:x=i
  ·subst Nt;have arH:xQ=hK:=by
    have bt:(ms (x+1)).aS (ms x).next=xQ:=by grind [Mem.push]
    grind [Mem.push]
   grind [Mem.put]
  ·rw[fV _ (distinct x aa aN Nt)];rcases (kU aj).1 ao with h|h
   ·grind
   ·exact D.DQ x U aa h aN xQ ki
 ·have hold:∀c,c<w.heap.size->w'.heap[c]? =w.heap[c]? :=fun c ah=>by rw[tl.heap,auD,if_neg (by omega)]
  exact ⟨tl.os.trans D.eY.os,tl.tape.trans D.eY.tape,tl.output.trans D.eY.output,by rw[tl.heap];simp;have:=D.eY.size;omega,fun c ah bJ=>by
   rw[hold c (atu ah D.eY.size)];exact D.eY.block c ah bJ⟩
 ·intro b ag;simp only[bE.up,show b≠(ms i).next by omega,if_false];exact D.ext b ag
 ·intro b x ag gK;by_cases nA:b=(ms i).next
  ·subst nA;have ad:x=e:=by grind [bE.up]
   subst ad;exact .inl (by rw[tl.aS];exact D.eY.size)
  ·exact D.fresh b x (fF b x ag nA) gK
 ·intro b ag an;rw[fV b (by omega)] at an;exact D.dN b ag an
 ·intro b ag an;rw[fV b (by omega)] at an;exact D.alive b ag an
theorem gX.e4 (X:Ctx P C ops N bl ms vs cD fz bR) (D:gX P ops ds N bl ms vs cD fz bR listed a w s M j) {i:Nat} {o:Oper} (R:lA ops listed i o) (ar:cD i=4):
  s<=i/\(∀e,s<=e->e<i->cD e≠4)/\Rel P (j.below (ms i).next) (ms i) w/\
  ∀{w':World} {g1:bE} {ba:as7},Post P (j.below (ms i).next) (ms i) w g1 (ms (i+1)) w'->cL g1 (vs i) ba->
   gX P ops ds N bl ms vs cD fz bR (listed.setIfInBounds i as5) (a.put o.dst ba) w' (i+1) ((ms (i+1)).join M) (g1.join (ms (i+1)).next j):=by
 have aj:i<listed.size:=by rw[D.size];exact R.lt
 have o3:s<=i:=by
  rcases atV i s with h|h
  ·have:=(D.gg i R.lt ar).2 h;rw[R.not] at this;grind
  grind
 have adv:∀e,e<i->cD e=4->listed.getD e as9=as5:=by
  intro e he jH;have oc:e<ops.size:=Nat.lt_trans he R.lt;have Uz:ops[e]? =as4 ops[e]:=by grind
  refine R.fq D (N0 X.ok R.at_ Uz he ?_);simp[qN,X.UQ Uz jH,X.UQ R.at_ ar]
 have ep:∀e,s<=e->e<i->cD e≠4:=by intro e U aa jH;have:=(D.gg e (Nat.lt_trans aa R.lt) jH).1 (adv e aa jH);omega
 have dW:=D.LQ X o3 (atO R.lt) ep;have dO:=(X.wf i (atO R.lt)).1;refine ⟨o3,ep,D.rel.below dO dW, ?_⟩;intro w' g1 ba p ab;have ar6:=p.next;have arN:∀b e,j b=as4 e->b<(ms i).next\/((ms (i+1)).next<=b/\∃x,i+1<=x/\x<ops.size/\listed.getD x as9=as5/\cD x=3/\b=(ms x).next):=by
  intro b e ag;rcases D.DH b e ag with h|⟨x,U,aa,ao,aN,bI⟩
  ·exact .inl (atu h (X.mono s i o3 (atO R.lt)))
  ·subst bI;rcases avC x i with h|h|h
   ·exact .inl (atu (X.yH aa aN) (X.mono (x+1) i h (atO R.lt)))
   ·grind
   ·exact .inr ⟨X.mono (i+1) x h (atO aa),x,h,aa,ao,aN,rfl⟩
 have D8:(ms (i+1)).next<=M.next:=by rw[D.xV];exact X.mono (i+1) ops.size R.lt (atk _)
 obtain ⟨hrel,fF,adX⟩:=D.rel.join dW p (fun b e ag=>by grind) D8;have ary:(ms 0).next<=(ms i).next:=X.mono 0 i (aue _) (atO R.lt);have aeg:∀b,b<(ms i).next->g1 b=j b:=fun b ag=>by rw[p.ext b ag];grind [bE.below]
 have ard:∀b e,j b=as4 e->b<(ms i).next->M.aS b=(ms i).aS b:=dW;refine ⟨by simp[D.size],D.L2 R,R.lt, .inr (by grind), ?_,hrel,D.xV, ?_, ?_, ?_, ?_,by rw[sO.2];exact D.defers,by rw[sO.1];exact D.tmps,D.L5 X R fF (ab.mono adX), ?_, ?_, ?_, ?_, ?_⟩
 ·intro x ad mg;rw[kU aj,D.gg x ad mg]
  grind
 ·grind [Mem.join]
 ·grind [bE.join,kU]
 ·intro x ad mg ax;obtain ⟨U,aa⟩:=Fa aj ax;have arW:=D.vg x ad mg aa;rcases atV x i with h|h
  ·have ad7:(ms x).next<(ms i).next:=atu (X.yH ad mg) (X.mono (x+1) i h (atO R.lt))
   grind [bE.join]
  ·have:(ms (i+1)).next<=(ms x).next:=X.mono (i+1) x (by omega) (atO ad)
   grind [bE.join]
 ·intro x U aa ao aN hK hm;have:(ms (i+1)).next<=(ms x).next:=X.mono (i+1) x U (atO aa);simp only[Mem.join,show ¬(ms x).next<(ms (i+1)).next by omega,if_false];rcases (kU aj).1 ao with h|h
  ·omega
  ·exact D.DQ x (by omega) aa h aN hK hm
 ·refine ⟨p.eY.os.trans D.eY.os,p.eY.tape.trans D.eY.tape,p.eY.output.trans D.eY.output,atx D.eY.size p.eY.size,fun c ah bJ=> ?_⟩;rw[p.eY.block c (atu ah D.eY.size) ?_]
  ·exact D.eY.block c ah bJ
  ·intro b e ag an he;obtain ⟨aU,aO⟩:=pg ag;rcases atV b (ms 0).next with h|h
   ·exact bJ b e (by rw[<-D.ext b h];grind) (D.dN b h (by grind)) he
   ·rcases D.fresh b e aO h with bd|⟨eT,fb,b5,cc,eH⟩
    ·omega
    grind
 ·intro b ag;simp only[bE.join,show b<(ms (i+1)).next by omega,if_true];rw[aeg b (by omega)];exact D.ext b ag
 ·intro b e ag gK;unfold bE.join at ag;split at ag
  ·rcases atV b (ms i).next with h|h
   ·exact D.fresh b e (by grind) gK
   ·rcases p.fresh b e ag h with bd|⟨eT,fb,b5,cc,eH⟩
    ·exact .inl (atx D.eY.size bd)
    ·obtain ⟨aU,aO⟩:=pg b5;rcases atV eT (ms 0).next with ct|ct
     ·exact .inr ⟨eT,fb,by rw[<-D.ext eT ct];grind,D.dN eT ct (by grind),eH⟩
     ·rw[<-eH];exact D.fresh eT fb aO ct
  ·exact D.fresh b e ag gK
 ·intro b ag an;have nA:b<(ms (i+1)).next:=by omega
  simp only[Mem.join,nA,if_true] at an;have kC:=p.dN b (by omega) an;have a5:=(E3 X.T i o3 (by simpa using atO R.lt) ep).1;have pT:b<(ms s).next:=atu ag (X.mono 0 s (aue _) D.sle);exact D.dN b ag (by rw[D.vD b pT,<-a5 b pT];grind)
 ·intro b ag an;have nA:b<(ms (i+1)).next:=by omega
  simp only[Mem.join,nA,if_true] at an;have kC:=p.alive b (by omega) an;have a5:=(E3 X.T i o3 (by simpa using atO R.lt) ep).1;have pT:b<(ms s).next:=atu ag (X.mono 0 s (aue _) D.sle);exact D.alive b ag (by rw[D.vD b pT,<-a5 b pT];grind)
end
end Go.ay
end
section
namespace Go.ay
section
variable {P:atb} {C:FuncId->Array as7->Mem->as7->Mem->Prop} {ops:Array Oper} {N:Nat} {bl:Nat->Nat->as7} {ms:Nat->Mem} {vs:Nat->as7} {ds:List Deferred} {cD:Nat->Nat} {fz:bE} {bR:World}
variable {listed:Array Bool} {a:Act} {w:World} {s:Nat} {M:Mem} {j:bE}
theorem ah6 {i:Nat} (h:i∈avc .any ops listed):∃o,i<ops.size/\ops[i]? =as4 o/\listed.getD i as5=as9/\∀e∈o.after,aup .any e=as5->listed.getD e.on as9=as5:=by
 grind [avc,Array.all_eq_true']
theorem Vp {A:Array Bool} {i:Nat} (aj:i<A.size):A.getD i as5=A.getD i as9:=by grind
def left (n:Nat) (listed:Array Bool):Nat:=((atW n).filter fun i=> !listed.getD i as9).length
theorem V8 {aB:Type} {p q:aB->Bool}:∀(l:List aB) (x:aB),x∈l->(∀y,p y=as5->q y=as5)->q x=as5->p x=as9->(l.filter p).length<(l.filter q).length
 |[],x,ad,_,_,_=>by grind
 |y::l,x,ad,Ni,adI,adD=>by
  have hle:(l.filter p).length<=(l.filter q).length:=by
   clear ad;induction l with
   |nil=>simp
   |cons z l aq=>
    grind
  rcases ats.1 ad with rfl|ad
  ·grind
  ·have aq:=V8 l x ad Ni adI adD
   grind
theorem ag6 {n:Nat} (h:left n listed=0):∀i,i<n->listed.getD i as9=as5:=by
 intro i aj;cases ax:listed.getD i as9 with
 |true=>rfl
 |false=>
  have:i∈(atW n).filter fun i=> !listed.getD i as9:=List.mem_filter.2 ⟨List.mem_range.2 aj,by grind⟩;rw[List.eq_nil_of_length_eq_zero h] at this
  grind
theorem gX.all (X:Ctx P C ops N bl ms vs cD fz bR) (D:gX P ops ds N bl ms vs cD fz bR listed a w s M j) (h:avc .any ops listed=[]):∀i,i<ops.size->listed.getD i as9=as5:=by
 intro i;induction i using Nat.strongRecOn with
 |_ i aq=>
  intro aj;cases ax:listed.getD i as9 with
  |true=>rfl
  |false=>
   have an:ops[i]? =as4 ops[i]:=by grind
   have:i∈avc .any ops listed:=by
    simp only[avc,List.mem_filter,List.mem_range,ati,Bool.not_eq_true'];refine ⟨aj,by rw[Vp (by rw[D.size];grind)];grind, ?_⟩;rw[an];simp only[auN,Option.getD_some,Array.all_eq_true'];intro e he;cases ag:aup .any e with
    |false=>rfl
    |true=>
     have asc:=ag' X.ok an he ag
     grind
   grind
theorem gX.end (X:Ctx P C ops N bl ms vs cD fz bR) (D:gX P ops ds N bl ms vs cD fz bR listed a w s M j) (h:∀i,i<ops.size->listed.getD i as9=as5):
  Post P fz (ms 0) bR (j.below (ms ops.size).next) (ms ops.size) w/\(∀t,cL (j.below (ms ops.size).next) (bl ops.size t) (a.tmps.getD t undef))/\a.defers=ds/\a.tmps.size=N:=by
 have ep:∀e,s<=e->e<ops.size->cD e≠4:=fun e U aa ar=>by have:=(D.gg e aa ar).1 (h e aa);omega
 have dW:=D.LQ X D.sle (atk _) ep;obtain ⟨dO,cV⟩:=X.wf ops.size (atk _);have bg:(ms 0).next<=(ms ops.size).next:=X.mono 0 _ (aue _) (atk _);have a5:=(E3 X.T ops.size D.sle (by simp) ep).1;have pT:∀b,b<(ms 0).next->(ms ops.size).aS b=M.aS b:=fun b ag=>by have ej:=atu ag (X.mono 0 s (aue _) D.sle);rw[a5 b ej,D.vD b ej]
 refine ⟨⟨D.rel.below dO dW,D.eY,bg, ?_, ?_, ?_, ?_⟩, ?_,D.defers,D.tmps⟩
 ·intro b ag;simp only[bE.below,show b<(ms ops.size).next by omega,if_true];exact D.ext b ag
 ·intro b e ag gK;exact D.fresh b e (pg ag).2 gK
 ·intro b ag an;exact D.dN b ag (by grind)
 ·intro b ag an;exact D.alive b ag (by grind)
 ·intro t;refine wD.2.2 ?_ (cV t);rcases N9 X.T t ops.size (by simp) with ⟨x,p,U,aa,ao,aN,bI⟩|⟨U,aa⟩
  ·have lJ:ops[x]? =as4 p:=by grind
   rcases D.cur t with ⟨y,q,aU,aO,bT,cP,eG⟩|⟨aU,_⟩
   ·grind [avC]
   grind
  ·rcases D.cur t with ⟨y,q,aU,aO,bT,cP,eG⟩|⟨_,aO⟩
   ·grind
   grind
theorem gX.go (X:Ctx P C ops N bl ms vs cD fz bR) {Q:Exit->Act->World->Prop} (hf:∀a w bZ,Post P fz (ms 0) bR bZ (ms ops.size) w->(∀t,cL bZ (bl ops.size t) (a.tmps.getD t undef))->a.defers=ds->a.tmps.size=N->Q .normal a w):
  ∀(kz:Nat) (listed:Array Bool) (a:Act) (w:World) (s:Nat) (M:Mem) (j:bE),gX P ops ds N bl ms vs cD fz bR listed a w s M j->left ops.size listed<=kz->wpAny P .any ops Q kz listed a w:=by
 intro kz;induction kz with
 |zero=>
  intro listed a w s M j D ax;have lK:=ag6 (n:=ops.size) (by omega:left ops.size listed=0);obtain ⟨U,aa,ao,aN⟩:=D.end X lK;refine ⟨?_,hf _ _ _ U aa ao aN⟩
  grind [avc,List.filter_eq_nil_iff,Vp]
 |succ kz aq=>
  intro listed a w s M j D ax;refine ⟨fun aF=> ?_,fun i aj=> ?_⟩
  ·obtain ⟨U,aa,ao,aN⟩:=D.end X (D.all X aF)
   grind
  ·obtain ⟨o,bS,an,asa,acA⟩:=ah6 aj;have ac3:i<listed.size:=by grind
   have R:lA ops listed i o:=⟨an,by grind,acA⟩
   have sk:left ops.size (listed.setIfInBounds i as5)<=kz:=by
    have:left ops.size (listed.setIfInBounds i as5)<left ops.size listed:=by
     refine V8 _ i (by grind) (fun y aJ=> ?_) (by grind) (by simp_all)
     grind [Fa]
    omega
   have p0:=D.wanted X R;have ys:=D.aey X R;unfold wpOp;rw[an];simp only[];rcases X.run an with ⟨ar,hw,ab,_⟩|⟨ar,hw,aL,_⟩|⟨ar,hw,aL,_⟩|⟨ar,hw,hK,aL,hm⟩|⟨ar,hw,aL⟩
   ·rw[p0,hw,if_neg (by simp)];exact aq _ _ _ s M j (D.quiet X R (by omega) (by omega) (by rw[ab];exact ⟨#[],rfl,atm⟩)) sk
   ·rw[p0,hw,if_pos rfl];left;obtain ⟨ba,aF,hD⟩:=N7 aL ys w;unfold auh;rw[aF];exact aq _ _ _ s M j (D.quiet X R (by omega) (by omega) hD) sk
   ·rw[p0,hw,if_pos rfl];left;have adM:∃z,eJ P (a6 (bl i)) o (ms z) (vs i)/\r2 P j (ms z) w:=by
     rcases atV i s with Ed|Ed
     ·refine ⟨s, ?_,D.mu X (atk _) D.sle (fun e U aa=>by omega)⟩;rcases D.last with bg|acY
      ·omega
      ·have g8:s - 1+1=s:=by omega
       have q1:=D.sle;have ep:i≠s - 1:=by grind
       have ac4:listed.getD (s - 1) as9=as5:=(D.gg (s - 1) (by omega) acY).2 (by omega);have j0:fq (atI ops) (s - 1) i=as9:=by
        cases dW:fq (atI ops) (s - 1) i with
        |false=>rfl
        |true=>
         have:=D.LR ac4 dW
         grind
       have:=X.T.after i (s - 1) o (by grind) (by grind) (by grind) (by grind) (by omega) (by grind)
       grind
     ·by_cases hex:∃e,s<=e/\e<i/\cD e=4
      ·
       have M6:∃z,s<=z/\z<i/\cD z=4/\∀e,s<=e->e<z->cD e≠4:=by
        obtain ⟨e,U,aa,ao⟩:=hex;clear p0 ys;induction e using Nat.strongRecOn with
        |_ e aso=>
         grind
       obtain ⟨z,U,aa,ao,aN⟩:=M6;refine ⟨z, ?_,D.mu X U (by omega) aN⟩;have j0:fq (atI ops) i z=as9:=by
        cases dW:fq (atI ops) i z with
        |false=>rfl
        |true=>have:=(D.gg z (by omega) ao).1 (R.fq D dW);omega
       have:=X.T.ahead i z o (by grind) (by grind) (by grind) (by grind) aa (by grind)
       grind
      ·exact ⟨i,aL,D.mu X Ed (atO bS) (fun e U aa ao=>hex ⟨e,U,aa,ao⟩)⟩
    obtain ⟨z,ez,ey⟩:=adM;obtain ⟨ba,aF,hD⟩:=VR ez ys ey;unfold auh;rw[aF];exact aq _ _ _ s M j (D.quiet X R (by omega) (by omega) hD) sk
   ·rw[p0,hw,if_pos rfl];left;obtain ⟨ba,w',e,ob,aF,a2,hD⟩:=Xu aL ys w;unfold auh;rw[aF];exact aq _ _ _ s _ _ (D.abE X R ar hm a2 (hD _ (by simp[bE.up]))) sk
   ·rw[p0,hw,if_pos rfl];left;obtain ⟨U,aa,ao,aN⟩:=D.e4 X R ar;obtain ⟨acd,ab3⟩:=X.wf i (atO bS);have Ek:o∈ops.toList:=by grind
    have adu:hb (j.below (ms i).next) (a6 (bl i)) a.eval o:=fun x ad=>wD.2.2 (ys x ad) (X2 ab3 (X.EX o Ek x ad));exact X0 aL adu ao acd X.sound fun ba w' g1 tY hD=>aq _ _ _ _ _ _ (aN tY hD) sk
end
theorem ahn {P:atb} {C:FuncId->Array as7->Mem->as7->Mem->Prop} {ops:Array Oper} {id:Nat} {fr bA:Nat->as7} {m m':Mem} {j:bE} {a:Act} {ds:List Deferred} {w:World} {Q:Exit->Act->World->Prop}
  (nE:P.follows .mixedOrders=as5) (h:gT P C ops.toList (atI ops) 0 ops.toList ⟨[],[],[]⟩ fr m bA m') (ey:sQ ops=as5) (cB:∀o∈ops.toList,∀x∈o.op.operands,lT x=as5) (sl:∀o∈ops.toList,∀d,o.dst=as4 d->d<a.tmps.size)
  (ca:nK C) (ke:uO P C) (ch:Rel P j m w) (dO:WF m) (hg:∀t,cL j (fr t) (a.tmps.getD t undef)) (aQ:a.defers=ds)
  (hf:∀a' w' bZ,Post P j m w bZ m' w'->(∀t,cL bZ (bA t) (a'.tmps.getD t undef))->a'.defers=ds->a'.tmps.size=a.tmps.size->Q .normal a' w'):(Code.region id ops as5).wp P Q a w:=by
 refine wp_region_any nE ?_;obtain ⟨bl,ms,vs,cD,T,U,aa,ao,aN,_⟩:=Y4 _ _ _ _ _ _ _ h;simp only[atB,Array.length_toList] at ao aN;have vP:Rel P j (ms 0) {w with drawn:=w.drawn+1}:=by grind [aiF]
 have bS:∀b e,j b=as4 e->b<(ms 0).next:=fun b e ag=>by rw[aa];exact (ch.lt b e ag).1
 have X:Ctx P C ops a.tmps.size bl ms vs cD j {w with drawn:=w.drawn+1}:=⟨T,ey,cB,sl,ca,ke,vP,by grind,fun t=>by rw[U];exact (FW bS).2.2 (hg t)⟩
 have pV:∀i,(at0 ops.size as9).getD i as9=as5->False:=by simp_all [Array.getD]
 have D:gX P ops ds a.tmps.size bl ms vs cD j {w with drawn:=w.drawn+1} (at0 ops.size as9) a {w with drawn:=w.drawn+1} 0 {next:=(ms ops.size).next,aS:=(ms 0).aS} j:=by
  refine ⟨by simp,fun i o aj=>(pV i aj).elim,aue _, .inl rfl,fun i _ _=>⟨fun h=>(pV i h).elim,fun h=>by omega⟩, ?_,rfl,fun b _=>rfl,fun b e ag=> .inl (bS b e ag), ?_,fun i _ _ h=>(pV i h).elim,aQ,rfl, ?_,qG.refl _ _ _,fun _ _=>rfl, ?_,fun _ _ h=>h,fun _ _ h=>h⟩
  ·refine ⟨⟨fun b e ag=>⟨atu (bS b e ag) (X.mono 0 _ (aue _) (atk _)),(vP.lt b e ag).2⟩,vP.obj,vP.inj⟩,vP.kq.val,vP.kq.sep⟩
  ·intro i aj ar ax;cases a0:j (ms i).next with
   |none=>rfl
   |some e=>have:=bS _ e a0;have:=X.mono 0 i (aue _) (atO aj);omega
  ·grind
  grind
 refine gX.go X (fun a' w' bZ p ab yk aE=>hf a' w' bZ ?_ (by grind) yk aE) _ _ _ _ _ _ _ D ?_
 ·rw[aa,aN] at p;exact ⟨p.rel,⟨p.eY.os,p.eY.tape,p.eY.output,p.eY.size,p.eY.block⟩,p.next,p.ext,p.fresh,p.dN,p.alive⟩
 grind [left]
end Go.ay
end
section
namespace Go.ay
theorem Rel.My {P:atb} {j:bE} {m:Mem} {w w':World} (h:Rel P j m w) (U:w'.os=w.os) (aa:w'.tape=w.tape) (ao:w'.output=w.output) (aN:w.heap.size<=w'.heap.size) (bI:∀c,c<w.heap.size->w'.heap[c]? =w.heap[c]?):Post P j m w j m w':=
 .of h ⟨fun b e ag=>⟨(h.lt b e ag).1,atu (h.lt b e ag).2 aN⟩,fun b e ag=>by rw[bI _ (h.lt b e ag).2];exact h.obj b e ag,h.inj⟩
  ⟨U,aa,ao,aN,fun c ah _=>bI c ah⟩ (atk _) (fun _ _=>rfl) (fun b e ag a2=>absurd (h.lt b e ag).1 (aut.2 a2)) (fun _ _ h=>h) (fun _ _ h=>h)
theorem ahT {j:bE} {v:as7} (h:cQ v=as5):dD j v v:=m0 h
theorem ahD {P:atb} {f:FuncId} {args:Array as7} {m m':Mem} {v:as7} (h:nt P f args m v m') (dO:WF m):low m'.next v/\WF m'/\m.next<=m'.next:=by
 cases h with
 |none a c g h aY=>exact ⟨by intro x ad;simp at ad,dO,atk _⟩
 |flat v tB sg h=>exact ⟨Fs sg,dO,atk _⟩
 |any v m' a2 ar h=>exact ⟨(ar dO).1,(ar dO).2,a2⟩
 |fresh cs e l tB DP ax ag h=>refine ⟨at4 _,dO.push ?_,atG _⟩;intro v ab;exact qb (atq.1 DP v ab)
 |row b off l c g L e F mF h aY ax hm dQ a2 ma f1 f2=>
  refine ⟨by intro x ad;simp at ad,⟨fun c ah=> ?_,fun c=> ?_⟩,atk _⟩
  ·have ah:m.next<=c:=ah;simp only[Mem.put];split
   ·rename_i fc;subst fc;have:=dO.dead c ah;rw[hm] at this;cases this
   ·exact dO.dead c ah
  ·simp only[Mem.put];split
   ·intro v ab;rcases sP _ _ _ _ ab with ab|ab
    ·have:=dO.low b;rw[hm] at this;exact this v ab
    ·exact qb (atq.1 f2 v ab)
   ·exact dO.low c
theorem V1 {j:bE} {s:as7} {g:Nat} {hc:Array as7} (h:bp (cL j) (#[s, .func (.func g) #[] #[]]:Array as7).toList hc.toList):∃cs,cL j s cs/\hc=#[cs, .func (.func g) #[] #[]]:=by
 obtain ⟨l⟩:=hc
 match l,h with
 |[c1,c2],⟨U,⟨gs,ds,aa,ao,aN⟩,_⟩=>
  refine ⟨c1,U, ?_⟩;have bt:gs=#[]:=by
   obtain ⟨l⟩:=gs;cases l with
   |nil=>rfl
   |cons _ _=>exact ao.elim
  have e2:ds=#[]:=by
   obtain ⟨l⟩:=ds;cases l with
   |nil=>rfl
   |cons _ _=>exact aN.elim
  grind
 |[_],⟨_,h⟩=>exact h.elim
 |[],h=>exact h.elim
 |_::_::_::_,⟨_,_,h⟩=>exact h.elim
theorem ahE {P:atb} {f:FuncId} {args:Array as7} {m m':Mem} {v:as7} (h:nt P f args m v m') {j:bE} {w:World} {hc:Array as7} (dO:WF m) (ch:Rel P j m w) (dW:bp (cL j) args.toList hc.toList):
  Calls P f hc w fun e w'=>∃ba bZ,e= .returned ba/\Post P j m w bZ m' w'/\cL bZ v ba:=by
 cases h with
 |none a c g h aY=>
  subst aY;obtain ⟨cs,U,rfl⟩:=V1 dW;have ad:∃p cap,cs= .slice p 0 cap:=by
   cases a with
   |none=>exact ⟨_,_,U.kK⟩
   |some a=>obtain ⟨q,_,_,ah⟩:=U.slice;rcases ah with ⟨_,ah⟩|⟨_,_,_,_,_,_,ah⟩|⟨_,_,_,ah⟩|⟨_,_,_,ah⟩|⟨_,_,_,_,_,_,_,_,_,ah⟩<;>exact ⟨_,_,ah⟩
  obtain ⟨p,cap,rfl⟩:=ad;refine (h p cap w).mono ?_;rintro e w' ⟨rfl,rfl⟩;exact ⟨_,j,rfl,Post.refl ch,#[],rfl,atm⟩
 |flat v tB sg h=>
  have he:hc=args:=by have:=bp.vK (p:=ay.flat) (fun a b h aa=>wN h aa) tB dW;cases hc;cases args;simp at this;rw[this]
  subst he;refine (h w ch.kq.val).mono ?_;rintro e w' ⟨rfl,g⟩;exact ⟨v,j,rfl,ch.My g.os g.tape g.output g.size g.heap,Oh sg⟩
 |any v m' a2 ar h=>exact h j w hc dO ch dW
 |fresh cs e l tB DP ax ag h=>
  have he:hc=args:=by have:=bp.vK (p:=ay.flat) (fun a b h aa=>wN h aa) tB dW;cases hc;cases args;simp at this;rw[this]
  subst he;refine (h w ch.kq.val).mono ?_;rintro x w' ⟨rfl,rfl⟩;refine ⟨_,_,rfl,ch.push (X:= .own cs e) (e:=⟨w.heap.size,l,P.cellsOf e,0⟩) (ob:= .cells cs.toArray e) rfl rfl rfl rfl rfl ?_, ?_⟩
  ·exact ⟨cs.toArray,_,rfl,fun i aj bd=>by simp at bd,rfl,by simp[ax],by rw[ax];exact atk _,fun i v aj=>⟨v,by simpa using aj,m0 (atq.1 DP v (at3 aj))⟩⟩
  ·exact ⟨⟨w.heap.size,l,P.cellsOf e,0⟩,rfl,by simp[bE.up], .inl ⟨ag,rfl⟩⟩
 |row b off l c g L e F mF h aY ax hm dQ a2 ma f1 f2=>
  subst aY;obtain ⟨pN,U,rfl⟩:=V1 dW;obtain ⟨q,_,a0,ah⟩:=U.slice;have ad:∃cap,pN= .slice (as4 ⟨q.aS,q.dS+off,as6⟩) l cap:=by
   rcases ah with ⟨_,ah⟩|⟨_,_,_,_,_,_,ah⟩|⟨_,fW,_⟩|⟨_,fW,_⟩|⟨_,_,_,_,_,_,_,_,_,ah⟩
   ·exact ⟨_,ah⟩
   ·exact ⟨_,ah⟩
   ·omega
   ·omega
   ·exact ⟨_,ah⟩
  obtain ⟨cap,rfl⟩:=ad;have a0:j b=as4 q:=a0;obtain ⟨cs,bi,aU,aO,bT,cP,eG,gN⟩:=ch.own b q L e a0 hm;have abZ:∀(i:Nat) (v:as7),F[i]? =as4 v->cs[q.dS+off+i]? =as4 v:=by intro i v aj;have bS:=(atp.1 aj).1;have MV:=aj;rw[<-dQ,List.getElem?_take,if_pos bS,List.getElem?_drop] at MV;obtain ⟨ba,b5,cc⟩:=gN _ v MV;have tN:cQ v=as5:=atq.1 f1 v (at3 aj);rw[y4 tN cc] at b5;rw[atY];exact b5
  refine (h w q.aS (q.dS+off) cap cs e bi aU abZ aO).mono ?_;rintro ex w' ⟨rfl,b5,cc,eH,ja,p4,EE⟩;have bS:=(ch.lt b q a0).2;have hlen:(e1 cs.toList (q.dS+off) mF).length=cs.size:=by rw[mZ];simp
  have tS:(e1 L off mF).length=L.length:=mZ _ _ _;have aL:=ch.write (L':=e1 L off mF) (cs':=(e1 cs.toList (q.dS+off) mF).toArray) a0 hm aU (by simpa using hlen) (by rw[tS];exact eG) (fun i v aj=>by
   rw[oz _ _ _ _ (by omega)] at aj;rw[ava,oz _ _ _ _ (by rw[ma];simp;omega)];by_cases od:off<=i/\i<off+mF.length
   ·rw[if_pos od] at aj;rw[if_pos (by omega),show q.dS+i - (q.dS+off)=i - off by omega];exact ⟨v,aj,ahT (atq.1 f2 v (at3 aj))⟩
   ·rw[if_neg od] at aj;rw[if_neg (by omega)];obtain ⟨ba,b5,cc⟩:=gN i v aj;exact ⟨ba,by simpa using b5,cc⟩)
  refine ⟨_,j,rfl,aL.trans (aL.rel.My b5 cc eH (by simpa[jL] using ja) fun c ah=> ?_),#[],rfl,atm⟩;have ah:c<w.heap.size:=by simpa[jL] using ah
  by_cases fc:c=q.aS
  ·subst fc;rw[EE,N8 bS]
  ·rw[p4 c ah fc,Om fc]
end Go.ay
end
section
namespace Go.ay
variable {ds:List Deferred}
theorem jT.put {j bZ:bE} {N:Nat} {fr:Nat->as7} {a:Act} {d:Option Tmp} {v ba:as7} (h:jT ds j N fr a) (fF:∀b e,j b=as4 e->bZ b=as4 e) (aQ:∀t,d=as4 t->t<N) (ab:cL bZ v ba):jT ds bZ N (set fr d v) (a.put d ba):=by
 refine ⟨fun t=> ?_,by rw[sO.2];exact h.defers,by rw[sO.1];exact h.size⟩;cases d with
 |none=>exact (h.val t).mono fF
 |some x=>
  have ad:x<a.tmps.size:=by rw[h.size];grind
  rw[sE ad];simp only[set];split
  ·grind
  ·exact (h.val t).mono fF
theorem jT.ops {j:bE} {N:Nat} {fr:Nat->as7} {a:Act} (h:jT ds j N fr a) {o:Oper} (an:∀x∈o.op.operands,lT x=as5):hb j (a6 fr) a.eval o:=
 fun x ad=>Pj (an x ad) fun t _=>h.val t
theorem WR (j:bE):cL j undef undef:=⟨#[],rfl,atm⟩
theorem Oc {P:atb} {C:FuncId->Array as7->Mem->as7->Mem->Prop} {ops:Array Oper} {N:Nat} {Q:Exit->Act->World->Prop} (ca:nK C) (ke:uO P C) (sl:∀o∈ops.toList,∀d,o.dst=as4 d->d<N):
  ∀(l:List Oper) (fr bA:Nat->as7) (m m':Mem) (j:bE) (a:Act) (w:World),(∀o∈l,(∀x∈o.op.operands,lT x=as5)/\∀d,o.dst=as4 d->d<N)->jn P C ops.toList l fr m bA m'->Rel P j m w->WF m->jT ds j N fr a->
   (∀a' w' bZ,Post P j m w bZ m' w'->jT ds bZ N bA a'->Q .normal a' w')->wpList P ops Q l a w
 |[],fr,bA,m,m',j,a,w,ax,h,ch,dO,dQ,hf=>by simp only[jn] at h;obtain ⟨rfl,rfl⟩:=h;exact hf a w j (Post.refl ch) dQ
 |o::l,fr,bA,m,m',j,a,w,ax,h,ch,dO,dQ,hf=>by
  obtain ⟨ad,aQ⟩:=ax o (by simp);have gn:∀o∈l,(∀x∈o.op.operands,lT x=as5)/\∀d,o.dst=as4 d->d<N:=fun p aL=>ax p (by grind);have p0:auE o (yielded ops a.tmps)=wanted ops.toList fr o:=Wx dQ.size sl fun g w d a5 aQ=>dQ.val d;unfold wpList;rw[p0];simp only[jn] at h;by_cases hw:wanted ops.toList fr o=as5
  ·rw[if_pos hw];rw[if_pos hw] at h;obtain ⟨v,bx,v0,yx⟩:=h;have o0:∀t,low m.next (fr t):=fun t=>(FW fun b e ag=>(ch.lt b e ag).1).2.2 (dQ.val t);have eR:=uG v0 dO o0 ca ad;have Nf:=dQ.ops ad;have cont:∀ba w' bZ,Post P j m w bZ bx w'->cL bZ v ba->wpList P ops Q l (a.put o.dst ba) w':=fun ba w' bZ aL ab=>
    Oc ca ke sl l _ _ _ _ bZ _ _ gn yx aL.rel eR.2.1 (dQ.put (aL.up ch) aQ ab) fun a' vh ue tW ma=>hf a' vh ue (aL.trans tW) ma
   left;cases v0 with
   |pure h=>obtain ⟨ba,aF,ab⟩:=N7 h Nf w;unfold auh;rw[aF];exact cont ba w j (Post.refl ch) ab
   |read h=>obtain ⟨ba,aF,ab⟩:=VR h Nf ch.mu;unfold auh;rw[aF];exact cont ba w j (Post.refl ch) ab
   |new h=>obtain ⟨ba,w',bZ,aF,aL,ab⟩:=ahR h Nf ch;unfold auh;rw[aF];exact cont ba w' bZ aL ab
   |e4 h=>grind [X0]
  ·rw[if_neg hw];rw[if_neg hw] at h;exact Oc ca ke sl l _ _ _ _ j _ _ gn h ch dO (dQ.put (fun _ _ h=>h) aQ (WR j)) hf
theorem OY {P:atb} {C:FuncId->Array as7->Mem->as7->Mem->Prop} {ops:List Oper} (ca:nK C):∀(l:List Oper) (fr bA:Nat->as7) (m m':Mem),(∀o∈l,∀x∈o.op.operands,lT x=as5)->jn P C ops l fr m bA m'->WF m->(∀t,low m.next (fr t))->
  WF m'/\(∀t,low m'.next (bA t))/\m.next<=m'.next
 |[],fr,bA,m,m',ax,h,dO,bd=>by simp_all [jn]
 |o::l,fr,bA,m,m',ax,h,dO,bd=>by
  simp only[jn] at h;have gn:∀o∈l,∀x∈o.op.operands,lT x=as5:=fun p aL=>ax p (by grind);split at h
  ·obtain ⟨v,bx,v0,yx⟩:=h;have eR:=uG v0 dO bd ca (ax o (by simp));have:=OY ca l _ _ _ _ gn yx eR.2.1 (zc (fun t=>Ou eR.2.2 (bd t)) eR.1)
   grind
  ·exact OY ca l _ _ _ _ gn h dO (zc bd Ff)
theorem Ox {P:atb} {C:FuncId->Array as7->Mem->as7->Mem->Prop} {ops:List Oper} {B:Array Nat} (ca:nK C):∀(l:List Oper) (i:Nat) (A:Acc) (fr bA:Nat->as7) (m m':Mem),(∀o∈l,∀x∈o.op.operands,lT x=as5)->gT P C ops B i l A fr m bA m'->WF m->(∀t,low m.next (fr t))->
  WF m'/\(∀t,low m'.next (bA t))/\m.next<=m'.next
 |[],i,A,fr,bA,m,m',ax,h,dO,bd=>by simp_all [gT]
 |o::l,i,A,fr,bA,m,m',ax,h,dO,bd=>by
  simp only[gT] at h;have gn:∀o∈l,∀x∈o.op.operands,lT x=as5:=fun p aL=>ax p (by grind);have key:∀v bx hG,nu P C (a6 fr) o m v bx->gT P C ops B (i+1) l hG (set fr o.dst v) bx bA m'->WF m'/\(∀t,low m'.next (bA t))/\m.next<=m'.next:=by
   intro v bx hG v0 yx;have eR:=uG v0 dO bd ca (ax o (by simp));have:=Ox ca l _ _ _ _ _ _ gn yx eR.2.1 (zc (fun t=>Ou eR.2.2 (bd t)) eR.1)
   grind
  split at h
  ·rcases h with ⟨v,aL,aQ⟩|⟨v,aL,_,aQ⟩|⟨X,v,aL,aQ⟩|⟨v,bx,aL,_,_,aQ⟩
   ·exact key _ _ _ (.pure aL) aQ
   ·exact key _ _ _ (.read aL) aQ
   ·exact key _ _ _ (.new aL) aQ
   ·exact key _ _ _ (.e4 aL) aQ
  ·exact Ox ca l _ _ _ _ _ _ gn h dO (zc bd Ff)
theorem OI {n id:Nat} {ops:Array Oper} {d:Bool} (h:ir n (.region id ops d)=as5):(∀o∈ops.toList,(∀x∈o.op.operands,lT x=as5)/\∀d,o.dst=as4 d->d<n)/\(d=as5->sQ ops=as5):=by
 grind [ir]
theorem y1 {P:atb} {C:FuncId->Array as7->Mem->as7->Mem->Prop} (ca:nK C) {N:Nat}:∀(n:Nat) (c:Code) (fr bA:Nat->as7) (m m':Mem) (e:eS),ir N c=as5->j6 P C n c fr m e bA m'->WF m->(∀t,low m.next (fr t))->
  WF m'/\(∀t,low m'.next (bA t))/\m.next<=m'.next:=by
 intro n;induction n with
 |zero=>intro c fr bA m m' e _ h;exact h.elim
 |succ n aq=>
  intro c fr bA m m' e ey h dO bd;cases c with
  |skip=>obtain ⟨_,rfl,rfl⟩:=h;grind
  |label l=>obtain ⟨_,rfl,rfl⟩:=h;grind
  |exit id=>obtain ⟨_,rfl,rfl⟩:=h;grind
  |ret=>obtain ⟨_,rfl,rfl⟩:=h;grind
  |region id ops d=>
   have aF:=OI ey;cases d with
   |false=>exact OY ca _ _ _ _ _ (fun o an=>(aF.1 o an).1) h.2 dO bd
   |true=>exact Ox ca _ _ _ _ _ _ _ (fun o an=>(aF.1 o an).1) h.2 dO bd
  |seq a b=>
   simp only[ir,ati] at ey;rcases h with ⟨bt,cU,bx,U,aa⟩|h
   rotate_left
   ·exact ⟨(h.2.low dO bd).1,(h.2.low dO bd).2,h.2.next⟩
   obtain ⟨aU,aO,bT⟩:=aq a _ _ _ _ _ ey.1 U dO bd;split at aa
   ·grind
   simp_all
  |cond c a b=>
   simp only[ir,ati] at ey;obtain ⟨t,_,U⟩:=h
   grind
  |block id c=>obtain ⟨bt,U,_⟩:=h;exact aq c _ _ _ _ _ ey U dO bd
  |scope c=>exact aq c _ _ _ _ _ ey h dO bd
  |loop c=>
   obtain ⟨bt,cU,bx,U,aa⟩:=h;obtain ⟨aU,aO,bT⟩:=aq c _ _ _ _ _ ey U dO bd;split at aa
   ·grind
   simp_all
  |rangeFunc f cm x y=>exact h.elim
  |goto l=>exact h.elim
  |refuse s=>exact h.elim
def XU (P:atb) (C:FuncId->Array as7->Mem->as7->Mem->Prop) (N n:Nat) (c:Code):Prop:=
 ∀⦃ds:List Deferred⦄ (fr bA:Nat->as7) (m m':Mem) (e:eS) (j:bE) (a:Act) (w:World) (Q:Exit->Act->World->Prop),
  ir N c=as5->j6 P C n c fr m e bA m'->Rel P j m w->WF m->jT ds j N fr a->(∀a' w' bZ,Post P j m w bZ m' w'->jT ds bZ N bA a'->Q e.out a' w')->c.wp P Q a w
theorem jT.low {P:atb} {j:bE} {N:Nat} {fr:Nat->as7} {a:Act} {m:Mem} {w:World} (dQ:jT ds j N fr a) (ch:Rel P j m w):∀t,low m.next (fr t):=fun t=>(FW fun b e ag=>(ch.lt b e ag).1).2.2 (dQ.val t)
theorem ahr {P:atb} {C:FuncId->Array as7->Mem->as7->Mem->Prop} (ca:nK C) {N:Nat} {c:Code} (ey:ir N c=as5):∀(n:Nat),(∀n',n'<n->XU P C N n' c)->∀(fr bA:Nat->as7) (m m':Mem) (e:eS) (j:bE) (a:Act) (w:World) (Q:Exit->Act->World->Prop),
  j6 P C n (.loop c) fr m e bA m'->Rel P j m w->WF m->jT ds j N fr a->(∀a' w' bZ,Post P j m w bZ m' w'->jT ds bZ N bA a'->Q e.out a' w')->
  ∀(b:Frame) (k:List Item) (cs:List Frame),∃b0 a' w',Q b0 a' w'/\Arrives P (lone (b.at a (.code c:: .inLoop c::k)) cs w) b k cs b0 a' w':=by
 intro n;induction n with
 |zero=>intro _ fr bA m m' e j a w Q h;exact h.elim
 |succ n aq=>
  intro dW fr bA m m' e j a w Q h ch dO dQ hf b k cs;obtain ⟨bt,cU,bx,U,aa⟩:=h;have ax:=y1 ca n c _ _ _ _ _ ey U dO (dQ.low ch);by_cases he:bt= .normal
  ·subst he;rw[if_pos rfl] at aa;have key:c.wp P (fun e a' w'=>e= .normal/\∃b0 Te vh,Q b0 Te vh/\Arrives P (lone (b.at a' (.code c:: .inLoop c::k)) cs w') b k cs b0 Te vh) a w:=
    dW n (at4 n) _ _ _ _ _ j a w _ ey U ch dO dQ fun cG dk g1 aL la=>
     ⟨rfl,aq (fun n' oh=>dW n' (by omega)) _ _ _ _ _ g1 cG dk Q aa aL.rel ax.1 la (fun dE g2 p3 yt tH=>hf dE g2 p3 (aL.trans yt) tH) b k cs⟩
   obtain ⟨b0,cG,dk,⟨rfl,e2,dE,g2,adG,ach⟩,ye⟩:=key b (.inLoop c::k) cs;exact ⟨e2,dE,g2,adG, .of_steps (Steps.trans ye (.one step_inLoop)) ach⟩
  ·rw[if_neg he] at aa;obtain ⟨rfl,rfl,rfl⟩:=aa;have key:c.wp P (fun b0 a' w'=>b0≠ .normal/\Q b0 a' w') a w:=
    dW n (at4 n) _ _ _ _ _ j a w _ ey U ch dO dQ fun cG dk g1 aL la=>⟨by cases e with
     |normal=>grind
     |exit id=>simp[eS.out]
     |ret=>simp[eS.out],hf cG dk g1 aL la⟩
   obtain ⟨b0,cG,dk,⟨ep,bb⟩,ye⟩:=key b (.inLoop c::k) cs;exact ⟨b0,cG,dk,bb, .pass (x:= .inLoop c) rfl (fun _ _=> .inl ep) ye⟩
theorem N1 {P:atb} {C:FuncId->Array as7->Mem->as7->Mem->Prop} (nE:P.follows .mixedOrders=as5) (ca:nK C) (ke:uO P C) {N:Nat}:∀(n:Nat) (c:Code),XU P C N n c:=by
 intro n;induction n using Nat.strongRecOn with
 |_ n aq=>
 cases n with
 |zero=>intro c ds fr bA m m' e j a w Q _ h;exact h.elim
 |succ n=>
  intro c ds fr bA m m' e j a w Q ey h ch dO dQ hf;have o0:=dQ.low ch;have v8:=aq n (at4 n);cases c with
  |skip=>obtain ⟨rfl,rfl,rfl⟩:=h;exact wp_skip (hf a w j (Post.refl ch) dQ)
  |label l=>obtain ⟨rfl,rfl,rfl⟩:=h;exact wp_label (hf a w j (Post.refl ch) dQ)
  |exit id=>obtain ⟨rfl,rfl,rfl⟩:=h;exact wp_exit (hf a w j (Post.refl ch) dQ)
  |ret=>obtain ⟨rfl,rfl,rfl⟩:=h;exact wp_ret (hf a w j (Post.refl ch) dQ)
  |region id ops d=>
   have aF:=OI ey;have sl:∀o∈ops.toList,∀d,o.dst=as4 d->d<N:=fun o an=>(aF.1 o an).2;cases d with
   |false=>obtain ⟨rfl,h⟩:=h;exact wp_region_list (Oc ca ke sl _ _ _ _ _ j a w aF.1 h ch dO dQ hf)
   |true=>obtain ⟨rfl,h⟩:=h;exact ahn nE h (aF.2 rfl) (fun o an=>(aF.1 o an).1) (by rw[dQ.size];grind) ca ke ch dO dQ.val dQ.defers fun a' w' bZ aL ab aQ aE=>hf a' w' bZ aL ⟨ab,aQ,by rw[aE];exact dQ.size⟩
  |seq a' b=>
   have adq:=ey;simp only[ir,ati] at ey;rcases h with ⟨bt,cU,bx,U,aa⟩|h
   rotate_left
   ·exact h.2.sound adq ch dO dQ hf
   have ax:=y1 ca n a' _ _ _ _ _ ey.1 U dO o0;refine wp_seq (v8 a' _ _ _ _ _ j a w _ ey.1 U ch dO dQ fun cG dk g1 aL la=> ?_);split at aa
   ·rename_i he;subst he;exact v8 b _ _ _ _ _ g1 cG dk Q ey.2 aa aL.rel ax.1 la fun dE g2 p3 yt tH=>hf dE g2 p3 (aL.trans yt) tH
   ·rename_i he;obtain ⟨rfl,rfl,rfl⟩:=aa;cases e with
    |normal=>grind
    |exit id=>exact hf cG dk g1 aL la
    |ret=>exact hf cG dk g1 aL la
  |cond c x y=>
   simp only[ir,ati] at ey;obtain ⟨t,au,U⟩:=h;have ab:cL j (a6 fr c) (a.eval c):=Pj ey.1.1 fun t _=>dQ.val t;rw[au] at ab;refine wp_cond ab.bool ?_;cases t
   ·exact v8 y _ _ _ _ _ j a w Q ey.2 U ch dO dQ hf
   ·exact v8 x _ _ _ _ _ j a w Q ey.1.2 U ch dO dQ hf
  |scope c=>refine wp_scope_straight (v8 c _ _ _ _ _ j a w _ ey h ch dO dQ fun cG dk g1 aL la=> ?_);have:=hf cG dk g1 aL la;cases e<;>exact this
  |block id c=>
   obtain ⟨bt,U,he⟩:=h;refine wp_block (v8 c _ _ _ _ _ j a w _ ey U ch dO dQ fun cG dk g1 aL la=> ?_);have:=hf cG dk g1 aL la;rw[he] at this;cases bt with
   |normal=>simp only[eS.out] at this⊢;exact this
   |exit EB=>
    grind [eS.out,Exit.inBlock]
   |ret=>simp only[eS.out] at this⊢;exact this
  |loop c=>intro b k cs;obtain ⟨b0,cG,dk,bb,ye⟩:=ahr ca (c:=c) ey (n+1) (fun n' oh=>aq n' oh c) _ _ _ _ _ j a w Q h ch dO dQ hf b k cs;exact ⟨b0,cG,dk,bb, .of_steps (.one step_loop) ye⟩
  |rangeFunc f cm x y=>exact h.elim
  |goto l=>exact h.elim
  |refuse s=>exact h.elim
theorem agS {P:atb} {fr:Nat->as7} {m:Mem} {j:bE} {N:Nat} {a:Act} {w:World} (ch:Rel P j m w) (dQ:jT ds j N fr a) {r:ResultVar} {v:as7} (h:zh P fr m r v):
  ∃ba,(match r with| .tmp t=>(pure (a.tmps.getD t undef):Sem as7)| .cell x t=>do loadVar t (<-asAddr (a.tmps.getD x undef))).run P w= .ok ba w/\cL j v ba:=by
 cases r with
 |tmp t=>simp only[zh] at h;subst h;exact ⟨_,rfl,dQ.val t⟩
 |cell x t=>
  obtain ⟨b,off,ad,d,aQ,ab⟩:=h;have cB:=dQ.val x;rw[ad] at cB;obtain ⟨q,_,a0,ah⟩:=cB.ptr;by_cases aY:jz d=as5
  ·rw[if_pos aY] at ab;obtain ⟨i,cs,aj,ez,rfl⟩:=ab;obtain ⟨ds,ax,a2,kP⟩:=yQ ch.mu a0 _ _ _ ez;exact ⟨.agg ds.toArray,by simp[ah,asAddr,loadVar,rA aQ,aY,ie aj,yR a2 kP],⟨_,rfl,by grind⟩⟩
  ·rw[if_neg aY] at ab;obtain ⟨ba,eZ,aF⟩:=ch.mu.load b q off v a0 ab;simp_all [asAddr,loadVar,rA,cL.pc]
theorem Vv {P:atb} {fr:Nat->as7} {m:Mem} {j:bE} {N:Nat} {a:Act} {w:World} (ch:Rel P j m w) (dQ:jT ds j N fr a):∀(rs:List ResultVar) (vs:List as7),oy P fr m rs vs->
  ∃l7:List as7,(rs.mapM (m:=Sem) fun| .tmp t=>pure (a.tmps.getD t undef)| .cell x t=>do loadVar t (<-asAddr (a.tmps.getD x undef))).run P w= .ok l7 w/\bp (cL j) vs l7
 |[],[],_=>⟨[],rfl,atm⟩
 |r::rs,v::vs,⟨U,aa⟩=>by obtain ⟨ba,aF,ab⟩:=agS ch dQ U;obtain ⟨l7,asg,oj⟩:=Vv ch dQ rs vs aa;refine ⟨ba::l7, ?_,ab,oj⟩;simp_all
 |[],_::_,h=>h.elim
 |_::_,[],h=>h.elim
theorem Vz {j:bE}:∀{vs l7:List as7},bp (cL j) vs l7->(∀x∈vs,storable x=as5)->bp (eX j) vs l7
 |[],[],_,_=>atm
 |v::vs,c::l7,⟨U,aa⟩,aE=>⟨cL.storable U (aE v (by simp)),Vz aa fun x ad=>aE x (by simp[ad])⟩
 |[],_::_,h,_=>h.elim
 |_::_,[],h,_=>h.elim
theorem ag7 {j:bE} {args hc:Array as7} (h:bp (cL j) args.toList hc.toList) (n:Nat):∀t,cL j ((args++at0 (n - args.size) undef).getD t undef) ((hc++at0 (n - hc.size) undef).getD t undef):=by
 have aE:=h.size;intro t;by_cases au:t<args.size
 ·have bt:(args++at0 (n - args.size) undef).getD t undef=args[t]:=by
   rw[avd,Array.getElem?_append_left au];grind
  have mi:t<hc.size:=by omega
  have e2:(hc++at0 (n - hc.size) undef).getD t undef=hc[t]:=by simp_all [Array.getElem?_append_left]
  rw[bt,e2];obtain ⟨b,ag,aF⟩:=h.Mu t args[t] (by grind)
  grind
 ·have e:∀(A:Array as7),A.size<=t->(A++at0 (n - A.size) undef).getD t undef=undef:=by
   intro A dW;rw[avd,Array.getElem?_append_right dW]
   grind
  rw[e args (by omega),e hc (by omega)];exact WR j
theorem Wh {P : atb} {f : FuncId} {fn : Func} {c : Code} (h : kS P f = as5) (bd : P.funcs[f]? = as4 fn) (ah : fn.body = as4 c) : (fn.name == "runtime.NumGoroutine") = as9 ∧ ir fn.ntmps c = as5 := by
 grind [kS]
theorem VQ {P : atb} {f : FuncId} {fn : Func} {c : Code} (h : kS P f = as5) (bd : P.funcs[f]? = as4 fn) (ah : qe P fn c) : (fn.name == "runtime.NumGoroutine") = as9 ∧ ir fn.ntmps c = as5 ∧ fn.body.isNone = as9 := by
 rcases ah with ah|⟨A,id,mk,n7,B,g,k,cs,D⟩
 ·grind [Wh]
 ·have aa:=Wh h bd D.body;refine ⟨aa.1, ?_,by simp[D.body]⟩;rw[D.code]
  grind [ir]
theorem ao5 {P:atb} {C:FuncId->Array as7->Mem->as7->Mem->Prop} {af:atd->as7} {o:Oper} {m m':Mem} {v:as7} {fn:Fn} {cs:Array atd} (h:nu P C af o m v m') (an:o.op= .makeFunc fn #[] cs):
  cX P af o v/\m'=m/\∃ds,v= .func fn #[] ds:=by
 cases h with
 |pure h=>
  refine ⟨h,rfl, ?_⟩;cases h with
  |func f a b ct bd=>simp_all
  |flat v aE h ab aF=>
   have:=aF default;simp[execOp,an,Instr.makeFunc] at this
   grind
  |_=>grind
 |read h=>cases h<;>simp_all
 |new h=>cases h<;>simp_all
 |e4 h=>
  cases h with
  |call f args v m' h ca=>obtain ⟨x,as,ts,first,captured,h,_⟩:=h;grind
  |_=>grind
theorem agQ {P:atb} {C:FuncId->Array as7->Mem->as7->Mem->Prop} (nE:P.follows .mixedOrders=as5) (ca:nK C) (ke:uO P C) {n:Nat} {f:FuncId} {fn:Func} {c:Code} {fr cU:Nat->as7} {m bx:Mem} {e:eS} {j:bE} {w:World} {args:Array as7} {R:Ending->World->Prop}
  (bd:P.funcs[f]? =as4 fn) (ag:qe P fn c) (ey:ir fn.ntmps c=as5) (jk:j6 P C n c fr m e cU bx) (he:e= .normal\/e= .ret) (ch:Rel P j m w) (dO:WF m) (dQ:jT [] j fn.ntmps fr {tmps:=args++at0 (fn.ntmps - args.size) undef,defers:=[]})
  (hf:∀ds a' w' bZ,Post P j m w bZ bx w'->jT ds bZ fn.ntmps cU a'->∃v,(results fn a'.tmps).run P w'= .ok v w'/\R (.returned v) w'):Calls P f args w R:=by
 rcases ag with ag|⟨A,id,mk,n7,B,g,k,cs,D⟩
 ·refine calls_of_wp bd ag (N1 nE ca ke n c _ _ _ _ _ j _ w _ ey jk ch dO dQ fun a' w' bZ aL ma=> ?_);obtain ⟨v,U,aa⟩:=hf [] a' w' bZ aL ma;rcases he with rfl|rfl<;>exact ⟨ma.defers,v,U,aa⟩
 ·obtain rfl:=D.code;have UB:ir fn.ntmps A=as5:=by grind [ir]
  have ads:ir fn.ntmps (.region id #[mk] as9)=as5:=by grind [ir]
  have adr:ir fn.ntmps B=as5:=by grind [ir]
  cases n with
  |zero=>exact jk.elim
  |succ n=>
  rcases jk with ⟨bt,TN,ass,dW,aa⟩|⟨h,_⟩
  rotate_left
  ·rw[D.dS] at h;grind
  have acX:=y1 ca n A _ _ _ _ _ UB dW dO (dQ.low ch);refine calls_of_wp_defers bd D.body (wp_seq (N1 nE ca ke n A _ _ _ _ _ j _ w _ UB dW ch dO dQ fun cG dk g1 tX la=> ?_));by_cases tL:bt= .normal
  ·subst tL;rw[if_pos rfl] at aa;cases n with
   |zero=>exact aa.elim
   |succ n=>
   rcases aa with ⟨e2,arv,ast,T4,ao⟩|⟨h,_⟩
   rotate_left
   ·cases h
   cases n with
   |zero=>exact T4.elim
   |succ n=>
   obtain ⟨rfl,No⟩:=T4;rw[if_pos rfl] at ao;have yC:wanted [mk] TN mk=as5:=by unfold wanted;rw[D.UY]
   simp only[jn] at No;rw[if_pos yC] at No;obtain ⟨v,asu,eR,rfl,rfl⟩:=No;obtain ⟨adB,rfl,ds,rfl⟩:=ao5 eR D.aet;have aF:=OI ads;obtain ⟨ad,aQ⟩:=aF.1 mk (by simp);obtain ⟨ba,jk,ab⟩:=N7 adB (la.ops ad) dk;have v3:=ab;obtain ⟨gs,es,rfl,tQ,_⟩:=v3;have acM:gs=#[]:=by
    cases gs with
    |mk l=>cases l with
     |nil=>rfl
     |cons _ _=>exact tQ.elim
   subst acM;have acT:k<fn.ntmps:=aQ k D.NK;have tH:=la.put (d:=as4 k) (fun b e ag=>ag) (fun t au=>by grind) ab;show (Code.seq _ _).wp P _ cG dk;refine wp_seq (wp_region_list ?_);unfold wpList;have p0:auE mk (yielded #[mk,n7] cG.tmps)=as5:=by unfold auE;rw[D.UY]
   rw[if_pos p0];refine .inl ?_;unfold auh;rw[jk,Oper.upon_value];unfold wpList;have ad1:auE n7 (yielded #[mk,n7] (cG.put mk.dst (.func (.func g) #[] es)).tmps)=as5:=by unfold auE;rw[D.abv]
   rw[if_pos ad1];refine .inl ?_;unfold auh;rw[D.NK];have o4:(cG.put (as4 k) (.func (.func g) #[] es)).eval (.tmp k)= .func (.func g) #[] es:=by simp[Act.eval,Act.put,la.size,acT]
   have acC:(execOp (cG.put (as4 k) (.func (.func g) #[] es)).eval n7).run P dk= .ok (.defer {target:= .fn (.func g) es,args:=#[]}) dk:=by simp[execOp,D.abw,resolve,o4,Deferred.ofValue]
   rw[acC,Oper.upon_defer];unfold wpList;rw[D.abu];show B.wp P _ _ _;have abY:jT [{target:= .fn (.func g) es,args:=#[]}] g1 fn.ntmps (set TN mk.dst (.func (.func g) #[] ds)) {(cG.put (as4 k) (.func (.func g) #[] es)) with defers:={target:= .fn (.func g) es,args:=#[]}::(cG.put (as4 k) (.func (.func g) #[] es)).defers}:=by rw[D.NK];exact ⟨tH.val,by rw[tH.defers],tH.size⟩
   have ac1:=acX.1;refine N1 nE ca ke (n+1) B _ _ _ _ _ g1 _ dk _ adr ao tX.rel ac1 abY fun a' w' bZ aL ma=> ?_;obtain ⟨v,dn,dz⟩:=hf _ a' w' bZ (tX.trans aL) ma;obtain ⟨⟨art,cv,cT,hU⟩,aq3⟩:=D.aev;have Uh:Leaves P fn a'.tmps R a'.defers .returning w':=by
    rw[ma.defers];refine ⟨by simp,_,es,g,#[]++es,rfl, ?_,(aq3 (#[]++es) w').mono ?_⟩
    ·grind [invoke,Vr]
    ·rintro e u g2 ⟨⟨bH,rfl⟩,rfl,rfl⟩;exact ⟨v,dn,dz⟩
   rcases he with rfl|rfl<;>exact Uh
  ·rw[if_neg tL] at aa;obtain ⟨rfl,rfl,rfl⟩:=aa;obtain ⟨v,dn,dz⟩:=hf [] cG dk g1 tX la;rcases he with rfl|rfl
   ·grind
   ·show Leaves P fn cG.tmps R cG.defers .returning dk;rw[la.defers];exact ⟨v,dn,dz⟩
theorem WF.lx {m bx:Mem} (h:WF m) (ag:∀b,b<m.next->bx.aS b=m.aS b\/o8 m.next (bx.aS b)):WF (bx.lx m.next) where
 dead:=fun b ej=>by
  grind [Mem.lx]
 low:=fun b=>by
  simp only[Mem.lx];split
  ·rename_i bS;rcases ag b bS with U|U
   ·rw[U];exact h.low b
   grind
  ·exact atm
theorem VB {P:atb} (nE:P.follows .mixedOrders=as5):∀n,nK (iq P n)/\uO P (iq P n):=by
 intro n;induction n with
 |zero=>exact ⟨fun f args m v m' h=>h.elim,fun f args m v m' h=>h.elim⟩
 |succ n aq=>
  obtain ⟨ca,ke⟩:=aq;refine ⟨?_, ?_⟩
  ·intro f args m v m' h dO ax;rcases h with ⟨_,h⟩|h
   ·grind [ahD]
   obtain ⟨fn,c,e,fr,bx,vs,bd,ag,Em,b6,jk,he,sv,rfl,eR,hm⟩:=h;have ey:=VQ Em bd ag;have hg:∀t,low m.next ((args++at0 (fn.ntmps - args.size) undef).getD t undef):=by
    intro t;rw[avd]
    grind [Ff]
   obtain ⟨aU,aO,bT⟩:=y1 ca n c _ _ _ _ _ ey.2.1 jk dO hg;rcases hm with rfl|⟨rfl,o0,fV⟩
   ·refine ⟨?_,aU,bT⟩;have aF:∀(rs:List ResultVar) (vs:List as7),oy P fr m' rs vs->∀x∈vs,low m'.next x:=by
     intro rs;induction rs with
     |nil=>intro vs h x ad;cases vs with|nil=>grind|cons _ _=>exact h.elim
     |cons r rs aq=>
      intro vs h x ad;cases vs with
      |nil=>grind
      |cons u us=>
       rcases ats.1 ad with rfl|ad
       ·cases r with
        |tmp t=>have:=h.1;grind [zh]
        |cell q t=>
         obtain ⟨b,off,_,d,aQ,ab⟩:=h.1
         grind [low,hx,FR,O7,Oo]
       ·exact aq us h.2 x ad
    have lK:=aF _ _ sv;rcases eR with U|U
    ·match vs,U with
     |[x],_=>exact lK x (by simp)
    ·match vs with
     |[]=>intro x ad;grind
     |[x]=>exact lK x (by simp)
     |x::y::l=>intro z a4;grind [uz]
   ·exact ⟨o0,dO.lx fV,atk _⟩
  ·intro f args m v m' h j w hc dO ch tJ;rcases h with ⟨Em,h⟩|h
   ·grind [ahE,kS]
   obtain ⟨fn,c,e,fr,bx,vs,bd,ag,Em,b6,jk,he,sv,rfl,eR,hm⟩:=h;have ey:=VQ Em bd ag;refine ⟨⟨fn,bd,ey.1,ey.2.2⟩, ?_⟩;have dQ:jT [] j fn.ntmps (fun i=>(args++at0 (fn.ntmps - args.size) undef).getD i undef) {tmps:=hc++at0 (fn.ntmps - hc.size) undef,defers:=[]}:=
    ⟨ag7 tJ fn.ntmps,rfl,by have:=tJ.size;grind⟩
   have ax:=y1 ca n c _ _ _ _ _ ey.2.1 jk dO (dQ.low ch);refine agQ nE ca ke bd ag ey.2.1 jk he ch dO dQ fun ds a' w' bZ aL ma=> ?_;obtain ⟨l7,acv,hD⟩:=Vv aL.rel ma _ _ sv;have hlen:=hD.length;have UF:(results fn a'.tmps).run P w'= .ok (pack l7) w':=by
    simp only[results,atE];rw[Array.mapM_eq_mapM_toList];simp only[Sem.run_map];have acw:=acv;refine Eq.trans (congrArg (fun r=>avl (avl r _) _) acw) ?_;simp only[atz,atK];congr 1
    match l7 with
    |[]=>rfl
    |[x]=>rfl
    |x::y::l=>rfl
   have o4:cL bZ (pack vs) (pack l7):=by
    rcases eR with U|U
    ·match vs,l7,U,hD with
     |[x],[y],_,bJ=>exact bJ.1
     |[x],[],_,bJ=>grind
     |[x],_::_::_,_,bJ=>grind
    ·have aa:=Vz hD U
     match vs,l7,hD,aa with
     |[x],[y],bJ,_=>exact bJ.1
     |[],[],_,_=>exact ⟨_,rfl,atm⟩
     |x::y::l,ha::jP::lk,_,bJ=>exact ⟨_,rfl,by grind⟩
     |[x],[],bJ,_=>grind
     |[x],_::_::_,bJ,_=>grind
     |[],_::_,bJ,_=>grind
     |_::_::_,[],bJ,_=>grind
     |_::_::_,[_],bJ,_=>grind
   have Uh:∃ue,Post P j m w ue m' w'/\cL ue (pack vs) (pack l7):=by
    rcases hm with rfl|⟨rfl,o0,fV⟩
    ·grind
    ·have ace:=dO.lx fV;have hrel:Rel P (bZ.below m.next) (bx.lx m.next) w':=Rel.below (m:=bx.lx m.next) aL.rel ace (fun b e ag bS=>by
      grind [Mem.lx])
     refine ⟨bZ.below m.next,⟨hrel,aL.eY,atk _,fun b ag=> ?_,fun b e ag gK=> ?_,fun b ag an=> ?_,fun b ag an=> ?_⟩,wD.2.2 o4 o0⟩
     ·simp only[bE.below,ag,if_true];exact aL.ext b ag
     ·have:=(pg ag).1;omega
     ·simp only[Mem.lx,ag,if_true] at an;exact aL.dN b ag an
     ·simp only[Mem.lx,ag,if_true] at an;exact aL.alive b ag an
   grind
end Go.ay
end
section
namespace Go.ay
def vw (C ly:FuncId->Array as7->Mem->as7->Mem->Prop):Prop:=∀f args m v m',C f args m v m'->ly f args m v m'
theorem gI.mono {P:atb} {C ly:FuncId->Array as7->Mem->as7->Mem->Prop} (ca:vw C ly) {af:atd->as7} {o:Oper} {m m':Mem} {v:as7} (h:gI P C af o m v m'):gI P ly af o m v m':=by
 cases h with
 |store t x y b off i L e h ad aj hm ab aE ax=>exact .store t x y b off i L e h ad aj hm ab aE ax
 |call f args v m' h abV=>exact .call f args v m' h (ca _ _ _ _ _ abV)
 |r9 x y t u e i a l c h au aj ad ah qW aJ=>exact .r9 x y t u e i a l c h au aj ad ah qW aJ
 |pK x y t u e i z a l c n dN new h au aj a4 da dU b6 ad ah an kQ aJ a2 ag hm=>exact .pK x y t u e i z a l c n dN new h au aj a4 da dU b6 ad ah an kQ aJ a2 ag hm
 |vE x y t u e i b off l c k n L new h au aj ad fc lO ah hm aJ a2 ax=>exact .vE x y t u e i b off l c k n L new h au aj ad fc lO ah hm aJ a2 ax
 |tr x y t u e i b off l c n L new h au aj ad fc ah hm aJ a2 ax=>exact .tr x y t u e i b off l c n L new h au aj ad fc ah hm aJ a2 ax
 |append x y t u e i z b off l n L new h au aj a4 da dU b6 ad iz tS aJ a2 ag hm=>exact .append x y t u e i z b off l n L new h au aj a4 da dU b6 ad iz tS aJ a2 ag hm
 |clear x t e i z b off l c L h au aj a4 da dU ad hm fW ax=>exact .clear x t e i z b off l c L h au aj a4 da dU ad hm fW ax
 |copy x y t u e i b off l c L cs h au aj ad hm aJ a2 ax=>exact .copy x y t u e i b off l c L cs h au aj ad hm aJ a2 ax
 |mapUpdate fh x gC gj u bh bc b L eb vc E E' g6 h g0 hu ad iz a1 lb K vW sq vX bd ar a5 oj Ew ub yB fF=>exact .mapUpdate fh x gC gj u bh bc b L eb vc E E' g6 h g0 hu ad iz a1 lb K vW sq vX bd ar a5 oj Ew ub yB fF
theorem nu.mono {P:atb} {C ly:FuncId->Array as7->Mem->as7->Mem->Prop} (ca:vw C ly) {af:atd->as7} {o:Oper} {m m':Mem} {v:as7} (h:nu P C af o m v m'):nu P ly af o m v m':=by
 cases h with
 |pure h=>exact .pure h
 |read h=>exact .read h
 |new h=>exact .new h
 |e4 h=>exact .e4 (h.mono ca)
theorem yU {P:atb} {C ly:FuncId->Array as7->Mem->as7->Mem->Prop} (ca:vw C ly) {ops:List Oper}:∀(l:List Oper) (fr bA:Nat->as7) (m m':Mem),jn P C ops l fr m bA m'->jn P ly ops l fr m bA m'
 |[],fr,bA,m,m',h=>h
 |o::l,fr,bA,m,m',h=>by
  simp only[jn] at h⊢;split at h
  ·rename_i hw;rw[if_pos hw];obtain ⟨v,bx,U,aa⟩:=h;exact ⟨v,bx,U.mono ca,yU ca l _ _ _ _ aa⟩
  ·rename_i hw;rw[if_neg hw];exact yU ca l _ _ _ _ h
theorem sG {P:atb} {C ly:FuncId->Array as7->Mem->as7->Mem->Prop} (ca:vw C ly) {ops:List Oper} {B:Array Nat}:∀(l:List Oper) (i:Nat) (A:Acc) (fr bA:Nat->as7) (m m':Mem),gT P C ops B i l A fr m bA m'->gT P ly ops B i l A fr m bA m'
 |[],i,A,fr,bA,m,m',h=>h
 |o::l,i,A,fr,bA,m,m',h=>by
  simp only[gT] at h⊢;split at h
  ·rename_i hw;rw[if_pos hw];rcases h with ⟨v,aL,aQ⟩|⟨v,aL,an,aQ⟩|⟨X,v,aL,aQ⟩|⟨v,bx,aL,U,aa,aQ⟩
   ·exact .inl ⟨v,aL,sG ca l _ _ _ _ _ _ aQ⟩
   ·exact .inr (.inl ⟨v,aL,an,sG ca l _ _ _ _ _ _ aQ⟩)
   ·exact .inr (.inr (.inl ⟨X,v,aL,sG ca l _ _ _ _ _ _ aQ⟩))
   ·exact .inr (.inr (.inr ⟨v,bx,aL.mono ca,U,aa,sG ca l _ _ _ _ _ _ aQ⟩))
  ·rename_i hw;rw[if_neg hw];exact sG ca l _ _ _ _ _ _ h
theorem VM {P:atb} {C ly:FuncId->Array as7->Mem->as7->Mem->Prop} (ca:vw C ly):∀(n n':Nat),n<=n'->∀(c:Code) (fr bA:Nat->as7) (m m':Mem) (e:eS),j6 P C n c fr m e bA m'->j6 P ly n' c fr m e bA m':=by
 intro n;induction n with
 |zero=>intro n' _ c fr bA m m' e h;exact h.elim
 |succ n aq=>
  intro n' a2 c fr bA m m' e h;cases n' with
  |zero=>omega
  |succ n'=>
   have oh:n<=n':=by omega
   cases c with
   |skip=>exact h
   |label l=>exact h
   |exit id=>exact h
   |ret=>exact h
   |region id ops d=>
    cases d with
    |false=>exact ⟨h.1,yU ca _ _ _ _ _ h.2⟩
    |true=>exact ⟨h.1,sG ca _ _ _ _ _ _ _ h.2⟩
   |seq a b=>
    rcases h with ⟨bt,cU,bx,U,aa⟩|h
    rotate_left
    ·exact .inr h
    refine .inl ⟨bt,cU,bx,aq n' oh _ _ _ _ _ _ U, ?_⟩
    grind
   |cond c a b=>obtain ⟨t,au,U⟩:=h;exact ⟨t,au,aq n' oh _ _ _ _ _ _ U⟩
   |scope c=>exact aq n' oh _ _ _ _ _ _ h
   |block id c=>obtain ⟨bt,U,he⟩:=h;exact ⟨bt,aq n' oh _ _ _ _ _ _ U,he⟩
   |loop c=>
    obtain ⟨bt,cU,bx,U,aa⟩:=h;refine ⟨bt,cU,bx,aq n' oh _ _ _ _ _ _ U, ?_⟩
    grind
   |rangeFunc f cm x y=>exact h.elim
   |goto l=>exact h.elim
   |refuse s=>exact h.elim
theorem uw {P:atb}:∀(n n':Nat),n<=n'->vw (iq P n) (iq P n'):=by
 intro n;induction n with
 |zero=>intro n' _ f args m v m' h;exact h.elim
 |succ n aq=>
  intro n' a2 f args m v m' h;cases n' with
  |zero=>omega
  |succ n'=>
   rcases h with h|h
   ·exact .inl h
   obtain ⟨fn,c,e,fr,bx,vs,bd,ag,ey,b6,jk,rest⟩:=h;exact .inr ⟨fn,c,e,fr,bx,vs,bd,ag,ey,b6,VM (aq n' (by omega)) n n' (by omega) _ _ _ _ _ _ jk,rest⟩
def hi (P:atb) (f:FuncId) (args:Array as7) (m:Mem) (R:as7->Mem->Prop):Prop:=∃n v m',iq P n f args m v m'/\R v m'
def W (P:atb) (c:Code) (Q:eS->(Nat->as7)->Mem->Prop) (fr:Nat->as7) (m:Mem):Prop:=∃n e bA m',j6 P (iq P n) n c fr m e bA m'/\Q e bA m'
def l4 (P:atb) (af:atd->as7) (o:Oper) (m:Mem) (K:as7->Mem->Prop):Prop:=∃n v m',nu P (iq P n) af o m v m'/\K v m'
def gm (P:atb) (ops l:List Oper) (K:(Nat->as7)->Mem->Prop) (fr:Nat->as7) (m:Mem):Prop:=∃n bA m',jn P (iq P n) ops l fr m bA m'/\K bA m'
def g4 (P:atb) (ops:List Oper) (B:Array Nat) (i:Nat) (l:List Oper) (A:Acc) (K:(Nat->as7)->Mem->Prop) (fr:Nat->as7) (m:Mem):Prop:=∃n bA m',gT P (iq P n) ops B i l A fr m bA m'/\K bA m'
section
variable {P:atb} {Q xH:eS->(Nat->as7)->Mem->Prop} {fr:Nat->as7} {m:Mem}
theorem hi.mono {f:FuncId} {args:Array as7} {R QP:as7->Mem->Prop} (h:hi P f args m R) (aF:∀v m',R v m'->QP v m'):hi P f args m QP:=
 let ⟨n,v,m',U,aa⟩:=h;⟨n,v,m',U,aF _ _ aa⟩
theorem W.mono {c:Code} (h:W P c Q fr m) (bb:∀e fr m,Q e fr m->xH e fr m):W P c xH fr m:=
 let ⟨n,e,bA,m',U,aa⟩:=h;⟨n,e,bA,m',U,bb _ _ _ aa⟩
theorem W.skip (h:Q .normal fr m):W P .skip Q fr m:=⟨1,_,_,_,⟨rfl,rfl,rfl⟩,h⟩
theorem W.label {l:Nat} (h:Q .normal fr m):W P (.label l) Q fr m:=⟨1,_,_,_,⟨rfl,rfl,rfl⟩,h⟩
theorem W.exit {id:Nat} (h:Q (.exit id) fr m):W P (.exit id) Q fr m:=⟨1,_,_,_,⟨rfl,rfl,rfl⟩,h⟩
theorem W.ret (h:Q .ret fr m):W P .ret Q fr m:=⟨1,_,_,_,⟨rfl,rfl,rfl⟩,h⟩
def Y3 (next:(Nat->as7)->Mem->Prop) (Q:eS->(Nat->as7)->Mem->Prop):eS->(Nat->as7)->Mem->Prop
 | .normal,fr,m=>next fr m
 |e,fr,m=>Q e fr m
def n3 (id:Nat) (Q:eS->(Nat->as7)->Mem->Prop):eS->(Nat->as7)->Mem->Prop
 | .exit EB,fr,m=>if EB=id then Q .normal fr m else Q (.exit EB) fr m
 |e,fr,m=>Q e fr m
theorem ph {n N k:Nat} (h:n<=N) (ar:n<=k) {c:Code} {fr bA:Nat->as7} {m m':Mem} {e:eS} (ah:j6 P (iq P n) n c fr m e bA m'):j6 P (iq P N) k c fr m e bA m':=VM (uw n N h) n k ar _ _ _ _ _ _ ah
theorem W.seq {a b:Code} (h:W P a (Y3 (W P b Q) Q) fr m):W P (.seq a b) Q fr m:=by
 obtain ⟨n,e,cU,bx,U,aa⟩:=h;cases e with
 |normal=>obtain ⟨jv,e2,hl,p6,ao,aN⟩:=aa;exact ⟨max n jv+1,e2,hl,p6, .inl ⟨_,_,_,ph (by omega) (by omega) U,by rw[if_pos rfl];exact ph (by omega) (by omega) ao⟩,aN⟩
 |exit id=>exact ⟨n+1,_,cU,bx, .inl ⟨_,_,_,ph (by omega) (by omega) U,by grind⟩,aa⟩
 |ret=>exact ⟨n+1,_,cU,bx, .inl ⟨_,_,_,ph (by omega) (by omega) U,by grind⟩,aa⟩
theorem W.cond {c:atd} {a b:Code} {t:Bool} (au:a6 fr c= .bool t) (h:W P (if t then a else b) Q fr m):W P (.cond c a b) Q fr m:=by
 obtain ⟨n,e,cU,bx,U,aa⟩:=h;exact ⟨n+1,e,cU,bx,⟨t,au,ph (by omega) (by omega) U⟩,aa⟩
theorem W.block {id:Nat} {c:Code} (h:W P c (n3 id Q) fr m):W P (.block id c) Q fr m:=by
 obtain ⟨n,e,cU,bx,U,aa⟩:=h;refine ⟨n+1,_,cU,bx,⟨e,ph (by omega) (by omega) U,rfl⟩, ?_⟩;cases e with
 |normal=>grind [n3]
 |exit EB=>
  grind [n3]
 |ret=>grind [n3]
theorem W.scope {c:Code} (h:W P c Q fr m):W P (.scope c) Q fr m:=by
 obtain ⟨n,e,cU,bx,U,aa⟩:=h;exact ⟨n+1,e,cU,bx,(show j6 P (iq P (n+1)) n c fr m e cU bx from ph (by omega) (by omega) U),aa⟩
theorem W.aep {c:Code} (h:W P c (Y3 (W P (.loop c) Q) Q) fr m):W P (.loop c) Q fr m:=by
 obtain ⟨n,e,cU,bx,U,aa⟩:=h;cases e with
 |normal=>obtain ⟨jv,e2,hl,p6,ao,aN⟩:=aa;exact ⟨max n jv+1,e2,hl,p6,⟨_,_,_,ph (by omega) (by omega) U,by rw[if_pos rfl];exact ph (by omega) (by omega) ao⟩,aN⟩
 |exit id=>exact ⟨n+1,_,cU,bx,⟨_,_,_,ph (by omega) (by omega) U,by grind⟩,aa⟩
 |ret=>exact ⟨n+1,_,cU,bx,⟨_,_,_,ph (by omega) (by omega) U,by grind⟩,aa⟩
theorem W.region {id:Nat} {ops:Array Oper} (h:gm P ops.toList ops.toList (Q .normal) fr m):W P (.region id ops as9) Q fr m:=by
 obtain ⟨n,bA,m',U,aa⟩:=h;exact ⟨n+1, .normal,bA,m',⟨rfl,yU (uw _ _ (atG _)) _ _ _ _ _ U⟩,aa⟩
theorem W.draw {id:Nat} {ops:Array Oper} (h:g4 P ops.toList (atI ops) 0 ops.toList ⟨[],[],[]⟩ (Q .normal) fr m):W P (.region id ops as5) Q fr m:=by
 obtain ⟨n,bA,m',U,aa⟩:=h;exact ⟨n+1, .normal,bA,m',⟨rfl,sG (uw _ _ (atG _)) _ _ _ _ _ _ _ U⟩,aa⟩
end
section
variable {P:atb} {ops l:List Oper} {K:(Nat->as7)->Mem->Prop} {fr:Nat->as7} {m:Mem} {o:Oper}
theorem gm.nil (h:K fr m):gm P ops [] K fr m:=⟨0,_,_,⟨rfl,rfl⟩,h⟩
theorem gm.skip (a5:wanted ops fr o=as9) (h:gm P ops l K (set fr o.dst undef) m):gm P ops (o::l) K fr m:=by
 obtain ⟨n,bA,m',U,aa⟩:=h;refine ⟨n,bA,m', ?_,aa⟩
 grind [jn]
theorem gm.cons (a5:wanted ops fr o=as5) (h:l4 P (a6 fr) o m fun v bx=>gm P ops l K (set fr o.dst v) bx):gm P ops (o::l) K fr m:=by
 obtain ⟨n,v,bx,aE,jv,bA,m',U,aa⟩:=h;refine ⟨max n jv,bA,m', ?_,aa⟩;simp only[jn];rw[if_pos a5];exact ⟨v,bx,aE.mono (uw _ _ (Nat.le_max_left _ _)),yU (uw _ _ (Nat.le_max_right _ _)) _ _ _ _ _ U⟩
theorem l4.pure {af:atd->as7} {R:as7->Mem->Prop} {v:as7} (h:cX P af o v) (ar:R v m):l4 P af o m R:=⟨0,v,m, .pure h,ar⟩
theorem l4.read {af:atd->as7} {R:as7->Mem->Prop} {v:as7} (h:eJ P af o m v) (ar:R v m):l4 P af o m R:=⟨0,v,m, .read h,ar⟩
theorem l4.new {af:atd->as7} {R:as7->Mem->Prop} {v:as7} {X:bm} (h:ij P af o m.next X v) (ar:R v (m.push X)):l4 P af o m R:=⟨0,v,_, .new h,ar⟩
theorem l4.e4 {af:atd->as7} {R:as7->Mem->Prop} {v:as7} {m':Mem} {n:Nat} (h:gI P (iq P n) af o m v m') (ar:R v m'):l4 P af o m R:=⟨n,v,m', .e4 h,ar⟩
end
theorem hi.enter {P:atb} {f:FuncId} {fn:Func} {c:Code} {args:Array as7} {m:Mem} {R:as7->Mem->Prop} (bd:P.funcs[f]? =as4 fn) (ag:qe P fn c) (ey:kS P f=as5) (b6:args.size<=fn.ntmps)
  (h:W P c (fun e fr bx=>(e= .normal\/e= .ret)/\∃vs,oy P fr bx fn.results.toList vs/\(vs.length=1\/∀x∈vs,storable x=as5)/\
   (R (pack vs) bx\/(R (pack vs) (bx.lx m.next)/\low m.next (pack vs)/\∀b,b<m.next->bx.aS b=m.aS b\/o8 m.next (bx.aS b))))
   (fun i=>(args++at0 (fn.ntmps - args.size) undef).getD i undef) m):hi P f args m R:=by
 obtain ⟨n,e,fr,bx,U,he,vs,ab,aE,ch⟩:=h;rcases ch with ch|⟨ch,ax,T9⟩
 ·exact ⟨n+1,_,_, .inr ⟨fn,c,e,fr,bx,vs,bd,ag,ey,b6,U,he,ab,rfl,aE, .inl rfl⟩,ch⟩
 ·exact ⟨n+1,_,_, .inr ⟨fn,c,e,fr,bx,vs,bd,ag,ey,b6,U,he,ab,rfl,aE, .inr ⟨rfl,ax,T9⟩⟩,ch⟩
theorem hi.sort {P:atb} {f:FuncId} {args:Array as7} {m m':Mem} {v:as7} {R:as7->Mem->Prop} (ey:kS P f=as5) (h:nt P f args m v m') (ch:R v m'):hi P f args m R:=⟨1,v,m', .inl ⟨ey,h⟩,ch⟩
def hk (w:World):bE:=fun b=>if b<w.heap.size then as4 ⟨b,0,0,0⟩ else as6
def uU (b:Nat):as7->Option as7
 | .slice (as4 _) 0 0=>as4 (.slice (as4 ⟨b,0,as6⟩) 0 0)
 |_=>as6
open Classical in
noncomputable def ho (w:World):Mem:={next:=w.heap.size,aS:=fun b=>if b<w.heap.size then .ro (fun i=>match w.cell? ⟨b,i,as6⟩ with|some v=>if dD (hk w) v v then as4 v else uU b v|none=>as6) else .dead}
theorem VV {b:Nat} {v u:as7} (h:uU b v=as4 u):∃a,v= .slice (as4 a) 0 0/\u= .slice (as4 ⟨b,0,as6⟩) 0 0:=by
 unfold uU at h
 grind
theorem uB {w:World} {b:Nat} {e:jS} (h:hk w b=as4 e):b<w.heap.size/\e.aS=b:=by
 grind [hk]
theorem Xe {w:World} {b:Nat} {e:jS} (h:hk w b=as4 e):e.dS=0:=by
 grind [hk]
theorem ahQ {w:World} {b i:Nat} {v:as7} (h:w.cell? ⟨b,i,as6⟩=as4 v) (ab:dD (hk w) v v):(ho w).load b i=as4 v:=by
 have bS:b<w.heap.size:=avg w ⟨b,i,as6⟩ h;simp[Mem.load,ho,bS,h,ab]
theorem Xr (w:World):WF (ho w) where
 dead:=fun b ag=>by have ag:w.heap.size<=b:=ag;simp[ho,show ¬b<w.heap.size by omega]
 low:=fun b=>by
  simp only[ho];split
  ·intro i v aj;simp only at aj;split at aj
   ·split at aj
    ·rename_i ab;cases aj;exact (FW (fun b e h=>(uB h).1)).1 ab
    ·obtain ⟨a,_,rfl⟩:=VV aj;assumption
   ·cases aj
  ·exact atm
theorem ain (P:atb) (w:World) (au:lB P w):Rel P (hk w) (ho w) w:=by
 refine ⟨⟨?_, ?_, ?_⟩,au,fun b e ag an=>by obtain ⟨U,aa⟩:=uB ag;simp[ho,U,bm.h4] at an⟩
 ·intro b e ag;obtain ⟨U,aa⟩:=uB ag;exact ⟨U,by rw[aa];exact U⟩
 ·intro b e ag;obtain ⟨U,aa⟩:=uB ag;simp only[ho,U,if_true];intro i v aj;simp only at aj;have cell:∀u,w.cell? ⟨b,i,as6⟩=as4 u->∃(cs:Array as7) (t:atc) (bi:Nat×Nat),w.heap[e.aS]? =as4 (.cells cs t bi)/\cs[i]? =as4 u:=by
   intro u hu;rw[aa];simp only[at6] at hu;split at hu
   ·rename_i c t f ah;exact ⟨c,t,f,ah,by simpa using hu⟩
   ·cases hu
  split at aj
  ·rename_i u hu;obtain ⟨cs,t,bi,aU,aO⟩:=cell u hu;split at aj
   ·rename_i ab;cases aj;exact ⟨cs,t,bi,_,aU,by rw[Xe ag,atB];exact aO,ab⟩
   ·obtain ⟨a,rfl,rfl⟩:=VV aj;exact ⟨cs,t,bi,_,aU,by rw[Xe ag,atB];exact aO,e,rfl,ag, .inr (.inr (.inr (.inl ⟨rfl,rfl,a,rfl⟩)))⟩
  ·cases aj
 ·intro b cR e b0 ag ej an;obtain ⟨U,aa⟩:=uB ag;simp[ho,U,bm.h4] at an
theorem ag3 {P:atb} (nE:P.follows .mixedOrders=as5) {f:FuncId} {args:Array as7} {w:World} (au:lB P w) (tJ:∀a∈args.toList,cL (hk w) a a) (h:hi P f args (ho w) fun v _=>v= .bool as5):
  Calls P f args w fun e w'=>e= .returned (.bool as5)/\RowKit.Below w.heap.size w w':=by
 obtain ⟨n,v,m',U,rfl⟩:=h;have aE:=(VB nE n).2 f args (ho w) _ m' U (hk w) w args (Xr w) (ain P w au) (by
  have:∀l:List as7,(∀a∈l,cL (hk w) a a)->bp (cL (hk w)) l l:=by
   intro l;induction l with
   |nil=>intro _;exact atm
   |cons a l aq=>intro h;exact ⟨h a (by simp),aq fun b ag=>h b (by simp[ag])⟩
  exact this _ tJ)
 refine aE.2.mono ?_;rintro e w' ⟨ba,bZ,rfl,aL,ab⟩;have hD:=ab.bool;subst hD;refine ⟨rfl,aL.eY.os,aL.eY.tape,aL.eY.output,aL.eY.size,fun k ar=>aL.eY.block k ar fun b e ag an=> ?_⟩;obtain ⟨U,aa⟩:=uB ag;simp[ho,U,bm.h4] at an
end Go.ay
end
section
namespace Go.ay
def bm.hv:bm->Prop
 | .dead| .lock _ _ _ _=>False
 |_=>True
def bm.mem:bm->bm
 | .lock _ _ L t=> .own L t
 |b=>b
theorem bm.hv.ne {x:bm} (h:x.hv):x≠ .dead:=fun e=>by rw[e] at h;exact h
theorem bm.hv.mem {x:bm} (h:x.hv):x.mem=x:=by cases x<;>first|rfl|exact h.elim
def jU (z:Nat->bm) (m:Mem):Prop:=∀b,z b≠ .dead->m.aS b=(z b).mem/\b<m.next
theorem jU.hv {z:Nat->bm} {m:Mem} (h:jU z m) {b:Nat} (ag:(z b).hv):m.aS b=z b/\b<m.next:=by
 have:=h b ag.ne;rw[ag.mem] at this
 grind
def eM (z z':Nat->bm):Prop:=∀b,(z b).hv->z' b=z b
theorem eM.refl (z:Nat->bm):eM z z:=fun _ _=>rfl
theorem eM.trans {a b c:Nat->bm} (h:eM a b) (k:eM b c):eM a c:=fun x ad=>by
 have U:=h x ad;rw[k x (by grind),U]
def ll (z:Nat->bm) (b o:Nat):Option as7:=
 match z b with
 | .ro rd=>rd o
 | .own L _=>L[o]?
 | .map _ _=>as6
 | .lock _ _ _ _=>as6
 | .dead=>as6
theorem y7 {z:Nat->bm} {b o:Nat} {v:as7} (h:ll z b o=as4 v):(z b).hv:=by
 unfold ll at h;cases a4:z b with
 |dead=>grind
 |lock _ _ _ _=>grind
 |_=>exact atm
theorem aiQ {z z':Nat->bm} (h:eM z z') {b o:Nat} {v:as7} (ax:ll z b o=as4 v):ll z' b o=as4 v:=by
 have:=h b (y7 ax)
 grind [ll]
theorem OG {z:Nat->bm} {m:Mem} (h:jU z m) {b o:Nat} {v:as7} (ax:ll z b o=as4 v):m.load b o=as4 v:=by
 have:=(h b (y7 ax).ne).1;rw[(y7 ax).mem] at this
 grind [ll,Mem.load]
structure cr (aB:Type) where
 a9:Nat
 tid:atc
 rd:(Nat->bm)->aB->List as7->Prop
 len:∀z x cs,rd z x cs->cs.length=a9
 mono:∀z z',eM z z'->∀x cs,rd z x cs->rd z' x cs
 one:∀z x cs,rd z x cs->∀c∈cs,storable c=as5/\c.cells=#[c]
def mW (z:Nat->bm) (b o:Nat) (cs:List as7):Prop:=∀(i:Nat) (u:as7),cs[i]? =as4 u->ll z b (o+i)=as4 u
def mX (L:List as7) (o:Nat) (cs:List as7):Prop:=∀(i:Nat) (u:as7),cs[i]? =as4 u->L[o+i]? =as4 u
def eC {aB:Type} (T:cr aB) (z:Nat->bm) (xs:List aB) (v:as7):Prop:=
 (v= .slice as6 0 0/\xs=[])\/
 ∃b off c,v= .slice (as4 ⟨b,off,as6⟩) xs.length c/\(z b).hv/\((c=cF/\∃L,z b= .own L T.tid/\off+xs.length*T.a9<=L.length)\/(c<cF/\xs.length<=c))/\
  ∀(i:Nat) (x:aB),xs[i]? =as4 x->∃cs,T.rd z x cs/\mW z b (off+i*T.a9) cs
theorem E8 {z z':Nat->bm} (h:eM z z') {b o:Nat} {cs:List as7} (ah:mW z b o cs):mW z' b o cs:=fun i u aj=>aiQ h (ah i u aj)
theorem eC.mono {aB:Type} {T:cr aB} {z z':Nat->bm} (h:eM z z') {xs:List aB} {v:as7} (aE:eC T z xs v):eC T z' xs v:=by
 rcases aE with aE|⟨b,off,c,U,aa,ao,aN⟩
 ·exact .inl aE
 ·refine .inr ⟨b,off,c,U,by rw[h b aa];grind, ?_,fun i x aj=> ?_⟩
  ·rcases ao with ⟨ao,L,bI,eg⟩|ao
   ·exact .inl ⟨ao,L,by rw[h b aa];grind,eg⟩
   grind
  ·obtain ⟨cs,aU,aO⟩:=aN i x aj;exact ⟨cs,T.mono z z' h x cs aU,E8 h aO⟩
theorem eC.nil {aB:Type} {T:cr aB} {z:Nat->bm}:eC T z [] (.slice as6 0 0):= .inl ⟨rfl,rfl⟩
theorem eC.len {aB:Type} {T:cr aB} {z:Nat->bm} {xs:List aB} {v:as7} (h:eC T z xs v):∃a c,v= .slice a xs.length c:=by
 rcases h with ⟨rfl,rfl⟩|⟨b,off,c,rfl,_⟩
 ·simp_all
 grind
def cY:as7->Option Nat
 | .slice (as4 a) _ _=>as4 a.block
 | .pointer (as4 a)=>as4 a.block
 |_=>as6
def e9 {aB:Type} (T:cr aB) (z:Nat->bm) (m:Mem) (xs:List aB) (v:as7):Prop:=
 (v= .slice as6 0 0/\xs=[])\/
 ∃b o L c,v= .slice (as4 ⟨b,o,as6⟩) xs.length c/\m.aS b= .own L T.tid/\b<m.next/\z b= .dead/\o+xs.length*T.a9<=L.length/\(c=cF\/(c<cF/\xs.length<=c/\o+c*T.a9<=L.length))/\
  ∀(i:Nat) (x:aB),xs[i]? =as4 x->∃cs,T.rd z x cs/\mX L (o+i*T.a9) cs
theorem e9.xT {aB:Type} {T:cr aB} {z:Nat->bm} {m:Mem} {xs:List aB} {v:as7} (h:∃b L c,v= .slice (as4 ⟨b,0,as6⟩) xs.length c/\m.aS b= .own L T.tid/\b<m.next/\z b= .dead/\xs.length*T.a9<=L.length/\(c=cF\/(c<cF/\xs.length<=c/\c*T.a9<=L.length))/\
  ∀(i:Nat) (x:aB),xs[i]? =as4 x->∃cs,T.rd z x cs/\mX L (i*T.a9) cs):e9 T z m xs v:=by
 obtain ⟨b,L,c,U,aa,ao,aN,bI,eg,g7⟩:=h;exact .inr ⟨b,0,L,c,U,aa,ao,aN,by grind,by grind,fun i x ad=>by grind⟩
theorem e9.nil {aB:Type} {T:cr aB} {z:Nat->bm} {m:Mem}:e9 T z m [] (.slice as6 0 0):= .inl ⟨rfl,rfl⟩
theorem e9.frame {aB:Type} {T:cr aB} {z:Nat->bm} {m m':Mem} {xs:List aB} {v:as7} (h:e9 T z m xs v) (ag:∀b,cY v=as4 b->b<m.next->m'.aS b=m.aS b/\b<m'.next):e9 T z m' xs v:=by
 rcases h with h|⟨b,o,L,c,rfl,U,aa,ao,aN,bI,eg⟩
 ·exact .inl h
 ·obtain ⟨aU,aO⟩:=ag b rfl aa;exact .inr ⟨b,o,L,c,rfl,by grind,aO,ao,aN,bI,eg⟩
theorem e9.lt {aB:Type} {T:cr aB} {z:Nat->bm} {m:Mem} {xs:List aB} {v:as7} (h:e9 T z m xs v):∀b,cY v=as4 b->b<m.next/\z b= .dead:=by
 rcases h with ⟨rfl,_⟩|⟨b,o,L,c,rfl,U,aa,ao,_⟩
 ·intro b ag;cases ag
 ·intro cR ag;cases ag;grind
theorem e9.len {aB:Type} {T:cr aB} {z:Nat->bm} {m:Mem} {xs:List aB} {v:as7} (h:e9 T z m xs v):∃a c,v= .slice a xs.length c:=by
 rcases h with ⟨rfl,rfl⟩|⟨b,o,L,c,rfl,_⟩
 ·simp_all
 grind
def iK (z:Nat->bm) (m:Mem) (p:Option Nat):Nat->bm:=fun b=>if p=as4 b then m.aS b else z b
theorem zt {z:Nat->bm} {m:Mem} {p:Option Nat} (h:∀b,p=as4 b->z b= .dead):eM z (iK z m p):=by
 intro b ag;unfold iK;split
 ·exact absurd (h b ‹_›) ag.ne
 rfl
theorem Gf {z:Nat->bm} {m:Mem} {p:Option Nat} (h:jU z m) (aL:∀b,p=as4 b->b<m.next/\(m.aS b).mem=m.aS b):jU (iK z m p) m:=by
 intro b ag;unfold iK at ag⊢;split at ag
 ·grind
 ·rw[if_neg ‹_›];exact h b ag
theorem e9.aqF {aB:Type} {T:cr aB} {z:Nat->bm} {m:Mem} {xs:List aB} {v:as7} (h:e9 T z m xs v):eC T (iK z m (cY v)) xs v:=by
 rcases h with h|⟨b,o,L,c,rfl,U,aa,ao,aN,bI,eg⟩
 ·exact .inl h
 ·have a4:iK z m (cY (.slice (as4 ⟨b,o,as6⟩) xs.length c)) b= .own L T.tid:=by grind [iK,cY]
  have hle:eM z (iK z m (cY (.slice (as4 ⟨b,o,as6⟩) xs.length c))):=zt fun cR ej=>by cases ej;grind
  refine .inr ⟨b,o,c,rfl,by rw[a4];exact atm, ?_,fun i x aj=> ?_⟩
  ·grind
  ·obtain ⟨cs,aU,aO⟩:=eg i x aj;refine ⟨cs,T.mono _ _ hle x cs aU,fun k u ar=> ?_⟩;simp only[ll,a4];exact aO k u ar
def eB (p q:Option Nat):Prop:=∀b,p=as4 b->q≠as4 b
theorem eB.symm {p q:Option Nat} (h:eB p q):eB q p:=fun b bb aL=>h b aL bb
theorem eB.nH {q:Option Nat}:eB q Option.none:=fun _ _ h=>by grind
structure dp (z:Nat->bm) (e m:Mem) (k:Option Nat):Prop where
 bi:jU z m
 dead:∀b,m.next<=b->m.aS b= .dead
 l8:∀b,e.next<=b->e.aS b= .dead
 next:e.next<=m.next
 kept:∀b,b<e.next->k≠as4 b->m.aS b=e.aS b
theorem dp.start {z:Nat->bm} {m:Mem} {k:Option Nat} (h:jU z m) (aQ:∀b,m.next<=b->m.aS b= .dead):dp z m m k:=⟨h,aQ,aQ,atk _,fun _ _ _=>rfl⟩
theorem dp.push {z:Nat->bm} {e m:Mem} {k:Option Nat} (h:dp z e m k) (x:bm):dp z e (m.push x) k:=by
 refine ⟨fun b ag=> ?_,fun b ag=> ?_,h.l8,Nat.le_succ_of_le h.next,fun b ag ar=> ?_⟩
 ·have:=h.bi b ag
  grind [Mem.push]
 ·simp only[Mem.push] at ag⊢;rw[if_neg (by omega)];exact h.dead b (by omega)
 ·simp only[Mem.push];have:=h.next;rw[if_neg (by omega)];exact h.kept b ag ar
theorem dp.put {z:Nat->bm} {e m:Mem} {k:Option Nat} (h:dp z e m k) {b:Nat} (x:bm) (a4:z b= .dead) (bS:b<m.next) (ag:e.next<=b\/k=as4 b):dp z e (m.put b x) k:=by
 refine ⟨fun c ah=> ?_,fun c ah=> ?_,h.l8,h.next,fun c ah ar=> ?_⟩
 ·have:=h.bi c ah
  grind [Mem.put]
 ·have ah:m.next<=c:=ah;simp only[Mem.put];rw[if_neg (by omega)];exact h.dead c ah
 ·simp only[Mem.put];rw[if_neg ?_]
  ·exact h.kept c ah ar
  grind
structure fD (m m':Mem) (k:Option Nat):Prop where
 next:m.next<=m'.next
 dead:∀b,m'.next<=b->m'.aS b= .dead
 aS:∀b,b<m.next->k≠as4 b->m'.aS b=m.aS b
theorem dp.same {z:Nat->bm} {e m m':Mem} {k q:Option Nat} (h:dp z e m k) (s:fD m m' q) (bb:∀b,q=as4 b->z b= .dead/\(e.next<=b\/k=as4 b)):dp z e m' k:=by
 refine ⟨fun b ag=> ?_,s.dead,h.l8,atx h.next s.next,fun b ag ar=> ?_⟩
 ·have:=h.bi b ag;refine ⟨?_,atu this.2 s.next⟩;rw[s.aS b this.2 (fun st=>ag (bb b st).1)]
  grind
 ·rw[s.aS b (atu ag h.next) (fun st=> ?_)]
  ·exact h.kept b ag ar
  grind
theorem dp.aqG {z:Nat->bm} {e m:Mem} (h:dp z e m as6):m.lx e.next=e:=by
 have:(m.lx e.next).aS=e.aS:=by
  funext b;simp only[Mem.lx];split
  ·exact h.kept b ‹_› (by simp)
  ·exact (h.l8 b (by omega)).symm
 simp_all [Mem.lx]
def cr.flat {aB:Type} (t:atc) (f:aB->as7) (bd:∀x,cQ (f x)=as5):cr aB where
 a9:=1
 tid:=t
 rd:=fun _ x cs=>cs=[f x]
 len:=fun _ _ _ h=>by rw[h];rfl
 mono:=fun _ _ _ _ _ h=>h
 one:=fun _ x cs h c ah=>by rw[h] at ah;simp only[au2] at ah;subst ah;have:=bd x;cases ad:f x<;>simp[ad,cQ] at this<;>first|exact ⟨rfl,rfl⟩|exact ⟨by simp[storable,this],rfl⟩
def str (s:List UInt8):as7:= .string ⟨s.toArray⟩
def Di (t:atc) (k:as'):cr Int:=cr.flat t (fun n=> .int k n) fun _=>rfl
def zz (t:atc):cr Bool:=cr.flat t (fun n=> .bool n) fun _=>rfl
def Dj (t:atc):cr (List UInt8):=cr.flat t str fun _=>rfl
def LL {aB:Type} (t:atc) (T:cr aB):cr (List aB) where
 a9:=1
 tid:=t
 rd:=fun z xs cs=>∃v,cs=[v]/\eC T z xs v
 len:=fun _ _ _ h=>by obtain ⟨v,rfl,_⟩:=h;rfl
 mono:=fun _ _ h _ _ bJ=>by obtain ⟨v,U,aa⟩:=bJ;exact ⟨v,U,aa.mono h⟩
 one:=fun _ _ cs h c ah=>by obtain ⟨v,rfl,aa⟩:=h;simp only[au2] at ah;subst ah;obtain ⟨a,n,rfl⟩:=aa.len;exact ⟨rfl,rfl⟩
end Go.ay
end
section
namespace Go.ay
section
variable {P:atb} {af:atd->as7} {o:Oper}
theorem rD {x y:atd} (h:o.op.operands=#[x,y]) {v:as7} (aE:∀cs b,o.op≠ .select cs b) (ad:flat (af x)=as5) (aJ:flat (af y)=as5) (ab:flat v=as5) (aF:∀w,(execOp af o).run P w= .ok (.value v) w):cX P af o v:=by
 refine .flat v aE (fun z a4=> ?_) ab aF
 grind
theorem Ge {x:atd} (h:o.op.operands=#[x]) {v:as7} (aE:∀cs b,o.op≠ .select cs b) (ad:flat (af x)=as5) (ab:flat v=as5) (aF:∀w,(execOp af o).run P w= .ok (.value v) w):cX P af o v:=by
 refine .flat v aE (fun z a4=> ?_) ab aF
 grind
theorem afE {x:atd} {v:as7} (h:o.op= .move x) (ad:af x=v):cX P af o v:=ad▸ .move x (.inl h)
theorem aow {x:atd} {v:as7} (h:o.op= .assign x) (ad:af x=v):cX P af o v:=ad▸ .move x (.inr h)
theorem YY {c a b:atd} {t:Bool} {v:as7} (h:o.op= .pick c a b) (ah:af c= .bool t) (ab:(if t then af a else af b)=v):cX P af o v:=ab▸ .pick c a b t h ah
theorem WD {x:atd} {i:Nat} {vs:List as7} {v:as7} (h:o.op= .extract x i) (ad:af x= .tuple vs.toArray) (ab:vs[i]? =as4 v):cX P af o v:= .extract x i _ v h ad (by simpa using ab)
section
variable {x y:atd} {t u:atc} {k:as'} {a b:Int}
theorem mq {op:BinOp} (h:o.op= .binOp op t x y u) (ad:af x= .int k a) (aJ:af y= .int k b) {v:as7} (oi:∀w,(binOp op t (.int k a) (.int k b)).run P w= .ok v w) (ab:flat v=as5):cX P af o v:=by
 refine rD (x:=x) (y:=y) (by rw[h];rfl) (by grind) (by rw[ad];rfl) (by rw[aJ];rfl) ab fun w=> ?_;simp_all [eqGuard,execOp]
theorem mo {op:BinOp} (U:op≠ .shl) (aa:op≠ .shr) (w:World):(binOp op t (.int k a) (.int k b)).run P w=(match op with
   | .add| .sub| .mul=>Op.intArith op k a b
   | .quo| .rem=>Op.intDiv op k a b
   | .and| .or| .xor| .andNot=>Op.intBits op k a b
   |_=>Op.intCmp op a b).run P w:=by
 cases op<;>first|exact absurd rfl U|exact absurd rfl aa|grind [binOp]
theorem Va (h:o.op= .binOp .add t x y u) (ad:af x= .int k a) (aJ:af y= .int k b):cX P af o (.int k (k.wrap (a+b))):=mq h ad aJ (fun w=>by rw[mo (by simp) (by simp)];rfl) rfl
theorem Vm (h:o.op= .binOp .sub t x y u) (ad:af x= .int k a) (aJ:af y= .int k b):cX P af o (.int k (k.wrap (a - b))):=mq h ad aJ (fun w=>by rw[mo (by simp) (by simp)];rfl) rfl
theorem Vh (h:o.op= .binOp .mul t x y u) (ad:af x= .int k a) (aJ:af y= .int k b):cX P af o (.int k (k.wrap (a*b))):=mq h ad aJ (fun w=>by rw[mo (by simp) (by simp)];rfl) rfl
theorem NT (h:o.op= .binOp .quo t x y u) (ad:af x= .int k a) (aJ:af y= .int k b) (ag:b≠0):cX P af o (.int k (k.wrap (a.tdiv b))):=mq h ad aJ (fun w=>by rw[mo (by simp) (by simp)];simp[Op.intDiv,ag]) rfl
theorem NU (h:o.op= .binOp .rem t x y u) (ad:af x= .int k a) (aJ:af y= .int k b) (ag:b≠0):cX P af o (.int k (a.tmod b)):=mq h ad aJ (fun w=>by rw[mo (by simp) (by simp)];simp[Op.intDiv,ag]) rfl
def nL (op:BinOp) (k:as') (x y:Int):Int:=
 let a:=ave k.bits x
 let b:=ave k.bits y
 match op with
 | .and=>k.wrap (a&&&b).toNat
 | .or=>k.wrap (a|||b).toNat
 | .xor=>k.wrap (a ^^^ b).toNat
 |_=>k.wrap (a&&&~~~b).toNat
theorem Vb (h:o.op= .binOp .and t x y u) (ad:af x= .int k a) (aJ:af y= .int k b):cX P af o (.int k (nL .and k a b)):=mq h ad aJ (fun w=>by rw[mo (by simp) (by simp)];rfl) rfl
theorem Vl (h:o.op= .binOp .or t x y u) (ad:af x= .int k a) (aJ:af y= .int k b):cX P af o (.int k (nL .or k a b)):=mq h ad aJ (fun w=>by rw[mo (by simp) (by simp)];rfl) rfl
theorem Vn (h:o.op= .binOp .xor t x y u) (ad:af x= .int k a) (aJ:af y= .int k b):cX P af o (.int k (nL .xor k a b)):=mq h ad aJ (fun w=>by rw[mo (by simp) (by simp)];rfl) rfl
theorem aov (h:o.op= .binOp .andNot t x y u) (ad:af x= .int k a) (aJ:af y= .int k b):cX P af o (.int k (nL .andNot k a b)):=mq h ad aJ (fun w=>by rw[mo (by simp) (by simp)];rfl) rfl
theorem Vc (h:o.op= .binOp .eql t x y u) (ad:af x= .int k a) (aJ:af y= .int k b):cX P af o (.bool (a==b)):=mq h ad aJ (fun w=>by rw[mo (by simp) (by simp)];rfl) rfl
theorem Vj (h:o.op= .binOp .neq t x y u) (ad:af x= .int k a) (aJ:af y= .int k b):cX P af o (.bool (a !=b)):=mq h ad aJ (fun w=>by rw[mo (by simp) (by simp)];rfl) rfl
theorem Vg (h:o.op= .binOp .lss t x y u) (ad:af x= .int k a) (aJ:af y= .int k b):cX P af o (.bool (decide (a<b))):=mq h ad aJ (fun w=>by rw[mo (by simp) (by simp)];rfl) rfl
theorem Vf (h:o.op= .binOp .leq t x y u) (ad:af x= .int k a) (aJ:af y= .int k b):cX P af o (.bool (decide (a<=b))):=mq h ad aJ (fun w=>by rw[mo (by simp) (by simp)];rfl) rfl
theorem Ve (h:o.op= .binOp .gtr t x y u) (ad:af x= .int k a) (aJ:af y= .int k b):cX P af o (.bool (decide (b<a))):=mq h ad aJ (fun w=>by rw[mo (by simp) (by simp)];rfl) rfl
theorem Vd (h:o.op= .binOp .geq t x y u) (ad:af x= .int k a) (aJ:af y= .int k b):cX P af o (.bool (decide (b<=a))):=mq h ad aJ (fun w=>by rw[mo (by simp) (by simp)];rfl) rfl
theorem Px {op:BinOp} {ZM:as'} (h:o.op= .binOp op t x y u) (ad:af x= .int k a) (aJ:af y= .int ZM b) (ag:0<=b) (oi:op= .shl\/op= .shr):
  cX P af o (.int k (if op= .shl then k.wrap (a*2 ^ (min b.toNat k.bits)) else a.fdiv (2 ^ (min b.toNat k.bits)))):=by
 refine rD (x:=x) (y:=y) (by rw[h];rfl) (by grind) (by rw[ad];rfl) (by rw[aJ];rfl) rfl fun w=> ?_;have a2:¬b<0:=by omega
 rcases oi with rfl|rfl
 ·simp[execOp,h,ad,aJ,eqGuard,binOp,Op.shift,a2]
 ·simp[execOp,h,ad,aJ,eqGuard,binOp,Op.shift,a2]
theorem Vk {b:Bool} (h:o.op= .unOp .not t x) (ad:af x= .bool b):cX P af o (.bool (!b)):=
 Ge (x:=x) (by rw[h];rfl) (by grind) (by rw[ad];rfl) rfl fun w=>by simp only[execOp,h,ad];rfl
theorem Vi (h:o.op= .unOp .neg t x) (ad:af x= .int k a):cX P af o (.int k (k.wrap (0 - a))):=
 Ge (x:=x) (by rw[h];rfl) (by grind) (by rw[ad];rfl) rfl fun w=>by simp only[execOp,h,ad];rfl
theorem Zk {d:TypeDesc} {cK:as'} (h:o.op= .convert t u x) (au:P.underlying t=as4 d) (hu:P.underlying u=as4 (.int cK)) (ad:af x= .int k a):cX P af o (.int cK (cK.wrap a)):=
 Ge (x:=x) (by rw[h];rfl) (by grind) (by rw[ad];rfl) rfl fun w=>by simp_all [execOp,convert,eU,Conv.intToInt]
theorem YU {ts:Array atc} (h:o.op= .call {callee:= .builtin .max,args:=#[x,y],argTypes:=ts}) (ad:af x= .int k a) (aJ:af y= .int k b):cX P af o (.int k (max a b)):=by
 refine rD (x:=x) (y:=y) (by rw[h];rfl) (by grind) (by rw[ad];rfl) (by rw[aJ];rfl) rfl fun w=> ?_;have:(aul k (if b>a then b else a))= .int k (max a b):=by grind
 simp_all [execOp,resolve,invoke,builtin,Builtin.max_,Builtin.max2]
theorem YV {ts:Array atc} (h:o.op= .call {callee:= .builtin .min,args:=#[x,y],argTypes:=ts}) (ad:af x= .int k a) (aJ:af y= .int k b):cX P af o (.int k (min a b)):=by
 refine rD (x:=x) (y:=y) (by rw[h];rfl) (by grind) (by rw[ad];rfl) (by rw[aJ];rfl) rfl fun w=> ?_;have:(aul k (if b<a then b else a))= .int k (min a b):=by grind
 simp_all [execOp,resolve,invoke,builtin,Builtin.min_,Builtin.min2]
end
section
variable {x y:atd} {t u:atc} {s r:List UInt8}
theorem yZ:(⟨s.toArray⟩:ByteArray).size=s.length:=by rfl
theorem Zq {ts:Array atc} (h:o.op= .call {callee:= .builtin .len,args:=#[x],argTypes:=ts}) (UJ:ts[0]? =as4 t) (au:P.underlying t=as4 .string) (ad:af x=str s):cX P af o (.int .i64 s.length):=
 Ge (x:=x) (by rw[h];rfl) (by grind) (by rw[ad];rfl) rfl fun w=>by simp[execOp,h,ad,resolve,invoke,builtin,Builtin.len_,UJ,str,eU au,goInt,yZ]
theorem XO {k:as'} {n:Int} {c:UInt8} (h:o.op= .index t x y) (au:P.underlying t=as4 .string) (ad:af x=str s) (aJ:af y= .int k n) (bg:0<=n) (ah:s[n.toNat]? =as4 c):cX P af o (.int .u8 c.toNat):=by
 refine rD (x:=x) (y:=y) (by rw[h];rfl) (by grind) (by rw[ad];rfl) (by rw[aJ];rfl) rfl fun w=> ?_;have a5:(⟨s.toArray⟩:ByteArray)[n.toNat]? =as4 c:=by have bS:=(atp.1 ah).1;have aa:=(atp.1 ah).2;rw[getElem?_pos (h:=by grind [yZ])];congr 1
 simp_all [execOp,Instr.index,asIntOf,eU,str]
theorem ag0 (i k:Nat):(⟨s.toArray⟩:ByteArray).extract i k=⟨((s.take k).drop i).toArray⟩:=by
 have:((⟨s.toArray⟩:ByteArray).extract i k).data=((s.take k).drop i).toArray:=by
  grind [ByteArray.data_extract]
 cases ag:(⟨s.toArray⟩:ByteArray).extract i k
 grind
theorem XP {bD aj:Option atd} {a b:Nat} (h:o.op= .slice t x bD aj as6) (au:P.underlying t=as4 .string) (ad:af x=str s) (ef:nM af bD a) (dA:lq af aj s.length b)
  (U:a<=b) (aa:b<=s.length):cX P af o (str ((s.take b).drop a)):=by
 refine .flat _ (by grind) (fun z a4=> ?_) rfl fun w=> ?_
 ·rw[h] at a4;cases bD with
  |none=>cases aj with
   |none=>simp[atg] at a4;subst a4;rw[ad];rfl
   |some y=>
    obtain ⟨k,aJ⟩:=dA;simp[atg] at a4;rcases a4 with rfl|rfl
    ·rw[ad];rfl
    ·rw[aJ];rfl
  |some q=>
   obtain ⟨cK,bb⟩:=ef;cases aj with
   |none=>
    simp[atg] at a4;rcases a4 with rfl|rfl
    ·rw[ad];rfl
    ·rw[bb];rfl
   |some y=>
    obtain ⟨k,aJ⟩:=dA;simp[atg] at a4;rcases a4 with rfl|rfl|rfl
    ·rw[ad];rfl
    ·rw[bb];rfl
    ·rw[aJ];rfl
 ·have kO:(atA as9 s.length s.length (bD.map af) (aj.map af) as6).run P w= .ok (a,b,s.length) w:=by
   cases bD with
   |none=>
    simp only[nM] at ef;subst ef;cases aj with
    |none=>simp_all [lq,atA]
    |some y=>obtain ⟨k,aJ⟩:=dA;simp_all [atA,at1,asIntOf]
   |some q=>
    obtain ⟨cK,bb⟩:=ef;cases aj with
    |none=>simp only[lq] at dA;simp_all [atA,at1,asIntOf]
    |some y=>obtain ⟨k,aJ⟩:=dA;simp_all [atA,at1,asIntOf]
  simp only[execOp,h,auK,atE,eU au,atz,au9,auL,ad,str,Option.isSome_none,avy,if_false,atK,yZ,kO,ag0]
theorem uF {op:BinOp} (h:o.op= .binOp op t x y u) (ad:af x=str s) (aJ:af y=str r) (q0:op≠ .shl/\op≠ .shr) {v:as7} (oi:∀w,(auR op ⟨s.toArray⟩ ⟨r.toArray⟩).run P w= .ok v w) (ab:flat v=as5):cX P af o v:=by
 refine rD (x:=x) (y:=y) (by rw[h];rfl) (by grind) (by rw[ad];rfl) (by rw[aJ];rfl) ab fun w=> ?_;simp_all [eqGuard,str,binOp,execOp]
def oB (s r:List UInt8):Bool:=Op.bytesLess s r
theorem JH (l:List UInt8):(⟨l.toArray⟩:ByteArray).toList=l:=by simp_all
theorem Zm (h:o.op= .binOp .eql t x y u) (ad:af x=str s) (aJ:af y=str r):cX P af o (.bool (s==r)):=uF h ad aJ (by simp) (fun w=>by simp_all [auR]) rfl
theorem YX (h:o.op= .binOp .neq t x y u) (ad:af x=str s) (aJ:af y=str r):cX P af o (.bool (!(s==r))):=uF h ad aJ (by simp) (fun w=>by simp_all [auR]) rfl
theorem YT (h:o.op= .binOp .lss t x y u) (ad:af x=str s) (aJ:af y=str r):cX P af o (.bool (oB s r)):=uF h ad aJ (by simp) (fun w=>by simp only[auR,JH];rfl) rfl
theorem YS (h:o.op= .binOp .leq t x y u) (ad:af x=str s) (aJ:af y=str r):cX P af o (.bool (oB s r||(s==r))):=uF h ad aJ (by simp) (fun w=>by simp only[auR,JH];rfl) rfl
theorem Zp (h:o.op= .binOp .gtr t x y u) (ad:af x=str s) (aJ:af y=str r):cX P af o (.bool (!(oB s r||(s==r)))):=uF h ad aJ (by simp) (fun w=>by simp only[auR,JH];rfl) rfl
theorem Zo (h:o.op= .binOp .geq t x y u) (ad:af x=str s) (aJ:af y=str r):cX P af o (.bool (!oB s r)):=uF h ad aJ (by simp) (fun w=>by simp only[auR,JH];rfl) rfl
theorem aog:(⟨s.toArray⟩:ByteArray)++(⟨r.toArray⟩:ByteArray)=⟨(s++r).toArray⟩:=by
 rfl
theorem Zj (h:o.op= .binOp .add t x y u) (ad:af x=str s) (aJ:af y=str r) (ax:s.length+r.length<=9223372036854775807):cX P af o (str (s++r)):=uF h ad aJ (by simp) (fun w=>by
 simp only[auR,yZ,aut.2 ax];rw[if_neg (by show ¬_>(9223372036854775807:Int);omega),aog];rfl) rfl
theorem V0 {op:BinOp} {a b:Bool} (h:o.op= .binOp op t x y u) (au:P.underlying t=as4 .bool) (ad:af x= .bool a) (aJ:af y= .bool b) (oi:op= .eql\/op= .neq):cX P af o (.bool (if op= .eql then a==b else !(a==b))):=by
 refine rD (x:=x) (y:=y) (by rw[h];rfl) (by grind) (by rw[ad];rfl) (by rw[aJ];rfl) rfl fun w=> ?_;have he:(Op.equal t (.bool a) (.bool b)).run P w= .ok (a==b) w:=by
  have aQ:∀d:Nat,(Op.equalIn (d+1) t (.bool a) (.bool b)).run P w= .ok (a==b) w:=fun d=>by simp only[Op.equalIn,atE,eU au,atz,atK]
  exact aQ 9999
 have a5:(eqGuard op t x y (.bool a) (.bool b)).run P w= .ok () w:=by rcases oi with rfl|rfl<;>rfl
 have ag:(binOp op t (.bool a) (.bool b)).run P w= .ok (.bool (if op= .eql then a==b else !(a==b))) w:=by
  rcases oi with rfl|rfl
  ·show (do pure (as7.bool (<-Op.equal t (.bool a) (.bool b))):Sem as7).run P w=_;simp_all
  ·show (do pure (as7.bool (!(<-Op.equal t (.bool a) (.bool b)))):Sem as7).run P w=_;simp_all
 grind [execOp,atE,atz,atK]
theorem Zl {a b:Bool} (h:o.op= .binOp .eql t x y u) (au:P.underlying t=as4 .bool) (ad:af x= .bool a) (aJ:af y= .bool b):cX P af o (.bool (a==b)):=V0 h au ad aJ (.inl rfl)
theorem YW {a b:Bool} (h:o.op= .binOp .neq t x y u) (au:P.underlying t=as4 .bool) (ad:af x= .bool a) (aJ:af y= .bool b):cX P af o (.bool (!(a==b))):=V0 h au ad aJ (.inr rfl)
end
end
end Go.ay
end
