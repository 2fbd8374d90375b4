import Derived.Calls
import Derived.Orders
import Derived.Tactics
import Derived.Below
import Derived.WalkKit
import Derived.WalkSpells
import Derived.Scope
set_option linter.unusedSimpArgs false
set_option linter.unusedVariables false
open Array renaming ext'->ar6,ext_getElem?->atZ,foldl_toList->aub,getD->asV,getD_eq_getD_getElem?->atE,getElem?_append_left->att,getElem?_eq_some_iff->ar2,getElem?_modify->at0,getElem?_push->atV,getElem?_setIfInBounds_ne->atW,getElem?_setIfInBounds_self_of_lt->aur,getElem?_toList->asZ,getElem_setIfInBounds->aus,isEmpty_iff->at1,mem_of_getElem?->as0,range->asS,replicate->asf,toList_append->aue,toList_extract->auc,toList_map->asF
open Bool renaming and_eq_true->aq5,false_eq_true->arz,not_eq_true'->ar',or_eq_true->ar1,false->aqT,true->aqQ
open Go renaming IntKind->aqW,Operand->aqX,Program->aqV,TypeId->aqY,Value->aqR
open Go.Builtin renaming append_->asT,firstCells->asx,lenOf->atd,zeroCells->atv
open Go.Call renaming operands->arX
open Go.Conv renaming bytesToString->aud
open Go.Instr renaming lookup->ats,mapUpdate->auf,slice->atr,sliceAt->atq,sliceBound->asl,sliceBounds->arJ,sureAddr->atA
open Go.IntKind renaming wrap->aq0
open Go.Op renaming equalIn->as5,operands->aq4,stringOp->as4
open Go.Oper renaming wp->asU
open Go.Program renaming cellsOf->arY
open Go.Question renaming forced->atX
open Go.Region renaming before->arF,binds->asH,ready->atx,wanted->atD
open Go.Result renaming andThen_ok->arh
open Go.Sem renaming run_bind->arl,run_pure->ary
open Go.Value renaming int->asG
open Go.World renaming cell?->as1,freeze->atY
open List renaming all_cons->arL,all_eq_true->aq8,eq_nil_of_length_eq_zero->asr,ext_getElem?->asw,extract_eq_drop_take'->atT,filter_cons->asO,flatMap_cons->ash,getElem?_cons_succ->asy,getElem?_cons_zero->as3,getElem?_drop->ar0,getElem?_eq_some_iff->aqZ,getElem?_map->arB,getElem?_take->arD,getElem?_toArray->atC,length_append->ari,length_cons->arr,length_drop->ar4,length_nil->asR,length_take->arA,map_cons->arG,map_nil->ate,mem_append->arc,mem_cons->aq6,mem_filter->aty,mem_flatMap->asz,mem_map->aq',mem_of_getElem?->aq7,mem_of_mem_drop->ati,mem_of_mem_take->ath,mem_range->ar5,mem_singleton->arO,mem_toArray->asY,not_mem_nil->asB,range->arI,replicate->arq,take_zero->atu
open Nat renaming add_assoc->arx,add_eq_left->at2,add_mul->arm,add_zero->arC,le_of_lt->arU,le_refl->aq3,le_succ->arE,le_trans->arj,lt_irrefl->ata,lt_of_le_of_lt->as',lt_of_lt_of_le->aro,lt_or_ge->arK,lt_succ_of_lt->atf,lt_succ_self->arP,lt_trichotomy->asA,min->asE,mul_le_mul_right->ar9,not_lt->as9,one_mul->asp,one_ne_zero->atB,zero_add->ara,zero_le->ar7,zero_mul->ar8
open Option renaming getD_some->asg,map_none->atU,map_some->asv,some->ark,none->aqS,some->aqP
open True renaming intro->arb
section
namespace Go.aS
def dr:Nat:=9223372036854775808
structure iL where
 aH:Nat
 cap:Nat
 es:Nat
 dO:Nat
def bq:Type:=Nat->Option iL
inductive a6 where
 |dead
 |ro (rd:Nat->Option aqR)
 |own (cells:List aqR) (elem:aqY)
 |map (cells:List aqR) (type:aqY)
 |lock (nest at_:Nat) (cells:List aqR) (elem:aqY)
def a6.hK:a6->Bool
 | .own _ _| .map _ _=>aqQ
 |_=>aqT
def a6.live:a6->Bool
 | .dead=>aqT
 |_=>aqQ
structure Mem where
 next:Nat
 aH:Nat->a6
def Mem.load (m:Mem) (b o:Nat):Option aqR:=
 match m.aH b with
 | .ro rd=>rd o
 | .own L _=>L[o]?
 | .map _ _=>aqS
 | .lock _ _ _ _=>aqS
 | .dead=>aqS
def Mem.put (m:Mem) (b:Nat) (x:a6):Mem:={m with aH:=fun i=>if i=b then x else m.aH i}
def Mem.push (m:Mem) (x:a6):Mem:={next:=m.next+1,aH:=fun i=>if i=m.next then x else m.aH i}
def Mem.lA (m:Mem) (n:Nat):Mem:={next:=n,aH:=fun i=>if i<n then m.aH i else .dead}
def ba {ap bx:Type} (R:ap->bx->Prop):List ap->List bx->Prop
 |[],[]=>True
 |a::l,b::k=>R a b/\ba R l k
 |_,_=>False
def jj (j:bq):aqR->aqR->Prop
 | .pointer (aqP a),aV=>∃e,a.spot=aqS/\j a.block=aqP e/\aV= .pointer (aqP ⟨e.aH,e.dO+a.off,aqS⟩)
 |_,_=>False
def dy (j:bq):aqR->aqR->Prop
 | .pointer (aqP a),aV=>∃e,a.spot=aqS/\j a.block=aqP e/\aV= .pointer (aqP ⟨e.aH,e.dO+a.off,aqS⟩)
 | .slice (aqP a) l c,aV=>∃e,a.spot=aqS/\j a.block=aqP e/\
   ((c<dr/\aV= .slice (aqP ⟨e.aH,e.dO+a.off,aqS⟩) l c)\/
    (c=dr/\0<e.es/\l<=e.cap - a.off / e.es/\e.cap<dr/\a.off%e.es=0/\a.off / e.es<=e.cap/\aV= .slice (aqP ⟨e.aH,e.dO+a.off,aqS⟩) l (e.cap - a.off / e.es))\/
    (c=dr/\l=0/\∃o',aV= .slice (aqP ⟨e.aH,o',aqS⟩) 0 0)\/
    (c=0/\l=0/\∃a',aV= .slice (aqP a') 0 0))
 | .map (aqP r),aV=>∃e,j r=aqP e/\aV= .map (aqP e.aH)
 | .func fn bc cs,aV=>bc=#[]/\∃ds:Array aqR,aV= .func fn #[] ds/\ba (jj j) cs.toList ds.toList
 | .chan _,_| .iface ..,_| .agg _,_| .tuple _,_=>False
 |v,aV=>aV=v
def eA (j:bq):aqR->aqR->Prop
 | .agg cs,aV=>∃ds:Array aqR,aV= .agg ds/\ba (dy j) cs.toList ds.toList
 |v,aV=>dy j v aV
def b9 (j:bq):aqR->aqR->Prop
 | .chan _,aV=>∀b,aV≠ .bool b
 | .tuple cs,aV=>∃ds:Array aqR,aV= .tuple ds/\ba (eA j) cs.toList ds.toList
 | .func fn bc cs,aV=>∃gs ds:Array aqR,aV= .func fn gs ds/\ba (eA j) bc.toList gs.toList/\ba (eA j) cs.toList ds.toList
 |v,aV=>eA j v aV
def cv:aqR->Bool
 | .bool _| .int _ _| .float _ _| .complex _ _ _| .string _| .pointer aqS| .slice aqS _ _| .map aqS| .nilFunc| .nilIface=>aqQ
 | .func _ bc cs=>bc.isEmpty&&cs.isEmpty
 |_=>aqT
def jE:TypeDesc->Bool
 | .struct _| .array _ _=>aqQ
 |_=>aqT
def cT (P:aqV) (t:aqY):Bool:=
 match P.underlying t with
 |some d=>jE d
 |none=>aqT
def cZ:Bool->List aqR->aqR
 |true,cs=> .agg cs.toArray
 |false,cs=>cs.headD undef
structure nJ (ks vs:Nat) (L:List aqR) (E:List (List aqR×List aqR)):Prop where
 eq:L=E.flatMap fun p=>p.1++p.2
 len:∀p∈E,p.1.length=ks/\p.2.length=vs
def rf (P:aqV) (j:bq) (kt vt:aqY) (p:List aqR×List aqR) (x:MapEntry):Prop:=
 x.key=cZ (cT P kt) p.1/\p.1.all cv=aqQ/\eA j (cZ (cT P vt) p.2) x.val
def wC (cs:Array MapEntry) (clock:Nat):Prop:=(cs.toList.map (·.born)).Nodup/\∀x∈cs.toList,x.born<clock
def nM (P:aqV) (j:bq) (e:iL) (o:Option Obj):a6->Prop
 | .dead=>True
 | .ro rd=>∀i v,rd i=aqP v->∃(cs:Array aqR) (t:aqY) (bg:Nat×Nat) (aV:aqR),o=aqP (.cells cs t bg)/\cs[e.dO+i]? =aqP aV/\dy j v aV
 | .own L t=>∃(cs:Array aqR) (bg:Nat×Nat),o=aqP (.cells cs t bg)/\(∀i:Nat,i<cs.size->¬(bg.1<=i/\i<bg.2))/\
  P.cellsOf t=e.es/\e.dO+e.cap*e.es<=cs.size/\L.length<=e.cap*e.es/\∀(i:Nat) (v:aqR),L[i]? =aqP v->∃aV,cs[e.dO+i]? =aqP aV/\dy j v aV
 | .map L u=>∃(kt vt:aqY) (cs:Array MapEntry) (clock:Nat) (E:List (List aqR×List aqR)),o=aqP (.map cs clock)/\P.underlying u=aqP (.map kt vt)/\
  nJ (P.cellsOf kt) (P.cellsOf vt) L E/\ba (rf P j kt vt) E cs.toList/\wC cs clock
 | .lock _ _ _ _=>False
structure Rel (P:aqV) (j:bq) (m:Mem) (w:World):Prop where
 lt:∀b e,j b=aqP e->b<m.next/\e.aH<w.heap.size
 obj:∀b e,j b=aqP e->nM P j e w.heap[e.aH]? (m.aH b)
 inj:∀b b2 e bw,j b=aqP e->j b2=aqP bw->(m.aH b).hK=aqQ->(m.aH b2).live=aqQ->e.aH=bw.aH->b=b2
structure u1 (j:bq) (m:Mem) (w w':World):Prop where
 os:w'.os=w.os
 tape:w'.tape=w.tape
 output:w'.output=w.output
 size:w.heap.size<=w'.heap.size
 block:∀c,c<w.heap.size->(∀b e,j b=aqP e->(m.aH b).hK=aqQ->e.aH≠c)->w'.heap[c]? =w.heap[c]?
structure Post (P:aqV) (j:bq) (m:Mem) (w:World) (bT:bq) (m':Mem) (w':World):Prop where
 rel:Rel P bT m' w'
 ec:u1 j m w w'
 next:m.next<=m'.next
 ext:∀b,b<m.next->bT b=j b
 fresh:∀b e,bT b=aqP e->m.next<=b->w.heap.size<=e.aH\/∃df dA,j df=aqP dA/\(m.aH df).hK=aqQ/\dA.aH=e.aH
 dg:∀b,b<m.next->(m'.aH b).hK=aqQ->(m.aH b).hK=aqQ
 alive:∀b,b<m.next->(m'.aH b).live=aqQ->(m.aH b).live=aqQ
theorem ba.mono {ap bx:Type} {R S:ap->bx->Prop} (h:∀a b,R a b->S a b):∀{l:List ap} {k:List bx},ba R l k->ba S l k
 |[],[],_=>arb
 |_::_,_::_,⟨h1,J⟩=>⟨h _ _ h1,ba.mono h J⟩
 |[],_::_,h=>h.elim
 |_::_,[],h=>h.elim
theorem ba.length {ap bx:Type} {R:ap->bx->Prop}:∀{l:List ap} {k:List bx},ba R l k->l.length=k.length
 |[],[],_=>rfl
 |_::l,_::k,⟨_,J⟩=>by simp[ba.length J]
 |[],_::_,h=>h.elim
 |_::_,[],h=>h.elim
theorem ba.get {ap bx:Type} {R:ap->bx->Prop}:∀{l:List ap} {k:List bx} (_:ba R l k) (i:Nat) (a:ap),l[i]? =aqP a->∃b,k[i]? =aqP b/\R a b
 |[],[],_,i,a,h=>by simp at h
 |x::l,y::k,⟨h1,J⟩,0,a,h=>by simp at h;subst h;exact ⟨y,by simp,h1⟩
 |x::l,y::k,⟨h1,J⟩,i+1,a,h=>by simpa using ba.get J i a (by simpa using h)
 |[],_::_,h,_,_,_=>h.elim
 |_::_,[],h,_,_,_=>h.elim
theorem ba.FU {ap bx:Type} {R:ap->bx->Prop}:∀{l:List ap} {k:List bx},l.length=k.length->(∀(i:Nat) a b,l[i]? =aqP a->k[i]? =aqP b->R a b)->ba R l k
 |[],[],_,_=>arb
 |x::l,y::k,ai,h=>⟨h 0 x y (by simp) (by simp),ba.FU (by simpa using ai) fun i a b au aa=>h (i+1) a b (by simpa using au) (by simpa using aa)⟩
 |[],_::_,ai,_=>by simp at ai
 |_::_,[],ai,_=>by simp at ai
theorem ba.append {ap bx:Type} {R:ap->bx->Prop}:∀{l kq:List ap} {k dc:List bx},ba R l k->ba R kq dc->ba R (l++kq) (k++dc)
 |[],_,[],_,_,h=>h
 |_::_,_,_::_,_,⟨h1,J⟩,h=>⟨h1,ba.append J h⟩
 |[],_,_::_,_,h,_=>h.elim
 |_::_,_,[],_,h,_=>h.elim
theorem ba.take {ap bx:Type} {R:ap->bx->Prop}:∀(n:Nat) {l:List ap} {k:List bx},ba R l k->ba R (l.take n) (k.take n)
 |0,_,_,_=>by simp[ba]
 |n+1,[],[],_=>by simp[ba]
 |n+1,_::_,_::_,⟨h1,J⟩=>by simpa[ba] using ⟨h1,ba.take n J⟩
 |_+1,[],_::_,h=>h.elim
 |_+1,_::_,[],h=>h.elim
theorem ba.drop {ap bx:Type} {R:ap->bx->Prop}:∀(n:Nat) {l:List ap} {k:List bx},ba R l k->ba R (l.drop n) (k.drop n)
 |0,_,_,h=>by simpa using h
 |n+1,[],[],_=>by simp[ba]
 |n+1,_::_,_::_,⟨_,J⟩=>by simpa using ba.drop n J
 |_+1,[],_::_,h=>h.elim
 |_+1,_::_,[],h=>h.elim
theorem jj.mono {j bT:bq} (h:∀b e,j b=aqP e->bT b=aqP e) {v aV:aqR} (ad:jj j v aV):jj bT v aV:=by
 unfold jj at ad⊢;split at ad
 ·obtain ⟨e,h1,J,aj⟩:=ad;exact ⟨e,h1,h _ _ J,aj⟩
 ·exact ad.elim
theorem dy.mono {j bT:bq} (h:∀b e,j b=aqP e->bT b=aqP e) {v aV:aqR} (ad:dy j v aV):dy bT v aV:=by
 cases v with
 |func fn bc cs=>obtain ⟨h1,ds,J,aj⟩:=ad;exact ⟨h1,ds,J,aj.mono fun _ _=>jj.mono h⟩
 |pointer a=>cases a with
  |none=>exact ad
  |some a=>obtain ⟨e,h1,J,aj⟩:=ad;exact ⟨e,h1,h _ _ J,aj⟩
 |slice a l c=>cases a with
  |none=>exact ad
  |some a=>obtain ⟨e,h1,J,aj⟩:=ad;exact ⟨e,h1,h _ _ J,aj⟩
 |map r=>cases r with
  |none=>exact ad
  |some r=>obtain ⟨e,J,aj⟩:=ad;exact ⟨e,h _ _ J,aj⟩
 |_=>exact ad
theorem eA.mono {j bT:bq} (h:∀b e,j b=aqP e->bT b=aqP e) {v aV:aqR} (ad:eA j v aV):eA bT v aV:=by
 cases v with
 |agg cs=>obtain ⟨ds,h1,J⟩:=ad;exact ⟨ds,h1,J.mono fun _ _=>dy.mono h⟩
 |_=>simp only[eA] at ad⊢;exact dy.mono h ad
theorem b9.mono {j bT:bq} (h:∀b e,j b=aqP e->bT b=aqP e) {v aV:aqR} (ad:b9 j v aV):b9 bT v aV:=by
 cases v with
 |chan _=>exact ad
 |tuple cs=>obtain ⟨ds,h1,J⟩:=ad;exact ⟨ds,h1,J.mono fun _ _=>eA.mono h⟩
 |func fn bc cs=>obtain ⟨gs,ds,h1,J,aj⟩:=ad;exact ⟨gs,ds,h1,J.mono fun _ _=>eA.mono h,aj.mono fun _ _=>eA.mono h⟩
 |_=>simp only[b9] at ad⊢;exact eA.mono h ad
theorem nM.mono {P:aqV} {j bT:bq} {e:iL} {o:Option Obj} {x:a6} (h:nM P j e o x) (ar:∀b e,j b=aqP e->bT b=aqP e):nM P bT e o x:=by
 cases x with
 |dead=>trivial
 |ro rd=>intro i v ae;obtain ⟨cs,t,bg,aV,h1,J,aj⟩:=h i v ae;exact ⟨cs,t,bg,aV,h1,J,aj.mono ar⟩
 |own L t=>obtain ⟨cs,bg,h1,J,aj,aM,br,dt⟩:=h;refine ⟨cs,bg,h1,J,aj,aM,br,fun i v ae=> ?_⟩;obtain ⟨aV,g1,g2⟩:=dt i v ae;exact ⟨aV,g1,g2.mono ar⟩
 |map L u=>obtain ⟨kt,vt,cs,clock,E,h1,J,aj,aM,br⟩:=h;exact ⟨kt,vt,cs,clock,E,h1,J,aj,aM.mono fun p x ⟨g1,g2,g3⟩=>⟨g1,g2,g3.mono ar⟩,br⟩
 |lock _ _ _ _=>exact h.elim
theorem Rel.own {P:aqV} {j:bq} {m:Mem} {w:World} (h:Rel P j m w) (b:Nat) (e:iL) (L:List aqR) (t:aqY) (ar:j b=aqP e) (aa:m.aH b= .own L t):∃(cs:Array aqR) (bg:Nat×Nat),w.heap[e.aH]? =aqP (.cells cs t bg)/\(∀i:Nat,i<cs.size->¬(bg.1<=i/\i<bg.2))/\
  P.cellsOf t=e.es/\e.dO+e.cap*e.es<=cs.size/\L.length<=e.cap*e.es/\∀(i:Nat) (v:aqR),L[i]? =aqP v->∃aV,cs[e.dO+i]? =aqP aV/\dy j v aV:=by
 have:=h.obj b e ar;rw[aa] at this;exact this
theorem eA.pY {j:bq} {v aV:aqR} (h:dy j v aV):eA j v aV:=by
 cases v<;>first|exact h|exact h.elim
theorem jj.of {j:bq} {v aV:aqR} (h:jj j v aV):dy j v aV:=by
 unfold jj at h;split at h
 ·exact h
 ·exact h.elim
theorem b9.v7 {j:bq} {v aV:aqR} (h:eA j v aV):b9 j v aV:=by
 cases v with
 |func fn bc cs=>obtain ⟨h1,ds,J,aj⟩:=h;subst h1;exact ⟨#[],ds,J,trivial,aj.mono fun _ _ h=>eA.pY (jj.of h)⟩
 |tuple _=>exact h.elim
 |chan _=>exact h.elim
 |_=>exact h
theorem b9.pY {j:bq} {v aV:aqR} (h:dy j v aV):b9 j v aV:=b9.v7 (eA.pY h)
theorem dy.one {j:bq} {v aV:aqR} (h:dy j v aV):aV.oneCell'=aqQ:=by
 cases v with
 |pointer a=>cases a with
  |none=>cases h;rfl
  |some a=>obtain ⟨e,h1,J,aj⟩:=h;subst aj;rfl
 |slice a l c=>cases a with
  |none=>cases h;rfl
  |some a=>obtain ⟨e,h1,J,aj⟩:=h;rcases aj with ⟨_,rfl⟩|⟨_,_,_,_,_,_,rfl⟩|⟨_,_,_,rfl⟩|⟨_,_,_,rfl⟩<;>rfl
 |map r=>cases r with
  |none=>cases h;rfl
  |some r=>obtain ⟨e,J,aj⟩:=h;subst aj;rfl
 |chan _=>exact h.elim
 |func _ _ _=>obtain ⟨_,ds,J,_⟩:=h;subst J;rfl
 |iface _ _=>exact h.elim
 |agg _=>exact h.elim
 |tuple _=>exact h.elim
 |_=>cases h;rfl
theorem dy.cells {j:bq} {v aV:aqR} (h:dy j v aV):v.cells=#[v]/\aV.cells=#[aV]:=by
 refine ⟨?_, ?_⟩
 ·cases v<;>first|rfl|exact h.elim
 ·have:=h.one;cases aV<;>first|rfl|simp[aqR.oneCell'] at this
theorem eA.cells {j:bq} {v aV:aqR} (h:eA j v aV):ba (dy j) v.cells.toList aV.cells.toList:=by
 cases v with
 |agg cs=>obtain ⟨ds,rfl,J⟩:=h;exact J
 |_=>simp only[eA] at h;have aI:=h;have:=dy.cells aI;rw[this.1,this.2];exact ⟨aI,arb⟩
theorem u1.refl (j:bq) (m:Mem) (w:World):u1 j m w w:=⟨rfl,rfl,rfl,aq3 _,fun _ _ _=>rfl⟩
theorem Post.refl {P:aqV} {j:bq} {m:Mem} {w:World} (h:Rel P j m w):Post P j m w j m w:=
 ⟨h,u1.refl j m w,aq3 _,fun _ _=>rfl,fun b e aa aq=>absurd (h.lt b e aa).1 (as9.2 aq),fun _ _ h=>h,fun _ _ h=>h⟩
theorem Post.up {P:aqV} {j bT:bq} {m m':Mem} {w w':World} (h:Post P j m w bT m' w') (aw:Rel P j m w):∀b e,j b=aqP e->bT b=aqP e:=
 fun b e aa=>by rw[h.ext b (aw.lt b e aa).1];exact aa
theorem Post.trans {P:aqV} {j bT qK:bq} {m m' Vb:Mem} {w w' nE:World} (h:Post P j m w bT m' w') (k:Post P bT m' w' qK Vb nE):Post P j m w qK Vb nE where
 rel:=k.rel
 ec:=by
  refine ⟨k.ec.os.trans h.ec.os,k.ec.tape.trans h.ec.tape,k.ec.output.trans h.ec.output,arj h.ec.size k.ec.size,fun c ab aq=> ?_⟩;rw[k.ec.block c (aro ab h.ec.size) ?_,h.ec.block c ab aq];intro b e aa ah he;rcases arK b m.next with aN|e4
  ·exact aq b e (by rw[<-h.ext b aN];exact aa) (h.dg b aN ah) he
  ·rcases h.fresh b e aa e4 with aP|⟨df,dA,hY,qE,rI⟩
   ·omega
   ·exact aq df dA hY qE (rI.trans he)
 next:=arj h.next k.next
 ext:=fun b aa=>by rw[k.ext b (aro aa h.next),h.ext b aa]
 fresh:=by
  intro b e aa e4;have ad9:∀b e,bT b=aqP e->(m'.aH b).hK=aqQ->w.heap.size<=e.aH\/∃df dA,j df=aqP dA/\(m.aH df).hK=aqQ/\dA.aH=e.aH:=by
   intro b e aa ah;rcases arK b m.next with aN|e4
   ·exact .inr ⟨b,e,by rw[<-h.ext b aN];exact aa,h.dg b aN ah,rfl⟩
   ·exact h.fresh b e aa e4
  rcases arK b m'.next with aN|L4
  ·exact h.fresh b e (by rw[<-k.ext b aN];exact aa) e4
  ·rcases k.fresh b e aa L4 with aP|⟨df,dA,hY,qE,rI⟩
   ·exact .inl (arj h.ec.size aP)
   ·rw[<-rI];exact ad9 df dA hY qE
 dg:=fun b aa ah=>h.dg b aa (k.dg b (aro aa h.next) ah)
 alive:=fun b aa ah=>h.alive b aa (k.alive b (aro aa h.next) ah)
end Go.aS
end
section
namespace Go.aS
def ir:aqR->Bool
 | .agg cs=>cs.toList.all cv
 |v=>cv v
def flat:aqR->Bool
 | .tuple cs=>cs.toList.all ir
 |v=>ir v
def wI:aqR->Bool
 | .pointer (aqP _)=>aqQ
 |_=>aqT
def storable:aqR->Bool
 | .tuple _| .chan _=>aqT
 | .func _ bc cs=>bc.isEmpty&&cs.toList.all wI
 |_=>aqQ
def set (fr:Nat->aqR) (d:Option Tmp) (v:aqR):Nat->aqR:=
 match d with
 |some t=>fun i=>if i=t then v else fr i
 |none=>fr
def aJ (fr:Nat->aqR):aqX->aqR
 | .tmp t=>fr t
 | .const v=>v
 | .global g=> .pointer (aqP ⟨g,0,aqS⟩)
 | .func f=> .func (.func f) #[] #[]
def jz (m:Mem) (b:Nat):Nat->Nat->Option (List aqR)
 |_,0=>aqP []
 |o,n+1=>match m.load b o,jz m b (o+1) n with
  |some v,aqP l=>aqP (v::l)
  |_,_=>aqS
def eT:List aqR->Nat->List aqR->List aqR
 |L,_,[]=>L
 |L,o,v::vs=>eT (L.set o v) (o+1) vs
def jw (place:Nat->Option (Nat×Nat)) (cells:List aqR):List (Nat×aqR)->Option (List aqR)
 |[]=>aqP cells
 |(i,v)::rest=>
  match place i with
  |none=>aqS
  |some (off,size)=>if storable v=aqQ/\v.cells.size=size/\off+size<=cells.length then jw place (eT cells off v.cells.toList) rest else aqS
def p8 (P:aqV) (bc:Array Field):List (Option (Nat×Nat)):=bc.toList.map fun f=>(P.info? f.type).map fun i=>(f.offset,i.size)
def qY (af:aqX->aqR) (bG:Option aqX) (n:Nat):Prop:=
 match bG with
 |none=>n=0
 |some y=>∃k,af y= .int k n
def om (af:aqX->aqR) (ae:Option aqX) (l n:Nat):Prop:=
 match ae with
 |none=>n=l
 |some y=>∃k,af y= .int k n
inductive cO (P:aqV) (af:aqX->aqR) (o:Oper):aqR->Prop where
 |flat (v:aqR) (az:∀cs b,o.op≠ .select cs b) (h:∀x∈o.op.operands,flat (af x)=aqQ) (ad:flat v=aqQ) (aw:∀w,(execOp af o).run P w= .ok (.value v) w):cO P af o v
 |move (x:aqX) (h:o.op= .move x\/o.op= .assign x):cO P af o (af x)
 |pick (c a b:aqX) (t:Bool) (h:o.op= .pick c a b) (ab:af c= .bool t):cO P af o (if t then af a else af b)
 |extract (x:aqX) (i:Nat) (vs:Array aqR) (v:aqR) (h:o.op= .extract x i) (U:af x= .tuple vs) (ad:vs[i]? =aqP v):cO P af o v
 |field (t:aqY) (x:aqX) (i:Nat) (bc:Array Field) (f:Field) (d:TypeDesc) (cs:Array aqR) (v:aqR) (h:o.op= .field t x i) (ao:P.underlying t=aqP (.struct bc)) (aP:bc[i]? =aqP f)
   (aB:P.underlying f.type=aqP d) (U:af x= .agg cs) (ad:if jE d=aqQ then ∃k,P.info? f.type=aqP k/\f.offset+k.size<=cs.size/\v= .agg (cs.extract f.offset (f.offset+k.size)) else cs[f.offset]? =aqP v):cO P af o v
 |build (t:aqY) (bK:Array (Nat×aqX)) (bc:Array Field) (i:TypeInfo) (z:aqR) (cs:List aqR) (h:o.op= .build t bK) (ao:P.underlying t=aqP (.struct bc)) (ae:P.info? t=aqP i) (aE:i.zero=aqP z)
   (cg:z.cells.toList.all cv=aqQ) (an:∀x∈p8 P bc,x.isSome=aqQ)
   (ab:jw (fun k=>((p8 P bc)[k]?).join) z.cells.toList (bK.toList.map fun p=>(p.1,af p.2))=aqP cs):cO P af o (.agg cs.toArray)
 |Ez (t:aqY) (bK:Array (Nat×aqX)) (n:Nat) (e:aqY) (i k:TypeInfo) (z:aqR) (cs:List aqR) (h:o.op= .build t bK) (ao:P.underlying t=aqP (.array n e)) (ae:P.info? t=aqP i) (aE:i.zero=aqP z)
   (cg:z.cells.toList.all cv=aqQ) (he:P.info? e=aqP k)
   (ab:jw (fun j=>aqP (j*k.size,k.size)) z.cells.toList (bK.toList.map fun p=>(p.1,af p.2))=aqP cs):cO P af o (.agg cs.toArray)
 |nilCheck (x:aqX) (a:Addr) (h:o.op= .nilCheck x) (U:af x= .pointer (aqP a)):cO P af o (.pointer (aqP a))
 |fieldAddr (t:aqY) (x:aqX) (i:Nat) (bc:Array Field) (f:Field) (k:TypeInfo) (b off:Nat) (h:o.op= .fieldAddr t x i) (ao:P.underlying t=aqP (.struct bc)) (aP:bc[i]? =aqP f)
   (hk:P.info? f.type=aqP k) (az:k.size≠0) (U:af x= .pointer (aqP ⟨b,off,aqS⟩)):cO P af o (.pointer (aqP ⟨b,off+f.offset,aqS⟩))
 |indexAddr (t:aqY) (x y:aqX) (e:aqY) (i:TypeInfo) (b off l c:Nat) (k:aqW) (n:Int) (h:o.op= .indexAddr t x y) (ao:P.underlying t=aqP (.slice e)) (ae:P.info? e=aqP i)
   (U:af x= .slice (aqP ⟨b,off,aqS⟩) l c) (ag:af y= .int k n) (aI:0<=n) (h1:n<l):cO P af o (.pointer (aqP ⟨b,off+n.toNat*i.size,aqS⟩))
 |FH (t:aqY) (x y:aqX) (e:aqY) (i:TypeInfo) (b off l:Nat) (k:aqW) (n:Int) (h:o.op= .indexAddr t x y) (ao:P.underlying t=aqP (.array l e)) (ae:P.info? e=aqP i)
   (U:af x= .pointer (aqP ⟨b,off,aqS⟩)) (ag:af y= .int k n) (aI:0<=n) (h1:n<l):cO P af o (.pointer (aqP ⟨b,off+n.toNat*i.size,aqS⟩))
 |slice (t:aqY) (x:aqX) (bG ae:Option aqX) (e:aqY) (i:TypeInfo) (b off l c:Nat) (n cp:Nat) (h:o.op= .slice t x bG ae aqS) (ao:P.underlying t=aqP (.slice e)) (dY:P.info? e=aqP i)
   (U:af x= .slice (aqP ⟨b,off,aqS⟩) l c) (aa:c≠dr) (eZ:qY af bG n) (eg:om af ae l cp) (h1:n<=cp) (J:cp<=c)
   (aj:ae=aqS->True):cO P af o (.slice (aqP ⟨b,if c=n then off else off+n*i.size,aqS⟩) (cp - n) (c - n))
 |slice3 (t:aqY) (x h0:aqX) (ae:Option aqX) (e:aqY) (i:TypeInfo) (b off l c:Nat) (cp dc:Nat) (rW:aqW) (h:o.op= .slice t x aqS ae (aqP h0)) (ao:P.underlying t=aqP (.slice e)) (dY:P.info? e=aqP i)
   (U:af x= .slice (aqP ⟨b,off,aqS⟩) l c) (ab:(c≠dr/\dc<=c)\/(c=dr/\dc<=l)) (eg:∃y k,ae=aqP y/\af y= .int k cp) (nV:af h0= .int rW dc) (h1:cp<=dc):cO P af o (.slice (aqP ⟨b,off,aqS⟩) cp dc)
 |Iv (t:aqY) (x h0:aqX) (ae:Option aqX) (e:aqY) (i:TypeInfo) (rW:aqW) (h:o.op= .slice t x aqS ae (aqP h0)) (ao:P.underlying t=aqP (.slice e)) (dY:P.info? e=aqP i)
   (U:af x= .slice aqS 0 0) (eg:∃y k,ae=aqP y/\af y= .int k 0) (nV:af h0= .int rW 0):cO P af o (.slice aqS 0 0)
 |lz (t:aqY) (x:aqX) (bG ae:Option aqX) (e:aqY) (i:TypeInfo) (h:o.op= .slice t x bG ae aqS) (ao:P.underlying t=aqP (.slice e)) (dY:P.info? e=aqP i)
   (U:af x= .slice aqS 0 0) (eZ:qY af bG 0) (eg:om af ae 0 0):cO P af o (.slice aqS 0 0)
 |len (x:aqX) (t e:aqY) (a:Option Addr) (l c:Nat) (h:o.op= .call {callee:= .builtin .len,args:=#[x],argTypes:=#[t]}) (ao:P.underlying t=aqP (.slice e)) (U:af x= .slice a l c):cO P af o (.int .i64 l)
 |EC (x:aqX) (t e:aqY) (h:o.op= .call {callee:= .builtin .cap,args:=#[x],argTypes:=#[t]}) (ao:P.underlying t=aqP (.slice e)) (U:af x= .slice aqS 0 0):cO P af o (.int .i64 0)
 |A7 (neq:Bool) (x y:aqX) (t u e:aqY) (a:Addr) (l c:Nat) (h:o.op= .binOp (if neq then .neq else .eql) t x y u) (ao:P.underlying t=aqP (.slice e))
   (U:af x= .slice (aqP a) l c) (ag:af y= .slice aqS 0 0):cO P af o (.bool neq)
 |func (fn:Fn) (first captured:Array aqX) (h:o.op= .makeFunc fn first captured) (aP:∀x∈first.toList++captured.toList,storable (af x)=aqQ):cO P af o (.func fn (first.map af) (captured.map af))
inductive td (ja dq:Bool) (key z:aqR):List (List aqR×List aqR)->aqR->Bool->Prop where
 |pV:td ja dq key z [] z aqT
 |kj (p:List aqR×List aqR) (E:List (List aqR×List aqR)) (h:cZ ja p.1=key):td ja dq key z (p::E) (cZ dq p.2) aqQ
 |next (p:List aqR×List aqR) (E:List (List aqR×List aqR)) (v:aqR) (b:Bool) (h:cZ ja p.1≠key) (aT:td ja dq key z E v b):td ja dq key z (p::E) v b
inductive tk (ja:Bool) (key val:List aqR):List (List aqR×List aqR)->List (List aqR×List aqR)->Prop where
 |pV:tk ja key val [] [(key,val)]
 |kj (p:List aqR×List aqR) (E:List (List aqR×List aqR)) (h:cZ ja p.1=cZ ja key):tk ja key val (p::E) ((p.1,val)::E)
 |next (p:List aqR×List aqR) (E E':List (List aqR×List aqR)) (h:cZ ja p.1≠cZ ja key) (aT:tk ja key val E E'):tk ja key val (p::E) (p::E')
open Classical in
noncomputable def j8 (v:aqR):List MapEntry->Nat->Option (Nat×aqR)
 |[],_=>aqS
 |e::es,i=>if e.key=v then aqP (i,e.val) else j8 v es (i+1)
structure Keyed (P:aqV) (kt:aqY) (fg:aqR->Prop):Prop where
 check:∀(em:Bool) (v:aqR) (w:World),fg v->(Instr.checkKey em 10000 kt v).run P w= .ok () w
 find:∀(v:aqR) (es:List MapEntry) (w:World),fg v->(∀x∈es,fg x.key)->(Instr.findKey kt v es).run P w= .ok (j8 v es 0) w
 stays:∀(v:aqR) (w:World),fg v->(Instr.keyThatStays v v).run P w= .ok v w
inductive eS (P:aqV) (af:aqX->aqR) (o:Oper) (m:Mem):aqR->Prop where
 |load (t:aqY) (x:aqX) (b off:Nat) (d:TypeDesc) (v:aqR) (h:o.op= .load t x) (U:af x= .pointer (aqP ⟨b,off,aqS⟩)) (ao:P.underlying t=aqP d) (aB:jE d=aqT) (ad:m.load b off=aqP v):eS P af o m v
 |vV (t:aqY) (x:aqX) (b off:Nat) (d:TypeDesc) (i:TypeInfo) (cs:List aqR) (h:o.op= .load t x) (U:af x= .pointer (aqP ⟨b,off,aqS⟩)) (ao:P.underlying t=aqP d) (aB:jE d=aqQ) (ae:P.info? t=aqP i)
   (ad:jz m b off i.size=aqP cs):eS P af o m (.agg cs.toArray)
 |slice (t:aqY) (x:aqX) (bG ae:Option aqX) (e:aqY) (i:TypeInfo) (L:List aqR) (b off l:Nat) (n cp:Nat) (h:o.op= .slice t x bG ae aqS) (ao:P.underlying t=aqP (.slice e)) (dY:P.info? e=aqP i)
   (U:af x= .slice (aqP ⟨b,off,aqS⟩) l dr) (hm:m.aH b= .own L e) (eZ:qY af bG n) (eg:om af ae l cp) (h1:n<=cp) (J:cp<=l)
   (aj:off+l*i.size<=L.length):eS P af o m (.slice (aqP ⟨b,off+n*i.size,aqS⟩) (cp - n) dr)
 |str (s t:aqY) (x:aqX) (e:aqY) (b off l c:Nat) (cs:List UInt8) (h:o.op= .convert s t x) (az:P.underlying s=aqP (.slice e)) (he:P.underlying e=aqP (.int .u8)) (ao:P.underlying t=aqP .string)
   (U:af x= .slice (aqP ⟨b,off,aqS⟩) l c) (ad:jz m b off l=aqP (cs.map fun u=> .int .u8 u.toNat)):eS P af o m (.string ⟨cs.toArray⟩)
 |zW (s t:aqY) (x:aqX) (e:aqY) (l c:Nat) (h:o.op= .convert s t x) (az:P.underlying s=aqP (.slice e)) (he:P.underlying e=aqP (.int .u8)) (ao:P.underlying t=aqP .string)
   (U:af x= .slice aqS l c):eS P af o m (.string .empty)
 |lookup (gz:aqY) (x cx:aqX) (ok:Bool) (u kt vt:aqY) (b:Nat) (L:List aqR) (E:List (List aqR×List aqR)) (i:TypeInfo) (z v0:aqR) (t:Bool) (fg:aqR->Prop) (h:o.op= .lookup gz x cx ok)
   (hf:P.underlying gz=aqP (.map kt vt)) (hu:P.underlying u=aqP (.map kt vt)) (U:(af x= .map (aqP b)/\m.aH b= .map L u/\nJ (P.cellsOf kt) (P.cellsOf vt) L E)\/(af x= .map aqS/\E=[])) (k7:0<P.cellsOf kt)
   (j5:cT P vt=aqT->P.cellsOf vt=1) (K:Keyed P kt fg) (aP:flat (af cx)=aqQ) (hk:fg (af cx)) (aG:∀p∈E,fg (cZ (cT P kt) p.1)) (ae:P.info? vt=aqP i) (aE:i.zero=aqP z) (cg:ir z=aqQ)
   (ai:td (cT P kt) (cT P vt) (af cx) z E v0 t):eS P af o m (if ok then .tuple #[v0, .bool t] else v0)
inductive hW (P:aqV) (af:aqX->aqR) (o:Oper) (n:Nat):a6->aqR->Prop where
 |alloc (t:aqY) (i:TypeInfo) (z:aqR) (h:o.op= .alloc t) (ae:P.info? t=aqP i) (aE:i.zero=aqP z) (cg:z.cells.toList.all cv=aqQ) (az:z.cells.size=i.size):
   hW P af o n (.own z.cells.toList t) (.pointer (aqP ⟨n,0,aqS⟩))
 |box (t:aqY) (x:aqX) (i:TypeInfo) (h:o.op= .box t x) (ae:P.info? t=aqP i) (ad:storable (af x)=aqQ) (az:(af x).cells.size=i.size):
   hW P af o n (.own (af x).cells.toList t) (.pointer (aqP ⟨n,0,aqS⟩))
 |buildSlice (t:aqY) (l:Nat) (bK:Array (Nat×aqX)) (e:aqY) (i:TypeInfo) (z:aqR) (cs:List aqR) (h:o.op= .buildSlice t l bK) (ao:P.underlying t=aqP (.slice e)) (ae:P.info? e=aqP i) (aE:i.zero=aqP z)
   (cg:z.cells.toList.all cv=aqQ) (dp:z.cells.size=i.size) (rE:l*i.size<=16777216) (rN:l<9223372036854775808)
   (ab:jw (fun k=>aqP (k*i.size,i.size)) (arq l z.cells.toList).flatten (bK.toList.map fun p=>(p.1,af p.2))=aqP cs):
   hW P af o n (.own cs e) (.slice (aqP ⟨n,0,aqS⟩) l l)
 |makeSlice (t:aqY) (x y:aqX) (l c:Nat) (k dc:aqW) (e:aqY) (i:TypeInfo) (z:aqR) (h:o.op= .makeSlice t x y) (ao:P.underlying t=aqP (.slice e)) (ae:P.info? e=aqP i) (aE:i.zero=aqP z)
   (cg:z.cells.toList.all cv=aqQ) (dp:z.cells.size=i.size) (U:af x= .int k l) (ag:af y= .int dc c) (rO:l<=c) (aa:i.bytes*c<=140737488355328) (ab:c<9223372036854775808):
   hW P af o n (.own (arq c z.cells.toList).flatten e) (.slice (aqP ⟨n,0,aqS⟩) l c)
 |bytes (s t:aqY) (x:aqX) (e:aqY) (i:TypeInfo) (b:ByteArray) (h:o.op= .convert s t x) (az:P.underlying s=aqP .string) (ao:P.underlying t=aqP (.slice e)) (he:P.underlying e=aqP (.int .u8)) (ae:P.info? e=aqP i)
   (hd:i.size=1) (U:af x= .string b) (aa:b.size<9223372036854775807):
   hW P af o n (.own (b.data.toList.map fun u=> .int .u8 u.toNat) e) (.slice (aqP ⟨n,0,aqS⟩) b.size dr)
 |makeMap (t kt vt:aqY) (h:o.op= .makeMap t aqS) (ao:P.underlying t=aqP (.map kt vt)):hW P af o n (.map [] t) (.map (aqP n))
def b4 (m:Mem) (a1:Nat):aqR->Option (List aqR)
 | .slice (aqP ⟨b,off,aqS⟩) l _=>jz m b off (l*a1)
 | .slice aqS _ _=>aqP []
 | .string s=>if a1=1 then aqP (s.data.toList.map fun u=> .int .u8 u.toNat) else aqS
 |_=>aqS
def gS:aqR->Nat
 | .slice _ l _=>l
 | .string s=>s.size
 |_=>0
def callee (o:Oper) (af:aqX->aqR) (f:FuncId) (args:Array aqR):Prop:=
 ∃x as ts first captured,o.op= .call {callee:= .value x,args:=as,argTypes:=ts}/\af x= .func (.func f) first captured/\args=first++as.map af++captured
inductive u0 (P:aqV) (m:Mem) (u:aqY) (i:TypeInfo) (v:aqR) (n:Nat) (new:List aqR):Prop where
 |el (hu:(∃bw,P.underlying u=aqP (.slice bw))\/P.underlying u=aqP .string) (ai:gS v=n) (he:b4 m i.size v=aqP new)
 |mk (kk k:aqW) (z:aqR) (hu:P.underlying u=aqP (.int kk)) (ad:v= .int k n) (aE:i.zero=aqP z) (cg:z.cells.toList.all cv=aqQ) (dp:z.cells.size=i.size) (bC:0<i.size)
   (aa:n*i.bytes<=140737488355328) (hm:n<9223372036854775807) (iE:new=(arq n z.cells.toList).flatten)
inductive gE (P:aqV) (C:FuncId->Array aqR->Mem->aqR->Mem->Prop) (af:aqX->aqR) (o:Oper) (m:Mem):aqR->Mem->Prop where
 |store (t:aqY) (x y:aqX) (b off:Nat) (i:TypeInfo) (L:List aqR) (e:aqY) (h:o.op= .store t x y) (U:af x= .pointer (aqP ⟨b,off,aqS⟩)) (ae:P.info? t=aqP i) (hm:m.aH b= .own L e)
   (ad:storable (af y)=aqQ) (az:(af y).cells.size=i.size) (ai:off+i.size<=L.length):gE P C af o m undef (m.put b (.own (eT L off (af y).cells.toList) e))
 |call (f:FuncId) (args:Array aqR) (v:aqR) (m':Mem) (h:callee o af f args) (bO:C f args m v m'):gE P C af o m v m'
 |vf (x y:aqX) (t u:aqY) (e:aqY) (i:TypeInfo) (a:Option Addr) (l c:Nat) (h:o.op= .call {callee:= .builtin .append,args:=#[x,y],argTypes:=#[t,u]}) (ao:P.underlying t=aqP (.slice e)) (ae:P.info? e=aqP i)
   (U:af x= .slice a l c) (ab:c≠dr) (rO:l<=c) (ag:u0 P m u i (af y) 0 []):gE P C af o m (af x) m
 |rv (x y:aqX) (t u:aqY) (e:aqY) (i:TypeInfo) (z:aqR) (a:Option Addr) (l c n:Nat) (dg new:List aqR) (h:o.op= .call {callee:= .builtin .append,args:=#[x,y],argTypes:=#[t,u]})
   (ao:P.underlying t=aqP (.slice e)) (ae:P.info? e=aqP i) (aE:i.zero=aqP z) (cg:z.cells.toList.all cv=aqQ) (dp:z.cells.size=i.size) (bC:0<i.size)
   (U:af x= .slice a l c) (ab:c<l+n)
   (ah:b4 m i.size (af x)=aqP dg) (jO:dg.length=l*i.size) (ag:u0 P m u i (af y) n new) (aq:new.length=n*i.size) (aa:(l+n)*i.bytes<=140737488355328) (hm:l+n<9223372036854775807):
   gE P C af o m (.slice (aqP ⟨m.next,0,aqS⟩) (l+n) dr) (m.push (.own (dg++new) e))
 |x3 (x y:aqX) (t u:aqY) (e:aqY) (i:TypeInfo) (b off l c n:Nat) (L new:List aqR) (h:o.op= .call {callee:= .builtin .append,args:=#[x,y],argTypes:=#[t,u]})
   (ao:P.underlying t=aqP (.slice e)) (ae:P.info? e=aqP i) (U:af x= .slice (aqP ⟨b,off,aqS⟩) l c) (dB:c≠dr)
   (ab:l+n<=c) (hm:m.aH b= .own L e) (ag:u0 P m u i (af y) n new) (aq:new.length=n*i.size) (ai:off+(l+n)*i.size<=L.length):
   gE P C af o m (.slice (aqP ⟨b,off,aqS⟩) (l+n) c) (m.put b (.own (eT L (off+l*i.size) new) e))
 |append (x y:aqX) (t u:aqY) (e:aqY) (i:TypeInfo) (z:aqR) (b off l n:Nat) (L new:List aqR) (h:o.op= .call {callee:= .builtin .append,args:=#[x,y],argTypes:=#[t,u]})
   (ao:P.underlying t=aqP (.slice e)) (ae:P.info? e=aqP i) (aE:i.zero=aqP z) (cg:z.cells.toList.all cv=aqQ) (dp:z.cells.size=i.size) (bC:0<i.size)
   (U:af x= .slice (aqP ⟨b,off,aqS⟩) l dr) (fA:m.aH b= .own L e) (tB:off+l*i.size<=L.length)
   (ag:u0 P m u i (af y) n new) (aq:new.length=n*i.size) (aa:(l+n)*i.bytes<=140737488355328) (hm:l+n<9223372036854775807):
   gE P C af o m (.slice (aqP ⟨m.next,0,aqS⟩) (l+n) dr) ((m.put b .dead).push (.own ((L.drop off).take (l*i.size)++new) e))
 |copy (x y:aqX) (t u:aqY) (e:aqY) (i:TypeInfo) (b off l c:Nat) (L:List aqR) (cs:List aqR) (h:o.op= .call {callee:= .builtin .copy,args:=#[x,y],argTypes:=#[t,u]}) (ao:P.underlying t=aqP (.slice e)) (ae:P.info? e=aqP i)
   (U:af x= .slice (aqP ⟨b,off,aqS⟩) l c) (hm:m.aH b= .own L e) (ag:b4 m i.size (af y)=aqP cs) (aq:cs.length=gS (af y)*i.size) (ai:off+l*i.size<=L.length):
   gE P C af o m (.int .i64 (asE (gS (af y)) l)) (m.put b (.own (eT L off (cs.take (asE (gS (af y)) l*i.size))) e))
 |mapUpdate (gz:aqY) (x ij ix:aqX) (u kt vt:aqY) (b:Nat) (L bQ vc:List aqR) (E E':List (List aqR×List aqR)) (fg:aqR->Prop) (h:o.op= .mapUpdate gz x ij ix\/o.op= .insert gz x ij ix)
   (hf:P.underlying gz=aqP (.map kt vt)) (hu:P.underlying u=aqP (.map kt vt)) (U:af x= .map (aqP b)) (hm:m.aH b= .map L u) (aT:nJ (P.cellsOf kt) (P.cellsOf vt) L E) (k7:0<P.cellsOf kt)
   (K:Keyed P kt fg) (BC:af ij=cZ (cT P kt) bQ) (nb:bQ.length=P.cellsOf kt) (yv:bQ.all cv=aqQ) (aP:flat (af ij)=aqQ) (hk:fg (af ij)) (aG:∀p∈E,fg (cZ (cT P kt) p.1))
   (lT:storable (af ix)=aqQ) (BW:af ix=cZ (cT P vt) vc) (rU:vc.length=P.cellsOf vt) (BY:∀v∈vc,v∈(af ix).cells.toList) (e5:tk (cT P kt) bQ vc E E'):
   gE P C af o m undef (m.put b (.map (E'.flatMap fun p=>p.1++p.2) u))
inductive oD (P:aqV) (C:FuncId->Array aqR->Mem->aqR->Mem->Prop) (af:aqX->aqR) (o:Oper) (m:Mem):aqR->Mem->Prop where
 |pure {v:aqR} (h:cO P af o v):oD P C af o m v m
 |read {v:aqR} (h:eS P af o m v):oD P C af o m v m
 |new {X:a6} {v:aqR} (h:hW P af o m.next X v):oD P C af o m v (m.push X)
 |e3 {v:aqR} {m':Mem} (h:gE P C af o m v m'):oD P C af o m v m'
def wanted (ops:List Oper) (fr:Nat->aqR) (o:Oper):Bool:=
 match o.guard with
 |none=>aqQ
 |some (j,want)=>
  match (ops[j]?).bind (·.dst) with
  |some d=>(match fr d with| .bool b=>b==want|_=>aqT)
  |none=>aqT
def jU (P:aqV) (C:FuncId->Array aqR->Mem->aqR->Mem->Prop) (ops:List Oper):List Oper->(Nat->aqR)->Mem->(Nat->aqR)->Mem->Prop
 |[],fr,m,fr',m'=>fr'=fr/\m'=m
 |o::os,fr,m,fr',m'=>
  if wanted ops fr o=aqQ then ∃v m1,oD P C (aJ fr) o m v m1/\jU P C ops os (set fr o.dst v) m1 fr' m'
  else jU P C ops os (set fr o.dst undef) m fr' m'
def iI:Op->Bool
 | .store .. | .mapUpdate .. | .insert .. =>aqQ
 | .call {callee:= .builtin .len, .. }| .call {callee:= .builtin .max, .. }| .call {callee:= .builtin .min, .. }=>aqT
 | .call _=>aqQ
 |_=>aqT
def fe (B:Array Nat) (i k:Nat):Bool:=(B.getD i 0).testBit k
structure Acc where
 reads:List (Nat×(Mem->Prop))
 gM:List (Nat×Mem)
 news:List (Nat×Nat)
def gx (P:aqV) (C:FuncId->Array aqR->Mem->aqR->Mem->Prop) (ops:List Oper) (B:Array Nat):Nat->List Oper->Acc->(Nat->aqR)->Mem->(Nat->aqR)->Mem->Prop
 |_,[],_,fr,m,fr',m'=>fr'=fr/\m'=m
 |i,o::os,A,fr,m,fr',m'=>
  if wanted ops fr o=aqQ then
   (∃v,cO P (aJ fr) o v/\gx P C ops B (i+1) os A (set fr o.dst v) m fr' m')\/
   (∃v,eS P (aJ fr) o m v/\(∀x∈A.gM,fe B i x.1=aqT->eS P (aJ fr) o x.2 v)/\
    gx P C ops B (i+1) os {A with reads:=(i,fun m=>eS P (aJ fr) o m v)::A.reads} (set fr o.dst v) m fr' m')\/
   (∃X v,hW P (aJ fr) o m.next X v/\gx P C ops B (i+1) os {A with news:=(i,m.next)::A.news} (set fr o.dst v) (m.push X) fr' m')\/
   (∃v m1,gE P C (aJ fr) o m v m1/\(∀x∈A.reads,fe B i x.1=aqT->x.2 m1)/\(∀x∈A.news,fe B i x.1=aqT->m1.aH x.2=m.aH x.2)/\
    gx P C ops B (i+1) os {A with gM:=(i,m)::A.gM} (set fr o.dst v) m1 fr' m')
  else gx P C ops B (i+1) os A (set fr o.dst undef) m fr' m'
inductive dX where
 |normal
 |exit (id:Nat)
 |ret
 deriving DecidableEq
def U8 (n:Nat):Option Addr->Prop
 |some a=>a.block<n
 |none=>True
def qO (n:Nat):aqR->Prop
 | .pointer a=>U8 n a
 |_=>False
def gD (n:Nat):aqR->Prop
 | .pointer a| .slice a _ _=>U8 n a
 | .map (aqP r)=>r<n
 | .func _ bc cs=>bc=#[]/\∀v∈cs.toList,qO n v
 | .chan _| .iface _ _| .agg _| .tuple _=>False
 |_=>True
def gT (n:Nat):aqR->Prop
 | .agg cs=>∀v∈cs.toList,gD n v
 |v=>gD n v
def low (n:Nat):aqR->Prop
 | .chan _=>True
 | .tuple cs=>∀v∈cs.toList,gT n v
 | .func _ a b=>(∀v∈a.toList,gT n v)/\∀v∈b.toList,gT n v
 |v=>gT n v
def qN (n:Nat):a6->Prop
 | .own L _| .map L _=>∀v∈L,gD n v
 | .ro rd=>∀i v,rd i=aqP v->gD n v
 | .dead=>True
 | .lock _ _ _ _=>True
def ku:aqX->Bool
 | .tmp _| .func _=>aqQ
 | .const v=>flat v
 | .global _=>aqT
def uc (ops:Array Oper) (o:Oper):List Nat:=
 (o.op.operands.toList.filterMap fun| .tmp t=>aqP t|_=>aqS)++
 (match o.guard with|some (g,_)=>((ops[g]?).bind (·.dst)).toList|none=>[])++o.dst.toList
def rA (ops:Array Oper) (x o:Oper):Bool:=
 (match x.dst with|some d=>(uc ops o).contains d|none=>aqT)||(match o.dst with|some d=>(uc ops x).contains d|none=>aqT)||(iI x.op&&iI o.op)
def uj (ops:Array Oper):Bool:=
 (arI ops.size).all fun i=>
  match ops[i]? with
  |none=>aqQ
  |some o=>(o.after.toList.all fun e=> !Region.binds .any e||decide (e.on<i))&&
   (arI i).all fun x=>match ops[x]? with|none=>aqQ|some y=> !rA ops y o||fe (arF ops) i x
def gn (n:Nat):Code->Bool
 | .region _ ops draw=>(ops.toList.all fun o=>o.op.operands.toList.all ku&&(match o.dst with|some d=>decide (d<n)|none=>aqQ))&&(!draw||uj ops)
 | .seq a b=>gn n a&&gn n b
 | .cond c a b=>ku c&&gn n a&&gn n b
 | .block _ c=>gn n c
 | .scope c=>gn n c
 | .loop c=>gn n c
 |_=>aqQ
structure jB (j:bq) (N:Nat) (fr:Nat->aqR) (a:Act):Prop where
 val:∀t,b9 j (fr t) (a.tmps.getD t undef)
 defers:a.defers=[]
 size:a.tmps.size=N
def dX.out:dX->Exit
 | .normal=> .normal
 | .exit id=> .exit id
 | .ret=> .ret
def tp (ops:Array Oper):List Nat:=ops.toList.filterMap (·.dst)
def jv:Code->List Nat
 | .region _ ops _=>tp ops
 | .seq a b=>jv a++jv b
 | .cond _ a b=>jv a++jv b
 | .block _ c=>jv c
 | .scope c=>jv c
 | .loop c=>jv c
 |_=>[]
structure WF (m:Mem):Prop where
 dead:∀b,m.next<=b->m.aH b= .dead
 low:∀b,qN m.next (m.aH b)
structure Ja (P:aqV) (c:Code) (fr:Nat->aqR) (m:Mem) (e:dX) (fr':Nat->aqR) (m':Mem):Prop where
 next:m.next<=m'.next
 keep:∀i,(jv c).contains i=aqT->fr' i=fr i
 low:WF m->(∀t,low m.next (fr t))->WF m'/\∀t,low m'.next (fr' t)
 sound:∀{N:Nat} {j:bq} {a:Act} {w:World} {Q:Exit->Act->World->Prop},gn N c=aqQ->Rel P j m w->WF m->jB j N fr a->(∀a' w' bT,Post P j m w bT m' w'->jB bT N fr' a'->Q e.out a' w')->c.wp P Q a w
def ky (P:aqV) (C:FuncId->Array aqR->Mem->aqR->Mem->Prop):Nat->Code->(Nat->aqR)->Mem->dX->(Nat->aqR)->Mem->Prop
 |0,_,_,_,_,_,_=>False
 |_+1, .skip,fr,m,e,fr',m'=>e= .normal/\fr'=fr/\m'=m
 |_+1, .label _,fr,m,e,fr',m'=>e= .normal/\fr'=fr/\m'=m
 |_+1, .exit id,fr,m,e,fr',m'=>e= .exit id/\fr'=fr/\m'=m
 |_+1, .ret,fr,m,e,fr',m'=>e= .ret/\fr'=fr/\m'=m
 |_+1, .region _ ops aqT,fr,m,e,fr',m'=>e= .normal/\jU P C ops.toList ops.toList fr m fr' m'
 |_+1, .region _ ops aqQ,fr,m,e,fr',m'=>e= .normal/\gx P C ops.toList (arF ops) 0 ops.toList ⟨[],[],[]⟩ fr m fr' m'
 |n+1, .seq a b,fr,m,e,fr',m'=>(∃aX eU m1,ky P C n a fr m aX eU m1/\(if aX= .normal then ky P C n b eU m1 e fr' m' else e=aX/\fr'=eU/\m'=m1))\/Ja P (.seq a b) fr m e fr' m'
 |n+1, .cond c a b,fr,m,e,fr',m'=>∃t,aJ fr c= .bool t/\ky P C n (if t then a else b) fr m e fr' m'
 |n+1, .scope c,fr,m,e,fr',m'=>ky P C n c fr m e fr' m'
 |n+1, .block id c,fr,m,e,fr',m'=>∃aX,ky P C n c fr m aX fr' m'/\e=(if aX= .exit id then .normal else aX)
 |n+1, .loop c,fr,m,e,fr',m'=>∃aX eU m1,ky P C n c fr m aX eU m1/\(if aX= .normal then ky P C n (.loop c) eU m1 e fr' m' else e=aX/\fr'=eU/\m'=m1)
 |_+1,_,_,_,_,_,_=>False
def GX (P:aqV) (fr:Nat->aqR) (m:Mem):ResultVar->aqR->Prop
 | .tmp t,v=>v=fr t
 | .cell a t,v=>∃b off,fr a= .pointer (aqP ⟨b,off,aqS⟩)/\∃d,P.underlying t=aqP d/\
   (if jE d=aqQ then ∃i cs,P.info? t=aqP i/\jz m b off i.size=aqP cs/\v= .agg cs.toArray else m.load b off=aqP v)
def o7 (P:aqV) (fr:Nat->aqR) (m:Mem):List ResultVar->List aqR->Prop
 |[],[]=>True
 |r::rs,v::vs=>GX P fr m r v/\o7 P fr m rs vs
 |_,_=>False
def mA (P:aqV) (f:FuncId):Bool:=
 match P.funcs[f]? with
 | aqP fn => !(fn.name == "runtime.NumGoroutine") && (match fn.body with | aqP c => gn fn.ntmps c | aqS => aqT)
 |none=>aqT
def pack:List aqR->aqR
 |[x]=>x
 |vs=> .tuple vs.toArray
def Zo (P:aqV) (f:FuncId) (yc:aqR):Prop:=∀(p:Option Addr) (cap:Nat) (w:World),Calls P f #[.slice p 0 cap,yc] w fun e w'=>e= .returned (.tuple #[])/\w'=w
def PS (P:aqV) (f:FuncId) (yc:aqR) (l:Nat) (F mQ:List aqR):Prop:=
 ∀(w:World) (aH off cap:Nat) (cs:Array aqR) (t:aqY) (bg:Nat×Nat),w.heap[aH]? =aqP (.cells cs t bg)->(∀(i:Nat) (v:aqR),F[i]? =aqP v->cs[off+i]? =aqP v)->(∀i,i<cs.size->¬(bg.1<=i/\i<bg.2))->
  Calls P f #[.slice (aqP ⟨aH,off,aqS⟩) l cap,yc] w fun e w'=>e= .returned (.tuple #[])/\w'.os=w.os/\w'.tape=w.tape/\w'.output=w.output/\w.heap.size<=w'.heap.size/\
   (∀c,c<w.heap.size->c≠aH->w'.heap[c]? =w.heap[c]?)/\w'.heap[aH]? =aqP (.cells (eT cs.toList off mQ).toArray t bg)
inductive xT (P:aqV) (f:FuncId) (args:Array aqR) (m:Mem):aqR->Mem->Prop where
 |none (a:Option Addr) (c g:Nat) (h:Zo P f (.func (.func g) #[] #[])) (au:args=#[.slice a 0 c, .func (.func g) #[] #[]]):xT P f args m (.tuple #[]) m
 |row (b off l c g:Nat) (L:List aqR) (e:aqY) (F mQ:List aqR) (h:PS P f (.func (.func g) #[] #[]) l F mQ) (au:args=#[.slice (aqP ⟨b,off,aqS⟩) l c, .func (.func g) #[] #[]]) (ai:0<l) (hm:m.aH b= .own L e)
   (cG:(L.drop off).take F.length=F) (aq:off+F.length<=L.length) (kf:mQ.length=F.length) (f1:F.all cv=aqQ) (f2:mQ.all cv=aqQ):xT P f args m (.tuple #[]) (m.put b (.own (eT L off mQ) e))
def h4 (P:aqV):Nat->FuncId->Array aqR->Mem->aqR->Mem->Prop
 |0,_,_,_,_,_=>False
 |n+1,f,args,m,v,m'=>(mA P f=aqQ/\xT P f args m v m')\/∃fn c e fr m1 vs,P.funcs[f]? =aqP fn/\fn.body=aqP c/\mA P f=aqQ/\args.size<=fn.ntmps/\
   ky P (h4 P n) n c (fun i=>(args++asf (fn.ntmps - args.size) undef).getD i undef) m e fr m1/\(e= .normal\/e= .ret)/\
   o7 P fr m1 fn.results.toList vs/\v=pack vs/\(vs.length=1\/∀x∈vs,storable x=aqQ)/\
   (m'=m1\/(m'=m1.lA m.next/\low m.next v/\∀b,b<m.next->m1.aH b=m.aH b\/qN m.next (m1.aH b)))
end Go.aS
end
section
namespace Go.aS
theorem ba.FT {ap bx:Type} {R:ap->bx->Prop} {l:List bx} (h:ba R [] l):l=[]:=by
 cases l with
 |nil=>rfl
 |cons _ _=>exact h.elim
theorem Ga {fn:Fn} {bc cs:Array aqR} (h:cv (.func fn bc cs)=aqQ):bc=#[]/\cs=#[]:=by
 simp only[cv,aq5] at h;exact ⟨by simpa using h.1,by simpa using h.2⟩
theorem CC {j:bq} {v aV:aqR} (h:cv v=aqQ) (ad:dy j v aV):aV=v:=by
 cases v with
 |pointer a=>cases a with
  |none=>exact ad
  |some a=>simp[cv] at h
 |slice a l c=>cases a with
  |none=>exact ad
  |some a=>simp[cv] at h
 |map r=>cases r with
  |none=>exact ad
  |some r=>simp[cv] at h
 |chan _=>simp[cv] at h
 |func _ _ _=>obtain ⟨rfl,rfl⟩:=Ga (fn:= .func 0) (by simpa[flat,ir,cv] using h);obtain ⟨_,ds,J,aj⟩:=ad;have:ds=#[]:=ar6 (ba.FT aj);rw[J,this]
 |iface _ _=>simp[cv] at h
 |agg _=>simp[cv] at h
 |tuple _=>simp[cv] at h
 |_=>exact ad
theorem p0 {j:bq} {v:aqR} (h:cv v=aqQ):dy j v v:=by
 cases v with
 |pointer a=>cases a with
  |none=>exact rfl
  |some a=>simp[cv] at h
 |slice a l c=>cases a with
  |none=>exact rfl
  |some a=>simp[cv] at h
 |map r=>cases r with
  |none=>exact rfl
  |some r=>simp[cv] at h
 |chan _=>simp[cv] at h
 |func _ _ _=>obtain ⟨rfl,rfl⟩:=Ga (fn:= .func 0) (by simpa[flat,ir,cv] using h);exact ⟨rfl,#[],rfl,trivial⟩
 |iface _ _=>simp[cv] at h
 |agg _=>simp[cv] at h
 |tuple _=>simp[cv] at h
 |_=>exact rfl
theorem ba.EK {ap:Type} {R:ap->ap->Prop} {p:ap->Bool} (h:∀a b,p a=aqQ->R a b->b=a):∀{l k:List ap},l.all p=aqQ->ba R l k->k=l
 |[],[],_,_=>rfl
 |a::l,b::k,an,⟨h1,J⟩=>by simp only[arL,aq5] at an;rw[h a b an.1 h1,ba.EK h an.2 J]
 |[],_::_,_,ax=>ax.elim
 |_::_,[],_,ax=>ax.elim
theorem ba.self {ap:Type} {R:ap->ap->Prop} {p:ap->Bool} (h:∀a,p a=aqQ->R a a):∀{l:List ap},l.all p=aqQ->ba R l l
 |[],_=>arb
 |a::l,an=>by simp only[arL,aq5] at an;exact ⟨h a an.1,ba.self h an.2⟩
theorem Oo {j:bq} {v aV:aqR} (h:ir v=aqQ) (ad:eA j v aV):aV=v:=by
 cases v with
 |agg cs=>obtain ⟨ds,rfl,J⟩:=ad;have:=ba.EK (fun a b=>CC (j:=j)) h J;rw[ar6 this]
 |_=>exact CC (j:=j) h (by simpa only[eA] using ad)
theorem za {j:bq} {v:aqR} (h:ir v=aqQ):eA j v v:=by
 cases v with
 |agg cs=>exact ⟨cs,rfl,ba.self (fun a=>p0) h⟩
 |_=>simp only[eA];exact p0 h
theorem OB {j:bq} {v aV:aqR} (h:flat v=aqQ) (ad:b9 j v aV):aV=v:=by
 cases v with
 |tuple cs=>obtain ⟨ds,rfl,J⟩:=ad;have:=ba.EK (fun a b=>Oo (j:=j)) h J;rw[ar6 this]
 |func _ _ _=>obtain ⟨rfl,rfl⟩:=Ga (fn:= .func 0) (by simpa[flat,ir,cv] using h);obtain ⟨gs,ds,h1,J,aj⟩:=ad;rw[h1,ar6 (ba.FT J),ar6 (ba.FT aj)]
 |chan _=>simp[flat,ir,cv] at h
 |_=>exact Oo (j:=j) h (by simpa only[b9] using ad)
theorem Gl {j:bq} {v:aqR} (h:flat v=aqQ):b9 j v v:=by
 cases v with
 |tuple cs=>exact ⟨cs,rfl,ba.self (fun a=>za) h⟩
 |func _ _ _=>obtain ⟨rfl,rfl⟩:=Ga (fn:= .func 0) (by simpa[flat,ir,cv] using h);exact ⟨#[],#[],rfl,trivial,trivial⟩
 |chan _=>simp[flat,ir,cv] at h
 |_=>simp only[b9];exact za h
theorem jj.Vn {j:bq}:∀{l k:List aqR},l.all wI=aqQ->ba (eA j) l k->ba (jj j) l k
 |[],[],_,_=>trivial
 |[],_::_,_,h=>h.elim
 |_::_,[],_,h=>h.elim
 |v::l,aV::k,an,⟨h1,J⟩=>by
  simp only[arL,aq5] at an;refine ⟨?_,jj.Vn an.2 J⟩;have ad:=an.1;unfold wI at ad;split at ad
  ·exact h1
  ·cases ad
theorem b9.storable {j:bq} {v aV:aqR} (h:b9 j v aV) (az:storable v=aqQ):eA j v aV:=by
 cases v with
 |tuple _=>simp[aS.storable] at az
 |chan _=>simp[aS.storable] at az
 |func fn bc cs=>
  simp only[aS.storable,aq5] at az;have aP:bc=#[]:=by simpa using az.1
  subst aP;obtain ⟨gs,ds,h1,J,aj⟩:=h;rw[ar6 (ba.FT J)] at h1;exact ⟨rfl,ds,h1,jj.Vn az.2 aj⟩
 |_=>exact h
theorem b9.int {j:bq} {k:aqW} {n:Int} {aV:aqR} (h:b9 j (.int k n) aV):aV= .int k n:=h
theorem b9.bool {j:bq} {b:Bool} {aV:aqR} (h:b9 j (.bool b) aV):aV= .bool b:=h
theorem b9.str {j:bq} {b:ByteArray} {aV:aqR} (h:b9 j (.string b) aV):aV= .string b:=h
theorem b9.lz {j:bq} {l c:Nat} {aV:aqR} (h:b9 j (.slice aqS l c) aV):aV= .slice aqS l c:=h
theorem b9.ptr {j:bq} {a:Addr} {aV:aqR} (h:b9 j (.pointer (aqP a)) aV):∃e,a.spot=aqS/\j a.block=aqP e/\aV= .pointer (aqP ⟨e.aH,e.dO+a.off,aqS⟩):=h
theorem b9.slice {j:bq} {a:Addr} {l c:Nat} {aV:aqR} (h:b9 j (.slice (aqP a) l c) aV):∃e,a.spot=aqS/\j a.block=aqP e/\
   ((c<dr/\aV= .slice (aqP ⟨e.aH,e.dO+a.off,aqS⟩) l c)\/
    (c=dr/\0<e.es/\l<=e.cap - a.off / e.es/\e.cap<dr/\a.off%e.es=0/\a.off / e.es<=e.cap/\aV= .slice (aqP ⟨e.aH,e.dO+a.off,aqS⟩) l (e.cap - a.off / e.es))\/
    (c=dr/\l=0/\∃o',aV= .slice (aqP ⟨e.aH,o',aqS⟩) 0 0)\/
    (c=0/\l=0/\∃a',aV= .slice (aqP a') 0 0)):=h
theorem p1 (b o n:Nat):(⟨b,o,aqS⟩:Addr).add n=⟨b,o+n,aqS⟩:=by
 unfold Addr.add;split<;>simp_all
theorem o8:∀(vs L:List aqR) (o:Nat),(eT L o vs).length=L.length
 |[],L,o=>rfl
 |v::vs,L,o=>by simp[eT,o8 vs]
theorem oj (vs:List aqR):∀(L:List aqR) (o i:Nat),o+vs.length<=L.length->(eT L o vs)[i]? =if o<=i/\i<o+vs.length then vs[i - o]? else L[i]? :=by
 induction vs with
 |nil=>intro L o i h;simp[eT];intro h1 J;omega
 |cons v vs a8=>
  intro L o i h;simp only[arr] at h;simp only[eT,arr];rw[a8 (L.set o v) (o+1) i (by simp;omega)];by_cases h1:o+1<=i/\i<o+1+vs.length
  ·rw[if_pos h1,if_pos (by omega),show i - o=(i - (o+1))+1 by omega];simp
  ·rw[if_neg h1];by_cases J:o=i
   ·subst J;rw[if_pos (by omega),List.getElem?_set_self (by omega)];simp
   ·rw[if_neg (by omega),List.getElem?_set_ne J]
theorem ae6 (vs:List aqR):∀(A:Array aqR) (o k:Nat),((vs.zipIdx k).foldl (fun cs (c,j)=>cs.setIfInBounds (o+j) c) A).toList=eT A.toList (o+k) vs:=by
 induction vs with
 |nil=>intro A o k;simp[eT]
 |cons v vs a8=>intro A o k;simp only[List.zipIdx_cons,List.foldl_cons,eT];rw[a8];simp[arx]
theorem F2 {j:bq} {place:Nat->Option (Nat×Nat)}:∀(bK EE:List (Nat×aqR)) (L:List aqR) (A:Array aqR) (cs:List aqR),ba (fun p q=>p.1=q.1/\b9 j p.2 q.2) bK EE->ba (dy j) L A.toList->jw place L bK=aqP cs->
  ∃ds,Instr.fill place A EE=aqP ds/\ba (dy j) cs ds.toList
 |[],[],L,A,cs,_,cB,h=>by simp only[jw,ark.injEq] at h;subst h;exact ⟨A,rfl,cB⟩
 |(i,v)::bK,(k,aV)::EE,L,A,cs,⟨⟨h1,J⟩,aj⟩,cB,h=>by
  simp only at h1 J;subst h1;simp only[jw] at h;cases an:place i with
  |none=>simp[an] at h
  |some q=>
   obtain ⟨off,size⟩:=q;simp only[an] at h;split at h
   ·rename_i ab;obtain ⟨az,bC,ai⟩:=ab;have iX:=b9.storable J az;have eQ:=eA.cells iX;have hlen:aV.cells.size=size:=by have:=eQ.length;simp at this;omega
    have abi:L.length=A.size:=by have:=cB.length;simpa using this
    simp only[Instr.fill,an,hlen,ne_eq,not_true_eq_false,decide_false,Bool.false_or,decide_eq_true_eq];rw[if_neg (by omega)];refine F2 bK EE _ _ cs aj ?_ h;have aP:=ae6 aV.cells.toList A off 0;simp only[arC] at aP;have fZ:(aV.cells.zipIdx.foldl (fun cs (c,j)=>cs.setIfInBounds (off+j) c) A)=((aV.cells.toList.zipIdx).foldl (fun cs (c,j)=>cs.setIfInBounds (off+j) c) A):=by rw[<-aub,Array.toList_zipIdx]
    rw[fZ,aP];refine ba.FU (by simp[o8,abi]) ?_;intro i a b au aa;rw[oj _ _ _ _ (by simp;omega)] at au;rw[oj _ _ _ _ (by simp;omega)] at aa;have lN:=eQ.length;rw[lN] at au;split at au
    ·rename_i fz;rw[if_pos fz] at aa;obtain ⟨b2,ct,aw⟩:=eQ.get _ _ au;rw[ct] at aa;cases aa;exact aw
    ·rename_i fz;rw[if_neg fz] at aa;obtain ⟨b2,ct,aw⟩:=cB.get _ _ au;rw[ct] at aa;cases aa;exact aw
   ·simp at h
 |[],_::_,_,_,_,h,_,_=>h.elim
 |_::_,[],_,_,_,h,_,_=>h.elim
def hG (j:bq) (af cE:aqX->aqR) (o:Oper):Prop:=∀x∈o.op.operands,b9 j (af x) (cE x)
theorem ed {P:aqV} {t:aqY} {d:TypeDesc} (h:P.underlying t=aqP d) (w:World):(underlying t).run P w= .ok d w:=run_underlying h w
theorem ur {P:aqV} {t:aqY} {i:TypeInfo} (h:P.info? t=aqP i) (w:World):(typeInfo t).run P w= .ok i w:=by simp[typeInfo,h]
theorem iG {P:aqV} {t:aqY} {i:TypeInfo} (h:P.info? t=aqP i) (w:World):(sizeOf t).run P w= .ok i.size w:=by simp[sizeOf,ur h]
theorem nx {P:aqV} {t:aqY} {i:TypeInfo} {z:aqR} (h:P.info? t=aqP i) (aE:i.zero=aqP z) (w:World):(zeroValue t).run P w= .ok z w:=by simp[zeroValue,ur h,aE]
theorem wB {P:aqV} {t:aqY} {d:TypeDesc} (h:P.underlying t=aqP d) (w:World):(isAgg t).run P w= .ok (jE d) w:=by
 simp only[isAgg,arl,ed h,arh];cases d<;>simp[jE]
theorem hG.MV {j:bq} {af cE:aqX->aqR} {o:Oper} (bK:List (Nat×aqX)) (h:∀p∈bK,b9 j (af p.2) (cE p.2)):ba (fun (p q:Nat×aqR)=>p.1=q.1/\b9 j p.2 q.2) (bK.map fun p=>(p.1,af p.2)) (bK.map fun p=>(p.1,cE p.2)):=by
 induction bK with
 |nil=>exact arb
 |cons p bK a8=>exact ⟨⟨rfl,h p (by simp)⟩,a8 fun q aK=>h q (by simp[aK])⟩
theorem V5 {P:aqV} (w:World):∀(bc:List Field),(∀x∈bc.map (fun f=>(P.info? f.type).map fun i=>(f.offset,i.size)),x.isSome=aqQ)->
  (bc.mapM (m:=Sem) fun f=>do pure (f.offset,<-sizeOf f.type)).run P w= .ok (bc.map fun f=>(f.offset,((P.info? f.type).map (·.size)).getD 0)) w
 |[],_=>by simp
 |f::bc,h=>by have aI:=h _ (by simp;exact .inl rfl);simp only[Option.isSome_map] at aI;obtain ⟨i,ae⟩:=Option.isSome_iff_exists.1 aI;have a8:=V5 w bc (fun x U=>h x (by simp only[arG,aq6];exact .inr U));simp only[List.mapM_cons,arl,iG ae,arh,ary,a8,arG,ae,asv,asg]
theorem hG.gJ {j:bq} {af cE:aqX->aqR} {y:aqX} {k:aqW} {n:Int} (h:b9 j (af y) (cE y)) (ag:af y= .int k n):cE y= .int k n:=by
 rw[ag] at h;exact h.int
end Go.aS
end
section
namespace Go.aS
theorem afu {P:aqV} {j:bq} {af cE:aqX->aqR} {o:Oper} {v:aqR} (az:∀cs b,o.op≠ .select cs b) (h:∀x∈o.op.operands,flat (af x)=aqQ) (aw:∀w,(execOp af o).run P w= .ok (.value v) w)
  (ad:hG j af cE o) (w:World):(execOp cE o).run P w= .ok (.value v) w:=by
 rw[<-aw w];congr 1;exact execOp_congr o az fun x U=>OB (h x U) (ad x U)
theorem ba.extract {ap bx:Type} {R:ap->bx->Prop} {A:Array ap} {B:Array bx} (h:ba R A.toList B.toList) (i k:Nat):ba R (A.extract i k).toList (B.extract i k).toList:=by
 simp only[auc,atT];exact (h.take k).drop i
theorem ba.size {ap bx:Type} {R:ap->bx->Prop} {A:Array ap} {B:Array bx} (h:ba R A.toList B.toList):A.size=B.size:=by simpa using h.length
theorem ba.Lo {ap bx:Type} {R:ap->bx->Prop} {A:Array ap} {B:Array bx} (h:ba R A.toList B.toList) (i:Nat) (a:ap) (au:A[i]? =aqP a):∃b,B[i]? =aqP b/\R a b:=by
 have:=h.get i a (by simpa using au);simpa using this
theorem ba.map {ap bx rc:Type} {R:bx->rc->Prop} (f:ap->bx) (g:ap->rc):∀(l:List ap),(∀x∈l,R (f x) (g x))->ba R (l.map f) (l.map g)
 |[],_=>arb
 |x::l,h=>⟨h x (by simp),ba.map f g l fun y ag=>h y (by simp[ag])⟩
theorem eA.up {j:bq} {v aV:aqR} (h:eA j v aV):b9 j v aV:=b9.v7 h
theorem ae5 {P:aqV} {cE:aqX->aqR} {o:Oper} (neq:Bool) (x y:aqX) (t u e:aqY) (a:Addr) (l c:Nat) (h:o.op= .binOp (if neq then .neq else .eql) t x y u) (ao:P.underlying t=aqP (.slice e))
   (U:cE x= .slice (aqP a) l c) (ag:cE y= .slice aqS 0 0) (w:World):(execOp cE o).run P w= .ok (.value (.bool neq)) w:=by
 have aG:(eqGuard (if neq then .neq else .eql) t x y (.slice (aqP a) l c) (.slice aqS 0 0)).run P w= .ok () w:=by cases neq<;>simp[eqGuard]
 have aa:(binOp (if neq then .neq else .eql) t (.slice (aqP a) l c) (.slice aqS 0 0)).run P w= .ok (.bool neq) w:=by
  cases neq
  ·exact Lib.run_eql_slice_nil w t e (aqP a) l c 0 0 ao
  ·exact run_neq_slice_nil_any w t e (aqP a) l c 0 0 ao
 simp only[execOp,h,U,ag,arl,aG,aa,arh,ary]
theorem VW {P:aqV} {j:bq} {af cE:aqX->aqR} {o:Oper} {v:aqR} (h:cO P af o v) (hO:hG j af cE o) (w:World):∃aV,(execOp cE o).run P w= .ok (.value aV) w/\b9 j v aV:=by
 cases h with
 |flat v az h ad aw=>exact ⟨v,afu az h aw hO w,Gl ad⟩
 |move x h=>
  refine ⟨cE x, ?_,hO x ?_⟩
  ·rcases h with h|h<;>simp[execOp,h]
  ·rcases h with h|h<;>simp[h,aq4]
 |pick c a b t h ab=>
  have h1:=hO c (by simp[h,aq4]);rw[ab] at h1;have J:=h1.bool;have au:=hO a (by simp[h,aq4]);have aa:=hO b (by simp[h,aq4]);refine ⟨if t then cE a else cE b, ?_, ?_⟩
  ·simp only[execOp,h,J];cases t<;>simp[asBool]
  ·cases t<;>simpa
 |extract x i vs v h U ad=>have h1:=hO x (by simp[h,aq4]);rw[U] at h1;obtain ⟨ds,aB,J⟩:=h1;obtain ⟨b,aa,aw⟩:=J.Lo i v ad;exact ⟨b,by simp[execOp,h,Instr.extract,aB,aa],aw.up⟩
 |field t x i bc f d cs v h ao aP aB U ad=>
  have h1:=hO x (by simp[h,aq4]);rw[U] at h1;obtain ⟨ds,kK,J⟩:=h1;by_cases au:jE d=aqQ
  ·rw[if_pos au] at ad;obtain ⟨k,hk,hle,rfl⟩:=ad;refine ⟨.agg (ds.extract f.offset (f.offset+k.size)), ?_,⟨_,rfl,J.extract _ _⟩⟩;simp[execOp,h,Instr.field,ed ao,aP,kK,asAgg,part,wB aB,au,iG hk]
  ·rw[if_neg au] at ad;obtain ⟨b,aa,aw⟩:=J.Lo _ _ ad;refine ⟨b, ?_,b9.pY aw⟩;simp[execOp,h,Instr.field,ed ao,aP,kK,asAgg,part,wB aB,au,aa]
 |build t bK bc i z cs h ao ae aE cg an ab=>
  have J:=hG.MV (j:=j) (af:=af) (cE:=cE) (o:=o) bK.toList (fun p an=>hO p.2 (by
   simp only[h,aq4];simp only[asY,aq'];exact ⟨p,an,rfl⟩))
  obtain ⟨ds,kK,aw⟩:=F2 (j:=j) _ _ _ z.cells cs J (ba.self (fun a=>p0) cg) ab;refine ⟨.agg ds, ?_,⟨_,rfl,by simpa using aw⟩⟩;have mw:=V5 (P:=P) w bc.toList (by simpa[p8] using an);have acQ:(bc.mapM (m:=Sem) fun f=>do pure (f.offset,<-sizeOf f.type)).run P w= .ok (bc.map fun f=>(f.offset,((P.info? f.type).map (·.size)).getD 0)) w:=by rw[Array.mapM_eq_mapM_toList];simp only[Sem.run_map,mw,arh];congr 1;apply ar6;simp
  have abX:(fun k:Nat=>(bc.map fun f=>(f.offset,((P.info? f.type).map (·.size)).getD 0))[k]?)=(fun k:Nat=>((p8 P bc)[k]?).join):=by
   funext k;simp only[p8,Array.getElem?_map,arB,asZ];cases hk:bc[k]? with
   |none=>simp
   |some f=>
    have hm:f∈bc.toList:=by have:=as0 hk;simpa using this
    have:=an ((P.info? f.type).map fun i=>(f.offset,i.size)) (by simp only[p8,aq'];exact ⟨f,hm,rfl⟩);simp only[Option.isSome_map] at this;obtain ⟨q,aK⟩:=Option.isSome_iff_exists.1 this;simp[aK]
  have rQ:(bK.map fun (i,x)=>(i,cE x)).toList=bK.toList.map fun p=>(p.1,cE p.2):=by simp
  simp only[execOp,h,Instr.build,arl,nx ae aE,arh,ed ao,acQ,abX,rQ,kK,ary]
 |Ez t bK n e i k z cs h ao ae aE cg he ab=>
  have J:=hG.MV (j:=j) (af:=af) (cE:=cE) (o:=o) bK.toList (fun p an=>hO p.2 (by
   simp only[h,aq4];simp only[asY,aq'];exact ⟨p,an,rfl⟩))
  obtain ⟨ds,kK,aw⟩:=F2 (j:=j) _ _ _ z.cells cs J (ba.self (fun a=>p0) cg) ab;refine ⟨.agg ds, ?_,⟨_,rfl,by simpa using aw⟩⟩;have rQ:(bK.map fun (i,x)=>(i,cE x)).toList=bK.toList.map fun p=>(p.1,cE p.2):=by simp
  simp only[execOp,h,Instr.build,arl,nx ae aE,arh,ed ao,iG he,rQ,kK,ary]
 |nilCheck x a h U=>have h1:=hO x (by simp[h,aq4]);rw[U] at h1;obtain ⟨e,az,ar,ab⟩:=h1.ptr;exact ⟨_,by simp[execOp,h,ab],⟨e,az,ar,rfl⟩⟩
 |fieldAddr t x i bc f k b off h ao aP hk az U=>have h1:=hO x (by simp[h,aq4]);rw[U] at h1;obtain ⟨e,_,ar,ab⟩:=h1.ptr;refine ⟨.pointer (aqP ⟨e.aH,e.dO+(off+f.offset),aqS⟩), ?_,⟨e,rfl,ar,rfl⟩⟩;simp[execOp,h,Instr.fieldAt,ed ao,aP,ab,atA,fieldPlace,iG hk,az,p1,arx]
 |indexAddr t x y e i b off l c k n h ao ae U ag aI h1=>
  have cQ:=hO x (by simp[h,aq4]);have iY:=hO y (by simp[h,aq4]);rw[U] at cQ;rw[ag] at iY;have k4:=iY.int;obtain ⟨q,_,ar,ab⟩:=cQ.slice;have dw:∃bP,cE x= .slice (aqP ⟨q.aH,q.dO+off,aqS⟩) l bP:=by
   rcases ab with ⟨_,ab⟩|⟨_,_,_,_,_,_,ab⟩|⟨_,ai,_,ab⟩|⟨_,ai,_⟩
   ·exact ⟨_,ab⟩
   ·exact ⟨_,ab⟩
   ·omega
   ·omega
  obtain ⟨bP,dw⟩:=dw;refine ⟨.pointer (aqP ⟨q.aH,q.dO+(off+n.toNat*i.size),aqS⟩), ?_,⟨q,rfl,ar,rfl⟩⟩;simp[execOp,h,Instr.indexAt,k4,asIntOf,ed ao,dw,aI,h1,iG ae,p1,arx]
 |FH t x y e i b off l k n h ao ae U ag aI h1=>have cQ:=hO x (by simp[h,aq4]);have iY:=hO y (by simp[h,aq4]);rw[U] at cQ;rw[ag] at iY;have k4:=iY.int;obtain ⟨q,_,ar,ab⟩:=cQ.ptr;refine ⟨.pointer (aqP ⟨q.aH,q.dO+(off+n.toNat*i.size),aqS⟩), ?_,⟨q,rfl,ar,rfl⟩⟩;simp[execOp,h,Instr.indexAt,k4,asIntOf,ed ao,ab,atA,aI,h1,iG ae,p1,arx]
 |slice t x bG ae e i b off l c n cp h ao dY U aa eZ eg h1 J aj=>
  have cQ:=hO x (by simp[h,aq4]);rw[U] at cQ;obtain ⟨q,_,ar,ab⟩:=cQ.slice;have hex:∃a':Addr,cE x= .slice (aqP a') l c/\((c<dr/\a'=⟨q.aH,q.dO+off,aqS⟩)\/(c=0/\l=0)):=by
   rcases ab with ⟨aN,ab⟩|⟨ab,_⟩|⟨ab,_⟩|⟨ab,ai,a',au⟩
   ·exact ⟨_,ab, .inl ⟨aN,rfl⟩⟩
   ·exact absurd ab aa
   ·exact absurd ab aa
   ·subst ab;subst ai;exact ⟨a',au, .inr ⟨rfl,rfl⟩⟩
  obtain ⟨a',dw,Mq⟩:=hex;have nU:(arJ aqQ l c (bG.map cE) (ae.map cE) aqS).run P w= .ok (n,cp,c) w:=by
   cases bG with
   |none=>
    simp only[qY] at eZ;subst eZ;cases ae with
    |none=>simp only[om] at eg;subst eg;simp[arJ]
    |some y=>obtain ⟨k,ag⟩:=eg;have:=hG.gJ (hO y (by simp[h,aq4])) ag;simp[arJ,this,asl,asIntOf,J]
   |some u=>
    obtain ⟨k,hu⟩:=eZ;have j4:=hG.gJ (hO u (by simp[h,aq4])) hu;cases ae with
    |none=>simp only[om] at eg;subst eg;simp[arJ,j4,asl,asIntOf,h1]
    |some y=>obtain ⟨dc,ag⟩:=eg;have:=hG.gJ (hO y (by simp[h,aq4])) ag;simp[arJ,this,j4,asl,asIntOf,h1,J]
  refine ⟨.slice (aqP (if c=n then a' else a'.add (n*i.size))) (cp - n) (c - n), ?_, ?_⟩
  ·simp only[execOp,h,atq,arl,ed ao,arh,atU,atr,dw,nU,iG dY,ary];congr 3;split<;>simp
  ·refine ⟨q,rfl,ar, ?_⟩;rcases Mq with ⟨aN,rfl⟩|⟨rfl,rfl⟩
   ·refine .inl ⟨as' (Nat.sub_le c n) aN, ?_⟩;congr 2;split<;>simp[p1,arx]
   ·have aq:n=0:=by omega
    have ax:cp=0:=by omega
    subst aq;subst ax;exact .inr (.inr (.inr ⟨rfl,rfl,_,rfl⟩))
 |slice3 t x h0 ae e i b off l c cp dc rW h ao dY U ab eg nV h1=>
  obtain ⟨y,adY,rfl,ag⟩:=eg;have cQ:=hO x (by simp[h,aq4]);rw[U] at cQ;have vO:=hG.gJ (hO y (by simp[h,aq4])) ag;have gB:=hG.gJ (hO h0 (by simp[h,aq4])) nV;obtain ⟨q,_,ar,eQ⟩:=cQ.slice;have hex:∃(a':Addr) (bP:Nat),cE x= .slice (aqP a') l bP/\dc<=bP/\dy j (.slice (aqP ⟨b,off,aqS⟩) cp dc) (.slice (aqP a') cp dc):=by
   rcases eQ with ⟨aN,eQ⟩|⟨dB,_,hle,jZ,_,_,eQ⟩|⟨dB,fi,o',eQ⟩|⟨mq,fi,a',eQ⟩
   ·rcases ab with ⟨_,hk⟩|⟨dB,_⟩
    ·exact ⟨_,_,eQ,hk,q,rfl,ar, .inl ⟨as' hk aN,rfl⟩⟩
    ·exact absurd (dB▸aN) (ata _)
   ·rcases ab with ⟨jK,_⟩|⟨_,hk⟩
    ·exact absurd dB jK
    ·exact ⟨_,_,eQ,arj hk hle,q,rfl,ar, .inl ⟨as' (arj hk hle) (as' (Nat.sub_le _ _) jZ),rfl⟩⟩
   ·rcases ab with ⟨jK,_⟩|⟨_,hk⟩
    ·exact absurd dB jK
    ·have j1:dc=0:=by omega
     have L5:cp=0:=by omega
     subst j1 L5;subst fi;exact ⟨_,_,eQ,ar7 _,q,rfl,ar, .inr (.inr (.inr ⟨rfl,rfl,_,rfl⟩))⟩
   ·subst mq fi;have j1:dc=0:=by rcases ab with ⟨_,hk⟩|⟨_,hk⟩<;>omega
    have L5:cp=0:=by omega
    subst j1 L5;exact ⟨a',_,eQ,aq3 _,q,rfl,ar, .inr (.inr (.inr ⟨rfl,rfl,_,rfl⟩))⟩
  obtain ⟨a',bP,dw,hk,ad⟩:=hex;have nU:(arJ aqQ l bP (aqS:Option aqR) ((aqP y).map cE) (aqP (cE h0))).run P w= .ok (0,cp,dc) w:=by simp[arJ,vO,gB,asl,asIntOf,hk,h1]
  refine ⟨_, ?_,b9.pY ad⟩;simp only[execOp,h,atq,arl,ed ao,arh,atU,asv,atr,dw] at nU⊢;simp only[nU,iG dY,ary,arh,Nat.sub_zero,ar8];congr 3;split
  ·rfl
  ·rcases a' with ⟨ff,gm,s1⟩;cases s1<;>simp[Addr.add]
 |Iv t x h0 ae e i rW h ao dY U eg nV=>
  obtain ⟨y,adY,rfl,ag⟩:=eg;have cQ:=hO x (by simp[h,aq4]);rw[U] at cQ;have dw:=cQ.lz;have vO:=hG.gJ (hO y (by simp[h,aq4])) ag;have gB:=hG.gJ (hO h0 (by simp[h,aq4])) nV;refine ⟨.slice aqS 0 0, ?_,rfl⟩;have nU:(arJ aqQ 0 0 (aqS:Option aqR) ((aqP y).map cE) (aqP (cE h0))).run P w= .ok (0,0,0) w:=by simp[arJ,vO,gB,asl,asIntOf]
  simp only[asv] at nU;simp[execOp,h,atq,ed ao,atr,dw,nU,iG dY]
 |lz t x bG ae e i h ao dY U eZ eg=>
  have cQ:=hO x (by simp[h,aq4]);rw[U] at cQ;have dw:=cQ.lz;refine ⟨.slice aqS 0 0, ?_,rfl⟩;have nU:(arJ aqQ 0 0 (bG.map cE) (ae.map cE) aqS).run P w= .ok (0,0,0) w:=by
   cases bG with
   |none=>
    cases ae with
    |none=>simp[arJ]
    |some y=>obtain ⟨k,ag⟩:=eg;have:=hG.gJ (hO y (by simp[h,aq4])) ag;simp[arJ,this,asl,asIntOf]
   |some u=>
    obtain ⟨k,hu⟩:=eZ;have j4:=hG.gJ (hO u (by simp[h,aq4])) hu;cases ae with
    |none=>simp[arJ,j4,asl,asIntOf]
    |some y=>obtain ⟨dc,ag⟩:=eg;have:=hG.gJ (hO y (by simp[h,aq4])) ag;simp[arJ,this,j4,asl,asIntOf]
  simp[execOp,h,atq,ed ao,atr,dw,nU,iG dY]
 |len x t e a l c h ao U=>
  have cQ:=hO x (by simp[h,aq4,arX]);rw[U] at cQ;have dw:∃a' bP,cE x= .slice a' l bP:=by
   cases a with
   |none=>exact ⟨_,_,cQ.lz⟩
   |some a=>
    obtain ⟨q,_,ar,ab⟩:=cQ.slice;rcases ab with ⟨_,ab⟩|⟨_,_,_,_,_,_,ab⟩|⟨_,ai,_,ab⟩|⟨_,ai,_,ab⟩
    ·exact ⟨_,_,ab⟩
    ·exact ⟨_,_,ab⟩
    ·subst ai;exact ⟨_,_,ab⟩
    ·subst ai;exact ⟨_,_,ab⟩
  obtain ⟨a',bP,dw⟩:=dw;exact ⟨.int .i64 l,by simp[execOp,h,resolve,invoke,builtin,Builtin.len_,ed ao,dw,goInt],rfl⟩
 |EC x t e h ao U=>have cQ:=hO x (by simp[h,aq4,arX]);rw[U] at cQ;have dw:=cQ.lz;exact ⟨.int .i64 0,by simp[execOp,h,resolve,invoke,builtin,Builtin.cap_,ed ao,dw,goInt],rfl⟩
 |A7 neq x y t u e a l c h ao U ag=>
  have cQ:=hO x (by simp[h,aq4]);rw[U] at cQ;have iY:=hO y (by simp[h,aq4]);rw[ag] at iY;have k4:=iY.lz;have dw:∃a' bP,cE x= .slice (aqP a') l bP:=by
   obtain ⟨q,_,ar,ab⟩:=cQ.slice;rcases ab with ⟨_,ab⟩|⟨_,_,_,_,_,_,ab⟩|⟨_,ai,_,ab⟩|⟨_,ai,_,ab⟩
   ·exact ⟨_,_,ab⟩
   ·exact ⟨_,_,ab⟩
   ·subst ai;exact ⟨_,_,ab⟩
   ·subst ai;exact ⟨_,_,ab⟩
  obtain ⟨a',bP,dw⟩:=dw;refine ⟨.bool neq, ?_,rfl⟩;exact ae5 neq x y t u e a' l bP h ao dw k4 w
 |func fn first captured h aP=>
  refine ⟨.func fn (first.map cE) (captured.map cE),by simp[execOp,h,Instr.makeFunc],⟨_,_,rfl, ?_, ?_⟩⟩
  ·simp only[asF];exact ba.map _ _ _ fun x U=>b9.storable (hO x (by simp[h,aq4];exact .inl (by simpa using U))) (aP x (by simp[U]))
  ·simp only[asF];exact ba.map _ _ _ fun x U=>b9.storable (hO x (by simp[h,aq4];exact .inr (by simpa using U))) (aP x (by simp[U]))
end Go.aS
end
section
namespace Go.aS
structure th (P:aqV) (j:bq) (m:Mem) (w:World):Prop where
 load:∀b e o v,j b=aqP e->m.load b o=aqP v->∃aV,w.cell? ⟨e.aH,e.dO+o,aqS⟩=aqP aV/\dy j v aV
 own:∀b e L t,j b=aqP e->m.aH b= .own L t->P.cellsOf t=e.es/\L.length<=e.cap*e.es
 map:∀b e L u,j b=aqP e->m.aH b= .map L u->nM P j e w.heap[e.aH]? (.map L u)
theorem Rel.load {P:aqV} {j:bq} {m:Mem} {w:World} (h:Rel P j m w) (b:Nat) (e:iL) (o:Nat) (v:aqR) (ar:j b=aqP e) (ai:m.load b o=aqP v):∃aV,w.cell? ⟨e.aH,e.dO+o,aqS⟩=aqP aV/\dy j v aV:=by
 unfold Mem.load at ai;have ah:=h.obj b e ar;cases aa:m.aH b with
 |dead=>simp[aa] at ai
 |map L u=>simp[aa] at ai
 |lock _ _ _ _=>simp[aa] at ai
 |ro rd=>simp only[aa] at ai ah;obtain ⟨cs,t,bg,aV,h1,J,aj⟩:=ah o v ai;exact ⟨aV,by simp[as1,h1,J],aj⟩
 |own L t=>simp only[aa] at ai;obtain ⟨cs,bg,hw,aP,h1,J,aj,aM⟩:=h.own b e L t ar aa;obtain ⟨aV,ab,aw⟩:=aM o v ai;exact ⟨aV,by simp[as1,hw,ab],aw⟩
theorem Rel.nA {P:aqV} {j:bq} {m:Mem} {w:World} (h:Rel P j m w):th P j m w:=
 ⟨h.load,fun b e L t ar aa=>by
  obtain ⟨cs,bg,hw,aP,h1,J,aj,aM⟩:=h.own b e L t ar aa;exact ⟨h1,by omega⟩,fun b e L u ar aa=>by have:=h.obj b e ar;rw[aa] at this;exact this⟩
theorem Cw {P:aqV} {j:bq} {m:Mem} {w:World} (h:th P j m w) {b:Nat} {e:iL} (ar:j b=aqP e):∀(n o:Nat) (cs:List aqR),jz m b o n=aqP cs->
  ∃ds:List aqR,ba (dy j) cs ds/\ds.length=n/\∀(i:Nat) (u:aqR),ds[i]? =aqP u->w.cell? ⟨e.aH,e.dO+o+i,aqS⟩=aqP u
 |0,o,cs,aw=>by simp only[jz,ark.injEq] at aw;subst aw;exact ⟨[],arb,rfl,fun i u hu=>by simp at hu⟩
 |n+1,o,cs,aw=>by
  simp only[jz] at aw;cases h1:m.load b o with
  |none=>simp[h1] at aw
  |some v=>
   cases J:jz m b (o+1) n with
   |none=>simp[h1,J] at aw
   |some l=>
    simp only[h1,J,ark.injEq] at aw;subst aw;obtain ⟨aV,ab,ad⟩:=h.load b e o v ar h1;obtain ⟨ds,ai,aq,aB⟩:=Cw h ar n (o+1) l J;refine ⟨aV::ds,⟨ad,ai⟩,by simp[aq],fun i u hu=> ?_⟩;cases i with
    |zero=>simp at hu;subst hu;simpa using ab
    |succ i=>have:=aB i u (by simpa using hu);rw[show e.dO+o+(i+1)=e.dO+(o+1)+i by omega];exact this
theorem y4 {P:aqV} {w:World} {c o n:Nat} {ds:List aqR} (aq:ds.length=n) (aB:∀(i:Nat) (u:aqR),ds[i]? =aqP u->w.cell? ⟨c,o+i,aqS⟩=aqP u):(loadCells ⟨c,o,aqS⟩ n).run P w= .ok ds.toArray w:=by
 rw[<-aq];exact run_loadCells_list w ⟨c,o,aqS⟩ ds (fun i u hu=>by rw[p1];exact aB i u hu)
theorem V3 {P:aqV} {w:World} {a:Addr}:(loadCells a 0).run P w= .ok #[] w:=rfl
theorem Wl {P:aqV} (w:World):∀(cs:List UInt8) (s:ByteArray) (f:aqR->ByteArray->Sem (ForInStep ByteArray)),
  (∀u s,f (.int .u8 (u:UInt8).toNat) s=pure (.yield (s.push u)))->
  (forIn (cs.map fun u=>asG .u8 (u.toNat:Int)) s f).run P w= .ok (⟨s.data++cs.toArray⟩:ByteArray) w
 |[],s,f,aP=>by simp
 |u::cs,s,f,aP=>by simp only[arG,List.forIn_cons,aP,pure_bind,Wl w cs (s.push u) f aP];congr 1;simp[ByteArray.push]
theorem ahN (u:UInt8):UInt8.ofNat ((u.toNat:Int).toNat)=u:=by simp
theorem zq {P:aqV} {w:World} {r:Nat} {es:Array MapEntry} {clock:Nat} (aa:w.heap[r]? =aqP (.map es clock)):(getObj r).run P w= .ok (.map es clock) w:=by
 simp[getObj,Sem.run,aa]
theorem YR {P:aqV} {w:World} {r:Nat} {es:Array MapEntry} {clock:Nat} (o:Obj) (aa:w.heap[r]? =aqP (.map es clock)):(setObj r o).run P w= .ok () {w with heap:=w.heap.setIfInBounds r o}:=by
 simp[setObj,Sem.run,aa]
theorem nJ.xo {ks vs:Nat} (hk:0<ks):∀{L:List aqR} {E E':List (List aqR×List aqR)},nJ ks vs L E->nJ ks vs L E'->E=E'
 |L,[],[],_,_=>rfl
 |L,[],p::E',h,cp=>by have h1:=h.eq;rw[cp.eq] at h1;have:=(cp.len p (by simp)).1;have J:=congrArg List.length h1;rw[ash,ari,ari] at J;simp only[List.flatMap_nil,asR] at J;omega
 |L,p::E,[],h,cp=>by have h1:=cp.eq;rw[h.eq] at h1;have:=(h.len p (by simp)).1;have J:=congrArg List.length h1;rw[ash,ari,ari] at J;simp only[List.flatMap_nil,asR] at J;omega
 |L,p::E,q::E',h,cp=>by have h1:=h.eq;rw[cp.eq] at h1;simp only[ash,List.append_assoc] at h1;obtain ⟨aX,h1⟩:=List.append_inj h1 (by rw[(h.len p (by simp)).1,(cp.len q (by simp)).1]);obtain ⟨e2,h1⟩:=List.append_inj h1 (by rw[(h.len p (by simp)).2,(cp.len q (by simp)).2]);have a8:=nJ.xo hk (L:=E.flatMap fun p=>p.1++p.2) (E:=E) (E':=E') ⟨rfl,fun r aw=>h.len r (by simp[aw])⟩ ⟨h1.symm,fun r aw=>cp.len r (by simp[aw])⟩;rw[a8];congr 1;exact (Prod.ext aX e2).symm
theorem td.find {P:aqV} {j:bq} {kt vt:aqY} {key z v:aqR} {t:Bool} {E:List (List aqR×List aqR)} (h:td (cT P kt) (cT P vt) key z E v t):∀{es:List MapEntry} (i:Nat),ba (rf P j kt vt) E es->
  (t=aqQ/\∃n aV,j8 key es i=aqP (n,aV)/\eA j v aV)\/(t=aqT/\v=z/\j8 key es i=aqS):=by
 induction h with
 |pV=>
  intro es i aT;cases es with
  |nil=>exact .inr ⟨rfl,rfl,rfl⟩
  |cons _ _=>exact aT.elim
 |kj p E h=>
  intro es i aT;cases es with
  |nil=>exact aT.elim
  |cons x es=>obtain ⟨⟨h1,J,aj⟩,_⟩:=aT;exact .inl ⟨rfl,i,x.val,by rw[j8,if_pos (h1.trans h)],aj⟩
 |next p E v b h aT a8=>
  intro es i aT;cases es with
  |nil=>exact aT.elim
  |cons x es=>obtain ⟨⟨h1,J,aj⟩,aT⟩:=aT;have:=a8 (i+1) aT;rw[j8,if_neg (fun ax=>h (h1.symm.trans ax))];exact this
theorem NT {P:aqV} {j:bq} {kt vt:aqY} {fg:aqR->Prop}:∀{E:List (List aqR×List aqR)} {es:List MapEntry},ba (rf P j kt vt) E es->(∀p∈E,fg (cZ (cT P kt) p.1))->∀x∈es,fg x.key
 |[],[],_,_,x,U=>by simp at U
 |p::E,y::es,⟨h1,J⟩,aG,x,U=>by
  rcases aq6.1 U with rfl|U
  ·rw[h1.1];exact aG p (by simp)
  ·exact NT J (fun q aK=>aG q (by simp[aK])) x U
 |[],_::_,h,_,_,_=>h.elim
 |_::_,[],h,_,_,_=>h.elim
theorem VX {P:aqV} {j:bq} {af cE:aqX->aqR} {o:Oper} {m:Mem} {v:aqR} (h:eS P af o m v) (hO:hG j af cE o) {w:World} (bp:th P j m w):∃aV,(execOp cE o).run P w= .ok (.value aV) w/\b9 j v aV:=by
 cases h with
 |load t x b off d v h U ao aB ad=>have cQ:=hO x (by simp[h,aq4]);rw[U] at cQ;obtain ⟨q,_,ar,ab⟩:=cQ.ptr;obtain ⟨aV,eQ,aw⟩:=bp.load b q off v ar ad;exact ⟨aV,by simp[execOp,h,Instr.loadAt,ab,atA,loadVar,wB ao,aB,eQ],b9.pY aw⟩
 |vV t x b off d i cs h U ao aB ae ad=>have cQ:=hO x (by simp[h,aq4]);rw[U] at cQ;obtain ⟨q,_,ar,ab⟩:=cQ.ptr;obtain ⟨ds,ai,aq,jL⟩:=Cw bp ar _ _ _ ad;exact ⟨.agg ds.toArray,by simp[execOp,h,Instr.loadAt,ab,atA,loadVar,wB ao,aB,iG ae,y4 aq jL],⟨_,rfl,by simpa using ai⟩⟩
 |slice t x bG ae e i L b off l n cp h ao dY U hm eZ eg h1 J aj=>
  have cQ:=hO x (by simp[h,aq4]);rw[U] at cQ;obtain ⟨q,_,ar,ab⟩:=cQ.slice;obtain ⟨jM,_⟩:=bp.own b q L e ar hm;have bC:i.size=q.es:=by simpa[arY,dY] using jM
  have key:∀(o' hq:Nat),cE x= .slice (aqP ⟨q.aH,o',aqS⟩) l hq->l<=hq->
    (execOp cE o).run P w= .ok (.value (.slice (aqP ⟨q.aH,if hq=n then o' else o'+n*i.size,aqS⟩) (cp - n) (hq - n))) w:=by
   intro o' hq dw hle;have nU:(arJ aqQ l hq (bG.map cE) (ae.map cE) aqS).run P w= .ok (n,cp,hq) w:=by
    cases bG with
    |none=>
     simp only[qY] at eZ;subst eZ;cases ae with
     |none=>simp only[om] at eg;subst eg;simp[arJ]
     |some y=>obtain ⟨k,ag⟩:=eg;have:=hG.gJ (hO y (by simp[h,aq4])) ag;simp[arJ,this,asl,asIntOf,show cp<=hq by omega]
    |some u=>
     obtain ⟨k,hu⟩:=eZ;have j4:=hG.gJ (hO u (by simp[h,aq4])) hu;cases ae with
     |none=>simp only[om] at eg;subst eg;simp[arJ,j4,asl,asIntOf,h1]
     |some y=>obtain ⟨dc,ag⟩:=eg;have:=hG.gJ (hO y (by simp[h,aq4])) ag;simp[arJ,this,j4,asl,asIntOf,h1,show cp<=hq by omega]
   simp only[execOp,h,atq,arl,ed ao,arh,atU,atr,dw,nU,iG dY,ary];congr 3;split<;>simp[p1]
  rcases ab with ⟨aN,_⟩|⟨_,dS,hle,jZ,vB,hdiv,ab⟩|⟨_,fi,o',ab⟩|⟨mq,_⟩
  rotate_left 3
  ·simp[dr] at mq
  ·exact absurd aN (ata _)
  ·have hle:l<=q.cap - off / q.es:=hle;have vB:off%q.es=0:=vB;have hdiv:off / q.es<=q.cap:=hdiv;refine ⟨_,key _ _ ab hle,⟨q,rfl,ar, ?_⟩⟩;by_cases aE:q.cap - off / q.es=n
   ·have:cp - n=0:=by omega
    right;right;left;refine ⟨rfl,this,q.dO+off, ?_⟩;simp[aE,this]
   ·right;left;have yo:(off+n*i.size) / q.es=off / q.es+n:=by rw[bC];exact Nat.add_mul_div_right _ _ dS
    refine ⟨rfl,dS, ?_,jZ, ?_, ?_, ?_⟩
    ·simp only[yo];omega
    ·simp only[bC,Nat.add_mul_mod_self_right];exact vB
    ·simp only[yo];omega
    ·simp only[yo,if_neg aE,arx];congr 1;omega
  ·subst fi;refine ⟨_,key _ _ ab (aq3 _),⟨q,rfl,ar, ?_⟩⟩;right;right;left;refine ⟨rfl,by omega,o', ?_⟩;have:n=0:=by omega
   have:cp=0:=by omega
   simp[*]
 |str s t x e b off l c cs h az he ao U ad=>
  have cQ:=hO x (by simp[h,aq4]);rw[U] at cQ;obtain ⟨q,_,ar,ab⟩:=cQ.slice;obtain ⟨ds,ai,aq,jL⟩:=Cw bp ar _ _ _ ad;have kK:ds=cs.map fun u=> .int .u8 u.toNat:=ba.EK (p:=cv) (fun a b=>CC (j:=j)) (by simp[cv]) ai;subst kK;refine ⟨.string ⟨cs.toArray⟩, ?_,rfl⟩;have key:∀(a':Addr) (hq:Nat),cE x= .slice (aqP a') l hq->(a'=⟨q.aH,q.dO+off,aqS⟩\/l=0)->(execOp cE o).run P w= .ok (.value (.string ⟨cs.toArray⟩)) w:=by
   intro a' hq dw ah;have rO:(loadCells a' l).run P w= .ok ((cs.map fun u=>asG .u8 (u.toNat:Int)).toArray) w:=by
    rcases ah with rfl|ah
    ·exact y4 aq jL
    ·subst ah;have:cs=[]:=by simpa using aq
     subst this;exact V3
   have aa:(aud (.slice (aqP a') l hq)).run P w= .ok (.string ⟨cs.toArray⟩) w:=by simp only[aud,arl,rO,arh,List.forIn_toArray];rw[Wl (P:=P) w cs ByteArray.empty _ (fun u s=>by simp[ahN])];simp[ByteArray.empty,ByteArray.emptyWithCapacity];rfl
   simp[execOp,h,convert,ed az,ed ao,dw,ed he,aa]
  rcases ab with ⟨_,ab⟩|⟨_,_,_,_,_,_,ab⟩|⟨_,fi,o',ab⟩|⟨_,fi,a',ab⟩
  ·exact key _ _ ab (.inl rfl)
  ·exact key _ _ ab (.inl rfl)
  ·exact key _ 0 (by rw[ab,fi]) (.inr fi)
  ·exact key a' 0 (by rw[ab,fi]) (.inr fi)
 |zW s t x e l c h az he ao U=>have cQ:=hO x (by simp[h,aq4]);rw[U] at cQ;have dw:=cQ.lz;refine ⟨.string .empty, ?_,rfl⟩;simp[execOp,h,convert,ed az,ed ao,dw,ed he,aud]
 |lookup gz x cx ok u kt vt b L E i z v0 t fg h hf hu U k7 j5 K aP hk aG ae aE cg ai=>
  have cQ:=hO x (by simp[h,aq4]);have dw:=OB aP (hO cx (by simp[h,aq4]));have core:∃(es:Array MapEntry),ba (rf P j kt vt) E es.toList/\((∃r clock,cE x= .map (aqP r)/\w.heap[r]? =aqP (.map es clock))\/(cE x= .map aqS/\es=#[])):=by
   rcases U with ⟨U,hm,aT⟩|⟨U,rfl⟩
   ·rw[U] at cQ;obtain ⟨q,ar,ab⟩:∃q,j b=aqP q/\cE x= .map (aqP q.aH):=cQ;obtain ⟨ih,iw,cs,clock,E',g1,g2,g3,g4,_⟩:=bp.map b q L u ar hm;have tA:ih=kt/\iw=vt:=by rw[hu] at g2;simpa using g2.symm
    obtain ⟨rfl,rfl⟩:=tA;have:=nJ.xo k7 aT g3;subst this;exact ⟨cs,g4, .inl ⟨_,_,ab,g1⟩⟩
   ·rw[U] at cQ;exact ⟨#[],arb, .inr ⟨cQ,rfl⟩⟩
  obtain ⟨es,g4,ab⟩:=core;have mr:=K.find (af cx) es.toList w hk (NT g4 aG);have j0:=K.check es.isEmpty (af cx) w hk;have Uf:=ai.find 0 g4;rcases ab with ⟨r,clock,ab,g1⟩|⟨ab,rfl⟩
  ·rcases Uf with ⟨rfl,n,aV,h1,J⟩|⟨rfl,rfl,h1⟩
   ·rw[h1] at mr;cases ok with
    |false=>exact ⟨aV,by simp[execOp,h,ats,ed hf,ab,zq g1,dw,j0,mr],b9.v7 J⟩
    |true=>exact ⟨.tuple #[aV, .bool aqQ],by simp[execOp,h,ats,ed hf,ab,zq g1,dw,j0,mr],⟨_,rfl,J,eA.pY rfl,arb⟩⟩
   ·rw[h1] at mr;cases ok with
    |false=>exact ⟨v0,by simp[execOp,h,ats,ed hf,ab,zq g1,dw,j0,mr,nx ae aE],b9.v7 (za cg)⟩
    |true=>exact ⟨.tuple #[v0, .bool aqT],by simp[execOp,h,ats,ed hf,ab,zq g1,dw,j0,mr,nx ae aE],⟨_,rfl,za cg,eA.pY rfl,arb⟩⟩
  ·rcases Uf with ⟨rfl,n,aV,h1,J⟩|⟨rfl,rfl,h1⟩
   ·simp[j8] at h1
   ·rw[h1] at mr;simp only[List.isEmpty_toArray,List.isEmpty_nil] at j0 mr;have j0:=K.check aqQ (af cx) w hk;cases ok with
    |false=>exact ⟨v0,by simp[execOp,h,ats,ed hf,ab,dw,j0,mr,nx ae aE],b9.v7 (za cg)⟩
    |true=>exact ⟨.tuple #[v0, .bool aqT],by simp[execOp,h,ats,ed hf,ab,dw,j0,mr,nx ae aE],⟨_,rfl,za cg,eA.pY rfl,arb⟩⟩
end Go.aS
end
section
namespace Go.aS
def bq.up (j:bq) (n:Nat) (e:iL):bq:=fun b=>if b=n then aqP e else j b
theorem Rel.Ca {P:aqV} {j:bq} {m:Mem} {w:World} (h:Rel P j m w):j m.next=aqS:=by
 cases ar:j m.next with
 |none=>rfl
 |some e=>exact absurd (h.lt _ _ ar).1 (ata _)
theorem bq.xq {j:bq} {n:Nat} {e:iL} (aq:j n=aqS):∀b x,j b=aqP x->j.up n e b=aqP x:=by
 intro b x aa;unfold bq.up;split
 ·rename_i h;subst h;rw[aq] at aa;cases aa
 ·exact aa
theorem Rel.push {P:aqV} {j:bq} {m:Mem} {w w':World} (h:Rel P j m w) {X:a6} {e:iL} {ob:Obj}
  (hw:w'.heap=w.heap.push ob) (acM:w'.os=w.os) (adb:w'.tape=w.tape) (lQ:w'.output=w.output) (he:e.aH=w.heap.size)
  (cQ:nM P j e (aqP ob) X):Post P j m w (j.up m.next e) (m.push X) w':=by
 have aq:=h.Ca;have hle:=bq.xq (e:=e) aq;have hold:∀c,c<w.heap.size->w'.heap[c]? =w.heap[c]? :=fun c ab=>by rw[hw,atV,if_neg (by omega)]
 have qI:w'.heap.size=w.heap.size+1:=by rw[hw];simp
 have iE:w'.heap[w.heap.size]? =aqP ob:=by rw[hw];simp
 have hblk:∀b,b≠m.next->(m.push X).aH b=m.aH b:=fun b aa=>by simp[Mem.push,aa]
 have pP:(m.push X).aH m.next=X:=by simp[Mem.push]
 have e5:∀b x,j.up m.next e b=aqP x->b≠m.next->j b=aqP x:=fun b x aa ca=>by simpa[bq.up,ca] using aa
 refine ⟨⟨?_, ?_, ?_⟩,⟨acM,adb,lQ,by omega,fun c ab _=>hold c ab⟩,by simp[Mem.push], ?_, ?_, ?_,fun b aa fh=>by rw[hblk b (by omega)] at fh;exact fh⟩
 ·intro b x aa;by_cases eL:b=m.next
  ·subst eL;have:x=e:=by simpa[bq.up] using aa.symm
   subst this;exact ⟨by simp[Mem.push],by omega⟩
  ·have:=h.lt b x (e5 b x aa eL);exact ⟨by simp only[Mem.push];omega,by omega⟩
 ·intro b x aa;by_cases eL:b=m.next
  ·subst eL;have:x=e:=by simpa[bq.up] using aa.symm
   subst this;rw[pP,he,iE];exact cQ.mono hle
  ·have lL:=e5 b x aa eL;rw[hblk b eL,hold _ (h.lt b x lL).2];exact (h.obj b x lL).mono hle
 ·intro b b2 x gX aa ct ah fh my;by_cases eL:b=m.next
  ·by_cases kh:b2=m.next
   ·rw[eL,kh]
   ·have U:x=e:=by subst eL;simpa[bq.up] using aa.symm
    have:=(h.lt b2 gX (e5 b2 gX ct kh)).2;rw[<-my,U,he] at this;omega
  ·have lL:=e5 b x aa eL;by_cases kh:b2=m.next
   ·have U:gX=e:=by subst kh;simpa[bq.up] using ct.symm
    have:=(h.lt b x lL).2;rw[my,U,he] at this;omega
   ·rw[hblk b eL] at ah;rw[hblk b2 kh] at fh;exact h.inj b b2 x gX lL (e5 b2 gX ct kh) ah fh my
 ·intro b aa;simp[bq.up,show b≠m.next by omega]
 ·intro b x aa e4;by_cases eL:b=m.next
  ·have U:x=e:=by subst eL;simpa[bq.up] using aa.symm
   exact .inl (by rw[U,he];exact aq3 _)
  ·exact absurd (h.lt b x (e5 b x aa eL)).1 (as9.2 e4)
 ·intro b aa ah;rw[hblk b (by omega)] at ah;exact ah
theorem Rel.kill {P:aqV} {j:bq} {m:Mem} {w:World} (h:Rel P j m w) (b:Nat):Post P j m w j (m.put b .dead) w:=by
 have hblk:∀c x,(m.put b .dead).aH c=x->(x≠ .dead)->m.aH c=x:=by
  intro c x ab U;simp only[Mem.put] at ab;split at ab
  ·exact absurd ab.symm U
  ·exact ab
 refine ⟨⟨h.lt, ?_, ?_⟩,u1.refl j m w,aq3 _,fun _ _=>rfl, ?_, ?_,fun c ab fh=>by
  have aX:m.aH c=(m.put b .dead).aH c:=by refine hblk c _ rfl ?_;intro aB;rw[aB] at fh;cases fh
  rw[aX];exact fh⟩
 ·intro c x ab;by_cases aB:(m.put b .dead).aH c= .dead
  ·rw[aB];trivial
  ·rw[<-hblk _ _ rfl aB];exact h.obj c x ab
 ·intro c bP x gX ab rH ah ai my;have aX:m.aH c=(m.put b .dead).aH c:=by
   refine hblk c _ rfl ?_;intro aB;rw[aB] at ah;cases ah
  have e2:m.aH bP=(m.put b .dead).aH bP:=by refine hblk bP _ rfl ?_;intro aB;rw[aB] at ai;cases ai
  exact h.inj c bP x gX ab rH (by rw[aX];exact ah) (by rw[e2];exact ai) my
 ·intro c e ab aq;exact absurd (h.lt c e ab).1 (as9.2 aq)
 ·intro c ab ah;have aX:m.aH c=(m.put b .dead).aH c:=by
   refine hblk c _ rfl ?_;intro aB;rw[aB] at ah;cases ah
  rw[aX];exact ah
def jy (w:World) (c:Nat) (cs:Array aqR) (t:aqY) (bg:Nat×Nat):World:={w with heap:=w.heap.setIfInBounds c (.cells cs t bg)}
theorem NK {w:World} {c:Nat} {cs:Array aqR} {t:aqY} {bg:Nat×Nat} {x:Nat} (U:x≠c):(jy w c cs t bg).heap[x]? =w.heap[x]? :=by
 simp only[jy];rw[atW (by omega)]
theorem NE {w:World} {c:Nat} {cs:Array aqR} {t:aqY} {bg:Nat×Nat} (ab:c<w.heap.size):(jy w c cs t bg).heap[c]? =aqP (.cells cs t bg):=by
 simp[jy,ab]
def q5 (w:World) (c:Nat) (o:Obj):World:={w with heap:=w.heap.setIfInBounds c o}
theorem Xk {w:World} {c:Nat} {o:Obj} {x:Nat} (U:x≠c):(q5 w c o).heap[x]? =w.heap[x]? :=by
 simp only[q5];rw[atW (by omega)]
theorem agd {w:World} {c:Nat} {o:Obj} (ab:c<w.heap.size):(q5 w c o).heap[c]? =aqP o:=by
 simp[q5,ab]
theorem Rel.mM {P:aqV} {j:bq} {m:Mem} {w:World} (h:Rel P j m w) {b:Nat} {e:iL} {X:a6} {ob:Obj} (ar:j b=aqP e) (qF:(m.aH b).hK=aqQ) (cQ:nM P j e (aqP ob) X) (apV:X.hK=aqQ):
  Post P j m w j (m.put b X) (q5 w e.aH ob):=by
 have aN:=(h.lt b e ar).2;have kl:(m.aH b).live=aqQ:=by cases aa:m.aH b<;>simp[aa,a6.hK,a6.live] at qF⊢
 have ca:∀c x,j c=aqP x->(m.aH c).live=aqQ->c≠b->x.aH≠e.aH:=fun c x ab ai dB ko=>dB (h.inj b c e x ar ab qF ai ko.symm).symm;have hblk:∀c,c≠b->(m.put b X).aH c=m.aH c:=fun c ab=>by simp[Mem.put,ab]
 have pP:(m.put b X).aH b=X:=by simp[Mem.put]
 have qI:(q5 w e.aH ob).heap.size=w.heap.size:=by simp[q5]
 refine ⟨⟨?_, ?_, ?_⟩,⟨rfl,rfl,rfl,by rw[qI];exact aq3 _, ?_⟩,aq3 _,fun _ _=>rfl, ?_, ?_,fun c ab fh=>by
  by_cases dB:c=b
  ·subst dB;exact kl
  ·rw[hblk c dB] at fh;exact fh⟩
 ·intro c x ab;have:=h.lt c x ab;exact ⟨this.1,by rw[qI];exact this.2⟩
 ·intro c x ab;by_cases dB:c=b
  ·subst dB;rw[ar] at ab;cases ab;rw[pP,agd aN];exact cQ
  ·rw[hblk c dB];cases ai:(m.aH c).live with
   |false=>
    cases aa:m.aH c<;>simp[aa,a6.live] at ai
    trivial
   |true=>rw[Xk (ca c x ab ai dB)];exact h.obj c x ab
 ·intro c bP x gX ab rH ah fh my;have aX:(m.aH c).hK=aqQ:=by
   by_cases dB:c=b
   ·subst dB;exact qF
   ·rw[hblk c dB] at ah;exact ah
  have e2:(m.aH bP).live=aqQ:=by
   by_cases dB:bP=b
   ·subst dB;exact kl
   ·rw[hblk bP dB] at fh;exact fh
  exact h.inj c bP x gX ab rH aX e2 my
 ·intro c ab aq;exact Xk (Ne.symm (aq b e ar qF))
 ·intro c x ab e4;exact absurd (h.lt c x ab).1 (as9.2 e4)
 ·intro c ab ah;by_cases dB:c=b
  ·subst dB;exact qF
  ·rw[hblk c dB] at ah;exact ah
theorem Rel.write {P:aqV} {j:bq} {m:Mem} {w:World} (h:Rel P j m w) {b:Nat} {e:iL} {L L':List aqR} {t:aqY} {cs cs':Array aqR} {bg:Nat×Nat} (ar:j b=aqP e) (aa:m.aH b= .own L t)
  (hw:w.heap[e.aH]? =aqP (.cells cs t bg)) (az:cs'.size=cs.size) (ai:L'.length<=e.cap*e.es) (ad:∀(i:Nat) (v:aqR),L'[i]? =aqP v->∃aV,cs'[e.dO+i]? =aqP aV/\dy j v aV):
  Post P j m w j (m.put b (.own L' t)) (jy w e.aH cs' t bg):=by
 obtain ⟨qs,yd,g1,g2,g3,g4,g5,g6⟩:=h.own b e L t ar aa;have hC:qs=cs/\yd=bg:=by rw[hw] at g1;simp at g1;exact ⟨g1.1.symm,g1.2.symm⟩
 obtain ⟨rfl,rfl⟩:=hC;exact h.mM ar (by rw[aa];rfl) ⟨cs',yd,rfl,by rw[az];exact g2,g3,by rw[az];exact g4,ai,ad⟩ rfl
theorem Rel.reuse {P:aqV} {j:bq} {m:Mem} {w:World} (h:Rel P j m w) {b:Nat} {e e2:iL} {L L':List aqR} {t:aqY} {cs cs':Array aqR} {bg:Nat×Nat} (ar:j b=aqP e) (aa:m.aH b= .own L t)
  (hw:w.heap[e.aH]? =aqP (.cells cs t bg)) (az:cs'.size=cs.size) (Bp:e2.aH=e.aH) (kL:e2.es=e.es) (abT:e2.dO+e2.cap*e2.es<=cs.size) (ai:L'.length<=e2.cap*e2.es) (ad:∀(i:Nat) (v:aqR),L'[i]? =aqP v->∃aV,cs'[e2.dO+i]? =aqP aV/\dy j v aV):
  Post P j m w (j.up m.next e2) ((m.put b .dead).push (.own L' t)) (jy w e.aH cs' t bg):=by
 have aN:=(h.lt b e ar).2;have aq:=h.Ca;have hle:=bq.xq (e:=e2) aq;have qF:(m.aH b).hK=aqQ:=by rw[aa];rfl
 have ca:∀c x,j c=aqP x->(m.aH c).live=aqQ->c≠b->x.aH≠e.aH:=fun c x ab ai dB ko=>dB (h.inj b c e x ar ab qF ai ko.symm).symm;have eL:b<m.next:=(h.lt b e ar).1;have vC:(m.put b .dead).next=m.next:=rfl;have hblk:∀c,c≠b->c≠m.next->((m.put b .dead).push (.own L' t)).aH c=m.aH c:=fun c ab rH=>by simp[Mem.put,Mem.push,ab,rH]
 have yn:((m.put b .dead).push (.own L' t)).aH b= .dead:=by simp[Mem.put,Mem.push,show b≠m.next by omega]
 have acz:((m.put b .dead).push (.own L' t)).aH m.next= .own L' t:=by simp[Mem.put,Mem.push]
 have e5:∀b x,j.up m.next e2 b=aqP x->b≠m.next->j b=aqP x:=fun b x aa ca=>by simpa[bq.up,ca] using aa
 obtain ⟨qs,yd,g1,g2,g3,g4,g5,g6⟩:=h.own b e L t ar aa;have hC:qs=cs/\yd=bg:=by rw[hw] at g1;simp at g1;exact ⟨g1.1.symm,g1.2.symm⟩
 obtain ⟨rfl,rfl⟩:=hC;have qI:(jy w e.aH cs' t yd).heap.size=w.heap.size:=by simp[jy]
 refine ⟨⟨?_, ?_, ?_⟩,⟨rfl,rfl,rfl,by rw[qI];exact aq3 _, ?_⟩,by simp[Mem.push,vC], ?_, ?_, ?_,fun c ab fh=>by
  by_cases dB:c=b
  ·subst dB;rw[aa];rfl
  ·rw[hblk c dB (by omega)] at fh;exact fh⟩
 ·intro c x ab;by_cases jK:c=m.next
  ·subst jK;have:x=e2:=by simpa[bq.up] using ab.symm
   subst this;exact ⟨by simp[Mem.push,vC],by rw[qI,Bp];exact aN⟩
  ·have:=h.lt c x (e5 c x ab jK);exact ⟨by simp only[Mem.push,vC];omega,by rw[qI];exact this.2⟩
 ·intro c x ab;by_cases jK:c=m.next
  ·subst jK;have U:x=e2:=by simpa[bq.up] using ab.symm
   subst U;rw[acz,Bp,NE aN];refine ⟨cs',yd,rfl,by rw[az];exact g2,by rw[kL];exact g3,by rw[az];exact abT,ai,fun i v ae=> ?_⟩;obtain ⟨aV,b5,cd⟩:=ad i v ae;exact ⟨aV,b5,cd.mono hle⟩
  ·by_cases dB:c=b
   ·subst dB;rw[yn];trivial
   ·have BA:=e5 c x ab jK;rw[hblk c dB jK];cases kl:(m.aH c).live with
    |false=>
     cases LQ:m.aH c<;>simp[LQ,a6.live] at kl
     trivial
    |true=>rw[NK (ca c x BA kl dB)];exact (h.obj c x BA).mono hle
 ·intro c bP x gX ab rH ah fh my;have dB:c≠b:=by intro ax;subst ax;rw[yn] at ah;cases ah
  have LX:bP≠b:=by intro ax;subst ax;rw[yn] at fh;cases fh
  by_cases jK:c=m.next
  ·by_cases vq:bP=m.next
   ·rw[jK,vq]
   ·have U:x=e2:=by subst jK;simpa[bq.up] using ab.symm
    rw[hblk bP LX vq] at fh;exact absurd (by rw[<-my,U,Bp]) (ca bP gX (e5 bP gX rH vq) fh LX)
  ·rw[hblk c dB jK] at ah;have BA:=e5 c x ab jK;by_cases vq:bP=m.next
   ·have U:gX=e2:=by subst vq;simpa[bq.up] using rH.symm
    have kl:(m.aH c).live=aqQ:=by cases hm:m.aH c<;>simp[hm,a6.hK,a6.live] at*
    exact absurd (by rw[my,U,Bp]) (ca c x BA kl dB)
   ·rw[hblk bP LX vq] at fh;exact h.inj c bP x gX BA (e5 bP gX rH vq) ah fh my
 ·intro c ab k8;exact NK (Ne.symm (k8 b e ar qF))
 ·intro c ab;simp[bq.up,show c≠m.next by omega]
 ·intro c x ab e4;by_cases jK:c=m.next
  ·have U:x=e2:=by subst jK;simpa[bq.up] using ab.symm
   exact .inr ⟨b,e,ar,qF,by rw[U,Bp]⟩
  ·exact absurd (h.lt c x (e5 c x ab jK)).1 (as9.2 e4)
 ·intro c ab ah;by_cases dB:c=b
  ·subst dB;exact qF
  ·rw[hblk c dB (by omega)] at ah;exact ah
end Go.aS
end
section
namespace Go.aS
structure AD (P:aqV) (j:bq) (w w':World) (X:a6) (e:iL) (ob:Obj):Prop where
 heap:w'.heap=w.heap.push ob
 os:w'.os=w.os
 tape:w'.tape=w.tape
 output:w'.output=w.output
 aH:e.aH=w.heap.size
 obj:nM P j e (aqP ob) X
 own:X.hK=aqQ
theorem AD.cells {P:aqV} {j:bq} {w w':World} {L:List aqR} {t:aqY} {e:iL} {cs:Array aqR} {bg:Nat×Nat} (h1:w'.heap=w.heap.push (.cells cs t bg)) (J:w'.os=w.os) (aj:w'.tape=w.tape) (aM:w'.output=w.output) (br:e.aH=w.heap.size)
  (dt:∀i:Nat,i<cs.size->¬(bg.1<=i/\i<bg.2)) (hb:P.cellsOf t=e.es) (hz:cs.size=e.cap*e.es) (mo:L.length<=cs.size) (Bf:∀(i:Nat) (v:aqR),L[i]? =aqP v->∃aV,cs[i]? =aqP aV/\dy j v aV) (TS:e.dO=0:=by rfl):AD P j w w' (.own L t) e (.cells cs t bg):=
 ⟨h1,J,aj,aM,br,⟨cs,bg,rfl,dt,hb,by rw[TS,hz];omega,by rw[<-hz];exact mo,fun i v ae=>by rw[TS,ara];exact Bf i v ae⟩,rfl⟩
theorem ba.Qx {R:aqR->aqR->Prop} {L:List aqR} {cs:Array aqR} (h:ba R L cs.toList):L.length=cs.size/\∀(i:Nat) (v:aqR),L[i]? =aqP v->∃aV,cs[i]? =aqP aV/\R v aV:=
 ⟨by simpa using h.length,fun i v ae=>by obtain ⟨b,aa,aw⟩:=h.get i v ae;exact ⟨b,by simpa using aa,aw⟩⟩
theorem Dc {n:Nat}:∀i:Nat,i<n->¬(((0,0):Nat×Nat).1<=i/\i<((0,0):Nat×Nat).2):=fun i _ h=>absurd h.2 (Nat.not_lt_zero i)
theorem wm {P:aqV} {t:aqY} {i:TypeInfo} (h:P.info? t=aqP i):P.cellsOf t=i.size:=by simp[arY,h]
theorem C3:asS 0=#[]:=by apply ar6;simp
theorem Oe (z:Array aqR) (l:Nat):((asS (l*z.size)).map (fun k=>z[k%z.size]!)).toList=(arq l z.toList).flatten:=by
 induction l with
 |zero=>simp
 |succ l a8=>
  have e:asS ((l+1)*z.size)=asS (l*z.size)++((asS z.size).map (l*z.size+·)):=by rw[arm,asp,Array.range_add]
  rw[e,Array.map_append,aue,a8,List.replicate_succ',List.flatten_append];congr 1;simp only[List.flatten_cons,List.flatten_nil,List.append_nil,Array.map_map];apply asw;intro i;simp only[asF,arB,Array.toList_range,List.getElem?_range];by_cases ae:i<z.size
  ·simp[ae,Nat.mod_eq_of_lt ae,Nat.mul_add_mod_self_right]
  ·simp[ae]
theorem Gv {j:bq} {L:List aqR} (h:L.all cv=aqQ):ba (dy j) L L:=ba.self (fun _=>p0) h
theorem wg {z:List aqR} (h:z.all cv=aqQ) (l:Nat):(arq l z).flatten.all cv=aqQ:=by
 simp only[aq8] at h⊢;intro x U;simp only[List.mem_flatten,List.mem_replicate] at U;obtain ⟨kq,⟨_,rfl⟩,U⟩:=U;exact h x U
theorem XY {P:aqV} {j:bq} {af cE:aqX->aqR} {o:Oper} {n:Nat} {X:a6} {v:aqR} (h:hW P af o n X v) (hO:hG j af cE o) (w:World):
  ∃aV w' e ob,(execOp cE o).run P w= .ok (.value aV) w'/\AD P j w w' X e ob/\∀bT:bq,bT n=aqP e->b9 bT v aV:=by
 cases h with
 |alloc t i z h ae aE cg az=>
  have gl:=(Gv (j:=j) cg).Qx;refine ⟨.pointer (aqP ⟨w.heap.size,0,aqS⟩),w.alloc (.cells z.cells t),⟨w.heap.size,1,i.size,0⟩,_, ?_,
   .cells rfl rfl rfl rfl rfl Dc (wm ae) (by simp[az]) (by simp) gl.2,fun bT ar=>⟨_,rfl,ar,rfl⟩⟩
  simp[execOp,h,Instr.alloc,nx ae aE,newVar,newRow]
 |box t x i h ae ad az=>
  have cQ:=b9.storable (hO x (by simp[h,aq4])) ad;have gl:=cQ.cells.Qx;refine ⟨.pointer (aqP ⟨w.heap.size,0,aqS⟩),w.alloc (.cells (cE x).cells t),⟨w.heap.size,1,i.size,0⟩,_, ?_,
   .cells rfl rfl rfl rfl rfl Dc (wm ae) ?_ ?_ gl.2,fun bT ar=>⟨_,rfl,ar,rfl⟩⟩
  ·simp[execOp,h,Instr.box,newVar,newRow]
  ·have:=gl.1;simp at this;simp;omega
  ·exact Nat.le_of_eq gl.1
 |buildSlice t l bK e i z cs h ao ae aE cg dp rE rN ab=>
  have J:=hG.MV (j:=j) (af:=af) (cE:=cE) (o:=o) bK.toList (fun p an=>hO p.2 (by
   simp only[h,aq4];simp only[asY,aq'];exact ⟨p,an,rfl⟩))
  have T8:ba (dy j) (arq l z.cells.toList).flatten ((asS (l*i.size)).map (fun k=>z.cells[k%z.cells.size]!)).toList:=by rw[<-dp,Oe];exact Gv (wg cg l)
  obtain ⟨ds,kK,aw⟩:=F2 (j:=j) _ _ _ _ cs J T8 ab;have gl:=aw.Qx;have hlen:cs.length=l*i.size:=by
   have:∀(bK:List (Nat×aqR)) (L cs:List aqR) (pl:Nat->Option (Nat×Nat)),jw pl L bK=aqP cs->cs.length=L.length:=by
    intro bK;induction bK with
    |nil=>intro L cs pl ax;simp only[jw,ark.injEq] at ax;rw[ax]
    |cons p bK a8=>
     intro L cs pl ax;obtain ⟨a,b⟩:=p;simp only[jw] at ax;cases an:pl a with
     |none=>simp[an] at ax
     |some q=>
      simp only[an] at ax;split at ax
      ·rw[a8 _ _ _ ax,o8]
      ·cases ax
   rw[this _ _ _ _ ab];have aa:=T8.length;simpa using aa
  have rQ:(bK.map fun (i,x)=>(i,cE x)).toList=bK.toList.map fun p=>(p.1,cE p.2):=by simp
  refine ⟨.slice (aqP ⟨w.heap.size,0,aqS⟩) l l,w.alloc (.cells ds e),⟨w.heap.size,l,i.size,0⟩,_, ?_,
   .cells rfl rfl rfl rfl rfl Dc (wm ae) (by rw[<-gl.1,hlen]) (Nat.le_of_eq gl.1) gl.2,fun bT ar=>⟨_,rfl,ar, .inl ⟨rN,rfl⟩⟩⟩
  by_cases vQ:l*i.size=0
  ·have jL:Instr.fill (fun k=>aqP (k*i.size,i.size)) ((asS 0).map (fun k=>(#[]:Array aqR)[k%0]!)) (bK.toList.map fun p=>(p.1,cE p.2))=aqP ds:=by
    rw[vQ,C3] at kK;rw[C3];simpa using kK
   simp only[execOp,h,Instr.buildSlice,arl,ed ao,arh,iG ae];simp only[vQ];simp[C3] at jL;simp[jL,rQ,newRow,C3]
  ·simp only[execOp,h,Instr.buildSlice,arl,ed ao,arh,iG ae];rw[if_neg (by omega)];simp only[vQ,if_false,arl,nx ae aE,arh,ary,rQ,kK];simp[newRow]
 |makeSlice t x y l c k dc e i z h ao ae aE cg dp U ag rO aa ab=>
  have cQ:=hO x (by simp[h,aq4]);rw[U] at cQ;have dw:=cQ.int;have iY:=hO y (by simp[h,aq4]);rw[ag] at iY;have k4:=iY.int;have gl:=(Gv (j:=j) (wg cg c)).length;have adu:aqW.i64.wrap (l:Int)=(l:Int):=IntWalk.i64_in _ (by omega);have adr:aqW.i64.wrap (c:Int)=(c:Int):=IntWalk.i64_in _ (by omega);have nT:(i.bytes:Int)*(c:Int)<=140737488355328:=by
   have:((i.bytes*c:Nat):Int)<=140737488355328:=by omega
   rwa [Int.natCast_mul] at this
  refine ⟨.slice (aqP ⟨w.heap.size,0,aqS⟩) l c,w.alloc (.cells ((asS (c*i.size)).map (fun k=>z.cells[k%z.cells.size]!)) e),⟨w.heap.size,c,i.size,0⟩,_, ?_,
   .cells rfl rfl rfl rfl rfl Dc (wm ae) (by simp) ?_ ?_,fun bT ar=>⟨_,rfl,ar, .inl ⟨ab,rfl⟩⟩⟩
  ·have lR:∀q:Int,0<=q->q<=c->(decide (q<0)||decide ((i.bytes:Int)*q>2 ^ 48))=aqT:=by
    intro q aI h1;have:(i.bytes:Int)*q<=(i.bytes:Int)*c:=Int.mul_le_mul_of_nonneg_left h1 (by omega);simp;omega
   have az:(Instr.makeSlice t (.int k l) (.int dc c)).run P w= .ok (.slice (aqP ⟨w.heap.size,0,aqS⟩) l c) (w.alloc (.cells ((asS (c*i.size)).map (fun k=>z.cells[k%z.cells.size]!)) e)):=by
    simp only[Instr.makeSlice,arl,ed ao,arh,asInt,asIntOf,ary,ur ae,adu,adr];rw[lR c (by omega) (by omega)];have h1:¬((l:Int)<0):=by omega
    have J:¬((l:Int)>(c:Int)):=by omega
    simp only[h1,J,decide_false,Bool.or_self,arz,if_false,arl,run_askRoom,arh,Int.toNat_natCast,iG ae,ary];by_cases vQ:c*i.size=0
    ·simp[vQ,newRow,C3]
    ·simp[vQ,nx ae aE,newRow]
   simp[execOp,h,dw,k4,az]
  ·simp[dp]
  ·intro a v au;refine ⟨v, ?_, ?_⟩
   ·have:=Oe z.cells c;rw[dp] at this;rw[<-asZ,dp,this];exact au
   ·have:=wg cg c;simp only[aq8] at this;exact p0 (this v (aq7 au))
 |bytes s t x e i b h az ao he ae hd U aa=>
  have cQ:=hO x (by simp[h,aq4]);rw[U] at cQ;have dw:=cQ.str
  let cap:=(Question.appendCap b.size 0 e).cut (w.tape w.drawn (.appendCap b.size 0 e))
  have jZ:b.size<=cap/\cap<dr:=by have aN:=Nat.mod_lt (w.tape w.drawn (.appendCap b.size 0 e)) (show 0<2 ^ 63 - b.size by omega);simp only[cap,Question.cut,dr];omega
  let row:Array aqR:=b.data.map (fun u=> .int .u8 u.toNat)++asf (cap - b.size) (.int .u8 0)
  have BT:row.size=cap:=by simp[row];have:b.data.size=b.size:=rfl;omega
  refine ⟨.slice (aqP ⟨w.heap.size,0,aqS⟩) b.size cap,(w.drew.alloc (.cells row e)).freeze {block:=w.heap.size,off:=cap} 1,⟨w.heap.size,cap,1,0⟩,Obj.cells row e (cap,cap+1), ?_,
   .cells ?_ ?_ ?_ ?_ rfl ?_ (by rw[wm ae,hd]) (by simp[BT]) ?_ ?_,fun bT ar=>⟨_,rfl,ar, .inr (.inl ⟨rfl,Nat.one_pos, ?_,jZ.2, ?_, ?_, ?_⟩)⟩⟩
  ·have ac4:(Conv.stringToBytes e b).run P w= .ok (.slice (aqP ⟨w.heap.size,0,aqS⟩) b.size cap) ((w.drew.alloc (.cells row e)).freeze {block:=w.heap.size,off:=cap} 1):=by
    simp only[Conv.stringToBytes,arl,run_choose,atX,arz,if_false,arh,newRow,run_newObj,ary,markStringish,run_shape];have ac5:(w.drew.alloc (.cells row e)).heap[w.heap.size]? =aqP (.cells row e):=by show (w.heap.push (Obj.cells row e))[w.heap.size]? =_;simp
    have tI:((w.drew.alloc (.cells row e)).shape? w.heap.size)=aqP (e,row.size):=by simp only[World.shape?,ac5]
    show (Result.andThen (Sem.run P (match (w.drew.alloc (.cells row e)).shape? w.heap.size with|some (_,n)=>freeze {block:=w.heap.size,off:=n} 1|_=>pure ()) (w.drew.alloc (.cells row e))) _)=_;rw[tI];simp[BT];rfl
   simp[execOp,h,convert,ed az,ed ao,dw,ed he,ac4]
  ·simp only[atY,atB,if_false,World.alloc,World.drew];apply atZ;intro k;simp only[at0,atV];by_cases hk:w.heap.size=k
   ·subst hk;simp
   ·simp[hk,Ne.symm hk]
  ·unfold atY;rw[if_neg (by decide)];rfl
  ·unfold atY;rw[if_neg (by decide)];rfl
  ·unfold atY;rw[if_neg (by decide)];rfl
  ·intro k hk ax;simp only at ax;omega
  ·simp[BT];have:b.data.size=b.size:=rfl;omega
  ·intro a v au;refine ⟨v, ?_, ?_⟩
   ·simp only[row];have aN:a<b.data.size:=by
     have:=(aqZ.1 au).1;simpa using this
    rw[att (by simpa using aN)];simp only[arB,asZ] at au;simpa using au
   ·simp only[arB] at au;cases aK:b.data.toList[a]? with
    |none=>simp[aK] at au
    |some u=>simp[aK] at au;subst au;rfl
  ·simp;omega
  ·simp
  ·simp
  ·simp
 |makeMap t kt vt h ao=>refine ⟨.map (aqP w.heap.size),w.alloc (.map #[] 0),⟨w.heap.size,0,0,0⟩,_, ?_,⟨rfl,rfl,rfl,rfl,rfl,⟨kt,vt,#[],0,[],rfl,ao,⟨rfl,fun p an=>by simp at an⟩,arb,⟨by simp,fun x U=>by simp at U⟩⟩,rfl⟩,fun bT ar=>⟨_,ar,rfl⟩⟩;simp[execOp,h,Instr.makeMap]
theorem afx {P:aqV} {j:bq} {af cE:aqX->aqR} {o:Oper} {m:Mem} {w:World} {X:a6} {v:aqR} (h:hW P af o m.next X v) (hO:hG j af cE o) (bp:Rel P j m w):
  ∃aV w' bT,(execOp cE o).run P w= .ok (.value aV) w'/\Post P j m w bT (m.push X) w'/\b9 bT v aV:=by
 obtain ⟨aV,w',e,ob,aw,aq,ad⟩:=XY h hO w;exact ⟨aV,w',j.up m.next e,aw,bp.push aq.heap aq.os aq.tape aq.output aq.aH aq.obj,ad _ (by simp[bq.up])⟩
end Go.aS
end
section
namespace Go.aS
theorem Gd {w:World} {c:Nat} {cs:Array aqR} {t:aqY} {bg:Nat×Nat} (h:w.heap[c]? =aqP (.cells cs t bg)):jy w c cs t bg=w:=by
 have:w.heap.setIfInBounds c (.cells cs t bg)=w.heap:=by
  apply atZ;intro k;by_cases hk:k=c
  ·subst hk;have aN:=(ar2.1 h).1;rw[aur aN,h]
  ·rw[atW (by omega)]
 simp only[jy,this]
theorem aeN {w:World} {c:Nat} {cs cs':Array aqR} {t:aqY} {bg:Nat×Nat}:jy (jy w c cs t bg) c cs' t bg=jy w c cs' t bg:=by
 simp[jy]
theorem aeB {w:World} {c o:Nat} {cs:Array aqR} {t:aqY} {bg:Nat×Nat} {v:aqR} (h:w.heap[c]? =aqP (.cells cs t bg)):w.setCell ⟨c,o,aqS⟩ v=jy w c (cs.setIfInBounds o v) t bg:=by
 have:(w.setCell ⟨c,o,aqS⟩ v).heap=(jy w c (cs.setIfInBounds o v) t bg).heap:=by
  simp only[World.setCell,jy];apply atZ;intro k;rw[at0];by_cases hk:c=k
  ·subst hk;have aN:=(ar2.1 h).1;rw[if_pos rfl,h,aur aN];simp
  ·rw[if_neg hk,atW hk]
 simp only[World.setCell] at this;simp only[World.setCell,jy,this] at*
theorem Ch {P:aqV} (c o:Nat) (t:aqY) (bg:Nat×Nat):∀(vs:List aqR) (i:Nat) (cs:Array aqR) (w:World),w.heap[c]? =aqP (.cells cs t bg)->(∀k:Nat,k<cs.size->¬(bg.1<=k/\k<bg.2))->
  o+i+vs.length<=cs.size->(∀v∈vs,v.oneCell'=aqQ)->(storeCells ⟨c,o,aqS⟩ vs i).run P w= .ok () (jy w c (eT cs.toList (o+i) vs).toArray t bg)
 |[],i,cs,w,h,aP,ai,h1=>by simp only[storeCells,eT,Array.toArray_toList,Gd h];rfl
 |v::vs,i,cs,w,h,aP,ai,h1=>by
  simp only[arr] at ai;have aN:=(ar2.1 h).1;have ab:w.cell? ⟨c,o+i,aqS⟩=aqP cs[o+i]:=by simp[as1,h]
  have fY:w.frozen? ⟨c,o+i,aqS⟩=aqT:=by
   have:=aP (o+i) (by omega);simp only[World.frozen?,h];simp only[Bool.and_eq_false_iff,decide_eq_false_iff_not];by_cases ax:bg.1<=o+i
   ·exact .inr (fun J=>this ⟨ax,J⟩)
   ·exact .inl ax
  have a8:=Ch (P:=P) c o t bg vs (i+1) (cs.setIfInBounds (o+i) v) (jy w c (cs.setIfInBounds (o+i) v) t bg) (NE aN) (by simpa using aP) (by simp;omega) (fun x U=>h1 x (by simp[U]));simp only[storeCells,arl,p1,run_store P w ⟨c,o+i,aqS⟩ v _ (h1 v (by simp)),ab,fY,arz,if_false,arh,aeB h];rw[a8,aeN];simp[eT,arx]
theorem ba.one {j:bq}:∀{L K:List aqR},ba (dy j) L K->∀v∈K,v.oneCell'=aqQ
 |[],[],_,v,ad=>by simp at ad
 |a::L,b::K,⟨h1,J⟩,v,ad=>by
  rcases aq6.1 ad with rfl|ad
  ·exact h1.one
  ·exact ba.one J v ad
 |[],_::_,h,_,_=>h.elim
 |_::_,[],h,_,_=>h.elim
theorem Np {P:aqV} {j:bq} {m:Mem} {w:World} (bp:th P j m w) {a1:Nat} {y iN:aqR} {new:List aqR} (ad:b9 j y iN) (h:b4 m a1 y=aqP new):
  (atd iN).run P w= .ok (gS y) w/\∃ds:List aqR,ba (dy j) new ds/\(new.length=gS y*a1->∀k,k<=gS y->∀w':World,w'.heap=w.heap->(asx a1 k iN).run P w'= .ok (ds.take (k*a1)).toArray w'):=by
 cases y with
 |slice a l c=>
  cases a with
  |none=>have k4:=ad.lz;subst k4;simp only[b4,ark.injEq] at h;subst h;refine ⟨by simp[atd,gS],[],arb,fun aq k hk w' hw=> ?_⟩;simp[asx]
  |some a=>
   obtain ⟨b,off,spot⟩:=a;obtain ⟨q,az,ar,ab⟩:=ad.slice;simp only at az ar;subst az;simp only[b4] at h;obtain ⟨ds,ai,aq,jL⟩:=Cw bp ar _ _ _ h;have key:∀(a':Addr) (hq:Nat),iN= .slice (aqP a') l hq->(a'=⟨q.aH,q.dO+off,aqS⟩\/l=0)->(atd iN).run P w= .ok (gS (.slice (aqP ⟨b,off,aqS⟩) l c)) w/\
     ∃ds:List aqR,ba (dy j) new ds/\(new.length=gS (.slice (aqP ⟨b,off,aqS⟩) l c)*a1->∀k,k<=gS (.slice (aqP ⟨b,off,aqS⟩) l c)->∀w':World,w'.heap=w.heap->(asx a1 k iN).run P w'= .ok (ds.take (k*a1)).toArray w'):=by
    intro a' hq k4 ah;subst k4;refine ⟨by simp[atd,gS],ds,ai,fun acC k hk w' hw=> ?_⟩;simp only[gS] at hk;simp only[asx];have hlen:(ds.take (k*a1)).length=k*a1:=by rw[arA,aq];exact Nat.min_eq_left (ar9 _ hk)
    rcases ah with rfl|ah
    ·exact y4 hlen (fun i u hu=>by
      rw[arD] at hu;split at hu
      ·have:=jL i u hu;rw[<-this];simp only[as1,hw]
      ·cases hu)
    ·subst ah;have j1:k=0:=by omega
     subst j1;simp only[ar8,atu];exact V3
   rcases ab with ⟨_,ab⟩|⟨_,_,_,_,_,_,ab⟩|⟨_,fi,o',ab⟩|⟨_,fi,a',ab⟩
   ·exact key _ _ ab (.inl rfl)
   ·exact key _ _ ab (.inl rfl)
   ·exact key _ 0 (by rw[ab,fi]) (.inr fi)
   ·exact key a' 0 (by rw[ab,fi]) (.inr fi)
 |string s=>
  have k4:=ad.str;subst k4;simp only[b4] at h;split at h
  ·rename_i bC;subst bC;simp only[ark.injEq] at h;subst h;refine ⟨by simp[atd,gS],s.data.toList.map fun u=> .int .u8 u.toNat,Gv (by simp only[List.all_map,aq8,Function.comp];intro u _;rfl),fun aq k hk w' hw=> ?_⟩;simp only[asx,ary,Nat.mul_one,gS] at hk⊢;congr 1;apply ar6;simp only[ByteArray.data_extract,asF,auc,atT,List.drop_zero,List.map_take]
  ·cases h
 |_=>simp[b4] at h
inductive D7 (P:aqV) (w:World) (u:aqY) (i:TypeInfo) (iN:aqR) (n:Nat) (hr:List aqR):Prop where
 |el (hu:(∃bw,P.underlying u=aqP (.slice bw))\/P.underlying u=aqP .string) (ai:∀w',(atd iN).run P w'= .ok n w') (aP:∀w',w'.heap=w.heap->(asx i.size n iN).run P w'= .ok hr.toArray w')
 |mk (kk k:aqW) (z:aqR) (hu:P.underlying u=aqP (.int kk)) (ad:iN= .int k n) (aE:i.zero=aqP z) (bC:0<i.size) (aa:n*i.bytes<=140737488355328) (hm:n<9223372036854775807) (gO:hr.toArray=atv z.cells n)
theorem aad (z:Array aqR):atv z 0=#[]:=by simp[atv]
theorem Cg {P:aqV} {t u ty e:aqY} {i:TypeInfo} {base:Option Addr} {l c n:Nat} {iN:aqR} {w:World} {hr:List aqR} (ao:P.underlying t=aqP (.slice e)) (ae:P.info? e=aqP i)
  (ey:D7 P w u i iN n hr) (ab:l+n<=c):
  (asT #[t,u] ty #[.slice base l c,iN]).run P w=
   match base with
   |some a=>((storeCells (a.add (l*i.size)) hr).run P w).andThen fun _ w=> .ok (.slice base (l+n) c) w
   |none=> .ok (.slice base (l+n) c) w:=by
 cases ey with
 |el hu aq aP=>have aq:=aq w;have aP:=aP w rfl;rcases hu with ⟨bw,aB⟩|aB<;>cases base<;>simp[asT,ed ao,ed aB,iG ae,aq,ab,aP]
 |mk kk k z hu ad aE bC aa hm gO=>
  subst ad;have aI:aq0 .i64 (n:Int)=n:=by rw[aqW.wrap_i64];omega
  have aM:¬((n:Int)<0):=by omega
  have br:¬((281474976710656:Int)<(n:Int)*(i.bytes:Int)):=by
   have:(n:Int)*(i.bytes:Int)=((n*i.bytes:Nat):Int):=by simp
   rw[this];omega
  have hz:¬i.size=0:=by omega
  have k5:hr=(atv z.cells n).toList:=by rw[<-gO]
  subst k5;by_cases hb:n=0
  ·subst hb;cases base<;>simp[asT,ed ao,ed hu,iG ae,ur ae,nx ae aE,ab,asInt,asIntOf,aad,show aq0 .i64 (0:Int)=0 from rfl]<;>omega
  ·have mo:¬n*i.size=0:=by rw[Nat.mul_eq_zero];omega
   cases base<;>simp[asT,ed ao,ed hu,iG ae,ur ae,nx ae aE,aI,aM,br,hb,hz,mo,ab,asInt,asIntOf]
theorem aez {P:aqV} {t u ty e:aqY} {i:TypeInfo} {z:aqR} {base:Option Addr} {l c n:Nat} {iN:aqR} {w:World} {dg:Array aqR} {hr:List aqR} (ao:P.underlying t=aqP (.slice e)) (ae:P.info? e=aqP i) (aE:i.zero=aqP z)
  (ey:D7 P w u i iN n hr) (ab:c<l+n) (hm:l+n<9223372036854775807) (aa:(l+n)*i.bytes<=140737488355328)
  (ah:∀w',w'.heap=w.heap->(asx i.size l (.slice base l c)).run P w'= .ok dg w'):
  (asT #[t,u] ty #[.slice base l c,iN]).run P w=
   .ok (.slice (aqP ⟨w.heap.size,0,aqS⟩) (l+n) (grownCap w (l+n) c e)) (w.drew.alloc (.cells (dg++hr.toArray++atv z.cells (grownCap w (l+n) c e - (l+n))) e)):=by
 have h1:¬(l+n<=c):=by omega
 have J:¬(9223372036854775807<((l:Int)+(n:Int))):=by omega
 have qB:=growslice_fits ab aa;have aj:¬(281474976710656<Builtin.nextslicecap (l+n) c*i.bytes):=by omega
 have ig:=ah w.drew rfl;cases ey with
 |el hu aq aP=>have vw:=aP w.drew rfl;rcases hu with ⟨bw,aB⟩|aB<;>simp[asT,ed ao,ed aB,iG ae,ur ae,nx ae aE,aq,h1,J,aj,atX,ig,vw,newRow,grownCap]
 |mk kk k z' hu ad kp bC ct gB gO=>
  rw[aE] at kp;cases kp;subst ad;have aI:aq0 .i64 (n:Int)=n:=by rw[aqW.wrap_i64];omega
  have aM:¬((n:Int)<0):=by omega
  have br:¬((281474976710656:Int)<(n:Int)*(i.bytes:Int)):=by
   have:(n:Int)*(i.bytes:Int)=((n*i.bytes:Nat):Int):=by simp
   rw[this];omega
  have hz:¬i.size=0:=by omega
  rw[gO];by_cases hb:n=0
  ·subst hb;simp only[arC] at h1 aj;have gi:¬(9223372036854775807<(l:Int)):=by omega
   simp[asT,ed ao,ed hu,iG ae,ur ae,nx ae aE,h1,gi,aj,atX,ig,newRow,grownCap,asInt,asIntOf,aad,show aq0 .i64 (0:Int)=0 from rfl]
  ·have mo:¬n*i.size=0:=by rw[Nat.mul_eq_zero];omega
   simp[asT,ed ao,ed hu,iG ae,ur ae,nx ae aE,aI,h1,J,aj,aM,br,hb,hz,mo,atX,ig,newRow,grownCap,asInt,asIntOf]
end Go.aS
end
section
namespace Go.aS
theorem Og {j:bq} {L new:List aqR} {cs:Array aqR} {ds:List aqR} {o dO:Nat} (h:∀(i:Nat) (v:aqR),L[i]? =aqP v->∃aV,cs[dO+i]? =aqP aV/\dy j v aV) (aB:ba (dy j) new ds) (ai:o+new.length<=L.length) (cB:dO+L.length<=cs.size):
  ∀(i:Nat) (v:aqR),(eT L o new)[i]? =aqP v->∃aV,(eT cs.toList (dO+o) ds).toArray[dO+i]? =aqP aV/\dy j v aV:=by
 intro i v ae;have hlen:=aB.length;rw[oj _ _ _ _ ai] at ae;simp only[atC];rw[oj _ _ _ _ (by simp;omega)];rw[<-hlen];split at ae
 ·rename_i fz;rw[if_pos (by omega),show dO+i - (dO+o)=i - o by omega];exact aB.get _ _ ae
 ·rename_i fz;rw[if_neg (by omega)];simpa using h i v ae
theorem Gj (cs:Array aqR) (o:Nat) (ds:List aqR):(eT cs.toList o ds).toArray.size=cs.size:=by simp[o8]
theorem yZ {P:aqV} {cE:aqX->aqR} {o:Oper} {x y:aqX} {t u:aqY} (h:o.op= .call {callee:= .builtin .append,args:=#[x,y],argTypes:=#[t,u]}) {w w':World} {v:aqR}
  (aw:(asT #[t,u] o.type #[cE x,cE y]).run P w= .ok v w'):(execOp cE o).run P w= .ok (.value v) w':=by
 simp[execOp,h,resolve,invoke,builtin,aw]
def CW (P:aqV) (j:bq) (m:Mem) (w:World) (cE:aqX->aqR) (o:Oper) (v:aqR) (m':Mem):Prop:=
 ∃n aV w' bT,(execOp cE o).run P w= .ok n w'/\(n= .value aV\/(n= .skip/\aV=undef))/\Post P j m w bT m' w'/\b9 bT v aV
theorem aeQ {P:aqV} {j:bq} {af cE:aqX->aqR} {o:Oper} {m:Mem} {w:World} {t:aqY} {x y:aqX} {b off:Nat} {i:TypeInfo} {L:List aqR} {e:aqY} (h:o.op= .store t x y) (U:af x= .pointer (aqP ⟨b,off,aqS⟩)) (ae:P.info? t=aqP i) (hm:m.aH b= .own L e)
   (ad:storable (af y)=aqQ) (az:(af y).cells.size=i.size) (ai:off+i.size<=L.length) (hO:hG j af cE o) (bp:Rel P j m w):CW P j m w cE o undef (m.put b (.own (eT L off (af y).cells.toList) e)):=by
 have cQ:=hO x (by simp[h,aq4]);rw[U] at cQ;obtain ⟨q,_,ar,ab⟩:=cQ.ptr;have iY:=b9.storable (hO y (by simp[h,aq4])) ad;have mY:=iY.cells;obtain ⟨cs,bg,g1,g2,g3,g4,g5,g6⟩:=bp.own b q L e ar hm;have aq:(cE y).cells.size=i.size:=by have:=mY.length;simp at this;omega
 have dF:=Ch (P:=P) q.aH (q.dO+off) e bg (cE y).cells.toList 0 cs w g1 g2 (by simp;omega) (ba.one mY);simp only[arC] at dF;refine ⟨.skip,undef,_,j, ?_, .inr ⟨rfl,rfl⟩,bp.write ar hm g1 (Gj cs _ _) (by rw[o8];exact g5) (Og g6 mY (by simp;omega) (by omega)), ?_⟩
 ·simp[execOp,h,Instr.storeAt,ab,atA,storeVar,iG ae,aq,dF]
 ·exact ⟨#[],rfl,arb⟩
theorem VD {P:aqV} {j:bq} {m:Mem} {w:World} (bp:th P j m w) {a1:Nat} {y iN:aqR} {new:List aqR} (ad:b9 j y iN) (h:b4 m a1 y=aqP new) (aq:new.length=gS y*a1):
  ∃ds:List aqR,ba (dy j) new ds/\∀w':World,w'.heap=w.heap->(asx a1 (gS y) iN).run P w'= .ok ds.toArray w':=by
 obtain ⟨_,ds,aB,aP⟩:=Np bp ad h;refine ⟨ds,aB,fun w' hw=> ?_⟩;rw[aP aq _ (aq3 _) w' hw,<-aq,aB.length,List.take_length]
theorem af1 {P:aqV} {j:bq} {m:Mem} {w w':World} (h:Rel P j m w) (hw:w'.heap=w.heap):Rel P j m w':=
 ⟨fun b e aa=>by have:=h.lt b e aa;rw[hw];exact this,fun b e aa=>by rw[hw];exact h.obj b e aa,h.inj⟩
theorem af9 {z:aqR} (cg:z.cells.toList.all cv=aqQ) (n:Nat):∀v∈(arq n z.cells.toList).flatten,cv v=aqQ:=by
 have:=wg cg n;simpa only[aq8] using this
theorem F7 {P:aqV} {j:bq} {m:Mem} {w:World} (bp:th P j m w) {u:aqY} {i:TypeInfo} {y iN:aqR} {n:Nat} {new:List aqR} (ad:b9 j y iN) (h:u0 P m u i y n new) (aq:new.length=n*i.size):
  ∃hr:List aqR,ba (dy j) new hr/\D7 P w u i iN n hr:=by
 cases h with
 |el hu ai he=>subst ai;obtain ⟨hlen,_⟩:=Np bp ad he;obtain ⟨hr,gO,abZ⟩:=VD bp ad he aq;refine ⟨hr,gO, .el hu (fun w'=> ?_) abZ⟩;have:=hlen;cases k4:iN<;>simp[k4,atd] at this⊢<;>exact this
 |mk kk k z hu ag aE cg dp bC aa hm iE=>
  subst iE;have k4:iN= .int k n:=by rw[ag] at ad;exact ad.int
  refine ⟨(arq n z.cells.toList).flatten,ba.FU rfl fun a v bl au ct=> ?_, .mk kk k z hu k4 aE bC aa hm ?_⟩
  ·rw[au] at ct;cases ct;exact p0 (af9 cg n v (aq7 au))
  ·have:=Oe z.cells n;rw[<-this];exact Array.toArray_toList
theorem VB {P:aqV} {j:bq} {cE:aqX->aqR} {o:Oper} {m m0:Mem} {w:World} {x y:aqX} {t u e:aqY} {i:TypeInfo} {z:aqR} {base:Option Addr} {l c n:Nat} {dg new:List aqR} {ds hr:List aqR}
   (h:o.op= .call {callee:= .builtin .append,args:=#[x,y],argTypes:=#[t,u]})
   (ao:P.underlying t=aqP (.slice e)) (ae:P.info? e=aqP i) (aE:i.zero=aqP z) (dp:z.cells.size=i.size) (bC:0<i.size)
   (U:cE x= .slice base l c) (ey:D7 P w u i (cE y) n hr) (ab:c<l+n)
   (jO:dg.length=l*i.size) (lO:new.length=n*i.size) (aB:ba (dy j) dg ds) (gO:ba (dy j) new hr)
   (Br:∀w',w'.heap=w.heap->(asx i.size l (.slice base l c)).run P w'= .ok ds.toArray w')
   (aa:(l+n)*i.bytes<=140737488355328) (hm:l+n<9223372036854775807) (bp:Rel P j m0 w) (vC:m0.next=m.next):
  ∃aV w' bT,(execOp cE o).run P w= .ok (.value aV) w'/\Post P j m0 w bT (m0.push (.own (dg++new) e)) w'/\b9 bT (.slice (aqP ⟨m.next,0,aqS⟩) (l+n) dr) aV:=by
 have jP:=aez (P:=P) (ty:=o.type) (base:=base) (z:=z) ao ae aE ey ab hm aa Br
 let cap:=grownCap w (l+n) c e
 have jZ:l+n<=cap:=grownCap_ge w _ c e;have abK:cap<dr:=by have aN:=Nat.mod_lt (w.tape w.drawn (.appendCap (l+n) c e)) (show 0<2 ^ 63 - (l+n) by omega);simp only[cap,grownCap,Question.cut,dr];omega
 let row:=ds.toArray++hr.toArray++atv z.cells (cap - (l+n))
 have aX:=aB.length;have e2:=gO.length;have BT:row.size=cap*i.size:=by simp only[row,Array.size_append,List.size_toArray,size_zeroCells,dp];rw[<-aX,<-e2,jO,lO,<-arm,<-arm];congr 1;omega
 have vG:=bp.push (w':=w.drew.alloc (.cells row e)) (X:= .own (dg++new) e) (e:=⟨w.heap.size,cap,i.size,0⟩) (ob:= .cells row e) rfl rfl rfl rfl rfl ⟨row,(0,0),rfl,Dc,wm ae,by rw[BT,ara];exact aq3 _,
  (by rw[ari,jO,lO,<-arm];exact ar9 _ jZ),
  (fun k v hk=>by
   have yf:=ba.append aB gO;obtain ⟨aV,fO,aw⟩:=yf.get k v hk;refine ⟨aV, ?_,aw⟩;rw[ara];have aN:k<(ds++hr).length:=(aqZ.1 fO).1;simp only[row];rw[att (by simpa using aN),<-asZ];simpa using fO)⟩
 refine ⟨.slice (aqP ⟨w.heap.size,0,aqS⟩) (l+n) cap,_,_,yZ h (by rw[U];exact jP),vG,⟨⟨w.heap.size,cap,i.size,0⟩,rfl,by simp[bq.up,vC], .inr (.inl ⟨rfl,bC, ?_,abK, ?_, ?_, ?_⟩)⟩⟩
 ·simpa using jZ
 ·simp
 ·simp
 ·simp
theorem aeA {cs:Array MapEntry} {clock:Nat} (h:wC cs clock) (i:Nat) (f:MapEntry->MapEntry) (aP:∀e,(f e).born=e.born):wC (cs.modify i f) clock:=by
 have aa:(cs.modify i f).toList.map (·.born)=cs.toList.map (·.born):=by
  rw[Array.toList_modify];refine asw fun k=> ?_;simp only[arB,List.getElem?_modify];cases hk:cs.toList[k]? with
  |none=>rfl
  |some e=>by_cases ab7:i=k<;>simp[ab7,aP]
 refine ⟨by rw[aa];exact h.1,fun x U=> ?_⟩;have hm:x.born∈(cs.modify i f).toList.map (·.born):=aq'.2 ⟨x,U,rfl⟩;rw[aa] at hm;obtain ⟨y,ag,he⟩:=aq'.1 hm;rw[<-he];exact h.2 y ag
theorem aeP {cs:Array MapEntry} {clock:Nat} (h:wC cs clock) (e:MapEntry) (he:e.born=clock):wC (cs.push e) (clock+1):=by
 refine ⟨?_,fun x U=> ?_⟩
 ·rw[Array.toList_push,List.map_append,List.nodup_append];refine ⟨h.1,by simp,fun a au b aa=> ?_⟩;obtain ⟨y,ag,rfl⟩:=aq'.1 au;simp only[arG,ate,arO] at aa;rw[aa,he];exact Nat.ne_of_lt (h.2 y ag)
 ·rw[Array.toList_push] at U;rcases arc.1 U with U|U
  ·exact atf (h.2 x U)
  ·simp only[arO] at U;rw[U,he];exact arP _
theorem tk.find {P:aqV} {j:bq} {kt vt:aqY} {bQ vc:List aqR} {E E':List (List aqR×List aqR)} {aV:aqR} {clock:Nat} (h:tk (cT P kt) bQ vc E E') (aP:bQ.all cv=aqQ) (ad:eA j (cZ (cT P vt) vc) aV):∀{es:List MapEntry} (n:Nat),ba (rf P j kt vt) E es->
  (∃i y,j8 (cZ (cT P kt) bQ) es n=aqP (n+i,y.val)/\es[i]? =aqP y/\y.key=cZ (cT P kt) bQ/\ba (rf P j kt vt) E' (es.modify i fun e=>{e with key:=cZ (cT P kt) bQ,val:=aV}))\/
  (j8 (cZ (cT P kt) bQ) es n=aqS/\ba (rf P j kt vt) E' (es++[{key:=cZ (cT P kt) bQ,val:=aV,born:=clock}])):=by
 induction h with
 |pV=>
  intro es n aT;cases es with
  |nil=>exact .inr ⟨rfl,⟨rfl,aP,ad⟩,arb⟩
  |cons _ _=>exact aT.elim
 |kj p E h=>
  intro es n aT;cases es with
  |nil=>exact aT.elim
  |cons x es=>obtain ⟨⟨h1,J,aj⟩,aM⟩:=aT;refine .inl ⟨0,x,by rw[j8,if_pos (h1.trans h)];rfl,rfl,h1.trans h, ?_⟩;exact ⟨⟨h.symm,J,ad⟩,aM⟩
 |next p E E' h TX a8=>
  intro es n aT;cases es with
  |nil=>exact aT.elim
  |cons x es=>
   obtain ⟨⟨h1,J,aj⟩,aM⟩:=aT;have ca:¬x.key=cZ (cT P kt) bQ:=fun ax=>h (h1.symm.trans ax);rcases a8 (n+1) aM with ⟨i,y,g1,g2,g3,g4⟩|⟨g1,g2⟩
   ·refine .inl ⟨i+1,y, ?_,by simpa using g2,g3, ?_⟩
    ·rw[j8,if_neg ca,g1,show n+1+i=n+(i+1) by omega]
    ·exact ⟨⟨h1,J,aj⟩,g4⟩
   ·refine .inr ⟨?_, ?_⟩
    ·rw[j8,if_neg ca,g1]
    ·exact ⟨⟨h1,J,aj⟩,g2⟩
theorem afc {P:aqV} {C:FuncId->Array aqR->Mem->aqR->Mem->Prop} {j:bq} {af cE:aqX->aqR} {o:Oper} {m m':Mem} {w:World} {v:aqR} (h:gE P C af o m v m') (hO:hG j af cE o) (bp:Rel P j m w):
  CW P j m w cE o v m'\/∃f args,callee o af f args/\C f args m v m':=by
 cases h with
 |store t x y b off i L e h U ae hm ad az ai=>exact .inl (aeQ h U ae hm ad az ai hO bp)
 |call f args v m' h bO=>exact .inr ⟨f,args,h,bO⟩
 |vf x y t u e i a l c h ao ae U ab rO ag=>
  left;have cQ:=hO x (by simp[h,aq4,arX]);rw[U] at cQ;have iY:=hO y (by simp[h,aq4,arX]);obtain ⟨ds,aB,ey⟩:=F7 bp.nA iY ag (by simp);have kK:ds=[]:=by have:=aB.length;simpa using this.symm
  subst kK;have dw:∃a',cE x= .slice a' l c/\b9 j (.slice a l c) (.slice a' l c):=by
   cases a with
   |none=>exact ⟨aqS,cQ.lz,rfl⟩
   |some a=>
    obtain ⟨q,az,ar,eQ⟩:=cQ.slice;rcases eQ with ⟨aN,eQ⟩|⟨eQ,_⟩|⟨eQ,_⟩|⟨mq,fi,a',eQ⟩
    ·exact ⟨_,eQ,⟨q,az,ar, .inl ⟨aN,rfl⟩⟩⟩
    ·exact absurd eQ ab
    ·exact absurd eQ ab
    ·subst mq;subst fi;exact ⟨_,eQ,⟨q,az,ar, .inr (.inr (.inr ⟨rfl,rfl,a',rfl⟩))⟩⟩
  obtain ⟨a',dw,adn⟩:=dw;refine ⟨.value (.slice a' l c), .slice a' l c,w,j,yZ h ?_, .inl rfl,Post.refl bp,by rw[U];exact adn⟩;rw[dw,Cg ao ae ey (by omega)];cases a'<;>simp[storeCells]
 |rv x y t u e i z a l c n dg new h ao ae aE cg dp bC U ab ah jO ag aq aa hm=>
  left;have cQ:=hO x (by simp[h,aq4,arX]);have iY:=hO y (by simp[h,aq4,arX]);have tC:gS (af x)=l:=by rw[U];rfl
  have dw:∃a',cE x= .slice a' l c:=by
   rw[U] at cQ;cases a with
   |none=>exact ⟨aqS,cQ.lz⟩
   |some a=>
    obtain ⟨q,az,ar,eQ⟩:=cQ.slice;rcases eQ with ⟨aN,eQ⟩|⟨eQ,_⟩|⟨eQ,_⟩|⟨mq,fi,a',eQ⟩
    ·exact ⟨_,eQ⟩
    ·simp only[dr] at eQ;omega
    ·simp only[dr] at eQ;omega
    ·subst mq;subst fi;exact ⟨_,eQ⟩
  obtain ⟨a',dw⟩:=dw;obtain ⟨ds,aB,Uh⟩:=VD bp.nA cQ ah (by rw[jO,tC]);obtain ⟨hr,gO,ey⟩:=F7 bp.nA iY ag aq;have Br:∀w':World,w'.heap=w.heap->(asx i.size l (.slice a' l c)).run P w'= .ok ds.toArray w':=by rw[dw,tC] at Uh;exact Uh
  obtain ⟨aV,w',bT,h1,J,aj⟩:=VB (m:=m) h ao ae aE dp bC dw ey ab jO aq aB gO Br aa hm bp rfl;exact ⟨.value aV,aV,w',bT,h1, .inl rfl,J,aj⟩
 |x3 x y t u e i b off l c n L new h ao ae U dB ab hm ag aq ai=>
  left;have cQ:=hO x (by simp[h,aq4,arX]);rw[U] at cQ;have iY:=hO y (by simp[h,aq4,arX]);obtain ⟨hr,gO,ey⟩:=F7 bp.nA iY ag aq;obtain ⟨q,_,ar,eQ⟩:=cQ.slice;rcases eQ with ⟨aN,dw⟩|⟨eQ,_⟩|⟨eQ,_⟩|⟨mq,fi,a',dw⟩
  rotate_left 3
  ·
   subst mq;subst fi;have n2:n=0:=by omega
   have tG:new=[]:=by rw[n2,ar8] at aq;exact List.length_eq_zero_iff.1 aq
   subst tG;have L0:hr=[]:=by have:=gO.length;simpa using this.symm
   subst L0;obtain ⟨cs,bg,g1,g2,g3,g4,g5,g6⟩:=bp.own b q L e ar hm;have hw:=bp.write (L':=L) ar hm g1 (cs':=cs) rfl g5 g6;rw[Gd g1] at hw;refine ⟨.value _,_,_,j,yZ h (v:= .slice (aqP a') (0+n) 0) ?_, .inl rfl,hw,⟨q,rfl,ar, .inr (.inr (.inr ⟨rfl,by omega,a',by rw[n2]⟩))⟩⟩;rw[dw,Cg ao ae ey ab];simp[storeCells]
  ·obtain ⟨cs,bg,g1,g2,g3,g4,g5,g6⟩:=bp.own b q L e ar hm;rw[arm,<-aq,<-arx] at ai;have dF:=Ch (P:=P) q.aH (q.dO+(off+l*i.size)) e bg hr 0 cs w g1 g2 (by rw[<-gO.length];omega) (ba.one gO);simp only[arC] at dF;refine ⟨.value _,_,_,j,yZ h (v:= .slice (aqP ⟨q.aH,q.dO+off,aqS⟩) (l+n) c) ?_, .inl rfl,bp.write ar hm g1 (Gj cs _ _) (by rw[o8];exact g5) (Og g6 gO ai (by omega)),
    ⟨q,rfl,ar, .inl ⟨aN,rfl⟩⟩⟩
   rw[dw,Cg ao ae ey ab];simp only[p1,arx,dF,arh]
  ·exact absurd eQ dB
  ·exact absurd eQ dB
 |append x y t u e i z b off l n L new h ao ae aE cg dp bC U fA tB ag aq aa hm=>
  left;have cQ:=hO x (by simp[h,aq4,arX]);have apU:=cQ;rw[U] at cQ;have iY:=hO y (by simp[h,aq4,arX]);obtain ⟨hr,gO,ey⟩:=F7 bp.nA iY ag aq;obtain ⟨q,_,ar,eQ⟩:=cQ.slice;have ar:j b=aqP q:=ar;obtain ⟨cs,bg,g1,g2,g3,g4,g5,g6⟩:=bp.own b q L e ar fA;have jM:i.size=q.es:=by rw[<-g3,wm ae]
  have lR:((L.drop off).take (l*i.size)).length=l*i.size:=by rw[arA,ar4];omega
  have UU:∀(k:Nat) (v:aqR),((L.drop off).take (l*i.size))[k]? =aqP v->∃aV,((cs.toList.drop (q.dO+off)).take (l*i.size))[k]? =aqP aV/\dy j v aV:=by
   intro k v hk;rw[arD] at hk⊢;split at hk
   ·rename_i aN;rw[if_pos aN];rw[ar0] at hk⊢;rw[arx];simpa using g6 (off+k) v hk
   ·cases hk
  have acK:ba (dy j) ((L.drop off).take (l*i.size)) ((cs.toList.drop (q.dO+off)).take (l*i.size)):=ba.FU (by rw[lR,arA,ar4];simp;omega) (fun k a b2 au ct=>by
   obtain ⟨aV,h1,J⟩:=UU k a au;rw[h1] at ct;cases ct;exact J)
  have out:∀(o' bP:Nat),cE x= .slice (aqP ⟨q.aH,o',aqS⟩) l bP->(o'=q.dO+off\/l=0)->bP<l+n->CW P j m w cE o (.slice (aqP ⟨m.next,0,aqS⟩) (l+n) dr) ((m.put b .dead).push (.own ((L.drop off).take (l*i.size)++new) e)):=by
   intro o' bP dw ah ab;have hk:=bp.kill b;have Br:∀w':World,w'.heap=w.heap->(asx i.size l (.slice (aqP ⟨q.aH,o',aqS⟩) l bP)).run P w'= .ok ((cs.toList.drop (q.dO+off)).take (l*i.size)).toArray w':=by
    intro w' hw;simp only[asx];rcases ah with rfl|ah
    ·refine y4 (by rw[arA,ar4];simp;omega) (fun k u hu=> ?_);rw[arD] at hu;split at hu
     ·rw[ar0] at hu;simp only[as1,hw,g1];simpa using hu
     ·cases hu
    ·subst ah;simp only[ar8,atu];exact y4 (ds:=[]) rfl (fun k u hu=>by simp at hu)
   obtain ⟨aV,w',bT,h1,J,aj⟩:=VB (m:=m) (m0:=m.put b .dead) h ao ae aE dp bC dw ey ab lR aq acK gO Br aa hm hk.rel rfl;exact ⟨.value aV,aV,w',bT,h1, .inl rfl,Post.trans hk J,aj⟩
  rcases eQ with ⟨aN,_⟩|⟨_,dS,hle,jZ,vB,hdiv,dw⟩|⟨_,fi,o',dw⟩|⟨mq,_⟩
  rotate_left 3
  ·simp[dr] at mq
  ·exact absurd aN (ata _)
  ·have hle:l<=q.cap - off / q.es:=hle;have vB:off%q.es=0:=vB;have hdiv:off / q.es<=q.cap:=hdiv;have nX:off=off / q.es*q.es:=by
    have:=Nat.div_add_mod off q.es;rw[vB,arC,Nat.mul_comm] at this;exact this.symm
   have apX:off+(q.cap - off / q.es)*q.es=q.cap*q.es:=by
    rw[Nat.sub_mul,<-nX];have:off<=q.cap*q.es:=by have:=ar9 q.es hdiv;omega
    omega
   have dw:cE x= .slice (aqP ⟨q.aH,q.dO+off,aqS⟩) l (q.cap - off / q.es):=dw;by_cases qB:l+n<=q.cap - off / q.es
   ·have qJ:off+(l+n)*i.size<=q.cap*q.es:=by
     have:(l+n)*i.size<=(q.cap - off / q.es)*q.es:=by rw[jM];exact ar9 _ qB
     omega
    have ac8:q.dO+off+l*i.size+new.length<=cs.size:=by rw[aq];rw[arm] at qJ;omega
    have dF:=Ch (P:=P) q.aH (q.dO+off+l*i.size) e bg hr 0 cs w g1 g2 (by rw[<-gO.length];omega) (ba.one gO);simp only[arC] at dF;refine ⟨.value _,_,_,j.up m.next ⟨q.aH,q.cap - off / q.es,q.es,q.dO+off⟩,yZ h (v:= .slice (aqP ⟨q.aH,q.dO+off,aqS⟩) (l+n) (q.cap - off / q.es)) ?_, .inl rfl,
     bp.reuse (e2:=⟨q.aH,q.cap - off / q.es,q.es,q.dO+off⟩) (L':=(L.drop off).take (l*i.size)++new) ar fA g1 (Gj cs (q.dO+off+l*i.size) hr) rfl rfl (by simp only[];omega) (by rw[ari,lR,aq,<-arm];simp only[];omega) ?_,
     ⟨⟨q.aH,q.cap - off / q.es,q.es,q.dO+off⟩,rfl,by simp[bq.up], .inr (.inl ⟨rfl,dS,by simpa using qB,as' (Nat.sub_le _ _) jZ,by simp,by simp,by simp⟩)⟩⟩
    ·rw[dw,Cg ao ae ey qB];simp only[p1,dF,arh]
    ·intro k v hk;simp only[atC];rw[oj _ _ _ _ (by rw[<-gO.length];simpa using ac8)];rw[List.getElem?_append,lR] at hk;split at hk
     ·rename_i aN;rw[if_neg (by omega)];obtain ⟨aV,h1,J⟩:=UU k v hk;rw[arD,if_pos aN,ar0] at h1;exact ⟨aV,h1,J⟩
     ·rename_i e4;obtain ⟨aV,h1,J⟩:=gO.get _ _ hk;have:=(aqZ.1 h1).1;rw[if_pos (by omega)];exact ⟨aV,by rw[show q.dO+off+k - (q.dO+off+l*i.size)=k - l*i.size by omega];exact h1,J⟩
   ·exact out _ _ dw (.inl rfl) (by omega)
  ·by_cases qB:l+n<=0
   ·have n2:n=0:=by omega
    have oS:new=[]:=by
     have:new.length=0:=by rw[aq,n2,ar8]
     exact asr this
    subst oS;subst fi;have abS:hr=[]:=by have:=gO.length;exact asr this.symm
    subst abS;have Fu:=bp.reuse (e2:=q) (L':=(L.drop off).take (0*i.size)++[]) ar fA g1 (cs':=cs) rfl rfl rfl g4 (by simp) (fun k v hk=>by simp at hk);rw[Gd g1] at Fu;refine ⟨.value (.slice (aqP ⟨q.aH,o',aqS⟩) 0 0),_,w,j.up m.next q,yZ h ?_, .inl rfl,Fu,⟨q,rfl,by simp[bq.up], .inr (.inr (.inl ⟨rfl,by omega,o',rfl⟩))⟩⟩;subst n2;rw[dw,Cg ao ae ey (by omega)];simp[storeCells]
   ·exact out o' 0 (by rw[dw,fi]) (.inr fi) (by omega)
 |copy x y t u e i b off l c L cs h ao ae U hm ag aq ai=>
  left;have cQ:=hO x (by simp[h,aq4,arX]);rw[U] at cQ;have iY:=hO y (by simp[h,aq4,arX]);obtain ⟨hlen,apP,L0,aP⟩:=Np bp.nA iY ag;have oR:asE (gS (af y)) l<=gS (af y):=Nat.min_le_left _ _;have aP:=aP aq _ oR w rfl;have gO:=L0.take (asE (gS (af y)) l*i.size);obtain ⟨q,_,ar,eQ⟩:=cQ.slice;have ar:j b=aqP q:=ar;obtain ⟨ds,bg,g1,g2,g3,g4,g5,g6⟩:=bp.own b q L e ar hm;have fh:off+(cs.take (asE (gS (af y)) l*i.size)).length<=L.length:=by rw[arA];have:asE (gS (af y)) l*i.size<=l*i.size:=ar9 _ (Nat.min_le_right _ _);omega
  have key:∀(a':Addr) (bP:Nat),cE x= .slice (aqP a') l bP->(a'=⟨q.aH,q.dO+off,aqS⟩\/l=0)->CW P j m w cE o (.int .i64 (asE (gS (af y)) l)) (m.put b (.own (eT L off (cs.take (asE (gS (af y)) l*i.size))) e)):=by
   intro a' bP dw ah;rcases ah with rfl|ah
   ·have dF:=Ch (P:=P) q.aH (q.dO+off) e bg _ 0 ds w g1 g2 (by rw[<-gO.length];omega) (ba.one gO);simp only[arC] at dF;refine ⟨.value _, .int .i64 (asE (gS (af y)) l),_,j, ?_, .inl rfl,bp.write ar hm g1 (Gj ds _ _) (by rw[o8];exact g5) (Og g6 gO fh (by omega)),rfl⟩;simp only[execOp,h,resolve,invoke,builtin,arl,ary,arh,List.map_toArray,arG,ate,Builtin.copy_,atC,as3,asy,ed ao,dw,hlen,iG ae,aP,dF,goInt]
   ·subst ah;have aI:asE (gS (af y)) 0=0:=Nat.min_zero _;simp only[aI,ar8,atu,eT] at aP fh⊢;have hw:=bp.write (L':=L) ar hm g1 (cs':=ds) rfl g5 g6;rw[Gd g1] at hw;refine ⟨.value _, .int .i64 (0:Nat),w,j, ?_, .inl rfl,hw,rfl⟩;have oM:asE (gS (af y)) 0=0:=Nat.min_zero _;simp only[execOp,h,resolve,invoke,builtin,arl,ary,arh,List.map_toArray,arG,ate,Builtin.copy_,atC,as3,asy,ed ao,dw,hlen,iG ae,oM,aP,goInt,storeCells]
  rcases eQ with ⟨_,dw⟩|⟨_,_,_,_,_,_,dw⟩|⟨_,fi,o',dw⟩|⟨_,fi,a',dw⟩
  ·exact key _ _ dw (.inl rfl)
  ·exact key _ _ dw (.inl rfl)
  ·exact key _ 0 (by rw[dw,fi]) (.inr fi)
  ·exact key a' 0 (by rw[dw,fi]) (.inr fi)
 |mapUpdate gz x ij ix u kt vt b L bQ vc E E' fg h hf hu U fA aT k7 K BC nb yv aP hk aG lT BW rU BY e5=>
  left;have Mf:∀y∈([x,ij,ix]:List aqX),y∈o.op.operands:=by intro y ag;rcases h with h|h<;>(simp[h,aq4];simpa using ag)
  have cQ:=hO x (Mf x (by simp));rw[U] at cQ;obtain ⟨q,ar,ab⟩:∃q,j b=aqP q/\cE x= .map (aqP q.aH):=cQ;have Fe:=OB aP (hO ij (Mf ij (by simp)));have fO:=b9.storable (hO ix (Mf ix (by simp))) lT;have tE:=bp.obj b q ar;rw[fA] at tE;obtain ⟨ih,iw,cs,clock,apJ,g1,g2,g3,g4,g5⟩:=tE;have tA:ih=kt/\iw=vt:=by rw[hu] at g2;simpa using g2.symm
  obtain ⟨rfl,rfl⟩:=tA;have:=nJ.xo k7 aT g3;subst this;have mr:=K.find (af ij) cs.toList w hk (NT g4 aG);have j0:=K.check aqT (af ij) w hk;have yy:nJ (P.cellsOf ih) (P.cellsOf iw) (E'.flatMap fun p=>p.1++p.2) E':=by
   refine ⟨rfl, ?_⟩;have:=aT.len;clear aT g3 g4 aG;induction e5 with
   |pV=>intro p an;simp at an;subst an;exact ⟨nb,rU⟩
   |kj p E h=>
    intro r aw;rcases aq6.1 aw with rfl|aw
    ·exact ⟨(this p (by simp)).1,rU⟩
    ·exact this r (by simp[aw])
   |next p E E' h TX a8=>
    intro r aw;rcases aq6.1 aw with rfl|aw
    ·exact this r (by simp)
    ·exact a8 (fun r aw=>this r (by simp[aw])) r aw
  have key:=e5.find (j:=j) (aV:=cE ix) (clock:=clock) yv (by rw[<-BW];exact fO) 0 g4;rw[<-BC] at key;have fin:∀(cs':Array MapEntry) (ED:Nat),ba (rf P j ih iw) E' cs'.toList->wC cs' ED->(execOp cE o).run P w= .ok .skip (q5 w q.aH (.map cs' ED))->
    CW P j m w cE o undef (m.put b (.map (E'.flatMap fun p=>p.1++p.2) u)):=by
   intro cs' ED gl dF jP;refine ⟨.skip,undef,_,j,jP, .inr ⟨rfl,rfl⟩,bp.mM ar (by rw[fA];rfl) ⟨ih,iw,cs',ED,E',rfl,hu,yy,gl,dF⟩ rfl,⟨#[],rfl,arb⟩⟩
  have hex:∀w',(auf gz (cE x) (cE ij) (cE ix)).run P w= .ok () w'->(execOp cE o).run P w= .ok .skip w':=by intro w' gQ;rcases h with h|h<;>simp[execOp,h,gQ]
  rcases key with ⟨i,y,h1,J,aj,aM⟩|⟨h1,J⟩
  ·refine fin (cs.modify i fun e=>{e with key:=af ij,val:=cE ix}) clock ?_ (aeA g5 i _ fun _=>rfl) (hex _ ?_)
   ·simpa[Array.toList_modify] using aM
   ·have dF:=K.stays (af ij) w hk;rw[h1] at mr;have qC:cs[i]? =aqP y:=by simpa using J
    simp[auf,ed hf,ab,zq g1,Fe,j0,mr,qC,aj,dF,YR _ g1,q5]
  ·refine fin (cs.push {key:=af ij,val:=cE ix,born:=clock}) (clock+1) ?_ (aeP g5 _ rfl) (hex _ ?_)
   ·simpa using J
   ·rw[h1] at mr;simp[auf,ed hf,ab,zq g1,Fe,j0,mr,YR _ g1,q5]
end Go.aS
end
section
namespace Go.aS
theorem afL {n n':Nat} (h:n<=n') {v:aqR} (ad:qO n v):qO n' v:=by
 unfold qO at ad⊢;split at ad
 ·rename_i a;cases a with
  |none=>exact ad
  |some a=>exact aro ad h
 ·exact ad.elim
theorem afK {n:Nat} {v:aqR} (ad:qO n v):gD n v:=by
 unfold qO at ad;split at ad
 ·exact ad
 ·exact ad.elim
theorem r7 {n n':Nat} (h:n<=n') {v:aqR} (ad:gD n v):gD n' v:=by
 cases v with
 |func fn bc cs=>exact ⟨ad.1,fun v hm=>afL h (ad.2 v hm)⟩
 |pointer a=>cases a with
  |none=>exact ad
  |some a=>exact aro ad h
 |slice a l c=>cases a with
  |none=>exact ad
  |some a=>exact aro ad h
 |map r=>cases r with
  |none=>exact ad
  |some r=>exact aro ad h
 |_=>exact ad
theorem Gm {n n':Nat} (h:n<=n') {v:aqR} (ad:gT n v):gT n' v:=by
 cases v with
 |agg cs=>exact fun v hm=>r7 h (ad v hm)
 |_=>simp only[gT] at ad⊢;exact r7 h ad
theorem GA {n n':Nat} (h:n<=n') {v:aqR} (ad:low n v):low n' v:=by
 cases v with
 |chan _=>trivial
 |tuple cs=>exact fun v hm=>Gm h (ad v hm)
 |func _ a b=>exact ⟨fun v hm=>Gm h (ad.1 v hm),fun v hm=>Gm h (ad.2 v hm)⟩
 |_=>simp only[low] at ad⊢;exact Gm h ad
theorem Gn {n n':Nat} (h:n<=n') {x:a6} (ad:qN n x):qN n' x:=by
 cases x with
 |dead=>exact ad
 |ro rd=>exact fun i v ae=>r7 h (ad i v ae)
 |own L t=>exact fun v hm=>r7 h (ad v hm)
 |map L t=>exact fun v hm=>r7 h (ad v hm)
 |lock _ _ _ _=>trivial
theorem Cs {n:Nat} {v:aqR} (h:cv v=aqQ):gD n v:=by
 cases v with
 |pointer a=>cases a with
  |none=>exact arb
  |some a=>simp[cv] at h
 |slice a l c=>cases a with
  |none=>exact arb
  |some a=>simp[cv] at h
 |map r=>cases r with
  |none=>exact arb
  |some r=>simp[cv] at h
 |chan _=>simp[cv] at h
 |func _ _ _=>simp only[cv,aq5,at1] at h;obtain ⟨rfl,rfl⟩:=h;exact ⟨rfl,fun v hm=>absurd hm (by simp)⟩
 |iface _ _=>simp[cv] at h
 |agg _=>simp[cv] at h
 |tuple _=>simp[cv] at h
 |_=>exact arb
theorem NR {n:Nat} {v:aqR} (h:ir v=aqQ):gT n v:=by
 cases v with
 |agg cs=>simp only[ir,aq8] at h;exact fun v hm=>Cs (h v hm)
 |_=>simp only[gT];exact Cs h
theorem Ov {n:Nat} {v:aqR} (h:flat v=aqQ):low n v:=by
 cases v with
 |tuple cs=>simp only[flat,aq8] at h;exact fun v hm=>NR (h v hm)
 |func _ _ _=>simp only[flat,ir,cv,aq5,at1] at h;obtain ⟨rfl,rfl⟩:=h;exact ⟨fun v hm=>absurd hm (by simp),fun v hm=>absurd hm (by simp)⟩
 |chan _=>trivial
 |_=>simp only[low];exact NR h
theorem Gz {n:Nat} {v:aqR} (h:gD n v):gT n v:=by
 cases v<;>first|exact h|exact h.elim
theorem CP {n:Nat} {v:aqR} (h:gT n v):low n v:=by
 cases v with
 |func fn bc cs=>exact ⟨fun v hm=>by rw[h.1] at hm;exact absurd hm (by simp),fun v hm=>Gz (afK (h.2 v hm))⟩
 |tuple _=>exact h.elim
 |chan _=>trivial
 |_=>exact h
theorem OF {n:Nat} {v:aqR} (h:gD n v):low n v:=CP (Gz h)
theorem wb {n:Nat} {v:aqR} (h:low n v) (az:storable v=aqQ):gT n v:=by
 cases v with
 |tuple _=>simp[storable] at az
 |chan _=>simp[storable] at az
 |func fn bc cs=>
  simp only[storable,aq5,at1,aq8] at az;refine ⟨az.1,fun v hm=> ?_⟩;have h1:=h.2 v hm;have J:=az.2 v hm;unfold wI at J;split at J
  ·exact h1
  ·cases J
 |_=>exact h
theorem Gb {n:Nat} {v:aqR} (h:gT n v):∀c∈v.cells.toList,gD n c:=by
 cases v with
 |agg cs=>exact h
 |_=>intro c ab;simp only[aqR.cells,arO] at ab;subst ab;exact h
theorem ze:∀(vs L:List aqR) (o:Nat) (v:aqR),v∈eT L o vs->v∈L\/v∈vs
 |[],L,o,v,h=> .inl h
 |u::vs,L,o,v,h=>by
  rcases ze vs (L.set o u) (o+1) v h with h|h
  ·rcases List.mem_or_eq_of_mem_set h with h|h
   ·exact .inl h
   ·exact .inr (by simp[h])
  ·exact .inr (by simp[h])
theorem F9 {n:Nat} {place:Nat->Option (Nat×Nat)}:∀(bK:List (Nat×aqR)) (L cs:List aqR),(∀p∈bK,low n p.2)->(∀v∈L,gD n v)->jw place L bK=aqP cs->∀v∈cs,gD n v
 |[],L,cs,_,cB,h=>by simp only[jw,ark.injEq] at h;subst h;exact cB
 |(i,v)::bK,L,cs,an,cB,h=>by
  simp only[jw] at h;cases aK:place i with
  |none=>simp[aK] at h
  |some q=>
   simp only[aK] at h;split at h
   ·rename_i ab;refine F9 bK _ cs (fun p hm=>an p (by simp[hm])) ?_ h;intro u hu;rcases ze _ _ _ _ hu with hu|hu
    ·exact cB u hu
    ·exact Gb (wb (an (i,v) (by simp)) ab.1) u hu
   ·cases h
theorem Ox {m:Mem} (hm:WF m) {b o:Nat} {v:aqR} (h:m.load b o=aqP v):gD m.next v:=by
 have:=hm.low b;unfold Mem.load at h;cases aa:m.aH b with
 |dead=>simp[aa] at h
 |ro rd=>simp only[aa] at h;rw[aa] at this;exact this o v h
 |own L t=>simp only[aa] at h;rw[aa] at this;exact this v (aq7 h)
 |map L t=>simp[aa] at h
 |lock _ _ _ _=>simp[aa] at h
theorem GV {m:Mem} (hm:WF m) {b:Nat}:∀(n o:Nat) (cs:List aqR),jz m b o n=aqP cs->∀v∈cs,gD m.next v
 |0,o,cs,h=>by simp only[jz,ark.injEq] at h;subst h;intro v ad;simp at ad
 |n+1,o,cs,h=>by
  simp only[jz] at h;cases h1:m.load b o with
  |none=>simp[h1] at h
  |some u=>
   cases J:jz m b (o+1) n with
   |none=>simp[h1,J] at h
   |some l=>
    simp only[h1,J,ark.injEq] at h;subst h;intro v ad;rcases aq6.1 ad with rfl|ad
    ·exact Ox hm h1
    ·exact GV hm n (o+1) l J v ad
theorem r9 {n:Nat} {L:List aqR} (h:L.all cv=aqQ):∀v∈L,gD n v:=by
 simp only[aq8] at h;exact fun v ad=>Cs (h v ad)
theorem agl {P:aqV} {af:aqX->aqR} {o:Oper} {v:aqR} {n:Nat} (h:cO P af o v) (gI:∀x∈o.op.operands,low n (af x)):low n v:=by
 cases h with
 |flat v az h ad aw=>exact Ov ad
 |move x h=>exact gI x (by rcases h with h|h<;>simp[h,aq4])
 |pick c a b t h ab=>
  cases t
  ·exact gI b (by simp[h,aq4])
  ·exact gI a (by simp[h,aq4])
 |extract x i vs v h U ad=>have:=gI x (by simp[h,aq4]);rw[U] at this;exact CP (this v (by have:=as0 ad;simpa using this))
 |field t x i bc f d cs v h ao aP aB U ad=>
  have:=gI x (by simp[h,aq4]);rw[U] at this;split at ad
  ·obtain ⟨k,hk,hle,rfl⟩:=ad;intro u hu;refine this u ?_;simp only[auc,atT] at hu;exact ath (ati hu)
  ·exact OF (this v (by have:=as0 ad;simpa using this))
 |build t bK bc i z cs h ao ae aE cg an ab=>
  have:=F9 (n:=n) _ _ _ (by
   intro p an;simp only[aq'] at an;obtain ⟨q,aK,rfl⟩:=an;exact gI q.2 (by simp only[h,aq4];simp only[asY,aq'];exact ⟨q,aK,rfl⟩)) (r9 cg) ab
  simpa[low,gT] using this
 |Ez t bK n e i k z cs h ao ae aE cg he ab=>
  have:=F9 (n:=_) _ _ _ (by
   intro p an;simp only[aq'] at an;obtain ⟨q,aK,rfl⟩:=an;exact gI q.2 (by simp only[h,aq4];simp only[asY,aq'];exact ⟨q,aK,rfl⟩)) (r9 cg) ab
  simpa[low,gT] using this
 |nilCheck x a h U=>have:=gI x (by simp[h,aq4]);rw[U] at this;exact this
 |fieldAddr t x i bc f k b off h ao aP hk az U=>have:=gI x (by simp[h,aq4]);rw[U] at this;exact this
 |indexAddr t x y e i b off l c k n h ao ae U ag aI h1=>have:=gI x (by simp[h,aq4]);rw[U] at this;exact this
 |FH t x y e i b off l k n h ao ae U ag aI h1=>have:=gI x (by simp[h,aq4]);rw[U] at this;exact this
 |slice t x bG ae e i b off l c n cp h ao dY U aa eZ eg h1 J aj=>have:=gI x (by simp[h,aq4]);rw[U] at this;exact this
 |lz t x bG ae e i h ao dY U eZ eg=>exact arb
 |slice3 t x h0 ae e i b off l c cp dc rW h ao dY U ab eg nV h1=>have:=gI x (by simp[h,aq4]);rw[U] at this;exact this
 |Iv t x h0 ae e i rW h ao dY U eg nV=>exact arb
 |len x t e a l c h ao U=>exact arb
 |EC x t e h ao U=>exact arb
 |A7 neq x y t u e a l c h ao U ag=>exact arb
 |func fn first captured h aP=>
  refine ⟨?_, ?_⟩
  ·intro v ad;simp only[asF,aq'] at ad;obtain ⟨x,U,rfl⟩:=ad;exact wb (gI x (by simp[h,aq4];exact .inl (by simpa using U))) (aP x (by simp[U]))
  ·intro v ad;simp only[asF,aq'] at ad;obtain ⟨x,U,rfl⟩:=ad;exact wb (gI x (by simp[h,aq4];exact .inr (by simpa using U))) (aP x (by simp[U]))
theorem ae9 {P:aqV} {vt:aqY} {n:Nat} {cs:List aqR} (j5:cT P vt=aqT->P.cellsOf vt=1) (ai:cs.length=P.cellsOf vt) (h:∀c∈cs,gD n c):gT n (cZ (cT P vt) cs):=by
 cases au:cT P vt with
 |true=>simpa[cZ,gT] using h
 |false=>
  have:=j5 au
  match cs,ai with
  |[v],_=>exact Gz (h v (by simp))
  |[],ai=>simp at ai;omega
  |_::_::_,ai=>simp at ai;omega
theorem agp {P:aqV} {af:aqX->aqR} {o:Oper} {m:Mem} {v:aqR} (h:eS P af o m v) (hm:WF m) (gI:∀x∈o.op.operands,low m.next (af x)):low m.next v:=by
 cases h with
 |load t x b off d v h U ao aB ad=>exact OF (Ox hm ad)
 |vV t x b off d i cs h U ao aB ae ad=>simpa[low,gT] using GV hm _ _ _ ad
 |slice t x bG ae e i L b off l n cp h ao dY U gB eZ eg h1 J aj=>have:=gI x (by simp[h,aq4]);rw[U] at this;exact this
 |str s t x e b off l c cs h az he ao U ad=>exact arb
 |zW s t x e l c h az he ao U=>exact arb
 |lookup gz x cx ok u kt vt b L E i z v0 t fg h hf hu U k7 j5 K aP hk aG ae aE cg ai=>
  have aI:gT m.next v0:=by
   have abc:(∀p∈E,∀c∈p.2,gD m.next c)/\∀p∈E,p.2.length=P.cellsOf vt:=by
    rcases U with ⟨U,fA,aT⟩|⟨U,rfl⟩
    ·have cB:=hm.low b;rw[fA] at cB;exact ⟨fun p an c ab=>cB c (by rw[aT.eq];exact asz.2 ⟨p,an,by simp[ab]⟩),fun p an=>(aT.len p an).2⟩
    ·exact ⟨fun p an=>by simp at an,fun p an=>by simp at an⟩
   obtain ⟨k2,hlen⟩:=abc;clear aG U;induction ai with
   |pV=>exact NR cg
   |kj p E h=>exact ae9 j5 (hlen p (by simp)) (k2 p (by simp))
   |next p E v b h ai a8=>exact a8 (fun q aK=>k2 q (by simp[aK])) (fun q aK=>hlen q (by simp[aK]))
  cases ok with
  |false=>exact CP aI
  |true=>
   intro v ad;simp at ad;rcases ad with rfl|rfl
   ·exact aI
   ·exact arb
theorem ahV {P:aqV} {af:aqX->aqR} {o:Oper} {n:Nat} {X:a6} {v:aqR} (h:hW P af o n X v) (gI:∀x∈o.op.operands,low n (af x)):low (n+1) v/\qN n X:=by
 cases h with
 |alloc t i z h ae aE cg az=>exact ⟨arP n,r9 cg⟩
 |box t x i h ae ad az=>exact ⟨arP n,Gb (wb (gI x (by simp[h,aq4])) ad)⟩
 |buildSlice t l bK e i z cs h ao ae aE cg dp rE rN ab=>refine ⟨arP n,F9 _ _ _ ?_ (r9 (wg cg l)) ab⟩;intro p an;simp only[aq'] at an;obtain ⟨q,aK,rfl⟩:=an;exact gI q.2 (by simp only[h,aq4];simp only[asY,aq'];exact ⟨q,aK,rfl⟩)
 |makeSlice t x y l c k dc e i z h ao ae aE cg dp U ag rO aa ab=>exact ⟨arP n,r9 (wg cg c)⟩
 |bytes s t x e i b h az ao he ae hd U aa=>exact ⟨arP n,r9 (by simp only[List.all_map,aq8,Function.comp];intro u _;rfl)⟩
 |makeMap t kt vt h ao=>exact ⟨arP n,fun v ad=>by simp at ad⟩
theorem WF.push {m:Mem} (h:WF m) {X:a6} (cB:qN (m.next+1) X):WF (m.push X) where
 dead:=fun b aa=>by simp only[Mem.push] at aa⊢;rw[if_neg (by omega)];exact h.dead b (by omega)
 low:=fun b=>by
  simp only[Mem.push];split
  ·exact cB
  ·exact Gn (arE _) (h.low b)
theorem WF.put {m:Mem} (h:WF m) {b:Nat} {x:a6} (U:qN m.next x) (aa:b<m.next\/x= .dead):WF (m.put b x) where
 dead:=fun c ab=>by
  have ab:m.next<=c:=ab;simp only[Mem.put];split
  ·rcases aa with aa|aa
   ·omega
   ·exact aa
  ·exact h.dead c ab
 low:=fun c=>by
  simp only[Mem.put];split
  ·exact U
  ·exact h.low c
theorem WF.lt {m:Mem} (h:WF m) {b:Nat} (aa:m.aH b≠ .dead):b<m.next:=by
 rcases arK b m.next with h1|h1
 ·exact h1
 ·exact absurd (h.dead b h1) aa
def pa (C:FuncId->Array aqR->Mem->aqR->Mem->Prop):Prop:=∀f args m v m',C f args m v m'->WF m->(∀a∈args.toList,low m.next a)->low m'.next v/\WF m'/\m.next<=m'.next
theorem NO {m:Mem} (hm:WF m) {a1:Nat} {y:aqR} {cs:List aqR} (h:b4 m a1 y=aqP cs):∀v∈cs,gD m.next v:=by
 cases y with
 |slice a l c=>
  cases a with
  |none=>simp only[b4,ark.injEq] at h;subst h;intro v ad;simp at ad
  |some a=>
   obtain ⟨b,off,spot⟩:=a;cases spot with
   |none=>exact GV hm _ _ _ h
   |some _=>simp[b4] at h
 |string s=>
  simp only[b4] at h;split at h
  ·simp only[ark.injEq] at h;subst h;exact r9 (by simp only[List.all_map,aq8,Function.comp];intro u _;rfl)
  ·cases h
 |_=>simp[b4] at h
theorem OI {P:aqV} {m:Mem} (hm:WF m) {u:aqY} {i:TypeInfo} {y:aqR} {n:Nat} {cs:List aqR} (h:u0 P m u i y n cs):∀v∈cs,gD m.next v:=by
 cases h with
 |el hu ai he=>exact NO hm he
 |mk kk k z hu ag aE cg dp bC aa fB iE=>subst iE;exact r9 (wg cg n)
theorem ae1 {o:Oper} {af:aqX->aqR} {f:FuncId} {args:Array aqR} {n:Nat} (h:callee o af f args) (gI:∀x∈o.op.operands,low n (af x)):∀a∈args.toList,low n a:=by
 obtain ⟨x,as,ts,first,captured,h,U,rfl⟩:=h;have aP:=gI x (by simp[h,aq4,arX]);rw[U] at aP;intro a au;simp only[aue,arc,asF,aq'] at au;rcases au with (au|⟨y,ag,rfl⟩)|au
 ·exact CP (aP.1 a au)
 ·exact gI y (by simp[h,aq4,arX];exact .inr (by simpa using ag))
 ·exact CP (aP.2 a au)
theorem ahf {P:aqV} {C:FuncId->Array aqR->Mem->aqR->Mem->Prop} {af:aqX->aqR} {o:Oper} {m m':Mem} {v:aqR} (h:gE P C af o m v m') (hm:WF m) (gI:∀x∈o.op.operands,low m.next (af x)) (bO:pa C):low m'.next v/\WF m'/\m.next<=m'.next:=by
 cases h with
 |store t x y b off i L e h U ae fA ad az ai=>
  refine ⟨fun u hu=>by simp at hu,hm.put ?_ (.inl (hm.lt (by rw[fA];simp))),aq3 _⟩;intro u hu;rcases ze _ _ _ _ hu with hu|hu
  ·have:=hm.low b;rw[fA] at this;exact this u hu
  ·exact Gb (wb (gI y (by simp[h,aq4])) ad) u hu
 |call f args v m' h abI=>exact bO f args m v m' abI hm (ae1 h gI)
 |vf x y t u e i a l c h ao ae U ab rO ag=>exact ⟨gI x (by simp[h,aq4,arX]),hm,aq3 _⟩
 |rv x y t u e i z a l c n dg new h ao ae aE cg dp bC U ab ah jO ag aq aa fB=>
  refine ⟨arP _,hm.push ?_,arE _⟩;intro w hw;rcases arc.1 hw with hw|hw
  ·exact r7 (arE _) (NO hm ah w hw)
  ·exact r7 (arE _) (OI hm ag w hw)
 |x3 x y t u e i b off l c n L new h ao ae U dB ab fA ag aq ai=>
  refine ⟨?_,hm.put ?_ (.inl (hm.lt (by rw[fA];simp))),aq3 _⟩
  ·have:=gI x (by simp[h,aq4,arX]);rw[U] at this;exact this
  ·intro w hw;rcases ze _ _ _ _ hw with hw|hw
   ·have:=hm.low b;rw[fA] at this;exact this w hw
   ·exact OI hm ag w hw
 |append x y t u e i z b off l n L new h ao ae aE cg dp bC U fA tB ag aq aa fB=>
  have h1:WF (m.put b .dead):=hm.put arb (.inr rfl);refine ⟨arP _,h1.push ?_,arE _⟩;intro w hw;rcases arc.1 hw with hw|hw
  ·have:=hm.low b;rw[fA] at this;exact r7 (arE _) (this w (ati (ath hw)))
  ·exact r7 (arE _) (OI hm ag w hw)
 |copy x y t u e i b off l c L cs h ao ae U fA ag aq ai=>
  refine ⟨arb,hm.put ?_ (.inl (hm.lt (by rw[fA];simp))),aq3 _⟩;intro w hw;rcases ze _ _ _ _ hw with hw|hw
  ·have:=hm.low b;rw[fA] at this;exact this w hw
  ·exact NO hm ag w (ath hw)
 |mapUpdate gz x ij ix u kt vt b L bQ vc E E' fg h hf hu U fA aT k7 K BC nb yv aP hk aG lT BW rU BY e5=>
  refine ⟨fun u hu=>by simp at hu,hm.put ?_ (.inl (hm.lt (by rw[fA];simp))),aq3 _⟩;have cB:=hm.low b;rw[fA] at cB;have k2:∀p∈E,∀c∈p.1++p.2,gD m.next c:=fun p an c ab=>cB c (by rw[aT.eq];exact asz.2 ⟨p,an,ab⟩);have acg:∀c∈bQ,gD m.next c:=r9 yv;have U1:∀c∈vc,gD m.next c:=fun c ab=>by refine Gb (wb (gI ix ?_) lT) c (BY c ab);rcases h with h|h<;>simp[h,aq4]
  have key:∀p∈E',∀c∈p.1++p.2,gD m.next c:=by
   clear aT aG cB;induction e5 with
   |pV=>
    intro p an c ab;simp at an;subst an;rcases arc.1 ab with ab|ab
    ·exact acg c ab
    ·exact U1 c ab
   |kj p E h=>
    intro q aK c ab;rcases aq6.1 aK with rfl|aK
    ·rcases arc.1 ab with ab|ab
     ·exact k2 p (by simp) c (by simp[ab])
     ·exact U1 c ab
    ·exact k2 q (by simp[aK]) c ab
   |next p E E' h TX a8=>
    intro q aK c ab;rcases aq6.1 aK with rfl|aK
    ·exact k2 q (by simp) c ab
    ·exact a8 (fun q aK=>k2 q (by simp[aK])) q aK c ab
  intro v ad;obtain ⟨p,an,ab⟩:=asz.1 ad;exact key p an v ab
theorem YD {fr:Nat->aqR} {n:Nat} (h:∀t,low n (fr t)) {x:aqX} (U:ku x=aqQ):low n (aJ fr x):=by
 cases x with
 |tmp t=>exact h t
 |const v=>exact Ov U
 |global g=>simp[ku] at U
 |func f=>exact ⟨fun v ad=>by simp at ad,fun v ad=>by simp at ad⟩
theorem CR {fr:Nat->aqR} {n:Nat} (h:∀t,low n (fr t)) {d:Option Tmp} {v:aqR} (ad:low n v):∀t,low n (set fr d v t):=by
 intro t;cases d with
 |none=>exact h t
 |some d=>simp only[set];split;exact ad;exact h t
theorem Cp {n:Nat}:low n undef:=fun v ad=>by simp at ad
theorem wA {P:aqV} {C:FuncId->Array aqR->Mem->aqR->Mem->Prop} {fr:Nat->aqR} {o:Oper} {m m':Mem} {v:aqR} (h:oD P C (aJ fr) o m v m') (hm:WF m) (aP:∀t,low m.next (fr t)) (bO:pa C) (ah:∀x∈o.op.operands,ku x=aqQ):
  low m'.next v/\WF m'/\m.next<=m'.next:=by
 have gI:∀x∈o.op.operands,low m.next (aJ fr x):=fun x U=>YD aP (ah x U);cases h with
 |pure h=>exact ⟨agl h gI,hm,aq3 _⟩
 |read h=>exact ⟨agp h hm gI,hm,aq3 _⟩
 |new h=>have:=ahV h gI;exact ⟨this.1,hm.push (Gn (arE _) this.2),arE _⟩
 |e3 h=>exact ahf h hm gI bO
end Go.aS
end
section
namespace Go.aS
def PF (P:aqV) (C:FuncId->Array aqR->Mem->aqR->Mem->Prop) (ops:List Oper) (o:Oper) (fr:Nat->aqR) (m:Mem) (v:aqR) (m':Mem) (k:Nat):Prop:=
 (k=0/\wanted ops fr o=aqT/\v=undef/\m'=m)\/
 (k=1/\wanted ops fr o=aqQ/\cO P (aJ fr) o v/\m'=m)\/
 (k=2/\wanted ops fr o=aqQ/\eS P (aJ fr) o m v/\m'=m)\/
 (k=3/\wanted ops fr o=aqQ/\∃X,hW P (aJ fr) o m.next X v/\m'=m.push X)\/
 (k=4/\wanted ops fr o=aqQ/\gE P C (aJ fr) o m v m')
structure jD (P:aqV) (C:FuncId->Array aqR->Mem->aqR->Mem->Prop) (ops:List Oper) (B:Array Nat) (i:Nat) (l:List Oper) (bc:Nat->Nat->aqR) (ms:Nat->Mem) (vs:Nat->aqR) (cu:Nat->Nat):Prop where
 frame:∀n o,l[n]? =aqP o->bc (i+n+1)=set (bc (i+n)) o.dst (vs (i+n))
 run:∀n o,l[n]? =aqP o->PF P C ops o (bc (i+n)) (ms (i+n)) (vs (i+n)) (ms (i+n+1)) (cu (i+n))
 after:∀r e o,l[r]? =aqP o->cu (i+r)=2->e<l.length->cu (i+e)=4->r<e->fe B (i+e) (i+r)=aqT->eS P (aJ (bc (i+r))) o (ms (i+e+1)) (vs (i+r))
 news:∀x e,x<l.length->cu (i+x)=3->e<l.length->cu (i+e)=4->x<e->fe B (i+e) (i+x)=aqT->(ms (i+e+1)).aH (ms (i+x)).next=(ms (i+e)).aH (ms (i+x)).next
 ahead:∀r e o,l[r]? =aqP o->cu (i+r)=2->e<l.length->cu (i+e)=4->e<r->fe B (i+r) (i+e)=aqT->eS P (aJ (bc (i+r))) o (ms (i+e)) (vs (i+r))
theorem Zh {P:aqV} {C:FuncId->Array aqR->Mem->aqR->Mem->Prop} {ops:List Oper} {B:Array Nat}:∀(l:List Oper) (i:Nat) (A:Acc) (fr:Nat->aqR) (m:Mem) (fr':Nat->aqR) (m':Mem),gx P C ops B i l A fr m fr' m'->
  ∃bc ms vs cu,jD P C ops B i l bc ms vs cu/\bc i=fr/\ms i=m/\bc (i+l.length)=fr'/\ms (i+l.length)=m'/\
   (∀x∈A.reads,∀e,e<l.length->cu (i+e)=4->fe B (i+e) x.1=aqT->x.2 (ms (i+e+1)))/\
   (∀x∈A.gM,∀r o,l[r]? =aqP o->cu (i+r)=2->fe B (i+r) x.1=aqT->eS P (aJ (bc (i+r))) o x.2 (vs (i+r)))/\
   (∀x∈A.news,∀e,e<l.length->cu (i+e)=4->fe B (i+e) x.1=aqT->(ms (i+e+1)).aH x.2=(ms (i+e)).aH x.2)
 |[],i,A,fr,m,fr',m',h=>by simp only[gx] at h;obtain ⟨rfl,rfl⟩:=h;refine ⟨fun _=>fr',fun _=>m',fun _=>undef,fun _=>0,⟨?_, ?_, ?_, ?_, ?_⟩,rfl,rfl,rfl,rfl, ?_, ?_, ?_⟩;all_goals (intros;simp at*)
 |o::os,i,A,fr,m,fr',m',h=>by
  have key:∀(v:aqR) (m1:Mem) (k:Nat) (hl:Acc),PF P C ops o fr m v m1 k->gx P C ops B (i+1) os hl (set fr o.dst v) m1 fr' m'->
    (∀x∈A.reads,x∈hl.reads)->(∀x∈A.gM,x∈hl.gM)->(k=2->(i,fun m=>eS P (aJ fr) o m v)∈hl.reads)->(k=4->(i,m)∈hl.gM)->
    (k=2->∀x∈A.gM,fe B i x.1=aqT->eS P (aJ fr) o x.2 v)->(k=4->∀x∈A.reads,fe B i x.1=aqT->x.2 m1)->(∀x∈A.news,x∈hl.news)->(k=3->(i,m.next)∈hl.news)->(k=4->∀x∈A.news,fe B i x.1=aqT->m1.aH x.2=m.aH x.2)->
    ∃bc ms vs cu,jD P C ops B i (o::os) bc ms vs cu/\bc i=fr/\ms i=m/\bc (i+(o::os).length)=fr'/\ms (i+(o::os).length)=m'/\
     (∀x∈A.reads,∀e,e<(o::os).length->cu (i+e)=4->fe B (i+e) x.1=aqT->x.2 (ms (i+e+1)))/\
     (∀x∈A.gM,∀r o',(o::os)[r]? =aqP o'->cu (i+r)=2->fe B (i+r) x.1=aqT->eS P (aJ (bc (i+r))) o' x.2 (vs (i+r)))/\
     (∀x∈A.news,∀e,e<(o::os).length->cu (i+e)=4->fe B (i+e) x.1=aqT->(ms (i+e+1)).aH x.2=(ms (i+e)).aH x.2):=by
   intro v m1 k hl jP aB aa' aa8 rK Ma k9 ac0 aa9 BB acy;obtain ⟨bc,ms,vs,cu,ao,h1,J,aj,aM,br,dt,hb⟩:=Zh os (i+1) hl _ _ _ _ aB;refine ⟨fun n=>if n=i then fr else bc n,fun n=>if n=i then m else ms n,fun n=>if n=i then v else vs n,fun n=>if n=i then k else cu n,⟨?_, ?_, ?_, ?_, ?_⟩,by simp,by simp, ?_, ?_, ?_, ?_, ?_⟩
   ·intro n o' aq;cases n with
    |zero=>simp only[as3,ark.injEq] at aq;subst aq;simp only[arC,if_pos,Nat.succ_ne_self,if_false,at2,atB,h1]
    |succ n=>
     have aX:i+(n+1)=i+1+n:=by omega
     have:=ao.frame n o' (by simpa using aq);rw[aX];simp only[show ¬(i+1+n+1=i) by omega,show ¬(i+1+n=i) by omega,if_false,this]
   ·intro n o' aq;cases n with
    |zero=>simp only[as3,ark.injEq] at aq;subst aq;simp only[arC,if_pos,at2,atB,if_false,J];exact jP
    |succ n=>
     have aX:i+(n+1)=i+1+n:=by omega
     have:=ao.run n o' (by simpa using aq);rw[aX];simp only[show ¬(i+1+n+1=i) by omega,show ¬(i+1+n=i) by omega,if_false];exact this
   ·intro r e o' aw hk he gk Fu fW;cases e with
    |zero=>omega
    |succ e=>
     have aX:i+(e+1)=i+1+e:=by omega
     rw[aX] at gk fW⊢;simp only[show ¬(i+1+e=i) by omega,if_false] at gk;simp only[show ¬(i+1+e+1=i) by omega,if_false];cases r with
     |zero=>simp only[as3,ark.injEq] at aw;subst aw;simp only[arC,if_pos] at hk fW⊢;exact br _ (rK hk) e (by simpa using he) gk fW
     |succ r=>
      have e2:i+(r+1)=i+1+r:=by omega
      rw[e2] at hk fW⊢;simp only[show ¬(i+1+r=i) by omega,if_false] at hk⊢;exact ao.after r e o' (by simpa using aw) hk (by simpa using he) gk (by omega) fW
   ·intro x e U hk he gk ko fW;cases e with
    |zero=>omega
    |succ e=>
     have aX:i+(e+1)=i+1+e:=by omega
     rw[aX] at gk fW⊢;simp only[show ¬(i+1+e=i) by omega,if_false] at gk;simp only[show ¬(i+1+e+1=i) by omega,show ¬(i+1+e=i) by omega,if_false];cases x with
     |zero=>simp only[arC,if_pos] at hk fW⊢;exact hb _ (BB hk) e (by simpa using he) gk fW
     |succ x=>
      have e2:i+(x+1)=i+1+x:=by omega
      rw[e2] at hk fW⊢;simp only[show ¬(i+1+x=i) by omega,if_false] at hk⊢;exact ao.news x e (by simpa using U) hk (by simpa using he) gk (by omega) fW
   ·intro r e o' aw hk he gk Fu fW;cases r with
    |zero=>omega
    |succ r=>
     have e2:i+(r+1)=i+1+r:=by omega
     rw[e2] at hk fW⊢;simp only[show ¬(i+1+r=i) by omega,if_false] at hk⊢;cases e with
     |zero=>simp only[arC,if_pos] at gk fW⊢;exact dt _ (Ma gk) r o' (by simpa using aw) hk fW
     |succ e=>
      have aX:i+(e+1)=i+1+e:=by omega
      rw[aX] at gk fW⊢;simp only[show ¬(i+1+e=i) by omega,if_false] at gk⊢;exact ao.ahead r e o' (by simpa using aw) hk (by simpa using he) gk (by omega) fW
   ·have aX:i+(o::os).length=i+1+os.length:=by simp;omega
    rw[aX];simp only[show ¬(i+1+os.length=i) by omega,if_false,aj]
   ·have aX:i+(o::os).length=i+1+os.length:=by simp;omega
    rw[aX];simp only[show ¬(i+1+os.length=i) by omega,if_false,aM]
   ·intro x U e he gk fW;cases e with
    |zero=>simp only[arC,if_pos,at2,atB,if_false,J] at gk fW⊢;exact ac0 gk x U fW
    |succ e=>
     have aX:i+(e+1)=i+1+e:=by omega
     rw[aX] at gk fW⊢;simp only[show ¬(i+1+e=i) by omega,if_false] at gk;simp only[show ¬(i+1+e+1=i) by omega,if_false];exact br x (aa' x U) e (by simpa using he) gk fW
   ·intro x U r o' aw hk fW;cases r with
    |zero=>simp only[as3,ark.injEq] at aw;subst aw;simp only[arC,if_pos] at hk fW⊢;exact k9 hk x U fW
    |succ r=>
     have e2:i+(r+1)=i+1+r:=by omega
     rw[e2] at hk fW⊢;simp only[show ¬(i+1+r=i) by omega,if_false] at hk⊢;exact dt x (aa8 x U) r o' (by simpa using aw) hk fW
   ·intro x U e he gk fW;cases e with
    |zero=>simp only[arC,if_pos,at2,atB,if_false,J] at gk fW⊢;exact acy gk x U fW
    |succ e=>
     have aX:i+(e+1)=i+1+e:=by omega
     rw[aX] at gk fW⊢;simp only[show ¬(i+1+e=i) by omega,if_false] at gk;simp only[show ¬(i+1+e+1=i) by omega,show ¬(i+1+e=i) by omega,if_false];exact hb x (aa9 x U) e (by simpa using he) gk fW
  simp only[gx] at h;split at h
  ·rename_i hw;rcases h with ⟨v,an,aB⟩|⟨v,an,Mn,aB⟩|⟨X,v,an,aB⟩|⟨v,m1,an,Mn,acG,aB⟩
   ·exact key v m 1 A (.inr (.inl ⟨rfl,hw,an,rfl⟩)) aB (fun _ h=>h) (fun _ h=>h) (by simp) (by simp) (by simp) (by simp) (fun _ h=>h) (by simp) (by simp)
   ·exact key v m 2 _ (.inr (.inr (.inl ⟨rfl,hw,an,rfl⟩))) aB (fun _ h=>by simp[h]) (fun _ h=>h) (fun _=>by simp) (by simp) (fun _=>Mn) (by simp) (fun _ h=>h) (by simp) (by simp)
   ·exact key v _ 3 _ (.inr (.inr (.inr (.inl ⟨rfl,hw,X,an,rfl⟩)))) aB (fun _ h=>h) (fun _ h=>h) (by simp) (by simp) (by simp) (by simp) (fun _ h=>by simp[h]) (fun _=>by simp) (by simp)
   ·exact key v m1 4 _ (.inr (.inr (.inr (.inr ⟨rfl,hw,an⟩)))) aB (fun _ h=>h) (fun _ h=>by simp[h]) (by simp) (fun _=>by simp) (by simp) (fun _=>Mn) (fun _ h=>h) (by simp) (fun _=>acG)
  ·rename_i hw;exact key undef m 0 A (.inl ⟨rfl,by simpa using hw,rfl,rfl⟩) h (fun _ h=>h) (fun _ h=>h) (by simp) (by simp) (by simp) (by simp) (fun _ h=>h) (by simp) (by simp)
end Go.aS
end
section
namespace Go.aS
def zr (P:aqV) (C:FuncId->Array aqR->Mem->aqR->Mem->Prop):Prop:=∀f args m v m',C f args m v m'->∀(j:bq) (w:World) (jF:Array aqR),WF m->Rel P j m w->ba (b9 j) args.toList jF.toList->
 (∃ fn, P.funcs[f]? = aqP fn ∧ (fn.name == "runtime.NumGoroutine") = aqT ∧ fn.body.isNone = aqT) ∧
 Calls P f jF w fun e w'=>∃aV bT,e= .returned aV/\Post P j m w bT m' w'/\b9 bT v aV
theorem G8 {j:bq} {n:Nat} (ar:∀b e,j b=aqP e->b<n) {v aV:aqR}:(dy j v aV->gD n v)/\(eA j v aV->gT n v)/\(b9 j v aV->low n v):=by
 have ai:∀{R:aqR->aqR->Prop} {p:aqR->Prop},(∀a b,R a b->p a)->∀{l k:List aqR},ba R l k->∀v∈l,p v:=by
  intro R p abv l;induction l with
  |nil=>intro k _ v ad;simp at ad
  |cons a l a8=>
   intro k h v ad;cases k with
   |nil=>exact h.elim
   |cons b k=>
    rcases aq6.1 ad with rfl|ad
    ·exact abv _ _ h.1
    ·exact a8 h.2 v ad
 have aK:∀v aV:aqR,jj j v aV->qO n v:=by
  intro v aV h;unfold jj at h;split at h
  ·obtain ⟨e,_,h,_⟩:=h;exact ar _ _ h
  ·exact h.elim
 have aI:∀{v aV:aqR},dy j v aV->gD n v:=by
  intro v aV h;cases v with
  |pointer a=>cases a with
   |none=>exact arb
   |some a=>obtain ⟨e,_,h,_⟩:=h;exact ar _ _ h
  |slice a l c=>cases a with
   |none=>exact arb
   |some a=>obtain ⟨e,_,h,_⟩:=h;exact ar _ _ h
  |map r=>cases r with
   |none=>exact arb
   |some r=>obtain ⟨e,h,_⟩:=h;exact ar _ _ h
  |chan _=>exact h
  |func _ _ _=>obtain ⟨aX,ds,_,h⟩:=h;exact ⟨aX,ai (R:=jj j) (p:=qO n) aK h⟩
  |iface _ _=>exact h
  |agg _=>exact h
  |tuple _=>exact h
  |_=>exact arb
 have h1:∀{v aV:aqR},eA j v aV->gT n v:=by
  intro v aV h;cases v with
  |agg cs=>obtain ⟨ds,_,h⟩:=h;exact ai (R:=dy j) (p:=gD n) (fun a b=>aI) h
  |_=>simp only[eA] at h;simp only[gT];exact aI h
 refine ⟨aI,h1, ?_⟩;intro h;cases v with
 |tuple cs=>obtain ⟨ds,_,h⟩:=h;exact ai (R:=eA j) (p:=gT n) (fun a b=>h1) h
 |chan _=>trivial
 |func fn a b=>obtain ⟨gs,ds,_,h,cp⟩:=h;exact ⟨ai (R:=eA j) (p:=gT n) (fun a b=>h1) h,ai (R:=eA j) (p:=gT n) (fun a b=>h1) cp⟩
 |_=>simp only[b9] at h;simp only[low];exact h1 h
def bq.below (j:bq) (n:Nat):bq:=fun b=>if b<n then j b else aqS
theorem o5 {j:bq} {n b:Nat} {e:iL} (h:j.below n b=aqP e):b<n/\j b=aqP e:=by
 unfold bq.below at h;split at h
 ·exact ⟨‹_›,h⟩
 ·cases h
theorem Gt {j:bq} {n b:Nat} {e:iL} (h:b<n) (ar:j b=aqP e):j.below n b=aqP e:=by simp[bq.below,h,ar]
theorem wj {j:bq} {n:Nat} {v aV:aqR}:(dy j v aV->gD n v->dy (j.below n) v aV)/\(eA j v aV->gT n v->eA (j.below n) v aV)/\(b9 j v aV->low n v->b9 (j.below n) v aV):=by
 have gl:∀{R S:aqR->aqR->Prop} {p:aqR->Prop},(∀a b,R a b->p a->S a b)->∀{l k:List aqR},ba R l k->(∀v∈l,p v)->ba S l k:=by
  intro R S p abu l;induction l with
  |nil=>intro k h _;cases k with|nil=>exact arb|cons _ _=>exact h.elim
  |cons a l a8=>
   intro k h an;cases k with
   |nil=>exact h.elim
   |cons b k=>exact ⟨abu _ _ h.1 (an a (by simp)),a8 h.2 fun v ad=>an v (by simp[ad])⟩
 have aK:∀v aV:aqR,jj j v aV->qO n v->jj (j.below n) v aV:=by
  intro v aV h ai;unfold jj at h⊢;split at h
  ·obtain ⟨e,h1,J,aj⟩:=h;exact ⟨e,h1,Gt ai J,aj⟩
  ·exact h.elim
 have aI:∀{v aV:aqR},dy j v aV->gD n v->dy (j.below n) v aV:=by
  intro v aV h ai;cases v with
  |func _ _ _=>obtain ⟨aX,ds,e2,h⟩:=h;exact ⟨aX,ds,e2,gl (R:=jj j) (S:=jj (j.below n)) (p:=qO n) aK h ai.2⟩
  |pointer a=>cases a with
   |none=>exact h
   |some a=>obtain ⟨e,h1,J,aj⟩:=h;exact ⟨e,h1,Gt ai J,aj⟩
  |slice a l c=>cases a with
   |none=>exact h
   |some a=>obtain ⟨e,h1,J,aj⟩:=h;exact ⟨e,h1,Gt ai J,aj⟩
  |map r=>cases r with
   |none=>exact h
   |some r=>obtain ⟨e,J,aj⟩:=h;exact ⟨e,Gt ai J,aj⟩
  |_=>exact h
 have h1:∀{v aV:aqR},eA j v aV->gT n v->eA (j.below n) v aV:=by
  intro v aV h ai;cases v with
  |agg cs=>obtain ⟨ds,aX,h⟩:=h;exact ⟨ds,aX,gl (R:=dy j) (S:=dy (j.below n)) (p:=gD n) (fun a b=>aI) h ai⟩
  |_=>simp only[eA] at h⊢;simp only[gT] at ai;exact aI h ai
 refine ⟨aI,h1, ?_⟩;intro h ai;cases v with
 |tuple cs=>obtain ⟨ds,aX,h⟩:=h;exact ⟨ds,aX,gl (R:=eA j) (S:=eA (j.below n)) (p:=gT n) (fun a b=>h1) h ai⟩
 |chan _=>exact h
 |func fn a b=>obtain ⟨gs,ds,aX,h,cp⟩:=h;exact ⟨gs,ds,aX,gl (R:=eA j) (S:=eA (j.below n)) (p:=gT n) (fun a b=>h1) h ai.1,gl (R:=eA j) (S:=eA (j.below n)) (p:=gT n) (fun a b=>h1) cp ai.2⟩
 |_=>simp only[b9] at h⊢;simp only[low] at ai;exact h1 h ai
theorem ba.mapA {ap bx rc:Type} {R:bx->rc->Prop} (f:ap->bx) (g:ap->rc) (A:Array ap) (h:∀x∈A.toList,R (f x) (g x)):ba R (A.map f).toList (A.map g).toList:=by
 simp only[asF];exact ba.map f g _ h
theorem aeC {P : aqV} {f : FuncId} {fn : Func} {args : Array aqR} {w : World} (aP : P.funcs[f]? = aqP fn) (Mk : (fn.name == "runtime.NumGoroutine") = aqT) (LR : fn.body.isNone = aqT) : (callFunc f args).run P w = .ok (.enter f args) w := by
 simp only[callFunc,arl,run_program,arh,aP,Mk,LR,if_false,arz,ary]
theorem YB {P:aqV} {C:FuncId->Array aqR->Mem->aqR->Mem->Prop} {j:bq} {af:aqX->aqR} {o:Oper} {m m':Mem} {w:World} {v:aqR} {a:Act} (h:gE P C af o m v m') (hO:hG j af a.eval o) (bp:Rel P j m w) (cr:WF m) (k3:zr P C)
  {K:Act->World->Prop} {Q:Exit->Act->World->Prop} (fy:∀aV w' bT,Post P j m w bT m' w'->b9 bT v aV->K (a.put o.dst aV) w'):o.wp P a w K Q:=by
 rcases afc h hO bp with ⟨n,aV,w',bT,aw,aq,an,ad⟩|⟨f,args,ab,bO⟩
 ·unfold asU;rw[aw];rcases aq with rfl|⟨rfl,rfl⟩
  ·exact fy aV w' bT an ad
  ·exact fy undef w' bT an ad
 ·obtain ⟨x,as,ts,first,captured,jo,U,rfl⟩:=ab;have cQ:=hO x (by simp[jo,aq4,arX]);rw[U] at cQ;obtain ⟨gs,ds,dw,h1,J⟩:=cQ;have tw:ba (b9 j) (first++as.map af++captured).toList (gs++as.map a.eval++ds).toList:=by
   simp only[aue];refine ba.append (ba.append (h1.mono fun _ _=>b9.v7) (ba.mapA _ _ _ fun y ag=> ?_)) (J.mono fun _ _=>b9.v7);exact hO y (by simp[jo,aq4,arX];exact .inr (by simpa using ag))
  obtain ⟨⟨fn,aP,Mk,LR⟩,abJ⟩:=k3 _ _ _ _ _ bO j w _ cr bp tw;have jP:(execOp a.eval o).run P w= .ok (.enter f (gs++as.map a.eval++ds)) w:=by simp only[execOp,jo,resolve,dw,Deferred.ofValue,invoke,arl,ary,arh,aeC aP Mk LR]
  unfold asU;rw[jP,Oper.upon_enter];refine abJ.mono ?_;rintro e w' ⟨aV,bT,rfl,an,ad⟩;exact fy aV w' bT an ad
end Go.aS
end
section
namespace Go.aS
theorem afb {ops:Array Oper} (h:uj ops=aqQ) {i:Nat} {o:Oper} (ah:ops[i]? =aqP o) {e:Edge} (he:e∈o.after) (aa:asH .any e=aqQ):e.on<i:=by
 simp only[uj,aq8,ar5] at h;have:=h i (ar2.1 ah).1;simp only[ah,aq5,aq8] at this;have:=this.1 e (by simpa using he);simpa[aa] using this
theorem Nq {ops:Array Oper} (h:uj ops=aqQ) {i x:Nat} {o y:Oper} (ah:ops[i]? =aqP o) (ag:ops[x]? =aqP y) (U:x<i) (ab:rA ops y o=aqQ):fe (arF ops) i x=aqQ:=by
 simp only[uj,aq8,ar5] at h;have:=h i (ar2.1 ah).1;simp only[ah,aq5,aq8] at this;have:=this.2 x (by simpa using U);simpa[ag,ab] using this
def Ha (ops:Array Oper) (S:Nat->Prop):Prop:=∀a o,S a->ops[a]? =aqP o->∀e∈o.after,asH .any e=aqQ->S e.on
def qV (acc:Array Nat) (o:Oper):Array Nat:=acc.push (o.after.foldl (fun s e=>if asH .any e then s|||2 ^ e.on|||acc.getD e.on 0 else s) 0)
def Good (ops:Array Oper) (i bits:Nat):Prop:=∀x,bits.testBit x=aqQ->∀S,Ha ops S->(∀o,ops[i]? =aqP o->∀e∈o.after,asH .any e=aqQ->S e.on)->S x
theorem Wu (acc:Array Nat):∀(l:List Edge) (s x:Nat),(l.foldl (fun s e=>if asH .any e then s|||2 ^ e.on|||acc.getD e.on 0 else s) s).testBit x=aqQ->
  s.testBit x=aqQ\/∃e∈l,asH .any e=aqQ/\(x=e.on\/(acc.getD e.on 0).testBit x=aqQ)
 |[],s,x,h=> .inl h
 |e::l,s,x,h=>by
  simp only[List.foldl_cons] at h;rcases Wu acc l _ x h with h|⟨bw,Bo,aa,U⟩
  ·split at h
   ·rename_i aa;simp only[Nat.testBit_or,ar1,Nat.testBit_two_pow,decide_eq_true_eq] at h;rcases h with (h|h)|h
    ·exact .inl h
    ·exact .inr ⟨e,by simp,aa, .inl h.symm⟩
    ·exact .inr ⟨e,by simp,aa, .inr h⟩
   ·exact .inl h
  ·exact .inr ⟨bw,by simp[Bo],aa,U⟩
theorem VM {ops:Array Oper}:∀(l pre:List Oper) (acc:Array Nat),ops.toList=pre++l->acc.size=pre.length->(∀i,i<acc.size->Good ops i (acc.getD i 0))->
  ∀i,Good ops i ((l.foldl qV acc).getD i 0)
 |[],pre,acc,an,az,aG=>by
  intro i;by_cases ae:i<acc.size
  ·exact aG i ae
  ·simp only[List.foldl_nil];intro x U;simp[asV,ae] at U
 |o::l,pre,acc,an,az,aG=>by
  simp only[List.foldl_cons];refine VM l (pre++[o]) (qV acc o) (by simp[an]) (by simp[qV,az]) ?_;intro i ae;by_cases h:i<acc.size
  ·have:(qV acc o).getD i 0=acc.getD i 0:=by
    simp only[qV,asV,Array.size_push,h,atf h,dite_true];simp[Array.getElem_push,h]
   rw[this];exact aG i h
  ·have hV:i=acc.size:=by simp[qV] at ae;omega
   subst hV;have acH:ops[acc.size]? =aqP o:=by rw[<-asZ,an,az];simp
   intro x U S k3 aB;have aa:(qV acc o).getD acc.size 0=o.after.foldl (fun s e=>if asH .any e then s|||2 ^ e.on|||acc.getD e.on 0 else s) 0:=by simp[qV,asV]
   rw[aa,<-aub] at U;rcases Wu acc _ 0 x U with aI|⟨e,he,eL,ko⟩
   ·simp at aI
   ·have UP:=aB o acH e (by simpa using he) eL;rcases ko with rfl|ko
    ·exact UP
    ·by_cases aN:e.on<acc.size
     ·exact aG e.on aN x ko S k3 fun o' ig bw Bo ct=>k3 e.on o' UP ig bw Bo ct
     ·simp[asV,aN] at ko
theorem Wi {ops:Array Oper} {i x:Nat} (h:fe (arF ops) i x=aqQ) {S:Nat->Prop} (k3:Ha ops S) (aB:∀o,ops[i]? =aqP o->∀e∈o.after,asH .any e=aqQ->S e.on):S x:=by
 have aa:arF ops=ops.toList.foldl qV #[]:=by rw[show arF ops=ops.foldl qV #[] from rfl,<-aub]
 have:=VM (ops:=ops) ops.toList [] #[] (by simp) (by simp) (by intro i ae;simp at ae) i;rw[<-aa] at this;exact this x h S k3 aB
theorem N2 {P:aqV} {C:FuncId->Array aqR->Mem->aqR->Mem->Prop} {ops:List Oper} {B:Array Nat} {bc:Nat->Nat->aqR} {ms:Nat->Mem} {vs:Nat->aqR} {cu:Nat->Nat} (T:jD P C ops B 0 ops bc ms vs cu)
  (bO:pa C) (cQ:∀o∈ops,∀x∈o.op.operands,ku x=aqQ) (aI:WF (ms 0)) (ai:∀t,low (ms 0).next (bc 0 t)):∀i,i<=ops.length->WF (ms i)/\(∀t,low (ms i).next (bc i t))/\(∀n,n<i->(ms n).next<=(ms (n+1)).next/\low (ms (n+1)).next (vs n))
 |0,_=>⟨aI,ai,fun n aq=>by omega⟩
 |i+1,ae=>by
  obtain ⟨h1,J,aj⟩:=N2 T bO cQ aI ai i (by omega);have ah:ops[i]? =aqP ops[i]:=by simp[show i<ops.length by omega]
  have aw:=T.run i ops[i] ah;have aP:=T.frame i ops[i] ah;simp only[ara] at aw aP;have hm:=cQ ops[i] (by simp);have step:low (ms (i+1)).next (vs i)/\WF (ms (i+1))/\(ms i).next<=(ms (i+1)).next:=by
   rcases aw with ⟨_,_,ad,fB⟩|⟨_,_,an,fB⟩|⟨_,_,an,fB⟩|⟨_,_,gF,an,fB⟩|⟨_,_,an⟩
   ·rw[fB,ad];exact ⟨Cp,h1,aq3 _⟩
   ·rw[fB];exact wA (.pure an) h1 J bO hm
   ·rw[fB];exact wA (.read an) h1 J bO hm
   ·rw[fB];exact wA (.new an) h1 J bO hm
   ·exact wA (.e3 an) h1 J bO hm
  refine ⟨step.2.1, ?_, ?_⟩
  ·rw[aP];exact CR (fun t=>GA step.2.2 (J t)) step.1
  ·intro n aq;by_cases acA:n=i
   ·subst acA;exact ⟨step.2.2,step.1⟩
   ·exact aj n (by omega)
theorem We {ms:Nat->Mem} {vs:Nat->aqR} {k:Nat} (h:∀n,n<k->(ms n).next<=(ms (n+1)).next/\low (ms (n+1)).next (vs n)):∀b a,a<=b->b<=k->(ms a).next<=(ms b).next
 |0,a,h1,J=>by
  have:a=0:=by omega
  subst this;exact aq3 _
 |b+1,a,h1,J=>by
  by_cases e:a=b+1
  ·subst e;exact aq3 _
  ·exact arj (We h b a (by omega) (by omega)) (h b (by omega)).1
theorem Ns {P:aqV} {C:FuncId->Array aqR->Mem->aqR->Mem->Prop} {ops:List Oper} {B:Array Nat} {bc:Nat->Nat->aqR} {ms:Nat->Mem} {vs:Nat->aqR} {cu:Nat->Nat} (T:jD P C ops B 0 ops bc ms vs cu) (t:Nat):
  ∀i,i<=ops.length->((∃x o,x<i/\ops[x]? =aqP o/\o.dst=aqP t/\bc i t=vs x/\∀y p,x<y->y<i->ops[y]? =aqP p->p.dst≠aqP t)\/
   ((∀x o,x<i->ops[x]? =aqP o->o.dst≠aqP t)/\bc i t=bc 0 t))
 |0,_=> .inr ⟨fun x o U=>by omega,rfl⟩
 |i+1,ae=>by
  have ah:ops[i]? =aqP ops[i]:=by simp[show i<ops.length by omega]
  have aP:=T.frame i ops[i] ah;simp only[ara] at aP;by_cases aB:ops[i].dst=aqP t
  ·left;refine ⟨i,ops[i],by omega,ah,aB, ?_,fun y p h1 J=>by omega⟩;rw[aP,aB];simp[set]
  ·have he:bc (i+1) t=bc i t:=by
    rw[aP];cases jL:ops[i].dst with
    |none=>rfl
    |some d=>
     have:t≠d:=by intro h;subst h;exact aB jL
     simp[set,this]
   rcases Ns T t i (by omega) with ⟨x,o,h1,J,aj,aM,br⟩|⟨h1,J⟩
   ·left;refine ⟨x,o,by omega,J,aj,by rw[he];exact aM,fun y p adw yI an=> ?_⟩;by_cases B1:y=i
    ·subst B1;rw[ah] at an;cases an;exact aB
    ·exact br y p adw (by omega) an
   ·right;refine ⟨fun x o U an=> ?_,by rw[he];exact J⟩;by_cases B1:x=i
    ·subst B1;rw[ah] at an;cases an;exact aB
    ·exact h1 x o (by omega) an
theorem Gf {P:aqV} {C:FuncId->Array aqR->Mem->aqR->Mem->Prop} {ops:List Oper} {B:Array Nat} {bc:Nat->Nat->aqR} {ms:Nat->Mem} {vs:Nat->aqR} {cu:Nat->Nat} (T:jD P C ops B 0 ops bc ms vs cu) {s:Nat}:
  ∀z,s<=z->z<=ops.length->(∀e,s<=e->e<z->cu e≠4)->(∀b,b<(ms s).next->(ms z).aH b=(ms s).aH b)/\
   (∀x,s<=x->x<z->cu x=3->∀o gF,ops[x]? =aqP o->ms (x+1)=(ms x).push gF->(ms z).aH (ms x).next=gF)/\(∀x,s<=x->x<z->(ms x).next<=(ms z).next/\(cu x=3->(ms x).next<(ms z).next))
 |z,bC,aE,ca=>by
  induction z with
  |zero=>
   have:s=0:=by omega
   subst this;exact ⟨fun _ _=>rfl,fun x h1 J=>by omega,fun x h1 J=>by omega⟩
  |succ z a8=>
   by_cases az:s=z+1
   ·subst az;exact ⟨fun _ _=>rfl,fun x h1 J=>by omega,fun x h1 J=>by omega⟩
   ·obtain ⟨h1,J,aj⟩:=a8 (by omega) (by omega) (fun e vv ap0=>ca e vv (by omega));have ah:ops[z]? =aqP ops[z]:=by simp[show z<ops.length by omega]
    have aw:=T.run z ops[z] ah;simp only[ara] at aw;have Mz:(ms s).next<=(ms z).next:=by
     by_cases e:s=z
     ·subst e;exact aq3 _
     ·exact (aj s (aq3 _) (by omega)).1
    have same:ms (z+1)=ms z->cu z≠3->(∀b,b<(ms s).next->(ms (z+1)).aH b=(ms s).aH b)/\(∀x,s<=x->x<z+1->cu x=3->∀o gF,ops[x]? =aqP o->ms (x+1)=(ms x).push gF->(ms (z+1)).aH (ms x).next=gF)/\(∀x,s<=x->x<z+1->(ms x).next<=(ms (z+1)).next/\(cu x=3->(ms x).next<(ms (z+1)).next)):=fun he hk=>⟨fun b aa=>by rw[he];exact h1 b aa,
     fun x tN lV iO o gF jo hm=>by
      by_cases e:x=z
      ·subst e;exact absurd iO hk
      ·rw[he];exact J x tN (by omega) iO o gF jo hm,
     fun x tN lV=>by
      rw[he];by_cases e:x=z
      ·subst e;exact ⟨aq3 _,fun iO=>absurd iO hk⟩
      ·exact aj x tN (by omega)⟩
    rcases aw with ⟨hk,_,ad,fB⟩|⟨hk,_,an,fB⟩|⟨hk,_,an,fB⟩|⟨hk,_,gF,an,fB⟩|⟨hk,_,an⟩
    ·exact same fB (by omega)
    ·exact same fB (by omega)
    ·exact same fB (by omega)
    ·refine ⟨fun b aa=> ?_,fun x tN lV iO o x2 jo hm=> ?_,fun x tN lV=> ?_⟩
     ·rw[fB,<-h1 b aa];simp only[Mem.push];rw[if_neg (by omega)]
     ·by_cases e:x=z
      ·subst e;rw[hm];simp[Mem.push]
      ·have aN:=(aj x tN (by omega)).2 iO;rw[fB,<-J x tN (by omega) iO o x2 jo hm];simp only[Mem.push];rw[if_neg (by omega)]
     ·by_cases e:x=z
      ·subst e;rw[fB];simp[Mem.push]
      ·have:=aj x tN (by omega);rw[fB];simp only[Mem.push];exact ⟨by omega,fun iO=>by have:=this.2 iO;omega⟩
    ·exact absurd hk (ca z (by omega) (by omega))
end Go.aS
end
section
namespace Go.aS
theorem Rel.place {P:aqV} {j:bq} {M:Mem} {w w':World} {df:Nat} {X:a6} {e:iL} {ob:Obj} (h:Rel P j M w) (aq:j df=aqS) (aa:df<M.next) (N:AD P j w w' X e ob):
  Rel P (j.up df e) (M.put df X) w':=by
 have hle:=bq.xq (e:=e) aq;have hold:∀c,c<w.heap.size->w'.heap[c]? =w.heap[c]? :=fun c ab=>by rw[N.heap,atV,if_neg (by omega)]
 have qI:w'.heap.size=w.heap.size+1:=by rw[N.heap];simp
 have iE:w'.heap[w.heap.size]? =aqP ob:=by rw[N.heap];simp
 have hblk:∀b,b≠df->(M.put df X).aH b=M.aH b:=fun b aa=>by simp[Mem.put,aa]
 have acV:(M.put df X).aH df=X:=by simp[Mem.put]
 have e5:∀b x,j.up df e b=aqP x->b≠df->j b=aqP x:=fun b x aa ca=>by simpa[bq.up,ca] using aa
 have pP:∀x,j.up df e df=aqP x->x=e:=fun x U=>by simpa[bq.up] using U.symm
 refine ⟨?_, ?_, ?_⟩
 ·intro b x ct;by_cases eL:b=df
  ·subst eL;have:=pP x ct;subst this;exact ⟨aa,by rw[N.aH];omega⟩
  ·have:=h.lt b x (e5 b x ct eL);exact ⟨this.1,by omega⟩
 ·intro b x ct;by_cases eL:b=df
  ·subst eL;have U:=pP x ct;subst U;rw[acV,N.aH,iE];exact N.obj.mono hle
  ·have lL:=e5 b x ct eL;rw[hblk b eL,hold _ (h.lt b x lL).2];exact (h.obj b x lL).mono hle
 ·intro b b2 x gX oP LP ah fh my;by_cases eL:b=df
  ·by_cases kh:b2=df
   ·rw[eL,kh]
   ·have U:x=e:=by subst eL;exact pP x oP
    have:=(h.lt b2 gX (e5 b2 gX LP kh)).2;rw[<-my,U,N.aH] at this;omega
  ·have lL:=e5 b x oP eL;by_cases kh:b2=df
   ·have U:gX=e:=by subst kh;exact pP gX LP
    have:=(h.lt b x lL).2;rw[my,U,N.aH] at this;omega
   ·rw[hblk b eL] at ah;rw[hblk b2 kh] at fh;exact h.inj b b2 x gX lL (e5 b2 gX LP kh) ah fh my
theorem aeI {P:aqV} {j:bq} {n:Nat} {vt:aqY} {cs:List aqR} {aV:aqR} (h:eA j (cZ (cT P vt) cs) aV) (ai:∀c∈cs,gD n c):eA (j.below n) (cZ (cT P vt) cs) aV:=by
 refine wj.2.1 h ?_;cases au:cT P vt with
 |true=>simpa[cZ,gT] using ai
 |false=>
  cases cs with
  |nil=>rw[au] at h;exact absurd h (by simp[cZ,eA,dy,undef])
  |cons c cs=>exact Gz (ai c (by simp))
theorem nM.below {P:aqV} {j:bq} {n:Nat} {e:iL} {o:Option Obj} {x:a6} (h:nM P j e o x) (ai:qN n x):nM P (j.below n) e o x:=by
 cases x with
 |dead=>trivial
 |ro rd=>intro i v ae;obtain ⟨cs,t,bg,aV,h1,J,aj⟩:=h i v ae;exact ⟨cs,t,bg,aV,h1,J,wj.1 aj (ai i v ae)⟩
 |own L t=>obtain ⟨cs,bg,h1,J,aj,aM,br,dt⟩:=h;refine ⟨cs,bg,h1,J,aj,aM,br,fun i v ae=> ?_⟩;obtain ⟨aV,g1,g2⟩:=dt i v ae;exact ⟨aV,g1,wj.1 g2 (ai v (aq7 ae))⟩
 |lock _ _ _ _=>exact h.elim
 |map L u=>
  obtain ⟨kt,vt,cs,clock,E,h1,J,aj,aM,br⟩:=h;have aT:∀p∈E,∀c∈p.2,gD n c:=fun p an c ab=>ai c (by rw[aj.eq];exact asz.2 ⟨p,an,by simp[ab]⟩);refine ⟨kt,vt,cs,clock,E,h1,J,aj, ?_,br⟩;clear h1 aj ai br;generalize cs.toList=cl at aM;induction E generalizing cl with
  |nil=>cases cl with
   |nil=>trivial
   |cons _ _=>exact aM.elim
  |cons p E a8=>
   cases cl with
   |nil=>exact aM.elim
   |cons x cl=>exact ⟨⟨aM.1.1,aM.1.2.1,aeI aM.1.2.2 (aT p (by simp))⟩,a8 (fun q aK=>aT q (by simp[aK])) cl aM.2⟩
theorem Rel.below {P:aqV} {j:bq} {M m:Mem} {w:World} (h:Rel P j M w) (cr:WF m) (au:∀b e,j b=aqP e->b<m.next->M.aH b=m.aH b):Rel P (j.below m.next) m w:=by
 refine ⟨?_, ?_, ?_⟩
 ·intro b e aa;obtain ⟨h1,J⟩:=o5 aa;exact ⟨h1,(h.lt b e J).2⟩
 ·intro b e aa;obtain ⟨h1,J⟩:=o5 aa;rw[<-au b e J h1];exact (h.obj b e J).below (by rw[au b e J h1];exact cr.low b)
 ·intro b b2 e bw aa ct ah ai kL;obtain ⟨h1,J⟩:=o5 aa;obtain ⟨iX,gi⟩:=o5 ct;exact h.inj b b2 e bw J gi (by rw[au b e J h1];exact ah) (by rw[au b2 bw gi iX];exact ai) kL
def bq.join (gv:bq) (n:Nat) (j:bq):bq:=fun b=>if b<n then gv b else j b
def Mem.join (m1:Mem) (M:Mem):Mem:={next:=M.next,aH:=fun b=>if b<m1.next then m1.aH b else M.aH b}
theorem Rel.join {P:aqV} {j gv:bq} {M m m1:Mem} {w w':World} (h:Rel P j M w) (au:∀b e,j b=aqP e->b<m.next->M.aH b=m.aH b) (p:Post P (j.below m.next) m w gv m1 w')
  (aG:∀b e,j b=aqP e->b<m.next\/m1.next<=b) (Fb:m1.next<=M.next):
  Rel P (gv.join m1.next j) (m1.join M) w'/\(∀b e,j b=aqP e->gv.join m1.next j b=aqP e)/\(∀b e,gv b=aqP e->gv.join m1.next j b=aqP e):=by
 have aq:=p.next;have zY:∀b e,gv b=aqP e->gv.join m1.next j b=aqP e:=fun b e aa=>by have:=(p.rel.lt b e aa).1;simp[bq.join,this,aa]
 have U9:∀b,b<m.next->gv b=j b:=fun b aa=>by rw[p.ext b aa];simp[bq.below,aa]
 have up:∀b e,j b=aqP e->gv.join m1.next j b=aqP e:=fun b e aa=>by
  rcases aG b e aa with h1|h1
  ·simp[bq.join,show b<m1.next by omega,U9 b h1,aa]
  ·simp[bq.join,show ¬b<m1.next by omega,aa]
 have split:∀b e,gv.join m1.next j b=aqP e->(b<m1.next/\gv b=aqP e)\/(m1.next<=b/\j b=aqP e):=fun b e aa=>by
  unfold bq.join at aa;split at aa
  ·exact .inl ⟨‹_›,aa⟩
  ·exact .inr ⟨by omega,aa⟩
 have A0:∀b,b<m1.next->(m1.join M).aH b=m1.aH b:=fun b aa=>by simp[Mem.join,aa]
 have A1:∀b,m1.next<=b->(m1.join M).aH b=M.aH b:=fun b aa=>by simp[Mem.join,show ¬b<m1.next by omega]
 have A8:∀b e,j b=aqP e->m1.next<=b->(M.aH b).live=aqQ->w'.heap[e.aH]? =w.heap[e.aH]? :=fun b e aa e4 ai=>by refine p.ec.block e.aH (h.lt b e aa).2 fun df dA hY ah he=> ?_;obtain ⟨h1,J⟩:=o5 hY;have:=h.inj df b dA e J aa (by rw[au df dA J h1];exact ah) ai he;omega
 refine ⟨⟨?_, ?_, ?_⟩,up,zY⟩
 ·intro b e aa;rcases split b e aa with ⟨h1,J⟩|⟨h1,J⟩
  ·exact ⟨by simp only[Mem.join];omega,(p.rel.lt b e J).2⟩
  ·have:=h.lt b e J;exact ⟨this.1,aro this.2 p.ec.size⟩
 ·intro b e aa;rcases split b e aa with ⟨h1,J⟩|⟨h1,J⟩
  ·rw[A0 b h1];exact (p.rel.obj b e J).mono zY
  ·rw[A1 b h1];cases ai:(M.aH b).live with
   |false=>
    cases aa:M.aH b<;>simp[aa,a6.live] at ai
    trivial
   |true=>rw[A8 b e J h1 ai];exact (h.obj b e J).mono up
 ·
  have TD:∀b b2 e bw,b<m1.next->gv b=aqP e->m1.next<=b2->j b2=aqP bw->(M.aH b2).live=aqQ->(((m1.aH b).hK=aqQ)\/((M.aH b2).hK=aqQ/\(m1.aH b).live=aqQ))->e.aH≠bw.aH:=by
   intro b b2 e bw h1 J iX gi fh Mq kL;rcases arK b m.next with aN|e4
   ·have lL:j b=aqP e:=by rw[<-U9 b aN];exact J
    have Bl:b=b2:=by
     rcases Mq with ah|⟨ig,ai⟩
     ·exact h.inj b b2 e bw lL gi (by rw[au b e lL aN];exact p.dg b aN ah) fh kL
     ·exact (h.inj b2 b bw e gi lL ig (by rw[au b e lL aN];exact p.alive b aN ai) kL.symm).symm
    omega
   ·rcases p.fresh b e J e4 with aP|⟨df,dA,hY,qE,rI⟩
    ·have:=(h.lt b2 bw gi).2;omega
    ·obtain ⟨g1,g2⟩:=o5 hY;have:=h.inj df b2 dA bw g2 gi (by rw[au df dA g2 g1];exact qE) fh (by rw[rI,kL]);omega
  intro b b2 e bw aa ct ah ai kL;rcases split b e aa with ⟨h1,J⟩|⟨h1,J⟩<;>rcases split b2 bw ct with ⟨iX,gi⟩|⟨iX,gi⟩
  ·rw[A0 b h1] at ah;rw[A0 b2 iX] at ai;exact p.rel.inj b b2 e bw J gi ah ai kL
  ·rw[A0 b h1] at ah;rw[A1 b2 iX] at ai;exact absurd kL (TD b b2 e bw h1 J iX gi ai (.inl ah))
  ·rw[A1 b h1] at ah;rw[A0 b2 iX] at ai;have kl:(M.aH b).live=aqQ:=by cases hm:M.aH b<;>simp[hm,a6.hK,a6.live] at*
   exact absurd kL.symm (TD b2 b bw e iX gi h1 J kl (.inr ⟨ah,ai⟩))
  ·rw[A1 b h1] at ah;rw[A1 b2 iX] at ai;exact h.inj b b2 e bw J gi ah ai kL
end Go.aS
end
section
namespace Go.aS
structure Ctx (P:aqV) (C:FuncId->Array aqR->Mem->aqR->Mem->Prop) (ops:Array Oper) (N:Nat) (bc:Nat->Nat->aqR) (ms:Nat->Mem) (vs:Nat->aqR) (cu:Nat->Nat) (et:bq) (de:World):Prop where
 T:jD P C ops.toList (arF ops) 0 ops.toList bc ms vs cu
 ok:uj ops=aqQ
 FW:∀o∈ops.toList,∀x∈o.op.operands,ku x=aqQ
 dst:∀o∈ops.toList,∀d,o.dst=aqP d->d<N
 keeps:pa C
 sound:zr P C
 dj:Rel P et (ms 0) de
 z7:WF (ms 0)
 gD:∀t,low (ms 0).next (bc 0 t)
structure gg (P:aqV) (ops:Array Oper) (N:Nat) (bc:Nat->Nat->aqR) (ms:Nat->Mem) (vs:Nat->aqR) (cu:Nat->Nat) (et:bq) (de:World) (cX:Array Bool) (a:Act) (w:World) (s:Nat) (M:Mem) (j:bq):Prop where
 size:cX.size=ops.size
 closed:Ha ops (fun i=>cX.getD i aqT=aqQ)
 sle:s<=ops.size
 last:s=0\/cu (s - 1)=4
 gM:∀i,i<ops.size->cu i=4->(cX.getD i aqT=aqQ↔i<s)
 rel:Rel P j M w
 AZ:M.next=(ms ops.size).next
 agree:∀b,b<(ms s).next->M.aH b=(ms s).aH b
 EG:∀b e,j b=aqP e->b<(ms s).next\/∃i,s<=i/\i<ops.size/\cX.getD i aqT=aqQ/\cu i=3/\b=(ms i).next
 xp:∀i,i<ops.size->cu i=3->cX.getD i aqT=aqT->j (ms i).next=aqS
 EM:∀i,s<=i->i<ops.size->cX.getD i aqT=aqQ->cu i=3->∀gF,ms (i+1)=(ms i).push gF->M.aH (ms i).next=gF
 defers:a.defers=[]
 tmps:a.tmps.size=N
 cur:∀t,(∃i o,ops[i]? =aqP o/\cX.getD i aqT=aqQ/\o.dst=aqP t/\(∀x p,i<x->ops[x]? =aqP p->cX.getD x aqT=aqQ->p.dst≠aqP t)/\b9 j (vs i) (a.tmps.getD t undef))\/
  ((∀x p,ops[x]? =aqP p->cX.getD x aqT=aqQ->p.dst≠aqP t)/\b9 j (bc 0 t) (a.tmps.getD t undef))
 ec:u1 et (ms 0) de w
 ext:∀b,b<(ms 0).next->j b=et b
 fresh:∀b e,j b=aqP e->(ms 0).next<=b->de.heap.size<=e.aH\/∃df dA,et df=aqP dA/\((ms 0).aH df).hK=aqQ/\dA.aH=e.aH
 dg:∀b,b<(ms 0).next->(M.aH b).hK=aqQ->((ms 0).aH b).hK=aqQ
 alive:∀b,b<(ms 0).next->(M.aH b).live=aqQ->((ms 0).aH b).live=aqQ
section
variable {P:aqV} {C:FuncId->Array aqR->Mem->aqR->Mem->Prop} {ops:Array Oper} {N:Nat} {bc:Nat->Nat->aqR} {ms:Nat->Mem} {vs:Nat->aqR} {cu:Nat->Nat} {et:bq} {de:World}
theorem Ctx.wf (X:Ctx P C ops N bc ms vs cu et de):∀i,i<=ops.size->WF (ms i)/\(∀t,low (ms i).next (bc i t)):=fun i ae=>by
 have:=N2 X.T X.keeps X.FW X.z7 X.gD i (by simpa using ae);exact ⟨this.1,this.2.1⟩
theorem Ctx.mono (X:Ctx P C ops N bc ms vs cu et de):∀a b,a<=b->b<=ops.size->(ms a).next<=(ms b).next:=fun a b h1 J=>by
 have:=N2 X.T X.keeps X.FW X.z7 X.gD ops.size (by simp);exact We this.2.2 b a h1 J
theorem Ctx.run (X:Ctx P C ops N bc ms vs cu et de) {i:Nat} {o:Oper} (ah:ops[i]? =aqP o):PF P C ops.toList o (bc i) (ms i) (vs i) (ms (i+1)) (cu i):=by
 have:=X.T.run i o (by simpa using ah);simpa using this
theorem Ctx.new (X:Ctx P C ops N bc ms vs cu et de) {i:Nat} (ae:i<ops.size) (hk:cu i=3):∃o gF,ops[i]? =aqP o/\hW P (aJ (bc i)) o (ms i).next gF (vs i)/\ms (i+1)=(ms i).push gF:=by
 have ah:ops[i]? =aqP ops[i]:=by simp[ae]
 rcases X.run ah with ⟨iO,_⟩|⟨iO,_⟩|⟨iO,_⟩|⟨_,_,gF,an,hm⟩|⟨iO,_⟩
 ·omega
 ·omega
 ·omega
 ·exact ⟨_,gF,ah,an,hm⟩
 ·omega
theorem Ctx.B9 (X:Ctx P C ops N bc ms vs cu et de) {i:Nat} (ae:i<ops.size) (hk:cu i=3):(ms i).next<(ms (i+1)).next:=by
 obtain ⟨o,gF,_,_,hm⟩:=X.new ae hk;rw[hm];simp[Mem.push]
theorem NN {af:aqX->aqR} {o:Oper} {m m':Mem} {v:aqR} (h:gE P C af o m v m'):iI o.op=aqQ:=by
 cases h with
 |call f args v m' h bO=>obtain ⟨x,as,ts,first,captured,h,_⟩:=h;simp[h,iI]
 |mapUpdate gz x ij ix u kt vt b L bQ vc E E' fg h=>rcases h with h|h<;>simp[h,iI]
 |_=>rename_i h _ _ _ _ _;first|simp[*,iI]|skip
 all_goals simp[*,iI]
theorem Ctx.U5 (X:Ctx P C ops N bc ms vs cu et de) {i:Nat} {o:Oper} (ah:ops[i]? =aqP o) (hk:cu i=4):iI o.op=aqQ:=by
 rcases X.run ah with ⟨iO,_⟩|⟨iO,_⟩|⟨iO,_⟩|⟨iO,_⟩|⟨_,_,an⟩
 ·omega
 ·omega
 ·omega
 ·omega
 ·exact NN an
variable {cX:Array Bool} {a:Act} {w:World} {s:Nat} {M:Mem} {j:bq}
theorem gg.JC (X:Ctx P C ops N bc ms vs cu et de) (D:gg P ops N bc ms vs cu et de cX a w s M j) {z:Nat} (bC:s<=z) (aE:z<=ops.size) (ca:∀e,s<=e->e<z->cu e≠4):
  ∀b e,j b=aqP e->b<(ms z).next->M.aH b=(ms z).aH b:=by
 obtain ⟨g1,g2,g3⟩:=Gf X.T z bC (by simpa using aE) ca;intro b e aa aN;rcases arK b (ms s).next with h|h
 ·rw[D.agree b h,g1 b h]
 ·rcases D.EG b e aa with cp|⟨i,h1,J,aj,aM,rfl⟩
  ·omega
  ·have ab':i<z:=by
    rcases arK i z with h|h
    ·exact h
    ·have:=X.mono z i h (by omega);omega
   obtain ⟨o,gF,ah,_,hm⟩:=X.new J aM;rw[D.EM i h1 J aj aM gF hm,g2 i h1 ab' aM o gF (by simpa using ah) hm]
theorem gg.nA (X:Ctx P C ops N bc ms vs cu et de) (D:gg P ops N bc ms vs cu et de cX a w s M j) {z:Nat} (bC:s<=z) (aE:z<=ops.size) (ca:∀e,s<=e->e<z->cu e≠4):th P j (ms z) w:=by
 have ey:=D.JC X bC aE ca;have cr:=(X.wf z aE).1;have aw:=D.rel.nA;refine ⟨fun b e o v aa ad=> ?_,fun b e L t aa ai=> ?_,fun b e L u aa ai=> ?_⟩
 ·have aN:b<(ms z).next:=cr.lt (by intro aB;simp[Mem.load,aB] at ad);refine aw.load b e o v aa ?_;unfold Mem.load at ad⊢;rw[ey b e aa aN];exact ad
 ·have aN:b<(ms z).next:=cr.lt (by rw[ai];simp);exact aw.own b e L t aa (by rw[ey b e aa aN];exact ai)
 ·have aN:b<(ms z).next:=cr.lt (by rw[ai];simp);exact aw.map b e L u aa (by rw[ey b e aa aN];exact ai)
structure lF (ops:Array Oper) (cX:Array Bool) (i:Nat) (o:Oper):Prop where
 at_:ops[i]? =aqP o
 not:cX.getD i aqT=aqT
 TH:∀e∈o.after,asH .any e=aqQ->cX.getD e.on aqT=aqQ
theorem lF.fe (D:gg P ops N bc ms vs cu et de cX a w s M j) {i:Nat} {o:Oper} (R:lF ops cX i o) {x:Nat} (h:aS.fe (arF ops) i x=aqQ):cX.getD x aqT=aqQ:=
 Wi h D.closed fun o' ig=>by rw[R.at_] at ig;cases ig;exact R.TH
theorem gg.JD (D:gg P ops N bc ms vs cu et de cX a w s M j) {i x:Nat} (ae:cX.getD i aqT=aqQ) (h:aS.fe (arF ops) i x=aqQ):cX.getD x aqT=aqQ:=
 Wi h D.closed fun o' ig=>D.closed i o' ae ig
theorem lF.ZT (X:Ctx P C ops N bc ms vs cu et de) (D:gg P ops N bc ms vs cu et de cX a w s M j) {i:Nat} {o:Oper} (R:lF ops cX i o) {t:Nat} (ao:t∈uc ops o) {x:Nat} {p:Oper} (an:ops[x]? =aqP p) (aB:p.dst=aqP t):
  (cX.getD x aqT=aqQ↔x<i)\/x=i:=by
 rcases asA x i with h|h|h
 ·left;refine ⟨fun _=>h,fun _=> ?_⟩;refine R.fe D (Nq X.ok R.at_ an h ?_);simp[rA,aB,ao]
 ·exact .inr h
 ·left;refine ⟨fun ai=> ?_,fun cp=>by omega⟩;have:cX.getD i aqT=aqQ:=D.JD ai (Nq X.ok an R.at_ h (by simp[rA,aB,ao]));rw[R.not] at this;cases this
theorem gg.slot (X:Ctx P C ops N bc ms vs cu et de) (D:gg P ops N bc ms vs cu et de cX a w s M j) {i:Nat} {o:Oper} (R:lF ops cX i o) {t:Nat} (ao:t∈uc ops o):b9 j (bc i t) (a.tmps.getD t undef):=by
 have ae:i<ops.size:=(ar2.1 R.at_).1;have hw:=fun {x:Nat} {p:Oper} (an:ops[x]? =aqP p) (aB:p.dst=aqP t)=>R.ZT X D ao an aB;have pP:∀{x:Nat},x=i->cX.getD x aqT=aqQ->False:=fun U ai=>by subst U;rw[R.not] at ai;cases ai
 rcases Ns X.T t i (by simpa using arU ae) with ⟨x,p,h1,J,aj,aM,br⟩|⟨h1,J⟩
 ·have gi:ops[x]? =aqP p:=by simpa using J
  have tC:cX.getD x aqT=aqQ:=by
   rcases hw gi aj with h|h
   ·exact h.2 h1
   ·omega
  rcases D.cur t with ⟨y,q,g1,g2,g3,g4,g5⟩|⟨g1,_⟩
  ·have B1:y<i:=by
    rcases hw g1 g3 with h|h
    ·exact h.1 g2
    ·exact (pP h g2).elim
   have:y=x:=by
    rcases asA y x with h|h|h
    ·exact absurd aj (g4 x p h gi tC)
    ·exact h
    ·exact absurd g3 (br y q h B1 (by simpa using g1))
   subst this;rw[aM];exact g5
  ·exact absurd aj (g1 x p gi tC)
 ·rcases D.cur t with ⟨y,q,g1,g2,g3,g4,g5⟩|⟨_,g2⟩
  ·rcases hw g1 g3 with h|h
   ·exact absurd g3 (h1 y q (h.1 g2) (by simpa using g1))
   ·exact (pP h g2).elim
  ·rw[J];exact g2
theorem Pe {fr:Nat->aqR} {a:Act} {j:bq} {x:aqX} (U:ku x=aqQ) (h:∀t,x= .tmp t->b9 j (fr t) (a.tmps.getD t undef)):b9 j (aJ fr x) (a.eval x):=by
 cases x with
 |tmp t=>exact h t rfl
 |const v=>exact Gl U
 |global g=>simp[ku] at U
 |func f=>exact ⟨#[],#[],rfl,arb,arb⟩
theorem gg.aeb (X:Ctx P C ops N bc ms vs cu et de) (D:gg P ops N bc ms vs cu et de cX a w s M j) {i:Nat} {o:Oper} (R:lF ops cX i o):hG j (aJ (bc i)) a.eval o:=by
 intro x U;have hm:o∈ops.toList:=by have:=as0 R.at_;simpa using this
 refine Pe (X.FW o hm x U) fun t ao=>D.slot X R ?_;subst ao;simp only[uc,arc,List.mem_filterMap];exact .inl (.inl ⟨.tmp t,by simpa using U,rfl⟩)
theorem Wg {j:bq} {v aV:aqR} (h:b9 j v aV) (aa:∀b,v≠ .bool b):∀b,aV≠ .bool b:=by
 intro b fO;subst fO;cases v with
 |bool b2=>exact aa b2 rfl
 |pointer q=>cases q with
  |none=>cases h
  |some q=>obtain ⟨e,_,_,h⟩:=h;cases h
 |slice q l c=>cases q with
  |none=>cases h
  |some q=>obtain ⟨e,_,_,h⟩:=h;rcases h with ⟨_,h⟩|⟨_,_,_,_,_,_,h⟩|⟨_,_,_,h⟩|⟨_,_,_,h⟩<;>cases h
 |map r=>cases r with
  |none=>cases h
  |some r=>obtain ⟨e,_,h⟩:=h;cases h
 |agg cs=>obtain ⟨ds,h,_⟩:=h;cases h
 |tuple cs=>obtain ⟨ds,h,_⟩:=h;cases h
 |func fn f c=>obtain ⟨ds,es,h,_⟩:=h;cases h
 |chan _=>exact h b rfl
 |iface _ _=>exact h
 |_=>cases h
theorem W0 {ops:Array Oper} {N:Nat} {fr:Nat->aqR} {a:Act} {j:bq} {o:Oper} (bi:a.tmps.size=N) (qA:∀p∈ops.toList,∀d,p.dst=aqP d->d<N) (h:∀g w d,o.guard=aqP (g,w)->(ops[g]?).bind (·.dst)=aqP d->b9 j (fr d) (a.tmps.getD d undef)):
  atD o (yielded ops a.tmps)=wanted ops.toList fr o:=by
 unfold atD wanted;cases aG:o.guard with
 |none=>rfl
 |some aa4=>
  obtain ⟨g,want⟩:=aa4;simp only[yielded,asZ];cases aB:(ops[g]?).bind (·.dst) with
  |none=>simp
  |some d=>
   have ad:=h g want d aG aB;have aN:d<a.tmps.size:=by
    rw[bi];cases an:ops[g]? with
    |none=>simp[an] at aB
    |some p=>simp[an] at aB;exact qA p (by have:=as0 an;simpa using this) d aB
   have Fg:a.tmps[d]? =aqP (a.tmps.getD d undef):=by simp[asV,aN]
   simp only[Option.bind_some,Fg];by_cases aa:∃b,fr d= .bool b
   ·obtain ⟨b,aa⟩:=aa;rw[aa] at ad;rw[aa,ad.bool];simp
   ·have ct:∀b,fr d≠ .bool b:=fun b h=>aa ⟨b,h⟩;have ab:=Wg ad ct;cases abW:fr d<;>first|exact absurd abW (ct _)|(cases tz:a.tmps.getD d undef<;>first|exact absurd tz (ab _)|rfl)
theorem gg.wanted (X:Ctx P C ops N bc ms vs cu et de) (D:gg P ops N bc ms vs cu et de cX a w s M j) {i:Nat} {o:Oper} (R:lF ops cX i o):atD o (yielded ops a.tmps)=aS.wanted ops.toList (bc i) o:=by
 refine W0 D.tmps X.dst fun g aqE d aG aB=>D.slot X R ?_;simp only[uc,arc,aG,aB];exact .inl (.inr (by simp))
end
end Go.aS
end
section
namespace Go.aS
theorem j7 {A:Array Bool} {i x:Nat} (ae:i<A.size):((A.setIfInBounds i aqQ).getD x aqT=aqQ)↔(x=i\/A.getD x aqT=aqQ):=by
 simp only[asV,Array.size_setIfInBounds];by_cases U:x<A.size
 ·simp only[U,dite_true];by_cases vM:x=i
  ·subst vM;simp
  ·simp[aus,U,Ne.symm vM,vM]
 ·simp only[U,dite_false];constructor
  ·intro h;cases h
  ·rintro (h|h)
   ·omega
   ·cases h
theorem F4 {A:Array Bool} {i x:Nat} (ae:i<A.size) (h:(A.setIfInBounds i aqQ).getD x aqT=aqT):x≠i/\A.getD x aqT=aqT:=by
 refine ⟨fun U=> ?_, ?_⟩
 ·have:=(j7 (A:=A) (x:=x) ae).2 (.inl U);rw[h] at this;cases this
 ·cases ey:A.getD x aqT with
  |false=>rfl
  |true=>have:=(j7 (A:=A) (x:=x) ae).2 (.inr ey);rw[h] at this;cases this
theorem fS {a:Act} {d:Option Tmp} {v:aqR}:(a.put d v).tmps.size=a.tmps.size/\(a.put d v).defers=a.defers:=by
 cases d<;>simp[Act.put]
theorem GU {a:Act} {d t:Nat} {v:aqR} (aB:d<a.tmps.size):(a.put (aqP d) v).tmps.getD t undef=if t=d then v else a.tmps.getD t undef:=by
 simp only[Act.put,asV,Array.size_setIfInBounds];by_cases ao:t=d
 ·subst ao;simp[aB]
 ·by_cases az:t<a.tmps.size
  ·simp[az,aus,Ne.symm ao,ao]
  ·simp[az,ao]
section
variable {P:aqV} {C:FuncId->Array aqR->Mem->aqR->Mem->Prop} {ops:Array Oper} {N:Nat} {bc:Nat->Nat->aqR} {ms:Nat->Mem} {vs:Nat->aqR} {cu:Nat->Nat} {et:bq} {de:World}
variable {cX:Array Bool} {a:Act} {w:World} {s:Nat} {M:Mem} {j:bq}
theorem lF.lt {i:Nat} {o:Oper} (R:lF ops cX i o):i<ops.size:=(ar2.1 R.at_).1
theorem gg.JO (D:gg P ops N bc ms vs cu et de cX a w s M j) {i:Nat} {o:Oper} (R:lF ops cX i o):Ha ops (fun x=>(cX.setIfInBounds i aqQ).getD x aqT=aqQ):=by
 have ae:i<cX.size:=by rw[D.size];exact R.lt
 intro x p U an e he aa;refine (j7 ae).2 (.inr ?_);rcases (j7 ae).1 U with rfl|U
 ·rw[R.at_] at an;cases an;exact R.TH e he aa
 ·exact D.closed x p U an e he aa
theorem gg.JR (X:Ctx P C ops N bc ms vs cu et de) (D:gg P ops N bc ms vs cu et de cX a w s M j) {i:Nat} {o:Oper} (R:lF ops cX i o) {bT:bq} (e5:∀b e,j b=aqP e->bT b=aqP e) {aV:aqR} (ad:b9 bT (vs i) aV):
  ∀t,(∃x p,ops[x]? =aqP p/\(cX.setIfInBounds i aqQ).getD x aqT=aqQ/\p.dst=aqP t/\(∀y q,x<y->ops[y]? =aqP q->(cX.setIfInBounds i aqQ).getD y aqT=aqQ->q.dst≠aqP t)/\b9 bT (vs x) ((a.put o.dst aV).tmps.getD t undef))\/
  ((∀x p,ops[x]? =aqP p->(cX.setIfInBounds i aqQ).getD x aqT=aqQ->p.dst≠aqP t)/\b9 bT (bc 0 t) ((a.put o.dst aV).tmps.getD t undef)):=by
 have ae:i<cX.size:=by rw[D.size];exact R.lt
 have hJ:o∈ops.toList:=by have:=as0 R.at_;simpa using this
 intro t;by_cases aB:o.dst=aqP t
 ·left;refine ⟨i,o,R.at_,(j7 ae).2 (.inl rfl),aB,fun y q ag aK ai vI=> ?_, ?_⟩
  ·rcases (j7 ae).1 ai with h|h
   ·omega
   ·have ao:t∈uc ops o:=by simp[uc,aB]
    rcases R.ZT X D ao aK vI with cp|cp
    ·have:=cp.1 h;omega
    ·omega
  ·have aN:t<a.tmps.size:=by rw[D.tmps];exact X.dst o hJ t aB
   rw[aB,GU aN,if_pos rfl];exact ad
 ·have vK:(a.put o.dst aV).tmps.getD t undef=a.tmps.getD t undef:=by
   cases jL:o.dst with
   |none=>rfl
   |some d=>
    have aN:d<a.tmps.size:=by rw[D.tmps];exact X.dst o hJ d jL
    have:t≠d:=by intro h;subst h;exact aB jL
    rw[GU aN,if_neg this]
  rw[vK];rcases D.cur t with ⟨x,p,g1,g2,g3,g4,g5⟩|⟨g1,g2⟩
  ·left;refine ⟨x,p,g1,(j7 ae).2 (.inr g2),g3,fun y q ag aK ai=> ?_,g5.mono e5⟩;rcases (j7 ae).1 ai with h|h
   ·subst h;rw[R.at_] at aK;cases aK;exact aB
   ·exact g4 y q ag aK h
  ·right;refine ⟨fun y q aK ai=> ?_,g2.mono e5⟩;rcases (j7 ae).1 ai with h|h
   ·subst h;rw[R.at_] at aK;cases aK;exact aB
   ·exact g1 y q aK h
theorem gg.quiet (X:Ctx P C ops N bc ms vs cu et de) (D:gg P ops N bc ms vs cu et de cX a w s M j) {i:Nat} {o:Oper} (R:lF ops cX i o) (BB:cu i≠3) (Ma:cu i≠4) {aV:aqR} (ad:b9 j (vs i) aV):
  gg P ops N bc ms vs cu et de (cX.setIfInBounds i aqQ) (a.put o.dst aV) w s M j:=by
 have ae:i<cX.size:=by rw[D.size];exact R.lt
 refine ⟨by simp[D.size],D.JO R,D.sle,D.last, ?_,D.rel,D.AZ,D.agree, ?_, ?_, ?_,by rw[fS.2];exact D.defers,by rw[fS.1];exact D.tmps,D.JR X R (fun _ _ h=>h) ad,D.ec,D.ext,D.fresh,D.dg,D.alive⟩
 ·intro x U hk;rw[j7 ae,<-D.gM x U hk];constructor
  ·rintro (h|h)
   ·subst h;exact absurd hk Ma
   ·exact h
  ·exact .inr
 ·intro b e aa;rcases D.EG b e aa with h|⟨x,h1,J,aj,aM,br⟩
  ·exact .inl h
  ·exact .inr ⟨x,h1,J,(j7 ae).2 (.inr aj),aM,br⟩
 ·intro x U hk ai;exact D.xp x U hk (F4 ae ai).2
 ·intro x h1 J aj aM;rcases (j7 ae).1 aj with h|h
  ·subst h;exact absurd aM BB
  ·exact D.EM x h1 J h aM
theorem gg.seen (X:Ctx P C ops N bc ms vs cu et de) (D:gg P ops N bc ms vs cu et de cX a w s M j) {i:Nat} {o:Oper} (R:lF ops cX i o) (hk:cu i=3) {gF:a6} (hm:ms (i+1)=(ms i).push gF):
  ∀n,i<n->n<=s->(ms n).aH (ms i).next=gF:=by
 intro n;induction n with
 |zero=>intro h;omega
 |succ n a8=>
  intro h1 J;have az:=D.sle;by_cases fz:n=i
  ·subst fz;rw[hm];simp[Mem.push]
  ·have BQ:=a8 (by omega) (by omega);have aq:n<ops.size:=by omega
   have ah:ops[n]? =aqP ops[n]:=by simp[aq]
   have aN:(ms i).next<(ms n).next:=aro (X.B9 R.lt hk) (X.mono (i+1) n (by omega) (by omega));rcases X.run ah with ⟨_,_,_,fB⟩|⟨_,_,_,fB⟩|⟨_,_,_,fB⟩|⟨_,_,x2,_,fB⟩|⟨rM,_,an⟩
   ·rw[fB];exact BQ
   ·rw[fB];exact BQ
   ·rw[fB];exact BQ
   ·rw[fB];simp only[Mem.push];rw[if_neg (by omega)];exact BQ
   ·have Uv:cX.getD n aqT=aqQ:=(D.gM n aq rM).2 (by omega);have fW:fe (arF ops) n i=aqT:=by
     cases ey:fe (arF ops) n i with
     |false=>rfl
     |true=>have:=D.JD Uv ey;rw[R.not] at this;cases this
    have:=X.T.news i n (by simpa using R.lt) (by simpa using hk) (by simpa using aq) (by simpa using rM) (by omega) (by simpa using fW);simp only[ara] at this;rw[this];exact BQ
theorem gg.aaU (X:Ctx P C ops N bc ms vs cu et de) (D:gg P ops N bc ms vs cu et de cX a w s M j) {i:Nat} {o:Oper} (R:lF ops cX i o) (hk:cu i=3) {gF:a6} (hm:ms (i+1)=(ms i).push gF)
  {w':World} {e:iL} {ob:Obj} (va:AD P j w w' gF e ob) {aV:aqR} (ad:b9 (j.up (ms i).next e) (vs i) aV):
  gg P ops N bc ms vs cu et de (cX.setIfInBounds i aqQ) (a.put o.dst aV) w' s (M.put (ms i).next gF) (j.up (ms i).next e):=by
 have ae:i<cX.size:=by rw[D.size];exact R.lt
 have Uj:=D.xp i R.lt hk R.not;have hle:=bq.xq (e:=e) Uj;have aN:=X.B9 R.lt hk;have Fb:(ms i).next<M.next:=by rw[D.AZ];exact aro aN (X.mono (i+1) ops.size R.lt (aq3 _))
 have aI:(ms 0).next<=(ms i).next:=X.mono 0 i (ar7 _) (arU R.lt);have e5:∀b x,j.up (ms i).next e b=aqP x->b≠(ms i).next->j b=aqP x:=fun b x aa ca=>by simpa[bq.up,ca] using aa
 have hblk:∀b,b≠(ms i).next->(M.put (ms i).next gF).aH b=M.aH b:=fun b aa=>by simp[Mem.put,aa]
 have distinct:∀x,x<ops.size->cu x=3->x≠i->(ms x).next≠(ms i).next:=by
  intro x U jn ca he;rcases arK x i with h|h
  ·have:=X.B9 U jn;have:=X.mono (x+1) i (by omega) (arU R.lt);omega
  ·have:=X.mono (i+1) x (by omega) (arU U);omega
 refine ⟨by simp[D.size],D.JO R,D.sle,D.last, ?_,D.rel.place Uj Fb va,D.AZ, ?_, ?_, ?_, ?_,by rw[fS.2];exact D.defers,by rw[fS.1];exact D.tmps,D.JR X R hle ad, ?_, ?_, ?_, ?_, ?_⟩
 ·intro x U jn;rw[j7 ae,<-D.gM x U jn];constructor
  ·rintro (h|h)
   ·subst h;omega
   ·exact h
  ·exact .inr
 ·intro b aa;by_cases nT:b=(ms i).next
  ·subst nT;have Fh:i<s:=by
    rcases arK i s with h|h
    ·exact h
    ·have:=X.mono s i h (arU R.lt);omega
   rw[D.seen X R hk hm s Fh (aq3 _)];simp[Mem.put]
  ·rw[hblk b nT];exact D.agree b aa
 ·intro b x aa;by_cases nT:b=(ms i).next
  ·subst nT;rcases arK (ms i).next (ms s).next with h|h
   ·exact .inl h
   ·right;refine ⟨i, ?_,R.lt,(j7 ae).2 (.inl rfl),hk,rfl⟩;rcases arK i s with cp|cp
    ·have:=X.mono (i+1) s cp D.sle;omega
    ·exact cp
  ·rcases D.EG b x (e5 b x aa nT) with h|⟨y,h1,J,aj,aM,br⟩
   ·exact .inl h
   ·exact .inr ⟨y,h1,J,(j7 ae).2 (.inr aj),aM,br⟩
 ·intro x U jn ai;obtain ⟨h1,J⟩:=F4 ae ai;have:=distinct x U jn h1;simp only[bq.up,this,if_false];exact D.xp x U jn J
 ·intro x h1 J aj aM x2 gB;by_cases vM:x=i
  ·subst vM;have abz:x2=gF:=by
    have aX:(ms (x+1)).aH (ms x).next=x2:=by rw[gB];simp[Mem.push]
    have e2:(ms (x+1)).aH (ms x).next=gF:=by rw[hm];simp[Mem.push]
    rw[<-aX,e2]
   rw[abz];simp[Mem.put]
  ·rw[hblk _ (distinct x J aM vM)];rcases (j7 ae).1 aj with h|h
   ·exact absurd h vM
   ·exact D.EM x h1 J h aM x2 gB
 ·have hold:∀c,c<w.heap.size->w'.heap[c]? =w.heap[c]? :=fun c ab=>by rw[va.heap,atV,if_neg (by omega)]
  exact ⟨va.os.trans D.ec.os,va.tape.trans D.ec.tape,va.output.trans D.ec.output,by rw[va.heap];simp;have:=D.ec.size;omega,fun c ab ax=>by
   rw[hold c (aro ab D.ec.size)];exact D.ec.block c ab ax⟩
 ·intro b aa;simp only[bq.up,show b≠(ms i).next by omega,if_false];exact D.ext b aa
 ·intro b x aa e4;by_cases nT:b=(ms i).next
  ·subst nT;have U:x=e:=by simpa[bq.up] using aa.symm
   subst U;exact .inl (by rw[va.aH];exact D.ec.size)
  ·exact D.fresh b x (e5 b x aa nT) e4
 ·intro b aa ah;rw[hblk b (by omega)] at ah;exact D.dg b aa ah
 ·intro b aa ah;rw[hblk b (by omega)] at ah;exact D.alive b aa ah
theorem gg.e3 (X:Ctx P C ops N bc ms vs cu et de) (D:gg P ops N bc ms vs cu et de cX a w s M j) {i:Nat} {o:Oper} (R:lF ops cX i o) (hk:cu i=4):
  s<=i/\(∀e,s<=e->e<i->cu e≠4)/\Rel P (j.below (ms i).next) (ms i) w/\
  ∀{w':World} {gv:bq} {aV:aqR},Post P (j.below (ms i).next) (ms i) w gv (ms (i+1)) w'->b9 gv (vs i) aV->
   gg P ops N bc ms vs cu et de (cX.setIfInBounds i aqQ) (a.put o.dst aV) w' (i+1) ((ms (i+1)).join M) (gv.join (ms (i+1)).next j):=by
 have ae:i<cX.size:=by rw[D.size];exact R.lt
 have nZ:s<=i:=by
  rcases arK i s with h|h
  ·have:=(D.gM i R.lt hk).2 h;rw[R.not] at this;cases this
  ·exact h
 have BN:∀e,e<i->cu e=4->cX.getD e aqT=aqQ:=by
  intro e he gk;have jM:e<ops.size:=Nat.lt_trans he R.lt;have UF:ops[e]? =aqP ops[e]:=by simp[jM]
  refine R.fe D (Nq X.ok R.at_ UF he ?_);simp[rA,X.U5 UF gk,X.U5 R.at_ hk]
 have ca:∀e,s<=e->e<i->cu e≠4:=by intro e h1 J gk;have:=(D.gM e (Nat.lt_trans J R.lt) gk).1 (BN e J gk);omega
 have ey:=D.JC X nZ (arU R.lt) ca;have cr:=(X.wf i (arU R.lt)).1;refine ⟨nZ,ca,D.rel.below cr ey, ?_⟩;intro w' gv aV p ad;have Mi:=p.next;have Ud:∀b e,j b=aqP e->b<(ms i).next\/((ms (i+1)).next<=b/\∃x,i+1<=x/\x<ops.size/\cX.getD x aqT=aqQ/\cu x=3/\b=(ms x).next):=by
  intro b e aa;rcases D.EG b e aa with h|⟨x,h1,J,aj,aM,br⟩
  ·exact .inl (aro h (X.mono s i nZ (arU R.lt)))
  ·subst br;rcases asA x i with h|h|h
   ·exact .inl (aro (X.B9 J aM) (X.mono (x+1) i h (arU R.lt)))
   ·subst h;omega
   ·exact .inr ⟨X.mono (i+1) x h (arU J),x,h,J,aj,aM,rfl⟩
 have Fb:(ms (i+1)).next<=M.next:=by rw[D.AZ];exact X.mono (i+1) ops.size R.lt (aq3 _)
 obtain ⟨nY,e5,adj⟩:=D.rel.join ey p (fun b e aa=>by rcases Ud b e aa with h|h;exact .inl h;exact .inr h.1) Fb;have apT:(ms 0).next<=(ms i).next:=X.mono 0 i (ar7 _) (arU R.lt);have MN:∀b,b<(ms i).next->gv b=j b:=fun b aa=>by rw[p.ext b aa];simp[bq.below,aa]
 have TB:∀b e,j b=aqP e->b<(ms i).next->M.aH b=(ms i).aH b:=ey;refine ⟨by simp[D.size],D.JO R,R.lt, .inr (by simpa using hk), ?_,nY,D.AZ, ?_, ?_, ?_, ?_,by rw[fS.2];exact D.defers,by rw[fS.1];exact D.tmps,D.JR X R e5 (ad.mono adj), ?_, ?_, ?_, ?_, ?_⟩
 ·intro x U jn;rw[j7 ae,D.gM x U jn];constructor
  ·rintro (h|h)<;>omega
  ·intro h;rcases arK x i with cp|cp
   ·exact .inr ((D.gM x U jn).1 (BN x cp jn))
   ·exact .inl (by omega)
 ·intro b aa;simp[Mem.join,aa]
 ·intro b e aa;unfold bq.join at aa;split at aa
  ·exact .inl ‹_›
  ·rcases Ud b e aa with h|⟨h1,x,J,aj,aM,br,dt⟩
   ·omega
   ·exact .inr ⟨x,J,aj,(j7 ae).2 (.inr aM),br,dt⟩
 ·intro x U jn ai;obtain ⟨h1,J⟩:=F4 ae ai;have Uq:=D.xp x U jn J;rcases arK x i with h|h
  ·have FE:(ms x).next<(ms i).next:=aro (X.B9 U jn) (X.mono (x+1) i h (arU R.lt));simp only[bq.join,show (ms x).next<(ms (i+1)).next by omega,if_true];rw[MN _ FE];exact Uq
  ·have:(ms (i+1)).next<=(ms x).next:=X.mono (i+1) x (by omega) (arU U);simp only[bq.join,show ¬(ms x).next<(ms (i+1)).next by omega,if_false];exact Uq
 ·intro x h1 J aj aM gF hm;have:(ms (i+1)).next<=(ms x).next:=X.mono (i+1) x h1 (arU J);simp only[Mem.join,show ¬(ms x).next<(ms (i+1)).next by omega,if_false];rcases (j7 ae).1 aj with h|h
  ·omega
  ·exact D.EM x (by omega) J h aM gF hm
 ·refine ⟨p.ec.os.trans D.ec.os,p.ec.tape.trans D.ec.tape,p.ec.output.trans D.ec.output,arj D.ec.size p.ec.size,fun c ab ax=> ?_⟩;rw[p.ec.block c (aro ab D.ec.size) ?_]
  ·exact D.ec.block c ab ax
  ·intro b e aa ah he;obtain ⟨g1,g2⟩:=o5 aa;rcases arK b (ms 0).next with h|h
   ·exact ax b e (by rw[<-D.ext b h];exact g2) (D.dg b h (by rw[TB b e g2 g1];exact ah)) he
   ·rcases D.fresh b e g2 h with aP|⟨df,dA,bt,bE,cM⟩
    ·omega
    ·exact ax df dA bt bE (cM.trans he)
 ·intro b aa;simp only[bq.join,show b<(ms (i+1)).next by omega,if_true];rw[MN b (by omega)];exact D.ext b aa
 ·intro b e aa e4;unfold bq.join at aa;split at aa
  ·rcases arK b (ms i).next with h|h
   ·exact D.fresh b e (by rw[<-MN b h];exact aa) e4
   ·rcases p.fresh b e aa h with aP|⟨df,dA,bt,bE,cM⟩
    ·exact .inl (arj D.ec.size aP)
    ·obtain ⟨g1,g2⟩:=o5 bt;rcases arK df (ms 0).next with cp|cp
     ·exact .inr ⟨df,dA,by rw[<-D.ext df cp];exact g2,D.dg df cp (by rw[TB df dA g2 g1];exact bE),cM⟩
     ·rw[<-cM];exact D.fresh df dA g2 cp
  ·exact D.fresh b e aa e4
 ·intro b aa ah;have nT:b<(ms (i+1)).next:=by omega
  simp only[Mem.join,nT,if_true] at ah;have ig:=p.dg b (by omega) ah;have aG:=(Gf X.T i nZ (by simpa using arU R.lt) ca).1;have tx:b<(ms s).next:=aro aa (X.mono 0 s (ar7 _) D.sle);exact D.dg b aa (by rw[D.agree b tx,<-aG b tx];exact ig)
 ·intro b aa ah;have nT:b<(ms (i+1)).next:=by omega
  simp only[Mem.join,nT,if_true] at ah;have ig:=p.alive b (by omega) ah;have aG:=(Gf X.T i nZ (by simpa using arU R.lt) ca).1;have tx:b<(ms s).next:=aro aa (X.mono 0 s (ar7 _) D.sle);exact D.alive b aa (by rw[D.agree b tx,<-aG b tx];exact ig)
end
end Go.aS
end
section
namespace Go.aS
section
variable {P:aqV} {C:FuncId->Array aqR->Mem->aqR->Mem->Prop} {ops:Array Oper} {N:Nat} {bc:Nat->Nat->aqR} {ms:Nat->Mem} {vs:Nat->aqR} {cu:Nat->Nat} {et:bq} {de:World}
variable {cX:Array Bool} {a:Act} {w:World} {s:Nat} {M:Mem} {j:bq}
theorem af7 {i:Nat} (h:i∈atx .any ops cX):∃o,i<ops.size/\ops[i]? =aqP o/\cX.getD i aqQ=aqT/\∀e∈o.after,asH .any e=aqQ->cX.getD e.on aqT=aqQ:=by
 simp only[atx,aty,ar5,aq5,ar'] at h;obtain ⟨h1,J,aj⟩:=h;have ah:ops[i]? =aqP ops[i]:=by simp[h1]
 rw[ah] at aj;simp only[asv,asg,Array.all_eq_true'] at aj;refine ⟨_,h1,ah,J,fun e he aa=> ?_⟩;have:=aj e he;simpa[aa] using this
theorem Nh {A:Array Bool} {i:Nat} (ae:i<A.size):A.getD i aqQ=A.getD i aqT:=by simp[asV,ae]
def left (n:Nat) (cX:Array Bool):Nat:=((arI n).filter fun i=> !cX.getD i aqT).length
theorem filter_lt {ap:Type} {p q:ap->Bool}:∀(l:List ap) (x:ap),x∈l->(∀y,p y=aqQ->q y=aqQ)->q x=aqQ->p x=aqT->(l.filter p).length<(l.filter q).length
 |[],x,U,_,_,_=>by simp at U
 |y::l,x,U,oU,UN,UK=>by
  have hle:(l.filter p).length<=(l.filter q).length:=by
   clear U;induction l with
   |nil=>simp
   |cons z l a8=>
    simp only[asO];by_cases aE:p z=aqQ
    ·simp only[aE,oU z aE,if_true,arr];omega
    ·by_cases aK:q z=aqQ
     ·simp only[aE,aK,if_true,arr];simp;omega
     ·simp[aE,aK];exact a8
  rcases aq6.1 U with rfl|U
  ·simp only[asO,UN,UK,if_true];simp;omega
  ·have a8:=filter_lt l x U oU UN UK;simp only[asO];by_cases aE:p y=aqQ
   ·simp only[aE,oU y aE,if_true,arr];omega
   ·by_cases aK:q y=aqQ
    ·simp only[aE,aK,if_true,arr];simp;omega
    ·simp[aE,aK];exact a8
theorem aeZ {n:Nat} (h:left n cX=0):∀i,i<n->cX.getD i aqT=aqQ:=by
 intro i ae;cases ai:cX.getD i aqT with
 |true=>rfl
 |false=>have:i∈(arI n).filter fun i=> !cX.getD i aqT:=aty.2 ⟨ar5.2 ae,by rw[ai];rfl⟩;rw[asr h] at this;simp at this
theorem gg.all (X:Ctx P C ops N bc ms vs cu et de) (D:gg P ops N bc ms vs cu et de cX a w s M j) (h:atx .any ops cX=[]):∀i,i<ops.size->cX.getD i aqT=aqQ:=by
 intro i;induction i using Nat.strongRecOn with
 |_ i a8=>
  intro ae;cases ai:cX.getD i aqT with
  |true=>rfl
  |false=>
   have ah:ops[i]? =aqP ops[i]:=by simp[ae]
   have:i∈atx .any ops cX:=by
    simp only[atx,aty,ar5,aq5,ar'];refine ⟨ae,by rw[Nh (by rw[D.size];exact ae)];exact ai, ?_⟩;rw[ah];simp only[asv,asg,Array.all_eq_true'];intro e he;cases aa:asH .any e with
    |false=>simp
    |true=>have pO:=afb X.ok ah he aa;simp[a8 e.on pO (by omega)]
   rw[h] at this;simp at this
theorem gg.end (X:Ctx P C ops N bc ms vs cu et de) (D:gg P ops N bc ms vs cu et de cX a w s M j) (h:∀i,i<ops.size->cX.getD i aqT=aqQ):
  Post P et (ms 0) de (j.below (ms ops.size).next) (ms ops.size) w/\(∀t,b9 (j.below (ms ops.size).next) (bc ops.size t) (a.tmps.getD t undef))/\a.defers=[]/\a.tmps.size=N:=by
 have ca:∀e,s<=e->e<ops.size->cu e≠4:=fun e h1 J hk=>by have:=(D.gM e J hk).1 (h e J);omega
 have ey:=D.JC X D.sle (aq3 _) ca;obtain ⟨cr,cB⟩:=X.wf ops.size (aq3 _);have aI:(ms 0).next<=(ms ops.size).next:=X.mono 0 _ (ar7 _) (aq3 _);have aG:=(Gf X.T ops.size D.sle (by simp) ca).1;have tx:∀b,b<(ms 0).next->(ms ops.size).aH b=M.aH b:=fun b aa=>by have ct:=aro aa (X.mono 0 s (ar7 _) D.sle);rw[aG b ct,D.agree b ct]
 refine ⟨⟨D.rel.below cr ey,D.ec,aI, ?_, ?_, ?_, ?_⟩, ?_,D.defers,D.tmps⟩
 ·intro b aa;simp only[bq.below,show b<(ms ops.size).next by omega,if_true];exact D.ext b aa
 ·intro b e aa e4;exact D.fresh b e (o5 aa).2 e4
 ·intro b aa ah;exact D.dg b aa (by rw[<-tx b aa];exact ah)
 ·intro b aa ah;exact D.alive b aa (by rw[<-tx b aa];exact ah)
 ·intro t;refine wj.2.2 ?_ (cB t);rcases Ns X.T t ops.size (by simp) with ⟨x,p,h1,J,aj,aM,br⟩|⟨h1,J⟩
  ·have gi:ops[x]? =aqP p:=by simpa using J
   rcases D.cur t with ⟨y,q,g1,g2,g3,g4,g5⟩|⟨g1,_⟩
   ·have ag:=(ar2.1 g1).1;have:y=x:=by
     rcases asA y x with ax|ax|ax
     ·exact absurd aj (g4 x p ax gi (h x h1))
     ·exact ax
     ·exact absurd g3 (br y q ax ag (by simpa using g1))
    subst this;rw[aM];exact g5
   ·exact absurd aj (g1 x p gi (h x h1))
  ·rcases D.cur t with ⟨y,q,g1,g2,g3,g4,g5⟩|⟨_,g2⟩
   ·exact absurd g3 (h1 y q (ar2.1 g1).1 (by simpa using g1))
   ·rw[J];exact g2
theorem gg.go (X:Ctx P C ops N bc ms vs cu et de) {Q:Exit->Act->World->Prop} (e9:∀a w bT,Post P et (ms 0) de bT (ms ops.size) w->(∀t,b9 bT (bc ops.size t) (a.tmps.getD t undef))->a.defers=[]->a.tmps.size=N->Q .normal a w):
  ∀(mW:Nat) (cX:Array Bool) (a:Act) (w:World) (s:Nat) (M:Mem) (j:bq),gg P ops N bc ms vs cu et de cX a w s M j->left ops.size cX<=mW->wpAny P .any ops Q mW cX a w:=by
 intro mW;induction mW with
 |zero=>intro cX a w s M j D ai;have jJ:=aeZ (n:=ops.size) (by omega:left ops.size cX=0);obtain ⟨h1,J,aj,aM⟩:=D.end X jJ;refine ⟨?_,e9 _ _ _ h1 J aj aM⟩;simp only[atx,List.filter_eq_nil_iff,ar5];intro i ae;have:=jJ i ae;rw[Nh (by rw[D.size];exact ae),this];simp
 |succ mW a8=>
  intro cX a w s M j D ai;refine ⟨fun aw=> ?_,fun i ae=> ?_⟩
  ·obtain ⟨h1,J,aj,aM⟩:=D.end X (D.all X aw);exact e9 _ _ _ h1 J aj aM
  ·obtain ⟨o,aN,ah,pM,abR⟩:=af7 ae;have vA:i<cX.size:=by rw[D.size];exact aN
   have R:lF ops cX i o:=⟨ah,by rw[<-Nh vA];exact pM,abR⟩
   have Bm:left ops.size (cX.setIfInBounds i aqQ)<=mW:=by
    have:left ops.size (cX.setIfInBounds i aqQ)<left ops.size cX:=by refine filter_lt _ i (by simpa using aN) (fun y ag=> ?_) (by rw[R.not];rfl) (by rw[(j7 vA).2 (.inl rfl)];rfl);simp only[ar'] at ag⊢;exact (F4 vA ag).2
    omega
   have tL:=D.wanted X R;have BM:=D.aeb X R;unfold wpOp;rw[ah];simp only[];rcases X.run ah with ⟨hk,hw,ad,_⟩|⟨hk,hw,an,_⟩|⟨hk,hw,an,_⟩|⟨hk,hw,gF,an,hm⟩|⟨hk,hw,an⟩
   ·rw[tL,hw,if_neg (by simp)];exact a8 _ _ _ s M j (D.quiet X R (by omega) (by omega) (by rw[ad];exact ⟨#[],rfl,arb⟩)) Bm
   ·rw[tL,hw,if_pos rfl];left;obtain ⟨aV,aw,fO⟩:=VW an BM w;unfold asU;rw[aw];exact a8 _ _ _ s M j (D.quiet X R (by omega) (by omega) fO) Bm
   ·rw[tL,hw,if_pos rfl];left;have ac2:∃z,eS P (aJ (bc i)) o (ms z) (vs i)/\th P j (ms z) w:=by
     rcases arK i s with Fh|Fh
     ·refine ⟨s, ?_,D.nA X (aq3 _) D.sle (fun e h1 J=>by omega)⟩;rcases D.last with aI|qD
      ·omega
      ·have Fx:s - 1+1=s:=by omega
       have lb:=D.sle;have ca:i≠s - 1:=by intro h;rw[<-h] at qD;omega
       have acp:cX.getD (s - 1) aqT=aqQ:=(D.gM (s - 1) (by omega) qD).2 (by omega);have fW:fe (arF ops) (s - 1) i=aqT:=by
        cases ey:fe (arF ops) (s - 1) i with
        |false=>rfl
        |true=>have:=D.JD acp ey;rw[R.not] at this;cases this
       have:=X.T.after i (s - 1) o (by simpa using ah) (by simpa using hk) (by simp;omega) (by simpa using qD) (by omega) (by simpa using fW);simp only[ara,Fx] at this;exact this
     ·by_cases hex:∃e,s<=e/\e<i/\cu e=4
      ·
       have oR:∃z,s<=z/\z<i/\cu z=4/\∀e,s<=e->e<z->cu e≠4:=by
        obtain ⟨e,h1,J,aj⟩:=hex;clear tL BM;induction e using Nat.strongRecOn with
        |_ e adK=>
         by_cases hm:∃bw,s<=bw/\bw<e/\cu bw=4
         ·obtain ⟨bw,g1,g2,g3⟩:=hm;exact adK bw g2 g1 (by omega) g3
         ·exact ⟨e,h1,J,aj,fun bw g1 g2 g3=>hm ⟨bw,g1,g2,g3⟩⟩
       obtain ⟨z,h1,J,aj,aM⟩:=oR;refine ⟨z, ?_,D.nA X h1 (by omega) aM⟩;have fW:fe (arF ops) i z=aqT:=by
        cases ey:fe (arF ops) i z with
        |false=>rfl
        |true=>have:=(D.gM z (by omega) aj).1 (R.fe D ey);omega
       have:=X.T.ahead i z o (by simpa using ah) (by simpa using hk) (by simp;omega) (by simpa using aj) J (by simpa using fW);simpa using this
      ·exact ⟨i,an,D.nA X Fh (arU aN) (fun e h1 J aj=>hex ⟨e,h1,J,aj⟩)⟩
    obtain ⟨z,dE,du⟩:=ac2;obtain ⟨aV,aw,fO⟩:=VX dE BM du;unfold asU;rw[aw];exact a8 _ _ _ s M j (D.quiet X R (by omega) (by omega) fO) Bm
   ·rw[tL,hw,if_pos rfl];left;obtain ⟨aV,w',e,ob,aw,aq,fO⟩:=XY an BM w;unfold asU;rw[aw];exact a8 _ _ _ s _ _ (D.aaU X R hk hm aq (fO _ (by simp[bq.up]))) Bm
   ·rw[tL,hw,if_pos rfl];left;obtain ⟨h1,J,aj,aM⟩:=D.e3 X R hk;obtain ⟨abx,abk⟩:=X.wf i (arU aN);have hJ:o∈ops.toList:=by have:=as0 ah;simpa using this
    have acL:hG (j.below (ms i).next) (aJ (bc i)) a.eval o:=fun x U=>wj.2.2 (BM x U) (YD abk (X.FW o hJ x U));exact YB an acL aj abx X.sound fun aV w' gv vG fO=>a8 _ _ _ _ _ _ (aM vG fO) Bm
end
theorem ae3 {P:aqV} {C:FuncId->Array aqR->Mem->aqR->Mem->Prop} {ops:Array Oper} {id:Nat} {fr fr':Nat->aqR} {m m':Mem} {j:bq} {a:Act} {w:World} {Q:Exit->Act->World->Prop}
  (jN:P.follows .mixedOrders=aqQ) (h:gx P C ops.toList (arF ops) 0 ops.toList ⟨[],[],[]⟩ fr m fr' m') (du:uj ops=aqQ) (cQ:∀o∈ops.toList,∀x∈o.op.operands,ku x=aqQ) (qA:∀o∈ops.toList,∀d,o.dst=aqP d->d<a.tmps.size)
  (bO:pa C) (k3:zr P C) (bp:Rel P j m w) (cr:WF m) (fY:∀t,b9 j (fr t) (a.tmps.getD t undef)) (aB:a.defers=[])
  (e9:∀a' w' bT,Post P j m w bT m' w'->(∀t,b9 bT (fr' t) (a'.tmps.getD t undef))->a'.defers=[]->a'.tmps.size=a.tmps.size->Q .normal a' w'):(Code.region id ops aqQ).wp P Q a w:=by
 refine wp_region_any jN ?_;obtain ⟨bc,ms,vs,cu,T,h1,J,aj,aM,_⟩:=Zh _ _ _ _ _ _ _ h;simp only[ara,Array.length_toList] at aj aM;have E6:Rel P j (ms 0) {w with drawn:=w.drawn+1}:=by rw[J];exact af1 bp rfl
 have aN:∀b e,j b=aqP e->b<(ms 0).next:=fun b e aa=>by rw[J];exact (bp.lt b e aa).1
 have X:Ctx P C ops a.tmps.size bc ms vs cu j {w with drawn:=w.drawn+1}:=⟨T,du,cQ,qA,bO,k3,E6,by rw[J];exact cr,fun t=>by rw[h1];exact (G8 aN).2.2 (fY t)⟩
 have lO:∀i,(asf ops.size aqT).getD i aqT=aqQ->False:=by intro i ae;simp only[asV,Array.size_replicate] at ae;split at ae<;>simp at ae
 have D:gg P ops a.tmps.size bc ms vs cu j {w with drawn:=w.drawn+1} (asf ops.size aqT) a {w with drawn:=w.drawn+1} 0 {next:=(ms ops.size).next,aH:=(ms 0).aH} j:=by
  refine ⟨by simp,fun i o ae=>(lO i ae).elim,ar7 _, .inl rfl,fun i _ _=>⟨fun h=>(lO i h).elim,fun h=>by omega⟩, ?_,rfl,fun b _=>rfl,fun b e aa=> .inl (aN b e aa), ?_,fun i _ _ h=>(lO i h).elim,aB,rfl, ?_,u1.refl _ _ _,fun _ _=>rfl, ?_,fun _ _ h=>h,fun _ _ h=>h⟩
  ·refine ⟨fun b e aa=>⟨aro (aN b e aa) (X.mono 0 _ (ar7 _) (aq3 _)),(E6.lt b e aa).2⟩,E6.obj,E6.inj⟩
  ·intro i ae hk ai;cases ar:j (ms i).next with
   |none=>rfl
   |some e=>have:=aN _ e ar;have:=X.mono 0 i (ar7 _) (arU ae);omega
  ·intro t;right;exact ⟨fun x p _ ai=>(lO x ai).elim,by rw[h1];exact fY t⟩
  ·intro b e aa e4;have:=aN b e aa;omega
 refine gg.go X (fun a' w' bT p ad k5 az=>e9 a' w' bT ?_ (by rw[aj] at ad;exact ad) k5 az) _ _ _ _ _ _ _ D ?_
 ·rw[J,aM] at p;exact ⟨p.rel,⟨p.ec.os,p.ec.tape,p.ec.output,p.ec.size,p.ec.block⟩,p.next,p.ext,p.fresh,p.dg,p.alive⟩
 ·unfold left;refine arj (List.length_filter_le _ _) ?_;simp
end Go.aS
end
section
namespace Go.aS
theorem Rel.aa3 {P:aqV} {j:bq} {m:Mem} {w w':World} (h:Rel P j m w) (h1:w'.os=w.os) (J:w'.tape=w.tape) (aj:w'.output=w.output) (aM:w.heap.size<=w'.heap.size) (br:∀c,c<w.heap.size->w'.heap[c]? =w.heap[c]?):Post P j m w j m w':=
 ⟨⟨fun b e aa=>⟨(h.lt b e aa).1,aro (h.lt b e aa).2 aM⟩,fun b e aa=>by rw[br _ (h.lt b e aa).2];exact h.obj b e aa,h.inj⟩,
  ⟨h1,J,aj,aM,fun c ab _=>br c ab⟩,aq3 _,fun _ _=>rfl,fun b e aa aq=>absurd (h.lt b e aa).1 (as9.2 aq),fun _ _ h=>h,fun _ _ h=>h⟩
theorem WE {j:bq} {v:aqR} (h:cv v=aqQ):dy j v v:=p0 h
theorem afo {P:aqV} {f:FuncId} {args:Array aqR} {m m':Mem} {v:aqR} (h:xT P f args m v m') (cr:WF m):low m'.next v/\WF m'/\m.next<=m'.next:=by
 cases h with
 |none a c g h au=>exact ⟨by intro x U;simp at U,cr,aq3 _⟩
 |row b off l c g L e F mQ h au ai hm cG aq kf f1 f2=>
  refine ⟨by intro x U;simp at U,⟨fun c ab=> ?_,fun c=> ?_⟩,aq3 _⟩
  ·have ab:m.next<=c:=ab;simp only[Mem.put];split
   ·rename_i dB;subst dB;have:=cr.dead c ab;rw[hm] at this;cases this
   ·exact cr.dead c ab
  ·simp only[Mem.put];split
   ·intro v ad;rcases ze _ _ _ _ ad with ad|ad
    ·have:=cr.low b;rw[hm] at this;exact this v ad
    ·exact Cs (aq8.1 f2 v ad)
   ·exact cr.low c
theorem WT {j:bq} {s:aqR} {g:Nat} {jF:Array aqR} (h:ba (b9 j) (#[s, .func (.func g) #[] #[]]:Array aqR).toList jF.toList):∃cs,b9 j s cs/\jF=#[cs, .func (.func g) #[] #[]]:=by
 obtain ⟨l⟩:=jF
 match l,h with
 |[c1,c2],⟨h1,⟨gs,ds,J,aj,aM⟩,_⟩=>
  refine ⟨c1,h1, ?_⟩;have aX:gs=#[]:=by
   obtain ⟨l⟩:=gs;cases l with
   |nil=>rfl
   |cons _ _=>exact aj.elim
  have e2:ds=#[]:=by
   obtain ⟨l⟩:=ds;cases l with
   |nil=>rfl
   |cons _ _=>exact aM.elim
  subst aX e2 J;rfl
 |[_],⟨_,h⟩=>exact h.elim
 |[],h=>exact h.elim
 |_::_::_::_,⟨_,_,h⟩=>exact h.elim
theorem afp {P:aqV} {f:FuncId} {args:Array aqR} {m m':Mem} {v:aqR} (h:xT P f args m v m') {j:bq} {w:World} {jF:Array aqR} (bp:Rel P j m w) (ey:ba (b9 j) args.toList jF.toList):
  Calls P f jF w fun e w'=>∃aV bT,e= .returned aV/\Post P j m w bT m' w'/\b9 bT v aV:=by
 cases h with
 |none a c g h au=>
  subst au;obtain ⟨cs,h1,rfl⟩:=WT ey;have U:∃p cap,cs= .slice p 0 cap:=by
   cases a with
   |none=>exact ⟨_,_,h1.lz⟩
   |some a=>obtain ⟨q,_,_,ab⟩:=h1.slice;rcases ab with ⟨_,ab⟩|⟨_,_,_,_,_,_,ab⟩|⟨_,_,_,ab⟩|⟨_,_,_,ab⟩<;>exact ⟨_,_,ab⟩
  obtain ⟨p,cap,rfl⟩:=U;refine (h p cap w).mono ?_;rintro e w' ⟨rfl,rfl⟩;exact ⟨_,j,rfl,Post.refl bp,#[],rfl,arb⟩
 |row b off l c g L e F mQ h au ai hm cG aq kf f1 f2=>
  subst au;obtain ⟨qs,h1,rfl⟩:=WT ey;obtain ⟨q,_,ar,ab⟩:=h1.slice;have U:∃cap,qs= .slice (aqP ⟨q.aH,q.dO+off,aqS⟩) l cap:=by
   rcases ab with ⟨_,ab⟩|⟨_,_,_,_,_,_,ab⟩|⟨_,fi,_⟩|⟨_,fi,_⟩
   ·exact ⟨_,ab⟩
   ·exact ⟨_,ab⟩
   ·omega
   ·omega
  obtain ⟨cap,rfl⟩:=U;have ar:j b=aqP q:=ar;obtain ⟨cs,bg,g1,g2,g3,g4,g5,g6⟩:=bp.own b q L e ar hm;have abe:∀(i:Nat) (v:aqR),F[i]? =aqP v->cs[q.dO+off+i]? =aqP v:=by intro i v ae;have aN:=(aqZ.1 ae).1;have hs:=ae;rw[<-cG,arD,if_pos aN,ar0] at hs;obtain ⟨aV,bt,bE⟩:=g6 _ v hs;have hc:cv v=aqQ:=aq8.1 f1 v (aq7 ae);rw[CC hc bE] at bt;rw[arx];exact bt
  refine (h w q.aH (q.dO+off) cap cs e bg g1 abe g2).mono ?_;rintro ex w' ⟨rfl,bt,bE,cM,fI,nm,B3⟩;have aN:=(bp.lt b q ar).2;have hlen:(eT cs.toList (q.dO+off) mQ).length=cs.size:=by rw[o8];simp
  have tB:(eT L off mQ).length=L.length:=o8 _ _ _;have an:=bp.write (L':=eT L off mQ) (cs':=(eT cs.toList (q.dO+off) mQ).toArray) ar hm g1 (by simpa using hlen) (by rw[tB];exact g5) (fun i v ae=>by
   rw[oj _ _ _ _ (by omega)] at ae;rw[atC,oj _ _ _ _ (by rw[kf];simp;omega)];by_cases fz:off<=i/\i<off+mQ.length
   ·rw[if_pos fz] at ae;rw[if_pos (by omega),show q.dO+i - (q.dO+off)=i - off by omega];exact ⟨v,ae,WE (aq8.1 f2 v (aq7 ae))⟩
   ·rw[if_neg fz] at ae;rw[if_neg (by omega)];obtain ⟨aV,bt,bE⟩:=g6 i v ae;exact ⟨aV,by simpa using bt,bE⟩)
  refine ⟨_,j,rfl,an.trans (an.rel.aa3 bt bE cM (by simpa[jy] using fI) fun c ab=> ?_),#[],rfl,arb⟩;have ab:c<w.heap.size:=by simpa[jy] using ab
  by_cases dB:c=q.aH
  ·subst dB;rw[B3,NE aN]
  ·rw[nm c ab dB,NK dB]
end Go.aS
end
section
namespace Go.aS
theorem jB.put {j bT:bq} {N:Nat} {fr:Nat->aqR} {a:Act} {d:Option Tmp} {v aV:aqR} (h:jB j N fr a) (e5:∀b e,j b=aqP e->bT b=aqP e) (aB:∀t,d=aqP t->t<N) (ad:b9 bT v aV):jB bT N (set fr d v) (a.put d aV):=by
 refine ⟨fun t=> ?_,by rw[fS.2];exact h.defers,by rw[fS.1];exact h.size⟩;cases d with
 |none=>exact (h.val t).mono e5
 |some x=>
  have U:x<a.tmps.size:=by rw[h.size];exact aB x rfl
  rw[GU U];simp only[set];split
  ·exact ad
  ·exact (h.val t).mono e5
theorem jB.ops {j:bq} {N:Nat} {fr:Nat->aqR} {a:Act} (h:jB j N fr a) {o:Oper} (ah:∀x∈o.op.operands,ku x=aqQ):hG j (aJ fr) a.eval o:=
 fun x U=>Pe (ah x U) fun t _=>h.val t
theorem Xo (j:bq):b9 j undef undef:=⟨#[],rfl,arb⟩
theorem Gi {P:aqV} {C:FuncId->Array aqR->Mem->aqR->Mem->Prop} {ops:Array Oper} {N:Nat} {Q:Exit->Act->World->Prop} (bO:pa C) (k3:zr P C) (qA:∀o∈ops.toList,∀d,o.dst=aqP d->d<N):
  ∀(l:List Oper) (fr fr':Nat->aqR) (m m':Mem) (j:bq) (a:Act) (w:World),(∀o∈l,(∀x∈o.op.operands,ku x=aqQ)/\∀d,o.dst=aqP d->d<N)->jU P C ops.toList l fr m fr' m'->Rel P j m w->WF m->jB j N fr a->
   (∀a' w' bT,Post P j m w bT m' w'->jB bT N fr' a'->Q .normal a' w')->wpList P ops Q l a w
 |[],fr,fr',m,m',j,a,w,ai,h,bp,cr,cG,e9=>by simp only[jU] at h;obtain ⟨rfl,rfl⟩:=h;exact e9 a w j (Post.refl bp) cG
 |o::l,fr,fr',m,m',j,a,w,ai,h,bp,cr,cG,e9=>by
  obtain ⟨U,aB⟩:=ai o (by simp);have fh:∀o∈l,(∀x∈o.op.operands,ku x=aqQ)/\∀d,o.dst=aqP d->d<N:=fun p an=>ai p (by simp[an]);have tL:atD o (yielded ops a.tmps)=wanted ops.toList fr o:=W0 cG.size qA fun g w d aG aB=>cG.val d;unfold wpList;rw[tL];simp only[jU] at h;by_cases hw:wanted ops.toList fr o=aqQ
  ·rw[if_pos hw];rw[if_pos hw] at h;obtain ⟨v,m1,tJ,BS⟩:=h;have pK:∀t,low m.next (fr t):=fun t=>(G8 fun b e aa=>(bp.lt b e aa).1).2.2 (cG.val t);have dF:=wA tJ cr pK bO U;have Fs:=cG.ops U;have cont:∀aV w' bT,Post P j m w bT m1 w'->b9 bT v aV->wpList P ops Q l (a.put o.dst aV) w':=fun aV w' bT an ad=>
    Gi bO k3 qA l _ _ _ _ bT _ _ fh BS an.rel dF.2.1 (cG.put (an.up bp) aB ad) fun a' nE qK mv kf=>e9 a' nE qK (an.trans mv) kf
   left;cases tJ with
   |pure h=>obtain ⟨aV,aw,ad⟩:=VW h Fs w;unfold asU;rw[aw];exact cont aV w j (Post.refl bp) ad
   |read h=>obtain ⟨aV,aw,ad⟩:=VX h Fs bp.nA;unfold asU;rw[aw];exact cont aV w j (Post.refl bp) ad
   |new h=>obtain ⟨aV,w',bT,aw,an,ad⟩:=afx h Fs bp;unfold asU;rw[aw];exact cont aV w' bT an ad
   |e3 h=>exact YB h Fs bp cr k3 cont
  ·rw[if_neg hw];rw[if_neg hw] at h;exact Gi bO k3 qA l _ _ _ _ j _ _ fh h bp cr (cG.put (fun _ _ h=>h) aB (Xo j)) e9
theorem GZ {P:aqV} {C:FuncId->Array aqR->Mem->aqR->Mem->Prop} {ops:List Oper} (bO:pa C):∀(l:List Oper) (fr fr':Nat->aqR) (m m':Mem),(∀o∈l,∀x∈o.op.operands,ku x=aqQ)->jU P C ops l fr m fr' m'->WF m->(∀t,low m.next (fr t))->
  WF m'/\(∀t,low m'.next (fr' t))/\m.next<=m'.next
 |[],fr,fr',m,m',ai,h,cr,aP=>by simp only[jU] at h;obtain ⟨rfl,rfl⟩:=h;exact ⟨cr,aP,aq3 _⟩
 |o::l,fr,fr',m,m',ai,h,cr,aP=>by
  simp only[jU] at h;have fh:∀o∈l,∀x∈o.op.operands,ku x=aqQ:=fun p an=>ai p (by simp[an]);split at h
  ·obtain ⟨v,m1,tJ,BS⟩:=h;have dF:=wA tJ cr aP bO (ai o (by simp));have:=GZ bO l _ _ _ _ fh BS dF.2.1 (CR (fun t=>GA dF.2.2 (aP t)) dF.1);exact ⟨this.1,this.2.1,arj dF.2.2 this.2.2⟩
  ·exact GZ bO l _ _ _ _ fh h cr (CR aP Cp)
theorem Ol {P:aqV} {C:FuncId->Array aqR->Mem->aqR->Mem->Prop} {ops:List Oper} {B:Array Nat} (bO:pa C):∀(l:List Oper) (i:Nat) (A:Acc) (fr fr':Nat->aqR) (m m':Mem),(∀o∈l,∀x∈o.op.operands,ku x=aqQ)->gx P C ops B i l A fr m fr' m'->WF m->(∀t,low m.next (fr t))->
  WF m'/\(∀t,low m'.next (fr' t))/\m.next<=m'.next
 |[],i,A,fr,fr',m,m',ai,h,cr,aP=>by simp only[gx] at h;obtain ⟨rfl,rfl⟩:=h;exact ⟨cr,aP,aq3 _⟩
 |o::l,i,A,fr,fr',m,m',ai,h,cr,aP=>by
  simp only[gx] at h;have fh:∀o∈l,∀x∈o.op.operands,ku x=aqQ:=fun p an=>ai p (by simp[an]);have key:∀v m1 hl,oD P C (aJ fr) o m v m1->gx P C ops B (i+1) l hl (set fr o.dst v) m1 fr' m'->WF m'/\(∀t,low m'.next (fr' t))/\m.next<=m'.next:=by intro v m1 hl tJ BS;have dF:=wA tJ cr aP bO (ai o (by simp));have:=Ol bO l _ _ _ _ _ _ fh BS dF.2.1 (CR (fun t=>GA dF.2.2 (aP t)) dF.1);exact ⟨this.1,this.2.1,arj dF.2.2 this.2.2⟩
  split at h
  ·rcases h with ⟨v,an,aB⟩|⟨v,an,_,aB⟩|⟨X,v,an,aB⟩|⟨v,m1,an,_,_,aB⟩
   ·exact key _ _ _ (.pure an) aB
   ·exact key _ _ _ (.read an) aB
   ·exact key _ _ _ (.new an) aB
   ·exact key _ _ _ (.e3 an) aB
  ·exact Ol bO l _ _ _ _ _ _ fh h cr (CR aP Cp)
theorem GH {n id:Nat} {ops:Array Oper} {d:Bool} (h:gn n (.region id ops d)=aqQ):(∀o∈ops.toList,(∀x∈o.op.operands,ku x=aqQ)/\∀d,o.dst=aqP d->d<n)/\(d=aqQ->uj ops=aqQ):=by
 simp only[gn,aq5,aq8,ar1,ar'] at h;refine ⟨fun o ah=>⟨fun x U=>(h.1 o ah).1 x (by simpa using U),fun t ao=> ?_⟩,fun aB=> ?_⟩
 ·have:=(h.1 o ah).2;rw[ao] at this;simpa using this
 ·rcases h.2 with h|h
  ·rw[aB] at h;cases h
  ·exact h
theorem Cl {P:aqV} {C:FuncId->Array aqR->Mem->aqR->Mem->Prop} (bO:pa C) {N:Nat}:∀(n:Nat) (c:Code) (fr fr':Nat->aqR) (m m':Mem) (e:dX),gn N c=aqQ->ky P C n c fr m e fr' m'->WF m->(∀t,low m.next (fr t))->
  WF m'/\(∀t,low m'.next (fr' t))/\m.next<=m'.next:=by
 intro n;induction n with
 |zero=>intro c fr fr' m m' e _ h;exact h.elim
 |succ n a8=>
  intro c fr fr' m m' e du h cr aP;cases c with
  |skip=>obtain ⟨_,rfl,rfl⟩:=h;exact ⟨cr,aP,aq3 _⟩
  |label l=>obtain ⟨_,rfl,rfl⟩:=h;exact ⟨cr,aP,aq3 _⟩
  |exit id=>obtain ⟨_,rfl,rfl⟩:=h;exact ⟨cr,aP,aq3 _⟩
  |ret=>obtain ⟨_,rfl,rfl⟩:=h;exact ⟨cr,aP,aq3 _⟩
  |region id ops d=>
   have aw:=GH du;cases d with
   |false=>exact GZ bO _ _ _ _ _ (fun o ah=>(aw.1 o ah).1) h.2 cr aP
   |true=>exact Ol bO _ _ _ _ _ _ _ (fun o ah=>(aw.1 o ah).1) h.2 cr aP
  |seq a b=>
   simp only[gn,aq5] at du;rcases h with ⟨aX,eU,m1,h1,J⟩|h
   rotate_left
   ·exact ⟨(h.low cr aP).1,(h.low cr aP).2,h.next⟩
   obtain ⟨g1,g2,g3⟩:=a8 a _ _ _ _ _ du.1 h1 cr aP;split at J
   ·obtain ⟨bt,bE,cM⟩:=a8 b _ _ _ _ _ du.2 J g1 g2;exact ⟨bt,bE,arj g3 cM⟩
   ·obtain ⟨_,rfl,rfl⟩:=J;exact ⟨g1,g2,g3⟩
  |cond c a b=>
   simp only[gn,aq5] at du;obtain ⟨t,_,h1⟩:=h;cases t
   ·exact a8 b _ _ _ _ _ du.2 h1 cr aP
   ·exact a8 a _ _ _ _ _ du.1.2 h1 cr aP
  |block id c=>obtain ⟨aX,h1,_⟩:=h;exact a8 c _ _ _ _ _ du h1 cr aP
  |scope c=>exact a8 c _ _ _ _ _ du h cr aP
  |loop c=>
   obtain ⟨aX,eU,m1,h1,J⟩:=h;obtain ⟨g1,g2,g3⟩:=a8 c _ _ _ _ _ du h1 cr aP;split at J
   ·obtain ⟨bt,bE,cM⟩:=a8 (.loop c) _ _ _ _ _ du J g1 g2;exact ⟨bt,bE,arj g3 cM⟩
   ·obtain ⟨_,rfl,rfl⟩:=J;exact ⟨g1,g2,g3⟩
  |rangeFunc f bK x y=>exact h.elim
  |goto l=>exact h.elim
  |refuse s=>exact h.elim
def Yx (P:aqV) (C:FuncId->Array aqR->Mem->aqR->Mem->Prop) (N n:Nat) (c:Code):Prop:=
 ∀(fr fr':Nat->aqR) (m m':Mem) (e:dX) (j:bq) (a:Act) (w:World) (Q:Exit->Act->World->Prop),
  gn N c=aqQ->ky P C n c fr m e fr' m'->Rel P j m w->WF m->jB j N fr a->(∀a' w' bT,Post P j m w bT m' w'->jB bT N fr' a'->Q e.out a' w')->c.wp P Q a w
theorem jB.low {P:aqV} {j:bq} {N:Nat} {fr:Nat->aqR} {a:Act} {m:Mem} {w:World} (cG:jB j N fr a) (bp:Rel P j m w):∀t,low m.next (fr t):=fun t=>(G8 fun b e aa=>(bp.lt b e aa).1).2.2 (cG.val t)
theorem aeW {P:aqV} {C:FuncId->Array aqR->Mem->aqR->Mem->Prop} (bO:pa C) {N:Nat} {c:Code} (du:gn N c=aqQ):∀(n:Nat),(∀n',n'<n->Yx P C N n' c)->∀(fr fr':Nat->aqR) (m m':Mem) (e:dX) (j:bq) (a:Act) (w:World) (Q:Exit->Act->World->Prop),
  ky P C n (.loop c) fr m e fr' m'->Rel P j m w->WF m->jB j N fr a->(∀a' w' bT,Post P j m w bT m' w'->jB bT N fr' a'->Q e.out a' w')->
  ∀(b:Frame) (k:List Item) (cs:List Frame),∃bw a' w',Q bw a' w'/\Arrives P (lone (b.at a (.code c:: .inLoop c::k)) cs w) b k cs bw a' w':=by
 intro n;induction n with
 |zero=>intro _ fr fr' m m' e j a w Q h;exact h.elim
 |succ n a8=>
  intro ey fr fr' m m' e j a w Q h bp cr cG e9 b k cs;obtain ⟨aX,eU,m1,h1,J⟩:=h;have ai:=Cl bO n c _ _ _ _ _ du h1 cr (cG.low bp);by_cases he:aX= .normal
  ·subst he;rw[if_pos rfl] at J;have key:c.wp P (fun e a' w'=>e= .normal/\∃bw Tx nE,Q bw Tx nE/\Arrives P (lone (b.at a' (.code c:: .inLoop c::k)) cs w') b k cs bw Tx nE) a w:=
    ey n (arP n) _ _ _ _ _ j a w _ du h1 bp cr cG fun c4 cN gv an pH=>
     ⟨rfl,a8 (fun n' k8=>ey n' (by omega)) _ _ _ _ _ gv c4 cN Q J an.rel ai.1 pH (fun a2 fk qL oT LA=>e9 a2 fk qL (an.trans oT) LA) b k cs⟩
   obtain ⟨bw,c4,cN,⟨rfl,e2,a2,fk,acX,abC⟩,Bk⟩:=key b (.inLoop c::k) cs;exact ⟨e2,a2,fk,acX, .of_steps (Steps.trans Bk (.one step_inLoop)) abC⟩
  ·rw[if_neg he] at J;obtain ⟨rfl,rfl,rfl⟩:=J;have key:c.wp P (fun bw a' w'=>bw≠ .normal/\Q bw a' w') a w:=
    ey n (arP n) _ _ _ _ _ j a w _ du h1 bp cr cG fun c4 cN gv an pH=>⟨by cases e with
     |normal=>exact absurd rfl he
     |exit id=>simp[dX.out]
     |ret=>simp[dX.out],e9 c4 cN gv an pH⟩
   obtain ⟨bw,c4,cN,⟨ca,aK⟩,Bk⟩:=key b (.inLoop c::k) cs;exact ⟨bw,c4,cN,aK, .pass (x:= .inLoop c) rfl (fun _ _=> .inl ca) Bk⟩
theorem Nw {P:aqV} {C:FuncId->Array aqR->Mem->aqR->Mem->Prop} (jN:P.follows .mixedOrders=aqQ) (bO:pa C) (k3:zr P C) {N:Nat}:∀(n:Nat) (c:Code),Yx P C N n c:=by
 intro n;induction n using Nat.strongRecOn with
 |_ n a8=>
 cases n with
 |zero=>intro c fr fr' m m' e j a w Q _ h;exact h.elim
 |succ n=>
  intro c fr fr' m m' e j a w Q du h bp cr cG e9;have pK:=cG.low bp;have yK:=a8 n (arP n);cases c with
  |skip=>obtain ⟨rfl,rfl,rfl⟩:=h;exact wp_skip (e9 a w j (Post.refl bp) cG)
  |label l=>obtain ⟨rfl,rfl,rfl⟩:=h;exact wp_label (e9 a w j (Post.refl bp) cG)
  |exit id=>obtain ⟨rfl,rfl,rfl⟩:=h;exact wp_exit (e9 a w j (Post.refl bp) cG)
  |ret=>obtain ⟨rfl,rfl,rfl⟩:=h;exact wp_ret (e9 a w j (Post.refl bp) cG)
  |region id ops d=>
   have aw:=GH du;have qA:∀o∈ops.toList,∀d,o.dst=aqP d->d<N:=fun o ah=>(aw.1 o ah).2;cases d with
   |false=>obtain ⟨rfl,h⟩:=h;exact wp_region_list (Gi bO k3 qA _ _ _ _ _ j a w aw.1 h bp cr cG e9)
   |true=>obtain ⟨rfl,h⟩:=h;exact ae3 jN h (aw.2 rfl) (fun o ah=>(aw.1 o ah).1) (by rw[cG.size];exact qA) bO k3 bp cr cG.val cG.defers fun a' w' bT an ad aB az=>e9 a' w' bT an ⟨ad,aB,by rw[az];exact cG.size⟩
  |seq a' b=>
   have vE:=du;simp only[gn,aq5] at du;rcases h with ⟨aX,eU,m1,h1,J⟩|h
   rotate_left
   ·exact h.sound vE bp cr cG e9
   have ai:=Cl bO n a' _ _ _ _ _ du.1 h1 cr pK;refine wp_seq (yK a' _ _ _ _ _ j a w _ du.1 h1 bp cr cG fun c4 cN gv an pH=> ?_);split at J
   ·rename_i he;subst he;exact yK b _ _ _ _ _ gv c4 cN Q du.2 J an.rel ai.1 pH fun a2 fk qL oT LA=>e9 a2 fk qL (an.trans oT) LA
   ·rename_i he;obtain ⟨rfl,rfl,rfl⟩:=J;cases e with
    |normal=>exact absurd rfl he
    |exit id=>exact e9 c4 cN gv an pH
    |ret=>exact e9 c4 cN gv an pH
  |cond c x y=>
   simp only[gn,aq5] at du;obtain ⟨t,ao,h1⟩:=h;have ad:b9 j (aJ fr c) (a.eval c):=Pe du.1.1 fun t _=>cG.val t;rw[ao] at ad;refine wp_cond ad.bool ?_;cases t
   ·exact yK y _ _ _ _ _ j a w Q du.2 h1 bp cr cG e9
   ·exact yK x _ _ _ _ _ j a w Q du.1.2 h1 bp cr cG e9
  |scope c=>refine wp_scope_straight (yK c _ _ _ _ _ j a w _ du h bp cr cG fun c4 cN gv an pH=> ?_);have:=e9 c4 cN gv an pH;cases e<;>exact this
  |block id c=>
   obtain ⟨aX,h1,he⟩:=h;refine wp_block (yK c _ _ _ _ _ j a w _ du h1 bp cr cG fun c4 cN gv an pH=> ?_);have:=e9 c4 cN gv an pH;rw[he] at this;cases aX with
   |normal=>simp only[dX.out] at this⊢;exact this
   |exit yJ=>
    by_cases L7:yJ=id
    ·subst L7;simp only[if_pos,dX.out] at this;simp only[dX.out,Exit.inBlock,if_pos];exact this
    ·simp only[dX.exit.injEq,L7,if_false,dX.out] at this;simp only[dX.out,Exit.inBlock,L7,if_false];exact this
   |ret=>simp only[dX.out] at this⊢;exact this
  |loop c=>intro b k cs;obtain ⟨bw,c4,cN,aK,Bk⟩:=aeW bO (c:=c) du (n+1) (fun n' k8=>a8 n' k8 c) _ _ _ _ _ j a w Q h bp cr cG e9 b k cs;exact ⟨bw,c4,cN,aK, .of_steps (.one step_loop) Bk⟩
  |rangeFunc f bK x y=>exact h.elim
  |goto l=>exact h.elim
  |refuse s=>exact h.elim
theorem aeK {P:aqV} {fr:Nat->aqR} {m:Mem} {j:bq} {N:Nat} {a:Act} {w:World} (bp:Rel P j m w) (cG:jB j N fr a) {r:ResultVar} {v:aqR} (h:GX P fr m r v):
  ∃aV,(match r with| .tmp t=>(pure (a.tmps.getD t undef):Sem aqR)| .cell x t=>do loadVar t (<-asAddr (a.tmps.getD x undef))).run P w= .ok aV w/\b9 j v aV:=by
 cases r with
 |tmp t=>simp only[GX] at h;subst h;exact ⟨_,rfl,cG.val t⟩
 |cell x t=>
  obtain ⟨b,off,U,d,aB,ad⟩:=h;have cQ:=cG.val x;rw[U] at cQ;obtain ⟨q,_,ar,ab⟩:=cQ.ptr;by_cases au:jE d=aqQ
  ·rw[if_pos au] at ad;obtain ⟨i,cs,ae,dE,rfl⟩:=ad;obtain ⟨ds,ai,aq,jL⟩:=Cw bp.nA ar _ _ _ dE;exact ⟨.agg ds.toArray,by simp[ab,asAddr,loadVar,wB aB,au,iG ae,y4 aq jL],⟨_,rfl,by simpa using ai⟩⟩
  ·rw[if_neg au] at ad;obtain ⟨aV,eQ,aw⟩:=bp.nA.load b q off v ar ad;exact ⟨aV,by simp[ab,asAddr,loadVar,wB aB,au,eQ],b9.pY aw⟩
theorem VI {P:aqV} {fr:Nat->aqR} {m:Mem} {j:bq} {N:Nat} {a:Act} {w:World} (bp:Rel P j m w) (cG:jB j N fr a):∀(rs:List ResultVar) (vs:List aqR),o7 P fr m rs vs->
  ∃ml:List aqR,(rs.mapM (m:=Sem) fun| .tmp t=>pure (a.tmps.getD t undef)| .cell x t=>do loadVar t (<-asAddr (a.tmps.getD x undef))).run P w= .ok ml w/\ba (b9 j) vs ml
 |[],[],_=>⟨[],rfl,arb⟩
 |r::rs,v::vs,⟨h1,J⟩=>by
  obtain ⟨aV,aw,ad⟩:=aeK bp cG h1;obtain ⟨ml,UO,lT⟩:=VI bp cG rs vs J;refine ⟨aV::ml, ?_,ad,lT⟩;simp only[List.mapM_cons,arl,ary];cases r with
  |tmp t=>simp only[ary] at aw⊢;rw[aw];simp only[arh,UO]
  |cell x t=>simp only[arl] at aw⊢;rw[aw];simp only[arh,UO]
 |[],_::_,h=>h.elim
 |_::_,[],h=>h.elim
theorem VL {j:bq}:∀{vs ml:List aqR},ba (b9 j) vs ml->(∀x∈vs,storable x=aqQ)->ba (eA j) vs ml
 |[],[],_,_=>arb
 |v::vs,c::ml,⟨h1,J⟩,az=>⟨b9.storable h1 (az v (by simp)),VL J fun x U=>az x (by simp[U])⟩
 |[],_::_,h,_=>h.elim
 |_::_,[],h,_=>h.elim
theorem ae0 {j:bq} {args jF:Array aqR} (h:ba (b9 j) args.toList jF.toList) (n:Nat):∀t,b9 j ((args++asf (n - args.size) undef).getD t undef) ((jF++asf (n - jF.size) undef).getD t undef):=by
 have az:=h.size;intro t;by_cases ao:t<args.size
 ·have aX:(args++asf (n - args.size) undef).getD t undef=args[t]:=by
   rw[atE,att ao];simp[ao]
  have kn:t<jF.size:=by omega
  have e2:(jF++asf (n - jF.size) undef).getD t undef=jF[t]:=by rw[atE,att kn];simp[kn]
  rw[aX,e2];obtain ⟨b,aa,aw⟩:=h.Lo t args[t] (by simp[ao]);rw[Array.getElem?_eq_getElem kn] at aa;cases aa;exact aw
 ·have e:∀(A:Array aqR),A.size<=t->(A++asf (n - A.size) undef).getD t undef=undef:=by
   intro A ey;rw[atE,Array.getElem?_append_right ey];by_cases ax:t - A.size<n - A.size
   ·simp[ax]
   ·simp[ax]
  rw[e args (by omega),e jF (by omega)];exact Xo j
theorem NH {P : aqV} {f : FuncId} {fn : Func} {c : Code} (h : mA P f = aqQ) (aP : P.funcs[f]? = aqP fn) (ab : fn.body = aqP c) : (fn.name == "runtime.NumGoroutine") = aqT ∧ gn fn.ntmps c = aqQ := by
 simp only[mA,aP,ab,aq5,ar'] at h;exact h
theorem WF.lA {m m1:Mem} (h:WF m) (aa:∀b,b<m.next->m1.aH b=m.aH b\/qN m.next (m1.aH b)):WF (m1.lA m.next) where
 dead:=fun b ct=>by have ct:m.next<=b:=ct;simp[Mem.lA,show ¬b<m.next by omega]
 low:=fun b=>by
  simp only[Mem.lA];split
  ·rename_i aN;rcases aa b aN with h1|h1
   ·rw[h1];exact h.low b
   ·exact h1
  ·exact arb
theorem F1 {P:aqV} (jN:P.follows .mixedOrders=aqQ):∀n,pa (h4 P n)/\zr P (h4 P n):=by
 intro n;induction n with
 |zero=>exact ⟨fun f args m v m' h=>h.elim,fun f args m v m' h=>h.elim⟩
 |succ n a8=>
  obtain ⟨bO,k3⟩:=a8;refine ⟨?_, ?_⟩
  ·intro f args m v m' h cr ai;rcases h with ⟨_,h⟩|h
   ·exact afo h cr
   obtain ⟨fn,c,e,fr,m1,vs,aP,aa,vF,bC,jP,he,nh,rfl,dF,hm⟩:=h;have du:=NH vF aP aa;have fY:∀t,low m.next ((args++asf (fn.ntmps - args.size) undef).getD t undef):=by
    intro t;rw[atE];cases aK:(args++asf (fn.ntmps - args.size) undef)[t]? with
    |none=>exact Cp
    |some x=>
     have:=as0 aK;simp only[Array.mem_append,Array.mem_replicate] at this;rcases this with h|⟨_,rfl⟩
     ·exact ai x (by simpa using h)
     ·exact Cp
   obtain ⟨g1,g2,g3⟩:=Cl bO n c _ _ _ _ _ du.2 jP cr fY;rcases hm with rfl|⟨rfl,pK,hblk⟩
   ·refine ⟨?_,g1,g3⟩;have aw:∀(rs:List ResultVar) (vs:List aqR),o7 P fr m' rs vs->∀x∈vs,low m'.next x:=by
     intro rs;induction rs with
     |nil=>intro vs h x U;cases vs with|nil=>simp at U|cons _ _=>exact h.elim
     |cons r rs a8=>
      intro vs h x U;cases vs with
      |nil=>exact h.elim
      |cons u us=>
       rcases aq6.1 U with rfl|U
       ·cases r with
        |tmp t=>have:=h.1;simp only[GX] at this;rw[this];exact g2 t
        |cell q t=>
         obtain ⟨b,off,_,d,aB,ad⟩:=h.1;split at ad
         ·obtain ⟨i,cs,ae,dE,rfl⟩:=ad;simpa[low,gT] using GV g1 _ _ _ dE
         ·exact OF (Ox g1 ad)
       ·exact a8 us h.2 x U
    have jJ:=aw _ _ nh;rcases dF with h1|h1
    ·match vs,h1 with
     |[x],_=>exact jJ x (by simp)
    ·match vs with
     |[]=>intro x U;simp at U
     |[x]=>exact jJ x (by simp)
     |x::y::l=>intro z aE;exact wb (jJ z (by simpa using aE)) (h1 z (by simpa using aE))
   ·exact ⟨pK,cr.lA hblk,aq3 _⟩
  ·intro f args m v m' h j w jF cr bp tw;rcases h with ⟨vF,h⟩|h
   ·refine ⟨?_,afp h bp tw⟩;cases aP:P.funcs[f]? with
    |none=>simp[mA,aP] at vF
    |some fn=>
     cases aa:fn.body with
     |none=>simp[mA,aP,aa] at vF
     |some c=>exact ⟨fn,rfl,(NH vF aP aa).1,by simp[aa]⟩
   obtain ⟨fn,c,e,fr,m1,vs,aP,aa,vF,bC,jP,he,nh,rfl,dF,hm⟩:=h;have du:=NH vF aP aa;refine ⟨⟨fn,aP,du.1,by simp[aa]⟩, ?_⟩;refine calls_of_wp aP aa ?_;have cG:jB j fn.ntmps (fun i=>(args++asf (fn.ntmps - args.size) undef).getD i undef) {tmps:=jF++asf (fn.ntmps - jF.size) undef,defers:=[]}:=
    ⟨ae0 tw fn.ntmps,rfl,by have:=tw.size;simp;omega⟩
   have ai:=Cl bO n c _ _ _ _ _ du.2 jP cr (cG.low bp);refine Nw jN bO k3 n c _ _ _ _ _ j _ w _ du.2 jP bp cr cG fun a' w' bT an kf=> ?_;obtain ⟨ml,abO,fO⟩:=VI an.rel kf _ _ nh;have hlen:=fO.length;have Fw:(results fn a'.tmps).run P w'= .ok (pack ml) w':=by
    simp only[results,arl];rw[Array.mapM_eq_mapM_toList];simp only[Sem.run_map];have abP:=abO;refine Eq.trans (congrArg (fun r=>Result.andThen (Result.andThen r _) _) abP) ?_;simp only[arh,ary];congr 1
    match ml with
    |[]=>rfl
    |[x]=>rfl
    |x::y::l=>simp[pack]
   have BV:b9 bT (pack vs) (pack ml):=by
    rcases dF with h1|h1
    ·match vs,ml,h1,fO with
     |[x],[y],_,ax=>exact ax.1
     |[x],[],_,ax=>exact ax.elim
     |[x],_::_::_,_,ax=>exact ax.2.elim
    ·have J:=VL fO h1
     match vs,ml,fO,J with
     |[x],[y],ax,_=>exact ax.1
     |[],[],_,_=>exact ⟨_,rfl,arb⟩
     |x::y::l,gX::jd::kq,_,ax=>exact ⟨_,rfl,by simpa using ax⟩
     |[x],[],ax,_=>exact ax.elim
     |[x],_::_::_,ax,_=>exact ax.2.elim
     |[],_::_,ax,_=>exact ax.elim
     |_::_::_,[],ax,_=>exact ax.elim
     |_::_::_,[_],ax,_=>exact ax.2.elim
   have abY:∃qK,Post P j m w qK m' w'/\b9 qK (pack vs) (pack ml):=by
    rcases hm with rfl|⟨rfl,pK,hblk⟩
    ·exact ⟨bT,an,BV⟩
    ·have aby:=cr.lA hblk;have nY:Rel P (bT.below m.next) (m1.lA m.next) w':=Rel.below (m:=m1.lA m.next) an.rel aby (fun b e aa aN=>by
      have aN:b<m.next:=aN;simp[Mem.lA,aN])
     refine ⟨bT.below m.next,⟨nY,an.ec,aq3 _,fun b aa=> ?_,fun b e aa e4=> ?_,fun b aa ah=> ?_,fun b aa ah=> ?_⟩,wj.2.2 BV pK⟩
     ·simp only[bq.below,aa,if_true];exact an.ext b aa
     ·have:=(o5 aa).1;omega
     ·simp only[Mem.lA,aa,if_true] at ah;exact an.dg b aa ah
     ·simp only[Mem.lA,aa,if_true] at ah;exact an.alive b aa ah
   obtain ⟨qK,UG,UY⟩:=abY;rcases he with rfl|rfl
   ·exact ⟨kf.defers,_,Fw,_,qK,rfl,UG,UY⟩
   ·exact ⟨kf.defers,_,Fw,_,qK,rfl,UG,UY⟩
end Go.aS
end
section
namespace Go.aS
def xN (C lD:FuncId->Array aqR->Mem->aqR->Mem->Prop):Prop:=∀f args m v m',C f args m v m'->lD f args m v m'
theorem gE.mono {P:aqV} {C lD:FuncId->Array aqR->Mem->aqR->Mem->Prop} (bO:xN C lD) {af:aqX->aqR} {o:Oper} {m m':Mem} {v:aqR} (h:gE P C af o m v m'):gE P lD af o m v m':=by
 cases h with
 |store t x y b off i L e h U ae hm ad az ai=>exact .store t x y b off i L e h U ae hm ad az ai
 |call f args v m' h aba=>exact .call f args v m' h (bO _ _ _ _ _ aba)
 |vf x y t u e i a l c h ao ae U ab rO ag=>exact .vf x y t u e i a l c h ao ae U ab rO ag
 |rv x y t u e i z a l c n dg new h ao ae aE cg dp bC U ab ah jO ag aq aa hm=>exact .rv x y t u e i z a l c n dg new h ao ae aE cg dp bC U ab ah jO ag aq aa hm
 |x3 x y t u e i b off l c n L new h ao ae U dB ab hm ag aq ai=>exact .x3 x y t u e i b off l c n L new h ao ae U dB ab hm ag aq ai
 |append x y t u e i z b off l n L new h ao ae aE cg dp bC U fA tB ag aq aa hm=>exact .append x y t u e i z b off l n L new h ao ae aE cg dp bC U fA tB ag aq aa hm
 |copy x y t u e i b off l c L cs h ao ae U hm ag aq ai=>exact .copy x y t u e i b off l c L cs h ao ae U hm ag aq ai
 |mapUpdate gz x ij ix u kt vt b L bQ vc E E' fg h hf hu U fA aT k7 K BC nb yv aP hk aG lT BW rU BY e5=>exact .mapUpdate gz x ij ix u kt vt b L bQ vc E E' fg h hf hu U fA aT k7 K BC nb yv aP hk aG lT BW rU BY e5
theorem oD.mono {P:aqV} {C lD:FuncId->Array aqR->Mem->aqR->Mem->Prop} (bO:xN C lD) {af:aqX->aqR} {o:Oper} {m m':Mem} {v:aqR} (h:oD P C af o m v m'):oD P lD af o m v m':=by
 cases h with
 |pure h=>exact .pure h
 |read h=>exact .read h
 |new h=>exact .new h
 |e3 h=>exact .e3 (h.mono bO)
theorem Cn {P:aqV} {C lD:FuncId->Array aqR->Mem->aqR->Mem->Prop} (bO:xN C lD) {ops:List Oper}:∀(l:List Oper) (fr fr':Nat->aqR) (m m':Mem),jU P C ops l fr m fr' m'->jU P lD ops l fr m fr' m'
 |[],fr,fr',m,m',h=>h
 |o::l,fr,fr',m,m',h=>by
  simp only[jU] at h⊢;split at h
  ·rename_i hw;rw[if_pos hw];obtain ⟨v,m1,h1,J⟩:=h;exact ⟨v,m1,h1.mono bO,Cn bO l _ _ _ _ J⟩
  ·rename_i hw;rw[if_neg hw];exact Cn bO l _ _ _ _ h
theorem tW {P:aqV} {C lD:FuncId->Array aqR->Mem->aqR->Mem->Prop} (bO:xN C lD) {ops:List Oper} {B:Array Nat}:∀(l:List Oper) (i:Nat) (A:Acc) (fr fr':Nat->aqR) (m m':Mem),gx P C ops B i l A fr m fr' m'->gx P lD ops B i l A fr m fr' m'
 |[],i,A,fr,fr',m,m',h=>h
 |o::l,i,A,fr,fr',m,m',h=>by
  simp only[gx] at h⊢;split at h
  ·rename_i hw;rw[if_pos hw];rcases h with ⟨v,an,aB⟩|⟨v,an,ah,aB⟩|⟨X,v,an,aB⟩|⟨v,m1,an,h1,J,aB⟩
   ·exact .inl ⟨v,an,tW bO l _ _ _ _ _ _ aB⟩
   ·exact .inr (.inl ⟨v,an,ah,tW bO l _ _ _ _ _ _ aB⟩)
   ·exact .inr (.inr (.inl ⟨X,v,an,tW bO l _ _ _ _ _ _ aB⟩))
   ·exact .inr (.inr (.inr ⟨v,m1,an.mono bO,h1,J,tW bO l _ _ _ _ _ _ aB⟩))
  ·rename_i hw;rw[if_neg hw];exact tW bO l _ _ _ _ _ _ h
theorem Wm {P:aqV} {C lD:FuncId->Array aqR->Mem->aqR->Mem->Prop} (bO:xN C lD):∀(n n':Nat),n<=n'->∀(c:Code) (fr fr':Nat->aqR) (m m':Mem) (e:dX),ky P C n c fr m e fr' m'->ky P lD n' c fr m e fr' m':=by
 intro n;induction n with
 |zero=>intro n' _ c fr fr' m m' e h;exact h.elim
 |succ n a8=>
  intro n' aq c fr fr' m m' e h;cases n' with
  |zero=>omega
  |succ n'=>
   have k8:n<=n':=by omega
   cases c with
   |skip=>exact h
   |label l=>exact h
   |exit id=>exact h
   |ret=>exact h
   |region id ops d=>
    cases d with
    |false=>exact ⟨h.1,Cn bO _ _ _ _ _ h.2⟩
    |true=>exact ⟨h.1,tW bO _ _ _ _ _ _ _ h.2⟩
   |seq a b=>
    rcases h with ⟨aX,eU,m1,h1,J⟩|h
    rotate_left
    ·exact .inr h
    refine .inl ⟨aX,eU,m1,a8 n' k8 _ _ _ _ _ _ h1, ?_⟩;split at J
    ·rename_i he;rw[if_pos he];exact a8 n' k8 _ _ _ _ _ _ J
    ·rename_i he;rw[if_neg he];exact J
   |cond c a b=>obtain ⟨t,ao,h1⟩:=h;exact ⟨t,ao,a8 n' k8 _ _ _ _ _ _ h1⟩
   |scope c=>exact a8 n' k8 _ _ _ _ _ _ h
   |block id c=>obtain ⟨aX,h1,he⟩:=h;exact ⟨aX,a8 n' k8 _ _ _ _ _ _ h1,he⟩
   |loop c=>
    obtain ⟨aX,eU,m1,h1,J⟩:=h;refine ⟨aX,eU,m1,a8 n' k8 _ _ _ _ _ _ h1, ?_⟩;split at J
    ·rename_i he;rw[if_pos he];exact a8 n' k8 _ _ _ _ _ _ J
    ·rename_i he;rw[if_neg he];exact J
   |rangeFunc f bK x y=>exact h.elim
   |goto l=>exact h.elim
   |refuse s=>exact h.elim
theorem wk {P:aqV}:∀(n n':Nat),n<=n'->xN (h4 P n) (h4 P n'):=by
 intro n;induction n with
 |zero=>intro n' _ f args m v m' h;exact h.elim
 |succ n a8=>
  intro n' aq f args m v m' h;cases n' with
  |zero=>omega
  |succ n'=>
   rcases h with h|h
   ·exact .inl h
   obtain ⟨fn,c,e,fr,m1,vs,aP,aa,du,bC,jP,rest⟩:=h;exact .inr ⟨fn,c,e,fr,m1,vs,aP,aa,du,bC,Wm (a8 n' (by omega)) n n' (by omega) _ _ _ _ _ _ jP,rest⟩
def hx (P:aqV) (f:FuncId) (args:Array aqR) (m:Mem) (R:aqR->Mem->Prop):Prop:=∃n v m',h4 P n f args m v m'/\R v m'
def W (P:aqV) (c:Code) (Q:dX->(Nat->aqR)->Mem->Prop) (fr:Nat->aqR) (m:Mem):Prop:=∃n e fr' m',ky P (h4 P n) n c fr m e fr' m'/\Q e fr' m'
def mf (P:aqV) (af:aqX->aqR) (o:Oper) (m:Mem) (K:aqR->Mem->Prop):Prop:=∃n v m',oD P (h4 P n) af o m v m'/\K v m'
def fs (P:aqV) (ops l:List Oper) (K:(Nat->aqR)->Mem->Prop) (fr:Nat->aqR) (m:Mem):Prop:=∃n fr' m',jU P (h4 P n) ops l fr m fr' m'/\K fr' m'
def gq (P:aqV) (ops:List Oper) (B:Array Nat) (i:Nat) (l:List Oper) (A:Acc) (K:(Nat->aqR)->Mem->Prop) (fr:Nat->aqR) (m:Mem):Prop:=∃n fr' m',gx P (h4 P n) ops B i l A fr m fr' m'/\K fr' m'
section
variable {P:aqV} {Q AJ:dX->(Nat->aqR)->Mem->Prop} {fr:Nat->aqR} {m:Mem}
theorem hx.mono {f:FuncId} {args:Array aqR} {R Sz:aqR->Mem->Prop} (h:hx P f args m R) (aw:∀v m',R v m'->Sz v m'):hx P f args m Sz:=
 let ⟨n,v,m',h1,J⟩:=h;⟨n,v,m',h1,aw _ _ J⟩
theorem W.mono {c:Code} (h:W P c Q fr m) (aK:∀e fr m,Q e fr m->AJ e fr m):W P c AJ fr m:=
 let ⟨n,e,fr',m',h1,J⟩:=h;⟨n,e,fr',m',h1,aK _ _ _ J⟩
theorem W.skip (h:Q .normal fr m):W P .skip Q fr m:=⟨1,_,_,_,⟨rfl,rfl,rfl⟩,h⟩
theorem W.label {l:Nat} (h:Q .normal fr m):W P (.label l) Q fr m:=⟨1,_,_,_,⟨rfl,rfl,rfl⟩,h⟩
theorem W.exit {id:Nat} (h:Q (.exit id) fr m):W P (.exit id) Q fr m:=⟨1,_,_,_,⟨rfl,rfl,rfl⟩,h⟩
theorem W.ret (h:Q .ret fr m):W P .ret Q fr m:=⟨1,_,_,_,⟨rfl,rfl,rfl⟩,h⟩
def Zp (next:(Nat->aqR)->Mem->Prop) (Q:dX->(Nat->aqR)->Mem->Prop):dX->(Nat->aqR)->Mem->Prop
 | .normal,fr,m=>next fr m
 |e,fr,m=>Q e fr m
def oG (id:Nat) (Q:dX->(Nat->aqR)->Mem->Prop):dX->(Nat->aqR)->Mem->Prop
 | .exit yJ,fr,m=>if yJ=id then Q .normal fr m else Q (.exit yJ) fr m
 |e,fr,m=>Q e fr m
theorem p5 {n N k:Nat} (h:n<=N) (hk:n<=k) {c:Code} {fr fr':Nat->aqR} {m m':Mem} {e:dX} (ab:ky P (h4 P n) n c fr m e fr' m'):ky P (h4 P N) k c fr m e fr' m':=Wm (wk n N h) n k hk _ _ _ _ _ _ ab
theorem W.seq {a b:Code} (h:W P a (Zp (W P b Q) Q) fr m):W P (.seq a b) Q fr m:=by
 obtain ⟨n,e,eU,m1,h1,J⟩:=h;cases e with
 |normal=>obtain ⟨jr,e2,fu,m2,aj,aM⟩:=J;exact ⟨max n jr+1,e2,fu,m2, .inl ⟨_,_,_,p5 (by omega) (by omega) h1,by rw[if_pos rfl];exact p5 (by omega) (by omega) aj⟩,aM⟩
 |exit id=>exact ⟨n+1,_,eU,m1, .inl ⟨_,_,_,p5 (by omega) (by omega) h1,by rw[if_neg (by simp)];exact ⟨rfl,rfl,rfl⟩⟩,J⟩
 |ret=>exact ⟨n+1,_,eU,m1, .inl ⟨_,_,_,p5 (by omega) (by omega) h1,by rw[if_neg (by simp)];exact ⟨rfl,rfl,rfl⟩⟩,J⟩
theorem W.cond {c:aqX} {a b:Code} {t:Bool} (ao:aJ fr c= .bool t) (h:W P (if t then a else b) Q fr m):W P (.cond c a b) Q fr m:=by
 obtain ⟨n,e,eU,m1,h1,J⟩:=h;exact ⟨n+1,e,eU,m1,⟨t,ao,p5 (by omega) (by omega) h1⟩,J⟩
theorem W.block {id:Nat} {c:Code} (h:W P c (oG id Q) fr m):W P (.block id c) Q fr m:=by
 obtain ⟨n,e,eU,m1,h1,J⟩:=h;refine ⟨n+1,_,eU,m1,⟨e,p5 (by omega) (by omega) h1,rfl⟩, ?_⟩;cases e with
 |normal=>simpa[oG] using J
 |exit yJ=>
  simp only[oG] at J;by_cases he:yJ=id
  ·subst he;simpa using J
  ·simp only[he,if_false] at J;simp only[dX.exit.injEq,he,if_false];exact J
 |ret=>simpa[oG] using J
theorem W.scope {c:Code} (h:W P c Q fr m):W P (.scope c) Q fr m:=by
 obtain ⟨n,e,eU,m1,h1,J⟩:=h;exact ⟨n+1,e,eU,m1,(show ky P (h4 P (n+1)) n c fr m e eU m1 from p5 (by omega) (by omega) h1),J⟩
theorem W.ad2 {c:Code} (h:W P c (Zp (W P (.loop c) Q) Q) fr m):W P (.loop c) Q fr m:=by
 obtain ⟨n,e,eU,m1,h1,J⟩:=h;cases e with
 |normal=>obtain ⟨jr,e2,fu,m2,aj,aM⟩:=J;exact ⟨max n jr+1,e2,fu,m2,⟨_,_,_,p5 (by omega) (by omega) h1,by rw[if_pos rfl];exact p5 (by omega) (by omega) aj⟩,aM⟩
 |exit id=>exact ⟨n+1,_,eU,m1,⟨_,_,_,p5 (by omega) (by omega) h1,by rw[if_neg (by simp)];exact ⟨rfl,rfl,rfl⟩⟩,J⟩
 |ret=>exact ⟨n+1,_,eU,m1,⟨_,_,_,p5 (by omega) (by omega) h1,by rw[if_neg (by simp)];exact ⟨rfl,rfl,rfl⟩⟩,J⟩
theorem W.region {id:Nat} {ops:Array Oper} (h:fs P ops.toList ops.toList (Q .normal) fr m):W P (.region id ops aqT) Q fr m:=by
 obtain ⟨n,fr',m',h1,J⟩:=h;exact ⟨n+1, .normal,fr',m',⟨rfl,Cn (wk _ _ (arE _)) _ _ _ _ _ h1⟩,J⟩
theorem W.draw {id:Nat} {ops:Array Oper} (h:gq P ops.toList (arF ops) 0 ops.toList ⟨[],[],[]⟩ (Q .normal) fr m):W P (.region id ops aqQ) Q fr m:=by
 obtain ⟨n,fr',m',h1,J⟩:=h;exact ⟨n+1, .normal,fr',m',⟨rfl,tW (wk _ _ (arE _)) _ _ _ _ _ _ _ h1⟩,J⟩
end
section
variable {P:aqV} {ops l:List Oper} {K:(Nat->aqR)->Mem->Prop} {fr:Nat->aqR} {m:Mem} {o:Oper}
theorem fs.nil (h:K fr m):fs P ops [] K fr m:=⟨0,_,_,⟨rfl,rfl⟩,h⟩
theorem fs.skip (aG:wanted ops fr o=aqT) (h:fs P ops l K (set fr o.dst undef) m):fs P ops (o::l) K fr m:=by
 obtain ⟨n,fr',m',h1,J⟩:=h;refine ⟨n,fr',m', ?_,J⟩;simp only[jU];rw[if_neg (by simp[aG])];exact h1
theorem fs.cons (aG:wanted ops fr o=aqQ) (h:mf P (aJ fr) o m fun v m1=>fs P ops l K (set fr o.dst v) m1):fs P ops (o::l) K fr m:=by
 obtain ⟨n,v,m1,az,jr,fr',m',h1,J⟩:=h;refine ⟨max n jr,fr',m', ?_,J⟩;simp only[jU];rw[if_pos aG];exact ⟨v,m1,az.mono (wk _ _ (Nat.le_max_left _ _)),Cn (wk _ _ (Nat.le_max_right _ _)) _ _ _ _ _ h1⟩
theorem mf.pure {af:aqX->aqR} {R:aqR->Mem->Prop} {v:aqR} (h:cO P af o v) (hk:R v m):mf P af o m R:=⟨0,v,m, .pure h,hk⟩
theorem mf.read {af:aqX->aqR} {R:aqR->Mem->Prop} {v:aqR} (h:eS P af o m v) (hk:R v m):mf P af o m R:=⟨0,v,m, .read h,hk⟩
theorem mf.new {af:aqX->aqR} {R:aqR->Mem->Prop} {v:aqR} {X:a6} (h:hW P af o m.next X v) (hk:R v (m.push X)):mf P af o m R:=⟨0,v,_, .new h,hk⟩
theorem mf.e3 {af:aqX->aqR} {R:aqR->Mem->Prop} {v:aqR} {m':Mem} {n:Nat} (h:gE P (h4 P n) af o m v m') (hk:R v m'):mf P af o m R:=⟨n,v,m', .e3 h,hk⟩
end
theorem hx.enter {P:aqV} {f:FuncId} {fn:Func} {c:Code} {args:Array aqR} {m:Mem} {R:aqR->Mem->Prop} (aP:P.funcs[f]? =aqP fn) (aa:fn.body=aqP c) (du:mA P f=aqQ) (bC:args.size<=fn.ntmps)
  (h:W P c (fun e fr m1=>(e= .normal\/e= .ret)/\∃vs,o7 P fr m1 fn.results.toList vs/\(vs.length=1\/∀x∈vs,storable x=aqQ)/\
   (R (pack vs) m1\/(R (pack vs) (m1.lA m.next)/\low m.next (pack vs)/\∀b,b<m.next->m1.aH b=m.aH b\/qN m.next (m1.aH b))))
   (fun i=>(args++asf (fn.ntmps - args.size) undef).getD i undef) m):hx P f args m R:=by
 obtain ⟨n,e,fr,m1,h1,he,vs,ad,az,bp⟩:=h;rcases bp with bp|⟨bp,ai,vo⟩
 ·exact ⟨n+1,_,_, .inr ⟨fn,c,e,fr,m1,vs,aP,aa,du,bC,h1,he,ad,rfl,az, .inl rfl⟩,bp⟩
 ·exact ⟨n+1,_,_, .inr ⟨fn,c,e,fr,m1,vs,aP,aa,du,bC,h1,he,ad,rfl,az, .inr ⟨rfl,ai,vo⟩⟩,bp⟩
theorem hx.sort {P:aqV} {f:FuncId} {args:Array aqR} {m m':Mem} {v:aqR} {R:aqR->Mem->Prop} (du:mA P f=aqQ) (h:xT P f args m v m') (bp:R v m'):hx P f args m R:=⟨1,v,m', .inl ⟨du,h⟩,bp⟩
def gN (w:World):bq:=fun b=>if b<w.heap.size then aqP ⟨b,0,0,0⟩ else aqS
def xd (b:Nat):aqR->Option aqR
 | .slice (aqP _) 0 0=>aqP (.slice (aqP ⟨b,0,aqS⟩) 0 0)
 |_=>aqS
open Classical in
noncomputable def gU (w:World):Mem:={next:=w.heap.size,aH:=fun b=>if b<w.heap.size then .ro (fun i=>match w.cell? ⟨b,i,aqS⟩ with|some v=>if dy (gN w) v v then aqP v else xd b v|none=>aqS) else .dead}
theorem V8 {b:Nat} {v u:aqR} (h:xd b v=aqP u):∃a,v= .slice (aqP a) 0 0/\u= .slice (aqP ⟨b,0,aqS⟩) 0 0:=by
 unfold xd at h;split at h
 ·cases h;exact ⟨_,rfl,rfl⟩
 ·cases h
theorem zh {w:World} {b:Nat} {e:iL} (h:gN w b=aqP e):b<w.heap.size/\e.aH=b:=by
 unfold gN at h;split at h
 ·cases h;exact ⟨‹_›,rfl⟩
 ·cases h
theorem XT {w:World} {b:Nat} {e:iL} (h:gN w b=aqP e):e.dO=0:=by
 unfold gN at h;split at h
 ·cases h;rfl
 ·cases h
theorem afM {w:World} {b i:Nat} {v:aqR} (h:w.cell? ⟨b,i,aqS⟩=aqP v) (ad:dy (gN w) v v):(gU w).load b i=aqP v:=by
 have aN:b<w.heap.size:=World.block_lt_of_cell? w ⟨b,i,aqS⟩ h;simp[Mem.load,gU,aN,h,ad]
theorem Yc (w:World):WF (gU w) where
 dead:=fun b aa=>by have aa:w.heap.size<=b:=aa;simp[gU,show ¬b<w.heap.size by omega]
 low:=fun b=>by
  simp only[gU];split
  ·intro i v ae;simp only at ae;split at ae
   ·split at ae
    ·rename_i ad;cases ae;exact (G8 (fun b e h=>(zh h).1)).1 ad
    ·obtain ⟨a,_,rfl⟩:=V8 ae;assumption
   ·cases ae
  ·exact arb
theorem agI (P:aqV) (w:World):Rel P (gN w) (gU w) w:=by
 refine ⟨?_, ?_, ?_⟩
 ·intro b e aa;obtain ⟨h1,J⟩:=zh aa;exact ⟨h1,by rw[J];exact h1⟩
 ·intro b e aa;obtain ⟨h1,J⟩:=zh aa;simp only[gU,h1,if_true];intro i v ae;simp only at ae;have cell:∀u,w.cell? ⟨b,i,aqS⟩=aqP u->∃(cs:Array aqR) (t:aqY) (bg:Nat×Nat),w.heap[e.aH]? =aqP (.cells cs t bg)/\cs[i]? =aqP u:=by
   intro u hu;rw[J];simp only[as1] at hu;split at hu
   ·rename_i c t f ab;exact ⟨c,t,f,ab,by simpa using hu⟩
   ·cases hu
  split at ae
  ·rename_i u hu;obtain ⟨cs,t,bg,g1,g2⟩:=cell u hu;split at ae
   ·rename_i ad;cases ae;exact ⟨cs,t,bg,_,g1,by rw[XT aa,ara];exact g2,ad⟩
   ·obtain ⟨a,rfl,rfl⟩:=V8 ae;exact ⟨cs,t,bg,_,g1,by rw[XT aa,ara];exact g2,e,rfl,aa, .inr (.inr (.inr ⟨rfl,rfl,a,rfl⟩))⟩
  ·cases ae
 ·intro b b2 e bw aa ct ah;obtain ⟨h1,J⟩:=zh aa;simp[gU,h1,a6.hK] at ah
theorem aeF {P:aqV} (jN:P.follows .mixedOrders=aqQ) {f:FuncId} {args:Array aqR} {w:World} (tw:∀a∈args.toList,b9 (gN w) a a) (h:hx P f args (gU w) fun v _=>v= .bool aqQ):
  Calls P f args w fun e w'=>e= .returned (.bool aqQ)/\RowKit.Below w.heap.size w w':=by
 obtain ⟨n,v,m',h1,rfl⟩:=h;have az:=(F1 jN n).2 f args (gU w) _ m' h1 (gN w) w args (Yc w) (agI P w) (by
  have:∀l:List aqR,(∀a∈l,b9 (gN w) a a)->ba (b9 (gN w)) l l:=by
   intro l;induction l with
   |nil=>intro _;exact arb
   |cons a l a8=>intro h;exact ⟨h a (by simp),a8 fun b aa=>h b (by simp[aa])⟩
  exact this _ tw)
 refine az.2.mono ?_;rintro e w' ⟨aV,bT,rfl,an,ad⟩;have fO:=ad.bool;subst fO;refine ⟨rfl,an.ec.os,an.ec.tape,an.ec.output,an.ec.size,fun k hk=>an.ec.block k hk fun b e aa ah=> ?_⟩;obtain ⟨h1,J⟩:=zh aa;simp[gU,h1,a6.hK] at ah
end Go.aS
end
section
namespace Go.aS
def a6.fF:a6->Prop
 | .dead| .lock _ _ _ _=>False
 |_=>True
def a6.mem:a6->a6
 | .lock _ _ L t=> .own L t
 |b=>b
theorem a6.fF.ne {x:a6} (h:x.fF):x≠ .dead:=fun e=>by rw[e] at h;exact h
theorem a6.fF.mem {x:a6} (h:x.fF):x.mem=x:=by cases x<;>first|rfl|exact h.elim
def jW (z:Nat->a6) (m:Mem):Prop:=∀b,z b≠ .dead->m.aH b=(z b).mem/\b<m.next
theorem jW.fF {z:Nat->a6} {m:Mem} (h:jW z m) {b:Nat} (aa:(z b).fF):m.aH b=z b/\b<m.next:=by
 have:=h b aa.ne;rw[aa.mem] at this;exact this
def ew (z z':Nat->a6):Prop:=∀b,(z b).fF->z' b=z b
theorem ew.refl (z:Nat->a6):ew z z:=fun _ _=>rfl
theorem ew.trans {a b c:Nat->a6} (h:ew a b) (k:ew b c):ew a c:=fun x U=>by
 have h1:=h x U;rw[k x (by rw[h1];exact U),h1]
def kN (z:Nat->a6) (b o:Nat):Option aqR:=
 match z b with
 | .ro rd=>rd o
 | .own L _=>L[o]?
 | .map _ _=>aqS
 | .lock _ _ _ _=>aqS
 | .dead=>aqS
theorem CG {z:Nat->a6} {b o:Nat} {v:aqR} (h:kN z b o=aqP v):(z b).fF:=by
 unfold kN at h;cases aE:z b with
 |dead=>rw[aE] at h;cases h
 |lock _ _ _ _=>rw[aE] at h;cases h
 |_=>exact arb
theorem afU {z z':Nat->a6} (h:ew z z') {b o:Nat} {v:aqR} (ai:kN z b o=aqP v):kN z' b o=aqP v:=by
 have:=h b (CG ai);unfold kN at ai⊢;rw[this];exact ai
theorem Xy {z:Nat->a6} {m:Mem} (h:jW z m) {b o:Nat} {v:aqR} (ai:kN z b o=aqP v):m.load b o=aqP v:=by
 have:=(h b (CG ai).ne).1;rw[(CG ai).mem] at this;unfold kN at ai;unfold Mem.load;rw[this];exact ai
structure cf (ap:Type) where
 a1:Nat
 tid:aqY
 rd:(Nat->a6)->ap->List aqR->Prop
 len:∀z x cs,rd z x cs->cs.length=a1
 mono:∀z z',ew z z'->∀x cs,rd z x cs->rd z' x cs
 one:∀z x cs,rd z x cs->∀c∈cs,storable c=aqQ/\c.cells=#[c]
def nv (z:Nat->a6) (b o:Nat) (cs:List aqR):Prop:=∀(i:Nat) (u:aqR),cs[i]? =aqP u->kN z b (o+i)=aqP u
def p3 (L:List aqR) (o:Nat) (cs:List aqR):Prop:=∀(i:Nat) (u:aqR),cs[i]? =aqP u->L[o+i]? =aqP u
def ev {ap:Type} (T:cf ap) (z:Nat->a6) (xs:List ap) (v:aqR):Prop:=
 (v= .slice aqS 0 0/\xs=[])\/
 ∃b off c,v= .slice (aqP ⟨b,off,aqS⟩) xs.length c/\(z b).fF/\((c=dr/\∃L,z b= .own L T.tid/\off+xs.length*T.a1<=L.length)\/(c<dr/\xs.length<=c))/\
  ∀(i:Nat) (x:ap),xs[i]? =aqP x->∃cs,T.rd z x cs/\nv z b (off+i*T.a1) cs
theorem F6 {z z':Nat->a6} (h:ew z z') {b o:Nat} {cs:List aqR} (ab:nv z b o cs):nv z' b o cs:=fun i u ae=>afU h (ab i u ae)
theorem ev.mono {ap:Type} {T:cf ap} {z z':Nat->a6} (h:ew z z') {xs:List ap} {v:aqR} (az:ev T z xs v):ev T z' xs v:=by
 rcases az with az|⟨b,off,c,h1,J,aj,aM⟩
 ·exact .inl az
 ·refine .inr ⟨b,off,c,h1,by rw[h b J];exact J, ?_,fun i x ae=> ?_⟩
  ·rcases aj with ⟨aj,L,br,dt⟩|aj
   ·exact .inl ⟨aj,L,by rw[h b J];exact br,dt⟩
   ·exact .inr aj
  ·obtain ⟨cs,g1,g2⟩:=aM i x ae;exact ⟨cs,T.mono z z' h x cs g1,F6 h g2⟩
theorem ev.nil {ap:Type} {T:cf ap} {z:Nat->a6}:ev T z [] (.slice aqS 0 0):= .inl ⟨rfl,rfl⟩
theorem ev.len {ap:Type} {T:cf ap} {z:Nat->a6} {xs:List ap} {v:aqR} (h:ev T z xs v):∃a c,v= .slice a xs.length c:=by
 rcases h with ⟨rfl,rfl⟩|⟨b,off,c,rfl,_⟩
 ·exact ⟨_,_,rfl⟩
 ·exact ⟨_,_,rfl⟩
def cn:aqR->Option Nat
 | .slice (aqP a) _ _=>aqP a.block
 | .pointer (aqP a)=>aqP a.block
 |_=>aqS
def eI {ap:Type} (T:cf ap) (z:Nat->a6) (m:Mem) (xs:List ap) (v:aqR):Prop:=
 (v= .slice aqS 0 0/\xs=[])\/
 ∃b o L c,v= .slice (aqP ⟨b,o,aqS⟩) xs.length c/\m.aH b= .own L T.tid/\b<m.next/\z b= .dead/\o+xs.length*T.a1<=L.length/\(c=dr\/(c<dr/\xs.length<=c/\o+c*T.a1<=L.length))/\
  ∀(i:Nat) (x:ap),xs[i]? =aqP x->∃cs,T.rd z x cs/\p3 L (o+i*T.a1) cs
theorem eI.AY {ap:Type} {T:cf ap} {z:Nat->a6} {m:Mem} {xs:List ap} {v:aqR} (h:∃b L c,v= .slice (aqP ⟨b,0,aqS⟩) xs.length c/\m.aH b= .own L T.tid/\b<m.next/\z b= .dead/\xs.length*T.a1<=L.length/\(c=dr\/(c<dr/\xs.length<=c/\c*T.a1<=L.length))/\
  ∀(i:Nat) (x:ap),xs[i]? =aqP x->∃cs,T.rd z x cs/\p3 L (i*T.a1) cs):eI T z m xs v:=by
 obtain ⟨b,L,c,h1,J,aj,aM,br,dt,hb⟩:=h;exact .inr ⟨b,0,L,c,h1,J,aj,aM,by rw[ara];exact br,by rw[ara];exact dt,fun i x U=>by rw[ara];exact hb i x U⟩
theorem eI.nil {ap:Type} {T:cf ap} {z:Nat->a6} {m:Mem}:eI T z m [] (.slice aqS 0 0):= .inl ⟨rfl,rfl⟩
theorem eI.frame {ap:Type} {T:cf ap} {z:Nat->a6} {m m':Mem} {xs:List ap} {v:aqR} (h:eI T z m xs v) (aa:∀b,cn v=aqP b->b<m.next->m'.aH b=m.aH b/\b<m'.next):eI T z m' xs v:=by
 rcases h with h|⟨b,o,L,c,rfl,h1,J,aj,aM,br,dt⟩
 ·exact .inl h
 ·obtain ⟨g1,g2⟩:=aa b rfl J;exact .inr ⟨b,o,L,c,rfl,by rw[g1];exact h1,g2,aj,aM,br,dt⟩
theorem eI.lt {ap:Type} {T:cf ap} {z:Nat->a6} {m:Mem} {xs:List ap} {v:aqR} (h:eI T z m xs v):∀b,cn v=aqP b->b<m.next/\z b= .dead:=by
 rcases h with ⟨rfl,_⟩|⟨b,o,L,c,rfl,h1,J,aj,_⟩
 ·intro b aa;cases aa
 ·intro b2 aa;cases aa;exact ⟨J,aj⟩
theorem eI.len {ap:Type} {T:cf ap} {z:Nat->a6} {m:Mem} {xs:List ap} {v:aqR} (h:eI T z m xs v):∃a c,v= .slice a xs.length c:=by
 rcases h with ⟨rfl,rfl⟩|⟨b,o,L,c,rfl,_⟩
 ·exact ⟨_,_,rfl⟩
 ·exact ⟨_,_,rfl⟩
def ie (z:Nat->a6) (m:Mem) (p:Option Nat):Nat->a6:=fun b=>if p=aqP b then m.aH b else z b
theorem CS {z:Nat->a6} {m:Mem} {p:Option Nat} (h:∀b,p=aqP b->z b= .dead):ew z (ie z m p):=by
 intro b aa;unfold ie;split
 ·exact absurd (h b ‹_›) aa.ne
 ·rfl
theorem Hf {z:Nat->a6} {m:Mem} {p:Option Nat} (h:jW z m) (an:∀b,p=aqP b->b<m.next/\(m.aH b).mem=m.aH b):jW (ie z m p) m:=by
 intro b aa;unfold ie at aa⊢;split at aa
 ·rw[if_pos ‹_›];exact ⟨(an b ‹_›).2.symm,(an b ‹_›).1⟩
 ·rw[if_neg ‹_›];exact h b aa
theorem eI.anJ {ap:Type} {T:cf ap} {z:Nat->a6} {m:Mem} {xs:List ap} {v:aqR} (h:eI T z m xs v):ev T (ie z m (cn v)) xs v:=by
 rcases h with h|⟨b,o,L,c,rfl,h1,J,aj,aM,br,dt⟩
 ·exact .inl h
 ·have aE:ie z m (cn (.slice (aqP ⟨b,o,aqS⟩) xs.length c)) b= .own L T.tid:=by simp[ie,cn,h1]
  have hle:ew z (ie z m (cn (.slice (aqP ⟨b,o,aqS⟩) xs.length c))):=CS fun b2 ct=>by cases ct;exact aj
  refine .inr ⟨b,o,c,rfl,by rw[aE];exact arb, ?_,fun i x ae=> ?_⟩
  ·rcases br with rfl|⟨br,hb,hz⟩
   ·exact .inl ⟨rfl,L,aE,aM⟩
   ·exact .inr ⟨br,hb⟩
  ·obtain ⟨cs,g1,g2⟩:=dt i x ae;refine ⟨cs,T.mono _ _ hle x cs g1,fun k u hk=> ?_⟩;simp only[kN,aE];exact g2 k u hk
def en (p q:Option Nat):Prop:=∀b,p=aqP b->q≠aqP b
theorem en.symm {p q:Option Nat} (h:en p q):en q p:=fun b aK an=>h b an aK
theorem en.qQ {q:Option Nat}:en q Option.none:=fun _ _ h=>by cases h
structure cK (z:Nat->a6) (e m:Mem) (k:Option Nat):Prop where
 bg:jW z m
 dead:∀b,m.next<=b->m.aH b= .dead
 lI:∀b,e.next<=b->e.aH b= .dead
 next:e.next<=m.next
 kept:∀b,b<e.next->k≠aqP b->m.aH b=e.aH b
theorem cK.start {z:Nat->a6} {m:Mem} {k:Option Nat} (h:jW z m) (aB:∀b,m.next<=b->m.aH b= .dead):cK z m m k:=⟨h,aB,aB,aq3 _,fun _ _ _=>rfl⟩
theorem cK.push {z:Nat->a6} {e m:Mem} {k:Option Nat} (h:cK z e m k) (x:a6):cK z e (m.push x) k:=by
 refine ⟨fun b aa=> ?_,fun b aa=> ?_,h.lI,Nat.le_succ_of_le h.next,fun b aa hk=> ?_⟩
 ·have:=h.bg b aa;refine ⟨?_,atf this.2⟩;simp only[Mem.push];rw[if_neg (by omega)];exact this.1
 ·simp only[Mem.push] at aa⊢;rw[if_neg (by omega)];exact h.dead b (by omega)
 ·simp only[Mem.push];have:=h.next;rw[if_neg (by omega)];exact h.kept b aa hk
theorem cK.put {z:Nat->a6} {e m:Mem} {k:Option Nat} (h:cK z e m k) {b:Nat} (x:a6) (aE:z b= .dead) (aN:b<m.next) (aa:e.next<=b\/k=aqP b):cK z e (m.put b x) k:=by
 refine ⟨fun c ab=> ?_,fun c ab=> ?_,h.lI,h.next,fun c ab hk=> ?_⟩
 ·have:=h.bg c ab;refine ⟨?_,this.2⟩;simp only[Mem.put];rw[if_neg (fun dB=>ab (by rw[dB];exact aE))];exact this.1
 ·have ab:m.next<=c:=ab;simp only[Mem.put];rw[if_neg (by omega)];exact h.dead c ab
 ·simp only[Mem.put];rw[if_neg ?_]
  ·exact h.kept c ab hk
  ·intro dB;subst dB;rcases aa with aa|aa
   ·omega
   ·exact hk aa
structure e1 (m m':Mem) (k:Option Nat):Prop where
 next:m.next<=m'.next
 dead:∀b,m'.next<=b->m'.aH b= .dead
 aH:∀b,b<m.next->k≠aqP b->m'.aH b=m.aH b
theorem cK.same {z:Nat->a6} {e m m':Mem} {k q:Option Nat} (h:cK z e m k) (s:e1 m m' q) (aK:∀b,q=aqP b->z b= .dead/\(e.next<=b\/k=aqP b)):cK z e m' k:=by
 refine ⟨fun b aa=> ?_,s.dead,h.lI,arj h.next s.next,fun b aa hk=> ?_⟩
 ·have:=h.bg b aa;refine ⟨?_,aro this.2 s.next⟩;rw[s.aH b this.2 (fun oV=>aa (aK b oV).1)];exact this.1
 ·rw[s.aH b (aro aa h.next) (fun oV=> ?_)]
  ·exact h.kept b aa hk
  ·rcases (aK b oV).2 with cp|cp
   ·omega
   ·exact hk cp
theorem cK.anK {z:Nat->a6} {e m:Mem} (h:cK z e m aqS):m.lA e.next=e:=by
 have:(m.lA e.next).aH=e.aH:=by
  funext b;simp only[Mem.lA];split
  ·exact h.kept b ‹_› (by simp)
  ·exact (h.lI b (by omega)).symm
 cases e;simp only[Mem.lA] at this⊢;rw[this]
def cf.flat {ap:Type} (t:aqY) (f:ap->aqR) (aP:∀x,cv (f x)=aqQ):cf ap where
 a1:=1
 tid:=t
 rd:=fun _ x cs=>cs=[f x]
 len:=fun _ _ _ h=>by rw[h];rfl
 mono:=fun _ _ _ _ _ h=>h
 one:=fun _ x cs h c ab=>by rw[h] at ab;simp only[arO] at ab;subst ab;have:=aP x;cases U:f x<;>simp[U,cv] at this<;>first|exact ⟨rfl,rfl⟩|exact ⟨by simp[storable,this],rfl⟩
def str (s:List UInt8):aqR:= .string ⟨s.toArray⟩
def Eo (t:aqY) (k:aqW):cf Int:=cf.flat t (fun n=> .int k n) fun _=>rfl
def C7 (t:aqY):cf Bool:=cf.flat t (fun n=> .bool n) fun _=>rfl
def Ep (t:aqY):cf (List UInt8):=cf.flat t str fun _=>rfl
def Jz {ap:Type} (t:aqY) (T:cf ap):cf (List ap) where
 a1:=1
 tid:=t
 rd:=fun z xs cs=>∃v,cs=[v]/\ev T z xs v
 len:=fun _ _ _ h=>by obtain ⟨v,rfl,_⟩:=h;rfl
 mono:=fun _ _ h _ _ ax=>by obtain ⟨v,h1,J⟩:=ax;exact ⟨v,h1,J.mono h⟩
 one:=fun _ _ cs h c ab=>by obtain ⟨v,rfl,J⟩:=h;simp only[arO] at ab;subst ab;obtain ⟨a,n,rfl⟩:=J.len;exact ⟨rfl,rfl⟩
end Go.aS
end
section
namespace Go.aS
section
variable {P:aqV} {af:aqX->aqR} {o:Oper}
theorem so {x y:aqX} (h:o.op.operands=#[x,y]) {v:aqR} (az:∀cs b,o.op≠ .select cs b) (U:flat (af x)=aqQ) (ag:flat (af y)=aqQ) (ad:flat v=aqQ) (aw:∀w,(execOp af o).run P w= .ok (.value v) w):cO P af o v:=by
 refine .flat v az (fun z aE=> ?_) ad aw;rw[h] at aE;simp only[asY,aq6,asB,or_false] at aE;rcases aE with rfl|rfl
 ·exact U
 ·exact ag
theorem He {x:aqX} (h:o.op.operands=#[x]) {v:aqR} (az:∀cs b,o.op≠ .select cs b) (U:flat (af x)=aqQ) (ad:flat v=aqQ) (aw:∀w,(execOp af o).run P w= .ok (.value v) w):cO P af o v:=by
 refine .flat v az (fun z aE=> ?_) ad aw;rw[h] at aE;simp only[asY,aq6,asB,or_false] at aE;subst aE;exact U
theorem amv {x:aqX} {v:aqR} (h:o.op= .move x) (U:af x=v):cO P af o v:=U▸ .move x (.inl h)
theorem ah0 {x:aqX} {v:aqR} (h:o.op= .assign x) (U:af x=v):cO P af o v:=U▸ .move x (.inr h)
theorem Zm {c a b:aqX} {t:Bool} {v:aqR} (h:o.op= .pick c a b) (ab:af c= .bool t) (ad:(if t then af a else af b)=v):cO P af o v:=ad▸ .pick c a b t h ab
theorem W8 {x:aqX} {i:Nat} {vs:List aqR} {v:aqR} (h:o.op= .extract x i) (U:af x= .tuple vs.toArray) (ad:vs[i]? =aqP v):cO P af o v:= .extract x i _ v h U (by simpa using ad)
section
variable {x y:aqX} {t u:aqY} {k:aqW} {a b:Int}
theorem mD {op:BinOp} (h:o.op= .binOp op t x y u) (U:af x= .int k a) (ag:af y= .int k b) {v:aqR} (jo:∀w,(binOp op t (.int k a) (.int k b)).run P w= .ok v w) (ad:flat v=aqQ):cO P af o v:=by
 refine so (x:=x) (y:=y) (by rw[h];rfl) (by rw[h];intros;simp) (by rw[U];rfl) (by rw[ag];rfl) ad fun w=> ?_;have aG:(eqGuard op t x y (.int k a) (.int k b)).run P w= .ok () w:=by cases op<;>rfl
 simp only[execOp,h,U,ag,arl,aG,jo,arh,ary]
theorem mF {op:BinOp} (h1:op≠ .shl) (J:op≠ .shr) (w:World):(binOp op t (.int k a) (.int k b)).run P w=(match op with
   | .add| .sub| .mul=>Op.intArith op k a b
   | .quo| .rem=>Op.intDiv op k a b
   | .and| .or| .xor| .andNot=>Op.intBits op k a b
   |_=>Op.intCmp op a b).run P w:=by
 cases op<;>first|exact absurd rfl h1|exact absurd rfl J|(simp only[binOp,ne_eq,not_true_eq_false,if_false])
theorem aee (h:o.op= .binOp .add t x y u) (U:af x= .int k a) (ag:af y= .int k b):cO P af o (.int k (k.wrap (a+b))):=mD h U ag (fun w=>by rw[mF (by simp) (by simp)];rfl) rfl
theorem aeq (h:o.op= .binOp .sub t x y u) (U:af x= .int k a) (ag:af y= .int k b):cO P af o (.int k (k.wrap (a - b))):=mD h U ag (fun w=>by rw[mF (by simp) (by simp)];rfl) rfl
theorem ael (h:o.op= .binOp .mul t x y u) (U:af x= .int k a) (ag:af y= .int k b):cO P af o (.int k (k.wrap (a*b))):=mD h U ag (fun w=>by rw[mF (by simp) (by simp)];rfl) rfl
theorem Vt (h:o.op= .binOp .quo t x y u) (U:af x= .int k a) (ag:af y= .int k b) (aa:b≠0):cO P af o (.int k (k.wrap (a.tdiv b))):=mD h U ag (fun w=>by rw[mF (by simp) (by simp)];simp[Op.intDiv,aa]) rfl
theorem Vu (h:o.op= .binOp .rem t x y u) (U:af x= .int k a) (ag:af y= .int k b) (aa:b≠0):cO P af o (.int k (a.tmod b)):=mD h U ag (fun w=>by rw[mF (by simp) (by simp)];simp[Op.intDiv,aa]) rfl
def uw (op:BinOp) (k:aqW) (x y:Int):Int:=
 let a:=BitVec.ofInt k.bits x
 let b:=BitVec.ofInt k.bits y
 match op with
 | .and=>k.wrap (a&&&b).toNat
 | .or=>k.wrap (a|||b).toNat
 | .xor=>k.wrap (a ^^^ b).toNat
 |_=>k.wrap (a&&&~~~b).toNat
theorem aef (h:o.op= .binOp .and t x y u) (U:af x= .int k a) (ag:af y= .int k b):cO P af o (.int k (uw .and k a b)):=mD h U ag (fun w=>by rw[mF (by simp) (by simp)];rfl) rfl
theorem aep (h:o.op= .binOp .or t x y u) (U:af x= .int k a) (ag:af y= .int k b):cO P af o (.int k (uw .or k a b)):=mD h U ag (fun w=>by rw[mF (by simp) (by simp)];rfl) rfl
theorem aer (h:o.op= .binOp .xor t x y u) (U:af x= .int k a) (ag:af y= .int k b):cO P af o (.int k (uw .xor k a b)):=mD h U ag (fun w=>by rw[mF (by simp) (by simp)];rfl) rfl
theorem ahZ (h:o.op= .binOp .andNot t x y u) (U:af x= .int k a) (ag:af y= .int k b):cO P af o (.int k (uw .andNot k a b)):=mD h U ag (fun w=>by rw[mF (by simp) (by simp)];rfl) rfl
theorem aeg (h:o.op= .binOp .eql t x y u) (U:af x= .int k a) (ag:af y= .int k b):cO P af o (.bool (a==b)):=mD h U ag (fun w=>by rw[mF (by simp) (by simp)];rfl) rfl
theorem aen (h:o.op= .binOp .neq t x y u) (U:af x= .int k a) (ag:af y= .int k b):cO P af o (.bool (a !=b)):=mD h U ag (fun w=>by rw[mF (by simp) (by simp)];rfl) rfl
theorem aek (h:o.op= .binOp .lss t x y u) (U:af x= .int k a) (ag:af y= .int k b):cO P af o (.bool (decide (a<b))):=mD h U ag (fun w=>by rw[mF (by simp) (by simp)];rfl) rfl
theorem aej (h:o.op= .binOp .leq t x y u) (U:af x= .int k a) (ag:af y= .int k b):cO P af o (.bool (decide (a<=b))):=mD h U ag (fun w=>by rw[mF (by simp) (by simp)];rfl) rfl
theorem aei (h:o.op= .binOp .gtr t x y u) (U:af x= .int k a) (ag:af y= .int k b):cO P af o (.bool (decide (b<a))):=mD h U ag (fun w=>by rw[mF (by simp) (by simp)];rfl) rfl
theorem aeh (h:o.op= .binOp .geq t x y u) (U:af x= .int k a) (ag:af y= .int k b):cO P af o (.bool (decide (b<=a))):=mD h U ag (fun w=>by rw[mF (by simp) (by simp)];rfl) rfl
theorem ajh {op:BinOp} {aaa:aqW} (h:o.op= .binOp op t x y u) (U:af x= .int k a) (ag:af y= .int aaa b) (aa:0<=b) (jo:op= .shl\/op= .shr):
  cO P af o (.int k (if op= .shl then k.wrap (a*2 ^ (min b.toNat k.bits)) else a.fdiv (2 ^ (min b.toNat k.bits)))):=by
 refine so (x:=x) (y:=y) (by rw[h];rfl) (by rw[h];intros;simp) (by rw[U];rfl) (by rw[ag];rfl) rfl fun w=> ?_;have aq:¬b<0:=by omega
 rcases jo with rfl|rfl
 ·simp[execOp,h,U,ag,eqGuard,binOp,Op.shift,aq]
 ·simp[execOp,h,U,ag,eqGuard,binOp,Op.shift,aq]
theorem aeo {b:Bool} (h:o.op= .unOp .not t x) (U:af x= .bool b):cO P af o (.bool (!b)):=
 He (x:=x) (by rw[h];rfl) (by rw[h];intros;simp) (by rw[U];rfl) rfl fun w=>by simp only[execOp,h,U];rfl
theorem aem (h:o.op= .unOp .neg t x) (U:af x= .int k a):cO P af o (.int k (k.wrap (0 - a))):=
 He (x:=x) (by rw[h];rfl) (by rw[h];intros;simp) (by rw[U];rfl) rfl fun w=>by simp only[execOp,h,U];rfl
theorem am8 {d:TypeDesc} {dc:aqW} (h:o.op= .convert t u x) (ao:P.underlying t=aqP d) (hu:P.underlying u=aqP (.int dc)) (U:af x= .int k a):cO P af o (.int dc (dc.wrap a)):=
 He (x:=x) (by rw[h];rfl) (by rw[h];intros;simp) (by rw[U];rfl) rfl fun w=>by simp[execOp,h,U,convert,ed ao,ed hu,Conv.intToInt]
theorem amt {ts:Array aqY} (h:o.op= .call {callee:= .builtin .max,args:=#[x,y],argTypes:=ts}) (U:af x= .int k a) (ag:af y= .int k b):cO P af o (.int k (max a b)):=by
 refine so (x:=x) (y:=y) (by rw[h];rfl) (by rw[h];intros;simp) (by rw[U];rfl) (by rw[ag];rfl) rfl fun w=> ?_;have:(asG k (if b>a then b else a))= .int k (max a b):=by congr 1;split<;>omega
 rw[<-this];simp[execOp,h,U,ag,resolve,invoke,builtin,Builtin.max_,List.foldlM,Builtin.max2]
theorem amu {ts:Array aqY} (h:o.op= .call {callee:= .builtin .min,args:=#[x,y],argTypes:=ts}) (U:af x= .int k a) (ag:af y= .int k b):cO P af o (.int k (min a b)):=by
 refine so (x:=x) (y:=y) (by rw[h];rfl) (by rw[h];intros;simp) (by rw[U];rfl) (by rw[ag];rfl) rfl fun w=> ?_;have:(asG k (if b<a then b else a))= .int k (min a b):=by congr 1;split<;>omega
 rw[<-this];simp[execOp,h,U,ag,resolve,invoke,builtin,Builtin.min_,List.foldlM,Builtin.min2]
end
section
variable {x y:aqX} {t u:aqY} {s r:List UInt8}
theorem zf:(⟨s.toArray⟩:ByteArray).size=s.length:=by simp[ByteArray.size]
theorem amq {ts:Array aqY} (h:o.op= .call {callee:= .builtin .len,args:=#[x],argTypes:=ts}) (UW:ts[0]? =aqP t) (ao:P.underlying t=aqP .string) (U:af x=str s):cO P af o (.int .i64 s.length):=
 He (x:=x) (by rw[h];rfl) (by rw[h];intros;simp) (by rw[U];rfl) rfl fun w=>by simp[execOp,h,U,resolve,invoke,builtin,Builtin.len_,UW,str,ed ao,goInt,zf]
theorem ah1 {k:aqW} {n:Int} {c:UInt8} (h:o.op= .index t x y) (ao:P.underlying t=aqP .string) (U:af x=str s) (ag:af y= .int k n) (aI:0<=n) (ab:s[n.toNat]? =aqP c):cO P af o (.int .u8 c.toNat):=by
 refine so (x:=x) (y:=y) (by rw[h];rfl) (by rw[h];intros;simp) (by rw[U];rfl) (by rw[ag];rfl) rfl fun w=> ?_;have aG:(⟨s.toArray⟩:ByteArray)[n.toNat]? =aqP c:=by have aN:=(aqZ.1 ab).1;have J:=(aqZ.1 ab).2;rw[getElem?_pos (h:=by rw[zf];exact aN)];congr 1
 simp[execOp,h,U,ag,Instr.index,asIntOf,ed ao,str,aI,aG]
theorem aeR (i k:Nat):(⟨s.toArray⟩:ByteArray).extract i k=⟨((s.take k).drop i).toArray⟩:=by
 have:((⟨s.toArray⟩:ByteArray).extract i k).data=((s.take k).drop i).toArray:=by rw[ByteArray.data_extract];simp[atT]
 cases aa:(⟨s.toArray⟩:ByteArray).extract i k;rw[aa] at this;simp only at this;rw[this]
theorem ah2 {bG ae:Option aqX} {a b:Nat} (h:o.op= .slice t x bG ae aqS) (ao:P.underlying t=aqP .string) (U:af x=str s) (eZ:qY af bG a) (eg:om af ae s.length b)
  (h1:a<=b) (J:b<=s.length):cO P af o (str ((s.take b).drop a)):=by
 refine .flat _ (by rw[h];intros;simp) (fun z aE=> ?_) rfl fun w=> ?_
 ·rw[h] at aE;cases bG with
  |none=>cases ae with
   |none=>simp[aq4] at aE;subst aE;rw[U];rfl
   |some y=>
    obtain ⟨k,ag⟩:=eg;simp[aq4] at aE;rcases aE with rfl|rfl
    ·rw[U];rfl
    ·rw[ag];rfl
  |some q=>
   obtain ⟨dc,aK⟩:=eZ;cases ae with
   |none=>
    simp[aq4] at aE;rcases aE with rfl|rfl
    ·rw[U];rfl
    ·rw[aK];rfl
   |some y=>
    obtain ⟨k,ag⟩:=eg;simp[aq4] at aE;rcases aE with rfl|rfl|rfl
    ·rw[U];rfl
    ·rw[aK];rfl
    ·rw[ag];rfl
 ·have nU:(arJ aqT s.length s.length (bG.map af) (ae.map af) aqS).run P w= .ok (a,b,s.length) w:=by
   cases bG with
   |none=>
    simp only[qY] at eZ;subst eZ;cases ae with
    |none=>simp only[om] at eg;subst eg;simp[arJ]
    |some y=>obtain ⟨k,ag⟩:=eg;simp[arJ,ag,asl,asIntOf,J]
   |some q=>
    obtain ⟨dc,aK⟩:=eZ;cases ae with
    |none=>simp only[om] at eg;subst eg;simp[arJ,aK,asl,asIntOf,h1]
    |some y=>obtain ⟨k,ag⟩:=eg;simp[arJ,ag,aK,asl,asIntOf,h1,J]
  simp only[execOp,h,atq,arl,ed ao,arh,atU,atr,U,str,Option.isSome_none,arz,if_false,ary,zf,nU,aeR]
theorem wh {op:BinOp} (h:o.op= .binOp op t x y u) (U:af x=str s) (ag:af y=str r) (tI:op≠ .shl/\op≠ .shr) {v:aqR} (jo:∀w,(as4 op ⟨s.toArray⟩ ⟨r.toArray⟩).run P w= .ok v w) (ad:flat v=aqQ):cO P af o v:=by
 refine so (x:=x) (y:=y) (by rw[h];rfl) (by rw[h];intros;simp) (by rw[U];rfl) (by rw[ag];rfl) ad fun w=> ?_;have aG:(eqGuard op t x y (str s) (str r)).run P w= .ok () w:=by cases op<;>rfl
 have aa:(binOp op t (str s) (str r)).run P w= .ok v w:=by rw[<-jo w];cases op<;>first|exact absurd rfl tI.1|exact absurd rfl tI.2|rfl
 simp only[execOp,h,U,ag,arl,aG,aa,arh,ary]
def uM (s r:List UInt8):Bool:=Op.bytesLess s r
theorem zX (l:List UInt8):(⟨l.toArray⟩:ByteArray).toList=l:=by rw[Go.ByteArray.toList_eq]
theorem am' (h:o.op= .binOp .eql t x y u) (U:af x=str s) (ag:af y=str r):cO P af o (.bool (s==r)):=wh h U ag (by simp) (fun w=>by simp only[as4,zX];rfl) rfl
theorem amx (h:o.op= .binOp .neq t x y u) (U:af x=str s) (ag:af y=str r):cO P af o (.bool (!(s==r))):=wh h U ag (by simp) (fun w=>by simp only[as4,zX];rfl) rfl
theorem ams (h:o.op= .binOp .lss t x y u) (U:af x=str s) (ag:af y=str r):cO P af o (.bool (uM s r)):=wh h U ag (by simp) (fun w=>by simp only[as4,zX];rfl) rfl
theorem amr (h:o.op= .binOp .leq t x y u) (U:af x=str s) (ag:af y=str r):cO P af o (.bool (uM s r||(s==r))):=wh h U ag (by simp) (fun w=>by simp only[as4,zX];rfl) rfl
theorem amn (h:o.op= .binOp .gtr t x y u) (U:af x=str s) (ag:af y=str r):cO P af o (.bool (!(uM s r||(s==r)))):=wh h U ag (by simp) (fun w=>by simp only[as4,zX];rfl) rfl
theorem ana (h:o.op= .binOp .geq t x y u) (U:af x=str s) (ag:af y=str r):cO P af o (.bool (!uM s r)):=wh h U ag (by simp) (fun w=>by simp only[as4,zX];rfl) rfl
theorem ahK:(⟨s.toArray⟩:ByteArray)++(⟨r.toArray⟩:ByteArray)=⟨(s++r).toArray⟩:=by
 have:((⟨s.toArray⟩:ByteArray)++(⟨r.toArray⟩:ByteArray)).data=(s++r).toArray:=by rw[ByteArray.data_append];simp
 cases aa:(⟨s.toArray⟩:ByteArray)++(⟨r.toArray⟩:ByteArray);rw[aa] at this;simp only at this;rw[this]
theorem am7 (h:o.op= .binOp .add t x y u) (U:af x=str s) (ag:af y=str r) (ai:s.length+r.length<=9223372036854775807):cO P af o (str (s++r)):=wh h U ag (by simp) (fun w=>by
 simp only[as4,zf,as9.2 ai];rw[if_neg (by show ¬_>(9223372036854775807:Int);omega),ahK];rfl) rfl
theorem WR {op:BinOp} {a b:Bool} (h:o.op= .binOp op t x y u) (ao:P.underlying t=aqP .bool) (U:af x= .bool a) (ag:af y= .bool b) (jo:op= .eql\/op= .neq):cO P af o (.bool (if op= .eql then a==b else !(a==b))):=by
 refine so (x:=x) (y:=y) (by rw[h];rfl) (by rw[h];intros;simp) (by rw[U];rfl) (by rw[ag];rfl) rfl fun w=> ?_;have he:(Op.equal t (.bool a) (.bool b)).run P w= .ok (a==b) w:=by
  have aB:∀d:Nat,(as5 (d+1) t (.bool a) (.bool b)).run P w= .ok (a==b) w:=fun d=>by simp only[as5,arl,ed ao,arh,ary]
  exact aB 9999
 have aG:(eqGuard op t x y (.bool a) (.bool b)).run P w= .ok () w:=by rcases jo with rfl|rfl<;>rfl
 have aa:(binOp op t (.bool a) (.bool b)).run P w= .ok (.bool (if op= .eql then a==b else !(a==b))) w:=by
  rcases jo with rfl|rfl
  ·show (do pure (aqR.bool (<-Op.equal t (.bool a) (.bool b))):Sem aqR).run P w=_;simp only[arl,he,arh,ary,if_true]
  ·show (do pure (aqR.bool (!(<-Op.equal t (.bool a) (.bool b)))):Sem aqR).run P w=_;simp only[arl,he,arh,ary];rfl
 simp only[execOp,h,U,ag,arl,aG,aa,arh,ary]
theorem am9 {a b:Bool} (h:o.op= .binOp .eql t x y u) (ao:P.underlying t=aqP .bool) (U:af x= .bool a) (ag:af y= .bool b):cO P af o (.bool (a==b)):=WR h ao U ag (.inl rfl)
theorem amw {a b:Bool} (h:o.op= .binOp .neq t x y u) (ao:P.underlying t=aqP .bool) (U:af x= .bool a) (ag:af y= .bool b):cO P af o (.bool (!(a==b))):=WR h ao U ag (.inr rfl)
end
end
end Go.aS
end
section
namespace Go.aS
def aR {ap:Type} (xs:List ap) (i:Int):Option ap:=if 0<=i then xs[i.toNat]? else aqS
theorem o6 {ap:Type} {xs:List ap} {i:Int} {x:ap} (h:aR xs i=aqP x):0<=i/\i<xs.length/\xs[i.toNat]? =aqP x:=by
 unfold aR at h;split at h
 ·have:=(aqZ.1 h).1;exact ⟨‹_›,by omega,h⟩
 ·cases h
def aag (z:Nat->a6) (p:aqR) (cs:List aqR):Prop:=∃b o,p= .pointer (aqP ⟨b,o,aqS⟩)/\nv z b o cs
def Q2 (m:Mem) (p:aqR) (cs:List aqR):Prop:=∃b o,p= .pointer (aqP ⟨b,o,aqS⟩)/\∀(i:Nat) (u:aqR),cs[i]? =aqP u->m.load b (o+i)=aqP u
section
variable {P:aqV} {af:aqX->aqR} {o:Oper} {ap:Type} {T:cf ap} {z:Nat->a6} {m:Mem} {xs:List ap} {v:aqR} {x y:aqX} {t e u:aqY} {i:TypeInfo} {d:TypeDesc}
theorem Hb {b:Nat}:∀(n off:Nat) (cs:List aqR),cs.length=n->(∀(i:Nat) (u:aqR),cs[i]? =aqP u->m.load b (off+i)=aqP u)->jz m b off n=aqP cs
 |0,off,cs,ai,_=>by rw[asr ai];rfl
 |n+1,off,c::cs,ai,h=>by
  have aI:=h 0 c (by simp);have a8:=Hb n (off+1) cs (by simpa using ai) fun i u ae=>by have:=h (i+1) u (by simpa using ae);rw[show off+1+i=off+(i+1) by omega];exact this
  simp only[arC] at aI;simp only[jz,aI,a8]
 |n+1,off,[],ai,_=>by simp at ai
theorem amp {k:aqW} {n:Int} {a:ap} (h:o.op= .indexAddr t x y) (ao:P.underlying t=aqP (.slice e)) (ae:P.info? e=aqP i) (bC:i.size=T.a1) (U:af x=v) (ag:af y= .int k n) (az:ev T z xs v) (aG:aR xs n=aqP a):
  ∃p cs,cO P af o p/\T.rd z a cs/\aag z p cs:=by
 obtain ⟨aI,h1,J⟩:=o6 aG;rcases az with ⟨_,rfl⟩|⟨b,off,c,rfl,_,_,aM⟩
 ·simp at J
 ·obtain ⟨cs,g1,g2⟩:=aM _ a J;exact ⟨_,cs, .indexAddr t x y e i b off _ c k n h ao ae U ag aI h1,g1,b,_,rfl,by rw[bC];exact g2⟩
def aak (s:Nat) (v:aqR) (n:Nat) (p:aqR):Prop:=∃b f0 l c,v= .slice (aqP ⟨b,f0,aqS⟩) l c/\p= .pointer (aqP ⟨b,f0+n*s,aqS⟩)
theorem amo {k:aqW} {n:Int} {a:ap} (h:o.op= .indexAddr t x y) (ao:P.underlying t=aqP (.slice e)) (ae:P.info? e=aqP i) (bC:i.size=T.a1) (U:af x=v) (ag:af y= .int k n) (az:eI T z m xs v) (aG:aR xs n=aqP a):
  ∃p cs,cO P af o p/\T.rd z a cs/\Q2 m p cs/\aak T.a1 v n.toNat p:=by
 obtain ⟨aI,h1,J⟩:=o6 aG;rcases az with ⟨_,rfl⟩|⟨b,f0,L,c,rfl,aa,_,_,ai,_,aM⟩
 ·simp at J
 ·obtain ⟨cs,g1,g2⟩:=aM _ a J;refine ⟨_,cs, .indexAddr t x y e i b f0 _ c k n h ao ae U ag aI h1,g1,⟨b,_,rfl,fun j u ar=> ?_⟩,⟨b,f0,_,c,rfl,by rw[bC]⟩⟩;simp only[Mem.load,aa,bC];exact g2 j u ar
def fV {ap:Type} (xs:List ap) (a b:Int):Option (List ap):=if 0<=a/\a<=b/\b<=xs.length then aqP ((xs.take b.toNat).drop a.toNat) else aqS
theorem NM {xs:List ap} {a b:Int} {r:List ap} (h:fV xs a b=aqP r):0<=a/\a<=b/\b<=xs.length/\r=(xs.take b.toNat).drop a.toNat:=by
 unfold fV at h;split at h
 ·rename_i ab;cases h;exact ⟨ab.1,ab.2.1,ab.2.2,rfl⟩
 ·cases h
def yM (af:aqX->aqR) (bG:Option aqX) (n:Int):Prop:=
 match bG with
 |none=>n=0
 |some y=>∃k,af y= .int k n
def zw (af:aqX->aqR) (ae:Option aqX) (l:Nat) (n:Int):Prop:=
 match ae with
 |none=>n=l
 |some y=>∃k,af y= .int k n
theorem G4 {af:aqX->aqR} {bG:Option aqX} {n:Nat} (h:yM af bG n):qY af bG n:=by
 cases bG with
 |none=>simp only[yM] at h;simp only[qY];omega
 |some y=>exact h
theorem Gw {af:aqX->aqR} {ae:Option aqX} {l n:Nat} (h:zw af ae l n):om af ae l n:=by
 cases ae with
 |none=>simp only[zw] at h;simp only[om];omega
 |some y=>exact h
theorem G1 {xs:List ap} {a b k:Nat} {r:ap} (h:((xs.take b).drop a)[k]? =aqP r):xs[a+k]? =aqP r:=by
 rw[ar0,arD] at h;split at h
 ·exact h
 ·cases h
theorem YA {P:aqV} {C:FuncId->Array aqR->Mem->aqR->Mem->Prop} {b off:Nat} {L cs:List aqR} (h:o.op= .store t x y) (ae:P.info? t=aqP i) (U:af x= .pointer (aqP ⟨b,off,aqS⟩)) (hm:m.aH b= .own L e) (ad:storable (af y)=aqQ) (hC:(af y).cells.toList=cs) (az:cs.length=i.size) (ai:off+cs.length<=L.length):
  gE P C af o m undef (m.put b (.own (eT L off cs) e)):=by
 subst hC;exact .store t x y b off i L e h U ae hm ad (by simpa using az) (by rw[<-az];exact ai)
theorem CM {b:Nat} {x:a6} (aB:∀b,m.next<=b->m.aH b= .dead) (aa:b<m.next):e1 m (m.put b x) (aqP b):=by
 refine ⟨aq3 _,fun c ab=> ?_,fun c ab hk=> ?_⟩
 ·have ab:m.next<=c:=ab;simp only[Mem.put];rw[if_neg (by omega)];exact aB c ab
 ·simp only[Mem.put];rw[if_neg (fun h=>hk (by rw[h]))]
theorem Cx {x:a6} (aB:∀b,m.next<=b->m.aH b= .dead):e1 m (m.push x) aqS:=by
 refine ⟨arE _,fun c ab=> ?_,fun c ab _=> ?_⟩
 ·simp only[Mem.push] at ab⊢;rw[if_neg (by omega)];exact aB c (by omega)
 ·simp only[Mem.push];rw[if_neg (by omega)]
theorem eI.same {m':Mem} {q:Option Nat} (h:eI T z m xs v) (s:e1 m m' q) (dv:en (cn v) q):eI T z m' xs v:=
 h.frame fun b aa aN=>⟨s.aH b aN (fun aK=>dv b aa aK),aro aN s.next⟩
theorem agW {m':Mem} {q:Option Nat} {b:Nat} {X:a6} (h:m.aH b=X) (aa:b<m.next) (s:e1 m m' q) (dv:q≠aqP b):m'.aH b=X/\b<m'.next:=⟨by rw[s.aH b aa dv];exact h,aro aa s.next⟩
theorem eI.store {n:Nat} {a a':ap} {cs cs':List aqR} {f:Nat} {new:List aqR} {b f0 l c:Nat} (az:eI T z m xs v) (aB:∀b,m.next<=b->m.aH b= .dead) (ad:v= .slice (aqP ⟨b,f0,aqS⟩) l c) (au:xs[n]? =aqP a) (aw:T.rd z a cs) (ab:Q2 m (.pointer (aqP ⟨b,f0+n*T.a1,aqS⟩)) cs) (ng:T.rd z a' cs') (hC:cs'=eT cs f new) (aP:f+new.length<=cs.length):
  ∃L,m.aH b= .own L T.tid/\f0+n*T.a1+f+new.length<=L.length/\eI T z (m.put b (.own (eT L (f0+n*T.a1+f) new) T.tid)) (xs.set n a') v/\e1 m (m.put b (.own (eT L (f0+n*T.a1+f) new) T.tid)) (aqP b):=by
 rcases az with ⟨rfl,_⟩|⟨b2,f1,L,bP,mx,aa,aN,aE,ai,jZ,hZ⟩
 ·cases ad
 ·subst ad;simp only[aqR.slice.injEq,ark.injEq,Addr.mk.injEq,and_true] at mx;obtain ⟨⟨rfl,rfl⟩,rfl,rfl⟩:=mx;have aq:n<xs.length:=(aqZ.1 au).1;have hlen:=T.len z a cs aw;have yy:=T.len z a' cs' ng;have qB:f0+n*T.a1+T.a1<=L.length:=by
   have:(n+1)*T.a1<=xs.length*T.a1:=ar9 _ aq;rw[arm,asp] at this;omega
  have cB:(eT L (f0+n*T.a1+f) new).length=L.length:=o8 _ _ _;refine ⟨L,aa,by omega, .inr ⟨b,f0,eT L (f0+n*T.a1+f) new,c,by simp,by simp[Mem.put],aN,aE,by rw[cB];simpa using ai,by rw[cB];simpa using jZ,fun k w hk=> ?_⟩,CM aB aN⟩;rw[List.getElem?_set] at hk;by_cases rM:n=k
  ·subst rM;simp[aq] at hk;subst hk;refine ⟨cs',ng,fun q u aK=> ?_⟩;have UM:=(aqZ.1 aK).1;rw[hC,oj _ _ _ _ aP] at aK;rw[oj _ _ _ _ (by omega)];by_cases fz:f<=q/\q<f+new.length
   ·rw[if_pos fz] at aK;rw[if_pos (by omega),show f0+n*T.a1+q - (f0+n*T.a1+f)=q - f by omega];exact aK
   ·rw[if_neg fz] at aK;rw[if_neg (by omega)];obtain ⟨gA,gV,an,abN⟩:=ab;simp only[aqR.pointer.injEq,ark.injEq,Addr.mk.injEq,and_true] at an;obtain ⟨rfl,rfl⟩:=an;have:=abN q u aK;simp only[Mem.load,aa] at this;exact this
  ·rw[if_neg rM] at hk;obtain ⟨TE,g1,g2⟩:=hZ k w hk;refine ⟨TE,g1,fun q u aK=> ?_⟩;have UM:=(aqZ.1 aK).1;rw[T.len z w TE g1] at UM;rw[oj _ _ _ _ (by omega)];have lQ:¬(f0+n*T.a1+f<=f0+k*T.a1+q/\f0+k*T.a1+q<f0+n*T.a1+f+new.length):=by
    rcases Nat.lt_or_gt_of_ne rM with cp|cp
    ·have:(n+1)*T.a1<=k*T.a1:=ar9 _ cp;rw[arm,asp] at this;omega
    ·have:(k+1)*T.a1<=n*T.a1:=ar9 _ cp;rw[arm,asp] at this;omega
   rw[if_neg lQ];exact g2 q u aK
end
end Go.aS
end
