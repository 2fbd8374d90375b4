import Derived.Calls
import Derived.Orders
import Derived.Tactics
import Derived.Below
import Derived.WalkKit
import Derived.WalkSpells
import Derived.Scope
set_option linter.unusedSimpArgs false
set_option linter.unusedVariables false
open Array renaming ext'->asc,ext_getElem?->at4,foldl_toList->aug,getD->asZ,getD_eq_getD_getElem?->atL,getElem?_append_left->atx,getElem?_eq_some_iff->ar9,getElem?_modify->at5,getElem?_push->at0,getElem?_setIfInBounds_ne->at1,getElem?_setIfInBounds_self_of_lt->auy,getElem?_toList->as4,getElem_setIfInBounds->auz,isEmpty_iff->at6,mem_of_getElem?->as5,range->asW,replicate->asl,toList_append->auj,toList_extract->auh,toList_map->asJ
open Bool renaming and_eq_true->ara,false_eq_true->arE,not_eq_true'->ar8,or_eq_true->ar7,false->aqZ,true->aqW
open Go renaming IntKind->aq2,Operand->aq3,Program->aq1,TypeId->aq4,Value->aqX
open Go.Builtin renaming append_->asX,firstCells->asB,lenOf->atj,zeroCells->atz
open Go.Call renaming operands->ar4
open Go.Conv renaming bytesToString->aui
open Go.Instr renaming lookup->atw,mapUpdate->auk,slice->atv,sliceAt->atu,sliceBound->asr,sliceBounds->arO,sureAddr->atG
open Go.IntKind renaming wrap->aq6
open Go.Op renaming equalIn->ata,operands->aq',stringOp->as'
open Go.Oper renaming wp->asY
open Go.Program renaming cellsOf->ar5
open Go.Question renaming forced->at2
open Go.Region renaming before->arM,binds->asN,ready->atB,wanted->atJ
open Go.Result renaming andThen_ok->arn
open Go.Sem renaming run_bind->ars,run_pure->arF
open Go.Value renaming int->asK
open Go.World renaming cell?->as7,freeze->at3
open List renaming all_cons->arR,all_eq_true->arc,eq_nil_of_length_eq_zero->asw,ext_getElem?->asL,extract_eq_drop_take'->atY,filter_cons->asO,flatMap_cons->asn,getElem?_cons_succ->asC,getElem?_cons_zero->as9,getElem?_drop->ar6,getElem?_eq_some_iff->aq5,getElem?_map->arH,getElem?_take->arK,getElem?_toArray->atI,length_append->aro,length_cons->arw,length_drop->asa,length_nil->asV,length_take->arG,map_cons->arN,mem_append->arj,mem_cons->arb,mem_filter->atC,mem_flatMap->asD,mem_map->arf,mem_of_getElem?->are,mem_of_mem_drop->atn,mem_of_mem_take->atm,mem_range->asb,mem_singleton->arX,mem_toArray->as3,not_mem_nil->asF,range->arC,replicate->arx,take_zero->aty
open Nat renaming add_assoc->arD,add_eq_left->at7,add_mul->art,add_zero->arJ,le_of_lt->ar2,le_refl->aq9,le_succ->arL,le_trans->arq,lt_irrefl->atg,lt_of_le_of_lt->as6,lt_of_lt_of_le->aru,lt_or_ge->arQ,lt_succ_of_lt->atk,lt_succ_self->arU,lt_trichotomy->asE,min->asI,mul_le_mul_right->asf,not_lt->atf,one_mul->asv,one_ne_zero->atH,zero_add->arh,zero_le->asd,zero_mul->ase
open Option renaming getD_some->asm,map_none->atZ,map_some->asz,some->arr,none->aqY,some->aqV
open True renaming intro->ari
section
namespace Go.aS
def dr:Nat:=9223372036854775808
structure iR where
 aG:Nat
 cap:Nat
 es:Nat
 dM:Nat
def bo:Type:=Nat->Option iR
inductive a6 where
 |dead
 |ro (rd:Nat->Option aqX)
 |own (cells:List aqX) (elem:aq4)
 |map (cells:List aqX) (type:aq4)
 |lock (nest at_:Nat) (cells:List aqX) (elem:aq4)
def a6.hM:a6->Bool
 | .own _ _| .map _ _=>aqW
 |_=>aqZ
def a6.live:a6->Bool
 | .dead=>aqZ
 |_=>aqW
structure Mem where
 next:Nat
 aG:Nat->a6
def Mem.load (m:Mem) (b o:Nat):Option aqX:=
 match m.aG b with
 | .ro rd=>rd o
 | .own L _=>L[o]?
 | .map _ _=>aqY
 | .lock _ _ _ _=>aqY
 | .dead=>aqY
def Mem.put (m:Mem) (b:Nat) (x:a6):Mem:={m with aG:=fun i=>if i=b then x else m.aG i}
def Mem.push (m:Mem) (x:a6):Mem:={next:=m.next+1,aG:=fun i=>if i=m.next then x else m.aG i}
def Mem.lK (m:Mem) (n:Nat):Mem:={next:=n,aG:=fun i=>if i<n then m.aG i else .dead}
def ba {au bz:Type} (R:au->bz->Prop):List au->List bz->Prop
 |[],[]=>True
 |a::l,b::k=>R a b/\ba R l k
 |_,_=>False
def ju (j:bo):aqX->aqX->Prop
 | .pointer (aqV a),aV=>∃e,a.spot=aqY/\j a.block=aqV e/\aV= .pointer (aqV ⟨e.aG,e.dM+a.off,aqY⟩)
 |_,_=>False
def dC (j:bo):aqX->aqX->Prop
 | .pointer (aqV a),aV=>∃e,a.spot=aqY/\j a.block=aqV e/\aV= .pointer (aqV ⟨e.aG,e.dM+a.off,aqY⟩)
 | .slice (aqV a) l c,aV=>∃e,a.spot=aqY/\j a.block=aqV e/\
   ((c<dr/\aV= .slice (aqV ⟨e.aG,e.dM+a.off,aqY⟩) l c)\/
    (c=dr/\0<e.es/\l<=e.cap - a.off / e.es/\e.cap<dr/\a.off%e.es=0/\a.off / e.es<=e.cap/\aV= .slice (aqV ⟨e.aG,e.dM+a.off,aqY⟩) l (e.cap - a.off / e.es))\/
    (c=dr/\l=0/\∃o',aV= .slice (aqV ⟨e.aG,o',aqY⟩) 0 0)\/
    (c=0/\l=0/\∃a',aV= .slice (aqV a') 0 0))
 | .map (aqV r),aV=>∃e,j r=aqV e/\aV= .map (aqV e.aG)
 | .func fn bc cs,aV=>bc=#[]/\∃ds:Array aqX,aV= .func fn #[] ds/\ba (ju j) cs.toList ds.toList
 | .chan _,_| .iface ..,_| .agg _,_| .tuple _,_=>False
 |v,aV=>aV=v
def ey (j:bo):aqX->aqX->Prop
 | .agg cs,aV=>∃ds:Array aqX,aV= .agg ds/\ba (dC j) cs.toList ds.toList
 |v,aV=>dC j v aV
def cb (j:bo):aqX->aqX->Prop
 | .chan _,aV=>∀b,aV≠ .bool b
 | .tuple cs,aV=>∃ds:Array aqX,aV= .tuple ds/\ba (ey j) cs.toList ds.toList
 | .func fn bc cs,aV=>∃gs ds:Array aqX,aV= .func fn gs ds/\ba (ey j) bc.toList gs.toList/\ba (ey j) cs.toList ds.toList
 |v,aV=>ey j v aV
def cx:aqX->Bool
 | .bool _| .int _ _| .float _ _| .complex _ _ _| .string _| .pointer aqY| .slice aqY _ _| .map aqY| .nilFunc| .nilIface=>aqW
 | .func _ bc cs=>bc.isEmpty&&cs.isEmpty
 |_=>aqZ
def jL:TypeDesc->Bool
 | .struct _| .array _ _=>aqW
 |_=>aqZ
def cW (P:aq1) (t:aq4):Bool:=
 match P.underlying t with
 |some d=>jL d
 |none=>aqZ
def c4:Bool->List aqX->aqX
 |true,cs=> .agg cs.toArray
 |false,cs=>cs.headD undef
structure nJ (ks vs:Nat) (L:List aqX) (E:List (List aqX×List aqX)):Prop where
 eq:L=E.flatMap fun p=>p.1++p.2
 len:∀p∈E,p.1.length=ks/\p.2.length=vs
def rr (P:aq1) (j:bo) (kt vt:aq4) (p:List aqX×List aqX) (x:MapEntry):Prop:=
 x.key=c4 (cW P kt) p.1/\p.1.all cx=aqW/\ey j (c4 (cW P vt) p.2) x.val
def wO (cs:Array MapEntry) (clock:Nat):Prop:=(cs.toList.map (·.born)).Nodup/\∀x∈cs.toList,x.born<clock
def nM (P:aq1) (j:bo) (e:iR) (o:Option Obj):a6->Prop
 | .dead=>True
 | .ro rd=>∀i v,rd i=aqV v->∃(cs:Array aqX) (t:aq4) (bg:Nat×Nat) (aV:aqX),o=aqV (.cells cs t bg)/\cs[e.dM+i]? =aqV aV/\dC j v aV
 | .own L t=>∃(cs:Array aqX) (bg:Nat×Nat),o=aqV (.cells cs t bg)/\(∀i:Nat,i<cs.size->¬(bg.1<=i/\i<bg.2))/\
  P.cellsOf t=e.es/\e.dM+e.cap*e.es<=cs.size/\L.length<=e.cap*e.es/\∀(i:Nat) (v:aqX),L[i]? =aqV v->∃aV,cs[e.dM+i]? =aqV aV/\dC j v aV
 | .map L u=>∃(kt vt:aq4) (cs:Array MapEntry) (clock:Nat) (E:List (List aqX×List aqX)),o=aqV (.map cs clock)/\P.underlying u=aqV (.map kt vt)/\
  nJ (P.cellsOf kt) (P.cellsOf vt) L E/\ba (rr P j kt vt) E cs.toList/\wO cs clock
 | .lock _ _ _ _=>False
structure Rel (P:aq1) (j:bo) (m:Mem) (w:World):Prop where
 lt:∀b e,j b=aqV e->b<m.next/\e.aG<w.heap.size
 obj:∀b e,j b=aqV e->nM P j e w.heap[e.aG]? (m.aG b)
 inj:∀b b6 e bx,j b=aqV e->j b6=aqV bx->(m.aG b).hM=aqW->(m.aG b6).live=aqW->e.aG=bx.aG->b=b6
structure vg (j:bo) (m:Mem) (w w':World):Prop where
 os:w'.os=w.os
 tape:w'.tape=w.tape
 output:w'.output=w.output
 size:w.heap.size<=w'.heap.size
 block:∀c,c<w.heap.size->(∀b e,j b=aqV e->(m.aG b).hM=aqW->e.aG≠c)->w'.heap[c]? =w.heap[c]?
structure Post (P:aq1) (j:bo) (m:Mem) (w:World) (bX:bo) (m':Mem) (w':World):Prop where
 rel:Rel P bX m' w'
 ed:vg j m w w'
 next:m.next<=m'.next
 ext:∀b,b<m.next->bX b=j b
 fresh:∀b e,bX b=aqV e->m.next<=b->w.heap.size<=e.aG\/∃df dt,j df=aqV dt/\(m.aG df).hM=aqW/\dt.aG=e.aG
 dh:∀b,b<m.next->(m'.aG b).hM=aqW->(m.aG b).hM=aqW
 alive:∀b,b<m.next->(m'.aG b).live=aqW->(m.aG b).live=aqW
theorem ba.mono {au bz:Type} {R S:au->bz->Prop} (h:∀a b,R a b->S a b):∀{l:List au} {k:List bz},ba R l k->ba S l k
 |[],[],_=>ari
 |_::_,_::_,⟨h1,J⟩=>⟨h _ _ h1,ba.mono h J⟩
 |[],_::_,h=>h.elim
 |_::_,[],h=>h.elim
theorem ba.length {au bz:Type} {R:au->bz->Prop}:∀{l:List au} {k:List bz},ba R l k->l.length=k.length
 |[],[],_=>rfl
 |_::l,_::k,⟨_,J⟩=>by simp[ba.length J]
 |[],_::_,h=>h.elim
 |_::_,[],h=>h.elim
theorem ba.get {au bz:Type} {R:au->bz->Prop}:∀{l:List au} {k:List bz} (_:ba R l k) (i:Nat) (a:au),l[i]? =aqV a->∃b,k[i]? =aqV b/\R a b
 |[],[],_,i,a,h=>by simp at h
 |x::l,y::k,⟨h1,J⟩,0,a,h=>by simp at h;subst h;exact ⟨y,by simp,h1⟩
 |x::l,y::k,⟨h1,J⟩,i+1,a,h=>by simpa using ba.get J i a (by simpa using h)
 |[],_::_,h,_,_,_=>h.elim
 |_::_,[],h,_,_,_=>h.elim
theorem ba.F0 {au bz:Type} {R:au->bz->Prop}:∀{l:List au} {k:List bz},l.length=k.length->(∀(i:Nat) a b,l[i]? =aqV a->k[i]? =aqV b->R a b)->ba R l k
 |[],[],_,_=>ari
 |x::l,y::k,ah,h=>⟨h 0 x y (by simp) (by simp),ba.F0 (by simpa using ah) fun i a b aq aa=>h (i+1) a b (by simpa using aq) (by simpa using aa)⟩
 |[],_::_,ah,_=>by simp at ah
 |_::_,[],ah,_=>by simp at ah
theorem ba.append {au bz:Type} {R:au->bz->Prop}:∀{l kD:List au} {k dc:List bz},ba R l k->ba R kD dc->ba R (l++kD) (k++dc)
 |[],_,[],_,_,h=>h
 |_::_,_,_::_,_,⟨h1,J⟩,h=>⟨h1,ba.append J h⟩
 |[],_,_::_,_,h,_=>h.elim
 |_::_,_,[],_,h,_=>h.elim
theorem ba.take {au bz:Type} {R:au->bz->Prop}:∀(n:Nat) {l:List au} {k:List bz},ba R l k->ba R (l.take n) (k.take n)
 |0,_,_,_=>by simp[ba]
 |n+1,[],[],_=>by simp[ba]
 |n+1,_::_,_::_,⟨h1,J⟩=>by simpa[ba] using ⟨h1,ba.take n J⟩
 |_+1,[],_::_,h=>h.elim
 |_+1,_::_,[],h=>h.elim
theorem ba.drop {au bz:Type} {R:au->bz->Prop}:∀(n:Nat) {l:List au} {k:List bz},ba R l k->ba R (l.drop n) (k.drop n)
 |0,_,_,h=>by simpa using h
 |n+1,[],[],_=>by simp[ba]
 |n+1,_::_,_::_,⟨_,J⟩=>by simpa using ba.drop n J
 |_+1,[],_::_,h=>h.elim
 |_+1,_::_,[],h=>h.elim
theorem ju.mono {j bX:bo} (h:∀b e,j b=aqV e->bX b=aqV e) {v aV:aqX} (ad:ju j v aV):ju bX v aV:=by
 unfold ju at ad⊢;split at ad
 ·obtain ⟨e,h1,J,aj⟩:=ad;exact ⟨e,h1,h _ _ J,aj⟩
 ·exact ad.elim
theorem dC.mono {j bX:bo} (h:∀b e,j b=aqV e->bX b=aqV e) {v aV:aqX} (ad:dC j v aV):dC bX v aV:=by
 cases v with
 |func fn bc cs=>obtain ⟨h1,ds,J,aj⟩:=ad;exact ⟨h1,ds,J,aj.mono fun _ _=>ju.mono h⟩
 |pointer a=>cases a with
  |none=>exact ad
  |some a=>obtain ⟨e,h1,J,aj⟩:=ad;exact ⟨e,h1,h _ _ J,aj⟩
 |slice a l c=>cases a with
  |none=>exact ad
  |some a=>obtain ⟨e,h1,J,aj⟩:=ad;exact ⟨e,h1,h _ _ J,aj⟩
 |map r=>cases r with
  |none=>exact ad
  |some r=>obtain ⟨e,J,aj⟩:=ad;exact ⟨e,h _ _ J,aj⟩
 |_=>exact ad
theorem ey.mono {j bX:bo} (h:∀b e,j b=aqV e->bX b=aqV e) {v aV:aqX} (ad:ey j v aV):ey bX v aV:=by
 cases v with
 |agg cs=>obtain ⟨ds,h1,J⟩:=ad;exact ⟨ds,h1,J.mono fun _ _=>dC.mono h⟩
 |_=>simp only[ey] at ad⊢;exact dC.mono h ad
theorem cb.mono {j bX:bo} (h:∀b e,j b=aqV e->bX b=aqV e) {v aV:aqX} (ad:cb j v aV):cb bX v aV:=by
 cases v with
 |chan _=>exact ad
 |tuple cs=>obtain ⟨ds,h1,J⟩:=ad;exact ⟨ds,h1,J.mono fun _ _=>ey.mono h⟩
 |func fn bc cs=>obtain ⟨gs,ds,h1,J,aj⟩:=ad;exact ⟨gs,ds,h1,J.mono fun _ _=>ey.mono h,aj.mono fun _ _=>ey.mono h⟩
 |_=>simp only[cb] at ad⊢;exact ey.mono h ad
theorem nM.mono {P:aq1} {j bX:bo} {e:iR} {o:Option Obj} {x:a6} (h:nM P j e o x) (av:∀b e,j b=aqV e->bX b=aqV e):nM P bX e o x:=by
 cases x with
 |dead=>trivial
 |ro rd=>intro i v ae;obtain ⟨cs,t,bg,aV,h1,J,aj⟩:=h i v ae;exact ⟨cs,t,bg,aV,h1,J,aj.mono av⟩
 |own L t=>obtain ⟨cs,bg,h1,J,aj,aM,bq,dv⟩:=h;refine ⟨cs,bg,h1,J,aj,aM,bq,fun i v ae=> ?_⟩;obtain ⟨aV,g1,g2⟩:=dv i v ae;exact ⟨aV,g1,g2.mono av⟩
 |map L u=>obtain ⟨kt,vt,cs,clock,E,h1,J,aj,aM,bq⟩:=h;exact ⟨kt,vt,cs,clock,E,h1,J,aj,aM.mono fun p x ⟨g1,g2,g3⟩=>⟨g1,g2,g3.mono av⟩,bq⟩
 |lock _ _ _ _=>exact h.elim
theorem Rel.own {P:aq1} {j:bo} {m:Mem} {w:World} (h:Rel P j m w) (b:Nat) (e:iR) (L:List aqX) (t:aq4) (av:j b=aqV e) (aa:m.aG b= .own L t):∃(cs:Array aqX) (bg:Nat×Nat),w.heap[e.aG]? =aqV (.cells cs t bg)/\(∀i:Nat,i<cs.size->¬(bg.1<=i/\i<bg.2))/\
  P.cellsOf t=e.es/\e.dM+e.cap*e.es<=cs.size/\L.length<=e.cap*e.es/\∀(i:Nat) (v:aqX),L[i]? =aqV v->∃aV,cs[e.dM+i]? =aqV aV/\dC j v aV:=by
 have:=h.obj b e av;rw[aa] at this;exact this
theorem ey.p6 {j:bo} {v aV:aqX} (h:dC j v aV):ey j v aV:=by
 cases v<;>first|exact h|exact h.elim
theorem ju.of {j:bo} {v aV:aqX} (h:ju j v aV):dC j v aV:=by
 unfold ju at h;split at h
 ·exact h
 ·exact h.elim
theorem cb.wu {j:bo} {v aV:aqX} (h:ey j v aV):cb j v aV:=by
 cases v with
 |func fn bc cs=>obtain ⟨h1,ds,J,aj⟩:=h;subst h1;exact ⟨#[],ds,J,trivial,aj.mono fun _ _ h=>ey.p6 (ju.of h)⟩
 |tuple _=>exact h.elim
 |chan _=>exact h.elim
 |_=>exact h
theorem cb.p6 {j:bo} {v aV:aqX} (h:dC j v aV):cb j v aV:=cb.wu (ey.p6 h)
theorem dC.one {j:bo} {v aV:aqX} (h:dC j v aV):aV.oneCell'=aqW:=by
 cases v with
 |pointer a=>cases a with
  |none=>cases h;rfl
  |some a=>obtain ⟨e,h1,J,aj⟩:=h;subst aj;rfl
 |slice a l c=>cases a with
  |none=>cases h;rfl
  |some a=>obtain ⟨e,h1,J,aj⟩:=h;rcases aj with ⟨_,rfl⟩|⟨_,_,_,_,_,_,rfl⟩|⟨_,_,_,rfl⟩|⟨_,_,_,rfl⟩<;>rfl
 |map r=>cases r with
  |none=>cases h;rfl
  |some r=>obtain ⟨e,J,aj⟩:=h;subst aj;rfl
 |chan _=>exact h.elim
 |func _ _ _=>obtain ⟨_,ds,J,_⟩:=h;subst J;rfl
 |iface _ _=>exact h.elim
 |agg _=>exact h.elim
 |tuple _=>exact h.elim
 |_=>cases h;rfl
theorem dC.cells {j:bo} {v aV:aqX} (h:dC j v aV):v.cells=#[v]/\aV.cells=#[aV]:=by
 refine ⟨?_, ?_⟩
 ·cases v<;>first|rfl|exact h.elim
 ·have:=h.one;cases aV<;>first|rfl|simp[aqX.oneCell'] at this
theorem ey.cells {j:bo} {v aV:aqX} (h:ey j v aV):ba (dC j) v.cells.toList aV.cells.toList:=by
 cases v with
 |agg cs=>obtain ⟨ds,rfl,J⟩:=h;exact J
 |_=>simp only[ey] at h;have aI:=h;have:=dC.cells aI;rw[this.1,this.2];exact ⟨aI,ari⟩
theorem vg.refl (j:bo) (m:Mem) (w:World):vg j m w w:=⟨rfl,rfl,rfl,aq9 _,fun _ _ _=>rfl⟩
theorem Post.refl {P:aq1} {j:bo} {m:Mem} {w:World} (h:Rel P j m w):Post P j m w j m w:=
 ⟨h,vg.refl j m w,aq9 _,fun _ _=>rfl,fun b e aa ar=>absurd (h.lt b e aa).1 (atf.2 ar),fun _ _ h=>h,fun _ _ h=>h⟩
theorem Post.up {P:aq1} {j bX:bo} {m m':Mem} {w w':World} (h:Post P j m w bX m' w') (an:Rel P j m w):∀b e,j b=aqV e->bX b=aqV e:=
 fun b e aa=>by rw[h.ext b (an.lt b e aa).1];exact aa
theorem Post.trans {P:aq1} {j bX qU:bo} {m m' U8:Mem} {w w' nF:World} (h:Post P j m w bX m' w') (k:Post P bX m' w' qU U8 nF):Post P j m w qU U8 nF where
 rel:=k.rel
 ed:=by
  refine ⟨k.ed.os.trans h.ed.os,k.ed.tape.trans h.ed.tape,k.ed.output.trans h.ed.output,arq h.ed.size k.ed.size,fun c ab ar=> ?_⟩;rw[k.ed.block c (aru ab h.ed.size) ?_,h.ed.block c ab ar];intro b e aa ai he;rcases arQ b m.next with aN|e8
  ·exact ar b e (by rw[<-h.ext b aN];exact aa) (h.dh b aN ai) he
  ·rcases h.fresh b e aa e8 with aP|⟨df,dt,h4,qO,rO⟩
   ·omega
   ·exact ar df dt h4 qO (rO.trans he)
 next:=arq h.next k.next
 ext:=fun b aa=>by rw[k.ext b (aru aa h.next),h.ext b aa]
 fresh:=by
  intro b e aa e8;have ad9:∀b e,bX b=aqV e->(m'.aG b).hM=aqW->w.heap.size<=e.aG\/∃df dt,j df=aqV dt/\(m.aG df).hM=aqW/\dt.aG=e.aG:=by
   intro b e aa ai;rcases arQ b m.next with aN|e8
   ·exact .inr ⟨b,e,by rw[<-h.ext b aN];exact aa,h.dh b aN ai,rfl⟩
   ·exact h.fresh b e aa e8
  rcases arQ b m'.next with aN|L3
  ·exact h.fresh b e (by rw[<-k.ext b aN];exact aa) e8
  ·rcases k.fresh b e aa L3 with aP|⟨df,dt,h4,qO,rO⟩
   ·exact .inl (arq h.ed.size aP)
   ·rw[<-rO];exact ad9 df dt h4 qO
 dh:=fun b aa ai=>h.dh b aa (k.dh b (aru aa h.next) ai)
 alive:=fun b aa ai=>h.alive b aa (k.alive b (aru aa h.next) ai)
end Go.aS
end
section
namespace Go.aS
def iA:aqX->Bool
 | .agg cs=>cs.toList.all cx
 |v=>cx v
def flat:aqX->Bool
 | .tuple cs=>cs.toList.all iA
 |v=>iA v
def wU:aqX->Bool
 | .pointer (aqV _)=>aqW
 |_=>aqZ
def storable:aqX->Bool
 | .tuple _| .chan _=>aqZ
 | .func _ bc cs=>bc.isEmpty&&cs.toList.all wU
 |_=>aqW
def set (fr:Nat->aqX) (d:Option Tmp) (v:aqX):Nat->aqX:=
 match d with
 |some t=>fun i=>if i=t then v else fr i
 |none=>fr
def aK (fr:Nat->aqX):aq3->aqX
 | .tmp t=>fr t
 | .const v=>v
 | .global g=> .pointer (aqV ⟨g,0,aqY⟩)
 | .func f=> .func (.func f) #[] #[]
def jH (m:Mem) (b:Nat):Nat->Nat->Option (List aqX)
 |_,0=>aqV []
 |o,n+1=>match m.load b o,jH m b (o+1) n with
  |some v,aqV l=>aqV (v::l)
  |_,_=>aqY
def eU:List aqX->Nat->List aqX->List aqX
 |L,_,[]=>L
 |L,o,v::vs=>eU (L.set o v) (o+1) vs
def jE (place:Nat->Option (Nat×Nat)) (cells:List aqX):List (Nat×aqX)->Option (List aqX)
 |[]=>aqV cells
 |(i,v)::rest=>
  match place i with
  |none=>aqY
  |some (off,size)=>if storable v=aqW/\v.cells.size=size/\off+size<=cells.length then jE place (eU cells off v.cells.toList) rest else aqY
def qg (P:aq1) (bc:Array Field):List (Option (Nat×Nat)):=bc.toList.map fun f=>(P.info? f.type).map fun i=>(f.offset,i.size)
def q8 (af:aq3->aqX) (bG:Option aq3) (n:Nat):Prop:=
 match bG with
 |none=>n=0
 |some y=>∃k,af y= .int k n
def ov (af:aq3->aqX) (ae:Option aq3) (l n:Nat):Prop:=
 match ae with
 |none=>n=l
 |some y=>∃k,af y= .int k n
inductive cP (P:aq1) (af:aq3->aqX) (o:Oper):aqX->Prop where
 |flat (v:aqX) (ay:∀cs b,o.op≠ .select cs b) (h:∀x∈o.op.operands,flat (af x)=aqW) (ad:flat v=aqW) (an:∀w,(execOp af o).run P w= .ok (.value v) w):cP P af o v
 |move (x:aq3) (h:o.op= .move x\/o.op= .assign x):cP P af o (af x)
 |pick (c a b:aq3) (t:Bool) (h:o.op= .pick c a b) (ab:af c= .bool t):cP P af o (if t then af a else af b)
 |extract (x:aq3) (i:Nat) (vs:Array aqX) (v:aqX) (h:o.op= .extract x i) (U:af x= .tuple vs) (ad:vs[i]? =aqV v):cP P af o v
 |field (t:aq4) (x:aq3) (i:Nat) (bc:Array Field) (f:Field) (d:TypeDesc) (cs:Array aqX) (v:aqX) (h:o.op= .field t x i) (ao:P.underlying t=aqV (.struct bc)) (aP:bc[i]? =aqV f)
   (aB:P.underlying f.type=aqV d) (U:af x= .agg cs) (ad:if jL d=aqW then ∃k,P.info? f.type=aqV k/\f.offset+k.size<=cs.size/\v= .agg (cs.extract f.offset (f.offset+k.size)) else cs[f.offset]? =aqV v):cP P af o v
 |build (t:aq4) (bK:Array (Nat×aq3)) (bc:Array Field) (i:TypeInfo) (z:aqX) (cs:List aqX) (h:o.op= .build t bK) (ao:P.underlying t=aqV (.struct bc)) (ae:P.info? t=aqV i) (aF:i.zero=aqV z)
   (cg:z.cells.toList.all cx=aqW) (ap:∀x∈qg P bc,x.isSome=aqW)
   (ab:jE (fun k=>((qg P bc)[k]?).join) z.cells.toList (bK.toList.map fun p=>(p.1,af p.2))=aqV cs):cP P af o (.agg cs.toArray)
 |EI (t:aq4) (bK:Array (Nat×aq3)) (n:Nat) (e:aq4) (i k:TypeInfo) (z:aqX) (cs:List aqX) (h:o.op= .build t bK) (ao:P.underlying t=aqV (.array n e)) (ae:P.info? t=aqV i) (aF:i.zero=aqV z)
   (cg:z.cells.toList.all cx=aqW) (he:P.info? e=aqV k)
   (ab:jE (fun j=>aqV (j*k.size,k.size)) z.cells.toList (bK.toList.map fun p=>(p.1,af p.2))=aqV cs):cP P af o (.agg cs.toArray)
 |nilCheck (x:aq3) (a:Addr) (h:o.op= .nilCheck x) (U:af x= .pointer (aqV a)):cP P af o (.pointer (aqV a))
 |fieldAddr (t:aq4) (x:aq3) (i:Nat) (bc:Array Field) (f:Field) (k:TypeInfo) (b off:Nat) (h:o.op= .fieldAddr t x i) (ao:P.underlying t=aqV (.struct bc)) (aP:bc[i]? =aqV f)
   (hk:P.info? f.type=aqV k) (ay:k.size≠0) (U:af x= .pointer (aqV ⟨b,off,aqY⟩)):cP P af o (.pointer (aqV ⟨b,off+f.offset,aqY⟩))
 |indexAddr (t:aq4) (x y:aq3) (e:aq4) (i:TypeInfo) (b off l c:Nat) (k:aq2) (n:Int) (h:o.op= .indexAddr t x y) (ao:P.underlying t=aqV (.slice e)) (ae:P.info? e=aqV i)
   (U:af x= .slice (aqV ⟨b,off,aqY⟩) l c) (ag:af y= .int k n) (aI:0<=n) (h1:n<l):cP P af o (.pointer (aqV ⟨b,off+n.toNat*i.size,aqY⟩))
 |FN (t:aq4) (x y:aq3) (e:aq4) (i:TypeInfo) (b off l:Nat) (k:aq2) (n:Int) (h:o.op= .indexAddr t x y) (ao:P.underlying t=aqV (.array l e)) (ae:P.info? e=aqV i)
   (U:af x= .pointer (aqV ⟨b,off,aqY⟩)) (ag:af y= .int k n) (aI:0<=n) (h1:n<l):cP P af o (.pointer (aqV ⟨b,off+n.toNat*i.size,aqY⟩))
 |slice (t:aq4) (x:aq3) (bG ae:Option aq3) (e:aq4) (i:TypeInfo) (b off l c:Nat) (n cq:Nat) (h:o.op= .slice t x bG ae aqY) (ao:P.underlying t=aqV (.slice e)) (dY:P.info? e=aqV i)
   (U:af x= .slice (aqV ⟨b,off,aqY⟩) l c) (aa:c≠dr) (e0:q8 af bG n) (ef:ov af ae l cq) (h1:n<=cq) (J:cq<=c)
   (aj:ae=aqY->True):cP P af o (.slice (aqV ⟨b,if c=n then off else off+n*i.size,aqY⟩) (cq - n) (c - n))
 |slice3 (t:aq4) (x h6:aq3) (ae:Option aq3) (e:aq4) (i:TypeInfo) (b off l c:Nat) (cq dc:Nat) (r4:aq2) (h:o.op= .slice t x aqY ae (aqV h6)) (ao:P.underlying t=aqV (.slice e)) (dY:P.info? e=aqV i)
   (U:af x= .slice (aqV ⟨b,off,aqY⟩) l c) (ab:(c≠dr/\dc<=c)\/(c=dr/\dc<=l)) (ef:∃y k,ae=aqV y/\af y= .int k cq) (nY:af h6= .int r4 dc) (h1:cq<=dc):cP P af o (.slice (aqV ⟨b,off,aqY⟩) cq dc)
 |IB (t:aq4) (x h6:aq3) (ae:Option aq3) (e:aq4) (i:TypeInfo) (r4:aq2) (h:o.op= .slice t x aqY ae (aqV h6)) (ao:P.underlying t=aqV (.slice e)) (dY:P.info? e=aqV i)
   (U:af x= .slice aqY 0 0) (ef:∃y k,ae=aqV y/\af y= .int k 0) (nY:af h6= .int r4 0):cP P af o (.slice aqY 0 0)
 |lJ (t:aq4) (x:aq3) (bG ae:Option aq3) (e:aq4) (i:TypeInfo) (h:o.op= .slice t x bG ae aqY) (ao:P.underlying t=aqV (.slice e)) (dY:P.info? e=aqV i)
   (U:af x= .slice aqY 0 0) (e0:q8 af bG 0) (ef:ov af ae 0 0):cP P af o (.slice aqY 0 0)
 |len (x:aq3) (t e:aq4) (a:Option Addr) (l c:Nat) (h:o.op= .call {callee:= .builtin .len,args:=#[x],argTypes:=#[t]}) (ao:P.underlying t=aqV (.slice e)) (U:af x= .slice a l c):cP P af o (.int .i64 l)
 |EL (x:aq3) (t e:aq4) (h:o.op= .call {callee:= .builtin .cap,args:=#[x],argTypes:=#[t]}) (ao:P.underlying t=aqV (.slice e)) (U:af x= .slice aqY 0 0):cP P af o (.int .i64 0)
 |Bk (neq:Bool) (x y:aq3) (t u e:aq4) (a:Addr) (l c:Nat) (h:o.op= .binOp (if neq then .neq else .eql) t x y u) (ao:P.underlying t=aqV (.slice e))
   (U:af x= .slice (aqV a) l c) (ag:af y= .slice aqY 0 0):cP P af o (.bool neq)
 |func (fn:Fn) (first captured:Array aq3) (h:o.op= .makeFunc fn first captured) (aP:∀x∈first.toList++captured.toList,storable (af x)=aqW):cP P af o (.func fn (first.map af) (captured.map af))
inductive tq (jm dq:Bool) (key z:aqX):List (List aqX×List aqX)->aqX->Bool->Prop where
 |p3:tq jm dq key z [] z aqZ
 |jU (p:List aqX×List aqX) (E:List (List aqX×List aqX)) (h:c4 jm p.1=key):tq jm dq key z (p::E) (c4 dq p.2) aqW
 |next (p:List aqX×List aqX) (E:List (List aqX×List aqX)) (v:aqX) (b:Bool) (h:c4 jm p.1≠key) (aT:tq jm dq key z E v b):tq jm dq key z (p::E) v b
inductive tx (jm:Bool) (key val:List aqX):List (List aqX×List aqX)->List (List aqX×List aqX)->Prop where
 |p3:tx jm key val [] [(key,val)]
 |jU (p:List aqX×List aqX) (E:List (List aqX×List aqX)) (h:c4 jm p.1=c4 jm key):tx jm key val (p::E) ((p.1,val)::E)
 |next (p:List aqX×List aqX) (E E':List (List aqX×List aqX)) (h:c4 jm p.1≠c4 jm key) (aT:tx jm key val E E'):tx jm key val (p::E) (p::E')
open Classical in
noncomputable def kl (v:aqX):List MapEntry->Nat->Option (Nat×aqX)
 |[],_=>aqY
 |e::es,i=>if e.key=v then aqV (i,e.val) else kl v es (i+1)
structure Keyed (P:aq1) (kt:aq4) (fj:aqX->Prop):Prop where
 check:∀(em:Bool) (v:aqX) (w:World),fj v->(Instr.checkKey em 10000 kt v).run P w= .ok () w
 find:∀(v:aqX) (es:List MapEntry) (w:World),fj v->(∀x∈es,fj x.key)->(Instr.findKey kt v es).run P w= .ok (kl v es 0) w
 stays:∀(v:aqX) (w:World),fj v->(Instr.keyThatStays v v).run P w= .ok v w
inductive eT (P:aq1) (af:aq3->aqX) (o:Oper) (m:Mem):aqX->Prop where
 |load (t:aq4) (x:aq3) (b off:Nat) (d:TypeDesc) (v:aqX) (h:o.op= .load t x) (U:af x= .pointer (aqV ⟨b,off,aqY⟩)) (ao:P.underlying t=aqV d) (aB:jL d=aqZ) (ad:m.load b off=aqV v):eT P af o m v
 |wj (t:aq4) (x:aq3) (b off:Nat) (d:TypeDesc) (i:TypeInfo) (cs:List aqX) (h:o.op= .load t x) (U:af x= .pointer (aqV ⟨b,off,aqY⟩)) (ao:P.underlying t=aqV d) (aB:jL d=aqW) (ae:P.info? t=aqV i)
   (ad:jH m b off i.size=aqV cs):eT P af o m (.agg cs.toArray)
 |slice (t:aq4) (x:aq3) (bG ae:Option aq3) (e:aq4) (i:TypeInfo) (L:List aqX) (b off l:Nat) (n cq:Nat) (h:o.op= .slice t x bG ae aqY) (ao:P.underlying t=aqV (.slice e)) (dY:P.info? e=aqV i)
   (U:af x= .slice (aqV ⟨b,off,aqY⟩) l dr) (hm:m.aG b= .own L e) (e0:q8 af bG n) (ef:ov af ae l cq) (h1:n<=cq) (J:cq<=l)
   (aj:off+l*i.size<=L.length):eT P af o m (.slice (aqV ⟨b,off+n*i.size,aqY⟩) (cq - n) dr)
 |str (s t:aq4) (x:aq3) (e:aq4) (b off l c:Nat) (cs:List UInt8) (h:o.op= .convert s t x) (ay:P.underlying s=aqV (.slice e)) (he:P.underlying e=aqV (.int .u8)) (ao:P.underlying t=aqV .string)
   (U:af x= .slice (aqV ⟨b,off,aqY⟩) l c) (ad:jH m b off l=aqV (cs.map fun u=> .int .u8 u.toNat)):eT P af o m (.string ⟨cs.toArray⟩)
 |Af (s t:aq4) (x:aq3) (e:aq4) (l c:Nat) (h:o.op= .convert s t x) (ay:P.underlying s=aqV (.slice e)) (he:P.underlying e=aqV (.int .u8)) (ao:P.underlying t=aqV .string)
   (U:af x= .slice aqY l c):eT P af o m (.string .empty)
 |lookup (gy:aq4) (x cy:aq3) (ok:Bool) (u kt vt:aq4) (b:Nat) (L:List aqX) (E:List (List aqX×List aqX)) (i:TypeInfo) (z v0:aqX) (t:Bool) (fj:aqX->Prop) (h:o.op= .lookup gy x cy ok)
   (hh:P.underlying gy=aqV (.map kt vt)) (hu:P.underlying u=aqV (.map kt vt)) (U:(af x= .map (aqV b)/\m.aG b= .map L u/\nJ (P.cellsOf kt) (P.cellsOf vt) L E)\/(af x= .map aqY/\E=[])) (ll:0<P.cellsOf kt)
   (kh:cW P vt=aqZ->P.cellsOf vt=1) (K:Keyed P kt fj) (aP:flat (af cy)=aqW) (hk:fj (af cy)) (aH:∀p∈E,fj (c4 (cW P kt) p.1)) (ae:P.info? vt=aqV i) (aF:i.zero=aqV z) (cg:iA z=aqW)
   (ah:tq (cW P kt) (cW P vt) (af cy) z E v0 t):eT P af o m (if ok then .tuple #[v0, .bool t] else v0)
inductive h0 (P:aq1) (af:aq3->aqX) (o:Oper) (n:Nat):a6->aqX->Prop where
 |alloc (t:aq4) (i:TypeInfo) (z:aqX) (h:o.op= .alloc t) (ae:P.info? t=aqV i) (aF:i.zero=aqV z) (cg:z.cells.toList.all cx=aqW) (ay:z.cells.size=i.size):
   h0 P af o n (.own z.cells.toList t) (.pointer (aqV ⟨n,0,aqY⟩))
 |box (t:aq4) (x:aq3) (i:TypeInfo) (h:o.op= .box t x) (ae:P.info? t=aqV i) (ad:storable (af x)=aqW) (ay:(af x).cells.size=i.size):
   h0 P af o n (.own (af x).cells.toList t) (.pointer (aqV ⟨n,0,aqY⟩))
 |buildSlice (t:aq4) (l:Nat) (bK:Array (Nat×aq3)) (e:aq4) (i:TypeInfo) (z:aqX) (cs:List aqX) (h:o.op= .buildSlice t l bK) (ao:P.underlying t=aqV (.slice e)) (ae:P.info? e=aqV i) (aF:i.zero=aqV z)
   (cg:z.cells.toList.all cx=aqW) (dp:z.cells.size=i.size) (rK:l*i.size<=16777216) (rT:l<9223372036854775808)
   (ab:jE (fun k=>aqV (k*i.size,i.size)) (arx l z.cells.toList).flatten (bK.toList.map fun p=>(p.1,af p.2))=aqV cs):
   h0 P af o n (.own cs e) (.slice (aqV ⟨n,0,aqY⟩) l l)
 |makeSlice (t:aq4) (x y:aq3) (l c:Nat) (k dc:aq2) (e:aq4) (i:TypeInfo) (z:aqX) (h:o.op= .makeSlice t x y) (ao:P.underlying t=aqV (.slice e)) (ae:P.info? e=aqV i) (aF:i.zero=aqV z)
   (cg:z.cells.toList.all cx=aqW) (dp:z.cells.size=i.size) (U:af x= .int k l) (ag:af y= .int dc c) (rU:l<=c) (aa:i.bytes*c<=140737488355328) (ab:c<9223372036854775808):
   h0 P af o n (.own (arx c z.cells.toList).flatten e) (.slice (aqV ⟨n,0,aqY⟩) l c)
 |bytes (s t:aq4) (x:aq3) (e:aq4) (i:TypeInfo) (b:ByteArray) (h:o.op= .convert s t x) (ay:P.underlying s=aqV .string) (ao:P.underlying t=aqV (.slice e)) (he:P.underlying e=aqV (.int .u8)) (ae:P.info? e=aqV i)
   (hg:i.size=1) (U:af x= .string b) (aa:b.size<9223372036854775807):
   h0 P af o n (.own (b.data.toList.map fun u=> .int .u8 u.toNat) e) (.slice (aqV ⟨n,0,aqY⟩) b.size dr)
 |makeMap (t kt vt:aq4) (h:o.op= .makeMap t aqY) (ao:P.underlying t=aqV (.map kt vt)):h0 P af o n (.map [] t) (.map (aqV n))
def bR (m:Mem) (a1:Nat):aqX->Option (List aqX)
 | .slice (aqV ⟨b,off,aqY⟩) l _=>jH m b off (l*a1)
 | .slice aqY _ _=>aqV []
 | .string s=>if a1=1 then aqV (s.data.toList.map fun u=> .int .u8 u.toNat) else aqY
 |_=>aqY
def gT:aqX->Nat
 | .slice _ l _=>l
 | .string s=>s.size
 |_=>0
def callee (o:Oper) (af:aq3->aqX) (f:FuncId) (args:Array aqX):Prop:=
 ∃x as ts first captured,o.op= .call {callee:= .value x,args:=as,argTypes:=ts}/\af x= .func (.func f) first captured/\args=first++as.map af++captured
inductive vf (P:aq1) (m:Mem) (u:aq4) (i:TypeInfo) (v:aqX) (n:Nat) (new:List aqX):Prop where
 |el (hu:(∃bx,P.underlying u=aqV (.slice bx))\/P.underlying u=aqV .string) (ah:gT v=n) (he:bR m i.size v=aqV new)
 |mk (kk k:aq2) (z:aqX) (hu:P.underlying u=aqV (.int kk)) (ad:v= .int k n) (aF:i.zero=aqV z) (cg:z.cells.toList.all cx=aqW) (dp:z.cells.size=i.size) (bE:0<i.size)
   (aa:n*i.bytes<=140737488355328) (hm:n<9223372036854775807) (hW:new=(arx n z.cells.toList).flatten)
inductive gF (P:aq1) (C:FuncId->Array aqX->Mem->aqX->Mem->Prop) (af:aq3->aqX) (o:Oper) (m:Mem):aqX->Mem->Prop where
 |store (t:aq4) (x y:aq3) (b off:Nat) (i:TypeInfo) (L:List aqX) (e:aq4) (h:o.op= .store t x y) (U:af x= .pointer (aqV ⟨b,off,aqY⟩)) (ae:P.info? t=aqV i) (hm:m.aG b= .own L e)
   (ad:storable (af y)=aqW) (ay:(af y).cells.size=i.size) (ah:off+i.size<=L.length):gF P C af o m undef (m.put b (.own (eU L off (af y).cells.toList) e))
 |call (f:FuncId) (args:Array aqX) (v:aqX) (m':Mem) (h:callee o af f args) (bW:C f args m v m'):gF P C af o m v m'
 |vw (x y:aq3) (t u:aq4) (e:aq4) (i:TypeInfo) (a:Option Addr) (l c:Nat) (h:o.op= .call {callee:= .builtin .append,args:=#[x,y],argTypes:=#[t,u]}) (ao:P.underlying t=aqV (.slice e)) (ae:P.info? e=aqV i)
   (U:af x= .slice a l c) (ab:c≠dr) (rU:l<=c) (ag:vf P m u i (af y) 0 []):gF P C af o m (af x) m
 |rD (x y:aq3) (t u:aq4) (e:aq4) (i:TypeInfo) (z:aqX) (a:Option Addr) (l c n:Nat) (dh new:List aqX) (h:o.op= .call {callee:= .builtin .append,args:=#[x,y],argTypes:=#[t,u]})
   (ao:P.underlying t=aqV (.slice e)) (ae:P.info? e=aqV i) (aF:i.zero=aqV z) (cg:z.cells.toList.all cx=aqW) (dp:z.cells.size=i.size) (bE:0<i.size)
   (U:af x= .slice a l c) (ab:c<l+n)
   (ai:bR m i.size (af x)=aqV dh) (jW:dh.length=l*i.size) (ag:vf P m u i (af y) n new) (ar:new.length=n*i.size) (aa:(l+n)*i.bytes<=140737488355328) (hm:l+n<9223372036854775807):
   gF P C af o m (.slice (aqV ⟨m.next,0,aqY⟩) (l+n) dr) (m.push (.own (dh++new) e))
 |ye (x y:aq3) (t u:aq4) (e:aq4) (i:TypeInfo) (b off l c n:Nat) (L new:List aqX) (h:o.op= .call {callee:= .builtin .append,args:=#[x,y],argTypes:=#[t,u]})
   (ao:P.underlying t=aqV (.slice e)) (ae:P.info? e=aqV i) (U:af x= .slice (aqV ⟨b,off,aqY⟩) l c) (dE:c≠dr)
   (ab:l+n<=c) (hm:m.aG b= .own L e) (ag:vf P m u i (af y) n new) (ar:new.length=n*i.size) (ah:off+(l+n)*i.size<=L.length):
   gF P C af o m (.slice (aqV ⟨b,off,aqY⟩) (l+n) c) (m.put b (.own (eU L (off+l*i.size) new) e))
 |append (x y:aq3) (t u:aq4) (e:aq4) (i:TypeInfo) (z:aqX) (b off l n:Nat) (L new:List aqX) (h:o.op= .call {callee:= .builtin .append,args:=#[x,y],argTypes:=#[t,u]})
   (ao:P.underlying t=aqV (.slice e)) (ae:P.info? e=aqV i) (aF:i.zero=aqV z) (cg:z.cells.toList.all cx=aqW) (dp:z.cells.size=i.size) (bE:0<i.size)
   (U:af x= .slice (aqV ⟨b,off,aqY⟩) l dr) (fD:m.aG b= .own L e) (tL:off+l*i.size<=L.length)
   (ag:vf P m u i (af y) n new) (ar:new.length=n*i.size) (aa:(l+n)*i.bytes<=140737488355328) (hm:l+n<9223372036854775807):
   gF P C af o m (.slice (aqV ⟨m.next,0,aqY⟩) (l+n) dr) ((m.put b .dead).push (.own ((L.drop off).take (l*i.size)++new) e))
 |copy (x y:aq3) (t u:aq4) (e:aq4) (i:TypeInfo) (b off l c:Nat) (L:List aqX) (cs:List aqX) (h:o.op= .call {callee:= .builtin .copy,args:=#[x,y],argTypes:=#[t,u]}) (ao:P.underlying t=aqV (.slice e)) (ae:P.info? e=aqV i)
   (U:af x= .slice (aqV ⟨b,off,aqY⟩) l c) (hm:m.aG b= .own L e) (ag:bR m i.size (af y)=aqV cs) (ar:cs.length=gT (af y)*i.size) (ah:off+l*i.size<=L.length):
   gF P C af o m (.int .i64 (asI (gT (af y)) l)) (m.put b (.own (eU L off (cs.take (asI (gT (af y)) l*i.size))) e))
 |mapUpdate (gy:aq4) (x iu iE:aq3) (u kt vt:aq4) (b:Nat) (L bS vc:List aqX) (E E':List (List aqX×List aqX)) (fj:aqX->Prop) (h:o.op= .mapUpdate gy x iu iE\/o.op= .insert gy x iu iE)
   (hh:P.underlying gy=aqV (.map kt vt)) (hu:P.underlying u=aqV (.map kt vt)) (U:af x= .map (aqV b)) (hm:m.aG b= .map L u) (aT:nJ (P.cellsOf kt) (P.cellsOf vt) L E) (ll:0<P.cellsOf kt)
   (K:Keyed P kt fj) (BO:af iu=c4 (cW P kt) bS) (oY:bS.length=P.cellsOf kt) (yG:bS.all cx=aqW) (aP:flat (af iu)=aqW) (hk:fj (af iu)) (aH:∀p∈E,fj (c4 (cW P kt) p.1))
   (lZ:storable (af iE)=aqW) (Ca:af iE=c4 (cW P vt) vc) (r1:vc.length=P.cellsOf vt) (Cb:∀v∈vc,v∈(af iE).cells.toList) (e9:tx (cW P kt) bS vc E E'):
   gF P C af o m undef (m.put b (.map (E'.flatMap fun p=>p.1++p.2) u))
inductive oK (P:aq1) (C:FuncId->Array aqX->Mem->aqX->Mem->Prop) (af:aq3->aqX) (o:Oper) (m:Mem):aqX->Mem->Prop where
 |pure {v:aqX} (h:cP P af o v):oK P C af o m v m
 |read {v:aqX} (h:eT P af o m v):oK P C af o m v m
 |new {X:a6} {v:aqX} (h:h0 P af o m.next X v):oK P C af o m v (m.push X)
 |e7 {v:aqX} {m':Mem} (h:gF P C af o m v m'):oK P C af o m v m'
def wanted (ops:List Oper) (fr:Nat->aqX) (o:Oper):Bool:=
 match o.guard with
 |none=>aqW
 |some (j,want)=>
  match (ops[j]?).bind (·.dst) with
  |some d=>(match fr d with| .bool b=>b==want|_=>aqZ)
  |none=>aqZ
def j3 (P:aq1) (C:FuncId->Array aqX->Mem->aqX->Mem->Prop) (ops:List Oper):List Oper->(Nat->aqX)->Mem->(Nat->aqX)->Mem->Prop
 |[],fr,m,fr',m'=>fr'=fr/\m'=m
 |o::os,fr,m,fr',m'=>
  if wanted ops fr o=aqW then ∃v m1,oK P C (aK fr) o m v m1/\j3 P C ops os (set fr o.dst v) m1 fr' m'
  else j3 P C ops os (set fr o.dst undef) m fr' m'
def iO:Op->Bool
 | .store .. | .mapUpdate .. | .insert .. =>aqW
 | .call {callee:= .builtin .len, .. }| .call {callee:= .builtin .max, .. }| .call {callee:= .builtin .min, .. }=>aqZ
 | .call _=>aqW
 |_=>aqZ
def fi (B:Array Nat) (i k:Nat):Bool:=(B.getD i 0).testBit k
structure Acc where
 reads:List (Nat×(Mem->Prop))
 gN:List (Nat×Mem)
 news:List (Nat×Nat)
def gw (P:aq1) (C:FuncId->Array aqX->Mem->aqX->Mem->Prop) (ops:List Oper) (B:Array Nat):Nat->List Oper->Acc->(Nat->aqX)->Mem->(Nat->aqX)->Mem->Prop
 |_,[],_,fr,m,fr',m'=>fr'=fr/\m'=m
 |i,o::os,A,fr,m,fr',m'=>
  if wanted ops fr o=aqW then
   (∃v,cP P (aK fr) o v/\gw P C ops B (i+1) os A (set fr o.dst v) m fr' m')\/
   (∃v,eT P (aK fr) o m v/\(∀x∈A.gN,fi B i x.1=aqZ->eT P (aK fr) o x.2 v)/\
    gw P C ops B (i+1) os {A with reads:=(i,fun m=>eT P (aK fr) o m v)::A.reads} (set fr o.dst v) m fr' m')\/
   (∃X v,h0 P (aK fr) o m.next X v/\gw P C ops B (i+1) os {A with news:=(i,m.next)::A.news} (set fr o.dst v) (m.push X) fr' m')\/
   (∃v m1,gF P C (aK fr) o m v m1/\(∀x∈A.reads,fi B i x.1=aqZ->x.2 m1)/\(∀x∈A.news,fi B i x.1=aqZ->m1.aG x.2=m.aG x.2)/\
    gw P C ops B (i+1) os {A with gN:=(i,m)::A.gN} (set fr o.dst v) m1 fr' m')
  else gw P C ops B (i+1) os A (set fr o.dst undef) m fr' m'
inductive dX where
 |normal
 |exit (id:Nat)
 |ret
 deriving DecidableEq
def U5 (n:Nat):Option Addr->Prop
 |some a=>a.block<n
 |none=>True
def qY (n:Nat):aqX->Prop
 | .pointer a=>U5 n a
 |_=>False
def gE (n:Nat):aqX->Prop
 | .pointer a| .slice a _ _=>U5 n a
 | .map (aqV r)=>r<n
 | .func _ bc cs=>bc=#[]/\∀v∈cs.toList,qY n v
 | .chan _| .iface _ _| .agg _| .tuple _=>False
 |_=>True
def gU (n:Nat):aqX->Prop
 | .agg cs=>∀v∈cs.toList,gE n v
 |v=>gE n v
def low (n:Nat):aqX->Prop
 | .chan _=>True
 | .tuple cs=>∀v∈cs.toList,gU n v
 | .func _ a b=>(∀v∈a.toList,gU n v)/\∀v∈b.toList,gU n v
 |v=>gU n v
def qX (n:Nat):a6->Prop
 | .own L _| .map L _=>∀v∈L,gE n v
 | .ro rd=>∀i v,rd i=aqV v->gE n v
 | .dead=>True
 | .lock _ _ _ _=>True
def kE:aq3->Bool
 | .tmp _| .func _=>aqW
 | .const v=>flat v
 | .global _=>aqZ
def uv (ops:Array Oper) (o:Oper):List Nat:=
 (o.op.operands.toList.filterMap fun| .tmp t=>aqV t|_=>aqY)++
 (match o.guard with|some (g,_)=>((ops[g]?).bind (·.dst)).toList|none=>[])++o.dst.toList
def rF (ops:Array Oper) (x o:Oper):Bool:=
 (match x.dst with|some d=>(uv ops o).contains d|none=>aqZ)||(match o.dst with|some d=>(uv ops x).contains d|none=>aqZ)||(iO x.op&&iO o.op)
def uB (ops:Array Oper):Bool:=
 (arC ops.size).all fun i=>
  match ops[i]? with
  |none=>aqW
  |some o=>(o.after.toList.all fun e=> !Region.binds .any e||decide (e.on<i))&&
   (arC i).all fun x=>match ops[x]? with|none=>aqW|some y=> !rF ops y o||fi (arM ops) i x
def gn (n:Nat):Code->Bool
 | .region _ ops draw=>(ops.toList.all fun o=>o.op.operands.toList.all kE&&(match o.dst with|some d=>decide (d<n)|none=>aqW))&&(!draw||uB ops)
 | .seq a b=>gn n a&&gn n b
 | .cond c a b=>kE c&&gn n a&&gn n b
 | .block _ c=>gn n c
 | .scope c=>gn n c
 | .loop c=>gn n c
 |_=>aqW
structure jJ (j:bo) (N:Nat) (fr:Nat->aqX) (a:Act):Prop where
 val:∀t,cb j (fr t) (a.tmps.getD t undef)
 defers:a.defers=[]
 size:a.tmps.size=N
def dX.out:dX->Exit
 | .normal=> .normal
 | .exit id=> .exit id
 | .ret=> .ret
def tC (ops:Array Oper):List Nat:=ops.toList.filterMap (·.dst)
def jD:Code->List Nat
 | .region _ ops _=>tC ops
 | .seq a b=>jD a++jD b
 | .cond _ a b=>jD a++jD b
 | .block _ c=>jD c
 | .scope c=>jD c
 | .loop c=>jD c
 |_=>[]
structure WF (m:Mem):Prop where
 dead:∀b,m.next<=b->m.aG b= .dead
 low:∀b,qX m.next (m.aG b)
structure Je (P:aq1) (c:Code) (fr:Nat->aqX) (m:Mem) (e:dX) (fr':Nat->aqX) (m':Mem):Prop where
 next:m.next<=m'.next
 keep:∀i,(jD c).contains i=aqZ->fr' i=fr i
 low:WF m->(∀t,low m.next (fr t))->WF m'/\∀t,low m'.next (fr' t)
 sound:∀{N:Nat} {j:bo} {a:Act} {w:World} {Q:Exit->Act->World->Prop},gn N c=aqW->Rel P j m w->WF m->jJ j N fr a->(∀a' w' bX,Post P j m w bX m' w'->jJ bX N fr' a'->Q e.out a' w')->c.wp P Q a w
def kH (P:aq1) (C:FuncId->Array aqX->Mem->aqX->Mem->Prop):Nat->Code->(Nat->aqX)->Mem->dX->(Nat->aqX)->Mem->Prop
 |0,_,_,_,_,_,_=>False
 |_+1, .skip,fr,m,e,fr',m'=>e= .normal/\fr'=fr/\m'=m
 |_+1, .label _,fr,m,e,fr',m'=>e= .normal/\fr'=fr/\m'=m
 |_+1, .exit id,fr,m,e,fr',m'=>e= .exit id/\fr'=fr/\m'=m
 |_+1, .ret,fr,m,e,fr',m'=>e= .ret/\fr'=fr/\m'=m
 |_+1, .region _ ops aqZ,fr,m,e,fr',m'=>e= .normal/\j3 P C ops.toList ops.toList fr m fr' m'
 |_+1, .region _ ops aqW,fr,m,e,fr',m'=>e= .normal/\gw P C ops.toList (arM ops) 0 ops.toList ⟨[],[],[]⟩ fr m fr' m'
 |n+1, .seq a b,fr,m,e,fr',m'=>(∃aX eV m1,kH P C n a fr m aX eV m1/\(if aX= .normal then kH P C n b eV m1 e fr' m' else e=aX/\fr'=eV/\m'=m1))\/Je P (.seq a b) fr m e fr' m'
 |n+1, .cond c a b,fr,m,e,fr',m'=>∃t,aK fr c= .bool t/\kH P C n (if t then a else b) fr m e fr' m'
 |n+1, .scope c,fr,m,e,fr',m'=>kH P C n c fr m e fr' m'
 |n+1, .block id c,fr,m,e,fr',m'=>∃aX,kH P C n c fr m aX fr' m'/\e=(if aX= .exit id then .normal else aX)
 |n+1, .loop c,fr,m,e,fr',m'=>∃aX eV m1,kH P C n c fr m aX eV m1/\(if aX= .normal then kH P C n (.loop c) eV m1 e fr' m' else e=aX/\fr'=eV/\m'=m1)
 |_+1,_,_,_,_,_,_=>False
def G2 (P:aq1) (fr:Nat->aqX) (m:Mem):ResultVar->aqX->Prop
 | .tmp t,v=>v=fr t
 | .cell a t,v=>∃b off,fr a= .pointer (aqV ⟨b,off,aqY⟩)/\∃d,P.underlying t=aqV d/\
   (if jL d=aqW then ∃i cs,P.info? t=aqV i/\jH m b off i.size=aqV cs/\v= .agg cs.toArray else m.load b off=aqV v)
def pf (P:aq1) (fr:Nat->aqX) (m:Mem):List ResultVar->List aqX->Prop
 |[],[]=>True
 |r::rs,v::vs=>G2 P fr m r v/\pf P fr m rs vs
 |_,_=>False
def mA (P:aq1) (f:FuncId):Bool:=
 match P.funcs[f]? with
 | aqV fn => !(fn.name == "runtime.NumGoroutine") && (match fn.body with | aqV c => gn fn.ntmps c | aqY => aqZ)
 |none=>aqZ
def pack:List aqX->aqX
 |[x]=>x
 |vs=> .tuple vs.toArray
def Y2 (P:aq1) (f:FuncId) (yn:aqX):Prop:=∀(p:Option Addr) (cap:Nat) (w:World),Calls P f #[.slice p 0 cap,yn] w fun e w'=>e= .returned (.tuple #[])/\w'=w
def PT (P:aq1) (f:FuncId) (yn:aqX) (l:Nat) (F mS:List aqX):Prop:=
 ∀(w:World) (aG off cap:Nat) (cs:Array aqX) (t:aq4) (bg:Nat×Nat),w.heap[aG]? =aqV (.cells cs t bg)->(∀(i:Nat) (v:aqX),F[i]? =aqV v->cs[off+i]? =aqV v)->(∀i,i<cs.size->¬(bg.1<=i/\i<bg.2))->
  Calls P f #[.slice (aqV ⟨aG,off,aqY⟩) l cap,yn] w fun e w'=>e= .returned (.tuple #[])/\w'.os=w.os/\w'.tape=w.tape/\w'.output=w.output/\w.heap.size<=w'.heap.size/\
   (∀c,c<w.heap.size->c≠aG->w'.heap[c]? =w.heap[c]?)/\w'.heap[aG]? =aqV (.cells (eU cs.toList off mS).toArray t bg)
inductive x3 (P:aq1) (f:FuncId) (args:Array aqX) (m:Mem):aqX->Mem->Prop where
 |none (a:Option Addr) (c g:Nat) (h:Y2 P f (.func (.func g) #[] #[])) (aq:args=#[.slice a 0 c, .func (.func g) #[] #[]]):x3 P f args m (.tuple #[]) m
 |row (b off l c g:Nat) (L:List aqX) (e:aq4) (F mS:List aqX) (h:PT P f (.func (.func g) #[] #[]) l F mS) (aq:args=#[.slice (aqV ⟨b,off,aqY⟩) l c, .func (.func g) #[] #[]]) (ah:0<l) (hm:m.aG b= .own L e)
   (cB:(L.drop off).take F.length=F) (ar:off+F.length<=L.length) (ku:mS.length=F.length) (f1:F.all cx=aqW) (f2:mS.all cx=aqW):x3 P f args m (.tuple #[]) (m.put b (.own (eU L off mS) e))
def h7 (P:aq1):Nat->FuncId->Array aqX->Mem->aqX->Mem->Prop
 |0,_,_,_,_,_=>False
 |n+1,f,args,m,v,m'=>(mA P f=aqW/\x3 P f args m v m')\/∃fn c e fr m1 vs,P.funcs[f]? =aqV fn/\fn.body=aqV c/\mA P f=aqW/\args.size<=fn.ntmps/\
   kH P (h7 P n) n c (fun i=>(args++asl (fn.ntmps - args.size) undef).getD i undef) m e fr m1/\(e= .normal\/e= .ret)/\
   pf P fr m1 fn.results.toList vs/\v=pack vs/\(vs.length=1\/∀x∈vs,storable x=aqW)/\
   (m'=m1\/(m'=m1.lK m.next/\low m.next v/\∀b,b<m.next->m1.aG b=m.aG b\/qX m.next (m1.aG b)))
end Go.aS
end
section
namespace Go.aS
theorem ba.FZ {au bz:Type} {R:au->bz->Prop} {l:List bz} (h:ba R [] l):l=[]:=by
 cases l with
 |nil=>rfl
 |cons _ _=>exact h.elim
theorem Ge {fn:Fn} {bc cs:Array aqX} (h:cx (.func fn bc cs)=aqW):bc=#[]/\cs=#[]:=by
 simp only[cx,ara] at h;exact ⟨by simpa using h.1,by simpa using h.2⟩
theorem CQ {j:bo} {v aV:aqX} (h:cx v=aqW) (ad:dC j v aV):aV=v:=by
 cases v with
 |pointer a=>cases a with
  |none=>exact ad
  |some a=>simp[cx] at h
 |slice a l c=>cases a with
  |none=>exact ad
  |some a=>simp[cx] at h
 |map r=>cases r with
  |none=>exact ad
  |some r=>simp[cx] at h
 |chan _=>simp[cx] at h
 |func _ _ _=>obtain ⟨rfl,rfl⟩:=Ge (fn:= .func 0) (by simpa[flat,iA,cx] using h);obtain ⟨_,ds,J,aj⟩:=ad;have:ds=#[]:=asc (ba.FZ aj);rw[J,this]
 |iface _ _=>simp[cx] at h
 |agg _=>simp[cx] at h
 |tuple _=>simp[cx] at h
 |_=>exact ad
theorem p8 {j:bo} {v:aqX} (h:cx v=aqW):dC j v v:=by
 cases v with
 |pointer a=>cases a with
  |none=>exact rfl
  |some a=>simp[cx] at h
 |slice a l c=>cases a with
  |none=>exact rfl
  |some a=>simp[cx] at h
 |map r=>cases r with
  |none=>exact rfl
  |some r=>simp[cx] at h
 |chan _=>simp[cx] at h
 |func _ _ _=>obtain ⟨rfl,rfl⟩:=Ge (fn:= .func 0) (by simpa[flat,iA,cx] using h);exact ⟨rfl,#[],rfl,trivial⟩
 |iface _ _=>simp[cx] at h
 |agg _=>simp[cx] at h
 |tuple _=>simp[cx] at h
 |_=>exact rfl
theorem ba.ES {au:Type} {R:au->au->Prop} {p:au->Bool} (h:∀a b,p a=aqW->R a b->b=a):∀{l k:List au},l.all p=aqW->ba R l k->k=l
 |[],[],_,_=>rfl
 |a::l,b::k,ap,⟨h1,J⟩=>by simp only[arR,ara] at ap;rw[h a b ap.1 h1,ba.ES h ap.2 J]
 |[],_::_,_,ax=>ax.elim
 |_::_,[],_,ax=>ax.elim
theorem ba.self {au:Type} {R:au->au->Prop} {p:au->Bool} (h:∀a,p a=aqW->R a a):∀{l:List au},l.all p=aqW->ba R l l
 |[],_=>ari
 |a::l,ap=>by simp only[arR,ara] at ap;exact ⟨h a ap.1,ba.self h ap.2⟩
theorem Ol {j:bo} {v aV:aqX} (h:iA v=aqW) (ad:ey j v aV):aV=v:=by
 cases v with
 |agg cs=>obtain ⟨ds,rfl,J⟩:=ad;have:=ba.ES (fun a b=>CQ (j:=j)) h J;rw[asc this]
 |_=>exact CQ (j:=j) h (by simpa only[ey] using ad)
theorem zm {j:bo} {v:aqX} (h:iA v=aqW):ey j v v:=by
 cases v with
 |agg cs=>exact ⟨cs,rfl,ba.self (fun a=>p8) h⟩
 |_=>simp only[ey];exact p8 h
theorem OQ {j:bo} {v aV:aqX} (h:flat v=aqW) (ad:cb j v aV):aV=v:=by
 cases v with
 |tuple cs=>obtain ⟨ds,rfl,J⟩:=ad;have:=ba.ES (fun a b=>Ol (j:=j)) h J;rw[asc this]
 |func _ _ _=>obtain ⟨rfl,rfl⟩:=Ge (fn:= .func 0) (by simpa[flat,iA,cx] using h);obtain ⟨gs,ds,h1,J,aj⟩:=ad;rw[h1,asc (ba.FZ J),asc (ba.FZ aj)]
 |chan _=>simp[flat,iA,cx] at h
 |_=>exact Ol (j:=j) h (by simpa only[cb] using ad)
theorem Gu {j:bo} {v:aqX} (h:flat v=aqW):cb j v v:=by
 cases v with
 |tuple cs=>exact ⟨cs,rfl,ba.self (fun a=>zm) h⟩
 |func _ _ _=>obtain ⟨rfl,rfl⟩:=Ge (fn:= .func 0) (by simpa[flat,iA,cx] using h);exact ⟨#[],#[],rfl,trivial,trivial⟩
 |chan _=>simp[flat,iA,cx] at h
 |_=>simp only[cb];exact zm h
theorem ju.Vk {j:bo}:∀{l k:List aqX},l.all wU=aqW->ba (ey j) l k->ba (ju j) l k
 |[],[],_,_=>trivial
 |[],_::_,_,h=>h.elim
 |_::_,[],_,h=>h.elim
 |v::l,aV::k,ap,⟨h1,J⟩=>by
  simp only[arR,ara] at ap;refine ⟨?_,ju.Vk ap.2 J⟩;have ad:=ap.1;unfold wU at ad;split at ad
  ·exact h1
  ·cases ad
theorem cb.storable {j:bo} {v aV:aqX} (h:cb j v aV) (ay:storable v=aqW):ey j v aV:=by
 cases v with
 |tuple _=>simp[aS.storable] at ay
 |chan _=>simp[aS.storable] at ay
 |func fn bc cs=>
  simp only[aS.storable,ara] at ay;have aP:bc=#[]:=by simpa using ay.1
  subst aP;obtain ⟨gs,ds,h1,J,aj⟩:=h;rw[asc (ba.FZ J)] at h1;exact ⟨rfl,ds,h1,ju.Vk ay.2 aj⟩
 |_=>exact h
theorem cb.int {j:bo} {k:aq2} {n:Int} {aV:aqX} (h:cb j (.int k n) aV):aV= .int k n:=h
theorem cb.bool {j:bo} {b:Bool} {aV:aqX} (h:cb j (.bool b) aV):aV= .bool b:=h
theorem cb.str {j:bo} {b:ByteArray} {aV:aqX} (h:cb j (.string b) aV):aV= .string b:=h
theorem cb.lJ {j:bo} {l c:Nat} {aV:aqX} (h:cb j (.slice aqY l c) aV):aV= .slice aqY l c:=h
theorem cb.ptr {j:bo} {a:Addr} {aV:aqX} (h:cb j (.pointer (aqV a)) aV):∃e,a.spot=aqY/\j a.block=aqV e/\aV= .pointer (aqV ⟨e.aG,e.dM+a.off,aqY⟩):=h
theorem cb.slice {j:bo} {a:Addr} {l c:Nat} {aV:aqX} (h:cb j (.slice (aqV a) l c) aV):∃e,a.spot=aqY/\j a.block=aqV e/\
   ((c<dr/\aV= .slice (aqV ⟨e.aG,e.dM+a.off,aqY⟩) l c)\/
    (c=dr/\0<e.es/\l<=e.cap - a.off / e.es/\e.cap<dr/\a.off%e.es=0/\a.off / e.es<=e.cap/\aV= .slice (aqV ⟨e.aG,e.dM+a.off,aqY⟩) l (e.cap - a.off / e.es))\/
    (c=dr/\l=0/\∃o',aV= .slice (aqV ⟨e.aG,o',aqY⟩) 0 0)\/
    (c=0/\l=0/\∃a',aV= .slice (aqV a') 0 0)):=h
theorem p9 (b o n:Nat):(⟨b,o,aqY⟩:Addr).add n=⟨b,o+n,aqY⟩:=by
 unfold Addr.add;split<;>simp_all
theorem pg:∀(vs L:List aqX) (o:Nat),(eU L o vs).length=L.length
 |[],L,o=>rfl
 |v::vs,L,o=>by simp[eU,pg vs]
theorem ou (vs:List aqX):∀(L:List aqX) (o i:Nat),o+vs.length<=L.length->(eU L o vs)[i]? =if o<=i/\i<o+vs.length then vs[i - o]? else L[i]? :=by
 induction vs with
 |nil=>intro L o i h;simp[eU];intro h1 J;omega
 |cons v vs a8=>
  intro L o i h;simp only[arw] at h;simp only[eU,arw];rw[a8 (L.set o v) (o+1) i (by simp;omega)];by_cases h1:o+1<=i/\i<o+1+vs.length
  ·rw[if_pos h1,if_pos (by omega),show i - o=(i - (o+1))+1 by omega];simp
  ·rw[if_neg h1];by_cases J:o=i
   ·subst J;rw[if_pos (by omega),List.getElem?_set_self (by omega)];simp
   ·rw[if_neg (by omega),List.getElem?_set_ne J]
theorem ae' (vs:List aqX):∀(A:Array aqX) (o k:Nat),((vs.zipIdx k).foldl (fun cs (c,j)=>cs.setIfInBounds (o+j) c) A).toList=eU A.toList (o+k) vs:=by
 induction vs with
 |nil=>intro A o k;simp[eU]
 |cons v vs a8=>intro A o k;simp only[List.zipIdx_cons,List.foldl_cons,eU];rw[a8];simp[arD]
theorem F8 {j:bo} {place:Nat->Option (Nat×Nat)}:∀(bK EN:List (Nat×aqX)) (L:List aqX) (A:Array aqX) (cs:List aqX),ba (fun p q=>p.1=q.1/\cb j p.2 q.2) bK EN->ba (dC j) L A.toList->jE place L bK=aqV cs->
  ∃ds,Instr.fill place A EN=aqV ds/\ba (dC j) cs ds.toList
 |[],[],L,A,cs,_,cC,h=>by simp only[jE,arr.injEq] at h;subst h;exact ⟨A,rfl,cC⟩
 |(i,v)::bK,(k,aV)::EN,L,A,cs,⟨⟨h1,J⟩,aj⟩,cC,h=>by
  simp only at h1 J;subst h1;simp only[jE] at h;cases ap:place i with
  |none=>simp[ap] at h
  |some q=>
   obtain ⟨off,size⟩:=q;simp only[ap] at h;split at h
   ·rename_i ab;obtain ⟨ay,bE,ah⟩:=ab;have jh:=cb.storable J ay;have eR:=ey.cells jh;have hlen:aV.cells.size=size:=by have:=eR.length;simp at this;omega
    have abd:L.length=A.size:=by have:=cC.length;simpa using this
    simp only[Instr.fill,ap,hlen,ne_eq,not_true_eq_false,decide_false,Bool.false_or,decide_eq_true_eq];rw[if_neg (by omega)];refine F8 bK EN _ _ cs aj ?_ h;have aP:=ae' aV.cells.toList A off 0;simp only[arJ] at aP;have gb:(aV.cells.zipIdx.foldl (fun cs (c,j)=>cs.setIfInBounds (off+j) c) A)=((aV.cells.toList.zipIdx).foldl (fun cs (c,j)=>cs.setIfInBounds (off+j) c) A):=by rw[<-aug,Array.toList_zipIdx]
    rw[gb,aP];refine ba.F0 (by simp[pg,abd]) ?_;intro i a b aq aa;rw[ou _ _ _ _ (by simp;omega)] at aq;rw[ou _ _ _ _ (by simp;omega)] at aa;have lV:=eR.length;rw[lV] at aq;split at aq
    ·rename_i fC;rw[if_pos fC] at aa;obtain ⟨b6,cu,an⟩:=eR.get _ _ aq;rw[cu] at aa;cases aa;exact an
    ·rename_i fC;rw[if_neg fC] at aa;obtain ⟨b6,cu,an⟩:=cC.get _ _ aq;rw[cu] at aa;cases aa;exact an
   ·simp at h
 |[],_::_,_,_,_,h,_,_=>h.elim
 |_::_,[],_,_,_,h,_,_=>h.elim
def hJ (j:bo) (af cE:aq3->aqX) (o:Oper):Prop:=∀x∈o.op.operands,cb j (af x) (cE x)
theorem ee {P:aq1} {t:aq4} {d:TypeDesc} (h:P.underlying t=aqV d) (w:World):(underlying t).run P w= .ok d w:=run_underlying h w
theorem uG {P:aq1} {t:aq4} {i:TypeInfo} (h:P.info? t=aqV i) (w:World):(typeInfo t).run P w= .ok i w:=by simp[typeInfo,h]
theorem iN {P:aq1} {t:aq4} {i:TypeInfo} (h:P.info? t=aqV i) (w:World):(sizeOf t).run P w= .ok i.size w:=by simp[sizeOf,uG h]
theorem ny {P:aq1} {t:aq4} {i:TypeInfo} {z:aqX} (h:P.info? t=aqV i) (aF:i.zero=aqV z) (w:World):(zeroValue t).run P w= .ok z w:=by simp[zeroValue,uG h,aF]
theorem wN {P:aq1} {t:aq4} {d:TypeDesc} (h:P.underlying t=aqV d) (w:World):(isAgg t).run P w= .ok (jL d) w:=by
 simp only[isAgg,ars,ee h,arn];cases d<;>simp[jL]
theorem hJ.MW {j:bo} {af cE:aq3->aqX} {o:Oper} (bK:List (Nat×aq3)) (h:∀p∈bK,cb j (af p.2) (cE p.2)):ba (fun (p q:Nat×aqX)=>p.1=q.1/\cb j p.2 q.2) (bK.map fun p=>(p.1,af p.2)) (bK.map fun p=>(p.1,cE p.2)):=by
 induction bK with
 |nil=>exact ari
 |cons p bK a8=>exact ⟨⟨rfl,h p (by simp)⟩,a8 fun q aJ=>h q (by simp[aJ])⟩
theorem V1 {P:aq1} (w:World):∀(bc:List Field),(∀x∈bc.map (fun f=>(P.info? f.type).map fun i=>(f.offset,i.size)),x.isSome=aqW)->
  (bc.mapM (m:=Sem) fun f=>do pure (f.offset,<-sizeOf f.type)).run P w= .ok (bc.map fun f=>(f.offset,((P.info? f.type).map (·.size)).getD 0)) w
 |[],_=>by simp
 |f::bc,h=>by have aI:=h _ (by simp;exact .inl rfl);simp only[Option.isSome_map] at aI;obtain ⟨i,ae⟩:=Option.isSome_iff_exists.1 aI;have a8:=V1 w bc (fun x U=>h x (by simp only[arN,arb];exact .inr U));simp only[List.mapM_cons,ars,iN ae,arn,arF,a8,arN,ae,asz,asm]
theorem hJ.gK {j:bo} {af cE:aq3->aqX} {y:aq3} {k:aq2} {n:Int} (h:cb j (af y) (cE y)) (ag:af y= .int k n):cE y= .int k n:=by
 rw[ag] at h;exact h.int
end Go.aS
end
section
namespace Go.aS
theorem afx {P:aq1} {j:bo} {af cE:aq3->aqX} {o:Oper} {v:aqX} (ay:∀cs b,o.op≠ .select cs b) (h:∀x∈o.op.operands,flat (af x)=aqW) (an:∀w,(execOp af o).run P w= .ok (.value v) w)
  (ad:hJ j af cE o) (w:World):(execOp cE o).run P w= .ok (.value v) w:=by
 rw[<-an w];congr 1;exact execOp_congr o ay fun x U=>OQ (h x U) (ad x U)
theorem ba.extract {au bz:Type} {R:au->bz->Prop} {A:Array au} {B:Array bz} (h:ba R A.toList B.toList) (i k:Nat):ba R (A.extract i k).toList (B.extract i k).toList:=by
 simp only[auh,atY];exact (h.take k).drop i
theorem ba.size {au bz:Type} {R:au->bz->Prop} {A:Array au} {B:Array bz} (h:ba R A.toList B.toList):A.size=B.size:=by simpa using h.length
theorem ba.Lp {au bz:Type} {R:au->bz->Prop} {A:Array au} {B:Array bz} (h:ba R A.toList B.toList) (i:Nat) (a:au) (aq:A[i]? =aqV a):∃b,B[i]? =aqV b/\R a b:=by
 have:=h.get i a (by simpa using aq);simpa using this
theorem ba.map {au bz rp:Type} {R:bz->rp->Prop} (f:au->bz) (g:au->rp):∀(l:List au),(∀x∈l,R (f x) (g x))->ba R (l.map f) (l.map g)
 |[],_=>ari
 |x::l,h=>⟨h x (by simp),ba.map f g l fun y ag=>h y (by simp[ag])⟩
theorem ey.up {j:bo} {v aV:aqX} (h:ey j v aV):cb j v aV:=cb.wu h
theorem afi {P:aq1} {cE:aq3->aqX} {o:Oper} (neq:Bool) (x y:aq3) (t u e:aq4) (a:Addr) (l c:Nat) (h:o.op= .binOp (if neq then .neq else .eql) t x y u) (ao:P.underlying t=aqV (.slice e))
   (U:cE x= .slice (aqV a) l c) (ag:cE y= .slice aqY 0 0) (w:World):(execOp cE o).run P w= .ok (.value (.bool neq)) w:=by
 have aH:(eqGuard (if neq then .neq else .eql) t x y (.slice (aqV a) l c) (.slice aqY 0 0)).run P w= .ok () w:=by cases neq<;>simp[eqGuard]
 have aa:(binOp (if neq then .neq else .eql) t (.slice (aqV a) l c) (.slice aqY 0 0)).run P w= .ok (.bool neq) w:=by
  cases neq
  ·exact Lib.run_eql_slice_nil w t e (aqV a) l c 0 0 ao
  ·exact run_neq_slice_nil_any w t e (aqV a) l c 0 0 ao
 simp only[execOp,h,U,ag,ars,aH,aa,arn,arF]
theorem VS {P:aq1} {j:bo} {af cE:aq3->aqX} {o:Oper} {v:aqX} (h:cP P af o v) (hO:hJ j af cE o) (w:World):∃aV,(execOp cE o).run P w= .ok (.value aV) w/\cb j v aV:=by
 cases h with
 |flat v ay h ad an=>exact ⟨v,afx ay h an hO w,Gu ad⟩
 |move x h=>
  refine ⟨cE x, ?_,hO x ?_⟩
  ·rcases h with h|h<;>simp[execOp,h]
  ·rcases h with h|h<;>simp[h,aq']
 |pick c a b t h ab=>
  have h1:=hO c (by simp[h,aq']);rw[ab] at h1;have J:=h1.bool;have aq:=hO a (by simp[h,aq']);have aa:=hO b (by simp[h,aq']);refine ⟨if t then cE a else cE b, ?_, ?_⟩
  ·simp only[execOp,h,J];cases t<;>simp[asBool]
  ·cases t<;>simpa
 |extract x i vs v h U ad=>have h1:=hO x (by simp[h,aq']);rw[U] at h1;obtain ⟨ds,aB,J⟩:=h1;obtain ⟨b,aa,an⟩:=J.Lp i v ad;exact ⟨b,by simp[execOp,h,Instr.extract,aB,aa],an.up⟩
 |field t x i bc f d cs v h ao aP aB U ad=>
  have h1:=hO x (by simp[h,aq']);rw[U] at h1;obtain ⟨ds,kT,J⟩:=h1;by_cases aq:jL d=aqW
  ·rw[if_pos aq] at ad;obtain ⟨k,hk,hle,rfl⟩:=ad;refine ⟨.agg (ds.extract f.offset (f.offset+k.size)), ?_,⟨_,rfl,J.extract _ _⟩⟩;simp[execOp,h,Instr.field,ee ao,aP,kT,asAgg,part,wN aB,aq,iN hk]
  ·rw[if_neg aq] at ad;obtain ⟨b,aa,an⟩:=J.Lp _ _ ad;refine ⟨b, ?_,cb.p6 an⟩;simp[execOp,h,Instr.field,ee ao,aP,kT,asAgg,part,wN aB,aq,aa]
 |build t bK bc i z cs h ao ae aF cg ap ab=>
  have J:=hJ.MW (j:=j) (af:=af) (cE:=cE) (o:=o) bK.toList (fun p ap=>hO p.2 (by
   simp only[h,aq'];simp only[as3,arf];exact ⟨p,ap,rfl⟩))
  obtain ⟨ds,kT,an⟩:=F8 (j:=j) _ _ _ z.cells cs J (ba.self (fun a=>p8) cg) ab;refine ⟨.agg ds, ?_,⟨_,rfl,by simpa using an⟩⟩;have ni:=V1 (P:=P) w bc.toList (by simpa[qg] using ap);have acM:(bc.mapM (m:=Sem) fun f=>do pure (f.offset,<-sizeOf f.type)).run P w= .ok (bc.map fun f=>(f.offset,((P.info? f.type).map (·.size)).getD 0)) w:=by rw[Array.mapM_eq_mapM_toList];simp only[Sem.run_map,ni,arn];congr 1;apply asc;simp
  have abU:(fun k:Nat=>(bc.map fun f=>(f.offset,((P.info? f.type).map (·.size)).getD 0))[k]?)=(fun k:Nat=>((qg P bc)[k]?).join):=by
   funext k;simp only[qg,Array.getElem?_map,arH,as4];cases hk:bc[k]? with
   |none=>simp
   |some f=>
    have hm:f∈bc.toList:=by have:=as5 hk;simpa using this
    have:=ap ((P.info? f.type).map fun i=>(f.offset,i.size)) (by simp only[qg,arf];exact ⟨f,hm,rfl⟩);simp only[Option.isSome_map] at this;obtain ⟨q,aJ⟩:=Option.isSome_iff_exists.1 this;simp[aJ]
  have rW:(bK.map fun (i,x)=>(i,cE x)).toList=bK.toList.map fun p=>(p.1,cE p.2):=by simp
  simp only[execOp,h,Instr.build,ars,ny ae aF,arn,ee ao,acM,abU,rW,kT,arF]
 |EI t bK n e i k z cs h ao ae aF cg he ab=>
  have J:=hJ.MW (j:=j) (af:=af) (cE:=cE) (o:=o) bK.toList (fun p ap=>hO p.2 (by
   simp only[h,aq'];simp only[as3,arf];exact ⟨p,ap,rfl⟩))
  obtain ⟨ds,kT,an⟩:=F8 (j:=j) _ _ _ z.cells cs J (ba.self (fun a=>p8) cg) ab;refine ⟨.agg ds, ?_,⟨_,rfl,by simpa using an⟩⟩;have rW:(bK.map fun (i,x)=>(i,cE x)).toList=bK.toList.map fun p=>(p.1,cE p.2):=by simp
  simp only[execOp,h,Instr.build,ars,ny ae aF,arn,ee ao,iN he,rW,kT,arF]
 |nilCheck x a h U=>have h1:=hO x (by simp[h,aq']);rw[U] at h1;obtain ⟨e,ay,av,ab⟩:=h1.ptr;exact ⟨_,by simp[execOp,h,ab],⟨e,ay,av,rfl⟩⟩
 |fieldAddr t x i bc f k b off h ao aP hk ay U=>have h1:=hO x (by simp[h,aq']);rw[U] at h1;obtain ⟨e,_,av,ab⟩:=h1.ptr;refine ⟨.pointer (aqV ⟨e.aG,e.dM+(off+f.offset),aqY⟩), ?_,⟨e,rfl,av,rfl⟩⟩;simp[execOp,h,Instr.fieldAt,ee ao,aP,ab,atG,fieldPlace,iN hk,ay,p9,arD]
 |indexAddr t x y e i b off l c k n h ao ae U ag aI h1=>
  have cS:=hO x (by simp[h,aq']);have jj:=hO y (by simp[h,aq']);rw[U] at cS;rw[ag] at jj;have lh:=jj.int;obtain ⟨q,_,av,ab⟩:=cS.slice;have dz:∃bQ,cE x= .slice (aqV ⟨q.aG,q.dM+off,aqY⟩) l bQ:=by
   rcases ab with ⟨_,ab⟩|⟨_,_,_,_,_,_,ab⟩|⟨_,ah,_,ab⟩|⟨_,ah,_⟩
   ·exact ⟨_,ab⟩
   ·exact ⟨_,ab⟩
   ·omega
   ·omega
  obtain ⟨bQ,dz⟩:=dz;refine ⟨.pointer (aqV ⟨q.aG,q.dM+(off+n.toNat*i.size),aqY⟩), ?_,⟨q,rfl,av,rfl⟩⟩;simp[execOp,h,Instr.indexAt,lh,asIntOf,ee ao,dz,aI,h1,iN ae,p9,arD]
 |FN t x y e i b off l k n h ao ae U ag aI h1=>have cS:=hO x (by simp[h,aq']);have jj:=hO y (by simp[h,aq']);rw[U] at cS;rw[ag] at jj;have lh:=jj.int;obtain ⟨q,_,av,ab⟩:=cS.ptr;refine ⟨.pointer (aqV ⟨q.aG,q.dM+(off+n.toNat*i.size),aqY⟩), ?_,⟨q,rfl,av,rfl⟩⟩;simp[execOp,h,Instr.indexAt,lh,asIntOf,ee ao,ab,atG,aI,h1,iN ae,p9,arD]
 |slice t x bG ae e i b off l c n cq h ao dY U aa e0 ef h1 J aj=>
  have cS:=hO x (by simp[h,aq']);rw[U] at cS;obtain ⟨q,_,av,ab⟩:=cS.slice;have hex:∃a':Addr,cE x= .slice (aqV a') l c/\((c<dr/\a'=⟨q.aG,q.dM+off,aqY⟩)\/(c=0/\l=0)):=by
   rcases ab with ⟨aN,ab⟩|⟨ab,_⟩|⟨ab,_⟩|⟨ab,ah,a',aq⟩
   ·exact ⟨_,ab, .inl ⟨aN,rfl⟩⟩
   ·exact absurd ab aa
   ·exact absurd ab aa
   ·subst ab;subst ah;exact ⟨a',aq, .inr ⟨rfl,rfl⟩⟩
  obtain ⟨a',dz,Mq⟩:=hex;have nX:(arO aqW l c (bG.map cE) (ae.map cE) aqY).run P w= .ok (n,cq,c) w:=by
   cases bG with
   |none=>
    simp only[q8] at e0;subst e0;cases ae with
    |none=>simp only[ov] at ef;subst ef;simp[arO]
    |some y=>obtain ⟨k,ag⟩:=ef;have:=hJ.gK (hO y (by simp[h,aq'])) ag;simp[arO,this,asr,asIntOf,J]
   |some u=>
    obtain ⟨k,hu⟩:=e0;have kg:=hJ.gK (hO u (by simp[h,aq'])) hu;cases ae with
    |none=>simp only[ov] at ef;subst ef;simp[arO,kg,asr,asIntOf,h1]
    |some y=>obtain ⟨dc,ag⟩:=ef;have:=hJ.gK (hO y (by simp[h,aq'])) ag;simp[arO,this,kg,asr,asIntOf,h1,J]
  refine ⟨.slice (aqV (if c=n then a' else a'.add (n*i.size))) (cq - n) (c - n), ?_, ?_⟩
  ·simp only[execOp,h,atu,ars,ee ao,arn,atZ,atv,dz,nX,iN dY,arF];congr 3;split<;>simp
  ·refine ⟨q,rfl,av, ?_⟩;rcases Mq with ⟨aN,rfl⟩|⟨rfl,rfl⟩
   ·refine .inl ⟨as6 (Nat.sub_le c n) aN, ?_⟩;congr 2;split<;>simp[p9,arD]
   ·have ar:n=0:=by omega
    have ax:cq=0:=by omega
    subst ar;subst ax;exact .inr (.inr (.inr ⟨rfl,rfl,_,rfl⟩))
 |slice3 t x h6 ae e i b off l c cq dc r4 h ao dY U ab ef nY h1=>
  obtain ⟨y,adY,rfl,ag⟩:=ef;have cS:=hO x (by simp[h,aq']);rw[U] at cS;have wa:=hJ.gK (hO y (by simp[h,aq'])) ag;have gC:=hJ.gK (hO h6 (by simp[h,aq'])) nY;obtain ⟨q,_,av,eR⟩:=cS.slice;have hex:∃(a':Addr) (bQ:Nat),cE x= .slice (aqV a') l bQ/\dc<=bQ/\dC j (.slice (aqV ⟨b,off,aqY⟩) cq dc) (.slice (aqV a') cq dc):=by
   rcases eR with ⟨aN,eR⟩|⟨dE,_,hle,ka,_,_,eR⟩|⟨dE,fl,o',eR⟩|⟨mr,fl,a',eR⟩
   ·rcases ab with ⟨_,hk⟩|⟨dE,_⟩
    ·exact ⟨_,_,eR,hk,q,rfl,av, .inl ⟨as6 hk aN,rfl⟩⟩
    ·exact absurd (dE▸aN) (atg _)
   ·rcases ab with ⟨jQ,_⟩|⟨_,hk⟩
    ·exact absurd dE jQ
    ·exact ⟨_,_,eR,arq hk hle,q,rfl,av, .inl ⟨as6 (arq hk hle) (as6 (Nat.sub_le _ _) ka),rfl⟩⟩
   ·rcases ab with ⟨jQ,_⟩|⟨_,hk⟩
    ·exact absurd dE jQ
    ·have kc:dc=0:=by omega
     have L4:cq=0:=by omega
     subst kc L4;subst fl;exact ⟨_,_,eR,asd _,q,rfl,av, .inr (.inr (.inr ⟨rfl,rfl,_,rfl⟩))⟩
   ·subst mr fl;have kc:dc=0:=by rcases ab with ⟨_,hk⟩|⟨_,hk⟩<;>omega
    have L4:cq=0:=by omega
    subst kc L4;exact ⟨a',_,eR,aq9 _,q,rfl,av, .inr (.inr (.inr ⟨rfl,rfl,_,rfl⟩))⟩
  obtain ⟨a',bQ,dz,hk,ad⟩:=hex;have nX:(arO aqW l bQ (aqY:Option aqX) ((aqV y).map cE) (aqV (cE h6))).run P w= .ok (0,cq,dc) w:=by simp[arO,wa,gC,asr,asIntOf,hk,h1]
  refine ⟨_, ?_,cb.p6 ad⟩;simp only[execOp,h,atu,ars,ee ao,arn,atZ,asz,atv,dz] at nX⊢;simp only[nX,iN dY,arF,arn,Nat.sub_zero,ase];congr 3;split
  ·rfl
  ·rcases a' with ⟨e6,gm,s1⟩;cases s1<;>simp[Addr.add]
 |IB t x h6 ae e i r4 h ao dY U ef nY=>
  obtain ⟨y,adY,rfl,ag⟩:=ef;have cS:=hO x (by simp[h,aq']);rw[U] at cS;have dz:=cS.lJ;have wa:=hJ.gK (hO y (by simp[h,aq'])) ag;have gC:=hJ.gK (hO h6 (by simp[h,aq'])) nY;refine ⟨.slice aqY 0 0, ?_,rfl⟩;have nX:(arO aqW 0 0 (aqY:Option aqX) ((aqV y).map cE) (aqV (cE h6))).run P w= .ok (0,0,0) w:=by simp[arO,wa,gC,asr,asIntOf]
  simp only[asz] at nX;simp[execOp,h,atu,ee ao,atv,dz,nX,iN dY]
 |lJ t x bG ae e i h ao dY U e0 ef=>
  have cS:=hO x (by simp[h,aq']);rw[U] at cS;have dz:=cS.lJ;refine ⟨.slice aqY 0 0, ?_,rfl⟩;have nX:(arO aqW 0 0 (bG.map cE) (ae.map cE) aqY).run P w= .ok (0,0,0) w:=by
   cases bG with
   |none=>
    cases ae with
    |none=>simp[arO]
    |some y=>obtain ⟨k,ag⟩:=ef;have:=hJ.gK (hO y (by simp[h,aq'])) ag;simp[arO,this,asr,asIntOf]
   |some u=>
    obtain ⟨k,hu⟩:=e0;have kg:=hJ.gK (hO u (by simp[h,aq'])) hu;cases ae with
    |none=>simp[arO,kg,asr,asIntOf]
    |some y=>obtain ⟨dc,ag⟩:=ef;have:=hJ.gK (hO y (by simp[h,aq'])) ag;simp[arO,this,kg,asr,asIntOf]
  simp[execOp,h,atu,ee ao,atv,dz,nX,iN dY]
 |len x t e a l c h ao U=>
  have cS:=hO x (by simp[h,aq',ar4]);rw[U] at cS;have dz:∃a' bQ,cE x= .slice a' l bQ:=by
   cases a with
   |none=>exact ⟨_,_,cS.lJ⟩
   |some a=>
    obtain ⟨q,_,av,ab⟩:=cS.slice;rcases ab with ⟨_,ab⟩|⟨_,_,_,_,_,_,ab⟩|⟨_,ah,_,ab⟩|⟨_,ah,_,ab⟩
    ·exact ⟨_,_,ab⟩
    ·exact ⟨_,_,ab⟩
    ·subst ah;exact ⟨_,_,ab⟩
    ·subst ah;exact ⟨_,_,ab⟩
  obtain ⟨a',bQ,dz⟩:=dz;exact ⟨.int .i64 l,by simp[execOp,h,resolve,invoke,builtin,Builtin.len_,ee ao,dz,goInt],rfl⟩
 |EL x t e h ao U=>have cS:=hO x (by simp[h,aq',ar4]);rw[U] at cS;have dz:=cS.lJ;exact ⟨.int .i64 0,by simp[execOp,h,resolve,invoke,builtin,Builtin.cap_,ee ao,dz,goInt],rfl⟩
 |Bk neq x y t u e a l c h ao U ag=>
  have cS:=hO x (by simp[h,aq']);rw[U] at cS;have jj:=hO y (by simp[h,aq']);rw[ag] at jj;have lh:=jj.lJ;have dz:∃a' bQ,cE x= .slice (aqV a') l bQ:=by
   obtain ⟨q,_,av,ab⟩:=cS.slice;rcases ab with ⟨_,ab⟩|⟨_,_,_,_,_,_,ab⟩|⟨_,ah,_,ab⟩|⟨_,ah,_,ab⟩
   ·exact ⟨_,_,ab⟩
   ·exact ⟨_,_,ab⟩
   ·subst ah;exact ⟨_,_,ab⟩
   ·subst ah;exact ⟨_,_,ab⟩
  obtain ⟨a',bQ,dz⟩:=dz;refine ⟨.bool neq, ?_,rfl⟩;exact afi neq x y t u e a' l bQ h ao dz lh w
 |func fn first captured h aP=>
  refine ⟨.func fn (first.map cE) (captured.map cE),by simp[execOp,h,Instr.makeFunc],⟨_,_,rfl, ?_, ?_⟩⟩
  ·simp only[asJ];exact ba.map _ _ _ fun x U=>cb.storable (hO x (by simp[h,aq'];exact .inl (by simpa using U))) (aP x (by simp[U]))
  ·simp only[asJ];exact ba.map _ _ _ fun x U=>cb.storable (hO x (by simp[h,aq'];exact .inr (by simpa using U))) (aP x (by simp[U]))
end Go.aS
end
section
namespace Go.aS
structure tv (P:aq1) (j:bo) (m:Mem) (w:World):Prop where
 load:∀b e o v,j b=aqV e->m.load b o=aqV v->∃aV,w.cell? ⟨e.aG,e.dM+o,aqY⟩=aqV aV/\dC j v aV
 own:∀b e L t,j b=aqV e->m.aG b= .own L t->P.cellsOf t=e.es/\L.length<=e.cap*e.es
 map:∀b e L u,j b=aqV e->m.aG b= .map L u->nM P j e w.heap[e.aG]? (.map L u)
theorem Rel.load {P:aq1} {j:bo} {m:Mem} {w:World} (h:Rel P j m w) (b:Nat) (e:iR) (o:Nat) (v:aqX) (av:j b=aqV e) (ah:m.load b o=aqV v):∃aV,w.cell? ⟨e.aG,e.dM+o,aqY⟩=aqV aV/\dC j v aV:=by
 unfold Mem.load at ah;have ai:=h.obj b e av;cases aa:m.aG b with
 |dead=>simp[aa] at ah
 |map L u=>simp[aa] at ah
 |lock _ _ _ _=>simp[aa] at ah
 |ro rd=>simp only[aa] at ah ai;obtain ⟨cs,t,bg,aV,h1,J,aj⟩:=ai o v ah;exact ⟨aV,by simp[as7,h1,J],aj⟩
 |own L t=>simp only[aa] at ah;obtain ⟨cs,bg,hw,aP,h1,J,aj,aM⟩:=h.own b e L t av aa;obtain ⟨aV,ab,an⟩:=aM o v ah;exact ⟨aV,by simp[as7,hw,ab],an⟩
theorem Rel.nA {P:aq1} {j:bo} {m:Mem} {w:World} (h:Rel P j m w):tv P j m w:=
 ⟨h.load,fun b e L t av aa=>by
  obtain ⟨cs,bg,hw,aP,h1,J,aj,aM⟩:=h.own b e L t av aa;exact ⟨h1,by omega⟩,fun b e L u av aa=>by have:=h.obj b e av;rw[aa] at this;exact this⟩
theorem CL {P:aq1} {j:bo} {m:Mem} {w:World} (h:tv P j m w) {b:Nat} {e:iR} (av:j b=aqV e):∀(n o:Nat) (cs:List aqX),jH m b o n=aqV cs->
  ∃ds:List aqX,ba (dC j) cs ds/\ds.length=n/\∀(i:Nat) (u:aqX),ds[i]? =aqV u->w.cell? ⟨e.aG,e.dM+o+i,aqY⟩=aqV u
 |0,o,cs,an=>by simp only[jH,arr.injEq] at an;subst an;exact ⟨[],ari,rfl,fun i u hu=>by simp at hu⟩
 |n+1,o,cs,an=>by
  simp only[jH] at an;cases h1:m.load b o with
  |none=>simp[h1] at an
  |some v=>
   cases J:jH m b (o+1) n with
   |none=>simp[h1,J] at an
   |some l=>
    simp only[h1,J,arr.injEq] at an;subst an;obtain ⟨aV,ab,ad⟩:=h.load b e o v av h1;obtain ⟨ds,ah,ar,aB⟩:=CL h av n (o+1) l J;refine ⟨aV::ds,⟨ad,ah⟩,by simp[ar],fun i u hu=> ?_⟩;cases i with
    |zero=>simp at hu;subst hu;simpa using ab
    |succ i=>have:=aB i u (by simpa using hu);rw[show e.dM+o+(i+1)=e.dM+(o+1)+i by omega];exact this
theorem zh {P:aq1} {w:World} {c o n:Nat} {ds:List aqX} (ar:ds.length=n) (aB:∀(i:Nat) (u:aqX),ds[i]? =aqV u->w.cell? ⟨c,o+i,aqY⟩=aqV u):(loadCells ⟨c,o,aqY⟩ n).run P w= .ok ds.toArray w:=by
 rw[<-ar];exact run_loadCells_list w ⟨c,o,aqY⟩ ds (fun i u hu=>by rw[p9];exact aB i u hu)
theorem VZ {P:aq1} {w:World} {a:Addr}:(loadCells a 0).run P w= .ok #[] w:=rfl
theorem Wi {P:aq1} (w:World):∀(cs:List UInt8) (s:ByteArray) (f:aqX->ByteArray->Sem (ForInStep ByteArray)),
  (∀u s,f (.int .u8 (u:UInt8).toNat) s=pure (.yield (s.push u)))->
  (forIn (cs.map fun u=>asK .u8 (u.toNat:Int)) s f).run P w= .ok (⟨s.data++cs.toArray⟩:ByteArray) w
 |[],s,f,aP=>by simp
 |u::cs,s,f,aP=>by simp only[arN,List.forIn_cons,aP,pure_bind,Wi w cs (s.push u) f aP];congr 1;simp[ByteArray.push]
theorem ahW (u:UInt8):UInt8.ofNat ((u.toNat:Int).toNat)=u:=by simp
theorem zD {P:aq1} {w:World} {r:Nat} {es:Array MapEntry} {clock:Nat} (aa:w.heap[r]? =aqV (.map es clock)):(getObj r).run P w= .ok (.map es clock) w:=by
 simp[getObj,Sem.run,aa]
theorem YJ {P:aq1} {w:World} {r:Nat} {es:Array MapEntry} {clock:Nat} (o:Obj) (aa:w.heap[r]? =aqV (.map es clock)):(setObj r o).run P w= .ok () {w with heap:=w.heap.setIfInBounds r o}:=by
 simp[setObj,Sem.run,aa]
theorem nJ.xz {ks vs:Nat} (hk:0<ks):∀{L:List aqX} {E E':List (List aqX×List aqX)},nJ ks vs L E->nJ ks vs L E'->E=E'
 |L,[],[],_,_=>rfl
 |L,[],p::E',h,cq=>by have h1:=h.eq;rw[cq.eq] at h1;have:=(cq.len p (by simp)).1;have J:=congrArg List.length h1;rw[asn,aro,aro] at J;simp only[List.flatMap_nil,asV] at J;omega
 |L,p::E,[],h,cq=>by have h1:=cq.eq;rw[h.eq] at h1;have:=(h.len p (by simp)).1;have J:=congrArg List.length h1;rw[asn,aro,aro] at J;simp only[List.flatMap_nil,asV] at J;omega
 |L,p::E,q::E',h,cq=>by have h1:=h.eq;rw[cq.eq] at h1;simp only[asn,List.append_assoc] at h1;obtain ⟨aX,h1⟩:=List.append_inj h1 (by rw[(h.len p (by simp)).1,(cq.len q (by simp)).1]);obtain ⟨e2,h1⟩:=List.append_inj h1 (by rw[(h.len p (by simp)).2,(cq.len q (by simp)).2]);have a8:=nJ.xz hk (L:=E.flatMap fun p=>p.1++p.2) (E:=E) (E':=E') ⟨rfl,fun r an=>h.len r (by simp[an])⟩ ⟨h1.symm,fun r an=>cq.len r (by simp[an])⟩;rw[a8];congr 1;exact (Prod.ext aX e2).symm
theorem tq.find {P:aq1} {j:bo} {kt vt:aq4} {key z v:aqX} {t:Bool} {E:List (List aqX×List aqX)} (h:tq (cW P kt) (cW P vt) key z E v t):∀{es:List MapEntry} (i:Nat),ba (rr P j kt vt) E es->
  (t=aqW/\∃n aV,kl key es i=aqV (n,aV)/\ey j v aV)\/(t=aqZ/\v=z/\kl key es i=aqY):=by
 induction h with
 |p3=>
  intro es i aT;cases es with
  |nil=>exact .inr ⟨rfl,rfl,rfl⟩
  |cons _ _=>exact aT.elim
 |jU p E h=>
  intro es i aT;cases es with
  |nil=>exact aT.elim
  |cons x es=>obtain ⟨⟨h1,J,aj⟩,_⟩:=aT;exact .inl ⟨rfl,i,x.val,by rw[kl,if_pos (h1.trans h)],aj⟩
 |next p E v b h aT a8=>
  intro es i aT;cases es with
  |nil=>exact aT.elim
  |cons x es=>obtain ⟨⟨h1,J,aj⟩,aT⟩:=aT;have:=a8 (i+1) aT;rw[kl,if_neg (fun ax=>h (h1.symm.trans ax))];exact this
theorem NT {P:aq1} {j:bo} {kt vt:aq4} {fj:aqX->Prop}:∀{E:List (List aqX×List aqX)} {es:List MapEntry},ba (rr P j kt vt) E es->(∀p∈E,fj (c4 (cW P kt) p.1))->∀x∈es,fj x.key
 |[],[],_,_,x,U=>by simp at U
 |p::E,y::es,⟨h1,J⟩,aH,x,U=>by
  rcases arb.1 U with rfl|U
  ·rw[h1.1];exact aH p (by simp)
  ·exact NT J (fun q aJ=>aH q (by simp[aJ])) x U
 |[],_::_,h,_,_,_=>h.elim
 |_::_,[],h,_,_,_=>h.elim
theorem VT {P:aq1} {j:bo} {af cE:aq3->aqX} {o:Oper} {m:Mem} {v:aqX} (h:eT P af o m v) (hO:hJ j af cE o) {w:World} (br:tv P j m w):∃aV,(execOp cE o).run P w= .ok (.value aV) w/\cb j v aV:=by
 cases h with
 |load t x b off d v h U ao aB ad=>have cS:=hO x (by simp[h,aq']);rw[U] at cS;obtain ⟨q,_,av,ab⟩:=cS.ptr;obtain ⟨aV,eR,an⟩:=br.load b q off v av ad;exact ⟨aV,by simp[execOp,h,Instr.loadAt,ab,atG,loadVar,wN ao,aB,eR],cb.p6 an⟩
 |wj t x b off d i cs h U ao aB ae ad=>have cS:=hO x (by simp[h,aq']);rw[U] at cS;obtain ⟨q,_,av,ab⟩:=cS.ptr;obtain ⟨ds,ah,ar,jS⟩:=CL br av _ _ _ ad;exact ⟨.agg ds.toArray,by simp[execOp,h,Instr.loadAt,ab,atG,loadVar,wN ao,aB,iN ae,zh ar jS],⟨_,rfl,by simpa using ah⟩⟩
 |slice t x bG ae e i L b off l n cq h ao dY U hm e0 ef h1 J aj=>
  have cS:=hO x (by simp[h,aq']);rw[U] at cS;obtain ⟨q,_,av,ab⟩:=cS.slice;obtain ⟨jT,_⟩:=br.own b q L e av hm;have bE:i.size=q.es:=by simpa[ar5,dY] using jT
  have key:∀(o' hq:Nat),cE x= .slice (aqV ⟨q.aG,o',aqY⟩) l hq->l<=hq->
    (execOp cE o).run P w= .ok (.value (.slice (aqV ⟨q.aG,if hq=n then o' else o'+n*i.size,aqY⟩) (cq - n) (hq - n))) w:=by
   intro o' hq dz hle;have nX:(arO aqW l hq (bG.map cE) (ae.map cE) aqY).run P w= .ok (n,cq,hq) w:=by
    cases bG with
    |none=>
     simp only[q8] at e0;subst e0;cases ae with
     |none=>simp only[ov] at ef;subst ef;simp[arO]
     |some y=>obtain ⟨k,ag⟩:=ef;have:=hJ.gK (hO y (by simp[h,aq'])) ag;simp[arO,this,asr,asIntOf,show cq<=hq by omega]
    |some u=>
     obtain ⟨k,hu⟩:=e0;have kg:=hJ.gK (hO u (by simp[h,aq'])) hu;cases ae with
     |none=>simp only[ov] at ef;subst ef;simp[arO,kg,asr,asIntOf,h1]
     |some y=>obtain ⟨dc,ag⟩:=ef;have:=hJ.gK (hO y (by simp[h,aq'])) ag;simp[arO,this,kg,asr,asIntOf,h1,show cq<=hq by omega]
   simp only[execOp,h,atu,ars,ee ao,arn,atZ,atv,dz,nX,iN dY,arF];congr 3;split<;>simp[p9]
  rcases ab with ⟨aN,_⟩|⟨_,dQ,hle,ka,vQ,hdiv,ab⟩|⟨_,fl,o',ab⟩|⟨mr,_⟩
  rotate_left 3
  ·simp[dr] at mr
  ·exact absurd aN (atg _)
  ·have hle:l<=q.cap - off / q.es:=hle;have vQ:off%q.es=0:=vQ;have hdiv:off / q.es<=q.cap:=hdiv;refine ⟨_,key _ _ ab hle,⟨q,rfl,av, ?_⟩⟩;by_cases aF:q.cap - off / q.es=n
   ·have:cq - n=0:=by omega
    right;right;left;refine ⟨rfl,this,q.dM+off, ?_⟩;simp[aF,this]
   ·right;left;have yz:(off+n*i.size) / q.es=off / q.es+n:=by rw[bE];exact Nat.add_mul_div_right _ _ dQ
    refine ⟨rfl,dQ, ?_,ka, ?_, ?_, ?_⟩
    ·simp only[yz];omega
    ·simp only[bE,Nat.add_mul_mod_self_right];exact vQ
    ·simp only[yz];omega
    ·simp only[yz,if_neg aF,arD];congr 1;omega
  ·subst fl;refine ⟨_,key _ _ ab (aq9 _),⟨q,rfl,av, ?_⟩⟩;right;right;left;refine ⟨rfl,by omega,o', ?_⟩;have:n=0:=by omega
   have:cq=0:=by omega
   simp[*]
 |str s t x e b off l c cs h ay he ao U ad=>
  have cS:=hO x (by simp[h,aq']);rw[U] at cS;obtain ⟨q,_,av,ab⟩:=cS.slice;obtain ⟨ds,ah,ar,jS⟩:=CL br av _ _ _ ad;have kT:ds=cs.map fun u=> .int .u8 u.toNat:=ba.ES (p:=cx) (fun a b=>CQ (j:=j)) (by simp[cx]) ah;subst kT;refine ⟨.string ⟨cs.toArray⟩, ?_,rfl⟩;have key:∀(a':Addr) (hq:Nat),cE x= .slice (aqV a') l hq->(a'=⟨q.aG,q.dM+off,aqY⟩\/l=0)->(execOp cE o).run P w= .ok (.value (.string ⟨cs.toArray⟩)) w:=by
   intro a' hq dz ai;have rU:(loadCells a' l).run P w= .ok ((cs.map fun u=>asK .u8 (u.toNat:Int)).toArray) w:=by
    rcases ai with rfl|ai
    ·exact zh ar jS
    ·subst ai;have:cs=[]:=by simpa using ar
     subst this;exact VZ
   have aa:(aui (.slice (aqV a') l hq)).run P w= .ok (.string ⟨cs.toArray⟩) w:=by simp only[aui,ars,rU,arn,List.forIn_toArray];rw[Wi (P:=P) w cs ByteArray.empty _ (fun u s=>by simp[ahW])];simp[ByteArray.empty,ByteArray.emptyWithCapacity];rfl
   simp[execOp,h,convert,ee ay,ee ao,dz,ee he,aa]
  rcases ab with ⟨_,ab⟩|⟨_,_,_,_,_,_,ab⟩|⟨_,fl,o',ab⟩|⟨_,fl,a',ab⟩
  ·exact key _ _ ab (.inl rfl)
  ·exact key _ _ ab (.inl rfl)
  ·exact key _ 0 (by rw[ab,fl]) (.inr fl)
  ·exact key a' 0 (by rw[ab,fl]) (.inr fl)
 |Af s t x e l c h ay he ao U=>have cS:=hO x (by simp[h,aq']);rw[U] at cS;have dz:=cS.lJ;refine ⟨.string .empty, ?_,rfl⟩;simp[execOp,h,convert,ee ay,ee ao,dz,ee he,aui]
 |lookup gy x cy ok u kt vt b L E i z v0 t fj h hh hu U ll kh K aP hk aH ae aF cg ah=>
  have cS:=hO x (by simp[h,aq']);have dz:=OQ aP (hO cy (by simp[h,aq']));have core:∃(es:Array MapEntry),ba (rr P j kt vt) E es.toList/\((∃r clock,cE x= .map (aqV r)/\w.heap[r]? =aqV (.map es clock))\/(cE x= .map aqY/\es=#[])):=by
   rcases U with ⟨U,hm,aT⟩|⟨U,rfl⟩
   ·rw[U] at cS;obtain ⟨q,av,ab⟩:∃q,j b=aqV q/\cE x= .map (aqV q.aG):=cS;obtain ⟨ir,iD,cs,clock,E',g1,g2,g3,g4,_⟩:=br.map b q L u av hm;have tK:ir=kt/\iD=vt:=by rw[hu] at g2;simpa using g2.symm
    obtain ⟨rfl,rfl⟩:=tK;have:=nJ.xz ll aT g3;subst this;exact ⟨cs,g4, .inl ⟨_,_,ab,g1⟩⟩
   ·rw[U] at cS;exact ⟨#[],ari, .inr ⟨cS,rfl⟩⟩
  obtain ⟨es,g4,ab⟩:=core;have mu:=K.find (af cy) es.toList w hk (NT g4 aH);have kb:=K.check es.isEmpty (af cy) w hk;have Uf:=ah.find 0 g4;rcases ab with ⟨r,clock,ab,g1⟩|⟨ab,rfl⟩
  ·rcases Uf with ⟨rfl,n,aV,h1,J⟩|⟨rfl,rfl,h1⟩
   ·rw[h1] at mu;cases ok with
    |false=>exact ⟨aV,by simp[execOp,h,atw,ee hh,ab,zD g1,dz,kb,mu],cb.wu J⟩
    |true=>exact ⟨.tuple #[aV, .bool aqW],by simp[execOp,h,atw,ee hh,ab,zD g1,dz,kb,mu],⟨_,rfl,J,ey.p6 rfl,ari⟩⟩
   ·rw[h1] at mu;cases ok with
    |false=>exact ⟨v0,by simp[execOp,h,atw,ee hh,ab,zD g1,dz,kb,mu,ny ae aF],cb.wu (zm cg)⟩
    |true=>exact ⟨.tuple #[v0, .bool aqZ],by simp[execOp,h,atw,ee hh,ab,zD g1,dz,kb,mu,ny ae aF],⟨_,rfl,zm cg,ey.p6 rfl,ari⟩⟩
  ·rcases Uf with ⟨rfl,n,aV,h1,J⟩|⟨rfl,rfl,h1⟩
   ·simp[kl] at h1
   ·rw[h1] at mu;simp only[List.isEmpty_toArray,List.isEmpty_nil] at kb mu;have kb:=K.check aqW (af cy) w hk;cases ok with
    |false=>exact ⟨v0,by simp[execOp,h,atw,ee hh,ab,dz,kb,mu,ny ae aF],cb.wu (zm cg)⟩
    |true=>exact ⟨.tuple #[v0, .bool aqZ],by simp[execOp,h,atw,ee hh,ab,dz,kb,mu,ny ae aF],⟨_,rfl,zm cg,ey.p6 rfl,ari⟩⟩
end Go.aS
end
section
namespace Go.aS
def bo.up (j:bo) (n:Nat) (e:iR):bo:=fun b=>if b=n then aqV e else j b
theorem Rel.Cm {P:aq1} {j:bo} {m:Mem} {w:World} (h:Rel P j m w):j m.next=aqY:=by
 cases av:j m.next with
 |none=>rfl
 |some e=>exact absurd (h.lt _ _ av).1 (atg _)
theorem bo.xB {j:bo} {n:Nat} {e:iR} (ar:j n=aqY):∀b x,j b=aqV x->j.up n e b=aqV x:=by
 intro b x aa;unfold bo.up;split
 ·rename_i h;subst h;rw[ar] at aa;cases aa
 ·exact aa
theorem Rel.push {P:aq1} {j:bo} {m:Mem} {w w':World} (h:Rel P j m w) {X:a6} {e:iR} {ob:Obj}
  (hw:w'.heap=w.heap.push ob) (acI:w'.os=w.os) (adb:w'.tape=w.tape) (lX:w'.output=w.output) (he:e.aG=w.heap.size)
  (cS:nM P j e (aqV ob) X):Post P j m w (j.up m.next e) (m.push X) w':=by
 have ar:=h.Cm;have hle:=bo.xB (e:=e) ar;have hold:∀c,c<w.heap.size->w'.heap[c]? =w.heap[c]? :=fun c ab=>by rw[hw,at0,if_neg (by omega)]
 have qS:w'.heap.size=w.heap.size+1:=by rw[hw];simp
 have hW:w'.heap[w.heap.size]? =aqV ob:=by rw[hw];simp
 have hblk:∀b,b≠m.next->(m.push X).aG b=m.aG b:=fun b aa=>by simp[Mem.push,aa]
 have pV:(m.push X).aG m.next=X:=by simp[Mem.push]
 have e9:∀b x,j.up m.next e b=aqV x->b≠m.next->j b=aqV x:=fun b x aa b8=>by simpa[bo.up,b8] using aa
 refine ⟨⟨?_, ?_, ?_⟩,⟨acI,adb,lX,by omega,fun c ab _=>hold c ab⟩,by simp[Mem.push], ?_, ?_, ?_,fun b aa fk=>by rw[hblk b (by omega)] at fk;exact fk⟩
 ·intro b x aa;by_cases eM:b=m.next
  ·subst eM;have:x=e:=by simpa[bo.up] using aa.symm
   subst this;exact ⟨by simp[Mem.push],by omega⟩
  ·have:=h.lt b x (e9 b x aa eM);exact ⟨by simp only[Mem.push];omega,by omega⟩
 ·intro b x aa;by_cases eM:b=m.next
  ·subst eM;have:x=e:=by simpa[bo.up] using aa.symm
   subst this;rw[pV,he,hW];exact cS.mono hle
  ·have lU:=e9 b x aa eM;rw[hblk b eM,hold _ (h.lt b x lU).2];exact (h.obj b x lU).mono hle
 ·intro b b6 x hb aa cu ai fk my;by_cases eM:b=m.next
  ·by_cases kx:b6=m.next
   ·rw[eM,kx]
   ·have U:x=e:=by subst eM;simpa[bo.up] using aa.symm
    have:=(h.lt b6 hb (e9 b6 hb cu kx)).2;rw[<-my,U,he] at this;omega
  ·have lU:=e9 b x aa eM;by_cases kx:b6=m.next
   ·have U:hb=e:=by subst kx;simpa[bo.up] using cu.symm
    have:=(h.lt b x lU).2;rw[my,U,he] at this;omega
   ·rw[hblk b eM] at ai;rw[hblk b6 kx] at fk;exact h.inj b b6 x hb lU (e9 b6 hb cu kx) ai fk my
 ·intro b aa;simp[bo.up,show b≠m.next by omega]
 ·intro b x aa e8;by_cases eM:b=m.next
  ·have U:x=e:=by subst eM;simpa[bo.up] using aa.symm
   exact .inl (by rw[U,he];exact aq9 _)
  ·exact absurd (h.lt b x (e9 b x aa eM)).1 (atf.2 e8)
 ·intro b aa ai;rw[hblk b (by omega)] at ai;exact ai
theorem Rel.kill {P:aq1} {j:bo} {m:Mem} {w:World} (h:Rel P j m w) (b:Nat):Post P j m w j (m.put b .dead) w:=by
 have hblk:∀c x,(m.put b .dead).aG c=x->(x≠ .dead)->m.aG c=x:=by
  intro c x ab U;simp only[Mem.put] at ab;split at ab
  ·exact absurd ab.symm U
  ·exact ab
 refine ⟨⟨h.lt, ?_, ?_⟩,vg.refl j m w,aq9 _,fun _ _=>rfl, ?_, ?_,fun c ab fk=>by
  have aX:m.aG c=(m.put b .dead).aG c:=by refine hblk c _ rfl ?_;intro aB;rw[aB] at fk;cases fk
  rw[aX];exact fk⟩
 ·intro c x ab;by_cases aB:(m.put b .dead).aG c= .dead
  ·rw[aB];trivial
  ·rw[<-hblk _ _ rfl aB];exact h.obj c x ab
 ·intro c bQ x hb ab rN ai ah my;have aX:m.aG c=(m.put b .dead).aG c:=by
   refine hblk c _ rfl ?_;intro aB;rw[aB] at ai;cases ai
  have e2:m.aG bQ=(m.put b .dead).aG bQ:=by refine hblk bQ _ rfl ?_;intro aB;rw[aB] at ah;cases ah
  exact h.inj c bQ x hb ab rN (by rw[aX];exact ai) (by rw[e2];exact ah) my
 ·intro c e ab ar;exact absurd (h.lt c e ab).1 (atf.2 ar)
 ·intro c ab ai;have aX:m.aG c=(m.put b .dead).aG c:=by
   refine hblk c _ rfl ?_;intro aB;rw[aB] at ai;cases ai
  rw[aX];exact ai
def jG (w:World) (c:Nat) (cs:Array aqX) (t:aq4) (bg:Nat×Nat):World:={w with heap:=w.heap.setIfInBounds c (.cells cs t bg)}
theorem NM {w:World} {c:Nat} {cs:Array aqX} {t:aq4} {bg:Nat×Nat} {x:Nat} (U:x≠c):(jG w c cs t bg).heap[x]? =w.heap[x]? :=by
 simp only[jG];rw[at1 (by omega)]
theorem NH {w:World} {c:Nat} {cs:Array aqX} {t:aq4} {bg:Nat×Nat} (ab:c<w.heap.size):(jG w c cs t bg).heap[c]? =aqV (.cells cs t bg):=by
 simp[jG,ab]
def rh (w:World) (c:Nat) (o:Obj):World:={w with heap:=w.heap.setIfInBounds c o}
theorem Xe {w:World} {c:Nat} {o:Obj} {x:Nat} (U:x≠c):(rh w c o).heap[x]? =w.heap[x]? :=by
 simp only[rh];rw[at1 (by omega)]
theorem agk {w:World} {c:Nat} {o:Obj} (ab:c<w.heap.size):(rh w c o).heap[c]? =aqV o:=by
 simp[rh,ab]
theorem Rel.mM {P:aq1} {j:bo} {m:Mem} {w:World} (h:Rel P j m w) {b:Nat} {e:iR} {X:a6} {ob:Obj} (av:j b=aqV e) (qP:(m.aG b).hM=aqW) (cS:nM P j e (aqV ob) X) (apZ:X.hM=aqW):
  Post P j m w j (m.put b X) (rh w e.aG ob):=by
 have aN:=(h.lt b e av).2;have kz:(m.aG b).live=aqW:=by cases aa:m.aG b<;>simp[aa,a6.hM,a6.live] at qP⊢
 have b8:∀c x,j c=aqV x->(m.aG c).live=aqW->c≠b->x.aG≠e.aG:=fun c x ab ah dE kB=>dE (h.inj b c e x av ab qP ah kB.symm).symm;have hblk:∀c,c≠b->(m.put b X).aG c=m.aG c:=fun c ab=>by simp[Mem.put,ab]
 have pV:(m.put b X).aG b=X:=by simp[Mem.put]
 have qS:(rh w e.aG ob).heap.size=w.heap.size:=by simp[rh]
 refine ⟨⟨?_, ?_, ?_⟩,⟨rfl,rfl,rfl,by rw[qS];exact aq9 _, ?_⟩,aq9 _,fun _ _=>rfl, ?_, ?_,fun c ab fk=>by
  by_cases dE:c=b
  ·subst dE;exact kz
  ·rw[hblk c dE] at fk;exact fk⟩
 ·intro c x ab;have:=h.lt c x ab;exact ⟨this.1,by rw[qS];exact this.2⟩
 ·intro c x ab;by_cases dE:c=b
  ·subst dE;rw[av] at ab;cases ab;rw[pV,agk aN];exact cS
  ·rw[hblk c dE];cases ah:(m.aG c).live with
   |false=>
    cases aa:m.aG c<;>simp[aa,a6.live] at ah
    trivial
   |true=>rw[Xe (b8 c x ab ah dE)];exact h.obj c x ab
 ·intro c bQ x hb ab rN ai fk my;have aX:(m.aG c).hM=aqW:=by
   by_cases dE:c=b
   ·subst dE;exact qP
   ·rw[hblk c dE] at ai;exact ai
  have e2:(m.aG bQ).live=aqW:=by
   by_cases dE:bQ=b
   ·subst dE;exact kz
   ·rw[hblk bQ dE] at fk;exact fk
  exact h.inj c bQ x hb ab rN aX e2 my
 ·intro c ab ar;exact Xe (Ne.symm (ar b e av qP))
 ·intro c x ab e8;exact absurd (h.lt c x ab).1 (atf.2 e8)
 ·intro c ab ai;by_cases dE:c=b
  ·subst dE;exact qP
  ·rw[hblk c dE] at ai;exact ai
theorem Rel.write {P:aq1} {j:bo} {m:Mem} {w:World} (h:Rel P j m w) {b:Nat} {e:iR} {L L':List aqX} {t:aq4} {cs cs':Array aqX} {bg:Nat×Nat} (av:j b=aqV e) (aa:m.aG b= .own L t)
  (hw:w.heap[e.aG]? =aqV (.cells cs t bg)) (ay:cs'.size=cs.size) (ah:L'.length<=e.cap*e.es) (ad:∀(i:Nat) (v:aqX),L'[i]? =aqV v->∃aV,cs'[e.dM+i]? =aqV aV/\dC j v aV):
  Post P j m w j (m.put b (.own L' t)) (jG w e.aG cs' t bg):=by
 obtain ⟨qB,yo,g1,g2,g3,g4,g5,g6⟩:=h.own b e L t av aa;have hC:qB=cs/\yo=bg:=by rw[hw] at g1;simp at g1;exact ⟨g1.1.symm,g1.2.symm⟩
 obtain ⟨rfl,rfl⟩:=hC;exact h.mM av (by rw[aa];rfl) ⟨cs',yo,rfl,by rw[ay];exact g2,g3,by rw[ay];exact g4,ah,ad⟩ rfl
theorem Rel.reuse {P:aq1} {j:bo} {m:Mem} {w:World} (h:Rel P j m w) {b:Nat} {e e2:iR} {L L':List aqX} {t:aq4} {cs cs':Array aqX} {bg:Nat×Nat} (av:j b=aqV e) (aa:m.aG b= .own L t)
  (hw:w.heap[e.aG]? =aqV (.cells cs t bg)) (ay:cs'.size=cs.size) (BC:e2.aG=e.aG) (kU:e2.es=e.es) (abQ:e2.dM+e2.cap*e2.es<=cs.size) (ah:L'.length<=e2.cap*e2.es) (ad:∀(i:Nat) (v:aqX),L'[i]? =aqV v->∃aV,cs'[e2.dM+i]? =aqV aV/\dC j v aV):
  Post P j m w (j.up m.next e2) ((m.put b .dead).push (.own L' t)) (jG w e.aG cs' t bg):=by
 have aN:=(h.lt b e av).2;have ar:=h.Cm;have hle:=bo.xB (e:=e2) ar;have qP:(m.aG b).hM=aqW:=by rw[aa];rfl
 have b8:∀c x,j c=aqV x->(m.aG c).live=aqW->c≠b->x.aG≠e.aG:=fun c x ab ah dE kB=>dE (h.inj b c e x av ab qP ah kB.symm).symm;have eM:b<m.next:=(h.lt b e av).1;have vR:(m.put b .dead).next=m.next:=rfl;have hblk:∀c,c≠b->c≠m.next->((m.put b .dead).push (.own L' t)).aG c=m.aG c:=fun c ab rN=>by simp[Mem.put,Mem.push,ab,rN]
 have yy:((m.put b .dead).push (.own L' t)).aG b= .dead:=by simp[Mem.put,Mem.push,show b≠m.next by omega]
 have acv:((m.put b .dead).push (.own L' t)).aG m.next= .own L' t:=by simp[Mem.put,Mem.push]
 have e9:∀b x,j.up m.next e2 b=aqV x->b≠m.next->j b=aqV x:=fun b x aa b8=>by simpa[bo.up,b8] using aa
 obtain ⟨qB,yo,g1,g2,g3,g4,g5,g6⟩:=h.own b e L t av aa;have hC:qB=cs/\yo=bg:=by rw[hw] at g1;simp at g1;exact ⟨g1.1.symm,g1.2.symm⟩
 obtain ⟨rfl,rfl⟩:=hC;have qS:(jG w e.aG cs' t yo).heap.size=w.heap.size:=by simp[jG]
 refine ⟨⟨?_, ?_, ?_⟩,⟨rfl,rfl,rfl,by rw[qS];exact aq9 _, ?_⟩,by simp[Mem.push,vR], ?_, ?_, ?_,fun c ab fk=>by
  by_cases dE:c=b
  ·subst dE;rw[aa];rfl
  ·rw[hblk c dE (by omega)] at fk;exact fk⟩
 ·intro c x ab;by_cases jQ:c=m.next
  ·subst jQ;have:x=e2:=by simpa[bo.up] using ab.symm
   subst this;exact ⟨by simp[Mem.push,vR],by rw[qS,BC];exact aN⟩
  ·have:=h.lt c x (e9 c x ab jQ);exact ⟨by simp only[Mem.push,vR];omega,by rw[qS];exact this.2⟩
 ·intro c x ab;by_cases jQ:c=m.next
  ·subst jQ;have U:x=e2:=by simpa[bo.up] using ab.symm
   subst U;rw[acv,BC,NH aN];refine ⟨cs',yo,rfl,by rw[ay];exact g2,by rw[kU];exact g3,by rw[ay];exact abQ,ah,fun i v ae=> ?_⟩;obtain ⟨aV,cm,cw⟩:=ad i v ae;exact ⟨aV,cm,cw.mono hle⟩
  ·by_cases dE:c=b
   ·subst dE;rw[yy];trivial
   ·have BM:=e9 c x ab jQ;rw[hblk c dE jQ];cases kz:(m.aG c).live with
    |false=>
     cases LQ:m.aG c<;>simp[LQ,a6.live] at kz
     trivial
    |true=>rw[NM (b8 c x BM kz dE)];exact (h.obj c x BM).mono hle
 ·intro c bQ x hb ab rN ai fk my;have dE:c≠b:=by intro ax;subst ax;rw[yy] at ai;cases ai
  have LX:bQ≠b:=by intro ax;subst ax;rw[yy] at fk;cases fk
  by_cases jQ:c=m.next
  ·by_cases vH:bQ=m.next
   ·rw[jQ,vH]
   ·have U:x=e2:=by subst jQ;simpa[bo.up] using ab.symm
    rw[hblk bQ LX vH] at fk;exact absurd (by rw[<-my,U,BC]) (b8 bQ hb (e9 bQ hb rN vH) fk LX)
  ·rw[hblk c dE jQ] at ai;have BM:=e9 c x ab jQ;by_cases vH:bQ=m.next
   ·have U:hb=e2:=by subst vH;simpa[bo.up] using rN.symm
    have kz:(m.aG c).live=aqW:=by cases hm:m.aG c<;>simp[hm,a6.hM,a6.live] at*
    exact absurd (by rw[my,U,BC]) (b8 c x BM kz dE)
   ·rw[hblk bQ LX vH] at fk;exact h.inj c bQ x hb BM (e9 bQ hb rN vH) ai fk my
 ·intro c ab ln;exact NM (Ne.symm (ln b e av qP))
 ·intro c ab;simp[bo.up,show c≠m.next by omega]
 ·intro c x ab e8;by_cases jQ:c=m.next
  ·have U:x=e2:=by subst jQ;simpa[bo.up] using ab.symm
   exact .inr ⟨b,e,av,qP,by rw[U,BC]⟩
  ·exact absurd (h.lt c x (e9 c x ab jQ)).1 (atf.2 e8)
 ·intro c ab ai;by_cases dE:c=b
  ·subst dE;exact qP
  ·rw[hblk c dE (by omega)] at ai;exact ai
end Go.aS
end
section
namespace Go.aS
structure AQ (P:aq1) (j:bo) (w w':World) (X:a6) (e:iR) (ob:Obj):Prop where
 heap:w'.heap=w.heap.push ob
 os:w'.os=w.os
 tape:w'.tape=w.tape
 output:w'.output=w.output
 aG:e.aG=w.heap.size
 obj:nM P j e (aqV ob) X
 own:X.hM=aqW
theorem AQ.cells {P:aq1} {j:bo} {w w':World} {L:List aqX} {t:aq4} {e:iR} {cs:Array aqX} {bg:Nat×Nat} (h1:w'.heap=w.heap.push (.cells cs t bg)) (J:w'.os=w.os) (aj:w'.tape=w.tape) (aM:w'.output=w.output) (bq:e.aG=w.heap.size)
  (dv:∀i:Nat,i<cs.size->¬(bg.1<=i/\i<bg.2)) (h3:P.cellsOf t=e.es) (hU:cs.size=e.cap*e.es) (nT:L.length<=cs.size) (Bs:∀(i:Nat) (v:aqX),L[i]? =aqV v->∃aV,cs[i]? =aqV aV/\dC j v aV) (TS:e.dM=0:=by rfl):AQ P j w w' (.own L t) e (.cells cs t bg):=
 ⟨h1,J,aj,aM,bq,⟨cs,bg,rfl,dv,h3,by rw[TS,hU];omega,by rw[<-hU];exact nT,fun i v ae=>by rw[TS,arh];exact Bs i v ae⟩,rfl⟩
theorem ba.QA {R:aqX->aqX->Prop} {L:List aqX} {cs:Array aqX} (h:ba R L cs.toList):L.length=cs.size/\∀(i:Nat) (v:aqX),L[i]? =aqV v->∃aV,cs[i]? =aqV aV/\R v aV:=
 ⟨by simpa using h.length,fun i v ae=>by obtain ⟨b,aa,an⟩:=h.get i v ae;exact ⟨b,by simpa using aa,an⟩⟩
theorem Dp {n:Nat}:∀i:Nat,i<n->¬(((0,0):Nat×Nat).1<=i/\i<((0,0):Nat×Nat).2):=fun i _ h=>absurd h.2 (Nat.not_lt_zero i)
theorem wG {P:aq1} {t:aq4} {i:TypeInfo} (h:P.info? t=aqV i):P.cellsOf t=i.size:=by simp[ar5,h]
theorem Df:asW 0=#[]:=by apply asc;simp
theorem Oc (z:Array aqX) (l:Nat):((asW (l*z.size)).map (fun k=>z[k%z.size]!)).toList=(arx l z.toList).flatten:=by
 induction l with
 |zero=>simp
 |succ l a8=>
  have e:asW ((l+1)*z.size)=asW (l*z.size)++((asW z.size).map (l*z.size+·)):=by rw[art,asv,Array.range_add]
  rw[e,Array.map_append,auj,a8,List.replicate_succ',List.flatten_append];congr 1;simp only[List.flatten_cons,List.flatten_nil,List.append_nil,Array.map_map];apply asL;intro i;simp only[asJ,arH,Array.toList_range,List.getElem?_range];by_cases ae:i<z.size
  ·simp[ae,Nat.mod_eq_of_lt ae,Nat.mul_add_mod_self_right]
  ·simp[ae]
theorem GF {j:bo} {L:List aqX} (h:L.all cx=aqW):ba (dC j) L L:=ba.self (fun _=>p8) h
theorem wB {z:List aqX} (h:z.all cx=aqW) (l:Nat):(arx l z).flatten.all cx=aqW:=by
 simp only[arc] at h⊢;intro x U;simp only[List.mem_flatten,List.mem_replicate] at U;obtain ⟨kD,⟨_,rfl⟩,U⟩:=U;exact h x U
theorem XR {P:aq1} {j:bo} {af cE:aq3->aqX} {o:Oper} {n:Nat} {X:a6} {v:aqX} (h:h0 P af o n X v) (hO:hJ j af cE o) (w:World):
  ∃aV w' e ob,(execOp cE o).run P w= .ok (.value aV) w'/\AQ P j w w' X e ob/\∀bX:bo,bX n=aqV e->cb bX v aV:=by
 cases h with
 |alloc t i z h ae aF cg ay=>
  have gl:=(GF (j:=j) cg).QA;refine ⟨.pointer (aqV ⟨w.heap.size,0,aqY⟩),w.alloc (.cells z.cells t),⟨w.heap.size,1,i.size,0⟩,_, ?_,
   .cells rfl rfl rfl rfl rfl Dp (wG ae) (by simp[ay]) (by simp) gl.2,fun bX av=>⟨_,rfl,av,rfl⟩⟩
  simp[execOp,h,Instr.alloc,ny ae aF,newVar,newRow]
 |box t x i h ae ad ay=>
  have cS:=cb.storable (hO x (by simp[h,aq'])) ad;have gl:=cS.cells.QA;refine ⟨.pointer (aqV ⟨w.heap.size,0,aqY⟩),w.alloc (.cells (cE x).cells t),⟨w.heap.size,1,i.size,0⟩,_, ?_,
   .cells rfl rfl rfl rfl rfl Dp (wG ae) ?_ ?_ gl.2,fun bX av=>⟨_,rfl,av,rfl⟩⟩
  ·simp[execOp,h,Instr.box,newVar,newRow]
  ·have:=gl.1;simp at this;simp;omega
  ·exact Nat.le_of_eq gl.1
 |buildSlice t l bK e i z cs h ao ae aF cg dp rK rT ab=>
  have J:=hJ.MW (j:=j) (af:=af) (cE:=cE) (o:=o) bK.toList (fun p ap=>hO p.2 (by
   simp only[h,aq'];simp only[as3,arf];exact ⟨p,ap,rfl⟩))
  have T8:ba (dC j) (arx l z.cells.toList).flatten ((asW (l*i.size)).map (fun k=>z.cells[k%z.cells.size]!)).toList:=by rw[<-dp,Oc];exact GF (wB cg l)
  obtain ⟨ds,kT,an⟩:=F8 (j:=j) _ _ _ _ cs J T8 ab;have gl:=an.QA;have hlen:cs.length=l*i.size:=by
   have:∀(bK:List (Nat×aqX)) (L cs:List aqX) (pl:Nat->Option (Nat×Nat)),jE pl L bK=aqV cs->cs.length=L.length:=by
    intro bK;induction bK with
    |nil=>intro L cs pl ax;simp only[jE,arr.injEq] at ax;rw[ax]
    |cons p bK a8=>
     intro L cs pl ax;obtain ⟨a,b⟩:=p;simp only[jE] at ax;cases ap:pl a with
     |none=>simp[ap] at ax
     |some q=>
      simp only[ap] at ax;split at ax
      ·rw[a8 _ _ _ ax,pg]
      ·cases ax
   rw[this _ _ _ _ ab];have aa:=T8.length;simpa using aa
  have rW:(bK.map fun (i,x)=>(i,cE x)).toList=bK.toList.map fun p=>(p.1,cE p.2):=by simp
  refine ⟨.slice (aqV ⟨w.heap.size,0,aqY⟩) l l,w.alloc (.cells ds e),⟨w.heap.size,l,i.size,0⟩,_, ?_,
   .cells rfl rfl rfl rfl rfl Dp (wG ae) (by rw[<-gl.1,hlen]) (Nat.le_of_eq gl.1) gl.2,fun bX av=>⟨_,rfl,av, .inl ⟨rT,rfl⟩⟩⟩
  by_cases wc:l*i.size=0
  ·have jS:Instr.fill (fun k=>aqV (k*i.size,i.size)) ((asW 0).map (fun k=>(#[]:Array aqX)[k%0]!)) (bK.toList.map fun p=>(p.1,cE p.2))=aqV ds:=by
    rw[wc,Df] at kT;rw[Df];simpa using kT
   simp only[execOp,h,Instr.buildSlice,ars,ee ao,arn,iN ae];simp only[wc];simp[Df] at jS;simp[jS,rW,newRow,Df]
  ·simp only[execOp,h,Instr.buildSlice,ars,ee ao,arn,iN ae];rw[if_neg (by omega)];simp only[wc,if_false,ars,ny ae aF,arn,arF,rW,kT];simp[newRow]
 |makeSlice t x y l c k dc e i z h ao ae aF cg dp U ag rU aa ab=>
  have cS:=hO x (by simp[h,aq']);rw[U] at cS;have dz:=cS.int;have jj:=hO y (by simp[h,aq']);rw[ag] at jj;have lh:=jj.int;have gl:=(GF (j:=j) (wB cg c)).length;have adt:aq2.i64.wrap (l:Int)=(l:Int):=IntWalk.i64_in _ (by omega);have adr:aq2.i64.wrap (c:Int)=(c:Int):=IntWalk.i64_in _ (by omega);have nW:(i.bytes:Int)*(c:Int)<=140737488355328:=by
   have:((i.bytes*c:Nat):Int)<=140737488355328:=by omega
   rwa [Int.natCast_mul] at this
  refine ⟨.slice (aqV ⟨w.heap.size,0,aqY⟩) l c,w.alloc (.cells ((asW (c*i.size)).map (fun k=>z.cells[k%z.cells.size]!)) e),⟨w.heap.size,c,i.size,0⟩,_, ?_,
   .cells rfl rfl rfl rfl rfl Dp (wG ae) (by simp) ?_ ?_,fun bX av=>⟨_,rfl,av, .inl ⟨ab,rfl⟩⟩⟩
  ·have lr:∀q:Int,0<=q->q<=c->(decide (q<0)||decide ((i.bytes:Int)*q>2 ^ 48))=aqZ:=by
    intro q aI h1;have:(i.bytes:Int)*q<=(i.bytes:Int)*c:=Int.mul_le_mul_of_nonneg_left h1 (by omega);simp;omega
   have ay:(Instr.makeSlice t (.int k l) (.int dc c)).run P w= .ok (.slice (aqV ⟨w.heap.size,0,aqY⟩) l c) (w.alloc (.cells ((asW (c*i.size)).map (fun k=>z.cells[k%z.cells.size]!)) e)):=by
    simp only[Instr.makeSlice,ars,ee ao,arn,asInt,asIntOf,arF,uG ae,adt,adr];rw[lr c (by omega) (by omega)];have h1:¬((l:Int)<0):=by omega
    have J:¬((l:Int)>(c:Int)):=by omega
    simp only[h1,J,decide_false,Bool.or_self,arE,if_false,ars,run_askRoom,arn,Int.toNat_natCast,iN ae,arF];by_cases wc:c*i.size=0
    ·simp[wc,newRow,Df]
    ·simp[wc,ny ae aF,newRow]
   simp[execOp,h,dz,lh,ay]
  ·simp[dp]
  ·intro a v aq;refine ⟨v, ?_, ?_⟩
   ·have:=Oc z.cells c;rw[dp] at this;rw[<-as4,dp,this];exact aq
   ·have:=wB cg c;simp only[arc] at this;exact p8 (this v (are aq))
 |bytes s t x e i b h ay ao he ae hg U aa=>
  have cS:=hO x (by simp[h,aq']);rw[U] at cS;have dz:=cS.str
  let cap:=(Question.appendCap b.size 0 e).cut (w.tape w.drawn (.appendCap b.size 0 e))
  have ka:b.size<=cap/\cap<dr:=by have aN:=Nat.mod_lt (w.tape w.drawn (.appendCap b.size 0 e)) (show 0<2 ^ 63 - b.size by omega);simp only[cap,Question.cut,dr];omega
  let row:Array aqX:=b.data.map (fun u=> .int .u8 u.toNat)++asl (cap - b.size) (.int .u8 0)
  have B5:row.size=cap:=by simp[row];have:b.data.size=b.size:=rfl;omega
  refine ⟨.slice (aqV ⟨w.heap.size,0,aqY⟩) b.size cap,(w.drew.alloc (.cells row e)).freeze {block:=w.heap.size,off:=cap} 1,⟨w.heap.size,cap,1,0⟩,Obj.cells row e (cap,cap+1), ?_,
   .cells ?_ ?_ ?_ ?_ rfl ?_ (by rw[wG ae,hg]) (by simp[B5]) ?_ ?_,fun bX av=>⟨_,rfl,av, .inr (.inl ⟨rfl,Nat.one_pos, ?_,ka.2, ?_, ?_, ?_⟩)⟩⟩
  ·have ac1:(Conv.stringToBytes e b).run P w= .ok (.slice (aqV ⟨w.heap.size,0,aqY⟩) b.size cap) ((w.drew.alloc (.cells row e)).freeze {block:=w.heap.size,off:=cap} 1):=by
    simp only[Conv.stringToBytes,ars,run_choose,at2,arE,if_false,arn,newRow,run_newObj,arF,markStringish,run_shape];have ac2:(w.drew.alloc (.cells row e)).heap[w.heap.size]? =aqV (.cells row e):=by show (w.heap.push (Obj.cells row e))[w.heap.size]? =_;simp
    have tS:((w.drew.alloc (.cells row e)).shape? w.heap.size)=aqV (e,row.size):=by simp only[World.shape?,ac2]
    show (Result.andThen (Sem.run P (match (w.drew.alloc (.cells row e)).shape? w.heap.size with|some (_,n)=>freeze {block:=w.heap.size,off:=n} 1|_=>pure ()) (w.drew.alloc (.cells row e))) _)=_;rw[tS];simp[B5];rfl
   simp[execOp,h,convert,ee ay,ee ao,dz,ee he,ac1]
  ·simp only[at3,atH,if_false,World.alloc,World.drew];apply at4;intro k;simp only[at5,at0];by_cases hk:w.heap.size=k
   ·subst hk;simp
   ·simp[hk,Ne.symm hk]
  ·unfold at3;rw[if_neg (by decide)];rfl
  ·unfold at3;rw[if_neg (by decide)];rfl
  ·unfold at3;rw[if_neg (by decide)];rfl
  ·intro k hk ax;simp only at ax;omega
  ·simp[B5];have:b.data.size=b.size:=rfl;omega
  ·intro a v aq;refine ⟨v, ?_, ?_⟩
   ·simp only[row];have aN:a<b.data.size:=by
     have:=(aq5.1 aq).1;simpa using this
    rw[atx (by simpa using aN)];simp only[arH,as4] at aq;simpa using aq
   ·simp only[arH] at aq;cases aJ:b.data.toList[a]? with
    |none=>simp[aJ] at aq
    |some u=>simp[aJ] at aq;subst aq;rfl
  ·simp;omega
  ·simp
  ·simp
  ·simp
 |makeMap t kt vt h ao=>refine ⟨.map (aqV w.heap.size),w.alloc (.map #[] 0),⟨w.heap.size,0,0,0⟩,_, ?_,⟨rfl,rfl,rfl,rfl,rfl,⟨kt,vt,#[],0,[],rfl,ao,⟨rfl,fun p ap=>by simp at ap⟩,ari,⟨by simp,fun x U=>by simp at U⟩⟩,rfl⟩,fun bX av=>⟨_,av,rfl⟩⟩;simp[execOp,h,Instr.makeMap]
theorem afA {P:aq1} {j:bo} {af cE:aq3->aqX} {o:Oper} {m:Mem} {w:World} {X:a6} {v:aqX} (h:h0 P af o m.next X v) (hO:hJ j af cE o) (br:Rel P j m w):
  ∃aV w' bX,(execOp cE o).run P w= .ok (.value aV) w'/\Post P j m w bX (m.push X) w'/\cb bX v aV:=by
 obtain ⟨aV,w',e,ob,an,ar,ad⟩:=XR h hO w;exact ⟨aV,w',j.up m.next e,an,br.push ar.heap ar.os ar.tape ar.output ar.aG ar.obj,ad _ (by simp[bo.up])⟩
end Go.aS
end
section
namespace Go.aS
theorem Gh {w:World} {c:Nat} {cs:Array aqX} {t:aq4} {bg:Nat×Nat} (h:w.heap[c]? =aqV (.cells cs t bg)):jG w c cs t bg=w:=by
 have:w.heap.setIfInBounds c (.cells cs t bg)=w.heap:=by
  apply at4;intro k;by_cases hk:k=c
  ·subst hk;have aN:=(ar9.1 h).1;rw[auy aN,h]
  ·rw[at1 (by omega)]
 simp only[jG,this]
theorem aeP {w:World} {c:Nat} {cs cs':Array aqX} {t:aq4} {bg:Nat×Nat}:jG (jG w c cs t bg) c cs' t bg=jG w c cs' t bg:=by
 simp[jG]
theorem aeA {w:World} {c o:Nat} {cs:Array aqX} {t:aq4} {bg:Nat×Nat} {v:aqX} (h:w.heap[c]? =aqV (.cells cs t bg)):w.setCell ⟨c,o,aqY⟩ v=jG w c (cs.setIfInBounds o v) t bg:=by
 have:(w.setCell ⟨c,o,aqY⟩ v).heap=(jG w c (cs.setIfInBounds o v) t bg).heap:=by
  simp only[World.setCell,jG];apply at4;intro k;rw[at5];by_cases hk:c=k
  ·subst hk;have aN:=(ar9.1 h).1;rw[if_pos rfl,h,auy aN];simp
  ·rw[if_neg hk,at1 hk]
 simp only[World.setCell] at this;simp only[World.setCell,jG,this] at*
theorem Cv {P:aq1} (c o:Nat) (t:aq4) (bg:Nat×Nat):∀(vs:List aqX) (i:Nat) (cs:Array aqX) (w:World),w.heap[c]? =aqV (.cells cs t bg)->(∀k:Nat,k<cs.size->¬(bg.1<=k/\k<bg.2))->
  o+i+vs.length<=cs.size->(∀v∈vs,v.oneCell'=aqW)->(storeCells ⟨c,o,aqY⟩ vs i).run P w= .ok () (jG w c (eU cs.toList (o+i) vs).toArray t bg)
 |[],i,cs,w,h,aP,ah,h1=>by simp only[storeCells,eU,Array.toArray_toList,Gh h];rfl
 |v::vs,i,cs,w,h,aP,ah,h1=>by
  simp only[arw] at ah;have aN:=(ar9.1 h).1;have ab:w.cell? ⟨c,o+i,aqY⟩=aqV cs[o+i]:=by simp[as7,h]
  have ga:w.frozen? ⟨c,o+i,aqY⟩=aqZ:=by
   have:=aP (o+i) (by omega);simp only[World.frozen?,h];simp only[Bool.and_eq_false_iff,decide_eq_false_iff_not];by_cases ax:bg.1<=o+i
   ·exact .inr (fun J=>this ⟨ax,J⟩)
   ·exact .inl ax
  have a8:=Cv (P:=P) c o t bg vs (i+1) (cs.setIfInBounds (o+i) v) (jG w c (cs.setIfInBounds (o+i) v) t bg) (NH aN) (by simpa using aP) (by simp;omega) (fun x U=>h1 x (by simp[U]));simp only[storeCells,ars,p9,run_store P w ⟨c,o+i,aqY⟩ v _ (h1 v (by simp)),ab,ga,arE,if_false,arn,aeA h];rw[a8,aeP];simp[eU,arD]
theorem ba.one {j:bo}:∀{L K:List aqX},ba (dC j) L K->∀v∈K,v.oneCell'=aqW
 |[],[],_,v,ad=>by simp at ad
 |a::L,b::K,⟨h1,J⟩,v,ad=>by
  rcases arb.1 ad with rfl|ad
  ·exact h1.one
  ·exact ba.one J v ad
 |[],_::_,h,_,_=>h.elim
 |_::_,[],h,_,_=>h.elim
theorem Nj {P:aq1} {j:bo} {m:Mem} {w:World} (br:tv P j m w) {a1:Nat} {y iU:aqX} {new:List aqX} (ad:cb j y iU) (h:bR m a1 y=aqV new):
  (atj iU).run P w= .ok (gT y) w/\∃ds:List aqX,ba (dC j) new ds/\(new.length=gT y*a1->∀k,k<=gT y->∀w':World,w'.heap=w.heap->(asB a1 k iU).run P w'= .ok (ds.take (k*a1)).toArray w'):=by
 cases y with
 |slice a l c=>
  cases a with
  |none=>have lh:=ad.lJ;subst lh;simp only[bR,arr.injEq] at h;subst h;refine ⟨by simp[atj,gT],[],ari,fun ar k hk w' hw=> ?_⟩;simp[asB]
  |some a=>
   obtain ⟨b,off,spot⟩:=a;obtain ⟨q,ay,av,ab⟩:=ad.slice;simp only at ay av;subst ay;simp only[bR] at h;obtain ⟨ds,ah,ar,jS⟩:=CL br av _ _ _ h;have key:∀(a':Addr) (hq:Nat),iU= .slice (aqV a') l hq->(a'=⟨q.aG,q.dM+off,aqY⟩\/l=0)->(atj iU).run P w= .ok (gT (.slice (aqV ⟨b,off,aqY⟩) l c)) w/\
     ∃ds:List aqX,ba (dC j) new ds/\(new.length=gT (.slice (aqV ⟨b,off,aqY⟩) l c)*a1->∀k,k<=gT (.slice (aqV ⟨b,off,aqY⟩) l c)->∀w':World,w'.heap=w.heap->(asB a1 k iU).run P w'= .ok (ds.take (k*a1)).toArray w'):=by
    intro a' hq lh ai;subst lh;refine ⟨by simp[atj,gT],ds,ah,fun acy k hk w' hw=> ?_⟩;simp only[gT] at hk;simp only[asB];have hlen:(ds.take (k*a1)).length=k*a1:=by rw[arG,ar];exact Nat.min_eq_left (asf _ hk)
    rcases ai with rfl|ai
    ·exact zh hlen (fun i u hu=>by
      rw[arK] at hu;split at hu
      ·have:=jS i u hu;rw[<-this];simp only[as7,hw]
      ·cases hu)
    ·subst ai;have kc:k=0:=by omega
     subst kc;simp only[ase,aty];exact VZ
   rcases ab with ⟨_,ab⟩|⟨_,_,_,_,_,_,ab⟩|⟨_,fl,o',ab⟩|⟨_,fl,a',ab⟩
   ·exact key _ _ ab (.inl rfl)
   ·exact key _ _ ab (.inl rfl)
   ·exact key _ 0 (by rw[ab,fl]) (.inr fl)
   ·exact key a' 0 (by rw[ab,fl]) (.inr fl)
 |string s=>
  have lh:=ad.str;subst lh;simp only[bR] at h;split at h
  ·rename_i bE;subst bE;simp only[arr.injEq] at h;subst h;refine ⟨by simp[atj,gT],s.data.toList.map fun u=> .int .u8 u.toNat,GF (by simp only[List.all_map,arc,Function.comp];intro u _;rfl),fun ar k hk w' hw=> ?_⟩;simp only[asB,arF,Nat.mul_one,gT] at hk⊢;congr 1;apply asc;simp only[ByteArray.data_extract,asJ,auh,atY,List.drop_zero,List.map_take]
  ·cases h
 |_=>simp[bR] at h
inductive Eh (P:aq1) (w:World) (u:aq4) (i:TypeInfo) (iU:aqX) (n:Nat) (hr:List aqX):Prop where
 |el (hu:(∃bx,P.underlying u=aqV (.slice bx))\/P.underlying u=aqV .string) (ah:∀w',(atj iU).run P w'= .ok n w') (aP:∀w',w'.heap=w.heap->(asB i.size n iU).run P w'= .ok hr.toArray w')
 |mk (kk k:aq2) (z:aqX) (hu:P.underlying u=aqV (.int kk)) (ad:iU= .int k n) (aF:i.zero=aqV z) (bE:0<i.size) (aa:n*i.bytes<=140737488355328) (hm:n<9223372036854775807) (gP:hr.toArray=atz z.cells n)
theorem Z8 (z:Array aqX):atz z 0=#[]:=by simp[atz]
theorem Ct {P:aq1} {t u ty e:aq4} {i:TypeInfo} {base:Option Addr} {l c n:Nat} {iU:aqX} {w:World} {hr:List aqX} (ao:P.underlying t=aqV (.slice e)) (ae:P.info? e=aqV i)
  (eu:Eh P w u i iU n hr) (ab:l+n<=c):
  (asX #[t,u] ty #[.slice base l c,iU]).run P w=
   match base with
   |some a=>((storeCells (a.add (l*i.size)) hr).run P w).andThen fun _ w=> .ok (.slice base (l+n) c) w
   |none=> .ok (.slice base (l+n) c) w:=by
 cases eu with
 |el hu ar aP=>have ar:=ar w;have aP:=aP w rfl;rcases hu with ⟨bx,aB⟩|aB<;>cases base<;>simp[asX,ee ao,ee aB,iN ae,ar,ab,aP]
 |mk kk k z hu ad aF bE aa hm gP=>
  subst ad;have aI:aq6 .i64 (n:Int)=n:=by rw[aq2.wrap_i64];omega
  have aM:¬((n:Int)<0):=by omega
  have bq:¬((281474976710656:Int)<(n:Int)*(i.bytes:Int)):=by
   have:(n:Int)*(i.bytes:Int)=((n*i.bytes:Nat):Int):=by simp
   rw[this];omega
  have hU:¬i.size=0:=by omega
  have jR:hr=(atz z.cells n).toList:=by rw[<-gP]
  subst jR;by_cases h3:n=0
  ·subst h3;cases base<;>simp[asX,ee ao,ee hu,iN ae,uG ae,ny ae aF,ab,asInt,asIntOf,Z8,show aq6 .i64 (0:Int)=0 from rfl]<;>omega
  ·have nT:¬n*i.size=0:=by rw[Nat.mul_eq_zero];omega
   cases base<;>simp[asX,ee ao,ee hu,iN ae,uG ae,ny ae aF,aI,aM,bq,h3,hU,nT,ab,asInt,asIntOf]
theorem aez {P:aq1} {t u ty e:aq4} {i:TypeInfo} {z:aqX} {base:Option Addr} {l c n:Nat} {iU:aqX} {w:World} {dh:Array aqX} {hr:List aqX} (ao:P.underlying t=aqV (.slice e)) (ae:P.info? e=aqV i) (aF:i.zero=aqV z)
  (eu:Eh P w u i iU n hr) (ab:c<l+n) (hm:l+n<9223372036854775807) (aa:(l+n)*i.bytes<=140737488355328)
  (ai:∀w',w'.heap=w.heap->(asB i.size l (.slice base l c)).run P w'= .ok dh w'):
  (asX #[t,u] ty #[.slice base l c,iU]).run P w=
   .ok (.slice (aqV ⟨w.heap.size,0,aqY⟩) (l+n) (grownCap w (l+n) c e)) (w.drew.alloc (.cells (dh++hr.toArray++atz z.cells (grownCap w (l+n) c e - (l+n))) e)):=by
 have h1:¬(l+n<=c):=by omega
 have J:¬(9223372036854775807<((l:Int)+(n:Int))):=by omega
 have qL:=growslice_fits ab aa;have aj:¬(281474976710656<Builtin.nextslicecap (l+n) c*i.bytes):=by omega
 have iq:=ai w.drew rfl;cases eu with
 |el hu ar aP=>have vL:=aP w.drew rfl;rcases hu with ⟨bx,aB⟩|aB<;>simp[asX,ee ao,ee aB,iN ae,uG ae,ny ae aF,ar,h1,J,aj,at2,iq,vL,newRow,grownCap]
 |mk kk k z' hu ad kC bE cu gC gP=>
  rw[aF] at kC;cases kC;subst ad;have aI:aq6 .i64 (n:Int)=n:=by rw[aq2.wrap_i64];omega
  have aM:¬((n:Int)<0):=by omega
  have bq:¬((281474976710656:Int)<(n:Int)*(i.bytes:Int)):=by
   have:(n:Int)*(i.bytes:Int)=((n*i.bytes:Nat):Int):=by simp
   rw[this];omega
  have hU:¬i.size=0:=by omega
  rw[gP];by_cases h3:n=0
  ·subst h3;simp only[arJ] at h1 aj;have gk:¬(9223372036854775807<(l:Int)):=by omega
   simp[asX,ee ao,ee hu,iN ae,uG ae,ny ae aF,h1,gk,aj,at2,iq,newRow,grownCap,asInt,asIntOf,Z8,show aq6 .i64 (0:Int)=0 from rfl]
  ·have nT:¬n*i.size=0:=by rw[Nat.mul_eq_zero];omega
   simp[asX,ee ao,ee hu,iN ae,uG ae,ny ae aF,aI,h1,J,aj,aM,bq,h3,hU,nT,at2,iq,newRow,grownCap,asInt,asIntOf]
end Go.aS
end
section
namespace Go.aS
theorem Oe {j:bo} {L new:List aqX} {cs:Array aqX} {ds:List aqX} {o dM:Nat} (h:∀(i:Nat) (v:aqX),L[i]? =aqV v->∃aV,cs[dM+i]? =aqV aV/\dC j v aV) (aB:ba (dC j) new ds) (ah:o+new.length<=L.length) (cC:dM+L.length<=cs.size):
  ∀(i:Nat) (v:aqX),(eU L o new)[i]? =aqV v->∃aV,(eU cs.toList (dM+o) ds).toArray[dM+i]? =aqV aV/\dC j v aV:=by
 intro i v ae;have hlen:=aB.length;rw[ou _ _ _ _ ah] at ae;simp only[atI];rw[ou _ _ _ _ (by simp;omega)];rw[<-hlen];split at ae
 ·rename_i fC;rw[if_pos (by omega),show dM+i - (dM+o)=i - o by omega];exact aB.get _ _ ae
 ·rename_i fC;rw[if_neg (by omega)];simpa using h i v ae
theorem Gq (cs:Array aqX) (o:Nat) (ds:List aqX):(eU cs.toList o ds).toArray.size=cs.size:=by simp[pg]
theorem zc {P:aq1} {cE:aq3->aqX} {o:Oper} {x y:aq3} {t u:aq4} (h:o.op= .call {callee:= .builtin .append,args:=#[x,y],argTypes:=#[t,u]}) {w w':World} {v:aqX}
  (an:(asX #[t,u] o.type #[cE x,cE y]).run P w= .ok v w'):(execOp cE o).run P w= .ok (.value v) w':=by
 simp[execOp,h,resolve,invoke,builtin,an]
def De (P:aq1) (j:bo) (m:Mem) (w:World) (cE:aq3->aqX) (o:Oper) (v:aqX) (m':Mem):Prop:=
 ∃n aV w' bX,(execOp cE o).run P w= .ok n w'/\(n= .value aV\/(n= .skip/\aV=undef))/\Post P j m w bX m' w'/\cb bX v aV
theorem aeS {P:aq1} {j:bo} {af cE:aq3->aqX} {o:Oper} {m:Mem} {w:World} {t:aq4} {x y:aq3} {b off:Nat} {i:TypeInfo} {L:List aqX} {e:aq4} (h:o.op= .store t x y) (U:af x= .pointer (aqV ⟨b,off,aqY⟩)) (ae:P.info? t=aqV i) (hm:m.aG b= .own L e)
   (ad:storable (af y)=aqW) (ay:(af y).cells.size=i.size) (ah:off+i.size<=L.length) (hO:hJ j af cE o) (br:Rel P j m w):De P j m w cE o undef (m.put b (.own (eU L off (af y).cells.toList) e)):=by
 have cS:=hO x (by simp[h,aq']);rw[U] at cS;obtain ⟨q,_,av,ab⟩:=cS.ptr;have jj:=cb.storable (hO y (by simp[h,aq'])) ad;have nb:=jj.cells;obtain ⟨cs,bg,g1,g2,g3,g4,g5,g6⟩:=br.own b q L e av hm;have ar:(cE y).cells.size=i.size:=by have:=nb.length;simp at this;omega
 have dH:=Cv (P:=P) q.aG (q.dM+off) e bg (cE y).cells.toList 0 cs w g1 g2 (by simp;omega) (ba.one nb);simp only[arJ] at dH;refine ⟨.skip,undef,_,j, ?_, .inr ⟨rfl,rfl⟩,br.write av hm g1 (Gq cs _ _) (by rw[pg];exact g5) (Oe g6 nb (by simp;omega) (by omega)), ?_⟩
 ·simp[execOp,h,Instr.storeAt,ab,atG,storeVar,iN ae,ar,dH]
 ·exact ⟨#[],rfl,ari⟩
theorem Vz {P:aq1} {j:bo} {m:Mem} {w:World} (br:tv P j m w) {a1:Nat} {y iU:aqX} {new:List aqX} (ad:cb j y iU) (h:bR m a1 y=aqV new) (ar:new.length=gT y*a1):
  ∃ds:List aqX,ba (dC j) new ds/\∀w':World,w'.heap=w.heap->(asB a1 (gT y) iU).run P w'= .ok ds.toArray w':=by
 obtain ⟨_,ds,aB,aP⟩:=Nj br ad h;refine ⟨ds,aB,fun w' hw=> ?_⟩;rw[aP ar _ (aq9 _) w' hw,<-ar,aB.length,List.take_length]
theorem af7 {P:aq1} {j:bo} {m:Mem} {w w':World} (h:Rel P j m w) (hw:w'.heap=w.heap):Rel P j m w':=
 ⟨fun b e aa=>by have:=h.lt b e aa;rw[hw];exact this,fun b e aa=>by rw[hw];exact h.obj b e aa,h.inj⟩
theorem agd {z:aqX} (cg:z.cells.toList.all cx=aqW) (n:Nat):∀v∈(arx n z.cells.toList).flatten,cx v=aqW:=by
 have:=wB cg n;simpa only[arc] using this
theorem Gc {P:aq1} {j:bo} {m:Mem} {w:World} (br:tv P j m w) {u:aq4} {i:TypeInfo} {y iU:aqX} {n:Nat} {new:List aqX} (ad:cb j y iU) (h:vf P m u i y n new) (ar:new.length=n*i.size):
  ∃hr:List aqX,ba (dC j) new hr/\Eh P w u i iU n hr:=by
 cases h with
 |el hu ah he=>subst ah;obtain ⟨hlen,_⟩:=Nj br ad he;obtain ⟨hr,gP,abW⟩:=Vz br ad he ar;refine ⟨hr,gP, .el hu (fun w'=> ?_) abW⟩;have:=hlen;cases lh:iU<;>simp[lh,atj] at this⊢<;>exact this
 |mk kk k z hu ag aF cg dp bE aa hm hW=>
  subst hW;have lh:iU= .int k n:=by rw[ag] at ad;exact ad.int
  refine ⟨(arx n z.cells.toList).flatten,ba.F0 rfl fun a v bl aq cu=> ?_, .mk kk k z hu lh aF bE aa hm ?_⟩
  ·rw[aq] at cu;cases cu;exact p8 (agd cg n v (are aq))
  ·have:=Oc z.cells n;rw[<-this];exact Array.toArray_toList
theorem Vx {P:aq1} {j:bo} {cE:aq3->aqX} {o:Oper} {m m0:Mem} {w:World} {x y:aq3} {t u e:aq4} {i:TypeInfo} {z:aqX} {base:Option Addr} {l c n:Nat} {dh new:List aqX} {ds hr:List aqX}
   (h:o.op= .call {callee:= .builtin .append,args:=#[x,y],argTypes:=#[t,u]})
   (ao:P.underlying t=aqV (.slice e)) (ae:P.info? e=aqV i) (aF:i.zero=aqV z) (dp:z.cells.size=i.size) (bE:0<i.size)
   (U:cE x= .slice base l c) (eu:Eh P w u i (cE y) n hr) (ab:c<l+n)
   (jW:dh.length=l*i.size) (lW:new.length=n*i.size) (aB:ba (dC j) dh ds) (gP:ba (dC j) new hr)
   (BE:∀w',w'.heap=w.heap->(asB i.size l (.slice base l c)).run P w'= .ok ds.toArray w')
   (aa:(l+n)*i.bytes<=140737488355328) (hm:l+n<9223372036854775807) (br:Rel P j m0 w) (vR:m0.next=m.next):
  ∃aV w' bX,(execOp cE o).run P w= .ok (.value aV) w'/\Post P j m0 w bX (m0.push (.own (dh++new) e)) w'/\cb bX (.slice (aqV ⟨m.next,0,aqY⟩) (l+n) dr) aV:=by
 have jX:=aez (P:=P) (ty:=o.type) (base:=base) (z:=z) ao ae aF eu ab hm aa BE
 let cap:=grownCap w (l+n) c e
 have ka:l+n<=cap:=grownCap_ge w _ c e;have abG:cap<dr:=by have aN:=Nat.mod_lt (w.tape w.drawn (.appendCap (l+n) c e)) (show 0<2 ^ 63 - (l+n) by omega);simp only[cap,grownCap,Question.cut,dr];omega
 let row:=ds.toArray++hr.toArray++atz z.cells (cap - (l+n))
 have aX:=aB.length;have e2:=gP.length;have B5:row.size=cap*i.size:=by simp only[row,Array.size_append,List.size_toArray,size_zeroCells,dp];rw[<-aX,<-e2,jW,lW,<-art,<-art];congr 1;omega
 have vV:=br.push (w':=w.drew.alloc (.cells row e)) (X:= .own (dh++new) e) (e:=⟨w.heap.size,cap,i.size,0⟩) (ob:= .cells row e) rfl rfl rfl rfl rfl ⟨row,(0,0),rfl,Dp,wG ae,by rw[B5,arh];exact aq9 _,
  (by rw[aro,jW,lW,<-art];exact asf _ ka),
  (fun k v hk=>by
   have yq:=ba.append aB gP;obtain ⟨aV,fP,an⟩:=yq.get k v hk;refine ⟨aV, ?_,an⟩;rw[arh];have aN:k<(ds++hr).length:=(aq5.1 fP).1;simp only[row];rw[atx (by simpa using aN),<-as4];simpa using fP)⟩
 refine ⟨.slice (aqV ⟨w.heap.size,0,aqY⟩) (l+n) cap,_,_,zc h (by rw[U];exact jX),vV,⟨⟨w.heap.size,cap,i.size,0⟩,rfl,by simp[bo.up,vR], .inr (.inl ⟨rfl,bE, ?_,abG, ?_, ?_, ?_⟩)⟩⟩
 ·simpa using ka
 ·simp
 ·simp
 ·simp
theorem aeB {cs:Array MapEntry} {clock:Nat} (h:wO cs clock) (i:Nat) (f:MapEntry->MapEntry) (aP:∀e,(f e).born=e.born):wO (cs.modify i f) clock:=by
 have aa:(cs.modify i f).toList.map (·.born)=cs.toList.map (·.born):=by
  rw[Array.toList_modify];refine asL fun k=> ?_;simp only[arH,List.getElem?_modify];cases hk:cs.toList[k]? with
  |none=>rfl
  |some e=>by_cases ab4:i=k<;>simp[ab4,aP]
 refine ⟨by rw[aa];exact h.1,fun x U=> ?_⟩;have hm:x.born∈(cs.modify i f).toList.map (·.born):=arf.2 ⟨x,U,rfl⟩;rw[aa] at hm;obtain ⟨y,ag,he⟩:=arf.1 hm;rw[<-he];exact h.2 y ag
theorem aeR {cs:Array MapEntry} {clock:Nat} (h:wO cs clock) (e:MapEntry) (he:e.born=clock):wO (cs.push e) (clock+1):=by
 refine ⟨?_,fun x U=> ?_⟩
 ·rw[Array.toList_push,List.map_append,List.nodup_append];refine ⟨h.1,by simp,fun a aq b aa=> ?_⟩;obtain ⟨y,ag,rfl⟩:=arf.1 aq;simp only[arN,List.map_nil,arX] at aa;rw[aa,he];exact Nat.ne_of_lt (h.2 y ag)
 ·rw[Array.toList_push] at U;rcases arj.1 U with U|U
  ·exact atk (h.2 x U)
  ·simp only[arX] at U;rw[U,he];exact arU _
theorem tx.find {P:aq1} {j:bo} {kt vt:aq4} {bS vc:List aqX} {E E':List (List aqX×List aqX)} {aV:aqX} {clock:Nat} (h:tx (cW P kt) bS vc E E') (aP:bS.all cx=aqW) (ad:ey j (c4 (cW P vt) vc) aV):∀{es:List MapEntry} (n:Nat),ba (rr P j kt vt) E es->
  (∃i y,kl (c4 (cW P kt) bS) es n=aqV (n+i,y.val)/\es[i]? =aqV y/\y.key=c4 (cW P kt) bS/\ba (rr P j kt vt) E' (es.modify i fun e=>{e with key:=c4 (cW P kt) bS,val:=aV}))\/
  (kl (c4 (cW P kt) bS) es n=aqY/\ba (rr P j kt vt) E' (es++[{key:=c4 (cW P kt) bS,val:=aV,born:=clock}])):=by
 induction h with
 |p3=>
  intro es n aT;cases es with
  |nil=>exact .inr ⟨rfl,⟨rfl,aP,ad⟩,ari⟩
  |cons _ _=>exact aT.elim
 |jU p E h=>
  intro es n aT;cases es with
  |nil=>exact aT.elim
  |cons x es=>obtain ⟨⟨h1,J,aj⟩,aM⟩:=aT;refine .inl ⟨0,x,by rw[kl,if_pos (h1.trans h)];rfl,rfl,h1.trans h, ?_⟩;exact ⟨⟨h.symm,J,ad⟩,aM⟩
 |next p E E' h TX a8=>
  intro es n aT;cases es with
  |nil=>exact aT.elim
  |cons x es=>
   obtain ⟨⟨h1,J,aj⟩,aM⟩:=aT;have b8:¬x.key=c4 (cW P kt) bS:=fun ax=>h (h1.symm.trans ax);rcases a8 (n+1) aM with ⟨i,y,g1,g2,g3,g4⟩|⟨g1,g2⟩
   ·refine .inl ⟨i+1,y, ?_,by simpa using g2,g3, ?_⟩
    ·rw[kl,if_neg b8,g1,show n+1+i=n+(i+1) by omega]
    ·exact ⟨⟨h1,J,aj⟩,g4⟩
   ·refine .inr ⟨?_, ?_⟩
    ·rw[kl,if_neg b8,g1]
    ·exact ⟨⟨h1,J,aj⟩,g2⟩
theorem afg {P:aq1} {C:FuncId->Array aqX->Mem->aqX->Mem->Prop} {j:bo} {af cE:aq3->aqX} {o:Oper} {m m':Mem} {w:World} {v:aqX} (h:gF P C af o m v m') (hO:hJ j af cE o) (br:Rel P j m w):
  De P j m w cE o v m'\/∃f args,callee o af f args/\C f args m v m':=by
 cases h with
 |store t x y b off i L e h U ae hm ad ay ah=>exact .inl (aeS h U ae hm ad ay ah hO br)
 |call f args v m' h bW=>exact .inr ⟨f,args,h,bW⟩
 |vw x y t u e i a l c h ao ae U ab rU ag=>
  left;have cS:=hO x (by simp[h,aq',ar4]);rw[U] at cS;have jj:=hO y (by simp[h,aq',ar4]);obtain ⟨ds,aB,eu⟩:=Gc br.nA jj ag (by simp);have kT:ds=[]:=by have:=aB.length;simpa using this.symm
  subst kT;have dz:∃a',cE x= .slice a' l c/\cb j (.slice a l c) (.slice a' l c):=by
   cases a with
   |none=>exact ⟨aqY,cS.lJ,rfl⟩
   |some a=>
    obtain ⟨q,ay,av,eR⟩:=cS.slice;rcases eR with ⟨aN,eR⟩|⟨eR,_⟩|⟨eR,_⟩|⟨mr,fl,a',eR⟩
    ·exact ⟨_,eR,⟨q,ay,av, .inl ⟨aN,rfl⟩⟩⟩
    ·exact absurd eR ab
    ·exact absurd eR ab
    ·subst mr;subst fl;exact ⟨_,eR,⟨q,ay,av, .inr (.inr (.inr ⟨rfl,rfl,a',rfl⟩))⟩⟩
  obtain ⟨a',dz,adn⟩:=dz;refine ⟨.value (.slice a' l c), .slice a' l c,w,j,zc h ?_, .inl rfl,Post.refl br,by rw[U];exact adn⟩;rw[dz,Ct ao ae eu (by omega)];cases a'<;>simp[storeCells]
 |rD x y t u e i z a l c n dh new h ao ae aF cg dp bE U ab ai jW ag ar aa hm=>
  left;have cS:=hO x (by simp[h,aq',ar4]);have jj:=hO y (by simp[h,aq',ar4]);have tM:gT (af x)=l:=by rw[U];rfl
  have dz:∃a',cE x= .slice a' l c:=by
   rw[U] at cS;cases a with
   |none=>exact ⟨aqY,cS.lJ⟩
   |some a=>
    obtain ⟨q,ay,av,eR⟩:=cS.slice;rcases eR with ⟨aN,eR⟩|⟨eR,_⟩|⟨eR,_⟩|⟨mr,fl,a',eR⟩
    ·exact ⟨_,eR⟩
    ·simp only[dr] at eR;omega
    ·simp only[dr] at eR;omega
    ·subst mr;subst fl;exact ⟨_,eR⟩
  obtain ⟨a',dz⟩:=dz;obtain ⟨ds,aB,Uh⟩:=Vz br.nA cS ai (by rw[jW,tM]);obtain ⟨hr,gP,eu⟩:=Gc br.nA jj ag ar;have BE:∀w':World,w'.heap=w.heap->(asB i.size l (.slice a' l c)).run P w'= .ok ds.toArray w':=by rw[dz,tM] at Uh;exact Uh
  obtain ⟨aV,w',bX,h1,J,aj⟩:=Vx (m:=m) h ao ae aF dp bE dz eu ab jW ar aB gP BE aa hm br rfl;exact ⟨.value aV,aV,w',bX,h1, .inl rfl,J,aj⟩
 |ye x y t u e i b off l c n L new h ao ae U dE ab hm ag ar ah=>
  left;have cS:=hO x (by simp[h,aq',ar4]);rw[U] at cS;have jj:=hO y (by simp[h,aq',ar4]);obtain ⟨hr,gP,eu⟩:=Gc br.nA jj ag ar;obtain ⟨q,_,av,eR⟩:=cS.slice;rcases eR with ⟨aN,dz⟩|⟨eR,_⟩|⟨eR,_⟩|⟨mr,fl,a',dz⟩
  rotate_left 3
  ·
   subst mr;subst fl;have od:n=0:=by omega
   have tQ:new=[]:=by rw[od,ase] at ar;exact List.length_eq_zero_iff.1 ar
   subst tQ;have L0:hr=[]:=by have:=gP.length;simpa using this.symm
   subst L0;obtain ⟨cs,bg,g1,g2,g3,g4,g5,g6⟩:=br.own b q L e av hm;have hw:=br.write (L':=L) av hm g1 (cs':=cs) rfl g5 g6;rw[Gh g1] at hw;refine ⟨.value _,_,_,j,zc h (v:= .slice (aqV a') (0+n) 0) ?_, .inl rfl,hw,⟨q,rfl,av, .inr (.inr (.inr ⟨rfl,by omega,a',by rw[od]⟩))⟩⟩;rw[dz,Ct ao ae eu ab];simp[storeCells]
  ·obtain ⟨cs,bg,g1,g2,g3,g4,g5,g6⟩:=br.own b q L e av hm;rw[art,<-ar,<-arD] at ah;have dH:=Cv (P:=P) q.aG (q.dM+(off+l*i.size)) e bg hr 0 cs w g1 g2 (by rw[<-gP.length];omega) (ba.one gP);simp only[arJ] at dH;refine ⟨.value _,_,_,j,zc h (v:= .slice (aqV ⟨q.aG,q.dM+off,aqY⟩) (l+n) c) ?_, .inl rfl,br.write av hm g1 (Gq cs _ _) (by rw[pg];exact g5) (Oe g6 gP ah (by omega)),
    ⟨q,rfl,av, .inl ⟨aN,rfl⟩⟩⟩
   rw[dz,Ct ao ae eu ab];simp only[p9,arD,dH,arn]
  ·exact absurd eR dE
  ·exact absurd eR dE
 |append x y t u e i z b off l n L new h ao ae aF cg dp bE U fD tL ag ar aa hm=>
  left;have cS:=hO x (by simp[h,aq',ar4]);have apY:=cS;rw[U] at cS;have jj:=hO y (by simp[h,aq',ar4]);obtain ⟨hr,gP,eu⟩:=Gc br.nA jj ag ar;obtain ⟨q,_,av,eR⟩:=cS.slice;have av:j b=aqV q:=av;obtain ⟨cs,bg,g1,g2,g3,g4,g5,g6⟩:=br.own b q L e av fD;have jT:i.size=q.es:=by rw[<-g3,wG ae]
  have lr:((L.drop off).take (l*i.size)).length=l*i.size:=by rw[arG,asa];omega
  have US:∀(k:Nat) (v:aqX),((L.drop off).take (l*i.size))[k]? =aqV v->∃aV,((cs.toList.drop (q.dM+off)).take (l*i.size))[k]? =aqV aV/\dC j v aV:=by
   intro k v hk;rw[arK] at hk⊢;split at hk
   ·rename_i aN;rw[if_pos aN];rw[ar6] at hk⊢;rw[arD];simpa using g6 (off+k) v hk
   ·cases hk
  have acG:ba (dC j) ((L.drop off).take (l*i.size)) ((cs.toList.drop (q.dM+off)).take (l*i.size)):=ba.F0 (by rw[lr,arG,asa];simp;omega) (fun k a b6 aq cu=>by
   obtain ⟨aV,h1,J⟩:=US k a aq;rw[h1] at cu;cases cu;exact J)
  have out:∀(o' bQ:Nat),cE x= .slice (aqV ⟨q.aG,o',aqY⟩) l bQ->(o'=q.dM+off\/l=0)->bQ<l+n->De P j m w cE o (.slice (aqV ⟨m.next,0,aqY⟩) (l+n) dr) ((m.put b .dead).push (.own ((L.drop off).take (l*i.size)++new) e)):=by
   intro o' bQ dz ai ab;have hk:=br.kill b;have BE:∀w':World,w'.heap=w.heap->(asB i.size l (.slice (aqV ⟨q.aG,o',aqY⟩) l bQ)).run P w'= .ok ((cs.toList.drop (q.dM+off)).take (l*i.size)).toArray w':=by
    intro w' hw;simp only[asB];rcases ai with rfl|ai
    ·refine zh (by rw[arG,asa];simp;omega) (fun k u hu=> ?_);rw[arK] at hu;split at hu
     ·rw[ar6] at hu;simp only[as7,hw,g1];simpa using hu
     ·cases hu
    ·subst ai;simp only[ase,aty];exact zh (ds:=[]) rfl (fun k u hu=>by simp at hu)
   obtain ⟨aV,w',bX,h1,J,aj⟩:=Vx (m:=m) (m0:=m.put b .dead) h ao ae aF dp bE dz eu ab lr ar acG gP BE aa hm hk.rel rfl;exact ⟨.value aV,aV,w',bX,h1, .inl rfl,Post.trans hk J,aj⟩
  rcases eR with ⟨aN,_⟩|⟨_,dQ,hle,ka,vQ,hdiv,dz⟩|⟨_,fl,o',dz⟩|⟨mr,_⟩
  rotate_left 3
  ·simp[dr] at mr
  ·exact absurd aN (atg _)
  ·have hle:l<=q.cap - off / q.es:=hle;have vQ:off%q.es=0:=vQ;have hdiv:off / q.es<=q.cap:=hdiv;have n0:off=off / q.es*q.es:=by
    have:=Nat.div_add_mod off q.es;rw[vQ,arJ,Nat.mul_comm] at this;exact this.symm
   have ap2:off+(q.cap - off / q.es)*q.es=q.cap*q.es:=by
    rw[Nat.sub_mul,<-n0];have:off<=q.cap*q.es:=by have:=asf q.es hdiv;omega
    omega
   have dz:cE x= .slice (aqV ⟨q.aG,q.dM+off,aqY⟩) l (q.cap - off / q.es):=dz;by_cases qL:l+n<=q.cap - off / q.es
   ·have qT:off+(l+n)*i.size<=q.cap*q.es:=by
     have:(l+n)*i.size<=(q.cap - off / q.es)*q.es:=by rw[jT];exact asf _ qL
     omega
    have ac8:q.dM+off+l*i.size+new.length<=cs.size:=by rw[ar];rw[art] at qT;omega
    have dH:=Cv (P:=P) q.aG (q.dM+off+l*i.size) e bg hr 0 cs w g1 g2 (by rw[<-gP.length];omega) (ba.one gP);simp only[arJ] at dH;refine ⟨.value _,_,_,j.up m.next ⟨q.aG,q.cap - off / q.es,q.es,q.dM+off⟩,zc h (v:= .slice (aqV ⟨q.aG,q.dM+off,aqY⟩) (l+n) (q.cap - off / q.es)) ?_, .inl rfl,
     br.reuse (e2:=⟨q.aG,q.cap - off / q.es,q.es,q.dM+off⟩) (L':=(L.drop off).take (l*i.size)++new) av fD g1 (Gq cs (q.dM+off+l*i.size) hr) rfl rfl (by simp only[];omega) (by rw[aro,lr,ar,<-art];simp only[];omega) ?_,
     ⟨⟨q.aG,q.cap - off / q.es,q.es,q.dM+off⟩,rfl,by simp[bo.up], .inr (.inl ⟨rfl,dQ,by simpa using qL,as6 (Nat.sub_le _ _) ka,by simp,by simp,by simp⟩)⟩⟩
    ·rw[dz,Ct ao ae eu qL];simp only[p9,dH,arn]
    ·intro k v hk;simp only[atI];rw[ou _ _ _ _ (by rw[<-gP.length];simpa using ac8)];rw[List.getElem?_append,lr] at hk;split at hk
     ·rename_i aN;rw[if_neg (by omega)];obtain ⟨aV,h1,J⟩:=US k v hk;rw[arK,if_pos aN,ar6] at h1;exact ⟨aV,h1,J⟩
     ·rename_i e8;obtain ⟨aV,h1,J⟩:=gP.get _ _ hk;have:=(aq5.1 h1).1;rw[if_pos (by omega)];exact ⟨aV,by rw[show q.dM+off+k - (q.dM+off+l*i.size)=k - l*i.size by omega];exact h1,J⟩
   ·exact out _ _ dz (.inl rfl) (by omega)
  ·by_cases qL:l+n<=0
   ·have od:n=0:=by omega
    have o0:new=[]:=by
     have:new.length=0:=by rw[ar,od,ase]
     exact asw this
    subst o0;subst fl;have abO:hr=[]:=by have:=gP.length;exact asw this.symm
    subst abO;have FC:=br.reuse (e2:=q) (L':=(L.drop off).take (0*i.size)++[]) av fD g1 (cs':=cs) rfl rfl rfl g4 (by simp) (fun k v hk=>by simp at hk);rw[Gh g1] at FC;refine ⟨.value (.slice (aqV ⟨q.aG,o',aqY⟩) 0 0),_,w,j.up m.next q,zc h ?_, .inl rfl,FC,⟨q,rfl,by simp[bo.up], .inr (.inr (.inl ⟨rfl,by omega,o',rfl⟩))⟩⟩;subst od;rw[dz,Ct ao ae eu (by omega)];simp[storeCells]
   ·exact out o' 0 (by rw[dz,fl]) (.inr fl) (by omega)
 |copy x y t u e i b off l c L cs h ao ae U hm ag ar ah=>
  left;have cS:=hO x (by simp[h,aq',ar4]);rw[U] at cS;have jj:=hO y (by simp[h,aq',ar4]);obtain ⟨hlen,apS,L0,aP⟩:=Nj br.nA jj ag;have oZ:asI (gT (af y)) l<=gT (af y):=Nat.min_le_left _ _;have aP:=aP ar _ oZ w rfl;have gP:=L0.take (asI (gT (af y)) l*i.size);obtain ⟨q,_,av,eR⟩:=cS.slice;have av:j b=aqV q:=av;obtain ⟨ds,bg,g1,g2,g3,g4,g5,g6⟩:=br.own b q L e av hm;have fk:off+(cs.take (asI (gT (af y)) l*i.size)).length<=L.length:=by rw[arG];have:asI (gT (af y)) l*i.size<=l*i.size:=asf _ (Nat.min_le_right _ _);omega
  have key:∀(a':Addr) (bQ:Nat),cE x= .slice (aqV a') l bQ->(a'=⟨q.aG,q.dM+off,aqY⟩\/l=0)->De P j m w cE o (.int .i64 (asI (gT (af y)) l)) (m.put b (.own (eU L off (cs.take (asI (gT (af y)) l*i.size))) e)):=by
   intro a' bQ dz ai;rcases ai with rfl|ai
   ·have dH:=Cv (P:=P) q.aG (q.dM+off) e bg _ 0 ds w g1 g2 (by rw[<-gP.length];omega) (ba.one gP);simp only[arJ] at dH;refine ⟨.value _, .int .i64 (asI (gT (af y)) l),_,j, ?_, .inl rfl,br.write av hm g1 (Gq ds _ _) (by rw[pg];exact g5) (Oe g6 gP fk (by omega)),rfl⟩;simp only[execOp,h,resolve,invoke,builtin,ars,arF,arn,List.map_toArray,arN,List.map_nil,Builtin.copy_,atI,as9,asC,ee ao,dz,hlen,iN ae,aP,dH,goInt]
   ·subst ai;have aI:asI (gT (af y)) 0=0:=Nat.min_zero _;simp only[aI,ase,aty,eU] at aP fk⊢;have hw:=br.write (L':=L) av hm g1 (cs':=ds) rfl g5 g6;rw[Gh g1] at hw;refine ⟨.value _, .int .i64 (0:Nat),w,j, ?_, .inl rfl,hw,rfl⟩;have oT:asI (gT (af y)) 0=0:=Nat.min_zero _;simp only[execOp,h,resolve,invoke,builtin,ars,arF,arn,List.map_toArray,arN,List.map_nil,Builtin.copy_,atI,as9,asC,ee ao,dz,hlen,iN ae,oT,aP,goInt,storeCells]
  rcases eR with ⟨_,dz⟩|⟨_,_,_,_,_,_,dz⟩|⟨_,fl,o',dz⟩|⟨_,fl,a',dz⟩
  ·exact key _ _ dz (.inl rfl)
  ·exact key _ _ dz (.inl rfl)
  ·exact key _ 0 (by rw[dz,fl]) (.inr fl)
  ·exact key a' 0 (by rw[dz,fl]) (.inr fl)
 |mapUpdate gy x iu iE u kt vt b L bS vc E E' fj h hh hu U fD aT ll K BO oY yG aP hk aH lZ Ca r1 Cb e9=>
  left;have Me:∀y∈([x,iu,iE]:List aq3),y∈o.op.operands:=by intro y ag;rcases h with h|h<;>(simp[h,aq'];simpa using ag)
  have cS:=hO x (Me x (by simp));rw[U] at cS;obtain ⟨q,av,ab⟩:∃q,j b=aqV q/\cE x= .map (aqV q.aG):=cS;have Fo:=OQ aP (hO iu (Me iu (by simp)));have fP:=cb.storable (hO iE (Me iE (by simp))) lZ;have tO:=br.obj b q av;rw[fD] at tO;obtain ⟨ir,iD,cs,clock,apM,g1,g2,g3,g4,g5⟩:=tO;have tK:ir=kt/\iD=vt:=by rw[hu] at g2;simpa using g2.symm
  obtain ⟨rfl,rfl⟩:=tK;have:=nJ.xz ll aT g3;subst this;have mu:=K.find (af iu) cs.toList w hk (NT g4 aH);have kb:=K.check aqZ (af iu) w hk;have yK:nJ (P.cellsOf ir) (P.cellsOf iD) (E'.flatMap fun p=>p.1++p.2) E':=by
   refine ⟨rfl, ?_⟩;have:=aT.len;clear aT g3 g4 aH;induction e9 with
   |p3=>intro p ap;simp at ap;subst ap;exact ⟨oY,r1⟩
   |jU p E h=>
    intro r an;rcases arb.1 an with rfl|an
    ·exact ⟨(this p (by simp)).1,r1⟩
    ·exact this r (by simp[an])
   |next p E E' h TX a8=>
    intro r an;rcases arb.1 an with rfl|an
    ·exact this r (by simp)
    ·exact a8 (fun r an=>this r (by simp[an])) r an
  have key:=e9.find (j:=j) (aV:=cE iE) (clock:=clock) yG (by rw[<-Ca];exact fP) 0 g4;rw[<-BO] at key;have fin:∀(cs':Array MapEntry) (EM:Nat),ba (rr P j ir iD) E' cs'.toList->wO cs' EM->(execOp cE o).run P w= .ok .skip (rh w q.aG (.map cs' EM))->
    De P j m w cE o undef (m.put b (.map (E'.flatMap fun p=>p.1++p.2) u)):=by
   intro cs' EM gl dH jX;refine ⟨.skip,undef,_,j,jX, .inr ⟨rfl,rfl⟩,br.mM av (by rw[fD];rfl) ⟨ir,iD,cs',EM,E',rfl,hu,yK,gl,dH⟩ rfl,⟨#[],rfl,ari⟩⟩
  have hex:∀w',(auk gy (cE x) (cE iu) (cE iE)).run P w= .ok () w'->(execOp cE o).run P w= .ok .skip w':=by intro w' gR;rcases h with h|h<;>simp[execOp,h,gR]
  rcases key with ⟨i,y,h1,J,aj,aM⟩|⟨h1,J⟩
  ·refine fin (cs.modify i fun e=>{e with key:=af iu,val:=cE iE}) clock ?_ (aeB g5 i _ fun _=>rfl) (hex _ ?_)
   ·simpa[Array.toList_modify] using aM
   ·have dH:=K.stays (af iu) w hk;rw[h1] at mu;have qM:cs[i]? =aqV y:=by simpa using J
    simp[auk,ee hh,ab,zD g1,Fo,kb,mu,qM,aj,dH,YJ _ g1,rh]
  ·refine fin (cs.push {key:=af iu,val:=cE iE,born:=clock}) (clock+1) ?_ (aeR g5 _ rfl) (hex _ ?_)
   ·simpa using J
   ·rw[h1] at mu;simp[auk,ee hh,ab,zD g1,Fo,kb,mu,YJ _ g1,rh]
end Go.aS
end
section
namespace Go.aS
theorem afP {n n':Nat} (h:n<=n') {v:aqX} (ad:qY n v):qY n' v:=by
 unfold qY at ad⊢;split at ad
 ·rename_i a;cases a with
  |none=>exact ad
  |some a=>exact aru ad h
 ·exact ad.elim
theorem afO {n:Nat} {v:aqX} (ad:qY n v):gE n v:=by
 unfold qY at ad;split at ad
 ·exact ad
 ·exact ad.elim
theorem sg {n n':Nat} (h:n<=n') {v:aqX} (ad:gE n v):gE n' v:=by
 cases v with
 |func fn bc cs=>exact ⟨ad.1,fun v hm=>afP h (ad.2 v hm)⟩
 |pointer a=>cases a with
  |none=>exact ad
  |some a=>exact aru ad h
 |slice a l c=>cases a with
  |none=>exact ad
  |some a=>exact aru ad h
 |map r=>cases r with
  |none=>exact ad
  |some r=>exact aru ad h
 |_=>exact ad
theorem Gv {n n':Nat} (h:n<=n') {v:aqX} (ad:gU n v):gU n' v:=by
 cases v with
 |agg cs=>exact fun v hm=>sg h (ad v hm)
 |_=>simp only[gU] at ad⊢;exact sg h ad
theorem GK {n n':Nat} (h:n<=n') {v:aqX} (ad:low n v):low n' v:=by
 cases v with
 |chan _=>trivial
 |tuple cs=>exact fun v hm=>Gv h (ad v hm)
 |func _ a b=>exact ⟨fun v hm=>Gv h (ad.1 v hm),fun v hm=>Gv h (ad.2 v hm)⟩
 |_=>simp only[low] at ad⊢;exact Gv h ad
theorem Gw {n n':Nat} (h:n<=n') {x:a6} (ad:qX n x):qX n' x:=by
 cases x with
 |dead=>exact ad
 |ro rd=>exact fun i v ae=>sg h (ad i v ae)
 |own L t=>exact fun v hm=>sg h (ad v hm)
 |map L t=>exact fun v hm=>sg h (ad v hm)
 |lock _ _ _ _=>trivial
theorem CH {n:Nat} {v:aqX} (h:cx v=aqW):gE n v:=by
 cases v with
 |pointer a=>cases a with
  |none=>exact ari
  |some a=>simp[cx] at h
 |slice a l c=>cases a with
  |none=>exact ari
  |some a=>simp[cx] at h
 |map r=>cases r with
  |none=>exact ari
  |some r=>simp[cx] at h
 |chan _=>simp[cx] at h
 |func _ _ _=>simp only[cx,ara,at6] at h;obtain ⟨rfl,rfl⟩:=h;exact ⟨rfl,fun v hm=>absurd hm (by simp)⟩
 |iface _ _=>simp[cx] at h
 |agg _=>simp[cx] at h
 |tuple _=>simp[cx] at h
 |_=>exact ari
theorem NR {n:Nat} {v:aqX} (h:iA v=aqW):gU n v:=by
 cases v with
 |agg cs=>simp only[iA,arc] at h;exact fun v hm=>CH (h v hm)
 |_=>simp only[gU];exact CH h
theorem Oq {n:Nat} {v:aqX} (h:flat v=aqW):low n v:=by
 cases v with
 |tuple cs=>simp only[flat,arc] at h;exact fun v hm=>NR (h v hm)
 |func _ _ _=>simp only[flat,iA,cx,ara,at6] at h;obtain ⟨rfl,rfl⟩:=h;exact ⟨fun v hm=>absurd hm (by simp),fun v hm=>absurd hm (by simp)⟩
 |chan _=>trivial
 |_=>simp only[low];exact NR h
theorem GJ {n:Nat} {v:aqX} (h:gE n v):gU n v:=by
 cases v<;>first|exact h|exact h.elim
theorem C2 {n:Nat} {v:aqX} (h:gU n v):low n v:=by
 cases v with
 |func fn bc cs=>exact ⟨fun v hm=>by rw[h.1] at hm;exact absurd hm (by simp),fun v hm=>GJ (afO (h.2 v hm))⟩
 |tuple _=>exact h.elim
 |chan _=>trivial
 |_=>exact h
theorem OC {n:Nat} {v:aqX} (h:gE n v):low n v:=C2 (GJ h)
theorem wx {n:Nat} {v:aqX} (h:low n v) (ay:storable v=aqW):gU n v:=by
 cases v with
 |tuple _=>simp[storable] at ay
 |chan _=>simp[storable] at ay
 |func fn bc cs=>
  simp only[storable,ara,at6,arc] at ay;refine ⟨ay.1,fun v hm=> ?_⟩;have h1:=h.2 v hm;have J:=ay.2 v hm;unfold wU at J;split at J
  ·exact h1
  ·cases J
 |_=>exact h
theorem Gf {n:Nat} {v:aqX} (h:gU n v):∀c∈v.cells.toList,gE n c:=by
 cases v with
 |agg cs=>exact h
 |_=>intro c ab;simp only[aqX.cells,arX] at ab;subst ab;exact h
theorem zq:∀(vs L:List aqX) (o:Nat) (v:aqX),v∈eU L o vs->v∈L\/v∈vs
 |[],L,o,v,h=> .inl h
 |u::vs,L,o,v,h=>by
  rcases zq vs (L.set o u) (o+1) v h with h|h
  ·rcases List.mem_or_eq_of_mem_set h with h|h
   ·exact .inl h
   ·exact .inr (by simp[h])
  ·exact .inr (by simp[h])
theorem Gr {n:Nat} {place:Nat->Option (Nat×Nat)}:∀(bK:List (Nat×aqX)) (L cs:List aqX),(∀p∈bK,low n p.2)->(∀v∈L,gE n v)->jE place L bK=aqV cs->∀v∈cs,gE n v
 |[],L,cs,_,cC,h=>by simp only[jE,arr.injEq] at h;subst h;exact cC
 |(i,v)::bK,L,cs,ap,cC,h=>by
  simp only[jE] at h;cases aJ:place i with
  |none=>simp[aJ] at h
  |some q=>
   simp only[aJ] at h;split at h
   ·rename_i ab;refine Gr bK _ cs (fun p hm=>ap p (by simp[hm])) ?_ h;intro u hu;rcases zq _ _ _ _ hu with hu|hu
    ·exact cC u hu
    ·exact Gf (wx (ap (i,v) (by simp)) ab.1) u hu
   ·cases h
theorem Ou {m:Mem} (hm:WF m) {b o:Nat} {v:aqX} (h:m.load b o=aqV v):gE m.next v:=by
 have:=hm.low b;unfold Mem.load at h;cases aa:m.aG b with
 |dead=>simp[aa] at h
 |ro rd=>simp only[aa] at h;rw[aa] at this;exact this o v h
 |own L t=>simp only[aa] at h;rw[aa] at this;exact this v (are h)
 |map L t=>simp[aa] at h
 |lock _ _ _ _=>simp[aa] at h
theorem G0 {m:Mem} (hm:WF m) {b:Nat}:∀(n o:Nat) (cs:List aqX),jH m b o n=aqV cs->∀v∈cs,gE m.next v
 |0,o,cs,h=>by simp only[jH,arr.injEq] at h;subst h;intro v ad;simp at ad
 |n+1,o,cs,h=>by
  simp only[jH] at h;cases h1:m.load b o with
  |none=>simp[h1] at h
  |some u=>
   cases J:jH m b (o+1) n with
   |none=>simp[h1,J] at h
   |some l=>
    simp only[h1,J,arr.injEq] at h;subst h;intro v ad;rcases arb.1 ad with rfl|ad
    ·exact Ou hm h1
    ·exact G0 hm n (o+1) l J v ad
theorem si {n:Nat} {L:List aqX} (h:L.all cx=aqW):∀v∈L,gE n v:=by
 simp only[arc] at h;exact fun v ad=>CH (h v ad)
theorem ags {P:aq1} {af:aq3->aqX} {o:Oper} {v:aqX} {n:Nat} (h:cP P af o v) (gJ:∀x∈o.op.operands,low n (af x)):low n v:=by
 cases h with
 |flat v ay h ad an=>exact Oq ad
 |move x h=>exact gJ x (by rcases h with h|h<;>simp[h,aq'])
 |pick c a b t h ab=>
  cases t
  ·exact gJ b (by simp[h,aq'])
  ·exact gJ a (by simp[h,aq'])
 |extract x i vs v h U ad=>have:=gJ x (by simp[h,aq']);rw[U] at this;exact C2 (this v (by have:=as5 ad;simpa using this))
 |field t x i bc f d cs v h ao aP aB U ad=>
  have:=gJ x (by simp[h,aq']);rw[U] at this;split at ad
  ·obtain ⟨k,hk,hle,rfl⟩:=ad;intro u hu;refine this u ?_;simp only[auh,atY] at hu;exact atm (atn hu)
  ·exact OC (this v (by have:=as5 ad;simpa using this))
 |build t bK bc i z cs h ao ae aF cg ap ab=>
  have:=Gr (n:=n) _ _ _ (by
   intro p ap;simp only[arf] at ap;obtain ⟨q,aJ,rfl⟩:=ap;exact gJ q.2 (by simp only[h,aq'];simp only[as3,arf];exact ⟨q,aJ,rfl⟩)) (si cg) ab
  simpa[low,gU] using this
 |EI t bK n e i k z cs h ao ae aF cg he ab=>
  have:=Gr (n:=_) _ _ _ (by
   intro p ap;simp only[arf] at ap;obtain ⟨q,aJ,rfl⟩:=ap;exact gJ q.2 (by simp only[h,aq'];simp only[as3,arf];exact ⟨q,aJ,rfl⟩)) (si cg) ab
  simpa[low,gU] using this
 |nilCheck x a h U=>have:=gJ x (by simp[h,aq']);rw[U] at this;exact this
 |fieldAddr t x i bc f k b off h ao aP hk ay U=>have:=gJ x (by simp[h,aq']);rw[U] at this;exact this
 |indexAddr t x y e i b off l c k n h ao ae U ag aI h1=>have:=gJ x (by simp[h,aq']);rw[U] at this;exact this
 |FN t x y e i b off l k n h ao ae U ag aI h1=>have:=gJ x (by simp[h,aq']);rw[U] at this;exact this
 |slice t x bG ae e i b off l c n cq h ao dY U aa e0 ef h1 J aj=>have:=gJ x (by simp[h,aq']);rw[U] at this;exact this
 |lJ t x bG ae e i h ao dY U e0 ef=>exact ari
 |slice3 t x h6 ae e i b off l c cq dc r4 h ao dY U ab ef nY h1=>have:=gJ x (by simp[h,aq']);rw[U] at this;exact this
 |IB t x h6 ae e i r4 h ao dY U ef nY=>exact ari
 |len x t e a l c h ao U=>exact ari
 |EL x t e h ao U=>exact ari
 |Bk neq x y t u e a l c h ao U ag=>exact ari
 |func fn first captured h aP=>
  refine ⟨?_, ?_⟩
  ·intro v ad;simp only[asJ,arf] at ad;obtain ⟨x,U,rfl⟩:=ad;exact wx (gJ x (by simp[h,aq'];exact .inl (by simpa using U))) (aP x (by simp[U]))
  ·intro v ad;simp only[asJ,arf] at ad;obtain ⟨x,U,rfl⟩:=ad;exact wx (gJ x (by simp[h,aq'];exact .inr (by simpa using U))) (aP x (by simp[U]))
theorem afc {P:aq1} {vt:aq4} {n:Nat} {cs:List aqX} (kh:cW P vt=aqZ->P.cellsOf vt=1) (ah:cs.length=P.cellsOf vt) (h:∀c∈cs,gE n c):gU n (c4 (cW P vt) cs):=by
 cases aq:cW P vt with
 |true=>simpa[c4,gU] using h
 |false=>
  have:=kh aq
  match cs,ah with
  |[v],_=>exact GJ (h v (by simp))
  |[],ah=>simp at ah;omega
  |_::_::_,ah=>simp at ah;omega
theorem agw {P:aq1} {af:aq3->aqX} {o:Oper} {m:Mem} {v:aqX} (h:eT P af o m v) (hm:WF m) (gJ:∀x∈o.op.operands,low m.next (af x)):low m.next v:=by
 cases h with
 |load t x b off d v h U ao aB ad=>exact OC (Ou hm ad)
 |wj t x b off d i cs h U ao aB ae ad=>simpa[low,gU] using G0 hm _ _ _ ad
 |slice t x bG ae e i L b off l n cq h ao dY U gC e0 ef h1 J aj=>have:=gJ x (by simp[h,aq']);rw[U] at this;exact this
 |str s t x e b off l c cs h ay he ao U ad=>exact ari
 |Af s t x e l c h ay he ao U=>exact ari
 |lookup gy x cy ok u kt vt b L E i z v0 t fj h hh hu U ll kh K aP hk aH ae aF cg ah=>
  have aI:gU m.next v0:=by
   have aa8:(∀p∈E,∀c∈p.2,gE m.next c)/\∀p∈E,p.2.length=P.cellsOf vt:=by
    rcases U with ⟨U,fD,aT⟩|⟨U,rfl⟩
    ·have cC:=hm.low b;rw[fD] at cC;exact ⟨fun p ap c ab=>cC c (by rw[aT.eq];exact asD.2 ⟨p,ap,by simp[ab]⟩),fun p ap=>(aT.len p ap).2⟩
    ·exact ⟨fun p ap=>by simp at ap,fun p ap=>by simp at ap⟩
   obtain ⟨lg,hlen⟩:=aa8;clear aH U;induction ah with
   |p3=>exact NR cg
   |jU p E h=>exact afc kh (hlen p (by simp)) (lg p (by simp))
   |next p E v b h ah a8=>exact a8 (fun q aJ=>lg q (by simp[aJ])) (fun q aJ=>hlen q (by simp[aJ]))
  cases ok with
  |false=>exact C2 aI
  |true=>
   intro v ad;simp at ad;rcases ad with rfl|rfl
   ·exact aI
   ·exact ari
theorem ah4 {P:aq1} {af:aq3->aqX} {o:Oper} {n:Nat} {X:a6} {v:aqX} (h:h0 P af o n X v) (gJ:∀x∈o.op.operands,low n (af x)):low (n+1) v/\qX n X:=by
 cases h with
 |alloc t i z h ae aF cg ay=>exact ⟨arU n,si cg⟩
 |box t x i h ae ad ay=>exact ⟨arU n,Gf (wx (gJ x (by simp[h,aq'])) ad)⟩
 |buildSlice t l bK e i z cs h ao ae aF cg dp rK rT ab=>refine ⟨arU n,Gr _ _ _ ?_ (si (wB cg l)) ab⟩;intro p ap;simp only[arf] at ap;obtain ⟨q,aJ,rfl⟩:=ap;exact gJ q.2 (by simp only[h,aq'];simp only[as3,arf];exact ⟨q,aJ,rfl⟩)
 |makeSlice t x y l c k dc e i z h ao ae aF cg dp U ag rU aa ab=>exact ⟨arU n,si (wB cg c)⟩
 |bytes s t x e i b h ay ao he ae hg U aa=>exact ⟨arU n,si (by simp only[List.all_map,arc,Function.comp];intro u _;rfl)⟩
 |makeMap t kt vt h ao=>exact ⟨arU n,fun v ad=>by simp at ad⟩
theorem WF.push {m:Mem} (h:WF m) {X:a6} (cC:qX (m.next+1) X):WF (m.push X) where
 dead:=fun b aa=>by simp only[Mem.push] at aa⊢;rw[if_neg (by omega)];exact h.dead b (by omega)
 low:=fun b=>by
  simp only[Mem.push];split
  ·exact cC
  ·exact Gw (arL _) (h.low b)
theorem WF.put {m:Mem} (h:WF m) {b:Nat} {x:a6} (U:qX m.next x) (aa:b<m.next\/x= .dead):WF (m.put b x) where
 dead:=fun c ab=>by
  have ab:m.next<=c:=ab;simp only[Mem.put];split
  ·rcases aa with aa|aa
   ·omega
   ·exact aa
  ·exact h.dead c ab
 low:=fun c=>by
  simp only[Mem.put];split
  ·exact U
  ·exact h.low c
theorem WF.lt {m:Mem} (h:WF m) {b:Nat} (aa:m.aG b≠ .dead):b<m.next:=by
 rcases arQ b m.next with h1|h1
 ·exact h1
 ·exact absurd (h.dead b h1) aa
def pk (C:FuncId->Array aqX->Mem->aqX->Mem->Prop):Prop:=∀f args m v m',C f args m v m'->WF m->(∀a∈args.toList,low m.next a)->low m'.next v/\WF m'/\m.next<=m'.next
theorem NP {m:Mem} (hm:WF m) {a1:Nat} {y:aqX} {cs:List aqX} (h:bR m a1 y=aqV cs):∀v∈cs,gE m.next v:=by
 cases y with
 |slice a l c=>
  cases a with
  |none=>simp only[bR,arr.injEq] at h;subst h;intro v ad;simp at ad
  |some a=>
   obtain ⟨b,off,spot⟩:=a;cases spot with
   |none=>exact G0 hm _ _ _ h
   |some _=>simp[bR] at h
 |string s=>
  simp only[bR] at h;split at h
  ·simp only[arr.injEq] at h;subst h;exact si (by simp only[List.all_map,arc,Function.comp];intro u _;rfl)
  ·cases h
 |_=>simp[bR] at h
theorem OG {P:aq1} {m:Mem} (hm:WF m) {u:aq4} {i:TypeInfo} {y:aqX} {n:Nat} {cs:List aqX} (h:vf P m u i y n cs):∀v∈cs,gE m.next v:=by
 cases h with
 |el hu ah he=>exact NP hm he
 |mk kk k z hu ag aF cg dp bE aa fE hW=>subst hW;exact si (wB cg n)
theorem ae4 {o:Oper} {af:aq3->aqX} {f:FuncId} {args:Array aqX} {n:Nat} (h:callee o af f args) (gJ:∀x∈o.op.operands,low n (af x)):∀a∈args.toList,low n a:=by
 obtain ⟨x,as,ts,first,captured,h,U,rfl⟩:=h;have aP:=gJ x (by simp[h,aq',ar4]);rw[U] at aP;intro a aq;simp only[auj,arj,asJ,arf] at aq;rcases aq with (aq|⟨y,ag,rfl⟩)|aq
 ·exact C2 (aP.1 a aq)
 ·exact gJ y (by simp[h,aq',ar4];exact .inr (by simpa using ag))
 ·exact C2 (aP.2 a aq)
theorem ahn {P:aq1} {C:FuncId->Array aqX->Mem->aqX->Mem->Prop} {af:aq3->aqX} {o:Oper} {m m':Mem} {v:aqX} (h:gF P C af o m v m') (hm:WF m) (gJ:∀x∈o.op.operands,low m.next (af x)) (bW:pk C):low m'.next v/\WF m'/\m.next<=m'.next:=by
 cases h with
 |store t x y b off i L e h U ae fD ad ay ah=>
  refine ⟨fun u hu=>by simp at hu,hm.put ?_ (.inl (hm.lt (by rw[fD];simp))),aq9 _⟩;intro u hu;rcases zq _ _ _ _ hu with hu|hu
  ·have:=hm.low b;rw[fD] at this;exact this u hu
  ·exact Gf (wx (gJ y (by simp[h,aq'])) ad) u hu
 |call f args v m' h abE=>exact bW f args m v m' abE hm (ae4 h gJ)
 |vw x y t u e i a l c h ao ae U ab rU ag=>exact ⟨gJ x (by simp[h,aq',ar4]),hm,aq9 _⟩
 |rD x y t u e i z a l c n dh new h ao ae aF cg dp bE U ab ai jW ag ar aa fE=>
  refine ⟨arU _,hm.push ?_,arL _⟩;intro w hw;rcases arj.1 hw with hw|hw
  ·exact sg (arL _) (NP hm ai w hw)
  ·exact sg (arL _) (OG hm ag w hw)
 |ye x y t u e i b off l c n L new h ao ae U dE ab fD ag ar ah=>
  refine ⟨?_,hm.put ?_ (.inl (hm.lt (by rw[fD];simp))),aq9 _⟩
  ·have:=gJ x (by simp[h,aq',ar4]);rw[U] at this;exact this
  ·intro w hw;rcases zq _ _ _ _ hw with hw|hw
   ·have:=hm.low b;rw[fD] at this;exact this w hw
   ·exact OG hm ag w hw
 |append x y t u e i z b off l n L new h ao ae aF cg dp bE U fD tL ag ar aa fE=>
  have h1:WF (m.put b .dead):=hm.put ari (.inr rfl);refine ⟨arU _,h1.push ?_,arL _⟩;intro w hw;rcases arj.1 hw with hw|hw
  ·have:=hm.low b;rw[fD] at this;exact sg (arL _) (this w (atn (atm hw)))
  ·exact sg (arL _) (OG hm ag w hw)
 |copy x y t u e i b off l c L cs h ao ae U fD ag ar ah=>
  refine ⟨ari,hm.put ?_ (.inl (hm.lt (by rw[fD];simp))),aq9 _⟩;intro w hw;rcases zq _ _ _ _ hw with hw|hw
  ·have:=hm.low b;rw[fD] at this;exact this w hw
  ·exact NP hm ag w (atm hw)
 |mapUpdate gy x iu iE u kt vt b L bS vc E E' fj h hh hu U fD aT ll K BO oY yG aP hk aH lZ Ca r1 Cb e9=>
  refine ⟨fun u hu=>by simp at hu,hm.put ?_ (.inl (hm.lt (by rw[fD];simp))),aq9 _⟩;have cC:=hm.low b;rw[fD] at cC;have lg:∀p∈E,∀c∈p.1++p.2,gE m.next c:=fun p ap c ab=>cC c (by rw[aT.eq];exact asD.2 ⟨p,ap,ab⟩);have acb:∀c∈bS,gE m.next c:=si yG;have UZ:∀c∈vc,gE m.next c:=fun c ab=>by refine Gf (wx (gJ iE ?_) lZ) c (Cb c ab);rcases h with h|h<;>simp[h,aq']
  have key:∀p∈E',∀c∈p.1++p.2,gE m.next c:=by
   clear aT aH cC;induction e9 with
   |p3=>
    intro p ap c ab;simp at ap;subst ap;rcases arj.1 ab with ab|ab
    ·exact acb c ab
    ·exact UZ c ab
   |jU p E h=>
    intro q aJ c ab;rcases arb.1 aJ with rfl|aJ
    ·rcases arj.1 ab with ab|ab
     ·exact lg p (by simp) c (by simp[ab])
     ·exact UZ c ab
    ·exact lg q (by simp[aJ]) c ab
   |next p E E' h TX a8=>
    intro q aJ c ab;rcases arb.1 aJ with rfl|aJ
    ·exact lg q (by simp) c ab
    ·exact a8 (fun q aJ=>lg q (by simp[aJ])) q aJ c ab
  intro v ad;obtain ⟨p,ap,ab⟩:=asD.1 ad;exact key p ap v ab
theorem Yv {fr:Nat->aqX} {n:Nat} (h:∀t,low n (fr t)) {x:aq3} (U:kE x=aqW):low n (aK fr x):=by
 cases x with
 |tmp t=>exact h t
 |const v=>exact Oq U
 |global g=>simp[kE] at U
 |func f=>exact ⟨fun v ad=>by simp at ad,fun v ad=>by simp at ad⟩
theorem C4 {fr:Nat->aqX} {n:Nat} (h:∀t,low n (fr t)) {d:Option Tmp} {v:aqX} (ad:low n v):∀t,low n (set fr d v t):=by
 intro t;cases d with
 |none=>exact h t
 |some d=>simp only[set];split;exact ad;exact h t
theorem CE {n:Nat}:low n undef:=fun v ad=>by simp at ad
theorem wM {P:aq1} {C:FuncId->Array aqX->Mem->aqX->Mem->Prop} {fr:Nat->aqX} {o:Oper} {m m':Mem} {v:aqX} (h:oK P C (aK fr) o m v m') (hm:WF m) (aP:∀t,low m.next (fr t)) (bW:pk C) (ai:∀x∈o.op.operands,kE x=aqW):
  low m'.next v/\WF m'/\m.next<=m'.next:=by
 have gJ:∀x∈o.op.operands,low m.next (aK fr x):=fun x U=>Yv aP (ai x U);cases h with
 |pure h=>exact ⟨ags h gJ,hm,aq9 _⟩
 |read h=>exact ⟨agw h hm gJ,hm,aq9 _⟩
 |new h=>have:=ah4 h gJ;exact ⟨this.1,hm.push (Gw (arL _) this.2),arL _⟩
 |e7 h=>exact ahn h hm gJ bW
end Go.aS
end
section
namespace Go.aS
def PE (P:aq1) (C:FuncId->Array aqX->Mem->aqX->Mem->Prop) (ops:List Oper) (o:Oper) (fr:Nat->aqX) (m:Mem) (v:aqX) (m':Mem) (k:Nat):Prop:=
 (k=0/\wanted ops fr o=aqZ/\v=undef/\m'=m)\/
 (k=1/\wanted ops fr o=aqW/\cP P (aK fr) o v/\m'=m)\/
 (k=2/\wanted ops fr o=aqW/\eT P (aK fr) o m v/\m'=m)\/
 (k=3/\wanted ops fr o=aqW/\∃X,h0 P (aK fr) o m.next X v/\m'=m.push X)\/
 (k=4/\wanted ops fr o=aqW/\gF P C (aK fr) o m v m')
structure jK (P:aq1) (C:FuncId->Array aqX->Mem->aqX->Mem->Prop) (ops:List Oper) (B:Array Nat) (i:Nat) (l:List Oper) (bc:Nat->Nat->aqX) (ms:Nat->Mem) (vs:Nat->aqX) (cv:Nat->Nat):Prop where
 frame:∀n o,l[n]? =aqV o->bc (i+n+1)=set (bc (i+n)) o.dst (vs (i+n))
 run:∀n o,l[n]? =aqV o->PE P C ops o (bc (i+n)) (ms (i+n)) (vs (i+n)) (ms (i+n+1)) (cv (i+n))
 after:∀r e o,l[r]? =aqV o->cv (i+r)=2->e<l.length->cv (i+e)=4->r<e->fi B (i+e) (i+r)=aqZ->eT P (aK (bc (i+r))) o (ms (i+e+1)) (vs (i+r))
 news:∀x e,x<l.length->cv (i+x)=3->e<l.length->cv (i+e)=4->x<e->fi B (i+e) (i+x)=aqZ->(ms (i+e+1)).aG (ms (i+x)).next=(ms (i+e)).aG (ms (i+x)).next
 ahead:∀r e o,l[r]? =aqV o->cv (i+r)=2->e<l.length->cv (i+e)=4->e<r->fi B (i+r) (i+e)=aqZ->eT P (aK (bc (i+r))) o (ms (i+e)) (vs (i+r))
theorem Y7 {P:aq1} {C:FuncId->Array aqX->Mem->aqX->Mem->Prop} {ops:List Oper} {B:Array Nat}:∀(l:List Oper) (i:Nat) (A:Acc) (fr:Nat->aqX) (m:Mem) (fr':Nat->aqX) (m':Mem),gw P C ops B i l A fr m fr' m'->
  ∃bc ms vs cv,jK P C ops B i l bc ms vs cv/\bc i=fr/\ms i=m/\bc (i+l.length)=fr'/\ms (i+l.length)=m'/\
   (∀x∈A.reads,∀e,e<l.length->cv (i+e)=4->fi B (i+e) x.1=aqZ->x.2 (ms (i+e+1)))/\
   (∀x∈A.gN,∀r o,l[r]? =aqV o->cv (i+r)=2->fi B (i+r) x.1=aqZ->eT P (aK (bc (i+r))) o x.2 (vs (i+r)))/\
   (∀x∈A.news,∀e,e<l.length->cv (i+e)=4->fi B (i+e) x.1=aqZ->(ms (i+e+1)).aG x.2=(ms (i+e)).aG x.2)
 |[],i,A,fr,m,fr',m',h=>by simp only[gw] at h;obtain ⟨rfl,rfl⟩:=h;refine ⟨fun _=>fr',fun _=>m',fun _=>undef,fun _=>0,⟨?_, ?_, ?_, ?_, ?_⟩,rfl,rfl,rfl,rfl, ?_, ?_, ?_⟩;all_goals (intros;simp at*)
 |o::os,i,A,fr,m,fr',m',h=>by
  have key:∀(v:aqX) (m1:Mem) (k:Nat) (hl:Acc),PE P C ops o fr m v m1 k->gw P C ops B (i+1) os hl (set fr o.dst v) m1 fr' m'->
    (∀x∈A.reads,x∈hl.reads)->(∀x∈A.gN,x∈hl.gN)->(k=2->(i,fun m=>eT P (aK fr) o m v)∈hl.reads)->(k=4->(i,m)∈hl.gN)->
    (k=2->∀x∈A.gN,fi B i x.1=aqZ->eT P (aK fr) o x.2 v)->(k=4->∀x∈A.reads,fi B i x.1=aqZ->x.2 m1)->(∀x∈A.news,x∈hl.news)->(k=3->(i,m.next)∈hl.news)->(k=4->∀x∈A.news,fi B i x.1=aqZ->m1.aG x.2=m.aG x.2)->
    ∃bc ms vs cv,jK P C ops B i (o::os) bc ms vs cv/\bc i=fr/\ms i=m/\bc (i+(o::os).length)=fr'/\ms (i+(o::os).length)=m'/\
     (∀x∈A.reads,∀e,e<(o::os).length->cv (i+e)=4->fi B (i+e) x.1=aqZ->x.2 (ms (i+e+1)))/\
     (∀x∈A.gN,∀r o',(o::os)[r]? =aqV o'->cv (i+r)=2->fi B (i+r) x.1=aqZ->eT P (aK (bc (i+r))) o' x.2 (vs (i+r)))/\
     (∀x∈A.news,∀e,e<(o::os).length->cv (i+e)=4->fi B (i+e) x.1=aqZ->(ms (i+e+1)).aG x.2=(ms (i+e)).aG x.2):=by
   intro v m1 k hl jX aB aa5 aa3 rQ L9 lo acW aa4 BN acu;obtain ⟨bc,ms,vs,cv,ao,h1,J,aj,aM,bq,dv,h3⟩:=Y7 os (i+1) hl _ _ _ _ aB;refine ⟨fun n=>if n=i then fr else bc n,fun n=>if n=i then m else ms n,fun n=>if n=i then v else vs n,fun n=>if n=i then k else cv n,⟨?_, ?_, ?_, ?_, ?_⟩,by simp,by simp, ?_, ?_, ?_, ?_, ?_⟩
   ·intro n o' ar;cases n with
    |zero=>simp only[as9,arr.injEq] at ar;subst ar;simp only[arJ,if_pos,Nat.succ_ne_self,if_false,at7,atH,h1]
    |succ n=>
     have aX:i+(n+1)=i+1+n:=by omega
     have:=ao.frame n o' (by simpa using ar);rw[aX];simp only[show ¬(i+1+n+1=i) by omega,show ¬(i+1+n=i) by omega,if_false,this]
   ·intro n o' ar;cases n with
    |zero=>simp only[as9,arr.injEq] at ar;subst ar;simp only[arJ,if_pos,at7,atH,if_false,J];exact jX
    |succ n=>
     have aX:i+(n+1)=i+1+n:=by omega
     have:=ao.run n o' (by simpa using ar);rw[aX];simp only[show ¬(i+1+n+1=i) by omega,show ¬(i+1+n=i) by omega,if_false];exact this
   ·intro r e o' an hk he gB FC fY;cases e with
    |zero=>omega
    |succ e=>
     have aX:i+(e+1)=i+1+e:=by omega
     rw[aX] at gB fY⊢;simp only[show ¬(i+1+e=i) by omega,if_false] at gB;simp only[show ¬(i+1+e+1=i) by omega,if_false];cases r with
     |zero=>simp only[as9,arr.injEq] at an;subst an;simp only[arJ,if_pos] at hk fY⊢;exact bq _ (rQ hk) e (by simpa using he) gB fY
     |succ r=>
      have e2:i+(r+1)=i+1+r:=by omega
      rw[e2] at hk fY⊢;simp only[show ¬(i+1+r=i) by omega,if_false] at hk⊢;exact ao.after r e o' (by simpa using an) hk (by simpa using he) gB (by omega) fY
   ·intro x e U hk he gB kB fY;cases e with
    |zero=>omega
    |succ e=>
     have aX:i+(e+1)=i+1+e:=by omega
     rw[aX] at gB fY⊢;simp only[show ¬(i+1+e=i) by omega,if_false] at gB;simp only[show ¬(i+1+e+1=i) by omega,show ¬(i+1+e=i) by omega,if_false];cases x with
     |zero=>simp only[arJ,if_pos] at hk fY⊢;exact h3 _ (BN hk) e (by simpa using he) gB fY
     |succ x=>
      have e2:i+(x+1)=i+1+x:=by omega
      rw[e2] at hk fY⊢;simp only[show ¬(i+1+x=i) by omega,if_false] at hk⊢;exact ao.news x e (by simpa using U) hk (by simpa using he) gB (by omega) fY
   ·intro r e o' an hk he gB FC fY;cases r with
    |zero=>omega
    |succ r=>
     have e2:i+(r+1)=i+1+r:=by omega
     rw[e2] at hk fY⊢;simp only[show ¬(i+1+r=i) by omega,if_false] at hk⊢;cases e with
     |zero=>simp only[arJ,if_pos] at gB fY⊢;exact dv _ (L9 gB) r o' (by simpa using an) hk fY
     |succ e=>
      have aX:i+(e+1)=i+1+e:=by omega
      rw[aX] at gB fY⊢;simp only[show ¬(i+1+e=i) by omega,if_false] at gB⊢;exact ao.ahead r e o' (by simpa using an) hk (by simpa using he) gB (by omega) fY
   ·have aX:i+(o::os).length=i+1+os.length:=by simp;omega
    rw[aX];simp only[show ¬(i+1+os.length=i) by omega,if_false,aj]
   ·have aX:i+(o::os).length=i+1+os.length:=by simp;omega
    rw[aX];simp only[show ¬(i+1+os.length=i) by omega,if_false,aM]
   ·intro x U e he gB fY;cases e with
    |zero=>simp only[arJ,if_pos,at7,atH,if_false,J] at gB fY⊢;exact acW gB x U fY
    |succ e=>
     have aX:i+(e+1)=i+1+e:=by omega
     rw[aX] at gB fY⊢;simp only[show ¬(i+1+e=i) by omega,if_false] at gB;simp only[show ¬(i+1+e+1=i) by omega,if_false];exact bq x (aa5 x U) e (by simpa using he) gB fY
   ·intro x U r o' an hk fY;cases r with
    |zero=>simp only[as9,arr.injEq] at an;subst an;simp only[arJ,if_pos] at hk fY⊢;exact lo hk x U fY
    |succ r=>
     have e2:i+(r+1)=i+1+r:=by omega
     rw[e2] at hk fY⊢;simp only[show ¬(i+1+r=i) by omega,if_false] at hk⊢;exact dv x (aa3 x U) r o' (by simpa using an) hk fY
   ·intro x U e he gB fY;cases e with
    |zero=>simp only[arJ,if_pos,at7,atH,if_false,J] at gB fY⊢;exact acu gB x U fY
    |succ e=>
     have aX:i+(e+1)=i+1+e:=by omega
     rw[aX] at gB fY⊢;simp only[show ¬(i+1+e=i) by omega,if_false] at gB;simp only[show ¬(i+1+e+1=i) by omega,show ¬(i+1+e=i) by omega,if_false];exact h3 x (aa4 x U) e (by simpa using he) gB fY
  simp only[gw] at h;split at h
  ·rename_i hw;rcases h with ⟨v,ap,aB⟩|⟨v,ap,Mn,aB⟩|⟨X,v,ap,aB⟩|⟨v,m1,ap,Mn,acC,aB⟩
   ·exact key v m 1 A (.inr (.inl ⟨rfl,hw,ap,rfl⟩)) aB (fun _ h=>h) (fun _ h=>h) (by simp) (by simp) (by simp) (by simp) (fun _ h=>h) (by simp) (by simp)
   ·exact key v m 2 _ (.inr (.inr (.inl ⟨rfl,hw,ap,rfl⟩))) aB (fun _ h=>by simp[h]) (fun _ h=>h) (fun _=>by simp) (by simp) (fun _=>Mn) (by simp) (fun _ h=>h) (by simp) (by simp)
   ·exact key v _ 3 _ (.inr (.inr (.inr (.inl ⟨rfl,hw,X,ap,rfl⟩)))) aB (fun _ h=>h) (fun _ h=>h) (by simp) (by simp) (by simp) (by simp) (fun _ h=>by simp[h]) (fun _=>by simp) (by simp)
   ·exact key v m1 4 _ (.inr (.inr (.inr (.inr ⟨rfl,hw,ap⟩)))) aB (fun _ h=>h) (fun _ h=>by simp[h]) (by simp) (fun _=>by simp) (by simp) (fun _=>Mn) (fun _ h=>h) (by simp) (fun _=>acC)
  ·rename_i hw;exact key undef m 0 A (.inl ⟨rfl,by simpa using hw,rfl,rfl⟩) h (fun _ h=>h) (fun _ h=>h) (by simp) (by simp) (by simp) (by simp) (fun _ h=>h) (by simp) (by simp)
end Go.aS
end
section
namespace Go.aS
def zE (P:aq1) (C:FuncId->Array aqX->Mem->aqX->Mem->Prop):Prop:=∀f args m v m',C f args m v m'->∀(j:bo) (w:World) (jM:Array aqX),WF m->Rel P j m w->ba (cb j) args.toList jM.toList->
 (∃ fn, P.funcs[f]? = aqV fn ∧ (fn.name == "runtime.NumGoroutine") = aqZ ∧ fn.body.isNone = aqZ) ∧
 Calls P f jM w fun e w'=>∃aV bX,e= .returned aV/\Post P j m w bX m' w'/\cb bX v aV
theorem Hh {j:bo} {n:Nat} (av:∀b e,j b=aqV e->b<n) {v aV:aqX}:(dC j v aV->gE n v)/\(ey j v aV->gU n v)/\(cb j v aV->low n v):=by
 have ah:∀{R:aqX->aqX->Prop} {p:aqX->Prop},(∀a b,R a b->p a)->∀{l k:List aqX},ba R l k->∀v∈l,p v:=by
  intro R p abp l;induction l with
  |nil=>intro k _ v ad;simp at ad
  |cons a l a8=>
   intro k h v ad;cases k with
   |nil=>exact h.elim
   |cons b k=>
    rcases arb.1 ad with rfl|ad
    ·exact abp _ _ h.1
    ·exact a8 h.2 v ad
 have aJ:∀v aV:aqX,ju j v aV->qY n v:=by
  intro v aV h;unfold ju at h;split at h
  ·obtain ⟨e,_,h,_⟩:=h;exact av _ _ h
  ·exact h.elim
 have aI:∀{v aV:aqX},dC j v aV->gE n v:=by
  intro v aV h;cases v with
  |pointer a=>cases a with
   |none=>exact ari
   |some a=>obtain ⟨e,_,h,_⟩:=h;exact av _ _ h
  |slice a l c=>cases a with
   |none=>exact ari
   |some a=>obtain ⟨e,_,h,_⟩:=h;exact av _ _ h
  |map r=>cases r with
   |none=>exact ari
   |some r=>obtain ⟨e,h,_⟩:=h;exact av _ _ h
  |chan _=>exact h
  |func _ _ _=>obtain ⟨aX,ds,_,h⟩:=h;exact ⟨aX,ah (R:=ju j) (p:=qY n) aJ h⟩
  |iface _ _=>exact h
  |agg _=>exact h
  |tuple _=>exact h
  |_=>exact ari
 have h1:∀{v aV:aqX},ey j v aV->gU n v:=by
  intro v aV h;cases v with
  |agg cs=>obtain ⟨ds,_,h⟩:=h;exact ah (R:=dC j) (p:=gE n) (fun a b=>aI) h
  |_=>simp only[ey] at h;simp only[gU];exact aI h
 refine ⟨aI,h1, ?_⟩;intro h;cases v with
 |tuple cs=>obtain ⟨ds,_,h⟩:=h;exact ah (R:=ey j) (p:=gU n) (fun a b=>h1) h
 |chan _=>trivial
 |func fn a b=>obtain ⟨gs,ds,_,h,cq⟩:=h;exact ⟨ah (R:=ey j) (p:=gU n) (fun a b=>h1) h,ah (R:=ey j) (p:=gU n) (fun a b=>h1) cq⟩
 |_=>simp only[cb] at h;simp only[low];exact h1 h
def bo.below (j:bo) (n:Nat):bo:=fun b=>if b<n then j b else aqY
theorem pd {j:bo} {n b:Nat} {e:iR} (h:j.below n b=aqV e):b<n/\j b=aqV e:=by
 unfold bo.below at h;split at h
 ·exact ⟨‹_›,h⟩
 ·cases h
theorem GC {j:bo} {n b:Nat} {e:iR} (h:b<n) (av:j b=aqV e):j.below n b=aqV e:=by simp[bo.below,h,av]
theorem wE {j:bo} {n:Nat} {v aV:aqX}:(dC j v aV->gE n v->dC (j.below n) v aV)/\(ey j v aV->gU n v->ey (j.below n) v aV)/\(cb j v aV->low n v->cb (j.below n) v aV):=by
 have gl:∀{R S:aqX->aqX->Prop} {p:aqX->Prop},(∀a b,R a b->p a->S a b)->∀{l k:List aqX},ba R l k->(∀v∈l,p v)->ba S l k:=by
  intro R S p abo l;induction l with
  |nil=>intro k h _;cases k with|nil=>exact ari|cons _ _=>exact h.elim
  |cons a l a8=>
   intro k h ap;cases k with
   |nil=>exact h.elim
   |cons b k=>exact ⟨abo _ _ h.1 (ap a (by simp)),a8 h.2 fun v ad=>ap v (by simp[ad])⟩
 have aJ:∀v aV:aqX,ju j v aV->qY n v->ju (j.below n) v aV:=by
  intro v aV h ah;unfold ju at h⊢;split at h
  ·obtain ⟨e,h1,J,aj⟩:=h;exact ⟨e,h1,GC ah J,aj⟩
  ·exact h.elim
 have aI:∀{v aV:aqX},dC j v aV->gE n v->dC (j.below n) v aV:=by
  intro v aV h ah;cases v with
  |func _ _ _=>obtain ⟨aX,ds,e2,h⟩:=h;exact ⟨aX,ds,e2,gl (R:=ju j) (S:=ju (j.below n)) (p:=qY n) aJ h ah.2⟩
  |pointer a=>cases a with
   |none=>exact h
   |some a=>obtain ⟨e,h1,J,aj⟩:=h;exact ⟨e,h1,GC ah J,aj⟩
  |slice a l c=>cases a with
   |none=>exact h
   |some a=>obtain ⟨e,h1,J,aj⟩:=h;exact ⟨e,h1,GC ah J,aj⟩
  |map r=>cases r with
   |none=>exact h
   |some r=>obtain ⟨e,J,aj⟩:=h;exact ⟨e,GC ah J,aj⟩
  |_=>exact h
 have h1:∀{v aV:aqX},ey j v aV->gU n v->ey (j.below n) v aV:=by
  intro v aV h ah;cases v with
  |agg cs=>obtain ⟨ds,aX,h⟩:=h;exact ⟨ds,aX,gl (R:=dC j) (S:=dC (j.below n)) (p:=gE n) (fun a b=>aI) h ah⟩
  |_=>simp only[ey] at h⊢;simp only[gU] at ah;exact aI h ah
 refine ⟨aI,h1, ?_⟩;intro h ah;cases v with
 |tuple cs=>obtain ⟨ds,aX,h⟩:=h;exact ⟨ds,aX,gl (R:=ey j) (S:=ey (j.below n)) (p:=gU n) (fun a b=>h1) h ah⟩
 |chan _=>exact h
 |func fn a b=>obtain ⟨gs,ds,aX,h,cq⟩:=h;exact ⟨gs,ds,aX,gl (R:=ey j) (S:=ey (j.below n)) (p:=gU n) (fun a b=>h1) h ah.1,gl (R:=ey j) (S:=ey (j.below n)) (p:=gU n) (fun a b=>h1) cq ah.2⟩
 |_=>simp only[cb] at h⊢;simp only[low] at ah;exact h1 h ah
theorem ba.mapA {au bz rp:Type} {R:bz->rp->Prop} (f:au->bz) (g:au->rp) (A:Array au) (h:∀x∈A.toList,R (f x) (g x)):ba R (A.map f).toList (A.map g).toList:=by
 simp only[asJ];exact ba.map f g _ h
theorem aeC {P : aq1} {f : FuncId} {fn : Func} {args : Array aqX} {w : World} (aP : P.funcs[f]? = aqV fn) (Mj : (fn.name == "runtime.NumGoroutine") = aqZ) (LR : fn.body.isNone = aqZ) : (callFunc f args).run P w = .ok (.enter f args) w := by
 simp only[callFunc,ars,run_program,arn,aP,Mj,LR,if_false,arE,arF]
theorem Yt {P:aq1} {C:FuncId->Array aqX->Mem->aqX->Mem->Prop} {j:bo} {af:aq3->aqX} {o:Oper} {m m':Mem} {w:World} {v:aqX} {a:Act} (h:gF P C af o m v m') (hO:hJ j af a.eval o) (br:Rel P j m w) (ct:WF m) (ji:zE P C)
  {K:Act->World->Prop} {Q:Exit->Act->World->Prop} (fB:∀aV w' bX,Post P j m w bX m' w'->cb bX v aV->K (a.put o.dst aV) w'):o.wp P a w K Q:=by
 rcases afg h hO br with ⟨n,aV,w',bX,an,ar,ap,ad⟩|⟨f,args,ab,bW⟩
 ·unfold asY;rw[an];rcases ar with rfl|⟨rfl,rfl⟩
  ·exact fB aV w' bX ap ad
  ·exact fB undef w' bX ap ad
 ·obtain ⟨x,as,ts,first,captured,jy,U,rfl⟩:=ab;have cS:=hO x (by simp[jy,aq',ar4]);rw[U] at cS;obtain ⟨gs,ds,dz,h1,J⟩:=cS;have tH:ba (cb j) (first++as.map af++captured).toList (gs++as.map a.eval++ds).toList:=by
   simp only[auj];refine ba.append (ba.append (h1.mono fun _ _=>cb.wu) (ba.mapA _ _ _ fun y ag=> ?_)) (J.mono fun _ _=>cb.wu);exact hO y (by simp[jy,aq',ar4];exact .inr (by simpa using ag))
  obtain ⟨⟨fn,aP,Mj,LR⟩,abF⟩:=ji _ _ _ _ _ bW j w _ ct br tH;have jX:(execOp a.eval o).run P w= .ok (.enter f (gs++as.map a.eval++ds)) w:=by simp only[execOp,jy,resolve,dz,Deferred.ofValue,invoke,ars,arF,arn,aeC aP Mj LR]
  unfold asY;rw[jX,Oper.upon_enter];refine abF.mono ?_;rintro e w' ⟨aV,bX,rfl,ap,ad⟩;exact fB aV w' bX ap ad
end Go.aS
end
section
namespace Go.aS
theorem aff {ops:Array Oper} (h:uB ops=aqW) {i:Nat} {o:Oper} (ai:ops[i]? =aqV o) {e:Edge} (he:e∈o.after) (aa:asN .any e=aqW):e.on<i:=by
 simp only[uB,arc,asb] at h;have:=h i (ar9.1 ai).1;simp only[ai,ara,arc] at this;have:=this.1 e (by simpa using he);simpa[aa] using this
theorem Nr {ops:Array Oper} (h:uB ops=aqW) {i x:Nat} {o y:Oper} (ai:ops[i]? =aqV o) (ag:ops[x]? =aqV y) (U:x<i) (ab:rF ops y o=aqW):fi (arM ops) i x=aqW:=by
 simp only[uB,arc,asb] at h;have:=h i (ar9.1 ai).1;simp only[ai,ara,arc] at this;have:=this.2 x (by simpa using U);simpa[ag,ab] using this
def Hf (ops:Array Oper) (S:Nat->Prop):Prop:=∀a o,S a->ops[a]? =aqV o->∀e∈o.after,asN .any e=aqW->S e.on
def q5 (acc:Array Nat) (o:Oper):Array Nat:=acc.push (o.after.foldl (fun s e=>if asN .any e then s|||2 ^ e.on|||acc.getD e.on 0 else s) 0)
def Good (ops:Array Oper) (i bits:Nat):Prop:=∀x,bits.testBit x=aqW->∀S,Hf ops S->(∀o,ops[i]? =aqV o->∀e∈o.after,asN .any e=aqW->S e.on)->S x
theorem Wt (acc:Array Nat):∀(l:List Edge) (s x:Nat),(l.foldl (fun s e=>if asN .any e then s|||2 ^ e.on|||acc.getD e.on 0 else s) s).testBit x=aqW->
  s.testBit x=aqW\/∃e∈l,asN .any e=aqW/\(x=e.on\/(acc.getD e.on 0).testBit x=aqW)
 |[],s,x,h=> .inl h
 |e::l,s,x,h=>by
  simp only[List.foldl_cons] at h;rcases Wt acc l _ x h with h|⟨bx,BB,aa,U⟩
  ·split at h
   ·rename_i aa;simp only[Nat.testBit_or,ar7,Nat.testBit_two_pow,decide_eq_true_eq] at h;rcases h with (h|h)|h
    ·exact .inl h
    ·exact .inr ⟨e,by simp,aa, .inl h.symm⟩
    ·exact .inr ⟨e,by simp,aa, .inr h⟩
   ·exact .inl h
  ·exact .inr ⟨bx,by simp[BB],aa,U⟩
theorem VH {ops:Array Oper}:∀(l pre:List Oper) (acc:Array Nat),ops.toList=pre++l->acc.size=pre.length->(∀i,i<acc.size->Good ops i (acc.getD i 0))->
  ∀i,Good ops i ((l.foldl q5 acc).getD i 0)
 |[],pre,acc,ap,ay,aH=>by
  intro i;by_cases ae:i<acc.size
  ·exact aH i ae
  ·simp only[List.foldl_nil];intro x U;simp[asZ,ae] at U
 |o::l,pre,acc,ap,ay,aH=>by
  simp only[List.foldl_cons];refine VH l (pre++[o]) (q5 acc o) (by simp[ap]) (by simp[q5,ay]) ?_;intro i ae;by_cases h:i<acc.size
  ·have:(q5 acc o).getD i 0=acc.getD i 0:=by
    simp only[q5,asZ,Array.size_push,h,atk h,dite_true];simp[Array.getElem_push,h]
   rw[this];exact aH i h
  ·have im:i=acc.size:=by simp[q5] at ae;omega
   subst im;have acD:ops[acc.size]? =aqV o:=by rw[<-as4,ap,ay];simp
   intro x U S ji aB;have aa:(q5 acc o).getD acc.size 0=o.after.foldl (fun s e=>if asN .any e then s|||2 ^ e.on|||acc.getD e.on 0 else s) 0:=by simp[q5,asZ]
   rw[aa,<-aug] at U;rcases Wt acc _ 0 x U with aI|⟨e,he,eM,kB⟩
   ·simp at aI
   ·have UO:=aB o acD e (by simpa using he) eM;rcases kB with rfl|kB
    ·exact UO
    ·by_cases aN:e.on<acc.size
     ·exact aH e.on aN x kB S ji fun o' iq bx BB cu=>ji e.on o' UO iq bx BB cu
     ·simp[asZ,aN] at kB
theorem Wf {ops:Array Oper} {i x:Nat} (h:fi (arM ops) i x=aqW) {S:Nat->Prop} (ji:Hf ops S) (aB:∀o,ops[i]? =aqV o->∀e∈o.after,asN .any e=aqW->S e.on):S x:=by
 have aa:arM ops=ops.toList.foldl q5 #[]:=by rw[show arM ops=ops.foldl q5 #[] from rfl,<-aug]
 have:=VH (ops:=ops) ops.toList [] #[] (by simp) (by simp) (by intro i ae;simp at ae) i;rw[<-aa] at this;exact this x h S ji aB
theorem N1 {P:aq1} {C:FuncId->Array aqX->Mem->aqX->Mem->Prop} {ops:List Oper} {B:Array Nat} {bc:Nat->Nat->aqX} {ms:Nat->Mem} {vs:Nat->aqX} {cv:Nat->Nat} (T:jK P C ops B 0 ops bc ms vs cv)
  (bW:pk C) (cS:∀o∈ops,∀x∈o.op.operands,kE x=aqW) (aI:WF (ms 0)) (ah:∀t,low (ms 0).next (bc 0 t)):∀i,i<=ops.length->WF (ms i)/\(∀t,low (ms i).next (bc i t))/\(∀n,n<i->(ms n).next<=(ms (n+1)).next/\low (ms (n+1)).next (vs n))
 |0,_=>⟨aI,ah,fun n ar=>by omega⟩
 |i+1,ae=>by
  obtain ⟨h1,J,aj⟩:=N1 T bW cS aI ah i (by omega);have ai:ops[i]? =aqV ops[i]:=by simp[show i<ops.length by omega]
  have an:=T.run i ops[i] ai;have aP:=T.frame i ops[i] ai;simp only[arh] at an aP;have hm:=cS ops[i] (by simp);have step:low (ms (i+1)).next (vs i)/\WF (ms (i+1))/\(ms i).next<=(ms (i+1)).next:=by
   rcases an with ⟨_,_,ad,fE⟩|⟨_,_,ap,fE⟩|⟨_,_,ap,fE⟩|⟨_,_,gG,ap,fE⟩|⟨_,_,ap⟩
   ·rw[fE,ad];exact ⟨CE,h1,aq9 _⟩
   ·rw[fE];exact wM (.pure ap) h1 J bW hm
   ·rw[fE];exact wM (.read ap) h1 J bW hm
   ·rw[fE];exact wM (.new ap) h1 J bW hm
   ·exact wM (.e7 ap) h1 J bW hm
  refine ⟨step.2.1, ?_, ?_⟩
  ·rw[aP];exact C4 (fun t=>GK step.2.2 (J t)) step.1
  ·intro n ar;by_cases acw:n=i
   ·subst acw;exact ⟨step.2.2,step.1⟩
   ·exact aj n (by omega)
theorem Wa {ms:Nat->Mem} {vs:Nat->aqX} {k:Nat} (h:∀n,n<k->(ms n).next<=(ms (n+1)).next/\low (ms (n+1)).next (vs n)):∀b a,a<=b->b<=k->(ms a).next<=(ms b).next
 |0,a,h1,J=>by
  have:a=0:=by omega
  subst this;exact aq9 _
 |b+1,a,h1,J=>by
  by_cases e:a=b+1
  ·subst e;exact aq9 _
  ·exact arq (Wa h b a (by omega) (by omega)) (h b (by omega)).1
theorem Nv {P:aq1} {C:FuncId->Array aqX->Mem->aqX->Mem->Prop} {ops:List Oper} {B:Array Nat} {bc:Nat->Nat->aqX} {ms:Nat->Mem} {vs:Nat->aqX} {cv:Nat->Nat} (T:jK P C ops B 0 ops bc ms vs cv) (t:Nat):
  ∀i,i<=ops.length->((∃x o,x<i/\ops[x]? =aqV o/\o.dst=aqV t/\bc i t=vs x/\∀y p,x<y->y<i->ops[y]? =aqV p->p.dst≠aqV t)\/
   ((∀x o,x<i->ops[x]? =aqV o->o.dst≠aqV t)/\bc i t=bc 0 t))
 |0,_=> .inr ⟨fun x o U=>by omega,rfl⟩
 |i+1,ae=>by
  have ai:ops[i]? =aqV ops[i]:=by simp[show i<ops.length by omega]
  have aP:=T.frame i ops[i] ai;simp only[arh] at aP;by_cases aB:ops[i].dst=aqV t
  ·left;refine ⟨i,ops[i],by omega,ai,aB, ?_,fun y p h1 J=>by omega⟩;rw[aP,aB];simp[set]
  ·have he:bc (i+1) t=bc i t:=by
    rw[aP];cases jS:ops[i].dst with
    |none=>rfl
    |some d=>
     have:t≠d:=by intro h;subst h;exact aB jS
     simp[set,this]
   rcases Nv T t i (by omega) with ⟨x,o,h1,J,aj,aM,bq⟩|⟨h1,J⟩
   ·left;refine ⟨x,o,by omega,J,aj,by rw[he];exact aM,fun y p adv yV ap=> ?_⟩;by_cases Cd:y=i
    ·subst Cd;rw[ai] at ap;cases ap;exact aB
    ·exact bq y p adv (by omega) ap
   ·right;refine ⟨fun x o U ap=> ?_,by rw[he];exact J⟩;by_cases Cd:x=i
    ·subst Cd;rw[ai] at ap;cases ap;exact aB
    ·exact h1 x o (by omega) ap
theorem Gj {P:aq1} {C:FuncId->Array aqX->Mem->aqX->Mem->Prop} {ops:List Oper} {B:Array Nat} {bc:Nat->Nat->aqX} {ms:Nat->Mem} {vs:Nat->aqX} {cv:Nat->Nat} (T:jK P C ops B 0 ops bc ms vs cv) {s:Nat}:
  ∀z,s<=z->z<=ops.length->(∀e,s<=e->e<z->cv e≠4)->(∀b,b<(ms s).next->(ms z).aG b=(ms s).aG b)/\
   (∀x,s<=x->x<z->cv x=3->∀o gG,ops[x]? =aqV o->ms (x+1)=(ms x).push gG->(ms z).aG (ms x).next=gG)/\(∀x,s<=x->x<z->(ms x).next<=(ms z).next/\(cv x=3->(ms x).next<(ms z).next))
 |z,bE,aF,b8=>by
  induction z with
  |zero=>
   have:s=0:=by omega
   subst this;exact ⟨fun _ _=>rfl,fun x h1 J=>by omega,fun x h1 J=>by omega⟩
  |succ z a8=>
   by_cases ay:s=z+1
   ·subst ay;exact ⟨fun _ _=>rfl,fun x h1 J=>by omega,fun x h1 J=>by omega⟩
   ·obtain ⟨h1,J,aj⟩:=a8 (by omega) (by omega) (fun e vK ap5=>b8 e vK (by omega));have ai:ops[z]? =aqV ops[z]:=by simp[show z<ops.length by omega]
    have an:=T.run z ops[z] ai;simp only[arh] at an;have Mz:(ms s).next<=(ms z).next:=by
     by_cases e:s=z
     ·subst e;exact aq9 _
     ·exact (aj s (aq9 _) (by omega)).1
    have same:ms (z+1)=ms z->cv z≠3->(∀b,b<(ms s).next->(ms (z+1)).aG b=(ms s).aG b)/\(∀x,s<=x->x<z+1->cv x=3->∀o gG,ops[x]? =aqV o->ms (x+1)=(ms x).push gG->(ms (z+1)).aG (ms x).next=gG)/\(∀x,s<=x->x<z+1->(ms x).next<=(ms (z+1)).next/\(cv x=3->(ms x).next<(ms (z+1)).next)):=fun he hk=>⟨fun b aa=>by rw[he];exact h1 b aa,
     fun x tX oc iV o gG jy hm=>by
      by_cases e:x=z
      ·subst e;exact absurd iV hk
      ·rw[he];exact J x tX (by omega) iV o gG jy hm,
     fun x tX oc=>by
      rw[he];by_cases e:x=z
      ·subst e;exact ⟨aq9 _,fun iV=>absurd iV hk⟩
      ·exact aj x tX (by omega)⟩
    rcases an with ⟨hk,_,ad,fE⟩|⟨hk,_,ap,fE⟩|⟨hk,_,ap,fE⟩|⟨hk,_,gG,ap,fE⟩|⟨hk,_,ap⟩
    ·exact same fE (by omega)
    ·exact same fE (by omega)
    ·exact same fE (by omega)
    ·refine ⟨fun b aa=> ?_,fun x tX oc iV o yd jy hm=> ?_,fun x tX oc=> ?_⟩
     ·rw[fE,<-h1 b aa];simp only[Mem.push];rw[if_neg (by omega)]
     ·by_cases e:x=z
      ·subst e;rw[hm];simp[Mem.push]
      ·have aN:=(aj x tX (by omega)).2 iV;rw[fE,<-J x tX (by omega) iV o yd jy hm];simp only[Mem.push];rw[if_neg (by omega)]
     ·by_cases e:x=z
      ·subst e;rw[fE];simp[Mem.push]
      ·have:=aj x tX (by omega);rw[fE];simp only[Mem.push];exact ⟨by omega,fun iV=>by have:=this.2 iV;omega⟩
    ·exact absurd hk (b8 z (by omega) (by omega))
end Go.aS
end
section
namespace Go.aS
theorem Rel.place {P:aq1} {j:bo} {M:Mem} {w w':World} {df:Nat} {X:a6} {e:iR} {ob:Obj} (h:Rel P j M w) (ar:j df=aqY) (aa:df<M.next) (N:AQ P j w w' X e ob):
  Rel P (j.up df e) (M.put df X) w':=by
 have hle:=bo.xB (e:=e) ar;have hold:∀c,c<w.heap.size->w'.heap[c]? =w.heap[c]? :=fun c ab=>by rw[N.heap,at0,if_neg (by omega)]
 have qS:w'.heap.size=w.heap.size+1:=by rw[N.heap];simp
 have hW:w'.heap[w.heap.size]? =aqV ob:=by rw[N.heap];simp
 have hblk:∀b,b≠df->(M.put df X).aG b=M.aG b:=fun b aa=>by simp[Mem.put,aa]
 have acR:(M.put df X).aG df=X:=by simp[Mem.put]
 have e9:∀b x,j.up df e b=aqV x->b≠df->j b=aqV x:=fun b x aa b8=>by simpa[bo.up,b8] using aa
 have pV:∀x,j.up df e df=aqV x->x=e:=fun x U=>by simpa[bo.up] using U.symm
 refine ⟨?_, ?_, ?_⟩
 ·intro b x cu;by_cases eM:b=df
  ·subst eM;have:=pV x cu;subst this;exact ⟨aa,by rw[N.aG];omega⟩
  ·have:=h.lt b x (e9 b x cu eM);exact ⟨this.1,by omega⟩
 ·intro b x cu;by_cases eM:b=df
  ·subst eM;have U:=pV x cu;subst U;rw[acR,N.aG,hW];exact N.obj.mono hle
  ·have lU:=e9 b x cu eM;rw[hblk b eM,hold _ (h.lt b x lU).2];exact (h.obj b x lU).mono hle
 ·intro b b6 x hb oW LP ai fk my;by_cases eM:b=df
  ·by_cases kx:b6=df
   ·rw[eM,kx]
   ·have U:x=e:=by subst eM;exact pV x oW
    have:=(h.lt b6 hb (e9 b6 hb LP kx)).2;rw[<-my,U,N.aG] at this;omega
  ·have lU:=e9 b x oW eM;by_cases kx:b6=df
   ·have U:hb=e:=by subst kx;exact pV hb LP
    have:=(h.lt b x lU).2;rw[my,U,N.aG] at this;omega
   ·rw[hblk b eM] at ai;rw[hblk b6 kx] at fk;exact h.inj b b6 x hb lU (e9 b6 hb LP kx) ai fk my
theorem aeH {P:aq1} {j:bo} {n:Nat} {vt:aq4} {cs:List aqX} {aV:aqX} (h:ey j (c4 (cW P vt) cs) aV) (ah:∀c∈cs,gE n c):ey (j.below n) (c4 (cW P vt) cs) aV:=by
 refine wE.2.1 h ?_;cases aq:cW P vt with
 |true=>simpa[c4,gU] using ah
 |false=>
  cases cs with
  |nil=>rw[aq] at h;exact absurd h (by simp[c4,ey,dC,undef])
  |cons c cs=>exact GJ (ah c (by simp))
theorem nM.below {P:aq1} {j:bo} {n:Nat} {e:iR} {o:Option Obj} {x:a6} (h:nM P j e o x) (ah:qX n x):nM P (j.below n) e o x:=by
 cases x with
 |dead=>trivial
 |ro rd=>intro i v ae;obtain ⟨cs,t,bg,aV,h1,J,aj⟩:=h i v ae;exact ⟨cs,t,bg,aV,h1,J,wE.1 aj (ah i v ae)⟩
 |own L t=>obtain ⟨cs,bg,h1,J,aj,aM,bq,dv⟩:=h;refine ⟨cs,bg,h1,J,aj,aM,bq,fun i v ae=> ?_⟩;obtain ⟨aV,g1,g2⟩:=dv i v ae;exact ⟨aV,g1,wE.1 g2 (ah v (are ae))⟩
 |lock _ _ _ _=>exact h.elim
 |map L u=>
  obtain ⟨kt,vt,cs,clock,E,h1,J,aj,aM,bq⟩:=h;have aT:∀p∈E,∀c∈p.2,gE n c:=fun p ap c ab=>ah c (by rw[aj.eq];exact asD.2 ⟨p,ap,by simp[ab]⟩);refine ⟨kt,vt,cs,clock,E,h1,J,aj, ?_,bq⟩;clear h1 aj ah bq;generalize cs.toList=cl at aM;induction E generalizing cl with
  |nil=>cases cl with
   |nil=>trivial
   |cons _ _=>exact aM.elim
  |cons p E a8=>
   cases cl with
   |nil=>exact aM.elim
   |cons x cl=>exact ⟨⟨aM.1.1,aM.1.2.1,aeH aM.1.2.2 (aT p (by simp))⟩,a8 (fun q aJ=>aT q (by simp[aJ])) cl aM.2⟩
theorem Rel.below {P:aq1} {j:bo} {M m:Mem} {w:World} (h:Rel P j M w) (ct:WF m) (aq:∀b e,j b=aqV e->b<m.next->M.aG b=m.aG b):Rel P (j.below m.next) m w:=by
 refine ⟨?_, ?_, ?_⟩
 ·intro b e aa;obtain ⟨h1,J⟩:=pd aa;exact ⟨h1,(h.lt b e J).2⟩
 ·intro b e aa;obtain ⟨h1,J⟩:=pd aa;rw[<-aq b e J h1];exact (h.obj b e J).below (by rw[aq b e J h1];exact ct.low b)
 ·intro b b6 e bx aa cu ai ah kU;obtain ⟨h1,J⟩:=pd aa;obtain ⟨jh,gk⟩:=pd cu;exact h.inj b b6 e bx J gk (by rw[aq b e J h1];exact ai) (by rw[aq b6 bx gk jh];exact ah) kU
def bo.join (gu:bo) (n:Nat) (j:bo):bo:=fun b=>if b<n then gu b else j b
def Mem.join (m1:Mem) (M:Mem):Mem:={next:=M.next,aG:=fun b=>if b<m1.next then m1.aG b else M.aG b}
theorem Rel.join {P:aq1} {j gu:bo} {M m m1:Mem} {w w':World} (h:Rel P j M w) (aq:∀b e,j b=aqV e->b<m.next->M.aG b=m.aG b) (p:Post P (j.below m.next) m w gu m1 w')
  (aH:∀b e,j b=aqV e->b<m.next\/m1.next<=b) (Fl:m1.next<=M.next):
  Rel P (gu.join m1.next j) (m1.join M) w'/\(∀b e,j b=aqV e->gu.join m1.next j b=aqV e)/\(∀b e,gu b=aqV e->gu.join m1.next j b=aqV e):=by
 have ar:=p.next;have Ah:∀b e,gu b=aqV e->gu.join m1.next j b=aqV e:=fun b e aa=>by have:=(p.rel.lt b e aa).1;simp[bo.join,this,aa]
 have U6:∀b,b<m.next->gu b=j b:=fun b aa=>by rw[p.ext b aa];simp[bo.below,aa]
 have up:∀b e,j b=aqV e->gu.join m1.next j b=aqV e:=fun b e aa=>by
  rcases aH b e aa with h1|h1
  ·simp[bo.join,show b<m1.next by omega,U6 b h1,aa]
  ·simp[bo.join,show ¬b<m1.next by omega,aa]
 have split:∀b e,gu.join m1.next j b=aqV e->(b<m1.next/\gu b=aqV e)\/(m1.next<=b/\j b=aqV e):=fun b e aa=>by
  unfold bo.join at aa;split at aa
  ·exact .inl ⟨‹_›,aa⟩
  ·exact .inr ⟨by omega,aa⟩
 have Bd:∀b,b<m1.next->(m1.join M).aG b=m1.aG b:=fun b aa=>by simp[Mem.join,aa]
 have Be:∀b,m1.next<=b->(m1.join M).aG b=M.aG b:=fun b aa=>by simp[Mem.join,show ¬b<m1.next by omega]
 have Bl:∀b e,j b=aqV e->m1.next<=b->(M.aG b).live=aqW->w'.heap[e.aG]? =w.heap[e.aG]? :=fun b e aa e8 ah=>by refine p.ed.block e.aG (h.lt b e aa).2 fun df dt h4 ai he=> ?_;obtain ⟨h1,J⟩:=pd h4;have:=h.inj df b dt e J aa (by rw[aq df dt J h1];exact ai) ah he;omega
 refine ⟨⟨?_, ?_, ?_⟩,up,Ah⟩
 ·intro b e aa;rcases split b e aa with ⟨h1,J⟩|⟨h1,J⟩
  ·exact ⟨by simp only[Mem.join];omega,(p.rel.lt b e J).2⟩
  ·have:=h.lt b e J;exact ⟨this.1,aru this.2 p.ed.size⟩
 ·intro b e aa;rcases split b e aa with ⟨h1,J⟩|⟨h1,J⟩
  ·rw[Bd b h1];exact (p.rel.obj b e J).mono Ah
  ·rw[Be b h1];cases ah:(M.aG b).live with
   |false=>
    cases aa:M.aG b<;>simp[aa,a6.live] at ah
    trivial
   |true=>rw[Bl b e J h1 ah];exact (h.obj b e J).mono up
 ·
  have TD:∀b b6 e bx,b<m1.next->gu b=aqV e->m1.next<=b6->j b6=aqV bx->(M.aG b6).live=aqW->(((m1.aG b).hM=aqW)\/((M.aG b6).hM=aqW/\(m1.aG b).live=aqW))->e.aG≠bx.aG:=by
   intro b b6 e bx h1 J jh gk fk Mq kU;rcases arQ b m.next with aN|e8
   ·have lU:j b=aqV e:=by rw[<-U6 b aN];exact J
    have By:b=b6:=by
     rcases Mq with ai|⟨iq,ah⟩
     ·exact h.inj b b6 e bx lU gk (by rw[aq b e lU aN];exact p.dh b aN ai) fk kU
     ·exact (h.inj b6 b bx e gk lU iq (by rw[aq b e lU aN];exact p.alive b aN ah) kU.symm).symm
    omega
   ·rcases p.fresh b e J e8 with aP|⟨df,dt,h4,qO,rO⟩
    ·have:=(h.lt b6 bx gk).2;omega
    ·obtain ⟨g1,g2⟩:=pd h4;have:=h.inj df b6 dt bx g2 gk (by rw[aq df dt g2 g1];exact qO) fk (by rw[rO,kU]);omega
  intro b b6 e bx aa cu ai ah kU;rcases split b e aa with ⟨h1,J⟩|⟨h1,J⟩<;>rcases split b6 bx cu with ⟨jh,gk⟩|⟨jh,gk⟩
  ·rw[Bd b h1] at ai;rw[Bd b6 jh] at ah;exact p.rel.inj b b6 e bx J gk ai ah kU
  ·rw[Bd b h1] at ai;rw[Be b6 jh] at ah;exact absurd kU (TD b b6 e bx h1 J jh gk ah (.inl ai))
  ·rw[Be b h1] at ai;rw[Bd b6 jh] at ah;have kz:(M.aG b).live=aqW:=by cases hm:M.aG b<;>simp[hm,a6.hM,a6.live] at*
   exact absurd kU.symm (TD b6 b bx e jh gk h1 J kz (.inr ⟨ai,ah⟩))
  ·rw[Be b h1] at ai;rw[Be b6 jh] at ah;exact h.inj b b6 e bx J gk ai ah kU
end Go.aS
end
section
namespace Go.aS
structure Ctx (P:aq1) (C:FuncId->Array aqX->Mem->aqX->Mem->Prop) (ops:Array Oper) (N:Nat) (bc:Nat->Nat->aqX) (ms:Nat->Mem) (vs:Nat->aqX) (cv:Nat->Nat) (eo:bo) (de:World):Prop where
 T:jK P C ops.toList (arM ops) 0 ops.toList bc ms vs cv
 ok:uB ops=aqW
 F2:∀o∈ops.toList,∀x∈o.op.operands,kE x=aqW
 dst:∀o∈ops.toList,∀d,o.dst=aqV d->d<N
 keeps:pk C
 sound:zE P C
 dj:Rel P eo (ms 0) de
 Al:WF (ms 0)
 gE:∀t,low (ms 0).next (bc 0 t)
structure gg (P:aq1) (ops:Array Oper) (N:Nat) (bc:Nat->Nat->aqX) (ms:Nat->Mem) (vs:Nat->aqX) (cv:Nat->Nat) (eo:bo) (de:World) (cZ:Array Bool) (a:Act) (w:World) (s:Nat) (M:Mem) (j:bo):Prop where
 size:cZ.size=ops.size
 closed:Hf ops (fun i=>cZ.getD i aqZ=aqW)
 sle:s<=ops.size
 last:s=0\/cv (s - 1)=4
 gN:∀i,i<ops.size->cv i=4->(cZ.getD i aqZ=aqW↔i<s)
 rel:Rel P j M w
 Bc:M.next=(ms ops.size).next
 agree:∀b,b<(ms s).next->M.aG b=(ms s).aG b
 EO:∀b e,j b=aqV e->b<(ms s).next\/∃i,s<=i/\i<ops.size/\cZ.getD i aqZ=aqW/\cv i=3/\b=(ms i).next
 xA:∀i,i<ops.size->cv i=3->cZ.getD i aqZ=aqZ->j (ms i).next=aqY
 EU:∀i,s<=i->i<ops.size->cZ.getD i aqZ=aqW->cv i=3->∀gG,ms (i+1)=(ms i).push gG->M.aG (ms i).next=gG
 defers:a.defers=[]
 tmps:a.tmps.size=N
 cur:∀t,(∃i o,ops[i]? =aqV o/\cZ.getD i aqZ=aqW/\o.dst=aqV t/\(∀x p,i<x->ops[x]? =aqV p->cZ.getD x aqZ=aqW->p.dst≠aqV t)/\cb j (vs i) (a.tmps.getD t undef))\/
  ((∀x p,ops[x]? =aqV p->cZ.getD x aqZ=aqW->p.dst≠aqV t)/\cb j (bc 0 t) (a.tmps.getD t undef))
 ed:vg eo (ms 0) de w
 ext:∀b,b<(ms 0).next->j b=eo b
 fresh:∀b e,j b=aqV e->(ms 0).next<=b->de.heap.size<=e.aG\/∃df dt,eo df=aqV dt/\((ms 0).aG df).hM=aqW/\dt.aG=e.aG
 dh:∀b,b<(ms 0).next->(M.aG b).hM=aqW->((ms 0).aG b).hM=aqW
 alive:∀b,b<(ms 0).next->(M.aG b).live=aqW->((ms 0).aG b).live=aqW
section
variable {P:aq1} {C:FuncId->Array aqX->Mem->aqX->Mem->Prop} {ops:Array Oper} {N:Nat} {bc:Nat->Nat->aqX} {ms:Nat->Mem} {vs:Nat->aqX} {cv:Nat->Nat} {eo:bo} {de:World}
theorem Ctx.wf (X:Ctx P C ops N bc ms vs cv eo de):∀i,i<=ops.size->WF (ms i)/\(∀t,low (ms i).next (bc i t)):=fun i ae=>by
 have:=N1 X.T X.keeps X.F2 X.Al X.gE i (by simpa using ae);exact ⟨this.1,this.2.1⟩
theorem Ctx.mono (X:Ctx P C ops N bc ms vs cv eo de):∀a b,a<=b->b<=ops.size->(ms a).next<=(ms b).next:=fun a b h1 J=>by
 have:=N1 X.T X.keeps X.F2 X.Al X.gE ops.size (by simp);exact Wa this.2.2 b a h1 J
theorem Ctx.run (X:Ctx P C ops N bc ms vs cv eo de) {i:Nat} {o:Oper} (ai:ops[i]? =aqV o):PE P C ops.toList o (bc i) (ms i) (vs i) (ms (i+1)) (cv i):=by
 have:=X.T.run i o (by simpa using ai);simpa using this
theorem Ctx.new (X:Ctx P C ops N bc ms vs cv eo de) {i:Nat} (ae:i<ops.size) (hk:cv i=3):∃o gG,ops[i]? =aqV o/\h0 P (aK (bc i)) o (ms i).next gG (vs i)/\ms (i+1)=(ms i).push gG:=by
 have ai:ops[i]? =aqV ops[i]:=by simp[ae]
 rcases X.run ai with ⟨iV,_⟩|⟨iV,_⟩|⟨iV,_⟩|⟨_,_,gG,ap,hm⟩|⟨iV,_⟩
 ·omega
 ·omega
 ·omega
 ·exact ⟨_,gG,ai,ap,hm⟩
 ·omega
theorem Ctx.Cl (X:Ctx P C ops N bc ms vs cv eo de) {i:Nat} (ae:i<ops.size) (hk:cv i=3):(ms i).next<(ms (i+1)).next:=by
 obtain ⟨o,gG,_,_,hm⟩:=X.new ae hk;rw[hm];simp[Mem.push]
theorem NO {af:aq3->aqX} {o:Oper} {m m':Mem} {v:aqX} (h:gF P C af o m v m'):iO o.op=aqW:=by
 cases h with
 |call f args v m' h bW=>obtain ⟨x,as,ts,first,captured,h,_⟩:=h;simp[h,iO]
 |mapUpdate gy x iu iE u kt vt b L bS vc E E' fj h=>rcases h with h|h<;>simp[h,iO]
 |_=>rename_i h _ _ _ _ _;first|simp[*,iO]|skip
 all_goals simp[*,iO]
theorem Ctx.U2 (X:Ctx P C ops N bc ms vs cv eo de) {i:Nat} {o:Oper} (ai:ops[i]? =aqV o) (hk:cv i=4):iO o.op=aqW:=by
 rcases X.run ai with ⟨iV,_⟩|⟨iV,_⟩|⟨iV,_⟩|⟨iV,_⟩|⟨_,_,ap⟩
 ·omega
 ·omega
 ·omega
 ·omega
 ·exact NO ap
variable {cZ:Array Bool} {a:Act} {w:World} {s:Nat} {M:Mem} {j:bo}
theorem gg.JF (X:Ctx P C ops N bc ms vs cv eo de) (D:gg P ops N bc ms vs cv eo de cZ a w s M j) {z:Nat} (bE:s<=z) (aF:z<=ops.size) (b8:∀e,s<=e->e<z->cv e≠4):
  ∀b e,j b=aqV e->b<(ms z).next->M.aG b=(ms z).aG b:=by
 obtain ⟨g1,g2,g3⟩:=Gj X.T z bE (by simpa using aF) b8;intro b e aa aN;rcases arQ b (ms s).next with h|h
 ·rw[D.agree b h,g1 b h]
 ·rcases D.EO b e aa with cq|⟨i,h1,J,aj,aM,rfl⟩
  ·omega
  ·have ab6:i<z:=by
    rcases arQ i z with h|h
    ·exact h
    ·have:=X.mono z i h (by omega);omega
   obtain ⟨o,gG,ai,_,hm⟩:=X.new J aM;rw[D.EU i h1 J aj aM gG hm,g2 i h1 ab6 aM o gG (by simpa using ai) hm]
theorem gg.nA (X:Ctx P C ops N bc ms vs cv eo de) (D:gg P ops N bc ms vs cv eo de cZ a w s M j) {z:Nat} (bE:s<=z) (aF:z<=ops.size) (b8:∀e,s<=e->e<z->cv e≠4):tv P j (ms z) w:=by
 have eu:=D.JF X bE aF b8;have ct:=(X.wf z aF).1;have an:=D.rel.nA;refine ⟨fun b e o v aa ad=> ?_,fun b e L t aa ah=> ?_,fun b e L u aa ah=> ?_⟩
 ·have aN:b<(ms z).next:=ct.lt (by intro aB;simp[Mem.load,aB] at ad);refine an.load b e o v aa ?_;unfold Mem.load at ad⊢;rw[eu b e aa aN];exact ad
 ·have aN:b<(ms z).next:=ct.lt (by rw[ah];simp);exact an.own b e L t aa (by rw[eu b e aa aN];exact ah)
 ·have aN:b<(ms z).next:=ct.lt (by rw[ah];simp);exact an.map b e L u aa (by rw[eu b e aa aN];exact ah)
structure lO (ops:Array Oper) (cZ:Array Bool) (i:Nat) (o:Oper):Prop where
 at_:ops[i]? =aqV o
 not:cZ.getD i aqZ=aqZ
 TH:∀e∈o.after,asN .any e=aqW->cZ.getD e.on aqZ=aqW
theorem lO.fi (D:gg P ops N bc ms vs cv eo de cZ a w s M j) {i:Nat} {o:Oper} (R:lO ops cZ i o) {x:Nat} (h:aS.fi (arM ops) i x=aqW):cZ.getD x aqZ=aqW:=
 Wf h D.closed fun o' iq=>by rw[R.at_] at iq;cases iq;exact R.TH
theorem gg.JG (D:gg P ops N bc ms vs cv eo de cZ a w s M j) {i x:Nat} (ae:cZ.getD i aqZ=aqW) (h:aS.fi (arM ops) i x=aqW):cZ.getD x aqZ=aqW:=
 Wf h D.closed fun o' iq=>D.closed i o' ae iq
theorem lO.ZN (X:Ctx P C ops N bc ms vs cv eo de) (D:gg P ops N bc ms vs cv eo de cZ a w s M j) {i:Nat} {o:Oper} (R:lO ops cZ i o) {t:Nat} (ao:t∈uv ops o) {x:Nat} {p:Oper} (ap:ops[x]? =aqV p) (aB:p.dst=aqV t):
  (cZ.getD x aqZ=aqW↔x<i)\/x=i:=by
 rcases asE x i with h|h|h
 ·left;refine ⟨fun _=>h,fun _=> ?_⟩;refine R.fi D (Nr X.ok R.at_ ap h ?_);simp[rF,aB,ao]
 ·exact .inr h
 ·left;refine ⟨fun ah=> ?_,fun cq=>by omega⟩;have:cZ.getD i aqZ=aqW:=D.JG ah (Nr X.ok ap R.at_ h (by simp[rF,aB,ao]));rw[R.not] at this;cases this
theorem gg.slot (X:Ctx P C ops N bc ms vs cv eo de) (D:gg P ops N bc ms vs cv eo de cZ a w s M j) {i:Nat} {o:Oper} (R:lO ops cZ i o) {t:Nat} (ao:t∈uv ops o):cb j (bc i t) (a.tmps.getD t undef):=by
 have ae:i<ops.size:=(ar9.1 R.at_).1;have hw:=fun {x:Nat} {p:Oper} (ap:ops[x]? =aqV p) (aB:p.dst=aqV t)=>R.ZN X D ao ap aB;have pV:∀{x:Nat},x=i->cZ.getD x aqZ=aqW->False:=fun U ah=>by subst U;rw[R.not] at ah;cases ah
 rcases Nv X.T t i (by simpa using ar2 ae) with ⟨x,p,h1,J,aj,aM,bq⟩|⟨h1,J⟩
 ·have gk:ops[x]? =aqV p:=by simpa using J
  have tM:cZ.getD x aqZ=aqW:=by
   rcases hw gk aj with h|h
   ·exact h.2 h1
   ·omega
  rcases D.cur t with ⟨y,q,g1,g2,g3,g4,g5⟩|⟨g1,_⟩
  ·have Cd:y<i:=by
    rcases hw g1 g3 with h|h
    ·exact h.1 g2
    ·exact (pV h g2).elim
   have:y=x:=by
    rcases asE y x with h|h|h
    ·exact absurd aj (g4 x p h gk tM)
    ·exact h
    ·exact absurd g3 (bq y q h Cd (by simpa using g1))
   subst this;rw[aM];exact g5
  ·exact absurd aj (g1 x p gk tM)
 ·rcases D.cur t with ⟨y,q,g1,g2,g3,g4,g5⟩|⟨_,g2⟩
  ·rcases hw g1 g3 with h|h
   ·exact absurd g3 (h1 y q (h.1 g2) (by simpa using g1))
   ·exact (pV h g2).elim
  ·rw[J];exact g2
theorem Pg {fr:Nat->aqX} {a:Act} {j:bo} {x:aq3} (U:kE x=aqW) (h:∀t,x= .tmp t->cb j (fr t) (a.tmps.getD t undef)):cb j (aK fr x) (a.eval x):=by
 cases x with
 |tmp t=>exact h t rfl
 |const v=>exact Gu U
 |global g=>simp[kE] at U
 |func f=>exact ⟨#[],#[],rfl,ari,ari⟩
theorem gg.aea (X:Ctx P C ops N bc ms vs cv eo de) (D:gg P ops N bc ms vs cv eo de cZ a w s M j) {i:Nat} {o:Oper} (R:lO ops cZ i o):hJ j (aK (bc i)) a.eval o:=by
 intro x U;have hm:o∈ops.toList:=by have:=as5 R.at_;simpa using this
 refine Pg (X.F2 o hm x U) fun t ao=>D.slot X R ?_;subst ao;simp only[uv,arj,List.mem_filterMap];exact .inl (.inl ⟨.tmp t,by simpa using U,rfl⟩)
theorem Wd {j:bo} {v aV:aqX} (h:cb j v aV) (aa:∀b,v≠ .bool b):∀b,aV≠ .bool b:=by
 intro b fP;subst fP;cases v with
 |bool b6=>exact aa b6 rfl
 |pointer q=>cases q with
  |none=>cases h
  |some q=>obtain ⟨e,_,_,h⟩:=h;cases h
 |slice q l c=>cases q with
  |none=>cases h
  |some q=>obtain ⟨e,_,_,h⟩:=h;rcases h with ⟨_,h⟩|⟨_,_,_,_,_,_,h⟩|⟨_,_,_,h⟩|⟨_,_,_,h⟩<;>cases h
 |map r=>cases r with
  |none=>cases h
  |some r=>obtain ⟨e,_,h⟩:=h;cases h
 |agg cs=>obtain ⟨ds,h,_⟩:=h;cases h
 |tuple cs=>obtain ⟨ds,h,_⟩:=h;cases h
 |func fn f c=>obtain ⟨ds,es,h,_⟩:=h;cases h
 |chan _=>exact h b rfl
 |iface _ _=>exact h
 |_=>cases h
theorem WW {ops:Array Oper} {N:Nat} {fr:Nat->aqX} {a:Act} {j:bo} {o:Oper} (bj:a.tmps.size=N) (qK:∀p∈ops.toList,∀d,p.dst=aqV d->d<N) (h:∀g w d,o.guard=aqV (g,w)->(ops[g]?).bind (·.dst)=aqV d->cb j (fr d) (a.tmps.getD d undef)):
  atJ o (yielded ops a.tmps)=wanted ops.toList fr o:=by
 unfold atJ wanted;cases aH:o.guard with
 |none=>rfl
 |some aaZ=>
  obtain ⟨g,want⟩:=aaZ;simp only[yielded,as4];cases aB:(ops[g]?).bind (·.dst) with
  |none=>simp
  |some d=>
   have ad:=h g want d aH aB;have aN:d<a.tmps.size:=by
    rw[bj];cases ap:ops[g]? with
    |none=>simp[ap] at aB
    |some p=>simp[ap] at aB;exact qK p (by have:=as5 ap;simpa using this) d aB
   have Fq:a.tmps[d]? =aqV (a.tmps.getD d undef):=by simp[asZ,aN]
   simp only[Option.bind_some,Fq];by_cases aa:∃b,fr d= .bool b
   ·obtain ⟨b,aa⟩:=aa;rw[aa] at ad;rw[aa,ad.bool];simp
   ·have cu:∀b,fr d≠ .bool b:=fun b h=>aa ⟨b,h⟩;have ab:=Wd ad cu;cases abT:fr d<;>first|exact absurd abT (cu _)|(cases tJ:a.tmps.getD d undef<;>first|exact absurd tJ (ab _)|rfl)
theorem gg.wanted (X:Ctx P C ops N bc ms vs cv eo de) (D:gg P ops N bc ms vs cv eo de cZ a w s M j) {i:Nat} {o:Oper} (R:lO ops cZ i o):atJ o (yielded ops a.tmps)=aS.wanted ops.toList (bc i) o:=by
 refine WW D.tmps X.dst fun g aqK d aH aB=>D.slot X R ?_;simp only[uv,arj,aH,aB];exact .inl (.inr (by simp))
end
end Go.aS
end
section
namespace Go.aS
theorem kj {A:Array Bool} {i x:Nat} (ae:i<A.size):((A.setIfInBounds i aqW).getD x aqZ=aqW)↔(x=i\/A.getD x aqZ=aqW):=by
 simp only[asZ,Array.size_setIfInBounds];by_cases U:x<A.size
 ·simp only[U,dite_true];by_cases v8:x=i
  ·subst v8;simp
  ·simp[auz,U,Ne.symm v8,v8]
 ·simp only[U,dite_false];constructor
  ·intro h;cases h
  ·rintro (h|h)
   ·omega
   ·cases h
theorem Ga {A:Array Bool} {i x:Nat} (ae:i<A.size) (h:(A.setIfInBounds i aqW).getD x aqZ=aqZ):x≠i/\A.getD x aqZ=aqZ:=by
 refine ⟨fun U=> ?_, ?_⟩
 ·have:=(kj (A:=A) (x:=x) ae).2 (.inl U);rw[h] at this;cases this
 ·cases eu:A.getD x aqZ with
  |false=>rfl
  |true=>have:=(kj (A:=A) (x:=x) ae).2 (.inr eu);rw[h] at this;cases this
theorem fT {a:Act} {d:Option Tmp} {v:aqX}:(a.put d v).tmps.size=a.tmps.size/\(a.put d v).defers=a.defers:=by
 cases d<;>simp[Act.put]
theorem GZ {a:Act} {d t:Nat} {v:aqX} (aB:d<a.tmps.size):(a.put (aqV d) v).tmps.getD t undef=if t=d then v else a.tmps.getD t undef:=by
 simp only[Act.put,asZ,Array.size_setIfInBounds];by_cases ao:t=d
 ·subst ao;simp[aB]
 ·by_cases ay:t<a.tmps.size
  ·simp[ay,auz,Ne.symm ao,ao]
  ·simp[ay,ao]
section
variable {P:aq1} {C:FuncId->Array aqX->Mem->aqX->Mem->Prop} {ops:Array Oper} {N:Nat} {bc:Nat->Nat->aqX} {ms:Nat->Mem} {vs:Nat->aqX} {cv:Nat->Nat} {eo:bo} {de:World}
variable {cZ:Array Bool} {a:Act} {w:World} {s:Nat} {M:Mem} {j:bo}
theorem lO.lt {i:Nat} {o:Oper} (R:lO ops cZ i o):i<ops.size:=(ar9.1 R.at_).1
theorem gg.JR (D:gg P ops N bc ms vs cv eo de cZ a w s M j) {i:Nat} {o:Oper} (R:lO ops cZ i o):Hf ops (fun x=>(cZ.setIfInBounds i aqW).getD x aqZ=aqW):=by
 have ae:i<cZ.size:=by rw[D.size];exact R.lt
 intro x p U ap e he aa;refine (kj ae).2 (.inr ?_);rcases (kj ae).1 U with rfl|U
 ·rw[R.at_] at ap;cases ap;exact R.TH e he aa
 ·exact D.closed x p U ap e he aa
theorem gg.JU (X:Ctx P C ops N bc ms vs cv eo de) (D:gg P ops N bc ms vs cv eo de cZ a w s M j) {i:Nat} {o:Oper} (R:lO ops cZ i o) {bX:bo} (e9:∀b e,j b=aqV e->bX b=aqV e) {aV:aqX} (ad:cb bX (vs i) aV):
  ∀t,(∃x p,ops[x]? =aqV p/\(cZ.setIfInBounds i aqW).getD x aqZ=aqW/\p.dst=aqV t/\(∀y q,x<y->ops[y]? =aqV q->(cZ.setIfInBounds i aqW).getD y aqZ=aqW->q.dst≠aqV t)/\cb bX (vs x) ((a.put o.dst aV).tmps.getD t undef))\/
  ((∀x p,ops[x]? =aqV p->(cZ.setIfInBounds i aqW).getD x aqZ=aqW->p.dst≠aqV t)/\cb bX (bc 0 t) ((a.put o.dst aV).tmps.getD t undef)):=by
 have ae:i<cZ.size:=by rw[D.size];exact R.lt
 have hL:o∈ops.toList:=by have:=as5 R.at_;simpa using this
 intro t;by_cases aB:o.dst=aqV t
 ·left;refine ⟨i,o,R.at_,(kj ae).2 (.inl rfl),aB,fun y q ag aJ ah vW=> ?_, ?_⟩
  ·rcases (kj ae).1 ah with h|h
   ·omega
   ·have ao:t∈uv ops o:=by simp[uv,aB]
    rcases R.ZN X D ao aJ vW with cq|cq
    ·have:=cq.1 h;omega
    ·omega
  ·have aN:t<a.tmps.size:=by rw[D.tmps];exact X.dst o hL t aB
   rw[aB,GZ aN,if_pos rfl];exact ad
 ·have vY:(a.put o.dst aV).tmps.getD t undef=a.tmps.getD t undef:=by
   cases jS:o.dst with
   |none=>rfl
   |some d=>
    have aN:d<a.tmps.size:=by rw[D.tmps];exact X.dst o hL d jS
    have:t≠d:=by intro h;subst h;exact aB jS
    rw[GZ aN,if_neg this]
  rw[vY];rcases D.cur t with ⟨x,p,g1,g2,g3,g4,g5⟩|⟨g1,g2⟩
  ·left;refine ⟨x,p,g1,(kj ae).2 (.inr g2),g3,fun y q ag aJ ah=> ?_,g5.mono e9⟩;rcases (kj ae).1 ah with h|h
   ·subst h;rw[R.at_] at aJ;cases aJ;exact aB
   ·exact g4 y q ag aJ h
  ·right;refine ⟨fun y q aJ ah=> ?_,g2.mono e9⟩;rcases (kj ae).1 ah with h|h
   ·subst h;rw[R.at_] at aJ;cases aJ;exact aB
   ·exact g1 y q aJ h
theorem gg.quiet (X:Ctx P C ops N bc ms vs cv eo de) (D:gg P ops N bc ms vs cv eo de cZ a w s M j) {i:Nat} {o:Oper} (R:lO ops cZ i o) (BN:cv i≠3) (L9:cv i≠4) {aV:aqX} (ad:cb j (vs i) aV):
  gg P ops N bc ms vs cv eo de (cZ.setIfInBounds i aqW) (a.put o.dst aV) w s M j:=by
 have ae:i<cZ.size:=by rw[D.size];exact R.lt
 refine ⟨by simp[D.size],D.JR R,D.sle,D.last, ?_,D.rel,D.Bc,D.agree, ?_, ?_, ?_,by rw[fT.2];exact D.defers,by rw[fT.1];exact D.tmps,D.JU X R (fun _ _ h=>h) ad,D.ed,D.ext,D.fresh,D.dh,D.alive⟩
 ·intro x U hk;rw[kj ae,<-D.gN x U hk];constructor
  ·rintro (h|h)
   ·subst h;exact absurd hk L9
   ·exact h
  ·exact .inr
 ·intro b e aa;rcases D.EO b e aa with h|⟨x,h1,J,aj,aM,bq⟩
  ·exact .inl h
  ·exact .inr ⟨x,h1,J,(kj ae).2 (.inr aj),aM,bq⟩
 ·intro x U hk ah;exact D.xA x U hk (Ga ae ah).2
 ·intro x h1 J aj aM;rcases (kj ae).1 aj with h|h
  ·subst h;exact absurd aM BN
  ·exact D.EU x h1 J h aM
theorem gg.seen (X:Ctx P C ops N bc ms vs cv eo de) (D:gg P ops N bc ms vs cv eo de cZ a w s M j) {i:Nat} {o:Oper} (R:lO ops cZ i o) (hk:cv i=3) {gG:a6} (hm:ms (i+1)=(ms i).push gG):
  ∀n,i<n->n<=s->(ms n).aG (ms i).next=gG:=by
 intro n;induction n with
 |zero=>intro h;omega
 |succ n a8=>
  intro h1 J;have ay:=D.sle;by_cases fC:n=i
  ·subst fC;rw[hm];simp[Mem.push]
  ·have B2:=a8 (by omega) (by omega);have ar:n<ops.size:=by omega
   have ai:ops[n]? =aqV ops[n]:=by simp[ar]
   have aN:(ms i).next<(ms n).next:=aru (X.Cl R.lt hk) (X.mono (i+1) n (by omega) (by omega));rcases X.run ai with ⟨_,_,_,fE⟩|⟨_,_,_,fE⟩|⟨_,_,_,fE⟩|⟨_,_,yd,_,fE⟩|⟨rS,_,ap⟩
   ·rw[fE];exact B2
   ·rw[fE];exact B2
   ·rw[fE];exact B2
   ·rw[fE];simp only[Mem.push];rw[if_neg (by omega)];exact B2
   ·have Ut:cZ.getD n aqZ=aqW:=(D.gN n ar rS).2 (by omega);have fY:fi (arM ops) n i=aqZ:=by
     cases eu:fi (arM ops) n i with
     |false=>rfl
     |true=>have:=D.JG Ut eu;rw[R.not] at this;cases this
    have:=X.T.news i n (by simpa using R.lt) (by simpa using hk) (by simpa using ar) (by simpa using rS) (by omega) (by simpa using fY);simp only[arh] at this;rw[this];exact B2
theorem gg.aaP (X:Ctx P C ops N bc ms vs cv eo de) (D:gg P ops N bc ms vs cv eo de cZ a w s M j) {i:Nat} {o:Oper} (R:lO ops cZ i o) (hk:cv i=3) {gG:a6} (hm:ms (i+1)=(ms i).push gG)
  {w':World} {e:iR} {ob:Obj} (vo:AQ P j w w' gG e ob) {aV:aqX} (ad:cb (j.up (ms i).next e) (vs i) aV):
  gg P ops N bc ms vs cv eo de (cZ.setIfInBounds i aqW) (a.put o.dst aV) w' s (M.put (ms i).next gG) (j.up (ms i).next e):=by
 have ae:i<cZ.size:=by rw[D.size];exact R.lt
 have Uj:=D.xA i R.lt hk R.not;have hle:=bo.xB (e:=e) Uj;have aN:=X.Cl R.lt hk;have Fl:(ms i).next<M.next:=by rw[D.Bc];exact aru aN (X.mono (i+1) ops.size R.lt (aq9 _))
 have aI:(ms 0).next<=(ms i).next:=X.mono 0 i (asd _) (ar2 R.lt);have e9:∀b x,j.up (ms i).next e b=aqV x->b≠(ms i).next->j b=aqV x:=fun b x aa b8=>by simpa[bo.up,b8] using aa
 have hblk:∀b,b≠(ms i).next->(M.put (ms i).next gG).aG b=M.aG b:=fun b aa=>by simp[Mem.put,aa]
 have distinct:∀x,x<ops.size->cv x=3->x≠i->(ms x).next≠(ms i).next:=by
  intro x U jx b8 he;rcases arQ x i with h|h
  ·have:=X.Cl U jx;have:=X.mono (x+1) i (by omega) (ar2 R.lt);omega
  ·have:=X.mono (i+1) x (by omega) (ar2 U);omega
 refine ⟨by simp[D.size],D.JR R,D.sle,D.last, ?_,D.rel.place Uj Fl vo,D.Bc, ?_, ?_, ?_, ?_,by rw[fT.2];exact D.defers,by rw[fT.1];exact D.tmps,D.JU X R hle ad, ?_, ?_, ?_, ?_, ?_⟩
 ·intro x U jx;rw[kj ae,<-D.gN x U jx];constructor
  ·rintro (h|h)
   ·subst h;omega
   ·exact h
  ·exact .inr
 ·intro b aa;by_cases nW:b=(ms i).next
  ·subst nW;have Fs:i<s:=by
    rcases arQ i s with h|h
    ·exact h
    ·have:=X.mono s i h (ar2 R.lt);omega
   rw[D.seen X R hk hm s Fs (aq9 _)];simp[Mem.put]
  ·rw[hblk b nW];exact D.agree b aa
 ·intro b x aa;by_cases nW:b=(ms i).next
  ·subst nW;rcases arQ (ms i).next (ms s).next with h|h
   ·exact .inl h
   ·right;refine ⟨i, ?_,R.lt,(kj ae).2 (.inl rfl),hk,rfl⟩;rcases arQ i s with cq|cq
    ·have:=X.mono (i+1) s cq D.sle;omega
    ·exact cq
  ·rcases D.EO b x (e9 b x aa nW) with h|⟨y,h1,J,aj,aM,bq⟩
   ·exact .inl h
   ·exact .inr ⟨y,h1,J,(kj ae).2 (.inr aj),aM,bq⟩
 ·intro x U jx ah;obtain ⟨h1,J⟩:=Ga ae ah;have:=distinct x U jx h1;simp only[bo.up,this,if_false];exact D.xA x U jx J
 ·intro x h1 J aj aM yd gC;by_cases v8:x=i
  ·subst v8;have abu:yd=gG:=by
    have aX:(ms (x+1)).aG (ms x).next=yd:=by rw[gC];simp[Mem.push]
    have e2:(ms (x+1)).aG (ms x).next=gG:=by rw[hm];simp[Mem.push]
    rw[<-aX,e2]
   rw[abu];simp[Mem.put]
  ·rw[hblk _ (distinct x J aM v8)];rcases (kj ae).1 aj with h|h
   ·exact absurd h v8
   ·exact D.EU x h1 J h aM yd gC
 ·have hold:∀c,c<w.heap.size->w'.heap[c]? =w.heap[c]? :=fun c ab=>by rw[vo.heap,at0,if_neg (by omega)]
  exact ⟨vo.os.trans D.ed.os,vo.tape.trans D.ed.tape,vo.output.trans D.ed.output,by rw[vo.heap];simp;have:=D.ed.size;omega,fun c ab ax=>by
   rw[hold c (aru ab D.ed.size)];exact D.ed.block c ab ax⟩
 ·intro b aa;simp only[bo.up,show b≠(ms i).next by omega,if_false];exact D.ext b aa
 ·intro b x aa e8;by_cases nW:b=(ms i).next
  ·subst nW;have U:x=e:=by simpa[bo.up] using aa.symm
   subst U;exact .inl (by rw[vo.aG];exact D.ed.size)
  ·exact D.fresh b x (e9 b x aa nW) e8
 ·intro b aa ai;rw[hblk b (by omega)] at ai;exact D.dh b aa ai
 ·intro b aa ai;rw[hblk b (by omega)] at ai;exact D.alive b aa ai
theorem gg.e7 (X:Ctx P C ops N bc ms vs cv eo de) (D:gg P ops N bc ms vs cv eo de cZ a w s M j) {i:Nat} {o:Oper} (R:lO ops cZ i o) (hk:cv i=4):
  s<=i/\(∀e,s<=e->e<i->cv e≠4)/\Rel P (j.below (ms i).next) (ms i) w/\
  ∀{w':World} {gu:bo} {aV:aqX},Post P (j.below (ms i).next) (ms i) w gu (ms (i+1)) w'->cb gu (vs i) aV->
   gg P ops N bc ms vs cv eo de (cZ.setIfInBounds i aqW) (a.put o.dst aV) w' (i+1) ((ms (i+1)).join M) (gu.join (ms (i+1)).next j):=by
 have ae:i<cZ.size:=by rw[D.size];exact R.lt
 have n3:s<=i:=by
  rcases arQ i s with h|h
  ·have:=(D.gN i R.lt hk).2 h;rw[R.not] at this;cases this
  ·exact h
 have BZ:∀e,e<i->cv e=4->cZ.getD e aqZ=aqW:=by
  intro e he gB;have jT:e<ops.size:=Nat.lt_trans he R.lt;have UE:ops[e]? =aqV ops[e]:=by simp[jT]
  refine R.fi D (Nr X.ok R.at_ UE he ?_);simp[rF,X.U2 UE gB,X.U2 R.at_ hk]
 have b8:∀e,s<=e->e<i->cv e≠4:=by intro e h1 J gB;have:=(D.gN e (Nat.lt_trans J R.lt) gB).1 (BZ e J gB);omega
 have eu:=D.JF X n3 (ar2 R.lt) b8;have ct:=(X.wf i (ar2 R.lt)).1;refine ⟨n3,b8,D.rel.below ct eu, ?_⟩;intro w' gu aV p ad;have Mh:=p.next;have Ud:∀b e,j b=aqV e->b<(ms i).next\/((ms (i+1)).next<=b/\∃x,i+1<=x/\x<ops.size/\cZ.getD x aqZ=aqW/\cv x=3/\b=(ms x).next):=by
  intro b e aa;rcases D.EO b e aa with h|⟨x,h1,J,aj,aM,bq⟩
  ·exact .inl (aru h (X.mono s i n3 (ar2 R.lt)))
  ·subst bq;rcases asE x i with h|h|h
   ·exact .inl (aru (X.Cl J aM) (X.mono (x+1) i h (ar2 R.lt)))
   ·subst h;omega
   ·exact .inr ⟨X.mono (i+1) x h (ar2 J),x,h,J,aj,aM,rfl⟩
 have Fl:(ms (i+1)).next<=M.next:=by rw[D.Bc];exact X.mono (i+1) ops.size R.lt (aq9 _)
 obtain ⟨n2,e9,adj⟩:=D.rel.join eu p (fun b e aa=>by rcases Ud b e aa with h|h;exact .inl h;exact .inr h.1) Fl;have apX:(ms 0).next<=(ms i).next:=X.mono 0 i (asd _) (ar2 R.lt);have MO:∀b,b<(ms i).next->gu b=j b:=fun b aa=>by rw[p.ext b aa];simp[bo.below,aa]
 have TB:∀b e,j b=aqV e->b<(ms i).next->M.aG b=(ms i).aG b:=eu;refine ⟨by simp[D.size],D.JR R,R.lt, .inr (by simpa using hk), ?_,n2,D.Bc, ?_, ?_, ?_, ?_,by rw[fT.2];exact D.defers,by rw[fT.1];exact D.tmps,D.JU X R e9 (ad.mono adj), ?_, ?_, ?_, ?_, ?_⟩
 ·intro x U jx;rw[kj ae,D.gN x U jx];constructor
  ·rintro (h|h)<;>omega
  ·intro h;rcases arQ x i with cq|cq
   ·exact .inr ((D.gN x U jx).1 (BZ x cq jx))
   ·exact .inl (by omega)
 ·intro b aa;simp[Mem.join,aa]
 ·intro b e aa;unfold bo.join at aa;split at aa
  ·exact .inl ‹_›
  ·rcases Ud b e aa with h|⟨h1,x,J,aj,aM,bq,dv⟩
   ·omega
   ·exact .inr ⟨x,J,aj,(kj ae).2 (.inr aM),bq,dv⟩
 ·intro x U jx ah;obtain ⟨h1,J⟩:=Ga ae ah;have Up:=D.xA x U jx J;rcases arQ x i with h|h
  ·have FK:(ms x).next<(ms i).next:=aru (X.Cl U jx) (X.mono (x+1) i h (ar2 R.lt));simp only[bo.join,show (ms x).next<(ms (i+1)).next by omega,if_true];rw[MO _ FK];exact Up
  ·have:(ms (i+1)).next<=(ms x).next:=X.mono (i+1) x (by omega) (ar2 U);simp only[bo.join,show ¬(ms x).next<(ms (i+1)).next by omega,if_false];exact Up
 ·intro x h1 J aj aM gG hm;have:(ms (i+1)).next<=(ms x).next:=X.mono (i+1) x h1 (ar2 J);simp only[Mem.join,show ¬(ms x).next<(ms (i+1)).next by omega,if_false];rcases (kj ae).1 aj with h|h
  ·omega
  ·exact D.EU x (by omega) J h aM gG hm
 ·refine ⟨p.ed.os.trans D.ed.os,p.ed.tape.trans D.ed.tape,p.ed.output.trans D.ed.output,arq D.ed.size p.ed.size,fun c ab ax=> ?_⟩;rw[p.ed.block c (aru ab D.ed.size) ?_]
  ·exact D.ed.block c ab ax
  ·intro b e aa ai he;obtain ⟨g1,g2⟩:=pd aa;rcases arQ b (ms 0).next with h|h
   ·exact ax b e (by rw[<-D.ext b h];exact g2) (D.dh b h (by rw[TB b e g2 g1];exact ai)) he
   ·rcases D.fresh b e g2 h with aP|⟨df,dt,bs,bC,cQ⟩
    ·omega
    ·exact ax df dt bs bC (cQ.trans he)
 ·intro b aa;simp only[bo.join,show b<(ms (i+1)).next by omega,if_true];rw[MO b (by omega)];exact D.ext b aa
 ·intro b e aa e8;unfold bo.join at aa;split at aa
  ·rcases arQ b (ms i).next with h|h
   ·exact D.fresh b e (by rw[<-MO b h];exact aa) e8
   ·rcases p.fresh b e aa h with aP|⟨df,dt,bs,bC,cQ⟩
    ·exact .inl (arq D.ed.size aP)
    ·obtain ⟨g1,g2⟩:=pd bs;rcases arQ df (ms 0).next with cq|cq
     ·exact .inr ⟨df,dt,by rw[<-D.ext df cq];exact g2,D.dh df cq (by rw[TB df dt g2 g1];exact bC),cQ⟩
     ·rw[<-cQ];exact D.fresh df dt g2 cq
  ·exact D.fresh b e aa e8
 ·intro b aa ai;have nW:b<(ms (i+1)).next:=by omega
  simp only[Mem.join,nW,if_true] at ai;have iq:=p.dh b (by omega) ai;have aH:=(Gj X.T i n3 (by simpa using ar2 R.lt) b8).1;have tI:b<(ms s).next:=aru aa (X.mono 0 s (asd _) D.sle);exact D.dh b aa (by rw[D.agree b tI,<-aH b tI];exact iq)
 ·intro b aa ai;have nW:b<(ms (i+1)).next:=by omega
  simp only[Mem.join,nW,if_true] at ai;have iq:=p.alive b (by omega) ai;have aH:=(Gj X.T i n3 (by simpa using ar2 R.lt) b8).1;have tI:b<(ms s).next:=aru aa (X.mono 0 s (asd _) D.sle);exact D.alive b aa (by rw[D.agree b tI,<-aH b tI];exact iq)
end
end Go.aS
end
section
namespace Go.aS
section
variable {P:aq1} {C:FuncId->Array aqX->Mem->aqX->Mem->Prop} {ops:Array Oper} {N:Nat} {bc:Nat->Nat->aqX} {ms:Nat->Mem} {vs:Nat->aqX} {cv:Nat->Nat} {eo:bo} {de:World}
variable {cZ:Array Bool} {a:Act} {w:World} {s:Nat} {M:Mem} {j:bo}
theorem agb {i:Nat} (h:i∈atB .any ops cZ):∃o,i<ops.size/\ops[i]? =aqV o/\cZ.getD i aqW=aqZ/\∀e∈o.after,asN .any e=aqW->cZ.getD e.on aqZ=aqW:=by
 simp only[atB,atC,asb,ara,ar8] at h;obtain ⟨h1,J,aj⟩:=h;have ai:ops[i]? =aqV ops[i]:=by simp[h1]
 rw[ai] at aj;simp only[asz,asm,Array.all_eq_true'] at aj;refine ⟨_,h1,ai,J,fun e he aa=> ?_⟩;have:=aj e he;simpa[aa] using this
theorem Ni {A:Array Bool} {i:Nat} (ae:i<A.size):A.getD i aqW=A.getD i aqZ:=by simp[asZ,ae]
def left (n:Nat) (cZ:Array Bool):Nat:=((arC n).filter fun i=> !cZ.getD i aqZ).length
theorem filter_lt {au:Type} {p q:au->Bool}:∀(l:List au) (x:au),x∈l->(∀y,p y=aqW->q y=aqW)->q x=aqW->p x=aqZ->(l.filter p).length<(l.filter q).length
 |[],x,U,_,_,_=>by simp at U
 |y::l,x,U,o2,UM,UJ=>by
  have hle:(l.filter p).length<=(l.filter q).length:=by
   clear U;induction l with
   |nil=>simp
   |cons z l a8=>
    simp only[asO];by_cases aF:p z=aqW
    ·simp only[aF,o2 z aF,if_true,arw];omega
    ·by_cases aJ:q z=aqW
     ·simp only[aF,aJ,if_true,arw];simp;omega
     ·simp[aF,aJ];exact a8
  rcases arb.1 U with rfl|U
  ·simp only[asO,UM,UJ,if_true];simp;omega
  ·have a8:=filter_lt l x U o2 UM UJ;simp only[asO];by_cases aF:p y=aqW
   ·simp only[aF,o2 y aF,if_true,arw];omega
   ·by_cases aJ:q y=aqW
    ·simp only[aF,aJ,if_true,arw];simp;omega
    ·simp[aF,aJ];exact a8
theorem ae2 {n:Nat} (h:left n cZ=0):∀i,i<n->cZ.getD i aqZ=aqW:=by
 intro i ae;cases ah:cZ.getD i aqZ with
 |true=>rfl
 |false=>have:i∈(arC n).filter fun i=> !cZ.getD i aqZ:=atC.2 ⟨asb.2 ae,by rw[ah];rfl⟩;rw[asw h] at this;simp at this
theorem gg.all (X:Ctx P C ops N bc ms vs cv eo de) (D:gg P ops N bc ms vs cv eo de cZ a w s M j) (h:atB .any ops cZ=[]):∀i,i<ops.size->cZ.getD i aqZ=aqW:=by
 intro i;induction i using Nat.strongRecOn with
 |_ i a8=>
  intro ae;cases ah:cZ.getD i aqZ with
  |true=>rfl
  |false=>
   have ai:ops[i]? =aqV ops[i]:=by simp[ae]
   have:i∈atB .any ops cZ:=by
    simp only[atB,atC,asb,ara,ar8];refine ⟨ae,by rw[Ni (by rw[D.size];exact ae)];exact ah, ?_⟩;rw[ai];simp only[asz,asm,Array.all_eq_true'];intro e he;cases aa:asN .any e with
    |false=>simp
    |true=>have n1:=aff X.ok ai he aa;simp[a8 e.on n1 (by omega)]
   rw[h] at this;simp at this
theorem gg.end (X:Ctx P C ops N bc ms vs cv eo de) (D:gg P ops N bc ms vs cv eo de cZ a w s M j) (h:∀i,i<ops.size->cZ.getD i aqZ=aqW):
  Post P eo (ms 0) de (j.below (ms ops.size).next) (ms ops.size) w/\(∀t,cb (j.below (ms ops.size).next) (bc ops.size t) (a.tmps.getD t undef))/\a.defers=[]/\a.tmps.size=N:=by
 have b8:∀e,s<=e->e<ops.size->cv e≠4:=fun e h1 J hk=>by have:=(D.gN e J hk).1 (h e J);omega
 have eu:=D.JF X D.sle (aq9 _) b8;obtain ⟨ct,cC⟩:=X.wf ops.size (aq9 _);have aI:(ms 0).next<=(ms ops.size).next:=X.mono 0 _ (asd _) (aq9 _);have aH:=(Gj X.T ops.size D.sle (by simp) b8).1;have tI:∀b,b<(ms 0).next->(ms ops.size).aG b=M.aG b:=fun b aa=>by have cu:=aru aa (X.mono 0 s (asd _) D.sle);rw[aH b cu,D.agree b cu]
 refine ⟨⟨D.rel.below ct eu,D.ed,aI, ?_, ?_, ?_, ?_⟩, ?_,D.defers,D.tmps⟩
 ·intro b aa;simp only[bo.below,show b<(ms ops.size).next by omega,if_true];exact D.ext b aa
 ·intro b e aa e8;exact D.fresh b e (pd aa).2 e8
 ·intro b aa ai;exact D.dh b aa (by rw[<-tI b aa];exact ai)
 ·intro b aa ai;exact D.alive b aa (by rw[<-tI b aa];exact ai)
 ·intro t;refine wE.2.2 ?_ (cC t);rcases Nv X.T t ops.size (by simp) with ⟨x,p,h1,J,aj,aM,bq⟩|⟨h1,J⟩
  ·have gk:ops[x]? =aqV p:=by simpa using J
   rcases D.cur t with ⟨y,q,g1,g2,g3,g4,g5⟩|⟨g1,_⟩
   ·have ag:=(ar9.1 g1).1;have:y=x:=by
     rcases asE y x with ax|ax|ax
     ·exact absurd aj (g4 x p ax gk (h x h1))
     ·exact ax
     ·exact absurd g3 (bq y q ax ag (by simpa using g1))
    subst this;rw[aM];exact g5
   ·exact absurd aj (g1 x p gk (h x h1))
  ·rcases D.cur t with ⟨y,q,g1,g2,g3,g4,g5⟩|⟨_,g2⟩
   ·exact absurd g3 (h1 y q (ar9.1 g1).1 (by simpa using g1))
   ·rw[J];exact g2
theorem gg.go (X:Ctx P C ops N bc ms vs cv eo de) {Q:Exit->Act->World->Prop} (fc:∀a w bX,Post P eo (ms 0) de bX (ms ops.size) w->(∀t,cb bX (bc ops.size t) (a.tmps.getD t undef))->a.defers=[]->a.tmps.size=N->Q .normal a w):
  ∀(mZ:Nat) (cZ:Array Bool) (a:Act) (w:World) (s:Nat) (M:Mem) (j:bo),gg P ops N bc ms vs cv eo de cZ a w s M j->left ops.size cZ<=mZ->wpAny P .any ops Q mZ cZ a w:=by
 intro mZ;induction mZ with
 |zero=>intro cZ a w s M j D ah;have jP:=ae2 (n:=ops.size) (by omega:left ops.size cZ=0);obtain ⟨h1,J,aj,aM⟩:=D.end X jP;refine ⟨?_,fc _ _ _ h1 J aj aM⟩;simp only[atB,List.filter_eq_nil_iff,asb];intro i ae;have:=jP i ae;rw[Ni (by rw[D.size];exact ae),this];simp
 |succ mZ a8=>
  intro cZ a w s M j D ah;refine ⟨fun an=> ?_,fun i ae=> ?_⟩
  ·obtain ⟨h1,J,aj,aM⟩:=D.end X (D.all X an);exact fc _ _ _ h1 J aj aM
  ·obtain ⟨o,aN,ai,pT,abN⟩:=agb ae;have vP:i<cZ.size:=by rw[D.size];exact aN
   have R:lO ops cZ i o:=⟨ai,by rw[<-Ni vP];exact pT,abN⟩
   have Bz:left ops.size (cZ.setIfInBounds i aqW)<=mZ:=by
    have:left ops.size (cZ.setIfInBounds i aqW)<left ops.size cZ:=by refine filter_lt _ i (by simpa using aN) (fun y ag=> ?_) (by rw[R.not];rfl) (by rw[(kj vP).2 (.inl rfl)];rfl);simp only[ar8] at ag⊢;exact (Ga vP ag).2
    omega
   have tV:=D.wanted X R;have BY:=D.aea X R;unfold wpOp;rw[ai];simp only[];rcases X.run ai with ⟨hk,hw,ad,_⟩|⟨hk,hw,ap,_⟩|⟨hk,hw,ap,_⟩|⟨hk,hw,gG,ap,hm⟩|⟨hk,hw,ap⟩
   ·rw[tV,hw,if_neg (by simp)];exact a8 _ _ _ s M j (D.quiet X R (by omega) (by omega) (by rw[ad];exact ⟨#[],rfl,ari⟩)) Bz
   ·rw[tV,hw,if_pos rfl];left;obtain ⟨aV,an,fP⟩:=VS ap BY w;unfold asY;rw[an];exact a8 _ _ _ s M j (D.quiet X R (by omega) (by omega) fP) Bz
   ·rw[tV,hw,if_pos rfl];left;have acY:∃z,eT P (aK (bc i)) o (ms z) (vs i)/\tv P j (ms z) w:=by
     rcases arQ i s with Fs|Fs
     ·refine ⟨s, ?_,D.nA X (aq9 _) D.sle (fun e h1 J=>by omega)⟩;rcases D.last with aI|qN
      ·omega
      ·have ac0:s - 1+1=s:=by omega
       have kX:=D.sle;have b8:i≠s - 1:=by intro h;rw[<-h] at qN;omega
       have ack:cZ.getD (s - 1) aqZ=aqW:=(D.gN (s - 1) (by omega) qN).2 (by omega);have fY:fi (arM ops) (s - 1) i=aqZ:=by
        cases eu:fi (arM ops) (s - 1) i with
        |false=>rfl
        |true=>have:=D.JG ack eu;rw[R.not] at this;cases this
       have:=X.T.after i (s - 1) o (by simpa using ai) (by simpa using hk) (by simp;omega) (by simpa using qN) (by omega) (by simpa using fY);simp only[arh,ac0] at this;exact this
     ·by_cases hex:∃e,s<=e/\e<i/\cv e=4
      ·
       have oZ:∃z,s<=z/\z<i/\cv z=4/\∀e,s<=e->e<z->cv e≠4:=by
        obtain ⟨e,h1,J,aj⟩:=hex;clear tV BY;induction e using Nat.strongRecOn with
        |_ e adJ=>
         by_cases hm:∃bx,s<=bx/\bx<e/\cv bx=4
         ·obtain ⟨bx,g1,g2,g3⟩:=hm;exact adJ bx g2 g1 (by omega) g3
         ·exact ⟨e,h1,J,aj,fun bx g1 g2 g3=>hm ⟨bx,g1,g2,g3⟩⟩
       obtain ⟨z,h1,J,aj,aM⟩:=oZ;refine ⟨z, ?_,D.nA X h1 (by omega) aM⟩;have fY:fi (arM ops) i z=aqZ:=by
        cases eu:fi (arM ops) i z with
        |false=>rfl
        |true=>have:=(D.gN z (by omega) aj).1 (R.fi D eu);omega
       have:=X.T.ahead i z o (by simpa using ai) (by simpa using hk) (by simp;omega) (by simpa using aj) J (by simpa using fY);simpa using this
      ·exact ⟨i,ap,D.nA X Fs (ar2 aN) (fun e h1 J aj=>hex ⟨e,h1,J,aj⟩)⟩
    obtain ⟨z,dG,dw⟩:=acY;obtain ⟨aV,an,fP⟩:=VT dG BY dw;unfold asY;rw[an];exact a8 _ _ _ s M j (D.quiet X R (by omega) (by omega) fP) Bz
   ·rw[tV,hw,if_pos rfl];left;obtain ⟨aV,w',e,ob,an,ar,fP⟩:=XR ap BY w;unfold asY;rw[an];exact a8 _ _ _ s _ _ (D.aaP X R hk hm ar (fP _ (by simp[bo.up]))) Bz
   ·rw[tV,hw,if_pos rfl];left;obtain ⟨h1,J,aj,aM⟩:=D.e7 X R hk;obtain ⟨abr,abf⟩:=X.wf i (ar2 aN);have hL:o∈ops.toList:=by have:=as5 ai;simpa using this
    have acH:hJ (j.below (ms i).next) (aK (bc i)) a.eval o:=fun x U=>wE.2.2 (BY x U) (Yv abf (X.F2 o hL x U));exact Yt ap acH aj abr X.sound fun aV w' gu vV fP=>a8 _ _ _ _ _ _ (aM vV fP) Bz
end
theorem ae6 {P:aq1} {C:FuncId->Array aqX->Mem->aqX->Mem->Prop} {ops:Array Oper} {id:Nat} {fr fr':Nat->aqX} {m m':Mem} {j:bo} {a:Act} {w:World} {Q:Exit->Act->World->Prop}
  (jV:P.follows .mixedOrders=aqW) (h:gw P C ops.toList (arM ops) 0 ops.toList ⟨[],[],[]⟩ fr m fr' m') (dw:uB ops=aqW) (cS:∀o∈ops.toList,∀x∈o.op.operands,kE x=aqW) (qK:∀o∈ops.toList,∀d,o.dst=aqV d->d<a.tmps.size)
  (bW:pk C) (ji:zE P C) (br:Rel P j m w) (ct:WF m) (ga:∀t,cb j (fr t) (a.tmps.getD t undef)) (aB:a.defers=[])
  (fc:∀a' w' bX,Post P j m w bX m' w'->(∀t,cb bX (fr' t) (a'.tmps.getD t undef))->a'.defers=[]->a'.tmps.size=a.tmps.size->Q .normal a' w'):(Code.region id ops aqW).wp P Q a w:=by
 refine wp_region_any jV ?_;obtain ⟨bc,ms,vs,cv,T,h1,J,aj,aM,_⟩:=Y7 _ _ _ _ _ _ _ h;simp only[arh,Array.length_toList] at aj aM;have Fg:Rel P j (ms 0) {w with drawn:=w.drawn+1}:=by rw[J];exact af7 br rfl
 have aN:∀b e,j b=aqV e->b<(ms 0).next:=fun b e aa=>by rw[J];exact (br.lt b e aa).1
 have X:Ctx P C ops a.tmps.size bc ms vs cv j {w with drawn:=w.drawn+1}:=⟨T,dw,cS,qK,bW,ji,Fg,by rw[J];exact ct,fun t=>by rw[h1];exact (Hh aN).2.2 (ga t)⟩
 have lW:∀i,(asl ops.size aqZ).getD i aqZ=aqW->False:=by intro i ae;simp only[asZ,Array.size_replicate] at ae;split at ae<;>simp at ae
 have D:gg P ops a.tmps.size bc ms vs cv j {w with drawn:=w.drawn+1} (asl ops.size aqZ) a {w with drawn:=w.drawn+1} 0 {next:=(ms ops.size).next,aG:=(ms 0).aG} j:=by
  refine ⟨by simp,fun i o ae=>(lW i ae).elim,asd _, .inl rfl,fun i _ _=>⟨fun h=>(lW i h).elim,fun h=>by omega⟩, ?_,rfl,fun b _=>rfl,fun b e aa=> .inl (aN b e aa), ?_,fun i _ _ h=>(lW i h).elim,aB,rfl, ?_,vg.refl _ _ _,fun _ _=>rfl, ?_,fun _ _ h=>h,fun _ _ h=>h⟩
  ·refine ⟨fun b e aa=>⟨aru (aN b e aa) (X.mono 0 _ (asd _) (aq9 _)),(Fg.lt b e aa).2⟩,Fg.obj,Fg.inj⟩
  ·intro i ae hk ah;cases av:j (ms i).next with
   |none=>rfl
   |some e=>have:=aN _ e av;have:=X.mono 0 i (asd _) (ar2 ae);omega
  ·intro t;right;exact ⟨fun x p _ ah=>(lW x ah).elim,by rw[h1];exact ga t⟩
  ·intro b e aa e8;have:=aN b e aa;omega
 refine gg.go X (fun a' w' bX p ad jR ay=>fc a' w' bX ?_ (by rw[aj] at ad;exact ad) jR ay) _ _ _ _ _ _ _ D ?_
 ·rw[J,aM] at p;exact ⟨p.rel,⟨p.ed.os,p.ed.tape,p.ed.output,p.ed.size,p.ed.block⟩,p.next,p.ext,p.fresh,p.dh,p.alive⟩
 ·unfold left;refine arq (List.length_filter_le _ _) ?_;simp
end Go.aS
end
section
namespace Go.aS
theorem Rel.aaY {P:aq1} {j:bo} {m:Mem} {w w':World} (h:Rel P j m w) (h1:w'.os=w.os) (J:w'.tape=w.tape) (aj:w'.output=w.output) (aM:w.heap.size<=w'.heap.size) (bq:∀c,c<w.heap.size->w'.heap[c]? =w.heap[c]?):Post P j m w j m w':=
 ⟨⟨fun b e aa=>⟨(h.lt b e aa).1,aru (h.lt b e aa).2 aM⟩,fun b e aa=>by rw[bq _ (h.lt b e aa).2];exact h.obj b e aa,h.inj⟩,
  ⟨h1,J,aj,aM,fun c ab _=>bq c ab⟩,aq9 _,fun _ _=>rfl,fun b e aa ar=>absurd (h.lt b e aa).1 (atf.2 ar),fun _ _ h=>h,fun _ _ h=>h⟩
theorem WD {j:bo} {v:aqX} (h:cx v=aqW):dC j v v:=p8 h
theorem afr {P:aq1} {f:FuncId} {args:Array aqX} {m m':Mem} {v:aqX} (h:x3 P f args m v m') (ct:WF m):low m'.next v/\WF m'/\m.next<=m'.next:=by
 cases h with
 |none a c g h aq=>exact ⟨by intro x U;simp at U,ct,aq9 _⟩
 |row b off l c g L e F mS h aq ah hm cB ar ku f1 f2=>
  refine ⟨by intro x U;simp at U,⟨fun c ab=> ?_,fun c=> ?_⟩,aq9 _⟩
  ·have ab:m.next<=c:=ab;simp only[Mem.put];split
   ·rename_i dE;subst dE;have:=ct.dead c ab;rw[hm] at this;cases this
   ·exact ct.dead c ab
  ·simp only[Mem.put];split
   ·intro v ad;rcases zq _ _ _ _ ad with ad|ad
    ·have:=ct.low b;rw[hm] at this;exact this v ad
    ·exact CH (arc.1 f2 v ad)
   ·exact ct.low c
theorem WO {j:bo} {s:aqX} {g:Nat} {jM:Array aqX} (h:ba (cb j) (#[s, .func (.func g) #[] #[]]:Array aqX).toList jM.toList):∃cs,cb j s cs/\jM=#[cs, .func (.func g) #[] #[]]:=by
 obtain ⟨l⟩:=jM
 match l,h with
 |[c1,c2],⟨h1,⟨gs,ds,J,aj,aM⟩,_⟩=>
  refine ⟨c1,h1, ?_⟩;have aX:gs=#[]:=by
   obtain ⟨l⟩:=gs;cases l with
   |nil=>rfl
   |cons _ _=>exact aj.elim
  have e2:ds=#[]:=by
   obtain ⟨l⟩:=ds;cases l with
   |nil=>rfl
   |cons _ _=>exact aM.elim
  subst aX e2 J;rfl
 |[_],⟨_,h⟩=>exact h.elim
 |[],h=>exact h.elim
 |_::_::_::_,⟨_,_,h⟩=>exact h.elim
theorem afs {P:aq1} {f:FuncId} {args:Array aqX} {m m':Mem} {v:aqX} (h:x3 P f args m v m') {j:bo} {w:World} {jM:Array aqX} (br:Rel P j m w) (eu:ba (cb j) args.toList jM.toList):
  Calls P f jM w fun e w'=>∃aV bX,e= .returned aV/\Post P j m w bX m' w'/\cb bX v aV:=by
 cases h with
 |none a c g h aq=>
  subst aq;obtain ⟨cs,h1,rfl⟩:=WO eu;have U:∃p cap,cs= .slice p 0 cap:=by
   cases a with
   |none=>exact ⟨_,_,h1.lJ⟩
   |some a=>obtain ⟨q,_,_,ab⟩:=h1.slice;rcases ab with ⟨_,ab⟩|⟨_,_,_,_,_,_,ab⟩|⟨_,_,_,ab⟩|⟨_,_,_,ab⟩<;>exact ⟨_,_,ab⟩
  obtain ⟨p,cap,rfl⟩:=U;refine (h p cap w).mono ?_;rintro e w' ⟨rfl,rfl⟩;exact ⟨_,j,rfl,Post.refl br,#[],rfl,ari⟩
 |row b off l c g L e F mS h aq ah hm cB ar ku f1 f2=>
  subst aq;obtain ⟨qB,h1,rfl⟩:=WO eu;obtain ⟨q,_,av,ab⟩:=h1.slice;have U:∃cap,qB= .slice (aqV ⟨q.aG,q.dM+off,aqY⟩) l cap:=by
   rcases ab with ⟨_,ab⟩|⟨_,_,_,_,_,_,ab⟩|⟨_,fl,_⟩|⟨_,fl,_⟩
   ·exact ⟨_,ab⟩
   ·exact ⟨_,ab⟩
   ·omega
   ·omega
  obtain ⟨cap,rfl⟩:=U;have av:j b=aqV q:=av;obtain ⟨cs,bg,g1,g2,g3,g4,g5,g6⟩:=br.own b q L e av hm;have aa':∀(i:Nat) (v:aqX),F[i]? =aqV v->cs[q.dM+off+i]? =aqV v:=by intro i v ae;have aN:=(aq5.1 ae).1;have ht:=ae;rw[<-cB,arK,if_pos aN,ar6] at ht;obtain ⟨aV,bs,bC⟩:=g6 _ v ht;have hf:cx v=aqW:=arc.1 f1 v (are ae);rw[CQ hf bC] at bs;rw[arD];exact bs
  refine (h w q.aG (q.dM+off) cap cs e bg g1 aa' g2).mono ?_;rintro ex w' ⟨rfl,bs,bC,cQ,fy,np,Cf⟩;have aN:=(br.lt b q av).2;have hlen:(eU cs.toList (q.dM+off) mS).length=cs.size:=by rw[pg];simp
  have tL:(eU L off mS).length=L.length:=pg _ _ _;have ap:=br.write (L':=eU L off mS) (cs':=(eU cs.toList (q.dM+off) mS).toArray) av hm g1 (by simpa using hlen) (by rw[tL];exact g5) (fun i v ae=>by
   rw[ou _ _ _ _ (by omega)] at ae;rw[atI,ou _ _ _ _ (by rw[ku];simp;omega)];by_cases fC:off<=i/\i<off+mS.length
   ·rw[if_pos fC] at ae;rw[if_pos (by omega),show q.dM+i - (q.dM+off)=i - off by omega];exact ⟨v,ae,WD (arc.1 f2 v (are ae))⟩
   ·rw[if_neg fC] at ae;rw[if_neg (by omega)];obtain ⟨aV,bs,bC⟩:=g6 i v ae;exact ⟨aV,by simpa using bs,bC⟩)
  refine ⟨_,j,rfl,ap.trans (ap.rel.aaY bs bC cQ (by simpa[jG] using fy) fun c ab=> ?_),#[],rfl,ari⟩;have ab:c<w.heap.size:=by simpa[jG] using ab
  by_cases dE:c=q.aG
  ·subst dE;rw[Cf,NH aN]
  ·rw[np c ab dE,NM dE]
end Go.aS
end
section
namespace Go.aS
theorem jJ.put {j bX:bo} {N:Nat} {fr:Nat->aqX} {a:Act} {d:Option Tmp} {v aV:aqX} (h:jJ j N fr a) (e9:∀b e,j b=aqV e->bX b=aqV e) (aB:∀t,d=aqV t->t<N) (ad:cb bX v aV):jJ bX N (set fr d v) (a.put d aV):=by
 refine ⟨fun t=> ?_,by rw[fT.2];exact h.defers,by rw[fT.1];exact h.size⟩;cases d with
 |none=>exact (h.val t).mono e9
 |some x=>
  have U:x<a.tmps.size:=by rw[h.size];exact aB x rfl
  rw[GZ U];simp only[set];split
  ·exact ad
  ·exact (h.val t).mono e9
theorem jJ.ops {j:bo} {N:Nat} {fr:Nat->aqX} {a:Act} (h:jJ j N fr a) {o:Oper} (ai:∀x∈o.op.operands,kE x=aqW):hJ j (aK fr) a.eval o:=
 fun x U=>Pg (ai x U) fun t _=>h.val t
theorem Xi (j:bo):cb j undef undef:=⟨#[],rfl,ari⟩
theorem Gp {P:aq1} {C:FuncId->Array aqX->Mem->aqX->Mem->Prop} {ops:Array Oper} {N:Nat} {Q:Exit->Act->World->Prop} (bW:pk C) (ji:zE P C) (qK:∀o∈ops.toList,∀d,o.dst=aqV d->d<N):
  ∀(l:List Oper) (fr fr':Nat->aqX) (m m':Mem) (j:bo) (a:Act) (w:World),(∀o∈l,(∀x∈o.op.operands,kE x=aqW)/\∀d,o.dst=aqV d->d<N)->j3 P C ops.toList l fr m fr' m'->Rel P j m w->WF m->jJ j N fr a->
   (∀a' w' bX,Post P j m w bX m' w'->jJ bX N fr' a'->Q .normal a' w')->wpList P ops Q l a w
 |[],fr,fr',m,m',j,a,w,ah,h,br,ct,cB,fc=>by simp only[j3] at h;obtain ⟨rfl,rfl⟩:=h;exact fc a w j (Post.refl br) cB
 |o::l,fr,fr',m,m',j,a,w,ah,h,br,ct,cB,fc=>by
  obtain ⟨U,aB⟩:=ah o (by simp);have fk:∀o∈l,(∀x∈o.op.operands,kE x=aqW)/\∀d,o.dst=aqV d->d<N:=fun p ap=>ah p (by simp[ap]);have tV:atJ o (yielded ops a.tmps)=wanted ops.toList fr o:=WW cB.size qK fun g w d aH aB=>cB.val d;unfold wpList;rw[tV];simp only[j3] at h;by_cases hw:wanted ops.toList fr o=aqW
  ·rw[if_pos hw];rw[if_pos hw] at h;obtain ⟨v,m1,tT,B4⟩:=h;have pR:∀t,low m.next (fr t):=fun t=>(Hh fun b e aa=>(br.lt b e aa).1).2.2 (cB.val t);have dH:=wM tT ct pR bW U;have FA:=cB.ops U;have cont:∀aV w' bX,Post P j m w bX m1 w'->cb bX v aV->wpList P ops Q l (a.put o.dst aV) w':=fun aV w' bX ap ad=>
    Gp bW ji qK l _ _ _ _ bX _ _ fk B4 ap.rel dH.2.1 (cB.put (ap.up br) aB ad) fun a' nF qU mw ku=>fc a' nF qU (ap.trans mw) ku
   left;cases tT with
   |pure h=>obtain ⟨aV,an,ad⟩:=VS h FA w;unfold asY;rw[an];exact cont aV w j (Post.refl br) ad
   |read h=>obtain ⟨aV,an,ad⟩:=VT h FA br.nA;unfold asY;rw[an];exact cont aV w j (Post.refl br) ad
   |new h=>obtain ⟨aV,w',bX,an,ap,ad⟩:=afA h FA br;unfold asY;rw[an];exact cont aV w' bX ap ad
   |e7 h=>exact Yt h FA br ct ji cont
  ·rw[if_neg hw];rw[if_neg hw] at h;exact Gp bW ji qK l _ _ _ _ j _ _ fk h br ct (cB.put (fun _ _ h=>h) aB (Xi j)) fc
theorem G5 {P:aq1} {C:FuncId->Array aqX->Mem->aqX->Mem->Prop} {ops:List Oper} (bW:pk C):∀(l:List Oper) (fr fr':Nat->aqX) (m m':Mem),(∀o∈l,∀x∈o.op.operands,kE x=aqW)->j3 P C ops l fr m fr' m'->WF m->(∀t,low m.next (fr t))->
  WF m'/\(∀t,low m'.next (fr' t))/\m.next<=m'.next
 |[],fr,fr',m,m',ah,h,ct,aP=>by simp only[j3] at h;obtain ⟨rfl,rfl⟩:=h;exact ⟨ct,aP,aq9 _⟩
 |o::l,fr,fr',m,m',ah,h,ct,aP=>by
  simp only[j3] at h;have fk:∀o∈l,∀x∈o.op.operands,kE x=aqW:=fun p ap=>ah p (by simp[ap]);split at h
  ·obtain ⟨v,m1,tT,B4⟩:=h;have dH:=wM tT ct aP bW (ah o (by simp));have:=G5 bW l _ _ _ _ fk B4 dH.2.1 (C4 (fun t=>GK dH.2.2 (aP t)) dH.1);exact ⟨this.1,this.2.1,arq dH.2.2 this.2.2⟩
  ·exact G5 bW l _ _ _ _ fk h ct (C4 aP CE)
theorem Oh {P:aq1} {C:FuncId->Array aqX->Mem->aqX->Mem->Prop} {ops:List Oper} {B:Array Nat} (bW:pk C):∀(l:List Oper) (i:Nat) (A:Acc) (fr fr':Nat->aqX) (m m':Mem),(∀o∈l,∀x∈o.op.operands,kE x=aqW)->gw P C ops B i l A fr m fr' m'->WF m->(∀t,low m.next (fr t))->
  WF m'/\(∀t,low m'.next (fr' t))/\m.next<=m'.next
 |[],i,A,fr,fr',m,m',ah,h,ct,aP=>by simp only[gw] at h;obtain ⟨rfl,rfl⟩:=h;exact ⟨ct,aP,aq9 _⟩
 |o::l,i,A,fr,fr',m,m',ah,h,ct,aP=>by
  simp only[gw] at h;have fk:∀o∈l,∀x∈o.op.operands,kE x=aqW:=fun p ap=>ah p (by simp[ap]);have key:∀v m1 hl,oK P C (aK fr) o m v m1->gw P C ops B (i+1) l hl (set fr o.dst v) m1 fr' m'->WF m'/\(∀t,low m'.next (fr' t))/\m.next<=m'.next:=by intro v m1 hl tT B4;have dH:=wM tT ct aP bW (ah o (by simp));have:=Oh bW l _ _ _ _ _ _ fk B4 dH.2.1 (C4 (fun t=>GK dH.2.2 (aP t)) dH.1);exact ⟨this.1,this.2.1,arq dH.2.2 this.2.2⟩
  split at h
  ·rcases h with ⟨v,ap,aB⟩|⟨v,ap,_,aB⟩|⟨X,v,ap,aB⟩|⟨v,m1,ap,_,_,aB⟩
   ·exact key _ _ _ (.pure ap) aB
   ·exact key _ _ _ (.read ap) aB
   ·exact key _ _ _ (.new ap) aB
   ·exact key _ _ _ (.e7 ap) aB
  ·exact Oh bW l _ _ _ _ _ _ fk h ct (C4 aP CE)
theorem GP {n id:Nat} {ops:Array Oper} {d:Bool} (h:gn n (.region id ops d)=aqW):(∀o∈ops.toList,(∀x∈o.op.operands,kE x=aqW)/\∀d,o.dst=aqV d->d<n)/\(d=aqW->uB ops=aqW):=by
 simp only[gn,ara,arc,ar7,ar8] at h;refine ⟨fun o ai=>⟨fun x U=>(h.1 o ai).1 x (by simpa using U),fun t ao=> ?_⟩,fun aB=> ?_⟩
 ·have:=(h.1 o ai).2;rw[ao] at this;simpa using this
 ·rcases h.2 with h|h
  ·rw[aB] at h;cases h
  ·exact h
theorem Cy {P:aq1} {C:FuncId->Array aqX->Mem->aqX->Mem->Prop} (bW:pk C) {N:Nat}:∀(n:Nat) (c:Code) (fr fr':Nat->aqX) (m m':Mem) (e:dX),gn N c=aqW->kH P C n c fr m e fr' m'->WF m->(∀t,low m.next (fr t))->
  WF m'/\(∀t,low m'.next (fr' t))/\m.next<=m'.next:=by
 intro n;induction n with
 |zero=>intro c fr fr' m m' e _ h;exact h.elim
 |succ n a8=>
  intro c fr fr' m m' e dw h ct aP;cases c with
  |skip=>obtain ⟨_,rfl,rfl⟩:=h;exact ⟨ct,aP,aq9 _⟩
  |label l=>obtain ⟨_,rfl,rfl⟩:=h;exact ⟨ct,aP,aq9 _⟩
  |exit id=>obtain ⟨_,rfl,rfl⟩:=h;exact ⟨ct,aP,aq9 _⟩
  |ret=>obtain ⟨_,rfl,rfl⟩:=h;exact ⟨ct,aP,aq9 _⟩
  |region id ops d=>
   have an:=GP dw;cases d with
   |false=>exact G5 bW _ _ _ _ _ (fun o ai=>(an.1 o ai).1) h.2 ct aP
   |true=>exact Oh bW _ _ _ _ _ _ _ (fun o ai=>(an.1 o ai).1) h.2 ct aP
  |seq a b=>
   simp only[gn,ara] at dw;rcases h with ⟨aX,eV,m1,h1,J⟩|h
   rotate_left
   ·exact ⟨(h.low ct aP).1,(h.low ct aP).2,h.next⟩
   obtain ⟨g1,g2,g3⟩:=a8 a _ _ _ _ _ dw.1 h1 ct aP;split at J
   ·obtain ⟨bs,bC,cQ⟩:=a8 b _ _ _ _ _ dw.2 J g1 g2;exact ⟨bs,bC,arq g3 cQ⟩
   ·obtain ⟨_,rfl,rfl⟩:=J;exact ⟨g1,g2,g3⟩
  |cond c a b=>
   simp only[gn,ara] at dw;obtain ⟨t,_,h1⟩:=h;cases t
   ·exact a8 b _ _ _ _ _ dw.2 h1 ct aP
   ·exact a8 a _ _ _ _ _ dw.1.2 h1 ct aP
  |block id c=>obtain ⟨aX,h1,_⟩:=h;exact a8 c _ _ _ _ _ dw h1 ct aP
  |scope c=>exact a8 c _ _ _ _ _ dw h ct aP
  |loop c=>
   obtain ⟨aX,eV,m1,h1,J⟩:=h;obtain ⟨g1,g2,g3⟩:=a8 c _ _ _ _ _ dw h1 ct aP;split at J
   ·obtain ⟨bs,bC,cQ⟩:=a8 (.loop c) _ _ _ _ _ dw J g1 g2;exact ⟨bs,bC,arq g3 cQ⟩
   ·obtain ⟨_,rfl,rfl⟩:=J;exact ⟨g1,g2,g3⟩
  |rangeFunc f bK x y=>exact h.elim
  |goto l=>exact h.elim
  |refuse s=>exact h.elim
def Yq (P:aq1) (C:FuncId->Array aqX->Mem->aqX->Mem->Prop) (N n:Nat) (c:Code):Prop:=
 ∀(fr fr':Nat->aqX) (m m':Mem) (e:dX) (j:bo) (a:Act) (w:World) (Q:Exit->Act->World->Prop),
  gn N c=aqW->kH P C n c fr m e fr' m'->Rel P j m w->WF m->jJ j N fr a->(∀a' w' bX,Post P j m w bX m' w'->jJ bX N fr' a'->Q e.out a' w')->c.wp P Q a w
theorem jJ.low {P:aq1} {j:bo} {N:Nat} {fr:Nat->aqX} {a:Act} {m:Mem} {w:World} (cB:jJ j N fr a) (br:Rel P j m w):∀t,low m.next (fr t):=fun t=>(Hh fun b e aa=>(br.lt b e aa).1).2.2 (cB.val t)
theorem aeX {P:aq1} {C:FuncId->Array aqX->Mem->aqX->Mem->Prop} (bW:pk C) {N:Nat} {c:Code} (dw:gn N c=aqW):∀(n:Nat),(∀n',n'<n->Yq P C N n' c)->∀(fr fr':Nat->aqX) (m m':Mem) (e:dX) (j:bo) (a:Act) (w:World) (Q:Exit->Act->World->Prop),
  kH P C n (.loop c) fr m e fr' m'->Rel P j m w->WF m->jJ j N fr a->(∀a' w' bX,Post P j m w bX m' w'->jJ bX N fr' a'->Q e.out a' w')->
  ∀(b:Frame) (k:List Item) (cs:List Frame),∃bx a' w',Q bx a' w'/\Arrives P (lone (b.at a (.code c:: .inLoop c::k)) cs w) b k cs bx a' w':=by
 intro n;induction n with
 |zero=>intro _ fr fr' m m' e j a w Q h;exact h.elim
 |succ n a8=>
  intro eu fr fr' m m' e j a w Q h br ct cB fc b k cs;obtain ⟨aX,eV,m1,h1,J⟩:=h;have ah:=Cy bW n c _ _ _ _ _ dw h1 ct (cB.low br);by_cases he:aX= .normal
  ·subst he;rw[if_pos rfl] at J;have key:c.wp P (fun e a' w'=>e= .normal/\∃bx Tx nF,Q bx Tx nF/\Arrives P (lone (b.at a' (.code c:: .inLoop c::k)) cs w') b k cs bx Tx nF) a w:=
    eu n (arU n) _ _ _ _ _ j a w _ dw h1 br ct cB fun c0 cO gu ap pO=>
     ⟨rfl,a8 (fun n' ln=>eu n' (by omega)) _ _ _ _ _ gu c0 cO Q J ap.rel ah.1 pO (fun a2 fo qV o1 LA=>fc a2 fo qV (ap.trans o1) LA) b k cs⟩
   obtain ⟨bx,c0,cO,⟨rfl,e2,a2,fo,acT,abx⟩,Bx⟩:=key b (.inLoop c::k) cs;exact ⟨e2,a2,fo,acT, .of_steps (Steps.trans Bx (.one step_inLoop)) abx⟩
  ·rw[if_neg he] at J;obtain ⟨rfl,rfl,rfl⟩:=J;have key:c.wp P (fun bx a' w'=>bx≠ .normal/\Q bx a' w') a w:=
    eu n (arU n) _ _ _ _ _ j a w _ dw h1 br ct cB fun c0 cO gu ap pO=>⟨by cases e with
     |normal=>exact absurd rfl he
     |exit id=>simp[dX.out]
     |ret=>simp[dX.out],fc c0 cO gu ap pO⟩
   obtain ⟨bx,c0,cO,⟨b8,aJ⟩,Bx⟩:=key b (.inLoop c::k) cs;exact ⟨bx,c0,cO,aJ, .pass (x:= .inLoop c) rfl (fun _ _=> .inl b8) Bx⟩
theorem Nz {P:aq1} {C:FuncId->Array aqX->Mem->aqX->Mem->Prop} (jV:P.follows .mixedOrders=aqW) (bW:pk C) (ji:zE P C) {N:Nat}:∀(n:Nat) (c:Code),Yq P C N n c:=by
 intro n;induction n using Nat.strongRecOn with
 |_ n a8=>
 cases n with
 |zero=>intro c fr fr' m m' e j a w Q _ h;exact h.elim
 |succ n=>
  intro c fr fr' m m' e j a w Q dw h br ct cB fc;have pR:=cB.low br;have yX:=a8 n (arU n);cases c with
  |skip=>obtain ⟨rfl,rfl,rfl⟩:=h;exact wp_skip (fc a w j (Post.refl br) cB)
  |label l=>obtain ⟨rfl,rfl,rfl⟩:=h;exact wp_label (fc a w j (Post.refl br) cB)
  |exit id=>obtain ⟨rfl,rfl,rfl⟩:=h;exact wp_exit (fc a w j (Post.refl br) cB)
  |ret=>obtain ⟨rfl,rfl,rfl⟩:=h;exact wp_ret (fc a w j (Post.refl br) cB)
  |region id ops d=>
   have an:=GP dw;have qK:∀o∈ops.toList,∀d,o.dst=aqV d->d<N:=fun o ai=>(an.1 o ai).2;cases d with
   |false=>obtain ⟨rfl,h⟩:=h;exact wp_region_list (Gp bW ji qK _ _ _ _ _ j a w an.1 h br ct cB fc)
   |true=>obtain ⟨rfl,h⟩:=h;exact ae6 jV h (an.2 rfl) (fun o ai=>(an.1 o ai).1) (by rw[cB.size];exact qK) bW ji br ct cB.val cB.defers fun a' w' bX ap ad aB ay=>fc a' w' bX ap ⟨ad,aB,by rw[ay];exact cB.size⟩
  |seq a' b=>
   have vT:=dw;simp only[gn,ara] at dw;rcases h with ⟨aX,eV,m1,h1,J⟩|h
   rotate_left
   ·exact h.sound vT br ct cB fc
   have ah:=Cy bW n a' _ _ _ _ _ dw.1 h1 ct pR;refine wp_seq (yX a' _ _ _ _ _ j a w _ dw.1 h1 br ct cB fun c0 cO gu ap pO=> ?_);split at J
   ·rename_i he;subst he;exact yX b _ _ _ _ _ gu c0 cO Q dw.2 J ap.rel ah.1 pO fun a2 fo qV o1 LA=>fc a2 fo qV (ap.trans o1) LA
   ·rename_i he;obtain ⟨rfl,rfl,rfl⟩:=J;cases e with
    |normal=>exact absurd rfl he
    |exit id=>exact fc c0 cO gu ap pO
    |ret=>exact fc c0 cO gu ap pO
  |cond c x y=>
   simp only[gn,ara] at dw;obtain ⟨t,ao,h1⟩:=h;have ad:cb j (aK fr c) (a.eval c):=Pg dw.1.1 fun t _=>cB.val t;rw[ao] at ad;refine wp_cond ad.bool ?_;cases t
   ·exact yX y _ _ _ _ _ j a w Q dw.2 h1 br ct cB fc
   ·exact yX x _ _ _ _ _ j a w Q dw.1.2 h1 br ct cB fc
  |scope c=>refine wp_scope_straight (yX c _ _ _ _ _ j a w _ dw h br ct cB fun c0 cO gu ap pO=> ?_);have:=fc c0 cO gu ap pO;cases e<;>exact this
  |block id c=>
   obtain ⟨aX,h1,he⟩:=h;refine wp_block (yX c _ _ _ _ _ j a w _ dw h1 br ct cB fun c0 cO gu ap pO=> ?_);have:=fc c0 cO gu ap pO;rw[he] at this;cases aX with
   |normal=>simp only[dX.out] at this⊢;exact this
   |exit yW=>
    by_cases L6:yW=id
    ·subst L6;simp only[if_pos,dX.out] at this;simp only[dX.out,Exit.inBlock,if_pos];exact this
    ·simp only[dX.exit.injEq,L6,if_false,dX.out] at this;simp only[dX.out,Exit.inBlock,L6,if_false];exact this
   |ret=>simp only[dX.out] at this⊢;exact this
  |loop c=>intro b k cs;obtain ⟨bx,c0,cO,aJ,Bx⟩:=aeX bW (c:=c) dw (n+1) (fun n' ln=>a8 n' ln c) _ _ _ _ _ j a w Q h br ct cB fc b k cs;exact ⟨bx,c0,cO,aJ, .of_steps (.one step_loop) Bx⟩
  |rangeFunc f bK x y=>exact h.elim
  |goto l=>exact h.elim
  |refuse s=>exact h.elim
theorem aeM {P:aq1} {fr:Nat->aqX} {m:Mem} {j:bo} {N:Nat} {a:Act} {w:World} (br:Rel P j m w) (cB:jJ j N fr a) {r:ResultVar} {v:aqX} (h:G2 P fr m r v):
  ∃aV,(match r with| .tmp t=>(pure (a.tmps.getD t undef):Sem aqX)| .cell x t=>do loadVar t (<-asAddr (a.tmps.getD x undef))).run P w= .ok aV w/\cb j v aV:=by
 cases r with
 |tmp t=>simp only[G2] at h;subst h;exact ⟨_,rfl,cB.val t⟩
 |cell x t=>
  obtain ⟨b,off,U,d,aB,ad⟩:=h;have cS:=cB.val x;rw[U] at cS;obtain ⟨q,_,av,ab⟩:=cS.ptr;by_cases aq:jL d=aqW
  ·rw[if_pos aq] at ad;obtain ⟨i,cs,ae,dG,rfl⟩:=ad;obtain ⟨ds,ah,ar,jS⟩:=CL br.nA av _ _ _ dG;exact ⟨.agg ds.toArray,by simp[ab,asAddr,loadVar,wN aB,aq,iN ae,zh ar jS],⟨_,rfl,by simpa using ah⟩⟩
  ·rw[if_neg aq] at ad;obtain ⟨aV,eR,an⟩:=br.nA.load b q off v av ad;exact ⟨aV,by simp[ab,asAddr,loadVar,wN aB,aq,eR],cb.p6 an⟩
theorem VD {P:aq1} {fr:Nat->aqX} {m:Mem} {j:bo} {N:Nat} {a:Act} {w:World} (br:Rel P j m w) (cB:jJ j N fr a):∀(rs:List ResultVar) (vs:List aqX),pf P fr m rs vs->
  ∃mo:List aqX,(rs.mapM (m:=Sem) fun| .tmp t=>pure (a.tmps.getD t undef)| .cell x t=>do loadVar t (<-asAddr (a.tmps.getD x undef))).run P w= .ok mo w/\ba (cb j) vs mo
 |[],[],_=>⟨[],rfl,ari⟩
 |r::rs,v::vs,⟨h1,J⟩=>by
  obtain ⟨aV,an,ad⟩:=aeM br cB h1;obtain ⟨mo,UN,lZ⟩:=VD br cB rs vs J;refine ⟨aV::mo, ?_,ad,lZ⟩;simp only[List.mapM_cons,ars,arF];cases r with
  |tmp t=>simp only[arF] at an⊢;rw[an];simp only[arn,UN]
  |cell x t=>simp only[ars] at an⊢;rw[an];simp only[arn,UN]
 |[],_::_,h=>h.elim
 |_::_,[],h=>h.elim
theorem VG {j:bo}:∀{vs mo:List aqX},ba (cb j) vs mo->(∀x∈vs,storable x=aqW)->ba (ey j) vs mo
 |[],[],_,_=>ari
 |v::vs,c::mo,⟨h1,J⟩,ay=>⟨cb.storable h1 (ay v (by simp)),VG J fun x U=>ay x (by simp[U])⟩
 |[],_::_,h,_=>h.elim
 |_::_,[],h,_=>h.elim
theorem ae3 {j:bo} {args jM:Array aqX} (h:ba (cb j) args.toList jM.toList) (n:Nat):∀t,cb j ((args++asl (n - args.size) undef).getD t undef) ((jM++asl (n - jM.size) undef).getD t undef):=by
 have ay:=h.size;intro t;by_cases ao:t<args.size
 ·have aX:(args++asl (n - args.size) undef).getD t undef=args[t]:=by
   rw[atL,atx ao];simp[ao]
  have kA:t<jM.size:=by omega
  have e2:(jM++asl (n - jM.size) undef).getD t undef=jM[t]:=by rw[atL,atx kA];simp[kA]
  rw[aX,e2];obtain ⟨b,aa,an⟩:=h.Lp t args[t] (by simp[ao]);rw[Array.getElem?_eq_getElem kA] at aa;cases aa;exact an
 ·have e:∀(A:Array aqX),A.size<=t->(A++asl (n - A.size) undef).getD t undef=undef:=by
   intro A eu;rw[atL,Array.getElem?_append_right eu];by_cases ax:t - A.size<n - A.size
   ·simp[ax]
   ·simp[ax]
  rw[e args (by omega),e jM (by omega)];exact Xi j
theorem NJ {P : aq1} {f : FuncId} {fn : Func} {c : Code} (h : mA P f = aqW) (aP : P.funcs[f]? = aqV fn) (ab : fn.body = aqV c) : (fn.name == "runtime.NumGoroutine") = aqZ ∧ gn fn.ntmps c = aqW := by
 simp only[mA,aP,ab,ara,ar8] at h;exact h
theorem WF.lK {m m1:Mem} (h:WF m) (aa:∀b,b<m.next->m1.aG b=m.aG b\/qX m.next (m1.aG b)):WF (m1.lK m.next) where
 dead:=fun b cu=>by have cu:m.next<=b:=cu;simp[Mem.lK,show ¬b<m.next by omega]
 low:=fun b=>by
  simp only[Mem.lK];split
  ·rename_i aN;rcases aa b aN with h1|h1
   ·rw[h1];exact h.low b
   ·exact h1
  ·exact ari
theorem F7 {P:aq1} (jV:P.follows .mixedOrders=aqW):∀n,pk (h7 P n)/\zE P (h7 P n):=by
 intro n;induction n with
 |zero=>exact ⟨fun f args m v m' h=>h.elim,fun f args m v m' h=>h.elim⟩
 |succ n a8=>
  obtain ⟨bW,ji⟩:=a8;refine ⟨?_, ?_⟩
  ·intro f args m v m' h ct ah;rcases h with ⟨_,h⟩|h
   ·exact afr h ct
   obtain ⟨fn,c,e,fr,m1,vs,aP,aa,vU,bE,jX,he,nk,rfl,dH,hm⟩:=h;have dw:=NJ vU aP aa;have ga:∀t,low m.next ((args++asl (fn.ntmps - args.size) undef).getD t undef):=by
    intro t;rw[atL];cases aJ:(args++asl (fn.ntmps - args.size) undef)[t]? with
    |none=>exact CE
    |some x=>
     have:=as5 aJ;simp only[Array.mem_append,Array.mem_replicate] at this;rcases this with h|⟨_,rfl⟩
     ·exact ah x (by simpa using h)
     ·exact CE
   obtain ⟨g1,g2,g3⟩:=Cy bW n c _ _ _ _ _ dw.2 jX ct ga;rcases hm with rfl|⟨rfl,pR,hblk⟩
   ·refine ⟨?_,g1,g3⟩;have an:∀(rs:List ResultVar) (vs:List aqX),pf P fr m' rs vs->∀x∈vs,low m'.next x:=by
     intro rs;induction rs with
     |nil=>intro vs h x U;cases vs with|nil=>simp at U|cons _ _=>exact h.elim
     |cons r rs a8=>
      intro vs h x U;cases vs with
      |nil=>exact h.elim
      |cons u us=>
       rcases arb.1 U with rfl|U
       ·cases r with
        |tmp t=>have:=h.1;simp only[G2] at this;rw[this];exact g2 t
        |cell q t=>
         obtain ⟨b,off,_,d,aB,ad⟩:=h.1;split at ad
         ·obtain ⟨i,cs,ae,dG,rfl⟩:=ad;simpa[low,gU] using G0 g1 _ _ _ dG
         ·exact OC (Ou g1 ad)
       ·exact a8 us h.2 x U
    have jP:=an _ _ nk;rcases dH with h1|h1
    ·match vs,h1 with
     |[x],_=>exact jP x (by simp)
    ·match vs with
     |[]=>intro x U;simp at U
     |[x]=>exact jP x (by simp)
     |x::y::l=>intro z aF;exact wx (jP z (by simpa using aF)) (h1 z (by simpa using aF))
   ·exact ⟨pR,ct.lK hblk,aq9 _⟩
  ·intro f args m v m' h j w jM ct br tH;rcases h with ⟨vU,h⟩|h
   ·refine ⟨?_,afs h br tH⟩;cases aP:P.funcs[f]? with
    |none=>simp[mA,aP] at vU
    |some fn=>
     cases aa:fn.body with
     |none=>simp[mA,aP,aa] at vU
     |some c=>exact ⟨fn,rfl,(NJ vU aP aa).1,by simp[aa]⟩
   obtain ⟨fn,c,e,fr,m1,vs,aP,aa,vU,bE,jX,he,nk,rfl,dH,hm⟩:=h;have dw:=NJ vU aP aa;refine ⟨⟨fn,aP,dw.1,by simp[aa]⟩, ?_⟩;refine calls_of_wp aP aa ?_;have cB:jJ j fn.ntmps (fun i=>(args++asl (fn.ntmps - args.size) undef).getD i undef) {tmps:=jM++asl (fn.ntmps - jM.size) undef,defers:=[]}:=
    ⟨ae3 tH fn.ntmps,rfl,by have:=tH.size;simp;omega⟩
   have ah:=Cy bW n c _ _ _ _ _ dw.2 jX ct (cB.low br);refine Nz jV bW ji n c _ _ _ _ _ j _ w _ dw.2 jX br ct cB fun a' w' bX ap ku=> ?_;obtain ⟨mo,abK,fP⟩:=VD ap.rel ku _ _ nk;have hlen:=fP.length;have FE:(results fn a'.tmps).run P w'= .ok (pack mo) w':=by
    simp only[results,ars];rw[Array.mapM_eq_mapM_toList];simp only[Sem.run_map];have abL:=abK;refine Eq.trans (congrArg (fun r=>Result.andThen (Result.andThen r _) _) abL) ?_;simp only[arn,arF];congr 1
    match mo with
    |[]=>rfl
    |[x]=>rfl
    |x::y::l=>simp[pack]
   have B9:cb bX (pack vs) (pack mo):=by
    rcases dH with h1|h1
    ·match vs,mo,h1,fP with
     |[x],[y],_,ax=>exact ax.1
     |[x],[],_,ax=>exact ax.elim
     |[x],_::_::_,_,ax=>exact ax.2.elim
    ·have J:=VG fP h1
     match vs,mo,fP,J with
     |[x],[y],ax,_=>exact ax.1
     |[],[],_,_=>exact ⟨_,rfl,ari⟩
     |x::y::l,hb::jn::kD,_,ax=>exact ⟨_,rfl,by simpa using ax⟩
     |[x],[],ax,_=>exact ax.elim
     |[x],_::_::_,ax,_=>exact ax.2.elim
     |[],_::_,ax,_=>exact ax.elim
     |_::_::_,[],ax,_=>exact ax.elim
     |_::_::_,[_],ax,_=>exact ax.2.elim
   have abV:∃qU,Post P j m w qU m' w'/\cb qU (pack vs) (pack mo):=by
    rcases hm with rfl|⟨rfl,pR,hblk⟩
    ·exact ⟨bX,ap,B9⟩
    ·have abt:=ct.lK hblk;have n2:Rel P (bX.below m.next) (m1.lK m.next) w':=Rel.below (m:=m1.lK m.next) ap.rel abt (fun b e aa aN=>by
      have aN:b<m.next:=aN;simp[Mem.lK,aN])
     refine ⟨bX.below m.next,⟨n2,ap.ed,aq9 _,fun b aa=> ?_,fun b e aa e8=> ?_,fun b aa ai=> ?_,fun b aa ai=> ?_⟩,wE.2.2 B9 pR⟩
     ·simp only[bo.below,aa,if_true];exact ap.ext b aa
     ·have:=(pd aa).1;omega
     ·simp only[Mem.lK,aa,if_true] at ai;exact ap.dh b aa ai
     ·simp only[Mem.lK,aa,if_true] at ai;exact ap.alive b aa ai
   obtain ⟨qU,UF,UW⟩:=abV;rcases he with rfl|rfl
   ·exact ⟨ku.defers,_,FE,_,qU,rfl,UF,UW⟩
   ·exact ⟨ku.defers,_,FE,_,qU,rfl,UF,UW⟩
end Go.aS
end
section
namespace Go.aS
def xX (C lM:FuncId->Array aqX->Mem->aqX->Mem->Prop):Prop:=∀f args m v m',C f args m v m'->lM f args m v m'
theorem gF.mono {P:aq1} {C lM:FuncId->Array aqX->Mem->aqX->Mem->Prop} (bW:xX C lM) {af:aq3->aqX} {o:Oper} {m m':Mem} {v:aqX} (h:gF P C af o m v m'):gF P lM af o m v m':=by
 cases h with
 |store t x y b off i L e h U ae hm ad ay ah=>exact .store t x y b off i L e h U ae hm ad ay ah
 |call f args v m' h aa6=>exact .call f args v m' h (bW _ _ _ _ _ aa6)
 |vw x y t u e i a l c h ao ae U ab rU ag=>exact .vw x y t u e i a l c h ao ae U ab rU ag
 |rD x y t u e i z a l c n dh new h ao ae aF cg dp bE U ab ai jW ag ar aa hm=>exact .rD x y t u e i z a l c n dh new h ao ae aF cg dp bE U ab ai jW ag ar aa hm
 |ye x y t u e i b off l c n L new h ao ae U dE ab hm ag ar ah=>exact .ye x y t u e i b off l c n L new h ao ae U dE ab hm ag ar ah
 |append x y t u e i z b off l n L new h ao ae aF cg dp bE U fD tL ag ar aa hm=>exact .append x y t u e i z b off l n L new h ao ae aF cg dp bE U fD tL ag ar aa hm
 |copy x y t u e i b off l c L cs h ao ae U hm ag ar ah=>exact .copy x y t u e i b off l c L cs h ao ae U hm ag ar ah
 |mapUpdate gy x iu iE u kt vt b L bS vc E E' fj h hh hu U fD aT ll K BO oY yG aP hk aH lZ Ca r1 Cb e9=>exact .mapUpdate gy x iu iE u kt vt b L bS vc E E' fj h hh hu U fD aT ll K BO oY yG aP hk aH lZ Ca r1 Cb e9
theorem oK.mono {P:aq1} {C lM:FuncId->Array aqX->Mem->aqX->Mem->Prop} (bW:xX C lM) {af:aq3->aqX} {o:Oper} {m m':Mem} {v:aqX} (h:oK P C af o m v m'):oK P lM af o m v m':=by
 cases h with
 |pure h=>exact .pure h
 |read h=>exact .read h
 |new h=>exact .new h
 |e7 h=>exact .e7 (h.mono bW)
theorem CC {P:aq1} {C lM:FuncId->Array aqX->Mem->aqX->Mem->Prop} (bW:xX C lM) {ops:List Oper}:∀(l:List Oper) (fr fr':Nat->aqX) (m m':Mem),j3 P C ops l fr m fr' m'->j3 P lM ops l fr m fr' m'
 |[],fr,fr',m,m',h=>h
 |o::l,fr,fr',m,m',h=>by
  simp only[j3] at h⊢;split at h
  ·rename_i hw;rw[if_pos hw];obtain ⟨v,m1,h1,J⟩:=h;exact ⟨v,m1,h1.mono bW,CC bW l _ _ _ _ J⟩
  ·rename_i hw;rw[if_neg hw];exact CC bW l _ _ _ _ h
theorem ui {P:aq1} {C lM:FuncId->Array aqX->Mem->aqX->Mem->Prop} (bW:xX C lM) {ops:List Oper} {B:Array Nat}:∀(l:List Oper) (i:Nat) (A:Acc) (fr fr':Nat->aqX) (m m':Mem),gw P C ops B i l A fr m fr' m'->gw P lM ops B i l A fr m fr' m'
 |[],i,A,fr,fr',m,m',h=>h
 |o::l,i,A,fr,fr',m,m',h=>by
  simp only[gw] at h⊢;split at h
  ·rename_i hw;rw[if_pos hw];rcases h with ⟨v,ap,aB⟩|⟨v,ap,ai,aB⟩|⟨X,v,ap,aB⟩|⟨v,m1,ap,h1,J,aB⟩
   ·exact .inl ⟨v,ap,ui bW l _ _ _ _ _ _ aB⟩
   ·exact .inr (.inl ⟨v,ap,ai,ui bW l _ _ _ _ _ _ aB⟩)
   ·exact .inr (.inr (.inl ⟨X,v,ap,ui bW l _ _ _ _ _ _ aB⟩))
   ·exact .inr (.inr (.inr ⟨v,m1,ap.mono bW,h1,J,ui bW l _ _ _ _ _ _ aB⟩))
  ·rename_i hw;rw[if_neg hw];exact ui bW l _ _ _ _ _ _ h
theorem Wj {P:aq1} {C lM:FuncId->Array aqX->Mem->aqX->Mem->Prop} (bW:xX C lM):∀(n n':Nat),n<=n'->∀(c:Code) (fr fr':Nat->aqX) (m m':Mem) (e:dX),kH P C n c fr m e fr' m'->kH P lM n' c fr m e fr' m':=by
 intro n;induction n with
 |zero=>intro n' _ c fr fr' m m' e h;exact h.elim
 |succ n a8=>
  intro n' ar c fr fr' m m' e h;cases n' with
  |zero=>omega
  |succ n'=>
   have ln:n<=n':=by omega
   cases c with
   |skip=>exact h
   |label l=>exact h
   |exit id=>exact h
   |ret=>exact h
   |region id ops d=>
    cases d with
    |false=>exact ⟨h.1,CC bW _ _ _ _ _ h.2⟩
    |true=>exact ⟨h.1,ui bW _ _ _ _ _ _ _ h.2⟩
   |seq a b=>
    rcases h with ⟨aX,eV,m1,h1,J⟩|h
    rotate_left
    ·exact .inr h
    refine .inl ⟨aX,eV,m1,a8 n' ln _ _ _ _ _ _ h1, ?_⟩;split at J
    ·rename_i he;rw[if_pos he];exact a8 n' ln _ _ _ _ _ _ J
    ·rename_i he;rw[if_neg he];exact J
   |cond c a b=>obtain ⟨t,ao,h1⟩:=h;exact ⟨t,ao,a8 n' ln _ _ _ _ _ _ h1⟩
   |scope c=>exact a8 n' ln _ _ _ _ _ _ h
   |block id c=>obtain ⟨aX,h1,he⟩:=h;exact ⟨aX,a8 n' ln _ _ _ _ _ _ h1,he⟩
   |loop c=>
    obtain ⟨aX,eV,m1,h1,J⟩:=h;refine ⟨aX,eV,m1,a8 n' ln _ _ _ _ _ _ h1, ?_⟩;split at J
    ·rename_i he;rw[if_pos he];exact a8 n' ln _ _ _ _ _ _ J
    ·rename_i he;rw[if_neg he];exact J
   |rangeFunc f bK x y=>exact h.elim
   |goto l=>exact h.elim
   |refuse s=>exact h.elim
theorem wF {P:aq1}:∀(n n':Nat),n<=n'->xX (h7 P n) (h7 P n'):=by
 intro n;induction n with
 |zero=>intro n' _ f args m v m' h;exact h.elim
 |succ n a8=>
  intro n' ar f args m v m' h;cases n' with
  |zero=>omega
  |succ n'=>
   rcases h with h|h
   ·exact .inl h
   obtain ⟨fn,c,e,fr,m1,vs,aP,aa,dw,bE,jX,rest⟩:=h;exact .inr ⟨fn,c,e,fr,m1,vs,aP,aa,dw,bE,Wj (a8 n' (by omega)) n n' (by omega) _ _ _ _ _ _ jX,rest⟩
def hx (P:aq1) (f:FuncId) (args:Array aqX) (m:Mem) (R:aqX->Mem->Prop):Prop:=∃n v m',h7 P n f args m v m'/\R v m'
def W (P:aq1) (c:Code) (Q:dX->(Nat->aqX)->Mem->Prop) (fr:Nat->aqX) (m:Mem):Prop:=∃n e fr' m',kH P (h7 P n) n c fr m e fr' m'/\Q e fr' m'
def mj (P:aq1) (af:aq3->aqX) (o:Oper) (m:Mem) (K:aqX->Mem->Prop):Prop:=∃n v m',oK P (h7 P n) af o m v m'/\K v m'
def fv (P:aq1) (ops l:List Oper) (K:(Nat->aqX)->Mem->Prop) (fr:Nat->aqX) (m:Mem):Prop:=∃n fr' m',j3 P (h7 P n) ops l fr m fr' m'/\K fr' m'
def gq (P:aq1) (ops:List Oper) (B:Array Nat) (i:Nat) (l:List Oper) (A:Acc) (K:(Nat->aqX)->Mem->Prop) (fr:Nat->aqX) (m:Mem):Prop:=∃n fr' m',gw P (h7 P n) ops B i l A fr m fr' m'/\K fr' m'
section
variable {P:aq1} {Q AW:dX->(Nat->aqX)->Mem->Prop} {fr:Nat->aqX} {m:Mem}
theorem hx.mono {f:FuncId} {args:Array aqX} {R SA:aqX->Mem->Prop} (h:hx P f args m R) (an:∀v m',R v m'->SA v m'):hx P f args m SA:=
 let ⟨n,v,m',h1,J⟩:=h;⟨n,v,m',h1,an _ _ J⟩
theorem W.mono {c:Code} (h:W P c Q fr m) (aJ:∀e fr m,Q e fr m->AW e fr m):W P c AW fr m:=
 let ⟨n,e,fr',m',h1,J⟩:=h;⟨n,e,fr',m',h1,aJ _ _ _ J⟩
theorem W.skip (h:Q .normal fr m):W P .skip Q fr m:=⟨1,_,_,_,⟨rfl,rfl,rfl⟩,h⟩
theorem W.label {l:Nat} (h:Q .normal fr m):W P (.label l) Q fr m:=⟨1,_,_,_,⟨rfl,rfl,rfl⟩,h⟩
theorem W.exit {id:Nat} (h:Q (.exit id) fr m):W P (.exit id) Q fr m:=⟨1,_,_,_,⟨rfl,rfl,rfl⟩,h⟩
theorem W.ret (h:Q .ret fr m):W P .ret Q fr m:=⟨1,_,_,_,⟨rfl,rfl,rfl⟩,h⟩
def Y3 (next:(Nat->aqX)->Mem->Prop) (Q:dX->(Nat->aqX)->Mem->Prop):dX->(Nat->aqX)->Mem->Prop
 | .normal,fr,m=>next fr m
 |e,fr,m=>Q e fr m
def oM (id:Nat) (Q:dX->(Nat->aqX)->Mem->Prop):dX->(Nat->aqX)->Mem->Prop
 | .exit yW,fr,m=>if yW=id then Q .normal fr m else Q (.exit yW) fr m
 |e,fr,m=>Q e fr m
theorem qd {n N k:Nat} (h:n<=N) (hk:n<=k) {c:Code} {fr fr':Nat->aqX} {m m':Mem} {e:dX} (ab:kH P (h7 P n) n c fr m e fr' m'):kH P (h7 P N) k c fr m e fr' m':=Wj (wF n N h) n k hk _ _ _ _ _ _ ab
theorem W.seq {a b:Code} (h:W P a (Y3 (W P b Q) Q) fr m):W P (.seq a b) Q fr m:=by
 obtain ⟨n,e,eV,m1,h1,J⟩:=h;cases e with
 |normal=>obtain ⟨iX,e2,fx,m2,aj,aM⟩:=J;exact ⟨max n iX+1,e2,fx,m2, .inl ⟨_,_,_,qd (by omega) (by omega) h1,by rw[if_pos rfl];exact qd (by omega) (by omega) aj⟩,aM⟩
 |exit id=>exact ⟨n+1,_,eV,m1, .inl ⟨_,_,_,qd (by omega) (by omega) h1,by rw[if_neg (by simp)];exact ⟨rfl,rfl,rfl⟩⟩,J⟩
 |ret=>exact ⟨n+1,_,eV,m1, .inl ⟨_,_,_,qd (by omega) (by omega) h1,by rw[if_neg (by simp)];exact ⟨rfl,rfl,rfl⟩⟩,J⟩
theorem W.cond {c:aq3} {a b:Code} {t:Bool} (ao:aK fr c= .bool t) (h:W P (if t then a else b) Q fr m):W P (.cond c a b) Q fr m:=by
 obtain ⟨n,e,eV,m1,h1,J⟩:=h;exact ⟨n+1,e,eV,m1,⟨t,ao,qd (by omega) (by omega) h1⟩,J⟩
theorem W.block {id:Nat} {c:Code} (h:W P c (oM id Q) fr m):W P (.block id c) Q fr m:=by
 obtain ⟨n,e,eV,m1,h1,J⟩:=h;refine ⟨n+1,_,eV,m1,⟨e,qd (by omega) (by omega) h1,rfl⟩, ?_⟩;cases e with
 |normal=>simpa[oM] using J
 |exit yW=>
  simp only[oM] at J;by_cases he:yW=id
  ·subst he;simpa using J
  ·simp only[he,if_false] at J;simp only[dX.exit.injEq,he,if_false];exact J
 |ret=>simpa[oM] using J
theorem W.scope {c:Code} (h:W P c Q fr m):W P (.scope c) Q fr m:=by
 obtain ⟨n,e,eV,m1,h1,J⟩:=h;exact ⟨n+1,e,eV,m1,(show kH P (h7 P (n+1)) n c fr m e eV m1 from qd (by omega) (by omega) h1),J⟩
theorem W.ad2 {c:Code} (h:W P c (Y3 (W P (.loop c) Q) Q) fr m):W P (.loop c) Q fr m:=by
 obtain ⟨n,e,eV,m1,h1,J⟩:=h;cases e with
 |normal=>obtain ⟨iX,e2,fx,m2,aj,aM⟩:=J;exact ⟨max n iX+1,e2,fx,m2,⟨_,_,_,qd (by omega) (by omega) h1,by rw[if_pos rfl];exact qd (by omega) (by omega) aj⟩,aM⟩
 |exit id=>exact ⟨n+1,_,eV,m1,⟨_,_,_,qd (by omega) (by omega) h1,by rw[if_neg (by simp)];exact ⟨rfl,rfl,rfl⟩⟩,J⟩
 |ret=>exact ⟨n+1,_,eV,m1,⟨_,_,_,qd (by omega) (by omega) h1,by rw[if_neg (by simp)];exact ⟨rfl,rfl,rfl⟩⟩,J⟩
theorem W.region {id:Nat} {ops:Array Oper} (h:fv P ops.toList ops.toList (Q .normal) fr m):W P (.region id ops aqZ) Q fr m:=by
 obtain ⟨n,fr',m',h1,J⟩:=h;exact ⟨n+1, .normal,fr',m',⟨rfl,CC (wF _ _ (arL _)) _ _ _ _ _ h1⟩,J⟩
theorem W.draw {id:Nat} {ops:Array Oper} (h:gq P ops.toList (arM ops) 0 ops.toList ⟨[],[],[]⟩ (Q .normal) fr m):W P (.region id ops aqW) Q fr m:=by
 obtain ⟨n,fr',m',h1,J⟩:=h;exact ⟨n+1, .normal,fr',m',⟨rfl,ui (wF _ _ (arL _)) _ _ _ _ _ _ _ h1⟩,J⟩
end
section
variable {P:aq1} {ops l:List Oper} {K:(Nat->aqX)->Mem->Prop} {fr:Nat->aqX} {m:Mem} {o:Oper}
theorem fv.nil (h:K fr m):fv P ops [] K fr m:=⟨0,_,_,⟨rfl,rfl⟩,h⟩
theorem fv.skip (aH:wanted ops fr o=aqZ) (h:fv P ops l K (set fr o.dst undef) m):fv P ops (o::l) K fr m:=by
 obtain ⟨n,fr',m',h1,J⟩:=h;refine ⟨n,fr',m', ?_,J⟩;simp only[j3];rw[if_neg (by simp[aH])];exact h1
theorem fv.cons (aH:wanted ops fr o=aqW) (h:mj P (aK fr) o m fun v m1=>fv P ops l K (set fr o.dst v) m1):fv P ops (o::l) K fr m:=by
 obtain ⟨n,v,m1,ay,iX,fr',m',h1,J⟩:=h;refine ⟨max n iX,fr',m', ?_,J⟩;simp only[j3];rw[if_pos aH];exact ⟨v,m1,ay.mono (wF _ _ (Nat.le_max_left _ _)),CC (wF _ _ (Nat.le_max_right _ _)) _ _ _ _ _ h1⟩
theorem mj.pure {af:aq3->aqX} {R:aqX->Mem->Prop} {v:aqX} (h:cP P af o v) (hk:R v m):mj P af o m R:=⟨0,v,m, .pure h,hk⟩
theorem mj.read {af:aq3->aqX} {R:aqX->Mem->Prop} {v:aqX} (h:eT P af o m v) (hk:R v m):mj P af o m R:=⟨0,v,m, .read h,hk⟩
theorem mj.new {af:aq3->aqX} {R:aqX->Mem->Prop} {v:aqX} {X:a6} (h:h0 P af o m.next X v) (hk:R v (m.push X)):mj P af o m R:=⟨0,v,_, .new h,hk⟩
theorem mj.e7 {af:aq3->aqX} {R:aqX->Mem->Prop} {v:aqX} {m':Mem} {n:Nat} (h:gF P (h7 P n) af o m v m') (hk:R v m'):mj P af o m R:=⟨n,v,m', .e7 h,hk⟩
end
theorem hx.enter {P:aq1} {f:FuncId} {fn:Func} {c:Code} {args:Array aqX} {m:Mem} {R:aqX->Mem->Prop} (aP:P.funcs[f]? =aqV fn) (aa:fn.body=aqV c) (dw:mA P f=aqW) (bE:args.size<=fn.ntmps)
  (h:W P c (fun e fr m1=>(e= .normal\/e= .ret)/\∃vs,pf P fr m1 fn.results.toList vs/\(vs.length=1\/∀x∈vs,storable x=aqW)/\
   (R (pack vs) m1\/(R (pack vs) (m1.lK m.next)/\low m.next (pack vs)/\∀b,b<m.next->m1.aG b=m.aG b\/qX m.next (m1.aG b))))
   (fun i=>(args++asl (fn.ntmps - args.size) undef).getD i undef) m):hx P f args m R:=by
 obtain ⟨n,e,fr,m1,h1,he,vs,ad,ay,br⟩:=h;rcases br with br|⟨br,ah,vF⟩
 ·exact ⟨n+1,_,_, .inr ⟨fn,c,e,fr,m1,vs,aP,aa,dw,bE,h1,he,ad,rfl,ay, .inl rfl⟩,br⟩
 ·exact ⟨n+1,_,_, .inr ⟨fn,c,e,fr,m1,vs,aP,aa,dw,bE,h1,he,ad,rfl,ay, .inr ⟨rfl,ah,vF⟩⟩,br⟩
theorem hx.sort {P:aq1} {f:FuncId} {args:Array aqX} {m m':Mem} {v:aqX} {R:aqX->Mem->Prop} (dw:mA P f=aqW) (h:x3 P f args m v m') (br:R v m'):hx P f args m R:=⟨1,v,m', .inl ⟨dw,h⟩,br⟩
def gO (w:World):bo:=fun b=>if b<w.heap.size then aqV ⟨b,0,0,0⟩ else aqY
def xn (b:Nat):aqX->Option aqX
 | .slice (aqV _) 0 0=>aqV (.slice (aqV ⟨b,0,aqY⟩) 0 0)
 |_=>aqY
open Classical in
noncomputable def gV (w:World):Mem:={next:=w.heap.size,aG:=fun b=>if b<w.heap.size then .ro (fun i=>match w.cell? ⟨b,i,aqY⟩ with|some v=>if dC (gO w) v v then aqV v else xn b v|none=>aqY) else .dead}
theorem V4 {b:Nat} {v u:aqX} (h:xn b v=aqV u):∃a,v= .slice (aqV a) 0 0/\u= .slice (aqV ⟨b,0,aqY⟩) 0 0:=by
 unfold xn at h;split at h
 ·cases h;exact ⟨_,rfl,rfl⟩
 ·cases h
theorem zu {w:World} {b:Nat} {e:iR} (h:gO w b=aqV e):b<w.heap.size/\e.aG=b:=by
 unfold gO at h;split at h
 ·cases h;exact ⟨‹_›,rfl⟩
 ·cases h
theorem XN {w:World} {b:Nat} {e:iR} (h:gO w b=aqV e):e.dM=0:=by
 unfold gO at h;split at h
 ·cases h;rfl
 ·cases h
theorem afQ {w:World} {b i:Nat} {v:aqX} (h:w.cell? ⟨b,i,aqY⟩=aqV v) (ad:dC (gO w) v v):(gV w).load b i=aqV v:=by
 have aN:b<w.heap.size:=World.block_lt_of_cell? w ⟨b,i,aqY⟩ h;simp[Mem.load,gV,aN,h,ad]
theorem X5 (w:World):WF (gV w) where
 dead:=fun b aa=>by have aa:w.heap.size<=b:=aa;simp[gV,show ¬b<w.heap.size by omega]
 low:=fun b=>by
  simp only[gV];split
  ·intro i v ae;simp only at ae;split at ae
   ·split at ae
    ·rename_i ad;cases ae;exact (Hh (fun b e h=>(zu h).1)).1 ad
    ·obtain ⟨a,_,rfl⟩:=V4 ae;assumption
   ·cases ae
  ·exact ari
theorem agQ (P:aq1) (w:World):Rel P (gO w) (gV w) w:=by
 refine ⟨?_, ?_, ?_⟩
 ·intro b e aa;obtain ⟨h1,J⟩:=zu aa;exact ⟨h1,by rw[J];exact h1⟩
 ·intro b e aa;obtain ⟨h1,J⟩:=zu aa;simp only[gV,h1,if_true];intro i v ae;simp only at ae;have cell:∀u,w.cell? ⟨b,i,aqY⟩=aqV u->∃(cs:Array aqX) (t:aq4) (bg:Nat×Nat),w.heap[e.aG]? =aqV (.cells cs t bg)/\cs[i]? =aqV u:=by
   intro u hu;rw[J];simp only[as7] at hu;split at hu
   ·rename_i c t f ab;exact ⟨c,t,f,ab,by simpa using hu⟩
   ·cases hu
  split at ae
  ·rename_i u hu;obtain ⟨cs,t,bg,g1,g2⟩:=cell u hu;split at ae
   ·rename_i ad;cases ae;exact ⟨cs,t,bg,_,g1,by rw[XN aa,arh];exact g2,ad⟩
   ·obtain ⟨a,rfl,rfl⟩:=V4 ae;exact ⟨cs,t,bg,_,g1,by rw[XN aa,arh];exact g2,e,rfl,aa, .inr (.inr (.inr ⟨rfl,rfl,a,rfl⟩))⟩
  ·cases ae
 ·intro b b6 e bx aa cu ai;obtain ⟨h1,J⟩:=zu aa;simp[gV,h1,a6.hM] at ai
theorem aeE {P:aq1} (jV:P.follows .mixedOrders=aqW) {f:FuncId} {args:Array aqX} {w:World} (tH:∀a∈args.toList,cb (gO w) a a) (h:hx P f args (gV w) fun v _=>v= .bool aqW):
  Calls P f args w fun e w'=>e= .returned (.bool aqW)/\RowKit.Below w.heap.size w w':=by
 obtain ⟨n,v,m',h1,rfl⟩:=h;have ay:=(F7 jV n).2 f args (gV w) _ m' h1 (gO w) w args (X5 w) (agQ P w) (by
  have:∀l:List aqX,(∀a∈l,cb (gO w) a a)->ba (cb (gO w)) l l:=by
   intro l;induction l with
   |nil=>intro _;exact ari
   |cons a l a8=>intro h;exact ⟨h a (by simp),a8 fun b aa=>h b (by simp[aa])⟩
  exact this _ tH)
 refine ay.2.mono ?_;rintro e w' ⟨aV,bX,rfl,ap,ad⟩;have fP:=ad.bool;subst fP;refine ⟨rfl,ap.ed.os,ap.ed.tape,ap.ed.output,ap.ed.size,fun k hk=>ap.ed.block k hk fun b e aa ai=> ?_⟩;obtain ⟨h1,J⟩:=zu aa;simp[gV,h1,a6.hM] at ai
end Go.aS
end
section
namespace Go.aS
def a6.fJ:a6->Prop
 | .dead| .lock _ _ _ _=>False
 |_=>True
def a6.mem:a6->a6
 | .lock _ _ L t=> .own L t
 |b=>b
theorem a6.fJ.ne {x:a6} (h:x.fJ):x≠ .dead:=fun e=>by rw[e] at h;exact h
theorem a6.fJ.mem {x:a6} (h:x.fJ):x.mem=x:=by cases x<;>first|rfl|exact h.elim
def j5 (z:Nat->a6) (m:Mem):Prop:=∀b,z b≠ .dead->m.aG b=(z b).mem/\b<m.next
theorem j5.fJ {z:Nat->a6} {m:Mem} (h:j5 z m) {b:Nat} (aa:(z b).fJ):m.aG b=z b/\b<m.next:=by
 have:=h b aa.ne;rw[aa.mem] at this;exact this
def et (z z':Nat->a6):Prop:=∀b,(z b).fJ->z' b=z b
theorem et.refl (z:Nat->a6):et z z:=fun _ _=>rfl
theorem et.trans {a b c:Nat->a6} (h:et a b) (k:et b c):et a c:=fun x U=>by
 have h1:=h x U;rw[k x (by rw[h1];exact U),h1]
def kY (z:Nat->a6) (b o:Nat):Option aqX:=
 match z b with
 | .ro rd=>rd o
 | .own L _=>L[o]?
 | .map _ _=>aqY
 | .lock _ _ _ _=>aqY
 | .dead=>aqY
theorem CU {z:Nat->a6} {b o:Nat} {v:aqX} (h:kY z b o=aqV v):(z b).fJ:=by
 unfold kY at h;cases aF:z b with
 |dead=>rw[aF] at h;cases h
 |lock _ _ _ _=>rw[aF] at h;cases h
 |_=>exact ari
theorem afZ {z z':Nat->a6} (h:et z z') {b o:Nat} {v:aqX} (ah:kY z b o=aqV v):kY z' b o=aqV v:=by
 have:=h b (CU ah);unfold kY at ah⊢;rw[this];exact ah
theorem Xp {z:Nat->a6} {m:Mem} (h:j5 z m) {b o:Nat} {v:aqX} (ah:kY z b o=aqV v):m.load b o=aqV v:=by
 have:=(h b (CU ah).ne).1;rw[(CU ah).mem] at this;unfold kY at ah;unfold Mem.load;rw[this];exact ah
structure cf (au:Type) where
 a1:Nat
 tid:aq4
 rd:(Nat->a6)->au->List aqX->Prop
 len:∀z x cs,rd z x cs->cs.length=a1
 mono:∀z z',et z z'->∀x cs,rd z x cs->rd z' x cs
 one:∀z x cs,rd z x cs->∀c∈cs,storable c=aqW/\c.cells=#[c]
def nw (z:Nat->a6) (b o:Nat) (cs:List aqX):Prop:=∀(i:Nat) (u:aqX),cs[i]? =aqV u->kY z b (o+i)=aqV u
def qb (L:List aqX) (o:Nat) (cs:List aqX):Prop:=∀(i:Nat) (u:aqX),cs[i]? =aqV u->L[o+i]? =aqV u
def er {au:Type} (T:cf au) (z:Nat->a6) (xs:List au) (v:aqX):Prop:=
 (v= .slice aqY 0 0/\xs=[])\/
 ∃b off c,v= .slice (aqV ⟨b,off,aqY⟩) xs.length c/\(z b).fJ/\((c=dr/\∃L,z b= .own L T.tid/\off+xs.length*T.a1<=L.length)\/(c<dr/\xs.length<=c))/\
  ∀(i:Nat) (x:au),xs[i]? =aqV x->∃cs,T.rd z x cs/\nw z b (off+i*T.a1) cs
theorem Gb {z z':Nat->a6} (h:et z z') {b o:Nat} {cs:List aqX} (ab:nw z b o cs):nw z' b o cs:=fun i u ae=>afZ h (ab i u ae)
theorem er.mono {au:Type} {T:cf au} {z z':Nat->a6} (h:et z z') {xs:List au} {v:aqX} (ay:er T z xs v):er T z' xs v:=by
 rcases ay with ay|⟨b,off,c,h1,J,aj,aM⟩
 ·exact .inl ay
 ·refine .inr ⟨b,off,c,h1,by rw[h b J];exact J, ?_,fun i x ae=> ?_⟩
  ·rcases aj with ⟨aj,L,bq,dv⟩|aj
   ·exact .inl ⟨aj,L,by rw[h b J];exact bq,dv⟩
   ·exact .inr aj
  ·obtain ⟨cs,g1,g2⟩:=aM i x ae;exact ⟨cs,T.mono z z' h x cs g1,Gb h g2⟩
theorem er.nil {au:Type} {T:cf au} {z:Nat->a6}:er T z [] (.slice aqY 0 0):= .inl ⟨rfl,rfl⟩
theorem er.len {au:Type} {T:cf au} {z:Nat->a6} {xs:List au} {v:aqX} (h:er T z xs v):∃a c,v= .slice a xs.length c:=by
 rcases h with ⟨rfl,rfl⟩|⟨b,off,c,rfl,_⟩
 ·exact ⟨_,_,rfl⟩
 ·exact ⟨_,_,rfl⟩
def cp:aqX->Option Nat
 | .slice (aqV a) _ _=>aqV a.block
 | .pointer (aqV a)=>aqV a.block
 |_=>aqY
def eG {au:Type} (T:cf au) (z:Nat->a6) (m:Mem) (xs:List au) (v:aqX):Prop:=
 (v= .slice aqY 0 0/\xs=[])\/
 ∃b o L c,v= .slice (aqV ⟨b,o,aqY⟩) xs.length c/\m.aG b= .own L T.tid/\b<m.next/\z b= .dead/\o+xs.length*T.a1<=L.length/\(c=dr\/(c<dr/\xs.length<=c/\o+c*T.a1<=L.length))/\
  ∀(i:Nat) (x:au),xs[i]? =aqV x->∃cs,T.rd z x cs/\qb L (o+i*T.a1) cs
theorem eG.Bb {au:Type} {T:cf au} {z:Nat->a6} {m:Mem} {xs:List au} {v:aqX} (h:∃b L c,v= .slice (aqV ⟨b,0,aqY⟩) xs.length c/\m.aG b= .own L T.tid/\b<m.next/\z b= .dead/\xs.length*T.a1<=L.length/\(c=dr\/(c<dr/\xs.length<=c/\c*T.a1<=L.length))/\
  ∀(i:Nat) (x:au),xs[i]? =aqV x->∃cs,T.rd z x cs/\qb L (i*T.a1) cs):eG T z m xs v:=by
 obtain ⟨b,L,c,h1,J,aj,aM,bq,dv,h3⟩:=h;exact .inr ⟨b,0,L,c,h1,J,aj,aM,by rw[arh];exact bq,by rw[arh];exact dv,fun i x U=>by rw[arh];exact h3 i x U⟩
theorem eG.nil {au:Type} {T:cf au} {z:Nat->a6} {m:Mem}:eG T z m [] (.slice aqY 0 0):= .inl ⟨rfl,rfl⟩
theorem eG.frame {au:Type} {T:cf au} {z:Nat->a6} {m m':Mem} {xs:List au} {v:aqX} (h:eG T z m xs v) (aa:∀b,cp v=aqV b->b<m.next->m'.aG b=m.aG b/\b<m'.next):eG T z m' xs v:=by
 rcases h with h|⟨b,o,L,c,rfl,h1,J,aj,aM,bq,dv⟩
 ·exact .inl h
 ·obtain ⟨g1,g2⟩:=aa b rfl J;exact .inr ⟨b,o,L,c,rfl,by rw[g1];exact h1,g2,aj,aM,bq,dv⟩
theorem eG.lt {au:Type} {T:cf au} {z:Nat->a6} {m:Mem} {xs:List au} {v:aqX} (h:eG T z m xs v):∀b,cp v=aqV b->b<m.next/\z b= .dead:=by
 rcases h with ⟨rfl,_⟩|⟨b,o,L,c,rfl,h1,J,aj,_⟩
 ·intro b aa;cases aa
 ·intro b6 aa;cases aa;exact ⟨J,aj⟩
theorem eG.len {au:Type} {T:cf au} {z:Nat->a6} {m:Mem} {xs:List au} {v:aqX} (h:eG T z m xs v):∃a c,v= .slice a xs.length c:=by
 rcases h with ⟨rfl,rfl⟩|⟨b,o,L,c,rfl,_⟩
 ·exact ⟨_,_,rfl⟩
 ·exact ⟨_,_,rfl⟩
def il (z:Nat->a6) (m:Mem) (p:Option Nat):Nat->a6:=fun b=>if p=aqV b then m.aG b else z b
theorem Db {z:Nat->a6} {m:Mem} {p:Option Nat} (h:∀b,p=aqV b->z b= .dead):et z (il z m p):=by
 intro b aa;unfold il;split
 ·exact absurd (h b ‹_›) aa.ne
 ·rfl
theorem Hm {z:Nat->a6} {m:Mem} {p:Option Nat} (h:j5 z m) (ap:∀b,p=aqV b->b<m.next/\(m.aG b).mem=m.aG b):j5 (il z m p) m:=by
 intro b aa;unfold il at aa⊢;split at aa
 ·rw[if_pos ‹_›];exact ⟨(ap b ‹_›).2.symm,(ap b ‹_›).1⟩
 ·rw[if_neg ‹_›];exact h b aa
theorem eG.anP {au:Type} {T:cf au} {z:Nat->a6} {m:Mem} {xs:List au} {v:aqX} (h:eG T z m xs v):er T (il z m (cp v)) xs v:=by
 rcases h with h|⟨b,o,L,c,rfl,h1,J,aj,aM,bq,dv⟩
 ·exact .inl h
 ·have aF:il z m (cp (.slice (aqV ⟨b,o,aqY⟩) xs.length c)) b= .own L T.tid:=by simp[il,cp,h1]
  have hle:et z (il z m (cp (.slice (aqV ⟨b,o,aqY⟩) xs.length c))):=Db fun b6 cu=>by cases cu;exact aj
  refine .inr ⟨b,o,c,rfl,by rw[aF];exact ari, ?_,fun i x ae=> ?_⟩
  ·rcases bq with rfl|⟨bq,h3,hU⟩
   ·exact .inl ⟨rfl,L,aF,aM⟩
   ·exact .inr ⟨bq,h3⟩
  ·obtain ⟨cs,g1,g2⟩:=dv i x ae;refine ⟨cs,T.mono _ _ hle x cs g1,fun k u hk=> ?_⟩;simp only[kY,aF];exact g2 k u hk
def ei (p q:Option Nat):Prop:=∀b,p=aqV b->q≠aqV b
theorem ei.symm {p q:Option Nat} (h:ei p q):ei q p:=fun b aJ ap=>h b ap aJ
theorem ei.q0 {q:Option Nat}:ei q Option.none:=fun _ _ h=>by cases h
structure cL (z:Nat->a6) (e m:Mem) (k:Option Nat):Prop where
 bg:j5 z m
 dead:∀b,m.next<=b->m.aG b= .dead
 lR:∀b,e.next<=b->e.aG b= .dead
 next:e.next<=m.next
 kept:∀b,b<e.next->k≠aqV b->m.aG b=e.aG b
theorem cL.start {z:Nat->a6} {m:Mem} {k:Option Nat} (h:j5 z m) (aB:∀b,m.next<=b->m.aG b= .dead):cL z m m k:=⟨h,aB,aB,aq9 _,fun _ _ _=>rfl⟩
theorem cL.push {z:Nat->a6} {e m:Mem} {k:Option Nat} (h:cL z e m k) (x:a6):cL z e (m.push x) k:=by
 refine ⟨fun b aa=> ?_,fun b aa=> ?_,h.lR,Nat.le_succ_of_le h.next,fun b aa hk=> ?_⟩
 ·have:=h.bg b aa;refine ⟨?_,atk this.2⟩;simp only[Mem.push];rw[if_neg (by omega)];exact this.1
 ·simp only[Mem.push] at aa⊢;rw[if_neg (by omega)];exact h.dead b (by omega)
 ·simp only[Mem.push];have:=h.next;rw[if_neg (by omega)];exact h.kept b aa hk
theorem cL.put {z:Nat->a6} {e m:Mem} {k:Option Nat} (h:cL z e m k) {b:Nat} (x:a6) (aF:z b= .dead) (aN:b<m.next) (aa:e.next<=b\/k=aqV b):cL z e (m.put b x) k:=by
 refine ⟨fun c ab=> ?_,fun c ab=> ?_,h.lR,h.next,fun c ab hk=> ?_⟩
 ·have:=h.bg c ab;refine ⟨?_,this.2⟩;simp only[Mem.put];rw[if_neg (fun dE=>ab (by rw[dE];exact aF))];exact this.1
 ·have ab:m.next<=c:=ab;simp only[Mem.put];rw[if_neg (by omega)];exact h.dead c ab
 ·simp only[Mem.put];rw[if_neg ?_]
  ·exact h.kept c ab hk
  ·intro dE;subst dE;rcases aa with aa|aa
   ·omega
   ·exact hk aa
structure e5 (m m':Mem) (k:Option Nat):Prop where
 next:m.next<=m'.next
 dead:∀b,m'.next<=b->m'.aG b= .dead
 aG:∀b,b<m.next->k≠aqV b->m'.aG b=m.aG b
theorem cL.same {z:Nat->a6} {e m m':Mem} {k q:Option Nat} (h:cL z e m k) (s:e5 m m' q) (aJ:∀b,q=aqV b->z b= .dead/\(e.next<=b\/k=aqV b)):cL z e m' k:=by
 refine ⟨fun b aa=> ?_,s.dead,h.lR,arq h.next s.next,fun b aa hk=> ?_⟩
 ·have:=h.bg b aa;refine ⟨?_,aru this.2 s.next⟩;rw[s.aG b this.2 (fun o3=>aa (aJ b o3).1)];exact this.1
 ·rw[s.aG b (aru aa h.next) (fun o3=> ?_)]
  ·exact h.kept b aa hk
  ·rcases (aJ b o3).2 with cq|cq
   ·omega
   ·exact hk cq
theorem cL.anQ {z:Nat->a6} {e m:Mem} (h:cL z e m aqY):m.lK e.next=e:=by
 have:(m.lK e.next).aG=e.aG:=by
  funext b;simp only[Mem.lK];split
  ·exact h.kept b ‹_› (by simp)
  ·exact (h.lR b (by omega)).symm
 cases e;simp only[Mem.lK] at this⊢;rw[this]
def cf.flat {au:Type} (t:aq4) (f:au->aqX) (aP:∀x,cx (f x)=aqW):cf au where
 a1:=1
 tid:=t
 rd:=fun _ x cs=>cs=[f x]
 len:=fun _ _ _ h=>by rw[h];rfl
 mono:=fun _ _ _ _ _ h=>h
 one:=fun _ x cs h c ab=>by rw[h] at ab;simp only[arX] at ab;subst ab;have:=aP x;cases U:f x<;>simp[U,cx] at this<;>first|exact ⟨rfl,rfl⟩|exact ⟨by simp[storable,this],rfl⟩
def str (s:List UInt8):aqX:= .string ⟨s.toArray⟩
def Ey (t:aq4) (k:aq2):cf Int:=cf.flat t (fun n=> .int k n) fun _=>rfl
def Dj (t:aq4):cf Bool:=cf.flat t (fun n=> .bool n) fun _=>rfl
def Ez (t:aq4):cf (List UInt8):=cf.flat t str fun _=>rfl
def JC {au:Type} (t:aq4) (T:cf au):cf (List au) where
 a1:=1
 tid:=t
 rd:=fun z xs cs=>∃v,cs=[v]/\er T z xs v
 len:=fun _ _ _ h=>by obtain ⟨v,rfl,_⟩:=h;rfl
 mono:=fun _ _ h _ _ ax=>by obtain ⟨v,h1,J⟩:=ax;exact ⟨v,h1,J.mono h⟩
 one:=fun _ _ cs h c ab=>by obtain ⟨v,rfl,J⟩:=h;simp only[arX] at ab;subst ab;obtain ⟨a,n,rfl⟩:=J.len;exact ⟨rfl,rfl⟩
end Go.aS
end
section
namespace Go.aS
section
variable {P:aq1} {af:aq3->aqX} {o:Oper}
theorem sB {x y:aq3} (h:o.op.operands=#[x,y]) {v:aqX} (ay:∀cs b,o.op≠ .select cs b) (U:flat (af x)=aqW) (ag:flat (af y)=aqW) (ad:flat v=aqW) (an:∀w,(execOp af o).run P w= .ok (.value v) w):cP P af o v:=by
 refine .flat v ay (fun z aF=> ?_) ad an;rw[h] at aF;simp only[as3,arb,asF,or_false] at aF;rcases aF with rfl|rfl
 ·exact U
 ·exact ag
theorem He {x:aq3} (h:o.op.operands=#[x]) {v:aqX} (ay:∀cs b,o.op≠ .select cs b) (U:flat (af x)=aqW) (ad:flat v=aqW) (an:∀w,(execOp af o).run P w= .ok (.value v) w):cP P af o v:=by
 refine .flat v ay (fun z aF=> ?_) ad an;rw[h] at aF;simp only[as3,arb,asF,or_false] at aF;subst aF;exact U
theorem amD {x:aq3} {v:aqX} (h:o.op= .move x) (U:af x=v):cP P af o v:=U▸ .move x (.inl h)
theorem ah8 {x:aq3} {v:aqX} (h:o.op= .assign x) (U:af x=v):cP P af o v:=U▸ .move x (.inr h)
theorem Zd {c a b:aq3} {t:Bool} {v:aqX} (h:o.op= .pick c a b) (ab:af c= .bool t) (ad:(if t then af a else af b)=v):cP P af o v:=ad▸ .pick c a b t h ab
theorem Xz {x:aq3} {i:Nat} {vs:List aqX} {v:aqX} (h:o.op= .extract x i) (U:af x= .tuple vs.toArray) (ad:vs[i]? =aqV v):cP P af o v:= .extract x i _ v h U (by simpa using ad)
section
variable {x y:aq3} {t u:aq4} {k:aq2} {a b:Int}
theorem mD {op:BinOp} (h:o.op= .binOp op t x y u) (U:af x= .int k a) (ag:af y= .int k b) {v:aqX} (jy:∀w,(binOp op t (.int k a) (.int k b)).run P w= .ok v w) (ad:flat v=aqW):cP P af o v:=by
 refine sB (x:=x) (y:=y) (by rw[h];rfl) (by rw[h];intros;simp) (by rw[U];rfl) (by rw[ag];rfl) ad fun w=> ?_;have aH:(eqGuard op t x y (.int k a) (.int k b)).run P w= .ok () w:=by cases op<;>rfl
 simp only[execOp,h,U,ag,ars,aH,jy,arn,arF]
theorem mF {op:BinOp} (h1:op≠ .shl) (J:op≠ .shr) (w:World):(binOp op t (.int k a) (.int k b)).run P w=(match op with
   | .add| .sub| .mul=>Op.intArith op k a b
   | .quo| .rem=>Op.intDiv op k a b
   | .and| .or| .xor| .andNot=>Op.intBits op k a b
   |_=>Op.intCmp op a b).run P w:=by
 cases op<;>first|exact absurd rfl h1|exact absurd rfl J|(simp only[binOp,ne_eq,not_true_eq_false,if_false])
theorem aee (h:o.op= .binOp .add t x y u) (U:af x= .int k a) (ag:af y= .int k b):cP P af o (.int k (k.wrap (a+b))):=mD h U ag (fun w=>by rw[mF (by simp) (by simp)];rfl) rfl
theorem aeq (h:o.op= .binOp .sub t x y u) (U:af x= .int k a) (ag:af y= .int k b):cP P af o (.int k (k.wrap (a - b))):=mD h U ag (fun w=>by rw[mF (by simp) (by simp)];rfl) rfl
theorem ael (h:o.op= .binOp .mul t x y u) (U:af x= .int k a) (ag:af y= .int k b):cP P af o (.int k (k.wrap (a*b))):=mD h U ag (fun w=>by rw[mF (by simp) (by simp)];rfl) rfl
theorem Vq (h:o.op= .binOp .quo t x y u) (U:af x= .int k a) (ag:af y= .int k b) (aa:b≠0):cP P af o (.int k (k.wrap (a.tdiv b))):=mD h U ag (fun w=>by rw[mF (by simp) (by simp)];simp[Op.intDiv,aa]) rfl
theorem Vr (h:o.op= .binOp .rem t x y u) (U:af x= .int k a) (ag:af y= .int k b) (aa:b≠0):cP P af o (.int k (a.tmod b)):=mD h U ag (fun w=>by rw[mF (by simp) (by simp)];simp[Op.intDiv,aa]) rfl
def uJ (op:BinOp) (k:aq2) (x y:Int):Int:=
 let a:=BitVec.ofInt k.bits x
 let b:=BitVec.ofInt k.bits y
 match op with
 | .and=>k.wrap (a&&&b).toNat
 | .or=>k.wrap (a|||b).toNat
 | .xor=>k.wrap (a ^^^ b).toNat
 |_=>k.wrap (a&&&~~~b).toNat
theorem aef (h:o.op= .binOp .and t x y u) (U:af x= .int k a) (ag:af y= .int k b):cP P af o (.int k (uJ .and k a b)):=mD h U ag (fun w=>by rw[mF (by simp) (by simp)];rfl) rfl
theorem aep (h:o.op= .binOp .or t x y u) (U:af x= .int k a) (ag:af y= .int k b):cP P af o (.int k (uJ .or k a b)):=mD h U ag (fun w=>by rw[mF (by simp) (by simp)];rfl) rfl
theorem aer (h:o.op= .binOp .xor t x y u) (U:af x= .int k a) (ag:af y= .int k b):cP P af o (.int k (uJ .xor k a b)):=mD h U ag (fun w=>by rw[mF (by simp) (by simp)];rfl) rfl
theorem ah7 (h:o.op= .binOp .andNot t x y u) (U:af x= .int k a) (ag:af y= .int k b):cP P af o (.int k (uJ .andNot k a b)):=mD h U ag (fun w=>by rw[mF (by simp) (by simp)];rfl) rfl
theorem aeg (h:o.op= .binOp .eql t x y u) (U:af x= .int k a) (ag:af y= .int k b):cP P af o (.bool (a==b)):=mD h U ag (fun w=>by rw[mF (by simp) (by simp)];rfl) rfl
theorem aen (h:o.op= .binOp .neq t x y u) (U:af x= .int k a) (ag:af y= .int k b):cP P af o (.bool (a !=b)):=mD h U ag (fun w=>by rw[mF (by simp) (by simp)];rfl) rfl
theorem aek (h:o.op= .binOp .lss t x y u) (U:af x= .int k a) (ag:af y= .int k b):cP P af o (.bool (decide (a<b))):=mD h U ag (fun w=>by rw[mF (by simp) (by simp)];rfl) rfl
theorem aej (h:o.op= .binOp .leq t x y u) (U:af x= .int k a) (ag:af y= .int k b):cP P af o (.bool (decide (a<=b))):=mD h U ag (fun w=>by rw[mF (by simp) (by simp)];rfl) rfl
theorem aei (h:o.op= .binOp .gtr t x y u) (U:af x= .int k a) (ag:af y= .int k b):cP P af o (.bool (decide (b<a))):=mD h U ag (fun w=>by rw[mF (by simp) (by simp)];rfl) rfl
theorem aeh (h:o.op= .binOp .geq t x y u) (U:af x= .int k a) (ag:af y= .int k b):cP P af o (.bool (decide (b<=a))):=mD h U ag (fun w=>by rw[mF (by simp) (by simp)];rfl) rfl
theorem ajn {op:BinOp} {Z5:aq2} (h:o.op= .binOp op t x y u) (U:af x= .int k a) (ag:af y= .int Z5 b) (aa:0<=b) (jy:op= .shl\/op= .shr):
  cP P af o (.int k (if op= .shl then k.wrap (a*2 ^ (min b.toNat k.bits)) else a.fdiv (2 ^ (min b.toNat k.bits)))):=by
 refine sB (x:=x) (y:=y) (by rw[h];rfl) (by rw[h];intros;simp) (by rw[U];rfl) (by rw[ag];rfl) rfl fun w=> ?_;have ar:¬b<0:=by omega
 rcases jy with rfl|rfl
 ·simp[execOp,h,U,ag,eqGuard,binOp,Op.shift,ar]
 ·simp[execOp,h,U,ag,eqGuard,binOp,Op.shift,ar]
theorem aeo {b:Bool} (h:o.op= .unOp .not t x) (U:af x= .bool b):cP P af o (.bool (!b)):=
 He (x:=x) (by rw[h];rfl) (by rw[h];intros;simp) (by rw[U];rfl) rfl fun w=>by simp only[execOp,h,U];rfl
theorem aem (h:o.op= .unOp .neg t x) (U:af x= .int k a):cP P af o (.int k (k.wrap (0 - a))):=
 He (x:=x) (by rw[h];rfl) (by rw[h];intros;simp) (by rw[U];rfl) rfl fun w=>by simp only[execOp,h,U];rfl
theorem amr {d:TypeDesc} {dc:aq2} (h:o.op= .convert t u x) (ao:P.underlying t=aqV d) (hu:P.underlying u=aqV (.int dc)) (U:af x= .int k a):cP P af o (.int dc (dc.wrap a)):=
 He (x:=x) (by rw[h];rfl) (by rw[h];intros;simp) (by rw[U];rfl) rfl fun w=>by simp[execOp,h,U,convert,ee ao,ee hu,Conv.intToInt]
theorem amB {ts:Array aq4} (h:o.op= .call {callee:= .builtin .max,args:=#[x,y],argTypes:=ts}) (U:af x= .int k a) (ag:af y= .int k b):cP P af o (.int k (max a b)):=by
 refine sB (x:=x) (y:=y) (by rw[h];rfl) (by rw[h];intros;simp) (by rw[U];rfl) (by rw[ag];rfl) rfl fun w=> ?_;have:(asK k (if b>a then b else a))= .int k (max a b):=by congr 1;split<;>omega
 rw[<-this];simp[execOp,h,U,ag,resolve,invoke,builtin,Builtin.max_,List.foldlM,Builtin.max2]
theorem amC {ts:Array aq4} (h:o.op= .call {callee:= .builtin .min,args:=#[x,y],argTypes:=ts}) (U:af x= .int k a) (ag:af y= .int k b):cP P af o (.int k (min a b)):=by
 refine sB (x:=x) (y:=y) (by rw[h];rfl) (by rw[h];intros;simp) (by rw[U];rfl) (by rw[ag];rfl) rfl fun w=> ?_;have:(asK k (if b<a then b else a))= .int k (min a b):=by congr 1;split<;>omega
 rw[<-this];simp[execOp,h,U,ag,resolve,invoke,builtin,Builtin.min_,List.foldlM,Builtin.min2]
end
section
variable {x y:aq3} {t u:aq4} {s r:List UInt8}
theorem zr:(⟨s.toArray⟩:ByteArray).size=s.length:=by simp[ByteArray.size]
theorem amy {ts:Array aq4} (h:o.op= .call {callee:= .builtin .len,args:=#[x],argTypes:=ts}) (UT:ts[0]? =aqV t) (ao:P.underlying t=aqV .string) (U:af x=str s):cP P af o (.int .i64 s.length):=
 He (x:=x) (by rw[h];rfl) (by rw[h];intros;simp) (by rw[U];rfl) rfl fun w=>by simp[execOp,h,U,resolve,invoke,builtin,Builtin.len_,UT,str,ee ao,goInt,zr]
theorem ah9 {k:aq2} {n:Int} {c:UInt8} (h:o.op= .index t x y) (ao:P.underlying t=aqV .string) (U:af x=str s) (ag:af y= .int k n) (aI:0<=n) (ab:s[n.toNat]? =aqV c):cP P af o (.int .u8 c.toNat):=by
 refine sB (x:=x) (y:=y) (by rw[h];rfl) (by rw[h];intros;simp) (by rw[U];rfl) (by rw[ag];rfl) rfl fun w=> ?_;have aH:(⟨s.toArray⟩:ByteArray)[n.toNat]? =aqV c:=by have aN:=(aq5.1 ab).1;have J:=(aq5.1 ab).2;rw[getElem?_pos (h:=by rw[zr];exact aN)];congr 1
 simp[execOp,h,U,ag,Instr.index,asIntOf,ee ao,str,aI,aH]
theorem aeT (i k:Nat):(⟨s.toArray⟩:ByteArray).extract i k=⟨((s.take k).drop i).toArray⟩:=by
 have:((⟨s.toArray⟩:ByteArray).extract i k).data=((s.take k).drop i).toArray:=by rw[ByteArray.data_extract];simp[atY]
 cases aa:(⟨s.toArray⟩:ByteArray).extract i k;rw[aa] at this;simp only at this;rw[this]
theorem ah' {bG ae:Option aq3} {a b:Nat} (h:o.op= .slice t x bG ae aqY) (ao:P.underlying t=aqV .string) (U:af x=str s) (e0:q8 af bG a) (ef:ov af ae s.length b)
  (h1:a<=b) (J:b<=s.length):cP P af o (str ((s.take b).drop a)):=by
 refine .flat _ (by rw[h];intros;simp) (fun z aF=> ?_) rfl fun w=> ?_
 ·rw[h] at aF;cases bG with
  |none=>cases ae with
   |none=>simp[aq'] at aF;subst aF;rw[U];rfl
   |some y=>
    obtain ⟨k,ag⟩:=ef;simp[aq'] at aF;rcases aF with rfl|rfl
    ·rw[U];rfl
    ·rw[ag];rfl
  |some q=>
   obtain ⟨dc,aJ⟩:=e0;cases ae with
   |none=>
    simp[aq'] at aF;rcases aF with rfl|rfl
    ·rw[U];rfl
    ·rw[aJ];rfl
   |some y=>
    obtain ⟨k,ag⟩:=ef;simp[aq'] at aF;rcases aF with rfl|rfl|rfl
    ·rw[U];rfl
    ·rw[aJ];rfl
    ·rw[ag];rfl
 ·have nX:(arO aqZ s.length s.length (bG.map af) (ae.map af) aqY).run P w= .ok (a,b,s.length) w:=by
   cases bG with
   |none=>
    simp only[q8] at e0;subst e0;cases ae with
    |none=>simp only[ov] at ef;subst ef;simp[arO]
    |some y=>obtain ⟨k,ag⟩:=ef;simp[arO,ag,asr,asIntOf,J]
   |some q=>
    obtain ⟨dc,aJ⟩:=e0;cases ae with
    |none=>simp only[ov] at ef;subst ef;simp[arO,aJ,asr,asIntOf,h1]
    |some y=>obtain ⟨k,ag⟩:=ef;simp[arO,ag,aJ,asr,asIntOf,h1,J]
  simp only[execOp,h,atu,ars,ee ao,arn,atZ,atv,U,str,Option.isSome_none,arE,if_false,arF,zr,nX,aeT]
theorem wC {op:BinOp} (h:o.op= .binOp op t x y u) (U:af x=str s) (ag:af y=str r) (tS:op≠ .shl/\op≠ .shr) {v:aqX} (jy:∀w,(as' op ⟨s.toArray⟩ ⟨r.toArray⟩).run P w= .ok v w) (ad:flat v=aqW):cP P af o v:=by
 refine sB (x:=x) (y:=y) (by rw[h];rfl) (by rw[h];intros;simp) (by rw[U];rfl) (by rw[ag];rfl) ad fun w=> ?_;have aH:(eqGuard op t x y (str s) (str r)).run P w= .ok () w:=by cases op<;>rfl
 have aa:(binOp op t (str s) (str r)).run P w= .ok v w:=by rw[<-jy w];cases op<;>first|exact absurd rfl tS.1|exact absurd rfl tS.2|rfl
 simp only[execOp,h,U,ag,ars,aH,aa,arn,arF]
def uZ (s r:List UInt8):Bool:=Op.bytesLess s r
theorem Ag (l:List UInt8):(⟨l.toArray⟩:ByteArray).toList=l:=by rw[Go.ByteArray.toList_eq]
theorem amt (h:o.op= .binOp .eql t x y u) (U:af x=str s) (ag:af y=str r):cP P af o (.bool (s==r)):=wC h U ag (by simp) (fun w=>by simp only[as',Ag];rfl) rfl
theorem amF (h:o.op= .binOp .neq t x y u) (U:af x=str s) (ag:af y=str r):cP P af o (.bool (!(s==r))):=wC h U ag (by simp) (fun w=>by simp only[as',Ag];rfl) rfl
theorem amA (h:o.op= .binOp .lss t x y u) (U:af x=str s) (ag:af y=str r):cP P af o (.bool (uZ s r)):=wC h U ag (by simp) (fun w=>by simp only[as',Ag];rfl) rfl
theorem amz (h:o.op= .binOp .leq t x y u) (U:af x=str s) (ag:af y=str r):cP P af o (.bool (uZ s r||(s==r))):=wC h U ag (by simp) (fun w=>by simp only[as',Ag];rfl) rfl
theorem amv (h:o.op= .binOp .gtr t x y u) (U:af x=str s) (ag:af y=str r):cP P af o (.bool (!(uZ s r||(s==r)))):=wC h U ag (by simp) (fun w=>by simp only[as',Ag];rfl) rfl
theorem amu (h:o.op= .binOp .geq t x y u) (U:af x=str s) (ag:af y=str r):cP P af o (.bool (!uZ s r)):=wC h U ag (by simp) (fun w=>by simp only[as',Ag];rfl) rfl
theorem ahU:(⟨s.toArray⟩:ByteArray)++(⟨r.toArray⟩:ByteArray)=⟨(s++r).toArray⟩:=by
 have:((⟨s.toArray⟩:ByteArray)++(⟨r.toArray⟩:ByteArray)).data=(s++r).toArray:=by rw[ByteArray.data_append];simp
 cases aa:(⟨s.toArray⟩:ByteArray)++(⟨r.toArray⟩:ByteArray);rw[aa] at this;simp only at this;rw[this]
theorem amq (h:o.op= .binOp .add t x y u) (U:af x=str s) (ag:af y=str r) (ah:s.length+r.length<=9223372036854775807):cP P af o (str (s++r)):=wC h U ag (by simp) (fun w=>by
 simp only[as',zr,atf.2 ah];rw[if_neg (by show ¬_>(9223372036854775807:Int);omega),ahU];rfl) rfl
theorem WM {op:BinOp} {a b:Bool} (h:o.op= .binOp op t x y u) (ao:P.underlying t=aqV .bool) (U:af x= .bool a) (ag:af y= .bool b) (jy:op= .eql\/op= .neq):cP P af o (.bool (if op= .eql then a==b else !(a==b))):=by
 refine sB (x:=x) (y:=y) (by rw[h];rfl) (by rw[h];intros;simp) (by rw[U];rfl) (by rw[ag];rfl) rfl fun w=> ?_;have he:(Op.equal t (.bool a) (.bool b)).run P w= .ok (a==b) w:=by
  have aB:∀d:Nat,(ata (d+1) t (.bool a) (.bool b)).run P w= .ok (a==b) w:=fun d=>by simp only[ata,ars,ee ao,arn,arF]
  exact aB 9999
 have aH:(eqGuard op t x y (.bool a) (.bool b)).run P w= .ok () w:=by rcases jy with rfl|rfl<;>rfl
 have aa:(binOp op t (.bool a) (.bool b)).run P w= .ok (.bool (if op= .eql then a==b else !(a==b))) w:=by
  rcases jy with rfl|rfl
  ·show (do pure (aqX.bool (<-Op.equal t (.bool a) (.bool b))):Sem aqX).run P w=_;simp only[ars,he,arn,arF,if_true]
  ·show (do pure (aqX.bool (!(<-Op.equal t (.bool a) (.bool b)))):Sem aqX).run P w=_;simp only[ars,he,arn,arF];rfl
 simp only[execOp,h,U,ag,ars,aH,aa,arn,arF]
theorem ams {a b:Bool} (h:o.op= .binOp .eql t x y u) (ao:P.underlying t=aqV .bool) (U:af x= .bool a) (ag:af y= .bool b):cP P af o (.bool (a==b)):=WM h ao U ag (.inl rfl)
theorem amE {a b:Bool} (h:o.op= .binOp .neq t x y u) (ao:P.underlying t=aqV .bool) (U:af x= .bool a) (ag:af y= .bool b):cP P af o (.bool (!(a==b))):=WM h ao U ag (.inr rfl)
end
end
end Go.aS
end
section
namespace Go.aS
def aR {au:Type} (xs:List au) (i:Int):Option au:=if 0<=i then xs[i.toNat]? else aqY
theorem pe {au:Type} {xs:List au} {i:Int} {x:au} (h:aR xs i=aqV x):0<=i/\i<xs.length/\xs[i.toNat]? =aqV x:=by
 unfold aR at h;split at h
 ·have:=(aq5.1 h).1;exact ⟨‹_›,by omega,h⟩
 ·cases h
def aab (z:Nat->a6) (p:aqX) (cs:List aqX):Prop:=∃b o,p= .pointer (aqV ⟨b,o,aqY⟩)/\nw z b o cs
def Q5 (m:Mem) (p:aqX) (cs:List aqX):Prop:=∃b o,p= .pointer (aqV ⟨b,o,aqY⟩)/\∀(i:Nat) (u:aqX),cs[i]? =aqV u->m.load b (o+i)=aqV u
section
variable {P:aq1} {af:aq3->aqX} {o:Oper} {au:Type} {T:cf au} {z:Nat->a6} {m:Mem} {xs:List au} {v:aqX} {x y:aq3} {t e u:aq4} {i:TypeInfo} {d:TypeDesc}
theorem Hj {b:Nat}:∀(n off:Nat) (cs:List aqX),cs.length=n->(∀(i:Nat) (u:aqX),cs[i]? =aqV u->m.load b (off+i)=aqV u)->jH m b off n=aqV cs
 |0,off,cs,ah,_=>by rw[asw ah];rfl
 |n+1,off,c::cs,ah,h=>by
  have aI:=h 0 c (by simp);have a8:=Hj n (off+1) cs (by simpa using ah) fun i u ae=>by have:=h (i+1) u (by simpa using ae);rw[show off+1+i=off+(i+1) by omega];exact this
  simp only[arJ] at aI;simp only[jH,aI,a8]
 |n+1,off,[],ah,_=>by simp at ah
theorem amx {k:aq2} {n:Int} {a:au} (h:o.op= .indexAddr t x y) (ao:P.underlying t=aqV (.slice e)) (ae:P.info? e=aqV i) (bE:i.size=T.a1) (U:af x=v) (ag:af y= .int k n) (ay:er T z xs v) (aH:aR xs n=aqV a):
  ∃p cs,cP P af o p/\T.rd z a cs/\aab z p cs:=by
 obtain ⟨aI,h1,J⟩:=pe aH;rcases ay with ⟨_,rfl⟩|⟨b,off,c,rfl,_,_,aM⟩
 ·simp at J
 ·obtain ⟨cs,g1,g2⟩:=aM _ a J;exact ⟨_,cs, .indexAddr t x y e i b off _ c k n h ao ae U ag aI h1,g1,b,_,rfl,by rw[bE];exact g2⟩
def aaf (s:Nat) (v:aqX) (n:Nat) (p:aqX):Prop:=∃b f0 l c,v= .slice (aqV ⟨b,f0,aqY⟩) l c/\p= .pointer (aqV ⟨b,f0+n*s,aqY⟩)
theorem amw {k:aq2} {n:Int} {a:au} (h:o.op= .indexAddr t x y) (ao:P.underlying t=aqV (.slice e)) (ae:P.info? e=aqV i) (bE:i.size=T.a1) (U:af x=v) (ag:af y= .int k n) (ay:eG T z m xs v) (aH:aR xs n=aqV a):
  ∃p cs,cP P af o p/\T.rd z a cs/\Q5 m p cs/\aaf T.a1 v n.toNat p:=by
 obtain ⟨aI,h1,J⟩:=pe aH;rcases ay with ⟨_,rfl⟩|⟨b,f0,L,c,rfl,aa,_,_,ah,_,aM⟩
 ·simp at J
 ·obtain ⟨cs,g1,g2⟩:=aM _ a J;refine ⟨_,cs, .indexAddr t x y e i b f0 _ c k n h ao ae U ag aI h1,g1,⟨b,_,rfl,fun j u av=> ?_⟩,⟨b,f0,_,c,rfl,by rw[bE]⟩⟩;simp only[Mem.load,aa,bE];exact g2 j u av
def fX {au:Type} (xs:List au) (a b:Int):Option (List au):=if 0<=a/\a<=b/\b<=xs.length then aqV ((xs.take b.toNat).drop a.toNat) else aqY
theorem NN {xs:List au} {a b:Int} {r:List au} (h:fX xs a b=aqV r):0<=a/\a<=b/\b<=xs.length/\r=(xs.take b.toNat).drop a.toNat:=by
 unfold fX at h;split at h
 ·rename_i ab;cases h;exact ⟨ab.1,ab.2.1,ab.2.2,rfl⟩
 ·cases h
def yZ (af:aq3->aqX) (bG:Option aq3) (n:Int):Prop:=
 match bG with
 |none=>n=0
 |some y=>∃k,af y= .int k n
def zK (af:aq3->aqX) (ae:Option aq3) (l:Nat) (n:Int):Prop:=
 match ae with
 |none=>n=l
 |some y=>∃k,af y= .int k n
theorem Ha {af:aq3->aqX} {bG:Option aq3} {n:Nat} (h:yZ af bG n):q8 af bG n:=by
 cases bG with
 |none=>simp only[yZ] at h;simp only[q8];omega
 |some y=>exact h
theorem GG {af:aq3->aqX} {ae:Option aq3} {l n:Nat} (h:zK af ae l n):ov af ae l n:=by
 cases ae with
 |none=>simp only[zK] at h;simp only[ov];omega
 |some y=>exact h
theorem G7 {xs:List au} {a b k:Nat} {r:au} (h:((xs.take b).drop a)[k]? =aqV r):xs[a+k]? =aqV r:=by
 rw[ar6,arK] at h;split at h
 ·exact h
 ·cases h
theorem Ys {P:aq1} {C:FuncId->Array aqX->Mem->aqX->Mem->Prop} {b off:Nat} {L cs:List aqX} (h:o.op= .store t x y) (ae:P.info? t=aqV i) (U:af x= .pointer (aqV ⟨b,off,aqY⟩)) (hm:m.aG b= .own L e) (ad:storable (af y)=aqW) (hC:(af y).cells.toList=cs) (ay:cs.length=i.size) (ah:off+cs.length<=L.length):
  gF P C af o m undef (m.put b (.own (eU L off cs) e)):=by
 subst hC;exact .store t x y b off i L e h U ae hm ad (by simpa using ay) (by rw[<-ay];exact ah)
theorem CM {b:Nat} {x:a6} (aB:∀b,m.next<=b->m.aG b= .dead) (aa:b<m.next):e5 m (m.put b x) (aqV b):=by
 refine ⟨aq9 _,fun c ab=> ?_,fun c ab hk=> ?_⟩
 ·have ab:m.next<=c:=ab;simp only[Mem.put];rw[if_neg (by omega)];exact aB c ab
 ·simp only[Mem.put];rw[if_neg (fun h=>hk (by rw[h]))]
theorem Cz {x:a6} (aB:∀b,m.next<=b->m.aG b= .dead):e5 m (m.push x) aqY:=by
 refine ⟨arL _,fun c ab=> ?_,fun c ab _=> ?_⟩
 ·simp only[Mem.push] at ab⊢;rw[if_neg (by omega)];exact aB c (by omega)
 ·simp only[Mem.push];rw[if_neg (by omega)]
theorem eG.same {m':Mem} {q:Option Nat} (h:eG T z m xs v) (s:e5 m m' q) (dy:ei (cp v) q):eG T z m' xs v:=
 h.frame fun b aa aN=>⟨s.aG b aN (fun aJ=>dy b aa aJ),aru aN s.next⟩
theorem ag3 {m':Mem} {q:Option Nat} {b:Nat} {X:a6} (h:m.aG b=X) (aa:b<m.next) (s:e5 m m' q) (dy:q≠aqV b):m'.aG b=X/\b<m'.next:=⟨by rw[s.aG b aa dy];exact h,aru aa s.next⟩
theorem eG.store {n:Nat} {a a':au} {cs cs':List aqX} {f:Nat} {new:List aqX} {b f0 l c:Nat} (ay:eG T z m xs v) (aB:∀b,m.next<=b->m.aG b= .dead) (ad:v= .slice (aqV ⟨b,f0,aqY⟩) l c) (aq:xs[n]? =aqV a) (an:T.rd z a cs) (ab:Q5 m (.pointer (aqV ⟨b,f0+n*T.a1,aqY⟩)) cs) (nj:T.rd z a' cs') (hC:cs'=eU cs f new) (aP:f+new.length<=cs.length):
  ∃L,m.aG b= .own L T.tid/\f0+n*T.a1+f+new.length<=L.length/\eG T z (m.put b (.own (eU L (f0+n*T.a1+f) new) T.tid)) (xs.set n a') v/\e5 m (m.put b (.own (eU L (f0+n*T.a1+f) new) T.tid)) (aqV b):=by
 rcases ay with ⟨rfl,_⟩|⟨b6,f1,L,bQ,mx,aa,aN,aF,ah,ka,h5⟩
 ·cases ad
 ·subst ad;simp only[aqX.slice.injEq,arr.injEq,Addr.mk.injEq,and_true] at mx;obtain ⟨⟨rfl,rfl⟩,rfl,rfl⟩:=mx;have ar:n<xs.length:=(aq5.1 aq).1;have hlen:=T.len z a cs an;have yK:=T.len z a' cs' nj;have qL:f0+n*T.a1+T.a1<=L.length:=by
   have:(n+1)*T.a1<=xs.length*T.a1:=asf _ ar;rw[art,asv] at this;omega
  have cC:(eU L (f0+n*T.a1+f) new).length=L.length:=pg _ _ _;refine ⟨L,aa,by omega, .inr ⟨b,f0,eU L (f0+n*T.a1+f) new,c,by simp,by simp[Mem.put],aN,aF,by rw[cC];simpa using ah,by rw[cC];simpa using ka,fun k w hk=> ?_⟩,CM aB aN⟩;rw[List.getElem?_set] at hk;by_cases rS:n=k
  ·subst rS;simp[ar] at hk;subst hk;refine ⟨cs',nj,fun q u aJ=> ?_⟩;have UL:=(aq5.1 aJ).1;rw[hC,ou _ _ _ _ aP] at aJ;rw[ou _ _ _ _ (by omega)];by_cases fC:f<=q/\q<f+new.length
   ·rw[if_pos fC] at aJ;rw[if_pos (by omega),show f0+n*T.a1+q - (f0+n*T.a1+f)=q - f by omega];exact aJ
   ·rw[if_neg fC] at aJ;rw[if_neg (by omega)];obtain ⟨gj,gW,ap,abJ⟩:=ab;simp only[aqX.pointer.injEq,arr.injEq,Addr.mk.injEq,and_true] at ap;obtain ⟨rfl,rfl⟩:=ap;have:=abJ q u aJ;simp only[Mem.load,aa] at this;exact this
  ·rw[if_neg rS] at hk;obtain ⟨TE,g1,g2⟩:=h5 k w hk;refine ⟨TE,g1,fun q u aJ=> ?_⟩;have UL:=(aq5.1 aJ).1;rw[T.len z w TE g1] at UL;rw[ou _ _ _ _ (by omega)];have lX:¬(f0+n*T.a1+f<=f0+k*T.a1+q/\f0+k*T.a1+q<f0+n*T.a1+f+new.length):=by
    rcases Nat.lt_or_gt_of_ne rS with cq|cq
    ·have:(n+1)*T.a1<=k*T.a1:=asf _ cq;rw[art,asv] at this;omega
    ·have:(k+1)*T.a1<=n*T.a1:=asf _ cq;rw[art,asv] at this;omega
   rw[if_neg lX];exact g2 q u aJ
end
end Go.aS
end
