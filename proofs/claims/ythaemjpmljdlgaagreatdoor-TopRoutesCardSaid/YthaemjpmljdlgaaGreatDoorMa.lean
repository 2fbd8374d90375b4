import Derived.Calls
import Derived.Orders
import Derived.Tactics
import Derived.Below
import Derived.Defers
import Derived.WalkKit
import Derived.WalkSpells
import Derived.Scope
set_option linter.unusedSimpArgs false
set_option linter.unusedVariables false
open Array renaming ext'->asB,ext_getElem?->auJ,foldl_toList->auX,getD->atq,getD_eq_getD_getElem?->aub,getElem?_append_left->atM,getElem?_eq_some_iff->ar6,getElem?_modify->auK,getElem?_push->auF,getElem?_setIfInBounds_ne->auG,getElem?_setIfInBounds_self_of_lt->avg,getElem?_toList->atx,getElem_setIfInBounds->avh,isEmpty_iff->auL,mem_of_getElem?->aty,range->atn,replicate->asr,toList_append->au0,toList_extract->auY,toList_map->as6
open Bool renaming and_eq_true->arq,false_eq_true->asf,not_eq_true'->aso,or_eq_true->asi,false->arj,true->arf
open Go renaming IntKind->aro,Operand->arm,Program->arl,TypeId->arn,Value->arh
open Go.Act renaming put->as2
open Go.Builtin renaming append_->ato,firstCells->asX,lenOf->atN,zeroCells->atQ
open Go.Call renaming operands->asj
open Go.Conv renaming bytesToString->auZ
open Go.Instr renaming lookup->at2,mapUpdate->au4,slice->atA,sliceAt->atz,sliceBound->asu,sliceBounds->ar1,sureAddr->auj
open Go.IntKind renaming wrap->art
open Go.Op renaming operands->arv
open Go.Oper renaming wp->as'
open Go.Program renaming cellsOf->asm
open Go.Question renaming forced->auH
open Go.Region renaming before->asa,binds->ata,ready->at7,wanted->asT
open Go.Result renaming andThen->at3,andThen_ok->arN
open Go.Sem renaming run_bind->arV,run_pure->ar0
open Go.Value renaming int->asM
open Go.World renaming block_lt_of_cell?->aui,cell?->atl,freeze->auI
open List renaming all_cons->asb,all_eq_true->arz,eq_nil_of_length_eq_zero->asJ,ext_getElem?->as8,extract_eq_drop_take'->auD,filter_cons->ati,flatMap_cons->asl,flatMap_nil->at1,getElem?_cons_succ->asZ,getElem?_cons_zero->atp,getElem?_drop->asE,getElem?_eq_some_iff->arp,getElem?_map->ar4,getElem?_take->asg,getElem?_toArray->at4,length_append->arJ,length_cons->arU,length_drop->asD,length_nil->ath,length_take->asq,map_cons->asc,map_nil->atS,map_toArray->au3,mem_append->arO,mem_cons->arA,mem_filter->aua,mem_flatMap->as0,mem_flatten->au1,mem_map->arC,mem_of_getElem?->arI,mem_of_mem_drop->at6,mem_of_mem_take->atE,mem_range->asF,mem_replicate->au2,mem_singleton->ase,mem_toArray->atw,range->ar2,replicate->arL,take_zero->atO
open Nat renaming add_assoc->arZ,add_eq_left->auM,add_mul->arW,add_mul_div_right->auE,add_zero->ar3,le_of_lt->asd,le_refl->ars,le_succ->ar7,le_trans->arR,lt_irrefl->atC,lt_of_le_of_lt->atB,lt_of_lt_of_le->arT,lt_or_ge->ar',lt_succ_of_lt->atT,lt_succ_self->ash,lt_trichotomy->as1,min->as4,mul_le_mul_right->asC,ne_of_lt->as5,not_lt->atv,one_ne_zero->aul,zero_add->arE,zero_le->ass,zero_mul->asz
open Option renaming bind_some->auW,getD_some->asN,map_none->auk,map_some->asQ,some->arw,none->ari,some->are
open True renaming intro->arH
section
namespace Go.aQ
def bT:Nat:=9223372036854775808
structure iL where
 ay:Nat
 cap:Nat
 es:Nat
 c0:Nat
def bb:Type:=Nat->Option iL
inductive aV where
 |dead
 |ro (rd:Nat->Option arh)
 |own (cells:List arh) (elem:arn)
 |map (cells:List arh) (type:arn)
 |lock (nest at_:Nat) (cells:List arh) (elem:arn)
def aV.gj:aV->Bool
 | .own _ _| .map _ _=>arf
 |_=>arj
def aV.live:aV->Bool
 | .dead=>arj
 |_=>arf
structure Mem where
 next:Nat
 ay:Nat->aV
def Mem.load (m:Mem) (b o:Nat):Option arh:=
 match m.ay b with
 | .ro rd=>rd o
 | .own L _=>L[o]?
 | .map _ _=>ari
 | .lock _ _ _ _=>ari
 | .dead=>ari
def Mem.put (m:Mem) (b:Nat) (x:aV):Mem:={m with ay:=fun i=>if i=b then x else m.ay i}
def Mem.push (m:Mem) (x:aV):Mem:={next:=m.next+1,ay:=fun i=>if i=m.next then x else m.ay i}
def Mem.lM (m:Mem) (n:Nat):Mem:={next:=n,ay:=fun i=>if i<n then m.ay i else .dead}
def a1 {al bs:Type} (R:al->bs->Prop):List al->List bs->Prop
 |[],[]=>True
 |a::l,b::k=>R a b/\a1 R l k
 |_,_=>False
def jy (j:bb):arh->arh->Prop
 | .pointer (are a),aS=>∃e,a.spot=ari/\j a.block=are e/\aS= .pointer (are ⟨e.ay,e.c0+a.off,ari⟩)
 |_,_=>False
def dr (j:bb):arh->arh->Prop
 | .pointer (are a),aS=>∃e,a.spot=ari/\j a.block=are e/\aS= .pointer (are ⟨e.ay,e.c0+a.off,ari⟩)
 | .slice (are a) l c,aS=>∃e,a.spot=ari/\j a.block=are e/\
   ((c<bT/\aS= .slice (are ⟨e.ay,e.c0+a.off,ari⟩) l c)\/
    (c=bT/\0<e.es/\l<=e.cap - a.off / e.es/\e.cap<bT/\a.off%e.es=0/\a.off / e.es<=e.cap/\aS= .slice (are ⟨e.ay,e.c0+a.off,ari⟩) l (e.cap - a.off / e.es))\/
    (c=bT/\l=0/\∃o',aS= .slice (are ⟨e.ay,o',ari⟩) 0 0)\/
    (c=0/\l=0/\∃a',aS= .slice (are a') 0 0)\/
    (∃k,c=bT+k/\0<k/\l<=k/\0<e.es/\k<=e.cap - a.off / e.es/\e.cap<bT/\a.off%e.es=0/\a.off / e.es<=e.cap/\aS= .slice (are ⟨e.ay,e.c0+a.off,ari⟩) l (e.cap - a.off / e.es)))
 | .map (are r),aS=>∃e,j r=are e/\aS= .map (are e.ay)
 | .func fn aY cs,aS=>aY=#[]/\∃ds:Array arh,aS= .func fn #[] ds/\a1 (jy j) cs.toList ds.toList
 | .chan _,_| .iface ..,_| .agg _,_| .tuple _,_=>False
 |v,aS=>aS=v
def eg (j:bb):arh->arh->Prop
 | .agg cs,aS=>∃ds:Array arh,aS= .agg ds/\a1 (dr j) cs.toList ds.toList
 |v,aS=>dr j v aS
def bU (j:bb):arh->arh->Prop
 | .chan _,aS=>∀b,aS≠ .bool b
 | .tuple cs,aS=>∃ds:Array arh,aS= .tuple ds/\a1 (eg j) cs.toList ds.toList
 | .func fn aY cs,aS=>∃gs ds:Array arh,aS= .func fn gs ds/\a1 (eg j) aY.toList gs.toList/\a1 (eg j) cs.toList ds.toList
 |v,aS=>eg j v aS
def b7:arh->Bool
 | .bool _| .int _ _| .float _ _| .complex _ _ _| .string _| .pointer ari| .slice ari _ _| .map ari| .nilFunc| .nilIface=>arf
 | .func _ aY cs=>aY.isEmpty&&cs.isEmpty
 |_=>arj
def jz:TypeDesc->Bool
 | .struct _| .array _ _=>arf
 |_=>arj
def cB (P:arl) (t:arn):Bool:=
 match P.underlying t with
 |some d=>jz d
 |none=>arj
def cN:Bool->List arh->arh
 |true,cs=> .agg cs.toArray
 |false,cs=>cs.headD undef
structure mo (ks vs:Nat) (L:List arh) (E:List (List arh×List arh)):Prop where
 eq:L=E.flatMap fun p=>p.1++p.2
 len:∀p∈E,p.1.length=ks/\p.2.length=vs
def ru (P:arl) (j:bb) (kt vt:arn) (p:List arh×List arh) (x:MapEntry):Prop:=
 x.key=cN (cB P kt) p.1/\p.1.all b7=arf/\eg j (cN (cB P vt) p.2) x.val
def wY (cs:Array MapEntry) (clock:Nat):Prop:=(cs.toList.map (·.born)).Nodup/\∀x∈cs.toList,x.born<clock
def nT (P:arl) (j:bb) (e:iL) (o:Option Obj):aV->Prop
 | .dead=>True
 | .ro rd=>∀i v,rd i=are v->∃(cs:Array arh) (t:arn) (a6:Nat×Nat) (aS:arh),o=are (.cells cs t a6)/\cs[e.c0+i]? =are aS/\dr j v aS
 | .own L t=>∃(cs:Array arh) (a6:Nat×Nat),o=are (.cells cs t a6)/\(∀i:Nat,i<cs.size->¬(a6.1<=i/\i<a6.2))/\
  P.cellsOf t=e.es/\e.c0+e.cap*e.es<=cs.size/\L.length<=e.cap*e.es/\∀(i:Nat) (v:arh),L[i]? =are v->∃aS,cs[e.c0+i]? =are aS/\dr j v aS
 | .map L u=>∃(kt vt:arn) (cs:Array MapEntry) (clock:Nat) (E:List (List arh×List arh)),o=are (.map cs clock)/\P.underlying u=are (.map kt vt)/\
  mo (P.cellsOf kt) (P.cellsOf vt) L E/\a1 (ru P j kt vt) E cs.toList/\wY cs clock
 | .lock _ _ _ _=>False
def QH (P : arl) (g : Nat) : Prop := P.globalNamed "internal/bytealg.MaxLen" = are g ∨ P.globalNamed "internal/strconv.uint64pow10" = are g
structure iu (P:arl) (w:World):Prop where
 len : ∀ g, P.globalNamed "internal/bytealg.MaxLen" = are g → ∃ m, w.cell? ⟨g, 0, ari⟩ = are (.int .i64 m)
 pow : ∀ g, P.globalNamed "internal/strconv.uint64pow10" = are g → w.var? P "internal/strconv.uint64pow10" = are ((ar2 20).map fun i => asM .u64 ((10 ^ i : Nat) : Int)).toArray
structure En (P:arl) (j:bb) (m:Mem) (w:World):Prop where
 val:iu P w
 sep:∀b e,j b=are e->(m.ay b).gj=arf->¬QH P e.ay
structure SV (P:arl) (j:bb) (m:Mem) (w:World):Prop where
 lt:∀b e,j b=are e->b<m.next/\e.ay<w.heap.size
 obj:∀b e,j b=are e->nT P j e w.heap[e.ay]? (m.ay b)
 inj:∀b bV e bp,j b=are e->j bV=are bp->(m.ay b).gj=arf->(m.ay bV).live=arf->e.ay=bp.ay->b=bV
structure Rel (P:arl) (j:bb) (m:Mem) (w:World):Prop extends SV P j m w where
 iI:En P j m w
structure rv (j:bb) (m:Mem) (w w':World):Prop where
 os:w'.os=w.os
 tape:w'.tape=w.tape
 output:w'.output=w.output
 size:w.heap.size<=w'.heap.size
 block:∀c,c<w.heap.size->(∀b e,j b=are e->(m.ay b).gj=arf->e.ay≠c)->w'.heap[c]? =w.heap[c]?
structure Post (P:arl) (j:bb) (m:Mem) (w:World) (bw:bb) (m':Mem) (w':World):Prop where
 rel:Rel P bw m' w'
 dA:rv j m w w'
 next:m.next<=m'.next
 ext:∀b,b<m.next->bw b=j b
 fresh:∀b e,bw b=are e->m.next<=b->w.heap.size<=e.ay\/∃cM cH,j cM=are cH/\(m.ay cM).gj=arf/\cH.ay=e.ay
 cK:∀b,b<m.next->(m'.ay b).gj=arf->(m.ay b).gj=arf
 alive:∀b,b<m.next->(m'.ay b).live=arf->(m.ay b).live=arf
theorem iu.lt {P:arl} {w:World} (h:iu P w) {g:Nat} (aM:QH P g):g<w.heap.size:=by
 rcases aM with aM|aM
 ·obtain ⟨m,hm⟩:=h.len g aM;exact aui w ⟨g,0,ari⟩ hm
 ·have:=h.pow g aM;unfold World.var? at this;rw[aM] at this;simp only[auW] at this;split at this
  ·rename_i ad;exact (ar6.1 ad).1
  ·cases this
theorem iu.keep {P:arl} {w w':World} (h:iu P w) (hk:∀g,QH P g->w'.heap[g]? =w.heap[g]?):iu P w':=
 ⟨fun g aM=>by obtain ⟨m,hm⟩:=h.len g aM;exact ⟨m,by rw[<-hm];simp only[atl,hk g (.inl aM)]⟩,
  fun g aM=>by rw[<-h.pow g aM];simp only[World.var?,aM,auW,hk g (.inr aM)]⟩
theorem En.step {P:arl} {j bw:bb} {m m':Mem} {w w':World} (t:En P j m w) (aK:rv j m w w') (he:∀b,b<m.next->bw b=j b)
  (av:∀b e,bw b=are e->m.next<=b->w.heap.size<=e.ay\/∃cM cH,j cM=are cH/\(m.ay cM).gj=arf/\cH.ay=e.ay) (ag:∀b,b<m.next->(m'.ay b).gj=arf->(m.ay b).gj=arf):En P bw m' w':=
 ⟨t.val.keep fun g aM=>aK.block g (t.val.lt aM) fun b e ab bP h=>t.sep b e ab bP (h▸aM),fun b e ab bP aM=>by
  rcases ar' b m.next with aO|eT
  ·exact t.sep b e ((he b aO).symm.trans ab) (ag b aO bP) aM
  ·rcases av b e ab eT with h1|⟨cM,cH,h1,J,aj⟩
   ·exact absurd (t.val.lt aM) (atv.2 h1)
   ·exact t.sep cM cH h1 J (aj▸aM)⟩
theorem Post.of {P:arl} {j bw:bb} {m m':Mem} {w w':World} (r:Rel P j m w) (rel:SV P bw m' w') (dA:rv j m w w') (next:m.next<=m'.next) (ext:∀b,b<m.next->bw b=j b)
  (fresh:∀b e,bw b=are e->m.next<=b->w.heap.size<=e.ay\/∃cM cH,j cM=are cH/\(m.ay cM).gj=arf/\cH.ay=e.ay) (cK:∀b,b<m.next->(m'.ay b).gj=arf->(m.ay b).gj=arf) (alive:∀b,b<m.next->(m'.ay b).live=arf->(m.ay b).live=arf):Post P j m w bw m' w':=
 ⟨⟨rel,r.iI.step dA ext fresh cK⟩,dA,next,ext,fresh,cK,alive⟩
theorem a1.mono {al bs:Type} {R S:al->bs->Prop} (h:∀a b,R a b->S a b):∀{l:List al} {k:List bs},a1 R l k->a1 S l k
 |[],[],_=>arH
 |_::_,_::_,⟨h1,J⟩=>⟨h _ _ h1,a1.mono h J⟩
 |[],_::_,h=>h.elim
 |_::_,[],h=>h.elim
theorem a1.length {al bs:Type} {R:al->bs->Prop}:∀{l:List al} {k:List bs},a1 R l k->l.length=k.length
 |[],[],_=>rfl
 |_::l,_::k,⟨_,J⟩=>by simp[a1.length J]
 |[],_::_,h=>h.elim
 |_::_,[],h=>h.elim
theorem a1.get {al bs:Type} {R:al->bs->Prop}:∀{l:List al} {k:List bs} (_:a1 R l k) (i:Nat) (a:al),l[i]? =are a->∃b,k[i]? =are b/\R a b
 |[],[],_,i,a,h=>by simp at h
 |x::l,y::k,⟨h1,J⟩,0,a,h=>by simp at h;subst h;exact ⟨y,by simp,h1⟩
 |x::l,y::k,⟨h1,J⟩,i+1,a,h=>by simpa using a1.get J i a (by simpa using h)
 |[],_::_,h,_,_,_=>h.elim
 |_::_,[],h,_,_,_=>h.elim
theorem a1.F1 {al bs:Type} {R:al->bs->Prop}:∀{l:List al} {k:List bs},l.length=k.length->(∀(i:Nat) a b,l[i]? =are a->k[i]? =are b->R a b)->a1 R l k
 |[],[],_,_=>arH
 |x::l,y::k,ai,h=>⟨h 0 x y (by simp) (by simp),a1.F1 (by simpa using ai) fun i a b ar ab=>h (i+1) a b (by simpa using ar) (by simpa using ab)⟩
 |[],_::_,ai,_=>by simp at ai
 |_::_,[],ai,_=>by simp at ai
theorem a1.append {al bs:Type} {R:al->bs->Prop}:∀{l iW:List al} {k bW:List bs},a1 R l k->a1 R iW bW->a1 R (l++iW) (k++bW)
 |[],_,[],_,_,h=>h
 |_::_,_,_::_,_,⟨h1,J⟩,h=>⟨h1,a1.append J h⟩
 |[],_,_::_,_,h,_=>h.elim
 |_::_,_,[],_,h,_=>h.elim
theorem a1.take {al bs:Type} {R:al->bs->Prop}:∀(n:Nat) {l:List al} {k:List bs},a1 R l k->a1 R (l.take n) (k.take n)
 |0,_,_,_=>by simp[a1]
 |n+1,[],[],_=>by simp[a1]
 |n+1,_::_,_::_,⟨h1,J⟩=>by simpa[a1] using ⟨h1,a1.take n J⟩
 |_+1,[],_::_,h=>h.elim
 |_+1,_::_,[],h=>h.elim
theorem a1.drop {al bs:Type} {R:al->bs->Prop}:∀(n:Nat) {l:List al} {k:List bs},a1 R l k->a1 R (l.drop n) (k.drop n)
 |0,_,_,h=>by simpa using h
 |n+1,[],[],_=>by simp[a1]
 |n+1,_::_,_::_,⟨_,J⟩=>by simpa using a1.drop n J
 |_+1,[],_::_,h=>h.elim
 |_+1,_::_,[],h=>h.elim
theorem jy.mono {j bw:bb} (h:∀b e,j b=are e->bw b=are e) {v aS:arh} (aa:jy j v aS):jy bw v aS:=by
 unfold jy at aa⊢;split at aa
 ·obtain ⟨e,h1,J,aj⟩:=aa;exact ⟨e,h1,h _ _ J,aj⟩
 ·exact aa.elim
theorem dr.mono {j bw:bb} (h:∀b e,j b=are e->bw b=are e) {v aS:arh} (aa:dr j v aS):dr bw v aS:=by
 cases v with
 |func fn aY cs=>obtain ⟨h1,ds,J,aj⟩:=aa;exact ⟨h1,ds,J,aj.mono fun _ _=>jy.mono h⟩
 |pointer a=>cases a with
  |none=>exact aa
  |some a=>obtain ⟨e,h1,J,aj⟩:=aa;exact ⟨e,h1,h _ _ J,aj⟩
 |slice a l c=>cases a with
  |none=>exact aa
  |some a=>obtain ⟨e,h1,J,aj⟩:=aa;exact ⟨e,h1,h _ _ J,aj⟩
 |map r=>cases r with
  |none=>exact aa
  |some r=>obtain ⟨e,J,aj⟩:=aa;exact ⟨e,h _ _ J,aj⟩
 |_=>exact aa
theorem eg.mono {j bw:bb} (h:∀b e,j b=are e->bw b=are e) {v aS:arh} (aa:eg j v aS):eg bw v aS:=by
 cases v with
 |agg cs=>obtain ⟨ds,h1,J⟩:=aa;exact ⟨ds,h1,J.mono fun _ _=>dr.mono h⟩
 |_=>simp only[eg] at aa⊢;exact dr.mono h aa
theorem bU.mono {j bw:bb} (h:∀b e,j b=are e->bw b=are e) {v aS:arh} (aa:bU j v aS):bU bw v aS:=by
 cases v with
 |chan _=>exact aa
 |tuple cs=>obtain ⟨ds,h1,J⟩:=aa;exact ⟨ds,h1,J.mono fun _ _=>eg.mono h⟩
 |func fn aY cs=>obtain ⟨gs,ds,h1,J,aj⟩:=aa;exact ⟨gs,ds,h1,J.mono fun _ _=>eg.mono h,aj.mono fun _ _=>eg.mono h⟩
 |_=>simp only[bU] at aa⊢;exact eg.mono h aa
theorem nT.mono {P:arl} {j bw:bb} {e:iL} {o:Option Obj} {x:aV} (h:nT P j e o x) (ap:∀b e,j b=are e->bw b=are e):nT P bw e o x:=by
 cases x with
 |dead=>trivial
 |ro rd=>intro i v af;obtain ⟨cs,t,a6,aS,h1,J,aj⟩:=h i v af;exact ⟨cs,t,a6,aS,h1,J,aj.mono ap⟩
 |own L t=>obtain ⟨cs,a6,h1,J,aj,aJ,bk,dn⟩:=h;refine ⟨cs,a6,h1,J,aj,aJ,bk,fun i v af=> ?_⟩;obtain ⟨aS,g1,g2⟩:=dn i v af;exact ⟨aS,g1,g2.mono ap⟩
 |map L u=>obtain ⟨kt,vt,cs,clock,E,h1,J,aj,aJ,bk⟩:=h;exact ⟨kt,vt,cs,clock,E,h1,J,aj,aJ.mono fun p x ⟨g1,g2,g3⟩=>⟨g1,g2,g3.mono ap⟩,bk⟩
 |lock _ _ _ _=>exact h.elim
theorem Rel.own {P:arl} {j:bb} {m:Mem} {w:World} (h:Rel P j m w) (b:Nat) (e:iL) (L:List arh) (t:arn) (ap:j b=are e) (ab:m.ay b= .own L t):∃(cs:Array arh) (a6:Nat×Nat),w.heap[e.ay]? =are (.cells cs t a6)/\(∀i:Nat,i<cs.size->¬(a6.1<=i/\i<a6.2))/\
  P.cellsOf t=e.es/\e.c0+e.cap*e.es<=cs.size/\L.length<=e.cap*e.es/\∀(i:Nat) (v:arh),L[i]? =are v->∃aS,cs[e.c0+i]? =are aS/\dr j v aS:=by
 have:=h.obj b e ap;rw[ab] at this;exact this
theorem eg.p0 {j:bb} {v aS:arh} (h:dr j v aS):eg j v aS:=by
 cases v<;>first|exact h|exact h.elim
theorem jy.of {j:bb} {v aS:arh} (h:jy j v aS):dr j v aS:=by
 unfold jy at h;split at h
 ·exact h
 ·exact h.elim
theorem bU.wu {j:bb} {v aS:arh} (h:eg j v aS):bU j v aS:=by
 cases v with
 |func fn aY cs=>obtain ⟨h1,ds,J,aj⟩:=h;subst h1;exact ⟨#[],ds,J,trivial,aj.mono fun _ _ h=>eg.p0 (jy.of h)⟩
 |tuple _=>exact h.elim
 |chan _=>exact h.elim
 |_=>exact h
theorem bU.p0 {j:bb} {v aS:arh} (h:dr j v aS):bU j v aS:=bU.wu (eg.p0 h)
theorem dr.one {j:bb} {v aS:arh} (h:dr j v aS):aS.oneCell'=arf:=by
 cases v with
 |pointer a=>cases a with
  |none=>cases h;rfl
  |some a=>obtain ⟨e,h1,J,aj⟩:=h;subst aj;rfl
 |slice a l c=>cases a with
  |none=>cases h;rfl
  |some a=>obtain ⟨e,h1,J,aj⟩:=h;rcases aj with ⟨_,rfl⟩|⟨_,_,_,_,_,_,rfl⟩|⟨_,_,_,rfl⟩|⟨_,_,_,rfl⟩|⟨_,_,_,_,_,_,_,_,_,rfl⟩<;>rfl
 |map r=>cases r with
  |none=>cases h;rfl
  |some r=>obtain ⟨e,J,aj⟩:=h;subst aj;rfl
 |chan _=>exact h.elim
 |func _ _ _=>obtain ⟨_,ds,J,_⟩:=h;subst J;rfl
 |iface _ _=>exact h.elim
 |agg _=>exact h.elim
 |tuple _=>exact h.elim
 |_=>cases h;rfl
theorem dr.cells {j:bb} {v aS:arh} (h:dr j v aS):v.cells=#[v]/\aS.cells=#[aS]:=by
 refine ⟨?_, ?_⟩
 ·cases v<;>first|rfl|exact h.elim
 ·have:=h.one;cases aS<;>first|rfl|simp[arh.oneCell'] at this
theorem eg.cells {j:bb} {v aS:arh} (h:eg j v aS):a1 (dr j) v.cells.toList aS.cells.toList:=by
 cases v with
 |agg cs=>obtain ⟨ds,rfl,J⟩:=h;exact J
 |_=>simp only[eg] at h;have az:=h;have:=dr.cells az;rw[this.1,this.2];exact ⟨az,arH⟩
theorem rv.refl (j:bb) (m:Mem) (w:World):rv j m w w:=⟨rfl,rfl,rfl,ars _,fun _ _ _=>rfl⟩
theorem Post.refl {P:arl} {j:bb} {m:Mem} {w:World} (h:Rel P j m w):Post P j m w j m w:=
 ⟨h,rv.refl j m w,ars _,fun _ _=>rfl,fun b e ab av=>absurd (h.lt b e ab).1 (atv.2 av),fun _ _ h=>h,fun _ _ h=>h⟩
theorem Post.up {P:arl} {j bw:bb} {m m':Mem} {w w':World} (h:Post P j m w bw m' w') (ao:Rel P j m w):∀b e,j b=are e->bw b=are e:=
 fun b e ab=>by rw[h.ext b (ao.lt b e ab).1];exact ab
theorem Post.trans {P:arl} {j bw sd:bb} {m m' Vm:Mem} {w w' lN:World} (h:Post P j m w bw m' w') (k:Post P bw m' w' sd Vm lN):Post P j m w sd Vm lN where
 rel:=k.rel
 dA:=by
  refine ⟨k.dA.os.trans h.dA.os,k.dA.tape.trans h.dA.tape,k.dA.output.trans h.dA.output,arR h.dA.size k.dA.size,fun c ad av=> ?_⟩;rw[k.dA.block c (arT ad h.dA.size) ?_,h.dA.block c ad av];intro b e ab ag he;rcases ar' b m.next with aO|eT
  ·exact av b e (by rw[<-h.ext b aO];exact ab) (h.cK b aO ag) he
  ·rcases h.fresh b e ab eT with aK|⟨cM,cH,iz,qJ,Bk⟩
   ·omega
   ·exact av cM cH iz qJ (Bk.trans he)
 next:=arR h.next k.next
 ext:=fun b ab=>by rw[k.ext b (arT ab h.next),h.ext b ab]
 fresh:=by
  intro b e ab eT;have afN:∀b e,bw b=are e->(m'.ay b).gj=arf->w.heap.size<=e.ay\/∃cM cH,j cM=are cH/\(m.ay cM).gj=arf/\cH.ay=e.ay:=by
   intro b e ab ag;rcases ar' b m.next with aO|eT
   ·exact .inr ⟨b,e,by rw[<-h.ext b aO];exact ab,h.cK b aO ag,rfl⟩
   ·exact h.fresh b e ab eT
  rcases ar' b m'.next with aO|L5
  ·exact h.fresh b e (by rw[<-k.ext b aO];exact ab) eT
  ·rcases k.fresh b e ab L5 with aK|⟨cM,cH,iz,qJ,Bk⟩
   ·exact .inl (arR h.dA.size aK)
   ·rw[<-Bk];exact afN cM cH iz qJ
 cK:=fun b ab ag=>h.cK b ab (k.cK b (arT ab h.next) ag)
 alive:=fun b ab ag=>h.alive b ab (k.alive b (arT ab h.next) ag)
end Go.aQ
end
section
namespace Go.aQ
def hS:arh->Bool
 | .agg cs=>cs.toList.all b7
 |v=>b7 v
def flat:arh->Bool
 | .tuple cs=>cs.toList.all hS
 |v=>hS v
def xq:arh->Bool
 | .pointer (are _)=>arf
 |_=>arj
def storable:arh->Bool
 | .tuple _| .chan _=>arj
 | .func _ aY cs=>aY.isEmpty&&cs.toList.all xq
 |_=>arf
def set (fr:Nat->arh) (d:Option Tmp) (v:arh):Nat->arh:=
 match d with
 |some t=>fun i=>if i=t then v else fr i
 |none=>fr
def aL (fr:Nat->arh):arm->arh
 | .tmp t=>fr t
 | .const v=>v
 | .global g=> .pointer (are ⟨g,0,ari⟩)
 | .func f=> .func (.func f) #[] #[]
def il (m:Mem) (b:Nat):Nat->Nat->Option (List arh)
 |_,0=>are []
 |o,n+1=>match m.load b o,il m b (o+1) n with
  |some v,are l=>are (v::l)
  |_,_=>ari
def ee:List arh->Nat->List arh->List arh
 |L,_,[]=>L
 |L,o,v::vs=>ee (L.set o v) (o+1) vs
def iG (place:Nat->Option (Nat×Nat)) (cells:List arh):List (Nat×arh)->Option (List arh)
 |[]=>are cells
 |(i,v)::rest=>
  match place i with
  |none=>ari
  |some (off,size)=>if storable v=arf/\v.cells.size=size/\off+size<=cells.length then iG place (ee cells off v.cells.toList) rest else ari
def mc (P:arl) (aY:Array Field):List (Option (Nat×Nat)):=aY.toList.map fun f=>(P.info? f.type).map fun i=>(f.offset,i.size)
def oA (ae:arm->arh) (bf:Option arm) (n:Nat):Prop:=
 match bf with
 |none=>n=0
 |some y=>∃k,ae y= .int k n
def lI (ae:arm->arh) (af:Option arm) (l n:Nat):Prop:=
 match af with
 |none=>n=l
 |some y=>∃k,ae y= .int k n
inductive cm (P:arl) (ae:arm->arh) (o:Oper):arh->Prop where
 |flat (v:arh) (aq:∀cs b,o.op≠ .select cs b) (h:∀x∈o.op.operands,flat (ae x)=arf) (aa:flat v=arf) (ao:∀w,(execOp ae o).run P w= .ok (.value v) w):cm P ae o v
 |move (x:arm) (h:o.op= .move x\/o.op= .assign x):cm P ae o (ae x)
 |pick (c a b:arm) (t:Bool) (h:o.op= .pick c a b) (ad:ae c= .bool t):cm P ae o (if t then ae a else ae b)
 |extract (x:arm) (i:Nat) (vs:Array arh) (v:arh) (h:o.op= .extract x i) (U:ae x= .tuple vs) (aa:vs[i]? =are v):cm P ae o v
 |field (t:arn) (x:arm) (i:Nat) (aY:Array Field) (f:Field) (d:TypeDesc) (cs:Array arh) (v:arh) (h:o.op= .field t x i) (ak:P.underlying t=are (.struct aY)) (aK:aY[i]? =are f)
   (aw:P.underlying f.type=are d) (U:ae x= .agg cs) (aa:if jz d=arf then ∃k,P.info? f.type=are k/\f.offset+k.size<=cs.size/\v= .agg (cs.extract f.offset (f.offset+k.size)) else cs[f.offset]? =are v):cm P ae o v
 |build (t:arn) (bx:Array (Nat×arm)) (aY:Array Field) (i:TypeInfo) (z:arh) (cs:List arh) (h:o.op= .build t bx) (ak:P.underlying t=are (.struct aY)) (af:P.info? t=are i) (aD:i.zero=are z)
   (b3:z.cells.toList.all b7=arf) (an:∀x∈mc P aY,x.isSome=arf)
   (ad:iG (fun k=>((mc P aY)[k]?).join) z.cells.toList (bx.toList.map fun p=>(p.1,ae p.2))=are cs):cm P ae o (.agg cs.toArray)
 |AS (t:arn) (bx:Array (Nat×arm)) (n:Nat) (e:arn) (i k:TypeInfo) (z:arh) (cs:List arh) (h:o.op= .build t bx) (ak:P.underlying t=are (.array n e)) (af:P.info? t=are i) (aD:i.zero=are z)
   (b3:z.cells.toList.all b7=arf) (he:P.info? e=are k)
   (ad:iG (fun j=>are (j*k.size,k.size)) z.cells.toList (bx.toList.map fun p=>(p.1,ae p.2))=are cs):cm P ae o (.agg cs.toArray)
 |nilCheck (x:arm) (a:Addr) (h:o.op= .nilCheck x) (U:ae x= .pointer (are a)):cm P ae o (.pointer (are a))
 |fieldAddr (t:arn) (x:arm) (i:Nat) (aY:Array Field) (f:Field) (k:TypeInfo) (b off:Nat) (h:o.op= .fieldAddr t x i) (ak:P.underlying t=are (.struct aY)) (aK:aY[i]? =are f)
   (hk:P.info? f.type=are k) (aq:k.size≠0) (U:ae x= .pointer (are ⟨b,off,ari⟩)):cm P ae o (.pointer (are ⟨b,off+f.offset,ari⟩))
 |indexAddr (t:arn) (x y:arm) (e:arn) (i:TypeInfo) (b off l c:Nat) (k:aro) (n:Int) (h:o.op= .indexAddr t x y) (ak:P.underlying t=are (.slice e)) (af:P.info? e=are i)
   (U:ae x= .slice (are ⟨b,off,ari⟩) l c) (ah:ae y= .int k n) (az:0<=n) (h1:n<l):cm P ae o (.pointer (are ⟨b,off+n.toNat*i.size,ari⟩))
 |BU (t:arn) (x y:arm) (e:arn) (i:TypeInfo) (b off l:Nat) (k:aro) (n:Int) (h:o.op= .indexAddr t x y) (ak:P.underlying t=are (.array l e)) (af:P.info? e=are i)
   (U:ae x= .pointer (are ⟨b,off,ari⟩)) (ah:ae y= .int k n) (az:0<=n) (h1:n<l):cm P ae o (.pointer (are ⟨b,off+n.toNat*i.size,ari⟩))
 |slice (t:arn) (x:arm) (bf af:Option arm) (e:arn) (i:TypeInfo) (b off l c:Nat) (n bq:Nat) (h:o.op= .slice t x bf af ari) (ak:P.underlying t=are (.slice e)) (da:P.info? e=are i)
   (U:ae x= .slice (are ⟨b,off,ari⟩) l c) (ab:c<bT) (dv:oA ae bf n) (cP:lI ae af l bq) (h1:n<=bq) (J:bq<=c)
   (aj:af=ari->True):cm P ae o (.slice (are ⟨b,if c=n then off else off+n*i.size,ari⟩) (bq - n) (c - n))
 |slice3 (t:arn) (x eI:arm) (af:Option arm) (e:arn) (i:TypeInfo) (b off l c:Nat) (bq bW:Nat) (km:aro) (h:o.op= .slice t x ari af (are eI)) (ak:P.underlying t=are (.slice e)) (da:P.info? e=are i)
   (U:ae x= .slice (are ⟨b,off,ari⟩) l c) (ad:(c<bT/\bW<=c)\/(c=bT/\bW<=l)) (cP:∃y k,af=are y/\ae y= .int k bq) (lu:ae eI= .int km bW) (h1:bq<=bW):cm P ae o (.slice (are ⟨b,off,ari⟩) bq bW)
 |IB (t:arn) (x bf af eI:arm) (e:arn) (i:TypeInfo) (b off l c n bq bW:Nat) (FQ FO km:aro) (h:o.op= .slice t x (are bf) (are af) (are eI)) (ak:P.underlying t=are (.slice e)) (da:P.info? e=are i)
   (U:ae x= .slice (are ⟨b,off,ari⟩) l c) (ad:(c<bT/\bW<=c)\/(c=bT/\bW<=l)) (dv:ae bf= .int FQ n) (cP:ae af= .int FO bq) (lu:ae eI= .int km bW) (az:n<=bq) (h1:bq<=bW):cm P ae o (.chan ari)
 |DF (t:arn) (x eI:arm) (af:Option arm) (e:arn) (i:TypeInfo) (km:aro) (h:o.op= .slice t x ari af (are eI)) (ak:P.underlying t=are (.slice e)) (da:P.info? e=are i)
   (U:ae x= .slice ari 0 0) (cP:∃y k,af=are y/\ae y= .int k 0) (lu:ae eI= .int km 0):cm P ae o (.slice ari 0 0)
 |k8 (t:arn) (x:arm) (bf af:Option arm) (e:arn) (i:TypeInfo) (h:o.op= .slice t x bf af ari) (ak:P.underlying t=are (.slice e)) (da:P.info? e=are i)
   (U:ae x= .slice ari 0 0) (dv:oA ae bf 0) (cP:lI ae af 0 0):cm P ae o (.slice ari 0 0)
 |len (x:arm) (t e:arn) (a:Option Addr) (l c:Nat) (h:o.op= .call {callee:= .builtin .len,args:=#[x],argTypes:=#[t]}) (ak:P.underlying t=are (.slice e)) (U:ae x= .slice a l c):cm P ae o (.int .i64 l)
 |AU (x:arm) (t e:arn) (h:o.op= .call {callee:= .builtin .cap,args:=#[x],argTypes:=#[t]}) (ak:P.underlying t=are (.slice e)) (U:ae x= .slice ari 0 0):cm P ae o (.int .i64 0)
 |vp (neq:Bool) (x y:arm) (t u e:arn) (a:Addr) (l c:Nat) (h:o.op= .binOp (if neq then .neq else .eql) t x y u) (ak:P.underlying t=are (.slice e))
   (U:ae x= .slice (are a) l c) (ah:ae y= .slice ari 0 0):cm P ae o (.bool neq)
 |func (fn:Fn) (first captured:Array arm) (h:o.op= .makeFunc fn first captured) (aK:∀x∈first.toList++captured.toList,storable (ae x)=arf):cm P ae o (.func fn (first.map ae) (captured.map ae))
inductive ry (hA dc:Bool) (key z:arh):List (List arh×List arh)->arh->Bool->Prop where
 |nz:ry hA dc key z [] z arj
 |hit (p:List arh×List arh) (E:List (List arh×List arh)) (h:cN hA p.1=key):ry hA dc key z (p::E) (cN dc p.2) arf
 |next (p:List arh×List arh) (E:List (List arh×List arh)) (v:arh) (b:Bool) (h:cN hA p.1≠key) (aP:ry hA dc key z E v b):ry hA dc key z (p::E) v b
inductive rD (hA:Bool) (key val:List arh):List (List arh×List arh)->List (List arh×List arh)->Prop where
 |nz:rD hA key val [] [(key,val)]
 |hit (p:List arh×List arh) (E:List (List arh×List arh)) (h:cN hA p.1=cN hA key):rD hA key val (p::E) ((p.1,val)::E)
 |next (p:List arh×List arh) (E E':List (List arh×List arh)) (h:cN hA p.1≠cN hA key) (aP:rD hA key val E E'):rD hA key val (p::E) (p::E')
open Classical in
noncomputable def kp (v:arh):List MapEntry->Nat->Option (Nat×arh)
 |[],_=>ari
 |e::es,i=>if e.key=v then are (i,e.val) else kp v es (i+1)
structure Keyed (P:arl) (kt:arn) (gp:arh->Prop):Prop where
 check:∀(em:Bool) (v:arh) (w:World),gp v->(Instr.checkKey em 10000 kt v).run P w= .ok () w
 find:∀(v:arh) (es:List MapEntry) (w:World),gp v->(∀x∈es,gp x.key)->(Instr.findKey kt v es).run P w= .ok (kp v es 0) w
 stays:∀(v:arh) (w:World),gp v->(Instr.keyThatStays v v).run P w= .ok v w
inductive dX (P:arl) (ae:arm->arh) (o:Oper) (m:Mem):arh->Prop where
 |load (t:arn) (x:arm) (b off:Nat) (d:TypeDesc) (v:arh) (h:o.op= .load t x) (U:ae x= .pointer (are ⟨b,off,ari⟩)) (ak:P.underlying t=are d) (aw:jz d=arj) (aa:m.load b off=are v):dX P ae o m v
 |ud (t:arn) (x:arm) (b off:Nat) (d:TypeDesc) (i:TypeInfo) (cs:List arh) (h:o.op= .load t x) (U:ae x= .pointer (are ⟨b,off,ari⟩)) (ak:P.underlying t=are d) (aw:jz d=arf) (af:P.info? t=are i)
   (aa:il m b off i.size=are cs):dX P ae o m (.agg cs.toArray)
 |slice (t:arn) (x:arm) (bf af:Option arm) (e:arn) (i:TypeInfo) (L:List arh) (b off l:Nat) (n bq:Nat) (h:o.op= .slice t x bf af ari) (ak:P.underlying t=are (.slice e)) (da:P.info? e=are i)
   (U:ae x= .slice (are ⟨b,off,ari⟩) l bT) (hm:m.ay b= .own L e) (dv:oA ae bf n) (cP:lI ae af l bq) (h1:n<=bq) (J:bq<=l)
   (aj:off+l*i.size<=L.length):dX P ae o m (.slice (are ⟨b,off+n*i.size,ari⟩) (bq - n) bT)
 |xA (t:arn) (x:arm) (bf af:Option arm) (e:arn) (i:TypeInfo) (L:List arh) (b off l c k:Nat) (n bq:Nat) (h:o.op= .slice t x bf af ari) (ak:P.underlying t=are (.slice e)) (da:P.info? e=are i)
   (U:ae x= .slice (are ⟨b,off,ari⟩) l c) (hk:(c=bT/\k=l)\/c=bT+k) (hm:m.ay b= .own L e) (dv:oA ae bf n) (cP:lI ae af l bq) (h1:n<=bq) (J:bq<=k) (aj:n<k):
   dX P ae o m (.slice (are ⟨b,off+n*i.size,ari⟩) (bq - n) (bT+(k - n)))
 |str (s t:arn) (x:arm) (e:arn) (b off l c:Nat) (cs:List UInt8) (h:o.op= .convert s t x) (aq:P.underlying s=are (.slice e)) (he:P.underlying e=are (.int .u8)) (ak:P.underlying t=are .string)
   (U:ae x= .slice (are ⟨b,off,ari⟩) l c) (aa:il m b off l=are (cs.map fun u=> .int .u8 u.toNat)):dX P ae o m (.string ⟨cs.toArray⟩)
 |xB (s t:arn) (x:arm) (e:arn) (l c:Nat) (h:o.op= .convert s t x) (aq:P.underlying s=are (.slice e)) (he:P.underlying e=are (.int .u8)) (ak:P.underlying t=are .string)
   (U:ae x= .slice ari l c):dX P ae o m (.string .empty)
 |lookup (eE:arn) (x ca:arm) (ok:Bool) (u kt vt:arn) (b:Nat) (L:List arh) (E:List (List arh×List arh)) (i:TypeInfo) (z v0:arh) (t:Bool) (gp:arh->Prop) (h:o.op= .lookup eE x ca ok)
   (fX:P.underlying eE=are (.map kt vt)) (hu:P.underlying u=are (.map kt vt)) (U:(ae x= .map (are b)/\m.ay b= .map L u/\mo (P.cellsOf kt) (P.cellsOf vt) L E)\/(ae x= .map ari/\E=[])) (lq:0<P.cellsOf kt)
   (kZ:cB P vt=arj->P.cellsOf vt=1) (K:Keyed P kt gp) (aK:flat (ae ca)=arf) (hk:gp (ae ca)) (aM:∀p∈E,gp (cN (cB P kt) p.1)) (af:P.info? vt=are i) (aD:i.zero=are z) (b3:hS z=arf)
   (ai:ry (cB P kt) (cB P vt) (ae ca) z E v0 t):dX P ae o m (if ok then .tuple #[v0, .bool t] else v0)
inductive hI (P:arl) (ae:arm->arh) (o:Oper) (n:Nat):aV->arh->Prop where
 |alloc (t:arn) (i:TypeInfo) (z:arh) (h:o.op= .alloc t) (af:P.info? t=are i) (aD:i.zero=are z) (b3:z.cells.toList.all b7=arf) (aq:z.cells.size=i.size):
   hI P ae o n (.own z.cells.toList t) (.pointer (are ⟨n,0,ari⟩))
 |box (t:arn) (x:arm) (i:TypeInfo) (h:o.op= .box t x) (af:P.info? t=are i) (aa:storable (ae x)=arf) (aq:(ae x).cells.size=i.size):
   hI P ae o n (.own (ae x).cells.toList t) (.pointer (are ⟨n,0,ari⟩))
 |buildSlice (t:arn) (l:Nat) (bx:Array (Nat×arm)) (e:arn) (i:TypeInfo) (z:arh) (cs:List arh) (h:o.op= .buildSlice t l bx) (ak:P.underlying t=are (.slice e)) (af:P.info? e=are i) (aD:i.zero=are z)
   (b3:z.cells.toList.all b7=arf) (cZ:z.cells.size=i.size) (rR:l*i.size<=16777216) (rX:l<9223372036854775808)
   (ad:iG (fun k=>are (k*i.size,i.size)) (arL l z.cells.toList).flatten (bx.toList.map fun p=>(p.1,ae p.2))=are cs):
   hI P ae o n (.own cs e) (.slice (are ⟨n,0,ari⟩) l l)
 |makeSlice (t:arn) (x y:arm) (l c:Nat) (k bW:aro) (e:arn) (i:TypeInfo) (z:arh) (h:o.op= .makeSlice t x y) (ak:P.underlying t=are (.slice e)) (af:P.info? e=are i) (aD:i.zero=are z)
   (b3:z.cells.toList.all b7=arf) (cZ:z.cells.size=i.size) (U:ae x= .int k l) (ah:ae y= .int bW c) (rZ:l<=c) (ab:i.bytes*c<=140737488355328) (ad:c<9223372036854775808):
   hI P ae o n (.own (arL c z.cells.toList).flatten e) (.slice (are ⟨n,0,ari⟩) l c)
 |bytes (s t:arn) (x:arm) (e:arn) (i:TypeInfo) (b:ByteArray) (h:o.op= .convert s t x) (aq:P.underlying s=are .string) (ak:P.underlying t=are (.slice e)) (he:P.underlying e=are (.int .u8)) (af:P.info? e=are i)
   (iS:i.size=1) (U:ae x= .string b) (ab:b.size<9223372036854775807):
   hI P ae o n (.own (b.data.toList.map fun u=> .int .u8 u.toNat) e) (.slice (are ⟨n,0,ari⟩) b.size bT)
 |makeMap (t kt vt:arn) (h:o.op= .makeMap t ari) (ak:P.underlying t=are (.map kt vt)):hI P ae o n (.map [] t) (.map (are n))
def cg (m:Mem) (aW:Nat):arh->Option (List arh)
 | .slice (are ⟨b,off,ari⟩) l _=>il m b off (l*aW)
 | .slice ari _ _=>are []
 | .string s=>if aW=1 then are (s.data.toList.map fun u=> .int .u8 u.toNat) else ari
 |_=>ari
def gB:arh->Nat
 | .slice _ l _=>l
 | .string s=>s.size
 |_=>0
def callee (o:Oper) (ae:arm->arh) (f:FuncId) (args:Array arh):Prop:=
 ∃x as ts first captured,o.op= .call {callee:= .value x,args:=as,argTypes:=ts}/\ae x= .func (.func f) first captured/\args=first++as.map ae++captured
inductive rp (P:arl) (m:Mem) (u:arn) (i:TypeInfo) (v:arh) (n:Nat) (new:List arh):Prop where
 |el (hu:(∃bp,P.underlying u=are (.slice bp))\/P.underlying u=are .string) (ai:gB v=n) (he:cg m i.size v=are new)
 |mk (kk k:aro) (z:arh) (hu:P.underlying u=are (.int kk)) (aa:v= .int k n) (aD:i.zero=are z) (b3:z.cells.toList.all b7=arf) (cZ:z.cells.size=i.size) (bu:0<i.size)
   (ab:n*i.bytes<=140737488355328) (hm:n<9223372036854775807) (iC:new=(arL n z.cells.toList).flatten)
inductive fM (P:arl) (C:FuncId->Array arh->Mem->arh->Mem->Prop) (ae:arm->arh) (o:Oper) (m:Mem):arh->Mem->Prop where
 |store (t:arn) (x y:arm) (b off:Nat) (i:TypeInfo) (L:List arh) (e:arn) (h:o.op= .store t x y) (U:ae x= .pointer (are ⟨b,off,ari⟩)) (af:P.info? t=are i) (hm:m.ay b= .own L e)
   (aa:storable (ae y)=arf) (aq:(ae y).cells.size=i.size) (ai:off+i.size<=L.length):fM P C ae o m undef (m.put b (.own (ee L off (ae y).cells.toList) e))
 |call (f:FuncId) (args:Array arh) (v:arh) (m':Mem) (h:callee o ae f args) (bI:C f args m v m'):fM P C ae o m v m'
 |tt (x y:arm) (t u:arn) (e:arn) (i:TypeInfo) (a:Option Addr) (l c:Nat) (h:o.op= .call {callee:= .builtin .append,args:=#[x,y],argTypes:=#[t,u]}) (ak:P.underlying t=are (.slice e)) (af:P.info? e=are i)
   (U:ae x= .slice a l c) (ad:c<bT) (rZ:l<=c) (ah:rp P m u i (ae y) 0 []):fM P C ae o m (ae x) m
 |qq (x y:arm) (t u:arn) (e:arn) (i:TypeInfo) (z:arh) (a:Option Addr) (l c n:Nat) (cK new:List arh) (h:o.op= .call {callee:= .builtin .append,args:=#[x,y],argTypes:=#[t,u]})
   (ak:P.underlying t=are (.slice e)) (af:P.info? e=are i) (aD:i.zero=are z) (b3:z.cells.toList.all b7=arf) (cZ:z.cells.size=i.size) (bu:0<i.size)
   (U:ae x= .slice a l c) (ad:c<l+n)
   (ag:cg m i.size (ae x)=are cK) (iT:cK.length=l*i.size) (ah:rp P m u i (ae y) n new) (av:new.length=n*i.size) (ab:(l+n)*i.bytes<=140737488355328) (hm:l+n<9223372036854775807):
   fM P C ae o m (.slice (are ⟨m.next,0,ari⟩) (l+n) bT) (m.push (.own (cK++new) e))
 |vn (x y:arm) (t u:arn) (e:arn) (i:TypeInfo) (b off l c n:Nat) (L new:List arh) (h:o.op= .call {callee:= .builtin .append,args:=#[x,y],argTypes:=#[t,u]})
   (ak:P.underlying t=are (.slice e)) (af:P.info? e=are i) (U:ae x= .slice (are ⟨b,off,ari⟩) l c) (cJ:c<bT)
   (ad:l+n<=c) (hm:m.ay b= .own L e) (ah:rp P m u i (ae y) n new) (av:new.length=n*i.size) (ai:off+(l+n)*i.size<=L.length):
   fM P C ae o m (.slice (are ⟨b,off,ari⟩) (l+n) c) (m.put b (.own (ee L (off+l*i.size) new) e))
 |x6 (x y:arm) (t u:arn) (e:arn) (i:TypeInfo) (b off l c k n:Nat) (L new:List arh) (h:o.op= .call {callee:= .builtin .append,args:=#[x,y],argTypes:=#[t,u]})
   (ak:P.underlying t=are (.slice e)) (af:P.info? e=are i) (U:ae x= .slice (are ⟨b,off,ari⟩) l c) (cJ:c=bT+k) (hy:0<k)
   (ad:l+n<=k) (hm:m.ay b= .own L e) (ah:rp P m u i (ae y) n new) (av:new.length=n*i.size) (ai:off+(l+n)*i.size<=L.length):
   fM P C ae o m (.slice (are ⟨b,off,ari⟩) (l+n) c) (m.put b (.own (ee L (off+l*i.size) new) e))
 |append (x y:arm) (t u:arn) (e:arn) (i:TypeInfo) (z:arh) (b off l n:Nat) (L new:List arh) (h:o.op= .call {callee:= .builtin .append,args:=#[x,y],argTypes:=#[t,u]})
   (ak:P.underlying t=are (.slice e)) (af:P.info? e=are i) (aD:i.zero=are z) (b3:z.cells.toList.all b7=arf) (cZ:z.cells.size=i.size) (bu:0<i.size)
   (U:ae x= .slice (are ⟨b,off,ari⟩) l bT) (gi:m.ay b= .own L e) (tN:off+l*i.size<=L.length)
   (ah:rp P m u i (ae y) n new) (av:new.length=n*i.size) (ab:(l+n)*i.bytes<=140737488355328) (hm:l+n<9223372036854775807):
   fM P C ae o m (.slice (are ⟨m.next,0,ari⟩) (l+n) bT) ((m.put b .dead).push (.own ((L.drop off).take (l*i.size)++new) e))
 |copy (x y:arm) (t u:arn) (e:arn) (i:TypeInfo) (b off l c:Nat) (L:List arh) (cs:List arh) (h:o.op= .call {callee:= .builtin .copy,args:=#[x,y],argTypes:=#[t,u]}) (ak:P.underlying t=are (.slice e)) (af:P.info? e=are i)
   (U:ae x= .slice (are ⟨b,off,ari⟩) l c) (hm:m.ay b= .own L e) (ah:cg m i.size (ae y)=are cs) (av:cs.length=gB (ae y)*i.size) (ai:off+l*i.size<=L.length):
   fM P C ae o m (.int .i64 (as4 (gB (ae y)) l)) (m.put b (.own (ee L off (cs.take (as4 (gB (ae y)) l*i.size))) e))
 |clear (x:arm) (t:arn) (e:arn) (i:TypeInfo) (z:arh) (b off l c:Nat) (L:List arh) (h:o.op= .call {callee:= .builtin .clear,args:=#[x],argTypes:=#[t]}) (ak:P.underlying t=are (.slice e)) (af:P.info? e=are i)
   (aD:i.zero=are z) (b3:z.cells.toList.all b7=arf) (cZ:z.cells.size=i.size) (U:ae x= .slice (are ⟨b,off,ari⟩) l c) (hm:m.ay b= .own L e) (dT:0<l) (ai:off+l*i.size<=L.length):
   fM P C ae o m (.tuple #[]) (m.put b (.own (ee L off (arL l z.cells.toList).flatten) e))
 |mapUpdate (eE:arn) (x fG fb:arm) (u kt vt:arn) (b:Nat) (L bX vc:List arh) (E E':List (List arh×List arh)) (gp:arh->Prop) (h:o.op= .mapUpdate eE x fG fb\/o.op= .insert eE x fG fb)
   (fX:P.underlying eE=are (.map kt vt)) (hu:P.underlying u=are (.map kt vt)) (U:ae x= .map (are b)) (hm:m.ay b= .map L u) (aP:mo (P.cellsOf kt) (P.cellsOf vt) L E) (lq:0<P.cellsOf kt)
   (K:Keyed P kt gp) (yC:ae fG=cN (cB P kt) bX) (nn:bX.length=P.cellsOf kt) (yD:bX.all b7=arf) (aK:flat (ae fG)=arf) (hk:gp (ae fG)) (aM:∀p∈E,gp (cN (cB P kt) p.1))
   (k0:storable (ae fb)=arf) (BO:ae fb=cN (cB P vt) vc) (sa:vc.length=P.cellsOf vt) (BP:∀v∈vc,v∈(ae fb).cells.toList) (eU:rD (cB P kt) bX vc E E'):
   fM P C ae o m undef (m.put b (.map (E'.flatMap fun p=>p.1++p.2) u))
inductive nX (P:arl) (C:FuncId->Array arh->Mem->arh->Mem->Prop) (ae:arm->arh) (o:Oper) (m:Mem):arh->Mem->Prop where
 |pure {v:arh} (h:cm P ae o v):nX P C ae o m v m
 |read {v:arh} (h:dX P ae o m v):nX P C ae o m v m
 |new {X:aV} {v:arh} (h:hI P ae o m.next X v):nX P C ae o m v (m.push X)
 |ev {v:arh} {m':Mem} (h:fM P C ae o m v m'):nX P C ae o m v m'
def wanted (ops:List Oper) (fr:Nat->arh) (o:Oper):Bool:=
 match o.guard with
 |none=>arf
 |some (j,want)=>
  match (ops[j]?).bind (·.dst) with
  |some d=>(match fr d with| .bool b=>b==want|_=>arj)
  |none=>arj
def iZ (P:arl) (C:FuncId->Array arh->Mem->arh->Mem->Prop) (ops:List Oper):List Oper->(Nat->arh)->Mem->(Nat->arh)->Mem->Prop
 |[],fr,m,fr',m'=>fr'=fr/\m'=m
 |o::os,fr,m,fr',m'=>
  if wanted ops fr o=arf then ∃v m1,nX P C (aL fr) o m v m1/\iZ P C ops os (set fr o.dst v) m1 fr' m'
  else iZ P C ops os (set fr o.dst undef) m fr' m'
def iH:Op->Bool
 | .store .. | .mapUpdate .. | .insert .. =>arf
 | .call {callee:= .builtin .len, .. }| .call {callee:= .builtin .max, .. }| .call {callee:= .builtin .min, .. }=>arj
 | .call _=>arf
 |_=>arj
def eM (B:Array Nat) (i k:Nat):Bool:=(B.getD i 0).testBit k
structure Acc where
 reads:List (Nat×(Mem->Prop))
 e6:List (Nat×Mem)
 news:List (Nat×Nat)
def fZ (P:arl) (C:FuncId->Array arh->Mem->arh->Mem->Prop) (ops:List Oper) (B:Array Nat):Nat->List Oper->Acc->(Nat->arh)->Mem->(Nat->arh)->Mem->Prop
 |_,[],_,fr,m,fr',m'=>fr'=fr/\m'=m
 |i,o::os,A,fr,m,fr',m'=>
  if wanted ops fr o=arf then
   (∃v,cm P (aL fr) o v/\fZ P C ops B (i+1) os A (set fr o.dst v) m fr' m')\/
   (∃v,dX P (aL fr) o m v/\(∀x∈A.e6,eM B i x.1=arj->dX P (aL fr) o x.2 v)/\
    fZ P C ops B (i+1) os {A with reads:=(i,fun m=>dX P (aL fr) o m v)::A.reads} (set fr o.dst v) m fr' m')\/
   (∃X v,hI P (aL fr) o m.next X v/\fZ P C ops B (i+1) os {A with news:=(i,m.next)::A.news} (set fr o.dst v) (m.push X) fr' m')\/
   (∃v m1,fM P C (aL fr) o m v m1/\(∀x∈A.reads,eM B i x.1=arj->x.2 m1)/\(∀x∈A.news,eM B i x.1=arj->m1.ay x.2=m.ay x.2)/\
    fZ P C ops B (i+1) os {A with e6:=(i,m)::A.e6} (set fr o.dst v) m1 fr' m')
  else fZ P C ops B (i+1) os A (set fr o.dst undef) m fr' m'
inductive dF where
 |normal
 |exit (id:Nat)
 |ret
 deriving DecidableEq
def Vj (n:Nat):Option Addr->Prop
 |some a=>a.block<n
 |none=>True
def qU (n:Nat):arh->Prop
 | .pointer a=>Vj n a
 |_=>False
def gC (n:Nat):arh->Prop
 | .pointer a| .slice a _ _=>Vj n a
 | .map (are r)=>r<n
 | .func _ aY cs=>aY=#[]/\∀v∈cs.toList,qU n v
 | .chan _| .iface _ _| .agg _| .tuple _=>False
 |_=>True
def gW (n:Nat):arh->Prop
 | .agg cs=>∀v∈cs.toList,gC n v
 |v=>gC n v
def low (n:Nat):arh->Prop
 | .chan _=>True
 | .tuple cs=>∀v∈cs.toList,gW n v
 | .func _ a b=>(∀v∈a.toList,gW n v)/\∀v∈b.toList,gW n v
 |v=>gW n v
def qT (n:Nat):aV->Prop
 | .own L _| .map L _=>∀v∈L,gC n v
 | .ro rd=>∀i v,rd i=are v->gC n v
 | .dead=>True
 | .lock _ _ _ _=>True
def kH:arm->Bool
 | .tmp _| .func _=>arf
 | .const v=>flat v
 | .global _=>arj
def uy (ops:Array Oper) (o:Oper):List Nat:=
 (o.op.operands.toList.filterMap fun| .tmp t=>are t|_=>ari)++
 (match o.guard with|some (g,_)=>((ops[g]?).bind (·.dst)).toList|none=>[])++o.dst.toList
def rL (ops:Array Oper) (x o:Oper):Bool:=
 (match x.dst with|some d=>(uy ops o).contains d|none=>arj)||(match o.dst with|some d=>(uy ops x).contains d|none=>arj)||(iH x.op&&iH o.op)
def uE (ops:Array Oper):Bool:=
 (ar2 ops.size).all fun i=>
  match ops[i]? with
  |none=>arf
  |some o=>(o.after.toList.all fun e=> !Region.binds .any e||decide (e.on<i))&&
   (ar2 i).all fun x=>match ops[x]? with|none=>arf|some y=> !rL ops y o||eM (asa ops) i x
def e3 (n:Nat):Code->Bool
 | .region _ ops draw=>(ops.toList.all fun o=>o.op.operands.toList.all kH&&(match o.dst with|some d=>decide (d<n)|none=>arf))&&(!draw||uE ops)
 | .seq a b=>e3 n a&&e3 n b
 | .cond c a b=>kH c&&e3 n a&&e3 n b
 | .block _ c=>e3 n c
 | .scope c=>e3 n c
 | .loop c=>e3 n c
 |_=>arf
structure iM (ds:List Deferred) (j:bb) (N:Nat) (fr:Nat->arh) (a:Act):Prop where
 val:∀t,bU j (fr t) (a.tmps.getD t undef)
 defers:a.defers=ds
 size:a.tmps.size=N
def dF.out:dF->Exit
 | .normal=> .normal
 | .exit id=> .exit id
 | .ret=> .ret
def tx (ops:Array Oper):List Nat:=ops.toList.filterMap (·.dst)
def jK:Code->List Nat
 | .region _ ops _=>tx ops
 | .seq a b=>jK a++jK b
 | .cond _ a b=>jK a++jK b
 | .block _ c=>jK c
 | .scope c=>jK c
 | .loop c=>jK c
 |_=>[]
structure WF (m:Mem):Prop where
 dead:∀b,m.next<=b->m.ay b= .dead
 low:∀b,qT m.next (m.ay b)
structure Jk (P:arl) (c:Code) (fr:Nat->arh) (m:Mem) (e:dF) (fr':Nat->arh) (m':Mem):Prop where
 next:m.next<=m'.next
 keep:∀i,(jK c).contains i=arj->fr' i=fr i
 low:WF m->(∀t,low m.next (fr t))->WF m'/\∀t,low m'.next (fr' t)
 sound:∀{ds:List Deferred} {N:Nat} {j:bb} {a:Act} {w:World} {Q:Exit->Act->World->Prop},e3 N c=arf->Rel P j m w->WF m->iM ds j N fr a->(∀a' w' bw,Post P j m w bw m' w'->iM ds bw N fr' a'->Q e.out a' w')->c.wp P Q a w
def P8:Code->Bool
 | .seq (.region _ _ _) (.block _ (.loop _))=>arf
 |_=>arj
def j4 (P:arl) (C:FuncId->Array arh->Mem->arh->Mem->Prop):Nat->Code->(Nat->arh)->Mem->dF->(Nat->arh)->Mem->Prop
 |0,_,_,_,_,_,_=>False
 |_+1, .skip,fr,m,e,fr',m'=>e= .normal/\fr'=fr/\m'=m
 |_+1, .label _,fr,m,e,fr',m'=>e= .normal/\fr'=fr/\m'=m
 |_+1, .exit id,fr,m,e,fr',m'=>e= .exit id/\fr'=fr/\m'=m
 |_+1, .ret,fr,m,e,fr',m'=>e= .ret/\fr'=fr/\m'=m
 |_+1, .region _ ops arj,fr,m,e,fr',m'=>e= .normal/\iZ P C ops.toList ops.toList fr m fr' m'
 |_+1, .region _ ops arf,fr,m,e,fr',m'=>e= .normal/\fZ P C ops.toList (asa ops) 0 ops.toList ⟨[],[],[]⟩ fr m fr' m'
 |n+1, .seq a b,fr,m,e,fr',m'=>(∃aT cd m1,j4 P C n a fr m aT cd m1/\(if aT= .normal then j4 P C n b cd m1 e fr' m' else e=aT/\fr'=cd/\m'=m1))\/(P8 a=arf/\Jk P (.seq a b) fr m e fr' m')
 |n+1, .cond c a b,fr,m,e,fr',m'=>∃t,aL fr c= .bool t/\j4 P C n (if t then a else b) fr m e fr' m'
 |n+1, .scope c,fr,m,e,fr',m'=>j4 P C n c fr m e fr' m'
 |n+1, .block id c,fr,m,e,fr',m'=>∃aT,j4 P C n c fr m aT fr' m'/\e=(if aT= .exit id then .normal else aT)
 |n+1, .loop c,fr,m,e,fr',m'=>∃aT cd m1,j4 P C n c fr m aT cd m1/\(if aT= .normal then j4 P C n (.loop c) cd m1 e fr' m' else e=aT/\fr'=cd/\m'=m1)
 |_+1,_,_,_,_,_,_=>False
def CU (P:arl) (fr:Nat->arh) (m:Mem):ResultVar->arh->Prop
 | .tmp t,v=>v=fr t
 | .cell a t,v=>∃b off,fr a= .pointer (are ⟨b,off,ari⟩)/\∃d,P.underlying t=are d/\
   (if jz d=arf then ∃i cs,P.info? t=are i/\il m b off i.size=are cs/\v= .agg cs.toArray else m.load b off=are v)
def ov (P:arl) (fr:Nat->arh) (m:Mem):List ResultVar->List arh->Prop
 |[],[]=>True
 |r::rs,v::vs=>CU P fr m r v/\ov P fr m rs vs
 |_,_=>False
def kG (P:arl) (f:FuncId):Bool:=
 match P.funcs[f]? with
 | are fn => !(fn.name == "runtime.NumGoroutine") && (match fn.body with | are c => e3 fn.ntmps c | ari => arj)
 |none=>arj
def pack:List arh->arh
 |[x]=>x
 |vs=> .tuple vs.toArray
def ZW (P:arl) (f:FuncId) (lY:arh):Prop:=∀(p:Option Addr) (cap:Nat) (w:World),Calls P f #[.slice p 0 cap,lY] w fun e w'=>e= .returned (.tuple #[])/\w'=w
def Qa (P:arl) (f:FuncId) (lY:arh) (l:Nat) (F nc:List arh):Prop:=
 ∀(w:World) (ay off cap:Nat) (cs:Array arh) (t:arn) (a6:Nat×Nat),w.heap[ay]? =are (.cells cs t a6)->(∀(i:Nat) (v:arh),F[i]? =are v->cs[off+i]? =are v)->(∀i,i<cs.size->¬(a6.1<=i/\i<a6.2))->
  Calls P f #[.slice (are ⟨ay,off,ari⟩) l cap,lY] w fun e w'=>e= .returned (.tuple #[])/\w'.os=w.os/\w'.tape=w.tape/\w'.output=w.output/\w.heap.size<=w'.heap.size/\
   (∀c,c<w.heap.size->c≠ay->w'.heap[c]? =w.heap[c]?)/\w'.heap[ay]? =are (.cells (ee cs.toList off nc).toArray t a6)
structure Grown (w w':World):Prop where
 os:w'.os=w.os
 tape:w'.tape=w.tape
 output:w'.output=w.output
 size:w.heap.size<=w'.heap.size
 heap:∀c,c<w.heap.size->w'.heap[c]? =w.heap[c]?
inductive rA (P:arl) (f:FuncId) (args:Array arh) (m:Mem):arh->Mem->Prop where
 |none (a:Option Addr) (c g:Nat) (h:ZW P f (.func (.func g) #[] #[])) (ar:args=#[.slice a 0 c, .func (.func g) #[] #[]]):rA P f args m (.tuple #[]) m
 |flat (v:arh) (vq:args.toList.all aQ.flat=arf) (lY:aQ.flat v=arf) (h:∀w,iu P w->Calls P f args w fun e w'=>e= .returned v/\Grown w w'):rA P f args m v m
 |ext (v:arh) (lY:aQ.flat v=arf) (h:∀(j:bb) (w:World) (fU:Array arh),WF m->Rel P j m w->a1 (bU j) args.toList fU.toList->Calls P f fU w fun e w'=>e= .returned v/\∃bw,Post P j m w bw m w'):rA P f args m v m
 |fresh (cs:List arh) (e:arn) (l:Nat) (vq:args.toList.all aQ.flat=arf) (ER:cs.all b7=arf) (ai:cs.length=l*P.cellsOf e) (ab:l<bT)
   (h:∀w,iu P w->Calls P f args w fun x w'=>x= .returned (.slice (are ⟨w.heap.size,0,ari⟩) l l)/\w'=w.alloc (.cells cs.toArray e)):rA P f args m (.slice (are ⟨m.next,0,ari⟩) l l) (m.push (.own cs e))
 |row (b off l c g:Nat) (L:List arh) (e:arn) (F nc:List arh) (h:Qa P f (.func (.func g) #[] #[]) l F nc) (ar:args=#[.slice (are ⟨b,off,ari⟩) l c, .func (.func g) #[] #[]]) (ai:0<l) (hm:m.ay b= .own L e)
   (bM:(L.drop off).take F.length=F) (av:off+F.length<=L.length) (jl:nc.length=F.length) (f1:F.all b7=arf) (f2:nc.all b7=arf):rA P f args m (.tuple #[]) (m.put b (.own (ee L off nc) e))
def PF (P:arl) (g:FuncId):Prop:=
 (∃ fn, P.funcs[g]? = are fn ∧ (fn.name == "runtime.NumGoroutine") = arj ∧ fn.body.isNone = arj) ∧
  ∀(cs:Array arh) (w:World),CallsD P g cs .returning w fun e u w'=>(∃v,e= .returned v)/\u= .returning/\w'=w
structure abb (P:arl) (fn:Func) (c A:Code) (id:Nat) (mk oT:Oper) (B:Code) (g k:Nat) (cs:Array arm):Prop where
 body:fn.body=are (.seq A (.seq (.region id #[mk,oT] arj) B))
 code:c= .seq A (.seq (.region id #[mk] arj) B)
 c0:P8 A=arj
 afJ:mk.op= .makeFunc (.func g) #[] cs
 M8:mk.dst=are k
 Vn:mk.guard=ari
 aca:oT.op= .defer {callee:= .value (.tmp k),args:=#[],argTypes:=#[]}
 ab9:oT.dst=ari
 ab':oT.guard=ari
 afK:PF P g
def p8 (P:arl) (fn:Func) (c:Code):Prop:=fn.body=are c\/∃A id mk oT B g k cs,abb P fn c A id mk oT B g k cs
def hR (P:arl):Nat->FuncId->Array arh->Mem->arh->Mem->Prop
 |0,_,_,_,_,_=>False
 |n+1,f,args,m,v,m'=>(kG P f=arf/\rA P f args m v m')\/∃fn c e fr m1 vs,P.funcs[f]? =are fn/\p8 P fn c/\kG P f=arf/\args.size<=fn.ntmps/\
   j4 P (hR P n) n c (fun i=>(args++asr (fn.ntmps - args.size) undef).getD i undef) m e fr m1/\(e= .normal\/e= .ret)/\
   ov P fr m1 fn.results.toList vs/\v=pack vs/\(vs.length=1\/∀x∈vs,storable x=arf)/\
   (m'=m1\/(m'=m1.lM m.next/\low m.next v/\∀b,b<m.next->m1.ay b=m.ay b\/qT m.next (m1.ay b)))
end Go.aQ
end
section
namespace Go.aQ
theorem a1.F0 {al bs:Type} {R:al->bs->Prop} {l:List bs} (h:a1 R [] l):l=[]:=by
 cases l with
 |nil=>rfl
 |cons _ _=>exact h.elim
theorem Gf {fn:Fn} {aY cs:Array arh} (h:b7 (.func fn aY cs)=arf):aY=#[]/\cs=#[]:=by
 simp only[b7,arq] at h;exact ⟨by simpa using h.1,by simpa using h.2⟩
theorem zs {j:bb} {v aS:arh} (h:b7 v=arf) (aa:dr j v aS):aS=v:=by
 cases v with
 |pointer a=>cases a with
  |none=>exact aa
  |some a=>simp[b7] at h
 |slice a l c=>cases a with
  |none=>exact aa
  |some a=>simp[b7] at h
 |map r=>cases r with
  |none=>exact aa
  |some r=>simp[b7] at h
 |chan _=>simp[b7] at h
 |func _ _ _=>obtain ⟨rfl,rfl⟩:=Gf (fn:= .func 0) (by simpa[flat,hS,b7] using h);obtain ⟨_,ds,J,aj⟩:=aa;have:ds=#[]:=asB (a1.F0 aj);rw[J,this]
 |iface _ _=>simp[b7] at h
 |agg _=>simp[b7] at h
 |tuple _=>simp[b7] at h
 |_=>exact aa
theorem oo {j:bb} {v:arh} (h:b7 v=arf):dr j v v:=by
 cases v with
 |pointer a=>cases a with
  |none=>exact rfl
  |some a=>simp[b7] at h
 |slice a l c=>cases a with
  |none=>exact rfl
  |some a=>simp[b7] at h
 |map r=>cases r with
  |none=>exact rfl
  |some r=>simp[b7] at h
 |chan _=>simp[b7] at h
 |func _ _ _=>obtain ⟨rfl,rfl⟩:=Gf (fn:= .func 0) (by simpa[flat,hS,b7] using h);exact ⟨rfl,#[],rfl,trivial⟩
 |iface _ _=>simp[b7] at h
 |agg _=>simp[b7] at h
 |tuple _=>simp[b7] at h
 |_=>exact rfl
theorem a1.yg {al:Type} {R:al->al->Prop} {p:al->Bool} (h:∀a b,p a=arf->R a b->b=a):∀{l k:List al},l.all p=arf->a1 R l k->k=l
 |[],[],_,_=>rfl
 |a::l,b::k,an,⟨h1,J⟩=>by simp only[asb,arq] at an;rw[h a b an.1 h1,a1.yg h an.2 J]
 |[],_::_,_,ax=>ax.elim
 |_::_,[],_,ax=>ax.elim
theorem a1.self {al:Type} {R:al->al->Prop} {p:al->Bool} (h:∀a,p a=arf->R a a):∀{l:List al},l.all p=arf->a1 R l l
 |[],_=>arH
 |a::l,an=>by simp only[asb,arq] at an;exact ⟨h a an.1,a1.self h an.2⟩
theorem Oi {j:bb} {v aS:arh} (h:hS v=arf) (aa:eg j v aS):aS=v:=by
 cases v with
 |agg cs=>obtain ⟨ds,rfl,J⟩:=aa;have:=a1.yg (fun a b=>zs (j:=j)) h J;rw[asB this]
 |_=>exact zs (j:=j) h (by simpa only[eg] using aa)
theorem zn {j:bb} {v:arh} (h:hS v=arf):eg j v v:=by
 cases v with
 |agg cs=>exact ⟨cs,rfl,a1.self (fun a=>oo) h⟩
 |_=>simp only[eg];exact oo h
theorem wN {j:bb} {v aS:arh} (h:flat v=arf) (aa:bU j v aS):aS=v:=by
 cases v with
 |tuple cs=>obtain ⟨ds,rfl,J⟩:=aa;have:=a1.yg (fun a b=>Oi (j:=j)) h J;rw[asB this]
 |func _ _ _=>obtain ⟨rfl,rfl⟩:=Gf (fn:= .func 0) (by simpa[flat,hS,b7] using h);obtain ⟨gs,ds,h1,J,aj⟩:=aa;rw[h1,asB (a1.F0 J),asB (a1.F0 aj)]
 |chan _=>simp[flat,hS,b7] at h
 |_=>exact Oi (j:=j) h (by simpa only[bU] using aa)
theorem zg {j:bb} {v:arh} (h:flat v=arf):bU j v v:=by
 cases v with
 |tuple cs=>exact ⟨cs,rfl,a1.self (fun a=>zn) h⟩
 |func _ _ _=>obtain ⟨rfl,rfl⟩:=Gf (fn:= .func 0) (by simpa[flat,hS,b7] using h);exact ⟨#[],#[],rfl,trivial,trivial⟩
 |chan _=>simp[flat,hS,b7] at h
 |_=>simp only[bU];exact zn h
theorem jy.Vz {j:bb}:∀{l k:List arh},l.all xq=arf->a1 (eg j) l k->a1 (jy j) l k
 |[],[],_,_=>trivial
 |[],_::_,_,h=>h.elim
 |_::_,[],_,h=>h.elim
 |v::l,aS::k,an,⟨h1,J⟩=>by
  simp only[asb,arq] at an;refine ⟨?_,jy.Vz an.2 J⟩;have aa:=an.1;unfold xq at aa;split at aa
  ·exact h1
  ·cases aa
theorem bU.storable {j:bb} {v aS:arh} (h:bU j v aS) (aq:storable v=arf):eg j v aS:=by
 cases v with
 |tuple _=>simp[aQ.storable] at aq
 |chan _=>simp[aQ.storable] at aq
 |func fn aY cs=>
  simp only[aQ.storable,arq] at aq;have aK:aY=#[]:=by simpa using aq.1
  subst aK;obtain ⟨gs,ds,h1,J,aj⟩:=h;rw[asB (a1.F0 J)] at h1;exact ⟨rfl,ds,h1,jy.Vz aq.2 aj⟩
 |_=>exact h
theorem bU.int {j:bb} {k:aro} {n:Int} {aS:arh} (h:bU j (.int k n) aS):aS= .int k n:=h
theorem bU.bool {j:bb} {b:Bool} {aS:arh} (h:bU j (.bool b) aS):aS= .bool b:=h
theorem bU.str {j:bb} {b:ByteArray} {aS:arh} (h:bU j (.string b) aS):aS= .string b:=h
theorem bU.k8 {j:bb} {l c:Nat} {aS:arh} (h:bU j (.slice ari l c) aS):aS= .slice ari l c:=h
theorem bU.ptr {j:bb} {a:Addr} {aS:arh} (h:bU j (.pointer (are a)) aS):∃e,a.spot=ari/\j a.block=are e/\aS= .pointer (are ⟨e.ay,e.c0+a.off,ari⟩):=h
theorem bU.slice {j:bb} {a:Addr} {l c:Nat} {aS:arh} (h:bU j (.slice (are a) l c) aS):∃e,a.spot=ari/\j a.block=are e/\
   ((c<bT/\aS= .slice (are ⟨e.ay,e.c0+a.off,ari⟩) l c)\/
    (c=bT/\0<e.es/\l<=e.cap - a.off / e.es/\e.cap<bT/\a.off%e.es=0/\a.off / e.es<=e.cap/\aS= .slice (are ⟨e.ay,e.c0+a.off,ari⟩) l (e.cap - a.off / e.es))\/
    (c=bT/\l=0/\∃o',aS= .slice (are ⟨e.ay,o',ari⟩) 0 0)\/
    (c=0/\l=0/\∃a',aS= .slice (are a') 0 0)\/
    (∃k,c=bT+k/\0<k/\l<=k/\0<e.es/\k<=e.cap - a.off / e.es/\e.cap<bT/\a.off%e.es=0/\a.off / e.es<=e.cap/\aS= .slice (are ⟨e.ay,e.c0+a.off,ari⟩) l (e.cap - a.off / e.es))):=h
theorem bU.s8 {j:bb} {a:Addr} {l c:Nat} {aS:arh} (h:bU j (.slice (are a) l c) aS) (ad:c<=bT):∃e,a.spot=ari/\j a.block=are e/\
   ((c<bT/\aS= .slice (are ⟨e.ay,e.c0+a.off,ari⟩) l c)\/
    (c=bT/\0<e.es/\l<=e.cap - a.off / e.es/\e.cap<bT/\a.off%e.es=0/\a.off / e.es<=e.cap/\aS= .slice (are ⟨e.ay,e.c0+a.off,ari⟩) l (e.cap - a.off / e.es))\/
    (c=bT/\l=0/\∃o',aS= .slice (are ⟨e.ay,o',ari⟩) 0 0)\/
    (c=0/\l=0/\∃a',aS= .slice (are a') 0 0)):=by
 obtain ⟨e,h1,J,aj⟩:=h.slice;refine ⟨e,h1,J, ?_⟩;rcases aj with aj|aj|aj|aj|⟨k,hk,hy,_⟩
 ·exact .inl aj
 ·exact .inr (.inl aj)
 ·exact .inr (.inr (.inl aj))
 ·exact .inr (.inr (.inr aj))
 ·omega
theorem ot (b o n:Nat):(⟨b,o,ari⟩:Addr).add n=⟨b,o+n,ari⟩:=by
 unfold Addr.add;split<;>simp_all
theorem nH:∀(vs L:List arh) (o:Nat),(ee L o vs).length=L.length
 |[],L,o=>rfl
 |v::vs,L,o=>by simp[ee,nH vs]
theorem ow (vs:List arh):∀(L:List arh) (o i:Nat),o+vs.length<=L.length->(ee L o vs)[i]? =if o<=i/\i<o+vs.length then vs[i - o]? else L[i]? :=by
 induction vs with
 |nil=>intro L o i h;simp[ee];intro h1 J;omega
 |cons v vs aU=>
  intro L o i h;simp only[arU] at h;simp only[ee,arU];rw[aU (L.set o v) (o+1) i (by simp;omega)];by_cases h1:o+1<=i/\i<o+1+vs.length
  ·rw[if_pos h1,if_pos (by omega),show i - o=(i - (o+1))+1 by omega];simp
  ·rw[if_neg h1];by_cases J:o=i
   ·subst J;rw[if_pos (by omega),List.getElem?_set_self (by omega)];simp
   ·rw[if_neg (by omega),List.getElem?_set_ne J]
theorem ahh (vs:List arh):∀(A:Array arh) (o k:Nat),((vs.zipIdx k).foldl (fun cs (c,j)=>cs.setIfInBounds (o+j) c) A).toList=ee A.toList (o+k) vs:=by
 induction vs with
 |nil=>intro A o k;simp[ee]
 |cons v vs aU=>intro A o k;simp only[List.zipIdx_cons,List.foldl_cons,ee];rw[aU];simp[arZ]
theorem Ga {j:bb} {place:Nat->Option (Nat×Nat)}:∀(bx ED:List (Nat×arh)) (L:List arh) (A:Array arh) (cs:List arh),a1 (fun p q=>p.1=q.1/\bU j p.2 q.2) bx ED->a1 (dr j) L A.toList->iG place L bx=are cs->
  ∃ds,Instr.fill place A ED=are ds/\a1 (dr j) cs ds.toList
 |[],[],L,A,cs,_,b5,h=>by simp only[iG,arw.injEq] at h;subst h;exact ⟨A,rfl,b5⟩
 |(i,v)::bx,(k,aS)::ED,L,A,cs,⟨⟨h1,J⟩,aj⟩,b5,h=>by
  simp only at h1 J;subst h1;simp only[iG] at h;cases an:place i with
  |none=>simp[an] at h
  |some q=>
   obtain ⟨off,size⟩:=q;simp only[an] at h;split at h
   ·rename_i ad;obtain ⟨aq,bu,ai⟩:=ad;have jk:=bU.storable J aq;have dB:=eg.cells jk;have hlen:aS.cells.size=size:=by have:=dB.length;simp at this;omega
    have acO:L.length=A.size:=by have:=b5.length;simpa using this
    simp only[Instr.fill,an,hlen,ne_eq,not_true_eq_false,decide_false,Bool.false_or,decide_eq_true_eq];rw[if_neg (by omega)];refine Ga bx ED _ _ cs aj ?_ h;have aK:=ahh aS.cells.toList A off 0;simp only[ar3] at aK;have fE:(aS.cells.zipIdx.foldl (fun cs (c,j)=>cs.setIfInBounds (off+j) c) A)=((aS.cells.toList.zipIdx).foldl (fun cs (c,j)=>cs.setIfInBounds (off+j) c) A):=by rw[<-auX,Array.toList_zipIdx]
    rw[fE,aK];refine a1.F1 (by simp[nH,acO]) ?_;intro i a b ar ab;rw[ow _ _ _ _ (by simp;omega)] at ar;rw[ow _ _ _ _ (by simp;omega)] at ab;have r0:=dB.length;rw[r0] at ar;split at ar
    ·rename_i hx;rw[if_pos hx] at ab;obtain ⟨bV,ch,ao⟩:=dB.get _ _ ar;rw[ch] at ab;cases ab;exact ao
    ·rename_i hx;rw[if_neg hx] at ab;obtain ⟨bV,ch,ao⟩:=b5.get _ _ ar;rw[ch] at ab;cases ab;exact ao
   ·simp at h
 |[],_::_,_,_,_,h,_,_=>h.elim
 |_::_,[],_,_,_,h,_,_=>h.elim
def gy (j:bb) (ae cc:arm->arh) (o:Oper):Prop:=∀x∈o.op.operands,bU j (ae x) (cc x)
theorem dU {P:arl} {t:arn} {d:TypeDesc} (h:P.underlying t=are d) (w:World):(underlying t).run P w= .ok d w:=run_underlying h w
theorem uJ {P:arl} {t:arn} {i:TypeInfo} (h:P.info? t=are i) (w:World):(typeInfo t).run P w= .ok i w:=by simp[typeInfo,h]
theorem h0 {P:arl} {t:arn} {i:TypeInfo} (h:P.info? t=are i) (w:World):(sizeOf t).run P w= .ok i.size w:=by simp[sizeOf,uJ h]
theorem mQ {P:arl} {t:arn} {i:TypeInfo} {z:arh} (h:P.info? t=are i) (aD:i.zero=are z) (w:World):(zeroValue t).run P w= .ok z w:=by simp[zeroValue,uJ h,aD]
theorem w4 {P:arl} {t:arn} {d:TypeDesc} (h:P.underlying t=are d) (w:World):(isAgg t).run P w= .ok (jz d) w:=by
 simp only[isAgg,arV,dU h,arN];cases d<;>simp[jz]
theorem gy.M5 {j:bb} {ae cc:arm->arh} {o:Oper} (bx:List (Nat×arm)) (h:∀p∈bx,bU j (ae p.2) (cc p.2)):a1 (fun (p q:Nat×arh)=>p.1=q.1/\bU j p.2 q.2) (bx.map fun p=>(p.1,ae p.2)) (bx.map fun p=>(p.1,cc p.2)):=by
 induction bx with
 |nil=>exact arH
 |cons p bx aU=>exact ⟨⟨rfl,h p (by simp)⟩,aU fun q aF=>h q (by simp[aF])⟩
theorem Wz {P:arl} (w:World):∀(aY:List Field),(∀x∈aY.map (fun f=>(P.info? f.type).map fun i=>(f.offset,i.size)),x.isSome=arf)->
  (aY.mapM (m:=Sem) fun f=>do pure (f.offset,<-sizeOf f.type)).run P w= .ok (aY.map fun f=>(f.offset,((P.info? f.type).map (·.size)).getD 0)) w
 |[],_=>by simp
 |f::aY,h=>by have az:=h _ (by simp;exact .inl rfl);simp only[Option.isSome_map] at az;obtain ⟨i,af⟩:=Option.isSome_iff_exists.1 az;have aU:=Wz w aY (fun x U=>h x (by simp only[asc,arA];exact .inr U));simp only[List.mapM_cons,arV,h0 af,arN,ar0,aU,asc,af,asQ,asN]
theorem gy.fI {j:bb} {ae cc:arm->arh} {y:arm} {k:aro} {n:Int} (h:bU j (ae y) (cc y)) (ah:ae y= .int k n):cc y= .int k n:=by
 rw[ah] at h;exact h.int
end Go.aQ
end
section
namespace Go.aQ
theorem ahL {P:arl} {j:bb} {ae cc:arm->arh} {o:Oper} {v:arh} (aq:∀cs b,o.op≠ .select cs b) (h:∀x∈o.op.operands,flat (ae x)=arf) (ao:∀w,(execOp ae o).run P w= .ok (.value v) w)
  (aa:gy j ae cc o) (w:World):(execOp cc o).run P w= .ok (.value v) w:=by
 rw[<-ao w];congr 1;exact execOp_congr o aq fun x U=>wN (h x U) (aa x U)
theorem a1.extract {al bs:Type} {R:al->bs->Prop} {A:Array al} {B:Array bs} (h:a1 R A.toList B.toList) (i k:Nat):a1 R (A.extract i k).toList (B.extract i k).toList:=by
 simp only[auY,auD];exact (h.take k).drop i
theorem a1.size {al bs:Type} {R:al->bs->Prop} {A:Array al} {B:Array bs} (h:a1 R A.toList B.toList):A.size=B.size:=by simpa using h.length
theorem a1.Ln {al bs:Type} {R:al->bs->Prop} {A:Array al} {B:Array bs} (h:a1 R A.toList B.toList) (i:Nat) (a:al) (ar:A[i]? =are a):∃b,B[i]? =are b/\R a b:=by
 have:=h.get i a (by simpa using ar);simpa using this
theorem a1.map {al bs rm:Type} {R:bs->rm->Prop} (f:al->bs) (g:al->rm):∀(l:List al),(∀x∈l,R (f x) (g x))->a1 R (l.map f) (l.map g)
 |[],_=>arH
 |x::l,h=>⟨h x (by simp),a1.map f g l fun y ah=>h y (by simp[ah])⟩
theorem eg.up {j:bb} {v aS:arh} (h:eg j v aS):bU j v aS:=bU.wu h
theorem ahg {P:arl} {cc:arm->arh} {o:Oper} (neq:Bool) (x y:arm) (t u e:arn) (a:Addr) (l c:Nat) (h:o.op= .binOp (if neq then .neq else .eql) t x y u) (ak:P.underlying t=are (.slice e))
   (U:cc x= .slice (are a) l c) (ah:cc y= .slice ari 0 0) (w:World):(execOp cc o).run P w= .ok (.value (.bool neq)) w:=by
 have aM:(eqGuard (if neq then .neq else .eql) t x y (.slice (are a) l c) (.slice ari 0 0)).run P w= .ok () w:=by cases neq<;>simp[eqGuard]
 have ab:(binOp (if neq then .neq else .eql) t (.slice (are a) l c) (.slice ari 0 0)).run P w= .ok (.bool neq) w:=by
  cases neq
  ·exact Lib.run_eql_slice_nil w t e (are a) l c 0 0 ak
  ·exact run_neq_slice_nil_any w t e (are a) l c 0 0 ak
 simp only[execOp,h,U,ah,arV,aM,ab,arN,ar0]
theorem ND {P:arl} {j:bb} {ae cc:arm->arh} {o:Oper} {v:arh} (h:cm P ae o v) (hO:gy j ae cc o) (w:World):∃aS,(execOp cc o).run P w= .ok (.value aS) w/\bU j v aS:=by
 cases h with
 |flat v aq h aa ao=>exact ⟨v,ahL aq h ao hO w,zg aa⟩
 |move x h=>
  refine ⟨cc x, ?_,hO x ?_⟩
  ·rcases h with h|h<;>simp[execOp,h]
  ·rcases h with h|h<;>simp[h,arv]
 |pick c a b t h ad=>
  have h1:=hO c (by simp[h,arv]);rw[ad] at h1;have J:=h1.bool;have ar:=hO a (by simp[h,arv]);have ab:=hO b (by simp[h,arv]);refine ⟨if t then cc a else cc b, ?_, ?_⟩
  ·simp only[execOp,h,J];cases t<;>simp[asBool]
  ·cases t<;>simpa
 |extract x i vs v h U aa=>have h1:=hO x (by simp[h,arv]);rw[U] at h1;obtain ⟨ds,aw,J⟩:=h1;obtain ⟨b,ab,ao⟩:=J.Ln i v aa;exact ⟨b,by simp[execOp,h,Instr.extract,aw,ab],ao.up⟩
 |field t x i aY f d cs v h ak aK aw U aa=>
  have h1:=hO x (by simp[h,arv]);rw[U] at h1;obtain ⟨ds,kV,J⟩:=h1;by_cases ar:jz d=arf
  ·rw[if_pos ar] at aa;obtain ⟨k,hk,hle,rfl⟩:=aa;refine ⟨.agg (ds.extract f.offset (f.offset+k.size)), ?_,⟨_,rfl,J.extract _ _⟩⟩;simp[execOp,h,Instr.field,dU ak,aK,kV,asAgg,part,w4 aw,ar,h0 hk]
  ·rw[if_neg ar] at aa;obtain ⟨b,ab,ao⟩:=J.Ln _ _ aa;refine ⟨b, ?_,bU.p0 ao⟩;simp[execOp,h,Instr.field,dU ak,aK,kV,asAgg,part,w4 aw,ar,ab]
 |build t bx aY i z cs h ak af aD b3 an ad=>
  have J:=gy.M5 (j:=j) (ae:=ae) (cc:=cc) (o:=o) bx.toList (fun p an=>hO p.2 (by
   simp only[h,arv];simp only[atw,arC];exact ⟨p,an,rfl⟩))
  obtain ⟨ds,kV,ao⟩:=Ga (j:=j) _ _ _ z.cells cs J (a1.self (fun a=>oo) b3) ad;refine ⟨.agg ds, ?_,⟨_,rfl,by simpa using ao⟩⟩;have oa:=Wz (P:=P) w aY.toList (by simpa[mc] using an);have aeu:(aY.mapM (m:=Sem) fun f=>do pure (f.offset,<-sizeOf f.type)).run P w= .ok (aY.map fun f=>(f.offset,((P.info? f.type).map (·.size)).getD 0)) w:=by rw[Array.mapM_eq_mapM_toList];simp only[Sem.run_map,oa,arN];congr 1;apply asB;simp
  have adD:(fun k:Nat=>(aY.map fun f=>(f.offset,((P.info? f.type).map (·.size)).getD 0))[k]?)=(fun k:Nat=>((mc P aY)[k]?).join):=by
   funext k;simp only[mc,Array.getElem?_map,ar4,atx];cases hk:aY[k]? with
   |none=>simp
   |some f=>
    have hm:f∈aY.toList:=by have:=aty hk;simpa using this
    have:=an ((P.info? f.type).map fun i=>(f.offset,i.size)) (by simp only[mc,arC];exact ⟨f,hm,rfl⟩);simp only[Option.isSome_map] at this;obtain ⟨q,aF⟩:=Option.isSome_iff_exists.1 this;simp[aF]
  have tU:(bx.map fun (i,x)=>(i,cc x)).toList=bx.toList.map fun p=>(p.1,cc p.2):=by simp
  simp only[execOp,h,Instr.build,arV,mQ af aD,arN,dU ak,aeu,adD,tU,kV,ar0]
 |AS t bx n e i k z cs h ak af aD b3 he ad=>
  have J:=gy.M5 (j:=j) (ae:=ae) (cc:=cc) (o:=o) bx.toList (fun p an=>hO p.2 (by
   simp only[h,arv];simp only[atw,arC];exact ⟨p,an,rfl⟩))
  obtain ⟨ds,kV,ao⟩:=Ga (j:=j) _ _ _ z.cells cs J (a1.self (fun a=>oo) b3) ad;refine ⟨.agg ds, ?_,⟨_,rfl,by simpa using ao⟩⟩;have tU:(bx.map fun (i,x)=>(i,cc x)).toList=bx.toList.map fun p=>(p.1,cc p.2):=by simp
  simp only[execOp,h,Instr.build,arV,mQ af aD,arN,dU ak,h0 he,tU,kV,ar0]
 |nilCheck x a h U=>have h1:=hO x (by simp[h,arv]);rw[U] at h1;obtain ⟨e,aq,ap,ad⟩:=h1.ptr;exact ⟨_,by simp[execOp,h,ad],⟨e,aq,ap,rfl⟩⟩
 |fieldAddr t x i aY f k b off h ak aK hk aq U=>have h1:=hO x (by simp[h,arv]);rw[U] at h1;obtain ⟨e,_,ap,ad⟩:=h1.ptr;refine ⟨.pointer (are ⟨e.ay,e.c0+(off+f.offset),ari⟩), ?_,⟨e,rfl,ap,rfl⟩⟩;simp[execOp,h,Instr.fieldAt,dU ak,aK,ad,auj,fieldPlace,h0 hk,aq,ot,arZ]
 |indexAddr t x y e i b off l c k n h ak af U ah az h1=>
  have cp:=hO x (by simp[h,arv]);have iy:=hO y (by simp[h,arv]);rw[U] at cp;rw[ah] at iy;have ln:=iy.int;obtain ⟨q,_,ap,ad⟩:=cp.slice;have cU:∃bg,cc x= .slice (are ⟨q.ay,q.c0+off,ari⟩) l bg:=by
   rcases ad with ⟨_,ad⟩|⟨_,_,_,_,_,_,ad⟩|⟨_,ai,_,ad⟩|⟨_,ai,_⟩|⟨_,_,_,_,_,_,_,_,_,ad⟩
   ·exact ⟨_,ad⟩
   ·exact ⟨_,ad⟩
   ·omega
   ·omega
   ·exact ⟨_,ad⟩
  obtain ⟨bg,cU⟩:=cU;refine ⟨.pointer (are ⟨q.ay,q.c0+(off+n.toNat*i.size),ari⟩), ?_,⟨q,rfl,ap,rfl⟩⟩;simp[execOp,h,Instr.indexAt,ln,asIntOf,dU ak,cU,az,h1,h0 af,ot,arZ]
 |BU t x y e i b off l k n h ak af U ah az h1=>have cp:=hO x (by simp[h,arv]);have iy:=hO y (by simp[h,arv]);rw[U] at cp;rw[ah] at iy;have ln:=iy.int;obtain ⟨q,_,ap,ad⟩:=cp.ptr;refine ⟨.pointer (are ⟨q.ay,q.c0+(off+n.toNat*i.size),ari⟩), ?_,⟨q,rfl,ap,rfl⟩⟩;simp[execOp,h,Instr.indexAt,ln,asIntOf,dU ak,ad,auj,az,h1,h0 af,ot,arZ]
 |slice t x bf af e i b off l c n bq h ak da U ab dv cP h1 J aj=>
  have cp:=hO x (by simp[h,arv]);rw[U] at cp;obtain ⟨q,_,ap,ad⟩:=cp.s8 (asd ab);have hex:∃a':Addr,cc x= .slice (are a') l c/\((c<bT/\a'=⟨q.ay,q.c0+off,ari⟩)\/(c=0/\l=0)):=by
   rcases ad with ⟨aO,ad⟩|⟨ad,_⟩|⟨ad,_⟩|⟨ad,ai,a',ar⟩
   ·exact ⟨_,ad, .inl ⟨aO,rfl⟩⟩
   ·exact (as5 ab ad).elim
   ·exact (as5 ab ad).elim
   ·subst ad;subst ai;exact ⟨a',ar, .inr ⟨rfl,rfl⟩⟩
  obtain ⟨a',cU,Ms⟩:=hex;have kU:(ar1 arf l c (bf.map cc) (af.map cc) ari).run P w= .ok (n,bq,c) w:=by
   cases bf with
   |none=>
    simp only[oA] at dv;subst dv;cases af with
    |none=>simp only[lI] at cP;subst cP;simp[ar1]
    |some y=>obtain ⟨k,ah⟩:=cP;have:=gy.fI (hO y (by simp[h,arv])) ah;simp[ar1,this,asu,asIntOf,J]
   |some u=>
    obtain ⟨k,hu⟩:=dv;have jo:=gy.fI (hO u (by simp[h,arv])) hu;cases af with
    |none=>simp only[lI] at cP;subst cP;simp[ar1,jo,asu,asIntOf,h1]
    |some y=>obtain ⟨bW,ah⟩:=cP;have:=gy.fI (hO y (by simp[h,arv])) ah;simp[ar1,this,jo,asu,asIntOf,h1,J]
  refine ⟨.slice (are (if c=n then a' else a'.add (n*i.size))) (bq - n) (c - n), ?_, ?_⟩
  ·simp only[execOp,h,atz,arV,dU ak,arN,auk,atA,cU,kU,h0 da,ar0];congr 3;split<;>simp
  ·refine ⟨q,rfl,ap, ?_⟩;rcases Ms with ⟨aO,rfl⟩|⟨rfl,rfl⟩
   ·refine .inl ⟨atB (Nat.sub_le c n) aO, ?_⟩;congr 2;split<;>simp[ot,arZ]
   ·have av:n=0:=by omega
    have ax:bq=0:=by omega
    subst av;subst ax;exact .inr (.inr (.inr (.inl ⟨rfl,rfl,_,rfl⟩)))
 |slice3 t x eI af e i b off l c bq bW km h ak da U ad cP lu h1=>
  obtain ⟨y,wh,rfl,ah⟩:=cP;have cp:=hO x (by simp[h,arv]);rw[U] at cp;have sb:=gy.fI (hO y (by simp[h,arv])) ah;have fD:=gy.fI (hO eI (by simp[h,arv])) lu;obtain ⟨q,_,ap,dB⟩:=cp.s8 (by rcases ad with ⟨h1,_⟩|⟨h1,_⟩<;>omega);have hex:∃(a':Addr) (bg:Nat),cc x= .slice (are a') l bg/\bW<=bg/\dr j (.slice (are ⟨b,off,ari⟩) bq bW) (.slice (are a') bq bW):=by
   rcases dB with ⟨aO,dB⟩|⟨cJ,_,hle,gT,_,_,dB⟩|⟨cJ,dT,o',dB⟩|⟨kB,dT,a',dB⟩
   ·rcases ad with ⟨_,hk⟩|⟨cJ,_⟩
    ·exact ⟨_,_,dB,hk,q,rfl,ap, .inl ⟨atB hk aO,rfl⟩⟩
    ·exact absurd (cJ▸aO) (atC _)
   ·rcases ad with ⟨iA,_⟩|⟨_,hk⟩
    ·exact (as5 iA cJ).elim
    ·exact ⟨_,_,dB,arR hk hle,q,rfl,ap, .inl ⟨atB (arR hk hle) (atB (Nat.sub_le _ _) gT),rfl⟩⟩
   ·rcases ad with ⟨iA,_⟩|⟨_,hk⟩
    ·exact (as5 iA cJ).elim
    ·have hy:bW=0:=by omega
     have L6:bq=0:=by omega
     subst hy L6;subst dT;exact ⟨_,_,dB,ass _,q,rfl,ap, .inr (.inr (.inr (.inl ⟨rfl,rfl,_,rfl⟩)))⟩
   ·subst kB dT;have hy:bW=0:=by rcases ad with ⟨_,hk⟩|⟨_,hk⟩<;>omega
    have L6:bq=0:=by omega
    subst hy L6;exact ⟨a',_,dB,ars _,q,rfl,ap, .inr (.inr (.inr (.inl ⟨rfl,rfl,_,rfl⟩)))⟩
  obtain ⟨a',bg,cU,hk,aa⟩:=hex;have kU:(ar1 arf l bg (ari:Option arh) ((are y).map cc) (are (cc eI))).run P w= .ok (0,bq,bW) w:=by simp[ar1,sb,fD,asu,asIntOf,hk,h1]
  refine ⟨_, ?_,bU.p0 aa⟩;simp only[execOp,h,atz,arV,dU ak,arN,auk,asQ,atA,cU] at kU⊢;simp only[kU,h0 da,ar0,arN,Nat.sub_zero,asz];congr 3;split
  ·rfl
  ·rcases a' with ⟨fe,ek,s1⟩;cases s1<;>simp[Addr.add]
 |IB t x bf af eI e i b off l c n bq bW FQ FO km h ak da U ad dv cP lu az h1=>
  have cp:=hO x (by simp[h,arv]);rw[U] at cp;have eP:=gy.fI (hO bf (by simp[h,arv])) dv;have sb:=gy.fI (hO af (by simp[h,arv])) cP;have fD:=gy.fI (hO eI (by simp[h,arv])) lu;obtain ⟨q,_,ap,dB⟩:=cp.s8 (by rcases ad with ⟨h1,_⟩|⟨h1,_⟩<;>omega);have hex:∃(a':Addr) (bg:Nat),cc x= .slice (are a') l bg/\bW<=bg:=by
   rcases dB with ⟨aO,dB⟩|⟨cJ,_,hle,gT,_,_,dB⟩|⟨cJ,dT,o',dB⟩|⟨kB,dT,a',dB⟩
   ·rcases ad with ⟨_,hk⟩|⟨cJ,_⟩
    ·exact ⟨_,_,dB,hk⟩
    ·exact absurd (cJ▸aO) (atC _)
   ·rcases ad with ⟨iA,_⟩|⟨_,hk⟩
    ·exact (as5 iA cJ).elim
    ·exact ⟨_,_,dB,arR hk hle⟩
   ·rcases ad with ⟨iA,_⟩|⟨_,hk⟩
    ·exact (as5 iA cJ).elim
    ·subst dT;exact ⟨_,_,dB,hk⟩
   ·subst kB dT;have hy:bW=0:=by rcases ad with ⟨_,hk⟩|⟨_,hk⟩<;>omega
    exact ⟨a',_,dB,by omega⟩
  obtain ⟨a',bg,cU,hk⟩:=hex;have kU:(ar1 arf l bg ((are bf).map cc) ((are af).map cc) (are (cc eI))).run P w= .ok (n,bq,bW) w:=by simp[ar1,eP,sb,fD,asu,asIntOf,hk,h1,az]
  have gV:∃du uc c2,(execOp cc o).run P w= .ok (.value (.slice du uc c2)) w:=by simp only[execOp,h,atz,arV,dU ak,arN,asQ,atA,cU] at kU⊢;simp only[kU,h0 da,ar0,arN];exact ⟨_,_,_,rfl⟩
  obtain ⟨du,uc,c2,gV⟩:=gV;exact ⟨_,gV,fun b ab=>by cases ab⟩
 |DF t x eI af e i km h ak da U cP lu=>
  obtain ⟨y,wh,rfl,ah⟩:=cP;have cp:=hO x (by simp[h,arv]);rw[U] at cp;have cU:=cp.k8;have sb:=gy.fI (hO y (by simp[h,arv])) ah;have fD:=gy.fI (hO eI (by simp[h,arv])) lu;refine ⟨.slice ari 0 0, ?_,rfl⟩;have kU:(ar1 arf 0 0 (ari:Option arh) ((are y).map cc) (are (cc eI))).run P w= .ok (0,0,0) w:=by simp[ar1,sb,fD,asu,asIntOf]
  simp only[asQ] at kU;simp[execOp,h,atz,dU ak,atA,cU,kU,h0 da]
 |k8 t x bf af e i h ak da U dv cP=>
  have cp:=hO x (by simp[h,arv]);rw[U] at cp;have cU:=cp.k8;refine ⟨.slice ari 0 0, ?_,rfl⟩;have kU:(ar1 arf 0 0 (bf.map cc) (af.map cc) ari).run P w= .ok (0,0,0) w:=by
   cases bf with
   |none=>
    cases af with
    |none=>simp[ar1]
    |some y=>obtain ⟨k,ah⟩:=cP;have:=gy.fI (hO y (by simp[h,arv])) ah;simp[ar1,this,asu,asIntOf]
   |some u=>
    obtain ⟨k,hu⟩:=dv;have jo:=gy.fI (hO u (by simp[h,arv])) hu;cases af with
    |none=>simp[ar1,jo,asu,asIntOf]
    |some y=>obtain ⟨bW,ah⟩:=cP;have:=gy.fI (hO y (by simp[h,arv])) ah;simp[ar1,this,jo,asu,asIntOf]
  simp[execOp,h,atz,dU ak,atA,cU,kU,h0 da]
 |len x t e a l c h ak U=>
  have cp:=hO x (by simp[h,arv,asj]);rw[U] at cp;have cU:∃a' bg,cc x= .slice a' l bg:=by
   cases a with
   |none=>exact ⟨_,_,cp.k8⟩
   |some a=>
    obtain ⟨q,_,ap,ad⟩:=cp.slice;rcases ad with ⟨_,ad⟩|⟨_,_,_,_,_,_,ad⟩|⟨_,ai,_,ad⟩|⟨_,ai,_,ad⟩|⟨_,_,_,_,_,_,_,_,_,ad⟩
    ·exact ⟨_,_,ad⟩
    ·exact ⟨_,_,ad⟩
    ·subst ai;exact ⟨_,_,ad⟩
    ·subst ai;exact ⟨_,_,ad⟩
    ·exact ⟨_,_,ad⟩
  obtain ⟨a',bg,cU⟩:=cU;exact ⟨.int .i64 l,by simp[execOp,h,resolve,invoke,builtin,Builtin.len_,dU ak,cU,goInt],rfl⟩
 |AU x t e h ak U=>have cp:=hO x (by simp[h,arv,asj]);rw[U] at cp;have cU:=cp.k8;exact ⟨.int .i64 0,by simp[execOp,h,resolve,invoke,builtin,Builtin.cap_,dU ak,cU,goInt],rfl⟩
 |vp neq x y t u e a l c h ak U ah=>
  have cp:=hO x (by simp[h,arv]);rw[U] at cp;have iy:=hO y (by simp[h,arv]);rw[ah] at iy;have ln:=iy.k8;have cU:∃a' bg,cc x= .slice (are a') l bg:=by
   obtain ⟨q,_,ap,ad⟩:=cp.slice;rcases ad with ⟨_,ad⟩|⟨_,_,_,_,_,_,ad⟩|⟨_,ai,_,ad⟩|⟨_,ai,_,ad⟩|⟨_,_,_,_,_,_,_,_,_,ad⟩
   ·exact ⟨_,_,ad⟩
   ·exact ⟨_,_,ad⟩
   ·subst ai;exact ⟨_,_,ad⟩
   ·subst ai;exact ⟨_,_,ad⟩
   ·exact ⟨_,_,ad⟩
  obtain ⟨a',bg,cU⟩:=cU;refine ⟨.bool neq, ?_,rfl⟩;exact ahg neq x y t u e a' l bg h ak cU ln w
 |func fn first captured h aK=>
  refine ⟨.func fn (first.map cc) (captured.map cc),by simp[execOp,h,Instr.makeFunc],⟨_,_,rfl, ?_, ?_⟩⟩
  ·simp only[as6];exact a1.map _ _ _ fun x U=>bU.storable (hO x (by simp[h,arv];exact .inl (by simpa using U))) (aK x (by simp[U]))
  ·simp only[as6];exact a1.map _ _ _ fun x U=>bU.storable (hO x (by simp[h,arv];exact .inr (by simpa using U))) (aK x (by simp[U]))
end Go.aQ
end
section
namespace Go.aQ
structure tq (P:arl) (j:bb) (m:Mem) (w:World):Prop where
 load:∀b e o v,j b=are e->m.load b o=are v->∃aS,w.cell? ⟨e.ay,e.c0+o,ari⟩=are aS/\dr j v aS
 own:∀b e L t,j b=are e->m.ay b= .own L t->P.cellsOf t=e.es/\L.length<=e.cap*e.es
 map:∀b e L u,j b=are e->m.ay b= .map L u->nT P j e w.heap[e.ay]? (.map L u)
theorem Rel.load {P:arl} {j:bb} {m:Mem} {w:World} (h:Rel P j m w) (b:Nat) (e:iL) (o:Nat) (v:arh) (ap:j b=are e) (ai:m.load b o=are v):∃aS,w.cell? ⟨e.ay,e.c0+o,ari⟩=are aS/\dr j v aS:=by
 unfold Mem.load at ai;have ag:=h.obj b e ap;cases ab:m.ay b with
 |dead=>simp[ab] at ai
 |map L u=>simp[ab] at ai
 |lock _ _ _ _=>simp[ab] at ai
 |ro rd=>simp only[ab] at ai ag;obtain ⟨cs,t,a6,aS,h1,J,aj⟩:=ag o v ai;exact ⟨aS,by simp[atl,h1,J],aj⟩
 |own L t=>simp only[ab] at ai;obtain ⟨cs,a6,hw,aK,h1,J,aj,aJ⟩:=h.own b e L t ap ab;obtain ⟨aS,ad,ao⟩:=aJ o v ai;exact ⟨aS,by simp[atl,hw,ad],ao⟩
theorem Rel.mT {P:arl} {j:bb} {m:Mem} {w:World} (h:Rel P j m w):tq P j m w:=
 ⟨h.load,fun b e L t ap ab=>by
  obtain ⟨cs,a6,hw,aK,h1,J,aj,aJ⟩:=h.own b e L t ap ab;exact ⟨h1,by omega⟩,fun b e L u ap ab=>by have:=h.obj b e ap;rw[ab] at this;exact this⟩
theorem Ct {P:arl} {j:bb} {m:Mem} {w:World} (h:tq P j m w) {b:Nat} {e:iL} (ap:j b=are e):∀(n o:Nat) (cs:List arh),il m b o n=are cs->
  ∃ds:List arh,a1 (dr j) cs ds/\ds.length=n/\∀(i:Nat) (u:arh),ds[i]? =are u->w.cell? ⟨e.ay,e.c0+o+i,ari⟩=are u
 |0,o,cs,ao=>by simp only[il,arw.injEq] at ao;subst ao;exact ⟨[],arH,rfl,fun i u hu=>by simp at hu⟩
 |n+1,o,cs,ao=>by
  simp only[il] at ao;cases h1:m.load b o with
  |none=>simp[h1] at ao
  |some v=>
   cases J:il m b (o+1) n with
   |none=>simp[h1,J] at ao
   |some l=>
    simp only[h1,J,arw.injEq] at ao;subst ao;obtain ⟨aS,ad,aa⟩:=h.load b e o v ap h1;obtain ⟨ds,ai,av,aw⟩:=Ct h ap n (o+1) l J;refine ⟨aS::ds,⟨aa,ai⟩,by simp[av],fun i u hu=> ?_⟩;cases i with
    |zero=>simp at hu;subst hu;simpa using ad
    |succ i=>have:=aw i u (by simpa using hu);rw[show e.c0+o+(i+1)=e.c0+(o+1)+i by omega];exact this
theorem zi {P:arl} {w:World} {c o n:Nat} {ds:List arh} (av:ds.length=n) (aw:∀(i:Nat) (u:arh),ds[i]? =are u->w.cell? ⟨c,o+i,ari⟩=are u):(loadCells ⟨c,o,ari⟩ n).run P w= .ok ds.toArray w:=by
 rw[<-av];exact run_loadCells_list w ⟨c,o,ari⟩ ds (fun i u hu=>by rw[ot];exact aw i u hu)
theorem Wx {P:arl} {w:World} {a:Addr}:(loadCells a 0).run P w= .ok #[] w:=rfl
theorem Wn {P:arl} (w:World):∀(cs:List UInt8) (s:ByteArray) (f:arh->ByteArray->Sem (ForInStep ByteArray)),
  (∀u s,f (.int .u8 (u:UInt8).toNat) s=pure (.yield (s.push u)))->
  (forIn (cs.map fun u=>asM .u8 (u.toNat:Int)) s f).run P w= .ok (⟨s.data++cs.toArray⟩:ByteArray) w
 |[],s,f,aK=>by simp
 |u::cs,s,f,aK=>by simp only[asc,List.forIn_cons,aK,pure_bind,Wn w cs (s.push u) f aK];congr 1;simp[ByteArray.push]
theorem aj4 (u:UInt8):UInt8.ofNat ((u.toNat:Int).toNat)=u:=by simp
theorem zJ {P:arl} {w:World} {r:Nat} {es:Array MapEntry} {clock:Nat} (ab:w.heap[r]? =are (.map es clock)):(getObj r).run P w= .ok (.map es clock) w:=by
 simp[getObj,Sem.run,ab]
theorem Zl {P:arl} {w:World} {r:Nat} {es:Array MapEntry} {clock:Nat} (o:Obj) (ab:w.heap[r]? =are (.map es clock)):(setObj r o).run P w= .ok () {w with heap:=w.heap.setIfInBounds r o}:=by
 simp[setObj,Sem.run,ab]
theorem mo.xD {ks vs:Nat} (hk:0<ks):∀{L:List arh} {E E':List (List arh×List arh)},mo ks vs L E->mo ks vs L E'->E=E'
 |L,[],[],_,_=>rfl
 |L,[],p::E',h,bq=>by have h1:=h.eq;rw[bq.eq] at h1;have:=(bq.len p (by simp)).1;have J:=congrArg List.length h1;rw[asl,arJ,arJ] at J;simp only[at1,ath] at J;omega
 |L,p::E,[],h,bq=>by have h1:=bq.eq;rw[h.eq] at h1;have:=(h.len p (by simp)).1;have J:=congrArg List.length h1;rw[asl,arJ,arJ] at J;simp only[at1,ath] at J;omega
 |L,p::E,q::E',h,bq=>by have h1:=h.eq;rw[bq.eq] at h1;simp only[asl,List.append_assoc] at h1;obtain ⟨aT,h1⟩:=List.append_inj h1 (by rw[(h.len p (by simp)).1,(bq.len q (by simp)).1]);obtain ⟨e2,h1⟩:=List.append_inj h1 (by rw[(h.len p (by simp)).2,(bq.len q (by simp)).2]);have aU:=mo.xD hk (L:=E.flatMap fun p=>p.1++p.2) (E:=E) (E':=E') ⟨rfl,fun r ao=>h.len r (by simp[ao])⟩ ⟨h1.symm,fun r ao=>bq.len r (by simp[ao])⟩;rw[aU];congr 1;exact (Prod.ext aT e2).symm
theorem ry.find {P:arl} {j:bb} {kt vt:arn} {key z v:arh} {t:Bool} {E:List (List arh×List arh)} (h:ry (cB P kt) (cB P vt) key z E v t):∀{es:List MapEntry} (i:Nat),a1 (ru P j kt vt) E es->
  (t=arf/\∃n aS,kp key es i=are (n,aS)/\eg j v aS)\/(t=arj/\v=z/\kp key es i=ari):=by
 induction h with
 |nz=>
  intro es i aP;cases es with
  |nil=>exact .inr ⟨rfl,rfl,rfl⟩
  |cons _ _=>exact aP.elim
 |hit p E h=>
  intro es i aP;cases es with
  |nil=>exact aP.elim
  |cons x es=>obtain ⟨⟨h1,J,aj⟩,_⟩:=aP;exact .inl ⟨rfl,i,x.val,by rw[kp,if_pos (h1.trans h)],aj⟩
 |next p E v b h aP aU=>
  intro es i aP;cases es with
  |nil=>exact aP.elim
  |cons x es=>obtain ⟨⟨h1,J,aj⟩,aP⟩:=aP;have:=aU (i+1) aP;rw[kp,if_neg (fun ax=>h (h1.symm.trans ax))];exact this
theorem NY {P:arl} {j:bb} {kt vt:arn} {gp:arh->Prop}:∀{E:List (List arh×List arh)} {es:List MapEntry},a1 (ru P j kt vt) E es->(∀p∈E,gp (cN (cB P kt) p.1))->∀x∈es,gp x.key
 |[],[],_,_,x,U=>by simp at U
 |p::E,y::es,⟨h1,J⟩,aM,x,U=>by
  rcases arA.1 U with rfl|U
  ·rw[h1.1];exact aM p (by simp)
  ·exact NY J (fun q aF=>aM q (by simp[aF])) x U
 |[],_::_,h,_,_,_=>h.elim
 |_::_,[],h,_,_,_=>h.elim
theorem Wg {P:arl} {j:bb} {ae cc:arm->arh} {o:Oper} {m:Mem} {v:arh} (h:dX P ae o m v) (hO:gy j ae cc o) {w:World} (ba:tq P j m w):∃aS,(execOp cc o).run P w= .ok (.value aS) w/\bU j v aS:=by
 cases h with
 |load t x b off d v h U ak aw aa=>have cp:=hO x (by simp[h,arv]);rw[U] at cp;obtain ⟨q,_,ap,ad⟩:=cp.ptr;obtain ⟨aS,dB,ao⟩:=ba.load b q off v ap aa;exact ⟨aS,by simp[execOp,h,Instr.loadAt,ad,auj,loadVar,w4 ak,aw,dB],bU.p0 ao⟩
 |ud t x b off d i cs h U ak aw af aa=>have cp:=hO x (by simp[h,arv]);rw[U] at cp;obtain ⟨q,_,ap,ad⟩:=cp.ptr;obtain ⟨ds,ai,av,jV⟩:=Ct ba ap _ _ _ aa;exact ⟨.agg ds.toArray,by simp[execOp,h,Instr.loadAt,ad,auj,loadVar,w4 ak,aw,h0 af,zi av jV],⟨_,rfl,by simpa using ai⟩⟩
 |slice t x bf af e i L b off l n bq h ak da U hm dv cP h1 J aj=>
  have cp:=hO x (by simp[h,arv]);rw[U] at cp;obtain ⟨q,_,ap,ad⟩:=cp.s8 (ars _);obtain ⟨iB,_⟩:=ba.own b q L e ap hm;have bu:i.size=q.es:=by simpa[asm,da] using iB
  have key:∀(o' fk:Nat),cc x= .slice (are ⟨q.ay,o',ari⟩) l fk->l<=fk->
    (execOp cc o).run P w= .ok (.value (.slice (are ⟨q.ay,if fk=n then o' else o'+n*i.size,ari⟩) (bq - n) (fk - n))) w:=by
   intro o' fk cU hle;have kU:(ar1 arf l fk (bf.map cc) (af.map cc) ari).run P w= .ok (n,bq,fk) w:=by
    cases bf with
    |none=>
     simp only[oA] at dv;subst dv;cases af with
     |none=>simp only[lI] at cP;subst cP;simp[ar1]
     |some y=>obtain ⟨k,ah⟩:=cP;have:=gy.fI (hO y (by simp[h,arv])) ah;simp[ar1,this,asu,asIntOf,show bq<=fk by omega]
    |some u=>
     obtain ⟨k,hu⟩:=dv;have jo:=gy.fI (hO u (by simp[h,arv])) hu;cases af with
     |none=>simp only[lI] at cP;subst cP;simp[ar1,jo,asu,asIntOf,h1]
     |some y=>obtain ⟨bW,ah⟩:=cP;have:=gy.fI (hO y (by simp[h,arv])) ah;simp[ar1,this,jo,asu,asIntOf,h1,show bq<=fk by omega]
   simp only[execOp,h,atz,arV,dU ak,arN,auk,atA,cU,kU,h0 da,ar0];congr 3;split<;>simp[ot]
  rcases ad with ⟨aO,_⟩|⟨_,dt,hle,gT,lr,hdiv,ad⟩|⟨_,dT,o',ad⟩|⟨kB,_⟩
  rotate_left 3
  ·simp[bT] at kB
  ·exact absurd aO (atC _)
  ·have hle:l<=q.cap - off / q.es:=hle;have lr:off%q.es=0:=lr;have hdiv:off / q.es<=q.cap:=hdiv;refine ⟨_,key _ _ ad hle,⟨q,rfl,ap, ?_⟩⟩;by_cases aD:q.cap - off / q.es=n
   ·have:bq - n=0:=by omega
    right;right;left;refine ⟨rfl,this,q.c0+off, ?_⟩;simp[aD,this]
   ·right;left;have yv:(off+n*i.size) / q.es=off / q.es+n:=by rw[bu];exact auE _ _ dt
    refine ⟨rfl,dt, ?_,gT, ?_, ?_, ?_⟩
    ·simp only[yv];omega
    ·simp only[bu,Nat.add_mul_mod_self_right];exact lr
    ·simp only[yv];omega
    ·simp only[yv,if_neg aD,arZ];congr 1;omega
  ·subst dT;refine ⟨_,key _ _ ad (ars _),⟨q,rfl,ap, ?_⟩⟩;right;right;left;refine ⟨rfl,by omega,o', ?_⟩;have:n=0:=by omega
   have:bq=0:=by omega
   simp[*]
 |xA t x bf af e i L b off l c k n bq h ak da U hk hm dv cP h1 J aj=>
  have cp:=hO x (by simp[h,arv]);rw[U] at cp;obtain ⟨q,_,ap,ad⟩:=cp.slice;have ap:j b=are q:=ap;obtain ⟨iB,_⟩:=ba.own b q L e ap hm;have bu:i.size=q.es:=by simpa[asm,da] using iB
  have hex:∃fk,cc x= .slice (are ⟨q.ay,q.c0+off,ari⟩) l fk/\l<=fk/\k<=fk/\0<q.es/\fk=q.cap - off / q.es/\q.cap<bT/\off%q.es=0/\off / q.es<=q.cap:=by
   rcases ad with ⟨aO,_⟩|⟨cJ,dt,hle,gT,lr,hdiv,ad⟩|⟨cJ,dT,_⟩|⟨kB,_⟩|⟨bW,hX,hy,l3,adA,gT,aO,lr,hdiv,ad⟩
   ·rcases hk with ⟨hk,_⟩|hk<;>omega
   ·rcases hk with ⟨_,rfl⟩|hk
    ·exact ⟨_,ad,hle,hle,dt,rfl,gT,lr,hdiv⟩
    ·omega
   ·rcases hk with ⟨_,rfl⟩|hk<;>omega
   ·rcases hk with ⟨hk,_⟩|hk<;>(rw[kB] at hk;simp only[bT] at hk;omega)
   ·have Me:bW=k:=by rcases hk with ⟨hk,_⟩|hk<;>omega
    subst Me;exact ⟨_,ad,arR l3 gT,gT,adA,rfl,aO,lr,hdiv⟩
  obtain ⟨fk,cU,hle,yC,dt,dB,gT,lr,hdiv⟩:=hex;have kU:(ar1 arf l fk (bf.map cc) (af.map cc) ari).run P w= .ok (n,bq,fk) w:=by
   cases bf with
   |none=>
    simp only[oA] at dv;subst dv;cases af with
    |none=>simp only[lI] at cP;subst cP;simp[ar1]
    |some y=>obtain ⟨k,ah⟩:=cP;have:=gy.fI (hO y (by simp[h,arv])) ah;simp[ar1,this,asu,asIntOf,show bq<=fk by omega]
   |some u=>
    obtain ⟨k,hu⟩:=dv;have jo:=gy.fI (hO u (by simp[h,arv])) hu;cases af with
    |none=>simp only[lI] at cP;subst cP;simp[ar1,jo,asu,asIntOf,h1]
    |some y=>obtain ⟨bW,ah⟩:=cP;have:=gy.fI (hO y (by simp[h,arv])) ah;simp[ar1,this,jo,asu,asIntOf,h1,show bq<=fk by omega]
  have gV:(execOp cc o).run P w= .ok (.value (.slice (are ⟨q.ay,q.c0+off+n*i.size,ari⟩) (bq - n) (fk - n))) w:=by simp only[execOp,h,atz,arV,dU ak,arN,auk,atA,cU,kU,h0 da,ar0];congr 3;rw[if_neg (by omega)];simp[ot]
  refine ⟨_,gV,⟨q,rfl,ap, .inr (.inr (.inr (.inr ⟨k - n,rfl,by omega,by omega,dt, ?_,gT, ?_, ?_, ?_⟩)))⟩⟩
  ·show k - n<=q.cap - (off+n*i.size) / q.es;rw[bu,auE _ _ dt];omega
  ·show (off+n*i.size)%q.es=0;rw[bu,Nat.add_mul_mod_self_right];exact lr
  ·show (off+n*i.size) / q.es<=q.cap;rw[bu,auE _ _ dt];omega
  ·show _=arh.slice (are ⟨q.ay,q.c0+(off+n*i.size),ari⟩) (bq - n) (q.cap - (off+n*i.size) / q.es);rw[bu,auE _ _ dt,<-arZ,dB,<-bu];congr 1;omega
 |str s t x e b off l c cs h aq he ak U aa=>
  have cp:=hO x (by simp[h,arv]);rw[U] at cp;obtain ⟨q,_,ap,ad⟩:=cp.slice;obtain ⟨ds,ai,av,jV⟩:=Ct ba ap _ _ _ aa;have kV:ds=cs.map fun u=> .int .u8 u.toNat:=a1.yg (p:=b7) (fun a b=>zs (j:=j)) (by simp[b7]) ai;subst kV;refine ⟨.string ⟨cs.toArray⟩, ?_,rfl⟩;have key:∀(a':Addr) (fk:Nat),cc x= .slice (are a') l fk->(a'=⟨q.ay,q.c0+off,ari⟩\/l=0)->(execOp cc o).run P w= .ok (.value (.string ⟨cs.toArray⟩)) w:=by
   intro a' fk cU ag;have rZ:(loadCells a' l).run P w= .ok ((cs.map fun u=>asM .u8 (u.toNat:Int)).toArray) w:=by
    rcases ag with rfl|ag
    ·exact zi av jV
    ·subst ag;have:cs=[]:=by simpa using av
     subst this;exact Wx
   have ab:(auZ (.slice (are a') l fk)).run P w= .ok (.string ⟨cs.toArray⟩) w:=by simp only[auZ,arV,rZ,arN,List.forIn_toArray];rw[Wn (P:=P) w cs ByteArray.empty _ (fun u s=>by simp[aj4])];simp[ByteArray.empty,ByteArray.emptyWithCapacity];rfl
   simp[execOp,h,convert,dU aq,dU ak,cU,dU he,ab]
  rcases ad with ⟨_,ad⟩|⟨_,_,_,_,_,_,ad⟩|⟨_,dT,o',ad⟩|⟨_,dT,a',ad⟩|⟨_,_,_,_,_,_,_,_,_,ad⟩
  ·exact key _ _ ad (.inl rfl)
  ·exact key _ _ ad (.inl rfl)
  ·exact key _ 0 (by rw[ad,dT]) (.inr dT)
  ·exact key a' 0 (by rw[ad,dT]) (.inr dT)
  ·exact key _ _ ad (.inl rfl)
 |xB s t x e l c h aq he ak U=>have cp:=hO x (by simp[h,arv]);rw[U] at cp;have cU:=cp.k8;refine ⟨.string .empty, ?_,rfl⟩;simp[execOp,h,convert,dU aq,dU ak,cU,dU he,auZ]
 |lookup eE x ca ok u kt vt b L E i z v0 t gp h fX hu U lq kZ K aK hk aM af aD b3 ai=>
  have cp:=hO x (by simp[h,arv]);have cU:=wN aK (hO ca (by simp[h,arv]));have core:∃(es:Array MapEntry),a1 (ru P j kt vt) E es.toList/\((∃r clock,cc x= .map (are r)/\w.heap[r]? =are (.map es clock))\/(cc x= .map ari/\es=#[])):=by
   rcases U with ⟨U,hm,aP⟩|⟨U,rfl⟩
   ·rw[U] at cp;obtain ⟨q,ap,ad⟩:∃q,j b=are q/\cc x= .map (are q.ay):=cp;obtain ⟨gr,gx,cs,clock,E',g1,g2,g3,g4,_⟩:=ba.map b q L u ap hm;have tM:gr=kt/\gx=vt:=by rw[hu] at g2;simpa using g2.symm
    obtain ⟨rfl,rfl⟩:=tM;have:=mo.xD lq aP g3;subst this;exact ⟨cs,g4, .inl ⟨_,_,ad,g1⟩⟩
   ·rw[U] at cp;exact ⟨#[],arH, .inr ⟨cp,rfl⟩⟩
  obtain ⟨es,g4,ad⟩:=core;have mz:=K.find (ae ca) es.toList w hk (NY g4 aM);have ke:=K.check es.isEmpty (ae ca) w hk;have Ut:=ai.find 0 g4;rcases ad with ⟨r,clock,ad,g1⟩|⟨ad,rfl⟩
  ·rcases Ut with ⟨rfl,n,aS,h1,J⟩|⟨rfl,rfl,h1⟩
   ·rw[h1] at mz;cases ok with
    |false=>exact ⟨aS,by simp[execOp,h,at2,dU fX,ad,zJ g1,cU,ke,mz],bU.wu J⟩
    |true=>exact ⟨.tuple #[aS, .bool arf],by simp[execOp,h,at2,dU fX,ad,zJ g1,cU,ke,mz],⟨_,rfl,J,eg.p0 rfl,arH⟩⟩
   ·rw[h1] at mz;cases ok with
    |false=>exact ⟨v0,by simp[execOp,h,at2,dU fX,ad,zJ g1,cU,ke,mz,mQ af aD],bU.wu (zn b3)⟩
    |true=>exact ⟨.tuple #[v0, .bool arj],by simp[execOp,h,at2,dU fX,ad,zJ g1,cU,ke,mz,mQ af aD],⟨_,rfl,zn b3,eg.p0 rfl,arH⟩⟩
  ·rcases Ut with ⟨rfl,n,aS,h1,J⟩|⟨rfl,rfl,h1⟩
   ·simp[kp] at h1
   ·rw[h1] at mz;simp only[List.isEmpty_toArray,List.isEmpty_nil] at ke mz;have ke:=K.check arf (ae ca) w hk;cases ok with
    |false=>exact ⟨v0,by simp[execOp,h,at2,dU fX,ad,cU,ke,mz,mQ af aD],bU.wu (zn b3)⟩
    |true=>exact ⟨.tuple #[v0, .bool arj],by simp[execOp,h,at2,dU fX,ad,cU,ke,mz,mQ af aD],⟨_,rfl,zn b3,eg.p0 rfl,arH⟩⟩
end Go.aQ
end
section
namespace Go.aQ
def bb.up (j:bb) (n:Nat) (e:iL):bb:=fun b=>if b=n then are e else j b
theorem Rel.B3 {P:arl} {j:bb} {m:Mem} {w:World} (h:Rel P j m w):j m.next=ari:=by
 cases ap:j m.next with
 |none=>rfl
 |some e=>exact absurd (h.lt _ _ ap).1 (atC _)
theorem bb.xF {j:bb} {n:Nat} {e:iL} (av:j n=ari):∀b x,j b=are x->j.up n e b=are x:=by
 intro b x ab;unfold bb.up;split
 ·rename_i h;subst h;rw[av] at ab;cases ab
 ·exact ab
theorem Rel.push {P:arl} {j:bb} {m:Mem} {w w':World} (h:Rel P j m w) {X:aV} {e:iL} {ob:Obj}
  (hw:w'.heap=w.heap.push ob) (aeq:w'.os=w.os) (aeV:w'.tape=w.tape) (pO:w'.output=w.output) (he:e.ay=w.heap.size)
  (cp:nT P j e (are ob) X):Post P j m w (j.up m.next e) (m.push X) w':=by
 have av:=h.B3;have hle:=bb.xF (e:=e) av;have hold:∀c,c<w.heap.size->w'.heap[c]? =w.heap[c]? :=fun c ad=>by rw[hw,auF,if_neg (by omega)]
 have qN:w'.heap.size=w.heap.size+1:=by rw[hw];simp
 have iC:w'.heap[w.heap.size]? =are ob:=by rw[hw];simp
 have hblk:∀b,b≠m.next->(m.push X).ay b=m.ay b:=fun b ab=>by simp[Mem.push,ab]
 have o3:(m.push X).ay m.next=X:=by simp[Mem.push]
 have eU:∀b x,j.up m.next e b=are x->b≠m.next->j b=are x:=fun b x ab bL=>by simpa[bb.up,bL] using ab
 refine Post.of h ⟨?_, ?_, ?_⟩ ⟨aeq,aeV,pO,by omega,fun c ad _=>hold c ad⟩ (by simp[Mem.push]) ?_ ?_ ?_ (fun b ab eP=>by rw[hblk b (by omega)] at eP;exact eP)
 ·intro b x ab;by_cases ei:b=m.next
  ·subst ei;have:x=e:=by simpa[bb.up] using ab.symm
   subst this;exact ⟨by simp[Mem.push],by omega⟩
  ·have:=h.lt b x (eU b x ab ei);exact ⟨by simp only[Mem.push];omega,by omega⟩
 ·intro b x ab;by_cases ei:b=m.next
  ·subst ei;have:x=e:=by simpa[bb.up] using ab.symm
   subst this;rw[o3,he,iC];exact cp.mono hle
  ·have l1:=eU b x ab ei;rw[hblk b ei,hold _ (h.lt b x l1).2];exact (h.obj b x l1).mono hle
 ·intro b bV x gY ab ch ag eP mE;by_cases ei:b=m.next
  ·by_cases kz:bV=m.next
   ·rw[ei,kz]
   ·have U:x=e:=by subst ei;simpa[bb.up] using ab.symm
    have:=(h.lt bV gY (eU bV gY ch kz)).2;rw[<-mE,U,he] at this;omega
  ·have l1:=eU b x ab ei;by_cases kz:bV=m.next
   ·have U:gY=e:=by subst kz;simpa[bb.up] using ch.symm
    have:=(h.lt b x l1).2;rw[mE,U,he] at this;omega
   ·rw[hblk b ei] at ag;rw[hblk bV kz] at eP;exact h.inj b bV x gY l1 (eU bV gY ch kz) ag eP mE
 ·intro b ab;simp[bb.up,show b≠m.next by omega]
 ·intro b x ab eT;by_cases ei:b=m.next
  ·have U:x=e:=by subst ei;simpa[bb.up] using ab.symm
   exact .inl (by rw[U,he];exact ars _)
  ·exact absurd (h.lt b x (eU b x ab ei)).1 (atv.2 eT)
 ·intro b ab ag;rw[hblk b (by omega)] at ag;exact ag
theorem Rel.kill {P:arl} {j:bb} {m:Mem} {w:World} (h:Rel P j m w) (b:Nat):Post P j m w j (m.put b .dead) w:=by
 have hblk:∀c x,(m.put b .dead).ay c=x->(x≠ .dead)->m.ay c=x:=by
  intro c x ad U;simp only[Mem.put] at ad;split at ad
  ·exact absurd ad.symm U
  ·exact ad
 refine Post.of h ⟨h.lt, ?_, ?_⟩ (rv.refl j m w) (ars _) (fun _ _=>rfl) ?_ ?_ (fun c ad eP=>by
  have aT:m.ay c=(m.put b .dead).ay c:=by refine hblk c _ rfl ?_;intro aw;rw[aw] at eP;cases eP
  rw[aT];exact eP)
 ·intro c x ad;by_cases aw:(m.put b .dead).ay c= .dead
  ·rw[aw];trivial
  ·rw[<-hblk _ _ rfl aw];exact h.obj c x ad
 ·intro c bg x gY ad oZ ag ai mE;have aT:m.ay c=(m.put b .dead).ay c:=by
   refine hblk c _ rfl ?_;intro aw;rw[aw] at ag;cases ag
  have e2:m.ay bg=(m.put b .dead).ay bg:=by refine hblk bg _ rfl ?_;intro aw;rw[aw] at ai;cases ai
  exact h.inj c bg x gY ad oZ (by rw[aT];exact ag) (by rw[e2];exact ai) mE
 ·intro c e ad av;exact absurd (h.lt c e ad).1 (atv.2 av)
 ·intro c ad ag;have aT:m.ay c=(m.put b .dead).ay c:=by
   refine hblk c _ rfl ?_;intro aw;rw[aw] at ag;cases ag
  rw[aT];exact ag
def jM (w:World) (c:Nat) (cs:Array arh) (t:arn) (a6:Nat×Nat):World:={w with heap:=w.heap.setIfInBounds c (.cells cs t a6)}
theorem N8 {w:World} {c:Nat} {cs:Array arh} {t:arn} {a6:Nat×Nat} {x:Nat} (U:x≠c):(jM w c cs t a6).heap[x]? =w.heap[x]? :=by
 simp only[jM];rw[auG (by omega)]
theorem NE {w:World} {c:Nat} {cs:Array arh} {t:arn} {a6:Nat×Nat} (ad:c<w.heap.size):(jM w c cs t a6).heap[c]? =are (.cells cs t a6):=by
 simp[jM,ad]
def re (w:World) (c:Nat) (o:Obj):World:={w with heap:=w.heap.setIfInBounds c o}
theorem XP {w:World} {c:Nat} {o:Obj} {x:Nat} (U:x≠c):(re w c o).heap[x]? =w.heap[x]? :=by
 simp only[re];rw[auG (by omega)]
theorem ahy {w:World} {c:Nat} {o:Obj} (ad:c<w.heap.size):(re w c o).heap[c]? =are o:=by
 simp[re,ad]
theorem Rel.mW {P:arl} {j:bb} {m:Mem} {w:World} (h:Rel P j m w) {b:Nat} {e:iL} {X:aV} {ob:Obj} (ap:j b=are e) (qK:(m.ay b).gj=arf) (cp:nT P j e (are ob) X) (aqh:X.gj=arf):
  Post P j m w j (m.put b X) (re w e.ay ob):=by
 have aO:=(h.lt b e ap).2;have kD:(m.ay b).live=arf:=by cases ab:m.ay b<;>simp[ab,aV.gj,aV.live] at qK⊢
 have bL:∀c x,j c=are x->(m.ay c).live=arf->c≠b->x.ay≠e.ay:=fun c x ad ai cJ iD=>cJ (h.inj b c e x ap ad qK ai iD.symm).symm;have hblk:∀c,c≠b->(m.put b X).ay c=m.ay c:=fun c ad=>by simp[Mem.put,ad]
 have o3:(m.put b X).ay b=X:=by simp[Mem.put]
 have qN:(re w e.ay ob).heap.size=w.heap.size:=by simp[re]
 refine Post.of h ⟨?_, ?_, ?_⟩ ⟨rfl,rfl,rfl,by rw[qN];exact ars _, ?_⟩ (ars _) (fun _ _=>rfl) ?_ ?_ (fun c ad eP=>by
  by_cases cJ:c=b
  ·subst cJ;exact kD
  ·rw[hblk c cJ] at eP;exact eP)
 ·intro c x ad;have:=h.lt c x ad;exact ⟨this.1,by rw[qN];exact this.2⟩
 ·intro c x ad;by_cases cJ:c=b
  ·subst cJ;rw[ap] at ad;cases ad;rw[o3,ahy aO];exact cp
  ·rw[hblk c cJ];cases ai:(m.ay c).live with
   |false=>
    cases ab:m.ay c<;>simp[ab,aV.live] at ai
    trivial
   |true=>rw[XP (bL c x ad ai cJ)];exact h.obj c x ad
 ·intro c bg x gY ad oZ ag eP mE;have aT:(m.ay c).gj=arf:=by
   by_cases cJ:c=b
   ·subst cJ;exact qK
   ·rw[hblk c cJ] at ag;exact ag
  have e2:(m.ay bg).live=arf:=by
   by_cases cJ:bg=b
   ·subst cJ;exact kD
   ·rw[hblk bg cJ] at eP;exact eP
  exact h.inj c bg x gY ad oZ aT e2 mE
 ·intro c ad av;exact XP (Ne.symm (av b e ap qK))
 ·intro c x ad eT;exact absurd (h.lt c x ad).1 (atv.2 eT)
 ·intro c ad ag;by_cases cJ:c=b
  ·subst cJ;exact qK
  ·rw[hblk c cJ] at ag;exact ag
theorem Rel.write {P:arl} {j:bb} {m:Mem} {w:World} (h:Rel P j m w) {b:Nat} {e:iL} {L L':List arh} {t:arn} {cs cs':Array arh} {a6:Nat×Nat} (ap:j b=are e) (ab:m.ay b= .own L t)
  (hw:w.heap[e.ay]? =are (.cells cs t a6)) (aq:cs'.size=cs.size) (ai:L'.length<=e.cap*e.es) (aa:∀(i:Nat) (v:arh),L'[i]? =are v->∃aS,cs'[e.c0+i]? =are aS/\dr j v aS):
  Post P j m w j (m.put b (.own L' t)) (jM w e.ay cs' t a6):=by
 obtain ⟨qt,yk,g1,g2,g3,g4,g5,g6⟩:=h.own b e L t ap ab;have gI:qt=cs/\yk=a6:=by rw[hw] at g1;simp at g1;exact ⟨g1.1.symm,g1.2.symm⟩
 obtain ⟨rfl,rfl⟩:=gI;exact h.mW ap (by rw[ab];rfl) ⟨cs',yk,rfl,by rw[aq];exact g2,g3,by rw[aq];exact g4,ai,aa⟩ rfl
theorem Rel.reuse {P:arl} {j:bb} {m:Mem} {w:World} (h:Rel P j m w) {b:Nat} {e e2:iL} {L L':List arh} {t:arn} {cs cs':Array arh} {a6:Nat×Nat} (ap:j b=are e) (ab:m.ay b= .own L t)
  (hw:w.heap[e.ay]? =are (.cells cs t a6)) (aq:cs'.size=cs.size) (Bl:e2.ay=e.ay) (lo:e2.es=e.es) (ady:e2.c0+e2.cap*e2.es<=cs.size) (ai:L'.length<=e2.cap*e2.es) (aa:∀(i:Nat) (v:arh),L'[i]? =are v->∃aS,cs'[e2.c0+i]? =are aS/\dr j v aS):
  Post P j m w (j.up m.next e2) ((m.put b .dead).push (.own L' t)) (jM w e.ay cs' t a6):=by
 have aO:=(h.lt b e ap).2;have av:=h.B3;have hle:=bb.xF (e:=e2) av;have qK:(m.ay b).gj=arf:=by rw[ab];rfl
 have bL:∀c x,j c=are x->(m.ay c).live=arf->c≠b->x.ay≠e.ay:=fun c x ad ai cJ iD=>cJ (h.inj b c e x ap ad qK ai iD.symm).symm;have ei:b<m.next:=(h.lt b e ap).1;have vQ:(m.put b .dead).next=m.next:=rfl;have hblk:∀c,c≠b->c≠m.next->((m.put b .dead).push (.own L' t)).ay c=m.ay c:=fun c ad oZ=>by simp[Mem.put,Mem.push,ad,oZ]
 have yu:((m.put b .dead).push (.own L' t)).ay b= .dead:=by simp[Mem.put,Mem.push,show b≠m.next by omega]
 have aeb:((m.put b .dead).push (.own L' t)).ay m.next= .own L' t:=by simp[Mem.put,Mem.push]
 have eU:∀b x,j.up m.next e2 b=are x->b≠m.next->j b=are x:=fun b x ab bL=>by simpa[bb.up,bL] using ab
 obtain ⟨qt,yk,g1,g2,g3,g4,g5,g6⟩:=h.own b e L t ap ab;have gI:qt=cs/\yk=a6:=by rw[hw] at g1;simp at g1;exact ⟨g1.1.symm,g1.2.symm⟩
 obtain ⟨rfl,rfl⟩:=gI;have qN:(jM w e.ay cs' t yk).heap.size=w.heap.size:=by simp[jM]
 refine Post.of h ⟨?_, ?_, ?_⟩ ⟨rfl,rfl,rfl,by rw[qN];exact ars _, ?_⟩ (by simp[Mem.push,vQ]) ?_ ?_ ?_ (fun c ad eP=>by
  by_cases cJ:c=b
  ·subst cJ;rw[ab];rfl
  ·rw[hblk c cJ (by omega)] at eP;exact eP)
 ·intro c x ad;by_cases iA:c=m.next
  ·subst iA;have:x=e2:=by simpa[bb.up] using ad.symm
   subst this;exact ⟨by simp[Mem.push,vQ],by rw[qN,Bl];exact aO⟩
  ·have:=h.lt c x (eU c x ad iA);exact ⟨by simp only[Mem.push,vQ];omega,by rw[qN];exact this.2⟩
 ·intro c x ad;by_cases iA:c=m.next
  ·subst iA;have U:x=e2:=by simpa[bb.up] using ad.symm
   subst U;rw[aeb,Bl,NE aO];refine ⟨cs',yk,rfl,by rw[aq];exact g2,by rw[lo];exact g3,by rw[aq];exact ady,ai,fun i v af=> ?_⟩;obtain ⟨aS,cI,cL⟩:=aa i v af;exact ⟨aS,cI,cL.mono hle⟩
  ·by_cases cJ:c=b
   ·subst cJ;rw[yu];trivial
   ·have Bu:=eU c x ad iA;rw[hblk c cJ iA];cases kD:(m.ay c).live with
    |false=>
     cases LP:m.ay c<;>simp[LP,aV.live] at kD
     trivial
    |true=>rw[N8 (bL c x Bu kD cJ)];exact (h.obj c x Bu).mono hle
 ·intro c bg x gY ad oZ ag eP mE;have cJ:c≠b:=by intro ax;subst ax;rw[yu] at ag;cases ag
  have LW:bg≠b:=by intro ax;subst ax;rw[yu] at eP;cases eP
  by_cases iA:c=m.next
  ·by_cases vF:bg=m.next
   ·rw[iA,vF]
   ·have U:x=e2:=by subst iA;simpa[bb.up] using ad.symm
    rw[hblk bg LW vF] at eP;exact absurd (by rw[<-mE,U,Bl]) (bL bg gY (eU bg gY oZ vF) eP LW)
  ·rw[hblk c cJ iA] at ag;have Bu:=eU c x ad iA;by_cases vF:bg=m.next
   ·have U:gY=e2:=by subst vF;simpa[bb.up] using oZ.symm
    have kD:(m.ay c).live=arf:=by cases hm:m.ay c<;>simp[hm,aV.gj,aV.live] at*
    exact absurd (by rw[mE,U,Bl]) (bL c x Bu kD cJ)
   ·rw[hblk bg LW vF] at eP;exact h.inj c bg x gY Bu (eU bg gY oZ vF) ag eP mE
 ·intro c ad lv;exact N8 (Ne.symm (lv b e ap qK))
 ·intro c ad;simp[bb.up,show c≠m.next by omega]
 ·intro c x ad eT;by_cases iA:c=m.next
  ·have U:x=e2:=by subst iA;simpa[bb.up] using ad.symm
   exact .inr ⟨b,e,ap,qK,by rw[U,Bl]⟩
  ·exact absurd (h.lt c x (eU c x ad iA)).1 (atv.2 eT)
 ·intro c ad ag;by_cases cJ:c=b
  ·subst cJ;exact qK
  ·rw[hblk c cJ (by omega)] at ag;exact ag
end Go.aQ
end
section
namespace Go.aQ
structure AF (P:arl) (j:bb) (w w':World) (X:aV) (e:iL) (ob:Obj):Prop where
 heap:w'.heap=w.heap.push ob
 os:w'.os=w.os
 tape:w'.tape=w.tape
 output:w'.output=w.output
 ay:e.ay=w.heap.size
 obj:nT P j e (are ob) X
 own:X.gj=arf
theorem AF.cells {P:arl} {j:bb} {w w':World} {L:List arh} {t:arn} {e:iL} {cs:Array arh} {a6:Nat×Nat} (h1:w'.heap=w.heap.push (.cells cs t a6)) (J:w'.os=w.os) (aj:w'.tape=w.tape) (aJ:w'.output=w.output) (bk:e.ay=w.heap.size)
  (dn:∀i:Nat,i<cs.size->¬(a6.1<=i/\i<a6.2)) (gz:P.cellsOf t=e.es) (hM:cs.size=e.cap*e.es) (n0:L.length<=cs.size) (Ba:∀(i:Nat) (v:arh),L[i]? =are v->∃aS,cs[i]? =are aS/\dr j v aS) (T4:e.c0=0:=by rfl):AF P j w w' (.own L t) e (.cells cs t a6):=
 ⟨h1,J,aj,aJ,bk,⟨cs,a6,rfl,dn,gz,by rw[T4,hM];omega,by rw[<-hM];exact n0,fun i v af=>by rw[T4,arE];exact Ba i v af⟩,rfl⟩
theorem a1.QL {R:arh->arh->Prop} {L:List arh} {cs:Array arh} (h:a1 R L cs.toList):L.length=cs.size/\∀(i:Nat) (v:arh),L[i]? =are v->∃aS,cs[i]? =are aS/\R v aS:=
 ⟨by simpa using h.length,fun i v af=>by obtain ⟨b,ab,ao⟩:=h.get i v af;exact ⟨b,by simpa using ab,ao⟩⟩
theorem Di {n:Nat}:∀i:Nat,i<n->¬(((0,0):Nat×Nat).1<=i/\i<((0,0):Nat×Nat).2):=fun i _ h=>absurd h.2 (Nat.not_lt_zero i)
theorem wG {P:arl} {t:arn} {i:TypeInfo} (h:P.info? t=are i):P.cellsOf t=i.size:=by simp[asm,h]
theorem Da:atn 0=#[]:=by apply asB;simp
theorem GI (z:Array arh) (l:Nat):((atn (l*z.size)).map (fun k=>z[k%z.size]!)).toList=(arL l z.toList).flatten:=by
 induction l with
 |zero=>simp
 |succ l aU=>
  have e:atn ((l+1)*z.size)=atn (l*z.size)++((atn z.size).map (l*z.size+·)):=by rw[arW,Nat.one_mul,Array.range_add]
  rw[e,Array.map_append,au0,aU,List.replicate_succ',List.flatten_append];congr 1;simp only[List.flatten_cons,List.flatten_nil,List.append_nil,Array.map_map];apply as8;intro i;simp only[as6,ar4,Array.toList_range,List.getElem?_range];by_cases af:i<z.size
  ·simp[af,Nat.mod_eq_of_lt af,Nat.mul_add_mod_self_right]
  ·simp[af]
theorem GP {j:bb} {L:List arh} (h:L.all b7=arf):a1 (dr j) L L:=a1.self (fun _=>oo) h
theorem wE {z:List arh} (h:z.all b7=arf) (l:Nat):(arL l z).flatten.all b7=arf:=by
 simp only[arz] at h⊢;intro x U;simp only[au1,au2] at U;obtain ⟨iW,⟨_,rfl⟩,U⟩:=U;exact h x U
theorem Yx {P:arl} {j:bb} {ae cc:arm->arh} {o:Oper} {n:Nat} {X:aV} {v:arh} (h:hI P ae o n X v) (hO:gy j ae cc o) (w:World):
  ∃aS w' e ob,(execOp cc o).run P w= .ok (.value aS) w'/\AF P j w w' X e ob/\∀bw:bb,bw n=are e->bU bw v aS:=by
 cases h with
 |alloc t i z h af aD b3 aq=>
  have gU:=(GP (j:=j) b3).QL;refine ⟨.pointer (are ⟨w.heap.size,0,ari⟩),w.alloc (.cells z.cells t),⟨w.heap.size,1,i.size,0⟩,_, ?_,
   .cells rfl rfl rfl rfl rfl Di (wG af) (by simp[aq]) (by simp) gU.2,fun bw ap=>⟨_,rfl,ap,rfl⟩⟩
  simp[execOp,h,Instr.alloc,mQ af aD,newVar,newRow]
 |box t x i h af aa aq=>
  have cp:=bU.storable (hO x (by simp[h,arv])) aa;have gU:=cp.cells.QL;refine ⟨.pointer (are ⟨w.heap.size,0,ari⟩),w.alloc (.cells (cc x).cells t),⟨w.heap.size,1,i.size,0⟩,_, ?_,
   .cells rfl rfl rfl rfl rfl Di (wG af) ?_ ?_ gU.2,fun bw ap=>⟨_,rfl,ap,rfl⟩⟩
  ·simp[execOp,h,Instr.box,newVar,newRow]
  ·have:=gU.1;simp at this;simp;omega
  ·exact Nat.le_of_eq gU.1
 |buildSlice t l bx e i z cs h ak af aD b3 cZ rR rX ad=>
  have J:=gy.M5 (j:=j) (ae:=ae) (cc:=cc) (o:=o) bx.toList (fun p an=>hO p.2 (by
   simp only[h,arv];simp only[atw,arC];exact ⟨p,an,rfl⟩))
  have Um:a1 (dr j) (arL l z.cells.toList).flatten ((atn (l*i.size)).map (fun k=>z.cells[k%z.cells.size]!)).toList:=by rw[<-cZ,GI];exact GP (wE b3 l)
  obtain ⟨ds,kV,ao⟩:=Ga (j:=j) _ _ _ _ cs J Um ad;have gU:=ao.QL;have hlen:cs.length=l*i.size:=by
   have:∀(bx:List (Nat×arh)) (L cs:List arh) (pl:Nat->Option (Nat×Nat)),iG pl L bx=are cs->cs.length=L.length:=by
    intro bx;induction bx with
    |nil=>intro L cs pl ax;simp only[iG,arw.injEq] at ax;rw[ax]
    |cons p bx aU=>
     intro L cs pl ax;obtain ⟨a,b⟩:=p;simp only[iG] at ax;cases an:pl a with
     |none=>simp[an] at ax
     |some q=>
      simp only[an] at ax;split at ax
      ·rw[aU _ _ _ ax,nH]
      ·cases ax
   rw[this _ _ _ _ ad];have ab:=Um.length;simpa using ab
  have tU:(bx.map fun (i,x)=>(i,cc x)).toList=bx.toList.map fun p=>(p.1,cc p.2):=by simp
  refine ⟨.slice (are ⟨w.heap.size,0,ari⟩) l l,w.alloc (.cells ds e),⟨w.heap.size,l,i.size,0⟩,_, ?_,
   .cells rfl rfl rfl rfl rfl Di (wG af) (by rw[<-gU.1,hlen]) (Nat.le_of_eq gU.1) gU.2,fun bw ap=>⟨_,rfl,ap, .inl ⟨rX,rfl⟩⟩⟩
  by_cases mH:l*i.size=0
  ·have jV:Instr.fill (fun k=>are (k*i.size,i.size)) ((atn 0).map (fun k=>(#[]:Array arh)[k%0]!)) (bx.toList.map fun p=>(p.1,cc p.2))=are ds:=by
    rw[mH,Da] at kV;rw[Da];simpa using kV
   simp only[execOp,h,Instr.buildSlice,arV,dU ak,arN,h0 af];simp only[mH];simp[Da] at jV;simp[jV,tU,newRow,Da]
  ·simp only[execOp,h,Instr.buildSlice,arV,dU ak,arN,h0 af];rw[if_neg (by omega)];simp only[mH,if_false,arV,mQ af aD,arN,ar0,tU,kV];simp[newRow]
 |makeSlice t x y l c k bW e i z h ak af aD b3 cZ U ah rZ ab ad=>
  have cp:=hO x (by simp[h,arv]);rw[U] at cp;have cU:=cp.int;have iy:=hO y (by simp[h,arv]);rw[ah] at iy;have ln:=iy.int;have gU:=(GP (j:=j) (wE b3 c)).length;have ae8:aro.i64.wrap (l:Int)=(l:Int):=IntWalk.i64_in _ (by omega);have ae5:aro.i64.wrap (c:Int)=(c:Int):=IntWalk.i64_in _ (by omega);have n2:(i.bytes:Int)*(c:Int)<=140737488355328:=by
   have:((i.bytes*c:Nat):Int)<=140737488355328:=by omega
   rwa [Int.natCast_mul] at this
  refine ⟨.slice (are ⟨w.heap.size,0,ari⟩) l c,w.alloc (.cells ((atn (c*i.size)).map (fun k=>z.cells[k%z.cells.size]!)) e),⟨w.heap.size,c,i.size,0⟩,_, ?_,
   .cells rfl rfl rfl rfl rfl Di (wG af) (by simp) ?_ ?_,fun bw ap=>⟨_,rfl,ap, .inl ⟨ad,rfl⟩⟩⟩
  ·have lA:∀q:Int,0<=q->q<=c->(decide (q<0)||decide ((i.bytes:Int)*q>2 ^ 48))=arj:=by
    intro q az h1;have:(i.bytes:Int)*q<=(i.bytes:Int)*c:=Int.mul_le_mul_of_nonneg_left h1 (by omega);simp;omega
   have aq:(Instr.makeSlice t (.int k l) (.int bW c)).run P w= .ok (.slice (are ⟨w.heap.size,0,ari⟩) l c) (w.alloc (.cells ((atn (c*i.size)).map (fun k=>z.cells[k%z.cells.size]!)) e)):=by
    simp only[Instr.makeSlice,arV,dU ak,arN,asInt,asIntOf,ar0,uJ af,ae8,ae5];rw[lA c (by omega) (by omega)];have h1:¬((l:Int)<0):=by omega
    have J:¬((l:Int)>(c:Int)):=by omega
    simp only[h1,J,decide_false,Bool.or_self,asf,if_false,arV,run_askRoom,arN,Int.toNat_natCast,h0 af,ar0];by_cases mH:c*i.size=0
    ·simp[mH,newRow,Da]
    ·simp[mH,mQ af aD,newRow]
   simp[execOp,h,cU,ln,aq]
  ·simp[cZ]
  ·intro a v ar;refine ⟨v, ?_, ?_⟩
   ·have:=GI z.cells c;rw[cZ] at this;rw[<-atx,cZ,this];exact ar
   ·have:=wE b3 c;simp only[arz] at this;exact oo (this v (arI ar))
 |bytes s t x e i b h aq ak he af iS U ab=>
  have cp:=hO x (by simp[h,arv]);rw[U] at cp;have cU:=cp.str
  let cap:=(Question.appendCap b.size 0 e).cut (w.tape w.drawn (.appendCap b.size 0 e))
  have gT:b.size<=cap/\cap<bT:=by have aO:=Nat.mod_lt (w.tape w.drawn (.appendCap b.size 0 e)) (show 0<2 ^ 63 - b.size by omega);simp only[cap,Question.cut,bT];omega
  let row:Array arh:=b.data.map (fun u=> .int .u8 u.toNat)++asr (cap - b.size) (.int .u8 0)
  have tV:row.size=cap:=by simp[row];have:b.data.size=b.size:=rfl;omega
  refine ⟨.slice (are ⟨w.heap.size,0,ari⟩) b.size cap,(w.drew.alloc (.cells row e)).freeze {block:=w.heap.size,off:=cap} 1,⟨w.heap.size,cap,1,0⟩,Obj.cells row e (cap,cap+1), ?_,
   .cells ?_ ?_ ?_ ?_ rfl ?_ (by rw[wG af,iS]) (by simp[tV]) ?_ ?_,fun bw ap=>⟨_,rfl,ap, .inr (.inl ⟨rfl,Nat.one_pos, ?_,gT.2, ?_, ?_, ?_⟩)⟩⟩
  ·have aeK:(Conv.stringToBytes e b).run P w= .ok (.slice (are ⟨w.heap.size,0,ari⟩) b.size cap) ((w.drew.alloc (.cells row e)).freeze {block:=w.heap.size,off:=cap} 1):=by
    simp only[Conv.stringToBytes,arV,run_choose,auH,asf,if_false,arN,newRow,run_newObj,ar0,markStringish,run_shape];have aeL:(w.drew.alloc (.cells row e)).heap[w.heap.size]? =are (.cells row e):=by show (w.heap.push (Obj.cells row e))[w.heap.size]? =_;simp
    have pQ:((w.drew.alloc (.cells row e)).shape? w.heap.size)=are (e,row.size):=by simp only[World.shape?,aeL]
    show (at3 (Sem.run P (match (w.drew.alloc (.cells row e)).shape? w.heap.size with|some (_,n)=>freeze {block:=w.heap.size,off:=n} 1|_=>pure ()) (w.drew.alloc (.cells row e))) _)=_;rw[pQ];simp[tV];rfl
   simp[execOp,h,convert,dU aq,dU ak,cU,dU he,aeK]
  ·simp only[auI,aul,if_false,World.alloc,World.drew];apply auJ;intro k;simp only[auK,auF];by_cases hk:w.heap.size=k
   ·subst hk;simp
   ·simp[hk,Ne.symm hk]
  ·unfold auI;rw[if_neg (by decide)];rfl
  ·unfold auI;rw[if_neg (by decide)];rfl
  ·unfold auI;rw[if_neg (by decide)];rfl
  ·intro k hk ax;simp only at ax;omega
  ·simp[tV];have:b.data.size=b.size:=rfl;omega
  ·intro a v ar;refine ⟨v, ?_, ?_⟩
   ·simp only[row];have aO:a<b.data.size:=by
     have:=(arp.1 ar).1;simpa using this
    rw[atM (by simpa using aO)];simp only[ar4,atx] at ar;simpa using ar
   ·simp only[ar4] at ar;cases aF:b.data.toList[a]? with
    |none=>simp[aF] at ar
    |some u=>simp[aF] at ar;subst ar;rfl
  ·simp;omega
  ·simp
  ·simp
  ·simp
 |makeMap t kt vt h ak=>refine ⟨.map (are w.heap.size),w.alloc (.map #[] 0),⟨w.heap.size,0,0,0⟩,_, ?_,⟨rfl,rfl,rfl,rfl,rfl,⟨kt,vt,#[],0,[],rfl,ak,⟨rfl,fun p an=>by simp at an⟩,arH,⟨by simp,fun x U=>by simp at U⟩⟩,rfl⟩,fun bw ap=>⟨_,ap,rfl⟩⟩;simp[execOp,h,Instr.makeMap]
theorem ahd {P:arl} {j:bb} {ae cc:arm->arh} {o:Oper} {m:Mem} {w:World} {X:aV} {v:arh} (h:hI P ae o m.next X v) (hO:gy j ae cc o) (ba:Rel P j m w):
  ∃aS w' bw,(execOp cc o).run P w= .ok (.value aS) w'/\Post P j m w bw (m.push X) w'/\bU bw v aS:=by
 obtain ⟨aS,w',e,ob,ao,av,aa⟩:=Yx h hO w;exact ⟨aS,w',j.up m.next e,ao,ba.push av.heap av.os av.tape av.output av.ay av.obj,aa _ (by simp[bb.up])⟩
end Go.aQ
end
section
namespace Go.aQ
theorem Gi {w:World} {c:Nat} {cs:Array arh} {t:arn} {a6:Nat×Nat} (h:w.heap[c]? =are (.cells cs t a6)):jM w c cs t a6=w:=by
 have:w.heap.setIfInBounds c (.cells cs t a6)=w.heap:=by
  apply auJ;intro k;by_cases hk:k=c
  ·subst hk;have aO:=(ar6.1 h).1;rw[avg aO,h]
  ·rw[auG (by omega)]
 simp only[jM,this]
theorem ago {w:World} {c:Nat} {cs cs':Array arh} {t:arn} {a6:Nat×Nat}:jM (jM w c cs t a6) c cs' t a6=jM w c cs' t a6:=by
 simp[jM]
theorem af3 {w:World} {c o:Nat} {cs:Array arh} {t:arn} {a6:Nat×Nat} {v:arh} (h:w.heap[c]? =are (.cells cs t a6)):w.setCell ⟨c,o,ari⟩ v=jM w c (cs.setIfInBounds o v) t a6:=by
 have:(w.setCell ⟨c,o,ari⟩ v).heap=(jM w c (cs.setIfInBounds o v) t a6).heap:=by
  simp only[World.setCell,jM];apply auJ;intro k;rw[auK];by_cases hk:c=k
  ·subst hk;have aO:=(ar6.1 h).1;rw[if_pos rfl,h,avg aO];simp
  ·rw[if_neg hk,auG hk]
 simp only[World.setCell] at this;simp only[World.setCell,jM,this] at*
theorem wH {P:arl} (c o:Nat) (t:arn) (a6:Nat×Nat):∀(vs:List arh) (i:Nat) (cs:Array arh) (w:World),w.heap[c]? =are (.cells cs t a6)->(∀k:Nat,k<cs.size->¬(a6.1<=k/\k<a6.2))->
  o+i+vs.length<=cs.size->(∀v∈vs,v.oneCell'=arf)->(storeCells ⟨c,o,ari⟩ vs i).run P w= .ok () (jM w c (ee cs.toList (o+i) vs).toArray t a6)
 |[],i,cs,w,h,aK,ai,h1=>by simp only[storeCells,ee,Array.toArray_toList,Gi h];rfl
 |v::vs,i,cs,w,h,aK,ai,h1=>by
  simp only[arU] at ai;have aO:=(ar6.1 h).1;have ad:w.cell? ⟨c,o+i,ari⟩=are cs[o+i]:=by simp[atl,h]
  have fB:w.frozen? ⟨c,o+i,ari⟩=arj:=by
   have:=aK (o+i) (by omega);simp only[World.frozen?,h];simp only[Bool.and_eq_false_iff,decide_eq_false_iff_not];by_cases ax:a6.1<=o+i
   ·exact .inr (fun J=>this ⟨ax,J⟩)
   ·exact .inl ax
  have aU:=wH (P:=P) c o t a6 vs (i+1) (cs.setIfInBounds (o+i) v) (jM w c (cs.setIfInBounds (o+i) v) t a6) (NE aO) (by simpa using aK) (by simp;omega) (fun x U=>h1 x (by simp[U]));simp only[storeCells,arV,ot,run_store P w ⟨c,o+i,ari⟩ v _ (h1 v (by simp)),ad,fB,asf,if_false,arN,af3 h];rw[aU,ago];simp[ee,arZ]
theorem a1.one {j:bb}:∀{L K:List arh},a1 (dr j) L K->∀v∈K,v.oneCell'=arf
 |[],[],_,v,aa=>by simp at aa
 |a::L,b::K,⟨h1,J⟩,v,aa=>by
  rcases arA.1 aa with rfl|aa
  ·exact h1.one
  ·exact a1.one J v aa
 |[],_::_,h,_,_=>h.elim
 |_::_,[],h,_,_=>h.elim
theorem Nv {P:arl} {j:bb} {m:Mem} {w:World} (ba:tq P j m w) {aW:Nat} {y iQ:arh} {new:List arh} (aa:bU j y iQ) (h:cg m aW y=are new):
  (atN iQ).run P w= .ok (gB y) w/\∃ds:List arh,a1 (dr j) new ds/\(new.length=gB y*aW->∀k,k<=gB y->∀w':World,w'.heap=w.heap->(asX aW k iQ).run P w'= .ok (ds.take (k*aW)).toArray w'):=by
 cases y with
 |slice a l c=>
  cases a with
  |none=>have ln:=aa.k8;subst ln;simp only[cg,arw.injEq] at h;subst h;refine ⟨by simp[atN,gB],[],arH,fun av k hk w' hw=> ?_⟩;simp[asX]
  |some a=>
   obtain ⟨b,off,spot⟩:=a;obtain ⟨q,aq,ap,ad⟩:=aa.slice;simp only at aq ap;subst aq;simp only[cg] at h;obtain ⟨ds,ai,av,jV⟩:=Ct ba ap _ _ _ h;have key:∀(a':Addr) (fk:Nat),iQ= .slice (are a') l fk->(a'=⟨q.ay,q.c0+off,ari⟩\/l=0)->(atN iQ).run P w= .ok (gB (.slice (are ⟨b,off,ari⟩) l c)) w/\
     ∃ds:List arh,a1 (dr j) new ds/\(new.length=gB (.slice (are ⟨b,off,ari⟩) l c)*aW->∀k,k<=gB (.slice (are ⟨b,off,ari⟩) l c)->∀w':World,w'.heap=w.heap->(asX aW k iQ).run P w'= .ok (ds.take (k*aW)).toArray w'):=by
    intro a' fk ln ag;subst ln;refine ⟨by simp[atN,gB],ds,ai,fun aef k hk w' hw=> ?_⟩;simp only[gB] at hk;simp only[asX];have hlen:(ds.take (k*aW)).length=k*aW:=by rw[asq,av];exact Nat.min_eq_left (asC _ hk)
    rcases ag with rfl|ag
    ·exact zi hlen (fun i u hu=>by
      rw[asg] at hu;split at hu
      ·have:=jV i u hu;rw[<-this];simp only[atl,hw]
      ·cases hu)
    ·subst ag;have hy:k=0:=by omega
     subst hy;simp only[asz,atO];exact Wx
   rcases ad with ⟨_,ad⟩|⟨_,_,_,_,_,_,ad⟩|⟨_,dT,o',ad⟩|⟨_,dT,a',ad⟩|⟨_,_,_,_,_,_,_,_,_,ad⟩
   ·exact key _ _ ad (.inl rfl)
   ·exact key _ _ ad (.inl rfl)
   ·exact key _ 0 (by rw[ad,dT]) (.inr dT)
   ·exact key a' 0 (by rw[ad,dT]) (.inr dT)
   ·exact key _ _ ad (.inl rfl)
 |string s=>
  have ln:=aa.str;subst ln;simp only[cg] at h;split at h
  ·rename_i bu;subst bu;simp only[arw.injEq] at h;subst h;refine ⟨by simp[atN,gB],s.data.toList.map fun u=> .int .u8 u.toNat,GP (by simp only[List.all_map,arz,Function.comp];intro u _;rfl),fun av k hk w' hw=> ?_⟩;simp only[asX,ar0,Nat.mul_one,gB] at hk⊢;congr 1;apply asB;simp only[ByteArray.data_extract,as6,auY,auD,List.drop_zero,List.map_take]
  ·cases h
 |_=>simp[cg] at h
inductive D4 (P:arl) (w:World) (u:arn) (i:TypeInfo) (iQ:arh) (n:Nat) (gR:List arh):Prop where
 |el (hu:(∃bp,P.underlying u=are (.slice bp))\/P.underlying u=are .string) (ai:∀w',(atN iQ).run P w'= .ok n w') (aK:∀w',w'.heap=w.heap->(asX i.size n iQ).run P w'= .ok gR.toArray w')
 |mk (kk k:aro) (z:arh) (hu:P.underlying u=are (.int kk)) (aa:iQ= .int k n) (aD:i.zero=are z) (bu:0<i.size) (ab:n*i.bytes<=140737488355328) (hm:n<9223372036854775807) (gh:gR.toArray=atQ z.cells n)
theorem aa5 (z:Array arh):atQ z 0=#[]:=by simp[atQ]
theorem zd {P:arl} {t u ty e:arn} {i:TypeInfo} {base:Option Addr} {l c n:Nat} {iQ:arh} {w:World} {gR:List arh} (ak:P.underlying t=are (.slice e)) (af:P.info? e=are i)
  (c9:D4 P w u i iQ n gR) (ad:l+n<=c):
  (ato #[t,u] ty #[.slice base l c,iQ]).run P w=
   match base with
   |some a=>((storeCells (a.add (l*i.size)) gR).run P w).andThen fun _ w=> .ok (.slice base (l+n) c) w
   |none=> .ok (.slice base (l+n) c) w:=by
 cases c9 with
 |el hu av aK=>have av:=av w;have aK:=aK w rfl;rcases hu with ⟨bp,aw⟩|aw<;>cases base<;>simp[ato,dU ak,dU aw,h0 af,av,ad,aK]
 |mk kk k z hu aa aD bu ab hm gh=>
  subst aa;have az:art .i64 (n:Int)=n:=by rw[aro.wrap_i64];omega
  have aJ:¬((n:Int)<0):=by omega
  have bk:¬((281474976710656:Int)<(n:Int)*(i.bytes:Int)):=by
   have:(n:Int)*(i.bytes:Int)=((n*i.bytes:Nat):Int):=by simp
   rw[this];omega
  have hM:¬i.size=0:=by omega
  have jU:gR=(atQ z.cells n).toList:=by rw[<-gh]
  subst jU;by_cases gz:n=0
  ·subst gz;cases base<;>simp[ato,dU ak,dU hu,h0 af,uJ af,mQ af aD,ad,asInt,asIntOf,aa5,show art .i64 (0:Int)=0 from rfl]<;>omega
  ·have n0:¬n*i.size=0:=by rw[Nat.mul_eq_zero];omega
   cases base<;>simp[ato,dU ak,dU hu,h0 af,uJ af,mQ af aD,az,aJ,bk,gz,hM,n0,ad,asInt,asIntOf]
theorem af0 {P:arl} {t u ty e:arn} {i:TypeInfo} {z:arh} {base:Option Addr} {l c n:Nat} {iQ:arh} {w:World} {cK:Array arh} {gR:List arh} (ak:P.underlying t=are (.slice e)) (af:P.info? e=are i) (aD:i.zero=are z)
  (c9:D4 P w u i iQ n gR) (ad:c<l+n) (hm:l+n<9223372036854775807) (ab:(l+n)*i.bytes<=140737488355328)
  (ag:∀w',w'.heap=w.heap->(asX i.size l (.slice base l c)).run P w'= .ok cK w'):
  (ato #[t,u] ty #[.slice base l c,iQ]).run P w=
   .ok (.slice (are ⟨w.heap.size,0,ari⟩) (l+n) (grownCap w (l+n) c e)) (w.drew.alloc (.cells (cK++gR.toArray++atQ z.cells (grownCap w (l+n) c e - (l+n))) e)):=by
 have h1:¬(l+n<=c):=by omega
 have J:¬(9223372036854775807<((l:Int)+(n:Int))):=by omega
 have qE:=growslice_fits ad ab;have aj:¬(281474976710656<Builtin.nextslicecap (l+n) c*i.bytes):=by omega
 have jF:=ag w.drew rfl;cases c9 with
 |el hu av aK=>have vG:=aK w.drew rfl;rcases hu with ⟨bp,aw⟩|aw<;>simp[ato,dU ak,dU aw,h0 af,uJ af,mQ af aD,av,h1,J,aj,auH,jF,vG,newRow,grownCap]
 |mk kk k z' hu aa nw bu ch fD gh=>
  rw[aD] at nw;cases nw;subst aa;have az:art .i64 (n:Int)=n:=by rw[aro.wrap_i64];omega
  have aJ:¬((n:Int)<0):=by omega
  have bk:¬((281474976710656:Int)<(n:Int)*(i.bytes:Int)):=by
   have:(n:Int)*(i.bytes:Int)=((n*i.bytes:Nat):Int):=by simp
   rw[this];omega
  have hM:¬i.size=0:=by omega
  rw[gh];by_cases gz:n=0
  ·subst gz;simp only[ar3] at h1 aj;have gg:¬(9223372036854775807<(l:Int)):=by omega
   simp[ato,dU ak,dU hu,h0 af,uJ af,mQ af aD,h1,gg,aj,auH,jF,newRow,grownCap,asInt,asIntOf,aa5,show art .i64 (0:Int)=0 from rfl]
  ·have n0:¬n*i.size=0:=by rw[Nat.mul_eq_zero];omega
   simp[ato,dU ak,dU hu,h0 af,uJ af,mQ af aD,az,h1,J,aj,aJ,bk,gz,hM,n0,auH,jF,newRow,grownCap,asInt,asIntOf]
end Go.aQ
end
section
namespace Go.aQ
theorem Cz {j:bb} {L new:List arh} {cs:Array arh} {ds:List arh} {o c0:Nat} (h:∀(i:Nat) (v:arh),L[i]? =are v->∃aS,cs[c0+i]? =are aS/\dr j v aS) (aw:a1 (dr j) new ds) (ai:o+new.length<=L.length) (b5:c0+L.length<=cs.size):
  ∀(i:Nat) (v:arh),(ee L o new)[i]? =are v->∃aS,(ee cs.toList (c0+o) ds).toArray[c0+i]? =are aS/\dr j v aS:=by
 intro i v af;have hlen:=aw.length;rw[ow _ _ _ _ ai] at af;simp only[at4];rw[ow _ _ _ _ (by simp;omega)];rw[<-hlen];split at af
 ·rename_i hx;rw[if_pos (by omega),show c0+i - (c0+o)=i - o by omega];exact aw.get _ _ af
 ·rename_i hx;rw[if_neg (by omega)];simpa using h i v af
theorem zj (cs:Array arh) (o:Nat) (ds:List arh):(ee cs.toList o ds).toArray.size=cs.size:=by simp[nH]
theorem wz {P:arl} {cc:arm->arh} {o:Oper} {x y:arm} {t u:arn} (h:o.op= .call {callee:= .builtin .append,args:=#[x,y],argTypes:=#[t,u]}) {w w':World} {v:arh}
  (ao:(ato #[t,u] o.type #[cc x,cc y]).run P w= .ok v w'):(execOp cc o).run P w= .ok (.value v) w':=by
 simp[execOp,h,resolve,invoke,builtin,ao]
def CZ (P:arl) (j:bb) (m:Mem) (w:World) (cc:arm->arh) (o:Oper) (v:arh) (m':Mem):Prop:=
 ∃n aS w' bw,(execOp cc o).run P w= .ok n w'/\(n= .value aS\/(n= .skip/\aS=undef))/\Post P j m w bw m' w'/\bU bw v aS
theorem age {P:arl} {j:bb} {ae cc:arm->arh} {o:Oper} {m:Mem} {w:World} {t:arn} {x y:arm} {b off:Nat} {i:TypeInfo} {L:List arh} {e:arn} (h:o.op= .store t x y) (U:ae x= .pointer (are ⟨b,off,ari⟩)) (af:P.info? t=are i) (hm:m.ay b= .own L e)
   (aa:storable (ae y)=arf) (aq:(ae y).cells.size=i.size) (ai:off+i.size<=L.length) (hO:gy j ae cc o) (ba:Rel P j m w):CZ P j m w cc o undef (m.put b (.own (ee L off (ae y).cells.toList) e)):=by
 have cp:=hO x (by simp[h,arv]);rw[U] at cp;obtain ⟨q,_,ap,ad⟩:=cp.ptr;have iy:=bU.storable (hO y (by simp[h,arv])) aa;have nk:=iy.cells;obtain ⟨cs,a6,g1,g2,g3,g4,g5,g6⟩:=ba.own b q L e ap hm;have av:(cc y).cells.size=i.size:=by have:=nk.length;simp at this;omega
 have dd:=wH (P:=P) q.ay (q.c0+off) e a6 (cc y).cells.toList 0 cs w g1 g2 (by simp;omega) (a1.one nk);simp only[ar3] at dd;refine ⟨.skip,undef,_,j, ?_, .inr ⟨rfl,rfl⟩,ba.write ap hm g1 (zj cs _ _) (by rw[nH];exact g5) (Cz g6 nk (by simp;omega) (by omega)), ?_⟩
 ·simp[execOp,h,Instr.storeAt,ad,auj,storeVar,h0 af,av,dd]
 ·exact ⟨#[],rfl,arH⟩
theorem V7 {P:arl} {j:bb} {m:Mem} {w:World} (ba:tq P j m w) {aW:Nat} {y iQ:arh} {new:List arh} (aa:bU j y iQ) (h:cg m aW y=are new) (av:new.length=gB y*aW):
  ∃ds:List arh,a1 (dr j) new ds/\∀w':World,w'.heap=w.heap->(asX aW (gB y) iQ).run P w'= .ok ds.toArray w':=by
 obtain ⟨_,ds,aw,aK⟩:=Nv ba aa h;refine ⟨ds,aw,fun w' hw=> ?_⟩;rw[aK av _ (ars _) w' hw,<-av,aw.length,List.take_length]
theorem ais {P:arl} {j:bb} {m:Mem} {w w':World} (h:Rel P j m w) (hw:w'.heap=w.heap):Rel P j m w':=
 ⟨⟨fun b e ab=>by have:=h.lt b e ab;rw[hw];exact this,fun b e ab=>by rw[hw];exact h.obj b e ab,h.inj⟩,h.iI.val.keep fun _ _=>by rw[hw],h.iI.sep⟩
theorem ahv {z:arh} (b3:z.cells.toList.all b7=arf) (n:Nat):∀v∈(arL n z.cells.toList).flatten,b7 v=arf:=by
 have:=wE b3 n;simpa only[arz] using this
theorem Ck {P:arl} {j:bb} {m:Mem} {w:World} (ba:tq P j m w) {u:arn} {i:TypeInfo} {y iQ:arh} {n:Nat} {new:List arh} (aa:bU j y iQ) (h:rp P m u i y n new) (av:new.length=n*i.size):
  ∃gR:List arh,a1 (dr j) new gR/\D4 P w u i iQ n gR:=by
 cases h with
 |el hu ai he=>subst ai;obtain ⟨hlen,_⟩:=Nv ba aa he;obtain ⟨gR,gh,L4⟩:=V7 ba aa he av;refine ⟨gR,gh, .el hu (fun w'=> ?_) L4⟩;have:=hlen;cases ln:iQ<;>simp[ln,atN] at this⊢<;>exact this
 |mk kk k z hu ah aD b3 cZ bu ab hm iC=>
  subst iC;have ln:iQ= .int k n:=by rw[ah] at aa;exact aa.int
  refine ⟨(arL n z.cells.toList).flatten,a1.F1 rfl fun a v bl ar ch=> ?_, .mk kk k z hu ln aD bu ab hm ?_⟩
  ·rw[ar] at ch;cases ch;exact oo (ahv b3 n v (arI ar))
  ·have:=GI z.cells n;rw[<-this];exact Array.toArray_toList
theorem VY {P:arl} {j:bb} {cc:arm->arh} {o:Oper} {m m0:Mem} {w:World} {x y:arm} {t u e:arn} {i:TypeInfo} {z:arh} {base:Option Addr} {l c n:Nat} {cK new:List arh} {ds gR:List arh}
   (h:o.op= .call {callee:= .builtin .append,args:=#[x,y],argTypes:=#[t,u]})
   (ak:P.underlying t=are (.slice e)) (af:P.info? e=are i) (aD:i.zero=are z) (cZ:z.cells.size=i.size) (bu:0<i.size)
   (U:cc x= .slice base l c) (c9:D4 P w u i (cc y) n gR) (ad:c<l+n)
   (iT:cK.length=l*i.size) (jE:new.length=n*i.size) (aw:a1 (dr j) cK ds) (gh:a1 (dr j) new gR)
   (Bn:∀w',w'.heap=w.heap->(asX i.size l (.slice base l c)).run P w'= .ok ds.toArray w')
   (ab:(l+n)*i.bytes<=140737488355328) (hm:l+n<9223372036854775807) (ba:Rel P j m0 w) (vQ:m0.next=m.next):
  ∃aS w' bw,(execOp cc o).run P w= .ok (.value aS) w'/\Post P j m0 w bw (m0.push (.own (cK++new) e)) w'/\bU bw (.slice (are ⟨m.next,0,ari⟩) (l+n) bT) aS:=by
 have gV:=af0 (P:=P) (ty:=o.type) (base:=base) (z:=z) ak af aD c9 ad hm ab Bn
 let cap:=grownCap w (l+n) c e
 have gT:l+n<=cap:=grownCap_ge w _ c e;have adl:cap<bT:=by have aO:=Nat.mod_lt (w.tape w.drawn (.appendCap (l+n) c e)) (show 0<2 ^ 63 - (l+n) by omega);simp only[cap,grownCap,Question.cut,bT];omega
 let row:=ds.toArray++gR.toArray++atQ z.cells (cap - (l+n))
 have aT:=aw.length;have e2:=gh.length;have tV:row.size=cap*i.size:=by simp only[row,Array.size_append,List.size_toArray,size_zeroCells,cZ];rw[<-aT,<-e2,iT,jE,<-arW,<-arW];congr 1;omega
 have vU:=ba.push (w':=w.drew.alloc (.cells row e)) (X:= .own (cK++new) e) (e:=⟨w.heap.size,cap,i.size,0⟩) (ob:= .cells row e) rfl rfl rfl rfl rfl ⟨row,(0,0),rfl,Di,wG af,by rw[tV,arE];exact ars _,
  (by rw[arJ,iT,jE,<-arW];exact asC _ gT),
  (fun k v hk=>by
   have ym:=a1.append aw gh;obtain ⟨aS,fl,ao⟩:=ym.get k v hk;refine ⟨aS, ?_,ao⟩;rw[arE];have aO:k<(ds++gR).length:=(arp.1 fl).1;simp only[row];rw[atM (by simpa using aO),<-atx];simpa using fl)⟩
 refine ⟨.slice (are ⟨w.heap.size,0,ari⟩) (l+n) cap,_,_,wz h (by rw[U];exact gV),vU,⟨⟨w.heap.size,cap,i.size,0⟩,rfl,by simp[bb.up,vQ], .inr (.inl ⟨rfl,bu, ?_,adl, ?_, ?_, ?_⟩)⟩⟩
 ·simpa using gT
 ·simp
 ·simp
 ·simp
theorem af4 {cs:Array MapEntry} {clock:Nat} (h:wY cs clock) (i:Nat) (f:MapEntry->MapEntry) (aK:∀e,(f e).born=e.born):wY (cs.modify i f) clock:=by
 have ab:(cs.modify i f).toList.map (·.born)=cs.toList.map (·.born):=by
  rw[Array.toList_modify];refine as8 fun k=> ?_;simp only[ar4,List.getElem?_modify];cases hk:cs.toList[k]? with
  |none=>rfl
  |some e=>by_cases adM:i=k<;>simp[adM,aK]
 refine ⟨by rw[ab];exact h.1,fun x U=> ?_⟩;have hm:x.born∈(cs.modify i f).toList.map (·.born):=arC.2 ⟨x,U,rfl⟩;rw[ab] at hm;obtain ⟨y,ah,he⟩:=arC.1 hm;rw[<-he];exact h.2 y ah
theorem agd {cs:Array MapEntry} {clock:Nat} (h:wY cs clock) (e:MapEntry) (he:e.born=clock):wY (cs.push e) (clock+1):=by
 refine ⟨?_,fun x U=> ?_⟩
 ·rw[Array.toList_push,List.map_append,List.nodup_append];refine ⟨h.1,by simp,fun a ar b ab=> ?_⟩;obtain ⟨y,ah,rfl⟩:=arC.1 ar;simp only[asc,atS,ase] at ab;rw[ab,he];exact as5 (h.2 y ah)
 ·rw[Array.toList_push] at U;rcases arO.1 U with U|U
  ·exact atT (h.2 x U)
  ·simp only[ase] at U;rw[U,he];exact ash _
theorem rD.find {P:arl} {j:bb} {kt vt:arn} {bX vc:List arh} {E E':List (List arh×List arh)} {aS:arh} {clock:Nat} (h:rD (cB P kt) bX vc E E') (aK:bX.all b7=arf) (aa:eg j (cN (cB P vt) vc) aS):∀{es:List MapEntry} (n:Nat),a1 (ru P j kt vt) E es->
  (∃i y,kp (cN (cB P kt) bX) es n=are (n+i,y.val)/\es[i]? =are y/\y.key=cN (cB P kt) bX/\a1 (ru P j kt vt) E' (es.modify i fun e=>{e with key:=cN (cB P kt) bX,val:=aS}))\/
  (kp (cN (cB P kt) bX) es n=ari/\a1 (ru P j kt vt) E' (es++[{key:=cN (cB P kt) bX,val:=aS,born:=clock}])):=by
 induction h with
 |nz=>
  intro es n aP;cases es with
  |nil=>exact .inr ⟨rfl,⟨rfl,aK,aa⟩,arH⟩
  |cons _ _=>exact aP.elim
 |hit p E h=>
  intro es n aP;cases es with
  |nil=>exact aP.elim
  |cons x es=>obtain ⟨⟨h1,J,aj⟩,aJ⟩:=aP;refine .inl ⟨0,x,by rw[kp,if_pos (h1.trans h)];rfl,rfl,h1.trans h, ?_⟩;exact ⟨⟨h.symm,J,aa⟩,aJ⟩
 |next p E E' h Ub aU=>
  intro es n aP;cases es with
  |nil=>exact aP.elim
  |cons x es=>
   obtain ⟨⟨h1,J,aj⟩,aJ⟩:=aP;have bL:¬x.key=cN (cB P kt) bX:=fun ax=>h (h1.symm.trans ax);rcases aU (n+1) aJ with ⟨i,y,g1,g2,g3,g4⟩|⟨g1,g2⟩
   ·refine .inl ⟨i+1,y, ?_,by simpa using g2,g3, ?_⟩
    ·rw[kp,if_neg bL,g1,show n+1+i=n+(i+1) by omega]
    ·exact ⟨⟨h1,J,aj⟩,g4⟩
   ·refine .inr ⟨?_, ?_⟩
    ·rw[kp,if_neg bL,g1]
    ·exact ⟨⟨h1,J,aj⟩,g2⟩
theorem agE {P:arl} {C:FuncId->Array arh->Mem->arh->Mem->Prop} {j:bb} {ae cc:arm->arh} {o:Oper} {m m':Mem} {w:World} {v:arh} (h:fM P C ae o m v m') (hO:gy j ae cc o) (ba:Rel P j m w):
  CZ P j m w cc o v m'\/∃f args,callee o ae f args/\C f args m v m':=by
 cases h with
 |store t x y b off i L e h U af hm aa aq ai=>exact .inl (age h U af hm aa aq ai hO ba)
 |call f args v m' h bI=>exact .inr ⟨f,args,h,bI⟩
 |tt x y t u e i a l c h ak af U ad rZ ah=>
  left;have cp:=hO x (by simp[h,arv,asj]);rw[U] at cp;have iy:=hO y (by simp[h,arv,asj]);obtain ⟨ds,aw,c9⟩:=Ck ba.mT iy ah (by simp);have kV:ds=[]:=by have:=aw.length;simpa using this.symm
  subst kV;have cU:∃a',cc x= .slice a' l c/\bU j (.slice a l c) (.slice a' l c):=by
   cases a with
   |none=>exact ⟨ari,cp.k8,rfl⟩
   |some a=>
    obtain ⟨q,aq,ap,dB⟩:=cp.s8 (asd ad);rcases dB with ⟨aO,dB⟩|⟨dB,_⟩|⟨dB,_⟩|⟨kB,dT,a',dB⟩
    ·exact ⟨_,dB,⟨q,aq,ap, .inl ⟨aO,rfl⟩⟩⟩
    ·exact (as5 ad dB).elim
    ·exact (as5 ad dB).elim
    ·subst kB;subst dT;exact ⟨_,dB,⟨q,aq,ap, .inr (.inr (.inr (.inl ⟨rfl,rfl,a',rfl⟩)))⟩⟩
  obtain ⟨a',cU,MJ⟩:=cU;refine ⟨.value (.slice a' l c), .slice a' l c,w,j,wz h ?_, .inl rfl,Post.refl ba,by rw[U];exact MJ⟩;rw[cU,zd ak af c9 (by omega)];cases a'<;>simp[storeCells]
 |qq x y t u e i z a l c n cK new h ak af aD b3 cZ bu U ad ag iT ah av ab hm=>
  left;have cp:=hO x (by simp[h,arv,asj]);have iy:=hO y (by simp[h,arv,asj]);have tO:gB (ae x)=l:=by rw[U];rfl
  have cU:∃a',cc x= .slice a' l c:=by
   rw[U] at cp;cases a with
   |none=>exact ⟨ari,cp.k8⟩
   |some a=>
    obtain ⟨q,aq,ap,dB⟩:=cp.s8 (by simp only[bT];omega);rcases dB with ⟨aO,dB⟩|⟨dB,_⟩|⟨dB,_⟩|⟨kB,dT,a',dB⟩
    ·exact ⟨_,dB⟩
    ·simp only[bT] at dB;omega
    ·simp only[bT] at dB;omega
    ·subst kB;subst dT;exact ⟨_,dB⟩
  obtain ⟨a',cU⟩:=cU;obtain ⟨ds,aw,Uv⟩:=V7 ba.mT cp ag (by rw[iT,tO]);obtain ⟨gR,gh,c9⟩:=Ck ba.mT iy ah av;have Bn:∀w':World,w'.heap=w.heap->(asX i.size l (.slice a' l c)).run P w'= .ok ds.toArray w':=by rw[cU,tO] at Uv;exact Uv
  obtain ⟨aS,w',bw,h1,J,aj⟩:=VY (m:=m) h ak af aD cZ bu cU c9 ad iT av aw gh Bn ab hm ba rfl;exact ⟨.value aS,aS,w',bw,h1, .inl rfl,J,aj⟩
 |vn x y t u e i b off l c n L new h ak af U cJ ad hm ah av ai=>
  left;have cp:=hO x (by simp[h,arv,asj]);rw[U] at cp;have iy:=hO y (by simp[h,arv,asj]);obtain ⟨gR,gh,c9⟩:=Ck ba.mT iy ah av;obtain ⟨q,_,ap,dB⟩:=cp.s8 (asd cJ);rcases dB with ⟨aO,cU⟩|⟨dB,_⟩|⟨dB,_⟩|⟨kB,dT,a',cU⟩
  rotate_left 3
  ·
   subst kB;subst dT;have oh:n=0:=by omega
   have tR:new=[]:=by rw[oh,asz] at av;exact List.length_eq_zero_iff.1 av
   subst tR;have LZ:gR=[]:=by have:=gh.length;simpa using this.symm
   subst LZ;obtain ⟨cs,a6,g1,g2,g3,g4,g5,g6⟩:=ba.own b q L e ap hm;have hw:=ba.write (L':=L) ap hm g1 (cs':=cs) rfl g5 g6;rw[Gi g1] at hw;refine ⟨.value _,_,_,j,wz h (v:= .slice (are a') (0+n) 0) ?_, .inl rfl,hw,⟨q,rfl,ap, .inr (.inr (.inr (.inl ⟨rfl,by omega,a',by rw[oh]⟩)))⟩⟩;rw[cU,zd ak af c9 ad];simp[storeCells]
  ·obtain ⟨cs,a6,g1,g2,g3,g4,g5,g6⟩:=ba.own b q L e ap hm;rw[arW,<-av,<-arZ] at ai;have dd:=wH (P:=P) q.ay (q.c0+(off+l*i.size)) e a6 gR 0 cs w g1 g2 (by rw[<-gh.length];omega) (a1.one gh);simp only[ar3] at dd;refine ⟨.value _,_,_,j,wz h (v:= .slice (are ⟨q.ay,q.c0+off,ari⟩) (l+n) c) ?_, .inl rfl,ba.write ap hm g1 (zj cs _ _) (by rw[nH];exact g5) (Cz g6 gh ai (by omega)),
    ⟨q,rfl,ap, .inl ⟨aO,rfl⟩⟩⟩
   rw[cU,zd ak af c9 ad];simp only[ot,arZ,dd,arN]
  ·exact (as5 cJ dB).elim
  ·exact (as5 cJ dB).elim
 |x6 x y t u e i b off l c k n L new h ak af U cJ hy ad hm ah av ai=>
  left;have cp:=hO x (by simp[h,arv,asj]);rw[U] at cp;have iy:=hO y (by simp[h,arv,asj]);obtain ⟨gR,gh,c9⟩:=Ck ba.mT iy ah av;obtain ⟨q,_,ap,dB⟩:=cp.slice;have ap:j b=are q:=ap;rcases dB with ⟨aO,_⟩|⟨dB,_⟩|⟨dB,_⟩|⟨kB,_⟩|⟨bW,hX,_,_,iB,gT,aO,lr,hdiv,cU⟩
  ·omega
  ·omega
  ·omega
  ·rw[kB] at cJ;simp only[bT] at cJ;omega
  ·have Me:bW=k:=by omega
   subst Me;have gT:bW<=q.cap - off / q.es:=gT;have lr:off%q.es=0:=lr;have hdiv:off / q.es<=q.cap:=hdiv;obtain ⟨cs,a6,g1,g2,g3,g4,g5,g6⟩:=ba.own b q L e ap hm;rw[arW,<-av,<-arZ] at ai;have dd:=wH (P:=P) q.ay (q.c0+(off+l*i.size)) e a6 gR 0 cs w g1 g2 (by rw[<-gh.length];omega) (a1.one gh);simp only[ar3] at dd;refine ⟨.value _,_,_,j,wz h (v:= .slice (are ⟨q.ay,q.c0+off,ari⟩) (l+n) (q.cap - off / q.es)) ?_, .inl rfl,ba.write ap hm g1 (zj cs _ _) (by rw[nH];exact g5) (Cz g6 gh ai (by omega)),
    ⟨q,rfl,ap, .inr (.inr (.inr (.inr ⟨bW,hX,hy,ad,iB,gT,aO,lr,hdiv,rfl⟩)))⟩⟩
   rw[cU,zd ak af c9 (arR ad gT)];simp only[ot,arZ,dd,arN]
 |append x y t u e i z b off l n L new h ak af aD b3 cZ bu U gi tN ah av ab hm=>
  left;have cp:=hO x (by simp[h,arv,asj]);have aqg:=cp;rw[U] at cp;have iy:=hO y (by simp[h,arv,asj]);obtain ⟨gR,gh,c9⟩:=Ck ba.mT iy ah av;obtain ⟨q,_,ap,dB⟩:=cp.s8 (ars _);have ap:j b=are q:=ap;obtain ⟨cs,a6,g1,g2,g3,g4,g5,g6⟩:=ba.own b q L e ap gi;have iB:i.size=q.es:=by rw[<-g3,wG af]
  have lA:((L.drop off).take (l*i.size)).length=l*i.size:=by rw[asq,asD];omega
  have U6:∀(k:Nat) (v:arh),((L.drop off).take (l*i.size))[k]? =are v->∃aS,((cs.toList.drop (q.c0+off)).take (l*i.size))[k]? =are aS/\dr j v aS:=by
   intro k v hk;rw[asg] at hk⊢;split at hk
   ·rename_i aO;rw[if_pos aO];rw[asE] at hk⊢;rw[arZ];simpa using g6 (off+k) v hk
   ·cases hk
  have aeo:a1 (dr j) ((L.drop off).take (l*i.size)) ((cs.toList.drop (q.c0+off)).take (l*i.size)):=a1.F1 (by rw[lA,asq,asD];simp;omega) (fun k a bV ar ch=>by
   obtain ⟨aS,h1,J⟩:=U6 k a ar;rw[h1] at ch;cases ch;exact J)
  have out:∀(o' bg:Nat),cc x= .slice (are ⟨q.ay,o',ari⟩) l bg->(o'=q.c0+off\/l=0)->bg<l+n->CZ P j m w cc o (.slice (are ⟨m.next,0,ari⟩) (l+n) bT) ((m.put b .dead).push (.own ((L.drop off).take (l*i.size)++new) e)):=by
   intro o' bg cU ag ad;have hk:=ba.kill b;have Bn:∀w':World,w'.heap=w.heap->(asX i.size l (.slice (are ⟨q.ay,o',ari⟩) l bg)).run P w'= .ok ((cs.toList.drop (q.c0+off)).take (l*i.size)).toArray w':=by
    intro w' hw;simp only[asX];rcases ag with rfl|ag
    ·refine zi (by rw[asq,asD];simp;omega) (fun k u hu=> ?_);rw[asg] at hu;split at hu
     ·rw[asE] at hu;simp only[atl,hw,g1];simpa using hu
     ·cases hu
    ·subst ag;simp only[asz,atO];exact zi (ds:=[]) rfl (fun k u hu=>by simp at hu)
   obtain ⟨aS,w',bw,h1,J,aj⟩:=VY (m:=m) (m0:=m.put b .dead) h ak af aD cZ bu cU c9 ad lA av aeo gh Bn ab hm hk.rel rfl;exact ⟨.value aS,aS,w',bw,h1, .inl rfl,Post.trans hk J,aj⟩
  rcases dB with ⟨aO,_⟩|⟨_,dt,hle,gT,lr,hdiv,cU⟩|⟨_,dT,o',cU⟩|⟨kB,_⟩
  rotate_left 3
  ·simp[bT] at kB
  ·exact absurd aO (atC _)
  ·have hle:l<=q.cap - off / q.es:=hle;have lr:off%q.es=0:=lr;have hdiv:off / q.es<=q.cap:=hdiv;have n9:off=off / q.es*q.es:=by
    have:=Nat.div_add_mod off q.es;rw[lr,ar3,Nat.mul_comm] at this;exact this.symm
   have aqk:off+(q.cap - off / q.es)*q.es=q.cap*q.es:=by
    rw[Nat.sub_mul,<-n9];have:off<=q.cap*q.es:=by have:=asC q.es hdiv;omega
    omega
   have cU:cc x= .slice (are ⟨q.ay,q.c0+off,ari⟩) l (q.cap - off / q.es):=cU;by_cases qE:l+n<=q.cap - off / q.es
   ·have qO:off+(l+n)*i.size<=q.cap*q.es:=by
     have:(l+n)*i.size<=(q.cap - off / q.es)*q.es:=by rw[iB];exact asC _ qE
     omega
    have aeR:q.c0+off+l*i.size+new.length<=cs.size:=by rw[av];rw[arW] at qO;omega
    have dd:=wH (P:=P) q.ay (q.c0+off+l*i.size) e a6 gR 0 cs w g1 g2 (by rw[<-gh.length];omega) (a1.one gh);simp only[ar3] at dd;refine ⟨.value _,_,_,j.up m.next ⟨q.ay,q.cap - off / q.es,q.es,q.c0+off⟩,wz h (v:= .slice (are ⟨q.ay,q.c0+off,ari⟩) (l+n) (q.cap - off / q.es)) ?_, .inl rfl,
     ba.reuse (e2:=⟨q.ay,q.cap - off / q.es,q.es,q.c0+off⟩) (L':=(L.drop off).take (l*i.size)++new) ap gi g1 (zj cs (q.c0+off+l*i.size) gR) rfl rfl (by simp only[];omega) (by rw[arJ,lA,av,<-arW];simp only[];omega) ?_,
     ⟨⟨q.ay,q.cap - off / q.es,q.es,q.c0+off⟩,rfl,by simp[bb.up], .inr (.inl ⟨rfl,dt,by simpa using qE,atB (Nat.sub_le _ _) gT,by simp,by simp,by simp⟩)⟩⟩
    ·rw[cU,zd ak af c9 qE];simp only[ot,dd,arN]
    ·intro k v hk;simp only[at4];rw[ow _ _ _ _ (by rw[<-gh.length];simpa using aeR)];rw[List.getElem?_append,lA] at hk;split at hk
     ·rename_i aO;rw[if_neg (by omega)];obtain ⟨aS,h1,J⟩:=U6 k v hk;rw[asg,if_pos aO,asE] at h1;exact ⟨aS,h1,J⟩
     ·rename_i eT;obtain ⟨aS,h1,J⟩:=gh.get _ _ hk;have:=(arp.1 h1).1;rw[if_pos (by omega)];exact ⟨aS,by rw[show q.c0+off+k - (q.c0+off+l*i.size)=k - l*i.size by omega];exact h1,J⟩
   ·exact out _ _ cU (.inl rfl) (by omega)
  ·by_cases qE:l+n<=0
   ·have oh:n=0:=by omega
    have nr:new=[]:=by
     have:new.length=0:=by rw[av,oh,asz]
     exact asJ this
    subst nr;subst dT;have adw:gR=[]:=by have:=gh.length;exact asJ this.symm
    subst adw;have Fx:=ba.reuse (e2:=q) (L':=(L.drop off).take (0*i.size)++[]) ap gi g1 (cs':=cs) rfl rfl rfl g4 (by simp) (fun k v hk=>by simp at hk);rw[Gi g1] at Fx;refine ⟨.value (.slice (are ⟨q.ay,o',ari⟩) 0 0),_,w,j.up m.next q,wz h ?_, .inl rfl,Fx,⟨q,rfl,by simp[bb.up], .inr (.inr (.inl ⟨rfl,by omega,o',rfl⟩))⟩⟩;subst oh;rw[cU,zd ak af c9 (by omega)];simp[storeCells]
   ·exact out o' 0 (by rw[cU,dT]) (.inr dT) (by omega)
 |clear x t e i z b off l c L h ak af aD b3 cZ U hm dT ai=>
  left;have cp:=hO x (by simp[h,arv,asj]);rw[U] at cp;obtain ⟨q,_,ap,dB⟩:=cp.slice;have ap:j b=are q:=ap;have cU:∃bg,cc x= .slice (are ⟨q.ay,q.c0+off,ari⟩) l bg:=by
   rcases dB with ⟨_,ad⟩|⟨_,_,_,_,_,_,ad⟩|⟨_,az,_⟩|⟨_,az,_⟩|⟨_,_,_,_,_,_,_,_,_,ad⟩
   ·exact ⟨_,ad⟩
   ·exact ⟨_,ad⟩
   ·omega
   ·omega
   ·exact ⟨_,ad⟩
  obtain ⟨bg,cU⟩:=cU;obtain ⟨cs,a6,g1,g2,g3,g4,g5,g6⟩:=ba.own b q L e ap hm;have BT:z.cells.toList.length=i.size:=by simpa using cZ
  have hlen:(arL l z.cells.toList).flatten.length=l*i.size:=by simp[BT]
  have aw:a1 (dr j) (arL l z.cells.toList).flatten (arL l z.cells.toList).flatten:=a1.self (p:=b7) (fun a h=>oo h) (by
   rw[arz];intro v aa;obtain ⟨iW,h1,J⟩:=au1.1 aa;obtain ⟨_,rfl⟩:=au2.1 h1;exact arz.1 b3 v J)
  have eP:off+(arL l z.cells.toList).flatten.length<=L.length:=by rw[hlen];exact ai
  have dd:=wH (P:=P) q.ay (q.c0+off) e a6 (arL l z.cells.toList).flatten 0 cs w g1 g2 (by omega) (a1.one aw);simp only[ar3] at dd;have pT:(atQ z.cells l).toList=(arL l z.cells.toList).flatten:=GI z.cells l;refine ⟨.value _, .tuple #[],_,j, ?_, .inl rfl,ba.write ap hm g1 (zj cs _ _) (by rw[nH];exact g5) (Cz g6 aw eP (by omega)),⟨#[],rfl,arH⟩⟩;have adX:l≠0:=by omega
  cases l with
  |zero=>exact absurd rfl adX
  |succ l=>
  simp only[execOp,h,resolve,invoke,builtin,arV,ar0,arN,au3,asc,atS,Builtin.clear_,at4,atp,dU ak,cU,mQ af aD,pT,dd]
 |copy x y t u e i b off l c L cs h ak af U hm ah av ai=>
  left;have cp:=hO x (by simp[h,arv,asj]);rw[U] at cp;have iy:=hO y (by simp[h,arv,asj]);obtain ⟨hlen,ap6,LZ,aK⟩:=Nv ba.mT iy ah;have vO:as4 (gB (ae y)) l<=gB (ae y):=Nat.min_le_left _ _;have aK:=aK av _ vO w rfl;have gh:=LZ.take (as4 (gB (ae y)) l*i.size);obtain ⟨q,_,ap,dB⟩:=cp.slice;have ap:j b=are q:=ap;obtain ⟨ds,a6,g1,g2,g3,g4,g5,g6⟩:=ba.own b q L e ap hm;have eP:off+(cs.take (as4 (gB (ae y)) l*i.size)).length<=L.length:=by rw[asq];have:as4 (gB (ae y)) l*i.size<=l*i.size:=asC _ (Nat.min_le_right _ _);omega
  have key:∀(a':Addr) (bg:Nat),cc x= .slice (are a') l bg->(a'=⟨q.ay,q.c0+off,ari⟩\/l=0)->CZ P j m w cc o (.int .i64 (as4 (gB (ae y)) l)) (m.put b (.own (ee L off (cs.take (as4 (gB (ae y)) l*i.size))) e)):=by
   intro a' bg cU ag;rcases ag with rfl|ag
   ·have dd:=wH (P:=P) q.ay (q.c0+off) e a6 _ 0 ds w g1 g2 (by rw[<-gh.length];omega) (a1.one gh);simp only[ar3] at dd;refine ⟨.value _, .int .i64 (as4 (gB (ae y)) l),_,j, ?_, .inl rfl,ba.write ap hm g1 (zj ds _ _) (by rw[nH];exact g5) (Cz g6 gh eP (by omega)),rfl⟩;simp only[execOp,h,resolve,invoke,builtin,arV,ar0,arN,au3,asc,atS,Builtin.copy_,at4,atp,asZ,dU ak,cU,hlen,h0 af,aK,dd,goInt]
   ·subst ag;have az:as4 (gB (ae y)) 0=0:=Nat.min_zero _;simp only[az,asz,atO,ee] at aK eP⊢;have hw:=ba.write (L':=L) ap hm g1 (cs':=ds) rfl g5 g6;rw[Gi g1] at hw;refine ⟨.value _, .int .i64 (0:Nat),w,j, ?_, .inl rfl,hw,rfl⟩;have vv:as4 (gB (ae y)) 0=0:=Nat.min_zero _;simp only[execOp,h,resolve,invoke,builtin,arV,ar0,arN,au3,asc,atS,Builtin.copy_,at4,atp,asZ,dU ak,cU,hlen,h0 af,vv,aK,goInt,storeCells]
  rcases dB with ⟨_,cU⟩|⟨_,_,_,_,_,_,cU⟩|⟨_,dT,o',cU⟩|⟨_,dT,a',cU⟩|⟨_,_,_,_,_,_,_,_,_,cU⟩
  ·exact key _ _ cU (.inl rfl)
  ·exact key _ _ cU (.inl rfl)
  ·exact key _ 0 (by rw[cU,dT]) (.inr dT)
  ·exact key a' 0 (by rw[cU,dT]) (.inr dT)
  ·exact key _ _ cU (.inl rfl)
 |mapUpdate eE x fG fb u kt vt b L bX vc E E' gp h fX hu U gi aP lq K yC nn yD aK hk aM k0 BO sa BP eU=>
  left;have Mj:∀y∈([x,fG,fb]:List arm),y∈o.op.operands:=by intro y ah;rcases h with h|h<;>(simp[h,arv];simpa using ah)
  have cp:=hO x (Mj x (by simp));rw[U] at cp;obtain ⟨q,ap,ad⟩:∃q,j b=are q/\cc x= .map (are q.ay):=cp;have Fi:=wN aK (hO fG (Mj fG (by simp)));have fl:=bU.storable (hO fb (Mj fb (by simp))) k0;have qH:=ba.obj b q ap;rw[gi] at qH;obtain ⟨gr,gx,cs,clock,apZ,g1,g2,g3,g4,g5⟩:=qH;have tM:gr=kt/\gx=vt:=by rw[hu] at g2;simpa using g2.symm
  obtain ⟨rfl,rfl⟩:=tM;have:=mo.xD lq aP g3;subst this;have mz:=K.find (ae fG) cs.toList w hk (NY g4 aM);have ke:=K.check arj (ae fG) w hk;have yG:mo (P.cellsOf gr) (P.cellsOf gx) (E'.flatMap fun p=>p.1++p.2) E':=by
   refine ⟨rfl, ?_⟩;have:=aP.len;clear aP g3 g4 aM;induction eU with
   |nz=>intro p an;simp at an;subst an;exact ⟨nn,sa⟩
   |hit p E h=>
    intro r ao;rcases arA.1 ao with rfl|ao
    ·exact ⟨(this p (by simp)).1,sa⟩
    ·exact this r (by simp[ao])
   |next p E E' h Ub aU=>
    intro r ao;rcases arA.1 ao with rfl|ao
    ·exact this r (by simp)
    ·exact aU (fun r ao=>this r (by simp[ao])) r ao
  have key:=eU.find (j:=j) (aS:=cc fb) (clock:=clock) yD (by rw[<-BO];exact fl) 0 g4;rw[<-yC] at key;have fin:∀(cs':Array MapEntry) (EC:Nat),a1 (ru P j gr gx) E' cs'.toList->wY cs' EC->(execOp cc o).run P w= .ok .skip (re w q.ay (.map cs' EC))->
    CZ P j m w cc o undef (m.put b (.map (E'.flatMap fun p=>p.1++p.2) u)):=by
   intro cs' EC gU dd gV;refine ⟨.skip,undef,_,j,gV, .inr ⟨rfl,rfl⟩,ba.mW ap (by rw[gi];rfl) ⟨gr,gx,cs',EC,E',rfl,hu,yG,gU,dd⟩ rfl,⟨#[],rfl,arH⟩⟩
  have hex:∀w',(au4 eE (cc x) (cc fG) (cc fb)).run P w= .ok () w'->(execOp cc o).run P w= .ok .skip w':=by intro w' iU;rcases h with h|h<;>simp[execOp,h,iU]
  rcases key with ⟨i,y,h1,J,aj,aJ⟩|⟨h1,J⟩
  ·refine fin (cs.modify i fun e=>{e with key:=ae fG,val:=cc fb}) clock ?_ (af4 g5 i _ fun _=>rfl) (hex _ ?_)
   ·simpa[Array.toList_modify] using aJ
   ·have dd:=K.stays (ae fG) w hk;rw[h1] at mz;have qF:cs[i]? =are y:=by simpa using J
    simp[au4,dU fX,ad,zJ g1,Fi,ke,mz,qF,aj,dd,Zl _ g1,re]
  ·refine fin (cs.push {key:=ae fG,val:=cc fb,born:=clock}) (clock+1) ?_ (agd g5 _ rfl) (hex _ ?_)
   ·simpa using J
   ·rw[h1] at mz;simp[au4,dU fX,ad,zJ g1,Fi,ke,mz,Zl _ g1,re]
end Go.aQ
end
section
namespace Go.aQ
theorem ag' {n n':Nat} (h:n<=n') {v:arh} (aa:qU n v):qU n' v:=by
 unfold qU at aa⊢;split at aa
 ·rename_i a;cases a with
  |none=>exact aa
  |some a=>exact arT aa h
 ·exact aa.elim
theorem ag9 {n:Nat} {v:arh} (aa:qU n v):gC n v:=by
 unfold qU at aa;split at aa
 ·exact aa
 ·exact aa.elim
theorem st {n n':Nat} (h:n<=n') {v:arh} (aa:gC n v):gC n' v:=by
 cases v with
 |func fn aY cs=>exact ⟨aa.1,fun v hm=>ag' h (aa.2 v hm)⟩
 |pointer a=>cases a with
  |none=>exact aa
  |some a=>exact arT aa h
 |slice a l c=>cases a with
  |none=>exact aa
  |some a=>exact arT aa h
 |map r=>cases r with
  |none=>exact aa
  |some r=>exact arT aa h
 |_=>exact aa
theorem Gv {n n':Nat} (h:n<=n') {v:arh} (aa:gW n v):gW n' v:=by
 cases v with
 |agg cs=>exact fun v hm=>st h (aa v hm)
 |_=>simp only[gW] at aa⊢;exact st h aa
theorem Gy {n n':Nat} (h:n<=n') {v:arh} (aa:low n v):low n' v:=by
 cases v with
 |chan _=>trivial
 |tuple cs=>exact fun v hm=>Gv h (aa v hm)
 |func _ a b=>exact ⟨fun v hm=>Gv h (aa.1 v hm),fun v hm=>Gv h (aa.2 v hm)⟩
 |_=>simp only[low] at aa⊢;exact Gv h aa
theorem Gw {n n':Nat} (h:n<=n') {x:aV} (aa:qT n x):qT n' x:=by
 cases x with
 |dead=>exact aa
 |ro rd=>exact fun i v af=>st h (aa i v af)
 |own L t=>exact fun v hm=>st h (aa v hm)
 |map L t=>exact fun v hm=>st h (aa v hm)
 |lock _ _ _ _=>trivial
theorem wI {n:Nat} {v:arh} (h:b7 v=arf):gC n v:=by
 cases v with
 |pointer a=>cases a with
  |none=>exact arH
  |some a=>simp[b7] at h
 |slice a l c=>cases a with
  |none=>exact arH
  |some a=>simp[b7] at h
 |map r=>cases r with
  |none=>exact arH
  |some r=>simp[b7] at h
 |chan _=>simp[b7] at h
 |func _ _ _=>simp only[b7,arq,auL] at h;obtain ⟨rfl,rfl⟩:=h;exact ⟨rfl,fun v hm=>absurd hm (by simp)⟩
 |iface _ _=>simp[b7] at h
 |agg _=>simp[b7] at h
 |tuple _=>simp[b7] at h
 |_=>exact arH
theorem NU {n:Nat} {v:arh} (h:hS v=arf):gW n v:=by
 cases v with
 |agg cs=>simp only[hS,arz] at h;exact fun v hm=>wI (h v hm)
 |_=>simp only[gW];exact wI h
theorem CE {n:Nat} {v:arh} (h:flat v=arf):low n v:=by
 cases v with
 |tuple cs=>simp only[flat,arz] at h;exact fun v hm=>NU (h v hm)
 |func _ _ _=>simp only[flat,hS,b7,arq,auL] at h;obtain ⟨rfl,rfl⟩:=h;exact ⟨fun v hm=>absurd hm (by simp),fun v hm=>absurd hm (by simp)⟩
 |chan _=>trivial
 |_=>simp only[low];exact NU h
theorem GU {n:Nat} {v:arh} (h:gC n v):gW n v:=by
 cases v<;>first|exact h|exact h.elim
theorem CN {n:Nat} {v:arh} (h:gW n v):low n v:=by
 cases v with
 |func fn aY cs=>exact ⟨fun v hm=>by rw[h.1] at hm;exact absurd hm (by simp),fun v hm=>GU (ag9 (h.2 v hm))⟩
 |tuple _=>exact h.elim
 |chan _=>trivial
 |_=>exact h
theorem O1 {n:Nat} {v:arh} (h:gC n v):low n v:=CN (GU h)
theorem wy {n:Nat} {v:arh} (h:low n v) (aq:storable v=arf):gW n v:=by
 cases v with
 |tuple _=>simp[storable] at aq
 |chan _=>simp[storable] at aq
 |func fn aY cs=>
  simp only[storable,arq,auL,arz] at aq;refine ⟨aq.1,fun v hm=> ?_⟩;have h1:=h.2 v hm;have J:=aq.2 v hm;unfold xq at J;split at J
  ·exact h1
  ·cases J
 |_=>exact h
theorem Gg {n:Nat} {v:arh} (h:gW n v):∀c∈v.cells.toList,gC n c:=by
 cases v with
 |agg cs=>exact h
 |_=>intro c ad;simp only[arh.cells,ase] at ad;subst ad;exact h
theorem ux:∀(vs L:List arh) (o:Nat) (v:arh),v∈ee L o vs->v∈L\/v∈vs
 |[],L,o,v,h=> .inl h
 |u::vs,L,o,v,h=>by
  rcases ux vs (L.set o u) (o+1) v h with h|h
  ·rcases List.mem_or_eq_of_mem_set h with h|h
   ·exact .inl h
   ·exact .inr (by simp[h])
  ·exact .inr (by simp[h])
theorem Gr {n:Nat} {place:Nat->Option (Nat×Nat)}:∀(bx:List (Nat×arh)) (L cs:List arh),(∀p∈bx,low n p.2)->(∀v∈L,gC n v)->iG place L bx=are cs->∀v∈cs,gC n v
 |[],L,cs,_,b5,h=>by simp only[iG,arw.injEq] at h;subst h;exact b5
 |(i,v)::bx,L,cs,an,b5,h=>by
  simp only[iG] at h;cases aF:place i with
  |none=>simp[aF] at h
  |some q=>
   simp only[aF] at h;split at h
   ·rename_i ad;refine Gr bx _ cs (fun p hm=>an p (by simp[hm])) ?_ h;intro u hu;rcases ux _ _ _ _ hu with hu|hu
    ·exact b5 u hu
    ·exact Gg (wy (an (i,v) (by simp)) ad.1) u hu
   ·cases h
theorem Ou {m:Mem} (hm:WF m) {b o:Nat} {v:arh} (h:m.load b o=are v):gC m.next v:=by
 have:=hm.low b;unfold Mem.load at h;cases ab:m.ay b with
 |dead=>simp[ab] at h
 |ro rd=>simp only[ab] at h;rw[ab] at this;exact this o v h
 |own L t=>simp only[ab] at h;rw[ab] at this;exact this v (arI h)
 |map L t=>simp[ab] at h
 |lock _ _ _ _=>simp[ab] at h
theorem GY {m:Mem} (hm:WF m) {b:Nat}:∀(n o:Nat) (cs:List arh),il m b o n=are cs->∀v∈cs,gC m.next v
 |0,o,cs,h=>by simp only[il,arw.injEq] at h;subst h;intro v aa;simp at aa
 |n+1,o,cs,h=>by
  simp only[il] at h;cases h1:m.load b o with
  |none=>simp[h1] at h
  |some u=>
   cases J:il m b (o+1) n with
   |none=>simp[h1,J] at h
   |some l=>
    simp only[h1,J,arw.injEq] at h;subst h;intro v aa;rcases arA.1 aa with rfl|aa
    ·exact Ou hm h1
    ·exact GY hm n (o+1) l J v aa
theorem su {n:Nat} {L:List arh} (h:L.all b7=arf):∀v∈L,gC n v:=by
 simp only[arz] at h;exact fun v aa=>wI (h v aa)
theorem aiK {P:arl} {ae:arm->arh} {o:Oper} {v:arh} {n:Nat} (h:cm P ae o v) (gq:∀x∈o.op.operands,low n (ae x)):low n v:=by
 cases h with
 |flat v aq h aa ao=>exact CE aa
 |move x h=>exact gq x (by rcases h with h|h<;>simp[h,arv])
 |pick c a b t h ad=>
  cases t
  ·exact gq b (by simp[h,arv])
  ·exact gq a (by simp[h,arv])
 |extract x i vs v h U aa=>have:=gq x (by simp[h,arv]);rw[U] at this;exact CN (this v (by have:=aty aa;simpa using this))
 |field t x i aY f d cs v h ak aK aw U aa=>
  have:=gq x (by simp[h,arv]);rw[U] at this;split at aa
  ·obtain ⟨k,hk,hle,rfl⟩:=aa;intro u hu;refine this u ?_;simp only[auY,auD] at hu;exact atE (at6 hu)
  ·exact O1 (this v (by have:=aty aa;simpa using this))
 |build t bx aY i z cs h ak af aD b3 an ad=>
  have:=Gr (n:=n) _ _ _ (by
   intro p an;simp only[arC] at an;obtain ⟨q,aF,rfl⟩:=an;exact gq q.2 (by simp only[h,arv];simp only[atw,arC];exact ⟨q,aF,rfl⟩)) (su b3) ad
  simpa[low,gW] using this
 |AS t bx n e i k z cs h ak af aD b3 he ad=>
  have:=Gr (n:=_) _ _ _ (by
   intro p an;simp only[arC] at an;obtain ⟨q,aF,rfl⟩:=an;exact gq q.2 (by simp only[h,arv];simp only[atw,arC];exact ⟨q,aF,rfl⟩)) (su b3) ad
  simpa[low,gW] using this
 |nilCheck x a h U=>have:=gq x (by simp[h,arv]);rw[U] at this;exact this
 |fieldAddr t x i aY f k b off h ak aK hk aq U=>have:=gq x (by simp[h,arv]);rw[U] at this;exact this
 |indexAddr t x y e i b off l c k n h ak af U ah az h1=>have:=gq x (by simp[h,arv]);rw[U] at this;exact this
 |BU t x y e i b off l k n h ak af U ah az h1=>have:=gq x (by simp[h,arv]);rw[U] at this;exact this
 |slice t x bf af e i b off l c n bq h ak da U ab dv cP h1 J aj=>have:=gq x (by simp[h,arv]);rw[U] at this;exact this
 |k8 t x bf af e i h ak da U dv cP=>exact arH
 |slice3 t x eI af e i b off l c bq bW km h ak da U ad cP lu h1=>have:=gq x (by simp[h,arv]);rw[U] at this;exact this
 |IB t x bf af eI e i b off l c n bq bW FQ FO km h ak da U ad dv cP lu az h1=>exact arH
 |DF t x eI af e i km h ak da U cP lu=>exact arH
 |len x t e a l c h ak U=>exact arH
 |AU x t e h ak U=>exact arH
 |vp neq x y t u e a l c h ak U ah=>exact arH
 |func fn first captured h aK=>
  refine ⟨?_, ?_⟩
  ·intro v aa;simp only[as6,arC] at aa;obtain ⟨x,U,rfl⟩:=aa;exact wy (gq x (by simp[h,arv];exact .inl (by simpa using U))) (aK x (by simp[U]))
  ·intro v aa;simp only[as6,arC] at aa;obtain ⟨x,U,rfl⟩:=aa;exact wy (gq x (by simp[h,arv];exact .inr (by simpa using U))) (aK x (by simp[U]))
theorem agA {P:arl} {vt:arn} {n:Nat} {cs:List arh} (kZ:cB P vt=arj->P.cellsOf vt=1) (ai:cs.length=P.cellsOf vt) (h:∀c∈cs,gC n c):gW n (cN (cB P vt) cs):=by
 cases ar:cB P vt with
 |true=>simpa[cN,gW] using h
 |false=>
  have:=kZ ar
  match cs,ai with
  |[v],_=>exact GU (h v (by simp))
  |[],ai=>simp at ai;omega
  |_::_::_,ai=>simp at ai;omega
theorem aiN {P:arl} {ae:arm->arh} {o:Oper} {m:Mem} {v:arh} (h:dX P ae o m v) (hm:WF m) (gq:∀x∈o.op.operands,low m.next (ae x)):low m.next v:=by
 cases h with
 |load t x b off d v h U ak aw aa=>exact O1 (Ou hm aa)
 |ud t x b off d i cs h U ak aw af aa=>simpa[low,gW] using GY hm _ _ _ aa
 |xA t x bf af e i L b off l c k n bq h ak da U hk fD dv cP h1 J aj=>have:=gq x (by simp[h,arv]);rw[U] at this;exact this
 |slice t x bf af e i L b off l n bq h ak da U fD dv cP h1 J aj=>have:=gq x (by simp[h,arv]);rw[U] at this;exact this
 |str s t x e b off l c cs h aq he ak U aa=>exact arH
 |xB s t x e l c h aq he ak U=>exact arH
 |lookup eE x ca ok u kt vt b L E i z v0 t gp h fX hu U lq kZ K aK hk aM af aD b3 ai=>
  have az:gW m.next v0:=by
   have acH:(∀p∈E,∀c∈p.2,gC m.next c)/\∀p∈E,p.2.length=P.cellsOf vt:=by
    rcases U with ⟨U,gi,aP⟩|⟨U,rfl⟩
    ·have b5:=hm.low b;rw[gi] at b5;exact ⟨fun p an c ad=>b5 c (by rw[aP.eq];exact as0.2 ⟨p,an,by simp[ad]⟩),fun p an=>(aP.len p an).2⟩
    ·exact ⟨fun p an=>by simp at an,fun p an=>by simp at an⟩
   obtain ⟨lk,hlen⟩:=acH;clear aM U;induction ai with
   |nz=>exact NU b3
   |hit p E h=>exact agA kZ (hlen p (by simp)) (lk p (by simp))
   |next p E v b h ai aU=>exact aU (fun q aF=>lk q (by simp[aF])) (fun q aF=>hlen q (by simp[aF]))
  cases ok with
  |false=>exact CN az
  |true=>
   intro v aa;simp at aa;rcases aa with rfl|rfl
   ·exact az
   ·exact arH
theorem ai8 {P:arl} {ae:arm->arh} {o:Oper} {n:Nat} {X:aV} {v:arh} (h:hI P ae o n X v) (gq:∀x∈o.op.operands,low n (ae x)):low (n+1) v/\qT n X:=by
 cases h with
 |alloc t i z h af aD b3 aq=>exact ⟨ash n,su b3⟩
 |box t x i h af aa aq=>exact ⟨ash n,Gg (wy (gq x (by simp[h,arv])) aa)⟩
 |buildSlice t l bx e i z cs h ak af aD b3 cZ rR rX ad=>refine ⟨ash n,Gr _ _ _ ?_ (su (wE b3 l)) ad⟩;intro p an;simp only[arC] at an;obtain ⟨q,aF,rfl⟩:=an;exact gq q.2 (by simp only[h,arv];simp only[atw,arC];exact ⟨q,aF,rfl⟩)
 |makeSlice t x y l c k bW e i z h ak af aD b3 cZ U ah rZ ab ad=>exact ⟨ash n,su (wE b3 c)⟩
 |bytes s t x e i b h aq ak he af iS U ab=>exact ⟨ash n,su (by simp only[List.all_map,arz,Function.comp];intro u _;rfl)⟩
 |makeMap t kt vt h ak=>exact ⟨ash n,fun v aa=>by simp at aa⟩
theorem WF.push {m:Mem} (h:WF m) {X:aV} (b5:qT (m.next+1) X):WF (m.push X) where
 dead:=fun b ab=>by simp only[Mem.push] at ab⊢;rw[if_neg (by omega)];exact h.dead b (by omega)
 low:=fun b=>by
  simp only[Mem.push];split
  ·exact b5
  ·exact Gw (ar7 _) (h.low b)
theorem WF.put {m:Mem} (h:WF m) {b:Nat} {x:aV} (U:qT m.next x) (ab:b<m.next\/x= .dead):WF (m.put b x) where
 dead:=fun c ad=>by
  have ad:m.next<=c:=ad;simp only[Mem.put];split
  ·rcases ab with ab|ab
   ·omega
   ·exact ab
  ·exact h.dead c ad
 low:=fun c=>by
  simp only[Mem.put];split
  ·exact U
  ·exact h.low c
theorem WF.lt {m:Mem} (h:WF m) {b:Nat} (ab:m.ay b≠ .dead):b<m.next:=by
 rcases ar' b m.next with h1|h1
 ·exact h1
 ·exact absurd (h.dead b h1) ab
def oz (C:FuncId->Array arh->Mem->arh->Mem->Prop):Prop:=∀f args m v m',C f args m v m'->WF m->(∀a∈args.toList,low m.next a)->low m'.next v/\WF m'/\m.next<=m'.next
theorem NS {m:Mem} (hm:WF m) {aW:Nat} {y:arh} {cs:List arh} (h:cg m aW y=are cs):∀v∈cs,gC m.next v:=by
 cases y with
 |slice a l c=>
  cases a with
  |none=>simp only[cg,arw.injEq] at h;subst h;intro v aa;simp at aa
  |some a=>
   obtain ⟨b,off,spot⟩:=a;cases spot with
   |none=>exact GY hm _ _ _ h
   |some _=>simp[cg] at h
 |string s=>
  simp only[cg] at h;split at h
  ·simp only[arw.injEq] at h;subst h;exact su (by simp only[List.all_map,arz,Function.comp];intro u _;rfl)
  ·cases h
 |_=>simp[cg] at h
theorem G7 {P:arl} {m:Mem} (hm:WF m) {u:arn} {i:TypeInfo} {y:arh} {n:Nat} {cs:List arh} (h:rp P m u i y n cs):∀v∈cs,gC m.next v:=by
 cases h with
 |el hu ai he=>exact NS hm he
 |mk kk k z hu ah aD b3 cZ bu ab fm iC=>subst iC;exact su (wE b3 n)
theorem ags {o:Oper} {ae:arm->arh} {f:FuncId} {args:Array arh} {n:Nat} (h:callee o ae f args) (gq:∀x∈o.op.operands,low n (ae x)):∀a∈args.toList,low n a:=by
 obtain ⟨x,as,ts,first,captured,h,U,rfl⟩:=h;have aK:=gq x (by simp[h,arv,asj]);rw[U] at aK;intro a ar;simp only[au0,arO,as6,arC] at ar;rcases ar with (ar|⟨y,ah,rfl⟩)|ar
 ·exact CN (aK.1 a ar)
 ·exact gq y (by simp[h,arv,asj];exact .inr (by simpa using ah))
 ·exact CN (aK.2 a ar)
theorem ajJ {P:arl} {C:FuncId->Array arh->Mem->arh->Mem->Prop} {ae:arm->arh} {o:Oper} {m m':Mem} {v:arh} (h:fM P C ae o m v m') (hm:WF m) (gq:∀x∈o.op.operands,low m.next (ae x)) (bI:oz C):low m'.next v/\WF m'/\m.next<=m'.next:=by
 cases h with
 |store t x y b off i L e h U af gi aa aq ai=>
  refine ⟨fun u hu=>by simp at hu,hm.put ?_ (.inl (hm.lt (by rw[gi];simp))),ars _⟩;intro u hu;rcases ux _ _ _ _ hu with hu|hu
  ·have:=hm.low b;rw[gi] at this;exact this u hu
  ·exact Gg (wy (gq y (by simp[h,arv])) aa) u hu
 |call f args v m' h adj=>exact bI f args m v m' adj hm (ags h gq)
 |tt x y t u e i a l c h ak af U ad rZ ah=>exact ⟨gq x (by simp[h,arv,asj]),hm,ars _⟩
 |qq x y t u e i z a l c n cK new h ak af aD b3 cZ bu U ad ag iT ah av ab fm=>
  refine ⟨ash _,hm.push ?_,ar7 _⟩;intro w hw;rcases arO.1 hw with hw|hw
  ·exact st (ar7 _) (NS hm ag w hw)
  ·exact st (ar7 _) (G7 hm ah w hw)
 |x6 x y t u e i b off l c k n L new h ak af U cJ hy ad gi ah av ai=>
  refine ⟨?_,hm.put ?_ (.inl (hm.lt (by rw[gi];simp))),ars _⟩
  ·have:=gq x (by simp[h,arv,asj]);rw[U] at this;exact this
  ·intro w hw;rcases ux _ _ _ _ hw with hw|hw
   ·have:=hm.low b;rw[gi] at this;exact this w hw
   ·exact G7 hm ah w hw
 |vn x y t u e i b off l c n L new h ak af U cJ ad gi ah av ai=>
  refine ⟨?_,hm.put ?_ (.inl (hm.lt (by rw[gi];simp))),ars _⟩
  ·have:=gq x (by simp[h,arv,asj]);rw[U] at this;exact this
  ·intro w hw;rcases ux _ _ _ _ hw with hw|hw
   ·have:=hm.low b;rw[gi] at this;exact this w hw
   ·exact G7 hm ah w hw
 |append x y t u e i z b off l n L new h ak af aD b3 cZ bu U gi tN ah av ab fm=>
  have h1:WF (m.put b .dead):=hm.put arH (.inr rfl);refine ⟨ash _,h1.push ?_,ar7 _⟩;intro w hw;rcases arO.1 hw with hw|hw
  ·have:=hm.low b;rw[gi] at this;exact st (ar7 _) (this w (at6 (atE hw)))
  ·exact st (ar7 _) (G7 hm ah w hw)
 |clear x t e i z b off l c L h ak af aD b3 cZ U gi dT ai=>
  refine ⟨by intro v aa;simp at aa,hm.put ?_ (.inl (hm.lt (by rw[gi];simp))),ars _⟩;intro w hw;rcases ux _ _ _ _ hw with hw|hw
  ·have:=hm.low b;rw[gi] at this;exact this w hw
  ·obtain ⟨iW,h1,J⟩:=au1.1 hw;obtain ⟨_,rfl⟩:=au2.1 h1;exact wI (arz.1 b3 w J)
 |copy x y t u e i b off l c L cs h ak af U gi ah av ai=>
  refine ⟨arH,hm.put ?_ (.inl (hm.lt (by rw[gi];simp))),ars _⟩;intro w hw;rcases ux _ _ _ _ hw with hw|hw
  ·have:=hm.low b;rw[gi] at this;exact this w hw
  ·exact NS hm ah w (atE hw)
 |mapUpdate eE x fG fb u kt vt b L bX vc E E' gp h fX hu U gi aP lq K yC nn yD aK hk aM k0 BO sa BP eU=>
  refine ⟨fun u hu=>by simp at hu,hm.put ?_ (.inl (hm.lt (by rw[gi];simp))),ars _⟩;have b5:=hm.low b;rw[gi] at b5;have lk:∀p∈E,∀c∈p.1++p.2,gC m.next c:=fun p an c ad=>b5 c (by rw[aP.eq];exact as0.2 ⟨p,an,ad⟩);have adU:∀c∈bX,gC m.next c:=su yD;have Vb:∀c∈vc,gC m.next c:=fun c ad=>by refine Gg (wy (gq fb ?_) k0) c (BP c ad);rcases h with h|h<;>simp[h,arv]
  have key:∀p∈E',∀c∈p.1++p.2,gC m.next c:=by
   clear aP aM b5;induction eU with
   |nz=>
    intro p an c ad;simp at an;subst an;rcases arO.1 ad with ad|ad
    ·exact adU c ad
    ·exact Vb c ad
   |hit p E h=>
    intro q aF c ad;rcases arA.1 aF with rfl|aF
    ·rcases arO.1 ad with ad|ad
     ·exact lk p (by simp) c (by simp[ad])
     ·exact Vb c ad
    ·exact lk q (by simp[aF]) c ad
   |next p E E' h Ub aU=>
    intro q aF c ad;rcases arA.1 aF with rfl|aF
    ·exact lk q (by simp) c ad
    ·exact aU (fun q aF=>lk q (by simp[aF])) q aF c ad
  intro v aa;obtain ⟨p,an,ad⟩:=as0.1 aa;exact key p an v ad
theorem Zx {fr:Nat->arh} {n:Nat} (h:∀t,low n (fr t)) {x:arm} (U:kH x=arf):low n (aL fr x):=by
 cases x with
 |tmp t=>exact h t
 |const v=>exact CE U
 |global g=>simp[kH] at U
 |func f=>exact ⟨fun v aa=>by simp at aa,fun v aa=>by simp at aa⟩
theorem CV {fr:Nat->arh} {n:Nat} (h:∀t,low n (fr t)) {d:Option Tmp} {v:arh} (aa:low n v):∀t,low n (set fr d v t):=by
 intro t;cases d with
 |none=>exact h t
 |some d=>simp only[set];split;exact aa;exact h t
theorem Cj {n:Nat}:low n undef:=fun v aa=>by simp at aa
theorem wR {P:arl} {C:FuncId->Array arh->Mem->arh->Mem->Prop} {fr:Nat->arh} {o:Oper} {m m':Mem} {v:arh} (h:nX P C (aL fr) o m v m') (hm:WF m) (aK:∀t,low m.next (fr t)) (bI:oz C) (ag:∀x∈o.op.operands,kH x=arf):
  low m'.next v/\WF m'/\m.next<=m'.next:=by
 have gq:∀x∈o.op.operands,low m.next (aL fr x):=fun x U=>Zx aK (ag x U);cases h with
 |pure h=>exact ⟨aiK h gq,hm,ars _⟩
 |read h=>exact ⟨aiN h hm gq,hm,ars _⟩
 |new h=>have:=ai8 h gq;exact ⟨this.1,hm.push (Gw (ar7 _) this.2),ar7 _⟩
 |ev h=>exact ajJ h hm gq bI
end Go.aQ
end
section
namespace Go.aQ
def PI (P:arl) (C:FuncId->Array arh->Mem->arh->Mem->Prop) (ops:List Oper) (o:Oper) (fr:Nat->arh) (m:Mem) (v:arh) (m':Mem) (k:Nat):Prop:=
 (k=0/\wanted ops fr o=arj/\v=undef/\m'=m)\/
 (k=1/\wanted ops fr o=arf/\cm P (aL fr) o v/\m'=m)\/
 (k=2/\wanted ops fr o=arf/\dX P (aL fr) o m v/\m'=m)\/
 (k=3/\wanted ops fr o=arf/\∃X,hI P (aL fr) o m.next X v/\m'=m.push X)\/
 (k=4/\wanted ops fr o=arf/\fM P C (aL fr) o m v m')
structure kv (P:arl) (C:FuncId->Array arh->Mem->arh->Mem->Prop) (ops:List Oper) (B:Array Nat) (i:Nat) (l:List Oper) (aY:Nat->Nat->arh) (ms:Nat->Mem) (vs:Nat->arh) (bH:Nat->Nat):Prop where
 frame:∀n o,l[n]? =are o->aY (i+n+1)=set (aY (i+n)) o.dst (vs (i+n))
 run:∀n o,l[n]? =are o->PI P C ops o (aY (i+n)) (ms (i+n)) (vs (i+n)) (ms (i+n+1)) (bH (i+n))
 after:∀r e o,l[r]? =are o->bH (i+r)=2->e<l.length->bH (i+e)=4->r<e->eM B (i+e) (i+r)=arj->dX P (aL (aY (i+r))) o (ms (i+e+1)) (vs (i+r))
 news:∀x e,x<l.length->bH (i+x)=3->e<l.length->bH (i+e)=4->x<e->eM B (i+e) (i+x)=arj->(ms (i+e+1)).ay (ms (i+x)).next=(ms (i+e)).ay (ms (i+x)).next
 ahead:∀r e o,l[r]? =are o->bH (i+r)=2->e<l.length->bH (i+e)=4->e<r->eM B (i+r) (i+e)=arj->dX P (aL (aY (i+r))) o (ms (i+e)) (vs (i+r))
theorem ZZ {P:arl} {C:FuncId->Array arh->Mem->arh->Mem->Prop} {ops:List Oper} {B:Array Nat}:∀(l:List Oper) (i:Nat) (A:Acc) (fr:Nat->arh) (m:Mem) (fr':Nat->arh) (m':Mem),fZ P C ops B i l A fr m fr' m'->
  ∃aY ms vs bH,kv P C ops B i l aY ms vs bH/\aY i=fr/\ms i=m/\aY (i+l.length)=fr'/\ms (i+l.length)=m'/\
   (∀x∈A.reads,∀e,e<l.length->bH (i+e)=4->eM B (i+e) x.1=arj->x.2 (ms (i+e+1)))/\
   (∀x∈A.e6,∀r o,l[r]? =are o->bH (i+r)=2->eM B (i+r) x.1=arj->dX P (aL (aY (i+r))) o x.2 (vs (i+r)))/\
   (∀x∈A.news,∀e,e<l.length->bH (i+e)=4->eM B (i+e) x.1=arj->(ms (i+e+1)).ay x.2=(ms (i+e)).ay x.2)
 |[],i,A,fr,m,fr',m',h=>by simp only[fZ] at h;obtain ⟨rfl,rfl⟩:=h;refine ⟨fun _=>fr',fun _=>m',fun _=>undef,fun _=>0,⟨?_, ?_, ?_, ?_, ?_⟩,rfl,rfl,rfl,rfl, ?_, ?_, ?_⟩;all_goals (intros;simp at*)
 |o::os,i,A,fr,m,fr',m',h=>by
  have key:∀(v:arh) (m1:Mem) (k:Nat) (hb:Acc),PI P C ops o fr m v m1 k->fZ P C ops B (i+1) os hb (set fr o.dst v) m1 fr' m'->
    (∀x∈A.reads,x∈hb.reads)->(∀x∈A.e6,x∈hb.e6)->(k=2->(i,fun m=>dX P (aL fr) o m v)∈hb.reads)->(k=4->(i,m)∈hb.e6)->
    (k=2->∀x∈A.e6,eM B i x.1=arj->dX P (aL fr) o x.2 v)->(k=4->∀x∈A.reads,eM B i x.1=arj->x.2 m1)->(∀x∈A.news,x∈hb.news)->(k=3->(i,m.next)∈hb.news)->(k=4->∀x∈A.news,eM B i x.1=arj->m1.ay x.2=m.ay x.2)->
    ∃aY ms vs bH,kv P C ops B i (o::os) aY ms vs bH/\aY i=fr/\ms i=m/\aY (i+(o::os).length)=fr'/\ms (i+(o::os).length)=m'/\
     (∀x∈A.reads,∀e,e<(o::os).length->bH (i+e)=4->eM B (i+e) x.1=arj->x.2 (ms (i+e+1)))/\
     (∀x∈A.e6,∀r o',(o::os)[r]? =are o'->bH (i+r)=2->eM B (i+r) x.1=arj->dX P (aL (aY (i+r))) o' x.2 (vs (i+r)))/\
     (∀x∈A.news,∀e,e<(o::os).length->bH (i+e)=4->eM B (i+e) x.1=arj->(ms (i+e+1)).ay x.2=(ms (i+e)).ay x.2):=by
   intro v m1 k hb gV aw acD acB rV Md kX aeF acC Bv aea;obtain ⟨aY,ms,vs,bH,ak,h1,J,aj,aJ,bk,dn,gz⟩:=ZZ os (i+1) hb _ _ _ _ aw;refine ⟨fun n=>if n=i then fr else aY n,fun n=>if n=i then m else ms n,fun n=>if n=i then v else vs n,fun n=>if n=i then k else bH n,⟨?_, ?_, ?_, ?_, ?_⟩,by simp,by simp, ?_, ?_, ?_, ?_, ?_⟩
   ·intro n o' av;cases n with
    |zero=>simp only[atp,arw.injEq] at av;subst av;simp only[ar3,if_pos,Nat.succ_ne_self,if_false,auM,aul,h1]
    |succ n=>
     have aT:i+(n+1)=i+1+n:=by omega
     have:=ak.frame n o' (by simpa using av);rw[aT];simp only[show ¬(i+1+n+1=i) by omega,show ¬(i+1+n=i) by omega,if_false,this]
   ·intro n o' av;cases n with
    |zero=>simp only[atp,arw.injEq] at av;subst av;simp only[ar3,if_pos,auM,aul,if_false,J];exact gV
    |succ n=>
     have aT:i+(n+1)=i+1+n:=by omega
     have:=ak.run n o' (by simpa using av);rw[aT];simp only[show ¬(i+1+n+1=i) by omega,show ¬(i+1+n=i) by omega,if_false];exact this
   ·intro r e o' ao hk he fC Fx fV;cases e with
    |zero=>omega
    |succ e=>
     have aT:i+(e+1)=i+1+e:=by omega
     rw[aT] at fC fV⊢;simp only[show ¬(i+1+e=i) by omega,if_false] at fC;simp only[show ¬(i+1+e+1=i) by omega,if_false];cases r with
     |zero=>simp only[atp,arw.injEq] at ao;subst ao;simp only[ar3,if_pos] at hk fV⊢;exact bk _ (rV hk) e (by simpa using he) fC fV
     |succ r=>
      have e2:i+(r+1)=i+1+r:=by omega
      rw[e2] at hk fV⊢;simp only[show ¬(i+1+r=i) by omega,if_false] at hk⊢;exact ak.after r e o' (by simpa using ao) hk (by simpa using he) fC (by omega) fV
   ·intro x e U hk he fC iD fV;cases e with
    |zero=>omega
    |succ e=>
     have aT:i+(e+1)=i+1+e:=by omega
     rw[aT] at fC fV⊢;simp only[show ¬(i+1+e=i) by omega,if_false] at fC;simp only[show ¬(i+1+e+1=i) by omega,show ¬(i+1+e=i) by omega,if_false];cases x with
     |zero=>simp only[ar3,if_pos] at hk fV⊢;exact gz _ (Bv hk) e (by simpa using he) fC fV
     |succ x=>
      have e2:i+(x+1)=i+1+x:=by omega
      rw[e2] at hk fV⊢;simp only[show ¬(i+1+x=i) by omega,if_false] at hk⊢;exact ak.news x e (by simpa using U) hk (by simpa using he) fC (by omega) fV
   ·intro r e o' ao hk he fC Fx fV;cases r with
    |zero=>omega
    |succ r=>
     have e2:i+(r+1)=i+1+r:=by omega
     rw[e2] at hk fV⊢;simp only[show ¬(i+1+r=i) by omega,if_false] at hk⊢;cases e with
     |zero=>simp only[ar3,if_pos] at fC fV⊢;exact dn _ (Md fC) r o' (by simpa using ao) hk fV
     |succ e=>
      have aT:i+(e+1)=i+1+e:=by omega
      rw[aT] at fC fV⊢;simp only[show ¬(i+1+e=i) by omega,if_false] at fC⊢;exact ak.ahead r e o' (by simpa using ao) hk (by simpa using he) fC (by omega) fV
   ·have aT:i+(o::os).length=i+1+os.length:=by simp;omega
    rw[aT];simp only[show ¬(i+1+os.length=i) by omega,if_false,aj]
   ·have aT:i+(o::os).length=i+1+os.length:=by simp;omega
    rw[aT];simp only[show ¬(i+1+os.length=i) by omega,if_false,aJ]
   ·intro x U e he fC fV;cases e with
    |zero=>simp only[ar3,if_pos,auM,aul,if_false,J] at fC fV⊢;exact aeF fC x U fV
    |succ e=>
     have aT:i+(e+1)=i+1+e:=by omega
     rw[aT] at fC fV⊢;simp only[show ¬(i+1+e=i) by omega,if_false] at fC;simp only[show ¬(i+1+e+1=i) by omega,if_false];exact bk x (acD x U) e (by simpa using he) fC fV
   ·intro x U r o' ao hk fV;cases r with
    |zero=>simp only[atp,arw.injEq] at ao;subst ao;simp only[ar3,if_pos] at hk fV⊢;exact kX hk x U fV
    |succ r=>
     have e2:i+(r+1)=i+1+r:=by omega
     rw[e2] at hk fV⊢;simp only[show ¬(i+1+r=i) by omega,if_false] at hk⊢;exact dn x (acB x U) r o' (by simpa using ao) hk fV
   ·intro x U e he fC fV;cases e with
    |zero=>simp only[ar3,if_pos,auM,aul,if_false,J] at fC fV⊢;exact aea fC x U fV
    |succ e=>
     have aT:i+(e+1)=i+1+e:=by omega
     rw[aT] at fC fV⊢;simp only[show ¬(i+1+e=i) by omega,if_false] at fC;simp only[show ¬(i+1+e+1=i) by omega,show ¬(i+1+e=i) by omega,if_false];exact gz x (acC x U) e (by simpa using he) fC fV
  simp only[fZ] at h;split at h
  ·rename_i hw;rcases h with ⟨v,an,aw⟩|⟨v,an,Mp,aw⟩|⟨X,v,an,aw⟩|⟨v,m1,an,Mp,aei,aw⟩
   ·exact key v m 1 A (.inr (.inl ⟨rfl,hw,an,rfl⟩)) aw (fun _ h=>h) (fun _ h=>h) (by simp) (by simp) (by simp) (by simp) (fun _ h=>h) (by simp) (by simp)
   ·exact key v m 2 _ (.inr (.inr (.inl ⟨rfl,hw,an,rfl⟩))) aw (fun _ h=>by simp[h]) (fun _ h=>h) (fun _=>by simp) (by simp) (fun _=>Mp) (by simp) (fun _ h=>h) (by simp) (by simp)
   ·exact key v _ 3 _ (.inr (.inr (.inr (.inl ⟨rfl,hw,X,an,rfl⟩)))) aw (fun _ h=>h) (fun _ h=>h) (by simp) (by simp) (by simp) (by simp) (fun _ h=>by simp[h]) (fun _=>by simp) (by simp)
   ·exact key v m1 4 _ (.inr (.inr (.inr (.inr ⟨rfl,hw,an⟩)))) aw (fun _ h=>h) (fun _ h=>by simp[h]) (by simp) (fun _=>by simp) (by simp) (fun _=>Mp) (fun _ h=>h) (by simp) (fun _=>aei)
  ·rename_i hw;exact key undef m 0 A (.inl ⟨rfl,by simpa using hw,rfl,rfl⟩) h (fun _ h=>h) (fun _ h=>h) (by simp) (by simp) (by simp) (by simp) (fun _ h=>h) (by simp) (by simp)
end Go.aQ
end
section
namespace Go.aQ
def wX (P:arl) (C:FuncId->Array arh->Mem->arh->Mem->Prop):Prop:=∀f args m v m',C f args m v m'->∀(j:bb) (w:World) (fU:Array arh),WF m->Rel P j m w->a1 (bU j) args.toList fU.toList->
 (∃ fn, P.funcs[f]? = are fn ∧ (fn.name == "runtime.NumGoroutine") = arj ∧ fn.body.isNone = arj) ∧
 Calls P f fU w fun e w'=>∃aS bw,e= .returned aS/\Post P j m w bw m' w'/\bU bw v aS
theorem Hi {j:bb} {n:Nat} (ap:∀b e,j b=are e->b<n) {v aS:arh}:(dr j v aS->gC n v)/\(eg j v aS->gW n v)/\(bU j v aS->low n v):=by
 have ai:∀{R:arh->arh->Prop} {p:arh->Prop},(∀a b,R a b->p a)->∀{l k:List arh},a1 R l k->∀v∈l,p v:=by
  intro R p ac1 l;induction l with
  |nil=>intro k _ v aa;simp at aa
  |cons a l aU=>
   intro k h v aa;cases k with
   |nil=>exact h.elim
   |cons b k=>
    rcases arA.1 aa with rfl|aa
    ·exact ac1 _ _ h.1
    ·exact aU h.2 v aa
 have aF:∀v aS:arh,jy j v aS->qU n v:=by
  intro v aS h;unfold jy at h;split at h
  ·obtain ⟨e,_,h,_⟩:=h;exact ap _ _ h
  ·exact h.elim
 have az:∀{v aS:arh},dr j v aS->gC n v:=by
  intro v aS h;cases v with
  |pointer a=>cases a with
   |none=>exact arH
   |some a=>obtain ⟨e,_,h,_⟩:=h;exact ap _ _ h
  |slice a l c=>cases a with
   |none=>exact arH
   |some a=>obtain ⟨e,_,h,_⟩:=h;exact ap _ _ h
  |map r=>cases r with
   |none=>exact arH
   |some r=>obtain ⟨e,h,_⟩:=h;exact ap _ _ h
  |chan _=>exact h
  |func _ _ _=>obtain ⟨aT,ds,_,h⟩:=h;exact ⟨aT,ai (R:=jy j) (p:=qU n) aF h⟩
  |iface _ _=>exact h
  |agg _=>exact h
  |tuple _=>exact h
  |_=>exact arH
 have h1:∀{v aS:arh},eg j v aS->gW n v:=by
  intro v aS h;cases v with
  |agg cs=>obtain ⟨ds,_,h⟩:=h;exact ai (R:=dr j) (p:=gC n) (fun a b=>az) h
  |_=>simp only[eg] at h;simp only[gW];exact az h
 refine ⟨az,h1, ?_⟩;intro h;cases v with
 |tuple cs=>obtain ⟨ds,_,h⟩:=h;exact ai (R:=eg j) (p:=gW n) (fun a b=>h1) h
 |chan _=>trivial
 |func fn a b=>obtain ⟨gs,ds,_,h,bq⟩:=h;exact ⟨ai (R:=eg j) (p:=gW n) (fun a b=>h1) h,ai (R:=eg j) (p:=gW n) (fun a b=>h1) bq⟩
 |_=>simp only[bU] at h;simp only[low];exact h1 h
def bb.below (j:bb) (n:Nat):bb:=fun b=>if b<n then j b else ari
theorem oy {j:bb} {n b:Nat} {e:iL} (h:j.below n b=are e):b<n/\j b=are e:=by
 unfold bb.below at h;split at h
 ·exact ⟨‹_›,h⟩
 ·cases h
theorem GM {j:bb} {n b:Nat} {e:iL} (h:b<n) (ap:j b=are e):j.below n b=are e:=by simp[bb.below,h,ap]
theorem wA {j:bb} {n:Nat} {v aS:arh}:(dr j v aS->gC n v->dr (j.below n) v aS)/\(eg j v aS->gW n v->eg (j.below n) v aS)/\(bU j v aS->low n v->bU (j.below n) v aS):=by
 have gU:∀{R S:arh->arh->Prop} {p:arh->Prop},(∀a b,R a b->p a->S a b)->∀{l k:List arh},a1 R l k->(∀v∈l,p v)->a1 S l k:=by
  intro R S p ac0 l;induction l with
  |nil=>intro k h _;cases k with|nil=>exact arH|cons _ _=>exact h.elim
  |cons a l aU=>
   intro k h an;cases k with
   |nil=>exact h.elim
   |cons b k=>exact ⟨ac0 _ _ h.1 (an a (by simp)),aU h.2 fun v aa=>an v (by simp[aa])⟩
 have aF:∀v aS:arh,jy j v aS->qU n v->jy (j.below n) v aS:=by
  intro v aS h ai;unfold jy at h⊢;split at h
  ·obtain ⟨e,h1,J,aj⟩:=h;exact ⟨e,h1,GM ai J,aj⟩
  ·exact h.elim
 have az:∀{v aS:arh},dr j v aS->gC n v->dr (j.below n) v aS:=by
  intro v aS h ai;cases v with
  |func _ _ _=>obtain ⟨aT,ds,e2,h⟩:=h;exact ⟨aT,ds,e2,gU (R:=jy j) (S:=jy (j.below n)) (p:=qU n) aF h ai.2⟩
  |pointer a=>cases a with
   |none=>exact h
   |some a=>obtain ⟨e,h1,J,aj⟩:=h;exact ⟨e,h1,GM ai J,aj⟩
  |slice a l c=>cases a with
   |none=>exact h
   |some a=>obtain ⟨e,h1,J,aj⟩:=h;exact ⟨e,h1,GM ai J,aj⟩
  |map r=>cases r with
   |none=>exact h
   |some r=>obtain ⟨e,J,aj⟩:=h;exact ⟨e,GM ai J,aj⟩
  |_=>exact h
 have h1:∀{v aS:arh},eg j v aS->gW n v->eg (j.below n) v aS:=by
  intro v aS h ai;cases v with
  |agg cs=>obtain ⟨ds,aT,h⟩:=h;exact ⟨ds,aT,gU (R:=dr j) (S:=dr (j.below n)) (p:=gC n) (fun a b=>az) h ai⟩
  |_=>simp only[eg] at h⊢;simp only[gW] at ai;exact az h ai
 refine ⟨az,h1, ?_⟩;intro h ai;cases v with
 |tuple cs=>obtain ⟨ds,aT,h⟩:=h;exact ⟨ds,aT,gU (R:=eg j) (S:=eg (j.below n)) (p:=gW n) (fun a b=>h1) h ai⟩
 |chan _=>exact h
 |func fn a b=>obtain ⟨gs,ds,aT,h,bq⟩:=h;exact ⟨gs,ds,aT,gU (R:=eg j) (S:=eg (j.below n)) (p:=gW n) (fun a b=>h1) h ai.1,gU (R:=eg j) (S:=eg (j.below n)) (p:=gW n) (fun a b=>h1) bq ai.2⟩
 |_=>simp only[bU] at h⊢;simp only[low] at ai;exact h1 h ai
theorem a1.mapA {al bs rm:Type} {R:bs->rm->Prop} (f:al->bs) (g:al->rm) (A:Array al) (h:∀x∈A.toList,R (f x) (g x)):a1 R (A.map f).toList (A.map g).toList:=by
 simp only[as6];exact a1.map f g _ h
theorem V5 {P : arl} {f : FuncId} {fn : Func} {args : Array arh} {w : World} (aK : P.funcs[f]? = are fn) (Mn : (fn.name == "runtime.NumGoroutine") = arj) (LQ : fn.body.isNone = arj) : (callFunc f args).run P w = .ok (.enter f args) w := by
 simp only[callFunc,arV,run_program,arN,aK,Mn,LQ,if_false,asf,ar0]
theorem Zv {P:arl} {C:FuncId->Array arh->Mem->arh->Mem->Prop} {j:bb} {ae:arm->arh} {o:Oper} {m m':Mem} {w:World} {v:arh} {a:Act} (h:fM P C ae o m v m') (hO:gy j ae a.eval o) (ba:Rel P j m w) (cn:WF m) (ht:wX P C)
  {K:Act->World->Prop} {Q:Exit->Act->World->Prop} (fA:∀aS w' bw,Post P j m w bw m' w'->bU bw v aS->K (a.put o.dst aS) w'):o.wp P a w K Q:=by
 rcases agE h hO ba with ⟨n,aS,w',bw,ao,av,an,aa⟩|⟨f,args,ad,bI⟩
 ·unfold as';rw[ao];rcases av with rfl|⟨rfl,rfl⟩
  ·exact fA aS w' bw an aa
  ·exact fA undef w' bw an aa
 ·obtain ⟨x,as,ts,first,captured,jG,U,rfl⟩:=ad;have cp:=hO x (by simp[jG,arv,asj]);rw[U] at cp;obtain ⟨gs,ds,cU,h1,J⟩:=cp;have tG:a1 (bU j) (first++as.map ae++captured).toList (gs++as.map a.eval++ds).toList:=by
   simp only[au0];refine a1.append (a1.append (h1.mono fun _ _=>bU.wu) (a1.mapA _ _ _ fun y ah=> ?_)) (J.mono fun _ _=>bU.wu);exact hO y (by simp[jG,arv,asj];exact .inr (by simpa using ah))
  obtain ⟨⟨fn,aK,Mn,LQ⟩,adk⟩:=ht _ _ _ _ _ bI j w _ cn ba tG;have gV:(execOp a.eval o).run P w= .ok (.enter f (gs++as.map a.eval++ds)) w:=by simp only[execOp,jG,resolve,cU,Deferred.ofValue,invoke,arV,ar0,arN,V5 aK Mn LQ]
  unfold as';rw[gV,Oper.upon_enter];refine adk.mono ?_;rintro e w' ⟨aS,bw,rfl,an,aa⟩;exact fA aS w' bw an aa
end Go.aQ
end
section
namespace Go.aQ
theorem agD {ops:Array Oper} (h:uE ops=arf) {i:Nat} {o:Oper} (ag:ops[i]? =are o) {e:Edge} (he:e∈o.after) (ab:ata .any e=arf):e.on<i:=by
 simp only[uE,arz,asF] at h;have:=h i (ar6.1 ag).1;simp only[ag,arq,arz] at this;have:=this.1 e (by simpa using he);simpa[ab] using this
theorem NB {ops:Array Oper} (h:uE ops=arf) {i x:Nat} {o y:Oper} (ag:ops[i]? =are o) (ah:ops[x]? =are y) (U:x<i) (ad:rL ops y o=arf):eM (asa ops) i x=arf:=by
 simp only[uE,arz,asF] at h;have:=h i (ar6.1 ag).1;simp only[ag,arq,arz] at this;have:=this.2 x (by simpa using U);simpa[ah,ad] using this
def Hg (ops:Array Oper) (S:Nat->Prop):Prop:=∀a o,S a->ops[a]? =are o->∀e∈o.after,ata .any e=arf->S e.on
def q3 (acc:Array Nat) (o:Oper):Array Nat:=acc.push (o.after.foldl (fun s e=>if ata .any e then s|||2 ^ e.on|||acc.getD e.on 0 else s) 0)
def Good (ops:Array Oper) (i bits:Nat):Prop:=∀x,bits.testBit x=arf->∀S,Hg ops S->(∀o,ops[i]? =are o->∀e∈o.after,ata .any e=arf->S e.on)->S x
theorem WR (acc:Array Nat):∀(l:List Edge) (s x:Nat),(l.foldl (fun s e=>if ata .any e then s|||2 ^ e.on|||acc.getD e.on 0 else s) s).testBit x=arf->
  s.testBit x=arf\/∃e∈l,ata .any e=arf/\(x=e.on\/(acc.getD e.on 0).testBit x=arf)
 |[],s,x,h=> .inl h
 |e::l,s,x,h=>by
  simp only[List.foldl_cons] at h;rcases WR acc l _ x h with h|⟨bp,Bj,ab,U⟩
  ·split at h
   ·rename_i ab;simp only[Nat.testBit_or,asi,Nat.testBit_two_pow,decide_eq_true_eq] at h;rcases h with (h|h)|h
    ·exact .inl h
    ·exact .inr ⟨e,by simp,ab, .inl h.symm⟩
    ·exact .inr ⟨e,by simp,ab, .inr h⟩
   ·exact .inl h
  ·exact .inr ⟨bp,by simp[Bj],ab,U⟩
theorem V3 {ops:Array Oper}:∀(l pre:List Oper) (acc:Array Nat),ops.toList=pre++l->acc.size=pre.length->(∀i,i<acc.size->Good ops i (acc.getD i 0))->
  ∀i,Good ops i ((l.foldl q3 acc).getD i 0)
 |[],pre,acc,an,aq,aM=>by
  intro i;by_cases af:i<acc.size
  ·exact aM i af
  ·simp only[List.foldl_nil];intro x U;simp[atq,af] at U
 |o::l,pre,acc,an,aq,aM=>by
  simp only[List.foldl_cons];refine V3 l (pre++[o]) (q3 acc o) (by simp[an]) (by simp[q3,aq]) ?_;intro i af;by_cases h:i<acc.size
  ·have:(q3 acc o).getD i 0=acc.getD i 0:=by
    simp only[q3,atq,Array.size_push,h,atT h,dite_true];simp[Array.getElem_push,h]
   rw[this];exact aM i h
  ·have kC:i=acc.size:=by simp[q3] at af;omega
   subst kC;have aej:ops[acc.size]? =are o:=by rw[<-atx,an,aq];simp
   intro x U S ht aw;have ab:(q3 acc o).getD acc.size 0=o.after.foldl (fun s e=>if ata .any e then s|||2 ^ e.on|||acc.getD e.on 0 else s) 0:=by simp[q3,atq]
   rw[ab,<-auX] at U;rcases WR acc _ 0 x U with az|⟨e,he,ei,iD⟩
   ·simp at az
   ·have U3:=aw o aej e (by simpa using he) ei;rcases iD with rfl|iD
    ·exact U3
    ·by_cases aO:e.on<acc.size
     ·exact aM e.on aO x iD S ht fun o' jF bp Bj ch=>ht e.on o' U3 jF bp Bj ch
     ·simp[atq,aO] at iD
theorem Wj {ops:Array Oper} {i x:Nat} (h:eM (asa ops) i x=arf) {S:Nat->Prop} (ht:Hg ops S) (aw:∀o,ops[i]? =are o->∀e∈o.after,ata .any e=arf->S e.on):S x:=by
 have ab:asa ops=ops.toList.foldl q3 #[]:=by rw[show asa ops=ops.foldl q3 #[] from rfl,<-auX]
 have:=V3 (ops:=ops) ops.toList [] #[] (by simp) (by simp) (by intro i af;simp at af) i;rw[<-ab] at this;exact this x h S ht aw
theorem OJ {P:arl} {C:FuncId->Array arh->Mem->arh->Mem->Prop} {ops:List Oper} {B:Array Nat} {aY:Nat->Nat->arh} {ms:Nat->Mem} {vs:Nat->arh} {bH:Nat->Nat} (T:kv P C ops B 0 ops aY ms vs bH)
  (bI:oz C) (cp:∀o∈ops,∀x∈o.op.operands,kH x=arf) (az:WF (ms 0)) (ai:∀t,low (ms 0).next (aY 0 t)):∀i,i<=ops.length->WF (ms i)/\(∀t,low (ms i).next (aY i t))/\(∀n,n<i->(ms n).next<=(ms (n+1)).next/\low (ms (n+1)).next (vs n))
 |0,_=>⟨az,ai,fun n av=>by omega⟩
 |i+1,af=>by
  obtain ⟨h1,J,aj⟩:=OJ T bI cp az ai i (by omega);have ag:ops[i]? =are ops[i]:=by simp[show i<ops.length by omega]
  have ao:=T.run i ops[i] ag;have aK:=T.frame i ops[i] ag;simp only[arE] at ao aK;have hm:=cp ops[i] (by simp);have step:low (ms (i+1)).next (vs i)/\WF (ms (i+1))/\(ms i).next<=(ms (i+1)).next:=by
   rcases ao with ⟨_,_,aa,fm⟩|⟨_,_,an,fm⟩|⟨_,_,an,fm⟩|⟨_,_,gD,an,fm⟩|⟨_,_,an⟩
   ·rw[fm,aa];exact ⟨Cj,h1,ars _⟩
   ·rw[fm];exact wR (.pure an) h1 J bI hm
   ·rw[fm];exact wR (.read an) h1 J bI hm
   ·rw[fm];exact wR (.new an) h1 J bI hm
   ·exact wR (.ev an) h1 J bI hm
  refine ⟨step.2.1, ?_, ?_⟩
  ·rw[aK];exact CV (fun t=>Gy step.2.2 (J t)) step.1
  ·intro n av;by_cases aed:n=i
   ·subst aed;exact ⟨step.2.2,step.1⟩
   ·exact aj n (by omega)
theorem WJ {ms:Nat->Mem} {vs:Nat->arh} {k:Nat} (h:∀n,n<k->(ms n).next<=(ms (n+1)).next/\low (ms (n+1)).next (vs n)):∀b a,a<=b->b<=k->(ms a).next<=(ms b).next
 |0,a,h1,J=>by
  have:a=0:=by omega
  subst this;exact ars _
 |b+1,a,h1,J=>by
  by_cases e:a=b+1
  ·subst e;exact ars _
  ·exact arR (WJ h b a (by omega) (by omega)) (h b (by omega)).1
theorem NI {P:arl} {C:FuncId->Array arh->Mem->arh->Mem->Prop} {ops:List Oper} {B:Array Nat} {aY:Nat->Nat->arh} {ms:Nat->Mem} {vs:Nat->arh} {bH:Nat->Nat} (T:kv P C ops B 0 ops aY ms vs bH) (t:Nat):
  ∀i,i<=ops.length->((∃x o,x<i/\ops[x]? =are o/\o.dst=are t/\aY i t=vs x/\∀y p,x<y->y<i->ops[y]? =are p->p.dst≠are t)\/
   ((∀x o,x<i->ops[x]? =are o->o.dst≠are t)/\aY i t=aY 0 t))
 |0,_=> .inr ⟨fun x o U=>by omega,rfl⟩
 |i+1,af=>by
  have ag:ops[i]? =are ops[i]:=by simp[show i<ops.length by omega]
  have aK:=T.frame i ops[i] ag;simp only[arE] at aK;by_cases aw:ops[i].dst=are t
  ·left;refine ⟨i,ops[i],by omega,ag,aw, ?_,fun y p h1 J=>by omega⟩;rw[aK,aw];simp[set]
  ·have he:aY (i+1) t=aY i t:=by
    rw[aK];cases jV:ops[i].dst with
    |none=>rfl
    |some d=>
     have:t≠d:=by intro h;subst h;exact aw jV
     simp[set,this]
   rcases NI T t i (by omega) with ⟨x,o,h1,J,aj,aJ,bk⟩|⟨h1,J⟩
   ·left;refine ⟨x,o,by omega,J,aj,by rw[he];exact aJ,fun y p afa BR an=> ?_⟩;by_cases BS:y=i
    ·subst BS;rw[ag] at an;cases an;exact aw
    ·exact bk y p afa (by omega) an
   ·right;refine ⟨fun x o U an=> ?_,by rw[he];exact J⟩;by_cases BS:x=i
    ·subst BS;rw[ag] at an;cases an;exact aw
    ·exact h1 x o (by omega) an
theorem Gj {P:arl} {C:FuncId->Array arh->Mem->arh->Mem->Prop} {ops:List Oper} {B:Array Nat} {aY:Nat->Nat->arh} {ms:Nat->Mem} {vs:Nat->arh} {bH:Nat->Nat} (T:kv P C ops B 0 ops aY ms vs bH) {s:Nat}:
  ∀z,s<=z->z<=ops.length->(∀e,s<=e->e<z->bH e≠4)->(∀b,b<(ms s).next->(ms z).ay b=(ms s).ay b)/\
   (∀x,s<=x->x<z->bH x=3->∀o gD,ops[x]? =are o->ms (x+1)=(ms x).push gD->(ms z).ay (ms x).next=gD)/\(∀x,s<=x->x<z->(ms x).next<=(ms z).next/\(bH x=3->(ms x).next<(ms z).next))
 |z,bu,aD,bL=>by
  induction z with
  |zero=>
   have:s=0:=by omega
   subst this;exact ⟨fun _ _=>rfl,fun x h1 J=>by omega,fun x h1 J=>by omega⟩
  |succ z aU=>
   by_cases aq:s=z+1
   ·subst aq;exact ⟨fun _ _=>rfl,fun x h1 J=>by omega,fun x h1 J=>by omega⟩
   ·obtain ⟨h1,J,aj⟩:=aU (by omega) (by omega) (fun e rU aqm=>bL e rU (by omega));have ag:ops[z]? =are ops[z]:=by simp[show z<ops.length by omega]
    have ao:=T.run z ops[z] ag;simp only[arE] at ao;have ME:(ms s).next<=(ms z).next:=by
     by_cases e:s=z
     ·subst e;exact ars _
     ·exact (aj s (ars _) (by omega)).1
    have same:ms (z+1)=ms z->bH z≠3->(∀b,b<(ms s).next->(ms (z+1)).ay b=(ms s).ay b)/\(∀x,s<=x->x<z+1->bH x=3->∀o gD,ops[x]? =are o->ms (x+1)=(ms x).push gD->(ms (z+1)).ay (ms x).next=gD)/\(∀x,s<=x->x<z+1->(ms x).next<=(ms (z+1)).next/\(bH x=3->(ms x).next<(ms (z+1)).next)):=fun he hk=>⟨fun b ab=>by rw[he];exact h1 b ab,
     fun x tZ v7 hX o gD jG hm=>by
      by_cases e:x=z
      ·subst e;exact absurd hX hk
      ·rw[he];exact J x tZ (by omega) hX o gD jG hm,
     fun x tZ v7=>by
      rw[he];by_cases e:x=z
      ·subst e;exact ⟨ars _,fun hX=>absurd hX hk⟩
      ·exact aj x tZ (by omega)⟩
    rcases ao with ⟨hk,_,aa,fm⟩|⟨hk,_,an,fm⟩|⟨hk,_,an,fm⟩|⟨hk,_,gD,an,fm⟩|⟨hk,_,an⟩
    ·exact same fm (by omega)
    ·exact same fm (by omega)
    ·exact same fm (by omega)
    ·refine ⟨fun b ab=> ?_,fun x tZ v7 hX o x4 jG hm=> ?_,fun x tZ v7=> ?_⟩
     ·rw[fm,<-h1 b ab];simp only[Mem.push];rw[if_neg (by omega)]
     ·by_cases e:x=z
      ·subst e;rw[hm];simp[Mem.push]
      ·have aO:=(aj x tZ (by omega)).2 hX;rw[fm,<-J x tZ (by omega) hX o x4 jG hm];simp only[Mem.push];rw[if_neg (by omega)]
     ·by_cases e:x=z
      ·subst e;rw[fm];simp[Mem.push]
      ·have:=aj x tZ (by omega);rw[fm];simp only[Mem.push];exact ⟨by omega,fun hX=>by have:=this.2 hX;omega⟩
    ·exact absurd hk (bL z (by omega) (by omega))
end Go.aQ
end
section
namespace Go.aQ
theorem Rel.place {P:arl} {j:bb} {M:Mem} {w w':World} {cM:Nat} {X:aV} {e:iL} {ob:Obj} (h:Rel P j M w) (av:j cM=ari) (ab:cM<M.next) (N:AF P j w w' X e ob):
  Rel P (j.up cM e) (M.put cM X) w':=by
 have hle:=bb.xF (e:=e) av;have hold:∀c,c<w.heap.size->w'.heap[c]? =w.heap[c]? :=fun c ad=>by rw[N.heap,auF,if_neg (by omega)]
 have qN:w'.heap.size=w.heap.size+1:=by rw[N.heap];simp
 have iC:w'.heap[w.heap.size]? =are ob:=by rw[N.heap];simp
 have hblk:∀b,b≠cM->(M.put cM X).ay b=M.ay b:=fun b ab=>by simp[Mem.put,ab]
 have aez:(M.put cM X).ay cM=X:=by simp[Mem.put]
 have eU:∀b x,j.up cM e b=are x->b≠cM->j b=are x:=fun b x ab bL=>by simpa[bb.up,bL] using ab
 have o3:∀x,j.up cM e cM=are x->x=e:=fun x U=>by simpa[bb.up] using U.symm
 refine ⟨⟨?_, ?_, ?_⟩,h.iI.val.keep fun g aM=>hold g (h.iI.val.lt aM),fun b x ch ag aM=> ?_⟩
 rotate_right
 ·by_cases ei:b=cM
  ·subst ei;have:=h.iI.val.lt aM;rw[o3 x ch,N.ay] at this;omega
  ·rw[hblk b ei] at ag;exact h.iI.sep b x (eU b x ch ei) ag aM
 ·intro b x ch;by_cases ei:b=cM
  ·subst ei;have:=o3 x ch;subst this;exact ⟨ab,by rw[N.ay];omega⟩
  ·have:=h.lt b x (eU b x ch ei);exact ⟨this.1,by omega⟩
 ·intro b x ch;by_cases ei:b=cM
  ·subst ei;have U:=o3 x ch;subst U;rw[aez,N.ay,iC];exact N.obj.mono hle
  ·have l1:=eU b x ch ei;rw[hblk b ei,hold _ (h.lt b x l1).2];exact (h.obj b x l1).mono hle
 ·intro b bV x gY my LO ag eP mE;by_cases ei:b=cM
  ·by_cases kz:bV=cM
   ·rw[ei,kz]
   ·have U:x=e:=by subst ei;exact o3 x my
    have:=(h.lt bV gY (eU bV gY LO kz)).2;rw[<-mE,U,N.ay] at this;omega
  ·have l1:=eU b x my ei;by_cases kz:bV=cM
   ·have U:gY=e:=by subst kz;exact o3 gY LO
    have:=(h.lt b x l1).2;rw[mE,U,N.ay] at this;omega
   ·rw[hblk b ei] at ag;rw[hblk bV kz] at eP;exact h.inj b bV x gY l1 (eU bV gY LO kz) ag eP mE
theorem af5 {P:arl} {j:bb} {n:Nat} {vt:arn} {cs:List arh} {aS:arh} (h:eg j (cN (cB P vt) cs) aS) (ai:∀c∈cs,gC n c):eg (j.below n) (cN (cB P vt) cs) aS:=by
 refine wA.2.1 h ?_;cases ar:cB P vt with
 |true=>simpa[cN,gW] using ai
 |false=>
  cases cs with
  |nil=>rw[ar] at h;exact absurd h (by simp[cN,eg,dr,undef])
  |cons c cs=>exact GU (ai c (by simp))
theorem nT.below {P:arl} {j:bb} {n:Nat} {e:iL} {o:Option Obj} {x:aV} (h:nT P j e o x) (ai:qT n x):nT P (j.below n) e o x:=by
 cases x with
 |dead=>trivial
 |ro rd=>intro i v af;obtain ⟨cs,t,a6,aS,h1,J,aj⟩:=h i v af;exact ⟨cs,t,a6,aS,h1,J,wA.1 aj (ai i v af)⟩
 |own L t=>obtain ⟨cs,a6,h1,J,aj,aJ,bk,dn⟩:=h;refine ⟨cs,a6,h1,J,aj,aJ,bk,fun i v af=> ?_⟩;obtain ⟨aS,g1,g2⟩:=dn i v af;exact ⟨aS,g1,wA.1 g2 (ai v (arI af))⟩
 |lock _ _ _ _=>exact h.elim
 |map L u=>
  obtain ⟨kt,vt,cs,clock,E,h1,J,aj,aJ,bk⟩:=h;have aP:∀p∈E,∀c∈p.2,gC n c:=fun p an c ad=>ai c (by rw[aj.eq];exact as0.2 ⟨p,an,by simp[ad]⟩);refine ⟨kt,vt,cs,clock,E,h1,J,aj, ?_,bk⟩;clear h1 aj ai bk;generalize cs.toList=cl at aJ;induction E generalizing cl with
  |nil=>cases cl with
   |nil=>trivial
   |cons _ _=>exact aJ.elim
  |cons p E aU=>
   cases cl with
   |nil=>exact aJ.elim
   |cons x cl=>exact ⟨⟨aJ.1.1,aJ.1.2.1,af5 aJ.1.2.2 (aP p (by simp))⟩,aU (fun q aF=>aP q (by simp[aF])) cl aJ.2⟩
theorem Rel.below {P:arl} {j:bb} {M m:Mem} {w:World} (h:Rel P j M w) (cn:WF m) (ar:∀b e,j b=are e->b<m.next->M.ay b=m.ay b):Rel P (j.below m.next) m w:=by
 refine ⟨⟨?_, ?_, ?_⟩,h.iI.val,fun b e ab ag=>by obtain ⟨h1,J⟩:=oy ab;exact h.iI.sep b e J (by rw[ar b e J h1];exact ag)⟩
 ·intro b e ab;obtain ⟨h1,J⟩:=oy ab;exact ⟨h1,(h.lt b e J).2⟩
 ·intro b e ab;obtain ⟨h1,J⟩:=oy ab;rw[<-ar b e J h1];exact (h.obj b e J).below (by rw[ar b e J h1];exact cn.low b)
 ·intro b bV e bp ab ch ag ai lo;obtain ⟨h1,J⟩:=oy ab;obtain ⟨jk,gg⟩:=oy ch;exact h.inj b bV e bp J gg (by rw[ar b e J h1];exact ag) (by rw[ar bV bp gg jk];exact ai) lo
def bb.join (fF:bb) (n:Nat) (j:bb):bb:=fun b=>if b<n then fF b else j b
def Mem.join (m1:Mem) (M:Mem):Mem:={next:=M.next,ay:=fun b=>if b<m1.next then m1.ay b else M.ay b}
theorem Rel.join {P:arl} {j fF:bb} {M m m1:Mem} {w w':World} (h:Rel P j M w) (ar:∀b e,j b=are e->b<m.next->M.ay b=m.ay b) (p:Post P (j.below m.next) m w fF m1 w')
  (aM:∀b e,j b=are e->b<m.next\/m1.next<=b) (Ff:m1.next<=M.next):
  Rel P (fF.join m1.next j) (m1.join M) w'/\(∀b e,j b=are e->fF.join m1.next j b=are e)/\(∀b e,fF b=are e->fF.join m1.next j b=are e):=by
 have av:=p.next;have Ab:∀b e,fF b=are e->fF.join m1.next j b=are e:=fun b e ab=>by have:=(p.rel.lt b e ab).1;simp[bb.join,this,ab]
 have Vk:∀b,b<m.next->fF b=j b:=fun b ab=>by rw[p.ext b ab];simp[bb.below,ab]
 have up:∀b e,j b=are e->fF.join m1.next j b=are e:=fun b e ab=>by
  rcases aM b e ab with h1|h1
  ·simp[bb.join,show b<m1.next by omega,Vk b h1,ab]
  ·simp[bb.join,show ¬b<m1.next by omega,ab]
 have split:∀b e,fF.join m1.next j b=are e->(b<m1.next/\fF b=are e)\/(m1.next<=b/\j b=are e):=fun b e ab=>by
  unfold bb.join at ab;split at ab
  ·exact .inl ⟨‹_›,ab⟩
  ·exact .inr ⟨by omega,ab⟩
 have yb:∀b,b<m1.next->(m1.join M).ay b=m1.ay b:=fun b ab=>by simp[Mem.join,ab]
 have yc:∀b,m1.next<=b->(m1.join M).ay b=M.ay b:=fun b ab=>by simp[Mem.join,show ¬b<m1.next by omega]
 have A0:∀b e,j b=are e->m1.next<=b->(M.ay b).live=arf->w'.heap[e.ay]? =w.heap[e.ay]? :=fun b e ab eT ai=>by refine p.dA.block e.ay (h.lt b e ab).2 fun cM cH iz ag he=> ?_;obtain ⟨h1,J⟩:=oy iz;have:=h.inj cM b cH e J ab (by rw[ar cM cH J h1];exact ag) ai he;omega
 refine ⟨⟨⟨?_, ?_, ?_⟩,p.rel.iI.val,fun b e ab ag=> ?_⟩,up,Ab⟩
 rotate_right
 ·rcases split b e ab with ⟨h1,J⟩|⟨h1,J⟩
  ·rw[yb b h1] at ag;exact p.rel.iI.sep b e J ag
  ·rw[yc b h1] at ag;exact h.iI.sep b e J ag
 ·intro b e ab;rcases split b e ab with ⟨h1,J⟩|⟨h1,J⟩
  ·exact ⟨by simp only[Mem.join];omega,(p.rel.lt b e J).2⟩
  ·have:=h.lt b e J;exact ⟨this.1,arT this.2 p.dA.size⟩
 ·intro b e ab;rcases split b e ab with ⟨h1,J⟩|⟨h1,J⟩
  ·rw[yb b h1];exact (p.rel.obj b e J).mono Ab
  ·rw[yc b h1];cases ai:(M.ay b).live with
   |false=>
    cases ab:M.ay b<;>simp[ab,aV.live] at ai
    trivial
   |true=>rw[A0 b e J h1 ai];exact (h.obj b e J).mono up
 ·
  have TM:∀b bV e bp,b<m1.next->fF b=are e->m1.next<=bV->j bV=are bp->(M.ay bV).live=arf->(((m1.ay b).gj=arf)\/((M.ay bV).gj=arf/\(m1.ay b).live=arf))->e.ay≠bp.ay:=by
   intro b bV e bp h1 J jk gg eP Ms lo;rcases ar' b m.next with aO|eT
   ·have l1:j b=are e:=by rw[<-Vk b aO];exact J
    have Bg:b=bV:=by
     rcases Ms with ag|⟨jF,ai⟩
     ·exact h.inj b bV e bp l1 gg (by rw[ar b e l1 aO];exact p.cK b aO ag) eP lo
     ·exact (h.inj bV b bp e gg l1 jF (by rw[ar b e l1 aO];exact p.alive b aO ai) lo.symm).symm
    omega
   ·rcases p.fresh b e J eT with aK|⟨cM,cH,iz,qJ,Bk⟩
    ·have:=(h.lt bV bp gg).2;omega
    ·obtain ⟨g1,g2⟩:=oy iz;have:=h.inj cM bV cH bp g2 gg (by rw[ar cM cH g2 g1];exact qJ) eP (by rw[Bk,lo]);omega
  intro b bV e bp ab ch ag ai lo;rcases split b e ab with ⟨h1,J⟩|⟨h1,J⟩<;>rcases split bV bp ch with ⟨jk,gg⟩|⟨jk,gg⟩
  ·rw[yb b h1] at ag;rw[yb bV jk] at ai;exact p.rel.inj b bV e bp J gg ag ai lo
  ·rw[yb b h1] at ag;rw[yc bV jk] at ai;exact absurd lo (TM b bV e bp h1 J jk gg ai (.inl ag))
  ·rw[yc b h1] at ag;rw[yb bV jk] at ai;have kD:(M.ay b).live=arf:=by cases hm:M.ay b<;>simp[hm,aV.gj,aV.live] at*
   exact absurd lo.symm (TM bV b bp e jk gg h1 J kD (.inr ⟨ag,ai⟩))
  ·rw[yc b h1] at ag;rw[yc bV jk] at ai;exact h.inj b bV e bp J gg ag ai lo
end Go.aQ
end
section
namespace Go.aQ
structure Ctx (P:arl) (C:FuncId->Array arh->Mem->arh->Mem->Prop) (ops:Array Oper) (N:Nat) (aY:Nat->Nat->arh) (ms:Nat->Mem) (vs:Nat->arh) (bH:Nat->Nat) (dZ:bb) (cW:World):Prop where
 T:kv P C ops.toList (asa ops) 0 ops.toList aY ms vs bH
 ok:uE ops=arf
 F3:∀o∈ops.toList,∀x∈o.op.operands,kH x=arf
 dst:∀o∈ops.toList,∀d,o.dst=are d->d<N
 keeps:oz C
 sound:wX P C
 db:Rel P dZ (ms 0) cW
 u4:WF (ms 0)
 gC:∀t,low (ms 0).next (aY 0 t)
structure ga (P:arl) (ops:Array Oper) (ds:List Deferred) (N:Nat) (aY:Nat->Nat->arh) (ms:Nat->Mem) (vs:Nat->arh) (bH:Nat->Nat) (dZ:bb) (cW:World) (listed:Array Bool) (a:Act) (w:World) (s:Nat) (M:Mem) (j:bb):Prop where
 size:listed.size=ops.size
 closed:Hg ops (fun i=>listed.getD i arj=arf)
 sle:s<=ops.size
 last:s=0\/bH (s - 1)=4
 e6:∀i,i<ops.size->bH i=4->(listed.getD i arj=arf↔i<s)
 rel:Rel P j M w
 AR:M.next=(ms ops.size).next
 agree:∀b,b<(ms s).next->M.ay b=(ms s).ay b
 EG:∀b e,j b=are e->b<(ms s).next\/∃i,s<=i/\i<ops.size/\listed.getD i arj=arf/\bH i=3/\b=(ms i).next
 xE:∀i,i<ops.size->bH i=3->listed.getD i arj=arj->j (ms i).next=ari
 ES:∀i,s<=i->i<ops.size->listed.getD i arj=arf->bH i=3->∀gD,ms (i+1)=(ms i).push gD->M.ay (ms i).next=gD
 defers:a.defers=ds
 tmps:a.tmps.size=N
 cur:∀t,(∃i o,ops[i]? =are o/\listed.getD i arj=arf/\o.dst=are t/\(∀x p,i<x->ops[x]? =are p->listed.getD x arj=arf->p.dst≠are t)/\bU j (vs i) (a.tmps.getD t undef))\/
  ((∀x p,ops[x]? =are p->listed.getD x arj=arf->p.dst≠are t)/\bU j (aY 0 t) (a.tmps.getD t undef))
 dA:rv dZ (ms 0) cW w
 ext:∀b,b<(ms 0).next->j b=dZ b
 fresh:∀b e,j b=are e->(ms 0).next<=b->cW.heap.size<=e.ay\/∃cM cH,dZ cM=are cH/\((ms 0).ay cM).gj=arf/\cH.ay=e.ay
 cK:∀b,b<(ms 0).next->(M.ay b).gj=arf->((ms 0).ay b).gj=arf
 alive:∀b,b<(ms 0).next->(M.ay b).live=arf->((ms 0).ay b).live=arf
section
variable {P:arl} {C:FuncId->Array arh->Mem->arh->Mem->Prop} {ops:Array Oper} {N:Nat} {aY:Nat->Nat->arh} {ms:Nat->Mem} {vs:Nat->arh} {bH:Nat->Nat} {dZ:bb} {cW:World}
theorem Ctx.wf (X:Ctx P C ops N aY ms vs bH dZ cW):∀i,i<=ops.size->WF (ms i)/\(∀t,low (ms i).next (aY i t)):=fun i af=>by
 have:=OJ X.T X.keeps X.F3 X.u4 X.gC i (by simpa using af);exact ⟨this.1,this.2.1⟩
theorem Ctx.mono (X:Ctx P C ops N aY ms vs bH dZ cW):∀a b,a<=b->b<=ops.size->(ms a).next<=(ms b).next:=fun a b h1 J=>by
 have:=OJ X.T X.keeps X.F3 X.u4 X.gC ops.size (by simp);exact WJ this.2.2 b a h1 J
theorem Ctx.run (X:Ctx P C ops N aY ms vs bH dZ cW) {i:Nat} {o:Oper} (ag:ops[i]? =are o):PI P C ops.toList o (aY i) (ms i) (vs i) (ms (i+1)) (bH i):=by
 have:=X.T.run i o (by simpa using ag);simpa using this
theorem Ctx.new (X:Ctx P C ops N aY ms vs bH dZ cW) {i:Nat} (af:i<ops.size) (hk:bH i=3):∃o gD,ops[i]? =are o/\hI P (aL (aY i)) o (ms i).next gD (vs i)/\ms (i+1)=(ms i).push gD:=by
 have ag:ops[i]? =are ops[i]:=by simp[af]
 rcases X.run ag with ⟨hX,_⟩|⟨hX,_⟩|⟨hX,_⟩|⟨_,_,gD,an,hm⟩|⟨hX,_⟩
 ·omega
 ·omega
 ·omega
 ·exact ⟨_,gD,ag,an,hm⟩
 ·omega
theorem Ctx.B2 (X:Ctx P C ops N aY ms vs bH dZ cW) {i:Nat} (af:i<ops.size) (hk:bH i=3):(ms i).next<(ms (i+1)).next:=by
 obtain ⟨o,gD,_,_,hm⟩:=X.new af hk;rw[hm];simp[Mem.push]
theorem N0 {ae:arm->arh} {o:Oper} {m m':Mem} {v:arh} (h:fM P C ae o m v m'):iH o.op=arf:=by
 cases h with
 |call f args v m' h bI=>obtain ⟨x,as,ts,first,captured,h,_⟩:=h;simp[h,iH]
 |mapUpdate eE x fG fb u kt vt b L bX vc E E' gp h=>rcases h with h|h<;>simp[h,iH]
 |_=>rename_i h _ _ _ _ _;first|simp[*,iH]|skip
 all_goals simp[*,iH]
theorem Ctx.Vf (X:Ctx P C ops N aY ms vs bH dZ cW) {i:Nat} {o:Oper} (ag:ops[i]? =are o) (hk:bH i=4):iH o.op=arf:=by
 rcases X.run ag with ⟨hX,_⟩|⟨hX,_⟩|⟨hX,_⟩|⟨hX,_⟩|⟨_,_,an⟩
 ·omega
 ·omega
 ·omega
 ·omega
 ·exact N0 an
variable {ds:List Deferred} {listed:Array Bool} {a:Act} {w:World} {s:Nat} {M:Mem} {j:bb}
theorem ga.JU (X:Ctx P C ops N aY ms vs bH dZ cW) (D:ga P ops ds N aY ms vs bH dZ cW listed a w s M j) {z:Nat} (bu:s<=z) (aD:z<=ops.size) (bL:∀e,s<=e->e<z->bH e≠4):
  ∀b e,j b=are e->b<(ms z).next->M.ay b=(ms z).ay b:=by
 obtain ⟨g1,g2,g3⟩:=Gj X.T z bu (by simpa using aD) bL;intro b e ab aO;rcases ar' b (ms s).next with h|h
 ·rw[D.agree b h,g1 b h]
 ·rcases D.EG b e ab with bq|⟨i,h1,J,aj,aJ,rfl⟩
  ·omega
  ·have adO:i<z:=by
    rcases ar' i z with h|h
    ·exact h
    ·have:=X.mono z i h (by omega);omega
   obtain ⟨o,gD,ag,_,hm⟩:=X.new J aJ;rw[D.ES i h1 J aj aJ gD hm,g2 i h1 adO aJ o gD (by simpa using ag) hm]
theorem ga.mT (X:Ctx P C ops N aY ms vs bH dZ cW) (D:ga P ops ds N aY ms vs bH dZ cW listed a w s M j) {z:Nat} (bu:s<=z) (aD:z<=ops.size) (bL:∀e,s<=e->e<z->bH e≠4):tq P j (ms z) w:=by
 have c9:=D.JU X bu aD bL;have cn:=(X.wf z aD).1;have ao:=D.rel.mT;refine ⟨fun b e o v ab aa=> ?_,fun b e L t ab ai=> ?_,fun b e L u ab ai=> ?_⟩
 ·have aO:b<(ms z).next:=cn.lt (by intro aw;simp[Mem.load,aw] at aa);refine ao.load b e o v ab ?_;unfold Mem.load at aa⊢;rw[c9 b e ab aO];exact aa
 ·have aO:b<(ms z).next:=cn.lt (by rw[ai];simp);exact ao.own b e L t ab (by rw[c9 b e ab aO];exact ai)
 ·have aO:b<(ms z).next:=cn.lt (by rw[ai];simp);exact ao.map b e L u ab (by rw[c9 b e ab aO];exact ai)
structure lR (ops:Array Oper) (listed:Array Bool) (i:Nat) (o:Oper):Prop where
 at_:ops[i]? =are o
 not:listed.getD i arj=arj
 TQ:∀e∈o.after,ata .any e=arf->listed.getD e.on arj=arf
theorem lR.eM (D:ga P ops ds N aY ms vs bH dZ cW listed a w s M j) {i:Nat} {o:Oper} (R:lR ops listed i o) {x:Nat} (h:aQ.eM (asa ops) i x=arf):listed.getD x arj=arf:=
 Wj h D.closed fun o' jF=>by rw[R.at_] at jF;cases jF;exact R.TQ
theorem ga.JV (D:ga P ops ds N aY ms vs bH dZ cW listed a w s M j) {i x:Nat} (af:listed.getD i arj=arf) (h:aQ.eM (asa ops) i x=arf):listed.getD x arj=arf:=
 Wj h D.closed fun o' jF=>D.closed i o' af jF
theorem lR.aaI (X:Ctx P C ops N aY ms vs bH dZ cW) (D:ga P ops ds N aY ms vs bH dZ cW listed a w s M j) {i:Nat} {o:Oper} (R:lR ops listed i o) {t:Nat} (ak:t∈uy ops o) {x:Nat} {p:Oper} (an:ops[x]? =are p) (aw:p.dst=are t):
  (listed.getD x arj=arf↔x<i)\/x=i:=by
 rcases as1 x i with h|h|h
 ·left;refine ⟨fun _=>h,fun _=> ?_⟩;refine R.eM D (NB X.ok R.at_ an h ?_);simp[rL,aw,ak]
 ·exact .inr h
 ·left;refine ⟨fun ai=> ?_,fun bq=>by omega⟩;have:listed.getD i arj=arf:=D.JV ai (NB X.ok an R.at_ h (by simp[rL,aw,ak]));rw[R.not] at this;cases this
theorem ga.slot (X:Ctx P C ops N aY ms vs bH dZ cW) (D:ga P ops ds N aY ms vs bH dZ cW listed a w s M j) {i:Nat} {o:Oper} (R:lR ops listed i o) {t:Nat} (ak:t∈uy ops o):bU j (aY i t) (a.tmps.getD t undef):=by
 have af:i<ops.size:=(ar6.1 R.at_).1;have hw:=fun {x:Nat} {p:Oper} (an:ops[x]? =are p) (aw:p.dst=are t)=>R.aaI X D ak an aw;have o3:∀{x:Nat},x=i->listed.getD x arj=arf->False:=fun U ai=>by subst U;rw[R.not] at ai;cases ai
 rcases NI X.T t i (by simpa using asd af) with ⟨x,p,h1,J,aj,aJ,bk⟩|⟨h1,J⟩
 ·have gg:ops[x]? =are p:=by simpa using J
  have tO:listed.getD x arj=arf:=by
   rcases hw gg aj with h|h
   ·exact h.2 h1
   ·omega
  rcases D.cur t with ⟨y,q,g1,g2,g3,g4,g5⟩|⟨g1,_⟩
  ·have BS:y<i:=by
    rcases hw g1 g3 with h|h
    ·exact h.1 g2
    ·exact (o3 h g2).elim
   have:y=x:=by
    rcases as1 y x with h|h|h
    ·exact absurd aj (g4 x p h gg tO)
    ·exact h
    ·exact absurd g3 (bk y q h BS (by simpa using g1))
   subst this;rw[aJ];exact g5
  ·exact absurd aj (g1 x p gg tO)
 ·rcases D.cur t with ⟨y,q,g1,g2,g3,g4,g5⟩|⟨_,g2⟩
  ·rcases hw g1 g3 with h|h
   ·exact absurd g3 (h1 y q (h.1 g2) (by simpa using g1))
   ·exact (o3 h g2).elim
  ·rw[J];exact g2
theorem Pj {fr:Nat->arh} {a:Act} {j:bb} {x:arm} (U:kH x=arf) (h:∀t,x= .tmp t->bU j (fr t) (a.tmps.getD t undef)):bU j (aL fr x) (a.eval x):=by
 cases x with
 |tmp t=>exact h t rfl
 |const v=>exact zg U
 |global g=>simp[kH] at U
 |func f=>exact ⟨#[],#[],rfl,arH,arH⟩
theorem ga.afQ (X:Ctx P C ops N aY ms vs bH dZ cW) (D:ga P ops ds N aY ms vs bH dZ cW listed a w s M j) {i:Nat} {o:Oper} (R:lR ops listed i o):gy j (aL (aY i)) a.eval o:=by
 intro x U;have hm:o∈ops.toList:=by have:=aty R.at_;simpa using this
 refine Pj (X.F3 o hm x U) fun t ak=>D.slot X R ?_;subst ak;simp only[uy,arO,List.mem_filterMap];exact .inl (.inl ⟨.tmp t,by simpa using U,rfl⟩)
theorem Wh {j:bb} {v aS:arh} (h:bU j v aS) (ab:∀b,v≠ .bool b):∀b,aS≠ .bool b:=by
 intro b fl;subst fl;cases v with
 |bool bV=>exact ab bV rfl
 |pointer q=>cases q with
  |none=>cases h
  |some q=>obtain ⟨e,_,_,h⟩:=h;cases h
 |slice q l c=>cases q with
  |none=>cases h
  |some q=>obtain ⟨e,_,_,h⟩:=h;rcases h with ⟨_,h⟩|⟨_,_,_,_,_,_,h⟩|⟨_,_,_,h⟩|⟨_,_,_,h⟩|⟨_,_,_,_,_,_,_,_,_,h⟩<;>cases h
 |map r=>cases r with
  |none=>cases h
  |some r=>obtain ⟨e,_,h⟩:=h;cases h
 |agg cs=>obtain ⟨ds,h,_⟩:=h;cases h
 |tuple cs=>obtain ⟨ds,h,_⟩:=h;cases h
 |func fn f c=>obtain ⟨ds,es,h,_⟩:=h;cases h
 |chan _=>exact h b rfl
 |iface _ _=>exact h
 |_=>cases h
theorem W9 {ops:Array Oper} {N:Nat} {fr:Nat->arh} {a:Act} {j:bb} {o:Oper} (bG:a.tmps.size=N) (qD:∀p∈ops.toList,∀d,p.dst=are d->d<N) (h:∀g w d,o.guard=are (g,w)->(ops[g]?).bind (·.dst)=are d->bU j (fr d) (a.tmps.getD d undef)):
  asT o (yielded ops a.tmps)=wanted ops.toList fr o:=by
 unfold asT wanted;cases aM:o.guard with
 |none=>rfl
 |some acx=>
  obtain ⟨g,want⟩:=acx;simp only[yielded,atx];cases aw:(ops[g]?).bind (·.dst) with
  |none=>simp
  |some d=>
   have aa:=h g want d aM aw;have aO:d<a.tmps.size:=by
    rw[bG];cases an:ops[g]? with
    |none=>simp[an] at aw
    |some p=>simp[an] at aw;exact qD p (by have:=aty an;simpa using this) d aw
   have Fk:a.tmps[d]? =are (a.tmps.getD d undef):=by simp[atq,aO]
   simp only[auW,Fk];by_cases ab:∃b,fr d= .bool b
   ·obtain ⟨b,ab⟩:=ab;rw[ab] at aa;rw[ab,aa.bool];simp
   ·have ch:∀b,fr d≠ .bool b:=fun b h=>ab ⟨b,h⟩;have ad:=Wh aa ch;cases adC:fr d<;>first|exact absurd adC (ch _)|(cases tI:a.tmps.getD d undef<;>first|exact absurd tI (ad _)|rfl)
theorem ga.wanted (X:Ctx P C ops N aY ms vs bH dZ cW) (D:ga P ops ds N aY ms vs bH dZ cW listed a w s M j) {i:Nat} {o:Oper} (R:lR ops listed i o):asT o (yielded ops a.tmps)=aQ.wanted ops.toList (aY i) o:=by
 refine W9 D.tmps X.dst fun g aq8 d aM aw=>D.slot X R ?_;simp only[uy,arO,aM,aw];exact .inl (.inr (by simp))
end
end Go.aQ
end
section
namespace Go.aQ
theorem ko {A:Array Bool} {i x:Nat} (af:i<A.size):((A.setIfInBounds i arf).getD x arj=arf)↔(x=i\/A.getD x arj=arf):=by
 simp only[atq,Array.size_setIfInBounds];by_cases U:x<A.size
 ·simp only[U,dite_true];by_cases v8:x=i
  ·subst v8;simp
  ·simp[avh,U,Ne.symm v8,v8]
 ·simp only[U,dite_false];constructor
  ·intro h;cases h
  ·rintro (h|h)
   ·omega
   ·cases h
theorem Gc {A:Array Bool} {i x:Nat} (af:i<A.size) (h:(A.setIfInBounds i arf).getD x arj=arj):x≠i/\A.getD x arj=arj:=by
 refine ⟨fun U=> ?_, ?_⟩
 ·have:=(ko (A:=A) (x:=x) af).2 (.inl U);rw[h] at this;cases this
 ·cases c9:A.getD x arj with
  |false=>rfl
  |true=>have:=(ko (A:=A) (x:=x) af).2 (.inr c9);rw[h] at this;cases this
theorem fP {a:Act} {d:Option Tmp} {v:arh}:(a.put d v).tmps.size=a.tmps.size/\(a.put d v).defers=a.defers:=by
 cases d<;>simp[as2]
theorem sr {a:Act} {d t:Nat} {v:arh} (aw:d<a.tmps.size):(a.put (are d) v).tmps.getD t undef=if t=d then v else a.tmps.getD t undef:=by
 simp only[as2,atq,Array.size_setIfInBounds];by_cases ak:t=d
 ·subst ak;simp[aw]
 ·by_cases aq:t<a.tmps.size
  ·simp[aq,avh,Ne.symm ak,ak]
  ·simp[aq,ak]
section
variable {P:arl} {C:FuncId->Array arh->Mem->arh->Mem->Prop} {ops:Array Oper} {N:Nat} {aY:Nat->Nat->arh} {ms:Nat->Mem} {vs:Nat->arh} {ds:List Deferred} {bH:Nat->Nat} {dZ:bb} {cW:World}
variable {listed:Array Bool} {a:Act} {w:World} {s:Nat} {M:Mem} {j:bb}
theorem lR.lt {i:Nat} {o:Oper} (R:lR ops listed i o):i<ops.size:=(ar6.1 R.at_).1
theorem ga.J7 (D:ga P ops ds N aY ms vs bH dZ cW listed a w s M j) {i:Nat} {o:Oper} (R:lR ops listed i o):Hg ops (fun x=>(listed.setIfInBounds i arf).getD x arj=arf):=by
 have af:i<listed.size:=by rw[D.size];exact R.lt
 intro x p U an e he ab;refine (ko af).2 (.inr ?_);rcases (ko af).1 U with rfl|U
 ·rw[R.at_] at an;cases an;exact R.TQ e he ab
 ·exact D.closed x p U an e he ab
theorem ga.Ka (X:Ctx P C ops N aY ms vs bH dZ cW) (D:ga P ops ds N aY ms vs bH dZ cW listed a w s M j) {i:Nat} {o:Oper} (R:lR ops listed i o) {bw:bb} (eU:∀b e,j b=are e->bw b=are e) {aS:arh} (aa:bU bw (vs i) aS):
  ∀t,(∃x p,ops[x]? =are p/\(listed.setIfInBounds i arf).getD x arj=arf/\p.dst=are t/\(∀y q,x<y->ops[y]? =are q->(listed.setIfInBounds i arf).getD y arj=arf->q.dst≠are t)/\bU bw (vs x) ((a.put o.dst aS).tmps.getD t undef))\/
  ((∀x p,ops[x]? =are p->(listed.setIfInBounds i arf).getD x arj=arf->p.dst≠are t)/\bU bw (aY 0 t) ((a.put o.dst aS).tmps.getD t undef)):=by
 have af:i<listed.size:=by rw[D.size];exact R.lt
 have jn:o∈ops.toList:=by have:=aty R.at_;simpa using this
 intro t;by_cases aw:o.dst=are t
 ·left;refine ⟨i,o,R.at_,(ko af).2 (.inl rfl),aw,fun y q ah aF ai vV=> ?_, ?_⟩
  ·rcases (ko af).1 ai with h|h
   ·omega
   ·have ak:t∈uy ops o:=by simp[uy,aw]
    rcases R.aaI X D ak aF vV with bq|bq
    ·have:=bq.1 h;omega
    ·omega
  ·have aO:t<a.tmps.size:=by rw[D.tmps];exact X.dst o jn t aw
   rw[aw,sr aO,if_pos rfl];exact aa
 ·have vW:(a.put o.dst aS).tmps.getD t undef=a.tmps.getD t undef:=by
   cases jV:o.dst with
   |none=>rfl
   |some d=>
    have aO:d<a.tmps.size:=by rw[D.tmps];exact X.dst o jn d jV
    have:t≠d:=by intro h;subst h;exact aw jV
    rw[sr aO,if_neg this]
  rw[vW];rcases D.cur t with ⟨x,p,g1,g2,g3,g4,g5⟩|⟨g1,g2⟩
  ·left;refine ⟨x,p,g1,(ko af).2 (.inr g2),g3,fun y q ah aF ai=> ?_,g5.mono eU⟩;rcases (ko af).1 ai with h|h
   ·subst h;rw[R.at_] at aF;cases aF;exact aw
   ·exact g4 y q ah aF h
  ·right;refine ⟨fun y q aF ai=> ?_,g2.mono eU⟩;rcases (ko af).1 ai with h|h
   ·subst h;rw[R.at_] at aF;cases aF;exact aw
   ·exact g1 y q aF h
theorem ga.quiet (X:Ctx P C ops N aY ms vs bH dZ cW) (D:ga P ops ds N aY ms vs bH dZ cW listed a w s M j) {i:Nat} {o:Oper} (R:lR ops listed i o) (Bv:bH i≠3) (Md:bH i≠4) {aS:arh} (aa:bU j (vs i) aS):
  ga P ops ds N aY ms vs bH dZ cW (listed.setIfInBounds i arf) (a.put o.dst aS) w s M j:=by
 have af:i<listed.size:=by rw[D.size];exact R.lt
 refine ⟨by simp[D.size],D.J7 R,D.sle,D.last, ?_,D.rel,D.AR,D.agree, ?_, ?_, ?_,by rw[fP.2];exact D.defers,by rw[fP.1];exact D.tmps,D.Ka X R (fun _ _ h=>h) aa,D.dA,D.ext,D.fresh,D.cK,D.alive⟩
 ·intro x U hk;rw[ko af,<-D.e6 x U hk];constructor
  ·rintro (h|h)
   ·subst h;exact absurd hk Md
   ·exact h
  ·exact .inr
 ·intro b e ab;rcases D.EG b e ab with h|⟨x,h1,J,aj,aJ,bk⟩
  ·exact .inl h
  ·exact .inr ⟨x,h1,J,(ko af).2 (.inr aj),aJ,bk⟩
 ·intro x U hk ai;exact D.xE x U hk (Gc af ai).2
 ·intro x h1 J aj aJ;rcases (ko af).1 aj with h|h
  ·subst h;exact absurd aJ Bv
  ·exact D.ES x h1 J h aJ
theorem ga.seen (X:Ctx P C ops N aY ms vs bH dZ cW) (D:ga P ops ds N aY ms vs bH dZ cW listed a w s M j) {i:Nat} {o:Oper} (R:lR ops listed i o) (hk:bH i=3) {gD:aV} (hm:ms (i+1)=(ms i).push gD):
  ∀n,i<n->n<=s->(ms n).ay (ms i).next=gD:=by
 intro n;induction n with
 |zero=>intro h;omega
 |succ n aU=>
  intro h1 J;have aq:=D.sle;by_cases hx:n=i
  ·subst hx;rw[hm];simp[Mem.push]
  ·have BG:=aU (by omega) (by omega);have av:n<ops.size:=by omega
   have ag:ops[n]? =are ops[n]:=by simp[av]
   have aO:(ms i).next<(ms n).next:=arT (X.B2 R.lt hk) (X.mono (i+1) n (by omega) (by omega));rcases X.run ag with ⟨_,_,_,fm⟩|⟨_,_,_,fm⟩|⟨_,_,_,fm⟩|⟨_,_,x4,_,fm⟩|⟨rW,_,an⟩
   ·rw[fm];exact BG
   ·rw[fm];exact BG
   ·rw[fm];exact BG
   ·rw[fm];simp only[Mem.push];rw[if_neg (by omega)];exact BG
   ·have UK:listed.getD n arj=arf:=(D.e6 n av rW).2 (by omega);have fV:eM (asa ops) n i=arj:=by
     cases c9:eM (asa ops) n i with
     |false=>rfl
     |true=>have:=D.JV UK c9;rw[R.not] at this;cases this
    have:=X.T.news i n (by simpa using R.lt) (by simpa using hk) (by simpa using av) (by simpa using rW) (by omega) (by simpa using fV);simp only[arE] at this;rw[this];exact BG
theorem ga.acj (X:Ctx P C ops N aY ms vs bH dZ cW) (D:ga P ops ds N aY ms vs bH dZ cW listed a w s M j) {i:Nat} {o:Oper} (R:lR ops listed i o) (hk:bH i=3) {gD:aV} (hm:ms (i+1)=(ms i).push gD)
  {w':World} {e:iL} {ob:Obj} (vj:AF P j w w' gD e ob) {aS:arh} (aa:bU (j.up (ms i).next e) (vs i) aS):
  ga P ops ds N aY ms vs bH dZ cW (listed.setIfInBounds i arf) (a.put o.dst aS) w' s (M.put (ms i).next gD) (j.up (ms i).next e):=by
 have af:i<listed.size:=by rw[D.size];exact R.lt
 have Ux:=D.xE i R.lt hk R.not;have hle:=bb.xF (e:=e) Ux;have aO:=X.B2 R.lt hk;have Ff:(ms i).next<M.next:=by rw[D.AR];exact arT aO (X.mono (i+1) ops.size R.lt (ars _))
 have az:(ms 0).next<=(ms i).next:=X.mono 0 i (ass _) (asd R.lt);have eU:∀b x,j.up (ms i).next e b=are x->b≠(ms i).next->j b=are x:=fun b x ab bL=>by simpa[bb.up,bL] using ab
 have hblk:∀b,b≠(ms i).next->(M.put (ms i).next gD).ay b=M.ay b:=fun b ab=>by simp[Mem.put,ab]
 have distinct:∀x,x<ops.size->bH x=3->x≠i->(ms x).next≠(ms i).next:=by
  intro x U jD bL he;rcases ar' x i with h|h
  ·have:=X.B2 U jD;have:=X.mono (x+1) i (by omega) (asd R.lt);omega
  ·have:=X.mono (i+1) x (by omega) (asd U);omega
 refine ⟨by simp[D.size],D.J7 R,D.sle,D.last, ?_,D.rel.place Ux Ff vj,D.AR, ?_, ?_, ?_, ?_,by rw[fP.2];exact D.defers,by rw[fP.1];exact D.tmps,D.Ka X R hle aa, ?_, ?_, ?_, ?_, ?_⟩
 ·intro x U jD;rw[ko af,<-D.e6 x U jD];constructor
  ·rintro (h|h)
   ·subst h;omega
   ·exact h
  ·exact .inr
 ·intro b ab;by_cases n2:b=(ms i).next
  ·subst n2;have Fm:i<s:=by
    rcases ar' i s with h|h
    ·exact h
    ·have:=X.mono s i h (asd R.lt);omega
   rw[D.seen X R hk hm s Fm (ars _)];simp[Mem.put]
  ·rw[hblk b n2];exact D.agree b ab
 ·intro b x ab;by_cases n2:b=(ms i).next
  ·subst n2;rcases ar' (ms i).next (ms s).next with h|h
   ·exact .inl h
   ·right;refine ⟨i, ?_,R.lt,(ko af).2 (.inl rfl),hk,rfl⟩;rcases ar' i s with bq|bq
    ·have:=X.mono (i+1) s bq D.sle;omega
    ·exact bq
  ·rcases D.EG b x (eU b x ab n2) with h|⟨y,h1,J,aj,aJ,bk⟩
   ·exact .inl h
   ·exact .inr ⟨y,h1,J,(ko af).2 (.inr aj),aJ,bk⟩
 ·intro x U jD ai;obtain ⟨h1,J⟩:=Gc af ai;have:=distinct x U jD h1;simp only[bb.up,this,if_false];exact D.xE x U jD J
 ·intro x h1 J aj aJ x4 fD;by_cases v8:x=i
  ·subst v8;have ac8:x4=gD:=by
    have aT:(ms (x+1)).ay (ms x).next=x4:=by rw[fD];simp[Mem.push]
    have e2:(ms (x+1)).ay (ms x).next=gD:=by rw[hm];simp[Mem.push]
    rw[<-aT,e2]
   rw[ac8];simp[Mem.put]
  ·rw[hblk _ (distinct x J aJ v8)];rcases (ko af).1 aj with h|h
   ·exact absurd h v8
   ·exact D.ES x h1 J h aJ x4 fD
 ·have hold:∀c,c<w.heap.size->w'.heap[c]? =w.heap[c]? :=fun c ad=>by rw[vj.heap,auF,if_neg (by omega)]
  exact ⟨vj.os.trans D.dA.os,vj.tape.trans D.dA.tape,vj.output.trans D.dA.output,by rw[vj.heap];simp;have:=D.dA.size;omega,fun c ad ax=>by
   rw[hold c (arT ad D.dA.size)];exact D.dA.block c ad ax⟩
 ·intro b ab;simp only[bb.up,show b≠(ms i).next by omega,if_false];exact D.ext b ab
 ·intro b x ab eT;by_cases n2:b=(ms i).next
  ·subst n2;have U:x=e:=by simpa[bb.up] using ab.symm
   subst U;exact .inl (by rw[vj.ay];exact D.dA.size)
  ·exact D.fresh b x (eU b x ab n2) eT
 ·intro b ab ag;rw[hblk b (by omega)] at ag;exact D.cK b ab ag
 ·intro b ab ag;rw[hblk b (by omega)] at ag;exact D.alive b ab ag
theorem ga.ev (X:Ctx P C ops N aY ms vs bH dZ cW) (D:ga P ops ds N aY ms vs bH dZ cW listed a w s M j) {i:Nat} {o:Oper} (R:lR ops listed i o) (hk:bH i=4):
  s<=i/\(∀e,s<=e->e<i->bH e≠4)/\Rel P (j.below (ms i).next) (ms i) w/\
  ∀{w':World} {fF:bb} {aS:arh},Post P (j.below (ms i).next) (ms i) w fF (ms (i+1)) w'->bU fF (vs i) aS->
   ga P ops ds N aY ms vs bH dZ cW (listed.setIfInBounds i arf) (a.put o.dst aS) w' (i+1) ((ms (i+1)).join M) (fF.join (ms (i+1)).next j):=by
 have af:i<listed.size:=by rw[D.size];exact R.lt
 have oc:s<=i:=by
  rcases ar' i s with h|h
  ·have:=(D.e6 i R.lt hk).2 h;rw[R.not] at this;cases this
  ·exact h
 have BE:∀e,e<i->bH e=4->listed.getD e arj=arf:=by
  intro e he fC;have iB:e<ops.size:=Nat.lt_trans he R.lt;have UT:ops[e]? =are ops[e]:=by simp[iB]
  refine R.eM D (NB X.ok R.at_ UT he ?_);simp[rL,X.Vf UT fC,X.Vf R.at_ hk]
 have bL:∀e,s<=e->e<i->bH e≠4:=by intro e h1 J fC;have:=(D.e6 e (Nat.lt_trans J R.lt) fC).1 (BE e J fC);omega
 have c9:=D.JU X oc (asd R.lt) bL;have cn:=(X.wf i (asd R.lt)).1;refine ⟨oc,bL,D.rel.below cn c9, ?_⟩;intro w' fF aS p aa;have aqu:=p.next;have Ur:∀b e,j b=are e->b<(ms i).next\/((ms (i+1)).next<=b/\∃x,i+1<=x/\x<ops.size/\listed.getD x arj=arf/\bH x=3/\b=(ms x).next):=by
  intro b e ab;rcases D.EG b e ab with h|⟨x,h1,J,aj,aJ,bk⟩
  ·exact .inl (arT h (X.mono s i oc (asd R.lt)))
  ·subst bk;rcases as1 x i with h|h|h
   ·exact .inl (arT (X.B2 J aJ) (X.mono (x+1) i h (asd R.lt)))
   ·subst h;omega
   ·exact .inr ⟨X.mono (i+1) x h (asd J),x,h,J,aj,aJ,rfl⟩
 have Ff:(ms (i+1)).next<=M.next:=by rw[D.AR];exact X.mono (i+1) ops.size R.lt (ars _)
 obtain ⟨hrel,eU,ae0⟩:=D.rel.join c9 p (fun b e ab=>by rcases Ur b e ab with h|h;exact .inl h;exact .inr h.1) Ff;have aqd:(ms 0).next<=(ms i).next:=X.mono 0 i (ass _) (asd R.lt);have MW:∀b,b<(ms i).next->fF b=j b:=fun b ab=>by rw[p.ext b ab];simp[bb.below,ab]
 have TK:∀b e,j b=are e->b<(ms i).next->M.ay b=(ms i).ay b:=c9;refine ⟨by simp[D.size],D.J7 R,R.lt, .inr (by simpa using hk), ?_,hrel,D.AR, ?_, ?_, ?_, ?_,by rw[fP.2];exact D.defers,by rw[fP.1];exact D.tmps,D.Ka X R eU (aa.mono ae0), ?_, ?_, ?_, ?_, ?_⟩
 ·intro x U jD;rw[ko af,D.e6 x U jD];constructor
  ·rintro (h|h)<;>omega
  ·intro h;rcases ar' x i with bq|bq
   ·exact .inr ((D.e6 x U jD).1 (BE x bq jD))
   ·exact .inl (by omega)
 ·intro b ab;simp[Mem.join,ab]
 ·intro b e ab;unfold bb.join at ab;split at ab
  ·exact .inl ‹_›
  ·rcases Ur b e ab with h|⟨h1,x,J,aj,aJ,bk,dn⟩
   ·omega
   ·exact .inr ⟨x,J,aj,(ko af).2 (.inr aJ),bk,dn⟩
 ·intro x U jD ai;obtain ⟨h1,J⟩:=Gc af ai;have UD:=D.xE x U jD J;rcases ar' x i with h|h
  ·have FG:(ms x).next<(ms i).next:=arT (X.B2 U jD) (X.mono (x+1) i h (asd R.lt));simp only[bb.join,show (ms x).next<(ms (i+1)).next by omega,if_true];rw[MW _ FG];exact UD
  ·have:(ms (i+1)).next<=(ms x).next:=X.mono (i+1) x (by omega) (asd U);simp only[bb.join,show ¬(ms x).next<(ms (i+1)).next by omega,if_false];exact UD
 ·intro x h1 J aj aJ gD hm;have:(ms (i+1)).next<=(ms x).next:=X.mono (i+1) x h1 (asd J);simp only[Mem.join,show ¬(ms x).next<(ms (i+1)).next by omega,if_false];rcases (ko af).1 aj with h|h
  ·omega
  ·exact D.ES x (by omega) J h aJ gD hm
 ·refine ⟨p.dA.os.trans D.dA.os,p.dA.tape.trans D.dA.tape,p.dA.output.trans D.dA.output,arR D.dA.size p.dA.size,fun c ad ax=> ?_⟩;rw[p.dA.block c (arT ad D.dA.size) ?_]
  ·exact D.dA.block c ad ax
  ·intro b e ab ag he;obtain ⟨g1,g2⟩:=oy ab;rcases ar' b (ms 0).next with h|h
   ·exact ax b e (by rw[<-D.ext b h];exact g2) (D.cK b h (by rw[TK b e g2 g1];exact ag)) he
   ·rcases D.fresh b e g2 h with aK|⟨cM,cH,bm,br,dj⟩
    ·omega
    ·exact ax cM cH bm br (dj.trans he)
 ·intro b ab;simp only[bb.join,show b<(ms (i+1)).next by omega,if_true];rw[MW b (by omega)];exact D.ext b ab
 ·intro b e ab eT;unfold bb.join at ab;split at ab
  ·rcases ar' b (ms i).next with h|h
   ·exact D.fresh b e (by rw[<-MW b h];exact ab) eT
   ·rcases p.fresh b e ab h with aK|⟨cM,cH,bm,br,dj⟩
    ·exact .inl (arR D.dA.size aK)
    ·obtain ⟨g1,g2⟩:=oy bm;rcases ar' cM (ms 0).next with bq|bq
     ·exact .inr ⟨cM,cH,by rw[<-D.ext cM bq];exact g2,D.cK cM bq (by rw[TK cM cH g2 g1];exact br),dj⟩
     ·rw[<-dj];exact D.fresh cM cH g2 bq
  ·exact D.fresh b e ab eT
 ·intro b ab ag;have n2:b<(ms (i+1)).next:=by omega
  simp only[Mem.join,n2,if_true] at ag;have jF:=p.cK b (by omega) ag;have aM:=(Gj X.T i oc (by simpa using asd R.lt) bL).1;have oY:b<(ms s).next:=arT ab (X.mono 0 s (ass _) D.sle);exact D.cK b ab (by rw[D.agree b oY,<-aM b oY];exact jF)
 ·intro b ab ag;have n2:b<(ms (i+1)).next:=by omega
  simp only[Mem.join,n2,if_true] at ag;have jF:=p.alive b (by omega) ag;have aM:=(Gj X.T i oc (by simpa using asd R.lt) bL).1;have oY:b<(ms s).next:=arT ab (X.mono 0 s (ass _) D.sle);exact D.alive b ab (by rw[D.agree b oY,<-aM b oY];exact jF)
end
end Go.aQ
end
section
namespace Go.aQ
section
variable {P:arl} {C:FuncId->Array arh->Mem->arh->Mem->Prop} {ops:Array Oper} {N:Nat} {aY:Nat->Nat->arh} {ms:Nat->Mem} {vs:Nat->arh} {ds:List Deferred} {bH:Nat->Nat} {dZ:bb} {cW:World}
variable {listed:Array Bool} {a:Act} {w:World} {s:Nat} {M:Mem} {j:bb}
theorem aht {i:Nat} (h:i∈at7 .any ops listed):∃o,i<ops.size/\ops[i]? =are o/\listed.getD i arf=arj/\∀e∈o.after,ata .any e=arf->listed.getD e.on arj=arf:=by
 simp only[at7,aua,asF,arq,aso] at h;obtain ⟨h1,J,aj⟩:=h;have ag:ops[i]? =are ops[i]:=by simp[h1]
 rw[ag] at aj;simp only[asQ,asN,Array.all_eq_true'] at aj;refine ⟨_,h1,ag,J,fun e he ab=> ?_⟩;have:=aj e he;simpa[ab] using this
theorem Ns {A:Array Bool} {i:Nat} (af:i<A.size):A.getD i arf=A.getD i arj:=by simp[atq,af]
def left (n:Nat) (listed:Array Bool):Nat:=((ar2 n).filter fun i=> !listed.getD i arj).length
theorem filter_lt {al:Type} {p q:al->Bool}:∀(l:List al) (x:al),x∈l->(∀y,p y=arf->q y=arf)->q x=arf->p x=arj->(l.filter p).length<(l.filter q).length
 |[],x,U,_,_,_=>by simp at U
 |y::l,x,U,o1,U1,UZ=>by
  have hle:(l.filter p).length<=(l.filter q).length:=by
   clear U;induction l with
   |nil=>simp
   |cons z l aU=>
    simp only[ati];by_cases aD:p z=arf
    ·simp only[aD,o1 z aD,if_true,arU];omega
    ·by_cases aF:q z=arf
     ·simp only[aD,aF,if_true,arU];simp;omega
     ·simp[aD,aF];exact aU
  rcases arA.1 U with rfl|U
  ·simp only[ati,U1,UZ,if_true];simp;omega
  ·have aU:=filter_lt l x U o1 U1 UZ;simp only[ati];by_cases aD:p y=arf
   ·simp only[aD,o1 y aD,if_true,arU];omega
   ·by_cases aF:q y=arf
    ·simp only[aD,aF,if_true,arU];simp;omega
    ·simp[aD,aF];exact aU
theorem agq {n:Nat} (h:left n listed=0):∀i,i<n->listed.getD i arj=arf:=by
 intro i af;cases ai:listed.getD i arj with
 |true=>rfl
 |false=>have:i∈(ar2 n).filter fun i=> !listed.getD i arj:=aua.2 ⟨asF.2 af,by rw[ai];rfl⟩;rw[asJ h] at this;simp at this
theorem ga.all (X:Ctx P C ops N aY ms vs bH dZ cW) (D:ga P ops ds N aY ms vs bH dZ cW listed a w s M j) (h:at7 .any ops listed=[]):∀i,i<ops.size->listed.getD i arj=arf:=by
 intro i;induction i using Nat.strongRecOn with
 |_ i aU=>
  intro af;cases ai:listed.getD i arj with
  |true=>rfl
  |false=>
   have ag:ops[i]? =are ops[i]:=by simp[af]
   have:i∈at7 .any ops listed:=by
    simp only[at7,aua,asF,arq,aso];refine ⟨af,by rw[Ns (by rw[D.size];exact af)];exact ai, ?_⟩;rw[ag];simp only[asQ,asN,Array.all_eq_true'];intro e he;cases ab:ata .any e with
    |false=>simp
    |true=>have jY:=agD X.ok ag he ab;simp[aU e.on jY (by omega)]
   rw[h] at this;simp at this
theorem ga.end (X:Ctx P C ops N aY ms vs bH dZ cW) (D:ga P ops ds N aY ms vs bH dZ cW listed a w s M j) (h:∀i,i<ops.size->listed.getD i arj=arf):
  Post P dZ (ms 0) cW (j.below (ms ops.size).next) (ms ops.size) w/\(∀t,bU (j.below (ms ops.size).next) (aY ops.size t) (a.tmps.getD t undef))/\a.defers=ds/\a.tmps.size=N:=by
 have bL:∀e,s<=e->e<ops.size->bH e≠4:=fun e h1 J hk=>by have:=(D.e6 e J hk).1 (h e J);omega
 have c9:=D.JU X D.sle (ars _) bL;obtain ⟨cn,b5⟩:=X.wf ops.size (ars _);have az:(ms 0).next<=(ms ops.size).next:=X.mono 0 _ (ass _) (ars _);have aM:=(Gj X.T ops.size D.sle (by simp) bL).1;have oY:∀b,b<(ms 0).next->(ms ops.size).ay b=M.ay b:=fun b ab=>by have ch:=arT ab (X.mono 0 s (ass _) D.sle);rw[aM b ch,D.agree b ch]
 refine ⟨⟨D.rel.below cn c9,D.dA,az, ?_, ?_, ?_, ?_⟩, ?_,D.defers,D.tmps⟩
 ·intro b ab;simp only[bb.below,show b<(ms ops.size).next by omega,if_true];exact D.ext b ab
 ·intro b e ab eT;exact D.fresh b e (oy ab).2 eT
 ·intro b ab ag;exact D.cK b ab (by rw[<-oY b ab];exact ag)
 ·intro b ab ag;exact D.alive b ab (by rw[<-oY b ab];exact ag)
 ·intro t;refine wA.2.2 ?_ (b5 t);rcases NI X.T t ops.size (by simp) with ⟨x,p,h1,J,aj,aJ,bk⟩|⟨h1,J⟩
  ·have gg:ops[x]? =are p:=by simpa using J
   rcases D.cur t with ⟨y,q,g1,g2,g3,g4,g5⟩|⟨g1,_⟩
   ·have ah:=(ar6.1 g1).1;have:y=x:=by
     rcases as1 y x with ax|ax|ax
     ·exact absurd aj (g4 x p ax gg (h x h1))
     ·exact ax
     ·exact absurd g3 (bk y q ax ah (by simpa using g1))
    subst this;rw[aJ];exact g5
   ·exact absurd aj (g1 x p gg (h x h1))
  ·rcases D.cur t with ⟨y,q,g1,g2,g3,g4,g5⟩|⟨_,g2⟩
   ·exact absurd g3 (h1 y q (ar6.1 g1).1 (by simpa using g1))
   ·rw[J];exact g2
theorem ga.go (X:Ctx P C ops N aY ms vs bH dZ cW) {Q:Exit->Act->World->Prop} (ez:∀a w bw,Post P dZ (ms 0) cW bw (ms ops.size) w->(∀t,bU bw (aY ops.size t) (a.tmps.getD t undef))->a.defers=ds->a.tmps.size=N->Q .normal a w):
  ∀(ni:Nat) (listed:Array Bool) (a:Act) (w:World) (s:Nat) (M:Mem) (j:bb),ga P ops ds N aY ms vs bH dZ cW listed a w s M j->left ops.size listed<=ni->wpAny P .any ops Q ni listed a w:=by
 intro ni;induction ni with
 |zero=>intro listed a w s M j D ai;have kd:=agq (n:=ops.size) (by omega:left ops.size listed=0);obtain ⟨h1,J,aj,aJ⟩:=D.end X kd;refine ⟨?_,ez _ _ _ h1 J aj aJ⟩;simp only[at7,List.filter_eq_nil_iff,asF];intro i af;have:=kd i af;rw[Ns (by rw[D.size];exact af),this];simp
 |succ ni aU=>
  intro listed a w s M j D ai;refine ⟨fun ao=> ?_,fun i af=> ?_⟩
  ·obtain ⟨h1,J,aj,aJ⟩:=D.end X (D.all X ao);exact ez _ _ _ h1 J aj aJ
  ·obtain ⟨o,aO,ag,r2,adu⟩:=aht af;have vN:i<listed.size:=by rw[D.size];exact aO
   have R:lR ops listed i o:=⟨ag,by rw[<-Ns vN];exact r2,adu⟩
   have Bi:left ops.size (listed.setIfInBounds i arf)<=ni:=by
    have:left ops.size (listed.setIfInBounds i arf)<left ops.size listed:=by refine filter_lt _ i (by simpa using aO) (fun y ah=> ?_) (by rw[R.not];rfl) (by rw[(ko vN).2 (.inl rfl)];rfl);simp only[aso] at ah⊢;exact (Gc vN ah).2
    omega
   have qQ:=D.wanted X R;have BD:=D.afQ X R;unfold wpOp;rw[ag];simp only[];rcases X.run ag with ⟨hk,hw,aa,_⟩|⟨hk,hw,an,_⟩|⟨hk,hw,an,_⟩|⟨hk,hw,gD,an,hm⟩|⟨hk,hw,an⟩
   ·rw[qQ,hw,if_neg (by simp)];exact aU _ _ _ s M j (D.quiet X R (by omega) (by omega) (by rw[aa];exact ⟨#[],rfl,arH⟩)) Bi
   ·rw[qQ,hw,if_pos rfl];left;obtain ⟨aS,ao,fl⟩:=ND an BD w;unfold as';rw[ao];exact aU _ _ _ s M j (D.quiet X R (by omega) (by omega) fl) Bi
   ·rw[qQ,hw,if_pos rfl];left;have aeH:∃z,dX P (aL (aY i)) o (ms z) (vs i)/\tq P j (ms z) w:=by
     rcases ar' i s with Fm|Fm
     ·refine ⟨s, ?_,D.mT X (ars _) D.sle (fun e h1 J=>by omega)⟩;rcases D.last with az|qG
      ·omega
      ·have Fz:s - 1+1=s:=by omega
       have ki:=D.sle;have bL:i≠s - 1:=by intro h;rw[<-h] at qG;omega
       have ad4:listed.getD (s - 1) arj=arf:=(D.e6 (s - 1) (by omega) qG).2 (by omega);have fV:eM (asa ops) (s - 1) i=arj:=by
        cases c9:eM (asa ops) (s - 1) i with
        |false=>rfl
        |true=>have:=D.JV ad4 c9;rw[R.not] at this;cases this
       have:=X.T.after i (s - 1) o (by simpa using ag) (by simpa using hk) (by simp;omega) (by simpa using qG) (by omega) (by simpa using fV);simp only[arE,Fz] at this;exact this
     ·by_cases hex:∃e,s<=e/\e<i/\bH e=4
      ·
       have vO:∃z,s<=z/\z<i/\bH z=4/\∀e,s<=e->e<z->bH e≠4:=by
        obtain ⟨e,h1,J,aj⟩:=hex;clear qQ BD;induction e using Nat.strongRecOn with
        |_ e afo=>
         by_cases hm:∃bp,s<=bp/\bp<e/\bH bp=4
         ·obtain ⟨bp,g1,g2,g3⟩:=hm;exact afo bp g2 g1 (by omega) g3
         ·exact ⟨e,h1,J,aj,fun bp g1 g2 g3=>hm ⟨bp,g1,g2,g3⟩⟩
       obtain ⟨z,h1,J,aj,aJ⟩:=vO;refine ⟨z, ?_,D.mT X h1 (by omega) aJ⟩;have fV:eM (asa ops) i z=arj:=by
        cases c9:eM (asa ops) i z with
        |false=>rfl
        |true=>have:=(D.e6 z (by omega) aj).1 (R.eM D c9);omega
       have:=X.T.ahead i z o (by simpa using ag) (by simpa using hk) (by simp;omega) (by simpa using aj) J (by simpa using fV);simpa using this
      ·exact ⟨i,an,D.mT X Fm (asd aO) (fun e h1 J aj=>hex ⟨e,h1,J,aj⟩)⟩
    obtain ⟨z,dm,cy⟩:=aeH;obtain ⟨aS,ao,fl⟩:=Wg dm BD cy;unfold as';rw[ao];exact aU _ _ _ s M j (D.quiet X R (by omega) (by omega) fl) Bi
   ·rw[qQ,hw,if_pos rfl];left;obtain ⟨aS,w',e,ob,ao,av,fl⟩:=Yx an BD w;unfold as';rw[ao];exact aU _ _ _ s _ _ (D.acj X R hk hm av (fl _ (by simp[bb.up]))) Bi
   ·rw[qQ,hw,if_pos rfl];left;obtain ⟨h1,J,aj,aJ⟩:=D.ev X R hk;obtain ⟨ac6,acR⟩:=X.wf i (asd aO);have jn:o∈ops.toList:=by have:=aty ag;simpa using this
    have aep:gy (j.below (ms i).next) (aL (aY i)) a.eval o:=fun x U=>wA.2.2 (BD x U) (Zx acR (X.F3 o jn x U));exact Zv an aep aj ac6 X.sound fun aS w' fF vU fl=>aU _ _ _ _ _ _ (aJ vU fl) Bi
end
theorem agu {P:arl} {C:FuncId->Array arh->Mem->arh->Mem->Prop} {ops:Array Oper} {id:Nat} {fr fr':Nat->arh} {m m':Mem} {j:bb} {a:Act} {ds:List Deferred} {w:World} {Q:Exit->Act->World->Prop}
  (hz:P.follows .mixedOrders=arf) (h:fZ P C ops.toList (asa ops) 0 ops.toList ⟨[],[],[]⟩ fr m fr' m') (cy:uE ops=arf) (cp:∀o∈ops.toList,∀x∈o.op.operands,kH x=arf) (qD:∀o∈ops.toList,∀d,o.dst=are d->d<a.tmps.size)
  (bI:oz C) (ht:wX P C) (ba:Rel P j m w) (cn:WF m) (fB:∀t,bU j (fr t) (a.tmps.getD t undef)) (aw:a.defers=ds)
  (ez:∀a' w' bw,Post P j m w bw m' w'->(∀t,bU bw (fr' t) (a'.tmps.getD t undef))->a'.defers=ds->a'.tmps.size=a.tmps.size->Q .normal a' w'):(Code.region id ops arf).wp P Q a w:=by
 refine wp_region_any hz ?_;obtain ⟨aY,ms,vs,bH,T,h1,J,aj,aJ,_⟩:=ZZ _ _ _ _ _ _ _ h;simp only[arE,Array.length_toList] at aj aJ;have yo:Rel P j (ms 0) {w with drawn:=w.drawn+1}:=by rw[J];exact ais ba rfl
 have aO:∀b e,j b=are e->b<(ms 0).next:=fun b e ab=>by rw[J];exact (ba.lt b e ab).1
 have X:Ctx P C ops a.tmps.size aY ms vs bH j {w with drawn:=w.drawn+1}:=⟨T,cy,cp,qD,bI,ht,yo,by rw[J];exact cn,fun t=>by rw[h1];exact (Hi aO).2.2 (fB t)⟩
 have jE:∀i,(asr ops.size arj).getD i arj=arf->False:=by intro i af;simp only[atq,Array.size_replicate] at af;split at af<;>simp at af
 have D:ga P ops ds a.tmps.size aY ms vs bH j {w with drawn:=w.drawn+1} (asr ops.size arj) a {w with drawn:=w.drawn+1} 0 {next:=(ms ops.size).next,ay:=(ms 0).ay} j:=by
  refine ⟨by simp,fun i o af=>(jE i af).elim,ass _, .inl rfl,fun i _ _=>⟨fun h=>(jE i h).elim,fun h=>by omega⟩, ?_,rfl,fun b _=>rfl,fun b e ab=> .inl (aO b e ab), ?_,fun i _ _ h=>(jE i h).elim,aw,rfl, ?_,rv.refl _ _ _,fun _ _=>rfl, ?_,fun _ _ h=>h,fun _ _ h=>h⟩
  ·refine ⟨⟨fun b e ab=>⟨arT (aO b e ab) (X.mono 0 _ (ass _) (ars _)),(yo.lt b e ab).2⟩,yo.obj,yo.inj⟩,yo.iI.val,yo.iI.sep⟩
  ·intro i af hk ai;cases ap:j (ms i).next with
   |none=>rfl
   |some e=>have:=aO _ e ap;have:=X.mono 0 i (ass _) (asd af);omega
  ·intro t;right;exact ⟨fun x p _ ai=>(jE x ai).elim,by rw[h1];exact fB t⟩
  ·intro b e ab eT;have:=aO b e ab;omega
 refine ga.go X (fun a' w' bw p aa jU aq=>ez a' w' bw ?_ (by rw[aj] at aa;exact aa) jU aq) _ _ _ _ _ _ _ D ?_
 ·rw[J,aJ] at p;exact ⟨p.rel,⟨p.dA.os,p.dA.tape,p.dA.output,p.dA.size,p.dA.block⟩,p.next,p.ext,p.fresh,p.cK,p.alive⟩
 ·unfold left;refine arR (List.length_filter_le _ _) ?_;simp
end Go.aQ
end
section
namespace Go.aQ
theorem Rel.Lu {P:arl} {j:bb} {m:Mem} {w w':World} (h:Rel P j m w) (h1:w'.os=w.os) (J:w'.tape=w.tape) (aj:w'.output=w.output) (aJ:w.heap.size<=w'.heap.size) (bk:∀c,c<w.heap.size->w'.heap[c]? =w.heap[c]?):Post P j m w j m w':=
 .of h ⟨fun b e ab=>⟨(h.lt b e ab).1,arT (h.lt b e ab).2 aJ⟩,fun b e ab=>by rw[bk _ (h.lt b e ab).2];exact h.obj b e ab,h.inj⟩
  ⟨h1,J,aj,aJ,fun c ad _=>bk c ad⟩ (ars _) (fun _ _=>rfl) (fun b e ab av=>absurd (h.lt b e ab).1 (atv.2 av)) (fun _ _ h=>h) (fun _ _ h=>h)
theorem WO {j:bb} {v:arh} (h:b7 v=arf):dr j v v:=oo h
theorem agY {P:arl} {f:FuncId} {args:Array arh} {m m':Mem} {v:arh} (h:rA P f args m v m') (cn:WF m):low m'.next v/\WF m'/\m.next<=m'.next:=by
 cases h with
 |none a c g h ar=>exact ⟨by intro x U;simp at U,cn,ars _⟩
 |flat v vq lY h=>exact ⟨CE lY,cn,ars _⟩
 |ext v lY h=>exact ⟨CE lY,cn,ars _⟩
 |fresh cs e l vq ER ai ab h=>refine ⟨ash _,cn.push ?_,ar7 _⟩;intro v aa;exact wI (arz.1 ER v aa)
 |row b off l c g L e F nc h ar ai hm bM av jl f1 f2=>
  refine ⟨by intro x U;simp at U,⟨fun c ad=> ?_,fun c=> ?_⟩,ars _⟩
  ·have ad:m.next<=c:=ad;simp only[Mem.put];split
   ·rename_i cJ;subst cJ;have:=cn.dead c ad;rw[hm] at this;cases this
   ·exact cn.dead c ad
  ·simp only[Mem.put];split
   ·intro v aa;rcases ux _ _ _ _ aa with aa|aa
    ·have:=cn.low b;rw[hm] at this;exact this v aa
    ·exact wI (arz.1 f2 v aa)
   ·exact cn.low c
theorem W0 {j:bb} {s:arh} {g:Nat} {fU:Array arh} (h:a1 (bU j) (#[s, .func (.func g) #[] #[]]:Array arh).toList fU.toList):∃cs,bU j s cs/\fU=#[cs, .func (.func g) #[] #[]]:=by
 obtain ⟨l⟩:=fU
 match l,h with
 |[c1,c2],⟨h1,⟨gs,ds,J,aj,aJ⟩,_⟩=>
  refine ⟨c1,h1, ?_⟩;have aT:gs=#[]:=by
   obtain ⟨l⟩:=gs;cases l with
   |nil=>rfl
   |cons _ _=>exact aj.elim
  have e2:ds=#[]:=by
   obtain ⟨l⟩:=ds;cases l with
   |nil=>rfl
   |cons _ _=>exact aJ.elim
  subst aT e2 J;rfl
 |[_],⟨_,h⟩=>exact h.elim
 |[],h=>exact h.elim
 |_::_::_::_,⟨_,_,h⟩=>exact h.elim
theorem agZ {P:arl} {f:FuncId} {args:Array arh} {m m':Mem} {v:arh} (h:rA P f args m v m') {j:bb} {w:World} {fU:Array arh} (cn:WF m) (ba:Rel P j m w) (c9:a1 (bU j) args.toList fU.toList):
  Calls P f fU w fun e w'=>∃aS bw,e= .returned aS/\Post P j m w bw m' w'/\bU bw v aS:=by
 cases h with
 |none a c g h ar=>
  subst ar;obtain ⟨cs,h1,rfl⟩:=W0 c9;have U:∃p cap,cs= .slice p 0 cap:=by
   cases a with
   |none=>exact ⟨_,_,h1.k8⟩
   |some a=>obtain ⟨q,_,_,ad⟩:=h1.slice;rcases ad with ⟨_,ad⟩|⟨_,_,_,_,_,_,ad⟩|⟨_,_,_,ad⟩|⟨_,_,_,ad⟩|⟨_,_,_,_,_,_,_,_,_,ad⟩<;>exact ⟨_,_,ad⟩
  obtain ⟨p,cap,rfl⟩:=U;refine (h p cap w).mono ?_;rintro e w' ⟨rfl,rfl⟩;exact ⟨_,j,rfl,Post.refl ba,#[],rfl,arH⟩
 |flat v vq lY h=>
  have he:fU=args:=by have:=a1.yg (p:=aQ.flat) (fun a b h J=>wN h J) vq c9;cases fU;cases args;simp at this;rw[this]
  subst he;refine (h w ba.iI.val).mono ?_;rintro e w' ⟨rfl,g⟩;exact ⟨v,j,rfl,ba.Lu g.os g.tape g.output g.size g.heap,zg lY⟩
 |ext v lY h=>refine (h j w fU cn ba c9).mono ?_;rintro e w' ⟨rfl,bw,an⟩;exact ⟨v,bw,rfl,an,zg lY⟩
 |fresh cs e l vq ER ai ab h=>
  have he:fU=args:=by have:=a1.yg (p:=aQ.flat) (fun a b h J=>wN h J) vq c9;cases fU;cases args;simp at this;rw[this]
  subst he;refine (h w ba.iI.val).mono ?_;rintro x w' ⟨rfl,rfl⟩;refine ⟨_,_,rfl,ba.push (X:= .own cs e) (e:=⟨w.heap.size,l,P.cellsOf e,0⟩) (ob:= .cells cs.toArray e) rfl rfl rfl rfl rfl ?_, ?_⟩
  ·exact ⟨cs.toArray,_,rfl,fun i af aK=>by simp at aK,rfl,by simp[ai],by rw[ai];exact ars _,fun i v af=>⟨v,by simpa using af,oo (arz.1 ER v (arI af))⟩⟩
  ·exact ⟨⟨w.heap.size,l,P.cellsOf e,0⟩,rfl,by simp[bb.up], .inl ⟨ab,rfl⟩⟩
 |row b off l c g L e F nc h ar ai hm bM av jl f1 f2=>
  subst ar;obtain ⟨qt,h1,rfl⟩:=W0 c9;obtain ⟨q,_,ap,ad⟩:=h1.slice;have U:∃cap,qt= .slice (are ⟨q.ay,q.c0+off,ari⟩) l cap:=by
   rcases ad with ⟨_,ad⟩|⟨_,_,_,_,_,_,ad⟩|⟨_,dT,_⟩|⟨_,dT,_⟩|⟨_,_,_,_,_,_,_,_,_,ad⟩
   ·exact ⟨_,ad⟩
   ·exact ⟨_,ad⟩
   ·omega
   ·omega
   ·exact ⟨_,ad⟩
  obtain ⟨cap,rfl⟩:=U;have ap:j b=are q:=ap;obtain ⟨cs,a6,g1,g2,g3,g4,g5,g6⟩:=ba.own b q L e ap hm;have acK:∀(i:Nat) (v:arh),F[i]? =are v->cs[q.c0+off+i]? =are v:=by intro i v af;have aO:=(arp.1 af).1;have jm:=af;rw[<-bM,asg,if_pos aO,asE] at jm;obtain ⟨aS,bm,br⟩:=g6 _ v jm;have gZ:b7 v=arf:=arz.1 f1 v (arI af);rw[zs gZ br] at bm;rw[arZ];exact bm
  refine (h w q.ay (q.c0+off) cap cs e a6 g1 acK g2).mono ?_;rintro ex w' ⟨rfl,bm,br,dj,gk,l7,BV⟩;have aO:=(ba.lt b q ap).2;have hlen:(ee cs.toList (q.c0+off) nc).length=cs.size:=by rw[nH];simp
  have tN:(ee L off nc).length=L.length:=nH _ _ _;have an:=ba.write (L':=ee L off nc) (cs':=(ee cs.toList (q.c0+off) nc).toArray) ap hm g1 (by simpa using hlen) (by rw[tN];exact g5) (fun i v af=>by
   rw[ow _ _ _ _ (by omega)] at af;rw[at4,ow _ _ _ _ (by rw[jl];simp;omega)];by_cases hx:off<=i/\i<off+nc.length
   ·rw[if_pos hx] at af;rw[if_pos (by omega),show q.c0+i - (q.c0+off)=i - off by omega];exact ⟨v,af,WO (arz.1 f2 v (arI af))⟩
   ·rw[if_neg hx] at af;rw[if_neg (by omega)];obtain ⟨aS,bm,br⟩:=g6 i v af;exact ⟨aS,by simpa using bm,br⟩)
  refine ⟨_,j,rfl,an.trans (an.rel.Lu bm br dj (by simpa[jM] using gk) fun c ad=> ?_),#[],rfl,arH⟩;have ad:c<w.heap.size:=by simpa[jM] using ad
  by_cases cJ:c=q.ay
  ·subst cJ;rw[BV,NE aO]
  ·rw[l7 c ad cJ,N8 cJ]
end Go.aQ
end
section
namespace Go.aQ
variable {ds:List Deferred}
theorem iM.put {j bw:bb} {N:Nat} {fr:Nat->arh} {a:Act} {d:Option Tmp} {v aS:arh} (h:iM ds j N fr a) (eU:∀b e,j b=are e->bw b=are e) (aw:∀t,d=are t->t<N) (aa:bU bw v aS):iM ds bw N (set fr d v) (a.put d aS):=by
 refine ⟨fun t=> ?_,by rw[fP.2];exact h.defers,by rw[fP.1];exact h.size⟩;cases d with
 |none=>exact (h.val t).mono eU
 |some x=>
  have U:x<a.tmps.size:=by rw[h.size];exact aw x rfl
  rw[sr U];simp only[set];split
  ·exact aa
  ·exact (h.val t).mono eU
theorem iM.ops {j:bb} {N:Nat} {fr:Nat->arh} {a:Act} (h:iM ds j N fr a) {o:Oper} (ag:∀x∈o.op.operands,kH x=arf):gy j (aL fr) a.eval o:=
 fun x U=>Pj (ag x U) fun t _=>h.val t
theorem XT (j:bb):bU j undef undef:=⟨#[],rfl,arH⟩
theorem Gn {P:arl} {C:FuncId->Array arh->Mem->arh->Mem->Prop} {ops:Array Oper} {N:Nat} {Q:Exit->Act->World->Prop} (bI:oz C) (ht:wX P C) (qD:∀o∈ops.toList,∀d,o.dst=are d->d<N):
  ∀(l:List Oper) (fr fr':Nat->arh) (m m':Mem) (j:bb) (a:Act) (w:World),(∀o∈l,(∀x∈o.op.operands,kH x=arf)/\∀d,o.dst=are d->d<N)->iZ P C ops.toList l fr m fr' m'->Rel P j m w->WF m->iM ds j N fr a->
   (∀a' w' bw,Post P j m w bw m' w'->iM ds bw N fr' a'->Q .normal a' w')->wpList P ops Q l a w
 |[],fr,fr',m,m',j,a,w,ai,h,ba,cn,bM,ez=>by simp only[iZ] at h;obtain ⟨rfl,rfl⟩:=h;exact ez a w j (Post.refl ba) bM
 |o::l,fr,fr',m,m',j,a,w,ai,h,ba,cn,bM,ez=>by
  obtain ⟨U,aw⟩:=ai o (by simp);have eP:∀o∈l,(∀x∈o.op.operands,kH x=arf)/\∀d,o.dst=are d->d<N:=fun p an=>ai p (by simp[an]);have qQ:asT o (yielded ops a.tmps)=wanted ops.toList fr o:=W9 bM.size qD fun g w d aM aw=>bM.val d;unfold wpList;rw[qQ];simp only[iZ] at h;by_cases hw:wanted ops.toList fr o=arf
  ·rw[if_pos hw];rw[if_pos hw] at h;obtain ⟨v,m1,yN,BJ⟩:=h;have r1:∀t,low m.next (fr t):=fun t=>(Hi fun b e ab=>(ba.lt b e ab).1).2.2 (bM.val t);have dd:=wR yN cn r1 bI U;have Fu:=bM.ops U;have cont:∀aS w' bw,Post P j m w bw m1 w'->bU bw v aS->wpList P ops Q l (a.put o.dst aS) w':=fun aS w' bw an aa=>
    Gn bI ht qD l _ _ _ _ bw _ _ eP BJ an.rel dd.2.1 (bM.put (an.up ba) aw aa) fun a' lN sd qL jl=>ez a' lN sd (an.trans qL) jl
   left;cases yN with
   |pure h=>obtain ⟨aS,ao,aa⟩:=ND h Fu w;unfold as';rw[ao];exact cont aS w j (Post.refl ba) aa
   |read h=>obtain ⟨aS,ao,aa⟩:=Wg h Fu ba.mT;unfold as';rw[ao];exact cont aS w j (Post.refl ba) aa
   |new h=>obtain ⟨aS,w',bw,ao,an,aa⟩:=ahd h Fu ba;unfold as';rw[ao];exact cont aS w' bw an aa
   |ev h=>exact Zv h Fu ba cn ht cont
  ·rw[if_neg hw];rw[if_neg hw] at h;exact Gn bI ht qD l _ _ _ _ j _ _ eP h ba cn (bM.put (fun _ _ h=>h) aw (XT j)) ez
theorem Hd {P:arl} {C:FuncId->Array arh->Mem->arh->Mem->Prop} {ops:List Oper} (bI:oz C):∀(l:List Oper) (fr fr':Nat->arh) (m m':Mem),(∀o∈l,∀x∈o.op.operands,kH x=arf)->iZ P C ops l fr m fr' m'->WF m->(∀t,low m.next (fr t))->
  WF m'/\(∀t,low m'.next (fr' t))/\m.next<=m'.next
 |[],fr,fr',m,m',ai,h,cn,aK=>by simp only[iZ] at h;obtain ⟨rfl,rfl⟩:=h;exact ⟨cn,aK,ars _⟩
 |o::l,fr,fr',m,m',ai,h,cn,aK=>by
  simp only[iZ] at h;have eP:∀o∈l,∀x∈o.op.operands,kH x=arf:=fun p an=>ai p (by simp[an]);split at h
  ·obtain ⟨v,m1,yN,BJ⟩:=h;have dd:=wR yN cn aK bI (ai o (by simp));have:=Hd bI l _ _ _ _ eP BJ dd.2.1 (CV (fun t=>Gy dd.2.2 (aK t)) dd.1);exact ⟨this.1,this.2.1,arR dd.2.2 this.2.2⟩
  ·exact Hd bI l _ _ _ _ eP h cn (CV aK Cj)
theorem Og {P:arl} {C:FuncId->Array arh->Mem->arh->Mem->Prop} {ops:List Oper} {B:Array Nat} (bI:oz C):∀(l:List Oper) (i:Nat) (A:Acc) (fr fr':Nat->arh) (m m':Mem),(∀o∈l,∀x∈o.op.operands,kH x=arf)->fZ P C ops B i l A fr m fr' m'->WF m->(∀t,low m.next (fr t))->
  WF m'/\(∀t,low m'.next (fr' t))/\m.next<=m'.next
 |[],i,A,fr,fr',m,m',ai,h,cn,aK=>by simp only[fZ] at h;obtain ⟨rfl,rfl⟩:=h;exact ⟨cn,aK,ars _⟩
 |o::l,i,A,fr,fr',m,m',ai,h,cn,aK=>by
  simp only[fZ] at h;have eP:∀o∈l,∀x∈o.op.operands,kH x=arf:=fun p an=>ai p (by simp[an]);have key:∀v m1 hb,nX P C (aL fr) o m v m1->fZ P C ops B (i+1) l hb (set fr o.dst v) m1 fr' m'->WF m'/\(∀t,low m'.next (fr' t))/\m.next<=m'.next:=by intro v m1 hb yN BJ;have dd:=wR yN cn aK bI (ai o (by simp));have:=Og bI l _ _ _ _ _ _ eP BJ dd.2.1 (CV (fun t=>Gy dd.2.2 (aK t)) dd.1);exact ⟨this.1,this.2.1,arR dd.2.2 this.2.2⟩
  split at h
  ·rcases h with ⟨v,an,aw⟩|⟨v,an,_,aw⟩|⟨X,v,an,aw⟩|⟨v,m1,an,_,_,aw⟩
   ·exact key _ _ _ (.pure an) aw
   ·exact key _ _ _ (.read an) aw
   ·exact key _ _ _ (.new an) aw
   ·exact key _ _ _ (.ev an) aw
  ·exact Og bI l _ _ _ _ _ _ eP h cn (CV aK Cj)
theorem Cu {n id:Nat} {ops:Array Oper} {d:Bool} (h:e3 n (.region id ops d)=arf):(∀o∈ops.toList,(∀x∈o.op.operands,kH x=arf)/\∀d,o.dst=are d->d<n)/\(d=arf->uE ops=arf):=by
 simp only[e3,arq,arz,asi,aso] at h;refine ⟨fun o ag=>⟨fun x U=>(h.1 o ag).1 x (by simpa using U),fun t ak=> ?_⟩,fun aw=> ?_⟩
 ·have:=(h.1 o ag).2;rw[ak] at this;simpa using this
 ·rcases h.2 with h|h
  ·rw[aw] at h;cases h
  ·exact h
theorem zq {P:arl} {C:FuncId->Array arh->Mem->arh->Mem->Prop} (bI:oz C) {N:Nat}:∀(n:Nat) (c:Code) (fr fr':Nat->arh) (m m':Mem) (e:dF),e3 N c=arf->j4 P C n c fr m e fr' m'->WF m->(∀t,low m.next (fr t))->
  WF m'/\(∀t,low m'.next (fr' t))/\m.next<=m'.next:=by
 intro n;induction n with
 |zero=>intro c fr fr' m m' e _ h;exact h.elim
 |succ n aU=>
  intro c fr fr' m m' e cy h cn aK;cases c with
  |skip=>obtain ⟨_,rfl,rfl⟩:=h;exact ⟨cn,aK,ars _⟩
  |label l=>obtain ⟨_,rfl,rfl⟩:=h;exact ⟨cn,aK,ars _⟩
  |exit id=>obtain ⟨_,rfl,rfl⟩:=h;exact ⟨cn,aK,ars _⟩
  |ret=>obtain ⟨_,rfl,rfl⟩:=h;exact ⟨cn,aK,ars _⟩
  |region id ops d=>
   have ao:=Cu cy;cases d with
   |false=>exact Hd bI _ _ _ _ _ (fun o ag=>(ao.1 o ag).1) h.2 cn aK
   |true=>exact Og bI _ _ _ _ _ _ _ (fun o ag=>(ao.1 o ag).1) h.2 cn aK
  |seq a b=>
   simp only[e3,arq] at cy;rcases h with ⟨aT,cd,m1,h1,J⟩|h
   rotate_left
   ·exact ⟨(h.2.low cn aK).1,(h.2.low cn aK).2,h.2.next⟩
   obtain ⟨g1,g2,g3⟩:=aU a _ _ _ _ _ cy.1 h1 cn aK;split at J
   ·obtain ⟨bm,br,dj⟩:=aU b _ _ _ _ _ cy.2 J g1 g2;exact ⟨bm,br,arR g3 dj⟩
   ·obtain ⟨_,rfl,rfl⟩:=J;exact ⟨g1,g2,g3⟩
  |cond c a b=>
   simp only[e3,arq] at cy;obtain ⟨t,_,h1⟩:=h;cases t
   ·exact aU b _ _ _ _ _ cy.2 h1 cn aK
   ·exact aU a _ _ _ _ _ cy.1.2 h1 cn aK
  |block id c=>obtain ⟨aT,h1,_⟩:=h;exact aU c _ _ _ _ _ cy h1 cn aK
  |scope c=>exact aU c _ _ _ _ _ cy h cn aK
  |loop c=>
   obtain ⟨aT,cd,m1,h1,J⟩:=h;obtain ⟨g1,g2,g3⟩:=aU c _ _ _ _ _ cy h1 cn aK;split at J
   ·obtain ⟨bm,br,dj⟩:=aU (.loop c) _ _ _ _ _ cy J g1 g2;exact ⟨bm,br,arR g3 dj⟩
   ·obtain ⟨_,rfl,rfl⟩:=J;exact ⟨g1,g2,g3⟩
  |rangeFunc f bx x y=>exact h.elim
  |goto l=>exact h.elim
  |refuse s=>exact h.elim
def Zs (P:arl) (C:FuncId->Array arh->Mem->arh->Mem->Prop) (N n:Nat) (c:Code):Prop:=
 ∀⦃ds:List Deferred⦄ (fr fr':Nat->arh) (m m':Mem) (e:dF) (j:bb) (a:Act) (w:World) (Q:Exit->Act->World->Prop),
  e3 N c=arf->j4 P C n c fr m e fr' m'->Rel P j m w->WF m->iM ds j N fr a->(∀a' w' bw,Post P j m w bw m' w'->iM ds bw N fr' a'->Q e.out a' w')->c.wp P Q a w
theorem iM.low {P:arl} {j:bb} {N:Nat} {fr:Nat->arh} {a:Act} {m:Mem} {w:World} (bM:iM ds j N fr a) (ba:Rel P j m w):∀t,low m.next (fr t):=fun t=>(Hi fun b e ab=>(ba.lt b e ab).1).2.2 (bM.val t)
theorem agM {P:arl} {C:FuncId->Array arh->Mem->arh->Mem->Prop} (bI:oz C) {N:Nat} {c:Code} (cy:e3 N c=arf):∀(n:Nat),(∀n',n'<n->Zs P C N n' c)->∀(fr fr':Nat->arh) (m m':Mem) (e:dF) (j:bb) (a:Act) (w:World) (Q:Exit->Act->World->Prop),
  j4 P C n (.loop c) fr m e fr' m'->Rel P j m w->WF m->iM ds j N fr a->(∀a' w' bw,Post P j m w bw m' w'->iM ds bw N fr' a'->Q e.out a' w')->
  ∀(b:Frame) (k:List Item) (cs:List Frame),∃bp a' w',Q bp a' w'/\Arrives P (lone (b.at a (.code c:: .inLoop c::k)) cs w) b k cs bp a' w':=by
 intro n;induction n with
 |zero=>intro _ fr fr' m m' e j a w Q h;exact h.elim
 |succ n aU=>
  intro c9 fr fr' m m' e j a w Q h ba cn bM ez b k cs;obtain ⟨aT,cd,m1,h1,J⟩:=h;have ai:=zq bI n c _ _ _ _ _ cy h1 cn (bM.low ba);by_cases he:aT= .normal
  ·subst he;rw[if_pos rfl] at J;have key:c.wp P (fun e a' w'=>e= .normal/\∃bp TE lN,Q bp TE lN/\Arrives P (lone (b.at a' (.code c:: .inLoop c::k)) cs w') b k cs bp TE lN) a w:=
    c9 n (ash n) _ _ _ _ _ j a w _ cy h1 ba cn bM fun cr bD fF an ll=>
     ⟨rfl,aU (fun n' lv=>c9 n' (by omega)) _ _ _ _ _ fF cr bD Q J an.rel ai.1 ll (fun a2 dR qR tT vx=>ez a2 dR qR (an.trans tT) vx) b k cs⟩
   obtain ⟨bp,cr,bD,⟨rfl,e2,a2,dR,aeB,ac'⟩,Bf⟩:=key b (.inLoop c::k) cs;exact ⟨e2,a2,dR,aeB, .of_steps (Steps.trans Bf (.one step_inLoop)) ac'⟩
  ·rw[if_neg he] at J;obtain ⟨rfl,rfl,rfl⟩:=J;have key:c.wp P (fun bp a' w'=>bp≠ .normal/\Q bp a' w') a w:=
    c9 n (ash n) _ _ _ _ _ j a w _ cy h1 ba cn bM fun cr bD fF an ll=>⟨by cases e with
     |normal=>exact absurd rfl he
     |exit id=>simp[dF.out]
     |ret=>simp[dF.out],ez cr bD fF an ll⟩
   obtain ⟨bp,cr,bD,⟨bL,aF⟩,Bf⟩:=key b (.inLoop c::k) cs;exact ⟨bp,cr,bD,aF, .pass (x:= .inLoop c) rfl (fun _ _=> .inl bL) Bf⟩
theorem B9 {P:arl} {C:FuncId->Array arh->Mem->arh->Mem->Prop} (hz:P.follows .mixedOrders=arf) (bI:oz C) (ht:wX P C) {N:Nat}:∀(n:Nat) (c:Code),Zs P C N n c:=by
 intro n;induction n using Nat.strongRecOn with
 |_ n aU=>
 cases n with
 |zero=>intro c ds fr fr' m m' e j a w Q _ h;exact h.elim
 |succ n=>
  intro c ds fr fr' m m' e j a w Q cy h ba cn bM ez;have r1:=bM.low ba;have yU:=aU n (ash n);cases c with
  |skip=>obtain ⟨rfl,rfl,rfl⟩:=h;exact wp_skip (ez a w j (Post.refl ba) bM)
  |label l=>obtain ⟨rfl,rfl,rfl⟩:=h;exact wp_label (ez a w j (Post.refl ba) bM)
  |exit id=>obtain ⟨rfl,rfl,rfl⟩:=h;exact wp_exit (ez a w j (Post.refl ba) bM)
  |ret=>obtain ⟨rfl,rfl,rfl⟩:=h;exact wp_ret (ez a w j (Post.refl ba) bM)
  |region id ops d=>
   have ao:=Cu cy;have qD:∀o∈ops.toList,∀d,o.dst=are d->d<N:=fun o ag=>(ao.1 o ag).2;cases d with
   |false=>obtain ⟨rfl,h⟩:=h;exact wp_region_list (Gn bI ht qD _ _ _ _ _ j a w ao.1 h ba cn bM ez)
   |true=>obtain ⟨rfl,h⟩:=h;exact agu hz h (ao.2 rfl) (fun o ag=>(ao.1 o ag).1) (by rw[bM.size];exact qD) bI ht ba cn bM.val bM.defers fun a' w' bw an aa aw aq=>ez a' w' bw an ⟨aa,aw,by rw[aq];exact bM.size⟩
  |seq a' b=>
   have vS:=cy;simp only[e3,arq] at cy;rcases h with ⟨aT,cd,m1,h1,J⟩|h
   rotate_left
   ·exact h.2.sound vS ba cn bM ez
   have ai:=zq bI n a' _ _ _ _ _ cy.1 h1 cn r1;refine wp_seq (yU a' _ _ _ _ _ j a w _ cy.1 h1 ba cn bM fun cr bD fF an ll=> ?_);split at J
   ·rename_i he;subst he;exact yU b _ _ _ _ _ fF cr bD Q cy.2 J an.rel ai.1 ll fun a2 dR qR tT vx=>ez a2 dR qR (an.trans tT) vx
   ·rename_i he;obtain ⟨rfl,rfl,rfl⟩:=J;cases e with
    |normal=>exact absurd rfl he
    |exit id=>exact ez cr bD fF an ll
    |ret=>exact ez cr bD fF an ll
  |cond c x y=>
   simp only[e3,arq] at cy;obtain ⟨t,ak,h1⟩:=h;have aa:bU j (aL fr c) (a.eval c):=Pj cy.1.1 fun t _=>bM.val t;rw[ak] at aa;refine wp_cond aa.bool ?_;cases t
   ·exact yU y _ _ _ _ _ j a w Q cy.2 h1 ba cn bM ez
   ·exact yU x _ _ _ _ _ j a w Q cy.1.2 h1 ba cn bM ez
  |scope c=>refine wp_scope_straight (yU c _ _ _ _ _ j a w _ cy h ba cn bM fun cr bD fF an ll=> ?_);have:=ez cr bD fF an ll;cases e<;>exact this
  |block id c=>
   obtain ⟨aT,h1,he⟩:=h;refine wp_block (yU c _ _ _ _ _ j a w _ cy h1 ba cn bM fun cr bD fF an ll=> ?_);have:=ez cr bD fF an ll;rw[he] at this;cases aT with
   |normal=>simp only[dF.out] at this⊢;exact this
   |exit yT=>
    by_cases hid:yT=id
    ·subst hid;simp only[if_pos,dF.out] at this;simp only[dF.out,Exit.inBlock,if_pos];exact this
    ·simp only[dF.exit.injEq,hid,if_false,dF.out] at this;simp only[dF.out,Exit.inBlock,hid,if_false];exact this
   |ret=>simp only[dF.out] at this⊢;exact this
  |loop c=>intro b k cs;obtain ⟨bp,cr,bD,aF,Bf⟩:=agM bI (c:=c) cy (n+1) (fun n' lv=>aU n' lv c) _ _ _ _ _ j a w Q h ba cn bM ez b k cs;exact ⟨bp,cr,bD,aF, .of_steps (.one step_loop) Bf⟩
  |rangeFunc f bx x y=>exact h.elim
  |goto l=>exact h.elim
  |refuse s=>exact h.elim
theorem agc {P:arl} {fr:Nat->arh} {m:Mem} {j:bb} {N:Nat} {a:Act} {w:World} (ba:Rel P j m w) (bM:iM ds j N fr a) {r:ResultVar} {v:arh} (h:CU P fr m r v):
  ∃aS,(match r with| .tmp t=>(pure (a.tmps.getD t undef):Sem arh)| .cell x t=>do loadVar t (<-asAddr (a.tmps.getD x undef))).run P w= .ok aS w/\bU j v aS:=by
 cases r with
 |tmp t=>simp only[CU] at h;subst h;exact ⟨_,rfl,bM.val t⟩
 |cell x t=>
  obtain ⟨b,off,U,d,aw,aa⟩:=h;have cp:=bM.val x;rw[U] at cp;obtain ⟨q,_,ap,ad⟩:=cp.ptr;by_cases ar:jz d=arf
  ·rw[if_pos ar] at aa;obtain ⟨i,cs,af,dm,rfl⟩:=aa;obtain ⟨ds,ai,av,jV⟩:=Ct ba.mT ap _ _ _ dm;exact ⟨.agg ds.toArray,by simp[ad,asAddr,loadVar,w4 aw,ar,h0 af,zi av jV],⟨_,rfl,by simpa using ai⟩⟩
  ·rw[if_neg ar] at aa;obtain ⟨aS,dB,ao⟩:=ba.mT.load b q off v ap aa;exact ⟨aS,by simp[ad,asAddr,loadVar,w4 aw,ar,dB],bU.p0 ao⟩
theorem V0 {P:arl} {fr:Nat->arh} {m:Mem} {j:bb} {N:Nat} {a:Act} {w:World} (ba:Rel P j m w) (bM:iM ds j N fr a):∀(rs:List ResultVar) (vs:List arh),ov P fr m rs vs->
  ∃mx:List arh,(rs.mapM (m:=Sem) fun| .tmp t=>pure (a.tmps.getD t undef)| .cell x t=>do loadVar t (<-asAddr (a.tmps.getD x undef))).run P w= .ok mx w/\a1 (bU j) vs mx
 |[],[],_=>⟨[],rfl,arH⟩
 |r::rs,v::vs,⟨h1,J⟩=>by
  obtain ⟨aS,ao,aa⟩:=agc ba bM h1;obtain ⟨mx,U2,k0⟩:=V0 ba bM rs vs J;refine ⟨aS::mx, ?_,aa,k0⟩;simp only[List.mapM_cons,arV,ar0];cases r with
  |tmp t=>simp only[ar0] at ao⊢;rw[ao];simp only[arN,U2]
  |cell x t=>simp only[arV] at ao⊢;rw[ao];simp only[arN,U2]
 |[],_::_,h=>h.elim
 |_::_,[],h=>h.elim
theorem V2 {j:bb}:∀{vs mx:List arh},a1 (bU j) vs mx->(∀x∈vs,storable x=arf)->a1 (eg j) vs mx
 |[],[],_,_=>arH
 |v::vs,c::mx,⟨h1,J⟩,aq=>⟨bU.storable h1 (aq v (by simp)),V2 J fun x U=>aq x (by simp[U])⟩
 |[],_::_,h,_=>h.elim
 |_::_,[],h,_=>h.elim
theorem agr {j:bb} {args fU:Array arh} (h:a1 (bU j) args.toList fU.toList) (n:Nat):∀t,bU j ((args++asr (n - args.size) undef).getD t undef) ((fU++asr (n - fU.size) undef).getD t undef):=by
 have aq:=h.size;intro t;by_cases ak:t<args.size
 ·have aT:(args++asr (n - args.size) undef).getD t undef=args[t]:=by
   rw[aub,atM ak];simp[ak]
  have kE:t<fU.size:=by omega
  have e2:(fU++asr (n - fU.size) undef).getD t undef=fU[t]:=by rw[aub,atM kE];simp[kE]
  rw[aT,e2];obtain ⟨b,ab,ao⟩:=h.Ln t args[t] (by simp[ak]);rw[Array.getElem?_eq_getElem kE] at ab;cases ab;exact ao
 ·have e:∀(A:Array arh),A.size<=t->(A++asr (n - A.size) undef).getD t undef=undef:=by
   intro A c9;rw[aub,Array.getElem?_append_right c9];by_cases ax:t - A.size<n - A.size
   ·simp[ax]
   ·simp[ax]
  rw[e args (by omega),e fU (by omega)];exact XT j
theorem Gl {P : arl} {f : FuncId} {fn : Func} {c : Code} (h : kG P f = arf) (aK : P.funcs[f]? = are fn) (ad : fn.body = are c) : (fn.name == "runtime.NumGoroutine") = arj ∧ e3 fn.ntmps c = arf := by
 simp only[kG,aK,ad,arq,aso] at h;exact h
theorem Wd {P : arl} {f : FuncId} {fn : Func} {c : Code} (h : kG P f = arf) (aK : P.funcs[f]? = are fn) (ad : p8 P fn c) : (fn.name == "runtime.NumGoroutine") = arj ∧ e3 fn.ntmps c = arf ∧ fn.body.isNone = arj := by
 rcases ad with ad|⟨A,id,mk,oT,B,g,k,cs,D⟩
 ·exact ⟨(Gl h aK ad).1,(Gl h aK ad).2,by simp[ad]⟩
 ·have J:=Gl h aK D.body;refine ⟨J.1, ?_,by simp[D.body]⟩;rw[D.code];have aj:=J.2;simp[e3] at aj⊢;exact ⟨aj.1,aj.2.1.1,aj.2.2⟩
theorem aks {P:arl} {C:FuncId->Array arh->Mem->arh->Mem->Prop} {ae:arm->arh} {o:Oper} {m m':Mem} {v:arh} {fn:Fn} {cs:Array arm} (h:nX P C ae o m v m') (ag:o.op= .makeFunc fn #[] cs):
  cm P ae o v/\m'=m/\∃ds,v= .func fn #[] ds:=by
 cases h with
 |pure h=>
  refine ⟨h,rfl, ?_⟩;cases h with
  |func f a b bq aK=>rw[ag] at bq;cases bq;exact ⟨_,by simp;rfl⟩
  |flat v aq h aa ao=>have:=ao default;simp[execOp,ag,Instr.makeFunc] at this;exact ⟨_,this.symm⟩
  |_=>simp_all
 |read h=>cases h<;>simp_all
 |new h=>cases h<;>simp_all
 |ev h=>
  cases h with
  |call f args v m' h bI=>obtain ⟨x,as,ts,first,captured,h,_⟩:=h;simp_all
  |_=>simp_all
theorem af1 {P:arl} {C:FuncId->Array arh->Mem->arh->Mem->Prop} (hz:P.follows .mixedOrders=arf) (bI:oz C) (ht:wX P C) {n:Nat} {f:FuncId} {fn:Func} {c:Code} {fr cd:Nat->arh} {m m1:Mem} {e:dF} {j:bb} {w:World} {args:Array arh} {R:Ending->World->Prop}
  (aK:P.funcs[f]? =are fn) (ab:p8 P fn c) (cy:e3 fn.ntmps c=arf) (gV:j4 P C n c fr m e cd m1) (he:e= .normal\/e= .ret) (ba:Rel P j m w) (cn:WF m) (bM:iM [] j fn.ntmps fr {tmps:=args++asr (fn.ntmps - args.size) undef,defers:=[]})
  (ez:∀ds a' w' bw,Post P j m w bw m1 w'->iM ds bw fn.ntmps cd a'->∃v,(results fn a'.tmps).run P w'= .ok v w'/\R (.returned v) w'):Calls P f args w R:=by
 rcases ab with ab|⟨A,id,mk,oT,B,g,k,cs,D⟩
 ·refine calls_of_wp aK ab (B9 hz bI ht n c _ _ _ _ _ j _ w _ cy gV ba cn bM fun a' w' bw an jl=> ?_);obtain ⟨v,h1,J⟩:=ez [] a' w' bw an jl;rcases he with rfl|rfl<;>exact ⟨jl.defers,v,h1,J⟩
 ·obtain rfl:=D.code;have UU:e3 fn.ntmps A=arf:=by simp[e3] at cy;exact cy.1
  have aen:e3 fn.ntmps (.region id #[mk] arj)=arf:=by simp only[e3,arq] at cy⊢;exact cy.2.1
  have aem:e3 fn.ntmps B=arf:=by simp[e3] at cy;exact cy.2.2
  cases n with
  |zero=>exact gV.elim
  |succ n=>
  rcases gV with ⟨aT,TX,aqK,c9,J⟩|⟨h,_⟩
  rotate_left
  ·rw[D.c0] at h;cases h
  have adY:=zq bI n A _ _ _ _ _ UU c9 cn (bM.low ba);refine calls_of_wp_defers aK D.body (wp_seq (B9 hz bI ht n A _ _ _ _ _ j _ w _ UU c9 ba cn bM fun cr bD fF r3 ll=> ?_));by_cases rU:aT= .normal
  ·subst rU;rw[if_pos rfl] at J;cases n with
   |zero=>exact J.elim
   |succ n=>
   rcases J with ⟨e2,aqa,aqL,Uk,aj⟩|⟨h,_⟩
   rotate_left
   ·cases h
   cases n with
   |zero=>exact Uk.elim
   |succ n=>
   obtain ⟨rfl,vX⟩:=Uk;rw[if_pos rfl] at aj;have hY:wanted [mk] TX mk=arf:=by unfold wanted;rw[D.Vn]
   simp only[iZ] at vX;rw[if_pos hY] at vX;obtain ⟨v,aqM,dd,rfl,rfl⟩:=vX;obtain ⟨Fw,rfl,ds,rfl⟩:=aks dd D.afJ;have ao:=Cu aen;obtain ⟨U,aw⟩:=ao.1 mk (by simp);obtain ⟨aS,gV,aa⟩:=ND Fw (ll.ops U) bD;have ic:=aa;obtain ⟨gs,es,rfl,vK,_⟩:=ic;have adG:gs=#[]:=by
    cases gs with
    |mk l=>cases l with
     |nil=>rfl
     |cons _ _=>exact vK.elim
   subst adG;have UE:k<fn.ntmps:=aw k D.M8;have vx:=ll.put (d:=are k) (fun b e ab=>ab) (fun t ak=>by cases ak;exact UE) aa;show (Code.seq _ _).wp P _ cr bD;refine wp_seq (wp_region_list ?_);unfold wpList;have qQ:asT mk (yielded #[mk,oT] cr.tmps)=arf:=by unfold asT;rw[D.Vn]
   rw[if_pos qQ];refine .inl ?_;unfold as';rw[gV,Oper.upon_value];unfold wpList;have ae4:asT oT (yielded #[mk,oT] (cr.put mk.dst (.func (.func g) #[] es)).tmps)=arf:=by unfold asT;rw[D.ab']
   rw[if_pos ae4];refine .inl ?_;unfold as';rw[D.M8];have qP:(cr.put (are k) (.func (.func g) #[] es)).eval (.tmp k)= .func (.func g) #[] es:=by simp[Act.eval,as2,ll.size,UE]
   have tK:(execOp (cr.put (are k) (.func (.func g) #[] es)).eval oT).run P bD= .ok (.defer {target:= .fn (.func g) es,args:=#[]}) bD:=by simp[execOp,D.aca,resolve,qP,Deferred.ofValue]
   rw[tK,Oper.upon_defer];unfold wpList;rw[D.ab9];show B.wp P _ _ _;have acI:iM [{target:= .fn (.func g) es,args:=#[]}] fF fn.ntmps (set TX mk.dst (.func (.func g) #[] ds)) {(cr.put (are k) (.func (.func g) #[] es)) with defers:={target:= .fn (.func g) es,args:=#[]}::(cr.put (are k) (.func (.func g) #[] es)).defers}:=by rw[D.M8];exact ⟨vx.val,by rw[vx.defers],vx.size⟩
   have ad2:=adY.1;refine B9 hz bI ht (n+1) B _ _ _ _ _ fF _ bD _ aem aj r3.rel ad2 acI fun a' w' bw an jl=> ?_;obtain ⟨v,cI,cL⟩:=ez _ a' w' bw (r3.trans an) jl;obtain ⟨⟨ap9,bR,z2,z3⟩,z4⟩:=D.afK;have L3:Leaves P fn a'.tmps R a'.defers .returning w':=by
    rw[jl.defers];refine ⟨by simp,_,es,g,#[]++es,rfl, ?_,(z4 (#[]++es) w').mono ?_⟩
    ·simp only[invoke];exact V5 bR z2 z3
    ·rintro e u dR ⟨⟨bl,rfl⟩,rfl,rfl⟩;exact ⟨v,cI,cL⟩
   rcases he with rfl|rfl<;>exact L3
  ·rw[if_neg rU] at J;obtain ⟨rfl,rfl,rfl⟩:=J;obtain ⟨v,cI,cL⟩:=ez [] cr bD fF r3 ll;rcases he with rfl|rfl
   ·exact absurd rfl rU
   ·show Leaves P fn cr.tmps R cr.defers .returning bD;rw[ll.defers];exact ⟨v,cI,cL⟩
theorem WF.lM {m m1:Mem} (h:WF m) (ab:∀b,b<m.next->m1.ay b=m.ay b\/qT m.next (m1.ay b)):WF (m1.lM m.next) where
 dead:=fun b ch=>by have ch:m.next<=b:=ch;simp[Mem.lM,show ¬b<m.next by omega]
 low:=fun b=>by
  simp only[Mem.lM];split
  ·rename_i aO;rcases ab b aO with h1|h1
   ·rw[h1];exact h.low b
   ·exact h1
  ·exact arH
theorem zc {P:arl} (hz:P.follows .mixedOrders=arf):∀n,oz (hR P n)/\wX P (hR P n):=by
 intro n;induction n with
 |zero=>exact ⟨fun f args m v m' h=>h.elim,fun f args m v m' h=>h.elim⟩
 |succ n aU=>
  obtain ⟨bI,ht⟩:=aU;refine ⟨?_, ?_⟩
  ·intro f args m v m' h cn ai;rcases h with ⟨_,h⟩|h
   ·exact agY h cn
   obtain ⟨fn,c,e,fr,m1,vs,aK,ab,vT,bu,gV,he,pP,rfl,dd,hm⟩:=h;have cy:=Wd vT aK ab;have fB:∀t,low m.next ((args++asr (fn.ntmps - args.size) undef).getD t undef):=by
    intro t;rw[aub];cases aF:(args++asr (fn.ntmps - args.size) undef)[t]? with
    |none=>exact Cj
    |some x=>
     have:=aty aF;simp only[Array.mem_append,Array.mem_replicate] at this;rcases this with h|⟨_,rfl⟩
     ·exact ai x (by simpa using h)
     ·exact Cj
   obtain ⟨g1,g2,g3⟩:=zq bI n c _ _ _ _ _ cy.2.1 gV cn fB;rcases hm with rfl|⟨rfl,r1,hblk⟩
   ·refine ⟨?_,g1,g3⟩;have ao:∀(rs:List ResultVar) (vs:List arh),ov P fr m' rs vs->∀x∈vs,low m'.next x:=by
     intro rs;induction rs with
     |nil=>intro vs h x U;cases vs with|nil=>simp at U|cons _ _=>exact h.elim
     |cons r rs aU=>
      intro vs h x U;cases vs with
      |nil=>exact h.elim
      |cons u us=>
       rcases arA.1 U with rfl|U
       ·cases r with
        |tmp t=>have:=h.1;simp only[CU] at this;rw[this];exact g2 t
        |cell q t=>
         obtain ⟨b,off,_,d,aw,aa⟩:=h.1;split at aa
         ·obtain ⟨i,cs,af,dm,rfl⟩:=aa;simpa[low,gW] using GY g1 _ _ _ dm
         ·exact O1 (Ou g1 aa)
       ·exact aU us h.2 x U
    have kd:=ao _ _ pP;rcases dd with h1|h1
    ·match vs,h1 with
     |[x],_=>exact kd x (by simp)
    ·match vs with
     |[]=>intro x U;simp at U
     |[x]=>exact kd x (by simp)
     |x::y::l=>intro z aD;exact wy (kd z (by simpa using aD)) (h1 z (by simpa using aD))
   ·exact ⟨r1,cn.lM hblk,ars _⟩
  ·intro f args m v m' h j w fU cn ba tG;rcases h with ⟨vT,h⟩|h
   ·refine ⟨?_,agZ h cn ba tG⟩;cases aK:P.funcs[f]? with
    |none=>simp[kG,aK] at vT
    |some fn=>
     cases ab:fn.body with
     |none=>simp[kG,aK,ab] at vT
     |some c=>exact ⟨fn,rfl,(Gl vT aK ab).1,by simp[ab]⟩
   obtain ⟨fn,c,e,fr,m1,vs,aK,ab,vT,bu,gV,he,pP,rfl,dd,hm⟩:=h;have cy:=Wd vT aK ab;refine ⟨⟨fn,aK,cy.1,cy.2.2⟩, ?_⟩;have bM:iM [] j fn.ntmps (fun i=>(args++asr (fn.ntmps - args.size) undef).getD i undef) {tmps:=fU++asr (fn.ntmps - fU.size) undef,defers:=[]}:=
    ⟨agr tG fn.ntmps,rfl,by have:=tG.size;simp;omega⟩
   have ai:=zq bI n c _ _ _ _ _ cy.2.1 gV cn (bM.low ba);refine af1 hz bI ht aK ab cy.2.1 gV he ba cn bM fun ds a' w' bw an jl=> ?_;obtain ⟨mx,adr,fl⟩:=V0 an.rel jl _ _ pP;have hlen:=fl.length;have Mz:(results fn a'.tmps).run P w'= .ok (pack mx) w':=by
    simp only[results,arV];rw[Array.mapM_eq_mapM_toList];simp only[Sem.run_map];have ads:=adr;refine Eq.trans (congrArg (fun r=>at3 (at3 r _) _) ads) ?_;simp only[arN,ar0];congr 1
    match mx with
    |[]=>rfl
    |[x]=>rfl
    |x::y::l=>simp[pack]
   have qP:bU bw (pack vs) (pack mx):=by
    rcases dd with h1|h1
    ·match vs,mx,h1,fl with
     |[x],[y],_,ax=>exact ax.1
     |[x],[],_,ax=>exact ax.elim
     |[x],_::_::_,_,ax=>exact ax.2.elim
    ·have J:=V2 fl h1
     match vs,mx,fl,J with
     |[x],[y],ax,_=>exact ax.1
     |[],[],_,_=>exact ⟨_,rfl,arH⟩
     |x::y::l,gY::jt::iW,_,ax=>exact ⟨_,rfl,by simpa using ax⟩
     |[x],[],ax,_=>exact ax.elim
     |[x],_::_::_,ax,_=>exact ax.2.elim
     |[],_::_,ax,_=>exact ax.elim
     |_::_::_,[],ax,_=>exact ax.elim
     |_::_::_,[_],ax,_=>exact ax.2.elim
   have L3:∃sd,Post P j m w sd m' w'/\bU sd (pack vs) (pack mx):=by
    rcases hm with rfl|⟨rfl,r1,hblk⟩
    ·exact ⟨bw,an,qP⟩
    ·have ac7:=cn.lM hblk;have hrel:Rel P (bw.below m.next) (m1.lM m.next) w':=Rel.below (m:=m1.lM m.next) an.rel ac7 (fun b e ab aO=>by
      have aO:b<m.next:=aO;simp[Mem.lM,aO])
     refine ⟨bw.below m.next,⟨hrel,an.dA,ars _,fun b ab=> ?_,fun b e ab eT=> ?_,fun b ab ag=> ?_,fun b ab ag=> ?_⟩,wA.2.2 qP r1⟩
     ·simp only[bb.below,ab,if_true];exact an.ext b ab
     ·have:=(oy ab).1;omega
     ·simp only[Mem.lM,ab,if_true] at ag;exact an.cK b ab ag
     ·simp only[Mem.lM,ab,if_true] at ag;exact an.alive b ab ag
   obtain ⟨sd,aer,ae1⟩:=L3;exact ⟨_,Mz,_,sd,rfl,aer,ae1⟩
end Go.aQ
end
section
namespace Go.aQ
def xT (C lP:FuncId->Array arh->Mem->arh->Mem->Prop):Prop:=∀f args m v m',C f args m v m'->lP f args m v m'
theorem fM.mono {P:arl} {C lP:FuncId->Array arh->Mem->arh->Mem->Prop} (bI:xT C lP) {ae:arm->arh} {o:Oper} {m m':Mem} {v:arh} (h:fM P C ae o m v m'):fM P lP ae o m v m':=by
 cases h with
 |store t x y b off i L e h U af hm aa aq ai=>exact .store t x y b off i L e h U af hm aa aq ai
 |call f args v m' h acF=>exact .call f args v m' h (bI _ _ _ _ _ acF)
 |tt x y t u e i a l c h ak af U ad rZ ah=>exact .tt x y t u e i a l c h ak af U ad rZ ah
 |qq x y t u e i z a l c n cK new h ak af aD b3 cZ bu U ad ag iT ah av ab hm=>exact .qq x y t u e i z a l c n cK new h ak af aD b3 cZ bu U ad ag iT ah av ab hm
 |x6 x y t u e i b off l c k n L new h ak af U cJ hy ad hm ah av ai=>exact .x6 x y t u e i b off l c k n L new h ak af U cJ hy ad hm ah av ai
 |vn x y t u e i b off l c n L new h ak af U cJ ad hm ah av ai=>exact .vn x y t u e i b off l c n L new h ak af U cJ ad hm ah av ai
 |append x y t u e i z b off l n L new h ak af aD b3 cZ bu U gi tN ah av ab hm=>exact .append x y t u e i z b off l n L new h ak af aD b3 cZ bu U gi tN ah av ab hm
 |clear x t e i z b off l c L h ak af aD b3 cZ U hm dT ai=>exact .clear x t e i z b off l c L h ak af aD b3 cZ U hm dT ai
 |copy x y t u e i b off l c L cs h ak af U hm ah av ai=>exact .copy x y t u e i b off l c L cs h ak af U hm ah av ai
 |mapUpdate eE x fG fb u kt vt b L bX vc E E' gp h fX hu U gi aP lq K yC nn yD aK hk aM k0 BO sa BP eU=>exact .mapUpdate eE x fG fb u kt vt b L bX vc E E' gp h fX hu U gi aP lq K yC nn yD aK hk aM k0 BO sa BP eU
theorem nX.mono {P:arl} {C lP:FuncId->Array arh->Mem->arh->Mem->Prop} (bI:xT C lP) {ae:arm->arh} {o:Oper} {m m':Mem} {v:arh} (h:nX P C ae o m v m'):nX P lP ae o m v m':=by
 cases h with
 |pure h=>exact .pure h
 |read h=>exact .read h
 |new h=>exact .new h
 |ev h=>exact .ev (h.mono bI)
theorem Ch {P:arl} {C lP:FuncId->Array arh->Mem->arh->Mem->Prop} (bI:xT C lP) {ops:List Oper}:∀(l:List Oper) (fr fr':Nat->arh) (m m':Mem),iZ P C ops l fr m fr' m'->iZ P lP ops l fr m fr' m'
 |[],fr,fr',m,m',h=>h
 |o::l,fr,fr',m,m',h=>by
  simp only[iZ] at h⊢;split at h
  ·rename_i hw;rw[if_pos hw];obtain ⟨v,m1,h1,J⟩:=h;exact ⟨v,m1,h1.mono bI,Ch bI l _ _ _ _ J⟩
  ·rename_i hw;rw[if_neg hw];exact Ch bI l _ _ _ _ h
theorem uq {P:arl} {C lP:FuncId->Array arh->Mem->arh->Mem->Prop} (bI:xT C lP) {ops:List Oper} {B:Array Nat}:∀(l:List Oper) (i:Nat) (A:Acc) (fr fr':Nat->arh) (m m':Mem),fZ P C ops B i l A fr m fr' m'->fZ P lP ops B i l A fr m fr' m'
 |[],i,A,fr,fr',m,m',h=>h
 |o::l,i,A,fr,fr',m,m',h=>by
  simp only[fZ] at h⊢;split at h
  ·rename_i hw;rw[if_pos hw];rcases h with ⟨v,an,aw⟩|⟨v,an,ag,aw⟩|⟨X,v,an,aw⟩|⟨v,m1,an,h1,J,aw⟩
   ·exact .inl ⟨v,an,uq bI l _ _ _ _ _ _ aw⟩
   ·exact .inr (.inl ⟨v,an,ag,uq bI l _ _ _ _ _ _ aw⟩)
   ·exact .inr (.inr (.inl ⟨X,v,an,uq bI l _ _ _ _ _ _ aw⟩))
   ·exact .inr (.inr (.inr ⟨v,m1,an.mono bI,h1,J,uq bI l _ _ _ _ _ _ aw⟩))
  ·rename_i hw;rw[if_neg hw];exact uq bI l _ _ _ _ _ _ h
theorem Wp {P:arl} {C lP:FuncId->Array arh->Mem->arh->Mem->Prop} (bI:xT C lP):∀(n n':Nat),n<=n'->∀(c:Code) (fr fr':Nat->arh) (m m':Mem) (e:dF),j4 P C n c fr m e fr' m'->j4 P lP n' c fr m e fr' m':=by
 intro n;induction n with
 |zero=>intro n' _ c fr fr' m m' e h;exact h.elim
 |succ n aU=>
  intro n' av c fr fr' m m' e h;cases n' with
  |zero=>omega
  |succ n'=>
   have lv:n<=n':=by omega
   cases c with
   |skip=>exact h
   |label l=>exact h
   |exit id=>exact h
   |ret=>exact h
   |region id ops d=>
    cases d with
    |false=>exact ⟨h.1,Ch bI _ _ _ _ _ h.2⟩
    |true=>exact ⟨h.1,uq bI _ _ _ _ _ _ _ h.2⟩
   |seq a b=>
    rcases h with ⟨aT,cd,m1,h1,J⟩|h
    rotate_left
    ·exact .inr h
    refine .inl ⟨aT,cd,m1,aU n' lv _ _ _ _ _ _ h1, ?_⟩;split at J
    ·rename_i he;rw[if_pos he];exact aU n' lv _ _ _ _ _ _ J
    ·rename_i he;rw[if_neg he];exact J
   |cond c a b=>obtain ⟨t,ak,h1⟩:=h;exact ⟨t,ak,aU n' lv _ _ _ _ _ _ h1⟩
   |scope c=>exact aU n' lv _ _ _ _ _ _ h
   |block id c=>obtain ⟨aT,h1,he⟩:=h;exact ⟨aT,aU n' lv _ _ _ _ _ _ h1,he⟩
   |loop c=>
    obtain ⟨aT,cd,m1,h1,J⟩:=h;refine ⟨aT,cd,m1,aU n' lv _ _ _ _ _ _ h1, ?_⟩;split at J
    ·rename_i he;rw[if_pos he];exact aU n' lv _ _ _ _ _ _ J
    ·rename_i he;rw[if_neg he];exact J
   |rangeFunc f bx x y=>exact h.elim
   |goto l=>exact h.elim
   |refuse s=>exact h.elim
theorem wx {P:arl}:∀(n n':Nat),n<=n'->xT (hR P n) (hR P n'):=by
 intro n;induction n with
 |zero=>intro n' _ f args m v m' h;exact h.elim
 |succ n aU=>
  intro n' av f args m v m' h;cases n' with
  |zero=>omega
  |succ n'=>
   rcases h with h|h
   ·exact .inl h
   obtain ⟨fn,c,e,fr,m1,vs,aK,ab,cy,bu,gV,rest⟩:=h;exact .inr ⟨fn,c,e,fr,m1,vs,aK,ab,cy,bu,Wp (aU n' (by omega)) n n' (by omega) _ _ _ _ _ _ gV,rest⟩
def fR (P:arl) (f:FuncId) (args:Array arh) (m:Mem) (R:arh->Mem->Prop):Prop:=∃n v m',hR P n f args m v m'/\R v m'
def W (P:arl) (c:Code) (Q:dF->(Nat->arh)->Mem->Prop) (fr:Nat->arh) (m:Mem):Prop:=∃n e fr' m',j4 P (hR P n) n c fr m e fr' m'/\Q e fr' m'
def mv (P:arl) (ae:arm->arh) (o:Oper) (m:Mem) (K:arh->Mem->Prop):Prop:=∃n v m',nX P (hR P n) ae o m v m'/\K v m'
def fc (P:arl) (ops l:List Oper) (K:(Nat->arh)->Mem->Prop) (fr:Nat->arh) (m:Mem):Prop:=∃n fr' m',iZ P (hR P n) ops l fr m fr' m'/\K fr' m'
def gn (P:arl) (ops:List Oper) (B:Array Nat) (i:Nat) (l:List Oper) (A:Acc) (K:(Nat->arh)->Mem->Prop) (fr:Nat->arh) (m:Mem):Prop:=∃n fr' m',fZ P (hR P n) ops B i l A fr m fr' m'/\K fr' m'
section
variable {P:arl} {Q AI:dF->(Nat->arh)->Mem->Prop} {fr:Nat->arh} {m:Mem}
theorem fR.mono {f:FuncId} {args:Array arh} {R SR:arh->Mem->Prop} (h:fR P f args m R) (ao:∀v m',R v m'->SR v m'):fR P f args m SR:=
 let ⟨n,v,m',h1,J⟩:=h;⟨n,v,m',h1,ao _ _ J⟩
theorem W.mono {c:Code} (h:W P c Q fr m) (aF:∀e fr m,Q e fr m->AI e fr m):W P c AI fr m:=
 let ⟨n,e,fr',m',h1,J⟩:=h;⟨n,e,fr',m',h1,aF _ _ _ J⟩
theorem W.skip (h:Q .normal fr m):W P .skip Q fr m:=⟨1,_,_,_,⟨rfl,rfl,rfl⟩,h⟩
theorem W.label {l:Nat} (h:Q .normal fr m):W P (.label l) Q fr m:=⟨1,_,_,_,⟨rfl,rfl,rfl⟩,h⟩
theorem W.exit {id:Nat} (h:Q (.exit id) fr m):W P (.exit id) Q fr m:=⟨1,_,_,_,⟨rfl,rfl,rfl⟩,h⟩
theorem W.ret (h:Q .ret fr m):W P .ret Q fr m:=⟨1,_,_,_,⟨rfl,rfl,rfl⟩,h⟩
def ZX (next:(Nat->arh)->Mem->Prop) (Q:dF->(Nat->arh)->Mem->Prop):dF->(Nat->arh)->Mem->Prop
 | .normal,fr,m=>next fr m
 |e,fr,m=>Q e fr m
def oP (id:Nat) (Q:dF->(Nat->arh)->Mem->Prop):dF->(Nat->arh)->Mem->Prop
 | .exit yT,fr,m=>if yT=id then Q .normal fr m else Q (.exit yT) fr m
 |e,fr,m=>Q e fr m
theorem p5 {n N k:Nat} (h:n<=N) (hk:n<=k) {c:Code} {fr fr':Nat->arh} {m m':Mem} {e:dF} (ad:j4 P (hR P n) n c fr m e fr' m'):j4 P (hR P N) k c fr m e fr' m':=Wp (wx n N h) n k hk _ _ _ _ _ _ ad
theorem W.seq {a b:Code} (h:W P a (ZX (W P b Q) Q) fr m):W P (.seq a b) Q fr m:=by
 obtain ⟨n,e,cd,m1,h1,J⟩:=h;cases e with
 |normal=>obtain ⟨hQ,e2,ff,m2,aj,aJ⟩:=J;exact ⟨max n hQ+1,e2,ff,m2, .inl ⟨_,_,_,p5 (by omega) (by omega) h1,by rw[if_pos rfl];exact p5 (by omega) (by omega) aj⟩,aJ⟩
 |exit id=>exact ⟨n+1,_,cd,m1, .inl ⟨_,_,_,p5 (by omega) (by omega) h1,by rw[if_neg (by simp)];exact ⟨rfl,rfl,rfl⟩⟩,J⟩
 |ret=>exact ⟨n+1,_,cd,m1, .inl ⟨_,_,_,p5 (by omega) (by omega) h1,by rw[if_neg (by simp)];exact ⟨rfl,rfl,rfl⟩⟩,J⟩
theorem W.cond {c:arm} {a b:Code} {t:Bool} (ak:aL fr c= .bool t) (h:W P (if t then a else b) Q fr m):W P (.cond c a b) Q fr m:=by
 obtain ⟨n,e,cd,m1,h1,J⟩:=h;exact ⟨n+1,e,cd,m1,⟨t,ak,p5 (by omega) (by omega) h1⟩,J⟩
theorem W.block {id:Nat} {c:Code} (h:W P c (oP id Q) fr m):W P (.block id c) Q fr m:=by
 obtain ⟨n,e,cd,m1,h1,J⟩:=h;refine ⟨n+1,_,cd,m1,⟨e,p5 (by omega) (by omega) h1,rfl⟩, ?_⟩;cases e with
 |normal=>simpa[oP] using J
 |exit yT=>
  simp only[oP] at J;by_cases he:yT=id
  ·subst he;simpa using J
  ·simp only[he,if_false] at J;simp only[dF.exit.injEq,he,if_false];exact J
 |ret=>simpa[oP] using J
theorem W.scope {c:Code} (h:W P c Q fr m):W P (.scope c) Q fr m:=by
 obtain ⟨n,e,cd,m1,h1,J⟩:=h;exact ⟨n+1,e,cd,m1,(show j4 P (hR P (n+1)) n c fr m e cd m1 from p5 (by omega) (by omega) h1),J⟩
theorem W.afE {c:Code} (h:W P c (ZX (W P (.loop c) Q) Q) fr m):W P (.loop c) Q fr m:=by
 obtain ⟨n,e,cd,m1,h1,J⟩:=h;cases e with
 |normal=>obtain ⟨hQ,e2,ff,m2,aj,aJ⟩:=J;exact ⟨max n hQ+1,e2,ff,m2,⟨_,_,_,p5 (by omega) (by omega) h1,by rw[if_pos rfl];exact p5 (by omega) (by omega) aj⟩,aJ⟩
 |exit id=>exact ⟨n+1,_,cd,m1,⟨_,_,_,p5 (by omega) (by omega) h1,by rw[if_neg (by simp)];exact ⟨rfl,rfl,rfl⟩⟩,J⟩
 |ret=>exact ⟨n+1,_,cd,m1,⟨_,_,_,p5 (by omega) (by omega) h1,by rw[if_neg (by simp)];exact ⟨rfl,rfl,rfl⟩⟩,J⟩
theorem W.region {id:Nat} {ops:Array Oper} (h:fc P ops.toList ops.toList (Q .normal) fr m):W P (.region id ops arj) Q fr m:=by
 obtain ⟨n,fr',m',h1,J⟩:=h;exact ⟨n+1, .normal,fr',m',⟨rfl,Ch (wx _ _ (ar7 _)) _ _ _ _ _ h1⟩,J⟩
theorem W.draw {id:Nat} {ops:Array Oper} (h:gn P ops.toList (asa ops) 0 ops.toList ⟨[],[],[]⟩ (Q .normal) fr m):W P (.region id ops arf) Q fr m:=by
 obtain ⟨n,fr',m',h1,J⟩:=h;exact ⟨n+1, .normal,fr',m',⟨rfl,uq (wx _ _ (ar7 _)) _ _ _ _ _ _ _ h1⟩,J⟩
end
section
variable {P:arl} {ops l:List Oper} {K:(Nat->arh)->Mem->Prop} {fr:Nat->arh} {m:Mem} {o:Oper}
theorem fc.nil (h:K fr m):fc P ops [] K fr m:=⟨0,_,_,⟨rfl,rfl⟩,h⟩
theorem fc.skip (aM:wanted ops fr o=arj) (h:fc P ops l K (set fr o.dst undef) m):fc P ops (o::l) K fr m:=by
 obtain ⟨n,fr',m',h1,J⟩:=h;refine ⟨n,fr',m', ?_,J⟩;simp only[iZ];rw[if_neg (by simp[aM])];exact h1
theorem fc.cons (aM:wanted ops fr o=arf) (h:mv P (aL fr) o m fun v m1=>fc P ops l K (set fr o.dst v) m1):fc P ops (o::l) K fr m:=by
 obtain ⟨n,v,m1,aq,hQ,fr',m',h1,J⟩:=h;refine ⟨max n hQ,fr',m', ?_,J⟩;simp only[iZ];rw[if_pos aM];exact ⟨v,m1,aq.mono (wx _ _ (Nat.le_max_left _ _)),Ch (wx _ _ (Nat.le_max_right _ _)) _ _ _ _ _ h1⟩
theorem mv.pure {ae:arm->arh} {R:arh->Mem->Prop} {v:arh} (h:cm P ae o v) (hk:R v m):mv P ae o m R:=⟨0,v,m, .pure h,hk⟩
theorem mv.read {ae:arm->arh} {R:arh->Mem->Prop} {v:arh} (h:dX P ae o m v) (hk:R v m):mv P ae o m R:=⟨0,v,m, .read h,hk⟩
theorem mv.new {ae:arm->arh} {R:arh->Mem->Prop} {v:arh} {X:aV} (h:hI P ae o m.next X v) (hk:R v (m.push X)):mv P ae o m R:=⟨0,v,_, .new h,hk⟩
theorem mv.ev {ae:arm->arh} {R:arh->Mem->Prop} {v:arh} {m':Mem} {n:Nat} (h:fM P (hR P n) ae o m v m') (hk:R v m'):mv P ae o m R:=⟨n,v,m', .ev h,hk⟩
end
theorem fR.enter {P:arl} {f:FuncId} {fn:Func} {c:Code} {args:Array arh} {m:Mem} {R:arh->Mem->Prop} (aK:P.funcs[f]? =are fn) (ab:p8 P fn c) (cy:kG P f=arf) (bu:args.size<=fn.ntmps)
  (h:W P c (fun e fr m1=>(e= .normal\/e= .ret)/\∃vs,ov P fr m1 fn.results.toList vs/\(vs.length=1\/∀x∈vs,storable x=arf)/\
   (R (pack vs) m1\/(R (pack vs) (m1.lM m.next)/\low m.next (pack vs)/\∀b,b<m.next->m1.ay b=m.ay b\/qT m.next (m1.ay b))))
   (fun i=>(args++asr (fn.ntmps - args.size) undef).getD i undef) m):fR P f args m R:=by
 obtain ⟨n,e,fr,m1,h1,he,vs,aa,aq,ba⟩:=h;rcases ba with ba|⟨ba,ai,tH⟩
 ·exact ⟨n+1,_,_, .inr ⟨fn,c,e,fr,m1,vs,aK,ab,cy,bu,h1,he,aa,rfl,aq, .inl rfl⟩,ba⟩
 ·exact ⟨n+1,_,_, .inr ⟨fn,c,e,fr,m1,vs,aK,ab,cy,bu,h1,he,aa,rfl,aq, .inr ⟨rfl,ai,tH⟩⟩,ba⟩
theorem fR.sort {P:arl} {f:FuncId} {args:Array arh} {m m':Mem} {v:arh} {R:arh->Mem->Prop} (cy:kG P f=arf) (h:rA P f args m v m') (ba:R v m'):fR P f args m R:=⟨1,v,m', .inl ⟨cy,h⟩,ba⟩
def gS (w:World):bb:=fun b=>if b<w.heap.size then are ⟨b,0,0,0⟩ else ari
def xu (b:Nat):arh->Option arh
 | .slice (are _) 0 0=>are (.slice (are ⟨b,0,ari⟩) 0 0)
 |_=>ari
open Classical in
noncomputable def gK (w:World):Mem:={next:=w.heap.size,ay:=fun b=>if b<w.heap.size then .ro (fun i=>match w.cell? ⟨b,i,ari⟩ with|some v=>if dr (gS w) v v then are v else xu b v|none=>ari) else .dead}
theorem WB {b:Nat} {v u:arh} (h:xu b v=are u):∃a,v= .slice (are a) 0 0/\u= .slice (are ⟨b,0,ari⟩) 0 0:=by
 unfold xu at h;split at h
 ·cases h;exact ⟨_,rfl,rfl⟩
 ·cases h
theorem wM {w:World} {b:Nat} {e:iL} (h:gS w b=are e):b<w.heap.size/\e.ay=b:=by
 unfold gS at h;split at h
 ·cases h;exact ⟨‹_›,rfl⟩
 ·cases h
theorem Yz {w:World} {b:Nat} {e:iL} (h:gS w b=are e):e.c0=0:=by
 unfold gS at h;split at h
 ·cases h;rfl
 ·cases h
theorem aha {w:World} {b i:Nat} {v:arh} (h:w.cell? ⟨b,i,ari⟩=are v) (aa:dr (gS w) v v):(gK w).load b i=are v:=by
 have aO:b<w.heap.size:=aui w ⟨b,i,ari⟩ h;simp[Mem.load,gK,aO,h,aa]
theorem Yt (w:World):WF (gK w) where
 dead:=fun b ab=>by have ab:w.heap.size<=b:=ab;simp[gK,show ¬b<w.heap.size by omega]
 low:=fun b=>by
  simp only[gK];split
  ·intro i v af;simp only at af;split at af
   ·split at af
    ·rename_i aa;cases af;exact (Hi (fun b e h=>(wM h).1)).1 aa
    ·obtain ⟨a,_,rfl⟩:=WB af;assumption
   ·cases af
  ·exact arH
theorem ah8 (P:arl) (w:World) (ak:iu P w):Rel P (gS w) (gK w) w:=by
 refine ⟨⟨?_, ?_, ?_⟩,ak,fun b e ab ag=>by obtain ⟨h1,J⟩:=wM ab;simp[gK,h1,aV.gj] at ag⟩
 ·intro b e ab;obtain ⟨h1,J⟩:=wM ab;exact ⟨h1,by rw[J];exact h1⟩
 ·intro b e ab;obtain ⟨h1,J⟩:=wM ab;simp only[gK,h1,if_true];intro i v af;simp only at af;have cell:∀u,w.cell? ⟨b,i,ari⟩=are u->∃(cs:Array arh) (t:arn) (a6:Nat×Nat),w.heap[e.ay]? =are (.cells cs t a6)/\cs[i]? =are u:=by
   intro u hu;rw[J];simp only[atl] at hu;split at hu
   ·rename_i c t f ad;exact ⟨c,t,f,ad,by simpa using hu⟩
   ·cases hu
  split at af
  ·rename_i u hu;obtain ⟨cs,t,a6,g1,g2⟩:=cell u hu;split at af
   ·rename_i aa;cases af;exact ⟨cs,t,a6,_,g1,by rw[Yz ab,arE];exact g2,aa⟩
   ·obtain ⟨a,rfl,rfl⟩:=WB af;exact ⟨cs,t,a6,_,g1,by rw[Yz ab,arE];exact g2,e,rfl,ab, .inr (.inr (.inr (.inl ⟨rfl,rfl,a,rfl⟩)))⟩
  ·cases af
 ·intro b bV e bp ab ch ag;obtain ⟨h1,J⟩:=wM ab;simp[gK,h1,aV.gj] at ag
theorem agi {P:arl} (hz:P.follows .mixedOrders=arf) {f:FuncId} {args:Array arh} {w:World} (ak:iu P w) (tG:∀a∈args.toList,bU (gS w) a a) (h:fR P f args (gK w) fun v _=>v= .bool arf):
  Calls P f args w fun e w'=>e= .returned (.bool arf)/\RowKit.Below w.heap.size w w':=by
 obtain ⟨n,v,m',h1,rfl⟩:=h;have aq:=(zc hz n).2 f args (gK w) _ m' h1 (gS w) w args (Yt w) (ah8 P w ak) (by
  have:∀l:List arh,(∀a∈l,bU (gS w) a a)->a1 (bU (gS w)) l l:=by
   intro l;induction l with
   |nil=>intro _;exact arH
   |cons a l aU=>intro h;exact ⟨h a (by simp),aU fun b ab=>h b (by simp[ab])⟩
  exact this _ tG)
 refine aq.2.mono ?_;rintro e w' ⟨aS,bw,rfl,an,aa⟩;have fl:=aa.bool;subst fl;refine ⟨rfl,an.dA.os,an.dA.tape,an.dA.output,an.dA.size,fun k hk=>an.dA.block k hk fun b e ab ag=> ?_⟩;obtain ⟨h1,J⟩:=wM ab;simp[gK,h1,aV.gj] at ag
end Go.aQ
end
