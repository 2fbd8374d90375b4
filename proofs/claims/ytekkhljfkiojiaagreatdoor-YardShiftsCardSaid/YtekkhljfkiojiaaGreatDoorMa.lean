import Derived.Calls
import Derived.Orders
import Derived.Tactics
import Derived.Below
import Derived.Defers
import Derived.WalkKit
import Derived.WalkSpells
import Derived.Scope
set_option linter.defProp false
set_option linter.unusedSimpArgs false
set_option linter.unusedVariables false
open Array renaming ext'->Ii,getD->Tp,getD_eq_getD_getElem?->Yr,getElem?_append_left->Ys,getElem?_eq_some_iff->Ij,isEmpty_iff->Yt,mapM_eq_mapM_toList->afM,range->tW,replicate->nj,size_setIfInBounds->afN,toList_append->Yu,toList_extract->Yv,toList_map->ye
open BitVec renaming ofInt->qC
open Bool renaming and_eq_true->fx,false_eq_true->Yx,false->ak,true->aa
open Function renaming comp->YD
open Go renaming IntKind->aG,Operand->bS,Program->bI,TypeId->bV,Value->af
open Go.Act renaming put->qB
open Go.Builtin renaming append_->tZ,firstCells->qD,lenOf->Tq,zeroCells->yf
open Go.Call renaming operands->lh
open Go.Conv renaming bytesToString->YB
open Go.Instr renaming indexAt->YO,lookup->Av,mapUpdate->YP,slice->vL,sliceAt->vM,sliceBound->mL,sliceBounds->jc,sureAddr->yj
open Go.IntKind renaming i64->Aw,wrap->aO,wrap_i64->vN
open Go.Op renaming operands->dm,stringOp->vS
open Go.Oper renaming wp->sM
open Go.Program renaming cellsOf->nY
open Go.Question renaming forced->TK
open Go.Region renaming before->kp,binds->rC,ready->AL,wanted->qK
open Go.Result renaming andThen->Zg,andThen_ok->jE
open Go.Sem renaming run_bind->kD,run_pure->nt
open Go.Value renaming int->mu
open Go.World renaming block_lt_of_cell?->I8,cell?->rG
open List renaming all_cons->ml,all_eq_true->iA,eq_nil_of_length_eq_zero->yl,ext_getElem?->rv,getElem?_cons_succ->qH,getElem?_cons_zero->IJ,getElem?_eq_some_iff->fq,getElem?_map->sH,getElem?_toArray->IK,map_cons->rA,map_nil->TA,map_toArray->YX,mem_append->kU,mem_cons->ha,mem_map->l2,mem_of_getElem?->mM,mem_singleton->IM,range->mN,replicate->gb
open Nat renaming add_assoc->sK,add_mul->ko,add_mul_div_right->TH,add_zero->pS,le_of_lt->lG,le_refl->e4,le_succ->mo,le_trans->jd,lt_of_le_of_lt->TI,lt_of_lt_of_le->hS,lt_or_ge->mq,lt_succ_self->pT,lt_trichotomy->TJ,min->rB,mul_le_mul_right->oH,not_lt->vP,strongRecOn->Y0,zero_add->lH,zero_le->pn
open Option renaming isSome_iff_exists->agh,map_none->IW,map_some->vU,some->kB,none->ae,some->J
open True renaming intro->fs
section
namespace Go.aF
def dc:Nat:=9223372036854775808
structure kl where
 blk:Nat
 cap:Nat
 es:Nat
 db:Nat
def cj:Type:=Nat->Option kl
inductive bW where
 |dead
 |ro (rd:Nat->Option af)
 |own (cells:List af) (elem:bV)
 |map (cells:List af) (type:bV)
 |lock (nest at_:Nat) (cells:List af) (elem:bV)
def bW.iO:bW->Bool| .own _ _| .map _ _=>aa|_=>ak
def bW.live:bW->Bool| .dead=>ak|_=>aa
structure Mem where
 next:Nat
 blk:Nat->bW
def Mem.load (m:Mem) (b o:Nat):Option af:=match m.blk b with| .ro rd=>rd o| .own L _=>L[o]?| .map _ _=>ae| .lock _ _ _ _=>ae| .dead=>ae
def Mem.put (m:Mem) (b:Nat) (x:bW):Mem:={m with blk:=λi=>if i=b then x else m.blk i}
def Mem.push (m:Mem) (x:bW):Mem:={next:=m.next+1,blk:=λi=>if i=m.next then x else m.blk i}
def Mem.nf (m:Mem) (n:Nat):Mem:={next:=n,blk:=λi=>if i<n then m.blk i else .dead}
def bP {aK cg:Type} (R:aK->cg->Prop):List aK->List cg->Prop|[],[]=>True|a::l,b::k=>R a b/\bP R l k|_,_=>False
def kY (j:cj):af->af->Prop| .pointer (J a),bz=>∃e,a.spot=ae/\j a.block=J e/\bz= .pointer (J ⟨e.blk,e.db+a.off,ae⟩)|_,_=>False
def eA (j:cj):af->af->Prop
 | .pointer (J a),bz=>∃e,a.spot=ae/\j a.block=J e/\bz= .pointer (J ⟨e.blk,e.db+a.off,ae⟩)
 | .slice (J a) l c,bz=>∃e,a.spot=ae/\j a.block=J e/\
   ((c<dc/\bz= .slice (J ⟨e.blk,e.db+a.off,ae⟩) l c)\/
    (c=dc/\0<e.es/\l<=e.cap - a.off / e.es/\e.cap<dc/\a.off%e.es=0/\a.off / e.es<=e.cap/\bz= .slice (J ⟨e.blk,e.db+a.off,ae⟩) l (e.cap - a.off / e.es))\/
    (c=dc/\l=0/\∃o',bz= .slice (J ⟨e.blk,o',ae⟩) 0 0)\/
    (c=0/\l=0/\∃a',bz= .slice (J a') 0 0)\/
    (∃k,c=dc+k/\0<k/\l<=k/\0<e.es/\k<=e.cap - a.off / e.es/\e.cap<dc/\a.off%e.es=0/\a.off / e.es<=e.cap/\bz= .slice (J ⟨e.blk,e.db+a.off,ae⟩) l (e.cap - a.off / e.es)))
 | .map (J r),bz=>∃e,j r=J e/\bz= .map (J e.blk)
 | .func fn bY cs,bz=>bY=#[]/\∃ds:Array af,bz= .func fn #[] ds/\bP (kY j) cs.toList ds.toList
 | .chan _,_| .iface ..,_| .agg _,_| .tuple _,_=>False
 |v,bz=>bz=v
def fC (j:cj):af->af->Prop| .agg cs,bz=>∃ds:Array af,bz= .agg ds/\bP (eA j) cs.toList ds.toList|v,bz=>eA j v bz
def de (j:cj):af->af->Prop| .chan ae,bz=>∀b,bz≠ .bool b| .chan (J k),bz=>bz= .pointer (J ⟨k / 4096,k%4096,ae⟩)| .tuple cs,bz=>∃ds:Array af,bz= .tuple ds/\bP (fC j) cs.toList ds.toList| .func fn bY cs,bz=>∃gs ds:Array af,bz= .func fn gs ds/\bP (fC j) bY.toList gs.toList/\bP (fC j) cs.toList ds.toList|v,bz=>fC j v bz
def dy:af->Bool| .bool _| .int _ _| .float _ _| .complex _ _ _| .string _| .pointer ae| .slice ae _ _| .map ae| .nilFunc| .nilIface=>aa| .func _ bY cs=>bY.isEmpty&&cs.isEmpty|_=>ak
def lI:TypeDesc->Bool| .struct _| .array _ _=>aa|_=>ak
def ek (P:bI) (t:bV):Bool:=match P.underlying t with|some d=>lI d|none=>ak
def ey:Bool->List af->af|true,cs=> .agg cs.toArray|false,cs=>cs.headD undef
structure qG (ks vs:Nat) (L:List af) (E:List (List af×List af)):Prop where
 eq:L=E.flatMap λp=>p.1++p.2
 len:∀p∈E,p.1.length=ks/\p.2.length=vs
def ub (P:bI) (j:cj) (bG bA:bV) (p:List af×List af) (x:MapEntry):Prop:=x.key=ey (ek P bG) p.1/\p.1.all dy=aa/\fC j (ey (ek P bA) p.2) x.val
def zy (cs:Array MapEntry) (clock:Nat):Prop:=(cs.toList.map (·.born)).Nodup/\∀x∈cs.toList,x.born<clock
def qI (P:bI) (j:cj) (e:kl) (o:Option Obj):bW->Prop
 | .dead=>True
 | .ro rd=>∀i v,rd i=J v->∃(cs:Array af) (t:bV) (bZ:Nat×Nat) (bz:af),o=J (.cells cs t bZ)/\cs[e.db+i]? =J bz/\eA j v bz
 | .own L t=>∃(cs:Array af) (bZ:Nat×Nat),o=J (.cells cs t bZ)/\(∀i:Nat,i<cs.size->¬(bZ.1<=i/\i<bZ.2))/\
  P.cellsOf t=e.es/\e.db+e.cap*e.es<=cs.size/\L.length<=e.cap*e.es/\∀(i:Nat) (v:af),L[i]? =J v->∃bz,cs[e.db+i]? =J bz/\eA j v bz
 | .map L u=>∃(bG bA:bV) (cs:Array MapEntry) (clock:Nat) (E:List (List af×List af)),o=J (.map cs clock)/\P.underlying u=J (.map bG bA)/\
  qG (P.cellsOf bG) (P.cellsOf bA) L E/\bP (ub P j bG bA) E cs.toList/\zy cs clock
 | .lock _ _ _ _=>False
def X7 (P : bI) (g : Nat) : Prop := P.globalNamed "internal/bytealg.MaxLen" = J g ∨ P.globalNamed "internal/strconv.uint64pow10" = J g ∨ P.globalNamed "humpyard/yardgen.dests" = J g
def p2:List (List UInt8):=[[97],[98],[99],[100],[101],[102,97,114]]
structure rE (P:bI) (w:World):Prop where
 len : ∀ g, P.globalNamed "internal/bytealg.MaxLen" = J g → ∃ m, w.cell? ⟨g, 0, ae⟩ = J (.int .i64 m)
 pow : ∀ g, P.globalNamed "internal/strconv.uint64pow10" = J g → w.var? P "internal/strconv.uint64pow10" = J ((mN 20).map fun i => mu .u64 ((10 ^ i : Nat) : Int)).toArray
 P8 : ∀ g, P.globalNamed "humpyard/yardgen.dests" = J g → ∀ n s, p2[n]? = J s → w.cell? ⟨g, n, ae⟩ = J (.string ⟨s.toArray⟩)
structure I6 (P:bI) (j:cj) (m:Mem) (w:World):Prop where
 val:rE P w
 sep:∀b e,j b=J e->(m.blk b).iO=aa->¬X7 P e.blk
structure Zf (P:bI) (j:cj) (m:Mem) (w:World):Prop where
 lt:∀b e,j b=J e->b<m.next/\e.blk<w.heap.size
 obj:∀b e,j b=J e->qI P j e w.heap[e.blk]? (m.blk b)
 inj:∀b dJ e cz,j b=J e->j dJ=J cz->(m.blk b).iO=aa->(m.blk dJ).live=aa->e.blk=cz.blk->b=dJ
structure Rel (P:bI) (j:cj) (m:Mem) (w:World):Prop extends Zf P j m w where
 mE:I6 P j m w
structure sC (j:cj) (m:Mem) (w w':World):Prop where
 os:w'.os=w.os
 tape:w'.tape=w.tape
 output:w'.output=w.output
 size:w.heap.size<=w'.heap.size
 block:∀c,c<w.heap.size->(∀b e,j b=J e->(m.blk b).iO=aa->e.blk≠c)->w'.heap[c]? =w.heap[c]?
structure Post (P:bI) (j:cj) (m:Mem) (w:World) (c6:cj) (m':Mem) (w':World):Prop where
 rel:Rel P c6 m' w'
 gd:sC j m w w'
 next:m.next<=m'.next
 ext:∀b,b<m.next->c6 b=j b
 fresh:∀b e,c6 b=J e->m.next<=b->w.heap.size<=e.blk\/∃fz eV,j fz=J eV/\(m.blk fz).iO=aa/\eV.blk=e.blk
 ew:∀b,b<m.next->(m'.blk b).iO=aa->(m.blk b).iO=aa
 alive:∀b,b<m.next->(m'.blk b).live=aa->(m.blk b).live=aa
def rE.lt {P:bI} {w:World} (h:rE P w) {g:Nat} (bs:X7 P g):g<w.heap.size:=by
 rcases bs with bs|bs|bs
 ·obtain ⟨m,hm⟩:=h.len g bs;exact I8 w ⟨g,0,ae⟩ hm
 rotate_left
 ·exact I8 w ⟨g,0,ae⟩ (h.P8 g bs 0 _ rfl)
 ·have:=h.pow g bs
  grind [World.var?]
def rE.keep {P:bI} {w w':World} (h:rE P w) (hk:∀g,X7 P g->w'.heap[g]? =w.heap[g]?):rE P w':=
 ⟨λg bs=>by obtain ⟨m,hm⟩:=h.len g bs;exact ⟨m,by rw[<-hm];simp only[rG,hk g (.inl bs)]⟩,
  λg bs=>by rw[<-h.pow g bs];simp only[World.var?,bs,Option.bind_some,hk g (.inr (.inl bs))],
  λg bs n s bf=>by rw[<-h.P8 g bs n s bf];simp only[rG,hk g (.inr (.inr bs))]⟩
def I6.step {P:bI} {j c6:cj} {m m':Mem} {w w':World} (t:I6 P j m w) (bF:sC j m w w') (he:∀b,b<m.next->c6 b=j b)
  (bB:∀b e,c6 b=J e->m.next<=b->w.heap.size<=e.blk\/∃fz eV,j fz=J eV/\(m.blk fz).iO=aa/\eV.blk=e.blk) (aM:∀b,b<m.next->(m'.blk b).iO=aa->(m.blk b).iO=aa):I6 P c6 m' w':=
 ⟨t.val.keep λg bs=>bF.block g (t.val.lt bs) λb e aw cG h=>t.sep b e aw cG (h▸bs),λb e aw cG bs=>by
  rcases mq b m.next with cF|hA
  ·exact t.sep b e ((he b cF).symm.trans aw) (aM b cF cG) bs
  ·rcases bB b e aw hA with h1|⟨fz,eV,h1,ai,aT⟩
   ·exact absurd (t.val.lt bs) (vP.2 h1)
   ·exact t.sep fz eV h1 ai (aT▸bs)⟩
def Post.of {P:bI} {j c6:cj} {m m':Mem} {w w':World} (r:Rel P j m w) (rel:Zf P c6 m' w') (gd:sC j m w w') (next:m.next<=m'.next) (ext:∀b,b<m.next->c6 b=j b)
  (fresh:∀b e,c6 b=J e->m.next<=b->w.heap.size<=e.blk\/∃fz eV,j fz=J eV/\(m.blk fz).iO=aa/\eV.blk=e.blk) (ew:∀b,b<m.next->(m'.blk b).iO=aa->(m.blk b).iO=aa) (alive:∀b,b<m.next->(m'.blk b).live=aa->(m.blk b).live=aa):Post P j m w c6 m' w':=
 ⟨⟨rel,r.mE.step gd ext fresh ew⟩,gd,next,ext,fresh,ew,alive⟩
def bP.mono {aK cg:Type} {R S:aK->cg->Prop} (h:∀a b,R a b->S a b):∀{l:List aK} {k:List cg},bP R l k->bP S l k
 |[],[],_=>fs
 |_::_,_::_,⟨h1,ai⟩=>⟨h _ _ h1,bP.mono h ai⟩
 |[],_::_,h=>h.elim
 |_::_,[],h=>h.elim
def bP.length {aK cg:Type} {R:aK->cg->Prop}:∀{l:List aK} {k:List cg},bP R l k->l.length=k.length
 |[],[],_=>rfl
 |_::l,_::k,⟨_,ai⟩=>by simp[bP.length ai]
 |[],_::_,h=>h.elim
 |_::_,[],h=>h.elim
def bP.get {aK cg:Type} {R:aK->cg->Prop}:∀{l:List aK} {k:List cg} (_:bP R l k) (i:Nat) (a:aK),l[i]? =J a->∃b,k[i]? =J b/\R a b
 |[],[],_,i,a,h=>by grind
 |x::l,y::k,⟨h1,ai⟩,0,a,h=>by grind
 |x::l,y::k,⟨h1,ai⟩,i+1,a,h=>by simpa using bP.get ai i a (by grind)
 |[],_::_,h,_,_,_=>h.elim
 |_::_,[],h,_,_,_=>h.elim
def bP.Kj {aK cg:Type} {R:aK->cg->Prop}:∀{l:List aK} {k:List cg},l.length=k.length->(∀(i:Nat) a b,l[i]? =J a->k[i]? =J b->R a b)->bP R l k
 |[],[],_,_=>fs
 |x::l,y::k,aR,h=>⟨h 0 x y (by rfl) (by rfl),bP.Kj (by grind) λi a b bl aw=>h (i+1) a b (by grind) (by grind)⟩
 |[],_::_,aR,_=>by grind
 |_::_,[],aR,_=>by grind
def bP.append {aK cg:Type} {R:aK->cg->Prop}:∀{l r3:List aK} {k k':List cg},bP R l k->bP R r3 k'->bP R (l++r3) (k++k')
 |[],_,[],_,_,h=>h
 |_::_,_,_::_,_,⟨h1,ai⟩,h=>⟨h1,bP.append ai h⟩
 |[],_,_::_,_,h,_=>h.elim
 |_::_,_,[],_,h,_=>h.elim
def bP.take {aK cg:Type} {R:aK->cg->Prop}:∀(n:Nat) {l:List aK} {k:List cg},bP R l k->bP R (l.take n) (k.take n)
 |0,_,_,_=>by simp[bP]
 |n+1,[],[],_=>by grind
 |n+1,_::_,_::_,⟨h1,ai⟩=>by simpa[bP] using ⟨h1,bP.take n ai⟩
 |_+1,[],_::_,h=>h.elim
 |_+1,_::_,[],h=>h.elim
def bP.drop {aK cg:Type} {R:aK->cg->Prop}:∀(n:Nat) {l:List aK} {k:List cg},bP R l k->bP R (l.drop n) (k.drop n)
 |0,_,_,h=>by grind
 |n+1,[],[],_=>by grind
 |n+1,_::_,_::_,⟨_,ai⟩=>by simpa using bP.drop n ai
 |_+1,[],_::_,h=>h.elim
 |_+1,_::_,[],h=>h.elim
def kY.mono {j c6:cj} (h:∀b e,j b=J e->c6 b=J e) {v bz:af} (aD:kY j v bz):kY c6 v bz:=by
 unfold kY at aD⊢
 grind
theorem eA.mono {j c6:cj} (h:∀b e,j b=J e->c6 b=J e) {v bz:af} (aD:eA j v bz):eA c6 v bz:=by
 cases v with
 |func fn bY cs=>obtain ⟨h1,ds,ai,aT⟩:=aD;exact ⟨h1,ds,ai,aT.mono λ_ _=>kY.mono h⟩
 |pointer a=>cases a with
  |none=>exact aD
  |some a=>obtain ⟨e,h1,ai,aT⟩:=aD;exact ⟨e,h1,h _ _ ai,aT⟩
 |slice a l c=>cases a with
  |none=>exact aD
  |some a=>obtain ⟨e,h1,ai,aT⟩:=aD;exact ⟨e,h1,h _ _ ai,aT⟩
 |map r=>cases r with
  |none=>exact aD
  |some r=>obtain ⟨e,ai,aT⟩:=aD;exact ⟨e,h _ _ ai,aT⟩
 |_=>exact aD
theorem fC.mono {j c6:cj} (h:∀b e,j b=J e->c6 b=J e) {v bz:af} (aD:fC j v bz):fC c6 v bz:=by
 cases v with
 |agg cs=>obtain ⟨ds,h1,ai⟩:=aD;exact ⟨ds,h1,ai.mono λ_ _=>eA.mono h⟩
 |_=>grind [fC,eA.mono]
def de.mono {j c6:cj} (h:∀b e,j b=J e->c6 b=J e) {v bz:af} (aD:de j v bz):de c6 v bz:=by
 cases v with
 |chan r=>cases r<;>exact aD
 |tuple cs=>obtain ⟨ds,h1,ai⟩:=aD;exact ⟨ds,h1,ai.mono λ_ _=>fC.mono h⟩
 |func fn bY cs=>obtain ⟨gs,ds,h1,ai,aT⟩:=aD;exact ⟨gs,ds,h1,ai.mono λ_ _=>fC.mono h,aT.mono λ_ _=>fC.mono h⟩
 |_=>grind [de,fC.mono]
def qI.mono {P:bI} {j c6:cj} {e:kl} {o:Option Obj} {x:bW} (h:qI P j e o x) (bn:∀b e,j b=J e->c6 b=J e):qI P c6 e o x:=by
 cases x with
 |dead=>trivial
 |ro rd=>intro i v az;obtain ⟨cs,t,bZ,bz,h1,ai,aT⟩:=h i v az;exact ⟨cs,t,bZ,bz,h1,ai,aT.mono bn⟩
 |own L t=>obtain ⟨cs,bZ,h1,ai,aT,br,cK,fJ⟩:=h;refine ⟨cs,bZ,h1,ai,aT,br,cK,λi v az=> ?_⟩;obtain ⟨bz,g1,g2⟩:=fJ i v az;exact ⟨bz,g1,g2.mono bn⟩
 |map L u=>obtain ⟨bG,bA,cs,clock,E,h1,ai,aT,br,cK⟩:=h;exact ⟨bG,bA,cs,clock,E,h1,ai,aT,br.mono λp x ⟨g1,g2,g3⟩=>⟨g1,g2,g3.mono bn⟩,cK⟩
 |lock _ _ _ _=>exact h.elim
def Rel.own {P:bI} {j:cj} {m:Mem} {w:World} (h:Rel P j m w) (b:Nat) (e:kl) (L:List af) (t:bV) (bn:j b=J e) (aw:m.blk b= .own L t):∃(cs:Array af) (bZ:Nat×Nat),w.heap[e.blk]? =J (.cells cs t bZ)/\(∀i:Nat,i<cs.size->¬(bZ.1<=i/\i<bZ.2))/\
  P.cellsOf t=e.es/\e.db+e.cap*e.es<=cs.size/\L.length<=e.cap*e.es/\∀(i:Nat) (v:af),L[i]? =J v->∃bz,cs[e.db+i]? =J bz/\eA j v bz:=by
 have:=h.obj b e bn;rw[aw] at this;exact this
def fC.qh {j:cj} {v bz:af} (h:eA j v bz):fC j v bz:=by
 cases v<;>first|exact h|exact h.elim
def kY.of {j:cj} {v bz:af} (h:kY j v bz):eA j v bz:=by
 unfold kY at h;split at h
 ·exact h
 grind
def de.wN {j:cj} {v bz:af} (h:fC j v bz):de j v bz:=by
 cases v with
 |func fn bY cs=>obtain ⟨h1,ds,ai,aT⟩:=h;subst h1;exact ⟨#[],ds,ai,trivial,aT.mono λ_ _ h=>fC.qh (kY.of h)⟩
 |tuple _=>exact h.elim
 |chan _=>exact h.elim
 |_=>exact h
def de.qh {j:cj} {v bz:af} (h:eA j v bz):de j v bz:=de.wN (fC.qh h)
def eA.one {j:cj} {v bz:af} (h:eA j v bz):bz.oneCell'=aa:=by
 cases v with
 |pointer a=>cases a with
  |none=>cases h;rfl
  |some a=>obtain ⟨e,h1,ai,aT⟩:=h;subst aT;rfl
 |slice a l c=>cases a with
  |none=>cases h;rfl
  |some a=>obtain ⟨e,h1,ai,aT⟩:=h;rcases aT with ⟨_,rfl⟩|⟨_,_,_,_,_,_,rfl⟩|⟨_,_,_,rfl⟩|⟨_,_,_,rfl⟩|⟨_,_,_,_,_,_,_,_,_,rfl⟩<;>rfl
 |map r=>cases r with
  |none=>cases h;rfl
  |some r=>obtain ⟨e,ai,aT⟩:=h;subst aT;rfl
 |chan _=>exact h.elim
 |func _ _ _=>obtain ⟨_,ds,ai,_⟩:=h;subst ai;rfl
 |iface _ _=>exact h.elim
 |agg _=>exact h.elim
 |tuple _=>exact h.elim
 |_=>cases h;rfl
def eA.cells {j:cj} {v bz:af} (h:eA j v bz):v.cells=#[v]/\bz.cells=#[bz]:=by
 refine ⟨?_, ?_⟩
 ·cases v<;>first|rfl|exact h.elim
 ·have:=h.one;cases bz<;>first|rfl|grind [af.oneCell']
def fC.cells {j:cj} {v bz:af} (h:fC j v bz):bP (eA j) v.cells.toList bz.cells.toList:=by
 cases v with
 |agg cs=>obtain ⟨ds,rfl,ai⟩:=h;exact ai
 |_=>simp only[fC] at h;have bR:=h;have:=eA.cells bR;rw[this.1,this.2];exact ⟨bR,fs⟩
def sC.refl (j:cj) (m:Mem) (w:World):sC j m w w:=⟨rfl,rfl,rfl,e4 _,λ_ _ _=>rfl⟩
def Post.refl {P:bI} {j:cj} {m:Mem} {w:World} (h:Rel P j m w):Post P j m w j m w:=
 ⟨h,sC.refl j m w,e4 _,λ_ _=>rfl,λb e aw bB=>absurd (h.lt b e aw).1 (vP.2 bB),λ_ _ h=>h,λ_ _ h=>h⟩
def Post.up {P:bI} {j c6:cj} {m m':Mem} {w w':World} (h:Post P j m w c6 m' w') (aV:Rel P j m w):∀b e,j b=J e->c6 b=J e:=
 λb e aw=>by rw[h.ext b (aV.lt b e aw).1];grind
def Post.trans {P:bI} {j c6 wG:cj} {m m' abx:Mem} {w w' xC:World} (h:Post P j m w c6 m' w') (k:Post P c6 m' w' wG abx xC):Post P j m w wG abx xC where
 rel:=k.rel
 gd:=by
  refine ⟨k.gd.os.trans h.gd.os,k.gd.tape.trans h.gd.tape,k.gd.output.trans h.gd.output,jd h.gd.size k.gd.size,λc ay bB=> ?_⟩;rw[k.gd.block c (hS ay h.gd.size) ?_,h.gd.block c ay bB];intro b e aw aM he;rcases mq b m.next with cF|hA
  ·exact bB b e (by rw[<-h.ext b cF];grind) (h.ew b cF aM) he
  ·rcases h.fresh b e aw hA with bF|⟨fz,eV,qP,wu,aaE⟩
   ·omega
   grind
 next:=jd h.next k.next
 ext:=λb aw=>by rw[k.ext b (hS aw h.next),h.ext b aw]
 fresh:=by
  intro b e aw hA;have ayP:∀b e,c6 b=J e->(m'.blk b).iO=aa->w.heap.size<=e.blk\/∃fz eV,j fz=J eV/\(m.blk fz).iO=aa/\eV.blk=e.blk:=by
   intro b e aw aM;rcases mq b m.next with cF|hA
   ·exact .inr ⟨b,e,by rw[<-h.ext b cF];grind,h.ew b cF aM,rfl⟩
   ·exact h.fresh b e aw hA
  rcases mq b m'.next with cF|anO
  ·exact h.fresh b e (by rw[<-k.ext b cF];grind) hA
  ·rcases k.fresh b e aw anO with bF|⟨fz,eV,qP,wu,aaE⟩
   ·exact .inl (jd h.gd.size bF)
   grind
 ew:=λb aw aM=>h.ew b aw (k.ew b (hS aw h.next) aM)
 alive:=λb aw aM=>h.alive b aw (k.alive b (hS aw h.next) aM)
end Go.aF
end
section
namespace Go.aF
def kz:af->Bool| .agg cs=>cs.toList.all dy|v=>dy v
def flat:af->Bool| .tuple cs=>cs.toList.all kz|v=>kz v
def xr:af->Bool| .pointer (J _)=>aa|_=>ak
def storable:af->Bool| .tuple _| .chan _=>ak| .func _ bY cs=>bY.isEmpty&&cs.toList.all xr|_=>aa
def set (fr:Nat->af) (d:Option Tmp) (v:af):Nat->af:=match d with|some t=>λi=>if i=t then v else fr i|none=>fr
def bk (fr:Nat->af):bS->af| .tmp t=>fr t| .const v=>v| .global g=> .chan (J (g*4096))| .func f=> .func (.func f) #[] #[]
def kd (m:Mem) (b:Nat):Nat->Nat->Option (List af)
 |_,0=>J []
 |o,n+1=>match m.load b o,kd m b (o+1) n with
  |some v,J l=>J (v::l)
  |_,_=>ae
def eY:List af->Nat->List af->List af|L,_,[]=>L|L,o,v::vs=>eY (L.set o v) (o+1) vs
def k5 (place:Nat->Option (Nat×Nat)) (cells:List af):List (Nat×af)->Option (List af)|[]=>J cells|(i,v)::rest=>match place i with|none=>ae|some (off,size)=>if storable v=aa/\v.cells.size=size/\off+size<=cells.length then k5 place (eY cells off v.cells.toList) rest else ae
def pC (P:bI) (bY:Array Field):List (Option (Nat×Nat)):=bY.toList.map λf=>(P.info? f.type).map λi=>(f.offset,i.size)
def qo (ap:bS->af) (cf:Option bS) (n:Nat):Prop:=match cf with|none=>n=0|some y=>∃k,ap y= .int k n
def nJ (ap:bS->af) (az:Option bS) (l n:Nat):Prop:=match az with|none=>n=l|some y=>∃k,ap y= .int k n
inductive dD (P:bI) (ap:bS->af) (o:Oper):af->Prop where
 |flat (v:af) (bf:∀cs b,o.op≠ .select cs b) (h:∀x∈o.op.operands,flat (ap x)=aa) (aD:flat v=aa) (aV:∀w,(execOp ap o).run P w= .ok (.value v) w):dD P ap o v
 |move (x:bS) (h:o.op= .move x\/o.op= .assign x):dD P ap o (ap x)
 |pick (c a b:bS) (t:Bool) (h:o.op= .pick c a b) (ay:ap c= .bool t):dD P ap o (if t then ap a else ap b)
 |extract (x:bS) (i:Nat) (vs:Array af) (v:af) (h:o.op= .extract x i) (an:ap x= .tuple vs) (aD:vs[i]? =J v):dD P ap o v
 |field (t:bV) (x:bS) (i:Nat) (bY:Array Field) (f:Field) (d:TypeDesc) (cs:Array af) (v:af) (h:o.op= .field t x i) (aJ:P.underlying t=J (.struct bY)) (bF:bY[i]? =J f)
   (bg:P.underlying f.type=J d) (an:ap x= .agg cs) (aD:if lI d=aa then ∃k,P.info? f.type=J k/\f.offset+k.size<=cs.size/\v= .agg (cs.extract f.offset (f.offset+k.size)) else cs[f.offset]? =J v):dD P ap o v
 |build (t:bV) (cQ:Array (Nat×bS)) (bY:Array Field) (i:TypeInfo) (z:af) (cs:List af) (h:o.op= .build t cQ) (aJ:P.underlying t=J (.struct bY)) (az:P.info? t=J i) (bx:i.zero=J z)
   (dw:z.cells.toList.all dy=aa) (bb:∀x∈pC P bY,x.isSome=aa)
   (ay:k5 (λk=>((pC P bY)[k]?).join) z.cells.toList (cQ.toList.map λp=>(p.1,ap p.2))=J cs):dD P ap o (.agg cs.toArray)
 |Jg (t:bV) (cQ:Array (Nat×bS)) (n:Nat) (e:bV) (i k:TypeInfo) (z:af) (cs:List af) (h:o.op= .build t cQ) (aJ:P.underlying t=J (.array n e)) (az:P.info? t=J i) (bx:i.zero=J z)
   (dw:z.cells.toList.all dy=aa) (he:P.info? e=J k)
   (ay:k5 (λj=>J (j*k.size,k.size)) z.cells.toList (cQ.toList.map λp=>(p.1,ap p.2))=J cs):dD P ap o (.agg cs.toArray)
 |J6 (t:bV) (x y:bS) (e:bV) (d:TypeDesc) (i:TypeInfo) (l:Nat) (k:aG) (n:Int) (cs:Array af) (h:o.op= .index t x y) (aJ:P.underlying t=J (.array l e)) (bg:P.underlying e=J d) (bl:lI d=aa) (az:P.info? e=J i)
   (an:ap x= .agg cs) (aZ:ap y= .int k n) (bR:0<=n) (h1:n<l):dD P ap o (.agg (cs.extract (n.toNat*i.size) (n.toNat*i.size+i.size)))
 |J5 (t:bV) (x y:bS) (e:bV) (d:TypeDesc) (i:TypeInfo) (l:Nat) (k:aG) (n:Int) (cs:Array af) (v:af) (h:o.op= .index t x y) (aJ:P.underlying t=J (.array l e)) (bg:P.underlying e=J d) (bl:lI d=ak) (az:P.info? e=J i)
   (an:ap x= .agg cs) (aZ:ap y= .int k n) (bR:0<=n) (h1:n<l) (aD:cs[n.toNat*i.size]? =J v):dD P ap o v
 |nilCheck (x:bS) (a:Addr) (h:o.op= .nilCheck x) (an:ap x= .pointer (J a)):dD P ap o (.pointer (J a))
 |fieldAddr (t:bV) (x:bS) (i:Nat) (bY:Array Field) (f:Field) (k:TypeInfo) (b off:Nat) (h:o.op= .fieldAddr t x i) (aJ:P.underlying t=J (.struct bY)) (bF:bY[i]? =J f)
   (hk:P.info? f.type=J k) (bf:k.size≠0) (an:ap x= .pointer (J ⟨b,off,ae⟩)):dD P ap o (.pointer (J ⟨b,off+f.offset,ae⟩))
 |indexAddr (t:bV) (x y:bS) (e:bV) (i:TypeInfo) (b off l c:Nat) (k:aG) (n:Int) (h:o.op= .indexAddr t x y) (aJ:P.underlying t=J (.slice e)) (az:P.info? e=J i)
   (an:ap x= .slice (J ⟨b,off,ae⟩) l c) (aZ:ap y= .int k n) (bR:0<=n) (h1:n<l):dD P ap o (.pointer (J ⟨b,off+n.toNat*i.size,ae⟩))
 |J4 (t:bV) (x y:bS) (e:bV) (i:TypeInfo) (b off l:Nat) (k:aG) (n:Int) (h:o.op= .indexAddr t x y) (aJ:P.underlying t=J (.array l e)) (az:P.info? e=J i)
   (an:ap x= .pointer (J ⟨b,off,ae⟩)) (aZ:ap y= .int k n) (bR:0<=n) (h1:n<l):dD P ap o (.pointer (J ⟨b,off+n.toNat*i.size,ae⟩))
 |JC (t:bV) (x y:bS) (e:bV) (i:TypeInfo) (l g:Nat) (k:aG) (n:Int) (h:o.op= .indexAddr t x y) (aJ:P.underlying t=J (.array l e)) (az:P.info? e=J i) (bf:i.size=1)
   (an:ap x= .chan (J (g*4096))) (aZ:ap y= .int k n) (bR:0<=n) (h1:n<l) (aR:l<4096):dD P ap o (.chan (J (g*4096+n.toNat)))
 |slice (t:bV) (x:bS) (cf az:Option bS) (e:bV) (i:TypeInfo) (b off l c:Nat) (n dG:Nat) (h:o.op= .slice t x cf az ae) (aJ:P.underlying t=J (.slice e)) (fm:P.info? e=J i)
   (an:ap x= .slice (J ⟨b,off,ae⟩) l c) (aw:c<dc) (eW:qo ap cf n) (eN:nJ ap az l dG) (h1:n<=dG) (ai:dG<=c)
   (aT:az=ae->True):dD P ap o (.slice (J ⟨b,if c=n then off else off+n*i.size,ae⟩) (dG - n) (c - n))
 |slice3 (t:bV) (x h8:bS) (az:Option bS) (e:bV) (i:TypeInfo) (b off l c:Nat) (dG k':Nat) (oV:aG) (h:o.op= .slice t x ae az (J h8)) (aJ:P.underlying t=J (.slice e)) (fm:P.info? e=J i)
   (an:ap x= .slice (J ⟨b,off,ae⟩) l c) (ay:(c<dc/\k'<=c)\/(c=dc/\k'<=l)) (eN:∃y k,az=J y/\ap y= .int k dG) (mV:ap h8= .int oV k') (h1:dG<=k'):dD P ap o (.slice (J ⟨b,off,ae⟩) dG k')
 |P5 (t:bV) (x cf az h8:bS) (e:bV) (i:TypeInfo) (b off l c n dG k':Nat) (Kb J9 oV:aG) (h:o.op= .slice t x (J cf) (J az) (J h8)) (aJ:P.underlying t=J (.slice e)) (fm:P.info? e=J i)
   (an:ap x= .slice (J ⟨b,off,ae⟩) l c) (ay:(c<dc/\k'<=c)\/(c=dc/\k'<=l)) (eW:ap cf= .int Kb n) (eN:ap az= .int J9 dG) (mV:ap h8= .int oV k') (bR:n<=dG) (h1:dG<=k'):dD P ap o (.chan ae)
 |P4 (t:bV) (x h8:bS) (az:Option bS) (e:bV) (i:TypeInfo) (oV:aG) (h:o.op= .slice t x ae az (J h8)) (aJ:P.underlying t=J (.slice e)) (fm:P.info? e=J i)
   (an:ap x= .slice ae 0 0) (eN:∃y k,az=J y/\ap y= .int k 0) (mV:ap h8= .int oV 0):dD P ap o (.slice ae 0 0)
 |nc (t:bV) (x:bS) (cf az:Option bS) (e:bV) (i:TypeInfo) (h:o.op= .slice t x cf az ae) (aJ:P.underlying t=J (.slice e)) (fm:P.info? e=J i)
   (an:ap x= .slice ae 0 0) (eW:qo ap cf 0) (eN:nJ ap az 0 0):dD P ap o (.slice ae 0 0)
 |len (x:bS) (t e:bV) (a:Option Addr) (l c:Nat) (h:o.op= .call {callee:= .builtin .len,args:=#[x],argTypes:=#[t]}) (aJ:P.underlying t=J (.slice e)) (an:ap x= .slice a l c):dD P ap o (.int .i64 l)
 |Jj (x:bS) (t e:bV) (h:o.op= .call {callee:= .builtin .cap,args:=#[x],argTypes:=#[t]}) (aJ:P.underlying t=J (.slice e)) (an:ap x= .slice ae 0 0):dD P ap o (.int .i64 0)
 |A2 (neq:Bool) (x y:bS) (t u e:bV) (a:Addr) (l c:Nat) (h:o.op= .binOp (if neq then .neq else .eql) t x y u) (aJ:P.underlying t=J (.slice e))
   (an:ap x= .slice (J a) l c) (aZ:ap y= .slice ae 0 0):dD P ap o (.bool neq)
 |func (fn:Fn) (first captured:Array bS) (h:o.op= .makeFunc fn first captured) (bF:∀x∈first.toList++captured.toList,storable (ap x)=aa):dD P ap o (.func fn (first.map ap) (captured.map ap))
inductive uh (od aW:Bool) (key z:af):List (List af×List af)->af->Bool->Prop where
 |qZ:uh od aW key z [] z ak
 |rS (p:List af×List af) (E:List (List af×List af)) (h:ey od p.1=key):uh od aW key z (p::E) (ey aW p.2) aa
 |next (p:List af×List af) (E:List (List af×List af)) (v:af) (b:Bool) (h:ey od p.1≠key) (bp:uh od aW key z E v b):uh od aW key z (p::E) v b
inductive uA (od:Bool) (key val:List af):List (List af×List af)->List (List af×List af)->Prop where
 |qZ:uA od key val [] [(key,val)]
 |rS (p:List af×List af) (E:List (List af×List af)) (h:ey od p.1=ey od key):uA od key val (p::E) ((p.1,val)::E)
 |next (p:List af×List af) (E E':List (List af×List af)) (h:ey od p.1≠ey od key) (bp:uA od key val E E'):uA od key val (p::E) (p::E')
open Classical in
noncomputable def o6 (v:af):List MapEntry->Nat->Option (Nat×af)|[],_=>ae|e::es,i=>if e.key=v then J (i,e.val) else o6 v es (i+1)
structure Keyed (P:bI) (bG:bV) (ho:af->Prop):Prop where
 check:∀(em:Bool) (v:af) (w:World),ho v->(Instr.checkKey em 10000 bG v).run P w= .ok () w
 find:∀(v:af) (es:List MapEntry) (w:World),ho v->(∀x∈es,ho x.key)->(Instr.findKey bG v es).run P w= .ok (o6 v es 0) w
 stays:∀(v:af) (w:World),ho v->(Instr.keyThatStays v v).run P w= .ok v w
inductive fH (P:bI) (ap:bS->af) (o:Oper) (m:Mem):af->Prop where
 |load (t:bV) (x:bS) (b off:Nat) (d:TypeDesc) (v:af) (h:o.op= .load t x) (an:ap x= .pointer (J ⟨b,off,ae⟩)) (aJ:P.underlying t=J d) (bg:lI d=ak) (aD:m.load b off=J v):fH P ap o m v
 | wc (t : bV) (x : bS) (g n : Nat) (s : List UInt8) (h : o.op = .load t x) (an : ap x = .chan (J (g * 4096 + n))) (bB : p2[n]? = J s) (aJ : P.underlying t = J .string) (bs : P.globalNamed "humpyard/yardgen.dests" = J g) : fH P ap o m (.string ⟨s.toArray⟩)
 |wI (t:bV) (x:bS) (b off:Nat) (d:TypeDesc) (i:TypeInfo) (cs:List af) (h:o.op= .load t x) (an:ap x= .pointer (J ⟨b,off,ae⟩)) (aJ:P.underlying t=J d) (bg:lI d=aa) (az:P.info? t=J i)
   (aD:kd m b off i.size=J cs):fH P ap o m (.agg cs.toArray)
 |slice (t:bV) (x:bS) (cf az:Option bS) (e:bV) (i:TypeInfo) (L:List af) (b off l:Nat) (n dG:Nat) (h:o.op= .slice t x cf az ae) (aJ:P.underlying t=J (.slice e)) (fm:P.info? e=J i)
   (an:ap x= .slice (J ⟨b,off,ae⟩) l dc) (hm:m.blk b= .own L e) (eW:qo ap cf n) (eN:nJ ap az l dG) (h1:n<=dG) (ai:dG<=l)
   (aT:off+l*i.size<=L.length):fH P ap o m (.slice (J ⟨b,off+n*i.size,ae⟩) (dG - n) dc)
 |vx (t:bV) (x:bS) (cf az:Option bS) (e:bV) (i:TypeInfo) (L:List af) (b off l c k:Nat) (n dG:Nat) (h:o.op= .slice t x cf az ae) (aJ:P.underlying t=J (.slice e)) (fm:P.info? e=J i)
   (an:ap x= .slice (J ⟨b,off,ae⟩) l c) (hk:(c=dc/\k=l)\/c=dc+k) (hm:m.blk b= .own L e) (eW:qo ap cf n) (eN:nJ ap az l dG) (h1:n<=dG) (ai:dG<=k) (aT:n<k):
   fH P ap o m (.slice (J ⟨b,off+n*i.size,ae⟩) (dG - n) (dc+(k - n)))
 |str (s t:bV) (x:bS) (e:bV) (b off l c:Nat) (cs:List UInt8) (h:o.op= .convert s t x) (bf:P.underlying s=J (.slice e)) (he:P.underlying e=J (.int .u8)) (aJ:P.underlying t=J .string)
   (an:ap x= .slice (J ⟨b,off,ae⟩) l c) (aD:kd m b off l=J (cs.map λu=> .int .u8 u.toNat)):fH P ap o m (.string ⟨cs.toArray⟩)
 |zQ (s t:bV) (x:bS) (e:bV) (l c:Nat) (h:o.op= .convert s t x) (bf:P.underlying s=J (.slice e)) (he:P.underlying e=J (.int .u8)) (aJ:P.underlying t=J .string)
   (an:ap x= .slice ae l c):fH P ap o m (.string .empty)
 |lookup (hZ:bV) (x dx:bS) (ok:Bool) (u bG bA:bV) (b:Nat) (L:List af) (E:List (List af×List af)) (i:TypeInfo) (z v0:af) (t:Bool) (ho:af->Prop) (h:o.op= .lookup hZ x dx ok)
   (jk:P.underlying hZ=J (.map bG bA)) (hu:P.underlying u=J (.map bG bA)) (an:(ap x= .map (J b)/\m.blk b= .map L u/\qG (P.cellsOf bG) (P.cellsOf bA) L E)\/(ap x= .map ae/\E=[])) (nC:0<P.cellsOf bG)
   (tf:ek P bA=ak->P.cellsOf bA=1) (K:Keyed P bG ho) (bF:flat (ap dx)=aa) (hk:ho (ap dx)) (bs:∀p∈E,ho (ey (ek P bG) p.1)) (az:P.info? bA=J i) (bx:i.zero=J z) (dw:kz z=aa)
   (aR:uh (ek P bG) (ek P bA) (ap dx) z E v0 t):fH P ap o m (if ok then .tuple #[v0, .bool t] else v0)
inductive jC (P:bI) (ap:bS->af) (o:Oper) (n:Nat):bW->af->Prop where
 |alloc (t:bV) (i:TypeInfo) (z:af) (h:o.op= .alloc t) (az:P.info? t=J i) (bx:i.zero=J z) (dw:z.cells.toList.all dy=aa) (bf:z.cells.size=i.size):
   jC P ap o n (.own z.cells.toList t) (.pointer (J ⟨n,0,ae⟩))
 |box (t:bV) (x:bS) (i:TypeInfo) (h:o.op= .box t x) (az:P.info? t=J i) (aD:storable (ap x)=aa) (bf:(ap x).cells.size=i.size):
   jC P ap o n (.own (ap x).cells.toList t) (.pointer (J ⟨n,0,ae⟩))
 |buildSlice (t:bV) (l:Nat) (cQ:Array (Nat×bS)) (e:bV) (i:TypeInfo) (z:af) (cs:List af) (h:o.op= .buildSlice t l cQ) (aJ:P.underlying t=J (.slice e)) (az:P.info? e=J i) (bx:i.zero=J z)
   (dw:z.cells.toList.all dy=aa) (et:z.cells.size=i.size) (uO:l*i.size<=16777216) (uW:l<9223372036854775808)
   (ay:k5 (λk=>J (k*i.size,i.size)) (gb l z.cells.toList).flatten (cQ.toList.map λp=>(p.1,ap p.2))=J cs):
   jC P ap o n (.own cs e) (.slice (J ⟨n,0,ae⟩) l l)
 |makeSlice (t:bV) (x y:bS) (l c:Nat) (k k':aG) (e:bV) (i:TypeInfo) (z:af) (h:o.op= .makeSlice t x y) (aJ:P.underlying t=J (.slice e)) (az:P.info? e=J i) (bx:i.zero=J z)
   (dw:z.cells.toList.all dy=aa) (et:z.cells.size=i.size) (an:ap x= .int k l) (aZ:ap y= .int k' c) (s7:l<=c) (aw:i.bytes*c<=140737488355328) (ay:c<9223372036854775808):
   jC P ap o n (.own (gb c z.cells.toList).flatten e) (.slice (J ⟨n,0,ae⟩) l c)
 |bytes (s t:bV) (x:bS) (e:bV) (i:TypeInfo) (b:ByteArray) (h:o.op= .convert s t x) (bf:P.underlying s=J .string) (aJ:P.underlying t=J (.slice e)) (he:P.underlying e=J (.int .u8)) (az:P.info? e=J i)
   (kL:i.size=1) (an:ap x= .string b) (aw:b.size<9223372036854775807):
   jC P ap o n (.own (b.data.toList.map λu=> .int .u8 u.toNat) e) (.slice (J ⟨n,0,ae⟩) b.size dc)
 |makeMap (t bG bA:bV) (h:o.op= .makeMap t ae) (aJ:P.underlying t=J (.map bG bA)):jC P ap o n (.map [] t) (.map (J n))
def kt (m:Mem) (bM:Nat):af->Option (List af)| .slice (J ⟨b,off,ae⟩) l _=>kd m b off (l*bM)| .slice ae _ _=>J []| .string s=>if bM=1 then J (s.data.toList.map λu=> .int .u8 u.toNat) else ae|_=>ae
def ja:af->Nat| .slice _ l _=>l| .string s=>s.size|_=>0
def callee (o:Oper) (ap:bS->af) (f:FuncId) (args:Array af):Prop:=∃x dK ts first captured,o.op= .call {callee:= .value x,args:=dK,argTypes:=ts}/\ap x= .func (.func f) first captured/\args=first++dK.map ap++captured
inductive sA (P:bI) (m:Mem) (u:bV) (i:TypeInfo) (v:af) (n:Nat) (new:List af):Prop where
 |el (hu:(∃cz,P.underlying u=J (.slice cz))\/P.underlying u=J .string) (aR:ja v=n) (he:kt m i.size v=J new)
 |mk (kk k:aG) (z:af) (hu:P.underlying u=J (.int kk)) (aD:v= .int k n) (bx:i.zero=J z) (dw:z.cells.toList.all dy=aa) (et:z.cells.size=i.size) (cN:0<i.size)
   (aw:n*i.bytes<=140737488355328) (hm:n<9223372036854775807) (nE:new=(gb n z.cells.toList).flatten)
inductive hR (P:bI) (C:FuncId->Array af->Mem->af->Mem->Prop) (ap:bS->af) (o:Oper) (m:Mem):af->Mem->Prop where
 |store (t:bV) (x y:bS) (b off:Nat) (i:TypeInfo) (L:List af) (e:bV) (h:o.op= .store t x y) (an:ap x= .pointer (J ⟨b,off,ae⟩)) (az:P.info? t=J i) (hm:m.blk b= .own L e)
   (aD:storable (ap y)=aa) (bf:(ap y).cells.size=i.size) (aR:off+i.size<=L.length):hR P C ap o m undef (m.put b (.own (eY L off (ap y).cells.toList) e))
 |call (f:FuncId) (args:Array af) (v:af) (m':Mem) (h:callee o ap f args) (cW:C f args m v m'):hR P C ap o m v m'
 |vZ (x y:bS) (t u:bV) (e:bV) (i:TypeInfo) (a:Option Addr) (l c:Nat) (h:o.op= .call {callee:= .builtin .append,args:=#[x,y],argTypes:=#[t,u]}) (aJ:P.underlying t=J (.slice e)) (az:P.info? e=J i)
   (an:ap x= .slice a l c) (ay:c<dc) (s7:l<=c) (aZ:sA P m u i (ap y) 0 []):hR P C ap o m (ap x) m
 |sP (x y:bS) (t u:bV) (e:bV) (i:TypeInfo) (z:af) (a:Option Addr) (l c n:Nat) (ew new:List af) (h:o.op= .call {callee:= .builtin .append,args:=#[x,y],argTypes:=#[t,u]})
   (aJ:P.underlying t=J (.slice e)) (az:P.info? e=J i) (bx:i.zero=J z) (dw:z.cells.toList.all dy=aa) (et:z.cells.size=i.size) (cN:0<i.size)
   (an:ap x= .slice a l c) (ay:c<l+n)
   (aM:kt m i.size (ap x)=J ew) (nF:ew.length=l*i.size) (aZ:sA P m u i (ap y) n new) (bB:new.length=n*i.size) (aw:(l+n)*i.bytes<=140737488355328) (hm:l+n<9223372036854775807):
   hR P C ap o m (.slice (J ⟨m.next,0,ae⟩) (l+n) dc) (m.push (.own (ew++new) e))
 |vY (x y:bS) (t u:bV) (e:bV) (i:TypeInfo) (b off l c n:Nat) (L new:List af) (h:o.op= .call {callee:= .builtin .append,args:=#[x,y],argTypes:=#[t,u]})
   (aJ:P.underlying t=J (.slice e)) (az:P.info? e=J i) (an:ap x= .slice (J ⟨b,off,ae⟩) l c) (gN:c<dc)
   (ay:l+n<=c) (hm:m.blk b= .own L e) (aZ:sA P m u i (ap y) n new) (bB:new.length=n*i.size) (aR:off+(l+n)*i.size<=L.length):
   hR P C ap o m (.slice (J ⟨b,off,ae⟩) (l+n) c) (m.put b (.own (eY L (off+l*i.size) new) e))
 |yy (x y:bS) (t u:bV) (e:bV) (i:TypeInfo) (b off l c k n:Nat) (L new:List af) (h:o.op= .call {callee:= .builtin .append,args:=#[x,y],argTypes:=#[t,u]})
   (aJ:P.underlying t=J (.slice e)) (az:P.info? e=J i) (an:ap x= .slice (J ⟨b,off,ae⟩) l c) (gN:c=dc+k) (nB:0<k)
   (ay:l+n<=k) (hm:m.blk b= .own L e) (aZ:sA P m u i (ap y) n new) (bB:new.length=n*i.size) (aR:off+(l+n)*i.size<=L.length):
   hR P C ap o m (.slice (J ⟨b,off,ae⟩) (l+n) c) (m.put b (.own (eY L (off+l*i.size) new) e))
 |append (x y:bS) (t u:bV) (e:bV) (i:TypeInfo) (z:af) (b off l n:Nat) (L new:List af) (h:o.op= .call {callee:= .builtin .append,args:=#[x,y],argTypes:=#[t,u]})
   (aJ:P.underlying t=J (.slice e)) (az:P.info? e=J i) (bx:i.zero=J z) (dw:z.cells.toList.all dy=aa) (et:z.cells.size=i.size) (cN:0<i.size)
   (an:ap x= .slice (J ⟨b,off,ae⟩) l dc) (jj:m.blk b= .own L e) (yS:off+l*i.size<=L.length)
   (aZ:sA P m u i (ap y) n new) (bB:new.length=n*i.size) (aw:(l+n)*i.bytes<=140737488355328) (hm:l+n<9223372036854775807):
   hR P C ap o m (.slice (J ⟨m.next,0,ae⟩) (l+n) dc) ((m.put b .dead).push (.own ((L.drop off).take (l*i.size)++new) e))
 |copy (x y:bS) (t u:bV) (e:bV) (i:TypeInfo) (b off l c:Nat) (L:List af) (cs:List af) (h:o.op= .call {callee:= .builtin .copy,args:=#[x,y],argTypes:=#[t,u]}) (aJ:P.underlying t=J (.slice e)) (az:P.info? e=J i)
   (an:ap x= .slice (J ⟨b,off,ae⟩) l c) (hm:m.blk b= .own L e) (aZ:kt m i.size (ap y)=J cs) (bB:cs.length=ja (ap y)*i.size) (aR:off+l*i.size<=L.length):
   hR P C ap o m (.int .i64 (rB (ja (ap y)) l)) (m.put b (.own (eY L off (cs.take (rB (ja (ap y)) l*i.size))) e))
 |clear (x:bS) (t:bV) (e:bV) (i:TypeInfo) (z:af) (b off l c:Nat) (L:List af) (h:o.op= .call {callee:= .builtin .clear,args:=#[x],argTypes:=#[t]}) (aJ:P.underlying t=J (.slice e)) (az:P.info? e=J i)
   (bx:i.zero=J z) (dw:z.cells.toList.all dy=aa) (et:z.cells.size=i.size) (an:ap x= .slice (J ⟨b,off,ae⟩) l c) (hm:m.blk b= .own L e) (hV:0<l) (aR:off+l*i.size<=L.length):
   hR P C ap o m (.tuple #[]) (m.put b (.own (eY L off (gb l z.cells.toList).flatten) e))
 |mapUpdate (hZ:bV) (x jW j3:bS) (u bG bA:bV) (b:Nat) (L eo vc:List af) (E E':List (List af×List af)) (ho:af->Prop) (h:o.op= .mapUpdate hZ x jW j3\/o.op= .insert hZ x jW j3)
   (jk:P.underlying hZ=J (.map bG bA)) (hu:P.underlying u=J (.map bG bA)) (an:ap x= .map (J b)) (hm:m.blk b= .map L u) (bp:qG (P.cellsOf bG) (P.cellsOf bA) L E) (nC:0<P.cellsOf bG)
   (K:Keyed P bG ho) (yP:ap jW=ey (ek P bG) eo) (uV:eo.length=P.cellsOf bG) (yQ:eo.all dy=aa) (bF:flat (ap jW)=aa) (hk:ho (ap jW)) (bs:∀p∈E,ho (ey (ek P bG) p.1))
   (rZ:storable (ap j3)=aa) (J1:ap j3=ey (ek P bA) vc) (tg:vc.length=P.cellsOf bA) (wA:∀v∈vc,v∈(ap j3).cells.toList) (hb:uA (ek P bG) eo vc E E'):
   hR P C ap o m undef (m.put b (.map (E'.flatMap λp=>p.1++p.2) u))
inductive ln (P:bI) (C:FuncId->Array af->Mem->af->Mem->Prop) (ap:bS->af) (o:Oper) (m:Mem):af->Mem->Prop where
 |pure {v:af} (h:dD P ap o v):ln P C ap o m v m
 |read {v:af} (h:fH P ap o m v):ln P C ap o m v m
 |new {X:bW} {v:af} (h:jC P ap o m.next X v):ln P C ap o m v (m.push X)
 |fX {v:af} {m':Mem} (h:hR P C ap o m v m'):ln P C ap o m v m'
def wanted (ops:List Oper) (fr:Nat->af) (o:Oper):Bool:=
 match o.guard with
 |none=>aa
 |some (j,want)=>
  match (ops[j]?).bind (·.dst) with
  |some d=>(match fr d with| .bool b=>b==want|_=>ak)
  |none=>ak
def k6 (P:bI) (C:FuncId->Array af->Mem->af->Mem->Prop) (ops:List Oper):List Oper->(Nat->af)->Mem->(Nat->af)->Mem->Prop
 |[],fr,m,cb,m'=>cb=fr/\m'=m
 |o::os,fr,m,cb,m'=>
  if wanted ops fr o=aa then ∃v m1,ln P C (bk fr) o m v m1/\k6 P C ops os (set fr o.dst v) m1 cb m'
  else k6 P C ops os (set fr o.dst undef) m cb m'
def lT:Op->Bool| .store .. | .mapUpdate .. | .insert .. =>aa| .call {callee:= .builtin .len, .. }| .call {callee:= .builtin .max, .. }| .call {callee:= .builtin .min, .. }=>ak| .call _=>aa|_=>ak
def gD (B:Array Nat) (i k:Nat):Bool:=(B.getD i 0).testBit k
structure Acc where
 reads:List (Nat×(Mem->Prop))
 iC:List (Nat×Mem)
 news:List (Nat×Nat)
def hW (P:bI) (C:FuncId->Array af->Mem->af->Mem->Prop) (ops:List Oper) (B:Array Nat):Nat->List Oper->Acc->(Nat->af)->Mem->(Nat->af)->Mem->Prop
 |_,[],_,fr,m,cb,m'=>cb=fr/\m'=m
 |i,o::os,A,fr,m,cb,m'=>
  if wanted ops fr o=aa then
   (∃v,dD P (bk fr) o v/\hW P C ops B (i+1) os A (set fr o.dst v) m cb m')\/
   (∃v,fH P (bk fr) o m v/\(∀x∈A.iC,gD B i x.1=ak->fH P (bk fr) o x.2 v)/\
    hW P C ops B (i+1) os {A with reads:=(i,λm=>fH P (bk fr) o m v)::A.reads} (set fr o.dst v) m cb m')\/
   (∃X v,jC P (bk fr) o m.next X v/\hW P C ops B (i+1) os {A with news:=(i,m.next)::A.news} (set fr o.dst v) (m.push X) cb m')\/
   (∃v m1,hR P C (bk fr) o m v m1/\(∀x∈A.reads,gD B i x.1=ak->x.2 m1)/\(∀x∈A.news,gD B i x.1=ak->m1.blk x.2=m.blk x.2)/\
    hW P C ops B (i+1) os {A with iC:=(i,m)::A.iC} (set fr o.dst v) m1 cb m')
  else hW P C ops B (i+1) os A (set fr o.dst undef) m cb m'
inductive fG where
 |normal
 |exit (id:Nat)
 |ret
 deriving DecidableEq
def abv (n:Nat):Option Addr->Prop|some a=>a.block<n|none=>True
def r4 (n:Nat):af->Prop| .pointer a=>abv n a|_=>False
def h7 (n:Nat):af->Prop| .pointer a| .slice a _ _=>abv n a| .map (J r)=>r<n| .func _ bY cs=>bY=#[]/\∀v∈cs.toList,r4 n v| .chan _| .iface _ _| .agg _| .tuple _=>False|_=>True
def iv (n:Nat):af->Prop| .agg cs=>∀v∈cs.toList,h7 n v|v=>h7 n v
def low (n:Nat):af->Prop| .chan _=>True| .tuple cs=>∀v∈cs.toList,iv n v| .func _ a b=>(∀v∈a.toList,iv n v)/\∀v∈b.toList,iv n v|v=>iv n v
def qe (n:Nat):bW->Prop| .own L _| .map L _=>∀v∈L,h7 n v| .ro rd=>∀i v,rd i=J v->h7 n v| .dead=>True| .lock _ _ _ _=>True
def nI:bS->Bool| .tmp _| .func _=>aa| .const v=>flat v| .global _=>aa
def vh (ops:Array Oper) (o:Oper):List Nat:=
 (o.op.operands.toList.filterMap λ| .tmp t=>J t|_=>ae)++
 (match o.guard with|some (g,_)=>((ops[g]?).bind (·.dst)).toList|none=>[])++o.dst.toList
def sR (ops:Array Oper) (x o:Oper):Bool:=
 (match x.dst with|some d=>(vh ops o).contains d|none=>ak)||(match o.dst with|some d=>(vh ops x).contains d|none=>ak)||(lT x.op&&lT o.op)
def vj (ops:Array Oper):Bool:=
 (mN ops.size).all λi=>
  match ops[i]? with
  |none=>aa
  |some o=>(o.after.toList.all λe=> !Region.binds .any e||decide (e.on<i))&&
   (mN i).all λx=>match ops[x]? with|none=>aa|some y=> !sR ops y o||gD (kp ops) i x
def jw (n:Nat):Code->Bool
 | .region _ ops draw=>(ops.toList.all λo=>o.op.operands.toList.all nI&&(match o.dst with|some d=>decide (d<n)|none=>aa))&&(!draw||vj ops)
 | .seq a b=>jw n a&&jw n b
 | .cond c a b=>nI c&&jw n a&&jw n b
 | .block _ c=>jw n c
 | .scope c=>jw n c
 | .loop c=>jw n c
 |_=>aa
structure lj (ds:List Deferred) (j:cj) (N:Nat) (fr:Nat->af) (a:Act):Prop where
 val:∀t,de j (fr t) (a.tmps.getD t undef)
 defers:a.defers=ds
 size:a.tmps.size=N
def fG.out:fG->Exit| .normal=> .normal| .exit id=> .exit id| .ret=> .ret
def Uh (ops:Array Oper):List Nat:=ops.toList.filterMap (·.dst)
def q6:Code->List Nat| .region _ ops _=>Uh ops| .seq a b=>q6 a++q6 b| .cond _ a b=>q6 a++q6 b| .block _ c=>q6 c| .scope c=>q6 c| .loop c=>q6 c|_=>[]
structure WF (m:Mem):Prop where
 dead:∀b,m.next<=b->m.blk b= .dead
 low:∀b,qe m.next (m.blk b)
structure afV (P:bI) (c:Code) (fr:Nat->af) (m:Mem) (e:fG) (cb:Nat->af) (m':Mem):Prop where
 next:m.next<=m'.next
 keep:∀i,(q6 c).contains i=ak->cb i=fr i
 low:WF m->(∀t,low m.next (fr t))->WF m'/\∀t,low m'.next (cb t)
 sound:∀{ds:List Deferred} {N:Nat} {j:cj} {a:Act} {w:World} {Q:Exit->Act->World->Prop},jw N c=aa->Rel P j m w->WF m->lj ds j N fr a->(∀a' w' c6,Post P j m w c6 m' w'->lj ds c6 N cb a'->Q e.out a' w')->c.wp P Q a w
def aeJ:Code->Bool| .seq (.region _ _ _) (.block _ (.loop _))=>aa|_=>ak
def lS (P:bI) (C:FuncId->Array af->Mem->af->Mem->Prop):Nat->Code->(Nat->af)->Mem->fG->(Nat->af)->Mem->Prop|0,_,_,_,_,_,_=>False|_+1, .skip,fr,m,e,cb,m'=>e= .normal/\cb=fr/\m'=m|_+1, .label _,fr,m,e,cb,m'=>e= .normal/\cb=fr/\m'=m|_+1, .exit id,fr,m,e,cb,m'=>e= .exit id/\cb=fr/\m'=m|_+1, .ret,fr,m,e,cb,m'=>e= .ret/\cb=fr/\m'=m|_+1, .region _ ops ak,fr,m,e,cb,m'=>e= .normal/\k6 P C ops.toList ops.toList fr m cb m'|_+1, .region _ ops aa,fr,m,e,cb,m'=>e= .normal/\hW P C ops.toList (kp ops) 0 ops.toList ⟨[],[],[]⟩ fr m cb m'|n+1, .seq a b,fr,m,e,cb,m'=>(∃bX fY m1,lS P C n a fr m bX fY m1/\(if bX= .normal then lS P C n b fY m1 e cb m' else e=bX/\cb=fY/\m'=m1))\/(aeJ a=aa/\afV P (.seq a b) fr m e cb m')|n+1, .cond c a b,fr,m,e,cb,m'=>∃t,bk fr c= .bool t/\lS P C n (if t then a else b) fr m e cb m'|n+1, .scope c,fr,m,e,cb,m'=>lS P C n c fr m e cb m'|n+1, .block id c,fr,m,e,cb,m'=>∃bX,lS P C n c fr m bX cb m'/\e=(if bX= .exit id then .normal else bX)|n+1, .loop c,fr,m,e,cb,m'=>∃bX fY m1,lS P C n c fr m bX fY m1/\(if bX= .normal then lS P C n (.loop c) fY m1 e cb m' else e=bX/\cb=fY/\m'=m1)|_+1,_,_,_,_,_,_=>False
def KZ (P:bI) (fr:Nat->af) (m:Mem):ResultVar->af->Prop
 | .tmp t,v=>v=fr t
 | .cell a t,v=>∃b off,fr a= .pointer (J ⟨b,off,ae⟩)/\∃d,P.underlying t=J d/\
   (if lI d=aa then ∃i cs,P.info? t=J i/\kd m b off i.size=J cs/\v= .agg cs.toArray else m.load b off=J v)
def q2 (P:bI) (fr:Nat->af) (m:Mem):List ResultVar->List af->Prop|[],[]=>True|r::rs,v::vs=>KZ P fr m r v/\q2 P fr m rs vs|_,_=>False
def lR (P:bI) (f:FuncId):Bool:=
 match P.funcs[f]? with
 | J fn => !(fn.name == "runtime.NumGoroutine") && (match fn.body with | J c => jw fn.ntmps c | ae => ak)
 |none=>ak
def pack:List af->af|[x]=>x|vs=> .tuple vs.toArray
structure Grown (w w':World):Prop where
 os:w'.os=w.os
 tape:w'.tape=w.tape
 output:w'.output=w.output
 size:w.heap.size<=w'.heap.size
 heap:∀c,c<w.heap.size->w'.heap[c]? =w.heap[c]?
def LB (P:bI) (f:FuncId) (args:Array af) (m:Mem) (v:af) (m':Mem):Prop:=
 m.next<=m'.next/\(WF m->low m'.next v/\WF m')/\
  ∀(j:cj) (w:World) (kq:Array af),WF m->Rel P j m w->bP (de j) args.toList kq.toList->Calls P f kq w λe w'=>∃bz c6,e= .returned bz/\Post P j m w c6 m' w'/\de c6 v bz
def Cl (P:bI) (g:FuncId):Prop:=
 (∃ fn, P.funcs[g]? = J fn ∧ (fn.name == "runtime.NumGoroutine") = ak ∧ fn.body.isNone = ak) ∧
  ∀(cs:Array af) (w:World),CallsD P g cs .returning w λe u w'=>(∃v,e= .returned v)/\u= .returning/\w'=w
structure afP (P:bI) (fn:Func) (c A:Code) (id:Nat) (mk p3:Oper) (B:Code) (g k:Nat) (cs:Array bS):Prop where
 body:fn.body=J (.seq A (.seq (.region id #[mk,p3] ak) B))
 code:c= .seq A (.seq (.region id #[mk] ak) B)
 db:aeJ A=ak
 apv:mk.op= .makeFunc (.func g) #[] cs
 VR:mk.dst=J k
 abA:mk.guard=ae
 amB:p3.op= .defer {callee:= .value (.tmp k),args:=#[],argTypes:=#[]}
 amz:p3.dst=ae
 amA:p3.guard=ae
 apA:Cl P g
def qm (P:bI) (fn:Func) (c:Code):Prop:=fn.body=J c\/∃A id mk p3 B g k cs,afP P fn c A id mk p3 B g k cs
def jn (P:bI):Nat->FuncId->Array af->Mem->af->Mem->Prop
 |0,_,_,_,_,_=>False
 |n+1,f,args,m,v,m'=>(lR P f=aa/\LB P f args m v m')\/∃fn c e fr m1 vs,P.funcs[f]? =J fn/\qm P fn c/\lR P f=aa/\args.size<=fn.ntmps/\
   lS P (jn P n) n c (λi=>(args++nj (fn.ntmps - args.size) undef).getD i undef) m e fr m1/\(e= .normal\/e= .ret)/\
   q2 P fr m1 fn.results.toList vs/\v=pack vs/\(vs.length=1\/∀x∈vs,storable x=aa)/\
   (m'=m1\/(m'=m1.nf m.next/\low m.next v/\∀b,b<m.next->m1.blk b=m.blk b\/qe m.next (m1.blk b)))
end Go.aF
end
section
namespace Go.aF
def bP.Kh {aK cg:Type} {R:aK->cg->Prop} {l:List cg} (h:bP R [] l):l=[]:=by
 cases l with
 |nil=>rfl
 |cons _ _=>exact h.elim
def Kq {fn:Fn} {bY cs:Array af} (h:dy (.func fn bY cs)=aa):bY=#[]/\cs=#[]:=by
 grind [dy]
theorem B0 {j:cj} {v bz:af} (h:dy v=aa) (aD:eA j v bz):bz=v:=by
 cases v with
 |pointer a=>cases a with
  |none=>exact aD
  |some a=>grind [dy]
 |slice a l c=>cases a with
  |none=>exact aD
  |some a=>grind [dy]
 |map r=>cases r with
  |none=>exact aD
  |some r=>grind [dy]
 |chan _=>grind [dy]
 |func _ _ _=>
  obtain ⟨rfl,rfl⟩:=Kq (fn:= .func 0) (by simpa[flat,kz,dy] using h);obtain ⟨_,ds,ai,aT⟩:=aD;have:ds=#[]:=Ii (bP.Kh aT)
  grind
 |iface _ _=>grind [dy]
 |agg _=>grind [dy]
 |tuple _=>grind [dy]
 |_=>exact aD
theorem q4 {j:cj} {v:af} (h:dy v=aa):eA j v v:=by
 cases v with
 |pointer a=>cases a with
  |none=>rfl
  |some a=>grind [dy]
 |slice a l c=>cases a with
  |none=>rfl
  |some a=>grind [dy]
 |map r=>cases r with
  |none=>rfl
  |some r=>grind [dy]
 |chan _=>grind [dy]
 |func _ _ _=>obtain ⟨rfl,rfl⟩:=Kq (fn:= .func 0) (by simpa[flat,kz,dy] using h);exact ⟨rfl,#[],rfl,trivial⟩
 |iface _ _=>grind [dy]
 |agg _=>grind [dy]
 |tuple _=>grind [dy]
 |_=>rfl
def bP.Js {aK:Type} {R:aK->aK->Prop} {p:aK->Bool} (h:∀a b,p a=aa->R a b->b=a):∀{l k:List aK},l.all p=aa->bP R l k->k=l
 |[],[],_,_=>rfl
 |a::l,b::k,bb,⟨h1,ai⟩=>by simp only[ml,fx] at bb;rw[h a b bb.1 h1,bP.Js h bb.2 ai]
 |[],_::_,_,cp=>cp.elim
 |_::_,[],_,cp=>cp.elim
def bP.self {aK:Type} {R:aK->aK->Prop} {p:aK->Bool} (h:∀a,p a=aa->R a a):∀{l:List aK},l.all p=aa->bP R l l
 |[],_=>fs
 |a::l,bb=>by simp only[ml,fx] at bb;exact ⟨h a bb.1,bP.self h bb.2⟩
def adh {j:cj} {v bz:af} (h:kz v=aa) (aD:fC j v bz):bz=v:=by
 cases v with
 |agg cs=>obtain ⟨ds,rfl,ai⟩:=aD;have:=bP.Js (λa b=>B0 (j:=j)) h ai;simp_all
 |_=>exact B0 (j:=j) h (by grind [fC])
def zf {j:cj} {v:af} (h:kz v=aa):fC j v v:=by
 cases v with
 |agg cs=>exact ⟨cs,rfl,bP.self (λa=>q4) h⟩
 |_=>simp only[fC];exact q4 h
def W3 {j:cj} {v bz:af} (h:flat v=aa) (aD:de j v bz):bz=v:=by
 cases v with
 |tuple cs=>obtain ⟨ds,rfl,ai⟩:=aD;have:=bP.Js (λa b=>adh (j:=j)) h ai;simp_all
 |func _ _ _=>obtain ⟨rfl,rfl⟩:=Kq (fn:= .func 0) (by simpa[flat,kz,dy] using h);obtain ⟨gs,ds,h1,ai,aT⟩:=aD;rw[h1,Ii (bP.Kh ai),Ii (bP.Kh aT)]
 |chan _=>grind [flat,kz,dy]
 |_=>exact adh (j:=j) h (by grind [de])
theorem acZ {j:cj} {v:af} (h:flat v=aa):de j v v:=by
 cases v with
 |tuple cs=>exact ⟨cs,rfl,bP.self (λa=>zf) h⟩
 |func _ _ _=>obtain ⟨rfl,rfl⟩:=Kq (fn:= .func 0) (by simpa[flat,kz,dy] using h);exact ⟨#[],#[],rfl,trivial,trivial⟩
 |chan _=>grind [flat,kz,dy]
 |_=>simp only[de];exact zf h
def kY.abK {j:cj}:∀{l k:List af},l.all xr=aa->bP (fC j) l k->bP (kY j) l k
 |[],[],_,_=>trivial
 |[],_::_,_,h=>h.elim
 |_::_,[],_,h=>h.elim
 |v::l,bz::k,bb,⟨h1,ai⟩=>by
  simp only[ml,fx] at bb;refine ⟨?_,kY.abK bb.2 ai⟩;have aD:=bb.1;unfold xr at aD;split at aD
  ·exact h1
  grind
theorem de.storable {j:cj} {v bz:af} (h:de j v bz) (bf:storable v=aa):fC j v bz:=by
 cases v with
 |tuple _=>grind [aF.storable]
 |chan _=>grind [aF.storable]
 |func fn bY cs=>
  simp only[aF.storable,fx] at bf;have bF:bY=#[]:=by grind
  subst bF;obtain ⟨gs,ds,h1,ai,aT⟩:=h;rw[Ii (bP.Kh ai)] at h1;exact ⟨rfl,ds,h1,kY.abK bf.2 aT⟩
 |_=>exact h
def de.int {j:cj} {k:aG} {n:Int} {bz:af} (h:de j (.int k n) bz):bz= .int k n:=h
def de.bool {j:cj} {b:Bool} {bz:af} (h:de j (.bool b) bz):bz= .bool b:=h
theorem de.str {j:cj} {b:ByteArray} {bz:af} (h:de j (.string b) bz):bz= .string b:=h
def de.nc {j:cj} {l c:Nat} {bz:af} (h:de j (.slice ae l c) bz):bz= .slice ae l c:=h
def de.ptr {j:cj} {a:Addr} {bz:af} (h:de j (.pointer (J a)) bz):∃e,a.spot=ae/\j a.block=J e/\bz= .pointer (J ⟨e.blk,e.db+a.off,ae⟩):=h
def de.slice {j:cj} {a:Addr} {l c:Nat} {bz:af} (h:de j (.slice (J a) l c) bz):∃e,a.spot=ae/\j a.block=J e/\
   ((c<dc/\bz= .slice (J ⟨e.blk,e.db+a.off,ae⟩) l c)\/
    (c=dc/\0<e.es/\l<=e.cap - a.off / e.es/\e.cap<dc/\a.off%e.es=0/\a.off / e.es<=e.cap/\bz= .slice (J ⟨e.blk,e.db+a.off,ae⟩) l (e.cap - a.off / e.es))\/
    (c=dc/\l=0/\∃o',bz= .slice (J ⟨e.blk,o',ae⟩) 0 0)\/
    (c=0/\l=0/\∃a',bz= .slice (J a') 0 0)\/
    (∃k,c=dc+k/\0<k/\l<=k/\0<e.es/\k<=e.cap - a.off / e.es/\e.cap<dc/\a.off%e.es=0/\a.off / e.es<=e.cap/\bz= .slice (J ⟨e.blk,e.db+a.off,ae⟩) l (e.cap - a.off / e.es))):=h
def de.vw {j:cj} {a:Addr} {l c:Nat} {bz:af} (h:de j (.slice (J a) l c) bz) (ay:c<=dc):∃e,a.spot=ae/\j a.block=J e/\
   ((c<dc/\bz= .slice (J ⟨e.blk,e.db+a.off,ae⟩) l c)\/
    (c=dc/\0<e.es/\l<=e.cap - a.off / e.es/\e.cap<dc/\a.off%e.es=0/\a.off / e.es<=e.cap/\bz= .slice (J ⟨e.blk,e.db+a.off,ae⟩) l (e.cap - a.off / e.es))\/
    (c=dc/\l=0/\∃o',bz= .slice (J ⟨e.blk,o',ae⟩) 0 0)\/
    (c=0/\l=0/\∃a',bz= .slice (J a') 0 0)):=by
 obtain ⟨e,h1,ai,aT⟩:=h.slice;refine ⟨e,h1,ai, ?_⟩;rcases aT with aT|aT|aT|aT|⟨k,hk,nB,_⟩
 ·grind
 ·grind
 ·grind
 ·grind
 grind
theorem o4 (b o n:Nat):(⟨b,o,ae⟩:Addr).add n=⟨b,o+n,ae⟩:=by
 grind [Addr.add]
theorem mB:∀(vs L:List af) (o:Nat),(eY L o vs).length=L.length
 |[],L,o=>rfl
 |v::vs,L,o=>by simp[eY,mB vs]
theorem o5 (vs:List af):∀(L:List af) (o i:Nat),o+vs.length<=L.length->(eY L o vs)[i]? =if o<=i/\i<o+vs.length then vs[i - o]? else L[i]? :=by
 induction vs with
 |nil=>grind [eY]
 |cons v vs a1=>
  grind [eY]
def aqS (vs:List af):∀(A:Array af) (o k:Nat),((vs.zipIdx k).foldl (λcs (c,j)=>cs.setIfInBounds (o+j) c) A).toList=eY A.toList (o+k) vs:=by
 induction vs with
 |nil=>simp_all [eY]
 |cons v vs a1=>simp_all [eY,sK]
def Kv {j:cj} {place:Nat->Option (Nat×Nat)}:∀(cQ Jl:List (Nat×af)) (L:List af) (A:Array af) (cs:List af),bP (λp q=>p.1=q.1/\de j p.2 q.2) cQ Jl->bP (eA j) L A.toList->k5 place L cQ=J cs->
  ∃ds,Instr.fill place A Jl=J ds/\bP (eA j) cs ds.toList
 |[],[],L,A,cs,_,dE,h=>by simp only[k5,kB.injEq] at h;subst h;exact ⟨A,rfl,dE⟩
 |(i,v)::cQ,(k,bz)::Jl,L,A,cs,⟨⟨h1,ai⟩,aT⟩,dE,h=>by
  simp only at h1 ai;subst h1;simp only[k5] at h;cases bb:place i with
  |none=>grind
  |some q=>
   obtain ⟨off,size⟩:=q;simp only[bb] at h;split at h
   ·rename_i ay;obtain ⟨bf,cN,aR⟩:=ay;have rN:=de.storable ai bf;have fZ:=fC.cells rN;have hlen:bz.cells.size=size:=by have:=fZ.length;grind
    have axF:L.length=A.size:=by have:=dE.length;grind
    simp only[Instr.fill,bb,hlen,ne_eq,not_true_eq_false,decide_false,Bool.false_or,decide_eq_true_eq];rw[if_neg (by omega)];refine Kv cQ Jl _ _ cs aT ?_ h;have bF:=aqS bz.cells.toList A off 0;simp only[pS] at bF;have wC:(bz.cells.zipIdx.foldl (λcs (c,j)=>cs.setIfInBounds (off+j) c) A)=((bz.cells.toList.zipIdx).foldl (λcs (c,j)=>cs.setIfInBounds (off+j) c) A):=by
     grind [Array.toList_zipIdx]
    rw[wC,bF];refine bP.Kj (by grind [mB]) ?_;intro i a b bl aw;rw[o5 _ _ _ _ (by grind)] at bl;rw[o5 _ _ _ _ (by grind)] at aw;have aaU:=fZ.length;rw[aaU] at bl;split at bl
    ·rename_i s6;rw[if_pos s6] at aw;obtain ⟨dJ,e5,aV⟩:=fZ.get _ _ bl
     grind
    ·rename_i s6;rw[if_neg s6] at aw;obtain ⟨dJ,e5,aV⟩:=dE.get _ _ bl
     grind
   grind
 |[],_::_,_,_,_,h,_,_=>h.elim
 |_::_,[],_,_,_,h,_,_=>h.elim
def h3 (j:cj) (ap dn:bS->af) (o:Oper):Prop:=∀x∈o.op.operands,de j (ap x) (dn x)
theorem fw {P:bI} {t:bV} {d:TypeDesc} (h:P.underlying t=J d) (w:World):(underlying t).run P w= .ok d w:=run_underlying h w
def vm {P:bI} {t:bV} {i:TypeInfo} (h:P.info? t=J i) (w:World):(typeInfo t).run P w= .ok i w:=by simp[typeInfo,h]
theorem jb {P:bI} {t:bV} {i:TypeInfo} (h:P.info? t=J i) (w:World):(sizeOf t).run P w= .ok i.size w:=by simp[sizeOf,vm h]
theorem og {P:bI} {t:bV} {i:TypeInfo} {z:af} (h:P.info? t=J i) (bx:i.zero=J z) (w:World):(zeroValue t).run P w= .ok z w:=by simp_all [zeroValue,vm]
def sb {P:bI} {t:bV} {d:TypeDesc} (h:P.underlying t=J d) (w:World):(isAgg t).run P w= .ok (lI d) w:=by
 simp only[isAgg,kD,fw h,jE];cases d<;>simp[lI]
def h3.VO {j:cj} {ap dn:bS->af} {o:Oper} (cQ:List (Nat×bS)) (h:∀p∈cQ,de j (ap p.2) (dn p.2)):bP (λ(p q:Nat×af)=>p.1=q.1/\de j p.2 q.2) (cQ.map λp=>(p.1,ap p.2)) (cQ.map λp=>(p.1,dn p.2)):=by
 induction cQ with
 |nil=>exact fs
 |cons p cQ a1=>exact ⟨⟨rfl,h p (by simp)⟩,a1 λq bm=>h q (by grind)⟩
def aco {P:bI} (w:World):∀(bY:List Field),(∀x∈bY.map (λf=>(P.info? f.type).map λi=>(f.offset,i.size)),x.isSome=aa)->
  (bY.mapM (m:=Sem) λf=>do pure (f.offset,<-sizeOf f.type)).run P w= .ok (bY.map λf=>(f.offset,((P.info? f.type).map (·.size)).getD 0)) w
 |[],_=>by rfl
 |f::bY,h=>by have bR:=h _ (by simp;exact .inl rfl);simp only[Option.isSome_map] at bR;obtain ⟨i,az⟩:=agh.1 bR;have a1:=aco w bY (λx an=>h x (by simp only[rA,ha];exact .inr an));simp_all [jb]
def h3.hs {j:cj} {ap dn:bS->af} {y:bS} {k:aG} {n:Int} (h:de j (ap y) (dn y)) (aZ:ap y= .int k n):dn y= .int k n:=by
 rw[aZ] at h;exact h.int
end Go.aF
end
section
namespace Go.aF
theorem aq2 {P:bI} {j:cj} {ap dn:bS->af} {o:Oper} {v:af} (bf:∀cs b,o.op≠ .select cs b) (h:∀x∈o.op.operands,flat (ap x)=aa) (aV:∀w,(execOp ap o).run P w= .ok (.value v) w)
  (aD:h3 j ap dn o) (w:World):(execOp dn o).run P w= .ok (.value v) w:=by
 rw[<-aV w];congr 1;exact execOp_congr o bf λx an=>W3 (h x an) (aD x an)
def bP.extract {aK cg:Type} {R:aK->cg->Prop} {A:Array aK} {B:Array cg} (h:bP R A.toList B.toList) (i k:Nat):bP R (A.extract i k).toList (B.extract i k).toList:=by
 simp only[Yv,List.extract_eq_drop_take'];exact (h.take k).drop i
def bP.size {aK cg:Type} {R:aK->cg->Prop} {A:Array aK} {B:Array cg} (h:bP R A.toList B.toList):A.size=B.size:=by simpa using h.length
def bP.JA {aK cg:Type} {R:aK->cg->Prop} {A:Array aK} {B:Array cg} (h:bP R A.toList B.toList) (i:Nat) (a:aK) (bl:A[i]? =J a):∃b,B[i]? =J b/\R a b:=by
 have:=h.get i a (by grind)
 grind
theorem bP.map {aK cg mI:Type} {R:cg->mI->Prop} (f:aK->cg) (g:aK->mI):∀(l:List aK),(∀x∈l,R (f x) (g x))->bP R (l.map f) (l.map g)
 |[],_=>fs
 |x::l,h=>⟨h x (by simp),bP.map f g l λy aZ=>h y (by simp[aZ])⟩
def fC.up {j:cj} {v bz:af} (h:fC j v bz):de j v bz:=de.wN h
theorem aqR {P:bI} {dn:bS->af} {o:Oper} (neq:Bool) (x y:bS) (t u e:bV) (a:Addr) (l c:Nat) (h:o.op= .binOp (if neq then .neq else .eql) t x y u) (aJ:P.underlying t=J (.slice e))
   (an:dn x= .slice (J a) l c) (aZ:dn y= .slice ae 0 0) (w:World):(execOp dn o).run P w= .ok (.value (.bool neq)) w:=by
 grind [eqGuard,Lib.run_eql_slice_nil,run_neq_slice_nil_any,execOp,kD,jE,nt]
def Wf {P:bI} {j:cj} {ap dn:bS->af} {o:Oper} {v:af} (h:dD P ap o v) (hO:h3 j ap dn o) (w:World):∃bz,(execOp dn o).run P w= .ok (.value bz) w/\de j v bz:=by
 cases h with
 |flat v bf h aD aV=>grind [aq2,acZ]
 |move x h=>
  refine ⟨dn x, ?_,hO x ?_⟩
  ·rcases h with h|h<;>simp[execOp,h]
  grind [dm]
 |pick c a b t h ay=>
  have h1:=hO c (by grind [dm]);rw[ay] at h1;have ai:=h1.bool;have bl:=hO a (by grind [dm]);have aw:=hO b (by grind [dm]);refine ⟨if t then dn a else dn b, ?_, ?_⟩
  ·simp_all [execOp,asBool]
  grind
 |extract x i vs v h an aD=>have h1:=hO x (by grind [dm]);rw[an] at h1;obtain ⟨ds,bg,ai⟩:=h1;obtain ⟨b,aw,aV⟩:=ai.JA i v aD;exact ⟨b,by simp_all [execOp,Instr.extract],aV.up⟩
 |field t x i bY f d cs v h aJ bF bg an aD=>
  have h1:=hO x (by grind [dm]);rw[an] at h1;obtain ⟨ds,oP,ai⟩:=h1;by_cases bl:lI d=aa
  ·rw[if_pos bl] at aD;obtain ⟨k,hk,hle,rfl⟩:=aD;refine ⟨.agg (ds.extract f.offset (f.offset+k.size)), ?_,⟨_,rfl,ai.extract _ _⟩⟩;simp_all [execOp,Instr.field,fw,asAgg,part,sb,jb]
  ·rw[if_neg bl] at aD;obtain ⟨b,aw,aV⟩:=ai.JA _ _ aD;simp_all [de.qh,execOp,Instr.field,fw,asAgg,part,sb]
 |J6 t x y e d i l k n cs h aJ bg bl az an aZ bR h1=>have c5:=hO x (by grind [dm]);have ie:=hO y (by grind [dm]);rw[an] at c5;rw[aZ] at ie;have lr:=ie.int;obtain ⟨ds,oP,ai⟩:=c5;refine ⟨.agg (ds.extract (n.toNat*i.size) (n.toNat*i.size+i.size)), ?_,⟨_,rfl,ai.extract _ _⟩⟩;simp[execOp,h,Instr.index,lr,asIntOf,fw aJ,oP,bR,h1,part,sb bg,bl,jb az]
 |J5 t x y e d i l k n cs v h aJ bg bl az an aZ bR h1 aD=>have c5:=hO x (by grind [dm]);have ie:=hO y (by grind [dm]);rw[an] at c5;rw[aZ] at ie;have lr:=ie.int;obtain ⟨ds,oP,ai⟩:=c5;obtain ⟨b,aw,aV⟩:=ai.JA _ _ aD;refine ⟨b, ?_,de.qh aV⟩;simp[execOp,h,Instr.index,lr,asIntOf,fw aJ,oP,bR,h1,part,sb bg,bl,jb az,aw]
 |build t cQ bY i z cs h aJ az bx dw bb ay=>
  have ai:=h3.VO (j:=j) (ap:=ap) (dn:=dn) (o:=o) cQ.toList (λp bb=>hO p.2 (by
   grind [dm]))
  obtain ⟨ds,oP,aV⟩:=Kv (j:=j) _ _ _ z.cells cs ai (bP.self (λa=>q4) dw) ay;refine ⟨.agg ds, ?_,⟨_,rfl,by grind⟩⟩;have Br:=aco (P:=P) w bY.toList (by grind [pC]);have ayi:(bY.mapM (m:=Sem) λf=>do pure (f.offset,<-sizeOf f.type)).run P w= .ok (bY.map λf=>(f.offset,((P.info? f.type).map (·.size)).getD 0)) w:=by
   rw[afM];simp only[Sem.run_map,Br,jE];congr 1
   grind
  have axY:(λk:Nat=>(bY.map λf=>(f.offset,((P.info? f.type).map (·.size)).getD 0))[k]?)=(λk:Nat=>((pC P bY)[k]?).join):=by
   grind [pC,Option.isSome_map,agh]
  simp_all [execOp,Instr.build,og,fw]
 |Jg t cQ n e i k z cs h aJ az bx dw he ay=>
  have ai:=h3.VO (j:=j) (ap:=ap) (dn:=dn) (o:=o) cQ.toList (λp bb=>hO p.2 (by
   grind [dm]))
  obtain ⟨ds,oP,aV⟩:=Kv (j:=j) _ _ _ z.cells cs ai (bP.self (λa=>q4) dw) ay;refine ⟨.agg ds, ?_,⟨_,rfl,by grind⟩⟩;simp_all [execOp,Instr.build,og,fw,jb]
 |nilCheck x a h an=>have h1:=hO x (by grind [dm]);rw[an] at h1;obtain ⟨e,bf,bn,ay⟩:=h1.ptr;simp_all [execOp]
 |fieldAddr t x i bY f k b off h aJ bF hk bf an=>have h1:=hO x (by grind [dm]);rw[an] at h1;obtain ⟨e,_,bn,ay⟩:=h1.ptr;refine ⟨.pointer (J ⟨e.blk,e.db+(off+f.offset),ae⟩), ?_,⟨e,rfl,bn,rfl⟩⟩;simp_all [execOp,Instr.fieldAt,fw,yj,fieldPlace,jb,o4]
 |indexAddr t x y e i b off l c k n h aJ az an aZ bR h1=>
  have c5:=hO x (by grind [dm]);have ie:=hO y (by grind [dm]);rw[an] at c5;rw[aZ] at ie;have lr:=ie.int;obtain ⟨q,_,bn,ay⟩:=c5.slice;have eM:∃c3,dn x= .slice (J ⟨q.blk,q.db+off,ae⟩) l c3:=by
   rcases ay with ⟨_,ay⟩|⟨_,_,_,_,_,_,ay⟩|⟨_,aR,_,ay⟩|⟨_,aR,_⟩|⟨_,_,_,_,_,_,_,_,_,ay⟩
   ·grind
   ·grind
   ·omega
   ·omega
   grind
  obtain ⟨c3,eM⟩:=eM;refine ⟨.pointer (J ⟨q.blk,q.db+(off+n.toNat*i.size),ae⟩), ?_,⟨q,rfl,bn,rfl⟩⟩;simp[execOp,h,YO,lr,asIntOf,fw aJ,eM,bR,h1,jb az,o4,sK]
 |J4 t x y e i b off l k n h aJ az an aZ bR h1=>have c5:=hO x (by grind [dm]);have ie:=hO y (by grind [dm]);rw[an] at c5;rw[aZ] at ie;have lr:=ie.int;obtain ⟨q,_,bn,ay⟩:=c5.ptr;refine ⟨.pointer (J ⟨q.blk,q.db+(off+n.toNat*i.size),ae⟩), ?_,⟨q,rfl,bn,rfl⟩⟩;simp[execOp,h,YO,lr,asIntOf,fw aJ,ay,yj,bR,h1,jb az,o4,sK]
 |JC t x y e i l g k n h aJ az bf an aZ bR h1 aR=>
  have c5:=hO x (by grind [dm]);have ie:=hO y (by grind [dm]);rw[an] at c5;rw[aZ] at ie;have lr:=ie.int;have ay:dn x= .pointer (J ⟨g,0,ae⟩):=by have c5:dn x= .pointer (J ⟨g*4096 / 4096,g*4096%4096,ae⟩):=c5;rw[c5,show g*4096 / 4096=g by omega,show g*4096%4096=0 by omega]
  refine ⟨.pointer (J ⟨g,n.toNat,ae⟩), ?_, ?_⟩
  ·simp[execOp,h,YO,lr,asIntOf,fw aJ,ay,yj,bR,h1,jb az,o4,bf]
  ·show af.pointer _=_;rw[show (g*4096+n.toNat) / 4096=g by omega,show (g*4096+n.toNat)%4096=n.toNat by omega]
 |slice t x cf az e i b off l c n dG h aJ fm an aw eW eN h1 ai aT=>
  have c5:=hO x (by grind [dm]);rw[an] at c5;obtain ⟨q,_,bn,ay⟩:=c5.vw (lG aw);have hex:∃a':Addr,dn x= .slice (J a') l c/\((c<dc/\a'=⟨q.blk,q.db+off,ae⟩)\/(c=0/\l=0)):=by
   rcases ay with ⟨cF,ay⟩|⟨ay,_⟩|⟨ay,_⟩|⟨ay,aR,a',bl⟩
   ·grind
   ·grind
   ·grind
   grind
  obtain ⟨a',eM,Vt⟩:=hex;have ny:(jc aa l c (cf.map dn) (az.map dn) ae).run P w= .ok (n,dG,c) w:=by
   cases cf with
   |none=>
    simp only[qo] at eW;subst eW;cases az with
    |none=>simp_all [nJ,jc]
    |some y=>obtain ⟨k,aZ⟩:=eN;have:=h3.hs (hO y (by grind [dm])) aZ;simp_all [jc,mL,asIntOf]
   |some u=>
    obtain ⟨k,hu⟩:=eW;have oS:=h3.hs (hO u (by grind [dm])) hu;cases az with
    |none=>simp only[nJ] at eN;simp_all [jc,mL,asIntOf]
    |some y=>obtain ⟨k',aZ⟩:=eN;have:=h3.hs (hO y (by grind [dm])) aZ;simp_all [jc,mL,asIntOf]
  refine ⟨.slice (J (if c=n then a' else a'.add (n*i.size))) (dG - n) (c - n), ?_, ?_⟩
  ·simp only[execOp,h,vM,kD,fw aJ,jE,IW,vL,eM,ny,jb fm,nt]
   grind
  ·refine ⟨q,rfl,bn, ?_⟩;rcases Vt with ⟨cF,rfl⟩|⟨rfl,rfl⟩
   ·grind [o4]
   grind
 |slice3 t x h8 az e i b off l c dG k' oV h aJ fm an ay eN mV h1=>
  obtain ⟨y,apl,rfl,aZ⟩:=eN;have c5:=hO x (by grind [dm]);rw[an] at c5;have wB:=h3.hs (hO y (by grind [dm])) aZ;have n4:=h3.hs (hO h8 (by grind [dm])) mV;obtain ⟨q,_,bn,fZ⟩:=c5.vw (by grind);have hex:∃(a':Addr) (c3:Nat),dn x= .slice (J a') l c3/\k'<=c3/\eA j (.slice (J ⟨b,off,ae⟩) dG k') (.slice (J a') dG k'):=by
   rcases fZ with ⟨cF,fZ⟩|⟨gN,_,hle,kJ,_,_,fZ⟩|⟨gN,hV,o',fZ⟩|⟨rQ,hV,a',fZ⟩
   ·rcases ay with ⟨_,hk⟩|⟨gN,_⟩
    ·exact ⟨_,_,fZ,hk,q,rfl,bn, .inl ⟨TI hk cF,rfl⟩⟩
    grind
   ·rcases ay with ⟨pv,_⟩|⟨_,hk⟩
    ·grind
    ·exact ⟨_,_,fZ,jd hk hle,q,rfl,bn, .inl ⟨TI (jd hk hle) (TI (Nat.sub_le _ _) kJ),rfl⟩⟩
   ·rcases ay with ⟨pv,_⟩|⟨_,hk⟩
    ·grind
    ·have nB:k'=0:=by omega
     have U9:dG=0:=by omega
     subst nB U9;subst hV;exact ⟨_,_,fZ,pn _,q,rfl,bn, .inr (.inr (.inr (.inl ⟨rfl,rfl,_,rfl⟩)))⟩
   ·subst rQ hV;have nB:k'=0:=by grind
    have U9:dG=0:=by omega
    subst nB U9;exact ⟨a',_,fZ,e4 _,q,rfl,bn, .inr (.inr (.inr (.inl ⟨rfl,rfl,_,rfl⟩)))⟩
  obtain ⟨a',c3,eM,hk,aD⟩:=hex;have ny:(jc aa l c3 (ae:Option af) ((J y).map dn) (J (dn h8))).run P w= .ok (0,dG,k') w:=by simp_all [jc,mL,asIntOf]
  refine ⟨_, ?_,de.qh aD⟩;simp only[execOp,h,vM,kD,fw aJ,jE,IW,vU,vL,eM] at ny⊢;simp_all [jb,Addr.add]
 |P5 t x cf az h8 e i b off l c n dG k' Kb J9 oV h aJ fm an ay eW eN mV bR h1=>
  have c5:=hO x (by grind [dm]);rw[an] at c5;have hB:=h3.hs (hO cf (by grind [dm])) eW;have wB:=h3.hs (hO az (by grind [dm])) eN;have n4:=h3.hs (hO h8 (by grind [dm])) mV;obtain ⟨q,_,bn,fZ⟩:=c5.vw (by grind);have hex:∃(a':Addr) (c3:Nat),dn x= .slice (J a') l c3/\k'<=c3:=by
   rcases fZ with ⟨cF,fZ⟩|⟨gN,_,hle,kJ,_,_,fZ⟩|⟨gN,hV,o',fZ⟩|⟨rQ,hV,a',fZ⟩
   ·grind
   ·grind
   ·grind
   grind
  obtain ⟨a',c3,eM,hk⟩:=hex;have ny:(jc aa l c3 ((J cf).map dn) ((J az).map dn) (J (dn h8))).run P w= .ok (n,dG,k') w:=by simp_all [jc,mL,asIntOf]
  have kv:∃l7 ju c2,(execOp dn o).run P w= .ok (.value (.slice l7 ju c2)) w:=by simp only[execOp,h,vM,kD,fw aJ,jE,vU,vL,eM] at ny⊢;simp_all [jb]
  obtain ⟨l7,ju,c2,kv⟩:=kv;exact ⟨_,kv,λb aw=>by grind⟩
 |P4 t x h8 az e i oV h aJ fm an eN mV=>
  obtain ⟨y,apl,rfl,aZ⟩:=eN;have c5:=hO x (by grind [dm]);rw[an] at c5;have eM:=c5.nc;have wB:=h3.hs (hO y (by grind [dm])) aZ;have n4:=h3.hs (hO h8 (by grind [dm])) mV;refine ⟨.slice ae 0 0, ?_,rfl⟩;have ny:(jc aa 0 0 (ae:Option af) ((J y).map dn) (J (dn h8))).run P w= .ok (0,0,0) w:=by simp_all [jc,mL,asIntOf]
  simp only[vU] at ny;simp[execOp,h,vM,fw aJ,vL,eM,ny,jb fm]
 |nc t x cf az e i h aJ fm an eW eN=>
  have c5:=hO x (by grind [dm]);rw[an] at c5;have eM:=c5.nc;refine ⟨.slice ae 0 0, ?_,rfl⟩;have ny:(jc aa 0 0 (cf.map dn) (az.map dn) ae).run P w= .ok (0,0,0) w:=by
   cases cf with
   |none=>
    cases az with
    |none=>rfl
    |some y=>obtain ⟨k,aZ⟩:=eN;have:=h3.hs (hO y (by grind [dm])) aZ;simp_all [jc,mL,asIntOf]
   |some u=>
    obtain ⟨k,hu⟩:=eW;have oS:=h3.hs (hO u (by grind [dm])) hu;cases az with
    |none=>simp_all [jc,mL,asIntOf]
    |some y=>obtain ⟨k',aZ⟩:=eN;have:=h3.hs (hO y (by grind [dm])) aZ;simp_all [jc,mL,asIntOf]
  simp[execOp,h,vM,fw aJ,vL,eM,ny,jb fm]
 |len x t e a l c h aJ an=>
  have c5:=hO x (by grind [dm,lh]);rw[an] at c5;have eM:∃a' c3,dn x= .slice a' l c3:=by
   cases a with
   |none=>exact ⟨_,_,c5.nc⟩
   |some a=>
    obtain ⟨q,_,bn,ay⟩:=c5.slice;rcases ay with ⟨_,ay⟩|⟨_,_,_,_,_,_,ay⟩|⟨_,aR,_,ay⟩|⟨_,aR,_,ay⟩|⟨_,_,_,_,_,_,_,_,_,ay⟩
    ·grind
    ·grind
    ·grind
    ·grind
    grind
  obtain ⟨a',c3,eM⟩:=eM;exact ⟨.int .i64 l,by simp[execOp,h,resolve,invoke,builtin,Builtin.len_,fw aJ,eM,goInt],rfl⟩
 |Jj x t e h aJ an=>have c5:=hO x (by grind [dm,lh]);rw[an] at c5;have eM:=c5.nc;exact ⟨.int .i64 0,by simp[execOp,h,resolve,invoke,builtin,Builtin.cap_,fw aJ,eM,goInt],rfl⟩
 |A2 neq x y t u e a l c h aJ an aZ=>
  have c5:=hO x (by grind [dm]);rw[an] at c5;have ie:=hO y (by grind [dm]);rw[aZ] at ie;have lr:=ie.nc;have eM:∃a' c3,dn x= .slice (J a') l c3:=by
   obtain ⟨q,_,bn,ay⟩:=c5.slice;rcases ay with ⟨_,ay⟩|⟨_,_,_,_,_,_,ay⟩|⟨_,aR,_,ay⟩|⟨_,aR,_,ay⟩|⟨_,_,_,_,_,_,_,_,_,ay⟩
   ·grind
   ·grind
   ·grind
   ·grind
   grind
  obtain ⟨a',c3,eM⟩:=eM;refine ⟨.bool neq, ?_,rfl⟩
  grind [aqR]
 |func fn first captured h bF=>
  refine ⟨.func fn (first.map dn) (captured.map dn),by simp[execOp,h,Instr.makeFunc],⟨_,_,rfl, ?_, ?_⟩⟩
  ·simp only[ye];exact bP.map _ _ _ λx an=>de.storable (hO x (by grind [dm])) (bF x (by grind))
  ·simp only[ye];exact bP.map _ _ _ λx an=>de.storable (hO x (by grind [dm])) (bF x (by grind))
end Go.aF
end
section
namespace Go.aF
structure uq (P:bI) (j:cj) (m:Mem) (w:World):Prop where
 load:∀b e o v,j b=J e->m.load b o=J v->∃bz,w.cell? ⟨e.blk,e.db+o,ae⟩=J bz/\eA j v bz
 own:∀b e L t,j b=J e->m.blk b= .own L t->P.cellsOf t=e.es/\L.length<=e.cap*e.es
 map:∀b e L u,j b=J e->m.blk b= .map L u->qI P j e w.heap[e.blk]? (.map L u)
 mE:rE P w
def Rel.load {P:bI} {j:cj} {m:Mem} {w:World} (h:Rel P j m w) (b:Nat) (e:kl) (o:Nat) (v:af) (bn:j b=J e) (aR:m.load b o=J v):∃bz,w.cell? ⟨e.blk,e.db+o,ae⟩=J bz/\eA j v bz:=by
 unfold Mem.load at aR;have aM:=h.obj b e bn;cases aw:m.blk b with
 |dead=>grind
 |map L u=>grind
 |lock _ _ _ _=>grind
 |ro rd=>
  simp only[aw] at aR aM;obtain ⟨cs,t,bZ,bz,h1,ai,aT⟩:=aM o v aR
  grind [rG]
 |own L t=>
  simp only[aw] at aR;obtain ⟨cs,bZ,hw,bF,h1,ai,aT,br⟩:=h.own b e L t bn aw
  grind [rG]
def Rel.ot {P:bI} {j:cj} {m:Mem} {w:World} (h:Rel P j m w):uq P j m w:=
 ⟨h.load,λb e L t bn aw=>by
  obtain ⟨cs,bZ,hw,bF,h1,ai,aT,br⟩:=h.own b e L t bn aw
  grind,λb e L u bn aw=>by have:=h.obj b e bn;grind,h.mE.val⟩
def BL {P:bI} {j:cj} {m:Mem} {w:World} (h:uq P j m w) {b:Nat} {e:kl} (bn:j b=J e):∀(n o:Nat) (cs:List af),kd m b o n=J cs->
  ∃ds:List af,bP (eA j) cs ds/\ds.length=n/\∀(i:Nat) (u:af),ds[i]? =J u->w.cell? ⟨e.blk,e.db+o+i,ae⟩=J u
 |0,o,cs,aV=>by simp only[kd,kB.injEq] at aV;subst aV;exact ⟨[],fs,rfl,λi u hu=>by grind⟩
 |n+1,o,cs,aV=>by
  simp only[kd] at aV;cases h1:m.load b o with
  |none=>grind
  |some v=>
   cases ai:kd m b (o+1) n with
   |none=>grind
   |some l=>
    simp only[h1,ai,kB.injEq] at aV;subst aV;obtain ⟨bz,ay,aD⟩:=h.load b e o v bn h1;obtain ⟨ds,aR,bB,bg⟩:=BL h bn n (o+1) l ai;refine ⟨bz::ds,⟨aD,aR⟩,by grind,λi u hu=> ?_⟩
    grind
theorem BM {P:bI} {w:World} {c o n:Nat} {ds:List af} (bB:ds.length=n) (bg:∀(i:Nat) (u:af),ds[i]? =J u->w.cell? ⟨c,o+i,ae⟩=J u):(loadCells ⟨c,o,ae⟩ n).run P w= .ok ds.toArray w:=by
 grind [run_loadCells_list,o4]
theorem acm {P:bI} {w:World} {a:Addr}:(loadCells a 0).run P w= .ok #[] w:=rfl
def ab5 {P:bI} (w:World):∀(cs:List UInt8) (s:ByteArray) (f:af->ByteArray->Sem (ForInStep ByteArray)),
  (∀u s,f (.int .u8 (u:UInt8).toNat) s=pure (.yield (s.push u)))->
  (forIn (cs.map λu=>mu .u8 (u.toNat:Int)) s f).run P w= .ok (⟨s.data++cs.toArray⟩:ByteArray) w
 |[],s,f,bF=>by rfl
 |u::cs,s,f,bF=>by simp only[rA,List.forIn_cons,bF,pure_bind,ab5 w cs (s.push u) f bF];simp_all
def zD {P:bI} {w:World} {r:Nat} {es:Array MapEntry} {clock:Nat} (aw:w.heap[r]? =J (.map es clock)):(getObj r).run P w= .ok (.map es clock) w:=by
 grind [getObj,Sem.run]
def aee {P:bI} {w:World} {r:Nat} {es:Array MapEntry} {clock:Nat} (o:Obj) (aw:w.heap[r]? =J (.map es clock)):(setObj r o).run P w= .ok () {w with heap:=w.heap.setIfInBounds r o}:=by
 grind [setObj,Sem.run]
theorem qG.Yb {ks vs:Nat} (hk:0<ks):∀{L:List af} {E E':List (List af×List af)},qG ks vs L E->qG ks vs L E'->E=E'
 |L,[],[],_,_=>rfl
 |L,[],p::E',h,dG=>by have h1:=h.eq;rw[dG.eq] at h1;have:=(dG.len p (by simp)).1;simp_all
 |L,p::E,[],h,dG=>by have h1:=dG.eq;rw[h.eq] at h1;have:=(h.len p (by simp)).1;simp_all
 |L,p::E,q::E',h,dG=>by have h1:=h.eq;rw[dG.eq] at h1;simp only[List.flatMap_cons,List.append_assoc] at h1;obtain ⟨bX,h1⟩:=List.append_inj h1 (by rw[(h.len p (by simp)).1,(dG.len q (by simp)).1]);obtain ⟨e2,h1⟩:=List.append_inj h1 (by rw[(h.len p (by simp)).2,(dG.len q (by simp)).2]);have a1:=qG.Yb hk (L:=E.flatMap λp=>p.1++p.2) (E:=E) (E':=E') ⟨rfl,λr aV=>h.len r (by simp[aV])⟩ ⟨h1.symm,λr aV=>dG.len r (by simp[aV])⟩;rw[a1];congr 1;exact (Prod.ext bX e2).symm
def uh.find {P:bI} {j:cj} {bG bA:bV} {key z v:af} {t:Bool} {E:List (List af×List af)} (h:uh (ek P bG) (ek P bA) key z E v t):∀{es:List MapEntry} (i:Nat),bP (ub P j bG bA) E es->
  (t=aa/\∃n bz,o6 key es i=J (n,bz)/\fC j v bz)\/(t=ak/\v=z/\o6 key es i=ae):=by
 induction h with
 |qZ=>
  intro es i bp;cases es with
  |nil=>exact .inr ⟨rfl,rfl,rfl⟩
  |cons _ _=>exact bp.elim
 |rS p E h=>
  intro es i bp;cases es with
  |nil=>exact bp.elim
  |cons x es=>obtain ⟨⟨h1,ai,aT⟩,_⟩:=bp;exact .inl ⟨rfl,i,x.val,by grind [o6],aT⟩
 |next p E v b h bp a1=>
  intro es i bp;cases es with
  |nil=>exact bp.elim
  |cons x es=>
   obtain ⟨⟨h1,ai,aT⟩,bp⟩:=bp
   grind [o6]
def Wl {P:bI} {j:cj} {bG bA:bV} {ho:af->Prop}:∀{E:List (List af×List af)} {es:List MapEntry},bP (ub P j bG bA) E es->(∀p∈E,ho (ey (ek P bG) p.1))->∀x∈es,ho x.key
 |[],[],_,_,x,an=>by grind
 |p::E,y::es,⟨h1,ai⟩,bs,x,an=>by
  rcases ha.1 an with rfl|an
  ·rw[h1.1];grind
  ·exact Wl ai (λq bm=>bs q (by grind)) x an
 |[],_::_,h,_,_,_=>h.elim
 |_::_,[],h,_,_,_=>h.elim
def ack {P:bI} {j:cj} {ap dn:bS->af} {o:Oper} {m:Mem} {v:af} (h:fH P ap o m v) (hO:h3 j ap dn o) {w:World} (cY:uq P j m w):∃bz,(execOp dn o).run P w= .ok (.value bz) w/\de j v bz:=by
 cases h with
 |load t x b off d v h an aJ bg aD=>have c5:=hO x (by grind [dm]);rw[an] at c5;obtain ⟨q,_,bn,ay⟩:=c5.ptr;obtain ⟨bz,fZ,aV⟩:=cY.load b q off v bn aD;simp_all [execOp,Instr.loadAt,yj,loadVar,sb,de.qh]
 |wc t x g n s h an bB aJ bs=>
  have c5:=hO x (by grind [dm]);rw[an] at c5;have cF:n<4096:=hS (fq.1 bB).1 (by simp[p2]);have ay:dn x= .pointer (J ⟨g,n,ae⟩):=by have c5:dn x= .pointer (J ⟨(g*4096+n) / 4096,(g*4096+n)%4096,ae⟩):=c5;rw[c5,show (g*4096+n) / 4096=g by omega,show (g*4096+n)%4096=n by omega]
  exact ⟨_,by simp[execOp,h,Instr.loadAt,ay,yj,loadVar,sb aJ,lI,cY.mE.P8 g bs n s bB],rfl⟩
 |wI t x b off d i cs h an aJ bg az aD=>have c5:=hO x (by grind [dm]);rw[an] at c5;obtain ⟨q,_,bn,ay⟩:=c5.ptr;obtain ⟨ds,aR,bB,mU⟩:=BL cY bn _ _ _ aD;exact ⟨.agg ds.toArray,by simp[execOp,h,Instr.loadAt,ay,yj,loadVar,sb aJ,bg,jb az,BM bB mU],⟨_,rfl,by grind⟩⟩
 |slice t x cf az e i L b off l n dG h aJ fm an hm eW eN h1 ai aT=>
  have c5:=hO x (by grind [dm]);rw[an] at c5;obtain ⟨q,_,bn,ay⟩:=c5.vw (e4 _);obtain ⟨rR,_⟩:=cY.own b q L e bn hm;have cN:i.size=q.es:=by grind [nY]
  have key:∀(o' jG:Nat),dn x= .slice (J ⟨q.blk,o',ae⟩) l jG->l<=jG->
    (execOp dn o).run P w= .ok (.value (.slice (J ⟨q.blk,if jG=n then o' else o'+n*i.size,ae⟩) (dG - n) (jG - n))) w:=by
   intro o' jG eM hle;have ny:(jc aa l jG (cf.map dn) (az.map dn) ae).run P w= .ok (n,dG,jG) w:=by
    cases cf with
    |none=>
     simp only[qo] at eW;subst eW;cases az with
     |none=>simp_all [nJ,jc]
     |some y=>obtain ⟨k,aZ⟩:=eN;have:=h3.hs (hO y (by grind [dm])) aZ;simp[jc,this,mL,asIntOf,show dG<=jG by omega]
    |some u=>
     obtain ⟨k,hu⟩:=eW;have oS:=h3.hs (hO u (by grind [dm])) hu;cases az with
     |none=>simp only[nJ] at eN;simp_all [jc,mL,asIntOf]
     |some y=>obtain ⟨k',aZ⟩:=eN;have:=h3.hs (hO y (by grind [dm])) aZ;simp[jc,this,oS,mL,asIntOf,h1,show dG<=jG by omega]
   simp only[execOp,h,vM,kD,fw aJ,jE,IW,vL,eM,ny,jb fm,nt]
   grind [o4]
  rcases ay with ⟨cF,_⟩|⟨_,hh,hle,kJ,p8,hdiv,ay⟩|⟨_,hV,o',ay⟩|⟨rQ,_⟩
  rotate_left 3
  ·grind [dc]
  ·grind
  ·have hle:l<=q.cap - off / q.es:=hle;have p8:off%q.es=0:=p8;have hdiv:off / q.es<=q.cap:=hdiv;refine ⟨_,key _ _ ay hle,⟨q,rfl,bn, ?_⟩⟩;by_cases bx:q.cap - off / q.es=n
   ·have:dG - n=0:=by omega
    grind
   grind [TH,Nat.add_mul_mod_self_right]
  grind
 |vx t x cf az e i L b off l c k n dG h aJ fm an hk hm eW eN h1 ai aT=>
  have c5:=hO x (by grind [dm]);rw[an] at c5;obtain ⟨q,_,bn,ay⟩:=c5.slice;have bn:j b=J q:=bn;obtain ⟨rR,_⟩:=cY.own b q L e bn hm;have cN:i.size=q.es:=by grind [nY]
  have hex:∃jG,dn x= .slice (J ⟨q.blk,q.db+off,ae⟩) l jG/\l<=jG/\k<=jG/\0<q.es/\jG=q.cap - off / q.es/\q.cap<dc/\off%q.es=0/\off / q.es<=q.cap:=by
   rcases ay with ⟨cF,_⟩|⟨gN,hh,hle,kJ,p8,hdiv,ay⟩|⟨gN,hV,_⟩|⟨rQ,_⟩|⟨k',lL,nB,s8,axX,kJ,cF,p8,hdiv,ay⟩
   ·grind
   ·grind
   ·grind
   ·grind
   grind
  obtain ⟨jG,eM,hle,yP,hh,fZ,kJ,p8,hdiv⟩:=hex;have ny:(jc aa l jG (cf.map dn) (az.map dn) ae).run P w= .ok (n,dG,jG) w:=by
   cases cf with
   |none=>
    simp only[qo] at eW;subst eW;cases az with
    |none=>simp_all [nJ,jc]
    |some y=>obtain ⟨k,aZ⟩:=eN;have:=h3.hs (hO y (by grind [dm])) aZ;simp[jc,this,mL,asIntOf,show dG<=jG by omega]
   |some u=>
    obtain ⟨k,hu⟩:=eW;have oS:=h3.hs (hO u (by grind [dm])) hu;cases az with
    |none=>simp only[nJ] at eN;simp_all [jc,mL,asIntOf]
    |some y=>obtain ⟨k',aZ⟩:=eN;have:=h3.hs (hO y (by grind [dm])) aZ;simp[jc,this,oS,mL,asIntOf,h1,show dG<=jG by omega]
  have kv:(execOp dn o).run P w= .ok (.value (.slice (J ⟨q.blk,q.db+off+n*i.size,ae⟩) (dG - n) (jG - n))) w:=by
   simp only[execOp,h,vM,kD,fw aJ,jE,IW,vL,eM,ny,jb fm,nt]
   grind [o4]
  refine ⟨_,kv,⟨q,rfl,bn, .inr (.inr (.inr (.inr ⟨k - n,rfl,by omega,by omega,hh, ?_,kJ, ?_, ?_, ?_⟩)))⟩⟩
  ·grind [TH]
  ·simp_all
  ·grind [TH]
  grind [TH]
 |str s t x e b off l c cs h bf he aJ an aD=>
  have c5:=hO x (by grind [dm]);rw[an] at c5;obtain ⟨q,_,bn,ay⟩:=c5.slice;obtain ⟨ds,aR,bB,mU⟩:=BL cY bn _ _ _ aD;have oP:ds=cs.map λu=> .int .u8 u.toNat:=bP.Js (p:=dy) (λa b=>B0 (j:=j)) (by simp[dy]) aR;subst oP;refine ⟨.string ⟨cs.toArray⟩, ?_,rfl⟩;have key:∀(a':Addr) (jG:Nat),dn x= .slice (J a') l jG->(a'=⟨q.blk,q.db+off,ae⟩\/l=0)->(execOp dn o).run P w= .ok (.value (.string ⟨cs.toArray⟩)) w:=by
   intro a' jG eM aM;have s7:(loadCells a' l).run P w= .ok ((cs.map λu=>mu .u8 (u.toNat:Int)).toArray) w:=by
    grind [BM,acm]
   have aw:(YB (.slice (J a') l jG)).run P w= .ok (.string ⟨cs.toArray⟩) w:=by simp only[YB,kD,s7,jE,List.forIn_toArray];rw[ab5 (P:=P) w cs ByteArray.empty _ (λu s=>by simp_all)];simp_all
   simp[execOp,h,convert,fw bf,fw aJ,eM,fw he,aw]
  rcases ay with ⟨_,ay⟩|⟨_,_,_,_,_,_,ay⟩|⟨_,hV,o',ay⟩|⟨_,hV,a',ay⟩|⟨_,_,_,_,_,_,_,_,_,ay⟩
  ·grind
  ·grind
  ·grind
  ·grind
  grind
 |zQ s t x e l c h bf he aJ an=>have c5:=hO x (by grind [dm]);rw[an] at c5;have eM:=c5.nc;refine ⟨.string .empty, ?_,rfl⟩;simp[execOp,h,convert,fw bf,fw aJ,eM,fw he,YB]
 |lookup hZ x dx ok u bG bA b L E i z v0 t ho h jk hu an nC tf K bF hk bs az bx dw aR=>
  have c5:=hO x (by grind [dm]);have eM:=W3 bF (hO dx (by grind [dm]));have core:∃(es:Array MapEntry),bP (ub P j bG bA) E es.toList/\((∃r clock,dn x= .map (J r)/\w.heap[r]? =J (.map es clock))\/(dn x= .map ae/\es=#[])):=by
   rcases an with ⟨an,hm,bp⟩|⟨an,rfl⟩
   ·rw[an] at c5;obtain ⟨q,bn,ay⟩:∃q,j b=J q/\dn x= .map (J q.blk):=c5;obtain ⟨lv,lA,cs,clock,E',g1,g2,g3,g4,_⟩:=cY.map b q L u bn hm
    grind [qG.Yb]
   ·rw[an] at c5;exact ⟨#[],fs, .inr ⟨c5,rfl⟩⟩
  obtain ⟨es,g4,ay⟩:=core;have pw:=K.find (ap dx) es.toList w hk (Wl g4 bs);have my:=K.check es.isEmpty (ap dx) w hk;have aaG:=aR.find 0 g4;rcases ay with ⟨r,clock,ay,g1⟩|⟨ay,rfl⟩
  ·rcases aaG with ⟨rfl,n,bz,h1,ai⟩|⟨rfl,rfl,h1⟩
   ·rw[h1] at pw;cases ok with
    |false=>exact ⟨bz,by simp[execOp,h,Av,fw jk,ay,zD g1,eM,my,pw],de.wN ai⟩
    |true=>exact ⟨.tuple #[bz, .bool aa],by simp[execOp,h,Av,fw jk,ay,zD g1,eM,my,pw],⟨_,rfl,ai,fC.qh rfl,fs⟩⟩
   ·rw[h1] at pw;cases ok with
    |false=>exact ⟨v0,by simp[execOp,h,Av,fw jk,ay,zD g1,eM,my,pw,og az bx],de.wN (zf dw)⟩
    |true=>exact ⟨.tuple #[v0, .bool ak],by simp[execOp,h,Av,fw jk,ay,zD g1,eM,my,pw,og az bx],⟨_,rfl,zf dw,fC.qh rfl,fs⟩⟩
  ·rcases aaG with ⟨rfl,n,bz,h1,ai⟩|⟨rfl,rfl,h1⟩
   ·grind [o6]
   ·rw[h1] at pw;simp only[List.isEmpty_toArray,List.isEmpty_nil] at my pw;have my:=K.check aa (ap dx) w hk;cases ok with
    |false=>simp_all [execOp,Av,fw,og,de.wN,zf]
    |true=>exact ⟨.tuple #[v0, .bool ak],by simp_all [execOp,Av,fw,og],⟨_,rfl,zf dw,fC.qh rfl,fs⟩⟩
end Go.aF
end
section
namespace Go.aF
def cj.up (j:cj) (n:Nat) (e:kl):cj:=λb=>if b=n then J e else j b
def Rel.abF {P:bI} {j:cj} {m:Mem} {w:World} (h:Rel P j m w):j m.next=ae:=by
 cases bn:j m.next with
 |none=>rfl
 |some e=>exact absurd (h.lt _ _ bn).1 (Nat.lt_irrefl _)
def cj.P9 {j:cj} {n:Nat} {e:kl} (bB:j n=ae):∀b x,j b=J x->j.up n e b=J x:=by
 grind [cj.up]
def Rel.push {P:bI} {j:cj} {m:Mem} {w w':World} (h:Rel P j m w) {X:bW} {e:kl} {ob:Obj}
  (hw:w'.heap=w.heap.push ob) (aow:w'.os=w.os) (aoV:w'.tape=w.tape) (ta:w'.output=w.output) (he:e.blk=w.heap.size)
  (c5:qI P j e (J ob) X):Post P j m w (j.up m.next e) (m.push X) w':=by
 have bB:=h.abF;have hle:=cj.P9 (e:=e) bB;have hold:∀c,c<w.heap.size->w'.heap[c]? =w.heap[c]? :=λc ay=>by grind
 have VA:w'.heap.size=w.heap.size+1:=by grind
 have nE:w'.heap[w.heap.size]? =J ob:=by grind
 have hblk:∀b,b≠m.next->(m.push X).blk b=m.blk b:=λb aw=>by grind [Mem.push]
 have wz:(m.push X).blk m.next=X:=by simp[Mem.push]
 have hb:∀b x,j.up m.next e b=J x->b≠m.next->j b=J x:=λb x aw gT=>by grind [cj.up]
 refine Post.of h ⟨?_, ?_, ?_⟩ ⟨aow,aoV,ta,by omega,λc ay _=>hold c ay⟩ (by simp[Mem.push]) ?_ ?_ ?_ (λb aw hB=>by grind)
 ·intro b x aw;by_cases jh:b=m.next
  ·subst jh;have:x=e:=by grind [cj.up]
   subst this;exact ⟨by simp[Mem.push],by omega⟩
  ·have:=h.lt b x (hb b x aw jh)
   grind [Mem.push]
 ·intro b x aw;by_cases jh:b=m.next
  ·subst jh;have:x=e:=by grind [cj.up]
   subst this;rw[wz,he,nE];exact c5.mono hle
  ·have nA:=hb b x aw jh;rw[hblk b jh,hold _ (h.lt b x nA).2];exact (h.obj b x nA).mono hle
 ·intro b dJ x jL aw e5 aM hB qV;by_cases jh:b=m.next
  ·by_cases s0:dJ=m.next
   ·grind
   ·have an:x=e:=by grind [cj.up]
    have:=(h.lt dJ jL (hb dJ jL e5 s0)).2
    grind
  ·have nA:=hb b x aw jh;by_cases s0:dJ=m.next
   ·have an:jL=e:=by grind [cj.up]
    have:=(h.lt b x nA).2
    grind
   ·rw[hblk b jh] at aM;rw[hblk dJ s0] at hB;exact h.inj b dJ x jL nA (hb dJ jL e5 s0) aM hB qV
 ·grind [cj.up]
 ·intro b x aw hA;by_cases jh:b=m.next
  ·grind [cj.up]
  ·exact absurd (h.lt b x (hb b x aw jh)).1 (vP.2 hA)
 grind
def Rel.kill {P:bI} {j:cj} {m:Mem} {w:World} (h:Rel P j m w) (b:Nat):Post P j m w j (m.put b .dead) w:=by
 have hblk:∀c x,(m.put b .dead).blk c=x->(x≠ .dead)->m.blk c=x:=by
  grind [Mem.put]
 refine Post.of h ⟨h.lt, ?_, ?_⟩ (sC.refl j m w) (e4 _) (λ_ _=>rfl) ?_ ?_ (λc ay hB=>by
  have bX:m.blk c=(m.put b .dead).blk c:=by refine hblk c _ rfl ?_;intro bg;rw[bg] at hB;cases hB
  grind)
 ·intro c x ay;by_cases bg:(m.put b .dead).blk c= .dead
  ·rw[bg];trivial
  ·rw[<-hblk _ _ rfl bg];exact h.obj c x ay
 ·intro c c3 x jL ay yL aM aR qV;have bX:m.blk c=(m.put b .dead).blk c:=by
   refine hblk c _ rfl ?_;intro bg;rw[bg] at aM;cases aM
  have e2:m.blk c3=(m.put b .dead).blk c3:=by refine hblk c3 _ rfl ?_;intro bg;rw[bg] at aR;cases aR
  exact h.inj c c3 x jL ay yL (by grind) (by grind) qV
 ·intro c e ay bB;exact absurd (h.lt c e ay).1 (vP.2 bB)
 ·intro c ay aM;have bX:m.blk c=(m.put b .dead).blk c:=by
   refine hblk c _ rfl ?_;intro bg;rw[bg] at aM;cases aM
  grind
def lz (w:World) (c:Nat) (cs:Array af) (t:bV) (bZ:Nat×Nat):World:={w with heap:=w.heap.setIfInBounds c (.cells cs t bZ)}
theorem Wo {w:World} {c:Nat} {cs:Array af} {t:bV} {bZ:Nat×Nat} {x:Nat} (an:x≠c):(lz w c cs t bZ).heap[x]? =w.heap[x]? :=by
 grind [lz]
theorem Wg {w:World} {c:Nat} {cs:Array af} {t:bV} {bZ:Nat×Nat} (ay:c<w.heap.size):(lz w c cs t bZ).heap[c]? =J (.cells cs t bZ):=by
 grind [lz]
def sn (w:World) (c:Nat) (o:Obj):World:={w with heap:=w.heap.setIfInBounds c o}
theorem adu {w:World} {c:Nat} {o:Obj} {x:Nat} (an:x≠c):(sn w c o).heap[x]? =w.heap[x]? :=by
 grind [sn]
theorem aq8 {w:World} {c:Nat} {o:Obj} (ay:c<w.heap.size):(sn w c o).heap[c]? =J o:=by
 grind [sn]
def Rel.pF {P:bI} {j:cj} {m:Mem} {w:World} (h:Rel P j m w) {b:Nat} {e:kl} {X:bW} {ob:Obj} (bn:j b=J e) (Vq:(m.blk b).iO=aa) (c5:qI P j e (J ob) X) (axI:X.iO=aa):
  Post P j m w j (m.put b X) (sn w e.blk ob):=by
 have cF:=(h.lt b e bn).2;have s9:(m.blk b).live=aa:=by grind [bW.iO,bW.live]
 have gT:∀c x,j c=J x->(m.blk c).live=aa->c≠b->x.blk≠e.blk:=λc x ay aR gN u1=>gN (h.inj b c e x bn ay Vq aR u1.symm).symm;have hblk:∀c,c≠b->(m.put b X).blk c=m.blk c:=λc ay=>by grind [Mem.put]
 have wz:(m.put b X).blk b=X:=by simp[Mem.put]
 have VA:(sn w e.blk ob).heap.size=w.heap.size:=by simp[sn]
 refine Post.of h ⟨?_, ?_, ?_⟩ ⟨rfl,rfl,rfl,by grind, ?_⟩ (e4 _) (λ_ _=>rfl) ?_ ?_ (λc ay hB=>by
  grind)
 ·intro c x ay;have:=h.lt c x ay;exact ⟨this.1,by grind⟩
 ·intro c x ay;by_cases gN:c=b
  ·grind [aq8]
  ·rw[hblk c gN];cases aR:(m.blk c).live with
   |false=>
    cases aw:m.blk c<;>simp[aw,bW.live] at aR
    trivial
   |true=>rw[adu (gT c x ay aR gN)];exact h.obj c x ay
 ·intro c c3 x jL ay yL aM hB qV;have bX:(m.blk c).iO=aa:=by
   grind
  have e2:(m.blk c3).live=aa:=by
   grind
  exact h.inj c c3 x jL ay yL bX e2 qV
 ·grind [adu]
 ·intro c x ay hA;exact absurd (h.lt c x ay).1 (vP.2 hA)
 grind
def Rel.write {P:bI} {j:cj} {m:Mem} {w:World} (h:Rel P j m w) {b:Nat} {e:kl} {L L':List af} {t:bV} {cs cs':Array af} {bZ:Nat×Nat} (bn:j b=J e) (aw:m.blk b= .own L t)
  (hw:w.heap[e.blk]? =J (.cells cs t bZ)) (bf:cs'.size=cs.size) (aR:L'.length<=e.cap*e.es) (aD:∀(i:Nat) (v:af),L'[i]? =J v->∃bz,cs'[e.db+i]? =J bz/\eA j v bz):
  Post P j m w j (m.put b (.own L' t)) (lz w e.blk cs' t bZ):=by
 obtain ⟨rJ,yH,g1,g2,g3,g4,g5,g6⟩:=h.own b e L t bn aw;have jI:rJ=cs/\yH=bZ:=by grind
 obtain ⟨rfl,rfl⟩:=jI;exact h.pF bn (by rw[aw];rfl) ⟨cs',yH,rfl,by grind,g3,by grind,aR,aD⟩ rfl
def Rel.reuse {P:bI} {j:cj} {m:Mem} {w:World} (h:Rel P j m w) {b:Nat} {e e2:kl} {L L':List af} {t:bV} {cs cs':Array af} {bZ:Nat×Nat} (bn:j b=J e) (aw:m.blk b= .own L t)
  (hw:w.heap[e.blk]? =J (.cells cs t bZ)) (bf:cs'.size=cs.size) (anJ:e2.blk=e.blk) (uS:e2.es=e.es) (axW:e2.db+e2.cap*e2.es<=cs.size) (aR:L'.length<=e2.cap*e2.es) (aD:∀(i:Nat) (v:af),L'[i]? =J v->∃bz,cs'[e2.db+i]? =J bz/\eA j v bz):
  Post P j m w (j.up m.next e2) ((m.put b .dead).push (.own L' t)) (lz w e.blk cs' t bZ):=by
 have cF:=(h.lt b e bn).2;have bB:=h.abF;have hle:=cj.P9 (e:=e2) bB;have Vq:(m.blk b).iO=aa:=by rw[aw];rfl
 have gT:∀c x,j c=J x->(m.blk c).live=aa->c≠b->x.blk≠e.blk:=λc x ay aR gN u1=>gN (h.inj b c e x bn ay Vq aR u1.symm).symm;have jh:b<m.next:=(h.lt b e bn).1;have aoh:(m.put b .dead).next=m.next:=rfl;have hblk:∀c,c≠b->c≠m.next->((m.put b .dead).push (.own L' t)).blk c=m.blk c:=λc ay yL=>by simp_all [Mem.put,Mem.push]
 have Bj:((m.put b .dead).push (.own L' t)).blk b= .dead:=by simp[Mem.put,Mem.push,show b≠m.next by omega]
 have aog:((m.put b .dead).push (.own L' t)).blk m.next= .own L' t:=by simp[Mem.put,Mem.push]
 have hb:∀b x,j.up m.next e2 b=J x->b≠m.next->j b=J x:=λb x aw gT=>by grind [cj.up]
 obtain ⟨rJ,yH,g1,g2,g3,g4,g5,g6⟩:=h.own b e L t bn aw;have jI:rJ=cs/\yH=bZ:=by grind
 obtain ⟨rfl,rfl⟩:=jI;have VA:(lz w e.blk cs' t yH).heap.size=w.heap.size:=by simp[lz]
 refine Post.of h ⟨?_, ?_, ?_⟩ ⟨rfl,rfl,rfl,by grind, ?_⟩ (by grind [Mem.push]) ?_ ?_ ?_ (λc ay hB=>by
  by_cases gN:c=b
  ·subst gN;rw[aw];rfl
  grind)
 ·intro c x ay;by_cases pv:c=m.next
  ·grind [cj.up,Mem.push]
  ·have:=h.lt c x (hb c x ay pv)
   grind [Mem.push]
 ·intro c x ay;by_cases pv:c=m.next
  ·subst pv;have an:x=e2:=by grind [cj.up]
   subst an;rw[aog,anJ,Wg cF];refine ⟨cs',yH,rfl,by grind,by grind,by grind,aR,λi v az=> ?_⟩;obtain ⟨bz,fv,fQ⟩:=aD i v az;exact ⟨bz,fv,fQ.mono hle⟩
  ·by_cases gN:c=b
   ·subst gN;rw[Bj];trivial
   ·have JN:=hb c x ay pv;rw[hblk c gN pv];cases s9:(m.blk c).live with
    |false=>
     cases UU:m.blk c<;>simp[UU,bW.live] at s9
     trivial
    |true=>rw[Wo (gT c x JN s9 gN)];exact (h.obj c x JN).mono hle
 ·intro c c3 x jL ay yL aM hB qV;have gN:c≠b:=by intro cp;subst cp;rw[Bj] at aM;cases aM
  have anu:c3≠b:=by intro cp;subst cp;rw[Bj] at hB;cases hB
  by_cases pv:c=m.next
  ·grind [cj.up]
  ·rw[hblk c gN pv] at aM;have JN:=hb c x ay pv;by_cases aaC:c3=m.next
   ·grind [cj.up,bW.iO,bW.live]
   ·rw[hblk c3 anu aaC] at hB;exact h.inj c c3 x jL JN (hb c3 jL yL aaC) aM hB qV
 ·grind [Wo]
 ·grind [cj.up]
 ·intro c x ay hA;by_cases pv:c=m.next
  ·grind [cj.up]
  ·exact absurd (h.lt c x (hb c x ay pv)).1 (vP.2 hA)
 grind
end Go.aF
end
section
namespace Go.aF
structure AF (P:bI) (j:cj) (w w':World) (X:bW) (e:kl) (ob:Obj):Prop where
 heap:w'.heap=w.heap.push ob
 os:w'.os=w.os
 tape:w'.tape=w.tape
 output:w'.output=w.output
 blk:e.blk=w.heap.size
 obj:qI P j e (J ob) X
 own:X.iO=aa
def AF.cells {P:bI} {j:cj} {w w':World} {L:List af} {t:bV} {e:kl} {cs:Array af} {bZ:Nat×Nat} (h1:w'.heap=w.heap.push (.cells cs t bZ)) (ai:w'.os=w.os) (aT:w'.tape=w.tape) (br:w'.output=w.output) (cK:e.blk=w.heap.size)
  (fJ:∀i:Nat,i<cs.size->¬(bZ.1<=i/\i<bZ.2)) (jH:P.cellsOf t=e.es) (n1:cs.size=e.cap*e.es) (p5:L.length<=cs.size) (rO:∀(i:Nat) (v:af),L[i]? =J v->∃bz,cs[i]? =J bz/\eA j v bz) (uN:e.db=0:=by rfl):AF P j w w' (.own L t) e (.cells cs t bZ):=
 ⟨h1,ai,aT,br,cK,⟨cs,bZ,rfl,fJ,jH,by grind,by grind,λi v az=>by grind⟩,rfl⟩
def bP.Yc {R:af->af->Prop} {L:List af} {cs:Array af} (h:bP R L cs.toList):L.length=cs.size/\∀(i:Nat) (v:af),L[i]? =J v->∃bz,cs[i]? =J bz/\R v bz:=
 ⟨by simpa using h.length,λi v az=>by obtain ⟨b,aw,aV⟩:=h.get i v az;grind⟩
def CL {n:Nat}:∀i:Nat,i<n->¬(((0,0):Nat×Nat).1<=i/\i<((0,0):Nat×Nat).2):=λi _ h=>absurd h.2 (Nat.not_lt_zero i)
theorem wW {P:bI} {t:bV} {i:TypeInfo} (h:P.info? t=J i):P.cellsOf t=i.size:=by grind [nY]
def Xr:tW 0=#[]:=by rfl
theorem KU (z:Array af) (l:Nat):((tW (l*z.size)).map (λk=>z[k%z.size]!)).toList=(gb l z.toList).flatten:=by
 induction l with
 |zero=>simp
 |succ l a1=>
  have e:tW ((l+1)*z.size)=tW (l*z.size)++((tW z.size).map (l*z.size+·)):=by rw[ko,Nat.one_mul,Array.range_add]
  rw[e,Array.map_append,Yu,a1,List.replicate_succ',List.flatten_append];congr 1;simp only[List.flatten_cons,List.flatten_nil,List.append_nil,Array.map_map];apply rv;intro i;simp only[ye,sH,Array.toList_range,List.getElem?_range];by_cases az:i<z.size
  ·simp_all [Nat.mod_eq_of_lt]
  grind
theorem KL {j:cj} {L:List af} (h:L.all dy=aa):bP (eA j) L L:=bP.self (λ_=>q4) h
theorem zl {z:List af} (h:z.all dy=aa) (l:Nat):(gb l z).flatten.all dy=aa:=by
 grind
def ad9 {P:bI} {j:cj} {ap dn:bS->af} {o:Oper} {n:Nat} {X:bW} {v:af} (h:jC P ap o n X v) (hO:h3 j ap dn o) (w:World):
  ∃bz w' e ob,(execOp dn o).run P w= .ok (.value bz) w'/\AF P j w w' X e ob/\∀c6:cj,c6 n=J e->de c6 v bz:=by
 cases h with
 |alloc t i z h az bx dw bf=>
  have lM:=(KL (j:=j) dw).Yc;refine ⟨.pointer (J ⟨w.heap.size,0,ae⟩),w.alloc (.cells z.cells t),⟨w.heap.size,1,i.size,0⟩,_, ?_,
   .cells rfl rfl rfl rfl rfl CL (wW az) (by grind) (by simp) lM.2,λc6 bn=>⟨_,rfl,bn,rfl⟩⟩
  simp_all [execOp,Instr.alloc,og,newVar,newRow]
 |box t x i h az aD bf=>
  have c5:=de.storable (hO x (by grind [dm])) aD;have lM:=c5.cells.Yc;refine ⟨.pointer (J ⟨w.heap.size,0,ae⟩),w.alloc (.cells (dn x).cells t),⟨w.heap.size,1,i.size,0⟩,_, ?_,
   .cells rfl rfl rfl rfl rfl CL (wW az) ?_ ?_ lM.2,λc6 bn=>⟨_,rfl,bn,rfl⟩⟩
  ·simp[execOp,h,Instr.box,newVar,newRow]
  ·grind
  grind
 |buildSlice t l cQ e i z cs h aJ az bx dw et uO uW ay=>
  have ai:=h3.VO (j:=j) (ap:=ap) (dn:=dn) (o:=o) cQ.toList (λp bb=>hO p.2 (by
   grind [dm]))
  have ano:bP (eA j) (gb l z.cells.toList).flatten ((tW (l*i.size)).map (λk=>z.cells[k%z.cells.size]!)).toList:=by
   grind [KU,KL]
  obtain ⟨ds,oP,aV⟩:=Kv (j:=j) _ _ _ _ cs ai ano ay;have lM:=aV.Yc;have hlen:cs.length=l*i.size:=by
   have:∀(cQ:List (Nat×af)) (L cs:List af) (pl:Nat->Option (Nat×Nat)),k5 pl L cQ=J cs->cs.length=L.length:=by
    intro cQ;induction cQ with
    |nil=>grind [k5]
    |cons p cQ a1=>
     grind [k5,mB]
   rw[this _ _ _ _ ay];simp_all
  have aoB:(cQ.map λ(i,x)=>(i,dn x)).toList=cQ.toList.map λp=>(p.1,dn p.2):=by simp
  refine ⟨.slice (J ⟨w.heap.size,0,ae⟩) l l,w.alloc (.cells ds e),⟨w.heap.size,l,i.size,0⟩,_, ?_,
   .cells rfl rfl rfl rfl rfl CL (wW az) (by grind) (Nat.le_of_eq lM.1) lM.2,λc6 bn=>⟨_,rfl,bn, .inl ⟨uW,rfl⟩⟩⟩
  by_cases ao9:l*i.size=0
  ·have mU:Instr.fill (λk=>J (k*i.size,i.size)) ((tW 0).map (λk=>(#[]:Array af)[k%0]!)) (cQ.toList.map λp=>(p.1,dn p.2))=J ds:=by
    grind
   simp only[execOp,h,Instr.buildSlice,kD,fw aJ,jE,jb az];simp only[ao9];simp[Xr] at mU;simp[mU,aoB,newRow,Xr]
  ·simp only[execOp,h,Instr.buildSlice,kD,fw aJ,jE,jb az];simp_all [og,newRow]
 |makeSlice t x y l c k k' e i z h aJ az bx dw et an aZ s7 aw ay=>
  have c5:=hO x (by grind [dm]);rw[an] at c5;have eM:=c5.int;have ie:=hO y (by grind [dm]);rw[aZ] at ie;have lr:=ie.int;have lM:=(KL (j:=j) (zl dw c)).length;have ao5:Aw.wrap (l:Int)=(l:Int):=IntWalk.i64_in _ (by omega);have ao4:Aw.wrap (c:Int)=(c:Int):=IntWalk.i64_in _ (by omega);have pu:(i.bytes:Int)*(c:Int)<=140737488355328:=by
   grind
  refine ⟨.slice (J ⟨w.heap.size,0,ae⟩) l c,w.alloc (.cells ((tW (c*i.size)).map (λk=>z.cells[k%z.cells.size]!)) e),⟨w.heap.size,c,i.size,0⟩,_, ?_,
   .cells rfl rfl rfl rfl rfl CL (wW az) (by simp) ?_ ?_,λc6 bn=>⟨_,rfl,bn, .inl ⟨ay,rfl⟩⟩⟩
  ·have uZ:∀q:Int,0<=q->q<=c->(decide (q<0)||decide ((i.bytes:Int)*q>2 ^ 48))=ak:=by
    intro q bR h1;have:(i.bytes:Int)*q<=(i.bytes:Int)*c:=Int.mul_le_mul_of_nonneg_left h1 (by omega)
    grind
   have bf:(Instr.makeSlice t (.int k l) (.int k' c)).run P w= .ok (.slice (J ⟨w.heap.size,0,ae⟩) l c) (w.alloc (.cells ((tW (c*i.size)).map (λk=>z.cells[k%z.cells.size]!)) e)):=by
    simp only[Instr.makeSlice,kD,fw aJ,jE,asInt,asIntOf,nt,vm az,ao5,ao4];rw[uZ c (by omega) (by omega)];have h1:¬((l:Int)<0):=by omega
    have ai:¬((l:Int)>(c:Int)):=by omega
    simp only[h1,ai,decide_false,Bool.or_self,Yx,if_false,kD,run_askRoom,jE,Int.toNat_natCast,jb az,nt];simp_all [newRow,Xr,og]
   simp_all [execOp]
  ·simp_all
  grind [KU,zl,q4]
 |bytes s t x e i b h bf aJ he az kL an aw=>
  have c5:=hO x (by grind [dm]);rw[an] at c5;have eM:=c5.str
  let cap:=(Question.appendCap b.size 0 e).cut (w.tape w.drawn (.appendCap b.size 0 e))
  have kJ:b.size<=cap/\cap<dc:=by
   have cF:=Nat.mod_lt (w.tape w.drawn (.appendCap b.size 0 e)) (show 0<2 ^ 63 - b.size by omega)
   grind [Question.cut,dc]
  let row:Array af:=b.data.map (λu=> .int .u8 u.toNat)++nj (cap - b.size) (.int .u8 0)
  have Bu:row.size=cap:=by simp[row];grind
  refine ⟨.slice (J ⟨w.heap.size,0,ae⟩) b.size cap,(w.drew.alloc (.cells row e)).freeze {block:=w.heap.size,off:=cap} 1,⟨w.heap.size,cap,1,0⟩,Obj.cells row e (cap,cap+1), ?_,
   .cells ?_ ?_ ?_ ?_ rfl ?_ (by grind [wW]) (by grind) ?_ ?_,λc6 bn=>⟨_,rfl,bn, .inr (.inl ⟨rfl,Nat.one_pos, ?_,kJ.2, ?_, ?_, ?_⟩)⟩⟩
  ·have ayq:(Conv.stringToBytes e b).run P w= .ok (.slice (J ⟨w.heap.size,0,ae⟩) b.size cap) ((w.drew.alloc (.cells row e)).freeze {block:=w.heap.size,off:=cap} 1):=by
    simp only[Conv.stringToBytes,kD,run_choose,TK,Yx,if_false,jE,newRow,run_newObj,nt,markStringish,run_shape];have ayr:(w.drew.alloc (.cells row e)).heap[w.heap.size]? =J (.cells row e):=by show (w.heap.push (Obj.cells row e))[w.heap.size]? =_;simp
    have JY:((w.drew.alloc (.cells row e)).shape? w.heap.size)=J (e,row.size):=by grind [World.shape?]
    show (Zg (Sem.run P (match (w.drew.alloc (.cells row e)).shape? w.heap.size with|some (_,n)=>freeze {block:=w.heap.size,off:=n} 1|_=>pure ()) (w.drew.alloc (.cells row e))) _)=_;rw[JY];simp[Bu];rfl
   simp_all [execOp,convert,fw]
  ·grind [World.freeze,World.alloc,World.drew]
  ·rfl
  ·rfl
  ·rfl
  ·grind
  ·grind
  ·intro a v bl;refine ⟨v, ?_, ?_⟩
   ·grind
   ·simp only[sH] at bl;cases bm:b.data.toList[a]? with
    |none=>grind
    |some u=>simp[bm] at bl;subst bl;rfl
  ·grind
  ·rfl
  ·simp
  grind
 |makeMap t bG bA h aJ=>refine ⟨.map (J w.heap.size),w.alloc (.map #[] 0),⟨w.heap.size,0,0,0⟩,_, ?_,⟨rfl,rfl,rfl,rfl,rfl,⟨bG,bA,#[],0,[],rfl,aJ,⟨rfl,λp bb=>by grind⟩,fs,⟨by simp,λx an=>by grind⟩⟩,rfl⟩,λc6 bn=>⟨_,bn,rfl⟩⟩;simp[execOp,h,Instr.makeMap]
def arc {P:bI} {j:cj} {ap dn:bS->af} {o:Oper} {m:Mem} {w:World} {X:bW} {v:af} (h:jC P ap o m.next X v) (hO:h3 j ap dn o) (cY:Rel P j m w):
  ∃bz w' c6,(execOp dn o).run P w= .ok (.value bz) w'/\Post P j m w c6 (m.push X) w'/\de c6 v bz:=by
 obtain ⟨bz,w',e,ob,aV,bB,aD⟩:=ad9 h hO w;exact ⟨bz,w',j.up m.next e,aV,cY.push bB.heap bB.os bB.tape bB.output bB.blk bB.obj,aD _ (by simp[cj.up])⟩
end Go.aF
end
section
namespace Go.aF
theorem Kt {w:World} {c:Nat} {cs:Array af} {t:bV} {bZ:Nat×Nat} (h:w.heap[c]? =J (.cells cs t bZ)):lz w c cs t bZ=w:=by
 have:w.heap.setIfInBounds c (.cells cs t bZ)=w.heap:=by
  grind
 simp_all [lz]
theorem aqg {w:World} {c:Nat} {cs cs':Array af} {t:bV} {bZ:Nat×Nat}:lz (lz w c cs t bZ) c cs' t bZ=lz w c cs' t bZ:=by
 simp[lz]
theorem aqa {w:World} {c o:Nat} {cs:Array af} {t:bV} {bZ:Nat×Nat} {v:af} (h:w.heap[c]? =J (.cells cs t bZ)):w.setCell ⟨c,o,ae⟩ v=lz w c (cs.setIfInBounds o v) t bZ:=by
 have:(w.setCell ⟨c,o,ae⟩ v).heap=(lz w c (cs.setIfInBounds o v) t bZ).heap:=by
  grind [World.setCell,lz]
 grind [World.setCell,lz]
def wX {P:bI} (c o:Nat) (t:bV) (bZ:Nat×Nat):∀(vs:List af) (i:Nat) (cs:Array af) (w:World),w.heap[c]? =J (.cells cs t bZ)->(∀k:Nat,k<cs.size->¬(bZ.1<=k/\k<bZ.2))->
  o+i+vs.length<=cs.size->(∀v∈vs,v.oneCell'=aa)->(storeCells ⟨c,o,ae⟩ vs i).run P w= .ok () (lz w c (eY cs.toList (o+i) vs).toArray t bZ)
 |[],i,cs,w,h,bF,aR,h1=>by simp_all [storeCells,eY,Kt]
 |v::vs,i,cs,w,h,bF,aR,h1=>by
  simp only[List.length_cons] at aR;have cF:=(Ij.1 h).1;have ay:w.cell? ⟨c,o+i,ae⟩=J cs[o+i]:=by grind [rG]
  have hU:w.frozen? ⟨c,o+i,ae⟩=ak:=by
   have:=bF (o+i) (by omega)
   grind [World.frozen?]
  have a1:=wX (P:=P) c o t bZ vs (i+1) (cs.setIfInBounds (o+i) v) (lz w c (cs.setIfInBounds (o+i) v) t bZ) (Wg cF) (by grind) (by grind) (λx an=>h1 x (by grind))
  grind [storeCells,kD,o4,run_store,jE,aqa,aqg,eY]
def bP.one {j:cj}:∀{L K:List af},bP (eA j) L K->∀v∈K,v.oneCell'=aa
 |[],[],_,v,aD=>by grind
 |a::L,b::K,⟨h1,ai⟩,v,aD=>by
  rcases ha.1 aD with rfl|aD
  ·exact h1.one
  ·exact bP.one ai v aD
 |[],_::_,h,_,_=>h.elim
 |_::_,[],h,_,_=>h.elim
def V7 {P:bI} {j:cj} {m:Mem} {w:World} (cY:uq P j m w) {bM:Nat} {y kr:af} {new:List af} (aD:de j y kr) (h:kt m bM y=J new):
  (Tq kr).run P w= .ok (ja y) w/\∃ds:List af,bP (eA j) new ds/\(new.length=ja y*bM->∀k,k<=ja y->∀w':World,w'.heap=w.heap->(qD bM k kr).run P w'= .ok (ds.take (k*bM)).toArray w'):=by
 cases y with
 |slice a l c=>
  cases a with
  |none=>have lr:=aD.nc;subst lr;simp only[kt,kB.injEq] at h;subst h;refine ⟨by rfl,[],fs,λbB k hk w' hw=> ?_⟩;simp[qD]
  |some a=>
   obtain ⟨b,off,spot⟩:=a;obtain ⟨q,bf,bn,ay⟩:=aD.slice;simp only at bf bn;subst bf;simp only[kt] at h;obtain ⟨ds,aR,bB,mU⟩:=BL cY bn _ _ _ h;have key:∀(a':Addr) (jG:Nat),kr= .slice (J a') l jG->(a'=⟨q.blk,q.db+off,ae⟩\/l=0)->(Tq kr).run P w= .ok (ja (.slice (J ⟨b,off,ae⟩) l c)) w/\
     ∃ds:List af,bP (eA j) new ds/\(new.length=ja (.slice (J ⟨b,off,ae⟩) l c)*bM->∀k,k<=ja (.slice (J ⟨b,off,ae⟩) l c)->∀w':World,w'.heap=w.heap->(qD bM k kr).run P w'= .ok (ds.take (k*bM)).toArray w'):=by
    intro a' jG lr aM;subst lr;refine ⟨by rfl,ds,aR,λaok k hk w' hw=> ?_⟩;simp only[ja] at hk;simp only[qD];have hlen:(ds.take (k*bM)).length=k*bM:=by simp_all
    rcases aM with rfl|aM
    ·grind [BM,rG]
    simp_all [acm]
   rcases ay with ⟨_,ay⟩|⟨_,_,_,_,_,_,ay⟩|⟨_,hV,o',ay⟩|⟨_,hV,a',ay⟩|⟨_,_,_,_,_,_,_,_,_,ay⟩
   ·grind
   ·grind
   ·grind
   ·grind
   grind
 |string s=>
  have lr:=aD.str;subst lr;simp only[kt] at h;split at h
  ·rename_i cN;subst cN;simp only[kB.injEq] at h;subst h;refine ⟨by rfl,s.data.toList.map λu=> .int .u8 u.toNat,KL (by simp only[List.all_map,iA,YD];intro u _;rfl),λbB k hk w' hw=> ?_⟩;simp only[qD,nt,Nat.mul_one,ja] at hk⊢;congr 1;apply Ii;simp_all
  grind
 |_=>grind [kt]
inductive Ih (P:bI) (w:World) (u:bV) (i:TypeInfo) (kr:af) (n:Nat) (iB:List af):Prop where
 |el (hu:(∃cz,P.underlying u=J (.slice cz))\/P.underlying u=J .string) (aR:∀w',(Tq kr).run P w'= .ok n w') (bF:∀w',w'.heap=w.heap->(qD i.size n kr).run P w'= .ok iB.toArray w')
 |mk (kk k:aG) (z:af) (hu:P.underlying u=J (.int kk)) (aD:kr= .int k n) (bx:i.zero=J z) (cN:0<i.size) (aw:n*i.bytes<=140737488355328) (hm:n<9223372036854775807) (ji:iB.toArray=yf z.cells n)
def afF (z:Array af):yf z 0=#[]:=by simp[yf]
theorem zh {P:bI} {t u ty e:bV} {i:TypeInfo} {base:Option Addr} {l c n:Nat} {kr:af} {w:World} {iB:List af} (aJ:P.underlying t=J (.slice e)) (az:P.info? e=J i)
  (eL:Ih P w u i kr n iB) (ay:l+n<=c):
  (tZ #[t,u] ty #[.slice base l c,kr]).run P w=
   match base with
   |some a=>((storeCells (a.add (l*i.size)) iB).run P w).andThen λ_ w=> .ok (.slice base (l+n) c) w
   |none=> .ok (.slice base (l+n) c) w:=by
 cases eL with
 |el hu bB bF=>have bB:=bB w;have bF:=bF w rfl;rcases hu with ⟨cz,bg⟩|bg<;>cases base<;>simp[tZ,fw aJ,fw bg,jb az,bB,ay,bF]
 |mk kk k z hu aD bx cN aw hm ji=>
  subst aD;have bR:aO .i64 (n:Int)=n:=by grind [vN]
  have br:¬((n:Int)<0):=by omega
  have cK:¬((281474976710656:Int)<(n:Int)*(i.bytes:Int)):=by
   grind
  have n1:¬i.size=0:=by omega
  have Bi:iB=(yf z.cells n).toList:=by grind
  subst Bi;by_cases jH:n=0
  ·subst jH;cases base<;>simp[tZ,fw aJ,fw hu,jb az,vm az,og az bx,ay,asInt,asIntOf,afF,show aO .i64 (0:Int)=0 from rfl]<;>omega
  ·have p5:¬n*i.size=0:=by grind [Nat.mul_eq_zero]
   cases base<;>simp[tZ,fw aJ,fw hu,jb az,vm az,og az bx,bR,br,cK,jH,n1,p5,ay,asInt,asIntOf]
def ap4 {P:bI} {t u ty e:bV} {i:TypeInfo} {z:af} {base:Option Addr} {l c n:Nat} {kr:af} {w:World} {ew:Array af} {iB:List af} (aJ:P.underlying t=J (.slice e)) (az:P.info? e=J i) (bx:i.zero=J z)
  (eL:Ih P w u i kr n iB) (ay:c<l+n) (hm:l+n<9223372036854775807) (aw:(l+n)*i.bytes<=140737488355328)
  (aM:∀w',w'.heap=w.heap->(qD i.size l (.slice base l c)).run P w'= .ok ew w'):
  (tZ #[t,u] ty #[.slice base l c,kr]).run P w=
   .ok (.slice (J ⟨w.heap.size,0,ae⟩) (l+n) (grownCap w (l+n) c e)) (w.drew.alloc (.cells (ew++iB.toArray++yf z.cells (grownCap w (l+n) c e - (l+n))) e)):=by
 have h1:¬(l+n<=c):=by omega
 have ai:¬(9223372036854775807<((l:Int)+(n:Int))):=by omega
 have uT:=growslice_fits ay aw;have aT:¬(281474976710656<Builtin.nextslicecap (l+n) c*i.bytes):=by omega
 have mc:=aM w.drew rfl;cases eL with
 |el hu bB bF=>have wi:=bF w.drew rfl;rcases hu with ⟨cz,bg⟩|bg<;>simp[tZ,fw aJ,fw bg,jb az,vm az,og az bx,bB,h1,ai,aT,TK,mc,wi,newRow,grownCap]
 |mk kk k z' hu aD r1 cN e5 n4 ji=>
  rw[bx] at r1;cases r1;subst aD;have bR:aO .i64 (n:Int)=n:=by grind [vN]
  have br:¬((n:Int)<0):=by omega
  have cK:¬((281474976710656:Int)<(n:Int)*(i.bytes:Int)):=by
   grind
  have n1:¬i.size=0:=by omega
  rw[ji];by_cases jH:n=0
  ·subst jH;simp only[pS] at h1 aT;have nx:¬(9223372036854775807<(l:Int)):=by omega
   simp[tZ,fw aJ,fw hu,jb az,vm az,og az bx,h1,nx,aT,TK,mc,newRow,grownCap,asInt,asIntOf,afF,show aO .i64 (0:Int)=0 from rfl]
  ·have p5:¬n*i.size=0:=by grind [Nat.mul_eq_zero]
   simp[tZ,fw aJ,fw hu,jb az,vm az,og az bx,bR,h1,ai,aT,br,cK,jH,n1,p5,TK,mc,newRow,grownCap,asInt,asIntOf]
end Go.aF
end
section
namespace Go.aF
def BT {j:cj} {L new:List af} {cs:Array af} {ds:List af} {o db:Nat} (h:∀(i:Nat) (v:af),L[i]? =J v->∃bz,cs[db+i]? =J bz/\eA j v bz) (bg:bP (eA j) new ds) (aR:o+new.length<=L.length) (dE:db+L.length<=cs.size):
  ∀(i:Nat) (v:af),(eY L o new)[i]? =J v->∃bz,(eY cs.toList (db+o) ds).toArray[db+i]? =J bz/\eA j v bz:=by
 intro i v az;have hlen:=bg.length;rw[o5 _ _ _ _ aR] at az;simp only[IK];rw[o5 _ _ _ _ (by grind)];rw[<-hlen];split at az
 ·rename_i s6;rw[if_pos (by omega),show db+i - (db+o)=i - o by omega];exact bg.get _ _ az
 grind
def zt (cs:Array af) (o:Nat) (ds:List af):(eY cs.toList o ds).toArray.size=cs.size:=by simp[mB]
def wU {P:bI} {dn:bS->af} {o:Oper} {x y:bS} {t u:bV} (h:o.op= .call {callee:= .builtin .append,args:=#[x,y],argTypes:=#[t,u]}) {w w':World} {v:af}
  (aV:(tZ #[t,u] o.type #[dn x,dn y]).run P w= .ok v w'):(execOp dn o).run P w= .ok (.value v) w':=by
 simp_all [execOp,resolve,invoke,builtin]
def Cf (P:bI) (j:cj) (m:Mem) (w:World) (dn:bS->af) (o:Oper) (v:af) (m':Mem):Prop:=∃n bz w' c6,(execOp dn o).run P w= .ok n w'/\(n= .value bz\/(n= .skip/\bz=undef))/\Post P j m w c6 m' w'/\de c6 v bz
theorem aqk {P:bI} {j:cj} {ap dn:bS->af} {o:Oper} {m:Mem} {w:World} {t:bV} {x y:bS} {b off:Nat} {i:TypeInfo} {L:List af} {e:bV} (h:o.op= .store t x y) (an:ap x= .pointer (J ⟨b,off,ae⟩)) (az:P.info? t=J i) (hm:m.blk b= .own L e)
   (aD:storable (ap y)=aa) (bf:(ap y).cells.size=i.size) (aR:off+i.size<=L.length) (hO:h3 j ap dn o) (cY:Rel P j m w):Cf P j m w dn o undef (m.put b (.own (eY L off (ap y).cells.toList) e)):=by
 have c5:=hO x (by grind [dm]);rw[an] at c5;obtain ⟨q,_,bn,ay⟩:=c5.ptr;have ie:=de.storable (hO y (by grind [dm])) aD;have yM:=ie.cells;obtain ⟨cs,bZ,g1,g2,g3,g4,g5,g6⟩:=cY.own b q L e bn hm;have bB:(dn y).cells.size=i.size:=by have:=yM.length;grind
 have fb:=wX (P:=P) q.blk (q.db+off) e bZ (dn y).cells.toList 0 cs w g1 g2 (by grind) (bP.one yM);simp only[pS] at fb;refine ⟨.skip,undef,_,j, ?_, .inr ⟨rfl,rfl⟩,cY.write bn hm g1 (zt cs _ _) (by grind [mB]) (BT g6 yM (by grind) (by omega)), ?_⟩
 ·simp_all [execOp,Instr.storeAt,yj,storeVar,jb]
 ·exact ⟨#[],rfl,fs⟩
def abX {P:bI} {j:cj} {m:Mem} {w:World} (cY:uq P j m w) {bM:Nat} {y kr:af} {new:List af} (aD:de j y kr) (h:kt m bM y=J new) (bB:new.length=ja y*bM):
  ∃ds:List af,bP (eA j) new ds/\∀w':World,w'.heap=w.heap->(qD bM (ja y) kr).run P w'= .ok ds.toArray w':=by
 obtain ⟨_,ds,bg,bF⟩:=V7 cY aD h;refine ⟨ds,bg,λw' hw=> ?_⟩;rw[bF bB _ (e4 _) w' hw,<-bB,bg.length,List.take_length]
theorem arT {P:bI} {j:cj} {m:Mem} {w w':World} (h:Rel P j m w) (hw:w'.heap=w.heap):Rel P j m w':=
 ⟨⟨λb e aw=>by have:=h.lt b e aw;grind,λb e aw=>by rw[hw];exact h.obj b e aw,h.inj⟩,h.mE.val.keep λ_ _=>by grind,h.mE.sep⟩
theorem aq7 {z:af} (dw:z.cells.toList.all dy=aa) (n:Nat):∀v∈(gb n z.cells.toList).flatten,dy v=aa:=by
 grind [zl]
def BR {P:bI} {j:cj} {m:Mem} {w:World} (cY:uq P j m w) {u:bV} {i:TypeInfo} {y kr:af} {n:Nat} {new:List af} (aD:de j y kr) (h:sA P m u i y n new) (bB:new.length=n*i.size):
  ∃iB:List af,bP (eA j) new iB/\Ih P w u i kr n iB:=by
 cases h with
 |el hu aR he=>subst aR;obtain ⟨hlen,_⟩:=V7 cY aD he;obtain ⟨iB,ji,U6⟩:=abX cY aD he bB;refine ⟨iB,ji, .el hu (λw'=> ?_) U6⟩;have:=hlen;cases lr:kr<;>simp[lr,Tq] at this⊢<;>exact this
 |mk kk k z hu aZ bx dw et cN aw hm nE=>
  subst nE;have lr:kr= .int k n:=by rw[aZ] at aD;exact aD.int
  refine ⟨(gb n z.cells.toList).flatten,bP.Kj rfl λa v cc bl e5=> ?_, .mk kk k z hu lr bx cN aw hm ?_⟩
  ·grind [q4,aq7]
  ·have:=KU z.cells n;rw[<-this];rfl
def abV {P:bI} {j:cj} {dn:bS->af} {o:Oper} {m m0:Mem} {w:World} {x y:bS} {t u e:bV} {i:TypeInfo} {z:af} {base:Option Addr} {l c n:Nat} {ew new:List af} {ds iB:List af}
   (h:o.op= .call {callee:= .builtin .append,args:=#[x,y],argTypes:=#[t,u]})
   (aJ:P.underlying t=J (.slice e)) (az:P.info? e=J i) (bx:i.zero=J z) (et:z.cells.size=i.size) (cN:0<i.size)
   (an:dn x= .slice base l c) (eL:Ih P w u i (dn y) n iB) (ay:c<l+n)
   (nF:ew.length=l*i.size) (qR:new.length=n*i.size) (bg:bP (eA j) ew ds) (ji:bP (eA j) new iB)
   (Bm:∀w',w'.heap=w.heap->(qD i.size l (.slice base l c)).run P w'= .ok ds.toArray w')
   (aw:(l+n)*i.bytes<=140737488355328) (hm:l+n<9223372036854775807) (cY:Rel P j m0 w) (aoh:m0.next=m.next):
  ∃bz w' c6,(execOp dn o).run P w= .ok (.value bz) w'/\Post P j m0 w c6 (m0.push (.own (ew++new) e)) w'/\de c6 (.slice (J ⟨m.next,0,ae⟩) (l+n) dc) bz:=by
 have kv:=ap4 (P:=P) (ty:=o.type) (base:=base) (z:=z) aJ az bx eL ay hm aw Bm
 let cap:=grownCap w (l+n) c e
 have kJ:l+n<=cap:=grownCap_ge w _ c e;have ant:cap<dc:=by
  have cF:=Nat.mod_lt (w.tape w.drawn (.appendCap (l+n) c e)) (show 0<2 ^ 63 - (l+n) by omega)
  grind [grownCap,Question.cut,dc]
 let row:=ds.toArray++iB.toArray++yf z.cells (cap - (l+n))
 have bX:=bg.length;have e2:=ji.length;have Bu:row.size=cap*i.size:=by
  simp only[row,Array.size_append,List.size_toArray,size_zeroCells,et];rw[<-bX,<-e2,nF,qR,<-ko,<-ko]
  grind
 have wy:=cY.push (w':=w.drew.alloc (.cells row e)) (X:= .own (ew++new) e) (e:=⟨w.heap.size,cap,i.size,0⟩) (ob:= .cells row e) rfl rfl rfl rfl rfl ⟨row,(0,0),rfl,CL,wW az,by grind,
  (by grind),
  (λk v hk=>by
   have JG:=bP.append bg ji;obtain ⟨bz,iF,aV⟩:=JG.get k v hk
   grind)⟩
 refine ⟨.slice (J ⟨w.heap.size,0,ae⟩) (l+n) cap,_,_,wU h (by grind),wy,⟨⟨w.heap.size,cap,i.size,0⟩,rfl,by grind [cj.up], .inr (.inl ⟨rfl,cN, ?_,ant, ?_, ?_, ?_⟩)⟩⟩
 ·simp_all
 ·rfl
 ·simp
 ·simp
def aqb {cs:Array MapEntry} {clock:Nat} (h:zy cs clock) (i:Nat) (f:MapEntry->MapEntry) (bF:∀e,(f e).born=e.born):zy (cs.modify i f) clock:=by
 have aw:(cs.modify i f).toList.map (·.born)=cs.toList.map (·.born):=by
  rw[Array.toList_modify];refine rv λk=> ?_
  grind
 refine ⟨by rw[aw];exact h.1,λx an=> ?_⟩;have hm:x.born∈(cs.modify i f).toList.map (·.born):=l2.2 ⟨x,an,rfl⟩;rw[aw] at hm;obtain ⟨y,aZ,he⟩:=l2.1 hm;rw[<-he];exact h.2 y aZ
def aqj {cs:Array MapEntry} {clock:Nat} (h:zy cs clock) (e:MapEntry) (he:e.born=clock):zy (cs.push e) (clock+1):=by
 refine ⟨?_,λx an=> ?_⟩
 ·rw[Array.toList_push,List.map_append,List.nodup_append];refine ⟨h.1,by simp,λa bl b aw=> ?_⟩;obtain ⟨y,aZ,rfl⟩:=l2.1 bl;simp only[rA,TA,IM] at aw;rw[aw,he];exact Nat.ne_of_lt (h.2 y aZ)
 ·rw[Array.toList_push] at an;rcases kU.1 an with an|an
  ·exact Nat.lt_succ_of_lt (h.2 x an)
  grind
def uA.find {P:bI} {j:cj} {bG bA:bV} {eo vc:List af} {E E':List (List af×List af)} {bz:af} {clock:Nat} (h:uA (ek P bG) eo vc E E') (bF:eo.all dy=aa) (aD:fC j (ey (ek P bA) vc) bz):∀{es:List MapEntry} (n:Nat),bP (ub P j bG bA) E es->
  (∃i y,o6 (ey (ek P bG) eo) es n=J (n+i,y.val)/\es[i]? =J y/\y.key=ey (ek P bG) eo/\bP (ub P j bG bA) E' (es.modify i λe=>{e with key:=ey (ek P bG) eo,val:=bz}))\/
  (o6 (ey (ek P bG) eo) es n=ae/\bP (ub P j bG bA) E' (es++[{key:=ey (ek P bG) eo,val:=bz,born:=clock}])):=by
 induction h with
 |qZ=>
  intro es n bp;cases es with
  |nil=>exact .inr ⟨rfl,⟨rfl,bF,aD⟩,fs⟩
  |cons _ _=>exact bp.elim
 |rS p E h=>
  intro es n bp;cases es with
  |nil=>exact bp.elim
  |cons x es=>obtain ⟨⟨h1,ai,aT⟩,br⟩:=bp;refine .inl ⟨0,x,by grind [o6],rfl,h1.trans h, ?_⟩;exact ⟨⟨h.symm,ai,aD⟩,br⟩
 |next p E E' h Bb a1=>
  intro es n bp;cases es with
  |nil=>exact bp.elim
  |cons x es=>
   obtain ⟨⟨h1,ai,aT⟩,br⟩:=bp;have gT:¬x.key=ey (ek P bG) eo:=λcp=>h (h1.symm.trans cp);rcases a1 (n+1) br with ⟨i,y,g1,g2,g3,g4⟩|⟨g1,g2⟩
   ·refine .inl ⟨i+1,y, ?_,by grind,g3, ?_⟩
    ·grind [o6]
    ·exact ⟨⟨h1,ai,aT⟩,g4⟩
   ·refine .inr ⟨?_, ?_⟩
    ·grind [o6]
    ·exact ⟨⟨h1,ai,aT⟩,g2⟩
def aqQ {P:bI} {C:FuncId->Array af->Mem->af->Mem->Prop} {j:cj} {ap dn:bS->af} {o:Oper} {m m':Mem} {w:World} {v:af} (h:hR P C ap o m v m') (hO:h3 j ap dn o) (cY:Rel P j m w):
  Cf P j m w dn o v m'\/∃f args,callee o ap f args/\C f args m v m':=by
 cases h with
 |store t x y b off i L e h an az hm aD bf aR=>grind [aqk]
 |call f args v m' h cW=>grind
 |vZ x y t u e i a l c h aJ az an ay s7 aZ=>
  left;have c5:=hO x (by grind [dm,lh]);rw[an] at c5;have ie:=hO y (by simp[h,dm,lh]);obtain ⟨ds,bg,eL⟩:=BR cY.ot ie aZ (by simp);have oP:ds=[]:=by have:=bg.length;grind
  subst oP;have eM:∃a',dn x= .slice a' l c/\de j (.slice a l c) (.slice a' l c):=by
   cases a with
   |none=>exact ⟨ae,c5.nc,rfl⟩
   |some a=>
    obtain ⟨q,bf,bn,fZ⟩:=c5.vw (lG ay);rcases fZ with ⟨cF,fZ⟩|⟨fZ,_⟩|⟨fZ,_⟩|⟨rQ,hV,a',fZ⟩
    ·grind
    ·grind
    ·grind
    grind
  obtain ⟨a',eM,ayv⟩:=eM;refine ⟨.value (.slice a' l c), .slice a' l c,w,j,wU h ?_, .inl rfl,Post.refl cY,by grind⟩;rw[eM,zh aJ az eL (by omega)];cases a'<;>simp[storeCells]
 |sP x y t u e i z a l c n ew new h aJ az bx dw et cN an ay aM nF aZ bB aw hm=>
  left;have c5:=hO x (by grind [dm,lh]);have ie:=hO y (by grind [dm,lh]);have Vj:ja (ap x)=l:=by rw[an];rfl
  have eM:∃a',dn x= .slice a' l c:=by
   rw[an] at c5;cases a with
   |none=>exact ⟨ae,c5.nc⟩
   |some a=>
    obtain ⟨q,bf,bn,fZ⟩:=c5.vw (by grind [dc]);rcases fZ with ⟨cF,fZ⟩|⟨fZ,_⟩|⟨fZ,_⟩|⟨rQ,hV,a',fZ⟩
    ·grind
    ·grind [dc]
    ·grind [dc]
    grind
  obtain ⟨a',eM⟩:=eM;obtain ⟨ds,bg,axZ⟩:=abX cY.ot c5 aM (by grind);obtain ⟨iB,ji,eL⟩:=BR cY.ot ie aZ bB;have Bm:∀w':World,w'.heap=w.heap->(qD i.size l (.slice a' l c)).run P w'= .ok ds.toArray w':=by
   grind
  obtain ⟨bz,w',c6,h1,ai,aT⟩:=abV (m:=m) h aJ az bx et cN eM eL ay nF bB bg ji Bm aw hm cY rfl;exact ⟨.value bz,bz,w',c6,h1, .inl rfl,ai,aT⟩
 |vY x y t u e i b off l c n L new h aJ az an gN ay hm aZ bB aR=>
  left;have c5:=hO x (by grind [dm,lh]);rw[an] at c5;have ie:=hO y (by grind [dm,lh]);obtain ⟨iB,ji,eL⟩:=BR cY.ot ie aZ bB;obtain ⟨q,_,bn,fZ⟩:=c5.vw (lG gN);rcases fZ with ⟨cF,eM⟩|⟨fZ,_⟩|⟨fZ,_⟩|⟨rQ,hV,a',eM⟩
  rotate_left 3
  ·
   subst rQ;subst hV;have Bz:n=0:=by omega
   have wq:new=[]:=by simp_all
   subst wq;have U4:iB=[]:=by have:=ji.length;grind
   subst U4;obtain ⟨cs,bZ,g1,g2,g3,g4,g5,g6⟩:=cY.own b q L e bn hm;have hw:=cY.write (L':=L) bn hm g1 (cs':=cs) rfl g5 g6;rw[Kt g1] at hw;refine ⟨.value _,_,_,j,wU h (v:= .slice (J a') (0+n) 0) ?_, .inl rfl,hw,⟨q,rfl,bn, .inr (.inr (.inr (.inl ⟨rfl,by omega,a',by grind⟩)))⟩⟩;rw[eM,zh aJ az eL ay];rfl
  ·obtain ⟨cs,bZ,g1,g2,g3,g4,g5,g6⟩:=cY.own b q L e bn hm;rw[ko,<-bB,<-sK] at aR;have fb:=wX (P:=P) q.blk (q.db+(off+l*i.size)) e bZ iB 0 cs w g1 g2 (by rw[<-ji.length];omega) (bP.one ji);simp only[pS] at fb;refine ⟨.value _,_,_,j,wU h (v:= .slice (J ⟨q.blk,q.db+off,ae⟩) (l+n) c) ?_, .inl rfl,cY.write bn hm g1 (zt cs _ _) (by grind [mB]) (BT g6 ji aR (by omega)),
    ⟨q,rfl,bn, .inl ⟨cF,rfl⟩⟩⟩
   grind [zh,o4,jE]
  ·grind
  grind
 |yy x y t u e i b off l c k n L new h aJ az an gN nB ay hm aZ bB aR=>
  left;have c5:=hO x (by grind [dm,lh]);rw[an] at c5;have ie:=hO y (by grind [dm,lh]);obtain ⟨iB,ji,eL⟩:=BR cY.ot ie aZ bB;obtain ⟨q,_,bn,fZ⟩:=c5.slice;have bn:j b=J q:=bn;rcases fZ with ⟨cF,_⟩|⟨fZ,_⟩|⟨fZ,_⟩|⟨rQ,_⟩|⟨k',lL,_,_,rR,kJ,cF,p8,hdiv,eM⟩
  ·omega
  ·omega
  ·omega
  ·grind
  ·have an0:k'=k:=by omega
   subst an0;have kJ:k'<=q.cap - off / q.es:=kJ;have p8:off%q.es=0:=p8;have hdiv:off / q.es<=q.cap:=hdiv;obtain ⟨cs,bZ,g1,g2,g3,g4,g5,g6⟩:=cY.own b q L e bn hm;rw[ko,<-bB,<-sK] at aR;have fb:=wX (P:=P) q.blk (q.db+(off+l*i.size)) e bZ iB 0 cs w g1 g2 (by rw[<-ji.length];omega) (bP.one ji);simp only[pS] at fb;refine ⟨.value _,_,_,j,wU h (v:= .slice (J ⟨q.blk,q.db+off,ae⟩) (l+n) (q.cap - off / q.es)) ?_, .inl rfl,cY.write bn hm g1 (zt cs _ _) (by grind [mB]) (BT g6 ji aR (by omega)),
    ⟨q,rfl,bn, .inr (.inr (.inr (.inr ⟨k',lL,nB,ay,rR,kJ,cF,p8,hdiv,rfl⟩)))⟩⟩
   grind [zh,o4,jE]
 |append x y t u e i z b off l n L new h aJ az bx dw et cN an jj yS aZ bB aw hm=>
  left;have c5:=hO x (by grind [dm,lh]);have axH:=c5;rw[an] at c5;have ie:=hO y (by grind [dm,lh]);obtain ⟨iB,ji,eL⟩:=BR cY.ot ie aZ bB;obtain ⟨q,_,bn,fZ⟩:=c5.vw (e4 _);have bn:j b=J q:=bn;obtain ⟨cs,bZ,g1,g2,g3,g4,g5,g6⟩:=cY.own b q L e bn jj;have rR:i.size=q.es:=by grind [wW]
  have uZ:((L.drop off).take (l*i.size)).length=l*i.size:=by grind
  have ayt:∀(k:Nat) (v:af),((L.drop off).take (l*i.size))[k]? =J v->∃bz,((cs.toList.drop (q.db+off)).take (l*i.size))[k]? =J bz/\eA j v bz:=by
   grind
  have aot:bP (eA j) ((L.drop off).take (l*i.size)) ((cs.toList.drop (q.db+off)).take (l*i.size)):=bP.Kj (by grind) (λk a dJ bl e5=>by
   grind)
  have out:∀(o' c3:Nat),dn x= .slice (J ⟨q.blk,o',ae⟩) l c3->(o'=q.db+off\/l=0)->c3<l+n->Cf P j m w dn o (.slice (J ⟨m.next,0,ae⟩) (l+n) dc) ((m.put b .dead).push (.own ((L.drop off).take (l*i.size)++new) e)):=by
   intro o' c3 eM aM ay;have hk:=cY.kill b;have Bm:∀w':World,w'.heap=w.heap->(qD i.size l (.slice (J ⟨q.blk,o',ae⟩) l c3)).run P w'= .ok ((cs.toList.drop (q.db+off)).take (l*i.size)).toArray w':=by
    grind [qD,BM,rG]
   obtain ⟨bz,w',c6,h1,ai,aT⟩:=abV (m:=m) (m0:=m.put b .dead) h aJ az bx et cN eM eL ay uZ bB aot ji Bm aw hm hk.rel rfl;exact ⟨.value bz,bz,w',c6,h1, .inl rfl,Post.trans hk ai,aT⟩
  rcases fZ with ⟨cF,_⟩|⟨_,hh,hle,kJ,p8,hdiv,eM⟩|⟨_,hV,o',eM⟩|⟨rQ,_⟩
  rotate_left 3
  ·grind [dc]
  ·grind
  ·have hle:l<=q.cap - off / q.es:=hle;have p8:off%q.es=0:=p8;have hdiv:off / q.es<=q.cap:=hdiv;have rV:off=off / q.es*q.es:=by
    grind [Nat.div_add_mod]
   have axQ:off+(q.cap - off / q.es)*q.es=q.cap*q.es:=by
    grind [Nat.sub_mul]
   have eM:dn x= .slice (J ⟨q.blk,q.db+off,ae⟩) l (q.cap - off / q.es):=eM;by_cases uT:l+n<=q.cap - off / q.es
   ·have td:off+(l+n)*i.size<=q.cap*q.es:=by
     have:(l+n)*i.size<=(q.cap - off / q.es)*q.es:=by rw[rR];exact oH _ uT
     omega
    have ays:q.db+off+l*i.size+new.length<=cs.size:=by grind
    have fb:=wX (P:=P) q.blk (q.db+off+l*i.size) e bZ iB 0 cs w g1 g2 (by rw[<-ji.length];omega) (bP.one ji);simp only[pS] at fb;refine ⟨.value _,_,_,j.up m.next ⟨q.blk,q.cap - off / q.es,q.es,q.db+off⟩,wU h (v:= .slice (J ⟨q.blk,q.db+off,ae⟩) (l+n) (q.cap - off / q.es)) ?_, .inl rfl,
     cY.reuse (e2:=⟨q.blk,q.cap - off / q.es,q.es,q.db+off⟩) (L':=(L.drop off).take (l*i.size)++new) bn jj g1 (zt cs (q.db+off+l*i.size) iB) rfl rfl (by grind) (by grind) ?_,
     ⟨⟨q.blk,q.cap - off / q.es,q.es,q.db+off⟩,rfl,by simp[cj.up], .inr (.inl ⟨rfl,hh,by simpa using uT,TI (Nat.sub_le _ _) kJ,by rfl,by simp,by simp⟩)⟩⟩
    ·grind [zh,o4,jE]
    ·intro k v hk;simp only[IK];rw[o5 _ _ _ _ (by rw[<-ji.length];grind)];rw[List.getElem?_append,uZ] at hk;split at hk
     ·grind
     ·rename_i hA;obtain ⟨bz,h1,ai⟩:=ji.get _ _ hk;have:=(fq.1 h1).1;rw[if_pos (by omega)];exact ⟨bz,by rw[show q.db+off+k - (q.db+off+l*i.size)=k - l*i.size by omega];grind,ai⟩
   grind
  ·by_cases uT:l+n<=0
   ·have Bz:n=0:=by omega
    have yT:new=[]:=by simp_all
    subst yT;subst hV;have anH:iB=[]:=by have:=ji.length;grind
    subst anH;have JW:=cY.reuse (e2:=q) (L':=(L.drop off).take (0*i.size)++[]) bn jj g1 (cs':=cs) rfl rfl rfl g4 (by simp) (λk v hk=>by grind);rw[Kt g1] at JW;refine ⟨.value (.slice (J ⟨q.blk,o',ae⟩) 0 0),_,w,j.up m.next q,wU h ?_, .inl rfl,JW,⟨q,rfl,by simp[cj.up], .inr (.inr (.inl ⟨rfl,by omega,o',rfl⟩))⟩⟩;subst Bz;rw[eM,zh aJ az eL (by omega)];rfl
   grind
 |clear x t e i z b off l c L h aJ az bx dw et an hm hV aR=>
  left;have c5:=hO x (by grind [dm,lh]);rw[an] at c5;obtain ⟨q,_,bn,fZ⟩:=c5.slice;have bn:j b=J q:=bn;have eM:∃c3,dn x= .slice (J ⟨q.blk,q.db+off,ae⟩) l c3:=by
   rcases fZ with ⟨_,ay⟩|⟨_,_,_,_,_,_,ay⟩|⟨_,bR,_⟩|⟨_,bR,_⟩|⟨_,_,_,_,_,_,_,_,_,ay⟩
   ·grind
   ·grind
   ·omega
   ·omega
   grind
  obtain ⟨c3,eM⟩:=eM;obtain ⟨cs,bZ,g1,g2,g3,g4,g5,g6⟩:=cY.own b q L e bn hm;have abb:z.cells.toList.length=i.size:=by grind
  have hlen:(gb l z.cells.toList).flatten.length=l*i.size:=by simp_all
  have bg:bP (eA j) (gb l z.cells.toList).flatten (gb l z.cells.toList).flatten:=bP.self (p:=dy) (λa h=>q4 h) (by
   grind)
  have hB:off+(gb l z.cells.toList).flatten.length<=L.length:=by grind
  have fb:=wX (P:=P) q.blk (q.db+off) e bZ (gb l z.cells.toList).flatten 0 cs w g1 g2 (by omega) (bP.one bg);simp only[pS] at fb;have qX:(yf z.cells l).toList=(gb l z.cells.toList).flatten:=KU z.cells l;refine ⟨.value _, .tuple #[],_,j, ?_, .inl rfl,cY.write bn hm g1 (zt cs _ _) (by grind [mB]) (BT g6 bg hB (by omega)),⟨#[],rfl,fs⟩⟩;have ax6:l≠0:=by omega
  cases l with
  |zero=>grind
  |succ l=>
  simp only[execOp,h,resolve,invoke,builtin,kD,nt,jE,YX,rA,TA,Builtin.clear_,IK,IJ,fw aJ,eM,og az bx,qX,fb]
 |copy x y t u e i b off l c L cs h aJ az an hm aZ bB aR=>
  left;have c5:=hO x (by grind [dm,lh]);rw[an] at c5;have ie:=hO y (by grind [dm,lh]);obtain ⟨hlen,axl,U4,bF⟩:=V7 cY.ot ie aZ;have Vm:rB (ja (ap y)) l<=ja (ap y):=Nat.min_le_left _ _;have bF:=bF bB _ Vm w rfl;have ji:=U4.take (rB (ja (ap y)) l*i.size);obtain ⟨q,_,bn,fZ⟩:=c5.slice;have bn:j b=J q:=bn;obtain ⟨ds,bZ,g1,g2,g3,g4,g5,g6⟩:=cY.own b q L e bn hm;have hB:off+(cs.take (rB (ja (ap y)) l*i.size)).length<=L.length:=by rw[List.length_take];have:rB (ja (ap y)) l*i.size<=l*i.size:=oH _ (Nat.min_le_right _ _);omega
  have key:∀(a':Addr) (c3:Nat),dn x= .slice (J a') l c3->(a'=⟨q.blk,q.db+off,ae⟩\/l=0)->Cf P j m w dn o (.int .i64 (rB (ja (ap y)) l)) (m.put b (.own (eY L off (cs.take (rB (ja (ap y)) l*i.size))) e)):=by
   intro a' c3 eM aM;rcases aM with rfl|aM
   ·have fb:=wX (P:=P) q.blk (q.db+off) e bZ _ 0 ds w g1 g2 (by grind) (bP.one ji);simp only[pS] at fb;refine ⟨.value _, .int .i64 (rB (ja (ap y)) l),_,j, ?_, .inl rfl,cY.write bn hm g1 (zt ds _ _) (by grind [mB]) (BT g6 ji hB (by omega)),rfl⟩;simp only[execOp,h,resolve,invoke,builtin,kD,nt,jE,YX,rA,TA,Builtin.copy_,IK,IJ,qH,fw aJ,eM,hlen,jb az,bF,fb,goInt]
   ·subst aM;have bR:rB (ja (ap y)) 0=0:=Nat.min_zero _;simp only[bR,Nat.zero_mul,List.take_zero,eY] at bF hB⊢;have hw:=cY.write (L':=L) bn hm g1 (cs':=ds) rfl g5 g6;rw[Kt g1] at hw;refine ⟨.value _, .int .i64 (0:Nat),w,j, ?_, .inl rfl,hw,rfl⟩;have am1:rB (ja (ap y)) 0=0:=Nat.min_zero _;simp only[execOp,h,resolve,invoke,builtin,kD,nt,jE,YX,rA,TA,Builtin.copy_,IK,IJ,qH,fw aJ,eM,hlen,jb az,am1,bF,goInt,storeCells]
  rcases fZ with ⟨_,eM⟩|⟨_,_,_,_,_,_,eM⟩|⟨_,hV,o',eM⟩|⟨_,hV,a',eM⟩|⟨_,_,_,_,_,_,_,_,_,eM⟩
  ·grind
  ·grind
  ·grind
  ·grind
  grind
 |mapUpdate hZ x jW j3 u bG bA b L eo vc E E' ho h jk hu an jj bp nC K yP uV yQ bF hk bs rZ J1 tg wA hb=>
  left;have Vl:∀y∈([x,jW,j3]:List bS),y∈o.op.operands:=by
   grind [dm]
  have c5:=hO x (Vl x (by simp));rw[an] at c5;obtain ⟨q,bn,ay⟩:∃q,j b=J q/\dn x= .map (J q.blk):=c5;have aaB:=W3 bF (hO jW (Vl jW (by simp)));have iF:=de.storable (hO j3 (Vl j3 (by simp))) rZ;have aaW:=cY.obj b q bn;rw[jj] at aaW;obtain ⟨lv,lA,cs,clock,awZ,g1,g2,g3,g4,g5⟩:=aaW;have yR:lv=bG/\lA=bA:=by grind
  obtain ⟨rfl,rfl⟩:=yR;have:=qG.Yb nC bp g3;subst this;have pw:=K.find (ap jW) cs.toList w hk (Wl g4 bs);have my:=K.check ak (ap jW) w hk;have aaR:qG (P.cellsOf lv) (P.cellsOf lA) (E'.flatMap λp=>p.1++p.2) E':=by
   refine ⟨rfl, ?_⟩;have:=bp.len;clear bp g3 g4 bs;induction hb with
   |qZ=>grind
   |rS p E h=>
    grind
   |next p E E' h Bb a1=>
    intro r aV;rcases ha.1 aV with rfl|aV
    ·grind
    ·exact a1 (λr aV=>this r (by grind)) r aV
  have key:=hb.find (j:=j) (bz:=dn j3) (clock:=clock) yQ (by grind) 0 g4;rw[<-yP] at key;have fin:∀(cs':Array MapEntry) (Jk:Nat),bP (ub P j lv lA) E' cs'.toList->zy cs' Jk->(execOp dn o).run P w= .ok .skip (sn w q.blk (.map cs' Jk))->
    Cf P j m w dn o undef (m.put b (.map (E'.flatMap λp=>p.1++p.2) u)):=by
   intro cs' Jk lM fb kv;refine ⟨.skip,undef,_,j,kv, .inr ⟨rfl,rfl⟩,cY.pF bn (by rw[jj];rfl) ⟨lv,lA,cs',Jk,E',rfl,hu,aaR,lM,fb⟩ rfl,⟨#[],rfl,fs⟩⟩
  have hex:∀w',(YP hZ (dn x) (dn jW) (dn j3)).run P w= .ok () w'->(execOp dn o).run P w= .ok .skip w':=by intro w' tj;rcases h with h|h<;>simp[execOp,h,tj]
  rcases key with ⟨i,y,h1,ai,aT,br⟩|⟨h1,ai⟩
  ·refine fin (cs.modify i λe=>{e with key:=ap jW,val:=dn j3}) clock ?_ (aqb g5 i _ λ_=>rfl) (hex _ ?_)
   ·grind
   ·have fb:=K.stays (ap jW) w hk;rw[h1] at pw;have uU:cs[i]? =J y:=by grind
    simp[YP,fw jk,ay,zD g1,aaB,my,pw,uU,aT,fb,aee _ g1,sn]
  ·refine fin (cs.push {key:=ap jW,val:=dn j3,born:=clock}) (clock+1) ?_ (aqj g5 _ rfl) (hex _ ?_)
   ·grind
   ·rw[h1] at pw;simp[YP,fw jk,ay,zD g1,aaB,my,pw,aee _ g1,sn]
end Go.aF
end
section
namespace Go.aF
def aqN {n n':Nat} (h:n<=n') {v:af} (aD:r4 n v):r4 n' v:=by
 unfold r4 at aD⊢;split at aD
 ·rename_i a;cases a with
  |none=>exact aD
  |some a=>exact hS aD h
 grind
def aqM {n:Nat} {v:af} (aD:r4 n v):h7 n v:=by
 unfold r4 at aD;split at aD
 ·exact aD
 grind
theorem tw {n n':Nat} (h:n<=n') {v:af} (aD:h7 n v):h7 n' v:=by
 cases v with
 |func fn bY cs=>exact ⟨aD.1,λv hm=>aqN h (aD.2 v hm)⟩
 |pointer a=>cases a with
  |none=>exact aD
  |some a=>exact hS aD h
 |slice a l c=>cases a with
  |none=>exact aD
  |some a=>exact hS aD h
 |map r=>cases r with
  |none=>exact aD
  |some r=>exact hS aD h
 |_=>exact aD
theorem KE {n n':Nat} (h:n<=n') {v:af} (aD:iv n v):iv n' v:=by
 cases v with
 |agg cs=>exact λv hm=>tw h (aD v hm)
 |_=>grind [iv,tw]
theorem WO {n n':Nat} (h:n<=n') {v:af} (aD:low n v):low n' v:=by
 cases v with
 |chan _=>trivial
 |tuple cs=>exact λv hm=>KE h (aD v hm)
 |func _ a b=>exact ⟨λv hm=>KE h (aD.1 v hm),λv hm=>KE h (aD.2 v hm)⟩
 |_=>grind [low,KE]
def acA {n n':Nat} (h:n<=n') {x:bW} (aD:qe n x):qe n' x:=by
 cases x with
 |dead=>exact aD
 |ro rd=>exact λi v az=>tw h (aD i v az)
 |own L t=>exact λv hm=>tw h (aD v hm)
 |map L t=>exact λv hm=>tw h (aD v hm)
 |lock _ _ _ _=>trivial
theorem zq {n:Nat} {v:af} (h:dy v=aa):h7 n v:=by
 cases v with
 |pointer a=>cases a with
  |none=>exact fs
  |some a=>grind [dy]
 |slice a l c=>cases a with
  |none=>exact fs
  |some a=>grind [dy]
 |map r=>cases r with
  |none=>exact fs
  |some r=>grind [dy]
 |chan _=>grind [dy]
 |func _ _ _=>simp only[dy,fx,Yt] at h;obtain ⟨rfl,rfl⟩:=h;exact ⟨rfl,λv hm=>absurd hm (by simp)⟩
 |iface _ _=>grind [dy]
 |agg _=>grind [dy]
 |tuple _=>grind [dy]
 |_=>exact fs
theorem Wv {n:Nat} {v:af} (h:kz v=aa):iv n v:=by
 cases v with
 |agg cs=>simp only[kz,iA] at h;exact λv hm=>zq (h v hm)
 |_=>simp only[iv];exact zq h
theorem WJ {n:Nat} {v:af} (h:flat v=aa):low n v:=by
 cases v with
 |tuple cs=>simp only[flat,iA] at h;exact λv hm=>Wv (h v hm)
 |func _ _ _=>simp only[flat,kz,dy,fx,Yt] at h;obtain ⟨rfl,rfl⟩:=h;exact ⟨λv hm=>absurd hm (by simp),λv hm=>absurd hm (by simp)⟩
 |chan _=>trivial
 |_=>simp only[low];exact Wv h
def KQ {n:Nat} {v:af} (h:h7 n v):iv n v:=by
 cases v<;>first|exact h|exact h.elim
theorem B7 {n:Nat} {v:af} (h:iv n v):low n v:=by
 cases v with
 |func fn bY cs=>exact ⟨λv hm=>by rw[h.1] at hm;grind,λv hm=>KQ (aqM (h.2 v hm))⟩
 |tuple _=>exact h.elim
 |chan _=>trivial
 |_=>exact h
theorem K6 {n:Nat} {v:af} (h:h7 n v):low n v:=B7 (KQ h)
theorem wY {n:Nat} {v:af} (h:low n v) (bf:storable v=aa):iv n v:=by
 cases v with
 |tuple _=>grind [storable]
 |chan _=>grind [storable]
 |func fn bY cs=>
  simp only[storable,fx,Yt,iA] at bf;refine ⟨bf.1,λv hm=> ?_⟩;have h1:=h.2 v hm;have ai:=bf.2 v hm;unfold xr at ai;split at ai
  ·exact h1
  grind
 |_=>exact h
def Kr {n:Nat} {v:af} (h:iv n v):∀c∈v.cells.toList,h7 n c:=by
 cases v with
 |agg cs=>exact h
 |_=>intro c ay;simp only[af.cells,IM] at ay;subst ay;exact h
def r9:∀(vs L:List af) (o:Nat) (v:af),v∈eY L o vs->v∈L\/v∈vs
 |[],L,o,v,h=> .inl h
 |u::vs,L,o,v,h=>by
  rcases r9 vs (L.set o u) (o+1) v h with h|h
  ·grind
  grind
theorem KB {n:Nat} {place:Nat->Option (Nat×Nat)}:∀(cQ:List (Nat×af)) (L cs:List af),(∀p∈cQ,low n p.2)->(∀v∈L,h7 n v)->k5 place L cQ=J cs->∀v∈cs,h7 n v
 |[],L,cs,_,dE,h=>by grind [k5]
 |(i,v)::cQ,L,cs,bb,dE,h=>by
  simp only[k5] at h;cases bm:place i with
  |none=>grind
  |some q=>
   simp only[bm] at h;split at h
   ·rename_i ay;refine KB cQ _ cs (λp hm=>bb p (by grind)) ?_ h;intro u hu;rcases r9 _ _ _ _ hu with hu|hu
    ·grind
    ·exact Kr (wY (bb (i,v) (by simp)) ay.1) u hu
   grind
theorem WL {m:Mem} (hm:WF m) {b o:Nat} {v:af} (h:m.load b o=J v):h7 m.next v:=by
 have:=hm.low b;unfold Mem.load at h;cases aw:m.blk b with
 |dead=>grind
 |ro rd=>simp only[aw] at h;rw[aw] at this;exact this o v h
 |own L t=>simp only[aw] at h;rw[aw] at this;exact this v (mM h)
 |map L t=>grind
 |lock _ _ _ _=>grind
theorem KX {m:Mem} (hm:WF m) {b:Nat}:∀(n o:Nat) (cs:List af),kd m b o n=J cs->∀v∈cs,h7 m.next v
 |0,o,cs,h=>by grind [kd]
 |n+1,o,cs,h=>by
  simp only[kd] at h;cases h1:m.load b o with
  |none=>grind
  |some u=>
   cases ai:kd m b (o+1) n with
   |none=>grind
   |some l=>
    simp only[h1,ai,kB.injEq] at h;subst h;intro v aD;rcases ha.1 aD with rfl|aD
    ·grind [WL]
    ·exact KX hm n (o+1) l ai v aD
theorem tu {n:Nat} {L:List af} (h:L.all dy=aa):∀v∈L,h7 n v:=by
 grind [zq]
theorem ars {P:bI} {ap:bS->af} {o:Oper} {v:af} {n:Nat} (h:dD P ap o v) (kx:∀x∈o.op.operands,low n (ap x)):low n v:=by
 cases h with
 |flat v bf h aD aV=>grind [WJ]
 |move x h=>grind [dm]
 |pick c a b t h ay=>
  grind [dm]
 |extract x i vs v h an aD=>have:=kx x (by grind [dm]);rw[an] at this;exact B7 (this v (by grind))
 |field t x i bY f d cs v h aJ bF bg an aD=>
  have:=kx x (by grind [dm]);rw[an] at this;split at aD
  ·obtain ⟨k,hk,hle,rfl⟩:=aD;intro u hu;refine this u ?_
   grind [Yv]
  ·exact K6 (this v (by grind))
 |J6 t x y e d i l k n' cs h aJ bg bl az an aZ bR h1=>
  have:=kx x (by grind [dm]);rw[an] at this;intro u hu;refine this u ?_
  grind [Yv]
 |J5 t x y e d i l k n' cs v h aJ bg bl az an aZ bR h1 aD=>have:=kx x (by grind [dm]);rw[an] at this;exact K6 (this v (by grind))
 |build t cQ bY i z cs h aJ az bx dw bb ay=>
  grind [KB,dm,tu,low,iv]
 |Jg t cQ n e i k z cs h aJ az bx dw he ay=>
  grind [KB,dm,tu,low,iv]
 |nilCheck x a h an=>
  grind [dm]
 |fieldAddr t x i bY f k b off h aJ bF hk bf an=>have:=kx x (by grind [dm]);rw[an] at this;exact this
 |indexAddr t x y e i b off l c k n h aJ az an aZ bR h1=>have:=kx x (by grind [dm]);rw[an] at this;exact this
 |J4 t x y e i b off l k n h aJ az an aZ bR h1=>have:=kx x (by grind [dm]);rw[an] at this;exact this
 |JC t x y e i l g k n h aJ az bf an aZ bR h1 aR=>exact fs
 |slice t x cf az e i b off l c n dG h aJ fm an aw eW eN h1 ai aT=>have:=kx x (by grind [dm]);rw[an] at this;exact this
 |nc t x cf az e i h aJ fm an eW eN=>exact fs
 |slice3 t x h8 az e i b off l c dG k' oV h aJ fm an ay eN mV h1=>have:=kx x (by grind [dm]);rw[an] at this;exact this
 |P5 t x cf az h8 e i b off l c n dG k' Kb J9 oV h aJ fm an ay eW eN mV bR h1=>exact fs
 |P4 t x h8 az e i oV h aJ fm an eN mV=>exact fs
 |len x t e a l c h aJ an=>exact fs
 |Jj x t e h aJ an=>exact fs
 |A2 neq x y t u e a l c h aJ an aZ=>exact fs
 |func fn first captured h bF=>
  refine ⟨?_, ?_⟩
  ·grind [wY,dm]
  grind [wY,dm]
def aqW {P:bI} {bA:bV} {n:Nat} {cs:List af} (tf:ek P bA=ak->P.cellsOf bA=1) (aR:cs.length=P.cellsOf bA) (h:∀c∈cs,h7 n c):iv n (ey (ek P bA) cs):=by
 cases bl:ek P bA with
 |true=>grind [ey,iv]
 |false=>
  have:=tf bl
  match cs,aR with
  |[v],_=>exact KQ (h v (by simp))
  |[],aR=>grind
  |_::_::_,aR=>grind
theorem art {P:bI} {ap:bS->af} {o:Oper} {m:Mem} {v:af} (h:fH P ap o m v) (hm:WF m) (kx:∀x∈o.op.operands,low m.next (ap x)):low m.next v:=by
 cases h with
 |load t x b off d v h an aJ bg aD=>grind [K6,WL]
 |wc t x g n s h an bB aJ bs=>exact fs
 |wI t x b off d i cs h an aJ bg az aD=>grind [low,iv,KX]
 |vx t x cf az e i L b off l c k n dG h aJ fm an hk n4 eW eN h1 ai aT=>have:=kx x (by grind [dm]);rw[an] at this;exact this
 |slice t x cf az e i L b off l n dG h aJ fm an n4 eW eN h1 ai aT=>have:=kx x (by grind [dm]);rw[an] at this;exact this
 |str s t x e b off l c cs h bf he aJ an aD=>exact fs
 |zQ s t x e l c h bf he aJ an=>exact fs
 |lookup hZ x dx ok u bG bA b L E i z v0 t ho h jk hu an nC tf K bF hk bs az bx dw aR=>
  have bR:iv m.next v0:=by
   have am5:(∀p∈E,∀c∈p.2,h7 m.next c)/\∀p∈E,p.2.length=P.cellsOf bA:=by
    rcases an with ⟨an,jj,bp⟩|⟨an,rfl⟩
    ·have dE:=hm.low b;rw[jj] at dE;exact ⟨λp bb c ay=>dE c (by rw[bp.eq];grind),λp bb=>(bp.len p bb).2⟩
    grind
   obtain ⟨qN,hlen⟩:=am5;clear bs an;induction aR with
   |qZ=>grind [Wv]
   |rS p E h=>exact aqW tf (hlen p (by simp)) (qN p (by simp))
   |next p E v b h aR a1=>exact a1 (λq bm=>qN q (by grind)) (λq bm=>hlen q (by grind))
  cases ok with
  |false=>grind [B7]
  |true=>
   intro v aD;simp at aD;rcases aD with rfl|rfl
   ·grind
   ·exact fs
def atb {P:bI} {ap:bS->af} {o:Oper} {n:Nat} {X:bW} {v:af} (h:jC P ap o n X v) (kx:∀x∈o.op.operands,low n (ap x)):low (n+1) v/\qe n X:=by
 cases h with
 |alloc t i z h az bx dw bf=>exact ⟨pT n,tu dw⟩
 |box t x i h az aD bf=>exact ⟨pT n,Kr (wY (kx x (by grind [dm])) aD)⟩
 |buildSlice t l cQ e i z cs h aJ az bx dw et uO uW ay=>
  refine ⟨pT n,KB _ _ _ ?_ (tu (zl dw l)) ay⟩
  grind [dm]
 |makeSlice t x y l c k k' e i z h aJ az bx dw et an aZ s7 aw ay=>exact ⟨pT n,tu (zl dw c)⟩
 |bytes s t x e i b h bf aJ he az kL an aw=>exact ⟨pT n,tu (by simp only[List.all_map,iA,YD];intro u _;rfl)⟩
 |makeMap t bG bA h aJ=>exact ⟨pT n,λv aD=>by grind⟩
def WF.push {m:Mem} (h:WF m) {X:bW} (dE:qe (m.next+1) X):WF (m.push X) where
 dead:=λb aw=>by simp only[Mem.push] at aw⊢;rw[if_neg (by omega)];exact h.dead b (by omega)
 low:=λb=>by
  simp only[Mem.push];split
  ·grind
  ·exact acA (mo _) (h.low b)
def WF.put {m:Mem} (h:WF m) {b:Nat} {x:bW} (an:qe m.next x) (aw:b<m.next\/x= .dead):WF (m.put b x) where
 dead:=λc ay=>by
  have ay:m.next<=c:=ay;simp only[Mem.put];split
  ·grind
  ·exact h.dead c ay
 low:=λc=>by
  simp only[Mem.put];split
  ·grind
  ·exact h.low c
def WF.lt {m:Mem} (h:WF m) {b:Nat} (aw:m.blk b≠ .dead):b<m.next:=by
 rcases mq b m.next with h1|h1
 ·grind
 ·exact absurd (h.dead b h1) aw
def pB (C:FuncId->Array af->Mem->af->Mem->Prop):Prop:=∀f args m v m',C f args m v m'->WF m->(∀a∈args.toList,low m.next a)->low m'.next v/\WF m'/\m.next<=m'.next
theorem Wu {m:Mem} (hm:WF m) {bM:Nat} {y:af} {cs:List af} (h:kt m bM y=J cs):∀v∈cs,h7 m.next v:=by
 cases y with
 |slice a l c=>
  cases a with
  |none=>grind [kt]
  |some a=>
   obtain ⟨b,off,spot⟩:=a;cases spot with
   |none=>exact KX hm _ _ _ h
   |some _=>grind [kt]
 |string s=>
  simp only[kt] at h;split at h
  ·simp only[kB.injEq] at h;subst h;exact tu (by simp only[List.all_map,iA,YD];intro u _;rfl)
  grind
 |_=>grind [kt]
theorem La {P:bI} {m:Mem} (hm:WF m) {u:bV} {i:TypeInfo} {y:af} {n:Nat} {cs:List af} (h:sA P m u i y n cs):∀v∈cs,h7 m.next v:=by
 cases h with
 |el hu aR he=>grind [Wu]
 |mk kk k z hu aZ bx dw et cN aw lN nE=>
  grind [tu,zl]
def aqq {o:Oper} {ap:bS->af} {f:FuncId} {args:Array af} {n:Nat} (h:callee o ap f args) (kx:∀x∈o.op.operands,low n (ap x)):∀a∈args.toList,low n a:=by
 obtain ⟨x,dK,ts,first,captured,h,an,rfl⟩:=h;have bF:=kx x (by grind [dm,lh]);rw[an] at bF;intro a bl;simp only[Yu,kU,ye,l2] at bl;rcases bl with (bl|⟨y,aZ,rfl⟩)|bl
 ·exact B7 (bF.1 a bl)
 ·grind [dm,lh]
 ·exact B7 (bF.2 a bl)
theorem asi {P:bI} {C:FuncId->Array af->Mem->af->Mem->Prop} {ap:bS->af} {o:Oper} {m m':Mem} {v:af} (h:hR P C ap o m v m') (hm:WF m) (kx:∀x∈o.op.operands,low m.next (ap x)) (cW:pB C):low m'.next v/\WF m'/\m.next<=m'.next:=by
 cases h with
 |store t x y b off i L e h an az jj aD bf aR=>
  refine ⟨λu hu=>by grind,hm.put ?_ (.inl (hm.lt (by grind))),e4 _⟩;intro u hu;rcases r9 _ _ _ _ hu with hu|hu
  ·have:=hm.low b;rw[jj] at this;exact this u hu
  ·exact Kr (wY (kx y (by grind [dm])) aD) u hu
 |call f args v m' h U0=>exact cW f args m v m' U0 hm (aqq h kx)
 |vZ x y t u e i a l c h aJ az an ay s7 aZ=>grind [dm,lh]
 |sP x y t u e i z a l c n ew new h aJ az bx dw et cN an ay aM nF aZ bB aw lN=>
  refine ⟨pT _,hm.push ?_,mo _⟩;intro w hw;rcases kU.1 hw with hw|hw
  ·exact tw (mo _) (Wu hm aM w hw)
  ·exact tw (mo _) (La hm aZ w hw)
 |yy x y t u e i b off l c k n L new h aJ az an gN nB ay jj aZ bB aR=>
  refine ⟨?_,hm.put ?_ (.inl (hm.lt (by grind))),e4 _⟩
  ·have:=kx x (by grind [dm,lh]);rw[an] at this;exact this
  ·intro w hw;rcases r9 _ _ _ _ hw with hw|hw
   ·have:=hm.low b;rw[jj] at this;exact this w hw
   grind [La]
 |vY x y t u e i b off l c n L new h aJ az an gN ay jj aZ bB aR=>
  refine ⟨?_,hm.put ?_ (.inl (hm.lt (by grind))),e4 _⟩
  ·have:=kx x (by grind [dm,lh]);rw[an] at this;exact this
  ·intro w hw;rcases r9 _ _ _ _ hw with hw|hw
   ·have:=hm.low b;rw[jj] at this;exact this w hw
   grind [La]
 |append x y t u e i z b off l n L new h aJ az bx dw et cN an jj yS aZ bB aw lN=>
  have h1:WF (m.put b .dead):=hm.put fs (.inr rfl);refine ⟨pT _,h1.push ?_,mo _⟩;intro w hw;rcases kU.1 hw with hw|hw
  ·have:=hm.low b;rw[jj] at this;exact tw (mo _) (this w (List.mem_of_mem_drop (List.mem_of_mem_take hw)))
  ·exact tw (mo _) (La hm aZ w hw)
 |clear x t e i z b off l c L h aJ az bx dw et an jj hV aR=>
  refine ⟨by intro v aD;grind,hm.put ?_ (.inl (hm.lt (by grind))),e4 _⟩;intro w hw;rcases r9 _ _ _ _ hw with hw|hw
  ·have:=hm.low b;rw[jj] at this;exact this w hw
  grind [List.mem_flatten,zq]
 |copy x y t u e i b off l c L cs h aJ az an jj aZ bB aR=>
  refine ⟨fs,hm.put ?_ (.inl (hm.lt (by grind))),e4 _⟩;intro w hw;rcases r9 _ _ _ _ hw with hw|hw
  ·have:=hm.low b;rw[jj] at this;exact this w hw
  grind [Wu]
 |mapUpdate hZ x jW j3 u bG bA b L eo vc E E' ho h jk hu an jj bp nC K yP uV yQ bF hk bs rZ J1 tg wA hb=>
  refine ⟨λu hu=>by grind,hm.put ?_ (.inl (hm.lt (by grind))),e4 _⟩;have dE:=hm.low b;rw[jj] at dE;have qN:∀p∈E,∀c∈p.1++p.2,h7 m.next c:=λp bb c ay=>dE c (by rw[bp.eq];grind);have ax5:∀c∈eo,h7 m.next c:=tu yQ;have ayu:∀c∈vc,h7 m.next c:=λc ay=>by
   refine Kr (wY (kx j3 ?_) rZ) c (wA c ay)
   grind [dm]
  have key:∀p∈E',∀c∈p.1++p.2,h7 m.next c:=by
   clear bp bs dE;induction hb with
   |qZ=>
    grind
   |rS p E h=>
    intro q bm c ay
    grind
   |next p E E' h Bb a1=>
    intro q bm c ay;rcases ha.1 bm with rfl|bm
    ·grind
    ·exact a1 (λq bm=>qN q (by grind)) q bm c ay
  intro v aD;obtain ⟨p,bb,ay⟩:=List.mem_flatMap.1 aD
  grind
def aew {fr:Nat->af} {n:Nat} (h:∀t,low n (fr t)) {x:bS} (an:nI x=aa):low n (bk fr x):=by
 cases x with
 |tmp t=>exact h t
 |const v=>exact WJ an
 |global g=>trivial
 |func f=>exact ⟨λv aD=>by grind,λv aD=>by grind⟩
theorem Ca {fr:Nat->af} {n:Nat} (h:∀t,low n (fr t)) {d:Option Tmp} {v:af} (aD:low n v):∀t,low n (set fr d v t):=by
 intro t;cases d with
 |none=>exact h t
 |some d=>grind [set]
theorem Kz {n:Nat}:low n undef:=λv aD=>by grind
def w8 {P:bI} {C:FuncId->Array af->Mem->af->Mem->Prop} {fr:Nat->af} {o:Oper} {m m':Mem} {v:af} (h:ln P C (bk fr) o m v m') (hm:WF m) (bF:∀t,low m.next (fr t)) (cW:pB C) (aM:∀x∈o.op.operands,nI x=aa):
  low m'.next v/\WF m'/\m.next<=m'.next:=by
 have kx:∀x∈o.op.operands,low m.next (bk fr x):=λx an=>aew bF (aM x an);cases h with
 |pure h=>grind [ars]
 |read h=>grind [art]
 |new h=>have:=atb h kx;exact ⟨this.1,hm.push (acA (mo _) this.2),mo _⟩
 |fX h=>grind [asi]
end Go.aF
end
section
namespace Go.aF
def XJ (P:bI) (C:FuncId->Array af->Mem->af->Mem->Prop) (ops:List Oper) (o:Oper) (fr:Nat->af) (m:Mem) (v:af) (m':Mem) (k:Nat):Prop:=
 (k=0/\wanted ops fr o=ak/\v=undef/\m'=m)\/
 (k=1/\wanted ops fr o=aa/\dD P (bk fr) o v/\m'=m)\/
 (k=2/\wanted ops fr o=aa/\fH P (bk fr) o m v/\m'=m)\/
 (k=3/\wanted ops fr o=aa/\∃X,jC P (bk fr) o m.next X v/\m'=m.push X)\/
 (k=4/\wanted ops fr o=aa/\hR P C (bk fr) o m v m')
structure ys (P:bI) (C:FuncId->Array af->Mem->af->Mem->Prop) (ops:List Oper) (B:Array Nat) (i:Nat) (l:List Oper) (bY:Nat->Nat->af) (ms:Nat->Mem) (vs:Nat->af) (dA:Nat->Nat):Prop where
 frame:∀n o,l[n]? =J o->bY (i+n+1)=set (bY (i+n)) o.dst (vs (i+n))
 run:∀n o,l[n]? =J o->XJ P C ops o (bY (i+n)) (ms (i+n)) (vs (i+n)) (ms (i+n+1)) (dA (i+n))
 after:∀r e o,l[r]? =J o->dA (i+r)=2->e<l.length->dA (i+e)=4->r<e->gD B (i+e) (i+r)=ak->fH P (bk (bY (i+r))) o (ms (i+e+1)) (vs (i+r))
 news:∀x e,x<l.length->dA (i+x)=3->e<l.length->dA (i+e)=4->x<e->gD B (i+e) (i+x)=ak->(ms (i+e+1)).blk (ms (i+x)).next=(ms (i+e)).blk (ms (i+x)).next
 ahead:∀r e o,l[r]? =J o->dA (i+r)=2->e<l.length->dA (i+e)=4->e<r->gD B (i+r) (i+e)=ak->fH P (bk (bY (i+r))) o (ms (i+e)) (vs (i+r))
def afj {P:bI} {C:FuncId->Array af->Mem->af->Mem->Prop} {ops:List Oper} {B:Array Nat}:∀(l:List Oper) (i:Nat) (A:Acc) (fr:Nat->af) (m:Mem) (cb:Nat->af) (m':Mem),hW P C ops B i l A fr m cb m'->
  ∃bY ms vs dA,ys P C ops B i l bY ms vs dA/\bY i=fr/\ms i=m/\bY (i+l.length)=cb/\ms (i+l.length)=m'/\
   (∀x∈A.reads,∀e,e<l.length->dA (i+e)=4->gD B (i+e) x.1=ak->x.2 (ms (i+e+1)))/\
   (∀x∈A.iC,∀r o,l[r]? =J o->dA (i+r)=2->gD B (i+r) x.1=ak->fH P (bk (bY (i+r))) o x.2 (vs (i+r)))/\
   (∀x∈A.news,∀e,e<l.length->dA (i+e)=4->gD B (i+e) x.1=ak->(ms (i+e+1)).blk x.2=(ms (i+e)).blk x.2)
 |[],i,A,fr,m,cb,m',h=>by simp only[hW] at h;obtain ⟨rfl,rfl⟩:=h;refine ⟨λ_=>cb,λ_=>m',λ_=>undef,λ_=>0,⟨?_, ?_, ?_, ?_, ?_⟩,rfl,rfl,rfl,rfl, ?_, ?_, ?_⟩;all_goals grind
 |o::os,i,A,fr,m,cb,m',h=>by
  have key:∀(v:af) (m1:Mem) (k:Nat) (iH:Acc),XJ P C ops o fr m v m1 k->hW P C ops B (i+1) os iH (set fr o.dst v) m1 cb m'->
    (∀x∈A.reads,x∈iH.reads)->(∀x∈A.iC,x∈iH.iC)->(k=2->(i,λm=>fH P (bk fr) o m v)∈iH.reads)->(k=4->(i,m)∈iH.iC)->
    (k=2->∀x∈A.iC,gD B i x.1=ak->fH P (bk fr) o x.2 v)->(k=4->∀x∈A.reads,gD B i x.1=ak->x.2 m1)->(∀x∈A.news,x∈iH.news)->(k=3->(i,m.next)∈iH.news)->(k=4->∀x∈A.news,gD B i x.1=ak->m1.blk x.2=m.blk x.2)->
    ∃bY ms vs dA,ys P C ops B i (o::os) bY ms vs dA/\bY i=fr/\ms i=m/\bY (i+(o::os).length)=cb/\ms (i+(o::os).length)=m'/\
     (∀x∈A.reads,∀e,e<(o::os).length->dA (i+e)=4->gD B (i+e) x.1=ak->x.2 (ms (i+e+1)))/\
     (∀x∈A.iC,∀r o',(o::os)[r]? =J o'->dA (i+r)=2->gD B (i+r) x.1=ak->fH P (bk (bY (i+r))) o' x.2 (vs (i+r)))/\
     (∀x∈A.news,∀e,e<(o::os).length->dA (i+e)=4->gD B (i+e) x.1=ak->(ms (i+e+1)).blk x.2=(ms (i+e)).blk x.2):=by
   intro v m1 k iH kv bg axE axC Bn anW JV aym axD aaP ayd;obtain ⟨bY,ms,vs,dA,aJ,h1,ai,aT,br,cK,fJ,jH⟩:=afj os (i+1) iH _ _ _ _ bg;refine ⟨λn=>if n=i then fr else bY n,λn=>if n=i then m else ms n,λn=>if n=i then v else vs n,λn=>if n=i then k else dA n,⟨?_, ?_, ?_, ?_, ?_⟩,by simp,by simp, ?_, ?_, ?_, ?_, ?_⟩
   ·intro n o' bB;cases n with
    |zero=>
     grind
    |succ n=>
     have bX:i+(n+1)=i+1+n:=by omega
     have:=aJ.frame n o' (by grind);rw[bX];simp only[show ¬(i+1+n+1=i) by omega,show ¬(i+1+n=i) by omega,if_false,this]
   ·intro n o' bB;cases n with
    |zero=>
     grind
    |succ n=>
     have bX:i+(n+1)=i+1+n:=by omega
     have:=aJ.run n o' (by grind);rw[bX];simp only[show ¬(i+1+n+1=i) by omega,show ¬(i+1+n=i) by omega,if_false]
     grind
   ·intro r e o' aV hk he k3 JW lq;cases e with
    |zero=>omega
    |succ e=>
     have bX:i+(e+1)=i+1+e:=by omega
     rw[bX] at k3 lq⊢;simp only[show ¬(i+1+e=i) by omega,if_false] at k3;simp only[show ¬(i+1+e+1=i) by omega,if_false];cases r with
     |zero=>simp only[IJ,kB.injEq] at aV;subst aV;simp only[pS,if_pos] at hk lq⊢;exact cK _ (Bn hk) e (by grind) k3 lq
     |succ r=>
      have e2:i+(r+1)=i+1+r:=by omega
      rw[e2] at hk lq⊢;simp only[show ¬(i+1+r=i) by omega,if_false] at hk⊢;exact aJ.after r e o' (by grind) hk (by grind) k3 (by omega) lq
   ·intro x e an hk he k3 u1 lq;cases e with
    |zero=>omega
    |succ e=>
     have bX:i+(e+1)=i+1+e:=by omega
     rw[bX] at k3 lq⊢;simp only[show ¬(i+1+e=i) by omega,if_false] at k3;simp only[show ¬(i+1+e+1=i) by omega,show ¬(i+1+e=i) by omega,if_false];cases x with
     |zero=>simp only[pS,if_pos] at hk lq⊢;exact jH _ (aaP hk) e (by grind) k3 lq
     |succ x=>
      have e2:i+(x+1)=i+1+x:=by omega
      rw[e2] at hk lq⊢;simp only[show ¬(i+1+x=i) by omega,if_false] at hk⊢;exact aJ.news x e (by grind) hk (by grind) k3 (by omega) lq
   ·intro r e o' aV hk he k3 JW lq;cases r with
    |zero=>omega
    |succ r=>
     have e2:i+(r+1)=i+1+r:=by omega
     rw[e2] at hk lq⊢;simp only[show ¬(i+1+r=i) by omega,if_false] at hk⊢;cases e with
     |zero=>
      grind
     |succ e=>
      have bX:i+(e+1)=i+1+e:=by omega
      rw[bX] at k3 lq⊢;simp only[show ¬(i+1+e=i) by omega,if_false] at k3⊢;exact aJ.ahead r e o' (by grind) hk (by grind) k3 (by omega) lq
   ·grind
   ·grind
   ·intro x an e he k3 lq;cases e with
    |zero=>
     grind
    |succ e=>
     grind
   ·grind
   ·intro x an e he k3 lq;cases e with
    |zero=>
     grind
    |succ e=>
     have bX:i+(e+1)=i+1+e:=by omega
     rw[bX] at k3 lq⊢;simp only[show ¬(i+1+e=i) by omega,if_false] at k3;simp only[show ¬(i+1+e+1=i) by omega,show ¬(i+1+e=i) by omega,if_false]
     grind
  simp only[hW] at h;split at h
  ·rename_i hw;rcases h with ⟨v,bb,bg⟩|⟨v,bb,Vp,bg⟩|⟨X,v,bb,bg⟩|⟨v,m1,bb,Vp,aoo,bg⟩
   ·exact key v m 1 A (.inr (.inl ⟨rfl,hw,bb,rfl⟩)) bg (λ_ h=>h) (λ_ h=>h) (by simp) (by simp) (by simp) (by simp) (λ_ h=>h) (by simp) (by simp)
   ·exact key v m 2 _ (.inr (.inr (.inl ⟨rfl,hw,bb,rfl⟩))) bg (λ_ h=>by grind) (λ_ h=>h) (λ_=>by simp) (by simp) (λ_=>Vp) (by simp) (λ_ h=>h) (by simp) (by simp)
   ·exact key v _ 3 _ (.inr (.inr (.inr (.inl ⟨rfl,hw,X,bb,rfl⟩)))) bg (λ_ h=>h) (λ_ h=>h) (by simp) (by simp) (by simp) (by simp) (λ_ h=>by grind) (λ_=>by simp) (by simp)
   ·exact key v m1 4 _ (.inr (.inr (.inr (.inr ⟨rfl,hw,bb⟩)))) bg (λ_ h=>h) (λ_ h=>by grind) (by simp) (λ_=>by simp) (by simp) (λ_=>Vp) (λ_ h=>h) (by simp) (λ_=>aoo)
  ·rename_i hw;exact key undef m 0 A (.inl ⟨rfl,by grind,rfl,rfl⟩) h (λ_ h=>h) (λ_ h=>h) (by simp) (by simp) (by simp) (by simp) (λ_ h=>h) (by simp) (by simp)
end Go.aF
end
section
namespace Go.aF
def xf (P:bI) (C:FuncId->Array af->Mem->af->Mem->Prop):Prop:=∀f args m v m',C f args m v m'->∀(j:cj) (w:World) (kq:Array af),WF m->Rel P j m w->bP (de j) args.toList kq.toList->
 (∃ fn, P.funcs[f]? = J fn ∧ (fn.name == "runtime.NumGoroutine") = ak ∧ fn.body.isNone = ak) ∧
 Calls P f kq w λe w'=>∃bz c6,e= .returned bz/\Post P j m w c6 m' w'/\de c6 v bz
def Lf {j:cj} {n:Nat} (bn:∀b e,j b=J e->b<n) {v bz:af}:(eA j v bz->h7 n v)/\(fC j v bz->iv n v)/\(de j v bz->low n v):=by
 have aR:∀{R:af->af->Prop} {p:af->Prop},(∀a b,R a b->p a)->∀{l k:List af},bP R l k->∀v∈l,p v:=by
  intro R p ang l;induction l with
  |nil=>intro k _ v aD;simp at aD
  |cons a l a1=>
   intro k h v aD;cases k with
   |nil=>exact h.elim
   |cons b k=>
    rcases ha.1 aD with rfl|aD
    ·exact ang _ _ h.1
    ·exact a1 h.2 v aD
 have bm:∀v bz:af,kY j v bz->r4 n v:=by
  intro v bz h;unfold kY at h;split at h
  ·obtain ⟨e,_,h,_⟩:=h;exact bn _ _ h
  ·exact h.elim
 have bR:∀{v bz:af},eA j v bz->h7 n v:=by
  intro v bz h;cases v with
  |pointer a=>cases a with
   |none=>exact fs
   |some a=>obtain ⟨e,_,h,_⟩:=h;exact bn _ _ h
  |slice a l c=>cases a with
   |none=>exact fs
   |some a=>obtain ⟨e,_,h,_⟩:=h;exact bn _ _ h
  |map r=>cases r with
   |none=>exact fs
   |some r=>obtain ⟨e,h,_⟩:=h;exact bn _ _ h
  |chan r=>cases r<;>exact h
  |func _ _ _=>obtain ⟨bX,ds,_,h⟩:=h;exact ⟨bX,aR (R:=kY j) (p:=r4 n) bm h⟩
  |iface _ _=>exact h
  |agg _=>exact h
  |tuple _=>exact h
  |_=>exact fs
 have h1:∀{v bz:af},fC j v bz->iv n v:=by
  intro v bz h;cases v with
  |agg cs=>obtain ⟨ds,_,h⟩:=h;exact aR (R:=eA j) (p:=h7 n) (λa b=>bR) h
  |_=>simp only[fC] at h;simp only[iv];exact bR h
 refine ⟨bR,h1, ?_⟩;intro h;cases v with
 |tuple cs=>obtain ⟨ds,_,h⟩:=h;exact aR (R:=fC j) (p:=iv n) (λa b=>h1) h
 |chan _=>trivial
 |func fn a b=>obtain ⟨gs,ds,_,h,dG⟩:=h;exact ⟨aR (R:=fC j) (p:=iv n) (λa b=>h1) h,aR (R:=fC j) (p:=iv n) (λa b=>h1) dG⟩
 |_=>simp only[de] at h;simp only[low];exact h1 h
def cj.below (j:cj) (n:Nat):cj:=λb=>if b<n then j b else ae
def q3 {j:cj} {n b:Nat} {e:kl} (h:j.below n b=J e):b<n/\j b=J e:=by
 grind [cj.below]
def KI {j:cj} {n b:Nat} {e:kl} (h:b<n) (bn:j b=J e):j.below n b=J e:=by grind [cj.below]
def zj {j:cj} {n:Nat} {v bz:af}:(eA j v bz->h7 n v->eA (j.below n) v bz)/\(fC j v bz->iv n v->fC (j.below n) v bz)/\(de j v bz->low n v->de (j.below n) v bz):=by
 have lM:∀{R S:af->af->Prop} {p:af->Prop},(∀a b,R a b->p a->S a b)->∀{l k:List af},bP R l k->(∀v∈l,p v)->bP S l k:=by
  intro R S p anf l;induction l with
  |nil=>intro k h _;cases k with|nil=>exact fs|cons _ _=>exact h.elim
  |cons a l a1=>
   intro k h bb;cases k with
   |nil=>exact h.elim
   |cons b k=>exact ⟨anf _ _ h.1 (bb a (by simp)),a1 h.2 λv aD=>bb v (by simp[aD])⟩
 have bm:∀v bz:af,kY j v bz->r4 n v->kY (j.below n) v bz:=by
  intro v bz h aR;unfold kY at h⊢;split at h
  ·obtain ⟨e,h1,ai,aT⟩:=h;exact ⟨e,h1,KI aR ai,aT⟩
  ·exact h.elim
 have bR:∀{v bz:af},eA j v bz->h7 n v->eA (j.below n) v bz:=by
  intro v bz h aR;cases v with
  |func _ _ _=>obtain ⟨bX,ds,e2,h⟩:=h;exact ⟨bX,ds,e2,lM (R:=kY j) (S:=kY (j.below n)) (p:=r4 n) bm h aR.2⟩
  |pointer a=>cases a with
   |none=>exact h
   |some a=>obtain ⟨e,h1,ai,aT⟩:=h;exact ⟨e,h1,KI aR ai,aT⟩
  |slice a l c=>cases a with
   |none=>exact h
   |some a=>obtain ⟨e,h1,ai,aT⟩:=h;exact ⟨e,h1,KI aR ai,aT⟩
  |map r=>cases r with
   |none=>exact h
   |some r=>obtain ⟨e,ai,aT⟩:=h;exact ⟨e,KI aR ai,aT⟩
  |_=>exact h
 have h1:∀{v bz:af},fC j v bz->iv n v->fC (j.below n) v bz:=by
  intro v bz h aR;cases v with
  |agg cs=>obtain ⟨ds,bX,h⟩:=h;exact ⟨ds,bX,lM (R:=eA j) (S:=eA (j.below n)) (p:=h7 n) (λa b=>bR) h aR⟩
  |_=>simp only[fC] at h⊢;simp only[iv] at aR;exact bR h aR
 refine ⟨bR,h1, ?_⟩;intro h aR;cases v with
 |tuple cs=>obtain ⟨ds,bX,h⟩:=h;exact ⟨ds,bX,lM (R:=fC j) (S:=fC (j.below n)) (p:=iv n) (λa b=>h1) h aR⟩
 |chan r=>cases r<;>exact h
 |func fn a b=>obtain ⟨gs,ds,bX,h,dG⟩:=h;exact ⟨gs,ds,bX,lM (R:=fC j) (S:=fC (j.below n)) (p:=iv n) (λa b=>h1) h aR.1,lM (R:=fC j) (S:=fC (j.below n)) (p:=iv n) (λa b=>h1) dG aR.2⟩
 |_=>simp only[de] at h⊢;simp only[low] at aR;exact h1 h aR
def bP.mapA {aK cg mI:Type} {R:cg->mI->Prop} (f:aK->cg) (g:aK->mI) (A:Array aK) (h:∀x∈A.toList,R (f x) (g x)):bP R (A.map f).toList (A.map g).toList:=by
 grind [ye,bP.map]
theorem ab0 {P : bI} {f : FuncId} {fn : Func} {args : Array af} {w : World} (bF : P.funcs[f]? = J fn) (aof : (fn.name == "runtime.NumGoroutine") = ak) (UX : fn.body.isNone = ak) : (callFunc f args).run P w = .ok (.enter f args) w := by
 grind [callFunc,kD,run_program,jE,nt]
theorem aeu {P:bI} {C:FuncId->Array af->Mem->af->Mem->Prop} {j:cj} {ap:bS->af} {o:Oper} {m m':Mem} {w:World} {v:af} {a:Act} (h:hR P C ap o m v m') (hO:h3 j ap a.eval o) (cY:Rel P j m w) (dV:WF m) (k2:xf P C)
  {K:Act->World->Prop} {Q:Exit->Act->World->Prop} (k1:∀bz w' c6,Post P j m w c6 m' w'->de c6 v bz->K (a.put o.dst bz) w'):o.wp P a w K Q:=by
 rcases aqQ h hO cY with ⟨n,bz,w',c6,aV,bB,bb,aD⟩|⟨f,args,ay,cW⟩
 ·unfold sM;rw[aV];rcases bB with rfl|⟨rfl,rfl⟩
  ·exact k1 bz w' c6 bb aD
  ·exact k1 undef w' c6 bb aD
 ·obtain ⟨x,dK,ts,first,captured,rW,an,rfl⟩:=ay;have c5:=hO x (by grind [dm,lh]);rw[an] at c5;obtain ⟨gs,ds,eM,h1,ai⟩:=c5;have uQ:bP (de j) (first++dK.map ap++captured).toList (gs++dK.map a.eval++ds).toList:=by
   simp only[Yu];refine bP.append (bP.append (h1.mono λ_ _=>de.wN) (bP.mapA _ _ _ λy aZ=> ?_)) (ai.mono λ_ _=>de.wN);exact hO y (by grind [dm,lh])
  obtain ⟨⟨fn,bF,aof,UX⟩,ans⟩:=k2 _ _ _ _ _ cW j w _ dV cY uQ;have kv:(execOp a.eval o).run P w= .ok (.enter f (gs++dK.map a.eval++ds)) w:=by
   grind [execOp,resolve,Deferred.ofValue,invoke,ab0]
  unfold sM;rw[kv,Oper.upon_enter];refine ans.mono ?_
  grind
end Go.aF
end
section
namespace Go.aF
def aq1 {ops:Array Oper} (h:vj ops=aa) {i:Nat} {o:Oper} (aM:ops[i]? =J o) {e:Edge} (he:e∈o.after) (aw:rC .any e=aa):e.on<i:=by
 grind [vj]
def V8 {ops:Array Oper} (h:vj ops=aa) {i x:Nat} {o y:Oper} (aM:ops[i]? =J o) (aZ:ops[x]? =J y) (an:x<i) (ay:sR ops y o=aa):gD (kp ops) i x=aa:=by
 grind [vj]
def Le (ops:Array Oper) (S:Nat->Prop):Prop:=∀a o,S a->ops[a]? =J o->∀e∈o.after,rC .any e=aa->S e.on
def tI (acc:Array Nat) (o:Oper):Array Nat:=acc.push (o.after.foldl (λs e=>if rC .any e then s|||2 ^ e.on|||acc.getD e.on 0 else s) 0)
def Good (ops:Array Oper) (i bits:Nat):Prop:=∀x,bits.testBit x=aa->∀S,Le ops S->(∀o,ops[i]? =J o->∀e∈o.after,rC .any e=aa->S e.on)->S x
def acP (acc:Array Nat):∀(l:List Edge) (s x:Nat),(l.foldl (λs e=>if rC .any e then s|||2 ^ e.on|||acc.getD e.on 0 else s) s).testBit x=aa->
  s.testBit x=aa\/∃e∈l,rC .any e=aa/\(x=e.on\/(acc.getD e.on 0).testBit x=aa)
 |[],s,x,h=> .inl h
 |e::l,s,x,h=>by
  simp only[List.foldl_cons] at h;rcases acP acc l _ x h with h|⟨cz,aaD,aw,an⟩
  ·grind
  grind
def acb {ops:Array Oper}:∀(l pre:List Oper) (acc:Array Nat),ops.toList=pre++l->acc.size=pre.length->(∀i,i<acc.size->Good ops i (acc.getD i 0))->
  ∀i,Good ops i ((l.foldl tI acc).getD i 0)
 |[],pre,acc,bb,bf,bs=>by
  intro i;by_cases az:i<acc.size
  ·grind
  ·simp only[List.foldl_nil];intro x an
   grind
 |o::l,pre,acc,bb,bf,bs=>by
  simp only[List.foldl_cons];refine acb l (pre++[o]) (tI acc o) (by grind) (by grind [tI]) ?_;intro i az;by_cases h:i<acc.size
  ·simp_all [tI,Array.getElem_push]
  ·have anS:i=acc.size:=by grind [tI]
   subst anS;have aop:ops[acc.size]? =J o:=by rw[<-Array.getElem?_toList,bb,bf];simp
   intro x an S k2 bg;have aw:(tI acc o).getD acc.size 0=o.after.foldl (λs e=>if rC .any e then s|||2 ^ e.on|||acc.getD e.on 0 else s) 0:=by simp[tI,Tp]
   rw[aw,<-Array.foldl_toList] at an;rcases acP acc _ 0 x an with bR|⟨e,he,jh,u1⟩
   ·grind
   ·have aoR:=bg o aop e (by grind) jh;rcases u1 with rfl|u1
    ·grind
    ·by_cases cF:e.on<acc.size
     ·exact bs e.on cF x u1 S k2 λo' mc cz aaD e5=>k2 e.on o' aoR mc cz aaD e5
     grind
def ab2 {ops:Array Oper} {i x:Nat} (h:gD (kp ops) i x=aa) {S:Nat->Prop} (k2:Le ops S) (bg:∀o,ops[i]? =J o->∀e∈o.after,rC .any e=aa->S e.on):S x:=by
 have aw:kp ops=ops.toList.foldl tI #[]:=by rw[show kp ops=ops.foldl tI #[] from rfl,<-Array.foldl_toList]
 have:=acb (ops:=ops) ops.toList [] #[] (by rfl) (by rfl) (by grind) i;rw[<-aw] at this;exact this x h S k2 bg
def WX {P:bI} {C:FuncId->Array af->Mem->af->Mem->Prop} {ops:List Oper} {B:Array Nat} {bY:Nat->Nat->af} {ms:Nat->Mem} {vs:Nat->af} {dA:Nat->Nat} (T:ys P C ops B 0 ops bY ms vs dA)
  (cW:pB C) (c5:∀o∈ops,∀x∈o.op.operands,nI x=aa) (bR:WF (ms 0)) (aR:∀t,low (ms 0).next (bY 0 t)):∀i,i<=ops.length->WF (ms i)/\(∀t,low (ms i).next (bY i t))/\(∀n,n<i->(ms n).next<=(ms (n+1)).next/\low (ms (n+1)).next (vs n))
 |0,_=>⟨bR,aR,λn bB=>by omega⟩
 |i+1,az=>by
  obtain ⟨h1,ai,aT⟩:=WX T cW c5 bR aR i (by omega);have aM:ops[i]? =J ops[i]:=by grind
  have aV:=T.run i ops[i] aM;have bF:=T.frame i ops[i] aM;simp only[lH] at aV bF;have hm:=c5 ops[i] (by simp);have step:low (ms (i+1)).next (vs i)/\WF (ms (i+1))/\(ms i).next<=(ms (i+1)).next:=by
   rcases aV with ⟨_,_,aD,lN⟩|⟨_,_,bb,lN⟩|⟨_,_,bb,lN⟩|⟨_,_,iK,bb,lN⟩|⟨_,_,bb⟩
   ·grind [Kz]
   ·rw[lN];exact w8 (.pure bb) h1 ai cW hm
   ·rw[lN];exact w8 (.read bb) h1 ai cW hm
   ·rw[lN];exact w8 (.new bb) h1 ai cW hm
   ·exact w8 (.fX bb) h1 ai cW hm
  refine ⟨step.2.1, ?_, ?_⟩
  ·rw[bF]
   grind [Ca,WO]
  grind
def acu {ms:Nat->Mem} {vs:Nat->af} {k:Nat} (h:∀n,n<k->(ms n).next<=(ms (n+1)).next/\low (ms (n+1)).next (vs n)):∀b a,a<=b->b<=k->(ms a).next<=(ms b).next
 |0,a,h1,ai=>by grind
 |b+1,a,h1,ai=>by
  by_cases e:a=b+1
  ·grind
  ·exact jd (acu h b a (by omega) (by omega)) (h b (by omega)).1
def Wj {P:bI} {C:FuncId->Array af->Mem->af->Mem->Prop} {ops:List Oper} {B:Array Nat} {bY:Nat->Nat->af} {ms:Nat->Mem} {vs:Nat->af} {dA:Nat->Nat} (T:ys P C ops B 0 ops bY ms vs dA) (t:Nat):
  ∀i,i<=ops.length->((∃x o,x<i/\ops[x]? =J o/\o.dst=J t/\bY i t=vs x/\∀y p,x<y->y<i->ops[y]? =J p->p.dst≠J t)\/
   ((∀x o,x<i->ops[x]? =J o->o.dst≠J t)/\bY i t=bY 0 t))
 |0,_=> .inr ⟨λx o an=>by omega,rfl⟩
 |i+1,az=>by
  have aM:ops[i]? =J ops[i]:=by grind
  have bF:=T.frame i ops[i] aM;simp only[lH] at bF;by_cases bg:ops[i].dst=J t
  ·left;refine ⟨i,ops[i],by omega,aM,bg, ?_,λy p h1 ai=>by omega⟩
   grind [set]
  ·have he:bY (i+1) t=bY i t:=by
    rw[bF];cases mU:ops[i].dst with
    |none=>rfl
    |some d=>
     grind [set]
   rcases Wj T t i (by omega) with ⟨x,o,h1,ai,aT,br,cK⟩|⟨h1,ai⟩
   ·grind
   grind
def Ku {P:bI} {C:FuncId->Array af->Mem->af->Mem->Prop} {ops:List Oper} {B:Array Nat} {bY:Nat->Nat->af} {ms:Nat->Mem} {vs:Nat->af} {dA:Nat->Nat} (T:ys P C ops B 0 ops bY ms vs dA) {s:Nat}:
  ∀z,s<=z->z<=ops.length->(∀e,s<=e->e<z->dA e≠4)->(∀b,b<(ms s).next->(ms z).blk b=(ms s).blk b)/\
   (∀x,s<=x->x<z->dA x=3->∀o iK,ops[x]? =J o->ms (x+1)=(ms x).push iK->(ms z).blk (ms x).next=iK)/\(∀x,s<=x->x<z->(ms x).next<=(ms z).next/\(dA x=3->(ms x).next<(ms z).next))
 |z,cN,bx,gT=>by
  induction z with
  |zero=>
   have:s=0:=by omega
   subst this;exact ⟨λ_ _=>rfl,λx h1 ai=>by omega,λx h1 ai=>by omega⟩
  |succ z a1=>
   by_cases bf:s=z+1
   ·subst bf;exact ⟨λ_ _=>rfl,λx h1 ai=>by omega,λx h1 ai=>by omega⟩
   ·obtain ⟨h1,ai,aT⟩:=a1 (by omega) (by omega) (λe wh axV=>gT e wh (by omega));have aM:ops[z]? =J ops[z]:=by grind
    have aV:=T.run z ops[z] aM;simp only[lH] at aV;have aa6:(ms s).next<=(ms z).next:=by
     grind
    have same:ms (z+1)=ms z->dA z≠3->(∀b,b<(ms s).next->(ms (z+1)).blk b=(ms s).blk b)/\(∀x,s<=x->x<z+1->dA x=3->∀o iK,ops[x]? =J o->ms (x+1)=(ms x).push iK->(ms (z+1)).blk (ms x).next=iK)/\(∀x,s<=x->x<z+1->(ms x).next<=(ms (z+1)).next/\(dA x=3->(ms x).next<(ms (z+1)).next)):=λhe hk=>⟨λb aw=>by grind,
     λx VE VF lL o iK rW hm=>by
      grind,
     λx VE VF=>by
      grind⟩
    rcases aV with ⟨hk,_,aD,lN⟩|⟨hk,_,bb,lN⟩|⟨hk,_,bb,lN⟩|⟨hk,_,iK,bb,lN⟩|⟨hk,_,bb⟩
    ·grind
    ·grind
    ·grind
    ·refine ⟨λb aw=> ?_,λx VE VF lL o AT rW hm=> ?_,λx VE VF=> ?_⟩
     ·grind [Mem.push]
     ·grind [Mem.push]
     grind [Mem.push]
    grind
end Go.aF
end
section
namespace Go.aF
def Rel.place {P:bI} {j:cj} {M:Mem} {w w':World} {fz:Nat} {X:bW} {e:kl} {ob:Obj} (h:Rel P j M w) (bB:j fz=ae) (aw:fz<M.next) (N:AF P j w w' X e ob):
  Rel P (j.up fz e) (M.put fz X) w':=by
 have hle:=cj.P9 (e:=e) bB;have hold:∀c,c<w.heap.size->w'.heap[c]? =w.heap[c]? :=λc ay=>by rw[N.heap,Array.getElem?_push,if_neg (by omega)]
 have VA:w'.heap.size=w.heap.size+1:=by rw[N.heap];simp
 have nE:w'.heap[w.heap.size]? =J ob:=by rw[N.heap];simp
 have hblk:∀b,b≠fz->(M.put fz X).blk b=M.blk b:=λb aw=>by grind [Mem.put]
 have aoD:(M.put fz X).blk fz=X:=by simp[Mem.put]
 have hb:∀b x,j.up fz e b=J x->b≠fz->j b=J x:=λb x aw gT=>by grind [cj.up]
 have wz:∀x,j.up fz e fz=J x->x=e:=λx an=>by grind [cj.up]
 refine ⟨⟨?_, ?_, ?_⟩,h.mE.val.keep λg bs=>hold g (h.mE.val.lt bs),λb x e5 aM bs=> ?_⟩
 rotate_right
 ·by_cases jh:b=fz
  ·subst jh;have:=h.mE.val.lt bs;rw[wz x e5,N.blk] at this;omega
  ·rw[hblk b jh] at aM;exact h.mE.sep b x (hb b x e5 jh) aM bs
 ·intro b x e5;by_cases jh:b=fz
  ·subst jh;have:=wz x e5;subst this;exact ⟨aw,by rw[N.blk];omega⟩
  ·have:=h.lt b x (hb b x e5 jh);exact ⟨this.1,by omega⟩
 ·intro b x e5;by_cases jh:b=fz
  ·subst jh;have an:=wz x e5;subst an;rw[aoD,N.blk,nE];exact N.obj.mono hle
  ·have nA:=hb b x e5 jh;rw[hblk b jh,hold _ (h.lt b x nA).2];exact (h.obj b x nA).mono hle
 ·intro b dJ x jL aax aay aM hB qV;by_cases jh:b=fz
  ·by_cases s0:dJ=fz
   ·grind
   ·have an:x=e:=by grind
    have:=(h.lt dJ jL (hb dJ jL aay s0)).2;rw[<-qV,an,N.blk] at this;omega
  ·have nA:=hb b x aax jh;by_cases s0:dJ=fz
   ·have an:jL=e:=by grind
    have:=(h.lt b x nA).2;rw[qV,an,N.blk] at this;omega
   ·rw[hblk b jh] at aM;rw[hblk dJ s0] at hB;exact h.inj b dJ x jL nA (hb dJ jL aay s0) aM hB qV
def ap6 {P:bI} {j:cj} {n:Nat} {bA:bV} {cs:List af} {bz:af} (h:fC j (ey (ek P bA) cs) bz) (aR:∀c∈cs,h7 n c):fC (j.below n) (ey (ek P bA) cs) bz:=by
 refine zj.2.1 h ?_;cases bl:ek P bA with
 |true=>grind [ey,iv]
 |false=>
  cases cs with
  |nil=>grind [ey,fC,eA,undef]
  |cons c cs=>exact KQ (aR c (by simp))
def qI.below {P:bI} {j:cj} {n:Nat} {e:kl} {o:Option Obj} {x:bW} (h:qI P j e o x) (aR:qe n x):qI P (j.below n) e o x:=by
 cases x with
 |dead=>trivial
 |ro rd=>intro i v az;obtain ⟨cs,t,bZ,bz,h1,ai,aT⟩:=h i v az;exact ⟨cs,t,bZ,bz,h1,ai,zj.1 aT (aR i v az)⟩
 |own L t=>obtain ⟨cs,bZ,h1,ai,aT,br,cK,fJ⟩:=h;refine ⟨cs,bZ,h1,ai,aT,br,cK,λi v az=> ?_⟩;obtain ⟨bz,g1,g2⟩:=fJ i v az;exact ⟨bz,g1,zj.1 g2 (aR v (mM az))⟩
 |lock _ _ _ _=>exact h.elim
 |map L u=>
  obtain ⟨bG,bA,cs,clock,E,h1,ai,aT,br,cK⟩:=h;have bp:∀p∈E,∀c∈p.2,h7 n c:=λp bb c ay=>aR c (by rw[aT.eq];grind);refine ⟨bG,bA,cs,clock,E,h1,ai,aT, ?_,cK⟩;clear h1 aT aR cK;generalize cs.toList=cl at br;induction E generalizing cl with
  |nil=>cases cl with
   |nil=>trivial
   |cons _ _=>exact br.elim
  |cons p E a1=>
   cases cl with
   |nil=>exact br.elim
   |cons x cl=>exact ⟨⟨br.1.1,br.1.2.1,ap6 br.1.2.2 (bp p (by simp))⟩,a1 (λq bm=>bp q (by grind)) cl br.2⟩
def Rel.below {P:bI} {j:cj} {M m:Mem} {w:World} (h:Rel P j M w) (dV:WF m) (bl:∀b e,j b=J e->b<m.next->M.blk b=m.blk b):Rel P (j.below m.next) m w:=by
 refine ⟨⟨?_, ?_, ?_⟩,h.mE.val,λb e aw aM=>by obtain ⟨h1,ai⟩:=q3 aw;exact h.mE.sep b e ai (by grind)⟩
 ·intro b e aw;obtain ⟨h1,ai⟩:=q3 aw;exact ⟨h1,(h.lt b e ai).2⟩
 ·intro b e aw;obtain ⟨h1,ai⟩:=q3 aw;rw[<-bl b e ai h1];exact (h.obj b e ai).below (by rw[bl b e ai h1];exact dV.low b)
 ·intro b dJ e cz aw e5 aM aR uS;obtain ⟨h1,ai⟩:=q3 aw;obtain ⟨rN,nx⟩:=q3 e5;exact h.inj b dJ e cz ai nx (by grind) (by grind) uS
def cj.join (hM:cj) (n:Nat) (j:cj):cj:=λb=>if b<n then hM b else j b
def Mem.join (m1:Mem) (M:Mem):Mem:={next:=M.next,blk:=λb=>if b<m1.next then m1.blk b else M.blk b}
def Rel.join {P:bI} {j hM:cj} {M m m1:Mem} {w w':World} (h:Rel P j M w) (bl:∀b e,j b=J e->b<m.next->M.blk b=m.blk b) (p:Post P (j.below m.next) m w hM m1 w')
  (bs:∀b e,j b=J e->b<m.next\/m1.next<=b) (JL:m1.next<=M.next):
  Rel P (hM.join m1.next j) (m1.join M) w'/\(∀b e,j b=J e->hM.join m1.next j b=J e)/\(∀b e,hM b=J e->hM.join m1.next j b=J e):=by
 have bB:=p.next;have zR:∀b e,hM b=J e->hM.join m1.next j b=J e:=λb e aw=>by
  have:=(p.rel.lt b e aw).1
  grind [cj.join]
 have ayF:∀b,b<m.next->hM b=j b:=λb aw=>by rw[p.ext b aw];grind [cj.below]
 have up:∀b e,j b=J e->hM.join m1.next j b=J e:=λb e aw=>by
  grind [cj.join]
 have split:∀b e,hM.join m1.next j b=J e->(b<m1.next/\hM b=J e)\/(m1.next<=b/\j b=J e):=λb e aw=>by
  grind [cj.join]
 have Je:∀b,b<m1.next->(m1.join M).blk b=m1.blk b:=λb aw=>by grind [Mem.join]
 have Jf:∀b,m1.next<=b->(m1.join M).blk b=M.blk b:=λb aw=>by grind [Mem.join]
 have amL:∀b e,j b=J e->m1.next<=b->(M.blk b).live=aa->w'.heap[e.blk]? =w.heap[e.blk]? :=λb e aw hA aR=>by refine p.gd.block e.blk (h.lt b e aw).2 λfz eV qP aM he=> ?_;obtain ⟨h1,ai⟩:=q3 qP;have:=h.inj fz b eV e ai aw (by grind) aR he;omega
 refine ⟨⟨⟨?_, ?_, ?_⟩,p.rel.mE.val,λb e aw aM=> ?_⟩,up,zR⟩
 rotate_right
 ·rcases split b e aw with ⟨h1,ai⟩|⟨h1,ai⟩
  ·rw[Je b h1] at aM;exact p.rel.mE.sep b e ai aM
  ·rw[Jf b h1] at aM;exact h.mE.sep b e ai aM
 ·intro b e aw;rcases split b e aw with ⟨h1,ai⟩|⟨h1,ai⟩
  ·exact ⟨by grind [Mem.join],(p.rel.lt b e ai).2⟩
  ·have:=h.lt b e ai;exact ⟨this.1,hS this.2 p.gd.size⟩
 ·intro b e aw;rcases split b e aw with ⟨h1,ai⟩|⟨h1,ai⟩
  ·rw[Je b h1];exact (p.rel.obj b e ai).mono zR
  ·rw[Jf b h1];cases aR:(M.blk b).live with
   |false=>
    cases aw:M.blk b<;>simp[aw,bW.live] at aR
    trivial
   |true=>rw[amL b e ai h1 aR];exact (h.obj b e ai).mono up
 ·
  have axh:∀b dJ e cz,b<m1.next->hM b=J e->m1.next<=dJ->j dJ=J cz->(M.blk dJ).live=aa->(((m1.blk b).iO=aa)\/((M.blk dJ).iO=aa/\(m1.blk b).live=aa))->e.blk≠cz.blk:=by
   intro b dJ e cz h1 ai rN nx hB Vt uS;rcases mq b m.next with cF|hA
   ·have nA:j b=J e:=by grind
    have axN:b=dJ:=by
     rcases Vt with aM|⟨mc,aR⟩
     ·exact h.inj b dJ e cz nA nx (by rw[bl b e nA cF];exact p.ew b cF aM) hB uS
     ·exact (h.inj dJ b cz e nx nA mc (by rw[bl b e nA cF];exact p.alive b cF aR) uS.symm).symm
    omega
   ·rcases p.fresh b e ai hA with bF|⟨fz,eV,qP,wu,aaE⟩
    ·have:=(h.lt dJ cz nx).2;omega
    ·obtain ⟨g1,g2⟩:=q3 qP;have:=h.inj fz dJ eV cz g2 nx (by grind) hB (by grind);omega
  intro b dJ e cz aw e5 aM aR uS;rcases split b e aw with ⟨h1,ai⟩|⟨h1,ai⟩<;>rcases split dJ cz e5 with ⟨rN,nx⟩|⟨rN,nx⟩
  ·rw[Je b h1] at aM;rw[Je dJ rN] at aR;exact p.rel.inj b dJ e cz ai nx aM aR uS
  ·grind
  ·grind [bW.iO,bW.live]
  ·rw[Jf b h1] at aM;rw[Jf dJ rN] at aR;exact h.inj b dJ e cz ai nx aM aR uS
end Go.aF
end
section
namespace Go.aF
structure Ctx (P:bI) (C:FuncId->Array af->Mem->af->Mem->Prop) (ops:Array Oper) (N:Nat) (bY:Nat->Nat->af) (ms:Nat->Mem) (vs:Nat->af) (dA:Nat->Nat) (gj:cj) (ez:World):Prop where
 T:ys P C ops.toList (kp ops) 0 ops.toList bY ms vs dA
 ok:vj ops=aa
 Kl:∀o∈ops.toList,∀x∈o.op.operands,nI x=aa
 dst:∀o∈ops.toList,∀d,o.dst=J d->d<N
 keeps:pB C
 sound:xf P C
 ed:Rel P gj (ms 0) ez
 afx:WF (ms 0)
 h7:∀t,low (ms 0).next (bY 0 t)
structure hK (P:bI) (ops:Array Oper) (ds:List Deferred) (N:Nat) (bY:Nat->Nat->af) (ms:Nat->Mem) (vs:Nat->af) (dA:Nat->Nat) (gj:cj) (ez:World) (listed:Array Bool) (a:Act) (w:World) (s:Nat) (M:Mem) (j:cj):Prop where
 size:listed.size=ops.size
 closed:Le ops (λi=>listed.getD i ak=aa)
 sle:s<=ops.size
 last:s=0\/dA (s - 1)=4
 iC:∀i,i<ops.size->dA i=4->(listed.getD i ak=aa↔i<s)
 rel:Rel P j M w
 AX:M.next=(ms ops.size).next
 agree:∀b,b<(ms s).next->M.blk b=(ms s).blk b
 Jm:∀b e,j b=J e->b<(ms s).next\/∃i,s<=i/\i<ops.size/\listed.getD i ak=aa/\dA i=3/\b=(ms i).next
 xB:∀i,i<ops.size->dA i=3->listed.getD i ak=ak->j (ms i).next=ae
 Jt:∀i,s<=i->i<ops.size->listed.getD i ak=aa->dA i=3->∀iK,ms (i+1)=(ms i).push iK->M.blk (ms i).next=iK
 defers:a.defers=ds
 tmps:a.tmps.size=N
 cur:∀t,(∃i o,ops[i]? =J o/\listed.getD i ak=aa/\o.dst=J t/\(∀x p,i<x->ops[x]? =J p->listed.getD x ak=aa->p.dst≠J t)/\de j (vs i) (a.tmps.getD t undef))\/
  ((∀x p,ops[x]? =J p->listed.getD x ak=aa->p.dst≠J t)/\de j (bY 0 t) (a.tmps.getD t undef))
 gd:sC gj (ms 0) ez w
 ext:∀b,b<(ms 0).next->j b=gj b
 fresh:∀b e,j b=J e->(ms 0).next<=b->ez.heap.size<=e.blk\/∃fz eV,gj fz=J eV/\((ms 0).blk fz).iO=aa/\eV.blk=e.blk
 ew:∀b,b<(ms 0).next->(M.blk b).iO=aa->((ms 0).blk b).iO=aa
 alive:∀b,b<(ms 0).next->(M.blk b).live=aa->((ms 0).blk b).live=aa
section
variable {P:bI} {C:FuncId->Array af->Mem->af->Mem->Prop} {ops:Array Oper} {N:Nat} {bY:Nat->Nat->af} {ms:Nat->Mem} {vs:Nat->af} {dA:Nat->Nat} {gj:cj} {ez:World}
def Ctx.wf (X:Ctx P C ops N bY ms vs dA gj ez):∀i,i<=ops.size->WF (ms i)/\(∀t,low (ms i).next (bY i t)):=λi az=>by
 have:=WX X.T X.keeps X.Kl X.afx X.h7 i (by grind)
 grind
def Ctx.mono (X:Ctx P C ops N bY ms vs dA gj ez):∀a b,a<=b->b<=ops.size->(ms a).next<=(ms b).next:=λa b h1 ai=>by
 have:=WX X.T X.keeps X.Kl X.afx X.h7 ops.size (by simp);exact acu this.2.2 b a h1 ai
def Ctx.run (X:Ctx P C ops N bY ms vs dA gj ez) {i:Nat} {o:Oper} (aM:ops[i]? =J o):XJ P C ops.toList o (bY i) (ms i) (vs i) (ms (i+1)) (dA i):=by
 have:=X.T.run i o (by grind)
 grind
def Ctx.new (X:Ctx P C ops N bY ms vs dA gj ez) {i:Nat} (az:i<ops.size) (hk:dA i=3):∃o iK,ops[i]? =J o/\jC P (bk (bY i)) o (ms i).next iK (vs i)/\ms (i+1)=(ms i).push iK:=by
 have aM:ops[i]? =J ops[i]:=by grind
 rcases X.run aM with ⟨lL,_⟩|⟨lL,_⟩|⟨lL,_⟩|⟨_,_,iK,bb,hm⟩|⟨lL,_⟩
 ·omega
 ·omega
 ·omega
 ·grind
 grind
def Ctx.BG (X:Ctx P C ops N bY ms vs dA gj ez) {i:Nat} (az:i<ops.size) (hk:dA i=3):(ms i).next<(ms (i+1)).next:=by
 obtain ⟨o,iK,_,_,hm⟩:=X.new az hk
 grind [Mem.push]
theorem Wt {ap:bS->af} {o:Oper} {m m':Mem} {v:af} (h:hR P C ap o m v m'):lT o.op=aa:=by
 cases h with
 |call f args v m' h cW=>obtain ⟨x,dK,ts,first,captured,h,_⟩:=h;grind [lT]
 |mapUpdate hZ x jW j3 u bG bA b L eo vc E E' ho h=>grind [lT]
 |_=>grind [lT]
 all_goals simp[*,lT]
def Ctx.abc (X:Ctx P C ops N bY ms vs dA gj ez) {i:Nat} {o:Oper} (aM:ops[i]? =J o) (hk:dA i=4):lT o.op=aa:=by
 rcases X.run aM with ⟨lL,_⟩|⟨lL,_⟩|⟨lL,_⟩|⟨lL,_⟩|⟨_,_,bb⟩
 ·omega
 ·omega
 ·omega
 ·omega
 grind [Wt]
variable {ds:List Deferred} {listed:Array Bool} {a:Act} {w:World} {s:Nat} {M:Mem} {j:cj}
def hK.T2 (X:Ctx P C ops N bY ms vs dA gj ez) (D:hK P ops ds N bY ms vs dA gj ez listed a w s M j) {z:Nat} (cN:s<=z) (bx:z<=ops.size) (gT:∀e,s<=e->e<z->dA e≠4):
  ∀b e,j b=J e->b<(ms z).next->M.blk b=(ms z).blk b:=by
 obtain ⟨g1,g2,g3⟩:=Ku X.T z cN (by grind) gT;intro b e aw cF;rcases mq b (ms s).next with h|h
 ·rw[D.agree b h,g1 b h]
 ·rcases D.Jm b e aw with dG|⟨i,h1,ai,aT,br,rfl⟩
  ·omega
  ·have anT:i<z:=by
    rcases mq i z with h|h
    ·grind
    ·have:=X.mono z i h (by omega);omega
   obtain ⟨o,iK,aM,_,hm⟩:=X.new ai br;rw[D.Jt i h1 ai aT br iK hm,g2 i h1 anT br o iK (by grind) hm]
def hK.ot (X:Ctx P C ops N bY ms vs dA gj ez) (D:hK P ops ds N bY ms vs dA gj ez listed a w s M j) {z:Nat} (cN:s<=z) (bx:z<=ops.size) (gT:∀e,s<=e->e<z->dA e≠4):uq P j (ms z) w:=by
 have eL:=D.T2 X cN bx gT;have dV:=(X.wf z bx).1;have aV:=D.rel.ot;refine ⟨λb e o v aw aD=> ?_,λb e L t aw aR=> ?_,λb e L u aw aR=> ?_,aV.mE⟩
 ·have cF:b<(ms z).next:=dV.lt (by grind [Mem.load]);refine aV.load b e o v aw ?_
  grind [Mem.load]
 ·have cF:b<(ms z).next:=dV.lt (by grind);exact aV.own b e L t aw (by grind)
 ·have cF:b<(ms z).next:=dV.lt (by grind);exact aV.map b e L u aw (by grind)
structure nr (ops:Array Oper) (listed:Array Bool) (i:Nat) (o:Oper):Prop where
 at_:ops[i]? =J o
 not:listed.getD i ak=ak
 Z6:∀e∈o.after,rC .any e=aa->listed.getD e.on ak=aa
def nr.gD (D:hK P ops ds N bY ms vs dA gj ez listed a w s M j) {i:Nat} {o:Oper} (R:nr ops listed i o) {x:Nat} (h:aF.gD (kp ops) i x=aa):listed.getD x ak=aa:=
 ab2 h D.closed λo' mc=>by rw[R.at_] at mc;cases mc;exact R.Z6
def hK.T3 (D:hK P ops ds N bY ms vs dA gj ez listed a w s M j) {i x:Nat} (az:listed.getD i ak=aa) (h:aF.gD (kp ops) i x=aa):listed.getD x ak=aa:=
 ab2 h D.closed λo' mc=>D.closed i o' az mc
def nr.afy (X:Ctx P C ops N bY ms vs dA gj ez) (D:hK P ops ds N bY ms vs dA gj ez listed a w s M j) {i:Nat} {o:Oper} (R:nr ops listed i o) {t:Nat} (aJ:t∈vh ops o) {x:Nat} {p:Oper} (bb:ops[x]? =J p) (bg:p.dst=J t):
  (listed.getD x ak=aa↔x<i)\/x=i:=by
 rcases TJ x i with h|h|h
 ·left;refine ⟨λ_=>h,λ_=> ?_⟩;refine R.gD D (V8 X.ok R.at_ bb h ?_)
  grind [sR]
 ·grind
 ·left;refine ⟨λaR=> ?_,λdG=>by omega⟩;have:listed.getD i ak=aa:=D.T3 aR (V8 X.ok bb R.at_ h (by grind [sR]));rw[R.not] at this
  grind
def hK.slot (X:Ctx P C ops N bY ms vs dA gj ez) (D:hK P ops ds N bY ms vs dA gj ez listed a w s M j) {i:Nat} {o:Oper} (R:nr ops listed i o) {t:Nat} (aJ:t∈vh ops o):de j (bY i t) (a.tmps.getD t undef):=by
 have az:i<ops.size:=(Ij.1 R.at_).1;have hw:=λ{x:Nat} {p:Oper} (bb:ops[x]? =J p) (bg:p.dst=J t)=>R.afy X D aJ bb bg;have wz:∀{x:Nat},x=i->listed.getD x ak=aa->False:=λan aR=>by subst an;rw[R.not] at aR;grind
 rcases Wj X.T t i (by grind) with ⟨x,p,h1,ai,aT,br,cK⟩|⟨h1,ai⟩
 ·have nx:ops[x]? =J p:=by grind
  have Vj:listed.getD x ak=aa:=by
   grind
  rcases D.cur t with ⟨y,q,g1,g2,g3,g4,g5⟩|⟨g1,_⟩
  ·grind [TJ]
  grind
 ·rcases D.cur t with ⟨y,q,g1,g2,g3,g4,g5⟩|⟨_,g2⟩
  ·grind
  grind
def Xw {fr:Nat->af} {a:Act} {j:cj} {x:bS} (an:nI x=aa) (h:∀t,x= .tmp t->de j (fr t) (a.tmps.getD t undef)):de j (bk fr x) (a.eval x):=by
 cases x with
 |tmp t=>exact h t rfl
 |const v=>exact acZ an
 |global g=>show af.pointer _=_;rw[show g*4096 / 4096=g by omega,show g*4096%4096=0 by omega]
 |func f=>exact ⟨#[],#[],rfl,fs,fs⟩
def hK.apL (X:Ctx P C ops N bY ms vs dA gj ez) (D:hK P ops ds N bY ms vs dA gj ez listed a w s M j) {i:Nat} {o:Oper} (R:nr ops listed i o):h3 j (bk (bY i)) a.eval o:=by
 intro x an;have hm:o∈ops.toList:=by have:=Array.mem_of_getElem? R.at_;grind
 refine Xw (X.Kl o hm x an) λt aJ=>D.slot X R ?_;subst aJ;simp only[vh,kU,List.mem_filterMap];exact .inl (.inl ⟨.tmp t,by grind,rfl⟩)
theorem aqI {j:cj} {v bz:af} (h:de j v bz) (aw:∀b,v≠ .bool b):∀b,bz≠ .bool b:=by
 intro b iF;subst iF;cases v with
 |bool dJ=>grind
 |pointer q=>cases q with
  |none=>cases h
  |some q=>obtain ⟨e,_,_,h⟩:=h;grind
 |slice q l c=>cases q with
  |none=>cases h
  |some q=>obtain ⟨e,_,_,h⟩:=h;grind
 |map r=>cases r with
  |none=>cases h
  |some r=>obtain ⟨e,_,h⟩:=h;grind
 |agg cs=>obtain ⟨ds,h,_⟩:=h;grind
 |tuple cs=>obtain ⟨ds,h,_⟩:=h;grind
 |func fn f c=>obtain ⟨ds,es,h,_⟩:=h;grind
 |chan r=>cases r with
  |none=>exact h b rfl
  |some k=>cases h
 |iface _ _=>exact h
 |_=>cases h
def acO {ops:Array Oper} {N:Nat} {fr:Nat->af} {a:Act} {j:cj} {o:Oper} (oM:a.tmps.size=N) (uR:∀p∈ops.toList,∀d,p.dst=J d->d<N) (h:∀g w d,o.guard=J (g,w)->(ops[g]?).bind (·.dst)=J d->de j (fr d) (a.tmps.getD d undef)):
  qK o (yielded ops a.tmps)=wanted ops.toList fr o:=by
 unfold qK wanted;cases bs:o.guard with
 |none=>rfl
 |some am0=>
  obtain ⟨g,want⟩:=am0;simp only[yielded,Array.getElem?_toList];cases bg:(ops[g]?).bind (·.dst) with
  |none=>rfl
  |some d=>
   have aD:=h g want d bs bg;have cF:d<a.tmps.size:=by
    grind
   have U8:a.tmps[d]? =J (a.tmps.getD d undef):=by simp_all
   simp only[Option.bind_some,U8];by_cases aw:∃b,fr d= .bool b
   ·obtain ⟨b,aw⟩:=aw;rw[aw] at aD;rw[aw,aD.bool];rfl
   grind [aqI]
theorem hK.wanted (X:Ctx P C ops N bY ms vs dA gj ez) (D:hK P ops ds N bY ms vs dA gj ez listed a w s M j) {i:Nat} {o:Oper} (R:nr ops listed i o):qK o (yielded ops a.tmps)=aF.wanted ops.toList (bY i) o:=by
 refine acO D.tmps X.dst λg azj d bs bg=>D.slot X R ?_
 grind [vh]
end
end Go.aF
end
section
namespace Go.aF
theorem mC {A:Array Bool} {i x:Nat} (az:i<A.size):((A.setIfInBounds i aa).getD x ak=aa)↔(x=i\/A.getD x ak=aa):=by
 simp only[Tp,afN];by_cases an:x<A.size
 ·simp only[an,dite_true];by_cases VG:x=i
  ·simp_all
  simp_all [Ne.symm]
 grind
theorem Kw {A:Array Bool} {i x:Nat} (az:i<A.size) (h:(A.setIfInBounds i aa).getD x ak=ak):x≠i/\A.getD x ak=ak:=by
 grind [mC]
def vi {a:Act} {d:Option Tmp} {v:af}:(a.put d v).tmps.size=a.tmps.size/\(a.put d v).defers=a.defers:=by
 cases d<;>simp[qB]
theorem Xe {a:Act} {d t:Nat} {v:af} (bg:d<a.tmps.size):(a.put (J d) v).tmps.getD t undef=if t=d then v else a.tmps.getD t undef:=by
 simp only[qB,Tp,afN];by_cases aJ:t=d
 ·simp_all
 simp_all [Ne.symm]
section
variable {P:bI} {C:FuncId->Array af->Mem->af->Mem->Prop} {ops:Array Oper} {N:Nat} {bY:Nat->Nat->af} {ms:Nat->Mem} {vs:Nat->af} {ds:List Deferred} {dA:Nat->Nat} {gj:cj} {ez:World}
variable {listed:Array Bool} {a:Act} {w:World} {s:Nat} {M:Mem} {j:cj}
def nr.lt {i:Nat} {o:Oper} (R:nr ops listed i o):i<ops.size:=(Ij.1 R.at_).1
def hK.Uc (D:hK P ops ds N bY ms vs dA gj ez listed a w s M j) {i:Nat} {o:Oper} (R:nr ops listed i o):Le ops (λx=>(listed.setIfInBounds i aa).getD x ak=aa):=by
 have az:i<listed.size:=by rw[D.size];exact R.lt
 intro x p an bb e he aw;refine (mC az).2 (.inr ?_);rcases (mC az).1 an with rfl|an
 ·rw[R.at_] at bb;cases bb;exact R.Z6 e he aw
 ·exact D.closed x p an bb e he aw
def hK.Uf (X:Ctx P C ops N bY ms vs dA gj ez) (D:hK P ops ds N bY ms vs dA gj ez listed a w s M j) {i:Nat} {o:Oper} (R:nr ops listed i o) {c6:cj} (hb:∀b e,j b=J e->c6 b=J e) {bz:af} (aD:de c6 (vs i) bz):
  ∀t,(∃x p,ops[x]? =J p/\(listed.setIfInBounds i aa).getD x ak=aa/\p.dst=J t/\(∀y q,x<y->ops[y]? =J q->(listed.setIfInBounds i aa).getD y ak=aa->q.dst≠J t)/\de c6 (vs x) ((a.put o.dst bz).tmps.getD t undef))\/
  ((∀x p,ops[x]? =J p->(listed.setIfInBounds i aa).getD x ak=aa->p.dst≠J t)/\de c6 (bY 0 t) ((a.put o.dst bz).tmps.getD t undef)):=by
 have az:i<listed.size:=by rw[D.size];exact R.lt
 have JR:o∈ops.toList:=by have:=Array.mem_of_getElem? R.at_;grind
 intro t;by_cases bg:o.dst=J t
 ·left;refine ⟨i,o,R.at_,(mC az).2 (.inl rfl),bg,λy q aZ bm aR yW=> ?_, ?_⟩
  ·rcases (mC az).1 aR with h|h
   ·omega
   ·have aJ:t∈vh ops o:=by grind [vh]
    rcases R.afy X D aJ bm yW with dG|dG
    ·grind
    grind
  ·have cF:t<a.tmps.size:=by rw[D.tmps];exact X.dst o JR t bg
   grind [Xe]
 ·have aoP:(a.put o.dst bz).tmps.getD t undef=a.tmps.getD t undef:=by
   cases mU:o.dst with
   |none=>rfl
   |some d=>
    have cF:d<a.tmps.size:=by rw[D.tmps];exact X.dst o JR d mU
    grind [Xe]
  rw[aoP];rcases D.cur t with ⟨x,p,g1,g2,g3,g4,g5⟩|⟨g1,g2⟩
  ·left;refine ⟨x,p,g1,(mC az).2 (.inr g2),g3,λy q aZ bm aR=> ?_,g5.mono hb⟩;rcases (mC az).1 aR with h|h
   ·subst h;rw[R.at_] at bm;grind
   grind
  ·right;refine ⟨λy q bm aR=> ?_,g2.mono hb⟩;rcases (mC az).1 aR with h|h
   ·subst h;rw[R.at_] at bm;grind
   grind
def hK.quiet (X:Ctx P C ops N bY ms vs dA gj ez) (D:hK P ops ds N bY ms vs dA gj ez listed a w s M j) {i:Nat} {o:Oper} (R:nr ops listed i o) (aaP:dA i≠3) (anW:dA i≠4) {bz:af} (aD:de j (vs i) bz):
  hK P ops ds N bY ms vs dA gj ez (listed.setIfInBounds i aa) (a.put o.dst bz) w s M j:=by
 have az:i<listed.size:=by rw[D.size];exact R.lt
 refine ⟨by simp[D.size],D.Uc R,D.sle,D.last, ?_,D.rel,D.AX,D.agree, ?_, ?_, ?_,by rw[vi.2];exact D.defers,by rw[vi.1];exact D.tmps,D.Uf X R (λ_ _ h=>h) aD,D.gd,D.ext,D.fresh,D.ew,D.alive⟩
 ·intro x an hk;rw[mC az,<-D.iC x an hk]
  grind
 ·intro b e aw;rcases D.Jm b e aw with h|⟨x,h1,ai,aT,br,cK⟩
  ·grind
  grind [mC]
 ·intro x an hk aR;exact D.xB x an hk (Kw az aR).2
 ·intro x h1 ai aT br;rcases (mC az).1 aT with h|h
  ·grind
  ·exact D.Jt x h1 ai h br
def hK.seen (X:Ctx P C ops N bY ms vs dA gj ez) (D:hK P ops ds N bY ms vs dA gj ez listed a w s M j) {i:Nat} {o:Oper} (R:nr ops listed i o) (hk:dA i=3) {iK:bW} (hm:ms (i+1)=(ms i).push iK):
  ∀n,i<n->n<=s->(ms n).blk (ms i).next=iK:=by
 intro n;induction n with
 |zero=>grind
 |succ n a1=>
  intro h1 ai;have bf:=D.sle;by_cases s6:n=i
  ·grind [Mem.push]
  ·have ayk:=a1 (by omega) (by omega);have bB:n<ops.size:=by omega
   have aM:ops[n]? =J ops[n]:=by grind
   have cF:(ms i).next<(ms n).next:=hS (X.BG R.lt hk) (X.mono (i+1) n (by omega) (by omega));rcases X.run aM with ⟨_,_,_,lN⟩|⟨_,_,_,lN⟩|⟨_,_,_,lN⟩|⟨_,_,AT,_,lN⟩|⟨Bo,_,bb⟩
   ·grind
   ·grind
   ·grind
   ·grind [Mem.push]
   ·have an4:listed.getD n ak=aa:=(D.iC n bB Bo).2 (by omega);have lq:gD (kp ops) n i=ak:=by
     cases eL:gD (kp ops) n i with
     |false=>rfl
     |true=>have:=D.T3 an4 eL;rw[R.not] at this;grind
    have:=X.T.news i n (by grind) (by grind) (by grind) (by grind) (by omega) (by grind)
    grind
def hK.amQ (X:Ctx P C ops N bY ms vs dA gj ez) (D:hK P ops ds N bY ms vs dA gj ez listed a w s M j) {i:Nat} {o:Oper} (R:nr ops listed i o) (hk:dA i=3) {iK:bW} (hm:ms (i+1)=(ms i).push iK)
  {w':World} {e:kl} {ob:Obj} (vQ:AF P j w w' iK e ob) {bz:af} (aD:de (j.up (ms i).next e) (vs i) bz):
  hK P ops ds N bY ms vs dA gj ez (listed.setIfInBounds i aa) (a.put o.dst bz) w' s (M.put (ms i).next iK) (j.up (ms i).next e):=by
 have az:i<listed.size:=by rw[D.size];exact R.lt
 have aaI:=D.xB i R.lt hk R.not;have hle:=cj.P9 (e:=e) aaI;have cF:=X.BG R.lt hk;have JL:(ms i).next<M.next:=by rw[D.AX];exact hS cF (X.mono (i+1) ops.size R.lt (e4 _))
 have bR:(ms 0).next<=(ms i).next:=X.mono 0 i (pn _) (lG R.lt);have hb:∀b x,j.up (ms i).next e b=J x->b≠(ms i).next->j b=J x:=λb x aw gT=>by grind [cj.up]
 have hblk:∀b,b≠(ms i).next->(M.put (ms i).next iK).blk b=M.blk b:=λb aw=>by grind [Mem.put]
 have distinct:∀x,x<ops.size->dA x=3->x≠i->(ms x).next≠(ms i).next:=by
  intro x an n3 gT he;rcases mq x i with h|h
  ·have:=X.BG an n3;have:=X.mono (x+1) i (by omega) (lG R.lt);omega
  ·have:=X.mono (i+1) x (by omega) (lG an);omega
 refine ⟨by simp[D.size],D.Uc R,D.sle,D.last, ?_,D.rel.place aaI JL vQ,D.AX, ?_, ?_, ?_, ?_,by rw[vi.2];exact D.defers,by rw[vi.1];exact D.tmps,D.Uf X R hle aD, ?_, ?_, ?_, ?_, ?_⟩
 ·intro x an n3;rw[mC az,<-D.iC x an n3]
  grind
 ·intro b aw;by_cases pu:b=(ms i).next
  ·subst pu;have JM:i<s:=by
    rcases mq i s with h|h
    ·grind
    ·have:=X.mono s i h (lG R.lt);omega
   rw[D.seen X R hk hm s JM (e4 _)];simp[Mem.put]
  ·rw[hblk b pu];exact D.agree b aw
 ·intro b x aw;by_cases pu:b=(ms i).next
  ·subst pu;rcases mq (ms i).next (ms s).next with h|h
   ·grind
   ·right;refine ⟨i, ?_,R.lt,(mC az).2 (.inl rfl),hk,rfl⟩;rcases mq i s with dG|dG
    ·have:=X.mono (i+1) s dG D.sle;omega
    grind
  ·rcases D.Jm b x (hb b x aw pu) with h|⟨y,h1,ai,aT,br,cK⟩
   ·grind
   grind [mC]
 ·intro x an n3 aR;obtain ⟨h1,ai⟩:=Kw az aR;have:=distinct x an n3 h1;simp only[cj.up,this,if_false];exact D.xB x an n3 ai
 ·intro x h1 ai aT br AT n4;by_cases VG:x=i
  ·subst VG;have axJ:AT=iK:=by
    have bX:(ms (x+1)).blk (ms x).next=AT:=by grind [Mem.push]
    grind [Mem.push]
   grind [Mem.put]
  ·rw[hblk _ (distinct x ai br VG)];rcases (mC az).1 aT with h|h
   ·grind
   ·exact D.Jt x h1 ai h br AT n4
 ·have hold:∀c,c<w.heap.size->w'.heap[c]? =w.heap[c]? :=λc ay=>by rw[vQ.heap,Array.getElem?_push,if_neg (by omega)]
  exact ⟨vQ.os.trans D.gd.os,vQ.tape.trans D.gd.tape,vQ.output.trans D.gd.output,by rw[vQ.heap];simp;have:=D.gd.size;omega,λc ay cp=>by
   rw[hold c (hS ay D.gd.size)];exact D.gd.block c ay cp⟩
 ·intro b aw;simp only[cj.up,show b≠(ms i).next by omega,if_false];exact D.ext b aw
 ·intro b x aw hA;by_cases pu:b=(ms i).next
  ·subst pu;have an:x=e:=by grind [cj.up]
   subst an;exact .inl (by rw[vQ.blk];exact D.gd.size)
  ·exact D.fresh b x (hb b x aw pu) hA
 ·intro b aw aM;rw[hblk b (by omega)] at aM;exact D.ew b aw aM
 ·intro b aw aM;rw[hblk b (by omega)] at aM;exact D.alive b aw aM
def hK.fX (X:Ctx P C ops N bY ms vs dA gj ez) (D:hK P ops ds N bY ms vs dA gj ez listed a w s M j) {i:Nat} {o:Oper} (R:nr ops listed i o) (hk:dA i=4):
  s<=i/\(∀e,s<=e->e<i->dA e≠4)/\Rel P (j.below (ms i).next) (ms i) w/\
  ∀{w':World} {hM:cj} {bz:af},Post P (j.below (ms i).next) (ms i) w hM (ms (i+1)) w'->de hM (vs i) bz->
   hK P ops ds N bY ms vs dA gj ez (listed.setIfInBounds i aa) (a.put o.dst bz) w' (i+1) ((ms (i+1)).join M) (hM.join (ms (i+1)).next j):=by
 have az:i<listed.size:=by rw[D.size];exact R.lt
 have qT:s<=i:=by
  rcases mq i s with h|h
  ·have:=(D.iC i R.lt hk).2 h;rw[R.not] at this;grind
  grind
 have aov:∀e,e<i->dA e=4->listed.getD e ak=aa:=by
  intro e he k3;have rR:e<ops.size:=Nat.lt_trans he R.lt;have aa0:ops[e]? =J ops[e]:=by grind
  refine R.gD D (V8 X.ok R.at_ aa0 he ?_);simp[sR,X.abc aa0 k3,X.abc R.at_ hk]
 have gT:∀e,s<=e->e<i->dA e≠4:=by intro e h1 ai k3;have:=(D.iC e (Nat.lt_trans ai R.lt) k3).1 (aov e ai k3);omega
 have eL:=D.T2 X qT (lG R.lt) gT;have dV:=(X.wf i (lG R.lt)).1;refine ⟨qT,gT,D.rel.below dV eL, ?_⟩;intro w' hM bz p aD;have ayb:=p.next;have axT:∀b e,j b=J e->b<(ms i).next\/((ms (i+1)).next<=b/\∃x,i+1<=x/\x<ops.size/\listed.getD x ak=aa/\dA x=3/\b=(ms x).next):=by
  intro b e aw;rcases D.Jm b e aw with h|⟨x,h1,ai,aT,br,cK⟩
  ·exact .inl (hS h (X.mono s i qT (lG R.lt)))
  ·subst cK;rcases TJ x i with h|h|h
   ·exact .inl (hS (X.BG ai br) (X.mono (x+1) i h (lG R.lt)))
   ·grind
   ·exact .inr ⟨X.mono (i+1) x h (lG ai),x,h,ai,aT,br,rfl⟩
 have JL:(ms (i+1)).next<=M.next:=by rw[D.AX];exact X.mono (i+1) ops.size R.lt (e4 _)
 obtain ⟨hrel,hb,aoZ⟩:=D.rel.join eL p (λb e aw=>by grind) JL;have axz:(ms 0).next<=(ms i).next:=X.mono 0 i (pn _) (lG R.lt);have ape:∀b,b<(ms i).next->hM b=j b:=λb aw=>by rw[p.ext b aw];grind [cj.below]
 have axb:∀b e,j b=J e->b<(ms i).next->M.blk b=(ms i).blk b:=eL;refine ⟨by simp[D.size],D.Uc R,R.lt, .inr (by grind), ?_,hrel,D.AX, ?_, ?_, ?_, ?_,by rw[vi.2];exact D.defers,by rw[vi.1];exact D.tmps,D.Uf X R hb (aD.mono aoZ), ?_, ?_, ?_, ?_, ?_⟩
 ·intro x an n3;rw[mC az,D.iC x an n3]
  grind
 ·grind [Mem.join]
 ·grind [cj.join,mC]
 ·intro x an n3 aR;obtain ⟨h1,ai⟩:=Kw az aR;have ax4:=D.xB x an n3 ai;rcases mq x i with h|h
  ·have ao7:(ms x).next<(ms i).next:=hS (X.BG an n3) (X.mono (x+1) i h (lG R.lt))
   grind [cj.join]
  ·have:(ms (i+1)).next<=(ms x).next:=X.mono (i+1) x (by omega) (lG an)
   grind [cj.join]
 ·intro x h1 ai aT br iK hm;have:(ms (i+1)).next<=(ms x).next:=X.mono (i+1) x h1 (lG ai);simp only[Mem.join,show ¬(ms x).next<(ms (i+1)).next by omega,if_false];rcases (mC az).1 aT with h|h
  ·omega
  ·exact D.Jt x (by omega) ai h br iK hm
 ·refine ⟨p.gd.os.trans D.gd.os,p.gd.tape.trans D.gd.tape,p.gd.output.trans D.gd.output,jd D.gd.size p.gd.size,λc ay cp=> ?_⟩;rw[p.gd.block c (hS ay D.gd.size) ?_]
  ·exact D.gd.block c ay cp
  ·intro b e aw aM he;obtain ⟨g1,g2⟩:=q3 aw;rcases mq b (ms 0).next with h|h
   ·exact cp b e (by rw[<-D.ext b h];grind) (D.ew b h (by grind)) he
   ·rcases D.fresh b e g2 h with bF|⟨fz,eV,cL,c9,fo⟩
    ·omega
    grind
 ·intro b aw;simp only[cj.join,show b<(ms (i+1)).next by omega,if_true];rw[ape b (by omega)];exact D.ext b aw
 ·intro b e aw hA;unfold cj.join at aw;split at aw
  ·rcases mq b (ms i).next with h|h
   ·exact D.fresh b e (by grind) hA
   ·rcases p.fresh b e aw h with bF|⟨fz,eV,cL,c9,fo⟩
    ·exact .inl (jd D.gd.size bF)
    ·obtain ⟨g1,g2⟩:=q3 cL;rcases mq fz (ms 0).next with dG|dG
     ·exact .inr ⟨fz,eV,by rw[<-D.ext fz dG];grind,D.ew fz dG (by grind),fo⟩
     ·rw[<-fo];exact D.fresh fz eV g2 dG
  ·exact D.fresh b e aw hA
 ·intro b aw aM;have pu:b<(ms (i+1)).next:=by omega
  simp only[Mem.join,pu,if_true] at aM;have mc:=p.ew b (by omega) aM;have bs:=(Ku X.T i qT (by simpa using lG R.lt) gT).1;have yK:b<(ms s).next:=hS aw (X.mono 0 s (pn _) D.sle);exact D.ew b aw (by rw[D.agree b yK,<-bs b yK];grind)
 ·intro b aw aM;have pu:b<(ms (i+1)).next:=by omega
  simp only[Mem.join,pu,if_true] at aM;have mc:=p.alive b (by omega) aM;have bs:=(Ku X.T i qT (by simpa using lG R.lt) gT).1;have yK:b<(ms s).next:=hS aw (X.mono 0 s (pn _) D.sle);exact D.alive b aw (by rw[D.agree b yK,<-bs b yK];grind)
end
end Go.aF
end
section
namespace Go.aF
section
variable {P:bI} {C:FuncId->Array af->Mem->af->Mem->Prop} {ops:Array Oper} {N:Nat} {bY:Nat->Nat->af} {ms:Nat->Mem} {vs:Nat->af} {ds:List Deferred} {dA:Nat->Nat} {gj:cj} {ez:World}
variable {listed:Array Bool} {a:Act} {w:World} {s:Nat} {M:Mem} {j:cj}
def aq5 {i:Nat} (h:i∈AL .any ops listed):∃o,i<ops.size/\ops[i]? =J o/\listed.getD i aa=ak/\∀e∈o.after,rC .any e=aa->listed.getD e.on ak=aa:=by
 grind [AL,Array.all_eq_true']
theorem abU {A:Array Bool} {i:Nat} (az:i<A.size):A.getD i aa=A.getD i ak:=by grind
def left (n:Nat) (listed:Array Bool):Nat:=((mN n).filter λi=> !listed.getD i ak).length
def acW {aK:Type} {p q:aK->Bool}:∀(l:List aK) (x:aK),x∈l->(∀y,p y=aa->q y=aa)->q x=aa->p x=ak->(l.filter p).length<(l.filter q).length
 |[],x,an,_,_,_=>by grind
 |y::l,x,an,Vu,aoI,aoE=>by
  have hle:(l.filter p).length<=(l.filter q).length:=by
   clear an;induction l with
   |nil=>simp
   |cons z l a1=>
    grind
  rcases ha.1 an with rfl|an
  ·grind
  ·have a1:=acW l x an Vu aoI aoE
   grind
def aqn {n:Nat} (h:left n listed=0):∀i,i<n->listed.getD i ak=aa:=by
 intro i az;cases aR:listed.getD i ak with
 |true=>rfl
 |false=>
  have:i∈(mN n).filter λi=> !listed.getD i ak:=List.mem_filter.2 ⟨List.mem_range.2 az,by grind⟩;rw[yl h] at this
  grind
def hK.all (X:Ctx P C ops N bY ms vs dA gj ez) (D:hK P ops ds N bY ms vs dA gj ez listed a w s M j) (h:AL .any ops listed=[]):∀i,i<ops.size->listed.getD i ak=aa:=by
 intro i;induction i using Y0 with
 |_ i a1=>
  intro az;cases aR:listed.getD i ak with
  |true=>rfl
  |false=>
   have aM:ops[i]? =J ops[i]:=by grind
   have:i∈AL .any ops listed:=by
    simp only[AL,List.mem_filter,List.mem_range,fx,Bool.not_eq_true'];refine ⟨az,by rw[abU (by rw[D.size];grind)];grind, ?_⟩;rw[aM];simp only[vU,Option.getD_some,Array.all_eq_true'];intro e he;cases aw:rC .any e with
    |false=>rfl
    |true=>
     have ayh:=aq1 X.ok aM he aw
     grind
   grind
def hK.end (X:Ctx P C ops N bY ms vs dA gj ez) (D:hK P ops ds N bY ms vs dA gj ez listed a w s M j) (h:∀i,i<ops.size->listed.getD i ak=aa):
  Post P gj (ms 0) ez (j.below (ms ops.size).next) (ms ops.size) w/\(∀t,de (j.below (ms ops.size).next) (bY ops.size t) (a.tmps.getD t undef))/\a.defers=ds/\a.tmps.size=N:=by
 have gT:∀e,s<=e->e<ops.size->dA e≠4:=λe h1 ai hk=>by have:=(D.iC e ai hk).1 (h e ai);omega
 have eL:=D.T2 X D.sle (e4 _) gT;obtain ⟨dV,dE⟩:=X.wf ops.size (e4 _);have bR:(ms 0).next<=(ms ops.size).next:=X.mono 0 _ (pn _) (e4 _);have bs:=(Ku X.T ops.size D.sle (by simp) gT).1;have yK:∀b,b<(ms 0).next->(ms ops.size).blk b=M.blk b:=λb aw=>by have e5:=hS aw (X.mono 0 s (pn _) D.sle);rw[bs b e5,D.agree b e5]
 refine ⟨⟨D.rel.below dV eL,D.gd,bR, ?_, ?_, ?_, ?_⟩, ?_,D.defers,D.tmps⟩
 ·intro b aw;simp only[cj.below,show b<(ms ops.size).next by omega,if_true];exact D.ext b aw
 ·intro b e aw hA;exact D.fresh b e (q3 aw).2 hA
 ·intro b aw aM;exact D.ew b aw (by grind)
 ·intro b aw aM;exact D.alive b aw (by grind)
 ·intro t;refine zj.2.2 ?_ (dE t);rcases Wj X.T t ops.size (by simp) with ⟨x,p,h1,ai,aT,br,cK⟩|⟨h1,ai⟩
  ·have nx:ops[x]? =J p:=by grind
   rcases D.cur t with ⟨y,q,g1,g2,g3,g4,g5⟩|⟨g1,_⟩
   ·grind [TJ]
   grind
  ·rcases D.cur t with ⟨y,q,g1,g2,g3,g4,g5⟩|⟨_,g2⟩
   ·grind
   grind
def hK.go (X:Ctx P C ops N bY ms vs dA gj ez) {Q:Exit->Act->World->Prop} (iN:∀a w c6,Post P gj (ms 0) ez c6 (ms ops.size) w->(∀t,de c6 (bY ops.size t) (a.tmps.getD t undef))->a.defers=ds->a.tmps.size=N->Q .normal a w):
  ∀(lp:Nat) (listed:Array Bool) (a:Act) (w:World) (s:Nat) (M:Mem) (j:cj),hK P ops ds N bY ms vs dA gj ez listed a w s M j->left ops.size listed<=lp->wpAny P .any ops Q lp listed a w:=by
 intro lp;induction lp with
 |zero=>
  intro listed a w s M j D aR;have oO:=aqn (n:=ops.size) (by omega:left ops.size listed=0);obtain ⟨h1,ai,aT,br⟩:=D.end X oO;refine ⟨?_,iN _ _ _ h1 ai aT br⟩
  grind [AL,List.filter_eq_nil_iff,abU]
 |succ lp a1=>
  intro listed a w s M j D aR;refine ⟨λaV=> ?_,λi az=> ?_⟩
  ·obtain ⟨h1,ai,aT,br⟩:=D.end X (D.all X aV)
   grind
  ·obtain ⟨o,cF,aM,ayf,anG⟩:=aq5 az;have JQ:i<listed.size:=by grind
   have R:nr ops listed i o:=⟨aM,by grind,anG⟩
   have Bk:left ops.size (listed.setIfInBounds i aa)<=lp:=by
    have:left ops.size (listed.setIfInBounds i aa)<left ops.size listed:=by
     refine acW _ i (by grind) (λy aZ=> ?_) (by grind) (by simp_all)
     grind [Kw]
    omega
   have r0:=D.wanted X R;have Bp:=D.apL X R;unfold wpOp;rw[aM];simp only[];rcases X.run aM with ⟨hk,hw,aD,_⟩|⟨hk,hw,bb,_⟩|⟨hk,hw,bb,_⟩|⟨hk,hw,iK,bb,hm⟩|⟨hk,hw,bb⟩
   ·rw[r0,hw,if_neg (by simp)];exact a1 _ _ _ s M j (D.quiet X R (by omega) (by omega) (by rw[aD];exact ⟨#[],rfl,fs⟩)) Bk
   ·rw[r0,hw,if_pos rfl];left;obtain ⟨bz,aV,iF⟩:=Wf bb Bp w;unfold sM;rw[aV];exact a1 _ _ _ s M j (D.quiet X R (by omega) (by omega) iF) Bk
   ·rw[r0,hw,if_pos rfl];left;have aoL:∃z,fH P (bk (bY i)) o (ms z) (vs i)/\uq P j (ms z) w:=by
     rcases mq i s with JM|JM
     ·refine ⟨s, ?_,D.ot X (e4 _) D.sle (λe h1 ai=>by omega)⟩;rcases D.last with bR|an3
      ·omega
      ·have aoO:s - 1+1=s:=by omega
       have tc:=D.sle;have gT:i≠s - 1:=by grind
       have an8:listed.getD (s - 1) ak=aa:=(D.iC (s - 1) (by omega) an3).2 (by omega);have lq:gD (kp ops) (s - 1) i=ak:=by
        cases eL:gD (kp ops) (s - 1) i with
        |false=>rfl
        |true=>
         have:=D.T3 an8 eL
         grind
       have:=X.T.after i (s - 1) o (by grind) (by grind) (by grind) (by grind) (by omega) (by grind)
       grind
     ·by_cases hex:∃e,s<=e/\e<i/\dA e=4
      ·
       have Vm:∃z,s<=z/\z<i/\dA z=4/\∀e,s<=e->e<z->dA e≠4:=by
        obtain ⟨e,h1,ai,aT⟩:=hex;clear r0 Bp;induction e using Y0 with
        |_ e ayw=>
         grind
       obtain ⟨z,h1,ai,aT,br⟩:=Vm;refine ⟨z, ?_,D.ot X h1 (by omega) br⟩;have lq:gD (kp ops) i z=ak:=by
        cases eL:gD (kp ops) i z with
        |false=>rfl
        |true=>have:=(D.iC z (by omega) aT).1 (R.gD D eL);omega
       have:=X.T.ahead i z o (by grind) (by grind) (by grind) (by grind) ai (by grind)
       grind
      ·exact ⟨i,bb,D.ot X JM (lG cF) (λe h1 ai aT=>hex ⟨e,h1,ai,aT⟩)⟩
    obtain ⟨z,e0,eT⟩:=aoL;obtain ⟨bz,aV,iF⟩:=ack e0 Bp eT;unfold sM;rw[aV];exact a1 _ _ _ s M j (D.quiet X R (by omega) (by omega) iF) Bk
   ·rw[r0,hw,if_pos rfl];left;obtain ⟨bz,w',e,ob,aV,bB,iF⟩:=ad9 bb Bp w;unfold sM;rw[aV];exact a1 _ _ _ s _ _ (D.amQ X R hk hm bB (iF _ (by simp[cj.up]))) Bk
   ·rw[r0,hw,if_pos rfl];left;obtain ⟨h1,ai,aT,br⟩:=D.fX X R hk;obtain ⟨anj,am9⟩:=X.wf i (lG cF);have JR:o∈ops.toList:=by grind
    have aou:h3 (j.below (ms i).next) (bk (bY i)) a.eval o:=λx an=>zj.2.2 (Bp x an) (aew am9 (X.Kl o JR x an));exact aeu bb aou aT anj X.sound λbz w' hM wy iF=>a1 _ _ _ _ _ _ (br wy iF) Bk
end
def aqs {P:bI} {C:FuncId->Array af->Mem->af->Mem->Prop} {ops:Array Oper} {id:Nat} {fr cb:Nat->af} {m m':Mem} {j:cj} {a:Act} {ds:List Deferred} {w:World} {Q:Exit->Act->World->Prop}
  (n9:P.follows .mixedOrders=aa) (h:hW P C ops.toList (kp ops) 0 ops.toList ⟨[],[],[]⟩ fr m cb m') (eT:vj ops=aa) (c5:∀o∈ops.toList,∀x∈o.op.operands,nI x=aa) (uR:∀o∈ops.toList,∀d,o.dst=J d->d<a.tmps.size)
  (cW:pB C) (k2:xf P C) (cY:Rel P j m w) (dV:WF m) (hU:∀t,de j (fr t) (a.tmps.getD t undef)) (bg:a.defers=ds)
  (iN:∀a' w' c6,Post P j m w c6 m' w'->(∀t,de c6 (cb t) (a'.tmps.getD t undef))->a'.defers=ds->a'.tmps.size=a.tmps.size->Q .normal a' w'):(Code.region id ops aa).wp P Q a w:=by
 refine wp_region_any n9 ?_;obtain ⟨bY,ms,vs,dA,T,h1,ai,aT,br,_⟩:=afj _ _ _ _ _ _ _ h;simp only[lH,Array.length_toList] at aT br;have yJ:Rel P j (ms 0) {w with drawn:=w.drawn+1}:=by grind [arT]
 have cF:∀b e,j b=J e->b<(ms 0).next:=λb e aw=>by rw[ai];exact (cY.lt b e aw).1
 have X:Ctx P C ops a.tmps.size bY ms vs dA j {w with drawn:=w.drawn+1}:=⟨T,eT,c5,uR,cW,k2,yJ,by grind,λt=>by rw[h1];exact (Lf cF).2.2 (hU t)⟩
 have qR:∀i,(nj ops.size ak).getD i ak=aa->False:=by simp_all [Tp]
 have D:hK P ops ds a.tmps.size bY ms vs dA j {w with drawn:=w.drawn+1} (nj ops.size ak) a {w with drawn:=w.drawn+1} 0 {next:=(ms ops.size).next,blk:=(ms 0).blk} j:=by
  refine ⟨by simp,λi o az=>(qR i az).elim,pn _, .inl rfl,λi _ _=>⟨λh=>(qR i h).elim,λh=>by omega⟩, ?_,rfl,λb _=>rfl,λb e aw=> .inl (cF b e aw), ?_,λi _ _ h=>(qR i h).elim,bg,rfl, ?_,sC.refl _ _ _,λ_ _=>rfl, ?_,λ_ _ h=>h,λ_ _ h=>h⟩
  ·refine ⟨⟨λb e aw=>⟨hS (cF b e aw) (X.mono 0 _ (pn _) (e4 _)),(yJ.lt b e aw).2⟩,yJ.obj,yJ.inj⟩,yJ.mE.val,yJ.mE.sep⟩
  ·intro i az hk aR;cases bn:j (ms i).next with
   |none=>rfl
   |some e=>have:=cF _ e bn;have:=X.mono 0 i (pn _) (lG az);omega
  ·grind
  grind
 refine hK.go X (λa' w' c6 p aD Bi bf=>iN a' w' c6 ?_ (by grind) Bi bf) _ _ _ _ _ _ _ D ?_
 ·rw[ai,br] at p;exact ⟨p.rel,⟨p.gd.os,p.gd.tape,p.gd.output,p.gd.size,p.gd.block⟩,p.next,p.ext,p.fresh,p.ew,p.alive⟩
 grind [left]
end Go.aF
end
section
namespace Go.aF
def Rel.amZ {P:bI} {j:cj} {m:Mem} {w w':World} (h:Rel P j m w) (h1:w'.os=w.os) (ai:w'.tape=w.tape) (aT:w'.output=w.output) (br:w.heap.size<=w'.heap.size) (cK:∀c,c<w.heap.size->w'.heap[c]? =w.heap[c]?):Post P j m w j m w':=
 .of h ⟨λb e aw=>⟨(h.lt b e aw).1,hS (h.lt b e aw).2 br⟩,λb e aw=>by rw[cK _ (h.lt b e aw).2];exact h.obj b e aw,h.inj⟩
  ⟨h1,ai,aT,br,λc ay _=>cK c ay⟩ (e4 _) (λ_ _=>rfl) (λb e aw bB=>absurd (h.lt b e aw).1 (vP.2 bB)) (λ_ _ h=>h) (λ_ _ h=>h)
theorem acX {j:cj} {v:af} (h:dy v=aa):eA j v v:=q4 h
def zE (P:bI) (f:FuncId) (gV:List af) (l:Nat) (F mJ:List af) (w:World) (blk:Nat):Prop:=
 ∀(off cap:Nat) (cs:Array af) (t:bV) (bZ:Nat×Nat),w.heap[blk]? =J (.cells cs t bZ)->(∀(i:Nat) (v:af),F[i]? =J v->cs[off+i]? =J v)->(∀i,i<cs.size->¬(bZ.1<=i/\i<bZ.2))->
  Calls P f (.slice (J ⟨blk,off,ae⟩) l cap::gV).toArray w λe w'=>e= .returned (.tuple #[])/\w'.os=w.os/\w'.tape=w.tape/\w'.output=w.output/\w.heap.size<=w'.heap.size/\
   (∀c,c<w.heap.size->c≠blk->w'.heap[c]? =w.heap[c]?)/\w'.heap[blk]? =J (.cells (eY cs.toList off mJ).toArray t bZ)
section
variable {P:bI} {f:FuncId} {args:Array af} {m:Mem} {j:cj} {w:World}
def ar9 (a:Option Addr) (c:Nat) (gV:List af) (h:∀(p:Option Addr) (cap:Nat) (kG:List af) (w:World),kG.length=gV.length->Calls P f (.slice p 0 cap::kG).toArray w λe w'=>e= .returned (.tuple #[])/\w'=w):LB P f (.slice a 0 c::gV).toArray m (.tuple #[]) m:=by
 refine ⟨e4 _,λdV=>⟨by intro x an;grind,dV⟩,λj w kq dV cY eL=> ?_⟩;obtain ⟨l⟩:=kq;cases l with
 |nil=>exact eL.elim
 |cons cs kG=>
 obtain ⟨h1,ai⟩:=eL;have an:∃p cap,cs= .slice p 0 cap:=by
  cases a with
  |none=>exact ⟨_,_,h1.nc⟩
  |some a=>
   obtain ⟨q,_,_,ay⟩:=h1.slice
   grind
 obtain ⟨p,cap,rfl⟩:=an;refine (h p cap kG w ai.length.symm).mono ?_;rintro e w' ⟨rfl,rfl⟩;exact ⟨_,j,rfl,Post.refl cY,#[],rfl,fs⟩
def ar' (b off l c:Nat) (L:List af) (e:bV) (F mJ gV:List af) (h:∀(j:cj) (w:World) (kG:List af) (q:kl),WF m->Rel P j m w->bP (de j) gV kG->j b=J q->zE P f kG l F mJ w q.blk) (aR:0<l) (hm:m.blk b= .own L e)
  (eF:(L.drop off).take F.length=F) (bB:off+F.length<=L.length) (p7:mJ.length=F.length) (f1:F.all dy=aa) (f2:mJ.all dy=aa):LB P f (.slice (J ⟨b,off,ae⟩) l c::gV).toArray m (.tuple #[]) (m.put b (.own (eY L off mJ) e)):=by
 refine ⟨e4 _,λdV=>⟨by intro x an;grind,λc ay=> ?_,λc=> ?_⟩,λj w kq dV cY eL=> ?_⟩
 ·have ay:m.next<=c:=ay;simp only[Mem.put];split
  ·rename_i gN;subst gN;have:=dV.dead c ay
   grind
  ·exact dV.dead c ay
 ·simp only[Mem.put];split
  ·intro v aD;rcases r9 _ _ _ _ aD with aD|aD
   ·have:=dV.low b;rw[hm] at this;exact this v aD
   grind [zq]
  ·exact dV.low c
 obtain ⟨cl⟩:=kq;cases cl with
 |nil=>exact eL.elim
 |cons rJ kG=>
 obtain ⟨h1,ai⟩:=eL;obtain ⟨q,_,bn,ay⟩:=h1.slice;have an:∃cap,rJ= .slice (J ⟨q.blk,q.db+off,ae⟩) l cap:=by
  rcases ay with ⟨_,ay⟩|⟨_,_,_,_,_,_,ay⟩|⟨_,hV,_⟩|⟨_,hV,_⟩|⟨_,_,_,_,_,_,_,_,_,ay⟩
  ·grind
  ·grind
  ·omega
  ·omega
  grind
 obtain ⟨cap,rfl⟩:=an;have bn:j b=J q:=bn;obtain ⟨cs,bZ,g1,g2,g3,g4,g5,g6⟩:=cY.own b q L e bn hm;have am7:∀(i:Nat) (v:af),F[i]? =J v->cs[q.db+off+i]? =J v:=by
  intro i v az;have cF:=(fq.1 az).1;have Vb:=az;rw[<-eF,List.getElem?_take,if_pos cF,List.getElem?_drop] at Vb;obtain ⟨bz,cL,c9⟩:=g6 _ v Vb;have yO:dy v=aa:=iA.1 f1 v (mM az)
  grind [B0]
 refine (h j w kG q dV cY ai bn (q.db+off) cap cs e bZ g1 am7 g2).mono ?_;rintro ex w' ⟨rfl,cL,c9,fo,k4,wH,BC⟩;have cF:=(cY.lt b q bn).2;have hlen:(eY cs.toList (q.db+off) mJ).length=cs.size:=by grind [mB]
 have yS:(eY L off mJ).length=L.length:=mB _ _ _;have bb:=cY.write (L':=eY L off mJ) (cs':=(eY cs.toList (q.db+off) mJ).toArray) bn hm g1 (by grind) (by grind) (λi v az=>by
  grind [o5,acX])
 refine ⟨_,j,rfl,bb.trans (bb.rel.amZ cL c9 fo (by grind [lz]) λc ay=> ?_),#[],rfl,fs⟩
 grind [Wg,Wo]
end
end Go.aF
end
section
namespace Go.aF
variable {ds:List Deferred}
def lj.put {j c6:cj} {N:Nat} {fr:Nat->af} {a:Act} {d:Option Tmp} {v bz:af} (h:lj ds j N fr a) (hb:∀b e,j b=J e->c6 b=J e) (bg:∀t,d=J t->t<N) (aD:de c6 v bz):lj ds c6 N (set fr d v) (a.put d bz):=by
 refine ⟨λt=> ?_,by rw[vi.2];exact h.defers,by rw[vi.1];exact h.size⟩;cases d with
 |none=>exact (h.val t).mono hb
 |some x=>
  have an:x<a.tmps.size:=by rw[h.size];grind
  rw[Xe an];simp only[set];split
  ·grind
  ·exact (h.val t).mono hb
def lj.ops {j:cj} {N:Nat} {fr:Nat->af} {a:Act} (h:lj ds j N fr a) {o:Oper} (aM:∀x∈o.op.operands,nI x=aa):h3 j (bk fr) a.eval o:=
 λx an=>Xw (aM x an) λt _=>h.val t
def adw (j:cj):de j undef undef:=⟨#[],rfl,fs⟩
def Wq {P:bI} {C:FuncId->Array af->Mem->af->Mem->Prop} {ops:Array Oper} {N:Nat} {Q:Exit->Act->World->Prop} (cW:pB C) (k2:xf P C) (uR:∀o∈ops.toList,∀d,o.dst=J d->d<N):
  ∀(l:List Oper) (fr cb:Nat->af) (m m':Mem) (j:cj) (a:Act) (w:World),(∀o∈l,(∀x∈o.op.operands,nI x=aa)/\∀d,o.dst=J d->d<N)->k6 P C ops.toList l fr m cb m'->Rel P j m w->WF m->lj ds j N fr a->
   (∀a' w' c6,Post P j m w c6 m' w'->lj ds c6 N cb a'->Q .normal a' w')->wpList P ops Q l a w
 |[],fr,cb,m,m',j,a,w,aR,h,cY,dV,eF,iN=>by simp only[k6] at h;obtain ⟨rfl,rfl⟩:=h;exact iN a w j (Post.refl cY) eF
 |o::l,fr,cb,m,m',j,a,w,aR,h,cY,dV,eF,iN=>by
  obtain ⟨an,bg⟩:=aR o (by simp);have hB:∀o∈l,(∀x∈o.op.operands,nI x=aa)/\∀d,o.dst=J d->d<N:=λp bb=>aR p (by grind);have r0:qK o (yielded ops a.tmps)=wanted ops.toList fr o:=acO eF.size uR λg w d bs bg=>eF.val d;unfold wpList;rw[r0];simp only[k6] at h;by_cases hw:wanted ops.toList fr o=aa
  ·rw[if_pos hw];rw[if_pos hw] at h;obtain ⟨v,m1,yX,Bs⟩:=h;have rT:∀t,low m.next (fr t):=λt=>(Lf λb e aw=>(cY.lt b e aw).1).2.2 (eF.val t);have fb:=w8 yX dV rT cW an;have Vs:=eF.ops an;have cont:∀bz w' c6,Post P j m w c6 m1 w'->de c6 v bz->wpList P ops Q l (a.put o.dst bz) w':=λbz w' c6 bb aD=>
    Wq cW k2 uR l _ _ _ _ c6 _ _ hB Bs bb.rel fb.2.1 (eF.put (bb.up cY) bg aD) λa' xC wG wv p7=>iN a' xC wG (bb.trans wv) p7
   left;cases yX with
   |pure h=>obtain ⟨bz,aV,aD⟩:=Wf h Vs w;unfold sM;rw[aV];exact cont bz w j (Post.refl cY) aD
   |read h=>obtain ⟨bz,aV,aD⟩:=ack h Vs cY.ot;unfold sM;rw[aV];exact cont bz w j (Post.refl cY) aD
   |new h=>obtain ⟨bz,w',c6,aV,bb,aD⟩:=arc h Vs cY;unfold sM;rw[aV];exact cont bz w' c6 bb aD
   |fX h=>grind [aeu]
  ·rw[if_neg hw];rw[if_neg hw] at h;exact Wq cW k2 uR l _ _ _ _ j _ _ hB h cY dV (eF.put (λ_ _ h=>h) bg (adw j)) iN
def Xg {P:bI} {C:FuncId->Array af->Mem->af->Mem->Prop} {ops:List Oper} (cW:pB C):∀(l:List Oper) (fr cb:Nat->af) (m m':Mem),(∀o∈l,∀x∈o.op.operands,nI x=aa)->k6 P C ops l fr m cb m'->WF m->(∀t,low m.next (fr t))->
  WF m'/\(∀t,low m'.next (cb t))/\m.next<=m'.next
 |[],fr,cb,m,m',aR,h,dV,bF=>by simp_all [k6]
 |o::l,fr,cb,m,m',aR,h,dV,bF=>by
  simp only[k6] at h;have hB:∀o∈l,∀x∈o.op.operands,nI x=aa:=λp bb=>aR p (by grind);split at h
  ·obtain ⟨v,m1,yX,Bs⟩:=h;have fb:=w8 yX dV bF cW (aR o (by simp));have:=Xg cW l _ _ _ _ hB Bs fb.2.1 (Ca (λt=>WO fb.2.2 (bF t)) fb.1)
   grind
  ·exact Xg cW l _ _ _ _ hB h dV (Ca bF Kz)
def WS {P:bI} {C:FuncId->Array af->Mem->af->Mem->Prop} {ops:List Oper} {B:Array Nat} (cW:pB C):∀(l:List Oper) (i:Nat) (A:Acc) (fr cb:Nat->af) (m m':Mem),(∀o∈l,∀x∈o.op.operands,nI x=aa)->hW P C ops B i l A fr m cb m'->WF m->(∀t,low m.next (fr t))->
  WF m'/\(∀t,low m'.next (cb t))/\m.next<=m'.next
 |[],i,A,fr,cb,m,m',aR,h,dV,bF=>by simp_all [hW]
 |o::l,i,A,fr,cb,m,m',aR,h,dV,bF=>by
  simp only[hW] at h;have hB:∀o∈l,∀x∈o.op.operands,nI x=aa:=λp bb=>aR p (by grind);have key:∀v m1 iH,ln P C (bk fr) o m v m1->hW P C ops B (i+1) l iH (set fr o.dst v) m1 cb m'->WF m'/\(∀t,low m'.next (cb t))/\m.next<=m'.next:=by
   intro v m1 iH yX Bs;have fb:=w8 yX dV bF cW (aR o (by simp));have:=WS cW l _ _ _ _ _ _ hB Bs fb.2.1 (Ca (λt=>WO fb.2.2 (bF t)) fb.1)
   grind
  split at h
  ·rcases h with ⟨v,bb,bg⟩|⟨v,bb,_,bg⟩|⟨X,v,bb,bg⟩|⟨v,m1,bb,_,_,bg⟩
   ·exact key _ _ _ (.pure bb) bg
   ·exact key _ _ _ (.read bb) bg
   ·exact key _ _ _ (.new bb) bg
   ·exact key _ _ _ (.fX bb) bg
  ·exact WS cW l _ _ _ _ _ _ hB h dV (Ca bF Kz)
def Ww {n id:Nat} {ops:Array Oper} {d:Bool} (h:jw n (.region id ops d)=aa):(∀o∈ops.toList,(∀x∈o.op.operands,nI x=aa)/\∀d,o.dst=J d->d<n)/\(d=aa->vj ops=aa):=by
 grind [jw]
def BX {P:bI} {C:FuncId->Array af->Mem->af->Mem->Prop} (cW:pB C) {N:Nat}:∀(n:Nat) (c:Code) (fr cb:Nat->af) (m m':Mem) (e:fG),jw N c=aa->lS P C n c fr m e cb m'->WF m->(∀t,low m.next (fr t))->
  WF m'/\(∀t,low m'.next (cb t))/\m.next<=m'.next:=by
 intro n;induction n with
 |zero=>intro c fr cb m m' e _ h;exact h.elim
 |succ n a1=>
  intro c fr cb m m' e eT h dV bF;cases c with
  |skip=>obtain ⟨_,rfl,rfl⟩:=h;grind
  |label l=>obtain ⟨_,rfl,rfl⟩:=h;grind
  |exit id=>obtain ⟨_,rfl,rfl⟩:=h;grind
  |ret=>obtain ⟨_,rfl,rfl⟩:=h;grind
  |region id ops d=>
   have aV:=Ww eT;cases d with
   |false=>exact Xg cW _ _ _ _ _ (λo aM=>(aV.1 o aM).1) h.2 dV bF
   |true=>exact WS cW _ _ _ _ _ _ _ (λo aM=>(aV.1 o aM).1) h.2 dV bF
  |seq a b=>
   simp only[jw,fx] at eT;rcases h with ⟨bX,fY,m1,h1,ai⟩|h
   rotate_left
   ·exact ⟨(h.2.low dV bF).1,(h.2.low dV bF).2,h.2.next⟩
   obtain ⟨g1,g2,g3⟩:=a1 a _ _ _ _ _ eT.1 h1 dV bF;split at ai
   ·grind
   simp_all
  |cond c a b=>
   simp only[jw,fx] at eT;obtain ⟨t,_,h1⟩:=h
   grind
  |block id c=>obtain ⟨bX,h1,_⟩:=h;exact a1 c _ _ _ _ _ eT h1 dV bF
  |scope c=>exact a1 c _ _ _ _ _ eT h dV bF
  |loop c=>
   obtain ⟨bX,fY,m1,h1,ai⟩:=h;obtain ⟨g1,g2,g3⟩:=a1 c _ _ _ _ _ eT h1 dV bF;split at ai
   ·grind
   simp_all
  |rangeFunc f cQ x y=>exact h.elim
  |goto l=>exact h.elim
  |refuse s=>exact h.elim
def aen (P:bI) (C:FuncId->Array af->Mem->af->Mem->Prop) (N n:Nat) (c:Code):Prop:=
 ∀⦃ds:List Deferred⦄ (fr cb:Nat->af) (m m':Mem) (e:fG) (j:cj) (a:Act) (w:World) (Q:Exit->Act->World->Prop),
  jw N c=aa->lS P C n c fr m e cb m'->Rel P j m w->WF m->lj ds j N fr a->(∀a' w' c6,Post P j m w c6 m' w'->lj ds c6 N cb a'->Q e.out a' w')->c.wp P Q a w
theorem lj.low {P:bI} {j:cj} {N:Nat} {fr:Nat->af} {a:Act} {m:Mem} {w:World} (eF:lj ds j N fr a) (cY:Rel P j m w):∀t,low m.next (fr t):=λt=>(Lf λb e aw=>(cY.lt b e aw).1).2.2 (eF.val t)
def aqx {P:bI} {C:FuncId->Array af->Mem->af->Mem->Prop} (cW:pB C) {N:Nat} {c:Code} (eT:jw N c=aa):∀(n:Nat),(∀n',n'<n->aen P C N n' c)->∀(fr cb:Nat->af) (m m':Mem) (e:fG) (j:cj) (a:Act) (w:World) (Q:Exit->Act->World->Prop),
  lS P C n (.loop c) fr m e cb m'->Rel P j m w->WF m->lj ds j N fr a->(∀a' w' c6,Post P j m w c6 m' w'->lj ds c6 N cb a'->Q e.out a' w')->
  ∀(b:Frame) (k:List Item) (cs:List Frame),∃cz a' w',Q cz a' w'/\Arrives P (lone (b.at a (.code c:: .inLoop c::k)) cs w) b k cs cz a' w':=by
 intro n;induction n with
 |zero=>intro _ fr cb m m' e j a w Q h;exact h.elim
 |succ n a1=>
  intro eL fr cb m m' e j a w Q h cY dV eF iN b k cs;obtain ⟨bX,fY,m1,h1,ai⟩:=h;have aR:=BX cW n c _ _ _ _ _ eT h1 dV (eF.low cY);by_cases he:bX= .normal
  ·subst he;rw[if_pos rfl] at ai;have key:c.wp P (λe a' w'=>e= .normal/\∃cz ZJ xC,Q cz ZJ xC/\Arrives P (lone (b.at a' (.code c:: .inLoop c::k)) cs w') b k cs cz ZJ xC) a w:=
    eL n (pT n) _ _ _ _ _ j a w _ eT h1 cY dV eF λec dX hM bb mT=>
     ⟨rfl,a1 (λn' p9=>eL n' (by omega)) _ _ _ _ _ hM ec dX Q ai bb.rel aR.1 mT (λa2 ix r2 Bq we=>iN a2 ix r2 (bb.trans Bq) we) b k cs⟩
   obtain ⟨cz,ec,dX,⟨rfl,e2,a2,ix,Vx,ann⟩,Be⟩:=key b (.inLoop c::k) cs;exact ⟨e2,a2,ix,Vx, .of_steps (Steps.trans Be (.one step_inLoop)) ann⟩
  ·rw[if_neg he] at ai;obtain ⟨rfl,rfl,rfl⟩:=ai;have key:c.wp P (λcz a' w'=>cz≠ .normal/\Q cz a' w') a w:=
    eL n (pT n) _ _ _ _ _ j a w _ eT h1 cY dV eF λec dX hM bb mT=>⟨by cases e with
     |normal=>grind
     |exit id=>simp[fG.out]
     |ret=>simp[fG.out],iN ec dX hM bb mT⟩
   obtain ⟨cz,ec,dX,⟨gT,bm⟩,Be⟩:=key b (.inLoop c::k) cs;exact ⟨cz,ec,dX,bm, .pass (x:= .inLoop c) rfl (λ_ _=> .inl gT) Be⟩
def V9 {P:bI} {C:FuncId->Array af->Mem->af->Mem->Prop} (n9:P.follows .mixedOrders=aa) (cW:pB C) (k2:xf P C) {N:Nat}:∀(n:Nat) (c:Code),aen P C N n c:=by
 intro n;induction n using Y0 with
 |_ n a1=>
 cases n with
 |zero=>intro c ds fr cb m m' e j a w Q _ h;exact h.elim
 |succ n=>
  intro c ds fr cb m m' e j a w Q eT h cY dV eF iN;have rT:=eF.low cY;have y3:=a1 n (pT n);cases c with
  |skip=>obtain ⟨rfl,rfl,rfl⟩:=h;exact wp_skip (iN a w j (Post.refl cY) eF)
  |label l=>obtain ⟨rfl,rfl,rfl⟩:=h;exact wp_label (iN a w j (Post.refl cY) eF)
  |exit id=>obtain ⟨rfl,rfl,rfl⟩:=h;exact wp_exit (iN a w j (Post.refl cY) eF)
  |ret=>obtain ⟨rfl,rfl,rfl⟩:=h;exact wp_ret (iN a w j (Post.refl cY) eF)
  |region id ops d=>
   have aV:=Ww eT;have uR:∀o∈ops.toList,∀d,o.dst=J d->d<N:=λo aM=>(aV.1 o aM).2;cases d with
   |false=>obtain ⟨rfl,h⟩:=h;exact wp_region_list (Wq cW k2 uR _ _ _ _ _ j a w aV.1 h cY dV eF iN)
   |true=>obtain ⟨rfl,h⟩:=h;exact aqs n9 h (aV.2 rfl) (λo aM=>(aV.1 o aM).1) (by rw[eF.size];grind) cW k2 cY dV eF.val eF.defers λa' w' c6 bb aD bg bf=>iN a' w' c6 bb ⟨aD,bg,by rw[bf];exact eF.size⟩
  |seq a' b=>
   have aoq:=eT;simp only[jw,fx] at eT;rcases h with ⟨bX,fY,m1,h1,ai⟩|h
   rotate_left
   ·exact h.2.sound aoq cY dV eF iN
   have aR:=BX cW n a' _ _ _ _ _ eT.1 h1 dV rT;refine wp_seq (y3 a' _ _ _ _ _ j a w _ eT.1 h1 cY dV eF λec dX hM bb mT=> ?_);split at ai
   ·rename_i he;subst he;exact y3 b _ _ _ _ _ hM ec dX Q eT.2 ai bb.rel aR.1 mT λa2 ix r2 Bq we=>iN a2 ix r2 (bb.trans Bq) we
   ·rename_i he;obtain ⟨rfl,rfl,rfl⟩:=ai;cases e with
    |normal=>grind
    |exit id=>exact iN ec dX hM bb mT
    |ret=>exact iN ec dX hM bb mT
  |cond c x y=>
   simp only[jw,fx] at eT;obtain ⟨t,aJ,h1⟩:=h;have aD:de j (bk fr c) (a.eval c):=Xw eT.1.1 λt _=>eF.val t;rw[aJ] at aD;refine wp_cond aD.bool ?_;cases t
   ·exact y3 y _ _ _ _ _ j a w Q eT.2 h1 cY dV eF iN
   ·exact y3 x _ _ _ _ _ j a w Q eT.1.2 h1 cY dV eF iN
  |scope c=>refine wp_scope_straight (y3 c _ _ _ _ _ j a w _ eT h cY dV eF λec dX hM bb mT=> ?_);have:=iN ec dX hM bb mT;cases e<;>exact this
  |block id c=>
   obtain ⟨bX,h1,he⟩:=h;refine wp_block (y3 c _ _ _ _ _ j a w _ eT h1 cY dV eF λec dX hM bb mT=> ?_);have:=iN ec dX hM bb mT;rw[he] at this;cases bX with
   |normal=>simp only[fG.out] at this⊢;exact this
   |exit J3=>
    grind [fG.out,Exit.inBlock]
   |ret=>simp only[fG.out] at this⊢;exact this
  |loop c=>intro b k cs;obtain ⟨cz,ec,dX,bm,Be⟩:=aqx cW (c:=c) eT (n+1) (λn' p9=>a1 n' p9 c) _ _ _ _ _ j a w Q h cY dV eF iN b k cs;exact ⟨cz,ec,dX,bm, .of_steps (.one step_loop) Be⟩
  |rangeFunc f cQ x y=>exact h.elim
  |goto l=>exact h.elim
  |refuse s=>exact h.elim
def ap8 {P:bI} {fr:Nat->af} {m:Mem} {j:cj} {N:Nat} {a:Act} {w:World} (cY:Rel P j m w) (eF:lj ds j N fr a) {r:ResultVar} {v:af} (h:KZ P fr m r v):
  ∃bz,(match r with| .tmp t=>(pure (a.tmps.getD t undef):Sem af)| .cell x t=>do loadVar t (<-asAddr (a.tmps.getD x undef))).run P w= .ok bz w/\de j v bz:=by
 cases r with
 |tmp t=>simp only[KZ] at h;subst h;exact ⟨_,rfl,eF.val t⟩
 |cell x t=>
  obtain ⟨b,off,an,d,bg,aD⟩:=h;have c5:=eF.val x;rw[an] at c5;obtain ⟨q,_,bn,ay⟩:=c5.ptr;by_cases bl:lI d=aa
  ·rw[if_pos bl] at aD;obtain ⟨i,cs,az,e0,rfl⟩:=aD;obtain ⟨ds,aR,bB,mU⟩:=BL cY.ot bn _ _ _ e0;exact ⟨.agg ds.toArray,by simp[ay,asAddr,loadVar,sb bg,bl,jb az,BM bB mU],⟨_,rfl,by grind⟩⟩
  ·rw[if_neg bl] at aD;obtain ⟨bz,fZ,aV⟩:=cY.ot.load b q off v bn aD;simp_all [asAddr,loadVar,sb,de.qh]
def abY {P:bI} {fr:Nat->af} {m:Mem} {j:cj} {N:Nat} {a:Act} {w:World} (cY:Rel P j m w) (eF:lj ds j N fr a):∀(rs:List ResultVar) (vs:List af),q2 P fr m rs vs->
  ∃n0:List af,(rs.mapM (m:=Sem) λ| .tmp t=>pure (a.tmps.getD t undef)| .cell x t=>do loadVar t (<-asAddr (a.tmps.getD x undef))).run P w= .ok n0 w/\bP (de j) vs n0
 |[],[],_=>⟨[],rfl,fs⟩
 |r::rs,v::vs,⟨h1,ai⟩=>by obtain ⟨bz,aV,aD⟩:=ap8 cY eF h1;obtain ⟨n0,ayn,rZ⟩:=abY cY eF rs vs ai;refine ⟨bz::n0, ?_,aD,rZ⟩;simp_all
 |[],_::_,h=>h.elim
 |_::_,[],h=>h.elim
def aca {j:cj}:∀{vs n0:List af},bP (de j) vs n0->(∀x∈vs,storable x=aa)->bP (fC j) vs n0
 |[],[],_,_=>fs
 |v::vs,c::n0,⟨h1,ai⟩,bf=>⟨de.storable h1 (bf v (by simp)),aca ai λx an=>bf x (by simp[an])⟩
 |[],_::_,h,_=>h.elim
 |_::_,[],h,_=>h.elim
def aqo {j:cj} {args kq:Array af} (h:bP (de j) args.toList kq.toList) (n:Nat):∀t,de j ((args++nj (n - args.size) undef).getD t undef) ((kq++nj (n - kq.size) undef).getD t undef):=by
 have bf:=h.size;intro t;by_cases aJ:t<args.size
 ·have bX:(args++nj (n - args.size) undef).getD t undef=args[t]:=by
   rw[Yr,Ys aJ];grind
  have oc:t<kq.size:=by omega
  have e2:(kq++nj (n - kq.size) undef).getD t undef=kq[t]:=by simp_all [Ys]
  rw[bX,e2];obtain ⟨b,aw,aV⟩:=h.JA t args[t] (by grind)
  grind
 ·have e:∀(A:Array af),A.size<=t->(A++nj (n - A.size) undef).getD t undef=undef:=by
   intro A eL;rw[Yr,Array.getElem?_append_right eL]
   grind
  rw[e args (by omega),e kq (by omega)];exact adw j
theorem acE {P : bI} {f : FuncId} {fn : Func} {c : Code} (h : lR P f = aa) (bF : P.funcs[f]? = J fn) (ay : fn.body = J c) : (fn.name == "runtime.NumGoroutine") = ak ∧ jw fn.ntmps c = aa := by
 grind [lR]
def aci {P : bI} {f : FuncId} {fn : Func} {c : Code} (h : lR P f = aa) (bF : P.funcs[f]? = J fn) (ay : qm P fn c) : (fn.name == "runtime.NumGoroutine") = ak ∧ jw fn.ntmps c = aa ∧ fn.body.isNone = ak := by
 rcases ay with ay|⟨A,id,mk,p3,B,g,k,cs,D⟩
 ·grind [acE]
 ·have ai:=acE h bF D.body;refine ⟨ai.1, ?_,by simp[D.body]⟩;rw[D.code]
  grind [jw]
def atk {P:bI} {C:FuncId->Array af->Mem->af->Mem->Prop} {ap:bS->af} {o:Oper} {m m':Mem} {v:af} {fn:Fn} {cs:Array bS} (h:ln P C ap o m v m') (aM:o.op= .makeFunc fn #[] cs):
  dD P ap o v/\m'=m/\∃ds,v= .func fn #[] ds:=by
 cases h with
 |pure h=>
  refine ⟨h,rfl, ?_⟩;cases h with
  |func f a b dG bF=>simp_all
  |flat v bf h aD aV=>
   have:=aV default;simp[execOp,aM,Instr.makeFunc] at this
   grind
  |_=>grind
 |read h=>cases h<;>simp_all
 |new h=>cases h<;>simp_all
 |fX h=>
  cases h with
  |call f args v m' h cW=>obtain ⟨x,dK,ts,first,captured,h,_⟩:=h;grind
  |_=>grind
def ap5 {P:bI} {C:FuncId->Array af->Mem->af->Mem->Prop} (n9:P.follows .mixedOrders=aa) (cW:pB C) (k2:xf P C) {n:Nat} {f:FuncId} {fn:Func} {c:Code} {fr fY:Nat->af} {m m1:Mem} {e:fG} {j:cj} {w:World} {args:Array af} {R:Ending->World->Prop}
  (bF:P.funcs[f]? =J fn) (aw:qm P fn c) (eT:jw fn.ntmps c=aa) (kv:lS P C n c fr m e fY m1) (he:e= .normal\/e= .ret) (cY:Rel P j m w) (dV:WF m) (eF:lj [] j fn.ntmps fr {tmps:=args++nj (fn.ntmps - args.size) undef,defers:=[]})
  (iN:∀ds a' w' c6,Post P j m w c6 m1 w'->lj ds c6 fn.ntmps fY a'->∃v,(results fn a'.tmps).run P w'= .ok v w'/\R (.returned v) w'):Calls P f args w R:=by
 rcases aw with aw|⟨A,id,mk,p3,B,g,k,cs,D⟩
 ·refine calls_of_wp bF aw (V9 n9 cW k2 n c _ _ _ _ _ j _ w _ eT kv cY dV eF λa' w' c6 bb p7=> ?_);obtain ⟨v,h1,ai⟩:=iN [] a' w' c6 bb p7;rcases he with rfl|rfl<;>exact ⟨p7.defers,v,h1,ai⟩
 ·obtain rfl:=D.code;have aa2:jw fn.ntmps A=aa:=by grind [jw]
  have aos:jw fn.ntmps (.region id #[mk] ak)=aa:=by grind [jw]
  have aor:jw fn.ntmps B=aa:=by grind [jw]
  cases n with
  |zero=>exact kv.elim
  |succ n=>
  rcases kv with ⟨bX,aai,ayG,eL,ai⟩|⟨h,_⟩
  rotate_left
  ·rw[D.db] at h;grind
  have an2:=BX cW n A _ _ _ _ _ aa2 eL dV (eF.low cY);refine calls_of_wp_defers bF D.body (wp_seq (V9 n9 cW k2 n A _ _ _ _ _ j _ w _ aa2 eL cY dV eF λec dX hM wx mT=> ?_));by_cases wh:bX= .normal
  ·subst wh;rw[if_pos rfl] at ai;cases n with
   |zero=>exact ai.elim
   |succ n=>
   rcases ai with ⟨e2,axu,aby,aaw,aT⟩|⟨h,_⟩
   rotate_left
   ·cases h
   cases n with
   |zero=>exact aaw.elim
   |succ n=>
   obtain ⟨rfl,Vz⟩:=aaw;rw[if_pos rfl] at aT;have J2:wanted [mk] aai mk=aa:=by unfold wanted;rw[D.abA]
   simp only[k6] at Vz;rw[if_pos J2] at Vz;obtain ⟨v,ayH,fb,rfl,rfl⟩:=Vz;obtain ⟨aoC,rfl,ds,rfl⟩:=atk fb D.apv;have aV:=Ww aos;obtain ⟨an,bg⟩:=aV.1 mk (by simp);obtain ⟨bz,kv,aD⟩:=Wf aoC (mT.ops an) dX;have yY:=aD;obtain ⟨gs,es,rfl,wk,_⟩:=yY;have anP:gs=#[]:=by
    cases gs with
    |mk l=>cases l with
     |nil=>rfl
     |cons _ _=>exact wk.elim
   subst anP;have anX:k<fn.ntmps:=bg k D.VR;have we:=mT.put (d:=J k) (λb e aw=>aw) (λt aJ=>by grind) aD;show (Code.seq _ _).wp P _ ec dX;refine wp_seq (wp_region_list ?_);unfold wpList;have r0:qK mk (yielded #[mk,p3] ec.tmps)=aa:=by unfold qK;rw[D.abA]
   rw[if_pos r0];refine .inl ?_;unfold sM;rw[kv,Oper.upon_value];unfold wpList;have ao3:qK p3 (yielded #[mk,p3] (ec.put mk.dst (.func (.func g) #[] es)).tmps)=aa:=by unfold qK;rw[D.amA]
   rw[if_pos ao3];refine .inl ?_;unfold sM;rw[D.VR];have yZ:(ec.put (J k) (.func (.func g) #[] es)).eval (.tmp k)= .func (.func g) #[] es:=by simp[Act.eval,qB,mT.size,anX]
   have anI:(execOp (ec.put (J k) (.func (.func g) #[] es)).eval p3).run P dX= .ok (.defer {target:= .fn (.func g) es,args:=#[]}) dX:=by simp[execOp,D.amB,resolve,yZ,Deferred.ofValue]
   rw[anI,Oper.upon_defer];unfold wpList;rw[D.amz];show B.wp P _ _ _;have am6:lj [{target:= .fn (.func g) es,args:=#[]}] hM fn.ntmps (set aai mk.dst (.func (.func g) #[] ds)) {(ec.put (J k) (.func (.func g) #[] es)) with defers:={target:= .fn (.func g) es,args:=#[]}::(ec.put (J k) (.func (.func g) #[] es)).defers}:=by rw[D.VR];exact ⟨we.val,by rw[we.defers],we.size⟩
   have an6:=an2.1;refine V9 n9 cW k2 (n+1) B _ _ _ _ _ hM _ dX _ aor aT wx.rel an6 am6 λa' w' c6 bb p7=> ?_;obtain ⟨v,fv,fQ⟩:=iN _ a' w' c6 (wx.trans bb) p7;obtain ⟨⟨axr,dv,z2,z3⟩,z4⟩:=D.apA;have aaH:Leaves P fn a'.tmps R a'.defers .returning w':=by
    rw[p7.defers];refine ⟨by simp,_,es,g,#[]++es,rfl, ?_,(z4 (#[]++es) w').mono ?_⟩
    ·grind [invoke,ab0]
    ·rintro e u ix ⟨⟨cc,rfl⟩,rfl,rfl⟩;exact ⟨v,fv,fQ⟩
   rcases he with rfl|rfl<;>exact aaH
  ·rw[if_neg wh] at ai;obtain ⟨rfl,rfl,rfl⟩:=ai;obtain ⟨v,fv,fQ⟩:=iN [] ec dX hM wx mT;rcases he with rfl|rfl
   ·grind
   ·show Leaves P fn ec.tmps R ec.defers .returning dX;rw[mT.defers];exact ⟨v,fv,fQ⟩
def WF.nf {m m1:Mem} (h:WF m) (aw:∀b,b<m.next->m1.blk b=m.blk b\/qe m.next (m1.blk b)):WF (m1.nf m.next) where
 dead:=λb e5=>by
  grind [Mem.nf]
 low:=λb=>by
  simp only[Mem.nf];split
  ·rename_i cF;rcases aw b cF with h1|h1
   ·rw[h1];exact h.low b
   grind
  ·exact fs
def acd {P:bI} (n9:P.follows .mixedOrders=aa):∀n,pB (jn P n)/\xf P (jn P n):=by
 intro n;induction n with
 |zero=>exact ⟨λf args m v m' h=>h.elim,λf args m v m' h=>h.elim⟩
 |succ n a1=>
  obtain ⟨cW,k2⟩:=a1;refine ⟨?_, ?_⟩
  ·intro f args m v m' h dV aR;rcases h with ⟨_,h⟩|h
   ·exact ⟨(h.2.1 dV).1,(h.2.1 dV).2,h.1⟩
   obtain ⟨fn,c,e,fr,m1,vs,bF,aw,JT,cN,kv,he,oR,rfl,fb,hm⟩:=h;have eT:=aci JT bF aw;have hU:∀t,low m.next ((args++nj (fn.ntmps - args.size) undef).getD t undef):=by
    intro t;rw[Yr]
    grind [Kz]
   obtain ⟨g1,g2,g3⟩:=BX cW n c _ _ _ _ _ eT.2.1 kv dV hU;rcases hm with rfl|⟨rfl,rT,hblk⟩
   ·refine ⟨?_,g1,g3⟩;have aV:∀(rs:List ResultVar) (vs:List af),q2 P fr m' rs vs->∀x∈vs,low m'.next x:=by
     intro rs;induction rs with
     |nil=>intro vs h x an;cases vs with|nil=>grind|cons _ _=>exact h.elim
     |cons r rs a1=>
      intro vs h x an;cases vs with
      |nil=>grind
      |cons u us=>
       rcases ha.1 an with rfl|an
       ·cases r with
        |tmp t=>have:=h.1;grind [KZ]
        |cell q t=>
         obtain ⟨b,off,_,d,bg,aD⟩:=h.1
         grind [low,iv,KX,K6,WL]
       ·exact a1 us h.2 x an
    have oO:=aV _ _ oR;rcases fb with h1|h1
    ·match vs,h1 with
     |[x],_=>exact oO x (by simp)
    ·match vs with
     |[]=>intro x an;grind
     |[x]=>exact oO x (by simp)
     |x::y::l=>intro z bx;grind [wY]
   ·exact ⟨rT,dV.nf hblk,e4 _⟩
  ·intro f args m v m' h j w kq dV cY uQ;rcases h with ⟨JT,h⟩|h
   ·refine ⟨?_,h.2.2 j w kq dV cY uQ⟩
    grind [lR]
   obtain ⟨fn,c,e,fr,m1,vs,bF,aw,JT,cN,kv,he,oR,rfl,fb,hm⟩:=h;have eT:=aci JT bF aw;refine ⟨⟨fn,bF,eT.1,eT.2.2⟩, ?_⟩;have eF:lj [] j fn.ntmps (λi=>(args++nj (fn.ntmps - args.size) undef).getD i undef) {tmps:=kq++nj (fn.ntmps - kq.size) undef,defers:=[]}:=
    ⟨aqo uQ fn.ntmps,rfl,by have:=uQ.size;grind⟩
   have aR:=BX cW n c _ _ _ _ _ eT.2.1 kv dV (eF.low cY);refine ap5 n9 cW k2 bF aw eT.2.1 kv he cY dV eF λds a' w' c6 bb p7=> ?_;obtain ⟨n0,anB,iF⟩:=abY bb.rel p7 _ _ oR;have hlen:=iF.length;have aa4:(results fn a'.tmps).run P w'= .ok (pack n0) w':=by
    simp only[results,kD];rw[afM];simp only[Sem.run_map];have anC:=anB;refine Eq.trans (congrArg (λr=>Zg (Zg r _) _) anC) ?_;simp only[jE,nt];congr 1
    match n0 with
    |[]=>rfl
    |[x]=>rfl
    |x::y::l=>rfl
   have yZ:de c6 (pack vs) (pack n0):=by
    rcases fb with h1|h1
    ·match vs,n0,h1,iF with
     |[x],[y],_,cp=>exact cp.1
     |[x],[],_,cp=>grind
     |[x],_::_::_,_,cp=>grind
    ·have ai:=aca iF h1
     match vs,n0,iF,ai with
     |[x],[y],cp,_=>exact cp.1
     |[],[],_,_=>exact ⟨_,rfl,fs⟩
     |x::y::l,jL::la::r3,_,cp=>exact ⟨_,rfl,by grind⟩
     |[x],[],cp,_=>grind
     |[x],_::_::_,cp,_=>grind
     |[],_::_,cp,_=>grind
     |_::_::_,[],cp,_=>grind
     |_::_::_,[_],cp,_=>grind
   have aaH:∃wG,Post P j m w wG m' w'/\de wG (pack vs) (pack n0):=by
    rcases hm with rfl|⟨rfl,rT,hblk⟩
    ·grind
    ·have ank:=dV.nf hblk;have hrel:Rel P (c6.below m.next) (m1.nf m.next) w':=Rel.below (m:=m1.nf m.next) bb.rel ank (λb e aw cF=>by
      grind [Mem.nf])
     refine ⟨c6.below m.next,⟨hrel,bb.gd,e4 _,λb aw=> ?_,λb e aw hA=> ?_,λb aw aM=> ?_,λb aw aM=> ?_⟩,zj.2.2 yZ rT⟩
     ·simp only[cj.below,aw,if_true];exact bb.ext b aw
     ·have:=(q3 aw).1;omega
     ·simp only[Mem.nf,aw,if_true] at aM;exact bb.ew b aw aM
     ·simp only[Mem.nf,aw,if_true] at aM;exact bb.alive b aw aM
   grind
end Go.aF
end
section
namespace Go.aF
def yg (C nk:FuncId->Array af->Mem->af->Mem->Prop):Prop:=∀f args m v m',C f args m v m'->nk f args m v m'
def hR.mono {P:bI} {C nk:FuncId->Array af->Mem->af->Mem->Prop} (cW:yg C nk) {ap:bS->af} {o:Oper} {m m':Mem} {v:af} (h:hR P C ap o m v m'):hR P nk ap o m v m':=by
 cases h with
 |store t x y b off i L e h an az hm aD bf aR=>exact .store t x y b off i L e h an az hm aD bf aR
 |call f args v m' h am3=>exact .call f args v m' h (cW _ _ _ _ _ am3)
 |vZ x y t u e i a l c h aJ az an ay s7 aZ=>exact .vZ x y t u e i a l c h aJ az an ay s7 aZ
 |sP x y t u e i z a l c n ew new h aJ az bx dw et cN an ay aM nF aZ bB aw hm=>exact .sP x y t u e i z a l c n ew new h aJ az bx dw et cN an ay aM nF aZ bB aw hm
 |yy x y t u e i b off l c k n L new h aJ az an gN nB ay hm aZ bB aR=>exact .yy x y t u e i b off l c k n L new h aJ az an gN nB ay hm aZ bB aR
 |vY x y t u e i b off l c n L new h aJ az an gN ay hm aZ bB aR=>exact .vY x y t u e i b off l c n L new h aJ az an gN ay hm aZ bB aR
 |append x y t u e i z b off l n L new h aJ az bx dw et cN an jj yS aZ bB aw hm=>exact .append x y t u e i z b off l n L new h aJ az bx dw et cN an jj yS aZ bB aw hm
 |clear x t e i z b off l c L h aJ az bx dw et an hm hV aR=>exact .clear x t e i z b off l c L h aJ az bx dw et an hm hV aR
 |copy x y t u e i b off l c L cs h aJ az an hm aZ bB aR=>exact .copy x y t u e i b off l c L cs h aJ az an hm aZ bB aR
 |mapUpdate hZ x jW j3 u bG bA b L eo vc E E' ho h jk hu an jj bp nC K yP uV yQ bF hk bs rZ J1 tg wA hb=>exact .mapUpdate hZ x jW j3 u bG bA b L eo vc E E' ho h jk hu an jj bp nC K yP uV yQ bF hk bs rZ J1 tg wA hb
def ln.mono {P:bI} {C nk:FuncId->Array af->Mem->af->Mem->Prop} (cW:yg C nk) {ap:bS->af} {o:Oper} {m m':Mem} {v:af} (h:ln P C ap o m v m'):ln P nk ap o m v m':=by
 cases h with
 |pure h=>exact .pure h
 |read h=>exact .read h
 |new h=>exact .new h
 |fX h=>exact .fX (h.mono cW)
def BP {P:bI} {C nk:FuncId->Array af->Mem->af->Mem->Prop} (cW:yg C nk) {ops:List Oper}:∀(l:List Oper) (fr cb:Nat->af) (m m':Mem),k6 P C ops l fr m cb m'->k6 P nk ops l fr m cb m'
 |[],fr,cb,m,m',h=>h
 |o::l,fr,cb,m,m',h=>by
  simp only[k6] at h⊢;split at h
  ·rename_i hw;rw[if_pos hw];obtain ⟨v,m1,h1,ai⟩:=h;exact ⟨v,m1,h1.mono cW,BP cW l _ _ _ _ ai⟩
  ·rename_i hw;rw[if_neg hw];exact BP cW l _ _ _ _ h
def vd {P:bI} {C nk:FuncId->Array af->Mem->af->Mem->Prop} (cW:yg C nk) {ops:List Oper} {B:Array Nat}:∀(l:List Oper) (i:Nat) (A:Acc) (fr cb:Nat->af) (m m':Mem),hW P C ops B i l A fr m cb m'->hW P nk ops B i l A fr m cb m'
 |[],i,A,fr,cb,m,m',h=>h
 |o::l,i,A,fr,cb,m,m',h=>by
  simp only[hW] at h⊢;split at h
  ·rename_i hw;rw[if_pos hw];rcases h with ⟨v,bb,bg⟩|⟨v,bb,aM,bg⟩|⟨X,v,bb,bg⟩|⟨v,m1,bb,h1,ai,bg⟩
   ·exact .inl ⟨v,bb,vd cW l _ _ _ _ _ _ bg⟩
   ·exact .inr (.inl ⟨v,bb,aM,vd cW l _ _ _ _ _ _ bg⟩)
   ·exact .inr (.inr (.inl ⟨X,v,bb,vd cW l _ _ _ _ _ _ bg⟩))
   ·exact .inr (.inr (.inr ⟨v,m1,bb.mono cW,h1,ai,vd cW l _ _ _ _ _ _ bg⟩))
  ·rename_i hw;rw[if_neg hw];exact vd cW l _ _ _ _ _ _ h
def ab7 {P:bI} {C nk:FuncId->Array af->Mem->af->Mem->Prop} (cW:yg C nk):∀(n n':Nat),n<=n'->∀(c:Code) (fr cb:Nat->af) (m m':Mem) (e:fG),lS P C n c fr m e cb m'->lS P nk n' c fr m e cb m':=by
 intro n;induction n with
 |zero=>intro n' _ c fr cb m m' e h;exact h.elim
 |succ n a1=>
  intro n' bB c fr cb m m' e h;cases n' with
  |zero=>omega
  |succ n'=>
   have p9:n<=n':=by omega
   cases c with
   |skip=>exact h
   |label l=>exact h
   |exit id=>exact h
   |ret=>exact h
   |region id ops d=>
    cases d with
    |false=>exact ⟨h.1,BP cW _ _ _ _ _ h.2⟩
    |true=>exact ⟨h.1,vd cW _ _ _ _ _ _ _ h.2⟩
   |seq a b=>
    rcases h with ⟨bX,fY,m1,h1,ai⟩|h
    rotate_left
    ·exact .inr h
    refine .inl ⟨bX,fY,m1,a1 n' p9 _ _ _ _ _ _ h1, ?_⟩
    grind
   |cond c a b=>obtain ⟨t,aJ,h1⟩:=h;exact ⟨t,aJ,a1 n' p9 _ _ _ _ _ _ h1⟩
   |scope c=>exact a1 n' p9 _ _ _ _ _ _ h
   |block id c=>obtain ⟨bX,h1,he⟩:=h;exact ⟨bX,a1 n' p9 _ _ _ _ _ _ h1,he⟩
   |loop c=>
    obtain ⟨bX,fY,m1,h1,ai⟩:=h;refine ⟨bX,fY,m1,a1 n' p9 _ _ _ _ _ _ h1, ?_⟩
    grind
   |rangeFunc f cQ x y=>exact h.elim
   |goto l=>exact h.elim
   |refuse s=>exact h.elim
def wV {P:bI}:∀(n n':Nat),n<=n'->yg (jn P n) (jn P n'):=by
 intro n;induction n with
 |zero=>intro n' _ f args m v m' h;exact h.elim
 |succ n a1=>
  intro n' bB f args m v m' h;cases n' with
  |zero=>omega
  |succ n'=>
   rcases h with h|h
   ·exact .inl h
   obtain ⟨fn,c,e,fr,m1,vs,bF,aw,eT,cN,kv,rest⟩:=h;exact .inr ⟨fn,c,e,fr,m1,vs,bF,aw,eT,cN,ab7 (a1 n' (by omega)) n n' (by omega) _ _ _ _ _ _ kv,rest⟩
def h2 (P:bI) (f:FuncId) (args:Array af) (m:Mem) (R:af->Mem->Prop):Prop:=∃n v m',jn P n f args m v m'/\R v m'
def W (P:bI) (c:Code) (Q:fG->(Nat->af)->Mem->Prop) (fr:Nat->af) (m:Mem):Prop:=∃n e cb m',lS P (jn P n) n c fr m e cb m'/\Q e cb m'
def mr (P:bI) (ap:bS->af) (o:Oper) (m:Mem) (K:af->Mem->Prop):Prop:=∃n v m',ln P (jn P n) ap o m v m'/\K v m'
def ea (P:bI) (ops l:List Oper) (K:(Nat->af)->Mem->Prop) (fr:Nat->af) (m:Mem):Prop:=∃n cb m',k6 P (jn P n) ops l fr m cb m'/\K cb m'
def hQ (P:bI) (ops:List Oper) (B:Array Nat) (i:Nat) (l:List Oper) (A:Acc) (K:(Nat->af)->Mem->Prop) (fr:Nat->af) (m:Mem):Prop:=∃n cb m',hW P (jn P n) ops B i l A fr m cb m'/\K cb m'
section
variable {P:bI} {Q AH:fG->(Nat->af)->Mem->Prop} {fr:Nat->af} {m:Mem}
def h2.mono {f:FuncId} {args:Array af} {R Y8:af->Mem->Prop} (h:h2 P f args m R) (aV:∀v m',R v m'->Y8 v m'):h2 P f args m Y8:=
 let ⟨n,v,m',h1,ai⟩:=h;⟨n,v,m',h1,aV _ _ ai⟩
def W.mono {c:Code} (h:W P c Q fr m) (bm:∀e fr m,Q e fr m->AH e fr m):W P c AH fr m:=
 let ⟨n,e,cb,m',h1,ai⟩:=h;⟨n,e,cb,m',h1,bm _ _ _ ai⟩
def W.skip (h:Q .normal fr m):W P .skip Q fr m:=⟨1,_,_,_,⟨rfl,rfl,rfl⟩,h⟩
def W.label {l:Nat} (h:Q .normal fr m):W P (.label l) Q fr m:=⟨1,_,_,_,⟨rfl,rfl,rfl⟩,h⟩
def W.exit {id:Nat} (h:Q (.exit id) fr m):W P (.exit id) Q fr m:=⟨1,_,_,_,⟨rfl,rfl,rfl⟩,h⟩
def W.ret (h:Q .ret fr m):W P .ret Q fr m:=⟨1,_,_,_,⟨rfl,rfl,rfl⟩,h⟩
def afi (next:(Nat->af)->Mem->Prop) (Q:fG->(Nat->af)->Mem->Prop):fG->(Nat->af)->Mem->Prop| .normal,fr,m=>next fr m|e,fr,m=>Q e fr m
def pZ (id:Nat) (Q:fG->(Nat->af)->Mem->Prop):fG->(Nat->af)->Mem->Prop| .exit J3,fr,m=>if J3=id then Q .normal fr m else Q (.exit J3) fr m|e,fr,m=>Q e fr m
def q7 {n N k:Nat} (h:n<=N) (hk:n<=k) {c:Code} {fr cb:Nat->af} {m m':Mem} {e:fG} (ay:lS P (jn P n) n c fr m e cb m'):lS P (jn P N) k c fr m e cb m':=ab7 (wV n N h) n k hk _ _ _ _ _ _ ay
def W.seq {a b:Code} (h:W P a (afi (W P b Q) Q) fr m):W P (.seq a b) Q fr m:=by
 obtain ⟨n,e,fY,m1,h1,ai⟩:=h;cases e with
 |normal=>obtain ⟨mX,e2,ic,m2,aT,br⟩:=ai;exact ⟨max n mX+1,e2,ic,m2, .inl ⟨_,_,_,q7 (by omega) (by omega) h1,by rw[if_pos rfl];exact q7 (by omega) (by omega) aT⟩,br⟩
 |exit id=>exact ⟨n+1,_,fY,m1, .inl ⟨_,_,_,q7 (by omega) (by omega) h1,by grind⟩,ai⟩
 |ret=>exact ⟨n+1,_,fY,m1, .inl ⟨_,_,_,q7 (by omega) (by omega) h1,by grind⟩,ai⟩
def W.cond {c:bS} {a b:Code} {t:Bool} (aJ:bk fr c= .bool t) (h:W P (if t then a else b) Q fr m):W P (.cond c a b) Q fr m:=by
 obtain ⟨n,e,fY,m1,h1,ai⟩:=h;exact ⟨n+1,e,fY,m1,⟨t,aJ,q7 (by omega) (by omega) h1⟩,ai⟩
def W.block {id:Nat} {c:Code} (h:W P c (pZ id Q) fr m):W P (.block id c) Q fr m:=by
 obtain ⟨n,e,fY,m1,h1,ai⟩:=h;refine ⟨n+1,_,fY,m1,⟨e,q7 (by omega) (by omega) h1,rfl⟩, ?_⟩;cases e with
 |normal=>grind [pZ]
 |exit J3=>
  grind [pZ]
 |ret=>grind [pZ]
def W.scope {c:Code} (h:W P c Q fr m):W P (.scope c) Q fr m:=by
 obtain ⟨n,e,fY,m1,h1,ai⟩:=h;exact ⟨n+1,e,fY,m1,(show lS P (jn P (n+1)) n c fr m e fY m1 from q7 (by omega) (by omega) h1),ai⟩
def W.apr {c:Code} (h:W P c (afi (W P (.loop c) Q) Q) fr m):W P (.loop c) Q fr m:=by
 obtain ⟨n,e,fY,m1,h1,ai⟩:=h;cases e with
 |normal=>obtain ⟨mX,e2,ic,m2,aT,br⟩:=ai;exact ⟨max n mX+1,e2,ic,m2,⟨_,_,_,q7 (by omega) (by omega) h1,by rw[if_pos rfl];exact q7 (by omega) (by omega) aT⟩,br⟩
 |exit id=>exact ⟨n+1,_,fY,m1,⟨_,_,_,q7 (by omega) (by omega) h1,by grind⟩,ai⟩
 |ret=>exact ⟨n+1,_,fY,m1,⟨_,_,_,q7 (by omega) (by omega) h1,by grind⟩,ai⟩
def W.region {id:Nat} {ops:Array Oper} (h:ea P ops.toList ops.toList (Q .normal) fr m):W P (.region id ops ak) Q fr m:=by
 obtain ⟨n,cb,m',h1,ai⟩:=h;exact ⟨n+1, .normal,cb,m',⟨rfl,BP (wV _ _ (mo _)) _ _ _ _ _ h1⟩,ai⟩
def W.draw {id:Nat} {ops:Array Oper} (h:hQ P ops.toList (kp ops) 0 ops.toList ⟨[],[],[]⟩ (Q .normal) fr m):W P (.region id ops aa) Q fr m:=by
 obtain ⟨n,cb,m',h1,ai⟩:=h;exact ⟨n+1, .normal,cb,m',⟨rfl,vd (wV _ _ (mo _)) _ _ _ _ _ _ _ h1⟩,ai⟩
end
section
variable {P:bI} {ops l:List Oper} {K:(Nat->af)->Mem->Prop} {fr:Nat->af} {m:Mem} {o:Oper}
def ea.nil (h:K fr m):ea P ops [] K fr m:=⟨0,_,_,⟨rfl,rfl⟩,h⟩
def ea.skip (bs:wanted ops fr o=ak) (h:ea P ops l K (set fr o.dst undef) m):ea P ops (o::l) K fr m:=by
 obtain ⟨n,cb,m',h1,ai⟩:=h;refine ⟨n,cb,m', ?_,ai⟩
 grind [k6]
theorem ea.cons (bs:wanted ops fr o=aa) (h:mr P (bk fr) o m λv m1=>ea P ops l K (set fr o.dst v) m1):ea P ops (o::l) K fr m:=by
 obtain ⟨n,v,m1,bf,mX,cb,m',h1,ai⟩:=h;refine ⟨max n mX,cb,m', ?_,ai⟩;simp only[k6];rw[if_pos bs];exact ⟨v,m1,bf.mono (wV _ _ (Nat.le_max_left _ _)),BP (wV _ _ (Nat.le_max_right _ _)) _ _ _ _ _ h1⟩
theorem mr.pure {ap:bS->af} {R:af->Mem->Prop} {v:af} (h:dD P ap o v) (hk:R v m):mr P ap o m R:=⟨0,v,m, .pure h,hk⟩
theorem mr.read {ap:bS->af} {R:af->Mem->Prop} {v:af} (h:fH P ap o m v) (hk:R v m):mr P ap o m R:=⟨0,v,m, .read h,hk⟩
theorem mr.new {ap:bS->af} {R:af->Mem->Prop} {v:af} {X:bW} (h:jC P ap o m.next X v) (hk:R v (m.push X)):mr P ap o m R:=⟨0,v,_, .new h,hk⟩
theorem mr.fX {ap:bS->af} {R:af->Mem->Prop} {v:af} {m':Mem} {n:Nat} (h:hR P (jn P n) ap o m v m') (hk:R v m'):mr P ap o m R:=⟨n,v,m', .fX h,hk⟩
end
def h2.enter {P:bI} {f:FuncId} {fn:Func} {c:Code} {args:Array af} {m:Mem} {R:af->Mem->Prop} (bF:P.funcs[f]? =J fn) (aw:qm P fn c) (eT:lR P f=aa) (cN:args.size<=fn.ntmps)
  (h:W P c (λe fr m1=>(e= .normal\/e= .ret)/\∃vs,q2 P fr m1 fn.results.toList vs/\(vs.length=1\/∀x∈vs,storable x=aa)/\
   (R (pack vs) m1\/(R (pack vs) (m1.nf m.next)/\low m.next (pack vs)/\∀b,b<m.next->m1.blk b=m.blk b\/qe m.next (m1.blk b))))
   (λi=>(args++nj (fn.ntmps - args.size) undef).getD i undef) m):h2 P f args m R:=by
 obtain ⟨n,e,fr,m1,h1,he,vs,aD,bf,cY⟩:=h;rcases cY with cY|⟨cY,aR,UW⟩
 ·exact ⟨n+1,_,_, .inr ⟨fn,c,e,fr,m1,vs,bF,aw,eT,cN,h1,he,aD,rfl,bf, .inl rfl⟩,cY⟩
 ·exact ⟨n+1,_,_, .inr ⟨fn,c,e,fr,m1,vs,bF,aw,eT,cN,h1,he,aD,rfl,bf, .inr ⟨rfl,aR,UW⟩⟩,cY⟩
def h2.sort {P:bI} {f:FuncId} {args:Array af} {m m':Mem} {v:af} {R:af->Mem->Prop} (eT:lR P f=aa) (h:LB P f args m v m') (cY:R v m'):h2 P f args m R:=⟨1,v,m', .inl ⟨eT,h⟩,cY⟩
def h5 (w:World):cj:=λb=>if b<w.heap.size then J ⟨b,0,0,0⟩ else ae
def xt (b:Nat):af->Option af| .slice (J _) 0 0=>J (.slice (J ⟨b,0,ae⟩) 0 0)|_=>ae
open Classical in
noncomputable def ig (w:World):Mem:={next:=w.heap.size,blk:=λb=>if b<w.heap.size then .ro (λi=>match w.cell? ⟨b,i,ae⟩ with|some v=>if eA (h5 w) v v then J v else xt b v|none=>ae) else .dead}
def acp {b:Nat} {v u:af} (h:xt b v=J u):∃a,v= .slice (J a) 0 0/\u= .slice (J ⟨b,0,ae⟩) 0 0:=by
 unfold xt at h
 grind
def w1 {w:World} {b:Nat} {e:kl} (h:h5 w b=J e):b<w.heap.size/\e.blk=b:=by
 grind [h5]
def adH {w:World} {b:Nat} {e:kl} (h:h5 w b=J e):e.db=0:=by
 grind [h5]
def arb {w:World} {b i:Nat} {v:af} (h:w.cell? ⟨b,i,ae⟩=J v) (aD:eA (h5 w) v v):(ig w).load b i=J v:=by
 have cF:b<w.heap.size:=I8 w ⟨b,i,ae⟩ h;simp[Mem.load,ig,cF,h,aD]
def ad8 (w:World):WF (ig w) where
 dead:=λb aw=>by have aw:w.heap.size<=b:=aw;simp[ig,show ¬b<w.heap.size by omega]
 low:=λb=>by
  simp only[ig];split
  ·intro i v az;simp only at az;split at az
   ·split at az
    ·rename_i aD;cases az;exact (Lf (λb e h=>(w1 h).1)).1 aD
    ·obtain ⟨a,_,rfl⟩:=acp az;assumption
   ·cases az
  ·exact fs
def arC (P:bI) (w:World) (aJ:rE P w):Rel P (h5 w) (ig w) w:=by
 refine ⟨⟨?_, ?_, ?_⟩,aJ,λb e aw aM=>by obtain ⟨h1,ai⟩:=w1 aw;simp[ig,h1,bW.iO] at aM⟩
 ·intro b e aw;obtain ⟨h1,ai⟩:=w1 aw;exact ⟨h1,by rw[ai];exact h1⟩
 ·intro b e aw;obtain ⟨h1,ai⟩:=w1 aw;simp only[ig,h1,if_true];intro i v az;simp only at az;have cell:∀u,w.cell? ⟨b,i,ae⟩=J u->∃(cs:Array af) (t:bV) (bZ:Nat×Nat),w.heap[e.blk]? =J (.cells cs t bZ)/\cs[i]? =J u:=by
   intro u hu;rw[ai];simp only[rG] at hu;split at hu
   ·rename_i c t f ay;exact ⟨c,t,f,ay,by simpa using hu⟩
   ·cases hu
  split at az
  ·rename_i u hu;obtain ⟨cs,t,bZ,g1,g2⟩:=cell u hu;split at az
   ·rename_i aD;cases az;exact ⟨cs,t,bZ,_,g1,by rw[adH aw,lH];exact g2,aD⟩
   ·obtain ⟨a,rfl,rfl⟩:=acp az;exact ⟨cs,t,bZ,_,g1,by rw[adH aw,lH];exact g2,e,rfl,aw, .inr (.inr (.inr (.inl ⟨rfl,rfl,a,rfl⟩)))⟩
  ·cases az
 ·intro b dJ e cz aw e5 aM;obtain ⟨h1,ai⟩:=w1 aw;simp[ig,h1,bW.iO] at aM
def aqc {P:bI} (n9:P.follows .mixedOrders=aa) {f:FuncId} {args:Array af} {w:World} (aJ:rE P w) (uQ:∀a∈args.toList,de (h5 w) a a) (h:h2 P f args (ig w) λv _=>v= .bool aa):
  Calls P f args w λe w'=>e= .returned (.bool aa)/\RowKit.Below w.heap.size w w':=by
 obtain ⟨n,v,m',h1,rfl⟩:=h;have bf:=(acd n9 n).2 f args (ig w) _ m' h1 (h5 w) w args (ad8 w) (arC P w aJ) (by
  have:∀l:List af,(∀a∈l,de (h5 w) a a)->bP (de (h5 w)) l l:=by
   intro l;induction l with
   |nil=>intro _;exact fs
   |cons a l a1=>intro h;exact ⟨h a (by simp),a1 λb aw=>h b (by simp[aw])⟩
  exact this _ uQ)
 refine bf.2.mono ?_;rintro e w' ⟨bz,c6,rfl,bb,aD⟩;have iF:=aD.bool;subst iF;refine ⟨rfl,bb.gd.os,bb.gd.tape,bb.gd.output,bb.gd.size,λk hk=>bb.gd.block k hk λb e aw aM=> ?_⟩;obtain ⟨h1,ai⟩:=w1 aw;simp[ig,h1,bW.iO] at aM
end Go.aF
end
section
namespace Go.aF
def bW.iD:bW->Prop| .dead| .lock _ _ _ _=>False|_=>True
def bW.mem:bW->bW| .lock _ _ L t=> .own L t|b=>b
def bW.iD.ne {x:bW} (h:x.iD):x≠ .dead:=λe=>by rw[e] at h;exact h
def bW.iD.mem {x:bW} (h:x.iD):x.mem=x:=by cases x<;>first|rfl|exact h.elim
def lk (z:Nat->bW) (m:Mem):Prop:=∀b,z b≠ .dead->m.blk b=(z b).mem/\b<m.next
def lk.iD {z:Nat->bW} {m:Mem} (h:lk z m) {b:Nat} (aw:(z b).iD):m.blk b=z b/\b<m.next:=by
 have:=h b aw.ne;rw[aw.mem] at this
 grind
def fl (z z':Nat->bW):Prop:=∀b,(z b).iD->z' b=z b
theorem fl.refl (z:Nat->bW):fl z z:=λ_ _=>rfl
def fl.trans {a b c:Nat->bW} (h:fl a b) (k:fl b c):fl a c:=λx an=>by
 have h1:=h x an;rw[k x (by grind),h1]
def nH (z:Nat->bW) (b o:Nat):Option af:=match z b with| .ro rd=>rd o| .own L _=>L[o]?| .map _ _=>ae| .lock _ _ _ _=>ae| .dead=>ae
theorem w5 {z:Nat->bW} {b o:Nat} {v:af} (h:nH z b o=J v):(z b).iD:=by
 unfold nH at h;cases bx:z b with
 |dead=>grind
 |lock _ _ _ _=>grind
 |_=>exact fs
def ar3 {z z':Nat->bW} (h:fl z z') {b o:Nat} {v:af} (aR:nH z b o=J v):nH z' b o=J v:=by
 have:=h b (w5 aR)
 grind [nH]
def KO {z:Nat->bW} {m:Mem} (h:lk z m) {b o:Nat} {v:af} (aR:nH z b o=J v):m.load b o=J v:=by
 have:=(h b (w5 aR).ne).1;rw[(w5 aR).mem] at this
 grind [nH,Mem.load]
structure cM (aK:Type) where
 bM:Nat
 tid:bV
 rd:(Nat->bW)->aK->List af->Prop
 len:∀z x cs,rd z x cs->cs.length=bM
 mono:∀z z',fl z z'->∀x cs,rd z x cs->rd z' x cs
 one:∀z x cs,rd z x cs->∀c∈cs,storable c=aa/\c.cells=#[c]
def o2 (z:Nat->bW) (b o:Nat) (cs:List af):Prop:=∀(i:Nat) (u:af),cs[i]? =J u->nH z b (o+i)=J u
def ql (L:List af) (o:Nat) (cs:List af):Prop:=∀(i:Nat) (u:af),cs[i]? =J u->L[o+i]? =J u
def fA {aK:Type} (T:cM aK) (z:Nat->bW) (xs:List aK) (v:af):Prop:=
 (v= .slice ae 0 0/\xs=[])\/
 ∃b off c,v= .slice (J ⟨b,off,ae⟩) xs.length c/\(z b).iD/\((c=dc/\∃L,z b= .own L T.tid/\off+xs.length*T.bM<=L.length)\/(c<dc/\xs.length<=c))/\
  ∀(i:Nat) (x:aK),xs[i]? =J x->∃cs,T.rd z x cs/\o2 z b (off+i*T.bM) cs
def Kp {z z':Nat->bW} (h:fl z z') {b o:Nat} {cs:List af} (ay:o2 z b o cs):o2 z' b o cs:=λi u az=>ar3 h (ay i u az)
def fA.mono {aK:Type} {T:cM aK} {z z':Nat->bW} (h:fl z z') {xs:List aK} {v:af} (bf:fA T z xs v):fA T z' xs v:=by
 rcases bf with bf|⟨b,off,c,h1,ai,aT,br⟩
 ·exact .inl bf
 ·refine .inr ⟨b,off,c,h1,by rw[h b ai];grind, ?_,λi x az=> ?_⟩
  ·rcases aT with ⟨aT,L,cK,fJ⟩|aT
   ·exact .inl ⟨aT,L,by rw[h b ai];grind,fJ⟩
   grind
  ·obtain ⟨cs,g1,g2⟩:=br i x az;exact ⟨cs,T.mono z z' h x cs g1,Kp h g2⟩
def fA.nil {aK:Type} {T:cM aK} {z:Nat->bW}:fA T z [] (.slice ae 0 0):= .inl ⟨rfl,rfl⟩
def fA.len {aK:Type} {T:cM aK} {z:Nat->bW} {xs:List aK} {v:af} (h:fA T z xs v):∃a c,v= .slice a xs.length c:=by
 rcases h with ⟨rfl,rfl⟩|⟨b,off,c,rfl,_⟩
 ·simp_all
 grind
def da:af->Option Nat| .slice (J a) _ _=>J a.block| .pointer (J a)=>J a.block|_=>ae
def fO {aK:Type} (T:cM aK) (z:Nat->bW) (m:Mem) (xs:List aK) (v:af):Prop:=
 (v= .slice ae 0 0/\xs=[])\/
 ∃b o L c,v= .slice (J ⟨b,o,ae⟩) xs.length c/\m.blk b= .own L T.tid/\b<m.next/\z b= .dead/\o+xs.length*T.bM<=L.length/\(c=dc\/(c<dc/\xs.length<=c/\o+c*T.bM<=L.length))/\
  ∀(i:Nat) (x:aK),xs[i]? =J x->∃cs,T.rd z x cs/\ql L (o+i*T.bM) cs
def fO.AW {aK:Type} {T:cM aK} {z:Nat->bW} {m:Mem} {xs:List aK} {v:af} (h:∃b L c,v= .slice (J ⟨b,0,ae⟩) xs.length c/\m.blk b= .own L T.tid/\b<m.next/\z b= .dead/\xs.length*T.bM<=L.length/\(c=dc\/(c<dc/\xs.length<=c/\c*T.bM<=L.length))/\
  ∀(i:Nat) (x:aK),xs[i]? =J x->∃cs,T.rd z x cs/\ql L (i*T.bM) cs):fO T z m xs v:=by
 obtain ⟨b,L,c,h1,ai,aT,br,cK,fJ,jH⟩:=h;exact .inr ⟨b,0,L,c,h1,ai,aT,br,by grind,by grind,λi x an=>by grind⟩
def fO.nil {aK:Type} {T:cM aK} {z:Nat->bW} {m:Mem}:fO T z m [] (.slice ae 0 0):= .inl ⟨rfl,rfl⟩
def fO.frame {aK:Type} {T:cM aK} {z:Nat->bW} {m m':Mem} {xs:List aK} {v:af} (h:fO T z m xs v) (aw:∀b,da v=J b->b<m.next->m'.blk b=m.blk b/\b<m'.next):fO T z m' xs v:=by
 rcases h with h|⟨b,o,L,c,rfl,h1,ai,aT,br,cK,fJ⟩
 ·exact .inl h
 ·obtain ⟨g1,g2⟩:=aw b rfl ai;exact .inr ⟨b,o,L,c,rfl,by grind,g2,aT,br,cK,fJ⟩
def fO.lt {aK:Type} {T:cM aK} {z:Nat->bW} {m:Mem} {xs:List aK} {v:af} (h:fO T z m xs v):∀b,da v=J b->b<m.next/\z b= .dead:=by
 rcases h with ⟨rfl,_⟩|⟨b,o,L,c,rfl,h1,ai,aT,_⟩
 ·intro b aw;cases aw
 ·intro dJ aw;cases aw;grind
def fO.len {aK:Type} {T:cM aK} {z:Nat->bW} {m:Mem} {xs:List aK} {v:af} (h:fO T z m xs v):∃a c,v= .slice a xs.length c:=by
 rcases h with ⟨rfl,rfl⟩|⟨b,o,L,c,rfl,_⟩
 ·simp_all
 grind
def jT (z:Nat->bW) (m:Mem) (p:Option Nat):Nat->bW:=λb=>if p=J b then m.blk b else z b
def Cj {z:Nat->bW} {m:Mem} {p:Option Nat} (h:∀b,p=J b->z b= .dead):fl z (jT z m p):=by
 intro b aw;unfold jT;split
 ·exact absurd (h b ‹_›) aw.ne
 rfl
def Lj {z:Nat->bW} {m:Mem} {p:Option Nat} (h:lk z m) (bb:∀b,p=J b->b<m.next/\(m.blk b).mem=m.blk b):lk (jT z m p) m:=by
 intro b aw;unfold jT at aw⊢;split at aw
 ·grind
 ·rw[if_neg ‹_›];exact h b aw
def fO.awh {aK:Type} {T:cM aK} {z:Nat->bW} {m:Mem} {xs:List aK} {v:af} (h:fO T z m xs v):fA T (jT z m (da v)) xs v:=by
 rcases h with h|⟨b,o,L,c,rfl,h1,ai,aT,br,cK,fJ⟩
 ·exact .inl h
 ·have bx:jT z m (da (.slice (J ⟨b,o,ae⟩) xs.length c)) b= .own L T.tid:=by grind [jT,da]
  have hle:fl z (jT z m (da (.slice (J ⟨b,o,ae⟩) xs.length c))):=Cj λdJ e5=>by cases e5;grind
  refine .inr ⟨b,o,c,rfl,by rw[bx];exact fs, ?_,λi x az=> ?_⟩
  ·grind
  ·obtain ⟨cs,g1,g2⟩:=fJ i x az;refine ⟨cs,T.mono _ _ hle x cs g1,λk u hk=> ?_⟩;simp only[nH,bx];exact g2 k u hk
def e6 (p q:Option Nat):Prop:=∀b,p=J b->q≠J b
def e6.symm {p q:Option Nat} (h:e6 p q):e6 q p:=λb bm bb=>h b bb bm
def e6.qg {q:Option Nat}:e6 q Option.none:=λ_ _ h=>by grind
structure dL (z:Nat->bW) (e m:Mem) (k:Option Nat):Prop where
 bZ:lk z m
 dead:∀b,m.next<=b->m.blk b= .dead
 oL:∀b,e.next<=b->e.blk b= .dead
 next:e.next<=m.next
 kept:∀b,b<e.next->k≠J b->m.blk b=e.blk b
def dL.start {z:Nat->bW} {m:Mem} {k:Option Nat} (h:lk z m) (bg:∀b,m.next<=b->m.blk b= .dead):dL z m m k:=⟨h,bg,bg,e4 _,λ_ _ _=>rfl⟩
def dL.push {z:Nat->bW} {e m:Mem} {k:Option Nat} (h:dL z e m k) (x:bW):dL z e (m.push x) k:=by
 refine ⟨λb aw=> ?_,λb aw=> ?_,h.oL,Nat.le_succ_of_le h.next,λb aw hk=> ?_⟩
 ·have:=h.bZ b aw
  grind [Mem.push]
 ·simp only[Mem.push] at aw⊢;rw[if_neg (by omega)];exact h.dead b (by omega)
 ·simp only[Mem.push];have:=h.next;rw[if_neg (by omega)];exact h.kept b aw hk
def dL.put {z:Nat->bW} {e m:Mem} {k:Option Nat} (h:dL z e m k) {b:Nat} (x:bW) (bx:z b= .dead) (cF:b<m.next) (aw:e.next<=b\/k=J b):dL z e (m.put b x) k:=by
 refine ⟨λc ay=> ?_,λc ay=> ?_,h.oL,h.next,λc ay hk=> ?_⟩
 ·have:=h.bZ c ay
  grind [Mem.put]
 ·have ay:m.next<=c:=ay;simp only[Mem.put];rw[if_neg (by omega)];exact h.dead c ay
 ·simp only[Mem.put];rw[if_neg ?_]
  ·exact h.kept c ay hk
  grind
structure gl (m m':Mem) (k:Option Nat):Prop where
 next:m.next<=m'.next
 dead:∀b,m'.next<=b->m'.blk b= .dead
 blk:∀b,b<m.next->k≠J b->m'.blk b=m.blk b
def dL.same {z:Nat->bW} {e m m':Mem} {k q:Option Nat} (h:dL z e m k) (s:gl m m' q) (bm:∀b,q=J b->z b= .dead/\(e.next<=b\/k=J b)):dL z e m' k:=by
 refine ⟨λb aw=> ?_,s.dead,h.oL,jd h.next s.next,λb aw hk=> ?_⟩
 ·have:=h.bZ b aw;refine ⟨?_,hS this.2 s.next⟩;rw[s.blk b this.2 (λuY=>aw (bm b uY).1)]
  grind
 ·rw[s.blk b (hS aw h.next) (λuY=> ?_)]
  ·exact h.kept b aw hk
  grind
def dL.awi {z:Nat->bW} {e m:Mem} (h:dL z e m ae):m.nf e.next=e:=by
 have:(m.nf e.next).blk=e.blk:=by
  funext b;simp only[Mem.nf];split
  ·exact h.kept b ‹_› (by simp)
  ·exact (h.oL b (by omega)).symm
 simp_all [Mem.nf]
def cM.flat {aK:Type} (t:bV) (f:aK->af) (bF:∀x,dy (f x)=aa):cM aK where
 bM:=1
 tid:=t
 rd:=λ_ x cs=>cs=[f x]
 len:=λ_ _ _ h=>by rw[h];rfl
 mono:=λ_ _ _ _ _ h=>h
 one:=λ_ x cs h c ay=>by rw[h] at ay;simp only[IM] at ay;subst ay;have:=bF x;cases an:f x<;>simp[an,dy] at this<;>first|exact ⟨rfl,rfl⟩|exact ⟨by simp[storable,this],rfl⟩
def str (s:List UInt8):af:= .string ⟨s.toArray⟩
def I4 (t:bV) (k:aG):cM Int:=cM.flat t (λn=> .int k n) λ_=>rfl
def Cn (t:bV):cM Bool:=cM.flat t (λn=> .bool n) λ_=>rfl
def I5 (t:bV):cM (List UInt8):=cM.flat t str λ_=>rfl
def TV {aK:Type} (t:bV) (T:cM aK):cM (List aK) where
 bM:=1
 tid:=t
 rd:=λz xs cs=>∃v,cs=[v]/\fA T z xs v
 len:=λ_ _ _ h=>by obtain ⟨v,rfl,_⟩:=h;rfl
 mono:=λ_ _ h _ _ cp=>by obtain ⟨v,h1,ai⟩:=cp;exact ⟨v,h1,ai.mono h⟩
 one:=λ_ _ cs h c ay=>by obtain ⟨v,rfl,ai⟩:=h;simp only[IM] at ay;subst ay;obtain ⟨a,n,rfl⟩:=ai.len;exact ⟨rfl,rfl⟩
end Go.aF
end
section
namespace Go.aF
section
variable {P:bI} {ap:bS->af} {o:Oper}
def tF {x y:bS} (h:o.op.operands=#[x,y]) {v:af} (bf:∀cs b,o.op≠ .select cs b) (an:flat (ap x)=aa) (aZ:flat (ap y)=aa) (aD:flat v=aa) (aV:∀w,(execOp ap o).run P w= .ok (.value v) w):dD P ap o v:=by
 refine .flat v bf (λz bx=> ?_) aD aV
 grind
def Li {x:bS} (h:o.op.operands=#[x]) {v:af} (bf:∀cs b,o.op≠ .select cs b) (an:flat (ap x)=aa) (aD:flat v=aa) (aV:∀w,(execOp ap o).run P w= .ok (.value v) w):dD P ap o v:=by
 refine .flat v bf (λz bx=> ?_) aD aV
 grind
def auR {x:bS} {v:af} (h:o.op= .move x) (an:ap x=v):dD P ap o v:=an▸ .move x (.inl h)
def asF {x:bS} {v:af} (h:o.op= .assign x) (an:ap x=v):dD P ap o v:=an▸ .move x (.inr h)
def aeH {c a b:bS} {t:Bool} {v:af} (h:o.op= .pick c a b) (ay:ap c= .bool t) (aD:(if t then ap a else ap b)=v):dD P ap o v:=aD▸ .pick c a b t h ay
def adm {x:bS} {i:Nat} {vs:List af} {v:af} (h:o.op= .extract x i) (an:ap x= .tuple vs.toArray) (aD:vs[i]? =J v):dD P ap o v:= .extract x i _ v h an (by simpa using aD)
section
variable {x y:bS} {t u:bV} {k:aG} {a b:Int}
def om {op:BinOp} (h:o.op= .binOp op t x y u) (an:ap x= .int k a) (aZ:ap y= .int k b) {v:af} (rW:∀w,(binOp op t (.int k a) (.int k b)).run P w= .ok v w) (aD:flat v=aa):dD P ap o v:=by
 refine tF (x:=x) (y:=y) (by rw[h];rfl) (by grind) (by rw[an];rfl) (by rw[aZ];rfl) aD λw=> ?_;simp_all [eqGuard,execOp]
def oj {op:BinOp} (h1:op≠ .shl) (ai:op≠ .shr) (w:World):(binOp op t (.int k a) (.int k b)).run P w=(match op with
   | .add| .sub| .mul=>Op.intArith op k a b
   | .quo| .rem=>Op.intDiv op k a b
   | .and| .or| .xor| .andNot=>Op.intBits op k a b
   |_=>Op.intCmp op a b).run P w:=by
 cases op<;>first|exact absurd rfl h1|exact absurd rfl ai|grind [binOp]
def apO (h:o.op= .binOp .add t x y u) (an:ap x= .int k a) (aZ:ap y= .int k b):dD P ap o (.int k (k.wrap (a+b))):=om h an aZ (λw=>by rw[oj (by simp) (by simp)];rfl) rfl
def apZ (h:o.op= .binOp .sub t x y u) (an:ap x= .int k a) (aZ:ap y= .int k b):dD P ap o (.int k (k.wrap (a - b))):=om h an aZ (λw=>by rw[oj (by simp) (by simp)];rfl) rfl
def apU (h:o.op= .binOp .mul t x y u) (an:ap x= .int k a) (aZ:ap y= .int k b):dD P ap o (.int k (k.wrap (a*b))):=om h an aZ (λw=>by rw[oj (by simp) (by simp)];rfl) rfl
def abP (h:o.op= .binOp .quo t x y u) (an:ap x= .int k a) (aZ:ap y= .int k b) (aw:b≠0):dD P ap o (.int k (k.wrap (a.tdiv b))):=om h an aZ (λw=>by rw[oj (by simp) (by simp)];simp[Op.intDiv,aw]) rfl
def abQ (h:o.op= .binOp .rem t x y u) (an:ap x= .int k a) (aZ:ap y= .int k b) (aw:b≠0):dD P ap o (.int k (a.tmod b)):=om h an aZ (λw=>by rw[oj (by simp) (by simp)];simp[Op.intDiv,aw]) rfl
def ih (op:BinOp) (k:aG) (x y:Int):Int:=
 let a:=qC k.bits x
 let b:=qC k.bits y
 match op with
 | .and=>k.wrap (a&&&b).toNat
 | .or=>k.wrap (a|||b).toNat
 | .xor=>k.wrap (a ^^^ b).toNat
 |_=>k.wrap (a&&&~~~b).toNat
def apP (h:o.op= .binOp .and t x y u) (an:ap x= .int k a) (aZ:ap y= .int k b):dD P ap o (.int k (ih .and k a b)):=om h an aZ (λw=>by rw[oj (by simp) (by simp)];rfl) rfl
def apY (h:o.op= .binOp .or t x y u) (an:ap x= .int k a) (aZ:ap y= .int k b):dD P ap o (.int k (ih .or k a b)):=om h an aZ (λw=>by rw[oj (by simp) (by simp)];rfl) rfl
def ap0 (h:o.op= .binOp .xor t x y u) (an:ap x= .int k a) (aZ:ap y= .int k b):dD P ap o (.int k (ih .xor k a b)):=om h an aZ (λw=>by rw[oj (by simp) (by simp)];rfl) rfl
def asE (h:o.op= .binOp .andNot t x y u) (an:ap x= .int k a) (aZ:ap y= .int k b):dD P ap o (.int k (ih .andNot k a b)):=om h an aZ (λw=>by rw[oj (by simp) (by simp)];rfl) rfl
def abO (h:o.op= .binOp .eql t x y u) (an:ap x= .int k a) (aZ:ap y= .int k b):dD P ap o (.bool (a==b)):=om h an aZ (λw=>by rw[oj (by simp) (by simp)];rfl) rfl
def apW (h:o.op= .binOp .neq t x y u) (an:ap x= .int k a) (aZ:ap y= .int k b):dD P ap o (.bool (a !=b)):=om h an aZ (λw=>by rw[oj (by simp) (by simp)];rfl) rfl
def apT (h:o.op= .binOp .lss t x y u) (an:ap x= .int k a) (aZ:ap y= .int k b):dD P ap o (.bool (decide (a<b))):=om h an aZ (λw=>by rw[oj (by simp) (by simp)];rfl) rfl
def apS (h:o.op= .binOp .leq t x y u) (an:ap x= .int k a) (aZ:ap y= .int k b):dD P ap o (.bool (decide (a<=b))):=om h an aZ (λw=>by rw[oj (by simp) (by simp)];rfl) rfl
def apR (h:o.op= .binOp .gtr t x y u) (an:ap x= .int k a) (aZ:ap y= .int k b):dD P ap o (.bool (decide (b<a))):=om h an aZ (λw=>by rw[oj (by simp) (by simp)];rfl) rfl
def apQ (h:o.op= .binOp .geq t x y u) (an:ap x= .int k a) (aZ:ap y= .int k b):dD P ap o (.bool (decide (b<=a))):=om h an aZ (λw=>by rw[oj (by simp) (by simp)];rfl) rfl
def atf {op:BinOp} {afE:aG} (h:o.op= .binOp op t x y u) (an:ap x= .int k a) (aZ:ap y= .int afE b) (aw:0<=b) (rW:op= .shl\/op= .shr):
  dD P ap o (.int k (if op= .shl then k.wrap (a*2 ^ (min b.toNat k.bits)) else a.fdiv (2 ^ (min b.toNat k.bits)))):=by
 refine tF (x:=x) (y:=y) (by rw[h];rfl) (by grind) (by rw[an];rfl) (by rw[aZ];rfl) rfl λw=> ?_;have bB:¬b<0:=by omega
 rcases rW with rfl|rfl
 ·simp[execOp,h,an,aZ,eqGuard,binOp,Op.shift,bB]
 ·simp[execOp,h,an,aZ,eqGuard,binOp,Op.shift,bB]
def apX {b:Bool} (h:o.op= .unOp .not t x) (an:ap x= .bool b):dD P ap o (.bool (!b)):=
 Li (x:=x) (by rw[h];rfl) (by grind) (by rw[an];rfl) rfl λw=>by simp only[execOp,h,an];rfl
def apV (h:o.op= .unOp .neg t x) (an:ap x= .int k a):dD P ap o (.int k (k.wrap (0 - a))):=
 Li (x:=x) (by rw[h];rfl) (by grind) (by rw[an];rfl) rfl λw=>by simp only[execOp,h,an];rfl
def avt {d:TypeDesc} {k':aG} (h:o.op= .convert t u x) (aJ:P.underlying t=J d) (hu:P.underlying u=J (.int k')) (an:ap x= .int k a):dD P ap o (.int k' (k'.wrap a)):=
 Li (x:=x) (by rw[h];rfl) (by grind) (by rw[an];rfl) rfl λw=>by simp_all [execOp,convert,fw,Conv.intToInt]
def auP {ts:Array bV} (h:o.op= .call {callee:= .builtin .max,args:=#[x,y],argTypes:=ts}) (an:ap x= .int k a) (aZ:ap y= .int k b):dD P ap o (.int k (max a b)):=by
 refine tF (x:=x) (y:=y) (by rw[h];rfl) (by grind) (by rw[an];rfl) (by rw[aZ];rfl) rfl λw=> ?_;have:(mu k (if b>a then b else a))= .int k (max a b):=by grind
 simp_all [execOp,resolve,invoke,builtin,Builtin.max_,Builtin.max2]
def auQ {ts:Array bV} (h:o.op= .call {callee:= .builtin .min,args:=#[x,y],argTypes:=ts}) (an:ap x= .int k a) (aZ:ap y= .int k b):dD P ap o (.int k (min a b)):=by
 refine tF (x:=x) (y:=y) (by rw[h];rfl) (by grind) (by rw[an];rfl) (by rw[aZ];rfl) rfl λw=> ?_;have:(mu k (if b<a then b else a))= .int k (min a b):=by grind
 simp_all [execOp,resolve,invoke,builtin,Builtin.min_,Builtin.min2]
end
section
variable {x y:bS} {t u:bV} {s r:List UInt8}
theorem BV:(⟨s.toArray⟩:ByteArray).size=s.length:=by rfl
def auM {ts:Array bV} (h:o.op= .call {callee:= .builtin .len,args:=#[x],argTypes:=ts}) (aa9:ts[0]? =J t) (aJ:P.underlying t=J .string) (an:ap x=str s):dD P ap o (.int .i64 s.length):=
 Li (x:=x) (by rw[h];rfl) (by grind) (by rw[an];rfl) rfl λw=>by simp[execOp,h,an,resolve,invoke,builtin,Builtin.len_,aa9,str,fw aJ,goInt,BV]
def asG {k:aG} {n:Int} {c:UInt8} (h:o.op= .index t x y) (aJ:P.underlying t=J .string) (an:ap x=str s) (aZ:ap y= .int k n) (bR:0<=n) (ay:s[n.toNat]? =J c):dD P ap o (.int .u8 c.toNat):=by
 refine tF (x:=x) (y:=y) (by rw[h];rfl) (by grind) (by rw[an];rfl) (by rw[aZ];rfl) rfl λw=> ?_;have bs:(⟨s.toArray⟩:ByteArray)[n.toNat]? =J c:=by have cF:=(fq.1 ay).1;have ai:=(fq.1 ay).2;rw[getElem?_pos (h:=by grind [BV])];congr 1
 simp_all [execOp,Instr.index,asIntOf,fw,str]
def aql (i k:Nat):(⟨s.toArray⟩:ByteArray).extract i k=⟨((s.take k).drop i).toArray⟩:=by
 have:((⟨s.toArray⟩:ByteArray).extract i k).data=((s.take k).drop i).toArray:=by
  grind [ByteArray.data_extract]
 cases aw:(⟨s.toArray⟩:ByteArray).extract i k
 grind
def asH {cf az:Option bS} {a b:Nat} (h:o.op= .slice t x cf az ae) (aJ:P.underlying t=J .string) (an:ap x=str s) (eW:qo ap cf a) (eN:nJ ap az s.length b)
  (h1:a<=b) (ai:b<=s.length):dD P ap o (str ((s.take b).drop a)):=by
 refine .flat _ (by grind) (λz bx=> ?_) rfl λw=> ?_
 ·rw[h] at bx;cases cf with
  |none=>cases az with
   |none=>simp[dm] at bx;subst bx;rw[an];rfl
   |some y=>
    obtain ⟨k,aZ⟩:=eN;simp[dm] at bx;rcases bx with rfl|rfl
    ·rw[an];rfl
    ·rw[aZ];rfl
  |some q=>
   obtain ⟨k',bm⟩:=eW;cases az with
   |none=>
    simp[dm] at bx;rcases bx with rfl|rfl
    ·rw[an];rfl
    ·rw[bm];rfl
   |some y=>
    obtain ⟨k,aZ⟩:=eN;simp[dm] at bx;rcases bx with rfl|rfl|rfl
    ·rw[an];rfl
    ·rw[bm];rfl
    ·rw[aZ];rfl
 ·have ny:(jc ak s.length s.length (cf.map ap) (az.map ap) ae).run P w= .ok (a,b,s.length) w:=by
   cases cf with
   |none=>
    simp only[qo] at eW;subst eW;cases az with
    |none=>simp_all [nJ,jc]
    |some y=>obtain ⟨k,aZ⟩:=eN;simp_all [jc,mL,asIntOf]
   |some q=>
    obtain ⟨k',bm⟩:=eW;cases az with
    |none=>simp only[nJ] at eN;simp_all [jc,mL,asIntOf]
    |some y=>obtain ⟨k,aZ⟩:=eN;simp_all [jc,mL,asIntOf]
  simp only[execOp,h,vM,kD,fw aJ,jE,IW,vL,an,str,Option.isSome_none,Yx,if_false,nt,BV,ny,aql]
def w7 {op:BinOp} (h:o.op= .binOp op t x y u) (an:ap x=str s) (aZ:ap y=str r) (JY:op≠ .shl/\op≠ .shr) {v:af} (rW:∀w,(vS op ⟨s.toArray⟩ ⟨r.toArray⟩).run P w= .ok v w) (aD:flat v=aa):dD P ap o v:=by
 refine tF (x:=x) (y:=y) (by rw[h];rfl) (by grind) (by rw[an];rfl) (by rw[aZ];rfl) aD λw=> ?_;simp_all [eqGuard,str,binOp,execOp]
def vr (s r:List UInt8):Bool:=Op.bytesLess s r
def P6 (l:List UInt8):(⟨l.toArray⟩:ByteArray).toList=l:=by simp_all
def avv (h:o.op= .binOp .eql t x y u) (an:ap x=str s) (aZ:ap y=str r):dD P ap o (.bool (s==r)):=w7 h an aZ (by simp) (λw=>by simp_all [vS]) rfl
def auT (h:o.op= .binOp .neq t x y u) (an:ap x=str s) (aZ:ap y=str r):dD P ap o (.bool (!(s==r))):=w7 h an aZ (by simp) (λw=>by simp_all [vS]) rfl
def auO (h:o.op= .binOp .lss t x y u) (an:ap x=str s) (aZ:ap y=str r):dD P ap o (.bool (vr s r)):=w7 h an aZ (by simp) (λw=>by simp only[vS,P6];rfl) rfl
def auN (h:o.op= .binOp .leq t x y u) (an:ap x=str s) (aZ:ap y=str r):dD P ap o (.bool (vr s r||(s==r))):=w7 h an aZ (by simp) (λw=>by simp only[vS,P6];rfl) rfl
def auJ (h:o.op= .binOp .gtr t x y u) (an:ap x=str s) (aZ:ap y=str r):dD P ap o (.bool (!(vr s r||(s==r)))):=w7 h an aZ (by simp) (λw=>by simp only[vS,P6];rfl) rfl
def auI (h:o.op= .binOp .geq t x y u) (an:ap x=str s) (aZ:ap y=str r):dD P ap o (.bool (!vr s r)):=w7 h an aZ (by simp) (λw=>by simp only[vS,P6];rfl) rfl
def asO:(⟨s.toArray⟩:ByteArray)++(⟨r.toArray⟩:ByteArray)=⟨(s++r).toArray⟩:=by
 rfl
def avs (h:o.op= .binOp .add t x y u) (an:ap x=str s) (aZ:ap y=str r) (aR:s.length+r.length<=9223372036854775807):dD P ap o (str (s++r)):=w7 h an aZ (by simp) (λw=>by
 simp only[vS,BV,vP.2 aR];rw[if_neg (by show ¬_>(9223372036854775807:Int);omega),asO];rfl) rfl
def acI {op:BinOp} {a b:Bool} (h:o.op= .binOp op t x y u) (aJ:P.underlying t=J .bool) (an:ap x= .bool a) (aZ:ap y= .bool b) (rW:op= .eql\/op= .neq):dD P ap o (.bool (if op= .eql then a==b else !(a==b))):=by
 refine tF (x:=x) (y:=y) (by rw[h];rfl) (by grind) (by rw[an];rfl) (by rw[aZ];rfl) rfl λw=> ?_;have he:(Op.equal t (.bool a) (.bool b)).run P w= .ok (a==b) w:=by
  have bg:∀d:Nat,(Op.equalIn (d+1) t (.bool a) (.bool b)).run P w= .ok (a==b) w:=λd=>by simp only[Op.equalIn,kD,fw aJ,jE,nt]
  exact bg 9999
 have bs:(eqGuard op t x y (.bool a) (.bool b)).run P w= .ok () w:=by rcases rW with rfl|rfl<;>rfl
 have aw:(binOp op t (.bool a) (.bool b)).run P w= .ok (.bool (if op= .eql then a==b else !(a==b))) w:=by
  rcases rW with rfl|rfl
  ·show (do pure (af.bool (<-Op.equal t (.bool a) (.bool b))):Sem af).run P w=_;simp_all
  ·show (do pure (af.bool (!(<-Op.equal t (.bool a) (.bool b)))):Sem af).run P w=_;simp_all
 grind [execOp,kD,jE,nt]
def avu {a b:Bool} (h:o.op= .binOp .eql t x y u) (aJ:P.underlying t=J .bool) (an:ap x= .bool a) (aZ:ap y= .bool b):dD P ap o (.bool (a==b)):=acI h aJ an aZ (.inl rfl)
def auS {a b:Bool} (h:o.op= .binOp .neq t x y u) (aJ:P.underlying t=J .bool) (an:ap x= .bool a) (aZ:ap y= .bool b):dD P ap o (.bool (!(a==b))):=acI h aJ an aZ (.inr rfl)
end
end
end Go.aF
end
section
namespace Go.aF
def al {aK:Type} (xs:List aK) (i:Int):Option aK:=if 0<=i then xs[i.toNat]? else ae
def o3 {aK:Type} {xs:List aK} {i:Int} {x:aK} (h:al xs i=J x):0<=i/\i<xs.length/\xs[i.toNat]? =J x:=by
 grind [al]
def nT (z:Nat->bW) (p:af) (cs:List af):Prop:=∃b o,p= .pointer (J ⟨b,o,ae⟩)/\o2 z b o cs
def Yz (m:Mem) (p:af) (cs:List af):Prop:=∃b o,p= .pointer (J ⟨b,o,ae⟩)/\∀(i:Nat) (u:af),cs[i]? =J u->m.load b (o+i)=J u
section
variable {P:bI} {ap:bS->af} {o:Oper} {aK:Type} {T:cM aK} {z:Nat->bW} {m:Mem} {xs:List aK} {v:af} {x y:bS} {t e u:bV} {i:TypeInfo} {d:TypeDesc}
theorem Cc {b:Nat}:∀(n off:Nat) (cs:List af),cs.length=n->(∀(i:Nat) (u:af),cs[i]? =J u->m.load b (off+i)=J u)->kd m b off n=J cs
 |0,off,cs,aR,_=>by rw[yl aR];rfl
 |n+1,off,c::cs,aR,h=>by
  have bR:=h 0 c (by rfl);have a1:=Cc n (off+1) cs (by grind) λi u az=>by have:=h (i+1) u (by grind);rw[show off+1+i=off+(i+1) by omega];omega
  grind [kd]
 |n+1,off,[],aR,_=>by grind
def auL {k:aG} {n:Int} {a:aK} (h:o.op= .indexAddr t x y) (aJ:P.underlying t=J (.slice e)) (az:P.info? e=J i) (cN:i.size=T.bM) (an:ap x=v) (aZ:ap y= .int k n) (bf:fA T z xs v) (bs:al xs n=J a):
  ∃p cs,dD P ap o p/\T.rd z a cs/\nT z p cs:=by
 obtain ⟨bR,h1,ai⟩:=o3 bs;rcases bf with ⟨_,rfl⟩|⟨b,off,c,rfl,_,_,br⟩
 ·grind
 ·obtain ⟨cs,g1,g2⟩:=br _ a ai;exact ⟨_,cs, .indexAddr t x y e i b off _ c k n h aJ az an aZ bR h1,g1,b,_,rfl,by grind⟩
def agq (s:Nat) (v:af) (n:Nat) (p:af):Prop:=∃b f0 l c,v= .slice (J ⟨b,f0,ae⟩) l c/\p= .pointer (J ⟨b,f0+n*s,ae⟩)
def auK {k:aG} {n:Int} {a:aK} (h:o.op= .indexAddr t x y) (aJ:P.underlying t=J (.slice e)) (az:P.info? e=J i) (cN:i.size=T.bM) (an:ap x=v) (aZ:ap y= .int k n) (bf:fO T z m xs v) (bs:al xs n=J a):
  ∃p cs,dD P ap o p/\T.rd z a cs/\Yz m p cs/\agq T.bM v n.toNat p:=by
 obtain ⟨bR,h1,ai⟩:=o3 bs;rcases bf with ⟨_,rfl⟩|⟨b,f0,L,c,rfl,aw,_,_,aR,_,br⟩
 ·grind
 ·obtain ⟨cs,g1,g2⟩:=br _ a ai;refine ⟨_,cs, .indexAddr t x y e i b f0 _ c k n h aJ az an aZ bR h1,g1,⟨b,_,rfl,λj u bn=> ?_⟩,⟨b,f0,_,c,rfl,by grind⟩⟩;simp only[Mem.load,aw,cN];exact g2 j u bn
def gi {aK:Type} (xs:List aK) (a b:Int):Option (List aK):=if 0<=a/\a<=b/\b<=xs.length then J ((xs.take b.toNat).drop a.toNat) else ae
def Ws {xs:List aK} {a b:Int} {r:List aK} (h:gi xs a b=J r):0<=a/\a<=b/\b<=xs.length/\r=(xs.take b.toNat).drop a.toNat:=by
 grind [gi]
def y5 (ap:bS->af) (cf:Option bS) (n:Int):Prop:=match cf with|none=>n=0|some y=>∃k,ap y= .int k n
def zK (ap:bS->af) (az:Option bS) (l:Nat) (n:Int):Prop:=match az with|none=>n=l|some y=>∃k,ap y= .int k n
def K4 {ap:bS->af} {cf:Option bS} {n:Nat} (h:y5 ap cf n):qo ap cf n:=by
 cases cf with
 |none=>grind [y5,qo]
 |some y=>exact h
def KM {ap:bS->af} {az:Option bS} {l n:Nat} (h:zK ap az l n):nJ ap az l n:=by
 cases az with
 |none=>grind [zK,nJ]
 |some y=>exact h
def WU {xs:List aK} {a b k:Nat} {r:aK} (h:((xs.take b).drop a)[k]? =J r):xs[a+k]? =J r:=by
 grind
def aet {P:bI} {C:FuncId->Array af->Mem->af->Mem->Prop} {b off:Nat} {L cs:List af} (h:o.op= .store t x y) (az:P.info? t=J i) (an:ap x= .pointer (J ⟨b,off,ae⟩)) (hm:m.blk b= .own L e) (aD:storable (ap y)=aa) (jI:(ap y).cells.toList=cs) (bf:cs.length=i.size) (aR:off+cs.length<=L.length):
  hR P C ap o m undef (m.put b (.own (eY L off cs) e)):=by
 subst jI;exact .store t x y b off i L e h an az hm aD (by grind) (by grind)
def zm {b:Nat} {x:bW} (bg:∀b,m.next<=b->m.blk b= .dead) (aw:b<m.next):gl m (m.put b x) (J b):=by
 refine ⟨e4 _,λc ay=> ?_,λc ay hk=> ?_⟩
 ·grind [Mem.put]
 grind [Mem.put]
def BN {x:bW} (bg:∀b,m.next<=b->m.blk b= .dead):gl m (m.push x) ae:=by
 refine ⟨mo _,λc ay=> ?_,λc ay _=> ?_⟩
 ·grind [Mem.push]
 grind [Mem.push]
def fO.same {m':Mem} {q:Option Nat} (h:fO T z m xs v) (s:gl m m' q) (fP:e6 (da v) q):fO T z m' xs v:=
 h.frame λb aw cF=>⟨s.blk b cF (λbm=>fP b aw bm),hS cF s.next⟩
def arQ {m':Mem} {q:Option Nat} {b:Nat} {X:bW} (h:m.blk b=X) (aw:b<m.next) (s:gl m m' q) (fP:q≠J b):m'.blk b=X/\b<m'.next:=⟨by rw[s.blk b aw fP];exact h,hS aw s.next⟩
def fO.store {n:Nat} {a a':aK} {cs cs':List af} {f:Nat} {new:List af} {b f0 l c:Nat} (bf:fO T z m xs v) (bg:∀b,m.next<=b->m.blk b= .dead) (aD:v= .slice (J ⟨b,f0,ae⟩) l c) (bl:xs[n]? =J a) (aV:T.rd z a cs) (ay:Yz m (.pointer (J ⟨b,f0+n*T.bM,ae⟩)) cs) (nG:T.rd z a' cs') (jI:cs'=eY cs f new) (bF:f+new.length<=cs.length):
  ∃L,m.blk b= .own L T.tid/\f0+n*T.bM+f+new.length<=L.length/\fO T z (m.put b (.own (eY L (f0+n*T.bM+f) new) T.tid)) (xs.set n a') v/\gl m (m.put b (.own (eY L (f0+n*T.bM+f) new) T.tid)) (J b):=by
 rcases bf with ⟨rfl,_⟩|⟨dJ,f1,L,c3,qa,aw,cF,bx,aR,kJ,mb⟩
 ·grind
 ·subst aD;simp only[af.slice.injEq,kB.injEq,Addr.mk.injEq,and_true] at qa;obtain ⟨⟨rfl,rfl⟩,rfl,rfl⟩:=qa;have bB:n<xs.length:=(fq.1 bl).1;have hlen:=T.len z a cs aV;have aaR:=T.len z a' cs' nG;have uT:f0+n*T.bM+T.bM<=L.length:=by
   have:(n+1)*T.bM<=xs.length*T.bM:=oH _ bB
   grind
  have dE:(eY L (f0+n*T.bM+f) new).length=L.length:=mB _ _ _;refine ⟨L,aw,by omega, .inr ⟨b,f0,eY L (f0+n*T.bM+f) new,c,by simp,by simp[Mem.put],cF,bx,by grind,by grind,λk w hk=> ?_⟩,zm bg cF⟩;rw[List.getElem?_set] at hk;by_cases Bo:n=k
  ·subst Bo;simp[bB] at hk;subst hk;refine ⟨cs',nG,λq u bm=> ?_⟩;have aa3:=(fq.1 bm).1;rw[jI,o5 _ _ _ _ bF] at bm;rw[o5 _ _ _ _ (by omega)];by_cases s6:f<=q/\q<f+new.length
   ·rw[if_pos s6] at bm;rw[if_pos (by omega),show f0+n*T.bM+q - (f0+n*T.bM+f)=q - f by omega];grind
   ·rw[if_neg s6] at bm;rw[if_neg (by omega)];obtain ⟨jR,iQ,bb,axR⟩:=ay
    grind [Mem.load]
  ·rw[if_neg Bo] at hk;obtain ⟨Z3,g1,g2⟩:=mb k w hk;refine ⟨Z3,g1,λq u bm=> ?_⟩;have aa3:=(fq.1 bm).1;rw[T.len z w Z3 g1] at aa3;rw[o5 _ _ _ _ (by omega)];have ta:¬(f0+n*T.bM+f<=f0+k*T.bM+q/\f0+k*T.bM+q<f0+n*T.bM+f+new.length):=by
    rcases Nat.lt_or_gt_of_ne Bo with dG|dG
    ·have:(n+1)*T.bM<=k*T.bM:=oH _ dG
     grind
    ·have:(k+1)*T.bM<=n*T.bM:=oH _ dG
     grind
   rw[if_neg ta];exact g2 q u bm
end
end Go.aF
end
