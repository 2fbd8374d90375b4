import Derived.Calls
import Derived.Orders
import Derived.Tactics
import Derived.Below
import Derived.Defers
import Derived.WalkKit
import Derived.WalkSpells
import Derived.Scope
set_option linter.defProp false
set_option linter.unusedSimpArgs false
set_option linter.unusedVariables false
open Array renaming ext'->Ii,getD->Tp,getD_eq_getD_getElem?->Yr,getElem?_append_left->Ys,getElem?_eq_some_iff->Ij,isEmpty_iff->Yt,mapM_eq_mapM_toList->afM,range->tW,replicate->nj,size_setIfInBounds->afN,toList_append->Yu,toList_extract->Yv,toList_map->ye
open BitVec renaming ofInt->qC
open Bool renaming and_eq_true->fx,false_eq_true->Yx,false->ak,true->aa
open Function renaming comp->YD
open Go renaming IntKind->aG,Operand->bS,Program->bI,TypeId->bV,Value->af
open Go.Act renaming put->qB
open Go.Builtin renaming append_->tZ,firstCells->qD,lenOf->Tq,zeroCells->yf
open Go.Call renaming operands->lh
open Go.Conv renaming bytesToString->YB
open Go.Instr renaming indexAt->YO,lookup->Av,mapUpdate->YP,slice->vL,sliceAt->vM,sliceBound->mL,sliceBounds->jc,sureAddr->yj
open Go.IntKind renaming i64->Aw,wrap->aO,wrap_i64->vN
open Go.Op renaming operands->dm,stringOp->vS
open Go.Oper renaming wp->sM
open Go.Program renaming cellsOf->nY
open Go.Question renaming forced->TK
open Go.Region renaming before->kp,binds->rC,ready->AL,wanted->qK
open Go.Result renaming andThen->Zg,andThen_ok->jE
open Go.Sem renaming run_bind->kD,run_pure->nt
open Go.Value renaming int->mu
open Go.World renaming block_lt_of_cell?->I8,cell?->rG
open List renaming all_cons->ml,all_eq_true->iA,eq_nil_of_length_eq_zero->yl,ext_getElem?->rv,getElem?_cons_succ->qH,getElem?_cons_zero->IJ,getElem?_eq_some_iff->fq,getElem?_map->sH,getElem?_toArray->IK,map_cons->rA,map_nil->TA,map_toArray->YX,mem_append->kU,mem_cons->ha,mem_filter->aIv,mem_map->l2,mem_of_getElem?->mM,mem_range->aAc,mem_singleton->IM,range->mN,replicate->gb
open Nat renaming add_assoc->sK,add_mul->ko,add_mul_div_right->TH,add_zero->pS,le_of_lt->lG,le_refl->e4,le_succ->mo,le_trans->jd,lt_of_le_of_lt->TI,lt_of_lt_of_le->hS,lt_or_ge->mq,lt_succ_self->pT,lt_trichotomy->TJ,min->rB,mul_le_mul_right->oH,not_lt->vP,strongRecOn->Y0,zero_add->lH,zero_le->pn
open Option renaming isSome_iff_exists->agh,map_none->IW,map_some->vU,some->kB,none->ae,some->J
open True renaming intro->fs
namespace Go.aF
section
def dc:Nat:=9223372036854775808
structure kl where
 blk:Nat
 cap:Nat
 es:Nat
 db:Nat
def cj:Type:=Nat->Option kl
inductive bW where
 |dead
 |ro (rd:Nat->Option af)
 |own (cells:List af) (elem:bV)
 |map (cells:List af) (type:bV)
 |lock (nest at_:Nat) (cells:List af) (elem:bV)
def bW.iO:bW->Bool| .own _ _| .map _ _=>aa|_=>ak
def bW.live:bW->Bool| .dead=>ak|_=>aa
structure Mem where
 next:Nat
 blk:Nat->bW
def Mem.load (m:Mem) (b o:Nat):Option af:=match m.blk b with| .ro rd=>rd o| .own L _=>L[o]?| .map _ _=>ae| .lock _ _ _ _=>ae| .dead=>ae
def Mem.put (m:Mem) (b:Nat) (x:bW):Mem:={m with blk:=λi=>if i=b then x else m.blk i}
def Mem.push (m:Mem) (x:bW):Mem:={next:=m.next+1,blk:=λi=>if i=m.next then x else m.blk i}
def Mem.nf (m:Mem) (n:Nat):Mem:={next:=n,blk:=λi=>if i<n then m.blk i else .dead}
def bP {d e:Type} (R:d->e->Prop):List d->List e->Prop|[],[]=>True|a::l,b::k=>R a b/\bP R l k|_,_=>False
def kY (j:cj):af->af->Prop| .pointer (J a),b=>∃e,a.spot=ae/\j a.block=J e/\b= .pointer (J ⟨e.blk,e.db+a.off,ae⟩)|_,_=>False
def eA (j:cj):af->af->Prop
 | .pointer (J a),b=>∃e,a.spot=ae/\j a.block=J e/\b= .pointer (J ⟨e.blk,e.db+a.off,ae⟩)
 | .slice (J a) l c,b=>∃e,a.spot=ae/\j a.block=J e/\
   ((c<dc/\b= .slice (J ⟨e.blk,e.db+a.off,ae⟩) l c)\/
    (c=dc/\0<e.es/\l<=e.cap - a.off / e.es/\e.cap<dc/\a.off%e.es=0/\a.off / e.es<=e.cap/\b= .slice (J ⟨e.blk,e.db+a.off,ae⟩) l (e.cap - a.off / e.es))\/
    (c=dc/\l=0/\∃i,b= .slice (J ⟨e.blk,i,ae⟩) 0 0)\/
    (c=0/\l=0/\∃f,b= .slice (J f) 0 0)\/
    (∃k,c=dc+k/\0<k/\l<=k/\0<e.es/\k<=e.cap - a.off / e.es/\e.cap<dc/\a.off%e.es=0/\a.off / e.es<=e.cap/\b= .slice (J ⟨e.blk,e.db+a.off,ae⟩) l (e.cap - a.off / e.es)))
 | .map (J r),b=>∃e,j r=J e/\b= .map (J e.blk)
 | .func fn g h,b=>g=#[]/\∃d:Array af,b= .func fn #[] d/\bP (kY j) h.toList d.toList
 | .chan _,_| .iface ..,_| .agg _,_| .tuple _,_=>False
 |v,b=>b=v
def fC (j:cj):af->af->Prop| .agg d,a=>∃b:Array af,a= .agg b/\bP (eA j) d.toList b.toList|v,a=>eA j v a
def de (j:cj):af->af->Prop| .chan ae,a=>∀b,a≠ .bool b| .chan (J k),a=>a= .pointer (J ⟨k / 4096,k%4096,ae⟩)| .tuple e,a=>∃d:Array af,a= .tuple d/\bP (fC j) e.toList d.toList| .func fn g e,a=>∃f d:Array af,a= .func fn f d/\bP (fC j) g.toList f.toList/\bP (fC j) e.toList d.toList|v,a=>fC j v a
def dy:af->Bool| .bool _| .int _ _| .float _ _| .complex _ _ _| .string _| .pointer ae| .slice ae _ _| .map ae| .nilFunc| .nilIface=>aa| .func _ a b=>a.isEmpty&&b.isEmpty|_=>ak
def lI:TypeDesc->Bool| .struct _| .array _ _=>aa|_=>ak
def ek (P:bI) (t:bV):Bool:=match P.underlying t with|some d=>lI d|none=>ak
def ey:Bool->List af->af|true,a=> .agg a.toArray|false,a=>a.headD undef
structure qG (ks vs:Nat) (L:List af) (E:List (List af×List af)):Prop where
 eq:L=E.flatMap λp=>p.1++p.2
 len:∀p∈E,p.1.length=ks/\p.2.length=vs
def ub (P:bI) (j:cj) (b a:bV) (p:List af×List af) (x:MapEntry):Prop:=x.key=ey (ek P b) p.1/\p.1.all dy=aa/\fC j (ey (ek P a) p.2) x.val
def zy (b:Array MapEntry) (a:Nat):Prop:=(b.toList.map (·.born)).Nodup/\∀x∈b.toList,x.born<a
def qI (P:bI) (j:cj) (e:kl) (o:Option Obj):bW->Prop
 | .dead=>True
 | .ro rd=>∀i v,rd i=J v->∃(b:Array af) (t:bV) (bZ:Nat×Nat) (d:af),o=J (.cells b t bZ)/\b[e.db+i]? =J d/\eA j v d
 | .own L t=>∃(b:Array af) (bZ:Nat×Nat),o=J (.cells b t bZ)/\(∀i:Nat,i<b.size->¬(bZ.1<=i/\i<bZ.2))/\
  P.cellsOf t=e.es/\e.db+e.cap*e.es<=b.size/\L.length<=e.cap*e.es/\∀(i:Nat) (v:af),L[i]? =J v->∃d,b[e.db+i]? =J d/\eA j v d
 | .map L u=>∃(g f:bV) (b:Array MapEntry) (a:Nat) (E:List (List af×List af)),o=J (.map b a)/\P.underlying u=J (.map g f)/\
  qG (P.cellsOf g) (P.cellsOf f) L E/\bP (ub P j g f) E b.toList/\zy b a
 | .lock _ _ _ _=>False
def X7 (P : bI) (g : Nat) : Prop := P.globalNamed "internal/bytealg.MaxLen" = J g ∨ P.globalNamed "internal/strconv.uint64pow10" = J g ∨ P.globalNamed "humpyard/yardgen.dests" = J g
def p2:List (List UInt8):=[[97],[98],[99],[100],[101],[102,97,114]]
structure rE (P:bI) (w:World):Prop where
 len : ∀ g, P.globalNamed "internal/bytealg.MaxLen" = J g → ∃ m, w.cell? ⟨g, 0, ae⟩ = J (.int .i64 m)
 pow : ∀ g, P.globalNamed "internal/strconv.uint64pow10" = J g → w.var? P "internal/strconv.uint64pow10" = J ((mN 20).map fun i => mu .u64 ((10 ^ i : Nat) : Int)).toArray
 P8 : ∀ g, P.globalNamed "humpyard/yardgen.dests" = J g → ∀ n s, p2[n]? = J s → w.cell? ⟨g, n, ae⟩ = J (.string ⟨s.toArray⟩)
structure I6 (P:bI) (j:cj) (m:Mem) (w:World):Prop where
 val:rE P w
 sep:∀b e,j b=J e->(m.blk b).iO=aa->¬X7 P e.blk
structure Zf (P:bI) (j:cj) (m:Mem) (w:World):Prop where
 lt:∀b e,j b=J e->b<m.next/\e.blk<w.heap.size
 obj:∀b e,j b=J e->qI P j e w.heap[e.blk]? (m.blk b)
 inj:∀b dJ e cz,j b=J e->j dJ=J cz->(m.blk b).iO=aa->(m.blk dJ).live=aa->e.blk=cz.blk->b=dJ
structure Rel (P:bI) (j:cj) (m:Mem) (w:World):Prop extends Zf P j m w where
 mE:I6 P j m w
structure sC (j:cj) (m:Mem) (w w':World):Prop where
 os:w'.os=w.os
 tape:w'.tape=w.tape
 output:w'.output=w.output
 size:w.heap.size<=w'.heap.size
 block:∀c,c<w.heap.size->(∀b e,j b=J e->(m.blk b).iO=aa->e.blk≠c)->w'.heap[c]? =w.heap[c]?
structure Post (P:bI) (j:cj) (m:Mem) (w:World) (c6:cj) (m':Mem) (w':World):Prop where
 rel:Rel P c6 m' w'
 gd:sC j m w w'
 next:m.next<=m'.next
 ext:∀b,b<m.next->c6 b=j b
 fresh:∀b e,c6 b=J e->m.next<=b->w.heap.size<=e.blk\/∃fz eV,j fz=J eV/\(m.blk fz).iO=aa/\eV.blk=e.blk
 ew:∀b,b<m.next->(m'.blk b).iO=aa->(m.blk b).iO=aa
 alive:∀b,b<m.next->(m'.blk b).live=aa->(m.blk b).live=aa
def rE.lt {P:bI} {w:World} (h:rE P w) {g:Nat} (a:X7 P g):g<w.heap.size:=by
 rcases a with a|a|a
 ·obtain ⟨m,b⟩:=h.len g a;exact I8 w ⟨g,0,ae⟩ b
 rotate_left
 ·exact I8 w ⟨g,0,ae⟩ (h.P8 g a 0 _ rfl)
 ·have:=h.pow g a
  grind [World.var?]
def rE.keep {P:bI} {w d:World} (h:rE P w) (b:∀g,X7 P g->d.heap[g]? =w.heap[g]?):rE P d:=
 ⟨λg a=>by obtain ⟨m,f⟩:=h.len g a;exact ⟨m,by rw[<-f];simp only[rG,b g (.inl a)]⟩,
  λg a=>by rw[<-h.pow g a];simp only[World.var?,a,Option.bind_some,b g (.inr (.inl a))],
  λg a n s e=>by rw[<-h.P8 g a n s e];simp only[rG,b g (.inr (.inr a))]⟩
def I6.step {P:bI} {j k:cj} {m m':Mem} {w q:World} (t:I6 P j m w) (z:sC j m w q) (B:∀b,b<m.next->k b=j b)
  (y:∀b e,k b=J e->m.next<=b->w.heap.size<=e.blk\/∃i f,j i=J f/\(m.blk i).iO=aa/\f.blk=e.blk) (r:∀b,b<m.next->(m'.blk b).iO=aa->(m.blk b).iO=aa):I6 P k m' q:=
 ⟨t.val.keep λg a=>z.block g (t.val.lt a) λb e d l h=>t.sep b e d l (h▸a),λb e d l a=>by
  rcases mq b m.next with p|A
  ·exact t.sep b e ((B b p).symm.trans d) (r b p l) a
  ·rcases y b e d A with n|⟨i,f,n,x,s⟩
   ·exact absurd (t.val.lt a) (vP.2 n)
   ·exact t.sep i f n x (s▸a)⟩
def Post.of {P:bI} {j g:cj} {m f:Mem} {w i:World} (r:Rel P j m w) (h:Zf P g f i) (p:sC j m w i) (next:m.next<=f.next) (ext:∀b,b<m.next->g b=j b)
  (a:∀b e,g b=J e->m.next<=b->w.heap.size<=e.blk\/∃n k,j n=J k/\(m.blk n).iO=aa/\k.blk=e.blk) (l:∀b,b<m.next->(f.blk b).iO=aa->(m.blk b).iO=aa) (d:∀b,b<m.next->(f.blk b).live=aa->(m.blk b).live=aa):Post P j m w g f i:=
 ⟨⟨h,r.mE.step p ext a l⟩,p,next,ext,a,l,d⟩
def bP.mono {d e:Type} {R S:d->e->Prop} (h:∀a b,R a b->S a b):∀{l:List d} {k:List e},bP R l k->bP S l k
 |[],[],_=>fs
 |_::_,_::_,⟨g,f⟩=>⟨h _ _ g,bP.mono h f⟩
 |[],_::_,h=>h.elim
 |_::_,[],h=>h.elim
def bP.length {a b:Type} {R:a->b->Prop}:∀{l:List a} {k:List b},bP R l k->l.length=k.length
 |[],[],_=>rfl
 |_::l,_::k,⟨_,d⟩=>by simp[bP.length d]
 |[],_::_,h=>h.elim
 |_::_,[],h=>h.elim
def bP.get {d f:Type} {R:d->f->Prop}:∀{l:List d} {k:List f} (_:bP R l k) (i:Nat) (a:d),l[i]? =J a->∃b,k[i]? =J b/\R a b
 |[],[],_,i,a,h=>by grind
 |x::l,y::k,⟨g,e⟩,0,a,h=>by grind
 |x::l,y::k,⟨g,e⟩,i+1,a,h=>by simpa using bP.get e i a (by grind)
 |[],_::_,h,_,_,_=>h.elim
 |_::_,[],h,_,_,_=>h.elim
def bP.Kj {d f:Type} {R:d->f->Prop}:∀{l:List d} {k:List f},l.length=k.length->(∀(i:Nat) a b,l[i]? =J a->k[i]? =J b->R a b)->bP R l k
 |[],[],_,_=>fs
 |x::l,y::k,e,h=>⟨h 0 x y (by rfl) (by rfl),bP.Kj (by grind) λi a b j g=>h (i+1) a b (by grind) (by grind)⟩
 |[],_::_,e,_=>by grind
 |_::_,[],e,_=>by grind
def bP.append {a b:Type} {R:a->b->Prop}:∀{l e:List a} {k d:List b},bP R l k->bP R e d->bP R (l++e) (k++d)
 |[],_,[],_,_,h=>h
 |_::_,_,_::_,_,⟨g,f⟩,h=>⟨g,bP.append f h⟩
 |[],_,_::_,_,h,_=>h.elim
 |_::_,_,[],_,h,_=>h.elim
def bP.take {a b:Type} {R:a->b->Prop}:∀(n:Nat) {l:List a} {k:List b},bP R l k->bP R (l.take n) (k.take n)
 |0,_,_,_=>by simp[bP]
 |n+1,[],[],_=>by grind
 |n+1,_::_,_::_,⟨e,d⟩=>by simpa[bP] using ⟨e,bP.take n d⟩
 |_+1,[],_::_,h=>h.elim
 |_+1,_::_,[],h=>h.elim
def bP.drop {a b:Type} {R:a->b->Prop}:∀(n:Nat) {l:List a} {k:List b},bP R l k->bP R (l.drop n) (k.drop n)
 |0,_,_,h=>by grind
 |n+1,[],[],_=>by grind
 |n+1,_::_,_::_,⟨_,d⟩=>by simpa using bP.drop n d
 |_+1,[],_::_,h=>h.elim
 |_+1,_::_,[],h=>h.elim
def kY.mono {j d:cj} (h:∀b e,j b=J e->d b=J e) {v a:af} (f:kY j v a):kY d v a:=by
 unfold kY at f⊢
 grind
theorem eA.mono {j m:cj} (h:∀b e,j b=J e->m b=J e) {v k:af} (d:eA j v k):eA m v k:=by
 cases v with
 |func fn p q=>obtain ⟨i,n,g,f⟩:=d;exact ⟨i,n,g,f.mono λ_ _=>kY.mono h⟩
 |pointer a=>cases a with
  |none=>exact d
  |some a=>obtain ⟨e,i,g,f⟩:=d;exact ⟨e,i,h _ _ g,f⟩
 |slice a l c=>cases a with
  |none=>exact d
  |some a=>obtain ⟨e,i,g,f⟩:=d;exact ⟨e,i,h _ _ g,f⟩
 |map r=>cases r with
  |none=>exact d
  |some r=>obtain ⟨e,g,f⟩:=d;exact ⟨e,h _ _ g,f⟩
 |_=>exact d
theorem fC.mono {j d:cj} (h:∀b e,j b=J e->d b=J e) {v a:af} (f:fC j v a):fC d v a:=by
 cases v with
 |agg l=>obtain ⟨i,k,g⟩:=f;exact ⟨i,k,g.mono λ_ _=>eA.mono h⟩
 |_=>grind [fC,eA.mono]
def de.mono {j k:cj} (h:∀b e,j b=J e->k b=J e) {v i:af} (a:de j v i):de k v i:=by
 cases v with
 |chan r=>cases r<;>exact a
 |tuple m=>obtain ⟨f,g,d⟩:=a;exact ⟨f,g,d.mono λ_ _=>fC.mono h⟩
 |func fn p m=>obtain ⟨n,f,g,d,l⟩:=a;exact ⟨n,f,g,d.mono λ_ _=>fC.mono h,l.mono λ_ _=>fC.mono h⟩
 |_=>grind [de,fC.mono]
def qI.mono {P:bI} {j y:cj} {e:kl} {o:Option Obj} {x:bW} (h:qI P j e o x) (m:∀b e,j b=J e->y b=J e):qI P y e o x:=by
 cases x with
 |dead=>trivial
 |ro F=>intro i v l;obtain ⟨g,t,bZ,q,k,f,d⟩:=h i v l;exact ⟨g,t,bZ,q,k,f,d.mono m⟩
 |own L t=>obtain ⟨g,bZ,k,f,d,n,r,B⟩:=h;refine ⟨g,bZ,k,f,d,n,r,λi v l=> ?_⟩;obtain ⟨q,s,w⟩:=B i v l;exact ⟨q,s,w.mono m⟩
 |map L u=>obtain ⟨A,z,g,a,E,k,f,d,n,r⟩:=h;exact ⟨A,z,g,a,E,k,f,d,n.mono λp x ⟨s,w,C⟩=>⟨s,w,C.mono m⟩,r⟩
 |lock _ _ _ _=>exact h.elim
def Rel.own {P:bI} {j:cj} {m:Mem} {w:World} (h:Rel P j m w) (b:Nat) (e:kl) (L:List af) (t:bV) (g:j b=J e) (f:m.blk b= .own L t):∃(a:Array af) (bZ:Nat×Nat),w.heap[e.blk]? =J (.cells a t bZ)/\(∀i:Nat,i<a.size->¬(bZ.1<=i/\i<bZ.2))/\
  P.cellsOf t=e.es/\e.db+e.cap*e.es<=a.size/\L.length<=e.cap*e.es/\∀(i:Nat) (v:af),L[i]? =J v->∃d,a[e.db+i]? =J d/\eA j v d:=by
 have:=h.obj b e g;rw[f] at this;exact this
def fC.qh {j:cj} {v a:af} (h:eA j v a):fC j v a:=by
 cases v<;>first|exact h|exact h.elim
def kY.of {j:cj} {v a:af} (h:kY j v a):eA j v a:=by
 unfold kY at h;split at h
 ·exact h
 grind
def de.wN {j:cj} {v a:af} (h:fC j v a):de j v a:=by
 cases v with
 |func fn g i=>obtain ⟨f,e,d,b⟩:=h;subst f;exact ⟨#[],e,d,trivial,b.mono λ_ _ h=>fC.qh (kY.of h)⟩
 |tuple _=>exact h.elim
 |chan _=>exact h.elim
 |_=>exact h
def de.qh {j:cj} {v a:af} (h:eA j v a):de j v a:=de.wN (fC.qh h)
def eA.one {j:cj} {v f:af} (h:eA j v f):f.oneCell'=aa:=by
 cases v with
 |pointer a=>cases a with
  |none=>cases h;rfl
  |some a=>obtain ⟨e,g,d,b⟩:=h;subst b;rfl
 |slice a l c=>cases a with
  |none=>cases h;rfl
  |some a=>obtain ⟨e,g,d,b⟩:=h;rcases b with ⟨_,rfl⟩|⟨_,_,_,_,_,_,rfl⟩|⟨_,_,_,rfl⟩|⟨_,_,_,rfl⟩|⟨_,_,_,_,_,_,_,_,_,rfl⟩<;>rfl
 |map r=>cases r with
  |none=>cases h;rfl
  |some r=>obtain ⟨e,d,b⟩:=h;subst b;rfl
 |chan _=>exact h.elim
 |func _ _ _=>obtain ⟨_,i,d,_⟩:=h;subst d;rfl
 |iface _ _=>exact h.elim
 |agg _=>exact h.elim
 |tuple _=>exact h.elim
 |_=>cases h;rfl
def eA.cells {j:cj} {v a:af} (h:eA j v a):v.cells=#[v]/\a.cells=#[a]:=by
 refine ⟨?_, ?_⟩
 ·cases v<;>first|rfl|exact h.elim
 ·have:=h.one;cases a<;>first|rfl|grind [af.oneCell']
def fC.cells {j:cj} {v b:af} (h:fC j v b):bP (eA j) v.cells.toList b.cells.toList:=by
 cases v with
 |agg e=>obtain ⟨f,rfl,d⟩:=h;exact d
 |_=>simp only[fC] at h;have a:=h;have:=eA.cells a;rw[this.1,this.2];exact ⟨a,fs⟩
def sC.refl (j:cj) (m:Mem) (w:World):sC j m w w:=⟨rfl,rfl,rfl,e4 _,λ_ _ _=>rfl⟩
def Post.refl {P:bI} {j:cj} {m:Mem} {w:World} (h:Rel P j m w):Post P j m w j m w:=
 ⟨h,sC.refl j m w,e4 _,λ_ _=>rfl,λb e a d=>absurd (h.lt b e a).1 (vP.2 d),λ_ _ h=>h,λ_ _ h=>h⟩
def Post.up {P:bI} {j a:cj} {m g:Mem} {w i:World} (h:Post P j m w a g i) (d:Rel P j m w):∀b e,j b=J e->a b=J e:=
 λb e f=>by rw[h.ext b (d.lt b e f).1];grind
def Post.trans {P:bI} {j s A:cj} {m p g:Mem} {w z B:World} (h:Post P j m w s p z) (k:Post P s p z A g B):Post P j m w A g B where
 rel:=k.rel
 gd:=by
  refine ⟨k.gd.os.trans h.gd.os,k.gd.tape.trans h.gd.tape,k.gd.output.trans h.gd.output,jd h.gd.size k.gd.size,λc t x=> ?_⟩;rw[k.gd.block c (hS t h.gd.size) ?_,h.gd.block c t x];intro b e a d E;rcases mq b m.next with f|i
  ·exact x b e (by rw[<-h.ext b f];grind) (h.ew b f d) E
  ·rcases h.fresh b e a i with y|⟨n,l,F,H,q⟩
   ·omega
   grind
 next:=jd h.next k.next
 ext:=λb a=>by rw[k.ext b (hS a h.next),h.ext b a]
 fresh:=by
  intro b e a i;have C:∀b e,s b=J e->(p.blk b).iO=aa->w.heap.size<=e.blk\/∃n l,j n=J l/\(m.blk n).iO=aa/\l.blk=e.blk:=by
   intro b e a d;rcases mq b m.next with f|i
   ·exact .inr ⟨b,e,by rw[<-h.ext b f];grind,h.ew b f d,rfl⟩
   ·exact h.fresh b e a i
  rcases mq b p.next with f|r
  ·exact h.fresh b e (by rw[<-k.ext b f];grind) i
  ·rcases k.fresh b e a r with y|⟨n,l,F,H,q⟩
   ·exact .inl (jd h.gd.size y)
   grind
 ew:=λb a d=>h.ew b a (k.ew b (hS a h.next) d)
 alive:=λb a d=>h.alive b a (k.alive b (hS a h.next) d)
end
section
def kz:af->Bool| .agg cs=>cs.toList.all dy|v=>dy v
def flat:af->Bool| .tuple cs=>cs.toList.all kz|v=>kz v
def xr:af->Bool| .pointer (J _)=>aa|_=>ak
def storable:af->Bool| .tuple _| .chan _=>ak| .func _ a b=>a.isEmpty&&b.toList.all xr|_=>aa
def set (a:Nat->af) (d:Option Tmp) (v:af):Nat->af:=match d with|some t=>λi=>if i=t then v else a i|none=>a
def bk (a:Nat->af):bS->af| .tmp t=>a t| .const v=>v| .global g=> .chan (J (g*4096))| .func f=> .func (.func f) #[] #[]
def kd (m:Mem) (b:Nat):Nat->Nat->Option (List af)
 |_,0=>J []
 |o,n+1=>match m.load b o,kd m b (o+1) n with
  |some v,J l=>J (v::l)
  |_,_=>ae
def eY:List af->Nat->List af->List af|L,_,[]=>L|L,o,v::a=>eY (L.set o v) (o+1) a
def k5 (b:Nat->Option (Nat×Nat)) (a:List af):List (Nat×af)->Option (List af)|[]=>J a|(i,v)::f=>match b i with|none=>ae|some (e,d)=>if storable v=aa/\v.cells.size=d/\e+d<=a.length then k5 b (eY a e v.cells.toList) f else ae
def pC (P:bI) (a:Array Field):List (Option (Nat×Nat)):=a.toList.map λf=>(P.info? f.type).map λi=>(f.offset,i.size)
def qo (a:bS->af) (b:Option bS) (n:Nat):Prop:=match b with|none=>n=0|some y=>∃k,a y= .int k n
def nJ (a:bS->af) (b:Option bS) (l n:Nat):Prop:=match b with|none=>n=l|some y=>∃k,a y= .int k n
inductive dD (P:bI) (ap:bS->af) (o:Oper):af->Prop where
 |flat (v:af) (bf:∀cs b,o.op≠ .select cs b) (h:∀x∈o.op.operands,flat (ap x)=aa) (aD:flat v=aa) (aV:∀w,(execOp ap o).run P w= .ok (.value v) w):dD P ap o v
 |move (x:bS) (h:o.op= .move x\/o.op= .assign x):dD P ap o (ap x)
 |pick (c a b:bS) (t:Bool) (h:o.op= .pick c a b) (ay:ap c= .bool t):dD P ap o (if t then ap a else ap b)
 |extract (x:bS) (i:Nat) (vs:Array af) (v:af) (h:o.op= .extract x i) (an:ap x= .tuple vs) (aD:vs[i]? =J v):dD P ap o v
 |field (t:bV) (x:bS) (i:Nat) (bY:Array Field) (f:Field) (d:TypeDesc) (cs:Array af) (v:af) (h:o.op= .field t x i) (aJ:P.underlying t=J (.struct bY)) (bF:bY[i]? =J f)
   (bg:P.underlying f.type=J d) (an:ap x= .agg cs) (aD:if lI d=aa then ∃k,P.info? f.type=J k/\f.offset+k.size<=cs.size/\v= .agg (cs.extract f.offset (f.offset+k.size)) else cs[f.offset]? =J v):dD P ap o v
 |build (t:bV) (cQ:Array (Nat×bS)) (bY:Array Field) (i:TypeInfo) (z:af) (cs:List af) (h:o.op= .build t cQ) (aJ:P.underlying t=J (.struct bY)) (az:P.info? t=J i) (bx:i.zero=J z)
   (dw:z.cells.toList.all dy=aa) (bb:∀x∈pC P bY,x.isSome=aa)
   (ay:k5 (λk=>((pC P bY)[k]?).join) z.cells.toList (cQ.toList.map λp=>(p.1,ap p.2))=J cs):dD P ap o (.agg cs.toArray)
 |Jg (t:bV) (cQ:Array (Nat×bS)) (n:Nat) (e:bV) (i k:TypeInfo) (z:af) (cs:List af) (h:o.op= .build t cQ) (aJ:P.underlying t=J (.array n e)) (az:P.info? t=J i) (bx:i.zero=J z)
   (dw:z.cells.toList.all dy=aa) (he:P.info? e=J k)
   (ay:k5 (λj=>J (j*k.size,k.size)) z.cells.toList (cQ.toList.map λp=>(p.1,ap p.2))=J cs):dD P ap o (.agg cs.toArray)
 |J6 (t:bV) (x y:bS) (e:bV) (d:TypeDesc) (i:TypeInfo) (l:Nat) (k:aG) (n:Int) (cs:Array af) (h:o.op= .index t x y) (aJ:P.underlying t=J (.array l e)) (bg:P.underlying e=J d) (bl:lI d=aa) (az:P.info? e=J i)
   (an:ap x= .agg cs) (aZ:ap y= .int k n) (bR:0<=n) (h1:n<l):dD P ap o (.agg (cs.extract (n.toNat*i.size) (n.toNat*i.size+i.size)))
 |J5 (t:bV) (x y:bS) (e:bV) (d:TypeDesc) (i:TypeInfo) (l:Nat) (k:aG) (n:Int) (cs:Array af) (v:af) (h:o.op= .index t x y) (aJ:P.underlying t=J (.array l e)) (bg:P.underlying e=J d) (bl:lI d=ak) (az:P.info? e=J i)
   (an:ap x= .agg cs) (aZ:ap y= .int k n) (bR:0<=n) (h1:n<l) (aD:cs[n.toNat*i.size]? =J v):dD P ap o v
 |nilCheck (x:bS) (a:Addr) (h:o.op= .nilCheck x) (an:ap x= .pointer (J a)):dD P ap o (.pointer (J a))
 |fieldAddr (t:bV) (x:bS) (i:Nat) (bY:Array Field) (f:Field) (k:TypeInfo) (b off:Nat) (h:o.op= .fieldAddr t x i) (aJ:P.underlying t=J (.struct bY)) (bF:bY[i]? =J f)
   (hk:P.info? f.type=J k) (bf:k.size≠0) (an:ap x= .pointer (J ⟨b,off,ae⟩)):dD P ap o (.pointer (J ⟨b,off+f.offset,ae⟩))
 |indexAddr (t:bV) (x y:bS) (e:bV) (i:TypeInfo) (b off l c:Nat) (k:aG) (n:Int) (h:o.op= .indexAddr t x y) (aJ:P.underlying t=J (.slice e)) (az:P.info? e=J i)
   (an:ap x= .slice (J ⟨b,off,ae⟩) l c) (aZ:ap y= .int k n) (bR:0<=n) (h1:n<l):dD P ap o (.pointer (J ⟨b,off+n.toNat*i.size,ae⟩))
 |J4 (t:bV) (x y:bS) (e:bV) (i:TypeInfo) (b off l:Nat) (k:aG) (n:Int) (h:o.op= .indexAddr t x y) (aJ:P.underlying t=J (.array l e)) (az:P.info? e=J i)
   (an:ap x= .pointer (J ⟨b,off,ae⟩)) (aZ:ap y= .int k n) (bR:0<=n) (h1:n<l):dD P ap o (.pointer (J ⟨b,off+n.toNat*i.size,ae⟩))
 |JC (t:bV) (x y:bS) (e:bV) (i:TypeInfo) (l g:Nat) (k:aG) (n:Int) (h:o.op= .indexAddr t x y) (aJ:P.underlying t=J (.array l e)) (az:P.info? e=J i) (bf:i.size=1)
   (an:ap x= .chan (J (g*4096))) (aZ:ap y= .int k n) (bR:0<=n) (h1:n<l) (aR:l<4096):dD P ap o (.chan (J (g*4096+n.toNat)))
 |slice (t:bV) (x:bS) (cf az:Option bS) (e:bV) (i:TypeInfo) (b off l c:Nat) (n dG:Nat) (h:o.op= .slice t x cf az ae) (aJ:P.underlying t=J (.slice e)) (fm:P.info? e=J i)
   (an:ap x= .slice (J ⟨b,off,ae⟩) l c) (aw:c<dc) (eW:qo ap cf n) (eN:nJ ap az l dG) (h1:n<=dG) (ai:dG<=c)
   (aT:az=ae->True):dD P ap o (.slice (J ⟨b,if c=n then off else off+n*i.size,ae⟩) (dG - n) (c - n))
 |slice3 (t:bV) (x h8:bS) (az:Option bS) (e:bV) (i:TypeInfo) (b off l c:Nat) (dG k':Nat) (oV:aG) (h:o.op= .slice t x ae az (J h8)) (aJ:P.underlying t=J (.slice e)) (fm:P.info? e=J i)
   (an:ap x= .slice (J ⟨b,off,ae⟩) l c) (ay:(c<dc/\k'<=c)\/(c=dc/\k'<=l)) (eN:∃y k,az=J y/\ap y= .int k dG) (mV:ap h8= .int oV k') (h1:dG<=k'):dD P ap o (.slice (J ⟨b,off,ae⟩) dG k')
 |P5 (t:bV) (x cf az h8:bS) (e:bV) (i:TypeInfo) (b off l c n dG k':Nat) (Kb J9 oV:aG) (h:o.op= .slice t x (J cf) (J az) (J h8)) (aJ:P.underlying t=J (.slice e)) (fm:P.info? e=J i)
   (an:ap x= .slice (J ⟨b,off,ae⟩) l c) (ay:(c<dc/\k'<=c)\/(c=dc/\k'<=l)) (eW:ap cf= .int Kb n) (eN:ap az= .int J9 dG) (mV:ap h8= .int oV k') (bR:n<=dG) (h1:dG<=k'):dD P ap o (.chan ae)
 |P4 (t:bV) (x h8:bS) (az:Option bS) (e:bV) (i:TypeInfo) (oV:aG) (h:o.op= .slice t x ae az (J h8)) (aJ:P.underlying t=J (.slice e)) (fm:P.info? e=J i)
   (an:ap x= .slice ae 0 0) (eN:∃y k,az=J y/\ap y= .int k 0) (mV:ap h8= .int oV 0):dD P ap o (.slice ae 0 0)
 |nc (t:bV) (x:bS) (cf az:Option bS) (e:bV) (i:TypeInfo) (h:o.op= .slice t x cf az ae) (aJ:P.underlying t=J (.slice e)) (fm:P.info? e=J i)
   (an:ap x= .slice ae 0 0) (eW:qo ap cf 0) (eN:nJ ap az 0 0):dD P ap o (.slice ae 0 0)
 |len (x:bS) (t e:bV) (a:Option Addr) (l c:Nat) (h:o.op= .call {callee:= .builtin .len,args:=#[x],argTypes:=#[t]}) (aJ:P.underlying t=J (.slice e)) (an:ap x= .slice a l c):dD P ap o (.int .i64 l)
 |Jj (x:bS) (t e:bV) (h:o.op= .call {callee:= .builtin .cap,args:=#[x],argTypes:=#[t]}) (aJ:P.underlying t=J (.slice e)) (an:ap x= .slice ae 0 0):dD P ap o (.int .i64 0)
 |A2 (neq:Bool) (x y:bS) (t u e:bV) (a:Addr) (l c:Nat) (h:o.op= .binOp (if neq then .neq else .eql) t x y u) (aJ:P.underlying t=J (.slice e))
   (an:ap x= .slice (J a) l c) (aZ:ap y= .slice ae 0 0):dD P ap o (.bool neq)
 |func (fn:Fn) (first captured:Array bS) (h:o.op= .makeFunc fn first captured) (bF:∀x∈first.toList++captured.toList,storable (ap x)=aa):dD P ap o (.func fn (first.map ap) (captured.map ap))
inductive uh (od aW:Bool) (key z:af):List (List af×List af)->af->Bool->Prop where
 |qZ:uh od aW key z [] z ak
 |rS (p:List af×List af) (E:List (List af×List af)) (h:ey od p.1=key):uh od aW key z (p::E) (ey aW p.2) aa
 |next (p:List af×List af) (E:List (List af×List af)) (v:af) (b:Bool) (h:ey od p.1≠key) (bp:uh od aW key z E v b):uh od aW key z (p::E) v b
inductive uA (od:Bool) (key val:List af):List (List af×List af)->List (List af×List af)->Prop where
 |qZ:uA od key val [] [(key,val)]
 |rS (p:List af×List af) (E:List (List af×List af)) (h:ey od p.1=ey od key):uA od key val (p::E) ((p.1,val)::E)
 |next (p:List af×List af) (E E':List (List af×List af)) (h:ey od p.1≠ey od key) (bp:uA od key val E E'):uA od key val (p::E) (p::E')
open Classical in
noncomputable def o6 (v:af):List MapEntry->Nat->Option (Nat×af)|[],_=>ae|e::a,i=>if e.key=v then J (i,e.val) else o6 v a (i+1)
structure Keyed (P:bI) (bG:bV) (ho:af->Prop):Prop where
 check:∀(em:Bool) (v:af) (w:World),ho v->(Instr.checkKey em 10000 bG v).run P w= .ok () w
 find:∀(v:af) (es:List MapEntry) (w:World),ho v->(∀x∈es,ho x.key)->(Instr.findKey bG v es).run P w= .ok (o6 v es 0) w
 stays:∀(v:af) (w:World),ho v->(Instr.keyThatStays v v).run P w= .ok v w
inductive fH (P:bI) (ap:bS->af) (o:Oper) (m:Mem):af->Prop where
 |load (t:bV) (x:bS) (b off:Nat) (d:TypeDesc) (v:af) (h:o.op= .load t x) (an:ap x= .pointer (J ⟨b,off,ae⟩)) (aJ:P.underlying t=J d) (bg:lI d=ak) (aD:m.load b off=J v):fH P ap o m v
 | wc (t : bV) (x : bS) (g n : Nat) (s : List UInt8) (h : o.op = .load t x) (an : ap x = .chan (J (g * 4096 + n))) (bB : p2[n]? = J s) (aJ : P.underlying t = J .string) (bs : P.globalNamed "humpyard/yardgen.dests" = J g) : fH P ap o m (.string ⟨s.toArray⟩)
 |wI (t:bV) (x:bS) (b off:Nat) (d:TypeDesc) (i:TypeInfo) (cs:List af) (h:o.op= .load t x) (an:ap x= .pointer (J ⟨b,off,ae⟩)) (aJ:P.underlying t=J d) (bg:lI d=aa) (az:P.info? t=J i)
   (aD:kd m b off i.size=J cs):fH P ap o m (.agg cs.toArray)
 |slice (t:bV) (x:bS) (cf az:Option bS) (e:bV) (i:TypeInfo) (L:List af) (b off l:Nat) (n dG:Nat) (h:o.op= .slice t x cf az ae) (aJ:P.underlying t=J (.slice e)) (fm:P.info? e=J i)
   (an:ap x= .slice (J ⟨b,off,ae⟩) l dc) (hm:m.blk b= .own L e) (eW:qo ap cf n) (eN:nJ ap az l dG) (h1:n<=dG) (ai:dG<=l)
   (aT:off+l*i.size<=L.length):fH P ap o m (.slice (J ⟨b,off+n*i.size,ae⟩) (dG - n) dc)
 |vx (t:bV) (x:bS) (cf az:Option bS) (e:bV) (i:TypeInfo) (L:List af) (b off l c k:Nat) (n dG:Nat) (h:o.op= .slice t x cf az ae) (aJ:P.underlying t=J (.slice e)) (fm:P.info? e=J i)
   (an:ap x= .slice (J ⟨b,off,ae⟩) l c) (hk:(c=dc/\k=l)\/c=dc+k) (hm:m.blk b= .own L e) (eW:qo ap cf n) (eN:nJ ap az l dG) (h1:n<=dG) (ai:dG<=k) (aT:n<k):
   fH P ap o m (.slice (J ⟨b,off+n*i.size,ae⟩) (dG - n) (dc+(k - n)))
 |str (s t:bV) (x:bS) (e:bV) (b off l c:Nat) (cs:List UInt8) (h:o.op= .convert s t x) (bf:P.underlying s=J (.slice e)) (he:P.underlying e=J (.int .u8)) (aJ:P.underlying t=J .string)
   (an:ap x= .slice (J ⟨b,off,ae⟩) l c) (aD:kd m b off l=J (cs.map λu=> .int .u8 u.toNat)):fH P ap o m (.string ⟨cs.toArray⟩)
 |zQ (s t:bV) (x:bS) (e:bV) (l c:Nat) (h:o.op= .convert s t x) (bf:P.underlying s=J (.slice e)) (he:P.underlying e=J (.int .u8)) (aJ:P.underlying t=J .string)
   (an:ap x= .slice ae l c):fH P ap o m (.string .empty)
 |lookup (hZ:bV) (x dx:bS) (ok:Bool) (u bG bA:bV) (b:Nat) (L:List af) (E:List (List af×List af)) (i:TypeInfo) (z v0:af) (t:Bool) (ho:af->Prop) (h:o.op= .lookup hZ x dx ok)
   (jk:P.underlying hZ=J (.map bG bA)) (hu:P.underlying u=J (.map bG bA)) (an:(ap x= .map (J b)/\m.blk b= .map L u/\qG (P.cellsOf bG) (P.cellsOf bA) L E)\/(ap x= .map ae/\E=[])) (nC:0<P.cellsOf bG)
   (tf:ek P bA=ak->P.cellsOf bA=1) (K:Keyed P bG ho) (bF:flat (ap dx)=aa) (hk:ho (ap dx)) (bs:∀p∈E,ho (ey (ek P bG) p.1)) (az:P.info? bA=J i) (bx:i.zero=J z) (dw:kz z=aa)
   (aR:uh (ek P bG) (ek P bA) (ap dx) z E v0 t):fH P ap o m (if ok then .tuple #[v0, .bool t] else v0)
inductive jC (P:bI) (ap:bS->af) (o:Oper) (n:Nat):bW->af->Prop where
 |alloc (t:bV) (i:TypeInfo) (z:af) (h:o.op= .alloc t) (az:P.info? t=J i) (bx:i.zero=J z) (dw:z.cells.toList.all dy=aa) (bf:z.cells.size=i.size):
   jC P ap o n (.own z.cells.toList t) (.pointer (J ⟨n,0,ae⟩))
 |box (t:bV) (x:bS) (i:TypeInfo) (h:o.op= .box t x) (az:P.info? t=J i) (aD:storable (ap x)=aa) (bf:(ap x).cells.size=i.size):
   jC P ap o n (.own (ap x).cells.toList t) (.pointer (J ⟨n,0,ae⟩))
 |buildSlice (t:bV) (l:Nat) (cQ:Array (Nat×bS)) (e:bV) (i:TypeInfo) (z:af) (cs:List af) (h:o.op= .buildSlice t l cQ) (aJ:P.underlying t=J (.slice e)) (az:P.info? e=J i) (bx:i.zero=J z)
   (dw:z.cells.toList.all dy=aa) (et:z.cells.size=i.size) (uO:l*i.size<=16777216) (uW:l<9223372036854775808)
   (ay:k5 (λk=>J (k*i.size,i.size)) (gb l z.cells.toList).flatten (cQ.toList.map λp=>(p.1,ap p.2))=J cs):
   jC P ap o n (.own cs e) (.slice (J ⟨n,0,ae⟩) l l)
 |makeSlice (t:bV) (x y:bS) (l c:Nat) (k k':aG) (e:bV) (i:TypeInfo) (z:af) (h:o.op= .makeSlice t x y) (aJ:P.underlying t=J (.slice e)) (az:P.info? e=J i) (bx:i.zero=J z)
   (dw:z.cells.toList.all dy=aa) (et:z.cells.size=i.size) (an:ap x= .int k l) (aZ:ap y= .int k' c) (s7:l<=c) (aw:i.bytes*c<=140737488355328) (ay:c<9223372036854775808):
   jC P ap o n (.own (gb c z.cells.toList).flatten e) (.slice (J ⟨n,0,ae⟩) l c)
 |bytes (s t:bV) (x:bS) (e:bV) (i:TypeInfo) (b:ByteArray) (h:o.op= .convert s t x) (bf:P.underlying s=J .string) (aJ:P.underlying t=J (.slice e)) (he:P.underlying e=J (.int .u8)) (az:P.info? e=J i)
   (kL:i.size=1) (an:ap x= .string b) (aw:b.size<9223372036854775807):
   jC P ap o n (.own (b.data.toList.map λu=> .int .u8 u.toNat) e) (.slice (J ⟨n,0,ae⟩) b.size dc)
 |makeMap (t bG bA:bV) (h:o.op= .makeMap t ae) (aJ:P.underlying t=J (.map bG bA)):jC P ap o n (.map [] t) (.map (J n))
def kt (m:Mem) (d:Nat):af->Option (List af)| .slice (J ⟨b,a,ae⟩) l _=>kd m b a (l*d)| .slice ae _ _=>J []| .string s=>if d=1 then J (s.data.toList.map λu=> .int .u8 u.toNat) else ae|_=>ae
def ja:af->Nat| .slice _ l _=>l| .string s=>s.size|_=>0
def callee (o:Oper) (d:bS->af) (f:FuncId) (b:Array af):Prop:=∃x e g first a,o.op= .call {callee:= .value x,args:=e,argTypes:=g}/\d x= .func (.func f) first a/\b=first++e.map d++a
inductive sA (P:bI) (m:Mem) (u:bV) (i:TypeInfo) (v:af) (n:Nat) (new:List af):Prop where
 |el (hu:(∃cz,P.underlying u=J (.slice cz))\/P.underlying u=J .string) (aR:ja v=n) (he:kt m i.size v=J new)
 |mk (kk k:aG) (z:af) (hu:P.underlying u=J (.int kk)) (aD:v= .int k n) (bx:i.zero=J z) (dw:z.cells.toList.all dy=aa) (et:z.cells.size=i.size) (cN:0<i.size)
   (aw:n*i.bytes<=140737488355328) (hm:n<9223372036854775807) (nE:new=(gb n z.cells.toList).flatten)
inductive hR (P:bI) (C:FuncId->Array af->Mem->af->Mem->Prop) (ap:bS->af) (o:Oper) (m:Mem):af->Mem->Prop where
 |store (t:bV) (x y:bS) (b off:Nat) (i:TypeInfo) (L:List af) (e:bV) (h:o.op= .store t x y) (an:ap x= .pointer (J ⟨b,off,ae⟩)) (az:P.info? t=J i) (hm:m.blk b= .own L e)
   (aD:storable (ap y)=aa) (bf:(ap y).cells.size=i.size) (aR:off+i.size<=L.length):hR P C ap o m undef (m.put b (.own (eY L off (ap y).cells.toList) e))
 |call (f:FuncId) (args:Array af) (v:af) (m':Mem) (h:callee o ap f args) (cW:C f args m v m'):hR P C ap o m v m'
 |vZ (x y:bS) (t u:bV) (e:bV) (i:TypeInfo) (a:Option Addr) (l c:Nat) (h:o.op= .call {callee:= .builtin .append,args:=#[x,y],argTypes:=#[t,u]}) (aJ:P.underlying t=J (.slice e)) (az:P.info? e=J i)
   (an:ap x= .slice a l c) (ay:c<dc) (s7:l<=c) (aZ:sA P m u i (ap y) 0 []):hR P C ap o m (ap x) m
 |sP (x y:bS) (t u:bV) (e:bV) (i:TypeInfo) (z:af) (a:Option Addr) (l c n:Nat) (ew new:List af) (h:o.op= .call {callee:= .builtin .append,args:=#[x,y],argTypes:=#[t,u]})
   (aJ:P.underlying t=J (.slice e)) (az:P.info? e=J i) (bx:i.zero=J z) (dw:z.cells.toList.all dy=aa) (et:z.cells.size=i.size) (cN:0<i.size)
   (an:ap x= .slice a l c) (ay:c<l+n)
   (aM:kt m i.size (ap x)=J ew) (nF:ew.length=l*i.size) (aZ:sA P m u i (ap y) n new) (bB:new.length=n*i.size) (aw:(l+n)*i.bytes<=140737488355328) (hm:l+n<9223372036854775807):
   hR P C ap o m (.slice (J ⟨m.next,0,ae⟩) (l+n) dc) (m.push (.own (ew++new) e))
 |vY (x y:bS) (t u:bV) (e:bV) (i:TypeInfo) (b off l c n:Nat) (L new:List af) (h:o.op= .call {callee:= .builtin .append,args:=#[x,y],argTypes:=#[t,u]})
   (aJ:P.underlying t=J (.slice e)) (az:P.info? e=J i) (an:ap x= .slice (J ⟨b,off,ae⟩) l c) (gN:c<dc)
   (ay:l+n<=c) (hm:m.blk b= .own L e) (aZ:sA P m u i (ap y) n new) (bB:new.length=n*i.size) (aR:off+(l+n)*i.size<=L.length):
   hR P C ap o m (.slice (J ⟨b,off,ae⟩) (l+n) c) (m.put b (.own (eY L (off+l*i.size) new) e))
 |yy (x y:bS) (t u:bV) (e:bV) (i:TypeInfo) (b off l c k n:Nat) (L new:List af) (h:o.op= .call {callee:= .builtin .append,args:=#[x,y],argTypes:=#[t,u]})
   (aJ:P.underlying t=J (.slice e)) (az:P.info? e=J i) (an:ap x= .slice (J ⟨b,off,ae⟩) l c) (gN:c=dc+k) (nB:0<k)
   (ay:l+n<=k) (hm:m.blk b= .own L e) (aZ:sA P m u i (ap y) n new) (bB:new.length=n*i.size) (aR:off+(l+n)*i.size<=L.length):
   hR P C ap o m (.slice (J ⟨b,off,ae⟩) (l+n) c) (m.put b (.own (eY L (off+l*i.size) new) e))
 |append (x y:bS) (t u:bV) (e:bV) (i:TypeInfo) (z:af) (b off l n:Nat) (L new:List af) (h:o.op= .call {callee:= .builtin .append,args:=#[x,y],argTypes:=#[t,u]})
   (aJ:P.underlying t=J (.slice e)) (az:P.info? e=J i) (bx:i.zero=J z) (dw:z.cells.toList.all dy=aa) (et:z.cells.size=i.size) (cN:0<i.size)
   (an:ap x= .slice (J ⟨b,off,ae⟩) l dc) (jj:m.blk b= .own L e) (yS:off+l*i.size<=L.length)
   (aZ:sA P m u i (ap y) n new) (bB:new.length=n*i.size) (aw:(l+n)*i.bytes<=140737488355328) (hm:l+n<9223372036854775807):
   hR P C ap o m (.slice (J ⟨m.next,0,ae⟩) (l+n) dc) ((m.put b .dead).push (.own ((L.drop off).take (l*i.size)++new) e))
 |copy (x y:bS) (t u:bV) (e:bV) (i:TypeInfo) (b off l c:Nat) (L:List af) (cs:List af) (h:o.op= .call {callee:= .builtin .copy,args:=#[x,y],argTypes:=#[t,u]}) (aJ:P.underlying t=J (.slice e)) (az:P.info? e=J i)
   (an:ap x= .slice (J ⟨b,off,ae⟩) l c) (hm:m.blk b= .own L e) (aZ:kt m i.size (ap y)=J cs) (bB:cs.length=ja (ap y)*i.size) (aR:off+l*i.size<=L.length):
   hR P C ap o m (.int .i64 (rB (ja (ap y)) l)) (m.put b (.own (eY L off (cs.take (rB (ja (ap y)) l*i.size))) e))
 |clear (x:bS) (t:bV) (e:bV) (i:TypeInfo) (z:af) (b off l c:Nat) (L:List af) (h:o.op= .call {callee:= .builtin .clear,args:=#[x],argTypes:=#[t]}) (aJ:P.underlying t=J (.slice e)) (az:P.info? e=J i)
   (bx:i.zero=J z) (dw:z.cells.toList.all dy=aa) (et:z.cells.size=i.size) (an:ap x= .slice (J ⟨b,off,ae⟩) l c) (hm:m.blk b= .own L e) (hV:0<l) (aR:off+l*i.size<=L.length):
   hR P C ap o m (.tuple #[]) (m.put b (.own (eY L off (gb l z.cells.toList).flatten) e))
 |mapUpdate (hZ:bV) (x jW j3:bS) (u bG bA:bV) (b:Nat) (L eo vc:List af) (E E':List (List af×List af)) (ho:af->Prop) (h:o.op= .mapUpdate hZ x jW j3\/o.op= .insert hZ x jW j3)
   (jk:P.underlying hZ=J (.map bG bA)) (hu:P.underlying u=J (.map bG bA)) (an:ap x= .map (J b)) (hm:m.blk b= .map L u) (bp:qG (P.cellsOf bG) (P.cellsOf bA) L E) (nC:0<P.cellsOf bG)
   (K:Keyed P bG ho) (yP:ap jW=ey (ek P bG) eo) (uV:eo.length=P.cellsOf bG) (yQ:eo.all dy=aa) (bF:flat (ap jW)=aa) (hk:ho (ap jW)) (bs:∀p∈E,ho (ey (ek P bG) p.1))
   (rZ:storable (ap j3)=aa) (J1:ap j3=ey (ek P bA) vc) (tg:vc.length=P.cellsOf bA) (wA:∀v∈vc,v∈(ap j3).cells.toList) (hb:uA (ek P bG) eo vc E E'):
   hR P C ap o m undef (m.put b (.map (E'.flatMap λp=>p.1++p.2) u))
inductive ln (P:bI) (C:FuncId->Array af->Mem->af->Mem->Prop) (ap:bS->af) (o:Oper) (m:Mem):af->Mem->Prop where
 |pure {v:af} (h:dD P ap o v):ln P C ap o m v m
 |read {v:af} (h:fH P ap o m v):ln P C ap o m v m
 |new {X:bW} {v:af} (h:jC P ap o m.next X v):ln P C ap o m v (m.push X)
 |fX {v:af} {m':Mem} (h:hR P C ap o m v m'):ln P C ap o m v m'
def wanted (e:List Oper) (f:Nat->af) (o:Oper):Bool:=
 match o.guard with
 |none=>aa
 |some (j,a)=>
  match (e[j]?).bind (·.dst) with
  |some d=>(match f d with| .bool b=>b==a|_=>ak)
  |none=>ak
def k6 (P:bI) (C:FuncId->Array af->Mem->af->Mem->Prop) (a:List Oper):List Oper->(Nat->af)->Mem->(Nat->af)->Mem->Prop
 |[],b,m,d,e=>d=b/\e=m
 |o::g,b,m,d,e=>
  if wanted a b o=aa then ∃v f,ln P C (bk b) o m v f/\k6 P C a g (set b o.dst v) f d e
  else k6 P C a g (set b o.dst undef) m d e
def lT:Op->Bool| .store .. | .mapUpdate .. | .insert .. =>aa| .call {callee:= .builtin .len, .. }| .call {callee:= .builtin .max, .. }| .call {callee:= .builtin .min, .. }=>ak| .call _=>aa|_=>ak
def gD (B:Array Nat) (i k:Nat):Bool:=(B.getD i 0).testBit k
structure Acc where
 reads:List (Nat×(Mem->Prop))
 iC:List (Nat×Mem)
 news:List (Nat×Nat)
def hW (P:bI) (C:FuncId->Array af->Mem->af->Mem->Prop) (b:List Oper) (B:Array Nat):Nat->List Oper->Acc->(Nat->af)->Mem->(Nat->af)->Mem->Prop
 |_,[],_,a,m,d,e=>d=a/\e=m
 |i,o::f,A,a,m,d,e=>
  if wanted b a o=aa then
   (∃v,dD P (bk a) o v/\hW P C b B (i+1) f A (set a o.dst v) m d e)\/
   (∃v,fH P (bk a) o m v/\(∀x∈A.iC,gD B i x.1=ak->fH P (bk a) o x.2 v)/\
    hW P C b B (i+1) f {A with reads:=(i,λm=>fH P (bk a) o m v)::A.reads} (set a o.dst v) m d e)\/
   (∃X v,jC P (bk a) o m.next X v/\hW P C b B (i+1) f {A with news:=(i,m.next)::A.news} (set a o.dst v) (m.push X) d e)\/
   (∃v g,hR P C (bk a) o m v g/\(∀x∈A.reads,gD B i x.1=ak->x.2 g)/\(∀x∈A.news,gD B i x.1=ak->g.blk x.2=m.blk x.2)/\
    hW P C b B (i+1) f {A with iC:=(i,m)::A.iC} (set a o.dst v) g d e)
  else hW P C b B (i+1) f A (set a o.dst undef) m d e
inductive fG where
 |normal
 |exit (id:Nat)
 |ret
 deriving DecidableEq
def abv (n:Nat):Option Addr->Prop|some a=>a.block<n|none=>True
def r4 (n:Nat):af->Prop| .pointer a=>abv n a|_=>False
def h7 (n:Nat):af->Prop| .pointer a| .slice a _ _=>abv n a| .map (J r)=>r<n| .func _ b d=>b=#[]/\∀v∈d.toList,r4 n v| .chan _| .iface _ _| .agg _| .tuple _=>False|_=>True
def iv (n:Nat):af->Prop| .agg cs=>∀v∈cs.toList,h7 n v|v=>h7 n v
def low (n:Nat):af->Prop| .chan _=>True| .tuple cs=>∀v∈cs.toList,iv n v| .func _ a b=>(∀v∈a.toList,iv n v)/\∀v∈b.toList,iv n v|v=>iv n v
def qe (n:Nat):bW->Prop| .own L _| .map L _=>∀v∈L,h7 n v| .ro rd=>∀i v,rd i=J v->h7 n v| .dead=>True| .lock _ _ _ _=>True
def nI:bS->Bool| .tmp _| .func _=>aa| .const v=>flat v| .global _=>aa
def vh (a:Array Oper) (o:Oper):List Nat:=
 (o.op.operands.toList.filterMap λ| .tmp t=>J t|_=>ae)++
 (match o.guard with|some (g,_)=>((a[g]?).bind (·.dst)).toList|none=>[])++o.dst.toList
def sR (a:Array Oper) (x o:Oper):Bool:=
 (match x.dst with|some d=>(vh a o).contains d|none=>ak)||(match o.dst with|some d=>(vh a x).contains d|none=>ak)||(lT x.op&&lT o.op)
def vj (a:Array Oper):Bool:=
 (mN a.size).all λi=>
  match a[i]? with
  |none=>aa
  |some o=>(o.after.toList.all λe=> !Region.binds .any e||decide (e.on<i))&&
   (mN i).all λx=>match a[x]? with|none=>aa|some y=> !sR a y o||gD (kp a) i x
def jw (n:Nat):Code->Bool
 | .region _ f e=>(f.toList.all λo=>o.op.operands.toList.all nI&&(match o.dst with|some d=>decide (d<n)|none=>aa))&&(!e||vj f)
 | .seq a b=>jw n a&&jw n b
 | .cond c a b=>nI c&&jw n a&&jw n b
 | .block _ c=>jw n c
 | .scope c=>jw n c
 | .loop c=>jw n c
 |_=>aa
structure lj (ds:List Deferred) (j:cj) (N:Nat) (fr:Nat->af) (a:Act):Prop where
 val:∀t,de j (fr t) (a.tmps.getD t undef)
 defers:a.defers=ds
 size:a.tmps.size=N
def fG.out:fG->Exit| .normal=> .normal| .exit id=> .exit id| .ret=> .ret
def Uh (a:Array Oper):List Nat:=a.toList.filterMap (·.dst)
def q6:Code->List Nat| .region _ d _=>Uh d| .seq a b=>q6 a++q6 b| .cond _ a b=>q6 a++q6 b| .block _ c=>q6 c| .scope c=>q6 c| .loop c=>q6 c|_=>[]
structure WF (m:Mem):Prop where
 dead:∀b,m.next<=b->m.blk b= .dead
 low:∀b,qe m.next (m.blk b)
structure afV (P:bI) (c:Code) (fr:Nat->af) (m:Mem) (e:fG) (cb:Nat->af) (m':Mem):Prop where
 next:m.next<=m'.next
 keep:∀i,(q6 c).contains i=ak->cb i=fr i
 low:WF m->(∀t,low m.next (fr t))->WF m'/\∀t,low m'.next (cb t)
 sound:∀{ds:List Deferred} {N:Nat} {j:cj} {a:Act} {w:World} {Q:Exit->Act->World->Prop},jw N c=aa->Rel P j m w->WF m->lj ds j N fr a->(∀a' w' c6,Post P j m w c6 m' w'->lj ds c6 N cb a'->Q e.out a' w')->c.wp P Q a w
def aeJ:Code->Bool| .seq (.region _ _ _) (.block _ (.loop _))=>aa|_=>ak
def lS (P:bI) (C:FuncId->Array af->Mem->af->Mem->Prop):Nat->Code->(Nat->af)->Mem->fG->(Nat->af)->Mem->Prop|0,_,_,_,_,_,_=>False|_+1, .skip,g,m,e,d,f=>e= .normal/\d=g/\f=m|_+1, .label _,g,m,e,d,f=>e= .normal/\d=g/\f=m|_+1, .exit l,g,m,e,d,f=>e= .exit l/\d=g/\f=m|_+1, .ret,g,m,e,d,f=>e= .ret/\d=g/\f=m|_+1, .region _ h ak,g,m,e,d,f=>e= .normal/\k6 P C h.toList h.toList g m d f|_+1, .region _ h aa,g,m,e,d,f=>e= .normal/\hW P C h.toList (kp h) 0 h.toList ⟨[],[],[]⟩ g m d f|n+1, .seq a b,g,m,e,d,f=>(∃i j k,lS P C n a g m i j k/\(if i= .normal then lS P C n b j k e d f else e=i/\d=j/\f=k))\/(aeJ a=aa/\afV P (.seq a b) g m e d f)|n+1, .cond c a b,g,m,e,d,f=>∃t,bk g c= .bool t/\lS P C n (if t then a else b) g m e d f|n+1, .scope c,g,m,e,d,f=>lS P C n c g m e d f|n+1, .block l c,g,m,e,d,f=>∃i,lS P C n c g m i d f/\e=(if i= .exit l then .normal else i)|n+1, .loop c,g,m,e,d,f=>∃i j k,lS P C n c g m i j k/\(if i= .normal then lS P C n (.loop c) j k e d f else e=i/\d=j/\f=k)|_+1,_,_,_,_,_,_=>False
def KZ (P:bI) (g:Nat->af) (m:Mem):ResultVar->af->Prop
 | .tmp t,v=>v=g t
 | .cell a t,v=>∃b e,g a= .pointer (J ⟨b,e,ae⟩)/\∃d,P.underlying t=J d/\
   (if lI d=aa then ∃i f,P.info? t=J i/\kd m b e i.size=J f/\v= .agg f.toArray else m.load b e=J v)
def q2 (P:bI) (a:Nat->af) (m:Mem):List ResultVar->List af->Prop|[],[]=>True|r::b,v::d=>KZ P a m r v/\q2 P a m b d|_,_=>False
def lR (P:bI) (f:FuncId):Bool:=
 match P.funcs[f]? with
 | J fn => !(fn.name == "runtime.NumGoroutine") && (match fn.body with | J c => jw fn.ntmps c | ae => ak)
 |none=>ak
def pack:List af->af|[x]=>x|vs=> .tuple vs.toArray
structure Grown (w w':World):Prop where
 os:w'.os=w.os
 tape:w'.tape=w.tape
 output:w'.output=w.output
 size:w.heap.size<=w'.heap.size
 heap:∀c,c<w.heap.size->w'.heap[c]? =w.heap[c]?
def LB (P:bI) (f:FuncId) (a:Array af) (m:Mem) (v:af) (b:Mem):Prop:=
 m.next<=b.next/\(WF m->low b.next v/\WF b)/\
  ∀(j:cj) (w:World) (h:Array af),WF m->Rel P j m w->bP (de j) a.toList h.toList->Calls P f h w λe i=>∃d g,e= .returned d/\Post P j m w g b i/\de g v d
def Cl (P:bI) (g:FuncId):Prop:=
 (∃ fn, P.funcs[g]? = J fn ∧ (fn.name == "runtime.NumGoroutine") = ak ∧ fn.body.isNone = ak) ∧
  ∀(cs:Array af) (w:World),CallsD P g cs .returning w λe u w'=>(∃v,e= .returned v)/\u= .returning/\w'=w
structure afP (P:bI) (fn:Func) (c A:Code) (id:Nat) (mk p3:Oper) (B:Code) (g k:Nat) (cs:Array bS):Prop where
 body:fn.body=J (.seq A (.seq (.region id #[mk,p3] ak) B))
 code:c= .seq A (.seq (.region id #[mk] ak) B)
 db:aeJ A=ak
 apv:mk.op= .makeFunc (.func g) #[] cs
 VR:mk.dst=J k
 abA:mk.guard=ae
 amB:p3.op= .defer {callee:= .value (.tmp k),args:=#[],argTypes:=#[]}
 amz:p3.dst=ae
 amA:p3.guard=ae
 apA:Cl P g
def qm (P:bI) (fn:Func) (c:Code):Prop:=fn.body=J c\/∃A b mk d B g k a,afP P fn c A b mk d B g k a
def jn (P:bI):Nat->FuncId->Array af->Mem->af->Mem->Prop
 |0,_,_,_,_,_=>False
 |n+1,f,a,m,v,h=>(lR P f=aa/\LB P f a m v h)\/∃fn c e j d g,P.funcs[f]? =J fn/\qm P fn c/\lR P f=aa/\a.size<=fn.ntmps/\
   lS P (jn P n) n c (λi=>(a++nj (fn.ntmps - a.size) undef).getD i undef) m e j d/\(e= .normal\/e= .ret)/\
   q2 P j d fn.results.toList g/\v=pack g/\(g.length=1\/∀x∈g,storable x=aa)/\
   (h=d\/(h=d.nf m.next/\low m.next v/\∀b,b<m.next->d.blk b=m.blk b\/qe m.next (d.blk b)))
end
section
def bP.Kh {b a:Type} {R:b->a->Prop} {l:List a} (h:bP R [] l):l=[]:=by
 cases l with
 |nil=>rfl
 |cons _ _=>exact h.elim
def Kq {fn:Fn} {a b:Array af} (h:dy (.func fn a b)=aa):a=#[]/\b=#[]:=by
 grind [dy]
theorem B0 {j:cj} {v d:af} (h:dy v=aa) (b:eA j v d):d=v:=by
 cases v with
 |pointer a=>cases a with
  |none=>exact b
  |some a=>grind [dy]
 |slice a l c=>cases a with
  |none=>exact b
  |some a=>grind [dy]
 |map r=>cases r with
  |none=>exact b
  |some r=>grind [dy]
 |chan _=>grind [dy]
 |func _ _ _=>
  obtain ⟨rfl,rfl⟩:=Kq (fn:= .func 0) (by simpa[flat,kz,dy] using h);obtain ⟨_,f,g,e⟩:=b;have:f=#[]:=Ii (bP.Kh e)
  grind
 |iface _ _=>grind [dy]
 |agg _=>grind [dy]
 |tuple _=>grind [dy]
 |_=>exact b
theorem q4 {j:cj} {v:af} (h:dy v=aa):eA j v v:=by
 cases v with
 |pointer a=>cases a with
  |none=>rfl
  |some a=>grind [dy]
 |slice a l c=>cases a with
  |none=>rfl
  |some a=>grind [dy]
 |map r=>cases r with
  |none=>rfl
  |some r=>grind [dy]
 |chan _=>grind [dy]
 |func _ _ _=>obtain ⟨rfl,rfl⟩:=Kq (fn:= .func 0) (by simpa[flat,kz,dy] using h);exact ⟨rfl,#[],rfl,trivial⟩
 |iface _ _=>grind [dy]
 |agg _=>grind [dy]
 |tuple _=>grind [dy]
 |_=>rfl
def bP.Js {d:Type} {R:d->d->Prop} {p:d->Bool} (h:∀a b,p a=aa->R a b->b=a):∀{l k:List d},l.all p=aa->bP R l k->k=l
 |[],[],_,_=>rfl
 |a::l,b::k,e,⟨i,g⟩=>by simp only[ml,fx] at e;rw[h a b e.1 i,bP.Js h e.2 g]
 |[],_::_,_,f=>f.elim
 |_::_,[],_,f=>f.elim
def bP.self {b:Type} {R:b->b->Prop} {p:b->Bool} (h:∀a,p a=aa->R a a):∀{l:List b},l.all p=aa->bP R l l
 |[],_=>fs
 |a::l,d=>by simp only[ml,fx] at d;exact ⟨h a d.1,bP.self h d.2⟩
def adh {j:cj} {v d:af} (h:kz v=aa) (e:fC j v d):d=v:=by
 cases v with
 |agg g=>obtain ⟨i,rfl,f⟩:=e;have:=bP.Js (λa b=>B0 (j:=j)) h f;simp_all
 |_=>exact B0 (j:=j) h (by grind [fC])
def zf {j:cj} {v:af} (h:kz v=aa):fC j v v:=by
 cases v with
 |agg b=>exact ⟨b,rfl,bP.self (λa=>q4) h⟩
 |_=>simp only[fC];exact q4 h
def W3 {j:cj} {v f:af} (h:flat v=aa) (e:de j v f):f=v:=by
 cases v with
 |tuple l=>obtain ⟨i,rfl,d⟩:=e;have:=bP.Js (λa b=>adh (j:=j)) h d;simp_all
 |func _ _ _=>obtain ⟨rfl,rfl⟩:=Kq (fn:= .func 0) (by simpa[flat,kz,dy] using h);obtain ⟨m,i,k,d,g⟩:=e;rw[k,Ii (bP.Kh d),Ii (bP.Kh g)]
 |chan _=>grind [flat,kz,dy]
 |_=>exact adh (j:=j) h (by grind [de])
theorem acZ {j:cj} {v:af} (h:flat v=aa):de j v v:=by
 cases v with
 |tuple b=>exact ⟨b,rfl,bP.self (λa=>zf) h⟩
 |func _ _ _=>obtain ⟨rfl,rfl⟩:=Kq (fn:= .func 0) (by simpa[flat,kz,dy] using h);exact ⟨#[],#[],rfl,trivial,trivial⟩
 |chan _=>grind [flat,kz,dy]
 |_=>simp only[de];exact zf h
def kY.abK {j:cj}:∀{l k:List af},l.all xr=aa->bP (fC j) l k->bP (kY j) l k
 |[],[],_,_=>trivial
 |[],_::_,_,h=>h.elim
 |_::_,[],_,h=>h.elim
 |v::l,bz::k,a,⟨e,d⟩=>by
  simp only[ml,fx] at a;refine ⟨?_,kY.abK a.2 d⟩;have b:=a.1;unfold xr at b;split at b
  ·exact e
  grind
theorem de.storable {j:cj} {v b:af} (h:de j v b) (a:storable v=aa):fC j v b:=by
 cases v with
 |tuple _=>grind [aF.storable]
 |chan _=>grind [aF.storable]
 |func fn i l=>
  simp only[aF.storable,fx] at a;have g:i=#[]:=by grind
  subst g;obtain ⟨m,k,d,f,e⟩:=h;rw[Ii (bP.Kh f)] at d;exact ⟨rfl,k,d,kY.abK a.2 e⟩
 |_=>exact h
def de.int {j:cj} {k:aG} {n:Int} {a:af} (h:de j (.int k n) a):a= .int k n:=h
def de.bool {j:cj} {b:Bool} {a:af} (h:de j (.bool b) a):a= .bool b:=h
theorem de.str {j:cj} {b:ByteArray} {a:af} (h:de j (.string b) a):a= .string b:=h
def de.nc {j:cj} {l c:Nat} {a:af} (h:de j (.slice ae l c) a):a= .slice ae l c:=h
def de.ptr {j:cj} {a:Addr} {b:af} (h:de j (.pointer (J a)) b):∃e,a.spot=ae/\j a.block=J e/\b= .pointer (J ⟨e.blk,e.db+a.off,ae⟩):=h
def de.slice {j:cj} {a:Addr} {l c:Nat} {b:af} (h:de j (.slice (J a) l c) b):∃e,a.spot=ae/\j a.block=J e/\
   ((c<dc/\b= .slice (J ⟨e.blk,e.db+a.off,ae⟩) l c)\/
    (c=dc/\0<e.es/\l<=e.cap - a.off / e.es/\e.cap<dc/\a.off%e.es=0/\a.off / e.es<=e.cap/\b= .slice (J ⟨e.blk,e.db+a.off,ae⟩) l (e.cap - a.off / e.es))\/
    (c=dc/\l=0/\∃f,b= .slice (J ⟨e.blk,f,ae⟩) 0 0)\/
    (c=0/\l=0/\∃d,b= .slice (J d) 0 0)\/
    (∃k,c=dc+k/\0<k/\l<=k/\0<e.es/\k<=e.cap - a.off / e.es/\e.cap<dc/\a.off%e.es=0/\a.off / e.es<=e.cap/\b= .slice (J ⟨e.blk,e.db+a.off,ae⟩) l (e.cap - a.off / e.es))):=h
def de.vw {j:cj} {a:Addr} {l c:Nat} {d:af} (h:de j (.slice (J a) l c) d) (n:c<=dc):∃e,a.spot=ae/\j a.block=J e/\
   ((c<dc/\d= .slice (J ⟨e.blk,e.db+a.off,ae⟩) l c)\/
    (c=dc/\0<e.es/\l<=e.cap - a.off / e.es/\e.cap<dc/\a.off%e.es=0/\a.off / e.es<=e.cap/\d= .slice (J ⟨e.blk,e.db+a.off,ae⟩) l (e.cap - a.off / e.es))\/
    (c=dc/\l=0/\∃m,d= .slice (J ⟨e.blk,m,ae⟩) 0 0)\/
    (c=0/\l=0/\∃f,d= .slice (J f) 0 0)):=by
 obtain ⟨e,i,g,b⟩:=h.slice;refine ⟨e,i,g, ?_⟩;rcases b with b|b|b|b|⟨k,p,q,_⟩
 ·grind
 ·grind
 ·grind
 ·grind
 grind
theorem o4 (b o n:Nat):(⟨b,o,ae⟩:Addr).add n=⟨b,o+n,ae⟩:=by
 grind [Addr.add]
theorem mB:∀(a L:List af) (o:Nat),(eY L o a).length=L.length
 |[],L,o=>rfl
 |v::a,L,o=>by simp[eY,mB a]
theorem o5 (a:List af):∀(L:List af) (o i:Nat),o+a.length<=L.length->(eY L o a)[i]? =if o<=i/\i<o+a.length then a[i - o]? else L[i]? :=by
 induction a with
 |nil=>grind [eY]
 |cons v a b=>
  grind [eY]
def aqS (a:List af):∀(A:Array af) (o k:Nat),((a.zipIdx k).foldl (λb (c,j)=>b.setIfInBounds (o+j) c) A).toList=eY A.toList (o+k) a:=by
 induction a with
 |nil=>simp_all [eY]
 |cons v a d=>simp_all [eY,sK]
def Kv {j:cj} {d:Nat->Option (Nat×Nat)}:∀(s n:List (Nat×af)) (L:List af) (A:Array af) (e:List af),bP (λp q=>p.1=q.1/\de j p.2 q.2) s n->bP (eA j) L A.toList->k5 d L s=J e->
  ∃F,Instr.fill d A n=J F/\bP (eA j) e F.toList
 |[],[],L,A,e,_,t,h=>by simp only[k5,kB.injEq] at h;subst h;exact ⟨A,rfl,t⟩
 |(i,v)::s,(k,r)::n,L,A,e,⟨⟨H,B⟩,I⟩,t,h=>by
  simp only at H B;subst H;simp only[k5] at h;cases E:d i with
  |none=>grind
  |some q=>
   obtain ⟨f,m⟩:=q;simp only[E] at h;split at h
   ·rename_i N;obtain ⟨O,U,T⟩:=N;have R:=de.storable B O;have y:=fC.cells R;have l:r.cells.size=m:=by have:=y.length;grind
    have M:L.length=A.size:=by have:=t.length;grind
    simp only[Instr.fill,E,l,ne_eq,not_true_eq_false,decide_false,Bool.false_or,decide_eq_true_eq];rw[if_neg (by omega)];refine Kv s n _ _ e I ?_ h;have C:=aqS r.cells.toList A f 0;simp only[pS] at C;have S:(r.cells.zipIdx.foldl (λe (c,j)=>e.setIfInBounds (f+j) c) A)=((r.cells.toList.zipIdx).foldl (λe (c,j)=>e.setIfInBounds (f+j) c) A):=by
     grind [Array.toList_zipIdx]
    rw[S,C];refine bP.Kj (by grind [mB]) ?_;intro i a b g x;rw[o5 _ _ _ _ (by grind)] at g;rw[o5 _ _ _ _ (by grind)] at x;have w:=y.length;rw[w] at g;split at g
    ·rename_i z;rw[if_pos z] at x;obtain ⟨P,Q,K⟩:=y.get _ _ g
     grind
    ·rename_i z;rw[if_neg z] at x;obtain ⟨P,Q,K⟩:=t.get _ _ g
     grind
   grind
 |[],_::_,_,_,_,h,_,_=>h.elim
 |_::_,[],_,_,_,h,_,_=>h.elim
def h3 (j:cj) (a b:bS->af) (o:Oper):Prop:=∀x∈o.op.operands,de j (a x) (b x)
theorem fw {P:bI} {t:bV} {d:TypeDesc} (h:P.underlying t=J d) (w:World):(underlying t).run P w= .ok d w:=run_underlying h w
def vm {P:bI} {t:bV} {i:TypeInfo} (h:P.info? t=J i) (w:World):(typeInfo t).run P w= .ok i w:=by simp[typeInfo,h]
theorem jb {P:bI} {t:bV} {i:TypeInfo} (h:P.info? t=J i) (w:World):(sizeOf t).run P w= .ok i.size w:=by simp[sizeOf,vm h]
theorem og {P:bI} {t:bV} {i:TypeInfo} {z:af} (h:P.info? t=J i) (a:i.zero=J z) (w:World):(zeroValue t).run P w= .ok z w:=by simp_all [zeroValue,vm]
def sb {P:bI} {t:bV} {d:TypeDesc} (h:P.underlying t=J d) (w:World):(isAgg t).run P w= .ok (lI d) w:=by
 simp only[isAgg,kD,fw h,jE];cases d<;>simp[lI]
def h3.VO {j:cj} {ap dn:bS->af} {o:Oper} (a:List (Nat×bS)) (h:∀p∈a,de j (ap p.2) (dn p.2)):bP (λ(p q:Nat×af)=>p.1=q.1/\de j p.2 q.2) (a.map λp=>(p.1,ap p.2)) (a.map λp=>(p.1,dn p.2)):=by
 induction a with
 |nil=>exact fs
 |cons p a b=>exact ⟨⟨rfl,h p (by simp)⟩,b λq d=>h q (by grind)⟩
def aco {P:bI} (w:World):∀(a:List Field),(∀x∈a.map (λf=>(P.info? f.type).map λi=>(f.offset,i.size)),x.isSome=aa)->
  (a.mapM (m:=Sem) λf=>do pure (f.offset,<-sizeOf f.type)).run P w= .ok (a.map λf=>(f.offset,((P.info? f.type).map (·.size)).getD 0)) w
 |[],_=>by rfl
 |f::a,h=>by have b:=h _ (by simp;exact .inl rfl);simp only[Option.isSome_map] at b;obtain ⟨i,g⟩:=agh.1 b;have e:=aco w a (λx d=>h x (by simp only[rA,ha];exact .inr d));simp_all [jb]
def h3.hs {j:cj} {a b:bS->af} {y:bS} {k:aG} {n:Int} (h:de j (a y) (b y)) (d:a y= .int k n):b y= .int k n:=by
 rw[d] at h;exact h.int
end
section
theorem aq2 {P:bI} {j:cj} {a e:bS->af} {o:Oper} {v:af} (i:∀k b,o.op≠ .select k b) (h:∀x∈o.op.operands,flat (a x)=aa) (g:∀w,(execOp a o).run P w= .ok (.value v) w)
  (f:h3 j a e o) (w:World):(execOp e o).run P w= .ok (.value v) w:=by
 rw[<-g w];congr 1;exact execOp_congr o i λx d=>W3 (h x d) (f x d)
def bP.extract {a b:Type} {R:a->b->Prop} {A:Array a} {B:Array b} (h:bP R A.toList B.toList) (i k:Nat):bP R (A.extract i k).toList (B.extract i k).toList:=by
 simp only[Yv,List.extract_eq_drop_take'];exact (h.take k).drop i
def bP.size {a b:Type} {R:a->b->Prop} {A:Array a} {B:Array b} (h:bP R A.toList B.toList):A.size=B.size:=by simpa using h.length
def bP.JA {d e:Type} {R:d->e->Prop} {A:Array d} {B:Array e} (h:bP R A.toList B.toList) (i:Nat) (a:d) (f:A[i]? =J a):∃b,B[i]? =J b/\R a b:=by
 have:=h.get i a (by grind)
 grind
theorem bP.map {a b d:Type} {R:b->d->Prop} (f:a->b) (g:a->d):∀(l:List a),(∀x∈l,R (f x) (g x))->bP R (l.map f) (l.map g)
 |[],_=>fs
 |x::l,h=>⟨h x (by simp),bP.map f g l λy e=>h y (by simp[e])⟩
def fC.up {j:cj} {v a:af} (h:fC j v a):de j v a:=de.wN h
theorem aqR {P:bI} {d:bS->af} {o:Oper} (b:Bool) (x y:bS) (t u e:bV) (a:Addr) (l c:Nat) (h:o.op= .binOp (if b then .neq else .eql) t x y u) (f:P.underlying t=J (.slice e))
   (i:d x= .slice (J a) l c) (g:d y= .slice ae 0 0) (w:World):(execOp d o).run P w= .ok (.value (.bool b)) w:=by
 grind [eqGuard,Lib.run_eql_slice_nil,run_neq_slice_nil_any,execOp,kD,jE,nt]
def Wf {P:bI} {j:cj} {ap C:bS->af} {o:Oper} {v:af} (h:dD P ap o v) (r:h3 j ap C o) (w:World):∃bz,(execOp C o).run P w= .ok (.value bz) w/\de j v bz:=by
 cases h with
 |flat v bf h V aV=>grind [aq2,acZ]
 |move x h=>
  refine ⟨C x, ?_,r x ?_⟩
  ·rcases h with h|h<;>simp[execOp,h]
  grind [dm]
 |pick c a b t h s=>
  have F:=r c (by grind [dm]);rw[s] at F;have S:=F.bool;have bl:=r a (by grind [dm]);have aw:=r b (by grind [dm]);refine ⟨if t then C a else C b, ?_, ?_⟩
  ·simp_all [execOp,asBool]
  grind
 |extract x i vs v h B V=>have F:=r x (by grind [dm]);rw[B] at F;obtain ⟨ds,bg,S⟩:=F;obtain ⟨b,aw,aV⟩:=S.JA i v V;exact ⟨b,by simp_all [execOp,Instr.extract],aV.up⟩
 |field t x i bY f d cs v h E bF bg B V=>
  have F:=r x (by grind [dm]);rw[B] at F;obtain ⟨ds,oP,S⟩:=F;by_cases bl:lI d=aa
  ·rw[if_pos bl] at V;obtain ⟨k,hk,hle,rfl⟩:=V;refine ⟨.agg (ds.extract f.offset (f.offset+k.size)), ?_,⟨_,rfl,S.extract _ _⟩⟩;simp_all [execOp,Instr.field,fw,asAgg,part,sb,jb]
  ·rw[if_neg bl] at V;obtain ⟨b,aw,aV⟩:=S.JA _ _ V;simp_all [de.qh,execOp,Instr.field,fw,asAgg,part,sb]
 |J6 t x y e d i l k n cs h E bg bl H B I Z F=>have A:=r x (by grind [dm]);have O:=r y (by grind [dm]);rw[B] at A;rw[I] at O;have lr:=O.int;obtain ⟨ds,oP,S⟩:=A;refine ⟨.agg (ds.extract (n.toNat*i.size) (n.toNat*i.size+i.size)), ?_,⟨_,rfl,S.extract _ _⟩⟩;simp[execOp,h,Instr.index,lr,asIntOf,fw E,oP,Z,F,part,sb bg,bl,jb H]
 |J5 t x y e d i l k n cs v h E bg bl H B I Z F V=>have A:=r x (by grind [dm]);have O:=r y (by grind [dm]);rw[B] at A;rw[I] at O;have lr:=O.int;obtain ⟨ds,oP,S⟩:=A;obtain ⟨b,aw,aV⟩:=S.JA _ _ V;refine ⟨b, ?_,de.qh aV⟩;simp[execOp,h,Instr.index,lr,asIntOf,fw E,oP,Z,F,part,sb bg,bl,jb H,aw]
 |build t cQ bY i z cs h E H bx dw bb s=>
  have S:=h3.VO (j:=j) (ap:=ap) (dn:=C) (o:=o) cQ.toList (λp bb=>r p.2 (by
   grind [dm]))
  obtain ⟨ds,oP,aV⟩:=Kv (j:=j) _ _ _ z.cells cs S (bP.self (λa=>q4) dw) s;refine ⟨.agg ds, ?_,⟨_,rfl,by grind⟩⟩;have Br:=aco (P:=P) w bY.toList (by grind [pC]);have ayi:(bY.mapM (m:=Sem) λf=>do pure (f.offset,<-sizeOf f.type)).run P w= .ok (bY.map λf=>(f.offset,((P.info? f.type).map (·.size)).getD 0)) w:=by
   rw[afM];simp only[Sem.run_map,Br,jE];congr 1
   grind
  have axY:(λk:Nat=>(bY.map λf=>(f.offset,((P.info? f.type).map (·.size)).getD 0))[k]?)=(λk:Nat=>((pC P bY)[k]?).join):=by
   grind [pC,Option.isSome_map,agh]
  simp_all [execOp,Instr.build,og,fw]
 |Jg t cQ n e i k z cs h E H bx dw he s=>
  have S:=h3.VO (j:=j) (ap:=ap) (dn:=C) (o:=o) cQ.toList (λp bb=>r p.2 (by
   grind [dm]))
  obtain ⟨ds,oP,aV⟩:=Kv (j:=j) _ _ _ z.cells cs S (bP.self (λa=>q4) dw) s;refine ⟨.agg ds, ?_,⟨_,rfl,by grind⟩⟩;simp_all [execOp,Instr.build,og,fw,jb]
 |nilCheck x a h B=>have F:=r x (by grind [dm]);rw[B] at F;obtain ⟨e,bf,Q,s⟩:=F.ptr;simp_all [execOp]
 |fieldAddr t x i bY f k b K h E bF hk bf B=>have F:=r x (by grind [dm]);rw[B] at F;obtain ⟨e,_,Q,s⟩:=F.ptr;refine ⟨.pointer (J ⟨e.blk,e.db+(K+f.offset),ae⟩), ?_,⟨e,rfl,Q,rfl⟩⟩;simp_all [execOp,Instr.fieldAt,fw,yj,fieldPlace,jb,o4]
 |indexAddr t x y e i b K l c k n h E H B I Z F=>
  have A:=r x (by grind [dm]);have O:=r y (by grind [dm]);rw[B] at A;rw[I] at O;have lr:=O.int;obtain ⟨q,_,Q,s⟩:=A.slice;have M:∃N,C x= .slice (J ⟨q.blk,q.db+K,ae⟩) l N:=by
   rcases s with ⟨_,s⟩|⟨_,_,_,_,_,_,s⟩|⟨_,aR,_,s⟩|⟨_,aR,_⟩|⟨_,_,_,_,_,_,_,_,_,s⟩
   ·grind
   ·grind
   ·omega
   ·omega
   grind
  obtain ⟨N,M⟩:=M;refine ⟨.pointer (J ⟨q.blk,q.db+(K+n.toNat*i.size),ae⟩), ?_,⟨q,rfl,Q,rfl⟩⟩;simp[execOp,h,YO,lr,asIntOf,fw E,M,Z,F,jb H,o4,sK]
 |J4 t x y e i b K l k n h E H B I Z F=>have A:=r x (by grind [dm]);have O:=r y (by grind [dm]);rw[B] at A;rw[I] at O;have lr:=O.int;obtain ⟨q,_,Q,s⟩:=A.ptr;refine ⟨.pointer (J ⟨q.blk,q.db+(K+n.toNat*i.size),ae⟩), ?_,⟨q,rfl,Q,rfl⟩⟩;simp[execOp,h,YO,lr,asIntOf,fw E,s,yj,Z,F,jb H,o4,sK]
 |JC t x y e i l g k n h E H bf B I Z F aR=>
  have A:=r x (by grind [dm]);have O:=r y (by grind [dm]);rw[B] at A;rw[I] at O;have lr:=O.int;have s:C x= .pointer (J ⟨g,0,ae⟩):=by have A:C x= .pointer (J ⟨g*4096 / 4096,g*4096%4096,ae⟩):=A;rw[A,show g*4096 / 4096=g by omega,show g*4096%4096=0 by omega]
  refine ⟨.pointer (J ⟨g,n.toNat,ae⟩), ?_, ?_⟩
  ·simp[execOp,h,YO,lr,asIntOf,fw E,s,yj,Z,F,jb H,o4,bf]
  ·show af.pointer _=_;rw[show (g*4096+n.toNat) / 4096=g by omega,show (g*4096+n.toNat)%4096=n.toNat by omega]
 |slice t x cf H e i b K l c n dG h E fm B aw eW U F S aT=>
  have A:=r x (by grind [dm]);rw[B] at A;obtain ⟨q,_,Q,s⟩:=A.vw (lG aw);have X:∃L:Addr,C x= .slice (J L) l c/\((c<dc/\L=⟨q.blk,q.db+K,ae⟩)\/(c=0/\l=0)):=by
   rcases s with ⟨cF,s⟩|⟨s,_⟩|⟨s,_⟩|⟨s,aR,L,bl⟩
   ·grind
   ·grind
   ·grind
   grind
  obtain ⟨L,M,Vt⟩:=X;have ny:(jc aa l c (cf.map C) (H.map C) ae).run P w= .ok (n,dG,c) w:=by
   cases cf with
   |none=>
    simp only[qo] at eW;subst eW;cases H with
    |none=>simp_all [nJ,jc]
    |some y=>obtain ⟨k,I⟩:=U;have:=h3.hs (r y (by grind [dm])) I;simp_all [jc,mL,asIntOf]
   |some u=>
    obtain ⟨k,hu⟩:=eW;have oS:=h3.hs (r u (by grind [dm])) hu;cases H with
    |none=>simp only[nJ] at U;simp_all [jc,mL,asIntOf]
    |some y=>obtain ⟨Y,I⟩:=U;have:=h3.hs (r y (by grind [dm])) I;simp_all [jc,mL,asIntOf]
  refine ⟨.slice (J (if c=n then L else L.add (n*i.size))) (dG - n) (c - n), ?_, ?_⟩
  ·simp only[execOp,h,vM,kD,fw E,jE,IW,vL,M,ny,jb fm,nt]
   grind
  ·refine ⟨q,rfl,Q, ?_⟩;rcases Vt with ⟨cF,rfl⟩|⟨rfl,rfl⟩
   ·grind [o4]
   grind
 |slice3 t x h8 H e i b K l c dG Y oV h E fm B s U mV F=>
  obtain ⟨y,apl,rfl,I⟩:=U;have A:=r x (by grind [dm]);rw[B] at A;have wB:=h3.hs (r y (by grind [dm])) I;have n4:=h3.hs (r h8 (by grind [dm])) mV;obtain ⟨q,_,Q,R⟩:=A.vw (by grind);have X:∃(L:Addr) (N:Nat),C x= .slice (J L) l N/\Y<=N/\eA j (.slice (J ⟨b,K,ae⟩) dG Y) (.slice (J L) dG Y):=by
   rcases R with ⟨cF,R⟩|⟨gN,_,hle,kJ,_,_,R⟩|⟨gN,hV,o',R⟩|⟨rQ,hV,L,R⟩
   ·rcases s with ⟨_,hk⟩|⟨gN,_⟩
    ·exact ⟨_,_,R,hk,q,rfl,Q, .inl ⟨TI hk cF,rfl⟩⟩
    grind
   ·rcases s with ⟨pv,_⟩|⟨_,hk⟩
    ·grind
    ·exact ⟨_,_,R,jd hk hle,q,rfl,Q, .inl ⟨TI (jd hk hle) (TI (Nat.sub_le _ _) kJ),rfl⟩⟩
   ·rcases s with ⟨pv,_⟩|⟨_,hk⟩
    ·grind
    ·have nB:Y=0:=by omega
     have U9:dG=0:=by omega
     subst nB U9;subst hV;exact ⟨_,_,R,pn _,q,rfl,Q, .inr (.inr (.inr (.inl ⟨rfl,rfl,_,rfl⟩)))⟩
   ·subst rQ hV;have nB:Y=0:=by grind
    have U9:dG=0:=by omega
    subst nB U9;exact ⟨L,_,R,e4 _,q,rfl,Q, .inr (.inr (.inr (.inl ⟨rfl,rfl,_,rfl⟩)))⟩
  obtain ⟨L,N,M,hk,V⟩:=X;have ny:(jc aa l N (ae:Option af) ((J y).map C) (J (C h8))).run P w= .ok (0,dG,Y) w:=by simp_all [jc,mL,asIntOf]
  refine ⟨_, ?_,de.qh V⟩;simp only[execOp,h,vM,kD,fw E,jE,IW,vU,vL,M] at ny⊢;simp_all [jb,Addr.add]
 |P5 t x cf H h8 e i b K l c n dG Y Kb J9 oV h E fm B s eW U mV Z F=>
  have A:=r x (by grind [dm]);rw[B] at A;have hB:=h3.hs (r cf (by grind [dm])) eW;have wB:=h3.hs (r H (by grind [dm])) U;have n4:=h3.hs (r h8 (by grind [dm])) mV;obtain ⟨q,_,Q,R⟩:=A.vw (by grind);have X:∃(L:Addr) (N:Nat),C x= .slice (J L) l N/\Y<=N:=by
   rcases R with ⟨cF,R⟩|⟨gN,_,hle,kJ,_,_,R⟩|⟨gN,hV,o',R⟩|⟨rQ,hV,L,R⟩
   ·grind
   ·grind
   ·grind
   grind
  obtain ⟨L,N,M,hk⟩:=X;have ny:(jc aa l N ((J cf).map C) ((J H).map C) (J (C h8))).run P w= .ok (n,dG,Y) w:=by simp_all [jc,mL,asIntOf]
  have kv:∃l7 ju c2,(execOp C o).run P w= .ok (.value (.slice l7 ju c2)) w:=by simp only[execOp,h,vM,kD,fw E,jE,vU,vL,M] at ny⊢;simp_all [jb]
  obtain ⟨l7,ju,c2,kv⟩:=kv;exact ⟨_,kv,λb aw=>by grind⟩
 |P4 t x h8 H e i oV h E fm B U mV=>
  obtain ⟨y,apl,rfl,I⟩:=U;have A:=r x (by grind [dm]);rw[B] at A;have M:=A.nc;have wB:=h3.hs (r y (by grind [dm])) I;have n4:=h3.hs (r h8 (by grind [dm])) mV;refine ⟨.slice ae 0 0, ?_,rfl⟩;have ny:(jc aa 0 0 (ae:Option af) ((J y).map C) (J (C h8))).run P w= .ok (0,0,0) w:=by simp_all [jc,mL,asIntOf]
  simp only[vU] at ny;simp[execOp,h,vM,fw E,vL,M,ny,jb fm]
 |nc t x cf H e i h E fm B eW U=>
  have A:=r x (by grind [dm]);rw[B] at A;have M:=A.nc;refine ⟨.slice ae 0 0, ?_,rfl⟩;have ny:(jc aa 0 0 (cf.map C) (H.map C) ae).run P w= .ok (0,0,0) w:=by
   cases cf with
   |none=>
    cases H with
    |none=>rfl
    |some y=>obtain ⟨k,I⟩:=U;have:=h3.hs (r y (by grind [dm])) I;simp_all [jc,mL,asIntOf]
   |some u=>
    obtain ⟨k,hu⟩:=eW;have oS:=h3.hs (r u (by grind [dm])) hu;cases H with
    |none=>simp_all [jc,mL,asIntOf]
    |some y=>obtain ⟨Y,I⟩:=U;have:=h3.hs (r y (by grind [dm])) I;simp_all [jc,mL,asIntOf]
  simp[execOp,h,vM,fw E,vL,M,ny,jb fm]
 |len x t e a l c h E B=>
  have A:=r x (by grind [dm,lh]);rw[B] at A;have M:∃L N,C x= .slice L l N:=by
   cases a with
   |none=>exact ⟨_,_,A.nc⟩
   |some a=>
    obtain ⟨q,_,Q,s⟩:=A.slice;rcases s with ⟨_,s⟩|⟨_,_,_,_,_,_,s⟩|⟨_,aR,_,s⟩|⟨_,aR,_,s⟩|⟨_,_,_,_,_,_,_,_,_,s⟩
    ·grind
    ·grind
    ·grind
    ·grind
    grind
  obtain ⟨L,N,M⟩:=M;exact ⟨.int .i64 l,by simp[execOp,h,resolve,invoke,builtin,Builtin.len_,fw E,M,goInt],rfl⟩
 |Jj x t e h E B=>have A:=r x (by grind [dm,lh]);rw[B] at A;have M:=A.nc;exact ⟨.int .i64 0,by simp[execOp,h,resolve,invoke,builtin,Builtin.cap_,fw E,M,goInt],rfl⟩
 |A2 neq x y t u e a l c h E B I=>
  have A:=r x (by grind [dm]);rw[B] at A;have O:=r y (by grind [dm]);rw[I] at O;have lr:=O.nc;have M:∃L N,C x= .slice (J L) l N:=by
   obtain ⟨q,_,Q,s⟩:=A.slice;rcases s with ⟨_,s⟩|⟨_,_,_,_,_,_,s⟩|⟨_,aR,_,s⟩|⟨_,aR,_,s⟩|⟨_,_,_,_,_,_,_,_,_,s⟩
   ·grind
   ·grind
   ·grind
   ·grind
   grind
  obtain ⟨L,N,M⟩:=M;refine ⟨.bool neq, ?_,rfl⟩
  grind [aqR]
 |func fn first T h bF=>
  refine ⟨.func fn (first.map C) (T.map C),by simp[execOp,h,Instr.makeFunc],⟨_,_,rfl, ?_, ?_⟩⟩
  ·simp only[ye];exact bP.map _ _ _ λx B=>de.storable (r x (by grind [dm])) (bF x (by grind))
  ·simp only[ye];exact bP.map _ _ _ λx B=>de.storable (r x (by grind [dm])) (bF x (by grind))
end
section
structure uq (P:bI) (j:cj) (m:Mem) (w:World):Prop where
 load:∀b e o v,j b=J e->m.load b o=J v->∃bz,w.cell? ⟨e.blk,e.db+o,ae⟩=J bz/\eA j v bz
 own:∀b e L t,j b=J e->m.blk b= .own L t->P.cellsOf t=e.es/\L.length<=e.cap*e.es
 map:∀b e L u,j b=J e->m.blk b= .map L u->qI P j e w.heap[e.blk]? (.map L u)
 mE:rE P w
def Rel.load {P:bI} {j:cj} {m:Mem} {w:World} (h:Rel P j m w) (b:Nat) (e:kl) (o:Nat) (v:af) (i:j b=J e) (a:m.load b o=J v):∃f,w.cell? ⟨e.blk,e.db+o,ae⟩=J f/\eA j v f:=by
 unfold Mem.load at a;have g:=h.obj b e i;cases d:m.blk b with
 |dead=>grind
 |map L u=>grind
 |lock _ _ _ _=>grind
 |ro x=>
  simp only[d] at a g;obtain ⟨n,t,bZ,f,p,l,k⟩:=g o v a
  grind [rG]
 |own L t=>
  simp only[d] at a;obtain ⟨n,bZ,s,q,p,l,k,r⟩:=h.own b e L t i d
  grind [rG]
def Rel.ot {P:bI} {j:cj} {m:Mem} {w:World} (h:Rel P j m w):uq P j m w:=
 ⟨h.load,λb e L t a d=>by
  obtain ⟨l,bZ,p,i,n,g,f,k⟩:=h.own b e L t a d
  grind,λb e L u a d=>by have:=h.obj b e a;grind,h.mE.val⟩
def BL {P:bI} {j:cj} {m:Mem} {w:World} (h:uq P j m w) {b:Nat} {e:kl} (k:j b=J e):∀(n o:Nat) (f:List af),kd m b o n=J f->
  ∃d:List af,bP (eA j) f d/\d.length=n/\∀(i:Nat) (u:af),d[i]? =J u->w.cell? ⟨e.blk,e.db+o+i,ae⟩=J u
 |0,o,f,a=>by simp only[kd,kB.injEq] at a;subst a;exact ⟨[],fs,rfl,λi u t=>by grind⟩
 |n+1,o,f,a=>by
  simp only[kd] at a;cases p:m.load b o with
  |none=>grind
  |some v=>
   cases g:kd m b (o+1) n with
   |none=>grind
   |some l=>
    simp only[p,g,kB.injEq] at a;subst a;obtain ⟨s,x,q⟩:=h.load b e o v k p;obtain ⟨d,r,y,z⟩:=BL h k n (o+1) l g;refine ⟨s::d,⟨q,r⟩,by grind,λi u t=> ?_⟩
    grind
theorem BM {P:bI} {w:World} {c o n:Nat} {a:List af} (b:a.length=n) (d:∀(i:Nat) (u:af),a[i]? =J u->w.cell? ⟨c,o+i,ae⟩=J u):(loadCells ⟨c,o,ae⟩ n).run P w= .ok a.toArray w:=by
 grind [run_loadCells_list,o4]
theorem acm {P:bI} {w:World} {a:Addr}:(loadCells a 0).run P w= .ok #[] w:=rfl
def ab5 {P:bI} (w:World):∀(a:List UInt8) (s:ByteArray) (f:af->ByteArray->Sem (ForInStep ByteArray)),
  (∀u s,f (.int .u8 (u:UInt8).toNat) s=pure (.yield (s.push u)))->
  (forIn (a.map λu=>mu .u8 (u.toNat:Int)) s f).run P w= .ok (⟨s.data++a.toArray⟩:ByteArray) w
 |[],s,f,b=>by rfl
 |u::a,s,f,b=>by simp only[rA,List.forIn_cons,b,pure_bind,ab5 w a (s.push u) f b];simp_all
def zD {P:bI} {w:World} {r:Nat} {b:Array MapEntry} {a:Nat} (d:w.heap[r]? =J (.map b a)):(getObj r).run P w= .ok (.map b a) w:=by
 grind [getObj,Sem.run]
def aee {P:bI} {w:World} {r:Nat} {b:Array MapEntry} {a:Nat} (o:Obj) (d:w.heap[r]? =J (.map b a)):(setObj r o).run P w= .ok () {w with heap:=w.heap.setIfInBounds r o}:=by
 grind [setObj,Sem.run]
theorem qG.Yb {ks vs:Nat} (hk:0<ks):∀{L:List af} {E E':List (List af×List af)},qG ks vs L E->qG ks vs L E'->E=E'
 |L,[],[],_,_=>rfl
 |L,[],p::E',h,dG=>by have h1:=h.eq;rw[dG.eq] at h1;have:=(dG.len p (by simp)).1;simp_all
 |L,p::E,[],h,dG=>by have h1:=dG.eq;rw[h.eq] at h1;have:=(h.len p (by simp)).1;simp_all
 |L,p::E,q::E',h,dG=>by have h1:=h.eq;rw[dG.eq] at h1;simp only[List.flatMap_cons,List.append_assoc] at h1;obtain ⟨bX,h1⟩:=List.append_inj h1 (by rw[(h.len p (by simp)).1,(dG.len q (by simp)).1]);obtain ⟨e2,h1⟩:=List.append_inj h1 (by rw[(h.len p (by simp)).2,(dG.len q (by simp)).2]);have a1:=qG.Yb hk (L:=E.flatMap λp=>p.1++p.2) (E:=E) (E':=E') ⟨rfl,λr aV=>h.len r (by simp[aV])⟩ ⟨h1.symm,λr aV=>dG.len r (by simp[aV])⟩;rw[a1];congr 1;exact (Prod.ext bX e2).symm
def uh.find {P:bI} {j:cj} {k g:bV} {e z v:af} {t:Bool} {E:List (List af×List af)} (h:uh (ek P k) (ek P g) e z E v t):∀{a:List MapEntry} (i:Nat),bP (ub P j k g) E a->
  (t=aa/\∃n bz,o6 e a i=J (n,bz)/\fC j v bz)\/(t=ak/\v=z/\o6 e a i=ae):=by
 induction h with
 |qZ=>
  intro a i d;cases a with
  |nil=>exact .inr ⟨rfl,rfl,rfl⟩
  |cons _ _=>exact d.elim
 |rS p E h=>
  intro a i d;cases a with
  |nil=>exact d.elim
  |cons x a=>obtain ⟨⟨m,l,f⟩,_⟩:=d;exact .inl ⟨rfl,i,x.val,by grind [o6],f⟩
 |next p E v b h d q=>
  intro a i d;cases a with
  |nil=>exact d.elim
  |cons x a=>
   obtain ⟨⟨m,l,f⟩,d⟩:=d
   grind [o6]
def Wl {P:bI} {j:cj} {d g:bV} {e:af->Prop}:∀{E:List (List af×List af)} {b:List MapEntry},bP (ub P j d g) E b->(∀p∈E,e (ey (ek P d) p.1))->∀x∈b,e x.key
 |[],[],_,_,x,a=>by grind
 |p::E,y::b,⟨k,f⟩,i,x,a=>by
  rcases ha.1 a with rfl|a
  ·rw[k.1];grind
  ·exact Wl f (λq l=>i q (by grind)) x a
 |[],_::_,h,_,_,_=>h.elim
 |_::_,[],h,_,_,_=>h.elim
def ack {P:bI} {j:cj} {ap H:bS->af} {o:Oper} {m:Mem} {v:af} (h:fH P ap o m v) (O:h3 j ap H o) {w:World} (cY:uq P j m w):∃bz,(execOp H o).run P w= .ok (.value bz) w/\de j v bz:=by
 cases h with
 |load t x b f d v h F R bg aD=>have B:=O x (by grind [dm]);rw[F] at B;obtain ⟨q,_,M,A⟩:=B.ptr;obtain ⟨bz,fZ,aV⟩:=cY.load b q f v M aD;simp_all [execOp,Instr.loadAt,yj,loadVar,sb,de.qh]
 |wc t x g n s h F bB R bs=>
  have B:=O x (by grind [dm]);rw[F] at B;have cF:n<4096:=hS (fq.1 bB).1 (by simp[p2]);have A:H x= .pointer (J ⟨g,n,ae⟩):=by have B:H x= .pointer (J ⟨(g*4096+n) / 4096,(g*4096+n)%4096,ae⟩):=B;rw[B,show (g*4096+n) / 4096=g by omega,show (g*4096+n)%4096=n by omega]
  exact ⟨_,by simp[execOp,h,Instr.loadAt,A,yj,loadVar,sb R,lI,cY.mE.P8 g bs n s bB],rfl⟩
 |wI t x b f d i X h F R bg S aD=>have B:=O x (by grind [dm]);rw[F] at B;obtain ⟨q,_,M,A⟩:=B.ptr;obtain ⟨ds,aR,bB,mU⟩:=BL cY M _ _ _ aD;exact ⟨.agg ds.toArray,by simp[execOp,h,Instr.loadAt,A,yj,loadVar,sb R,bg,jb S,BM bB mU],⟨_,rfl,by grind⟩⟩
 |slice t x cf S e i L b f l n U h R fm F hm eW eN V ai aT=>
  have B:=O x (by grind [dm]);rw[F] at B;obtain ⟨q,_,M,A⟩:=B.vw (e4 _);obtain ⟨rR,_⟩:=cY.own b q L e M hm;have cN:i.size=q.es:=by grind [nY]
  have key:∀(o' C:Nat),H x= .slice (J ⟨q.blk,o',ae⟩) l C->l<=C->
    (execOp H o).run P w= .ok (.value (.slice (J ⟨q.blk,if C=n then o' else o'+n*i.size,ae⟩) (U - n) (C - n))) w:=by
   intro o' C T Q;have ny:(jc aa l C (cf.map H) (S.map H) ae).run P w= .ok (n,U,C) w:=by
    cases cf with
    |none=>
     simp only[qo] at eW;subst eW;cases S with
     |none=>simp_all [nJ,jc]
     |some y=>obtain ⟨k,Z⟩:=eN;have:=h3.hs (O y (by grind [dm])) Z;simp[jc,this,mL,asIntOf,show U<=C by omega]
    |some u=>
     obtain ⟨k,hu⟩:=eW;have oS:=h3.hs (O u (by grind [dm])) hu;cases S with
     |none=>simp only[nJ] at eN;simp_all [jc,mL,asIntOf]
     |some y=>obtain ⟨k',Z⟩:=eN;have:=h3.hs (O y (by grind [dm])) Z;simp[jc,this,oS,mL,asIntOf,V,show U<=C by omega]
   simp only[execOp,h,vM,kD,fw R,jE,IW,vL,T,ny,jb fm,nt]
   grind [o4]
  rcases A with ⟨cF,_⟩|⟨_,hh,Q,kJ,p8,I,A⟩|⟨_,hV,o',A⟩|⟨rQ,_⟩
  rotate_left 3
  ·grind [dc]
  ·grind
  ·have Q:l<=q.cap - f / q.es:=Q;have p8:f%q.es=0:=p8;have I:f / q.es<=q.cap:=I;refine ⟨_,key _ _ A Q,⟨q,rfl,M, ?_⟩⟩;by_cases bx:q.cap - f / q.es=n
   ·have:U - n=0:=by omega
    grind
   grind [TH,Nat.add_mul_mod_self_right]
  grind
 |vx t x cf S e i L b f l c k n U h R fm F hk hm eW eN V ai aT=>
  have B:=O x (by grind [dm]);rw[F] at B;obtain ⟨q,_,M,A⟩:=B.slice;have M:j b=J q:=M;obtain ⟨rR,_⟩:=cY.own b q L e M hm;have cN:i.size=q.es:=by grind [nY]
  have hex:∃C,H x= .slice (J ⟨q.blk,q.db+f,ae⟩) l C/\l<=C/\k<=C/\0<q.es/\C=q.cap - f / q.es/\q.cap<dc/\f%q.es=0/\f / q.es<=q.cap:=by
   rcases A with ⟨cF,_⟩|⟨gN,hh,Q,kJ,p8,I,A⟩|⟨gN,hV,_⟩|⟨rQ,_⟩|⟨k',lL,nB,s8,axX,kJ,cF,p8,I,A⟩
   ·grind
   ·grind
   ·grind
   ·grind
   grind
  obtain ⟨C,T,Q,yP,hh,fZ,kJ,p8,I⟩:=hex;have ny:(jc aa l C (cf.map H) (S.map H) ae).run P w= .ok (n,U,C) w:=by
   cases cf with
   |none=>
    simp only[qo] at eW;subst eW;cases S with
    |none=>simp_all [nJ,jc]
    |some y=>obtain ⟨k,Z⟩:=eN;have:=h3.hs (O y (by grind [dm])) Z;simp[jc,this,mL,asIntOf,show U<=C by omega]
   |some u=>
    obtain ⟨k,hu⟩:=eW;have oS:=h3.hs (O u (by grind [dm])) hu;cases S with
    |none=>simp only[nJ] at eN;simp_all [jc,mL,asIntOf]
    |some y=>obtain ⟨k',Z⟩:=eN;have:=h3.hs (O y (by grind [dm])) Z;simp[jc,this,oS,mL,asIntOf,V,show U<=C by omega]
  have kv:(execOp H o).run P w= .ok (.value (.slice (J ⟨q.blk,q.db+f+n*i.size,ae⟩) (U - n) (C - n))) w:=by
   simp only[execOp,h,vM,kD,fw R,jE,IW,vL,T,ny,jb fm,nt]
   grind [o4]
  refine ⟨_,kv,⟨q,rfl,M, .inr (.inr (.inr (.inr ⟨k - n,rfl,by omega,by omega,hh, ?_,kJ, ?_, ?_, ?_⟩)))⟩⟩
  ·grind [TH]
  ·simp_all
  ·grind [TH]
  grind [TH]
 |str s t x e b f l c X h bf he R F aD=>
  have B:=O x (by grind [dm]);rw[F] at B;obtain ⟨q,_,M,A⟩:=B.slice;obtain ⟨ds,aR,bB,mU⟩:=BL cY M _ _ _ aD;have oP:ds=X.map λu=> .int .u8 u.toNat:=bP.Js (p:=dy) (λa b=>B0 (j:=j)) (by simp[dy]) aR;subst oP;refine ⟨.string ⟨X.toArray⟩, ?_,rfl⟩;have key:∀(a':Addr) (C:Nat),H x= .slice (J a') l C->(a'=⟨q.blk,q.db+f,ae⟩\/l=0)->(execOp H o).run P w= .ok (.value (.string ⟨X.toArray⟩)) w:=by
   intro a' C T aM;have s7:(loadCells a' l).run P w= .ok ((X.map λu=>mu .u8 (u.toNat:Int)).toArray) w:=by
    grind [BM,acm]
   have aw:(YB (.slice (J a') l C)).run P w= .ok (.string ⟨X.toArray⟩) w:=by simp only[YB,kD,s7,jE,List.forIn_toArray];rw[ab5 (P:=P) w X ByteArray.empty _ (λu s=>by simp_all)];simp_all
   simp[execOp,h,convert,fw bf,fw R,T,fw he,aw]
  rcases A with ⟨_,A⟩|⟨_,_,_,_,_,_,A⟩|⟨_,hV,o',A⟩|⟨_,hV,a',A⟩|⟨_,_,_,_,_,_,_,_,_,A⟩
  ·grind
  ·grind
  ·grind
  ·grind
  grind
 |zQ s t x e l c h bf he R F=>have B:=O x (by grind [dm]);rw[F] at B;have T:=B.nc;refine ⟨.string .empty, ?_,rfl⟩;simp[execOp,h,convert,fw bf,fw R,T,fw he,YB]
 |lookup hZ x dx ok u bG bA b L E i z v0 t ho h jk hu F nC tf K bF hk bs S bx dw aR=>
  have B:=O x (by grind [dm]);have T:=W3 bF (O dx (by grind [dm]));have core:∃(es:Array MapEntry),bP (ub P j bG bA) E es.toList/\((∃r N,H x= .map (J r)/\w.heap[r]? =J (.map es N))\/(H x= .map ae/\es=#[])):=by
   rcases F with ⟨F,hm,bp⟩|⟨F,rfl⟩
   ·rw[F] at B;obtain ⟨q,M,A⟩:∃q,j b=J q/\H x= .map (J q.blk):=B;obtain ⟨lv,lA,X,N,E',g1,g2,g3,g4,_⟩:=cY.map b q L u M hm
    grind [qG.Yb]
   ·rw[F] at B;exact ⟨#[],fs, .inr ⟨B,rfl⟩⟩
  obtain ⟨es,g4,A⟩:=core;have Y:=K.find (ap dx) es.toList w hk (Wl g4 bs);have my:=K.check es.isEmpty (ap dx) w hk;have aaG:=aR.find 0 g4;rcases A with ⟨r,N,A,g1⟩|⟨A,rfl⟩
  ·rcases aaG with ⟨rfl,n,bz,V,ai⟩|⟨rfl,rfl,V⟩
   ·rw[V] at Y;cases ok with
    |false=>exact ⟨bz,by simp[execOp,h,Av,fw jk,A,zD g1,T,my,Y],de.wN ai⟩
    |true=>exact ⟨.tuple #[bz, .bool aa],by simp[execOp,h,Av,fw jk,A,zD g1,T,my,Y],⟨_,rfl,ai,fC.qh rfl,fs⟩⟩
   ·rw[V] at Y;cases ok with
    |false=>exact ⟨v0,by simp[execOp,h,Av,fw jk,A,zD g1,T,my,Y,og S bx],de.wN (zf dw)⟩
    |true=>exact ⟨.tuple #[v0, .bool ak],by simp[execOp,h,Av,fw jk,A,zD g1,T,my,Y,og S bx],⟨_,rfl,zf dw,fC.qh rfl,fs⟩⟩
  ·rcases aaG with ⟨rfl,n,bz,V,ai⟩|⟨rfl,rfl,V⟩
   ·grind [o6]
   ·rw[V] at Y;simp only[List.isEmpty_toArray,List.isEmpty_nil] at my Y;have my:=K.check aa (ap dx) w hk;cases ok with
    |false=>simp_all [execOp,Av,fw,og,de.wN,zf]
    |true=>exact ⟨.tuple #[v0, .bool ak],by simp_all [execOp,Av,fw,og],⟨_,rfl,zf dw,fC.qh rfl,fs⟩⟩
end
section
def cj.up (j:cj) (n:Nat) (e:kl):cj:=λb=>if b=n then J e else j b
def Rel.abF {P:bI} {j:cj} {m:Mem} {w:World} (h:Rel P j m w):j m.next=ae:=by
 cases a:j m.next with
 |none=>rfl
 |some e=>exact absurd (h.lt _ _ a).1 (Nat.lt_irrefl _)
def cj.P9 {j:cj} {n:Nat} {e:kl} (a:j n=ae):∀b x,j b=J x->j.up n e b=J x:=by
 grind [cj.up]
def Rel.push {P:bI} {j:cj} {m:Mem} {w w':World} (h:Rel P j m w) {X:bW} {e:kl} {ob:Obj}
  (Q:w'.heap=w.heap.push ob) (s:w'.os=w.os) (r:w'.tape=w.tape) (L:w'.output=w.output) (H:e.blk=w.heap.size)
  (E:qI P j e (J ob) X):Post P j m w (j.up m.next e) (m.push X) w':=by
 have C:=h.abF;have l:=cj.P9 (e:=e) C;have g:∀c,c<w.heap.size->w'.heap[c]? =w.heap[c]? :=λc z=>by grind
 have N:w'.heap.size=w.heap.size+1:=by grind
 have I:w'.heap[w.heap.size]? =J ob:=by grind
 have a:∀b,b≠m.next->(m.push X).blk b=m.blk b:=λb f=>by grind [Mem.push]
 have M:(m.push X).blk m.next=X:=by simp[Mem.push]
 have k:∀b x,j.up m.next e b=J x->b≠m.next->j b=J x:=λb x f O=>by grind [cj.up]
 refine Post.of h ⟨?_, ?_, ?_⟩ ⟨s,r,L,by omega,λc z _=>g c z⟩ (by simp[Mem.push]) ?_ ?_ ?_ (λb f t=>by grind)
 ·intro b x f;by_cases d:b=m.next
  ·subst d;have:x=e:=by grind [cj.up]
   subst this;exact ⟨by simp[Mem.push],by omega⟩
  ·have:=h.lt b x (k b x f d)
   grind [Mem.push]
 ·intro b x f;by_cases d:b=m.next
  ·subst d;have:x=e:=by grind [cj.up]
   subst this;rw[M,H,I];exact E.mono l
  ·have p:=k b x f d;rw[a b d,g _ (h.lt b x p).2];exact (h.obj b x p).mono l
 ·intro b i x n f A y t K;by_cases d:b=m.next
  ·by_cases q:i=m.next
   ·grind
   ·have B:x=e:=by grind [cj.up]
    have:=(h.lt i n (k i n A q)).2
    grind
  ·have p:=k b x f d;by_cases q:i=m.next
   ·have B:n=e:=by grind [cj.up]
    have:=(h.lt b x p).2
    grind
   ·rw[a b d] at y;rw[a i q] at t;exact h.inj b i x n p (k i n A q) y t K
 ·grind [cj.up]
 ·intro b x f F;by_cases d:b=m.next
  ·grind [cj.up]
  ·exact absurd (h.lt b x (k b x f d)).1 (vP.2 F)
 grind
def Rel.kill {P:bI} {j:cj} {m:Mem} {w:World} (h:Rel P j m w) (b:Nat):Post P j m w j (m.put b .dead) w:=by
 have a:∀c x,(m.put b .dead).blk c=x->(x≠ .dead)->m.blk c=x:=by
  grind [Mem.put]
 refine Post.of h ⟨h.lt, ?_, ?_⟩ (sC.refl j m w) (e4 _) (λ_ _=>rfl) ?_ ?_ (λc f n=>by
  have l:m.blk c=(m.put b .dead).blk c:=by refine a c _ rfl ?_;intro d;rw[d] at n;cases n
  grind)
 ·intro c x f;by_cases d:(m.put b .dead).blk c= .dead
  ·rw[d];trivial
  ·rw[<-a _ _ rfl d];exact h.obj c x f
 ·intro c i x q f s g k r;have l:m.blk c=(m.put b .dead).blk c:=by
   refine a c _ rfl ?_;intro d;rw[d] at g;cases g
  have t:m.blk i=(m.put b .dead).blk i:=by refine a i _ rfl ?_;intro d;rw[d] at k;cases k
  exact h.inj c i x q f s (by grind) (by grind) r
 ·intro c e f p;exact absurd (h.lt c e f).1 (vP.2 p)
 ·intro c f g;have l:m.blk c=(m.put b .dead).blk c:=by
   refine a c _ rfl ?_;intro d;rw[d] at g;cases g
  grind
def lz (w:World) (c:Nat) (a:Array af) (t:bV) (bZ:Nat×Nat):World:={w with heap:=w.heap.setIfInBounds c (.cells a t bZ)}
theorem Wo {w:World} {c:Nat} {a:Array af} {t:bV} {bZ:Nat×Nat} {x:Nat} (b:x≠c):(lz w c a t bZ).heap[x]? =w.heap[x]? :=by
 grind [lz]
theorem Wg {w:World} {c:Nat} {a:Array af} {t:bV} {bZ:Nat×Nat} (b:c<w.heap.size):(lz w c a t bZ).heap[c]? =J (.cells a t bZ):=by
 grind [lz]
def sn (w:World) (c:Nat) (o:Obj):World:={w with heap:=w.heap.setIfInBounds c o}
theorem adu {w:World} {c:Nat} {o:Obj} {x:Nat} (a:x≠c):(sn w c o).heap[x]? =w.heap[x]? :=by
 grind [sn]
theorem aq8 {w:World} {c:Nat} {o:Obj} (a:c<w.heap.size):(sn w c o).heap[c]? =J o:=by
 grind [sn]
def Rel.pF {P:bI} {j:cj} {m:Mem} {w:World} (h:Rel P j m w) {b:Nat} {e:kl} {X:bW} {ob:Obj} (i:j b=J e) (l:(m.blk b).iO=aa) (H:qI P j e (J ob) X) (p:X.iO=aa):
  Post P j m w j (m.put b X) (sn w e.blk ob):=by
 have I:=(h.lt b e i).2;have K:(m.blk b).live=aa:=by grind [bW.iO,bW.live]
 have s:∀c x,j c=J x->(m.blk c).live=aa->c≠b->x.blk≠e.blk:=λc x a f g B=>g (h.inj b c e x i a l f B.symm).symm;have d:∀c,c≠b->(m.put b X).blk c=m.blk c:=λc a=>by grind [Mem.put]
 have L:(m.put b X).blk b=X:=by simp[Mem.put]
 have E:(sn w e.blk ob).heap.size=w.heap.size:=by simp[sn]
 refine Post.of h ⟨?_, ?_, ?_⟩ ⟨rfl,rfl,rfl,by grind, ?_⟩ (e4 _) (λ_ _=>rfl) ?_ ?_ (λc a y=>by
  grind)
 ·intro c x a;have:=h.lt c x a;exact ⟨this.1,by grind⟩
 ·intro c x a;by_cases g:c=b
  ·grind [aq8]
  ·rw[d c g];cases f:(m.blk c).live with
   |false=>
    cases n:m.blk c<;>simp[n,bW.live] at f
    trivial
   |true=>rw[adu (s c x a f g)];exact h.obj c x a
 ·intro c k x z a C F y A;have q:(m.blk c).iO=aa:=by
   grind
  have r:(m.blk k).live=aa:=by
   grind
  exact h.inj c k x z a C q r A
 ·grind [adu]
 ·intro c x a t;exact absurd (h.lt c x a).1 (vP.2 t)
 grind
def Rel.write {P:bI} {j:cj} {m:Mem} {w:World} (h:Rel P j m w) {b:Nat} {e:kl} {L L':List af} {t:bV} {a cs':Array af} {bZ:Nat×Nat} (f:j b=J e) (d:m.blk b= .own L t)
  (C:w.heap[e.blk]? =J (.cells a t bZ)) (s:cs'.size=a.size) (n:L'.length<=e.cap*e.es) (l:∀(i:Nat) (v:af),L'[i]? =J v->∃g,cs'[e.db+i]? =J g/\eA j v g):
  Post P j m w j (m.put b (.own L' t)) (lz w e.blk cs' t bZ):=by
 obtain ⟨r,k,x,y,p,z,A,B⟩:=h.own b e L t f d;have q:r=a/\k=bZ:=by grind
 obtain ⟨rfl,rfl⟩:=q;exact h.pF f (by rw[d];rfl) ⟨cs',k,rfl,by grind,p,by grind,n,l⟩ rfl
def Rel.reuse {P:bI} {j:cj} {m:Mem} {w:World} (h:Rel P j m w) {b:Nat} {e e2:kl} {L L':List af} {t:bV} {B cs':Array af} {bZ:Nat×Nat} (z:j b=J e) (y:m.blk b= .own L t)
  (hw:w.heap[e.blk]? =J (.cells B t bZ)) (bf:cs'.size=B.size) (F:e2.blk=e.blk) (uS:e2.es=e.es) (Y:e2.db+e2.cap*e2.es<=B.size) (E:L'.length<=e2.cap*e2.es) (U:∀(i:Nat) (v:af),L'[i]? =J v->∃A,cs'[e2.db+i]? =J A/\eA j v A):
  Post P j m w (j.up m.next e2) ((m.put b .dead).push (.own L' t)) (lz w e.blk cs' t bZ):=by
 have cF:=(h.lt b e z).2;have bB:=h.abF;have q:=cj.P9 (e:=e2) bB;have T:(m.blk b).iO=aa:=by rw[y];rfl
 have N:∀c x,j c=J x->(m.blk c).live=aa->c≠b->x.blk≠e.blk:=λc x a E g u1=>g (h.inj b c e x z a T E u1.symm).symm;have jh:b<m.next:=(h.lt b e z).1;have X:(m.put b .dead).next=m.next:=rfl;have d:∀c,c≠b->c≠m.next->((m.put b .dead).push (.own L' t)).blk c=m.blk c:=λc a R=>by simp_all [Mem.put,Mem.push]
 have C:((m.put b .dead).push (.own L' t)).blk b= .dead:=by simp[Mem.put,Mem.push,show b≠m.next by omega]
 have I:((m.put b .dead).push (.own L' t)).blk m.next= .own L' t:=by simp[Mem.put,Mem.push]
 have p:∀b x,j.up m.next e2 b=J x->b≠m.next->j b=J x:=λb x y N=>by grind [cj.up]
 obtain ⟨rJ,M,g1,g2,g3,g4,g5,g6⟩:=h.own b e L t z y;have jI:rJ=B/\M=bZ:=by grind
 obtain ⟨rfl,rfl⟩:=jI;have VA:(lz w e.blk cs' t M).heap.size=w.heap.size:=by simp[lz]
 refine Post.of h ⟨?_, ?_, ?_⟩ ⟨rfl,rfl,rfl,by grind, ?_⟩ (by grind [Mem.push]) ?_ ?_ ?_ (λc a n=>by
  by_cases g:c=b
  ·subst g;rw[y];rfl
  grind)
 ·intro c x a;by_cases f:c=m.next
  ·grind [cj.up,Mem.push]
  ·have:=h.lt c x (p c x a f)
   grind [Mem.push]
 ·intro c x a;by_cases f:c=m.next
  ·subst f;have V:x=e2:=by grind [cj.up]
   subst V;rw[I,F,Wg cF];refine ⟨cs',M,rfl,by grind,by grind,by grind,E,λi v Z=> ?_⟩;obtain ⟨A,fv,fQ⟩:=U i v Z;exact ⟨A,fv,fQ.mono q⟩
  ·by_cases g:c=b
   ·subst g;rw[C];trivial
   ·have r:=p c x a f;rw[d c g f];cases Q:(m.blk c).live with
    |false=>
     cases S:m.blk c<;>simp[S,bW.live] at Q
     trivial
    |true=>rw[Wo (N c x r Q g)];exact (h.obj c x r).mono q
 ·intro c l x O a R s n qV;have g:c≠b:=by intro K;subst K;rw[C] at s;cases s
  have H:l≠b:=by intro K;subst K;rw[C] at n;cases n
  by_cases f:c=m.next
  ·grind [cj.up]
  ·rw[d c g f] at s;have r:=p c x a f;by_cases k:l=m.next
   ·grind [cj.up,bW.iO,bW.live]
   ·rw[d l H k] at n;exact h.inj c l x O r (p l O R k) s n qV
 ·grind [Wo]
 ·grind [cj.up]
 ·intro c x a hA;by_cases f:c=m.next
  ·grind [cj.up]
  ·exact absurd (h.lt c x (p c x a f)).1 (vP.2 hA)
 grind
end
section
structure AF (P:bI) (j:cj) (w w':World) (X:bW) (e:kl) (ob:Obj):Prop where
 heap:w'.heap=w.heap.push ob
 os:w'.os=w.os
 tape:w'.tape=w.tape
 output:w'.output=w.output
 blk:e.blk=w.heap.size
 obj:qI P j e (J ob) X
 own:X.iO=aa
def AF.cells {P:bI} {j:cj} {w b:World} {L:List af} {t:bV} {e:kl} {a:Array af} {bZ:Nat×Nat} (m:b.heap=w.heap.push (.cells a t bZ)) (g:b.os=w.os) (f:b.tape=w.tape) (h:b.output=w.output) (k:e.blk=w.heap.size)
  (l:∀i:Nat,i<a.size->¬(bZ.1<=i/\i<bZ.2)) (n:P.cellsOf t=e.es) (q:a.size=e.cap*e.es) (r:L.length<=a.size) (s:∀(i:Nat) (v:af),L[i]? =J v->∃d,a[i]? =J d/\eA j v d) (x:e.db=0:=by rfl):AF P j w b (.own L t) e (.cells a t bZ):=
 ⟨m,g,f,h,k,⟨a,bZ,rfl,l,n,by grind,by grind,λi v p=>by grind⟩,rfl⟩
def bP.Yc {R:af->af->Prop} {L:List af} {a:Array af} (h:bP R L a.toList):L.length=a.size/\∀(i:Nat) (v:af),L[i]? =J v->∃d,a[i]? =J d/\R v d:=
 ⟨by simpa using h.length,λi v e=>by obtain ⟨b,g,f⟩:=h.get i v e;grind⟩
def CL {n:Nat}:∀i:Nat,i<n->¬(((0,0):Nat×Nat).1<=i/\i<((0,0):Nat×Nat).2):=λi _ h=>absurd h.2 (Nat.not_lt_zero i)
theorem wW {P:bI} {t:bV} {i:TypeInfo} (h:P.info? t=J i):P.cellsOf t=i.size:=by grind [nY]
def Xr:tW 0=#[]:=by rfl
theorem KU (z:Array af) (l:Nat):((tW (l*z.size)).map (λk=>z[k%z.size]!)).toList=(gb l z.toList).flatten:=by
 induction l with
 |zero=>simp
 |succ l a=>
  have e:tW ((l+1)*z.size)=tW (l*z.size)++((tW z.size).map (l*z.size+·)):=by rw[ko,Nat.one_mul,Array.range_add]
  rw[e,Array.map_append,Yu,a,List.replicate_succ',List.flatten_append];congr 1;simp only[List.flatten_cons,List.flatten_nil,List.append_nil,Array.map_map];apply rv;intro i;simp only[ye,sH,Array.toList_range,List.getElem?_range];by_cases b:i<z.size
  ·simp_all [Nat.mod_eq_of_lt]
  grind
theorem KL {j:cj} {L:List af} (h:L.all dy=aa):bP (eA j) L L:=bP.self (λ_=>q4) h
theorem zl {z:List af} (h:z.all dy=aa) (l:Nat):(gb l z).flatten.all dy=aa:=by
 grind
def ad9 {P:bI} {j:cj} {M B:bS->af} {o:Oper} {n:Nat} {X:bW} {v:af} (h:jC P M o n X v) (I:h3 j M B o) (w:World):
  ∃bz w' e ob,(execOp B o).run P w= .ok (.value bz) w'/\AF P j w w' X e ob/\∀A:cj,A n=J e->de A v bz:=by
 cases h with
 |alloc t i z h g bx O Y=>
  have F:=(KL (j:=j) O).Yc;refine ⟨.pointer (J ⟨w.heap.size,0,ae⟩),w.alloc (.cells z.cells t),⟨w.heap.size,1,i.size,0⟩,_, ?_,
   .cells rfl rfl rfl rfl rfl CL (wW g) (by grind) (by simp) F.2,λA m=>⟨_,rfl,m,rfl⟩⟩
  simp_all [execOp,Instr.alloc,og,newVar,newRow]
 |box t x i h g aD Y=>
  have E:=de.storable (I x (by grind [dm])) aD;have F:=E.cells.Yc;refine ⟨.pointer (J ⟨w.heap.size,0,ae⟩),w.alloc (.cells (B x).cells t),⟨w.heap.size,1,i.size,0⟩,_, ?_,
   .cells rfl rfl rfl rfl rfl CL (wW g) ?_ ?_ F.2,λA m=>⟨_,rfl,m,rfl⟩⟩
  ·simp[execOp,h,Instr.box,newVar,newRow]
  ·grind
  grind
 |buildSlice t l r e i z H h C g bx O et uO uW N=>
  have Q:=h3.VO (j:=j) (ap:=M) (dn:=B) (o:=o) r.toList (λp bb=>I p.2 (by
   grind [dm]))
  have R:bP (eA j) (gb l z.cells.toList).flatten ((tW (l*i.size)).map (λk=>z.cells[k%z.cells.size]!)).toList:=by
   grind [KU,KL]
  obtain ⟨ds,oP,aV⟩:=Kv (j:=j) _ _ _ _ H Q R N;have F:=aV.Yc;have hlen:H.length=l*i.size:=by
   have:∀(r:List (Nat×af)) (L H:List af) (pl:Nat->Option (Nat×Nat)),k5 pl L r=J H->H.length=L.length:=by
    intro r;induction r with
    |nil=>grind [k5]
    |cons p r a1=>
     grind [k5,mB]
   rw[this _ _ _ _ N];simp_all
  have V:(r.map λ(i,x)=>(i,B x)).toList=r.toList.map λp=>(p.1,B p.2):=by simp
  refine ⟨.slice (J ⟨w.heap.size,0,ae⟩) l l,w.alloc (.cells ds e),⟨w.heap.size,l,i.size,0⟩,_, ?_,
   .cells rfl rfl rfl rfl rfl CL (wW g) (by grind) (Nat.le_of_eq F.1) F.2,λA m=>⟨_,rfl,m, .inl ⟨uW,rfl⟩⟩⟩
  by_cases U:l*i.size=0
  ·have mU:Instr.fill (λk=>J (k*i.size,i.size)) ((tW 0).map (λk=>(#[]:Array af)[k%0]!)) (r.toList.map λp=>(p.1,B p.2))=J ds:=by
    grind
   simp only[execOp,h,Instr.buildSlice,kD,fw C,jE,jb g];simp only[U];simp[Xr] at mU;simp[mU,V,newRow,Xr]
  ·simp only[execOp,h,Instr.buildSlice,kD,fw C,jE,jb g];simp_all [og,newRow]
 |makeSlice t x y l c k k' e i z h C g bx O et K aZ s7 aw N=>
  have E:=I x (by grind [dm]);rw[K] at E;have eM:=E.int;have ie:=I y (by grind [dm]);rw[aZ] at ie;have lr:=ie.int;have F:=(KL (j:=j) (zl O c)).length;have T:Aw.wrap (l:Int)=(l:Int):=IntWalk.i64_in _ (by omega);have S:Aw.wrap (c:Int)=(c:Int):=IntWalk.i64_in _ (by omega);have pu:(i.bytes:Int)*(c:Int)<=140737488355328:=by
   grind
  refine ⟨.slice (J ⟨w.heap.size,0,ae⟩) l c,w.alloc (.cells ((tW (c*i.size)).map (λk=>z.cells[k%z.cells.size]!)) e),⟨w.heap.size,c,i.size,0⟩,_, ?_,
   .cells rfl rfl rfl rfl rfl CL (wW g) (by simp) ?_ ?_,λA m=>⟨_,rfl,m, .inl ⟨N,rfl⟩⟩⟩
  ·have uZ:∀q:Int,0<=q->q<=c->(decide (q<0)||decide ((i.bytes:Int)*q>2 ^ 48))=ak:=by
    intro q bR h1;have:(i.bytes:Int)*q<=(i.bytes:Int)*c:=Int.mul_le_mul_of_nonneg_left h1 (by omega)
    grind
   have Y:(Instr.makeSlice t (.int k l) (.int k' c)).run P w= .ok (.slice (J ⟨w.heap.size,0,ae⟩) l c) (w.alloc (.cells ((tW (c*i.size)).map (λk=>z.cells[k%z.cells.size]!)) e)):=by
    simp only[Instr.makeSlice,kD,fw C,jE,asInt,asIntOf,nt,vm g,T,S];rw[uZ c (by omega) (by omega)];have h1:¬((l:Int)<0):=by omega
    have Q:¬((l:Int)>(c:Int)):=by omega
    simp only[h1,Q,decide_false,Bool.or_self,Yx,if_false,kD,run_askRoom,jE,Int.toNat_natCast,jb g,nt];simp_all [newRow,Xr,og]
   simp_all [execOp]
  ·simp_all
  grind [KU,zl,q4]
 |bytes s t x e i b h Y C he g kL K aw=>
  have E:=I x (by grind [dm]);rw[K] at E;have eM:=E.str
  let f:=(Question.appendCap b.size 0 e).cut (w.tape w.drawn (.appendCap b.size 0 e))
  have kJ:b.size<=f/\f<dc:=by
   have cF:=Nat.mod_lt (w.tape w.drawn (.appendCap b.size 0 e)) (show 0<2 ^ 63 - b.size by omega)
   grind [Question.cut,dc]
  let d:Array af:=b.data.map (λu=> .int .u8 u.toNat)++nj (f - b.size) (.int .u8 0)
  have Bu:d.size=f:=by simp[d];grind
  refine ⟨.slice (J ⟨w.heap.size,0,ae⟩) b.size f,(w.drew.alloc (.cells d e)).freeze {block:=w.heap.size,off:=f} 1,⟨w.heap.size,f,1,0⟩,Obj.cells d e (f,f+1), ?_,
   .cells ?_ ?_ ?_ ?_ rfl ?_ (by grind [wW]) (by grind) ?_ ?_,λA m=>⟨_,rfl,m, .inr (.inl ⟨rfl,Nat.one_pos, ?_,kJ.2, ?_, ?_, ?_⟩)⟩⟩
  ·have ayq:(Conv.stringToBytes e b).run P w= .ok (.slice (J ⟨w.heap.size,0,ae⟩) b.size f) ((w.drew.alloc (.cells d e)).freeze {block:=w.heap.size,off:=f} 1):=by
    simp only[Conv.stringToBytes,kD,run_choose,TK,Yx,if_false,jE,newRow,run_newObj,nt,markStringish,run_shape];have ayr:(w.drew.alloc (.cells d e)).heap[w.heap.size]? =J (.cells d e):=by show (w.heap.push (Obj.cells d e))[w.heap.size]? =_;simp
    have JY:((w.drew.alloc (.cells d e)).shape? w.heap.size)=J (e,d.size):=by grind [World.shape?]
    show (Zg (Sem.run P (match (w.drew.alloc (.cells d e)).shape? w.heap.size with|some (_,n)=>freeze {block:=w.heap.size,off:=n} 1|_=>pure ()) (w.drew.alloc (.cells d e))) _)=_;rw[JY];simp[Bu];rfl
   simp_all [execOp,convert,fw]
  ·grind [World.freeze,World.alloc,World.drew]
  ·rfl
  ·rfl
  ·rfl
  ·grind
  ·grind
  ·intro a v Z;refine ⟨v, ?_, ?_⟩
   ·grind
   ·simp only[sH] at Z;cases bm:b.data.toList[a]? with
    |none=>grind
    |some u=>simp[bm] at Z;subst Z;rfl
  ·grind
  ·rfl
  ·simp
  grind
 |makeMap t bG bA h C=>refine ⟨.map (J w.heap.size),w.alloc (.map #[] 0),⟨w.heap.size,0,0,0⟩,_, ?_,⟨rfl,rfl,rfl,rfl,rfl,⟨bG,bA,#[],0,[],rfl,C,⟨rfl,λp bb=>by grind⟩,fs,⟨by simp,λx K=>by grind⟩⟩,rfl⟩,λA m=>⟨_,m,rfl⟩⟩;simp[execOp,h,Instr.makeMap]
def arc {P:bI} {j:cj} {f i:bS->af} {o:Oper} {m:Mem} {w:World} {X:bW} {v:af} (h:jC P f o m.next X v) (p:h3 j f i o) (n:Rel P j m w):
  ∃b d g,(execOp i o).run P w= .ok (.value b) d/\Post P j m w g (m.push X) d/\de g v b:=by
 obtain ⟨b,d,e,ob,l,a,k⟩:=ad9 h p w;exact ⟨b,d,j.up m.next e,l,n.push a.heap a.os a.tape a.output a.blk a.obj,k _ (by simp[cj.up])⟩
end
section
theorem Kt {w:World} {c:Nat} {a:Array af} {t:bV} {bZ:Nat×Nat} (h:w.heap[c]? =J (.cells a t bZ)):lz w c a t bZ=w:=by
 have:w.heap.setIfInBounds c (.cells a t bZ)=w.heap:=by
  grind
 simp_all [lz]
theorem aqg {w:World} {c:Nat} {b a:Array af} {t:bV} {bZ:Nat×Nat}:lz (lz w c b t bZ) c a t bZ=lz w c a t bZ:=by
 simp[lz]
theorem aqa {w:World} {c o:Nat} {a:Array af} {t:bV} {bZ:Nat×Nat} {v:af} (h:w.heap[c]? =J (.cells a t bZ)):w.setCell ⟨c,o,ae⟩ v=lz w c (a.setIfInBounds o v) t bZ:=by
 have:(w.setCell ⟨c,o,ae⟩ v).heap=(lz w c (a.setIfInBounds o v) t bZ).heap:=by
  grind [World.setCell,lz]
 grind [World.setCell,lz]
def wX {P:bI} (c o:Nat) (t:bV) (bZ:Nat×Nat):∀(b:List af) (i:Nat) (a:Array af) (w:World),w.heap[c]? =J (.cells a t bZ)->(∀k:Nat,k<a.size->¬(bZ.1<=k/\k<bZ.2))->
  o+i+b.length<=a.size->(∀v∈b,v.oneCell'=aa)->(storeCells ⟨c,o,ae⟩ b i).run P w= .ok () (lz w c (eY a.toList (o+i) b).toArray t bZ)
 |[],i,a,w,h,e,d,f=>by simp_all [storeCells,eY,Kt]
 |v::b,i,a,w,h,e,d,f=>by
  simp only[List.length_cons] at d;have g:=(Ij.1 h).1;have m:w.cell? ⟨c,o+i,ae⟩=J a[o+i]:=by grind [rG]
  have n:w.frozen? ⟨c,o+i,ae⟩=ak:=by
   have:=e (o+i) (by omega)
   grind [World.frozen?]
  have j:=wX (P:=P) c o t bZ b (i+1) (a.setIfInBounds (o+i) v) (lz w c (a.setIfInBounds (o+i) v) t bZ) (Wg g) (by grind) (by grind) (λx l=>f x (by grind))
  grind [storeCells,kD,o4,run_store,jE,aqa,aqg,eY]
def bP.one {j:cj}:∀{L K:List af},bP (eA j) L K->∀v∈K,v.oneCell'=aa
 |[],[],_,v,d=>by grind
 |a::L,b::K,⟨f,e⟩,v,d=>by
  rcases ha.1 d with rfl|d
  ·exact f.one
  ·exact bP.one e v d
 |[],_::_,h,_,_=>h.elim
 |_::_,[],h,_,_=>h.elim
def V7 {P:bI} {j:cj} {m:Mem} {w:World} (N:uq P j m w) {e:Nat} {y n:af} {new:List af} (x:de j y n) (h:kt m e y=J new):
  (Tq n).run P w= .ok (ja y) w/\∃g:List af,bP (eA j) new g/\(new.length=ja y*e->∀k,k<=ja y->∀d:World,d.heap=w.heap->(qD e k n).run P d= .ok (g.take (k*e)).toArray d):=by
 cases y with
 |slice a l c=>
  cases a with
  |none=>have p:=x.nc;subst p;simp only[kt,kB.injEq] at h;subst h;refine ⟨by rfl,[],fs,λA k t d F=> ?_⟩;simp[qD]
  |some a=>
   obtain ⟨b,f,I⟩:=a;obtain ⟨q,B,C,i⟩:=x.slice;simp only at B C;subst B;simp only[kt] at h;obtain ⟨g,K,A,R⟩:=BL N C _ _ _ h;have Q:∀(r:Addr) (H:Nat),n= .slice (J r) l H->(r=⟨q.blk,q.db+f,ae⟩\/l=0)->(Tq n).run P w= .ok (ja (.slice (J ⟨b,f,ae⟩) l c)) w/\
     ∃g:List af,bP (eA j) new g/\(new.length=ja (.slice (J ⟨b,f,ae⟩) l c)*e->∀k,k<=ja (.slice (J ⟨b,f,ae⟩) l c)->∀d:World,d.heap=w.heap->(qD e k n).run P d= .ok (g.take (k*e)).toArray d):=by
    intro r H p z;subst p;refine ⟨by rfl,g,K,λL k t d F=> ?_⟩;simp only[ja] at t;simp only[qD];have E:(g.take (k*e)).length=k*e:=by simp_all
    rcases z with rfl|z
    ·grind [BM,rG]
    simp_all [acm]
   rcases i with ⟨_,i⟩|⟨_,_,_,_,_,_,i⟩|⟨_,O,S,i⟩|⟨_,O,r,i⟩|⟨_,_,_,_,_,_,_,_,_,i⟩
   ·grind
   ·grind
   ·grind
   ·grind
   grind
 |string s=>
  have p:=x.str;subst p;simp only[kt] at h;split at h
  ·rename_i M;subst M;simp only[kB.injEq] at h;subst h;refine ⟨by rfl,s.data.toList.map λu=> .int .u8 u.toNat,KL (by simp only[List.all_map,iA,YD];intro u _;rfl),λA k t d F=> ?_⟩;simp only[qD,nt,Nat.mul_one,ja] at t⊢;congr 1;apply Ii;simp_all
  grind
 |_=>grind [kt]
inductive Ih (P:bI) (w:World) (u:bV) (i:TypeInfo) (kr:af) (n:Nat) (iB:List af):Prop where
 |el (hu:(∃cz,P.underlying u=J (.slice cz))\/P.underlying u=J .string) (aR:∀w',(Tq kr).run P w'= .ok n w') (bF:∀w',w'.heap=w.heap->(qD i.size n kr).run P w'= .ok iB.toArray w')
 |mk (kk k:aG) (z:af) (hu:P.underlying u=J (.int kk)) (aD:kr= .int k n) (bx:i.zero=J z) (cN:0<i.size) (aw:n*i.bytes<=140737488355328) (hm:n<9223372036854775807) (ji:iB.toArray=yf z.cells n)
def afF (z:Array af):yf z 0=#[]:=by simp[yf]
theorem zh {P:bI} {t u K e:bV} {i:TypeInfo} {b:Option Addr} {l c n:Nat} {x:af} {w:World} {p:List af} (g:P.underlying t=J (.slice e)) (d:P.info? e=J i)
  (F:Ih P w u i x n p) (h:l+n<=c):
  (tZ #[t,u] K #[.slice b l c,x]).run P w=
   match b with
   |some a=>((storeCells (a.add (l*i.size)) p).run P w).andThen λ_ w=> .ok (.slice b (l+n) c) w
   |none=> .ok (.slice b (l+n) c) w:=by
 cases F with
 |el f j m=>have j:=j w;have m:=m w rfl;rcases f with ⟨N,q⟩|q<;>cases b<;>simp[tZ,fw g,fw q,jb d,j,h,m]
 |mk kk k z f A r M L O Q=>
  subst A;have B:aO .i64 (n:Int)=n:=by grind [vN]
  have C:¬((n:Int)<0):=by omega
  have E:¬((281474976710656:Int)<(n:Int)*(i.bytes:Int)):=by
   grind
  have H:¬i.size=0:=by omega
  have y:p=(yf z.cells n).toList:=by grind
  subst y;by_cases s:n=0
  ·subst s;cases b<;>simp[tZ,fw g,fw f,jb d,vm d,og d r,h,asInt,asIntOf,afF,show aO .i64 (0:Int)=0 from rfl]<;>omega
  ·have I:¬n*i.size=0:=by grind [Nat.mul_eq_zero]
   cases b<;>simp[tZ,fw g,fw f,jb d,vm d,og d r,B,C,E,s,H,I,h,asInt,asIntOf]
def ap4 {P:bI} {t u ty e:bV} {i:TypeInfo} {z:af} {base:Option Addr} {l c n:Nat} {y:af} {w:World} {r:Array af} {s:List af} (h:P.underlying t=J (.slice e)) (a:P.info? e=J i) (d:i.zero=J z)
  (N:Ih P w u i y n s) (F:c<l+n) (Y:l+n<9223372036854775807) (E:(l+n)*i.bytes<=140737488355328)
  (C:∀m,m.heap=w.heap->(qD i.size l (.slice base l c)).run P m= .ok r m):
  (tZ #[t,u] ty #[.slice base l c,y]).run P w=
   .ok (.slice (J ⟨w.heap.size,0,ae⟩) (l+n) (grownCap w (l+n) c e)) (w.drew.alloc (.cells (r++s.toArray++yf z.cells (grownCap w (l+n) c e - (l+n))) e)):=by
 have f:¬(l+n<=c):=by omega
 have p:¬(9223372036854775807<((l:Int)+(n:Int))):=by omega
 have uT:=growslice_fits F E;have b:¬(281474976710656<Builtin.nextslicecap (l+n) c*i.bytes):=by omega
 have j:=C w.drew rfl;cases N with
 |el g H I=>have T:=I w.drew rfl;rcases g with ⟨V,q⟩|q<;>simp[tZ,fw h,fw q,jb a,vm a,og a d,H,f,p,b,TK,j,T,newRow,grownCap]
 |mk kk k z' g B A U X Z O=>
  rw[d] at A;cases A;subst B;have K:aO .i64 (n:Int)=n:=by grind [vN]
  have L:¬((n:Int)<0):=by omega
  have M:¬((281474976710656:Int)<(n:Int)*(i.bytes:Int)):=by
   grind
  have Q:¬i.size=0:=by omega
  rw[O];by_cases x:n=0
  ·subst x;simp only[pS] at f b;have R:¬(9223372036854775807<(l:Int)):=by omega
   simp[tZ,fw h,fw g,jb a,vm a,og a d,f,R,b,TK,j,newRow,grownCap,asInt,asIntOf,afF,show aO .i64 (0:Int)=0 from rfl]
  ·have S:¬n*i.size=0:=by grind [Nat.mul_eq_zero]
   simp[tZ,fw h,fw g,jb a,vm a,og a d,K,f,p,b,L,M,x,Q,S,TK,j,newRow,grownCap,asInt,asIntOf]
end
section
def BT {j:cj} {L new:List af} {f:Array af} {k:List af} {o a:Nat} (h:∀(i:Nat) (v:af),L[i]? =J v->∃b,f[a+i]? =J b/\eA j v b) (g:bP (eA j) new k) (l:o+new.length<=L.length) (m:a+L.length<=f.size):
  ∀(i:Nat) (v:af),(eY L o new)[i]? =J v->∃b,(eY f.toList (a+o) k).toArray[a+i]? =J b/\eA j v b:=by
 intro i v e;have d:=g.length;rw[o5 _ _ _ _ l] at e;simp only[IK];rw[o5 _ _ _ _ (by grind)];rw[<-d];split at e
 ·rename_i n;rw[if_pos (by omega),show a+i - (a+o)=i - o by omega];exact g.get _ _ e
 grind
def zt (a:Array af) (o:Nat) (b:List af):(eY a.toList o b).toArray.size=a.size:=by simp[mB]
def wU {P:bI} {a:bS->af} {o:Oper} {x y:bS} {t u:bV} (h:o.op= .call {callee:= .builtin .append,args:=#[x,y],argTypes:=#[t,u]}) {w b:World} {v:af}
  (d:(tZ #[t,u] o.type #[a x,a y]).run P w= .ok v b):(execOp a o).run P w= .ok (.value v) b:=by
 simp_all [execOp,resolve,invoke,builtin]
def Cf (P:bI) (j:cj) (m:Mem) (w:World) (e:bS->af) (o:Oper) (v:af) (f:Mem):Prop:=∃n a d b,(execOp e o).run P w= .ok n d/\(n= .value a\/(n= .skip/\a=undef))/\Post P j m w b f d/\de b v a
theorem aqk {P:bI} {j:cj} {d f:bS->af} {o:Oper} {m:Mem} {w:World} {t:bV} {x y:bS} {b a:Nat} {i:TypeInfo} {L:List af} {e:bV} (h:o.op= .store t x y) (B:d x= .pointer (J ⟨b,a,ae⟩)) (M:P.info? t=J i) (z:m.blk b= .own L e)
   (A:storable (d y)=aa) (O:(d y).cells.size=i.size) (I:a+i.size<=L.length) (s:h3 j d f o) (n:Rel P j m w):Cf P j m w f o undef (m.put b (.own (eY L a (d y).cells.toList) e)):=by
 have l:=s x (by grind [dm]);rw[B] at l;obtain ⟨q,_,k,K⟩:=l.ptr;have H:=de.storable (s y (by grind [dm])) A;have g:=H.cells;obtain ⟨p,bZ,r,E,Q,R,S,F⟩:=n.own b q L e k z;have N:(f y).cells.size=i.size:=by have:=g.length;grind
 have C:=wX (P:=P) q.blk (q.db+a) e bZ (f y).cells.toList 0 p w r E (by grind) (bP.one g);simp only[pS] at C;refine ⟨.skip,undef,_,j, ?_, .inr ⟨rfl,rfl⟩,n.write k z r (zt p _ _) (by grind [mB]) (BT F g (by grind) (by omega)), ?_⟩
 ·simp_all [execOp,Instr.storeAt,yj,storeVar,jb]
 ·exact ⟨#[],rfl,fs⟩
def abX {P:bI} {j:cj} {m:Mem} {w:World} (l:uq P j m w) {d:Nat} {y g:af} {new:List af} (i:de j y g) (h:kt m d y=J new) (e:new.length=ja y*d):
  ∃b:List af,bP (eA j) new b/\∀a:World,a.heap=w.heap->(qD d (ja y) g).run P a= .ok b.toArray a:=by
 obtain ⟨_,b,f,k⟩:=V7 l i h;refine ⟨b,f,λa n=> ?_⟩;rw[k e _ (e4 _) a n,<-e,f.length,List.take_length]
theorem arT {P:bI} {j:cj} {m:Mem} {w d:World} (h:Rel P j m w) (f:d.heap=w.heap):Rel P j m d:=
 ⟨⟨λb e a=>by have:=h.lt b e a;grind,λb e a=>by rw[f];exact h.obj b e a,h.inj⟩,h.mE.val.keep λ_ _=>by grind,h.mE.sep⟩
theorem aq7 {z:af} (a:z.cells.toList.all dy=aa) (n:Nat):∀v∈(gb n z.cells.toList).flatten,dy v=aa:=by
 grind [zl]
def BR {P:bI} {j:cj} {m:Mem} {w:World} (p:uq P j m w) {u:bV} {i:TypeInfo} {y f:af} {n:Nat} {new:List af} (d:de j y f) (h:sA P m u i y n new) (A:new.length=n*i.size):
  ∃e:List af,bP (eA j) new e/\Ih P w u i f n e:=by
 cases h with
 |el g s q=>subst s;obtain ⟨b,_⟩:=V7 p d q;obtain ⟨e,F,r⟩:=abX p d q A;refine ⟨e,F, .el g (λO=> ?_) r⟩;have:=b;cases l:f<;>simp[l,Tq] at this⊢<;>exact this
 |mk kk k z g t B L N C x E H=>
  subst H;have l:f= .int k n:=by rw[t] at d;exact d.int
  refine ⟨(gb n z.cells.toList).flatten,bP.Kj rfl λa v K I M=> ?_, .mk kk k z g l B C x E ?_⟩
  ·grind [q4,aq7]
  ·have:=KU z.cells n;rw[<-this];rfl
def abV {P:bI} {j:cj} {r:bS->af} {o:Oper} {m m0:Mem} {w:World} {x y:bS} {t u e:bV} {i:TypeInfo} {z:af} {b:Option Addr} {l c n:Nat} {g new:List af} {s A:List af}
   (h:o.op= .call {callee:= .builtin .append,args:=#[x,y],argTypes:=#[t,u]})
   (K:P.underlying t=J (.slice e)) (B:P.info? e=J i) (Q:i.zero=J z) (V:z.cells.size=i.size) (R:0<i.size)
   (an:r x= .slice b l c) (U:Ih P w u i (r y) n A) (N:c<l+n)
   (nF:g.length=l*i.size) (qR:new.length=n*i.size) (C:bP (eA j) g s) (F:bP (eA j) new A)
   (H:∀f,f.heap=w.heap->(qD i.size l (.slice b l c)).run P f= .ok s.toArray f)
   (M:(l+n)*i.bytes<=140737488355328) (Z:l+n<9223372036854775807) (S:Rel P j m0 w) (L:m0.next=m.next):
  ∃q f E,(execOp r o).run P w= .ok (.value q) f/\Post P j m0 w E (m0.push (.own (g++new) e)) f/\de E (.slice (J ⟨m.next,0,ae⟩) (l+n) dc) q:=by
 have kv:=ap4 (P:=P) (ty:=o.type) (base:=b) (z:=z) K B Q U N Z M H
 let a:=grownCap w (l+n) c e
 have kJ:l+n<=a:=grownCap_ge w _ c e;have p:a<dc:=by
  have cF:=Nat.mod_lt (w.tape w.drawn (.appendCap (l+n) c e)) (show 0<2 ^ 63 - (l+n) by omega)
  grind [grownCap,Question.cut,dc]
 let d:=s.toArray++A.toArray++yf z.cells (a - (l+n))
 have O:=C.length;have T:=F.length;have Bu:d.size=a*i.size:=by
  simp only[d,Array.size_append,List.size_toArray,size_zeroCells,V];rw[<-O,<-T,nF,qR,<-ko,<-ko]
  grind
 have wy:=S.push (w':=w.drew.alloc (.cells d e)) (X:= .own (g++new) e) (e:=⟨w.heap.size,a,i.size,0⟩) (ob:= .cells d e) rfl rfl rfl rfl rfl ⟨d,(0,0),rfl,CL,wW B,by grind,
  (by grind),
  (λk v Y=>by
   have I:=bP.append C F;obtain ⟨q,iF,aV⟩:=I.get k v Y
   grind)⟩
 refine ⟨.slice (J ⟨w.heap.size,0,ae⟩) (l+n) a,_,_,wU h (by grind),wy,⟨⟨w.heap.size,a,i.size,0⟩,rfl,by grind [cj.up], .inr (.inl ⟨rfl,R, ?_,p, ?_, ?_, ?_⟩)⟩⟩
 ·simp_all
 ·rfl
 ·simp
 ·simp
def aqb {b:Array MapEntry} {a:Nat} (h:zy b a) (i:Nat) (f:MapEntry->MapEntry) (n:∀e,(f e).born=e.born):zy (b.modify i f) a:=by
 have d:(b.modify i f).toList.map (·.born)=b.toList.map (·.born):=by
  rw[Array.toList_modify];refine rv λk=> ?_
  grind
 refine ⟨by rw[d];exact h.1,λx l=> ?_⟩;have g:x.born∈(b.modify i f).toList.map (·.born):=l2.2 ⟨x,l,rfl⟩;rw[d] at g;obtain ⟨y,j,m⟩:=l2.1 g;rw[<-m];exact h.2 y j
def aqj {i:Array MapEntry} {d:Nat} (h:zy i d) (e:MapEntry) (l:e.born=d):zy (i.push e) (d+1):=by
 refine ⟨?_,λx f=> ?_⟩
 ·rw[Array.toList_push,List.map_append,List.nodup_append];refine ⟨h.1,by simp,λa k b g=> ?_⟩;obtain ⟨y,j,rfl⟩:=l2.1 k;simp only[rA,TA,IM] at g;rw[g,l];exact Nat.ne_of_lt (h.2 y j)
 ·rw[Array.toList_push] at f;rcases kU.1 f with f|f
  ·exact Nat.lt_succ_of_lt (h.2 x f)
  grind
def uA.find {P:bI} {j:cj} {b m:bV} {d w:List af} {E k:List (List af×List af)} {bz:af} {clock:Nat} (h:uA (ek P b) d w E k) (A:d.all dy=aa) (s:fC j (ey (ek P m) w) bz):∀{a:List MapEntry} (n:Nat),bP (ub P j b m) E a->
  (∃i y,o6 (ey (ek P b) d) a n=J (n+i,y.val)/\a[i]? =J y/\y.key=ey (ek P b) d/\bP (ub P j b m) k (a.modify i λe=>{e with key:=ey (ek P b) d,val:=bz}))\/
  (o6 (ey (ek P b) d) a n=ae/\bP (ub P j b m) k (a++[{key:=ey (ek P b) d,val:=bz,born:=clock}])):=by
 induction h with
 |qZ=>
  intro a n f;cases a with
  |nil=>exact .inr ⟨rfl,⟨rfl,A,s⟩,fs⟩
  |cons _ _=>exact f.elim
 |rS p E h=>
  intro a n f;cases a with
  |nil=>exact f.elim
  |cons x a=>obtain ⟨⟨g,l,q⟩,r⟩:=f;refine .inl ⟨0,x,by grind [o6],rfl,g.trans h, ?_⟩;exact ⟨⟨h.symm,l,s⟩,r⟩
 |next p E k h I z=>
  intro a n f;cases a with
  |nil=>exact f.elim
  |cons x a=>
   obtain ⟨⟨g,l,q⟩,r⟩:=f;have K:¬x.key=ey (ek P b) d:=λB=>h (g.symm.trans B);rcases z (n+1) r with ⟨i,y,C,t,F,H⟩|⟨C,t⟩
   ·refine .inl ⟨i+1,y, ?_,by grind,F, ?_⟩
    ·grind [o6]
    ·exact ⟨⟨g,l,q⟩,H⟩
   ·refine .inr ⟨?_, ?_⟩
    ·grind [o6]
    ·exact ⟨⟨g,l,q⟩,t⟩
def aqQ {P:bI} {C:FuncId->Array af->Mem->af->Mem->Prop} {j:cj} {S O:bS->af} {o:Oper} {m m':Mem} {w:World} {v:af} (h:hR P C S o m v m') (X:h3 j S O o) (B:Rel P j m w):
  Cf P j m w O o v m'\/∃f args,callee o S f args/\C f args m v m':=by
 cases h with
 |store t x y b d i L e h U Z T aD bf aR=>grind [aqk]
 |call f args v m' h cW=>grind
 |vZ x y t u e i a l c h aJ Z U Y s7 aZ=>
  left;have A:=X x (by grind [dm,lh]);rw[U] at A;have ie:=X y (by simp[h,dm,lh]);obtain ⟨ds,bg,eL⟩:=BR B.ot ie aZ (by simp);have oP:ds=[]:=by have:=bg.length;grind
  subst oP;have s:∃N,O x= .slice N l c/\de j (.slice a l c) (.slice N l c):=by
   cases a with
   |none=>exact ⟨ae,A.nc,rfl⟩
   |some a=>
    obtain ⟨q,bf,g,I⟩:=A.vw (lG Y);rcases I with ⟨cF,I⟩|⟨I,_⟩|⟨I,_⟩|⟨rQ,hV,N,I⟩
    ·grind
    ·grind
    ·grind
    grind
  obtain ⟨N,s,ayv⟩:=s;refine ⟨.value (.slice N l c), .slice N l c,w,j,wU h ?_, .inl rfl,Post.refl B,by grind⟩;rw[s,zh aJ Z eL (by omega)];cases N<;>simp[storeCells]
 |sP x y t u e i z a l c n ew new h aJ Z bx dw et cN U Y aM nF aZ bB aw T=>
  left;have A:=X x (by grind [dm,lh]);have ie:=X y (by grind [dm,lh]);have Vj:ja (S x)=l:=by rw[U];rfl
  have s:∃N,O x= .slice N l c:=by
   rw[U] at A;cases a with
   |none=>exact ⟨ae,A.nc⟩
   |some a=>
    obtain ⟨q,bf,g,I⟩:=A.vw (by grind [dc]);rcases I with ⟨cF,I⟩|⟨I,_⟩|⟨I,_⟩|⟨rQ,hV,N,I⟩
    ·grind
    ·grind [dc]
    ·grind [dc]
    grind
  obtain ⟨N,s⟩:=s;obtain ⟨ds,bg,axZ⟩:=abX B.ot A aM (by grind);obtain ⟨iB,R,eL⟩:=BR B.ot ie aZ bB;have Bm:∀w':World,w'.heap=w.heap->(qD i.size l (.slice N l c)).run P w'= .ok ds.toArray w':=by
   grind
  obtain ⟨bz,w',c6,h1,ai,aT⟩:=abV (m:=m) h aJ Z bx et cN s eL Y nF bB bg R Bm aw T B rfl;exact ⟨.value bz,bz,w',c6,h1, .inl rfl,ai,aT⟩
 |vY x y t u e i b d l c n L new h aJ Z U gN Y T aZ bB aR=>
  left;have A:=X x (by grind [dm,lh]);rw[U] at A;have ie:=X y (by grind [dm,lh]);obtain ⟨iB,R,eL⟩:=BR B.ot ie aZ bB;obtain ⟨q,_,g,I⟩:=A.vw (lG gN);rcases I with ⟨cF,s⟩|⟨I,_⟩|⟨I,_⟩|⟨rQ,hV,N,s⟩
  rotate_left 3
  ·
   subst rQ;subst hV;have Bz:n=0:=by omega
   have wq:new=[]:=by simp_all
   subst wq;have U4:iB=[]:=by have:=R.length;grind
   subst U4;obtain ⟨F,bZ,H,g2,g3,g4,g5,g6⟩:=B.own b q L e g T;have hw:=B.write (L':=L) g T H (cs':=F) rfl g5 g6;rw[Kt H] at hw;refine ⟨.value _,_,_,j,wU h (v:= .slice (J N) (0+n) 0) ?_, .inl rfl,hw,⟨q,rfl,g, .inr (.inr (.inr (.inl ⟨rfl,by omega,N,by grind⟩)))⟩⟩;rw[s,zh aJ Z eL Y];rfl
  ·obtain ⟨F,bZ,H,g2,g3,g4,g5,g6⟩:=B.own b q L e g T;rw[ko,<-bB,<-sK] at aR;have fb:=wX (P:=P) q.blk (q.db+(d+l*i.size)) e bZ iB 0 F w H g2 (by rw[<-R.length];omega) (bP.one R);simp only[pS] at fb;refine ⟨.value _,_,_,j,wU h (v:= .slice (J ⟨q.blk,q.db+d,ae⟩) (l+n) c) ?_, .inl rfl,B.write g T H (zt F _ _) (by grind [mB]) (BT g6 R aR (by omega)),
    ⟨q,rfl,g, .inl ⟨cF,rfl⟩⟩⟩
   grind [zh,o4,jE]
  ·grind
  grind
 |yy x y t u e i b d l c k n L new h aJ Z U gN nB Y T aZ bB aR=>
  left;have A:=X x (by grind [dm,lh]);rw[U] at A;have ie:=X y (by grind [dm,lh]);obtain ⟨iB,R,eL⟩:=BR B.ot ie aZ bB;obtain ⟨q,_,g,I⟩:=A.slice;have g:j b=J q:=g;rcases I with ⟨cF,_⟩|⟨I,_⟩|⟨I,_⟩|⟨rQ,_⟩|⟨k',lL,_,_,rR,kJ,cF,p8,Q,s⟩
  ·omega
  ·omega
  ·omega
  ·grind
  ·have an0:k'=k:=by omega
   subst an0;have kJ:k'<=q.cap - d / q.es:=kJ;have p8:d%q.es=0:=p8;have Q:d / q.es<=q.cap:=Q;obtain ⟨F,bZ,H,g2,g3,g4,g5,g6⟩:=B.own b q L e g T;rw[ko,<-bB,<-sK] at aR;have fb:=wX (P:=P) q.blk (q.db+(d+l*i.size)) e bZ iB 0 F w H g2 (by rw[<-R.length];omega) (bP.one R);simp only[pS] at fb;refine ⟨.value _,_,_,j,wU h (v:= .slice (J ⟨q.blk,q.db+d,ae⟩) (l+n) (q.cap - d / q.es)) ?_, .inl rfl,B.write g T H (zt F _ _) (by grind [mB]) (BT g6 R aR (by omega)),
    ⟨q,rfl,g, .inr (.inr (.inr (.inr ⟨k',lL,nB,Y,rR,kJ,cF,p8,Q,rfl⟩)))⟩⟩
   grind [zh,o4,jE]
 |append x y t u e i z b d l n L new h aJ Z bx dw et cN U jj yS aZ bB aw T=>
  left;have A:=X x (by grind [dm,lh]);have axH:=A;rw[U] at A;have ie:=X y (by grind [dm,lh]);obtain ⟨iB,R,eL⟩:=BR B.ot ie aZ bB;obtain ⟨q,_,g,I⟩:=A.vw (e4 _);have g:j b=J q:=g;obtain ⟨F,bZ,H,g2,g3,g4,g5,g6⟩:=B.own b q L e g jj;have rR:i.size=q.es:=by grind [wW]
  have uZ:((L.drop d).take (l*i.size)).length=l*i.size:=by grind
  have ayt:∀(k:Nat) (v:af),((L.drop d).take (l*i.size))[k]? =J v->∃bz,((F.toList.drop (q.db+d)).take (l*i.size))[k]? =J bz/\eA j v bz:=by
   grind
  have aot:bP (eA j) ((L.drop d).take (l*i.size)) ((F.toList.drop (q.db+d)).take (l*i.size)):=bP.Kj (by grind) (λk a dJ bl e5=>by
   grind)
  have out:∀(o' c3:Nat),O x= .slice (J ⟨q.blk,o',ae⟩) l c3->(o'=q.db+d\/l=0)->c3<l+n->Cf P j m w O o (.slice (J ⟨m.next,0,ae⟩) (l+n) dc) ((m.put b .dead).push (.own ((L.drop d).take (l*i.size)++new) e)):=by
   intro o' c3 s aM Y;have hk:=B.kill b;have Bm:∀w':World,w'.heap=w.heap->(qD i.size l (.slice (J ⟨q.blk,o',ae⟩) l c3)).run P w'= .ok ((F.toList.drop (q.db+d)).take (l*i.size)).toArray w':=by
    grind [qD,BM,rG]
   obtain ⟨bz,w',c6,h1,ai,aT⟩:=abV (m:=m) (m0:=m.put b .dead) h aJ Z bx et cN s eL Y uZ bB aot R Bm aw T hk.rel rfl;exact ⟨.value bz,bz,w',c6,h1, .inl rfl,Post.trans hk ai,aT⟩
  rcases I with ⟨cF,_⟩|⟨_,hh,hle,kJ,p8,Q,s⟩|⟨_,hV,o',s⟩|⟨rQ,_⟩
  rotate_left 3
  ·grind [dc]
  ·grind
  ·have hle:l<=q.cap - d / q.es:=hle;have p8:d%q.es=0:=p8;have Q:d / q.es<=q.cap:=Q;have rV:d=d / q.es*q.es:=by
    grind [Nat.div_add_mod]
   have axQ:d+(q.cap - d / q.es)*q.es=q.cap*q.es:=by
    grind [Nat.sub_mul]
   have s:O x= .slice (J ⟨q.blk,q.db+d,ae⟩) l (q.cap - d / q.es):=s;by_cases uT:l+n<=q.cap - d / q.es
   ·have td:d+(l+n)*i.size<=q.cap*q.es:=by
     have:(l+n)*i.size<=(q.cap - d / q.es)*q.es:=by rw[rR];exact oH _ uT
     omega
    have ays:q.db+d+l*i.size+new.length<=F.size:=by grind
    have fb:=wX (P:=P) q.blk (q.db+d+l*i.size) e bZ iB 0 F w H g2 (by rw[<-R.length];omega) (bP.one R);simp only[pS] at fb;refine ⟨.value _,_,_,j.up m.next ⟨q.blk,q.cap - d / q.es,q.es,q.db+d⟩,wU h (v:= .slice (J ⟨q.blk,q.db+d,ae⟩) (l+n) (q.cap - d / q.es)) ?_, .inl rfl,
     B.reuse (e2:=⟨q.blk,q.cap - d / q.es,q.es,q.db+d⟩) (L':=(L.drop d).take (l*i.size)++new) g jj H (zt F (q.db+d+l*i.size) iB) rfl rfl (by grind) (by grind) ?_,
     ⟨⟨q.blk,q.cap - d / q.es,q.es,q.db+d⟩,rfl,by simp[cj.up], .inr (.inl ⟨rfl,hh,by simpa using uT,TI (Nat.sub_le _ _) kJ,by rfl,by simp,by simp⟩)⟩⟩
    ·grind [zh,o4,jE]
    ·intro k v hk;simp only[IK];rw[o5 _ _ _ _ (by rw[<-R.length];grind)];rw[List.getElem?_append,uZ] at hk;split at hk
     ·grind
     ·rename_i hA;obtain ⟨bz,h1,ai⟩:=R.get _ _ hk;have:=(fq.1 h1).1;rw[if_pos (by omega)];exact ⟨bz,by rw[show q.db+d+k - (q.db+d+l*i.size)=k - l*i.size by omega];grind,ai⟩
   grind
  ·by_cases uT:l+n<=0
   ·have Bz:n=0:=by omega
    have yT:new=[]:=by simp_all
    subst yT;subst hV;have anH:iB=[]:=by have:=R.length;grind
    subst anH;have JW:=B.reuse (e2:=q) (L':=(L.drop d).take (0*i.size)++[]) g jj H (cs':=F) rfl rfl rfl g4 (by simp) (λk v hk=>by grind);rw[Kt H] at JW;refine ⟨.value (.slice (J ⟨q.blk,o',ae⟩) 0 0),_,w,j.up m.next q,wU h ?_, .inl rfl,JW,⟨q,rfl,by simp[cj.up], .inr (.inr (.inl ⟨rfl,by omega,o',rfl⟩))⟩⟩;subst Bz;rw[s,zh aJ Z eL (by omega)];rfl
   grind
 |clear x t e i z b d l c L h aJ Z bx dw et U T hV aR=>
  left;have A:=X x (by grind [dm,lh]);rw[U] at A;obtain ⟨q,_,g,I⟩:=A.slice;have g:j b=J q:=g;have s:∃c3,O x= .slice (J ⟨q.blk,q.db+d,ae⟩) l c3:=by
   rcases I with ⟨_,Y⟩|⟨_,_,_,_,_,_,Y⟩|⟨_,bR,_⟩|⟨_,bR,_⟩|⟨_,_,_,_,_,_,_,_,_,Y⟩
   ·grind
   ·grind
   ·omega
   ·omega
   grind
  obtain ⟨c3,s⟩:=s;obtain ⟨F,bZ,H,g2,g3,g4,g5,g6⟩:=B.own b q L e g T;have abb:z.cells.toList.length=i.size:=by grind
  have hlen:(gb l z.cells.toList).flatten.length=l*i.size:=by simp_all
  have bg:bP (eA j) (gb l z.cells.toList).flatten (gb l z.cells.toList).flatten:=bP.self (p:=dy) (λa h=>q4 h) (by
   grind)
  have hB:d+(gb l z.cells.toList).flatten.length<=L.length:=by grind
  have fb:=wX (P:=P) q.blk (q.db+d) e bZ (gb l z.cells.toList).flatten 0 F w H g2 (by omega) (bP.one bg);simp only[pS] at fb;have qX:(yf z.cells l).toList=(gb l z.cells.toList).flatten:=KU z.cells l;refine ⟨.value _, .tuple #[],_,j, ?_, .inl rfl,B.write g T H (zt F _ _) (by grind [mB]) (BT g6 bg hB (by omega)),⟨#[],rfl,fs⟩⟩;have ax6:l≠0:=by omega
  cases l with
  |zero=>grind
  |succ l=>
  simp only[execOp,h,resolve,invoke,builtin,kD,nt,jE,YX,rA,TA,Builtin.clear_,IK,IJ,fw aJ,s,og Z bx,qX,fb]
 |copy x y t u e i b d l c L F h aJ Z U T aZ bB aR=>
  left;have A:=X x (by grind [dm,lh]);rw[U] at A;have ie:=X y (by grind [dm,lh]);obtain ⟨hlen,axl,U4,bF⟩:=V7 B.ot ie aZ;have Vm:rB (ja (S y)) l<=ja (S y):=Nat.min_le_left _ _;have bF:=bF bB _ Vm w rfl;have R:=U4.take (rB (ja (S y)) l*i.size);obtain ⟨q,_,g,I⟩:=A.slice;have g:j b=J q:=g;obtain ⟨ds,bZ,H,g2,g3,g4,g5,g6⟩:=B.own b q L e g T;have hB:d+(F.take (rB (ja (S y)) l*i.size)).length<=L.length:=by rw[List.length_take];have:rB (ja (S y)) l*i.size<=l*i.size:=oH _ (Nat.min_le_right _ _);omega
  have key:∀(N:Addr) (c3:Nat),O x= .slice (J N) l c3->(N=⟨q.blk,q.db+d,ae⟩\/l=0)->Cf P j m w O o (.int .i64 (rB (ja (S y)) l)) (m.put b (.own (eY L d (F.take (rB (ja (S y)) l*i.size))) e)):=by
   intro N c3 s aM;rcases aM with rfl|aM
   ·have fb:=wX (P:=P) q.blk (q.db+d) e bZ _ 0 ds w H g2 (by grind) (bP.one R);simp only[pS] at fb;refine ⟨.value _, .int .i64 (rB (ja (S y)) l),_,j, ?_, .inl rfl,B.write g T H (zt ds _ _) (by grind [mB]) (BT g6 R hB (by omega)),rfl⟩;simp only[execOp,h,resolve,invoke,builtin,kD,nt,jE,YX,rA,TA,Builtin.copy_,IK,IJ,qH,fw aJ,s,hlen,jb Z,bF,fb,goInt]
   ·subst aM;have bR:rB (ja (S y)) 0=0:=Nat.min_zero _;simp only[bR,Nat.zero_mul,List.take_zero,eY] at bF hB⊢;have hw:=B.write (L':=L) g T H (cs':=ds) rfl g5 g6;rw[Kt H] at hw;refine ⟨.value _, .int .i64 (0:Nat),w,j, ?_, .inl rfl,hw,rfl⟩;have am1:rB (ja (S y)) 0=0:=Nat.min_zero _;simp only[execOp,h,resolve,invoke,builtin,kD,nt,jE,YX,rA,TA,Builtin.copy_,IK,IJ,qH,fw aJ,s,hlen,jb Z,am1,bF,goInt,storeCells]
  rcases I with ⟨_,s⟩|⟨_,_,_,_,_,_,s⟩|⟨_,hV,o',s⟩|⟨_,hV,N,s⟩|⟨_,_,_,_,_,_,_,_,_,s⟩
  ·grind
  ·grind
  ·grind
  ·grind
  grind
 |mapUpdate hZ x jW j3 u bG bA b L eo vc E E' ho h jk hu U jj bp nC K yP uV yQ bF hk bs rZ J1 tg wA hb=>
  left;have Vl:∀y∈([x,jW,j3]:List bS),y∈o.op.operands:=by
   grind [dm]
  have A:=X x (Vl x (by simp));rw[U] at A;obtain ⟨q,g,Y⟩:∃q,j b=J q/\O x= .map (J q.blk):=A;have aaB:=W3 bF (X jW (Vl jW (by simp)));have iF:=de.storable (X j3 (Vl j3 (by simp))) rZ;have aaW:=B.obj b q g;rw[jj] at aaW;obtain ⟨lv,lA,F,M,awZ,H,g2,g3,g4,g5⟩:=aaW;have yR:lv=bG/\lA=bA:=by grind
  obtain ⟨rfl,rfl⟩:=yR;have:=qG.Yb nC bp g3;subst this;have pw:=K.find (S jW) F.toList w hk (Wl g4 bs);have my:=K.check ak (S jW) w hk;have aaR:qG (P.cellsOf lv) (P.cellsOf lA) (E'.flatMap λp=>p.1++p.2) E':=by
   refine ⟨rfl, ?_⟩;have:=bp.len;clear bp g3 g4 bs;induction hb with
   |qZ=>grind
   |rS p E h=>
    grind
   |next p E E' h Bb a1=>
    intro r aV;rcases ha.1 aV with rfl|aV
    ·grind
    ·exact a1 (λr aV=>this r (by grind)) r aV
  have key:=hb.find (j:=j) (bz:=O j3) (clock:=M) yQ (by grind) 0 g4;rw[<-yP] at key;have fin:∀(V:Array MapEntry) (Jk:Nat),bP (ub P j lv lA) E' V.toList->zy V Jk->(execOp O o).run P w= .ok .skip (sn w q.blk (.map V Jk))->
    Cf P j m w O o undef (m.put b (.map (E'.flatMap λp=>p.1++p.2) u)):=by
   intro V Jk lM fb kv;refine ⟨.skip,undef,_,j,kv, .inr ⟨rfl,rfl⟩,B.pF g (by rw[jj];rfl) ⟨lv,lA,V,Jk,E',rfl,hu,aaR,lM,fb⟩ rfl,⟨#[],rfl,fs⟩⟩
  have hex:∀w',(YP hZ (O x) (O jW) (O j3)).run P w= .ok () w'->(execOp O o).run P w= .ok .skip w':=by intro w' tj;rcases h with h|h<;>simp[execOp,h,tj]
  rcases key with ⟨i,y,h1,ai,aT,br⟩|⟨h1,ai⟩
  ·refine fin (F.modify i λe=>{e with key:=S jW,val:=O j3}) M ?_ (aqb g5 i _ λ_=>rfl) (hex _ ?_)
   ·grind
   ·have fb:=K.stays (S jW) w hk;rw[h1] at pw;have uU:F[i]? =J y:=by grind
    simp[YP,fw jk,Y,zD H,aaB,my,pw,uU,aT,fb,aee _ H,sn]
  ·refine fin (F.push {key:=S jW,val:=O j3,born:=M}) (M+1) ?_ (aqj g5 _ rfl) (hex _ ?_)
   ·grind
   ·rw[h1] at pw;simp[YP,fw jk,Y,zD H,aaB,my,pw,aee _ H,sn]
end
section
def aqN {n d:Nat} (h:n<=d) {v:af} (b:r4 n v):r4 d v:=by
 unfold r4 at b⊢;split at b
 ·rename_i a;cases a with
  |none=>exact b
  |some a=>exact hS b h
 grind
def aqM {n:Nat} {v:af} (a:r4 n v):h7 n v:=by
 unfold r4 at a;split at a
 ·exact a
 grind
theorem tw {n d:Nat} (h:n<=d) {v:af} (b:h7 n v):h7 d v:=by
 cases v with
 |func fn f g=>exact ⟨b.1,λv e=>aqN h (b.2 v e)⟩
 |pointer a=>cases a with
  |none=>exact b
  |some a=>exact hS b h
 |slice a l c=>cases a with
  |none=>exact b
  |some a=>exact hS b h
 |map r=>cases r with
  |none=>exact b
  |some r=>exact hS b h
 |_=>exact b
theorem KE {n a:Nat} (h:n<=a) {v:af} (b:iv n v):iv a v:=by
 cases v with
 |agg e=>exact λv d=>tw h (b v d)
 |_=>grind [iv,tw]
theorem WO {n f:Nat} (h:n<=f) {v:af} (e:low n v):low f v:=by
 cases v with
 |chan _=>trivial
 |tuple g=>exact λv d=>KE h (e v d)
 |func _ a b=>exact ⟨λv d=>KE h (e.1 v d),λv d=>KE h (e.2 v d)⟩
 |_=>grind [low,KE]
def acA {n d:Nat} (h:n<=d) {x:bW} (a:qe n x):qe d x:=by
 cases x with
 |dead=>exact a
 |ro f=>exact λi v e=>tw h (a i v e)
 |own L t=>exact λv b=>tw h (a v b)
 |map L t=>exact λv b=>tw h (a v b)
 |lock _ _ _ _=>trivial
theorem zq {n:Nat} {v:af} (h:dy v=aa):h7 n v:=by
 cases v with
 |pointer a=>cases a with
  |none=>exact fs
  |some a=>grind [dy]
 |slice a l c=>cases a with
  |none=>exact fs
  |some a=>grind [dy]
 |map r=>cases r with
  |none=>exact fs
  |some r=>grind [dy]
 |chan _=>grind [dy]
 |func _ _ _=>simp only[dy,fx,Yt] at h;obtain ⟨rfl,rfl⟩:=h;exact ⟨rfl,λv b=>absurd b (by simp)⟩
 |iface _ _=>grind [dy]
 |agg _=>grind [dy]
 |tuple _=>grind [dy]
 |_=>exact fs
theorem Wv {n:Nat} {v:af} (h:kz v=aa):iv n v:=by
 cases v with
 |agg b=>simp only[kz,iA] at h;exact λv a=>zq (h v a)
 |_=>simp only[iv];exact zq h
theorem WJ {n:Nat} {v:af} (h:flat v=aa):low n v:=by
 cases v with
 |tuple b=>simp only[flat,iA] at h;exact λv a=>Wv (h v a)
 |func _ _ _=>simp only[flat,kz,dy,fx,Yt] at h;obtain ⟨rfl,rfl⟩:=h;exact ⟨λv a=>absurd a (by simp),λv a=>absurd a (by simp)⟩
 |chan _=>trivial
 |_=>simp only[low];exact Wv h
def KQ {n:Nat} {v:af} (h:h7 n v):iv n v:=by
 cases v<;>first|exact h|exact h.elim
theorem B7 {n:Nat} {v:af} (h:iv n v):low n v:=by
 cases v with
 |func fn b d=>exact ⟨λv a=>by rw[h.1] at a;grind,λv a=>KQ (aqM (h.2 v a))⟩
 |tuple _=>exact h.elim
 |chan _=>trivial
 |_=>exact h
theorem K6 {n:Nat} {v:af} (h:h7 n v):low n v:=B7 (KQ h)
theorem wY {n:Nat} {v:af} (h:low n v) (a:storable v=aa):iv n v:=by
 cases v with
 |tuple _=>grind [storable]
 |chan _=>grind [storable]
 |func fn f g=>
  simp only[storable,fx,Yt,iA] at a;refine ⟨a.1,λv d=> ?_⟩;have e:=h.2 v d;have b:=a.2 v d;unfold xr at b;split at b
  ·exact e
  grind
 |_=>exact h
def Kr {n:Nat} {v:af} (h:iv n v):∀c∈v.cells.toList,h7 n c:=by
 cases v with
 |agg b=>exact h
 |_=>intro c a;simp only[af.cells,IM] at a;subst a;exact h
def r9:∀(a L:List af) (o:Nat) (v:af),v∈eY L o a->v∈L\/v∈a
 |[],L,o,v,h=> .inl h
 |u::a,L,o,v,h=>by
  rcases r9 a (L.set o u) (o+1) v h with h|h
  ·grind
  grind
theorem KB {n:Nat} {a:Nat->Option (Nat×Nat)}:∀(d:List (Nat×af)) (L b:List af),(∀p∈d,low n p.2)->(∀v∈L,h7 n v)->k5 a L d=J b->∀v∈b,h7 n v
 |[],L,b,_,k,h=>by grind [k5]
 |(i,v)::d,L,b,f,k,h=>by
  simp only[k5] at h;cases j:a i with
  |none=>grind
  |some q=>
   simp only[j] at h;split at h
   ·rename_i g;refine KB d _ b (λp l=>f p (by grind)) ?_ h;intro u e;rcases r9 _ _ _ _ e with e|e
    ·grind
    ·exact Kr (wY (f (i,v) (by simp)) g.1) u e
   grind
theorem WL {m:Mem} (d:WF m) {b o:Nat} {v:af} (h:m.load b o=J v):h7 m.next v:=by
 have:=d.low b;unfold Mem.load at h;cases a:m.blk b with
 |dead=>grind
 |ro e=>simp only[a] at h;rw[a] at this;exact this o v h
 |own L t=>simp only[a] at h;rw[a] at this;exact this v (mM h)
 |map L t=>grind
 |lock _ _ _ _=>grind
theorem KX {m:Mem} (g:WF m) {b:Nat}:∀(n o:Nat) (a:List af),kd m b o n=J a->∀v∈a,h7 m.next v
 |0,o,a,h=>by grind [kd]
 |n+1,o,a,h=>by
  simp only[kd] at h;cases f:m.load b o with
  |none=>grind
  |some u=>
   cases e:kd m b (o+1) n with
   |none=>grind
   |some l=>
    simp only[f,e,kB.injEq] at h;subst h;intro v d;rcases ha.1 d with rfl|d
    ·grind [WL]
    ·exact KX g n (o+1) l e v d
theorem tu {n:Nat} {L:List af} (h:L.all dy=aa):∀v∈L,h7 n v:=by
 grind [zq]
theorem ars {P:bI} {K:bS->af} {o:Oper} {v:af} {n:Nat} (h:dD P K o v) (r:∀x∈o.op.operands,low n (K x)):low n v:=by
 cases h with
 |flat v N h A aV=>grind [WJ]
 |move x h=>grind [dm]
 |pick c a b t h E=>
  grind [dm]
 |extract x i vs v h j A=>have:=r x (by grind [dm]);rw[j] at this;exact B7 (this v (by grind))
 |field t x i M f d F v h m L O j A=>
  have:=r x (by grind [dm]);rw[j] at this;split at A
  ·obtain ⟨k,hk,hle,rfl⟩:=A;intro u hu;refine this u ?_
   grind [Yv]
  ·exact K6 (this v (by grind))
 |J6 t x y e d i l k n' F h m O X p j B C s=>
  have:=r x (by grind [dm]);rw[j] at this;intro u hu;refine this u ?_
  grind [Yv]
 |J5 t x y e d i l k n' F v h m O X p j B C s A=>have:=r x (by grind [dm]);rw[j] at this;exact K6 (this v (by grind))
 |build t Z M i z F h m p Y dw bb E=>
  grind [KB,dm,tu,low,iv]
 |Jg t Z n e i k z F h m p Y dw he E=>
  grind [KB,dm,tu,low,iv]
 |nilCheck x a h j=>
  grind [dm]
 |fieldAddr t x i M f k b q h m L hk N j=>have:=r x (by grind [dm]);rw[j] at this;exact this
 |indexAddr t x y e i b q l c k n h m p j B C s=>have:=r x (by grind [dm]);rw[j] at this;exact this
 |J4 t x y e i b q l k n h m p j B C s=>have:=r x (by grind [dm]);rw[j] at this;exact this
 |JC t x y e i l g k n h m p N j B C s aR=>exact fs
 |slice t x Q p e i b q l c n R h m I j aw S H s ai aT=>have:=r x (by grind [dm]);rw[j] at this;exact this
 |nc t x Q p e i h m I j S H=>exact fs
 |slice3 t x T p e i b q l c R k' V h m I j E H U s=>have:=r x (by grind [dm]);rw[j] at this;exact this
 |P5 t x Q p T e i b q l c n R k' Kb J9 V h m I j E S H U C s=>exact fs
 |P4 t x T p e i V h m I j H U=>exact fs
 |len x t e a l c h m j=>exact fs
 |Jj x t e h m j=>exact fs
 |A2 neq x y t u e a l c h m j B=>exact fs
 |func fn first w h L=>
  refine ⟨?_, ?_⟩
  ·grind [wY,dm]
  grind [wY,dm]
def aqW {P:bI} {a:bV} {n:Nat} {b:List af} (f:ek P a=ak->P.cellsOf a=1) (d:b.length=P.cellsOf a) (h:∀c∈b,h7 n c):iv n (ey (ek P a) b):=by
 cases e:ek P a with
 |true=>grind [ey,iv]
 |false=>
  have:=f e
  match b,d with
  |[v],_=>exact KQ (h v (by simp))
  |[],d=>grind
  |_::_::_,d=>grind
theorem art {P:bI} {C:bS->af} {o:Oper} {m:Mem} {v:af} (h:fH P C o m v) (hm:WF m) (N:∀x∈o.op.operands,low m.next (C x)):low m.next v:=by
 cases h with
 |load t x b f d v h a r V w=>grind [K6,WL]
 |wc t x g n s h a bB r I=>exact fs
 |wI t x b f d i Z h a r V A w=>grind [low,iv,KX]
 |vx t x Y A e i L b f l c k n dG h r fm a hk n4 eW eN h1 S R=>have:=N x (by grind [dm]);rw[a] at this;exact this
 |slice t x Y A e i L b f l n dG h r fm a n4 eW eN h1 S R=>have:=N x (by grind [dm]);rw[a] at this;exact this
 |str s t x e b f l c Z h U he r a w=>exact fs
 |zQ s t x e l c h U he r a=>exact fs
 |lookup hZ x dx ok u bG T b L E i z v0 t ho h jk hu a nC tf K bF hk I A bx dw B=>
  have bR:iv m.next v0:=by
   have y:(∀p∈E,∀c∈p.2,h7 m.next c)/\∀p∈E,p.2.length=P.cellsOf T:=by
    rcases a with ⟨a,jj,H⟩|⟨a,rfl⟩
    ·have M:=hm.low b;rw[jj] at M;exact ⟨λp F c ay=>M c (by rw[H.eq];grind),λp F=>(H.len p F).2⟩
    grind
   obtain ⟨O,j⟩:=y;clear I a;induction B with
   |qZ=>grind [Wv]
   |rS p E h=>exact aqW tf (j p (by simp)) (O p (by simp))
   |next p E v b h B Q=>exact Q (λq X=>O q (by grind)) (λq X=>j q (by grind))
  cases ok with
  |false=>grind [B7]
  |true=>
   intro v w;simp at w;rcases w with rfl|rfl
   ·grind
   ·exact fs
def atb {P:bI} {j:bS->af} {o:Oper} {n:Nat} {X:bW} {v:af} (h:jC P j o n X v) (B:∀x∈o.op.operands,low n (j x)):low (n+1) v/\qe n X:=by
 cases h with
 |alloc t i z h d q a p=>exact ⟨pT n,tu a⟩
 |box t x i h d g p=>exact ⟨pT n,Kr (wY (B x (by grind [dm])) g)⟩
 |buildSlice t l H e i z I h f d q a A O Q m=>
  refine ⟨pT n,KB _ _ _ ?_ (tu (zl a l)) m⟩
  grind [dm]
 |makeSlice t x y l c k L e i z h f d q a A r C N w m=>exact ⟨pT n,tu (zl a c)⟩
 |bytes s t x e i b h p f K d M r w=>exact ⟨pT n,tu (by simp only[List.all_map,iA,YD];intro u _;rfl)⟩
 |makeMap t F E h f=>exact ⟨pT n,λv g=>by grind⟩
def WF.push {m:Mem} (h:WF m) {X:bW} (d:qe (m.next+1) X):WF (m.push X) where
 dead:=λb a=>by simp only[Mem.push] at a⊢;rw[if_neg (by omega)];exact h.dead b (by omega)
 low:=λb=>by
  simp only[Mem.push];split
  ·grind
  ·exact acA (mo _) (h.low b)
def WF.put {m:Mem} (h:WF m) {b:Nat} {x:bW} (d:qe m.next x) (e:b<m.next\/x= .dead):WF (m.put b x) where
 dead:=λc a=>by
  have a:m.next<=c:=a;simp only[Mem.put];split
  ·grind
  ·exact h.dead c a
 low:=λc=>by
  simp only[Mem.put];split
  ·grind
  ·exact h.low c
def WF.lt {m:Mem} (h:WF m) {b:Nat} (d:m.blk b≠ .dead):b<m.next:=by
 rcases mq b m.next with a|a
 ·grind
 ·exact absurd (h.dead b a) d
def pB (C:FuncId->Array af->Mem->af->Mem->Prop):Prop:=∀f b m v d,C f b m v d->WF m->(∀a∈b.toList,low m.next a)->low d.next v/\WF d/\m.next<=d.next
theorem Wu {m:Mem} (g:WF m) {f:Nat} {y:af} {e:List af} (h:kt m f y=J e):∀v∈e,h7 m.next v:=by
 cases y with
 |slice a l c=>
  cases a with
  |none=>grind [kt]
  |some a=>
   obtain ⟨b,i,d⟩:=a;cases d with
   |none=>exact KX g _ _ _ h
   |some _=>grind [kt]
 |string s=>
  simp only[kt] at h;split at h
  ·simp only[kB.injEq] at h;subst h;exact tu (by simp only[List.all_map,iA,YD];intro u _;rfl)
  grind
 |_=>grind [kt]
theorem La {P:bI} {m:Mem} (r:WF m) {u:bV} {i:TypeInfo} {y:af} {n:Nat} {a:List af} (h:sA P m u i y n a):∀v∈a,h7 m.next v:=by
 cases h with
 |el b d q=>grind [Wu]
 |mk kk k z b e g l p j f s t=>
  grind [tu,zl]
def aqq {o:Oper} {i:bS->af} {f:FuncId} {b:Array af} {n:Nat} (h:callee o i f b) (k:∀x∈o.op.operands,low n (i x)):∀a∈b.toList,low n a:=by
 obtain ⟨x,m,p,first,e,h,j,rfl⟩:=h;have g:=k x (by grind [dm,lh]);rw[j] at g;intro a d;simp only[Yu,kU,ye,l2] at d;rcases d with (d|⟨y,l,rfl⟩)|d
 ·exact B7 (g.1 a d)
 ·grind [dm,lh]
 ·exact B7 (g.2 a d)
theorem asi {P:bI} {C:FuncId->Array af->Mem->af->Mem->Prop} {X:bS->af} {o:Oper} {m M:Mem} {v:af} (h:hR P C X o m v M) (g:WF m) (Q:∀x∈o.op.operands,low m.next (X x)) (cW:pB C):low M.next v/\WF M/\m.next<=M.next:=by
 cases h with
 |store t x y b r i L e h s H j R bf S=>
  refine ⟨λu B=>by grind,g.put ?_ (.inl (g.lt (by grind))),e4 _⟩;intro u B;rcases r9 _ _ _ _ B with B|B
  ·have:=g.low b;rw[j] at this;exact this u B
  ·exact Kr (wY (Q y (by grind [dm])) R) u B
 |call f N v M h U0=>exact cW f N m v M U0 g (aqq h Q)
 |vZ x y t u e i a l c h I H s A s7 F=>grind [dm,lh]
 |sP x y t u e i z a l c n ew new h I H Z dw et cN s A aM nF F T aw lN=>
  refine ⟨pT _,g.push ?_,mo _⟩;intro w d;rcases kU.1 d with d|d
  ·exact tw (mo _) (Wu g aM w d)
  ·exact tw (mo _) (La g F w d)
 |yy x y t u e i b r l c k n L new h I H s gN nB A j F T S=>
  refine ⟨?_,g.put ?_ (.inl (g.lt (by grind))),e4 _⟩
  ·have:=Q x (by grind [dm,lh]);rw[s] at this;exact this
  ·intro w d;rcases r9 _ _ _ _ d with d|d
   ·have:=g.low b;rw[j] at this;exact this w d
   grind [La]
 |vY x y t u e i b r l c n L new h I H s gN A j F T S=>
  refine ⟨?_,g.put ?_ (.inl (g.lt (by grind))),e4 _⟩
  ·have:=Q x (by grind [dm,lh]);rw[s] at this;exact this
  ·intro w d;rcases r9 _ _ _ _ d with d|d
   ·have:=g.low b;rw[j] at this;exact this w d
   grind [La]
 |append x y t u e i z b r l n L new h I H Z dw et cN s j yS F T aw lN=>
  have h1:WF (m.put b .dead):=g.put fs (.inr rfl);refine ⟨pT _,h1.push ?_,mo _⟩;intro w d;rcases kU.1 d with d|d
  ·have:=g.low b;rw[j] at this;exact tw (mo _) (this w (List.mem_of_mem_drop (List.mem_of_mem_take d)))
  ·exact tw (mo _) (La g F w d)
 |clear x t e i z b r l c L h I H Z dw et s j hV S=>
  refine ⟨by intro v R;grind,g.put ?_ (.inl (g.lt (by grind))),e4 _⟩;intro w d;rcases r9 _ _ _ _ d with d|d
  ·have:=g.low b;rw[j] at this;exact this w d
  grind [List.mem_flatten,zq]
 |copy x y t u e i b r l c L cs h I H s j F T S=>
  refine ⟨fs,g.put ?_ (.inl (g.lt (by grind))),e4 _⟩;intro w d;rcases r9 _ _ _ _ d with d|d
  ·have:=g.low b;rw[j] at this;exact this w d
  grind [Wu]
 |mapUpdate hZ x jW j3 u bG bA b L eo vc E V ho h jk B s j Y nC K yP uV yQ bF hk bs rZ J1 tg wA hb=>
  refine ⟨λu B=>by grind,g.put ?_ (.inl (g.lt (by grind))),e4 _⟩;have U:=g.low b;rw[j] at U;have qN:∀p∈E,∀c∈p.1++p.2,h7 m.next c:=λp bb c A=>U c (by rw[Y.eq];grind);have ax5:∀c∈eo,h7 m.next c:=tu yQ;have ayu:∀c∈vc,h7 m.next c:=λc A=>by
   refine Kr (wY (Q j3 ?_) rZ) c (wA c A)
   grind [dm]
  have key:∀p∈V,∀c∈p.1++p.2,h7 m.next c:=by
   clear Y bs U;induction hb with
   |qZ=>
    grind
   |rS p E h=>
    intro q O c A
    grind
   |next p E V h Bb a1=>
    intro q O c A;rcases ha.1 O with rfl|O
    ·grind
    ·exact a1 (λq O=>qN q (by grind)) q O c A
  intro v R;obtain ⟨p,bb,A⟩:=List.mem_flatMap.1 R
  grind
def aew {a:Nat->af} {n:Nat} (h:∀t,low n (a t)) {x:bS} (d:nI x=aa):low n (bk a x):=by
 cases x with
 |tmp t=>exact h t
 |const v=>exact WJ d
 |global g=>trivial
 |func f=>exact ⟨λv b=>by grind,λv b=>by grind⟩
theorem Ca {a:Nat->af} {n:Nat} (h:∀t,low n (a t)) {d:Option Tmp} {v:af} (b:low n v):∀t,low n (set a d v t):=by
 intro t;cases d with
 |none=>exact h t
 |some d=>grind [set]
theorem Kz {n:Nat}:low n undef:=λv a=>by grind
def w8 {P:bI} {C:FuncId->Array af->Mem->af->Mem->Prop} {b:Nat->af} {o:Oper} {m a:Mem} {v:af} (h:ln P C (bk b) o m v a) (g:WF m) (f:∀t,low m.next (b t)) (j:pB C) (d:∀x∈o.op.operands,nI x=aa):
  low a.next v/\WF a/\m.next<=a.next:=by
 have i:∀x∈o.op.operands,low m.next (bk b x):=λx e=>aew f (d x e);cases h with
 |pure h=>grind [ars]
 |read h=>grind [art]
 |new h=>have:=atb h i;exact ⟨this.1,g.push (acA (mo _) this.2),mo _⟩
 |fX h=>grind [asi]
end
section
def XJ (P:bI) (C:FuncId->Array af->Mem->af->Mem->Prop) (a:List Oper) (o:Oper) (b:Nat->af) (m:Mem) (v:af) (d:Mem) (k:Nat):Prop:=
 (k=0/\wanted a b o=ak/\v=undef/\d=m)\/
 (k=1/\wanted a b o=aa/\dD P (bk b) o v/\d=m)\/
 (k=2/\wanted a b o=aa/\fH P (bk b) o m v/\d=m)\/
 (k=3/\wanted a b o=aa/\∃X,jC P (bk b) o m.next X v/\d=m.push X)\/
 (k=4/\wanted a b o=aa/\hR P C (bk b) o m v d)
structure ys (P:bI) (C:FuncId->Array af->Mem->af->Mem->Prop) (ops:List Oper) (B:Array Nat) (i:Nat) (l:List Oper) (bY:Nat->Nat->af) (ms:Nat->Mem) (vs:Nat->af) (dA:Nat->Nat):Prop where
 frame:∀n o,l[n]? =J o->bY (i+n+1)=set (bY (i+n)) o.dst (vs (i+n))
 run:∀n o,l[n]? =J o->XJ P C ops o (bY (i+n)) (ms (i+n)) (vs (i+n)) (ms (i+n+1)) (dA (i+n))
 after:∀r e o,l[r]? =J o->dA (i+r)=2->e<l.length->dA (i+e)=4->r<e->gD B (i+e) (i+r)=ak->fH P (bk (bY (i+r))) o (ms (i+e+1)) (vs (i+r))
 news:∀x e,x<l.length->dA (i+x)=3->e<l.length->dA (i+e)=4->x<e->gD B (i+e) (i+x)=ak->(ms (i+e+1)).blk (ms (i+x)).next=(ms (i+e)).blk (ms (i+x)).next
 ahead:∀r e o,l[r]? =J o->dA (i+r)=2->e<l.length->dA (i+e)=4->e<r->gD B (i+r) (i+e)=ak->fH P (bk (bY (i+r))) o (ms (i+e)) (vs (i+r))
def afj {P:bI} {C:FuncId->Array af->Mem->af->Mem->Prop} {s:List Oper} {B:Array Nat}:∀(l:List Oper) (i:Nat) (A:Acc) (t:Nat->af) (m:Mem) (H:Nat->af) (I:Mem),hW P C s B i l A t m H I->
  ∃j f L p,ys P C s B i l j f L p/\j i=t/\f i=m/\j (i+l.length)=H/\f (i+l.length)=I/\
   (∀x∈A.reads,∀e,e<l.length->p (i+e)=4->gD B (i+e) x.1=ak->x.2 (f (i+e+1)))/\
   (∀x∈A.iC,∀r o,l[r]? =J o->p (i+r)=2->gD B (i+r) x.1=ak->fH P (bk (j (i+r))) o x.2 (L (i+r)))/\
   (∀x∈A.news,∀e,e<l.length->p (i+e)=4->gD B (i+e) x.1=ak->(f (i+e+1)).blk x.2=(f (i+e)).blk x.2)
 |[],i,A,t,m,H,I,h=>by simp only[hW] at h;obtain ⟨rfl,rfl⟩:=h;refine ⟨λ_=>H,λ_=>I,λ_=>undef,λ_=>0,⟨?_, ?_, ?_, ?_, ?_⟩,rfl,rfl,rfl,rfl, ?_, ?_, ?_⟩;all_goals grind
 |o::E,i,A,t,m,H,I,h=>by
  have q:∀(v:af) (K:Mem) (k:Nat) (z:Acc),XJ P C s o t m v K k->hW P C s B (i+1) E z (set t o.dst v) K H I->
    (∀x∈A.reads,x∈z.reads)->(∀x∈A.iC,x∈z.iC)->(k=2->(i,λm=>fH P (bk t) o m v)∈z.reads)->(k=4->(i,m)∈z.iC)->
    (k=2->∀x∈A.iC,gD B i x.1=ak->fH P (bk t) o x.2 v)->(k=4->∀x∈A.reads,gD B i x.1=ak->x.2 K)->(∀x∈A.news,x∈z.news)->(k=3->(i,m.next)∈z.news)->(k=4->∀x∈A.news,gD B i x.1=ak->K.blk x.2=m.blk x.2)->
    ∃j f L p,ys P C s B i (o::E) j f L p/\j i=t/\f i=m/\j (i+(o::E).length)=H/\f (i+(o::E).length)=I/\
     (∀x∈A.reads,∀e,e<(o::E).length->p (i+e)=4->gD B (i+e) x.1=ak->x.2 (f (i+e+1)))/\
     (∀x∈A.iC,∀r w,(o::E)[r]? =J w->p (i+r)=2->gD B (i+r) x.1=ak->fH P (bk (j (i+r))) w x.2 (L (i+r)))/\
     (∀x∈A.news,∀e,e<(o::E).length->p (i+e)=4->gD B (i+e) x.1=ak->(f (i+e+1)).blk x.2=(f (i+e)).blk x.2):=by
   intro v K k z kv y axE axC Y anW JV aym axD T ayd;obtain ⟨j,f,L,p,M,h1,ai,aT,br,cK,fJ,jH⟩:=afj E (i+1) z _ _ _ _ y;refine ⟨λn=>if n=i then t else j n,λn=>if n=i then m else f n,λn=>if n=i then v else L n,λn=>if n=i then k else p n,⟨?_, ?_, ?_, ?_, ?_⟩,by simp,by simp, ?_, ?_, ?_, ?_, ?_⟩
   ·intro n w bB;cases n with
    |zero=>
     grind
    |succ n=>
     have g:i+(n+1)=i+1+n:=by omega
     have:=M.frame n w (by grind);rw[g];simp only[show ¬(i+1+n+1=i) by omega,show ¬(i+1+n=i) by omega,if_false,this]
   ·intro n w bB;cases n with
    |zero=>
     grind
    |succ n=>
     have g:i+(n+1)=i+1+n:=by omega
     have:=M.run n w (by grind);rw[g];simp only[show ¬(i+1+n+1=i) by omega,show ¬(i+1+n=i) by omega,if_false]
     grind
   ·intro r e w S d Q b Z a;cases e with
    |zero=>omega
    |succ e=>
     have g:i+(e+1)=i+1+e:=by omega
     rw[g] at b a⊢;simp only[show ¬(i+1+e=i) by omega,if_false] at b;simp only[show ¬(i+1+e+1=i) by omega,if_false];cases r with
     |zero=>simp only[IJ,kB.injEq] at S;subst S;simp only[pS,if_pos] at d a⊢;exact cK _ (Y d) e (by grind) b a
     |succ r=>
      have N:i+(r+1)=i+1+r:=by omega
      rw[N] at d a⊢;simp only[show ¬(i+1+r=i) by omega,if_false] at d⊢;exact M.after r e w (by grind) d (by grind) b (by omega) a
   ·intro x e V d Q b u1 a;cases e with
    |zero=>omega
    |succ e=>
     have g:i+(e+1)=i+1+e:=by omega
     rw[g] at b a⊢;simp only[show ¬(i+1+e=i) by omega,if_false] at b;simp only[show ¬(i+1+e+1=i) by omega,show ¬(i+1+e=i) by omega,if_false];cases x with
     |zero=>simp only[pS,if_pos] at d a⊢;exact jH _ (T d) e (by grind) b a
     |succ x=>
      have N:i+(x+1)=i+1+x:=by omega
      rw[N] at d a⊢;simp only[show ¬(i+1+x=i) by omega,if_false] at d⊢;exact M.news x e (by grind) d (by grind) b (by omega) a
   ·intro r e w S d Q b Z a;cases r with
    |zero=>omega
    |succ r=>
     have N:i+(r+1)=i+1+r:=by omega
     rw[N] at d a⊢;simp only[show ¬(i+1+r=i) by omega,if_false] at d⊢;cases e with
     |zero=>
      grind
     |succ e=>
      have g:i+(e+1)=i+1+e:=by omega
      rw[g] at b a⊢;simp only[show ¬(i+1+e=i) by omega,if_false] at b⊢;exact M.ahead r e w (by grind) d (by grind) b (by omega) a
   ·grind
   ·grind
   ·intro x V e Q b a;cases e with
    |zero=>
     grind
    |succ e=>
     grind
   ·grind
   ·intro x V e Q b a;cases e with
    |zero=>
     grind
    |succ e=>
     have g:i+(e+1)=i+1+e:=by omega
     rw[g] at b a⊢;simp only[show ¬(i+1+e=i) by omega,if_false] at b;simp only[show ¬(i+1+e+1=i) by omega,show ¬(i+1+e=i) by omega,if_false]
     grind
  simp only[hW] at h;split at h
  ·rename_i O;rcases h with ⟨v,F,y⟩|⟨v,F,R,y⟩|⟨X,v,F,y⟩|⟨v,K,F,R,U,y⟩
   ·exact q v m 1 A (.inr (.inl ⟨rfl,O,F,rfl⟩)) y (λ_ h=>h) (λ_ h=>h) (by simp) (by simp) (by simp) (by simp) (λ_ h=>h) (by simp) (by simp)
   ·exact q v m 2 _ (.inr (.inr (.inl ⟨rfl,O,F,rfl⟩))) y (λ_ h=>by grind) (λ_ h=>h) (λ_=>by simp) (by simp) (λ_=>R) (by simp) (λ_ h=>h) (by simp) (by simp)
   ·exact q v _ 3 _ (.inr (.inr (.inr (.inl ⟨rfl,O,X,F,rfl⟩)))) y (λ_ h=>h) (λ_ h=>h) (by simp) (by simp) (by simp) (by simp) (λ_ h=>by grind) (λ_=>by simp) (by simp)
   ·exact q v K 4 _ (.inr (.inr (.inr (.inr ⟨rfl,O,F⟩)))) y (λ_ h=>h) (λ_ h=>by grind) (by simp) (λ_=>by simp) (by simp) (λ_=>R) (λ_ h=>h) (by simp) (λ_=>U)
  ·rename_i O;exact q undef m 0 A (.inl ⟨rfl,by grind,rfl,rfl⟩) h (λ_ h=>h) (λ_ h=>h) (by simp) (by simp) (by simp) (by simp) (λ_ h=>h) (by simp) (by simp)
end
section
def xf (P:bI) (C:FuncId->Array af->Mem->af->Mem->Prop):Prop:=∀f args m v m',C f args m v m'->∀(j:cj) (w:World) (kq:Array af),WF m->Rel P j m w->bP (de j) args.toList kq.toList->
 (∃ fn, P.funcs[f]? = J fn ∧ (fn.name == "runtime.NumGoroutine") = ak ∧ fn.body.isNone = ak) ∧
 Calls P f kq w λe w'=>∃bz c6,e= .returned bz/\Post P j m w c6 m' w'/\de c6 v bz
def Lf {j:cj} {n:Nat} (m:∀b e,j b=J e->b<n) {v d:af}:(eA j v d->h7 n v)/\(fC j v d->iv n v)/\(de j v d->low n v):=by
 have g:∀{R:af->af->Prop} {p:af->Prop},(∀a b,R a b->p a)->∀{l k:List af},bP R l k->∀v∈l,p v:=by
  intro R p q l;induction l with
  |nil=>intro k _ v f;simp at f
  |cons a l w=>
   intro k h v f;cases k with
   |nil=>exact h.elim
   |cons b k=>
    rcases ha.1 f with rfl|f
    ·exact q _ _ h.1
    ·exact w h.2 v f
 have y:∀v d:af,kY j v d->r4 n v:=by
  intro v d h;unfold kY at h;split at h
  ·obtain ⟨e,_,h,_⟩:=h;exact m _ _ h
  ·exact h.elim
 have s:∀{v d:af},eA j v d->h7 n v:=by
  intro v d h;cases v with
  |pointer a=>cases a with
   |none=>exact fs
   |some a=>obtain ⟨e,_,h,_⟩:=h;exact m _ _ h
  |slice a l c=>cases a with
   |none=>exact fs
   |some a=>obtain ⟨e,_,h,_⟩:=h;exact m _ _ h
  |map r=>cases r with
   |none=>exact fs
   |some r=>obtain ⟨e,h,_⟩:=h;exact m _ _ h
  |chan r=>cases r<;>exact h
  |func _ _ _=>obtain ⟨x,t,_,h⟩:=h;exact ⟨x,g (R:=kY j) (p:=r4 n) y h⟩
  |iface _ _=>exact h
  |agg _=>exact h
  |tuple _=>exact h
  |_=>exact fs
 have i:∀{v d:af},fC j v d->iv n v:=by
  intro v d h;cases v with
  |agg z=>obtain ⟨t,_,h⟩:=h;exact g (R:=eA j) (p:=h7 n) (λa b=>s) h
  |_=>simp only[fC] at h;simp only[iv];exact s h
 refine ⟨s,i, ?_⟩;intro h;cases v with
 |tuple z=>obtain ⟨t,_,h⟩:=h;exact g (R:=fC j) (p:=iv n) (λa b=>i) h
 |chan _=>trivial
 |func fn a b=>obtain ⟨B,t,_,h,A⟩:=h;exact ⟨g (R:=fC j) (p:=iv n) (λa b=>i) h,g (R:=fC j) (p:=iv n) (λa b=>i) A⟩
 |_=>simp only[de] at h;simp only[low];exact i h
def cj.below (j:cj) (n:Nat):cj:=λb=>if b<n then j b else ae
def q3 {j:cj} {n b:Nat} {e:kl} (h:j.below n b=J e):b<n/\j b=J e:=by
 grind [cj.below]
def KI {j:cj} {n b:Nat} {e:kl} (h:b<n) (a:j b=J e):j.below n b=J e:=by grind [cj.below]
def zj {j:cj} {n:Nat} {v d:af}:(eA j v d->h7 n v->eA (j.below n) v d)/\(fC j v d->iv n v->fC (j.below n) v d)/\(de j v d->low n v->de (j.below n) v d):=by
 have t:∀{R S:af->af->Prop} {p:af->Prop},(∀a b,R a b->p a->S a b)->∀{l k:List af},bP R l k->(∀v∈l,p v)->bP S l k:=by
  intro R S p w l;induction l with
  |nil=>intro k h _;cases k with|nil=>exact fs|cons _ _=>exact h.elim
  |cons a l z=>
   intro k h y;cases k with
   |nil=>exact h.elim
   |cons b k=>exact ⟨w _ _ h.1 (y a (by simp)),z h.2 λv A=>y v (by simp[A])⟩
 have B:∀v d:af,kY j v d->r4 n v->kY (j.below n) v d:=by
  intro v d h f;unfold kY at h⊢;split at h
  ·obtain ⟨e,g,m,i⟩:=h;exact ⟨e,g,KI f m,i⟩
  ·exact h.elim
 have x:∀{v d:af},eA j v d->h7 n v->eA (j.below n) v d:=by
  intro v d h f;cases v with
  |func _ _ _=>obtain ⟨q,s,F,h⟩:=h;exact ⟨q,s,F,t (R:=kY j) (S:=kY (j.below n)) (p:=r4 n) B h f.2⟩
  |pointer a=>cases a with
   |none=>exact h
   |some a=>obtain ⟨e,g,m,i⟩:=h;exact ⟨e,g,KI f m,i⟩
  |slice a l c=>cases a with
   |none=>exact h
   |some a=>obtain ⟨e,g,m,i⟩:=h;exact ⟨e,g,KI f m,i⟩
  |map r=>cases r with
   |none=>exact h
   |some r=>obtain ⟨e,m,i⟩:=h;exact ⟨e,KI f m,i⟩
  |_=>exact h
 have g:∀{v d:af},fC j v d->iv n v->fC (j.below n) v d:=by
  intro v d h f;cases v with
  |agg C=>obtain ⟨s,q,h⟩:=h;exact ⟨s,q,t (R:=eA j) (S:=eA (j.below n)) (p:=h7 n) (λa b=>x) h f⟩
  |_=>simp only[fC] at h⊢;simp only[iv] at f;exact x h f
 refine ⟨x,g, ?_⟩;intro h f;cases v with
 |tuple C=>obtain ⟨s,q,h⟩:=h;exact ⟨s,q,t (R:=fC j) (S:=fC (j.below n)) (p:=iv n) (λa b=>g) h f⟩
 |chan r=>cases r<;>exact h
 |func fn a b=>obtain ⟨H,s,q,h,E⟩:=h;exact ⟨H,s,q,t (R:=fC j) (S:=fC (j.below n)) (p:=iv n) (λa b=>g) h f.1,t (R:=fC j) (S:=fC (j.below n)) (p:=iv n) (λa b=>g) E f.2⟩
 |_=>simp only[de] at h⊢;simp only[low] at f;exact g h f
def bP.mapA {a b d:Type} {R:b->d->Prop} (f:a->b) (g:a->d) (A:Array a) (h:∀x∈A.toList,R (f x) (g x)):bP R (A.map f).toList (A.map g).toList:=by
 grind [ye,bP.map]
theorem ab0 {P : bI} {f : FuncId} {fn : Func} {args : Array af} {w : World} (bF : P.funcs[f]? = J fn) (aof : (fn.name == "runtime.NumGoroutine") = ak) (UX : fn.body.isNone = ak) : (callFunc f args).run P w = .ok (.enter f args) w := by
 grind [callFunc,kD,run_program,jE,nt]
theorem aeu {P:bI} {C:FuncId->Array af->Mem->af->Mem->Prop} {j:cj} {k:bS->af} {o:Oper} {m F:Mem} {w:World} {v:af} {a:Act} (h:hR P C k o m v F) (p:h3 j k a.eval o) (z:Rel P j m w) (S:WF m) (U:xf P C)
  {K:Act->World->Prop} {Q:Exit->Act->World->Prop} (E:∀g e d,Post P j m w d F e->de d v g->K (a.put o.dst g) e):o.wp P a w K Q:=by
 rcases aqQ h p z with ⟨n,g,e,d,H,O,s,q⟩|⟨f,r,N,R⟩
 ·unfold sM;rw[H];rcases O with rfl|⟨rfl,rfl⟩
  ·exact E g e d s q
  ·exact E undef e d s q
 ·obtain ⟨x,l,ts,first,b,rW,L,rfl⟩:=N;have t:=p x (by grind [dm,lh]);rw[L] at t;obtain ⟨B,A,eM,T,I⟩:=t;have X:bP (de j) (first++l.map k++b).toList (B++l.map a.eval++A).toList:=by
   simp only[Yu];refine bP.append (bP.append (T.mono λ_ _=>de.wN) (bP.mapA _ _ _ λy Z=> ?_)) (I.mono λ_ _=>de.wN);exact p y (by grind [dm,lh])
  obtain ⟨⟨fn,bF,M,Y⟩,i⟩:=U _ _ _ _ _ R j w _ S z X;have V:(execOp a.eval o).run P w= .ok (.enter f (B++l.map a.eval++A)) w:=by
   grind [execOp,resolve,Deferred.ofValue,invoke,ab0]
  unfold sM;rw[V,Oper.upon_enter];refine i.mono ?_
  grind
end
section
def aq1 {a:Array Oper} (h:vj a=aa) {i:Nat} {o:Oper} (b:a[i]? =J o) {e:Edge} (f:e∈o.after) (d:rC .any e=aa):e.on<i:=by
 grind [vj]
def V8 {a:Array Oper} (h:vj a=aa) {i x:Nat} {o y:Oper} (b:a[i]? =J o) (d:a[x]? =J y) (e:x<i) (f:sR a y o=aa):gD (kp a) i x=aa:=by
 grind [vj]
def Le (b:Array Oper) (S:Nat->Prop):Prop:=∀a o,S a->b[a]? =J o->∀e∈o.after,rC .any e=aa->S e.on
def tI (a:Array Nat) (o:Oper):Array Nat:=a.push (o.after.foldl (λs e=>if rC .any e then s|||2 ^ e.on|||a.getD e.on 0 else s) 0)
def Good (b:Array Oper) (i a:Nat):Prop:=∀x,a.testBit x=aa->∀S,Le b S->(∀o,b[i]? =J o->∀e∈o.after,rC .any e=aa->S e.on)->S x
def acP (a:Array Nat):∀(l:List Edge) (s x:Nat),(l.foldl (λs e=>if rC .any e then s|||2 ^ e.on|||a.getD e.on 0 else s) s).testBit x=aa->
  s.testBit x=aa\/∃e∈l,rC .any e=aa/\(x=e.on\/(a.getD e.on 0).testBit x=aa)
 |[],s,x,h=> .inl h
 |e::l,s,x,h=>by
  simp only[List.foldl_cons] at h;rcases acP a l _ x h with h|⟨g,b,f,d⟩
  ·grind
  grind
def acb {ops:Array Oper}:∀(l b:List Oper) (a:Array Nat),ops.toList=b++l->a.size=b.length->(∀i,i<a.size->Good ops i (a.getD i 0))->
  ∀i,Good ops i ((l.foldl tI a).getD i 0)
 |[],b,a,n,p,q=>by
  intro i;by_cases w:i<a.size
  ·grind
  ·simp only[List.foldl_nil];intro x f
   grind
 |o::l,b,a,n,p,q=>by
  simp only[List.foldl_cons];refine acb l (b++[o]) (tI a o) (by grind) (by grind [tI]) ?_;intro i w;by_cases h:i<a.size
  ·simp_all [tI,Array.getElem_push]
  ·have g:i=a.size:=by grind [tI]
   subst g;have k:ops[a.size]? =J o:=by rw[<-Array.getElem?_toList,n,p];simp
   intro x f S r y;have t:(tI a o).getD a.size 0=o.after.foldl (λs e=>if rC .any e then s|||2 ^ e.on|||a.getD e.on 0 else s) 0:=by simp[tI,Tp]
   rw[t,<-Array.foldl_toList] at f;rcases acP a _ 0 x f with H|⟨e,I,C,m⟩
   ·grind
   ·have j:=y o k e (by grind) C;rcases m with rfl|m
    ·grind
    ·by_cases z:e.on<a.size
     ·exact q e.on z x m S r λF E A d B=>r e.on F j E A d B
     grind
def ab2 {a:Array Oper} {i x:Nat} (h:gD (kp a) i x=aa) {S:Nat->Prop} (f:Le a S) (d:∀o,a[i]? =J o->∀e∈o.after,rC .any e=aa->S e.on):S x:=by
 have b:kp a=a.toList.foldl tI #[]:=by rw[show kp a=a.foldl tI #[] from rfl,<-Array.foldl_toList]
 have:=acb (ops:=a) a.toList [] #[] (by rfl) (by rfl) (by grind) i;rw[<-b] at this;exact this x h S f d
def WX {P:bI} {C:FuncId->Array af->Mem->af->Mem->Prop} {a:List Oper} {B:Array Nat} {l:Nat->Nat->af} {b:Nat->Mem} {m:Nat->af} {z:Nat->Nat} (T:ys P C a B 0 a l b m z)
  (f:pB C) (y:∀o∈a,∀x∈o.op.operands,nI x=aa) (w:WF (b 0)) (q:∀t,low (b 0).next (l 0 t)):∀i,i<=a.length->WF (b i)/\(∀t,low (b i).next (l i t))/\(∀n,n<i->(b n).next<=(b (n+1)).next/\low (b (n+1)).next (m n))
 |0,_=>⟨w,q,λn H=>by omega⟩
 |i+1,F=>by
  obtain ⟨j,h,E⟩:=WX T f y w q i (by omega);have p:a[i]? =J a[i]:=by grind
  have r:=T.run i a[i] p;have s:=T.frame i a[i] p;simp only[lH] at r s;have k:=y a[i] (by simp);have g:low (b (i+1)).next (m i)/\WF (b (i+1))/\(b i).next<=(b (i+1)).next:=by
   rcases r with ⟨_,_,A,e⟩|⟨_,_,d,e⟩|⟨_,_,d,e⟩|⟨_,_,I,d,e⟩|⟨_,_,d⟩
   ·grind [Kz]
   ·rw[e];exact w8 (.pure d) j h f k
   ·rw[e];exact w8 (.read d) j h f k
   ·rw[e];exact w8 (.new d) j h f k
   ·exact w8 (.fX d) j h f k
  refine ⟨g.2.1, ?_, ?_⟩
  ·rw[s]
   grind [Ca,WO]
  grind
def acu {d:Nat->Mem} {i:Nat->af} {k:Nat} (h:∀n,n<k->(d n).next<=(d (n+1)).next/\low (d (n+1)).next (i n)):∀b a,a<=b->b<=k->(d a).next<=(d b).next
 |0,a,g,f=>by grind
 |b+1,a,g,f=>by
  by_cases e:a=b+1
  ·grind
  ·exact jd (acu h b a (by omega) (by omega)) (h b (by omega)).1
def Wj {P:bI} {C:FuncId->Array af->Mem->af->Mem->Prop} {a:List Oper} {B:Array Nat} {b:Nat->Nat->af} {m:Nat->Mem} {j:Nat->af} {l:Nat->Nat} (T:ys P C a B 0 a b m j l) (t:Nat):
  ∀i,i<=a.length->((∃x o,x<i/\a[x]? =J o/\o.dst=J t/\b i t=j x/\∀y p,x<y->y<i->a[y]? =J p->p.dst≠J t)\/
   ((∀x o,x<i->a[x]? =J o->o.dst≠J t)/\b i t=b 0 t))
 |0,_=> .inr ⟨λx o q=>by omega,rfl⟩
 |i+1,r=>by
  have e:a[i]? =J a[i]:=by grind
  have g:=T.frame i a[i] e;simp only[lH] at g;by_cases k:a[i].dst=J t
  ·left;refine ⟨i,a[i],by omega,e,k, ?_,λy p h f=>by omega⟩
   grind [set]
  ·have z:b (i+1) t=b i t:=by
    rw[g];cases A:a[i].dst with
    |none=>rfl
    |some d=>
     grind [set]
   rcases Wj T t i (by omega) with ⟨x,o,h,f,n,s,w⟩|⟨h,f⟩
   ·grind
   grind
def Ku {P:bI} {C:FuncId->Array af->Mem->af->Mem->Prop} {d:List Oper} {B:Array Nat} {E:Nat->Nat->af} {a:Nat->Mem} {M:Nat->af} {f:Nat->Nat} (T:ys P C d B 0 d E a M f) {s:Nat}:
  ∀z,s<=z->z<=d.length->(∀e,s<=e->e<z->f e≠4)->(∀b,b<(a s).next->(a z).blk b=(a s).blk b)/\
   (∀x,s<=x->x<z->f x=3->∀o g,d[x]? =J o->a (x+1)=(a x).push g->(a z).blk (a x).next=g)/\(∀x,s<=x->x<z->(a x).next<=(a z).next/\(f x=3->(a x).next<(a z).next))
 |z,U,S,H=>by
  induction z with
  |zero=>
   have:s=0:=by omega
   subst this;exact ⟨λ_ _=>rfl,λx j i=>by omega,λx j i=>by omega⟩
  |succ z r=>
   by_cases F:s=z+1
   ·subst F;exact ⟨λ_ _=>rfl,λx j i=>by omega,λx j i=>by omega⟩
   ·obtain ⟨j,i,R⟩:=r (by omega) (by omega) (λe N A=>H e N (by omega));have t:d[z]? =J d[z]:=by grind
    have p:=T.run z d[z] t;simp only[lH] at p;have w:(a s).next<=(a z).next:=by
     grind
    have q:a (z+1)=a z->f z≠3->(∀b,b<(a s).next->(a (z+1)).blk b=(a s).blk b)/\(∀x,s<=x->x<z+1->f x=3->∀o g,d[x]? =J o->a (x+1)=(a x).push g->(a (z+1)).blk (a x).next=g)/\(∀x,s<=x->x<z+1->(a x).next<=(a (z+1)).next/\(f x=3->(a x).next<(a (z+1)).next)):=λV h=>⟨λb y=>by grind,
     λx k l K o g L I=>by
      grind,
     λx k l=>by
      grind⟩
    rcases p with ⟨h,_,Q,n⟩|⟨h,_,m,n⟩|⟨h,_,m,n⟩|⟨h,_,g,m,n⟩|⟨h,_,m⟩
    ·grind
    ·grind
    ·grind
    ·refine ⟨λb y=> ?_,λx k l K o O L I=> ?_,λx k l=> ?_⟩
     ·grind [Mem.push]
     ·grind [Mem.push]
     grind [Mem.push]
    grind
end
section
def Rel.place {P:bI} {j:cj} {M:Mem} {w y:World} {a:Nat} {X:bW} {e:kl} {ob:Obj} (h:Rel P j M w) (K:j a=ae) (E:a<M.next) (N:AF P j w y X e ob):
  Rel P (j.up a e) (M.put a X) y:=by
 have r:=cj.P9 (e:=e) K;have k:∀c,c<w.heap.size->y.heap[c]? =w.heap[c]? :=λc Q=>by rw[N.heap,Array.getElem?_push,if_neg (by omega)]
 have O:y.heap.size=w.heap.size+1:=by rw[N.heap];simp
 have L:y.heap[w.heap.size]? =J ob:=by rw[N.heap];simp
 have d:∀b,b≠a->(M.put a X).blk b=M.blk b:=λb E=>by grind [Mem.put]
 have C:(M.put a X).blk a=X:=by simp[Mem.put]
 have n:∀b x,j.up a e b=J x->b≠a->j b=J x:=λb x E R=>by grind [cj.up]
 have H:∀x,j.up a e a=J x->x=e:=λx m=>by grind [cj.up]
 refine ⟨⟨?_, ?_, ?_⟩,h.mE.val.keep λg z=>k g (h.mE.val.lt z),λb x i p z=> ?_⟩
 rotate_right
 ·by_cases f:b=a
  ·subst f;have:=h.mE.val.lt z;rw[H x i,N.blk] at this;omega
  ·rw[d b f] at p;exact h.mE.sep b x (n b x i f) p z
 ·intro b x i;by_cases f:b=a
  ·subst f;have:=H x i;subst this;exact ⟨E,by rw[N.blk];omega⟩
  ·have:=h.lt b x (n b x i f);exact ⟨this.1,by omega⟩
 ·intro b x i;by_cases f:b=a
  ·subst f;have m:=H x i;subst m;rw[C,N.blk,L];exact N.obj.mono r
  ·have t:=n b x i f;rw[d b f,k _ (h.lt b x t).2];exact (h.obj b x t).mono r
 ·intro b l x s B q p I F;by_cases f:b=a
  ·by_cases A:l=a
   ·grind
   ·have m:x=e:=by grind
    have:=(h.lt l s (n l s q A)).2;rw[<-F,m,N.blk] at this;omega
  ·have t:=n b x B f;by_cases A:l=a
   ·have m:s=e:=by grind
    have:=(h.lt b x t).2;rw[F,m,N.blk] at this;omega
   ·rw[d b f] at p;rw[d l A] at I;exact h.inj b l x s t (n l s q A) p I F
def ap6 {P:bI} {j:cj} {n:Nat} {b:bV} {a:List af} {d:af} (h:fC j (ey (ek P b) a) d) (e:∀c∈a,h7 n c):fC (j.below n) (ey (ek P b) a) d:=by
 refine zj.2.1 h ?_;cases f:ek P b with
 |true=>grind [ey,iv]
 |false=>
  cases a with
  |nil=>grind [ey,fC,eA,undef]
  |cons c a=>exact KQ (e c (by simp))
def qI.below {P:bI} {j:cj} {n:Nat} {e:kl} {o:Option Obj} {x:bW} (h:qI P j e o x) (r:qe n x):qI P (j.below n) e o x:=by
 cases x with
 |dead=>trivial
 |ro N=>intro i v l;obtain ⟨f,t,bZ,w,g,k,b⟩:=h i v l;exact ⟨f,t,bZ,w,g,k,zj.1 b (r i v l)⟩
 |own L t=>obtain ⟨f,bZ,g,k,b,a,s,C⟩:=h;refine ⟨f,bZ,g,k,b,a,s,λi v l=> ?_⟩;obtain ⟨w,F,H⟩:=C i v l;exact ⟨w,F,zj.1 H (r v (mM l))⟩
 |lock _ _ _ _=>exact h.elim
 |map L u=>
  obtain ⟨B,A,f,d,E,g,k,b,a,s⟩:=h;have y:∀p∈E,∀c∈p.2,h7 n c:=λp K c I=>r c (by rw[b.eq];grind);refine ⟨B,A,f,d,E,g,k,b, ?_,s⟩;clear g b r s;generalize f.toList=m at a;induction E generalizing m with
  |nil=>cases m with
   |nil=>trivial
   |cons _ _=>exact a.elim
  |cons p E z=>
   cases m with
   |nil=>exact a.elim
   |cons x m=>exact ⟨⟨a.1.1,a.1.2.1,ap6 a.1.2.2 (y p (by simp))⟩,z (λq M=>y q (by grind)) m a.2⟩
def Rel.below {P:bI} {j:cj} {M m:Mem} {w:World} (h:Rel P j M w) (n:WF m) (g:∀b e,j b=J e->b<m.next->M.blk b=m.blk b):Rel P (j.below m.next) m w:=by
 refine ⟨⟨?_, ?_, ?_⟩,h.mE.val,λb e d i=>by obtain ⟨f,a⟩:=q3 d;exact h.mE.sep b e a (by grind)⟩
 ·intro b e d;obtain ⟨f,a⟩:=q3 d;exact ⟨f,(h.lt b e a).2⟩
 ·intro b e d;obtain ⟨f,a⟩:=q3 d;rw[<-g b e a f];exact (h.obj b e a).below (by rw[g b e a f];exact n.low b)
 ·intro b l e k d p i s r;obtain ⟨f,a⟩:=q3 d;obtain ⟨t,q⟩:=q3 p;exact h.inj b l e k a q (by grind) (by grind) r
def cj.join (a:cj) (n:Nat) (j:cj):cj:=λb=>if b<n then a b else j b
def Mem.join (a:Mem) (M:Mem):Mem:={next:=M.next,blk:=λb=>if b<a.next then a.blk b else M.blk b}
def Rel.join {P:bI} {j l:cj} {M m a:Mem} {w H:World} (h:Rel P j M w) (I:∀b e,j b=J e->b<m.next->M.blk b=m.blk b) (p:Post P (j.below m.next) m w l a H)
  (bs:∀b e,j b=J e->b<m.next\/a.next<=b) (JL:a.next<=M.next):
  Rel P (l.join a.next j) (a.join M) H/\(∀b e,j b=J e->l.join a.next j b=J e)/\(∀b e,l b=J e->l.join a.next j b=J e):=by
 have bB:=p.next;have O:∀b e,l b=J e->l.join a.next j b=J e:=λb e f=>by
  have:=(p.rel.lt b e f).1
  grind [cj.join]
 have U:∀b,b<m.next->l b=j b:=λb f=>by rw[p.ext b f];grind [cj.below]
 have N:∀b e,j b=J e->l.join a.next j b=J e:=λb e f=>by
  grind [cj.join]
 have split:∀b e,l.join a.next j b=J e->(b<a.next/\l b=J e)\/(a.next<=b/\j b=J e):=λb e f=>by
  grind [cj.join]
 have t:∀b,b<a.next->(a.join M).blk b=a.blk b:=λb f=>by grind [Mem.join]
 have x:∀b,a.next<=b->(a.join M).blk b=M.blk b:=λb f=>by grind [Mem.join]
 have B:∀b e,j b=J e->a.next<=b->(M.blk b).live=aa->H.heap[e.blk]? =w.heap[e.blk]? :=λb e f K n=>by refine p.gd.block e.blk (h.lt b e f).2 λE C F k Y=> ?_;obtain ⟨i,d⟩:=q3 F;have:=h.inj E b C e d f (by grind) n Y;omega
 refine ⟨⟨⟨?_, ?_, ?_⟩,p.rel.mE.val,λb e f k=> ?_⟩,N,O⟩
 rotate_right
 ·rcases split b e f with ⟨i,d⟩|⟨i,d⟩
  ·rw[t b i] at k;exact p.rel.mE.sep b e d k
  ·rw[x b i] at k;exact h.mE.sep b e d k
 ·intro b e f;rcases split b e f with ⟨i,d⟩|⟨i,d⟩
  ·exact ⟨by grind [Mem.join],(p.rel.lt b e d).2⟩
  ·have:=h.lt b e d;exact ⟨this.1,hS this.2 p.gd.size⟩
 ·intro b e f;rcases split b e f with ⟨i,d⟩|⟨i,d⟩
  ·rw[t b i];exact (p.rel.obj b e d).mono O
  ·rw[x b i];cases n:(M.blk b).live with
   |false=>
    cases f:M.blk b<;>simp[f,bW.live] at n
    trivial
   |true=>rw[B b e d i n];exact (h.obj b e d).mono N
 ·
  have T:∀b g e q,b<a.next->l b=J e->a.next<=g->j g=J q->(M.blk g).live=aa->(((a.blk b).iO=aa)\/((M.blk g).iO=aa/\(a.blk b).live=aa))->e.blk≠q.blk:=by
   intro b g e q i d A r L Q s;rcases mq b m.next with y|K
   ·have z:j b=J e:=by grind
    have S:b=g:=by
     rcases Q with k|⟨Z,n⟩
     ·exact h.inj b g e q z r (by rw[I b e z y];exact p.ew b y k) L s
     ·exact (h.inj g b q e r z Z (by rw[I b e z y];exact p.alive b y n) s.symm).symm
    omega
   ·rcases p.fresh b e d K with bF|⟨E,C,F,wu,R⟩
    ·have:=(h.lt g q r).2;omega
    ·obtain ⟨g1,X⟩:=q3 F;have:=h.inj E g C q X r (by grind) L (by grind);omega
  intro b g e q f V k n s;rcases split b e f with ⟨i,d⟩|⟨i,d⟩<;>rcases split g q V with ⟨A,r⟩|⟨A,r⟩
  ·rw[t b i] at k;rw[t g A] at n;exact p.rel.inj b g e q d r k n s
  ·grind
  ·grind [bW.iO,bW.live]
  ·rw[x b i] at k;rw[x g A] at n;exact h.inj b g e q d r k n s
end
section
structure Ctx (P:bI) (C:FuncId->Array af->Mem->af->Mem->Prop) (ops:Array Oper) (N:Nat) (bY:Nat->Nat->af) (ms:Nat->Mem) (vs:Nat->af) (dA:Nat->Nat) (gj:cj) (ez:World):Prop where
 T:ys P C ops.toList (kp ops) 0 ops.toList bY ms vs dA
 ok:vj ops=aa
 Kl:∀o∈ops.toList,∀x∈o.op.operands,nI x=aa
 dst:∀o∈ops.toList,∀d,o.dst=J d->d<N
 keeps:pB C
 sound:xf P C
 ed:Rel P gj (ms 0) ez
 afx:WF (ms 0)
 h7:∀t,low (ms 0).next (bY 0 t)
structure hK (P:bI) (ops:Array Oper) (ds:List Deferred) (N:Nat) (bY:Nat->Nat->af) (ms:Nat->Mem) (vs:Nat->af) (dA:Nat->Nat) (gj:cj) (ez:World) (listed:Array Bool) (a:Act) (w:World) (s:Nat) (M:Mem) (j:cj):Prop where
 size:listed.size=ops.size
 closed:Le ops (λi=>listed.getD i ak=aa)
 sle:s<=ops.size
 last:s=0\/dA (s - 1)=4
 iC:∀i,i<ops.size->dA i=4->(listed.getD i ak=aa↔i<s)
 rel:Rel P j M w
 AX:M.next=(ms ops.size).next
 agree:∀b,b<(ms s).next->M.blk b=(ms s).blk b
 Jm:∀b e,j b=J e->b<(ms s).next\/∃i,s<=i/\i<ops.size/\listed.getD i ak=aa/\dA i=3/\b=(ms i).next
 xB:∀i,i<ops.size->dA i=3->listed.getD i ak=ak->j (ms i).next=ae
 Jt:∀i,s<=i->i<ops.size->listed.getD i ak=aa->dA i=3->∀iK,ms (i+1)=(ms i).push iK->M.blk (ms i).next=iK
 defers:a.defers=ds
 tmps:a.tmps.size=N
 cur:∀t,(∃i o,ops[i]? =J o/\listed.getD i ak=aa/\o.dst=J t/\(∀x p,i<x->ops[x]? =J p->listed.getD x ak=aa->p.dst≠J t)/\de j (vs i) (a.tmps.getD t undef))\/
  ((∀x p,ops[x]? =J p->listed.getD x ak=aa->p.dst≠J t)/\de j (bY 0 t) (a.tmps.getD t undef))
 gd:sC gj (ms 0) ez w
 ext:∀b,b<(ms 0).next->j b=gj b
 fresh:∀b e,j b=J e->(ms 0).next<=b->ez.heap.size<=e.blk\/∃fz eV,gj fz=J eV/\((ms 0).blk fz).iO=aa/\eV.blk=e.blk
 ew:∀b,b<(ms 0).next->(M.blk b).iO=aa->((ms 0).blk b).iO=aa
 alive:∀b,b<(ms 0).next->(M.blk b).live=aa->((ms 0).blk b).live=aa
section
variable {P:bI} {C:FuncId->Array af->Mem->af->Mem->Prop} {ops:Array Oper} {N:Nat} {bY:Nat->Nat->af} {ms:Nat->Mem} {vs:Nat->af} {dA:Nat->Nat} {gj:cj} {ez:World}
def Ctx.wf (X:Ctx P C ops N bY ms vs dA gj ez):∀i,i<=ops.size->WF (ms i)/\(∀t,low (ms i).next (bY i t)):=λi a=>by
 have:=WX X.T X.keeps X.Kl X.afx X.h7 i (by grind)
 grind
def Ctx.mono (X:Ctx P C ops N bY ms vs dA gj ez):∀a b,a<=b->b<=ops.size->(ms a).next<=(ms b).next:=λa b e d=>by
 have:=WX X.T X.keeps X.Kl X.afx X.h7 ops.size (by simp);exact acu this.2.2 b a e d
def Ctx.run (X:Ctx P C ops N bY ms vs dA gj ez) {i:Nat} {o:Oper} (a:ops[i]? =J o):XJ P C ops.toList o (bY i) (ms i) (vs i) (ms (i+1)) (dA i):=by
 have:=X.T.run i o (by grind)
 grind
def Ctx.new (X:Ctx P C ops N bY ms vs dA gj ez) {i:Nat} (e:i<ops.size) (g:dA i=3):∃o a,ops[i]? =J o/\jC P (bk (bY i)) o (ms i).next a (vs i)/\ms (i+1)=(ms i).push a:=by
 have d:ops[i]? =J ops[i]:=by grind
 rcases X.run d with ⟨b,_⟩|⟨b,_⟩|⟨b,_⟩|⟨_,_,a,f,h⟩|⟨b,_⟩
 ·omega
 ·omega
 ·omega
 ·grind
 grind
def Ctx.BG (X:Ctx P C ops N bY ms vs dA gj ez) {i:Nat} (a:i<ops.size) (b:dA i=3):(ms i).next<(ms (i+1)).next:=by
 obtain ⟨o,e,_,_,d⟩:=X.new a b
 grind [Mem.push]
theorem Wt {g:bS->af} {o:Oper} {m e:Mem} {v:af} (h:hR P C g o m v e):lT o.op=aa:=by
 cases h with
 |call f d v e h l=>obtain ⟨x,n,w,first,a,h,_⟩:=h;grind [lT]
 |mapUpdate q x t s u k j b L p y E i r h=>grind [lT]
 |_=>grind [lT]
 all_goals simp[*,lT]
def Ctx.abc (X:Ctx P C ops N bY ms vs dA gj ez) {i:Nat} {o:Oper} (b:ops[i]? =J o) (e:dA i=4):lT o.op=aa:=by
 rcases X.run b with ⟨a,_⟩|⟨a,_⟩|⟨a,_⟩|⟨a,_⟩|⟨_,_,d⟩
 ·omega
 ·omega
 ·omega
 ·omega
 grind [Wt]
variable {ds:List Deferred} {listed:Array Bool} {a:Act} {w:World} {s:Nat} {M:Mem} {j:cj}
def hK.T2 (X:Ctx P C ops N bY ms vs dA gj ez) (D:hK P ops ds N bY ms vs dA gj ez listed a w s M j) {z:Nat} (q:s<=z) (A:z<=ops.size) (x:∀e,s<=e->e<z->dA e≠4):
  ∀b e,j b=J e->b<(ms z).next->M.blk b=(ms z).blk b:=by
 obtain ⟨r,t,F⟩:=Ku X.T z q (by grind) x;intro b e p B;rcases mq b (ms s).next with h|h
 ·rw[D.agree b h,r b h]
 ·rcases D.Jm b e p with E|⟨i,k,g,n,f,rfl⟩
  ·omega
  ·have d:i<z:=by
    rcases mq i z with h|h
    ·grind
    ·have:=X.mono z i h (by omega);omega
   obtain ⟨o,m,y,_,l⟩:=X.new g f;rw[D.Jt i k g n f m l,t i k d f o m (by grind) l]
def hK.ot (X:Ctx P C ops N bY ms vs dA gj ez) (D:hK P ops ds N bY ms vs dA gj ez listed a w s M j) {z:Nat} (l:s<=z) (h:z<=ops.size) (m:∀e,s<=e->e<z->dA e≠4):uq P j (ms z) w:=by
 have p:=D.T2 X l h m;have g:=(X.wf z h).1;have f:=D.rel.ot;refine ⟨λb e o v d n=> ?_,λb e L t d k=> ?_,λb e L u d k=> ?_,f.mE⟩
 ·have i:b<(ms z).next:=g.lt (by grind [Mem.load]);refine f.load b e o v d ?_
  grind [Mem.load]
 ·have i:b<(ms z).next:=g.lt (by grind);exact f.own b e L t d (by grind)
 ·have i:b<(ms z).next:=g.lt (by grind);exact f.map b e L u d (by grind)
structure nr (ops:Array Oper) (listed:Array Bool) (i:Nat) (o:Oper):Prop where
 at_:ops[i]? =J o
 not:listed.getD i ak=ak
 Z6:∀e∈o.after,rC .any e=aa->listed.getD e.on ak=aa
def nr.gD (D:hK P ops ds N bY ms vs dA gj ez listed a w s M j) {i:Nat} {o:Oper} (R:nr ops listed i o) {x:Nat} (h:aF.gD (kp ops) i x=aa):listed.getD x ak=aa:=
 ab2 h D.closed λd b=>by rw[R.at_] at b;cases b;exact R.Z6
def hK.T3 (D:hK P ops ds N bY ms vs dA gj ez listed a w s M j) {i x:Nat} (b:listed.getD i ak=aa) (h:aF.gD (kp ops) i x=aa):listed.getD x ak=aa:=
 ab2 h D.closed λe d=>D.closed i e b d
def nr.afy (X:Ctx P C ops N bY ms vs dA gj ez) (D:hK P ops ds N bY ms vs dA gj ez listed a w s M j) {i:Nat} {o:Oper} (R:nr ops listed i o) {t:Nat} (e:t∈vh ops o) {x:Nat} {p:Oper} (b:ops[x]? =J p) (f:p.dst=J t):
  (listed.getD x ak=aa↔x<i)\/x=i:=by
 rcases TJ x i with h|h|h
 ·left;refine ⟨λ_=>h,λ_=> ?_⟩;refine R.gD D (V8 X.ok R.at_ b h ?_)
  grind [sR]
 ·grind
 ·left;refine ⟨λd=> ?_,λg=>by omega⟩;have:listed.getD i ak=aa:=D.T3 d (V8 X.ok b R.at_ h (by grind [sR]));rw[R.not] at this
  grind
def hK.slot (X:Ctx P C ops N bY ms vs dA gj ez) (D:hK P ops ds N bY ms vs dA gj ez listed a w s M j) {i:Nat} {o:Oper} (R:nr ops listed i o) {t:Nat} (e:t∈vh ops o):de j (bY i t) (a.tmps.getD t undef):=by
 have E:i<ops.size:=(Ij.1 R.at_).1;have I:=λ{x:Nat} {p:Oper} (k:ops[x]? =J p) (l:p.dst=J t)=>R.afy X D e k l;have L:∀{x:Nat},x=i->listed.getD x ak=aa->False:=λh f=>by subst h;rw[R.not] at f;grind
 rcases Wj X.T t i (by grind) with ⟨x,p,z,g,B,F,H⟩|⟨z,g⟩
 ·have K:ops[x]? =J p:=by grind
  have A:listed.getD x ak=aa:=by
   grind
  rcases D.cur t with ⟨y,q,b,d,m,n,r⟩|⟨b,_⟩
  ·grind [TJ]
  grind
 ·rcases D.cur t with ⟨y,q,b,d,m,n,r⟩|⟨_,d⟩
  ·grind
  grind
def Xw {b:Nat->af} {a:Act} {j:cj} {x:bS} (d:nI x=aa) (h:∀t,x= .tmp t->de j (b t) (a.tmps.getD t undef)):de j (bk b x) (a.eval x):=by
 cases x with
 |tmp t=>exact h t rfl
 |const v=>exact acZ d
 |global g=>show af.pointer _=_;rw[show g*4096 / 4096=g by omega,show g*4096%4096=0 by omega]
 |func f=>exact ⟨#[],#[],rfl,fs,fs⟩
def hK.apL (X:Ctx P C ops N bY ms vs dA gj ez) (D:hK P ops ds N bY ms vs dA gj ez listed a w s M j) {i:Nat} {o:Oper} (R:nr ops listed i o):h3 j (bk (bY i)) a.eval o:=by
 intro x d;have e:o∈ops.toList:=by have:=Array.mem_of_getElem? R.at_;grind
 refine Xw (X.Kl o e x d) λt b=>D.slot X R ?_;subst b;simp only[vh,kU,List.mem_filterMap];exact .inl (.inl ⟨.tmp t,by grind,rfl⟩)
theorem aqI {j:cj} {v a:af} (h:de j v a) (m:∀b,v≠ .bool b):∀b,a≠ .bool b:=by
 intro b i;subst i;cases v with
 |bool n=>grind
 |pointer q=>cases q with
  |none=>cases h
  |some q=>obtain ⟨e,_,_,h⟩:=h;grind
 |slice q l c=>cases q with
  |none=>cases h
  |some q=>obtain ⟨e,_,_,h⟩:=h;grind
 |map r=>cases r with
  |none=>cases h
  |some r=>obtain ⟨e,_,h⟩:=h;grind
 |agg g=>obtain ⟨d,h,_⟩:=h;grind
 |tuple g=>obtain ⟨d,h,_⟩:=h;grind
 |func fn f c=>obtain ⟨d,p,h,_⟩:=h;grind
 |chan r=>cases r with
  |none=>exact h b rfl
  |some k=>cases h
 |iface _ _=>exact h
 |_=>cases h
def acO {e:Array Oper} {N:Nat} {l:Nat->af} {a:Act} {j:cj} {o:Oper} (t:a.tmps.size=N) (x:∀p∈e.toList,∀d,p.dst=J d->d<N) (h:∀g w d,o.guard=J (g,w)->(e[g]?).bind (·.dst)=J d->de j (l d) (a.tmps.getD d undef)):
  qK o (yielded e a.tmps)=wanted e.toList l o:=by
 unfold qK wanted;cases r:o.guard with
 |none=>rfl
 |some k=>
  obtain ⟨g,f⟩:=k;simp only[yielded,Array.getElem?_toList];cases q:(e[g]?).bind (·.dst) with
  |none=>rfl
  |some d=>
   have m:=h g f d r q;have s:d<a.tmps.size:=by
    grind
   have n:a.tmps[d]? =J (a.tmps.getD d undef):=by simp_all
   simp only[Option.bind_some,n];by_cases i:∃b,l d= .bool b
   ·obtain ⟨b,i⟩:=i;rw[i] at m;rw[i,m.bool];rfl
   grind [aqI]
theorem hK.wanted (X:Ctx P C ops N bY ms vs dA gj ez) (D:hK P ops ds N bY ms vs dA gj ez listed a w s M j) {i:Nat} {o:Oper} (R:nr ops listed i o):qK o (yielded ops a.tmps)=aF.wanted ops.toList (bY i) o:=by
 refine acO D.tmps X.dst λg b d f e=>D.slot X R ?_
 grind [vh]
end
end
section
theorem mC {A:Array Bool} {i x:Nat} (d:i<A.size):((A.setIfInBounds i aa).getD x ak=aa)↔(x=i\/A.getD x ak=aa):=by
 simp only[Tp,afN];by_cases a:x<A.size
 ·simp only[a,dite_true];by_cases b:x=i
  ·simp_all
  simp_all [Ne.symm]
 grind
theorem Kw {A:Array Bool} {i x:Nat} (a:i<A.size) (h:(A.setIfInBounds i aa).getD x ak=ak):x≠i/\A.getD x ak=ak:=by
 grind [mC]
def vi {a:Act} {d:Option Tmp} {v:af}:(a.put d v).tmps.size=a.tmps.size/\(a.put d v).defers=a.defers:=by
 cases d<;>simp[qB]
theorem Xe {a:Act} {d t:Nat} {v:af} (e:d<a.tmps.size):(a.put (J d) v).tmps.getD t undef=if t=d then v else a.tmps.getD t undef:=by
 simp only[qB,Tp,afN];by_cases b:t=d
 ·simp_all
 simp_all [Ne.symm]
section
variable {P:bI} {C:FuncId->Array af->Mem->af->Mem->Prop} {ops:Array Oper} {N:Nat} {bY:Nat->Nat->af} {ms:Nat->Mem} {vs:Nat->af} {ds:List Deferred} {dA:Nat->Nat} {gj:cj} {ez:World}
variable {listed:Array Bool} {a:Act} {w:World} {s:Nat} {M:Mem} {j:cj}
def nr.lt {i:Nat} {o:Oper} (R:nr ops listed i o):i<ops.size:=(Ij.1 R.at_).1
def hK.Uc (D:hK P ops ds N bY ms vs dA gj ez listed a w s M j) {i:Nat} {o:Oper} (R:nr ops listed i o):Le ops (λx=>(listed.setIfInBounds i aa).getD x ak=aa):=by
 have g:i<listed.size:=by rw[D.size];exact R.lt
 intro x p b d e h f;refine (mC g).2 (.inr ?_);rcases (mC g).1 b with rfl|b
 ·rw[R.at_] at d;cases d;exact R.Z6 e h f
 ·exact D.closed x p b d e h f
def hK.Uf (X:Ctx P C ops N bY ms vs dA gj ez) (D:hK P ops ds N bY ms vs dA gj ez listed a w s M j) {i:Nat} {o:Oper} (R:nr ops listed i o) {m:cj} (E:∀b e,j b=J e->m b=J e) {l:af} (T:de m (vs i) l):
  ∀t,(∃x p,ops[x]? =J p/\(listed.setIfInBounds i aa).getD x ak=aa/\p.dst=J t/\(∀y q,x<y->ops[y]? =J q->(listed.setIfInBounds i aa).getD y ak=aa->q.dst≠J t)/\de m (vs x) ((a.put o.dst l).tmps.getD t undef))\/
  ((∀x p,ops[x]? =J p->(listed.setIfInBounds i aa).getD x ak=aa->p.dst≠J t)/\de m (bY 0 t) ((a.put o.dst l).tmps.getD t undef)):=by
 have g:i<listed.size:=by rw[D.size];exact R.lt
 have z:o∈ops.toList:=by have:=Array.mem_of_getElem? R.at_;grind
 intro t;by_cases A:o.dst=J t
 ·left;refine ⟨i,o,R.at_,(mC g).2 (.inl rfl),A,λy q H k f S=> ?_, ?_⟩
  ·rcases (mC g).1 f with h|h
   ·omega
   ·have F:t∈vh ops o:=by grind [vh]
    rcases R.afy X D F k S with K|K
    ·grind
    grind
  ·have I:t<a.tmps.size:=by rw[D.tmps];exact X.dst o z t A
   grind [Xe]
 ·have n:(a.put o.dst l).tmps.getD t undef=a.tmps.getD t undef:=by
   cases Q:o.dst with
   |none=>rfl
   |some d=>
    have I:d<a.tmps.size:=by rw[D.tmps];exact X.dst o z d Q
    grind [Xe]
  rw[n];rcases D.cur t with ⟨x,p,B,r,L,U,O⟩|⟨B,r⟩
  ·left;refine ⟨x,p,B,(mC g).2 (.inr r),L,λy q H k f=> ?_,O.mono E⟩;rcases (mC g).1 f with h|h
   ·subst h;rw[R.at_] at k;grind
   grind
  ·right;refine ⟨λy q k f=> ?_,r.mono E⟩;rcases (mC g).1 f with h|h
   ·subst h;rw[R.at_] at k;grind
   grind
def hK.quiet (X:Ctx P C ops N bY ms vs dA gj ez) (D:hK P ops ds N bY ms vs dA gj ez listed a w s M j) {i:Nat} {o:Oper} (R:nr ops listed i o) (t:dA i≠3) (y:dA i≠4) {n:af} (q:de j (vs i) n):
  hK P ops ds N bY ms vs dA gj ez (listed.setIfInBounds i aa) (a.put o.dst n) w s M j:=by
 have f:i<listed.size:=by rw[D.size];exact R.lt
 refine ⟨by simp[D.size],D.Uc R,D.sle,D.last, ?_,D.rel,D.AX,D.agree, ?_, ?_, ?_,by rw[vi.2];exact D.defers,by rw[vi.1];exact D.tmps,D.Uf X R (λ_ _ h=>h) q,D.gd,D.ext,D.fresh,D.ew,D.alive⟩
 ·intro x d g;rw[mC f,<-D.iC x d g]
  grind
 ·intro b e z;rcases D.Jm b e z with h|⟨x,p,l,k,m,A⟩
  ·grind
  grind [mC]
 ·intro x d g r;exact D.xB x d g (Kw f r).2
 ·intro x p l k m;rcases (mC f).1 k with h|h
  ·grind
  ·exact D.Jt x p l h m
def hK.seen (X:Ctx P C ops N bY ms vs dA gj ez) (D:hK P ops ds N bY ms vs dA gj ez listed a w s M j) {i:Nat} {o:Oper} (R:nr ops listed i o) (p:dA i=3) {e:bW} (A:ms (i+1)=(ms i).push e):
  ∀n,i<n->n<=s->(ms n).blk (ms i).next=e:=by
 intro n;induction n with
 |zero=>grind
 |succ n g=>
  intro z r;have x:=D.sle;by_cases E:n=i
  ·grind [Mem.push]
  ·have k:=g (by omega) (by omega);have l:n<ops.size:=by omega
   have h:ops[n]? =J ops[n]:=by grind
   have y:(ms i).next<(ms n).next:=hS (X.BG R.lt p) (X.mono (i+1) n (by omega) (by omega));rcases X.run h with ⟨_,_,_,d⟩|⟨_,_,_,d⟩|⟨_,_,_,d⟩|⟨_,_,q,_,d⟩|⟨f,_,t⟩
   ·grind
   ·grind
   ·grind
   ·grind [Mem.push]
   ·have b:listed.getD n ak=aa:=(D.iC n l f).2 (by omega);have B:gD (kp ops) n i=ak:=by
     cases m:gD (kp ops) n i with
     |false=>rfl
     |true=>have:=D.T3 b m;rw[R.not] at this;grind
    have:=X.T.news i n (by grind) (by grind) (by grind) (by grind) (by omega) (by grind)
    grind
def hK.amQ (X:Ctx P C ops N bY ms vs dA gj ez) (D:hK P ops ds N bY ms vs dA gj ez listed a w s M j) {i:Nat} {o:Oper} (R:nr ops listed i o) (E:dA i=3) {z:bW} (hm:ms (i+1)=(ms i).push z)
  {L:World} {e:kl} {ob:Obj} (m:AF P j w L z e ob) {S:af} (Z:de (j.up (ms i).next e) (vs i) S):
  hK P ops ds N bY ms vs dA gj ez (listed.setIfInBounds i aa) (a.put o.dst S) L s (M.put (ms i).next z) (j.up (ms i).next e):=by
 have A:i<listed.size:=by rw[D.size];exact R.lt
 have q:=D.xB i R.lt E R.not;have K:=cj.P9 (e:=e) q;have cF:=X.BG R.lt E;have V:(ms i).next<M.next:=by rw[D.AX];exact hS cF (X.mono (i+1) ops.size R.lt (e4 _))
 have bR:(ms 0).next<=(ms i).next:=X.mono 0 i (pn _) (lG R.lt);have U:∀b x,j.up (ms i).next e b=J x->b≠(ms i).next->j b=J x:=λb x g gT=>by grind [cj.up]
 have f:∀b,b≠(ms i).next->(M.put (ms i).next z).blk b=M.blk b:=λb g=>by grind [Mem.put]
 have d:∀x,x<ops.size->dA x=3->x≠i->(ms x).next≠(ms i).next:=by
  intro x k n gT he;rcases mq x i with h|h
  ·have:=X.BG k n;have:=X.mono (x+1) i (by omega) (lG R.lt);omega
  ·have:=X.mono (i+1) x (by omega) (lG k);omega
 refine ⟨by simp[D.size],D.Uc R,D.sle,D.last, ?_,D.rel.place q V m,D.AX, ?_, ?_, ?_, ?_,by rw[vi.2];exact D.defers,by rw[vi.1];exact D.tmps,D.Uf X R K Z, ?_, ?_, ?_, ?_, ?_⟩
 ·intro x k n;rw[mC A,<-D.iC x k n]
  grind
 ·intro b g;by_cases l:b=(ms i).next
  ·subst l;have Y:i<s:=by
    rcases mq i s with h|h
    ·grind
    ·have:=X.mono s i h (lG R.lt);omega
   rw[D.seen X R E hm s Y (e4 _)];simp[Mem.put]
  ·rw[f b l];exact D.agree b g
 ·intro b x g;by_cases l:b=(ms i).next
  ·subst l;rcases mq (ms i).next (ms s).next with h|h
   ·grind
   ·right;refine ⟨i, ?_,R.lt,(mC A).2 (.inl rfl),E,rfl⟩;rcases mq i s with T|T
    ·have:=X.mono (i+1) s T D.sle;omega
    grind
  ·rcases D.Jm b x (U b x g l) with h|⟨y,B,r,Q,I,cK⟩
   ·grind
   grind [mC]
 ·intro x k n aR;obtain ⟨B,r⟩:=Kw A aR;have:=d x k n B;simp only[cj.up,this,if_false];exact D.xB x k n r
 ·intro x B r Q I F n4;by_cases O:x=i
  ·subst O;have axJ:F=z:=by
    have bX:(ms (x+1)).blk (ms x).next=F:=by grind [Mem.push]
    grind [Mem.push]
   grind [Mem.put]
  ·rw[f _ (d x r I O)];rcases (mC A).1 Q with h|h
   ·grind
   ·exact D.Jt x B r h I F n4
 ·have t:∀c,c<w.heap.size->L.heap[c]? =w.heap[c]? :=λc H=>by rw[m.heap,Array.getElem?_push,if_neg (by omega)]
  exact ⟨m.os.trans D.gd.os,m.tape.trans D.gd.tape,m.output.trans D.gd.output,by rw[m.heap];simp;have:=D.gd.size;omega,λc H cp=>by
   rw[t c (hS H D.gd.size)];exact D.gd.block c H cp⟩
 ·intro b g;simp only[cj.up,show b≠(ms i).next by omega,if_false];exact D.ext b g
 ·intro b x g hA;by_cases l:b=(ms i).next
  ·subst l;have k:x=e:=by grind [cj.up]
   subst k;exact .inl (by rw[m.blk];exact D.gd.size)
  ·exact D.fresh b x (U b x g l) hA
 ·intro b g p;rw[f b (by omega)] at p;exact D.ew b g p
 ·intro b g p;rw[f b (by omega)] at p;exact D.alive b g p
def hK.fX (X:Ctx P C ops N bY ms vs dA gj ez) (D:hK P ops ds N bY ms vs dA gj ez listed a w s M j) {i:Nat} {o:Oper} (R:nr ops listed i o) (hk:dA i=4):
  s<=i/\(∀e,s<=e->e<i->dA e≠4)/\Rel P (j.below (ms i).next) (ms i) w/\
  ∀{w':World} {n:cj} {U:af},Post P (j.below (ms i).next) (ms i) w n (ms (i+1)) w'->de n (vs i) U->
   hK P ops ds N bY ms vs dA gj ez (listed.setIfInBounds i aa) (a.put o.dst U) w' (i+1) ((ms (i+1)).join M) (n.join (ms (i+1)).next j):=by
 have Q:i<listed.size:=by rw[D.size];exact R.lt
 have r:s<=i:=by
  rcases mq i s with h|h
  ·have:=(D.iC i R.lt hk).2 h;rw[R.not] at this;grind
  grind
 have L:∀e,e<i->dA e=4->listed.getD e ak=aa:=by
  intro e E F;have rR:e<ops.size:=Nat.lt_trans E R.lt;have l:ops[e]? =J ops[e]:=by grind
  refine R.gD D (V8 X.ok R.at_ l E ?_);simp[sR,X.abc l F,X.abc R.at_ hk]
 have A:∀e,s<=e->e<i->dA e≠4:=by intro e B f F;have:=(D.iC e (Nat.lt_trans f R.lt) F).1 (L e f F);omega
 have V:=D.T2 X r (lG R.lt) A;have dV:=(X.wf i (lG R.lt)).1;refine ⟨r,A,D.rel.below dV V, ?_⟩;intro w' n U p aD;have ayb:=p.next;have axT:∀b e,j b=J e->b<(ms i).next\/((ms (i+1)).next<=b/\∃x,i+1<=x/\x<ops.size/\listed.getD x ak=aa/\dA x=3/\b=(ms x).next):=by
  intro b e d;rcases D.Jm b e d with h|⟨x,B,f,I,y,cK⟩
  ·exact .inl (hS h (X.mono s i r (lG R.lt)))
  ·subst cK;rcases TJ x i with h|h|h
   ·exact .inl (hS (X.BG f y) (X.mono (x+1) i h (lG R.lt)))
   ·grind
   ·exact .inr ⟨X.mono (i+1) x h (lG f),x,h,f,I,y,rfl⟩
 have JL:(ms (i+1)).next<=M.next:=by rw[D.AX];exact X.mono (i+1) ops.size R.lt (e4 _)
 obtain ⟨q,hb,K⟩:=D.rel.join V p (λb e d=>by grind) JL;have axz:(ms 0).next<=(ms i).next:=X.mono 0 i (pn _) (lG R.lt);have O:∀b,b<(ms i).next->n b=j b:=λb d=>by rw[p.ext b d];grind [cj.below]
 have axb:∀b e,j b=J e->b<(ms i).next->M.blk b=(ms i).blk b:=V;refine ⟨by simp[D.size],D.Uc R,R.lt, .inr (by grind), ?_,q,D.AX, ?_, ?_, ?_, ?_,by rw[vi.2];exact D.defers,by rw[vi.1];exact D.tmps,D.Uf X R hb (aD.mono K), ?_, ?_, ?_, ?_, ?_⟩
 ·intro x m H;rw[mC Q,D.iC x m H]
  grind
 ·grind [Mem.join]
 ·grind [cj.join,mC]
 ·intro x m H aR;obtain ⟨B,f⟩:=Kw Q aR;have ax4:=D.xB x m H f;rcases mq x i with h|h
  ·have ao7:(ms x).next<(ms i).next:=hS (X.BG m H) (X.mono (x+1) i h (lG R.lt))
   grind [cj.join]
  ·have:(ms (i+1)).next<=(ms x).next:=X.mono (i+1) x (by omega) (lG m)
   grind [cj.join]
 ·intro x B f I y iK hm;have:(ms (i+1)).next<=(ms x).next:=X.mono (i+1) x B (lG f);simp only[Mem.join,show ¬(ms x).next<(ms (i+1)).next by omega,if_false];rcases (mC Q).1 I with h|h
  ·omega
  ·exact D.Jt x (by omega) f h y iK hm
 ·refine ⟨p.gd.os.trans D.gd.os,p.gd.tape.trans D.gd.tape,p.gd.output.trans D.gd.output,jd D.gd.size p.gd.size,λc ay cp=> ?_⟩;rw[p.gd.block c (hS ay D.gd.size) ?_]
  ·exact D.gd.block c ay cp
  ·intro b e d g E;obtain ⟨g1,g2⟩:=q3 d;rcases mq b (ms 0).next with h|h
   ·exact cp b e (by rw[<-D.ext b h];grind) (D.ew b h (by grind)) E
   ·rcases D.fresh b e g2 h with bF|⟨k,Y,cL,c9,Z⟩
    ·omega
    grind
 ·intro b d;simp only[cj.join,show b<(ms (i+1)).next by omega,if_true];rw[O b (by omega)];exact D.ext b d
 ·intro b e d hA;unfold cj.join at d;split at d
  ·rcases mq b (ms i).next with h|h
   ·exact D.fresh b e (by grind) hA
   ·rcases p.fresh b e d h with bF|⟨k,Y,cL,c9,Z⟩
    ·exact .inl (jd D.gd.size bF)
    ·obtain ⟨g1,g2⟩:=q3 cL;rcases mq k (ms 0).next with z|z
     ·exact .inr ⟨k,Y,by rw[<-D.ext k z];grind,D.ew k z (by grind),Z⟩
     ·rw[<-Z];exact D.fresh k Y g2 z
  ·exact D.fresh b e d hA
 ·intro b d g;have pu:b<(ms (i+1)).next:=by omega
  simp only[Mem.join,pu,if_true] at g;have mc:=p.ew b (by omega) g;have S:=(Ku X.T i r (by simpa using lG R.lt) A).1;have t:b<(ms s).next:=hS d (X.mono 0 s (pn _) D.sle);exact D.ew b d (by rw[D.agree b t,<-S b t];grind)
 ·intro b d g;have pu:b<(ms (i+1)).next:=by omega
  simp only[Mem.join,pu,if_true] at g;have mc:=p.alive b (by omega) g;have S:=(Ku X.T i r (by simpa using lG R.lt) A).1;have t:b<(ms s).next:=hS d (X.mono 0 s (pn _) D.sle);exact D.alive b d (by rw[D.agree b t,<-S b t];grind)
end
end
section
section
variable {P:bI} {C:FuncId->Array af->Mem->af->Mem->Prop} {ops:Array Oper} {N:Nat} {bY:Nat->Nat->af} {ms:Nat->Mem} {vs:Nat->af} {ds:List Deferred} {dA:Nat->Nat} {gj:cj} {ez:World}
variable {listed:Array Bool} {a:Act} {w:World} {s:Nat} {M:Mem} {j:cj}
def aq5 {i:Nat} (h:i∈AL .any ops listed):∃o,i<ops.size/\ops[i]? =J o/\listed.getD i aa=ak/\∀e∈o.after,rC .any e=aa->listed.getD e.on ak=aa:=by
 grind [AL,Array.all_eq_true']
theorem abU {A:Array Bool} {i:Nat} (a:i<A.size):A.getD i aa=A.getD i ak:=by grind
def left (n:Nat) (a:Array Bool):Nat:=((mN n).filter λi=> !a.getD i ak).length
def acW {b:Type} {p q:b->Bool}:∀(l:List b) (x:b),x∈l->(∀y,p y=aa->q y=aa)->q x=aa->p x=ak->(l.filter p).length<(l.filter q).length
 |[],x,a,_,_,_=>by grind
 |y::l,x,a,f,e,d=>by
  have h:(l.filter p).length<=(l.filter q).length:=by
   clear a;induction l with
   |nil=>simp
   |cons z l g=>
    grind
  rcases ha.1 a with rfl|a
  ·grind
  ·have g:=acW l x a f e d
   grind
def aqn {n:Nat} (h:left n listed=0):∀i,i<n->listed.getD i ak=aa:=by
 intro i a;cases b:listed.getD i ak with
 |true=>rfl
 |false=>
  have:i∈(mN n).filter λi=> !listed.getD i ak:=aIv.2 ⟨aAc.2 a,by grind⟩;rw[yl h] at this
  grind
def hK.all (X:Ctx P C ops N bY ms vs dA gj ez) (D:hK P ops ds N bY ms vs dA gj ez listed a w s M j) (h:AL .any ops listed=[]):∀i,i<ops.size->listed.getD i ak=aa:=by
 intro i;induction i using Y0 with
 |_ i l=>
  intro g;cases m:listed.getD i ak with
  |true=>rfl
  |false=>
   have b:ops[i]? =J ops[i]:=by grind
   have:i∈AL .any ops listed:=by
    simp only[AL,aIv,aAc,fx,Bool.not_eq_true'];refine ⟨g,by rw[abU (by rw[D.size];grind)];grind, ?_⟩;rw[b];simp only[vU,Option.getD_some,Array.all_eq_true'];intro e k;cases d:rC .any e with
    |false=>rfl
    |true=>
     have f:=aq1 X.ok b k d
     grind
   grind
def hK.end (X:Ctx P C ops N bY ms vs dA gj ez) (D:hK P ops ds N bY ms vs dA gj ez listed a w s M j) (h:∀i,i<ops.size->listed.getD i ak=aa):
  Post P gj (ms 0) ez (j.below (ms ops.size).next) (ms ops.size) w/\(∀t,de (j.below (ms ops.size).next) (bY ops.size t) (a.tmps.getD t undef))/\a.defers=ds/\a.tmps.size=N:=by
 have m:∀e,s<=e->e<ops.size->dA e≠4:=λe n f O=>by have:=(D.iC e f O).1 (h e f);omega
 have F:=D.T2 X D.sle (e4 _) m;obtain ⟨E,B⟩:=X.wf ops.size (e4 _);have z:(ms 0).next<=(ms ops.size).next:=X.mono 0 _ (pn _) (e4 _);have A:=(Ku X.T ops.size D.sle (by simp) m).1;have V:∀b,b<(ms 0).next->(ms ops.size).blk b=M.blk b:=λb d=>by have g:=hS d (X.mono 0 s (pn _) D.sle);rw[A b g,D.agree b g]
 refine ⟨⟨D.rel.below E F,D.gd,z, ?_, ?_, ?_, ?_⟩, ?_,D.defers,D.tmps⟩
 ·intro b d;simp only[cj.below,show b<(ms ops.size).next by omega,if_true];exact D.ext b d
 ·intro b e d L;exact D.fresh b e (q3 d).2 L
 ·intro b d r;exact D.ew b d (by grind)
 ·intro b d r;exact D.alive b d (by grind)
 ·intro t;refine zj.2.2 ?_ (B t);rcases Wj X.T t ops.size (by simp) with ⟨x,p,n,f,Q,R,S⟩|⟨n,f⟩
  ·have U:ops[x]? =J p:=by grind
   rcases D.cur t with ⟨y,q,k,l,H,I,K⟩|⟨k,_⟩
   ·grind [TJ]
   grind
  ·rcases D.cur t with ⟨y,q,k,l,H,I,K⟩|⟨_,l⟩
   ·grind
   grind
def hK.go (X:Ctx P C ops N bY ms vs dA gj ez) {Q:Exit->Act->World->Prop} (iN:∀a w c6,Post P gj (ms 0) ez c6 (ms ops.size) w->(∀t,de c6 (bY ops.size t) (a.tmps.getD t undef))->a.defers=ds->a.tmps.size=N->Q .normal a w):
  ∀(lp:Nat) (listed:Array Bool) (a:Act) (w:World) (s:Nat) (M:Mem) (j:cj),hK P ops ds N bY ms vs dA gj ez listed a w s M j->left ops.size listed<=lp->wpAny P .any ops Q lp listed a w:=by
 intro lp;induction lp with
 |zero=>
  intro listed a w s M j D aR;have oO:=aqn (n:=ops.size) (by omega:left ops.size listed=0);obtain ⟨h1,ai,aT,br⟩:=D.end X oO;refine ⟨?_,iN _ _ _ h1 ai aT br⟩
  grind [AL,List.filter_eq_nil_iff,abU]
 |succ lp a1=>
  intro listed a w s M j D aR;refine ⟨λaV=> ?_,λi az=> ?_⟩
  ·obtain ⟨h1,ai,aT,br⟩:=D.end X (D.all X aV)
   grind
  ·obtain ⟨o,cF,aM,ayf,anG⟩:=aq5 az;have JQ:i<listed.size:=by grind
   have R:nr ops listed i o:=⟨aM,by grind,anG⟩
   have Bk:left ops.size (listed.setIfInBounds i aa)<=lp:=by
    have:left ops.size (listed.setIfInBounds i aa)<left ops.size listed:=by
     refine acW _ i (by grind) (λy aZ=> ?_) (by grind) (by simp_all)
     grind [Kw]
    omega
   have r0:=D.wanted X R;have Bp:=D.apL X R;unfold wpOp;rw[aM];simp only[];rcases X.run aM with ⟨hk,hw,aD,_⟩|⟨hk,hw,bb,_⟩|⟨hk,hw,bb,_⟩|⟨hk,hw,iK,bb,hm⟩|⟨hk,hw,bb⟩
   ·rw[r0,hw,if_neg (by simp)];exact a1 _ _ _ s M j (D.quiet X R (by omega) (by omega) (by rw[aD];exact ⟨#[],rfl,fs⟩)) Bk
   ·rw[r0,hw,if_pos rfl];left;obtain ⟨bz,aV,iF⟩:=Wf bb Bp w;unfold sM;rw[aV];exact a1 _ _ _ s M j (D.quiet X R (by omega) (by omega) iF) Bk
   ·rw[r0,hw,if_pos rfl];left;have aoL:∃z,fH P (bk (bY i)) o (ms z) (vs i)/\uq P j (ms z) w:=by
     rcases mq i s with JM|JM
     ·refine ⟨s, ?_,D.ot X (e4 _) D.sle (λe h1 ai=>by omega)⟩;rcases D.last with bR|an3
      ·omega
      ·have aoO:s - 1+1=s:=by omega
       have tc:=D.sle;have gT:i≠s - 1:=by grind
       have an8:listed.getD (s - 1) ak=aa:=(D.iC (s - 1) (by omega) an3).2 (by omega);have lq:gD (kp ops) (s - 1) i=ak:=by
        cases eL:gD (kp ops) (s - 1) i with
        |false=>rfl
        |true=>
         have:=D.T3 an8 eL
         grind
       have:=X.T.after i (s - 1) o (by grind) (by grind) (by grind) (by grind) (by omega) (by grind)
       grind
     ·by_cases hex:∃e,s<=e/\e<i/\dA e=4
      ·
       have Vm:∃z,s<=z/\z<i/\dA z=4/\∀e,s<=e->e<z->dA e≠4:=by
        obtain ⟨e,h1,ai,aT⟩:=hex;clear r0 Bp;induction e using Y0 with
        |_ e ayw=>
         grind
       obtain ⟨z,h1,ai,aT,br⟩:=Vm;refine ⟨z, ?_,D.ot X h1 (by omega) br⟩;have lq:gD (kp ops) i z=ak:=by
        cases eL:gD (kp ops) i z with
        |false=>rfl
        |true=>have:=(D.iC z (by omega) aT).1 (R.gD D eL);omega
       have:=X.T.ahead i z o (by grind) (by grind) (by grind) (by grind) ai (by grind)
       grind
      ·exact ⟨i,bb,D.ot X JM (lG cF) (λe h1 ai aT=>hex ⟨e,h1,ai,aT⟩)⟩
    obtain ⟨z,e0,eT⟩:=aoL;obtain ⟨bz,aV,iF⟩:=ack e0 Bp eT;unfold sM;rw[aV];exact a1 _ _ _ s M j (D.quiet X R (by omega) (by omega) iF) Bk
   ·rw[r0,hw,if_pos rfl];left;obtain ⟨bz,w',e,ob,aV,bB,iF⟩:=ad9 bb Bp w;unfold sM;rw[aV];exact a1 _ _ _ s _ _ (D.amQ X R hk hm bB (iF _ (by simp[cj.up]))) Bk
   ·rw[r0,hw,if_pos rfl];left;obtain ⟨h1,ai,aT,br⟩:=D.fX X R hk;obtain ⟨anj,am9⟩:=X.wf i (lG cF);have JR:o∈ops.toList:=by grind
    have aou:h3 (j.below (ms i).next) (bk (bY i)) a.eval o:=λx an=>zj.2.2 (Bp x an) (aew am9 (X.Kl o JR x an));exact aeu bb aou aT anj X.sound λbz w' hM wy iF=>a1 _ _ _ _ _ _ (br wy iF) Bk
end
def aqs {P:bI} {C:FuncId->Array af->Mem->af->Mem->Prop} {f:Array Oper} {id:Nat} {K H:Nat->af} {m L:Mem} {j:cj} {a:Act} {z:List Deferred} {w:World} {Q:Exit->Act->World->Prop}
  (n9:P.follows .mixedOrders=aa) (h:hW P C f.toList (kp f) 0 f.toList ⟨[],[],[]⟩ K m H L) (eT:vj f=aa) (V:∀o∈f.toList,∀x∈o.op.operands,nI x=aa) (uR:∀o∈f.toList,∀d,o.dst=J d->d<a.tmps.size)
  (Y:pB C) (k2:xf P C) (Z:Rel P j m w) (dV:WF m) (hU:∀t,de j (K t) (a.tmps.getD t undef)) (S:a.defers=z)
  (iN:∀k s q,Post P j m w q L s->(∀t,de q (H t) (k.tmps.getD t undef))->k.defers=z->k.tmps.size=a.tmps.size->Q .normal k s):(Code.region id f aa).wp P Q a w:=by
 refine wp_region_any n9 ?_;obtain ⟨E,g,M,I,T,h1,B,O,F,_⟩:=afj _ _ _ _ _ _ _ h;simp only[lH,Array.length_toList] at O F;have n:Rel P j (g 0) {w with drawn:=w.drawn+1}:=by grind [arT]
 have r:∀b e,j b=J e->b<(g 0).next:=λb e l=>by rw[B];exact (Z.lt b e l).1
 have X:Ctx P C f a.tmps.size E g M I j {w with drawn:=w.drawn+1}:=⟨T,eT,V,uR,Y,k2,n,by grind,λt=>by rw[h1];exact (Lf r).2.2 (hU t)⟩
 have A:∀i,(nj f.size ak).getD i ak=aa->False:=by simp_all [Tp]
 have D:hK P f z a.tmps.size E g M I j {w with drawn:=w.drawn+1} (nj f.size ak) a {w with drawn:=w.drawn+1} 0 {next:=(g f.size).next,blk:=(g 0).blk} j:=by
  refine ⟨by simp,λi o y=>(A i y).elim,pn _, .inl rfl,λi _ _=>⟨λh=>(A i h).elim,λh=>by omega⟩, ?_,rfl,λb _=>rfl,λb e l=> .inl (r b e l), ?_,λi _ _ h=>(A i h).elim,S,rfl, ?_,sC.refl _ _ _,λ_ _=>rfl, ?_,λ_ _ h=>h,λ_ _ h=>h⟩
  ·refine ⟨⟨λb e l=>⟨hS (r b e l) (X.mono 0 _ (pn _) (e4 _)),(n.lt b e l).2⟩,n.obj,n.inj⟩,n.mE.val,n.mE.sep⟩
  ·intro i y hk aR;cases U:j (g i).next with
   |none=>rfl
   |some e=>have:=r _ e U;have:=X.mono 0 i (pn _) (lG y);omega
  ·grind
  grind
 refine hK.go X (λk s q p aD N R=>iN k s q ?_ (by grind) N R) _ _ _ _ _ _ _ D ?_
 ·rw[B,F] at p;exact ⟨p.rel,⟨p.gd.os,p.gd.tape,p.gd.output,p.gd.size,p.gd.block⟩,p.next,p.ext,p.fresh,p.ew,p.alive⟩
 grind [left]
end
section
def Rel.amZ {P:bI} {j:cj} {m:Mem} {w d:World} (h:Rel P j m w) (p:d.os=w.os) (k:d.tape=w.tape) (i:d.output=w.output) (f:w.heap.size<=d.heap.size) (g:∀c,c<w.heap.size->d.heap[c]? =w.heap[c]?):Post P j m w j m d:=
 .of h ⟨λb e a=>⟨(h.lt b e a).1,hS (h.lt b e a).2 f⟩,λb e a=>by rw[g _ (h.lt b e a).2];exact h.obj b e a,h.inj⟩
  ⟨p,k,i,f,λc l _=>g c l⟩ (e4 _) (λ_ _=>rfl) (λb e a n=>absurd (h.lt b e a).1 (vP.2 n)) (λ_ _ h=>h) (λ_ _ h=>h)
theorem acX {j:cj} {v:af} (h:dy v=aa):eA j v v:=q4 h
def zE (P:bI) (f:FuncId) (j:List af) (l:Nat) (F k:List af) (w:World) (a:Nat):Prop:=
 ∀(b h:Nat) (g:Array af) (t:bV) (bZ:Nat×Nat),w.heap[a]? =J (.cells g t bZ)->(∀(i:Nat) (v:af),F[i]? =J v->g[b+i]? =J v)->(∀i,i<g.size->¬(bZ.1<=i/\i<bZ.2))->
  Calls P f (.slice (J ⟨a,b,ae⟩) l h::j).toArray w λe d=>e= .returned (.tuple #[])/\d.os=w.os/\d.tape=w.tape/\d.output=w.output/\w.heap.size<=d.heap.size/\
   (∀c,c<w.heap.size->c≠a->d.heap[c]? =w.heap[c]?)/\d.heap[a]? =J (.cells (eY g.toList b k).toArray t bZ)
section
variable {P:bI} {f:FuncId} {args:Array af} {m:Mem} {j:cj} {w:World}
def ar9 (a:Option Addr) (c:Nat) (n:List af) (h:∀(p:Option Addr) (b:Nat) (d:List af) (w:World),d.length=n.length->Calls P f (.slice p 0 b::d).toArray w λe s=>e= .returned (.tuple #[])/\s=w):LB P f (.slice a 0 c::n).toArray m (.tuple #[]) m:=by
 refine ⟨e4 _,λi=>⟨by intro x g;grind,i⟩,λj w A i y k=> ?_⟩;obtain ⟨l⟩:=A;cases l with
 |nil=>exact k.elim
 |cons z d=>
 obtain ⟨r,t⟩:=k;have g:∃p b,z= .slice p 0 b:=by
  cases a with
  |none=>exact ⟨_,_,r.nc⟩
  |some a=>
   obtain ⟨q,_,_,B⟩:=r.slice
   grind
 obtain ⟨p,b,rfl⟩:=g;refine (h p b d w t.length.symm).mono ?_;rintro e s ⟨rfl,rfl⟩;exact ⟨_,j,rfl,Post.refl y,#[],rfl,fs⟩
def ar' (b a l c:Nat) (L:List af) (e:bV) (F g Q:List af) (h:∀(j:cj) (w:World) (z:List af) (q:kl),WF m->Rel P j m w->bP (de j) Q z->j b=J q->zE P f z l F g w q.blk) (aR:0<l) (B:m.blk b= .own L e)
  (U:(L.drop a).take F.length=F) (bB:a+F.length<=L.length) (p7:g.length=F.length) (V:F.all dy=aa) (f2:g.all dy=aa):LB P f (.slice (J ⟨b,a,ae⟩) l c::Q).toArray m (.tuple #[]) (m.put b (.own (eY L a g) e)):=by
 refine ⟨e4 _,λp=>⟨by intro x E;grind,λc d=> ?_,λc=> ?_⟩,λj w kq p y N=> ?_⟩
 ·have d:m.next<=c:=d;simp only[Mem.put];split
  ·rename_i gN;subst gN;have:=p.dead c d
   grind
  ·exact p.dead c d
 ·simp only[Mem.put];split
  ·intro v s;rcases r9 _ _ _ _ s with s|s
   ·have:=p.low b;rw[B] at this;exact this v s
   grind [zq]
  ·exact p.low c
 obtain ⟨T⟩:=kq;cases T with
 |nil=>exact N.elim
 |cons rJ z=>
 obtain ⟨h1,S⟩:=N;obtain ⟨q,_,n,d⟩:=h1.slice;have E:∃k,rJ= .slice (J ⟨q.blk,q.db+a,ae⟩) l k:=by
  rcases d with ⟨_,d⟩|⟨_,_,_,_,_,_,d⟩|⟨_,hV,_⟩|⟨_,hV,_⟩|⟨_,_,_,_,_,_,_,_,_,d⟩
  ·grind
  ·grind
  ·omega
  ·omega
  grind
 obtain ⟨k,rfl⟩:=E;have n:j b=J q:=n;obtain ⟨r,bZ,O,Y,g3,g4,g5,Z⟩:=y.own b q L e n B;have A:∀(i:Nat) (v:af),F[i]? =J v->r[q.db+a+i]? =J v:=by
  intro i v t;have K:=(fq.1 t).1;have C:=t;rw[<-U,List.getElem?_take,if_pos K,List.getElem?_drop] at C;obtain ⟨bz,M,I⟩:=Z _ v C;have yO:dy v=aa:=iA.1 V v (mM t)
  grind [B0]
 refine (h j w z q p y S n (q.db+a) k r e bZ O A Y).mono ?_;rintro ex w' ⟨rfl,M,I,X,k4,wH,BC⟩;have K:=(y.lt b q n).2;have R:(eY r.toList (q.db+a) g).length=r.size:=by grind [mB]
 have yS:(eY L a g).length=L.length:=mB _ _ _;have H:=y.write (L':=eY L a g) (cs':=(eY r.toList (q.db+a) g).toArray) n B O (by grind) (by grind) (λi v t=>by
  grind [o5,acX])
 refine ⟨_,j,rfl,H.trans (H.rel.amZ M I X (by grind [lz]) λc d=> ?_),#[],rfl,fs⟩
 grind [Wg,Wo]
end
end
section
variable {ds:List Deferred}
def lj.put {j f:cj} {N:Nat} {i:Nat->af} {a:Act} {d:Option Tmp} {v g:af} (h:lj ds j N i a) (k:∀b e,j b=J e->f b=J e) (n:∀t,d=J t->t<N) (m:de f v g):lj ds f N (set i d v) (a.put d g):=by
 refine ⟨λt=> ?_,by rw[vi.2];exact h.defers,by rw[vi.1];exact h.size⟩;cases d with
 |none=>exact (h.val t).mono k
 |some x=>
  have l:x<a.tmps.size:=by rw[h.size];grind
  rw[Xe l];simp only[set];split
  ·grind
  ·exact (h.val t).mono k
def lj.ops {j:cj} {N:Nat} {b:Nat->af} {a:Act} (h:lj ds j N b a) {o:Oper} (d:∀x∈o.op.operands,nI x=aa):h3 j (bk b) a.eval o:=
 λx e=>Xw (d x e) λt _=>h.val t
def adw (j:cj):de j undef undef:=⟨#[],rfl,fs⟩
def Wq {P:bI} {C:FuncId->Array af->Mem->af->Mem->Prop} {f:Array Oper} {N:Nat} {Q:Exit->Act->World->Prop} (R:pB C) (X:xf P C) (T:∀o∈f.toList,∀d,o.dst=J d->d<N):
  ∀(l:List Oper) (z F:Nat->af) (m K:Mem) (j:cj) (a:Act) (w:World),(∀o∈l,(∀x∈o.op.operands,nI x=aa)/\∀d,o.dst=J d->d<N)->k6 P C f.toList l z m F K->Rel P j m w->WF m->lj ds j N z a->
   (∀E s n,Post P j m w n K s->lj ds n N F E->Q .normal E s)->wpList P f Q l a w
 |[],z,F,m,K,j,a,w,M,h,q,S,r,I=>by simp only[k6] at h;obtain ⟨rfl,rfl⟩:=h;exact I a w j (Post.refl q) r
 |o::l,z,F,m,K,j,a,w,M,h,q,S,r,I=>by
  obtain ⟨U,O⟩:=M o (by simp);have V:∀o∈l,(∀x∈o.op.operands,nI x=aa)/\∀d,o.dst=J d->d<N:=λp A=>M p (by grind);have r0:qK o (yielded f a.tmps)=wanted f.toList z o:=acO r.size T λg w d bs O=>r.val d;unfold wpList;rw[r0];simp only[k6] at h;by_cases H:wanted f.toList z o=aa
  ·rw[if_pos H];rw[if_pos H] at h;obtain ⟨v,m1,Y,Z⟩:=h;have rT:∀t,low m.next (z t):=λt=>(Lf λb e aw=>(q.lt b e aw).1).2.2 (r.val t);have fb:=w8 Y S rT R U;have L:=r.ops U;have i:∀k s n,Post P j m w n m1 s->de n v k->wpList P f Q l (a.put o.dst k) s:=λk s n A y=>
    Wq R X T l _ _ _ _ n _ _ V Z A.rel fb.2.1 (r.put (A.up q) O y) λE xC wG wv p7=>I E xC wG (A.trans wv) p7
   left;cases Y with
   |pure h=>obtain ⟨k,B,y⟩:=Wf h L w;unfold sM;rw[B];exact i k w j (Post.refl q) y
   |read h=>obtain ⟨k,B,y⟩:=ack h L q.ot;unfold sM;rw[B];exact i k w j (Post.refl q) y
   |new h=>obtain ⟨k,s,n,B,A,y⟩:=arc h L q;unfold sM;rw[B];exact i k s n A y
   |fX h=>grind [aeu]
  ·rw[if_neg H];rw[if_neg H] at h;exact Wq R X T l _ _ _ _ j _ _ V h q S (r.put (λ_ _ h=>h) O (adw j)) I
def Xg {P:bI} {C:FuncId->Array af->Mem->af->Mem->Prop} {k:List Oper} (g:pB C):∀(l:List Oper) (e d:Nat->af) (m a:Mem),(∀o∈l,∀x∈o.op.operands,nI x=aa)->k6 P C k l e m d a->WF m->(∀t,low m.next (e t))->
  WF a/\(∀t,low a.next (d t))/\m.next<=a.next
 |[],e,d,m,a,f,h,i,b=>by simp_all [k6]
 |o::l,e,d,m,a,f,h,i,b=>by
  simp only[k6] at h;have n:∀o∈l,∀x∈o.op.operands,nI x=aa:=λp s=>f p (by grind);split at h
  ·obtain ⟨v,w,r,q⟩:=h;have j:=w8 r i b g (f o (by simp));have:=Xg g l _ _ _ _ n q j.2.1 (Ca (λt=>WO j.2.2 (b t)) j.1)
   grind
  ·exact Xg g l _ _ _ _ n h i (Ca b Kz)
def WS {P:bI} {C:FuncId->Array af->Mem->af->Mem->Prop} {j:List Oper} {B:Array Nat} (r:pB C):∀(l:List Oper) (i:Nat) (A:Acc) (g f:Nat->af) (m a:Mem),(∀o∈l,∀x∈o.op.operands,nI x=aa)->hW P C j B i l A g m f a->WF m->(∀t,low m.next (g t))->
  WF a/\(∀t,low a.next (f t))/\m.next<=a.next
 |[],i,A,g,f,m,a,q,h,s,k=>by simp_all [hW]
 |o::l,i,A,g,f,m,a,q,h,s,k=>by
  simp only[hW] at h;have y:∀o∈l,∀x∈o.op.operands,nI x=aa:=λp d=>q p (by grind);have b:∀v n z,ln P C (bk g) o m v n->hW P C j B (i+1) l z (set g o.dst v) n f a->WF a/\(∀t,low a.next (f t))/\m.next<=a.next:=by
   intro v n z F E;have w:=w8 F s k r (q o (by simp));have:=WS r l _ _ _ _ _ _ y E w.2.1 (Ca (λt=>WO w.2.2 (k t)) w.1)
   grind
  split at h
  ·rcases h with ⟨v,d,e⟩|⟨v,d,_,e⟩|⟨X,v,d,e⟩|⟨v,n,d,_,_,e⟩
   ·exact b _ _ _ (.pure d) e
   ·exact b _ _ _ (.read d) e
   ·exact b _ _ _ (.new d) e
   ·exact b _ _ _ (.fX d) e
  ·exact WS r l _ _ _ _ _ _ y h s (Ca k Kz)
def Ww {n b:Nat} {a:Array Oper} {d:Bool} (h:jw n (.region b a d)=aa):(∀o∈a.toList,(∀x∈o.op.operands,nI x=aa)/\∀d,o.dst=J d->d<n)/\(d=aa->vj a=aa):=by
 grind [jw]
def BX {P:bI} {C:FuncId->Array af->Mem->af->Mem->Prop} (F:pB C) {N:Nat}:∀(n:Nat) (c:Code) (w r:Nat->af) (m p:Mem) (e:fG),jw N c=aa->lS P C n c w m e r p->WF m->(∀t,low m.next (w t))->
  WF p/\(∀t,low p.next (r t))/\m.next<=p.next:=by
 intro n;induction n with
 |zero=>intro c w r m p e _ h;exact h.elim
 |succ n q=>
  intro c w r m p e j h i g;cases c with
  |skip=>obtain ⟨_,rfl,rfl⟩:=h;grind
  |label l=>obtain ⟨_,rfl,rfl⟩:=h;grind
  |exit H=>obtain ⟨_,rfl,rfl⟩:=h;grind
  |ret=>obtain ⟨_,rfl,rfl⟩:=h;grind
  |region H Q d=>
   have B:=Ww j;cases d with
   |false=>exact Xg F _ _ _ _ _ (λo z=>(B.1 o z).1) h.2 i g
   |true=>exact WS F _ _ _ _ _ _ _ (λo z=>(B.1 o z).1) h.2 i g
  |seq a b=>
   simp only[jw,fx] at j;rcases h with ⟨E,I,O,k,A⟩|h
   rotate_left
   ·exact ⟨(h.2.low i g).1,(h.2.low i g).2,h.2.next⟩
   obtain ⟨K,L,M⟩:=q a _ _ _ _ _ j.1 k i g;split at A
   ·grind
   simp_all
  |cond c a b=>
   simp only[jw,fx] at j;obtain ⟨t,_,k⟩:=h
   grind
  |block H c=>obtain ⟨E,k,_⟩:=h;exact q c _ _ _ _ _ j k i g
  |scope c=>exact q c _ _ _ _ _ j h i g
  |loop c=>
   obtain ⟨E,I,O,k,A⟩:=h;obtain ⟨K,L,M⟩:=q c _ _ _ _ _ j k i g;split at A
   ·grind
   simp_all
  |rangeFunc f R x y=>exact h.elim
  |goto l=>exact h.elim
  |refuse s=>exact h.elim
def aen (P:bI) (C:FuncId->Array af->Mem->af->Mem->Prop) (N n:Nat) (c:Code):Prop:=
 ∀⦃g:List Deferred⦄ (h f:Nat->af) (m i:Mem) (e:fG) (j:cj) (a:Act) (w:World) (Q:Exit->Act->World->Prop),
  jw N c=aa->lS P C n c h m e f i->Rel P j m w->WF m->lj g j N h a->(∀b k d,Post P j m w d i k->lj g d N f b->Q e.out b k)->c.wp P Q a w
theorem lj.low {P:bI} {j:cj} {N:Nat} {d:Nat->af} {a:Act} {m:Mem} {w:World} (h:lj ds j N d a) (g:Rel P j m w):∀t,low m.next (d t):=λt=>(Lf λb e f=>(g.lt b e f).1).2.2 (h.val t)
def aqx {P:bI} {C:FuncId->Array af->Mem->af->Mem->Prop} (cW:pB C) {N:Nat} {c:Code} (M:jw N c=aa):∀(n:Nat),(∀A,A<n->aen P C N A c)->∀(y t:Nat->af) (m z:Mem) (e:fG) (j:cj) (a:Act) (w:World) (Q:Exit->Act->World->Prop),
  lS P C n (.loop c) y m e t z->Rel P j m w->WF m->lj ds j N y a->(∀f g V,Post P j m w V z g->lj ds V N t f->Q e.out f g)->
  ∀(b:Frame) (k:List Item) (i:List Frame),∃d f g,Q d f g/\Arrives P (lone (b.at a (.code c:: .inLoop c::k)) i w) b k i d f g:=by
 intro n;induction n with
 |zero=>intro _ y t m z e j a w Q h;exact h.elim
 |succ n a1=>
  intro L y t m z e j a w Q h H I K Y b k i;obtain ⟨bX,fY,m1,O,r⟩:=h;have aR:=BX cW n c _ _ _ _ _ M O I (K.low H);by_cases X:bX= .normal
  ·subst X;rw[if_pos rfl] at r;have l:c.wp P (λe f g=>e= .normal/\∃d U Z,Q d U Z/\Arrives P (lone (b.at f (.code c:: .inLoop c::k)) i g) b k i d U Z) a w:=
    L n (pT n) _ _ _ _ _ j a w _ M O H I K λq p R s T=>
     ⟨rfl,a1 (λA p9=>L A (by omega)) _ _ _ _ _ R q p Q r s.rel aR.1 T (λE S r2 Bq we=>Y E S r2 (s.trans Bq) we) b k i⟩
   obtain ⟨d,q,p,⟨rfl,e2,E,S,Vx,F⟩,B⟩:=l b (.inLoop c::k) i;exact ⟨e2,E,S,Vx, .of_steps (Steps.trans B (.one step_inLoop)) F⟩
  ·rw[if_neg X] at r;obtain ⟨rfl,rfl,rfl⟩:=r;have l:c.wp P (λd f g=>d≠ .normal/\Q d f g) a w:=
    L n (pT n) _ _ _ _ _ j a w _ M O H I K λq p R s T=>⟨by cases e with
     |normal=>grind
     |exit id=>simp[fG.out]
     |ret=>simp[fG.out],Y q p R s T⟩
   obtain ⟨d,q,p,⟨gT,bm⟩,B⟩:=l b (.inLoop c::k) i;exact ⟨d,q,p,bm, .pass (x:= .inLoop c) rfl (λ_ _=> .inl gT) B⟩
def V9 {P:bI} {C:FuncId->Array af->Mem->af->Mem->Prop} (n9:P.follows .mixedOrders=aa) (O:pB C) (k2:xf P C) {N:Nat}:∀(n:Nat) (c:Code),aen P C N n c:=by
 intro n;induction n using Y0 with
 |_ n Y=>
 cases n with
 |zero=>intro c ds fr cb m m' e j a w Q _ h;exact h.elim
 |succ n=>
  intro c ds fr cb m m' e j a w Q q h p z g i;have rT:=g.low p;have I:=Y n (pT n);cases c with
  |skip=>obtain ⟨rfl,rfl,rfl⟩:=h;exact wp_skip (i a w j (Post.refl p) g)
  |label l=>obtain ⟨rfl,rfl,rfl⟩:=h;exact wp_label (i a w j (Post.refl p) g)
  |exit V=>obtain ⟨rfl,rfl,rfl⟩:=h;exact wp_exit (i a w j (Post.refl p) g)
  |ret=>obtain ⟨rfl,rfl,rfl⟩:=h;exact wp_ret (i a w j (Post.refl p) g)
  |region V X d=>
   have M:=Ww q;have uR:∀o∈X.toList,∀d,o.dst=J d->d<N:=λo S=>(M.1 o S).2;cases d with
   |false=>obtain ⟨rfl,h⟩:=h;exact wp_region_list (Wq O k2 uR _ _ _ _ _ j a w M.1 h p z g i)
   |true=>obtain ⟨rfl,h⟩:=h;exact aqs n9 h (M.2 rfl) (λo S=>(M.1 o S).1) (by rw[g.size];grind) O k2 p z g.val g.defers λK w' c6 r L bg bf=>i K w' c6 r ⟨L,bg,by rw[bf];exact g.size⟩
  |seq K b=>
   have U:=q;simp only[jw,fx] at q;rcases h with ⟨Z,fY,m1,E,T⟩|h
   rotate_left
   ·exact h.2.sound U p z g i
   have aR:=BX O n K _ _ _ _ _ q.1 E z rT;refine wp_seq (I K _ _ _ _ _ j a w _ q.1 E p z g λB A F r H=> ?_);split at T
   ·rename_i R;subst R;exact I b _ _ _ _ _ F B A Q q.2 T r.rel aR.1 H λa2 ix r2 Bq we=>i a2 ix r2 (r.trans Bq) we
   ·rename_i R;obtain ⟨rfl,rfl,rfl⟩:=T;cases e with
    |normal=>grind
    |exit V=>exact i B A F r H
    |ret=>exact i B A F r H
  |cond c x y=>
   simp only[jw,fx] at q;obtain ⟨t,aJ,E⟩:=h;have L:de j (bk fr c) (a.eval c):=Xw q.1.1 λt _=>g.val t;rw[aJ] at L;refine wp_cond L.bool ?_;cases t
   ·exact I y _ _ _ _ _ j a w Q q.2 E p z g i
   ·exact I x _ _ _ _ _ j a w Q q.1.2 E p z g i
  |scope c=>refine wp_scope_straight (I c _ _ _ _ _ j a w _ q h p z g λB A F r H=> ?_);have:=i B A F r H;cases e<;>exact this
  |block V c=>
   obtain ⟨Z,E,R⟩:=h;refine wp_block (I c _ _ _ _ _ j a w _ q E p z g λB A F r H=> ?_);have:=i B A F r H;rw[R] at this;cases Z with
   |normal=>simp only[fG.out] at this⊢;exact this
   |exit J3=>
    grind [fG.out,Exit.inBlock]
   |ret=>simp only[fG.out] at this⊢;exact this
  |loop c=>intro b k cs;obtain ⟨cz,B,A,bm,Be⟩:=aqx O (c:=c) q (n+1) (λn' p9=>Y n' p9 c) _ _ _ _ _ j a w Q h p z g i b k cs;exact ⟨cz,B,A,bm, .of_steps (.one step_loop) Be⟩
  |rangeFunc f cQ x y=>exact h.elim
  |goto l=>exact h.elim
  |refuse s=>exact h.elim
def ap8 {P:bI} {y:Nat->af} {m:Mem} {j:cj} {N:Nat} {a:Act} {w:World} (p:Rel P j m w) (s:lj ds j N y a) {r:ResultVar} {v:af} (h:KZ P y m r v):
  ∃g,(match r with| .tmp t=>(pure (a.tmps.getD t undef):Sem af)| .cell x t=>do loadVar t (<-asAddr (a.tmps.getD x undef))).run P w= .ok g w/\de j v g:=by
 cases r with
 |tmp t=>simp only[KZ] at h;subst h;exact ⟨_,rfl,s.val t⟩
 |cell x t=>
  obtain ⟨b,k,z,d,E,e⟩:=h;have n:=s.val x;rw[z] at n;obtain ⟨q,_,l,A⟩:=n.ptr;by_cases f:lI d=aa
  ·rw[if_pos f] at e;obtain ⟨i,L,B,F,rfl⟩:=e;obtain ⟨ds,I,C,H⟩:=BL p.ot l _ _ _ F;exact ⟨.agg ds.toArray,by simp[A,asAddr,loadVar,sb E,f,jb B,BM C H],⟨_,rfl,by grind⟩⟩
  ·rw[if_neg f] at e;obtain ⟨g,M,K⟩:=p.ot.load b q k v l e;simp_all [asAddr,loadVar,sb,de.qh]
def abY {P:bI} {fr:Nat->af} {m:Mem} {j:cj} {N:Nat} {a:Act} {w:World} (cY:Rel P j m w) (eF:lj ds j N fr a):∀(rs:List ResultVar) (vs:List af),q2 P fr m rs vs->
  ∃n0:List af,(rs.mapM (m:=Sem) λ| .tmp t=>pure (a.tmps.getD t undef)| .cell x t=>do loadVar t (<-asAddr (a.tmps.getD x undef))).run P w= .ok n0 w/\bP (de j) vs n0
 |[],[],_=>⟨[],rfl,fs⟩
 |r::rs,v::vs,⟨h1,ai⟩=>by obtain ⟨bz,aV,aD⟩:=ap8 cY eF h1;obtain ⟨n0,ayn,rZ⟩:=abY cY eF rs vs ai;refine ⟨bz::n0, ?_,aD,rZ⟩;simp_all
 |[],_::_,h=>h.elim
 |_::_,[],h=>h.elim
def aca {j:cj}:∀{a b:List af},bP (de j) a b->(∀x∈a,storable x=aa)->bP (fC j) a b
 |[],[],_,_=>fs
 |v::a,c::b,⟨g,e⟩,d=>⟨de.storable g (d v (by simp)),aca e λx f=>d x (by simp[f])⟩
 |[],_::_,h,_=>h.elim
 |_::_,[],h,_=>h.elim
def aqo {j:cj} {a d:Array af} (h:bP (de j) a.toList d.toList) (n:Nat):∀t,de j ((a++nj (n - a.size) undef).getD t undef) ((d++nj (n - d.size) undef).getD t undef):=by
 have p:=h.size;intro t;by_cases f:t<a.size
 ·have g:(a++nj (n - a.size) undef).getD t undef=a[t]:=by
   rw[Yr,Ys f];grind
  have q:t<d.size:=by omega
  have i:(d++nj (n - d.size) undef).getD t undef=d[t]:=by simp_all [Ys]
  rw[g,i];obtain ⟨b,m,l⟩:=h.JA t a[t] (by grind)
  grind
 ·have e:∀(A:Array af),A.size<=t->(A++nj (n - A.size) undef).getD t undef=undef:=by
   intro A k;rw[Yr,Array.getElem?_append_right k]
   grind
  rw[e a (by omega),e d (by omega)];exact adw j
theorem acE {P : bI} {f : FuncId} {fn : Func} {c : Code} (h : lR P f = aa) (bF : P.funcs[f]? = J fn) (ay : fn.body = J c) : (fn.name == "runtime.NumGoroutine") = ak ∧ jw fn.ntmps c = aa := by
 grind [lR]
def aci {P : bI} {f : FuncId} {fn : Func} {c : Code} (h : lR P f = aa) (bF : P.funcs[f]? = J fn) (ay : qm P fn c) : (fn.name == "runtime.NumGoroutine") = ak ∧ jw fn.ntmps c = aa ∧ fn.body.isNone = ak := by
 rcases ay with ay|⟨A,id,mk,p3,B,g,k,cs,D⟩
 ·grind [acE]
 ·have ai:=acE h bF D.body;refine ⟨ai.1, ?_,by simp[D.body]⟩;rw[D.code]
  grind [jw]
def atk {P:bI} {C:FuncId->Array af->Mem->af->Mem->Prop} {g:bS->af} {o:Oper} {m e:Mem} {v:af} {fn:Fn} {l:Array bS} (h:ln P C g o m v e) (j:o.op= .makeFunc fn #[] l):
  dD P g o v/\e=m/\∃n,v= .func fn #[] n:=by
 cases h with
 |pure h=>
  refine ⟨h,rfl, ?_⟩;cases h with
  |func f a b t q=>simp_all
  |flat v r h p k=>
   have:=k default;simp[execOp,j,Instr.makeFunc] at this
   grind
  |_=>grind
 |read h=>cases h<;>simp_all
 |new h=>cases h<;>simp_all
 |fX h=>
  cases h with
  |call f i v e h s=>obtain ⟨x,w,y,first,d,h,_⟩:=h;grind
  |_=>grind
def ap5 {P:bI} {C:FuncId->Array af->Mem->af->Mem->Prop} (n9:P.follows .mixedOrders=aa) (M:pB C) (k2:xf P C) {n:Nat} {f:FuncId} {fn:Func} {c:Code} {fr fY:Nat->af} {m m1:Mem} {e:fG} {j:cj} {w:World} {a:Array af} {R:Ending->World->Prop}
  (bF:P.funcs[f]? =J fn) (H:qm P fn c) (eT:jw fn.ntmps c=aa) (I:lS P C n c fr m e fY m1) (he:e= .normal\/e= .ret) (cY:Rel P j m w) (dV:WF m) (eF:lj [] j fn.ntmps fr {tmps:=a++nj (fn.ntmps - a.size) undef,defers:=[]})
  (iN:∀ds r q y,Post P j m w y m1 q->lj ds y fn.ntmps fY r->∃v,(results fn r.tmps).run P q= .ok v q/\R (.returned v) q):Calls P f a w R:=by
 rcases H with H|⟨A,id,mk,N,B,g,k,cs,D⟩
 ·refine calls_of_wp bF H (V9 n9 M k2 n c _ _ _ _ _ j _ w _ eT I cY dV eF λr q y bb L=> ?_);obtain ⟨v,h1,s⟩:=iN [] r q y bb L;rcases he with rfl|rfl<;>exact ⟨L.defers,v,h1,s⟩
 ·obtain rfl:=D.code;have z:jw fn.ntmps A=aa:=by grind [jw]
  have aos:jw fn.ntmps (.region id #[mk] ak)=aa:=by grind [jw]
  have aor:jw fn.ntmps B=aa:=by grind [jw]
  cases n with
  |zero=>exact I.elim
  |succ n=>
  rcases I with ⟨bX,E,ayG,eL,s⟩|⟨h,_⟩
  rotate_left
  ·rw[D.db] at h;grind
  have T:=BX M n A _ _ _ _ _ z eL dV (eF.low cY);refine calls_of_wp_defers bF D.body (wp_seq (V9 n9 M k2 n A _ _ _ _ _ j _ w _ z eL cY dV eF λp x hM wx K=> ?_));by_cases wh:bX= .normal
  ·subst wh;rw[if_pos rfl] at s;cases n with
   |zero=>exact s.elim
   |succ n=>
   rcases s with ⟨e2,axu,aby,F,aT⟩|⟨h,_⟩
   rotate_left
   ·cases h
   cases n with
   |zero=>exact F.elim
   |succ n=>
   obtain ⟨rfl,O⟩:=F;rw[if_pos rfl] at aT;have J2:wanted [mk] E mk=aa:=by unfold wanted;rw[D.abA]
   simp only[k6] at O;rw[if_pos J2] at O;obtain ⟨v,ayH,fb,rfl,rfl⟩:=O;obtain ⟨aoC,rfl,ds,rfl⟩:=atk fb D.apv;have aV:=Ww aos;obtain ⟨an,bg⟩:=aV.1 mk (by simp);obtain ⟨bz,I,aD⟩:=Wf aoC (K.ops an) x;have yY:=aD;obtain ⟨gs,i,rfl,wk,_⟩:=yY;have X:gs=#[]:=by
    cases gs with
    |mk l=>cases l with
     |nil=>rfl
     |cons _ _=>exact wk.elim
   subst X;have Y:k<fn.ntmps:=bg k D.VR;have we:=K.put (d:=J k) (λb e H=>H) (λt aJ=>by grind) aD;show (Code.seq _ _).wp P _ p x;refine wp_seq (wp_region_list ?_);unfold wpList;have r0:qK mk (yielded #[mk,N] p.tmps)=aa:=by unfold qK;rw[D.abA]
   rw[if_pos r0];refine .inl ?_;unfold sM;rw[I,Oper.upon_value];unfold wpList;have Z:qK N (yielded #[mk,N] (p.put mk.dst (.func (.func g) #[] i)).tmps)=aa:=by unfold qK;rw[D.amA]
   rw[if_pos Z];refine .inl ?_;unfold sM;rw[D.VR];have yZ:(p.put (J k) (.func (.func g) #[] i)).eval (.tmp k)= .func (.func g) #[] i:=by simp[Act.eval,qB,K.size,Y]
   have V:(execOp (p.put (J k) (.func (.func g) #[] i)).eval N).run P x= .ok (.defer {target:= .fn (.func g) i,args:=#[]}) x:=by simp[execOp,D.amB,resolve,yZ,Deferred.ofValue]
   rw[V,Oper.upon_defer];unfold wpList;rw[D.amz];show B.wp P _ _ _;have S:lj [{target:= .fn (.func g) i,args:=#[]}] hM fn.ntmps (set E mk.dst (.func (.func g) #[] ds)) {(p.put (J k) (.func (.func g) #[] i)) with defers:={target:= .fn (.func g) i,args:=#[]}::(p.put (J k) (.func (.func g) #[] i)).defers}:=by rw[D.VR];exact ⟨we.val,by rw[we.defers],we.size⟩
   have U:=T.1;refine V9 n9 M k2 (n+1) B _ _ _ _ _ hM _ x _ aor aT wx.rel U S λr q y bb L=> ?_;obtain ⟨v,fv,fQ⟩:=iN _ r q y (wx.trans bb) L;obtain ⟨⟨axr,dv,z2,z3⟩,z4⟩:=D.apA;have Q:Leaves P fn r.tmps R r.defers .returning q:=by
    rw[L.defers];refine ⟨by simp,_,i,g,#[]++i,rfl, ?_,(z4 (#[]++i) q).mono ?_⟩
    ·grind [invoke,ab0]
    ·rintro e u ix ⟨⟨cc,rfl⟩,rfl,rfl⟩;exact ⟨v,fv,fQ⟩
   rcases he with rfl|rfl<;>exact Q
  ·rw[if_neg wh] at s;obtain ⟨rfl,rfl,rfl⟩:=s;obtain ⟨v,fv,fQ⟩:=iN [] p x hM wx K;rcases he with rfl|rfl
   ·grind
   ·show Leaves P fn p.tmps R p.defers .returning x;rw[K.defers];exact ⟨v,fv,fQ⟩
def WF.nf {m a:Mem} (h:WF m) (e:∀b,b<m.next->a.blk b=m.blk b\/qe m.next (a.blk b)):WF (a.nf m.next) where
 dead:=λb g=>by
  grind [Mem.nf]
 low:=λb=>by
  simp only[Mem.nf];split
  ·rename_i f;rcases e b f with d|d
   ·rw[d];exact h.low b
   grind
  ·exact fs
def acd {P:bI} (n9:P.follows .mixedOrders=aa):∀n,pB (jn P n)/\xf P (jn P n):=by
 intro n;induction n with
 |zero=>exact ⟨λf a m v F h=>h.elim,λf a m v F h=>h.elim⟩
 |succ n T=>
  obtain ⟨Z,k2⟩:=T;refine ⟨?_, ?_⟩
  ·intro f a m v F h A aR;rcases h with ⟨_,h⟩|h
   ·exact ⟨(h.2.1 A).1,(h.2.1 A).2,h.1⟩
   obtain ⟨fn,c,e,fr,m1,k,L,g,N,cN,Q,he,oR,rfl,fb,hm⟩:=h;have C:=aci N L g;have hU:∀t,low m.next ((a++nj (fn.ntmps - a.size) undef).getD t undef):=by
    intro t;rw[Yr]
    grind [Kz]
   obtain ⟨g1,g2,g3⟩:=BX Z n c _ _ _ _ _ C.2.1 Q A hU;rcases hm with rfl|⟨rfl,rT,s⟩
   ·refine ⟨?_,g1,g3⟩;have aV:∀(R:List ResultVar) (k:List af),q2 P fr F R k->∀x∈k,low F.next x:=by
     intro R;induction R with
     |nil=>intro k h x K;cases k with|nil=>grind|cons _ _=>exact h.elim
     |cons r R T=>
      intro k h x K;cases k with
      |nil=>grind
      |cons u us=>
       rcases ha.1 K with rfl|K
       ·cases r with
        |tmp t=>have:=h.1;grind [KZ]
        |cell q t=>
         obtain ⟨b,off,_,d,bg,aD⟩:=h.1
         grind [low,iv,KX,K6,WL]
       ·exact T us h.2 x K
    have oO:=aV _ _ oR;rcases fb with E|E
    ·match k,E with
     |[x],_=>exact oO x (by simp)
    ·match k with
     |[]=>intro x K;grind
     |[x]=>exact oO x (by simp)
     |x::y::l=>intro z bx;grind [wY]
   ·exact ⟨rT,A.nf s,e4 _⟩
  ·intro f a m v F h j w kq A cY uQ;rcases h with ⟨N,h⟩|h
   ·refine ⟨?_,h.2.2 j w kq A cY uQ⟩
    grind [lR]
   obtain ⟨fn,c,e,fr,m1,k,L,g,N,cN,Q,he,oR,rfl,fb,hm⟩:=h;have C:=aci N L g;refine ⟨⟨fn,L,C.1,C.2.2⟩, ?_⟩;have eF:lj [] j fn.ntmps (λi=>(a++nj (fn.ntmps - a.size) undef).getD i undef) {tmps:=kq++nj (fn.ntmps - kq.size) undef,defers:=[]}:=
    ⟨aqo uQ fn.ntmps,rfl,by have:=uQ.size;grind⟩
   have aR:=BX Z n c _ _ _ _ _ C.2.1 Q A (eF.low cY);refine ap5 n9 Z k2 L g C.2.1 Q he cY A eF λds a' S Y B p7=> ?_;obtain ⟨H,U,O⟩:=abY B.rel p7 _ _ oR;have hlen:=O.length;have aa4:(results fn a'.tmps).run P S= .ok (pack H) S:=by
    simp only[results,kD];rw[afM];simp only[Sem.run_map];have V:=U;refine Eq.trans (congrArg (λr=>Zg (Zg r _) _) V) ?_;simp only[jE,nt];congr 1
    match H with
    |[]=>rfl
    |[x]=>rfl
    |x::y::l=>rfl
   have yZ:de Y (pack k) (pack H):=by
    rcases fb with E|E
    ·match k,H,E,O with
     |[x],[y],_,p=>exact p.1
     |[x],[],_,p=>grind
     |[x],_::_::_,_,p=>grind
    ·have ai:=aca O E
     match k,H,O,ai with
     |[x],[y],p,_=>exact p.1
     |[],[],_,_=>exact ⟨_,rfl,fs⟩
     |x::y::l,jL::la::r3,_,p=>exact ⟨_,rfl,by grind⟩
     |[x],[],p,_=>grind
     |[x],_::_::_,p,_=>grind
     |[],_::_,p,_=>grind
     |_::_::_,[],p,_=>grind
     |_::_::_,[_],p,_=>grind
   have aaH:∃wG,Post P j m w wG F S/\de wG (pack k) (pack H):=by
    rcases hm with rfl|⟨rfl,rT,s⟩
    ·grind
    ·have X:=A.nf s;have M:Rel P (Y.below m.next) (m1.nf m.next) S:=Rel.below (m:=m1.nf m.next) B.rel X (λb e g cF=>by
      grind [Mem.nf])
     refine ⟨Y.below m.next,⟨M,B.gd,e4 _,λb g=> ?_,λb e g hA=> ?_,λb g I=> ?_,λb g I=> ?_⟩,zj.2.2 yZ rT⟩
     ·simp only[cj.below,g,if_true];exact B.ext b g
     ·have:=(q3 g).1;omega
     ·simp only[Mem.nf,g,if_true] at I;exact B.ew b g I
     ·simp only[Mem.nf,g,if_true] at I;exact B.alive b g I
   grind
end
section
def yg (C d:FuncId->Array af->Mem->af->Mem->Prop):Prop:=∀f a m v b,C f a m v b->d f a m v b
def hR.mono {P:bI} {C U:FuncId->Array af->Mem->af->Mem->Prop} (cW:yg C U) {T:bS->af} {o:Oper} {m M:Mem} {v:af} (h:hR P C T o m v M):hR P U T o m v M:=by
 cases h with
 |store t x y b d i L e h g j q Y bf s=>exact .store t x y b d i L e h g j q Y bf s
 |call f B v M h N=>exact .call f B v M h (cW _ _ _ _ _ N)
 |vZ x y t u e i a l c h p j g A s7 r=>exact .vZ x y t u e i a l c h p j g A s7 r
 |sP x y t u e i z a l c n ew new h p j F H I Q g A Z nF r w O q=>exact .sP x y t u e i z a l c n ew new h p j F H I Q g A Z nF r w O q
 |yy x y t u e i b d l c k n L new h p j g R nB A q r w s=>exact .yy x y t u e i b d l c k n L new h p j g R nB A q r w s
 |vY x y t u e i b d l c n L new h p j g R A q r w s=>exact .vY x y t u e i b d l c n L new h p j g R A q r w s
 |append x y t u e i z b d l n L new h p j F H I Q g S yS r w O q=>exact .append x y t u e i z b d l n L new h p j F H I Q g S yS r w O q
 |clear x t e i z b d l c L h p j F H I g q hV s=>exact .clear x t e i z b d l c L h p j F H I g q hV s
 |copy x y t u e i b d l c L cs h p j g q r w s=>exact .copy x y t u e i b d l c L cs h p j g q r w s
 |mapUpdate hZ x jW j3 u bG bA b L eo vc E V ho h jk hu g S bp nC K yP uV yQ bF hk bs rZ X tg wA hb=>exact .mapUpdate hZ x jW j3 u bG bA b L eo vc E V ho h jk hu g S bp nC K yP uV yQ bF hk bs rZ X tg wA hb
def ln.mono {P:bI} {C d:FuncId->Array af->Mem->af->Mem->Prop} (e:yg C d) {a:bS->af} {o:Oper} {m b:Mem} {v:af} (h:ln P C a o m v b):ln P d a o m v b:=by
 cases h with
 |pure h=>exact .pure h
 |read h=>exact .read h
 |new h=>exact .new h
 |fX h=>exact .fX (h.mono e)
def BP {P:bI} {C i:FuncId->Array af->Mem->af->Mem->Prop} (f:yg C i) {a:List Oper}:∀(l:List Oper) (d b:Nat->af) (m e:Mem),k6 P C a l d m b e->k6 P i a l d m b e
 |[],d,b,m,e,h=>h
 |o::l,d,b,m,e,h=>by
  simp only[k6] at h⊢;split at h
  ·rename_i g;rw[if_pos g];obtain ⟨v,n,k,j⟩:=h;exact ⟨v,n,k.mono f,BP f l _ _ _ _ j⟩
  ·rename_i g;rw[if_neg g];exact BP f l _ _ _ _ h
def vd {P:bI} {C n:FuncId->Array af->Mem->af->Mem->Prop} (d:yg C n) {e:List Oper} {B:Array Nat}:∀(l:List Oper) (i:Nat) (A:Acc) (g f:Nat->af) (m j:Mem),hW P C e B i l A g m f j->hW P n e B i l A g m f j
 |[],i,A,g,f,m,j,h=>h
 |o::l,i,A,g,f,m,j,h=>by
  simp only[hW] at h⊢;split at h
  ·rename_i k;rw[if_pos k];rcases h with ⟨v,a,b⟩|⟨v,a,p,b⟩|⟨X,v,a,b⟩|⟨v,s,a,r,q,b⟩
   ·exact .inl ⟨v,a,vd d l _ _ _ _ _ _ b⟩
   ·exact .inr (.inl ⟨v,a,p,vd d l _ _ _ _ _ _ b⟩)
   ·exact .inr (.inr (.inl ⟨X,v,a,vd d l _ _ _ _ _ _ b⟩))
   ·exact .inr (.inr (.inr ⟨v,s,a.mono d,r,q,vd d l _ _ _ _ _ _ b⟩))
  ·rename_i k;rw[if_neg k];exact vd d l _ _ _ _ _ _ h
def ab7 {P:bI} {C F:FuncId->Array af->Mem->af->Mem->Prop} (B:yg C F):∀(n g:Nat),n<=g->∀(c:Code) (r q:Nat->af) (m w:Mem) (e:fG),lS P C n c r m e q w->lS P F g c r m e q w:=by
 intro n;induction n with
 |zero=>intro g _ c r q m w e h;exact h.elim
 |succ n j=>
  intro g M c r q m w e h;cases g with
  |zero=>omega
  |succ g=>
   have p:n<=g:=by omega
   cases c with
   |skip=>exact h
   |label l=>exact h
   |exit E=>exact h
   |ret=>exact h
   |region E L d=>
    cases d with
    |false=>exact ⟨h.1,BP B _ _ _ _ _ h.2⟩
    |true=>exact ⟨h.1,vd B _ _ _ _ _ _ _ h.2⟩
   |seq a b=>
    rcases h with ⟨k,z,A,i,I⟩|h
    rotate_left
    ·exact .inr h
    refine .inl ⟨k,z,A,j g p _ _ _ _ _ _ i, ?_⟩
    grind
   |cond c a b=>obtain ⟨t,H,i⟩:=h;exact ⟨t,H,j g p _ _ _ _ _ _ i⟩
   |scope c=>exact j g p _ _ _ _ _ _ h
   |block E c=>obtain ⟨k,i,K⟩:=h;exact ⟨k,j g p _ _ _ _ _ _ i,K⟩
   |loop c=>
    obtain ⟨k,z,A,i,I⟩:=h;refine ⟨k,z,A,j g p _ _ _ _ _ _ i, ?_⟩
    grind
   |rangeFunc f N x y=>exact h.elim
   |goto l=>exact h.elim
   |refuse s=>exact h.elim
def wV {P:bI}:∀(n a:Nat),n<=a->yg (jn P n) (jn P a):=by
 intro n;induction n with
 |zero=>intro a _ f b m v r h;exact h.elim
 |succ n g=>
  intro a w f b m v r h;cases a with
  |zero=>omega
  |succ a=>
   rcases h with h|h
   ·exact .inl h
   obtain ⟨fn,c,e,p,s,t,j,i,l,k,q,d⟩:=h;exact .inr ⟨fn,c,e,p,s,t,j,i,l,k,ab7 (g a (by omega)) n a (by omega) _ _ _ _ _ _ q,d⟩
def h2 (P:bI) (f:FuncId) (a:Array af) (m:Mem) (R:af->Mem->Prop):Prop:=∃n v b,jn P n f a m v b/\R v b
def W (P:bI) (c:Code) (Q:fG->(Nat->af)->Mem->Prop) (d:Nat->af) (m:Mem):Prop:=∃n e a b,lS P (jn P n) n c d m e a b/\Q e a b
def mr (P:bI) (b:bS->af) (o:Oper) (m:Mem) (K:af->Mem->Prop):Prop:=∃n v a,ln P (jn P n) b o m v a/\K v a
def ea (P:bI) (a l:List Oper) (K:(Nat->af)->Mem->Prop) (e:Nat->af) (m:Mem):Prop:=∃n b d,k6 P (jn P n) a l e m b d/\K b d
def hQ (P:bI) (a:List Oper) (B:Array Nat) (i:Nat) (l:List Oper) (A:Acc) (K:(Nat->af)->Mem->Prop) (e:Nat->af) (m:Mem):Prop:=∃n b d,hW P (jn P n) a B i l A e m b d/\K b d
section
variable {P:bI} {Q AH:fG->(Nat->af)->Mem->Prop} {fr:Nat->af} {m:Mem}
def h2.mono {f:FuncId} {a:Array af} {R d:af->Mem->Prop} (h:h2 P f a m R) (e:∀v b,R v b->d v b):h2 P f a m d:=
 let ⟨n,v,b,i,g⟩:=h;⟨n,v,b,i,e _ _ g⟩
def W.mono {c:Code} (h:W P c Q fr m) (b:∀e fr m,Q e fr m->AH e fr m):W P c AH fr m:=
 let ⟨n,e,d,g,f,a⟩:=h;⟨n,e,d,g,f,b _ _ _ a⟩
def W.skip (h:Q .normal fr m):W P .skip Q fr m:=⟨1,_,_,_,⟨rfl,rfl,rfl⟩,h⟩
def W.label {l:Nat} (h:Q .normal fr m):W P (.label l) Q fr m:=⟨1,_,_,_,⟨rfl,rfl,rfl⟩,h⟩
def W.exit {a:Nat} (h:Q (.exit a) fr m):W P (.exit a) Q fr m:=⟨1,_,_,_,⟨rfl,rfl,rfl⟩,h⟩
def W.ret (h:Q .ret fr m):W P .ret Q fr m:=⟨1,_,_,_,⟨rfl,rfl,rfl⟩,h⟩
def afi (next:(Nat->af)->Mem->Prop) (Q:fG->(Nat->af)->Mem->Prop):fG->(Nat->af)->Mem->Prop| .normal,a,m=>next a m|e,a,m=>Q e a m
def pZ (d:Nat) (Q:fG->(Nat->af)->Mem->Prop):fG->(Nat->af)->Mem->Prop| .exit b,a,m=>if b=d then Q .normal a m else Q (.exit b) a m|e,a,m=>Q e a m
def q7 {n N k:Nat} (h:n<=N) (g:n<=k) {c:Code} {b a:Nat->af} {m d:Mem} {e:fG} (f:lS P (jn P n) n c b m e a d):lS P (jn P N) k c b m e a d:=ab7 (wV n N h) n k g _ _ _ _ _ _ f
def W.seq {a b:Code} (h:W P a (afi (W P b Q) Q) fr m):W P (.seq a b) Q fr m:=by
 obtain ⟨n,e,g,i,f,d⟩:=h;cases e with
 |normal=>obtain ⟨r,l,p,q,j,k⟩:=d;exact ⟨max n r+1,l,p,q, .inl ⟨_,_,_,q7 (by omega) (by omega) f,by rw[if_pos rfl];exact q7 (by omega) (by omega) j⟩,k⟩
 |exit s=>exact ⟨n+1,_,g,i, .inl ⟨_,_,_,q7 (by omega) (by omega) f,by grind⟩,d⟩
 |ret=>exact ⟨n+1,_,g,i, .inl ⟨_,_,_,q7 (by omega) (by omega) f,by grind⟩,d⟩
def W.cond {c:bS} {a b:Code} {t:Bool} (d:bk fr c= .bool t) (h:W P (if t then a else b) Q fr m):W P (.cond c a b) Q fr m:=by
 obtain ⟨n,e,g,j,i,f⟩:=h;exact ⟨n+1,e,g,j,⟨t,d,q7 (by omega) (by omega) i⟩,f⟩
def W.block {a:Nat} {c:Code} (h:W P c (pZ a Q) fr m):W P (.block a c) Q fr m:=by
 obtain ⟨n,e,b,f,d,i⟩:=h;refine ⟨n+1,_,b,f,⟨e,q7 (by omega) (by omega) d,rfl⟩, ?_⟩;cases e with
 |normal=>grind [pZ]
 |exit g=>
  grind [pZ]
 |ret=>grind [pZ]
def W.scope {c:Code} (h:W P c Q fr m):W P (.scope c) Q fr m:=by
 obtain ⟨n,e,a,b,f,d⟩:=h;exact ⟨n+1,e,a,b,(show lS P (jn P (n+1)) n c fr m e a b from q7 (by omega) (by omega) f),d⟩
def W.apr {c:Code} (h:W P c (afi (W P (.loop c) Q) Q) fr m):W P (.loop c) Q fr m:=by
 obtain ⟨n,e,d,f,b,a⟩:=h;cases e with
 |normal=>obtain ⟨p,j,k,l,g,i⟩:=a;exact ⟨max n p+1,j,k,l,⟨_,_,_,q7 (by omega) (by omega) b,by rw[if_pos rfl];exact q7 (by omega) (by omega) g⟩,i⟩
 |exit q=>exact ⟨n+1,_,d,f,⟨_,_,_,q7 (by omega) (by omega) b,by grind⟩,a⟩
 |ret=>exact ⟨n+1,_,d,f,⟨_,_,_,q7 (by omega) (by omega) b,by grind⟩,a⟩
def W.region {f:Nat} {a:Array Oper} (h:ea P a.toList a.toList (Q .normal) fr m):W P (.region f a ak) Q fr m:=by
 obtain ⟨n,d,g,e,b⟩:=h;exact ⟨n+1, .normal,d,g,⟨rfl,BP (wV _ _ (mo _)) _ _ _ _ _ e⟩,b⟩
def W.draw {f:Nat} {a:Array Oper} (h:hQ P a.toList (kp a) 0 a.toList ⟨[],[],[]⟩ (Q .normal) fr m):W P (.region f a aa) Q fr m:=by
 obtain ⟨n,d,g,e,b⟩:=h;exact ⟨n+1, .normal,d,g,⟨rfl,vd (wV _ _ (mo _)) _ _ _ _ _ _ _ e⟩,b⟩
end
section
variable {P:bI} {ops l:List Oper} {K:(Nat->af)->Mem->Prop} {fr:Nat->af} {m:Mem} {o:Oper}
def ea.nil (h:K fr m):ea P ops [] K fr m:=⟨0,_,_,⟨rfl,rfl⟩,h⟩
def ea.skip (e:wanted ops fr o=ak) (h:ea P ops l K (set fr o.dst undef) m):ea P ops (o::l) K fr m:=by
 obtain ⟨n,b,d,f,a⟩:=h;refine ⟨n,b,d, ?_,a⟩
 grind [k6]
theorem ea.cons (e:wanted ops fr o=aa) (h:mr P (bk fr) o m λv a=>ea P ops l K (set fr o.dst v) a):ea P ops (o::l) K fr m:=by
 obtain ⟨n,v,a,d,j,f,i,g,b⟩:=h;refine ⟨max n j,f,i, ?_,b⟩;simp only[k6];rw[if_pos e];exact ⟨v,a,d.mono (wV _ _ (Nat.le_max_left _ _)),BP (wV _ _ (Nat.le_max_right _ _)) _ _ _ _ _ g⟩
theorem mr.pure {a:bS->af} {R:af->Mem->Prop} {v:af} (h:dD P a o v) (b:R v m):mr P a o m R:=⟨0,v,m, .pure h,b⟩
theorem mr.read {a:bS->af} {R:af->Mem->Prop} {v:af} (h:fH P a o m v) (b:R v m):mr P a o m R:=⟨0,v,m, .read h,b⟩
theorem mr.new {a:bS->af} {R:af->Mem->Prop} {v:af} {X:bW} (h:jC P a o m.next X v) (b:R v (m.push X)):mr P a o m R:=⟨0,v,_, .new h,b⟩
theorem mr.fX {b:bS->af} {R:af->Mem->Prop} {v:af} {a:Mem} {n:Nat} (h:hR P (jn P n) b o m v a) (d:R v a):mr P b o m R:=⟨n,v,a, .fX h,d⟩
end
def h2.enter {P:bI} {f:FuncId} {fn:Func} {c:Code} {a:Array af} {m:Mem} {R:af->Mem->Prop} (q:P.funcs[f]? =J fn) (p:qm P fn c) (t:lR P f=aa) (s:a.size<=fn.ntmps)
  (h:W P c (λe k g=>(e= .normal\/e= .ret)/\∃d,q2 P k g fn.results.toList d/\(d.length=1\/∀x∈d,storable x=aa)/\
   (R (pack d) g\/(R (pack d) (g.nf m.next)/\low m.next (pack d)/\∀b,b<m.next->g.blk b=m.blk b\/qe m.next (g.blk b))))
   (λi=>(a++nj (fn.ntmps - a.size) undef).getD i undef) m):h2 P f a m R:=by
 obtain ⟨n,e,k,g,w,y,d,l,r,j⟩:=h;rcases j with j|⟨j,A,z⟩
 ·exact ⟨n+1,_,_, .inr ⟨fn,c,e,k,g,d,q,p,t,s,w,y,l,rfl,r, .inl rfl⟩,j⟩
 ·exact ⟨n+1,_,_, .inr ⟨fn,c,e,k,g,d,q,p,t,s,w,y,l,rfl,r, .inr ⟨rfl,A,z⟩⟩,j⟩
def h2.sort {P:bI} {f:FuncId} {a:Array af} {m m':Mem} {v:af} {R:af->Mem->Prop} (d:lR P f=aa) (h:LB P f a m v m') (b:R v m'):h2 P f a m R:=⟨1,v,m', .inl ⟨d,h⟩,b⟩
def h5 (w:World):cj:=λb=>if b<w.heap.size then J ⟨b,0,0,0⟩ else ae
def xt (b:Nat):af->Option af| .slice (J _) 0 0=>J (.slice (J ⟨b,0,ae⟩) 0 0)|_=>ae
open Classical in
noncomputable def ig (w:World):Mem:={next:=w.heap.size,blk:=λb=>if b<w.heap.size then .ro (λi=>match w.cell? ⟨b,i,ae⟩ with|some v=>if eA (h5 w) v v then J v else xt b v|none=>ae) else .dead}
def acp {b:Nat} {v u:af} (h:xt b v=J u):∃a,v= .slice (J a) 0 0/\u= .slice (J ⟨b,0,ae⟩) 0 0:=by
 unfold xt at h
 grind
def w1 {w:World} {b:Nat} {e:kl} (h:h5 w b=J e):b<w.heap.size/\e.blk=b:=by
 grind [h5]
def adH {w:World} {b:Nat} {e:kl} (h:h5 w b=J e):e.db=0:=by
 grind [h5]
def arb {w:World} {b i:Nat} {v:af} (h:w.cell? ⟨b,i,ae⟩=J v) (a:eA (h5 w) v v):(ig w).load b i=J v:=by
 have d:b<w.heap.size:=I8 w ⟨b,i,ae⟩ h;simp[Mem.load,ig,d,h,a]
def ad8 (w:World):WF (ig w) where
 dead:=λb f=>by have f:w.heap.size<=b:=f;simp[ig,show ¬b<w.heap.size by omega]
 low:=λb=>by
  simp only[ig];split
  ·intro i v d;simp only at d;split at d
   ·split at d
    ·rename_i g;cases d;exact (Lf (λb e h=>(w1 h).1)).1 g
    ·obtain ⟨a,_,rfl⟩:=acp d;assumption
   ·cases d
  ·exact fs
def arC (P:bI) (w:World) (s:rE P w):Rel P (h5 w) (ig w) w:=by
 refine ⟨⟨?_, ?_, ?_⟩,s,λb e d n=>by obtain ⟨g,k⟩:=w1 d;simp[ig,g,bW.iO] at n⟩
 ·intro b e d;obtain ⟨g,k⟩:=w1 d;exact ⟨g,by rw[k];exact g⟩
 ·intro b e d;obtain ⟨g,k⟩:=w1 d;simp only[ig,g,if_true];intro i v h;simp only at h;have l:∀u,w.cell? ⟨b,i,ae⟩=J u->∃(m:Array af) (t:bV) (bZ:Nat×Nat),w.heap[e.blk]? =J (.cells m t bZ)/\m[i]? =J u:=by
   intro u j;rw[k];simp only[rG] at j;split at j
   ·rename_i c t f x;exact ⟨c,t,f,x,by simpa using j⟩
   ·cases j
  split at h
  ·rename_i u j;obtain ⟨m,t,bZ,p,q⟩:=l u j;split at h
   ·rename_i r;cases h;exact ⟨m,t,bZ,_,p,by rw[adH d,lH];exact q,r⟩
   ·obtain ⟨a,rfl,rfl⟩:=acp h;exact ⟨m,t,bZ,_,p,by rw[adH d,lH];exact q,e,rfl,d, .inr (.inr (.inr (.inl ⟨rfl,rfl,a,rfl⟩)))⟩
  ·cases h
 ·intro b z e y d A n;obtain ⟨g,k⟩:=w1 d;simp[ig,g,bW.iO] at n
def aqc {P:bI} (A:P.follows .mixedOrders=aa) {f:FuncId} {d:Array af} {w:World} (r:rE P w) (B:∀a∈d.toList,de (h5 w) a a) (h:h2 P f d (ig w) λv _=>v= .bool aa):
  Calls P f d w λe m=>e= .returned (.bool aa)/\RowKit.Below w.heap.size w m:=by
 obtain ⟨n,v,z,j,rfl⟩:=h;have t:=(acd A n).2 f d (ig w) _ z j (h5 w) w d (ad8 w) (arC P w r) (by
  have:∀l:List af,(∀a∈l,de (h5 w) a a)->bP (de (h5 w)) l l:=by
   intro l;induction l with
   |nil=>intro _;exact fs
   |cons a l p=>intro h;exact ⟨h a (by simp),p λb i=>h b (by simp[i])⟩
  exact this _ B)
 refine t.2.mono ?_;rintro e m ⟨E,F,rfl,g,q⟩;have y:=q.bool;subst y;refine ⟨rfl,g.gd.os,g.gd.tape,g.gd.output,g.gd.size,λk x=>g.gd.block k x λb e i s=> ?_⟩;obtain ⟨j,C⟩:=w1 i;simp[ig,j,bW.iO] at s
end
section
def bW.iD:bW->Prop| .dead| .lock _ _ _ _=>False|_=>True
def bW.mem:bW->bW| .lock _ _ L t=> .own L t|b=>b
def bW.iD.ne {x:bW} (h:x.iD):x≠ .dead:=λe=>by rw[e] at h;exact h
def bW.iD.mem {x:bW} (h:x.iD):x.mem=x:=by cases x<;>first|rfl|exact h.elim
def lk (z:Nat->bW) (m:Mem):Prop:=∀b,z b≠ .dead->m.blk b=(z b).mem/\b<m.next
def lk.iD {z:Nat->bW} {m:Mem} (h:lk z m) {b:Nat} (a:(z b).iD):m.blk b=z b/\b<m.next:=by
 have:=h b a.ne;rw[a.mem] at this
 grind
def fl (z a:Nat->bW):Prop:=∀b,(z b).iD->a b=z b
theorem fl.refl (z:Nat->bW):fl z z:=λ_ _=>rfl
def fl.trans {a b c:Nat->bW} (h:fl a b) (k:fl b c):fl a c:=λx d=>by
 have e:=h x d;rw[k x (by grind),e]
def nH (z:Nat->bW) (b o:Nat):Option af:=match z b with| .ro rd=>rd o| .own L _=>L[o]?| .map _ _=>ae| .lock _ _ _ _=>ae| .dead=>ae
theorem w5 {z:Nat->bW} {b o:Nat} {v:af} (h:nH z b o=J v):(z b).iD:=by
 unfold nH at h;cases a:z b with
 |dead=>grind
 |lock _ _ _ _=>grind
 |_=>exact fs
def ar3 {z a:Nat->bW} (h:fl z a) {b o:Nat} {v:af} (d:nH z b o=J v):nH a b o=J v:=by
 have:=h b (w5 d)
 grind [nH]
def KO {z:Nat->bW} {m:Mem} (h:lk z m) {b o:Nat} {v:af} (a:nH z b o=J v):m.load b o=J v:=by
 have:=(h b (w5 a).ne).1;rw[(w5 a).mem] at this
 grind [nH,Mem.load]
structure cM (aK:Type) where
 bM:Nat
 tid:bV
 rd:(Nat->bW)->aK->List af->Prop
 len:∀z x cs,rd z x cs->cs.length=bM
 mono:∀z z',fl z z'->∀x cs,rd z x cs->rd z' x cs
 one:∀z x cs,rd z x cs->∀c∈cs,storable c=aa/\c.cells=#[c]
def o2 (z:Nat->bW) (b o:Nat) (a:List af):Prop:=∀(i:Nat) (u:af),a[i]? =J u->nH z b (o+i)=J u
def ql (L:List af) (o:Nat) (a:List af):Prop:=∀(i:Nat) (u:af),a[i]? =J u->L[o+i]? =J u
def fA {e:Type} (T:cM e) (z:Nat->bW) (d:List e) (v:af):Prop:=
 (v= .slice ae 0 0/\d=[])\/
 ∃b a c,v= .slice (J ⟨b,a,ae⟩) d.length c/\(z b).iD/\((c=dc/\∃L,z b= .own L T.tid/\a+d.length*T.bM<=L.length)\/(c<dc/\d.length<=c))/\
  ∀(i:Nat) (x:e),d[i]? =J x->∃f,T.rd z x f/\o2 z b (a+i*T.bM) f
def Kp {z d:Nat->bW} (h:fl z d) {b o:Nat} {a:List af} (e:o2 z b o a):o2 d b o a:=λi u f=>ar3 h (e i u f)
def fA.mono {g:Type} {T:cM g} {z f:Nat->bW} (h:fl z f) {l:List g} {v:af} (d:fA T z l v):fA T f l v:=by
 rcases d with d|⟨b,e,c,s,j,a,n⟩
 ·exact .inl d
 ·refine .inr ⟨b,e,c,s,by rw[h b j];grind, ?_,λi x m=> ?_⟩
  ·rcases a with ⟨a,L,t,p⟩|a
   ·exact .inl ⟨a,L,by rw[h b j];grind,p⟩
   grind
  ·obtain ⟨k,q,r⟩:=n i x m;exact ⟨k,T.mono z f h x k q,Kp h r⟩
def fA.nil {a:Type} {T:cM a} {z:Nat->bW}:fA T z [] (.slice ae 0 0):= .inl ⟨rfl,rfl⟩
def fA.len {d:Type} {T:cM d} {z:Nat->bW} {e:List d} {v:af} (h:fA T z e v):∃a c,v= .slice a e.length c:=by
 rcases h with ⟨rfl,rfl⟩|⟨b,f,c,rfl,_⟩
 ·simp_all
 grind
def da:af->Option Nat| .slice (J a) _ _=>J a.block| .pointer (J a)=>J a.block|_=>ae
def fO {d:Type} (T:cM d) (z:Nat->bW) (m:Mem) (a:List d) (v:af):Prop:=
 (v= .slice ae 0 0/\a=[])\/
 ∃b o L c,v= .slice (J ⟨b,o,ae⟩) a.length c/\m.blk b= .own L T.tid/\b<m.next/\z b= .dead/\o+a.length*T.bM<=L.length/\(c=dc\/(c<dc/\a.length<=c/\o+c*T.bM<=L.length))/\
  ∀(i:Nat) (x:d),a[i]? =J x->∃e,T.rd z x e/\ql L (o+i*T.bM) e
def fO.AW {d:Type} {T:cM d} {z:Nat->bW} {m:Mem} {a:List d} {v:af} (h:∃b L c,v= .slice (J ⟨b,0,ae⟩) a.length c/\m.blk b= .own L T.tid/\b<m.next/\z b= .dead/\a.length*T.bM<=L.length/\(c=dc\/(c<dc/\a.length<=c/\c*T.bM<=L.length))/\
  ∀(i:Nat) (x:d),a[i]? =J x->∃e,T.rd z x e/\ql L (i*T.bM) e):fO T z m a v:=by
 obtain ⟨b,L,c,k,g,f,j,n,p,q⟩:=h;exact .inr ⟨b,0,L,c,k,g,f,j,by grind,by grind,λi x l=>by grind⟩
def fO.nil {a:Type} {T:cM a} {z:Nat->bW} {m:Mem}:fO T z m [] (.slice ae 0 0):= .inl ⟨rfl,rfl⟩
def fO.frame {d:Type} {T:cM d} {z:Nat->bW} {m a:Mem} {e:List d} {v:af} (h:fO T z m e v) (i:∀b,da v=J b->b<m.next->a.blk b=m.blk b/\b<a.next):fO T z a e v:=by
 rcases h with h|⟨b,o,L,c,rfl,q,g,f,j,k,l⟩
 ·exact .inl h
 ·obtain ⟨p,n⟩:=i b rfl g;exact .inr ⟨b,o,L,c,rfl,by grind,n,f,j,k,l⟩
def fO.lt {d:Type} {T:cM d} {z:Nat->bW} {m:Mem} {e:List d} {v:af} (h:fO T z m e v):∀b,da v=J b->b<m.next/\z b= .dead:=by
 rcases h with ⟨rfl,_⟩|⟨b,o,L,c,rfl,j,g,f,_⟩
 ·intro b a;cases a
 ·intro i a;cases a;grind
def fO.len {d:Type} {T:cM d} {z:Nat->bW} {m:Mem} {e:List d} {v:af} (h:fO T z m e v):∃a c,v= .slice a e.length c:=by
 rcases h with ⟨rfl,rfl⟩|⟨b,o,L,c,rfl,_⟩
 ·simp_all
 grind
def jT (z:Nat->bW) (m:Mem) (p:Option Nat):Nat->bW:=λb=>if p=J b then m.blk b else z b
def Cj {z:Nat->bW} {m:Mem} {p:Option Nat} (h:∀b,p=J b->z b= .dead):fl z (jT z m p):=by
 intro b a;unfold jT;split
 ·exact absurd (h b ‹_›) a.ne
 rfl
def Lj {z:Nat->bW} {m:Mem} {p:Option Nat} (h:lk z m) (d:∀b,p=J b->b<m.next/\(m.blk b).mem=m.blk b):lk (jT z m p) m:=by
 intro b a;unfold jT at a⊢;split at a
 ·grind
 ·rw[if_neg ‹_›];exact h b a
def fO.awh {e:Type} {T:cM e} {z:Nat->bW} {m:Mem} {a:List e} {v:af} (h:fO T z m a v):fA T (jT z m (da v)) a v:=by
 rcases h with h|⟨b,o,L,c,rfl,B,t,s,w,y,n⟩
 ·exact .inl h
 ·have f:jT z m (da (.slice (J ⟨b,o,ae⟩) a.length c)) b= .own L T.tid:=by grind [jT,da]
  have d:fl z (jT z m (da (.slice (J ⟨b,o,ae⟩) a.length c))):=Cj λA l=>by cases l;grind
  refine .inr ⟨b,o,c,rfl,by rw[f];exact fs, ?_,λi x j=> ?_⟩
  ·grind
  ·obtain ⟨g,p,q⟩:=n i x j;refine ⟨g,T.mono _ _ d x g p,λk u r=> ?_⟩;simp only[nH,f];exact q k u r
def e6 (p q:Option Nat):Prop:=∀b,p=J b->q≠J b
def e6.symm {p q:Option Nat} (h:e6 p q):e6 q p:=λb d a=>h b a d
def e6.qg {q:Option Nat}:e6 q Option.none:=λ_ _ h=>by grind
structure dL (z:Nat->bW) (e m:Mem) (k:Option Nat):Prop where
 bZ:lk z m
 dead:∀b,m.next<=b->m.blk b= .dead
 oL:∀b,e.next<=b->e.blk b= .dead
 next:e.next<=m.next
 kept:∀b,b<e.next->k≠J b->m.blk b=e.blk b
def dL.start {z:Nat->bW} {m:Mem} {k:Option Nat} (h:lk z m) (a:∀b,m.next<=b->m.blk b= .dead):dL z m m k:=⟨h,a,a,e4 _,λ_ _ _=>rfl⟩
def dL.push {z:Nat->bW} {e m:Mem} {k:Option Nat} (h:dL z e m k) (x:bW):dL z e (m.push x) k:=by
 refine ⟨λb a=> ?_,λb a=> ?_,h.oL,Nat.le_succ_of_le h.next,λb a d=> ?_⟩
 ·have:=h.bZ b a
  grind [Mem.push]
 ·simp only[Mem.push] at a⊢;rw[if_neg (by omega)];exact h.dead b (by omega)
 ·simp only[Mem.push];have:=h.next;rw[if_neg (by omega)];exact h.kept b a d
def dL.put {z:Nat->bW} {e m:Mem} {k:Option Nat} (h:dL z e m k) {b:Nat} (x:bW) (g:z b= .dead) (i:b<m.next) (f:e.next<=b\/k=J b):dL z e (m.put b x) k:=by
 refine ⟨λc a=> ?_,λc a=> ?_,h.oL,h.next,λc a d=> ?_⟩
 ·have:=h.bZ c a
  grind [Mem.put]
 ·have a:m.next<=c:=a;simp only[Mem.put];rw[if_neg (by omega)];exact h.dead c a
 ·simp only[Mem.put];rw[if_neg ?_]
  ·exact h.kept c a d
  grind
structure gl (m m':Mem) (k:Option Nat):Prop where
 next:m.next<=m'.next
 dead:∀b,m'.next<=b->m'.blk b= .dead
 blk:∀b,b<m.next->k≠J b->m'.blk b=m.blk b
def dL.same {z:Nat->bW} {e m m':Mem} {k q:Option Nat} (h:dL z e m k) (s:gl m m' q) (f:∀b,q=J b->z b= .dead/\(e.next<=b\/k=J b)):dL z e m' k:=by
 refine ⟨λb a=> ?_,s.dead,h.oL,jd h.next s.next,λb a g=> ?_⟩
 ·have:=h.bZ b a;refine ⟨?_,hS this.2 s.next⟩;rw[s.blk b this.2 (λd=>a (f b d).1)]
  grind
 ·rw[s.blk b (hS a h.next) (λd=> ?_)]
  ·exact h.kept b a g
  grind
def dL.awi {z:Nat->bW} {e m:Mem} (h:dL z e m ae):m.nf e.next=e:=by
 have:(m.nf e.next).blk=e.blk:=by
  funext b;simp only[Mem.nf];split
  ·exact h.kept b ‹_› (by simp)
  ·exact (h.oL b (by omega)).symm
 simp_all [Mem.nf]
def cM.flat {b:Type} (t:bV) (f:b->af) (g:∀x,dy (f x)=aa):cM b where
 bM:=1
 tid:=t
 rd:=λ_ x d=>d=[f x]
 len:=λ_ _ _ h=>by rw[h];rfl
 mono:=λ_ _ _ _ _ h=>h
 one:=λ_ x d h c a=>by rw[h] at a;simp only[IM] at a;subst a;have:=g x;cases e:f x<;>simp[e,dy] at this<;>first|exact ⟨rfl,rfl⟩|exact ⟨by simp[storable,this],rfl⟩
def str (s:List UInt8):af:= .string ⟨s.toArray⟩
def I4 (t:bV) (k:aG):cM Int:=cM.flat t (λn=> .int k n) λ_=>rfl
def Cn (t:bV):cM Bool:=cM.flat t (λn=> .bool n) λ_=>rfl
def I5 (t:bV):cM (List UInt8):=cM.flat t str λ_=>rfl
def TV {d:Type} (t:bV) (T:cM d):cM (List d) where
 bM:=1
 tid:=t
 rd:=λz j f=>∃v,f=[v]/\fA T z j v
 len:=λ_ _ _ h=>by obtain ⟨v,rfl,_⟩:=h;rfl
 mono:=λ_ _ h _ _ g=>by obtain ⟨v,i,b⟩:=g;exact ⟨v,i,b.mono h⟩
 one:=λ_ _ f h c e=>by obtain ⟨v,rfl,b⟩:=h;simp only[IM] at e;subst e;obtain ⟨a,n,rfl⟩:=b.len;exact ⟨rfl,rfl⟩
end
section
section
variable {P:bI} {ap:bS->af} {o:Oper}
def tF {x y:bS} (h:o.op.operands=#[x,y]) {v:af} (e:∀f b,o.op≠ .select f b) (i:flat (ap x)=aa) (g:flat (ap y)=aa) (a:flat v=aa) (d:∀w,(execOp ap o).run P w= .ok (.value v) w):dD P ap o v:=by
 refine .flat v e (λz j=> ?_) a d
 grind
def Li {x:bS} (h:o.op.operands=#[x]) {v:af} (e:∀f b,o.op≠ .select f b) (g:flat (ap x)=aa) (a:flat v=aa) (d:∀w,(execOp ap o).run P w= .ok (.value v) w):dD P ap o v:=by
 refine .flat v e (λz i=> ?_) a d
 grind
def auR {x:bS} {v:af} (h:o.op= .move x) (a:ap x=v):dD P ap o v:=a▸ .move x (.inl h)
def asF {x:bS} {v:af} (h:o.op= .assign x) (a:ap x=v):dD P ap o v:=a▸ .move x (.inr h)
def aeH {c a b:bS} {t:Bool} {v:af} (h:o.op= .pick c a b) (e:ap c= .bool t) (d:(if t then ap a else ap b)=v):dD P ap o v:=d▸ .pick c a b t h e
def adm {x:bS} {i:Nat} {a:List af} {v:af} (h:o.op= .extract x i) (d:ap x= .tuple a.toArray) (b:a[i]? =J v):dD P ap o v:= .extract x i _ v h d (by simpa using b)
section
variable {x y:bS} {t u:bV} {k:aG} {a b:Int}
def om {d:BinOp} (h:o.op= .binOp d t x y u) (g:ap x= .int k a) (f:ap y= .int k b) {v:af} (i:∀w,(binOp d t (.int k a) (.int k b)).run P w= .ok v w) (e:flat v=aa):dD P ap o v:=by
 refine tF (x:=x) (y:=y) (by rw[h];rfl) (by grind) (by rw[g];rfl) (by rw[f];rfl) e λw=> ?_;simp_all [eqGuard,execOp]
def oj {d:BinOp} (f:d≠ .shl) (e:d≠ .shr) (w:World):(binOp d t (.int k a) (.int k b)).run P w=(match d with
   | .add| .sub| .mul=>Op.intArith d k a b
   | .quo| .rem=>Op.intDiv d k a b
   | .and| .or| .xor| .andNot=>Op.intBits d k a b
   |_=>Op.intCmp d a b).run P w:=by
 cases d<;>first|exact absurd rfl f|exact absurd rfl e|grind [binOp]
def apO (h:o.op= .binOp .add t x y u) (e:ap x= .int k a) (d:ap y= .int k b):dD P ap o (.int k (k.wrap (a+b))):=om h e d (λw=>by rw[oj (by simp) (by simp)];rfl) rfl
def apZ (h:o.op= .binOp .sub t x y u) (e:ap x= .int k a) (d:ap y= .int k b):dD P ap o (.int k (k.wrap (a - b))):=om h e d (λw=>by rw[oj (by simp) (by simp)];rfl) rfl
def apU (h:o.op= .binOp .mul t x y u) (e:ap x= .int k a) (d:ap y= .int k b):dD P ap o (.int k (k.wrap (a*b))):=om h e d (λw=>by rw[oj (by simp) (by simp)];rfl) rfl
def abP (h:o.op= .binOp .quo t x y u) (e:ap x= .int k a) (d:ap y= .int k b) (f:b≠0):dD P ap o (.int k (k.wrap (a.tdiv b))):=om h e d (λw=>by rw[oj (by simp) (by simp)];simp[Op.intDiv,f]) rfl
def abQ (h:o.op= .binOp .rem t x y u) (e:ap x= .int k a) (d:ap y= .int k b) (f:b≠0):dD P ap o (.int k (a.tmod b)):=om h e d (λw=>by rw[oj (by simp) (by simp)];simp[Op.intDiv,f]) rfl
def ih (d:BinOp) (k:aG) (x y:Int):Int:=
 let a:=qC k.bits x
 let b:=qC k.bits y
 match d with
 | .and=>k.wrap (a&&&b).toNat
 | .or=>k.wrap (a|||b).toNat
 | .xor=>k.wrap (a ^^^ b).toNat
 |_=>k.wrap (a&&&~~~b).toNat
def apP (h:o.op= .binOp .and t x y u) (e:ap x= .int k a) (d:ap y= .int k b):dD P ap o (.int k (ih .and k a b)):=om h e d (λw=>by rw[oj (by simp) (by simp)];rfl) rfl
def apY (h:o.op= .binOp .or t x y u) (e:ap x= .int k a) (d:ap y= .int k b):dD P ap o (.int k (ih .or k a b)):=om h e d (λw=>by rw[oj (by simp) (by simp)];rfl) rfl
def ap0 (h:o.op= .binOp .xor t x y u) (e:ap x= .int k a) (d:ap y= .int k b):dD P ap o (.int k (ih .xor k a b)):=om h e d (λw=>by rw[oj (by simp) (by simp)];rfl) rfl
def asE (h:o.op= .binOp .andNot t x y u) (e:ap x= .int k a) (d:ap y= .int k b):dD P ap o (.int k (ih .andNot k a b)):=om h e d (λw=>by rw[oj (by simp) (by simp)];rfl) rfl
def abO (h:o.op= .binOp .eql t x y u) (e:ap x= .int k a) (d:ap y= .int k b):dD P ap o (.bool (a==b)):=om h e d (λw=>by rw[oj (by simp) (by simp)];rfl) rfl
def apW (h:o.op= .binOp .neq t x y u) (e:ap x= .int k a) (d:ap y= .int k b):dD P ap o (.bool (a !=b)):=om h e d (λw=>by rw[oj (by simp) (by simp)];rfl) rfl
def apT (h:o.op= .binOp .lss t x y u) (e:ap x= .int k a) (d:ap y= .int k b):dD P ap o (.bool (decide (a<b))):=om h e d (λw=>by rw[oj (by simp) (by simp)];rfl) rfl
def apS (h:o.op= .binOp .leq t x y u) (e:ap x= .int k a) (d:ap y= .int k b):dD P ap o (.bool (decide (a<=b))):=om h e d (λw=>by rw[oj (by simp) (by simp)];rfl) rfl
def apR (h:o.op= .binOp .gtr t x y u) (e:ap x= .int k a) (d:ap y= .int k b):dD P ap o (.bool (decide (b<a))):=om h e d (λw=>by rw[oj (by simp) (by simp)];rfl) rfl
def apQ (h:o.op= .binOp .geq t x y u) (e:ap x= .int k a) (d:ap y= .int k b):dD P ap o (.bool (decide (b<=a))):=om h e d (λw=>by rw[oj (by simp) (by simp)];rfl) rfl
def atf {op:BinOp} {e:aG} (h:o.op= .binOp op t x y u) (f:ap x= .int k a) (d:ap y= .int e b) (j:0<=b) (i:op= .shl\/op= .shr):
  dD P ap o (.int k (if op= .shl then k.wrap (a*2 ^ (min b.toNat k.bits)) else a.fdiv (2 ^ (min b.toNat k.bits)))):=by
 refine tF (x:=x) (y:=y) (by rw[h];rfl) (by grind) (by rw[f];rfl) (by rw[d];rfl) rfl λw=> ?_;have g:¬b<0:=by omega
 rcases i with rfl|rfl
 ·simp[execOp,h,f,d,eqGuard,binOp,Op.shift,g]
 ·simp[execOp,h,f,d,eqGuard,binOp,Op.shift,g]
def apX {b:Bool} (h:o.op= .unOp .not t x) (a:ap x= .bool b):dD P ap o (.bool (!b)):=
 Li (x:=x) (by rw[h];rfl) (by grind) (by rw[a];rfl) rfl λw=>by simp only[execOp,h,a];rfl
def apV (h:o.op= .unOp .neg t x) (b:ap x= .int k a):dD P ap o (.int k (k.wrap (0 - a))):=
 Li (x:=x) (by rw[h];rfl) (by grind) (by rw[b];rfl) rfl λw=>by simp only[execOp,h,b];rfl
def avt {d:TypeDesc} {b:aG} (h:o.op= .convert t u x) (f:P.underlying t=J d) (g:P.underlying u=J (.int b)) (e:ap x= .int k a):dD P ap o (.int b (b.wrap a)):=
 Li (x:=x) (by rw[h];rfl) (by grind) (by rw[e];rfl) rfl λw=>by simp_all [execOp,convert,fw,Conv.intToInt]
def auP {f:Array bV} (h:o.op= .call {callee:= .builtin .max,args:=#[x,y],argTypes:=f}) (e:ap x= .int k a) (d:ap y= .int k b):dD P ap o (.int k (max a b)):=by
 refine tF (x:=x) (y:=y) (by rw[h];rfl) (by grind) (by rw[e];rfl) (by rw[d];rfl) rfl λw=> ?_;have:(mu k (if b>a then b else a))= .int k (max a b):=by grind
 simp_all [execOp,resolve,invoke,builtin,Builtin.max_,Builtin.max2]
def auQ {f:Array bV} (h:o.op= .call {callee:= .builtin .min,args:=#[x,y],argTypes:=f}) (e:ap x= .int k a) (d:ap y= .int k b):dD P ap o (.int k (min a b)):=by
 refine tF (x:=x) (y:=y) (by rw[h];rfl) (by grind) (by rw[e];rfl) (by rw[d];rfl) rfl λw=> ?_;have:(mu k (if b<a then b else a))= .int k (min a b):=by grind
 simp_all [execOp,resolve,invoke,builtin,Builtin.min_,Builtin.min2]
end
section
variable {x y:bS} {t u:bV} {s r:List UInt8}
theorem BV:(⟨s.toArray⟩:ByteArray).size=s.length:=by rfl
def auM {d:Array bV} (h:o.op= .call {callee:= .builtin .len,args:=#[x],argTypes:=d}) (a:d[0]? =J t) (e:P.underlying t=J .string) (b:ap x=str s):dD P ap o (.int .i64 s.length):=
 Li (x:=x) (by rw[h];rfl) (by grind) (by rw[b];rfl) rfl λw=>by simp[execOp,h,b,resolve,invoke,builtin,Builtin.len_,a,str,fw e,goInt,BV]
def asG {k:aG} {n:Int} {c:UInt8} (h:o.op= .index t x y) (e:P.underlying t=J .string) (d:ap x=str s) (b:ap y= .int k n) (g:0<=n) (a:s[n.toNat]? =J c):dD P ap o (.int .u8 c.toNat):=by
 refine tF (x:=x) (y:=y) (by rw[h];rfl) (by grind) (by rw[d];rfl) (by rw[b];rfl) rfl λw=> ?_;have i:(⟨s.toArray⟩:ByteArray)[n.toNat]? =J c:=by have j:=(fq.1 a).1;have f:=(fq.1 a).2;rw[getElem?_pos (h:=by grind [BV])];congr 1
 simp_all [execOp,Instr.index,asIntOf,fw,str]
def aql (i k:Nat):(⟨s.toArray⟩:ByteArray).extract i k=⟨((s.take k).drop i).toArray⟩:=by
 have:((⟨s.toArray⟩:ByteArray).extract i k).data=((s.take k).drop i).toArray:=by
  grind [ByteArray.data_extract]
 cases a:(⟨s.toArray⟩:ByteArray).extract i k
 grind
def asH {i e:Option bS} {a b:Nat} (h:o.op= .slice t x i e ae) (n:P.underlying t=J .string) (g:ap x=str s) (l:qo ap i a) (j:nJ ap e s.length b)
  (B:a<=b) (A:b<=s.length):dD P ap o (str ((s.take b).drop a)):=by
 refine .flat _ (by grind) (λz d=> ?_) rfl λw=> ?_
 ·rw[h] at d;cases i with
  |none=>cases e with
   |none=>simp[dm] at d;subst d;rw[g];rfl
   |some y=>
    obtain ⟨k,f⟩:=j;simp[dm] at d;rcases d with rfl|rfl
    ·rw[g];rfl
    ·rw[f];rfl
  |some q=>
   obtain ⟨p,m⟩:=l;cases e with
   |none=>
    simp[dm] at d;rcases d with rfl|rfl
    ·rw[g];rfl
    ·rw[m];rfl
   |some y=>
    obtain ⟨k,f⟩:=j;simp[dm] at d;rcases d with rfl|rfl|rfl
    ·rw[g];rfl
    ·rw[m];rfl
    ·rw[f];rfl
 ·have r:(jc ak s.length s.length (i.map ap) (e.map ap) ae).run P w= .ok (a,b,s.length) w:=by
   cases i with
   |none=>
    simp only[qo] at l;subst l;cases e with
    |none=>simp_all [nJ,jc]
    |some y=>obtain ⟨k,f⟩:=j;simp_all [jc,mL,asIntOf]
   |some q=>
    obtain ⟨p,m⟩:=l;cases e with
    |none=>simp only[nJ] at j;simp_all [jc,mL,asIntOf]
    |some y=>obtain ⟨k,f⟩:=j;simp_all [jc,mL,asIntOf]
  simp only[execOp,h,vM,kD,fw n,jE,IW,vL,g,str,Option.isSome_none,Yx,if_false,nt,BV,r,aql]
def w7 {a:BinOp} (h:o.op= .binOp a t x y u) (e:ap x=str s) (d:ap y=str r) (f:a≠ .shl/\a≠ .shr) {v:af} (g:∀w,(vS a ⟨s.toArray⟩ ⟨r.toArray⟩).run P w= .ok v w) (b:flat v=aa):dD P ap o v:=by
 refine tF (x:=x) (y:=y) (by rw[h];rfl) (by grind) (by rw[e];rfl) (by rw[d];rfl) b λw=> ?_;simp_all [eqGuard,str,binOp,execOp]
def vr (s r:List UInt8):Bool:=Op.bytesLess s r
def P6 (l:List UInt8):(⟨l.toArray⟩:ByteArray).toList=l:=by simp_all
def avv (h:o.op= .binOp .eql t x y u) (b:ap x=str s) (a:ap y=str r):dD P ap o (.bool (s==r)):=w7 h b a (by simp) (λw=>by simp_all [vS]) rfl
def auT (h:o.op= .binOp .neq t x y u) (b:ap x=str s) (a:ap y=str r):dD P ap o (.bool (!(s==r))):=w7 h b a (by simp) (λw=>by simp_all [vS]) rfl
def auO (h:o.op= .binOp .lss t x y u) (b:ap x=str s) (a:ap y=str r):dD P ap o (.bool (vr s r)):=w7 h b a (by simp) (λw=>by simp only[vS,P6];rfl) rfl
def auN (h:o.op= .binOp .leq t x y u) (b:ap x=str s) (a:ap y=str r):dD P ap o (.bool (vr s r||(s==r))):=w7 h b a (by simp) (λw=>by simp only[vS,P6];rfl) rfl
def auJ (h:o.op= .binOp .gtr t x y u) (b:ap x=str s) (a:ap y=str r):dD P ap o (.bool (!(vr s r||(s==r)))):=w7 h b a (by simp) (λw=>by simp only[vS,P6];rfl) rfl
def auI (h:o.op= .binOp .geq t x y u) (b:ap x=str s) (a:ap y=str r):dD P ap o (.bool (!vr s r)):=w7 h b a (by simp) (λw=>by simp only[vS,P6];rfl) rfl
def asO:(⟨s.toArray⟩:ByteArray)++(⟨r.toArray⟩:ByteArray)=⟨(s++r).toArray⟩:=by
 rfl
def avs (h:o.op= .binOp .add t x y u) (d:ap x=str s) (b:ap y=str r) (a:s.length+r.length<=9223372036854775807):dD P ap o (str (s++r)):=w7 h d b (by simp) (λw=>by
 simp only[vS,BV,vP.2 a];rw[if_neg (by show ¬_>(9223372036854775807:Int);omega),asO];rfl) rfl
def acI {e:BinOp} {a b:Bool} (h:o.op= .binOp e t x y u) (g:P.underlying t=J .bool) (j:ap x= .bool a) (i:ap y= .bool b) (f:e= .eql\/e= .neq):dD P ap o (.bool (if e= .eql then a==b else !(a==b))):=by
 refine tF (x:=x) (y:=y) (by rw[h];rfl) (by grind) (by rw[j];rfl) (by rw[i];rfl) rfl λw=> ?_;have n:(Op.equal t (.bool a) (.bool b)).run P w= .ok (a==b) w:=by
  have k:∀d:Nat,(Op.equalIn (d+1) t (.bool a) (.bool b)).run P w= .ok (a==b) w:=λd=>by simp only[Op.equalIn,kD,fw g,jE,nt]
  exact k 9999
 have m:(eqGuard e t x y (.bool a) (.bool b)).run P w= .ok () w:=by rcases f with rfl|rfl<;>rfl
 have l:(binOp e t (.bool a) (.bool b)).run P w= .ok (.bool (if e= .eql then a==b else !(a==b))) w:=by
  rcases f with rfl|rfl
  ·show (do pure (af.bool (<-Op.equal t (.bool a) (.bool b))):Sem af).run P w=_;simp_all
  ·show (do pure (af.bool (!(<-Op.equal t (.bool a) (.bool b)))):Sem af).run P w=_;simp_all
 grind [execOp,kD,jE,nt]
def avu {a b:Bool} (h:o.op= .binOp .eql t x y u) (d:P.underlying t=J .bool) (f:ap x= .bool a) (e:ap y= .bool b):dD P ap o (.bool (a==b)):=acI h d f e (.inl rfl)
def auS {a b:Bool} (h:o.op= .binOp .neq t x y u) (d:P.underlying t=J .bool) (f:ap x= .bool a) (e:ap y= .bool b):dD P ap o (.bool (!(a==b))):=acI h d f e (.inr rfl)
end
end
end
section
def al {a:Type} (b:List a) (i:Int):Option a:=if 0<=i then b[i.toNat]? else ae
def o3 {b:Type} {a:List b} {i:Int} {x:b} (h:al a i=J x):0<=i/\i<a.length/\a[i.toNat]? =J x:=by
 grind [al]
def nT (z:Nat->bW) (p:af) (a:List af):Prop:=∃b o,p= .pointer (J ⟨b,o,ae⟩)/\o2 z b o a
def Yz (m:Mem) (p:af) (a:List af):Prop:=∃b o,p= .pointer (J ⟨b,o,ae⟩)/\∀(i:Nat) (u:af),a[i]? =J u->m.load b (o+i)=J u
section
variable {P:bI} {ap:bS->af} {o:Oper} {aK:Type} {T:cM aK} {z:Nat->bW} {m:Mem} {xs:List aK} {v:af} {x y:bS} {t e u:bV} {i:TypeInfo} {d:TypeDesc}
theorem Cc {b:Nat}:∀(n a:Nat) (d:List af),d.length=n->(∀(i:Nat) (u:af),d[i]? =J u->m.load b (a+i)=J u)->kd m b a n=J d
 |0,a,d,e,_=>by rw[yl e];rfl
 |n+1,a,c::d,e,h=>by
  have j:=h 0 c (by rfl);have f:=Cc n (a+1) d (by grind) λi u g=>by have:=h (i+1) u (by grind);rw[show a+1+i=a+(i+1) by omega];omega
  grind [kd]
 |n+1,a,[],e,_=>by grind
def auL {k:aG} {n:Int} {a:aK} (h:o.op= .indexAddr t x y) (g:P.underlying t=J (.slice e)) (q:P.info? e=J i) (E:i.size=T.bM) (m:ap x=v) (j:ap y= .int k n) (s:fA T z xs v) (A:al xs n=J a):
  ∃p d,dD P ap o p/\T.rd z a d/\nT z p d:=by
 obtain ⟨r,C,l⟩:=o3 A;rcases s with ⟨_,rfl⟩|⟨b,f,c,rfl,_,_,w⟩
 ·grind
 ·obtain ⟨d,B,F⟩:=w _ a l;exact ⟨_,d, .indexAddr t x y e i b f _ c k n h g q m j r C,B,b,_,rfl,by grind⟩
def agq (s:Nat) (v:af) (n:Nat) (p:af):Prop:=∃b a l c,v= .slice (J ⟨b,a,ae⟩) l c/\p= .pointer (J ⟨b,a+n*s,ae⟩)
def auK {k:aG} {n:Int} {a:aK} (h:o.op= .indexAddr t x y) (g:P.underlying t=J (.slice e)) (w:P.info? e=J i) (H:i.size=T.bM) (r:ap x=v) (l:ap y= .int k n) (B:fO T z m xs v) (F:al xs n=J a):
  ∃p d,dD P ap o p/\T.rd z a d/\Yz m p d/\agq T.bM v n.toNat p:=by
 obtain ⟨A,M,q⟩:=o3 F;rcases B with ⟨_,rfl⟩|⟨b,f,L,c,rfl,s,_,_,N,_,E⟩
 ·grind
 ·obtain ⟨d,I,K⟩:=E _ a q;refine ⟨_,d, .indexAddr t x y e i b f _ c k n h g w r l A M,I,⟨b,_,rfl,λj u C=> ?_⟩,⟨b,f,_,c,rfl,by grind⟩⟩;simp only[Mem.load,s,H];exact K j u C
def gi {d:Type} (e:List d) (a b:Int):Option (List d):=if 0<=a/\a<=b/\b<=e.length then J ((e.take b.toNat).drop a.toNat) else ae
def Ws {d:List aK} {a b:Int} {r:List aK} (h:gi d a b=J r):0<=a/\a<=b/\b<=d.length/\r=(d.take b.toNat).drop a.toNat:=by
 grind [gi]
def y5 (a:bS->af) (b:Option bS) (n:Int):Prop:=match b with|none=>n=0|some y=>∃k,a y= .int k n
def zK (a:bS->af) (b:Option bS) (l:Nat) (n:Int):Prop:=match b with|none=>n=l|some y=>∃k,a y= .int k n
def K4 {b:bS->af} {a:Option bS} {n:Nat} (h:y5 b a n):qo b a n:=by
 cases a with
 |none=>grind [y5,qo]
 |some y=>exact h
def KM {b:bS->af} {a:Option bS} {l n:Nat} (h:zK b a l n):nJ b a l n:=by
 cases a with
 |none=>grind [zK,nJ]
 |some y=>exact h
def WU {d:List aK} {a b k:Nat} {r:aK} (h:((d.take b).drop a)[k]? =J r):d[a+k]? =J r:=by
 grind
def aet {P:bI} {C:FuncId->Array af->Mem->af->Mem->Prop} {b a:Nat} {L d:List af} (h:o.op= .store t x y) (j:P.info? t=J i) (g:ap x= .pointer (J ⟨b,a,ae⟩)) (k:m.blk b= .own L e) (f:storable (ap y)=aa) (l:(ap y).cells.toList=d) (p:d.length=i.size) (n:a+d.length<=L.length):
  hR P C ap o m undef (m.put b (.own (eY L a d) e)):=by
 subst l;exact .store t x y b a i L e h g j k f (by grind) (by grind)
def zm {b:Nat} {x:bW} (e:∀b,m.next<=b->m.blk b= .dead) (d:b<m.next):gl m (m.put b x) (J b):=by
 refine ⟨e4 _,λc a=> ?_,λc a f=> ?_⟩
 ·grind [Mem.put]
 grind [Mem.put]
def BN {x:bW} (d:∀b,m.next<=b->m.blk b= .dead):gl m (m.push x) ae:=by
 refine ⟨mo _,λc a=> ?_,λc a _=> ?_⟩
 ·grind [Mem.push]
 grind [Mem.push]
def fO.same {m':Mem} {q:Option Nat} (h:fO T z m xs v) (s:gl m m' q) (f:e6 (da v) q):fO T z m' xs v:=
 h.frame λb d a=>⟨s.blk b a (λe=>f b d e),hS a s.next⟩
def arQ {a:Mem} {q:Option Nat} {b:Nat} {X:bW} (h:m.blk b=X) (d:b<m.next) (s:gl m a q) (e:q≠J b):a.blk b=X/\b<a.next:=⟨by rw[s.blk b d e];exact h,hS d s.next⟩
def fO.store {n:Nat} {a r:aK} {i e:List af} {f:Nat} {new:List af} {b d l c:Nat} (Q:fO T z m xs v) (R:∀b,m.next<=b->m.blk b= .dead) (H:v= .slice (J ⟨b,d,ae⟩) l c) (S:xs[n]? =J a) (I:T.rd z a i) (O:Yz m (.pointer (J ⟨b,d+n*T.bM,ae⟩)) i) (C:T.rd z r e) (X:e=eY i f new) (P:f+new.length<=i.length):
  ∃L,m.blk b= .own L T.tid/\d+n*T.bM+f+new.length<=L.length/\fO T z (m.put b (.own (eY L (d+n*T.bM+f) new) T.tid)) (xs.set n r) v/\gl m (m.put b (.own (eY L (d+n*T.bM+f) new) T.tid)) (J b):=by
 rcases Q with ⟨rfl,_⟩|⟨dJ,f1,L,c3,E,M,y,U,aR,kJ,Y⟩
 ·grind
 ·subst H;simp only[af.slice.injEq,kB.injEq,Addr.mk.injEq,and_true] at E;obtain ⟨⟨rfl,rfl⟩,rfl,rfl⟩:=E;have x:n<xs.length:=(fq.1 S).1;have B:=T.len z a i I;have K:=T.len z r e C;have uT:d+n*T.bM+T.bM<=L.length:=by
   have:(n+1)*T.bM<=xs.length*T.bM:=oH _ x
   grind
  have dE:(eY L (d+n*T.bM+f) new).length=L.length:=mB _ _ _;refine ⟨L,M,by omega, .inr ⟨b,d,eY L (d+n*T.bM+f) new,c,by simp,by simp[Mem.put],y,U,by grind,by grind,λk w j=> ?_⟩,zm R y⟩;rw[List.getElem?_set] at j;by_cases p:n=k
  ·subst p;simp[x] at j;subst j;refine ⟨e,C,λq u g=> ?_⟩;have h:=(fq.1 g).1;rw[X,o5 _ _ _ _ P] at g;rw[o5 _ _ _ _ (by omega)];by_cases F:f<=q/\q<f+new.length
   ·rw[if_pos F] at g;rw[if_pos (by omega),show d+n*T.bM+q - (d+n*T.bM+f)=q - f by omega];grind
   ·rw[if_neg F] at g;rw[if_neg (by omega)];obtain ⟨jR,iQ,bb,N⟩:=O
    grind [Mem.load]
  ·rw[if_neg p] at j;obtain ⟨t,A,V⟩:=Y k w j;refine ⟨t,A,λq u g=> ?_⟩;have h:=(fq.1 g).1;rw[T.len z w t A] at h;rw[o5 _ _ _ _ (by omega)];have Z:¬(d+n*T.bM+f<=d+k*T.bM+q/\d+k*T.bM+q<d+n*T.bM+f+new.length):=by
    rcases Nat.lt_or_gt_of_ne p with s|s
    ·have:(n+1)*T.bM<=k*T.bM:=oH _ s
     grind
    ·have:(k+1)*T.bM<=n*T.bM:=oH _ s
     grind
   rw[if_neg Z];exact V q u g
end
end
end Go.aF