/- A part of the proof of YardOrders; no condition of our own. -/
import Derived.Calls
import Derived.Orders
import Derived.Tactics
import Derived.Below
import Derived.Defers
import Derived.WalkKit
import Derived.WalkSpells
set_option linter.defProp false
set_option linter.unusedSimpArgs false
set_option linter.unusedVariables false
open Array renaming ext'->Ii,isEmpty_iff->Yt,range->tW,replicate->nj,toList_append->Yu,toList_extract->Yv,toList_map->ye
open Bool renaming and_eq_true->fx,false_eq_true->Yx,false->ak,true->aa
open Function renaming comp->YD
open Go renaming IntKind->aG,Operand->bS,Program->bI,TypeId->bV,Value->af
open Go.Builtin renaming append_->tZ,firstCells->qD,lenOf->Tq,zeroCells->yf
open Go.Call renaming operands->lh
open Go.Conv renaming bytesToString->YB
open Go.Instr renaming indexAt->YO,lookup->Av,mapUpdate->YP,slice->vL,sliceAt->vM,sliceBound->mL,sliceBounds->jc,sureAddr->yj
open Go.IntKind renaming i64->Aw,wrap->aO,wrap_i64->vN
open Go.Op renaming operands->dm
open Go.Oper renaming wp->sM
open Go.Program renaming cellsOf->nY
open Go.Question renaming forced->TK
open Go.Region renaming before->kp,binds->rC
open Go.Result renaming andThen_ok->jE
open Go.Sem renaming run_bind->kD,run_pure->nt
open Go.Value renaming int->mu
open Go.World renaming block_lt_of_cell?->I8,cell?->rG
open List renaming all_cons->ml,all_eq_true->iA,ext_getElem?->rv,getElem?_cons_succ->qH,getElem?_cons_zero->IJ,getElem?_eq_some_iff->fq,getElem?_map->sH,getElem?_toArray->IK,map_cons->rA,map_nil->TA,map_toArray->YX,mem_append->kU,mem_cons->ha,mem_map->l2,mem_of_getElem?->mM,mem_singleton->IM,range->mN,replicate->gb
open Nat renaming add_assoc->sK,add_mul->ko,add_mul_div_right->TH,add_zero->pS,le_of_lt->lG,le_refl->e4,le_succ->mo,le_trans->jd,lt_of_le_of_lt->TI,lt_of_lt_of_le->hS,lt_or_ge->mq,lt_succ_self->pT,min->rB,mul_le_mul_right->oH,not_lt->vP,zero_add->lH
open Option renaming isSome_iff_exists->agh,map_none->IW,map_some->vU,some->kB,none->ae,some->J
open True renaming intro->fs
namespace Go.aF
section
def dc:Nat:=9223372036854775808
structure kl where
 blk:Nat
 cap:Nat
 es:Nat
 db:Nat
def cj:Type:=Nat->Option kl
inductive bW where
 |dead
 |ro (rd:Nat->Option af)
 |own (cells:List af) (elem:bV)
 |map (cells:List af) (type:bV)
 |lock (nest at_:Nat) (cells:List af) (elem:bV)
def bW.iO:bW->Bool|.own _ _|.map _ _=>aa|_=>ak
def bW.live:bW->Bool|.dead=>ak|_=>aa
structure Mem where
 next:Nat
 blk:Nat->bW
def Mem.load(m:Mem)(b o:Nat):Option af:=match m.blk b with|.ro rd=>rd o|.own L _=>L[o]?|.map _ _=>ae|.lock _ _ _ _=>ae|.dead=>ae
def Mem.put(m:Mem)(b:Nat)(x:bW):Mem:={m with blk:=λi=>if i=b then x else m.blk i}
def Mem.push(m:Mem)(x:bW):Mem:={next:=m.next+1,blk:=λi=>if i=m.next then x else m.blk i}
def Mem.nf(m:Mem)(n:Nat):Mem:={next:=n,blk:=λi=>if i<n then m.blk i else .dead}
def bP{d e:Type}(R:d->e->Prop):List d->List e->Prop|[],[]=>True|a::l,b::k=>R a b/\bP R l k|_,_=>False
def kY(j:cj):af->af->Prop|.pointer (J a),b=>∃e,a.spot=ae/\j a.block=J e/\b=.pointer (J ⟨e.blk,e.db+a.off,ae⟩)|_,_=>False
def eA(j:cj):af->af->Prop
 |.pointer (J a),b=>∃e,a.spot=ae/\j a.block=J e/\b=.pointer (J ⟨e.blk,e.db+a.off,ae⟩)
 |.slice (J a) l c,b=>∃e,a.spot=ae/\j a.block=J e/\
   ((c<dc/\b=.slice (J ⟨e.blk,e.db+a.off,ae⟩) l c)\/
    (c=dc/\0<e.es/\l<=e.cap-a.off / e.es/\e.cap<dc/\a.off%e.es=0/\a.off / e.es<=e.cap/\b=.slice (J ⟨e.blk,e.db+a.off,ae⟩) l (e.cap-a.off / e.es))\/
    (c=dc/\l=0/\∃i,b=.slice (J ⟨e.blk,i,ae⟩) 0 0)\/
    (c=0/\l=0/\∃f,b=.slice (J f) 0 0)\/
    (∃k,c=dc+k/\0<k/\l<=k/\0<e.es/\k<=e.cap-a.off / e.es/\e.cap<dc/\a.off%e.es=0/\a.off / e.es<=e.cap/\b=.slice (J ⟨e.blk,e.db+a.off,ae⟩) l (e.cap-a.off / e.es)))
 |.map (J r),b=>∃e,j r=J e/\b=.map (J e.blk)
 |.func fn g h,b=>g=#[]/\∃d:Array af,b=.func fn #[] d/\bP (kY j) h.toList d.toList
 |.chan _,_|.iface ..,_|.agg _,_|.tuple _,_=>False
 |v,b=>b=v
def fC(j:cj):af->af->Prop|.agg d,a=>∃b:Array af,a=.agg b/\bP (eA j) d.toList b.toList|v,a=>eA j v a
def de(j:cj):af->af->Prop|.chan ae,a=>∀b,a≠.bool b|.chan (J k),a=>a=.pointer (J ⟨k / 4096,k%4096,ae⟩)|.tuple e,a=>∃d:Array af,a=.tuple d/\bP (fC j) e.toList d.toList|.func fn g e,a=>∃f d:Array af,a=.func fn f d/\bP (fC j) g.toList f.toList/\bP (fC j) e.toList d.toList|v,a=>fC j v a
def dy:af->Bool|.bool _|.int _ _|.float _ _|.complex _ _ _|.string _|.pointer ae|.slice ae _ _|.map ae|.nilFunc|.nilIface=>aa|.func _ a b=>a.isEmpty&&b.isEmpty|_=>ak
def lI:TypeDesc->Bool|.struct _|.array _ _=>aa|_=>ak
def ek(P:bI)(t:bV):Bool:=match P.underlying t with|some d=>lI d|none=>ak
def ey:Bool->List af->af|true,a=>.agg a.toArray|false,a=>a.headD undef
structure qG(ks vs:Nat)(L:List af)(E:List (List af×List af)):Prop where
 eq:L=E.flatMap λp=>p.1++p.2
 len:∀p∈E,p.1.length=ks/\p.2.length=vs
def ub(P:bI)(j:cj)(b a:bV)(p:List af×List af)(x:MapEntry):Prop:=x.key=ey (ek P b) p.1/\p.1.all dy=aa/\fC j (ey (ek P a) p.2) x.val
def zy(b:Array MapEntry)(a:Nat):Prop:=(b.toList.map (·.born)).Nodup/\∀x∈b.toList,x.born<a
def qI(P:bI)(j:cj)(e:kl)(o:Option Obj):bW->Prop
 |.dead=>True
 |.ro rd=>∀i v,rd i=J v->∃(b:Array af)(t:bV)(bZ:Nat×Nat)(d:af),o=J (.cells b t bZ)/\b[e.db+i]?=J d/\eA j v d
 |.own L t=>∃(b:Array af)(bZ:Nat×Nat),o=J (.cells b t bZ)/\(∀i:Nat,i<b.size->¬(bZ.1<=i/\i<bZ.2))/\
  P.cellsOf t=e.es/\e.db+e.cap*e.es<=b.size/\L.length<=e.cap*e.es/\∀(i:Nat)(v:af),L[i]?=J v->∃d,b[e.db+i]?=J d/\eA j v d
 |.map L u=>∃(g f:bV)(b:Array MapEntry)(a:Nat)(E:List (List af×List af)),o=J (.map b a)/\P.underlying u=J (.map g f)/\
  qG (P.cellsOf g) (P.cellsOf f) L E/\bP (ub P j g f) E b.toList/\zy b a
 |.lock _ _ _ _=>False
def X7(P : bI)(g : Nat): Prop := P.globalNamed "internal/bytealg.MaxLen" = J g ∨ P.globalNamed "internal/strconv.uint64pow10" = J g ∨ P.globalNamed "humpyard/yardgen.dests" = J g
def p2:List (List UInt8):=[[97],[98],[99],[100],[101],[102,97,114]]
structure rE(P:bI)(w:World):Prop where
 len : ∀ g, P.globalNamed "internal/bytealg.MaxLen" = J g → ∃ m, w.cell? ⟨g, 0, ae⟩ = J (.int .i64 m)
 pow : ∀ g, P.globalNamed "internal/strconv.uint64pow10" = J g → w.var? P "internal/strconv.uint64pow10" = J ((mN 20).map fun i => mu .u64 ((10 ^ i : Nat) : Int)).toArray
 P8 : ∀ g, P.globalNamed "humpyard/yardgen.dests" = J g → ∀ n s, p2[n]?= J s → w.cell? ⟨g, n, ae⟩ = J (.string ⟨s.toArray⟩)
structure I6(P:bI)(j:cj)(m:Mem)(w:World):Prop where
 val:rE P w
 sep:∀b e,j b=J e->(m.blk b).iO=aa->¬X7 P e.blk
structure Zf(P:bI)(j:cj)(m:Mem)(w:World):Prop where
 lt:∀b e,j b=J e->b<m.next/\e.blk<w.heap.size
 obj:∀b e,j b=J e->qI P j e w.heap[e.blk]? (m.blk b)
 inj:∀b dJ e cz,j b=J e->j dJ=J cz->(m.blk b).iO=aa->(m.blk dJ).live=aa->e.blk=cz.blk->b=dJ
structure Rel(P:bI)(j:cj)(m:Mem)(w:World):Prop extends Zf P j m w where
 mE:I6 P j m w
structure sC(j:cj)(m:Mem)(w w':World):Prop where
 os:w'.os=w.os
 tape:w'.tape=w.tape
 output:w'.output=w.output
 size:w.heap.size<=w'.heap.size
 block:∀c,c<w.heap.size->(∀b e,j b=J e->(m.blk b).iO=aa->e.blk≠c)->w'.heap[c]?=w.heap[c]?
structure Post(P:bI)(j:cj)(m:Mem)(w:World)(c6:cj)(m':Mem)(w':World):Prop where
 rel:Rel P c6 m' w'
 gd:sC j m w w'
 next:m.next<=m'.next
 ext:∀b,b<m.next->c6 b=j b
 fresh:∀b e,c6 b=J e->m.next<=b->w.heap.size<=e.blk\/∃fz eV,j fz=J eV/\(m.blk fz).iO=aa/\eV.blk=e.blk
 ew:∀b,b<m.next->(m'.blk b).iO=aa->(m.blk b).iO=aa
 alive:∀b,b<m.next->(m'.blk b).live=aa->(m.blk b).live=aa
def rE.lt{P:bI}{w:World}(h:rE P w){g:Nat}(a:X7 P g):g<w.heap.size:=by
 rcases a with a|a|a
 ·obtain⟨m,b⟩:=h.len g a;exact I8 w ⟨g,0,ae⟩ b
 rotate_left
 ·exact I8 w ⟨g,0,ae⟩ (h.P8 g a 0 _ rfl)
 ·have:=h.pow g a
  grind[World.var?]
def rE.keep{P:bI}{w d:World}(h:rE P w)(b:∀g,X7 P g->d.heap[g]?=w.heap[g]?):rE P d:=
 ⟨λg a=>by obtain⟨m,f⟩:=h.len g a;exact⟨m,by rw[<-f];simp only[rG,b g (.inl a)]⟩,
  λg a=>by rw[<-h.pow g a];simp only[World.var?,a,Option.bind_some,b g (.inr (.inl a))],
  λg a n s e=>by rw[<-h.P8 g a n s e];simp only[rG,b g (.inr (.inr a))]⟩
def I6.step{P:bI}{j k:cj}{m m':Mem}{w q:World}(t:I6 P j m w)(z:sC j m w q)(B:∀b,b<m.next->k b=j b)
  (y:∀b e,k b=J e->m.next<=b->w.heap.size<=e.blk\/∃i f,j i=J f/\(m.blk i).iO=aa/\f.blk=e.blk) (r:∀b,b<m.next->(m'.blk b).iO=aa->(m.blk b).iO=aa):I6 P k m' q:=
 ⟨t.val.keep λg a=>z.block g (t.val.lt a) λb e d l h=>t.sep b e d l (h▸a),λb e d l a=>by
  rcases mq b m.next with p|A
  ·exact t.sep b e ((B b p).symm.trans d) (r b p l) a
  ·rcases y b e d A with n|⟨i,f,n,x,s⟩
   ·exact absurd (t.val.lt a) (vP.2 n)
   ·exact t.sep i f n x (s▸a)⟩
def Post.of{P:bI}{j g:cj}{m f:Mem}{w i:World}(r:Rel P j m w)(h:Zf P g f i)(p:sC j m w i)(next:m.next<=f.next)(ext:∀b,b<m.next->g b=j b)
  (a:∀b e,g b=J e->m.next<=b->w.heap.size<=e.blk\/∃n k,j n=J k/\(m.blk n).iO=aa/\k.blk=e.blk) (l:∀b,b<m.next->(f.blk b).iO=aa->(m.blk b).iO=aa) (d:∀b,b<m.next->(f.blk b).live=aa->(m.blk b).live=aa):Post P j m w g f i:=
 ⟨⟨h,r.mE.step p ext a l⟩,p,next,ext,a,l,d⟩
def bP.mono{d e:Type}{R S:d->e->Prop}(h:∀a b,R a b->S a b):∀{l:List d}{k:List e},bP R l k->bP S l k
 |[],[],_=>fs
 |_::_,_::_,⟨g,f⟩=>⟨h _ _ g,bP.mono h f⟩
 |[],_::_,h=>h.elim
 |_::_,[],h=>h.elim
def bP.length{a b:Type}{R:a->b->Prop}:∀{l:List a}{k:List b},bP R l k->l.length=k.length
 |[],[],_=>rfl
 |_::l,_::k,⟨_,d⟩=>by simp[bP.length d]
 |[],_::_,h=>h.elim
 |_::_,[],h=>h.elim
def bP.get{d f:Type}{R:d->f->Prop}:∀{l:List d}{k:List f}(_:bP R l k)(i:Nat)(a:d),l[i]?=J a->∃b,k[i]?=J b/\R a b
 |[],[],_,i,a,h=>by grind
 |x::l,y::k,⟨g,e⟩,0,a,h=>by grind
 |x::l,y::k,⟨g,e⟩,i+1,a,h=>by simpa using bP.get e i a (by grind)
 |[],_::_,h,_,_,_=>h.elim
 |_::_,[],h,_,_,_=>h.elim
def bP.Kj{d f:Type}{R:d->f->Prop}:∀{l:List d}{k:List f},l.length=k.length->(∀(i:Nat) a b,l[i]?=J a->k[i]?=J b->R a b)->bP R l k
 |[],[],_,_=>fs
 |x::l,y::k,e,h=>⟨h 0 x y (by rfl) (by rfl),bP.Kj (by grind) λi a b j g=>h (i+1) a b (by grind) (by grind)⟩
 |[],_::_,e,_=>by grind
 |_::_,[],e,_=>by grind
def bP.append{a b:Type}{R:a->b->Prop}:∀{l e:List a}{k d:List b},bP R l k->bP R e d->bP R (l++e) (k++d)
 |[],_,[],_,_,h=>h
 |_::_,_,_::_,_,⟨g,f⟩,h=>⟨g,bP.append f h⟩
 |[],_,_::_,_,h,_=>h.elim
 |_::_,_,[],_,h,_=>h.elim
def bP.take{a b:Type}{R:a->b->Prop}:∀(n:Nat){l:List a}{k:List b},bP R l k->bP R (l.take n) (k.take n)
 |0,_,_,_=>by simp[bP]
 |n+1,[],[],_=>by grind
 |n+1,_::_,_::_,⟨e,d⟩=>by simpa[bP] using⟨e,bP.take n d⟩
 |_+1,[],_::_,h=>h.elim
 |_+1,_::_,[],h=>h.elim
def bP.drop{a b:Type}{R:a->b->Prop}:∀(n:Nat){l:List a}{k:List b},bP R l k->bP R (l.drop n) (k.drop n)
 |0,_,_,h=>by grind
 |n+1,[],[],_=>by grind
 |n+1,_::_,_::_,⟨_,d⟩=>by simpa using bP.drop n d
 |_+1,[],_::_,h=>h.elim
 |_+1,_::_,[],h=>h.elim
def kY.mono{j d:cj}(h:∀b e,j b=J e->d b=J e){v a:af}(f:kY j v a):kY d v a:=by
 unfold kY at f⊢
 grind
theorem eA.mono{j m:cj}(h:∀b e,j b=J e->m b=J e){v k:af}(d:eA j v k):eA m v k:=by
 cases v with
 |func fn p q=>obtain⟨i,n,g,f⟩:=d;exact⟨i,n,g,f.mono λ_ _=>kY.mono h⟩
 |pointer a=>cases a with
  |none=>exact d
  |some a=>obtain⟨e,i,g,f⟩:=d;exact⟨e,i,h _ _ g,f⟩
 |slice a l c=>cases a with
  |none=>exact d
  |some a=>obtain⟨e,i,g,f⟩:=d;exact⟨e,i,h _ _ g,f⟩
 |map r=>cases r with
  |none=>exact d
  |some r=>obtain⟨e,g,f⟩:=d;exact⟨e,h _ _ g,f⟩
 |_=>exact d
theorem fC.mono{j d:cj}(h:∀b e,j b=J e->d b=J e){v a:af}(f:fC j v a):fC d v a:=by
 cases v with
 |agg l=>obtain⟨i,k,g⟩:=f;exact⟨i,k,g.mono λ_ _=>eA.mono h⟩
 |_=>grind[fC,eA.mono]
def de.mono{j k:cj}(h:∀b e,j b=J e->k b=J e){v i:af}(a:de j v i):de k v i:=by
 cases v with
 |chan r=>cases r<;>exact a
 |tuple m=>obtain⟨f,g,d⟩:=a;exact⟨f,g,d.mono λ_ _=>fC.mono h⟩
 |func fn p m=>obtain⟨n,f,g,d,l⟩:=a;exact⟨n,f,g,d.mono λ_ _=>fC.mono h,l.mono λ_ _=>fC.mono h⟩
 |_=>grind[de,fC.mono]
def qI.mono{P:bI}{j y:cj}{e:kl}{o:Option Obj}{x:bW}(h:qI P j e o x)(m:∀b e,j b=J e->y b=J e):qI P y e o x:=by
 cases x with
 |dead=>trivial
 |ro F=>intro i v l;obtain⟨g,t,bZ,q,k,f,d⟩:=h i v l;exact⟨g,t,bZ,q,k,f,d.mono m⟩
 |own L t=>obtain⟨g,bZ,k,f,d,n,r,B⟩:=h;refine⟨g,bZ,k,f,d,n,r,λi v l=>?_⟩;obtain⟨q,s,w⟩:=B i v l;exact⟨q,s,w.mono m⟩
 |map L u=>obtain⟨A,z,g,a,E,k,f,d,n,r⟩:=h;exact⟨A,z,g,a,E,k,f,d,n.mono λp x ⟨s,w,C⟩=>⟨s,w,C.mono m⟩,r⟩
 |lock _ _ _ _=>exact h.elim
def Rel.own{P:bI}{j:cj}{m:Mem}{w:World}(h:Rel P j m w)(b:Nat)(e:kl)(L:List af)(t:bV)(g:j b=J e)(f:m.blk b=.own L t):∃(a:Array af)(bZ:Nat×Nat),w.heap[e.blk]?=J (.cells a t bZ)/\(∀i:Nat,i<a.size->¬(bZ.1<=i/\i<bZ.2))/\
  P.cellsOf t=e.es/\e.db+e.cap*e.es<=a.size/\L.length<=e.cap*e.es/\∀(i:Nat)(v:af),L[i]?=J v->∃d,a[e.db+i]?=J d/\eA j v d:=by
 have:=h.obj b e g;rw[f] at this;exact this
def fC.qh{j:cj}{v a:af}(h:eA j v a):fC j v a:=by
 cases v<;>first|exact h|exact h.elim
def kY.of{j:cj}{v a:af}(h:kY j v a):eA j v a:=by
 unfold kY at h;split at h
 ·exact h
 grind
def de.wN{j:cj}{v a:af}(h:fC j v a):de j v a:=by
 cases v with
 |func fn g i=>obtain⟨f,e,d,b⟩:=h;subst f;exact⟨#[],e,d,trivial,b.mono λ_ _ h=>fC.qh (kY.of h)⟩
 |tuple _=>exact h.elim
 |chan _=>exact h.elim
 |_=>exact h
def de.qh{j:cj}{v a:af}(h:eA j v a):de j v a:=de.wN (fC.qh h)
def eA.one{j:cj}{v f:af}(h:eA j v f):f.oneCell'=aa:=by
 cases v with
 |pointer a=>cases a with
  |none=>cases h;rfl
  |some a=>obtain⟨e,g,d,b⟩:=h;subst b;rfl
 |slice a l c=>cases a with
  |none=>cases h;rfl
  |some a=>obtain⟨e,g,d,b⟩:=h;rcases b with⟨_,rfl⟩|⟨_,_,_,_,_,_,rfl⟩|⟨_,_,_,rfl⟩|⟨_,_,_,rfl⟩|⟨_,_,_,_,_,_,_,_,_,rfl⟩<;>rfl
 |map r=>cases r with
  |none=>cases h;rfl
  |some r=>obtain⟨e,d,b⟩:=h;subst b;rfl
 |chan _=>exact h.elim
 |func _ _ _=>obtain⟨_,i,d,_⟩:=h;subst d;rfl
 |iface _ _=>exact h.elim
 |agg _=>exact h.elim
 |tuple _=>exact h.elim
 |_=>cases h;rfl
def eA.cells{j:cj}{v a:af}(h:eA j v a):v.cells=#[v]/\a.cells=#[a]:=by
 refine⟨?_,?_⟩
 ·cases v<;>first|rfl|exact h.elim
 ·have:=h.one;cases a<;>first|rfl|grind[af.oneCell']
def fC.cells{j:cj}{v b:af}(h:fC j v b):bP (eA j) v.cells.toList b.cells.toList:=by
 cases v with
 |agg e=>obtain⟨f,rfl,d⟩:=h;exact d
 |_=>simp only[fC] at h;have a:=h;have:=eA.cells a;rw[this.1,this.2];exact⟨a,fs⟩
def sC.refl(j:cj)(m:Mem)(w:World):sC j m w w:=⟨rfl,rfl,rfl,e4 _,λ_ _ _=>rfl⟩
def Post.refl{P:bI}{j:cj}{m:Mem}{w:World}(h:Rel P j m w):Post P j m w j m w:=
 ⟨h,sC.refl j m w,e4 _,λ_ _=>rfl,λb e a d=>absurd (h.lt b e a).1 (vP.2 d),λ_ _ h=>h,λ_ _ h=>h⟩
def Post.up{P:bI}{j a:cj}{m g:Mem}{w i:World}(h:Post P j m w a g i)(d:Rel P j m w):∀b e,j b=J e->a b=J e:=
 λb e f=>by rw[h.ext b (d.lt b e f).1];grind
def Post.trans{P:bI}{j s A:cj}{m p g:Mem}{w z B:World}(h:Post P j m w s p z)(k:Post P s p z A g B):Post P j m w A g B where
 rel:=k.rel
 gd:=by
  refine⟨k.gd.os.trans h.gd.os,k.gd.tape.trans h.gd.tape,k.gd.output.trans h.gd.output,jd h.gd.size k.gd.size,λc t x=>?_⟩;rw[k.gd.block c (hS t h.gd.size) ?_,h.gd.block c t x];intro b e a d E;rcases mq b m.next with f|i
  ·exact x b e (by rw[<-h.ext b f];grind) (h.ew b f d) E
  ·rcases h.fresh b e a i with y|⟨n,l,F,H,q⟩
   ·omega
   grind
 next:=jd h.next k.next
 ext:=λb a=>by rw[k.ext b (hS a h.next),h.ext b a]
 fresh:=by
  intro b e a i;have C:∀b e,s b=J e->(p.blk b).iO=aa->w.heap.size<=e.blk\/∃n l,j n=J l/\(m.blk n).iO=aa/\l.blk=e.blk:=by
   intro b e a d;rcases mq b m.next with f|i
   ·exact .inr ⟨b,e,by rw[<-h.ext b f];grind,h.ew b f d,rfl⟩
   ·exact h.fresh b e a i
  rcases mq b p.next with f|r
  ·exact h.fresh b e (by rw[<-k.ext b f];grind) i
  ·rcases k.fresh b e a r with y|⟨n,l,F,H,q⟩
   ·exact .inl (jd h.gd.size y)
   grind
 ew:=λb a d=>h.ew b a (k.ew b (hS a h.next) d)
 alive:=λb a d=>h.alive b a (k.alive b (hS a h.next) d)
end
section
def kz:af->Bool|.agg cs=>cs.toList.all dy|v=>dy v
def flat:af->Bool|.tuple cs=>cs.toList.all kz|v=>kz v
def xr:af->Bool|.pointer (J _)=>aa|_=>ak
def storable:af->Bool|.tuple _|.chan _=>ak|.func _ a b=>a.isEmpty&&b.toList.all xr|_=>aa
def set(a:Nat->af)(d:Option Tmp)(v:af):Nat->af:=match d with|some t=>λi=>if i=t then v else a i|none=>a
def bk(a:Nat->af):bS->af|.tmp t=>a t|.const v=>v|.global g=>.chan (J (g*4096))|.func f=>.func (.func f) #[] #[]
def kd(m:Mem)(b:Nat):Nat->Nat->Option (List af)
 |_,0=>J []
 |o,n+1=>match m.load b o,kd m b (o+1) n with
  |some v,J l=>J (v::l)
  |_,_=>ae
def eY:List af->Nat->List af->List af|L,_,[]=>L|L,o,v::a=>eY (L.set o v) (o+1) a
def k5(b:Nat->Option (Nat×Nat))(a:List af):List (Nat×af)->Option (List af)|[]=>J a|(i,v)::f=>match b i with|none=>ae|some (e,d)=>if storable v=aa/\v.cells.size=d/\e+d<=a.length then k5 b (eY a e v.cells.toList) f else ae
def pC(P:bI)(a:Array Field):List (Option (Nat×Nat)):=a.toList.map λf=>(P.info? f.type).map λi=>(f.offset,i.size)
def qo(a:bS->af)(b:Option bS)(n:Nat):Prop:=match b with|none=>n=0|some y=>∃k,a y=.int k n
def nJ(a:bS->af)(b:Option bS)(l n:Nat):Prop:=match b with|none=>n=l|some y=>∃k,a y=.int k n
inductive dD(P:bI)(ap:bS->af)(o:Oper):af->Prop where
 |flat (v:af) (bf:∀cs b,o.op≠.select cs b) (h:∀x∈o.op.operands,flat (ap x)=aa) (aD:flat v=aa) (aV:∀w,(execOp ap o).run P w=.ok (.value v) w):dD P ap o v
 |move (x:bS) (h:o.op=.move x\/o.op=.assign x):dD P ap o (ap x)
 |pick (c a b:bS) (t:Bool) (h:o.op=.pick c a b) (ay:ap c=.bool t):dD P ap o (if t then ap a else ap b)
 |extract (x:bS) (i:Nat) (vs:Array af) (v:af) (h:o.op=.extract x i) (an:ap x=.tuple vs) (aD:vs[i]?=J v):dD P ap o v
 |field (t:bV) (x:bS) (i:Nat) (bY:Array Field) (f:Field) (d:TypeDesc) (cs:Array af) (v:af) (h:o.op=.field t x i) (aJ:P.underlying t=J (.struct bY)) (bF:bY[i]?=J f)
   (bg:P.underlying f.type=J d) (an:ap x=.agg cs) (aD:if lI d=aa then∃k,P.info? f.type=J k/\f.offset+k.size<=cs.size/\v=.agg (cs.extract f.offset (f.offset+k.size)) else cs[f.offset]?=J v):dD P ap o v
 |build (t:bV) (cQ:Array (Nat×bS)) (bY:Array Field) (i:TypeInfo) (z:af) (cs:List af) (h:o.op=.build t cQ) (aJ:P.underlying t=J (.struct bY)) (az:P.info? t=J i) (bx:i.zero=J z)
   (dw:z.cells.toList.all dy=aa) (bb:∀x∈pC P bY,x.isSome=aa)
   (ay:k5 (λk=>((pC P bY)[k]?).join) z.cells.toList (cQ.toList.map λp=>(p.1,ap p.2))=J cs):dD P ap o (.agg cs.toArray)
 |Jg (t:bV) (cQ:Array (Nat×bS)) (n:Nat) (e:bV) (i k:TypeInfo) (z:af) (cs:List af) (h:o.op=.build t cQ) (aJ:P.underlying t=J (.array n e)) (az:P.info? t=J i) (bx:i.zero=J z)
   (dw:z.cells.toList.all dy=aa) (he:P.info? e=J k)
   (ay:k5 (λj=>J (j*k.size,k.size)) z.cells.toList (cQ.toList.map λp=>(p.1,ap p.2))=J cs):dD P ap o (.agg cs.toArray)
 |J6 (t:bV) (x y:bS) (e:bV) (d:TypeDesc) (i:TypeInfo) (l:Nat) (k:aG) (n:Int) (cs:Array af) (h:o.op=.index t x y) (aJ:P.underlying t=J (.array l e)) (bg:P.underlying e=J d) (bl:lI d=aa) (az:P.info? e=J i)
   (an:ap x=.agg cs) (aZ:ap y=.int k n) (bR:0<=n) (h1:n<l):dD P ap o (.agg (cs.extract (n.toNat*i.size) (n.toNat*i.size+i.size)))
 |J5 (t:bV) (x y:bS) (e:bV) (d:TypeDesc) (i:TypeInfo) (l:Nat) (k:aG) (n:Int) (cs:Array af) (v:af) (h:o.op=.index t x y) (aJ:P.underlying t=J (.array l e)) (bg:P.underlying e=J d) (bl:lI d=ak) (az:P.info? e=J i)
   (an:ap x=.agg cs) (aZ:ap y=.int k n) (bR:0<=n) (h1:n<l) (aD:cs[n.toNat*i.size]?=J v):dD P ap o v
 |nilCheck (x:bS) (a:Addr) (h:o.op=.nilCheck x) (an:ap x=.pointer (J a)):dD P ap o (.pointer (J a))
 |fieldAddr (t:bV) (x:bS) (i:Nat) (bY:Array Field) (f:Field) (k:TypeInfo) (b off:Nat) (h:o.op=.fieldAddr t x i) (aJ:P.underlying t=J (.struct bY)) (bF:bY[i]?=J f)
   (hk:P.info? f.type=J k) (bf:k.size≠0) (an:ap x=.pointer (J ⟨b,off,ae⟩)):dD P ap o (.pointer (J ⟨b,off+f.offset,ae⟩))
 |indexAddr (t:bV) (x y:bS) (e:bV) (i:TypeInfo) (b off l c:Nat) (k:aG) (n:Int) (h:o.op=.indexAddr t x y) (aJ:P.underlying t=J (.slice e)) (az:P.info? e=J i)
   (an:ap x=.slice (J ⟨b,off,ae⟩) l c) (aZ:ap y=.int k n) (bR:0<=n) (h1:n<l):dD P ap o (.pointer (J ⟨b,off+n.toNat*i.size,ae⟩))
 |J4 (t:bV) (x y:bS) (e:bV) (i:TypeInfo) (b off l:Nat) (k:aG) (n:Int) (h:o.op=.indexAddr t x y) (aJ:P.underlying t=J (.array l e)) (az:P.info? e=J i)
   (an:ap x=.pointer (J ⟨b,off,ae⟩)) (aZ:ap y=.int k n) (bR:0<=n) (h1:n<l):dD P ap o (.pointer (J ⟨b,off+n.toNat*i.size,ae⟩))
 |JC (t:bV) (x y:bS) (e:bV) (i:TypeInfo) (l g:Nat) (k:aG) (n:Int) (h:o.op=.indexAddr t x y) (aJ:P.underlying t=J (.array l e)) (az:P.info? e=J i) (bf:i.size=1)
   (an:ap x=.chan (J (g*4096))) (aZ:ap y=.int k n) (bR:0<=n) (h1:n<l) (aR:l<4096):dD P ap o (.chan (J (g*4096+n.toNat)))
 |slice (t:bV) (x:bS) (cf az:Option bS) (e:bV) (i:TypeInfo) (b off l c:Nat) (n dG:Nat) (h:o.op=.slice t x cf az ae) (aJ:P.underlying t=J (.slice e)) (fm:P.info? e=J i)
   (an:ap x=.slice (J ⟨b,off,ae⟩) l c) (aw:c<dc) (eW:qo ap cf n) (eN:nJ ap az l dG) (h1:n<=dG) (ai:dG<=c)
   (aT:az=ae->True):dD P ap o (.slice (J ⟨b,if c=n then off else off+n*i.size,ae⟩) (dG-n) (c-n))
 |slice3 (t:bV) (x h8:bS) (az:Option bS) (e:bV) (i:TypeInfo) (b off l c:Nat) (dG k':Nat) (oV:aG) (h:o.op=.slice t x ae az (J h8)) (aJ:P.underlying t=J (.slice e)) (fm:P.info? e=J i)
   (an:ap x=.slice (J ⟨b,off,ae⟩) l c) (ay:(c<dc/\k'<=c)\/(c=dc/\k'<=l)) (eN:∃y k,az=J y/\ap y=.int k dG) (mV:ap h8=.int oV k') (h1:dG<=k'):dD P ap o (.slice (J ⟨b,off,ae⟩) dG k')
 |P5 (t:bV) (x cf az h8:bS) (e:bV) (i:TypeInfo) (b off l c n dG k':Nat) (Kb J9 oV:aG) (h:o.op=.slice t x (J cf) (J az) (J h8)) (aJ:P.underlying t=J (.slice e)) (fm:P.info? e=J i)
   (an:ap x=.slice (J ⟨b,off,ae⟩) l c) (ay:(c<dc/\k'<=c)\/(c=dc/\k'<=l)) (eW:ap cf=.int Kb n) (eN:ap az=.int J9 dG) (mV:ap h8=.int oV k') (bR:n<=dG) (h1:dG<=k'):dD P ap o (.chan ae)
 |P4 (t:bV) (x h8:bS) (az:Option bS) (e:bV) (i:TypeInfo) (oV:aG) (h:o.op=.slice t x ae az (J h8)) (aJ:P.underlying t=J (.slice e)) (fm:P.info? e=J i)
   (an:ap x=.slice ae 0 0) (eN:∃y k,az=J y/\ap y=.int k 0) (mV:ap h8=.int oV 0):dD P ap o (.slice ae 0 0)
 |nc (t:bV) (x:bS) (cf az:Option bS) (e:bV) (i:TypeInfo) (h:o.op=.slice t x cf az ae) (aJ:P.underlying t=J (.slice e)) (fm:P.info? e=J i)
   (an:ap x=.slice ae 0 0) (eW:qo ap cf 0) (eN:nJ ap az 0 0):dD P ap o (.slice ae 0 0)
 |len (x:bS) (t e:bV) (a:Option Addr) (l c:Nat) (h:o.op=.call {callee:=.builtin .len,args:=#[x],argTypes:=#[t]}) (aJ:P.underlying t=J (.slice e)) (an:ap x=.slice a l c):dD P ap o (.int .i64 l)
 |Jj (x:bS) (t e:bV) (h:o.op=.call {callee:=.builtin .cap,args:=#[x],argTypes:=#[t]}) (aJ:P.underlying t=J (.slice e)) (an:ap x=.slice ae 0 0):dD P ap o (.int .i64 0)
 |A2 (neq:Bool) (x y:bS) (t u e:bV) (a:Addr) (l c:Nat) (h:o.op=.binOp (if neq then .neq else .eql) t x y u) (aJ:P.underlying t=J (.slice e))
   (an:ap x=.slice (J a) l c) (aZ:ap y=.slice ae 0 0):dD P ap o (.bool neq)
 |func (fn:Fn) (first captured:Array bS) (h:o.op=.makeFunc fn first captured) (bF:∀x∈first.toList++captured.toList,storable (ap x)=aa):dD P ap o (.func fn (first.map ap) (captured.map ap))
inductive uh(od aW:Bool)(key z:af):List (List af×List af)->af->Bool->Prop where
 |qZ:uh od aW key z [] z ak
 |rS (p:List af×List af) (E:List (List af×List af)) (h:ey od p.1=key):uh od aW key z (p::E) (ey aW p.2) aa
 |next (p:List af×List af) (E:List (List af×List af)) (v:af) (b:Bool) (h:ey od p.1≠key) (bp:uh od aW key z E v b):uh od aW key z (p::E) v b
inductive uA(od:Bool)(key val:List af):List (List af×List af)->List (List af×List af)->Prop where
 |qZ:uA od key val [] [(key,val)]
 |rS (p:List af×List af) (E:List (List af×List af)) (h:ey od p.1=ey od key):uA od key val (p::E) ((p.1,val)::E)
 |next (p:List af×List af) (E E':List (List af×List af)) (h:ey od p.1≠ey od key) (bp:uA od key val E E'):uA od key val (p::E) (p::E')
open Classical in
noncomputable def o6(v:af):List MapEntry->Nat->Option (Nat×af)|[],_=>ae|e::a,i=>if e.key=v then J (i,e.val) else o6 v a (i+1)
structure Keyed(P:bI)(bG:bV)(ho:af->Prop):Prop where
 check:∀(em:Bool)(v:af)(w:World),ho v->(Instr.checkKey em 10000 bG v).run P w=.ok () w
 find:∀(v:af)(es:List MapEntry)(w:World),ho v->(∀x∈es,ho x.key)->(Instr.findKey bG v es).run P w=.ok (o6 v es 0) w
 stays:∀(v:af)(w:World),ho v->(Instr.keyThatStays v v).run P w=.ok v w
inductive fH(P:bI)(ap:bS->af)(o:Oper)(m:Mem):af->Prop where
 |load (t:bV) (x:bS) (b off:Nat) (d:TypeDesc) (v:af) (h:o.op=.load t x) (an:ap x=.pointer (J ⟨b,off,ae⟩)) (aJ:P.underlying t=J d) (bg:lI d=ak) (aD:m.load b off=J v):fH P ap o m v
 | wc (t : bV) (x : bS) (g n : Nat) (s : List UInt8) (h : o.op =.load t x) (an : ap x =.chan (J (g * 4096 + n))) (bB : p2[n]?= J s) (aJ : P.underlying t = J .string) (bs : P.globalNamed "humpyard/yardgen.dests" = J g) : fH P ap o m (.string ⟨s.toArray⟩)
 |wI (t:bV) (x:bS) (b off:Nat) (d:TypeDesc) (i:TypeInfo) (cs:List af) (h:o.op=.load t x) (an:ap x=.pointer (J ⟨b,off,ae⟩)) (aJ:P.underlying t=J d) (bg:lI d=aa) (az:P.info? t=J i)
   (aD:kd m b off i.size=J cs):fH P ap o m (.agg cs.toArray)
 |slice (t:bV) (x:bS) (cf az:Option bS) (e:bV) (i:TypeInfo) (L:List af) (b off l:Nat) (n dG:Nat) (h:o.op=.slice t x cf az ae) (aJ:P.underlying t=J (.slice e)) (fm:P.info? e=J i)
   (an:ap x=.slice (J ⟨b,off,ae⟩) l dc) (hm:m.blk b=.own L e) (eW:qo ap cf n) (eN:nJ ap az l dG) (h1:n<=dG) (ai:dG<=l)
   (aT:off+l*i.size<=L.length):fH P ap o m (.slice (J ⟨b,off+n*i.size,ae⟩) (dG-n) dc)
 |vx (t:bV) (x:bS) (cf az:Option bS) (e:bV) (i:TypeInfo) (L:List af) (b off l c k:Nat) (n dG:Nat) (h:o.op=.slice t x cf az ae) (aJ:P.underlying t=J (.slice e)) (fm:P.info? e=J i)
   (an:ap x=.slice (J ⟨b,off,ae⟩) l c) (hk:(c=dc/\k=l)\/c=dc+k) (hm:m.blk b=.own L e) (eW:qo ap cf n) (eN:nJ ap az l dG) (h1:n<=dG) (ai:dG<=k) (aT:n<k):
   fH P ap o m (.slice (J ⟨b,off+n*i.size,ae⟩) (dG-n) (dc+(k-n)))
 |str (s t:bV) (x:bS) (e:bV) (b off l c:Nat) (cs:List UInt8) (h:o.op=.convert s t x) (bf:P.underlying s=J (.slice e)) (he:P.underlying e=J (.int .u8)) (aJ:P.underlying t=J .string)
   (an:ap x=.slice (J ⟨b,off,ae⟩) l c) (aD:kd m b off l=J (cs.map λu=>.int .u8 u.toNat)):fH P ap o m (.string ⟨cs.toArray⟩)
 |zQ (s t:bV) (x:bS) (e:bV) (l c:Nat) (h:o.op=.convert s t x) (bf:P.underlying s=J (.slice e)) (he:P.underlying e=J (.int .u8)) (aJ:P.underlying t=J .string)
   (an:ap x=.slice ae l c):fH P ap o m (.string .empty)
 |lookup (hZ:bV) (x dx:bS) (ok:Bool) (u bG bA:bV) (b:Nat) (L:List af) (E:List (List af×List af)) (i:TypeInfo) (z v0:af) (t:Bool) (ho:af->Prop) (h:o.op=.lookup hZ x dx ok)
   (jk:P.underlying hZ=J (.map bG bA)) (hu:P.underlying u=J (.map bG bA)) (an:(ap x=.map (J b)/\m.blk b=.map L u/\qG (P.cellsOf bG) (P.cellsOf bA) L E)\/(ap x=.map ae/\E=[])) (nC:0<P.cellsOf bG)
   (tf:ek P bA=ak->P.cellsOf bA=1) (K:Keyed P bG ho) (bF:flat (ap dx)=aa) (hk:ho (ap dx)) (bs:∀p∈E,ho (ey (ek P bG) p.1)) (az:P.info? bA=J i) (bx:i.zero=J z) (dw:kz z=aa)
   (aR:uh (ek P bG) (ek P bA) (ap dx) z E v0 t):fH P ap o m (if ok then .tuple #[v0,.bool t] else v0)
inductive jC(P:bI)(ap:bS->af)(o:Oper)(n:Nat):bW->af->Prop where
 |alloc (t:bV) (i:TypeInfo) (z:af) (h:o.op=.alloc t) (az:P.info? t=J i) (bx:i.zero=J z) (dw:z.cells.toList.all dy=aa) (bf:z.cells.size=i.size):
   jC P ap o n (.own z.cells.toList t) (.pointer (J ⟨n,0,ae⟩))
 |box (t:bV) (x:bS) (i:TypeInfo) (h:o.op=.box t x) (az:P.info? t=J i) (aD:storable (ap x)=aa) (bf:(ap x).cells.size=i.size):
   jC P ap o n (.own (ap x).cells.toList t) (.pointer (J ⟨n,0,ae⟩))
 |buildSlice (t:bV) (l:Nat) (cQ:Array (Nat×bS)) (e:bV) (i:TypeInfo) (z:af) (cs:List af) (h:o.op=.buildSlice t l cQ) (aJ:P.underlying t=J (.slice e)) (az:P.info? e=J i) (bx:i.zero=J z)
   (dw:z.cells.toList.all dy=aa) (et:z.cells.size=i.size) (uO:l*i.size<=16777216) (uW:l<9223372036854775808)
   (ay:k5 (λk=>J (k*i.size,i.size)) (gb l z.cells.toList).flatten (cQ.toList.map λp=>(p.1,ap p.2))=J cs):
   jC P ap o n (.own cs e) (.slice (J ⟨n,0,ae⟩) l l)
 |makeSlice (t:bV) (x y:bS) (l c:Nat) (k k':aG) (e:bV) (i:TypeInfo) (z:af) (h:o.op=.makeSlice t x y) (aJ:P.underlying t=J (.slice e)) (az:P.info? e=J i) (bx:i.zero=J z)
   (dw:z.cells.toList.all dy=aa) (et:z.cells.size=i.size) (an:ap x=.int k l) (aZ:ap y=.int k' c) (s7:l<=c) (aw:i.bytes*c<=140737488355328) (ay:c<9223372036854775808):
   jC P ap o n (.own (gb c z.cells.toList).flatten e) (.slice (J ⟨n,0,ae⟩) l c)
 |bytes (s t:bV) (x:bS) (e:bV) (i:TypeInfo) (b:ByteArray) (h:o.op=.convert s t x) (bf:P.underlying s=J .string) (aJ:P.underlying t=J (.slice e)) (he:P.underlying e=J (.int .u8)) (az:P.info? e=J i)
   (kL:i.size=1) (an:ap x=.string b) (aw:b.size<9223372036854775807):
   jC P ap o n (.own (b.data.toList.map λu=>.int .u8 u.toNat) e) (.slice (J ⟨n,0,ae⟩) b.size dc)
 |makeMap (t bG bA:bV) (h:o.op=.makeMap t ae) (aJ:P.underlying t=J (.map bG bA)):jC P ap o n (.map [] t) (.map (J n))
def kt(m:Mem)(d:Nat):af->Option (List af)|.slice (J ⟨b,a,ae⟩) l _=>kd m b a (l*d)|.slice ae _ _=>J []|.string s=>if d=1 then J (s.data.toList.map λu=>.int .u8 u.toNat) else ae|_=>ae
def ja:af->Nat|.slice _ l _=>l|.string s=>s.size|_=>0
def callee(o:Oper)(d:bS->af)(f:FuncId)(b:Array af):Prop:=∃x e g first a,o.op=.call {callee:=.value x,args:=e,argTypes:=g}/\d x=.func (.func f) first a/\b=first++e.map d++a
inductive sA(P:bI)(m:Mem)(u:bV)(i:TypeInfo)(v:af)(n:Nat)(new:List af):Prop where
 |el (hu:(∃cz,P.underlying u=J (.slice cz))\/P.underlying u=J .string) (aR:ja v=n) (he:kt m i.size v=J new)
 |mk (kk k:aG) (z:af) (hu:P.underlying u=J (.int kk)) (aD:v=.int k n) (bx:i.zero=J z) (dw:z.cells.toList.all dy=aa) (et:z.cells.size=i.size) (cN:0<i.size)
   (aw:n*i.bytes<=140737488355328) (hm:n<9223372036854775807) (nE:new=(gb n z.cells.toList).flatten)
inductive hR(P:bI)(C:FuncId->Array af->Mem->af->Mem->Prop)(ap:bS->af)(o:Oper)(m:Mem):af->Mem->Prop where
 |store (t:bV) (x y:bS) (b off:Nat) (i:TypeInfo) (L:List af) (e:bV) (h:o.op=.store t x y) (an:ap x=.pointer (J ⟨b,off,ae⟩)) (az:P.info? t=J i) (hm:m.blk b=.own L e)
   (aD:storable (ap y)=aa) (bf:(ap y).cells.size=i.size) (aR:off+i.size<=L.length):hR P C ap o m undef (m.put b (.own (eY L off (ap y).cells.toList) e))
 |call (f:FuncId) (args:Array af) (v:af) (m':Mem) (h:callee o ap f args) (cW:C f args m v m'):hR P C ap o m v m'
 |vZ (x y:bS) (t u:bV) (e:bV) (i:TypeInfo) (a:Option Addr) (l c:Nat) (h:o.op=.call {callee:=.builtin .append,args:=#[x,y],argTypes:=#[t,u]}) (aJ:P.underlying t=J (.slice e)) (az:P.info? e=J i)
   (an:ap x=.slice a l c) (ay:c<dc) (s7:l<=c) (aZ:sA P m u i (ap y) 0 []):hR P C ap o m (ap x) m
 |sP (x y:bS) (t u:bV) (e:bV) (i:TypeInfo) (z:af) (a:Option Addr) (l c n:Nat) (ew new:List af) (h:o.op=.call {callee:=.builtin .append,args:=#[x,y],argTypes:=#[t,u]})
   (aJ:P.underlying t=J (.slice e)) (az:P.info? e=J i) (bx:i.zero=J z) (dw:z.cells.toList.all dy=aa) (et:z.cells.size=i.size) (cN:0<i.size)
   (an:ap x=.slice a l c) (ay:c<l+n)
   (aM:kt m i.size (ap x)=J ew) (nF:ew.length=l*i.size) (aZ:sA P m u i (ap y) n new) (bB:new.length=n*i.size) (aw:(l+n)*i.bytes<=140737488355328) (hm:l+n<9223372036854775807):
   hR P C ap o m (.slice (J ⟨m.next,0,ae⟩) (l+n) dc) (m.push (.own (ew++new) e))
 |vY (x y:bS) (t u:bV) (e:bV) (i:TypeInfo) (b off l c n:Nat) (L new:List af) (h:o.op=.call {callee:=.builtin .append,args:=#[x,y],argTypes:=#[t,u]})
   (aJ:P.underlying t=J (.slice e)) (az:P.info? e=J i) (an:ap x=.slice (J ⟨b,off,ae⟩) l c) (gN:c<dc)
   (ay:l+n<=c) (hm:m.blk b=.own L e) (aZ:sA P m u i (ap y) n new) (bB:new.length=n*i.size) (aR:off+(l+n)*i.size<=L.length):
   hR P C ap o m (.slice (J ⟨b,off,ae⟩) (l+n) c) (m.put b (.own (eY L (off+l*i.size) new) e))
 |yy (x y:bS) (t u:bV) (e:bV) (i:TypeInfo) (b off l c k n:Nat) (L new:List af) (h:o.op=.call {callee:=.builtin .append,args:=#[x,y],argTypes:=#[t,u]})
   (aJ:P.underlying t=J (.slice e)) (az:P.info? e=J i) (an:ap x=.slice (J ⟨b,off,ae⟩) l c) (gN:c=dc+k) (nB:0<k)
   (ay:l+n<=k) (hm:m.blk b=.own L e) (aZ:sA P m u i (ap y) n new) (bB:new.length=n*i.size) (aR:off+(l+n)*i.size<=L.length):
   hR P C ap o m (.slice (J ⟨b,off,ae⟩) (l+n) c) (m.put b (.own (eY L (off+l*i.size) new) e))
 |append (x y:bS) (t u:bV) (e:bV) (i:TypeInfo) (z:af) (b off l n:Nat) (L new:List af) (h:o.op=.call {callee:=.builtin .append,args:=#[x,y],argTypes:=#[t,u]})
   (aJ:P.underlying t=J (.slice e)) (az:P.info? e=J i) (bx:i.zero=J z) (dw:z.cells.toList.all dy=aa) (et:z.cells.size=i.size) (cN:0<i.size)
   (an:ap x=.slice (J ⟨b,off,ae⟩) l dc) (jj:m.blk b=.own L e) (yS:off+l*i.size<=L.length)
   (aZ:sA P m u i (ap y) n new) (bB:new.length=n*i.size) (aw:(l+n)*i.bytes<=140737488355328) (hm:l+n<9223372036854775807):
   hR P C ap o m (.slice (J ⟨m.next,0,ae⟩) (l+n) dc) ((m.put b .dead).push (.own ((L.drop off).take (l*i.size)++new) e))
 |copy (x y:bS) (t u:bV) (e:bV) (i:TypeInfo) (b off l c:Nat) (L:List af) (cs:List af) (h:o.op=.call {callee:=.builtin .copy,args:=#[x,y],argTypes:=#[t,u]}) (aJ:P.underlying t=J (.slice e)) (az:P.info? e=J i)
   (an:ap x=.slice (J ⟨b,off,ae⟩) l c) (hm:m.blk b=.own L e) (aZ:kt m i.size (ap y)=J cs) (bB:cs.length=ja (ap y)*i.size) (aR:off+l*i.size<=L.length):
   hR P C ap o m (.int .i64 (rB (ja (ap y)) l)) (m.put b (.own (eY L off (cs.take (rB (ja (ap y)) l*i.size))) e))
 |clear (x:bS) (t:bV) (e:bV) (i:TypeInfo) (z:af) (b off l c:Nat) (L:List af) (h:o.op=.call {callee:=.builtin .clear,args:=#[x],argTypes:=#[t]}) (aJ:P.underlying t=J (.slice e)) (az:P.info? e=J i)
   (bx:i.zero=J z) (dw:z.cells.toList.all dy=aa) (et:z.cells.size=i.size) (an:ap x=.slice (J ⟨b,off,ae⟩) l c) (hm:m.blk b=.own L e) (hV:0<l) (aR:off+l*i.size<=L.length):
   hR P C ap o m (.tuple #[]) (m.put b (.own (eY L off (gb l z.cells.toList).flatten) e))
 |mapUpdate (hZ:bV) (x jW j3:bS) (u bG bA:bV) (b:Nat) (L eo vc:List af) (E E':List (List af×List af)) (ho:af->Prop) (h:o.op=.mapUpdate hZ x jW j3\/o.op=.insert hZ x jW j3)
   (jk:P.underlying hZ=J (.map bG bA)) (hu:P.underlying u=J (.map bG bA)) (an:ap x=.map (J b)) (hm:m.blk b=.map L u) (bp:qG (P.cellsOf bG) (P.cellsOf bA) L E) (nC:0<P.cellsOf bG)
   (K:Keyed P bG ho) (yP:ap jW=ey (ek P bG) eo) (uV:eo.length=P.cellsOf bG) (yQ:eo.all dy=aa) (bF:flat (ap jW)=aa) (hk:ho (ap jW)) (bs:∀p∈E,ho (ey (ek P bG) p.1))
   (rZ:storable (ap j3)=aa) (J1:ap j3=ey (ek P bA) vc) (tg:vc.length=P.cellsOf bA) (wA:∀v∈vc,v∈(ap j3).cells.toList) (hb:uA (ek P bG) eo vc E E'):
   hR P C ap o m undef (m.put b (.map (E'.flatMap λp=>p.1++p.2) u))
inductive ln(P:bI)(C:FuncId->Array af->Mem->af->Mem->Prop)(ap:bS->af)(o:Oper)(m:Mem):af->Mem->Prop where
 |pure {v:af} (h:dD P ap o v):ln P C ap o m v m
 |read {v:af} (h:fH P ap o m v):ln P C ap o m v m
 |new {X:bW} {v:af} (h:jC P ap o m.next X v):ln P C ap o m v (m.push X)
 |fX {v:af} {m':Mem} (h:hR P C ap o m v m'):ln P C ap o m v m'
def wanted(e:List Oper)(f:Nat->af)(o:Oper):Bool:=
 match o.guard with
 |none=>aa
 |some (j,a)=>
  match(e[j]?).bind (·.dst) with
  |some d=>(match f d with|.bool b=>b==a|_=>ak)
  |none=>ak
def k6(P:bI)(C:FuncId->Array af->Mem->af->Mem->Prop)(a:List Oper):List Oper->(Nat->af)->Mem->(Nat->af)->Mem->Prop
 |[],b,m,d,e=>d=b/\e=m
 |o::g,b,m,d,e=>
  if wanted a b o=aa then∃v f,ln P C (bk b) o m v f/\k6 P C a g (set b o.dst v) f d e
  else k6 P C a g (set b o.dst undef) m d e
def lT:Op->Bool|.store .. |.mapUpdate .. |.insert .. =>aa|.call {callee:=.builtin .len, .. }|.call {callee:=.builtin .max, .. }|.call {callee:=.builtin .min, .. }=>ak|.call _=>aa|_=>ak
def gD(B:Array Nat)(i k:Nat):Bool:=(B.getD i 0).testBit k
structure Acc where
 reads:List (Nat×(Mem->Prop))
 iC:List (Nat×Mem)
 news:List (Nat×Nat)
def hW(P:bI)(C:FuncId->Array af->Mem->af->Mem->Prop)(b:List Oper)(B:Array Nat):Nat->List Oper->Acc->(Nat->af)->Mem->(Nat->af)->Mem->Prop
 |_,[],_,a,m,d,e=>d=a/\e=m
 |i,o::f,A,a,m,d,e=>
  if wanted b a o=aa then
   (∃v,dD P (bk a) o v/\hW P C b B (i+1) f A (set a o.dst v) m d e)\/
   (∃v,fH P (bk a) o m v/\(∀x∈A.iC,gD B i x.1=ak->fH P (bk a) o x.2 v)/\
    hW P C b B (i+1) f {A with reads:=(i,λm=>fH P (bk a) o m v)::A.reads} (set a o.dst v) m d e)\/
   (∃X v,jC P (bk a) o m.next X v/\hW P C b B (i+1) f {A with news:=(i,m.next)::A.news} (set a o.dst v) (m.push X) d e)\/
   (∃v g,hR P C (bk a) o m v g/\(∀x∈A.reads,gD B i x.1=ak->x.2 g)/\(∀x∈A.news,gD B i x.1=ak->g.blk x.2=m.blk x.2)/\
    hW P C b B (i+1) f {A with iC:=(i,m)::A.iC} (set a o.dst v) g d e)
  else hW P C b B (i+1) f A (set a o.dst undef) m d e
inductive fG where
 |normal
 |exit (id:Nat)
 |ret
 deriving DecidableEq
def abv(n:Nat):Option Addr->Prop|some a=>a.block<n|none=>True
def r4(n:Nat):af->Prop|.pointer a=>abv n a|_=>False
def h7(n:Nat):af->Prop|.pointer a|.slice a _ _=>abv n a|.map (J r)=>r<n|.func _ b d=>b=#[]/\∀v∈d.toList,r4 n v|.chan _|.iface _ _|.agg _|.tuple _=>False|_=>True
def iv(n:Nat):af->Prop|.agg cs=>∀v∈cs.toList,h7 n v|v=>h7 n v
def low(n:Nat):af->Prop|.chan _=>True|.tuple cs=>∀v∈cs.toList,iv n v|.func _ a b=>(∀v∈a.toList,iv n v)/\∀v∈b.toList,iv n v|v=>iv n v
def qe(n:Nat):bW->Prop|.own L _|.map L _=>∀v∈L,h7 n v|.ro rd=>∀i v,rd i=J v->h7 n v|.dead=>True|.lock _ _ _ _=>True
def nI:bS->Bool|.tmp _|.func _=>aa|.const v=>flat v|.global _=>aa
def vh(a:Array Oper)(o:Oper):List Nat:=
 (o.op.operands.toList.filterMap λ|.tmp t=>J t|_=>ae)++
 (match o.guard with|some (g,_)=>((a[g]?).bind (·.dst)).toList|none=>[])++o.dst.toList
def sR(a:Array Oper)(x o:Oper):Bool:=
 (match x.dst with|some d=>(vh a o).contains d|none=>ak)||(match o.dst with|some d=>(vh a x).contains d|none=>ak)||(lT x.op&&lT o.op)
def vj(a:Array Oper):Bool:=
 (mN a.size).all λi=>
  match a[i]? with
  |none=>aa
  |some o=>(o.after.toList.all λe=> !Region.binds .any e||decide (e.on<i))&&
   (mN i).all λx=>match a[x]? with|none=>aa|some y=> !sR a y o||gD (kp a) i x
def jw(n:Nat):Code->Bool
 |.region _ f e=>(f.toList.all λo=>o.op.operands.toList.all nI&&(match o.dst with|some d=>decide (d<n)|none=>aa))&&(!e||vj f)
 |.seq a b=>jw n a&&jw n b
 |.cond c a b=>nI c&&jw n a&&jw n b
 |.block _ c=>jw n c
 |.scope c=>jw n c
 |.loop c=>jw n c
 |_=>aa
structure lj(ds:List Deferred)(j:cj)(N:Nat)(fr:Nat->af)(a:Act):Prop where
 val:∀t,de j (fr t) (a.tmps.getD t undef)
 defers:a.defers=ds
 size:a.tmps.size=N
def fG.out:fG->Exit|.normal=>.normal|.exit id=>.exit id|.ret=>.ret
def Uh(a:Array Oper):List Nat:=a.toList.filterMap (·.dst)
def q6:Code->List Nat|.region _ d _=>Uh d|.seq a b=>q6 a++q6 b|.cond _ a b=>q6 a++q6 b|.block _ c=>q6 c|.scope c=>q6 c|.loop c=>q6 c|_=>[]
structure WF(m:Mem):Prop where
 dead:∀b,m.next<=b->m.blk b=.dead
 low:∀b,qe m.next (m.blk b)
structure afV(P:bI)(c:Code)(fr:Nat->af)(m:Mem)(e:fG)(cb:Nat->af)(m':Mem):Prop where
 next:m.next<=m'.next
 keep:∀i,(q6 c).contains i=ak->cb i=fr i
 low:WF m->(∀t,low m.next (fr t))->WF m'/\∀t,low m'.next (cb t)
 sound:∀{ds:List Deferred}{N:Nat}{j:cj}{a:Act}{w:World}{Q:Exit->Act->World->Prop},jw N c=aa->Rel P j m w->WF m->lj ds j N fr a->(∀a' w' c6,Post P j m w c6 m' w'->lj ds c6 N cb a'->Q e.out a' w')->c.wp P Q a w
def aeJ:Code->Bool|.seq (.region _ _ _) (.block _ (.loop _))=>aa|_=>ak
def lS(P:bI)(C:FuncId->Array af->Mem->af->Mem->Prop):Nat->Code->(Nat->af)->Mem->fG->(Nat->af)->Mem->Prop|0,_,_,_,_,_,_=>False|_+1,.skip,g,m,e,d,f=>e=.normal/\d=g/\f=m|_+1,.label _,g,m,e,d,f=>e=.normal/\d=g/\f=m|_+1,.exit l,g,m,e,d,f=>e=.exit l/\d=g/\f=m|_+1,.ret,g,m,e,d,f=>e=.ret/\d=g/\f=m|_+1,.region _ h ak,g,m,e,d,f=>e=.normal/\k6 P C h.toList h.toList g m d f|_+1,.region _ h aa,g,m,e,d,f=>e=.normal/\hW P C h.toList (kp h) 0 h.toList ⟨[],[],[]⟩ g m d f|n+1,.seq a b,g,m,e,d,f=>(∃i j k,lS P C n a g m i j k/\(if i=.normal then lS P C n b j k e d f else e=i/\d=j/\f=k))\/(aeJ a=aa/\afV P (.seq a b) g m e d f)|n+1,.cond c a b,g,m,e,d,f=>∃t,bk g c=.bool t/\lS P C n (if t then a else b) g m e d f|n+1,.scope c,g,m,e,d,f=>lS P C n c g m e d f|n+1,.block l c,g,m,e,d,f=>∃i,lS P C n c g m i d f/\e=(if i=.exit l then .normal else i)|n+1,.loop c,g,m,e,d,f=>∃i j k,lS P C n c g m i j k/\(if i=.normal then lS P C n (.loop c) j k e d f else e=i/\d=j/\f=k)|_+1,_,_,_,_,_,_=>False
def KZ(P:bI)(g:Nat->af)(m:Mem):ResultVar->af->Prop
 |.tmp t,v=>v=g t
 |.cell a t,v=>∃b e,g a=.pointer (J ⟨b,e,ae⟩)/\∃d,P.underlying t=J d/\
   (if lI d=aa then∃i f,P.info? t=J i/\kd m b e i.size=J f/\v=.agg f.toArray else m.load b e=J v)
def q2(P:bI)(a:Nat->af)(m:Mem):List ResultVar->List af->Prop|[],[]=>True|r::b,v::d=>KZ P a m r v/\q2 P a m b d|_,_=>False
def lR(P:bI)(f:FuncId):Bool:=
 match P.funcs[f]? with
 | J fn => !(fn.name == "runtime.NumGoroutine") && (match fn.body with | J c => jw fn.ntmps c | ae => ak)
 |none=>ak
def pack:List af->af|[x]=>x|vs=>.tuple vs.toArray
structure Grown(w w':World):Prop where
 os:w'.os=w.os
 tape:w'.tape=w.tape
 output:w'.output=w.output
 size:w.heap.size<=w'.heap.size
 heap:∀c,c<w.heap.size->w'.heap[c]?=w.heap[c]?
def LB(P:bI)(f:FuncId)(a:Array af)(m:Mem)(v:af)(b:Mem):Prop:=
 m.next<=b.next/\(WF m->low b.next v/\WF b)/\
  ∀(j:cj)(w:World)(h:Array af),WF m->Rel P j m w->bP (de j) a.toList h.toList->Calls P f h w λe i=>∃d g,e=.returned d/\Post P j m w g b i/\de g v d
def Cl(P:bI)(g:FuncId):Prop:=
 (∃ fn, P.funcs[g]?= J fn ∧ (fn.name == "runtime.NumGoroutine") = ak ∧ fn.body.isNone = ak) ∧
  ∀(cs:Array af)(w:World),CallsD P g cs .returning w λe u w'=>(∃v,e=.returned v)/\u=.returning/\w'=w
structure afP(P:bI)(fn:Func)(c A:Code)(id:Nat)(mk p3:Oper)(B:Code)(g k:Nat)(cs:Array bS):Prop where
 body:fn.body=J (.seq A (.seq (.region id #[mk,p3] ak) B))
 code:c=.seq A (.seq (.region id #[mk] ak) B)
 db:aeJ A=ak
 apv:mk.op=.makeFunc (.func g) #[] cs
 VR:mk.dst=J k
 abA:mk.guard=ae
 amB:p3.op=.defer {callee:=.value (.tmp k),args:=#[],argTypes:=#[]}
 amz:p3.dst=ae
 amA:p3.guard=ae
 apA:Cl P g
def qm(P:bI)(fn:Func)(c:Code):Prop:=fn.body=J c\/∃A b mk d B g k a,afP P fn c A b mk d B g k a
def jn(P:bI):Nat->FuncId->Array af->Mem->af->Mem->Prop
 |0,_,_,_,_,_=>False
 |n+1,f,a,m,v,h=>(lR P f=aa/\LB P f a m v h)\/∃fn c e j d g,P.funcs[f]?=J fn/\qm P fn c/\lR P f=aa/\a.size<=fn.ntmps/\
   lS P (jn P n) n c (λi=>(a++nj (fn.ntmps-a.size) undef).getD i undef) m e j d/\(e=.normal\/e=.ret)/\
   q2 P j d fn.results.toList g/\v=pack g/\(g.length=1\/∀x∈g,storable x=aa)/\
   (h=d\/(h=d.nf m.next/\low m.next v/\∀b,b<m.next->d.blk b=m.blk b\/qe m.next (d.blk b)))
end
section
def bP.Kh{b a:Type}{R:b->a->Prop}{l:List a}(h:bP R [] l):l=[]:=by
 cases l with
 |nil=>rfl
 |cons _ _=>exact h.elim
def Kq{fn:Fn}{a b:Array af}(h:dy (.func fn a b)=aa):a=#[]/\b=#[]:=by
 grind[dy]
theorem B0{j:cj}{v d:af}(h:dy v=aa)(b:eA j v d):d=v:=by
 cases v with
 |pointer a=>cases a with
  |none=>exact b
  |some a=>grind[dy]
 |slice a l c=>cases a with
  |none=>exact b
  |some a=>grind[dy]
 |map r=>cases r with
  |none=>exact b
  |some r=>grind[dy]
 |chan _=>grind[dy]
 |func _ _ _=>
  obtain⟨rfl,rfl⟩:=Kq (fn:=.func 0) (by simpa[flat,kz,dy] using h);obtain⟨_,f,g,e⟩:=b;have:f=#[]:=Ii (bP.Kh e)
  grind
 |iface _ _=>grind[dy]
 |agg _=>grind[dy]
 |tuple _=>grind[dy]
 |_=>exact b
theorem q4{j:cj}{v:af}(h:dy v=aa):eA j v v:=by
 cases v with
 |pointer a=>cases a with
  |none=>rfl
  |some a=>grind[dy]
 |slice a l c=>cases a with
  |none=>rfl
  |some a=>grind[dy]
 |map r=>cases r with
  |none=>rfl
  |some r=>grind[dy]
 |chan _=>grind[dy]
 |func _ _ _=>obtain⟨rfl,rfl⟩:=Kq (fn:=.func 0) (by simpa[flat,kz,dy] using h);exact⟨rfl,#[],rfl,trivial⟩
 |iface _ _=>grind[dy]
 |agg _=>grind[dy]
 |tuple _=>grind[dy]
 |_=>rfl
def bP.Js{d:Type}{R:d->d->Prop}{p:d->Bool}(h:∀a b,p a=aa->R a b->b=a):∀{l k:List d},l.all p=aa->bP R l k->k=l
 |[],[],_,_=>rfl
 |a::l,b::k,e,⟨i,g⟩=>by simp only[ml,fx] at e;rw[h a b e.1 i,bP.Js h e.2 g]
 |[],_::_,_,f=>f.elim
 |_::_,[],_,f=>f.elim
def bP.self{b:Type}{R:b->b->Prop}{p:b->Bool}(h:∀a,p a=aa->R a a):∀{l:List b},l.all p=aa->bP R l l
 |[],_=>fs
 |a::l,d=>by simp only[ml,fx] at d;exact⟨h a d.1,bP.self h d.2⟩
def adh{j:cj}{v d:af}(h:kz v=aa)(e:fC j v d):d=v:=by
 cases v with
 |agg g=>obtain⟨i,rfl,f⟩:=e;have:=bP.Js (λa b=>B0 (j:=j)) h f;simp_all
 |_=>exact B0 (j:=j) h (by grind[fC])
def zf{j:cj}{v:af}(h:kz v=aa):fC j v v:=by
 cases v with
 |agg b=>exact⟨b,rfl,bP.self (λa=>q4) h⟩
 |_=>simp only[fC];exact q4 h
def W3{j:cj}{v f:af}(h:flat v=aa)(e:de j v f):f=v:=by
 cases v with
 |tuple l=>obtain⟨i,rfl,d⟩:=e;have:=bP.Js (λa b=>adh (j:=j)) h d;simp_all
 |func _ _ _=>obtain⟨rfl,rfl⟩:=Kq (fn:=.func 0) (by simpa[flat,kz,dy] using h);obtain⟨m,i,k,d,g⟩:=e;rw[k,Ii (bP.Kh d),Ii (bP.Kh g)]
 |chan _=>grind[flat,kz,dy]
 |_=>exact adh (j:=j) h (by grind[de])
theorem acZ{j:cj}{v:af}(h:flat v=aa):de j v v:=by
 cases v with
 |tuple b=>exact⟨b,rfl,bP.self (λa=>zf) h⟩
 |func _ _ _=>obtain⟨rfl,rfl⟩:=Kq (fn:=.func 0) (by simpa[flat,kz,dy] using h);exact⟨#[],#[],rfl,trivial,trivial⟩
 |chan _=>grind[flat,kz,dy]
 |_=>simp only[de];exact zf h
def kY.abK{j:cj}:∀{l k:List af},l.all xr=aa->bP (fC j) l k->bP (kY j) l k
 |[],[],_,_=>trivial
 |[],_::_,_,h=>h.elim
 |_::_,[],_,h=>h.elim
 |v::l,bz::k,a,⟨e,d⟩=>by
  simp only[ml,fx] at a;refine⟨?_,kY.abK a.2 d⟩;have b:=a.1;unfold xr at b;split at b
  ·exact e
  grind
theorem de.storable{j:cj}{v b:af}(h:de j v b)(a:storable v=aa):fC j v b:=by
 cases v with
 |tuple _=>grind[aF.storable]
 |chan _=>grind[aF.storable]
 |func fn i l=>
  simp only[aF.storable,fx] at a;have g:i=#[]:=by grind
  subst g;obtain⟨m,k,d,f,e⟩:=h;rw[Ii (bP.Kh f)] at d;exact⟨rfl,k,d,kY.abK a.2 e⟩
 |_=>exact h
def de.int{j:cj}{k:aG}{n:Int}{a:af}(h:de j (.int k n) a):a=.int k n:=h
def de.bool{j:cj}{b:Bool}{a:af}(h:de j (.bool b) a):a=.bool b:=h
theorem de.str{j:cj}{b:ByteArray}{a:af}(h:de j (.string b) a):a=.string b:=h
def de.nc{j:cj}{l c:Nat}{a:af}(h:de j (.slice ae l c) a):a=.slice ae l c:=h
def de.ptr{j:cj}{a:Addr}{b:af}(h:de j (.pointer (J a)) b):∃e,a.spot=ae/\j a.block=J e/\b=.pointer (J ⟨e.blk,e.db+a.off,ae⟩):=h
def de.slice{j:cj}{a:Addr}{l c:Nat}{b:af}(h:de j (.slice (J a) l c) b):∃e,a.spot=ae/\j a.block=J e/\
   ((c<dc/\b=.slice (J ⟨e.blk,e.db+a.off,ae⟩) l c)\/
    (c=dc/\0<e.es/\l<=e.cap-a.off / e.es/\e.cap<dc/\a.off%e.es=0/\a.off / e.es<=e.cap/\b=.slice (J ⟨e.blk,e.db+a.off,ae⟩) l (e.cap-a.off / e.es))\/
    (c=dc/\l=0/\∃f,b=.slice (J ⟨e.blk,f,ae⟩) 0 0)\/
    (c=0/\l=0/\∃d,b=.slice (J d) 0 0)\/
    (∃k,c=dc+k/\0<k/\l<=k/\0<e.es/\k<=e.cap-a.off / e.es/\e.cap<dc/\a.off%e.es=0/\a.off / e.es<=e.cap/\b=.slice (J ⟨e.blk,e.db+a.off,ae⟩) l (e.cap-a.off / e.es))):=h
def de.vw{j:cj}{a:Addr}{l c:Nat}{d:af}(h:de j (.slice (J a) l c) d)(n:c<=dc):∃e,a.spot=ae/\j a.block=J e/\
   ((c<dc/\d=.slice (J ⟨e.blk,e.db+a.off,ae⟩) l c)\/
    (c=dc/\0<e.es/\l<=e.cap-a.off / e.es/\e.cap<dc/\a.off%e.es=0/\a.off / e.es<=e.cap/\d=.slice (J ⟨e.blk,e.db+a.off,ae⟩) l (e.cap-a.off / e.es))\/
    (c=dc/\l=0/\∃m,d=.slice (J ⟨e.blk,m,ae⟩) 0 0)\/
    (c=0/\l=0/\∃f,d=.slice (J f) 0 0)):=by
 obtain⟨e,i,g,b⟩:=h.slice;refine⟨e,i,g,?_⟩;rcases b with b|b|b|b|⟨k,p,q,_⟩
 ·grind
 ·grind
 ·grind
 ·grind
 grind
theorem o4(b o n:Nat):(⟨b,o,ae⟩:Addr).add n=⟨b,o+n,ae⟩:=by
 grind[Addr.add]
theorem mB:∀(a L:List af)(o:Nat),(eY L o a).length=L.length
 |[],L,o=>rfl
 |v::a,L,o=>by simp[eY,mB a]
theorem o5(a:List af):∀(L:List af)(o i:Nat),o+a.length<=L.length->(eY L o a)[i]?=if o<=i/\i<o+a.length then a[i-o]? else L[i]? :=by
 induction a with
 |nil=>grind[eY]
 |cons v a b=>
  grind[eY]
def aqS(a:List af):∀(A:Array af)(o k:Nat),((a.zipIdx k).foldl (λb (c,j)=>b.setIfInBounds (o+j) c) A).toList=eY A.toList (o+k) a:=by
 induction a with
 |nil=>simp_all[eY]
 |cons v a d=>simp_all[eY,sK]
def Kv{j:cj}{d:Nat->Option (Nat×Nat)}:∀(s n:List (Nat×af))(L:List af)(A:Array af)(e:List af),bP (λp q=>p.1=q.1/\de j p.2 q.2) s n->bP (eA j) L A.toList->k5 d L s=J e->
  ∃F,Instr.fill d A n=J F/\bP (eA j) e F.toList
 |[],[],L,A,e,_,t,h=>by simp only[k5,kB.injEq] at h;subst h;exact⟨A,rfl,t⟩
 |(i,v)::s,(k,r)::n,L,A,e,⟨⟨H,B⟩,I⟩,t,h=>by
  simp only at H B;subst H;simp only[k5] at h;cases E:d i with
  |none=>grind
  |some q=>
   obtain⟨f,m⟩:=q;simp only[E] at h;split at h
   ·rename_i N;obtain⟨O,U,T⟩:=N;have R:=de.storable B O;have y:=fC.cells R;have l:r.cells.size=m:=by have:=y.length;grind
    have M:L.length=A.size:=by have:=t.length;grind
    simp only[Instr.fill,E,l,ne_eq,not_true_eq_false,decide_false,Bool.false_or,decide_eq_true_eq];rw[if_neg (by omega)];refine Kv s n _ _ e I ?_ h;have C:=aqS r.cells.toList A f 0;simp only[pS] at C;have S:(r.cells.zipIdx.foldl (λe (c,j)=>e.setIfInBounds (f+j) c) A)=((r.cells.toList.zipIdx).foldl (λe (c,j)=>e.setIfInBounds (f+j) c) A):=by
     grind[Array.toList_zipIdx]
    rw[S,C];refine bP.Kj (by grind[mB]) ?_;intro i a b g x;rw[o5 _ _ _ _ (by grind)] at g;rw[o5 _ _ _ _ (by grind)] at x;have w:=y.length;rw[w] at g;split at g
    ·rename_i z;rw[if_pos z] at x;obtain⟨P,Q,K⟩:=y.get _ _ g
     grind
    ·rename_i z;rw[if_neg z] at x;obtain⟨P,Q,K⟩:=t.get _ _ g
     grind
   grind
 |[],_::_,_,_,_,h,_,_=>h.elim
 |_::_,[],_,_,_,h,_,_=>h.elim
def h3(j:cj)(a b:bS->af)(o:Oper):Prop:=∀x∈o.op.operands,de j (a x) (b x)
theorem fw{P:bI}{t:bV}{d:TypeDesc}(h:P.underlying t=J d)(w:World):(underlying t).run P w=.ok d w:=run_underlying h w
def vm{P:bI}{t:bV}{i:TypeInfo}(h:P.info? t=J i)(w:World):(typeInfo t).run P w=.ok i w:=by simp[typeInfo,h]
theorem jb{P:bI}{t:bV}{i:TypeInfo}(h:P.info? t=J i)(w:World):(sizeOf t).run P w=.ok i.size w:=by simp[sizeOf,vm h]
theorem og{P:bI}{t:bV}{i:TypeInfo}{z:af}(h:P.info? t=J i)(a:i.zero=J z)(w:World):(zeroValue t).run P w=.ok z w:=by simp_all[zeroValue,vm]
def sb{P:bI}{t:bV}{d:TypeDesc}(h:P.underlying t=J d)(w:World):(isAgg t).run P w=.ok (lI d) w:=by
 simp only[isAgg,kD,fw h,jE];cases d<;>simp[lI]
def h3.VO{j:cj}{ap dn:bS->af}{o:Oper}(a:List (Nat×bS))(h:∀p∈a,de j (ap p.2) (dn p.2)):bP (λ(p q:Nat×af)=>p.1=q.1/\de j p.2 q.2) (a.map λp=>(p.1,ap p.2)) (a.map λp=>(p.1,dn p.2)):=by
 induction a with
 |nil=>exact fs
 |cons p a b=>exact⟨⟨rfl,h p (by simp)⟩,b λq d=>h q (by grind)⟩
def aco{P:bI}(w:World):∀(a:List Field),(∀x∈a.map (λf=>(P.info? f.type).map λi=>(f.offset,i.size)),x.isSome=aa)->
  (a.mapM (m:=Sem) λf=>do pure (f.offset,<-sizeOf f.type)).run P w=.ok (a.map λf=>(f.offset,((P.info? f.type).map (·.size)).getD 0)) w
 |[],_=>by rfl
 |f::a,h=>by have b:=h _ (by simp;exact .inl rfl);simp only[Option.isSome_map] at b;obtain⟨i,g⟩:=agh.1 b;have e:=aco w a (λx d=>h x (by simp only[rA,ha];exact .inr d));simp_all[jb]
def h3.hs{j:cj}{a b:bS->af}{y:bS}{k:aG}{n:Int}(h:de j (a y) (b y))(d:a y=.int k n):b y=.int k n:=by
 rw[d] at h;exact h.int
end
section
theorem aq2{P:bI}{j:cj}{a e:bS->af}{o:Oper}{v:af}(i:∀k b,o.op≠.select k b)(h:∀x∈o.op.operands,flat (a x)=aa)(g:∀w,(execOp a o).run P w=.ok (.value v) w)
  (f:h3 j a e o) (w:World):(execOp e o).run P w=.ok (.value v) w:=by
 rw[<-g w];congr 1;exact execOp_congr o i λx d=>W3 (h x d) (f x d)
def bP.extract{a b:Type}{R:a->b->Prop}{A:Array a}{B:Array b}(h:bP R A.toList B.toList)(i k:Nat):bP R (A.extract i k).toList (B.extract i k).toList:=by
 simp only[Yv,List.extract_eq_drop_take'];exact(h.take k).drop i
def bP.size{a b:Type}{R:a->b->Prop}{A:Array a}{B:Array b}(h:bP R A.toList B.toList):A.size=B.size:=by simpa using h.length
def bP.JA{d e:Type}{R:d->e->Prop}{A:Array d}{B:Array e}(h:bP R A.toList B.toList)(i:Nat)(a:d)(f:A[i]?=J a):∃b,B[i]?=J b/\R a b:=by
 have:=h.get i a (by grind)
 grind
theorem bP.map{a b d:Type}{R:b->d->Prop}(f:a->b)(g:a->d):∀(l:List a),(∀x∈l,R (f x) (g x))->bP R (l.map f) (l.map g)
 |[],_=>fs
 |x::l,h=>⟨h x (by simp),bP.map f g l λy e=>h y (by simp[e])⟩
def fC.up{j:cj}{v a:af}(h:fC j v a):de j v a:=de.wN h
theorem aqR{P:bI}{d:bS->af}{o:Oper}(b:Bool)(x y:bS)(t u e:bV)(a:Addr)(l c:Nat)(h:o.op=.binOp (if b then .neq else .eql) t x y u)(f:P.underlying t=J (.slice e))
   (i:d x=.slice (J a) l c) (g:d y=.slice ae 0 0) (w:World):(execOp d o).run P w=.ok (.value (.bool b)) w:=by
 grind[eqGuard,Lib.run_eql_slice_nil,run_neq_slice_nil_any,execOp,kD,jE,nt]
def Wf{P:bI}{j:cj}{ap C:bS->af}{o:Oper}{v:af}(h:dD P ap o v)(r:h3 j ap C o)(w:World):∃bz,(execOp C o).run P w=.ok (.value bz) w/\de j v bz:=by
 cases h with
 |flat v bf h V aV=>grind[aq2,acZ]
 |move x h=>
  refine⟨C x,?_,r x ?_⟩
  ·rcases h with h|h<;>simp[execOp,h]
  grind[dm]
 |pick c a b t h s=>
  have F:=r c (by grind[dm]);rw[s] at F;have S:=F.bool;have bl:=r a (by grind[dm]);have aw:=r b (by grind[dm]);refine⟨if t then C a else C b,?_,?_⟩
  ·simp_all[execOp,asBool]
  grind
 |extract x i vs v h B V=>have F:=r x (by grind[dm]);rw[B] at F;obtain⟨ds,bg,S⟩:=F;obtain⟨b,aw,aV⟩:=S.JA i v V;exact⟨b,by simp_all[execOp,Instr.extract],aV.up⟩
 |field t x i bY f d cs v h E bF bg B V=>
  have F:=r x (by grind[dm]);rw[B] at F;obtain⟨ds,oP,S⟩:=F;by_cases bl:lI d=aa
  ·rw[if_pos bl] at V;obtain⟨k,hk,hle,rfl⟩:=V;refine⟨.agg (ds.extract f.offset (f.offset+k.size)),?_,⟨_,rfl,S.extract _ _⟩⟩;simp_all[execOp,Instr.field,fw,asAgg,part,sb,jb]
  ·rw[if_neg bl] at V;obtain⟨b,aw,aV⟩:=S.JA _ _ V;simp_all[de.qh,execOp,Instr.field,fw,asAgg,part,sb]
 |J6 t x y e d i l k n cs h E bg bl H B I Z F=>have A:=r x (by grind[dm]);have O:=r y (by grind[dm]);rw[B] at A;rw[I] at O;have lr:=O.int;obtain⟨ds,oP,S⟩:=A;refine⟨.agg (ds.extract (n.toNat*i.size) (n.toNat*i.size+i.size)),?_,⟨_,rfl,S.extract _ _⟩⟩;simp[execOp,h,Instr.index,lr,asIntOf,fw E,oP,Z,F,part,sb bg,bl,jb H]
 |J5 t x y e d i l k n cs v h E bg bl H B I Z F V=>have A:=r x (by grind[dm]);have O:=r y (by grind[dm]);rw[B] at A;rw[I] at O;have lr:=O.int;obtain⟨ds,oP,S⟩:=A;obtain⟨b,aw,aV⟩:=S.JA _ _ V;refine⟨b,?_,de.qh aV⟩;simp[execOp,h,Instr.index,lr,asIntOf,fw E,oP,Z,F,part,sb bg,bl,jb H,aw]
 |build t cQ bY i z cs h E H bx dw bb s=>
  have S:=h3.VO (j:=j) (ap:=ap) (dn:=C) (o:=o) cQ.toList (λp bb=>r p.2 (by
   grind[dm]))
  obtain⟨ds,oP,aV⟩:=Kv (j:=j) _ _ _ z.cells cs S (bP.self (λa=>q4) dw) s;refine⟨.agg ds,?_,⟨_,rfl,by grind⟩⟩;have Br:=aco (P:=P) w bY.toList (by grind[pC]);have ayi:(bY.mapM (m:=Sem) λf=>do pure (f.offset,<-sizeOf f.type)).run P w=.ok (bY.map λf=>(f.offset,((P.info? f.type).map (·.size)).getD 0)) w:=by
   rw[Array.mapM_eq_mapM_toList];simp only[Sem.run_map,Br,jE];congr 1
   grind
  have axY:(λk:Nat=>(bY.map λf=>(f.offset,((P.info? f.type).map (·.size)).getD 0))[k]?)=(λk:Nat=>((pC P bY)[k]?).join):=by
   grind[pC,Option.isSome_map,agh]
  simp_all[execOp,Instr.build,og,fw]
 |Jg t cQ n e i k z cs h E H bx dw he s=>
  have S:=h3.VO (j:=j) (ap:=ap) (dn:=C) (o:=o) cQ.toList (λp bb=>r p.2 (by
   grind[dm]))
  obtain⟨ds,oP,aV⟩:=Kv (j:=j) _ _ _ z.cells cs S (bP.self (λa=>q4) dw) s;refine⟨.agg ds,?_,⟨_,rfl,by grind⟩⟩;simp_all[execOp,Instr.build,og,fw,jb]
 |nilCheck x a h B=>have F:=r x (by grind[dm]);rw[B] at F;obtain⟨e,bf,Q,s⟩:=F.ptr;simp_all[execOp]
 |fieldAddr t x i bY f k b K h E bF hk bf B=>have F:=r x (by grind[dm]);rw[B] at F;obtain⟨e,_,Q,s⟩:=F.ptr;refine⟨.pointer (J ⟨e.blk,e.db+(K+f.offset),ae⟩),?_,⟨e,rfl,Q,rfl⟩⟩;simp_all[execOp,Instr.fieldAt,fw,yj,fieldPlace,jb,o4]
 |indexAddr t x y e i b K l c k n h E H B I Z F=>
  have A:=r x (by grind[dm]);have O:=r y (by grind[dm]);rw[B] at A;rw[I] at O;have lr:=O.int;obtain⟨q,_,Q,s⟩:=A.slice;have M:∃N,C x=.slice (J ⟨q.blk,q.db+K,ae⟩) l N:=by
   rcases s with⟨_,s⟩|⟨_,_,_,_,_,_,s⟩|⟨_,aR,_,s⟩|⟨_,aR,_⟩|⟨_,_,_,_,_,_,_,_,_,s⟩
   ·grind
   ·grind
   ·omega
   ·omega
   grind
  obtain⟨N,M⟩:=M;refine⟨.pointer (J ⟨q.blk,q.db+(K+n.toNat*i.size),ae⟩),?_,⟨q,rfl,Q,rfl⟩⟩;simp[execOp,h,YO,lr,asIntOf,fw E,M,Z,F,jb H,o4,sK]
 |J4 t x y e i b K l k n h E H B I Z F=>have A:=r x (by grind[dm]);have O:=r y (by grind[dm]);rw[B] at A;rw[I] at O;have lr:=O.int;obtain⟨q,_,Q,s⟩:=A.ptr;refine⟨.pointer (J ⟨q.blk,q.db+(K+n.toNat*i.size),ae⟩),?_,⟨q,rfl,Q,rfl⟩⟩;simp[execOp,h,YO,lr,asIntOf,fw E,s,yj,Z,F,jb H,o4,sK]
 |JC t x y e i l g k n h E H bf B I Z F aR=>
  have A:=r x (by grind[dm]);have O:=r y (by grind[dm]);rw[B] at A;rw[I] at O;have lr:=O.int;have s:C x=.pointer (J ⟨g,0,ae⟩):=by have A:C x=.pointer (J ⟨g*4096 / 4096,g*4096%4096,ae⟩):=A;rw[A,show g*4096 / 4096=g by omega,show g*4096%4096=0 by omega]
  refine⟨.pointer (J ⟨g,n.toNat,ae⟩),?_,?_⟩
  ·simp[execOp,h,YO,lr,asIntOf,fw E,s,yj,Z,F,jb H,o4,bf]
  ·show af.pointer _=_;rw[show(g*4096+n.toNat) / 4096=g by omega,show(g*4096+n.toNat)%4096=n.toNat by omega]
 |slice t x cf H e i b K l c n dG h E fm B aw eW U F S aT=>
  have A:=r x (by grind[dm]);rw[B] at A;obtain⟨q,_,Q,s⟩:=A.vw (lG aw);have X:∃L:Addr,C x=.slice (J L) l c/\((c<dc/\L=⟨q.blk,q.db+K,ae⟩)\/(c=0/\l=0)):=by
   rcases s with⟨cF,s⟩|⟨s,_⟩|⟨s,_⟩|⟨s,aR,L,bl⟩
   ·grind
   ·grind
   ·grind
   grind
  obtain⟨L,M,Vt⟩:=X;have ny:(jc aa l c (cf.map C) (H.map C) ae).run P w=.ok (n,dG,c) w:=by
   cases cf with
   |none=>
    simp only[qo] at eW;subst eW;cases H with
    |none=>simp_all[nJ,jc]
    |some y=>obtain⟨k,I⟩:=U;have:=h3.hs (r y (by grind[dm])) I;simp_all[jc,mL,asIntOf]
   |some u=>
    obtain⟨k,hu⟩:=eW;have oS:=h3.hs (r u (by grind[dm])) hu;cases H with
    |none=>simp only[nJ] at U;simp_all[jc,mL,asIntOf]
    |some y=>obtain⟨Y,I⟩:=U;have:=h3.hs (r y (by grind[dm])) I;simp_all[jc,mL,asIntOf]
  refine⟨.slice (J (if c=n then L else L.add (n*i.size))) (dG-n) (c-n),?_,?_⟩
  ·simp only[execOp,h,vM,kD,fw E,jE,IW,vL,M,ny,jb fm,nt]
   grind
  ·refine⟨q,rfl,Q,?_⟩;rcases Vt with⟨cF,rfl⟩|⟨rfl,rfl⟩
   ·grind[o4]
   grind
 |slice3 t x h8 H e i b K l c dG Y oV h E fm B s U mV F=>
  obtain⟨y,apl,rfl,I⟩:=U;have A:=r x (by grind[dm]);rw[B] at A;have wB:=h3.hs (r y (by grind[dm])) I;have n4:=h3.hs (r h8 (by grind[dm])) mV;obtain⟨q,_,Q,R⟩:=A.vw (by grind);have X:∃(L:Addr)(N:Nat),C x=.slice (J L) l N/\Y<=N/\eA j (.slice (J ⟨b,K,ae⟩) dG Y) (.slice (J L) dG Y):=by
   rcases R with⟨cF,R⟩|⟨gN,_,hle,kJ,_,_,R⟩|⟨gN,hV,o',R⟩|⟨rQ,hV,L,R⟩
   ·rcases s with⟨_,hk⟩|⟨gN,_⟩
    ·exact⟨_,_,R,hk,q,rfl,Q,.inl ⟨TI hk cF,rfl⟩⟩
    grind
   ·rcases s with⟨pv,_⟩|⟨_,hk⟩
    ·grind
    ·exact⟨_,_,R,jd hk hle,q,rfl,Q,.inl ⟨TI (jd hk hle) (TI (Nat.sub_le _ _) kJ),rfl⟩⟩
   ·rcases s with⟨pv,_⟩|⟨_,hk⟩
    ·grind
    ·have nB:Y=0:=by omega
     have U9:dG=0:=by omega
     subst nB U9;subst hV;exact⟨_,_,R,Nat.zero_le _,q,rfl,Q,.inr (.inr (.inr (.inl ⟨rfl,rfl,_,rfl⟩)))⟩
   ·subst rQ hV;have nB:Y=0:=by grind
    have U9:dG=0:=by omega
    subst nB U9;exact⟨L,_,R,e4 _,q,rfl,Q,.inr (.inr (.inr (.inl ⟨rfl,rfl,_,rfl⟩)))⟩
  obtain⟨L,N,M,hk,V⟩:=X;have ny:(jc aa l N (ae:Option af) ((J y).map C) (J (C h8))).run P w=.ok (0,dG,Y) w:=by simp_all[jc,mL,asIntOf]
  refine⟨_,?_,de.qh V⟩;simp only[execOp,h,vM,kD,fw E,jE,IW,vU,vL,M] at ny⊢;simp_all[jb,Addr.add]
 |P5 t x cf H h8 e i b K l c n dG Y Kb J9 oV h E fm B s eW U mV Z F=>
  have A:=r x (by grind[dm]);rw[B] at A;have hB:=h3.hs (r cf (by grind[dm])) eW;have wB:=h3.hs (r H (by grind[dm])) U;have n4:=h3.hs (r h8 (by grind[dm])) mV;obtain⟨q,_,Q,R⟩:=A.vw (by grind);have X:∃(L:Addr)(N:Nat),C x=.slice (J L) l N/\Y<=N:=by
   rcases R with⟨cF,R⟩|⟨gN,_,hle,kJ,_,_,R⟩|⟨gN,hV,o',R⟩|⟨rQ,hV,L,R⟩
   ·grind
   ·grind
   ·grind
   grind
  obtain⟨L,N,M,hk⟩:=X;have ny:(jc aa l N ((J cf).map C) ((J H).map C) (J (C h8))).run P w=.ok (n,dG,Y) w:=by simp_all[jc,mL,asIntOf]
  have kv:∃l7 ju c2,(execOp C o).run P w=.ok (.value (.slice l7 ju c2)) w:=by simp only[execOp,h,vM,kD,fw E,jE,vU,vL,M] at ny⊢;simp_all[jb]
  obtain⟨l7,ju,c2,kv⟩:=kv;exact⟨_,kv,λb aw=>by grind⟩
 |P4 t x h8 H e i oV h E fm B U mV=>
  obtain⟨y,apl,rfl,I⟩:=U;have A:=r x (by grind[dm]);rw[B] at A;have M:=A.nc;have wB:=h3.hs (r y (by grind[dm])) I;have n4:=h3.hs (r h8 (by grind[dm])) mV;refine⟨.slice ae 0 0,?_,rfl⟩;have ny:(jc aa 0 0 (ae:Option af) ((J y).map C) (J (C h8))).run P w=.ok (0,0,0) w:=by simp_all[jc,mL,asIntOf]
  simp only[vU] at ny;simp[execOp,h,vM,fw E,vL,M,ny,jb fm]
 |nc t x cf H e i h E fm B eW U=>
  have A:=r x (by grind[dm]);rw[B] at A;have M:=A.nc;refine⟨.slice ae 0 0,?_,rfl⟩;have ny:(jc aa 0 0 (cf.map C) (H.map C) ae).run P w=.ok (0,0,0) w:=by
   cases cf with
   |none=>
    cases H with
    |none=>rfl
    |some y=>obtain⟨k,I⟩:=U;have:=h3.hs (r y (by grind[dm])) I;simp_all[jc,mL,asIntOf]
   |some u=>
    obtain⟨k,hu⟩:=eW;have oS:=h3.hs (r u (by grind[dm])) hu;cases H with
    |none=>simp_all[jc,mL,asIntOf]
    |some y=>obtain⟨Y,I⟩:=U;have:=h3.hs (r y (by grind[dm])) I;simp_all[jc,mL,asIntOf]
  simp[execOp,h,vM,fw E,vL,M,ny,jb fm]
 |len x t e a l c h E B=>
  have A:=r x (by grind[dm,lh]);rw[B] at A;have M:∃L N,C x=.slice L l N:=by
   cases a with
   |none=>exact⟨_,_,A.nc⟩
   |some a=>
    obtain⟨q,_,Q,s⟩:=A.slice;rcases s with⟨_,s⟩|⟨_,_,_,_,_,_,s⟩|⟨_,aR,_,s⟩|⟨_,aR,_,s⟩|⟨_,_,_,_,_,_,_,_,_,s⟩
    ·grind
    ·grind
    ·grind
    ·grind
    grind
  obtain⟨L,N,M⟩:=M;exact⟨.int .i64 l,by simp[execOp,h,resolve,invoke,builtin,Builtin.len_,fw E,M,goInt],rfl⟩
 |Jj x t e h E B=>have A:=r x (by grind[dm,lh]);rw[B] at A;have M:=A.nc;exact⟨.int .i64 0,by simp[execOp,h,resolve,invoke,builtin,Builtin.cap_,fw E,M,goInt],rfl⟩
 |A2 neq x y t u e a l c h E B I=>
  have A:=r x (by grind[dm]);rw[B] at A;have O:=r y (by grind[dm]);rw[I] at O;have lr:=O.nc;have M:∃L N,C x=.slice (J L) l N:=by
   obtain⟨q,_,Q,s⟩:=A.slice;rcases s with⟨_,s⟩|⟨_,_,_,_,_,_,s⟩|⟨_,aR,_,s⟩|⟨_,aR,_,s⟩|⟨_,_,_,_,_,_,_,_,_,s⟩
   ·grind
   ·grind
   ·grind
   ·grind
   grind
  obtain⟨L,N,M⟩:=M;refine⟨.bool neq,?_,rfl⟩
  grind[aqR]
 |func fn first T h bF=>
  refine⟨.func fn (first.map C) (T.map C),by simp[execOp,h,Instr.makeFunc],⟨_,_,rfl,?_,?_⟩⟩
  ·simp only[ye];exact bP.map _ _ _ λx B=>de.storable (r x (by grind[dm])) (bF x (by grind))
  ·simp only[ye];exact bP.map _ _ _ λx B=>de.storable (r x (by grind[dm])) (bF x (by grind))
end
section
structure uq(P:bI)(j:cj)(m:Mem)(w:World):Prop where
 load:∀b e o v,j b=J e->m.load b o=J v->∃bz,w.cell? ⟨e.blk,e.db+o,ae⟩=J bz/\eA j v bz
 own:∀b e L t,j b=J e->m.blk b=.own L t->P.cellsOf t=e.es/\L.length<=e.cap*e.es
 map:∀b e L u,j b=J e->m.blk b=.map L u->qI P j e w.heap[e.blk]? (.map L u)
 mE:rE P w
def Rel.load{P:bI}{j:cj}{m:Mem}{w:World}(h:Rel P j m w)(b:Nat)(e:kl)(o:Nat)(v:af)(i:j b=J e)(a:m.load b o=J v):∃f,w.cell? ⟨e.blk,e.db+o,ae⟩=J f/\eA j v f:=by
 unfold Mem.load at a;have g:=h.obj b e i;cases d:m.blk b with
 |dead=>grind
 |map L u=>grind
 |lock _ _ _ _=>grind
 |ro x=>
  simp only[d] at a g;obtain⟨n,t,bZ,f,p,l,k⟩:=g o v a
  grind[rG]
 |own L t=>
  simp only[d] at a;obtain⟨n,bZ,s,q,p,l,k,r⟩:=h.own b e L t i d
  grind[rG]
def Rel.ot{P:bI}{j:cj}{m:Mem}{w:World}(h:Rel P j m w):uq P j m w:=
 ⟨h.load,λb e L t a d=>by
  obtain⟨l,bZ,p,i,n,g,f,k⟩:=h.own b e L t a d
  grind,λb e L u a d=>by have:=h.obj b e a;grind,h.mE.val⟩
def BL{P:bI}{j:cj}{m:Mem}{w:World}(h:uq P j m w){b:Nat}{e:kl}(k:j b=J e):∀(n o:Nat)(f:List af),kd m b o n=J f->
  ∃d:List af,bP (eA j) f d/\d.length=n/\∀(i:Nat)(u:af),d[i]?=J u->w.cell? ⟨e.blk,e.db+o+i,ae⟩=J u
 |0,o,f,a=>by simp only[kd,kB.injEq] at a;subst a;exact⟨[],fs,rfl,λi u t=>by grind⟩
 |n+1,o,f,a=>by
  simp only[kd] at a;cases p:m.load b o with
  |none=>grind
  |some v=>
   cases g:kd m b (o+1) n with
   |none=>grind
   |some l=>
    simp only[p,g,kB.injEq] at a;subst a;obtain⟨s,x,q⟩:=h.load b e o v k p;obtain⟨d,r,y,z⟩:=BL h k n (o+1) l g;refine⟨s::d,⟨q,r⟩,by grind,λi u t=>?_⟩
    grind
theorem BM{P:bI}{w:World}{c o n:Nat}{a:List af}(b:a.length=n)(d:∀(i:Nat)(u:af),a[i]?=J u->w.cell? ⟨c,o+i,ae⟩=J u):(loadCells ⟨c,o,ae⟩ n).run P w=.ok a.toArray w:=by
 grind[run_loadCells_list,o4]
theorem acm{P:bI}{w:World}{a:Addr}:(loadCells a 0).run P w=.ok #[] w:=rfl
def ab5{P:bI}(w:World):∀(a:List UInt8)(s:ByteArray)(f:af->ByteArray->Sem (ForInStep ByteArray)),
  (∀u s,f (.int .u8 (u:UInt8).toNat) s=pure (.yield (s.push u)))->
  (forIn (a.map λu=>mu .u8 (u.toNat:Int)) s f).run P w=.ok (⟨s.data++a.toArray⟩:ByteArray) w
 |[],s,f,b=>by rfl
 |u::a,s,f,b=>by simp only[rA,List.forIn_cons,b,pure_bind,ab5 w a (s.push u) f b];simp_all
def zD{P:bI}{w:World}{r:Nat}{b:Array MapEntry}{a:Nat}(d:w.heap[r]?=J (.map b a)):(getObj r).run P w=.ok (.map b a) w:=by
 grind[getObj,Sem.run]
def aee{P:bI}{w:World}{r:Nat}{b:Array MapEntry}{a:Nat}(o:Obj)(d:w.heap[r]?=J (.map b a)):(setObj r o).run P w=.ok () {w with heap:=w.heap.setIfInBounds r o}:=by
 grind[setObj,Sem.run]
theorem qG.Yb{ks vs:Nat}(hk:0<ks):∀{L:List af}{E E':List (List af×List af)},qG ks vs L E->qG ks vs L E'->E=E'
 |L,[],[],_,_=>rfl
 |L,[],p::E',h,dG=>by have h1:=h.eq;rw[dG.eq] at h1;have:=(dG.len p (by simp)).1;simp_all
 |L,p::E,[],h,dG=>by have h1:=dG.eq;rw[h.eq] at h1;have:=(h.len p (by simp)).1;simp_all
 |L,p::E,q::E',h,dG=>by have h1:=h.eq;rw[dG.eq] at h1;simp only[List.flatMap_cons,List.append_assoc] at h1;obtain⟨bX,h1⟩:=List.append_inj h1 (by rw[(h.len p (by simp)).1,(dG.len q (by simp)).1]);obtain⟨e2,h1⟩:=List.append_inj h1 (by rw[(h.len p (by simp)).2,(dG.len q (by simp)).2]);have a1:=qG.Yb hk (L:=E.flatMap λp=>p.1++p.2) (E:=E) (E':=E') ⟨rfl,λr aV=>h.len r (by simp[aV])⟩ ⟨h1.symm,λr aV=>dG.len r (by simp[aV])⟩;rw[a1];congr 1;exact(Prod.ext bX e2).symm
def uh.find{P:bI}{j:cj}{k g:bV}{e z v:af}{t:Bool}{E:List (List af×List af)}(h:uh (ek P k) (ek P g) e z E v t):∀{a:List MapEntry}(i:Nat),bP (ub P j k g) E a->
  (t=aa/\∃n bz,o6 e a i=J (n,bz)/\fC j v bz)\/(t=ak/\v=z/\o6 e a i=ae):=by
 induction h with
 |qZ=>
  intro a i d;cases a with
  |nil=>exact .inr ⟨rfl,rfl,rfl⟩
  |cons _ _=>exact d.elim
 |rS p E h=>
  intro a i d;cases a with
  |nil=>exact d.elim
  |cons x a=>obtain⟨⟨m,l,f⟩,_⟩:=d;exact .inl ⟨rfl,i,x.val,by grind[o6],f⟩
 |next p E v b h d q=>
  intro a i d;cases a with
  |nil=>exact d.elim
  |cons x a=>
   obtain⟨⟨m,l,f⟩,d⟩:=d
   grind[o6]
def Wl{P:bI}{j:cj}{d g:bV}{e:af->Prop}:∀{E:List (List af×List af)}{b:List MapEntry},bP (ub P j d g) E b->(∀p∈E,e (ey (ek P d) p.1))->∀x∈b,e x.key
 |[],[],_,_,x,a=>by grind
 |p::E,y::b,⟨k,f⟩,i,x,a=>by
  rcases ha.1 a with rfl|a
  ·rw[k.1];grind
  ·exact Wl f (λq l=>i q (by grind)) x a
 |[],_::_,h,_,_,_=>h.elim
 |_::_,[],h,_,_,_=>h.elim
def ack{P:bI}{j:cj}{ap H:bS->af}{o:Oper}{m:Mem}{v:af}(h:fH P ap o m v)(O:h3 j ap H o){w:World}(cY:uq P j m w):∃bz,(execOp H o).run P w=.ok (.value bz) w/\de j v bz:=by
 cases h with
 |load t x b f d v h F R bg aD=>have B:=O x (by grind[dm]);rw[F] at B;obtain⟨q,_,M,A⟩:=B.ptr;obtain⟨bz,fZ,aV⟩:=cY.load b q f v M aD;simp_all[execOp,Instr.loadAt,yj,loadVar,sb,de.qh]
 |wc t x g n s h F bB R bs=>
  have B:=O x (by grind[dm]);rw[F] at B;have cF:n<4096:=hS (fq.1 bB).1 (by simp[p2]);have A:H x=.pointer (J ⟨g,n,ae⟩):=by have B:H x=.pointer (J ⟨(g*4096+n) / 4096,(g*4096+n)%4096,ae⟩):=B;rw[B,show(g*4096+n) / 4096=g by omega,show(g*4096+n)%4096=n by omega]
  exact⟨_,by simp[execOp,h,Instr.loadAt,A,yj,loadVar,sb R,lI,cY.mE.P8 g bs n s bB],rfl⟩
 |wI t x b f d i X h F R bg S aD=>have B:=O x (by grind[dm]);rw[F] at B;obtain⟨q,_,M,A⟩:=B.ptr;obtain⟨ds,aR,bB,mU⟩:=BL cY M _ _ _ aD;exact⟨.agg ds.toArray,by simp[execOp,h,Instr.loadAt,A,yj,loadVar,sb R,bg,jb S,BM bB mU],⟨_,rfl,by grind⟩⟩
 |slice t x cf S e i L b f l n U h R fm F hm eW eN V ai aT=>
  have B:=O x (by grind[dm]);rw[F] at B;obtain⟨q,_,M,A⟩:=B.vw (e4 _);obtain⟨rR,_⟩:=cY.own b q L e M hm;have cN:i.size=q.es:=by grind[nY]
  have key:∀(o' C:Nat),H x=.slice (J ⟨q.blk,o',ae⟩) l C->l<=C->
    (execOp H o).run P w=.ok (.value (.slice (J ⟨q.blk,if C=n then o' else o'+n*i.size,ae⟩) (U-n) (C-n))) w:=by
   intro o' C T Q;have ny:(jc aa l C (cf.map H) (S.map H) ae).run P w=.ok (n,U,C) w:=by
    cases cf with
    |none=>
     simp only[qo] at eW;subst eW;cases S with
     |none=>simp_all[nJ,jc]
     |some y=>obtain⟨k,Z⟩:=eN;have:=h3.hs (O y (by grind[dm])) Z;simp[jc,this,mL,asIntOf,show U<=C by omega]
    |some u=>
     obtain⟨k,hu⟩:=eW;have oS:=h3.hs (O u (by grind[dm])) hu;cases S with
     |none=>simp only[nJ] at eN;simp_all[jc,mL,asIntOf]
     |some y=>obtain⟨k',Z⟩:=eN;have:=h3.hs (O y (by grind[dm])) Z;simp[jc,this,oS,mL,asIntOf,V,show U<=C by omega]
   simp only[execOp,h,vM,kD,fw R,jE,IW,vL,T,ny,jb fm,nt]
   grind[o4]
  rcases A with⟨cF,_⟩|⟨_,hh,Q,kJ,p8,I,A⟩|⟨_,hV,o',A⟩|⟨rQ,_⟩
  rotate_left 3
  ·grind[dc]
  ·grind
  ·have Q:l<=q.cap-f / q.es:=Q;have p8:f%q.es=0:=p8;have I:f / q.es<=q.cap:=I;refine⟨_,key _ _ A Q,⟨q,rfl,M,?_⟩⟩;by_cases bx:q.cap-f / q.es=n
   ·have:U-n=0:=by omega
    grind
   grind[TH,Nat.add_mul_mod_self_right]
  grind
 |vx t x cf S e i L b f l c k n U h R fm F hk hm eW eN V ai aT=>
  have B:=O x (by grind[dm]);rw[F] at B;obtain⟨q,_,M,A⟩:=B.slice;have M:j b=J q:=M;obtain⟨rR,_⟩:=cY.own b q L e M hm;have cN:i.size=q.es:=by grind[nY]
  have hex:∃C,H x=.slice (J ⟨q.blk,q.db+f,ae⟩) l C/\l<=C/\k<=C/\0<q.es/\C=q.cap-f / q.es/\q.cap<dc/\f%q.es=0/\f / q.es<=q.cap:=by
   rcases A with⟨cF,_⟩|⟨gN,hh,Q,kJ,p8,I,A⟩|⟨gN,hV,_⟩|⟨rQ,_⟩|⟨k',lL,nB,s8,axX,kJ,cF,p8,I,A⟩
   ·grind
   ·grind
   ·grind
   ·grind
   grind
  obtain⟨C,T,Q,yP,hh,fZ,kJ,p8,I⟩:=hex;have ny:(jc aa l C (cf.map H) (S.map H) ae).run P w=.ok (n,U,C) w:=by
   cases cf with
   |none=>
    simp only[qo] at eW;subst eW;cases S with
    |none=>simp_all[nJ,jc]
    |some y=>obtain⟨k,Z⟩:=eN;have:=h3.hs (O y (by grind[dm])) Z;simp[jc,this,mL,asIntOf,show U<=C by omega]
   |some u=>
    obtain⟨k,hu⟩:=eW;have oS:=h3.hs (O u (by grind[dm])) hu;cases S with
    |none=>simp only[nJ] at eN;simp_all[jc,mL,asIntOf]
    |some y=>obtain⟨k',Z⟩:=eN;have:=h3.hs (O y (by grind[dm])) Z;simp[jc,this,oS,mL,asIntOf,V,show U<=C by omega]
  have kv:(execOp H o).run P w=.ok (.value (.slice (J ⟨q.blk,q.db+f+n*i.size,ae⟩) (U-n) (C-n))) w:=by
   simp only[execOp,h,vM,kD,fw R,jE,IW,vL,T,ny,jb fm,nt]
   grind[o4]
  refine⟨_,kv,⟨q,rfl,M,.inr (.inr (.inr (.inr ⟨k-n,rfl,by omega,by omega,hh,?_,kJ,?_,?_,?_⟩)))⟩⟩
  ·grind[TH]
  ·simp_all
  ·grind[TH]
  grind[TH]
 |str s t x e b f l c X h bf he R F aD=>
  have B:=O x (by grind[dm]);rw[F] at B;obtain⟨q,_,M,A⟩:=B.slice;obtain⟨ds,aR,bB,mU⟩:=BL cY M _ _ _ aD;have oP:ds=X.map λu=>.int .u8 u.toNat:=bP.Js (p:=dy) (λa b=>B0 (j:=j)) (by simp[dy]) aR;subst oP;refine⟨.string ⟨X.toArray⟩,?_,rfl⟩;have key:∀(a':Addr)(C:Nat),H x=.slice (J a') l C->(a'=⟨q.blk,q.db+f,ae⟩\/l=0)->(execOp H o).run P w=.ok (.value (.string ⟨X.toArray⟩)) w:=by
   intro a' C T aM;have s7:(loadCells a' l).run P w=.ok ((X.map λu=>mu .u8 (u.toNat:Int)).toArray) w:=by
    grind[BM,acm]
   have aw:(YB (.slice (J a') l C)).run P w=.ok (.string ⟨X.toArray⟩) w:=by simp only[YB,kD,s7,jE,List.forIn_toArray];rw[ab5 (P:=P) w X ByteArray.empty _ (λu s=>by simp_all)];simp_all
   simp[execOp,h,convert,fw bf,fw R,T,fw he,aw]
  rcases A with⟨_,A⟩|⟨_,_,_,_,_,_,A⟩|⟨_,hV,o',A⟩|⟨_,hV,a',A⟩|⟨_,_,_,_,_,_,_,_,_,A⟩
  ·grind
  ·grind
  ·grind
  ·grind
  grind
 |zQ s t x e l c h bf he R F=>have B:=O x (by grind[dm]);rw[F] at B;have T:=B.nc;refine⟨.string .empty,?_,rfl⟩;simp[execOp,h,convert,fw bf,fw R,T,fw he,YB]
 |lookup hZ x dx ok u bG bA b L E i z v0 t ho h jk hu F nC tf K bF hk bs S bx dw aR=>
  have B:=O x (by grind[dm]);have T:=W3 bF (O dx (by grind[dm]));have core:∃(es:Array MapEntry),bP (ub P j bG bA) E es.toList/\((∃r N,H x=.map (J r)/\w.heap[r]?=J (.map es N))\/(H x=.map ae/\es=#[])):=by
   rcases F with⟨F,hm,bp⟩|⟨F,rfl⟩
   ·rw[F] at B;obtain⟨q,M,A⟩:∃q,j b=J q/\H x=.map (J q.blk):=B;obtain⟨lv,lA,X,N,E',g1,g2,g3,g4,_⟩:=cY.map b q L u M hm
    grind[qG.Yb]
   ·rw[F] at B;exact⟨#[],fs,.inr ⟨B,rfl⟩⟩
  obtain⟨es,g4,A⟩:=core;have Y:=K.find (ap dx) es.toList w hk (Wl g4 bs);have my:=K.check es.isEmpty (ap dx) w hk;have aaG:=aR.find 0 g4;rcases A with⟨r,N,A,g1⟩|⟨A,rfl⟩
  ·rcases aaG with⟨rfl,n,bz,V,ai⟩|⟨rfl,rfl,V⟩
   ·rw[V] at Y;cases ok with
    |false=>exact⟨bz,by simp[execOp,h,Av,fw jk,A,zD g1,T,my,Y],de.wN ai⟩
    |true=>exact⟨.tuple #[bz,.bool aa],by simp[execOp,h,Av,fw jk,A,zD g1,T,my,Y],⟨_,rfl,ai,fC.qh rfl,fs⟩⟩
   ·rw[V] at Y;cases ok with
    |false=>exact⟨v0,by simp[execOp,h,Av,fw jk,A,zD g1,T,my,Y,og S bx],de.wN (zf dw)⟩
    |true=>exact⟨.tuple #[v0,.bool ak],by simp[execOp,h,Av,fw jk,A,zD g1,T,my,Y,og S bx],⟨_,rfl,zf dw,fC.qh rfl,fs⟩⟩
  ·rcases aaG with⟨rfl,n,bz,V,ai⟩|⟨rfl,rfl,V⟩
   ·grind[o6]
   ·rw[V] at Y;simp only[List.isEmpty_toArray,List.isEmpty_nil] at my Y;have my:=K.check aa (ap dx) w hk;cases ok with
    |false=>simp_all[execOp,Av,fw,og,de.wN,zf]
    |true=>exact⟨.tuple #[v0,.bool ak],by simp_all[execOp,Av,fw,og],⟨_,rfl,zf dw,fC.qh rfl,fs⟩⟩
end
section
def cj.up(j:cj)(n:Nat)(e:kl):cj:=λb=>if b=n then J e else j b
def Rel.abF{P:bI}{j:cj}{m:Mem}{w:World}(h:Rel P j m w):j m.next=ae:=by
 cases a:j m.next with
 |none=>rfl
 |some e=>exact absurd (h.lt _ _ a).1 (Nat.lt_irrefl _)
def cj.P9{j:cj}{n:Nat}{e:kl}(a:j n=ae):∀b x,j b=J x->j.up n e b=J x:=by
 grind[cj.up]
def Rel.push{P:bI}{j:cj}{m:Mem}{w w':World}(h:Rel P j m w){X:bW}{e:kl}{ob:Obj}
  (Q:w'.heap=w.heap.push ob) (s:w'.os=w.os) (r:w'.tape=w.tape) (L:w'.output=w.output) (H:e.blk=w.heap.size)
  (E:qI P j e (J ob) X):Post P j m w (j.up m.next e) (m.push X) w':=by
 have C:=h.abF;have l:=cj.P9 (e:=e) C;have g:∀c,c<w.heap.size->w'.heap[c]?=w.heap[c]? :=λc z=>by grind
 have N:w'.heap.size=w.heap.size+1:=by grind
 have I:w'.heap[w.heap.size]?=J ob:=by grind
 have a:∀b,b≠m.next->(m.push X).blk b=m.blk b:=λb f=>by grind[Mem.push]
 have M:(m.push X).blk m.next=X:=by simp[Mem.push]
 have k:∀b x,j.up m.next e b=J x->b≠m.next->j b=J x:=λb x f O=>by grind[cj.up]
 refine Post.of h ⟨?_,?_,?_⟩ ⟨s,r,L,by omega,λc z _=>g c z⟩ (by simp[Mem.push]) ?_ ?_ ?_ (λb f t=>by grind)
 ·intro b x f;by_cases d:b=m.next
  ·subst d;have:x=e:=by grind[cj.up]
   subst this;exact⟨by simp[Mem.push],by omega⟩
  ·have:=h.lt b x (k b x f d)
   grind[Mem.push]
 ·intro b x f;by_cases d:b=m.next
  ·subst d;have:x=e:=by grind[cj.up]
   subst this;rw[M,H,I];exact E.mono l
  ·have p:=k b x f d;rw[a b d,g _ (h.lt b x p).2];exact(h.obj b x p).mono l
 ·intro b i x n f A y t K;by_cases d:b=m.next
  ·by_cases q:i=m.next
   ·grind
   ·have B:x=e:=by grind[cj.up]
    have:=(h.lt i n (k i n A q)).2
    grind
  ·have p:=k b x f d;by_cases q:i=m.next
   ·have B:n=e:=by grind[cj.up]
    have:=(h.lt b x p).2
    grind
   ·rw[a b d] at y;rw[a i q] at t;exact h.inj b i x n p (k i n A q) y t K
 ·grind[cj.up]
 ·intro b x f F;by_cases d:b=m.next
  ·grind[cj.up]
  ·exact absurd (h.lt b x (k b x f d)).1 (vP.2 F)
 grind
def Rel.kill{P:bI}{j:cj}{m:Mem}{w:World}(h:Rel P j m w)(b:Nat):Post P j m w j (m.put b .dead) w:=by
 have a:∀c x,(m.put b .dead).blk c=x->(x≠.dead)->m.blk c=x:=by
  grind[Mem.put]
 refine Post.of h ⟨h.lt,?_,?_⟩ (sC.refl j m w) (e4 _) (λ_ _=>rfl) ?_ ?_ (λc f n=>by
  have l:m.blk c=(m.put b .dead).blk c:=by refine a c _ rfl ?_;intro d;rw[d] at n;cases n
  grind)
 ·intro c x f;by_cases d:(m.put b .dead).blk c=.dead
  ·rw[d];trivial
  ·rw[<-a _ _ rfl d];exact h.obj c x f
 ·intro c i x q f s g k r;have l:m.blk c=(m.put b .dead).blk c:=by
   refine a c _ rfl ?_;intro d;rw[d] at g;cases g
  have t:m.blk i=(m.put b .dead).blk i:=by refine a i _ rfl ?_;intro d;rw[d] at k;cases k
  exact h.inj c i x q f s (by grind) (by grind) r
 ·intro c e f p;exact absurd (h.lt c e f).1 (vP.2 p)
 ·intro c f g;have l:m.blk c=(m.put b .dead).blk c:=by
   refine a c _ rfl ?_;intro d;rw[d] at g;cases g
  grind
def lz(w:World)(c:Nat)(a:Array af)(t:bV)(bZ:Nat×Nat):World:={w with heap:=w.heap.setIfInBounds c (.cells a t bZ)}
theorem Wo{w:World}{c:Nat}{a:Array af}{t:bV}{bZ:Nat×Nat}{x:Nat}(b:x≠c):(lz w c a t bZ).heap[x]?=w.heap[x]? :=by
 grind[lz]
theorem Wg{w:World}{c:Nat}{a:Array af}{t:bV}{bZ:Nat×Nat}(b:c<w.heap.size):(lz w c a t bZ).heap[c]?=J (.cells a t bZ):=by
 grind[lz]
def sn(w:World)(c:Nat)(o:Obj):World:={w with heap:=w.heap.setIfInBounds c o}
theorem adu{w:World}{c:Nat}{o:Obj}{x:Nat}(a:x≠c):(sn w c o).heap[x]?=w.heap[x]? :=by
 grind[sn]
theorem aq8{w:World}{c:Nat}{o:Obj}(a:c<w.heap.size):(sn w c o).heap[c]?=J o:=by
 grind[sn]
def Rel.pF{P:bI}{j:cj}{m:Mem}{w:World}(h:Rel P j m w){b:Nat}{e:kl}{X:bW}{ob:Obj}(i:j b=J e)(l:(m.blk b).iO=aa)(H:qI P j e (J ob) X)(p:X.iO=aa):
  Post P j m w j (m.put b X) (sn w e.blk ob):=by
 have I:=(h.lt b e i).2;have K:(m.blk b).live=aa:=by grind[bW.iO,bW.live]
 have s:∀c x,j c=J x->(m.blk c).live=aa->c≠b->x.blk≠e.blk:=λc x a f g B=>g (h.inj b c e x i a l f B.symm).symm;have d:∀c,c≠b->(m.put b X).blk c=m.blk c:=λc a=>by grind[Mem.put]
 have L:(m.put b X).blk b=X:=by simp[Mem.put]
 have E:(sn w e.blk ob).heap.size=w.heap.size:=by simp[sn]
 refine Post.of h ⟨?_,?_,?_⟩ ⟨rfl,rfl,rfl,by grind,?_⟩ (e4 _) (λ_ _=>rfl) ?_ ?_ (λc a y=>by
  grind)
 ·intro c x a;have:=h.lt c x a;exact⟨this.1,by grind⟩
 ·intro c x a;by_cases g:c=b
  ·grind[aq8]
  ·rw[d c g];cases f:(m.blk c).live with
   |false=>
    cases n:m.blk c<;>simp[n,bW.live] at f
    trivial
   |true=>rw[adu (s c x a f g)];exact h.obj c x a
 ·intro c k x z a C F y A;have q:(m.blk c).iO=aa:=by
   grind
  have r:(m.blk k).live=aa:=by
   grind
  exact h.inj c k x z a C q r A
 ·grind[adu]
 ·intro c x a t;exact absurd (h.lt c x a).1 (vP.2 t)
 grind
def Rel.write{P:bI}{j:cj}{m:Mem}{w:World}(h:Rel P j m w){b:Nat}{e:kl}{L L':List af}{t:bV}{a cs':Array af}{bZ:Nat×Nat}(f:j b=J e)(d:m.blk b=.own L t)
  (C:w.heap[e.blk]?=J (.cells a t bZ)) (s:cs'.size=a.size) (n:L'.length<=e.cap*e.es) (l:∀(i:Nat)(v:af),L'[i]?=J v->∃g,cs'[e.db+i]?=J g/\eA j v g):
  Post P j m w j (m.put b (.own L' t)) (lz w e.blk cs' t bZ):=by
 obtain⟨r,k,x,y,p,z,A,B⟩:=h.own b e L t f d;have q:r=a/\k=bZ:=by grind
 obtain⟨rfl,rfl⟩:=q;exact h.pF f (by rw[d];rfl) ⟨cs',k,rfl,by grind,p,by grind,n,l⟩ rfl
def Rel.reuse{P:bI}{j:cj}{m:Mem}{w:World}(h:Rel P j m w){b:Nat}{e e2:kl}{L L':List af}{t:bV}{B cs':Array af}{bZ:Nat×Nat}(z:j b=J e)(y:m.blk b=.own L t)
  (hw:w.heap[e.blk]?=J (.cells B t bZ)) (bf:cs'.size=B.size) (F:e2.blk=e.blk) (uS:e2.es=e.es) (Y:e2.db+e2.cap*e2.es<=B.size) (E:L'.length<=e2.cap*e2.es) (U:∀(i:Nat)(v:af),L'[i]?=J v->∃A,cs'[e2.db+i]?=J A/\eA j v A):
  Post P j m w (j.up m.next e2) ((m.put b .dead).push (.own L' t)) (lz w e.blk cs' t bZ):=by
 have cF:=(h.lt b e z).2;have bB:=h.abF;have q:=cj.P9 (e:=e2) bB;have T:(m.blk b).iO=aa:=by rw[y];rfl
 have N:∀c x,j c=J x->(m.blk c).live=aa->c≠b->x.blk≠e.blk:=λc x a E g u1=>g (h.inj b c e x z a T E u1.symm).symm;have jh:b<m.next:=(h.lt b e z).1;have X:(m.put b .dead).next=m.next:=rfl;have d:∀c,c≠b->c≠m.next->((m.put b .dead).push (.own L' t)).blk c=m.blk c:=λc a R=>by simp_all[Mem.put,Mem.push]
 have C:((m.put b .dead).push (.own L' t)).blk b=.dead:=by simp[Mem.put,Mem.push,show b≠m.next by omega]
 have I:((m.put b .dead).push (.own L' t)).blk m.next=.own L' t:=by simp[Mem.put,Mem.push]
 have p:∀b x,j.up m.next e2 b=J x->b≠m.next->j b=J x:=λb x y N=>by grind[cj.up]
 obtain⟨rJ,M,g1,g2,g3,g4,g5,g6⟩:=h.own b e L t z y;have jI:rJ=B/\M=bZ:=by grind
 obtain⟨rfl,rfl⟩:=jI;have VA:(lz w e.blk cs' t M).heap.size=w.heap.size:=by simp[lz]
 refine Post.of h ⟨?_,?_,?_⟩ ⟨rfl,rfl,rfl,by grind,?_⟩ (by grind[Mem.push]) ?_ ?_ ?_ (λc a n=>by
  by_cases g:c=b
  ·subst g;rw[y];rfl
  grind)
 ·intro c x a;by_cases f:c=m.next
  ·grind[cj.up,Mem.push]
  ·have:=h.lt c x (p c x a f)
   grind[Mem.push]
 ·intro c x a;by_cases f:c=m.next
  ·subst f;have V:x=e2:=by grind[cj.up]
   subst V;rw[I,F,Wg cF];refine⟨cs',M,rfl,by grind,by grind,by grind,E,λi v Z=>?_⟩;obtain⟨A,fv,fQ⟩:=U i v Z;exact⟨A,fv,fQ.mono q⟩
  ·by_cases g:c=b
   ·subst g;rw[C];trivial
   ·have r:=p c x a f;rw[d c g f];cases Q:(m.blk c).live with
    |false=>
     cases S:m.blk c<;>simp[S,bW.live] at Q
     trivial
    |true=>rw[Wo (N c x r Q g)];exact(h.obj c x r).mono q
 ·intro c l x O a R s n qV;have g:c≠b:=by intro K;subst K;rw[C] at s;cases s
  have H:l≠b:=by intro K;subst K;rw[C] at n;cases n
  by_cases f:c=m.next
  ·grind[cj.up]
  ·rw[d c g f] at s;have r:=p c x a f;by_cases k:l=m.next
   ·grind[cj.up,bW.iO,bW.live]
   ·rw[d l H k] at n;exact h.inj c l x O r (p l O R k) s n qV
 ·grind[Wo]
 ·grind[cj.up]
 ·intro c x a hA;by_cases f:c=m.next
  ·grind[cj.up]
  ·exact absurd (h.lt c x (p c x a f)).1 (vP.2 hA)
 grind
end
section
structure AF(P:bI)(j:cj)(w w':World)(X:bW)(e:kl)(ob:Obj):Prop where
 heap:w'.heap=w.heap.push ob
 os:w'.os=w.os
 tape:w'.tape=w.tape
 output:w'.output=w.output
 blk:e.blk=w.heap.size
 obj:qI P j e (J ob) X
 own:X.iO=aa
def AF.cells{P:bI}{j:cj}{w b:World}{L:List af}{t:bV}{e:kl}{a:Array af}{bZ:Nat×Nat}(m:b.heap=w.heap.push (.cells a t bZ))(g:b.os=w.os)(f:b.tape=w.tape)(h:b.output=w.output)(k:e.blk=w.heap.size)
  (l:∀i:Nat,i<a.size->¬(bZ.1<=i/\i<bZ.2)) (n:P.cellsOf t=e.es) (q:a.size=e.cap*e.es) (r:L.length<=a.size) (s:∀(i:Nat)(v:af),L[i]?=J v->∃d,a[i]?=J d/\eA j v d) (x:e.db=0:=by rfl):AF P j w b (.own L t) e (.cells a t bZ):=
 ⟨m,g,f,h,k,⟨a,bZ,rfl,l,n,by grind,by grind,λi v p=>by grind⟩,rfl⟩
def bP.Yc{R:af->af->Prop}{L:List af}{a:Array af}(h:bP R L a.toList):L.length=a.size/\∀(i:Nat)(v:af),L[i]?=J v->∃d,a[i]?=J d/\R v d:=
 ⟨by simpa using h.length,λi v e=>by obtain⟨b,g,f⟩:=h.get i v e;grind⟩
def CL{n:Nat}:∀i:Nat,i<n->¬(((0,0):Nat×Nat).1<=i/\i<((0,0):Nat×Nat).2):=λi _ h=>absurd h.2 (Nat.not_lt_zero i)
theorem wW{P:bI}{t:bV}{i:TypeInfo}(h:P.info? t=J i):P.cellsOf t=i.size:=by grind[nY]
def Xr:tW 0=#[]:=by rfl
theorem KU(z:Array af)(l:Nat):((tW (l*z.size)).map (λk=>z[k%z.size]!)).toList=(gb l z.toList).flatten:=by
 induction l with
 |zero=>simp
 |succ l a=>
  have e:tW ((l+1)*z.size)=tW (l*z.size)++((tW z.size).map (l*z.size+·)):=by rw[ko,Nat.one_mul,Array.range_add]
  rw[e,Array.map_append,Yu,a,List.replicate_succ',List.flatten_append];congr 1;simp only[List.flatten_cons,List.flatten_nil,List.append_nil,Array.map_map];apply rv;intro i;simp only[ye,sH,Array.toList_range,List.getElem?_range];by_cases b:i<z.size
  ·simp_all[Nat.mod_eq_of_lt]
  grind
theorem KL{j:cj}{L:List af}(h:L.all dy=aa):bP (eA j) L L:=bP.self (λ_=>q4) h
theorem zl{z:List af}(h:z.all dy=aa)(l:Nat):(gb l z).flatten.all dy=aa:=by
 grind
def ad9{P:bI}{j:cj}{M B:bS->af}{o:Oper}{n:Nat}{X:bW}{v:af}(h:jC P M o n X v)(I:h3 j M B o)(w:World):
  ∃bz w' e ob,(execOp B o).run P w=.ok (.value bz) w'/\AF P j w w' X e ob/\∀A:cj,A n=J e->de A v bz:=by
 cases h with
 |alloc t i z h g bx O Y=>
  have F:=(KL (j:=j) O).Yc;refine⟨.pointer (J ⟨w.heap.size,0,ae⟩),w.alloc (.cells z.cells t),⟨w.heap.size,1,i.size,0⟩,_,?_,
   .cells rfl rfl rfl rfl rfl CL (wW g) (by grind) (by simp) F.2,λA m=>⟨_,rfl,m,rfl⟩⟩
  simp_all[execOp,Instr.alloc,og,newVar,newRow]
 |box t x i h g aD Y=>
  have E:=de.storable (I x (by grind[dm])) aD;have F:=E.cells.Yc;refine⟨.pointer (J ⟨w.heap.size,0,ae⟩),w.alloc (.cells (B x).cells t),⟨w.heap.size,1,i.size,0⟩,_,?_,
   .cells rfl rfl rfl rfl rfl CL (wW g) ?_ ?_ F.2,λA m=>⟨_,rfl,m,rfl⟩⟩
  ·simp[execOp,h,Instr.box,newVar,newRow]
  ·grind
  grind
 |buildSlice t l r e i z H h C g bx O et uO uW N=>
  have Q:=h3.VO (j:=j) (ap:=M) (dn:=B) (o:=o) r.toList (λp bb=>I p.2 (by
   grind[dm]))
  have R:bP (eA j) (gb l z.cells.toList).flatten ((tW (l*i.size)).map (λk=>z.cells[k%z.cells.size]!)).toList:=by
   grind[KU,KL]
  obtain⟨ds,oP,aV⟩:=Kv (j:=j) _ _ _ _ H Q R N;have F:=aV.Yc;have hlen:H.length=l*i.size:=by
   have:∀(r:List (Nat×af))(L H:List af)(pl:Nat->Option (Nat×Nat)),k5 pl L r=J H->H.length=L.length:=by
    intro r;induction r with
    |nil=>grind[k5]
    |cons p r a1=>
     grind[k5,mB]
   rw[this _ _ _ _ N];simp_all
  have V:(r.map λ(i,x)=>(i,B x)).toList=r.toList.map λp=>(p.1,B p.2):=by simp
  refine⟨.slice (J ⟨w.heap.size,0,ae⟩) l l,w.alloc (.cells ds e),⟨w.heap.size,l,i.size,0⟩,_,?_,
   .cells rfl rfl rfl rfl rfl CL (wW g) (by grind) (Nat.le_of_eq F.1) F.2,λA m=>⟨_,rfl,m,.inl ⟨uW,rfl⟩⟩⟩
  by_cases U:l*i.size=0
  ·have mU:Instr.fill (λk=>J (k*i.size,i.size)) ((tW 0).map (λk=>(#[]:Array af)[k%0]!)) (r.toList.map λp=>(p.1,B p.2))=J ds:=by
    grind
   simp only[execOp,h,Instr.buildSlice,kD,fw C,jE,jb g];simp only[U];simp[Xr] at mU;simp[mU,V,newRow,Xr]
  ·simp only[execOp,h,Instr.buildSlice,kD,fw C,jE,jb g];simp_all[og,newRow]
 |makeSlice t x y l c k k' e i z h C g bx O et K aZ s7 aw N=>
  have E:=I x (by grind[dm]);rw[K] at E;have eM:=E.int;have ie:=I y (by grind[dm]);rw[aZ] at ie;have lr:=ie.int;have F:=(KL (j:=j) (zl O c)).length;have T:Aw.wrap (l:Int)=(l:Int):=IntWalk.i64_in _ (by omega);have S:Aw.wrap (c:Int)=(c:Int):=IntWalk.i64_in _ (by omega);have pu:(i.bytes:Int)*(c:Int)<=140737488355328:=by
   grind
  refine⟨.slice (J ⟨w.heap.size,0,ae⟩) l c,w.alloc (.cells ((tW (c*i.size)).map (λk=>z.cells[k%z.cells.size]!)) e),⟨w.heap.size,c,i.size,0⟩,_,?_,
   .cells rfl rfl rfl rfl rfl CL (wW g) (by simp) ?_ ?_,λA m=>⟨_,rfl,m,.inl ⟨N,rfl⟩⟩⟩
  ·have uZ:∀q:Int,0<=q->q<=c->(decide (q<0)||decide ((i.bytes:Int)*q>2 ^ 48))=ak:=by
    intro q bR h1;have:(i.bytes:Int)*q<=(i.bytes:Int)*c:=Int.mul_le_mul_of_nonneg_left h1 (by omega)
    grind
   have Y:(Instr.makeSlice t (.int k l) (.int k' c)).run P w=.ok (.slice (J ⟨w.heap.size,0,ae⟩) l c) (w.alloc (.cells ((tW (c*i.size)).map (λk=>z.cells[k%z.cells.size]!)) e)):=by
    simp only[Instr.makeSlice,kD,fw C,jE,asInt,asIntOf,nt,vm g,T,S];rw[uZ c (by omega) (by omega)];have h1:¬((l:Int)<0):=by omega
    have Q:¬((l:Int)>(c:Int)):=by omega
    simp only[h1,Q,decide_false,Bool.or_self,Yx,if_false,kD,run_askRoom,jE,Int.toNat_natCast,jb g,nt];simp_all[newRow,Xr,og]
   simp_all[execOp]
  ·simp_all
  grind[KU,zl,q4]
 |bytes s t x e i b h Y C he g kL K aw=>
  have E:=I x (by grind[dm]);rw[K] at E;have eM:=E.str
  let f:=(Question.appendCap b.size 0 e).cut (w.tape w.drawn (.appendCap b.size 0 e))
  have kJ:b.size<=f/\f<dc:=by
   have cF:=Nat.mod_lt (w.tape w.drawn (.appendCap b.size 0 e)) (show 0<2 ^ 63-b.size by omega)
   grind[Question.cut,dc]
  let d:Array af:=b.data.map (λu=>.int .u8 u.toNat)++nj (f-b.size) (.int .u8 0)
  have Bu:d.size=f:=by simp[d];grind
  refine⟨.slice (J ⟨w.heap.size,0,ae⟩) b.size f,(w.drew.alloc (.cells d e)).freeze {block:=w.heap.size,off:=f} 1,⟨w.heap.size,f,1,0⟩,Obj.cells d e (f,f+1),?_,
   .cells ?_ ?_ ?_ ?_ rfl ?_ (by grind[wW]) (by grind) ?_ ?_,λA m=>⟨_,rfl,m,.inr (.inl ⟨rfl,Nat.one_pos,?_,kJ.2,?_,?_,?_⟩)⟩⟩
  ·have ayq:(Conv.stringToBytes e b).run P w=.ok (.slice (J ⟨w.heap.size,0,ae⟩) b.size f) ((w.drew.alloc (.cells d e)).freeze {block:=w.heap.size,off:=f} 1):=by
    simp only[Conv.stringToBytes,kD,run_choose,TK,Yx,if_false,jE,newRow,run_newObj,nt,markStringish,run_shape];have ayr:(w.drew.alloc (.cells d e)).heap[w.heap.size]?=J (.cells d e):=by show(w.heap.push (Obj.cells d e))[w.heap.size]?=_;simp
    have JY:((w.drew.alloc (.cells d e)).shape? w.heap.size)=J (e,d.size):=by grind[World.shape?]
    show(Result.andThen (Sem.run P (match(w.drew.alloc (.cells d e)).shape? w.heap.size with|some (_,n)=>freeze {block:=w.heap.size,off:=n} 1|_=>pure ()) (w.drew.alloc (.cells d e))) _)=_;rw[JY];simp[Bu];rfl
   simp_all[execOp,convert,fw]
  ·grind[World.freeze,World.alloc,World.drew]
  ·rfl
  ·rfl
  ·rfl
  ·grind
  ·grind
  ·intro a v Z;refine⟨v,?_,?_⟩
   ·grind
   ·simp only[sH] at Z;cases bm:b.data.toList[a]? with
    |none=>grind
    |some u=>simp[bm] at Z;subst Z;rfl
  ·grind
  ·rfl
  ·simp
  grind
 |makeMap t bG bA h C=>refine⟨.map (J w.heap.size),w.alloc (.map #[] 0),⟨w.heap.size,0,0,0⟩,_,?_,⟨rfl,rfl,rfl,rfl,rfl,⟨bG,bA,#[],0,[],rfl,C,⟨rfl,λp bb=>by grind⟩,fs,⟨by simp,λx K=>by grind⟩⟩,rfl⟩,λA m=>⟨_,m,rfl⟩⟩;simp[execOp,h,Instr.makeMap]
def arc{P:bI}{j:cj}{f i:bS->af}{o:Oper}{m:Mem}{w:World}{X:bW}{v:af}(h:jC P f o m.next X v)(p:h3 j f i o)(n:Rel P j m w):
  ∃b d g,(execOp i o).run P w=.ok (.value b) d/\Post P j m w g (m.push X) d/\de g v b:=by
 obtain⟨b,d,e,ob,l,a,k⟩:=ad9 h p w;exact⟨b,d,j.up m.next e,l,n.push a.heap a.os a.tape a.output a.blk a.obj,k _ (by simp[cj.up])⟩
end
section
theorem Kt{w:World}{c:Nat}{a:Array af}{t:bV}{bZ:Nat×Nat}(h:w.heap[c]?=J (.cells a t bZ)):lz w c a t bZ=w:=by
 have:w.heap.setIfInBounds c (.cells a t bZ)=w.heap:=by
  grind
 simp_all[lz]
theorem aqg{w:World}{c:Nat}{b a:Array af}{t:bV}{bZ:Nat×Nat}:lz (lz w c b t bZ) c a t bZ=lz w c a t bZ:=by
 simp[lz]
theorem aqa{w:World}{c o:Nat}{a:Array af}{t:bV}{bZ:Nat×Nat}{v:af}(h:w.heap[c]?=J (.cells a t bZ)):w.setCell ⟨c,o,ae⟩ v=lz w c (a.setIfInBounds o v) t bZ:=by
 have:(w.setCell ⟨c,o,ae⟩ v).heap=(lz w c (a.setIfInBounds o v) t bZ).heap:=by
  grind[World.setCell,lz]
 grind[World.setCell,lz]
def wX{P:bI}(c o:Nat)(t:bV)(bZ:Nat×Nat):∀(b:List af)(i:Nat)(a:Array af)(w:World),w.heap[c]?=J (.cells a t bZ)->(∀k:Nat,k<a.size->¬(bZ.1<=k/\k<bZ.2))->
  o+i+b.length<=a.size->(∀v∈b,v.oneCell'=aa)->(storeCells ⟨c,o,ae⟩ b i).run P w=.ok () (lz w c (eY a.toList (o+i) b).toArray t bZ)
 |[],i,a,w,h,e,d,f=>by simp_all[storeCells,eY,Kt]
 |v::b,i,a,w,h,e,d,f=>by
  simp only[List.length_cons] at d;have g:=(Array.getElem?_eq_some_iff.1 h).1;have m:w.cell? ⟨c,o+i,ae⟩=J a[o+i]:=by grind[rG]
  have n:w.frozen? ⟨c,o+i,ae⟩=ak:=by
   have:=e (o+i) (by omega)
   grind[World.frozen?]
  have j:=wX (P:=P) c o t bZ b (i+1) (a.setIfInBounds (o+i) v) (lz w c (a.setIfInBounds (o+i) v) t bZ) (Wg g) (by grind) (by grind) (λx l=>f x (by grind))
  grind[storeCells,kD,o4,run_store,jE,aqa,aqg,eY]
def bP.one{j:cj}:∀{L K:List af},bP (eA j) L K->∀v∈K,v.oneCell'=aa
 |[],[],_,v,d=>by grind
 |a::L,b::K,⟨f,e⟩,v,d=>by
  rcases ha.1 d with rfl|d
  ·exact f.one
  ·exact bP.one e v d
 |[],_::_,h,_,_=>h.elim
 |_::_,[],h,_,_=>h.elim
def V7{P:bI}{j:cj}{m:Mem}{w:World}(N:uq P j m w){e:Nat}{y n:af}{new:List af}(x:de j y n)(h:kt m e y=J new):
  (Tq n).run P w=.ok (ja y) w/\∃g:List af,bP (eA j) new g/\(new.length=ja y*e->∀k,k<=ja y->∀d:World,d.heap=w.heap->(qD e k n).run P d=.ok (g.take (k*e)).toArray d):=by
 cases y with
 |slice a l c=>
  cases a with
  |none=>have p:=x.nc;subst p;simp only[kt,kB.injEq] at h;subst h;refine⟨by rfl,[],fs,λA k t d F=>?_⟩;simp[qD]
  |some a=>
   obtain⟨b,f,I⟩:=a;obtain⟨q,B,C,i⟩:=x.slice;simp only at B C;subst B;simp only[kt] at h;obtain⟨g,K,A,R⟩:=BL N C _ _ _ h;have Q:∀(r:Addr)(H:Nat),n=.slice (J r) l H->(r=⟨q.blk,q.db+f,ae⟩\/l=0)->(Tq n).run P w=.ok (ja (.slice (J ⟨b,f,ae⟩) l c)) w/\
     ∃g:List af,bP (eA j) new g/\(new.length=ja (.slice (J ⟨b,f,ae⟩) l c)*e->∀k,k<=ja (.slice (J ⟨b,f,ae⟩) l c)->∀d:World,d.heap=w.heap->(qD e k n).run P d=.ok (g.take (k*e)).toArray d):=by
    intro r H p z;subst p;refine⟨by rfl,g,K,λL k t d F=>?_⟩;simp only[ja] at t;simp only[qD];have E:(g.take (k*e)).length=k*e:=by simp_all
    rcases z with rfl|z
    ·grind[BM,rG]
    simp_all[acm]
   rcases i with⟨_,i⟩|⟨_,_,_,_,_,_,i⟩|⟨_,O,S,i⟩|⟨_,O,r,i⟩|⟨_,_,_,_,_,_,_,_,_,i⟩
   ·grind
   ·grind
   ·grind
   ·grind
   grind
 |string s=>
  have p:=x.str;subst p;simp only[kt] at h;split at h
  ·rename_i M;subst M;simp only[kB.injEq] at h;subst h;refine⟨by rfl,s.data.toList.map λu=>.int .u8 u.toNat,KL (by simp only[List.all_map,iA,YD];intro u _;rfl),λA k t d F=>?_⟩;simp only[qD,nt,Nat.mul_one,ja] at t⊢;congr 1;apply Ii;simp_all
  grind
 |_=>grind[kt]
inductive Ih(P:bI)(w:World)(u:bV)(i:TypeInfo)(kr:af)(n:Nat)(iB:List af):Prop where
 |el (hu:(∃cz,P.underlying u=J (.slice cz))\/P.underlying u=J .string) (aR:∀w',(Tq kr).run P w'=.ok n w') (bF:∀w',w'.heap=w.heap->(qD i.size n kr).run P w'=.ok iB.toArray w')
 |mk (kk k:aG) (z:af) (hu:P.underlying u=J (.int kk)) (aD:kr=.int k n) (bx:i.zero=J z) (cN:0<i.size) (aw:n*i.bytes<=140737488355328) (hm:n<9223372036854775807) (ji:iB.toArray=yf z.cells n)
def afF(z:Array af):yf z 0=#[]:=by simp[yf]
theorem zh{P:bI}{t u K e:bV}{i:TypeInfo}{b:Option Addr}{l c n:Nat}{x:af}{w:World}{p:List af}(g:P.underlying t=J (.slice e))(d:P.info? e=J i)
  (F:Ih P w u i x n p) (h:l+n<=c):
  (tZ #[t,u] K #[.slice b l c,x]).run P w=
   match b with
   |some a=>((storeCells (a.add (l*i.size)) p).run P w).andThen λ_ w=>.ok (.slice b (l+n) c) w
   |none=>.ok (.slice b (l+n) c) w:=by
 cases F with
 |el f j m=>have j:=j w;have m:=m w rfl;rcases f with⟨N,q⟩|q<;>cases b<;>simp[tZ,fw g,fw q,jb d,j,h,m]
 |mk kk k z f A r M L O Q=>
  subst A;have B:aO .i64 (n:Int)=n:=by grind[vN]
  have C:¬((n:Int)<0):=by omega
  have E:¬((281474976710656:Int)<(n:Int)*(i.bytes:Int)):=by
   grind
  have H:¬i.size=0:=by omega
  have y:p=(yf z.cells n).toList:=by grind
  subst y;by_cases s:n=0
  ·subst s;cases b<;>simp[tZ,fw g,fw f,jb d,vm d,og d r,h,asInt,asIntOf,afF,show aO .i64 (0:Int)=0 from rfl]<;>omega
  ·have I:¬n*i.size=0:=by grind[Nat.mul_eq_zero]
   cases b<;>simp[tZ,fw g,fw f,jb d,vm d,og d r,B,C,E,s,H,I,h,asInt,asIntOf]
def ap4{P:bI}{t u ty e:bV}{i:TypeInfo}{z:af}{base:Option Addr}{l c n:Nat}{y:af}{w:World}{r:Array af}{s:List af}(h:P.underlying t=J (.slice e))(a:P.info? e=J i)(d:i.zero=J z)
  (N:Ih P w u i y n s) (F:c<l+n) (Y:l+n<9223372036854775807) (E:(l+n)*i.bytes<=140737488355328)
  (C:∀m,m.heap=w.heap->(qD i.size l (.slice base l c)).run P m=.ok r m):
  (tZ #[t,u] ty #[.slice base l c,y]).run P w=
   .ok (.slice (J ⟨w.heap.size,0,ae⟩) (l+n) (grownCap w (l+n) c e)) (w.drew.alloc (.cells (r++s.toArray++yf z.cells (grownCap w (l+n) c e-(l+n))) e)):=by
 have f:¬(l+n<=c):=by omega
 have p:¬(9223372036854775807<((l:Int)+(n:Int))):=by omega
 have uT:=growslice_fits F E;have b:¬(281474976710656<Builtin.nextslicecap (l+n) c*i.bytes):=by omega
 have j:=C w.drew rfl;cases N with
 |el g H I=>have T:=I w.drew rfl;rcases g with⟨V,q⟩|q<;>simp[tZ,fw h,fw q,jb a,vm a,og a d,H,f,p,b,TK,j,T,newRow,grownCap]
 |mk kk k z' g B A U X Z O=>
  rw[d] at A;cases A;subst B;have K:aO .i64 (n:Int)=n:=by grind[vN]
  have L:¬((n:Int)<0):=by omega
  have M:¬((281474976710656:Int)<(n:Int)*(i.bytes:Int)):=by
   grind
  have Q:¬i.size=0:=by omega
  rw[O];by_cases x:n=0
  ·subst x;simp only[pS] at f b;have R:¬(9223372036854775807<(l:Int)):=by omega
   simp[tZ,fw h,fw g,jb a,vm a,og a d,f,R,b,TK,j,newRow,grownCap,asInt,asIntOf,afF,show aO .i64 (0:Int)=0 from rfl]
  ·have S:¬n*i.size=0:=by grind[Nat.mul_eq_zero]
   simp[tZ,fw h,fw g,jb a,vm a,og a d,K,f,p,b,L,M,x,Q,S,TK,j,newRow,grownCap,asInt,asIntOf]
end
section
def BT{j:cj}{L new:List af}{f:Array af}{k:List af}{o a:Nat}(h:∀(i:Nat)(v:af),L[i]?=J v->∃b,f[a+i]?=J b/\eA j v b)(g:bP (eA j) new k)(l:o+new.length<=L.length)(m:a+L.length<=f.size):
  ∀(i:Nat)(v:af),(eY L o new)[i]?=J v->∃b,(eY f.toList (a+o) k).toArray[a+i]?=J b/\eA j v b:=by
 intro i v e;have d:=g.length;rw[o5 _ _ _ _ l] at e;simp only[IK];rw[o5 _ _ _ _ (by grind)];rw[<-d];split at e
 ·rename_i n;rw[if_pos (by omega),show a+i-(a+o)=i-o by omega];exact g.get _ _ e
 grind
def zt(a:Array af)(o:Nat)(b:List af):(eY a.toList o b).toArray.size=a.size:=by simp[mB]
def wU{P:bI}{a:bS->af}{o:Oper}{x y:bS}{t u:bV}(h:o.op=.call {callee:=.builtin .append,args:=#[x,y],argTypes:=#[t,u]}){w b:World}{v:af}
  (d:(tZ #[t,u] o.type #[a x,a y]).run P w=.ok v b):(execOp a o).run P w=.ok (.value v) b:=by
 simp_all[execOp,resolve,invoke,builtin]
def Cf(P:bI)(j:cj)(m:Mem)(w:World)(e:bS->af)(o:Oper)(v:af)(f:Mem):Prop:=∃n a d b,(execOp e o).run P w=.ok n d/\(n=.value a\/(n=.skip/\a=undef))/\Post P j m w b f d/\de b v a
theorem aqk{P:bI}{j:cj}{d f:bS->af}{o:Oper}{m:Mem}{w:World}{t:bV}{x y:bS}{b a:Nat}{i:TypeInfo}{L:List af}{e:bV}(h:o.op=.store t x y)(B:d x=.pointer (J ⟨b,a,ae⟩))(M:P.info? t=J i)(z:m.blk b=.own L e)
   (A:storable (d y)=aa) (O:(d y).cells.size=i.size) (I:a+i.size<=L.length) (s:h3 j d f o) (n:Rel P j m w):Cf P j m w f o undef (m.put b (.own (eY L a (d y).cells.toList) e)):=by
 have l:=s x (by grind[dm]);rw[B] at l;obtain⟨q,_,k,K⟩:=l.ptr;have H:=de.storable (s y (by grind[dm])) A;have g:=H.cells;obtain⟨p,bZ,r,E,Q,R,S,F⟩:=n.own b q L e k z;have N:(f y).cells.size=i.size:=by have:=g.length;grind
 have C:=wX (P:=P) q.blk (q.db+a) e bZ (f y).cells.toList 0 p w r E (by grind) (bP.one g);simp only[pS] at C;refine⟨.skip,undef,_,j,?_,.inr ⟨rfl,rfl⟩,n.write k z r (zt p _ _) (by grind[mB]) (BT F g (by grind) (by omega)),?_⟩
 ·simp_all[execOp,Instr.storeAt,yj,storeVar,jb]
 ·exact⟨#[],rfl,fs⟩
def abX{P:bI}{j:cj}{m:Mem}{w:World}(l:uq P j m w){d:Nat}{y g:af}{new:List af}(i:de j y g)(h:kt m d y=J new)(e:new.length=ja y*d):
  ∃b:List af,bP (eA j) new b/\∀a:World,a.heap=w.heap->(qD d (ja y) g).run P a=.ok b.toArray a:=by
 obtain⟨_,b,f,k⟩:=V7 l i h;refine⟨b,f,λa n=>?_⟩;rw[k e _ (e4 _) a n,<-e,f.length,List.take_length]
theorem arT{P:bI}{j:cj}{m:Mem}{w d:World}(h:Rel P j m w)(f:d.heap=w.heap):Rel P j m d:=
 ⟨⟨λb e a=>by have:=h.lt b e a;grind,λb e a=>by rw[f];exact h.obj b e a,h.inj⟩,h.mE.val.keep λ_ _=>by grind,h.mE.sep⟩
theorem aq7{z:af}(a:z.cells.toList.all dy=aa)(n:Nat):∀v∈(gb n z.cells.toList).flatten,dy v=aa:=by
 grind[zl]
def BR{P:bI}{j:cj}{m:Mem}{w:World}(p:uq P j m w){u:bV}{i:TypeInfo}{y f:af}{n:Nat}{new:List af}(d:de j y f)(h:sA P m u i y n new)(A:new.length=n*i.size):
  ∃e:List af,bP (eA j) new e/\Ih P w u i f n e:=by
 cases h with
 |el g s q=>subst s;obtain⟨b,_⟩:=V7 p d q;obtain⟨e,F,r⟩:=abX p d q A;refine⟨e,F,.el g (λO=>?_) r⟩;have:=b;cases l:f<;>simp[l,Tq] at this⊢<;>exact this
 |mk kk k z g t B L N C x E H=>
  subst H;have l:f=.int k n:=by rw[t] at d;exact d.int
  refine⟨(gb n z.cells.toList).flatten,bP.Kj rfl λa v K I M=>?_,.mk kk k z g l B C x E ?_⟩
  ·grind[q4,aq7]
  ·have:=KU z.cells n;rw[<-this];rfl
def abV{P:bI}{j:cj}{r:bS->af}{o:Oper}{m m0:Mem}{w:World}{x y:bS}{t u e:bV}{i:TypeInfo}{z:af}{b:Option Addr}{l c n:Nat}{g new:List af}{s A:List af}
   (h:o.op=.call {callee:=.builtin .append,args:=#[x,y],argTypes:=#[t,u]})
   (K:P.underlying t=J (.slice e)) (B:P.info? e=J i) (Q:i.zero=J z) (V:z.cells.size=i.size) (R:0<i.size)
   (an:r x=.slice b l c) (U:Ih P w u i (r y) n A) (N:c<l+n)
   (nF:g.length=l*i.size) (qR:new.length=n*i.size) (C:bP (eA j) g s) (F:bP (eA j) new A)
   (H:∀f,f.heap=w.heap->(qD i.size l (.slice b l c)).run P f=.ok s.toArray f)
   (M:(l+n)*i.bytes<=140737488355328) (Z:l+n<9223372036854775807) (S:Rel P j m0 w) (L:m0.next=m.next):
  ∃q f E,(execOp r o).run P w=.ok (.value q) f/\Post P j m0 w E (m0.push (.own (g++new) e)) f/\de E (.slice (J ⟨m.next,0,ae⟩) (l+n) dc) q:=by
 have kv:=ap4 (P:=P) (ty:=o.type) (base:=b) (z:=z) K B Q U N Z M H
 let a:=grownCap w (l+n) c e
 have kJ:l+n<=a:=grownCap_ge w _ c e;have p:a<dc:=by
  have cF:=Nat.mod_lt (w.tape w.drawn (.appendCap (l+n) c e)) (show 0<2 ^ 63-(l+n) by omega)
  grind[grownCap,Question.cut,dc]
 let d:=s.toArray++A.toArray++yf z.cells (a-(l+n))
 have O:=C.length;have T:=F.length;have Bu:d.size=a*i.size:=by
  simp only[d,Array.size_append,List.size_toArray,size_zeroCells,V];rw[<-O,<-T,nF,qR,<-ko,<-ko]
  grind
 have wy:=S.push (w':=w.drew.alloc (.cells d e)) (X:=.own (g++new) e) (e:=⟨w.heap.size,a,i.size,0⟩) (ob:=.cells d e) rfl rfl rfl rfl rfl ⟨d,(0,0),rfl,CL,wW B,by grind,
  (by grind),
  (λk v Y=>by
   have I:=bP.append C F;obtain⟨q,iF,aV⟩:=I.get k v Y
   grind)⟩
 refine⟨.slice (J ⟨w.heap.size,0,ae⟩) (l+n) a,_,_,wU h (by grind),wy,⟨⟨w.heap.size,a,i.size,0⟩,rfl,by grind[cj.up],.inr (.inl ⟨rfl,R,?_,p,?_,?_,?_⟩)⟩⟩
 ·simp_all
 ·rfl
 ·simp
 ·simp
def aqb{b:Array MapEntry}{a:Nat}(h:zy b a)(i:Nat)(f:MapEntry->MapEntry)(n:∀e,(f e).born=e.born):zy (b.modify i f) a:=by
 have d:(b.modify i f).toList.map (·.born)=b.toList.map (·.born):=by
  rw[Array.toList_modify];refine rv λk=>?_
  grind
 refine⟨by rw[d];exact h.1,λx l=>?_⟩;have g:x.born∈(b.modify i f).toList.map (·.born):=l2.2 ⟨x,l,rfl⟩;rw[d] at g;obtain⟨y,j,m⟩:=l2.1 g;rw[<-m];exact h.2 y j
def aqj{i:Array MapEntry}{d:Nat}(h:zy i d)(e:MapEntry)(l:e.born=d):zy (i.push e) (d+1):=by
 refine⟨?_,λx f=>?_⟩
 ·rw[Array.toList_push,List.map_append,List.nodup_append];refine⟨h.1,by simp,λa k b g=>?_⟩;obtain⟨y,j,rfl⟩:=l2.1 k;simp only[rA,TA,IM] at g;rw[g,l];exact Nat.ne_of_lt (h.2 y j)
 ·rw[Array.toList_push] at f;rcases kU.1 f with f|f
  ·exact Nat.lt_succ_of_lt (h.2 x f)
  grind
def uA.find{P:bI}{j:cj}{b m:bV}{d w:List af}{E k:List (List af×List af)}{bz:af}{clock:Nat}(h:uA (ek P b) d w E k)(A:d.all dy=aa)(s:fC j (ey (ek P m) w) bz):∀{a:List MapEntry}(n:Nat),bP (ub P j b m) E a->
  (∃i y,o6 (ey (ek P b) d) a n=J (n+i,y.val)/\a[i]?=J y/\y.key=ey (ek P b) d/\bP (ub P j b m) k (a.modify i λe=>{e with key:=ey (ek P b) d,val:=bz}))\/
  (o6 (ey (ek P b) d) a n=ae/\bP (ub P j b m) k (a++[{key:=ey (ek P b) d,val:=bz,born:=clock}])):=by
 induction h with
 |qZ=>
  intro a n f;cases a with
  |nil=>exact .inr ⟨rfl,⟨rfl,A,s⟩,fs⟩
  |cons _ _=>exact f.elim
 |rS p E h=>
  intro a n f;cases a with
  |nil=>exact f.elim
  |cons x a=>obtain⟨⟨g,l,q⟩,r⟩:=f;refine .inl ⟨0,x,by grind[o6],rfl,g.trans h,?_⟩;exact⟨⟨h.symm,l,s⟩,r⟩
 |next p E k h I z=>
  intro a n f;cases a with
  |nil=>exact f.elim
  |cons x a=>
   obtain⟨⟨g,l,q⟩,r⟩:=f;have K:¬x.key=ey (ek P b) d:=λB=>h (g.symm.trans B);rcases z (n+1) r with⟨i,y,C,t,F,H⟩|⟨C,t⟩
   ·refine .inl ⟨i+1,y,?_,by grind,F,?_⟩
    ·grind[o6]
    ·exact⟨⟨g,l,q⟩,H⟩
   ·refine .inr ⟨?_,?_⟩
    ·grind[o6]
    ·exact⟨⟨g,l,q⟩,t⟩
def aqQ{P:bI}{C:FuncId->Array af->Mem->af->Mem->Prop}{j:cj}{S O:bS->af}{o:Oper}{m m':Mem}{w:World}{v:af}(h:hR P C S o m v m')(X:h3 j S O o)(B:Rel P j m w):
  Cf P j m w O o v m'\/∃f args,callee o S f args/\C f args m v m':=by
 cases h with
 |store t x y b d i L e h U Z T aD bf aR=>grind[aqk]
 |call f args v m' h cW=>grind
 |vZ x y t u e i a l c h aJ Z U Y s7 aZ=>
  left;have A:=X x (by grind[dm,lh]);rw[U] at A;have ie:=X y (by simp[h,dm,lh]);obtain⟨ds,bg,eL⟩:=BR B.ot ie aZ (by simp);have oP:ds=[]:=by have:=bg.length;grind
  subst oP;have s:∃N,O x=.slice N l c/\de j (.slice a l c) (.slice N l c):=by
   cases a with
   |none=>exact⟨ae,A.nc,rfl⟩
   |some a=>
    obtain⟨q,bf,g,I⟩:=A.vw (lG Y);rcases I with⟨cF,I⟩|⟨I,_⟩|⟨I,_⟩|⟨rQ,hV,N,I⟩
    ·grind
    ·grind
    ·grind
    grind
  obtain⟨N,s,ayv⟩:=s;refine⟨.value (.slice N l c),.slice N l c,w,j,wU h ?_,.inl rfl,Post.refl B,by grind⟩;rw[s,zh aJ Z eL (by omega)];cases N<;>simp[storeCells]
 |sP x y t u e i z a l c n ew new h aJ Z bx dw et cN U Y aM nF aZ bB aw T=>
  left;have A:=X x (by grind[dm,lh]);have ie:=X y (by grind[dm,lh]);have Vj:ja (S x)=l:=by rw[U];rfl
  have s:∃N,O x=.slice N l c:=by
   rw[U] at A;cases a with
   |none=>exact⟨ae,A.nc⟩
   |some a=>
    obtain⟨q,bf,g,I⟩:=A.vw (by grind[dc]);rcases I with⟨cF,I⟩|⟨I,_⟩|⟨I,_⟩|⟨rQ,hV,N,I⟩
    ·grind
    ·grind[dc]
    ·grind[dc]
    grind
  obtain⟨N,s⟩:=s;obtain⟨ds,bg,axZ⟩:=abX B.ot A aM (by grind);obtain⟨iB,R,eL⟩:=BR B.ot ie aZ bB;have Bm:∀w':World,w'.heap=w.heap->(qD i.size l (.slice N l c)).run P w'=.ok ds.toArray w':=by
   grind
  obtain⟨bz,w',c6,h1,ai,aT⟩:=abV (m:=m) h aJ Z bx et cN s eL Y nF bB bg R Bm aw T B rfl;exact⟨.value bz,bz,w',c6,h1,.inl rfl,ai,aT⟩
 |vY x y t u e i b d l c n L new h aJ Z U gN Y T aZ bB aR=>
  left;have A:=X x (by grind[dm,lh]);rw[U] at A;have ie:=X y (by grind[dm,lh]);obtain⟨iB,R,eL⟩:=BR B.ot ie aZ bB;obtain⟨q,_,g,I⟩:=A.vw (lG gN);rcases I with⟨cF,s⟩|⟨I,_⟩|⟨I,_⟩|⟨rQ,hV,N,s⟩
  rotate_left 3
  ·
   subst rQ;subst hV;have Bz:n=0:=by omega
   have wq:new=[]:=by simp_all
   subst wq;have U4:iB=[]:=by have:=R.length;grind
   subst U4;obtain⟨F,bZ,H,g2,g3,g4,g5,g6⟩:=B.own b q L e g T;have hw:=B.write (L':=L) g T H (cs':=F) rfl g5 g6;rw[Kt H] at hw;refine⟨.value _,_,_,j,wU h (v:=.slice (J N) (0+n) 0) ?_,.inl rfl,hw,⟨q,rfl,g,.inr (.inr (.inr (.inl ⟨rfl,by omega,N,by grind⟩)))⟩⟩;rw[s,zh aJ Z eL Y];rfl
  ·obtain⟨F,bZ,H,g2,g3,g4,g5,g6⟩:=B.own b q L e g T;rw[ko,<-bB,<-sK] at aR;have fb:=wX (P:=P) q.blk (q.db+(d+l*i.size)) e bZ iB 0 F w H g2 (by rw[<-R.length];omega) (bP.one R);simp only[pS] at fb;refine⟨.value _,_,_,j,wU h (v:=.slice (J ⟨q.blk,q.db+d,ae⟩) (l+n) c) ?_,.inl rfl,B.write g T H (zt F _ _) (by grind[mB]) (BT g6 R aR (by omega)),
    ⟨q,rfl,g,.inl ⟨cF,rfl⟩⟩⟩
   grind[zh,o4,jE]
  ·grind
  grind
 |yy x y t u e i b d l c k n L new h aJ Z U gN nB Y T aZ bB aR=>
  left;have A:=X x (by grind[dm,lh]);rw[U] at A;have ie:=X y (by grind[dm,lh]);obtain⟨iB,R,eL⟩:=BR B.ot ie aZ bB;obtain⟨q,_,g,I⟩:=A.slice;have g:j b=J q:=g;rcases I with⟨cF,_⟩|⟨I,_⟩|⟨I,_⟩|⟨rQ,_⟩|⟨k',lL,_,_,rR,kJ,cF,p8,Q,s⟩
  ·omega
  ·omega
  ·omega
  ·grind
  ·have an0:k'=k:=by omega
   subst an0;have kJ:k'<=q.cap-d / q.es:=kJ;have p8:d%q.es=0:=p8;have Q:d / q.es<=q.cap:=Q;obtain⟨F,bZ,H,g2,g3,g4,g5,g6⟩:=B.own b q L e g T;rw[ko,<-bB,<-sK] at aR;have fb:=wX (P:=P) q.blk (q.db+(d+l*i.size)) e bZ iB 0 F w H g2 (by rw[<-R.length];omega) (bP.one R);simp only[pS] at fb;refine⟨.value _,_,_,j,wU h (v:=.slice (J ⟨q.blk,q.db+d,ae⟩) (l+n) (q.cap-d / q.es)) ?_,.inl rfl,B.write g T H (zt F _ _) (by grind[mB]) (BT g6 R aR (by omega)),
    ⟨q,rfl,g,.inr (.inr (.inr (.inr ⟨k',lL,nB,Y,rR,kJ,cF,p8,Q,rfl⟩)))⟩⟩
   grind[zh,o4,jE]
 |append x y t u e i z b d l n L new h aJ Z bx dw et cN U jj yS aZ bB aw T=>
  left;have A:=X x (by grind[dm,lh]);have axH:=A;rw[U] at A;have ie:=X y (by grind[dm,lh]);obtain⟨iB,R,eL⟩:=BR B.ot ie aZ bB;obtain⟨q,_,g,I⟩:=A.vw (e4 _);have g:j b=J q:=g;obtain⟨F,bZ,H,g2,g3,g4,g5,g6⟩:=B.own b q L e g jj;have rR:i.size=q.es:=by grind[wW]
  have uZ:((L.drop d).take (l*i.size)).length=l*i.size:=by grind
  have ayt:∀(k:Nat)(v:af),((L.drop d).take (l*i.size))[k]?=J v->∃bz,((F.toList.drop (q.db+d)).take (l*i.size))[k]?=J bz/\eA j v bz:=by
   grind
  have aot:bP (eA j) ((L.drop d).take (l*i.size)) ((F.toList.drop (q.db+d)).take (l*i.size)):=bP.Kj (by grind) (λk a dJ bl e5=>by
   grind)
  have out:∀(o' c3:Nat),O x=.slice (J ⟨q.blk,o',ae⟩) l c3->(o'=q.db+d\/l=0)->c3<l+n->Cf P j m w O o (.slice (J ⟨m.next,0,ae⟩) (l+n) dc) ((m.put b .dead).push (.own ((L.drop d).take (l*i.size)++new) e)):=by
   intro o' c3 s aM Y;have hk:=B.kill b;have Bm:∀w':World,w'.heap=w.heap->(qD i.size l (.slice (J ⟨q.blk,o',ae⟩) l c3)).run P w'=.ok ((F.toList.drop (q.db+d)).take (l*i.size)).toArray w':=by
    grind[qD,BM,rG]
   obtain⟨bz,w',c6,h1,ai,aT⟩:=abV (m:=m) (m0:=m.put b .dead) h aJ Z bx et cN s eL Y uZ bB aot R Bm aw T hk.rel rfl;exact⟨.value bz,bz,w',c6,h1,.inl rfl,Post.trans hk ai,aT⟩
  rcases I with⟨cF,_⟩|⟨_,hh,hle,kJ,p8,Q,s⟩|⟨_,hV,o',s⟩|⟨rQ,_⟩
  rotate_left 3
  ·grind[dc]
  ·grind
  ·have hle:l<=q.cap-d / q.es:=hle;have p8:d%q.es=0:=p8;have Q:d / q.es<=q.cap:=Q;have rV:d=d / q.es*q.es:=by
    grind[Nat.div_add_mod]
   have axQ:d+(q.cap-d / q.es)*q.es=q.cap*q.es:=by
    grind[Nat.sub_mul]
   have s:O x=.slice (J ⟨q.blk,q.db+d,ae⟩) l (q.cap-d / q.es):=s;by_cases uT:l+n<=q.cap-d / q.es
   ·have td:d+(l+n)*i.size<=q.cap*q.es:=by
     have:(l+n)*i.size<=(q.cap-d / q.es)*q.es:=by rw[rR];exact oH _ uT
     omega
    have ays:q.db+d+l*i.size+new.length<=F.size:=by grind
    have fb:=wX (P:=P) q.blk (q.db+d+l*i.size) e bZ iB 0 F w H g2 (by rw[<-R.length];omega) (bP.one R);simp only[pS] at fb;refine⟨.value _,_,_,j.up m.next ⟨q.blk,q.cap-d / q.es,q.es,q.db+d⟩,wU h (v:=.slice (J ⟨q.blk,q.db+d,ae⟩) (l+n) (q.cap-d / q.es)) ?_,.inl rfl,
     B.reuse (e2:=⟨q.blk,q.cap-d / q.es,q.es,q.db+d⟩) (L':=(L.drop d).take (l*i.size)++new) g jj H (zt F (q.db+d+l*i.size) iB) rfl rfl (by grind) (by grind) ?_,
     ⟨⟨q.blk,q.cap-d / q.es,q.es,q.db+d⟩,rfl,by simp[cj.up],.inr (.inl ⟨rfl,hh,by simpa using uT,TI (Nat.sub_le _ _) kJ,by rfl,by simp,by simp⟩)⟩⟩
    ·grind[zh,o4,jE]
    ·intro k v hk;simp only[IK];rw[o5 _ _ _ _ (by rw[<-R.length];grind)];rw[List.getElem?_append,uZ] at hk;split at hk
     ·grind
     ·rename_i hA;obtain⟨bz,h1,ai⟩:=R.get _ _ hk;have:=(fq.1 h1).1;rw[if_pos (by omega)];exact⟨bz,by rw[show q.db+d+k-(q.db+d+l*i.size)=k-l*i.size by omega];grind,ai⟩
   grind
  ·by_cases uT:l+n<=0
   ·have Bz:n=0:=by omega
    have yT:new=[]:=by simp_all
    subst yT;subst hV;have anH:iB=[]:=by have:=R.length;grind
    subst anH;have JW:=B.reuse (e2:=q) (L':=(L.drop d).take (0*i.size)++[]) g jj H (cs':=F) rfl rfl rfl g4 (by simp) (λk v hk=>by grind);rw[Kt H] at JW;refine⟨.value (.slice (J ⟨q.blk,o',ae⟩) 0 0),_,w,j.up m.next q,wU h ?_,.inl rfl,JW,⟨q,rfl,by simp[cj.up],.inr (.inr (.inl ⟨rfl,by omega,o',rfl⟩))⟩⟩;subst Bz;rw[s,zh aJ Z eL (by omega)];rfl
   grind
 |clear x t e i z b d l c L h aJ Z bx dw et U T hV aR=>
  left;have A:=X x (by grind[dm,lh]);rw[U] at A;obtain⟨q,_,g,I⟩:=A.slice;have g:j b=J q:=g;have s:∃c3,O x=.slice (J ⟨q.blk,q.db+d,ae⟩) l c3:=by
   rcases I with⟨_,Y⟩|⟨_,_,_,_,_,_,Y⟩|⟨_,bR,_⟩|⟨_,bR,_⟩|⟨_,_,_,_,_,_,_,_,_,Y⟩
   ·grind
   ·grind
   ·omega
   ·omega
   grind
  obtain⟨c3,s⟩:=s;obtain⟨F,bZ,H,g2,g3,g4,g5,g6⟩:=B.own b q L e g T;have abb:z.cells.toList.length=i.size:=by grind
  have hlen:(gb l z.cells.toList).flatten.length=l*i.size:=by simp_all
  have bg:bP (eA j) (gb l z.cells.toList).flatten (gb l z.cells.toList).flatten:=bP.self (p:=dy) (λa h=>q4 h) (by
   grind)
  have hB:d+(gb l z.cells.toList).flatten.length<=L.length:=by grind
  have fb:=wX (P:=P) q.blk (q.db+d) e bZ (gb l z.cells.toList).flatten 0 F w H g2 (by omega) (bP.one bg);simp only[pS] at fb;have qX:(yf z.cells l).toList=(gb l z.cells.toList).flatten:=KU z.cells l;refine⟨.value _,.tuple #[],_,j,?_,.inl rfl,B.write g T H (zt F _ _) (by grind[mB]) (BT g6 bg hB (by omega)),⟨#[],rfl,fs⟩⟩;have ax6:l≠0:=by omega
  cases l with
  |zero=>grind
  |succ l=>
  simp only[execOp,h,resolve,invoke,builtin,kD,nt,jE,YX,rA,TA,Builtin.clear_,IK,IJ,fw aJ,s,og Z bx,qX,fb]
 |copy x y t u e i b d l c L F h aJ Z U T aZ bB aR=>
  left;have A:=X x (by grind[dm,lh]);rw[U] at A;have ie:=X y (by grind[dm,lh]);obtain⟨hlen,axl,U4,bF⟩:=V7 B.ot ie aZ;have Vm:rB (ja (S y)) l<=ja (S y):=Nat.min_le_left _ _;have bF:=bF bB _ Vm w rfl;have R:=U4.take (rB (ja (S y)) l*i.size);obtain⟨q,_,g,I⟩:=A.slice;have g:j b=J q:=g;obtain⟨ds,bZ,H,g2,g3,g4,g5,g6⟩:=B.own b q L e g T;have hB:d+(F.take (rB (ja (S y)) l*i.size)).length<=L.length:=by rw[List.length_take];have:rB (ja (S y)) l*i.size<=l*i.size:=oH _ (Nat.min_le_right _ _);omega
  have key:∀(N:Addr)(c3:Nat),O x=.slice (J N) l c3->(N=⟨q.blk,q.db+d,ae⟩\/l=0)->Cf P j m w O o (.int .i64 (rB (ja (S y)) l)) (m.put b (.own (eY L d (F.take (rB (ja (S y)) l*i.size))) e)):=by
   intro N c3 s aM;rcases aM with rfl|aM
   ·have fb:=wX (P:=P) q.blk (q.db+d) e bZ _ 0 ds w H g2 (by grind) (bP.one R);simp only[pS] at fb;refine⟨.value _,.int .i64 (rB (ja (S y)) l),_,j,?_,.inl rfl,B.write g T H (zt ds _ _) (by grind[mB]) (BT g6 R hB (by omega)),rfl⟩;simp only[execOp,h,resolve,invoke,builtin,kD,nt,jE,YX,rA,TA,Builtin.copy_,IK,IJ,qH,fw aJ,s,hlen,jb Z,bF,fb,goInt]
   ·subst aM;have bR:rB (ja (S y)) 0=0:=Nat.min_zero _;simp only[bR,Nat.zero_mul,List.take_zero,eY] at bF hB⊢;have hw:=B.write (L':=L) g T H (cs':=ds) rfl g5 g6;rw[Kt H] at hw;refine⟨.value _,.int .i64 (0:Nat),w,j,?_,.inl rfl,hw,rfl⟩;have am1:rB (ja (S y)) 0=0:=Nat.min_zero _;simp only[execOp,h,resolve,invoke,builtin,kD,nt,jE,YX,rA,TA,Builtin.copy_,IK,IJ,qH,fw aJ,s,hlen,jb Z,am1,bF,goInt,storeCells]
  rcases I with⟨_,s⟩|⟨_,_,_,_,_,_,s⟩|⟨_,hV,o',s⟩|⟨_,hV,N,s⟩|⟨_,_,_,_,_,_,_,_,_,s⟩
  ·grind
  ·grind
  ·grind
  ·grind
  grind
 |mapUpdate hZ x jW j3 u bG bA b L eo vc E E' ho h jk hu U jj bp nC K yP uV yQ bF hk bs rZ J1 tg wA hb=>
  left;have Vl:∀y∈([x,jW,j3]:List bS),y∈o.op.operands:=by
   grind[dm]
  have A:=X x (Vl x (by simp));rw[U] at A;obtain⟨q,g,Y⟩:∃q,j b=J q/\O x=.map (J q.blk):=A;have aaB:=W3 bF (X jW (Vl jW (by simp)));have iF:=de.storable (X j3 (Vl j3 (by simp))) rZ;have aaW:=B.obj b q g;rw[jj] at aaW;obtain⟨lv,lA,F,M,awZ,H,g2,g3,g4,g5⟩:=aaW;have yR:lv=bG/\lA=bA:=by grind
  obtain⟨rfl,rfl⟩:=yR;have:=qG.Yb nC bp g3;subst this;have pw:=K.find (S jW) F.toList w hk (Wl g4 bs);have my:=K.check ak (S jW) w hk;have aaR:qG (P.cellsOf lv) (P.cellsOf lA) (E'.flatMap λp=>p.1++p.2) E':=by
   refine⟨rfl,?_⟩;have:=bp.len;clear bp g3 g4 bs;induction hb with
   |qZ=>grind
   |rS p E h=>
    grind
   |next p E E' h Bb a1=>
    intro r aV;rcases ha.1 aV with rfl|aV
    ·grind
    ·exact a1 (λr aV=>this r (by grind)) r aV
  have key:=hb.find (j:=j) (bz:=O j3) (clock:=M) yQ (by grind) 0 g4;rw[<-yP] at key;have fin:∀(V:Array MapEntry)(Jk:Nat),bP (ub P j lv lA) E' V.toList->zy V Jk->(execOp O o).run P w=.ok .skip (sn w q.blk (.map V Jk))->
    Cf P j m w O o undef (m.put b (.map (E'.flatMap λp=>p.1++p.2) u)):=by
   intro V Jk lM fb kv;refine⟨.skip,undef,_,j,kv,.inr ⟨rfl,rfl⟩,B.pF g (by rw[jj];rfl) ⟨lv,lA,V,Jk,E',rfl,hu,aaR,lM,fb⟩ rfl,⟨#[],rfl,fs⟩⟩
  have hex:∀w',(YP hZ (O x) (O jW) (O j3)).run P w=.ok () w'->(execOp O o).run P w=.ok .skip w':=by intro w' tj;rcases h with h|h<;>simp[execOp,h,tj]
  rcases key with⟨i,y,h1,ai,aT,br⟩|⟨h1,ai⟩
  ·refine fin (F.modify i λe=>{e with key:=S jW,val:=O j3}) M ?_ (aqb g5 i _ λ_=>rfl) (hex _ ?_)
   ·grind
   ·have fb:=K.stays (S jW) w hk;rw[h1] at pw;have uU:F[i]?=J y:=by grind
    simp[YP,fw jk,Y,zD H,aaB,my,pw,uU,aT,fb,aee _ H,sn]
  ·refine fin (F.push {key:=S jW,val:=O j3,born:=M}) (M+1) ?_ (aqj g5 _ rfl) (hex _ ?_)
   ·grind
   ·rw[h1] at pw;simp[YP,fw jk,Y,zD H,aaB,my,pw,aee _ H,sn]
end
section
def aqN{n d:Nat}(h:n<=d){v:af}(b:r4 n v):r4 d v:=by
 unfold r4 at b⊢;split at b
 ·rename_i a;cases a with
  |none=>exact b
  |some a=>exact hS b h
 grind
def aqM{n:Nat}{v:af}(a:r4 n v):h7 n v:=by
 unfold r4 at a;split at a
 ·exact a
 grind
theorem tw{n d:Nat}(h:n<=d){v:af}(b:h7 n v):h7 d v:=by
 cases v with
 |func fn f g=>exact⟨b.1,λv e=>aqN h (b.2 v e)⟩
 |pointer a=>cases a with
  |none=>exact b
  |some a=>exact hS b h
 |slice a l c=>cases a with
  |none=>exact b
  |some a=>exact hS b h
 |map r=>cases r with
  |none=>exact b
  |some r=>exact hS b h
 |_=>exact b
theorem KE{n a:Nat}(h:n<=a){v:af}(b:iv n v):iv a v:=by
 cases v with
 |agg e=>exactλv d=>tw h (b v d)
 |_=>grind[iv,tw]
theorem WO{n f:Nat}(h:n<=f){v:af}(e:low n v):low f v:=by
 cases v with
 |chan _=>trivial
 |tuple g=>exactλv d=>KE h (e v d)
 |func _ a b=>exact⟨λv d=>KE h (e.1 v d),λv d=>KE h (e.2 v d)⟩
 |_=>grind[low,KE]
def acA{n d:Nat}(h:n<=d){x:bW}(a:qe n x):qe d x:=by
 cases x with
 |dead=>exact a
 |ro f=>exactλi v e=>tw h (a i v e)
 |own L t=>exactλv b=>tw h (a v b)
 |map L t=>exactλv b=>tw h (a v b)
 |lock _ _ _ _=>trivial
theorem zq{n:Nat}{v:af}(h:dy v=aa):h7 n v:=by
 cases v with
 |pointer a=>cases a with
  |none=>exact fs
  |some a=>grind[dy]
 |slice a l c=>cases a with
  |none=>exact fs
  |some a=>grind[dy]
 |map r=>cases r with
  |none=>exact fs
  |some r=>grind[dy]
 |chan _=>grind[dy]
 |func _ _ _=>simp only[dy,fx,Yt] at h;obtain⟨rfl,rfl⟩:=h;exact⟨rfl,λv b=>absurd b (by simp)⟩
 |iface _ _=>grind[dy]
 |agg _=>grind[dy]
 |tuple _=>grind[dy]
 |_=>exact fs
theorem Wv{n:Nat}{v:af}(h:kz v=aa):iv n v:=by
 cases v with
 |agg b=>simp only[kz,iA] at h;exactλv a=>zq (h v a)
 |_=>simp only[iv];exact zq h
theorem WJ{n:Nat}{v:af}(h:flat v=aa):low n v:=by
 cases v with
 |tuple b=>simp only[flat,iA] at h;exactλv a=>Wv (h v a)
 |func _ _ _=>simp only[flat,kz,dy,fx,Yt] at h;obtain⟨rfl,rfl⟩:=h;exact⟨λv a=>absurd a (by simp),λv a=>absurd a (by simp)⟩
 |chan _=>trivial
 |_=>simp only[low];exact Wv h
def KQ{n:Nat}{v:af}(h:h7 n v):iv n v:=by
 cases v<;>first|exact h|exact h.elim
theorem B7{n:Nat}{v:af}(h:iv n v):low n v:=by
 cases v with
 |func fn b d=>exact⟨λv a=>by rw[h.1] at a;grind,λv a=>KQ (aqM (h.2 v a))⟩
 |tuple _=>exact h.elim
 |chan _=>trivial
 |_=>exact h
theorem K6{n:Nat}{v:af}(h:h7 n v):low n v:=B7 (KQ h)
theorem wY{n:Nat}{v:af}(h:low n v)(a:storable v=aa):iv n v:=by
 cases v with
 |tuple _=>grind[storable]
 |chan _=>grind[storable]
 |func fn f g=>
  simp only[storable,fx,Yt,iA] at a;refine⟨a.1,λv d=>?_⟩;have e:=h.2 v d;have b:=a.2 v d;unfold xr at b;split at b
  ·exact e
  grind
 |_=>exact h
def Kr{n:Nat}{v:af}(h:iv n v):∀c∈v.cells.toList,h7 n c:=by
 cases v with
 |agg b=>exact h
 |_=>intro c a;simp only[af.cells,IM] at a;subst a;exact h
def r9:∀(a L:List af)(o:Nat)(v:af),v∈eY L o a->v∈L\/v∈a
 |[],L,o,v,h=>.inl h
 |u::a,L,o,v,h=>by
  rcases r9 a (L.set o u) (o+1) v h with h|h
  ·grind
  grind
theorem KB{n:Nat}{a:Nat->Option (Nat×Nat)}:∀(d:List (Nat×af))(L b:List af),(∀p∈d,low n p.2)->(∀v∈L,h7 n v)->k5 a L d=J b->∀v∈b,h7 n v
 |[],L,b,_,k,h=>by grind[k5]
 |(i,v)::d,L,b,f,k,h=>by
  simp only[k5] at h;cases j:a i with
  |none=>grind
  |some q=>
   simp only[j] at h;split at h
   ·rename_i g;refine KB d _ b (λp l=>f p (by grind)) ?_ h;intro u e;rcases r9 _ _ _ _ e with e|e
    ·grind
    ·exact Kr (wY (f (i,v) (by simp)) g.1) u e
   grind
theorem WL{m:Mem}(d:WF m){b o:Nat}{v:af}(h:m.load b o=J v):h7 m.next v:=by
 have:=d.low b;unfold Mem.load at h;cases a:m.blk b with
 |dead=>grind
 |ro e=>simp only[a] at h;rw[a] at this;exact this o v h
 |own L t=>simp only[a] at h;rw[a] at this;exact this v (mM h)
 |map L t=>grind
 |lock _ _ _ _=>grind
theorem KX{m:Mem}(g:WF m){b:Nat}:∀(n o:Nat)(a:List af),kd m b o n=J a->∀v∈a,h7 m.next v
 |0,o,a,h=>by grind[kd]
 |n+1,o,a,h=>by
  simp only[kd] at h;cases f:m.load b o with
  |none=>grind
  |some u=>
   cases e:kd m b (o+1) n with
   |none=>grind
   |some l=>
    simp only[f,e,kB.injEq] at h;subst h;intro v d;rcases ha.1 d with rfl|d
    ·grind[WL]
    ·exact KX g n (o+1) l e v d
theorem tu{n:Nat}{L:List af}(h:L.all dy=aa):∀v∈L,h7 n v:=by
 grind[zq]
theorem ars{P:bI}{K:bS->af}{o:Oper}{v:af}{n:Nat}(h:dD P K o v)(r:∀x∈o.op.operands,low n (K x)):low n v:=by
 cases h with
 |flat v N h A aV=>grind[WJ]
 |move x h=>grind[dm]
 |pick c a b t h E=>
  grind[dm]
 |extract x i vs v h j A=>have:=r x (by grind[dm]);rw[j] at this;exact B7 (this v (by grind))
 |field t x i M f d F v h m L O j A=>
  have:=r x (by grind[dm]);rw[j] at this;split at A
  ·obtain⟨k,hk,hle,rfl⟩:=A;intro u hu;refine this u ?_
   grind[Yv]
  ·exact K6 (this v (by grind))
 |J6 t x y e d i l k n' F h m O X p j B C s=>
  have:=r x (by grind[dm]);rw[j] at this;intro u hu;refine this u ?_
  grind[Yv]
 |J5 t x y e d i l k n' F v h m O X p j B C s A=>have:=r x (by grind[dm]);rw[j] at this;exact K6 (this v (by grind))
 |build t Z M i z F h m p Y dw bb E=>
  grind[KB,dm,tu,low,iv]
 |Jg t Z n e i k z F h m p Y dw he E=>
  grind[KB,dm,tu,low,iv]
 |nilCheck x a h j=>
  grind[dm]
 |fieldAddr t x i M f k b q h m L hk N j=>have:=r x (by grind[dm]);rw[j] at this;exact this
 |indexAddr t x y e i b q l c k n h m p j B C s=>have:=r x (by grind[dm]);rw[j] at this;exact this
 |J4 t x y e i b q l k n h m p j B C s=>have:=r x (by grind[dm]);rw[j] at this;exact this
 |JC t x y e i l g k n h m p N j B C s aR=>exact fs
 |slice t x Q p e i b q l c n R h m I j aw S H s ai aT=>have:=r x (by grind[dm]);rw[j] at this;exact this
 |nc t x Q p e i h m I j S H=>exact fs
 |slice3 t x T p e i b q l c R k' V h m I j E H U s=>have:=r x (by grind[dm]);rw[j] at this;exact this
 |P5 t x Q p T e i b q l c n R k' Kb J9 V h m I j E S H U C s=>exact fs
 |P4 t x T p e i V h m I j H U=>exact fs
 |len x t e a l c h m j=>exact fs
 |Jj x t e h m j=>exact fs
 |A2 neq x y t u e a l c h m j B=>exact fs
 |func fn first w h L=>
  refine⟨?_,?_⟩
  ·grind[wY,dm]
  grind[wY,dm]
def aqW{P:bI}{a:bV}{n:Nat}{b:List af}(f:ek P a=ak->P.cellsOf a=1)(d:b.length=P.cellsOf a)(h:∀c∈b,h7 n c):iv n (ey (ek P a) b):=by
 cases e:ek P a with
 |true=>grind[ey,iv]
 |false=>
  have:=f e
  match b,d with
  |[v],_=>exact KQ (h v (by simp))
  |[],d=>grind
  |_::_::_,d=>grind
theorem art{P:bI}{C:bS->af}{o:Oper}{m:Mem}{v:af}(h:fH P C o m v)(hm:WF m)(N:∀x∈o.op.operands,low m.next (C x)):low m.next v:=by
 cases h with
 |load t x b f d v h a r V w=>grind[K6,WL]
 |wc t x g n s h a bB r I=>exact fs
 |wI t x b f d i Z h a r V A w=>grind[low,iv,KX]
 |vx t x Y A e i L b f l c k n dG h r fm a hk n4 eW eN h1 S R=>have:=N x (by grind[dm]);rw[a] at this;exact this
 |slice t x Y A e i L b f l n dG h r fm a n4 eW eN h1 S R=>have:=N x (by grind[dm]);rw[a] at this;exact this
 |str s t x e b f l c Z h U he r a w=>exact fs
 |zQ s t x e l c h U he r a=>exact fs
 |lookup hZ x dx ok u bG T b L E i z v0 t ho h jk hu a nC tf K bF hk I A bx dw B=>
  have bR:iv m.next v0:=by
   have y:(∀p∈E,∀c∈p.2,h7 m.next c)/\∀p∈E,p.2.length=P.cellsOf T:=by
    rcases a with⟨a,jj,H⟩|⟨a,rfl⟩
    ·have M:=hm.low b;rw[jj] at M;exact⟨λp F c ay=>M c (by rw[H.eq];grind),λp F=>(H.len p F).2⟩
    grind
   obtain⟨O,j⟩:=y;clear I a;induction B with
   |qZ=>grind[Wv]
   |rS p E h=>exact aqW tf (j p (by simp)) (O p (by simp))
   |next p E v b h B Q=>exact Q (λq X=>O q (by grind)) (λq X=>j q (by grind))
  cases ok with
  |false=>grind[B7]
  |true=>
   intro v w;simp at w;rcases w with rfl|rfl
   ·grind
   ·exact fs
def atb{P:bI}{j:bS->af}{o:Oper}{n:Nat}{X:bW}{v:af}(h:jC P j o n X v)(B:∀x∈o.op.operands,low n (j x)):low (n+1) v/\qe n X:=by
 cases h with
 |alloc t i z h d q a p=>exact⟨pT n,tu a⟩
 |box t x i h d g p=>exact⟨pT n,Kr (wY (B x (by grind[dm])) g)⟩
 |buildSlice t l H e i z I h f d q a A O Q m=>
  refine⟨pT n,KB _ _ _ ?_ (tu (zl a l)) m⟩
  grind[dm]
 |makeSlice t x y l c k L e i z h f d q a A r C N w m=>exact⟨pT n,tu (zl a c)⟩
 |bytes s t x e i b h p f K d M r w=>exact⟨pT n,tu (by simp only[List.all_map,iA,YD];intro u _;rfl)⟩
 |makeMap t F E h f=>exact⟨pT n,λv g=>by grind⟩
def WF.push{m:Mem}(h:WF m){X:bW}(d:qe (m.next+1) X):WF (m.push X) where
 dead:=λb a=>by simp only[Mem.push] at a⊢;rw[if_neg (by omega)];exact h.dead b (by omega)
 low:=λb=>by
  simp only[Mem.push];split
  ·grind
  ·exact acA (mo _) (h.low b)
def WF.put{m:Mem}(h:WF m){b:Nat}{x:bW}(d:qe m.next x)(e:b<m.next\/x=.dead):WF (m.put b x) where
 dead:=λc a=>by
  have a:m.next<=c:=a;simp only[Mem.put];split
  ·grind
  ·exact h.dead c a
 low:=λc=>by
  simp only[Mem.put];split
  ·grind
  ·exact h.low c
def WF.lt{m:Mem}(h:WF m){b:Nat}(d:m.blk b≠.dead):b<m.next:=by
 rcases mq b m.next with a|a
 ·grind
 ·exact absurd (h.dead b a) d
def pB(C:FuncId->Array af->Mem->af->Mem->Prop):Prop:=∀f b m v d,C f b m v d->WF m->(∀a∈b.toList,low m.next a)->low d.next v/\WF d/\m.next<=d.next
theorem Wu{m:Mem}(g:WF m){f:Nat}{y:af}{e:List af}(h:kt m f y=J e):∀v∈e,h7 m.next v:=by
 cases y with
 |slice a l c=>
  cases a with
  |none=>grind[kt]
  |some a=>
   obtain⟨b,i,d⟩:=a;cases d with
   |none=>exact KX g _ _ _ h
   |some _=>grind[kt]
 |string s=>
  simp only[kt] at h;split at h
  ·simp only[kB.injEq] at h;subst h;exact tu (by simp only[List.all_map,iA,YD];intro u _;rfl)
  grind
 |_=>grind[kt]
theorem La{P:bI}{m:Mem}(r:WF m){u:bV}{i:TypeInfo}{y:af}{n:Nat}{a:List af}(h:sA P m u i y n a):∀v∈a,h7 m.next v:=by
 cases h with
 |el b d q=>grind[Wu]
 |mk kk k z b e g l p j f s t=>
  grind[tu,zl]
def aqq{o:Oper}{i:bS->af}{f:FuncId}{b:Array af}{n:Nat}(h:callee o i f b)(k:∀x∈o.op.operands,low n (i x)):∀a∈b.toList,low n a:=by
 obtain⟨x,m,p,first,e,h,j,rfl⟩:=h;have g:=k x (by grind[dm,lh]);rw[j] at g;intro a d;simp only[Yu,kU,ye,l2] at d;rcases d with(d|⟨y,l,rfl⟩)|d
 ·exact B7 (g.1 a d)
 ·grind[dm,lh]
 ·exact B7 (g.2 a d)
theorem asi{P:bI}{C:FuncId->Array af->Mem->af->Mem->Prop}{X:bS->af}{o:Oper}{m M:Mem}{v:af}(h:hR P C X o m v M)(g:WF m)(Q:∀x∈o.op.operands,low m.next (X x))(cW:pB C):low M.next v/\WF M/\m.next<=M.next:=by
 cases h with
 |store t x y b r i L e h s H j R bf S=>
  refine⟨λu B=>by grind,g.put ?_ (.inl (g.lt (by grind))),e4 _⟩;intro u B;rcases r9 _ _ _ _ B with B|B
  ·have:=g.low b;rw[j] at this;exact this u B
  ·exact Kr (wY (Q y (by grind[dm])) R) u B
 |call f N v M h U0=>exact cW f N m v M U0 g (aqq h Q)
 |vZ x y t u e i a l c h I H s A s7 F=>grind[dm,lh]
 |sP x y t u e i z a l c n ew new h I H Z dw et cN s A aM nF F T aw lN=>
  refine⟨pT _,g.push ?_,mo _⟩;intro w d;rcases kU.1 d with d|d
  ·exact tw (mo _) (Wu g aM w d)
  ·exact tw (mo _) (La g F w d)
 |yy x y t u e i b r l c k n L new h I H s gN nB A j F T S=>
  refine⟨?_,g.put ?_ (.inl (g.lt (by grind))),e4 _⟩
  ·have:=Q x (by grind[dm,lh]);rw[s] at this;exact this
  ·intro w d;rcases r9 _ _ _ _ d with d|d
   ·have:=g.low b;rw[j] at this;exact this w d
   grind[La]
 |vY x y t u e i b r l c n L new h I H s gN A j F T S=>
  refine⟨?_,g.put ?_ (.inl (g.lt (by grind))),e4 _⟩
  ·have:=Q x (by grind[dm,lh]);rw[s] at this;exact this
  ·intro w d;rcases r9 _ _ _ _ d with d|d
   ·have:=g.low b;rw[j] at this;exact this w d
   grind[La]
 |append x y t u e i z b r l n L new h I H Z dw et cN s j yS F T aw lN=>
  have h1:WF (m.put b .dead):=g.put fs (.inr rfl);refine⟨pT _,h1.push ?_,mo _⟩;intro w d;rcases kU.1 d with d|d
  ·have:=g.low b;rw[j] at this;exact tw (mo _) (this w (List.mem_of_mem_drop (List.mem_of_mem_take d)))
  ·exact tw (mo _) (La g F w d)
 |clear x t e i z b r l c L h I H Z dw et s j hV S=>
  refine⟨by intro v R;grind,g.put ?_ (.inl (g.lt (by grind))),e4 _⟩;intro w d;rcases r9 _ _ _ _ d with d|d
  ·have:=g.low b;rw[j] at this;exact this w d
  grind[List.mem_flatten,zq]
 |copy x y t u e i b r l c L cs h I H s j F T S=>
  refine⟨fs,g.put ?_ (.inl (g.lt (by grind))),e4 _⟩;intro w d;rcases r9 _ _ _ _ d with d|d
  ·have:=g.low b;rw[j] at this;exact this w d
  grind[Wu]
 |mapUpdate hZ x jW j3 u bG bA b L eo vc E V ho h jk B s j Y nC K yP uV yQ bF hk bs rZ J1 tg wA hb=>
  refine⟨λu B=>by grind,g.put ?_ (.inl (g.lt (by grind))),e4 _⟩;have U:=g.low b;rw[j] at U;have qN:∀p∈E,∀c∈p.1++p.2,h7 m.next c:=λp bb c A=>U c (by rw[Y.eq];grind);have ax5:∀c∈eo,h7 m.next c:=tu yQ;have ayu:∀c∈vc,h7 m.next c:=λc A=>by
   refine Kr (wY (Q j3 ?_) rZ) c (wA c A)
   grind[dm]
  have key:∀p∈V,∀c∈p.1++p.2,h7 m.next c:=by
   clear Y bs U;induction hb with
   |qZ=>
    grind
   |rS p E h=>
    intro q O c A
    grind
   |next p E V h Bb a1=>
    intro q O c A;rcases ha.1 O with rfl|O
    ·grind
    ·exact a1 (λq O=>qN q (by grind)) q O c A
  intro v R;obtain⟨p,bb,A⟩:=List.mem_flatMap.1 R
  grind
def aew{a:Nat->af}{n:Nat}(h:∀t,low n (a t)){x:bS}(d:nI x=aa):low n (bk a x):=by
 cases x with
 |tmp t=>exact h t
 |const v=>exact WJ d
 |global g=>trivial
 |func f=>exact⟨λv b=>by grind,λv b=>by grind⟩
theorem Ca{a:Nat->af}{n:Nat}(h:∀t,low n (a t)){d:Option Tmp}{v:af}(b:low n v):∀t,low n (set a d v t):=by
 intro t;cases d with
 |none=>exact h t
 |some d=>grind[set]
theorem Kz{n:Nat}:low n undef:=λv a=>by grind
def w8{P:bI}{C:FuncId->Array af->Mem->af->Mem->Prop}{b:Nat->af}{o:Oper}{m a:Mem}{v:af}(h:ln P C (bk b) o m v a)(g:WF m)(f:∀t,low m.next (b t))(j:pB C)(d:∀x∈o.op.operands,nI x=aa):
  low a.next v/\WF a/\m.next<=a.next:=by
 have i:∀x∈o.op.operands,low m.next (bk b x):=λx e=>aew f (d x e);cases h with
 |pure h=>grind[ars]
 |read h=>grind[art]
 |new h=>have:=atb h i;exact⟨this.1,g.push (acA (mo _) this.2),mo _⟩
 |fX h=>grind[asi]
end
section
def XJ(P:bI)(C:FuncId->Array af->Mem->af->Mem->Prop)(a:List Oper)(o:Oper)(b:Nat->af)(m:Mem)(v:af)(d:Mem)(k:Nat):Prop:=
 (k=0/\wanted a b o=ak/\v=undef/\d=m)\/
 (k=1/\wanted a b o=aa/\dD P (bk b) o v/\d=m)\/
 (k=2/\wanted a b o=aa/\fH P (bk b) o m v/\d=m)\/
 (k=3/\wanted a b o=aa/\∃X,jC P (bk b) o m.next X v/\d=m.push X)\/
 (k=4/\wanted a b o=aa/\hR P C (bk b) o m v d)
structure ys(P:bI)(C:FuncId->Array af->Mem->af->Mem->Prop)(ops:List Oper)(B:Array Nat)(i:Nat)(l:List Oper)(bY:Nat->Nat->af)(ms:Nat->Mem)(vs:Nat->af)(dA:Nat->Nat):Prop where
 frame:∀n o,l[n]?=J o->bY (i+n+1)=set (bY (i+n)) o.dst (vs (i+n))
 run:∀n o,l[n]?=J o->XJ P C ops o (bY (i+n)) (ms (i+n)) (vs (i+n)) (ms (i+n+1)) (dA (i+n))
 after:∀r e o,l[r]?=J o->dA (i+r)=2->e<l.length->dA (i+e)=4->r<e->gD B (i+e) (i+r)=ak->fH P (bk (bY (i+r))) o (ms (i+e+1)) (vs (i+r))
 news:∀x e,x<l.length->dA (i+x)=3->e<l.length->dA (i+e)=4->x<e->gD B (i+e) (i+x)=ak->(ms (i+e+1)).blk (ms (i+x)).next=(ms (i+e)).blk (ms (i+x)).next
 ahead:∀r e o,l[r]?=J o->dA (i+r)=2->e<l.length->dA (i+e)=4->e<r->gD B (i+r) (i+e)=ak->fH P (bk (bY (i+r))) o (ms (i+e)) (vs (i+r))
def afj{P:bI}{C:FuncId->Array af->Mem->af->Mem->Prop}{s:List Oper}{B:Array Nat}:∀(l:List Oper)(i:Nat)(A:Acc)(t:Nat->af)(m:Mem)(H:Nat->af)(I:Mem),hW P C s B i l A t m H I->
  ∃j f L p,ys P C s B i l j f L p/\j i=t/\f i=m/\j (i+l.length)=H/\f (i+l.length)=I/\
   (∀x∈A.reads,∀e,e<l.length->p (i+e)=4->gD B (i+e) x.1=ak->x.2 (f (i+e+1)))/\
   (∀x∈A.iC,∀r o,l[r]?=J o->p (i+r)=2->gD B (i+r) x.1=ak->fH P (bk (j (i+r))) o x.2 (L (i+r)))/\
   (∀x∈A.news,∀e,e<l.length->p (i+e)=4->gD B (i+e) x.1=ak->(f (i+e+1)).blk x.2=(f (i+e)).blk x.2)
 |[],i,A,t,m,H,I,h=>by simp only[hW] at h;obtain⟨rfl,rfl⟩:=h;refine⟨λ_=>H,λ_=>I,λ_=>undef,λ_=>0,⟨?_,?_,?_,?_,?_⟩,rfl,rfl,rfl,rfl,?_,?_,?_⟩;all_goals grind
 |o::E,i,A,t,m,H,I,h=>by
  have q:∀(v:af)(K:Mem)(k:Nat)(z:Acc),XJ P C s o t m v K k->hW P C s B (i+1) E z (set t o.dst v) K H I->
    (∀x∈A.reads,x∈z.reads)->(∀x∈A.iC,x∈z.iC)->(k=2->(i,λm=>fH P (bk t) o m v)∈z.reads)->(k=4->(i,m)∈z.iC)->
    (k=2->∀x∈A.iC,gD B i x.1=ak->fH P (bk t) o x.2 v)->(k=4->∀x∈A.reads,gD B i x.1=ak->x.2 K)->(∀x∈A.news,x∈z.news)->(k=3->(i,m.next)∈z.news)->(k=4->∀x∈A.news,gD B i x.1=ak->K.blk x.2=m.blk x.2)->
    ∃j f L p,ys P C s B i (o::E) j f L p/\j i=t/\f i=m/\j (i+(o::E).length)=H/\f (i+(o::E).length)=I/\
     (∀x∈A.reads,∀e,e<(o::E).length->p (i+e)=4->gD B (i+e) x.1=ak->x.2 (f (i+e+1)))/\
     (∀x∈A.iC,∀r w,(o::E)[r]?=J w->p (i+r)=2->gD B (i+r) x.1=ak->fH P (bk (j (i+r))) w x.2 (L (i+r)))/\
     (∀x∈A.news,∀e,e<(o::E).length->p (i+e)=4->gD B (i+e) x.1=ak->(f (i+e+1)).blk x.2=(f (i+e)).blk x.2):=by
   intro v K k z kv y axE axC Y anW JV aym axD T ayd;obtain⟨j,f,L,p,M,h1,ai,aT,br,cK,fJ,jH⟩:=afj E (i+1) z _ _ _ _ y;refine⟨λn=>if n=i then t else j n,λn=>if n=i then m else f n,λn=>if n=i then v else L n,λn=>if n=i then k else p n,⟨?_,?_,?_,?_,?_⟩,by simp,by simp,?_,?_,?_,?_,?_⟩
   ·intro n w bB;cases n with
    |zero=>
     grind
    |succ n=>
     have g:i+(n+1)=i+1+n:=by omega
     have:=M.frame n w (by grind);rw[g];simp only[show¬(i+1+n+1=i) by omega,show¬(i+1+n=i) by omega,if_false,this]
   ·intro n w bB;cases n with
    |zero=>
     grind
    |succ n=>
     have g:i+(n+1)=i+1+n:=by omega
     have:=M.run n w (by grind);rw[g];simp only[show¬(i+1+n+1=i) by omega,show¬(i+1+n=i) by omega,if_false]
     grind
   ·intro r e w S d Q b Z a;cases e with
    |zero=>omega
    |succ e=>
     have g:i+(e+1)=i+1+e:=by omega
     rw[g] at b a⊢;simp only[show¬(i+1+e=i) by omega,if_false] at b;simp only[show¬(i+1+e+1=i) by omega,if_false];cases r with
     |zero=>simp only[IJ,kB.injEq] at S;subst S;simp only[pS,if_pos] at d a⊢;exact cK _ (Y d) e (by grind) b a
     |succ r=>
      have N:i+(r+1)=i+1+r:=by omega
      rw[N] at d a⊢;simp only[show¬(i+1+r=i) by omega,if_false] at d⊢;exact M.after r e w (by grind) d (by grind) b (by omega) a
   ·intro x e V d Q b u1 a;cases e with
    |zero=>omega
    |succ e=>
     have g:i+(e+1)=i+1+e:=by omega
     rw[g] at b a⊢;simp only[show¬(i+1+e=i) by omega,if_false] at b;simp only[show¬(i+1+e+1=i) by omega,show¬(i+1+e=i) by omega,if_false];cases x with
     |zero=>simp only[pS,if_pos] at d a⊢;exact jH _ (T d) e (by grind) b a
     |succ x=>
      have N:i+(x+1)=i+1+x:=by omega
      rw[N] at d a⊢;simp only[show¬(i+1+x=i) by omega,if_false] at d⊢;exact M.news x e (by grind) d (by grind) b (by omega) a
   ·intro r e w S d Q b Z a;cases r with
    |zero=>omega
    |succ r=>
     have N:i+(r+1)=i+1+r:=by omega
     rw[N] at d a⊢;simp only[show¬(i+1+r=i) by omega,if_false] at d⊢;cases e with
     |zero=>
      grind
     |succ e=>
      have g:i+(e+1)=i+1+e:=by omega
      rw[g] at b a⊢;simp only[show¬(i+1+e=i) by omega,if_false] at b⊢;exact M.ahead r e w (by grind) d (by grind) b (by omega) a
   ·grind
   ·grind
   ·intro x V e Q b a;cases e with
    |zero=>
     grind
    |succ e=>
     grind
   ·grind
   ·intro x V e Q b a;cases e with
    |zero=>
     grind
    |succ e=>
     have g:i+(e+1)=i+1+e:=by omega
     rw[g] at b a⊢;simp only[show¬(i+1+e=i) by omega,if_false] at b;simp only[show¬(i+1+e+1=i) by omega,show¬(i+1+e=i) by omega,if_false]
     grind
  simp only[hW] at h;split at h
  ·rename_i O;rcases h with⟨v,F,y⟩|⟨v,F,R,y⟩|⟨X,v,F,y⟩|⟨v,K,F,R,U,y⟩
   ·exact q v m 1 A (.inr (.inl ⟨rfl,O,F,rfl⟩)) y (λ_ h=>h) (λ_ h=>h) (by simp) (by simp) (by simp) (by simp) (λ_ h=>h) (by simp) (by simp)
   ·exact q v m 2 _ (.inr (.inr (.inl ⟨rfl,O,F,rfl⟩))) y (λ_ h=>by grind) (λ_ h=>h) (λ_=>by simp) (by simp) (λ_=>R) (by simp) (λ_ h=>h) (by simp) (by simp)
   ·exact q v _ 3 _ (.inr (.inr (.inr (.inl ⟨rfl,O,X,F,rfl⟩)))) y (λ_ h=>h) (λ_ h=>h) (by simp) (by simp) (by simp) (by simp) (λ_ h=>by grind) (λ_=>by simp) (by simp)
   ·exact q v K 4 _ (.inr (.inr (.inr (.inr ⟨rfl,O,F⟩)))) y (λ_ h=>h) (λ_ h=>by grind) (by simp) (λ_=>by simp) (by simp) (λ_=>R) (λ_ h=>h) (by simp) (λ_=>U)
  ·rename_i O;exact q undef m 0 A (.inl ⟨rfl,by grind,rfl,rfl⟩) h (λ_ h=>h) (λ_ h=>h) (by simp) (by simp) (by simp) (by simp) (λ_ h=>h) (by simp) (by simp)
end
section
def xf(P:bI)(C:FuncId->Array af->Mem->af->Mem->Prop):Prop:=∀f args m v m',C f args m v m'->∀(j:cj)(w:World)(kq:Array af),WF m->Rel P j m w->bP (de j) args.toList kq.toList->
 (∃ fn, P.funcs[f]?= J fn ∧ (fn.name == "runtime.NumGoroutine") = ak ∧ fn.body.isNone = ak) ∧
 Calls P f kq w λe w'=>∃bz c6,e=.returned bz/\Post P j m w c6 m' w'/\de c6 v bz
def Lf{j:cj}{n:Nat}(m:∀b e,j b=J e->b<n){v d:af}:(eA j v d->h7 n v)/\(fC j v d->iv n v)/\(de j v d->low n v):=by
 have g:∀{R:af->af->Prop}{p:af->Prop},(∀a b,R a b->p a)->∀{l k:List af},bP R l k->∀v∈l,p v:=by
  intro R p q l;induction l with
  |nil=>intro k _ v f;simp at f
  |cons a l w=>
   intro k h v f;cases k with
   |nil=>exact h.elim
   |cons b k=>
    rcases ha.1 f with rfl|f
    ·exact q _ _ h.1
    ·exact w h.2 v f
 have y:∀v d:af,kY j v d->r4 n v:=by
  intro v d h;unfold kY at h;split at h
  ·obtain⟨e,_,h,_⟩:=h;exact m _ _ h
  ·exact h.elim
 have s:∀{v d:af},eA j v d->h7 n v:=by
  intro v d h;cases v with
  |pointer a=>cases a with
   |none=>exact fs
   |some a=>obtain⟨e,_,h,_⟩:=h;exact m _ _ h
  |slice a l c=>cases a with
   |none=>exact fs
   |some a=>obtain⟨e,_,h,_⟩:=h;exact m _ _ h
  |map r=>cases r with
   |none=>exact fs
   |some r=>obtain⟨e,h,_⟩:=h;exact m _ _ h
  |chan r=>cases r<;>exact h
  |func _ _ _=>obtain⟨x,t,_,h⟩:=h;exact⟨x,g (R:=kY j) (p:=r4 n) y h⟩
  |iface _ _=>exact h
  |agg _=>exact h
  |tuple _=>exact h
  |_=>exact fs
 have i:∀{v d:af},fC j v d->iv n v:=by
  intro v d h;cases v with
  |agg z=>obtain⟨t,_,h⟩:=h;exact g (R:=eA j) (p:=h7 n) (λa b=>s) h
  |_=>simp only[fC] at h;simp only[iv];exact s h
 refine⟨s,i,?_⟩;intro h;cases v with
 |tuple z=>obtain⟨t,_,h⟩:=h;exact g (R:=fC j) (p:=iv n) (λa b=>i) h
 |chan _=>trivial
 |func fn a b=>obtain⟨B,t,_,h,A⟩:=h;exact⟨g (R:=fC j) (p:=iv n) (λa b=>i) h,g (R:=fC j) (p:=iv n) (λa b=>i) A⟩
 |_=>simp only[de] at h;simp only[low];exact i h
def cj.below(j:cj)(n:Nat):cj:=λb=>if b<n then j b else ae
def q3{j:cj}{n b:Nat}{e:kl}(h:j.below n b=J e):b<n/\j b=J e:=by
 grind[cj.below]
def KI{j:cj}{n b:Nat}{e:kl}(h:b<n)(a:j b=J e):j.below n b=J e:=by grind[cj.below]
def zj{j:cj}{n:Nat}{v d:af}:(eA j v d->h7 n v->eA (j.below n) v d)/\(fC j v d->iv n v->fC (j.below n) v d)/\(de j v d->low n v->de (j.below n) v d):=by
 have t:∀{R S:af->af->Prop}{p:af->Prop},(∀a b,R a b->p a->S a b)->∀{l k:List af},bP R l k->(∀v∈l,p v)->bP S l k:=by
  intro R S p w l;induction l with
  |nil=>intro k h _;cases k with|nil=>exact fs|cons _ _=>exact h.elim
  |cons a l z=>
   intro k h y;cases k with
   |nil=>exact h.elim
   |cons b k=>exact⟨w _ _ h.1 (y a (by simp)),z h.2 λv A=>y v (by simp[A])⟩
 have B:∀v d:af,kY j v d->r4 n v->kY (j.below n) v d:=by
  intro v d h f;unfold kY at h⊢;split at h
  ·obtain⟨e,g,m,i⟩:=h;exact⟨e,g,KI f m,i⟩
  ·exact h.elim
 have x:∀{v d:af},eA j v d->h7 n v->eA (j.below n) v d:=by
  intro v d h f;cases v with
  |func _ _ _=>obtain⟨q,s,F,h⟩:=h;exact⟨q,s,F,t (R:=kY j) (S:=kY (j.below n)) (p:=r4 n) B h f.2⟩
  |pointer a=>cases a with
   |none=>exact h
   |some a=>obtain⟨e,g,m,i⟩:=h;exact⟨e,g,KI f m,i⟩
  |slice a l c=>cases a with
   |none=>exact h
   |some a=>obtain⟨e,g,m,i⟩:=h;exact⟨e,g,KI f m,i⟩
  |map r=>cases r with
   |none=>exact h
   |some r=>obtain⟨e,m,i⟩:=h;exact⟨e,KI f m,i⟩
  |_=>exact h
 have g:∀{v d:af},fC j v d->iv n v->fC (j.below n) v d:=by
  intro v d h f;cases v with
  |agg C=>obtain⟨s,q,h⟩:=h;exact⟨s,q,t (R:=eA j) (S:=eA (j.below n)) (p:=h7 n) (λa b=>x) h f⟩
  |_=>simp only[fC] at h⊢;simp only[iv] at f;exact x h f
 refine⟨x,g,?_⟩;intro h f;cases v with
 |tuple C=>obtain⟨s,q,h⟩:=h;exact⟨s,q,t (R:=fC j) (S:=fC (j.below n)) (p:=iv n) (λa b=>g) h f⟩
 |chan r=>cases r<;>exact h
 |func fn a b=>obtain⟨H,s,q,h,E⟩:=h;exact⟨H,s,q,t (R:=fC j) (S:=fC (j.below n)) (p:=iv n) (λa b=>g) h f.1,t (R:=fC j) (S:=fC (j.below n)) (p:=iv n) (λa b=>g) E f.2⟩
 |_=>simp only[de] at h⊢;simp only[low] at f;exact g h f
def bP.mapA{a b d:Type}{R:b->d->Prop}(f:a->b)(g:a->d)(A:Array a)(h:∀x∈A.toList,R (f x) (g x)):bP R (A.map f).toList (A.map g).toList:=by
 grind[ye,bP.map]
theorem ab0{P : bI}{f : FuncId}{fn : Func}{args : Array af}{w : World}(bF : P.funcs[f]?= J fn)(aof : (fn.name == "runtime.NumGoroutine") = ak)(UX : fn.body.isNone = ak): (callFunc f args).run P w =.ok (.enter f args) w := by
 grind[callFunc,kD,run_program,jE,nt]
theorem aeu{P:bI}{C:FuncId->Array af->Mem->af->Mem->Prop}{j:cj}{k:bS->af}{o:Oper}{m F:Mem}{w:World}{v:af}{a:Act}(h:hR P C k o m v F)(p:h3 j k a.eval o)(z:Rel P j m w)(S:WF m)(U:xf P C)
  {K:Act->World->Prop} {Q:Exit->Act->World->Prop} (E:∀g e d,Post P j m w d F e->de d v g->K (a.put o.dst g) e):o.wp P a w K Q:=by
 rcases aqQ h p z with⟨n,g,e,d,H,O,s,q⟩|⟨f,r,N,R⟩
 ·unfold sM;rw[H];rcases O with rfl|⟨rfl,rfl⟩
  ·exact E g e d s q
  ·exact E undef e d s q
 ·obtain⟨x,l,ts,first,b,rW,L,rfl⟩:=N;have t:=p x (by grind[dm,lh]);rw[L] at t;obtain⟨B,A,eM,T,I⟩:=t;have X:bP (de j) (first++l.map k++b).toList (B++l.map a.eval++A).toList:=by
   simp only[Yu];refine bP.append (bP.append (T.mono λ_ _=>de.wN) (bP.mapA _ _ _ λy Z=>?_)) (I.mono λ_ _=>de.wN);exact p y (by grind[dm,lh])
  obtain⟨⟨fn,bF,M,Y⟩,i⟩:=U _ _ _ _ _ R j w _ S z X;have V:(execOp a.eval o).run P w=.ok (.enter f (B++l.map a.eval++A)) w:=by
   grind[execOp,resolve,Deferred.ofValue,invoke,ab0]
  unfold sM;rw[V,Oper.upon_enter];refine i.mono ?_
  grind
end
section
def aq1{a:Array Oper}(h:vj a=aa){i:Nat}{o:Oper}(b:a[i]?=J o){e:Edge}(f:e∈o.after)(d:rC .any e=aa):e.on<i:=by
 grind[vj]
def V8{a:Array Oper}(h:vj a=aa){i x:Nat}{o y:Oper}(b:a[i]?=J o)(d:a[x]?=J y)(e:x<i)(f:sR a y o=aa):gD (kp a) i x=aa:=by
 grind[vj]
def Le(b:Array Oper)(S:Nat->Prop):Prop:=∀a o,S a->b[a]?=J o->∀e∈o.after,rC .any e=aa->S e.on
def tI(a:Array Nat)(o:Oper):Array Nat:=a.push (o.after.foldl (λs e=>if rC .any e then s|||2 ^ e.on|||a.getD e.on 0 else s) 0)
def Good(b:Array Oper)(i a:Nat):Prop:=∀x,a.testBit x=aa->∀S,Le b S->(∀o,b[i]?=J o->∀e∈o.after,rC .any e=aa->S e.on)->S x
def acP(a:Array Nat):∀(l:List Edge)(s x:Nat),(l.foldl (λs e=>if rC .any e then s|||2 ^ e.on|||a.getD e.on 0 else s) s).testBit x=aa->
  s.testBit x=aa\/∃e∈l,rC .any e=aa/\(x=e.on\/(a.getD e.on 0).testBit x=aa)
 |[],s,x,h=>.inl h
 |e::l,s,x,h=>by
  simp only[List.foldl_cons] at h;rcases acP a l _ x h with h|⟨g,b,f,d⟩
  ·grind
  grind
def acb{ops:Array Oper}:∀(l b:List Oper)(a:Array Nat),ops.toList=b++l->a.size=b.length->(∀i,i<a.size->Good ops i (a.getD i 0))->
  ∀i,Good ops i ((l.foldl tI a).getD i 0)
 |[],b,a,n,p,q=>by
  intro i;by_cases w:i<a.size
  ·grind
  ·simp only[List.foldl_nil];intro x f
   grind
 |o::l,b,a,n,p,q=>by
  simp only[List.foldl_cons];refine acb l (b++[o]) (tI a o) (by grind) (by grind[tI]) ?_;intro i w;by_cases h:i<a.size
  ·simp_all[tI,Array.getElem_push]
  ·have g:i=a.size:=by grind[tI]
   subst g;have k:ops[a.size]?=J o:=by rw[<-Array.getElem?_toList,n,p];simp
   intro x f S r y;have t:(tI a o).getD a.size 0=o.after.foldl (λs e=>if rC .any e then s|||2 ^ e.on|||a.getD e.on 0 else s) 0:=by simp[tI,Array.getD]
   rw[t,<-Array.foldl_toList] at f;rcases acP a _ 0 x f with H|⟨e,I,C,m⟩
   ·grind
   ·have j:=y o k e (by grind) C;rcases m with rfl|m
    ·grind
    ·by_cases z:e.on<a.size
     ·exact q e.on z x m S r λF E A d B=>r e.on F j E A d B
     grind
def ab2{a:Array Oper}{i x:Nat}(h:gD (kp a) i x=aa){S:Nat->Prop}(f:Le a S)(d:∀o,a[i]?=J o->∀e∈o.after,rC .any e=aa->S e.on):S x:=by
 have b:kp a=a.toList.foldl tI #[]:=by rw[show kp a=a.foldl tI #[] from rfl,<-Array.foldl_toList]
 have:=acb (ops:=a) a.toList [] #[] (by rfl) (by rfl) (by grind) i;rw[<-b] at this;exact this x h S f d
def WX{P:bI}{C:FuncId->Array af->Mem->af->Mem->Prop}{a:List Oper}{B:Array Nat}{l:Nat->Nat->af}{b:Nat->Mem}{m:Nat->af}{z:Nat->Nat}(T:ys P C a B 0 a l b m z)
  (f:pB C) (y:∀o∈a,∀x∈o.op.operands,nI x=aa) (w:WF (b 0)) (q:∀t,low (b 0).next (l 0 t)):∀i,i<=a.length->WF (b i)/\(∀t,low (b i).next (l i t))/\(∀n,n<i->(b n).next<=(b (n+1)).next/\low (b (n+1)).next (m n))
 |0,_=>⟨w,q,λn H=>by omega⟩
 |i+1,F=>by
  obtain⟨j,h,E⟩:=WX T f y w q i (by omega);have p:a[i]?=J a[i]:=by grind
  have r:=T.run i a[i] p;have s:=T.frame i a[i] p;simp only[lH] at r s;have k:=y a[i] (by simp);have g:low (b (i+1)).next (m i)/\WF (b (i+1))/\(b i).next<=(b (i+1)).next:=by
   rcases r with⟨_,_,A,e⟩|⟨_,_,d,e⟩|⟨_,_,d,e⟩|⟨_,_,I,d,e⟩|⟨_,_,d⟩
   ·grind[Kz]
   ·rw[e];exact w8 (.pure d) j h f k
   ·rw[e];exact w8 (.read d) j h f k
   ·rw[e];exact w8 (.new d) j h f k
   ·exact w8 (.fX d) j h f k
  refine⟨g.2.1,?_,?_⟩
  ·rw[s]
   grind[Ca,WO]
  grind
def acu{d:Nat->Mem}{i:Nat->af}{k:Nat}(h:∀n,n<k->(d n).next<=(d (n+1)).next/\low (d (n+1)).next (i n)):∀b a,a<=b->b<=k->(d a).next<=(d b).next
 |0,a,g,f=>by grind
 |b+1,a,g,f=>by
  by_cases e:a=b+1
  ·grind
  ·exact jd (acu h b a (by omega) (by omega)) (h b (by omega)).1
def Wj{P:bI}{C:FuncId->Array af->Mem->af->Mem->Prop}{a:List Oper}{B:Array Nat}{b:Nat->Nat->af}{m:Nat->Mem}{j:Nat->af}{l:Nat->Nat}(T:ys P C a B 0 a b m j l)(t:Nat):
  ∀i,i<=a.length->((∃x o,x<i/\a[x]?=J o/\o.dst=J t/\b i t=j x/\∀y p,x<y->y<i->a[y]?=J p->p.dst≠J t)\/
   ((∀x o,x<i->a[x]?=J o->o.dst≠J t)/\b i t=b 0 t))
 |0,_=>.inr ⟨λx o q=>by omega,rfl⟩
 |i+1,r=>by
  have e:a[i]?=J a[i]:=by grind
  have g:=T.frame i a[i] e;simp only[lH] at g;by_cases k:a[i].dst=J t
  ·left;refine⟨i,a[i],by omega,e,k,?_,λy p h f=>by omega⟩
   grind[set]
  ·have z:b (i+1) t=b i t:=by
    rw[g];cases A:a[i].dst with
    |none=>rfl
    |some d=>
     grind[set]
   rcases Wj T t i (by omega) with⟨x,o,h,f,n,s,w⟩|⟨h,f⟩
   ·grind
   grind
def Ku{P:bI}{C:FuncId->Array af->Mem->af->Mem->Prop}{d:List Oper}{B:Array Nat}{E:Nat->Nat->af}{a:Nat->Mem}{M:Nat->af}{f:Nat->Nat}(T:ys P C d B 0 d E a M f){s:Nat}:
  ∀z,s<=z->z<=d.length->(∀e,s<=e->e<z->f e≠4)->(∀b,b<(a s).next->(a z).blk b=(a s).blk b)/\
   (∀x,s<=x->x<z->f x=3->∀o g,d[x]?=J o->a (x+1)=(a x).push g->(a z).blk (a x).next=g)/\(∀x,s<=x->x<z->(a x).next<=(a z).next/\(f x=3->(a x).next<(a z).next))
 |z,U,S,H=>by
  induction z with
  |zero=>
   have:s=0:=by omega
   subst this;exact⟨λ_ _=>rfl,λx j i=>by omega,λx j i=>by omega⟩
  |succ z r=>
   by_cases F:s=z+1
   ·subst F;exact⟨λ_ _=>rfl,λx j i=>by omega,λx j i=>by omega⟩
   ·obtain⟨j,i,R⟩:=r (by omega) (by omega) (λe N A=>H e N (by omega));have t:d[z]?=J d[z]:=by grind
    have p:=T.run z d[z] t;simp only[lH] at p;have w:(a s).next<=(a z).next:=by
     grind
    have q:a (z+1)=a z->f z≠3->(∀b,b<(a s).next->(a (z+1)).blk b=(a s).blk b)/\(∀x,s<=x->x<z+1->f x=3->∀o g,d[x]?=J o->a (x+1)=(a x).push g->(a (z+1)).blk (a x).next=g)/\(∀x,s<=x->x<z+1->(a x).next<=(a (z+1)).next/\(f x=3->(a x).next<(a (z+1)).next)):=λV h=>⟨λb y=>by grind,
     λx k l K o g L I=>by
      grind,
     λx k l=>by
      grind⟩
    rcases p with⟨h,_,Q,n⟩|⟨h,_,m,n⟩|⟨h,_,m,n⟩|⟨h,_,g,m,n⟩|⟨h,_,m⟩
    ·grind
    ·grind
    ·grind
    ·refine⟨λb y=>?_,λx k l K o O L I=>?_,λx k l=>?_⟩
     ·grind[Mem.push]
     ·grind[Mem.push]
     grind[Mem.push]
    grind
end
section
def Rel.place{P:bI}{j:cj}{M:Mem}{w y:World}{a:Nat}{X:bW}{e:kl}{ob:Obj}(h:Rel P j M w)(K:j a=ae)(E:a<M.next)(N:AF P j w y X e ob):
  Rel P (j.up a e) (M.put a X) y:=by
 have r:=cj.P9 (e:=e) K;have k:∀c,c<w.heap.size->y.heap[c]?=w.heap[c]? :=λc Q=>by rw[N.heap,Array.getElem?_push,if_neg (by omega)]
 have O:y.heap.size=w.heap.size+1:=by rw[N.heap];simp
 have L:y.heap[w.heap.size]?=J ob:=by rw[N.heap];simp
 have d:∀b,b≠a->(M.put a X).blk b=M.blk b:=λb E=>by grind[Mem.put]
 have C:(M.put a X).blk a=X:=by simp[Mem.put]
 have n:∀b x,j.up a e b=J x->b≠a->j b=J x:=λb x E R=>by grind[cj.up]
 have H:∀x,j.up a e a=J x->x=e:=λx m=>by grind[cj.up]
 refine⟨⟨?_,?_,?_⟩,h.mE.val.keep λg z=>k g (h.mE.val.lt z),λb x i p z=>?_⟩
 rotate_right
 ·by_cases f:b=a
  ·subst f;have:=h.mE.val.lt z;rw[H x i,N.blk] at this;omega
  ·rw[d b f] at p;exact h.mE.sep b x (n b x i f) p z
 ·intro b x i;by_cases f:b=a
  ·subst f;have:=H x i;subst this;exact⟨E,by rw[N.blk];omega⟩
  ·have:=h.lt b x (n b x i f);exact⟨this.1,by omega⟩
 ·intro b x i;by_cases f:b=a
  ·subst f;have m:=H x i;subst m;rw[C,N.blk,L];exact N.obj.mono r
  ·have t:=n b x i f;rw[d b f,k _ (h.lt b x t).2];exact(h.obj b x t).mono r
 ·intro b l x s B q p I F;by_cases f:b=a
  ·by_cases A:l=a
   ·grind
   ·have m:x=e:=by grind
    have:=(h.lt l s (n l s q A)).2;rw[<-F,m,N.blk] at this;omega
  ·have t:=n b x B f;by_cases A:l=a
   ·have m:s=e:=by grind
    have:=(h.lt b x t).2;rw[F,m,N.blk] at this;omega
   ·rw[d b f] at p;rw[d l A] at I;exact h.inj b l x s t (n l s q A) p I F
def ap6{P:bI}{j:cj}{n:Nat}{b:bV}{a:List af}{d:af}(h:fC j (ey (ek P b) a) d)(e:∀c∈a,h7 n c):fC (j.below n) (ey (ek P b) a) d:=by
 refine zj.2.1 h ?_;cases f:ek P b with
 |true=>grind[ey,iv]
 |false=>
  cases a with
  |nil=>grind[ey,fC,eA,undef]
  |cons c a=>exact KQ (e c (by simp))
def qI.below{P:bI}{j:cj}{n:Nat}{e:kl}{o:Option Obj}{x:bW}(h:qI P j e o x)(r:qe n x):qI P (j.below n) e o x:=by
 cases x with
 |dead=>trivial
 |ro N=>intro i v l;obtain⟨f,t,bZ,w,g,k,b⟩:=h i v l;exact⟨f,t,bZ,w,g,k,zj.1 b (r i v l)⟩
 |own L t=>obtain⟨f,bZ,g,k,b,a,s,C⟩:=h;refine⟨f,bZ,g,k,b,a,s,λi v l=>?_⟩;obtain⟨w,F,H⟩:=C i v l;exact⟨w,F,zj.1 H (r v (mM l))⟩
 |lock _ _ _ _=>exact h.elim
 |map L u=>
  obtain⟨B,A,f,d,E,g,k,b,a,s⟩:=h;have y:∀p∈E,∀c∈p.2,h7 n c:=λp K c I=>r c (by rw[b.eq];grind);refine⟨B,A,f,d,E,g,k,b,?_,s⟩;clear g b r s;generalize f.toList=m at a;induction E generalizing m with
  |nil=>cases m with
   |nil=>trivial
   |cons _ _=>exact a.elim
  |cons p E z=>
   cases m with
   |nil=>exact a.elim
   |cons x m=>exact⟨⟨a.1.1,a.1.2.1,ap6 a.1.2.2 (y p (by simp))⟩,z (λq M=>y q (by grind)) m a.2⟩
def Rel.below{P:bI}{j:cj}{M m:Mem}{w:World}(h:Rel P j M w)(n:WF m)(g:∀b e,j b=J e->b<m.next->M.blk b=m.blk b):Rel P (j.below m.next) m w:=by
 refine⟨⟨?_,?_,?_⟩,h.mE.val,λb e d i=>by obtain⟨f,a⟩:=q3 d;exact h.mE.sep b e a (by grind)⟩
 ·intro b e d;obtain⟨f,a⟩:=q3 d;exact⟨f,(h.lt b e a).2⟩
 ·intro b e d;obtain⟨f,a⟩:=q3 d;rw[<-g b e a f];exact(h.obj b e a).below (by rw[g b e a f];exact n.low b)
 ·intro b l e k d p i s r;obtain⟨f,a⟩:=q3 d;obtain⟨t,q⟩:=q3 p;exact h.inj b l e k a q (by grind) (by grind) r
def cj.join(a:cj)(n:Nat)(j:cj):cj:=λb=>if b<n then a b else j b
def Mem.join(a:Mem)(M:Mem):Mem:={next:=M.next,blk:=λb=>if b<a.next then a.blk b else M.blk b}
def Rel.join{P:bI}{j l:cj}{M m a:Mem}{w H:World}(h:Rel P j M w)(I:∀b e,j b=J e->b<m.next->M.blk b=m.blk b)(p:Post P (j.below m.next) m w l a H)
  (bs:∀b e,j b=J e->b<m.next\/a.next<=b) (JL:a.next<=M.next):
  Rel P (l.join a.next j) (a.join M) H/\(∀b e,j b=J e->l.join a.next j b=J e)/\(∀b e,l b=J e->l.join a.next j b=J e):=by
 have bB:=p.next;have O:∀b e,l b=J e->l.join a.next j b=J e:=λb e f=>by
  have:=(p.rel.lt b e f).1
  grind[cj.join]
 have U:∀b,b<m.next->l b=j b:=λb f=>by rw[p.ext b f];grind[cj.below]
 have N:∀b e,j b=J e->l.join a.next j b=J e:=λb e f=>by
  grind[cj.join]
 have split:∀b e,l.join a.next j b=J e->(b<a.next/\l b=J e)\/(a.next<=b/\j b=J e):=λb e f=>by
  grind[cj.join]
 have t:∀b,b<a.next->(a.join M).blk b=a.blk b:=λb f=>by grind[Mem.join]
 have x:∀b,a.next<=b->(a.join M).blk b=M.blk b:=λb f=>by grind[Mem.join]
 have B:∀b e,j b=J e->a.next<=b->(M.blk b).live=aa->H.heap[e.blk]?=w.heap[e.blk]? :=λb e f K n=>by refine p.gd.block e.blk (h.lt b e f).2 λE C F k Y=>?_;obtain⟨i,d⟩:=q3 F;have:=h.inj E b C e d f (by grind) n Y;omega
 refine⟨⟨⟨?_,?_,?_⟩,p.rel.mE.val,λb e f k=>?_⟩,N,O⟩
 rotate_right
 ·rcases split b e f with⟨i,d⟩|⟨i,d⟩
  ·rw[t b i] at k;exact p.rel.mE.sep b e d k
  ·rw[x b i] at k;exact h.mE.sep b e d k
 ·intro b e f;rcases split b e f with⟨i,d⟩|⟨i,d⟩
  ·exact⟨by grind[Mem.join],(p.rel.lt b e d).2⟩
  ·have:=h.lt b e d;exact⟨this.1,hS this.2 p.gd.size⟩
 ·intro b e f;rcases split b e f with⟨i,d⟩|⟨i,d⟩
  ·rw[t b i];exact(p.rel.obj b e d).mono O
  ·rw[x b i];cases n:(M.blk b).live with
   |false=>
    cases f:M.blk b<;>simp[f,bW.live] at n
    trivial
   |true=>rw[B b e d i n];exact(h.obj b e d).mono N
 ·
  have T:∀b g e q,b<a.next->l b=J e->a.next<=g->j g=J q->(M.blk g).live=aa->(((a.blk b).iO=aa)\/((M.blk g).iO=aa/\(a.blk b).live=aa))->e.blk≠q.blk:=by
   intro b g e q i d A r L Q s;rcases mq b m.next with y|K
   ·have z:j b=J e:=by grind
    have S:b=g:=by
     rcases Q with k|⟨Z,n⟩
     ·exact h.inj b g e q z r (by rw[I b e z y];exact p.ew b y k) L s
     ·exact(h.inj g b q e r z Z (by rw[I b e z y];exact p.alive b y n) s.symm).symm
    omega
   ·rcases p.fresh b e d K with bF|⟨E,C,F,wu,R⟩
    ·have:=(h.lt g q r).2;omega
    ·obtain⟨g1,X⟩:=q3 F;have:=h.inj E g C q X r (by grind) L (by grind);omega
  intro b g e q f V k n s;rcases split b e f with⟨i,d⟩|⟨i,d⟩<;>rcases split g q V with⟨A,r⟩|⟨A,r⟩
  ·rw[t b i] at k;rw[t g A] at n;exact p.rel.inj b g e q d r k n s
  ·grind
  ·grind[bW.iO,bW.live]
  ·rw[x b i] at k;rw[x g A] at n;exact h.inj b g e q d r k n s
end
end Go.aF