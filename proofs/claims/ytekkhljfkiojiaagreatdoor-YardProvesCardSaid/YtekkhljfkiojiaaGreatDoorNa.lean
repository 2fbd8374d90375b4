import Derived.Calls
import Derived.Orders
import Derived.Tactics
import Derived.Below
import Derived.Defers
import Derived.WalkKit
import Derived.WalkSpells
import Derived.Scope
set_option linter.defProp false
set_option linter.unusedSimpArgs false
set_option linter.unusedVariables false
open Array renaming ext'->Ii,getD->Tp,getD_eq_getD_getElem?->Yr,getElem?_append_left->Ys,getElem?_eq_some_iff->Ij,isEmpty_iff->Yt,mapM_eq_mapM_toList->afM,range->tW,replicate->nj,size_setIfInBounds->afN,toList_append->Yu,toList_extract->Yv,toList_map->ye
open BitVec renaming ofInt->qC
open Bool renaming and_eq_true->fx,false_eq_true->Yx,false->ak,true->aa
open Function renaming comp->YD
open Go renaming IntKind->aG,Operand->bS,Program->bI,TypeId->bV,Value->af
open Go.Act renaming put->qB
open Go.Builtin renaming append_->tZ,firstCells->qD,lenOf->Tq,zeroCells->yf
open Go.Call renaming operands->lh
open Go.Conv renaming bytesToString->YB
open Go.Instr renaming indexAt->YO,lookup->Av,mapUpdate->YP,slice->vL,sliceAt->vM,sliceBound->mL,sliceBounds->jc,sureAddr->yj
open Go.IntKind renaming i64->Aw,wrap->aO,wrap_i64->vN
open Go.Op renaming operands->dm,stringOp->vS
open Go.Oper renaming wp->sM
open Go.Program renaming cellsOf->nY
open Go.Question renaming forced->TK
open Go.Region renaming before->kp,binds->rC,ready->AL,wanted->qK
open Go.Result renaming andThen->Zg,andThen_ok->jE
open Go.Sem renaming run_bind->kD,run_pure->nt
open Go.Value renaming int->mu
open Go.World renaming block_lt_of_cell?->I8,cell?->rG
open List renaming all_cons->ml,all_eq_true->iA,eq_nil_of_length_eq_zero->yl,ext_getElem?->rv,getElem?_cons_succ->qH,getElem?_cons_zero->IJ,getElem?_eq_some_iff->fq,getElem?_map->sH,getElem?_toArray->IK,map_cons->rA,map_nil->TA,map_toArray->YX,mem_append->kU,mem_cons->ha,mem_map->l2,mem_of_getElem?->mM,mem_range->aAc,mem_singleton->IM,range->mN,replicate->gb
open Nat renaming add_assoc->sK,add_mul->ko,add_mul_div_right->TH,add_zero->pS,le_of_lt->lG,le_refl->e4,le_succ->mo,le_trans->jd,lt_of_le_of_lt->TI,lt_of_lt_of_le->hS,lt_or_ge->mq,lt_succ_self->pT,lt_trichotomy->TJ,min->rB,mul_le_mul_right->oH,not_lt->vP,strongRecOn->Y0,zero_add->lH,zero_le->pn
open Option renaming isSome_iff_exists->agh,map_none->IW,map_some->vU,some->kB,none->ae,some->J
open True renaming intro->fs
section
namespace Go.aF
def dc:Nat:=9223372036854775808
structure kl where
 blk:Nat
 cap:Nat
 es:Nat
 db:Nat
def cj:Type:=Nat->Option kl
inductive bW where
 |dead
 |ro (rd:Nat->Option af)
 |own (cells:List af) (elem:bV)
 |map (cells:List af) (type:bV)
 |lock (nest at_:Nat) (cells:List af) (elem:bV)
def bW.iO:bW->Bool| .own _ _| .map _ _=>aa|_=>ak
def bW.live:bW->Bool| .dead=>ak|_=>aa
structure Mem where
 next:Nat
 blk:Nat->bW
def Mem.load (m:Mem) (b o:Nat):Option af:=match m.blk b with| .ro rd=>rd o| .own L _=>L[o]?| .map _ _=>ae| .lock _ _ _ _=>ae| .dead=>ae
def Mem.put (m:Mem) (b:Nat) (x:bW):Mem:={m with blk:=λi=>if i=b then x else m.blk i}
def Mem.push (m:Mem) (x:bW):Mem:={next:=m.next+1,blk:=λi=>if i=m.next then x else m.blk i}
def Mem.nf (m:Mem) (n:Nat):Mem:={next:=n,blk:=λi=>if i<n then m.blk i else .dead}
def bP {c d:Type} (R:c->d->Prop):List c->List d->Prop|[],[]=>True|a::l,b::k=>R a b/\bP R l k|_,_=>False
def kY (j:cj):af->af->Prop| .pointer (J a),b=>∃e,a.spot=ae/\j a.block=J e/\b= .pointer (J ⟨e.blk,e.db+a.off,ae⟩)|_,_=>False
def eA (j:cj):af->af->Prop
 | .pointer (J a),b=>∃e,a.spot=ae/\j a.block=J e/\b= .pointer (J ⟨e.blk,e.db+a.off,ae⟩)
 | .slice (J a) l c,b=>∃e,a.spot=ae/\j a.block=J e/\
   ((c<dc/\b= .slice (J ⟨e.blk,e.db+a.off,ae⟩) l c)\/
    (c=dc/\0<e.es/\l<=e.cap - a.off / e.es/\e.cap<dc/\a.off%e.es=0/\a.off / e.es<=e.cap/\b= .slice (J ⟨e.blk,e.db+a.off,ae⟩) l (e.cap - a.off / e.es))\/
    (c=dc/\l=0/\∃i,b= .slice (J ⟨e.blk,i,ae⟩) 0 0)\/
    (c=0/\l=0/\∃f,b= .slice (J f) 0 0)\/
    (∃k,c=dc+k/\0<k/\l<=k/\0<e.es/\k<=e.cap - a.off / e.es/\e.cap<dc/\a.off%e.es=0/\a.off / e.es<=e.cap/\b= .slice (J ⟨e.blk,e.db+a.off,ae⟩) l (e.cap - a.off / e.es)))
 | .map (J r),b=>∃e,j r=J e/\b= .map (J e.blk)
 | .func fn g h,b=>g=#[]/\∃d:Array af,b= .func fn #[] d/\bP (kY j) h.toList d.toList
 | .chan _,_| .iface ..,_| .agg _,_| .tuple _,_=>False
 |v,b=>b=v
def fC (j:cj):af->af->Prop| .agg c,a=>∃b:Array af,a= .agg b/\bP (eA j) c.toList b.toList|v,a=>eA j v a
def de (j:cj):af->af->Prop| .chan ae,a=>∀b,a≠ .bool b| .chan (J k),a=>a= .pointer (J ⟨k / 4096,k%4096,ae⟩)| .tuple d,a=>∃c:Array af,a= .tuple c/\bP (fC j) d.toList c.toList| .func fn f d,a=>∃e c:Array af,a= .func fn e c/\bP (fC j) f.toList e.toList/\bP (fC j) d.toList c.toList|v,a=>fC j v a
def dy:af->Bool| .bool _| .int _ _| .float _ _| .complex _ _ _| .string _| .pointer ae| .slice ae _ _| .map ae| .nilFunc| .nilIface=>aa| .func _ a b=>a.isEmpty&&b.isEmpty|_=>ak
def lI:TypeDesc->Bool| .struct _| .array _ _=>aa|_=>ak
def ek (P:bI) (t:bV):Bool:=match P.underlying t with|some d=>lI d|none=>ak
def ey:Bool->List af->af|true,a=> .agg a.toArray|false,a=>a.headD undef
structure qG (ks vs:Nat) (L:List af) (E:List (List af×List af)):Prop where
 eq:L=E.flatMap λp=>p.1++p.2
 len:∀p∈E,p.1.length=ks/\p.2.length=vs
def ub (P:bI) (j:cj) (b a:bV) (p:List af×List af) (x:MapEntry):Prop:=x.key=ey (ek P b) p.1/\p.1.all dy=aa/\fC j (ey (ek P a) p.2) x.val
def zy (b:Array MapEntry) (a:Nat):Prop:=(b.toList.map (·.born)).Nodup/\∀x∈b.toList,x.born<a
def qI (P:bI) (j:cj) (e:kl) (o:Option Obj):bW->Prop
 | .dead=>True
 | .ro rd=>∀i v,rd i=J v->∃(b:Array af) (t:bV) (bZ:Nat×Nat) (c:af),o=J (.cells b t bZ)/\b[e.db+i]? =J c/\eA j v c
 | .own L t=>∃(b:Array af) (bZ:Nat×Nat),o=J (.cells b t bZ)/\(∀i:Nat,i<b.size->¬(bZ.1<=i/\i<bZ.2))/\
  P.cellsOf t=e.es/\e.db+e.cap*e.es<=b.size/\L.length<=e.cap*e.es/\∀(i:Nat) (v:af),L[i]? =J v->∃c,b[e.db+i]? =J c/\eA j v c
 | .map L u=>∃(f d:bV) (b:Array MapEntry) (a:Nat) (E:List (List af×List af)),o=J (.map b a)/\P.underlying u=J (.map f d)/\
  qG (P.cellsOf f) (P.cellsOf d) L E/\bP (ub P j f d) E b.toList/\zy b a
 | .lock _ _ _ _=>False
def X7 (P : bI) (g : Nat) : Prop := P.globalNamed "internal/bytealg.MaxLen" = J g ∨ P.globalNamed "internal/strconv.uint64pow10" = J g ∨ P.globalNamed "humpyard/yardgen.dests" = J g
def p2:List (List UInt8):=[[97],[98],[99],[100],[101],[102,97,114]]
structure rE (P:bI) (w:World):Prop where
 len : ∀ g, P.globalNamed "internal/bytealg.MaxLen" = J g → ∃ m, w.cell? ⟨g, 0, ae⟩ = J (.int .i64 m)
 pow : ∀ g, P.globalNamed "internal/strconv.uint64pow10" = J g → w.var? P "internal/strconv.uint64pow10" = J ((mN 20).map fun i => mu .u64 ((10 ^ i : Nat) : Int)).toArray
 P8 : ∀ g, P.globalNamed "humpyard/yardgen.dests" = J g → ∀ n s, p2[n]? = J s → w.cell? ⟨g, n, ae⟩ = J (.string ⟨s.toArray⟩)
structure I6 (P:bI) (j:cj) (m:Mem) (w:World):Prop where
 val:rE P w
 sep:∀b e,j b=J e->(m.blk b).iO=aa->¬X7 P e.blk
structure Zf (P:bI) (j:cj) (m:Mem) (w:World):Prop where
 lt:∀b e,j b=J e->b<m.next/\e.blk<w.heap.size
 obj:∀b e,j b=J e->qI P j e w.heap[e.blk]? (m.blk b)
 inj:∀b dJ e cz,j b=J e->j dJ=J cz->(m.blk b).iO=aa->(m.blk dJ).live=aa->e.blk=cz.blk->b=dJ
structure Rel (P:bI) (j:cj) (m:Mem) (w:World):Prop extends Zf P j m w where
 mE:I6 P j m w
structure sC (j:cj) (m:Mem) (w w':World):Prop where
 os:w'.os=w.os
 tape:w'.tape=w.tape
 output:w'.output=w.output
 size:w.heap.size<=w'.heap.size
 block:∀c,c<w.heap.size->(∀b e,j b=J e->(m.blk b).iO=aa->e.blk≠c)->w'.heap[c]? =w.heap[c]?
structure Post (P:bI) (j:cj) (m:Mem) (w:World) (c6:cj) (m':Mem) (w':World):Prop where
 rel:Rel P c6 m' w'
 gd:sC j m w w'
 next:m.next<=m'.next
 ext:∀b,b<m.next->c6 b=j b
 fresh:∀b e,c6 b=J e->m.next<=b->w.heap.size<=e.blk\/∃fz eV,j fz=J eV/\(m.blk fz).iO=aa/\eV.blk=e.blk
 ew:∀b,b<m.next->(m'.blk b).iO=aa->(m.blk b).iO=aa
 alive:∀b,b<m.next->(m'.blk b).live=aa->(m.blk b).live=aa
def rE.lt {P:bI} {w:World} (h:rE P w) {g:Nat} (a:X7 P g):g<w.heap.size:=by
 rcases a with a|a|a
 ·obtain ⟨m,b⟩:=h.len g a;exact I8 w ⟨g,0,ae⟩ b
 rotate_left
 ·exact I8 w ⟨g,0,ae⟩ (h.P8 g a 0 _ rfl)
 ·have:=h.pow g a
  grind [World.var?]
def rE.keep {P:bI} {w c:World} (h:rE P w) (b:∀g,X7 P g->c.heap[g]? =w.heap[g]?):rE P c:=
 ⟨λg a=>by obtain ⟨m,e⟩:=h.len g a;exact ⟨m,by rw[<-e];simp only[rG,b g (.inl a)]⟩,
  λg a=>by rw[<-h.pow g a];simp only[World.var?,a,Option.bind_some,b g (.inr (.inl a))],
  λg a n s d=>by rw[<-h.P8 g a n s d];simp only[rG,b g (.inr (.inr a))]⟩
def I6.step {P:bI} {j i:cj} {m m':Mem} {w o:World} (t:I6 P j m w) (u:sC j m w o) (x:∀b,b<m.next->i b=j b)
  (s:∀b e,i b=J e->m.next<=b->w.heap.size<=e.blk\/∃f d,j f=J d/\(m.blk f).iO=aa/\d.blk=e.blk) (p:∀b,b<m.next->(m'.blk b).iO=aa->(m.blk b).iO=aa):I6 P i m' o:=
 ⟨t.val.keep λg a=>u.block g (t.val.lt a) λb e c k h=>t.sep b e c k (h▸a),λb e c k a=>by
  rcases mq b m.next with n|v
  ·exact t.sep b e ((x b n).symm.trans c) (p b n k) a
  ·rcases s b e c v with l|⟨f,d,l,r,q⟩
   ·exact absurd (t.val.lt a) (vP.2 l)
   ·exact t.sep f d l r (q▸a)⟩
def Post.of {P:bI} {j f:cj} {m d:Mem} {w h:World} (r:Rel P j m w) (g:Zf P f d h) (n:sC j m w h) (next:m.next<=d.next) (ext:∀b,b<m.next->f b=j b)
  (a:∀b e,f b=J e->m.next<=b->w.heap.size<=e.blk\/∃l i,j l=J i/\(m.blk l).iO=aa/\i.blk=e.blk) (k:∀b,b<m.next->(d.blk b).iO=aa->(m.blk b).iO=aa) (c:∀b,b<m.next->(d.blk b).live=aa->(m.blk b).live=aa):Post P j m w f d h:=
 ⟨⟨g,r.mE.step n ext a k⟩,n,next,ext,a,k,c⟩
def bP.mono {c d:Type} {R S:c->d->Prop} (h:∀a b,R a b->S a b):∀{l:List c} {k:List d},bP R l k->bP S l k
 |[],[],_=>fs
 |_::_,_::_,⟨f,e⟩=>⟨h _ _ f,bP.mono h e⟩
 |[],_::_,h=>h.elim
 |_::_,[],h=>h.elim
def bP.length {a b:Type} {R:a->b->Prop}:∀{l:List a} {k:List b},bP R l k->l.length=k.length
 |[],[],_=>rfl
 |_::l,_::k,⟨_,c⟩=>by simp[bP.length c]
 |[],_::_,h=>h.elim
 |_::_,[],h=>h.elim
def bP.get {c e:Type} {R:c->e->Prop}:∀{l:List c} {k:List e} (_:bP R l k) (i:Nat) (a:c),l[i]? =J a->∃b,k[i]? =J b/\R a b
 |[],[],_,i,a,h=>by grind
 |x::l,y::k,⟨f,d⟩,0,a,h=>by grind
 |x::l,y::k,⟨f,d⟩,i+1,a,h=>by simpa using bP.get d i a (by grind)
 |[],_::_,h,_,_,_=>h.elim
 |_::_,[],h,_,_,_=>h.elim
def bP.Kj {c e:Type} {R:c->e->Prop}:∀{l:List c} {k:List e},l.length=k.length->(∀(i:Nat) a b,l[i]? =J a->k[i]? =J b->R a b)->bP R l k
 |[],[],_,_=>fs
 |x::l,y::k,d,h=>⟨h 0 x y (by rfl) (by rfl),bP.Kj (by grind) λi a b g f=>h (i+1) a b (by grind) (by grind)⟩
 |[],_::_,d,_=>by grind
 |_::_,[],d,_=>by grind
def bP.append {a b:Type} {R:a->b->Prop}:∀{l d:List a} {k c:List b},bP R l k->bP R d c->bP R (l++d) (k++c)
 |[],_,[],_,_,h=>h
 |_::_,_,_::_,_,⟨f,e⟩,h=>⟨f,bP.append e h⟩
 |[],_,_::_,_,h,_=>h.elim
 |_::_,_,[],_,h,_=>h.elim
def bP.take {a b:Type} {R:a->b->Prop}:∀(n:Nat) {l:List a} {k:List b},bP R l k->bP R (l.take n) (k.take n)
 |0,_,_,_=>by simp[bP]
 |n+1,[],[],_=>by grind
 |n+1,_::_,_::_,⟨d,c⟩=>by simpa[bP] using ⟨d,bP.take n c⟩
 |_+1,[],_::_,h=>h.elim
 |_+1,_::_,[],h=>h.elim
def bP.drop {a b:Type} {R:a->b->Prop}:∀(n:Nat) {l:List a} {k:List b},bP R l k->bP R (l.drop n) (k.drop n)
 |0,_,_,h=>by grind
 |n+1,[],[],_=>by grind
 |n+1,_::_,_::_,⟨_,c⟩=>by simpa using bP.drop n c
 |_+1,[],_::_,h=>h.elim
 |_+1,_::_,[],h=>h.elim
def kY.mono {j c:cj} (h:∀b e,j b=J e->c b=J e) {v a:af} (d:kY j v a):kY c v a:=by
 unfold kY at d⊢
 grind
theorem eA.mono {j m:cj} (h:∀b e,j b=J e->m b=J e) {v k:af} (d:eA j v k):eA m v k:=by
 cases v with
 |func fn o p=>obtain ⟨i,n,g,f⟩:=d;exact ⟨i,n,g,f.mono λ_ _=>kY.mono h⟩
 |pointer a=>cases a with
  |none=>exact d
  |some a=>obtain ⟨e,i,g,f⟩:=d;exact ⟨e,i,h _ _ g,f⟩
 |slice a l c=>cases a with
  |none=>exact d
  |some a=>obtain ⟨e,i,g,f⟩:=d;exact ⟨e,i,h _ _ g,f⟩
 |map r=>cases r with
  |none=>exact d
  |some r=>obtain ⟨e,g,f⟩:=d;exact ⟨e,h _ _ g,f⟩
 |_=>exact d
theorem fC.mono {j c:cj} (h:∀b e,j b=J e->c b=J e) {v a:af} (d:fC j v a):fC c v a:=by
 cases v with
 |agg k=>obtain ⟨g,i,f⟩:=d;exact ⟨g,i,f.mono λ_ _=>eA.mono h⟩
 |_=>grind [fC,eA.mono]
def de.mono {j i:cj} (h:∀b e,j b=J e->i b=J e) {v g:af} (a:de j v g):de i v g:=by
 cases v with
 |chan r=>cases r<;>exact a
 |tuple l=>obtain ⟨d,f,c⟩:=a;exact ⟨d,f,c.mono λ_ _=>fC.mono h⟩
 |func fn n l=>obtain ⟨m,d,f,c,k⟩:=a;exact ⟨m,d,f,c.mono λ_ _=>fC.mono h,k.mono λ_ _=>fC.mono h⟩
 |_=>grind [de,fC.mono]
def qI.mono {P:bI} {j w:cj} {e:kl} {o:Option Obj} {x:bW} (h:qI P j e o x) (l:∀b e,j b=J e->w b=J e):qI P w e o x:=by
 cases x with
 |dead=>trivial
 |ro C=>intro i v k;obtain ⟨f,t,bZ,n,g,d,c⟩:=h i v k;exact ⟨f,t,bZ,n,g,d,c.mono l⟩
 |own L t=>obtain ⟨f,bZ,g,d,c,m,q,A⟩:=h;refine ⟨f,bZ,g,d,c,m,q,λi v k=> ?_⟩;obtain ⟨n,r,s⟩:=A i v k;exact ⟨n,r,s.mono l⟩
 |map L u=>obtain ⟨z,y,f,a,E,g,d,c,m,q⟩:=h;exact ⟨z,y,f,a,E,g,d,c,m.mono λp x ⟨r,s,B⟩=>⟨r,s,B.mono l⟩,q⟩
 |lock _ _ _ _=>exact h.elim
def Rel.own {P:bI} {j:cj} {m:Mem} {w:World} (h:Rel P j m w) (b:Nat) (e:kl) (L:List af) (t:bV) (f:j b=J e) (d:m.blk b= .own L t):∃(a:Array af) (bZ:Nat×Nat),w.heap[e.blk]? =J (.cells a t bZ)/\(∀i:Nat,i<a.size->¬(bZ.1<=i/\i<bZ.2))/\
  P.cellsOf t=e.es/\e.db+e.cap*e.es<=a.size/\L.length<=e.cap*e.es/\∀(i:Nat) (v:af),L[i]? =J v->∃c,a[e.db+i]? =J c/\eA j v c:=by
 have:=h.obj b e f;rw[d] at this;exact this
def fC.qh {j:cj} {v a:af} (h:eA j v a):fC j v a:=by
 cases v<;>first|exact h|exact h.elim
def kY.of {j:cj} {v a:af} (h:kY j v a):eA j v a:=by
 unfold kY at h;split at h
 ·exact h
 grind
def de.wN {j:cj} {v a:af} (h:fC j v a):de j v a:=by
 cases v with
 |func fn f g=>obtain ⟨e,d,c,b⟩:=h;subst e;exact ⟨#[],d,c,trivial,b.mono λ_ _ h=>fC.qh (kY.of h)⟩
 |tuple _=>exact h.elim
 |chan _=>exact h.elim
 |_=>exact h
def de.qh {j:cj} {v a:af} (h:eA j v a):de j v a:=de.wN (fC.qh h)
def eA.one {j:cj} {v f:af} (h:eA j v f):f.oneCell'=aa:=by
 cases v with
 |pointer a=>cases a with
  |none=>cases h;rfl
  |some a=>obtain ⟨e,g,d,b⟩:=h;subst b;rfl
 |slice a l c=>cases a with
  |none=>cases h;rfl
  |some a=>obtain ⟨e,g,d,b⟩:=h;rcases b with ⟨_,rfl⟩|⟨_,_,_,_,_,_,rfl⟩|⟨_,_,_,rfl⟩|⟨_,_,_,rfl⟩|⟨_,_,_,_,_,_,_,_,_,rfl⟩<;>rfl
 |map r=>cases r with
  |none=>cases h;rfl
  |some r=>obtain ⟨e,d,b⟩:=h;subst b;rfl
 |chan _=>exact h.elim
 |func _ _ _=>obtain ⟨_,i,d,_⟩:=h;subst d;rfl
 |iface _ _=>exact h.elim
 |agg _=>exact h.elim
 |tuple _=>exact h.elim
 |_=>cases h;rfl
def eA.cells {j:cj} {v a:af} (h:eA j v a):v.cells=#[v]/\a.cells=#[a]:=by
 refine ⟨?_, ?_⟩
 ·cases v<;>first|rfl|exact h.elim
 ·have:=h.one;cases a<;>first|rfl|grind [af.oneCell']
def fC.cells {j:cj} {v b:af} (h:fC j v b):bP (eA j) v.cells.toList b.cells.toList:=by
 cases v with
 |agg d=>obtain ⟨e,rfl,c⟩:=h;exact c
 |_=>simp only[fC] at h;have a:=h;have:=eA.cells a;rw[this.1,this.2];exact ⟨a,fs⟩
def sC.refl (j:cj) (m:Mem) (w:World):sC j m w w:=⟨rfl,rfl,rfl,e4 _,λ_ _ _=>rfl⟩
def Post.refl {P:bI} {j:cj} {m:Mem} {w:World} (h:Rel P j m w):Post P j m w j m w:=
 ⟨h,sC.refl j m w,e4 _,λ_ _=>rfl,λb e a c=>absurd (h.lt b e a).1 (vP.2 c),λ_ _ h=>h,λ_ _ h=>h⟩
def Post.up {P:bI} {j a:cj} {m f:Mem} {w g:World} (h:Post P j m w a f g) (c:Rel P j m w):∀b e,j b=J e->a b=J e:=
 λb e d=>by rw[h.ext b (c.lt b e d).1];grind
def Post.trans {P:bI} {j r x:cj} {m o g:Mem} {w v y:World} (h:Post P j m w r o v) (k:Post P r o v x g y):Post P j m w x g y where
 rel:=k.rel
 gd:=by
  refine ⟨k.gd.os.trans h.gd.os,k.gd.tape.trans h.gd.tape,k.gd.output.trans h.gd.output,jd h.gd.size k.gd.size,λc s t=> ?_⟩;rw[k.gd.block c (hS s h.gd.size) ?_,h.gd.block c s t];intro b e a d A;rcases mq b m.next with f|i
  ·exact t b e (by rw[<-h.ext b f];grind) (h.ew b f d) A
  ·rcases h.fresh b e a i with u|⟨n,l,B,C,p⟩
   ·omega
   grind
 next:=jd h.next k.next
 ext:=λb a=>by rw[k.ext b (hS a h.next),h.ext b a]
 fresh:=by
  intro b e a i;have z:∀b e,r b=J e->(o.blk b).iO=aa->w.heap.size<=e.blk\/∃n l,j n=J l/\(m.blk n).iO=aa/\l.blk=e.blk:=by
   intro b e a d;rcases mq b m.next with f|i
   ·exact .inr ⟨b,e,by rw[<-h.ext b f];grind,h.ew b f d,rfl⟩
   ·exact h.fresh b e a i
  rcases mq b o.next with f|q
  ·exact h.fresh b e (by rw[<-k.ext b f];grind) i
  ·rcases k.fresh b e a q with u|⟨n,l,B,C,p⟩
   ·exact .inl (jd h.gd.size u)
   grind
 ew:=λb a d=>h.ew b a (k.ew b (hS a h.next) d)
 alive:=λb a d=>h.alive b a (k.alive b (hS a h.next) d)
end Go.aF
end
section
namespace Go.aF
def kz:af->Bool| .agg cs=>cs.toList.all dy|v=>dy v
def flat:af->Bool| .tuple cs=>cs.toList.all kz|v=>kz v
def xr:af->Bool| .pointer (J _)=>aa|_=>ak
def storable:af->Bool| .tuple _| .chan _=>ak| .func _ a b=>a.isEmpty&&b.toList.all xr|_=>aa
def set (a:Nat->af) (d:Option Tmp) (v:af):Nat->af:=match d with|some t=>λi=>if i=t then v else a i|none=>a
def bk (a:Nat->af):bS->af| .tmp t=>a t| .const v=>v| .global g=> .chan (J (g*4096))| .func f=> .func (.func f) #[] #[]
def kd (m:Mem) (b:Nat):Nat->Nat->Option (List af)
 |_,0=>J []
 |o,n+1=>match m.load b o,kd m b (o+1) n with
  |some v,J l=>J (v::l)
  |_,_=>ae
def eY:List af->Nat->List af->List af|L,_,[]=>L|L,o,v::a=>eY (L.set o v) (o+1) a
def k5 (b:Nat->Option (Nat×Nat)) (a:List af):List (Nat×af)->Option (List af)|[]=>J a|(i,v)::e=>match b i with|none=>ae|some (d,c)=>if storable v=aa/\v.cells.size=c/\d+c<=a.length then k5 b (eY a d v.cells.toList) e else ae
def pC (P:bI) (a:Array Field):List (Option (Nat×Nat)):=a.toList.map λf=>(P.info? f.type).map λi=>(f.offset,i.size)
def qo (a:bS->af) (b:Option bS) (n:Nat):Prop:=match b with|none=>n=0|some y=>∃k,a y= .int k n
def nJ (a:bS->af) (b:Option bS) (l n:Nat):Prop:=match b with|none=>n=l|some y=>∃k,a y= .int k n
inductive dD (P:bI) (ap:bS->af) (o:Oper):af->Prop where
 |flat (v:af) (bf:∀cs b,o.op≠ .select cs b) (h:∀x∈o.op.operands,flat (ap x)=aa) (aD:flat v=aa) (aV:∀w,(execOp ap o).run P w= .ok (.value v) w):dD P ap o v
 |move (x:bS) (h:o.op= .move x\/o.op= .assign x):dD P ap o (ap x)
 |pick (c a b:bS) (t:Bool) (h:o.op= .pick c a b) (ay:ap c= .bool t):dD P ap o (if t then ap a else ap b)
 |extract (x:bS) (i:Nat) (vs:Array af) (v:af) (h:o.op= .extract x i) (an:ap x= .tuple vs) (aD:vs[i]? =J v):dD P ap o v
 |field (t:bV) (x:bS) (i:Nat) (bY:Array Field) (f:Field) (d:TypeDesc) (cs:Array af) (v:af) (h:o.op= .field t x i) (aJ:P.underlying t=J (.struct bY)) (bF:bY[i]? =J f)
   (bg:P.underlying f.type=J d) (an:ap x= .agg cs) (aD:if lI d=aa then ∃k,P.info? f.type=J k/\f.offset+k.size<=cs.size/\v= .agg (cs.extract f.offset (f.offset+k.size)) else cs[f.offset]? =J v):dD P ap o v
 |build (t:bV) (cQ:Array (Nat×bS)) (bY:Array Field) (i:TypeInfo) (z:af) (cs:List af) (h:o.op= .build t cQ) (aJ:P.underlying t=J (.struct bY)) (az:P.info? t=J i) (bx:i.zero=J z)
   (dw:z.cells.toList.all dy=aa) (bb:∀x∈pC P bY,x.isSome=aa)
   (ay:k5 (λk=>((pC P bY)[k]?).join) z.cells.toList (cQ.toList.map λp=>(p.1,ap p.2))=J cs):dD P ap o (.agg cs.toArray)
 |Jg (t:bV) (cQ:Array (Nat×bS)) (n:Nat) (e:bV) (i k:TypeInfo) (z:af) (cs:List af) (h:o.op= .build t cQ) (aJ:P.underlying t=J (.array n e)) (az:P.info? t=J i) (bx:i.zero=J z)
   (dw:z.cells.toList.all dy=aa) (he:P.info? e=J k)
   (ay:k5 (λj=>J (j*k.size,k.size)) z.cells.toList (cQ.toList.map λp=>(p.1,ap p.2))=J cs):dD P ap o (.agg cs.toArray)
 |J6 (t:bV) (x y:bS) (e:bV) (d:TypeDesc) (i:TypeInfo) (l:Nat) (k:aG) (n:Int) (cs:Array af) (h:o.op= .index t x y) (aJ:P.underlying t=J (.array l e)) (bg:P.underlying e=J d) (bl:lI d=aa) (az:P.info? e=J i)
   (an:ap x= .agg cs) (aZ:ap y= .int k n) (bR:0<=n) (h1:n<l):dD P ap o (.agg (cs.extract (n.toNat*i.size) (n.toNat*i.size+i.size)))
 |J5 (t:bV) (x y:bS) (e:bV) (d:TypeDesc) (i:TypeInfo) (l:Nat) (k:aG) (n:Int) (cs:Array af) (v:af) (h:o.op= .index t x y) (aJ:P.underlying t=J (.array l e)) (bg:P.underlying e=J d) (bl:lI d=ak) (az:P.info? e=J i)
   (an:ap x= .agg cs) (aZ:ap y= .int k n) (bR:0<=n) (h1:n<l) (aD:cs[n.toNat*i.size]? =J v):dD P ap o v
 |nilCheck (x:bS) (a:Addr) (h:o.op= .nilCheck x) (an:ap x= .pointer (J a)):dD P ap o (.pointer (J a))
 |fieldAddr (t:bV) (x:bS) (i:Nat) (bY:Array Field) (f:Field) (k:TypeInfo) (b off:Nat) (h:o.op= .fieldAddr t x i) (aJ:P.underlying t=J (.struct bY)) (bF:bY[i]? =J f)
   (hk:P.info? f.type=J k) (bf:k.size≠0) (an:ap x= .pointer (J ⟨b,off,ae⟩)):dD P ap o (.pointer (J ⟨b,off+f.offset,ae⟩))
 |indexAddr (t:bV) (x y:bS) (e:bV) (i:TypeInfo) (b off l c:Nat) (k:aG) (n:Int) (h:o.op= .indexAddr t x y) (aJ:P.underlying t=J (.slice e)) (az:P.info? e=J i)
   (an:ap x= .slice (J ⟨b,off,ae⟩) l c) (aZ:ap y= .int k n) (bR:0<=n) (h1:n<l):dD P ap o (.pointer (J ⟨b,off+n.toNat*i.size,ae⟩))
 |J4 (t:bV) (x y:bS) (e:bV) (i:TypeInfo) (b off l:Nat) (k:aG) (n:Int) (h:o.op= .indexAddr t x y) (aJ:P.underlying t=J (.array l e)) (az:P.info? e=J i)
   (an:ap x= .pointer (J ⟨b,off,ae⟩)) (aZ:ap y= .int k n) (bR:0<=n) (h1:n<l):dD P ap o (.pointer (J ⟨b,off+n.toNat*i.size,ae⟩))
 |JC (t:bV) (x y:bS) (e:bV) (i:TypeInfo) (l g:Nat) (k:aG) (n:Int) (h:o.op= .indexAddr t x y) (aJ:P.underlying t=J (.array l e)) (az:P.info? e=J i) (bf:i.size=1)
   (an:ap x= .chan (J (g*4096))) (aZ:ap y= .int k n) (bR:0<=n) (h1:n<l) (aR:l<4096):dD P ap o (.chan (J (g*4096+n.toNat)))
 |slice (t:bV) (x:bS) (cf az:Option bS) (e:bV) (i:TypeInfo) (b off l c:Nat) (n dG:Nat) (h:o.op= .slice t x cf az ae) (aJ:P.underlying t=J (.slice e)) (fm:P.info? e=J i)
   (an:ap x= .slice (J ⟨b,off,ae⟩) l c) (aw:c<dc) (eW:qo ap cf n) (eN:nJ ap az l dG) (h1:n<=dG) (ai:dG<=c)
   (aT:az=ae->True):dD P ap o (.slice (J ⟨b,if c=n then off else off+n*i.size,ae⟩) (dG - n) (c - n))
 |slice3 (t:bV) (x h8:bS) (az:Option bS) (e:bV) (i:TypeInfo) (b off l c:Nat) (dG k':Nat) (oV:aG) (h:o.op= .slice t x ae az (J h8)) (aJ:P.underlying t=J (.slice e)) (fm:P.info? e=J i)
   (an:ap x= .slice (J ⟨b,off,ae⟩) l c) (ay:(c<dc/\k'<=c)\/(c=dc/\k'<=l)) (eN:∃y k,az=J y/\ap y= .int k dG) (mV:ap h8= .int oV k') (h1:dG<=k'):dD P ap o (.slice (J ⟨b,off,ae⟩) dG k')
 |P5 (t:bV) (x cf az h8:bS) (e:bV) (i:TypeInfo) (b off l c n dG k':Nat) (Kb J9 oV:aG) (h:o.op= .slice t x (J cf) (J az) (J h8)) (aJ:P.underlying t=J (.slice e)) (fm:P.info? e=J i)
   (an:ap x= .slice (J ⟨b,off,ae⟩) l c) (ay:(c<dc/\k'<=c)\/(c=dc/\k'<=l)) (eW:ap cf= .int Kb n) (eN:ap az= .int J9 dG) (mV:ap h8= .int oV k') (bR:n<=dG) (h1:dG<=k'):dD P ap o (.chan ae)
 |P4 (t:bV) (x h8:bS) (az:Option bS) (e:bV) (i:TypeInfo) (oV:aG) (h:o.op= .slice t x ae az (J h8)) (aJ:P.underlying t=J (.slice e)) (fm:P.info? e=J i)
   (an:ap x= .slice ae 0 0) (eN:∃y k,az=J y/\ap y= .int k 0) (mV:ap h8= .int oV 0):dD P ap o (.slice ae 0 0)
 |nc (t:bV) (x:bS) (cf az:Option bS) (e:bV) (i:TypeInfo) (h:o.op= .slice t x cf az ae) (aJ:P.underlying t=J (.slice e)) (fm:P.info? e=J i)
   (an:ap x= .slice ae 0 0) (eW:qo ap cf 0) (eN:nJ ap az 0 0):dD P ap o (.slice ae 0 0)
 |len (x:bS) (t e:bV) (a:Option Addr) (l c:Nat) (h:o.op= .call {callee:= .builtin .len,args:=#[x],argTypes:=#[t]}) (aJ:P.underlying t=J (.slice e)) (an:ap x= .slice a l c):dD P ap o (.int .i64 l)
 |Jj (x:bS) (t e:bV) (h:o.op= .call {callee:= .builtin .cap,args:=#[x],argTypes:=#[t]}) (aJ:P.underlying t=J (.slice e)) (an:ap x= .slice ae 0 0):dD P ap o (.int .i64 0)
 |A2 (neq:Bool) (x y:bS) (t u e:bV) (a:Addr) (l c:Nat) (h:o.op= .binOp (if neq then .neq else .eql) t x y u) (aJ:P.underlying t=J (.slice e))
   (an:ap x= .slice (J a) l c) (aZ:ap y= .slice ae 0 0):dD P ap o (.bool neq)
 |func (fn:Fn) (first captured:Array bS) (h:o.op= .makeFunc fn first captured) (bF:∀x∈first.toList++captured.toList,storable (ap x)=aa):dD P ap o (.func fn (first.map ap) (captured.map ap))
inductive uh (od aW:Bool) (key z:af):List (List af×List af)->af->Bool->Prop where
 |qZ:uh od aW key z [] z ak
 |rS (p:List af×List af) (E:List (List af×List af)) (h:ey od p.1=key):uh od aW key z (p::E) (ey aW p.2) aa
 |next (p:List af×List af) (E:List (List af×List af)) (v:af) (b:Bool) (h:ey od p.1≠key) (bp:uh od aW key z E v b):uh od aW key z (p::E) v b
inductive uA (od:Bool) (key val:List af):List (List af×List af)->List (List af×List af)->Prop where
 |qZ:uA od key val [] [(key,val)]
 |rS (p:List af×List af) (E:List (List af×List af)) (h:ey od p.1=ey od key):uA od key val (p::E) ((p.1,val)::E)
 |next (p:List af×List af) (E E':List (List af×List af)) (h:ey od p.1≠ey od key) (bp:uA od key val E E'):uA od key val (p::E) (p::E')
open Classical in
noncomputable def o6 (v:af):List MapEntry->Nat->Option (Nat×af)|[],_=>ae|e::a,i=>if e.key=v then J (i,e.val) else o6 v a (i+1)
structure Keyed (P:bI) (bG:bV) (ho:af->Prop):Prop where
 check:∀(em:Bool) (v:af) (w:World),ho v->(Instr.checkKey em 10000 bG v).run P w= .ok () w
 find:∀(v:af) (es:List MapEntry) (w:World),ho v->(∀x∈es,ho x.key)->(Instr.findKey bG v es).run P w= .ok (o6 v es 0) w
 stays:∀(v:af) (w:World),ho v->(Instr.keyThatStays v v).run P w= .ok v w
inductive fH (P:bI) (ap:bS->af) (o:Oper) (m:Mem):af->Prop where
 |load (t:bV) (x:bS) (b off:Nat) (d:TypeDesc) (v:af) (h:o.op= .load t x) (an:ap x= .pointer (J ⟨b,off,ae⟩)) (aJ:P.underlying t=J d) (bg:lI d=ak) (aD:m.load b off=J v):fH P ap o m v
 | wc (t : bV) (x : bS) (g n : Nat) (s : List UInt8) (h : o.op = .load t x) (an : ap x = .chan (J (g * 4096 + n))) (bB : p2[n]? = J s) (aJ : P.underlying t = J .string) (bs : P.globalNamed "humpyard/yardgen.dests" = J g) : fH P ap o m (.string ⟨s.toArray⟩)
 |wI (t:bV) (x:bS) (b off:Nat) (d:TypeDesc) (i:TypeInfo) (cs:List af) (h:o.op= .load t x) (an:ap x= .pointer (J ⟨b,off,ae⟩)) (aJ:P.underlying t=J d) (bg:lI d=aa) (az:P.info? t=J i)
   (aD:kd m b off i.size=J cs):fH P ap o m (.agg cs.toArray)
 |slice (t:bV) (x:bS) (cf az:Option bS) (e:bV) (i:TypeInfo) (L:List af) (b off l:Nat) (n dG:Nat) (h:o.op= .slice t x cf az ae) (aJ:P.underlying t=J (.slice e)) (fm:P.info? e=J i)
   (an:ap x= .slice (J ⟨b,off,ae⟩) l dc) (hm:m.blk b= .own L e) (eW:qo ap cf n) (eN:nJ ap az l dG) (h1:n<=dG) (ai:dG<=l)
   (aT:off+l*i.size<=L.length):fH P ap o m (.slice (J ⟨b,off+n*i.size,ae⟩) (dG - n) dc)
 |vx (t:bV) (x:bS) (cf az:Option bS) (e:bV) (i:TypeInfo) (L:List af) (b off l c k:Nat) (n dG:Nat) (h:o.op= .slice t x cf az ae) (aJ:P.underlying t=J (.slice e)) (fm:P.info? e=J i)
   (an:ap x= .slice (J ⟨b,off,ae⟩) l c) (hk:(c=dc/\k=l)\/c=dc+k) (hm:m.blk b= .own L e) (eW:qo ap cf n) (eN:nJ ap az l dG) (h1:n<=dG) (ai:dG<=k) (aT:n<k):
   fH P ap o m (.slice (J ⟨b,off+n*i.size,ae⟩) (dG - n) (dc+(k - n)))
 |str (s t:bV) (x:bS) (e:bV) (b off l c:Nat) (cs:List UInt8) (h:o.op= .convert s t x) (bf:P.underlying s=J (.slice e)) (he:P.underlying e=J (.int .u8)) (aJ:P.underlying t=J .string)
   (an:ap x= .slice (J ⟨b,off,ae⟩) l c) (aD:kd m b off l=J (cs.map λu=> .int .u8 u.toNat)):fH P ap o m (.string ⟨cs.toArray⟩)
 |zQ (s t:bV) (x:bS) (e:bV) (l c:Nat) (h:o.op= .convert s t x) (bf:P.underlying s=J (.slice e)) (he:P.underlying e=J (.int .u8)) (aJ:P.underlying t=J .string)
   (an:ap x= .slice ae l c):fH P ap o m (.string .empty)
 |lookup (hZ:bV) (x dx:bS) (ok:Bool) (u bG bA:bV) (b:Nat) (L:List af) (E:List (List af×List af)) (i:TypeInfo) (z v0:af) (t:Bool) (ho:af->Prop) (h:o.op= .lookup hZ x dx ok)
   (jk:P.underlying hZ=J (.map bG bA)) (hu:P.underlying u=J (.map bG bA)) (an:(ap x= .map (J b)/\m.blk b= .map L u/\qG (P.cellsOf bG) (P.cellsOf bA) L E)\/(ap x= .map ae/\E=[])) (nC:0<P.cellsOf bG)
   (tf:ek P bA=ak->P.cellsOf bA=1) (K:Keyed P bG ho) (bF:flat (ap dx)=aa) (hk:ho (ap dx)) (bs:∀p∈E,ho (ey (ek P bG) p.1)) (az:P.info? bA=J i) (bx:i.zero=J z) (dw:kz z=aa)
   (aR:uh (ek P bG) (ek P bA) (ap dx) z E v0 t):fH P ap o m (if ok then .tuple #[v0, .bool t] else v0)
inductive jC (P:bI) (ap:bS->af) (o:Oper) (n:Nat):bW->af->Prop where
 |alloc (t:bV) (i:TypeInfo) (z:af) (h:o.op= .alloc t) (az:P.info? t=J i) (bx:i.zero=J z) (dw:z.cells.toList.all dy=aa) (bf:z.cells.size=i.size):
   jC P ap o n (.own z.cells.toList t) (.pointer (J ⟨n,0,ae⟩))
 |box (t:bV) (x:bS) (i:TypeInfo) (h:o.op= .box t x) (az:P.info? t=J i) (aD:storable (ap x)=aa) (bf:(ap x).cells.size=i.size):
   jC P ap o n (.own (ap x).cells.toList t) (.pointer (J ⟨n,0,ae⟩))
 |buildSlice (t:bV) (l:Nat) (cQ:Array (Nat×bS)) (e:bV) (i:TypeInfo) (z:af) (cs:List af) (h:o.op= .buildSlice t l cQ) (aJ:P.underlying t=J (.slice e)) (az:P.info? e=J i) (bx:i.zero=J z)
   (dw:z.cells.toList.all dy=aa) (et:z.cells.size=i.size) (uO:l*i.size<=16777216) (uW:l<9223372036854775808)
   (ay:k5 (λk=>J (k*i.size,i.size)) (gb l z.cells.toList).flatten (cQ.toList.map λp=>(p.1,ap p.2))=J cs):
   jC P ap o n (.own cs e) (.slice (J ⟨n,0,ae⟩) l l)
 |makeSlice (t:bV) (x y:bS) (l c:Nat) (k k':aG) (e:bV) (i:TypeInfo) (z:af) (h:o.op= .makeSlice t x y) (aJ:P.underlying t=J (.slice e)) (az:P.info? e=J i) (bx:i.zero=J z)
   (dw:z.cells.toList.all dy=aa) (et:z.cells.size=i.size) (an:ap x= .int k l) (aZ:ap y= .int k' c) (s7:l<=c) (aw:i.bytes*c<=140737488355328) (ay:c<9223372036854775808):
   jC P ap o n (.own (gb c z.cells.toList).flatten e) (.slice (J ⟨n,0,ae⟩) l c)
 |bytes (s t:bV) (x:bS) (e:bV) (i:TypeInfo) (b:ByteArray) (h:o.op= .convert s t x) (bf:P.underlying s=J .string) (aJ:P.underlying t=J (.slice e)) (he:P.underlying e=J (.int .u8)) (az:P.info? e=J i)
   (kL:i.size=1) (an:ap x= .string b) (aw:b.size<9223372036854775807):
   jC P ap o n (.own (b.data.toList.map λu=> .int .u8 u.toNat) e) (.slice (J ⟨n,0,ae⟩) b.size dc)
 |makeMap (t bG bA:bV) (h:o.op= .makeMap t ae) (aJ:P.underlying t=J (.map bG bA)):jC P ap o n (.map [] t) (.map (J n))
def kt (m:Mem) (c:Nat):af->Option (List af)| .slice (J ⟨b,a,ae⟩) l _=>kd m b a (l*c)| .slice ae _ _=>J []| .string s=>if c=1 then J (s.data.toList.map λu=> .int .u8 u.toNat) else ae|_=>ae
def ja:af->Nat| .slice _ l _=>l| .string s=>s.size|_=>0
def callee (o:Oper) (c:bS->af) (f:FuncId) (b:Array af):Prop:=∃x d e first a,o.op= .call {callee:= .value x,args:=d,argTypes:=e}/\c x= .func (.func f) first a/\b=first++d.map c++a
inductive sA (P:bI) (m:Mem) (u:bV) (i:TypeInfo) (v:af) (n:Nat) (new:List af):Prop where
 |el (hu:(∃cz,P.underlying u=J (.slice cz))\/P.underlying u=J .string) (aR:ja v=n) (he:kt m i.size v=J new)
 |mk (kk k:aG) (z:af) (hu:P.underlying u=J (.int kk)) (aD:v= .int k n) (bx:i.zero=J z) (dw:z.cells.toList.all dy=aa) (et:z.cells.size=i.size) (cN:0<i.size)
   (aw:n*i.bytes<=140737488355328) (hm:n<9223372036854775807) (nE:new=(gb n z.cells.toList).flatten)
inductive hR (P:bI) (C:FuncId->Array af->Mem->af->Mem->Prop) (ap:bS->af) (o:Oper) (m:Mem):af->Mem->Prop where
 |store (t:bV) (x y:bS) (b off:Nat) (i:TypeInfo) (L:List af) (e:bV) (h:o.op= .store t x y) (an:ap x= .pointer (J ⟨b,off,ae⟩)) (az:P.info? t=J i) (hm:m.blk b= .own L e)
   (aD:storable (ap y)=aa) (bf:(ap y).cells.size=i.size) (aR:off+i.size<=L.length):hR P C ap o m undef (m.put b (.own (eY L off (ap y).cells.toList) e))
 |call (f:FuncId) (args:Array af) (v:af) (m':Mem) (h:callee o ap f args) (cW:C f args m v m'):hR P C ap o m v m'
 |vZ (x y:bS) (t u:bV) (e:bV) (i:TypeInfo) (a:Option Addr) (l c:Nat) (h:o.op= .call {callee:= .builtin .append,args:=#[x,y],argTypes:=#[t,u]}) (aJ:P.underlying t=J (.slice e)) (az:P.info? e=J i)
   (an:ap x= .slice a l c) (ay:c<dc) (s7:l<=c) (aZ:sA P m u i (ap y) 0 []):hR P C ap o m (ap x) m
 |sP (x y:bS) (t u:bV) (e:bV) (i:TypeInfo) (z:af) (a:Option Addr) (l c n:Nat) (ew new:List af) (h:o.op= .call {callee:= .builtin .append,args:=#[x,y],argTypes:=#[t,u]})
   (aJ:P.underlying t=J (.slice e)) (az:P.info? e=J i) (bx:i.zero=J z) (dw:z.cells.toList.all dy=aa) (et:z.cells.size=i.size) (cN:0<i.size)
   (an:ap x= .slice a l c) (ay:c<l+n)
   (aM:kt m i.size (ap x)=J ew) (nF:ew.length=l*i.size) (aZ:sA P m u i (ap y) n new) (bB:new.length=n*i.size) (aw:(l+n)*i.bytes<=140737488355328) (hm:l+n<9223372036854775807):
   hR P C ap o m (.slice (J ⟨m.next,0,ae⟩) (l+n) dc) (m.push (.own (ew++new) e))
 |vY (x y:bS) (t u:bV) (e:bV) (i:TypeInfo) (b off l c n:Nat) (L new:List af) (h:o.op= .call {callee:= .builtin .append,args:=#[x,y],argTypes:=#[t,u]})
   (aJ:P.underlying t=J (.slice e)) (az:P.info? e=J i) (an:ap x= .slice (J ⟨b,off,ae⟩) l c) (gN:c<dc)
   (ay:l+n<=c) (hm:m.blk b= .own L e) (aZ:sA P m u i (ap y) n new) (bB:new.length=n*i.size) (aR:off+(l+n)*i.size<=L.length):
   hR P C ap o m (.slice (J ⟨b,off,ae⟩) (l+n) c) (m.put b (.own (eY L (off+l*i.size) new) e))
 |yy (x y:bS) (t u:bV) (e:bV) (i:TypeInfo) (b off l c k n:Nat) (L new:List af) (h:o.op= .call {callee:= .builtin .append,args:=#[x,y],argTypes:=#[t,u]})
   (aJ:P.underlying t=J (.slice e)) (az:P.info? e=J i) (an:ap x= .slice (J ⟨b,off,ae⟩) l c) (gN:c=dc+k) (nB:0<k)
   (ay:l+n<=k) (hm:m.blk b= .own L e) (aZ:sA P m u i (ap y) n new) (bB:new.length=n*i.size) (aR:off+(l+n)*i.size<=L.length):
   hR P C ap o m (.slice (J ⟨b,off,ae⟩) (l+n) c) (m.put b (.own (eY L (off+l*i.size) new) e))
 |append (x y:bS) (t u:bV) (e:bV) (i:TypeInfo) (z:af) (b off l n:Nat) (L new:List af) (h:o.op= .call {callee:= .builtin .append,args:=#[x,y],argTypes:=#[t,u]})
   (aJ:P.underlying t=J (.slice e)) (az:P.info? e=J i) (bx:i.zero=J z) (dw:z.cells.toList.all dy=aa) (et:z.cells.size=i.size) (cN:0<i.size)
   (an:ap x= .slice (J ⟨b,off,ae⟩) l dc) (jj:m.blk b= .own L e) (yS:off+l*i.size<=L.length)
   (aZ:sA P m u i (ap y) n new) (bB:new.length=n*i.size) (aw:(l+n)*i.bytes<=140737488355328) (hm:l+n<9223372036854775807):
   hR P C ap o m (.slice (J ⟨m.next,0,ae⟩) (l+n) dc) ((m.put b .dead).push (.own ((L.drop off).take (l*i.size)++new) e))
 |copy (x y:bS) (t u:bV) (e:bV) (i:TypeInfo) (b off l c:Nat) (L:List af) (cs:List af) (h:o.op= .call {callee:= .builtin .copy,args:=#[x,y],argTypes:=#[t,u]}) (aJ:P.underlying t=J (.slice e)) (az:P.info? e=J i)
   (an:ap x= .slice (J ⟨b,off,ae⟩) l c) (hm:m.blk b= .own L e) (aZ:kt m i.size (ap y)=J cs) (bB:cs.length=ja (ap y)*i.size) (aR:off+l*i.size<=L.length):
   hR P C ap o m (.int .i64 (rB (ja (ap y)) l)) (m.put b (.own (eY L off (cs.take (rB (ja (ap y)) l*i.size))) e))
 |clear (x:bS) (t:bV) (e:bV) (i:TypeInfo) (z:af) (b off l c:Nat) (L:List af) (h:o.op= .call {callee:= .builtin .clear,args:=#[x],argTypes:=#[t]}) (aJ:P.underlying t=J (.slice e)) (az:P.info? e=J i)
   (bx:i.zero=J z) (dw:z.cells.toList.all dy=aa) (et:z.cells.size=i.size) (an:ap x= .slice (J ⟨b,off,ae⟩) l c) (hm:m.blk b= .own L e) (hV:0<l) (aR:off+l*i.size<=L.length):
   hR P C ap o m (.tuple #[]) (m.put b (.own (eY L off (gb l z.cells.toList).flatten) e))
 |mapUpdate (hZ:bV) (x jW j3:bS) (u bG bA:bV) (b:Nat) (L eo vc:List af) (E E':List (List af×List af)) (ho:af->Prop) (h:o.op= .mapUpdate hZ x jW j3\/o.op= .insert hZ x jW j3)
   (jk:P.underlying hZ=J (.map bG bA)) (hu:P.underlying u=J (.map bG bA)) (an:ap x= .map (J b)) (hm:m.blk b= .map L u) (bp:qG (P.cellsOf bG) (P.cellsOf bA) L E) (nC:0<P.cellsOf bG)
   (K:Keyed P bG ho) (yP:ap jW=ey (ek P bG) eo) (uV:eo.length=P.cellsOf bG) (yQ:eo.all dy=aa) (bF:flat (ap jW)=aa) (hk:ho (ap jW)) (bs:∀p∈E,ho (ey (ek P bG) p.1))
   (rZ:storable (ap j3)=aa) (J1:ap j3=ey (ek P bA) vc) (tg:vc.length=P.cellsOf bA) (wA:∀v∈vc,v∈(ap j3).cells.toList) (hb:uA (ek P bG) eo vc E E'):
   hR P C ap o m undef (m.put b (.map (E'.flatMap λp=>p.1++p.2) u))
inductive ln (P:bI) (C:FuncId->Array af->Mem->af->Mem->Prop) (ap:bS->af) (o:Oper) (m:Mem):af->Mem->Prop where
 |pure {v:af} (h:dD P ap o v):ln P C ap o m v m
 |read {v:af} (h:fH P ap o m v):ln P C ap o m v m
 |new {X:bW} {v:af} (h:jC P ap o m.next X v):ln P C ap o m v (m.push X)
 |fX {v:af} {m':Mem} (h:hR P C ap o m v m'):ln P C ap o m v m'
def wanted (c:List Oper) (e:Nat->af) (o:Oper):Bool:=
 match o.guard with
 |none=>aa
 |some (j,a)=>
  match (c[j]?).bind (·.dst) with
  |some d=>(match e d with| .bool b=>b==a|_=>ak)
  |none=>ak
def k6 (P:bI) (C:FuncId->Array af->Mem->af->Mem->Prop) (a:List Oper):List Oper->(Nat->af)->Mem->(Nat->af)->Mem->Prop
 |[],b,m,c,d=>c=b/\d=m
 |o::f,b,m,c,d=>
  if wanted a b o=aa then ∃v e,ln P C (bk b) o m v e/\k6 P C a f (set b o.dst v) e c d
  else k6 P C a f (set b o.dst undef) m c d
def lT:Op->Bool| .store .. | .mapUpdate .. | .insert .. =>aa| .call {callee:= .builtin .len, .. }| .call {callee:= .builtin .max, .. }| .call {callee:= .builtin .min, .. }=>ak| .call _=>aa|_=>ak
def gD (B:Array Nat) (i k:Nat):Bool:=(B.getD i 0).testBit k
structure Acc where
 reads:List (Nat×(Mem->Prop))
 iC:List (Nat×Mem)
 news:List (Nat×Nat)
def hW (P:bI) (C:FuncId->Array af->Mem->af->Mem->Prop) (b:List Oper) (B:Array Nat):Nat->List Oper->Acc->(Nat->af)->Mem->(Nat->af)->Mem->Prop
 |_,[],_,a,m,c,d=>c=a/\d=m
 |i,o::e,A,a,m,c,d=>
  if wanted b a o=aa then
   (∃v,dD P (bk a) o v/\hW P C b B (i+1) e A (set a o.dst v) m c d)\/
   (∃v,fH P (bk a) o m v/\(∀x∈A.iC,gD B i x.1=ak->fH P (bk a) o x.2 v)/\
    hW P C b B (i+1) e {A with reads:=(i,λm=>fH P (bk a) o m v)::A.reads} (set a o.dst v) m c d)\/
   (∃X v,jC P (bk a) o m.next X v/\hW P C b B (i+1) e {A with news:=(i,m.next)::A.news} (set a o.dst v) (m.push X) c d)\/
   (∃v f,hR P C (bk a) o m v f/\(∀x∈A.reads,gD B i x.1=ak->x.2 f)/\(∀x∈A.news,gD B i x.1=ak->f.blk x.2=m.blk x.2)/\
    hW P C b B (i+1) e {A with iC:=(i,m)::A.iC} (set a o.dst v) f c d)
  else hW P C b B (i+1) e A (set a o.dst undef) m c d
inductive fG where
 |normal
 |exit (id:Nat)
 |ret
 deriving DecidableEq
def abv (n:Nat):Option Addr->Prop|some a=>a.block<n|none=>True
def r4 (n:Nat):af->Prop| .pointer a=>abv n a|_=>False
def h7 (n:Nat):af->Prop| .pointer a| .slice a _ _=>abv n a| .map (J r)=>r<n| .func _ b c=>b=#[]/\∀v∈c.toList,r4 n v| .chan _| .iface _ _| .agg _| .tuple _=>False|_=>True
def iv (n:Nat):af->Prop| .agg cs=>∀v∈cs.toList,h7 n v|v=>h7 n v
def low (n:Nat):af->Prop| .chan _=>True| .tuple cs=>∀v∈cs.toList,iv n v| .func _ a b=>(∀v∈a.toList,iv n v)/\∀v∈b.toList,iv n v|v=>iv n v
def qe (n:Nat):bW->Prop| .own L _| .map L _=>∀v∈L,h7 n v| .ro rd=>∀i v,rd i=J v->h7 n v| .dead=>True| .lock _ _ _ _=>True
def nI:bS->Bool| .tmp _| .func _=>aa| .const v=>flat v| .global _=>aa
def vh (a:Array Oper) (o:Oper):List Nat:=
 (o.op.operands.toList.filterMap λ| .tmp t=>J t|_=>ae)++
 (match o.guard with|some (g,_)=>((a[g]?).bind (·.dst)).toList|none=>[])++o.dst.toList
def sR (a:Array Oper) (x o:Oper):Bool:=
 (match x.dst with|some d=>(vh a o).contains d|none=>ak)||(match o.dst with|some d=>(vh a x).contains d|none=>ak)||(lT x.op&&lT o.op)
def vj (a:Array Oper):Bool:=
 (mN a.size).all λi=>
  match a[i]? with
  |none=>aa
  |some o=>(o.after.toList.all λe=> !Region.binds .any e||decide (e.on<i))&&
   (mN i).all λx=>match a[x]? with|none=>aa|some y=> !sR a y o||gD (kp a) i x
def jw (n:Nat):Code->Bool
 | .region _ f e=>(f.toList.all λo=>o.op.operands.toList.all nI&&(match o.dst with|some d=>decide (d<n)|none=>aa))&&(!e||vj f)
 | .seq a b=>jw n a&&jw n b
 | .cond c a b=>nI c&&jw n a&&jw n b
 | .block _ c=>jw n c
 | .scope c=>jw n c
 | .loop c=>jw n c
 |_=>aa
structure lj (ds:List Deferred) (j:cj) (N:Nat) (fr:Nat->af) (a:Act):Prop where
 val:∀t,de j (fr t) (a.tmps.getD t undef)
 defers:a.defers=ds
 size:a.tmps.size=N
def fG.out:fG->Exit| .normal=> .normal| .exit id=> .exit id| .ret=> .ret
def Uh (a:Array Oper):List Nat:=a.toList.filterMap (·.dst)
def q6:Code->List Nat| .region _ d _=>Uh d| .seq a b=>q6 a++q6 b| .cond _ a b=>q6 a++q6 b| .block _ c=>q6 c| .scope c=>q6 c| .loop c=>q6 c|_=>[]
structure WF (m:Mem):Prop where
 dead:∀b,m.next<=b->m.blk b= .dead
 low:∀b,qe m.next (m.blk b)
structure afV (P:bI) (c:Code) (fr:Nat->af) (m:Mem) (e:fG) (cb:Nat->af) (m':Mem):Prop where
 next:m.next<=m'.next
 keep:∀i,(q6 c).contains i=ak->cb i=fr i
 low:WF m->(∀t,low m.next (fr t))->WF m'/\∀t,low m'.next (cb t)
 sound:∀{ds:List Deferred} {N:Nat} {j:cj} {a:Act} {w:World} {Q:Exit->Act->World->Prop},jw N c=aa->Rel P j m w->WF m->lj ds j N fr a->(∀a' w' c6,Post P j m w c6 m' w'->lj ds c6 N cb a'->Q e.out a' w')->c.wp P Q a w
def aeJ:Code->Bool| .seq (.region _ _ _) (.block _ (.loop _))=>aa|_=>ak
def lS (P:bI) (C:FuncId->Array af->Mem->af->Mem->Prop):Nat->Code->(Nat->af)->Mem->fG->(Nat->af)->Mem->Prop|0,_,_,_,_,_,_=>False|_+1, .skip,g,m,e,d,f=>e= .normal/\d=g/\f=m|_+1, .label _,g,m,e,d,f=>e= .normal/\d=g/\f=m|_+1, .exit l,g,m,e,d,f=>e= .exit l/\d=g/\f=m|_+1, .ret,g,m,e,d,f=>e= .ret/\d=g/\f=m|_+1, .region _ h ak,g,m,e,d,f=>e= .normal/\k6 P C h.toList h.toList g m d f|_+1, .region _ h aa,g,m,e,d,f=>e= .normal/\hW P C h.toList (kp h) 0 h.toList ⟨[],[],[]⟩ g m d f|n+1, .seq a b,g,m,e,d,f=>(∃i j k,lS P C n a g m i j k/\(if i= .normal then lS P C n b j k e d f else e=i/\d=j/\f=k))\/(aeJ a=aa/\afV P (.seq a b) g m e d f)|n+1, .cond c a b,g,m,e,d,f=>∃t,bk g c= .bool t/\lS P C n (if t then a else b) g m e d f|n+1, .scope c,g,m,e,d,f=>lS P C n c g m e d f|n+1, .block l c,g,m,e,d,f=>∃i,lS P C n c g m i d f/\e=(if i= .exit l then .normal else i)|n+1, .loop c,g,m,e,d,f=>∃i j k,lS P C n c g m i j k/\(if i= .normal then lS P C n (.loop c) j k e d f else e=i/\d=j/\f=k)|_+1,_,_,_,_,_,_=>False
def KZ (P:bI) (f:Nat->af) (m:Mem):ResultVar->af->Prop
 | .tmp t,v=>v=f t
 | .cell a t,v=>∃b c,f a= .pointer (J ⟨b,c,ae⟩)/\∃d,P.underlying t=J d/\
   (if lI d=aa then ∃i e,P.info? t=J i/\kd m b c i.size=J e/\v= .agg e.toArray else m.load b c=J v)
def q2 (P:bI) (a:Nat->af) (m:Mem):List ResultVar->List af->Prop|[],[]=>True|r::b,v::c=>KZ P a m r v/\q2 P a m b c|_,_=>False
def lR (P:bI) (f:FuncId):Bool:=
 match P.funcs[f]? with
 | J fn => !(fn.name == "runtime.NumGoroutine") && (match fn.body with | J c => jw fn.ntmps c | ae => ak)
 |none=>ak
def pack:List af->af|[x]=>x|vs=> .tuple vs.toArray
structure Grown (w w':World):Prop where
 os:w'.os=w.os
 tape:w'.tape=w.tape
 output:w'.output=w.output
 size:w.heap.size<=w'.heap.size
 heap:∀c,c<w.heap.size->w'.heap[c]? =w.heap[c]?
def LB (P:bI) (f:FuncId) (a:Array af) (m:Mem) (v:af) (b:Mem):Prop:=
 m.next<=b.next/\(WF m->low b.next v/\WF b)/\
  ∀(j:cj) (w:World) (g:Array af),WF m->Rel P j m w->bP (de j) a.toList g.toList->Calls P f g w λe h=>∃c d,e= .returned c/\Post P j m w d b h/\de d v c
def Cl (P:bI) (g:FuncId):Prop:=
 (∃ fn, P.funcs[g]? = J fn ∧ (fn.name == "runtime.NumGoroutine") = ak ∧ fn.body.isNone = ak) ∧
  ∀(cs:Array af) (w:World),CallsD P g cs .returning w λe u w'=>(∃v,e= .returned v)/\u= .returning/\w'=w
structure afP (P:bI) (fn:Func) (c A:Code) (id:Nat) (mk p3:Oper) (B:Code) (g k:Nat) (cs:Array bS):Prop where
 body:fn.body=J (.seq A (.seq (.region id #[mk,p3] ak) B))
 code:c= .seq A (.seq (.region id #[mk] ak) B)
 db:aeJ A=ak
 apv:mk.op= .makeFunc (.func g) #[] cs
 VR:mk.dst=J k
 abA:mk.guard=ae
 amB:p3.op= .defer {callee:= .value (.tmp k),args:=#[],argTypes:=#[]}
 amz:p3.dst=ae
 amA:p3.guard=ae
 apA:Cl P g
def qm (P:bI) (fn:Func) (c:Code):Prop:=fn.body=J c\/∃A b mk d B g k a,afP P fn c A b mk d B g k a
def jn (P:bI):Nat->FuncId->Array af->Mem->af->Mem->Prop
 |0,_,_,_,_,_=>False
 |n+1,f,a,m,v,h=>(lR P f=aa/\LB P f a m v h)\/∃fn c e j d g,P.funcs[f]? =J fn/\qm P fn c/\lR P f=aa/\a.size<=fn.ntmps/\
   lS P (jn P n) n c (λi=>(a++nj (fn.ntmps - a.size) undef).getD i undef) m e j d/\(e= .normal\/e= .ret)/\
   q2 P j d fn.results.toList g/\v=pack g/\(g.length=1\/∀x∈g,storable x=aa)/\
   (h=d\/(h=d.nf m.next/\low m.next v/\∀b,b<m.next->d.blk b=m.blk b\/qe m.next (d.blk b)))
end Go.aF
end
section
namespace Go.aF
def bP.Kh {b a:Type} {R:b->a->Prop} {l:List a} (h:bP R [] l):l=[]:=by
 cases l with
 |nil=>rfl
 |cons _ _=>exact h.elim
def Kq {fn:Fn} {a b:Array af} (h:dy (.func fn a b)=aa):a=#[]/\b=#[]:=by
 grind [dy]
theorem B0 {j:cj} {v d:af} (h:dy v=aa) (b:eA j v d):d=v:=by
 cases v with
 |pointer a=>cases a with
  |none=>exact b
  |some a=>grind [dy]
 |slice a l c=>cases a with
  |none=>exact b
  |some a=>grind [dy]
 |map r=>cases r with
  |none=>exact b
  |some r=>grind [dy]
 |chan _=>grind [dy]
 |func _ _ _=>
  obtain ⟨rfl,rfl⟩:=Kq (fn:= .func 0) (by simpa[flat,kz,dy] using h);obtain ⟨_,f,g,e⟩:=b;have:f=#[]:=Ii (bP.Kh e)
  grind
 |iface _ _=>grind [dy]
 |agg _=>grind [dy]
 |tuple _=>grind [dy]
 |_=>exact b
theorem q4 {j:cj} {v:af} (h:dy v=aa):eA j v v:=by
 cases v with
 |pointer a=>cases a with
  |none=>rfl
  |some a=>grind [dy]
 |slice a l c=>cases a with
  |none=>rfl
  |some a=>grind [dy]
 |map r=>cases r with
  |none=>rfl
  |some r=>grind [dy]
 |chan _=>grind [dy]
 |func _ _ _=>obtain ⟨rfl,rfl⟩:=Kq (fn:= .func 0) (by simpa[flat,kz,dy] using h);exact ⟨rfl,#[],rfl,trivial⟩
 |iface _ _=>grind [dy]
 |agg _=>grind [dy]
 |tuple _=>grind [dy]
 |_=>rfl
def bP.Js {c:Type} {R:c->c->Prop} {p:c->Bool} (h:∀a b,p a=aa->R a b->b=a):∀{l k:List c},l.all p=aa->bP R l k->k=l
 |[],[],_,_=>rfl
 |a::l,b::k,d,⟨g,f⟩=>by simp only[ml,fx] at d;rw[h a b d.1 g,bP.Js h d.2 f]
 |[],_::_,_,e=>e.elim
 |_::_,[],_,e=>e.elim
def bP.self {b:Type} {R:b->b->Prop} {p:b->Bool} (h:∀a,p a=aa->R a a):∀{l:List b},l.all p=aa->bP R l l
 |[],_=>fs
 |a::l,c=>by simp only[ml,fx] at c;exact ⟨h a c.1,bP.self h c.2⟩
def adh {j:cj} {v c:af} (h:kz v=aa) (d:fC j v c):c=v:=by
 cases v with
 |agg f=>obtain ⟨g,rfl,e⟩:=d;have:=bP.Js (λa b=>B0 (j:=j)) h e;simp_all
 |_=>exact B0 (j:=j) h (by grind [fC])
def zf {j:cj} {v:af} (h:kz v=aa):fC j v v:=by
 cases v with
 |agg b=>exact ⟨b,rfl,bP.self (λa=>q4) h⟩
 |_=>simp only[fC];exact q4 h
def W3 {j:cj} {v e:af} (h:flat v=aa) (d:de j v e):e=v:=by
 cases v with
 |tuple k=>obtain ⟨g,rfl,c⟩:=d;have:=bP.Js (λa b=>adh (j:=j)) h c;simp_all
 |func _ _ _=>obtain ⟨rfl,rfl⟩:=Kq (fn:= .func 0) (by simpa[flat,kz,dy] using h);obtain ⟨l,g,i,c,f⟩:=d;rw[i,Ii (bP.Kh c),Ii (bP.Kh f)]
 |chan _=>grind [flat,kz,dy]
 |_=>exact adh (j:=j) h (by grind [de])
theorem acZ {j:cj} {v:af} (h:flat v=aa):de j v v:=by
 cases v with
 |tuple b=>exact ⟨b,rfl,bP.self (λa=>zf) h⟩
 |func _ _ _=>obtain ⟨rfl,rfl⟩:=Kq (fn:= .func 0) (by simpa[flat,kz,dy] using h);exact ⟨#[],#[],rfl,trivial,trivial⟩
 |chan _=>grind [flat,kz,dy]
 |_=>simp only[de];exact zf h
def kY.abK {j:cj}:∀{l k:List af},l.all xr=aa->bP (fC j) l k->bP (kY j) l k
 |[],[],_,_=>trivial
 |[],_::_,_,h=>h.elim
 |_::_,[],_,h=>h.elim
 |v::l,bz::k,a,⟨d,c⟩=>by
  simp only[ml,fx] at a;refine ⟨?_,kY.abK a.2 c⟩;have b:=a.1;unfold xr at b;split at b
  ·exact d
  grind
theorem de.storable {j:cj} {v b:af} (h:de j v b) (a:storable v=aa):fC j v b:=by
 cases v with
 |tuple _=>grind [aF.storable]
 |chan _=>grind [aF.storable]
 |func fn g k=>
  simp only[aF.storable,fx] at a;have f:g=#[]:=by grind
  subst f;obtain ⟨l,i,c,e,d⟩:=h;rw[Ii (bP.Kh e)] at c;exact ⟨rfl,i,c,kY.abK a.2 d⟩
 |_=>exact h
def de.int {j:cj} {k:aG} {n:Int} {a:af} (h:de j (.int k n) a):a= .int k n:=h
def de.bool {j:cj} {b:Bool} {a:af} (h:de j (.bool b) a):a= .bool b:=h
theorem de.str {j:cj} {b:ByteArray} {a:af} (h:de j (.string b) a):a= .string b:=h
def de.nc {j:cj} {l c:Nat} {a:af} (h:de j (.slice ae l c) a):a= .slice ae l c:=h
def de.ptr {j:cj} {a:Addr} {b:af} (h:de j (.pointer (J a)) b):∃e,a.spot=ae/\j a.block=J e/\b= .pointer (J ⟨e.blk,e.db+a.off,ae⟩):=h
def de.slice {j:cj} {a:Addr} {l c:Nat} {b:af} (h:de j (.slice (J a) l c) b):∃e,a.spot=ae/\j a.block=J e/\
   ((c<dc/\b= .slice (J ⟨e.blk,e.db+a.off,ae⟩) l c)\/
    (c=dc/\0<e.es/\l<=e.cap - a.off / e.es/\e.cap<dc/\a.off%e.es=0/\a.off / e.es<=e.cap/\b= .slice (J ⟨e.blk,e.db+a.off,ae⟩) l (e.cap - a.off / e.es))\/
    (c=dc/\l=0/\∃f,b= .slice (J ⟨e.blk,f,ae⟩) 0 0)\/
    (c=0/\l=0/\∃d,b= .slice (J d) 0 0)\/
    (∃k,c=dc+k/\0<k/\l<=k/\0<e.es/\k<=e.cap - a.off / e.es/\e.cap<dc/\a.off%e.es=0/\a.off / e.es<=e.cap/\b= .slice (J ⟨e.blk,e.db+a.off,ae⟩) l (e.cap - a.off / e.es))):=h
def de.vw {j:cj} {a:Addr} {l c:Nat} {d:af} (h:de j (.slice (J a) l c) d) (n:c<=dc):∃e,a.spot=ae/\j a.block=J e/\
   ((c<dc/\d= .slice (J ⟨e.blk,e.db+a.off,ae⟩) l c)\/
    (c=dc/\0<e.es/\l<=e.cap - a.off / e.es/\e.cap<dc/\a.off%e.es=0/\a.off / e.es<=e.cap/\d= .slice (J ⟨e.blk,e.db+a.off,ae⟩) l (e.cap - a.off / e.es))\/
    (c=dc/\l=0/\∃m,d= .slice (J ⟨e.blk,m,ae⟩) 0 0)\/
    (c=0/\l=0/\∃f,d= .slice (J f) 0 0)):=by
 obtain ⟨e,i,g,b⟩:=h.slice;refine ⟨e,i,g, ?_⟩;rcases b with b|b|b|b|⟨k,o,p,_⟩
 ·grind
 ·grind
 ·grind
 ·grind
 grind
theorem o4 (b o n:Nat):(⟨b,o,ae⟩:Addr).add n=⟨b,o+n,ae⟩:=by
 grind [Addr.add]
theorem mB:∀(a L:List af) (o:Nat),(eY L o a).length=L.length
 |[],L,o=>rfl
 |v::a,L,o=>by simp[eY,mB a]
theorem o5 (a:List af):∀(L:List af) (o i:Nat),o+a.length<=L.length->(eY L o a)[i]? =if o<=i/\i<o+a.length then a[i - o]? else L[i]? :=by
 induction a with
 |nil=>grind [eY]
 |cons v a b=>
  grind [eY]
def aqS (a:List af):∀(A:Array af) (o k:Nat),((a.zipIdx k).foldl (λb (c,j)=>b.setIfInBounds (o+j) c) A).toList=eY A.toList (o+k) a:=by
 induction a with
 |nil=>simp_all [eY]
 |cons v a d=>simp_all [eY,sK]
def Kv {j:cj} {d:Nat->Option (Nat×Nat)}:∀(r n:List (Nat×af)) (L:List af) (A:Array af) (e:List af),bP (λp q=>p.1=q.1/\de j p.2 q.2) r n->bP (eA j) L A.toList->k5 d L r=J e->
  ∃C,Instr.fill d A n=J C/\bP (eA j) e C.toList
 |[],[],L,A,e,_,s,h=>by simp only[k5,kB.injEq] at h;subst h;exact ⟨A,rfl,s⟩
 |(i,v)::r,(k,o)::n,L,A,e,⟨⟨D,y⟩,E⟩,s,h=>by
  simp only at D y;subst D;simp only[k5] at h;cases B:d i with
  |none=>grind
  |some q=>
   obtain ⟨f,m⟩:=q;simp only[B] at h;split at h
   ·rename_i H;obtain ⟨I,Q,P⟩:=H;have N:=de.storable y I;have w:=fC.cells N;have l:o.cells.size=m:=by have:=w.length;grind
    have G:L.length=A.size:=by have:=s.length;grind
    simp only[Instr.fill,B,l,ne_eq,not_true_eq_false,decide_false,Bool.false_or,decide_eq_true_eq];rw[if_neg (by omega)];refine Kv r n _ _ e E ?_ h;have z:=aqS o.cells.toList A f 0;simp only[pS] at z;have O:(o.cells.zipIdx.foldl (λe (c,j)=>e.setIfInBounds (f+j) c) A)=((o.cells.toList.zipIdx).foldl (λe (c,j)=>e.setIfInBounds (f+j) c) A):=by
     grind [Array.toList_zipIdx]
    rw[O,z];refine bP.Kj (by grind [mB]) ?_;intro i a b g u;rw[o5 _ _ _ _ (by grind)] at g;rw[o5 _ _ _ _ (by grind)] at u;have t:=w.length;rw[t] at g;split at g
    ·rename_i x;rw[if_pos x] at u;obtain ⟨K,M,F⟩:=w.get _ _ g
     grind
    ·rename_i x;rw[if_neg x] at u;obtain ⟨K,M,F⟩:=s.get _ _ g
     grind
   grind
 |[],_::_,_,_,_,h,_,_=>h.elim
 |_::_,[],_,_,_,h,_,_=>h.elim
def h3 (j:cj) (a b:bS->af) (o:Oper):Prop:=∀x∈o.op.operands,de j (a x) (b x)
theorem fw {P:bI} {t:bV} {d:TypeDesc} (h:P.underlying t=J d) (w:World):(underlying t).run P w= .ok d w:=run_underlying h w
def vm {P:bI} {t:bV} {i:TypeInfo} (h:P.info? t=J i) (w:World):(typeInfo t).run P w= .ok i w:=by simp[typeInfo,h]
theorem jb {P:bI} {t:bV} {i:TypeInfo} (h:P.info? t=J i) (w:World):(sizeOf t).run P w= .ok i.size w:=by simp[sizeOf,vm h]
theorem og {P:bI} {t:bV} {i:TypeInfo} {z:af} (h:P.info? t=J i) (a:i.zero=J z) (w:World):(zeroValue t).run P w= .ok z w:=by simp_all [zeroValue,vm]
def sb {P:bI} {t:bV} {d:TypeDesc} (h:P.underlying t=J d) (w:World):(isAgg t).run P w= .ok (lI d) w:=by
 simp only[isAgg,kD,fw h,jE];cases d<;>simp[lI]
def h3.VO {j:cj} {ap dn:bS->af} {o:Oper} (a:List (Nat×bS)) (h:∀p∈a,de j (ap p.2) (dn p.2)):bP (λ(p q:Nat×af)=>p.1=q.1/\de j p.2 q.2) (a.map λp=>(p.1,ap p.2)) (a.map λp=>(p.1,dn p.2)):=by
 induction a with
 |nil=>exact fs
 |cons p a b=>exact ⟨⟨rfl,h p (by simp)⟩,b λq c=>h q (by grind)⟩
def aco {P:bI} (w:World):∀(a:List Field),(∀x∈a.map (λf=>(P.info? f.type).map λi=>(f.offset,i.size)),x.isSome=aa)->
  (a.mapM (m:=Sem) λf=>do pure (f.offset,<-sizeOf f.type)).run P w= .ok (a.map λf=>(f.offset,((P.info? f.type).map (·.size)).getD 0)) w
 |[],_=>by rfl
 |f::a,h=>by have b:=h _ (by simp;exact .inl rfl);simp only[Option.isSome_map] at b;obtain ⟨i,e⟩:=agh.1 b;have d:=aco w a (λx c=>h x (by simp only[rA,ha];exact .inr c));simp_all [jb]
def h3.hs {j:cj} {a b:bS->af} {y:bS} {k:aG} {n:Int} (h:de j (a y) (b y)) (c:a y= .int k n):b y= .int k n:=by
 rw[c] at h;exact h.int
end Go.aF
end
section
namespace Go.aF
theorem aq2 {P:bI} {j:cj} {a d:bS->af} {o:Oper} {v:af} (g:∀i b,o.op≠ .select i b) (h:∀x∈o.op.operands,flat (a x)=aa) (f:∀w,(execOp a o).run P w= .ok (.value v) w)
  (e:h3 j a d o) (w:World):(execOp d o).run P w= .ok (.value v) w:=by
 rw[<-f w];congr 1;exact execOp_congr o g λx c=>W3 (h x c) (e x c)
def bP.extract {a b:Type} {R:a->b->Prop} {A:Array a} {B:Array b} (h:bP R A.toList B.toList) (i k:Nat):bP R (A.extract i k).toList (B.extract i k).toList:=by
 simp only[Yv,List.extract_eq_drop_take'];exact (h.take k).drop i
def bP.size {a b:Type} {R:a->b->Prop} {A:Array a} {B:Array b} (h:bP R A.toList B.toList):A.size=B.size:=by simpa using h.length
def bP.JA {c d:Type} {R:c->d->Prop} {A:Array c} {B:Array d} (h:bP R A.toList B.toList) (i:Nat) (a:c) (e:A[i]? =J a):∃b,B[i]? =J b/\R a b:=by
 have:=h.get i a (by grind)
 grind
theorem bP.map {a b c:Type} {R:b->c->Prop} (f:a->b) (g:a->c):∀(l:List a),(∀x∈l,R (f x) (g x))->bP R (l.map f) (l.map g)
 |[],_=>fs
 |x::l,h=>⟨h x (by simp),bP.map f g l λy d=>h y (by simp[d])⟩
def fC.up {j:cj} {v a:af} (h:fC j v a):de j v a:=de.wN h
theorem aqR {P:bI} {d:bS->af} {o:Oper} (b:Bool) (x y:bS) (t u e:bV) (a:Addr) (l c:Nat) (h:o.op= .binOp (if b then .neq else .eql) t x y u) (f:P.underlying t=J (.slice e))
   (i:d x= .slice (J a) l c) (g:d y= .slice ae 0 0) (w:World):(execOp d o).run P w= .ok (.value (.bool b)) w:=by
 grind [eqGuard,Lib.run_eql_slice_nil,run_neq_slice_nil_any,execOp,kD,jE,nt]
def Wf {P:bI} {j:cj} {ap C:bS->af} {o:Oper} {v:af} (h:dD P ap o v) (r:h3 j ap C o) (w:World):∃bz,(execOp C o).run P w= .ok (.value bz) w/\de j v bz:=by
 cases h with
 |flat v bf h T aV=>grind [aq2,acZ]
 |move x h=>
  refine ⟨C x, ?_,r x ?_⟩
  ·rcases h with h|h<;>simp[execOp,h]
  grind [dm]
 |pick c a b t h s=>
  have E:=r c (by grind [dm]);rw[s] at E;have Q:=E.bool;have bl:=r a (by grind [dm]);have aw:=r b (by grind [dm]);refine ⟨if t then C a else C b, ?_, ?_⟩
  ·simp_all [execOp,asBool]
  grind
 |extract x i vs v h B T=>have E:=r x (by grind [dm]);rw[B] at E;obtain ⟨ds,bg,Q⟩:=E;obtain ⟨b,aw,aV⟩:=Q.JA i v T;exact ⟨b,by simp_all [execOp,Instr.extract],aV.up⟩
 |field t x i bY f d cs v h D bF bg B T=>
  have E:=r x (by grind [dm]);rw[B] at E;obtain ⟨ds,oP,Q⟩:=E;by_cases bl:lI d=aa
  ·rw[if_pos bl] at T;obtain ⟨k,Y,hle,rfl⟩:=T;refine ⟨.agg (ds.extract f.offset (f.offset+k.size)), ?_,⟨_,rfl,Q.extract _ _⟩⟩;simp_all [execOp,Instr.field,fw,asAgg,part,sb,jb]
  ·rw[if_neg bl] at T;obtain ⟨b,aw,aV⟩:=Q.JA _ _ T;simp_all [de.qh,execOp,Instr.field,fw,asAgg,part,sb]
 |J6 t x y e d i l k n cs h D bg bl F B G W E=>have A:=r x (by grind [dm]);have M:=r y (by grind [dm]);rw[B] at A;rw[G] at M;have Z:=M.int;obtain ⟨ds,oP,Q⟩:=A;refine ⟨.agg (ds.extract (n.toNat*i.size) (n.toNat*i.size+i.size)), ?_,⟨_,rfl,Q.extract _ _⟩⟩;simp[execOp,h,Instr.index,Z,asIntOf,fw D,oP,W,E,part,sb bg,bl,jb F]
 |J5 t x y e d i l k n cs v h D bg bl F B G W E T=>have A:=r x (by grind [dm]);have M:=r y (by grind [dm]);rw[B] at A;rw[G] at M;have Z:=M.int;obtain ⟨ds,oP,Q⟩:=A;obtain ⟨b,aw,aV⟩:=Q.JA _ _ T;refine ⟨b, ?_,de.qh aV⟩;simp[execOp,h,Instr.index,Z,asIntOf,fw D,oP,W,E,part,sb bg,bl,jb F,aw]
 |build t cQ bY i z cs h D F bx dw bb s=>
  have Q:=h3.VO (j:=j) (ap:=ap) (dn:=C) (o:=o) cQ.toList (λp bb=>r p.2 (by
   grind [dm]))
  obtain ⟨ds,oP,aV⟩:=Kv (j:=j) _ _ _ z.cells cs Q (bP.self (λa=>q4) dw) s;refine ⟨.agg ds, ?_,⟨_,rfl,by grind⟩⟩;have Br:=aco (P:=P) w bY.toList (by grind [pC]);have ayi:(bY.mapM (m:=Sem) λf=>do pure (f.offset,<-sizeOf f.type)).run P w= .ok (bY.map λf=>(f.offset,((P.info? f.type).map (·.size)).getD 0)) w:=by
   rw[afM];simp only[Sem.run_map,Br,jE];congr 1
   grind
  have axY:(λk:Nat=>(bY.map λf=>(f.offset,((P.info? f.type).map (·.size)).getD 0))[k]?)=(λk:Nat=>((pC P bY)[k]?).join):=by
   grind [pC,Option.isSome_map,agh]
  simp_all [execOp,Instr.build,og,fw]
 |Jg t cQ n e i k z cs h D F bx dw he s=>
  have Q:=h3.VO (j:=j) (ap:=ap) (dn:=C) (o:=o) cQ.toList (λp bb=>r p.2 (by
   grind [dm]))
  obtain ⟨ds,oP,aV⟩:=Kv (j:=j) _ _ _ z.cells cs Q (bP.self (λa=>q4) dw) s;refine ⟨.agg ds, ?_,⟨_,rfl,by grind⟩⟩;simp_all [execOp,Instr.build,og,fw,jb]
 |nilCheck x a h B=>have E:=r x (by grind [dm]);rw[B] at E;obtain ⟨e,bf,N,s⟩:=E.ptr;simp_all [execOp]
 |fieldAddr t x i bY f k b H h D bF Y bf B=>have E:=r x (by grind [dm]);rw[B] at E;obtain ⟨e,_,N,s⟩:=E.ptr;refine ⟨.pointer (J ⟨e.blk,e.db+(H+f.offset),ae⟩), ?_,⟨e,rfl,N,rfl⟩⟩;simp_all [execOp,Instr.fieldAt,fw,yj,fieldPlace,jb,o4]
 |indexAddr t x y e i b H l c k n h D F B G W E=>
  have A:=r x (by grind [dm]);have M:=r y (by grind [dm]);rw[B] at A;rw[G] at M;have Z:=M.int;obtain ⟨q,_,N,s⟩:=A.slice;have K:∃L,C x= .slice (J ⟨q.blk,q.db+H,ae⟩) l L:=by
   rcases s with ⟨_,s⟩|⟨_,_,_,_,_,_,s⟩|⟨_,aR,_,s⟩|⟨_,aR,_⟩|⟨_,_,_,_,_,_,_,_,_,s⟩
   ·grind
   ·grind
   ·omega
   ·omega
   grind
  obtain ⟨L,K⟩:=K;refine ⟨.pointer (J ⟨q.blk,q.db+(H+n.toNat*i.size),ae⟩), ?_,⟨q,rfl,N,rfl⟩⟩;simp[execOp,h,YO,Z,asIntOf,fw D,K,W,E,jb F,o4,sK]
 |J4 t x y e i b H l k n h D F B G W E=>have A:=r x (by grind [dm]);have M:=r y (by grind [dm]);rw[B] at A;rw[G] at M;have Z:=M.int;obtain ⟨q,_,N,s⟩:=A.ptr;refine ⟨.pointer (J ⟨q.blk,q.db+(H+n.toNat*i.size),ae⟩), ?_,⟨q,rfl,N,rfl⟩⟩;simp[execOp,h,YO,Z,asIntOf,fw D,s,yj,W,E,jb F,o4,sK]
 |JC t x y e i l g k n h D F bf B G W E aR=>
  have A:=r x (by grind [dm]);have M:=r y (by grind [dm]);rw[B] at A;rw[G] at M;have Z:=M.int;have s:C x= .pointer (J ⟨g,0,ae⟩):=by have A:C x= .pointer (J ⟨g*4096 / 4096,g*4096%4096,ae⟩):=A;rw[A,show g*4096 / 4096=g by omega,show g*4096%4096=0 by omega]
  refine ⟨.pointer (J ⟨g,n.toNat,ae⟩), ?_, ?_⟩
  ·simp[execOp,h,YO,Z,asIntOf,fw D,s,yj,W,E,jb F,o4,bf]
  ·show af.pointer _=_;rw[show (g*4096+n.toNat) / 4096=g by omega,show (g*4096+n.toNat)%4096=n.toNat by omega]
 |slice t x cf F e i b H l c n X h D fm B aw eW S E Q aT=>
  have A:=r x (by grind [dm]);rw[B] at A;obtain ⟨q,_,N,s⟩:=A.vw (lG aw);have U:∃I:Addr,C x= .slice (J I) l c/\((c<dc/\I=⟨q.blk,q.db+H,ae⟩)\/(c=0/\l=0)):=by
   rcases s with ⟨cF,s⟩|⟨s,_⟩|⟨s,_⟩|⟨s,aR,I,bl⟩
   ·grind
   ·grind
   ·grind
   grind
  obtain ⟨I,K,Vt⟩:=U;have ny:(jc aa l c (cf.map C) (F.map C) ae).run P w= .ok (n,X,c) w:=by
   cases cf with
   |none=>
    simp only[qo] at eW;subst eW;cases F with
    |none=>simp_all [nJ,jc]
    |some y=>obtain ⟨k,G⟩:=S;have:=h3.hs (r y (by grind [dm])) G;simp_all [jc,mL,asIntOf]
   |some u=>
    obtain ⟨k,hu⟩:=eW;have oS:=h3.hs (r u (by grind [dm])) hu;cases F with
    |none=>simp only[nJ] at S;simp_all [jc,mL,asIntOf]
    |some y=>obtain ⟨V,G⟩:=S;have:=h3.hs (r y (by grind [dm])) G;simp_all [jc,mL,asIntOf]
  refine ⟨.slice (J (if c=n then I else I.add (n*i.size))) (X - n) (c - n), ?_, ?_⟩
  ·simp only[execOp,h,vM,kD,fw D,jE,IW,vL,K,ny,jb fm,nt]
   grind
  ·refine ⟨q,rfl,N, ?_⟩;rcases Vt with ⟨cF,rfl⟩|⟨rfl,rfl⟩
   ·grind [o4]
   grind
 |slice3 t x h8 F e i b H l c X V oV h D fm B s S mV E=>
  obtain ⟨y,apl,rfl,G⟩:=S;have A:=r x (by grind [dm]);rw[B] at A;have wB:=h3.hs (r y (by grind [dm])) G;have n4:=h3.hs (r h8 (by grind [dm])) mV;obtain ⟨q,_,N,O⟩:=A.vw (by grind);have U:∃(I:Addr) (L:Nat),C x= .slice (J I) l L/\V<=L/\eA j (.slice (J ⟨b,H,ae⟩) X V) (.slice (J I) X V):=by
   rcases O with ⟨cF,O⟩|⟨gN,_,hle,kJ,_,_,O⟩|⟨gN,hV,o',O⟩|⟨rQ,hV,I,O⟩
   ·rcases s with ⟨_,Y⟩|⟨gN,_⟩
    ·exact ⟨_,_,O,Y,q,rfl,N, .inl ⟨TI Y cF,rfl⟩⟩
    grind
   ·rcases s with ⟨pv,_⟩|⟨_,Y⟩
    ·grind
    ·exact ⟨_,_,O,jd Y hle,q,rfl,N, .inl ⟨TI (jd Y hle) (TI (Nat.sub_le _ _) kJ),rfl⟩⟩
   ·rcases s with ⟨pv,_⟩|⟨_,Y⟩
    ·grind
    ·have nB:V=0:=by omega
     have U9:X=0:=by omega
     subst nB U9;subst hV;exact ⟨_,_,O,pn _,q,rfl,N, .inr (.inr (.inr (.inl ⟨rfl,rfl,_,rfl⟩)))⟩
   ·subst rQ hV;have nB:V=0:=by grind
    have U9:X=0:=by omega
    subst nB U9;exact ⟨I,_,O,e4 _,q,rfl,N, .inr (.inr (.inr (.inl ⟨rfl,rfl,_,rfl⟩)))⟩
  obtain ⟨I,L,K,Y,T⟩:=U;have ny:(jc aa l L (ae:Option af) ((J y).map C) (J (C h8))).run P w= .ok (0,X,V) w:=by simp_all [jc,mL,asIntOf]
  refine ⟨_, ?_,de.qh T⟩;simp only[execOp,h,vM,kD,fw D,jE,IW,vU,vL,K] at ny⊢;simp_all [jb,Addr.add]
 |P5 t x cf F h8 e i b H l c n X V Kb J9 oV h D fm B s eW S mV W E=>
  have A:=r x (by grind [dm]);rw[B] at A;have hB:=h3.hs (r cf (by grind [dm])) eW;have wB:=h3.hs (r F (by grind [dm])) S;have n4:=h3.hs (r h8 (by grind [dm])) mV;obtain ⟨q,_,N,O⟩:=A.vw (by grind);have U:∃(I:Addr) (L:Nat),C x= .slice (J I) l L/\V<=L:=by
   rcases O with ⟨cF,O⟩|⟨gN,_,hle,kJ,_,_,O⟩|⟨gN,hV,o',O⟩|⟨rQ,hV,I,O⟩
   ·grind
   ·grind
   ·grind
   grind
  obtain ⟨I,L,K,Y⟩:=U;have ny:(jc aa l L ((J cf).map C) ((J F).map C) (J (C h8))).run P w= .ok (n,X,V) w:=by simp_all [jc,mL,asIntOf]
  have kv:∃l7 ju c2,(execOp C o).run P w= .ok (.value (.slice l7 ju c2)) w:=by simp only[execOp,h,vM,kD,fw D,jE,vU,vL,K] at ny⊢;simp_all [jb]
  obtain ⟨l7,ju,c2,kv⟩:=kv;exact ⟨_,kv,λb aw=>by grind⟩
 |P4 t x h8 F e i oV h D fm B S mV=>
  obtain ⟨y,apl,rfl,G⟩:=S;have A:=r x (by grind [dm]);rw[B] at A;have K:=A.nc;have wB:=h3.hs (r y (by grind [dm])) G;have n4:=h3.hs (r h8 (by grind [dm])) mV;refine ⟨.slice ae 0 0, ?_,rfl⟩;have ny:(jc aa 0 0 (ae:Option af) ((J y).map C) (J (C h8))).run P w= .ok (0,0,0) w:=by simp_all [jc,mL,asIntOf]
  simp only[vU] at ny;simp[execOp,h,vM,fw D,vL,K,ny,jb fm]
 |nc t x cf F e i h D fm B eW S=>
  have A:=r x (by grind [dm]);rw[B] at A;have K:=A.nc;refine ⟨.slice ae 0 0, ?_,rfl⟩;have ny:(jc aa 0 0 (cf.map C) (F.map C) ae).run P w= .ok (0,0,0) w:=by
   cases cf with
   |none=>
    cases F with
    |none=>rfl
    |some y=>obtain ⟨k,G⟩:=S;have:=h3.hs (r y (by grind [dm])) G;simp_all [jc,mL,asIntOf]
   |some u=>
    obtain ⟨k,hu⟩:=eW;have oS:=h3.hs (r u (by grind [dm])) hu;cases F with
    |none=>simp_all [jc,mL,asIntOf]
    |some y=>obtain ⟨V,G⟩:=S;have:=h3.hs (r y (by grind [dm])) G;simp_all [jc,mL,asIntOf]
  simp[execOp,h,vM,fw D,vL,K,ny,jb fm]
 |len x t e a l c h D B=>
  have A:=r x (by grind [dm,lh]);rw[B] at A;have K:∃I L,C x= .slice I l L:=by
   cases a with
   |none=>exact ⟨_,_,A.nc⟩
   |some a=>
    obtain ⟨q,_,N,s⟩:=A.slice;rcases s with ⟨_,s⟩|⟨_,_,_,_,_,_,s⟩|⟨_,aR,_,s⟩|⟨_,aR,_,s⟩|⟨_,_,_,_,_,_,_,_,_,s⟩
    ·grind
    ·grind
    ·grind
    ·grind
    grind
  obtain ⟨I,L,K⟩:=K;exact ⟨.int .i64 l,by simp[execOp,h,resolve,invoke,builtin,Builtin.len_,fw D,K,goInt],rfl⟩
 |Jj x t e h D B=>have A:=r x (by grind [dm,lh]);rw[B] at A;have K:=A.nc;exact ⟨.int .i64 0,by simp[execOp,h,resolve,invoke,builtin,Builtin.cap_,fw D,K,goInt],rfl⟩
 |A2 neq x y t u e a l c h D B G=>
  have A:=r x (by grind [dm]);rw[B] at A;have M:=r y (by grind [dm]);rw[G] at M;have Z:=M.nc;have K:∃I L,C x= .slice (J I) l L:=by
   obtain ⟨q,_,N,s⟩:=A.slice;rcases s with ⟨_,s⟩|⟨_,_,_,_,_,_,s⟩|⟨_,aR,_,s⟩|⟨_,aR,_,s⟩|⟨_,_,_,_,_,_,_,_,_,s⟩
   ·grind
   ·grind
   ·grind
   ·grind
   grind
  obtain ⟨I,L,K⟩:=K;refine ⟨.bool neq, ?_,rfl⟩
  grind [aqR]
 |func fn first R h bF=>
  refine ⟨.func fn (first.map C) (R.map C),by simp[execOp,h,Instr.makeFunc],⟨_,_,rfl, ?_, ?_⟩⟩
  ·simp only[ye];exact bP.map _ _ _ λx B=>de.storable (r x (by grind [dm])) (bF x (by grind))
  ·simp only[ye];exact bP.map _ _ _ λx B=>de.storable (r x (by grind [dm])) (bF x (by grind))
end Go.aF
end
section
namespace Go.aF
structure uq (P:bI) (j:cj) (m:Mem) (w:World):Prop where
 load:∀b e o v,j b=J e->m.load b o=J v->∃bz,w.cell? ⟨e.blk,e.db+o,ae⟩=J bz/\eA j v bz
 own:∀b e L t,j b=J e->m.blk b= .own L t->P.cellsOf t=e.es/\L.length<=e.cap*e.es
 map:∀b e L u,j b=J e->m.blk b= .map L u->qI P j e w.heap[e.blk]? (.map L u)
 mE:rE P w
def Rel.load {P:bI} {j:cj} {m:Mem} {w:World} (h:Rel P j m w) (b:Nat) (e:kl) (o:Nat) (v:af) (g:j b=J e) (a:m.load b o=J v):∃d,w.cell? ⟨e.blk,e.db+o,ae⟩=J d/\eA j v d:=by
 unfold Mem.load at a;have f:=h.obj b e g;cases c:m.blk b with
 |dead=>grind
 |map L u=>grind
 |lock _ _ _ _=>grind
 |ro s=>
  simp only[c] at a f;obtain ⟨l,t,bZ,d,n,k,i⟩:=f o v a
  grind [rG]
 |own L t=>
  simp only[c] at a;obtain ⟨l,bZ,r,p,n,k,i,q⟩:=h.own b e L t g c
  grind [rG]
def Rel.ot {P:bI} {j:cj} {m:Mem} {w:World} (h:Rel P j m w):uq P j m w:=
 ⟨h.load,λb e L t a c=>by
  obtain ⟨k,bZ,n,g,l,f,d,i⟩:=h.own b e L t a c
  grind,λb e L u a c=>by have:=h.obj b e a;grind,h.mE.val⟩
def BL {P:bI} {j:cj} {m:Mem} {w:World} (h:uq P j m w) {b:Nat} {e:kl} (g:j b=J e):∀(n o:Nat) (d:List af),kd m b o n=J d->
  ∃c:List af,bP (eA j) d c/\c.length=n/\∀(i:Nat) (u:af),c[i]? =J u->w.cell? ⟨e.blk,e.db+o+i,ae⟩=J u
 |0,o,d,a=>by simp only[kd,kB.injEq] at a;subst a;exact ⟨[],fs,rfl,λi u s=>by grind⟩
 |n+1,o,d,a=>by
  simp only[kd] at a;cases k:m.load b o with
  |none=>grind
  |some v=>
   cases f:kd m b (o+1) n with
   |none=>grind
   |some l=>
    simp only[k,f,kB.injEq] at a;subst a;obtain ⟨r,t,p⟩:=h.load b e o v g k;obtain ⟨c,q,x,y⟩:=BL h g n (o+1) l f;refine ⟨r::c,⟨p,q⟩,by grind,λi u s=> ?_⟩
    grind
theorem BM {P:bI} {w:World} {c o n:Nat} {a:List af} (b:a.length=n) (d:∀(i:Nat) (u:af),a[i]? =J u->w.cell? ⟨c,o+i,ae⟩=J u):(loadCells ⟨c,o,ae⟩ n).run P w= .ok a.toArray w:=by
 grind [run_loadCells_list,o4]
theorem acm {P:bI} {w:World} {a:Addr}:(loadCells a 0).run P w= .ok #[] w:=rfl
def ab5 {P:bI} (w:World):∀(a:List UInt8) (s:ByteArray) (f:af->ByteArray->Sem (ForInStep ByteArray)),
  (∀u s,f (.int .u8 (u:UInt8).toNat) s=pure (.yield (s.push u)))->
  (forIn (a.map λu=>mu .u8 (u.toNat:Int)) s f).run P w= .ok (⟨s.data++a.toArray⟩:ByteArray) w
 |[],s,f,b=>by rfl
 |u::a,s,f,b=>by simp only[rA,List.forIn_cons,b,pure_bind,ab5 w a (s.push u) f b];simp_all
def zD {P:bI} {w:World} {r:Nat} {b:Array MapEntry} {a:Nat} (c:w.heap[r]? =J (.map b a)):(getObj r).run P w= .ok (.map b a) w:=by
 grind [getObj,Sem.run]
def aee {P:bI} {w:World} {r:Nat} {b:Array MapEntry} {a:Nat} (o:Obj) (c:w.heap[r]? =J (.map b a)):(setObj r o).run P w= .ok () {w with heap:=w.heap.setIfInBounds r o}:=by
 grind [setObj,Sem.run]
theorem qG.Yb {ks vs:Nat} (hk:0<ks):∀{L:List af} {E E':List (List af×List af)},qG ks vs L E->qG ks vs L E'->E=E'
 |L,[],[],_,_=>rfl
 |L,[],p::E',h,dG=>by have h1:=h.eq;rw[dG.eq] at h1;have:=(dG.len p (by simp)).1;simp_all
 |L,p::E,[],h,dG=>by have h1:=dG.eq;rw[h.eq] at h1;have:=(h.len p (by simp)).1;simp_all
 |L,p::E,q::E',h,dG=>by have h1:=h.eq;rw[dG.eq] at h1;simp only[List.flatMap_cons,List.append_assoc] at h1;obtain ⟨bX,h1⟩:=List.append_inj h1 (by rw[(h.len p (by simp)).1,(dG.len q (by simp)).1]);obtain ⟨e2,h1⟩:=List.append_inj h1 (by rw[(h.len p (by simp)).2,(dG.len q (by simp)).2]);have a1:=qG.Yb hk (L:=E.flatMap λp=>p.1++p.2) (E:=E) (E':=E') ⟨rfl,λr aV=>h.len r (by simp[aV])⟩ ⟨h1.symm,λr aV=>dG.len r (by simp[aV])⟩;rw[a1];congr 1;exact (Prod.ext bX e2).symm
def uh.find {P:bI} {j:cj} {g f:bV} {d z v:af} {t:Bool} {E:List (List af×List af)} (h:uh (ek P g) (ek P f) d z E v t):∀{a:List MapEntry} (i:Nat),bP (ub P j g f) E a->
  (t=aa/\∃n bz,o6 d a i=J (n,bz)/\fC j v bz)\/(t=ak/\v=z/\o6 d a i=ae):=by
 induction h with
 |qZ=>
  intro a i c;cases a with
  |nil=>exact .inr ⟨rfl,rfl,rfl⟩
  |cons _ _=>exact c.elim
 |rS p E h=>
  intro a i c;cases a with
  |nil=>exact c.elim
  |cons x a=>obtain ⟨⟨l,k,e⟩,_⟩:=c;exact .inl ⟨rfl,i,x.val,by grind [o6],e⟩
 |next p E v b h c m=>
  intro a i c;cases a with
  |nil=>exact c.elim
  |cons x a=>
   obtain ⟨⟨l,k,e⟩,c⟩:=c
   grind [o6]
def Wl {P:bI} {j:cj} {c f:bV} {d:af->Prop}:∀{E:List (List af×List af)} {b:List MapEntry},bP (ub P j c f) E b->(∀p∈E,d (ey (ek P c) p.1))->∀x∈b,d x.key
 |[],[],_,_,x,a=>by grind
 |p::E,y::b,⟨i,e⟩,g,x,a=>by
  rcases ha.1 a with rfl|a
  ·rw[i.1];grind
  ·exact Wl e (λq k=>g q (by grind)) x a
 |[],_::_,h,_,_,_=>h.elim
 |_::_,[],h,_,_,_=>h.elim
def ack {P:bI} {j:cj} {ap F:bS->af} {o:Oper} {m:Mem} {v:af} (h:fH P ap o m v) (M:h3 j ap F o) {w:World} (Y:uq P j m w):∃X,(execOp F o).run P w= .ok (.value X) w/\de j v X:=by
 cases h with
 |load t x b f d v h D O bg aD=>have B:=M x (by grind [dm]);rw[D] at B;obtain ⟨q,_,H,A⟩:=B.ptr;obtain ⟨X,fZ,aV⟩:=Y.load b q f v H aD;simp_all [execOp,Instr.loadAt,yj,loadVar,sb,de.qh]
 |wc t x g n s h D bB O bs=>
  have B:=M x (by grind [dm]);rw[D] at B;have cF:n<4096:=hS (fq.1 bB).1 (by simp[p2]);have A:F x= .pointer (J ⟨g,n,ae⟩):=by have B:F x= .pointer (J ⟨(g*4096+n) / 4096,(g*4096+n)%4096,ae⟩):=B;rw[B,show (g*4096+n) / 4096=g by omega,show (g*4096+n)%4096=n by omega]
  exact ⟨_,by simp[execOp,h,Instr.loadAt,A,yj,loadVar,sb O,lI,Y.mE.P8 g bs n s bB],rfl⟩
 |wI t x b f d i U h D O bg Q aD=>have B:=M x (by grind [dm]);rw[D] at B;obtain ⟨q,_,H,A⟩:=B.ptr;obtain ⟨ds,aR,bB,mU⟩:=BL Y H _ _ _ aD;exact ⟨.agg ds.toArray,by simp[execOp,h,Instr.loadAt,A,yj,loadVar,sb O,bg,jb Q,BM bB mU],⟨_,rfl,by grind⟩⟩
 |slice t x cf Q e i L b f l n S h O fm D hm eW Z T ai aT=>
  have B:=M x (by grind [dm]);rw[D] at B;obtain ⟨q,_,H,A⟩:=B.vw (e4 _);obtain ⟨rR,_⟩:=Y.own b q L e H hm;have cN:i.size=q.es:=by grind [nY]
  have key:∀(o' C:Nat),F x= .slice (J ⟨q.blk,o',ae⟩) l C->l<=C->
    (execOp F o).run P w= .ok (.value (.slice (J ⟨q.blk,if C=n then o' else o'+n*i.size,ae⟩) (S - n) (C - n))) w:=by
   intro o' C R N;have ny:(jc aa l C (cf.map F) (Q.map F) ae).run P w= .ok (n,S,C) w:=by
    cases cf with
    |none=>
     simp only[qo] at eW;subst eW;cases Q with
     |none=>simp_all [nJ,jc]
     |some y=>obtain ⟨k,W⟩:=Z;have:=h3.hs (M y (by grind [dm])) W;simp[jc,this,mL,asIntOf,show S<=C by omega]
    |some u=>
     obtain ⟨k,hu⟩:=eW;have oS:=h3.hs (M u (by grind [dm])) hu;cases Q with
     |none=>simp only[nJ] at Z;simp_all [jc,mL,asIntOf]
     |some y=>obtain ⟨k',W⟩:=Z;have:=h3.hs (M y (by grind [dm])) W;simp[jc,this,oS,mL,asIntOf,T,show S<=C by omega]
   simp only[execOp,h,vM,kD,fw O,jE,IW,vL,R,ny,jb fm,nt]
   grind [o4]
  rcases A with ⟨cF,_⟩|⟨_,hh,N,kJ,p8,G,A⟩|⟨_,hV,o',A⟩|⟨rQ,_⟩
  rotate_left 3
  ·grind [dc]
  ·grind
  ·have N:l<=q.cap - f / q.es:=N;have p8:f%q.es=0:=p8;have G:f / q.es<=q.cap:=G;refine ⟨_,key _ _ A N,⟨q,rfl,H, ?_⟩⟩;by_cases bx:q.cap - f / q.es=n
   ·have:S - n=0:=by omega
    grind
   grind [TH,Nat.add_mul_mod_self_right]
  grind
 |vx t x cf Q e i L b f l c k n S h O fm D hk hm eW Z T ai aT=>
  have B:=M x (by grind [dm]);rw[D] at B;obtain ⟨q,_,H,A⟩:=B.slice;have H:j b=J q:=H;obtain ⟨rR,_⟩:=Y.own b q L e H hm;have cN:i.size=q.es:=by grind [nY]
  have hex:∃C,F x= .slice (J ⟨q.blk,q.db+f,ae⟩) l C/\l<=C/\k<=C/\0<q.es/\C=q.cap - f / q.es/\q.cap<dc/\f%q.es=0/\f / q.es<=q.cap:=by
   rcases A with ⟨cF,_⟩|⟨gN,hh,N,kJ,p8,G,A⟩|⟨gN,hV,_⟩|⟨rQ,_⟩|⟨k',lL,nB,s8,axX,kJ,cF,p8,G,A⟩
   ·grind
   ·grind
   ·grind
   ·grind
   grind
  obtain ⟨C,R,N,yP,hh,fZ,kJ,p8,G⟩:=hex;have ny:(jc aa l C (cf.map F) (Q.map F) ae).run P w= .ok (n,S,C) w:=by
   cases cf with
   |none=>
    simp only[qo] at eW;subst eW;cases Q with
    |none=>simp_all [nJ,jc]
    |some y=>obtain ⟨k,W⟩:=Z;have:=h3.hs (M y (by grind [dm])) W;simp[jc,this,mL,asIntOf,show S<=C by omega]
   |some u=>
    obtain ⟨k,hu⟩:=eW;have oS:=h3.hs (M u (by grind [dm])) hu;cases Q with
    |none=>simp only[nJ] at Z;simp_all [jc,mL,asIntOf]
    |some y=>obtain ⟨k',W⟩:=Z;have:=h3.hs (M y (by grind [dm])) W;simp[jc,this,oS,mL,asIntOf,T,show S<=C by omega]
  have kv:(execOp F o).run P w= .ok (.value (.slice (J ⟨q.blk,q.db+f+n*i.size,ae⟩) (S - n) (C - n))) w:=by
   simp only[execOp,h,vM,kD,fw O,jE,IW,vL,R,ny,jb fm,nt]
   grind [o4]
  refine ⟨_,kv,⟨q,rfl,H, .inr (.inr (.inr (.inr ⟨k - n,rfl,by omega,by omega,hh, ?_,kJ, ?_, ?_, ?_⟩)))⟩⟩
  ·grind [TH]
  ·simp_all
  ·grind [TH]
  grind [TH]
 |str s t x e b f l c U h bf he O D aD=>
  have B:=M x (by grind [dm]);rw[D] at B;obtain ⟨q,_,H,A⟩:=B.slice;obtain ⟨ds,aR,bB,mU⟩:=BL Y H _ _ _ aD;have oP:ds=U.map λu=> .int .u8 u.toNat:=bP.Js (p:=dy) (λa b=>B0 (j:=j)) (by simp[dy]) aR;subst oP;refine ⟨.string ⟨U.toArray⟩, ?_,rfl⟩;have key:∀(a':Addr) (C:Nat),F x= .slice (J a') l C->(a'=⟨q.blk,q.db+f,ae⟩\/l=0)->(execOp F o).run P w= .ok (.value (.string ⟨U.toArray⟩)) w:=by
   intro a' C R aM;have s7:(loadCells a' l).run P w= .ok ((U.map λu=>mu .u8 (u.toNat:Int)).toArray) w:=by
    grind [BM,acm]
   have aw:(YB (.slice (J a') l C)).run P w= .ok (.string ⟨U.toArray⟩) w:=by simp only[YB,kD,s7,jE,List.forIn_toArray];rw[ab5 (P:=P) w U ByteArray.empty _ (λu s=>by simp_all)];simp_all
   simp[execOp,h,convert,fw bf,fw O,R,fw he,aw]
  rcases A with ⟨_,A⟩|⟨_,_,_,_,_,_,A⟩|⟨_,hV,o',A⟩|⟨_,hV,a',A⟩|⟨_,_,_,_,_,_,_,_,_,A⟩
  ·grind
  ·grind
  ·grind
  ·grind
  grind
 |zQ s t x e l c h bf he O D=>have B:=M x (by grind [dm]);rw[D] at B;have R:=B.nc;refine ⟨.string .empty, ?_,rfl⟩;simp[execOp,h,convert,fw bf,fw O,R,fw he,YB]
 |lookup hZ x dx ok u bG bA b L E i z v0 t ho h jk hu D nC tf K bF hk bs Q bx dw aR=>
  have B:=M x (by grind [dm]);have R:=W3 bF (M dx (by grind [dm]));have core:∃(es:Array MapEntry),bP (ub P j bG bA) E es.toList/\((∃r I,F x= .map (J r)/\w.heap[r]? =J (.map es I))\/(F x= .map ae/\es=#[])):=by
   rcases D with ⟨D,hm,bp⟩|⟨D,rfl⟩
   ·rw[D] at B;obtain ⟨q,H,A⟩:∃q,j b=J q/\F x= .map (J q.blk):=B;obtain ⟨lv,lA,U,I,E',g1,g2,g3,g4,_⟩:=Y.map b q L u H hm
    grind [qG.Yb]
   ·rw[D] at B;exact ⟨#[],fs, .inr ⟨B,rfl⟩⟩
  obtain ⟨es,g4,A⟩:=core;have V:=K.find (ap dx) es.toList w hk (Wl g4 bs);have my:=K.check es.isEmpty (ap dx) w hk;have aaG:=aR.find 0 g4;rcases A with ⟨r,I,A,g1⟩|⟨A,rfl⟩
  ·rcases aaG with ⟨rfl,n,X,T,ai⟩|⟨rfl,rfl,T⟩
   ·rw[T] at V;cases ok with
    |false=>exact ⟨X,by simp[execOp,h,Av,fw jk,A,zD g1,R,my,V],de.wN ai⟩
    |true=>exact ⟨.tuple #[X, .bool aa],by simp[execOp,h,Av,fw jk,A,zD g1,R,my,V],⟨_,rfl,ai,fC.qh rfl,fs⟩⟩
   ·rw[T] at V;cases ok with
    |false=>exact ⟨v0,by simp[execOp,h,Av,fw jk,A,zD g1,R,my,V,og Q bx],de.wN (zf dw)⟩
    |true=>exact ⟨.tuple #[v0, .bool ak],by simp[execOp,h,Av,fw jk,A,zD g1,R,my,V,og Q bx],⟨_,rfl,zf dw,fC.qh rfl,fs⟩⟩
  ·rcases aaG with ⟨rfl,n,X,T,ai⟩|⟨rfl,rfl,T⟩
   ·grind [o6]
   ·rw[T] at V;simp only[List.isEmpty_toArray,List.isEmpty_nil] at my V;have my:=K.check aa (ap dx) w hk;cases ok with
    |false=>simp_all [execOp,Av,fw,og,de.wN,zf]
    |true=>exact ⟨.tuple #[v0, .bool ak],by simp_all [execOp,Av,fw,og],⟨_,rfl,zf dw,fC.qh rfl,fs⟩⟩
end Go.aF
end
section
namespace Go.aF
def cj.up (j:cj) (n:Nat) (e:kl):cj:=λb=>if b=n then J e else j b
def Rel.abF {P:bI} {j:cj} {m:Mem} {w:World} (h:Rel P j m w):j m.next=ae:=by
 cases a:j m.next with
 |none=>rfl
 |some e=>exact absurd (h.lt _ _ a).1 (Nat.lt_irrefl _)
def cj.P9 {j:cj} {n:Nat} {e:kl} (a:j n=ae):∀b x,j b=J x->j.up n e b=J x:=by
 grind [cj.up]
def Rel.push {P:bI} {j:cj} {m:Mem} {w w':World} (h:Rel P j m w) {X:bW} {e:kl} {ob:Obj}
  (K:w'.heap=w.heap.push ob) (r:w'.os=w.os) (q:w'.tape=w.tape) (F:w'.output=w.output) (C:e.blk=w.heap.size)
  (A:qI P j e (J ob) X):Post P j m w (j.up m.next e) (m.push X) w':=by
 have z:=h.abF;have l:=cj.P9 (e:=e) z;have g:∀c,c<w.heap.size->w'.heap[c]? =w.heap[c]? :=λc u=>by grind
 have H:w'.heap.size=w.heap.size+1:=by grind
 have D:w'.heap[w.heap.size]? =J ob:=by grind
 have a:∀b,b≠m.next->(m.push X).blk b=m.blk b:=λb f=>by grind [Mem.push]
 have G:(m.push X).blk m.next=X:=by simp[Mem.push]
 have k:∀b x,j.up m.next e b=J x->b≠m.next->j b=J x:=λb x f I=>by grind [cj.up]
 refine Post.of h ⟨?_, ?_, ?_⟩ ⟨r,q,F,by omega,λc u _=>g c u⟩ (by simp[Mem.push]) ?_ ?_ ?_ (λb f s=>by grind)
 ·intro b x f;by_cases d:b=m.next
  ·subst d;have:x=e:=by grind [cj.up]
   subst this;exact ⟨by simp[Mem.push],by omega⟩
  ·have:=h.lt b x (k b x f d)
   grind [Mem.push]
 ·intro b x f;by_cases d:b=m.next
  ·subst d;have:x=e:=by grind [cj.up]
   subst this;rw[G,C,D];exact A.mono l
  ·have o:=k b x f d;rw[a b d,g _ (h.lt b x o).2];exact (h.obj b x o).mono l
 ·intro b i x n f v t s E;by_cases d:b=m.next
  ·by_cases p:i=m.next
   ·grind
   ·have y:x=e:=by grind [cj.up]
    have:=(h.lt i n (k i n v p)).2
    grind
  ·have o:=k b x f d;by_cases p:i=m.next
   ·have y:n=e:=by grind [cj.up]
    have:=(h.lt b x o).2
    grind
   ·rw[a b d] at t;rw[a i p] at s;exact h.inj b i x n o (k i n v p) t s E
 ·grind [cj.up]
 ·intro b x f B;by_cases d:b=m.next
  ·grind [cj.up]
  ·exact absurd (h.lt b x (k b x f d)).1 (vP.2 B)
 grind
def Rel.kill {P:bI} {j:cj} {m:Mem} {w:World} (h:Rel P j m w) (b:Nat):Post P j m w j (m.put b .dead) w:=by
 have a:∀c x,(m.put b .dead).blk c=x->(x≠ .dead)->m.blk c=x:=by
  grind [Mem.put]
 refine Post.of h ⟨h.lt, ?_, ?_⟩ (sC.refl j m w) (e4 _) (λ_ _=>rfl) ?_ ?_ (λc f n=>by
  have l:m.blk c=(m.put b .dead).blk c:=by refine a c _ rfl ?_;intro d;rw[d] at n;cases n
  grind)
 ·intro c x f;by_cases d:(m.put b .dead).blk c= .dead
  ·rw[d];trivial
  ·rw[<-a _ _ rfl d];exact h.obj c x f
 ·intro c i x p f r g k q;have l:m.blk c=(m.put b .dead).blk c:=by
   refine a c _ rfl ?_;intro d;rw[d] at g;cases g
  have s:m.blk i=(m.put b .dead).blk i:=by refine a i _ rfl ?_;intro d;rw[d] at k;cases k
  exact h.inj c i x p f r (by grind) (by grind) q
 ·intro c e f o;exact absurd (h.lt c e f).1 (vP.2 o)
 ·intro c f g;have l:m.blk c=(m.put b .dead).blk c:=by
   refine a c _ rfl ?_;intro d;rw[d] at g;cases g
  grind
def lz (w:World) (c:Nat) (a:Array af) (t:bV) (bZ:Nat×Nat):World:={w with heap:=w.heap.setIfInBounds c (.cells a t bZ)}
theorem Wo {w:World} {c:Nat} {a:Array af} {t:bV} {bZ:Nat×Nat} {x:Nat} (b:x≠c):(lz w c a t bZ).heap[x]? =w.heap[x]? :=by
 grind [lz]
theorem Wg {w:World} {c:Nat} {a:Array af} {t:bV} {bZ:Nat×Nat} (b:c<w.heap.size):(lz w c a t bZ).heap[c]? =J (.cells a t bZ):=by
 grind [lz]
def sn (w:World) (c:Nat) (o:Obj):World:={w with heap:=w.heap.setIfInBounds c o}
theorem adu {w:World} {c:Nat} {o:Obj} {x:Nat} (a:x≠c):(sn w c o).heap[x]? =w.heap[x]? :=by
 grind [sn]
theorem aq8 {w:World} {c:Nat} {o:Obj} (a:c<w.heap.size):(sn w c o).heap[c]? =J o:=by
 grind [sn]
def Rel.pF {P:bI} {j:cj} {m:Mem} {w:World} (h:Rel P j m w) {b:Nat} {e:kl} {X:bW} {ob:Obj} (i:j b=J e) (l:(m.blk b).iO=aa) (C:qI P j e (J ob) X) (o:X.iO=aa):
  Post P j m w j (m.put b X) (sn w e.blk ob):=by
 have D:=(h.lt b e i).2;have E:(m.blk b).live=aa:=by grind [bW.iO,bW.live]
 have r:∀c x,j c=J x->(m.blk c).live=aa->c≠b->x.blk≠e.blk:=λc x a f g y=>g (h.inj b c e x i a l f y.symm).symm;have d:∀c,c≠b->(m.put b X).blk c=m.blk c:=λc a=>by grind [Mem.put]
 have F:(m.put b X).blk b=X:=by simp[Mem.put]
 have A:(sn w e.blk ob).heap.size=w.heap.size:=by simp[sn]
 refine Post.of h ⟨?_, ?_, ?_⟩ ⟨rfl,rfl,rfl,by grind, ?_⟩ (e4 _) (λ_ _=>rfl) ?_ ?_ (λc a t=>by
  grind)
 ·intro c x a;have:=h.lt c x a;exact ⟨this.1,by grind⟩
 ·intro c x a;by_cases g:c=b
  ·grind [aq8]
  ·rw[d c g];cases f:(m.blk c).live with
   |false=>
    cases n:m.blk c<;>simp[n,bW.live] at f
    trivial
   |true=>rw[adu (r c x a f g)];exact h.obj c x a
 ·intro c k x u a z B t v;have p:(m.blk c).iO=aa:=by
   grind
  have q:(m.blk k).live=aa:=by
   grind
  exact h.inj c k x u a z p q v
 ·grind [adu]
 ·intro c x a s;exact absurd (h.lt c x a).1 (vP.2 s)
 grind
def Rel.write {P:bI} {j:cj} {m:Mem} {w:World} (h:Rel P j m w) {b:Nat} {e:kl} {L L':List af} {t:bV} {a cs':Array af} {bZ:Nat×Nat} (d:j b=J e) (c:m.blk b= .own L t)
  (z:w.heap[e.blk]? =J (.cells a t bZ)) (q:cs'.size=a.size) (l:L'.length<=e.cap*e.es) (k:∀(i:Nat) (v:af),L'[i]? =J v->∃f,cs'[e.db+i]? =J f/\eA j v f):
  Post P j m w j (m.put b (.own L' t)) (lz w e.blk cs' t bZ):=by
 obtain ⟨p,g,r,s,n,u,x,y⟩:=h.own b e L t d c;have o:p=a/\g=bZ:=by grind
 obtain ⟨rfl,rfl⟩:=o;exact h.pF d (by rw[c];rfl) ⟨cs',g,rfl,by grind,n,by grind,l,k⟩ rfl
def Rel.reuse {P:bI} {j:cj} {m:Mem} {w:World} (h:Rel P j m w) {b:Nat} {e e2:kl} {L L':List af} {t:bV} {z cs':Array af} {bZ:Nat×Nat} (u:j b=J e) (s:m.blk b= .own L t)
  (hw:w.heap[e.blk]? =J (.cells z t bZ)) (bf:cs'.size=z.size) (C:e2.blk=e.blk) (uS:e2.es=e.es) (T:e2.db+e2.cap*e2.es<=z.size) (B:L'.length<=e2.cap*e2.es) (Q:∀(i:Nat) (v:af),L'[i]? =J v->∃y,cs'[e2.db+i]? =J y/\eA j v y):
  Post P j m w (j.up m.next e2) ((m.put b .dead).push (.own L' t)) (lz w e.blk cs' t bZ):=by
 have W:=(h.lt b e u).2;have V:=h.abF;have p:=cj.P9 (e:=e2) V;have O:(m.blk b).iO=aa:=by rw[s];rfl
 have H:∀c x,j c=J x->(m.blk c).live=aa->c≠b->x.blk≠e.blk:=λc x a B g u1=>g (h.inj b c e x u a O B u1.symm).symm;have jh:b<m.next:=(h.lt b e u).1;have S:(m.put b .dead).next=m.next:=rfl;have d:∀c,c≠b->c≠m.next->((m.put b .dead).push (.own L' t)).blk c=m.blk c:=λc a M=>by simp_all [Mem.put,Mem.push]
 have A:((m.put b .dead).push (.own L' t)).blk b= .dead:=by simp[Mem.put,Mem.push,show b≠m.next by omega]
 have E:((m.put b .dead).push (.own L' t)).blk m.next= .own L' t:=by simp[Mem.put,Mem.push]
 have o:∀b x,j.up m.next e2 b=J x->b≠m.next->j b=J x:=λb x s H=>by grind [cj.up]
 obtain ⟨rJ,G,g1,g2,g3,g4,g5,g6⟩:=h.own b e L t u s;have jI:rJ=z/\G=bZ:=by grind
 obtain ⟨rfl,rfl⟩:=jI;have VA:(lz w e.blk cs' t G).heap.size=w.heap.size:=by simp[lz]
 refine Post.of h ⟨?_, ?_, ?_⟩ ⟨rfl,rfl,rfl,by grind, ?_⟩ (by grind [Mem.push]) ?_ ?_ ?_ (λc a n=>by
  by_cases g:c=b
  ·subst g;rw[s];rfl
  grind)
 ·intro c x a;by_cases f:c=m.next
  ·grind [cj.up,Mem.push]
  ·have:=h.lt c x (o c x a f)
   grind [Mem.push]
 ·intro c x a;by_cases f:c=m.next
  ·subst f;have R:x=e2:=by grind [cj.up]
   subst R;rw[E,C,Wg W];refine ⟨cs',G,rfl,by grind,by grind,by grind,B,λi v U=> ?_⟩;obtain ⟨y,Y,X⟩:=Q i v U;exact ⟨y,Y,X.mono p⟩
  ·by_cases g:c=b
   ·subst g;rw[A];trivial
   ·have q:=o c x a f;rw[d c g f];cases K:(m.blk c).live with
    |false=>
     cases N:m.blk c<;>simp[N,bW.live] at K
     trivial
    |true=>rw[Wo (H c x q K g)];exact (h.obj c x q).mono p
 ·intro c l x I a M r n qV;have g:c≠b:=by intro F;subst F;rw[A] at r;cases r
  have D:l≠b:=by intro F;subst F;rw[A] at n;cases n
  by_cases f:c=m.next
  ·grind [cj.up]
  ·rw[d c g f] at r;have q:=o c x a f;by_cases k:l=m.next
   ·grind [cj.up,bW.iO,bW.live]
   ·rw[d l D k] at n;exact h.inj c l x I q (o l I M k) r n qV
 ·grind [Wo]
 ·grind [cj.up]
 ·intro c x a Z;by_cases f:c=m.next
  ·grind [cj.up]
  ·exact absurd (h.lt c x (o c x a f)).1 (vP.2 Z)
 grind
end Go.aF
end
section
namespace Go.aF
structure AF (P:bI) (j:cj) (w w':World) (X:bW) (e:kl) (ob:Obj):Prop where
 heap:w'.heap=w.heap.push ob
 os:w'.os=w.os
 tape:w'.tape=w.tape
 output:w'.output=w.output
 blk:e.blk=w.heap.size
 obj:qI P j e (J ob) X
 own:X.iO=aa
def AF.cells {P:bI} {j:cj} {w b:World} {L:List af} {t:bV} {e:kl} {a:Array af} {bZ:Nat×Nat} (l:b.heap=w.heap.push (.cells a t bZ)) (f:b.os=w.os) (d:b.tape=w.tape) (g:b.output=w.output) (h:e.blk=w.heap.size)
  (k:∀i:Nat,i<a.size->¬(bZ.1<=i/\i<bZ.2)) (m:P.cellsOf t=e.es) (o:a.size=e.cap*e.es) (p:L.length<=a.size) (q:∀(i:Nat) (v:af),L[i]? =J v->∃c,a[i]? =J c/\eA j v c) (r:e.db=0:=by rfl):AF P j w b (.own L t) e (.cells a t bZ):=
 ⟨l,f,d,g,h,⟨a,bZ,rfl,k,m,by grind,by grind,λi v n=>by grind⟩,rfl⟩
def bP.Yc {R:af->af->Prop} {L:List af} {a:Array af} (h:bP R L a.toList):L.length=a.size/\∀(i:Nat) (v:af),L[i]? =J v->∃c,a[i]? =J c/\R v c:=
 ⟨by simpa using h.length,λi v d=>by obtain ⟨b,f,e⟩:=h.get i v d;grind⟩
def CL {n:Nat}:∀i:Nat,i<n->¬(((0,0):Nat×Nat).1<=i/\i<((0,0):Nat×Nat).2):=λi _ h=>absurd h.2 (Nat.not_lt_zero i)
theorem wW {P:bI} {t:bV} {i:TypeInfo} (h:P.info? t=J i):P.cellsOf t=i.size:=by grind [nY]
def Xr:tW 0=#[]:=by rfl
theorem KU (z:Array af) (l:Nat):((tW (l*z.size)).map (λk=>z[k%z.size]!)).toList=(gb l z.toList).flatten:=by
 induction l with
 |zero=>simp
 |succ l a=>
  have e:tW ((l+1)*z.size)=tW (l*z.size)++((tW z.size).map (l*z.size+·)):=by rw[ko,Nat.one_mul,Array.range_add]
  rw[e,Array.map_append,Yu,a,List.replicate_succ',List.flatten_append];congr 1;simp only[List.flatten_cons,List.flatten_nil,List.append_nil,Array.map_map];apply rv;intro i;simp only[ye,sH,Array.toList_range,List.getElem?_range];by_cases b:i<z.size
  ·simp_all [Nat.mod_eq_of_lt]
  grind
theorem KL {j:cj} {L:List af} (h:L.all dy=aa):bP (eA j) L L:=bP.self (λ_=>q4) h
theorem zl {z:List af} (h:z.all dy=aa) (l:Nat):(gb l z).flatten.all dy=aa:=by
 grind
def ad9 {P:bI} {j:cj} {I B:bS->af} {o:Oper} {n:Nat} {X:bW} {v:af} (h:jC P I o n X v) (G:h3 j I B o) (w:World):
  ∃Z w' e ob,(execOp B o).run P w= .ok (.value Z) w'/\AF P j w w' X e ob/\∀A:cj,A n=J e->de A v Z:=by
 cases h with
 |alloc t i z h g Y M U=>
  have E:=(KL (j:=j) M).Yc;refine ⟨.pointer (J ⟨w.heap.size,0,ae⟩),w.alloc (.cells z.cells t),⟨w.heap.size,1,i.size,0⟩,_, ?_,
   .cells rfl rfl rfl rfl rfl CL (wW g) (by grind) (by simp) E.2,λA m=>⟨_,rfl,m,rfl⟩⟩
  simp_all [execOp,Instr.alloc,og,newVar,newRow]
 |box t x i h g aD U=>
  have D:=de.storable (G x (by grind [dm])) aD;have E:=D.cells.Yc;refine ⟨.pointer (J ⟨w.heap.size,0,ae⟩),w.alloc (.cells (B x).cells t),⟨w.heap.size,1,i.size,0⟩,_, ?_,
   .cells rfl rfl rfl rfl rfl CL (wW g) ?_ ?_ E.2,λA m=>⟨_,rfl,m,rfl⟩⟩
  ·simp[execOp,h,Instr.box,newVar,newRow]
  ·grind
  grind
 |buildSlice t l r e i z F h C g Y M et uO uW K=>
  have N:=h3.VO (j:=j) (ap:=I) (dn:=B) (o:=o) r.toList (λp bb=>G p.2 (by
   grind [dm]))
  have O:bP (eA j) (gb l z.cells.toList).flatten ((tW (l*i.size)).map (λk=>z.cells[k%z.cells.size]!)).toList:=by
   grind [KU,KL]
  obtain ⟨ds,oP,aV⟩:=Kv (j:=j) _ _ _ _ F N O K;have E:=aV.Yc;have hlen:F.length=l*i.size:=by
   have:∀(r:List (Nat×af)) (L F:List af) (pl:Nat->Option (Nat×Nat)),k5 pl L r=J F->F.length=L.length:=by
    intro r;induction r with
    |nil=>grind [k5]
    |cons p r a1=>
     grind [k5,mB]
   rw[this _ _ _ _ K];simp_all
  have T:(r.map λ(i,x)=>(i,B x)).toList=r.toList.map λp=>(p.1,B p.2):=by simp
  refine ⟨.slice (J ⟨w.heap.size,0,ae⟩) l l,w.alloc (.cells ds e),⟨w.heap.size,l,i.size,0⟩,_, ?_,
   .cells rfl rfl rfl rfl rfl CL (wW g) (by grind) (Nat.le_of_eq E.1) E.2,λA m=>⟨_,rfl,m, .inl ⟨uW,rfl⟩⟩⟩
  by_cases S:l*i.size=0
  ·have mU:Instr.fill (λk=>J (k*i.size,i.size)) ((tW 0).map (λk=>(#[]:Array af)[k%0]!)) (r.toList.map λp=>(p.1,B p.2))=J ds:=by
    grind
   simp only[execOp,h,Instr.buildSlice,kD,fw C,jE,jb g];simp only[S];simp[Xr] at mU;simp[mU,T,newRow,Xr]
  ·simp only[execOp,h,Instr.buildSlice,kD,fw C,jE,jb g];simp_all [og,newRow]
 |makeSlice t x y l c k k' e i z h C g Y M et H aZ s7 aw K=>
  have D:=G x (by grind [dm]);rw[H] at D;have eM:=D.int;have ie:=G y (by grind [dm]);rw[aZ] at ie;have lr:=ie.int;have E:=(KL (j:=j) (zl M c)).length;have R:Aw.wrap (l:Int)=(l:Int):=IntWalk.i64_in _ (by omega);have Q:Aw.wrap (c:Int)=(c:Int):=IntWalk.i64_in _ (by omega);have pu:(i.bytes:Int)*(c:Int)<=140737488355328:=by
   grind
  refine ⟨.slice (J ⟨w.heap.size,0,ae⟩) l c,w.alloc (.cells ((tW (c*i.size)).map (λk=>z.cells[k%z.cells.size]!)) e),⟨w.heap.size,c,i.size,0⟩,_, ?_,
   .cells rfl rfl rfl rfl rfl CL (wW g) (by simp) ?_ ?_,λA m=>⟨_,rfl,m, .inl ⟨K,rfl⟩⟩⟩
  ·have uZ:∀q:Int,0<=q->q<=c->(decide (q<0)||decide ((i.bytes:Int)*q>2 ^ 48))=ak:=by
    intro q bR W;have:(i.bytes:Int)*q<=(i.bytes:Int)*c:=Int.mul_le_mul_of_nonneg_left W (by omega)
    grind
   have U:(Instr.makeSlice t (.int k l) (.int k' c)).run P w= .ok (.slice (J ⟨w.heap.size,0,ae⟩) l c) (w.alloc (.cells ((tW (c*i.size)).map (λk=>z.cells[k%z.cells.size]!)) e)):=by
    simp only[Instr.makeSlice,kD,fw C,jE,asInt,asIntOf,nt,vm g,R,Q];rw[uZ c (by omega) (by omega)];have W:¬((l:Int)<0):=by omega
    have N:¬((l:Int)>(c:Int)):=by omega
    simp only[W,N,decide_false,Bool.or_self,Yx,if_false,kD,run_askRoom,jE,Int.toNat_natCast,jb g,nt];simp_all [newRow,Xr,og]
   simp_all [execOp]
  ·simp_all
  grind [KU,zl,q4]
 |bytes s t x e i b h U C he g kL H aw=>
  have D:=G x (by grind [dm]);rw[H] at D;have eM:=D.str
  let f:=(Question.appendCap b.size 0 e).cut (w.tape w.drawn (.appendCap b.size 0 e))
  have kJ:b.size<=f/\f<dc:=by
   have cF:=Nat.mod_lt (w.tape w.drawn (.appendCap b.size 0 e)) (show 0<2 ^ 63 - b.size by omega)
   grind [Question.cut,dc]
  let d:Array af:=b.data.map (λu=> .int .u8 u.toNat)++nj (f - b.size) (.int .u8 0)
  have Bu:d.size=f:=by simp[d];grind
  refine ⟨.slice (J ⟨w.heap.size,0,ae⟩) b.size f,(w.drew.alloc (.cells d e)).freeze {block:=w.heap.size,off:=f} 1,⟨w.heap.size,f,1,0⟩,Obj.cells d e (f,f+1), ?_,
   .cells ?_ ?_ ?_ ?_ rfl ?_ (by grind [wW]) (by grind) ?_ ?_,λA m=>⟨_,rfl,m, .inr (.inl ⟨rfl,Nat.one_pos, ?_,kJ.2, ?_, ?_, ?_⟩)⟩⟩
  ·have ayq:(Conv.stringToBytes e b).run P w= .ok (.slice (J ⟨w.heap.size,0,ae⟩) b.size f) ((w.drew.alloc (.cells d e)).freeze {block:=w.heap.size,off:=f} 1):=by
    simp only[Conv.stringToBytes,kD,run_choose,TK,Yx,if_false,jE,newRow,run_newObj,nt,markStringish,run_shape];have ayr:(w.drew.alloc (.cells d e)).heap[w.heap.size]? =J (.cells d e):=by show (w.heap.push (Obj.cells d e))[w.heap.size]? =_;simp
    have JY:((w.drew.alloc (.cells d e)).shape? w.heap.size)=J (e,d.size):=by grind [World.shape?]
    show (Zg (Sem.run P (match (w.drew.alloc (.cells d e)).shape? w.heap.size with|some (_,n)=>freeze {block:=w.heap.size,off:=n} 1|_=>pure ()) (w.drew.alloc (.cells d e))) _)=_;rw[JY];simp[Bu];rfl
   simp_all [execOp,convert,fw]
  ·grind [World.freeze,World.alloc,World.drew]
  ·rfl
  ·rfl
  ·rfl
  ·grind
  ·grind
  ·intro a v V;refine ⟨v, ?_, ?_⟩
   ·grind
   ·simp only[sH] at V;cases bm:b.data.toList[a]? with
    |none=>grind
    |some u=>simp[bm] at V;subst V;rfl
  ·grind
  ·rfl
  ·simp
  grind
 |makeMap t bG bA h C=>refine ⟨.map (J w.heap.size),w.alloc (.map #[] 0),⟨w.heap.size,0,0,0⟩,_, ?_,⟨rfl,rfl,rfl,rfl,rfl,⟨bG,bA,#[],0,[],rfl,C,⟨rfl,λp bb=>by grind⟩,fs,⟨by simp,λx H=>by grind⟩⟩,rfl⟩,λA m=>⟨_,m,rfl⟩⟩;simp[execOp,h,Instr.makeMap]
def arc {P:bI} {j:cj} {d g:bS->af} {o:Oper} {m:Mem} {w:World} {X:bW} {v:af} (h:jC P d o m.next X v) (n:h3 j d g o) (l:Rel P j m w):
  ∃b c f,(execOp g o).run P w= .ok (.value b) c/\Post P j m w f (m.push X) c/\de f v b:=by
 obtain ⟨b,c,e,ob,k,a,i⟩:=ad9 h n w;exact ⟨b,c,j.up m.next e,k,l.push a.heap a.os a.tape a.output a.blk a.obj,i _ (by simp[cj.up])⟩
end Go.aF
end
section
namespace Go.aF
theorem Kt {w:World} {c:Nat} {a:Array af} {t:bV} {bZ:Nat×Nat} (h:w.heap[c]? =J (.cells a t bZ)):lz w c a t bZ=w:=by
 have:w.heap.setIfInBounds c (.cells a t bZ)=w.heap:=by
  grind
 simp_all [lz]
theorem aqg {w:World} {c:Nat} {b a:Array af} {t:bV} {bZ:Nat×Nat}:lz (lz w c b t bZ) c a t bZ=lz w c a t bZ:=by
 simp[lz]
theorem aqa {w:World} {c o:Nat} {a:Array af} {t:bV} {bZ:Nat×Nat} {v:af} (h:w.heap[c]? =J (.cells a t bZ)):w.setCell ⟨c,o,ae⟩ v=lz w c (a.setIfInBounds o v) t bZ:=by
 have:(w.setCell ⟨c,o,ae⟩ v).heap=(lz w c (a.setIfInBounds o v) t bZ).heap:=by
  grind [World.setCell,lz]
 grind [World.setCell,lz]
def wX {P:bI} (c o:Nat) (t:bV) (bZ:Nat×Nat):∀(b:List af) (i:Nat) (a:Array af) (w:World),w.heap[c]? =J (.cells a t bZ)->(∀k:Nat,k<a.size->¬(bZ.1<=k/\k<bZ.2))->
  o+i+b.length<=a.size->(∀v∈b,v.oneCell'=aa)->(storeCells ⟨c,o,ae⟩ b i).run P w= .ok () (lz w c (eY a.toList (o+i) b).toArray t bZ)
 |[],i,a,w,h,e,d,f=>by simp_all [storeCells,eY,Kt]
 |v::b,i,a,w,h,e,d,f=>by
  simp only[List.length_cons] at d;have g:=(Ij.1 h).1;have m:w.cell? ⟨c,o+i,ae⟩=J a[o+i]:=by grind [rG]
  have n:w.frozen? ⟨c,o+i,ae⟩=ak:=by
   have:=e (o+i) (by omega)
   grind [World.frozen?]
  have j:=wX (P:=P) c o t bZ b (i+1) (a.setIfInBounds (o+i) v) (lz w c (a.setIfInBounds (o+i) v) t bZ) (Wg g) (by grind) (by grind) (λx l=>f x (by grind))
  grind [storeCells,kD,o4,run_store,jE,aqa,aqg,eY]
def bP.one {j:cj}:∀{L K:List af},bP (eA j) L K->∀v∈K,v.oneCell'=aa
 |[],[],_,v,c=>by grind
 |a::L,b::K,⟨e,d⟩,v,c=>by
  rcases ha.1 c with rfl|c
  ·exact e.one
  ·exact bP.one d v c
 |[],_::_,h,_,_=>h.elim
 |_::_,[],h,_,_=>h.elim
def V7 {P:bI} {j:cj} {m:Mem} {w:World} (I:uq P j m w) {e:Nat} {y n:af} {new:List af} (t:de j y n) (h:kt m e y=J new):
  (Tq n).run P w= .ok (ja y) w/\∃g:List af,bP (eA j) new g/\(new.length=ja y*e->∀k,k<=ja y->∀d:World,d.heap=w.heap->(qD e k n).run P d= .ok (g.take (k*e)).toArray d):=by
 cases y with
 |slice a l c=>
  cases a with
  |none=>have o:=t.nc;subst o;simp only[kt,kB.injEq] at h;subst h;refine ⟨by rfl,[],fs,λx k r d C=> ?_⟩;simp[qD]
  |some a=>
   obtain ⟨b,f,E⟩:=a;obtain ⟨q,z,A,i⟩:=t.slice;simp only at z A;subst z;simp only[kt] at h;obtain ⟨g,F,x,M⟩:=BL I A _ _ _ h;have L:∀(p:Addr) (D:Nat),n= .slice (J p) l D->(p=⟨q.blk,q.db+f,ae⟩\/l=0)->(Tq n).run P w= .ok (ja (.slice (J ⟨b,f,ae⟩) l c)) w/\
     ∃g:List af,bP (eA j) new g/\(new.length=ja (.slice (J ⟨b,f,ae⟩) l c)*e->∀k,k<=ja (.slice (J ⟨b,f,ae⟩) l c)->∀d:World,d.heap=w.heap->(qD e k n).run P d= .ok (g.take (k*e)).toArray d):=by
    intro p D o v;subst o;refine ⟨by rfl,g,F,λG k r d C=> ?_⟩;simp only[ja] at r;simp only[qD];have B:(g.take (k*e)).length=k*e:=by simp_all
    rcases v with rfl|v
    ·grind [BM,rG]
    simp_all [acm]
   rcases i with ⟨_,i⟩|⟨_,_,_,_,_,_,i⟩|⟨_,K,N,i⟩|⟨_,K,p,i⟩|⟨_,_,_,_,_,_,_,_,_,i⟩
   ·grind
   ·grind
   ·grind
   ·grind
   grind
 |string s=>
  have o:=t.str;subst o;simp only[kt] at h;split at h
  ·rename_i H;subst H;simp only[kB.injEq] at h;subst h;refine ⟨by rfl,s.data.toList.map λu=> .int .u8 u.toNat,KL (by simp only[List.all_map,iA,YD];intro u _;rfl),λx k r d C=> ?_⟩;simp only[qD,nt,Nat.mul_one,ja] at r⊢;congr 1;apply Ii;simp_all
  grind
 |_=>grind [kt]
inductive Ih (P:bI) (w:World) (u:bV) (i:TypeInfo) (kr:af) (n:Nat) (iB:List af):Prop where
 |el (hu:(∃cz,P.underlying u=J (.slice cz))\/P.underlying u=J .string) (aR:∀w',(Tq kr).run P w'= .ok n w') (bF:∀w',w'.heap=w.heap->(qD i.size n kr).run P w'= .ok iB.toArray w')
 |mk (kk k:aG) (z:af) (hu:P.underlying u=J (.int kk)) (aD:kr= .int k n) (bx:i.zero=J z) (cN:0<i.size) (aw:n*i.bytes<=140737488355328) (hm:n<9223372036854775807) (ji:iB.toArray=yf z.cells n)
def afF (z:Array af):yf z 0=#[]:=by simp[yf]
theorem zh {P:bI} {t u F e:bV} {i:TypeInfo} {b:Option Addr} {l c n:Nat} {s:af} {w:World} {o:List af} (g:P.underlying t=J (.slice e)) (d:P.info? e=J i)
  (C:Ih P w u i s n o) (h:l+n<=c):
  (tZ #[t,u] F #[.slice b l c,s]).run P w=
   match b with
   |some a=>((storeCells (a.add (l*i.size)) o).run P w).andThen λ_ w=> .ok (.slice b (l+n) c) w
   |none=> .ok (.slice b (l+n) c) w:=by
 cases C with
 |el f j m=>have j:=j w;have m:=m w rfl;rcases f with ⟨I,p⟩|p<;>cases b<;>simp[tZ,fw g,fw p,jb d,j,h,m]
 |mk kk k z f x q H G K L=>
  subst x;have y:aO .i64 (n:Int)=n:=by grind [vN]
  have A:¬((n:Int)<0):=by omega
  have B:¬((281474976710656:Int)<(n:Int)*(i.bytes:Int)):=by
   grind
  have D:¬i.size=0:=by omega
  have v:o=(yf z.cells n).toList:=by grind
  subst v;by_cases r:n=0
  ·subst r;cases b<;>simp[tZ,fw g,fw f,jb d,vm d,og d q,h,asInt,asIntOf,afF,show aO .i64 (0:Int)=0 from rfl]<;>omega
  ·have E:¬n*i.size=0:=by grind [Nat.mul_eq_zero]
   cases b<;>simp[tZ,fw g,fw f,jb d,vm d,og d q,y,A,B,r,D,E,h,asInt,asIntOf]
def ap4 {P:bI} {t u ty e:bV} {i:TypeInfo} {z:af} {base:Option Addr} {l c n:Nat} {v:af} {w:World} {q:Array af} {r:List af} (h:P.underlying t=J (.slice e)) (a:P.info? e=J i) (d:i.zero=J z)
  (I:Ih P w u i v n r) (C:c<l+n) (T:l+n<9223372036854775807) (B:(l+n)*i.bytes<=140737488355328)
  (A:∀m,m.heap=w.heap->(qD i.size l (.slice base l c)).run P m= .ok q m):
  (tZ #[t,u] ty #[.slice base l c,v]).run P w=
   .ok (.slice (J ⟨w.heap.size,0,ae⟩) (l+n) (grownCap w (l+n) c e)) (w.drew.alloc (.cells (q++r.toArray++yf z.cells (grownCap w (l+n) c e - (l+n))) e)):=by
 have f:¬(l+n<=c):=by omega
 have o:¬(9223372036854775807<((l:Int)+(n:Int))):=by omega
 have V:=growslice_fits C B;have b:¬(281474976710656<Builtin.nextslicecap (l+n) c*i.bytes):=by omega
 have j:=A w.drew rfl;cases I with
 |el g D E=>have O:=E w.drew rfl;rcases g with ⟨R,p⟩|p<;>simp[tZ,fw h,fw p,jb a,vm a,og a d,D,f,o,b,TK,j,O,newRow,grownCap]
 |mk kk k W g y x Q S U K=>
  rw[d] at x;cases x;subst y;have F:aO .i64 (n:Int)=n:=by grind [vN]
  have G:¬((n:Int)<0):=by omega
  have H:¬((281474976710656:Int)<(n:Int)*(i.bytes:Int)):=by
   grind
  have L:¬i.size=0:=by omega
  rw[K];by_cases s:n=0
  ·subst s;simp only[pS] at f b;have M:¬(9223372036854775807<(l:Int)):=by omega
   simp[tZ,fw h,fw g,jb a,vm a,og a d,f,M,b,TK,j,newRow,grownCap,asInt,asIntOf,afF,show aO .i64 (0:Int)=0 from rfl]
  ·have N:¬n*i.size=0:=by grind [Nat.mul_eq_zero]
   simp[tZ,fw h,fw g,jb a,vm a,og a d,F,f,o,b,G,H,s,L,N,TK,j,newRow,grownCap,asInt,asIntOf]
end Go.aF
end
section
namespace Go.aF
def BT {j:cj} {L new:List af} {e:Array af} {g:List af} {o a:Nat} (h:∀(i:Nat) (v:af),L[i]? =J v->∃b,e[a+i]? =J b/\eA j v b) (f:bP (eA j) new g) (k:o+new.length<=L.length) (l:a+L.length<=e.size):
  ∀(i:Nat) (v:af),(eY L o new)[i]? =J v->∃b,(eY e.toList (a+o) g).toArray[a+i]? =J b/\eA j v b:=by
 intro i v d;have c:=f.length;rw[o5 _ _ _ _ k] at d;simp only[IK];rw[o5 _ _ _ _ (by grind)];rw[<-c];split at d
 ·rename_i m;rw[if_pos (by omega),show a+i - (a+o)=i - o by omega];exact f.get _ _ d
 grind
def zt (a:Array af) (o:Nat) (b:List af):(eY a.toList o b).toArray.size=a.size:=by simp[mB]
def wU {P:bI} {a:bS->af} {o:Oper} {x y:bS} {t u:bV} (h:o.op= .call {callee:= .builtin .append,args:=#[x,y],argTypes:=#[t,u]}) {w b:World} {v:af}
  (c:(tZ #[t,u] o.type #[a x,a y]).run P w= .ok v b):(execOp a o).run P w= .ok (.value v) b:=by
 simp_all [execOp,resolve,invoke,builtin]
def Cf (P:bI) (j:cj) (m:Mem) (w:World) (d:bS->af) (o:Oper) (v:af) (e:Mem):Prop:=∃n a c b,(execOp d o).run P w= .ok n c/\(n= .value a\/(n= .skip/\a=undef))/\Post P j m w b e c/\de b v a
theorem aqk {P:bI} {j:cj} {c d:bS->af} {o:Oper} {m:Mem} {w:World} {t:bV} {x y:bS} {b a:Nat} {i:TypeInfo} {L:List af} {e:bV} (h:o.op= .store t x y) (v:c x= .pointer (J ⟨b,a,ae⟩)) (F:P.info? t=J i) (s:m.blk b= .own L e)
   (u:storable (c y)=aa) (H:(c y).cells.size=i.size) (D:a+i.size<=L.length) (r:h3 j c d o) (l:Rel P j m w):Cf P j m w d o undef (m.put b (.own (eY L a (c y).cells.toList) e)):=by
 have k:=r x (by grind [dm]);rw[v] at k;obtain ⟨q,_,g,E⟩:=k.ptr;have C:=de.storable (r y (by grind [dm])) u;have f:=C.cells;obtain ⟨n,bZ,p,A,I,K,M,B⟩:=l.own b q L e g s;have G:(d y).cells.size=i.size:=by have:=f.length;grind
 have z:=wX (P:=P) q.blk (q.db+a) e bZ (d y).cells.toList 0 n w p A (by grind) (bP.one f);simp only[pS] at z;refine ⟨.skip,undef,_,j, ?_, .inr ⟨rfl,rfl⟩,l.write g s p (zt n _ _) (by grind [mB]) (BT B f (by grind) (by omega)), ?_⟩
 ·simp_all [execOp,Instr.storeAt,yj,storeVar,jb]
 ·exact ⟨#[],rfl,fs⟩
def abX {P:bI} {j:cj} {m:Mem} {w:World} (k:uq P j m w) {c:Nat} {y f:af} {new:List af} (g:de j y f) (h:kt m c y=J new) (d:new.length=ja y*c):
  ∃b:List af,bP (eA j) new b/\∀a:World,a.heap=w.heap->(qD c (ja y) f).run P a= .ok b.toArray a:=by
 obtain ⟨_,b,e,i⟩:=V7 k g h;refine ⟨b,e,λa l=> ?_⟩;rw[i d _ (e4 _) a l,<-d,e.length,List.take_length]
theorem arT {P:bI} {j:cj} {m:Mem} {w c:World} (h:Rel P j m w) (d:c.heap=w.heap):Rel P j m c:=
 ⟨⟨λb e a=>by have:=h.lt b e a;grind,λb e a=>by rw[d];exact h.obj b e a,h.inj⟩,h.mE.val.keep λ_ _=>by grind,h.mE.sep⟩
theorem aq7 {z:af} (a:z.cells.toList.all dy=aa) (n:Nat):∀v∈(gb n z.cells.toList).flatten,dy v=aa:=by
 grind [zl]
def BR {P:bI} {j:cj} {m:Mem} {w:World} (l:uq P j m w) {u:bV} {i:TypeInfo} {y e:af} {n:Nat} {new:List af} (c:de j y e) (h:sA P m u i y n new) (t:new.length=n*i.size):
  ∃d:List af,bP (eA j) new d/\Ih P w u i e n d:=by
 cases h with
 |el f q o=>subst q;obtain ⟨b,_⟩:=V7 l c o;obtain ⟨d,C,p⟩:=abX l c o t;refine ⟨d,C, .el f (λJ=> ?_) p⟩;have:=b;cases g:e<;>simp[g,Tq] at this⊢<;>exact this
 |mk kk k z f r x G I A s B D=>
  subst D;have g:e= .int k n:=by rw[r] at c;exact c.int
  refine ⟨(gb n z.cells.toList).flatten,bP.Kj rfl λa v F E H=> ?_, .mk kk k z f g x A s B ?_⟩
  ·grind [q4,aq7]
  ·have:=KU z.cells n;rw[<-this];rfl
def abV {P:bI} {j:cj} {r:bS->af} {o:Oper} {m m0:Mem} {w:World} {x y:bS} {t u e:bV} {i:TypeInfo} {z:af} {b:Option Addr} {l c n:Nat} {g new:List af} {s A:List af}
   (h:o.op= .call {callee:= .builtin .append,args:=#[x,y],argTypes:=#[t,u]})
   (H:P.underlying t=J (.slice e)) (B:P.info? e=J i) (N:i.zero=J z) (T:z.cells.size=i.size) (O:0<i.size)
   (an:r x= .slice b l c) (S:Ih P w u i (r y) n A) (L:c<l+n)
   (W:g.length=l*i.size) (Y:new.length=n*i.size) (C:bP (eA j) g s) (E:bP (eA j) new A)
   (F:∀f,f.heap=w.heap->(qD i.size l (.slice b l c)).run P f= .ok s.toArray f)
   (K:(l+n)*i.bytes<=140737488355328) (V:l+n<9223372036854775807) (Q:Rel P j m0 w) (I:m0.next=m.next):
  ∃q f D,(execOp r o).run P w= .ok (.value q) f/\Post P j m0 w D (m0.push (.own (g++new) e)) f/\de D (.slice (J ⟨m.next,0,ae⟩) (l+n) dc) q:=by
 have kv:=ap4 (P:=P) (ty:=o.type) (base:=b) (z:=z) H B N S L V K F
 let a:=grownCap w (l+n) c e
 have kJ:l+n<=a:=grownCap_ge w _ c e;have p:a<dc:=by
  have cF:=Nat.mod_lt (w.tape w.drawn (.appendCap (l+n) c e)) (show 0<2 ^ 63 - (l+n) by omega)
  grind [grownCap,Question.cut,dc]
 let d:=s.toArray++A.toArray++yf z.cells (a - (l+n))
 have M:=C.length;have R:=E.length;have Bu:d.size=a*i.size:=by
  simp only[d,Array.size_append,List.size_toArray,size_zeroCells,T];rw[<-M,<-R,W,Y,<-ko,<-ko]
  grind
 have Z:=Q.push (w':=w.drew.alloc (.cells d e)) (X:= .own (g++new) e) (e:=⟨w.heap.size,a,i.size,0⟩) (ob:= .cells d e) rfl rfl rfl rfl rfl ⟨d,(0,0),rfl,CL,wW B,by grind,
  (by grind),
  (λk v U=>by
   have G:=bP.append C E;obtain ⟨q,iF,aV⟩:=G.get k v U
   grind)⟩
 refine ⟨.slice (J ⟨w.heap.size,0,ae⟩) (l+n) a,_,_,wU h (by grind),Z,⟨⟨w.heap.size,a,i.size,0⟩,rfl,by grind [cj.up], .inr (.inl ⟨rfl,O, ?_,p, ?_, ?_, ?_⟩)⟩⟩
 ·simp_all
 ·rfl
 ·simp
 ·simp
def aqb {b:Array MapEntry} {a:Nat} (h:zy b a) (i:Nat) (f:MapEntry->MapEntry) (m:∀e,(f e).born=e.born):zy (b.modify i f) a:=by
 have c:(b.modify i f).toList.map (·.born)=b.toList.map (·.born):=by
  rw[Array.toList_modify];refine rv λk=> ?_
  grind
 refine ⟨by rw[c];exact h.1,λx j=> ?_⟩;have d:x.born∈(b.modify i f).toList.map (·.born):=l2.2 ⟨x,j,rfl⟩;rw[c] at d;obtain ⟨y,g,l⟩:=l2.1 d;rw[<-l];exact h.2 y g
def aqj {g:Array MapEntry} {c:Nat} (h:zy g c) (e:MapEntry) (k:e.born=c):zy (g.push e) (c+1):=by
 refine ⟨?_,λx d=> ?_⟩
 ·rw[Array.toList_push,List.map_append,List.nodup_append];refine ⟨h.1,by simp,λa j b f=> ?_⟩;obtain ⟨y,i,rfl⟩:=l2.1 j;simp only[rA,TA,IM] at f;rw[f,k];exact Nat.ne_of_lt (h.2 y i)
 ·rw[Array.toList_push] at d;rcases kU.1 d with d|d
  ·exact Nat.lt_succ_of_lt (h.2 x d)
  grind
def uA.find {P:bI} {j:cj} {b l:bV} {c s:List af} {E g:List (List af×List af)} {bz:af} {clock:Nat} (h:uA (ek P b) c s E g) (u:c.all dy=aa) (q:fC j (ey (ek P l) s) bz):∀{a:List MapEntry} (n:Nat),bP (ub P j b l) E a->
  (∃i y,o6 (ey (ek P b) c) a n=J (n+i,y.val)/\a[i]? =J y/\y.key=ey (ek P b) c/\bP (ub P j b l) g (a.modify i λe=>{e with key:=ey (ek P b) c,val:=bz}))\/
  (o6 (ey (ek P b) c) a n=ae/\bP (ub P j b l) g (a++[{key:=ey (ek P b) c,val:=bz,born:=clock}])):=by
 induction h with
 |qZ=>
  intro a n d;cases a with
  |nil=>exact .inr ⟨rfl,⟨rfl,u,q⟩,fs⟩
  |cons _ _=>exact d.elim
 |rS p E h=>
  intro a n d;cases a with
  |nil=>exact d.elim
  |cons x a=>obtain ⟨⟨f,k,m⟩,o⟩:=d;refine .inl ⟨0,x,by grind [o6],rfl,f.trans h, ?_⟩;exact ⟨⟨h.symm,k,q⟩,o⟩
 |next p E g h B t=>
  intro a n d;cases a with
  |nil=>exact d.elim
  |cons x a=>
   obtain ⟨⟨f,k,m⟩,o⟩:=d;have C:¬x.key=ey (ek P b) c:=λv=>h (f.symm.trans v);rcases t (n+1) o with ⟨i,y,w,r,z,A⟩|⟨w,r⟩
   ·refine .inl ⟨i+1,y, ?_,by grind,z, ?_⟩
    ·grind [o6]
    ·exact ⟨⟨f,k,m⟩,A⟩
   ·refine .inr ⟨?_, ?_⟩
    ·grind [o6]
    ·exact ⟨⟨f,k,m⟩,r⟩
def aqQ {P:bI} {C:FuncId->Array af->Mem->af->Mem->Prop} {j:cj} {Q M:bS->af} {o:Oper} {m m':Mem} {w:World} {v:af} (h:hR P C Q o m v m') (U:h3 j Q M o) (B:Rel P j m w):
  Cf P j m w M o v m'\/∃f args,callee o Q f args/\C f args m v m':=by
 cases h with
 |store t x y b d i L e h S W R aD bf aR=>grind [aqk]
 |call f args v m' h cW=>grind
 |vZ x y t u e i a l c h Z W S V s7 aZ=>
  left;have A:=U x (by grind [dm,lh]);rw[S] at A;have ie:=U y (by simp[h,dm,lh]);obtain ⟨ds,bg,eL⟩:=BR B.ot ie aZ (by simp);have oP:ds=[]:=by have:=bg.length;grind
  subst oP;have s:∃I,M x= .slice I l c/\de j (.slice a l c) (.slice I l c):=by
   cases a with
   |none=>exact ⟨ae,A.nc,rfl⟩
   |some a=>
    obtain ⟨q,bf,g,G⟩:=A.vw (lG V);rcases G with ⟨cF,G⟩|⟨G,_⟩|⟨G,_⟩|⟨rQ,hV,I,G⟩
    ·grind
    ·grind
    ·grind
    grind
  obtain ⟨I,s,ayv⟩:=s;refine ⟨.value (.slice I l c), .slice I l c,w,j,wU h ?_, .inl rfl,Post.refl B,by grind⟩;rw[s,zh Z W eL (by omega)];cases I<;>simp[storeCells]
 |sP x y t u e i z a l c n ew new h Z W bx dw et cN S V aM nF aZ bB aw R=>
  left;have A:=U x (by grind [dm,lh]);have ie:=U y (by grind [dm,lh]);have Vj:ja (Q x)=l:=by rw[S];rfl
  have s:∃I,M x= .slice I l c:=by
   rw[S] at A;cases a with
   |none=>exact ⟨ae,A.nc⟩
   |some a=>
    obtain ⟨q,bf,g,G⟩:=A.vw (by grind [dc]);rcases G with ⟨cF,G⟩|⟨G,_⟩|⟨G,_⟩|⟨rQ,hV,I,G⟩
    ·grind
    ·grind [dc]
    ·grind [dc]
    grind
  obtain ⟨I,s⟩:=s;obtain ⟨ds,bg,axZ⟩:=abX B.ot A aM (by grind);obtain ⟨iB,O,eL⟩:=BR B.ot ie aZ bB;have Bm:∀Y:World,Y.heap=w.heap->(qD i.size l (.slice I l c)).run P Y= .ok ds.toArray Y:=by
   grind
  obtain ⟨bz,Y,c6,h1,ai,aT⟩:=abV (m:=m) h Z W bx et cN s eL V nF bB bg O Bm aw R B rfl;exact ⟨.value bz,bz,Y,c6,h1, .inl rfl,ai,aT⟩
 |vY x y t u e i b d l c n L new h Z W S gN V R aZ bB aR=>
  left;have A:=U x (by grind [dm,lh]);rw[S] at A;have ie:=U y (by grind [dm,lh]);obtain ⟨iB,O,eL⟩:=BR B.ot ie aZ bB;obtain ⟨q,_,g,G⟩:=A.vw (lG gN);rcases G with ⟨cF,s⟩|⟨G,_⟩|⟨G,_⟩|⟨rQ,hV,I,s⟩
  rotate_left 3
  ·
   subst rQ;subst hV;have Bz:n=0:=by omega
   have wq:new=[]:=by simp_all
   subst wq;have U4:iB=[]:=by have:=O.length;grind
   subst U4;obtain ⟨D,bZ,F,g2,g3,g4,g5,g6⟩:=B.own b q L e g R;have hw:=B.write (L':=L) g R F (cs':=D) rfl g5 g6;rw[Kt F] at hw;refine ⟨.value _,_,_,j,wU h (v:= .slice (J I) (0+n) 0) ?_, .inl rfl,hw,⟨q,rfl,g, .inr (.inr (.inr (.inl ⟨rfl,by omega,I,by grind⟩)))⟩⟩;rw[s,zh Z W eL V];rfl
  ·obtain ⟨D,bZ,F,g2,g3,g4,g5,g6⟩:=B.own b q L e g R;rw[ko,<-bB,<-sK] at aR;have X:=wX (P:=P) q.blk (q.db+(d+l*i.size)) e bZ iB 0 D w F g2 (by rw[<-O.length];omega) (bP.one O);simp only[pS] at X;refine ⟨.value _,_,_,j,wU h (v:= .slice (J ⟨q.blk,q.db+d,ae⟩) (l+n) c) ?_, .inl rfl,B.write g R F (zt D _ _) (by grind [mB]) (BT g6 O aR (by omega)),
    ⟨q,rfl,g, .inl ⟨cF,rfl⟩⟩⟩
   grind [zh,o4,jE]
  ·grind
  grind
 |yy x y t u e i b d l c k n L new h Z W S gN nB V R aZ bB aR=>
  left;have A:=U x (by grind [dm,lh]);rw[S] at A;have ie:=U y (by grind [dm,lh]);obtain ⟨iB,O,eL⟩:=BR B.ot ie aZ bB;obtain ⟨q,_,g,G⟩:=A.slice;have g:j b=J q:=g;rcases G with ⟨cF,_⟩|⟨G,_⟩|⟨G,_⟩|⟨rQ,_⟩|⟨k',lL,_,_,rR,kJ,cF,p8,N,s⟩
  ·omega
  ·omega
  ·omega
  ·grind
  ·have an0:k'=k:=by omega
   subst an0;have kJ:k'<=q.cap - d / q.es:=kJ;have p8:d%q.es=0:=p8;have N:d / q.es<=q.cap:=N;obtain ⟨D,bZ,F,g2,g3,g4,g5,g6⟩:=B.own b q L e g R;rw[ko,<-bB,<-sK] at aR;have X:=wX (P:=P) q.blk (q.db+(d+l*i.size)) e bZ iB 0 D w F g2 (by rw[<-O.length];omega) (bP.one O);simp only[pS] at X;refine ⟨.value _,_,_,j,wU h (v:= .slice (J ⟨q.blk,q.db+d,ae⟩) (l+n) (q.cap - d / q.es)) ?_, .inl rfl,B.write g R F (zt D _ _) (by grind [mB]) (BT g6 O aR (by omega)),
    ⟨q,rfl,g, .inr (.inr (.inr (.inr ⟨k',lL,nB,V,rR,kJ,cF,p8,N,rfl⟩)))⟩⟩
   grind [zh,o4,jE]
 |append x y t u e i z b d l n L new h Z W bx dw et cN S jj yS aZ bB aw R=>
  left;have A:=U x (by grind [dm,lh]);have axH:=A;rw[S] at A;have ie:=U y (by grind [dm,lh]);obtain ⟨iB,O,eL⟩:=BR B.ot ie aZ bB;obtain ⟨q,_,g,G⟩:=A.vw (e4 _);have g:j b=J q:=g;obtain ⟨D,bZ,F,g2,g3,g4,g5,g6⟩:=B.own b q L e g jj;have rR:i.size=q.es:=by grind [wW]
  have uZ:((L.drop d).take (l*i.size)).length=l*i.size:=by grind
  have ayt:∀(k:Nat) (v:af),((L.drop d).take (l*i.size))[k]? =J v->∃bz,((D.toList.drop (q.db+d)).take (l*i.size))[k]? =J bz/\eA j v bz:=by
   grind
  have aot:bP (eA j) ((L.drop d).take (l*i.size)) ((D.toList.drop (q.db+d)).take (l*i.size)):=bP.Kj (by grind) (λk a dJ bl e5=>by
   grind)
  have out:∀(o' c3:Nat),M x= .slice (J ⟨q.blk,o',ae⟩) l c3->(o'=q.db+d\/l=0)->c3<l+n->Cf P j m w M o (.slice (J ⟨m.next,0,ae⟩) (l+n) dc) ((m.put b .dead).push (.own ((L.drop d).take (l*i.size)++new) e)):=by
   intro o' c3 s aM V;have hk:=B.kill b;have Bm:∀Y:World,Y.heap=w.heap->(qD i.size l (.slice (J ⟨q.blk,o',ae⟩) l c3)).run P Y= .ok ((D.toList.drop (q.db+d)).take (l*i.size)).toArray Y:=by
    grind [qD,BM,rG]
   obtain ⟨bz,Y,c6,h1,ai,aT⟩:=abV (m:=m) (m0:=m.put b .dead) h Z W bx et cN s eL V uZ bB aot O Bm aw R hk.rel rfl;exact ⟨.value bz,bz,Y,c6,h1, .inl rfl,Post.trans hk ai,aT⟩
  rcases G with ⟨cF,_⟩|⟨_,hh,hle,kJ,p8,N,s⟩|⟨_,hV,o',s⟩|⟨rQ,_⟩
  rotate_left 3
  ·grind [dc]
  ·grind
  ·have hle:l<=q.cap - d / q.es:=hle;have p8:d%q.es=0:=p8;have N:d / q.es<=q.cap:=N;have rV:d=d / q.es*q.es:=by
    grind [Nat.div_add_mod]
   have axQ:d+(q.cap - d / q.es)*q.es=q.cap*q.es:=by
    grind [Nat.sub_mul]
   have s:M x= .slice (J ⟨q.blk,q.db+d,ae⟩) l (q.cap - d / q.es):=s;by_cases uT:l+n<=q.cap - d / q.es
   ·have td:d+(l+n)*i.size<=q.cap*q.es:=by
     have:(l+n)*i.size<=(q.cap - d / q.es)*q.es:=by rw[rR];exact oH _ uT
     omega
    have ays:q.db+d+l*i.size+new.length<=D.size:=by grind
    have X:=wX (P:=P) q.blk (q.db+d+l*i.size) e bZ iB 0 D w F g2 (by rw[<-O.length];omega) (bP.one O);simp only[pS] at X;refine ⟨.value _,_,_,j.up m.next ⟨q.blk,q.cap - d / q.es,q.es,q.db+d⟩,wU h (v:= .slice (J ⟨q.blk,q.db+d,ae⟩) (l+n) (q.cap - d / q.es)) ?_, .inl rfl,
     B.reuse (e2:=⟨q.blk,q.cap - d / q.es,q.es,q.db+d⟩) (L':=(L.drop d).take (l*i.size)++new) g jj F (zt D (q.db+d+l*i.size) iB) rfl rfl (by grind) (by grind) ?_,
     ⟨⟨q.blk,q.cap - d / q.es,q.es,q.db+d⟩,rfl,by simp[cj.up], .inr (.inl ⟨rfl,hh,by simpa using uT,TI (Nat.sub_le _ _) kJ,by rfl,by simp,by simp⟩)⟩⟩
    ·grind [zh,o4,jE]
    ·intro k v hk;simp only[IK];rw[o5 _ _ _ _ (by rw[<-O.length];grind)];rw[List.getElem?_append,uZ] at hk;split at hk
     ·grind
     ·rename_i hA;obtain ⟨bz,h1,ai⟩:=O.get _ _ hk;have:=(fq.1 h1).1;rw[if_pos (by omega)];exact ⟨bz,by rw[show q.db+d+k - (q.db+d+l*i.size)=k - l*i.size by omega];grind,ai⟩
   grind
  ·by_cases uT:l+n<=0
   ·have Bz:n=0:=by omega
    have yT:new=[]:=by simp_all
    subst yT;subst hV;have anH:iB=[]:=by have:=O.length;grind
    subst anH;have JW:=B.reuse (e2:=q) (L':=(L.drop d).take (0*i.size)++[]) g jj F (cs':=D) rfl rfl rfl g4 (by simp) (λk v hk=>by grind);rw[Kt F] at JW;refine ⟨.value (.slice (J ⟨q.blk,o',ae⟩) 0 0),_,w,j.up m.next q,wU h ?_, .inl rfl,JW,⟨q,rfl,by simp[cj.up], .inr (.inr (.inl ⟨rfl,by omega,o',rfl⟩))⟩⟩;subst Bz;rw[s,zh Z W eL (by omega)];rfl
   grind
 |clear x t e i z b d l c L h Z W bx dw et S R hV aR=>
  left;have A:=U x (by grind [dm,lh]);rw[S] at A;obtain ⟨q,_,g,G⟩:=A.slice;have g:j b=J q:=g;have s:∃c3,M x= .slice (J ⟨q.blk,q.db+d,ae⟩) l c3:=by
   rcases G with ⟨_,V⟩|⟨_,_,_,_,_,_,V⟩|⟨_,bR,_⟩|⟨_,bR,_⟩|⟨_,_,_,_,_,_,_,_,_,V⟩
   ·grind
   ·grind
   ·omega
   ·omega
   grind
  obtain ⟨c3,s⟩:=s;obtain ⟨D,bZ,F,g2,g3,g4,g5,g6⟩:=B.own b q L e g R;have abb:z.cells.toList.length=i.size:=by grind
  have hlen:(gb l z.cells.toList).flatten.length=l*i.size:=by simp_all
  have bg:bP (eA j) (gb l z.cells.toList).flatten (gb l z.cells.toList).flatten:=bP.self (p:=dy) (λa h=>q4 h) (by
   grind)
  have hB:d+(gb l z.cells.toList).flatten.length<=L.length:=by grind
  have X:=wX (P:=P) q.blk (q.db+d) e bZ (gb l z.cells.toList).flatten 0 D w F g2 (by omega) (bP.one bg);simp only[pS] at X;have qX:(yf z.cells l).toList=(gb l z.cells.toList).flatten:=KU z.cells l;refine ⟨.value _, .tuple #[],_,j, ?_, .inl rfl,B.write g R F (zt D _ _) (by grind [mB]) (BT g6 bg hB (by omega)),⟨#[],rfl,fs⟩⟩;have ax6:l≠0:=by omega
  cases l with
  |zero=>grind
  |succ l=>
  simp only[execOp,h,resolve,invoke,builtin,kD,nt,jE,YX,rA,TA,Builtin.clear_,IK,IJ,fw Z,s,og W bx,qX,X]
 |copy x y t u e i b d l c L D h Z W S R aZ bB aR=>
  left;have A:=U x (by grind [dm,lh]);rw[S] at A;have ie:=U y (by grind [dm,lh]);obtain ⟨hlen,axl,U4,bF⟩:=V7 B.ot ie aZ;have Vm:rB (ja (Q y)) l<=ja (Q y):=Nat.min_le_left _ _;have bF:=bF bB _ Vm w rfl;have O:=U4.take (rB (ja (Q y)) l*i.size);obtain ⟨q,_,g,G⟩:=A.slice;have g:j b=J q:=g;obtain ⟨ds,bZ,F,g2,g3,g4,g5,g6⟩:=B.own b q L e g R;have hB:d+(D.take (rB (ja (Q y)) l*i.size)).length<=L.length:=by rw[List.length_take];have:rB (ja (Q y)) l*i.size<=l*i.size:=oH _ (Nat.min_le_right _ _);omega
  have key:∀(I:Addr) (c3:Nat),M x= .slice (J I) l c3->(I=⟨q.blk,q.db+d,ae⟩\/l=0)->Cf P j m w M o (.int .i64 (rB (ja (Q y)) l)) (m.put b (.own (eY L d (D.take (rB (ja (Q y)) l*i.size))) e)):=by
   intro I c3 s aM;rcases aM with rfl|aM
   ·have X:=wX (P:=P) q.blk (q.db+d) e bZ _ 0 ds w F g2 (by grind) (bP.one O);simp only[pS] at X;refine ⟨.value _, .int .i64 (rB (ja (Q y)) l),_,j, ?_, .inl rfl,B.write g R F (zt ds _ _) (by grind [mB]) (BT g6 O hB (by omega)),rfl⟩;simp only[execOp,h,resolve,invoke,builtin,kD,nt,jE,YX,rA,TA,Builtin.copy_,IK,IJ,qH,fw Z,s,hlen,jb W,bF,X,goInt]
   ·subst aM;have bR:rB (ja (Q y)) 0=0:=Nat.min_zero _;simp only[bR,Nat.zero_mul,List.take_zero,eY] at bF hB⊢;have hw:=B.write (L':=L) g R F (cs':=ds) rfl g5 g6;rw[Kt F] at hw;refine ⟨.value _, .int .i64 (0:Nat),w,j, ?_, .inl rfl,hw,rfl⟩;have am1:rB (ja (Q y)) 0=0:=Nat.min_zero _;simp only[execOp,h,resolve,invoke,builtin,kD,nt,jE,YX,rA,TA,Builtin.copy_,IK,IJ,qH,fw Z,s,hlen,jb W,am1,bF,goInt,storeCells]
  rcases G with ⟨_,s⟩|⟨_,_,_,_,_,_,s⟩|⟨_,hV,o',s⟩|⟨_,hV,I,s⟩|⟨_,_,_,_,_,_,_,_,_,s⟩
  ·grind
  ·grind
  ·grind
  ·grind
  grind
 |mapUpdate hZ x jW j3 u bG bA b L eo vc E E' ho h jk hu S jj bp nC K yP uV yQ bF hk bs rZ J1 tg wA hb=>
  left;have Vl:∀y∈([x,jW,j3]:List bS),y∈o.op.operands:=by
   grind [dm]
  have A:=U x (Vl x (by simp));rw[S] at A;obtain ⟨q,g,V⟩:∃q,j b=J q/\M x= .map (J q.blk):=A;have aaB:=W3 bF (U jW (Vl jW (by simp)));have iF:=de.storable (U j3 (Vl j3 (by simp))) rZ;have aaW:=B.obj b q g;rw[jj] at aaW;obtain ⟨lv,lA,D,H,awZ,F,g2,g3,g4,g5⟩:=aaW;have yR:lv=bG/\lA=bA:=by grind
  obtain ⟨rfl,rfl⟩:=yR;have:=qG.Yb nC bp g3;subst this;have pw:=K.find (Q jW) D.toList w hk (Wl g4 bs);have my:=K.check ak (Q jW) w hk;have aaR:qG (P.cellsOf lv) (P.cellsOf lA) (E'.flatMap λp=>p.1++p.2) E':=by
   refine ⟨rfl, ?_⟩;have:=bp.len;clear bp g3 g4 bs;induction hb with
   |qZ=>grind
   |rS p E h=>
    grind
   |next p E E' h Bb a1=>
    intro r aV;rcases ha.1 aV with rfl|aV
    ·grind
    ·exact a1 (λr aV=>this r (by grind)) r aV
  have key:=hb.find (j:=j) (bz:=M j3) (clock:=H) yQ (by grind) 0 g4;rw[<-yP] at key;have fin:∀(T:Array MapEntry) (Jk:Nat),bP (ub P j lv lA) E' T.toList->zy T Jk->(execOp M o).run P w= .ok .skip (sn w q.blk (.map T Jk))->
    Cf P j m w M o undef (m.put b (.map (E'.flatMap λp=>p.1++p.2) u)):=by
   intro T Jk lM X kv;refine ⟨.skip,undef,_,j,kv, .inr ⟨rfl,rfl⟩,B.pF g (by rw[jj];rfl) ⟨lv,lA,T,Jk,E',rfl,hu,aaR,lM,X⟩ rfl,⟨#[],rfl,fs⟩⟩
  have hex:∀Y,(YP hZ (M x) (M jW) (M j3)).run P w= .ok () Y->(execOp M o).run P w= .ok .skip Y:=by intro Y tj;rcases h with h|h<;>simp[execOp,h,tj]
  rcases key with ⟨i,y,h1,ai,aT,br⟩|⟨h1,ai⟩
  ·refine fin (D.modify i λe=>{e with key:=Q jW,val:=M j3}) H ?_ (aqb g5 i _ λ_=>rfl) (hex _ ?_)
   ·grind
   ·have X:=K.stays (Q jW) w hk;rw[h1] at pw;have uU:D[i]? =J y:=by grind
    simp[YP,fw jk,V,zD F,aaB,my,pw,uU,aT,X,aee _ F,sn]
  ·refine fin (D.push {key:=Q jW,val:=M j3,born:=H}) (H+1) ?_ (aqj g5 _ rfl) (hex _ ?_)
   ·grind
   ·rw[h1] at pw;simp[YP,fw jk,V,zD F,aaB,my,pw,aee _ F,sn]
end Go.aF
end
section
namespace Go.aF
def aqN {n c:Nat} (h:n<=c) {v:af} (b:r4 n v):r4 c v:=by
 unfold r4 at b⊢;split at b
 ·rename_i a;cases a with
  |none=>exact b
  |some a=>exact hS b h
 grind
def aqM {n:Nat} {v:af} (a:r4 n v):h7 n v:=by
 unfold r4 at a;split at a
 ·exact a
 grind
theorem tw {n d:Nat} (h:n<=d) {v:af} (b:h7 n v):h7 d v:=by
 cases v with
 |func fn f g=>exact ⟨b.1,λv e=>aqN h (b.2 v e)⟩
 |pointer a=>cases a with
  |none=>exact b
  |some a=>exact hS b h
 |slice a l c=>cases a with
  |none=>exact b
  |some a=>exact hS b h
 |map r=>cases r with
  |none=>exact b
  |some r=>exact hS b h
 |_=>exact b
theorem KE {n a:Nat} (h:n<=a) {v:af} (b:iv n v):iv a v:=by
 cases v with
 |agg d=>exact λv c=>tw h (b v c)
 |_=>grind [iv,tw]
theorem WO {n e:Nat} (h:n<=e) {v:af} (d:low n v):low e v:=by
 cases v with
 |chan _=>trivial
 |tuple f=>exact λv c=>KE h (d v c)
 |func _ a b=>exact ⟨λv c=>KE h (d.1 v c),λv c=>KE h (d.2 v c)⟩
 |_=>grind [low,KE]
def acA {n c:Nat} (h:n<=c) {x:bW} (a:qe n x):qe c x:=by
 cases x with
 |dead=>exact a
 |ro e=>exact λi v d=>tw h (a i v d)
 |own L t=>exact λv b=>tw h (a v b)
 |map L t=>exact λv b=>tw h (a v b)
 |lock _ _ _ _=>trivial
theorem zq {n:Nat} {v:af} (h:dy v=aa):h7 n v:=by
 cases v with
 |pointer a=>cases a with
  |none=>exact fs
  |some a=>grind [dy]
 |slice a l c=>cases a with
  |none=>exact fs
  |some a=>grind [dy]
 |map r=>cases r with
  |none=>exact fs
  |some r=>grind [dy]
 |chan _=>grind [dy]
 |func _ _ _=>simp only[dy,fx,Yt] at h;obtain ⟨rfl,rfl⟩:=h;exact ⟨rfl,λv b=>absurd b (by simp)⟩
 |iface _ _=>grind [dy]
 |agg _=>grind [dy]
 |tuple _=>grind [dy]
 |_=>exact fs
theorem Wv {n:Nat} {v:af} (h:kz v=aa):iv n v:=by
 cases v with
 |agg b=>simp only[kz,iA] at h;exact λv a=>zq (h v a)
 |_=>simp only[iv];exact zq h
theorem WJ {n:Nat} {v:af} (h:flat v=aa):low n v:=by
 cases v with
 |tuple b=>simp only[flat,iA] at h;exact λv a=>Wv (h v a)
 |func _ _ _=>simp only[flat,kz,dy,fx,Yt] at h;obtain ⟨rfl,rfl⟩:=h;exact ⟨λv a=>absurd a (by simp),λv a=>absurd a (by simp)⟩
 |chan _=>trivial
 |_=>simp only[low];exact Wv h
def KQ {n:Nat} {v:af} (h:h7 n v):iv n v:=by
 cases v<;>first|exact h|exact h.elim
theorem B7 {n:Nat} {v:af} (h:iv n v):low n v:=by
 cases v with
 |func fn b c=>exact ⟨λv a=>by rw[h.1] at a;grind,λv a=>KQ (aqM (h.2 v a))⟩
 |tuple _=>exact h.elim
 |chan _=>trivial
 |_=>exact h
theorem K6 {n:Nat} {v:af} (h:h7 n v):low n v:=B7 (KQ h)
theorem wY {n:Nat} {v:af} (h:low n v) (a:storable v=aa):iv n v:=by
 cases v with
 |tuple _=>grind [storable]
 |chan _=>grind [storable]
 |func fn e f=>
  simp only[storable,fx,Yt,iA] at a;refine ⟨a.1,λv c=> ?_⟩;have d:=h.2 v c;have b:=a.2 v c;unfold xr at b;split at b
  ·exact d
  grind
 |_=>exact h
def Kr {n:Nat} {v:af} (h:iv n v):∀c∈v.cells.toList,h7 n c:=by
 cases v with
 |agg b=>exact h
 |_=>intro c a;simp only[af.cells,IM] at a;subst a;exact h
def r9:∀(a L:List af) (o:Nat) (v:af),v∈eY L o a->v∈L\/v∈a
 |[],L,o,v,h=> .inl h
 |u::a,L,o,v,h=>by
  rcases r9 a (L.set o u) (o+1) v h with h|h
  ·grind
  grind
theorem KB {n:Nat} {a:Nat->Option (Nat×Nat)}:∀(c:List (Nat×af)) (L b:List af),(∀p∈c,low n p.2)->(∀v∈L,h7 n v)->k5 a L c=J b->∀v∈b,h7 n v
 |[],L,b,_,j,h=>by grind [k5]
 |(i,v)::c,L,b,e,j,h=>by
  simp only[k5] at h;cases g:a i with
  |none=>grind
  |some q=>
   simp only[g] at h;split at h
   ·rename_i f;refine KB c _ b (λp k=>e p (by grind)) ?_ h;intro u d;rcases r9 _ _ _ _ d with d|d
    ·grind
    ·exact Kr (wY (e (i,v) (by simp)) f.1) u d
   grind
theorem WL {m:Mem} (c:WF m) {b o:Nat} {v:af} (h:m.load b o=J v):h7 m.next v:=by
 have:=c.low b;unfold Mem.load at h;cases a:m.blk b with
 |dead=>grind
 |ro d=>simp only[a] at h;rw[a] at this;exact this o v h
 |own L t=>simp only[a] at h;rw[a] at this;exact this v (mM h)
 |map L t=>grind
 |lock _ _ _ _=>grind
theorem KX {m:Mem} (f:WF m) {b:Nat}:∀(n o:Nat) (a:List af),kd m b o n=J a->∀v∈a,h7 m.next v
 |0,o,a,h=>by grind [kd]
 |n+1,o,a,h=>by
  simp only[kd] at h;cases e:m.load b o with
  |none=>grind
  |some u=>
   cases d:kd m b (o+1) n with
   |none=>grind
   |some l=>
    simp only[e,d,kB.injEq] at h;subst h;intro v c;rcases ha.1 c with rfl|c
    ·grind [WL]
    ·exact KX f n (o+1) l d v c
theorem tu {n:Nat} {L:List af} (h:L.all dy=aa):∀v∈L,h7 n v:=by
 grind [zq]
theorem ars {P:bI} {H:bS->af} {o:Oper} {v:af} {n:Nat} (h:dD P H o v) (r:∀x∈o.op.operands,low n (H x)):low n v:=by
 cases h with
 |flat v K h A aV=>grind [WJ]
 |move x h=>grind [dm]
 |pick c a b t h D=>
  grind [dm]
 |extract x i vs v h j A=>have:=r x (by grind [dm]);rw[j] at this;exact B7 (this v (by grind))
 |field t x i J f d E v h m I L j A=>
  have:=r x (by grind [dm]);rw[j] at this;split at A
  ·obtain ⟨k,X,Y,rfl⟩:=A;intro u Z;refine this u ?_
   grind [Yv]
  ·exact K6 (this v (by grind))
 |J6 t x y e d i l k n' E h m L T p j B C s=>
  have:=r x (by grind [dm]);rw[j] at this;intro u Z;refine this u ?_
  grind [Yv]
 |J5 t x y e d i l k n' E v h m L T p j B C s A=>have:=r x (by grind [dm]);rw[j] at this;exact K6 (this v (by grind))
 |build t V J i z E h m p U W bb D=>
  grind [KB,dm,tu,low,iv]
 |Jg t V n e i k z E h m p U W he D=>
  grind [KB,dm,tu,low,iv]
 |nilCheck x a h j=>
  grind [dm]
 |fieldAddr t x i J f k b q h m I X K j=>have:=r x (by grind [dm]);rw[j] at this;exact this
 |indexAddr t x y e i b q l c k n h m p j B C s=>have:=r x (by grind [dm]);rw[j] at this;exact this
 |J4 t x y e i b q l k n h m p j B C s=>have:=r x (by grind [dm]);rw[j] at this;exact this
 |JC t x y e i l g k n h m p K j B C s aR=>exact fs
 |slice t x M p e i b q l c n N h m G j aw O F s ai aT=>have:=r x (by grind [dm]);rw[j] at this;exact this
 |nc t x M p e i h m G j O F=>exact fs
 |slice3 t x Q p e i b q l c N k' S h m G j D F R s=>have:=r x (by grind [dm]);rw[j] at this;exact this
 |P5 t x M p Q e i b q l c n N k' Kb J9 S h m G j D O F R C s=>exact fs
 |P4 t x Q p e i S h m G j F R=>exact fs
 |len x t e a l c h m j=>exact fs
 |Jj x t e h m j=>exact fs
 |A2 neq x y t u e a l c h m j B=>exact fs
 |func fn first w h I=>
  refine ⟨?_, ?_⟩
  ·grind [wY,dm]
  grind [wY,dm]
def aqW {P:bI} {a:bV} {n:Nat} {b:List af} (f:ek P a=ak->P.cellsOf a=1) (d:b.length=P.cellsOf a) (h:∀c∈b,h7 n c):iv n (ey (ek P a) b):=by
 cases e:ek P a with
 |true=>grind [ey,iv]
 |false=>
  have:=f e
  match b,d with
  |[v],_=>exact KQ (h v (by simp))
  |[],d=>grind
  |_::_::_,d=>grind
theorem art {P:bI} {C:bS->af} {o:Oper} {m:Mem} {v:af} (h:fH P C o m v) (hm:WF m) (I:∀x∈o.op.operands,low m.next (C x)):low m.next v:=by
 cases h with
 |load t x b f d v h a r S w=>grind [K6,WL]
 |wc t x g n s h a bB r G=>exact fs
 |wI t x b f d i V h a r S A w=>grind [low,iv,KX]
 |vx t x U A e i L b f l c k n W h r Z a hk n4 Y X h1 O N=>have:=I x (by grind [dm]);rw[a] at this;exact this
 |slice t x U A e i L b f l n W h r Z a n4 Y X h1 O N=>have:=I x (by grind [dm]);rw[a] at this;exact this
 |str s t x e b f l c V h R he r a w=>exact fs
 |zQ s t x e l c h R he r a=>exact fs
 |lookup hZ x dx ok u bG Q b L E i z v0 t ho h jk hu a nC tf K bF hk G A bx dw B=>
  have bR:iv m.next v0:=by
   have y:(∀p∈E,∀c∈p.2,h7 m.next c)/\∀p∈E,p.2.length=P.cellsOf Q:=by
    rcases a with ⟨a,jj,F⟩|⟨a,rfl⟩
    ·have H:=hm.low b;rw[jj] at H;exact ⟨λp D c ay=>H c (by rw[F.eq];grind),λp D=>(F.len p D).2⟩
    grind
   obtain ⟨J,j⟩:=y;clear G a;induction B with
   |qZ=>grind [Wv]
   |rS p E h=>exact aqW tf (j p (by simp)) (J p (by simp))
   |next p E v b h B M=>exact M (λq T=>J q (by grind)) (λq T=>j q (by grind))
  cases ok with
  |false=>grind [B7]
  |true=>
   intro v w;simp at w;rcases w with rfl|rfl
   ·grind
   ·exact fs
def atb {P:bI} {j:bS->af} {o:Oper} {n:Nat} {X:bW} {v:af} (h:jC P j o n X v) (B:∀x∈o.op.operands,low n (j x)):low (n+1) v/\qe n X:=by
 cases h with
 |alloc t i z h d q a p=>exact ⟨pT n,tu a⟩
 |box t x i h d g p=>exact ⟨pT n,Kr (wY (B x (by grind [dm])) g)⟩
 |buildSlice t l F e i z G h f d q a A L M m=>
  refine ⟨pT n,KB _ _ _ ?_ (tu (zl a l)) m⟩
  grind [dm]
 |makeSlice t x y l c k I e i z h f d q a A r C K w m=>exact ⟨pT n,tu (zl a c)⟩
 |bytes s t x e i b h p f H d J r w=>exact ⟨pT n,tu (by simp only[List.all_map,iA,YD];intro u _;rfl)⟩
 |makeMap t E D h f=>exact ⟨pT n,λv g=>by grind⟩
def WF.push {m:Mem} (h:WF m) {X:bW} (c:qe (m.next+1) X):WF (m.push X) where
 dead:=λb a=>by simp only[Mem.push] at a⊢;rw[if_neg (by omega)];exact h.dead b (by omega)
 low:=λb=>by
  simp only[Mem.push];split
  ·grind
  ·exact acA (mo _) (h.low b)
def WF.put {m:Mem} (h:WF m) {b:Nat} {x:bW} (d:qe m.next x) (e:b<m.next\/x= .dead):WF (m.put b x) where
 dead:=λc a=>by
  have a:m.next<=c:=a;simp only[Mem.put];split
  ·grind
  ·exact h.dead c a
 low:=λc=>by
  simp only[Mem.put];split
  ·grind
  ·exact h.low c
def WF.lt {m:Mem} (h:WF m) {b:Nat} (c:m.blk b≠ .dead):b<m.next:=by
 rcases mq b m.next with a|a
 ·grind
 ·exact absurd (h.dead b a) c
def pB (C:FuncId->Array af->Mem->af->Mem->Prop):Prop:=∀f b m v c,C f b m v c->WF m->(∀a∈b.toList,low m.next a)->low c.next v/\WF c/\m.next<=c.next
theorem Wu {m:Mem} (g:WF m) {f:Nat} {y:af} {e:List af} (h:kt m f y=J e):∀v∈e,h7 m.next v:=by
 cases y with
 |slice a l c=>
  cases a with
  |none=>grind [kt]
  |some a=>
   obtain ⟨b,i,d⟩:=a;cases d with
   |none=>exact KX g _ _ _ h
   |some _=>grind [kt]
 |string s=>
  simp only[kt] at h;split at h
  ·simp only[kB.injEq] at h;subst h;exact tu (by simp only[List.all_map,iA,YD];intro u _;rfl)
  grind
 |_=>grind [kt]
theorem La {P:bI} {m:Mem} (p:WF m) {u:bV} {i:TypeInfo} {y:af} {n:Nat} {a:List af} (h:sA P m u i y n a):∀v∈a,h7 m.next v:=by
 cases h with
 |el b c o=>grind [Wu]
 |mk kk k z b d f j l g e q r=>
  grind [tu,zl]
def aqq {o:Oper} {g:bS->af} {f:FuncId} {b:Array af} {n:Nat} (h:callee o g f b) (j:∀x∈o.op.operands,low n (g x)):∀a∈b.toList,low n a:=by
 obtain ⟨x,l,m,first,d,h,i,rfl⟩:=h;have e:=j x (by grind [dm,lh]);rw[i] at e;intro a c;simp only[Yu,kU,ye,l2] at c;rcases c with (c|⟨y,k,rfl⟩)|c
 ·exact B7 (e.1 a c)
 ·grind [dm,lh]
 ·exact B7 (e.2 a c)
theorem asi {P:bI} {C:FuncId->Array af->Mem->af->Mem->Prop} {T:bS->af} {o:Oper} {m H:Mem} {v:af} (h:hR P C T o m v H) (g:WF m) (M:∀x∈o.op.operands,low m.next (T x)) (cW:pB C):low H.next v/\WF H/\m.next<=H.next:=by
 cases h with
 |store t x y b r i L e h s F j N bf O=>
  refine ⟨λu B=>by grind,g.put ?_ (.inl (g.lt (by grind))),e4 _⟩;intro u B;rcases r9 _ _ _ _ B with B|B
  ·have:=g.low b;rw[j] at this;exact this u B
  ·exact Kr (wY (M y (by grind [dm])) N) u B
 |call f I v H h Y=>exact cW f I m v H Y g (aqq h M)
 |vZ x y t u e i a l c h G F s A s7 D=>grind [dm,lh]
 |sP x y t u e i z a l c n ew new h G F V W X cN s A aM nF D Q aw lN=>
  refine ⟨pT _,g.push ?_,mo _⟩;intro w d;rcases kU.1 d with d|d
  ·exact tw (mo _) (Wu g aM w d)
  ·exact tw (mo _) (La g D w d)
 |yy x y t u e i b r l c k n L new h G F s gN nB A j D Q O=>
  refine ⟨?_,g.put ?_ (.inl (g.lt (by grind))),e4 _⟩
  ·have:=M x (by grind [dm,lh]);rw[s] at this;exact this
  ·intro w d;rcases r9 _ _ _ _ d with d|d
   ·have:=g.low b;rw[j] at this;exact this w d
   grind [La]
 |vY x y t u e i b r l c n L new h G F s gN A j D Q O=>
  refine ⟨?_,g.put ?_ (.inl (g.lt (by grind))),e4 _⟩
  ·have:=M x (by grind [dm,lh]);rw[s] at this;exact this
  ·intro w d;rcases r9 _ _ _ _ d with d|d
   ·have:=g.low b;rw[j] at this;exact this w d
   grind [La]
 |append x y t u e i z b r l n L new h G F V W X cN s j yS D Q aw lN=>
  have h1:WF (m.put b .dead):=g.put fs (.inr rfl);refine ⟨pT _,h1.push ?_,mo _⟩;intro w d;rcases kU.1 d with d|d
  ·have:=g.low b;rw[j] at this;exact tw (mo _) (this w (List.mem_of_mem_drop (List.mem_of_mem_take d)))
  ·exact tw (mo _) (La g D w d)
 |clear x t e i z b r l c L h G F V W X s j hV O=>
  refine ⟨by intro v N;grind,g.put ?_ (.inl (g.lt (by grind))),e4 _⟩;intro w d;rcases r9 _ _ _ _ d with d|d
  ·have:=g.low b;rw[j] at this;exact this w d
  grind [List.mem_flatten,zq]
 |copy x y t u e i b r l c L cs h G F s j D Q O=>
  refine ⟨fs,g.put ?_ (.inl (g.lt (by grind))),e4 _⟩;intro w d;rcases r9 _ _ _ _ d with d|d
  ·have:=g.low b;rw[j] at this;exact this w d
  grind [Wu]
 |mapUpdate hZ x jW j3 u bG bA b L eo vc E S ho h jk B s j U nC K yP uV yQ bF hk bs rZ J1 tg wA hb=>
  refine ⟨λu B=>by grind,g.put ?_ (.inl (g.lt (by grind))),e4 _⟩;have R:=g.low b;rw[j] at R;have qN:∀p∈E,∀c∈p.1++p.2,h7 m.next c:=λp bb c A=>R c (by rw[U.eq];grind);have ax5:∀c∈eo,h7 m.next c:=tu yQ;have ayu:∀c∈vc,h7 m.next c:=λc A=>by
   refine Kr (wY (M j3 ?_) rZ) c (wA c A)
   grind [dm]
  have key:∀p∈S,∀c∈p.1++p.2,h7 m.next c:=by
   clear U bs R;induction hb with
   |qZ=>
    grind
   |rS p E h=>
    intro q J c A
    grind
   |next p E S h Bb Z=>
    intro q J c A;rcases ha.1 J with rfl|J
    ·grind
    ·exact Z (λq J=>qN q (by grind)) q J c A
  intro v N;obtain ⟨p,bb,A⟩:=List.mem_flatMap.1 N
  grind
def aew {a:Nat->af} {n:Nat} (h:∀t,low n (a t)) {x:bS} (c:nI x=aa):low n (bk a x):=by
 cases x with
 |tmp t=>exact h t
 |const v=>exact WJ c
 |global g=>trivial
 |func f=>exact ⟨λv b=>by grind,λv b=>by grind⟩
theorem Ca {a:Nat->af} {n:Nat} (h:∀t,low n (a t)) {d:Option Tmp} {v:af} (b:low n v):∀t,low n (set a d v t):=by
 intro t;cases d with
 |none=>exact h t
 |some d=>grind [set]
theorem Kz {n:Nat}:low n undef:=λv a=>by grind
def w8 {P:bI} {C:FuncId->Array af->Mem->af->Mem->Prop} {b:Nat->af} {o:Oper} {m a:Mem} {v:af} (h:ln P C (bk b) o m v a) (f:WF m) (e:∀t,low m.next (b t)) (i:pB C) (c:∀x∈o.op.operands,nI x=aa):
  low a.next v/\WF a/\m.next<=a.next:=by
 have g:∀x∈o.op.operands,low m.next (bk b x):=λx d=>aew e (c x d);cases h with
 |pure h=>grind [ars]
 |read h=>grind [art]
 |new h=>have:=atb h g;exact ⟨this.1,f.push (acA (mo _) this.2),mo _⟩
 |fX h=>grind [asi]
end Go.aF
end
section
namespace Go.aF
def XJ (P:bI) (C:FuncId->Array af->Mem->af->Mem->Prop) (a:List Oper) (o:Oper) (b:Nat->af) (m:Mem) (v:af) (c:Mem) (k:Nat):Prop:=
 (k=0/\wanted a b o=ak/\v=undef/\c=m)\/
 (k=1/\wanted a b o=aa/\dD P (bk b) o v/\c=m)\/
 (k=2/\wanted a b o=aa/\fH P (bk b) o m v/\c=m)\/
 (k=3/\wanted a b o=aa/\∃X,jC P (bk b) o m.next X v/\c=m.push X)\/
 (k=4/\wanted a b o=aa/\hR P C (bk b) o m v c)
structure ys (P:bI) (C:FuncId->Array af->Mem->af->Mem->Prop) (ops:List Oper) (B:Array Nat) (i:Nat) (l:List Oper) (bY:Nat->Nat->af) (ms:Nat->Mem) (vs:Nat->af) (dA:Nat->Nat):Prop where
 frame:∀n o,l[n]? =J o->bY (i+n+1)=set (bY (i+n)) o.dst (vs (i+n))
 run:∀n o,l[n]? =J o->XJ P C ops o (bY (i+n)) (ms (i+n)) (vs (i+n)) (ms (i+n+1)) (dA (i+n))
 after:∀r e o,l[r]? =J o->dA (i+r)=2->e<l.length->dA (i+e)=4->r<e->gD B (i+e) (i+r)=ak->fH P (bk (bY (i+r))) o (ms (i+e+1)) (vs (i+r))
 news:∀x e,x<l.length->dA (i+x)=3->e<l.length->dA (i+e)=4->x<e->gD B (i+e) (i+x)=ak->(ms (i+e+1)).blk (ms (i+x)).next=(ms (i+e)).blk (ms (i+x)).next
 ahead:∀r e o,l[r]? =J o->dA (i+r)=2->e<l.length->dA (i+e)=4->e<r->gD B (i+r) (i+e)=ak->fH P (bk (bY (i+r))) o (ms (i+e)) (vs (i+r))
def afj {P:bI} {C:FuncId->Array af->Mem->af->Mem->Prop} {q:List Oper} {B:Array Nat}:∀(l:List Oper) (i:Nat) (A:Acc) (s:Nat->af) (m:Mem) (D:Nat->af) (E:Mem),hW P C q B i l A s m D E->
  ∃g d G j,ys P C q B i l g d G j/\g i=s/\d i=m/\g (i+l.length)=D/\d (i+l.length)=E/\
   (∀x∈A.reads,∀e,e<l.length->j (i+e)=4->gD B (i+e) x.1=ak->x.2 (d (i+e+1)))/\
   (∀x∈A.iC,∀r o,l[r]? =J o->j (i+r)=2->gD B (i+r) x.1=ak->fH P (bk (g (i+r))) o x.2 (G (i+r)))/\
   (∀x∈A.news,∀e,e<l.length->j (i+e)=4->gD B (i+e) x.1=ak->(d (i+e+1)).blk x.2=(d (i+e)).blk x.2)
 |[],i,A,s,m,D,E,h=>by simp only[hW] at h;obtain ⟨rfl,rfl⟩:=h;refine ⟨λ_=>D,λ_=>E,λ_=>undef,λ_=>0,⟨?_, ?_, ?_, ?_, ?_⟩,rfl,rfl,rfl,rfl, ?_, ?_, ?_⟩;all_goals grind
 |o::y,i,A,s,m,D,E,h=>by
  have p:∀(v:af) (F:Mem) (k:Nat) (w:Acc),XJ P C q o s m v F k->hW P C q B (i+1) y w (set s o.dst v) F D E->
    (∀x∈A.reads,x∈w.reads)->(∀x∈A.iC,x∈w.iC)->(k=2->(i,λm=>fH P (bk s) o m v)∈w.reads)->(k=4->(i,m)∈w.iC)->
    (k=2->∀x∈A.iC,gD B i x.1=ak->fH P (bk s) o x.2 v)->(k=4->∀x∈A.reads,gD B i x.1=ak->x.2 F)->(∀x∈A.news,x∈w.news)->(k=3->(i,m.next)∈w.news)->(k=4->∀x∈A.news,gD B i x.1=ak->F.blk x.2=m.blk x.2)->
    ∃g d G j,ys P C q B i (o::y) g d G j/\g i=s/\d i=m/\g (i+(o::y).length)=D/\d (i+(o::y).length)=E/\
     (∀x∈A.reads,∀e,e<(o::y).length->j (i+e)=4->gD B (i+e) x.1=ak->x.2 (d (i+e+1)))/\
     (∀x∈A.iC,∀r t,(o::y)[r]? =J t->j (i+r)=2->gD B (i+r) x.1=ak->fH P (bk (g (i+r))) t x.2 (G (i+r)))/\
     (∀x∈A.news,∀e,e<(o::y).length->j (i+e)=4->gD B (i+e) x.1=ak->(d (i+e+1)).blk x.2=(d (i+e)).blk x.2):=by
   intro v F k w kv u Y V S U JV aym W O Z;obtain ⟨g,d,G,j,H,h1,ai,aT,br,cK,fJ,jH⟩:=afj y (i+1) w _ _ _ _ u;refine ⟨λn=>if n=i then s else g n,λn=>if n=i then m else d n,λn=>if n=i then v else G n,λn=>if n=i then k else j n,⟨?_, ?_, ?_, ?_, ?_⟩,by simp,by simp, ?_, ?_, ?_, ?_, ?_⟩
   ·intro n t bB;cases n with
    |zero=>
     grind
    |succ n=>
     have f:i+(n+1)=i+1+n:=by omega
     have:=H.frame n t (by grind);rw[f];simp only[show ¬(i+1+n+1=i) by omega,show ¬(i+1+n=i) by omega,if_false,this]
   ·intro n t bB;cases n with
    |zero=>
     grind
    |succ n=>
     have f:i+(n+1)=i+1+n:=by omega
     have:=H.run n t (by grind);rw[f];simp only[show ¬(i+1+n+1=i) by omega,show ¬(i+1+n=i) by omega,if_false]
     grind
   ·intro r e t N c L b T a;cases e with
    |zero=>omega
    |succ e=>
     have f:i+(e+1)=i+1+e:=by omega
     rw[f] at b a⊢;simp only[show ¬(i+1+e=i) by omega,if_false] at b;simp only[show ¬(i+1+e+1=i) by omega,if_false];cases r with
     |zero=>simp only[IJ,kB.injEq] at N;subst N;simp only[pS,if_pos] at c a⊢;exact cK _ (S c) e (by grind) b a
     |succ r=>
      have I:i+(r+1)=i+1+r:=by omega
      rw[I] at c a⊢;simp only[show ¬(i+1+r=i) by omega,if_false] at c⊢;exact H.after r e t (by grind) c (by grind) b (by omega) a
   ·intro x e R c L b u1 a;cases e with
    |zero=>omega
    |succ e=>
     have f:i+(e+1)=i+1+e:=by omega
     rw[f] at b a⊢;simp only[show ¬(i+1+e=i) by omega,if_false] at b;simp only[show ¬(i+1+e+1=i) by omega,show ¬(i+1+e=i) by omega,if_false];cases x with
     |zero=>simp only[pS,if_pos] at c a⊢;exact jH _ (O c) e (by grind) b a
     |succ x=>
      have I:i+(x+1)=i+1+x:=by omega
      rw[I] at c a⊢;simp only[show ¬(i+1+x=i) by omega,if_false] at c⊢;exact H.news x e (by grind) c (by grind) b (by omega) a
   ·intro r e t N c L b T a;cases r with
    |zero=>omega
    |succ r=>
     have I:i+(r+1)=i+1+r:=by omega
     rw[I] at c a⊢;simp only[show ¬(i+1+r=i) by omega,if_false] at c⊢;cases e with
     |zero=>
      grind
     |succ e=>
      have f:i+(e+1)=i+1+e:=by omega
      rw[f] at b a⊢;simp only[show ¬(i+1+e=i) by omega,if_false] at b⊢;exact H.ahead r e t (by grind) c (by grind) b (by omega) a
   ·grind
   ·grind
   ·intro x R e L b a;cases e with
    |zero=>
     grind
    |succ e=>
     grind
   ·grind
   ·intro x R e L b a;cases e with
    |zero=>
     grind
    |succ e=>
     have f:i+(e+1)=i+1+e:=by omega
     rw[f] at b a⊢;simp only[show ¬(i+1+e=i) by omega,if_false] at b;simp only[show ¬(i+1+e+1=i) by omega,show ¬(i+1+e=i) by omega,if_false]
     grind
  simp only[hW] at h;split at h
  ·rename_i K;rcases h with ⟨v,z,u⟩|⟨v,z,M,u⟩|⟨X,v,z,u⟩|⟨v,F,z,M,Q,u⟩
   ·exact p v m 1 A (.inr (.inl ⟨rfl,K,z,rfl⟩)) u (λ_ h=>h) (λ_ h=>h) (by simp) (by simp) (by simp) (by simp) (λ_ h=>h) (by simp) (by simp)
   ·exact p v m 2 _ (.inr (.inr (.inl ⟨rfl,K,z,rfl⟩))) u (λ_ h=>by grind) (λ_ h=>h) (λ_=>by simp) (by simp) (λ_=>M) (by simp) (λ_ h=>h) (by simp) (by simp)
   ·exact p v _ 3 _ (.inr (.inr (.inr (.inl ⟨rfl,K,X,z,rfl⟩)))) u (λ_ h=>h) (λ_ h=>h) (by simp) (by simp) (by simp) (by simp) (λ_ h=>by grind) (λ_=>by simp) (by simp)
   ·exact p v F 4 _ (.inr (.inr (.inr (.inr ⟨rfl,K,z⟩)))) u (λ_ h=>h) (λ_ h=>by grind) (by simp) (λ_=>by simp) (by simp) (λ_=>M) (λ_ h=>h) (by simp) (λ_=>Q)
  ·rename_i K;exact p undef m 0 A (.inl ⟨rfl,by grind,rfl,rfl⟩) h (λ_ h=>h) (λ_ h=>h) (by simp) (by simp) (by simp) (by simp) (λ_ h=>h) (by simp) (by simp)
end Go.aF
end
section
namespace Go.aF
def xf (P:bI) (C:FuncId->Array af->Mem->af->Mem->Prop):Prop:=∀f args m v m',C f args m v m'->∀(j:cj) (w:World) (kq:Array af),WF m->Rel P j m w->bP (de j) args.toList kq.toList->
 (∃ fn, P.funcs[f]? = J fn ∧ (fn.name == "runtime.NumGoroutine") = ak ∧ fn.body.isNone = ak) ∧
 Calls P f kq w λe w'=>∃bz c6,e= .returned bz/\Post P j m w c6 m' w'/\de c6 v bz
def Lf {j:cj} {n:Nat} (m:∀b e,j b=J e->b<n) {v d:af}:(eA j v d->h7 n v)/\(fC j v d->iv n v)/\(de j v d->low n v):=by
 have g:∀{R:af->af->Prop} {p:af->Prop},(∀a b,R a b->p a)->∀{l k:List af},bP R l k->∀v∈l,p v:=by
  intro R p o l;induction l with
  |nil=>intro k _ v f;simp at f
  |cons a l t=>
   intro k h v f;cases k with
   |nil=>exact h.elim
   |cons b k=>
    rcases ha.1 f with rfl|f
    ·exact o _ _ h.1
    ·exact t h.2 v f
 have w:∀v d:af,kY j v d->r4 n v:=by
  intro v d h;unfold kY at h;split at h
  ·obtain ⟨e,_,h,_⟩:=h;exact m _ _ h
  ·exact h.elim
 have q:∀{v d:af},eA j v d->h7 n v:=by
  intro v d h;cases v with
  |pointer a=>cases a with
   |none=>exact fs
   |some a=>obtain ⟨e,_,h,_⟩:=h;exact m _ _ h
  |slice a l c=>cases a with
   |none=>exact fs
   |some a=>obtain ⟨e,_,h,_⟩:=h;exact m _ _ h
  |map r=>cases r with
   |none=>exact fs
   |some r=>obtain ⟨e,h,_⟩:=h;exact m _ _ h
  |chan r=>cases r<;>exact h
  |func _ _ _=>obtain ⟨u,s,_,h⟩:=h;exact ⟨u,g (R:=kY j) (p:=r4 n) w h⟩
  |iface _ _=>exact h
  |agg _=>exact h
  |tuple _=>exact h
  |_=>exact fs
 have i:∀{v d:af},fC j v d->iv n v:=by
  intro v d h;cases v with
  |agg x=>obtain ⟨s,_,h⟩:=h;exact g (R:=eA j) (p:=h7 n) (λa b=>q) h
  |_=>simp only[fC] at h;simp only[iv];exact q h
 refine ⟨q,i, ?_⟩;intro h;cases v with
 |tuple x=>obtain ⟨s,_,h⟩:=h;exact g (R:=fC j) (p:=iv n) (λa b=>i) h
 |chan _=>trivial
 |func fn a b=>obtain ⟨z,s,_,h,y⟩:=h;exact ⟨g (R:=fC j) (p:=iv n) (λa b=>i) h,g (R:=fC j) (p:=iv n) (λa b=>i) y⟩
 |_=>simp only[de] at h;simp only[low];exact i h
def cj.below (j:cj) (n:Nat):cj:=λb=>if b<n then j b else ae
def q3 {j:cj} {n b:Nat} {e:kl} (h:j.below n b=J e):b<n/\j b=J e:=by
 grind [cj.below]
def KI {j:cj} {n b:Nat} {e:kl} (h:b<n) (a:j b=J e):j.below n b=J e:=by grind [cj.below]
def zj {j:cj} {n:Nat} {v d:af}:(eA j v d->h7 n v->eA (j.below n) v d)/\(fC j v d->iv n v->fC (j.below n) v d)/\(de j v d->low n v->de (j.below n) v d):=by
 have s:∀{R S:af->af->Prop} {p:af->Prop},(∀a b,R a b->p a->S a b)->∀{l k:List af},bP R l k->(∀v∈l,p v)->bP S l k:=by
  intro R S p t l;induction l with
  |nil=>intro k h _;cases k with|nil=>exact fs|cons _ _=>exact h.elim
  |cons a l x=>
   intro k h w;cases k with
   |nil=>exact h.elim
   |cons b k=>exact ⟨t _ _ h.1 (w a (by simp)),x h.2 λv y=>w v (by simp[y])⟩
 have z:∀v d:af,kY j v d->r4 n v->kY (j.below n) v d:=by
  intro v d h f;unfold kY at h⊢;split at h
  ·obtain ⟨e,g,m,i⟩:=h;exact ⟨e,g,KI f m,i⟩
  ·exact h.elim
 have u:∀{v d:af},eA j v d->h7 n v->eA (j.below n) v d:=by
  intro v d h f;cases v with
  |func _ _ _=>obtain ⟨o,q,C,h⟩:=h;exact ⟨o,q,C,s (R:=kY j) (S:=kY (j.below n)) (p:=r4 n) z h f.2⟩
  |pointer a=>cases a with
   |none=>exact h
   |some a=>obtain ⟨e,g,m,i⟩:=h;exact ⟨e,g,KI f m,i⟩
  |slice a l c=>cases a with
   |none=>exact h
   |some a=>obtain ⟨e,g,m,i⟩:=h;exact ⟨e,g,KI f m,i⟩
  |map r=>cases r with
   |none=>exact h
   |some r=>obtain ⟨e,m,i⟩:=h;exact ⟨e,KI f m,i⟩
  |_=>exact h
 have g:∀{v d:af},fC j v d->iv n v->fC (j.below n) v d:=by
  intro v d h f;cases v with
  |agg A=>obtain ⟨q,o,h⟩:=h;exact ⟨q,o,s (R:=eA j) (S:=eA (j.below n)) (p:=h7 n) (λa b=>u) h f⟩
  |_=>simp only[fC] at h⊢;simp only[iv] at f;exact u h f
 refine ⟨u,g, ?_⟩;intro h f;cases v with
 |tuple A=>obtain ⟨q,o,h⟩:=h;exact ⟨q,o,s (R:=fC j) (S:=fC (j.below n)) (p:=iv n) (λa b=>g) h f⟩
 |chan r=>cases r<;>exact h
 |func fn a b=>obtain ⟨D,q,o,h,B⟩:=h;exact ⟨D,q,o,s (R:=fC j) (S:=fC (j.below n)) (p:=iv n) (λa b=>g) h f.1,s (R:=fC j) (S:=fC (j.below n)) (p:=iv n) (λa b=>g) B f.2⟩
 |_=>simp only[de] at h⊢;simp only[low] at f;exact g h f
def bP.mapA {a b c:Type} {R:b->c->Prop} (f:a->b) (g:a->c) (A:Array a) (h:∀x∈A.toList,R (f x) (g x)):bP R (A.map f).toList (A.map g).toList:=by
 grind [ye,bP.map]
theorem ab0 {P : bI} {f : FuncId} {fn : Func} {args : Array af} {w : World} (bF : P.funcs[f]? = J fn) (aof : (fn.name == "runtime.NumGoroutine") = ak) (UX : fn.body.isNone = ak) : (callFunc f args).run P w = .ok (.enter f args) w := by
 grind [callFunc,kD,run_program,jE,nt]
theorem aeu {P:bI} {C:FuncId->Array af->Mem->af->Mem->Prop} {j:cj} {i:bS->af} {o:Oper} {m B:Mem} {w:World} {v:af} {a:Act} (h:hR P C i o m v B) (l:h3 j i a.eval o) (t:Rel P j m w) (L:WF m) (N:xf P C)
  {K:Act->World->Prop} {Q:Exit->Act->World->Prop} (A:∀e d c,Post P j m w c B d->de c v e->K (a.put o.dst e) d):o.wp P a w K Q:=by
 rcases aqQ h l t with ⟨n,e,d,c,D,I,r,p⟩|⟨f,q,H,J⟩
 ·unfold sM;rw[D];rcases I with rfl|⟨rfl,rfl⟩
  ·exact A e d c r p
  ·exact A undef d c r p
 ·obtain ⟨x,k,X,first,b,W,F,rfl⟩:=H;have s:=l x (by grind [dm,lh]);rw[F] at s;obtain ⟨z,u,V,M,E⟩:=s;have R:bP (de j) (first++k.map i++b).toList (z++k.map a.eval++u).toList:=by
   simp only[Yu];refine bP.append (bP.append (M.mono λ_ _=>de.wN) (bP.mapA _ _ _ λy T=> ?_)) (E.mono λ_ _=>de.wN);exact l y (by grind [dm,lh])
  obtain ⟨⟨fn,U,G,S⟩,g⟩:=N _ _ _ _ _ J j w _ L t R;have O:(execOp a.eval o).run P w= .ok (.enter f (z++k.map a.eval++u)) w:=by
   grind [execOp,resolve,Deferred.ofValue,invoke,ab0]
  unfold sM;rw[O,Oper.upon_enter];refine g.mono ?_
  grind
end Go.aF
end
section
namespace Go.aF
def aq1 {a:Array Oper} (h:vj a=aa) {i:Nat} {o:Oper} (b:a[i]? =J o) {e:Edge} (d:e∈o.after) (c:rC .any e=aa):e.on<i:=by
 grind [vj]
def V8 {a:Array Oper} (h:vj a=aa) {i x:Nat} {o y:Oper} (b:a[i]? =J o) (c:a[x]? =J y) (d:x<i) (e:sR a y o=aa):gD (kp a) i x=aa:=by
 grind [vj]
def Le (b:Array Oper) (S:Nat->Prop):Prop:=∀a o,S a->b[a]? =J o->∀e∈o.after,rC .any e=aa->S e.on
def tI (a:Array Nat) (o:Oper):Array Nat:=a.push (o.after.foldl (λs e=>if rC .any e then s|||2 ^ e.on|||a.getD e.on 0 else s) 0)
def Good (b:Array Oper) (i a:Nat):Prop:=∀x,a.testBit x=aa->∀S,Le b S->(∀o,b[i]? =J o->∀e∈o.after,rC .any e=aa->S e.on)->S x
def acP (a:Array Nat):∀(l:List Edge) (s x:Nat),(l.foldl (λs e=>if rC .any e then s|||2 ^ e.on|||a.getD e.on 0 else s) s).testBit x=aa->
  s.testBit x=aa\/∃e∈l,rC .any e=aa/\(x=e.on\/(a.getD e.on 0).testBit x=aa)
 |[],s,x,h=> .inl h
 |e::l,s,x,h=>by
  simp only[List.foldl_cons] at h;rcases acP a l _ x h with h|⟨f,b,d,c⟩
  ·grind
  grind
def acb {ops:Array Oper}:∀(l b:List Oper) (a:Array Nat),ops.toList=b++l->a.size=b.length->(∀i,i<a.size->Good ops i (a.getD i 0))->
  ∀i,Good ops i ((l.foldl tI a).getD i 0)
 |[],b,a,m,n,p=>by
  intro i;by_cases t:i<a.size
  ·grind
  ·simp only[List.foldl_nil];intro x d
   grind
 |o::l,b,a,m,n,p=>by
  simp only[List.foldl_cons];refine acb l (b++[o]) (tI a o) (by grind) (by grind [tI]) ?_;intro i t;by_cases h:i<a.size
  ·simp_all [tI,Array.getElem_push]
  ·have f:i=a.size:=by grind [tI]
   subst f;have j:ops[a.size]? =J o:=by rw[<-Array.getElem?_toList,m,n];simp
   intro x d S q u;have r:(tI a o).getD a.size 0=o.after.foldl (λs e=>if rC .any e then s|||2 ^ e.on|||a.getD e.on 0 else s) 0:=by simp[tI,Tp]
   rw[r,<-Array.foldl_toList] at d;rcases acP a _ 0 x d with C|⟨e,D,z,k⟩
   ·grind
   ·have g:=u o j e (by grind) z;rcases k with rfl|k
    ·grind
    ·by_cases v:e.on<a.size
     ·exact p e.on v x k S q λB A w c y=>q e.on B g A w c y
     grind
def ab2 {a:Array Oper} {i x:Nat} (h:gD (kp a) i x=aa) {S:Nat->Prop} (d:Le a S) (c:∀o,a[i]? =J o->∀e∈o.after,rC .any e=aa->S e.on):S x:=by
 have b:kp a=a.toList.foldl tI #[]:=by rw[show kp a=a.foldl tI #[] from rfl,<-Array.foldl_toList]
 have:=acb (ops:=a) a.toList [] #[] (by rfl) (by rfl) (by grind) i;rw[<-b] at this;exact this x h S d c
def WX {P:bI} {C:FuncId->Array af->Mem->af->Mem->Prop} {a:List Oper} {B:Array Nat} {k:Nat->Nat->af} {b:Nat->Mem} {l:Nat->af} {v:Nat->Nat} (T:ys P C a B 0 a k b l v)
  (e:pB C) (u:∀o∈a,∀x∈o.op.operands,nI x=aa) (s:WF (b 0)) (p:∀t,low (b 0).next (k 0 t)):∀i,i<=a.length->WF (b i)/\(∀t,low (b i).next (k i t))/\(∀n,n<i->(b n).next<=(b (n+1)).next/\low (b (n+1)).next (l n))
 |0,_=>⟨s,p,λn A=>by omega⟩
 |i+1,z=>by
  obtain ⟨h,g,y⟩:=WX T e u s p i (by omega);have m:a[i]? =J a[i]:=by grind
  have q:=T.run i a[i] m;have r:=T.frame i a[i] m;simp only[lH] at q r;have j:=u a[i] (by simp);have f:low (b (i+1)).next (l i)/\WF (b (i+1))/\(b i).next<=(b (i+1)).next:=by
   rcases q with ⟨_,_,w,d⟩|⟨_,_,c,d⟩|⟨_,_,c,d⟩|⟨_,_,D,c,d⟩|⟨_,_,c⟩
   ·grind [Kz]
   ·rw[d];exact w8 (.pure c) h g e j
   ·rw[d];exact w8 (.read c) h g e j
   ·rw[d];exact w8 (.new c) h g e j
   ·exact w8 (.fX c) h g e j
  refine ⟨f.2.1, ?_, ?_⟩
  ·rw[r]
   grind [Ca,WO]
  grind
def acu {c:Nat->Mem} {g:Nat->af} {k:Nat} (h:∀n,n<k->(c n).next<=(c (n+1)).next/\low (c (n+1)).next (g n)):∀b a,a<=b->b<=k->(c a).next<=(c b).next
 |0,a,f,d=>by grind
 |b+1,a,f,d=>by
  by_cases e:a=b+1
  ·grind
  ·exact jd (acu h b a (by omega) (by omega)) (h b (by omega)).1
def Wj {P:bI} {C:FuncId->Array af->Mem->af->Mem->Prop} {a:List Oper} {B:Array Nat} {b:Nat->Nat->af} {l:Nat->Mem} {h:Nat->af} {k:Nat->Nat} (T:ys P C a B 0 a b l h k) (t:Nat):
  ∀i,i<=a.length->((∃x o,x<i/\a[x]? =J o/\o.dst=J t/\b i t=h x/\∀y p,x<y->y<i->a[y]? =J p->p.dst≠J t)\/
   ((∀x o,x<i->a[x]? =J o->o.dst≠J t)/\b i t=b 0 t))
 |0,_=> .inr ⟨λx o n=>by omega,rfl⟩
 |i+1,q=>by
  have c:a[i]? =J a[i]:=by grind
  have f:=T.frame i a[i] c;simp only[lH] at f;by_cases j:a[i].dst=J t
  ·left;refine ⟨i,a[i],by omega,c,j, ?_,λy p g e=>by omega⟩
   grind [set]
  ·have u:b (i+1) t=b i t:=by
    rw[f];cases v:a[i].dst with
    |none=>rfl
    |some d=>
     grind [set]
   rcases Wj T t i (by omega) with ⟨x,o,g,e,m,r,s⟩|⟨g,e⟩
   ·grind
   grind
def Ku {P:bI} {C:FuncId->Array af->Mem->af->Mem->Prop} {c:List Oper} {B:Array Nat} {w:Nat->Nat->af} {a:Nat->Mem} {G:Nat->af} {d:Nat->Nat} (T:ys P C c B 0 c w a G d) {s:Nat}:
  ∀z,s<=z->z<=c.length->(∀e,s<=e->e<z->d e≠4)->(∀b,b<(a s).next->(a z).blk b=(a s).blk b)/\
   (∀x,s<=x->x<z->d x=3->∀o f,c[x]? =J o->a (x+1)=(a x).push f->(a z).blk (a x).next=f)/\(∀x,s<=x->x<z->(a x).next<=(a z).next/\(d x=3->(a x).next<(a z).next))
 |z,N,M,A=>by
  induction z with
  |zero=>
   have:s=0:=by omega
   subst this;exact ⟨λ_ _=>rfl,λx i h=>by omega,λx i h=>by omega⟩
  |succ z q=>
   by_cases y:s=z+1
   ·subst y;exact ⟨λ_ _=>rfl,λx i h=>by omega,λx i h=>by omega⟩
   ·obtain ⟨i,h,L⟩:=q (by omega) (by omega) (λe H v=>A e H (by omega));have r:c[z]? =J c[z]:=by grind
    have n:=T.run z c[z] r;simp only[lH] at n;have t:(a s).next<=(a z).next:=by
     grind
    have p:a (z+1)=a z->d z≠3->(∀b,b<(a s).next->(a (z+1)).blk b=(a s).blk b)/\(∀x,s<=x->x<z+1->d x=3->∀o f,c[x]? =J o->a (x+1)=(a x).push f->(a (z+1)).blk (a x).next=f)/\(∀x,s<=x->x<z+1->(a x).next<=(a (z+1)).next/\(d x=3->(a x).next<(a (z+1)).next)):=λO g=>⟨λb u=>by grind,
     λx j k E o f F D=>by
      grind,
     λx j k=>by
      grind⟩
    rcases n with ⟨g,_,K,m⟩|⟨g,_,l,m⟩|⟨g,_,l,m⟩|⟨g,_,f,l,m⟩|⟨g,_,l⟩
    ·grind
    ·grind
    ·grind
    ·refine ⟨λb u=> ?_,λx j k E o I F D=> ?_,λx j k=> ?_⟩
     ·grind [Mem.push]
     ·grind [Mem.push]
     grind [Mem.push]
    grind
end Go.aF
end
section
namespace Go.aF
def Rel.place {P:bI} {j:cj} {M:Mem} {w t:World} {a:Nat} {X:bW} {e:kl} {ob:Obj} (h:Rel P j M w) (E:j a=ae) (A:a<M.next) (N:AF P j w t X e ob):
  Rel P (j.up a e) (M.put a X) t:=by
 have q:=cj.P9 (e:=e) E;have k:∀c,c<w.heap.size->t.heap[c]? =w.heap[c]? :=λc H=>by rw[N.heap,Array.getElem?_push,if_neg (by omega)]
 have G:t.heap.size=w.heap.size+1:=by rw[N.heap];simp
 have F:t.heap[w.heap.size]? =J ob:=by rw[N.heap];simp
 have d:∀b,b≠a->(M.put a X).blk b=M.blk b:=λb A=>by grind [Mem.put]
 have z:(M.put a X).blk a=X:=by simp[Mem.put]
 have n:∀b x,j.up a e b=J x->b≠a->j b=J x:=λb x A I=>by grind [cj.up]
 have C:∀x,j.up a e a=J x->x=e:=λx m=>by grind [cj.up]
 refine ⟨⟨?_, ?_, ?_⟩,h.mE.val.keep λg u=>k g (h.mE.val.lt u),λb x i o u=> ?_⟩
 rotate_right
 ·by_cases f:b=a
  ·subst f;have:=h.mE.val.lt u;rw[C x i,N.blk] at this;omega
  ·rw[d b f] at o;exact h.mE.sep b x (n b x i f) o u
 ·intro b x i;by_cases f:b=a
  ·subst f;have:=C x i;subst this;exact ⟨A,by rw[N.blk];omega⟩
  ·have:=h.lt b x (n b x i f);exact ⟨this.1,by omega⟩
 ·intro b x i;by_cases f:b=a
  ·subst f;have m:=C x i;subst m;rw[z,N.blk,F];exact N.obj.mono q
  ·have s:=n b x i f;rw[d b f,k _ (h.lt b x s).2];exact (h.obj b x s).mono q
 ·intro b l x r y p o D B;by_cases f:b=a
  ·by_cases v:l=a
   ·grind
   ·have m:x=e:=by grind
    have:=(h.lt l r (n l r p v)).2;rw[<-B,m,N.blk] at this;omega
  ·have s:=n b x y f;by_cases v:l=a
   ·have m:r=e:=by grind
    have:=(h.lt b x s).2;rw[B,m,N.blk] at this;omega
   ·rw[d b f] at o;rw[d l v] at D;exact h.inj b l x r s (n l r p v) o D B
def ap6 {P:bI} {j:cj} {n:Nat} {b:bV} {a:List af} {d:af} (h:fC j (ey (ek P b) a) d) (e:∀c∈a,h7 n c):fC (j.below n) (ey (ek P b) a) d:=by
 refine zj.2.1 h ?_;cases f:ek P b with
 |true=>grind [ey,iv]
 |false=>
  cases a with
  |nil=>grind [ey,fC,eA,undef]
  |cons c a=>exact KQ (e c (by simp))
def qI.below {P:bI} {j:cj} {n:Nat} {e:kl} {o:Option Obj} {x:bW} (h:qI P j e o x) (r:qe n x):qI P (j.below n) e o x:=by
 cases x with
 |dead=>trivial
 |ro J=>intro i v l;obtain ⟨f,t,bZ,w,g,k,b⟩:=h i v l;exact ⟨f,t,bZ,w,g,k,zj.1 b (r i v l)⟩
 |own L t=>obtain ⟨f,bZ,g,k,b,a,s,C⟩:=h;refine ⟨f,bZ,g,k,b,a,s,λi v l=> ?_⟩;obtain ⟨w,D,F⟩:=C i v l;exact ⟨w,D,zj.1 F (r v (mM l))⟩
 |lock _ _ _ _=>exact h.elim
 |map L u=>
  obtain ⟨B,A,f,d,E,g,k,b,a,s⟩:=h;have y:∀p∈E,∀c∈p.2,h7 n c:=λp H c G=>r c (by rw[b.eq];grind);refine ⟨B,A,f,d,E,g,k,b, ?_,s⟩;clear g b r s;generalize f.toList=m at a;induction E generalizing m with
  |nil=>cases m with
   |nil=>trivial
   |cons _ _=>exact a.elim
  |cons p E z=>
   cases m with
   |nil=>exact a.elim
   |cons x m=>exact ⟨⟨a.1.1,a.1.2.1,ap6 a.1.2.2 (y p (by simp))⟩,z (λq I=>y q (by grind)) m a.2⟩
def Rel.below {P:bI} {j:cj} {M m:Mem} {w:World} (h:Rel P j M w) (l:WF m) (f:∀b e,j b=J e->b<m.next->M.blk b=m.blk b):Rel P (j.below m.next) m w:=by
 refine ⟨⟨?_, ?_, ?_⟩,h.mE.val,λb e c g=>by obtain ⟨d,a⟩:=q3 c;exact h.mE.sep b e a (by grind)⟩
 ·intro b e c;obtain ⟨d,a⟩:=q3 c;exact ⟨d,(h.lt b e a).2⟩
 ·intro b e c;obtain ⟨d,a⟩:=q3 c;rw[<-f b e a d];exact (h.obj b e a).below (by rw[f b e a d];exact l.low b)
 ·intro b k e i c n g q p;obtain ⟨d,a⟩:=q3 c;obtain ⟨r,o⟩:=q3 n;exact h.inj b k e i a o (by grind) (by grind) p
def cj.join (a:cj) (n:Nat) (j:cj):cj:=λb=>if b<n then a b else j b
def Mem.join (a:Mem) (M:Mem):Mem:={next:=M.next,blk:=λb=>if b<a.next then a.blk b else M.blk b}
def Rel.join {P:bI} {j k:cj} {M m a:Mem} {w B:World} (h:Rel P j M w) (C:∀b e,j b=J e->b<m.next->M.blk b=m.blk b) (p:Post P (j.below m.next) m w k a B)
  (W:∀b e,j b=J e->b<m.next\/a.next<=b) (T:a.next<=M.next):
  Rel P (k.join a.next j) (a.join M) B/\(∀b e,j b=J e->k.join a.next j b=J e)/\(∀b e,k b=J e->k.join a.next j b=J e):=by
 have U:=p.next;have G:∀b e,k b=J e->k.join a.next j b=J e:=λb e d=>by
  have:=(p.rel.lt b e d).1
  grind [cj.join]
 have N:∀b,b<m.next->k b=j b:=λb d=>by rw[p.ext b d];grind [cj.below]
 have F:∀b e,j b=J e->k.join a.next j b=J e:=λb e d=>by
  grind [cj.join]
 have split:∀b e,k.join a.next j b=J e->(b<a.next/\k b=J e)\/(a.next<=b/\j b=J e):=λb e d=>by
  grind [cj.join]
 have r:∀b,b<a.next->(a.join M).blk b=a.blk b:=λb d=>by grind [Mem.join]
 have s:∀b,a.next<=b->(a.join M).blk b=M.blk b:=λb d=>by grind [Mem.join]
 have x:∀b e,j b=J e->a.next<=b->(M.blk b).live=aa->B.heap[e.blk]? =w.heap[e.blk]? :=λb e d D l=>by refine p.gd.block e.blk (h.lt b e d).2 λz y A i R=> ?_;obtain ⟨g,c⟩:=q3 A;have:=h.inj z b y e c d (by grind) l R;omega
 refine ⟨⟨⟨?_, ?_, ?_⟩,p.rel.mE.val,λb e d i=> ?_⟩,F,G⟩
 rotate_right
 ·rcases split b e d with ⟨g,c⟩|⟨g,c⟩
  ·rw[r b g] at i;exact p.rel.mE.sep b e c i
  ·rw[s b g] at i;exact h.mE.sep b e c i
 ·intro b e d;rcases split b e d with ⟨g,c⟩|⟨g,c⟩
  ·exact ⟨by grind [Mem.join],(p.rel.lt b e c).2⟩
  ·have:=h.lt b e c;exact ⟨this.1,hS this.2 p.gd.size⟩
 ·intro b e d;rcases split b e d with ⟨g,c⟩|⟨g,c⟩
  ·rw[r b g];exact (p.rel.obj b e c).mono G
  ·rw[s b g];cases l:(M.blk b).live with
   |false=>
    cases d:M.blk b<;>simp[d,bW.live] at l
    trivial
   |true=>rw[x b e c g l];exact (h.obj b e c).mono F
 ·
  have L:∀b f e n,b<a.next->k b=J e->a.next<=f->j f=J n->(M.blk f).live=aa->(((a.blk b).iO=aa)\/((M.blk f).iO=aa/\(a.blk b).live=aa))->e.blk≠n.blk:=by
   intro b f e n g c v o E H q;rcases mq b m.next with t|D
   ·have u:j b=J e:=by grind
    have K:b=f:=by
     rcases H with i|⟨S,l⟩
     ·exact h.inj b f e n u o (by rw[C b e u t];exact p.ew b t i) E q
     ·exact (h.inj f b n e o u S (by rw[C b e u t];exact p.alive b t l) q.symm).symm
    omega
   ·rcases p.fresh b e c D with V|⟨z,y,A,Y,I⟩
    ·have:=(h.lt f n o).2;omega
    ·obtain ⟨X,Q⟩:=q3 A;have:=h.inj z f y n Q o (by grind) E (by grind);omega
  intro b f e n d O i l q;rcases split b e d with ⟨g,c⟩|⟨g,c⟩<;>rcases split f n O with ⟨v,o⟩|⟨v,o⟩
  ·rw[r b g] at i;rw[r f v] at l;exact p.rel.inj b f e n c o i l q
  ·grind
  ·grind [bW.iO,bW.live]
  ·rw[s b g] at i;rw[s f v] at l;exact h.inj b f e n c o i l q
end Go.aF
end
section
namespace Go.aF
structure Ctx (P:bI) (C:FuncId->Array af->Mem->af->Mem->Prop) (ops:Array Oper) (N:Nat) (bY:Nat->Nat->af) (ms:Nat->Mem) (vs:Nat->af) (dA:Nat->Nat) (gj:cj) (ez:World):Prop where
 T:ys P C ops.toList (kp ops) 0 ops.toList bY ms vs dA
 ok:vj ops=aa
 Kl:∀o∈ops.toList,∀x∈o.op.operands,nI x=aa
 dst:∀o∈ops.toList,∀d,o.dst=J d->d<N
 keeps:pB C
 sound:xf P C
 ed:Rel P gj (ms 0) ez
 afx:WF (ms 0)
 h7:∀t,low (ms 0).next (bY 0 t)
structure hK (P:bI) (ops:Array Oper) (ds:List Deferred) (N:Nat) (bY:Nat->Nat->af) (ms:Nat->Mem) (vs:Nat->af) (dA:Nat->Nat) (gj:cj) (ez:World) (listed:Array Bool) (a:Act) (w:World) (s:Nat) (M:Mem) (j:cj):Prop where
 size:listed.size=ops.size
 closed:Le ops (λi=>listed.getD i ak=aa)
 sle:s<=ops.size
 last:s=0\/dA (s - 1)=4
 iC:∀i,i<ops.size->dA i=4->(listed.getD i ak=aa↔i<s)
 rel:Rel P j M w
 AX:M.next=(ms ops.size).next
 agree:∀b,b<(ms s).next->M.blk b=(ms s).blk b
 Jm:∀b e,j b=J e->b<(ms s).next\/∃i,s<=i/\i<ops.size/\listed.getD i ak=aa/\dA i=3/\b=(ms i).next
 xB:∀i,i<ops.size->dA i=3->listed.getD i ak=ak->j (ms i).next=ae
 Jt:∀i,s<=i->i<ops.size->listed.getD i ak=aa->dA i=3->∀iK,ms (i+1)=(ms i).push iK->M.blk (ms i).next=iK
 defers:a.defers=ds
 tmps:a.tmps.size=N
 cur:∀t,(∃i o,ops[i]? =J o/\listed.getD i ak=aa/\o.dst=J t/\(∀x p,i<x->ops[x]? =J p->listed.getD x ak=aa->p.dst≠J t)/\de j (vs i) (a.tmps.getD t undef))\/
  ((∀x p,ops[x]? =J p->listed.getD x ak=aa->p.dst≠J t)/\de j (bY 0 t) (a.tmps.getD t undef))
 gd:sC gj (ms 0) ez w
 ext:∀b,b<(ms 0).next->j b=gj b
 fresh:∀b e,j b=J e->(ms 0).next<=b->ez.heap.size<=e.blk\/∃fz eV,gj fz=J eV/\((ms 0).blk fz).iO=aa/\eV.blk=e.blk
 ew:∀b,b<(ms 0).next->(M.blk b).iO=aa->((ms 0).blk b).iO=aa
 alive:∀b,b<(ms 0).next->(M.blk b).live=aa->((ms 0).blk b).live=aa
section
variable {P:bI} {C:FuncId->Array af->Mem->af->Mem->Prop} {ops:Array Oper} {N:Nat} {bY:Nat->Nat->af} {ms:Nat->Mem} {vs:Nat->af} {dA:Nat->Nat} {gj:cj} {ez:World}
def Ctx.wf (X:Ctx P C ops N bY ms vs dA gj ez):∀i,i<=ops.size->WF (ms i)/\(∀t,low (ms i).next (bY i t)):=λi a=>by
 have:=WX X.T X.keeps X.Kl X.afx X.h7 i (by grind)
 grind
def Ctx.mono (X:Ctx P C ops N bY ms vs dA gj ez):∀a b,a<=b->b<=ops.size->(ms a).next<=(ms b).next:=λa b d c=>by
 have:=WX X.T X.keeps X.Kl X.afx X.h7 ops.size (by simp);exact acu this.2.2 b a d c
def Ctx.run (X:Ctx P C ops N bY ms vs dA gj ez) {i:Nat} {o:Oper} (a:ops[i]? =J o):XJ P C ops.toList o (bY i) (ms i) (vs i) (ms (i+1)) (dA i):=by
 have:=X.T.run i o (by grind)
 grind
def Ctx.new (X:Ctx P C ops N bY ms vs dA gj ez) {i:Nat} (d:i<ops.size) (f:dA i=3):∃o a,ops[i]? =J o/\jC P (bk (bY i)) o (ms i).next a (vs i)/\ms (i+1)=(ms i).push a:=by
 have c:ops[i]? =J ops[i]:=by grind
 rcases X.run c with ⟨b,_⟩|⟨b,_⟩|⟨b,_⟩|⟨_,_,a,e,g⟩|⟨b,_⟩
 ·omega
 ·omega
 ·omega
 ·grind
 grind
def Ctx.BG (X:Ctx P C ops N bY ms vs dA gj ez) {i:Nat} (a:i<ops.size) (b:dA i=3):(ms i).next<(ms (i+1)).next:=by
 obtain ⟨o,d,_,_,c⟩:=X.new a b
 grind [Mem.push]
theorem Wt {e:bS->af} {o:Oper} {m d:Mem} {v:af} (h:hR P C e o m v d):lT o.op=aa:=by
 cases h with
 |call f c v d h k=>obtain ⟨x,l,t,first,a,h,_⟩:=h;grind [lT]
 |mapUpdate p x s r u j i b L n w E g q h=>grind [lT]
 |_=>grind [lT]
 all_goals simp[*,lT]
def Ctx.abc (X:Ctx P C ops N bY ms vs dA gj ez) {i:Nat} {o:Oper} (b:ops[i]? =J o) (d:dA i=4):lT o.op=aa:=by
 rcases X.run b with ⟨a,_⟩|⟨a,_⟩|⟨a,_⟩|⟨a,_⟩|⟨_,_,c⟩
 ·omega
 ·omega
 ·omega
 ·omega
 grind [Wt]
variable {ds:List Deferred} {listed:Array Bool} {a:Act} {w:World} {s:Nat} {M:Mem} {j:cj}
def hK.T2 (X:Ctx P C ops N bY ms vs dA gj ez) (D:hK P ops ds N bY ms vs dA gj ez listed a w s M j) {z:Nat} (p:s<=z) (v:z<=ops.size) (t:∀e,s<=e->e<z->dA e≠4):
  ∀b e,j b=J e->b<(ms z).next->M.blk b=(ms z).blk b:=by
 obtain ⟨q,r,A⟩:=Ku X.T z p (by grind) t;intro b e n x;rcases mq b (ms s).next with h|h
 ·rw[D.agree b h,q b h]
 ·rcases D.Jm b e n with y|⟨i,g,f,m,d,rfl⟩
  ·omega
  ·have c:i<z:=by
    rcases mq i z with h|h
    ·grind
    ·have:=X.mono z i h (by omega);omega
   obtain ⟨o,l,u,_,k⟩:=X.new f d;rw[D.Jt i g f m d l k,r i g c d o l (by grind) k]
def hK.ot (X:Ctx P C ops N bY ms vs dA gj ez) (D:hK P ops ds N bY ms vs dA gj ez listed a w s M j) {z:Nat} (k:s<=z) (g:z<=ops.size) (l:∀e,s<=e->e<z->dA e≠4):uq P j (ms z) w:=by
 have n:=D.T2 X k g l;have f:=(X.wf z g).1;have d:=D.rel.ot;refine ⟨λb e o v c m=> ?_,λb e L t c i=> ?_,λb e L u c i=> ?_,d.mE⟩
 ·have h:b<(ms z).next:=f.lt (by grind [Mem.load]);refine d.load b e o v c ?_
  grind [Mem.load]
 ·have h:b<(ms z).next:=f.lt (by grind);exact d.own b e L t c (by grind)
 ·have h:b<(ms z).next:=f.lt (by grind);exact d.map b e L u c (by grind)
structure nr (ops:Array Oper) (listed:Array Bool) (i:Nat) (o:Oper):Prop where
 at_:ops[i]? =J o
 not:listed.getD i ak=ak
 Z6:∀e∈o.after,rC .any e=aa->listed.getD e.on ak=aa
def nr.gD (D:hK P ops ds N bY ms vs dA gj ez listed a w s M j) {i:Nat} {o:Oper} (R:nr ops listed i o) {x:Nat} (h:aF.gD (kp ops) i x=aa):listed.getD x ak=aa:=
 ab2 h D.closed λc b=>by rw[R.at_] at b;cases b;exact R.Z6
def hK.T3 (D:hK P ops ds N bY ms vs dA gj ez listed a w s M j) {i x:Nat} (b:listed.getD i ak=aa) (h:aF.gD (kp ops) i x=aa):listed.getD x ak=aa:=
 ab2 h D.closed λd c=>D.closed i d b c
def nr.afy (X:Ctx P C ops N bY ms vs dA gj ez) (D:hK P ops ds N bY ms vs dA gj ez listed a w s M j) {i:Nat} {o:Oper} (R:nr ops listed i o) {t:Nat} (d:t∈vh ops o) {x:Nat} {p:Oper} (b:ops[x]? =J p) (e:p.dst=J t):
  (listed.getD x ak=aa↔x<i)\/x=i:=by
 rcases TJ x i with h|h|h
 ·left;refine ⟨λ_=>h,λ_=> ?_⟩;refine R.gD D (V8 X.ok R.at_ b h ?_)
  grind [sR]
 ·grind
 ·left;refine ⟨λc=> ?_,λf=>by omega⟩;have:listed.getD i ak=aa:=D.T3 c (V8 X.ok b R.at_ h (by grind [sR]));rw[R.not] at this
  grind
def hK.slot (X:Ctx P C ops N bY ms vs dA gj ez) (D:hK P ops ds N bY ms vs dA gj ez listed a w s M j) {i:Nat} {o:Oper} (R:nr ops listed i o) {t:Nat} (d:t∈vh ops o):de j (bY i t) (a.tmps.getD t undef):=by
 have z:i<ops.size:=(Ij.1 R.at_).1;have E:=λ{x:Nat} {p:Oper} (h:ops[x]? =J p) (k:p.dst=J t)=>R.afy X D d h k;have G:∀{x:Nat},x=i->listed.getD x ak=aa->False:=λg e=>by subst g;rw[R.not] at e;grind
 rcases Wj X.T t i (by grind) with ⟨x,p,r,f,v,A,B⟩|⟨r,f⟩
 ·have F:ops[x]? =J p:=by grind
  have u:listed.getD x ak=aa:=by
   grind
  rcases D.cur t with ⟨y,q,b,c,l,m,n⟩|⟨b,_⟩
  ·grind [TJ]
  grind
 ·rcases D.cur t with ⟨y,q,b,c,l,m,n⟩|⟨_,c⟩
  ·grind
  grind
def Xw {b:Nat->af} {a:Act} {j:cj} {x:bS} (c:nI x=aa) (h:∀t,x= .tmp t->de j (b t) (a.tmps.getD t undef)):de j (bk b x) (a.eval x):=by
 cases x with
 |tmp t=>exact h t rfl
 |const v=>exact acZ c
 |global g=>show af.pointer _=_;rw[show g*4096 / 4096=g by omega,show g*4096%4096=0 by omega]
 |func f=>exact ⟨#[],#[],rfl,fs,fs⟩
def hK.apL (X:Ctx P C ops N bY ms vs dA gj ez) (D:hK P ops ds N bY ms vs dA gj ez listed a w s M j) {i:Nat} {o:Oper} (R:nr ops listed i o):h3 j (bk (bY i)) a.eval o:=by
 intro x c;have d:o∈ops.toList:=by have:=Array.mem_of_getElem? R.at_;grind
 refine Xw (X.Kl o d x c) λt b=>D.slot X R ?_;subst b;simp only[vh,kU,List.mem_filterMap];exact .inl (.inl ⟨.tmp t,by grind,rfl⟩)
theorem aqI {j:cj} {v a:af} (h:de j v a) (m:∀b,v≠ .bool b):∀b,a≠ .bool b:=by
 intro b i;subst i;cases v with
 |bool n=>grind
 |pointer q=>cases q with
  |none=>cases h
  |some q=>obtain ⟨e,_,_,h⟩:=h;grind
 |slice q l c=>cases q with
  |none=>cases h
  |some q=>obtain ⟨e,_,_,h⟩:=h;grind
 |map r=>cases r with
  |none=>cases h
  |some r=>obtain ⟨e,_,h⟩:=h;grind
 |agg g=>obtain ⟨d,h,_⟩:=h;grind
 |tuple g=>obtain ⟨d,h,_⟩:=h;grind
 |func fn f c=>obtain ⟨d,o,h,_⟩:=h;grind
 |chan r=>cases r with
  |none=>exact h b rfl
  |some k=>cases h
 |iface _ _=>exact h
 |_=>cases h
def acO {c:Array Oper} {N:Nat} {k:Nat->af} {a:Act} {j:cj} {o:Oper} (s:a.tmps.size=N) (t:∀p∈c.toList,∀d,p.dst=J d->d<N) (h:∀g w d,o.guard=J (g,w)->(c[g]?).bind (·.dst)=J d->de j (k d) (a.tmps.getD d undef)):
  qK o (yielded c a.tmps)=wanted c.toList k o:=by
 unfold qK wanted;cases q:o.guard with
 |none=>rfl
 |some i=>
  obtain ⟨g,e⟩:=i;simp only[yielded,Array.getElem?_toList];cases n:(c[g]?).bind (·.dst) with
  |none=>rfl
  |some d=>
   have l:=h g e d q n;have r:d<a.tmps.size:=by
    grind
   have m:a.tmps[d]? =J (a.tmps.getD d undef):=by simp_all
   simp only[Option.bind_some,m];by_cases f:∃b,k d= .bool b
   ·obtain ⟨b,f⟩:=f;rw[f] at l;rw[f,l.bool];rfl
   grind [aqI]
theorem hK.wanted (X:Ctx P C ops N bY ms vs dA gj ez) (D:hK P ops ds N bY ms vs dA gj ez listed a w s M j) {i:Nat} {o:Oper} (R:nr ops listed i o):qK o (yielded ops a.tmps)=aF.wanted ops.toList (bY i) o:=by
 refine acO D.tmps X.dst λg b d e c=>D.slot X R ?_
 grind [vh]
end
end Go.aF
end
section
namespace Go.aF
theorem mC {A:Array Bool} {i x:Nat} (c:i<A.size):((A.setIfInBounds i aa).getD x ak=aa)↔(x=i\/A.getD x ak=aa):=by
 simp only[Tp,afN];by_cases a:x<A.size
 ·simp only[a,dite_true];by_cases b:x=i
  ·simp_all
  simp_all [Ne.symm]
 grind
theorem Kw {A:Array Bool} {i x:Nat} (a:i<A.size) (h:(A.setIfInBounds i aa).getD x ak=ak):x≠i/\A.getD x ak=ak:=by
 grind [mC]
def vi {a:Act} {d:Option Tmp} {v:af}:(a.put d v).tmps.size=a.tmps.size/\(a.put d v).defers=a.defers:=by
 cases d<;>simp[qB]
theorem Xe {a:Act} {d t:Nat} {v:af} (c:d<a.tmps.size):(a.put (J d) v).tmps.getD t undef=if t=d then v else a.tmps.getD t undef:=by
 simp only[qB,Tp,afN];by_cases b:t=d
 ·simp_all
 simp_all [Ne.symm]
section
variable {P:bI} {C:FuncId->Array af->Mem->af->Mem->Prop} {ops:Array Oper} {N:Nat} {bY:Nat->Nat->af} {ms:Nat->Mem} {vs:Nat->af} {ds:List Deferred} {dA:Nat->Nat} {gj:cj} {ez:World}
variable {listed:Array Bool} {a:Act} {w:World} {s:Nat} {M:Mem} {j:cj}
def nr.lt {i:Nat} {o:Oper} (R:nr ops listed i o):i<ops.size:=(Ij.1 R.at_).1
def hK.Uc (D:hK P ops ds N bY ms vs dA gj ez listed a w s M j) {i:Nat} {o:Oper} (R:nr ops listed i o):Le ops (λx=>(listed.setIfInBounds i aa).getD x ak=aa):=by
 have f:i<listed.size:=by rw[D.size];exact R.lt
 intro x p b c e g d;refine (mC f).2 (.inr ?_);rcases (mC f).1 b with rfl|b
 ·rw[R.at_] at c;cases c;exact R.Z6 e g d
 ·exact D.closed x p b c e g d
def hK.Uf (X:Ctx P C ops N bY ms vs dA gj ez) (D:hK P ops ds N bY ms vs dA gj ez listed a w s M j) {i:Nat} {o:Oper} (R:nr ops listed i o) {l:cj} (z:∀b e,j b=J e->l b=J e) {k:af} (L:de l (vs i) k):
  ∀t,(∃x p,ops[x]? =J p/\(listed.setIfInBounds i aa).getD x ak=aa/\p.dst=J t/\(∀y q,x<y->ops[y]? =J q->(listed.setIfInBounds i aa).getD y ak=aa->q.dst≠J t)/\de l (vs x) ((a.put o.dst k).tmps.getD t undef))\/
  ((∀x p,ops[x]? =J p->(listed.setIfInBounds i aa).getD x ak=aa->p.dst≠J t)/\de l (bY 0 t) ((a.put o.dst k).tmps.getD t undef)):=by
 have f:i<listed.size:=by rw[D.size];exact R.lt
 have r:o∈ops.toList:=by have:=Array.mem_of_getElem? R.at_;grind
 intro t;by_cases u:o.dst=J t
 ·left;refine ⟨i,o,R.at_,(mC f).2 (.inl rfl),u,λy q B g c K=> ?_, ?_⟩
  ·rcases (mC f).1 c with h|h
   ·omega
   ·have A:t∈vh ops o:=by grind [vh]
    rcases R.afy X D A g K with F|F
    ·grind
    grind
  ·have E:t<a.tmps.size:=by rw[D.tmps];exact X.dst o r t u
   grind [Xe]
 ·have m:(a.put o.dst k).tmps.getD t undef=a.tmps.getD t undef:=by
   cases I:o.dst with
   |none=>rfl
   |some d=>
    have E:d<a.tmps.size:=by rw[D.tmps];exact X.dst o r d I
    grind [Xe]
  rw[m];rcases D.cur t with ⟨x,p,v,n,G,O,H⟩|⟨v,n⟩
  ·left;refine ⟨x,p,v,(mC f).2 (.inr n),G,λy q B g c=> ?_,H.mono z⟩;rcases (mC f).1 c with h|h
   ·subst h;rw[R.at_] at g;grind
   grind
  ·right;refine ⟨λy q g c=> ?_,n.mono z⟩;rcases (mC f).1 c with h|h
   ·subst h;rw[R.at_] at g;grind
   grind
def hK.quiet (X:Ctx P C ops N bY ms vs dA gj ez) (D:hK P ops ds N bY ms vs dA gj ez listed a w s M j) {i:Nat} {o:Oper} (R:nr ops listed i o) (r:dA i≠3) (t:dA i≠4) {m:af} (p:de j (vs i) m):
  hK P ops ds N bY ms vs dA gj ez (listed.setIfInBounds i aa) (a.put o.dst m) w s M j:=by
 have d:i<listed.size:=by rw[D.size];exact R.lt
 refine ⟨by simp[D.size],D.Uc R,D.sle,D.last, ?_,D.rel,D.AX,D.agree, ?_, ?_, ?_,by rw[vi.2];exact D.defers,by rw[vi.1];exact D.tmps,D.Uf X R (λ_ _ h=>h) p,D.gd,D.ext,D.fresh,D.ew,D.alive⟩
 ·intro x c f;rw[mC d,<-D.iC x c f]
  grind
 ·intro b e u;rcases D.Jm b e u with h|⟨x,n,k,g,l,v⟩
  ·grind
  grind [mC]
 ·intro x c f q;exact D.xB x c f (Kw d q).2
 ·intro x n k g l;rcases (mC d).1 g with h|h
  ·grind
  ·exact D.Jt x n k h l
def hK.seen (X:Ctx P C ops N bY ms vs dA gj ez) (D:hK P ops ds N bY ms vs dA gj ez listed a w s M j) {i:Nat} {o:Oper} (R:nr ops listed i o) (m:dA i=3) {d:bW} (x:ms (i+1)=(ms i).push d):
  ∀n,i<n->n<=s->(ms n).blk (ms i).next=d:=by
 intro n;induction n with
 |zero=>grind
 |succ n f=>
  intro v q;have t:=D.sle;by_cases z:n=i
  ·grind [Mem.push]
  ·have h:=f (by omega) (by omega);have k:n<ops.size:=by omega
   have g:ops[n]? =J ops[n]:=by grind
   have u:(ms i).next<(ms n).next:=hS (X.BG R.lt m) (X.mono (i+1) n (by omega) (by omega));rcases X.run g with ⟨_,_,_,c⟩|⟨_,_,_,c⟩|⟨_,_,_,c⟩|⟨_,_,p,_,c⟩|⟨e,_,r⟩
   ·grind
   ·grind
   ·grind
   ·grind [Mem.push]
   ·have b:listed.getD n ak=aa:=(D.iC n k e).2 (by omega);have y:gD (kp ops) n i=ak:=by
     cases l:gD (kp ops) n i with
     |false=>rfl
     |true=>have:=D.T3 b l;rw[R.not] at this;grind
    have:=X.T.news i n (by grind) (by grind) (by grind) (by grind) (by omega) (by grind)
    grind
def hK.amQ (X:Ctx P C ops N bY ms vs dA gj ez) (D:hK P ops ds N bY ms vs dA gj ez listed a w s M j) {i:Nat} {o:Oper} (R:nr ops listed i o) (A:dA i=3) {u:bW} (hm:ms (i+1)=(ms i).push u)
  {H:World} {e:kl} {ob:Obj} (m:AF P j w H u e ob) {L:af} (U:de (j.up (ms i).next e) (vs i) L):
  hK P ops ds N bY ms vs dA gj ez (listed.setIfInBounds i aa) (a.put o.dst L) H s (M.put (ms i).next u) (j.up (ms i).next e):=by
 have v:i<listed.size:=by rw[D.size];exact R.lt
 have q:=D.xB i R.lt A R.not;have G:=cj.P9 (e:=e) q;have Y:=X.BG R.lt A;have S:(ms i).next<M.next:=by rw[D.AX];exact hS Y (X.mono (i+1) ops.size R.lt (e4 _))
 have bR:(ms 0).next<=(ms i).next:=X.mono 0 i (pn _) (lG R.lt);have Q:∀b x,j.up (ms i).next e b=J x->b≠(ms i).next->j b=J x:=λb x g gT=>by grind [cj.up]
 have f:∀b,b≠(ms i).next->(M.put (ms i).next u).blk b=M.blk b:=λb g=>by grind [Mem.put]
 have d:∀x,x<ops.size->dA x=3->x≠i->(ms x).next≠(ms i).next:=by
  intro x k n gT he;rcases mq x i with h|h
  ·have:=X.BG k n;have:=X.mono (x+1) i (by omega) (lG R.lt);omega
  ·have:=X.mono (i+1) x (by omega) (lG k);omega
 refine ⟨by simp[D.size],D.Uc R,D.sle,D.last, ?_,D.rel.place q S m,D.AX, ?_, ?_, ?_, ?_,by rw[vi.2];exact D.defers,by rw[vi.1];exact D.tmps,D.Uf X R G U, ?_, ?_, ?_, ?_, ?_⟩
 ·intro x k n;rw[mC v,<-D.iC x k n]
  grind
 ·intro b g;by_cases l:b=(ms i).next
  ·subst l;have T:i<s:=by
    rcases mq i s with h|h
    ·grind
    ·have:=X.mono s i h (lG R.lt);omega
   rw[D.seen X R A hm s T (e4 _)];simp[Mem.put]
  ·rw[f b l];exact D.agree b g
 ·intro b x g;by_cases l:b=(ms i).next
  ·subst l;rcases mq (ms i).next (ms s).next with h|h
   ·grind
   ·right;refine ⟨i, ?_,R.lt,(mC v).2 (.inl rfl),A,rfl⟩;rcases mq i s with O|O
    ·have:=X.mono (i+1) s O D.sle;omega
    grind
  ·rcases D.Jm b x (Q b x g l) with h|⟨y,z,r,K,F,cK⟩
   ·grind
   grind [mC]
 ·intro x k n V;obtain ⟨z,r⟩:=Kw v V;have:=d x k n z;simp only[cj.up,this,if_false];exact D.xB x k n r
 ·intro x z r K F B n4;by_cases I:x=i
  ·subst I;have W:B=u:=by
    have bX:(ms (x+1)).blk (ms x).next=B:=by grind [Mem.push]
    grind [Mem.push]
   grind [Mem.put]
  ·rw[f _ (d x r F I)];rcases (mC v).1 K with h|h
   ·grind
   ·exact D.Jt x z r h F B n4
 ·have t:∀c,c<w.heap.size->H.heap[c]? =w.heap[c]? :=λc E=>by rw[m.heap,Array.getElem?_push,if_neg (by omega)]
  exact ⟨m.os.trans D.gd.os,m.tape.trans D.gd.tape,m.output.trans D.gd.output,by rw[m.heap];simp;have:=D.gd.size;omega,λc E Z=>by
   rw[t c (hS E D.gd.size)];exact D.gd.block c E Z⟩
 ·intro b g;simp only[cj.up,show b≠(ms i).next by omega,if_false];exact D.ext b g
 ·intro b x g hA;by_cases l:b=(ms i).next
  ·subst l;have k:x=e:=by grind [cj.up]
   subst k;exact .inl (by rw[m.blk];exact D.gd.size)
  ·exact D.fresh b x (Q b x g l) hA
 ·intro b g p;rw[f b (by omega)] at p;exact D.ew b g p
 ·intro b g p;rw[f b (by omega)] at p;exact D.alive b g p
def hK.fX (X:Ctx P C ops N bY ms vs dA gj ez) (D:hK P ops ds N bY ms vs dA gj ez listed a w s M j) {i:Nat} {o:Oper} (R:nr ops listed i o) (hk:dA i=4):
  s<=i/\(∀e,s<=e->e<i->dA e≠4)/\Rel P (j.below (ms i).next) (ms i) w/\
  ∀{Y:World} {n:cj} {O:af},Post P (j.below (ms i).next) (ms i) w n (ms (i+1)) Y->de n (vs i) O->
   hK P ops ds N bY ms vs dA gj ez (listed.setIfInBounds i aa) (a.put o.dst O) Y (i+1) ((ms (i+1)).join M) (n.join (ms (i+1)).next j):=by
 have K:i<listed.size:=by rw[D.size];exact R.lt
 have r:s<=i:=by
  rcases mq i s with h|h
  ·have:=(D.iC i R.lt hk).2 h;rw[R.not] at this;grind
  grind
 have H:∀e,e<i->dA e=4->listed.getD e ak=aa:=by
  intro e A B;have rR:e<ops.size:=Nat.lt_trans A R.lt;have l:ops[e]? =J ops[e]:=by grind
  refine R.gD D (V8 X.ok R.at_ l A ?_);simp[sR,X.abc l B,X.abc R.at_ hk]
 have y:∀e,s<=e->e<i->dA e≠4:=by intro e z f B;have:=(D.iC e (Nat.lt_trans f R.lt) B).1 (H e f B);omega
 have Q:=D.T2 X r (lG R.lt) y;have dV:=(X.wf i (lG R.lt)).1;refine ⟨r,y,D.rel.below dV Q, ?_⟩;intro Y n O p aD;have ayb:=p.next;have axT:∀b e,j b=J e->b<(ms i).next\/((ms (i+1)).next<=b/\∃x,i+1<=x/\x<ops.size/\listed.getD x ak=aa/\dA x=3/\b=(ms x).next):=by
  intro b e d;rcases D.Jm b e d with h|⟨x,z,f,F,u,cK⟩
  ·exact .inl (hS h (X.mono s i r (lG R.lt)))
  ·subst cK;rcases TJ x i with h|h|h
   ·exact .inl (hS (X.BG f u) (X.mono (x+1) i h (lG R.lt)))
   ·grind
   ·exact .inr ⟨X.mono (i+1) x h (lG f),x,h,f,F,u,rfl⟩
 have JL:(ms (i+1)).next<=M.next:=by rw[D.AX];exact X.mono (i+1) ops.size R.lt (e4 _)
 obtain ⟨q,hb,G⟩:=D.rel.join Q p (λb e d=>by grind) JL;have axz:(ms 0).next<=(ms i).next:=X.mono 0 i (pn _) (lG R.lt);have I:∀b,b<(ms i).next->n b=j b:=λb d=>by rw[p.ext b d];grind [cj.below]
 have axb:∀b e,j b=J e->b<(ms i).next->M.blk b=(ms i).blk b:=Q;refine ⟨by simp[D.size],D.Uc R,R.lt, .inr (by grind), ?_,q,D.AX, ?_, ?_, ?_, ?_,by rw[vi.2];exact D.defers,by rw[vi.1];exact D.tmps,D.Uf X R hb (aD.mono G), ?_, ?_, ?_, ?_, ?_⟩
 ·intro x m E;rw[mC K,D.iC x m E]
  grind
 ·grind [Mem.join]
 ·grind [cj.join,mC]
 ·intro x m E aR;obtain ⟨z,f⟩:=Kw K aR;have ax4:=D.xB x m E f;rcases mq x i with h|h
  ·have ao7:(ms x).next<(ms i).next:=hS (X.BG m E) (X.mono (x+1) i h (lG R.lt))
   grind [cj.join]
  ·have:(ms (i+1)).next<=(ms x).next:=X.mono (i+1) x (by omega) (lG m)
   grind [cj.join]
 ·intro x z f F u iK hm;have:(ms (i+1)).next<=(ms x).next:=X.mono (i+1) x z (lG f);simp only[Mem.join,show ¬(ms x).next<(ms (i+1)).next by omega,if_false];rcases (mC K).1 F with h|h
  ·omega
  ·exact D.Jt x (by omega) f h u iK hm
 ·refine ⟨p.gd.os.trans D.gd.os,p.gd.tape.trans D.gd.tape,p.gd.output.trans D.gd.output,jd D.gd.size p.gd.size,λc Z cp=> ?_⟩;rw[p.gd.block c (hS Z D.gd.size) ?_]
  ·exact D.gd.block c Z cp
  ·intro b e d g A;obtain ⟨g1,V⟩:=q3 d;rcases mq b (ms 0).next with h|h
   ·exact cp b e (by rw[<-D.ext b h];grind) (D.ew b h (by grind)) A
   ·rcases D.fresh b e V h with bF|⟨k,S,cL,c9,U⟩
    ·omega
    grind
 ·intro b d;simp only[cj.join,show b<(ms (i+1)).next by omega,if_true];rw[I b (by omega)];exact D.ext b d
 ·intro b e d hA;unfold cj.join at d;split at d
  ·rcases mq b (ms i).next with h|h
   ·exact D.fresh b e (by grind) hA
   ·rcases p.fresh b e d h with bF|⟨k,S,cL,c9,U⟩
    ·exact .inl (jd D.gd.size bF)
    ·obtain ⟨g1,V⟩:=q3 cL;rcases mq k (ms 0).next with v|v
     ·exact .inr ⟨k,S,by rw[<-D.ext k v];grind,D.ew k v (by grind),U⟩
     ·rw[<-U];exact D.fresh k S V v
  ·exact D.fresh b e d hA
 ·intro b d g;have W:b<(ms (i+1)).next:=by omega
  simp only[Mem.join,W,if_true] at g;have mc:=p.ew b (by omega) g;have L:=(Ku X.T i r (by simpa using lG R.lt) y).1;have t:b<(ms s).next:=hS d (X.mono 0 s (pn _) D.sle);exact D.ew b d (by rw[D.agree b t,<-L b t];grind)
 ·intro b d g;have W:b<(ms (i+1)).next:=by omega
  simp only[Mem.join,W,if_true] at g;have mc:=p.alive b (by omega) g;have L:=(Ku X.T i r (by simpa using lG R.lt) y).1;have t:b<(ms s).next:=hS d (X.mono 0 s (pn _) D.sle);exact D.alive b d (by rw[D.agree b t,<-L b t];grind)
end
end Go.aF
end
section
namespace Go.aF
section
variable {P:bI} {C:FuncId->Array af->Mem->af->Mem->Prop} {ops:Array Oper} {N:Nat} {bY:Nat->Nat->af} {ms:Nat->Mem} {vs:Nat->af} {ds:List Deferred} {dA:Nat->Nat} {gj:cj} {ez:World}
variable {listed:Array Bool} {a:Act} {w:World} {s:Nat} {M:Mem} {j:cj}
def aq5 {i:Nat} (h:i∈AL .any ops listed):∃o,i<ops.size/\ops[i]? =J o/\listed.getD i aa=ak/\∀e∈o.after,rC .any e=aa->listed.getD e.on ak=aa:=by
 grind [AL,Array.all_eq_true']
theorem abU {A:Array Bool} {i:Nat} (a:i<A.size):A.getD i aa=A.getD i ak:=by grind
def left (n:Nat) (a:Array Bool):Nat:=((mN n).filter λi=> !a.getD i ak).length
def acW {b:Type} {p q:b->Bool}:∀(l:List b) (x:b),x∈l->(∀y,p y=aa->q y=aa)->q x=aa->p x=ak->(l.filter p).length<(l.filter q).length
 |[],x,a,_,_,_=>by grind
 |y::l,x,a,e,d,c=>by
  have g:(l.filter p).length<=(l.filter q).length:=by
   clear a;induction l with
   |nil=>simp
   |cons z l f=>
    grind
  rcases ha.1 a with rfl|a
  ·grind
  ·have f:=acW l x a e d c
   grind
def aqn {n:Nat} (h:left n listed=0):∀i,i<n->listed.getD i ak=aa:=by
 intro i a;cases b:listed.getD i ak with
 |true=>rfl
 |false=>
  have:i∈(mN n).filter λi=> !listed.getD i ak:=List.mem_filter.2 ⟨aAc.2 a,by grind⟩;rw[yl h] at this
  grind
def hK.all (X:Ctx P C ops N bY ms vs dA gj ez) (D:hK P ops ds N bY ms vs dA gj ez listed a w s M j) (h:AL .any ops listed=[]):∀i,i<ops.size->listed.getD i ak=aa:=by
 intro i;induction i using Y0 with
 |_ i k=>
  intro f;cases l:listed.getD i ak with
  |true=>rfl
  |false=>
   have b:ops[i]? =J ops[i]:=by grind
   have:i∈AL .any ops listed:=by
    simp only[AL,List.mem_filter,aAc,fx,Bool.not_eq_true'];refine ⟨f,by rw[abU (by rw[D.size];grind)];grind, ?_⟩;rw[b];simp only[vU,Option.getD_some,Array.all_eq_true'];intro e g;cases c:rC .any e with
    |false=>rfl
    |true=>
     have d:=aq1 X.ok b g c
     grind
   grind
def hK.end (X:Ctx P C ops N bY ms vs dA gj ez) (D:hK P ops ds N bY ms vs dA gj ez listed a w s M j) (h:∀i,i<ops.size->listed.getD i ak=aa):
  Post P gj (ms 0) ez (j.below (ms ops.size).next) (ms ops.size) w/\(∀t,de (j.below (ms ops.size).next) (bY ops.size t) (a.tmps.getD t undef))/\a.defers=ds/\a.tmps.size=N:=by
 have l:∀e,s<=e->e<ops.size->dA e≠4:=λe m d G=>by have:=(D.iC e d G).1 (h e d);omega
 have z:=D.T2 X D.sle (e4 _) l;obtain ⟨v,u⟩:=X.wf ops.size (e4 _);have o:(ms 0).next<=(ms ops.size).next:=X.mono 0 _ (pn _) (e4 _);have r:=(Ku X.T ops.size D.sle (by simp) l).1;have O:∀b,b<(ms 0).next->(ms ops.size).blk b=M.blk b:=λb c=>by have f:=hS c (X.mono 0 s (pn _) D.sle);rw[r b f,D.agree b f]
 refine ⟨⟨D.rel.below v z,D.gd,o, ?_, ?_, ?_, ?_⟩, ?_,D.defers,D.tmps⟩
 ·intro b c;simp only[cj.below,show b<(ms ops.size).next by omega,if_true];exact D.ext b c
 ·intro b e c F;exact D.fresh b e (q3 c).2 F
 ·intro b c n;exact D.ew b c (by grind)
 ·intro b c n;exact D.alive b c (by grind)
 ·intro t;refine zj.2.2 ?_ (u t);rcases Wj X.T t ops.size (by simp) with ⟨x,p,m,d,H,I,K⟩|⟨m,d⟩
  ·have L:ops[x]? =J p:=by grind
   rcases D.cur t with ⟨y,q,g,k,A,B,E⟩|⟨g,_⟩
   ·grind [TJ]
   grind
  ·rcases D.cur t with ⟨y,q,g,k,A,B,E⟩|⟨_,k⟩
   ·grind
   grind
def hK.go (X:Ctx P C ops N bY ms vs dA gj ez) {Q:Exit->Act->World->Prop} (iN:∀a w c6,Post P gj (ms 0) ez c6 (ms ops.size) w->(∀t,de c6 (bY ops.size t) (a.tmps.getD t undef))->a.defers=ds->a.tmps.size=N->Q .normal a w):
  ∀(lp:Nat) (listed:Array Bool) (a:Act) (w:World) (s:Nat) (M:Mem) (j:cj),hK P ops ds N bY ms vs dA gj ez listed a w s M j->left ops.size listed<=lp->wpAny P .any ops Q lp listed a w:=by
 intro lp;induction lp with
 |zero=>
  intro listed a w s M j D aR;have oO:=aqn (n:=ops.size) (by omega:left ops.size listed=0);obtain ⟨h1,ai,aT,br⟩:=D.end X oO;refine ⟨?_,iN _ _ _ h1 ai aT br⟩
  grind [AL,List.filter_eq_nil_iff,abU]
 |succ lp a1=>
  intro listed a w s M j D aR;refine ⟨λaV=> ?_,λi az=> ?_⟩
  ·obtain ⟨h1,ai,aT,br⟩:=D.end X (D.all X aV)
   grind
  ·obtain ⟨o,cF,aM,ayf,anG⟩:=aq5 az;have JQ:i<listed.size:=by grind
   have R:nr ops listed i o:=⟨aM,by grind,anG⟩
   have Bk:left ops.size (listed.setIfInBounds i aa)<=lp:=by
    have:left ops.size (listed.setIfInBounds i aa)<left ops.size listed:=by
     refine acW _ i (by grind) (λy aZ=> ?_) (by grind) (by simp_all)
     grind [Kw]
    omega
   have r0:=D.wanted X R;have Bp:=D.apL X R;unfold wpOp;rw[aM];simp only[];rcases X.run aM with ⟨hk,hw,aD,_⟩|⟨hk,hw,bb,_⟩|⟨hk,hw,bb,_⟩|⟨hk,hw,iK,bb,hm⟩|⟨hk,hw,bb⟩
   ·rw[r0,hw,if_neg (by simp)];exact a1 _ _ _ s M j (D.quiet X R (by omega) (by omega) (by rw[aD];exact ⟨#[],rfl,fs⟩)) Bk
   ·rw[r0,hw,if_pos rfl];left;obtain ⟨bz,aV,iF⟩:=Wf bb Bp w;unfold sM;rw[aV];exact a1 _ _ _ s M j (D.quiet X R (by omega) (by omega) iF) Bk
   ·rw[r0,hw,if_pos rfl];left;have aoL:∃z,fH P (bk (bY i)) o (ms z) (vs i)/\uq P j (ms z) w:=by
     rcases mq i s with JM|JM
     ·refine ⟨s, ?_,D.ot X (e4 _) D.sle (λe h1 ai=>by omega)⟩;rcases D.last with bR|an3
      ·omega
      ·have aoO:s - 1+1=s:=by omega
       have tc:=D.sle;have gT:i≠s - 1:=by grind
       have an8:listed.getD (s - 1) ak=aa:=(D.iC (s - 1) (by omega) an3).2 (by omega);have lq:gD (kp ops) (s - 1) i=ak:=by
        cases eL:gD (kp ops) (s - 1) i with
        |false=>rfl
        |true=>
         have:=D.T3 an8 eL
         grind
       have:=X.T.after i (s - 1) o (by grind) (by grind) (by grind) (by grind) (by omega) (by grind)
       grind
     ·by_cases hex:∃e,s<=e/\e<i/\dA e=4
      ·
       have Vm:∃z,s<=z/\z<i/\dA z=4/\∀e,s<=e->e<z->dA e≠4:=by
        obtain ⟨e,h1,ai,aT⟩:=hex;clear r0 Bp;induction e using Y0 with
        |_ e ayw=>
         grind
       obtain ⟨z,h1,ai,aT,br⟩:=Vm;refine ⟨z, ?_,D.ot X h1 (by omega) br⟩;have lq:gD (kp ops) i z=ak:=by
        cases eL:gD (kp ops) i z with
        |false=>rfl
        |true=>have:=(D.iC z (by omega) aT).1 (R.gD D eL);omega
       have:=X.T.ahead i z o (by grind) (by grind) (by grind) (by grind) ai (by grind)
       grind
      ·exact ⟨i,bb,D.ot X JM (lG cF) (λe h1 ai aT=>hex ⟨e,h1,ai,aT⟩)⟩
    obtain ⟨z,e0,eT⟩:=aoL;obtain ⟨bz,aV,iF⟩:=ack e0 Bp eT;unfold sM;rw[aV];exact a1 _ _ _ s M j (D.quiet X R (by omega) (by omega) iF) Bk
   ·rw[r0,hw,if_pos rfl];left;obtain ⟨bz,w',e,ob,aV,bB,iF⟩:=ad9 bb Bp w;unfold sM;rw[aV];exact a1 _ _ _ s _ _ (D.amQ X R hk hm bB (iF _ (by simp[cj.up]))) Bk
   ·rw[r0,hw,if_pos rfl];left;obtain ⟨h1,ai,aT,br⟩:=D.fX X R hk;obtain ⟨anj,am9⟩:=X.wf i (lG cF);have JR:o∈ops.toList:=by grind
    have aou:h3 (j.below (ms i).next) (bk (bY i)) a.eval o:=λx an=>zj.2.2 (Bp x an) (aew am9 (X.Kl o JR x an));exact aeu bb aou aT anj X.sound λbz w' hM wy iF=>a1 _ _ _ _ _ _ (br wy iF) Bk
end
def aqs {P:bI} {C:FuncId->Array af->Mem->af->Mem->Prop} {c:Array Oper} {Z:Nat} {F B:Nat->af} {m G:Mem} {j:cj} {a:Act} {u:List Deferred} {w:World} {Q:Exit->Act->World->Prop}
  (n9:P.follows .mixedOrders=aa) (h:hW P C c.toList (kp c) 0 c.toList ⟨[],[],[]⟩ F m B G) (U:vj c=aa) (O:∀o∈c.toList,∀x∈o.op.operands,nI x=aa) (uR:∀o∈c.toList,∀d,o.dst=J d->d<a.tmps.size)
  (R:pB C) (k2:xf P C) (S:Rel P j m w) (dV:WF m) (W:∀t,de j (F t) (a.tmps.getD t undef)) (M:a.defers=u)
  (Y:∀g r n,Post P j m w n G r->(∀t,de n (B t) (g.tmps.getD t undef))->g.defers=u->g.tmps.size=a.tmps.size->Q .normal g r):(Code.region Z c aa).wp P Q a w:=by
 refine wp_region_any n9 ?_;obtain ⟨z,f,H,E,T,V,y,K,A,_⟩:=afj _ _ _ _ _ _ _ h;simp only[lH,Array.length_toList] at K A;have l:Rel P j (f 0) {w with drawn:=w.drawn+1}:=by grind [arT]
 have q:∀b e,j b=J e->b<(f 0).next:=λb e k=>by rw[y];exact (S.lt b e k).1
 have X:Ctx P C c a.tmps.size z f H E j {w with drawn:=w.drawn+1}:=⟨T,U,O,uR,R,k2,l,by grind,λt=>by rw[V];exact (Lf q).2.2 (W t)⟩
 have v:∀i,(nj c.size ak).getD i ak=aa->False:=by simp_all [Tp]
 have D:hK P c u a.tmps.size z f H E j {w with drawn:=w.drawn+1} (nj c.size ak) a {w with drawn:=w.drawn+1} 0 {next:=(f c.size).next,blk:=(f 0).blk} j:=by
  refine ⟨by simp,λi o s=>(v i s).elim,pn _, .inl rfl,λi _ _=>⟨λh=>(v i h).elim,λh=>by omega⟩, ?_,rfl,λb _=>rfl,λb e k=> .inl (q b e k), ?_,λi _ _ h=>(v i h).elim,M,rfl, ?_,sC.refl _ _ _,λ_ _=>rfl, ?_,λ_ _ h=>h,λ_ _ h=>h⟩
  ·refine ⟨⟨λb e k=>⟨hS (q b e k) (X.mono 0 _ (pn _) (e4 _)),(l.lt b e k).2⟩,l.obj,l.inj⟩,l.mE.val,l.mE.sep⟩
  ·intro i s hk aR;cases N:j (f i).next with
   |none=>rfl
   |some e=>have:=q _ e N;have:=X.mono 0 i (pn _) (lG s);omega
  ·grind
  grind
 refine hK.go X (λg r n p aD I L=>Y g r n ?_ (by grind) I L) _ _ _ _ _ _ _ D ?_
 ·rw[y,A] at p;exact ⟨p.rel,⟨p.gd.os,p.gd.tape,p.gd.output,p.gd.size,p.gd.block⟩,p.next,p.ext,p.fresh,p.ew,p.alive⟩
 grind [left]
end Go.aF
end
section
namespace Go.aF
def Rel.amZ {P:bI} {j:cj} {m:Mem} {w d:World} (h:Rel P j m w) (o:d.os=w.os) (k:d.tape=w.tape) (i:d.output=w.output) (f:w.heap.size<=d.heap.size) (g:∀c,c<w.heap.size->d.heap[c]? =w.heap[c]?):Post P j m w j m d:=
 .of h ⟨λb e a=>⟨(h.lt b e a).1,hS (h.lt b e a).2 f⟩,λb e a=>by rw[g _ (h.lt b e a).2];exact h.obj b e a,h.inj⟩
  ⟨o,k,i,f,λc l _=>g c l⟩ (e4 _) (λ_ _=>rfl) (λb e a n=>absurd (h.lt b e a).1 (vP.2 n)) (λ_ _ h=>h) (λ_ _ h=>h)
theorem acX {j:cj} {v:af} (h:dy v=aa):eA j v v:=q4 h
def zE (P:bI) (f:FuncId) (j:List af) (l:Nat) (F k:List af) (w:World) (a:Nat):Prop:=
 ∀(b h:Nat) (g:Array af) (t:bV) (bZ:Nat×Nat),w.heap[a]? =J (.cells g t bZ)->(∀(i:Nat) (v:af),F[i]? =J v->g[b+i]? =J v)->(∀i,i<g.size->¬(bZ.1<=i/\i<bZ.2))->
  Calls P f (.slice (J ⟨a,b,ae⟩) l h::j).toArray w λe d=>e= .returned (.tuple #[])/\d.os=w.os/\d.tape=w.tape/\d.output=w.output/\w.heap.size<=d.heap.size/\
   (∀c,c<w.heap.size->c≠a->d.heap[c]? =w.heap[c]?)/\d.heap[a]? =J (.cells (eY g.toList b k).toArray t bZ)
section
variable {P:bI} {f:FuncId} {args:Array af} {m:Mem} {j:cj} {w:World}
def ar9 (a:Option Addr) (c:Nat) (n:List af) (h:∀(p:Option Addr) (b:Nat) (d:List af) (w:World),d.length=n.length->Calls P f (.slice p 0 b::d).toArray w λe r=>e= .returned (.tuple #[])/\r=w):LB P f (.slice a 0 c::n).toArray m (.tuple #[]) m:=by
 refine ⟨e4 _,λi=>⟨by intro x g;grind,i⟩,λj w v i t k=> ?_⟩;obtain ⟨l⟩:=v;cases l with
 |nil=>exact k.elim
 |cons u d=>
 obtain ⟨o,s⟩:=k;have g:∃p b,u= .slice p 0 b:=by
  cases a with
  |none=>exact ⟨_,_,o.nc⟩
  |some a=>
   obtain ⟨q,_,_,y⟩:=o.slice
   grind
 obtain ⟨p,b,rfl⟩:=g;refine (h p b d w s.length.symm).mono ?_;rintro e r ⟨rfl,rfl⟩;exact ⟨_,j,rfl,Post.refl t,#[],rfl,fs⟩
def ar' (b a l c:Nat) (L:List af) (e:bV) (F g K:List af) (h:∀(j:cj) (w:World) (u:List af) (q:kl),WF m->Rel P j m w->bP (de j) K u->j b=J q->zE P f u l F g w q.blk) (aR:0<l) (z:m.blk b= .own L e)
  (Q:(L.drop a).take F.length=F) (bB:a+F.length<=L.length) (p7:g.length=F.length) (R:F.all dy=aa) (f2:g.all dy=aa):LB P f (.slice (J ⟨b,a,ae⟩) l c::K).toArray m (.tuple #[]) (m.put b (.own (eY L a g) e)):=by
 refine ⟨e4 _,λo=>⟨by intro x B;grind,λc d=> ?_,λc=> ?_⟩,λj w Y o t H=> ?_⟩
 ·have d:m.next<=c:=d;simp only[Mem.put];split
  ·rename_i V;subst V;have:=o.dead c d
   grind
  ·exact o.dead c d
 ·simp only[Mem.put];split
  ·intro v r;rcases r9 _ _ _ _ r with r|r
   ·have:=o.low b;rw[z] at this;exact this v r
   grind [zq]
  ·exact o.low c
 obtain ⟨O⟩:=Y;cases O with
 |nil=>exact H.elim
 |cons Z u=>
 obtain ⟨W,N⟩:=H;obtain ⟨q,_,n,d⟩:=W.slice;have B:∃k,Z= .slice (J ⟨q.blk,q.db+a,ae⟩) l k:=by
  rcases d with ⟨_,d⟩|⟨_,_,_,_,_,_,d⟩|⟨_,X,_⟩|⟨_,X,_⟩|⟨_,_,_,_,_,_,_,_,_,d⟩
  ·grind
  ·grind
  ·omega
  ·omega
  grind
 obtain ⟨k,rfl⟩:=B;have n:j b=J q:=n;obtain ⟨p,bZ,I,T,g3,g4,g5,U⟩:=t.own b q L e n z;have y:∀(i:Nat) (v:af),F[i]? =J v->p[q.db+a+i]? =J v:=by
  intro i v s;have E:=(fq.1 s).1;have A:=s;rw[<-Q,List.getElem?_take,if_pos E,List.getElem?_drop] at A;obtain ⟨bz,G,D⟩:=U _ v A;have yO:dy v=aa:=iA.1 R v (mM s)
  grind [B0]
 refine (h j w u q o t N n (q.db+a) k p e bZ I y T).mono ?_;rintro ex w' ⟨rfl,G,D,S,k4,wH,BC⟩;have E:=(t.lt b q n).2;have M:(eY p.toList (q.db+a) g).length=p.size:=by grind [mB]
 have yS:(eY L a g).length=L.length:=mB _ _ _;have C:=t.write (L':=eY L a g) (cs':=(eY p.toList (q.db+a) g).toArray) n z I (by grind) (by grind) (λi v s=>by
  grind [o5,acX])
 refine ⟨_,j,rfl,C.trans (C.rel.amZ G D S (by grind [lz]) λc d=> ?_),#[],rfl,fs⟩
 grind [Wg,Wo]
end
end Go.aF
end
section
namespace Go.aF
variable {ds:List Deferred}
def lj.put {j c:cj} {N:Nat} {g:Nat->af} {a:Act} {d:Option Tmp} {v f:af} (h:lj ds j N g a) (i:∀b e,j b=J e->c b=J e) (m:∀t,d=J t->t<N) (l:de c v f):lj ds c N (set g d v) (a.put d f):=by
 refine ⟨λt=> ?_,by rw[vi.2];exact h.defers,by rw[vi.1];exact h.size⟩;cases d with
 |none=>exact (h.val t).mono i
 |some x=>
  have k:x<a.tmps.size:=by rw[h.size];grind
  rw[Xe k];simp only[set];split
  ·grind
  ·exact (h.val t).mono i
def lj.ops {j:cj} {N:Nat} {b:Nat->af} {a:Act} (h:lj ds j N b a) {o:Oper} (c:∀x∈o.op.operands,nI x=aa):h3 j (bk b) a.eval o:=
 λx d=>Xw (c x d) λt _=>h.val t
def adw (j:cj):de j undef undef:=⟨#[],rfl,fs⟩
def Wq {P:bI} {C:FuncId->Array af->Mem->af->Mem->Prop} {c:Array Oper} {N:Nat} {Q:Exit->Act->World->Prop} (K:pB C) (S:xf P C) (M:∀o∈c.toList,∀d,o.dst=J d->d<N):
  ∀(l:List Oper) (u B:Nat->af) (m F:Mem) (j:cj) (a:Act) (w:World),(∀o∈l,(∀x∈o.op.operands,nI x=aa)/\∀d,o.dst=J d->d<N)->k6 P C c.toList l u m B F->Rel P j m w->WF m->lj ds j N u a->
   (∀A r k,Post P j m w k F r->lj ds k N B A->Q .normal A r)->wpList P c Q l a w
 |[],u,B,m,F,j,a,w,H,h,n,L,q,E=>by simp only[k6] at h;obtain ⟨rfl,rfl⟩:=h;exact E a w j (Post.refl n) q
 |o::l,u,B,m,F,j,a,w,H,h,n,L,q,E=>by
  obtain ⟨O,I⟩:=H o (by simp);have R:∀o∈l,(∀x∈o.op.operands,nI x=aa)/\∀d,o.dst=J d->d<N:=λp y=>H p (by grind);have Z:qK o (yielded c a.tmps)=wanted c.toList u o:=acO q.size M λg w d bs I=>q.val d;unfold wpList;rw[Z];simp only[k6] at h;by_cases D:wanted c.toList u o=aa
  ·rw[if_pos D];rw[if_pos D] at h;obtain ⟨v,X,T,U⟩:=h;have rT:∀t,low m.next (u t):=λt=>(Lf λb e V=>(n.lt b e V).1).2.2 (q.val t);have W:=w8 T L rT K O;have G:=q.ops O;have f:∀i r k,Post P j m w k X r->de k v i->wpList P c Q l (a.put o.dst i) r:=λi r k y s=>
    Wq K S M l _ _ _ _ k _ _ R U y.rel W.2.1 (q.put (y.up n) I s) λA xC wG wv Y=>E A xC wG (y.trans wv) Y
   left;cases T with
   |pure h=>obtain ⟨i,z,s⟩:=Wf h G w;unfold sM;rw[z];exact f i w j (Post.refl n) s
   |read h=>obtain ⟨i,z,s⟩:=ack h G n.ot;unfold sM;rw[z];exact f i w j (Post.refl n) s
   |new h=>obtain ⟨i,r,k,z,y,s⟩:=arc h G n;unfold sM;rw[z];exact f i r k y s
   |fX h=>grind [aeu]
  ·rw[if_neg D];rw[if_neg D] at h;exact Wq K S M l _ _ _ _ j _ _ R h n L (q.put (λ_ _ h=>h) I (adw j)) E
def Xg {P:bI} {C:FuncId->Array af->Mem->af->Mem->Prop} {j:List Oper} (f:pB C):∀(l:List Oper) (d c:Nat->af) (m a:Mem),(∀o∈l,∀x∈o.op.operands,nI x=aa)->k6 P C j l d m c a->WF m->(∀t,low m.next (d t))->
  WF a/\(∀t,low a.next (c t))/\m.next<=a.next
 |[],d,c,m,a,e,h,g,b=>by simp_all [k6]
 |o::l,d,c,m,a,e,h,g,b=>by
  simp only[k6] at h;have k:∀o∈l,∀x∈o.op.operands,nI x=aa:=λp r=>e p (by grind);split at h
  ·obtain ⟨v,s,q,n⟩:=h;have i:=w8 q g b f (e o (by simp));have:=Xg f l _ _ _ _ k n i.2.1 (Ca (λt=>WO i.2.2 (b t)) i.1)
   grind
  ·exact Xg f l _ _ _ _ k h g (Ca b Kz)
def WS {P:bI} {C:FuncId->Array af->Mem->af->Mem->Prop} {g:List Oper} {B:Array Nat} (q:pB C):∀(l:List Oper) (i:Nat) (A:Acc) (f e:Nat->af) (m a:Mem),(∀o∈l,∀x∈o.op.operands,nI x=aa)->hW P C g B i l A f m e a->WF m->(∀t,low m.next (f t))->
  WF a/\(∀t,low a.next (e t))/\m.next<=a.next
 |[],i,A,f,e,m,a,n,h,r,j=>by simp_all [hW]
 |o::l,i,A,f,e,m,a,n,h,r,j=>by
  simp only[hW] at h;have u:∀o∈l,∀x∈o.op.operands,nI x=aa:=λp c=>n p (by grind);have b:∀v k w,ln P C (bk f) o m v k->hW P C g B (i+1) l w (set f o.dst v) k e a->WF a/\(∀t,low a.next (e t))/\m.next<=a.next:=by
   intro v k w z y;have s:=w8 z r j q (n o (by simp));have:=WS q l _ _ _ _ _ _ u y s.2.1 (Ca (λt=>WO s.2.2 (j t)) s.1)
   grind
  split at h
  ·rcases h with ⟨v,c,d⟩|⟨v,c,_,d⟩|⟨X,v,c,d⟩|⟨v,k,c,_,_,d⟩
   ·exact b _ _ _ (.pure c) d
   ·exact b _ _ _ (.read c) d
   ·exact b _ _ _ (.new c) d
   ·exact b _ _ _ (.fX c) d
  ·exact WS q l _ _ _ _ _ _ u h r (Ca j Kz)
def Ww {n b:Nat} {a:Array Oper} {d:Bool} (h:jw n (.region b a d)=aa):(∀o∈a.toList,(∀x∈o.op.operands,nI x=aa)/\∀d,o.dst=J d->d<n)/\(d=aa->vj a=aa):=by
 grind [jw]
def BX {P:bI} {C:FuncId->Array af->Mem->af->Mem->Prop} (B:pB C) {N:Nat}:∀(n:Nat) (c:Code) (u r:Nat->af) (m p:Mem) (e:fG),jw N c=aa->lS P C n c u m e r p->WF m->(∀t,low m.next (u t))->
  WF p/\(∀t,low p.next (r t))/\m.next<=p.next:=by
 intro n;induction n with
 |zero=>intro c u r m p e _ h;exact h.elim
 |succ n q=>
  intro c u r m p e j h i g;cases c with
  |skip=>obtain ⟨_,rfl,rfl⟩:=h;grind
  |label l=>obtain ⟨_,rfl,rfl⟩:=h;grind
  |exit D=>obtain ⟨_,rfl,rfl⟩:=h;grind
  |ret=>obtain ⟨_,rfl,rfl⟩:=h;grind
  |region D J d=>
   have z:=Ww j;cases d with
   |false=>exact Xg B _ _ _ _ _ (λo v=>(z.1 o v).1) h.2 i g
   |true=>exact WS B _ _ _ _ _ _ _ (λo v=>(z.1 o v).1) h.2 i g
  |seq a b=>
   simp only[jw,fx] at j;rcases h with ⟨A,E,I,k,w⟩|h
   rotate_left
   ·exact ⟨(h.2.low i g).1,(h.2.low i g).2,h.2.next⟩
   obtain ⟨F,G,H⟩:=q a _ _ _ _ _ j.1 k i g;split at w
   ·grind
   simp_all
  |cond c a b=>
   simp only[jw,fx] at j;obtain ⟨t,_,k⟩:=h
   grind
  |block D c=>obtain ⟨A,k,_⟩:=h;exact q c _ _ _ _ _ j k i g
  |scope c=>exact q c _ _ _ _ _ j h i g
  |loop c=>
   obtain ⟨A,E,I,k,w⟩:=h;obtain ⟨F,G,H⟩:=q c _ _ _ _ _ j k i g;split at w
   ·grind
   simp_all
  |rangeFunc f K x y=>exact h.elim
  |goto l=>exact h.elim
  |refuse s=>exact h.elim
def aen (P:bI) (C:FuncId->Array af->Mem->af->Mem->Prop) (N n:Nat) (c:Code):Prop:=
 ∀⦃g:List Deferred⦄ (h f:Nat->af) (m i:Mem) (e:fG) (j:cj) (a:Act) (w:World) (Q:Exit->Act->World->Prop),
  jw N c=aa->lS P C n c h m e f i->Rel P j m w->WF m->lj g j N h a->(∀b k d,Post P j m w d i k->lj g d N f b->Q e.out b k)->c.wp P Q a w
theorem lj.low {P:bI} {j:cj} {N:Nat} {c:Nat->af} {a:Act} {m:Mem} {w:World} (g:lj ds j N c a) (f:Rel P j m w):∀t,low m.next (c t):=λt=>(Lf λb e d=>(f.lt b e d).1).2.2 (g.val t)
def aqx {P:bI} {C:FuncId->Array af->Mem->af->Mem->Prop} (Z:pB C) {N:Nat} {c:Code} (G:jw N c=aa):∀(n:Nat),(∀v,v<n->aen P C N v c)->∀(t s:Nat->af) (m u:Mem) (e:fG) (j:cj) (a:Act) (w:World) (Q:Exit->Act->World->Prop),
  lS P C n (.loop c) t m e s u->Rel P j m w->WF m->lj ds j N t a->(∀f g M,Post P j m w M u g->lj ds M N s f->Q e.out f g)->
  ∀(b:Frame) (k:List Item) (i:List Frame),∃d f g,Q d f g/\Arrives P (lone (b.at a (.code c:: .inLoop c::k)) i w) b k i d f g:=by
 intro n;induction n with
 |zero=>intro _ t s m u e j a w Q h;exact h.elim
 |succ n V=>
  intro F t s m u e j a w Q h B D E R b k i;obtain ⟨X,fY,m1,H,q⟩:=h;have W:=BX Z n c _ _ _ _ _ G H D (E.low B);by_cases O:X= .normal
  ·subst O;rw[if_pos rfl] at q;have l:c.wp P (λe f g=>e= .normal/\∃d L S,Q d L S/\Arrives P (lone (b.at f (.code c:: .inLoop c::k)) i g) b k i d L S) a w:=
    F n (pT n) _ _ _ _ _ j a w _ G H B D E λp o I r K=>
     ⟨rfl,V (λv p9=>F v (by omega)) _ _ _ _ _ I p o Q q r.rel W.1 K (λz J r2 T we=>R z J r2 (r.trans T) we) b k i⟩
   obtain ⟨d,p,o,⟨rfl,e2,z,J,U,A⟩,y⟩:=l b (.inLoop c::k) i;exact ⟨e2,z,J,U, .of_steps (Steps.trans y (.one step_inLoop)) A⟩
  ·rw[if_neg O] at q;obtain ⟨rfl,rfl,rfl⟩:=q;have l:c.wp P (λd f g=>d≠ .normal/\Q d f g) a w:=
    F n (pT n) _ _ _ _ _ j a w _ G H B D E λp o I r K=>⟨by cases e with
     |normal=>grind
     |exit id=>simp[fG.out]
     |ret=>simp[fG.out],R p o I r K⟩
   obtain ⟨d,p,o,⟨gT,Y⟩,y⟩:=l b (.inLoop c::k) i;exact ⟨d,p,o,Y, .pass (x:= .inLoop c) rfl (λ_ _=> .inl gT) y⟩
def V9 {P:bI} {C:FuncId->Array af->Mem->af->Mem->Prop} (n9:P.follows .mixedOrders=aa) (I:pB C) (W:xf P C) {N:Nat}:∀(n:Nat) (c:Code),aen P C N n c:=by
 intro n;induction n using Y0 with
 |_ n T=>
 cases n with
 |zero=>intro c ds V cb m m' e j a w Q _ h;exact h.elim
 |succ n=>
  intro c ds V cb m m' e j a w Q q h p u g i;have rT:=g.low p;have E:=T n (pT n);cases c with
  |skip=>obtain ⟨rfl,rfl,rfl⟩:=h;exact wp_skip (i a w j (Post.refl p) g)
  |label l=>obtain ⟨rfl,rfl,rfl⟩:=h;exact wp_label (i a w j (Post.refl p) g)
  |exit R=>obtain ⟨rfl,rfl,rfl⟩:=h;exact wp_exit (i a w j (Post.refl p) g)
  |ret=>obtain ⟨rfl,rfl,rfl⟩:=h;exact wp_ret (i a w j (Post.refl p) g)
  |region R S d=>
   have H:=Ww q;have uR:∀o∈S.toList,∀d,o.dst=J d->d<N:=λo L=>(H.1 o L).2;cases d with
   |false=>obtain ⟨rfl,h⟩:=h;exact wp_region_list (Wq I W uR _ _ _ _ _ j a w H.1 h p u g i)
   |true=>obtain ⟨rfl,h⟩:=h;exact aqs n9 h (H.2 rfl) (λo L=>(H.1 o L).1) (by rw[g.size];grind) I W p u g.val g.defers λF w' c6 r G bg bf=>i F w' c6 r ⟨G,bg,by rw[bf];exact g.size⟩
  |seq F b=>
   have O:=q;simp only[jw,fx] at q;rcases h with ⟨U,fY,m1,A,M⟩|h
   rotate_left
   ·exact h.2.sound O p u g i
   have aR:=BX I n F _ _ _ _ _ q.1 A u rT;refine wp_seq (E F _ _ _ _ _ j a w _ q.1 A p u g λz v B r D=> ?_);split at M
   ·rename_i K;subst K;exact E b _ _ _ _ _ B z v Q q.2 M r.rel aR.1 D λZ ix r2 Y we=>i Z ix r2 (r.trans Y) we
   ·rename_i K;obtain ⟨rfl,rfl,rfl⟩:=M;cases e with
    |normal=>grind
    |exit R=>exact i z v B r D
    |ret=>exact i z v B r D
  |cond c x y=>
   simp only[jw,fx] at q;obtain ⟨t,aJ,A⟩:=h;have G:de j (bk V c) (a.eval c):=Xw q.1.1 λt _=>g.val t;rw[aJ] at G;refine wp_cond G.bool ?_;cases t
   ·exact E y _ _ _ _ _ j a w Q q.2 A p u g i
   ·exact E x _ _ _ _ _ j a w Q q.1.2 A p u g i
  |scope c=>refine wp_scope_straight (E c _ _ _ _ _ j a w _ q h p u g λz v B r D=> ?_);have:=i z v B r D;cases e<;>exact this
  |block R c=>
   obtain ⟨U,A,K⟩:=h;refine wp_block (E c _ _ _ _ _ j a w _ q A p u g λz v B r D=> ?_);have:=i z v B r D;rw[K] at this;cases U with
   |normal=>simp only[fG.out] at this⊢;exact this
   |exit J3=>
    grind [fG.out,Exit.inBlock]
   |ret=>simp only[fG.out] at this⊢;exact this
  |loop c=>intro b k cs;obtain ⟨cz,z,v,bm,X⟩:=aqx I (c:=c) q (n+1) (λn' p9=>T n' p9 c) _ _ _ _ _ j a w Q h p u g i b k cs;exact ⟨cz,z,v,bm, .of_steps (.one step_loop) X⟩
  |rangeFunc f cQ x y=>exact h.elim
  |goto l=>exact h.elim
  |refuse s=>exact h.elim
def ap8 {P:bI} {p:Nat->af} {m:Mem} {j:cj} {N:Nat} {a:Act} {w:World} (n:Rel P j m w) (o:lj ds j N p a) {r:ResultVar} {v:af} (h:KZ P p m r v):
  ∃f,(match r with| .tmp t=>(pure (a.tmps.getD t undef):Sem af)| .cell x t=>do loadVar t (<-asAddr (a.tmps.getD x undef))).run P w= .ok f w/\de j v f:=by
 cases r with
 |tmp t=>simp only[KZ] at h;subst h;exact ⟨_,rfl,o.val t⟩
 |cell x t=>
  obtain ⟨b,g,s,d,A,c⟩:=h;have l:=o.val x;rw[s] at l;obtain ⟨q,_,k,u⟩:=l.ptr;by_cases e:lI d=aa
  ·rw[if_pos e] at c;obtain ⟨i,F,y,B,rfl⟩:=c;obtain ⟨ds,D,z,C⟩:=BL n.ot k _ _ _ B;exact ⟨.agg ds.toArray,by simp[u,asAddr,loadVar,sb A,e,jb y,BM z C],⟨_,rfl,by grind⟩⟩
  ·rw[if_neg e] at c;obtain ⟨f,G,E⟩:=n.ot.load b q g v k c;simp_all [asAddr,loadVar,sb,de.qh]
def abY {P:bI} {fr:Nat->af} {m:Mem} {j:cj} {N:Nat} {a:Act} {w:World} (cY:Rel P j m w) (eF:lj ds j N fr a):∀(rs:List ResultVar) (vs:List af),q2 P fr m rs vs->
  ∃n0:List af,(rs.mapM (m:=Sem) λ| .tmp t=>pure (a.tmps.getD t undef)| .cell x t=>do loadVar t (<-asAddr (a.tmps.getD x undef))).run P w= .ok n0 w/\bP (de j) vs n0
 |[],[],_=>⟨[],rfl,fs⟩
 |r::rs,v::vs,⟨h1,ai⟩=>by obtain ⟨bz,aV,aD⟩:=ap8 cY eF h1;obtain ⟨n0,ayn,rZ⟩:=abY cY eF rs vs ai;refine ⟨bz::n0, ?_,aD,rZ⟩;simp_all
 |[],_::_,h=>h.elim
 |_::_,[],h=>h.elim
def aca {j:cj}:∀{a b:List af},bP (de j) a b->(∀x∈a,storable x=aa)->bP (fC j) a b
 |[],[],_,_=>fs
 |v::a,c::b,⟨g,e⟩,d=>⟨de.storable g (d v (by simp)),aca e λx f=>d x (by simp[f])⟩
 |[],_::_,h,_=>h.elim
 |_::_,[],h,_=>h.elim
def aqo {j:cj} {a c:Array af} (h:bP (de j) a.toList c.toList) (n:Nat):∀t,de j ((a++nj (n - a.size) undef).getD t undef) ((c++nj (n - c.size) undef).getD t undef):=by
 have m:=h.size;intro t;by_cases d:t<a.size
 ·have f:(a++nj (n - a.size) undef).getD t undef=a[t]:=by
   rw[Yr,Ys d];grind
  have o:t<c.size:=by omega
  have g:(c++nj (n - c.size) undef).getD t undef=c[t]:=by simp_all [Ys]
  rw[f,g];obtain ⟨b,l,k⟩:=h.JA t a[t] (by grind)
  grind
 ·have e:∀(A:Array af),A.size<=t->(A++nj (n - A.size) undef).getD t undef=undef:=by
   intro A i;rw[Yr,Array.getElem?_append_right i]
   grind
  rw[e a (by omega),e c (by omega)];exact adw j
theorem acE {P : bI} {f : FuncId} {fn : Func} {c : Code} (h : lR P f = aa) (bF : P.funcs[f]? = J fn) (ay : fn.body = J c) : (fn.name == "runtime.NumGoroutine") = ak ∧ jw fn.ntmps c = aa := by
 grind [lR]
def aci {P : bI} {f : FuncId} {fn : Func} {c : Code} (h : lR P f = aa) (bF : P.funcs[f]? = J fn) (ay : qm P fn c) : (fn.name == "runtime.NumGoroutine") = ak ∧ jw fn.ntmps c = aa ∧ fn.body.isNone = ak := by
 rcases ay with ay|⟨A,id,mk,p3,B,g,k,cs,D⟩
 ·grind [acE]
 ·have ai:=acE h bF D.body;refine ⟨ai.1, ?_,by simp[D.body]⟩;rw[D.code]
  grind [jw]
def atk {P:bI} {C:FuncId->Array af->Mem->af->Mem->Prop} {e:bS->af} {o:Oper} {m d:Mem} {v:af} {fn:Fn} {k:Array bS} (h:ln P C e o m v d) (i:o.op= .makeFunc fn #[] k):
  dD P e o v/\d=m/\∃l,v= .func fn #[] l:=by
 cases h with
 |pure h=>
  refine ⟨h,rfl, ?_⟩;cases h with
  |func f a b s p=>simp_all
  |flat v q h n j=>
   have:=j default;simp[execOp,i,Instr.makeFunc] at this
   grind
  |_=>grind
 |read h=>cases h<;>simp_all
 |new h=>cases h<;>simp_all
 |fX h=>
  cases h with
  |call f g v d h r=>obtain ⟨x,t,u,first,c,h,_⟩:=h;grind
  |_=>grind
def ap5 {P:bI} {C:FuncId->Array af->Mem->af->Mem->Prop} (n9:P.follows .mixedOrders=aa) (K:pB C) (k2:xf P C) {n:Nat} {f:FuncId} {fn:Func} {c:Code} {fr fY:Nat->af} {m m1:Mem} {e:fG} {j:cj} {w:World} {a:Array af} {R:Ending->World->Prop}
  (bF:P.funcs[f]? =J fn) (F:qm P fn c) (eT:jw fn.ntmps c=aa) (G:lS P C n c fr m e fY m1) (he:e= .normal\/e= .ret) (cY:Rel P j m w) (dV:WF m) (eF:lj [] j fn.ntmps fr {tmps:=a++nj (fn.ntmps - a.size) undef,defers:=[]})
  (iN:∀ds q p x,Post P j m w x m1 p->lj ds x fn.ntmps fY q->∃v,(results fn q.tmps).run P p= .ok v p/\R (.returned v) p):Calls P f a w R:=by
 rcases F with F|⟨A,id,mk,L,B,g,k,cs,D⟩
 ·refine calls_of_wp bF F (V9 n9 K k2 n c _ _ _ _ _ j _ w _ eT G cY dV eF λq p x bb I=> ?_);obtain ⟨v,h1,r⟩:=iN [] q p x bb I;rcases he with rfl|rfl<;>exact ⟨I.defers,v,h1,r⟩
 ·obtain rfl:=D.code;have y:jw fn.ntmps A=aa:=by grind [jw]
  have Z:jw fn.ntmps (.region id #[mk] ak)=aa:=by grind [jw]
  have Y:jw fn.ntmps B=aa:=by grind [jw]
  cases n with
  |zero=>exact G.elim
  |succ n=>
  rcases G with ⟨bX,z,ayG,eL,r⟩|⟨h,_⟩
  rotate_left
  ·rw[D.db] at h;grind
  have Q:=BX K n A _ _ _ _ _ y eL dV (eF.low cY);refine calls_of_wp_defers bF D.body (wp_seq (V9 n9 K k2 n A _ _ _ _ _ j _ w _ y eL cY dV eF λo s hM wx H=> ?_));by_cases wh:bX= .normal
  ·subst wh;rw[if_pos rfl] at r;cases n with
   |zero=>exact r.elim
   |succ n=>
   rcases r with ⟨e2,axu,aby,E,aT⟩|⟨h,_⟩
   rotate_left
   ·cases h
   cases n with
   |zero=>exact E.elim
   |succ n=>
   obtain ⟨rfl,M⟩:=E;rw[if_pos rfl] at aT;have J2:wanted [mk] z mk=aa:=by unfold wanted;rw[D.abA]
   simp only[k6] at M;rw[if_pos J2] at M;obtain ⟨v,ayH,fb,rfl,rfl⟩:=M;obtain ⟨X,rfl,ds,rfl⟩:=atk fb D.apv;have aV:=Ww Z;obtain ⟨an,bg⟩:=aV.1 mk (by simp);obtain ⟨bz,G,aD⟩:=Wf X (H.ops an) s;have yY:=aD;obtain ⟨gs,i,rfl,wk,_⟩:=yY;have U:gs=#[]:=by
    cases gs with
    |mk l=>cases l with
     |nil=>rfl
     |cons _ _=>exact wk.elim
   subst U;have V:k<fn.ntmps:=bg k D.VR;have we:=H.put (d:=J k) (λb e F=>F) (λt aJ=>by grind) aD;show (Code.seq _ _).wp P _ o s;refine wp_seq (wp_region_list ?_);unfold wpList;have r0:qK mk (yielded #[mk,L] o.tmps)=aa:=by unfold qK;rw[D.abA]
   rw[if_pos r0];refine .inl ?_;unfold sM;rw[G,Oper.upon_value];unfold wpList;have W:qK L (yielded #[mk,L] (o.put mk.dst (.func (.func g) #[] i)).tmps)=aa:=by unfold qK;rw[D.amA]
   rw[if_pos W];refine .inl ?_;unfold sM;rw[D.VR];have yZ:(o.put (J k) (.func (.func g) #[] i)).eval (.tmp k)= .func (.func g) #[] i:=by simp[Act.eval,qB,H.size,V]
   have T:(execOp (o.put (J k) (.func (.func g) #[] i)).eval L).run P s= .ok (.defer {target:= .fn (.func g) i,args:=#[]}) s:=by simp[execOp,D.amB,resolve,yZ,Deferred.ofValue]
   rw[T,Oper.upon_defer];unfold wpList;rw[D.amz];show B.wp P _ _ _;have O:lj [{target:= .fn (.func g) i,args:=#[]}] hM fn.ntmps (set z mk.dst (.func (.func g) #[] ds)) {(o.put (J k) (.func (.func g) #[] i)) with defers:={target:= .fn (.func g) i,args:=#[]}::(o.put (J k) (.func (.func g) #[] i)).defers}:=by rw[D.VR];exact ⟨we.val,by rw[we.defers],we.size⟩
   have S:=Q.1;refine V9 n9 K k2 (n+1) B _ _ _ _ _ hM _ s _ Y aT wx.rel S O λq p x bb I=> ?_;obtain ⟨v,fv,fQ⟩:=iN _ q p x (wx.trans bb) I;obtain ⟨⟨axr,dv,z2,z3⟩,z4⟩:=D.apA;have N:Leaves P fn q.tmps R q.defers .returning p:=by
    rw[I.defers];refine ⟨by simp,_,i,g,#[]++i,rfl, ?_,(z4 (#[]++i) p).mono ?_⟩
    ·grind [invoke,ab0]
    ·rintro e u ix ⟨⟨cc,rfl⟩,rfl,rfl⟩;exact ⟨v,fv,fQ⟩
   rcases he with rfl|rfl<;>exact N
  ·rw[if_neg wh] at r;obtain ⟨rfl,rfl,rfl⟩:=r;obtain ⟨v,fv,fQ⟩:=iN [] o s hM wx H;rcases he with rfl|rfl
   ·grind
   ·show Leaves P fn o.tmps R o.defers .returning s;rw[H.defers];exact ⟨v,fv,fQ⟩
def WF.nf {m a:Mem} (h:WF m) (d:∀b,b<m.next->a.blk b=m.blk b\/qe m.next (a.blk b)):WF (a.nf m.next) where
 dead:=λb f=>by
  grind [Mem.nf]
 low:=λb=>by
  simp only[Mem.nf];split
  ·rename_i e;rcases d b e with c|c
   ·rw[c];exact h.low b
   grind
  ·exact fs
def acd {P:bI} (n9:P.follows .mixedOrders=aa):∀n,pB (jn P n)/\xf P (jn P n):=by
 intro n;induction n with
 |zero=>exact ⟨λf a m v D h=>h.elim,λf a m v D h=>h.elim⟩
 |succ n O=>
  obtain ⟨U,k2⟩:=O;refine ⟨?_, ?_⟩
  ·intro f a m v D h s aR;rcases h with ⟨_,h⟩|h
   ·exact ⟨(h.2.1 s).1,(h.2.1 s).2,h.1⟩
   obtain ⟨fn,c,e,fr,Z,k,H,g,J,cN,L,he,oR,rfl,W,X⟩:=h;have B:=aci J H g;have hU:∀t,low m.next ((a++nj (fn.ntmps - a.size) undef).getD t undef):=by
    intro t;rw[Yr]
    grind [Kz]
   obtain ⟨g1,g2,g3⟩:=BX U n c _ _ _ _ _ B.2.1 L s hU;rcases X with rfl|⟨rfl,rT,p⟩
   ·refine ⟨?_,g1,g3⟩;have aV:∀(M:List ResultVar) (k:List af),q2 P fr D M k->∀x∈k,low D.next x:=by
     intro M;induction M with
     |nil=>intro k h x G;cases k with|nil=>grind|cons _ _=>exact h.elim
     |cons r M O=>
      intro k h x G;cases k with
      |nil=>grind
      |cons u us=>
       rcases ha.1 G with rfl|G
       ·cases r with
        |tmp t=>have:=h.1;grind [KZ]
        |cell q t=>
         obtain ⟨b,off,_,d,bg,aD⟩:=h.1
         grind [low,iv,KX,K6,WL]
       ·exact O us h.2 x G
    have oO:=aV _ _ oR;rcases W with C|C
    ·match k,C with
     |[x],_=>exact oO x (by simp)
    ·match k with
     |[]=>intro x G;grind
     |[x]=>exact oO x (by simp)
     |x::y::l=>intro z bx;grind [wY]
   ·exact ⟨rT,s.nf p,e4 _⟩
  ·intro f a m v D h j w Y s V uQ;rcases h with ⟨J,h⟩|h
   ·refine ⟨?_,h.2.2 j w Y s V uQ⟩
    grind [lR]
   obtain ⟨fn,c,e,fr,Z,k,H,g,J,cN,L,he,oR,rfl,W,X⟩:=h;have B:=aci J H g;refine ⟨⟨fn,H,B.1,B.2.2⟩, ?_⟩;have eF:lj [] j fn.ntmps (λi=>(a++nj (fn.ntmps - a.size) undef).getD i undef) {tmps:=Y++nj (fn.ntmps - Y.size) undef,defers:=[]}:=
    ⟨aqo uQ fn.ntmps,rfl,by have:=uQ.size;grind⟩
   have aR:=BX U n c _ _ _ _ _ B.2.1 L s (eF.low V);refine ap5 n9 U k2 H g B.2.1 L he V s eF λds a' N T A p7=> ?_;obtain ⟨E,Q,K⟩:=abY A.rel p7 _ _ oR;have hlen:=K.length;have aa4:(results fn a'.tmps).run P N= .ok (pack E) N:=by
    simp only[results,kD];rw[afM];simp only[Sem.run_map];have R:=Q;refine Eq.trans (congrArg (λr=>Zg (Zg r _) _) R) ?_;simp only[jE,nt];congr 1
    match E with
    |[]=>rfl
    |[x]=>rfl
    |x::y::l=>rfl
   have yZ:de T (pack k) (pack E):=by
    rcases W with C|C
    ·match k,E,C,K with
     |[x],[y],_,o=>exact o.1
     |[x],[],_,o=>grind
     |[x],_::_::_,_,o=>grind
    ·have ai:=aca K C
     match k,E,K,ai with
     |[x],[y],o,_=>exact o.1
     |[],[],_,_=>exact ⟨_,rfl,fs⟩
     |x::y::l,jL::la::r3,_,o=>exact ⟨_,rfl,by grind⟩
     |[x],[],o,_=>grind
     |[x],_::_::_,o,_=>grind
     |[],_::_,o,_=>grind
     |_::_::_,[],o,_=>grind
     |_::_::_,[_],o,_=>grind
   have aaH:∃wG,Post P j m w wG D N/\de wG (pack k) (pack E):=by
    rcases X with rfl|⟨rfl,rT,p⟩
    ·grind
    ·have S:=s.nf p;have I:Rel P (T.below m.next) (Z.nf m.next) N:=Rel.below (m:=Z.nf m.next) A.rel S (λb e g cF=>by
      grind [Mem.nf])
     refine ⟨T.below m.next,⟨I,A.gd,e4 _,λb g=> ?_,λb e g hA=> ?_,λb g F=> ?_,λb g F=> ?_⟩,zj.2.2 yZ rT⟩
     ·simp only[cj.below,g,if_true];exact A.ext b g
     ·have:=(q3 g).1;omega
     ·simp only[Mem.nf,g,if_true] at F;exact A.ew b g F
     ·simp only[Mem.nf,g,if_true] at F;exact A.alive b g F
   grind
end Go.aF
end
section
namespace Go.aF
def yg (C c:FuncId->Array af->Mem->af->Mem->Prop):Prop:=∀f a m v b,C f a m v b->c f a m v b
def hR.mono {P:bI} {C R:FuncId->Array af->Mem->af->Mem->Prop} (cW:yg C R) {Q:bS->af} {o:Oper} {m H:Mem} {v:af} (h:hR P C Q o m v H):hR P R Q o m v H:=by
 cases h with
 |store t x y b d i L e h g j q U Z s=>exact .store t x y b d i L e h g j q U Z s
 |call f B v H h I=>exact .call f B v H h (cW _ _ _ _ _ I)
 |vZ x y t u e i a l c h p j g A s7 r=>exact .vZ x y t u e i a l c h p j g A s7 r
 |sP x y t u e i z a l c n ew new h p j D F G M g A V nF r w J q=>exact .sP x y t u e i z a l c n ew new h p j D F G M g A V nF r w J q
 |yy x y t u e i b d l c k n L new h p j g N nB A q r w s=>exact .yy x y t u e i b d l c k n L new h p j g N nB A q r w s
 |vY x y t u e i b d l c n L new h p j g N A q r w s=>exact .vY x y t u e i b d l c n L new h p j g N A q r w s
 |append x y t u e i z b d l n L new h p j D F G M g O yS r w J q=>exact .append x y t u e i z b d l n L new h p j D F G M g O yS r w J q
 |clear x t e i z b d l c L h p j D F G g q hV s=>exact .clear x t e i z b d l c L h p j D F G g q hV s
 |copy x y t u e i b d l c L cs h p j g q r w s=>exact .copy x y t u e i b d l c L cs h p j g q r w s
 |mapUpdate hZ x jW j3 u Y W b L eo vc E S ho h jk hu g O bp nC K yP uV yQ X hk bs rZ T tg wA hb=>exact .mapUpdate hZ x jW j3 u Y W b L eo vc E S ho h jk hu g O bp nC K yP uV yQ X hk bs rZ T tg wA hb
def ln.mono {P:bI} {C c:FuncId->Array af->Mem->af->Mem->Prop} (d:yg C c) {a:bS->af} {o:Oper} {m b:Mem} {v:af} (h:ln P C a o m v b):ln P c a o m v b:=by
 cases h with
 |pure h=>exact .pure h
 |read h=>exact .read h
 |new h=>exact .new h
 |fX h=>exact .fX (h.mono d)
def BP {P:bI} {C g:FuncId->Array af->Mem->af->Mem->Prop} (e:yg C g) {a:List Oper}:∀(l:List Oper) (c b:Nat->af) (m d:Mem),k6 P C a l c m b d->k6 P g a l c m b d
 |[],c,b,m,d,h=>h
 |o::l,c,b,m,d,h=>by
  simp only[k6] at h⊢;split at h
  ·rename_i f;rw[if_pos f];obtain ⟨v,k,j,i⟩:=h;exact ⟨v,k,j.mono e,BP e l _ _ _ _ i⟩
  ·rename_i f;rw[if_neg f];exact BP e l _ _ _ _ h
def vd {P:bI} {C k:FuncId->Array af->Mem->af->Mem->Prop} (c:yg C k) {d:List Oper} {B:Array Nat}:∀(l:List Oper) (i:Nat) (A:Acc) (f e:Nat->af) (m g:Mem),hW P C d B i l A f m e g->hW P k d B i l A f m e g
 |[],i,A,f,e,m,g,h=>h
 |o::l,i,A,f,e,m,g,h=>by
  simp only[hW] at h⊢;split at h
  ·rename_i j;rw[if_pos j];rcases h with ⟨v,a,b⟩|⟨v,a,n,b⟩|⟨X,v,a,b⟩|⟨v,r,a,q,p,b⟩
   ·exact .inl ⟨v,a,vd c l _ _ _ _ _ _ b⟩
   ·exact .inr (.inl ⟨v,a,n,vd c l _ _ _ _ _ _ b⟩)
   ·exact .inr (.inr (.inl ⟨X,v,a,vd c l _ _ _ _ _ _ b⟩))
   ·exact .inr (.inr (.inr ⟨v,r,a.mono c,q,p,vd c l _ _ _ _ _ _ b⟩))
  ·rename_i j;rw[if_neg j];exact vd c l _ _ _ _ _ _ h
def ab7 {P:bI} {C A:FuncId->Array af->Mem->af->Mem->Prop} (w:yg C A):∀(n g:Nat),n<=g->∀(c:Code) (q p:Nat->af) (m r:Mem) (e:fG),lS P C n c q m e p r->lS P A g c q m e p r:=by
 intro n;induction n with
 |zero=>intro g _ c q p m r e h;exact h.elim
 |succ n j=>
  intro g G c q p m r e h;cases g with
  |zero=>omega
  |succ g=>
   have o:n<=g:=by omega
   cases c with
   |skip=>exact h
   |label l=>exact h
   |exit z=>exact h
   |ret=>exact h
   |region z F d=>
    cases d with
    |false=>exact ⟨h.1,BP w _ _ _ _ _ h.2⟩
    |true=>exact ⟨h.1,vd w _ _ _ _ _ _ _ h.2⟩
   |seq a b=>
    rcases h with ⟨k,u,v,i,D⟩|h
    rotate_left
    ·exact .inr h
    refine .inl ⟨k,u,v,j g o _ _ _ _ _ _ i, ?_⟩
    grind
   |cond c a b=>obtain ⟨t,B,i⟩:=h;exact ⟨t,B,j g o _ _ _ _ _ _ i⟩
   |scope c=>exact j g o _ _ _ _ _ _ h
   |block z c=>obtain ⟨k,i,E⟩:=h;exact ⟨k,j g o _ _ _ _ _ _ i,E⟩
   |loop c=>
    obtain ⟨k,u,v,i,D⟩:=h;refine ⟨k,u,v,j g o _ _ _ _ _ _ i, ?_⟩
    grind
   |rangeFunc f H x y=>exact h.elim
   |goto l=>exact h.elim
   |refuse s=>exact h.elim
def wV {P:bI}:∀(n a:Nat),n<=a->yg (jn P n) (jn P a):=by
 intro n;induction n with
 |zero=>intro a _ f b m v q h;exact h.elim
 |succ n g=>
  intro a t f b m v q h;cases a with
  |zero=>omega
  |succ a=>
   rcases h with h|h
   ·exact .inl h
   obtain ⟨fn,c,e,o,r,s,j,i,l,k,p,d⟩:=h;exact .inr ⟨fn,c,e,o,r,s,j,i,l,k,ab7 (g a (by omega)) n a (by omega) _ _ _ _ _ _ p,d⟩
def h2 (P:bI) (f:FuncId) (a:Array af) (m:Mem) (R:af->Mem->Prop):Prop:=∃n v b,jn P n f a m v b/\R v b
def W (P:bI) (c:Code) (Q:fG->(Nat->af)->Mem->Prop) (d:Nat->af) (m:Mem):Prop:=∃n e a b,lS P (jn P n) n c d m e a b/\Q e a b
def mr (P:bI) (b:bS->af) (o:Oper) (m:Mem) (K:af->Mem->Prop):Prop:=∃n v a,ln P (jn P n) b o m v a/\K v a
def ea (P:bI) (a l:List Oper) (K:(Nat->af)->Mem->Prop) (d:Nat->af) (m:Mem):Prop:=∃n b c,k6 P (jn P n) a l d m b c/\K b c
def hQ (P:bI) (a:List Oper) (B:Array Nat) (i:Nat) (l:List Oper) (A:Acc) (K:(Nat->af)->Mem->Prop) (d:Nat->af) (m:Mem):Prop:=∃n b c,hW P (jn P n) a B i l A d m b c/\K b c
section
variable {P:bI} {Q AH:fG->(Nat->af)->Mem->Prop} {fr:Nat->af} {m:Mem}
def h2.mono {f:FuncId} {a:Array af} {R c:af->Mem->Prop} (h:h2 P f a m R) (d:∀v b,R v b->c v b):h2 P f a m c:=
 let ⟨n,v,b,g,e⟩:=h;⟨n,v,b,g,d _ _ e⟩
def W.mono {c:Code} (h:W P c Q fr m) (b:∀e fr m,Q e fr m->AH e fr m):W P c AH fr m:=
 let ⟨n,e,d,g,f,a⟩:=h;⟨n,e,d,g,f,b _ _ _ a⟩
def W.skip (h:Q .normal fr m):W P .skip Q fr m:=⟨1,_,_,_,⟨rfl,rfl,rfl⟩,h⟩
def W.label {l:Nat} (h:Q .normal fr m):W P (.label l) Q fr m:=⟨1,_,_,_,⟨rfl,rfl,rfl⟩,h⟩
def W.exit {a:Nat} (h:Q (.exit a) fr m):W P (.exit a) Q fr m:=⟨1,_,_,_,⟨rfl,rfl,rfl⟩,h⟩
def W.ret (h:Q .ret fr m):W P .ret Q fr m:=⟨1,_,_,_,⟨rfl,rfl,rfl⟩,h⟩
def afi (next:(Nat->af)->Mem->Prop) (Q:fG->(Nat->af)->Mem->Prop):fG->(Nat->af)->Mem->Prop| .normal,a,m=>next a m|e,a,m=>Q e a m
def pZ (c:Nat) (Q:fG->(Nat->af)->Mem->Prop):fG->(Nat->af)->Mem->Prop| .exit b,a,m=>if b=c then Q .normal a m else Q (.exit b) a m|e,a,m=>Q e a m
def q7 {n N k:Nat} (h:n<=N) (g:n<=k) {c:Code} {b a:Nat->af} {m d:Mem} {e:fG} (f:lS P (jn P n) n c b m e a d):lS P (jn P N) k c b m e a d:=ab7 (wV n N h) n k g _ _ _ _ _ _ f
def W.seq {a b:Code} (h:W P a (afi (W P b Q) Q) fr m):W P (.seq a b) Q fr m:=by
 obtain ⟨n,e,f,g,d,c⟩:=h;cases e with
 |normal=>obtain ⟨p,k,l,o,i,j⟩:=c;exact ⟨max n p+1,k,l,o, .inl ⟨_,_,_,q7 (by omega) (by omega) d,by rw[if_pos rfl];exact q7 (by omega) (by omega) i⟩,j⟩
 |exit q=>exact ⟨n+1,_,f,g, .inl ⟨_,_,_,q7 (by omega) (by omega) d,by grind⟩,c⟩
 |ret=>exact ⟨n+1,_,f,g, .inl ⟨_,_,_,q7 (by omega) (by omega) d,by grind⟩,c⟩
def W.cond {c:bS} {a b:Code} {t:Bool} (d:bk fr c= .bool t) (h:W P (if t then a else b) Q fr m):W P (.cond c a b) Q fr m:=by
 obtain ⟨n,e,g,j,i,f⟩:=h;exact ⟨n+1,e,g,j,⟨t,d,q7 (by omega) (by omega) i⟩,f⟩
def W.block {a:Nat} {c:Code} (h:W P c (pZ a Q) fr m):W P (.block a c) Q fr m:=by
 obtain ⟨n,e,b,f,d,i⟩:=h;refine ⟨n+1,_,b,f,⟨e,q7 (by omega) (by omega) d,rfl⟩, ?_⟩;cases e with
 |normal=>grind [pZ]
 |exit g=>
  grind [pZ]
 |ret=>grind [pZ]
def W.scope {c:Code} (h:W P c Q fr m):W P (.scope c) Q fr m:=by
 obtain ⟨n,e,a,b,f,d⟩:=h;exact ⟨n+1,e,a,b,(show lS P (jn P (n+1)) n c fr m e a b from q7 (by omega) (by omega) f),d⟩
def W.apr {c:Code} (h:W P c (afi (W P (.loop c) Q) Q) fr m):W P (.loop c) Q fr m:=by
 obtain ⟨n,e,d,f,b,a⟩:=h;cases e with
 |normal=>obtain ⟨o,j,k,l,g,i⟩:=a;exact ⟨max n o+1,j,k,l,⟨_,_,_,q7 (by omega) (by omega) b,by rw[if_pos rfl];exact q7 (by omega) (by omega) g⟩,i⟩
 |exit p=>exact ⟨n+1,_,d,f,⟨_,_,_,q7 (by omega) (by omega) b,by grind⟩,a⟩
 |ret=>exact ⟨n+1,_,d,f,⟨_,_,_,q7 (by omega) (by omega) b,by grind⟩,a⟩
def W.region {e:Nat} {a:Array Oper} (h:ea P a.toList a.toList (Q .normal) fr m):W P (.region e a ak) Q fr m:=by
 obtain ⟨n,c,f,d,b⟩:=h;exact ⟨n+1, .normal,c,f,⟨rfl,BP (wV _ _ (mo _)) _ _ _ _ _ d⟩,b⟩
def W.draw {e:Nat} {a:Array Oper} (h:hQ P a.toList (kp a) 0 a.toList ⟨[],[],[]⟩ (Q .normal) fr m):W P (.region e a aa) Q fr m:=by
 obtain ⟨n,c,f,d,b⟩:=h;exact ⟨n+1, .normal,c,f,⟨rfl,vd (wV _ _ (mo _)) _ _ _ _ _ _ _ d⟩,b⟩
end
section
variable {P:bI} {ops l:List Oper} {K:(Nat->af)->Mem->Prop} {fr:Nat->af} {m:Mem} {o:Oper}
def ea.nil (h:K fr m):ea P ops [] K fr m:=⟨0,_,_,⟨rfl,rfl⟩,h⟩
def ea.skip (d:wanted ops fr o=ak) (h:ea P ops l K (set fr o.dst undef) m):ea P ops (o::l) K fr m:=by
 obtain ⟨n,b,c,e,a⟩:=h;refine ⟨n,b,c, ?_,a⟩
 grind [k6]
theorem ea.cons (d:wanted ops fr o=aa) (h:mr P (bk fr) o m λv a=>ea P ops l K (set fr o.dst v) a):ea P ops (o::l) K fr m:=by
 obtain ⟨n,v,a,c,i,e,g,f,b⟩:=h;refine ⟨max n i,e,g, ?_,b⟩;simp only[k6];rw[if_pos d];exact ⟨v,a,c.mono (wV _ _ (Nat.le_max_left _ _)),BP (wV _ _ (Nat.le_max_right _ _)) _ _ _ _ _ f⟩
theorem mr.pure {a:bS->af} {R:af->Mem->Prop} {v:af} (h:dD P a o v) (b:R v m):mr P a o m R:=⟨0,v,m, .pure h,b⟩
theorem mr.read {a:bS->af} {R:af->Mem->Prop} {v:af} (h:fH P a o m v) (b:R v m):mr P a o m R:=⟨0,v,m, .read h,b⟩
theorem mr.new {a:bS->af} {R:af->Mem->Prop} {v:af} {X:bW} (h:jC P a o m.next X v) (b:R v (m.push X)):mr P a o m R:=⟨0,v,_, .new h,b⟩
theorem mr.fX {b:bS->af} {R:af->Mem->Prop} {v:af} {a:Mem} {n:Nat} (h:hR P (jn P n) b o m v a) (c:R v a):mr P b o m R:=⟨n,v,a, .fX h,c⟩
end
def h2.enter {P:bI} {f:FuncId} {fn:Func} {c:Code} {a:Array af} {m:Mem} {R:af->Mem->Prop} (p:P.funcs[f]? =J fn) (o:qm P fn c) (s:lR P f=aa) (r:a.size<=fn.ntmps)
  (h:W P c (λe k g=>(e= .normal\/e= .ret)/\∃d,q2 P k g fn.results.toList d/\(d.length=1\/∀x∈d,storable x=aa)/\
   (R (pack d) g\/(R (pack d) (g.nf m.next)/\low m.next (pack d)/\∀b,b<m.next->g.blk b=m.blk b\/qe m.next (g.blk b))))
   (λi=>(a++nj (fn.ntmps - a.size) undef).getD i undef) m):h2 P f a m R:=by
 obtain ⟨n,e,k,g,t,u,d,l,q,j⟩:=h;rcases j with j|⟨j,w,v⟩
 ·exact ⟨n+1,_,_, .inr ⟨fn,c,e,k,g,d,p,o,s,r,t,u,l,rfl,q, .inl rfl⟩,j⟩
 ·exact ⟨n+1,_,_, .inr ⟨fn,c,e,k,g,d,p,o,s,r,t,u,l,rfl,q, .inr ⟨rfl,w,v⟩⟩,j⟩
def h2.sort {P:bI} {f:FuncId} {a:Array af} {m m':Mem} {v:af} {R:af->Mem->Prop} (c:lR P f=aa) (h:LB P f a m v m') (b:R v m'):h2 P f a m R:=⟨1,v,m', .inl ⟨c,h⟩,b⟩
def h5 (w:World):cj:=λb=>if b<w.heap.size then J ⟨b,0,0,0⟩ else ae
def xt (b:Nat):af->Option af| .slice (J _) 0 0=>J (.slice (J ⟨b,0,ae⟩) 0 0)|_=>ae
open Classical in
noncomputable def ig (w:World):Mem:={next:=w.heap.size,blk:=λb=>if b<w.heap.size then .ro (λi=>match w.cell? ⟨b,i,ae⟩ with|some v=>if eA (h5 w) v v then J v else xt b v|none=>ae) else .dead}
def acp {b:Nat} {v u:af} (h:xt b v=J u):∃a,v= .slice (J a) 0 0/\u= .slice (J ⟨b,0,ae⟩) 0 0:=by
 unfold xt at h
 grind
def w1 {w:World} {b:Nat} {e:kl} (h:h5 w b=J e):b<w.heap.size/\e.blk=b:=by
 grind [h5]
def adH {w:World} {b:Nat} {e:kl} (h:h5 w b=J e):e.db=0:=by
 grind [h5]
def arb {w:World} {b i:Nat} {v:af} (h:w.cell? ⟨b,i,ae⟩=J v) (a:eA (h5 w) v v):(ig w).load b i=J v:=by
 have c:b<w.heap.size:=I8 w ⟨b,i,ae⟩ h;simp[Mem.load,ig,c,h,a]
def ad8 (w:World):WF (ig w) where
 dead:=λb d=>by have d:w.heap.size<=b:=d;simp[ig,show ¬b<w.heap.size by omega]
 low:=λb=>by
  simp only[ig];split
  ·intro i v c;simp only at c;split at c
   ·split at c
    ·rename_i f;cases c;exact (Lf (λb e h=>(w1 h).1)).1 f
    ·obtain ⟨a,_,rfl⟩:=acp c;assumption
   ·cases c
  ·exact fs
def arC (P:bI) (w:World) (r:rE P w):Rel P (h5 w) (ig w) w:=by
 refine ⟨⟨?_, ?_, ?_⟩,r,λb e d n=>by obtain ⟨g,k⟩:=w1 d;simp[ig,g,bW.iO] at n⟩
 ·intro b e d;obtain ⟨g,k⟩:=w1 d;exact ⟨g,by rw[k];exact g⟩
 ·intro b e d;obtain ⟨g,k⟩:=w1 d;simp only[ig,g,if_true];intro i v h;simp only at h;have l:∀u,w.cell? ⟨b,i,ae⟩=J u->∃(m:Array af) (t:bV) (bZ:Nat×Nat),w.heap[e.blk]? =J (.cells m t bZ)/\m[i]? =J u:=by
   intro u j;rw[k];simp only[rG] at j;split at j
   ·rename_i c t f s;exact ⟨c,t,f,s,by simpa using j⟩
   ·cases j
  split at h
  ·rename_i u j;obtain ⟨m,t,bZ,o,p⟩:=l u j;split at h
   ·rename_i q;cases h;exact ⟨m,t,bZ,_,o,by rw[adH d,lH];exact p,q⟩
   ·obtain ⟨a,rfl,rfl⟩:=acp h;exact ⟨m,t,bZ,_,o,by rw[adH d,lH];exact p,e,rfl,d, .inr (.inr (.inr (.inl ⟨rfl,rfl,a,rfl⟩)))⟩
  ·cases h
 ·intro b y e x d z n;obtain ⟨g,k⟩:=w1 d;simp[ig,g,bW.iO] at n
def aqc {P:bI} (x:P.follows .mixedOrders=aa) {f:FuncId} {c:Array af} {w:World} (p:rE P w) (y:∀a∈c.toList,de (h5 w) a a) (h:h2 P f c (ig w) λv _=>v= .bool aa):
  Calls P f c w λe j=>e= .returned (.bool aa)/\RowKit.Below w.heap.size w j:=by
 obtain ⟨n,v,u,i,rfl⟩:=h;have r:=(acd x n).2 f c (ig w) _ u i (h5 w) w c (ad8 w) (arC P w p) (by
  have:∀l:List af,(∀a∈l,de (h5 w) a a)->bP (de (h5 w)) l l:=by
   intro l;induction l with
   |nil=>intro _;exact fs
   |cons a l m=>intro h;exact ⟨h a (by simp),m λb g=>h b (by simp[g])⟩
  exact this _ y)
 refine r.2.mono ?_;rintro e j ⟨A,B,rfl,d,o⟩;have t:=o.bool;subst t;refine ⟨rfl,d.gd.os,d.gd.tape,d.gd.output,d.gd.size,λk s=>d.gd.block k s λb e g q=> ?_⟩;obtain ⟨i,z⟩:=w1 g;simp[ig,i,bW.iO] at q
end Go.aF
end
section
namespace Go.aF
def bW.iD:bW->Prop| .dead| .lock _ _ _ _=>False|_=>True
def bW.mem:bW->bW| .lock _ _ L t=> .own L t|b=>b
def bW.iD.ne {x:bW} (h:x.iD):x≠ .dead:=λe=>by rw[e] at h;exact h
def bW.iD.mem {x:bW} (h:x.iD):x.mem=x:=by cases x<;>first|rfl|exact h.elim
def lk (z:Nat->bW) (m:Mem):Prop:=∀b,z b≠ .dead->m.blk b=(z b).mem/\b<m.next
def lk.iD {z:Nat->bW} {m:Mem} (h:lk z m) {b:Nat} (a:(z b).iD):m.blk b=z b/\b<m.next:=by
 have:=h b a.ne;rw[a.mem] at this
 grind
def fl (z a:Nat->bW):Prop:=∀b,(z b).iD->a b=z b
theorem fl.refl (z:Nat->bW):fl z z:=λ_ _=>rfl
def fl.trans {a b c:Nat->bW} (h:fl a b) (k:fl b c):fl a c:=λx d=>by
 have e:=h x d;rw[k x (by grind),e]
def nH (z:Nat->bW) (b o:Nat):Option af:=match z b with| .ro rd=>rd o| .own L _=>L[o]?| .map _ _=>ae| .lock _ _ _ _=>ae| .dead=>ae
theorem w5 {z:Nat->bW} {b o:Nat} {v:af} (h:nH z b o=J v):(z b).iD:=by
 unfold nH at h;cases a:z b with
 |dead=>grind
 |lock _ _ _ _=>grind
 |_=>exact fs
def ar3 {z a:Nat->bW} (h:fl z a) {b o:Nat} {v:af} (c:nH z b o=J v):nH a b o=J v:=by
 have:=h b (w5 c)
 grind [nH]
def KO {z:Nat->bW} {m:Mem} (h:lk z m) {b o:Nat} {v:af} (a:nH z b o=J v):m.load b o=J v:=by
 have:=(h b (w5 a).ne).1;rw[(w5 a).mem] at this
 grind [nH,Mem.load]
structure cM (aK:Type) where
 bM:Nat
 tid:bV
 rd:(Nat->bW)->aK->List af->Prop
 len:∀z x cs,rd z x cs->cs.length=bM
 mono:∀z z',fl z z'->∀x cs,rd z x cs->rd z' x cs
 one:∀z x cs,rd z x cs->∀c∈cs,storable c=aa/\c.cells=#[c]
def o2 (z:Nat->bW) (b o:Nat) (a:List af):Prop:=∀(i:Nat) (u:af),a[i]? =J u->nH z b (o+i)=J u
def ql (L:List af) (o:Nat) (a:List af):Prop:=∀(i:Nat) (u:af),a[i]? =J u->L[o+i]? =J u
def fA {e:Type} (T:cM e) (z:Nat->bW) (d:List e) (v:af):Prop:=
 (v= .slice ae 0 0/\d=[])\/
 ∃b a c,v= .slice (J ⟨b,a,ae⟩) d.length c/\(z b).iD/\((c=dc/\∃L,z b= .own L T.tid/\a+d.length*T.bM<=L.length)\/(c<dc/\d.length<=c))/\
  ∀(i:Nat) (x:e),d[i]? =J x->∃f,T.rd z x f/\o2 z b (a+i*T.bM) f
def Kp {z c:Nat->bW} (h:fl z c) {b o:Nat} {a:List af} (d:o2 z b o a):o2 c b o a:=λi u e=>ar3 h (d i u e)
def fA.mono {g:Type} {T:cM g} {z f:Nat->bW} (h:fl z f) {l:List g} {v:af} (d:fA T z l v):fA T f l v:=by
 rcases d with d|⟨b,e,c,r,j,a,n⟩
 ·exact .inl d
 ·refine .inr ⟨b,e,c,r,by rw[h b j];grind, ?_,λi x m=> ?_⟩
  ·rcases a with ⟨a,L,s,o⟩|a
   ·exact .inl ⟨a,L,by rw[h b j];grind,o⟩
   grind
  ·obtain ⟨k,p,q⟩:=n i x m;exact ⟨k,T.mono z f h x k p,Kp h q⟩
def fA.nil {a:Type} {T:cM a} {z:Nat->bW}:fA T z [] (.slice ae 0 0):= .inl ⟨rfl,rfl⟩
def fA.len {d:Type} {T:cM d} {z:Nat->bW} {e:List d} {v:af} (h:fA T z e v):∃a c,v= .slice a e.length c:=by
 rcases h with ⟨rfl,rfl⟩|⟨b,f,c,rfl,_⟩
 ·simp_all
 grind
def da:af->Option Nat| .slice (J a) _ _=>J a.block| .pointer (J a)=>J a.block|_=>ae
def fO {d:Type} (T:cM d) (z:Nat->bW) (m:Mem) (a:List d) (v:af):Prop:=
 (v= .slice ae 0 0/\a=[])\/
 ∃b o L c,v= .slice (J ⟨b,o,ae⟩) a.length c/\m.blk b= .own L T.tid/\b<m.next/\z b= .dead/\o+a.length*T.bM<=L.length/\(c=dc\/(c<dc/\a.length<=c/\o+c*T.bM<=L.length))/\
  ∀(i:Nat) (x:d),a[i]? =J x->∃e,T.rd z x e/\ql L (o+i*T.bM) e
def fO.AW {d:Type} {T:cM d} {z:Nat->bW} {m:Mem} {a:List d} {v:af} (h:∃b L c,v= .slice (J ⟨b,0,ae⟩) a.length c/\m.blk b= .own L T.tid/\b<m.next/\z b= .dead/\a.length*T.bM<=L.length/\(c=dc\/(c<dc/\a.length<=c/\c*T.bM<=L.length))/\
  ∀(i:Nat) (x:d),a[i]? =J x->∃e,T.rd z x e/\ql L (i*T.bM) e):fO T z m a v:=by
 obtain ⟨b,L,c,k,g,f,j,n,o,p⟩:=h;exact .inr ⟨b,0,L,c,k,g,f,j,by grind,by grind,λi x l=>by grind⟩
def fO.nil {a:Type} {T:cM a} {z:Nat->bW} {m:Mem}:fO T z m [] (.slice ae 0 0):= .inl ⟨rfl,rfl⟩
def fO.frame {d:Type} {T:cM d} {z:Nat->bW} {m a:Mem} {e:List d} {v:af} (h:fO T z m e v) (i:∀b,da v=J b->b<m.next->a.blk b=m.blk b/\b<a.next):fO T z a e v:=by
 rcases h with h|⟨b,o,L,c,rfl,q,g,f,j,k,l⟩
 ·exact .inl h
 ·obtain ⟨p,n⟩:=i b rfl g;exact .inr ⟨b,o,L,c,rfl,by grind,n,f,j,k,l⟩
def fO.lt {d:Type} {T:cM d} {z:Nat->bW} {m:Mem} {e:List d} {v:af} (h:fO T z m e v):∀b,da v=J b->b<m.next/\z b= .dead:=by
 rcases h with ⟨rfl,_⟩|⟨b,o,L,c,rfl,j,g,f,_⟩
 ·intro b a;cases a
 ·intro i a;cases a;grind
def fO.len {d:Type} {T:cM d} {z:Nat->bW} {m:Mem} {e:List d} {v:af} (h:fO T z m e v):∃a c,v= .slice a e.length c:=by
 rcases h with ⟨rfl,rfl⟩|⟨b,o,L,c,rfl,_⟩
 ·simp_all
 grind
def jT (z:Nat->bW) (m:Mem) (p:Option Nat):Nat->bW:=λb=>if p=J b then m.blk b else z b
def Cj {z:Nat->bW} {m:Mem} {p:Option Nat} (h:∀b,p=J b->z b= .dead):fl z (jT z m p):=by
 intro b a;unfold jT;split
 ·exact absurd (h b ‹_›) a.ne
 rfl
def Lj {z:Nat->bW} {m:Mem} {p:Option Nat} (h:lk z m) (c:∀b,p=J b->b<m.next/\(m.blk b).mem=m.blk b):lk (jT z m p) m:=by
 intro b a;unfold jT at a⊢;split at a
 ·grind
 ·rw[if_neg ‹_›];exact h b a
def fO.awh {e:Type} {T:cM e} {z:Nat->bW} {m:Mem} {a:List e} {v:af} (h:fO T z m a v):fA T (jT z m (da v)) a v:=by
 rcases h with h|⟨b,o,L,c,rfl,B,t,s,w,y,n⟩
 ·exact .inl h
 ·have f:jT z m (da (.slice (J ⟨b,o,ae⟩) a.length c)) b= .own L T.tid:=by grind [jT,da]
  have d:fl z (jT z m (da (.slice (J ⟨b,o,ae⟩) a.length c))):=Cj λA l=>by cases l;grind
  refine .inr ⟨b,o,c,rfl,by rw[f];exact fs, ?_,λi x j=> ?_⟩
  ·grind
  ·obtain ⟨g,p,q⟩:=n i x j;refine ⟨g,T.mono _ _ d x g p,λk u r=> ?_⟩;simp only[nH,f];exact q k u r
def e6 (p q:Option Nat):Prop:=∀b,p=J b->q≠J b
def e6.symm {p q:Option Nat} (h:e6 p q):e6 q p:=λb c a=>h b a c
def e6.qg {q:Option Nat}:e6 q Option.none:=λ_ _ h=>by grind
structure dL (z:Nat->bW) (e m:Mem) (k:Option Nat):Prop where
 bZ:lk z m
 dead:∀b,m.next<=b->m.blk b= .dead
 oL:∀b,e.next<=b->e.blk b= .dead
 next:e.next<=m.next
 kept:∀b,b<e.next->k≠J b->m.blk b=e.blk b
def dL.start {z:Nat->bW} {m:Mem} {k:Option Nat} (h:lk z m) (a:∀b,m.next<=b->m.blk b= .dead):dL z m m k:=⟨h,a,a,e4 _,λ_ _ _=>rfl⟩
def dL.push {z:Nat->bW} {e m:Mem} {k:Option Nat} (h:dL z e m k) (x:bW):dL z e (m.push x) k:=by
 refine ⟨λb a=> ?_,λb a=> ?_,h.oL,Nat.le_succ_of_le h.next,λb a c=> ?_⟩
 ·have:=h.bZ b a
  grind [Mem.push]
 ·simp only[Mem.push] at a⊢;rw[if_neg (by omega)];exact h.dead b (by omega)
 ·simp only[Mem.push];have:=h.next;rw[if_neg (by omega)];exact h.kept b a c
def dL.put {z:Nat->bW} {e m:Mem} {k:Option Nat} (h:dL z e m k) {b:Nat} (x:bW) (g:z b= .dead) (i:b<m.next) (f:e.next<=b\/k=J b):dL z e (m.put b x) k:=by
 refine ⟨λc a=> ?_,λc a=> ?_,h.oL,h.next,λc a d=> ?_⟩
 ·have:=h.bZ c a
  grind [Mem.put]
 ·have a:m.next<=c:=a;simp only[Mem.put];rw[if_neg (by omega)];exact h.dead c a
 ·simp only[Mem.put];rw[if_neg ?_]
  ·exact h.kept c a d
  grind
structure gl (m m':Mem) (k:Option Nat):Prop where
 next:m.next<=m'.next
 dead:∀b,m'.next<=b->m'.blk b= .dead
 blk:∀b,b<m.next->k≠J b->m'.blk b=m.blk b
def dL.same {z:Nat->bW} {e m m':Mem} {k q:Option Nat} (h:dL z e m k) (s:gl m m' q) (d:∀b,q=J b->z b= .dead/\(e.next<=b\/k=J b)):dL z e m' k:=by
 refine ⟨λb a=> ?_,s.dead,h.oL,jd h.next s.next,λb a f=> ?_⟩
 ·have:=h.bZ b a;refine ⟨?_,hS this.2 s.next⟩;rw[s.blk b this.2 (λc=>a (d b c).1)]
  grind
 ·rw[s.blk b (hS a h.next) (λc=> ?_)]
  ·exact h.kept b a f
  grind
def dL.awi {z:Nat->bW} {e m:Mem} (h:dL z e m ae):m.nf e.next=e:=by
 have:(m.nf e.next).blk=e.blk:=by
  funext b;simp only[Mem.nf];split
  ·exact h.kept b ‹_› (by simp)
  ·exact (h.oL b (by omega)).symm
 simp_all [Mem.nf]
def cM.flat {b:Type} (t:bV) (f:b->af) (g:∀x,dy (f x)=aa):cM b where
 bM:=1
 tid:=t
 rd:=λ_ x d=>d=[f x]
 len:=λ_ _ _ h=>by rw[h];rfl
 mono:=λ_ _ _ _ _ h=>h
 one:=λ_ x d h c a=>by rw[h] at a;simp only[IM] at a;subst a;have:=g x;cases e:f x<;>simp[e,dy] at this<;>first|exact ⟨rfl,rfl⟩|exact ⟨by simp[storable,this],rfl⟩
def str (s:List UInt8):af:= .string ⟨s.toArray⟩
def I4 (t:bV) (k:aG):cM Int:=cM.flat t (λn=> .int k n) λ_=>rfl
def Cn (t:bV):cM Bool:=cM.flat t (λn=> .bool n) λ_=>rfl
def I5 (t:bV):cM (List UInt8):=cM.flat t str λ_=>rfl
def TV {d:Type} (t:bV) (T:cM d):cM (List d) where
 bM:=1
 tid:=t
 rd:=λz j f=>∃v,f=[v]/\fA T z j v
 len:=λ_ _ _ h=>by obtain ⟨v,rfl,_⟩:=h;rfl
 mono:=λ_ _ h _ _ g=>by obtain ⟨v,i,b⟩:=g;exact ⟨v,i,b.mono h⟩
 one:=λ_ _ f h c e=>by obtain ⟨v,rfl,b⟩:=h;simp only[IM] at e;subst e;obtain ⟨a,n,rfl⟩:=b.len;exact ⟨rfl,rfl⟩
end Go.aF
end
section
namespace Go.aF
section
variable {P:bI} {ap:bS->af} {o:Oper}
def tF {x y:bS} (h:o.op.operands=#[x,y]) {v:af} (d:∀e b,o.op≠ .select e b) (g:flat (ap x)=aa) (f:flat (ap y)=aa) (a:flat v=aa) (c:∀w,(execOp ap o).run P w= .ok (.value v) w):dD P ap o v:=by
 refine .flat v d (λz i=> ?_) a c
 grind
def Li {x:bS} (h:o.op.operands=#[x]) {v:af} (d:∀e b,o.op≠ .select e b) (f:flat (ap x)=aa) (a:flat v=aa) (c:∀w,(execOp ap o).run P w= .ok (.value v) w):dD P ap o v:=by
 refine .flat v d (λz g=> ?_) a c
 grind
def auR {x:bS} {v:af} (h:o.op= .move x) (a:ap x=v):dD P ap o v:=a▸ .move x (.inl h)
def asF {x:bS} {v:af} (h:o.op= .assign x) (a:ap x=v):dD P ap o v:=a▸ .move x (.inr h)
def aeH {c a b:bS} {t:Bool} {v:af} (h:o.op= .pick c a b) (e:ap c= .bool t) (d:(if t then ap a else ap b)=v):dD P ap o v:=d▸ .pick c a b t h e
def adm {x:bS} {i:Nat} {a:List af} {v:af} (h:o.op= .extract x i) (c:ap x= .tuple a.toArray) (b:a[i]? =J v):dD P ap o v:= .extract x i _ v h c (by simpa using b)
section
variable {x y:bS} {t u:bV} {k:aG} {a b:Int}
def om {c:BinOp} (h:o.op= .binOp c t x y u) (f:ap x= .int k a) (e:ap y= .int k b) {v:af} (g:∀w,(binOp c t (.int k a) (.int k b)).run P w= .ok v w) (d:flat v=aa):dD P ap o v:=by
 refine tF (x:=x) (y:=y) (by rw[h];rfl) (by grind) (by rw[f];rfl) (by rw[e];rfl) d λw=> ?_;simp_all [eqGuard,execOp]
def oj {c:BinOp} (e:c≠ .shl) (d:c≠ .shr) (w:World):(binOp c t (.int k a) (.int k b)).run P w=(match c with
   | .add| .sub| .mul=>Op.intArith c k a b
   | .quo| .rem=>Op.intDiv c k a b
   | .and| .or| .xor| .andNot=>Op.intBits c k a b
   |_=>Op.intCmp c a b).run P w:=by
 cases c<;>first|exact absurd rfl e|exact absurd rfl d|grind [binOp]
def apO (h:o.op= .binOp .add t x y u) (d:ap x= .int k a) (c:ap y= .int k b):dD P ap o (.int k (k.wrap (a+b))):=om h d c (λw=>by rw[oj (by simp) (by simp)];rfl) rfl
def apZ (h:o.op= .binOp .sub t x y u) (d:ap x= .int k a) (c:ap y= .int k b):dD P ap o (.int k (k.wrap (a - b))):=om h d c (λw=>by rw[oj (by simp) (by simp)];rfl) rfl
def apU (h:o.op= .binOp .mul t x y u) (d:ap x= .int k a) (c:ap y= .int k b):dD P ap o (.int k (k.wrap (a*b))):=om h d c (λw=>by rw[oj (by simp) (by simp)];rfl) rfl
def abP (h:o.op= .binOp .quo t x y u) (d:ap x= .int k a) (c:ap y= .int k b) (e:b≠0):dD P ap o (.int k (k.wrap (a.tdiv b))):=om h d c (λw=>by rw[oj (by simp) (by simp)];simp[Op.intDiv,e]) rfl
def abQ (h:o.op= .binOp .rem t x y u) (d:ap x= .int k a) (c:ap y= .int k b) (e:b≠0):dD P ap o (.int k (a.tmod b)):=om h d c (λw=>by rw[oj (by simp) (by simp)];simp[Op.intDiv,e]) rfl
def ih (c:BinOp) (k:aG) (x y:Int):Int:=
 let a:=qC k.bits x
 let b:=qC k.bits y
 match c with
 | .and=>k.wrap (a&&&b).toNat
 | .or=>k.wrap (a|||b).toNat
 | .xor=>k.wrap (a ^^^ b).toNat
 |_=>k.wrap (a&&&~~~b).toNat
def apP (h:o.op= .binOp .and t x y u) (d:ap x= .int k a) (c:ap y= .int k b):dD P ap o (.int k (ih .and k a b)):=om h d c (λw=>by rw[oj (by simp) (by simp)];rfl) rfl
def apY (h:o.op= .binOp .or t x y u) (d:ap x= .int k a) (c:ap y= .int k b):dD P ap o (.int k (ih .or k a b)):=om h d c (λw=>by rw[oj (by simp) (by simp)];rfl) rfl
def ap0 (h:o.op= .binOp .xor t x y u) (d:ap x= .int k a) (c:ap y= .int k b):dD P ap o (.int k (ih .xor k a b)):=om h d c (λw=>by rw[oj (by simp) (by simp)];rfl) rfl
def asE (h:o.op= .binOp .andNot t x y u) (d:ap x= .int k a) (c:ap y= .int k b):dD P ap o (.int k (ih .andNot k a b)):=om h d c (λw=>by rw[oj (by simp) (by simp)];rfl) rfl
def abO (h:o.op= .binOp .eql t x y u) (d:ap x= .int k a) (c:ap y= .int k b):dD P ap o (.bool (a==b)):=om h d c (λw=>by rw[oj (by simp) (by simp)];rfl) rfl
def apW (h:o.op= .binOp .neq t x y u) (d:ap x= .int k a) (c:ap y= .int k b):dD P ap o (.bool (a !=b)):=om h d c (λw=>by rw[oj (by simp) (by simp)];rfl) rfl
def apT (h:o.op= .binOp .lss t x y u) (d:ap x= .int k a) (c:ap y= .int k b):dD P ap o (.bool (decide (a<b))):=om h d c (λw=>by rw[oj (by simp) (by simp)];rfl) rfl
def apS (h:o.op= .binOp .leq t x y u) (d:ap x= .int k a) (c:ap y= .int k b):dD P ap o (.bool (decide (a<=b))):=om h d c (λw=>by rw[oj (by simp) (by simp)];rfl) rfl
def apR (h:o.op= .binOp .gtr t x y u) (d:ap x= .int k a) (c:ap y= .int k b):dD P ap o (.bool (decide (b<a))):=om h d c (λw=>by rw[oj (by simp) (by simp)];rfl) rfl
def apQ (h:o.op= .binOp .geq t x y u) (d:ap x= .int k a) (c:ap y= .int k b):dD P ap o (.bool (decide (b<=a))):=om h d c (λw=>by rw[oj (by simp) (by simp)];rfl) rfl
def atf {op:BinOp} {d:aG} (h:o.op= .binOp op t x y u) (e:ap x= .int k a) (c:ap y= .int d b) (i:0<=b) (g:op= .shl\/op= .shr):
  dD P ap o (.int k (if op= .shl then k.wrap (a*2 ^ (min b.toNat k.bits)) else a.fdiv (2 ^ (min b.toNat k.bits)))):=by
 refine tF (x:=x) (y:=y) (by rw[h];rfl) (by grind) (by rw[e];rfl) (by rw[c];rfl) rfl λw=> ?_;have f:¬b<0:=by omega
 rcases g with rfl|rfl
 ·simp[execOp,h,e,c,eqGuard,binOp,Op.shift,f]
 ·simp[execOp,h,e,c,eqGuard,binOp,Op.shift,f]
def apX {b:Bool} (h:o.op= .unOp .not t x) (a:ap x= .bool b):dD P ap o (.bool (!b)):=
 Li (x:=x) (by rw[h];rfl) (by grind) (by rw[a];rfl) rfl λw=>by simp only[execOp,h,a];rfl
def apV (h:o.op= .unOp .neg t x) (b:ap x= .int k a):dD P ap o (.int k (k.wrap (0 - a))):=
 Li (x:=x) (by rw[h];rfl) (by grind) (by rw[b];rfl) rfl λw=>by simp only[execOp,h,b];rfl
def avt {d:TypeDesc} {b:aG} (h:o.op= .convert t u x) (e:P.underlying t=J d) (f:P.underlying u=J (.int b)) (c:ap x= .int k a):dD P ap o (.int b (b.wrap a)):=
 Li (x:=x) (by rw[h];rfl) (by grind) (by rw[c];rfl) rfl λw=>by simp_all [execOp,convert,fw,Conv.intToInt]
def auP {e:Array bV} (h:o.op= .call {callee:= .builtin .max,args:=#[x,y],argTypes:=e}) (d:ap x= .int k a) (c:ap y= .int k b):dD P ap o (.int k (max a b)):=by
 refine tF (x:=x) (y:=y) (by rw[h];rfl) (by grind) (by rw[d];rfl) (by rw[c];rfl) rfl λw=> ?_;have:(mu k (if b>a then b else a))= .int k (max a b):=by grind
 simp_all [execOp,resolve,invoke,builtin,Builtin.max_,Builtin.max2]
def auQ {e:Array bV} (h:o.op= .call {callee:= .builtin .min,args:=#[x,y],argTypes:=e}) (d:ap x= .int k a) (c:ap y= .int k b):dD P ap o (.int k (min a b)):=by
 refine tF (x:=x) (y:=y) (by rw[h];rfl) (by grind) (by rw[d];rfl) (by rw[c];rfl) rfl λw=> ?_;have:(mu k (if b<a then b else a))= .int k (min a b):=by grind
 simp_all [execOp,resolve,invoke,builtin,Builtin.min_,Builtin.min2]
end
section
variable {x y:bS} {t u:bV} {s r:List UInt8}
theorem BV:(⟨s.toArray⟩:ByteArray).size=s.length:=by rfl
def auM {c:Array bV} (h:o.op= .call {callee:= .builtin .len,args:=#[x],argTypes:=c}) (a:c[0]? =J t) (d:P.underlying t=J .string) (b:ap x=str s):dD P ap o (.int .i64 s.length):=
 Li (x:=x) (by rw[h];rfl) (by grind) (by rw[b];rfl) rfl λw=>by simp[execOp,h,b,resolve,invoke,builtin,Builtin.len_,a,str,fw d,goInt,BV]
def asG {k:aG} {n:Int} {c:UInt8} (h:o.op= .index t x y) (e:P.underlying t=J .string) (d:ap x=str s) (b:ap y= .int k n) (g:0<=n) (a:s[n.toNat]? =J c):dD P ap o (.int .u8 c.toNat):=by
 refine tF (x:=x) (y:=y) (by rw[h];rfl) (by grind) (by rw[d];rfl) (by rw[b];rfl) rfl λw=> ?_;have i:(⟨s.toArray⟩:ByteArray)[n.toNat]? =J c:=by have j:=(fq.1 a).1;have f:=(fq.1 a).2;rw[getElem?_pos (h:=by grind [BV])];congr 1
 simp_all [execOp,Instr.index,asIntOf,fw,str]
def aql (i k:Nat):(⟨s.toArray⟩:ByteArray).extract i k=⟨((s.take k).drop i).toArray⟩:=by
 have:((⟨s.toArray⟩:ByteArray).extract i k).data=((s.take k).drop i).toArray:=by
  grind [ByteArray.data_extract]
 cases a:(⟨s.toArray⟩:ByteArray).extract i k
 grind
def asH {g d:Option bS} {a b:Nat} (h:o.op= .slice t x g d ae) (m:P.underlying t=J .string) (f:ap x=str s) (j:qo ap g a) (i:nJ ap d s.length b)
  (u:a<=b) (r:b<=s.length):dD P ap o (str ((s.take b).drop a)):=by
 refine .flat _ (by grind) (λz c=> ?_) rfl λw=> ?_
 ·rw[h] at c;cases g with
  |none=>cases d with
   |none=>simp[dm] at c;subst c;rw[f];rfl
   |some y=>
    obtain ⟨k,e⟩:=i;simp[dm] at c;rcases c with rfl|rfl
    ·rw[f];rfl
    ·rw[e];rfl
  |some q=>
   obtain ⟨n,l⟩:=j;cases d with
   |none=>
    simp[dm] at c;rcases c with rfl|rfl
    ·rw[f];rfl
    ·rw[l];rfl
   |some y=>
    obtain ⟨k,e⟩:=i;simp[dm] at c;rcases c with rfl|rfl|rfl
    ·rw[f];rfl
    ·rw[l];rfl
    ·rw[e];rfl
 ·have p:(jc ak s.length s.length (g.map ap) (d.map ap) ae).run P w= .ok (a,b,s.length) w:=by
   cases g with
   |none=>
    simp only[qo] at j;subst j;cases d with
    |none=>simp_all [nJ,jc]
    |some y=>obtain ⟨k,e⟩:=i;simp_all [jc,mL,asIntOf]
   |some q=>
    obtain ⟨n,l⟩:=j;cases d with
    |none=>simp only[nJ] at i;simp_all [jc,mL,asIntOf]
    |some y=>obtain ⟨k,e⟩:=i;simp_all [jc,mL,asIntOf]
  simp only[execOp,h,vM,kD,fw m,jE,IW,vL,f,str,Option.isSome_none,Yx,if_false,nt,BV,p,aql]
def w7 {a:BinOp} (h:o.op= .binOp a t x y u) (d:ap x=str s) (c:ap y=str r) (e:a≠ .shl/\a≠ .shr) {v:af} (f:∀w,(vS a ⟨s.toArray⟩ ⟨r.toArray⟩).run P w= .ok v w) (b:flat v=aa):dD P ap o v:=by
 refine tF (x:=x) (y:=y) (by rw[h];rfl) (by grind) (by rw[d];rfl) (by rw[c];rfl) b λw=> ?_;simp_all [eqGuard,str,binOp,execOp]
def vr (s r:List UInt8):Bool:=Op.bytesLess s r
def P6 (l:List UInt8):(⟨l.toArray⟩:ByteArray).toList=l:=by simp_all
def avv (h:o.op= .binOp .eql t x y u) (b:ap x=str s) (a:ap y=str r):dD P ap o (.bool (s==r)):=w7 h b a (by simp) (λw=>by simp_all [vS]) rfl
def auT (h:o.op= .binOp .neq t x y u) (b:ap x=str s) (a:ap y=str r):dD P ap o (.bool (!(s==r))):=w7 h b a (by simp) (λw=>by simp_all [vS]) rfl
def auO (h:o.op= .binOp .lss t x y u) (b:ap x=str s) (a:ap y=str r):dD P ap o (.bool (vr s r)):=w7 h b a (by simp) (λw=>by simp only[vS,P6];rfl) rfl
def auN (h:o.op= .binOp .leq t x y u) (b:ap x=str s) (a:ap y=str r):dD P ap o (.bool (vr s r||(s==r))):=w7 h b a (by simp) (λw=>by simp only[vS,P6];rfl) rfl
def auJ (h:o.op= .binOp .gtr t x y u) (b:ap x=str s) (a:ap y=str r):dD P ap o (.bool (!(vr s r||(s==r)))):=w7 h b a (by simp) (λw=>by simp only[vS,P6];rfl) rfl
def auI (h:o.op= .binOp .geq t x y u) (b:ap x=str s) (a:ap y=str r):dD P ap o (.bool (!vr s r)):=w7 h b a (by simp) (λw=>by simp only[vS,P6];rfl) rfl
def asO:(⟨s.toArray⟩:ByteArray)++(⟨r.toArray⟩:ByteArray)=⟨(s++r).toArray⟩:=by
 rfl
def avs (h:o.op= .binOp .add t x y u) (c:ap x=str s) (b:ap y=str r) (a:s.length+r.length<=9223372036854775807):dD P ap o (str (s++r)):=w7 h c b (by simp) (λw=>by
 simp only[vS,BV,vP.2 a];rw[if_neg (by show ¬_>(9223372036854775807:Int);omega),asO];rfl) rfl
def acI {c:BinOp} {a b:Bool} (h:o.op= .binOp c t x y u) (f:P.underlying t=J .bool) (i:ap x= .bool a) (g:ap y= .bool b) (e:c= .eql\/c= .neq):dD P ap o (.bool (if c= .eql then a==b else !(a==b))):=by
 refine tF (x:=x) (y:=y) (by rw[h];rfl) (by grind) (by rw[i];rfl) (by rw[g];rfl) rfl λw=> ?_;have m:(Op.equal t (.bool a) (.bool b)).run P w= .ok (a==b) w:=by
  have j:∀d:Nat,(Op.equalIn (d+1) t (.bool a) (.bool b)).run P w= .ok (a==b) w:=λd=>by simp only[Op.equalIn,kD,fw f,jE,nt]
  exact j 9999
 have l:(eqGuard c t x y (.bool a) (.bool b)).run P w= .ok () w:=by rcases e with rfl|rfl<;>rfl
 have k:(binOp c t (.bool a) (.bool b)).run P w= .ok (.bool (if c= .eql then a==b else !(a==b))) w:=by
  rcases e with rfl|rfl
  ·show (do pure (af.bool (<-Op.equal t (.bool a) (.bool b))):Sem af).run P w=_;simp_all
  ·show (do pure (af.bool (!(<-Op.equal t (.bool a) (.bool b)))):Sem af).run P w=_;simp_all
 grind [execOp,kD,jE,nt]
def avu {a b:Bool} (h:o.op= .binOp .eql t x y u) (c:P.underlying t=J .bool) (e:ap x= .bool a) (d:ap y= .bool b):dD P ap o (.bool (a==b)):=acI h c e d (.inl rfl)
def auS {a b:Bool} (h:o.op= .binOp .neq t x y u) (c:P.underlying t=J .bool) (e:ap x= .bool a) (d:ap y= .bool b):dD P ap o (.bool (!(a==b))):=acI h c e d (.inr rfl)
end
end
end Go.aF
end
section
namespace Go.aF
def al {a:Type} (b:List a) (i:Int):Option a:=if 0<=i then b[i.toNat]? else ae
def o3 {b:Type} {a:List b} {i:Int} {x:b} (h:al a i=J x):0<=i/\i<a.length/\a[i.toNat]? =J x:=by
 grind [al]
def nT (z:Nat->bW) (p:af) (a:List af):Prop:=∃b o,p= .pointer (J ⟨b,o,ae⟩)/\o2 z b o a
def Yz (m:Mem) (p:af) (a:List af):Prop:=∃b o,p= .pointer (J ⟨b,o,ae⟩)/\∀(i:Nat) (u:af),a[i]? =J u->m.load b (o+i)=J u
section
variable {P:bI} {ap:bS->af} {o:Oper} {aK:Type} {T:cM aK} {z:Nat->bW} {m:Mem} {xs:List aK} {v:af} {x y:bS} {t e u:bV} {i:TypeInfo} {d:TypeDesc}
theorem Cc {b:Nat}:∀(n a:Nat) (d:List af),d.length=n->(∀(i:Nat) (u:af),d[i]? =J u->m.load b (a+i)=J u)->kd m b a n=J d
 |0,a,d,e,_=>by rw[yl e];rfl
 |n+1,a,c::d,e,h=>by
  have j:=h 0 c (by rfl);have f:=Cc n (a+1) d (by grind) λi u g=>by have:=h (i+1) u (by grind);rw[show a+1+i=a+(i+1) by omega];omega
  grind [kd]
 |n+1,a,[],e,_=>by grind
def auL {k:aG} {n:Int} {a:aK} (h:o.op= .indexAddr t x y) (g:P.underlying t=J (.slice e)) (q:P.info? e=J i) (C:i.size=T.bM) (m:ap x=v) (j:ap y= .int k n) (s:fA T z xs v) (w:al xs n=J a):
  ∃p d,dD P ap o p/\T.rd z a d/\nT z p d:=by
 obtain ⟨r,B,l⟩:=o3 w;rcases s with ⟨_,rfl⟩|⟨b,f,c,rfl,_,_,u⟩
 ·grind
 ·obtain ⟨d,A,D⟩:=u _ a l;exact ⟨_,d, .indexAddr t x y e i b f _ c k n h g q m j r B,A,b,_,rfl,by grind⟩
def agq (s:Nat) (v:af) (n:Nat) (p:af):Prop:=∃b a l c,v= .slice (J ⟨b,a,ae⟩) l c/\p= .pointer (J ⟨b,a+n*s,ae⟩)
def auK {k:aG} {n:Int} {a:aK} (h:o.op= .indexAddr t x y) (g:P.underlying t=J (.slice e)) (w:P.info? e=J i) (F:i.size=T.bM) (r:ap x=v) (l:ap y= .int k n) (B:fO T z m xs v) (E:al xs n=J a):
  ∃p d,dD P ap o p/\T.rd z a d/\Yz m p d/\agq T.bM v n.toNat p:=by
 obtain ⟨A,I,q⟩:=o3 E;rcases B with ⟨_,rfl⟩|⟨b,f,L,c,rfl,s,_,_,K,_,D⟩
 ·grind
 ·obtain ⟨d,G,H⟩:=D _ a q;refine ⟨_,d, .indexAddr t x y e i b f _ c k n h g w r l A I,G,⟨b,_,rfl,λj u C=> ?_⟩,⟨b,f,_,c,rfl,by grind⟩⟩;simp only[Mem.load,s,F];exact H j u C
def gi {c:Type} (d:List c) (a b:Int):Option (List c):=if 0<=a/\a<=b/\b<=d.length then J ((d.take b.toNat).drop a.toNat) else ae
def Ws {c:List aK} {a b:Int} {r:List aK} (h:gi c a b=J r):0<=a/\a<=b/\b<=c.length/\r=(c.take b.toNat).drop a.toNat:=by
 grind [gi]
def y5 (a:bS->af) (b:Option bS) (n:Int):Prop:=match b with|none=>n=0|some y=>∃k,a y= .int k n
def zK (a:bS->af) (b:Option bS) (l:Nat) (n:Int):Prop:=match b with|none=>n=l|some y=>∃k,a y= .int k n
def K4 {b:bS->af} {a:Option bS} {n:Nat} (h:y5 b a n):qo b a n:=by
 cases a with
 |none=>grind [y5,qo]
 |some y=>exact h
def KM {b:bS->af} {a:Option bS} {l n:Nat} (h:zK b a l n):nJ b a l n:=by
 cases a with
 |none=>grind [zK,nJ]
 |some y=>exact h
def WU {c:List aK} {a b k:Nat} {r:aK} (h:((c.take b).drop a)[k]? =J r):c[a+k]? =J r:=by
 grind
def aet {P:bI} {C:FuncId->Array af->Mem->af->Mem->Prop} {b a:Nat} {L c:List af} (h:o.op= .store t x y) (g:P.info? t=J i) (f:ap x= .pointer (J ⟨b,a,ae⟩)) (j:m.blk b= .own L e) (d:storable (ap y)=aa) (k:(ap y).cells.toList=c) (n:c.length=i.size) (l:a+c.length<=L.length):
  hR P C ap o m undef (m.put b (.own (eY L a c) e)):=by
 subst k;exact .store t x y b a i L e h f g j d (by grind) (by grind)
def zm {b:Nat} {x:bW} (e:∀b,m.next<=b->m.blk b= .dead) (d:b<m.next):gl m (m.put b x) (J b):=by
 refine ⟨e4 _,λc a=> ?_,λc a f=> ?_⟩
 ·grind [Mem.put]
 grind [Mem.put]
def BN {x:bW} (d:∀b,m.next<=b->m.blk b= .dead):gl m (m.push x) ae:=by
 refine ⟨mo _,λc a=> ?_,λc a _=> ?_⟩
 ·grind [Mem.push]
 grind [Mem.push]
def fO.same {m':Mem} {q:Option Nat} (h:fO T z m xs v) (s:gl m m' q) (e:e6 (da v) q):fO T z m' xs v:=
 h.frame λb c a=>⟨s.blk b a (λd=>e b c d),hS a s.next⟩
def arQ {a:Mem} {q:Option Nat} {b:Nat} {X:bW} (h:m.blk b=X) (c:b<m.next) (s:gl m a q) (d:q≠J b):a.blk b=X/\b<a.next:=⟨by rw[s.blk b c d];exact h,hS c s.next⟩
def fO.store {n:Nat} {a p:aK} {i e:List af} {f:Nat} {new:List af} {b d l c:Nat} (N:fO T z m xs v) (O:∀b,m.next<=b->m.blk b= .dead) (E:v= .slice (J ⟨b,d,ae⟩) l c) (P:xs[n]? =J a) (F:T.rd z a i) (K:Yz m (.pointer (J ⟨b,d+n*T.bM,ae⟩)) i) (B:T.rd z p e) (S:e=eY i f new) (M:f+new.length<=i.length):
  ∃L,m.blk b= .own L T.tid/\d+n*T.bM+f+new.length<=L.length/\fO T z (m.put b (.own (eY L (d+n*T.bM+f) new) T.tid)) (xs.set n p) v/\gl m (m.put b (.own (eY L (d+n*T.bM+f) new) T.tid)) (J b):=by
 rcases N with ⟨rfl,_⟩|⟨dJ,f1,L,Y,C,H,x,Q,W,kJ,U⟩
 ·grind
 ·subst E;simp only[af.slice.injEq,kB.injEq,Addr.mk.injEq,and_true] at C;obtain ⟨⟨rfl,rfl⟩,rfl,rfl⟩:=C;have t:n<xs.length:=(fq.1 P).1;have A:=T.len z a i F;have G:=T.len z p e B;have uT:d+n*T.bM+T.bM<=L.length:=by
   have:(n+1)*T.bM<=xs.length*T.bM:=oH _ t
   grind
  have Z:(eY L (d+n*T.bM+f) new).length=L.length:=mB _ _ _;refine ⟨L,H,by omega, .inr ⟨b,d,eY L (d+n*T.bM+f) new,c,by simp,by simp[Mem.put],x,Q,by grind,by grind,λk w j=> ?_⟩,zm O x⟩;rw[List.getElem?_set] at j;by_cases o:n=k
  ·subst o;simp[t] at j;subst j;refine ⟨e,B,λq u g=> ?_⟩;have h:=(fq.1 g).1;rw[S,o5 _ _ _ _ M] at g;rw[o5 _ _ _ _ (by omega)];by_cases D:f<=q/\q<f+new.length
   ·rw[if_pos D] at g;rw[if_pos (by omega),show d+n*T.bM+q - (d+n*T.bM+f)=q - f by omega];grind
   ·rw[if_neg D] at g;rw[if_neg (by omega)];obtain ⟨jR,iQ,X,I⟩:=K
    grind [Mem.load]
  ·rw[if_neg o] at j;obtain ⟨s,y,R⟩:=U k w j;refine ⟨s,y,λq u g=> ?_⟩;have h:=(fq.1 g).1;rw[T.len z w s y] at h;rw[o5 _ _ _ _ (by omega)];have V:¬(d+n*T.bM+f<=d+k*T.bM+q/\d+k*T.bM+q<d+n*T.bM+f+new.length):=by
    rcases Nat.lt_or_gt_of_ne o with r|r
    ·have:(n+1)*T.bM<=k*T.bM:=oH _ r
     grind
    ·have:(k+1)*T.bM<=n*T.bM:=oH _ r
     grind
   rw[if_neg V];exact R q u g
end
end Go.aF
end
