/- A part of the proof of YardOrders; no condition of our own. -/
import Derived.Scope
import Derived.MapKept
import Derived.Laws.StructEq
import Derived.Test.YtekkhljfkiojiaaGreatDoorMa
set_option linter.defProp false
set_option linter.unusedSimpArgs false
set_option linter.unusedVariables false
open Array renaming getD->Tp,getD_eq_getD_getElem?->Yr,getElem?_append_left->Ys,getElem?_eq_some_iff->Ij,replicate->nj,size_setIfInBounds->afN
open BitVec renaming ofInt->qC
open Bool renaming and_eq_true->fx,false->ak,true->aa
open Go renaming IntKind->aG,Operand->bS,Program->bI,TypeId->bV,Value->af
open Go.Act renaming put->qB
open Go.Instr renaming sliceBound->mL,sliceBounds->jc
open Go.MapKept renaming IsKey->TF
open Go.Op renaming operands->dm,stringOp->vS
open Go.Oper renaming wp->sM
open Go.Program renaming cellsOf->nY
open Go.Region renaming before->kp,binds->rC,ready->AL,wanted->qK
open Go.Result renaming andThen->Zg,andThen_ok->jE
open Go.Sem renaming run_bind->kD,run_pure->nt
open Go.Value renaming cells->yu,int->mu
open Int renaming eq_ofNat_of_zero_le->sD,toNat_natCast->sG
open List renaming eq_nil_of_length_eq_zero->yl,flatten_cons->yn,getElem?_append->AB,getElem?_drop->aIQ,getElem?_eq_some_iff->fq,length_append->sI,mem_cons->ha,mem_filter->aIv,mem_map->l2,mem_range->aAc,mem_singleton->IM,range->mN,replicate->gb,replicate_succ->YZ
open Nat renaming add_assoc->sK,add_mul->ko,ble->iJ,le_of_ble_eq_true->pk,le_of_lt->lG,le_refl->e4,le_succ->mo,le_trans->jd,lt_of_lt_of_le->hS,lt_or_ge->mq,lt_succ_self->pT,lt_trichotomy->TJ,mul_le_mul->IT,mul_le_mul_right->oH,not_lt->vP,strongRecOn->Y0,zero_add->lH,zero_le->pn
open Option renaming some->kB,none->ae,some->J
open True renaming intro->fs
namespace Go.aF
section
structure Ctx(P:bI)(C:FuncId->Array af->Mem->af->Mem->Prop)(ops:Array Oper)(N:Nat)(bY:Nat->Nat->af)(ms:Nat->Mem)(vs:Nat->af)(dA:Nat->Nat)(gj:cj)(ez:World):Prop where
 T:ys P C ops.toList (kp ops) 0 ops.toList bY ms vs dA
 ok:vj ops=aa
 Kl:∀o∈ops.toList,∀x∈o.op.operands,nI x=aa
 dst:∀o∈ops.toList,∀d,o.dst=J d->d<N
 keeps:pB C
 sound:xf P C
 ed:Rel P gj (ms 0) ez
 afx:WF (ms 0)
 h7:∀t,low (ms 0).next (bY 0 t)
structure hK(P:bI)(ops:Array Oper)(ds:List Deferred)(N:Nat)(bY:Nat->Nat->af)(ms:Nat->Mem)(vs:Nat->af)(dA:Nat->Nat)(gj:cj)(ez:World)(listed:Array Bool)(a:Act)(w:World)(s:Nat)(M:Mem)(j:cj):Prop where
 size:listed.size=ops.size
 closed:Le ops (λi=>listed.getD i ak=aa)
 sle:s<=ops.size
 last:s=0\/dA (s-1)=4
 iC:∀i,i<ops.size->dA i=4->(listed.getD i ak=aa↔i<s)
 rel:Rel P j M w
 AX:M.next=(ms ops.size).next
 agree:∀b,b<(ms s).next->M.blk b=(ms s).blk b
 Jm:∀b e,j b=J e->b<(ms s).next\/∃i,s<=i/\i<ops.size/\listed.getD i ak=aa/\dA i=3/\b=(ms i).next
 xB:∀i,i<ops.size->dA i=3->listed.getD i ak=ak->j (ms i).next=ae
 Jt:∀i,s<=i->i<ops.size->listed.getD i ak=aa->dA i=3->∀iK,ms (i+1)=(ms i).push iK->M.blk (ms i).next=iK
 defers:a.defers=ds
 tmps:a.tmps.size=N
 cur:∀t,(∃i o,ops[i]?=J o/\listed.getD i ak=aa/\o.dst=J t/\(∀x p,i<x->ops[x]?=J p->listed.getD x ak=aa->p.dst≠J t)/\de j (vs i) (a.tmps.getD t undef))\/
  ((∀x p,ops[x]?=J p->listed.getD x ak=aa->p.dst≠J t)/\de j (bY 0 t) (a.tmps.getD t undef))
 gd:sC gj (ms 0) ez w
 ext:∀b,b<(ms 0).next->j b=gj b
 fresh:∀b e,j b=J e->(ms 0).next<=b->ez.heap.size<=e.blk\/∃fz eV,gj fz=J eV/\((ms 0).blk fz).iO=aa/\eV.blk=e.blk
 ew:∀b,b<(ms 0).next->(M.blk b).iO=aa->((ms 0).blk b).iO=aa
 alive:∀b,b<(ms 0).next->(M.blk b).live=aa->((ms 0).blk b).live=aa
section
variable {P:bI}{C:FuncId->Array af->Mem->af->Mem->Prop}{ops:Array Oper}{N:Nat}{bY:Nat->Nat->af}{ms:Nat->Mem}{vs:Nat->af}{dA:Nat->Nat}{gj:cj}{ez:World}
def Ctx.wf(X:Ctx P C ops N bY ms vs dA gj ez):∀i,i<=ops.size->WF (ms i)/\(∀t,low (ms i).next (bY i t)):=λi a=>by
 have:=WX X.T X.keeps X.Kl X.afx X.h7 i (by grind)
 grind
def Ctx.mono(X:Ctx P C ops N bY ms vs dA gj ez):∀a b,a<=b->b<=ops.size->(ms a).next<=(ms b).next:=λa b e d=>by
 have:=WX X.T X.keeps X.Kl X.afx X.h7 ops.size (by simp);exact acu this.2.2 b a e d
def Ctx.run(X:Ctx P C ops N bY ms vs dA gj ez){i:Nat}{o:Oper}(a:ops[i]?=J o):XJ P C ops.toList o (bY i) (ms i) (vs i) (ms (i+1)) (dA i):=by
 have:=X.T.run i o (by grind)
 grind
def Ctx.new(X:Ctx P C ops N bY ms vs dA gj ez){i:Nat}(e:i<ops.size)(g:dA i=3):∃o a,ops[i]?=J o/\jC P (bk (bY i)) o (ms i).next a (vs i)/\ms (i+1)=(ms i).push a:=by
 have d:ops[i]?=J ops[i]:=by grind
 rcases X.run d with⟨b,_⟩|⟨b,_⟩|⟨b,_⟩|⟨_,_,a,f,h⟩|⟨b,_⟩
 ·omega
 ·omega
 ·omega
 ·grind
 grind
def Ctx.BG(X:Ctx P C ops N bY ms vs dA gj ez){i:Nat}(a:i<ops.size)(b:dA i=3):(ms i).next<(ms (i+1)).next:=by
 obtain⟨o,e,_,_,d⟩:=X.new a b
 grind[Mem.push]
theorem Wt{g:bS->af}{o:Oper}{m e:Mem}{v:af}(h:hR P C g o m v e):lT o.op=aa:=by
 cases h with
 |call f d v e h l=>obtain⟨x,n,w,first,a,h,_⟩:=h;grind[lT]
 |mapUpdate q x t s u k j b L p y E i r h=>grind[lT]
 |_=>grind[lT]
 all_goals simp[*,lT]
def Ctx.abc(X:Ctx P C ops N bY ms vs dA gj ez){i:Nat}{o:Oper}(b:ops[i]?=J o)(e:dA i=4):lT o.op=aa:=by
 rcases X.run b with⟨a,_⟩|⟨a,_⟩|⟨a,_⟩|⟨a,_⟩|⟨_,_,d⟩
 ·omega
 ·omega
 ·omega
 ·omega
 grind[Wt]
variable {ds:List Deferred}{listed:Array Bool}{a:Act}{w:World}{s:Nat}{M:Mem}{j:cj}
def hK.T2(X:Ctx P C ops N bY ms vs dA gj ez)(D:hK P ops ds N bY ms vs dA gj ez listed a w s M j){z:Nat}(q:s<=z)(A:z<=ops.size)(x:∀e,s<=e->e<z->dA e≠4):
  ∀b e,j b=J e->b<(ms z).next->M.blk b=(ms z).blk b:=by
 obtain⟨r,t,F⟩:=Ku X.T z q (by grind) x;intro b e p B;rcases mq b (ms s).next with h|h
 ·rw[D.agree b h,r b h]
 ·rcases D.Jm b e p with E|⟨i,k,g,n,f,rfl⟩
  ·omega
  ·have d:i<z:=by
    rcases mq i z with h|h
    ·grind
    ·have:=X.mono z i h (by omega);omega
   obtain⟨o,m,y,_,l⟩:=X.new g f;rw[D.Jt i k g n f m l,t i k d f o m (by grind) l]
def hK.ot(X:Ctx P C ops N bY ms vs dA gj ez)(D:hK P ops ds N bY ms vs dA gj ez listed a w s M j){z:Nat}(l:s<=z)(h:z<=ops.size)(m:∀e,s<=e->e<z->dA e≠4):uq P j (ms z) w:=by
 have p:=D.T2 X l h m;have g:=(X.wf z h).1;have f:=D.rel.ot;refine⟨λb e o v d n=>?_,λb e L t d k=>?_,λb e L u d k=>?_,f.mE⟩
 ·have i:b<(ms z).next:=g.lt (by grind[Mem.load]);refine f.load b e o v d ?_
  grind[Mem.load]
 ·have i:b<(ms z).next:=g.lt (by grind);exact f.own b e L t d (by grind)
 ·have i:b<(ms z).next:=g.lt (by grind);exact f.map b e L u d (by grind)
structure nr(ops:Array Oper)(listed:Array Bool)(i:Nat)(o:Oper):Prop where
 at_:ops[i]?=J o
 not:listed.getD i ak=ak
 Z6:∀e∈o.after,rC .any e=aa->listed.getD e.on ak=aa
def nr.gD(D:hK P ops ds N bY ms vs dA gj ez listed a w s M j){i:Nat}{o:Oper}(R:nr ops listed i o){x:Nat}(h:aF.gD (kp ops) i x=aa):listed.getD x ak=aa:=
 ab2 h D.closed λd b=>by rw[R.at_] at b;cases b;exact R.Z6
def hK.T3(D:hK P ops ds N bY ms vs dA gj ez listed a w s M j){i x:Nat}(b:listed.getD i ak=aa)(h:aF.gD (kp ops) i x=aa):listed.getD x ak=aa:=
 ab2 h D.closed λe d=>D.closed i e b d
def nr.afy(X:Ctx P C ops N bY ms vs dA gj ez)(D:hK P ops ds N bY ms vs dA gj ez listed a w s M j){i:Nat}{o:Oper}(R:nr ops listed i o){t:Nat}(e:t∈vh ops o){x:Nat}{p:Oper}(b:ops[x]?=J p)(f:p.dst=J t):
  (listed.getD x ak=aa↔x<i)\/x=i:=by
 rcases TJ x i with h|h|h
 ·left;refine⟨λ_=>h,λ_=>?_⟩;refine R.gD D (V8 X.ok R.at_ b h ?_)
  grind[sR]
 ·grind
 ·left;refine⟨λd=>?_,λg=>by omega⟩;have:listed.getD i ak=aa:=D.T3 d (V8 X.ok b R.at_ h (by grind[sR]));rw[R.not] at this
  grind
def hK.slot(X:Ctx P C ops N bY ms vs dA gj ez)(D:hK P ops ds N bY ms vs dA gj ez listed a w s M j){i:Nat}{o:Oper}(R:nr ops listed i o){t:Nat}(e:t∈vh ops o):de j (bY i t) (a.tmps.getD t undef):=by
 have E:i<ops.size:=(Ij.1 R.at_).1;have I:=λ{x:Nat}{p:Oper}(k:ops[x]?=J p)(l:p.dst=J t)=>R.afy X D e k l;have L:∀{x:Nat},x=i->listed.getD x ak=aa->False:=λh f=>by subst h;rw[R.not] at f;grind
 rcases Wj X.T t i (by grind) with⟨x,p,z,g,B,F,H⟩|⟨z,g⟩
 ·have K:ops[x]?=J p:=by grind
  have A:listed.getD x ak=aa:=by
   grind
  rcases D.cur t with⟨y,q,b,d,m,n,r⟩|⟨b,_⟩
  ·grind[TJ]
  grind
 ·rcases D.cur t with⟨y,q,b,d,m,n,r⟩|⟨_,d⟩
  ·grind
  grind
def Xw{b:Nat->af}{a:Act}{j:cj}{x:bS}(d:nI x=aa)(h:∀t,x=.tmp t->de j (b t) (a.tmps.getD t undef)):de j (bk b x) (a.eval x):=by
 cases x with
 |tmp t=>exact h t rfl
 |const v=>exact acZ d
 |global g=>show af.pointer _=_;rw[show g*4096 / 4096=g by omega,show g*4096%4096=0 by omega]
 |func f=>exact⟨#[],#[],rfl,fs,fs⟩
def hK.apL(X:Ctx P C ops N bY ms vs dA gj ez)(D:hK P ops ds N bY ms vs dA gj ez listed a w s M j){i:Nat}{o:Oper}(R:nr ops listed i o):h3 j (bk (bY i)) a.eval o:=by
 intro x d;have e:o∈ops.toList:=by have:=Array.mem_of_getElem? R.at_;grind
 refine Xw (X.Kl o e x d) λt b=>D.slot X R ?_;subst b;simp only[vh,List.mem_append,List.mem_filterMap];exact .inl (.inl ⟨.tmp t,by grind,rfl⟩)
theorem aqI{j:cj}{v a:af}(h:de j v a)(m:∀b,v≠.bool b):∀b,a≠.bool b:=by
 intro b i;subst i;cases v with
 |bool n=>grind
 |pointer q=>cases q with
  |none=>cases h
  |some q=>obtain⟨e,_,_,h⟩:=h;grind
 |slice q l c=>cases q with
  |none=>cases h
  |some q=>obtain⟨e,_,_,h⟩:=h;grind
 |map r=>cases r with
  |none=>cases h
  |some r=>obtain⟨e,_,h⟩:=h;grind
 |agg g=>obtain⟨d,h,_⟩:=h;grind
 |tuple g=>obtain⟨d,h,_⟩:=h;grind
 |func fn f c=>obtain⟨d,p,h,_⟩:=h;grind
 |chan r=>cases r with
  |none=>exact h b rfl
  |some k=>cases h
 |iface _ _=>exact h
 |_=>cases h
def acO{e:Array Oper}{N:Nat}{l:Nat->af}{a:Act}{j:cj}{o:Oper}(t:a.tmps.size=N)(x:∀p∈e.toList,∀d,p.dst=J d->d<N)(h:∀g w d,o.guard=J (g,w)->(e[g]?).bind (·.dst)=J d->de j (l d) (a.tmps.getD d undef)):
  qK o (yielded e a.tmps)=wanted e.toList l o:=by
 unfold qK wanted;cases r:o.guard with
 |none=>rfl
 |some k=>
  obtain⟨g,f⟩:=k;simp only[yielded,Array.getElem?_toList];cases q:(e[g]?).bind (·.dst) with
  |none=>rfl
  |some d=>
   have m:=h g f d r q;have s:d<a.tmps.size:=by
    grind
   have n:a.tmps[d]?=J (a.tmps.getD d undef):=by simp_all
   simp only[Option.bind_some,n];by_cases i:∃b,l d=.bool b
   ·obtain⟨b,i⟩:=i;rw[i] at m;rw[i,m.bool];rfl
   grind[aqI]
theorem hK.wanted(X:Ctx P C ops N bY ms vs dA gj ez)(D:hK P ops ds N bY ms vs dA gj ez listed a w s M j){i:Nat}{o:Oper}(R:nr ops listed i o):qK o (yielded ops a.tmps)=aF.wanted ops.toList (bY i) o:=by
 refine acO D.tmps X.dst λg b d f e=>D.slot X R ?_
 grind[vh]
end
end
section
theorem mC{A:Array Bool}{i x:Nat}(d:i<A.size):((A.setIfInBounds i aa).getD x ak=aa)↔(x=i\/A.getD x ak=aa):=by
 simp only[Tp,afN];by_cases a:x<A.size
 ·simp only[a,dite_true];by_cases b:x=i
  ·simp_all
  simp_all[Ne.symm]
 grind
theorem Kw{A:Array Bool}{i x:Nat}(a:i<A.size)(h:(A.setIfInBounds i aa).getD x ak=ak):x≠i/\A.getD x ak=ak:=by
 grind[mC]
def vi{a:Act}{d:Option Tmp}{v:af}:(a.put d v).tmps.size=a.tmps.size/\(a.put d v).defers=a.defers:=by
 cases d<;>simp[qB]
theorem Xe{a:Act}{d t:Nat}{v:af}(e:d<a.tmps.size):(a.put (J d) v).tmps.getD t undef=if t=d then v else a.tmps.getD t undef:=by
 simp only[qB,Tp,afN];by_cases b:t=d
 ·simp_all
 simp_all[Ne.symm]
section
variable {P:bI}{C:FuncId->Array af->Mem->af->Mem->Prop}{ops:Array Oper}{N:Nat}{bY:Nat->Nat->af}{ms:Nat->Mem}{vs:Nat->af}{ds:List Deferred}{dA:Nat->Nat}{gj:cj}{ez:World}
variable {listed:Array Bool}{a:Act}{w:World}{s:Nat}{M:Mem}{j:cj}
def nr.lt{i:Nat}{o:Oper}(R:nr ops listed i o):i<ops.size:=(Ij.1 R.at_).1
def hK.Uc(D:hK P ops ds N bY ms vs dA gj ez listed a w s M j){i:Nat}{o:Oper}(R:nr ops listed i o):Le ops (λx=>(listed.setIfInBounds i aa).getD x ak=aa):=by
 have g:i<listed.size:=by rw[D.size];exact R.lt
 intro x p b d e h f;refine(mC g).2 (.inr ?_);rcases(mC g).1 b with rfl|b
 ·rw[R.at_] at d;cases d;exact R.Z6 e h f
 ·exact D.closed x p b d e h f
def hK.Uf(X:Ctx P C ops N bY ms vs dA gj ez)(D:hK P ops ds N bY ms vs dA gj ez listed a w s M j){i:Nat}{o:Oper}(R:nr ops listed i o){m:cj}(E:∀b e,j b=J e->m b=J e){l:af}(T:de m (vs i) l):
  ∀t,(∃x p,ops[x]?=J p/\(listed.setIfInBounds i aa).getD x ak=aa/\p.dst=J t/\(∀y q,x<y->ops[y]?=J q->(listed.setIfInBounds i aa).getD y ak=aa->q.dst≠J t)/\de m (vs x) ((a.put o.dst l).tmps.getD t undef))\/
  ((∀x p,ops[x]?=J p->(listed.setIfInBounds i aa).getD x ak=aa->p.dst≠J t)/\de m (bY 0 t) ((a.put o.dst l).tmps.getD t undef)):=by
 have g:i<listed.size:=by rw[D.size];exact R.lt
 have z:o∈ops.toList:=by have:=Array.mem_of_getElem? R.at_;grind
 intro t;by_cases A:o.dst=J t
 ·left;refine⟨i,o,R.at_,(mC g).2 (.inl rfl),A,λy q H k f S=>?_,?_⟩
  ·rcases(mC g).1 f with h|h
   ·omega
   ·have F:t∈vh ops o:=by grind[vh]
    rcases R.afy X D F k S with K|K
    ·grind
    grind
  ·have I:t<a.tmps.size:=by rw[D.tmps];exact X.dst o z t A
   grind[Xe]
 ·have n:(a.put o.dst l).tmps.getD t undef=a.tmps.getD t undef:=by
   cases Q:o.dst with
   |none=>rfl
   |some d=>
    have I:d<a.tmps.size:=by rw[D.tmps];exact X.dst o z d Q
    grind[Xe]
  rw[n];rcases D.cur t with⟨x,p,B,r,L,U,O⟩|⟨B,r⟩
  ·left;refine⟨x,p,B,(mC g).2 (.inr r),L,λy q H k f=>?_,O.mono E⟩;rcases(mC g).1 f with h|h
   ·subst h;rw[R.at_] at k;grind
   grind
  ·right;refine⟨λy q k f=>?_,r.mono E⟩;rcases(mC g).1 f with h|h
   ·subst h;rw[R.at_] at k;grind
   grind
def hK.quiet(X:Ctx P C ops N bY ms vs dA gj ez)(D:hK P ops ds N bY ms vs dA gj ez listed a w s M j){i:Nat}{o:Oper}(R:nr ops listed i o)(t:dA i≠3)(y:dA i≠4){n:af}(q:de j (vs i) n):
  hK P ops ds N bY ms vs dA gj ez (listed.setIfInBounds i aa) (a.put o.dst n) w s M j:=by
 have f:i<listed.size:=by rw[D.size];exact R.lt
 refine⟨by simp[D.size],D.Uc R,D.sle,D.last,?_,D.rel,D.AX,D.agree,?_,?_,?_,by rw[vi.2];exact D.defers,by rw[vi.1];exact D.tmps,D.Uf X R (λ_ _ h=>h) q,D.gd,D.ext,D.fresh,D.ew,D.alive⟩
 ·intro x d g;rw[mC f,<-D.iC x d g]
  grind
 ·intro b e z;rcases D.Jm b e z with h|⟨x,p,l,k,m,A⟩
  ·grind
  grind[mC]
 ·intro x d g r;exact D.xB x d g (Kw f r).2
 ·intro x p l k m;rcases(mC f).1 k with h|h
  ·grind
  ·exact D.Jt x p l h m
def hK.seen(X:Ctx P C ops N bY ms vs dA gj ez)(D:hK P ops ds N bY ms vs dA gj ez listed a w s M j){i:Nat}{o:Oper}(R:nr ops listed i o)(p:dA i=3){e:bW}(A:ms (i+1)=(ms i).push e):
  ∀n,i<n->n<=s->(ms n).blk (ms i).next=e:=by
 intro n;induction n with
 |zero=>grind
 |succ n g=>
  intro z r;have x:=D.sle;by_cases E:n=i
  ·grind[Mem.push]
  ·have k:=g (by omega) (by omega);have l:n<ops.size:=by omega
   have h:ops[n]?=J ops[n]:=by grind
   have y:(ms i).next<(ms n).next:=hS (X.BG R.lt p) (X.mono (i+1) n (by omega) (by omega));rcases X.run h with⟨_,_,_,d⟩|⟨_,_,_,d⟩|⟨_,_,_,d⟩|⟨_,_,q,_,d⟩|⟨f,_,t⟩
   ·grind
   ·grind
   ·grind
   ·grind[Mem.push]
   ·have b:listed.getD n ak=aa:=(D.iC n l f).2 (by omega);have B:gD (kp ops) n i=ak:=by
     cases m:gD (kp ops) n i with
     |false=>rfl
     |true=>have:=D.T3 b m;rw[R.not] at this;grind
    have:=X.T.news i n (by grind) (by grind) (by grind) (by grind) (by omega) (by grind)
    grind
def hK.amQ(X:Ctx P C ops N bY ms vs dA gj ez)(D:hK P ops ds N bY ms vs dA gj ez listed a w s M j){i:Nat}{o:Oper}(R:nr ops listed i o)(E:dA i=3){z:bW}(hm:ms (i+1)=(ms i).push z)
  {L:World} {e:kl} {ob:Obj} (m:AF P j w L z e ob) {S:af} (Z:de (j.up (ms i).next e) (vs i) S):
  hK P ops ds N bY ms vs dA gj ez (listed.setIfInBounds i aa) (a.put o.dst S) L s (M.put (ms i).next z) (j.up (ms i).next e):=by
 have A:i<listed.size:=by rw[D.size];exact R.lt
 have q:=D.xB i R.lt E R.not;have K:=cj.P9 (e:=e) q;have cF:=X.BG R.lt E;have V:(ms i).next<M.next:=by rw[D.AX];exact hS cF (X.mono (i+1) ops.size R.lt (e4 _))
 have bR:(ms 0).next<=(ms i).next:=X.mono 0 i (pn _) (lG R.lt);have U:∀b x,j.up (ms i).next e b=J x->b≠(ms i).next->j b=J x:=λb x g gT=>by grind[cj.up]
 have f:∀b,b≠(ms i).next->(M.put (ms i).next z).blk b=M.blk b:=λb g=>by grind[Mem.put]
 have d:∀x,x<ops.size->dA x=3->x≠i->(ms x).next≠(ms i).next:=by
  intro x k n gT he;rcases mq x i with h|h
  ·have:=X.BG k n;have:=X.mono (x+1) i (by omega) (lG R.lt);omega
  ·have:=X.mono (i+1) x (by omega) (lG k);omega
 refine⟨by simp[D.size],D.Uc R,D.sle,D.last,?_,D.rel.place q V m,D.AX,?_,?_,?_,?_,by rw[vi.2];exact D.defers,by rw[vi.1];exact D.tmps,D.Uf X R K Z,?_,?_,?_,?_,?_⟩
 ·intro x k n;rw[mC A,<-D.iC x k n]
  grind
 ·intro b g;by_cases l:b=(ms i).next
  ·subst l;have Y:i<s:=by
    rcases mq i s with h|h
    ·grind
    ·have:=X.mono s i h (lG R.lt);omega
   rw[D.seen X R E hm s Y (e4 _)];simp[Mem.put]
  ·rw[f b l];exact D.agree b g
 ·intro b x g;by_cases l:b=(ms i).next
  ·subst l;rcases mq (ms i).next (ms s).next with h|h
   ·grind
   ·right;refine⟨i,?_,R.lt,(mC A).2 (.inl rfl),E,rfl⟩;rcases mq i s with T|T
    ·have:=X.mono (i+1) s T D.sle;omega
    grind
  ·rcases D.Jm b x (U b x g l) with h|⟨y,B,r,Q,I,cK⟩
   ·grind
   grind[mC]
 ·intro x k n aR;obtain⟨B,r⟩:=Kw A aR;have:=d x k n B;simp only[cj.up,this,if_false];exact D.xB x k n r
 ·intro x B r Q I F n4;by_cases O:x=i
  ·subst O;have axJ:F=z:=by
    have bX:(ms (x+1)).blk (ms x).next=F:=by grind[Mem.push]
    grind[Mem.push]
   grind[Mem.put]
  ·rw[f _ (d x r I O)];rcases(mC A).1 Q with h|h
   ·grind
   ·exact D.Jt x B r h I F n4
 ·have t:∀c,c<w.heap.size->L.heap[c]?=w.heap[c]? :=λc H=>by rw[m.heap,Array.getElem?_push,if_neg (by omega)]
  exact⟨m.os.trans D.gd.os,m.tape.trans D.gd.tape,m.output.trans D.gd.output,by rw[m.heap];simp;have:=D.gd.size;omega,λc H cp=>by
   rw[t c (hS H D.gd.size)];exact D.gd.block c H cp⟩
 ·intro b g;simp only[cj.up,show b≠(ms i).next by omega,if_false];exact D.ext b g
 ·intro b x g hA;by_cases l:b=(ms i).next
  ·subst l;have k:x=e:=by grind[cj.up]
   subst k;exact .inl (by rw[m.blk];exact D.gd.size)
  ·exact D.fresh b x (U b x g l) hA
 ·intro b g p;rw[f b (by omega)] at p;exact D.ew b g p
 ·intro b g p;rw[f b (by omega)] at p;exact D.alive b g p
def hK.fX(X:Ctx P C ops N bY ms vs dA gj ez)(D:hK P ops ds N bY ms vs dA gj ez listed a w s M j){i:Nat}{o:Oper}(R:nr ops listed i o)(hk:dA i=4):
  s<=i/\(∀e,s<=e->e<i->dA e≠4)/\Rel P (j.below (ms i).next) (ms i) w/\
  ∀{w':World}{n:cj}{U:af},Post P (j.below (ms i).next) (ms i) w n (ms (i+1)) w'->de n (vs i) U->
   hK P ops ds N bY ms vs dA gj ez (listed.setIfInBounds i aa) (a.put o.dst U) w' (i+1) ((ms (i+1)).join M) (n.join (ms (i+1)).next j):=by
 have Q:i<listed.size:=by rw[D.size];exact R.lt
 have r:s<=i:=by
  rcases mq i s with h|h
  ·have:=(D.iC i R.lt hk).2 h;rw[R.not] at this;grind
  grind
 have L:∀e,e<i->dA e=4->listed.getD e ak=aa:=by
  intro e E F;have rR:e<ops.size:=Nat.lt_trans E R.lt;have l:ops[e]?=J ops[e]:=by grind
  refine R.gD D (V8 X.ok R.at_ l E ?_);simp[sR,X.abc l F,X.abc R.at_ hk]
 have A:∀e,s<=e->e<i->dA e≠4:=by intro e B f F;have:=(D.iC e (Nat.lt_trans f R.lt) F).1 (L e f F);omega
 have V:=D.T2 X r (lG R.lt) A;have dV:=(X.wf i (lG R.lt)).1;refine⟨r,A,D.rel.below dV V,?_⟩;intro w' n U p aD;have ayb:=p.next;have axT:∀b e,j b=J e->b<(ms i).next\/((ms (i+1)).next<=b/\∃x,i+1<=x/\x<ops.size/\listed.getD x ak=aa/\dA x=3/\b=(ms x).next):=by
  intro b e d;rcases D.Jm b e d with h|⟨x,B,f,I,y,cK⟩
  ·exact .inl (hS h (X.mono s i r (lG R.lt)))
  ·subst cK;rcases TJ x i with h|h|h
   ·exact .inl (hS (X.BG f y) (X.mono (x+1) i h (lG R.lt)))
   ·grind
   ·exact .inr ⟨X.mono (i+1) x h (lG f),x,h,f,I,y,rfl⟩
 have JL:(ms (i+1)).next<=M.next:=by rw[D.AX];exact X.mono (i+1) ops.size R.lt (e4 _)
 obtain⟨q,hb,K⟩:=D.rel.join V p (λb e d=>by grind) JL;have axz:(ms 0).next<=(ms i).next:=X.mono 0 i (pn _) (lG R.lt);have O:∀b,b<(ms i).next->n b=j b:=λb d=>by rw[p.ext b d];grind[cj.below]
 have axb:∀b e,j b=J e->b<(ms i).next->M.blk b=(ms i).blk b:=V;refine⟨by simp[D.size],D.Uc R,R.lt,.inr (by grind),?_,q,D.AX,?_,?_,?_,?_,by rw[vi.2];exact D.defers,by rw[vi.1];exact D.tmps,D.Uf X R hb (aD.mono K),?_,?_,?_,?_,?_⟩
 ·intro x m H;rw[mC Q,D.iC x m H]
  grind
 ·grind[Mem.join]
 ·grind[cj.join,mC]
 ·intro x m H aR;obtain⟨B,f⟩:=Kw Q aR;have ax4:=D.xB x m H f;rcases mq x i with h|h
  ·have ao7:(ms x).next<(ms i).next:=hS (X.BG m H) (X.mono (x+1) i h (lG R.lt))
   grind[cj.join]
  ·have:(ms (i+1)).next<=(ms x).next:=X.mono (i+1) x (by omega) (lG m)
   grind[cj.join]
 ·intro x B f I y iK hm;have:(ms (i+1)).next<=(ms x).next:=X.mono (i+1) x B (lG f);simp only[Mem.join,show¬(ms x).next<(ms (i+1)).next by omega,if_false];rcases(mC Q).1 I with h|h
  ·omega
  ·exact D.Jt x (by omega) f h y iK hm
 ·refine⟨p.gd.os.trans D.gd.os,p.gd.tape.trans D.gd.tape,p.gd.output.trans D.gd.output,jd D.gd.size p.gd.size,λc ay cp=>?_⟩;rw[p.gd.block c (hS ay D.gd.size) ?_]
  ·exact D.gd.block c ay cp
  ·intro b e d g E;obtain⟨g1,g2⟩:=q3 d;rcases mq b (ms 0).next with h|h
   ·exact cp b e (by rw[<-D.ext b h];grind) (D.ew b h (by grind)) E
   ·rcases D.fresh b e g2 h with bF|⟨k,Y,cL,c9,Z⟩
    ·omega
    grind
 ·intro b d;simp only[cj.join,show b<(ms (i+1)).next by omega,if_true];rw[O b (by omega)];exact D.ext b d
 ·intro b e d hA;unfold cj.join at d;split at d
  ·rcases mq b (ms i).next with h|h
   ·exact D.fresh b e (by grind) hA
   ·rcases p.fresh b e d h with bF|⟨k,Y,cL,c9,Z⟩
    ·exact .inl (jd D.gd.size bF)
    ·obtain⟨g1,g2⟩:=q3 cL;rcases mq k (ms 0).next with z|z
     ·exact .inr ⟨k,Y,by rw[<-D.ext k z];grind,D.ew k z (by grind),Z⟩
     ·rw[<-Z];exact D.fresh k Y g2 z
  ·exact D.fresh b e d hA
 ·intro b d g;have pu:b<(ms (i+1)).next:=by omega
  simp only[Mem.join,pu,if_true] at g;have mc:=p.ew b (by omega) g;have S:=(Ku X.T i r (by simpa using lG R.lt) A).1;have t:b<(ms s).next:=hS d (X.mono 0 s (pn _) D.sle);exact D.ew b d (by rw[D.agree b t,<-S b t];grind)
 ·intro b d g;have pu:b<(ms (i+1)).next:=by omega
  simp only[Mem.join,pu,if_true] at g;have mc:=p.alive b (by omega) g;have S:=(Ku X.T i r (by simpa using lG R.lt) A).1;have t:b<(ms s).next:=hS d (X.mono 0 s (pn _) D.sle);exact D.alive b d (by rw[D.agree b t,<-S b t];grind)
end
end
section
section
variable {P:bI}{C:FuncId->Array af->Mem->af->Mem->Prop}{ops:Array Oper}{N:Nat}{bY:Nat->Nat->af}{ms:Nat->Mem}{vs:Nat->af}{ds:List Deferred}{dA:Nat->Nat}{gj:cj}{ez:World}
variable {listed:Array Bool}{a:Act}{w:World}{s:Nat}{M:Mem}{j:cj}
def aq5{i:Nat}(h:i∈AL .any ops listed):∃o,i<ops.size/\ops[i]?=J o/\listed.getD i aa=ak/\∀e∈o.after,rC .any e=aa->listed.getD e.on ak=aa:=by
 grind[AL,Array.all_eq_true']
theorem abU{A:Array Bool}{i:Nat}(a:i<A.size):A.getD i aa=A.getD i ak:=by grind
def left(n:Nat)(a:Array Bool):Nat:=((mN n).filter λi=> !a.getD i ak).length
def acW{b:Type}{p q:b->Bool}:∀(l:List b)(x:b),x∈l->(∀y,p y=aa->q y=aa)->q x=aa->p x=ak->(l.filter p).length<(l.filter q).length
 |[],x,a,_,_,_=>by grind
 |y::l,x,a,f,e,d=>by
  have h:(l.filter p).length<=(l.filter q).length:=by
   clear a;induction l with
   |nil=>simp
   |cons z l g=>
    grind
  rcases ha.1 a with rfl|a
  ·grind
  ·have g:=acW l x a f e d
   grind
def aqn{n:Nat}(h:left n listed=0):∀i,i<n->listed.getD i ak=aa:=by
 intro i a;cases b:listed.getD i ak with
 |true=>rfl
 |false=>
  have:i∈(mN n).filter λi=> !listed.getD i ak:=aIv.2 ⟨aAc.2 a,by grind⟩;rw[yl h] at this
  grind
def hK.all(X:Ctx P C ops N bY ms vs dA gj ez)(D:hK P ops ds N bY ms vs dA gj ez listed a w s M j)(h:AL .any ops listed=[]):∀i,i<ops.size->listed.getD i ak=aa:=by
 intro i;induction i using Y0 with
 |_ i l=>
  intro g;cases m:listed.getD i ak with
  |true=>rfl
  |false=>
   have b:ops[i]?=J ops[i]:=by grind
   have:i∈AL .any ops listed:=by
    simp only[AL,aIv,aAc,fx,Bool.not_eq_true'];refine⟨g,by rw[abU (by rw[D.size];grind)];grind,?_⟩;rw[b];simp only[Option.map_some,Option.getD_some,Array.all_eq_true'];intro e k;cases d:rC .any e with
    |false=>rfl
    |true=>
     have f:=aq1 X.ok b k d
     grind
   grind
def hK.end(X:Ctx P C ops N bY ms vs dA gj ez)(D:hK P ops ds N bY ms vs dA gj ez listed a w s M j)(h:∀i,i<ops.size->listed.getD i ak=aa):
  Post P gj (ms 0) ez (j.below (ms ops.size).next) (ms ops.size) w/\(∀t,de (j.below (ms ops.size).next) (bY ops.size t) (a.tmps.getD t undef))/\a.defers=ds/\a.tmps.size=N:=by
 have m:∀e,s<=e->e<ops.size->dA e≠4:=λe n f O=>by have:=(D.iC e f O).1 (h e f);omega
 have F:=D.T2 X D.sle (e4 _) m;obtain⟨E,B⟩:=X.wf ops.size (e4 _);have z:(ms 0).next<=(ms ops.size).next:=X.mono 0 _ (pn _) (e4 _);have A:=(Ku X.T ops.size D.sle (by simp) m).1;have V:∀b,b<(ms 0).next->(ms ops.size).blk b=M.blk b:=λb d=>by have g:=hS d (X.mono 0 s (pn _) D.sle);rw[A b g,D.agree b g]
 refine⟨⟨D.rel.below E F,D.gd,z,?_,?_,?_,?_⟩,?_,D.defers,D.tmps⟩
 ·intro b d;simp only[cj.below,show b<(ms ops.size).next by omega,if_true];exact D.ext b d
 ·intro b e d L;exact D.fresh b e (q3 d).2 L
 ·intro b d r;exact D.ew b d (by grind)
 ·intro b d r;exact D.alive b d (by grind)
 ·intro t;refine zj.2.2 ?_ (B t);rcases Wj X.T t ops.size (by simp) with⟨x,p,n,f,Q,R,S⟩|⟨n,f⟩
  ·have U:ops[x]?=J p:=by grind
   rcases D.cur t with⟨y,q,k,l,H,I,K⟩|⟨k,_⟩
   ·grind[TJ]
   grind
  ·rcases D.cur t with⟨y,q,k,l,H,I,K⟩|⟨_,l⟩
   ·grind
   grind
def hK.go(X:Ctx P C ops N bY ms vs dA gj ez){Q:Exit->Act->World->Prop}(iN:∀a w c6,Post P gj (ms 0) ez c6 (ms ops.size) w->(∀t,de c6 (bY ops.size t) (a.tmps.getD t undef))->a.defers=ds->a.tmps.size=N->Q .normal a w):
  ∀(lp:Nat)(listed:Array Bool)(a:Act)(w:World)(s:Nat)(M:Mem)(j:cj),hK P ops ds N bY ms vs dA gj ez listed a w s M j->left ops.size listed<=lp->wpAny P .any ops Q lp listed a w:=by
 intro lp;induction lp with
 |zero=>
  intro listed a w s M j D aR;have oO:=aqn (n:=ops.size) (by omega:left ops.size listed=0);obtain⟨h1,ai,aT,br⟩:=D.end X oO;refine⟨?_,iN _ _ _ h1 ai aT br⟩
  grind[AL,List.filter_eq_nil_iff,abU]
 |succ lp a1=>
  intro listed a w s M j D aR;refine⟨λaV=>?_,λi az=>?_⟩
  ·obtain⟨h1,ai,aT,br⟩:=D.end X (D.all X aV)
   grind
  ·obtain⟨o,cF,aM,ayf,anG⟩:=aq5 az;have JQ:i<listed.size:=by grind
   have R:nr ops listed i o:=⟨aM,by grind,anG⟩
   have Bk:left ops.size (listed.setIfInBounds i aa)<=lp:=by
    have:left ops.size (listed.setIfInBounds i aa)<left ops.size listed:=by
     refine acW _ i (by grind) (λy aZ=>?_) (by grind) (by simp_all)
     grind[Kw]
    omega
   have r0:=D.wanted X R;have Bp:=D.apL X R;unfold wpOp;rw[aM];simp only[];rcases X.run aM with⟨hk,hw,aD,_⟩|⟨hk,hw,bb,_⟩|⟨hk,hw,bb,_⟩|⟨hk,hw,iK,bb,hm⟩|⟨hk,hw,bb⟩
   ·rw[r0,hw,if_neg (by simp)];exact a1 _ _ _ s M j (D.quiet X R (by omega) (by omega) (by rw[aD];exact⟨#[],rfl,fs⟩)) Bk
   ·rw[r0,hw,if_pos rfl];left;obtain⟨bz,aV,iF⟩:=Wf bb Bp w;unfold sM;rw[aV];exact a1 _ _ _ s M j (D.quiet X R (by omega) (by omega) iF) Bk
   ·rw[r0,hw,if_pos rfl];left;have aoL:∃z,fH P (bk (bY i)) o (ms z) (vs i)/\uq P j (ms z) w:=by
     rcases mq i s with JM|JM
     ·refine⟨s,?_,D.ot X (e4 _) D.sle (λe h1 ai=>by omega)⟩;rcases D.last with bR|an3
      ·omega
      ·have aoO:s-1+1=s:=by omega
       have tc:=D.sle;have gT:i≠s-1:=by grind
       have an8:listed.getD (s-1) ak=aa:=(D.iC (s-1) (by omega) an3).2 (by omega);have lq:gD (kp ops) (s-1) i=ak:=by
        cases eL:gD (kp ops) (s-1) i with
        |false=>rfl
        |true=>
         have:=D.T3 an8 eL
         grind
       have:=X.T.after i (s-1) o (by grind) (by grind) (by grind) (by grind) (by omega) (by grind)
       grind
     ·by_cases hex:∃e,s<=e/\e<i/\dA e=4
      ·
       have Vm:∃z,s<=z/\z<i/\dA z=4/\∀e,s<=e->e<z->dA e≠4:=by
        obtain⟨e,h1,ai,aT⟩:=hex;clear r0 Bp;induction e using Y0 with
        |_ e ayw=>
         grind
       obtain⟨z,h1,ai,aT,br⟩:=Vm;refine⟨z,?_,D.ot X h1 (by omega) br⟩;have lq:gD (kp ops) i z=ak:=by
        cases eL:gD (kp ops) i z with
        |false=>rfl
        |true=>have:=(D.iC z (by omega) aT).1 (R.gD D eL);omega
       have:=X.T.ahead i z o (by grind) (by grind) (by grind) (by grind) ai (by grind)
       grind
      ·exact⟨i,bb,D.ot X JM (lG cF) (λe h1 ai aT=>hex ⟨e,h1,ai,aT⟩)⟩
    obtain⟨z,e0,eT⟩:=aoL;obtain⟨bz,aV,iF⟩:=ack e0 Bp eT;unfold sM;rw[aV];exact a1 _ _ _ s M j (D.quiet X R (by omega) (by omega) iF) Bk
   ·rw[r0,hw,if_pos rfl];left;obtain⟨bz,w',e,ob,aV,bB,iF⟩:=ad9 bb Bp w;unfold sM;rw[aV];exact a1 _ _ _ s _ _ (D.amQ X R hk hm bB (iF _ (by simp[cj.up]))) Bk
   ·rw[r0,hw,if_pos rfl];left;obtain⟨h1,ai,aT,br⟩:=D.fX X R hk;obtain⟨anj,am9⟩:=X.wf i (lG cF);have JR:o∈ops.toList:=by grind
    have aou:h3 (j.below (ms i).next) (bk (bY i)) a.eval o:=λx an=>zj.2.2 (Bp x an) (aew am9 (X.Kl o JR x an));exact aeu bb aou aT anj X.sound λbz w' hM wy iF=>a1 _ _ _ _ _ _ (br wy iF) Bk
end
def aqs{P:bI}{C:FuncId->Array af->Mem->af->Mem->Prop}{f:Array Oper}{id:Nat}{K H:Nat->af}{m L:Mem}{j:cj}{a:Act}{z:List Deferred}{w:World}{Q:Exit->Act->World->Prop}
  (n9:P.follows .mixedOrders=aa) (h:hW P C f.toList (kp f) 0 f.toList ⟨[],[],[]⟩ K m H L) (eT:vj f=aa) (V:∀o∈f.toList,∀x∈o.op.operands,nI x=aa) (uR:∀o∈f.toList,∀d,o.dst=J d->d<a.tmps.size)
  (Y:pB C) (k2:xf P C) (Z:Rel P j m w) (dV:WF m) (hU:∀t,de j (K t) (a.tmps.getD t undef)) (S:a.defers=z)
  (iN:∀k s q,Post P j m w q L s->(∀t,de q (H t) (k.tmps.getD t undef))->k.defers=z->k.tmps.size=a.tmps.size->Q .normal k s):(Code.region id f aa).wp P Q a w:=by
 refine wp_region_any n9 ?_;obtain⟨E,g,M,I,T,h1,B,O,F,_⟩:=afj _ _ _ _ _ _ _ h;simp only[lH,Array.length_toList] at O F;have n:Rel P j (g 0) {w with drawn:=w.drawn+1}:=by grind[arT]
 have r:∀b e,j b=J e->b<(g 0).next:=λb e l=>by rw[B];exact(Z.lt b e l).1
 have X:Ctx P C f a.tmps.size E g M I j {w with drawn:=w.drawn+1}:=⟨T,eT,V,uR,Y,k2,n,by grind,λt=>by rw[h1];exact(Lf r).2.2 (hU t)⟩
 have A:∀i,(nj f.size ak).getD i ak=aa->False:=by simp_all[Tp]
 have D:hK P f z a.tmps.size E g M I j {w with drawn:=w.drawn+1} (nj f.size ak) a {w with drawn:=w.drawn+1} 0 {next:=(g f.size).next,blk:=(g 0).blk} j:=by
  refine⟨by simp,λi o y=>(A i y).elim,pn _,.inl rfl,λi _ _=>⟨λh=>(A i h).elim,λh=>by omega⟩,?_,rfl,λb _=>rfl,λb e l=>.inl (r b e l),?_,λi _ _ h=>(A i h).elim,S,rfl,?_,sC.refl _ _ _,λ_ _=>rfl,?_,λ_ _ h=>h,λ_ _ h=>h⟩
  ·refine⟨⟨λb e l=>⟨hS (r b e l) (X.mono 0 _ (pn _) (e4 _)),(n.lt b e l).2⟩,n.obj,n.inj⟩,n.mE.val,n.mE.sep⟩
  ·intro i y hk aR;cases U:j (g i).next with
   |none=>rfl
   |some e=>have:=r _ e U;have:=X.mono 0 i (pn _) (lG y);omega
  ·grind
  grind
 refine hK.go X (λk s q p aD N R=>iN k s q ?_ (by grind) N R) _ _ _ _ _ _ _ D ?_
 ·rw[B,F] at p;exact⟨p.rel,⟨p.gd.os,p.gd.tape,p.gd.output,p.gd.size,p.gd.block⟩,p.next,p.ext,p.fresh,p.ew,p.alive⟩
 grind[left]
end
section
def Rel.amZ{P:bI}{j:cj}{m:Mem}{w d:World}(h:Rel P j m w)(p:d.os=w.os)(k:d.tape=w.tape)(i:d.output=w.output)(f:w.heap.size<=d.heap.size)(g:∀c,c<w.heap.size->d.heap[c]?=w.heap[c]?):Post P j m w j m d:=
 .of h ⟨λb e a=>⟨(h.lt b e a).1,hS (h.lt b e a).2 f⟩,λb e a=>by rw[g _ (h.lt b e a).2];exact h.obj b e a,h.inj⟩
  ⟨p,k,i,f,λc l _=>g c l⟩ (e4 _) (λ_ _=>rfl) (λb e a n=>absurd (h.lt b e a).1 (vP.2 n)) (λ_ _ h=>h) (λ_ _ h=>h)
theorem acX{j:cj}{v:af}(h:dy v=aa):eA j v v:=q4 h
def zE(P:bI)(f:FuncId)(j:List af)(l:Nat)(F k:List af)(w:World)(a:Nat):Prop:=
 ∀(b h:Nat)(g:Array af)(t:bV)(bZ:Nat×Nat),w.heap[a]?=J (.cells g t bZ)->(∀(i:Nat)(v:af),F[i]?=J v->g[b+i]?=J v)->(∀i,i<g.size->¬(bZ.1<=i/\i<bZ.2))->
  Calls P f (.slice (J ⟨a,b,ae⟩) l h::j).toArray w λe d=>e=.returned (.tuple #[])/\d.os=w.os/\d.tape=w.tape/\d.output=w.output/\w.heap.size<=d.heap.size/\
   (∀c,c<w.heap.size->c≠a->d.heap[c]?=w.heap[c]?)/\d.heap[a]?=J (.cells (eY g.toList b k).toArray t bZ)
section
variable {P:bI}{f:FuncId}{args:Array af}{m:Mem}{j:cj}{w:World}
def ar9(a:Option Addr)(c:Nat)(n:List af)(h:∀(p:Option Addr)(b:Nat)(d:List af)(w:World),d.length=n.length->Calls P f (.slice p 0 b::d).toArray w λe s=>e=.returned (.tuple #[])/\s=w):LB P f (.slice a 0 c::n).toArray m (.tuple #[]) m:=by
 refine⟨e4 _,λi=>⟨by intro x g;grind,i⟩,λj w A i y k=>?_⟩;obtain⟨l⟩:=A;cases l with
 |nil=>exact k.elim
 |cons z d=>
 obtain⟨r,t⟩:=k;have g:∃p b,z=.slice p 0 b:=by
  cases a with
  |none=>exact⟨_,_,r.nc⟩
  |some a=>
   obtain⟨q,_,_,B⟩:=r.slice
   grind
 obtain⟨p,b,rfl⟩:=g;refine(h p b d w t.length.symm).mono ?_;rintro e s ⟨rfl,rfl⟩;exact⟨_,j,rfl,Post.refl y,#[],rfl,fs⟩
def ar'(b a l c:Nat)(L:List af)(e:bV)(F g Q:List af)(h:∀(j:cj)(w:World)(z:List af)(q:kl),WF m->Rel P j m w->bP (de j) Q z->j b=J q->zE P f z l F g w q.blk)(aR:0<l)(B:m.blk b=.own L e)
  (U:(L.drop a).take F.length=F) (bB:a+F.length<=L.length) (p7:g.length=F.length) (V:F.all dy=aa) (f2:g.all dy=aa):LB P f (.slice (J ⟨b,a,ae⟩) l c::Q).toArray m (.tuple #[]) (m.put b (.own (eY L a g) e)):=by
 refine⟨e4 _,λp=>⟨by intro x E;grind,λc d=>?_,λc=>?_⟩,λj w kq p y N=>?_⟩
 ·have d:m.next<=c:=d;simp only[Mem.put];split
  ·rename_i gN;subst gN;have:=p.dead c d
   grind
  ·exact p.dead c d
 ·simp only[Mem.put];split
  ·intro v s;rcases r9 _ _ _ _ s with s|s
   ·have:=p.low b;rw[B] at this;exact this v s
   grind[zq]
  ·exact p.low c
 obtain⟨T⟩:=kq;cases T with
 |nil=>exact N.elim
 |cons rJ z=>
 obtain⟨h1,S⟩:=N;obtain⟨q,_,n,d⟩:=h1.slice;have E:∃k,rJ=.slice (J ⟨q.blk,q.db+a,ae⟩) l k:=by
  rcases d with⟨_,d⟩|⟨_,_,_,_,_,_,d⟩|⟨_,hV,_⟩|⟨_,hV,_⟩|⟨_,_,_,_,_,_,_,_,_,d⟩
  ·grind
  ·grind
  ·omega
  ·omega
  grind
 obtain⟨k,rfl⟩:=E;have n:j b=J q:=n;obtain⟨r,bZ,O,Y,g3,g4,g5,Z⟩:=y.own b q L e n B;have A:∀(i:Nat)(v:af),F[i]?=J v->r[q.db+a+i]?=J v:=by
  intro i v t;have K:=(fq.1 t).1;have C:=t;rw[<-U,List.getElem?_take,if_pos K,aIQ] at C;obtain⟨bz,M,I⟩:=Z _ v C;have yO:dy v=aa:=List.all_eq_true.1 V v (List.mem_of_getElem? t)
  grind[B0]
 refine(h j w z q p y S n (q.db+a) k r e bZ O A Y).mono ?_;rintro ex w' ⟨rfl,M,I,X,k4,wH,BC⟩;have K:=(y.lt b q n).2;have R:(eY r.toList (q.db+a) g).length=r.size:=by grind[mB]
 have yS:(eY L a g).length=L.length:=mB _ _ _;have H:=y.write (L':=eY L a g) (cs':=(eY r.toList (q.db+a) g).toArray) n B O (by grind) (by grind) (λi v t=>by
  grind[o5,acX])
 refine⟨_,j,rfl,H.trans (H.rel.amZ M I X (by grind[lz]) λc d=>?_),#[],rfl,fs⟩
 grind[Wg,Wo]
end
end
section
variable {ds:List Deferred}
def lj.put{j f:cj}{N:Nat}{i:Nat->af}{a:Act}{d:Option Tmp}{v g:af}(h:lj ds j N i a)(k:∀b e,j b=J e->f b=J e)(n:∀t,d=J t->t<N)(m:de f v g):lj ds f N (set i d v) (a.put d g):=by
 refine⟨λt=>?_,by rw[vi.2];exact h.defers,by rw[vi.1];exact h.size⟩;cases d with
 |none=>exact(h.val t).mono k
 |some x=>
  have l:x<a.tmps.size:=by rw[h.size];grind
  rw[Xe l];simp only[set];split
  ·grind
  ·exact(h.val t).mono k
def lj.ops{j:cj}{N:Nat}{b:Nat->af}{a:Act}(h:lj ds j N b a){o:Oper}(d:∀x∈o.op.operands,nI x=aa):h3 j (bk b) a.eval o:=
 λx e=>Xw (d x e) λt _=>h.val t
def adw(j:cj):de j undef undef:=⟨#[],rfl,fs⟩
def Wq{P:bI}{C:FuncId->Array af->Mem->af->Mem->Prop}{f:Array Oper}{N:Nat}{Q:Exit->Act->World->Prop}(R:pB C)(X:xf P C)(T:∀o∈f.toList,∀d,o.dst=J d->d<N):
  ∀(l:List Oper)(z F:Nat->af)(m K:Mem)(j:cj)(a:Act)(w:World),(∀o∈l,(∀x∈o.op.operands,nI x=aa)/\∀d,o.dst=J d->d<N)->k6 P C f.toList l z m F K->Rel P j m w->WF m->lj ds j N z a->
   (∀E s n,Post P j m w n K s->lj ds n N F E->Q .normal E s)->wpList P f Q l a w
 |[],z,F,m,K,j,a,w,M,h,q,S,r,I=>by simp only[k6] at h;obtain⟨rfl,rfl⟩:=h;exact I a w j (Post.refl q) r
 |o::l,z,F,m,K,j,a,w,M,h,q,S,r,I=>by
  obtain⟨U,O⟩:=M o (by simp);have V:∀o∈l,(∀x∈o.op.operands,nI x=aa)/\∀d,o.dst=J d->d<N:=λp A=>M p (by grind);have r0:qK o (yielded f a.tmps)=wanted f.toList z o:=acO r.size T λg w d bs O=>r.val d;unfold wpList;rw[r0];simp only[k6] at h;by_cases H:wanted f.toList z o=aa
  ·rw[if_pos H];rw[if_pos H] at h;obtain⟨v,m1,Y,Z⟩:=h;have rT:∀t,low m.next (z t):=λt=>(Lf λb e aw=>(q.lt b e aw).1).2.2 (r.val t);have fb:=w8 Y S rT R U;have L:=r.ops U;have i:∀k s n,Post P j m w n m1 s->de n v k->wpList P f Q l (a.put o.dst k) s:=λk s n A y=>
    Wq R X T l _ _ _ _ n _ _ V Z A.rel fb.2.1 (r.put (A.up q) O y) λE xC wG wv p7=>I E xC wG (A.trans wv) p7
   left;cases Y with
   |pure h=>obtain⟨k,B,y⟩:=Wf h L w;unfold sM;rw[B];exact i k w j (Post.refl q) y
   |read h=>obtain⟨k,B,y⟩:=ack h L q.ot;unfold sM;rw[B];exact i k w j (Post.refl q) y
   |new h=>obtain⟨k,s,n,B,A,y⟩:=arc h L q;unfold sM;rw[B];exact i k s n A y
   |fX h=>grind[aeu]
  ·rw[if_neg H];rw[if_neg H] at h;exact Wq R X T l _ _ _ _ j _ _ V h q S (r.put (λ_ _ h=>h) O (adw j)) I
def Xg{P:bI}{C:FuncId->Array af->Mem->af->Mem->Prop}{k:List Oper}(g:pB C):∀(l:List Oper)(e d:Nat->af)(m a:Mem),(∀o∈l,∀x∈o.op.operands,nI x=aa)->k6 P C k l e m d a->WF m->(∀t,low m.next (e t))->
  WF a/\(∀t,low a.next (d t))/\m.next<=a.next
 |[],e,d,m,a,f,h,i,b=>by simp_all[k6]
 |o::l,e,d,m,a,f,h,i,b=>by
  simp only[k6] at h;have n:∀o∈l,∀x∈o.op.operands,nI x=aa:=λp s=>f p (by grind);split at h
  ·obtain⟨v,w,r,q⟩:=h;have j:=w8 r i b g (f o (by simp));have:=Xg g l _ _ _ _ n q j.2.1 (Ca (λt=>WO j.2.2 (b t)) j.1)
   grind
  ·exact Xg g l _ _ _ _ n h i (Ca b Kz)
def WS{P:bI}{C:FuncId->Array af->Mem->af->Mem->Prop}{j:List Oper}{B:Array Nat}(r:pB C):∀(l:List Oper)(i:Nat)(A:Acc)(g f:Nat->af)(m a:Mem),(∀o∈l,∀x∈o.op.operands,nI x=aa)->hW P C j B i l A g m f a->WF m->(∀t,low m.next (g t))->
  WF a/\(∀t,low a.next (f t))/\m.next<=a.next
 |[],i,A,g,f,m,a,q,h,s,k=>by simp_all[hW]
 |o::l,i,A,g,f,m,a,q,h,s,k=>by
  simp only[hW] at h;have y:∀o∈l,∀x∈o.op.operands,nI x=aa:=λp d=>q p (by grind);have b:∀v n z,ln P C (bk g) o m v n->hW P C j B (i+1) l z (set g o.dst v) n f a->WF a/\(∀t,low a.next (f t))/\m.next<=a.next:=by
   intro v n z F E;have w:=w8 F s k r (q o (by simp));have:=WS r l _ _ _ _ _ _ y E w.2.1 (Ca (λt=>WO w.2.2 (k t)) w.1)
   grind
  split at h
  ·rcases h with⟨v,d,e⟩|⟨v,d,_,e⟩|⟨X,v,d,e⟩|⟨v,n,d,_,_,e⟩
   ·exact b _ _ _ (.pure d) e
   ·exact b _ _ _ (.read d) e
   ·exact b _ _ _ (.new d) e
   ·exact b _ _ _ (.fX d) e
  ·exact WS r l _ _ _ _ _ _ y h s (Ca k Kz)
def Ww{n b:Nat}{a:Array Oper}{d:Bool}(h:jw n (.region b a d)=aa):(∀o∈a.toList,(∀x∈o.op.operands,nI x=aa)/\∀d,o.dst=J d->d<n)/\(d=aa->vj a=aa):=by
 grind[jw]
def BX{P:bI}{C:FuncId->Array af->Mem->af->Mem->Prop}(F:pB C){N:Nat}:∀(n:Nat)(c:Code)(w r:Nat->af)(m p:Mem)(e:fG),jw N c=aa->lS P C n c w m e r p->WF m->(∀t,low m.next (w t))->
  WF p/\(∀t,low p.next (r t))/\m.next<=p.next:=by
 intro n;induction n with
 |zero=>intro c w r m p e _ h;exact h.elim
 |succ n q=>
  intro c w r m p e j h i g;cases c with
  |skip=>obtain⟨_,rfl,rfl⟩:=h;grind
  |label l=>obtain⟨_,rfl,rfl⟩:=h;grind
  |exit H=>obtain⟨_,rfl,rfl⟩:=h;grind
  |ret=>obtain⟨_,rfl,rfl⟩:=h;grind
  |region H Q d=>
   have B:=Ww j;cases d with
   |false=>exact Xg F _ _ _ _ _ (λo z=>(B.1 o z).1) h.2 i g
   |true=>exact WS F _ _ _ _ _ _ _ (λo z=>(B.1 o z).1) h.2 i g
  |seq a b=>
   simp only[jw,fx] at j;rcases h with⟨E,I,O,k,A⟩|h
   rotate_left
   ·exact⟨(h.2.low i g).1,(h.2.low i g).2,h.2.next⟩
   obtain⟨K,L,M⟩:=q a _ _ _ _ _ j.1 k i g;split at A
   ·grind
   simp_all
  |cond c a b=>
   simp only[jw,fx] at j;obtain⟨t,_,k⟩:=h
   grind
  |block H c=>obtain⟨E,k,_⟩:=h;exact q c _ _ _ _ _ j k i g
  |scope c=>exact q c _ _ _ _ _ j h i g
  |loop c=>
   obtain⟨E,I,O,k,A⟩:=h;obtain⟨K,L,M⟩:=q c _ _ _ _ _ j k i g;split at A
   ·grind
   simp_all
  |rangeFunc f R x y=>exact h.elim
  |goto l=>exact h.elim
  |refuse s=>exact h.elim
def aen(P:bI)(C:FuncId->Array af->Mem->af->Mem->Prop)(N n:Nat)(c:Code):Prop:=
 ∀⦃g:List Deferred⦄(h f:Nat->af)(m i:Mem)(e:fG)(j:cj)(a:Act)(w:World)(Q:Exit->Act->World->Prop),
  jw N c=aa->lS P C n c h m e f i->Rel P j m w->WF m->lj g j N h a->(∀b k d,Post P j m w d i k->lj g d N f b->Q e.out b k)->c.wp P Q a w
theorem lj.low{P:bI}{j:cj}{N:Nat}{d:Nat->af}{a:Act}{m:Mem}{w:World}(h:lj ds j N d a)(g:Rel P j m w):∀t,low m.next (d t):=λt=>(Lf λb e f=>(g.lt b e f).1).2.2 (h.val t)
def aqx{P:bI}{C:FuncId->Array af->Mem->af->Mem->Prop}(cW:pB C){N:Nat}{c:Code}(M:jw N c=aa):∀(n:Nat),(∀A,A<n->aen P C N A c)->∀(y t:Nat->af)(m z:Mem)(e:fG)(j:cj)(a:Act)(w:World)(Q:Exit->Act->World->Prop),
  lS P C n (.loop c) y m e t z->Rel P j m w->WF m->lj ds j N y a->(∀f g V,Post P j m w V z g->lj ds V N t f->Q e.out f g)->
  ∀(b:Frame)(k:List Item)(i:List Frame),∃d f g,Q d f g/\Arrives P (lone (b.at a (.code c::.inLoop c::k)) i w) b k i d f g:=by
 intro n;induction n with
 |zero=>intro _ y t m z e j a w Q h;exact h.elim
 |succ n a1=>
  intro L y t m z e j a w Q h H I K Y b k i;obtain⟨bX,fY,m1,O,r⟩:=h;have aR:=BX cW n c _ _ _ _ _ M O I (K.low H);by_cases X:bX=.normal
  ·subst X;rw[if_pos rfl] at r;have l:c.wp P (λe f g=>e=.normal/\∃d U Z,Q d U Z/\Arrives P (lone (b.at f (.code c::.inLoop c::k)) i g) b k i d U Z) a w:=
    L n (pT n) _ _ _ _ _ j a w _ M O H I K λq p R s T=>
     ⟨rfl,a1 (λA p9=>L A (by omega)) _ _ _ _ _ R q p Q r s.rel aR.1 T (λE S r2 Bq we=>Y E S r2 (s.trans Bq) we) b k i⟩
   obtain⟨d,q,p,⟨rfl,e2,E,S,Vx,F⟩,B⟩:=l b (.inLoop c::k) i;exact⟨e2,E,S,Vx,.of_steps (Steps.trans B (.one step_inLoop)) F⟩
  ·rw[if_neg X] at r;obtain⟨rfl,rfl,rfl⟩:=r;have l:c.wp P (λd f g=>d≠.normal/\Q d f g) a w:=
    L n (pT n) _ _ _ _ _ j a w _ M O H I K λq p R s T=>⟨by cases e with
     |normal=>grind
     |exit id=>simp[fG.out]
     |ret=>simp[fG.out],Y q p R s T⟩
   obtain⟨d,q,p,⟨gT,bm⟩,B⟩:=l b (.inLoop c::k) i;exact⟨d,q,p,bm,.pass (x:=.inLoop c) rfl (λ_ _=>.inl gT) B⟩
def V9{P:bI}{C:FuncId->Array af->Mem->af->Mem->Prop}(n9:P.follows .mixedOrders=aa)(O:pB C)(k2:xf P C){N:Nat}:∀(n:Nat)(c:Code),aen P C N n c:=by
 intro n;induction n using Y0 with
 |_ n Y=>
 cases n with
 |zero=>intro c ds fr cb m m' e j a w Q _ h;exact h.elim
 |succ n=>
  intro c ds fr cb m m' e j a w Q q h p z g i;have rT:=g.low p;have I:=Y n (pT n);cases c with
  |skip=>obtain⟨rfl,rfl,rfl⟩:=h;exact wp_skip (i a w j (Post.refl p) g)
  |label l=>obtain⟨rfl,rfl,rfl⟩:=h;exact wp_label (i a w j (Post.refl p) g)
  |exit V=>obtain⟨rfl,rfl,rfl⟩:=h;exact wp_exit (i a w j (Post.refl p) g)
  |ret=>obtain⟨rfl,rfl,rfl⟩:=h;exact wp_ret (i a w j (Post.refl p) g)
  |region V X d=>
   have M:=Ww q;have uR:∀o∈X.toList,∀d,o.dst=J d->d<N:=λo S=>(M.1 o S).2;cases d with
   |false=>obtain⟨rfl,h⟩:=h;exact wp_region_list (Wq O k2 uR _ _ _ _ _ j a w M.1 h p z g i)
   |true=>obtain⟨rfl,h⟩:=h;exact aqs n9 h (M.2 rfl) (λo S=>(M.1 o S).1) (by rw[g.size];grind) O k2 p z g.val g.defers λK w' c6 r L bg bf=>i K w' c6 r ⟨L,bg,by rw[bf];exact g.size⟩
  |seq K b=>
   have U:=q;simp only[jw,fx] at q;rcases h with⟨Z,fY,m1,E,T⟩|h
   rotate_left
   ·exact h.2.sound U p z g i
   have aR:=BX O n K _ _ _ _ _ q.1 E z rT;refine wp_seq (I K _ _ _ _ _ j a w _ q.1 E p z g λB A F r H=>?_);split at T
   ·rename_i R;subst R;exact I b _ _ _ _ _ F B A Q q.2 T r.rel aR.1 H λa2 ix r2 Bq we=>i a2 ix r2 (r.trans Bq) we
   ·rename_i R;obtain⟨rfl,rfl,rfl⟩:=T;cases e with
    |normal=>grind
    |exit V=>exact i B A F r H
    |ret=>exact i B A F r H
  |cond c x y=>
   simp only[jw,fx] at q;obtain⟨t,aJ,E⟩:=h;have L:de j (bk fr c) (a.eval c):=Xw q.1.1 λt _=>g.val t;rw[aJ] at L;refine wp_cond L.bool ?_;cases t
   ·exact I y _ _ _ _ _ j a w Q q.2 E p z g i
   ·exact I x _ _ _ _ _ j a w Q q.1.2 E p z g i
  |scope c=>refine wp_scope_straight (I c _ _ _ _ _ j a w _ q h p z g λB A F r H=>?_);have:=i B A F r H;cases e<;>exact this
  |block V c=>
   obtain⟨Z,E,R⟩:=h;refine wp_block (I c _ _ _ _ _ j a w _ q E p z g λB A F r H=>?_);have:=i B A F r H;rw[R] at this;cases Z with
   |normal=>simp only[fG.out] at this⊢;exact this
   |exit J3=>
    grind[fG.out,Exit.inBlock]
   |ret=>simp only[fG.out] at this⊢;exact this
  |loop c=>intro b k cs;obtain⟨cz,B,A,bm,Be⟩:=aqx O (c:=c) q (n+1) (λn' p9=>Y n' p9 c) _ _ _ _ _ j a w Q h p z g i b k cs;exact⟨cz,B,A,bm,.of_steps (.one step_loop) Be⟩
  |rangeFunc f cQ x y=>exact h.elim
  |goto l=>exact h.elim
  |refuse s=>exact h.elim
def ap8{P:bI}{y:Nat->af}{m:Mem}{j:cj}{N:Nat}{a:Act}{w:World}(p:Rel P j m w)(s:lj ds j N y a){r:ResultVar}{v:af}(h:KZ P y m r v):
  ∃g,(match r with|.tmp t=>(pure (a.tmps.getD t undef):Sem af)|.cell x t=>do loadVar t (<-asAddr (a.tmps.getD x undef))).run P w=.ok g w/\de j v g:=by
 cases r with
 |tmp t=>simp only[KZ] at h;subst h;exact⟨_,rfl,s.val t⟩
 |cell x t=>
  obtain⟨b,k,z,d,E,e⟩:=h;have n:=s.val x;rw[z] at n;obtain⟨q,_,l,A⟩:=n.ptr;by_cases f:lI d=aa
  ·rw[if_pos f] at e;obtain⟨i,L,B,F,rfl⟩:=e;obtain⟨ds,I,C,H⟩:=BL p.ot l _ _ _ F;exact⟨.agg ds.toArray,by simp[A,asAddr,loadVar,sb E,f,jb B,BM C H],⟨_,rfl,by grind⟩⟩
  ·rw[if_neg f] at e;obtain⟨g,M,K⟩:=p.ot.load b q k v l e;simp_all[asAddr,loadVar,sb,de.qh]
def abY{P:bI}{fr:Nat->af}{m:Mem}{j:cj}{N:Nat}{a:Act}{w:World}(cY:Rel P j m w)(eF:lj ds j N fr a):∀(rs:List ResultVar)(vs:List af),q2 P fr m rs vs->
  ∃n0:List af,(rs.mapM (m:=Sem) λ|.tmp t=>pure (a.tmps.getD t undef)|.cell x t=>do loadVar t (<-asAddr (a.tmps.getD x undef))).run P w=.ok n0 w/\bP (de j) vs n0
 |[],[],_=>⟨[],rfl,fs⟩
 |r::rs,v::vs,⟨h1,ai⟩=>by obtain⟨bz,aV,aD⟩:=ap8 cY eF h1;obtain⟨n0,ayn,rZ⟩:=abY cY eF rs vs ai;refine⟨bz::n0,?_,aD,rZ⟩;simp_all
 |[],_::_,h=>h.elim
 |_::_,[],h=>h.elim
def aca{j:cj}:∀{a b:List af},bP (de j) a b->(∀x∈a,storable x=aa)->bP (fC j) a b
 |[],[],_,_=>fs
 |v::a,c::b,⟨g,e⟩,d=>⟨de.storable g (d v (by simp)),aca e λx f=>d x (by simp[f])⟩
 |[],_::_,h,_=>h.elim
 |_::_,[],h,_=>h.elim
def aqo{j:cj}{a d:Array af}(h:bP (de j) a.toList d.toList)(n:Nat):∀t,de j ((a++nj (n-a.size) undef).getD t undef) ((d++nj (n-d.size) undef).getD t undef):=by
 have p:=h.size;intro t;by_cases f:t<a.size
 ·have g:(a++nj (n-a.size) undef).getD t undef=a[t]:=by
   rw[Yr,Ys f];grind
  have q:t<d.size:=by omega
  have i:(d++nj (n-d.size) undef).getD t undef=d[t]:=by simp_all[Ys]
  rw[g,i];obtain⟨b,m,l⟩:=h.JA t a[t] (by grind)
  grind
 ·have e:∀(A:Array af),A.size<=t->(A++nj (n-A.size) undef).getD t undef=undef:=by
   intro A k;rw[Yr,Array.getElem?_append_right k]
   grind
  rw[e a (by omega),e d (by omega)];exact adw j
theorem acE{P : bI}{f : FuncId}{fn : Func}{c : Code}(h : lR P f = aa)(bF : P.funcs[f]?= J fn)(ay : fn.body = J c): (fn.name == "runtime.NumGoroutine") = ak ∧ jw fn.ntmps c = aa := by
 grind[lR]
def aci{P : bI}{f : FuncId}{fn : Func}{c : Code}(h : lR P f = aa)(bF : P.funcs[f]?= J fn)(ay : qm P fn c): (fn.name == "runtime.NumGoroutine") = ak ∧ jw fn.ntmps c = aa ∧ fn.body.isNone = ak := by
 rcases ay with ay|⟨A,id,mk,p3,B,g,k,cs,D⟩
 ·grind[acE]
 ·have ai:=acE h bF D.body;refine⟨ai.1,?_,by simp[D.body]⟩;rw[D.code]
  grind[jw]
def atk{P:bI}{C:FuncId->Array af->Mem->af->Mem->Prop}{g:bS->af}{o:Oper}{m e:Mem}{v:af}{fn:Fn}{l:Array bS}(h:ln P C g o m v e)(j:o.op=.makeFunc fn #[] l):
  dD P g o v/\e=m/\∃n,v=.func fn #[] n:=by
 cases h with
 |pure h=>
  refine⟨h,rfl,?_⟩;cases h with
  |func f a b t q=>simp_all
  |flat v r h p k=>
   have:=k default;simp[execOp,j,Instr.makeFunc] at this
   grind
  |_=>grind
 |read h=>cases h<;>simp_all
 |new h=>cases h<;>simp_all
 |fX h=>
  cases h with
  |call f i v e h s=>obtain⟨x,w,y,first,d,h,_⟩:=h;grind
  |_=>grind
def ap5{P:bI}{C:FuncId->Array af->Mem->af->Mem->Prop}(n9:P.follows .mixedOrders=aa)(M:pB C)(k2:xf P C){n:Nat}{f:FuncId}{fn:Func}{c:Code}{fr fY:Nat->af}{m m1:Mem}{e:fG}{j:cj}{w:World}{a:Array af}{R:Ending->World->Prop}
  (bF:P.funcs[f]?=J fn) (H:qm P fn c) (eT:jw fn.ntmps c=aa) (I:lS P C n c fr m e fY m1) (he:e=.normal\/e=.ret) (cY:Rel P j m w) (dV:WF m) (eF:lj [] j fn.ntmps fr {tmps:=a++nj (fn.ntmps-a.size) undef,defers:=[]})
  (iN:∀ds r q y,Post P j m w y m1 q->lj ds y fn.ntmps fY r->∃v,(results fn r.tmps).run P q=.ok v q/\R (.returned v) q):Calls P f a w R:=by
 rcases H with H|⟨A,id,mk,N,B,g,k,cs,D⟩
 ·refine calls_of_wp bF H (V9 n9 M k2 n c _ _ _ _ _ j _ w _ eT I cY dV eF λr q y bb L=>?_);obtain⟨v,h1,s⟩:=iN [] r q y bb L;rcases he with rfl|rfl<;>exact⟨L.defers,v,h1,s⟩
 ·obtain rfl:=D.code;have z:jw fn.ntmps A=aa:=by grind[jw]
  have aos:jw fn.ntmps (.region id #[mk] ak)=aa:=by grind[jw]
  have aor:jw fn.ntmps B=aa:=by grind[jw]
  cases n with
  |zero=>exact I.elim
  |succ n=>
  rcases I with⟨bX,E,ayG,eL,s⟩|⟨h,_⟩
  rotate_left
  ·rw[D.db] at h;grind
  have T:=BX M n A _ _ _ _ _ z eL dV (eF.low cY);refine calls_of_wp_defers bF D.body (wp_seq (V9 n9 M k2 n A _ _ _ _ _ j _ w _ z eL cY dV eF λp x hM wx K=>?_));by_cases wh:bX=.normal
  ·subst wh;rw[if_pos rfl] at s;cases n with
   |zero=>exact s.elim
   |succ n=>
   rcases s with⟨e2,axu,aby,F,aT⟩|⟨h,_⟩
   rotate_left
   ·cases h
   cases n with
   |zero=>exact F.elim
   |succ n=>
   obtain⟨rfl,O⟩:=F;rw[if_pos rfl] at aT;have J2:wanted [mk] E mk=aa:=by unfold wanted;rw[D.abA]
   simp only[k6] at O;rw[if_pos J2] at O;obtain⟨v,ayH,fb,rfl,rfl⟩:=O;obtain⟨aoC,rfl,ds,rfl⟩:=atk fb D.apv;have aV:=Ww aos;obtain⟨an,bg⟩:=aV.1 mk (by simp);obtain⟨bz,I,aD⟩:=Wf aoC (K.ops an) x;have yY:=aD;obtain⟨gs,i,rfl,wk,_⟩:=yY;have X:gs=#[]:=by
    cases gs with
    |mk l=>cases l with
     |nil=>rfl
     |cons _ _=>exact wk.elim
   subst X;have Y:k<fn.ntmps:=bg k D.VR;have we:=K.put (d:=J k) (λb e H=>H) (λt aJ=>by grind) aD;show(Code.seq _ _).wp P _ p x;refine wp_seq (wp_region_list ?_);unfold wpList;have r0:qK mk (yielded #[mk,N] p.tmps)=aa:=by unfold qK;rw[D.abA]
   rw[if_pos r0];refine .inl ?_;unfold sM;rw[I,Oper.upon_value];unfold wpList;have Z:qK N (yielded #[mk,N] (p.put mk.dst (.func (.func g) #[] i)).tmps)=aa:=by unfold qK;rw[D.amA]
   rw[if_pos Z];refine .inl ?_;unfold sM;rw[D.VR];have yZ:(p.put (J k) (.func (.func g) #[] i)).eval (.tmp k)=.func (.func g) #[] i:=by simp[Act.eval,qB,K.size,Y]
   have V:(execOp (p.put (J k) (.func (.func g) #[] i)).eval N).run P x=.ok (.defer {target:=.fn (.func g) i,args:=#[]}) x:=by simp[execOp,D.amB,resolve,yZ,Deferred.ofValue]
   rw[V,Oper.upon_defer];unfold wpList;rw[D.amz];show B.wp P _ _ _;have S:lj [{target:=.fn (.func g) i,args:=#[]}] hM fn.ntmps (set E mk.dst (.func (.func g) #[] ds)) {(p.put (J k) (.func (.func g) #[] i)) with defers:={target:=.fn (.func g) i,args:=#[]}::(p.put (J k) (.func (.func g) #[] i)).defers}:=by rw[D.VR];exact⟨we.val,by rw[we.defers],we.size⟩
   have U:=T.1;refine V9 n9 M k2 (n+1) B _ _ _ _ _ hM _ x _ aor aT wx.rel U S λr q y bb L=>?_;obtain⟨v,fv,fQ⟩:=iN _ r q y (wx.trans bb) L;obtain⟨⟨axr,dv,z2,z3⟩,z4⟩:=D.apA;have Q:Leaves P fn r.tmps R r.defers .returning q:=by
    rw[L.defers];refine⟨by simp,_,i,g,#[]++i,rfl,?_,(z4 (#[]++i) q).mono ?_⟩
    ·grind[invoke,ab0]
    ·rintro e u ix ⟨⟨cc,rfl⟩,rfl,rfl⟩;exact⟨v,fv,fQ⟩
   rcases he with rfl|rfl<;>exact Q
  ·rw[if_neg wh] at s;obtain⟨rfl,rfl,rfl⟩:=s;obtain⟨v,fv,fQ⟩:=iN [] p x hM wx K;rcases he with rfl|rfl
   ·grind
   ·show Leaves P fn p.tmps R p.defers .returning x;rw[K.defers];exact⟨v,fv,fQ⟩
def WF.nf{m a:Mem}(h:WF m)(e:∀b,b<m.next->a.blk b=m.blk b\/qe m.next (a.blk b)):WF (a.nf m.next) where
 dead:=λb g=>by
  grind[Mem.nf]
 low:=λb=>by
  simp only[Mem.nf];split
  ·rename_i f;rcases e b f with d|d
   ·rw[d];exact h.low b
   grind
  ·exact fs
def acd{P:bI}(n9:P.follows .mixedOrders=aa):∀n,pB (jn P n)/\xf P (jn P n):=by
 intro n;induction n with
 |zero=>exact⟨λf a m v F h=>h.elim,λf a m v F h=>h.elim⟩
 |succ n T=>
  obtain⟨Z,k2⟩:=T;refine⟨?_,?_⟩
  ·intro f a m v F h A aR;rcases h with⟨_,h⟩|h
   ·exact⟨(h.2.1 A).1,(h.2.1 A).2,h.1⟩
   obtain⟨fn,c,e,fr,m1,k,L,g,N,cN,Q,he,oR,rfl,fb,hm⟩:=h;have C:=aci N L g;have hU:∀t,low m.next ((a++nj (fn.ntmps-a.size) undef).getD t undef):=by
    intro t;rw[Yr]
    grind[Kz]
   obtain⟨g1,g2,g3⟩:=BX Z n c _ _ _ _ _ C.2.1 Q A hU;rcases hm with rfl|⟨rfl,rT,s⟩
   ·refine⟨?_,g1,g3⟩;have aV:∀(R:List ResultVar)(k:List af),q2 P fr F R k->∀x∈k,low F.next x:=by
     intro R;induction R with
     |nil=>intro k h x K;cases k with|nil=>grind|cons _ _=>exact h.elim
     |cons r R T=>
      intro k h x K;cases k with
      |nil=>grind
      |cons u us=>
       rcases ha.1 K with rfl|K
       ·cases r with
        |tmp t=>have:=h.1;grind[KZ]
        |cell q t=>
         obtain⟨b,off,_,d,bg,aD⟩:=h.1
         grind[low,iv,KX,K6,WL]
       ·exact T us h.2 x K
    have oO:=aV _ _ oR;rcases fb with E|E
    ·match k,E with
     |[x],_=>exact oO x (by simp)
    ·match k with
     |[]=>intro x K;grind
     |[x]=>exact oO x (by simp)
     |x::y::l=>intro z bx;grind[wY]
   ·exact⟨rT,A.nf s,e4 _⟩
  ·intro f a m v F h j w kq A cY uQ;rcases h with⟨N,h⟩|h
   ·refine⟨?_,h.2.2 j w kq A cY uQ⟩
    grind[lR]
   obtain⟨fn,c,e,fr,m1,k,L,g,N,cN,Q,he,oR,rfl,fb,hm⟩:=h;have C:=aci N L g;refine⟨⟨fn,L,C.1,C.2.2⟩,?_⟩;have eF:lj [] j fn.ntmps (λi=>(a++nj (fn.ntmps-a.size) undef).getD i undef) {tmps:=kq++nj (fn.ntmps-kq.size) undef,defers:=[]}:=
    ⟨aqo uQ fn.ntmps,rfl,by have:=uQ.size;grind⟩
   have aR:=BX Z n c _ _ _ _ _ C.2.1 Q A (eF.low cY);refine ap5 n9 Z k2 L g C.2.1 Q he cY A eF λds a' S Y B p7=>?_;obtain⟨H,U,O⟩:=abY B.rel p7 _ _ oR;have hlen:=O.length;have aa4:(results fn a'.tmps).run P S=.ok (pack H) S:=by
    simp only[results,kD];rw[Array.mapM_eq_mapM_toList];simp only[Sem.run_map];have V:=U;refine Eq.trans (congrArg (λr=>Zg (Zg r _) _) V) ?_;simp only[jE,nt];congr 1
    match H with
    |[]=>rfl
    |[x]=>rfl
    |x::y::l=>rfl
   have yZ:de Y (pack k) (pack H):=by
    rcases fb with E|E
    ·match k,H,E,O with
     |[x],[y],_,p=>exact p.1
     |[x],[],_,p=>grind
     |[x],_::_::_,_,p=>grind
    ·have ai:=aca O E
     match k,H,O,ai with
     |[x],[y],p,_=>exact p.1
     |[],[],_,_=>exact⟨_,rfl,fs⟩
     |x::y::l,jL::y'::r3,_,p=>exact⟨_,rfl,by grind⟩
     |[x],[],p,_=>grind
     |[x],_::_::_,p,_=>grind
     |[],_::_,p,_=>grind
     |_::_::_,[],p,_=>grind
     |_::_::_,[_],p,_=>grind
   have aaH:∃wG,Post P j m w wG F S/\de wG (pack k) (pack H):=by
    rcases hm with rfl|⟨rfl,rT,s⟩
    ·grind
    ·have X:=A.nf s;have M:Rel P (Y.below m.next) (m1.nf m.next) S:=Rel.below (m:=m1.nf m.next) B.rel X (λb e g cF=>by
      grind[Mem.nf])
     refine⟨Y.below m.next,⟨M,B.gd,e4 _,λb g=>?_,λb e g hA=>?_,λb g I=>?_,λb g I=>?_⟩,zj.2.2 yZ rT⟩
     ·simp only[cj.below,g,if_true];exact B.ext b g
     ·have:=(q3 g).1;omega
     ·simp only[Mem.nf,g,if_true] at I;exact B.ew b g I
     ·simp only[Mem.nf,g,if_true] at I;exact B.alive b g I
   grind
end
section
def yg(C d:FuncId->Array af->Mem->af->Mem->Prop):Prop:=∀f a m v b,C f a m v b->d f a m v b
def hR.mono{P:bI}{C U:FuncId->Array af->Mem->af->Mem->Prop}(cW:yg C U){T:bS->af}{o:Oper}{m M:Mem}{v:af}(h:hR P C T o m v M):hR P U T o m v M:=by
 cases h with
 |store t x y b d i L e h g j q Y bf s=>exact .store t x y b d i L e h g j q Y bf s
 |call f B v M h N=>exact .call f B v M h (cW _ _ _ _ _ N)
 |vZ x y t u e i a l c h p j g A s7 r=>exact .vZ x y t u e i a l c h p j g A s7 r
 |sP x y t u e i z a l c n ew new h p j F H I Q g A Z nF r w O q=>exact .sP x y t u e i z a l c n ew new h p j F H I Q g A Z nF r w O q
 |yy x y t u e i b d l c k n L new h p j g R nB A q r w s=>exact .yy x y t u e i b d l c k n L new h p j g R nB A q r w s
 |vY x y t u e i b d l c n L new h p j g R A q r w s=>exact .vY x y t u e i b d l c n L new h p j g R A q r w s
 |append x y t u e i z b d l n L new h p j F H I Q g S yS r w O q=>exact .append x y t u e i z b d l n L new h p j F H I Q g S yS r w O q
 |clear x t e i z b d l c L h p j F H I g q hV s=>exact .clear x t e i z b d l c L h p j F H I g q hV s
 |copy x y t u e i b d l c L cs h p j g q r w s=>exact .copy x y t u e i b d l c L cs h p j g q r w s
 |mapUpdate hZ x jW j3 u bG bA b L eo vc E V ho h jk hu g S bp nC K yP uV yQ bF hk bs rZ X tg wA hb=>exact .mapUpdate hZ x jW j3 u bG bA b L eo vc E V ho h jk hu g S bp nC K yP uV yQ bF hk bs rZ X tg wA hb
def ln.mono{P:bI}{C d:FuncId->Array af->Mem->af->Mem->Prop}(e:yg C d){a:bS->af}{o:Oper}{m b:Mem}{v:af}(h:ln P C a o m v b):ln P d a o m v b:=by
 cases h with
 |pure h=>exact .pure h
 |read h=>exact .read h
 |new h=>exact .new h
 |fX h=>exact .fX (h.mono e)
def BP{P:bI}{C i:FuncId->Array af->Mem->af->Mem->Prop}(f:yg C i){a:List Oper}:∀(l:List Oper)(d b:Nat->af)(m e:Mem),k6 P C a l d m b e->k6 P i a l d m b e
 |[],d,b,m,e,h=>h
 |o::l,d,b,m,e,h=>by
  simp only[k6] at h⊢;split at h
  ·rename_i g;rw[if_pos g];obtain⟨v,n,k,j⟩:=h;exact⟨v,n,k.mono f,BP f l _ _ _ _ j⟩
  ·rename_i g;rw[if_neg g];exact BP f l _ _ _ _ h
def vd{P:bI}{C n:FuncId->Array af->Mem->af->Mem->Prop}(d:yg C n){e:List Oper}{B:Array Nat}:∀(l:List Oper)(i:Nat)(A:Acc)(g f:Nat->af)(m j:Mem),hW P C e B i l A g m f j->hW P n e B i l A g m f j
 |[],i,A,g,f,m,j,h=>h
 |o::l,i,A,g,f,m,j,h=>by
  simp only[hW] at h⊢;split at h
  ·rename_i k;rw[if_pos k];rcases h with⟨v,a,b⟩|⟨v,a,p,b⟩|⟨X,v,a,b⟩|⟨v,s,a,r,q,b⟩
   ·exact .inl ⟨v,a,vd d l _ _ _ _ _ _ b⟩
   ·exact .inr (.inl ⟨v,a,p,vd d l _ _ _ _ _ _ b⟩)
   ·exact .inr (.inr (.inl ⟨X,v,a,vd d l _ _ _ _ _ _ b⟩))
   ·exact .inr (.inr (.inr ⟨v,s,a.mono d,r,q,vd d l _ _ _ _ _ _ b⟩))
  ·rename_i k;rw[if_neg k];exact vd d l _ _ _ _ _ _ h
def ab7{P:bI}{C F:FuncId->Array af->Mem->af->Mem->Prop}(B:yg C F):∀(n g:Nat),n<=g->∀(c:Code)(r q:Nat->af)(m w:Mem)(e:fG),lS P C n c r m e q w->lS P F g c r m e q w:=by
 intro n;induction n with
 |zero=>intro g _ c r q m w e h;exact h.elim
 |succ n j=>
  intro g M c r q m w e h;cases g with
  |zero=>omega
  |succ g=>
   have p:n<=g:=by omega
   cases c with
   |skip=>exact h
   |label l=>exact h
   |exit E=>exact h
   |ret=>exact h
   |region E L d=>
    cases d with
    |false=>exact⟨h.1,BP B _ _ _ _ _ h.2⟩
    |true=>exact⟨h.1,vd B _ _ _ _ _ _ _ h.2⟩
   |seq a b=>
    rcases h with⟨k,z,A,i,I⟩|h
    rotate_left
    ·exact .inr h
    refine .inl ⟨k,z,A,j g p _ _ _ _ _ _ i,?_⟩
    grind
   |cond c a b=>obtain⟨t,H,i⟩:=h;exact⟨t,H,j g p _ _ _ _ _ _ i⟩
   |scope c=>exact j g p _ _ _ _ _ _ h
   |block E c=>obtain⟨k,i,K⟩:=h;exact⟨k,j g p _ _ _ _ _ _ i,K⟩
   |loop c=>
    obtain⟨k,z,A,i,I⟩:=h;refine⟨k,z,A,j g p _ _ _ _ _ _ i,?_⟩
    grind
   |rangeFunc f N x y=>exact h.elim
   |goto l=>exact h.elim
   |refuse s=>exact h.elim
def wV{P:bI}:∀(n a:Nat),n<=a->yg (jn P n) (jn P a):=by
 intro n;induction n with
 |zero=>intro a _ f b m v r h;exact h.elim
 |succ n g=>
  intro a w f b m v r h;cases a with
  |zero=>omega
  |succ a=>
   rcases h with h|h
   ·exact .inl h
   obtain⟨fn,c,e,p,s,t,j,i,l,k,q,d⟩:=h;exact .inr ⟨fn,c,e,p,s,t,j,i,l,k,ab7 (g a (by omega)) n a (by omega) _ _ _ _ _ _ q,d⟩
def h2(P:bI)(f:FuncId)(a:Array af)(m:Mem)(R:af->Mem->Prop):Prop:=∃n v b,jn P n f a m v b/\R v b
def W(P:bI)(c:Code)(Q:fG->(Nat->af)->Mem->Prop)(d:Nat->af)(m:Mem):Prop:=∃n e a b,lS P (jn P n) n c d m e a b/\Q e a b
def mr(P:bI)(b:bS->af)(o:Oper)(m:Mem)(K:af->Mem->Prop):Prop:=∃n v a,ln P (jn P n) b o m v a/\K v a
def ea(P:bI)(a l:List Oper)(K:(Nat->af)->Mem->Prop)(e:Nat->af)(m:Mem):Prop:=∃n b d,k6 P (jn P n) a l e m b d/\K b d
def hQ(P:bI)(a:List Oper)(B:Array Nat)(i:Nat)(l:List Oper)(A:Acc)(K:(Nat->af)->Mem->Prop)(e:Nat->af)(m:Mem):Prop:=∃n b d,hW P (jn P n) a B i l A e m b d/\K b d
section
variable {P:bI}{Q AH:fG->(Nat->af)->Mem->Prop}{fr:Nat->af}{m:Mem}
def h2.mono{f:FuncId}{a:Array af}{R d:af->Mem->Prop}(h:h2 P f a m R)(e:∀v b,R v b->d v b):h2 P f a m d:=
 let⟨n,v,b,i,g⟩:=h;⟨n,v,b,i,e _ _ g⟩
def W.mono{c:Code}(h:W P c Q fr m)(b:∀e fr m,Q e fr m->AH e fr m):W P c AH fr m:=
 let⟨n,e,d,g,f,a⟩:=h;⟨n,e,d,g,f,b _ _ _ a⟩
def W.skip(h:Q .normal fr m):W P .skip Q fr m:=⟨1,_,_,_,⟨rfl,rfl,rfl⟩,h⟩
def W.label{l:Nat}(h:Q .normal fr m):W P (.label l) Q fr m:=⟨1,_,_,_,⟨rfl,rfl,rfl⟩,h⟩
def W.exit{a:Nat}(h:Q (.exit a) fr m):W P (.exit a) Q fr m:=⟨1,_,_,_,⟨rfl,rfl,rfl⟩,h⟩
def W.ret(h:Q .ret fr m):W P .ret Q fr m:=⟨1,_,_,_,⟨rfl,rfl,rfl⟩,h⟩
def afi(next:(Nat->af)->Mem->Prop)(Q:fG->(Nat->af)->Mem->Prop):fG->(Nat->af)->Mem->Prop|.normal,a,m=>next a m|e,a,m=>Q e a m
def pZ(d:Nat)(Q:fG->(Nat->af)->Mem->Prop):fG->(Nat->af)->Mem->Prop|.exit b,a,m=>if b=d then Q .normal a m else Q (.exit b) a m|e,a,m=>Q e a m
def q7{n N k:Nat}(h:n<=N)(g:n<=k){c:Code}{b a:Nat->af}{m d:Mem}{e:fG}(f:lS P (jn P n) n c b m e a d):lS P (jn P N) k c b m e a d:=ab7 (wV n N h) n k g _ _ _ _ _ _ f
def W.seq{a b:Code}(h:W P a (afi (W P b Q) Q) fr m):W P (.seq a b) Q fr m:=by
 obtain⟨n,e,g,i,f,d⟩:=h;cases e with
 |normal=>obtain⟨r,l,p,q,j,k⟩:=d;exact⟨max n r+1,l,p,q,.inl ⟨_,_,_,q7 (by omega) (by omega) f,by rw[if_pos rfl];exact q7 (by omega) (by omega) j⟩,k⟩
 |exit s=>exact⟨n+1,_,g,i,.inl ⟨_,_,_,q7 (by omega) (by omega) f,by grind⟩,d⟩
 |ret=>exact⟨n+1,_,g,i,.inl ⟨_,_,_,q7 (by omega) (by omega) f,by grind⟩,d⟩
def W.cond{c:bS}{a b:Code}{t:Bool}(d:bk fr c=.bool t)(h:W P (if t then a else b) Q fr m):W P (.cond c a b) Q fr m:=by
 obtain⟨n,e,g,j,i,f⟩:=h;exact⟨n+1,e,g,j,⟨t,d,q7 (by omega) (by omega) i⟩,f⟩
def W.block{a:Nat}{c:Code}(h:W P c (pZ a Q) fr m):W P (.block a c) Q fr m:=by
 obtain⟨n,e,b,f,d,i⟩:=h;refine⟨n+1,_,b,f,⟨e,q7 (by omega) (by omega) d,rfl⟩,?_⟩;cases e with
 |normal=>grind[pZ]
 |exit g=>
  grind[pZ]
 |ret=>grind[pZ]
def W.scope{c:Code}(h:W P c Q fr m):W P (.scope c) Q fr m:=by
 obtain⟨n,e,a,b,f,d⟩:=h;exact⟨n+1,e,a,b,(show lS P (jn P (n+1)) n c fr m e a b from q7 (by omega) (by omega) f),d⟩
def W.apr{c:Code}(h:W P c (afi (W P (.loop c) Q) Q) fr m):W P (.loop c) Q fr m:=by
 obtain⟨n,e,d,f,b,a⟩:=h;cases e with
 |normal=>obtain⟨p,j,k,l,g,i⟩:=a;exact⟨max n p+1,j,k,l,⟨_,_,_,q7 (by omega) (by omega) b,by rw[if_pos rfl];exact q7 (by omega) (by omega) g⟩,i⟩
 |exit q=>exact⟨n+1,_,d,f,⟨_,_,_,q7 (by omega) (by omega) b,by grind⟩,a⟩
 |ret=>exact⟨n+1,_,d,f,⟨_,_,_,q7 (by omega) (by omega) b,by grind⟩,a⟩
def W.region{f:Nat}{a:Array Oper}(h:ea P a.toList a.toList (Q .normal) fr m):W P (.region f a ak) Q fr m:=by
 obtain⟨n,d,g,e,b⟩:=h;exact⟨n+1,.normal,d,g,⟨rfl,BP (wV _ _ (mo _)) _ _ _ _ _ e⟩,b⟩
def W.draw{f:Nat}{a:Array Oper}(h:hQ P a.toList (kp a) 0 a.toList ⟨[],[],[]⟩ (Q .normal) fr m):W P (.region f a aa) Q fr m:=by
 obtain⟨n,d,g,e,b⟩:=h;exact⟨n+1,.normal,d,g,⟨rfl,vd (wV _ _ (mo _)) _ _ _ _ _ _ _ e⟩,b⟩
end
section
variable {P:bI}{ops l:List Oper}{K:(Nat->af)->Mem->Prop}{fr:Nat->af}{m:Mem}{o:Oper}
def ea.nil(h:K fr m):ea P ops [] K fr m:=⟨0,_,_,⟨rfl,rfl⟩,h⟩
def ea.skip(e:wanted ops fr o=ak)(h:ea P ops l K (set fr o.dst undef) m):ea P ops (o::l) K fr m:=by
 obtain⟨n,b,d,f,a⟩:=h;refine⟨n,b,d,?_,a⟩
 grind[k6]
theorem ea.cons(e:wanted ops fr o=aa)(h:mr P (bk fr) o m λv a=>ea P ops l K (set fr o.dst v) a):ea P ops (o::l) K fr m:=by
 obtain⟨n,v,a,d,j,f,i,g,b⟩:=h;refine⟨max n j,f,i,?_,b⟩;simp only[k6];rw[if_pos e];exact⟨v,a,d.mono (wV _ _ (Nat.le_max_left _ _)),BP (wV _ _ (Nat.le_max_right _ _)) _ _ _ _ _ g⟩
theorem mr.pure{a:bS->af}{R:af->Mem->Prop}{v:af}(h:dD P a o v)(b:R v m):mr P a o m R:=⟨0,v,m,.pure h,b⟩
theorem mr.read{a:bS->af}{R:af->Mem->Prop}{v:af}(h:fH P a o m v)(b:R v m):mr P a o m R:=⟨0,v,m,.read h,b⟩
theorem mr.new{a:bS->af}{R:af->Mem->Prop}{v:af}{X:bW}(h:jC P a o m.next X v)(b:R v (m.push X)):mr P a o m R:=⟨0,v,_,.new h,b⟩
theorem mr.fX{b:bS->af}{R:af->Mem->Prop}{v:af}{a:Mem}{n:Nat}(h:hR P (jn P n) b o m v a)(d:R v a):mr P b o m R:=⟨n,v,a,.fX h,d⟩
end
def h2.enter{P:bI}{f:FuncId}{fn:Func}{c:Code}{a:Array af}{m:Mem}{R:af->Mem->Prop}(q:P.funcs[f]?=J fn)(p:qm P fn c)(t:lR P f=aa)(s:a.size<=fn.ntmps)
  (h:W P c (λe k g=>(e=.normal\/e=.ret)/\∃d,q2 P k g fn.results.toList d/\(d.length=1\/∀x∈d,storable x=aa)/\
   (R (pack d) g\/(R (pack d) (g.nf m.next)/\low m.next (pack d)/\∀b,b<m.next->g.blk b=m.blk b\/qe m.next (g.blk b))))
   (λi=>(a++nj (fn.ntmps-a.size) undef).getD i undef) m):h2 P f a m R:=by
 obtain⟨n,e,k,g,w,y,d,l,r,j⟩:=h;rcases j with j|⟨j,A,z⟩
 ·exact⟨n+1,_,_,.inr ⟨fn,c,e,k,g,d,q,p,t,s,w,y,l,rfl,r,.inl rfl⟩,j⟩
 ·exact⟨n+1,_,_,.inr ⟨fn,c,e,k,g,d,q,p,t,s,w,y,l,rfl,r,.inr ⟨rfl,A,z⟩⟩,j⟩
def h2.sort{P:bI}{f:FuncId}{a:Array af}{m m':Mem}{v:af}{R:af->Mem->Prop}(d:lR P f=aa)(h:LB P f a m v m')(b:R v m'):h2 P f a m R:=⟨1,v,m',.inl ⟨d,h⟩,b⟩
def h5(w:World):cj:=λb=>if b<w.heap.size then J ⟨b,0,0,0⟩ else ae
def xt(b:Nat):af->Option af|.slice (J _) 0 0=>J (.slice (J ⟨b,0,ae⟩) 0 0)|_=>ae
open Classical in
noncomputable def ig(w:World):Mem:={next:=w.heap.size,blk:=λb=>if b<w.heap.size then .ro (λi=>match w.cell? ⟨b,i,ae⟩ with|some v=>if eA (h5 w) v v then J v else xt b v|none=>ae) else .dead}
def acp{b:Nat}{v u:af}(h:xt b v=J u):∃a,v=.slice (J a) 0 0/\u=.slice (J ⟨b,0,ae⟩) 0 0:=by
 unfold xt at h
 grind
def w1{w:World}{b:Nat}{e:kl}(h:h5 w b=J e):b<w.heap.size/\e.blk=b:=by
 grind[h5]
def adH{w:World}{b:Nat}{e:kl}(h:h5 w b=J e):e.db=0:=by
 grind[h5]
def arb{w:World}{b i:Nat}{v:af}(h:w.cell? ⟨b,i,ae⟩=J v)(a:eA (h5 w) v v):(ig w).load b i=J v:=by
 have d:b<w.heap.size:=World.block_lt_of_cell? w ⟨b,i,ae⟩ h;simp[Mem.load,ig,d,h,a]
def ad8(w:World):WF (ig w) where
 dead:=λb f=>by have f:w.heap.size<=b:=f;simp[ig,show¬b<w.heap.size by omega]
 low:=λb=>by
  simp only[ig];split
  ·intro i v d;simp only at d;split at d
   ·split at d
    ·rename_i g;cases d;exact(Lf (λb e h=>(w1 h).1)).1 g
    ·obtain⟨a,_,rfl⟩:=acp d;assumption
   ·cases d
  ·exact fs
def arC(P:bI)(w:World)(s:rE P w):Rel P (h5 w) (ig w) w:=by
 refine⟨⟨?_,?_,?_⟩,s,λb e d n=>by obtain⟨g,k⟩:=w1 d;simp[ig,g,bW.iO] at n⟩
 ·intro b e d;obtain⟨g,k⟩:=w1 d;exact⟨g,by rw[k];exact g⟩
 ·intro b e d;obtain⟨g,k⟩:=w1 d;simp only[ig,g,if_true];intro i v h;simp only at h;have l:∀u,w.cell? ⟨b,i,ae⟩=J u->∃(m:Array af)(t:bV)(bZ:Nat×Nat),w.heap[e.blk]?=J (.cells m t bZ)/\m[i]?=J u:=by
   intro u j;rw[k];simp only[World.cell?] at j;split at j
   ·rename_i c t f x;exact⟨c,t,f,x,by simpa using j⟩
   ·cases j
  split at h
  ·rename_i u j;obtain⟨m,t,bZ,p,q⟩:=l u j;split at h
   ·rename_i r;cases h;exact⟨m,t,bZ,_,p,by rw[adH d,lH];exact q,r⟩
   ·obtain⟨a,rfl,rfl⟩:=acp h;exact⟨m,t,bZ,_,p,by rw[adH d,lH];exact q,e,rfl,d,.inr (.inr (.inr (.inl ⟨rfl,rfl,a,rfl⟩)))⟩
  ·cases h
 ·intro b z e y d A n;obtain⟨g,k⟩:=w1 d;simp[ig,g,bW.iO] at n
def aqc{P:bI}(A:P.follows .mixedOrders=aa){f:FuncId}{d:Array af}{w:World}(r:rE P w)(B:∀a∈d.toList,de (h5 w) a a)(h:h2 P f d (ig w) λv _=>v=.bool aa):
  Calls P f d w λe m=>e=.returned (.bool aa)/\RowKit.Below w.heap.size w m:=by
 obtain⟨n,v,z,j,rfl⟩:=h;have t:=(acd A n).2 f d (ig w) _ z j (h5 w) w d (ad8 w) (arC P w r) (by
  have:∀l:List af,(∀a∈l,de (h5 w) a a)->bP (de (h5 w)) l l:=by
   intro l;induction l with
   |nil=>intro _;exact fs
   |cons a l p=>intro h;exact⟨h a (by simp),p λb i=>h b (by simp[i])⟩
  exact this _ B)
 refine t.2.mono ?_;rintro e m ⟨E,F,rfl,g,q⟩;have y:=q.bool;subst y;refine⟨rfl,g.gd.os,g.gd.tape,g.gd.output,g.gd.size,λk x=>g.gd.block k x λb e i s=>?_⟩;obtain⟨j,C⟩:=w1 i;simp[ig,j,bW.iO] at s
end
section
def bW.iD:bW->Prop|.dead|.lock _ _ _ _=>False|_=>True
def bW.mem:bW->bW|.lock _ _ L t=>.own L t|b=>b
def bW.iD.ne{x:bW}(h:x.iD):x≠.dead:=λe=>by rw[e] at h;exact h
def bW.iD.mem{x:bW}(h:x.iD):x.mem=x:=by cases x<;>first|rfl|exact h.elim
def lk(z:Nat->bW)(m:Mem):Prop:=∀b,z b≠.dead->m.blk b=(z b).mem/\b<m.next
def lk.iD{z:Nat->bW}{m:Mem}(h:lk z m){b:Nat}(a:(z b).iD):m.blk b=z b/\b<m.next:=by
 have:=h b a.ne;rw[a.mem] at this
 grind
def fl(z a:Nat->bW):Prop:=∀b,(z b).iD->a b=z b
theorem fl.refl(z:Nat->bW):fl z z:=λ_ _=>rfl
def fl.trans{a b c:Nat->bW}(h:fl a b)(k:fl b c):fl a c:=λx d=>by
 have e:=h x d;rw[k x (by grind),e]
def nH(z:Nat->bW)(b o:Nat):Option af:=match z b with|.ro rd=>rd o|.own L _=>L[o]?|.map _ _=>ae|.lock _ _ _ _=>ae|.dead=>ae
theorem w5{z:Nat->bW}{b o:Nat}{v:af}(h:nH z b o=J v):(z b).iD:=by
 unfold nH at h;cases a:z b with
 |dead=>grind
 |lock _ _ _ _=>grind
 |_=>exact fs
def ar3{z a:Nat->bW}(h:fl z a){b o:Nat}{v:af}(d:nH z b o=J v):nH a b o=J v:=by
 have:=h b (w5 d)
 grind[nH]
def KO{z:Nat->bW}{m:Mem}(h:lk z m){b o:Nat}{v:af}(a:nH z b o=J v):m.load b o=J v:=by
 have:=(h b (w5 a).ne).1;rw[(w5 a).mem] at this
 grind[nH,Mem.load]
structure cM(aK:Type) where
 bM:Nat
 tid:bV
 rd:(Nat->bW)->aK->List af->Prop
 len:∀z x cs,rd z x cs->cs.length=bM
 mono:∀z z',fl z z'->∀x cs,rd z x cs->rd z' x cs
 one:∀z x cs,rd z x cs->∀c∈cs,storable c=aa/\c.cells=#[c]
def o2(z:Nat->bW)(b o:Nat)(a:List af):Prop:=∀(i:Nat)(u:af),a[i]?=J u->nH z b (o+i)=J u
def ql(L:List af)(o:Nat)(a:List af):Prop:=∀(i:Nat)(u:af),a[i]?=J u->L[o+i]?=J u
def fA{e:Type}(T:cM e)(z:Nat->bW)(d:List e)(v:af):Prop:=
 (v=.slice ae 0 0/\d=[])\/
 ∃b a c,v=.slice (J ⟨b,a,ae⟩) d.length c/\(z b).iD/\((c=dc/\∃L,z b=.own L T.tid/\a+d.length*T.bM<=L.length)\/(c<dc/\d.length<=c))/\
  ∀(i:Nat)(x:e),d[i]?=J x->∃f,T.rd z x f/\o2 z b (a+i*T.bM) f
def Kp{z d:Nat->bW}(h:fl z d){b o:Nat}{a:List af}(e:o2 z b o a):o2 d b o a:=λi u f=>ar3 h (e i u f)
def fA.mono{g:Type}{T:cM g}{z f:Nat->bW}(h:fl z f){l:List g}{v:af}(d:fA T z l v):fA T f l v:=by
 rcases d with d|⟨b,e,c,s,j,a,n⟩
 ·exact .inl d
 ·refine .inr ⟨b,e,c,s,by rw[h b j];grind,?_,λi x m=>?_⟩
  ·rcases a with⟨a,L,t,p⟩|a
   ·exact .inl ⟨a,L,by rw[h b j];grind,p⟩
   grind
  ·obtain⟨k,q,r⟩:=n i x m;exact⟨k,T.mono z f h x k q,Kp h r⟩
def fA.nil{a:Type}{T:cM a}{z:Nat->bW}:fA T z [] (.slice ae 0 0):=.inl ⟨rfl,rfl⟩
def fA.len{d:Type}{T:cM d}{z:Nat->bW}{e:List d}{v:af}(h:fA T z e v):∃a c,v=.slice a e.length c:=by
 rcases h with⟨rfl,rfl⟩|⟨b,f,c,rfl,_⟩
 ·simp_all
 grind
def da:af->Option Nat|.slice (J a) _ _=>J a.block|.pointer (J a)=>J a.block|_=>ae
def fO{d:Type}(T:cM d)(z:Nat->bW)(m:Mem)(a:List d)(v:af):Prop:=
 (v=.slice ae 0 0/\a=[])\/
 ∃b o L c,v=.slice (J ⟨b,o,ae⟩) a.length c/\m.blk b=.own L T.tid/\b<m.next/\z b=.dead/\o+a.length*T.bM<=L.length/\(c=dc\/(c<dc/\a.length<=c/\o+c*T.bM<=L.length))/\
  ∀(i:Nat)(x:d),a[i]?=J x->∃e,T.rd z x e/\ql L (o+i*T.bM) e
def fO.AW{d:Type}{T:cM d}{z:Nat->bW}{m:Mem}{a:List d}{v:af} (h:∃b L c,v=.slice (J ⟨b,0,ae⟩) a.length c/\m.blk b=.own L T.tid/\b<m.next/\z b=.dead/\a.length*T.bM<=L.length/\(c=dc\/(c<dc/\a.length<=c/\c*T.bM<=L.length))/\
  ∀(i:Nat)(x:d),a[i]?=J x->∃e,T.rd z x e/\ql L (i*T.bM) e):fO T z m a v:=by
 obtain⟨b,L,c,k,g,f,j,n,p,q⟩:=h;exact .inr ⟨b,0,L,c,k,g,f,j,by grind,by grind,λi x l=>by grind⟩
def fO.nil{a:Type}{T:cM a}{z:Nat->bW}{m:Mem}:fO T z m [] (.slice ae 0 0):=.inl ⟨rfl,rfl⟩
def fO.frame{d:Type}{T:cM d}{z:Nat->bW}{m a:Mem}{e:List d}{v:af}(h:fO T z m e v)(i:∀b,da v=J b->b<m.next->a.blk b=m.blk b/\b<a.next):fO T z a e v:=by
 rcases h with h|⟨b,o,L,c,rfl,q,g,f,j,k,l⟩
 ·exact .inl h
 ·obtain⟨p,n⟩:=i b rfl g;exact .inr ⟨b,o,L,c,rfl,by grind,n,f,j,k,l⟩
def fO.lt{d:Type}{T:cM d}{z:Nat->bW}{m:Mem}{e:List d}{v:af}(h:fO T z m e v):∀b,da v=J b->b<m.next/\z b=.dead:=by
 rcases h with⟨rfl,_⟩|⟨b,o,L,c,rfl,j,g,f,_⟩
 ·intro b a;cases a
 ·intro i a;cases a;grind
def fO.len{d:Type}{T:cM d}{z:Nat->bW}{m:Mem}{e:List d}{v:af}(h:fO T z m e v):∃a c,v=.slice a e.length c:=by
 rcases h with⟨rfl,rfl⟩|⟨b,o,L,c,rfl,_⟩
 ·simp_all
 grind
def jT(z:Nat->bW)(m:Mem)(p:Option Nat):Nat->bW:=λb=>if p=J b then m.blk b else z b
def Cj{z:Nat->bW}{m:Mem}{p:Option Nat}(h:∀b,p=J b->z b=.dead):fl z (jT z m p):=by
 intro b a;unfold jT;split
 ·exact absurd (h b ‹_›) a.ne
 rfl
def Lj{z:Nat->bW}{m:Mem}{p:Option Nat}(h:lk z m)(d:∀b,p=J b->b<m.next/\(m.blk b).mem=m.blk b):lk (jT z m p) m:=by
 intro b a;unfold jT at a⊢;split at a
 ·grind
 ·rw[if_neg ‹_›];exact h b a
def fO.awh{e:Type}{T:cM e}{z:Nat->bW}{m:Mem}{a:List e}{v:af}(h:fO T z m a v):fA T (jT z m (da v)) a v:=by
 rcases h with h|⟨b,o,L,c,rfl,B,t,s,w,y,n⟩
 ·exact .inl h
 ·have f:jT z m (da (.slice (J ⟨b,o,ae⟩) a.length c)) b=.own L T.tid:=by grind[jT,da]
  have d:fl z (jT z m (da (.slice (J ⟨b,o,ae⟩) a.length c))):=Cj λA l=>by cases l;grind
  refine .inr ⟨b,o,c,rfl,by rw[f];exact fs,?_,λi x j=>?_⟩
  ·grind
  ·obtain⟨g,p,q⟩:=n i x j;refine⟨g,T.mono _ _ d x g p,λk u r=>?_⟩;simp only[nH,f];exact q k u r
def e6(p q:Option Nat):Prop:=∀b,p=J b->q≠J b
def e6.symm{p q:Option Nat}(h:e6 p q):e6 q p:=λb d a=>h b a d
def e6.qg{q:Option Nat}:e6 q Option.none:=λ_ _ h=>by grind
structure dL(z:Nat->bW)(e m:Mem)(k:Option Nat):Prop where
 bZ:lk z m
 dead:∀b,m.next<=b->m.blk b=.dead
 oL:∀b,e.next<=b->e.blk b=.dead
 next:e.next<=m.next
 kept:∀b,b<e.next->k≠J b->m.blk b=e.blk b
def dL.start{z:Nat->bW}{m:Mem}{k:Option Nat}(h:lk z m)(a:∀b,m.next<=b->m.blk b=.dead):dL z m m k:=⟨h,a,a,e4 _,λ_ _ _=>rfl⟩
def dL.push{z:Nat->bW}{e m:Mem}{k:Option Nat}(h:dL z e m k)(x:bW):dL z e (m.push x) k:=by
 refine⟨λb a=>?_,λb a=>?_,h.oL,Nat.le_succ_of_le h.next,λb a d=>?_⟩
 ·have:=h.bZ b a
  grind[Mem.push]
 ·simp only[Mem.push] at a⊢;rw[if_neg (by omega)];exact h.dead b (by omega)
 ·simp only[Mem.push];have:=h.next;rw[if_neg (by omega)];exact h.kept b a d
def dL.put{z:Nat->bW}{e m:Mem}{k:Option Nat}(h:dL z e m k){b:Nat}(x:bW)(g:z b=.dead)(i:b<m.next)(f:e.next<=b\/k=J b):dL z e (m.put b x) k:=by
 refine⟨λc a=>?_,λc a=>?_,h.oL,h.next,λc a d=>?_⟩
 ·have:=h.bZ c a
  grind[Mem.put]
 ·have a:m.next<=c:=a;simp only[Mem.put];rw[if_neg (by omega)];exact h.dead c a
 ·simp only[Mem.put];rw[if_neg ?_]
  ·exact h.kept c a d
  grind
structure gl(m m':Mem)(k:Option Nat):Prop where
 next:m.next<=m'.next
 dead:∀b,m'.next<=b->m'.blk b=.dead
 blk:∀b,b<m.next->k≠J b->m'.blk b=m.blk b
def dL.same{z:Nat->bW}{e m m':Mem}{k q:Option Nat}(h:dL z e m k)(s:gl m m' q)(f:∀b,q=J b->z b=.dead/\(e.next<=b\/k=J b)):dL z e m' k:=by
 refine⟨λb a=>?_,s.dead,h.oL,jd h.next s.next,λb a g=>?_⟩
 ·have:=h.bZ b a;refine⟨?_,hS this.2 s.next⟩;rw[s.blk b this.2 (λd=>a (f b d).1)]
  grind
 ·rw[s.blk b (hS a h.next) (λd=>?_)]
  ·exact h.kept b a g
  grind
def dL.awi{z:Nat->bW}{e m:Mem}(h:dL z e m ae):m.nf e.next=e:=by
 have:(m.nf e.next).blk=e.blk:=by
  funext b;simp only[Mem.nf];split
  ·exact h.kept b ‹_› (by simp)
  ·exact(h.oL b (by omega)).symm
 simp_all[Mem.nf]
def cM.flat{b:Type}(t:bV)(f:b->af)(g:∀x,dy (f x)=aa):cM b where
 bM:=1
 tid:=t
 rd:=λ_ x d=>d=[f x]
 len:=λ_ _ _ h=>by rw[h];rfl
 mono:=λ_ _ _ _ _ h=>h
 one:=λ_ x d h c a=>by rw[h] at a;simp only[IM] at a;subst a;have:=g x;cases e:f x<;>simp[e,dy] at this<;>first|exact⟨rfl,rfl⟩|exact⟨by simp[storable,this],rfl⟩
def str(s:List UInt8):af:=.string ⟨s.toArray⟩
def I4(t:bV)(k:aG):cM Int:=cM.flat t (λn=>.int k n) λ_=>rfl
def Cn(t:bV):cM Bool:=cM.flat t (λn=>.bool n) λ_=>rfl
def I5(t:bV):cM (List UInt8):=cM.flat t str λ_=>rfl
def TV{d:Type}(t:bV)(T:cM d):cM (List d) where
 bM:=1
 tid:=t
 rd:=λz j f=>∃v,f=[v]/\fA T z j v
 len:=λ_ _ _ h=>by obtain⟨v,rfl,_⟩:=h;rfl
 mono:=λ_ _ h _ _ g=>by obtain⟨v,i,b⟩:=g;exact⟨v,i,b.mono h⟩
 one:=λ_ _ f h c e=>by obtain⟨v,rfl,b⟩:=h;simp only[IM] at e;subst e;obtain⟨a,n,rfl⟩:=b.len;exact⟨rfl,rfl⟩
end
section
section
variable {P:bI}{ap:bS->af}{o:Oper}
def tF{x y:bS}(h:o.op.operands=#[x,y]){v:af}(e:∀f b,o.op≠.select f b)(i:flat (ap x)=aa)(g:flat (ap y)=aa)(a:flat v=aa)(d:∀w,(execOp ap o).run P w=.ok (.value v) w):dD P ap o v:=by
 refine .flat v e (λz j=>?_) a d
 grind
def Li{x:bS}(h:o.op.operands=#[x]){v:af}(e:∀f b,o.op≠.select f b)(g:flat (ap x)=aa)(a:flat v=aa)(d:∀w,(execOp ap o).run P w=.ok (.value v) w):dD P ap o v:=by
 refine .flat v e (λz i=>?_) a d
 grind
def auR{x:bS}{v:af}(h:o.op=.move x)(a:ap x=v):dD P ap o v:=a▸ .move x (.inl h)
def asF{x:bS}{v:af}(h:o.op=.assign x)(a:ap x=v):dD P ap o v:=a▸ .move x (.inr h)
def aeH{c a b:bS}{t:Bool}{v:af}(h:o.op=.pick c a b)(e:ap c=.bool t)(d:(if t then ap a else ap b)=v):dD P ap o v:=d▸ .pick c a b t h e
def adm{x:bS}{i:Nat}{a:List af}{v:af}(h:o.op=.extract x i)(d:ap x=.tuple a.toArray)(b:a[i]?=J v):dD P ap o v:=.extract x i _ v h d (by simpa using b)
section
variable {x y:bS}{t u:bV}{k:aG}{a b:Int}
def om{d:BinOp}(h:o.op=.binOp d t x y u)(g:ap x=.int k a)(f:ap y=.int k b){v:af}(i:∀w,(binOp d t (.int k a) (.int k b)).run P w=.ok v w)(e:flat v=aa):dD P ap o v:=by
 refine tF (x:=x) (y:=y) (by rw[h];rfl) (by grind) (by rw[g];rfl) (by rw[f];rfl) e λw=>?_;simp_all[eqGuard,execOp]
def oj{d:BinOp}(f:d≠.shl)(e:d≠.shr)(w:World):(binOp d t (.int k a) (.int k b)).run P w=(match d with
   |.add|.sub|.mul=>Op.intArith d k a b
   |.quo|.rem=>Op.intDiv d k a b
   |.and|.or|.xor|.andNot=>Op.intBits d k a b
   |_=>Op.intCmp d a b).run P w:=by
 cases d<;>first|exact absurd rfl f|exact absurd rfl e|grind[binOp]
def apO(h:o.op=.binOp .add t x y u)(e:ap x=.int k a)(d:ap y=.int k b):dD P ap o (.int k (k.wrap (a+b))):=om h e d (λw=>by rw[oj (by simp) (by simp)];rfl) rfl
def apZ(h:o.op=.binOp .sub t x y u)(e:ap x=.int k a)(d:ap y=.int k b):dD P ap o (.int k (k.wrap (a-b))):=om h e d (λw=>by rw[oj (by simp) (by simp)];rfl) rfl
def apU(h:o.op=.binOp .mul t x y u)(e:ap x=.int k a)(d:ap y=.int k b):dD P ap o (.int k (k.wrap (a*b))):=om h e d (λw=>by rw[oj (by simp) (by simp)];rfl) rfl
def abP(h:o.op=.binOp .quo t x y u)(e:ap x=.int k a)(d:ap y=.int k b)(f:b≠0):dD P ap o (.int k (k.wrap (a.tdiv b))):=om h e d (λw=>by rw[oj (by simp) (by simp)];simp[Op.intDiv,f]) rfl
def abQ(h:o.op=.binOp .rem t x y u)(e:ap x=.int k a)(d:ap y=.int k b)(f:b≠0):dD P ap o (.int k (a.tmod b)):=om h e d (λw=>by rw[oj (by simp) (by simp)];simp[Op.intDiv,f]) rfl
def ih(d:BinOp)(k:aG)(x y:Int):Int:=
 let a:=qC k.bits x
 let b:=qC k.bits y
 match d with
 |.and=>k.wrap (a&&&b).toNat
 |.or=>k.wrap (a|||b).toNat
 |.xor=>k.wrap (a ^^^ b).toNat
 |_=>k.wrap (a&&&~~~b).toNat
def apP(h:o.op=.binOp .and t x y u)(e:ap x=.int k a)(d:ap y=.int k b):dD P ap o (.int k (ih .and k a b)):=om h e d (λw=>by rw[oj (by simp) (by simp)];rfl) rfl
def apY(h:o.op=.binOp .or t x y u)(e:ap x=.int k a)(d:ap y=.int k b):dD P ap o (.int k (ih .or k a b)):=om h e d (λw=>by rw[oj (by simp) (by simp)];rfl) rfl
def ap0(h:o.op=.binOp .xor t x y u)(e:ap x=.int k a)(d:ap y=.int k b):dD P ap o (.int k (ih .xor k a b)):=om h e d (λw=>by rw[oj (by simp) (by simp)];rfl) rfl
def asE(h:o.op=.binOp .andNot t x y u)(e:ap x=.int k a)(d:ap y=.int k b):dD P ap o (.int k (ih .andNot k a b)):=om h e d (λw=>by rw[oj (by simp) (by simp)];rfl) rfl
def abO(h:o.op=.binOp .eql t x y u)(e:ap x=.int k a)(d:ap y=.int k b):dD P ap o (.bool (a==b)):=om h e d (λw=>by rw[oj (by simp) (by simp)];rfl) rfl
def apW(h:o.op=.binOp .neq t x y u)(e:ap x=.int k a)(d:ap y=.int k b):dD P ap o (.bool (a !=b)):=om h e d (λw=>by rw[oj (by simp) (by simp)];rfl) rfl
def apT(h:o.op=.binOp .lss t x y u)(e:ap x=.int k a)(d:ap y=.int k b):dD P ap o (.bool (decide (a<b))):=om h e d (λw=>by rw[oj (by simp) (by simp)];rfl) rfl
def apS(h:o.op=.binOp .leq t x y u)(e:ap x=.int k a)(d:ap y=.int k b):dD P ap o (.bool (decide (a<=b))):=om h e d (λw=>by rw[oj (by simp) (by simp)];rfl) rfl
def apR(h:o.op=.binOp .gtr t x y u)(e:ap x=.int k a)(d:ap y=.int k b):dD P ap o (.bool (decide (b<a))):=om h e d (λw=>by rw[oj (by simp) (by simp)];rfl) rfl
def apQ(h:o.op=.binOp .geq t x y u)(e:ap x=.int k a)(d:ap y=.int k b):dD P ap o (.bool (decide (b<=a))):=om h e d (λw=>by rw[oj (by simp) (by simp)];rfl) rfl
def atf{op:BinOp}{e:aG}(h:o.op=.binOp op t x y u)(f:ap x=.int k a)(d:ap y=.int e b)(j:0<=b)(i:op=.shl\/op=.shr):
  dD P ap o (.int k (if op=.shl then k.wrap (a*2 ^ (min b.toNat k.bits)) else a.fdiv (2 ^ (min b.toNat k.bits)))):=by
 refine tF (x:=x) (y:=y) (by rw[h];rfl) (by grind) (by rw[f];rfl) (by rw[d];rfl) rfl λw=>?_;have g:¬b<0:=by omega
 rcases i with rfl|rfl
 ·simp[execOp,h,f,d,eqGuard,binOp,Op.shift,g]
 ·simp[execOp,h,f,d,eqGuard,binOp,Op.shift,g]
def apX{b:Bool}(h:o.op=.unOp .not t x)(a:ap x=.bool b):dD P ap o (.bool (!b)):=
 Li (x:=x) (by rw[h];rfl) (by grind) (by rw[a];rfl) rfl λw=>by simp only[execOp,h,a];rfl
def apV(h:o.op=.unOp .neg t x)(b:ap x=.int k a):dD P ap o (.int k (k.wrap (0-a))):=
 Li (x:=x) (by rw[h];rfl) (by grind) (by rw[b];rfl) rfl λw=>by simp only[execOp,h,b];rfl
def avt{d:TypeDesc}{b:aG}(h:o.op=.convert t u x)(f:P.underlying t=J d)(g:P.underlying u=J (.int b))(e:ap x=.int k a):dD P ap o (.int b (b.wrap a)):=
 Li (x:=x) (by rw[h];rfl) (by grind) (by rw[e];rfl) rfl λw=>by simp_all[execOp,convert,fw,Conv.intToInt]
def auP{f:Array bV}(h:o.op=.call {callee:=.builtin .max,args:=#[x,y],argTypes:=f})(e:ap x=.int k a)(d:ap y=.int k b):dD P ap o (.int k (max a b)):=by
 refine tF (x:=x) (y:=y) (by rw[h];rfl) (by grind) (by rw[e];rfl) (by rw[d];rfl) rfl λw=>?_;have:(mu k (if b>a then b else a))=.int k (max a b):=by grind
 simp_all[execOp,resolve,invoke,builtin,Builtin.max_,Builtin.max2]
def auQ{f:Array bV}(h:o.op=.call {callee:=.builtin .min,args:=#[x,y],argTypes:=f})(e:ap x=.int k a)(d:ap y=.int k b):dD P ap o (.int k (min a b)):=by
 refine tF (x:=x) (y:=y) (by rw[h];rfl) (by grind) (by rw[e];rfl) (by rw[d];rfl) rfl λw=>?_;have:(mu k (if b<a then b else a))=.int k (min a b):=by grind
 simp_all[execOp,resolve,invoke,builtin,Builtin.min_,Builtin.min2]
end
section
variable {x y:bS}{t u:bV}{s r:List UInt8}
theorem BV:(⟨s.toArray⟩:ByteArray).size=s.length:=by rfl
def auM{d:Array bV}(h:o.op=.call {callee:=.builtin .len,args:=#[x],argTypes:=d})(a:d[0]?=J t)(e:P.underlying t=J .string)(b:ap x=str s):dD P ap o (.int .i64 s.length):=
 Li (x:=x) (by rw[h];rfl) (by grind) (by rw[b];rfl) rfl λw=>by simp[execOp,h,b,resolve,invoke,builtin,Builtin.len_,a,str,fw e,goInt,BV]
def asG{k:aG}{n:Int}{c:UInt8}(h:o.op=.index t x y)(e:P.underlying t=J .string)(d:ap x=str s)(b:ap y=.int k n)(g:0<=n)(a:s[n.toNat]?=J c):dD P ap o (.int .u8 c.toNat):=by
 refine tF (x:=x) (y:=y) (by rw[h];rfl) (by grind) (by rw[d];rfl) (by rw[b];rfl) rfl λw=>?_;have i:(⟨s.toArray⟩:ByteArray)[n.toNat]?=J c:=by have j:=(fq.1 a).1;have f:=(fq.1 a).2;rw[getElem?_pos (h:=by grind[BV])];congr 1
 simp_all[execOp,Instr.index,asIntOf,fw,str]
def aql(i k:Nat):(⟨s.toArray⟩:ByteArray).extract i k=⟨((s.take k).drop i).toArray⟩:=by
 have:((⟨s.toArray⟩:ByteArray).extract i k).data=((s.take k).drop i).toArray:=by
  grind[ByteArray.data_extract]
 cases a:(⟨s.toArray⟩:ByteArray).extract i k
 grind
def asH{i e:Option bS}{a b:Nat}(h:o.op=.slice t x i e ae)(n:P.underlying t=J .string)(g:ap x=str s)(l:qo ap i a)(j:nJ ap e s.length b)
  (B:a<=b) (A:b<=s.length):dD P ap o (str ((s.take b).drop a)):=by
 refine .flat _ (by grind) (λz d=>?_) rfl λw=>?_
 ·rw[h] at d;cases i with
  |none=>cases e with
   |none=>simp[dm] at d;subst d;rw[g];rfl
   |some y=>
    obtain⟨k,f⟩:=j;simp[dm] at d;rcases d with rfl|rfl
    ·rw[g];rfl
    ·rw[f];rfl
  |some q=>
   obtain⟨p,m⟩:=l;cases e with
   |none=>
    simp[dm] at d;rcases d with rfl|rfl
    ·rw[g];rfl
    ·rw[m];rfl
   |some y=>
    obtain⟨k,f⟩:=j;simp[dm] at d;rcases d with rfl|rfl|rfl
    ·rw[g];rfl
    ·rw[m];rfl
    ·rw[f];rfl
 ·have r:(jc ak s.length s.length (i.map ap) (e.map ap) ae).run P w=.ok (a,b,s.length) w:=by
   cases i with
   |none=>
    simp only[qo] at l;subst l;cases e with
    |none=>simp_all[nJ,jc]
    |some y=>obtain⟨k,f⟩:=j;simp_all[jc,mL,asIntOf]
   |some q=>
    obtain⟨p,m⟩:=l;cases e with
    |none=>simp only[nJ] at j;simp_all[jc,mL,asIntOf]
    |some y=>obtain⟨k,f⟩:=j;simp_all[jc,mL,asIntOf]
  simp only[execOp,h,Instr.sliceAt,kD,fw n,jE,Option.map_none,Instr.slice,g,str,Option.isSome_none,Bool.false_eq_true,if_false,nt,BV,r,aql]
def w7{a:BinOp}(h:o.op=.binOp a t x y u)(e:ap x=str s)(d:ap y=str r)(f:a≠.shl/\a≠.shr){v:af}(g:∀w,(vS a ⟨s.toArray⟩ ⟨r.toArray⟩).run P w=.ok v w)(b:flat v=aa):dD P ap o v:=by
 refine tF (x:=x) (y:=y) (by rw[h];rfl) (by grind) (by rw[e];rfl) (by rw[d];rfl) b λw=>?_;simp_all[eqGuard,str,binOp,execOp]
def vr(s r:List UInt8):Bool:=Op.bytesLess s r
def P6(l:List UInt8):(⟨l.toArray⟩:ByteArray).toList=l:=by simp_all
def avv(h:o.op=.binOp .eql t x y u)(b:ap x=str s)(a:ap y=str r):dD P ap o (.bool (s==r)):=w7 h b a (by simp) (λw=>by simp_all[vS]) rfl
def auT(h:o.op=.binOp .neq t x y u)(b:ap x=str s)(a:ap y=str r):dD P ap o (.bool (!(s==r))):=w7 h b a (by simp) (λw=>by simp_all[vS]) rfl
def auO(h:o.op=.binOp .lss t x y u)(b:ap x=str s)(a:ap y=str r):dD P ap o (.bool (vr s r)):=w7 h b a (by simp) (λw=>by simp only[vS,P6];rfl) rfl
def auN(h:o.op=.binOp .leq t x y u)(b:ap x=str s)(a:ap y=str r):dD P ap o (.bool (vr s r||(s==r))):=w7 h b a (by simp) (λw=>by simp only[vS,P6];rfl) rfl
def auJ(h:o.op=.binOp .gtr t x y u)(b:ap x=str s)(a:ap y=str r):dD P ap o (.bool (!(vr s r||(s==r)))):=w7 h b a (by simp) (λw=>by simp only[vS,P6];rfl) rfl
def auI(h:o.op=.binOp .geq t x y u)(b:ap x=str s)(a:ap y=str r):dD P ap o (.bool (!vr s r)):=w7 h b a (by simp) (λw=>by simp only[vS,P6];rfl) rfl
def asO:(⟨s.toArray⟩:ByteArray)++(⟨r.toArray⟩:ByteArray)=⟨(s++r).toArray⟩:=by
 rfl
def avs(h:o.op=.binOp .add t x y u)(d:ap x=str s)(b:ap y=str r)(a:s.length+r.length<=9223372036854775807):dD P ap o (str (s++r)):=w7 h d b (by simp) (λw=>by
 simp only[vS,BV,vP.2 a];rw[if_neg (by show¬_>(9223372036854775807:Int);omega),asO];rfl) rfl
def acI{e:BinOp}{a b:Bool}(h:o.op=.binOp e t x y u)(g:P.underlying t=J .bool)(j:ap x=.bool a)(i:ap y=.bool b)(f:e=.eql\/e=.neq):dD P ap o (.bool (if e=.eql then a==b else !(a==b))):=by
 refine tF (x:=x) (y:=y) (by rw[h];rfl) (by grind) (by rw[j];rfl) (by rw[i];rfl) rfl λw=>?_;have n:(Op.equal t (.bool a) (.bool b)).run P w=.ok (a==b) w:=by
  have k:∀d:Nat,(Op.equalIn (d+1) t (.bool a) (.bool b)).run P w=.ok (a==b) w:=λd=>by simp only[Op.equalIn,kD,fw g,jE,nt]
  exact k 9999
 have m:(eqGuard e t x y (.bool a) (.bool b)).run P w=.ok () w:=by rcases f with rfl|rfl<;>rfl
 have l:(binOp e t (.bool a) (.bool b)).run P w=.ok (.bool (if e=.eql then a==b else !(a==b))) w:=by
  rcases f with rfl|rfl
  ·show(do pure (af.bool (<-Op.equal t (.bool a) (.bool b))):Sem af).run P w=_;simp_all
  ·show(do pure (af.bool (!(<-Op.equal t (.bool a) (.bool b)))):Sem af).run P w=_;simp_all
 grind[execOp,kD,jE,nt]
def avu{a b:Bool}(h:o.op=.binOp .eql t x y u)(d:P.underlying t=J .bool)(f:ap x=.bool a)(e:ap y=.bool b):dD P ap o (.bool (a==b)):=acI h d f e (.inl rfl)
def auS{a b:Bool}(h:o.op=.binOp .neq t x y u)(d:P.underlying t=J .bool)(f:ap x=.bool a)(e:ap y=.bool b):dD P ap o (.bool (!(a==b))):=acI h d f e (.inr rfl)
end
end
end
section
def al{a:Type}(b:List a)(i:Int):Option a:=if 0<=i then b[i.toNat]? else ae
def o3{b:Type}{a:List b}{i:Int}{x:b}(h:al a i=J x):0<=i/\i<a.length/\a[i.toNat]?=J x:=by
 grind[al]
def nT(z:Nat->bW)(p:af)(a:List af):Prop:=∃b o,p=.pointer (J ⟨b,o,ae⟩)/\o2 z b o a
def Yz(m:Mem)(p:af)(a:List af):Prop:=∃b o,p=.pointer (J ⟨b,o,ae⟩)/\∀(i:Nat)(u:af),a[i]?=J u->m.load b (o+i)=J u
section
variable {P:bI}{ap:bS->af}{o:Oper}{aK:Type}{T:cM aK}{z:Nat->bW}{m:Mem}{xs:List aK}{v:af}{x y:bS}{t e u:bV}{i:TypeInfo}{d:TypeDesc}
theorem Cc{b:Nat}:∀(n a:Nat)(d:List af),d.length=n->(∀(i:Nat)(u:af),d[i]?=J u->m.load b (a+i)=J u)->kd m b a n=J d
 |0,a,d,e,_=>by rw[yl e];rfl
 |n+1,a,c::d,e,h=>by
  have j:=h 0 c (by rfl);have f:=Cc n (a+1) d (by grind) λi u g=>by have:=h (i+1) u (by grind);rw[show a+1+i=a+(i+1) by omega];omega
  grind[kd]
 |n+1,a,[],e,_=>by grind
def auL{k:aG}{n:Int}{a:aK}(h:o.op=.indexAddr t x y)(g:P.underlying t=J (.slice e))(q:P.info? e=J i)(E:i.size=T.bM)(m:ap x=v)(j:ap y=.int k n)(s:fA T z xs v)(A:al xs n=J a):
  ∃p d,dD P ap o p/\T.rd z a d/\nT z p d:=by
 obtain⟨r,C,l⟩:=o3 A;rcases s with⟨_,rfl⟩|⟨b,f,c,rfl,_,_,w⟩
 ·grind
 ·obtain⟨d,B,F⟩:=w _ a l;exact⟨_,d,.indexAddr t x y e i b f _ c k n h g q m j r C,B,b,_,rfl,by grind⟩
def agq(s:Nat)(v:af)(n:Nat)(p:af):Prop:=∃b a l c,v=.slice (J ⟨b,a,ae⟩) l c/\p=.pointer (J ⟨b,a+n*s,ae⟩)
def auK{k:aG}{n:Int}{a:aK}(h:o.op=.indexAddr t x y)(g:P.underlying t=J (.slice e))(w:P.info? e=J i)(H:i.size=T.bM)(r:ap x=v)(l:ap y=.int k n)(B:fO T z m xs v)(F:al xs n=J a):
  ∃p d,dD P ap o p/\T.rd z a d/\Yz m p d/\agq T.bM v n.toNat p:=by
 obtain⟨A,M,q⟩:=o3 F;rcases B with⟨_,rfl⟩|⟨b,f,L,c,rfl,s,_,_,N,_,E⟩
 ·grind
 ·obtain⟨d,I,K⟩:=E _ a q;refine⟨_,d,.indexAddr t x y e i b f _ c k n h g w r l A M,I,⟨b,_,rfl,λj u C=>?_⟩,⟨b,f,_,c,rfl,by grind⟩⟩;simp only[Mem.load,s,H];exact K j u C
def gi{d:Type}(e:List d)(a b:Int):Option (List d):=if 0<=a/\a<=b/\b<=e.length then J ((e.take b.toNat).drop a.toNat) else ae
def Ws{d:List aK}{a b:Int}{r:List aK}(h:gi d a b=J r):0<=a/\a<=b/\b<=d.length/\r=(d.take b.toNat).drop a.toNat:=by
 grind[gi]
def y5(a:bS->af)(b:Option bS)(n:Int):Prop:=match b with|none=>n=0|some y=>∃k,a y=.int k n
def zK(a:bS->af)(b:Option bS)(l:Nat)(n:Int):Prop:=match b with|none=>n=l|some y=>∃k,a y=.int k n
def K4{b:bS->af}{a:Option bS}{n:Nat}(h:y5 b a n):qo b a n:=by
 cases a with
 |none=>grind[y5,qo]
 |some y=>exact h
def KM{b:bS->af}{a:Option bS}{l n:Nat}(h:zK b a l n):nJ b a l n:=by
 cases a with
 |none=>grind[zK,nJ]
 |some y=>exact h
def WU{d:List aK}{a b k:Nat}{r:aK}(h:((d.take b).drop a)[k]?=J r):d[a+k]?=J r:=by
 grind
def aet{P:bI}{C:FuncId->Array af->Mem->af->Mem->Prop}{b a:Nat}{L d:List af}(h:o.op=.store t x y)(j:P.info? t=J i)(g:ap x=.pointer (J ⟨b,a,ae⟩))(k:m.blk b=.own L e)(f:storable (ap y)=aa)(l:(ap y).cells.toList=d)(p:d.length=i.size)(n:a+d.length<=L.length):
  hR P C ap o m undef (m.put b (.own (eY L a d) e)):=by
 subst l;exact .store t x y b a i L e h g j k f (by grind) (by grind)
def zm{b:Nat}{x:bW}(e:∀b,m.next<=b->m.blk b=.dead)(d:b<m.next):gl m (m.put b x) (J b):=by
 refine⟨e4 _,λc a=>?_,λc a f=>?_⟩
 ·grind[Mem.put]
 grind[Mem.put]
def BN{x:bW}(d:∀b,m.next<=b->m.blk b=.dead):gl m (m.push x) ae:=by
 refine⟨mo _,λc a=>?_,λc a _=>?_⟩
 ·grind[Mem.push]
 grind[Mem.push]
def fO.same{m':Mem}{q:Option Nat}(h:fO T z m xs v)(s:gl m m' q)(f:e6 (da v) q):fO T z m' xs v:=
 h.frame λb d a=>⟨s.blk b a (λe=>f b d e),hS a s.next⟩
def arQ{a:Mem}{q:Option Nat}{b:Nat}{X:bW}(h:m.blk b=X)(d:b<m.next)(s:gl m a q)(e:q≠J b):a.blk b=X/\b<a.next:=⟨by rw[s.blk b d e];exact h,hS d s.next⟩
def fO.store{n:Nat}{a r:aK}{i e:List af}{f:Nat}{new:List af}{b d l c:Nat}(Q:fO T z m xs v)(R:∀b,m.next<=b->m.blk b=.dead)(H:v=.slice (J ⟨b,d,ae⟩) l c)(S:xs[n]?=J a)(I:T.rd z a i)(O:Yz m (.pointer (J ⟨b,d+n*T.bM,ae⟩)) i)(C:T.rd z r e)(X:e=eY i f new)(P:f+new.length<=i.length):
  ∃L,m.blk b=.own L T.tid/\d+n*T.bM+f+new.length<=L.length/\fO T z (m.put b (.own (eY L (d+n*T.bM+f) new) T.tid)) (xs.set n r) v/\gl m (m.put b (.own (eY L (d+n*T.bM+f) new) T.tid)) (J b):=by
 rcases Q with⟨rfl,_⟩|⟨dJ,f1,L,c3,E,M,y,U,aR,kJ,Y⟩
 ·grind
 ·subst H;simp only[af.slice.injEq,kB.injEq,Addr.mk.injEq,and_true] at E;obtain⟨⟨rfl,rfl⟩,rfl,rfl⟩:=E;have x:n<xs.length:=(fq.1 S).1;have B:=T.len z a i I;have K:=T.len z r e C;have uT:d+n*T.bM+T.bM<=L.length:=by
   have:(n+1)*T.bM<=xs.length*T.bM:=oH _ x
   grind
  have dE:(eY L (d+n*T.bM+f) new).length=L.length:=mB _ _ _;refine⟨L,M,by omega,.inr ⟨b,d,eY L (d+n*T.bM+f) new,c,by simp,by simp[Mem.put],y,U,by grind,by grind,λk w j=>?_⟩,zm R y⟩;rw[List.getElem?_set] at j;by_cases p:n=k
  ·subst p;simp[x] at j;subst j;refine⟨e,C,λq u g=>?_⟩;have h:=(fq.1 g).1;rw[X,o5 _ _ _ _ P] at g;rw[o5 _ _ _ _ (by omega)];by_cases F:f<=q/\q<f+new.length
   ·rw[if_pos F] at g;rw[if_pos (by omega),show d+n*T.bM+q-(d+n*T.bM+f)=q-f by omega];grind
   ·rw[if_neg F] at g;rw[if_neg (by omega)];obtain⟨jR,iQ,bb,N⟩:=O
    grind[Mem.load]
  ·rw[if_neg p] at j;obtain⟨t,A,V⟩:=Y k w j;refine⟨t,A,λq u g=>?_⟩;have h:=(fq.1 g).1;rw[T.len z w t A] at h;rw[o5 _ _ _ _ (by omega)];have Z:¬(d+n*T.bM+f<=d+k*T.bM+q/\d+k*T.bM+q<d+n*T.bM+f+new.length):=by
    rcases Nat.lt_or_gt_of_ne p with s|s
    ·have:(n+1)*T.bM<=k*T.bM:=oH _ s
     grind
    ·have:(k+1)*T.bM<=n*T.bM:=oH _ s
     grind
   rw[if_neg Z];exact V q u g
end
end
section
def uf:Nat:=4294967296
def cD{a:Type}(d b:List a):Option (List a):=if d.length+b.length<=uf then J (d++b) else ae
def tv{d:Type}{b a r:List d}(h:cD b a=J r):b.length+a.length<=uf/\r=b++a:=by
 grind[cD]
def hy{a:Type}(x:a)(n:Int):Option (List a):=if 0<=n/\n<=4294967296 then J (gb n.toNat x) else ae
def B3{a:Type}{x:a}{n:Int}{r:List a}(h:hy x n=J r):0<=n/\n<=4294967296/\r=gb n.toNat x:=by
 grind[hy]
def gW(n:Int):Option UInt8:=if 0<=n/\n<256 then J (UInt8.ofNat n.toNat) else ae
def acM{n:Int}{u:UInt8}(h:gW n=J u):n=u.toNat:=by
 unfold gW at h;split at h
 ·rename_i a;cases h;simp;omega
 grind
def sU(a b:Int):Option Int:=if b=0 then ae else J (a.tdiv b)
def px(a b:Int):Option Int:=if b=0 then ae else J (a.tmod b)
def aq0{a b r:Int}(h:sU a b=J r):b≠0/\r=a.tdiv b:=by
 grind[sU]
def acD{a b r:Int}(h:px a b=J r):b≠0/\r=a.tmod b:=by
 grind[px]
def lt{a b:Type}(x:a)(f:a->Option b):Option b:=f x
def adC{a b:Type}{x:a}{f:a->Option b}{r:b}(h:lt x f=J r):∃y,x=y/\f y=J r:=⟨x,rfl,h⟩
def bind_some{a b:Type}{x:Option a}{f:a->Option b}{r:b}(h:x.bind f=J r):∃y,x=J y/\f y=J r:=Option.bind_eq_some_iff.1 h
def kE(t:bV):cM UInt8:=cM.flat t (λu=>.int .u8 u.toNat) λ_=>rfl
section
variable {P:bI}{C:FuncId->Array af->Mem->af->Mem->Prop}{ap:bS->af}{o:Oper}{aK:Type}{T:cM aK}{z:Nat->bW}{m:Mem}{xs b4:List aK}{v w:af}{x y:bS}{t e u:bV}{i:TypeInfo}{d:TypeDesc}
def Src(T:cM aK)(z:Nat->bW)(m:Mem)(a:List aK)(w:af):Prop:=ja w=a.length/\∃b,kt m T.bM w=J b/\b.length=a.length*T.bM/\∀(i:Nat)(y:aK),a[i]?=J y->∃c,T.rd z y c/\ql b (i*T.bM) c
def ad4{m:Mem}{b:Nat}:∀(n a:Nat)(f:Nat->af),(∀i,i<n->m.load b (a+i)=J (f i))->kd m b a n=J ((mN n).map f)
 |0,a,f,_=>rfl
 |n+1,a,f,h=>by
  have g:=h 0 (by omega);have d:=ad4 n (a+1) (λi=>f (i+1)) λi e=>by rw[show a+1+i=a+(i+1) by omega];exact h (i+1) (by omega)
  simp_all[kd,List.range_succ_eq_map]
def Xv{b a c:Nat}(h:∀(i:Nat)(y:aK),b4[i]?=J y->∃d,T.rd z y d/\∀(k:Nat)(u:af),d[k]?=J u->m.load b (a+i*T.bM+k)=J u):Src T z m b4 (.slice (J ⟨b,a,ae⟩) b4.length c):=by
 have r:∀k,k<b4.length*T.bM->∃u,m.load b (a+k)=J u:=by
  intro k j;have A:0<T.bM:=by
   grind
  have w:k / T.bM<b4.length:=Nat.div_lt_of_lt_mul (by grind);obtain⟨d,e,n⟩:=h (k / T.bM) b4[k / T.bM] (by grind);have p:=T.len z _ d e;have q:k%T.bM<d.length:=by simp_all[Nat.mod_lt]
  refine⟨d[k%T.bM],?_⟩;have:=n (k%T.bM) _ (List.getElem?_eq_getElem q)
  grind[Nat.div_add_mod]
 let f:Nat->af:=λk=>(m.load b (a+k)).getD undef
 have s:∀k,k<b4.length*T.bM->m.load b (a+k)=J (f k):=λk j=>by
  grind
 refine⟨rfl,(mN (b4.length*T.bM)).map f,ad4 _ _ _ s,by simp,λi y l=>?_⟩;obtain⟨d,e,n⟩:=h i y l;refine⟨d,e,λk u j=>?_⟩;have t:=(fq.1 j).1;rw[T.len z y d e] at t;have g:=(fq.1 l).1;have x:i*T.bM+k<b4.length*T.bM:=by
  have:(i+1)*T.bM<=b4.length*T.bM:=oH _ g
  grind
 grind
def fA.src(h:fA T z b4 w)(e:lk z m):Src T z m b4 w:=by
 rcases h with⟨rfl,rfl⟩|⟨b,n,c,rfl,_,_,d⟩
 ·exact⟨rfl,[],rfl,by simp,λi y a=>by grind⟩
 ·exact Xv λi y a=>by obtain⟨f,g,j⟩:=d i y a;exact⟨f,g,λk u l=>KO e (j k u l)⟩
def fO.src(h:fO T z m b4 w):Src T z m b4 w:=by
 rcases h with⟨rfl,rfl⟩|⟨b,n,L,c,rfl,d,_,_,_,_,e⟩
 ·exact⟨rfl,[],rfl,by simp,λi y a=>by grind⟩
 ·exact Xv λi y a=>by obtain⟨f,g,j⟩:=e i y a;exact⟨f,g,λk u l=>by simp only[Mem.load,d];exact j k u l⟩
def asP{a:bV}(s:List UInt8):Src (kE a) z m s (str s):=by
 refine⟨by rfl,s.map λu=>.int .u8 u.toNat,by rfl,by simp[kE,cM.flat],λi y b=>?_⟩;refine⟨[.int .u8 y.toNat],rfl,λk u d=>?_⟩
 grind[kE,cM.flat]
def gl.kill{b:Nat}{X:bW}(f:∀b,m.next<=b->m.blk b=.dead)(d:b<m.next):gl m ((m.put b .dead).push X) (J b):=by
 have g:=zm (m:=m) (x:=.dead) f d;refine⟨mo _,λc a=>?_,λc a h=>?_⟩
 ·have e:((m.put b .dead).push X).blk c=if c=m.next then X else(if c=b then .dead else m.blk c):=rfl
  have a:m.next+1<=c:=a
  grind
 ·have e:((m.put b .dead).push X).blk c=if c=m.next then X else(if c=b then .dead else m.blk c):=rfl
  grind
def adb{d:List af}(h:o.op=.call {callee:=.builtin .append,args:=#[x,y],argTypes:=#[t,u]})(p:P.underlying t=J (.slice T.tid))(w:P.info? T.tid=J i){n:af}(hL:i.zero=J n)(dw:n.cells.toList.all dy=aa)(et:n.cells.size=i.size)
  (cN:i.size=T.bM) (hh:0<T.bM) (UZ:(xs.length+b4.length)*i.bytes<=140737488355328) (nD:xs.length+b4.length<=140737488355328) (j:ap x=v) (bf:fO T z m xs v) (E:sA P m u i (ap y) b4.length d) (kK:d.length=b4.length*T.bM) (e0:∀(i:Nat)(y:aK),b4[i]?=J y->∃c,T.rd z y c/\ql d (i*T.bM) c)
  (M:lk z m) (A:∀b,m.next<=b->m.blk b=.dead):
  ∃cc m',hR P C ap o m cc m'/\fO T z m' (xs++b4) cc/\gl m m' (da v)/\∀b,da cc=J b->da v=J b\/m.next<=b:=by
 have r:=UZ;have s:xs.length+b4.length<9223372036854775807:=by omega
 have O:d.length=b4.length*i.size:=by grind
 have qS:z m.next=.dead:=by
  cases wC:z m.next with
  |dead=>rfl
  |ro rd=>have:=(M m.next (by grind)).2;omega
  |own L t=>have:=(M m.next (by grind)).2;omega
  |map L t=>have:=(M m.next (by grind)).2;omega
  |lock _ _ _ _=>have:=(M m.next (by grind)).2;omega
 have H:∀(F:List af),F.length=xs.length*T.bM->(∀(i:Nat)(x:aK),xs[i]?=J x->∃c,T.rd z x c/\ql F (i*T.bM) c)->
   ∀(i:Nat)(x:aK),(xs++b4)[i]?=J x->∃c,T.rd z x c/\ql (F++d) (i*T.bM) c:=by
  intro F nF aM i a f;rw[AB] at f;split at f
  ·rename_i N;obtain⟨c,g,l⟩:=aM i a f;refine⟨c,g,λk q hk=>?_⟩;have:=l k q hk
   grind
  ·rename_i hA;obtain⟨c,g,l⟩:=e0 _ a f;refine⟨c,g,λk q hk=>?_⟩;have:=l k q hk;have h1:i*T.bM=F.length+(i-xs.length)*T.bM:=by
    rw[nF,<-ko];grind
   grind
 rcases bf with⟨rfl,rfl⟩|⟨b,e,L,c,rfl,I,N,VH,aR,kJ,Y⟩
 ·by_cases Bz:b4.length=0
  ·have R:d=[]:=yl (by grind);have X:b4=[]:=yl Bz;subst X;subst R;refine⟨ap x,m,.vZ x y t u T.tid i ae 0 0 h p w j (by simp[dc]) (e4 _) E,?_,⟨e4 _,A,λ_ _ _=>rfl⟩,?_⟩
   ·rw[j];exact .inl ⟨rfl,rfl⟩
   grind
  ·refine⟨_,_,.sP x y t u T.tid i n ae 0 0 b4.length [] d h p w hL dw et (by grind) j (by omega) (by rw[j];rfl) (by simp) E O (by grind) (by grind),?_,BN A,?_⟩
   ·refine .inr ⟨m.next,0,d,dc,by simp,by simp[Mem.push],by simp[Mem.push],qS,by grind,.inl rfl,?_⟩
    grind
   ·intro b I;cases I;grind
 ·have Z:∀(i:Nat)(x:aK),xs[i]?=J x->∃c,T.rd z x c/\ql ((L.drop e).take (xs.length*T.bM)) (i*T.bM) c:=by
   intro k a f;obtain⟨c,g,l⟩:=Y k a f;refine⟨c,g,λq ka K=>?_⟩;have yV:=(fq.1 K).1;rw[T.len z a c g] at yV;have uV:=(fq.1 f).1;have:(k+1)*T.bM<=xs.length*T.bM:=oH _ uV;rw[ko,Nat.one_mul] at this;rw[List.getElem?_take,if_pos (by omega),aIQ,<-sK];exact l q ka K
  have uZ:((L.drop e).take (xs.length*T.bM)).length=xs.length*T.bM:=by grind
  rcases kJ with rfl|⟨U,axP,V⟩
  ·refine⟨_,_,.append x y t u T.tid i n b e xs.length b4.length L d h p w hL dw et (by grind) j I (by grind) E O r s,?_,gl.kill A N,?_⟩
   ·refine .inr ⟨m.next,0,(L.drop e).take (xs.length*T.bM)++d,dc,by simp,by grind[Mem.push,Mem.put],by simp[Mem.push,Mem.put],qS,?_,.inl rfl,?_⟩
    ·grind[ko]
    grind
   ·intro dJ B;cases B;grind
  ·by_cases uT:xs.length+b4.length<=c
   ·have JG:e+(xs.length+b4.length)*i.size<=L.length:=by
     rw[cN];exact jd (Nat.add_le_add_left (oH _ uT) _) V
    refine⟨_,_,.vY x y t u T.tid i b e xs.length c b4.length L d h p w j (by grind) uT I E O JG,?_,zm A N,λdJ B=>.inl B⟩;have JX:(eY L (e+xs.length*i.size) d).length=L.length:=mB _ _ _;refine .inr ⟨b,e,eY L (e+xs.length*i.size) d,c,by simp,by simp[Mem.put],N,VH,?_,.inr ⟨U,?_,?_⟩,?_⟩
    ·simp_all
    ·grind
    ·grind
    ·intro k a f;obtain⟨c3,g,l⟩:=H _ uZ Z k a f;refine⟨c3,g,λq ka K=>?_⟩;have:=l q ka K;have Q:=(fq.1 this).1;rw[sI,uZ,kK] at Q;rw[cN,ko] at JG;rw[cN,o5 _ _ _ _ (by grind)];rw[AB,uZ] at this;split at this
     ·grind
     ·rw[if_pos (by omega),show e+k*T.bM+q-(e+xs.length*T.bM)=k*T.bM+q-xs.length*T.bM by omega]
      grind
   ·have S:kt m i.size (ap x)=J ((L.drop e).take (xs.length*T.bM)):=by
     grind[kt,Cc,Mem.load]
    refine⟨_,_,.sP x y t u T.tid i n _ xs.length c b4.length ((L.drop e).take (xs.length*T.bM)) d h p w hL dw et (by grind) j (by omega) S (by grind) E O r s,?_,?_,?_⟩
    ·refine .inr ⟨m.next,0,(L.drop e).take (xs.length*T.bM)++d,dc,by simp,by simp[Mem.push],by simp[Mem.push],qS,?_,.inl rfl,by grind⟩
     grind[ko]
    ·have:=BN (m:=m) (x:=.own ((L.drop e).take (xs.length*T.bM)++d) T.tid) A;exact⟨this.next,this.dead,λc ay _=>this.blk c ay (by simp)⟩
    ·intro dJ B;cases B;grind
def arU(h:o.op=.call {callee:=.builtin .append,args:=#[x,y],argTypes:=#[t,u]})(j:P.underlying t=J (.slice T.tid))(l:P.info? T.tid=J i){a:af}(F:i.zero=J a)(A:a.cells.toList.all dy=aa)(E:a.cells.size=i.size)
  (r:i.size=T.bM) (H:0<T.bM) (g:(xs.length+b4.length)*i.bytes<=140737488355328) (M:xs.length+b4.length<=140737488355328) (I:(∃s,P.underlying u=J (.slice s))\/P.underlying u=J .string) (k:ap x=v) (n:fO T z m xs v) (N:ap y=w) (L:Src T z m b4 w)
  (q:lk z m) (p:∀b,m.next<=b->m.blk b=.dead):
  ∃d e,hR P C ap o m d e/\fO T z e (xs++b4) d/\gl m e (da v)/\∀b,da d=J b->da v=J b\/m.next<=b:=by
 obtain⟨f,O,Q,K,B⟩:=L;exact adb h j l F A E r H g M k n (.el I (by grind) (by grind)) K B q p
def avo{f:aK}{b:af}(g:T.rd z f b.cells.toList)(c:Nat):(gb c b.cells.toList).flatten.length=(gb c f).length*T.bM/\
  ∀(i:Nat)(y:aK),(gb c f)[i]?=J y->∃d,T.rd z y d/\ql (gb c b.cells.toList).flatten (i*T.bM) d:=by
 have e:b.cells.toList.length=T.bM:=T.len z f _ g;refine⟨by simp_all,λj a k=>?_⟩;have m:=(fq.1 k).1;have h:a=f:=by grind
 subst h;refine⟨_,g,λq u l=>?_⟩;have p:=(fq.1 l).1;rw[e] at p;have n:∀(c j:Nat),j<c->((gb c b.cells.toList).flatten)[j*T.bM+q]?=b.cells.toList[q]? :=by
  intro c;induction c with
  |zero=>grind
  |succ c r=>
   intro j m;rw[YZ,yn];cases j with
   |zero=>grind
   |succ j=>
    grind
 grind
def arV{p:aK}{kk k:aG}{c:Nat}(h:o.op=.call {callee:=.builtin .append,args:=#[x,y],argTypes:=#[t,u]})(q:P.underlying t=J (.slice T.tid))(A:P.info? T.tid=J i){a:af}(j:i.zero=J a)(f:a.cells.toList.all dy=aa)(g:a.cells.size=i.size)
  (H:i.size=T.bM) (M:0<T.bM) (l:i.bytes<=32768) (N:P.underlying u=J (.int kk)) (w:ap x=v) (B:fO T z m xs v) (O:ap y=.int k c) (I:T.rd z p a.cells.toList)
  (F:lk z m) (E:∀b,m.next<=b->m.blk b=.dead) {r:List aK} (s:cD xs (gb c p)=J r):
  ∃d e,hR P C ap o m d e/\fO T z e r d/\gl m e (da v)/\∀b,da d=J b->da v=J b\/m.next<=b:=by
 obtain⟨n,rfl⟩:=tv s;simp only[uf,List.length_replicate] at n;have R:(xs.length+c)*i.bytes<=4294967296*32768:=IT n l;have Q:c*i.bytes<=4294967296*32768:=IT (by omega) l;obtain⟨K,L⟩:=avo (T:=T) (z:=z) I c;exact adb h q A j f g H M (by grind) (by grind) w B
  (.mk kk k a N (by grind) j f g (by omega) (by grind) (by grind) (by grind)) K L F E
def asg(h:o.op=.call {callee:=.builtin .append,args:=#[x,y],argTypes:=#[t,u]})(g:P.underlying t=J (.slice T.tid))(n:P.info? T.tid=J i){a:af}(H:i.zero=J a)(E:a.cells.toList.all dy=aa)(F:a.cells.size=i.size)
  (A:i.size=T.bM) (I:0<T.bM) (K:i.bytes<=32768) (L:(∃B,P.underlying u=J (.slice B))\/P.underlying u=J .string) (l:ap x=v) (p:fO T z m xs v) (k:ap y=w) (M:Src T z m b4 w)
  (s:lk z m) (q:∀b,m.next<=b->m.blk b=.dead) {r:List aK} (j:cD xs b4=J r):
  ∃d e,hR P C ap o m d e/\fO T z e r d/\gl m e (da v)/\∀b,da d=J b->da v=J b\/m.next<=b:=by
 obtain⟨f,rfl⟩:=tv j;simp only[uf] at f;have:(xs.length+b4.length)*i.bytes<=4294967296*32768:=IT f K;exact arU h g n H E F A I (by omega) (by omega) L l p k M s q
def avp{f:aK}{k g:aG}{n n':Int}(h:o.op=.makeSlice t x y)(p:P.underlying t=J (.slice T.tid))(B:P.info? T.tid=J i){b:af}(N:i.zero=J b)(I:b.cells.toList.all dy=aa)(M:b.cells.size=i.size)(V:i.size=T.bM)(O:i.bytes<=32768)
  (K:T.rd z f b.cells.toList) (A:ap x=.int k n) (w:ap y=.int g n) (e:lk z m) {r:List aK} (s:hy f n=J r):
  ∃L v,jC P ap o m.next (.own L T.tid) v/\fO T z (m.push (.own L T.tid)) r v/\da v=J m.next:=by
 obtain⟨C,X,rfl⟩:=B3 s;obtain⟨c,rfl⟩:=sD C;have R:z m.next=.dead:=by
  cases Z:z m.next with
  |dead=>rfl
  |ro Y=>have:=(e m.next (by grind)).2;omega
  |own L t=>have:=(e m.next (by grind)).2;omega
  |map L t=>have:=(e m.next (by grind)).2;omega
  |lock _ _ _ _=>have:=(e m.next (by grind)).2;omega
 have d:b.cells.toList.length=T.bM:=by grind
 have yO:(gb c b.cells.toList).flatten.length=c*T.bM:=by simp_all
 refine⟨_,_,.makeSlice t x y c c k g T.tid i b h p B N I M A w (e4 _) ?_ (by omega),?_,rfl⟩
 ·have:i.bytes*c<=32768*4294967296:=IT O (by omega);omega
 ·simp only[sG];refine fO.AW ⟨m.next,(gb c b.cells.toList).flatten,c,by simp,by simp[Mem.push],by simp[Mem.push],R,by grind,.inr ⟨by grind[dc],by simp,by grind⟩,λj a E=>?_⟩;have H:=(fq.1 E).1;have l:a=f:=by grind
  subst l;refine⟨_,K,λq u F=>?_⟩;have S:=(fq.1 F).1;rw[d] at S;have Q:∀(c j:Nat),j<c->((gb c b.cells.toList).flatten)[j*T.bM+q]?=b.cells.toList[q]? :=by
   intro c;induction c with
   |zero=>grind
   |succ c U=>
    intro j H;rw[YZ,yn];cases j with
    |zero=>grind
    |succ j=>
     grind
  grind
def wZ(T:cM aK)(z:Nat->bW)(b:bS->af):List (Nat×bS)->Nat->List aK->List (List af)->Prop|[],_,[],[]=>True|(k,x)::d,n,a::f,c::e=>k=n/\storable (b x)=aa/\(b x).cells.toList=c/\T.rd z a c/\wZ T z b d (n+1) f e|_,_,_,_=>False
def adt:∀(new A B D:List af),new.length=B.length->eY (A++B++D) A.length new=A++new++D
 |[],A,B,D,h=>by grind[eY]
 |v::new,A,b::B,D,h=>by
  have e:(A++(b::B)++D).set A.length v=(A++[v])++B++D:=by simp
  simp only[eY,e];have:=adt new (A++[v]) B D (by grind)
  grind
 |_::_,A,[],D,h=>by grind
theorem ab4:∀(d:List (Nat×bS))(n:Nat)(e:List aK)(f:List (List af))(A D:List af),wZ T z ap d n e f->A.length=n*T.bM->D.length=e.length*T.bM->
  k5 (λk=>J (k*T.bM,T.bM)) (A++D) (d.map λp=>(p.1,ap p.2))=J (A++f.flatten)
 |[],n,[],[],A,D,_,_,b=>by simp_all[k5]
 |(k,x)::d,n,a::e,c::f,A,D,h,q,b=>by
  obtain⟨rfl,r,j,i,l⟩:=h;have s:=T.len z a c i;have m:(ap x).cells.size=T.bM:=by grind
  simp only[List.length_cons,ko,Nat.one_mul] at b;simp only[List.map_cons,k5,r,m,true_and,sI];rw[if_pos (by omega),j,<-q];have g:A++D=A++D.take T.bM++D.drop T.bM:=by simp_all
  rw[g,adt c A (D.take T.bM) (D.drop T.bM) (by grind)];rw[ab4 d (k+1) e f (A++c) (D.drop T.bM) l (by grind) (by grind)];simp
 |[],_,_::_,_,_,_,h,_,_=>h.elim
 |[],_,[],_::_,_,_,h,_,_=>h.elim
 |_::_,_,[],_,_,_,h,_,_=>h.elim
 |_::_,_,_::_,[],_,_,h,_,_=>h.elim
def acQ:∀(f:List (Nat×bS))(n:Nat)(d:List aK)(e:List (List af)),wZ T z ap f n d e->e.flatten.length=d.length*T.bM/\∀(i:Nat)(a:aK),d[i]?=J a->∃c,T.rd z a c/\ql e.flatten (i*T.bM) c
 |[],n,[],[],_=>⟨by simp,λi a A=>by grind⟩
 |(k,x)::f,n,a::d,c::e,h=>by
  obtain⟨rfl,C,y,g,p⟩:=h;have m:=T.len z a c g;obtain⟨B,w⟩:=acQ f (k+1) d e p;refine⟨by grind,λi b j=>?_⟩;cases i with
  |zero=>
   simp at j;subst j;refine⟨c,g,λq u l=>?_⟩
   grind
  |succ i=>obtain⟨r,t,s⟩:=w i b (by grind);refine⟨r,t,λq u l=>?_⟩;rw[yn,ko,Nat.one_mul,List.getElem?_append_right (by omega),m,show i*T.bM+T.bM+q-T.bM=i*T.bM+q by omega];exact s q u l
 |[],_,_::_,_,h=>h.elim
 |[],_,[],_::_,h=>h.elim
 |_::_,_,[],_,h=>h.elim
 |_::_,_,_::_,[],h=>h.elim
def atm{b:Array (Nat×bS)}{l:Nat}{d:List aK}{e:List (List af)}(h:o.op=.buildSlice t l b)(j:P.underlying t=J (.slice T.tid))(k:P.info? T.tid=J i){a:af}(r:i.zero=J a)(n:a.cells.toList.all dy=aa)(p:a.cells.size=i.size)(A:i.size=T.bM)
  (x:d.length=l) (E:l*T.bM<=16777216) (w:l<9223372036854775808) (g:wZ T z ap b.toList 0 d e) (f:lk z m):
  ∃L v,jC P ap o m.next (.own L T.tid) v/\fO T z (m.push (.own L T.tid)) d v/\da v=J m.next:=by
 have s:z m.next=.dead:=by
  cases F:z m.next with
  |dead=>rfl
  |ro C=>have:=(f m.next (by grind)).2;omega
  |own L t=>have:=(f m.next (by grind)).2;omega
  |map L t=>have:=(f m.next (by grind)).2;omega
  |lock _ _ _ _=>have:=(f m.next (by grind)).2;omega
 have y:=ab4 b.toList 0 d e [] (gb l a.cells.toList).flatten g (by simp) (by simp_all);obtain⟨B,q⟩:=acQ b.toList 0 d e g;refine⟨e.flatten,_,.buildSlice t l b T.tid i a _ h j k r n p (by grind) w (by grind),?_,rfl⟩;exact fO.AW ⟨m.next,e.flatten,l,by grind,by simp[Mem.push],by simp[Mem.push],s,by grind,.inr ⟨by grind[dc],by omega,by grind⟩,q⟩
def atn{s:List UInt8}{b:bV}(h:o.op=.convert u t x)(l:P.underlying u=J .string)(e:P.underlying t=J (.slice b))(j:P.underlying b=J (.int .u8))(g:P.info? b=J i)(n:i.size=1)(f:ap x=str s)(r:s.length<9223372036854775807)(d:lk z m):
  ∃L v,jC P ap o m.next (.own L b) v/\fO (kE b) z (m.push (.own L b)) s v/\da v=J m.next:=by
 have p:z m.next=.dead:=by
  cases C:z m.next with
  |dead=>rfl
  |ro B=>have:=(d m.next (by grind)).2;omega
  |own L t=>have:=(d m.next (by grind)).2;omega
  |map L t=>have:=(d m.next (by grind)).2;omega
  |lock _ _ _ _=>have:=(d m.next (by grind)).2;omega
 refine⟨_,_,.bytes u t x b i ⟨s.toArray⟩ h l e j g n f (by grind[BV]),?_,rfl⟩;refine fO.AW ⟨m.next,s.map λu=>.int .u8 u.toNat,dc,by rfl,by simp[Mem.push,kE,cM.flat],by simp[Mem.push],p,by simp[kE,cM.flat],.inl rfl,λk a y=>⟨[.int .u8 a.toNat],rfl,λq w A=>?_⟩⟩
 grind[kE,cM.flat]
def afk{s:List UInt8}{d:bV}(h:o.op=.convert t u x)(j:P.underlying t=J (.slice d))(r:P.underlying d=J (.int .u8))(w:P.underlying u=J .string)(p:ap x=v)(A:Src (kE d) z m s v)(y:∃a l c,v=.slice a l c):fH P ap o m (str s):=by
 obtain⟨a,l,c,rfl⟩:=y;obtain⟨n,C,g,K,E⟩:=A;have H:C=s.map λu=>.int .u8 u.toNat:=by
  apply List.ext_getElem?;intro k;by_cases I:k<s.length
  ·obtain⟨B,f,F⟩:=E k s[k] (by grind);have f:B=[.int .u8 s[k].toNat]:=f;subst f;have:=F 0 _ rfl
   grind[kE,cM.flat]
  grind[kE,cM.flat]
 subst H;simp only[ja] at n;subst n;cases a with
 |none=>
  simp only[kt,kB.injEq] at g;have:s=[]:=by grind
  subst this;exact .zQ t u x d _ c h j r w p
 |some a=>
  obtain⟨b,i,e⟩:=a;cases e with
  |some q=>grind[kt]
  |none=>simp only[kt,kE,cM.flat,Nat.mul_one] at g;exact .str t u x d b i _ c s h j r w p g
end
def looks:Op->Bool|.load .. |.convert .. |.slice .. |.lookup .. =>aa|_=>ak
def sg:Op->Bool|.alloc _|.box .. |.buildSlice .. |.makeSlice .. |.convert .. |.makeMap .. =>aa|_=>ak
def calm(a:Array Oper):Bool:=
 (mN a.size).all λe=>match a[e]? with
  |none=>aa
  |some b=> !lT b.op||(mN a.size).all λr=>match a[r]? with
   |none=>aa
   |some or=>(!(looks or.op)||(if r<e then gD (kp a) e r else if e<r then gD (kp a) r e else aa))&&(!(sg or.op)||(if r<e then gD (kp a) e r else aa))
theorem Ks{P:bI}{a:bS->af}{o:Oper}{m:Mem}{v:af}(h:fH P a o m v):looks o.op=aa:=by
 cases h<;>simp[*,looks]
theorem BK{P:bI}{a:bS->af}{o:Oper}{n:Nat}{X:bW}{v:af}(h:jC P a o n X v):sg o.op=aa:=by
 cases h<;>simp[*,sg]
theorem acS{a:Array Oper}(h:calm a=aa){e r:Nat}{b or:Oper}(i:a[e]?=J b)(f:a[r]?=J or)(g:lT b.op=aa)(d:looks or.op=aa):(r<e->gD (kp a) e r=aa)/\(e<r->gD (kp a) r e=aa):=by
 grind[calm]
theorem aqV{a:Array Oper}(h:calm a=aa){e r:Nat}{b or:Oper}(j:a[e]?=J b)(f:a[r]?=J or)(g:lT b.op=aa)(d:sg or.op=aa)(i:r<e):gD (kp a) e r=aa:=by
 grind[calm]
def ace{P:bI}{C:FuncId->Array af->Mem->af->Mem->Prop}{b:Array Oper}(y:calm b=aa):∀(l a:List Oper)(A:Acc)(d g:Nat->af)(m j:Mem),b.toList=a++l->
  (∀x∈A.reads,∃o,b[x.1]?=J o/\looks o.op=aa/\x.1<a.length)->(∀x∈A.iC,∃o,b[x.1]?=J o/\lT o.op=aa/\x.1<a.length)->(∀x∈A.news,∃o,b[x.1]?=J o/\sg o.op=aa/\x.1<a.length)->
  k6 P C b.toList l d m g j->hW P C b.toList (kp b) a.length l A d m g j
 |[],a,A,d,g,m,j,q,r,w,k,h=>h
 |o::l,a,A,d,g,m,j,q,r,w,k,h=>by
  have K:b[a.length]?=J o:=by rw[<-Array.getElem?_toList,q];simp
  have I:b.toList=(a++[o])++l:=by grind
  have i:(a++[o]).length=a.length+1:=by simp
  have s:∀{E:Type}{p:Oper->Bool}{L:List (Nat×E)},(∀x∈L,∃o,b[x.1]?=J o/\p o=aa/\x.1<a.length)->∀x∈L,∃o,b[x.1]?=J o/\p o=aa/\x.1<a.length+1:=λM x n=>by
   grind
  have e:=λ(A:Acc)(d:Nat->af)(m:Mem)=>ace (P:=P) (C:=C) y l (a++[o]) A d g m j I;rw[i] at e;simp only[k6] at h;simp only[hW];split at h
  ·rename_i F;rw[if_pos F];obtain⟨v,H,z,t⟩:=h;cases z with
   |pure f=>grind
   |read f=>
    grind[Ks,acS]
   |new f=>
    grind[BK]
   |fX f=>
    have N:=Wt f;refine .inr (.inr (.inr ⟨v,H,f,λx n B=>?_,λx n B=>?_,e _ _ _ (s (p:=λo=>looks o.op) r) ?_ (s (p:=λo=>sg o.op) k) t⟩))
    ·grind[acS]
    ·grind[aqV]
    grind
  grind
theorem W.calm{P:bI}{j:Nat}{a:Array Oper}{Q:fG->(Nat->af)->Mem->Prop}{b:Nat->af}{m:Mem}(g:aF.calm a=aa)(h:ea P a.toList a.toList (Q .normal) b m):W P (.region j a aa) Q b m:=by
 obtain⟨n,d,e,i,f⟩:=h;refine W.draw ⟨n,d,e,?_,f⟩;have:=ace (P:=P) (C:=jn P n) g a.toList [] ⟨[],[],[]⟩ b d m e (by rfl) (by simp) (by simp) (by simp) i
 grind
end
section
def sub:Code->List Nat->Code|c,[]=>c|.seq a b,0::p=>sub a p|.seq a b,_::p=>sub b p|.cond _ a b,0::p=>sub a p|.cond _ a b,_::p=>sub b p|.block _ c,_::p=>sub c p|.scope c,_::p=>sub c p|.loop c,_::p=>sub c p|c,_=>c
def en(f:Func):Code:=f.body.getD .skip
theorem Lq{a:Nat->af}{d:Option Tmp}{v:af}{i:Nat}(h:d≠J i):set a d v i=a i:=by
 cases d with
 |none=>rfl
 |some t=>grind[set]
def Wp{P:bI}{C:FuncId->Array af->Mem->af->Mem->Prop}{e:List Oper}{i:Nat}:∀(l:List Oper)(b a:Nat->af)(m d:Mem),(∀o∈l,o.dst≠J i)->k6 P C e l b m a d->a i=b i
 |[],b,a,m,d,_,h=>by rw[h.1]
 |o::l,b,a,m,d,g,h=>by
  have f:∀o∈l,o.dst≠J i:=λo j=>g o (by grind);simp only[k6] at h;split at h
  ·obtain⟨v,k,_,h⟩:=h;rw[Wp l _ _ _ _ f h];grind[Lq]
  ·rw[Wp l _ _ _ _ f h];grind[Lq]
def Wa{P:bI}{C:FuncId->Array af->Mem->af->Mem->Prop}{e:List Oper}{B:Array Nat}{i:Nat}:∀(l:List Oper)(n:Nat)(A:Acc)(b a:Nat->af)(m d:Mem),(∀o∈l,o.dst≠J i)->hW P C e B n l A b m a d->a i=b i
 |[],n,A,b,a,m,d,_,h=>by rw[h.1]
 |o::l,n,A,b,a,m,d,f,h=>by
  have g:∀o∈l,o.dst≠J i:=λo j=>f o (by grind);have k:=f o (by simp);simp only[hW] at h;split at h
  ·rcases h with⟨v,_,h⟩|⟨v,_,_,h⟩|⟨X,v,_,h⟩|⟨v,p,_,_,_,h⟩<;>(rw[Wa l _ _ _ _ _ _ g h];grind[Lq])
  ·rw[Wa l _ _ _ _ _ _ g h];grind[Lq]
def adT{a:Array Oper}{i:Nat}(h:(Uh a).contains i=ak):∀o∈a.toList,o.dst≠J i:=by
 grind[Uh]
def abW{a b:List Nat}{i:Nat}(h:(a++b).contains i=ak):a.contains i=ak/\b.contains i=ak:=by
 grind
def aqr{P:bI}{C:FuncId->Array af->Mem->af->Mem->Prop}{i:Nat}:∀(n:Nat)(c:Code)(p k:Nat->af)(m r:Mem)(e:fG),(q6 c).contains i=ak->lS P C n c p m e k r->k i=p i:=by
 intro n;induction n with
 |zero=>intro c p k m r e _ h;exact h.elim
 |succ n q=>
  intro c p k m r e j h;cases c with
  |skip=>rw[h.2.1]
  |label l=>rw[h.2.1]
  |exit A=>rw[h.2.1]
  |ret=>rw[h.2.1]
  |region A K d=>
   cases d with
   |false=>exact Wp _ _ _ _ _ (adT j) h.2
   |true=>exact Wa _ _ _ _ _ _ _ (adT j) h.2
  |seq a b=>
   rcases h with⟨w,E,I,z,F⟩|h
   rotate_left
   ·exact h.2.keep _ j
   obtain⟨H,B⟩:=abW j
   grind
  |cond c a b=>
   obtain⟨H,B⟩:=abW j;obtain⟨t,_,g⟩:=h
   grind
  |block A c=>obtain⟨w,g,_⟩:=h;exact q c _ _ _ _ _ j g
  |scope c=>exact q c _ _ _ _ _ j h
  |loop c=>
   obtain⟨w,E,I,z,F⟩:=h;have L:=q c _ _ _ _ _ j z
   grind
  |rangeFunc f M x y=>exact h.elim
  |goto l=>exact h.elim
  |refuse s=>exact h.elim
section
variable {P:bI}{Q AH:fG->(Nat->af)->Mem->Prop}{fr:Nat->af}{m:Mem}
def W.keep{c:Code}(h:W P c Q fr m)(j:∀e a b,(∀i,(q6 c).contains i=ak->a i=fr i)->Q e a b->AH e a b):W P c AH fr m:=
 let⟨n,e,a,b,d,f⟩:=h
 ⟨n,e,a,b,d,j _ _ _ (λ_ g=>aqr _ _ _ _ _ _ _ g d) f⟩
def W.amu{c:bS}{a b:Code}{t:Bool}(d:bk fr c=.bool t)(e:t=aa)(h:W P a Q fr m):W P (.cond c a b) Q fr m:=W.cond (t:=aa) (by rw[d,e]) h
def W.Z0{c:bS}{a b:Code}{t:Bool}(d:bk fr c=.bool t)(e:t=ak)(h:W P b Q fr m):W P (.cond c a b) Q fr m:=W.cond (t:=ak) (by rw[d,e]) h
def pZ.rS{i:Nat}(h:Q .normal fr m):pZ i Q (.exit i) fr m:=by grind[pZ]
def pZ.qZ{i j:Nat}(a:(j==i)=ak)(h:Q (.exit j) fr m):pZ i Q (.exit j) fr m:=by
 grind[pZ]
def ea.mono{a l:List Oper}{K b:(Nat->af)->Mem->Prop}(h:ea P a l K fr m)(g:∀fr m,K fr m->b fr m):ea P a l b fr m:=
 let⟨n,e,i,f,d⟩:=h;⟨n,e,i,f,g _ _ d⟩
theorem mr.of{o:Oper}{b:bS->af}{R:af->Mem->Prop}{v:af}{a:Mem}{n:Nat}(h:ln P (jn P n) b o m v a)(d:R v a):mr P b o m R:=⟨n,v,a,h,d⟩
end
structure dT(n:Nat)(z z':Nat->bW):Prop where
 le:fl z z'
 low:∀b,b<n->z' b=z b
theorem dT.refl{n:Nat}(z:Nat->bW):dT n z z:=⟨fl.refl z,λ_ _=>rfl⟩
def dT.trans{n:Nat}{a b c:Nat->bW}(h:dT n a b)(k:dT n b c):dT n a c:=⟨h.le.trans k.le,λi d=>by rw[k.low i d,h.low i d]⟩
def dT.Ja{n d:Nat}{a b:Nat->bW}(h:dT n a b)(f:d<=n):dT d a b:=⟨h.le,λi e=>h.low i (by omega)⟩
structure jQ(z:Nat->bW)(e m:Mem)(k:Option Nat)(b:Nat)(cs:List af)(t:bV):Prop where
 blk:m.blk b=.own cs t
 lt:b<m.next
 dead:z b=.dead
 fresh:e.next<=b\/k=J b
structure dU{aK:Type}(T:cM aK)(z:Nat->bW)(e m:Mem)(k:Option Nat)(xs:List aK)(v:af):Prop where
 bT:fO T z m xs v
 fresh:∀b,da v=J b->e.next<=b
section
variable {aK:Type}{T:cM aK}{z z':Nat->bW}{e m m':Mem}{k q:Option Nat}{xs:List aK}{v:af}{b:Nat}{cs:List af}{t:bV}
def dU.same(h:dU T z e m k xs v)(s:gl m m' q)(a:e6 (da v) q):dU T z e m' k xs v:=⟨h.bT.same s a,h.fresh⟩
def jQ.same(h:jQ z e m k b cs t)(s:gl m m' q)(a:e6 (J b) q):jQ z e m' k b cs t:=by
 have:=arQ h.blk h.lt s (a b rfl);exact⟨this.1,this.2,h.dead,h.fresh⟩
def dU.lt(h:dU T z e m k xs v):∀b,da v=J b->b<m.next:=λb a=>(h.bT.lt b a).1
def dU.abw(h:dU T z e m k xs v):∀b,da v=J b->b<m.next/\(m.blk b).mem=m.blk b:=λb a=>⟨h.lt b a,by
 rcases h.bT with⟨rfl,_⟩|⟨f,o,L,c,rfl,d,_⟩
 ·cases a
 ·cases a;rw[d];rfl⟩
def fO.jP(h:fO T z m xs v)(g:fl z z')(d:∀b,da v=J b->z' b=z b):fO T z' m xs v:=by
 rcases h with h|⟨b,l,L,c,rfl,r,a,s,f,j,n⟩
 ·exact .inl h
 ·refine .inr ⟨b,l,L,c,rfl,r,a,by rw[d b rfl];grind,f,j,λi x e=>?_⟩;obtain⟨k,p,q⟩:=n i x e;exact⟨k,T.mono _ _ g _ _ p,q⟩
def dU.jP(h:dU T z e m k xs v)(d:fl z z')(a:∀b,da v=J b->z' b=z b):dU T z' e m k xs v:=⟨h.bT.jP d a,h.fresh⟩
def jQ.jP(h:jQ z e m k b cs t)(a:∀c,J b=J c->z' c=z c):jQ z' e m k b cs t:=⟨h.blk,h.lt,by rw[a b rfl];exact h.dead,h.fresh⟩
def dU.freeze(h:dU T z e m k xs v)(a:dL z e m k):∃f,dT e.next z f/\dL f e m k/\fA T f xs v/\∀p,e6 p (da v)->∀b,p=J b->f b=z b:=by
 refine⟨jT z m (da v),⟨Cj λb d=>(h.bT.lt b d).2,λb d=>?_⟩,⟨Lj a.bZ h.abw,a.dead,a.oL,a.next,a.kept⟩,h.bT.awh,λp g b d=>?_⟩
 ·unfold jT;rw[if_neg];intro i;have:=h.fresh b i;omega
 ·unfold jT;rw[if_neg (g b d)]
def jQ.bm(h:jQ z e m k b cs t):∀c,J b=J c->z c=.dead/\(e.next<=c\/k=J c):=λc a=>by cases a;exact⟨h.dead,h.fresh⟩
def dU.bm(h:dU T z e m k xs v):∀c,da v=J c->z c=.dead/\(e.next<=c\/k=J c):=λc a=>⟨(h.bT.lt c a).2,.inl (h.fresh c a)⟩
def dU.nil:dU T z e m k [] (.slice ae 0 0):=⟨.nil,λb a=>by cases a⟩
variable {P:bI}{C:FuncId->Array af->Mem->af->Mem->Prop}{ap:bS->af}{o:Oper}{w:af}{b4:List aK}{x y:bS}{u:bV}{i:TypeInfo}
def as0(h:o.op=.call {callee:=.builtin .append,args:=#[x,y],argTypes:=#[t,u]})(s:P.underlying t=J (.slice T.tid))(H:P.info? T.tid=J i){n:af}(R:i.zero=J n)(M:n.cells.toList.all dy=aa)(O:n.cells.size=i.size)
  (K:i.size=T.bM) (S:0<T.bM) (U:i.bytes<=32768) (V:(∃L,P.underlying u=J (.slice L))\/P.underlying u=J .string) (F:ap x=v) (l:dU T z e m k xs v) (B:ap y=w) (X:Src T z m b4 w)
  (g:dL z e m k) {r:List aK} (A:cD xs b4=J r):
  ∃f d,hR P C ap o m f d/\dL z e d k/\dU T z e d k r f/\gl m d (da v)/\∀p,(∀b,p=J b->b<m.next)->e6 p (da v)->e6 p (da f):=by
 obtain⟨f,d,Q,E,q,a⟩:=asg (C:=C) h s H R M O K S U V F l.bT B X g.bZ g.dead A;refine⟨f,d,Q,g.same q l.bm,⟨E,λb j=>?_⟩,q,λp Y I b j N=>?_⟩
 ·rcases a b j with a|a
  ·exact l.fresh b a
  ·have:=g.next;omega
 ·rcases a b N with a|a
  ·exact I b j a
  grind
theorem Jz{L:List af}{a:af}{g:List aK}(d:dL z e m k)(h:fO T z (m.push (.own L t)) g a)(i:da a=J m.next):
  dL z e (m.push (.own L t)) k/\dU T z e (m.push (.own L t)) k g a/\gl m (m.push (.own L t)) ae/\∀p,(∀b,p=J b->b<m.next)->e6 p (da a):=
 ⟨d.push _,⟨h,λb f=>by rw[i] at f;cases f;exact d.next⟩,BN d.dead,λp l b f j=>by grind⟩
def avc{j:aK}{E C:aG}{n:Int}(h:o.op=.makeSlice t x y)(l:P.underlying t=J (.slice T.tid))(B:P.info? T.tid=J i){a:af}(M:i.zero=J a)(H:a.cells.toList.all dy=aa)(K:a.cells.size=i.size)(F:i.size=T.bM)(N:i.bytes<=32768)
  (I:T.rd z j a.cells.toList) (A:ap x=.int E n) (w:ap y=.int C n) (q:dL z e m k) {r:List aK} (s:hy j n=J r):
  ∃d f L g,jC P ap o m.next (.own L g) d/\f=m.push (.own L g)/\dL z e f k/\dU T z e f k r d/\gl m f ae/\∀p,(∀b,p=J b->b<m.next)->e6 p (da d):=by
 obtain⟨L,d,R,Q,O⟩:=avp (n':=n) h l B M H K F N I A w q.bZ s
 grind[Jz]
def atv{j:Array (Nat×bS)}{l:Nat}{g:List aK}{E:List (List af)}(h:o.op=.buildSlice t l j)(q:P.underlying t=J (.slice T.tid))(x:P.info? T.tid=J i){f:af}(C:i.zero=J f)(A:f.cells.toList.all dy=aa)(B:f.cells.size=i.size)(y:i.size=T.bM)
  (r:g.length=l) (F:l*T.bM<=16777216) (H:l<9223372036854775808) (w:wZ T z ap j.toList 0 g E) (s:dL z e m k):
  ∃a d L n,jC P ap o m.next (.own L n) a/\d=m.push (.own L n)/\dL z e d k/\dU T z e d k g a/\gl m d ae/\∀p,(∀b,p=J b->b<m.next)->e6 p (da a):=by
 obtain⟨L,a,M,K,I⟩:=atm h q x C A B y r F H w s.bZ
 grind[Jz]
def atw{s:List UInt8}{a:bV}(h:o.op=.convert u t x)(y:P.underlying u=J .string)(j:P.underlying t=J (.slice a))(w:P.underlying a=J (.int .u8))(r:P.info? a=J i)(A:i.size=1)(q:ap x=str s)(l:s.length<9223372036854775807)(n:dL z e m k):
  ∃d f L g,jC P ap o m.next (.own L g) d/\f=m.push (.own L g)/\dL z e f k/\dU (kE a) z e f k s d/\gl m f ae/\∀p,(∀b,p=J b->b<m.next)->e6 p (da d):=by
 obtain⟨L,d,E,C,B⟩:=atn h y j w r A q l n.bZ
 grind[Jz]
def Xj{L:List af}(a:dL z e m k):dL z e (m.push (.own L t)) k/\jQ z e (m.push (.own L t)) k m.next L t/\gl m (m.push (.own L t)) ae/\∀p,(∀b,p=J b->b<m.next)->e6 p (J m.next):=by
 refine⟨a.push _,⟨by simp[Mem.push],pT _,?_,.inl a.next⟩,BN a.dead,λp f b g d=>by grind⟩;cases i:z m.next with
 |dead=>rfl
 |ro h=>have:=(a.bZ m.next (by grind)).2;omega
 |own L t=>have:=(a.bZ m.next (by grind)).2;omega
 |map L t=>have:=(a.bZ m.next (by grind)).2;omega
 |lock _ _ _ _=>have:=(a.bZ m.next (by grind)).2;omega
def amS{a:Nat}{new f:List af}{j:bV}(h:o.op=.store t x y)(A:P.info? t=J i)(s:ap x=.pointer (J ⟨b,a,ae⟩))(r:ap y=w)(p:storable w=aa)(B:w.cells.toList=new)(E:new.length=i.size)(d:jQ z e m k b cs j)(q:a+new.length<=cs.length)(F:eY cs a new=f)(l:dL z e m k):
  ∃g,hR P C ap o m undef g/\dL z e g k/\jQ z e g k b f j/\gl m g (J b):=by
 subst r F;have n:=zm (x:=.own (eY cs a new) j) l.dead d.lt;exact⟨_,(aet h A s d.blk p B E q),l.same n d.bm,⟨by simp[Mem.put],d.lt,d.dead,d.fresh⟩,n⟩
def amU{d q n f l c:Nat}{new j r:List af}{a s:aK}(h:o.op=.store t x y)(M:P.info? t=J i)(I:ap x=.pointer (J ⟨b,d,ae⟩))(rV:d=q+n*T.bM+f)(H:ap y=w)(E:storable w=aa)(N:w.cells.toList=new)(Q:new.length=i.size)
  (p:dU T z e m k xs v) (B:v=.slice (J ⟨b,q,ae⟩) l c) (R:xs[n]?=J a) (F:T.rd z a j) (K:∀(i:Nat)(u:af),j[i]?=J u->m.load b (q+n*T.bM+i)=J u) (nG:T.rd z s r) (Y:r=eY j f new) (O:f+new.length<=j.length) (A:dL z e m k):
  ∃g,hR P C ap o m undef g/\dL z e g k/\dU T z e g k (xs.set n s) v/\gl m g (da v):=by
 subst H rV;obtain⟨L,S,U,V,X⟩:=p.bT.store A.dead B R F ⟨b,_,rfl,K⟩ nG Y O;have Z:da v=J b:=by rw[B];rfl
 refine⟨_,(aet h M I S E N Q U),A.same X (by rw[<-Z];exact p.bm),⟨V,p.fresh⟩,by grind⟩
def avb{r:aG}{n:Int}{a:aK}{f:bV}(h:o.op=.indexAddr t x y)(g:P.underlying t=J (.slice f))(l:P.info? f=J i)(s:i.size=T.bM)(k:ap x=v)(j:ap y=.int r n)(m:fA T z xs v)(q:al xs n=J a):
  ∃b d e,dD P ap o (.pointer (J ⟨b,d,ae⟩))/\T.rd z a e/\o2 z b d e:=by
 obtain⟨p,e,B,A,b,d,rfl,w⟩:=auL h g l s k j m q
 grind
def ava{E:aG}{n:Int}{a:aK}{g:bV}(h:o.op=.indexAddr t x y)(q:P.underlying t=J (.slice g))(A:P.info? g=J i)(F:i.size=T.bM)(w:ap x=v)(s:ap y=.int E n)(B:dU T z e m k xs v)(C:al xs n=J a):
  ∃b d l c f,dD P ap o (.pointer (J ⟨b,d+n.toNat*T.bM,ae⟩))/\v=.slice (J ⟨b,d,ae⟩) l c/\T.rd z a f/\∀(j:Nat)(u:af),f[j]?=J u->m.load b (d+n.toNat*T.bM+j)=J u:=by
 obtain⟨p,f,L,H,r,b,d,l,c,rfl,rfl⟩:=auK h q A F w s B.bT C;obtain⟨N,M,I,K⟩:=r
 grind
def Xk{n:Nat}{d:Array Field}{f:Field}{a:Nat}(h:o.op=.fieldAddr t x n)(g:P.underlying t=J (.struct d))(l:d[n]?=J f)(k:P.info? f.type=J i)(e:(i.size==0)=ak)(j:ap x=.pointer (J ⟨b,a,ae⟩)):
  dD P ap o (.pointer (J ⟨b,a+f.offset,ae⟩)):=.fieldAddr t x n d f i b a h g l k (by intro m;rw[m] at e;cases e) j
def XV{a:Nat}{d:TypeDesc}(h:o.op=.load t x)(f:P.underlying t=J d)(i:lI d=ak)(g:ap x=.pointer (J ⟨b,a,ae⟩))(e:m.load b a=J v):fH P ap o m v:=.load t x b a d v h g f i e
def atx{a:Nat}{d:TypeDesc}(h:o.op=.load t x)(f:P.underlying t=J d)(n:lI d=aa)(k:P.info? t=J i)(l:cs.length=i.size)(g:ap x=.pointer (J ⟨b,a,ae⟩))(e:∀(j:Nat)(u:af),cs[j]?=J u->m.load b (a+j)=J u):fH P ap o m (.agg cs.toArray):=
 .wI t x b a d i cs h g f n k (Cc _ _ _ l e)
def jQ.load(h:jQ z e m k b cs t){a:Nat}(d:cs[a]?=J v):m.load b a=J v:=by simp only[Mem.load,h.blk];grind
def jQ.tm(h:jQ z e m k b cs t):∀(j:Nat)(u:af),cs[j]?=J u->m.load b (0+j)=J u:=λj u a=>by rw[lH];exact h.load a
def dL.tm(d:dL z e m k){a:Nat}(h:o2 z b a cs):∀(j:Nat)(u:af),cs[j]?=J u->m.load b (a+j)=J u:=λj u f=>KO d.bZ (h j u f)
end
def ade{a:Array af}{n i:Nat}{v:af}(h:a.toList[i]?=J v):(a++nj n undef).getD i undef=v:=by
 have b:a[i]?=J v:=by grind
 have d:=(Ij.1 b).1;simp_all[Ys]
theorem arB{n:Nat}{v:af}(h:flat v=aa):low n v:=WJ h
theorem h2.flat{P:bI}{f:FuncId}{fn:Func}{c:Code}{a:Array af}{z:Nat->bW}{m:Mem}{r:af}(t:P.funcs[f]?=J fn)(j:qm P fn c)(y:lR P f=aa)(w:a.size<=fn.ntmps)(E:aF.flat r=aa)
  (h:∀g,(∀i v,a.toList[i]?=J v->g i=v)->W P c (λe g k=>(e=.normal\/e=.ret)/\∃n,dL n m k ae/\∃d,q2 P g k fn.results.toList d/\(d.length=1\/∀x∈d,storable x=aa)/\pack d=r) g m):h2 P f a m λv C=>v=r/\C=m:=by
 refine h2.enter t j y w ((h _ λi v s=>ade s).mono ?_);rintro e g k ⟨B,n,l,d,A,q,p⟩;refine⟨B,d,A,q,.inr ⟨⟨p,l.awi⟩,by grind[arB],λb j=>.inl (l.kept b j (by simp))⟩⟩
def h2.any{P:bI}{f:FuncId}{fn:Func}{c:Code}{a:Array af}{m:Mem}{R:af->Mem->Prop}(l:P.funcs[f]?=J fn)(j:qm P fn c)(p:lR P f=aa)(n:a.size<=fn.ntmps)
  (h:∀b,(∀i v,a.toList[i]?=J v->b i=v)->W P c (λe b g=>(e=.normal\/e=.ret)/\∃d,q2 P b g fn.results.toList d/\(d.length=1\/∀x∈d,storable x=aa)/\R (pack d) g) b m):h2 P f a m R:=by
 refine h2.enter l j p n ((h _ λi v k=>ade k).mono ?_)
 grind
end
section
inductive Tag where
 |pure
 |read (I:Mem->Prop)
 |new
 |fX
def cH(P:bI)(a:bS->af)(o:Oper)(m:Mem)(D:Tag->af->Mem->Prop):Prop:=
 (∃v,dD P a o v/\D .pure v m)\/(∃v I,dD P a o v/\D (.read I) v m)\/(∃v,fH P a o m v/\D (.read λm=>fH P a o m v) v m)\/
 (∃X v,jC P a o m.next X v/\D .new v (m.push X))\/(∃n v b,hR P (jn P n) a o m v b/\D .fX v b)
section
variable {P:bI}{ap:bS->af}{o:Oper}{m:Mem}{D:Tag->af->Mem->Prop}{K:af->Mem->Prop}
theorem cH.pure{v:af}(h:dD P ap o v)(a:D .pure v m):cH P ap o m D:=.inl ⟨v,h,a⟩
def cH.abT{v:af}{I:Mem->Prop}(h:dD P ap o v)(a:D (.read I) v m):cH P ap o m D:=.inr (.inl ⟨v,I,h,a⟩)
theorem cH.read{v:af}(h:fH P ap o m v)(a:D (.read λm=>fH P ap o m v) v m):cH P ap o m D:=.inr (.inr (.inl ⟨v,h,a⟩))
theorem cH.new{v:af}{X:bW}(h:jC P ap o m.next X v)(a:D .new v (m.push X)):cH P ap o m D:=.inr (.inr (.inr (.inl ⟨X,v,h,a⟩)))
theorem cH.fX{n:Nat}{v:af}{a:Mem}(h:hR P (jn P n) ap o m v a)(b:D .fX v a):cH P ap o m D:=.inr (.inr (.inr (.inr ⟨n,v,a,h,b⟩)))
def cH.w(h:cH P ap o m λ_=>K):mr P ap o m K:=by
 rcases h with⟨v,h,a⟩|⟨v,I,h,a⟩|⟨v,h,a⟩|⟨X,v,h,a⟩|⟨n,v,b,h,a⟩
 ·grind[mr.pure]
 ·grind[mr.pure]
 ·grind[mr.read]
 ·grind[mr.new]
 grind[mr.fX]
def cH.call{f:FuncId}{a:Array af}(d:callee o ap f a)(h:h2 P f a m (D .fX)):cH P ap o m D:=by
 obtain⟨n,v,g,e,b⟩:=h;exact .fX (.call f a v g d e) b
end
def zi{P:bI}{C:FuncId->Array af->Mem->af->Mem->Prop}{k:List Oper}{B:Array Nat}:∀(l:List Oper)(i:Nat)(A e:Acc)(p n:Nat->af)(m q:Mem),(∀x∈e.reads,x∈A.reads)->(∀x∈e.iC,x∈A.iC)->(∀x∈e.news,x∈A.news)->hW P C k B i l A p m n q->hW P C k B i l e p m n q
 |[],i,A,e,p,n,m,q,_,_,_,h=>h
 |o::l,i,A,e,p,n,m,q,j,g,f,h=>by
  simp only[hW] at h⊢;split at h
  ·rename_i r;rw[if_pos r];rcases h with⟨v,b,d⟩|⟨v,b,s,d⟩|⟨X,v,b,d⟩|⟨v,y,b,t,w,d⟩
   ·exact .inl ⟨v,b,zi l _ _ _ _ _ _ _ j g f d⟩
   ·refine .inr (.inl ⟨v,b,λx a=>s x (g x a),zi l _ {A with reads:=_::A.reads} _ _ _ _ _ (λx a=>?_) g f d⟩)
    grind
   ·refine .inr (.inr (.inl ⟨X,v,b,zi l _ {A with news:=_::A.news} _ _ _ _ _ j g (λx a=>?_) d⟩))
    grind
   ·refine .inr (.inr (.inr ⟨v,y,b,λx a=>t x (j x a),λx a=>w x (f x a),zi l _ {A with iC:=_::A.iC} _ _ _ _ _ j (λx a=>?_) f d⟩))
    grind
  ·rename_i r;rw[if_neg r];exact zi l _ _ _ _ _ _ _ j g f h
def u7(B:Array Nat)(i:Nat)(A:Acc)(m:Mem):Tag->Mem->Prop|.pure,_=>True|.read I,_=>∀x∈A.iC,gD B i x.1=ak->I x.2|.new,_=>True|.fX,a=>(∀x∈A.reads,gD B i x.1=ak->x.2 a)/\∀x∈A.news,gD B i x.1=ak->a.blk x.2=m.blk x.2
def qL(A:Acc)(i:Nat)(m:Mem):Tag->Acc
 |.pure=>A
 |.read I=>{A with reads:=(i,I)::A.reads}
 |.new=>{A with news:=(i,m.next)::A.news}
 |.fX=>{A with iC:=(i,m)::A.iC}
section
variable {P:bI}{ops l:List Oper}{B:Array Nat}{i:Nat}{A:Acc}{K:(Nat->af)->Mem->Prop}{fr:Nat->af}{m:Mem}{o:Oper}
theorem ea.Ue(a:wanted ops fr o=aa)(h:cH P (bk fr) o m λ_ v b=>ea P ops l K (set fr o.dst v) b):ea P ops (o::l) K fr m:=ea.cons a h.w
theorem hQ.cons(g:wanted ops fr o=aa)(h:cH P (bk fr) o m λt v k=>u7 B i A m t k/\hQ P ops B (i+1) l (qL A i m t) K (set fr o.dst v) k):hQ P ops B i (o::l) A K fr m:=by
 have s:∀{n p:Nat}(_:n<=p){l:List Oper}{i:Nat}{A:Acc}{fr a:Nat->af}{m b:Mem},hW P (jn P n) ops B i l A fr m a b->hW P (jn P p) ops B i l A fr m a b:=λq=>vd (wV _ _ q) _ _ _ _ _ _ _;rcases h with⟨v,h,_,n,a,b,e,d⟩|⟨v,I,h,_,n,a,b,e,d⟩|⟨v,h,j,n,a,b,e,d⟩|⟨X,v,h,_,n,a,b,e,d⟩|⟨r,v,k,h,j,n,a,b,e,d⟩
 ·refine⟨n,a,b,?_,d⟩;simp only[hW];rw[if_pos g];exact .inl ⟨v,h,e⟩
 ·refine⟨n,a,b,?_,d⟩;simp only[hW];rw[if_pos g];exact .inl ⟨v,h,zi _ _ {A with reads:=(i,I)::A.reads} A _ _ _ _ (λx f=>List.mem_cons_of_mem _ f) (λx f=>f) (λx f=>f) e⟩
 ·refine⟨n,a,b,?_,d⟩;simp only[hW];rw[if_pos g];exact .inr (.inl ⟨v,h,j,e⟩)
 ·refine⟨n,a,b,?_,d⟩;simp only[hW];rw[if_pos g];exact .inr (.inr (.inl ⟨X,v,h,e⟩))
 ·refine⟨max r n,a,b,?_,d⟩;simp only[hW];rw[if_pos g];exact .inr (.inr (.inr ⟨v,k,h.mono (wV _ _ (Nat.le_max_left _ _)),j.1,j.2,s (Nat.le_max_right _ _) e⟩))
def hQ.skip(e:wanted ops fr o=ak)(h:hQ P ops B (i+1) l A K (set fr o.dst undef) m):hQ P ops B i (o::l) A K fr m:=by
 obtain⟨n,b,d,f,a⟩:=h;refine⟨n,b,d,?_,a⟩
 grind[hW]
def hQ.done(h:∀a,a=fr->K a m):hQ P ops B i [] A K fr m:=⟨0,_,_,⟨rfl,rfl⟩,h _ rfl⟩
end
def au0{P:bI}{n:bS->af}{o:Oper}{A:Type}{T:cM A}{z:Nat->bW}{g:List A}{v:af}{x:bS}{t:bV}{i:TypeInfo}{q p:Option bS}{a b:Int}{r:List A}(h:o.op=.slice t x q p ae)(E:P.underlying t=J (.slice T.tid))(M:P.info? T.tid=J i)(cN:i.size=T.bM)(F:n x=v)
  (eW:y5 n q a) (Z:zK n p g.length b) (V:fA T z g v) (S:gi g a b=J r):
  ∃I,(dD P n o I\/∀m,lk z m->fH P n o m I)/\fA T z r I:=by
 obtain⟨O,h1,ai,rfl⟩:=Ws S;obtain⟨d,rfl⟩:=sD O;obtain⟨f,rfl⟩:=sD (Int.le_trans O h1);have R:d<=f:=by omega
 have nx:f<=g.length:=by omega
 simp only[sG];have C:=K4 eW;have B:=KM Z;have s:((g.take f).drop d).length=f-d:=by grind
 rcases V with⟨rfl,rfl⟩|⟨j,e,c,rfl,y,kJ,mb⟩
 ·have qP:f=0:=by grind
  subst qP;have H:d=0:=by omega
  subst H;exact⟨.slice ae 0 0,.inl (.nc t x q p T.tid i h E M F C B),.inl ⟨rfl,by rfl⟩⟩
 ·have l:∀N,N=e+d*T.bM->∀(k:Nat)(w:A),((g.take f).drop d)[k]?=J w->∃K,T.rd z w K/\o2 z j (N+k*T.bM) K:=by
   intro N mc k w Q;obtain⟨K,g1,g2⟩:=mb _ w (WU Q)
   grind
  rcases kJ with⟨rfl,L,Y,yS⟩|⟨ay,hle⟩
  ·refine⟨_,.inr λm X=>(.slice t x q p T.tid i L j e g.length d f h E M F ?_ C B R nx (by grind)),?_⟩
   ·rw[(X.iD y).1];grind
   ·refine .inr ⟨j,e+d*T.bM,dc,by grind,y,.inl ⟨rfl,L,Y,?_⟩,l _ rfl⟩;rw[s,sK,<-ko];have:(d+(f-d))*T.bM<=g.length*T.bM:=oH _ (by omega);omega
  ·refine⟨_,.inl (.slice t x q p T.tid i j e g.length c d f h E M F (by grind) C B R (by omega) (λ_=>trivial)),?_⟩;by_cases pv:c=d
   ·have U:f-d=0:=by omega
    refine .inr ⟨j,e,c-d,by grind,y,.inr ⟨by omega,by grind⟩,λk w Q=>?_⟩
    grind
   ·refine .inr ⟨j,e+d*T.bM,c-d,by grind,y,.inr ⟨by omega,by grind⟩,l _ rfl⟩
section
variable {aK:Type}{T:cM aK}{z z':Nat->bW}{e m m':Mem}{k q:Option Nat}{xs:List aK}{v:af}{b:Nat}{cs:List af}{t:bV}
variable {P:bI}{ap:bS->af}{o:Oper}{w:af}{b4:List aK}{x y:bS}{u:bV}{i:TypeInfo}{K:af->Mem->Prop}{D:Tag->af->Mem->Prop}
def K3(h:o.op=.call {callee:=.builtin .append,args:=#[x,y],argTypes:=#[t,u]})(g:P.underlying t=J (.slice T.tid))(s:P.info? T.tid=J i){f:af}(I:i.zero=J f)(F:f.cells.toList.all dy=aa)(H:f.cells.size=i.size)
  (B:i.size=T.bM) (U:(T.bM==0)=ak) (K:iJ i.bytes 32768=aa) (L:(∃E,P.underlying u=J (.slice E))\/P.underlying u=J .string) (q:ap x=v) (A:dU T z e m k xs v) (n:ap y=w) (M:Src T z m b4 w)
  (j:dL z e m k) {r:List aK} (l:cD xs b4=J r)
  (V:∀d a,dL z e a k->dU T z e a k r d->gl m a (da v)->(∀p,(∀b,p=J b->b<m.next)->e6 p (da v)->e6 p (da d))->D .fX d a):cH P ap o m D:=by
 obtain⟨d,a,S,O,N,Q,R⟩:=as0 (C:=jn P 0) h g s I F H B (by grind) (pk K) L q A n M j l
 grind[cH.fX]
def ae7{x0:aK}{B A:aG}{n:Int}(h:o.op=.makeSlice t x y)(g:P.underlying t=J (.slice T.tid))(w:P.info? T.tid=J i){d:af}(I:i.zero=J d)(E:d.cells.toList.all dy=aa)(H:d.cells.size=i.size)(C:i.size=T.bM)(K:iJ i.bytes 32768=aa)
  (F:T.rd z x0 d.cells.toList) (s:ap x=.int B n) (q:ap y=.int A n) (j:dL z e m k) {r:List aK} (l:hy x0 n=J r)
  (U:∀f a,dL z e a k->dU T z e a k r f->gl m a ae->(∀p,(∀b,p=J b->b<m.next)->e6 p (da f))->D .new f a):cH P ap o m D:=by
 obtain⟨f,a,L,R,S,rfl,N,M,O,Q⟩:=avc h g w I E H C (pk K) F s q j l
 grind[cH.new]
def Xn{j:Array (Nat×bS)}{l:Nat}(h:o.op=.buildSlice t l j)(n:P.underlying t=J (.slice T.tid))(w:P.info? T.tid=J i){f:af}(B:i.zero=J f)(y:f.cells.toList.all dy=aa)(A:f.cells.size=i.size)(x:i.size=T.bM)
  (g:List aK) (C:List (List af)) (q:g.length=l) (E:iJ (l*T.bM) 16777216=aa) (Q:Nat.blt l 9223372036854775808=aa) (s:wZ T z ap j.toList 0 g C) (r:dL z e m k)
  (O:∀d a,dL z e a k->dU T z e a k g d->gl m a ae->(∀p,(∀b,p=J b->b<m.next)->e6 p (da d))->D .new d a):cH P ap o m D:=by
 obtain⟨d,a,L,M,N,rfl,H,F,I,K⟩:=atv h n w B y A x q (pk E) (by simp_all) s r
 grind[cH.new]
def atB{s:List UInt8}{a:bV}(h:o.op=.convert u t x)(A:P.underlying u=J .string)(j:P.underlying t=J (.slice a))(w:P.underlying a=J (.int .u8))(r:P.info? a=J i)(B:i.size=1)(q:ap x=str s){g:List UInt8}(l:cD s []=J g)(n:dL z e m k)
  (y:∀f d,dL z e d k->dU (kE a) z e d k g f->gl m d ae->(∀p,(∀b,p=J b->b<m.next)->e6 p (da f))->D .new f d):cH P ap o m D:=by
 obtain⟨M,rfl⟩:=tv l;rw[List.append_nil] at y;obtain⟨f,d,L,I,K,rfl,E,C,F,H⟩:=atw h A j w r B q (by grind[uf]) n
 grind[cH.new]
def abd{a:Nat}{new:List af}{g:bV}(h:o.op=.store t x y)(s:P.info? t=J i)(q:ap x=.pointer (J ⟨b,a,ae⟩))(p:ap y=w)(j:storable w=aa)(A:w.cells.toList=new)(B:new.length=i.size)(r:jQ z e m k b cs g)(l:iJ (a+new.length) cs.length=aa)(d:List af)(E:eY cs a new=d)(n:dL z e m k)
  (L:∀f,dL z e f k->jQ z e f k b d g->gl m f (J b)->D .fX undef f):cH P ap o m D:=by
 obtain⟨f,K,H,F,I⟩:=amS (C:=jn P 0) h s q p j A B r (pk l) E n
 grind[cH.fX]
def J8{g p n f l c:Nat}{new j q:List af}{a a':aK}(h:o.op=.store t x y)(I:P.info? t=J i)(F:ap x=.pointer (J ⟨b,g,ae⟩))(S:g=p+n*T.bM+f)(E:ap y=w)(r:storable w=aa)(K:w.cells.toList=new)(M:new.length=i.size)
  (s:dU T z e m k xs v) (R:v=.slice (J ⟨b,p,ae⟩) l c) (N:xs[n]?=J a) (B:T.rd z a j) (H:∀(i:Nat)(u:af),j[i]?=J u->m.load b (p+n*T.bM+i)=J u) (Q:T.rd z a' q) (O:q=eY j f new) (L:iJ (f+new.length) j.length=aa) (A:dL z e m k)
  (Z:∀d,dL z e d k->dU T z e d k (xs.set n a') v->gl m d (da v)->D .fX undef d):cH P ap o m D:=by
 obtain⟨d,Y,V,U,X⟩:=amU (C:=jn P 0) h I F S E r K M s R N B H Q O (pk L) A
 grind[cH.fX]
def avh{r:aG}{n:Int}{a:aK}{f:bV}(h:o.op=.indexAddr t x y)(g:P.underlying t=J (.slice f))(l:P.info? f=J i)(s:i.size=T.bM)(k:ap x=v)(j:ap y=.int r n)(p:fA T z xs v)(q:al xs n=J a)
  (C:∀b d e,T.rd z a e->o2 z b d e->D .pure (.pointer (J ⟨b,d,ae⟩)) m):cH P ap o m D:=by
 obtain⟨b,d,e,B,A,w⟩:=avb h g l s k j p q
 grind[cH.pure]
def ae6{F:aG}{n:Int}{a:aK}{p:bV}(h:o.op=.indexAddr t x y)(q:P.underlying t=J (.slice p))(B:P.info? p=J i)(H:i.size=T.bM)(A:ap x=v)(s:ap y=.int F n)(C:dU T z e m k xs v)(g:al xs n=J a)
  (K:∀b d l c f,v=.slice (J ⟨b,d,ae⟩) l c->T.rd z a f->xs[n.toNat]?=J a->(∀(j:Nat)(u:af),f[j]?=J u->m.load b (d+n.toNat*T.bM+j)=J u)->D .pure (.pointer (J ⟨b,d+n.toNat*T.bM,ae⟩)) m):cH P ap o m D:=by
 obtain⟨b,d,l,c,f,I,w,r,E⟩:=ava h q B H A s C g;exact cH.pure I (K _ _ _ _ _ w r (o3 g).2.2 E)
def apg{l j:Option bS}{a b:Int}{r:List aK}(h:o.op=.slice t x l j ae)(p:P.underlying t=J (.slice T.tid))(E:P.info? T.tid=J i)(A:i.size=T.bM)(w:ap x=v)
  (C:y5 ap l a) (B:zK ap j xs.length b) (y:fA T z xs v) (q:dL z e m k) (s:gi xs a b=J r) (n:∀f I,(∀m,lk z m->I m)->fA T z r f->D (.read I) f m):cH P ap o m D:=by
 obtain⟨f,d,g⟩:=au0 h p E A w C B y s;rcases d with d|d
 ·exact cH.abT (I:=λ_=>True) d (n _ _ (λ_ _=>trivial) g)
 ·exact cH.read (d m q.bZ) (n _ _ d g)
def avf{s r:List UInt8}{f d:Option bS}{a b:Int}(h:o.op=.slice t x f d ae)(g:P.underlying t=J .string)(j:ap x=str s)(l:y5 ap f a)(k:zK ap d s.length b)(i:gi s a b=J r)(p:D .pure (str r) m):cH P ap o m D:=by
 obtain⟨e,n,w,rfl⟩:=Ws i;obtain⟨q,rfl⟩:=sD e;obtain⟨y,rfl⟩:=sD (Int.le_trans e n);exact cH.pure (asH h g j (K4 l) (KM k) (by omega) (by omega)) p
def as6{s:List UInt8}{c:UInt8}{i:aG}{n:Int}(h:o.op=.index t x y)(a:P.underlying t=J .string)(e:ap x=str s)(b:ap y=.int i n)(g:al s n=J c)(j:D .pure (.int .u8 c.toNat) m):cH P ap o m D:=by
 obtain⟨f,k,d⟩:=o3 g;exact cH.pure (asG h a e b f d) j
def avj{s:List UInt8}{b:bV}(h:o.op=.convert t u x)(f:P.underlying t=J (.slice b))(j:P.underlying b=J (.int .u8))(n:P.underlying u=J .string)(i:ap x=v)(d:fA (kE b) z s v)(g:dL z e m k)(l:D (.read λm=>fH P ap o m (str s)) (str s) m):cH P ap o m D:=
 cH.read (afk h f j n i (d.src g.bZ) (by obtain⟨a,c,rfl⟩:=d.len;grind)) l
def avi{s:List UInt8}{b:bV}(h:o.op=.convert t u x)(f:P.underlying t=J (.slice b))(i:P.underlying b=J (.int .u8))(l:P.underlying u=J .string)(g:ap x=v)(d:dU (kE b) z e m k s v)(j:D (.read λm=>fH P ap o m (str s)) (str s) m):cH P ap o m D:=
 cH.read (afk h f i l g d.bT.src (by obtain⟨a,c,rfl⟩:=d.bT.len;exact⟨_,_,_,rfl⟩)) j
def as5{d:Array (Nat×bS)}{b:Array Field}{f:List (Option (Nat×Nat))}{a:af}(g:List (Nat×af))(e:List af)(h:o.op=.build t d)(l:P.underlying t=J (.struct b))(q:P.info? t=J i)(r:i.zero=J a)(s:a.cells.toList.all dy=aa)
  (j:pC P b=f) (y:f.all Option.isSome=aa) (x:d.toList.map (λp=>(p.1,ap p.2))=g) (n:k5 (λk=>(f[k]?).join) a.cells.toList g=J e) (w:D .pure (.agg e.toArray) m):cH P ap o m D:=by
 subst j x;exact cH.pure (.build t d b i a e h l q r s (by grind) n) w
variable {ops l:List Oper}{fr:Nat->af}{pQ:(Nat->af)->Mem->Prop}
def ea.Ud{j d:Nat}{a b:Bool}(i:o.guard=J (j,a))(g:(ops[j]?).bind (·.dst)=J d)(e:fr d=.bool b)(f:b=a)(h:cH P (bk fr) o m λ_ v k=>ea P ops l pQ (set fr o.dst v) k):ea P ops (o::l) pQ fr m:=
 ea.Ue (by subst f;simp[wanted,i,g,e]) h
def ea.P3{j d:Nat}{a b:Bool}(i:o.guard=J (j,a))(g:(ops[j]?).bind (·.dst)=J d)(e:fr d=.bool b)(f:b= !a)(h:ea P ops l pQ (set fr o.dst undef) m):ea P ops (o::l) pQ fr m:=
 ea.skip (by subst f;simp[wanted,i,g,e]) h
def ea.X6{j d:Nat}{a:Bool}(f:o.guard=J (j,a))(e:(ops[j]?).bind (·.dst)=J d)(b:fr d=undef)(h:ea P ops l pQ (set fr o.dst undef) m):ea P ops (o::l) pQ fr m:=
 ea.skip (by simp[wanted,f,e,b,undef]) h
def hQ.Ud{B:Array Nat}{n:Nat}{A:Acc}{j d:Nat}{want nZ:Bool}(bs:o.guard=J (j,want))(bg:(ops[j]?).bind (·.dst)=J d)(aD:fr d=.bool nZ)(aw:nZ=want)(h:cH P (bk fr) o m λt v m1=>u7 B n A m t m1/\hQ P ops B (n+1) l (qL A n m t) pQ (set fr o.dst v) m1):hQ P ops B n (o::l) A pQ fr m:=
 hQ.cons (by subst aw;simp[wanted,bs,bg,aD]) h
def hQ.P3{B:Array Nat}{n:Nat}{A:Acc}{j d:Nat}{a b:Bool}(i:o.guard=J (j,a))(g:(ops[j]?).bind (·.dst)=J d)(e:fr d=.bool b)(f:b= !a)(h:hQ P ops B (n+1) l A pQ (set fr o.dst undef) m):hQ P ops B n (o::l) A pQ fr m:=
 hQ.skip (by subst f;simp[wanted,i,g,e]) h
def hQ.X6{B:Array Nat}{n:Nat}{A:Acc}{j d:Nat}{a:Bool}(f:o.guard=J (j,a))(e:(ops[j]?).bind (·.dst)=J d)(b:fr d=undef)(h:hQ P ops B (n+1) l A pQ (set fr o.dst undef) m):hQ P ops B n (o::l) A pQ fr m:=
 hQ.skip (by simp[wanted,f,e,b,undef]) h
end
end
section
def ab1{d:TypeDesc}{k:af}(a:TF d k):∀(l:List MapEntry)(i:Nat),(∀x∈l,TF d x.key)->Instr.findNow d k l i=J (o6 k l i)
 |[],i,_=>rfl
 |e::g,i,h=>by
  obtain⟨r,m,f⟩:=MapKept.sameNow_of_keys a (h e (.head _));have j:=ab1 a g (i+1) (λx b=>h x (.tail _ b))
  grind[o6,Instr.findNow]
def ac4{P:bI}{b:bV}{d:TypeDesc}(e:P.underlying b=J d){f:af->Prop}(a:∀v,f v->TF d v):Keyed P b f where
 check:=λj v w h=>MapKept.run_checkKey e (a v h) j _
 find:=λv k w h i=>MapKept.run_findKey e (ab1 (a v h) k 0 λx g=>a _ (i x g))
 stays:=λv w h=>MapKept.run_keyThatStays (a v h)
structure ph(aK cg:Type) where
 eo:aK->List af
 vc:cg->List af
 tid:bV
structure nX(P:bI)(bG:bV){aK:Type}(eo:aK->List af):Prop where
 len:∀a,(eo a).length=P.cellsOf bG
 pos:0<P.cellsOf bG
 flat:∀a,(eo a).all dy=aa
 A4:∀a,aF.flat (ey (ek P bG) (eo a))=aa
 inj:∀a b,ey (ek P bG) (eo a)=ey (ek P bG) (eo b)->a=b
 keyed:Keyed P bG λv=>∃a,v=ey (ek P bG) (eo a)
structure oK(P:bI)(bA:bV){cg:Type}(vc:cg->List af):Prop where
 len:∀b,(vc b).length=P.cellsOf bA
 one:ek P bA=ak->P.cellsOf bA=1
 flat:∀b,(vc b).all dy=aa
def tl(k:aG)(n:Int):List af:=[.int k n]
def BD(s:List UInt8):List af:=[str s]
def Cr(b:Bool):List af:=[.bool b]
def si{P:bI}{t:bV}{d:TypeDesc}(h:P.underlying t=J d)(a:lI d=ak):ek P t=ak:=by grind[ek]
def atC{P:bI}{d:bV}{k:aG}{i:TypeInfo}(h:P.underlying d=J (.int k))(f:P.info? d=J i)(g:i.size=1):nX P d (tl k) where
 len:=λa=>by grind[tl,nY]
 pos:=by grind[nY]
 flat:=λa=>rfl
 A4:=λa=>by rw[si h rfl];rfl
 inj:=λa b e=>by rw[si h rfl] at e;grind[ey,tl]
 keyed:=ac4 h (by rintro v ⟨a,rfl⟩;rw[si h rfl];rfl)
def ad7{a b:List UInt8}(h:str a=str b):a=b:=by
 grind[str]
def atD{P:bI}{d:bV}{i:TypeInfo}(h:P.underlying d=J .string)(f:P.info? d=J i)(g:i.size=1):nX P d BD where
 len:=λa=>by grind[BD,nY]
 pos:=by grind[nY]
 flat:=λa=>rfl
 A4:=λa=>by rw[si h rfl];rfl
 inj:=λa b e=>by rw[si h rfl] at e;exact ad7 e
 keyed:=ac4 h (by rintro v ⟨a,rfl⟩;rw[si h rfl];simp[ey,BD,str,TF])
def atU{P:bI}{b:bV}{k:aG}{i:TypeInfo}(h:P.underlying b=J (.int k))(d:P.info? b=J i)(e:i.size=1):oK P b (tl k):=
 ⟨λa=>by grind[tl,nY],λ_=>by grind[nY],λ_=>rfl⟩
def asQ{P:bI}{b:bV}{i:TypeInfo}(h:P.underlying b=J .bool)(d:P.info? b=J i)(e:i.size=1):oK P b Cr:=
 ⟨λa=>by grind[Cr,nY],λ_=>by grind[nY],λ_=>rfl⟩
section
variable {aK cg:Type}
def jv[DecidableEq aK]:List (aK×cg)->aK->Option cg|[],_=>ae|p::b,a=>if p.1=a then J p.2 else jv b a
def o8[DecidableEq aK]:List (aK×cg)->aK->cg->List (aK×cg)|[],a,b=>[(a,b)]|p::d,a,b=>if p.1=a then(p.1,b)::d else p::o8 d a b
def ph.p4(M:ph aK cg)(a:List (aK×cg)):List (List af×List af):=a.map λp=>(M.eo p.1,M.vc p.2)
def ph.cells(M:ph aK cg)(a:List (aK×cg)):List af:=(M.p4 a).flatMap λp=>p.1++p.2
structure jD(M:ph aK cg)(z:Nat->bW)(e m:Mem)(k:Option Nat)(es:List (aK×cg))(v:af):Prop where
 bT:∃r,v=.map (J r)/\m.blk r=.map (M.cells es) M.tid/\r<m.next/\z r=.dead/\e.next<=r
def nn(M:ph aK cg)(z:Nat->bW)(a:List (aK×cg))(v:af):Prop:=(v=.map ae/\a=[])\/∃r,v=.map (J r)/\z r=.map (M.cells a) M.tid
def tH:af->Option Nat|.map r=>r|_=>ae
variable {M:ph aK cg}{z z':Nat->bW}{e m m':Mem}{k q:Option Nat}{es:List (aK×cg)}{v:af}
def jD.lt(h:jD M z e m k es v):∀b,tH v=J b->b<m.next:=by
 obtain⟨r,rfl,i,f,d,g⟩:=h.bT;intro b a;cases a;grind
def jD.same(h:jD M z e m k es v)(s:gl m m' q)(f:e6 (tH v) q):jD M z e m' k es v:=by
 obtain⟨r,rfl,g,a,b,d⟩:=h.bT;exact⟨r,rfl,by rw[s.blk r a (f r rfl)];grind,hS a s.next,b,d⟩
def jD.jP(h:jD M z e m k es v)(j:fl z z')(d:∀b,tH v=J b->z' b=z b):jD M z' e m k es v:=by
 obtain⟨r,rfl,g,a,i,f⟩:=h.bT;exact⟨r,rfl,g,a,by rw[d r rfl];grind,f⟩
def jD.bm(h:jD M z e m k es v):∀c,tH v=J c->z c=.dead/\(e.next<=c\/k=J c):=by
 obtain⟨r,rfl,g,d,b,f⟩:=h.bT;intro c a;cases a;grind
def jD.freeze(h:jD M z e m k es v)(a:dL z e m k):∃f,dT e.next z f/\dL f e m k/\nn M f es v/\∀p,e6 p (tH v)->∀b,p=J b->f b=z b:=by
 obtain⟨r,rfl,j,g,l,n⟩:=h.bT;refine⟨jT z m (J r),⟨Cj λb d=>by grind,λb d=>?_⟩,⟨Lj a.bZ (λb d=>by cases d;exact⟨g,by rw[j];rfl⟩),a.dead,a.oL,a.next,a.kept⟩,.inr ⟨r,rfl,by grind[jT]⟩,λp i b d=>?_⟩
 ·grind[jT]
 ·have:=i b d;unfold jT;rw[if_neg (show¬J r=J b from this)]
def nn.mono(h:nn M z es v)(a:fl z z'):nn M z' es v:=by
 rcases h with h|⟨r,rfl,b⟩
 ·exact .inl h
 ·exact .inr ⟨r,rfl,by rw[a r (by rw[b];exact fs)];grind⟩
def adI{P:bI}{b a:bV}(K:nX P b M.eo)(V:oK P a M.vc)(d:List (aK×cg)):qG (P.cellsOf b) (P.cellsOf a) (M.cells d) (M.p4 d):=by
 refine⟨rfl,λp e=>?_⟩;obtain⟨x,f,rfl⟩:=l2.1 e;exact⟨K.len _,V.len _⟩
def adB[DecidableEq aK]{P:bI}{e d:bV}(K:nX P e M.eo)(a:aK)(f:cg):∀b:List (aK×cg),uh (ek P e) (ek P d) (ey (ek P e) (M.eo a)) (ey (ek P d) (M.vc f)) (M.p4 b) (ey (ek P d) (M.vc ((jv b a).getD f))) (jv b a).isSome
 |[]=>.qZ
 |p::b=>by
  simp only[jv];by_cases h:p.1=a
  ·rw[if_pos h];exact .rS (M.eo p.1,M.vc p.2) (M.p4 b) (by grind)
  ·rw[if_neg h];exact .next (M.eo p.1,M.vc p.2) (M.p4 b) _ _ (λg=>h (K.inj _ _ g)) (adB K a f b)
def aeg[DecidableEq aK]{P:bI}{e:bV}(K:nX P e M.eo)(a:aK)(b:cg):∀d:List (aK×cg),uA (ek P e) (M.eo a) (M.vc b) (M.p4 d) (M.p4 (o8 d a b))
 |[]=>.qZ
 |p::d=>by
  simp only[o8];by_cases h:p.1=a
  ·rw[if_pos h];exact .rS (M.eo p.1,M.vc p.2) (M.p4 d) (by grind)
  ·rw[if_neg h];exact .next (M.eo p.1,M.vc p.2) (M.p4 d) _ (λf=>h (K.inj _ _ f)) (aeg K a b d)
def acV{P:bI}{b:bV}(e:List (aK×cg)):∀p∈M.p4 e,∃a,ey (ek P b) p.1=ey (ek P b) (M.eo a):=by
 intro p d;obtain⟨x,f,rfl⟩:=l2.1 d
 grind
def V6{P:bI}{d:bV}{e:cg->List af}(V:oK P d e)(b:cg):kz (ey (ek P d) (e b))=aa:=by
 have a:=V.flat b;have f:=V.len b;cases h:ek P d with
 |true=>grind[ey,kz]
 |false=>
  rw[V.one h] at f
  match g:e b,f with
  |[c],_=>rw[g] at a;simp at a;simp only[ey,List.headD_cons];cases c<;>first|exact a|grind[dy]|(simp[dy] at a;simp[a])
variable {P:bI}{ap:bS->af}{o:Oper}{D:Tag->af->Mem->Prop}{x dx:bS}{hZ bG bA:bV}{i:TypeInfo}{a:aK}{z0:cg}{ez ss:af}{ok:Bool}
theorem aex[DecidableEq aK]{r:Nat}(h:o.op=.lookup hZ x dx ok)(k:P.underlying hZ=J (.map bG bA))(j:P.underlying M.tid=J (.map bG bA))(K:nX P bG M.eo)(V:oK P bA M.vc)(e:P.info? bA=J i)(f:i.zero=J (ey (ek P bA) (M.vc z0)))
  (d:ap x=.map (J r)) (g:m.blk r=.map (M.cells es) M.tid) (b:ap dx=ey (ek P bG) (M.eo a)):
  fH P ap o m (if ok then .tuple #[ey (ek P bA) (M.vc ((jv es a).getD z0)),.bool (jv es a).isSome] else ey (ek P bA) (M.vc ((jv es a).getD z0))):=
 .lookup hZ x dx ok M.tid bG bA r _ _ i _ _ _ _ h k j (.inl ⟨d,g,adI K V es⟩) K.pos V.one K.keyed (by rw[b];exact K.A4 a) ⟨a,b⟩ (acV es) e f (V6 V z0) (by rw[b];exact adB K a z0 es)
def aty[DecidableEq aK](h:o.op=.lookup hZ x dx ok)(q:P.underlying hZ=J (.map bG bA))(n:P.underlying M.tid=J (.map bG bA))(K:nX P bG M.eo)(V:oK P bA M.vc)(g:P.info? bA=J i)(j:i.zero=J (ey (ek P bA) (M.vc z0)))
  (f:ap x=v) (b:jD M z e m k es v) (s:ap dx=ss) (t:ss=ey (ek P bG) (M.eo a)) {y:Option cg} (d:jv es a=y)
  (p:(if ok then .tuple #[ey (ek P bA) (M.vc (y.getD z0)),.bool y.isSome] else ey (ek P bA) (M.vc (y.getD z0)))=ez):fH P ap o m ez:=by
 obtain⟨r,rfl,l,_⟩:=b.bT
 grind[aex]
def aeB[DecidableEq aK](h:o.op=.lookup hZ x dx ok)(q:P.underlying hZ=J (.map bG bA))(n:P.underlying M.tid=J (.map bG bA))(K:nX P bG M.eo)(V:oK P bA M.vc)(g:P.info? bA=J i)(j:i.zero=J (ey (ek P bA) (M.vc z0)))
  (f:ap x=v) (b:jD M z e m k es v) (r:ap dx=ss) (s:ss=ey (ek P bG) (M.eo a)) {y:Option cg} (d:jv es a=y)
  (p:(if ok then .tuple #[ey (ek P bA) (M.vc (y.getD z0)),.bool y.isSome] else ey (ek P bA) (M.vc (y.getD z0)))=ez) (l:D (.read λm=>fH P ap o m ez) ez m):cH P ap o m D:=
 cH.read (aty h q n K V g j f b r s d p) l
def atz[DecidableEq aK](h:o.op=.lookup hZ x dx ok)(k:P.underlying hZ=J (.map bG bA))(j:P.underlying M.tid=J (.map bG bA))(K:nX P bG M.eo)(V:oK P bA M.vc)(f:P.info? bA=J i)(g:i.zero=J (ey (ek P bA) (M.vc z0)))
  (e:ap x=v) (l:nn M z es v) (bZ:lk z m) (b:ap dx=ss) (d:ss=ey (ek P bG) (M.eo a)) {y:Option cg} (n:jv es a=y)
  (s:(if ok then .tuple #[ey (ek P bA) (M.vc (y.getD z0)),.bool y.isSome] else ey (ek P bA) (M.vc (y.getD z0)))=ez):fH P ap o m ez:=by
 subst s n;rcases l with⟨rfl,rfl⟩|⟨r,rfl,q⟩
 ·exact .lookup hZ x dx ok M.tid bG bA 0 [] [] i _ _ _ _ h k j (.inr ⟨e,rfl⟩) K.pos V.one K.keyed (by rw[b,d];exact K.A4 a) ⟨a,b.trans d⟩ (λp t=>by grind) f g (V6 V z0) .qZ
 ·exact aex h k j K V f g e (by rw[(bZ.iD (show(_:bW).iD by rw[q];exact fs)).1];grind) (b.trans d)
def aeC[DecidableEq aK](h:o.op=.lookup hZ x dx ok)(r:P.underlying hZ=J (.map bG bA))(p:P.underlying M.tid=J (.map bG bA))(K:nX P bG M.eo)(V:oK P bA M.vc)(j:P.info? bA=J i)(l:i.zero=J (ey (ek P bA) (M.vc z0)))
  (g:ap x=v) (b:nn M z es v) (d:dL z e m k) (s:ap dx=ss) (t:ss=ey (ek P bG) (M.eo a)) {y:Option cg} (f:jv es a=y)
  (q:(if ok then .tuple #[ey (ek P bA) (M.vc (y.getD z0)),.bool y.isSome] else ey (ek P bA) (M.vc (y.getD z0)))=ez) (n:D (.read λm=>fH P ap o m ez) ez m):cH P ap o m D:=
 cH.read (atz h r p K V j l g b d.bZ s t f q) n
def ar1{t:bV}(M:ph aK cg)(h:o.op=.makeMap t ae)(j:P.underlying t=J (.map bG bA))(n:M.tid=t)(a:dL z e m k)
  (l:∀g d,dL z e d k->jD M z e d k [] g->gl m d ae->(∀p,(∀b,p=J b->b<m.next)->e6 p (tH g))->D .new g d):cH P ap o m D:=by
 have f:z m.next=.dead:=by
  cases s:z m.next with
  |dead=>rfl
  |ro w=>have:=(a.bZ m.next (by grind)).2;omega
  |own L t=>have:=(a.bZ m.next (by grind)).2;omega
  |map L t=>have:=(a.bZ m.next (by grind)).2;omega
  |lock _ _ _ _=>have:=(a.bZ m.next (by grind)).2;omega
 refine cH.new (.makeMap t bG bA h j) (l _ _ (a.push _) ⟨m.next,rfl,by grind[Mem.push,ph.cells,ph.p4],by simp[Mem.push],f,a.next⟩ (BN a.dead) λp r b q i=>?_);cases i
 grind
def as7[DecidableEq aK]{j f:bS}{b:cg}{H:af}(h:o.op=.mapUpdate hZ x j f\/o.op=.insert hZ x j f)(X:P.underlying hZ=J (.map bG bA))(U:P.underlying M.tid=J (.map bG bA))(K:nX P bG M.eo)(V:oK P bA M.vc)
  (N:ap x=v) (B:jD M z e m k es v) (w:ap j=ss) (y:ss=ey (ek P bG) (M.eo a)) (q:ap f=H) (s:H=ey (ek P bA) (M.vc b)) (C:dL z e m k) {F:List (aK×cg)} (Y:o8 es a b=F)
  (T:∀l,dL z e l k->jD M z e l k F v->gl m l (tH v)->D .fX undef l):cH P ap o m D:=by
 obtain⟨r,rfl,S,g,L,Q⟩:=B.bT;subst Y;have E:=zm (x:=.map (M.cells (o8 es a b)) M.tid) C.dead g;have Z:=V6 V b;have p:=q.trans s;have R:storable (ap f)=aa:=by rw[p];cases i:ey (ek P bA) (M.vc b)<;>first|rfl|grind[kz,dy]|grind[kz,dy,storable]
 have I:∀c∈M.vc b,c∈(ap f).cells.toList:=by
  intro c i;rw[p];cases O:ek P bA with
  |true=>grind[ey,yu]
  |false=>
   have g:=V.len b;rw[V.one O] at g
   match A:M.vc b,g with
   |[d],_=>rw[A] at i;simp at i;subst i;simp only[ey,List.headD_cons];have t:=V.flat b;rw[A] at t;simp at t;cases c<;>first|(simp[dy] at t;done)|simp[yu]
 refine cH.fX (n:=0) (.mapUpdate hZ x j f M.tid bG bA r _ (M.eo a) (M.vc b) _ (M.p4 (o8 es a b)) _ h X U N S (adI K V es) K.pos K.keyed (w.trans y) (K.len a) (K.flat a) (by rw[w,y];exact K.A4 a) ⟨a,w.trans y⟩ (acV es) R p (V.len b) I (aeg K a b es)) (T _ (C.same E B.bm) ⟨r,rfl,by simp[Mem.put,ph.cells],g,L,Q⟩ E)
end
end
section
section
variable {P:bI}{ap:bS->af}{o:Oper}{x y:bS}{t u:bV}{k afE:aG}{a:Int}
noncomputable instance azh:DecidableEq af:=λ_ _=>Classical.propDecidable _
def I0(P:bI)(t:bV)(x y:af):Prop:=(∃k d a b,P.underlying t=J (.int d)/\x=.int k a/\y=.int k b)\/(∃a b,P.underlying t=J .bool/\x=.bool a/\y=.bool b)\/(∃a b,P.underlying t=J .string/\x=str a/\y=str b)
def sN(P:bI):List Field->Nat->List af->List af->Prop|[],_,[],[]=>True| f :: bY, i, x :: xs, y :: b4 => f.offset = i ∧ f.name ≠ "_" ∧ I0 P f.type x y ∧ sN P bY (i + 1) xs b4|_,_,_,_=>False
def arv{t:bV}{x y:af}(h:I0 P t x y)(d:Nat)(w:World):(Op.equalIn (d+1) t x y).run P w=.ok (decide (x=y)) w:=by
 rcases h with⟨k,e,a,b,h,rfl,rfl⟩|⟨a,b,h,rfl,rfl⟩|⟨a,b,h,rfl,rfl⟩
 ·rw[run_equalIn_int w d t k e a b h];congr 1
  grind
 ·rw[run_equalIn_bool' w d t a b h];congr 1
  grind
 ·rw[str,str,run_equalIn_string w d t _ _ h];congr 1
  grind[ByteArray.toList_eq]
def aqm{t:bV}{x y:af}(h:I0 P t x y):ek P t=ak:=by
 rcases h with⟨k,d,a,b,h,_⟩|⟨a,b,h,_⟩|⟨a,b,h,_⟩<;>simp[ek,h,lI]
def adq{t:bV}{cs:Array af}{i:Nat}{v:af}(e:ek P t=ak){d:TypeDesc}(b:P.underlying t=J d)(a:cs[i]?=J v)(w:World):(part t cs i).run P w=.ok v w:=by
 simp_all[ek,part,sb]
def arw{t:bV}{x y:af}(h:I0 P t x y):∃d,P.underlying t=J d:=by
 rcases h with⟨k,e,a,b,h,_⟩|⟨a,b,h,_⟩|⟨a,b,h,_⟩<;>exact⟨_,h⟩
def acn{pre pre':List af}(d:Nat)(w:World):∀{g:List Field}{i:Nat}{b a:List af},sN P g i b a->pre.length=i->pre'.length=i->(Op.eqFields (d+1) (pre++b).toArray (pre'++a).toArray g).run P w=.ok (decide (b=a)) w
 |[],i,[],[],_,_,_=>by rfl
 |f::g,i,x::b,y::a,⟨t,m,e,n⟩,s,z=>by
  obtain⟨r,j⟩:=arw e;have k:=aqm e;have p:=adq (P:=P) (cs:=(pre++x::b).toArray) (i:=f.offset) (v:=x) k j (by grind) w;have q:=adq (P:=P) (cs:=(pre'++y::a).toArray) (i:=f.offset) (v:=y) k j (by grind) w;have l:=acn (pre:=pre++[x]) (pre':=pre'++[y]) d w n (by grind) (by grind);simp only[List.append_assoc,List.singleton_append] at l;simp only[Op.eqFields];rw[if_pos m];simp only[kD,p,q,jE,arv e d w];by_cases A:x=y
  ·simp_all
  simp_all
 |[],_,_::_,_,h,_,_=>h.elim
 |[],_,[],_::_,h,_,_=>h.elim
 |_::_,_,[],_,h,_,_=>h.elim
 |_::_,_,_::_,[],h,_,_=>h.elim
def asM{b:Array Field}{d a:List af}(g:P.underlying t=J (.struct b))(f:P.stoodInHeld t=ak)(h:sN P b.toList 0 d a)(w:World):(Op.equalIn 10000 t (.agg d.toArray) (.agg a.toArray)).run P w=.ok (decide (d=a)) w:=by
 have e:P.fieldsOf t=b:=by grind[bI.fieldsOf]
 rw[show(10000:Nat)=9998+1+1 from rfl,run_equalIn_struct w _ t _ _ (by grind) f,e];have:=acn (P:=P) (pre:=[]) (pre':=[]) 9998 w h rfl rfl
 grind
theorem sN.flat:∀{g:List Field}{i:Nat}{e d:List af},sN P g i e d->e.all dy=aa/\d.all dy=aa
 |[],i,[],[],_=>⟨rfl,rfl⟩
 |f::g,i,x::e,y::d,⟨_,_,j,l⟩=>by
  obtain⟨m,n⟩:=sN.flat l;have:dy x=aa/\dy y=aa:=by rcases j with⟨k,p,a,b,h,rfl,rfl⟩|⟨a,b,h,rfl,rfl⟩|⟨a,b,h,rfl,rfl⟩<;>exact⟨rfl,rfl⟩
  grind
 |[],_,_::_,_,h=>h.elim
 |[],_,[],_::_,h=>h.elim
 |_::_,_,[],_,h=>h.elim
 |_::_,_,_::_,[],h=>h.elim
def abN{e:Array Field}{d b:List af}{r:Bool}(a:Bool)(h:o.op=.binOp (if a then .neq else .eql) t x y u)(g:P.underlying t=J (.struct e))(i:P.stoodInHeld t=ak)(p:P.eqGuardType P.depth t=ak)(f:sN P e.toList 0 d b)
  (n:ap x=.agg d.toArray) (m:ap y=.agg b.toArray) (l:r=aa↔d=b):dD P ap o (.bool (if a then !r else r)):=by
 have q:=f.flat;refine tF (x:=x) (y:=y) (by rw[h];rfl) (by grind) (by grind[flat,kz]) (by grind[flat,kz]) rfl λw=>?_;have k:=asM g i f w;have j:decide (d=b)=r:=by
  grind
 rw[j] at k;cases a with
 |false=>simp_all[execOp,run_eqGuard_agg,run_eql_struct]
 |true=>simp_all[execOp,run_eqGuard_agg,run_neq_struct]
end
section
variable {aK:Type}{T:cM aK}{z:Nat->bW}{e m:Mem}{k:Option Nat}{xs:List aK}{v:af}{t:bV}
variable {P:bI}{ap:bS->af}{o:Oper}{x:bS}{i:TypeInfo}{D:Tag->af->Mem->Prop}
end
@[reducible] def azf(n:Int):af:=.int .i64 n
@[reducible] def aze(b:Bool):af:=.bool b
@[reducible] def azg(b:Nat):af:=.pointer (J ⟨b,0,ae⟩)
section
variable {P:bI}{ops l:List Oper}{K:(Nat->af)->Mem->Prop}{fr:Nat->af}{m:Mem}{o:Oper}{v:af}
def avI(a:wanted ops fr o=aa)(h:dD P (bk fr) o v)(b:ea P ops l K (set fr o.dst v) m):ea P ops (o::l) K fr m:=ea.Ue a (cH.pure h b)
def jW{j d:Nat}{a b:Bool}(i:o.guard=J (j,a))(g:(ops[j]?).bind (·.dst)=J d)(e:fr d=.bool b)(f:b= !a)(h:ea P ops l K (set fr o.dst undef) m):ea P ops (o::l) K fr m:=ea.P3 i g e f h
end
structure aw3{aK:Type}(T:cM aK)(z:Nat->bW)(e m:Mem)(k:Option Nat)(xs:List aK)(v:af):Prop where
 bT:fO T z m xs v
 fresh:∀b,da v=J b->e.next<=b\/k=J b
section
variable {aK:Type}{T:cM aK}{z z':Nat->bW}{e m m':Mem}{k q:Option Nat}{xs:List aK}{v v0:af}{t:bV}
variable {P:bI}{ap:bS->af}{o:Oper}{w:af}{b4:List aK}{x y:bS}{u:bV}{i:TypeInfo}{K:af->Mem->Prop}{D:Tag->af->Mem->Prop}
end
end
end Go.aF