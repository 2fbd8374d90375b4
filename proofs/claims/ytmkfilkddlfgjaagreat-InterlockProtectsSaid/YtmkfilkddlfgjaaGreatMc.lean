import Derived.Maps.RangeRun
import Derived.Test.YtmkfilkddlfgjaaGreatMb
set_option linter.unusedSimpArgs false
set_option linter.unusedVariables false
open Array renaming ext'->asc
open Bool renaming and_eq_true->ara,and_eq_true_iff->as1,and_self->asG,noConfusion->atT,not_eq_true'->ar8,or_eq_false_iff->atU,or_eq_true->ar7,false->aqZ,true->aqW
open Classical renaming not_not->at'
open Go renaming IntKind->aq2,Operand->aq3,Program->aq1,TypeId->aq4,Value->aqX
open Go.MapKept renaming heap_alloc->aub
open List renaming all_cons->arR,all_eq_true->arc,contains_iff_mem->atV,ext_getElem?->asL,getD->ar3,getD_cons_succ->aun,getD_eq_getElem?_getD->aua,getElem?_append_left->arm,getElem?_append_right->arl,getElem?_cons_succ->asC,getElem?_eq_getElem->ary,getElem?_eq_none->atb,getElem?_eq_some_iff->aq5,getElem?_map->arH,getElem?_range->as8,getElem?_set->arv,getElem?_set_ne->as2,length_append->aro,length_cons->arw,length_map->arP,length_range->atE,length_set->asq,map_append->ar',map_cons->arN,mem_append->arj,mem_cons->arb,mem_cons_of_mem->ark,mem_cons_self->arp,mem_filter->atC,mem_flatMap->asD,mem_map->arf,mem_of_getElem?->are,mem_singleton->arX,not_mem_nil->asF,range->arC,reverse_reverse->auo
open Nat renaming add_assoc->arD,add_zero->arJ,beq->ard,beq_eq->atc,ble->arz,ble_eq->as0,blt->ass,blt_eq->atq,eq_of_beq_eq_true->arA,le_of_ble_eq_true->asg,le_refl->aq9,le_succ->arL,le_trans->arq,lt_irrefl->atg,lt_of_lt_of_le->aru,lt_or_ge->arQ,lt_succ_of_lt->atk,lt_succ_self->arU,mul_le_mul_right->asf,zero_add->arh,zero_le->asd
open Option renaming bind->aq0,getD_some->asm,map_eq_some_iff->atp,map_some->asz,some->arr,none->aqY,some->aqV
open Prod renaming ext->ath
section
namespace Go.aS
section
variable {P:aq1} {D:Nat->Type} {X:dB P D} {af:Type} {z z':Nat->a6} {e m m':Mem} {k:Option Nat} {vs vs':List aqX} {fr:Nat->aqX} {E:List (Nat×aQ D)} {O bD:List (aL D)} {o:Oper} {r:af}
theorem eW {au:Type} {p:Prop} [Decidable p] {a:Option au} {x:au} (h:(if p then a else aqY)=aqV x):p/\a=aqV x:=by
 split at h
 ·exact ⟨‹_›,h⟩
 ·cases h
theorem fu.refl (m:Mem):fu m m aqY:=⟨aq9 _,fun _ _ _=>rfl⟩
theorem fu.push (m:Mem) (Y:a6):fu m (m.push Y) aqY:=⟨arL _,fun b aa _=>if_neg (by omega)⟩
theorem fu.put (m:Mem) (c:Nat) (Y:a6):fu m (m.put c Y) (aqV c):=⟨aq9 _,fun b aa ar=>if_neg (fun h=>ar (by rw[h]))⟩
theorem fu.any (h:fu m m' aqY) (q:Option Nat):fu m m' q:=⟨h.1,fun b aa _=>h.2 b aa (by simp)⟩
theorem bZ.FX {af:aq3->aqX} {K j6:Tag->aqX->Mem->Prop} (h:bZ P af o m K)
  (h1:∀v,cP P af o v->(∃t,K t v m)->j6 .pure v m) (J:∀v,eT P af o m v->K (.read fun m=>eT P af o m v) v m->j6 (.read fun m=>eT P af o m v) v m)
  (aj:∀Y v,h0 P af o m.next Y v->K .new v (m.push Y)->j6 .new v (m.push Y)) (aM:∀n v m',gF P (h7 P n) af o m v m'->K .e7 v m'->j6 .e7 v m'):bZ P af o m j6:=by
 rcases h with ⟨v,h,g⟩|⟨v,I,h,g⟩|⟨v,h,g⟩|⟨Y,v,h,g⟩|⟨n,v,m',h,g⟩
 ·exact .inl ⟨v,h,h1 v h ⟨_,g⟩⟩
 ·exact .inl ⟨v,h,h1 v h ⟨_,g⟩⟩
 ·exact .inr (.inr (.inl ⟨v,h,J v h g⟩))
 ·exact .inr (.inr (.inr (.inl ⟨Y,v,h,aj Y v h g⟩)))
 ·exact .inr (.inr (.inr (.inr ⟨n,v,m',h,aM n v m' h g⟩)))
theorem ahm {C:FuncId->Array aqX->Mem->aqX->Mem->Prop} {v:aqX} (aT:∀x,rel X.G z vs (cn E x) (aK fr x)) (h:gF P C (aK fr) o m v m') {ts:List Nat} (ao:uU X E o.op=aqV ts)
  (ad:∀x as qm,o.op≠ .call {callee:= .value x,args:=as,argTypes:=qm}):∃q,fu m m' q/\mU vs ts q:=by
 cases h with
 |store t x y b off i L e h U ae hm ad ay ah=>
  simp only[uU,h] at ao;have an:=aT x;split at ao
  ·rename_i j p ay;cases ao;rw[ay] at an;obtain ⟨b6,g1,g2⟩:=an;rw[U] at g2;cases g2;exact ⟨_,fu.put m b _, .inr ⟨j,by simp,_,g1,rfl⟩⟩
  ·rename_i j u cy p ay;cases ao;rw[ay] at an;obtain ⟨b6,f0,l,c,g1,g2⟩:=an;rw[U] at g2;cases g2;exact ⟨_,fu.put m b _, .inr ⟨j,by simp,_,g1,rfl⟩⟩
  ·cases ao
 |call f args v m' h bW=>obtain ⟨x,as,qm,first,cap,h,_⟩:=h;exact absurd h (ad x as qm)
 |vw x y t u e i a l c h _ _ _ _ _ _=>exact ⟨aqY,fu.refl _, .inl rfl⟩
 |rD x y t u e i z a l c n dh new h _ _ _ _ _ _ _ _ _ _ _ _ _ _=>exact ⟨aqY,fu.push _ _, .inl rfl⟩
 |ye x y t u e i b off l c n L new h _ _ U _ hV aco _ lW _=>
  simp only[uU,h] at ao;have an:=aT x;split at ao
  ·rename_i ay;rw[ay] at an;have an:aK fr x= .slice aqY 0 0:=an;rw[U] at an;cases an
  ·rename_i j ay;cases ao;rw[ay] at an;exact ⟨_,fu.put m b _, .inr ⟨j,by simp,_,an.1,by rw[U];rfl⟩⟩
  ·rename_i j _ _ _ ay;cases ao;rw[ay] at an;obtain ⟨w,g1,g2⟩:=an;exact ⟨_,fu.put m b _, .inr ⟨j,by simp,_,g1.1,by rw[<-g2.aG,U];rfl⟩⟩
  ·rename_i ay;cases ao;rw[ay] at an;obtain ⟨_,_,a,aq⟩:=an;rw[U] at aq;cases aq;have aI:n=0:=by omega
   have o0:new=[]:=List.eq_nil_of_length_eq_zero (by rw[lW,aI,Nat.zero_mul]);subst o0;refine ⟨aqY,⟨aq9 _,fun c _ _=> ?_⟩, .inl rfl⟩;simp only[Mem.put,eU];split
   ·rename_i dE;rw[dE,aco]
   ·rfl
  ·cases ao
 |append x y t u e i z b off l n L new h _ _ _ _ _ _ U _ _ _ _ _ _=>
  simp only[uU,h] at ao;have an:=aT x;have ab:fu m ((m.put b .dead).push (.own ((L.drop off).take (l*i.size)++new) e)) (aqV b):=by have:=fu.put m b .dead;exact ⟨arL _,fun c ab ar=>by rw[show ((m.put b .dead).push _).aG c=(m.put b .dead).aG c from if_neg (by show c≠m.next;omega)];exact this.2 c ab ar⟩
  split at ao
  ·rename_i ay;rw[ay] at an;have an:aK fr x= .slice aqY 0 0:=an;rw[U] at an;cases an
  ·rename_i j ay;cases ao;rw[ay] at an;exact ⟨_,ab, .inr ⟨j,by simp,_,an.1,by rw[U];rfl⟩⟩
  ·rename_i j _ _ _ ay;cases ao;rw[ay] at an;obtain ⟨w,g1,g2⟩:=an;exact ⟨_,ab, .inr ⟨j,by simp,_,g1.1,by rw[<-g2.aG,U];rfl⟩⟩
  ·rename_i ay;cases ao;rw[ay] at an;obtain ⟨_,fK,a,aq⟩:=an;rw[U] at aq;injection aq with _ h1 J;rw[<-J] at fK;exact absurd fK (atg _)
  ·cases ao
 |copy x y t u e i b off l c L cs h _ _ _ _ _ _ _=>simp[uU,h] at ao
 |mapUpdate gy x iu iE u kt vt b L bS vc F mS fj h _ _ U _ _ _ _ _ _ _ _ _ _ _ _ _ _ _=>
  have an:=aT x;have ao:(match cn E x with| .c (.own j)=>aqV [j]|_=>aqY)=aqV ts:=by rcases h with h|h<;>(rw[h] at ao;exact ao)
  split at ao
  ·rename_i j ay;cases ao;rw[ay] at an;exact ⟨_,fu.put m b _, .inr ⟨j,by simp,_,an.1,by rw[U];rfl⟩⟩
  ·cases ao
theorem Wg {caps:List (Nat×List (bJ D))}:∀{l:List (aQ D)},qa (l++caps.map fun p=>aQ.fH p.1 p.2 0)=qa l
 |[]=>by
  induction caps with
  |nil=>rfl
  |cons c caps a8=>exact a8
 |s::l=>by cases s<;>simp only[List.cons_append,qa,Wg (l:=l)]
theorem ajk (bW:fS X) {K:aQ D->List (aL D)->Option af} (aw:bm X.G O z e m k vs) (aT:∀x,rel X.G z vs (cn E x) (aK fr x)) (nc:iO o.op=aqW) {ts:List Nat} (ao:uU X E o.op=aqV ts) (h:gd X o.op E O K=aqV r):
  bZ P (aK fr) o m fun _ v m'=>c5 X O z e k vs K r v m'/\(qc X E O o.op=aqW->m'=m)/\∃q,fu m m' q/\mU vs ts q:=by
 have Ve:(∀x as qm,o.op≠ .call {callee:= .value x,args:=as,argTypes:=qm})->∀{p:Prop},qc X E O o.op=aqW->p:=fun ad p aJ=>by
  unfold qc at aJ;split at aJ
  ·rename_i c ab;split at aJ
   ·rename_i f aP;obtain ⟨ce,as,ts⟩:=c;exact absurd (by rw[ab];simp only at aP;rw[aP]) (ad f as ts)
   ·cases aJ
  ·cases aJ
 have gen:(∀x as qm,o.op≠ .call {callee:= .value x,args:=as,argTypes:=qm})->bZ P (aK fr) o m fun _ v m'=>c5 X O z e k vs K r v m'/\(qc X E O o.op=aqW->m'=m)/\∃q,fu m m' q/\mU vs ts q:=fun ad=>
  (Hr bW rfl aw aT h).FX (fun v _ ⟨_,hk⟩=>⟨hk,fun _=>rfl,aqY,fu.refl _, .inl rfl⟩) (fun v _ hk=>⟨hk,fun _=>rfl,aqY,fu.refl _, .inl rfl⟩) (fun Y v _ hk=>⟨hk,Ve ad,aqY,fu.push _ _, .inl rfl⟩) fun n v m' he hk=>⟨hk,Ve ad,ahm aT he ao ad⟩
 by_cases ad:∀x as qm,o.op≠ .call {callee:= .value x,args:=as,argTypes:=qm}
 ·exact gen ad
 ·simp only[Classical.not_forall,ne_eq,at'] at ad;obtain ⟨f,as,qm,ai⟩:=ad;rw[ai] at h ao;simp only[uU] at ao;have h:q4 X {callee:= .value f,args:=as,argTypes:=qm} E O K=aqV r:=h;simp only[q4] at h;split at h
  ·rename_i jN caps aP;rw[aP] at ao;simp only at ao;have ga:=aT f;rw[aP] at ga;obtain ⟨gs,vM,aH⟩:=ga;split at h
   ·rename_i eS n3;rw[n3] at ao;cases ao;have LW:caps=[]:=(GD n3).2.1;subst LW;have BF:gs=[]:=by cases gs with
     |nil=>rfl
     |cons _ _=>exact aH.elim
    subst BF;refine bZ.call (CT (args:=(as.toList.map (aK fr)).toArray) (caps:=#[]) ai vM (by apply asc;simp) rfl) ?_;have aJ:qc X E O o.op=aqZ:=by rw[ai];simp only[qc,aP,n3]
    rw[aJ];have:=(WH n3 aw (wJ aT) h).mono fun v m' (h:_/\_)=>(⟨h.1,fun ax=>atT ax,h.2⟩:c5 X O z e k vs K r v m'/\(aqZ=aqW->m'=m)/\∃q,fu m m' q/\mU vs (zC (as.toList.map (cn E))) q)
    simpa using this
   rename_i Mz;rw[Mz] at ao;simp only at ao;split at ao
   ·cases ao
   rename_i hw;have hw:X.W jN=aqZ:=by simpa using hw
   cases ao;refine bZ.call (CT (args:=(as.toList.map (aK fr)).toArray) (caps:=gs.toArray) ai vM (by apply asc;simp) rfl) ?_;have:=(bW jN _ O K r (as.toList.map (aK fr)++gs) aw ((wJ aT).append aH.caps) h).mono fun v m' ax=>(⟨ax.1,ax.2.1,ax.2.2 hw⟩:_/\_/\_)
   rw[Wg] at this;have aJ:qc X E O o.op=X.F jN (as.toList.map (cn E)++caps.map fun p=> .fH p.1 p.2 0) O:=by rw[ai];simp only[qc,aP,Mz]
   rw[aJ];simpa using this
  ·rename_i jN is aP;rw[aP] at ao;cases ao
  ·cases h
theorem Oi {C:FuncId->Array aqX->Mem->aqX->Mem->Prop} (bW:∀f args m v m',C f args m v m'->m.next<=m'.next) {af:aq3->aqX} {v:aqX} (h:gF P C af o m v m'):m.next<=m'.next:=by
 cases h with
 |call f args v m' h ab=>exact bW _ _ _ _ _ ab
 |rD=>exact arL _
 |append=>exact arL _
 |_=>exact aq9 _
theorem af3 {C:FuncId->Array aqX->Mem->aqX->Mem->Prop} (bW:∀f args m v m',C f args m v m'->m.next<=m'.next) {af:aq3->aqX} {v:aqX} (h:oK P C af o m v m'):m.next<=m'.next:=by
 cases h with
 |new h=>exact arL _
 |e7 h=>exact Oi bW h
 |_=>exact aq9 _
theorem Od {C:FuncId->Array aqX->Mem->aqX->Mem->Prop} (bW:∀f args m v m',C f args m v m'->m.next<=m'.next) {ops:List Oper}:∀{l:List Oper} {fr fr':Nat->aqX} {m m':Mem},j3 P C ops l fr m fr' m'->m.next<=m'.next
 |[],_,_,_,_,⟨_,h⟩=>by rw[h];exact aq9 _
 |o::l,fr,fr',m,m',h=>by
  unfold j3 at h;split at h
  ·obtain ⟨v,m1,h1,J⟩:=h;exact arq (af3 bW h1) (Od bW J)
  ·exact Od bW h
theorem ze {C:FuncId->Array aqX->Mem->aqX->Mem->Prop} (bW:∀f args m v m',C f args m v m'->m.next<=m'.next) {ops:List Oper} {B:Array Nat}:∀{l:List Oper} {i:Nat} {A:Acc} {fr fr':Nat->aqX} {m m':Mem},gw P C ops B i l A fr m fr' m'->m.next<=m'.next
 |[],_,_,_,_,_,_,⟨_,h⟩=>by rw[h];exact aq9 _
 |o::l,i,A,fr,fr',m,m',h=>by
  unfold gw at h;split at h
  ·rcases h with ⟨v,_,h⟩|⟨v,_,_,h⟩|⟨Y,v,_,h⟩|⟨v,m1,h1,_,_,h⟩
   ·exact ze bW h
   ·exact ze bW h
   ·exact arq (arL _) (ze bW h)
   ·exact arq (Oi bW h1) (ze bW h)
  ·exact ze bW h
theorem Wx {C:FuncId->Array aqX->Mem->aqX->Mem->Prop} (bW:∀f args m v m',C f args m v m'->m.next<=m'.next):∀(n:Nat) {c:Code} {fr fr':Nat->aqX} {m m':Mem} {e:dX},kH P C n c fr m e fr' m'->m.next<=m'.next:=by
 intro n;induction n with
 |zero=>intro c fr fr' m m' e h;exact h.elim
 |succ n a8=>
  intro c fr fr' m m' e h;cases c with
  |skip=>obtain ⟨_,rfl,rfl⟩:=h;exact aq9 _
  |label l=>obtain ⟨_,rfl,rfl⟩:=h;exact aq9 _
  |exit id=>obtain ⟨_,rfl,rfl⟩:=h;exact aq9 _
  |ret=>obtain ⟨_,rfl,rfl⟩:=h;exact aq9 _
  |region id ops d=>
   cases d with
   |false=>exact Od bW h.2
   |true=>exact ze bW h.2
  |seq a b=>
   rcases h with ⟨aX,eV,m1,h1,J⟩|h
   rotate_left
   ·exact h.next
   split at J
   ·exact arq (a8 h1) (a8 J)
   ·obtain ⟨_,rfl,rfl⟩:=J;exact a8 h1
  |cond c a b=>obtain ⟨t,_,h1⟩:=h;exact a8 h1
  |block id c=>obtain ⟨aX,h1,_⟩:=h;exact a8 h1
  |scope c=>exact a8 h
  |loop c=>
   obtain ⟨aX,eV,m1,h1,J⟩:=h;split at J
   ·exact arq (a8 h1) (a8 J)
   ·obtain ⟨_,rfl,rfl⟩:=J;exact a8 h1
  |rangeFunc f bK x y=>exact h.elim
  |goto l=>exact h.elim
  |refuse s=>exact h.elim
theorem Nw:∀(n:Nat) (f:FuncId) (args:Array aqX) (m:Mem) (v:aqX) (m':Mem),h7 P n f args m v m'->m.next<=m'.next
 |0,_,_,_,_,_,h=>h.elim
 |n+1,f,args,m,v,m',h=>by
  rcases h with ⟨_,h⟩|⟨fn,c,e,fr,m1,vs,_,_,_,_,h,_,_,_,_,J⟩
  ·cases h<;>exact aq9 _
  ·have h1:=Wx (Nw n) n h;rcases J with rfl|⟨rfl,_⟩
   ·exact h1
   ·exact aq9 _
def A0 (m:Mem) (I:Mem->Prop) (ob:Option Nat):Prop:=∀m',(∀b,ob=aqV b->m'.aG b=m.aG b)->I m'
theorem Xq {b off:Nat} {v:aqX} (h:m.load b off=aqV v) (aa:m'.aG b=m.aG b):m'.load b off=aqV v:=by
 unfold Mem.load at h⊢;rw[aa];exact h
theorem G1 {b:Nat} (aa:m'.aG b=m.aG b):∀(n off:Nat),jH m' b off n=jH m b off n
 |0,_=>rfl
 |n+1,off=>by
  have:∀o,m'.load b o=m.load b o:=fun o=>by unfold Mem.load;rw[aa]
  simp only[jH,this,G1 aa n]
def tw (z:Nat->a6) (vs:List aqX) (ob:Option Nat):kO->Prop
 | .oj=>False
 | .lost=>False
 | .bg=>∀b,ob=aqV b->(z b).fJ
 | .ob j=>∀b,ob=aqV b->∃u,vs[j]? =aqV u/\da u=aqV b
def x5 (z:Nat->a6) (vs:List aqX) (b:Nat):kO->Prop
 | .oj=>False
 | .lost=>False
 | .bg=>(z b).fJ
 | .ob j=>∃u,vs[j]? =aqV u/\da u=aqV b
theorem x5.at {b:Nat} {s:kO} (h:x5 z vs b s):tw z vs (aqV b) s:=by
 cases s with
 |oj=>exact h
 |lost=>exact h
 |bg=>intro c ab;cases ab;exact h
 |ob j=>intro c ab;cases ab;exact h
theorem aiY {s:kO} {v:aqX} (aw:bm X.G O z e m k vs) (aT:∀x,rel X.G z vs (cn E x) (aK fr x)) (ay:sA E o.op=aqV s) (h:eT P (aK fr) o m v):
  ∃ob,A0 m (fun m=>eT P (aK fr) o m v) ob/\tw z vs ob s:=by
 have aaQ:∀{t:Nat} {c:bJ D} {cs:List (bJ D)} {off b M7:Nat},rel X.G z vs (.fH t (c::cs) off) (.pointer (aqV ⟨b,M7,aqY⟩))->(z b).fJ:=by
  rintro t c cs off b M7 ⟨b6,o',ds,h1,J,aj⟩;cases h1;cases ds with
  |nil=>exact aj.elim
  |cons d ds=>exact CU (J 0 d rfl)
 have ptr:∀{x:aq3} {b off:Nat},aK fr x= .pointer (aqV ⟨b,off,aqY⟩)->(match cn E x with| .fH _ (_::_) _=>aqV kO.bg| .box j _=>aqV (.ob j)| .el j _ _ _=>aqV (.ob j)|_=>aqY)=aqV s->x5 z vs b s:=by
  intro x b off U ay;have an:=aT x;split at ay
  ·rename_i h1;cases ay;rw[h1,U] at an;exact aaQ an
  ·rename_i h1;cases ay;rw[h1,U] at an;obtain ⟨b6,g1,g2⟩:=an;cases g2;exact ⟨_,g1,rfl⟩
  ·rename_i h1;cases ay;rw[h1,U] at an;obtain ⟨b6,f0,l,c,g1,g2⟩:=an;cases g2;exact ⟨_,g1,rfl⟩
  ·cases ay
 have az:∀{t:Nat} {xs:List (D t)} {b off l c:Nat},er (X.G.T t) z xs (.slice (aqV ⟨b,off,aqY⟩) l c)->(z b).fJ:=by
  rintro t xs b off l c (⟨h1,_⟩|⟨b6,o',bQ,h1,J,_⟩)
  ·cases h1
  ·cases h1;exact J
 cases h with
 |load t x b off d v h U ao aB ad=>simp only[sA,h] at ay;exact ⟨aqV b,fun m' hm=> .load t x b off d v h U ao aB (Xq ad (hm b rfl)),(ptr U ay).at⟩
 |wj t x b off d i cs h U ao aB ae ad=>simp only[sA,h] at ay;exact ⟨aqV b,fun m' hm=> .wj t x b off d i cs h U ao aB ae (by rw[G1 (hm b rfl)];exact ad),(ptr U ay).at⟩
 |slice t x bG ae bx i L b off l n cq h ao dY U hm e0 ef h1 J aj=>
  simp only[sA,h] at ay;refine ⟨aqV b,fun m' gC=> .slice t x bG ae bx i L b off l n cq h ao dY U (by rw[gC b rfl];exact hm) e0 ef h1 J aj,x5.at ?_⟩;have an:=aT x;split at ay
  ·rename_i g;rw[g,U] at an;cases an
  ·rename_i g;cases ay;rw[g,U] at an;exact az an
  ·rename_i g;cases ay;rw[g,U] at an;exact ⟨_,an.1,rfl⟩
  ·cases ay
 |str b1 t x bx b off l c cs h kf he ao U ad=>
  simp only[sA,h] at ay;refine ⟨aqV b,fun m' gC=> .str b1 t x bx b off l c cs h kf he ao U (by rw[G1 (gC b rfl)];exact ad),x5.at ?_⟩;have an:=aT x;split at ay
  ·rename_i g;cases ay;rw[g,U] at an;exact az an
  ·rename_i g;cases ay;rw[g,U] at an;exact ⟨_,an.1,rfl⟩
  ·rename_i g;rw[g,U] at an;cases an
  ·rename_i g;rw[g,U] at an;cases an
  ·cases ay
 |Af b1 t x bx l c h kf he ao U=>
  simp only[sA,h] at ay;refine ⟨aqY,fun m' gC=> .Af b1 t x bx l c h kf he ao U, ?_⟩;have an:=aT x;split at ay
  ·cases ay;intro b aa;cases aa
  ·cases ay;intro b aa;cases aa
  ·rename_i g;rw[g,U] at an;cases an
  ·rename_i g;rw[g,U] at an;cases an
  ·cases ay
 |lookup gy x cy ok u kt vt b L F i z' v0 t fj h hh hu U ll kh j6 aP hk aH ae aF cg ah=>
  simp only[sA,h] at ay;rcases U with ⟨U,hm,lg⟩|⟨U,lg⟩
  ·refine ⟨aqV b,fun m' gC=> .lookup gy x cy ok u kt vt b L F i z' v0 t fj h hh hu (.inl ⟨U,by rw[gC b rfl];exact hm,lg⟩) ll kh j6 aP hk aH ae aF cg ah,x5.at ?_⟩;have an:=aT x;split at ay
   ·rename_i g;cases ay;rw[g,U] at an;rcases an with ⟨h1,_⟩|⟨r,h1,J⟩
    ·cases h1
    ·cases h1;show (z _).fJ;rw[J];exact True.intro
   ·rename_i g;cases ay;rw[g,U] at an;exact ⟨_,an.1,rfl⟩
   ·cases ay
  ·refine ⟨aqY,fun m' gC=> .lookup gy x cy ok u kt vt b L F i z' v0 t fj h hh hu (.inr ⟨U,lg⟩) ll kh j6 aP hk aH ae aF cg ah, ?_⟩;split at ay
   ·cases ay;intro b aa;cases aa
   ·cases ay;intro b aa;cases aa
   ·cases ay
def aag (z:Nat->a6) (m:Mem) (vs:List aqX) (I:Mem->Prop) (s:kO):Prop:=
 s= .lost\/∃ob,A0 m I ob/\(∀b,ob=aqV b->b<m.next)/\tw z vs ob s
structure hn (z:Nat->a6) (m:Mem) (vs:List aqX) (A:Acc) (L:eY):Prop where
 rd:∀x∈A.reads,∃y∈L.rd,y.1=x.1/\aag z m vs x.2 y.2
 iI:∀x∈A.gN,∃y∈L.iI,y.1=x.1/\(y.2.1=aqW->m=x.2)/\∀j∈y.2.2,∃v,vs[j]? =aqV v/\∀b,da v=aqV b->b<m.next/\m.aG b=x.2.aG b
 hj:∀x∈A.news,∃y∈L.hj,y.1=x.1/\x.2<m.next/\∃v,vs[y.2]? =aqV v/\da v=aqV x.2
theorem A0.step {I:Mem->Prop} {ob q:Option Nat} (h:A0 m I ob) (aa:∀b,ob=aqV b->b<m.next) (ab:fu m m' q) (aJ:∀b,ob=aqV b->q≠aqV b):A0 m' I ob:=fun m2 hm=>h m2 fun b cu=>by
 rw[hm b cu,ab.2 b (aa b cu) (aJ b cu)]
theorem tw.mono {ob:Option Nat} {s:kO} (h:tw z vs ob s) (aF:et z z') (ad:∀(i:Nat) (u:aqX),vs[i]? =aqV u->vs'[i]? =aqV u):tw z' vs' ob s:=by
 cases s with
 |oj=>exact h
 |lost=>exact h
 |bg=>intro b aa;rw[aF b (h b aa)];exact h b aa
 |ob j=>intro b aa;obtain ⟨u,g1,g2⟩:=h b aa;exact ⟨u,ad _ _ g1,g2⟩
theorem hn.step {A:Acc} {L:eY} {q:Option Nat} (h:hn z m vs A L) (aF:et z z') (ad:∀(i:Nat) (u:aqX),vs[i]? =aqV u->vs'[i]? =aqV u) (ab:fu m m' q)
  (L':eY) (an:∀y∈L.rd,∃jn∈L'.rd,jn.1=y.1/\(jn.2= .lost\/jn.2=y.2/\∀ob,tw z vs ob y.2->∀b,ob=aqV b->q≠aqV b))
  (he:∀y∈L.iI,∃jn∈L'.iI,jn.1=y.1/\(jn.2.1=aqW->y.2.1=aqW/\m'=m)/\∀j∈jn.2.2,j∈y.2.2/\∀v b,vs[j]? =aqV v->da v=aqV b->q≠aqV b) (ar:∀y∈L.hj,y∈L'.hj):hn z' m' vs' A L' where
 rd:=fun x U=>by
  obtain ⟨y,ag,h1,J⟩:=h.rd x U;obtain ⟨jn,wa,g1,g2⟩:=an y ag;refine ⟨jn,wa,by rw[g1,h1], ?_⟩;rcases g2 with g2|⟨g2,g3⟩
  ·exact .inl g2
  ·rcases J with J|⟨ob,bs,bC,cQ⟩
   ·exact .inl (by rw[g2,J])
   ·exact .inr ⟨ob,bs.step bC ab (g3 ob cQ),fun b aa=>aru (bC b aa) ab.1,by rw[g2];exact cQ.mono aF ad⟩
 iI:=fun x U=>by obtain ⟨y,ag,h1,aI,J⟩:=h.iI x U;obtain ⟨jn,wa,g1,g0,g2⟩:=he y ag;refine ⟨jn,wa,by rw[g1,h1],fun aP=>by rw[(g0 aP).2];exact aI (g0 aP).1,fun j av=> ?_⟩;obtain ⟨g3,g4⟩:=g2 j av;obtain ⟨v,bs,bC⟩:=J j g3;refine ⟨v,ad _ _ bs,fun b aa=> ?_⟩;obtain ⟨cQ,fy⟩:=bC b aa;exact ⟨aru cQ ab.1,by rw[ab.2 b cQ (g4 v b bs aa)];exact fy⟩
 hj:=fun x U=>by obtain ⟨y,ag,h1,J,v,aj,aM⟩:=h.hj x U;exact ⟨y,ar y ag,h1,aru J ab.1,v,ad _ _ aj,aM⟩
theorem hn.quiet {A:Acc} {L:eY} (h:hn z m vs A L) (aF:et z z') (ad:∀(i:Nat) (u:aqX),vs[i]? =aqV u->vs'[i]? =aqV u) (hm:m'=m):hn z' m' vs' A L:=
 h.step (q:=aqY) aF ad (by rw[hm];exact fu.refl m) L (fun y ag=>⟨y,ag,rfl, .inr ⟨rfl,fun _ _ _ _=>by simp⟩⟩) (fun y ag=>⟨y,ag,rfl,fun h=>⟨h,hm⟩,fun j av=>⟨av,fun _ _ _ _=>by simp⟩⟩) fun y ag=>ag
theorem XX {j:Nat} (aw:bm X.G O z e m k vs) (h:Hn O j=aqW):∃v,vs[j]? =aqV v/\∀b,da v=aqV b->b<m.next/\(z b≠ .dead\/∃o,O[j]? =aqV o/\o.live=aqW):=by
 unfold Hn at h;have fin:∀{o:aL D},O[j]? =aqV o->o≠ .dead->(∀t w,o≠ .box t [] aqW w)->∃v,vs[j]? =aqV v/\∀b,da v=aqV b->b<m.next/\(z b≠ .dead\/∃o,O[j]? =aqV o/\o.live=aqW):=by
  intro o ai aB lT;obtain ⟨v,ad,b0⟩:=aw.at ai;refine ⟨v,ad,fun b aa=> ?_⟩;cases ah:o.live with
  |true=>exact ⟨(b0.lt ah b aa).1, .inr ⟨o,ai,ah⟩⟩
  |false=>
   have aF:z b≠ .dead:=by
    cases o with
    |dead=>exact absurd rfl aB
    |az t xs bg w=>
     cases bg with
     |false=>cases ah
     |true=>
      rcases (b0:er (X.G.T t) z xs v) with ⟨rfl,_⟩|⟨b6,o',bQ,rfl,J,_⟩
      ·cases aa
      ·cases aa;exact J.ne
    |box t cs bg w=>
     cases bg with
     |false=>cases ah
     |true=>
      obtain ⟨b6,ds,rfl,J,aj⟩:=b0;cases aa;cases cs with
      |nil=>exact absurd rfl (lT t w)
      |cons c cs=>
       cases ds with
       |nil=>exact aj.elim
       |cons d ds=>have:=J 0 d rfl;intro aB;unfold kY at this;rw[aB] at this;cases this
    |recv t cs w=>cases ah
    |eZ _ _ _ _ _=>cases ah
    |nest _ _ _ _ _ _=>cases ah
    |map t kt vt es bg w=>
     cases bg with
     |false=>cases ah
     |true=>
      rcases (b0:kL (X.G.M t kt vt) z es v) with ⟨rfl,_⟩|⟨r,rfl,J⟩
      ·cases aa
      ·cases aa;intro aB;rw[aB] at J;cases J
   refine ⟨?_, .inl aF⟩;exact (aw.aO.bg b aF).2
 split at h
 ·cases h
 ·cases h
 ·rename_i o h1 J ai;exact fin ai (fun ax=>h1 ax) fun t w ax=>J t w ax
 ·cases h
theorem XH {l:List Nat} {j:Nat}:l.any (ard j)=aqW↔j∈l:=by
 simp only[List.any_eq_true];constructor
 ·rintro ⟨x,U,h⟩;have:=arA h;subst this;exact U
 ·intro h;exact ⟨j,h,by simp⟩
theorem X2 {j:Nat} (h:so O j=aqW):∃o,O[j]? =aqV o/\o.live=aqW:=by
 unfold so at h;split at h
 ·exact ⟨_,‹_›,h⟩
 ·cases h
theorem GB {ts:List Nat} {q:Option Nat} (aw:bm X.G O z e m k vs) (ah:ts.all (so O)=aqW) (aJ:mU vs ts q) {j:Nat} (h:uz O ts j=aqW) {v:aqX} {b:Nat} (ad:vs[j]? =aqV v) (aa:da v=aqV b):q≠aqV b:=by
 simp only[uz,ara,ar8] at h;rcases aJ with rfl|⟨i,ae,w,hw,rfl⟩
 ·simp
 ·intro o3;have cY:i≠j:=by
   rintro rfl;rw[XH.2 ae] at h;cases h.2
  obtain ⟨o,ai,jW⟩:=X2 (arc.1 ah i ae);have aB:=((aw.obj i o w ai hw).lt jW b o3).2.1;obtain ⟨bl,mx,h1⟩:=XX aw h.1;rw[ad] at mx;cases mx;rcases (h1 b aa).2 with J|⟨p,ap,ni⟩
  ·exact J aB
  ·exact aw.eD i j o p w v cY ai ap jW ni hw ad b o3 aa
theorem afW {ts:List Nat} {q:Option Nat} (aw:bm X.G O z e m k vs) (ah:ts.all (so O)=aqW) (aJ:mU vs ts q) {b:Nat} (aF:z b≠ .dead):q≠aqV b:=by
 rcases aJ with rfl|⟨i,ae,w,hw,rfl⟩
 ·simp
 ·intro o3;obtain ⟨o,ai,jW⟩:=X2 (arc.1 ah i ae);exact aF ((aw.obj i o w ai hw).lt jW b o3).2.1
theorem WR {ts:List Nat} {q:Option Nat} (aw:bm X.G O z e m k vs) (ah:ts.all (so O)=aqW) (aJ:mU vs ts q) {s:kO} (h:DO O ts s=aqW) {ob:Option Nat} (ay:tw z vs ob s):∀b,ob=aqV b->q≠aqV b:=by
 intro b aa;cases s with
 |oj=>exact ay.elim
 |lost=>exact ay.elim
 |bg=>exact afW aw ah aJ (ay b aa).ne
 |ob j=>obtain ⟨u,g1,g2⟩:=ay b aa;exact GB aw ah aJ h g1 g2
theorem VQ:∀{l:List (aL D)} {i j:Nat},j∈ux O i l->∃n o,j=i+n/\l[n]? =aqV o/\o.live=aqW
 |[],i,j,h=>by simp[ux] at h
 |o::l,i,j,h=>by
  simp only[ux] at h;have tail:j∈ux O (i+1) l->∃n p,j=i+n/\(o::l)[n]? =aqV p/\p.live=aqW:=fun h=>by obtain ⟨n,p,h1,J,aj⟩:=VQ h;exact ⟨n+1,p,by omega,J,aj⟩
  split at h
  ·rename_i ai;rcases arb.1 h with rfl|h
   ·exact ⟨0,o,rfl,rfl,ai⟩
   ·exact tail h
  ·exact tail h
theorem hn.e7 {A:Acc} {L:eY} {q:Option Nat} {B:Array Nat} {i:Nat} {ts:List Nat} {qi:Bool} (h:hn z m vs A L) (aw:bm X.G O z e m k vs) (aF:et z z') (ad:∀(i:Nat) (u:aqX),vs[i]? =aqV u->vs'[i]? =aqV u) (ab:fu m m' q) (aJ:mU vs ts q) (vW:qi=aqW->m'=m)
  (hk:Pz B i O L ts=aqW):ue B i A m .e7 m'/\hn z' m' vs' (pK A i m .e7) (Bi i O ts qi L):=by
 simp only[Pz,ara,arc,ar7] at hk;obtain ⟨ah,rP,rQ⟩:=hk;have ah:ts.all (so O)=aqW:=arc.2 ah;refine ⟨⟨fun x U aq=> ?_,fun x U aq=> ?_⟩, ?_⟩
 ·obtain ⟨y,ag,h1,J⟩:=h.rd x U;have:=rP y ag;rw[h1,aq] at this;have ay:DO O ts y.2=aqW:=by simpa using this
  rcases J with J|⟨ob,bs,bC,cQ⟩
  ·rw[J] at ay;cases ay
  ·exact bs m' fun b aa=>ab.2 b (bC b aa) (WR aw ah aJ ay cQ b aa)
 ·obtain ⟨y,ag,h1,J,v,aj,aM⟩:=h.hj x U;have:=rQ y ag;rw[h1,aq] at this;have ay:uz O ts y.2=aqW:=by simpa using this
  exact ab.2 _ J (GB aw ah aJ ay aj aM)
 ·have aO:=h.step (L':=Bi i O ts qi L) aF ad ab (fun y ag=> ?_) (fun y ag=> ?_) fun y ag=>ag
  ·refine ⟨aO.rd,fun x U=> ?_,aO.hj⟩;rcases arb.1 U with rfl|U
   ·refine ⟨(i,aqW&&qi,(ux O 0 O).filter (uz O ts)),by simp[Bi],rfl,fun aP=>vW (by simpa using aP),fun j av=> ?_⟩;obtain ⟨BL,yD⟩:=atC.1 av;obtain ⟨n,o,g1,g2,g3⟩:=VQ BL;rw[arh] at g1;subst g1;obtain ⟨v,g4,g5⟩:=aw.at g2;refine ⟨v,ad _ _ g4,fun b aa=> ?_⟩;have aN:=(g5.lt g3 b aa).1;exact ⟨aru aN ab.1,ab.2 b aN (GB aw ah aJ yD g4 aa)⟩
   ·exact aO.iI x U
  ·refine ⟨if DO O ts y.2=aqW then y else (y.1, .lost),arf.2 ⟨y,ag,rfl⟩,by split<;>rfl, ?_⟩;split
   ·rename_i ay;exact .inr ⟨rfl,fun ob ai=>WR aw ah aJ ay ai⟩
   ·exact .inl rfl
  ·refine ⟨(y.1,y.2.1&&qi,y.2.2.filter (uz O ts)),arf.2 ⟨y,ark _ ag,rfl⟩,rfl,fun aP=>by simp only[ara] at aP;exact ⟨aP.1,vW aP.2⟩,fun j av=> ?_⟩;obtain ⟨BL,yD⟩:=atC.1 av;exact ⟨BL,fun v b h1 J=>GB aw ah aJ yD h1 J⟩
theorem hn.Bj {A:Acc} {L:eY} {B:Array Nat} {i:Nat} (h:hn z m vs A L) (ad:∀(i:Nat) (u:aqX),vs[i]? =aqV u->vs'[i]? =aqV u) (ar:m.next<=m'.next)
  (hk:Pa B i L=aqW):ue B i A m .e7 m'/\hn z' m' vs' (pK A i m .e7) (PA i L):=by
 simp only[Pa,ara,arc] at hk;refine ⟨⟨fun x U aq=> ?_,fun x U aq=> ?_⟩,⟨fun x U=> ?_,fun x U=> ?_,fun x U=> ?_⟩⟩
 ·obtain ⟨y,ag,h1,_⟩:=h.rd x U;have:=hk.1 y ag;rw[h1,aq] at this;cases this
 ·obtain ⟨y,ag,h1,_⟩:=h.hj x U;have:=hk.2 y ag;rw[h1,aq] at this;cases this
 ·obtain ⟨y,ag,h1,_⟩:=h.rd x U;exact ⟨(y.1, .lost),arf.2 ⟨y,ag,rfl⟩,h1, .inl rfl⟩
 ·rcases arb.1 U with rfl|U
  ·exact ⟨(i,aqZ,[]),arp,rfl,fun ax=>atT ax,fun j av=>absurd av (by simp)⟩
  ·obtain ⟨y,ag,h1,_⟩:=h.iI x U;exact ⟨(y.1,aqZ,[]),ark _ (arf.2 ⟨y,ag,rfl⟩),h1,fun ax=>atT ax,fun j av=>absurd av (by simp)⟩
 ·obtain ⟨y,ag,h1,J,v,aj,aM⟩:=h.hj x U;exact ⟨y,ag,h1,aru J ar,v,ad _ _ aj,aM⟩
theorem hn.ZD {A:Acc} {L:eY} (h:hn z m vs A L) (i:Nat) (s:kO) (n:Option Nat):hn z m vs A (oA i s n L) where
 rd:=fun x U=>by obtain ⟨y,ag,h1,J⟩:=h.rd x U;refine ⟨y, ?_,h1,J⟩;unfold oA;cases s<;>first|exact ag|exact ark _ ag
 iI:=fun x U=>by
  obtain ⟨y,ag,h1,J,aj⟩:=h.iI x U;cases n with
  |none=>exact ⟨y,ag,h1,J,aj⟩
  |some j=>exact ⟨(y.1,aqZ,y.2.2),arf.2 ⟨y,ag,rfl⟩,h1,(by simp),aj⟩
 hj:=fun x U=>by
  obtain ⟨y,ag,h1⟩:=h.hj x U;refine ⟨y, ?_,h1⟩;unfold oA;cases n with
  |none=>exact ag
  |some j=>exact ark _ ag
structure fh (eb:Nat) (z0 z:Nat->a6) (fr:Nat->aqX) (E:List (Nat×aQ D)) (m:Mem) (A:Acc) (L:eY):Prop where
 le:et z0 z
 n:eb<=m.next
 lt:∀b,(z0 b).fJ->b<eb
 jO:∀x∈A.gN,∀b,(z0 b).fJ->m.aG b=x.2.aG b
 dh:∀d,(L.mb.any (ard d))=aqZ->yY (eg E d)=aqW->∀b,da (fr d)=aqV b->(z0 b).fJ
variable {z0:Nat->a6}
theorem fh.at {eb:Nat} {A:Acc} {L:eY} (h:fh eb z0 z fr E m A L) {x:aq3} (U:sb E L x=aqW):∀b,da (aK fr x)=aqV b->(z0 b).fJ:=by
 unfold sb at U;split at U
 ·rename_i d;simp only[ara,ar8] at U;exact h.dh d U.1 U.2
 ·cases U
theorem fh.read {eb:Nat} {A:Acc} {L:eY} {B:Array Nat} {i:Nat} {v:aqX} (h:fh eb z0 z fr E m A L) (ah:U4 E L o.op=aqW) (an:eT P (aK fr) o m v):∀x∈A.gN,fi B i x.1=aqZ->eT P (aK fr) o x.2 v:=by
 intro x U aq;have aa:=h.jO x U;cases an with
 |load t q b off d v cq aJ ao aB ad=>rw[cq] at ah;have:=h.at ah b (by rw[aJ];rfl);exact .load t q b off d v cq aJ ao aB (Xq ad (aa b this).symm)
 |wj t q b off d i cs cq aJ ao aB ae ad=>rw[cq] at ah;have:=h.at ah b (by rw[aJ];rfl);exact .wj t q b off d i cs cq aJ ao aB ae (by rw[G1 (aa b this).symm];exact ad)
 |slice t q bG ae bx i L' b off l n cq aI ao dY aJ hm e0 ef g1 g2 g3=>rw[aI] at ah;have:=h.at ah b (by rw[aJ];rfl);exact .slice t q bG ae bx i L' b off l n cq aI ao dY aJ (by rw[<-aa b this];exact hm) e0 ef g1 g2 g3
 |str b1 t q bx b off l c cs aI kf he ao aJ ad=>rw[aI] at ah;cases ah
 |Af b1 t q bx l c aI kf he ao aJ=>rw[aI] at ah;cases ah
 |lookup gy q cy ok u kt vt b L' F i z' v0 t fj aI hh hu aJ ll kh j6 aP hk aH ae aF cg fk=>rw[aI] at ah;cases ah
theorem fh.ic {eb:Nat} {A:Acc} {L:eY} (h:fh eb z0 z fr E m A L) (aF:et z z'):fh eb z0 z' fr E m A L:=⟨h.le.trans aF,h.n,h.lt,h.jO,h.dh⟩
theorem agr {L:eY} {v:aqX} {eb:Nat} {A:Acc} (h:fh eb z0 z fr E m A L) (aB:qC E L o.op=aqW) (ap:cP P (aK fr) o v):∀b,da v=aqV b->(z0 b).fJ:=by
 have jO:∀{w:aqX},flat w=aqW->∀b,da w=aqV b->(z0 b).fJ:=by
  intro w hw b aa;cases w with
  |pointer a=>cases a with
   |none=>cases aa
   |some a=>cases hw
  |slice a l c=>cases a with
   |none=>cases aa
   |some a=>cases hw
  |map r=>cases r with
   |none=>cases aa
   |some r=>cases hw
  |_=>cases aa
 cases ap with
 |flat v ay U ad an=>exact jO ad
 |move x ai=>
  rcases ai with ai|ai
  ·rw[ai] at aB;exact h.at aB
  ·rw[ai] at aB;exact h.at aB
 |nilCheck x a ai U=>rw[ai] at aB;intro b aa;exact h.at aB b (by rw[U];exact aa)
 |fieldAddr t x i bc f k b off ai ao aP hk ay U=>rw[ai] at aB;intro c ab;exact h.at aB c (by rw[U];exact ab)
 |indexAddr t x y e i b off l c k n ai ao ae U ag aI h1=>rw[ai] at aB;intro c ab;exact h.at aB c (by rw[U];exact ab)
 |FN t x y e i b off l k n ai ao ae U ag aI h1=>rw[ai] at aB;intro c ab;exact h.at aB c (by rw[U];exact ab)
 |pick c a b t ai ab=>rw[ai] at aB;cases aB
 |extract x i us v ai U ad=>rw[ai] at aB;cases aB
 |field t x i bc f d cs v ai _ _ _ _ _=>rw[ai] at aB;cases aB
 |build t bK bc i z cs ai _ _ _ _ _ _=>rw[ai] at aB;cases aB
 |EI t bK n e i k z cs ai _ _ _ _ _ _=>rw[ai] at aB;cases aB
 |slice t x bG ae e i b off l c n cq ai _ _ _ _ _ _ _ _ _=>rw[ai] at aB;cases aB
 |lJ t x bG ae e i ai _ _ _ _ _=>rw[ai] at aB;cases aB
 |slice3 t x h6 ae e i b off l c cq dc r4 ai _ _ _ _ _ _ _=>rw[ai] at aB;cases aB
 |IB t x h6 ae e i r4 ai _ _ _ _ _=>rw[ai] at aB;cases aB
 |len x t e a l c ai _ _=>rw[ai] at aB;cases aB
 |EL x t e ai _ _=>rw[ai] at aB;cases aB
 |Bk neq x y t u e a l c ai _ _ _=>rw[ai] at aB;cases neq<;>cases aB
 |func fn first captured ai _=>rw[ai] at aB;cases aB
theorem fh.put {eb:Nat} {A:Acc} {L:eY} {v:aqX} {c3:aQ D} (h:fh eb z0 z fr E m A L) (ad:qC E L o.op=aqW->∀b,da v=aqV b->(z0 b).fJ):fh eb z0 z (set fr o.dst v) (lA E o.dst c3) m A (qt E o L):=by
 cases aB:o.dst with
 |none=>
  have e:qt E o L=L:=by unfold qt;rw[aB]
  rw[e];exact ⟨h.le,h.n,h.lt,h.jO,h.dh⟩
 |some d=>
  refine ⟨h.le,h.n,h.lt,h.jO,fun c ab aP b aa=> ?_⟩;by_cases tJ:c=d
  ·subst tJ;simp only[set,if_true] at aa;by_cases yz:qC E L o.op=aqW
   ·exact ad yz b aa
   ·have e:(qt E o L).mb=c::L.mb:=by unfold qt;rw[aB];dsimp only;rw[if_neg yz]
    rw[e] at ab;simp at ab
  ·simp only[set,if_neg tJ] at aa;have ah:eg (lA E (aqV d) c3) c=eg E c:=by
    simp only[lA,eg];rw[if_neg];intro ax;exact tJ (arA ax).symm
   rw[ah] at aP;refine h.dh c ?_ aP b aa;unfold qt at ab;rw[aB] at ab;dsimp only at ab;split at ab
   ·rw[List.any_eq_false] at ab⊢;intro y ag MI;have MI:=arA MI;subst MI;refine ab c (atC.2 ⟨ag, ?_⟩) (by simp);simp only[ar8];cases aJ:ard d c with
    |false=>rfl
    |true=>exact absurd (arA aJ).symm tJ
   ·simp only[List.any_cons,atU] at ab;exact ab.2
theorem fh.log {eb:Nat} {A hl:Acc} {L L':eY} (h:fh eb z0 z fr E m A L) (eu:hl.gN=A.gN) (ag:L'.mb=L.mb):fh eb z0 z fr E m hl L':=⟨h.le,h.n,h.lt,by rw[eu];exact h.jO,by rw[ag];exact h.dh⟩
theorem fh.grow {eb:Nat} {A:Acc} {L:eY} (h:fh eb z0 z fr E m A L) (ab:fu m m' aqY):fh eb z0 z fr E m' A L:=⟨h.le,arq h.n ab.1,h.lt,fun x U b aa=>by
 rw[ab.2 b (aru (h.lt b aa) h.n) (by simp)];exact h.jO x U b aa,h.dh⟩
theorem fh.e7 {eb i:Nat} {A:Acc} {L:eY} {q:Option Nat} {ts:List Nat} {qi:Bool} (h:fh eb z0 z fr E m A L) (ab:fu m m' q) (aJ:∀b,(z0 b).fJ->q≠aqV b):fh eb z0 z fr E m' (pK A i m .e7) (Bi i O ts qi L):=by
 have key:∀b,(z0 b).fJ->m'.aG b=m.aG b:=fun b aa=>ab.2 b (aru (h.lt b aa) h.n) (fun ax=>aJ b aa ax);refine ⟨h.le,arq h.n ab.1,h.lt,fun x U b aa=> ?_,h.dh⟩;rcases arb.1 U with rfl|U
 ·exact key b aa
 ·rw[key b aa];exact h.jO x U b aa
theorem fh.Bj {eb i:Nat} {A:Acc} {L:eY} {dc:Option Nat} (h:fh eb z0 z fr E m A L) (ar:m.next<=m'.next) (aF:et z z') (s1:cL z e m k) (s2:cL z' e m' dc):fh eb z0 z' fr E m' (pK A i m .e7) (PA i L):=by
 have key:∀b,(z0 b).fJ->m'.aG b=m.aG b:=fun b aa=>by have h1:=h.le b aa;have J:=aF b (by rw[h1];exact aa);rw[(s1.bg b (by rw[h1];exact aa.ne)).1,(s2.bg b (by rw[J,h1];exact aa.ne)).1,J]
 refine ⟨h.le.trans aF,arq h.n ar,h.lt,fun x U b aa=> ?_,h.dh⟩;rcases arb.1 U with rfl|U
 ·exact key b aa
 ·rw[key b aa];exact h.jO x U b aa
theorem agJ {ts:List Nat} {q:Option Nat} (aw:bm X.G O z e m k vs) (ah:ts.all (so O)=aqW) (aJ:mU vs ts q) (aF:et z0 z):∀b,(z0 b).fJ->q≠aqV b:=by
 intro b aa o3;rcases aJ with aJ|⟨i,ae,v,ad,he⟩
 ·rw[aJ] at o3;cases o3
 ·have:=arc.1 ah i ae;unfold so at this;split at this
  ·rename_i p ap;have:=((aw.obj i p v ap ad).lt this b (by rw[<-he];exact o3)).2.1;rw[aF b aa] at this;rw[this] at aa;exact aa.elim
  ·cases this
theorem fh.start {E:List (Nat×aQ D)} (aw:bm X.G O z e m k vs) (aT:∀d,rel X.G z vs (eg E d) (fr d)):fh m.next z z fr E m ⟨[],[],[]⟩ ⟨[],[],[],[],[]⟩:=by
 refine ⟨et.refl z,aq9 _,fun b aa=>(aw.aO.bg b aa.ne).2,by simp,fun d _ aP b aa=> ?_⟩;have an:=aT d;unfold yY at aP;split at aP
 ·rename_i aX xs ay;rw[ay] at an;rcases (an:er (X.G.T aX) z xs (fr d)) with ⟨h1,_⟩|⟨b6,o',bQ,h1,J,_⟩
  ·rw[h1] at aa;cases aa
  ·rw[h1] at aa;cases aa;exact J
 ·rename_i t c cs off ay;rw[ay] at an;obtain ⟨b,o',ds,h1,J,aj⟩:=an;rw[h1] at aa;cases aa;cases ds with
  |nil=>exact aj.elim
  |cons d ds=>have aM:=J 0 d rfl;exact CU aM
 ·cases aP
theorem wK {A:Acc} {L:eY} {E:List (Nat×aQ D)} (h:hn z m vs A L):hn z m vs A (qt E o L):=by
 unfold qt;split
 ·exact h
 ·split<;>exact ⟨h.rd,h.iI,h.hj⟩
theorem hn.read {A:Acc} {L:eY} {B:Array Nat} {i:Nat} {s:kO} {v:aqX} {n:Option Nat} (h:hn z m vs A L) (aw:bm X.G O z e m k vs) (aT:∀x,rel X.G z vs (cn E x) (aK fr x)) (aF:et z z') (ad:∀(i:Nat) (u:aqX),vs[i]? =aqV u->vs'[i]? =aqV u)
  {eb:Nat} (ay:sA E o.op=aqV s) (hk:(zN B i O L s||Hq B i E L s o.op)=aqW) (an:eT P (aK fr) o m v) (aH:fh (D:=D) eb z0 z fr E m A L):
  ue B i A m (.read fun m=>eT P (aK fr) o m v) m/\hn z' m vs' (pK A i m (.read fun m=>eT P (aK fr) o m v)) (oA i s n L):=by
 obtain ⟨ob,h1,J⟩:=aiY aw aT ay an;rw[ar7] at hk;have lt:∀b,ob=aqV b->b<m.next:=by
  intro b aa;cases s with
  |oj=>exact J.elim
  |lost=>exact J.elim
  |bg=>have aF:=J b aa;exact (aw.aO.bg b aF.ne).2
  |ob j=>have hk:zN B i O L (.ob j)=aqW:=hk.resolve_right (by simp[Hq,TN]);simp only[zN,ara] at hk;obtain ⟨u,g1,g2⟩:=J b aa;obtain ⟨bl,g3,g4⟩:=XX aw hk.1;rw[g1] at g3;cases g3;exact (g4 b g2).1
 refine ⟨fun x U aq=> ?_, ?_⟩
 ·rcases hk with hk|hk
  case inr=>
   simp only[Hq,ara] at hk;exact aH.read (B:=B) hk.2 an x U aq
  obtain ⟨y,ag,bs,hE,bC⟩:=h.iI x U;refine h1 x.2 fun b aa=> ?_;cases s with
  |oj=>exact J.elim
  |lost=>exact J.elim
  |bg=>simp only[zN,arc] at hk;have:=hk y ag;rw[bs,aq,Bool.false_or] at this;rw[hE this]
  |ob j=>
   simp only[zN,ara,arc,ar7] at hk;have:=hk.2 y ag;rw[bs,aq] at this;have av:y.2.1=aqW\/j∈y.2.2:=by
    rcases this with h|h|h
    ·cases h
    ·exact .inl h
    ·exact .inr (XH.1 h)
   rcases av with av|av
   ·rw[hE av]
   obtain ⟨bl,g1,g2⟩:=bC j av;obtain ⟨u,g3,g4⟩:=J b aa;rw[g3] at g1;cases g1;exact (g2 b g4).2.symm
 ·have aO:=((h.quiet (et.refl z) (fun _ _ h=>h) rfl).ZD i s n).quiet (m':=m) aF ad rfl;refine ⟨fun x U=> ?_,aO.iI,aO.hj⟩;rcases arb.1 U with rfl|U
  ·refine ⟨(i,s), ?_,rfl, .inr ⟨ob,h1,lt,J.mono aF ad⟩⟩;unfold oA;cases s<;>first|exact J.elim|exact arp
  ·exact aO.rd x U
theorem ajg {Y:a6} {v:aqX} {c3:aQ D} {n:Option Nat} {N:Nat} (h:h0 P (aK fr) o N Y v) (an:rel X.G z vs c3 v) (ar:P0 c3=aqV n):∃j,n=aqV j/\∃u,vs[j]? =aqV u/\da u=aqV N:=by
 have ad:da v=aqV N:=by cases h<;>rfl
 unfold P0 at ar;split at ar
 ·cases ar;exact ⟨_,rfl,v,an.1,ad⟩
 ·cases ar;obtain ⟨b,g1,rfl⟩:=an;exact ⟨_,rfl,_,g1,ad⟩
 ·cases ar;obtain ⟨b,l,g1,rfl⟩:=an;exact ⟨_,rfl,_,g1,ad⟩
 ·have an:v= .int _ _:=an;rw[an] at ad;cases ad
 ·have an:v=aS.str _:=an;rw[an] at ad;cases ad
 ·cases ar
theorem hn.new {A:Acc} {L:eY} {i:Nat} {s:kO} {j:Nat} {Y:a6} (h:hn z m vs A L) (aF:et z z') (ad:∀(i:Nat) (u:aqX),vs[i]? =aqV u->vs'[i]? =aqV u) (av:∃u,vs'[j]? =aqV u/\da u=aqV m.next):
  hn z' (m.push Y) vs' (pK A i m .new) (oA i s (aqV j) L):=by
 have aO:=h.step (m':=m.push Y) (q:=aqY) aF ad (fu.push m Y) (oA i s (aqV j) L) (fun y ag=>⟨y,by unfold oA;cases s<;>first|exact ag|exact ark _ ag,rfl, .inr ⟨rfl,fun _ _ _ _=>by simp⟩⟩)
  (fun y ag=>⟨(y.1,aqZ,y.2.2),arf.2 ⟨y,ag,rfl⟩,rfl,by simp,fun j av=>⟨av,fun _ _ _ _=>by simp⟩⟩) fun y ag=>ark _ ag
 refine ⟨aO.rd,aO.iI,fun x U=> ?_⟩;rcases arb.1 U with rfl|U
 ·obtain ⟨u,g1,g2⟩:=av;exact ⟨(i,j),by simp[oA],rfl,arU _,u,g1,g2⟩
 ·exact aO.hj x U
end
end Go.aS
end
section
namespace Go.aS
section
variable {P:aq1} {D:Nat->Type} {X:dB P D} {af:Type} {z z':Nat->a6} {e m m':Mem} {k:Option Nat} {vs:List aqX} {fr:Nat->aqX} {E:List (Nat×aQ D)} {O:List (aL D)} {o:Oper} {r:af}
def eA (X:dB P D) (z:Nat->a6) (vs:List aqX) (E:List (Nat×aQ D)) (fr:Nat->aqX):Prop:=∀d,rel X.G z vs (eg E d) (fr d)
theorem eA.mono (h:eA X z vs E fr) {vs':List aqX} (aF:et z z') (ad:∀(i:Nat) (u:aqX),vs[i]? =aqV u->vs'[i]? =aqV u):eA X z' vs' E fr:=fun d=>rel.mono (h d) aF ad
theorem eA.cons (h:eA X z vs E fr) {d:Nat} {s:aQ D} (ay:rel X.G z vs s (fr d)):eA X z vs ((d,s)::E) fr:=fun i=>by
 simp only[eg];split
 ·rename_i ae;have:d=i:=arA ae;subst this;exact ay
 ·exact h i
theorem eA.put (h:eA X z vs E fr) {d:Option Nat} {s:aQ D} {v:aqX} (ay:rel X.G z vs s v):eA X z vs (lA E d s) (set fr d v):=by
 cases d with
 |none=>exact h
 |some d=>
  intro i;simp only[lA,eg,set];split
  ·rename_i ae;have:d=i:=arA ae;subst this;rw[if_pos rfl];exact ay
  ·rename_i ae;rw[if_neg]
   ·exact h i
   ·intro ax;subst ax;simp at ae
def hy (X:dB P D) (O:List (aL D)) (z:Nat->a6) (e:Mem) (k:Option Nat) (vs:List aqX) (K:List (Nat×aQ D)->List (aL D)->Option af) (r:af) (fr':Nat->aqX) (m':Mem):Prop:=
 ∃z' vs' E' bD,Inv O bD/\cT e.next z z'/\(∀(i:Nat) (u:aqX),vs[i]? =aqV u->vs'[i]? =aqV u)/\bm X.G bD z' e m' k vs'/\eA X z' vs' E' fr'/\K E' bD=aqV r
theorem hy.from {K:List (Nat×aQ D)->List (aL D)->Option af} {fr':Nat->aqX} {cr:Nat->a6} {jb:List aqX} {bL:List (aL D)} (ae:Inv O bL) (aF:cT e.next z cr) (ad:∀(i:Nat) (u:aqX),vs[i]? =aqV u->jb[i]? =aqV u) (h:hy X bL cr e k jb K r fr' m'):hy X O z e k vs K r fr' m':=by
 obtain ⟨z',vs',c3,bD,aI,h1,J,aj,aM,bq⟩:=h;exact ⟨z',vs',c3,bD,ae.trans aI,aF.trans h1,fun i u hu=>J i u (ad i u hu),aj,aM,bq⟩
theorem hy.here {K:List (Nat×aQ D)->List (aL D)->Option af} (aw:bm X.G O z e m k vs) (aT:eA X z vs E fr) (fB:K E O=aqV r):hy X O z e k vs K r fr m:=⟨z,vs,E,O,Inv.refl O,cT.refl z,fun _ _ h=>h,aw,aT,fB⟩
theorem WQ {d:Nat} {K:List (Nat×aQ D)->Option af} (aT:eA X z vs E fr) (h:uH E d K=aqV r):∃E',eA X z vs E' fr/\K E'=aqV r:=by
 unfold uH at h;have aB:=aT d;split at h
 ·rename_i b ay;rw[ay] at aB;cases b with
  |true=>rw[if_pos rfl] at h;exact ⟨_,aT.cons (s:= .c (.bool aqW)) aB,h⟩
  |false=>rw[if_neg (by simp)] at h;exact ⟨_,aT.cons (s:= .c (.bool aqZ)) aB,h⟩
 ·exact ⟨_,aT,h⟩
 ·cases h
theorem ajj (bW:fS X) {K:List (Nat×aQ D)->List (aL D)->Option af} (aw:bm X.G O z e m k vs) (aT:eA X z vs E fr) (h:Cr X o E O K=aqV r):bZ P (aK fr) o m fun _ v m'=>hy X O z e k vs K r (set fr o.dst v) m':=by
 have go:∀{E:List (Nat×aQ D)},eA X z vs E fr->gd X o.op E O (fun v O=>K (lA E o.dst v) O)=aqV r->bZ P (aK fr) o m fun _ v m'=>hy X O z e k vs K r (set fr o.dst v) m':=by intro E aT h;refine bZ.mono (Hr bW rfl aw (Ow aT) h) ?_;rintro t v m' ⟨z',vs',c3,bD,aI,h1,J,aj,aM,bq⟩;exact ⟨z',vs',_,bD,aI,h1,J,aj,(aT.mono h1.le J).put aM,bq⟩
 unfold Cr at h;split at h
 ·obtain ⟨E',lg,h⟩:=WQ aT h;exact go lg h
 ·exact go aT h
theorem zy (bW:fS X) {ops:List Oper} {K:List (Nat×aQ D)->List (aL D)->Option af}:∀{l:List Oper} {E:List (Nat×aQ D)} {O:List (aL D)} {z:Nat->a6} {vs:List aqX} {m:Mem} {fr:Nat->aqX},bm X.G O z e m k vs->eA X z vs E fr->pv X ops l E O K=aqV r->fv P ops l (hy X O z e k vs K r) fr m
 |[],E,O,z,vs,m,fr,aw,aT,h=>fv.nil (hy.here aw aT h)
 |o::l,E,O,z,vs,m,fr,aw,aT,h=>by
  unfold pv at h;have step:∀{E:List (Nat×aQ D)},eA X z vs E fr->(Cr X o E O fun E O=>pv X ops l E O K)=aqV r->bZ P (aK fr) o m fun _ v m1=>fv P ops l (hy X O z e k vs K r) (set fr o.dst v) m1:=by intro E aT h;refine bZ.mono (ajj bW aw aT h) ?_;rintro t v m1 ⟨z',vs',E',bD,aI,h1,J,aj,aM,bq⟩;exact fv.mono (zy bW aj aM bq) fun _ _ ar=>ar.from aI h1 J
  split at h
  ·rename_i aH;exact fv.JT (by simp only[wanted,aH]) (step aT h)
  ·rename_i j want aH;split at h
   ·cases h
   ·rename_i d aB;obtain ⟨jI,rM,h⟩:=WQ aT h;have ad:=rM d;split at h
    ·rename_i b ay;rw[ay] at ad;split at h
     ·rename_i aa;exact fv.JS aH aB ad aa (step rM h)
     ·rename_i aa;exact fv.IA aH aB ad (by cases b<;>cases want<;>simp at aa⊢) (zy bW aw (rM.put (s:= .undef) rfl) h)
    ·rename_i ay;rw[ay] at ad;exact fv.Qv aH aB ad (zy bW aw (rM.put (s:= .undef) rfl) h)
    ·cases h
variable {z0:Nat->a6}
theorem V7 {d:Nat} {K:List (Nat×aQ D)->Option af} (aT:eA X z vs E fr) (h:uH E d K=aqV r):∃E',eA X z vs E' fr/\(∀c,eg E' c=eg E c\/yY (eg E' c)=aqZ)/\K E'=aqV r:=by
 have aB:=aT d;have Co:∀{b:Bool} (c:Nat),eg ((d, .c (.bool b))::E) c=eg E c\/yY (eg ((d, .c (.bool b))::E) c)=aqZ:=by
  intro b c;simp only[eg];split
  ·exact .inr rfl
  ·exact .inl rfl
 unfold uH at h;split at h
 ·rename_i b aa;rw[aa] at aB;have aB:fr d= .bool b:=aB;split at h
  ·rename_i ao;exact ⟨_,aT.cons (by rw[aB,ao];exact rfl),Co,h⟩
  ·rename_i ao;exact ⟨_,aT.cons (by rw[aB];cases b with|true=>exact absurd rfl ao|false=>exact rfl),Co,h⟩
 ·exact ⟨E,aT,fun _=> .inl rfl,h⟩
 ·cases h
theorem fh.split {eb:Nat} {A:Acc} {L:eY} {E':List (Nat×aQ D)} (h:fh eb z0 z fr E m A L) (aJ:∀c,eg E' c=eg E c\/yY (eg E' c)=aqZ):fh eb z0 z fr E' m A L:=⟨h.le,h.n,h.lt,h.jO,fun d aB aP=>by
 rcases aJ d with aJ|aJ
 ·rw[aJ] at aP;exact h.dh d aB aP
 ·rw[aJ] at aP;cases aP⟩
theorem fh.skip {eb:Nat} {A:Acc} {L:eY} {dst:Option Nat} (h:fh eb z0 z fr E m A L):fh eb z0 z (set fr dst undef) (lA E dst .undef) m A L:=by
 cases dst with
 |none=>exact h
 |some d=>
  refine ⟨h.le,h.n,h.lt,h.jO,fun c ab aP b aa=> ?_⟩;simp only[lA,eg] at aP;split at aP
  ·cases aP
  ·rename_i tJ;have:c≠d:=by rintro rfl;simp at tJ
   simp only[set,if_neg this] at aa;exact h.dh c ab aP b aa
theorem XT (bW:fS X) {B:Array Nat} {ops l:List Oper} {i:Nat} {A:Acc} {L:eY} {eb:Nat} {Q:(Nat->aqX)->Mem->Prop} {K:eY->List (Nat×aQ D)->List (aL D)->Option af} (aw:bm X.G O z e m k vs) (aT:eA X z vs E fr) (cC:hn z m vs A L) (aH:fh eb z0 z fr E m A L) (h:F3 X B i o L E O K=aqV r)
  (hk:∀{z':Nat->a6} {vs':List aqX} {m':Mem} {hl:Acc} {L':eY} {E':List (Nat×aQ D)} {bD:List (aL D)} {v:aqX},Inv O bD->cT e.next z z'->(∀(i:Nat) (u:aqX),vs[i]? =aqV u->vs'[i]? =aqV u)->bm X.G bD z' e m' k vs'->eA X z' vs' E' (set fr o.dst v)->hn z' m' vs' hl L'->fh eb z0 z' (set fr o.dst v) E' m' hl L'->K L' E' bD=aqV r->gq P ops B (i+1) l hl Q (set fr o.dst v) m'):
  bZ P (aK fr) o m fun t v m1=>ue B i A m t m1/\gq P ops B (i+1) l (pK A i m t) Q (set fr o.dst v) m1:=by
 have br:=Ow aT;unfold F3 at h;split at h
 ·rename_i nc;split at h
  ·rename_i ts ao;obtain ⟨kb,h⟩:=eW h;have rF:∀{v:aqX},eT P (aK fr) o m v->False:=fun an=>by
    have:=Gg an;revert this nc;cases o.op<;>simp[iO,ox]
   have JP:∀{Y:a6} {v:aqX},h0 P (aK fr) o m.next Y v->False:=fun an=>by have:=CJ an;revert this nc;cases o.op<;>simp[iO,nz]
   have fF:qC E L o.op=aqW->False:=fun aB=>by revert aB nc;cases o.op<;>simp[iO,qC]
   refine (ajk bW aw br nc ao h).FX (fun v _ ax=> ?_) (fun v an _=>(rF an).elim) (fun Y v an _=>(JP an).elim) fun n v m' he ax=> ?_
   ·obtain ⟨_,⟨z',vs',c3,bD,aI,h1,J,aj,aM,bq⟩,vW,q,ab,aJ⟩:=ax;obtain ⟨g1,g2⟩:=cC.e7 (B:=B) (qi:=qc X E O o.op) aw h1.le J (fu.any (fu.refl m) aqY) (.inl rfl) (fun _=>rfl) kb;have e2:=(aH.e7 (O:=O) (ts:=ts) (q:=aqY) (i:=i) (qi:=qc X E O o.op) (fu.refl m) (fun b _=>by simp)).ic h1.le;exact ⟨trivial,hk aI h1 J aj ((aT.mono h1.le J).put aM) (wK ⟨g2.rd,fun x U=>g2.iI x (ark _ U),g2.hj⟩) (fh.put ⟨e2.le,e2.n,e2.lt,fun x U=>e2.jO x (ark _ U),e2.dh⟩ fun aB=>(fF aB).elim) bq⟩
   ·obtain ⟨⟨z',vs',c3,bD,aI,h1,J,aj,aM,bq⟩,vW,q,ab,aJ⟩:=ax;obtain ⟨g1,g2⟩:=cC.e7 (B:=B) aw h1.le J ab aJ vW kb;exact ⟨g1,hk aI h1 J aj ((aT.mono h1.le J).put aM) (wK g2) (fh.put ((aH.e7 ab (agJ aw (as1.1 kb).1 aJ aH.le)).ic h1.le) fun aB=>(fF aB).elim) bq⟩
  ·obtain ⟨kb,h⟩:=eW h;have rF:∀{v:aqX},eT P (aK fr) o m v->False:=fun an=>by
    have:=Gg an;revert this nc;cases o.op<;>simp[iO,ox]
   have JP:∀{Y:a6} {v:aqX},h0 P (aK fr) o m.next Y v->False:=fun an=>by have:=CJ an;revert this nc;cases o.op<;>simp[iO,nz]
   have fF:qC E L o.op=aqW->False:=fun aB=>by revert aB nc;cases o.op<;>simp[iO,qC]
   refine (Hr bW rfl aw br h).FX (fun v _ ax=> ?_) (fun v an _=>(rF an).elim) (fun Y v an _=>(JP an).elim) fun n v m' he ax=> ?_
   ·obtain ⟨_,z',vs',c3,bD,aI,h1,J,aj,aM,bq⟩:=ax;obtain ⟨g1,g2⟩:=cC.Bj (z':=z') (m':=m) J (aq9 _) kb;have e2:=aH.Bj (i:=i) (aq9 _) h1.le aw.aO aj.aO;exact ⟨trivial,hk aI h1 J aj ((aT.mono h1.le J).put aM) (wK ⟨g2.rd,fun x U=>g2.iI x (ark _ U),g2.hj⟩) (fh.put ⟨e2.le,e2.n,e2.lt,fun x U=>e2.jO x (ark _ U),e2.dh⟩ fun aB=>(fF aB).elim) bq⟩
   ·obtain ⟨z',vs',c3,bD,aI,h1,J,aj,aM,bq⟩:=ax;have ar:=Oi (Nw n) he;obtain ⟨g1,g2⟩:=cC.Bj (z':=z') J ar kb;exact ⟨g1,hk aI h1 J aj ((aT.mono h1.le J).put aM) (wK g2) (fh.put (aH.Bj ar h1.le aw.aO aj.aO) fun aB=>(fF aB).elim) bq⟩
 ·rename_i nc;split at h
  ·rename_i s ay;obtain ⟨kb,h⟩:=eW h;refine (Hr bW rfl aw br h).FX (fun v ap ax=> ?_) (fun v an ax=> ?_) (fun Y v an ax=> ?_) fun n v m' he _=>absurd (NO he) nc
   ·obtain ⟨_,z',vs',c3,bD,aI,h1,J,aj,aM,bq⟩:=ax;dsimp only at bq;split at bq
    ·rename_i n ar;exact ⟨trivial,hk aI h1 J aj ((aT.mono h1.le J).put aM) (wK ((cC.quiet h1.le J rfl).ZD i s n)) (fh.put (L:=oA i s n L) ((aH.ic h1.le).log rfl rfl) fun aB=>agr aH aB ap) bq⟩
    ·cases bq
   ·obtain ⟨z',vs',c3,bD,aI,h1,J,aj,aM,bq⟩:=ax;dsimp only at bq;split at bq
    ·rename_i n ar;obtain ⟨g1,g2⟩:=cC.read (n:=n) (B:=B) (i:=i) aw br h1.le J ay kb an aH;exact ⟨g1,hk aI h1 J aj ((aT.mono h1.le J).put aM) (wK g2) (fh.put (L:=oA i s n L) ((aH.ic h1.le).log rfl rfl) fun aB=>(by
      have:=Gg an;revert this aB;cases o.op<;>simp[qC,ox])) bq⟩
    ·cases bq
   ·obtain ⟨z',vs',c3,bD,aI,h1,J,aj,aM,bq⟩:=ax;dsimp only at bq;split at bq
    ·rename_i n ar;rw[Vf,if_pos (CJ an)] at ar;obtain ⟨j,rfl,av⟩:=ajg an aM ar;exact ⟨trivial,hk aI h1 J aj ((aT.mono h1.le J).put aM) (wK (cC.new (i:=i) (s:=s) (Y:=Y) h1.le J av)) (fh.put (L:=oA i s (aqV j) L) (((aH.grow (fu.push m Y)).ic h1.le).log rfl rfl) fun aB=>(by
      have:=CJ an;revert this aB;cases o.op<;>simp[qC,nz])) bq⟩
    ·cases bq
  ·cases h
theorem aji (bW:fS X) {B:Array Nat} {ops l:List Oper} {i:Nat} {A:Acc} {L:eY} {eb:Nat} {Q:(Nat->aqX)->Mem->Prop} {K:eY->List (Nat×aQ D)->List (aL D)->Option af} (aw:bm X.G O z e m k vs) (aT:eA X z vs E fr) (cC:hn z m vs A L) (aH:fh eb z0 z fr E m A L) (h:Cq X B i o L E O K=aqV r)
  (hk:∀{z':Nat->a6} {vs':List aqX} {m':Mem} {hl:Acc} {L':eY} {E':List (Nat×aQ D)} {bD:List (aL D)} {v:aqX},Inv O bD->cT e.next z z'->(∀(i:Nat) (u:aqX),vs[i]? =aqV u->vs'[i]? =aqV u)->bm X.G bD z' e m' k vs'->eA X z' vs' E' (set fr o.dst v)->hn z' m' vs' hl L'->fh eb z0 z' (set fr o.dst v) E' m' hl L'->K L' E' bD=aqV r->gq P ops B (i+1) l hl Q (set fr o.dst v) m'):
  bZ P (aK fr) o m fun t v m1=>ue B i A m t m1/\gq P ops B (i+1) l (pK A i m t) Q (set fr o.dst v) m1:=by
 unfold Cq at h;split at h
 ·rename_i mq UG;obtain ⟨E',lg,aJ,h⟩:=V7 aT h;have abY:=aH.split aJ;exact XT bW aw lg cC abY h hk
 ·exact XT bW aw aT cC aH h hk
theorem gq.mono {ops l:List Oper} {B:Array Nat} {i:Nat} {A:Acc} {K j6:(Nat->aqX)->Mem->Prop} (h:gq P ops B i l A K fr m) (hk:∀fr m,K fr m->j6 fr m):gq P ops B i l A j6 fr m:=
 let ⟨n,fr',m',h1,J⟩:=h;⟨n,fr',m',h1,hk _ _ J⟩
theorem G4 (bW:fS X) {B:Array Nat} {ops:List Oper} {eb:Nat} {K:List (Nat×aQ D)->List (aL D)->Option af}:∀{l:List Oper} {i:Nat} {A:Acc} {L:eY} {E:List (Nat×aQ D)} {O:List (aL D)} {z:Nat->a6} {vs:List aqX} {m:Mem} {fr:Nat->aqX},bm X.G O z e m k vs->eA X z vs E fr->hn z m vs A L->fh eb z0 z fr E m A L->u2 X B ops i l L E O K=aqV r->gq P ops B i l A (hy X O z e k vs K r) fr m
 |[],i,A,L,E,O,z,vs,m,fr,aw,aT,cC,gI,h=>gq.done fun fr' aP=>by rw[aP];exact hy.here aw aT h
 |o::l,i,A,L,E,O,z,vs,m,fr,aw,aT,cC,gI,h=>by
  unfold u2 at h;have step:∀{E:List (Nat×aQ D)},eA X z vs E fr->fh eb z0 z fr E m A L->(Cq X B i o L E O fun L E O=>u2 X B ops (i+1) l L E O K)=aqV r->bZ P (aK fr) o m fun t v m1=>ue B i A m t m1/\gq P ops B (i+1) l (pK A i m t) (hy X O z e k vs K r) (set fr o.dst v) m1:=by intro E aT aH h;refine aji bW aw aT cC aH h ?_;intro z' vs' m' hl L' E' bD v aI h1 J aj aM bq h3 dv;exact gq.mono (G4 bW aj aM bq h3 dv) fun _ _ ar=>ar.from aI h1 J
  split at h
  ·rename_i aH;exact gq.cons (by simp only[wanted,aH]) (step aT gI h)
  ·rename_i j want aH;split at h
   ·cases h
   ·rename_i d aB;obtain ⟨jI,rM,acS,h⟩:=V7 aT h;have L2:=gI.split acS;have ad:=rM d;split at h
    ·rename_i b ay;rw[ay] at ad;split at h
     ·rename_i aa;exact gq.JS aH aB ad aa (step rM L2 h)
     ·rename_i aa;exact gq.IA aH aB ad (by cases b<;>cases want<;>simp at aa⊢) (G4 bW aw (rM.put (s:= .undef) rfl) cC L2.skip h)
    ·rename_i ay;rw[ay] at ad;exact gq.Qv aH aB ad (G4 bW aw (rM.put (s:= .undef) rfl) cC L2.skip h)
    ·cases h
theorem hn.start:hn z m vs ⟨[],[],[]⟩ ⟨[],[],[],[],[]⟩:=⟨by simp,by simp,by simp⟩
def pG (X:dB P D) (B:Code) (u:k9 D):Prop:=∀{af:Type} (E:List (Nat×aQ D)) (O:List (aL D)) (K:dX->List (Nat×aQ D)->List (aL D)->Option af) (r:af) {z:Nat->a6} {e m:Mem} {k:Option Nat} {vs:List aqX} {fr:Nat->aqX},
 u.fits E O=aqW->bm X.G O z e m k vs->eA X z vs E fr->u.run E O K=aqV r->W P (sub B u.path) (fun x=>hy X O z e k vs (K x) r) fr m
theorem O4:∀(c:Code) (p q:List Nat),sub (sub c p) q=sub c (p++q):=by
 intro c p;induction p generalizing c with
 |nil=>intro q;cases c<;>rfl
 |cons i p a8=>
  intro q;cases c with
  |seq a b=>cases i with
   |zero=>exact a8 a q
   |succ i=>exact a8 b q
  |cond x a b=>cases i with
   |zero=>exact a8 a q
   |succ i=>exact a8 b q
  |block n c=>cases i with
   |zero=>exact a8 c q
   |succ i=>exact a8 c q
  |scope c=>cases i with
   |zero=>exact a8 c q
   |succ i=>exact a8 c q
  |loop c=>cases i with
   |zero=>exact a8 c q
   |succ i=>exact a8 c q
  |_=>rcases q with _|⟨_|j,q⟩<;>cases i<;>rfl
theorem zs {B c:Code} {p:List Nat} {i:Nat} (h:sub B p.reverse=c):sub B (i::p).reverse=sub c [i]:=by rw[List.reverse_cons,<-O4,h]
theorem pj (c:Code):sub c []=c:=by cases c<;>rfl
theorem Yu:∀{p q:List Nat},ER p q=aqW->p=q
 |[],[],_=>rfl
 |a::p,b::q,h=>by simp only[ER,ara] at h;rw[arA h.1,Yu h.2]
 |[],_::_,h=>by cases h
 |_::_,[],h=>by cases h
theorem ae7 {us:List (k9 D)} {p:List Nat} {u:k9 D} (h:q6 us p E O=aqV u):u∈us/\u.path=p/\u.fits E O=aqW:=by
 induction us with
 |nil=>cases h
 |cons w us a8=>
  simp only[q6] at h;split at h
  ·rename_i hw;cases h;simp only[ara] at hw;exact ⟨arp,Yu hw.1,hw.2⟩
  ·obtain ⟨h1,J⟩:=a8 h;exact ⟨ark _ h1,J⟩
theorem W3:∀{n:Nat} {O bL:List (aL D)} {z:Nat->a6} {m:Mem} {vs:List aqX},bm X.G O z e m k vs->Hx n O=aqV bL->∃z',Inv O bL/\cT e.next z z'/\bm X.G bL z' e m k vs
 |0,O,bL,z,m,vs,aw,h=>by cases h;exact ⟨z,Inv.refl O,cT.refl z,aw⟩
 |n+1,O,bL,z,m,vs,aw,h=>by
  simp only[Hx] at h;split at h
  ·rename_i cX J;obtain ⟨cr,c0,a2,a3⟩:=W3 aw J;split at h
   ·split at h
    ·cases h;exact ⟨cr,c0,a2,a3⟩
    ·obtain ⟨z2,e6,gj,mV⟩:=CP a3 h;exact ⟨z2,c0.trans e6,a2.trans gj,mV⟩
   ·cases h;exact ⟨cr,c0,a2,a3⟩
  ·cases h
theorem hy.fill {K:List (Nat×aQ D)->List (aL D)->Option af} {r:af} {vs:List aqX} {m':Mem} {fr':Nat->aqX} (h:hy X O z e k vs (uM K) r fr' m'):hy X O z e k vs K r fr' m':=by
 obtain ⟨cr,jb,jI,bL,aI,h1,J,aj,aM,bq⟩:=h;unfold uM at bq;split at bq
 ·rename_i cX aP;obtain ⟨z2,c0,a2,a3⟩:=W3 aj aP;exact ⟨z2,jb,jI,cX,aI.trans c0,h1.trans a2,J,a3,aM.mono a2.le fun _ _ h=>h,bq⟩
 ·cases bq
theorem zH (bW:fS X) {B:Code} {us:List (k9 D)} {L:Nat} (r0:∀u∈us,L<u.path.length->pG X B u):
  ∀(c:Code) (top:Bool) (p:List Nat) (E:List (Nat×aQ D)) (O:List (aL D)) (K:dX->List (Nat×aQ D)->List (aL D)->Option af) (r:af) {z:Nat->a6} {vs:List aqX} {m:Mem} {fr:Nat->aqX},
   sub B p.reverse=c->L<=p.length->(top=aqZ->L<p.length)->bm X.G O z e m k vs->eA X z vs E fr->hT X us calm top p c E O K=aqV r->W P c (fun x=>hy X O z e k vs (K x) r) fr m:=by
 intro c;have piece:∀{c:Code} {top:Bool} {p:List Nat} {E:List (Nat×aQ D)} {O:List (aL D)} {K:dX->List (Nat×aQ D)->List (aL D)->Option af} {r:af} {z:Nat->a6} {vs:List aqX} {m:Mem} {fr:Nat->aqX} {u:k9 D},
   sub B p.reverse=c->(top=aqZ->L<p.length)->bm X.G O z e m k vs->eA X z vs E fr->(if top=aqW then aqY else q6 us p.reverse E O)=aqV u->u.run E O K=aqV r->W P c (fun x=>hy X O z e k vs (K x) r) fr m:=by
  intro c top p E O K r z vs m fr u ap ao aw aT hu h;cases top with
  |true=>cases hu
  |false=>obtain ⟨h1,J,aj⟩:=ae7 hu;have:=r0 u h1 (by rw[J,List.length_reverse];exact ao rfl) E O K r aj aw aT h;rw[J,ap] at this;exact this
 induction c with
 |seq a b wg wh=>
  intro top p E O K r z vs m fr ap cC ao aw aT h;simp only[hT] at h;split at h
  ·rename_i u hu;exact piece ap ao aw aT hu h
  ·refine W.seq ((wg aqZ (0::p) E O _ r (by rw[zs ap];exact pj a) (by simp;omega) (fun _=>by simp;omega) aw aT h).mono ?_);rintro x eV m1 ⟨cr,jb,jI,bL,aI,h1,J,aj,aM,bq⟩;cases x with
   |normal=>have bq:=(if_pos rfl).symm.trans bq;exact (wh aqZ (1::p) jI bL K r (by rw[zs ap];exact pj b) (by simp;omega) (fun _=>by simp;omega) aj aM bq).mono fun _ _ _ ar=>ar.from aI h1 J
   |exit i=>exact ⟨cr,jb,jI,bL,aI,h1,J,aj,aM,(if_neg (by simp)).symm.trans bq⟩
   |ret=>exact ⟨cr,jb,jI,bL,aI,h1,J,aj,aM,(if_neg (by simp)).symm.trans bq⟩
 |cond x a b wg wh=>
  intro top p E O K r z vs m fr ap cC ao aw aT h;simp only[hT] at h;split at h
  ·rename_i u hu;exact piece ap ao aw aT hu h
  ·split at h
   ·rename_i t ay;have U:=Ow aT x;rw[ay] at U;cases t with
    |true=>rw[if_pos rfl] at h;exact W.aaG U rfl (wg aqZ (0::p) E O K r (by rw[zs ap];exact pj a) (by simp;omega) (fun _=>by simp;omega) aw aT h)
    |false=>rw[if_neg (by simp)] at h;exact W.aaF U rfl (wh aqZ (1::p) E O K r (by rw[zs ap];exact pj b) (by simp;omega) (fun _=>by simp;omega) aw aT h)
   ·cases h
 |scope c a8=>
  intro top p E O K r z vs m fr ap cC ao aw aT h;simp only[hT] at h;split at h
  ·rename_i u hu;exact piece ap ao aw aT hu h
  ·exact W.scope (a8 aqZ (0::p) E O K r (by rw[zs ap];exact pj c) (by simp;omega) (fun _=>by simp;omega) aw aT h)
 |block i c a8=>
  intro top p E O K r z vs m fr ap cC ao aw aT h;simp only[hT] at h;split at h
  ·rename_i u hu;exact piece ap ao aw aT hu h
  ·refine W.block ((a8 aqZ (0::p) E O _ r (by rw[zs ap];exact pj c) (by simp;omega) (fun _=>by simp;omega) aw aT h).mono ?_);rintro x eV m1 ar;obtain ⟨cr,jb,jI,bL,aI,h1,J,aj,aM,bq⟩:=ar;cases x with
   |normal=>exact ⟨cr,jb,jI,bL,aI,h1,J,aj,aM,by simpa using bq⟩
   |exit j=>
    by_cases cY:j=i
    ·subst cY;exact oM.jU ⟨cr,jb,jI,bL,aI,h1,J,aj,aM,by simpa using bq⟩
    ·exact oM.p3 (by simpa using cY) ⟨cr,jb,jI,bL,aI,h1,J,aj,aM,by simpa[cY] using bq⟩
   |ret=>exact ⟨cr,jb,jI,bL,aI,h1,J,aj,aM,by simpa using bq⟩
 |region id ops d=>
  intro top p E O K r z vs m fr ap cC ao aw aT h;simp only[hT] at h;split at h
  ·rename_i u hu;exact piece ap ao aw aT hu h
  ·cases d with
   |true=>
    rw[if_pos rfl] at h;split at h
    ·rename_i ab;exact (W.calm (Q:=fun x=>hy X O z e k vs (uM (K x)) r) ab (zy bW aw aT h)).mono fun _ _ _ ar=>ar.fill
    ·exact (W.draw (Q:=fun x=>hy X O z e k vs (uM (K x)) r) (G4 bW aw aT hn.start (fh.start aw aT) h)).mono fun _ _ _ ar=>ar.fill
   |false=>rw[if_neg (by simp)] at h;exact (W.region (Q:=fun x=>hy X O z e k vs (uM (K x)) r) (zy bW aw aT h)).mono fun _ _ _ ar=>ar.fill
 |loop c a8=>
  intro top p E O K r z vs m fr ap cC ao aw aT h;simp only[hT] at h;split at h
  ·rename_i u hu;exact piece ap ao aw aT hu h
  ·cases h
 |skip=>intro top p E O K r z vs m fr ap cC ao aw aT h;exact W.skip (hy.here aw aT h)
 |label l=>intro top p E O K r z vs m fr ap cC ao aw aT h;exact W.label (hy.here aw aT h)
 |exit i=>intro top p E O K r z vs m fr ap cC ao aw aT h;exact W.exit (hy.here aw aT h)
 |ret=>intro top p E O K r z vs m fr ap cC ao aw aT h;exact W.ret (hy.here aw aT h)
 |_=>intro top p E O K r z vs m fr ap cC ao aw aT h;simp[hT] at h
end
end Go.aS
end
section
namespace Go.aS
inductive fs where
 |int (k:aq2)|bool|str
 |az (e:Nat)|mp (t kt vt:Nat)
 |agg (t:Nat)|fH (t:Nat)
 |fn (f:Nat) (ts:List Nat)
 |cut (j e:Nat)
inductive bB where
 |az (e:Nat)|box (t:Nat)|recv (t:Nat)|eZ (e t n:Nat)|map (t kt vt:Nat)
 |eQ (t:Nat) (l:List (Nat×Nat))
 |j9 (t f:Nat) (is:List Nat)
 |ne (e t:Nat)
inductive dk where
 |v (d:Nat) (c:fs)
 |o (d:Nat) (c:bB)
 |u (j:Nat) (c:bB)
noncomputable section
section
variable {P:aq1} {D:Nat->Type}
def tY (D:Nat->Type):List Nat->Type
 |[]=>Unit
 |t::ts=>D t×tY D ts
def fs.ty (D:Nat->Type):fs->Type
 | .int _=>Int
 | .bool=>Bool
 | .str=>List UInt8
 | .az e=>List (D e)
 | .mp _ kt vt=>List (D kt×D vt)
 | .agg t=>D t
 | .fH t=>D t
 | .fn _ ts=>tY D ts
 | .cut _ _=>Nat×Nat
def bB.ty (D:Nat->Type):bB->Type
 | .az e=>List (D e)
 | .box t=>D t
 | .recv t=>D t
 | .eZ e _ _=>List (D e)
 | .map _ kt vt=>List (D kt×D vt)
 | .eQ t _=>D t
 | .j9 _ _ _=>Unit
 | .ne _ t=>List (List (D t))
def dk.ty (D:Nat->Type):dk->Type
 | .v _ c=>c.ty D
 | .o _ c=>c.ty D
 | .u _ c=>c.ty D
def ew (D:Nat->Type):List dk->Type
 |[]=>Unit
 |i::is=>i.ty D×ew D is
variable (X:dB P D)
def hN (t:Nat) (x:D t):List (bJ D):=match X.I t with|some ti=>ti.lv x|none=>[]
def k2 (t:Nat) (cs:List (bJ D)):Option (D t):=match X.I t with|some ti=>ti.pc cs|none=>aqY
def sr:(ts:List Nat)->tY D ts->List (Nat×List (bJ D))
 |[],_=>[]
 |t::ts,x=>(t,hN X t x.1)::sr ts x.2
def wP:(ts:List Nat)->List (Nat×List (bJ D))->Option (tY D ts)
 |[],[]=>aqV ()
 |t::ts,p::l=>if p.1=t then (match k2 X t p.2,wP ts l with|some a,aqV b=>aqV (a,b)|_,_=>aqY) else aqY
 |_,_=>aqY
def fs.mk:(c:fs)->c.ty D->aQ D
 | .int k,n=> .c (.int k n)
 | .bool,b=> .c (.bool b)
 | .str,s=> .c (.str s)
 | .az e,xs=> .c (.az e xs)
 | .mp t kt vt,es=> .c (.mp t kt vt es)
 | .agg t,x=> .agg t (hN X t x)
 | .fH t,x=> .fH t (hN X t x) 0
 | .fn f ts,x=> .fn f (sr X ts x)
 | .cut j e,x=> .cut j e x.1 x.2
def fs.get:(c:fs)->aQ D->Option (c.ty D)
 | .int k, .c (.int dc n)=>if dc=k then aqV n else aqY
 | .bool, .c (.bool b)=>aqV b
 | .str, .c (.str s)=>aqV s
 | .az e, .c .fz=>aqV []
 | .mp t kt vt, .c .oi=>aqV []
 | .az e, .c (.az bx xs)=>if h:bx=e then aqV (h▸xs) else aqY
 | .mp t kt vt, .c (.mp c7 ir iD es)=>if h:ir=kt/\iD=vt then (if c7=t then aqV (h.1▸h.2▸es) else aqY) else aqY
 | .agg t, .agg c7 cs=>if c7=t then k2 X t cs else aqY
 | .fH t, .fH c7 cs off=>if c7=t/\off=0 then k2 X t cs else aqY
 | .fn f ts, .fn jN l=>if jN=f then wP X ts l else aqY
 | .cut _ e, .cut _ bx bG n=>if bx=e then aqV (bG,n) else aqY
 |_,_=>aqY
def lf:List (Nat×Nat)->Nat->Option Nat
 |[],_=>aqY
 |p::l,i=>if ard p.1 i=aqW then aqV p.2 else lf l i
def nu (bY:Nat->Nat) (l:List (Nat×Nat)):Nat->List (bJ D)->List (bJ D)
 |_,[]=>[]
 |i,c::cs=>(match lf l i with|some n=> .own (bY n)|none=>c)::nu bY l (i+1) cs
def nG (t:Nat):List (bJ D):=match X.I t with|some ti=>ti.qu|none=>[]
def p4 (dS:List (bJ D)) (l:List (Nat×Nat)):Nat->List (bJ D)->List (bJ D)
 |_,[]=>[]
 |i,c::cs=>(match lf l i with|some _=>dS.getD i .fz|none=>c)::p4 dS l (i+1) cs
def bB.fe (bY:Nat->Nat):(c:bB)->c.ty D->Bool->aL D
 | .az e,xs,w=> .az e xs aqZ w
 | .box t,x,w=> .box t (hN X t x) aqZ w
 | .recv t,x,w=> .recv t (hN X t x) w
 | .eZ e t n,xs,w=> .eZ e t n xs w
 | .map t kt vt,es,w=> .map t kt vt es aqZ w
 | .eQ t l,x,w=> .box t (nu bY l 0 (hN X t x)) aqZ w
 | .j9 t f is,_,w=> .box t [.fn f (is.map bY)] aqZ w
 | .ne e t,di,w=> .nest e t ((X.N e t).map pF.up) di aqY w
def bB.mk (c:bB) (x:c.ty D) (w:Bool):aL D:=bB.fe X (fun n=>n) c x w
def bB.gK:bB->List Nat
 | .eQ _ l=>l.map Prod.snd
 | .j9 _ _ is=>is
 |_=>[]
def pb (a:Option Nat) (i:Nat):Bool:=match a with|some j=>ard j i|none=>aqZ
def Ds (aZ:List Nat) (cs:List (bJ D)):List (Nat×Nat)->Bool
 |[]=>aqW
 |p::l=>(match cs[p.1]? with|some (.own i)=>pb (aZ[p.2]?) i|_=>aqZ)&&Ds aZ cs l
def EK (aZ:List Nat):List Nat->List Nat->Bool
 |[],[]=>aqW
 |n::l,i::k=>pb (aZ[n]?) i&&EK aZ l k
 |_,_=>aqZ
def bB.get (aZ:List Nat):(c:bB)->aL D->Option (c.ty D)
 | .az e, .az bx xs aqZ _=>if h:bx=e then aqV (h▸xs) else aqY
 | .box t, .box c7 cs aqZ _=>if c7=t then k2 X t cs else aqY
 | .recv t, .recv c7 cs _=>if c7=t then k2 X t cs else aqY
 | .eZ e t n, .eZ bx c7 n' xs _=>if h:bx=e then (if c7=t/\n'=n then aqV (h▸xs) else aqY) else aqY
 | .map t kt vt, .map c7 ir iD es aqZ _=>if h:ir=kt/\iD=vt then (if c7=t then aqV (h.1▸h.2▸es) else aqY) else aqY
 | .eQ t l, .box c7 cs aqZ _=>if c7=t/\Ds aZ cs l=aqW then k2 X t (p4 (nG X t) l 0 cs) else aqY
 | .j9 t f is, .box c7 [.fn jN p0] aqZ _=>if c7=t/\jN=f/\EK aZ is p0=aqW then aqV () else aqY
 | .ne e t, .nest bx c7 _ di aqY _=>if h:c7=t then (if bx=e then aqV (h▸di) else aqY) else aqY
 |_,_=>aqY
def aL.clean:aL D->Bool
 | .box _ cs _ _=>cs.all zJ
 | .recv _ cs _=>cs.all zJ
 | .nest _ _ _ _ _ _=>aqZ
 |_=>aqW
def Lm (O:List (aL D)):aQ D->Option (aQ D×List (aL D))
 | .c c=>(match rJ O c with|some (bQ,bD)=>aqV (.c bQ,bD)|none=>aqY)
 | .agg t cs=>(match Bm O cs with|some (cs',bD)=>aqV (.agg t cs',bD)|none=>aqY)
 | .cut i e bG n=>(match vy O i with|some (.az bx xs,bD)=>if bx=e then aqV (.c (.az bx ((xs.take n).drop bG)),bD) else aqY|_=>aqY)
 |s=>aqV (s,O)
def PB:aQ D->Option Nat
 | .c (.own i)=>aqV i
 | .box i _=>aqV i
 | .eZ i=>aqV i
 | .el i _ _ _=>aqV i
 |_=>aqY
def xA (l:List (Nat×Nat)):Nat->List (bJ D)->Bool
 |_,[]=>aqZ
 |i,c::cs=>(match c with| .own _=>(match lf l i with|none=>aqW|_=>aqZ)|_=>aqZ)||xA l (i+1) cs
def EY (l:List (Nat×Nat)):Nat->List (bJ D)->List (aL D)->Option (List (bJ D)×List (aL D))
 |_,[],O=>aqV ([],O)
 |i,c::cs,O=>
  match (match lf l i with|some _=>aqV (c,O)|none=>rJ O c) with
  |some (bQ,bD)=>(match EY l (i+1) cs bD with|some (cs',tu)=>aqV (bQ::cs',tu)|none=>aqY)
  |none=>aqY
def tG (l:List (Nat×Nat)) (O:List (aL D)) (i:Nat):Option (List (aL D)):=
 match O[i]? with
 |some (.box t cs aqZ _)=>if xA l 0 cs=aqW then (match EY l 0 cs O with|some (cs',bD)=>aqV (bD.set i (.box t cs' aqZ aqW))|none=>aqY) else aqV O
 |_=>aqV O
def Ln (c:fs) (O:List (aL D)) (s:aQ D):Option (aQ D×List (aL D)):=
 match c,s with
 | .cut _ _,s=>aqV (s,O)
 | .fH _, .box i off=>
  (match tG [] O i with
  |some bL=>(match wV bL (.box i off) with|some (p,cX)=>aqV (.fH p.1 p.2 0,cX)|none=>aqY)
  |none=>aqY)
 |_,s=>Lm O s
def qD (E:List (Nat×aQ D)):List dk->List (aL D)->Option (List (aQ D)×List (aL D))
 |[],O=>aqV ([],O)
 | .v d c::aE,O=>
  match Ln c O (eg E d) with
  |some (s,bD)=>(match qD E aE bD with|some (l,tu)=>aqV (s::l,tu)|none=>aqY)
  |none=>aqY
 |_::aE,O=>match qD E aE O with|some (l,bD)=>aqV (.un::l,bD)|none=>aqY
def rz:Nat:=2000000
def Tu:Nat:=100000000
def Tv:Nat:=200000000
def Dr:List (bJ D)->List Nat
 |[]=>[]
 | .own i::cs=>i::Dr cs
 | .fn _ is::cs=>is++Dr cs
 |_::cs=>Dr cs
def YQ (O:List (aL D)) (i:Nat):List Nat:=
 match O[i]? with
 |some (.box _ cs _ _)=>Dr cs
 |some (.recv _ cs _)=>Dr cs
 |_=>[]
def Ps (O:List (aL D)):Nat->List Nat->List Nat->List Nat
 |0,_,s=>s
 |_+1,[],s=>s
 |n+1,i::l,s=>if s.any (ard i)=aqW then Ps O n l s else Ps O n (YQ O i++l) (s++[i])
def Y1:List (Nat×aQ D)->List Nat
 |[]=>[]
 |p::E=>(match PB p.2 with|some i=>[i]|none=>[])++Y1 E
def Y0 (E:List (Nat×aQ D)) (O:List (aL D)):Nat->Nat->Option Nat
 |0,_=>aqY
 |n+1,m=>if ard (m%64) 0=aqW then PB (eg E (m / 64)) else (match Y0 E O n (m / 64) with|some i=>(YQ O i)[m%64 - 1]? |none=>aqY)
def JH (E:List (Nat×aQ D)) (O:List (aL D)) (d:Nat):Option Nat:=
 if arz Tv d=aqW then Y0 E O 8 (d - Tv) else
 if ass d rz=aqW then PB (eg E d)
 else if arz Tu d=aqW then aqV (d - Tu)
 else match eg E ((d - rz) / 1000) with
  | .box i 0=>(match O[i]? with|some (.box _ cs _ _)=>(match cs[(d - rz)%1000]? with|some (.own n)=>aqV n|_=>aqY)|_=>aqY)
  |_=>aqY
def EE (E:List (Nat×aQ D)) (O:List (aL D)):List dk->Option (List Nat)
 |[]=>aqV []
 | .o d _::aE=>(match JH E O d,EE E O aE with|some i,aqV l=>aqV (i::l)|_,_=>aqY)
 |_::aE=>EE E O aE
def nS (E:List (Nat×aQ D)):List dk->List (aL D)->Option (List (aL D))
 |[],O=>aqV O
 | .o d (.box _)::aE,O=>(match JH E O d with|some i=>(match tG [] O i with|some bD=>nS E aE bD|none=>aqY)|none=>aqY)
 | .o d (.eQ _ l)::aE,O=>(match JH E O d with|some i=>(match tG l O i with|some bD=>nS E aE bD|none=>aqY)|none=>aqY)
 | .u j (.box _)::aE,O=>(match tG [] O j with|some bD=>nS E aE bD|none=>aqY)
 | .u j (.eQ _ l)::aE,O=>(match tG l O j with|some bD=>nS E aE bD|none=>aqY)
 |_::aE,O=>nS E aE O
def TF (aZ:List Nat):fs->aQ D->Bool
 | .cut j _, .cut i _ _ _=>pb (aZ[j]?) i
 |_,_=>aqW
def gx (eO:List Nat) (O:List (aL D)):(aE:List dk)->List (aQ D)->List Nat->Option (ew D aE)
 |[],_,[]=>aqV ()
 | .v d c::aE,s::l,aZ=>if TF eO c s=aqW then (match fs.get X c s,gx eO O aE l aZ with|some x,aqV y=>aqV (x,y)|_,_=>aqY) else aqY
 | .o d c::aE,_::l,i::aZ=>
  match O[i]? with
  |some o=>(match bB.get X eO c o,gx eO O aE l aZ with|some x,aqV y=>aqV (x,y)|_,_=>aqY)
  |none=>aqY
 | .u j c::aE,_::l,aZ=>
  match O[j]? with
  |some o=>(match bB.get X eO c o,gx eO O aE l aZ with|some x,aqV y=>aqV (x,y)|_,_=>aqY)
  |none=>aqY
 |_,_,_=>aqY
def dL:(aE:List dk)->ew D aE->List (aL D)
 |[],_=>[]
 | .o _ c::aE,x=>bB.mk X c x.1 aqZ::dL aE x.2
 | .v _ _::aE,x=>dL aE x.2
 | .u _ _::aE,x=>dL aE x.2
def gv:(aE:List dk)->ew D aE->List (Nat×aQ D)
 |[],_=>[]
 | .v d c::aE,x=>(d,fs.mk X c x.1)::gv aE x.2
 | .o _ _::aE,x=>gv aE x.2
 | .u _ _::aE,x=>gv aE x.2
def vz (aZ:List Nat):aQ D->aQ D->Bool
 | .c (.own j), .c (.own i)=>pb (aZ[j]?) i
 | .box j o, .box i p=>pb (aZ[j]?) i&&ard o p
 | .eZ j, .eZ i=>pb (aZ[j]?) i
 | .c .fz, .c .fz=>aqW
 | .c .y6, .c .y6=>aqW
 | .c .oi, .c .oi=>aqW
 | .undef, .undef=>aqW
 | .un,_=>aqW
 | .c (.int k n), .c (.int dc n')=>decide (k=dc)&&(n==n')
 | .c (.bool b), .c (.bool b6)=>b==b6
 | .fn f [], .fn jN []=>ard f jN
 |_,_=>aqZ
def xu (bY:Nat->Nat):aQ D->aQ D
 | .c (.own j)=> .c (.own (bY j))
 | .box j o=> .box (bY j) o
 | .eZ j=> .eZ (bY j)
 |s=>s
def ss:List Nat->Bool
 |[]=>aqW
 |i::l=> !(l.any fun j=>ard j i)&&ss l
def C9 (l:List (Nat×Nat)):Nat->List (bJ D)->Bool
 |_,[]=>aqW
 |i,c::cs=>(match lf l i with|some _=>aqW|none=>zJ c)&&C9 l (i+1) cs
def bB.JQ:bB->aL D->Bool
 | .eQ _ l, .box _ cs _ _=>C9 l 0 cs
 |_,o=>o.clean
def st (c:bB) (O:List (aL D)) (i:Nat):Bool:=match O[i]? with|some o=>o.k6|| !(c.JQ o)|none=>aqW
def kZ (eO:List Nat):(aE:List dk)->ew D aE->List Nat->List (aL D)->List (aL D)
 | .o _ c::aE,x,i::aZ,O=>kZ eO aE x.2 aZ (O.set i (bB.fe X (fun n=>eO.getD n 0) c x.1 (st c O i)))
 | .v _ _::aE,x,aZ,O=>kZ eO aE x.2 aZ O
 | .u _ _::aE,x,aZ,O=>kZ eO aE x.2 aZ O
 |_,_,_,O=>O
def HH (aE:List dk) (eE:List (Nat×aQ D)) (E:List (Nat×aQ D)) (O:List (aL D)):Option (ew D aE×List Nat×List (aL D)):=
 match qD E aE O,EE E O aE with
 |some (bN,bL),aqV aZ=>
  if (ss aZ&&eE.all fun p=>vz aZ p.2 (eg E p.1))=aqW then
   match gx X aZ bL aE bN aZ with
   |some x=>aqV (x,aZ,kZ X aZ aE x aZ bL)
   |none=>aqY
  else aqY
 |_,_=>aqY
def re (aE:List dk) (eE:List (Nat×aQ D)) (E:List (Nat×aQ D)) (O:List (aL D)):Option (ew D aE×List Nat×List (aL D)):=
 match nS E aE O with
 |some lN=>HH X aE eE E lN
 |none=>aqY
end
section
variable {P:aq1} {D:Nat->Type} {X:dB P D} {z z':Nat->a6} {e m m':Mem} {k:Option Nat} {vs vs':List aqX} {fr:Nat->aqX} {E:List (Nat×aQ D)} {O bD:List (aL D)}
theorem sq {t:Nat} {x:D t} {ds:List aqX} (h:ba (dj X.G z vs) (hN X t x) ds):ba (dj X.G z vs') (hN X t x) ds:=by
 unfold hN at h⊢;split at h
 ·rename_i ti _;exact ti.rf z vs' x ds (ti.q1 z vs _ x ds (ti.Nb x) h)
 ·exact ba.mono (fun _ _ h=>h) (by cases ds with|nil=>trivial|cons _ _=>exact h.elim)
theorem uF {t:Nat} {x:D t} {cs:List (bJ D)} {ds:List aqX} (ap:k2 X t cs=aqV x) (h:ba (dj X.G z vs) cs ds):ba (dj X.G z vs') (hN X t x) ds:=by
 unfold k2 at ap;unfold hN;split at ap
 ·rename_i ti cc;exact ti.rf z vs' x ds (ti.q1 z vs cs x ds ap h)
 ·cases ap
theorem HO {t:Nat} {x:D t} {cs:List (bJ D)} (ap:k2 X t cs=aqV x) (h:cs.all zJ=aqW):cs=hN X t x:=by
 unfold k2 at ap;unfold hN;split at ap
 ·rename_i ti cc;exact (ti.F6 cs x ap).eq h
 ·cases ap
theorem amI {t:Nat} {x:D t} {cs:List (bJ D)} (ap:k2 X t cs=aqV x):oJ cs (hN X t x):=by
 unfold k2 at ap;unfold hN;split at ap
 ·rename_i ti cc;exact ti.F6 cs x ap
 ·cases ap
theorem Wo:∀{ts:List Nat} {x:tY D ts} {gs:List aqX},ba (fun c g=>l8 X.G z vs c.2 0 g) (sr X ts x) gs->ba (fun c g=>l8 X.G z vs' c.2 0 g) (sr X ts x) gs
 |[],_,[],_=>trivial
 |[],_,_::_,h=>h.elim
 |t::ts,x,[],h=>h.elim
 |t::ts,x,g::gs,⟨⟨b,o,ds,h1,J,aj⟩,aM⟩=>⟨⟨b,o,ds,h1,J,sq aj⟩,Wo aM⟩
theorem WE:∀{ts:List Nat} {l:List (Nat×List (bJ D))} {x:tY D ts} {gs:List aqX},wP X ts l=aqV x->ba (fun c g=>l8 X.G z vs c.2 0 g) l gs->ba (fun c g=>l8 X.G z vs' c.2 0 g) (sr X ts x) gs
 |[],[],_,[],_,_=>trivial
 |[],[],_,_::_,_,h=>h.elim
 |[],_::_,_,_,h,_=>by cases h
 |_::_,[],_,_,h,_=>by cases h
 |t::ts,p::l,x,[],_,h=>h.elim
 |t::ts,p::l,x,g::gs,h,⟨⟨b,o,ds,h1,J,aj⟩,aM⟩=>by
  simp only[wP] at h;split at h
  ·split at h
   ·rename_i a b6 aq aa;cases h;exact ⟨⟨b,o,ds,h1,J,uF aq aj⟩,WE aa aM⟩
   ·cases h
  ·cases h
def fs.y5:fs->Bool
 | .cut _ _=>aqZ
 |_=>aqW
theorem fs.MX {c:fs} {x:c.ty D} {v:aqX} (ab:c.y5=aqW) (h:rel X.G z vs (fs.mk X c x) v):rel X.G z vs' (fs.mk X c x) v:=by
 cases c with
 |cut j e=>cases ab
 |agg t=>obtain ⟨ds,h1,J⟩:=h;exact ⟨ds,h1,sq J⟩
 |fH t=>obtain ⟨b,o,ds,h1,J,aj⟩:=h;exact ⟨b,o,ds,h1,J,sq aj⟩
 |fn f ts=>obtain ⟨gs,h1,J⟩:=h;exact ⟨gs,h1,Wo J⟩
 |_=>exact h
theorem XW {a:Option Nat} {i:Nat} (h:pb a i=aqW):a=aqV i:=by
 unfold pb at h;split at h
 ·rw[arA h]
 ·cases h
theorem fs.Bp {aZ:List Nat} {c:fs} {x:c.ty D} {s:aQ D} {v:aqX} (hm:∀(j i:Nat) (u:aqX),aZ[j]? =aqV i->vs[i]? =aqV u->vs'[j]? =aqV u) (dE:TF aZ c s=aqW) (aH:fs.get X c s=aqV x) (h:rel X.G z vs s v):rel X.G z vs' (fs.mk X c x) v:=by
 unfold fs.get at aH;split at aH
 ·split at aH
  ·rename_i hk;cases aH;subst hk;exact h
  ·cases aH
 ·cases aH;exact h
 ·cases aH;exact h
 ·cases aH;exact .inl ⟨h,rfl⟩
 ·cases aH;exact .inl ⟨h,rfl⟩
 ·split at aH
  ·rename_i hk;cases aH;subst hk;exact h
  ·cases aH
 ·split at aH
  ·rename_i hk;split at aH
   ·rename_i ao;obtain ⟨h1,J⟩:=hk;subst h1 J ao;cases aH;exact h
   ·cases aH
  ·cases aH
 ·obtain ⟨_,aH⟩:=eW aH;obtain ⟨ds,h1,J⟩:=h;exact ⟨ds,h1,uF aH J⟩
 ·obtain ⟨hk,aH⟩:=eW aH;obtain ⟨b,o,ds,h1,J,aj⟩:=h;exact ⟨b,o,ds,by rw[h1,hk.2],J,uF aH aj⟩
 ·obtain ⟨hk,aH⟩:=eW aH;subst hk;obtain ⟨gs,h1,J⟩:=h;exact ⟨gs,h1,WE aH J⟩
 ·obtain ⟨hk,aH⟩:=eW aH;subst hk;cases aH;obtain ⟨w,h1,J⟩:=h;exact ⟨w,⟨hm _ _ _ (XW dE) h1.1,h1.2⟩,J⟩
 ·cases aH
theorem bB.r6 {bY:Nat->Nat} {c:bB} {x:c.ty D} {w:Bool}:(bB.fe X bY c x w).live=aqW:=by cases c<;>rfl
theorem bB.FV {bY:Nat->Nat} {c:bB} {x:c.ty D} {w:Bool}:(bB.fe X bY c x w).k6=w:=by cases c<;>first|rfl|simp[bB.fe,aL.k6]
theorem bB.uc {c:bB} {x:c.ty D} {w:Bool}:(bB.mk X c x w).live=aqW:=bB.r6
theorem l6 {au bz:Type} {R:au->bz->Prop}:∀{l:List au} {k:List bz},ba R l k↔l.length=k.length/\∀(i:Nat) (a:au) (b:bz),l[i]? =aqV a->k[i]? =aqV b->R a b
 |[],[]=>by simp[ba]
 |[],_::_=>by simp[ba]
 |_::_,[]=>by simp[ba]
 |a::l,b::k=>by
  simp only[ba,l6 (l:=l) (k:=k),arw];constructor
  ·rintro ⟨h1,J,aj⟩;refine ⟨by omega,fun i x y U ag=> ?_⟩;cases i with
   |zero=>simp at U ag;subst U ag;exact h1
   |succ i=>exact aj i x y (by simpa using U) (by simpa using ag)
  ·rintro ⟨h1,J⟩;exact ⟨J 0 a b rfl rfl,by omega,fun i x y U ag=>J (i+1) x y (by simpa using U) (by simpa using ag)⟩
theorem CX {bY:Nat->Nat} {l:List (Nat×Nat)}:∀{cs:List (bJ D)} {i0 i:Nat},(nu bY l i0 cs)[i]? =(cs[i]?).map fun c=>match lf l (i0+i) with|some n=> .own (bY n)|none=>c
 |[],i0,i=>by simp[nu]
 |c::cs,i0,0=>by simp[nu]
 |c::cs,i0,i+1=>by simp only[nu,asC];rw[CX (cs:=cs),show i0+1+i=i0+(i+1) by omega]
theorem Xs {dS:List (bJ D)} {l:List (Nat×Nat)}:∀{cs:List (bJ D)} {i0 i:Nat},(p4 dS l i0 cs)[i]? =(cs[i]?).map fun c=>match lf l (i0+i) with|some _=>dS.getD (i0+i) .fz|none=>c
 |[],i0,i=>by simp[p4]
 |c::cs,i0,0=>by simp[p4]
 |c::cs,i0,i+1=>by simp only[p4,asC];rw[Xs (cs:=cs),show i0+1+i=i0+(i+1) by omega]
theorem N8 {bY:Nat->Nat} {l:List (Nat×Nat)}:∀{cs:List (bJ D)} {i0:Nat},(nu bY l i0 cs).length=cs.length
 |[],_=>rfl
 |c::cs,i0=>by simp[nu,N8 (cs:=cs)]
theorem YO {t:Nat} (i:Nat):∃v,∀(z:Nat->a6) (vs:List aqX),dj X.G z vs ((nG X t).getD i .fz) v:=by
 unfold nG;cases cc:X.I t with
 |none=>exact ⟨.slice aqY 0 0,fun z vs=>rfl⟩
 |some ti=>
  simp only;cases ab:ti.qu[i]? with
  |none=>exact ⟨.slice aqY 0 0,fun z vs=>by rw[aua,ab];rfl⟩
  |some c=>obtain ⟨v,ad,_⟩:=(ti.r3 (fun _=> .dead) []).get i c ab;refine ⟨v,fun z vs=> ?_⟩;rw[aua,ab];exact (l6.1 (ti.r3 z vs)).2 i c v ab ad
theorem Xt {dS:List (bJ D)} {l:List (Nat×Nat)}:∀{cs:List (bJ D)} {i0:Nat},(p4 dS l i0 cs).length=cs.length
 |[],_=>rfl
 |c::cs,i0=>by simp[p4,Xt (cs:=cs)]
theorem CS:∀{l:List (Nat×Nat)} {i n:Nat},lf l i=aqV n->(i,n)∈l
 |[],_,_,h=>by cases h
 |p::l,i,n,h=>by
  simp only[lf] at h;split at h
  ·rename_i ap;cases h;have:=arA ap;subst this;exact arp
  ·exact ark _ (CS h)
theorem GI {aZ:List Nat} {cs:List (bJ D)}:∀{l:List (Nat×Nat)},Ds aZ cs l=aqW->∀p∈l,∃i,cs[p.1]? =aqV (.own i)/\aZ[p.2]? =aqV i
 |[],_,_,h=>by simp at h
 |q::l,h,p,ap=>by
  simp only[Ds,ara] at h;rcases arb.1 ap with rfl|ap
  ·have h1:=h.1;split at h1
   ·rename_i i ae;refine ⟨i,ae, ?_⟩;unfold pb at h1;split at h1
    ·rename_i j av;rw[av,arA h1]
    ·cases h1
   ·cases h1
  ·exact GI h.2 p ap
theorem ah0 {t:Nat} {x:D t}:(hN X t x).all o8=aqW:=by
 unfold hN;split
 ·rename_i ti _;exact ti.MV x
 ·rfl
theorem afo {c:bJ D} {v:aqX} (ab:o8 c=aqW) (h:dj X.G z vs c v) (aP:∀f is,c≠ .fn f is):dj X.G z vs' c v:=by
 cases c<;>first|exact h|cases ab|exact absurd rfl (aP _ _)
theorem agc {c:bJ D} {v:aqX} (ab:o8 c=aqW) (h:dj X.G z vs c v):dj X.G z vs' c v:=by
 cases c with
 |fn f is=>
  cases is with
  |nil=>obtain ⟨gs,h1,J⟩:=h;exact ⟨gs,h1,by cases gs with|nil=>trivial|cons _ _=>exact J.elim⟩
  |cons _ _=>cases ab
 |_=>exact afo ab h (by simp)
def PC (i:Nat):aL D->Prop
 | .box _ cs _ _=> .own i∈cs\/∃f is, .fn f is∈cs/\i∈is
 |_=>False
theorem GU {aZ:List Nat}:∀{l k:List Nat},EK aZ l k=aqW->ba (fun n i=>aZ[n]? =aqV i) l k
 |[],[],_=>trivial
 |n::l,i::k,h=>by simp only[EK,ara] at h;exact ⟨XW h.1,GU h.2⟩
 |[],_::_,h=>by cases h
 |_::_,[],h=>by cases h
theorem XK {bY me:Nat->Nat}:∀{is:List Nat} {gs:List aqX},(∀n∈is,∀u,vs[bY n]? =aqV u->vs'[me n]? =aqV u)->ba (rE vs) (is.map bY) gs->ba (rE vs') (is.map me) gs
 |[],[],_,_=>trivial
 |[],_::_,_,h=>h.elim
 |_::_,[],_,h=>h.elim
 |n::is,g::gs,ad,⟨h1,J⟩=>⟨⟨ad n arp g h1.1,h1.2⟩,XK (fun m hm=>ad m (ark _ hm)) J⟩
theorem XL {aZ:List Nat} {bY:Nat->Nat} (ad:∀n i u,aZ[n]? =aqV i->vs[i]? =aqV u->vs'[bY n]? =aqV u):∀{is p0:List Nat} {gs:List aqX},ba (fun n i=>aZ[n]? =aqV i) is p0->ba (rE vs) p0 gs->ba (rE vs') (is.map bY) gs
 |[],[],[],_,_=>trivial
 |_::_,[],_,h,_=>h.elim
 |[],_::_,_,h,_=>h.elim
 |[],[],_::_,_,h=>h.elim
 |_::_,_::_,[],_,h=>h.elim
 |n::is,j::p0,g::gs,⟨h1,J⟩,⟨bs,bC⟩=>⟨⟨ad n j g h1 bs.1,bs.2⟩,XL ad J bC⟩
theorem bB.U9 {bY me:Nat->Nat} {c:bB} {x:c.ty D} {v:aqX} {w:Bool} (w':Bool) (h:fI X.G z e m k vs (bB.fe X bY c x w) v) (ad:∀n∈c.gK,PC (bY n) (bB.fe X bY c x w)->∀u,vs[bY n]? =aqV u->vs'[me n]? =aqV u):fI X.G z e m k vs' (bB.fe X me c x w') v:=by
 cases c with
 |box t=>obtain ⟨b,ds,h1,J,aj,aM⟩:=h;exact ⟨b,ds,h1,J,aj,sq aM⟩
 |recv t=>obtain ⟨b,ds,h1,J,aM⟩:=h;exact ⟨b,ds,h1,J,sq aM⟩
 |eQ t l=>
  obtain ⟨b,ds,h1,J,aj,aM⟩:=h;refine ⟨b,ds,h1,J,aj,l6.2 ⟨?_,fun i a d aq aB=> ?_⟩⟩
  ·have:=(l6.1 aM).1;rw[N8] at this⊢;exact this
  ·rw[CX] at aq;obtain ⟨a0,aI,aq⟩:=atp.1 aq;have an:=(l6.1 aM).2 i _ d (by rw[CX,aI];rfl) aB;rw[arh] at aq an;cases aP:lf l i with
   |none=>rw[aP] at aq an;subst aq;exact agc (arc.1 ah0 a0 (are aI)) an
   |some n=>rw[aP] at aq an;subst aq;exact ⟨ad n (arf.2 ⟨_,CS aP,rfl⟩) (.inl (are (i:=i) (by rw[CX,aI,arh,asz,aP]))) d an.1,an.2⟩
 |j9 t f is=>
  obtain ⟨b,ds,h1,J,aj,aM⟩:=h;refine ⟨b,ds,h1,J,aj, ?_⟩
  match ds,aM with
  |[d],⟨⟨gs,g1,g2⟩,_⟩=>exact ⟨⟨gs,g1,XK (fun n ar=>ad n ar (.inr ⟨f,_,arp,arf.2 ⟨n,ar,rfl⟩⟩)) g2⟩,trivial⟩
 |ne e t=>obtain ⟨hu,ws,h⟩:=h;exact ⟨hu,ws,h.bf,h.len,h.nn,fun p ap=>by cases ap⟩
 |_=>exact h
theorem bB.y2 {bY me:Nat->Nat} {c:bB} {x:c.ty D} {v:aqX} {w:Bool} (w':Bool) (h:fI X.G z e m k vs (bB.fe X bY c x w) v) (ad:∀n∈c.gK,∀u,vs[bY n]? =aqV u->vs'[me n]? =aqV u):fI X.G z e m k vs' (bB.fe X me c x w') v:=bB.U9 w' h fun n ar _=>ad n ar
theorem ai0 {e t:Nat}:Tt X.G e t ((X.N e t).map pF.up):=by
 intro f aP;cases ar:X.N e t with
 |none=>rw[ar] at aP;cases aP
 |some dI=>rw[ar] at aP;cases aP;exact ⟨dI.bE,dI.tid,dI.an⟩
theorem bB.Bp {aZ:List Nat} {bY:Nat->Nat} {c:bB} {x:c.ty D} {o:aL D} {v:aqX} (aH:bB.get X aZ c o=aqV x) (h:fI X.G z e m k vs o v) (ad:∀n i u,aZ[n]? =aqV i->vs[i]? =aqV u->vs'[bY n]? =aqV u) (w:Bool):fI X.G z e m k vs' (bB.fe X bY c x w) v:=by
 unfold bB.get at aH;split at aH
 ·split at aH
  ·rename_i hk;cases aH;subst hk;exact h
  ·cases aH
 ·obtain ⟨hk,aH⟩:=eW aH;subst hk;obtain ⟨b,ds,h1,J,aj,aM⟩:=h;exact ⟨b,ds,h1,J,aj,uF aH aM⟩
 ·obtain ⟨hk,aH⟩:=eW aH;subst hk;obtain ⟨b,ds,h1,J,aM⟩:=h;exact ⟨b,ds,h1,J,uF aH aM⟩
 ·split at aH
  ·rename_i hk;split at aH
   ·rename_i ao;obtain ⟨h1,J⟩:=ao;subst hk h1 J;cases aH;exact h
   ·cases aH
  ·cases aH
 ·split at aH
  ·rename_i hk;split at aH
   ·rename_i ao;obtain ⟨h1,J⟩:=hk;subst h1 J ao;cases aH;exact h
   ·cases aH
  ·cases aH
 ·rename_i t l c7 cs de;obtain ⟨hk,aH⟩:=eW aH;obtain ⟨rfl,ah⟩:=hk;obtain ⟨b,ds,h1,J,aj,aM⟩:=h;have hlen:=(l6.1 aM).1;have ar:ba (dj X.G z vs) (p4 (nG X c7) l 0 cs) ((arC ds.length).map fun i=>match lf l i with|some _=>Classical.choose (YO (X:=X) (t:=c7) i)|none=>ds.getD i undef):=by
   refine l6.2 ⟨by rw[Xt];simp[hlen],fun i a d aq aB=> ?_⟩;rw[Xs] at aq;obtain ⟨a0,aI,aq⟩:=atp.1 aq;rw[arh] at aq;have ae:i<ds.length:=by rw[<-hlen];exact (aq5.1 aI).1
   rw[arH,as8 ae] at aB;have aB:=arr.inj aB;cases aP:lf l i with
   |none=>rw[aP] at aq;simp only[aP] at aB;subst aq aB;exact (l6.1 aM).2 i a0 _ aI (by simp[ar3,ary ae])
   |some n=>rw[aP] at aq;simp only[aP] at aB;subst aq aB;exact Classical.choose_spec (YO (X:=X) (t:=c7) i) z vs
  have ar:=uF (vs':=vs') aH ar;refine ⟨b,ds,h1,J,aj,l6.2 ⟨by rw[N8,(l6.1 ar).1];simp,fun i a d aq aB=> ?_⟩⟩;rw[CX] at aq;obtain ⟨a0,aI,aq⟩:=atp.1 aq;rw[arh] at aq;have ae:i<ds.length:=(aq5.1 aB).1;cases aP:lf l i with
  |none=>rw[aP] at aq;subst aq;have:=(l6.1 ar).2 i a0 d aI (by rw[arH,as8 ae];simp only[asz,aP];simp[ar3,aB]);exact this
  |some n=>rw[aP] at aq;subst aq;obtain ⟨i0,g1,g2⟩:=GI ah _ (CS aP);have an:=(l6.1 aM).2 i _ d g1 aB;exact ⟨ad n i0 d g2 an.1,an.2⟩
 ·obtain ⟨⟨rfl,rfl,ab⟩,aH⟩:=eW aH;obtain ⟨b,ds,h1,J,aj,aM⟩:=h;refine ⟨b,ds,h1,J,aj, ?_⟩
  match ds,aM with
  |[d],⟨⟨gs,g1,g2⟩,_⟩=>exact ⟨⟨gs,g1,XL ad (GU ab) g2⟩,trivial⟩
 ·split at aH
  ·rename_i hk;subst hk;obtain ⟨hk,aH⟩:=eW aH;subst hk;cases aH;obtain ⟨_,ws,h⟩:=h;exact ⟨ai0,ws,h.bf,h.len,h.nn,fun p ap=>by cases ap⟩
  ·cases aH
 ·cases aH
theorem bB.aaV {aZ:List Nat} {c:bB} {x:c.ty D} {o:aL D} (aH:bB.get X aZ c o=aqV x):∀n∈c.gK,∃i,aZ[n]? =aqV i:=by
 intro n ar;unfold bB.get at aH;split at aH
 ·simp[bB.gK] at ar
 ·simp[bB.gK] at ar
 ·simp[bB.gK] at ar
 ·simp[bB.gK] at ar
 ·simp[bB.gK] at ar
 ·obtain ⟨⟨_,ah⟩,_⟩:=eW aH;obtain ⟨p,ap,rfl⟩:=arf.1 ar;obtain ⟨i,_,h⟩:=GI ah p ap;exact ⟨i,h⟩
 ·rename_i t f is c7 jN p0 de;obtain ⟨⟨_,_,ab⟩,_⟩:=eW aH;have:∀{l k:List Nat},ba (fun n i=>aZ[n]? =aqV i) l k->∀n∈l,∃i,aZ[n]? =aqV i:=by
   intro l;induction l with
   |nil=>intro k _ n ar;cases ar
   |cons a l a8=>
    intro k hk n ar;cases k with
    |nil=>exact hk.elim
    |cons b k=>
     rcases arb.1 ar with rfl|ar
     ·exact ⟨b,hk.1⟩
     ·exact a8 hk.2 n ar
  exact this (GU ab) n ar
 ·simp[bB.gK] at ar
 ·cases aH
theorem bB.Lr {aZ:List Nat} {c:bB} {x:c.ty D} {o:aL D} (aH:bB.get X aZ c o=aqV x):o.live=aqW:=by
 unfold bB.get at aH;split at aH<;>first|rfl|cases aH
theorem WJ {bY:Nat->Nat} {dS:List (bJ D)} {l:List (Nat×Nat)}:∀{cs ds:List (bJ D)} {i:Nat},oJ (p4 dS l i cs) ds->C9 l i cs=aqW->(∀j n,lf l (i+j)=aqV n->cs[j]? =aqY\/cs[j]? =aqV (.own (bY n)))->nu bY l i ds=cs
 |[],[],_,_,_,_=>rfl
 |[],_::_,_,h,_,_=>h.elim
 |_::_,[],_,h,_,_=>h.elim
 |c::cs,d::ds,i,h,ab,ai=>by
  simp only[C9,ara] at ab;have J:=WJ (cs:=cs) (ds:=ds) (i:=i+1) h.2 ab.2 fun j n av=>by have:=ai (j+1) n (by rw[<-av];congr 1;omega);simpa using this
  simp only[nu,J];have aI:=ai 0;rw[arJ] at aI;cases aP:lf l i with
  |some n=>have:=aI n aP;simp at this;simp[this]
  |none=>have h1:=h.1;simp only[aP] at h1 ab;simp only;rw[h1 ab.1]
theorem bB.aaU {aZ:List Nat} {c:bB} {x:c.ty D} {o:aL D} (aH:bB.get X aZ c o=aqV x) (h:c.JQ o=aqW):o=bB.fe X (fun n=>aZ.getD n 0) c x o.k6:=by
 unfold bB.get at aH;split at aH
 ·split at aH
  ·rename_i hk;cases aH;subst hk;rfl
  ·cases aH
 ·obtain ⟨hk,aH⟩:=eW aH;subst hk;simp only[bB.fe,aL.k6];rw[<-HO aH h]
 ·obtain ⟨hk,aH⟩:=eW aH;subst hk;simp only[bB.fe,aL.k6];rw[<-HO aH h]
 ·split at aH
  ·rename_i hk;split at aH
   ·rename_i ao;obtain ⟨h1,J⟩:=ao;subst hk h1 J;cases aH;rfl
   ·cases aH
  ·cases aH
 ·split at aH
  ·rename_i hk;split at aH
   ·rename_i ao;obtain ⟨h1,J⟩:=hk;subst h1 J ao;cases aH;rfl
   ·cases aH
  ·cases aH
 ·rename_i t l c7 cs de;obtain ⟨⟨rfl,ah⟩,aH⟩:=eW aH;simp only[bB.fe,aL.k6];rw[WJ (amI aH) (h:C9 l 0 cs=aqW) fun j n av=> .inr ?_];obtain ⟨i,g1,g2⟩:=GI ah (j,n) (CS (by rwa [arh] at av));rw[g1,aua,g2];rfl
 ·rename_i t f is c7 jN p0 de;obtain ⟨⟨rfl,rfl,ab⟩,aH⟩:=eW aH;have:∀{l k:List Nat},ba (fun n i=>aZ[n]? =aqV i) l k->l.map (fun n=>aZ.getD n 0)=k:=by
   intro l;induction l with
   |nil=>intro k hk;cases k with
    |nil=>rfl
    |cons _ _=>exact hk.elim
   |cons a l a8=>
    intro k hk;cases k with
    |nil=>exact hk.elim
    |cons b k=>rw[arN,a8 hk.2,aua,hk.1];rfl
  simp only[bB.fe,aL.k6];rw[this (GU ab)]
 ·split at aH
  ·rename_i hk;subst hk;obtain ⟨hk,aH⟩:=eW aH;subst hk;cases h
  ·cases aH
 ·cases aH
end
end
end Go.aS
end
section
namespace Go.aS
section
variable {P:aq1} {D:Nat->Type} {X:dB P D} {z z':Nat->a6} {e m m':Mem} {k:Option Nat} {vs vs':List aqX} {fr:Nat->aqX} {E:List (Nat×aQ D)} {O bD:List (aL D)}
theorem bm.DM (h:bm X.G O z e m k vs) (len:vs'.length=bD.length) (AH:Nat->Nat)
  (ah:∀(i:Nat) (o:aL D),bD[i]? =aqV o->o.live=aqW->∃p v,O[AH i]? =aqV p/\p.live=aqW/\vs[AH i]? =aqV v/\vs'[i]? =aqV v/\fI X.G z e m k vs' o v)
  (aP:∀(i:Nat) (o:aL D) (v:aqX),bD[i]? =aqV o->o.live=aqZ->vs'[i]? =aqV v->fI X.G z e m k vs' o v)
  (inj:∀(i j:Nat) (o p:aL D),bD[i]? =aqV o->bD[j]? =aqV p->o.live=aqW->p.live=aqW->AH i=AH j->i=j):bm X.G bD z e m k vs' where
 aO:=h.aO
 len:=len
 obj:=fun i o v ai ad=>by
  cases cC:o.live with
  |false=>exact aP i o v ai cC ad
  |true=>obtain ⟨p,w,_,_,_,aM,bq⟩:=ah i o ai cC;rw[ad] at aM;cases aM;exact bq
 eD:=fun i j o p v w cY ai ap bG dg ad hw=>by obtain ⟨c8,v1,g1,g2,g3,g4,_⟩:=ah i o ai bG;obtain ⟨dR,v2,bs,bC,cQ,fy,_⟩:=ah j p ap dg;rw[ad] at g4;cases g4;rw[hw] at fy;cases fy;exact h.eD (AH i) (AH j) c8 dR v w (fun ax=>cY (inj i j o p ai ap bG dg ax)) g1 bs g2 bC g3 cQ
theorem fI.frozen {o:aL D} {v:aqX} (ah:o.live=aqZ) (h:fI X.G z e m k vs o v) (aF:et z z') (ad:∀(i:Nat) (u:aqX),vs[i]? =aqV u->vs'[i]? =aqV u):fI X.G z' e m' k vs' o v:=by
 cases o with
 |dead=>trivial
 |az t xs bg _=>cases bg with
  |true=>exact er.mono aF h
  |false=>cases ah
 |box t cs bg _=>cases bg with
  |true=>obtain ⟨b,ds,h1,J,aj⟩:=h;exact ⟨b,ds,h1,Gb aF J,nB.mono aj aF ad⟩
  |false=>cases ah
 |map t kt vt es bg _=>cases bg with
  |true=>exact kL.mono h aF
  |false=>cases ah
 |_=>cases ah
theorem Di (h:∀p∈E,rel X.G z vs p.2 (fr p.1)):eA X z vs E fr:=by
 induction E with
 |nil=>intro d;trivial
 |cons p E a8=>exact (a8 fun q aJ=>h q (ark _ aJ)).cons (h p arp)
theorem ahr {s b1:aQ D} {v:aqX} (aw:bm X.G O z e m k vs) (h:Lm O s=aqV (b1,bD)) (ad:rel X.G z vs s v):∃z',Inv O bD/\cT e.next z z'/\bm X.G bD z' e m k vs/\rel X.G z' vs b1 v:=by
 unfold Lm at h;split at h
 ·split at h
  ·rename_i c bQ bL ab;cases h;exact zw aw ab ad
  ·cases h
 ·split at h
  ·rename_i t cs cs' bL ab;cases h;obtain ⟨ds,h1,J⟩:=ad;obtain ⟨z',g0,g1,g2,g3⟩:=Oz aw ab J;exact ⟨z',g0,g1,g2,ds,h1,g3⟩
  ·cases h
 ·split at h
  ·rename_i aX xs bL ab;split at h
   ·rename_i he;subst he;cases h;obtain ⟨w,h1,J⟩:=ad;obtain ⟨z',g0,g1,g2,g3⟩:=zw (c:= .own _) aw ab h1;exact ⟨z',g0,g1,g2,J.anu g3⟩
   ·cases h
  ·cases h
 ·cases h;exact ⟨z,Inv.refl _,cT.refl z,aw,ad⟩
theorem afV {i j t:Nat} {c:bJ D} {cs:List (bJ D)} {bg w:Bool} (h:vy O j=aqV (c,bD)) (ae:O[i]? =aqV (.box t cs bg w)):bD[i]? =aqV (.box t cs bg w):=by
 unfold vy at h;split at h
 ·rename_i ai;cases h;rw[arv];split
  ·rename_i av;subst av;rw[ai] at ae;cases ae
  ·exact ae
 ·rename_i ai;cases h;rw[arv];split
  ·rename_i av;subst av;rw[ai] at ae;cases ae
  ·exact ae
 ·rename_i ai;cases h;rw[arv];split
  ·rename_i av;subst av;rw[ai] at ae;cases ae
  ·exact ae
 ·cases h
theorem afU {i t:Nat} {c bQ:bJ D} {cs:List (bJ D)} {bg w:Bool} (h:rJ O c=aqV (bQ,bD)) (ae:O[i]? =aqV (.box t cs bg w)):bD[i]? =aqV (.box t cs bg w):=by
 unfold rJ at h;split at h
 ·exact afV h ae
 ·cases h;exact ae
theorem XC {l:List (Nat×Nat)}:∀{cs cs':List (bJ D)} {n:Nat} {O bD:List (aL D)} {ds:List aqX} {z:Nat->a6},bm X.G O z e m k vs->EY l n cs O=aqV (cs',bD)->ba (dj X.G z vs) cs ds->
  ∃z',Inv O bD/\cT e.next z z'/\bm X.G bD z' e m k vs/\ba (dj X.G z' vs) cs' ds/\∀(i t:Nat) (Bf:List (bJ D)) (bg w:Bool),O[i]? =aqV (.box t Bf bg w)->bD[i]? =aqV (.box t Bf bg w)
 |[],cs',n,O,bD,[],z,aw,h,_=>by cases h;exact ⟨z,Inv.refl _,cT.refl z,aw,trivial,fun _ _ _ _ _ h=>h⟩
 |c::cs,cs',n,O,bD,d::ds,z,aw,h,⟨h1,J⟩=>by
  unfold EY at h;split at h
  ·rename_i bQ bL ab;split at h
   ·rename_i aaI cX hC;cases h;have step:∃cr,Inv O bL/\cT e.next z cr/\bm X.G bL cr e m k vs/\dj X.G cr vs bQ d/\∀(i t:Nat) (Bf:List (bJ D)) (bg w:Bool),O[i]? =aqV (.box t Bf bg w)->bL[i]? =aqV (.box t Bf bg w):=by
     split at ab
     ·cases ab;exact ⟨z,Inv.refl _,cT.refl z,aw,h1,fun _ _ _ _ _ h=>h⟩
     ·obtain ⟨cr,g0,g1,g2,g3⟩:=zw aw ab h1;exact ⟨cr,g0,g1,g2,g3,fun _ _ _ _ _ h=>afU ab h⟩
    obtain ⟨cr,g0,g1,g2,g3,g4⟩:=step;obtain ⟨z2,hE,bs,bC,cQ,fy⟩:=XC g2 hC (nB.mono J g1.le fun _ _ h=>h);exact ⟨z2,g0.trans hE,g1.trans bs,bC,⟨dj.mono g3 bs.le fun _ _ h=>h,cQ⟩,fun _ _ _ _ _ h=>fy _ _ _ _ _ (g4 _ _ _ _ _ h)⟩
   ·cases h
  ·cases h
 |[],_,_,_,_,_::_,_,_,_,h=>h.elim
 |_::_,_,_,_,_,[],_,_,_,h=>h.elim
theorem XF {l:List (Nat×Nat)} {i:Nat} (aw:bm X.G O z e m k vs) (h:tG l O i=aqV bD):∃z',Inv O bD/\cT e.next z z'/\bm X.G bD z' e m k vs:=by
 unfold tG at h;split at h
 ·rename_i t cs w ai;split at h
  ·split at h
   ·rename_i cs' bL aP;cases h;obtain ⟨v,ad,b,ds,h1,J,aj,aM⟩:=aw.at ai;obtain ⟨cr,g0,g1,g2,g3,g4⟩:=XC aw aP aM;have UC:=g4 _ _ _ _ _ ai;obtain ⟨b6,mX,cm,cw,dW,fG⟩:=g2.obj i _ v UC ad;have lT:ie cr e m k b ds t:=by
     rw[h1] at cm;cases cm;exact ⟨J.aG,cw.lt,cw.dead,cw.fresh⟩
    refine ⟨cr,g0.trans (Inv.set bL i (.inr rfl)),g1,g2.mM (m':=m) UC ad rfl ⟨aq9 _,g2.aO.dead,fun _ _ _=>rfl⟩ g2.aO ⟨b,ds,h1,lT,aj,g3⟩⟩
   ·cases h
  ·cases h;exact ⟨z,Inv.refl _,cT.refl z,aw⟩
 ·cases h;exact ⟨z,Inv.refl _,cT.refl z,aw⟩
theorem zv:∀{aE:List dk} {O bD:List (aL D)} {z:Nat->a6},bm X.G O z e m k vs->nS E aE O=aqV bD->∃z',Inv O bD/\cT e.next z z'/\bm X.G bD z' e m k vs
 |[],O,bD,z,aw,h=>by cases h;exact ⟨z,Inv.refl _,cT.refl z,aw⟩
 |it::aE,O,bD,z,aw,h=>by
  have go:∀{l:List (Nat×Nat)} {i:Nat},(match tG l O i with|some bD=>nS E aE bD|none=>aqY)=aqV bD->∃z',Inv O bD/\cT e.next z z'/\bm X.G bD z' e m k vs:=by
   intro l i h;split at h
   ·rename_i bL aP;obtain ⟨cr,g0,g1,g2⟩:=XF aw aP;obtain ⟨z2,hE,bs,bC⟩:=zv g2 h;exact ⟨z2,g0.trans hE,g1.trans bs,bC⟩
   ·cases h
  cases it with
  |v d c=>exact zv (aE:=aE) aw h
  |o d c=>
   cases c with
   |box t=>
    simp only[nS] at h;split at h
    ·exact go h
    ·cases h
   |eQ t l=>
    simp only[nS] at h;split at h
    ·exact go h
    ·cases h
   |_=>exact zv (aE:=aE) aw h
  |u j c=>
   cases c with
   |box t=>simp only[nS] at h;exact go h
   |eQ t l=>simp only[nS] at h;exact go h
   |_=>exact zv (aE:=aE) aw h
def xW (X:dB P D) (z:Nat->a6) (vs:List aqX) (fr:Nat->aqX):List dk->List (aQ D)->Prop
 |[],[]=>True
 | .v d _::aE,s::l=>rel X.G z vs s (fr d)/\xW X z vs fr aE l
 | .o _ _::aE,_::l=>xW X z vs fr aE l
 | .u _ _::aE,_::l=>xW X z vs fr aE l
 |_,_=>False
theorem ahs {c:fs} {s b1:aQ D} {v:aqX} (aw:bm X.G O z e m k vs) (h:Ln c O s=aqV (b1,bD)) (ad:rel X.G z vs s v):∃z',Inv O bD/\cT e.next z z'/\bm X.G bD z' e m k vs/\rel X.G z' vs b1 v:=by
 unfold Ln at h;split at h
 ·cases h;exact ⟨z,Inv.refl _,cT.refl z,aw,ad⟩
 ·rename_i t i off;split at h
  ·rename_i bL U;split at h
   ·rename_i p cX ap;cases h;obtain ⟨cr,g0,g1,g2⟩:=XF aw U;obtain ⟨z2,hE,bs,bC,cQ⟩:=NY g2 (rel.mono ad g1.le fun _ _ h=>h) ap;exact ⟨z2,g0.trans hE,g1.trans bs,bC,cQ⟩
   ·cases h
  ·cases h
 ·exact ahr aw h ad
theorem wI:∀{aE:List dk} {O bD:List (aL D)} {l:List (aQ D)} {z:Nat->a6},bm X.G O z e m k vs->eA X z vs E fr->qD E aE O=aqV (l,bD)->∃z',Inv O bD/\cT e.next z z'/\bm X.G bD z' e m k vs/\xW X z' vs fr aE l
 |[],O,bD,l,z,aw,aT,h=>by cases h;exact ⟨z,Inv.refl _,cT.refl z,aw,trivial⟩
 | .v d c::aE,O,bD,l,z,aw,aT,h=>by
  simp only[qD] at h;split at h
  ·rename_i s bL ay;split at h
   ·rename_i p1 cX ah;cases h;obtain ⟨cr,g0,g1,g2,g3⟩:=ahs aw ay (aT d);obtain ⟨z2,hE,bs,bC,cQ⟩:=wI g2 (aT.mono g1.le fun _ _ h=>h) ah;exact ⟨z2,g0.trans hE,g1.trans bs,bC,rel.mono g3 bs.le fun _ _ h=>h,cQ⟩
   ·cases h
  ·cases h
 | .o d c::aE,O,bD,l,z,aw,aT,h=>by
  simp only[qD] at h;split at h
  ·rename_i p1 cX ah;cases h;exact wI (aE:=aE) aw aT ah
  ·cases h
 | .u d c::aE,O,bD,l,z,aw,aT,h=>by
  simp only[qD] at h;split at h
  ·rename_i p1 cX ah;cases h;exact wI (aE:=aE) aw aT ah
  ·cases h
structure xY (D:Nat->Type) where
 c:bB
 x:c.ty D
def cos:(aE:List dk)->ew D aE->List (xY D)
 |[],_=>[]
 | .o _ c::aE,x=>⟨c,x.1⟩::cos aE x.2
 | .v _ _::aE,x=>cos aE x.2
 | .u _ _::aE,x=>cos aE x.2
theorem k4:∀{aE:List dk} {x:ew D aE},dL X aE x=(cos aE x).map fun q=>bB.mk X q.c q.x aqZ
 |[],_=>rfl
 | .o d c::aE,x=>by show bB.mk X c x.1 aqZ::dL X aE x.2=bB.mk X c x.1 aqZ::(cos aE x.2).map _;rw[k4]
 | .v d c::aE,x=>k4 (aE:=aE)
 | .u d c::aE,x=>k4 (aE:=aE)
def x1 (X:dB P D) (eO:List Nat) (O:List (aL D)):List Nat->List (xY D)->Prop:=ba fun i q=>∃o,O[i]? =aqV o/\bB.get X eO q.c o=aqV q.x
theorem zM {eO:List Nat} (hm:∀(j i:Nat) (u:aqX),eO[j]? =aqV i->vs[i]? =aqV u->vs'[j]? =aqV u):∀{aE:List dk} {l:List (aQ D)} {aZ:List Nat} {x:ew D aE},gx X eO O aE l aZ=aqV x->xW X z vs fr aE l->∀p∈gv X aE x,rel X.G z vs' p.2 (fr p.1)
 |[],_,_,_,_,_=>by simp[gv]
 | .v d c::aE,[],_,_,_,h=>h.elim
 | .o d c::aE,[],_,_,_,h=>h.elim
 | .u d c::aE,[],_,_,_,h=>h.elim
 | .v d c::aE,s::l,aZ,x,h,aq=>by
  simp only[gx] at h;obtain ⟨dE,h⟩:=eW h;split at h
  ·rename_i a b h1 J;cases h;intro p ap;simp only[gv,arb] at ap;rcases ap with rfl|ap
   ·exact fs.Bp hm dE h1 aq.1
   ·exact zM hm J aq.2 p ap
  ·cases h
 | .o d c::aE,s::l,[],x,h,aq=>by cases h
 | .o d c::aE,s::l,i::aZ,x,h,aq=>by
  simp only[gx] at h;split at h
  ·split at h
   ·rename_i a b h1 J;cases h;intro p ap;exact zM hm J aq p ap
   ·cases h
  ·cases h
 | .u d c::aE,s::l,aZ,x,h,aq=>by
  simp only[gx] at h;split at h
  ·split at h
   ·rename_i a b h1 J;cases h;intro p ap;exact zM hm J aq p ap
   ·cases h
  ·cases h
theorem DE {eO:List Nat}:∀{aE:List dk} {l:List (aQ D)} {aZ:List Nat} {x:ew D aE},gx X eO O aE l aZ=aqV x->x1 X eO O aZ (cos aE x)
 |[],[],[],_,_=>trivial
 |[],_::_,[],_,_=>trivial
 |[],_,_::_,_,h=>by simp[gx] at h
 | .v d c::aE,[],_,_,h=>by simp[gx] at h
 | .o d c::aE,[],_,_,h=>by simp[gx] at h
 | .u d c::aE,[],_,_,h=>by simp[gx] at h
 | .v d c::aE,s::l,aZ,x,h=>by
  simp only[gx] at h;obtain ⟨_,h⟩:=eW h;split at h
  ·rename_i a b h1 J;cases h;show x1 X eO O aZ (cos aE b);exact DE J
  ·cases h
 | .o d c::aE,s::l,[],x,h=>by cases h
 | .o d c::aE,s::l,i::aZ,x,h=>by
  simp only[gx] at h;split at h
  ·rename_i o ai;split at h
   ·rename_i a b h1 J;cases h;exact ⟨⟨o,ai,h1⟩,DE J⟩
   ·cases h
  ·cases h
 | .u d c::aE,s::l,aZ,x,h=>by
  simp only[gx] at h;split at h
  ·split at h
   ·rename_i a b h1 J;cases h;show x1 X eO O aZ (cos aE b);exact DE J
   ·cases h
  ·cases h
theorem VE {i:Nat} {l:List Nat} (h:ss (i::l)=aqW):i∉l/\ss l=aqW:=by
 simp only[ss,ara,ar8,List.any_eq_false] at h;refine ⟨fun ae=> ?_,h.2⟩;exact h.1 i ae (by simp)
theorem NG:∀{l:List Nat},ss l=aqW->∀(a b i:Nat),l[a]? =aqV i->l[b]? =aqV i->a=b
 |[],_,a,b,i,h,_=>by simp at h
 |x::l,h,a,b,i,aq,aa=>by
  obtain ⟨h1,J⟩:=VE h;cases a with
  |zero=>
   cases b with
   |zero=>rfl
   |succ b=>simp at aq aa;subst aq;exact absurd (are aa) h1
  |succ a=>
   cases b with
   |zero=>simp at aq aa;subst aa;exact absurd (are aq) h1
   |succ b=>simp at aq aa;rw[NG J a b i aq aa]
def Sy (X:dB P D) (eO:List Nat) (O:List (aL D)):List Nat->List (xY D)->Prop:=ba fun i q=>∃w,O[i]? =aqV (bB.fe X (fun n=>eO.getD n 0) q.c q.x w)
theorem aio {eO:List Nat} (aw:bm X.G O z e m k vs) {i:Nat} {o:aL D} {c:bB} {x:c.ty D} (ai:O[i]? =aqV o) (aH:bB.get X eO c o=aqV x) (w:Bool):bm X.G (O.set i (bB.fe X (fun n=>eO.getD n 0) c x w)) z e m k vs:=by
 obtain ⟨v,ad,b0⟩:=aw.at ai;have ae:=(aq5.1 ai).1;refine aw.DM (by rw[asq];exact aw.len) id (fun j p ap ah=> ?_) (fun j p u ap ah hu=> ?_) (fun i j _ _ _ _ _ _ h=>h)
 ·rw[arv] at ap;split at ap
  ·rename_i cY;subst cY;cases ap;exact ⟨o,v,ai,bB.Lr aH,ad,ad,bB.Bp aH b0 (fun n i u h1 J=>by simpa[ar3,h1] using J) w⟩
  ·obtain ⟨u,hu,mw⟩:=aw.at ap;exact ⟨p,u,ap,ah,hu,hu,mw⟩
 ·rw[arv] at ap;split at ap
  ·cases ap;rw[bB.r6] at ah;cases ah
  ·exact aw.obj j p u ap hu
theorem Yy {eO:List Nat} {i:Nat} {p:aL D}:∀{aZ:List Nat} {C:List (xY D)},x1 X eO O aZ C->i∉aZ->x1 X eO (O.set i p) aZ C
 |[],[],_,_=>trivial
 |j::aZ,q::C,⟨⟨o,h1,J⟩,aj⟩,ae=>by
  refine ⟨⟨o, ?_,J⟩,Yy aj fun h=>ae (ark _ h)⟩;rw[as2]
  ·exact h1
  ·rintro rfl;exact ae arp
 |[],_::_,h,_=>h.elim
 |_::_,[],h,_=>h.elim
theorem agG {au:Type} {l:List au} {i:Nat} {a:au} (h:l[i]? =aqV a):l.set i a=l:=by
 apply asL;intro j;rw[arv];have ae:=(aq5.1 h).1;by_cases cY:i=j
 ·subst cY;rw[if_pos rfl,if_pos ae,h]
 ·simp[cY]
theorem Hp {eO:List Nat}:∀{aE:List dk} {x:ew D aE} {aZ:List Nat} {O:List (aL D)},bm X.G O z e m k vs->x1 X eO O aZ (cos aE x)->ss aZ=aqW->
  Inv O (kZ X eO aE x aZ O)/\bm X.G (kZ X eO aE x aZ O) z e m k vs/\Sy X eO (kZ X eO aE x aZ O) aZ (cos aE x)/\∀i,i∉aZ->(kZ X eO aE x aZ O)[i]? =O[i]?
 |[],x,[],O,aw,_,_=>⟨Inv.refl _,aw,trivial,fun _ _=>rfl⟩
 |[],x,_::_,O,aw,h,_=>h.elim
 | .v d c::aE,x,aZ,O,aw,h,ar=>by have:=Hp (aE:=aE) (x:=x.2) (aZ:=aZ) aw h ar;simpa only[kZ,cos] using this
 | .u d c::aE,x,aZ,O,aw,h,ar=>by have:=Hp (aE:=aE) (x:=x.2) (aZ:=aZ) aw h ar;simpa only[kZ,cos] using this
 | .o d c::aE,x,[],O,aw,h,ar=>h.elim
 | .o d c::aE,x,i::aZ,O,aw,⟨⟨o,h1,J⟩,aj⟩,ar=>by
  obtain ⟨j1,iX⟩:=VE ar;have hA:=aio aw h1 J (st c O i);obtain ⟨g1,g2,g3,g4⟩:=Hp (aE:=aE) (x:=x.2) (aZ:=aZ) hA (Yy aj j1) iX;have ae:=(aq5.1 h1).1;refine ⟨Inv.trans ?_ g1,g2,⟨⟨st c O i, ?_⟩,g3⟩,fun j av=> ?_⟩
  ·cases ao:st c O i with
   |true=>exact Inv.set O i (.inr bB.FV)
   |false=>
    have ab:o.k6=aqZ/\c.JQ o=aqW:=by simp only[st,h1,atU,Bool.not_eq_false'] at ao;exact ao
    have cQ:=bB.aaU J ab.2;rw[ab.1] at cQ;have:O.set i (bB.fe X (fun n=>eO.getD n 0) c x.1 aqZ)=O:=agG (by rw[h1];exact congrArg aqV cQ);rw[this];exact Inv.refl O
  ·show (kZ X eO aE x.2 aZ (O.set i (bB.fe X _ c x.1 (st c O i))))[i]? =_;rw[g4 i j1,arv];simp[ae]
  ·show (kZ X eO aE x.2 aZ (O.set i (bB.fe X _ c x.1 (st c O i))))[j]? =_;rw[g4 j fun h=>av (ark _ h),as2];rintro rfl;exact av arp
theorem GW {a:Option Nat} {i:Nat} (h:pb a i=aqW):a=aqV i:=by
 unfold pb at h;split at h
 ·rw[arA h]
 ·cases h
theorem O7 {aZ:List Nat} {s b1:aQ D} {v:aqX} (bY:Nat->Nat) (h:vz aZ s b1=aqW) (an:rel X.G z vs b1 v) (ad:∀(j i:Nat) (u:aqX),aZ[j]? =aqV i->vs[i]? =aqV u->vs'[bY j]? =aqV u):rel X.G z vs' (xu bY s) v:=by
 unfold vz at h;split at h
 ·exact ⟨ad _ _ _ (GW h) an.1,an.2⟩
 ·simp only[ara] at h;obtain ⟨b,h1,J⟩:=an;have:=arA h.2;subst this;exact ⟨b,ad _ _ _ (GW h.1) h1,J⟩
 ·obtain ⟨b,l,h1,J⟩:=an;exact ⟨b,l,ad _ _ _ (GW h) h1,J⟩
 ·exact an
 ·exact an
 ·exact an
 ·exact an
 ·trivial
 ·simp only[ara,decide_eq_true_eq,beq_iff_eq] at h;obtain ⟨rfl,rfl⟩:=h;exact an
 ·have:=eq_of_beq h;subst this;exact an
 ·have:=arA h;subst this;obtain ⟨gs,h1,J⟩:=an;refine ⟨gs,h1, ?_⟩;cases gs with
  |nil=>trivial
  |cons _ _=>exact J.elim
 ·cases h
theorem Hk (s:aQ D):xu id s=s:=by
 cases s with
 |c c=>cases c<;>rfl
 |_=>rfl
structure Q7 (X:dB P D) (aE:List dk) (eE:List (Nat×aQ D)) (x:ew D aE) (aZ:List Nat) (cX:List (aL D)) (z:Nat->a6) (e m:Mem) (k:Option Nat) (vs b7:List aqX) (fr:Nat->aqX):Prop where
 y3:bm X.G cX z e m k vs
 Va:bm X.G (dL X aE x) z e m k b7
 Zw:eA X z b7 (gv X aE x++eE) fr
 fF:ss aZ=aqW
 uf:Sy X aZ cX aZ (cos aE x)
 len:b7.length=aZ.length
 dd:∀(j i:Nat),aZ[j]? =aqV i->∃u,b7[j]? =aqV u/\vs[i]? =aqV u
 gt:∀q∈cos aE x,∀n∈q.c.gK,∃i,aZ[n]? =aqV i
theorem ais {aE:List dk} {eE:List (Nat×aQ D)} {x:ew D aE} {aZ:List Nat} {cX:List (aL D)} (aw:bm X.G O z e m k vs) (aT:eA X z vs E fr) (h:HH X aE eE E O=aqV (x,aZ,cX)):
  ∃z' b7,Inv O cX/\cT e.next z z'/\Q7 X aE eE x aZ cX z' e m k vs b7 fr:=by
 unfold HH at h;split at h
 ·rename_i bN bL aqU aP aq;split at h
  ·rename_i ab;simp only[ara] at ab;split at h
   ·rename_i hb aa;cases h;obtain ⟨cr,g0,g1,g2,g3⟩:=wI aw aT aP;have wv:=DE aa;obtain ⟨j1,iX,FY,aqr⟩:=Hp g2 wv ab.1;have iL:∀(j i:Nat),aZ[j]? =aqV i->∃u,(aZ.map fun i=>vs.getD i undef)[j]? =aqV u/\vs[i]? =aqV u:=by
     intro j i av;obtain ⟨q,_,w,hw⟩:=FY.get j i av;obtain ⟨v,ad,_⟩:=iX.at hw;refine ⟨v, ?_,ad⟩;rw[arH,av];simp[ad]
    have hlen:(dL X aE x).length=aZ.length:=by rw[k4,arP];exact FY.length.symm
    have BG:∀(j:Nat) (k0:aL D),(dL X aE x)[j]? =aqV k0->∃i q,q∈cos aE x/\k0=bB.mk X q.c q.x aqZ/\aZ[j]? =aqV i/\∃w,(kZ X aZ aE x aZ bL)[i]? =aqV (bB.fe X (fun n=>aZ.getD n 0) q.c q.x w):=by intro j k0 av;have aN:=(aq5.1 av).1;have ay:aZ[j]? =aqV (aZ[j]'(by omega)):=ary (by omega);obtain ⟨q,cQ,w,fy⟩:=FY.get j _ ay;rw[k4,arH,cQ] at av;exact ⟨_,q,are cQ,(arr.inj av).symm,ay,w,fy⟩
    have nZ:∀q∈cos aE x,∀n∈q.c.gK,∃i,aZ[n]? =aqV i:=by
     intro q aJ;obtain ⟨j,av,he⟩:=List.mem_iff_getElem.1 aJ;have BK:(cos aE x)[j]? =aqV q:=by rw[ary av,he]
     have ay:aZ[j]? =aqV (aZ[j]'(by rw[wv.length];exact av)):=ary _;obtain ⟨dJ,bs,o,_,bC⟩:=wv.get j _ ay;rw[BK] at bs;cases bs;exact bB.aaV bC
    refine ⟨cr,aZ.map fun i=>vs.getD i undef,g0.trans j1,g1,iX, ?_, ?_,ab.1,FY,by simp,iL,nZ⟩
    ·refine iX.DM (by rw[arP];exact hlen.symm) (fun j=>aZ.getD j 0) (fun j k0 av ah=> ?_) (fun j k0 u av ah hu=> ?_) (fun i j o p ae av _ _ cY=> ?_)
     ·obtain ⟨i,q,aJ,rfl,ay,w,hw⟩:=BG j k0 av;obtain ⟨u,adg,UU⟩:=iL j i ay;have aB:aZ.getD j 0=i:=by simp[ar3,ay]
      refine ⟨_,u,by rw[aB];exact hw,bB.r6,by rw[aB];exact UU,adg, ?_⟩;have:=iX.obj i _ u hw UU;refine bB.y2 aqZ this fun n ar l9 kg=> ?_;obtain ⟨hD,dY⟩:=nZ q aJ n ar;have jR:aZ.getD n 0=hD:=by simp[ar3,dY]
      rw[jR] at kg;obtain ⟨DP,h1,J⟩:=iL n hD dY;rw[kg] at J;cases J;exact h1
     ·obtain ⟨i,q,_,rfl,ay,w,hw⟩:=BG j k0 av;rw[bB.uc] at ah;cases ah
     ·obtain ⟨a,_,_,_,aq,_⟩:=BG i o ae;obtain ⟨b,_,_,_,aa,_⟩:=BG j p av;have aX:aZ.getD i 0=a:=by simp[ar3,aq]
      have e2:aZ.getD j 0=b:=by simp[ar3,aa]
      have:a=b:=by rw[<-aX,<-e2];exact cY
      subst this;exact NG ab.1 i j a aq aa
    ·refine Di fun p ap=> ?_;rcases arj.1 ap with ap|ap
     ·refine zM (fun j i u av hu=> ?_) aa g3 p ap;obtain ⟨l9,h1,J⟩:=iL j i av;rw[hu] at J;cases J;exact h1
     ·have ao:=arc.1 ab.2 p ap;have:=O7 (X:=X) (z:=cr) (vs:=vs) (vs':=aZ.map fun i=>vs.getD i undef) id ao ((aT.mono g1.le fun _ _ h=>h) p.1) fun j i u av hu=>by
       obtain ⟨l9,h1,J⟩:=iL j i av;rw[hu] at J;cases J;exact h1
      rwa [Hk] at this
   ·cases h
  ·cases h
 ·cases h
theorem entry {aE:List dk} {eE:List (Nat×aQ D)} {x:ew D aE} {aZ:List Nat} {cX:List (aL D)} (aw:bm X.G O z e m k vs) (aT:eA X z vs E fr) (h:re X aE eE E O=aqV (x,aZ,cX)):
  ∃z' b7,Inv O cX/\cT e.next z z'/\Q7 X aE eE x aZ cX z' e m k vs b7 fr:=by
 unfold re at h;split at h
 ·rename_i lN aP;obtain ⟨cr,g0,g1,g2⟩:=zv aw aP;obtain ⟨z2,b7,hE,bs,bC⟩:=ais g2 (aT.mono g1.le fun _ _ h=>h) h;exact ⟨z2,b7,g0.trans hE,g1.trans bs,bC⟩
 ·cases h
def Y8 (E:List (Nat×aQ D)) (O:List (aL D)) (q off:Nat):Option (Nat×Nat×List (bJ D)×Bool):=
 match eg E q with
 | .box i 0=>(match O[i]? with|some (.box t cs aqZ w)=>(match cs[off]? with|some .fz=>aqV (i,t,cs,w)|_=>aqY)|_=>aqY)
 |_=>aqY
def jz:List dk->List (Nat×aQ D)->List (aL D)->List (Nat×aQ D)×List (aL D)
 | .o d (.az t)::aE,E,O=>
  if ass d rz=aqW then (match eg E d with| .c .fz=>jz aE ((d, .c (.own O.length))::E) (O++[.az t [] aqZ aqZ])|_=>jz aE E O)
  else (match Y8 E O ((d - rz) / 1000) ((d - rz)%1000) with|some (i,u,cs,_)=>jz aE E (O.set i (.box u (cs.set ((d - rz)%1000) (.own O.length)) aqZ aqW)++[.az t [] aqZ aqZ])|none=>jz aE E O)
 |_::aE,E,O=>jz aE E O
 |[],E,O=>(E,O)
theorem lD:∀{aE:List dk} {E:List (Nat×aQ D)} {O:List (aL D)} {vs:List aqX},bm X.G O z e m k vs->eA X z vs E fr->∃vs',Inv O (jz aE E O).2/\(∀(i:Nat) (u:aqX),vs[i]? =aqV u->vs'[i]? =aqV u)/\bm X.G (jz aE E O).2 z e m k vs'/\eA X z vs' (jz aE E O).1 fr
 |[],E,O,vs,aw,aT=>⟨vs,Inv.refl _,fun _ _ h=>h,aw,aT⟩
 | .v _ _::aE,E,O,vs,aw,aT=>lD (aE:=aE) aw aT
 | .u _ _::aE,E,O,vs,aw,aT=>lD (aE:=aE) aw aT
 | .o _ (.box _)::aE,E,O,vs,aw,aT=>lD (aE:=aE) aw aT
 | .o _ (.recv _)::aE,E,O,vs,aw,aT=>lD (aE:=aE) aw aT
 | .o _ (.eZ _ _ _)::aE,E,O,vs,aw,aT=>lD (aE:=aE) aw aT
 | .o _ (.map _ _ _)::aE,E,O,vs,aw,aT=>lD (aE:=aE) aw aT
 | .o _ (.eQ _ _)::aE,E,O,vs,aw,aT=>lD (aE:=aE) aw aT
 | .o _ (.j9 _ _ _)::aE,E,O,vs,aw,aT=>lD (aE:=aE) aw aT
 | .o _ (.ne _ _)::aE,E,O,vs,aw,aT=>lD (aE:=aE) aw aT
 | .o d (.az t)::aE,E,O,vs,aw,aT=>by
  have T1:∀{O:List (aL D)},bm X.G O z e m k vs->bm X.G (O++[.az t [] aqZ aqZ]) z e m k (vs++[.slice aqY 0 0]):=fun {O} aw=>by refine aw.push (q:=aqY) ⟨aq9 _,aw.aO.dead,fun _ _ _=>rfl⟩ aw.aO (fun _ _ _ _ _ _=>ei.q0) ?_ fun _ _ _=>ei.q0;exact (⟨.inl ⟨rfl,rfl⟩,fun b aa=>by cases aa⟩:c6 (X.G.T t) z e m k [] (.slice aqY 0 0))
  unfold jz;split
  ·split
   ·rename_i ay;have aB:=aT d;rw[ay] at aB;have aB:fr d= .slice aqY 0 0:=aB;obtain ⟨vs',g1,g2,g3,g4⟩:=lD (aE:=aE) (E:=(d, .c (.own O.length))::E) (T1 aw) ((aT.mono (et.refl z) iy).cons ⟨by rw[aB,<-aw.len];simp,by rw[aB];rfl,by rw[aB];rfl⟩);exact ⟨vs',(Inv.push O _).trans g1,fun i u hu=>g2 i u (iy i u hu),g3,g4⟩
   ·exact lD (aE:=aE) aw aT
  ·generalize (d - rz) / 1000=q;generalize (d - rz)%1000=off;split
   ·rename_i i u cs w ar;have aa:O[i]? =aqV (.box u cs aqZ w)/\cs[off]? =aqV .fz:=by
     unfold Y8 at ar;split at ar
     ·split at ar
      ·split at ar
       ·rename_i J _ aj;cases ar;exact ⟨J,aj⟩
       ·cases ar
      ·cases ar
     ·cases ar
    obtain ⟨v,ad,b,ds,h1,J,aj,aM⟩:=aw.at aa.1;have Bt:=T1 aw;have ae:=(aq5.1 aa.1).1;have jY:O.set i (.box u (cs.set off (.own O.length)) aqZ aqW)++[(.az t [] aqZ aqZ:aL D)]=(O++[(.az t [] aqZ aqZ:aL D)]).set i (.box u (cs.set off (.own O.length)) aqZ aqW):=by rw[List.set_append_left _ _ ae]
    have vB:bm X.G (O.set i (.box u (cs.set off (.own O.length)) aqZ aqW)++[.az t [] aqZ aqZ]) z e m k (vs++[.slice aqY 0 0]):=by
     rw[jY];refine Bt.mM (m':=m) (v:=v) (o:= .box u cs aqZ w) (by rw[arm ae];exact aa.1) (iy _ _ ad) rfl ⟨aq9 _,aw.aO.dead,fun _ _ _=>rfl⟩ aw.aO ?_;refine ⟨b,ds,h1,J,aj,l6.2 ⟨by rw[asq];exact (l6.1 aM).1,fun j a d aq aB=> ?_⟩⟩;rw[arv] at aq;split at aq
     ·rename_i av;split at aq
      ·cases aq;subst av;have an:d= .slice aqY 0 0:=(l6.1 aM).2 off _ d aa.2 aB;exact ⟨by rw[an,<-aw.len];simp,by rw[an];rfl,by rw[an];rfl⟩
      ·cases aq
     ·exact dj.mono ((l6.1 aM).2 j a d aq aB) (et.refl z) iy
    obtain ⟨vs',g1,g2,g3,g4⟩:=lD (aE:=aE) (E:=E) vB (aT.mono (et.refl z) iy);exact ⟨vs',((Inv.set O i (.inr rfl)).trans (Inv.push _ _)).trans g1,fun i u hu=>g2 i u (iy i u hu),g3,g4⟩
   ·exact lD (aE:=aE) aw aT
end
end Go.aS
end
section
namespace Go.aS
structure kK (D:Nat->Type) where
 ex:dX
 outs:List dk
 eE:List (Nat×aQ D)
noncomputable section
section
variable {P:aq1} {D:Nat->Type}
def k1 (D:Nat->Type):List dk->Type
 |[]=>Unit
 |[i]=>i.ty D
 |i::j::is=>i.ty D×k1 D (j::is)
def HJ:(aE:List dk)->ew D aE->k1 D aE
 |[],_=>()
 |[_],x=>x.1
 |_::j::is,x=>(x.1,HJ (j::is) x.2)
def eX:(aE:List dk)->k1 D aE->ew D aE
 |[],_=>()
 |[_],y=>(y,())
 |_::j::is,y=>(y.1,eX (j::is) y.2)
def ri:List (kK D)->Type
 |[]=>Empty
 |[x]=>k1 D x.outs
 |x::y::xs=>k1 D x.outs⊕ri (y::xs)
def EG {au:Type}:(ik:List (kK D))->ri ik->((x:kK D)->k1 D x.outs->au)->au
 |[],e,_=>nomatch (e:Empty)
 |[x],y,k=>k x y
 |x::y::xs,r,k=>match (r:k1 D x.outs⊕ri (y::xs)) with| .inl a=>k x a| .inr b=>EG (y::xs) b k
variable (X:dB P D)
def Ze (n:Nat):aL D->Bool
 | .box _ cs _ _=>cs.all fun c=>match c with| .own i=>ass i n| .fn _ is=>is.all fun i=>ass i n|_=>aqW
 |_=>aqW
def Dq (n:Nat) (O:List (aL D)):Nat->List Nat->Bool
 |_,[]=>aqW
 |j,k::ks=>(if k=1 then (match O[j]? with|some o=>o.live&& !o.k6&&Ze n o|none=>aqZ) else aqW)&&Dq n O (j+1) ks
def Qr (n:Nat) (ks:List Nat) (x:kK D) (E:List (Nat×aQ D)) (O:List (aL D)):Option (k1 D x.outs):=
 match qD E x.outs O,EE E O x.outs with
 |some (bN,bL),aqV aZ=>
  if (ss aZ&&(aZ.all fun i=>arz n i||ard (ks.getD i 0) 0)&&Dq n bL 0 ks&&x.eE.all fun p=>vz (arC n++aZ) p.2 (eg E p.1))=aqW then
   match gx X (arC n++aZ) bL x.outs bN aZ with
   |some y=>aqV (HJ x.outs y)
   |none=>aqY
  else aqY
 |_,_=>aqY
def z7 (n:Nat) (ks:List Nat) (x:kK D) (E:List (Nat×aQ D)) (O:List (aL D)):Option (k1 D x.outs):=
 match nS (jz x.outs E O).1 x.outs (jz x.outs E O).2 with
 |some bD=>Qr X n ks x (jz x.outs E O).1 bD
 |none=>aqY
def pu (n:Nat) (ks:List Nat):(ik:List (kK D))->dX->List (Nat×aQ D)->List (aL D)->Option (ri ik)
 |[],_,_,_=>aqY
 |[x],e,E,O=>if e=x.ex then z7 X n ks x E O else aqY
 |x::y::xs,e,E,O=>if e=x.ex then (match z7 X n ks x E O with|some a=>aqV (Sum.inl a)|none=>aqY) else (match pu n ks (y::xs) e E O with|some b=>aqV (Sum.inr b)|none=>aqY)
def iB (bY:Nat->Nat):(aE:List dk)->ew D aE->Nat->aL D
 | .u i c::aE,x,j=>if ard i j=aqW then bB.fe X bY c x.1 aqW else iB bY aE x.2 j
 | .v _ _::aE,x,j=>iB bY aE x.2 j
 | .o _ _::aE,x,j=>iB bY aE x.2 j
 |[],_,_=> .dead
def we (n:Nat):Nat:=n
def mC (outs:List dk) (y:ew D outs):Nat->List Nat->List (aL D)->List (aL D)
 |i,k::ks,o::O=>(if k=1 then o else if k=2 then iB X we outs y i else .dead)::mC outs y (i+1) ks O
 |i,[],o::O=> .dead::mC outs y (i+1) [] O
 |_,_,[]=>[]
def jF (ks:List Nat) (lN:List (aL D)) (outs:List dk) (y:ew D outs):List (aL D):=mC X outs y 0 ks lN++dL X outs y
end
section
variable {P:aq1} {D:Nat->Type} {X:dB P D} {z z':Nat->a6} {e m m':Mem} {k:Option Nat} {vs vs':List aqX} {fr:Nat->aqX} {E:List (Nat×aQ D)} {O bD:List (aL D)}
theorem Zb:∀{aE:List dk} (x:ew D aE),eX aE (HJ aE x)=x
 |[],_=>rfl
 |[_],_=>rfl
 |_::j::is,x=>by show (x.1,eX (j::is) (HJ (j::is) x.2))=x;rw[Zb (aE:=j::is) x.2];rfl
theorem CK {n:Nat} {ks:List Nat} {ex:dX}:∀{ik:List (kK D)} {ch:ri ik},pu X n ks ik ex E O=aqV ch->∃x y,x∈ik/\ex=x.ex/\z7 X n ks x E O=aqV y/\∀{au:Type} (K:(x:kK D)->k1 D x.outs->au),EG ik ch K=K x y
 |[],_,h=>by cases h
 |[x],ch,h=>by obtain ⟨h1,J⟩:=eW h;exact ⟨x,ch,arp,h1,J,fun _=>rfl⟩
 |x::y::xs,ch,h=>by
  simp only[pu] at h;split at h
  ·rename_i U;split at h
   ·rename_i a aq;cases h;exact ⟨x,a,arp,U,aq,fun _=>rfl⟩
   ·cases h
  ·split at h
   ·rename_i b aa;cases h;obtain ⟨hb,jn,h1,J,aj,aM⟩:=CK aa;exact ⟨hb,jn,ark _ h1,J,aj,fun K=>aM K⟩
   ·cases h
theorem GA {eO:List Nat} {n:Nat}:∀{aE:List dk} {l:List (aQ D)} {aZ:List Nat} {x:ew D aE} {j:Nat},gx X eO O aE l aZ=aqV x->(∀bY,iB X bY aE x j= .dead)\/∃c y o,O[j]? =aqV o/\bB.get X eO c o=aqV y/\∀bY,iB X bY aE x j=bB.fe X bY c y aqW
 |[],_,_,_,_,_=> .inl fun _=>rfl
 | .v d c::aE,[],_,_,_,h=>by simp[gx] at h
 | .o d c::aE,[],_,_,_,h=>by simp[gx] at h
 | .u d c::aE,[],_,_,_,h=>by simp[gx] at h
 | .v d c::aE,s::l,aZ,x,j,h=>by
  simp only[gx] at h;obtain ⟨_,h⟩:=eW h;split at h
  ·rename_i a b h1 J;cases h;exact GA (n:=n) (aE:=aE) J
  ·cases h
 | .o d c::aE,s::l,[],x,j,h=>by cases h
 | .o d c::aE,s::l,i::aZ,x,j,h=>by
  simp only[gx] at h;split at h
  ·split at h
   ·rename_i a b h1 J;cases h;exact GA (n:=n) (aE:=aE) J
   ·cases h
  ·cases h
 | .u d c::aE,s::l,aZ,x,j,h=>by
  simp only[gx] at h;split at h
  ·rename_i o ai;split at h
   ·rename_i a b h1 J;cases h;by_cases aB:ard d j=aqW
    ·have:=arA aB;subst this;refine .inr ⟨c,a,o,ai,h1,fun bY=> ?_⟩;show (if ard d d=aqW then bB.fe X bY c a aqW else _)=_;rw[if_pos aB]
    ·have aX:∀bY,iB X bY (.u d c::aE) (a,b) j=iB X bY aE b j:=fun bY=>by
      show (if ard d j=aqW then bB.fe X bY c a aqW else _)=_;rw[if_neg aB]
     simp only[aX];exact GA (n:=n) (aE:=aE) (j:=j) J
   ·cases h
  ·cases h
def dk.gK:dk->List Nat
 | .v _ _=>[]
 | .o _ c=>c.gK
 | .u _ c=>c.gK
def dk.y5:dk->Bool
 | .v _ c=>c.y5
 |_=>aqW
theorem sl:∀{aE:List dk} {x:ew D aE} {j:Nat},(∀bY,iB X bY aE x j= .dead)\/∃d c y,dk.u d c∈aE/\∀bY,iB X bY aE x j=bB.fe X bY c y aqW
 |[],_,_=> .inl fun _=>rfl
 | .v d c::aE,x,j=>by
  rcases sl (aE:=aE) (x:=x.2) (j:=j) with h|⟨d,c,y,h1,J⟩
  ·exact .inl h
  ·exact .inr ⟨d,c,y,ark _ h1,J⟩
 | .o d c::aE,x,j=>by
  rcases sl (aE:=aE) (x:=x.2) (j:=j) with h|⟨d,c,y,h1,J⟩
  ·exact .inl h
  ·exact .inr ⟨d,c,y,ark _ h1,J⟩
 | .u d c::aE,x,j=>by
  by_cases aB:ard d j=aqW
  ·exact .inr ⟨d,c,x.1,arp,fun bY=>if_pos aB⟩
  ·have aX:∀bY,iB X bY (.u d c::aE) x j=iB X bY aE x.2 j:=fun bY=>if_neg aB;simp only[aX];rcases sl (aE:=aE) (x:=x.2) (j:=j) with h|⟨d,c,y,h1,J⟩
   ·exact .inl h
   ·exact .inr ⟨d,c,y,ark _ h1,J⟩
theorem wS:∀{aE:List dk} {x:ew D aE} {o:aL D},o∈dL X aE x->∃d c y,dk.o d c∈aE/\o=bB.mk X c y aqZ
 |[],_,_,h=>by simp[dL] at h
 | .v d c::aE,x,o,h=>let ⟨d,c,y,h1,J⟩:=wS (aE:=aE) (x:=x.2) h;⟨d,c,y,ark _ h1,J⟩
 | .u d c::aE,x,o,h=>let ⟨d,c,y,h1,J⟩:=wS (aE:=aE) (x:=x.2) h;⟨d,c,y,ark _ h1,J⟩
 | .o d c::aE,x,o,h=>by
  simp only[dL,arb] at h;rcases h with rfl|h
  ·exact ⟨d,c,x.1,arp,rfl⟩
  ·obtain ⟨d,c,y,h1,J⟩:=wS (aE:=aE) (x:=x.2) h;exact ⟨d,c,y,ark _ h1,J⟩
theorem zB:∀{aE:List dk} {x:ew D aE} {p:Nat×aQ D},p∈gv X aE x->∃d c y,dk.v d c∈aE/\p.2=fs.mk X c y
 |[],_,_,h=>by simp[gv] at h
 | .o d c::aE,x,o,h=>by obtain ⟨cD,bQ,y,h1,J⟩:=zB (aE:=aE) (x:=x.2) h;exact ⟨cD,bQ,y,ark _ h1,J⟩
 | .u d c::aE,x,o,h=>by obtain ⟨cD,bQ,y,h1,J⟩:=zB (aE:=aE) (x:=x.2) h;exact ⟨cD,bQ,y,ark _ h1,J⟩
 | .v d c::aE,x,o,h=>by
  simp only[gv,arb] at h;rcases h with rfl|h
  ·exact ⟨d,c,x.1,arp,rfl⟩
  ·obtain ⟨cD,bQ,y,h1,J⟩:=zB (aE:=aE) (x:=x.2) h;exact ⟨cD,bQ,y,ark _ h1,J⟩
theorem mH {outs:List dk} {y:ew D outs}:∀{i:Nat} {ks:List Nat} {O:List (aL D)},(mC X outs y i ks O).length=O.length
 |i,[],[]=>rfl
 |i,_::_,[]=>rfl
 |i,k::ks,o::O=>by simp[mC,mH]
 |i,[],o::O=>by simp[mC,mH]
theorem uD {outs:List dk} {y:ew D outs}:∀{i:Nat} {ks:List Nat} {O:List (aL D)} {j:Nat} {o:aL D},O[j]? =aqV o->(mC X outs y i ks O)[j]? =aqV (if ks.getD j 0=1 then o else if ks.getD j 0=2 then iB X we outs y (i+j) else .dead)
 |i,ks,[],j,o,h=>by simp at h
 |i,k::ks,p::O,0,o,h=>by simp at h;subst h;simp[mC]
 |i,k::ks,p::O,j+1,o,h=>by simp only[asC] at h;have:=uD (outs:=outs) (y:=y) (i:=i+1) (ks:=ks) h;simp only[mC,asC,this,aun];rw[arD,Nat.add_comm 1 j]
 |i,[],p::O,0,o,h=>by simp[mC]
 |i,[],p::O,j+1,o,h=>by simp only[asC] at h;have:=uD (outs:=outs) (y:=y) (i:=i+1) (ks:=[]) h;simp only[mC,asC,this];simp
theorem agx {n:Nat} {o:aL D} (h:Ze n o=aqW):∀i,PC i o->i<n:=by
 intro i ae;cases o with
 |box t cs bg w=>
  rcases ae with ae|⟨f,is,ae,hm⟩
  ·have:=arc.1 h _ ae;simpa[atq] using this
  ·have:=arc.1 h _ ae;have:=arc.1 this _ hm;simpa[atq] using this
 |_=>exact ae.elim
theorem Xn {n:Nat}:∀{ks:List Nat} {i j:Nat},Dq n O i ks=aqW->ks.getD j 0=1->∃o,O[i+j]? =aqV o/\o.live=aqW/\o.k6=aqZ/\∀i,PC i o->i<n
 |[],i,j,_,h=>by simp at h
 |k::ks,i,0,hk,h=>by
  simp only[Dq,ara] at hk;simp at h;subst h;have h1:=hk.1;rw[if_pos rfl] at h1;split at h1
  ·rename_i o ai;simp only[ara,ar8] at h1;exact ⟨o,ai,h1.1.1,h1.1.2,agx h1.2⟩
  ·cases h1
 |k::ks,i,j+1,hk,h=>by simp only[Dq,ara] at hk;simp only[aun] at h;obtain ⟨o,h1,J⟩:=Xn hk.2 h;exact ⟨o,by rw[<-h1];congr 1;omega,J⟩
theorem agq {ins:List dk} {ks:List Nat} {x:ew D ins} {cN:kK D} {y:k1 D cN.outs} {b7:List aqX} (ae:Inv (dL X ins x) O) (ad:∀(i:Nat) (u:aqX),b7[i]? =aqV u->vs[i]? =aqV u) (fl:b7.length=(dL X ins x).length)
  (aw:bm X.G O z e m k vs) (aT:eA X z vs E fr) (h:Qr X b7.length ks cN E O=aqV y):
  ∃z' dd,cT e.next z z'/\bm X.G (jF X ks (dL X ins x) cN.outs (eX _ y)) z' e m k (b7++dd)/\∀p∈gv X cN.outs (eX _ y)++cN.eE,rel X.G z' (b7++dd) p.2 (fr p.1):=by
 unfold Qr at h;split at h
 ·rename_i bN bL aZ aP aq;split at h
  ·rename_i ab;simp only[ara] at ab;obtain ⟨⟨⟨c1,c2⟩,lb⟩,tA⟩:=ab;split at h
   ·rename_i jn aa;cases h;rw[Zb];obtain ⟨cr,g0,g1,g2,g3⟩:=wI aw aT aP;have wv:=DE aa;have hg:=ae.trans g0;have Fz:∀(j i:Nat),aZ[j]? =aqV i->∃u,(aZ.map fun i=>vs.getD i undef)[j]? =aqV u/\vs[i]? =aqV u:=by
     intro j i av;obtain ⟨q,_,o,ai,_⟩:=wv.get j i av;obtain ⟨v,ad,_⟩:=g2.at ai;exact ⟨v,by rw[arH,av];simp[ad],ad⟩
    have hlen:(dL X cN.outs jn).length=aZ.length:=by rw[k4,arP];exact wv.length.symm
    have fP:∀(j:Nat) (o:aL D),(jF X ks (dL X ins x) cN.outs jn)[j]? =aqV o->
      (j<b7.length/\∃k0,(dL X ins x)[j]? =aqV k0/\o=(if ks.getD j 0=1 then k0 else if ks.getD j 0=2 then iB X we cN.outs jn j else .dead))\/
      (b7.length<=j/\(dL X cN.outs jn)[j - b7.length]? =aqV o):=by
     intro j o av;unfold jF at av;by_cases aN:j<b7.length
     ·refine .inl ⟨aN, ?_⟩;rw[arm (by rw[mH];omega)] at av;have ay:(dL X ins x)[j]? =aqV ((dL X ins x)[j]'(by omega)):=ary (by omega);have:=uD (X:=X) (outs:=cN.outs) (y:=jn) (i:=0) (ks:=ks) ay;rw[av] at this;refine ⟨_,ay, ?_⟩;have:=arr.inj this;rw[arh] at this;exact this
     ·refine .inr ⟨by omega, ?_⟩;rw[arl (by rw[mH];omega),mH,<-fl] at av;exact av
    have yJ:∀(j:Nat) (u:aqX),j<b7.length->vs[j]? =aqV u->(b7++aZ.map fun i=>vs.getD i undef)[j]? =aqV u:=by intro j u av hu;rw[arm av];have:b7[j]? =aqV b7[j]:=ary av;have:=ad j _ this;rw[hu] at this;cases this;exact ary av
    have nZ:∀(n i:Nat) (u:aqX),(arC b7.length++aZ)[n]? =aqV i->vs[i]? =aqV u->(b7++aZ.map fun i=>vs.getD i undef)[n]? =aqV u:=by
     intro n i u ar hu;by_cases aN:n<b7.length
     ·rw[arm (by simpa using aN),as8 aN] at ar;cases ar;exact yJ n u aN hu
     ·rw[arl (by simpa using aN),atE] at ar;obtain ⟨l9,h1,J⟩:=Fz _ _ ar;rw[hu] at J;cases J;rw[arl (by omega)];exact h1
    refine ⟨cr,aZ.map fun i=>vs.getD i undef,g1, ?_, ?_⟩
    ·refine g2.DM ?_ (fun j=>if j<b7.length then j else aZ.getD (j - b7.length) 0) (fun j o av ah=> ?_) (fun j o u av ah hu=> ?_) (fun i j o p dY av Mb Fx cY=> ?_)
     ·unfold jF;rw[aro,aro,mH,hlen,arP,fl]
     ·rcases fP j o av with ⟨aN,k0,qO,ai⟩|⟨e8,ai⟩
      ·simp only[if_pos aN];by_cases bs:ks.getD j 0=1
       ·rw[if_pos bs] at ai;subst ai;obtain ⟨p,c8,dR,gX,hX⟩:=Xn lb bs;rw[arh] at c8;have:=hg.dh j p (by omega) c8 dR gX;rw[qO] at this;cases this;obtain ⟨v,v1,v2⟩:=g2.at c8;obtain ⟨_,c,w,_,rfl⟩:=wS (are qO);exact ⟨_,v,c8,dR,v1,yJ j v aN v1,bB.U9 aqZ v2 fun n _ ai u hu=>yJ n u (hX n ai) hu⟩
       ·rw[if_neg bs] at ai;by_cases bC:ks.getD j 0=2
        ·rw[if_pos bC] at ai;rcases GA (n:=0) (j:=j) aa with aB|⟨c,w,p,c8,dR,gX⟩
         ·rw[ai,aB] at ah;cases ah
         ·obtain ⟨v,v1,v2⟩:=g2.at c8;refine ⟨p,v,c8,bB.Lr dR,v1,yJ j v aN v1, ?_⟩;rw[ai,gX];exact bB.Bp dR v2 nZ aqW
        ·rw[if_neg bC] at ai;rw[ai] at ah;cases ah
      ·have ar:¬j<b7.length:=by omega
       simp only[if_neg ar];have aN:=(aq5.1 ai).1;have ay:aZ[j - b7.length]? =aqV (aZ[j - b7.length]'(by omega)):=ary (by omega);obtain ⟨q,cm,p,c8,dR⟩:=wv.get _ _ ay;rw[k4,arH,cm] at ai;have ai:=(arr.inj ai).symm;subst ai;obtain ⟨u,xy,DP⟩:=Fz _ _ ay;obtain ⟨v,v1,v2⟩:=g2.at c8;rw[DP] at v1;cases v1;have aB:aZ.getD (j - b7.length) 0=aZ[j - b7.length]'(by omega):=by simp[ar3,ay]
       refine ⟨p,u,by rw[aB];exact c8,bB.Lr dR,by rw[aB];exact DP, ?_, ?_⟩
       ·rw[arl e8];exact xy
       ·exact bB.Bp dR v2 nZ aqZ
     ·rcases fP j o av with ⟨aN,k0,qO,ai⟩|⟨e8,ai⟩
      ·by_cases bs:ks.getD j 0=1
       ·rw[if_pos bs] at ai;subst ai;obtain ⟨_,c,w,_,rfl⟩:=wS (are qO);rw[bB.uc] at ah;cases ah
       ·rw[if_neg bs] at ai;by_cases bC:ks.getD j 0=2
        ·rw[if_pos bC] at ai;rcases sl (X:=X) (aE:=cN.outs) (x:=jn) (j:=j) with aB|⟨_,c,w,_,aB⟩
         ·rw[ai,aB];trivial
         ·rw[ai,aB,bB.r6] at ah;cases ah
        ·rw[if_neg bC] at ai;rw[ai];trivial
      ·obtain ⟨_,c,w,_,rfl⟩:=wS (are ai);rw[bB.uc] at ah;cases ah
     ·have dead:∀(i j:Nat) (o p:aL D),i<b7.length->b7.length<=j->(jF X ks (dL X ins x) cN.outs jn)[i]? =aqV o->(jF X ks (dL X ins x) cN.outs jn)[j]? =aqV p->o.live=aqW->i=aZ.getD (j - b7.length) 0->False:=by
       intro i j o p ht yD ai ap e0 cY;rcases fP j p ap with ⟨aN,_⟩|⟨_,mw⟩
       ·omega
       ·have aN:=(aq5.1 mw).1;have ay:aZ[j - b7.length]? =aqV (aZ[j - b7.length]'(by omega)):=ary (by omega);have aB:aZ.getD (j - b7.length) 0=aZ[j - b7.length]'(by omega):=by simp[ar3,ay]
        have hm:i∈aZ:=by rw[cY,aB];exact List.getElem_mem _
        have:=arc.1 c2 i hm;simp only[ar7] at this;have ll:ks.getD i 0=0:=by
         rcases this with h1|h1
         ·have:=asg h1;omega
         ·exact arA h1
        rcases fP i o ai with ⟨_,k0,_,iq⟩|⟨e8,_⟩
        ·rw[ll] at iq;simp at iq;rw[iq] at e0;cases e0
        ·omega
      by_cases h1:i<b7.length
      ·by_cases J:j<b7.length
       ·simpa[h1,J] using cY
       ·simp only[if_pos h1,if_neg J] at cY;exact (dead i j o p h1 (by omega) dY av Mb cY).elim
      ·by_cases J:j<b7.length
       ·simp only[if_neg h1,if_pos J] at cY;exact (dead j i p o J (by omega) av dY Fx cY.symm).elim
       ·simp only[if_neg h1,if_neg J] at cY;rcases fP i o dY with ⟨aN,_⟩|⟨_,ht⟩
        ·omega
        ·rcases fP j p av with ⟨aN,_⟩|⟨_,yD⟩
         ·omega
         ·have ap':=(aq5.1 ht).1;have Uu:=(aq5.1 yD).1;have s1:aZ[i - b7.length]? =aqV (aZ.getD (i - b7.length) 0):=by rw[ary (by omega)];simp[ar3,ary (show i - b7.length<aZ.length by omega)]
          have s2:aZ[j - b7.length]? =aqV (aZ.getD (j - b7.length) 0):=by rw[ary (by omega)];simp[ar3,ary (show j - b7.length<aZ.length by omega)]
          rw[cY] at s1;have:=NG c1 _ _ _ s1 s2;omega
    ·intro p ap;rcases arj.1 ap with ap|ap
     ·refine zM (fun j i u av hu=> ?_) aa g3 p ap;by_cases aN:j<b7.length
      ·rw[arm (by simpa using aN)] at av;rw[as8 aN] at av;cases av;exact yJ j u aN hu
      ·rw[arl (by simpa using aN)] at av;rw[atE] at av;obtain ⟨l9,h1,J⟩:=Fz _ _ av;rw[hu] at J;cases J;show (b7++_)[j]? =_;rw[arl (by omega)];exact h1
     ·have ao:=arc.1 tA p ap;have:=O7 (X:=X) (z:=cr) (vs:=vs) (vs':=b7++aZ.map fun i=>vs.getD i undef) id ao ((aT.mono g1.le fun _ _ h=>h) p.1) fun j i u av hu=>by
       by_cases aN:j<b7.length
       ·rw[arm (by simpa using aN)] at av;rw[as8 aN] at av;cases av;exact yJ j u aN hu
       ·rw[arl (by simpa using aN)] at av;rw[atE] at av;obtain ⟨l9,h1,J⟩:=Fz _ _ av;rw[hu] at J;cases J;show (b7++_)[j]? =_;rw[arl (by omega)];exact h1
      rwa [Hk] at this
   ·cases h
  ·cases h
 ·cases h
theorem C0 {ins:List dk} {ks:List Nat} {x:ew D ins} {cN:kK D} {y:k1 D cN.outs} {b7:List aqX} (ae:Inv (dL X ins x) O) (ad:∀(i:Nat) (u:aqX),b7[i]? =aqV u->vs[i]? =aqV u) (fl:b7.length=(dL X ins x).length)
  (aw:bm X.G O z e m k vs) (aT:eA X z vs E fr) (h:z7 X b7.length ks cN E O=aqV y):
  ∃z' dd,cT e.next z z'/\bm X.G (jF X ks (dL X ins x) cN.outs (eX _ y)) z' e m k (b7++dd)/\∀p∈gv X cN.outs (eX _ y)++cN.eE,rel X.G z' (b7++dd) p.2 (fr p.1):=by
 obtain ⟨vs',g1,g2,g3,g4⟩:=lD (aE:=cN.outs) aw aT;unfold z7 at h;split at h
 ·rename_i lN aP;obtain ⟨cr,hE,bs,bC⟩:=zv g3 aP;obtain ⟨z2,dd,iY,cm,cw⟩:=agq ((ae.trans g1).trans hE) (fun i u hu=>g2 i u (ad i u hu)) fl bC (g4.mono bs.le fun _ _ h=>h) h;exact ⟨z2,dd,bs.trans iY,cm,cw⟩
 ·cases h
end
end
end Go.aS
end
section
namespace Go.aS
structure gh (D:Nat->Type) where
 path:List Nat
 ins:List dk
 eE:List (Nat×aQ D)
 ks:List Nat
 ik:List (kK D)
 keep:List Nat
noncomputable section
section
variable {P:aq1} {D:Nat->Type}
def gh.F (p:gh D):Type:=ew D p.ins->Option (ri p.ik)
def ff:List dk->Nat
 |[]=>0
 | .o _ _::aE=>ff aE+1
 |_::aE=>ff aE
def sz:aQ D->Bool
 | .c (.own _)| .box _ _| .eZ _| .c .fz| .c .y6| .c .oi| .undef| .un| .c (.int _ _)| .c (.bool _)| .fn _ []=>aqW
 |_=>aqZ
def DK:aQ D->Option Nat
 | .c (.own j)| .box j _| .eZ j=>aqV j
 |_=>aqY
def E0 (n:Nat) (ks:List Nat) (s:aQ D):Bool:=sz s&&match DK s with|some j=>arz n j|| !Nat.beq (ks.getD j 0) 0|none=>aqW
def qh:List Nat->Nat->Option Nat
 |[],_=>aqY
 |a::aZ,i=>if ard a i=aqW then aqV 0 else (match qh aZ i with|some j=>aqV (j+1)|none=>aqY)
variable (X:dB P D)
def ra (bY:Nat->Nat) (aZ ks:List Nat) (outs:List dk) (y:ew D outs):Nat->List (aL D)->List (aL D)
 |_,[]=>[]
 |i,o::O=>(match qh aZ i with|some j=>(if ks.getD j 0=1 then o else if ks.getD j 0=2 then iB X bY outs y j else .dead)|none=>if o.live=aqW then .dead else o)::ra bY aZ ks outs y (i+1) O
def mkOr (bY:Nat->Nat):(aE:List dk)->ew D aE->List (aL D)
 |[],_=>[]
 | .o _ c::aE,x=>bB.fe X bY c x.1 aqZ::mkOr bY aE x.2
 | .v _ _::aE,x=>mkOr bY aE x.2
 | .u _ _::aE,x=>mkOr bY aE x.2
def num (aZ:List Nat) (n N:Nat) (j:Nat):Nat:=if ass j n=aqW then aZ.getD j 0 else N+(j - n)
def Ba (p:gh D) (aZ:List Nat) (N:Nat) (cN:kK D) (y:ew D cN.outs) (E:List (Nat×aQ D)):List (Nat×aQ D):=
 gv X cN.outs y++((cN.eE.map fun q=>(q.1,xu (num aZ (ff p.ins) N) q.2))++p.keep.map fun d=>(d,eg E d))
def qy (p:gh D) (aZ:List Nat) (cX:List (aL D)) (cN:kK D) (y:ew D cN.outs):List (aL D):=ra X (num aZ (ff p.ins) cX.length) aZ p.ks cN.outs y 0 cX++mkOr X (num aZ (ff p.ins) cX.length) cN.outs y
def gh.Ac (p:gh D) (F:p.F) (E:List (Nat×aQ D)) (O:List (aL D)) {af:Type} (K:dX->List (Nat×aQ D)->List (aL D)->Option af):Option af:=
 match re X p.ins p.eE E O with
 |some (x,aZ,cX)=>aq0 (F x) fun ch=>EG p.ik ch fun cN y=>K cN.ex (Ba X p aZ cX.length cN (eX _ y) E) (qy X p aZ cX cN (eX _ y))
 |none=>aqY
def gh.run (p:gh D) (F:p.F) (E:List (Nat×aQ D)) (O:List (aL D)) {af:Type} (K:dX->List (Nat×aQ D)->List (aL D)->Option af):Option af:=p.Ac X F (jz p.ins E O).1 (jz p.ins E O).2 K
def gh.zb (p:gh D) (F:p.F):k9 D where
 path:=p.path
 fits:=fun E O=>(re X p.ins p.eE (jz p.ins E O).1 (jz p.ins E O).2).isSome
 run:=fun E O {_} K=>p.run X F E O K
def F1 (n:Nat) (ks:List Nat) (r:Nat):Bool:=arz n r|| !Nat.beq (ks.getD r 0) 0
def zA (n:Nat) (ks:List Nat):Nat->List dk->Bool
 |_,[]=>aqW
 |j, .o _ c::aE=>(!Nat.beq (ks.getD j 0) 1||c.gK.all (F1 n ks))&&zA n ks (j+1) aE
 |j,_::aE=>zA n ks j aE
def gh.oN (B:Code) (p:gh D):Bool:=((p.ik.all fun cN=>cN.outs.all fun i=>i.y5&&i.gK.all (F1 (ff p.ins) p.ks))&&zA (ff p.ins) p.ks 0 p.ins)&&(p.ik.all (fun cN=>cN.eE.all fun q=>E0 (ff p.ins) p.ks q.2)&&p.keep.all fun d=> !(jD (sub B p.path)).contains d)
def y1:Nat->List Nat->List Nat->List (aL D)->Bool
 |_,[],_,_=>aqW
 |j,k::ks,aZ,O=>(if k=0 then aqW else pb (aZ[j]?) j&&(if k=1 then (match O[j]? with|some o=> !o.k6|none=>aqZ) else aqW))&&y1 (j+1) ks aZ O
def YR (p:gh D) (F:p.F) (ex:dX) (E:List (Nat×aQ D)) (O:List (aL D)):Option (ri p.ik):=
 if ex= .normal then
  match re X p.ins p.eE (jz p.ins E O).1 (jz p.ins E O).2 with
  |some (x,aZ,cX)=>if y1 0 p.ks aZ cX=aqW then F x else aqY
  |none=>aqY
 else pu X (ff p.ins) p.ks p.ik ex E O
end
section
variable {P:aq1} {D:Nat->Type} {X:dB P D} {z z':Nat->a6} {e m m':Mem} {k:Option Nat} {vs vs':List aqX} {fr:Nat->aqX} {E:List (Nat×aQ D)} {O bD:List (aL D)}
theorem Yn {n:Nat} {ks:List Nat} {r:Nat} (h:F1 n ks r=aqW):n<=r\/ks.getD r 0≠0:=by
 simp only[F1,ar7,ar8] at h;rcases h with h|h
 ·exact .inl (asg h)
 ·refine .inr fun ax=> ?_;rw[ax] at h;cases h
theorem CI {n:Nat} {ks:List Nat}:∀{aE:List dk} {x:ew D aE} {i j:Nat} {q:xY D},zA n ks i aE=aqW->(cos aE x)[j]? =aqV q->ks.getD (i+j) 0=1->∀r∈q.c.gK,n<=r\/ks.getD r 0≠0
 |[],_,_,_,_,_,h,_=>by simp[cos] at h
 | .v d c::aE,x,i,j,q,hk,h,h1=>CI (aE:=aE) (x:=x.2) hk h h1
 | .u d c::aE,x,i,j,q,hk,h,h1=>CI (aE:=aE) (x:=x.2) hk h h1
 | .o d c::aE,x,i,0,q,hk,h,h1=>by simp only[cos,List.getElem?_cons_zero] at h;cases h;simp only[zA,ara] at hk;intro r an;have J:=hk.1;rw[arJ] at h1;rw[h1] at J;exact Yn (arc.1 (by simpa using J) r an)
 | .o d c::aE,x,i,j+1,q,hk,h,h1=>by simp only[cos,asC] at h;simp only[zA,ara] at hk;exact CI (aE:=aE) (x:=x.2) hk.2 h (by rw[<-h1];congr 1;omega)
theorem Xy {bY me:Nat->Nat} {l:List (Nat×Nat)} (h:∀p∈l,bY p.2=me p.2):∀{cs:List (bJ D)} {i:Nat},nu bY l i cs=nu me l i cs
 |[],_=>rfl
 |c::cs,i=>by
  simp only[nu,Xy h (cs:=cs)];congr 1;cases aP:lf l i with
  |none=>rfl
  |some n=>simp only;rw[h _ (CS aP)]
theorem ah2 {bY me:Nat->Nat} {c:bB} {x:c.ty D} {w:Bool} (h:∀r∈c.gK,bY r=me r):bB.fe X bY c x w=bB.fe X me c x w:=by
 cases c with
 |eQ t l=>simp only[bB.fe];rw[Xy fun p ap=>h p.2 (arf.2 ⟨p,ap,rfl⟩)]
 |j9 t f is=>simp only[bB.fe];rw[show is.map bY=is.map me from List.map_congr_left fun n ar=>h n ar]
 |_=>rfl
theorem uj {bY:Nat->Nat}:∀{aE:List dk} {x:ew D aE},mkOr X bY aE x=(cos aE x).map fun q=>bB.fe X bY q.c q.x aqZ
 |[],_=>rfl
 | .o d c::aE,x=>by show bB.fe X bY c x.1 aqZ::mkOr X bY aE x.2=bB.fe X bY c x.1 aqZ::(cos aE x.2).map _;rw[uj]
 | .v d c::aE,x=>uj (aE:=aE)
 | .u d c::aE,x=>uj (aE:=aE)
theorem jB:∀{aE:List dk} {x:ew D aE},(dL X aE x).length=ff aE
 |[],_=>rfl
 | .v _ _::aE,x=>jB (aE:=aE)
 | .u _ _::aE,x=>jB (aE:=aE)
 | .o _ _::aE,x=>by show ((dL X aE x.2).length+1)=ff aE+1;rw[jB]
def PD (X:dB P D) (p:gh D) (x:ew D p.ins) (ch:ri p.ik) (z:Nat->a6) (e:Mem) (k:Option Nat) (b7:List aqX) (ex:dX) (fr':Nat->aqX) (m':Mem):Prop:=
 ∃z' dd cN y,cN∈p.ik/\ex=cN.ex/\(∀{au:Type} (K:(x:kK D)->k1 D x.outs->au),EG p.ik ch K=K cN y)/\cT e.next z z'/\
  bm X.G (jF X p.ks (dL X p.ins x) cN.outs (eX _ y)) z' e m' k (b7++dd)/\∀q∈gv X cN.outs (eX _ y)++cN.eE,rel X.G z' (b7++dd) q.2 (fr' q.1)
def rq (qv:dX->dX) (X:dB P D) (B:Code) (p:gh D) (F:p.F):Prop:=∀(x:ew D p.ins) (ch:ri p.ik) {z:Nat->a6} {e m:Mem} {k:Option Nat} {b7:List aqX} {fr:Nat->aqX},
 F x=aqV ch->bm X.G (dL X p.ins x) z e m k b7->eA X z b7 (gv X p.ins x++p.eE) fr->W P (sub B p.path) (fun ex=>PD X p x ch z e k b7 (qv ex)) fr m
def nI (X:dB P D) (B:Code) (p:gh D) (F:p.F):Prop:=∀(x:ew D p.ins) (ch:ri p.ik) {z:Nat->a6} {e m:Mem} {k:Option Nat} {b7:List aqX} {fr:Nat->aqX},
 F x=aqV ch->bm X.G (dL X p.ins x) z e m k b7->eA X z b7 (gv X p.ins x++p.eE) fr->W P (sub B p.path) (PD X p x ch z e k b7) fr m
theorem rq.of {qv:dX->dX} (bW:fS X) {B:Code} {us:List (k9 D)} {p:gh D} {F:p.F} (r0:∀u∈us,p.path.length<u.path.length->pG X B u)
  (dn:∀x,hT X us calm aqW p.path.reverse (sub B p.path) (gv X p.ins x++p.eE) (dL X p.ins x) (fun ex=>pu X (ff p.ins) p.ks p.ik (qv ex))=F x):rq qv X B p F:=by
 intro x ch z e m k b7 fr cB aw aT;have h:=dn x;rw[cB] at h;have ar:b7.length=ff p.ins:=by rw[aw.len,jB]
 refine (zH bW (L:=p.path.length) r0 (sub B p.path) aqW p.path.reverse _ _ _ ch (by rw[auo]) (by simp) (by simp) aw aT h).mono ?_;rintro ex eV m1 ⟨cr,jb,jI,bL,aI,h1,J,aj,aM,bq⟩;obtain ⟨cN,y,g1,g2,g3,g4⟩:=CK bq;obtain ⟨z2,dd,bs,bC,cQ⟩:=C0 (ks:=p.ks) (x:=x) aI J aw.len aj aM (by rw[ar];exact g3);exact ⟨z2,dd,cN,y,g1,g2,g4,h1.trans bs,bC,cQ⟩
theorem nI.of (bW:fS X) {B:Code} {us:List (k9 D)} {p:gh D} {F:p.F} (r0:∀u∈us,p.path.length<u.path.length->pG X B u)
  (dn:∀x,hT X us calm aqW p.path.reverse (sub B p.path) (gv X p.ins x++p.eE) (dL X p.ins x) (pu X (ff p.ins) p.ks p.ik)=F x):nI X B p F:=by
 intro x ch z e m k b7 fr cB aw aT;have h:=dn x;rw[cB] at h;have ar:b7.length=ff p.ins:=by rw[aw.len,jB]
 refine (zH bW (L:=p.path.length) r0 (sub B p.path) aqW p.path.reverse _ _ _ ch (by rw[auo]) (by simp) (by simp) aw aT h).mono ?_;rintro ex eV m1 ⟨cr,jb,jI,bL,aI,h1,J,aj,aM,bq⟩;obtain ⟨cN,y,g1,g2,g3,g4⟩:=CK bq;obtain ⟨z2,dd,bs,bC,cQ⟩:=C0 (ks:=p.ks) (x:=x) aI J aw.len aj aM (by rw[ar];exact g3);exact ⟨z2,dd,cN,y,g1,g2,g4,h1.trans bs,bC,cQ⟩
theorem PS {s:aQ D} {v:aqX} {bY:Nat->Nat} (h:sz s=aqW) (an:rel X.G z vs s v) (ad:∀(j:Nat) (u:aqX),DK s=aqV j->vs[j]? =aqV u->vs'[bY j]? =aqV u):rel X.G z vs' (xu bY s) v:=by
 unfold sz at h;split at h
 ·exact ⟨ad _ _ rfl an.1,an.2⟩
 ·obtain ⟨b,h1,J⟩:=an;exact ⟨b,ad _ _ rfl h1,J⟩
 ·obtain ⟨b,l,h1,J⟩:=an;exact ⟨b,l,ad _ _ rfl h1,J⟩
 ·exact an
 ·exact an
 ·exact an
 ·exact an
 ·exact an
 ·exact an
 ·exact an
 ·obtain ⟨gs,h1,J⟩:=an;refine ⟨gs,h1, ?_⟩;cases gs with
  |nil=>trivial
  |cons _ _=>exact J.elim
 ·cases h
theorem XG {n:Nat} {ks:List Nat} {s:aQ D} (h:E0 n ks s=aqW):sz s=aqW/\∀j,DK s=aqV j->n<=j\/ks.getD j 0≠0:=by
 simp only[E0,ara] at h;refine ⟨h.1,fun j av=> ?_⟩;have J:=h.2;rw[av] at J;simp only[ar7,ar8] at J;rcases J with J|J
 ·exact .inl (asg J)
 ·refine .inr fun ax=> ?_;rw[ax] at J;cases J
theorem Hc:∀{ks:List Nat} {i j:Nat} {aZ:List Nat},y1 i ks aZ O=aqW->ks.getD j 0≠0->aZ[i+j]? =aqV (i+j)/\(ks.getD j 0=1->∃o,O[i+j]? =aqV o/\o.k6=aqZ)
 |[],i,j,aZ,_,h=>by simp at h
 |k::ks,i,0,aZ,hk,h=>by
  simp only[y1,ara] at hk;simp only[List.getD_cons_zero] at h⊢;have h1:=hk.1;rw[if_neg h] at h1;simp only[ara] at h1;refine ⟨GW h1.1,fun bs=> ?_⟩;have J:=h1.2;rw[if_pos bs] at J;split at J
  ·rename_i o ai;exact ⟨o,ai,by simpa using J⟩
  ·cases J
 |k::ks,i,j+1,aZ,hk,h=>by simp only[y1,ara] at hk;simp only[aun] at h⊢;have:=Hc hk.2 h;rw[show i+(j+1)=i+1+j by omega];exact this
theorem amG {outs:List dk} {y:ew D outs} {ks:List Nat} {A B:List (aL D)} (ah:A.length=B.length) (h:∀j,ks.getD j 0=1->A[j]? =B[j]?):mC X outs y 0 ks A=mC X outs y 0 ks B:=by
 apply asL;intro j;by_cases av:j<A.length
 ·have a:A[j]? =aqV A[j]:=ary av;have b:B[j]? =aqV (B[j]'(by omega)):=ary (by omega);rw[uD a,uD b];by_cases bs:ks.getD j 0=1
  ·have e:=h j bs;rw[a,b] at e;rw[if_pos bs,if_pos bs,arr.inj e]
  ·rw[if_neg bs,if_neg bs]
 ·rw[atb (by rw[mH];omega),atb (by rw[mH];omega)]
theorem nI.loop (bW:fS X) {B c:Code} {us:List (k9 D)} {p:gh D} {F:Nat->p.F} (fK:sub B p.path= .loop c) (hk:p.oN B=aqW) (r0:∀u∈us,p.path.length+1<u.path.length->pG X B u) (aI:∀x,F 0 x=aqY)
  (dn:∀n x,hT X us calm aqW (0::p.path.reverse) c (gv X p.ins x++p.eE) (dL X p.ins x) (YR X p (F n))=F (n+1) x):∀n,nI X B p (F n):=by
 intro n;induction n with
 |zero=>intro x ch z e m k b7 fr cB;rw[aI] at cB;cases cB
 |succ n a8=>
  intro x ch z e m k b7 fr cB aw aT;have h:=dn n x;rw[cB] at h;rw[fK];have ar:b7.length=ff p.ins:=by rw[aw.len,jB]
  refine W.ad2 ((zH bW (L:=p.path.length+1) r0 c aqW (0::p.path.reverse) _ _ _ ch (by rw[List.reverse_cons,auo,<-O4,fK];exact pj c) (by simp) (by simp) aw aT h).mono ?_);rintro ex eV m1 ⟨cr,jb,jI,bL,aI,h1,J,aj,aM,bq⟩;have other:pu X (ff p.ins) p.ks p.ik ex jI bL=aqV ch->PD X p x ch z e k b7 ex eV m1:=by intro bq;obtain ⟨cN,y,g1,g2,g3,g4⟩:=CK bq;obtain ⟨z2,dd,bs,bC,cQ⟩:=C0 (ks:=p.ks) (x:=x) aI J aw.len aj aM (by rw[ar];exact g3);exact ⟨z2,dd,cN,y,g1,g2,g4,h1.trans bs,bC,cQ⟩
  cases ex with
  |exit i=>exact other bq
  |ret=>exact other bq
  |normal=>
   show W P (.loop c) _ eV m1;have bq:(match re X p.ins p.eE (jz p.ins jI bL).1 (jz p.ins jI bL).2 with
    |some (x,aZ,cX)=>if y1 0 p.ks aZ cX=aqW then F n x else aqY
    |none=>aqY)=aqV ch:=bq
   split at bq
   ·rename_i hb aZ cX an;obtain ⟨Md,ku⟩:=eW bq;obtain ⟨anY,cO,fo,qo,IG⟩:=lD (aE:=p.ins) aj aM;obtain ⟨z2,QD,i1,i2,hS⟩:=entry qo IG an;have i1:=cO.trans i1;have J:∀(i:Nat) (u:aqX),b7[i]? =aqV u->anY[i]? =aqV u:=fun i u hu=>fo i u (J i u hu);have yC:=a8 hb ch ku hS.Va hS.Zw;rw[fK] at yC;refine yC.mono ?_;rintro ex fx m2 ⟨z3,dd,cN,y,g1,g2,g3,g4,g5,g6⟩;have same:∀j,p.ks.getD j 0≠0->∀u,QD[j]? =aqV u->b7[j]? =aqV u:=by
     intro j av u hu;obtain ⟨s1,_⟩:=Hc Md av;rw[arh] at s1;obtain ⟨l9,t1,t2⟩:=hS.dd _ _ s1;rw[hu] at t1;cases t1;have aN:j<b7.length:=by have:=(aq5.1 hu).1;rw[hS.len,hS.uf.length,<-arP (f:=fun q=>bB.mk X q.c q.x aqZ),<-k4,jB] at this;omega
     have:=J j _ (ary aN);rw[t2] at this;cases this;exact ary aN
    have gl:QD.length=b7.length:=by rw[hS.len,hS.uf.length,<-arP (f:=fun q=>bB.mk X q.c q.x aqZ),<-k4,jB,ar]
    have Qs:∀(j:Nat) (u:aqX),ff p.ins<=j\/p.ks.getD j 0≠0->(QD++dd)[j]? =aqV u->(b7++dd)[j]? =aqV u:=by
     intro j u av hu;by_cases aN:j<b7.length
     ·rw[arm (by omega)] at hu⊢;rcases av with av|av
      ·omega
      ·exact same j av u hu
     ·rw[arl (by omega)] at hu⊢;rw[gl] at hu;exact hu
    have kc:=hk;simp only[gh.oN,ara] at kc;have Uq:=kc.1.1;have yH:=kc.1.2;have acO:mC X cN.outs (eX _ y) 0 p.ks (dL X p.ins hb)=mC X cN.outs (eX _ y) 0 p.ks (dL X p.ins x):=by
     refine amG (by rw[jB,jB]) fun j av=> ?_;obtain ⟨s1,s2⟩:=Hc Md (show p.ks.getD j 0≠0 by rw[av];simp);obtain ⟨o,gm,gW⟩:=s2 av;rw[arh] at s1 gm;obtain ⟨q,cm,w,cw⟩:=hS.uf.get j j s1;rw[gm] at cw;have cw:=arr.inj cw;subst cw;rw[bB.FV] at gW;subst gW;have Cs:(dL X p.ins hb)[j]? =aqV (bB.mk X q.c q.x aqZ):=by rw[k4,arH,cm];rfl
     have gA:j<(dL X p.ins x).length:=by rw[jB,<-jB (X:=X) (x:=hb)];exact (aq5.1 Cs).1
     have dh:=(aI.trans i1).dh j _ gA gm bB.r6 bB.FV;rw[Cs,dh];refine congrArg aqV (ah2 fun r an=> ?_);obtain ⟨adK,BJ⟩:=hS.gt q (are cm) r an;have yQ:r<ff p.ins:=by have:=(aq5.1 BJ).1;rw[hS.uf.length,<-arP (f:=fun q=>bB.mk X q.c q.x aqZ),<-k4,jB] at this;exact this
     rcases CI (i:=0) yH cm (by rw[arh];exact av) r an with h|h
     ·omega
     ·obtain ⟨km,_⟩:=Hc Md h;rw[arh] at km;simp[ar3,km]
    have abX:∀q∈cN.eE,E0 (ff p.ins) p.ks q.2=aqW:=by exact fun q aJ=>arc.1 (arc.1 kc.2.1 cN g1) q aJ
    have lX:∀i∈cN.outs,∀r∈i.gK,ff p.ins<=r\/p.ks.getD r 0≠0:=fun i ae r an=>Yn (arc.1 (as1.1 (arc.1 (arc.1 Uq cN g1) i ae)).2 r an);refine ⟨z3,dd,cN,y,g1,g2,g3,(h1.trans i2).trans g4, ?_,fun q aJ=> ?_⟩
    ·have vV:jF X p.ks (dL X p.ins hb) cN.outs (eX _ y)=jF X p.ks (dL X p.ins x) cN.outs (eX _ y):=by rw[jF,jF,acO]
     rw[vV] at g5;have key:∀(i:Nat) (o:aL D),(jF X p.ks (dL X p.ins x) cN.outs (eX _ y))[i]? =aqV o->o.live=aqW->(ff p.ins<=i\/p.ks.getD i 0≠0):=by
      intro i o ai ah;by_cases aN:i<ff p.ins
      ·refine .inr fun ll=> ?_;unfold jF at ai;rw[arm (by rw[mH,jB];exact aN)] at ai;have ay:(dL X p.ins x)[i]? =aqV ((dL X p.ins x)[i]'(by rw[jB];exact aN)):=ary _;rw[uD ay,ll] at ai;simp at ai;subst ai;cases ah
      ·exact .inl (by omega)
     have mk:∀(i:Nat) (o:aL D),(jF X p.ks (dL X p.ins x) cN.outs (eX _ y))[i]? =aqV o->o= .dead\/∃c a w,o=bB.mk X c a w/\∀r∈c.gK,ff p.ins<=r\/p.ks.getD r 0≠0:=by
      intro i o ai;unfold jF at ai;by_cases aN:i<ff p.ins
      ·rw[arm (by rw[mH,jB];exact aN)] at ai;have ay:(dL X p.ins x)[i]? =aqV ((dL X p.ins x)[i]'(by rw[jB];exact aN)):=ary _;rw[uD ay] at ai;have ai:=(arr.inj ai).symm;by_cases bs:p.ks.getD i 0=1
       ·rw[if_pos bs] at ai;have kf:(dL X p.ins x)[i]? =aqV o:=by rw[ai];exact ay
        rw[k4,arH] at kf;obtain ⟨q,aJ,he⟩:=atp.1 kf;exact .inr ⟨q.c,q.x,aqZ,he.symm,CI (i:=0) yH aJ (by rw[arh];exact bs)⟩
       ·rw[if_neg bs] at ai;by_cases bC:p.ks.getD i 0=2
        ·rw[if_pos bC] at ai;rcases sl (X:=X) (aE:=cN.outs) (x:=eX _ y) (j:=0+i) with aB|⟨d,c,a,aB,he⟩
         ·exact .inl (by rw[ai,aB])
         ·exact .inr ⟨c,a,aqW,by rw[ai,he];rfl,lX _ aB⟩
        ·rw[if_neg bC] at ai;exact .inl ai
      ·rw[arl (by rw[mH,jB];omega)] at ai;obtain ⟨d,c,a,aB,ax⟩:=wS (are ai);exact .inr ⟨c,a,aqZ,ax,lX _ aB⟩
     refine g5.DM (by rw[<-g5.len];simp[gl]) id (fun i o ai ah=> ?_) (fun i o u ai ah hu=> ?_) (fun i j _ _ _ _ _ _ h=>h)
     ·obtain ⟨v,v1,v2⟩:=g5.at ai;refine ⟨o,v,ai,ah,v1,Qs i v (key i o ai ah) v1, ?_⟩;rcases mk i o ai with rfl|⟨c,a,w,rfl,an⟩
      ·trivial
      ·exact bB.y2 w v2 fun r nj u hu=>Qs r u (an r nj) hu
     ·rcases mk i o ai with rfl|⟨c,a,w,rfl,_⟩
      ·trivial
      ·rw[bB.uc] at ah;cases ah
    ·have an:=g6 q aJ;rcases arj.1 aJ with aJ|aJ
     ·obtain ⟨d,c,a,aB,ab⟩:=zB aJ;rw[ab] at an⊢;exact fs.MX (as1.1 (arc.1 (arc.1 Uq cN g1) _ aB)).1 an
     ·obtain ⟨s1,s2⟩:=XG (abX q aJ);have:=PS (X:=X) (bY:=id) (vs':=b7++dd) s1 an fun j u av hu=>Qs j u (s2 j av) hu
      rwa [Hk] at this
   ·cases bq
theorem zn:∀{aZ:List Nat} {i j:Nat},qh aZ i=aqV j->aZ[j]? =aqV i
 |[],_,_,h=>by cases h
 |a::aZ,i,j,h=>by
  simp only[qh] at h;split at h
  ·rename_i aq;cases h;rw[arA aq];rfl
  ·split at h
   ·rename_i bX av;cases h;rw[asC];exact zn av
   ·cases h
theorem zk {bY:Nat->Nat} {aZ ks:List Nat} {outs:List dk} {y:ew D outs}:∀{i:Nat} {O:List (aL D)},(ra X bY aZ ks outs y i O).length=O.length
 |i,[]=>rfl
 |i,o::O=>by simp[ra,zk]
theorem WU {bY:Nat->Nat} {aZ ks:List Nat} {outs:List dk} {y:ew D outs}:∀{i:Nat} {O:List (aL D)} {a:Nat} {o:aL D},O[a]? =aqV o->(ra X bY aZ ks outs y i O)[a]? =aqV (match qh aZ (i+a) with|some j=>(if ks.getD j 0=1 then o else if ks.getD j 0=2 then iB X bY outs y j else .dead)|none=>if o.live=aqW then .dead else o)
 |i,[],a,o,h=>by simp at h
 |i,p::O,0,o,h=>by simp at h;subst h;simp[ra]
 |i,p::O,a+1,o,h=>by simp only[asC] at h;have:=WU (bY:=bY) (aZ:=aZ) (ks:=ks) (outs:=outs) (y:=y) (i:=i+1) h;simp only[ra,asC,this];rw[show i+(a+1)=i+1+a by omega]
theorem rq.F5 {qv:dX->dX} {B:Code} {p:gh D} {F:p.F} (h:rq qv X B p F) (hk:p.oN B=aqW) {af:Type} (E:List (Nat×aQ D)) (O:List (aL D)) (K:dX->List (Nat×aQ D)->List (aL D)->Option af) (r:af) {z:Nat->a6} {e m:Mem} {k:Option Nat} {vs:List aqX} {fr:Nat->aqX}
  (aw:bm X.G O z e m k vs) (aT:eA X z vs E fr) (an:p.Ac X F E O K=aqV r):W P (sub B p.path) (fun x=>hy X O z e k vs (K (qv x)) r) fr m:=by
 unfold gh.Ac at an;split at an
 ·rename_i x aZ cX ae;obtain ⟨ch,cB,an⟩:=bind_some an;obtain ⟨cr,b7,i1,i2,hS⟩:=entry aw aT ae;simp only[gh.oN,ara] at hk;have ar:aZ.length=ff p.ins:=by rw[<-jB (X:=X) (x:=x),k4,arP];exact hS.uf.length
  have tQ:b7.length=ff p.ins:=by rw[hS.len,ar]
  refine (h x ch cB hS.Va hS.Zw).keep ?_;rintro ex eV m1 Fu ⟨z2,dd,cN,y,g1,g2,g3,g4,g5,g6⟩;rw[g3] at an;rw[g2];have lW:dd.length=(dL X cN.outs (eX _ y)).length:=by have:=g5.len;unfold jF at this;rw[aro,aro,mH,jB] at this;omega
  have bj:vs.length=cX.length:=hS.y3.len;have yA:∀(i:Nat) (u:aqX),vs[i]? =aqV u->(vs++dd)[i]? =aqV u:=iy;have nZ:∀(j:Nat) (u:aqX),(b7++dd)[j]? =aqV u->(vs++dd)[num aZ (ff p.ins) cX.length j]? =aqV u:=by
   intro j u hu;unfold num;by_cases aN:j<ff p.ins
   ·have aa:ass j (ff p.ins)=aqW:=by simpa[atq] using aN
    rw[if_pos aa];rw[arm (by omega)] at hu;have ay:aZ[j]? =aqV (aZ.getD j 0):=by rw[ary (by omega)];simp[ar3,ary (show j<aZ.length by omega)]
    obtain ⟨l9,t1,t2⟩:=hS.dd _ _ ay;rw[hu] at t1;cases t1;exact yA _ _ t2
   ·have aa:¬ass j (ff p.ins)=aqW:=by simpa[atq] using aN
    rw[if_neg aa];rw[arl (by omega),tQ] at hu;rw[arl (by omega),bj];rw[show cX.length+(j - ff p.ins) - cX.length=j - ff p.ins by omega];exact hu
  have fP:∀(i:Nat) (o:aL D),(qy X p aZ cX cN (eX _ y))[i]? =aqV o->
    (i<cX.length/\∃gW,cX[i]? =aqV gW/\o=(match qh aZ i with|some j=>(if p.ks.getD j 0=1 then gW else if p.ks.getD j 0=2 then iB X (num aZ (ff p.ins) cX.length) cN.outs (eX _ y) j else .dead)|none=>if gW.live=aqW then .dead else gW))\/
    (cX.length<=i/\(mkOr X (num aZ (ff p.ins) cX.length) cN.outs (eX _ y))[i - cX.length]? =aqV o):=by
   intro i o ai;unfold qy at ai;by_cases aN:i<cX.length
   ·refine .inl ⟨aN, ?_⟩;rw[arm (by rw[zk];exact aN)] at ai;have ay:cX[i]? =aqV cX[i]:=ary aN;rw[WU ay,arh] at ai;exact ⟨_,ay,(arr.inj ai).symm⟩
   ·refine .inr ⟨by omega, ?_⟩;rw[arl (by rw[zk];omega),zk] at ai;exact ai
  have vV:∀(j:Nat) (k0:aL D),(dL X p.ins x)[j]? =aqV k0->(jF X p.ks (dL X p.ins x) cN.outs (eX _ y))[j]? =aqV (if p.ks.getD j 0=1 then k0 else if p.ks.getD j 0=2 then iB X we cN.outs (eX _ y) j else .dead):=by intro j k0 av;unfold jF;rw[arm (by rw[mH];exact (aq5.1 av).1)];have:=uD (X:=X) (outs:=cN.outs) (y:=eX _ y) (i:=0) (ks:=p.ks) av;rw[arh] at this;exact this
  have acP:∀(i:Nat) (o:aL D),(dL X cN.outs (eX _ y))[i]? =aqV o->(jF X p.ks (dL X p.ins x) cN.outs (eX _ y))[ff p.ins+i]? =aqV o:=by intro i o ai;unfold jF;rw[arl (by rw[mH,jB];omega),mH,jB,show ff p.ins+i - ff p.ins=i by omega];exact ai
  have kz:∀(i:Nat) (o:aL D),(qy X p aZ cX cN (eX _ y))[i]? =aqV o->o.live=aqW->
    (∃j,qh aZ i=aqV j/\((p.ks.getD j 0=1/\cX[i]? =aqV o)\/(p.ks.getD j 0≠1/\p.ks.getD j 0=2/\o=iB X (num aZ (ff p.ins) cX.length) cN.outs (eX _ y) j)))\/(cX.length<=i/\(mkOr X (num aZ (ff p.ins) cX.length) cN.outs (eX _ y))[i - cX.length]? =aqV o):=by
   intro i o ai ah;rcases fP i o ai with ⟨aN,gW,J,aj⟩|h
   ·left;cases ap:qh aZ i with
    |some j=>
     rw[ap] at aj;dsimp only at aj;refine ⟨j,rfl, ?_⟩;by_cases bs:p.ks.getD j 0=1
     ·rw[if_pos bs] at aj;exact .inl ⟨bs,by rw[J,aj]⟩
     ·rw[if_neg bs] at aj;by_cases bC:p.ks.getD j 0=2
      ·rw[if_pos bC] at aj;exact .inr ⟨bs,bC,aj⟩
      ·rw[if_neg bC] at aj;rw[aj] at ah;cases ah
    |none=>
     rw[ap] at aj;dsimp only at aj;by_cases aM:gW.live=aqW
     ·rw[if_pos aM] at aj;rw[aj] at ah;cases ah
     ·rw[if_neg aM] at aj;rw[aj] at ah;exact absurd ah aM
   ·exact .inr h
  refine ⟨z2,vs++dd,_,_,i1.trans ?_,i2.trans g4,yA, ?_,Di ?_,an⟩
  ·refine ⟨?_,fun i o ae ai ah ao=> ?_⟩
   ·unfold qy;rw[aro,zk];omega
   ·rcases kz i o ai ah with ⟨j,_,h|⟨_,_,h⟩⟩|h
    ·exact h.2
    ·rcases sl (X:=X) (aE:=cN.outs) (x:=eX _ y) (j:=j) with aB|⟨_,c,a,_,aB⟩
     ·rw[h,aB] at ah;cases ah
     ·rw[h,aB,bB.FV] at ao;cases ao
    ·omega
  ·refine g5.DM ?_ (fun i=>if i<cX.length then (qh aZ i).getD 0 else ff p.ins+(i - cX.length)) (fun i o ai ah=> ?_) (fun i o u ai ah hu=> ?_) (fun i j o q dY av Mb Fx cY=> ?_)
   ·unfold qy;rw[aro,aro,zk,lW,bj,uj,k4,arP,arP]
   ·rcases kz i o ai ah with ⟨j,ap,ab⟩|⟨e8,ab⟩
    ·have ay:=zn ap;obtain ⟨q,Cs,w,cw⟩:=hS.uf.get j i ay;have cm:(dL X p.ins x)[j]? =aqV (bB.mk X q.c q.x aqZ):=by rw[k4,arH,Cs];rfl
     obtain ⟨u,t1,t2⟩:=hS.dd _ _ ay;have aN:i<cX.length:=(aq5.1 cw).1;simp only[if_pos aN,ap,asm];have rV:=vV j _ cm;have FH:(b7++dd)[j]? =aqV u:=iy _ _ t1;rcases ab with ⟨bs,ab⟩|⟨bs,bC,ab⟩
     ·rw[if_pos bs] at rV;rw[cw] at ab;have ab:=arr.inj ab;subst ab;have b0:=g5.obj j _ u rV FH;refine ⟨_,u,rV,bB.uc,FH,yA _ _ t2,bB.y2 w b0 fun r an l9 kg=> ?_⟩;obtain ⟨adK,BJ⟩:=hS.gt q (are Cs) r an;have acj:r<ff p.ins:=by rw[<-ar];exact (aq5.1 BJ).1
      have:=nZ r l9 kg;unfold num at this
      rwa [if_pos (by simpa[atq] using acj)] at this
     ·rw[if_neg bs,if_pos bC] at rV;have b0:=g5.obj j _ u rV FH;rcases sl (X:=X) (aE:=cN.outs) (x:=eX _ y) (j:=j) with aB|⟨_,c,a,_,aB⟩
      ·rw[ab,aB] at ah;cases ah
      ·rw[aB] at b0;refine ⟨_,u,rV,by rw[aB];exact bB.r6,FH,yA _ _ t2, ?_⟩;rw[ab,aB];exact bB.y2 aqW b0 fun r _ l9 kg=>nZ r l9 kg
    ·have acx:¬i<cX.length:=by omega
     simp only[if_neg acx];rw[uj,arH] at ab;obtain ⟨q,aJ,rfl⟩:=atp.1 ab;have rV:=acP (i - cX.length) (bB.mk X q.c q.x aqZ) (by rw[k4,arH,aJ];rfl);obtain ⟨u,xy,DP⟩:=g5.at rV;refine ⟨_,u,rV,bB.uc,xy, ?_, ?_⟩
     ·rw[arl (by omega),tQ,show ff p.ins+(i - cX.length) - ff p.ins=i - cX.length by omega] at xy;rw[arl (by omega),bj];exact xy
     ·exact bB.y2 aqZ DP fun r _ l9 kg=>nZ r l9 kg
   ·rcases fP i o ai with ⟨aN,gW,J,aj⟩|⟨_,h⟩
    ·cases ap:qh aZ i with
     |some j=>
      rw[ap] at aj;dsimp only at aj;have ay:=zn ap;obtain ⟨q,cm,w,cw⟩:=hS.uf.get j i ay;rw[J] at cw;by_cases bs:p.ks.getD j 0=1
      ·rw[if_pos bs] at aj;rw[aj,arr.inj cw,bB.r6] at ah;cases ah
      ·rw[if_neg bs] at aj;by_cases bC:p.ks.getD j 0=2
       ·rw[if_pos bC] at aj;rcases sl (X:=X) (aE:=cN.outs) (x:=eX _ y) (j:=j) with aB|⟨_,c,a,_,aB⟩
        ·rw[aj,aB];trivial
        ·rw[aj,aB,bB.r6] at ah;cases ah
       ·rw[if_neg bC] at aj;rw[aj];trivial
     |none=>
      rw[ap] at aj;dsimp only at aj;by_cases aM:gW.live=aqW
      ·rw[if_pos aM] at aj;rw[aj];trivial
      ·rw[if_neg aM] at aj;subst aj;rw[arm (by omega)] at hu;exact (hS.y3.obj i o u J hu).frozen ah g4.le yA
    ·rw[uj,arH] at h;obtain ⟨q,aJ,rfl⟩:=atp.1 h;rw[bB.r6] at ah;cases ah
   ·have one:∀(i:Nat) (o:aL D),(qy X p aZ cX cN (eX _ y))[i]? =aqV o->o.live=aqW->(i<cX.length/\∃j,qh aZ i=aqV j/\j<ff p.ins)\/cX.length<=i:=by
     intro i o ai ah;rcases kz i o ai ah with ⟨j,ap,_⟩|⟨e8,_⟩
     ·have ay:=zn ap;obtain ⟨k0,cm,w,cw⟩:=hS.uf.get j i ay;exact .inl ⟨(aq5.1 cw).1,j,ap,by have:=(aq5.1 ay).1;omega⟩
     ·exact .inr e8
    rcases one i o dY Mb with ⟨c0,a2,a3,a4⟩|c0
    ·rcases one j q av Fx with ⟨e6,gj,mV,qA⟩|e6
     ·simp only[if_pos c0,if_pos e6,a3,mV,asm] at cY;subst cY;have s1:=zn a3;have s2:=zn mV;rw[s1] at s2;exact arr.inj s2
     ·have aa:¬j<cX.length:=by omega
      simp only[if_pos c0,if_neg aa,a3,asm] at cY;omega
    ·have aq:¬i<cX.length:=by omega
     rcases one j q av Fx with ⟨e6,gj,mV,qA⟩|e6
     ·simp only[if_neg aq,if_pos e6,mV,asm] at cY;omega
     ·have aa:¬j<cX.length:=by omega
      simp only[if_neg aq,if_neg aa] at cY;omega
  ·intro q aJ;unfold Ba at aJ;rcases arj.1 aJ with aJ|aJ
   ·obtain ⟨d,c,a,aB,ab⟩:=zB aJ;have:=g6 q (arj.2 (.inl aJ));rw[ab] at this⊢;exact fs.MX (as1.1 (arc.1 (arc.1 hk.1.1 cN g1) _ aB)).1 this
   ·rcases arj.1 aJ with aJ|aJ
    ·obtain ⟨iY,tR,rfl⟩:=arf.1 aJ;have:=g6 iY (arj.2 (.inr tR));obtain ⟨s1,_⟩:=XG (arc.1 (arc.1 hk.2.1 cN g1) iY tR);exact PS s1 this fun j u _ hu=>nZ j u hu
    ·obtain ⟨d,aB,rfl⟩:=arf.1 aJ;have hw:=arc.1 hk.2.2 d aB;have:=Fu d (by simpa using hw);show rel X.G z2 (vs++dd) (eg E d) (eV d);rw[this];exact rel.mono (aT d) (i2.le.trans g4.le) yA
 ·cases an
theorem nI.F5 {B:Code} {p:gh D} {F:p.F} (h:nI X B p F) (hk:p.oN B=aqW) {af:Type} (E:List (Nat×aQ D)) (O:List (aL D)) (K:dX->List (Nat×aQ D)->List (aL D)->Option af) (r:af) {z:Nat->a6} {e m:Mem} {k:Option Nat} {vs:List aqX} {fr:Nat->aqX}
  (aw:bm X.G O z e m k vs) (aT:eA X z vs E fr) (an:p.Ac X F E O K=aqV r):W P (sub B p.path) (fun x=>hy X O z e k vs (K x) r) fr m:=
 rq.F5 (qv:=id) h hk E O K r aw aT an
theorem rq.zb {qv:dX->dX} {B:Code} {p:gh D} {F:p.F} (h:rq qv X B p F) (hk:p.oN B=aqW) {af:Type} (E:List (Nat×aQ D)) (O:List (aL D)) (K:dX->List (Nat×aQ D)->List (aL D)->Option af) (r:af) {z:Nat->a6} {e m:Mem} {k:Option Nat} {vs:List aqX} {fr:Nat->aqX}
  (aw:bm X.G O z e m k vs) (aT:eA X z vs E fr) (an:p.run X F E O K=aqV r):W P (sub B p.path) (fun x=>hy X O z e k vs (K (qv x)) r) fr m:=by
 obtain ⟨vs',g1,g2,g3,g4⟩:=lD (aE:=p.ins) aw aT;exact (h.F5 hk _ _ K r g3 g4 an).mono fun _ _ _ ar=>ar.from g1 (cT.refl z) g2
theorem nI.zb {B:Code} {p:gh D} {F:p.F} (h:nI X B p F) (hk:p.oN B=aqW):pG X B (p.zb X F):=by
 intro af E O K r z e m k vs fr _ aw aT an;obtain ⟨vs',g1,g2,g3,g4⟩:=lD (aE:=p.ins) aw aT;exact (h.F5 hk _ _ K r g3 g4 an).mono fun _ _ _ ar=>ar.from g1 (cT.refl z) g2
end
end
end Go.aS
end
section
namespace Go.aS
structure b4 (D:Nat->Type) where
 f:Nat
 nr:Nat
 ins:List dk
 eE:List (Nat×aQ D)
 h9:Option (Nat×Nat)
 qk:Nat
 outs:List dk
 lx:List (Nat×aQ D)
 nC:List ResultVar
 flat:Bool
def oL:Nat:=1000000
def lI:Nat->List ResultVar->List Nat
 |_,[]=>[]
 |n, .tmp d::rs=>d::lI (n+1) rs
 |n, .cell _ _::rs=>n::lI (n+1) rs
def b4.ch {D:Nat->Type} (d:b4 D):List Nat:=lI oL d.nC
noncomputable section
section
variable {P:aq1} {D:Nat->Type}
def PY (P:aq1) (t:Nat) (a:aQ D) (O:List (aL D)):Option (aQ D):=
 match a with
 | .box i off=>
  match O[i]? with
  |some (.box _ cs _ _)=>pq (P:=P) t cs off aqV
  |some (.recv _ cs _)=>pq (P:=P) t cs off aqV
  |_=>aqY
 |_=>aqY
def xw (P:aq1) (E:List (Nat×aQ D)) (O:List (aL D)):Nat->List ResultVar->Option (List (Nat×aQ D))
 |_,[]=>aqV []
 |n, .tmp d::rs=>if ass d oL=aqW then xw P E O (n+1) rs else aqY
 |n, .cell a t::rs=>match PY P t (eg E a) O,xw P E O (n+1) rs with|some V,aqV l=>aqV ((n,V)::l)|_,_=>aqY
def s6 (D:Nat->Type):Option (Nat×Nat)->Type
 |none=>Unit
 |some p=>D p.2
def b4.F (d:b4 D):Type:=s6 D d.h9->ew D d.ins->Option (k1 D d.outs)
variable (X:dB P D)
def pt:(c:Option (Nat×Nat))->s6 D c->List (aL D)
 |none,_=>[]
 |some p,x=>[.recv p.2 (hN X p.2 x) aqZ]
def DI:Option (Nat×Nat)->List (Nat×aQ D)
 |none=>[]
 |some p=>[(p.1, .box 0 0)]
def xt (d:b4 D):List Nat:=match d.h9 with|none=>[]|some _=>[d.qk]
def b4.cN (d:b4 D):kK D:=⟨.ret,d.outs,d.lx⟩
def Zv (d:b4 D) (ex:dX) (E:List (Nat×aQ D)) (O:List (aL D)):Option (k1 D d.outs):=
 if ex= .normal\/ex= .ret then aq0 (xw P E O oL d.nC) fun l=>z7 X (xt d).length (xt d) d.cN (l++E) O else aqY
def k5:Nat->List (aQ D)->List (Nat×aQ D)
 |_,[]=>[]
 |i,s::l=>(i,s)::k5 (i+1) l
def ID (E:List (Nat×aQ D)):List Nat->Option (List (bJ D⊕(Nat×List (bJ D))))
 |[]=>aqV []
 |d::ds=>
  match eg E d,ID E ds with
  | .c c,aqV l=>aqV (.inl c::l)
  | .agg t cs,aqV l=>aqV (.inr (t,cs)::l)
  |_,_=>aqY
def DL (E:List (Nat×aQ D)):List Nat->Option (aQ D)
 |[d]=>aqV (eg E d)
 |ds=>match ID E ds with|some l=>aqV (.mL l)|none=>aqY
def Dm:bJ D->Option aqX
 | .int k n=>aqV (.int k n)
 | .bool b=>aqV (.bool b)
 | .str s=>aqV (aS.str s)
 |_=>aqY
def w0:List (bJ D)->Option (List aqX)
 |[]=>aqV []
 |c::cs=>match Dm c,w0 cs with|some v,aqV l=>aqV (v::l)|_,_=>aqY
def sC:List (bJ D⊕(Nat×List (bJ D)))->Option (List aqX)
 |[]=>aqV []
 | .inl c::l=>(match Dm c,sC l with|some v,aqV vs=>aqV (v::vs)|_,_=>aqY)
 | .inr p::l=>(match w0 p.2,sC l with|some ds,aqV vs=>aqV (.agg ds.toArray::vs)|_,_=>aqY)
def Dh:aQ D->Option aqX
 | .c c=>Dm c
 | .agg _ cs=>(match w0 cs with|some ds=>aqV (.agg ds.toArray)|none=>aqY)
 | .mL l=>(match sC l with|some vs=>aqV (.tuple vs.toArray)|none=>aqY)
 |_=>aqY
def z6 (t:Nat):Option (aL D)->Option (D t)
 |some (.box c7 cs aqZ _)=>if c7=t then k2 X t cs else aqY
 |some (.recv c7 cs _)=>if c7=t then k2 X t cs else aqY
 |_=>aqY
def DJ (t:Nat) (cs:List (bJ D)):aL D->aL D
 | .box _ _ _ _=> .box t cs aqZ aqW
 |_=> .recv t cs aqW
def q9:List dk->Bool
 |[]=>aqW
 | .o _ (.recv _)::_=>aqZ
 | .o _ _::aE=>q9 aE
 | .v _ c::aE=>c.y5&&q9 aE
 | .u _ _::aE=>q9 aE
def wo (i N j:Nat):Nat:=if ard j 0=aqW then i else N+(j - 1)
def Dc (outs:List dk) (lx:List (Nat×aQ D)) (ch:List Nat) (flat:Bool) (qk:Nat) (bN:List (aQ D)) (O bL:List (aL D)) {af:Type} (K:aQ D->List (aL D)->Option af):(h9:Option (Nat×Nat))->(s6 D h9->Option (k1 D outs))->Option af
 |none,G=>
  aq0 (G ()) fun y=>
   match DL (gv X outs (eX _ y)++lx.map fun q=>(q.1,xu (fun j=>bL.length+j) q.2)) ch with
   |some c3=>if flat=aqW then (match Dh c3 with|some _=>K c3 O|none=>aqY) else K c3 (bL++mkOr X (fun j=>bL.length+j) outs (eX _ y))
   |none=>aqY
 |some p,G=>
  match eg (k5 0 bN) p.1 with
  | .box i 0=>
   match bL[i]? with
   |some o=>
    aq0 (z6 X p.2 (aqV o)) fun r=>
    aq0 (G r) fun y=>
     match DL (gv X outs (eX _ y)++lx.map fun q=>(q.1,xu (wo i bL.length) q.2)) ch with
     |some c3=>
      if qk=2 then
       match iB X we outs (eX _ y) 0 with
       | .recv t cs _=>if t=p.2 then K c3 (bL.set i (DJ p.2 cs o)++mkOr X (wo i bL.length) outs (eX _ y)) else aqY
       |_=>aqY
      else if qk=1 then (if o.clean=aqW then K c3 (bL++mkOr X (wo i bL.length) outs (eX _ y)) else K c3 (bL.set i (DJ p.2 (hN X p.2 r) o)++mkOr X (wo i bL.length) outs (eX _ y))) else aqY
     |none=>aqY
   |none=>aqY
  |_=>aqY
def b4.call (d:b4 D) (F:d.F) (bN:List (aQ D)) (O:List (aL D)) {af:Type} (K:aQ D->List (aL D)->Option af):Option af:=
 if ard bN.length d.nr=aqW then
  match qD (k5 0 bN) d.ins O with
  |some (kP,bL)=>
   if (d.eE.all fun p=>vz [] p.2 (eg (k5 0 bN) p.1))=aqW then
    match gx X [] bL d.ins kP [] with
    |some x=>Dc X d.outs d.lx d.ch d.flat d.qk bN O bL K d.h9 fun r=>F r x
    |none=>aqY
   else aqY
  |none=>aqY
 else aqY
end
section
variable {P:aq1} {D:Nat->Type} {X:dB P D} {z cr z2:Nat->a6} {e m m1:Mem} {k q:Option Nat} {vs:List aqX} {fr:Nat->aqX} {E:List (Nat×aQ D)} {O bD:List (aL D)}
theorem bm.call (h:bm X.G O cr e m k vs) (aF:cT m.next cr z2) (s:e5 m m1 q) (aO:cL z2 e m1 k) (ah:bD.length=O.length)
  (ai:∀(j:Nat) (o':aL D),bD[j]? =aqV o'->(O[j]? =aqV o'/\(o'.live=aqW->∀v,vs[j]? =aqV v->ei (da v) q))\/(∃o,O[j]? =aqV o/\o.live=aqW/\∀v,vs[j]? =aqV v->fI X.G z2 e m1 k vs o' v)):bm X.G bD z2 e m1 k vs where
 aO:=aO
 len:=by rw[ah];exact h.len
 obj:=fun j o' v av ad=>by
  rcases ai j o' av with ⟨h1,J⟩|⟨o,h1,J,aj⟩
  ·have b0:=h.obj j o' v h1 ad;cases cC:o'.live with
   |false=>exact b0.frozen cC aF.le fun _ _ h=>h
   |true=>exact (b0.same s (fun _=>J cC v ad) fun _ _ h=>h).ic aF.le (fun _ b aa=>aF.low b (b0.lt cC b aa).1) fun _ b j L t aa=>aF.low b (h.aO.bg b (by rw[aa];simp)).2
  ·exact aj v ad
 eD:=fun a b o p v w eF aq aa fQ j0 ad hw=>by
  have key:∀(j:Nat) (o':aL D),bD[j]? =aqV o'->o'.live=aqW->∃o,O[j]? =aqV o/\o.live=aqW:=by
   intro j o' av ah;rcases ai j o' av with ⟨h1,_⟩|⟨o,h1,J,_⟩
   ·exact ⟨o',h1,ah⟩
   ·exact ⟨o,h1,J⟩
  obtain ⟨gm,g1,g2⟩:=key a o aq fQ;obtain ⟨gW,g3,g4⟩:=key b p aa j0;exact h.eD a b gm gW v w eF g1 g3 g2 g4 ad hw
theorem bm.aaz {N:List (aL D)} {dd:List aqX} {lim:Nat} (h:bm X.G O z e m k vs) (ah:dd.length=N.length)
  (aN:∀(j:Nat) (o:aL D) (v:aqX),O[j]? =aqV o->vs[j]? =aqV v->o.live=aqW->∀b,da v=aqV b->b<lim)
  (ar:∀(j:Nat) (o:aL D) (v:aqX),N[j]? =aqV o->dd[j]? =aqV v->fI X.G z e m k (vs++dd) o v/\∀b,da v=aqV b->lim<=b)
  (aq:∀(i j:Nat) (o p:aL D) (v w:aqX),i≠j->N[i]? =aqV o->N[j]? =aqV p->dd[i]? =aqV v->dd[j]? =aqV w->ei (da v) (da w)):bm X.G (O++N) z e m k (vs++dd):=by
 have cs:∀(j:Nat) (o:aL D) (v:aqX),(O++N)[j]? =aqV o->(vs++dd)[j]? =aqV v->(j<O.length/\O[j]? =aqV o/\vs[j]? =aqV v)\/(O.length<=j/\N[j - O.length]? =aqV o/\dd[j - O.length]? =aqV v):=by
  intro j o v ai ad;by_cases av:j<O.length
  ·rw[arm av] at ai;rw[arm (by rw[h.len];exact av)] at ad;exact .inl ⟨av,ai,ad⟩
  ·rw[arl (by omega)] at ai;rw[arl (by rw[h.len];omega),h.len] at ad;exact .inr ⟨by omega,ai,ad⟩
 refine ⟨h.aO,by rw[aro,aro,h.len,ah],fun j o v ai ad=> ?_,fun i j o p v w cY ai ap bG dg ad hw=> ?_⟩
 ·rcases cs j o v ai ad with ⟨_,h1,J⟩|⟨_,h1,J⟩
  ·exact (h.obj j o v h1 J).same (m':=m) (q:=aqY) ⟨aq9 _,h.aO.dead,fun _ _ _=>rfl⟩ (fun _=>ei.q0) iy
  ·exact (ar _ o v h1 J).1
 ·have mix:∀(i j:Nat) (o p:aL D) (v w:aqX),O[i]? =aqV o->vs[i]? =aqV v->o.live=aqW->N[j]? =aqV p->dd[j]? =aqV w->ei (da v) (da w):=by
   intro i j o p v w ai ad bG ap hw b aa cu;have:=aN i o v ai ad bG b aa;have:=(ar j p w ap hw).2 b cu;omega
  rcases cs i o v ai ad with ⟨_,h1,J⟩|⟨_,h1,J⟩
  ·rcases cs j p w ap hw with ⟨_,aj,aM⟩|⟨_,aj,aM⟩
   ·exact h.eD i j o p v w cY h1 aj bG dg J aM
   ·exact mix i _ o p v w h1 J bG aj aM
  ·rcases cs j p w ap hw with ⟨_,aj,aM⟩|⟨_,aj,aM⟩
   ·exact (mix j _ p o w v aj aM dg h1 J).symm
   ·exact aq _ _ o p v w (by omega) h1 aj J aM
theorem GM:∀{aE:List dk} {x:ew D aE} {q:xY D},q9 aE=aqW->q∈cos aE x->∀t,q.c≠ .recv t
 |[],_,_,_,h=>by simp[cos] at h
 | .v d c::aE,x,o,ar,h=>GM (aE:=aE) (x:=x.2) (as1.1 ar).2 h
 | .u d c::aE,x,o,ar,h=>GM (aE:=aE) (x:=x.2) ar h
 | .o d c::aE,x,o,ar,h=>by
  simp only[cos,arb] at h;have ln:(∀t,c≠ .recv t)/\q9 aE=aqW:=by
   cases c with
   |recv t=>cases ar
   |_=>exact ⟨fun t h=>(by cases h),ar⟩
  rcases h with rfl|h
  ·exact ln.1
  ·exact GM (aE:=aE) (x:=x.2) ln.2 h
theorem born {c:bB} {x:c.ty D} {w:Bool} {v:aqX} {kk:Option Nat} {bY:Nat->Nat} (ab:∀t,c≠ .recv t) (he:e.next<=m.next) (h:fI X.G z m m1 kk vs (bB.fe X bY c x w) v):fI X.G z e m1 k vs (bB.fe X bY c x w) v/\∀b,da v=aqV b->m.next<=b:=by
 cases c with
 |recv t=>exact absurd rfl (ab t)
 |eQ t l=>obtain ⟨b,ds,rfl,h1,J,aj⟩:=h;exact ⟨⟨b,ds,rfl,⟨h1.aG,h1.lt,h1.dead, .inl (arq he J)⟩,arq he J,aj⟩,fun c ab=>by cases ab;exact J⟩
 |j9 t f is=>obtain ⟨b,ds,rfl,h1,J,aj⟩:=h;exact ⟨⟨b,ds,rfl,⟨h1.aG,h1.lt,h1.dead, .inl (arq he J)⟩,arq he J,aj⟩,fun c ab=>by cases ab;exact J⟩
 |az t=>have h:c6 (X.G.T t) z m m1 kk x v:=h;refine ⟨(⟨h.bf,fun b aa=>arq he (h.fresh b aa)⟩:c6 (X.G.T t) z e m1 k x v), ?_⟩;rw[fM (by obtain ⟨a,c,rfl⟩:=h.bf.len;intro r;simp)];exact h.fresh
 |box t=>obtain ⟨b,ds,rfl,h1,J,aj⟩:=h;exact ⟨⟨b,ds,rfl,⟨h1.aG,h1.lt,h1.dead, .inl (arq he J)⟩,arq he J,aj⟩,fun c ab=>by cases ab;exact J⟩
 |eZ t u n=>obtain ⟨⟨b,rfl⟩,h⟩:=h;exact ⟨⟨⟨b,rfl⟩,h.bf,fun b aa=>arq he (h.fresh b aa)⟩,fun c ab=>h.fresh c ab⟩
 |map t kt vt=>have h:h2 (X.G.M t kt vt) z m m1 kk x v:=h;obtain ⟨r,rfl,h1,J,aj,aM⟩:=h.bf;exact ⟨(⟨⟨r,rfl,h1,J,aj,arq he aM⟩⟩:h2 (X.G.M t kt vt) z e m1 k x _),fun c ab=>by cases ab;exact aM⟩
 |ne dt t=>obtain ⟨hu,ws,h⟩:=h;refine ⟨⟨hu,ws,⟨h.bf.bf,fun b aa=>arq he (h.bf.fresh b aa)⟩,h.len,fun j w xs h1 J aj=>(h.nn j w xs h1 J aj).EF he,fun p ap=>by cases ap⟩, ?_⟩;rw[fM (by obtain ⟨a,c,rfl⟩:=h.bf.bf.len;intro r;simp)];exact h.bf.fresh
theorem O6:∀{ch:List Nat} {l:List (bJ D⊕(Nat×List (bJ D)))},eA X z vs E fr->ID E ch=aqV l->ba (u1 X.G z vs) l (ch.map fr)/\∀x∈ch.map fr,storable x=aqW
 |[],l,aT,h=>by cases h;exact ⟨trivial,by simp⟩
 |d::ds,l,aT,h=>by
  simp only[ID] at h;have aB:=aT d;split at h
  ·rename_i c p1 ab ah;cases h;rw[ab] at aB;obtain ⟨g1,g2⟩:=O6 aT ah;refine ⟨⟨aB,g1⟩,fun x U=> ?_⟩;rcases arb.1 U with rfl|U
   ·exact (dj.ZB aB).1
   ·exact g2 x U
  ·rename_i t cs p1 ab ah;cases h;rw[ab] at aB;obtain ⟨g1,g2⟩:=O6 aT ah;refine ⟨⟨aB,g1⟩,fun x U=> ?_⟩;rcases arb.1 U with rfl|U
   ·obtain ⟨ds,aB,_⟩:=aB;rw[aB];rfl
   ·exact g2 x U
  ·cases h
theorem OY {ch:List Nat} {c3:aQ D} (aT:eA X z vs E fr) (h:DL E ch=aqV c3):rel X.G z vs c3 (pack (ch.map fr))/\((ch.map fr).length=1\/∀x∈ch.map fr,storable x=aqW):=by
 unfold DL at h;split at h
 ·cases h;exact ⟨aT _, .inl rfl⟩
 ·rename_i ds kT;split at h
  ·rename_i l ah;cases h;obtain ⟨g1,g2⟩:=O6 aT ah;refine ⟨?_, .inr g2⟩;have:pack (ch.map fr)= .tuple (ch.map fr).toArray:=by
    unfold pack;split
    ·rename_i x U
     match ch,kT,U with
     |[d],kT,_=>exact absurd rfl (kT d)
    ·rfl
   rw[this];exact ⟨_,rfl,g1⟩
  ·cases h
theorem Om {c:bJ D} {v w:aqX} (h:Dm c=aqV w) (an:dj X.G z vs c v):v=w/\cx w=aqW:=by
 cases c<;>first|(cases h;done)|(cases h;exact ⟨an,rfl⟩)
theorem On:∀{cs:List (bJ D)} {ds ws:List aqX},w0 cs=aqV ws->ba (dj X.G z vs) cs ds->ds=ws/\ws.all cx=aqW
 |[],[],_,h,_=>by cases h;exact ⟨rfl,rfl⟩
 |c::cs,d::ds,ws,h,⟨h1,J⟩=>by
  simp only[w0] at h;split at h
  ·rename_i v l ad ah;cases h;obtain ⟨rfl,g1⟩:=Om ad h1;obtain ⟨rfl,g2⟩:=On ah J;exact ⟨rfl,by simp only[arR,g1,g2,asG]⟩
  ·cases h
 |[],_::_,_,_,h=>h.elim
 |_::_,[],_,_,h=>h.elim
theorem Oo:∀{l:List (bJ D⊕(Nat×List (bJ D)))} {ds ws:List aqX},sC l=aqV ws->ba (u1 X.G z vs) l ds->ds=ws/\ws.all iA=aqW
 |[],[],_,h,_=>by cases h;exact ⟨rfl,rfl⟩
 | .inl c::l,d::ds,ws,h,⟨h1,J⟩=>by
  simp only[sC] at h;split at h
  ·rename_i v p1 ad ah;cases h;obtain ⟨rfl,g1⟩:=Om ad h1;obtain ⟨rfl,g2⟩:=Oo ah J;have:iA d=aqW:=by cases d<;>first|exact g1|cases g1
   exact ⟨rfl,by simp only[arR,this,g2,asG]⟩
  ·cases h
 | .inr p::l,d::ds,ws,h,⟨⟨cs,aI,h1⟩,J⟩=>by
  simp only[sC] at h;split at h
  ·rename_i v p1 ad ah;cases h;obtain ⟨rfl,g1⟩:=On ad h1;obtain ⟨rfl,g2⟩:=Oo ah J;subst aI;exact ⟨rfl,by simp only[arR,g2,Bool.and_true];exact g1⟩
  ·cases h
 |[],_::_,_,_,h=>h.elim
 |_::_,[],_,_,h=>h.elim
theorem afT {s:aQ D} {v w:aqX} (h:Dh s=aqV w) (an:rel X.G z vs s v):v=w/\aS.flat w=aqW:=by
 unfold Dh at h;split at h
 ·obtain ⟨rfl,g⟩:=Om h an;refine ⟨rfl, ?_⟩;cases v<;>first|exact g|cases g
 ·split at h
  ·rename_i ds aB;cases h;obtain ⟨es,rfl,J⟩:=an;obtain ⟨rfl,g⟩:=On aB J;exact ⟨rfl,g⟩
  ·cases h
 ·split at h
  ·rename_i ws aB;cases h;obtain ⟨es,rfl,J⟩:=an;obtain ⟨rfl,g⟩:=Oo aB J;exact ⟨rfl,g⟩
  ·cases h
 ·cases h
def Qq:Option (Nat×Nat)->List dk
 |none=>[]
 |some p=>[.o p.1 (.recv p.2)]
def Zu:(c:Option (Nat×Nat))->s6 D c->ew D (Qq c)
 |none,_=>()
 |some _,r=>(r,())
theorem amL (c:Option (Nat×Nat)) (r:s6 D c):dL X (Qq c) (Zu c r)=pt X c r:=by cases c<;>rfl
theorem ajt {c:Option (Nat×Nat)} {r:s6 D c} {n:Nat}:(match c with|none=>[]|some _=>[n]).length=(pt X c r).length:=by cases c<;>rfl
theorem ahL {d:b4 D} {r:s6 D d.h9}:(pt X d.h9 r).length=(xt d).length:=by
 unfold xt;rw[<-ajt (X:=X) (r:=r) (n:=d.qk)]
def alO (X:dB P D) (d:b4 D) (r:s6 D d.h9) (y:k1 D d.outs) (z:Nat->a6) (m:Mem) (kk:Option Nat) (b7:List aqX) (ex:dX) (fr':Nat->aqX) (m1:Mem):Prop:=
 (ex= .normal\/ex= .ret)/\∃fx,pf P fr' m1 d.nC (d.ch.map fx)/\∃z2 dd,cT m.next z z2/\bm X.G (jF X (xt d) (pt X d.h9 r) d.outs (eX _ y)) z2 m m1 kk (b7++dd)/\∀q∈gv X d.outs (eX _ y)++d.lx,rel X.G z2 (b7++dd) q.2 (fx q.1)
def Ei (X:dB P D) (B:Code) (d:b4 D) (F:d.F):Prop:=∀(r:s6 D d.h9) (x:ew D d.ins) (y:k1 D d.outs) {z:Nat->a6} {m:Mem} {kk:Option Nat} {b7:List aqX} {fr:Nat->aqX},
 F r x=aqV y->bm X.G (pt X d.h9 r) z m m kk b7->eA X z b7 (gv X d.ins x++(d.eE++DI d.h9)) fr->W P B (alO X d r y z m kk b7) fr m
theorem agL {t:Nat} {a:aQ D} {V:aQ D} {v:aqX} (aw:bm X.G O z e m k vs) (aq:rel X.G z vs a v) (h:PY P t a O=aqV V):∃b off w,v= .pointer (aqV ⟨b,off,aqY⟩)/\rel X.G z vs V w/\∃d,P.underlying t=aqV d/\
  (if jL d=aqW then ∃i cs,P.info? t=aqV i/\jH m b off i.size=aqV cs/\w= .agg cs.toArray else m.load b off=aqV w):=by
 have fin:∀{b n:Nat} {cs:List (bJ D)} {ds:List aqX},(∀(j:Nat) (w:aqX),ds[j]? =aqV w->m.load b (0+j)=aqV w)->ba (dj X.G z vs) cs ds->pq (P:=P) t cs n aqV=aqV V->∃w,rel X.G z vs V w/\∃d,P.underlying t=aqV d/\(if jL d=aqW then ∃i cs,P.info? t=aqV i/\jH m b n i.size=aqV cs/\w= .agg cs.toArray else m.load b n=aqV w):=by
  intro b n cs ds ab an h;unfold pq at h;split at h
  ·cases h
  ·rename_i d aB;split at h
   ·rename_i vE;split at h
    ·cases h
    ·rename_i i ae;split at h
     ·rename_i hlen;cases h;have nj:ba (dj X.G z vs) ((cs.drop n).take i.size) ((ds.drop n).take i.size):=ba.take _ (ba.drop _ an);have gl:((ds.drop n).take i.size).length=i.size:=by rw[<-nj.length];exact hlen
      refine ⟨.agg ((ds.drop n).take i.size).toArray,⟨_,rfl,nj⟩,d,aB, ?_⟩;rw[if_pos vE];refine ⟨i,_,ae,Hj _ _ _ gl fun j w av=> ?_,rfl⟩;rw[List.getElem?_take] at av;split at av
      ·rw[List.getElem?_drop] at av;have:=ab _ w av
       rwa [arh] at this
      ·cases av
     ·cases h
   ·rename_i vE;split at h
    ·rename_i c hC;cases h;obtain ⟨w,hw,yR⟩:=an.get n c hC;refine ⟨w,yR,d,aB, ?_⟩;rw[if_neg vE];have:=ab n w hw
     rwa [arh] at this
    ·cases h
 unfold PY at h;split at h
 ·rename_i i off;obtain ⟨b,ad,U⟩:=aq;split at h
  ·rename_i u cs bg cO hO;have b0:=aw.obj i _ _ hO ad;cases bg with
   |true=>obtain ⟨b6,ds,he,ab,an⟩:=b0;cases he;obtain ⟨w,h1,J⟩:=fin (b:=b) (aw.aO.r5 ab) an h;exact ⟨b,off,w,U,h1,J⟩
   |false=>obtain ⟨b6,ds,he,aa,_,an⟩:=b0;cases he;obtain ⟨w,h1,J⟩:=fin (b:=b) aa.r5 an h;exact ⟨b,off,w,U,h1,J⟩
  ·rename_i u cs cO hO;obtain ⟨b6,ds,he,aa,an⟩:=aw.obj i _ _ hO ad;cases he;obtain ⟨w,h1,J⟩:=fin (b:=b) aa.r5 an h;exact ⟨b,off,w,U,h1,J⟩
  ·cases h
 ·cases h
theorem Pu:∀{rs:List ResultVar} {n:Nat} {l:List (Nat×aQ D)},xw P E O n rs=aqV l->∀x∈lI n rs,x<oL\/n<=x
 |[],n,l,_,x,U=>by simp[lI] at U
 | .tmp d::rs,n,l,h,x,U=>by
  obtain ⟨h1,J⟩:=eW h;simp only[lI,arb] at U;rcases U with rfl|U
  ·exact .inl (by simpa[atq] using h1)
  ·rcases Pu J x U with h|h
   ·exact .inl h
   ·exact .inr (by omega)
 | .cell a t::rs,n,l,h,x,U=>by
  simp only[xw] at h;split at h
  ·rename_i V kD _ J;simp only[lI,arb] at U;rcases U with rfl|U
   ·exact .inr (aq9 _)
   ·rcases Pu J x U with h|h
    ·exact .inl h
    ·exact .inr (by omega)
  ·cases h
theorem Pv (aw:bm X.G O z e m k vs) (aT:eA X z vs E fr):∀{rs:List ResultVar} {n:Nat} {l:List (Nat×aQ D)},oL<=n->xw P E O n rs=aqV l->∃fx,(∀d,d<n->fx d=fr d)/\eA X z vs (l++E) fx/\pf P fr m rs ((lI n rs).map fx)
 |[],n,l,_,h=>by cases h;exact ⟨fr,fun _ _=>rfl,aT,trivial⟩
 | .tmp d::rs,n,l,ar,h=>by
  obtain ⟨h1,J⟩:=eW h;have aB:d<oL:=by simpa[atq] using h1
  obtain ⟨fx,g1,g2,g3⟩:=Pv aw aT (Nat.le_succ_of_le ar) J;exact ⟨fx,fun d aB=>g1 d (atk aB),g2,g1 d (atk (aru aB ar)),g3⟩
 | .cell a t::rs,n,l,ar,h=>by
  simp only[xw] at h;split at h
  ·rename_i V kD h1 J;cases h;obtain ⟨fx,g1,g2,g3⟩:=Pv aw aT (Nat.le_succ_of_le ar) J;obtain ⟨b,off,w,cO,fo,qo⟩:=agL aw (aT a) h1;refine ⟨fun i=>if i=n then w else fx i,fun d aB=> ?_,fun i=> ?_, ?_⟩
   ·show (if d=n then w else fx d)=fr d;rw[if_neg (by omega)];exact g1 d (by omega)
   ·show rel X.G z vs (eg ((n,V)::(kD++E)) i) (if i=n then w else fx i);simp only[eg];split
    ·rename_i ae;rw[if_pos (arA ae).symm];exact fo
    ·rename_i ae;rw[if_neg (by rintro rfl;simp at ae)];exact g2 i
   ·have hm:(lI (n+1) rs).map (fun i=>if i=n then w else fx i)=(lI (n+1) rs).map fx:=by
     apply List.map_congr_left;intro x U;rw[if_neg];rintro rfl;rcases Pu J _ U with h|h<;>omega
    refine ⟨⟨b,off,cO, ?_⟩, ?_⟩
    ·show ∃d,_;simp only[if_true];exact qo
    ·show pf P fr m rs ((lI (n+1) rs).map _);rw[hm];exact g3
  ·cases h
theorem Ei.of (bW:fS X) {B:Code} {us:List (k9 D)} {d:b4 D} {F:d.F} (r0:∀u∈us,0<u.path.length->pG X B u)
  (dn:∀r x,hT X us calm aqW [] B (gv X d.ins x++(d.eE++DI d.h9)) (pt X d.h9 r) (Zv X d)=F r x):Ei X B d F:=by
 intro r x y z m kk b7 fr cB aw aT;have h:=dn r x;rw[cB] at h;refine (zH bW (L:=0) r0 B aqW [] _ _ _ y (pj B) (by simp) (by simp) aw aT h).mono ?_;rintro ex eV m1 ⟨cr,jb,jI,bL,aI,h1,J,aj,aM,bq⟩;obtain ⟨U,bq⟩:=eW bq;obtain ⟨l,fl,dv⟩:=bind_some bq;obtain ⟨fx,cm,cw,dW⟩:=Pv aj aM (aq9 _) fl;have ah:(xt d).length=b7.length:=by rw[aw.len,ahL]
 rw[ah] at dv;have an:=amL (X:=X) d.h9 r;obtain ⟨z2,dd,bs,bC,cQ⟩:=C0 (ks:=xt d) (ins:=Qq d.h9) (x:=Zu d.h9 r) (cN:=d.cN) (by rw[an];exact aI) J (by rw[an];exact aw.len) aj cw dv;rw[an] at bC;exact ⟨U,fx,dW,z2,dd,h1.trans bs,bC,cQ⟩
end
end
end Go.aS
end
section
namespace Go.aS
noncomputable section
section
variable {P:aq1} {D:Nat->Type} {X:dB P D} {z cr z2:Nat->a6} {e m m1:Mem} {k q:Option Nat} {vs:List aqX} {fr:Nat->aqX} {E:List (Nat×aQ D)} {O bD:List (aL D)} {af:Type} {r:af}
theorem Oj:∀{l:List (aQ D)} {args:List aqX} {i:Nat},ba (rel X.G z vs) l args->(∀(j:Nat) (v:aqX),args[j]? =aqV v->fr (i+j)=v)->eA X z vs (k5 i l) fr
 |[],[],i,_,_=>fun d=>trivial
 |s::l,a::args,i,⟨h1,J⟩,aP=>by
  refine (Oj (i:=i+1) J fun j v av=> ?_).cons ?_
  ·rw[show i+1+j=i+(j+1) by omega];exact aP (j+1) v av
  ·have:=aP 0 a rfl;rw[arJ] at this;rw[this];exact h1
 |[],_::_,_,h,_=>h.elim
 |_::_,[],_,h,_=>h.elim
structure Jf (P:aq1) (X:dB P D) (d:b4 D) (F:d.F):Prop where
 ex:∃fn c,P.funcs[d.f]? =aqV fn/\fn.body=aqV c/\mA P d.f=aqW/\arz d.nr fn.ntmps=aqW/\fn.results.toList=d.nC/\Ei X c d F
 new:q9 d.outs=aqW
 aqE:(d.eE.all fun p=>sz p.2)=aqW
 anv:(d.lx.all fun p=>sz p.2)=aqW
 anx:(d.eE.all fun p=>(DK p.2).isNone)=aqW
theorem NB {c:bJ D} {w:aqX} (h:Dm c=aqV w):dj X.G z vs c w/\cx w=aqW/\iA w=aqW/\aS.flat w=aqW:=by
 cases c<;>first|(cases h;done)|(cases h;exact ⟨rfl,rfl,rfl,rfl⟩)
theorem NC:∀{cs:List (bJ D)} {ws:List aqX},w0 cs=aqV ws->ba (dj X.G z vs) cs ws/\ws.all cx=aqW
 |[],_,h=>by cases h;exact ⟨trivial,rfl⟩
 |c::cs,ws,h=>by
  simp only[w0] at h;split at h
  ·rename_i v l ad ah;cases h;obtain ⟨g1,g2,_⟩:=NB (X:=X) (z:=z) (vs:=vs) ad;obtain ⟨g3,g4⟩:=NC ah;exact ⟨⟨g1,g3⟩,by simp only[arR,g2,g4,asG]⟩
  ·cases h
theorem ND:∀{l:List (bJ D⊕(Nat×List (bJ D)))} {ws:List aqX},sC l=aqV ws->ba (u1 X.G z vs) l ws/\ws.all iA=aqW
 |[],_,h=>by cases h;exact ⟨trivial,rfl⟩
 | .inl c::l,ws,h=>by
  simp only[sC] at h;split at h
  ·rename_i v p1 ad ah;cases h;obtain ⟨g1,_,g2,_⟩:=NB (X:=X) (z:=z) (vs:=vs) ad;obtain ⟨g3,g4⟩:=ND ah;exact ⟨⟨g1,g3⟩,by simp only[arR,g2,g4,asG]⟩
  ·cases h
 | .inr p::l,ws,h=>by
  simp only[sC] at h;split at h
  ·rename_i v p1 ad ah;cases h;obtain ⟨g1,g2⟩:=NC (X:=X) (z:=z) (vs:=vs) ad;obtain ⟨g3,g4⟩:=ND ah;exact ⟨⟨⟨v,rfl,g1⟩,g3⟩,by simp only[arR,g4,Bool.and_true];exact g2⟩
  ·cases h
theorem ae9 {s:aQ D} {w:aqX} (h:Dh s=aqV w):rel X.G z vs s w/\aS.flat w=aqW:=by
 unfold Dh at h;split at h
 ·obtain ⟨g1,_,_,g2⟩:=NB (X:=X) (z:=z) (vs:=vs) h;exact ⟨g1,g2⟩
 ·split at h
  ·rename_i ds aB;cases h;obtain ⟨g1,g2⟩:=NC (X:=X) (z:=z) (vs:=vs) aB;exact ⟨⟨ds,rfl,g1⟩,g2⟩
  ·cases h
 ·split at h
  ·rename_i ws aB;cases h;obtain ⟨g1,g2⟩:=ND (X:=X) (z:=z) (vs:=vs) aB;exact ⟨⟨ws,rfl,g1⟩,g2⟩
  ·cases h
 ·cases h
theorem Inv.app (O N:List (aL D)):Inv O (O++N):=⟨by simp,fun i p ae ap _ _=>by rw[arm ae] at ap;exact ap⟩
theorem bm.nil (aw:bm X.G O z e m k vs):bm X.G ([]:List (aL D)) z m m aqY []:=⟨cL.start aw.aO.bg aw.aO.dead,rfl,by simp,by simp⟩
theorem X6 {kk:Option Nat} (h:cL cr e m k) (J:cL z2 m m1 kk) (hk:∀b,kk=aqV b->e.next<=b\/k=aqV b):cL z2 e m1 k/\e5 m m1 kk:=
 ⟨⟨J.bg,J.dead,h.lR,arq h.next J.next,fun b aa ar=>by
  rw[J.kept b (aru aa h.next) (fun ax=>by rcases hk b ax with aj|aj;omega;exact ar aj)];exact h.kept b aa ar⟩,⟨J.next,J.dead,J.kept⟩⟩
theorem Xf {ins:List dk} {eE:List (Nat×aQ D)} {bN kP:List (aQ D)} {bL:List (aL D)} {x:ew D ins} {b7:List aqX} (aT:eA X z vs (k5 0 bN) fr) (aq:xW X z vs fr ins kP) (aa:gx X [] bL ins kP []=aqV x)
  (U:(eE.all fun p=>vz [] p.2 (eg (k5 0 bN) p.1))=aqW):∀p∈gv X ins x++eE,rel X.G z b7 p.2 (fr p.1):=by
 intro p ap;rcases arj.1 ap with ap|ap
 ·exact zM (fun j i u av _=>by simp at av) aa aq p ap
 ·have ao:=arc.1 U p ap;have:=O7 (X:=X) (vs':=b7) id ao (aT p.1) (by simp)
  rwa [Hk] at this
theorem after {outs:List dk} {y:ew D outs} {lN:List (aL D)} {b7 dd:List aqX} {kk:Option Nat} {cX ru:List (aL D)} {bY:Nat->Nat} (h1:bm X.G cX cr e m k vs) (aj:bm X.G ru z2 e m1 k vs) (aI:bm X.G (lN++dL X outs y) z2 m m1 kk (b7++dd)) (ah:b7.length=lN.length) (ar:q9 outs=aqW)
  (aN:∀(j:Nat) (o:aL D) (v:aqX),ru[j]? =aqV o->vs[j]? =aqV v->o.live=aqW->∀b,da v=aqV b->b<m.next) (adG:∀(j:Nat) (u:aqX),(b7++dd)[j]? =aqV u->(vs++dd)[bY j]? =aqV u):bm X.G (ru++mkOr X bY outs y) z2 e m1 k (vs++dd):=by
 have hV:(dL X outs y).length=(mkOr X bY outs y).length:=by rw[k4,uj,arP,arP]
 have lW:dd.length=(dL X outs y).length:=by have:=aI.len;simp only[aro] at this;omega
 have up:∀(j:Nat) (o:aL D) (v:aqX),(mkOr X bY outs y)[j]? =aqV o->dd[j]? =aqV v->∃q∈cos outs y,o=bB.fe X bY q.c q.x aqZ/\(lN++dL X outs y)[lN.length+j]? =aqV (bB.mk X q.c q.x aqZ)/\(b7++dd)[lN.length+j]? =aqV v:=by
  intro j o v ai ad;rw[uj,arH] at ai;cases aJ:(cos outs y)[j]? with
  |none=>rw[aJ] at ai;cases ai
  |some q=>
   rw[aJ] at ai;cases ai;refine ⟨q,are aJ,rfl, ?_, ?_⟩
   ·rw[arl (by omega),show lN.length+j - lN.length=j by omega,k4,arH,aJ];rfl
   ·rw[arl (by omega),ah,show lN.length+j - lN.length=j by omega];exact ad
 refine aj.aaz (lW.trans hV) aN (fun j o v ai ad=> ?_) (fun i j o p v w cY ai ap ad hw=> ?_)
 ·obtain ⟨q,aJ,rfl,g1,g2⟩:=up j o v ai ad;have b0:=aI.obj _ _ v g1 g2;exact born (GM ar aJ) h1.aO.next (bB.y2 (me:=bY) (vs':=vs++dd) aqZ b0 fun n _ u hu=>adG n u hu)
 ·obtain ⟨q,aJ,rfl,g1,g2⟩:=up i o v ai ad;obtain ⟨dJ,B3,rfl,g3,g4⟩:=up j p w ap hw;exact aI.eD _ _ _ _ v w (by omega) g1 g3 bB.uc bB.uc g2 g4
theorem GN:∀{aE:List dk},q9 aE=aqW->∀d c,dk.v d c∈aE->c.y5=aqW
 | .v d c::aE,h,cD,bQ,hm=>by
  have h:=as1.1 h;rcases arb.1 hm with he|hm
  ·cases he;exact h.1
  ·exact GN (aE:=aE) h.2 cD bQ hm
 | .u d c::aE,h,cD,bQ,hm=>by
  rcases arb.1 hm with he|hm
  ·cases he
  ·exact GN (aE:=aE) h cD bQ hm
 | .o d c::aE,h,cD,bQ,hm=>by
  rcases arb.1 hm with he|hm
  ·cases he
  ·refine GN (aE:=aE) ?_ cD bQ hm;cases c<;>first|exact h|cases h
theorem Yo {outs:List dk} {y:ew D outs} {lx:List (Nat×aQ D)} {b7 jb:List aqX} {bY:Nat->Nat} (ar:q9 outs=aqW) (ai:(lx.all fun p=>sz p.2)=aqW) (h:∀q∈gv X outs y++lx,rel X.G z b7 q.2 (fr q.1)) (ad:∀(j:Nat) (u:aqX),b7[j]? =aqV u->jb[bY j]? =aqV u):
  eA X z jb (gv X outs y++lx.map fun q=>(q.1,xu bY q.2)) fr:=by
 refine Di fun q aJ=> ?_;rcases arj.1 aJ with aJ|aJ
 ·obtain ⟨d,c,a,aB,ab⟩:=zB aJ;have:=h q (arj.2 (.inl aJ));rw[ab] at this⊢;exact fs.MX (GN ar d c aB) this
 ·obtain ⟨iY,tR,rfl⟩:=arf.1 aJ;exact PS (arc.1 ai iY tR) (h iY (arj.2 (.inr tR))) fun j u _ hu=>ad j u hu
theorem ahJ {t b:Nat} {o:aL D} {x:D t} (aH:z6 X t (aqV o)=aqV x) (ai:fI X.G z e m k vs o (.pointer (aqV ⟨b,0,aqY⟩))):
  o.live=aqW/\(e.next<=b\/k=aqV b)/\(∀vs',fI X.G z m m (aqV b) vs' (.recv t (hN X t x) aqZ:aL D) (.pointer (aqV ⟨b,0,aqY⟩)))/\
  (∀{z2:Nat->a6} {m1:Mem} {w:Bool} {a:D t} {ws:List aqX},fI X.G z2 m m1 (aqV b) ws (.recv t (hN X t a) w:aL D) (.pointer (aqV ⟨b,0,aqY⟩))->fI X.G z2 e m1 k vs (DJ t (hN X t a) o) (.pointer (aqV ⟨b,0,aqY⟩))/\(o.clean=aqW->a=x->fI X.G z2 e m1 k vs o (.pointer (aqV ⟨b,0,aqY⟩)))):=by
 unfold z6 at aH;split at aH
 ·rename_i c7 cs w dn;cases dn;obtain ⟨ao,aH⟩:=eW aH;subst ao;obtain ⟨c,ds,h1,J,aj,aM⟩:=ai;cases h1;refine ⟨rfl, .inl aj,fun vs'=>⟨b,ds,rfl,⟨J.aG,J.lt,J.dead, .inr rfl⟩,uF aH aM⟩, ?_⟩;intro z2 m1 w a ws an;obtain ⟨c,mX,g1,g2,g3⟩:=an;cases g1;refine ⟨⟨b,mX,rfl,⟨g2.aG,g2.lt,g2.dead, .inl aj⟩,aj,sq g3⟩,fun ab aq=> ?_⟩;subst aq;rw[HO aH ab];exact ⟨b,mX,rfl,⟨g2.aG,g2.lt,g2.dead, .inl aj⟩,aj,sq g3⟩
 ·rename_i c7 cs w dn;cases dn;obtain ⟨ao,aH⟩:=eW aH;subst ao;obtain ⟨c,ds,h1,J,aM⟩:=ai;cases h1;refine ⟨rfl,J.fresh,fun vs'=>⟨b,ds,rfl,⟨J.aG,J.lt,J.dead, .inr rfl⟩,uF aH aM⟩, ?_⟩;intro z2 m1 w a ws an;obtain ⟨c,mX,g1,g2,g3⟩:=an;cases g1;refine ⟨⟨b,mX,rfl,⟨g2.aG,g2.lt,g2.dead,J.fresh⟩,sq g3⟩,fun ab aq=> ?_⟩;subst aq;rw[HO aH ab];exact ⟨b,mX,rfl,⟨g2.aG,g2.lt,g2.dead,J.fresh⟩,sq g3⟩
 ·cases aH
def b4.quiet (d:b4 D):Bool:=d.flat&&d.h9.isNone
def b3 (X:dB P D) (d:b4 D) (F:d.F):Prop:=∀(bN:List (aQ D)) (O:List (aL D)) {af:Type} (K:aQ D->List (aL D)->Option af) (r:af) {z:Nat->a6} {e m:Mem} {k:Option Nat} {vs:List aqX} (args:List aqX),
 bm X.G O z e m k vs->ba (rel X.G z vs) bN args->d.call X F bN O K=aqV r->hx P d.f args.toArray m fun v m'=>c5 X O z e k vs K r v m'/\(d.quiet=aqW->m'=m)/\∃q,fu m m' q/\mU vs (qa bN) q
theorem e5.TC {q:Option Nat} (h:e5 m m1 q):fu m m1 q:=⟨h.next,h.aG⟩
theorem WX {i off d:Nat}:∀{l:List (aQ D)} {n:Nat},eg (k5 n l) d= .box i off->i∈qa l
 |[],n,h=>by cases h
 |s::l,n,h=>by
  simp only[k5,eg] at h;split at h
  ·subst h;exact arp
  ·have:=WX h;cases s<;>first|exact this|exact ark _ this
theorem Jf.call {d:b4 D} {F:d.F} (cB:Jf P X d F):b3 X d F:=by
 intro bN O af K r z e m k vs args aw cC h;obtain ⟨fn,c,f1,f2,f3,f4,f5,fK⟩:=cB.ex;have hW:=cB.new;have UP:=cB.anv;unfold b4.call at h;obtain ⟨hlen,h⟩:=eW h;have hlen:=arA hlen;split at h
 ·rename_i kP bL aP;obtain ⟨U,h⟩:=eW h;split at h
  ·rename_i x aa;have bE:args.toArray.size<=fn.ntmps:=by
    rw[List.size_toArray,<-cC.length,hlen];exact asg f4
   have aT:∀fr:Nat->aqX,(∀i v,args.toArray.toList[i]? =aqV v->fr i=v)->eA X z vs (k5 0 bN) fr:=fun fr ga=>Oj cC fun j v av=>by rw[arh];exact ga j v (by simpa using av)
   obtain ⟨f,nr,ins,eE,h9,qk,outs,lx,nC,flat⟩:=d;cases h9 with
   |none=>
    obtain ⟨y,ag,h⟩:=bind_some h;split at h
    ·rename_i c3 B8;have body:∀fr:Nat->aqX,(∀i v,args.toArray.toList[i]? =aqV v->fr i=v)->W P c (fun ex eV m1=>(ex= .normal\/ex= .ret)/\∃cr z2 dd,Inv O bL/\cT e.next z cr/\bm X.G bL cr e m k vs/\cT m.next cr z2/\bm X.G (dL X outs (eX outs y)) z2 m m1 aqY dd/\∃fx,pf P eV m1 nC ((lI oL nC).map fx)/\(rel X.G z2 (vs++dd) c3 (pack ((lI oL nC).map fx))/\(((lI oL nC).map fx).length=1\/∀x∈(lI oL nC).map fx,storable x=aqW))) fr m:=by
      intro fr ga;obtain ⟨cr,g0,g1,g2,g3⟩:=wI aw (aT fr ga) aP;have yQ:=Xf (b7:=[]) ((aT fr ga).mono g1.le fun _ _ h=>h) g3 aa U;refine (fK () x y (z:=cr) (m:=m) (kk:=aqY) (b7:=[]) ag g2.nil (Di fun p ap=>yQ p (by simpa[DI] using ap))).mono ?_;rintro ex eV m1 ⟨he,fx,cm,z2,dd,bs,bC,cQ⟩;have bC:bm X.G (dL X outs (eX outs y)) z2 m m1 aqY dd:=bC;refine ⟨he,cr,z2,dd,g0,g1,g2,bs,bC,fx,cm,OY (Yo (b7:=dd) hW UP cQ fun j u hu=> ?_) B8⟩;show (vs++dd)[bL.length+j]? =aqV u;rw[arl (by rw[g2.len];omega),g2.len,show bL.length+j - bL.length=j by omega];exact hu
     split at h
     ·split at h
      ·rename_i w hw;obtain ⟨cO,fo⟩:=ae9 (X:=X) (z:=z) (vs:=vs) hw;refine (hx.flat (z:=z) f1 f2 f3 bE fo fun fr ga=>(body fr ga).mono ?_).mono ?_
       ·rintro ex eV m1 ⟨he,cr,z2,dd,_,_,_,_,bC,fx,cm,cQ,fy⟩;exact ⟨he,z2,bC.aO,_,by rw[f5];exact cm,fy,(afT hw cQ).1⟩
       ·rintro v m' ⟨rfl,rfl⟩;exact ⟨c5.here aw cO h,fun _=>rfl,aqY,fu.refl _, .inl rfl⟩
      ·cases h
     ·rename_i Ml;refine hx.any f1 f2 f3 bE fun fr ga=>(body fr ga).mono ?_;rintro ex eV m1 ⟨he,cr,z2,dd,g0,g1,g2,bs,bC,fx,cm,cQ,fy⟩;obtain ⟨s1,s2⟩:=X6 (e:=e) (k:=k) g2.aO bC.aO (by simp);refine ⟨he,_,by rw[f5];exact cm,fy,⟨z2,vs++dd,c3,_,g0.trans (Inv.app _ _),g1.trans (bs.EF aw.aO.next),iy, ?_,cQ,h⟩,fun aJ=>absurd (by simpa[b4.quiet] using aJ) Ml,aqY,s2.TC, .inl rfl⟩;have aj:=g2.call bs s2 s1 rfl fun j o' av=> .inl ⟨av,fun _ v _=>ei.q0⟩;have acz:∀(j:Nat) (u:aqX),([]++dd)[j]? =aqV u->(vs++dd)[bL.length+j]? =aqV u:=fun j u hu=>by
       rw[arl (by rw[g2.len];omega),g2.len,show bL.length+j - bL.length=j by omega];exact hu
      exact after (lN:=[]) (b7:=[]) g2 aj bC rfl hW (fun j o v ai ad ah b aa=>((g2.obj j o v ai ad).lt ah b aa).1) acz
    ·cases h
   |some p=>
    unfold Dc at h;dsimp only at h;split at h
    ·rename_i i ae;split at h
     ·rename_i o ai;obtain ⟨xv,FE,h⟩:=bind_some h;obtain ⟨y,ag,h⟩:=bind_some h;split at h
      ·rename_i c3 B8;refine hx.any f1 f2 f3 bE fun fr ga=> ?_;obtain ⟨cr,g0,g1,g2,g3⟩:=wI aw (aT fr ga) aP;have yQ:=fun b7=>Xf (b7:=b7) ((aT fr ga).mono g1.le fun _ _ h=>h) g3 aa U;have ap:=aT fr ga p.1;rw[ae] at ap;obtain ⟨b,e6,gj⟩:=ap;have b0:=g2.obj i o _ ai e6;obtain ⟨fg,e1,DH,xq⟩:=ahJ FE b0;have abg:bm X.G (pt X (aqV p) xv) cr m m (aqV b) [.pointer (aqV ⟨b,0,aqY⟩)]:=by
        refine ⟨cL.start g2.aO.bg g2.aO.dead,rfl,fun j o' v av ad=> ?_,fun a b6 o' se v w eF aq cu=> ?_⟩
        ·cases j with
         |zero=>simp[pt] at av ad;subst av ad;exact DH _
         |succ j=>simp[pt] at av
        ·cases a with
         |zero=>cases b6 with
          |zero=>exact absurd rfl eF
          |succ b6=>simp[pt] at cu
         |succ a=>simp[pt] at aq
       refine (fK xv x y (z:=cr) (m:=m) (kk:=aqV b) (b7:=[.pointer (aqV ⟨b,0,aqY⟩)]) ag abg (Di fun q aJ=> ?_)).mono ?_
       ·rcases arj.1 aJ with aJ|aJ
        ·exact yQ _ q (arj.2 (.inl aJ))
        ·rcases arj.1 aJ with aJ|aJ
         ·exact yQ _ q (arj.2 (.inr aJ))
         ·simp only[DI,arb,asF,or_false] at aJ;subst aJ;exact ⟨b,rfl,gj⟩
       rintro ex eV m1 ⟨he,fx,cm,z2,dd,bs,bC,cQ⟩;obtain ⟨s1,s2⟩:=X6 (e:=e) (k:=k) g2.aO bC.aO (fun c ab=>by cases ab;exact e1);have ab1:i<bL.length:=(aq5.1 ai).1;have nZ:∀(j:Nat) (u:aqX),([aqX.pointer (aqV ⟨b,0,aqY⟩)]++dd)[j]? =aqV u->(vs++dd)[wo i bL.length j]? =aqV u:=by
        intro j u hu;cases j with
        |zero=>simp at hu;subst hu;show (vs++dd)[i]? =_;exact iy _ _ e6
        |succ j=>simp at hu;show (vs++dd)[bL.length+(j+1 - 1)]? =_;rw[arl (by rw[g2.len];omega),g2.len,show bL.length+(j+1 - 1) - bL.length=j by omega];exact hu
       have nk:=OY (Yo hW UP cQ nZ) B8;have bC:bm X.G (([if qk=1 then (.recv p.2 (hN X p.2 xv) aqZ:aL D) else if qk=2 then iB X we outs (eX outs y) 0 else .dead]:List (aL D))++dL X outs (eX outs y)) z2 m m1 (aqV b) ([.pointer (aqV ⟨b,0,aqY⟩)]++dd):=bC;have ax:=bC.obj 0 _ (.pointer (aqV ⟨b,0,aqY⟩)) rfl rfl;have apart:∀(j:Nat) (o':aL D),j≠i->bL[j]? =aqV o'->o'.live=aqW->∀v,vs[j]? =aqV v->ei (da v) (aqV b):=fun j o' iJ av ah v ad=>g2.eD j i o' o v _ iJ av ai ah fg ad e6;have MU:∀(j:Nat) (o':aL D) (v:aqX),bL[j]? =aqV o'->vs[j]? =aqV v->o'.live=aqW->∀c,da v=aqV c->c<m.next:=fun j o' v ai ad ah c ab=>((g2.obj j o' v ai ad).lt ah c ab).1;have fin:∀{ru:List (aL D)},Inv bL ru->bm X.G ru z2 e m1 k vs->(∀(j:Nat) (o':aL D) (v:aqX),ru[j]? =aqV o'->vs[j]? =aqV v->o'.live=aqW->∀c,da v=aqV c->c<m.next)->K c3 (ru++mkOr X (wo i bL.length) outs (eX outs y))=aqV r->c5 X O z e k vs K r (pack ((lI oL nC).map fx)) m1:=by intro ru ab2 aj aN fB;exact ⟨z2,vs++dd,c3,_,(g0.trans ab2).trans (Inv.app _ _),g1.trans (bs.EF aw.aO.next),iy,after g2 aj bC rfl hW aN nZ,nk.1,fB⟩
       have mM:∀{r9:aL D},r9.k6=aqW->(∀v,vs[i]? =aqV v->fI X.G z2 e m1 k vs r9 v)->K c3 (bL.set i r9++mkOr X (wo i bL.length) outs (eX outs y))=aqV r->c5 X O z e k vs K r (pack ((lI oL nC).map fx)) m1:=by
        intro r9 ao aj fB;refine fin (Inv.set bL i (.inr ao)) (g2.call bs s2 s1 (by simp) fun j o' av=> ?_) (fun j o' v av ad ah c ab=> ?_) fB
        ·rw[arv] at av;split at av
         ·rename_i cY;subst cY;simp[ab1] at av;subst av;exact .inr ⟨o,ai,fg,aj⟩
         ·rename_i cY;exact .inl ⟨av,fun ah v ad=>apart j o' (fun e=>cY e.symm) av ah v ad⟩
        ·rw[arv] at av;split at av
         ·rename_i cY;subst cY;exact MU i o v ai ad fg c ab
         ·exact MU j o' v av ad ah c ab
       refine ⟨he,_,by rw[f5];exact cm,nk.2, ?_,fun aJ=>absurd aJ (by simp[b4.quiet]),aqV b,s2.TC, .inr ⟨i,WX ae,_,e6,rfl⟩⟩;split at h
       ·rename_i rQ;rw[if_neg (by omega),if_pos rQ] at ax;split at h
        ·rename_i t cs w hu;obtain ⟨ao,h⟩:=eW h;rcases sl (X:=X) (aE:=outs) (x:=eX outs y) (j:=0) with aB|⟨_,bQ,a',_,aB⟩
         ·rw[aB] at hu;cases hu
         ·cases bQ with
          |recv c7=>
           have aB:=aB we;have jR:=aB;rw[hu] at aB;simp only[bB.fe] at aB;cases aB;subst ao;rw[jR] at ax;refine mM ?_ (fun v ad=> ?_) h
           ·unfold DJ;split<;>rfl
           ·rw[e6] at ad;cases ad;exact (xq ax).1
          |_=>rw[aB] at hu;cases hu
        ·cases h
       ·obtain ⟨rP,h⟩:=eW h;rw[if_pos rP] at ax;split at h
        ·rename_i hV;refine fin (Inv.refl bL) (g2.call bs s2 s1 rfl fun j o' av=> ?_) MU h;by_cases iJ:j=i
         ·subst iJ;rw[ai] at av;cases av;exact .inr ⟨o,ai,fg,fun v ad=>by rw[e6] at ad;cases ad;exact (xq ax).2 hV rfl⟩
         ·exact .inl ⟨av,fun ah v ad=>apart j o' iJ av ah v ad⟩
        ·refine mM ?_ (fun v ad=> ?_) h
         ·unfold DJ;split<;>rfl
         ·rw[e6] at ad;cases ad;exact (xq ax).1
      ·cases h
     ·cases h
    ·cases h
  ·cases h
 ·cases h
structure nK (D:Nat->Type) where
 d:b4 D
 F:d.F
def b4.fits (X:dB P D) (d:b4 D) (bN:List (aQ D)) (O:List (aL D)):Bool:=
 ard bN.length d.nr&&match qD (k5 0 bN) d.ins O with
 |some (kP,bL)=>(d.eE.all fun p=>vz [] p.2 (eg (k5 0 bN) p.1))&&(gx X [] bL d.ins kP []).isSome
 |none=>aqZ
def C1 (X:dB P D):List (nK D)->Nat->List (aQ D)->List (aL D)->{af:Type}->(aQ D->List (aL D)->Option af)->Option af
 |[],_,_,_,_,_=>aqY
 |x::l,f,bN,O,_,K=>if (ard x.d.f f&&x.d.fits X bN O)=aqW then x.d.call X x.F bN O K else C1 X l f bN O K
def Dd (X:dB P D):List (nK D)->Nat->List (aQ D)->List (aL D)->Bool
 |[],_,_,_=>aqZ
 |x::l,f,bN,O=>if (ard x.d.f f&&x.d.fits X bN O)=aqW then x.d.quiet else Dd X l f bN O
structure iF (D:Nat->Type) where
 F:(f:Nat)->List (aQ D)->List (aL D)->Bool
 dF:aq3->Option aq3->Option aq3->Nat
 C:(f:Nat)->List (aQ D)->List (aL D)->{af:Type}->(aQ D->List (aL D)->Option af)->Option af
 W:(f:Nat)->Bool
def dB.eI (X:dB P D) (q:iF D):dB P D:={X with C:=q.C,F:=q.F,dF:=q.dF,W:=q.W}
def dB.with (X:dB P D) (l:List (nK D)):dB P D:=X.eI ⟨Dd X l,X.dF,C1 X l,X.W⟩
def dB.oP (X:dB P D) (f:aq3->Option aq3->Option aq3->Nat):dB P D:=X.eI ⟨X.F,f,X.C,X.W⟩
theorem ag6 (l:iF D) (t:Nat):nG (X.eI l) t=nG X t:=by
 cases cc:X.I t with
 |none=>have J:(X.eI l).I t=aqY:=cc;unfold nG;rw[cc,J]
 |some ti=>have J:(X.eI l).I t=aqV ti:=cc;unfold nG;rw[cc,J]
theorem wA (l:iF D) (t:Nat) (x:D t):hN (X.eI l) t x=hN X t x:=by
 cases cc:X.I t with
 |none=>have J:(X.eI l).I t=aqY:=cc;unfold hN;rw[cc,J]
 |some ti=>have J:(X.eI l).I t=aqV ti:=cc;unfold hN;rw[cc,J]
theorem uk (l:iF D) (t:Nat) (cs:List (bJ D)):k2 (X.eI l) t cs=k2 X t cs:=by
 cases cc:X.I t with
 |none=>have J:(X.eI l).I t=aqY:=cc;unfold k2;rw[cc,J]
 |some ti=>have J:(X.eI l).I t=aqV ti:=cc;unfold k2;rw[cc,J]
theorem VM (l:iF D):∀(ts:List Nat) (x:tY D ts),sr (X.eI l) ts x=sr X ts x
 |[],_=>rfl
 |t::ts,x=>by show (t,hN (X.eI l) t x.1)::sr (X.eI l) ts x.2=(t,hN X t x.1)::sr X ts x.2;rw[VM l ts x.2,wA l t x.1]
theorem VK (l:iF D):∀(ts:List Nat) (x:List (Nat×List (bJ D))),wP (X.eI l) ts x=wP X ts x
 |[],[]=>rfl
 |[],_::_=>rfl
 |_::_,[]=>rfl
 |t::ts,p::x=>by simp only[wP,VK l ts x,uk]
theorem fs.MY (l:iF D) (c:fs) (x:c.ty D):fs.mk (X.eI l) c x=fs.mk X c x:=by
 cases c with
 |fn f ts=>exact congrArg (aQ.fn f) (VM l ts x)
 |agg t=>exact congrArg (aQ.agg t) (wA l t x)
 |fH t=>exact congrArg (fun cs=>aQ.fH t cs 0) (wA l t x)
 |_=>rfl
theorem fs.E2 (l:iF D) (c:fs) (s:aQ D):fs.get (X.eI l) c s=fs.get X c s:=by
 unfold fs.get;split
 ·rfl
 ·rfl
 ·rfl
 ·rfl
 ·rfl
 ·rfl
 ·rfl
 ·rename_i t c7 cs;exact congrArg (fun q:Option (D t)=>if c7=t then q else aqY) (uk l t cs)
 ·rename_i t c7 cs off;exact congrArg (fun q:Option (D t)=>if c7=t/\off=0 then q else aqY) (uk l t cs)
 ·rename_i f ts jN cs;exact congrArg (fun q:Option (tY D ts)=>if jN=f then q else aqY) (VK l ts cs)
 ·rfl
 ·rfl
theorem bB.FW (l:iF D) (bY:Nat->Nat) (c:bB) (x:c.ty D) (w:Bool):bB.fe (X.eI l) bY c x w=bB.fe X bY c x w:=by
 cases c with
 |box t=>exact congrArg (fun cs=>aL.box t cs aqZ w) (wA l t x)
 |recv t=>exact congrArg (fun cs=>aL.recv t cs w) (wA l t x)
 |eQ t p=>exact congrArg (fun cs=>aL.box t (nu bY p 0 cs) aqZ w) (wA l t x)
 |_=>rfl
theorem bB.MY (l:iF D) (c:bB) (x:c.ty D) (w:Bool):bB.mk (X.eI l) c x w=bB.mk X c x w:=bB.FW l _ c x w
theorem bB.E2 (l:iF D) (aZ:List Nat) (c:bB) (o:aL D):bB.get (X.eI l) aZ c o=bB.get X aZ c o:=by
 unfold bB.get;split
 ·rfl
 ·rename_i t c7 cs w;exact congrArg (fun q:Option (D t)=>if c7=t then q else aqY) (uk l t cs)
 ·rename_i t c7 cs w;exact congrArg (fun q:Option (D t)=>if c7=t then q else aqY) (uk l t cs)
 ·rfl
 ·rfl
 ·rename_i t p c7 cs w;rw[ag6];exact congrArg (fun q:Option (D t)=>if c7=t/\Ds aZ cs p=aqW then q else aqY) (uk l t (p4 (nG X t) p 0 cs))
 ·rfl
 ·rfl
 ·rfl
theorem afz (l:iF D) (t:Nat) (o:Option (aL D)):z6 (X.eI l) t o=z6 X t o:=by
 unfold z6;split
 ·rw[uk]
 ·rw[uk]
 ·rfl
theorem CY (l:iF D) {eO:List Nat}:∀(aE:List dk) (kP:List (aQ D)) (aZ:List Nat),gx (X.eI l) eO O aE kP aZ=gx X eO O aE kP aZ
 |[],_,[]=>rfl
 |[],_,_::_=>by simp[gx]
 | .v _ _::_,[],_=>by simp[gx]
 | .o _ _::_,[],_=>by simp[gx]
 | .u _ _::_,[],_=>by simp[gx]
 | .v d c::aE,s::kP,aZ=>by simp only[gx,fs.E2,CY l aE kP aZ]
 | .o d c::aE,s::kP,[]=>rfl
 | .o d c::aE,s::kP,i::aZ=>by simp only[gx,bB.E2,CY l aE kP aZ]
 | .u d c::aE,s::kP,aZ=>by simp only[gx,bB.E2,CY l aE kP aZ]
theorem Oy (l:iF D):∀(aE:List dk) (x:ew D aE),dL (X.eI l) aE x=dL X aE x
 |[],_=>rfl
 | .v d c::aE,x=>Oy l aE x.2
 | .u d c::aE,x=>Oy l aE x.2
 | .o d c::aE,x=>by show bB.mk (X.eI l) c x.1 aqZ::dL (X.eI l) aE x.2=bB.mk X c x.1 aqZ::dL X aE x.2;rw[Oy l aE x.2];exact congrArg (fun q=>q::dL X aE x.2) (bB.MY l c x.1 aqZ)
theorem zf (l:iF D) {bY:Nat->Nat}:∀(aE:List dk) (x:ew D aE),mkOr (X.eI l) bY aE x=mkOr X bY aE x
 |[],_=>rfl
 | .v d c::aE,x=>zf l aE x.2
 | .u d c::aE,x=>zf l aE x.2
 | .o d c::aE,x=>by show bB.fe (X.eI l) bY c x.1 aqZ::mkOr (X.eI l) bY aE x.2=bB.fe X bY c x.1 aqZ::mkOr X bY aE x.2;rw[zf l aE x.2];exact congrArg (fun q=>q::mkOr X bY aE x.2) (bB.FW l bY c x.1 aqZ)
theorem zo (l:iF D):∀(aE:List dk) (x:ew D aE),gv (X.eI l) aE x=gv X aE x
 |[],_=>rfl
 | .v d c::aE,x=>by show (d,fs.mk (X.eI l) c x.1)::gv (X.eI l) aE x.2=(d,fs.mk X c x.1)::gv X aE x.2;rw[zo l aE x.2];exact congrArg (fun q=>(d,q)::gv X aE x.2) (fs.MY l c x.1)
 | .u d c::aE,x=>zo l aE x.2
 | .o d c::aE,x=>zo l aE x.2
theorem Cx (l:iF D) {bY:Nat->Nat}:∀(aE:List dk) (x:ew D aE) (j:Nat),iB (X.eI l) bY aE x j=iB X bY aE x j
 |[],_,_=>rfl
 | .v d c::aE,x,j=>Cx l aE x.2 j
 | .u d c::aE,x,j=>by show (if ard d j=aqW then bB.fe (X.eI l) bY c x.1 aqW else iB (X.eI l) bY aE x.2 j)=(if ard d j=aqW then bB.fe X bY c x.1 aqW else iB X bY aE x.2 j);rw[Cx l aE x.2 j];exact congrArg (fun q=>if ard d j=aqW then q else iB X bY aE x.2 j) (bB.FW l bY c x.1 aqW)
 | .o d c::aE,x,j=>Cx l aE x.2 j
theorem CG (l:iF D) (d:b4 D) (F:d.F) (bN:List (aQ D)) (O:List (aL D)) {af:Type} (K:aQ D->List (aL D)->Option af):d.call (X.eI l) F bN O K=d.call X F bN O K:=by
 obtain ⟨f,nr,ins,eE,h9,qk,outs,lx,ch,flat⟩:=d;unfold b4.call;dsimp only;simp only[CY];cases h9 with
 |none=>simp only[Dc,zo,zf]
 |some p=>simp only[Dc,zo,zf,Cx,afz,wA]
theorem fS.oP {f:aq3->Option aq3->Option aq3->Nat} (h:fS X):fS (X.oP f):=h
theorem b3.oP {f:aq3->Option aq3->Option aq3->Nat} {d:b4 D} {F:d.F} (h:b3 (X.oP f) d F):b3 X d F:=by
 intro bN O af K r z e m k vs args aw cC ab;rw[<-CG ⟨X.F,f,X.C,X.W⟩] at ab;exact h bN O K r args aw cC ab
def dB.sub (X:dB P D) (x:nK D):dB P D:=X.eI ⟨fun f bN O=>if ard x.d.f f=aqW then aqZ else X.F f bN O,X.dF,fun f bN O _ K=>if ard x.d.f f=aqW then x.d.call X x.F bN O K else X.C f bN O K,X.W⟩
theorem fS.sub {x:nK D} (h:fS X) (U:b3 X x.d x.F):fS (X.sub x):=by
 intro f bN O af K r z e m k vs args aw cC ab;have ab:(if ard x.d.f f=aqW then x.d.call X x.F bN O K else X.C f bN O K)=aqV r:=ab;have cB:(X.sub x).F f bN O=if ard x.d.f f=aqW then aqZ else X.F f bN O:=rfl
 rw[cB];split at ab
 ·rename_i aP;rw[if_pos aP];have aP:=arA aP;rw[<-aP];exact (U bN O K r args aw cC ab).mono fun v m' h=>⟨h.1,fun ax=>atT ax,fun _=>h.2.2⟩
 ·rename_i aP;rw[if_neg aP];exact h f bN O K r args aw cC ab
theorem b3.sub {x:nK D} {d:b4 D} {F:d.F} (h:b3 (X.sub x) d F):b3 X d F:=by
 intro bN O af K r z e m k vs args aw cC ab;unfold dB.sub at h;rw[<-CG ⟨fun f bN O=>if ard x.d.f f=aqW then aqZ else X.F f bN O,X.dF,fun f bN O _ K=>if ard x.d.f f=aqW then x.d.call X x.F bN O K else X.C f bN O K,X.W⟩] at ab;exact h bN O K r args aw cC ab
def F4 {au:Type} (a b:Option au):Option au:=match a with|some r=>aqV r|none=>b
theorem ajm {au:Type} {a b:Option au} {y:au} (h:F4 a b=aqV y):a=aqV y\/b=aqV y:=by
 unfold F4 at h;split at h
 ·exact .inl h
 ·exact .inr h
theorem b3.or {d:b4 D} {F AL AM:d.F} (an:d.h9=aqY) (cB:∀r x y,F r x=aqV y->AL r x=aqV y\/AM r x=aqV y) (h1:b3 X d AL) (J:b3 X d AM):b3 X d F:=by
 intro bN O af K r z e m k vs args aw cC ab;have key:d.call X AL bN O K=aqV r\/d.call X AM bN O K=aqV r:=by
  obtain ⟨f,nr,ins,eE,h9,qk,outs,lx,nC,flat⟩:=d;unfold b4.call at ab⊢;obtain ⟨ar,ab⟩:=eW ab;rw[if_pos ar,if_pos ar];split at ab
  ·rename_i kP bL aP;obtain ⟨U,ab⟩:=eW ab;simp only[aP,if_pos U];split at ab
   ·rename_i x aa;simp only[aa];cases h9 with
    |none=>
     unfold Dc at ab⊢;obtain ⟨y,ag,ab⟩:=bind_some ab;rcases cB () x y ag with g|g
     ·left;show aq0 (AL () x) _=aqV r;rw[g];exact ab
     ·right;show aq0 (AM () x) _=aqV r;rw[g];exact ab
    |some p=>cases an
   ·cases ab
  ·cases ab
 rcases key with hk|hk
 ·exact h1 bN O K r args aw cC hk
 ·exact J bN O K r args aw cC hk
theorem b3.up {l:List (nK D)} {d:b4 D} {F:d.F} (h:b3 X d F):b3 (X.with l) d F:=by
 intro bN O af K r z e m k vs args aw cC ab;have ab:d.call (X.eI ⟨Dd X l,X.dF,C1 X l,X.W⟩) F bN O K=aqV r:=ab;rw[CG] at ab;exact h bN O K r args aw cC ab
theorem Wk {f:Nat} {bN:List (aQ D)} {K:aQ D->List (aL D)->Option af} {args:List aqX} (aw:bm X.G O z e m k vs) (cC:ba (rel X.G z vs) bN args):∀{l:List (nK D)},(∀x∈l,b3 X x.d x.F)->C1 X l f bN O K=aqV r->hx P f args.toArray m fun v m'=>c5 X O z e k vs K r v m'/\(Dd X l f bN O=aqW->m'=m)/\∃q,fu m m' q/\mU vs (qa bN) q
 |[],_,ab=>by cases ab
 |x::l,h,ab=>by
  unfold C1 at ab;unfold Dd;split at ab
  ·rename_i U;rw[if_pos U];simp only[ara] at U;have:=arA U.1;subst this;exact h x arp bN O K r args aw cC ab
  ·rename_i U;rw[if_neg U];exact Wk aw cC (fun y ag=>h y (ark _ ag)) ab
theorem fS.of {l:List (nK D)} (h:∀x∈l,b3 X x.d x.F):fS (X.with l):=by
 intro f bN O af K r z e m k vs args aw cC ab;exact (Wk (X:=X) aw cC h ab).mono fun v m' ax=>⟨ax.1,ax.2.1,fun _=>ax.2.2⟩
theorem afa {l:List (nK D)} {x:nK D} (h:b3 X x.d x.F) (ah:∀y∈l,b3 X y.d y.F):∀y∈x::l,b3 X y.d y.F:=by
 intro y ag;rcases arb.1 ag with rfl|ag
 ·exact h
 ·exact ah y ag
end
end
end Go.aS
end
section
namespace Go.aS
inductive LT:Type 1 where
 |int (k:aq2)|bool|str
 |az (au:Type) (T:cf au)
 |mp (au bz:Type) (M:nL au bz)
 |fn
def LT.ty:LT->Type
 | .int _=>Int
 | .bool=>Bool
 | .str=>List UInt8
 | .az au _=>List au
 | .mp au bz _=>List (au×bz)
 | .fn=>Option Nat
def TM:Option Nat->aqX
 |none=> .nilFunc
 |some n=> .func (.func n) #[] #[]
def LT.rd (z:Nat->a6):(l:LT)->l.ty->aqX->Prop
 | .int k,n,v=>v= .int k n
 | .bool,b,v=>v= .bool b
 | .str,s,v=>v=aS.str s
 | .az _ T,xs,v=>er T z xs v
 | .mp _ _ M,es,v=>kL M z es v
 | .fn,o,v=>v=TM o
def gr:List LT->Type
 |[]=>Unit
 |l::ls=>l.ty×gr ls
def oz (z:Nat->a6):(ls:List LT)->gr ls->List aqX->Prop
 |[],_,[]=>True
 |l::ls,x,v::vs=>l.rd z x.1 v/\oz z ls x.2 vs
 |_,_,_=>False
theorem X8 {z:Nat->a6}:∀{ls:List LT} {x:gr ls} {cs:List aqX},oz z ls x cs->cs.length=ls.length
 |[],_,[],_=>rfl
 |l::ls,x,v::vs,h=>by simp[X8 h.2]
 |[],_,_::_,h=>h.elim
 |_::_,_,[],h=>h.elim
theorem W5 {z z':Nat->a6} (aF:et z z'):∀{ls:List LT} {x:gr ls} {cs:List aqX},oz z ls x cs->oz z' ls x cs
 |[],_,[],_=>trivial
 |l::ls,x,v::vs,h=>⟨by
  have h1:=h.1;cases l with
  |az au T=>exact er.mono aF h1
  |mp au bz M=>exact kL.mono h1 aF
  |_=>exact h1,W5 aF h.2⟩
 |[],_,_::_,h=>h.elim
 |_::_,_,[],h=>h.elim
theorem X9 {z:Nat->a6}:∀{ls:List LT} {x:gr ls} {cs:List aqX},oz z ls x cs->∀c∈cs,storable c=aqW/\c.cells=#[c]
 |[],_,[],_,c,ab=>by simp at ab
 |l::ls,x,v::vs,h,c,ab=>by
  rcases arb.1 ab with rfl|ab
  ·have h1:=h.1;cases l with
   |az au T=>obtain ⟨a,c,rfl⟩:=er.len h1;exact ⟨rfl,rfl⟩
   |mp au bz M=>rcases h1 with ⟨rfl,_⟩|⟨r,rfl,_⟩<;>exact ⟨rfl,rfl⟩
   |fn=>obtain ⟨x,y⟩:=x;cases x<;>(obtain rfl:=h1;exact ⟨rfl,rfl⟩)
   |_=>obtain rfl:=h1;exact ⟨rfl,rfl⟩
  ·exact X9 h.2 c ab
 |[],_,_::_,h,_,_=>h.elim
 |_::_,_,[],h,_,_=>h.elim
def hd (t:aq4) (ls:List LT) {au:Type} (to:au->gr ls):cf au where
 a1:=ls.length
 tid:=t
 rd:=fun z x cs=>oz z ls (to x) cs
 len:=fun _ _ _ h=>X8 h
 mono:=fun _ _ aF _ _ h=>W5 aF h
 one:=fun _ _ _ h=>X9 h
noncomputable section
inductive hR where
 |int (k:aq2)|bool|str
 |az (e:Nat)
 |mp (t kt vt:Nat)
 |fn
section
variable {P:aq1} {D:Nat->Type} (G:lP D)
def EV:Option Nat->bJ D
 |none=> .wm
 |some n=> .fn n []
def hR.lt:hR->LT
 | .int k=> .int k
 | .bool=> .bool
 | .str=> .str
 | .az e=> .az (D e) (G.T e)
 | .mp t kt vt=> .mp (D kt) (D vt) (G.M t kt vt)
 | .fn=> .fn
def fm:List hR->List LT
 |[]=>[]
 |c::cs=>c.lt G::fm cs
def iv:(ls:List hR)->gr (fm G ls)->List (bJ D)
 |[],_=>[]
 | .int k::ls,x=> .int k x.1::iv ls x.2
 | .bool::ls,x=> .bool x.1::iv ls x.2
 | .str::ls,x=> .str x.1::iv ls x.2
 | .az e::ls,x=> .az e x.1::iv ls x.2
 | .mp t kt vt::ls,x=> .mp t kt vt x.1::iv ls x.2
 | .fn::ls,x=>EV x.1::iv ls x.2
def hP:(ls:List hR)->List (bJ D)->Option (gr (fm G ls))
 |[],[]=>aqV ()
 | .int k::ls, .int dc n::cs=>if dc=k then (match hP ls cs with|some y=>aqV (n,y)|none=>aqY) else aqY
 | .bool::ls, .bool b::cs=>(match hP ls cs with|some y=>aqV (b,y)|none=>aqY)
 | .str::ls, .str s::cs=>(match hP ls cs with|some y=>aqV (s,y)|none=>aqY)
 | .az e::ls, .az bx xs::cs=>if h:bx=e then (match hP ls cs with|some y=>aqV ((h▸xs:List (D e)),y)|none=>aqY) else aqY
 | .az e::ls, .fz::cs=>(match hP ls cs with|some y=>aqV (([]:List (D e)),y)|none=>aqY)
 | .mp t kt vt::ls, .mp c7 ir iD es::cs=>if h:ir=kt/\iD=vt then (if c7=t then (match hP ls cs with|some y=>aqV ((h.1▸h.2▸es:List (D kt×D vt)),y)|none=>aqY) else aqY) else aqY
 | .mp t kt vt::ls, .oi::cs=>(match hP ls cs with|some y=>aqV (([]:List (D kt×D vt)),y)|none=>aqY)
 | .fn::ls, .wm::cs=>(match hP ls cs with|some y=>aqV ((aqY:Option Nat),y)|none=>aqY)
 | .fn::ls, .fn n []::cs=>(match hP ls cs with|some y=>aqV ((aqV n:Option Nat),y)|none=>aqY)
 |_,_=>aqY
variable {G}
theorem aiu {z:Nat->a6} {vs:List aqX} {o:Option Nat} {v:aqX} (h:v=TM o):dj G z vs (EV o) v:=by
 cases o with
 |none=>exact h
 |some n=>exact ⟨[],h,trivial⟩
theorem wR {z:Nat->a6} {vs:List aqX}:∀{ls:List hR} {x:gr (fm G ls)} {cs:List aqX},oz z (fm G ls) x cs->ba (dj G z vs) (iv G ls x) cs
 |[],_,[],_=>trivial
 | .int k::ls,x,v::w,h=>⟨h.1,wR h.2⟩
 | .bool::ls,x,v::w,h=>⟨h.1,wR h.2⟩
 | .str::ls,x,v::w,h=>⟨h.1,wR h.2⟩
 | .az e::ls,x,v::w,h=>⟨h.1,wR h.2⟩
 | .mp t kt vt::ls,x,v::w,h=>⟨h.1,wR h.2⟩
 | .fn::ls,x,v::w,h=>⟨aiu h.1,wR h.2⟩
 | .mp _ _ _::_,_,[],h=>h.elim
 | .fn::_,_,[],h=>h.elim
 |[],_,_::_,h=>h.elim
 | .int _::_,_,[],h=>h.elim
 | .bool::_,_,[],h=>h.elim
 | .str::_,_,[],h=>h.elim
 | .az _::_,_,[],h=>h.elim
theorem uE:∀{ls:List hR} (x:gr (fm G ls)),hP G ls (iv G ls x)=aqV x
 |[],_=>rfl
 | .int k::ls,x=>by show (if k=k then (match hP G ls (iv G ls x.2) with|some y=>aqV (x.1,y)|none=>aqY) else aqY)=_;rw[uE x.2,if_pos rfl];rfl
 | .bool::ls,x=>by show (match hP G ls (iv G ls x.2) with|some y=>aqV (x.1,y)|none=>aqY)=_;rw[uE x.2];rfl
 | .str::ls,x=>by show (match hP G ls (iv G ls x.2) with|some y=>aqV (x.1,y)|none=>aqY)=_;rw[uE x.2];rfl
 | .az e::ls,x=>by show (if h:e=e then (match hP G ls (iv G ls x.2) with|some y=>aqV ((h▸x.1:List (D e)),y)|none=>aqY) else aqY)=_;rw[uE x.2,dif_pos rfl];rfl
 | .mp t kt vt::ls,x=>by show (if h:kt=kt/\vt=vt then (if t=t then (match hP G ls (iv G ls x.2) with|some y=>aqV ((h.1▸h.2▸x.1:List (D kt×D vt)),y)|none=>aqY) else aqY) else aqY)=_;rw[uE x.2,dif_pos ⟨rfl,rfl⟩,if_pos rfl];rfl
 | .fn::ls,(aqY,y)=>by show (match hP G ls (iv G ls y) with|some y=>aqV ((aqY:Option Nat),y)|none=>aqY)=_;rw[uE y];rfl
 | .fn::ls,(aqV n,y)=>by show (match hP G ls (iv G ls y) with|some y=>aqV ((aqV n:Option Nat),y)|none=>aqY)=_;rw[uE y];rfl
theorem ajp {z:Nat->a6} {vs:List aqX}:∀{ls:List hR} {cs:List (bJ D)} {x:gr (fm G ls)} {ds:List aqX},hP G ls cs=aqV x->ba (dj G z vs) cs ds->oz z (fm G ls) x ds:=by
 intro ls;induction ls with
 |nil=>
  intro cs x ds h an;cases cs with
  |nil=>cases ds with
   |nil=>trivial
   |cons _ _=>exact an.elim
  |cons c cs=>cases h
 |cons l ls a8=>
  intro cs x ds h an;cases cs with
  |nil=>cases l<;>cases h
  |cons c cs=>
   cases ds with
   |nil=>exact an.elim
   |cons d ds=>
    obtain ⟨h1,J⟩:=an;have fin:∀{au:Type} {f:gr (fm G ls)->au} {o:Option (gr (fm G ls))} {r:au},(match o with|some y=>aqV (f y)|none=>aqY)=aqV r->∃y,o=aqV y/\r=f y:=by
     intro au f o r h;cases o with
     |none=>cases h
     |some y=>cases h;exact ⟨y,rfl,rfl⟩
    cases l with
    |int k=>
     cases c with
     |int dc n=>obtain ⟨hk,h⟩:=eW (au:=gr (fm G (.int k::ls))) h;subst hk;obtain ⟨y,ag,rfl⟩:=fin h;exact ⟨h1,a8 ag J⟩
     |_=>cases h
    |bool=>
     cases c with
     |bool n=>obtain ⟨y,ag,rfl⟩:=fin h;exact ⟨h1,a8 ag J⟩
     |_=>cases h
    |str=>
     cases c with
     |str n=>obtain ⟨y,ag,rfl⟩:=fin h;exact ⟨h1,a8 ag J⟩
     |_=>cases h
    |az t=>
     cases c with
     |az bx xs=>
      by_cases hk:bx=t
      ·subst hk;have h:(if h:bx=bx then (match hP G ls cs with|some y=>aqV ((h▸xs:List (D bx)),y)|none=>aqY) else aqY)=aqV x:=h;rw[dif_pos rfl] at h;obtain ⟨y,ag,rfl⟩:=fin h;exact ⟨h1,a8 ag J⟩
      ·have h:(if h:bx=t then (match hP G ls cs with|some y=>aqV ((h▸xs:List (D t)),y)|none=>aqY) else aqY)=aqV x:=h;rw[dif_neg hk] at h;cases h
     |fz=>obtain ⟨y,ag,rfl⟩:=fin h;exact ⟨.inl ⟨h1,rfl⟩,a8 ag J⟩
     |_=>cases h
    |mp t kt vt=>
     cases c with
     |mp c7 ir iD es=>
      by_cases hk:ir=kt/\iD=vt
      ·obtain ⟨rfl,rfl⟩:=hk;have h:(if h:ir=ir/\iD=iD then (if c7=t then (match hP G ls cs with|some y=>aqV ((h.1▸h.2▸es:List (D ir×D iD)),y)|none=>aqY) else aqY) else aqY)=aqV x:=h;rw[dif_pos ⟨rfl,rfl⟩] at h;obtain ⟨hk,h⟩:=eW h;subst hk;obtain ⟨y,ag,rfl⟩:=fin h;exact ⟨h1,a8 ag J⟩
      ·have h:(if h:ir=kt/\iD=vt then (if c7=t then (match hP G ls cs with|some y=>aqV ((h.1▸h.2▸es:List (D kt×D vt)),y)|none=>aqY) else aqY) else aqY)=aqV x:=h;rw[dif_neg hk] at h;cases h
     |oi=>obtain ⟨y,ag,rfl⟩:=fin h;exact ⟨.inl ⟨h1,rfl⟩,a8 ag J⟩
     |_=>cases h
    |fn=>
     cases c with
     |wm=>obtain ⟨y,ag,rfl⟩:=fin h;exact ⟨h1,a8 ag J⟩
     |fn n is=>
      cases is with
      |nil=>
       obtain ⟨y,ag,rfl⟩:=fin h;obtain ⟨gs,g1,g2⟩:=h1;cases gs with
       |nil=>exact ⟨g1,a8 ag J⟩
       |cons _ _=>exact g2.elim
      |cons _ _=>cases h
     |_=>cases h
theorem amH:∀{ls:List hR} {cs:List (bJ D)} {x:gr (fm G ls)},hP G ls cs=aqV x->oJ cs (iv G ls x):=by
 intro ls;induction ls with
 |nil=>
  intro cs x h;cases cs with
  |nil=>trivial
  |cons c cs=>cases h
 |cons l ls a8=>
  intro cs x h;cases cs with
  |nil=>cases l<;>cases h
  |cons c cs=>
   have fin:∀{au:Type} {f:gr (fm G ls)->au} {o:Option (gr (fm G ls))} {r:au},(match o with|some y=>aqV (f y)|none=>aqY)=aqV r->∃y,o=aqV y/\r=f y:=by
    intro au f o r h;cases o with
    |none=>cases h
    |some y=>cases h;exact ⟨y,rfl,rfl⟩
   cases l with
   |int k=>
    cases c with
    |int dc n=>obtain ⟨hk,h⟩:=eW (au:=gr (fm G (.int k::ls))) h;subst hk;obtain ⟨y,ag,rfl⟩:=fin h;exact ⟨fun _=>rfl,a8 ag⟩
    |_=>cases h
   |bool=>
    cases c with
    |bool n=>obtain ⟨y,ag,rfl⟩:=fin h;exact ⟨fun _=>rfl,a8 ag⟩
    |_=>cases h
   |str=>
    cases c with
    |str n=>obtain ⟨y,ag,rfl⟩:=fin h;exact ⟨fun _=>rfl,a8 ag⟩
    |_=>cases h
   |az t=>
    cases c with
    |az bx xs=>
     by_cases hk:bx=t
     ·subst hk;have h:(if h:bx=bx then (match hP G ls cs with|some y=>aqV ((h▸xs:List (D bx)),y)|none=>aqY) else aqY)=aqV x:=h;rw[dif_pos rfl] at h;obtain ⟨y,ag,rfl⟩:=fin h;exact ⟨fun _=>rfl,a8 ag⟩
     ·have h:(if h:bx=t then (match hP G ls cs with|some y=>aqV ((h▸xs:List (D t)),y)|none=>aqY) else aqY)=aqV x:=h;rw[dif_neg hk] at h;cases h
    |fz=>obtain ⟨y,ag,rfl⟩:=fin h;exact ⟨fun h=>(by cases h),a8 ag⟩
    |_=>cases h
   |mp t kt vt=>
    cases c with
    |mp c7 ir iD es=>
     by_cases hk:ir=kt/\iD=vt
     ·obtain ⟨rfl,rfl⟩:=hk;have h:(if h:ir=ir/\iD=iD then (if c7=t then (match hP G ls cs with|some y=>aqV ((h.1▸h.2▸es:List (D ir×D iD)),y)|none=>aqY) else aqY) else aqY)=aqV x:=h;rw[dif_pos ⟨rfl,rfl⟩] at h;obtain ⟨hk,h⟩:=eW h;subst hk;obtain ⟨y,ag,rfl⟩:=fin h;exact ⟨fun _=>rfl,a8 ag⟩
     ·have h:(if h:ir=kt/\iD=vt then (if c7=t then (match hP G ls cs with|some y=>aqV ((h.1▸h.2▸es:List (D kt×D vt)),y)|none=>aqY) else aqY) else aqY)=aqV x:=h;rw[dif_neg hk] at h;cases h
    |oi=>obtain ⟨y,ag,rfl⟩:=fin h;exact ⟨fun h=>(by cases h),a8 ag⟩
    |_=>cases h
   |fn=>
    cases c with
    |wm=>obtain ⟨y,ag,rfl⟩:=fin h;exact ⟨fun _=>rfl,a8 ag⟩
    |fn n is=>
     cases is with
     |nil=>obtain ⟨y,ag,rfl⟩:=fin h;exact ⟨fun _=>rfl,a8 ag⟩
     |cons _ _=>cases h
    |_=>cases h
theorem Qy:∀{ls:List hR},(fm G ls).length=ls.length
 |[]=>rfl
 |l::ls=>by simp[fm,Qy]
def pz:List hR->List (bJ D)
 |[]=>[]
 | .int k::ls=> .int k 0::pz ls
 | .bool::ls=> .bool aqZ::pz ls
 | .str::ls=> .str []::pz ls
 | .az _::ls=> .fz::pz ls
 | .mp _ _ _::ls=> .oi::pz ls
 | .fn::ls=> .wm::pz ls
def ve:List hR->List aqX
 |[]=>[]
 | .int k::ls=> .int k 0::ve ls
 | .bool::ls=> .bool aqZ::ve ls
 | .str::ls=> .string ⟨#[]⟩::ve ls
 | .az _::ls=> .slice aqY 0 0::ve ls
 | .mp _ _ _::ls=> .map aqY::ve ls
 | .fn::ls=> .nilFunc::ve ls
theorem wT {z:Nat->a6} {vs:List aqX}:∀{ls:List hR},ba (dj G z vs) (pz ls:List (bJ D)) (ve ls)
 |[]=>trivial
 | .int k::ls=>⟨rfl,wT⟩
 | .bool::ls=>⟨rfl,wT⟩
 | .str::ls=>⟨rfl,wT⟩
 | .az _::ls=>⟨rfl,wT⟩
 | .mp _ _ _::ls=>⟨rfl,wT⟩
 | .fn::ls=>⟨rfl,wT⟩
theorem uy:∀{ls:List hR} {x:gr (fm G ls)},(iv G ls x).all o8=aqW
 |[],_=>rfl
 | .int k::ls,x=>by simp only[iv,arR,uy,o8,asG]
 | .bool::ls,x=>by simp only[iv,arR,uy,o8,asG]
 | .str::ls,x=>by simp only[iv,arR,uy,o8,asG]
 | .az _::ls,x=>by simp only[iv,arR,uy,o8,asG]
 | .mp _ _ _::ls,x=>by simp only[iv,arR,uy,o8,asG]
 | .fn::ls,(aqY,y)=>by simp only[iv,EV,arR,uy,o8,asG]
 | .fn::ls,(aqV n,y)=>by simp only[iv,EV,arR,uy,o8,List.isEmpty,asG]
def ia {t:Nat} (ls:List hR) (to:D t->gr (fm G ls)) (of:gr (fm G ls)->D t) (h1:∀x,of (to x)=x) (J:∀y,to (of y)=y) (x0:D t) (i:TypeInfo) (ca:aqX)
  (hK:G.T t=hd t (fm G ls) to) (ae:P.info? t=aqV i) (bE:i.size=ls.length) (dQ:(ls.length==0)=aqZ) (fZ:arz i.bytes 32768=aqW) (aF:i.zero=aqV ca) (cg:ca.cells.toList.all cx=aqW) (dp:ca.cells.size=i.size)
  (xr:∀z,oz z (fm G ls) (to x0) ca.cells.toList) (hi:ca.cells.toList=ve ls):fw P G t where
 qu:=pz ls
 r3:=fun z vs=>by rw[hi];exact wT
 MV:=fun x=>uy
 lv:=fun x=>iv G ls (to x)
 pc:=fun cs=>match hP G ls cs with|some y=>aqV (of y)|none=>aqY
 x0:=x0
 i:=i
 ca:=ca
 tid:=by rw[hK];rfl
 ae:=ae
 bE:=by rw[hK,bE];exact Qy.symm
 dQ:=by rw[hK];show ((fm G ls).length==0)=aqZ;rw[Qy];exact dQ
 fZ:=fZ
 aF:=aF
 cg:=cg
 dp:=dp
 xr:=fun z=>by rw[hK];exact xr z
 rf:=fun z vs x cs h=>by rw[hK] at h;exact wR h
 q1:=fun z vs cs x ds h an=>by
  rw[hK];split at h
  ·rename_i y ag;cases h;show oz z (fm G ls) (to (of y)) ds;rw[J];exact ajp ag an
  ·cases h
 Nb:=fun x=>by show (match hP G ls (iv G ls (to x)) with|some y=>aqV (of y)|none=>aqY)=aqV x;rw[uE];exact congrArg aqV (h1 x)
 F6:=fun cs x h=>by
  split at h
  ·rename_i y ag;cases h;rw[J];exact amH ag
  ·cases h
theorem af4 (u:UInt8):oB (u.toNat:Int)=aqV u:=by
 unfold oB;have:=u.toNat_lt;rw[if_pos (by omega)];simp
def anO {t:Nat} (to:D t->UInt8) (of:UInt8->D t) (Vm:Option UInt8->Option (D t)) (Mp:∀o,Vm o=o.map of) (h1:∀x,of (to x)=x) (J:∀y,to (of y)=y) (i:TypeInfo) (ada:(G.T t).tid=t) (qT:(G.T t).a1=1) (dG:∀z x cs,(G.T t).rd z x cs↔cs=[.int .u8 (to x).toNat])
  (ae:P.info? t=aqV i) (bE:i.size=1) (fZ:arz i.bytes 32768=aqW) (aF:i.zero=aqV (.int .u8 0)):fw P G t where
 qu:=[.int .u8 0]
 r3:=fun z vs=>⟨rfl,trivial⟩
 MV:=fun x=>rfl
 lv:=fun x=>[.int .u8 (to x).toNat]
 pc:=fun cs=>match cs with|[.int .u8 n]=>Vm (oB n)|_=>aqY
 x0:=of 0
 i:=i
 ca:= .int .u8 0
 tid:=ada
 ae:=ae
 bE:=by rw[qT,bE]
 dQ:=by rw[qT];rfl
 fZ:=fZ
 aF:=aF
 cg:=rfl
 dp:=by rw[bE];rfl
 xr:=fun z=>(dG z _ _).2 (by rw[J];rfl)
 rf:=fun z vs x cs h=>by rw[(dG z x cs).1 h];exact ⟨rfl,trivial⟩
 q1:=fun z vs cs x ds h an=>by
  split at h
  ·rename_i n;cases ds with
   |nil=>exact an.elim
   |cons d ds=>
    cases ds with
    |cons _ _=>exact an.2.elim
    |nil=>
     rw[Mp] at h;cases hu:oB n with
     |none=>rw[hu] at h;cases h
     |some u=>rw[hu] at h;cases h;have:d= .int .u8 n:=an.1;rw[this,WS hu];exact (dG z _ _).2 (by rw[J])
  ·cases h
 Nb:=fun x=>by simp only[af4,Mp,asz,h1]
 F6:=fun cs x h=>by
  split at h
  ·rename_i n;rw[Mp] at h;cases hu:oB n with
   |none=>rw[hu] at h;cases h
   |some u=>rw[hu] at h;cases h;rw[J,WS hu];exact oJ.refl _
  ·cases h
def fL:(ls:List hR)->gr (fm G ls)->List aqX
 |[],_=>[]
 | .int k::ls,x=> .int k x.1::fL ls x.2
 | .bool::ls,x=> .bool x.1::fL ls x.2
 | .str::ls,x=>aS.str x.1::fL ls x.2
 | .az _::ls,x=>undef::fL ls x.2
 | .mp _ _ _::ls,x=>undef::fL ls x.2
 | .fn::ls,x=>undef::fL ls x.2
def lF (P:aq1):List Field->Nat->List hR->Bool
 |[],_,[]=>aqW
 | f :: bc, i, .int _ :: ls => (f.offset == i && f.name != "_") && ((match P.underlying f.type with | aqV (.int _) => aqW | _ => aqZ) && lF P bc (i + 1) ls)
 | f :: bc, i, .bool :: ls => (f.offset == i && f.name != "_") && ((match P.underlying f.type with | aqV .bool => aqW | _ => aqZ) && lF P bc (i + 1) ls)
 | f :: bc, i, .str :: ls => (f.offset == i && f.name != "_") && ((match P.underlying f.type with | aqV .string => aqW | _ => aqZ) && lF P bc (i + 1) ls)
 |_,_,_=>aqZ
theorem CA:∀{bc:List Field} {i:Nat} {ls:List hR} {x y:gr (fm G ls)},lF P bc i ls=aqW->mi P bc i (fL ls x) (fL ls y)
 |[],_,[],_,_,_=>trivial
 |f::bc,i, .int k::ls,x,y,h=>by
  simp only[lF,ara,beq_iff_eq,bne_iff_ne] at h;obtain ⟨⟨h1,J⟩,aj,aM⟩:=h;refine ⟨h1,J, .inl ?_,CA aM⟩;split at aj
  ·exact ⟨k,_,_,_,‹_›,rfl,rfl⟩
  ·cases aj
 |f::bc,i, .bool::ls,x,y,h=>by
  simp only[lF,ara,beq_iff_eq,bne_iff_ne] at h;obtain ⟨⟨h1,J⟩,aj,aM⟩:=h;refine ⟨h1,J, .inr (.inl ?_),CA aM⟩;split at aj
  ·exact ⟨_,_,‹_›,rfl,rfl⟩
  ·cases aj
 |f::bc,i, .str::ls,x,y,h=>by
  simp only[lF,ara,beq_iff_eq,bne_iff_ne] at h;obtain ⟨⟨h1,J⟩,aj,aM⟩:=h;refine ⟨h1,J, .inr (.inr ?_),CA aM⟩;split at aj
  ·exact ⟨_,_,‹_›,rfl,rfl⟩
  ·cases aj
 |_::_,_, .az _::_,_,_,h=>by cases h
 |_::_,_, .mp _ _ _::_,_,_,h=>by cases h
 |_::_,_, .fn::_,_,_,h=>by cases h
 |[],_,_::_,_,_,h=>by cases h
 |_::_,_,[],_,_,h=>by cases h
theorem C3:∀{bc:List Field} {i:Nat} {ls:List hR} {x y:gr (fm G ls)},lF P bc i ls=aqW->fL ls x=fL ls y->x=y
 |_,_,[],_,_,_,_=>rfl
 |f::bc,i, .int k::ls,x,y,h,e=>by simp only[lF,ara] at h;simp only[fL,List.cons.injEq] at e;exact ath (aqX.int.inj e.1).2 (C3 h.2.2 e.2)
 |f::bc,i, .bool::ls,x,y,h,e=>by simp only[lF,ara] at h;simp only[fL,List.cons.injEq] at e;exact ath (aqX.bool.inj e.1) (C3 h.2.2 e.2)
 |f::bc,i, .str::ls,x,y,h,e=>by simp only[lF,ara] at h;simp only[fL,List.cons.injEq] at e;exact ath (X7 e.1) (C3 h.2.2 e.2)
 |_::_,_, .az _::_,_,_,h,_=>by cases h
 |[],_, .az _::_,_,_,h,_=>by cases h
 |[],_, .int _::_,_,_,h,_=>by cases h
 |[],_, .bool::_,_,_,h,_=>by cases h
 |[],_, .str::_,_,_,h,_=>by cases h
 |_::_,_, .mp _ _ _::_,_,_,h,_=>by cases h
 |_::_,_, .fn::_,_,_,h,_=>by cases h
 |[],_, .mp _ _ _::_,_,_,h,_=>by cases h
 |[],_, .fn::_,_,_,h,_=>by cases h
theorem C5 {z:Nat->a6}:∀{bc:List Field} {i:Nat} {ls:List hR} {x:gr (fm G ls)} {ds:List aqX},lF P bc i ls=aqW->oz z (fm G ls) x ds->ds=fL ls x
 |_,_,[],_,[],_,_=>rfl
 |_,_,[],_,_::_,_,h=>h.elim
 |f::bc,i, .int k::ls,x,d::ds,h,e=>by simp only[lF,ara] at h;have h1:d= .int k x.1:=e.1;rw[fL,h1,<-C5 h.2.2 e.2]
 |f::bc,i, .bool::ls,x,d::ds,h,e=>by simp only[lF,ara] at h;have h1:d= .bool x.1:=e.1;rw[fL,h1,<-C5 h.2.2 e.2]
 |f::bc,i, .str::ls,x,d::ds,h,e=>by simp only[lF,ara] at h;have h1:d=aS.str x.1:=e.1;rw[fL,h1,<-C5 h.2.2 e.2]
 |_::_,_, .az _::_,_,_,h,_=>by cases h
 |_::_,_, .mp _ _ _::_,_,_,h,_=>by cases h
 |_::_,_, .fn::_,_,_,h,_=>by cases h
 |[],_,_::_,_,_,h,_=>by cases h
 |_::_,_, .int _::_,_,[],_,h=>h.elim
 |_::_,_, .bool::_,_,[],_,h=>h.elim
 |_::_,_, .str::_,_,[],_,h=>h.elim
def aeI {t:Nat} (ls:List hR) (to:D t->gr (fm G ls)) (of:gr (fm G ls)->D t) (h1:∀x,of (to x)=x) (bc:Array Field) (eq:D t->D t->Bool) (hK:G.T t=hd t (fm G ls) to) (he:∀x y,eq x y=aqW↔x=y)
  (ao:P.underlying t=aqV (.struct bc)) (ap:P.stoodInHeld t=aqZ) (aH:P.eqGuardType P.depth t=aqZ) (ay:lF P bc.toList 0 ls=aqW):mT P G t where
 bc:=bc
 eq:=eq
 dq:=fun x=>fL ls (to x)
 ao:=ao
 ap:=ap
 aH:=aH
 ay:=fun x y=>CA ay
 ad:=fun z x ds h=>by rw[hK] at h;exact C5 ay h
 he:=fun x y=>by
  rw[he];constructor
  ·rintro rfl;rfl
  ·intro h;have:=C3 ay h;rw[<-h1 x,<-h1 y,this]
def MP {au:Type} (k:aq2) (of:Int->au):aQ D->Option au:=fun s=>match s with| .c (.int dc n)=>if dc=k then aqV (of n) else aqY|_=>aqY
def MQ {au:Type} (of:List UInt8->au):aQ D->Option au:=fun s=>match s with| .c (.str n)=>aqV (of n)|_=>aqY
def FR {t:Nat} (ti:fw P G t):aQ D->Option (D t):=fun s=>match s with| .agg c7 cs=>if c7=t then ti.pc cs else aqY|_=>aqY
def QC {au:Type} (k:aq2) (of:Int->au):bJ D->Option au:=fun s=>match s with| .int dc n=>if dc=k then aqV (of n) else aqY|_=>aqY
def QB {au:Type} (of:Bool->au):bJ D->Option au:=fun s=>match s with| .bool n=>aqV (of n)|_=>aqY
theorem aik {z:Nat->a6} {vs:List aqX} {au:Type} {k:aq2} {of:Int->au} {s:aQ D} {a:au} {v:aqX} (h:MP k of s=aqV a) (an:rel G z vs s v):∃n,a=of n/\v= .int k n:=by
 unfold MP at h;split at h
 ·split at h
  ·rename_i hk;cases h;subst hk;exact ⟨_,rfl,an⟩
  ·cases h
 ·cases h
theorem ail {z:Nat->a6} {vs:List aqX} {au:Type} {of:List UInt8->au} {s:aQ D} {a:au} {v:aqX} (h:MQ of s=aqV a) (an:rel G z vs s v):∃n,a=of n/\v=aS.str n:=by
 unfold MQ at h;split at h
 ·cases h;exact ⟨_,rfl,an⟩
 ·cases h
theorem Yj {z:Nat->a6} {vs:List aqX} {t:Nat} {ti:fw P G t} {s:aQ D} {a:D t} {v:aqX} (h:FR ti s=aqV a) (an:rel G z vs s v):∃ds:List aqX,(G.T t).rd z a ds/\v= .agg ds.toArray:=by
 unfold FR at h;split at h
 ·obtain ⟨_,h⟩:=eW h;obtain ⟨ds,h1,J⟩:=an;exact ⟨ds,ti.q1 z vs _ _ _ h J,h1⟩
 ·cases h
theorem alM {z:Nat->a6} {vs:List aqX} {au:Type} {k:aq2} {of:Int->au} {s:bJ D} {a:au} {v:aqX} (h:QC k of s=aqV a) (an:dj G z vs s v):∃n,a=of n/\v= .int k n:=by
 unfold QC at h;split at h
 ·split at h
  ·rename_i hk;cases h;subst hk;exact ⟨_,rfl,an⟩
  ·cases h
 ·cases h
theorem alL {z:Nat->a6} {vs:List aqX} {au:Type} {of:Bool->au} {s:bJ D} {a:au} {v:aqX} (h:QB of s=aqV a) (an:dj G z vs s v):∃n,a=of n/\v= .bool n:=by
 unfold QB at h;split at h
 ·cases h;exact ⟨_,rfl,an⟩
 ·cases h
structure pD (P:aq1) (G:lP D) (kt:Nat) where
 dec:DecidableEq (D kt)
 K:j7 P kt (G.bS kt)
 og:aQ D->Option (D kt)
 rR:∀z vs s a v,og s=aqV a->rel G z vs s v->v=c4 (cW P kt) (G.bS kt a)
structure A9 (P:aq1) (G:lP D) (vt:Nat) where
 V:lQ P vt (G.bS vt)
 ta:bJ D->Option (D vt)
 oC:D vt->bJ D
 z0:D vt
 i:TypeInfo
 ae:P.info? vt=aqV i
 tU:cW P vt=aqZ
 aF:i.zero=aqV (c4 aqZ (G.bS vt z0))
 yT:∀z vs c a v,ta c=aqV a->dj G z vs c v->v=c4 aqZ (G.bS vt a)
 lY:∀z vs a,dj G z vs (oC a) (c4 aqZ (G.bS vt a))
def wk {kt vt:Nat} (a:pD P G kt) (b:A9 P G vt):Ek P G kt vt where
 dec:=a.dec
 K:=a.K
 V:=b.V
 og:=a.og
 ta:=b.ta
 oC:=b.oC
 z0:=b.z0
 i:=b.i
 ae:=b.ae
 aF:=by rw[b.tU];exact b.aF
 rR:=a.rR
 yT:=by rw[b.tU];exact b.yT
 lY:=by rw[b.tU];exact b.lY
 tU:=b.tU
def adV {kt:Nat} (k:aq2) (of:Int->D kt) (dec:DecidableEq (D kt)) (i:TypeInfo) (h:P.underlying kt=aqV (.int k)) (K:j7 P kt (G.bS kt)) (hk:∀n,G.bS kt (of n)=[.int k n]):pD P G kt where
 dec:=dec
 K:=K
 og:=MP k of
 rR:=fun z vs s a v h1 J=>by obtain ⟨n,rfl,rfl⟩:=aik h1 J;rw[hk,ps h rfl];rfl
def adX {kt:Nat} (of:List UInt8->D kt) (dec:DecidableEq (D kt)) (h:P.underlying kt=aqV .string) (K:j7 P kt (G.bS kt)) (hk:∀n,G.bS kt (of n)=[aS.str n]):pD P G kt where
 dec:=dec
 K:=K
 og:=MQ of
 rR:=fun z vs s a v h1 J=>by obtain ⟨n,rfl,rfl⟩:=ail h1 J;rw[hk,ps h rfl];rfl
def MS {t:Nat} (dec:DecidableEq (D t)) (ti:fw P G t) (ls:List hR) (to:D t->gr (fm G ls)) (of:gr (fm G ls)->D t) (h1:∀x,of (to x)=x) (bc:Array Field) (i:TypeInfo) (hK:G.T t=hd t (fm G ls) to)
  (ao:P.underlying t=aqV (.struct bc)) (ae:P.info? t=aqV i) (ap:P.stoodInHeld t=aqZ) (dQ:(i.size==0)=aqZ) (ay:lF P bc.toList 0 ls=aqW) (hlen:∀a,(G.bS t a).length=i.size) (hk:∀a,G.bS t a=fL ls (to a)):pD P G t where
 dec:=dec
 K:=afJ ao ae ap dQ hlen (fun a b=>by rw[hk,hk];exact CA ay) (fun a b h=>by
  rw[hk,hk] at h;have:=C3 ay h;rw[<-h1 a,<-h1 b,this])
 og:=FR ti
 rR:=fun z vs s a v J aj=>by obtain ⟨ds,g1,rfl⟩:=Yj J aj;rw[hK] at g1;rw[C5 ay g1,hk];simp only[cW,ao,jL,c4]
def adW {t:Nat} (k:aq2) (dec:DecidableEq (D t)) (ti:fw P G t) (to:D t->gr (fm G [.int k, .int k])) (of:gr (fm G [.int k, .int k])->D t) (h1:∀x,of (to x)=x) {e:Nat} (i Ce:TypeInfo) (hK:G.T t=hd t (fm G [.int k, .int k]) to)
  (ao:P.underlying t=aqV (.array 2 e)) (he:P.underlying e=aqV (.int k)) (im:P.info? e=aqV Ce) (hg:Ce.size=1) (ae:P.info? t=aqV i) (ht:i.size=2) (hk:∀a,G.bS t a=fL [.int k, .int k] (to a)):pD P G t where
 dec:=dec
 K:=ahb (k:=k) (fun a=>(to a).1) (fun a=>(to a).2.1) ao he im hg ae ht (fun a=>by rw[hk];rfl) (fun a b J aj=>by
  rw[<-h1 a,<-h1 b];congr 1;exact ath J (ath aj rfl))
 og:=FR ti
 rR:=fun z vs s a v J aj=>by
  obtain ⟨ds,g1,rfl⟩:=Yj J aj;rw[hK] at g1;have:ds=fL [.int k, .int k] (to a):=by
   match ds,g1 with
   |[x,y],⟨g1,g2,_⟩=>rw[g1,g2];rfl
  rw[this,hk];simp only[cW,ao,jL,c4]
def anW {vt:Nat} (k:aq2) (of:Int->D vt) (to:D vt->Int) (h1:∀x,of (to x)=x) (i:TypeInfo) (h:P.underlying vt=aqV (.int k)) (ae:P.info? vt=aqV i) (V:lQ P vt (G.bS vt)) (hk:∀n,G.bS vt (of n)=[.int k n]) (aF:i.zero=aqV (.int k 0)):A9 P G vt where
 V:=V
 ta:=QC k of
 oC:=fun x=> .int k (to x)
 z0:=of 0
 i:=i
 ae:=ae
 tU:=ps h rfl
 aF:=by rw[hk];exact aF
 yT:=fun z vs c a v g1 g2=>by obtain ⟨n,rfl,rfl⟩:=alM g1 g2;rw[hk];rfl
 lY:=fun z vs a=>by have:=hk (to a);rw[h1] at this;rw[this];rfl
def anV {vt:Nat} (of:Bool->D vt) (to:D vt->Bool) (h1:∀x,of (to x)=x) (i:TypeInfo) (h:P.underlying vt=aqV .bool) (ae:P.info? vt=aqV i) (V:lQ P vt (G.bS vt)) (hk:∀n,G.bS vt (of n)=[.bool n]) (aF:i.zero=aqV (.bool aqZ)):A9 P G vt where
 V:=V
 ta:=QB of
 oC:=fun x=> .bool (to x)
 z0:=of aqZ
 i:=i
 ae:=ae
 tU:=ps h rfl
 aF:=by rw[hk];exact aF
 yT:=fun z vs c a v g1 g2=>by obtain ⟨n,rfl,rfl⟩:=alL g1 g2;rw[hk];rfl
 lY:=fun z vs a=>by have:=hk (to a);rw[h1] at this;rw[this];rfl
theorem aia {X:dB P D} {B:Code} {u:k9 D} {us:List (k9 D)} (h:pG X B u) (ay:∀v∈us,pG X B v):∀v∈u::us,pG X B v:=by
 intro v ad;rcases arb.1 ad with rfl|ad
 ·exact h
 ·exact ay v ad
theorem ajo {X:dB P D} {B:Code}:∀v∈([]:List (k9 D)),pG X B v:=by simp
theorem b3.law {X:dB P D} {d:b4 D} {F:d.F} (cB:b3 X d F) {m:Mem} {z:Nat->a6} (aF:j5 z m) (aB:∀b,m.next<=b->m.aG b= .dead) {bN:List (aQ D)} {args:List aqX} (cC:ba (rel X.G z []) bN args)
  (h:d.call X F bN [] (fun c3 _=>aqV c3)=aqV (.c (.bool aqW))):hx P d.f args.toArray m fun v _=>v= .bool aqW:=by
 have aw:bm X.G ([]:List (aL D)) z m m aqY []:=⟨cL.start aF aB,rfl,by simp,by simp⟩
 refine (cB bN [] (fun c3 _=>aqV c3) _ args aw cC h).mono fun v m' ad=> ?_;obtain ⟨⟨z',vs',c3,bD,_,_,_,_,an,fB⟩,_⟩:=ad;cases fB;exact an
end
end
end Go.aS
end
section
namespace Go.aS
noncomputable section
section
variable {P:aq1} {D:Nat->Type} {X:dB P D} {af:Type} {z z':Nat->a6} {e m m':Mem} {k:Option Nat} {vs vs':List aqX} {fr:Nat->aqX} {E:List (Nat×aQ D)} {O bD:List (aL D)}
theorem GO (l:iF D) {eO:List Nat}:∀(aE:List dk) (x:ew D aE) (aZ:List Nat) (O:List (aL D)),kZ (X.eI l) eO aE x aZ O=kZ X eO aE x aZ O
 |[],_,_,_=>rfl
 | .o _ c::aE,x,[],O=>rfl
 | .o _ c::aE,x,i::aZ,O=>by show kZ (X.eI l) eO aE x.2 aZ (O.set i (bB.fe (X.eI l) (fun n=>eO.getD n 0) c x.1 (st c O i)))=kZ X eO aE x.2 aZ (O.set i (bB.fe X (fun n=>eO.getD n 0) c x.1 (st c O i)));rw[GO l aE x.2 aZ];exact congrArg (fun q=>kZ X eO aE x.2 aZ (O.set i q)) (bB.FW l _ c x.1 _)
 | .v _ _::aE,x,aZ,O=>GO l aE x.2 aZ O
 | .u _ _::aE,x,aZ,O=>GO l aE x.2 aZ O
theorem VO (l:iF D) {bY:Nat->Nat} {aZ ks:List Nat} {outs:List dk} {y:ew D outs}:∀(O:List (aL D)) (i:Nat),ra (X.eI l) bY aZ ks outs y i O=ra X bY aZ ks outs y i O
 |[],i=>rfl
 |o::O,i=>by simp only[ra,Cx,VO l O (i+1)]
theorem aga (l:iF D) (aE:List dk) (eE:List (Nat×aQ D)) (E:List (Nat×aQ D)) (O:List (aL D)):re (X.eI l) aE eE E O=re X aE eE E O:=by
 simp only[re,HH,CY,GO]
theorem Xa (l:iF D) (p:gh D) (F:p.F) (E:List (Nat×aQ D)) (O:List (aL D)) {af:Type} (K:dX->List (Nat×aQ D)->List (aL D)->Option af):p.run (X.eI l) F E O K=p.run X F E O K:=by
 have aX:∀(aZ:List Nat) (N:Nat) (cN:kK D) (y:ew D cN.outs) (E:List (Nat×aQ D)),Ba (X.eI l) p aZ N cN y E=Ba X p aZ N cN y E:=fun aZ N cN y E=>by simp only[Ba,zo]
 have e2:∀(aZ:List Nat) (cX:List (aL D)) (cN:kK D) (y:ew D cN.outs),qy (X.eI l) p aZ cX cN y=qy X p aZ cX cN y:=fun aZ cX cN y=>by simp only[qy,VO,zf]
 unfold gh.run gh.Ac;simp only[aga,aX,e2]
def Cn:dX->dX
 | .normal=> .ret
 |ex=>ex
theorem agT {ex:dX} (h:Cn ex= .ret):ex= .normal\/ex= .ret:=by
 cases ex<;>first|exact .inl rfl|exact .inr rfl|cases h
structure gM (D:Nat->Type) where
 f:Nat
 nr:Nat
 ins:List dk
 eE:List (Nat×aQ D)
 ks:List Nat
 outs:List dk
 lx:List (Nat×aQ D)
 ch:List Nat
 bg:Bool:=aqZ
def EX (keep:List Nat) (i:Nat) (O:List (aL D)):List (aL D):=
 match O[i]? with
 |some (.box t cs aqZ w)=>if (!(keep.any (ard i))&&cs.all Za)=aqW then O.set i (.box t cs aqW w) else O
 |_=>O
def Ht (keep:List Nat):Nat->List (aL D)->List (aL D)
 |0,O=>O
 |n+1,O=>EX keep n (Ht keep n O)
theorem ahq {keep:List Nat} {i:Nat} (aw:bm X.G O z e m k vs):∃z',Inv O (EX keep i O)/\cT e.next z z'/\bm X.G (EX keep i O) z' e m k vs:=by
 unfold EX;split
 ·rename_i t cs w ai;split
  ·rename_i ab;simp only[ara] at ab;obtain ⟨v,ad,b0⟩:=aw.at ai;have acB:=b0;obtain ⟨b,ds,rfl,_⟩:=acB;have ka:wV O (.box i 0)=aqV ((t,cs),O.set i (.box t cs aqW w)):=by
    simp only[wV,ai];rw[if_pos ⟨trivial,ab.2⟩]
   obtain ⟨z',aI,h1,J,_⟩:=NY (X:=X) aw (s:= .box i 0) (g:= .pointer (aqV ⟨b,0,aqY⟩)) ⟨b,ad,rfl⟩ ka;exact ⟨z',aI,h1,J⟩
  ·exact ⟨z,Inv.refl _,cT.refl z,aw⟩
 ·exact ⟨z,Inv.refl _,cT.refl z,aw⟩
theorem Xj {keep:List Nat} (aw:bm X.G O z e m k vs):∀n:Nat,∃z',Inv O (Ht keep n O)/\cT e.next z z'/\bm X.G (Ht keep n O) z' e m k vs
 |0=>⟨z,Inv.refl _,cT.refl z,aw⟩
 |n+1=>by obtain ⟨cr,aI,h1,J⟩:=Xj aw n;obtain ⟨z2,g0,g1,g2⟩:=ahq (keep:=keep) (i:=n) J;exact ⟨z2,aI.trans g0,h1.trans g1,g2⟩
def gM.pre (d:gM D) (bN:List (aQ D)) (O:List (aL D)):List (aL D):=if d.bg=aqW then Ht (Ps O 100 (Y1 (k5 0 bN)) []) O.length O else O
theorem gM.aew {d:gM D} {bN:List (aQ D)} (aw:bm X.G O z e m k vs):∃z',Inv O (d.pre bN O)/\cT e.next z z'/\bm X.G (d.pre bN O) z' e m k vs:=by
 unfold gM.pre;split
 ·exact Xj aw _
 ·exact ⟨z,Inv.refl _,cT.refl z,aw⟩
def gM.hY (d:gM D):gh D:={path:=[],ins:=d.ins,eE:=d.eE,ks:=d.ks,ik:=[⟨.ret,d.outs,d.lx⟩],keep:=[]}
def amV:dX->Bool
 | .ret=>aqW
 |_=>aqZ
variable (X) in
def gM.call (d:gM D) (F:d.hY.F) (bN:List (aQ D)) (O:List (aL D)) {af:Type} (K:aQ D->List (aL D)->Option af):Option af:=
 if ard bN.length d.nr=aqW then d.hY.run X F (k5 0 bN) (d.pre bN O) fun ex E O=>if amV ex=aqW then (match DL E d.ch with|some c3=>K c3 O|none=>aqY) else aqY
 else aqY
variable (X) in
def gM.fits (d:gM D) (bN:List (aQ D)) (O:List (aL D)):Bool:=
 ard bN.length d.nr&&(re X d.ins d.eE (jz d.ins (k5 0 bN) O).1 (jz d.ins (k5 0 bN) O).2).isSome
structure Ji (P:aq1) (X:dB P D) (d:gM D) (F:d.hY.F):Prop where
 ex:∃fn c,P.funcs[d.f]? =aqV fn/\fn.body=aqV c/\mA P d.f=aqW/\arz d.nr fn.ntmps=aqW/\fn.results.toList=d.ch.map .tmp/\d.hY.oN c=aqW/\rq Cn X c d.hY F
def eL (X:dB P D) (d:gM D) (F:d.hY.F):Prop:=∀(bN:List (aQ D)) (O:List (aL D)) {af:Type} (K:aQ D->List (aL D)->Option af) (r:af) {z:Nat->a6} {e m:Mem} {k:Option Nat} {vs:List aqX} (args:List aqX),
 bm X.G O z e m k vs->ba (rel X.G z vs) bN args->d.call X F bN O K=aqV r->hx P d.f args.toArray m fun v m'=>c5 X O z e k vs K r v m'
theorem Yb {m:Mem}:∀(l:List Nat),pf P fr m (l.map .tmp) (l.map fr)
 |[]=>trivial
 |_::l=>⟨rfl,Yb l⟩
theorem Ji.call {d:gM D} {F:d.hY.F} (cB:Ji P X d F):eL X d F:=by
 intro bN O af K r z e m k vs args aw cC h;obtain ⟨fn,c,f1,f2,f3,f4,f5,f6,fK⟩:=cB.ex;unfold gM.call at h;obtain ⟨hlen,h⟩:=eW h;have hlen:=arA hlen;have bE:args.toArray.size<=fn.ntmps:=by rw[List.size_toArray,<-cC.length,hlen];exact asg f4
 refine hx.any f1 f2 f3 bE fun fr ga=> ?_;have aT:eA X z vs (k5 0 bN) fr:=Oj cC fun j v av=>by rw[arh];exact ga j v (by simpa using av)
 obtain ⟨aqT,lz,c8,dR⟩:=gM.aew (d:=d) (bN:=bN) aw;have aa:=fK.zb f6 (k5 0 bN) (d.pre bN O) _ r dR (aT.mono c8.le fun _ _ h=>h) h;rw[show sub c d.hY.path=c from pj c] at aa;refine aa.mono ?_;rintro ex eV m1 ⟨cr,jb,jI,bL,aI,h1,J,aj,aM,bq⟩;obtain ⟨an,bq⟩:=eW bq;have hex:Cn ex= .ret:=by revert an;cases Cn ex<;>intro an<;>first|rfl|cases an
 split at bq
 ·rename_i c3 B8;obtain ⟨bs,bC⟩:=OY aM B8;exact ⟨agT hex,_,by rw[f5];exact Yb d.ch,bC,cr,jb,c3,bL,lz.trans aI,c8.trans h1,J,aj,bs,bq⟩
 ·cases bq
theorem eL.none {d:gM D} {F:d.hY.F} (aI:∀x,F x=aqY):eL X d F:=by
 intro bN O af K r z e m k vs args aw cC h;unfold gM.call at h;obtain ⟨_,h⟩:=eW h;unfold gh.run gh.Ac at h;split at h
 ·rw[aI] at h;cases h
 ·cases h
theorem eL.base {q:iF D} {d:gM D} {F:d.hY.F} (h:eL (X.eI q) d F):eL X d F:=by
 intro bN O af K r z e m k vs args aw cC ab;have ab:d.call (X.eI q) F bN O K=aqV r:=by unfold gM.call at ab⊢;rw[Xa];exact ab
 exact h bN O K r args aw cC ab
structure GE (D:Nat->Type) where
 d:gM D
 F:d.hY.F
variable (X) in
def Bq:List (GE D)->Nat->List (aQ D)->List (aL D)->{af:Type}->(aQ D->List (aL D)->Option af)->Option af
 |[],f,bN,O,_,K=>X.C f bN O K
 |x::l,f,bN,O,_,K=>if (ard x.d.f f&&x.d.fits X bN O)=aqW then x.d.call X x.F bN O K else Bq l f bN O K
variable (X) in
def Br:List (GE D)->Nat->List (aQ D)->List (aL D)->Bool
 |[],f,bN,O=>X.F f bN O
 |x::l,f,bN,O=>if (ard x.d.f f&&x.d.fits X bN O)=aqW then aqZ else Br l f bN O
variable (X) in
def yp:List (GE D)->Nat->Bool
 |[],f=>X.W f
 |x::l,f=>ard x.d.f f||yp l f
def dB.gen (X:dB P D) (l:List (GE D)):dB P D:=X.eI ⟨Br X l,X.dF,Bq X l,yp X l⟩
theorem Yx (bW:fS X) {f:Nat} {bN:List (aQ D)} {K:aQ D->List (aL D)->Option af} {r:af} {args:List aqX} (aw:bm X.G O z e m k vs) (cC:ba (rel X.G z vs) bN args):∀{l:List (GE D)},(∀x∈l,eL X x.d x.F)->Bq X l f bN O K=aqV r->
  hx P f args.toArray m fun v m'=>c5 X O z e k vs K r v m'/\(Br X l f bN O=aqW->m'=m)/\(yp X l f=aqZ->∃q,fu m m' q/\mU vs (qa bN) q)
 |[],_,ab=>bW f bN O K r args aw cC ab
 |x::l,h,ab=>by
  unfold Bq at ab;unfold Br yp;split at ab
  ·rename_i U;rw[if_pos U];simp only[ara] at U;have:=arA U.1;subst this;refine (h x arp bN O K r args aw cC ab).mono fun v m' ar=>⟨ar,fun ax=>atT ax,fun ax=> ?_⟩
   rw[U.1] at ax;cases ax
  ·rename_i U;rw[if_neg U];refine (Yx bW aw cC (fun y ag=>h y (ark _ ag)) ab).mono fun v m' ar=>⟨ar.1,ar.2.1,fun ax=>ar.2.2 ?_⟩
   cases aa:yp X l f with
   |false=>rfl
   |true=>rw[aa,Bool.or_true] at ax;cases ax
theorem fS.gen {l:List (GE D)} (bW:fS X) (h:∀x∈l,eL X x.d x.F):fS (X.gen l):=by
 intro f bN O af K r z e m k vs args aw cC ab;exact Yx (X:=X) bW aw cC h ab
theorem b3.eI {q:iF D} {d:b4 D} {F:d.F} (h:b3 (X.eI q) d F):b3 X d F:=by
 intro bN O af K r z e m k vs args aw cC ab;rw[<-CG q] at ab;exact h bN O K r args aw cC ab
theorem b3.anT {l:List (GE D)} {d:b4 D} {F:d.F} (h:b3 X d F):b3 (X.gen l) d F:=by
 intro bN O af K r z e m k vs args aw cC ab;have ab:d.call (X.eI ⟨Br X l,X.dF,Bq X l,yp X l⟩) F bN O K=aqV r:=ab;rw[CG] at ab;exact h bN O K r args aw cC ab
theorem eL.up {q:iF D} {d:gM D} {F:d.hY.F} (h:eL X d F):eL (X.eI q) d F:=by
 intro bN O af K r z e m k vs args aw cC ab;have ab:d.call X F bN O K=aqV r:=by unfold gM.call at ab⊢;rw[Xa] at ab;exact ab
 exact h bN O K r args aw cC ab
theorem fS.aaT {bc:List (nK D)} {l:List (GE D)} (bW:fS (X.with bc)) (h:∀x∈l,eL X x.d x.F):fS ((X.with bc).gen l):=fS.gen bW fun x U=>(h x U).up
theorem ahu:∀y∈([]:List (GE D)),eL X y.d y.F:=by simp
theorem af5 {l:List (GE D)} {x:GE D} (h:eL X x.d x.F) (ah:∀y∈l,eL X y.d y.F):∀y∈x::l,eL X y.d y.F:=by
 intro y ag;rcases arb.1 ag with rfl|ag
 ·exact h
 ·exact ah y ag
end
end
end Go.aS
end
section
namespace Go.aS
open Go.ChangeMaps (setBlock)
theorem W.ext {P:aq1} {a b:Code} {Q:dX->(Nat->aqX)->Mem->Prop} {fr fr':Nat->aqX} {m m':Mem} {e:dX} (h:Je P (.seq a b) fr m e fr' m') (aJ:Q e fr' m'):W P (.seq a b) Q fr m:=⟨1,e,fr',m', .inr h,aJ⟩
theorem Post.aev {P:aq1} {j bX:bo} {m m':Mem} {w w' nF:World} {r:Nat} (h:Post P j m w bX m' w') (an:w.heap.size<=r) (ay:nF.heap.size=w'.heap.size) (ai:nF.os=w'.os) (ao:nF.tape=w'.tape) (ap:nF.output=w'.output)
  (aa:∀c,c≠r->nF.heap[c]? =w'.heap[c]?) {bV:Nat} (ar:∀b e,bX b=aqV e->b≠bV->e.aG≠r) (aB:m'.aG bV= .dead):Post P j m w bX m' nF:=
 ⟨⟨fun b e cu=>⟨(h.rel.lt b e cu).1,by rw[ay];exact (h.rel.lt b e cu).2⟩,fun b e cu=>by
   by_cases ky:b=bV
   ·rw[ky,aB];trivial
   ·rw[aa _ (ar b e cu ky)];exact h.rel.obj b e cu,h.rel.inj⟩,
  ⟨ai.trans h.ed.os,ao.trans h.ed.tape,ap.trans h.ed.output,by rw[ay];exact h.ed.size,fun c ab ke=>by rw[aa c (by omega)];exact h.ed.block c ab ke⟩,h.next,h.ext,h.fresh,h.dh,h.alive⟩
theorem Post.apart {P:aq1} {j bX:bo} {m m':Mem} {w w':World} {r bV:Nat} (h:Post P j m w bX m' w') (an:r<w.heap.size) (ar:∀b e,j b=aqV e->b≠bV->e.aG≠r) (aB:m.aG bV= .dead):∀b e,bX b=aqV e->b≠bV->e.aG≠r:=by
 intro b e aa ky;rcases arQ b m.next with aN|e8
 ·exact ar b e (by rw[<-h.ext b aN];exact aa) ky
 ·rcases h.fresh b e aa e8 with aP|⟨df,dt,h1,J,aj⟩
  ·omega
  ·rw[<-aj];exact ar df dt h1 (fun ax=>by rw[ax,aB] at J;cases J)
theorem Post.dead {P:aq1} {j bX:bo} {m m':Mem} {w w':World} {b:Nat} (h:Post P j m w bX m' w') (aa:b<m.next) (aB:m.aG b= .dead):m'.aG b= .dead:=by
 have:=h.alive b aa;rw[aB] at this;cases U:m'.aG b with
 |dead=>rfl
 |_=>rw[U] at this;exact absurd (this rfl) (by simp[a6.live])
def s8 (i7:Nat) (jt:Array Oper) (iT i8:Nat) (je:Array Oper) (anr kR i9:Nat) (jf:Array Oper) (i10:Nat) (hp:Array Oper) (fU:Code):Code:=
 .seq (.seq (.region i7 jt aqZ) (.block iT (.loop (.seq (.region i8 je aqZ) (.seq (.cond (.tmp anr) .skip (.exit iT)) (.block kR (.seq (.region i9 jf aqZ) (.region i10 hp aqZ)))))))) fU
def mh:List Oper->List (Option Nat×Op)->Prop
 |[],[]=>True
 |o::os,p::bK=>(o.dst=p.1/\o.op=p.2/\o.guard=aqY)/\mh os bK
 |_,_=>False
section
variable {P:aq1} {ops:Array Oper} {Q:Exit->Act->World->Prop} {l:List Oper} {a:Act} {w w':World} {o:Oper} {v:aqX}
theorem mN (aH:o.guard=aqY) (an:(execOp a.eval o).run P w= .ok (.value v) w') (h:wpList P ops Q l (a.put o.dst v) w'):wpList P ops Q (o::l) a w:=by
 unfold wpList;rw[if_pos (by simp[Region.wanted,aH])];left;unfold Oper.wp;rw[an];exact h
end
def dZ (a:Act) (t:Nat):aqX:=a.tmps.getD t undef
theorem mG {a:Act} {d t:Nat} {v:aqX} (aB:d<a.tmps.size):dZ (a.put (aqV d) v) t=if t=d then v else dZ a t:=GZ aB
theorem Gl {a:Act} {d:Nat} {v:aqX} (aB:d<a.tmps.size):dZ (a.put (aqV d) v) d=v:=by rw[mG aB,if_pos rfl]
theorem N0 {a:Act} {d t:Nat} {v:aqX} (aB:d<a.tmps.size) (h:t≠d):dZ (a.put (aqV d) v) t=dZ a t:=by rw[mG aB,if_neg h]
def hF (v:aqX):Prop:=∀b,v≠ .bool b
structure SB (mt:aq4) (jt je jf:Array Oper):Prop where
 h3:mh jt.toList [(aqV 29, .move (.tmp 8)),(aqV 30, .range mt (.tmp 29))]
 hU:mh je.toList [(aqV 31, .next (.tmp 30) aqZ),(aqV 32, .extract (.tmp 31) 0)]
 nT:mh jf.toList [(aqV 33, .entry (.tmp 30)),(aqV 34, .extract (.tmp 33) 0),(aqV 35, .extract (.tmp 33) 1),(aqV 9, .assign (.tmp 34)),(aqV 10, .assign (.tmp 35))]
def jc (t:Nat):Bool:=(arz 29 t&&arz t 41)||(ard t 6||(ard t 9||ard t 10))
def Cj (t:Nat):Bool:=ard t 31||((arz 33 t&&arz t 41)||(ard t 9||ard t 10))
theorem mh.nil {l:List Oper} (h:mh l []):l=[]:=by
 cases l with
 |nil=>rfl
 |cons _ _=>exact h.elim
theorem mh.cons {l:List Oper} {p:Option Nat×Op} {bK:List (Option Nat×Op)} (h:mh l (p::bK)):∃o os,l=o::os/\o.dst=p.1/\o.op=p.2/\o.guard=aqY/\mh os bK:=by
 cases l with
 |nil=>exact h.elim
 |cons o os=>exact ⟨o,os,rfl,h.1.1,h.1.2.1,h.1.2.2,h.2⟩
section
variable {P:aq1} {a:Act} {w:World} {o:Oper}
theorem W9 {x:aq3} (h:o.op= .move x):(execOp a.eval o).run P w= .ok (.value (a.eval x)) w:=by simp[execOp,h]
theorem VY {x:aq3} (h:o.op= .assign x):(execOp a.eval o).run P w= .ok (.value (a.eval x)) w:=by simp[execOp,h]
theorem Cu {x:aq3} {i:Nat} {vs:Array aqX} {v:aqX} (h:o.op= .extract x i) (U:a.eval x= .tuple vs) (ad:vs[i]? =aqV v):(execOp a.eval o).run P w= .ok (.value v) w:=by
 simp[execOp,h,U,Instr.extract,ad]
theorem oq {t:Nat}:a.eval (.tmp t)=dZ a t:=rfl
end
noncomputable section
section
variable {P:aq1} {D:Nat->Type} {X:dB P D}
def y4 (O:List (aL D)):aQ D->Bool
 | .c (.int _ _)| .c (.str _)| .c .fz| .c (.az _ _)| .agg _ _| .box _ _| .undef| .mL _=>aqW
 | .c (.own i)=>ard i 0||(match O[i]? with|some (.az _ _ aqZ _)=>aqW|_=>aqZ)
 |_=>aqZ
def Bo (e:Nat) (E:List (Nat×aQ D)) (O:List (aL D)):Option (List (D e)):=
 if ([36,37,38,39,40,41].all fun t=>y4 O (eg E t))=aqW then
  match eg E 6 with
  | .c (.own j)=>(match O[j]? with|some (.az bx xs aqZ _)=>if h:bx=e then aqV (h▸xs) else aqY|_=>aqY)
  |_=>aqY
 else aqY
theorem N6 {x:Option Addr} {l c:Nat}:hF (.slice x l c):=fun b h=>by cases h
theorem Ym {O:List (aL D)} {z:Nat->a6} {e m:Mem} {k:Option Nat} {vs:List aqX} {s:aQ D} {v:aqX} (aw:bm X.G O z e m k vs) (aI:∀u,vs[0]? =aqV u->hF u) (ay:y4 O s=aqW) (h:rel X.G z vs s v):hF v:=by
 unfold y4 at ay;split at ay
 ·intro b aa;rw[show v=_ from h] at aa;cases aa
 ·intro b aa;rw[show v=_ from h] at aa;cases aa
 ·intro b aa;rw[show v=_ from h] at aa;cases aa
 ·obtain ⟨a,c,ad⟩:=er.len h;intro b aa;rw[ad] at aa;cases aa
 ·obtain ⟨ds,ad,_⟩:=h;intro b aa;rw[ad] at aa;cases aa
 ·obtain ⟨df,_,ad⟩:=h;intro b aa;rw[ad] at aa;cases aa
 ·intro b aa;rw[show v=_ from h] at aa;cases aa
 ·obtain ⟨ds,ad,_⟩:=h;intro b aa;rw[ad] at aa;cases aa
 ·rename_i i;simp only[ar7] at ay;rcases ay with ay|ay
  ·have:=arA ay;subst this;exact aI v h.1
  ·split at ay
   ·rename_i aX xs w ai;have b0:=aw.obj i _ v ai h.1;obtain ⟨a,c,ad⟩:=(show c6 _ z e m k xs v from b0).bf.len;intro b aa;rw[ad] at aa;cases aa
   ·cases ay
 ·cases ay
theorem Dk {j:bo} {v aV:aqX} (h:cb j v aV) (ad:hF v):hF aV:=Wd h ad
def any:aqX:= .chan aqY
theorem pn {j:bo} {aV:aqX} (h:hF aV):cb j any aV:=h
variable (P X)
structure vl (e kt vt:Nat) where
 app:D kt->D vt->D e
 DN:D kt->aQ D
 c3:D vt->aQ D
 o7:D kt->aqX
 nE:D vt->aqX
 hk:∀z vs a,rel X.G z vs (DN a) (o7 a)
 ad:∀z vs a,rel X.G z vs (c3 a) (nE a)
 M3:∀a,hF (o7 a)
 dd:∀a,hF (nE a)
 TL:∀a,flat (o7 a)=aqW
 yn:∀a,flat (nE a)=aqW
variable {P X}
def FU (jw r:Nat) (w:World):Nat:=
 match w.heap[jw]?,w.heap[r]? with
 |some (.map es _),aqV (.mapIter _ _ seen _)=>(leftOf es seen).size
 |_,_=>0
structure vj (P:aq1) (D:Nat->Type) (X:dB P D) (e kt vt:Nat) where
 V:vl P X e kt vt
 N:Nat
 eo:bo
 m0:Mem
 de:World
 EW:Nat->aqX
 z0:Nat->a6
 em:Mem
 k:Option Nat
 xs:List (D e)
 cs:Array MapEntry
 gH:Nat
 jw:Nat
 r:Nat
 bV:Nat
structure Jl {e kt vt:Nat} (B:vj P D X e kt vt):Prop where
 bV:B.bV<B.m0.next
 dead:B.m0.aG B.bV= .dead
 aaN:B.eo B.bV=aqV ⟨B.r,0,0,0⟩
 r:B.de.heap.size<=B.r
 jw:B.de.heap[B.jw]? =aqV (.map B.cs B.gH)
 JJ:B.jw<B.de.heap.size
 free:∀b q,B.eo b=aqV q->(B.m0.aG b).hM=aqW->q.aG≠B.jw
 aO:wO B.cs B.gH
 es:∀x∈B.cs.toList,∃p:D kt×D vt,x.key=B.V.o7 p.1/\x.val=B.V.nE p.2
 len:B.xs.length+B.cs.size<=mg
structure vk {e kt vt:Nat} (B:vj P D X e kt vt) (a:Act) (w:World) (fN:List MapEntry) (bK:List (D kt×D vt)) (v6:aqX) (mk:Mem) (jl:bo) (mc:Nat->a6) (wf:Bool):Prop where
 post:Post P B.eo B.m0 B.de jl mk w
 QF:WF mk
 y3:bm X.G [.az e (B.xs++bK.map fun p=>B.V.app p.1 p.2) aqZ wf] mc B.em mk B.k [v6]
 aaa:cT B.em.next B.z0 mc
 rel:ba (fun (p:D kt×D vt) (x:MapEntry)=>x.key=B.V.o7 p.1/\x.val=B.V.nE p.2) bK fN
 Bl:∀b q,jl b=aqV q->b≠B.bV->q.aG≠B.r
 mem:∀x∈fN,x∈B.cs.toList
 fF:(fN.map (·.born)).Nodup
 defers:a.defers=[]
 size:a.tmps.size=B.N
 v6:cb jl v6 (dZ a 6)
 ZH:hF (dZ a 29)
 v30:dZ a 30= .pointer (aqV ⟨B.r,0,aqY⟩)
 off:∀t,jc t=aqZ->cb jl (B.EW t) (dZ a t)
 on:∀t,Cj t=aqW->(fN=[]->cb jl (B.EW t) (dZ a t))/\(fN≠[]->hF (dZ a t))
def Hg {e kt vt:Nat} (B:vj P D X e kt vt) (w:World) (fN:List MapEntry):Prop:=∃kS,w.heap[B.r]? =aqV (.mapIter (aqV B.jw) B.gH (fN.map (·.born)).toArray kS)/\B.gH<=kS
theorem vk.map {e kt vt:Nat} {B:vj P D X e kt vt} (fK:Jl B) {a:Act} {w:World} {fN:List MapEntry} {bK:List (D kt×D vt)} {v6:aqX} {mk:Mem} {jl:bo} {mc:Nat->a6} {wf:Bool} (h:vk B a w fN bK v6 mk jl mc wf):w.heap[B.jw]? =aqV (.map B.cs B.gH):=by
 rw[h.post.ed.block B.jw fK.JJ fK.free];exact fK.jw
theorem af6 {l:List MapEntry} (h:(l.map (·.born)).Nodup) {x y:MapEntry} (U:x∈l) (ag:y∈l) (he:x.born=y.born):x=y:=by
 have h1:=find_born x l h U;have J:=find_born y l h ag;rw[he] at h1;rw[h1] at J;exact arr.inj J
theorem Wr {au:Type} [DecidableEq au]:∀{l m:List au},l.Nodup->(∀x∈l,x∈m)->l.length<=m.length
 |[],_,_,_=>asd _
 |a::l,m,ar,ay=>by have aq:=ay a arp;obtain ⟨h1,J⟩:=List.nodup_cons.1 ar;have:=Wr (m:=m.erase a) J fun x U=>(List.mem_erase_of_ne (fun (he:x=a)=>h1 (by rw[<-he];exact U))).2 (ay x (ark _ U));rw[List.length_erase_of_mem aq] at this;have ap:0<m.length:=List.length_pos_of_mem aq;simp only[arw];omega
theorem ahw {e:Nat} {E:List (Nat×aQ D)} {O:List (aL D)} {bi:List (D e)} (h:Bo e E O=aqV bi):(∀t,36<=t->t<=41->y4 O (eg E t)=aqW)/\∃j wf,eg E 6= .c (.own j)/\O[j]? =aqV (.az e bi aqZ wf):=by
 unfold Bo at h;obtain ⟨h1,h⟩:=eW h;refine ⟨fun t aq aa=> ?_, ?_⟩
 ·have J:=arc.1 h1;refine J t ?_;simp only[arb,asF,or_false];omega
 ·split at h
  ·rename_i j av;split at h
   ·rename_i bx xs wf ai;split at h
    ·rename_i he;subst he;cases h;exact ⟨j,wf,av,ai⟩
    ·cases h
   ·cases h
  ·cases h
theorem ba.snoc {au bz:Type} {R:au->bz->Prop}:∀{l:List au} {k:List bz} {a:au} {b:bz},ba R l k->R a b->ba R (l++[a]) (k++[b])
 |[],[],_,_,_,h=>⟨h,trivial⟩
 |[],_::_,_,_,h,_=>h.elim
 |_::_,[],_,_,h,_=>h.elim
 |_::_,_::_,_,_,⟨h1,J⟩,h=>⟨h1,ba.snoc J h⟩
theorem ain {O:List (aL D)} {z:Nat->a6} {e:Mem} {m:Mem} {k:Option Nat} {vs:List aqX} {j tE:Nat} {xs:List (D tE)} {wf:Bool} {v:aqX} (aw:bm X.G O z e m k vs) (ai:O[j]? =aqV (.az tE xs aqZ wf)) (ad:vs[j]? =aqV v):bm X.G [.az tE xs aqZ wf] z e m k [v]:=by
 refine ⟨aw.aO,rfl,fun i o u ae hu=> ?_,fun i hD o p u l9 b8 ae dY _ _ _ _=> ?_⟩
 ·cases i with
  |zero=>cases ae;cases hu;exact aw.obj j _ v ai ad
  |succ i=>cases ae
 ·cases i with
  |zero=>cases hD with
   |zero=>exact absurd rfl b8
   |succ hD=>cases dY
  |succ i=>cases ae
structure apN {e kt vt:Nat} (B:vj P D X e kt vt) (a:Act) (w:World):Prop where
 out:∃fN bK v6 mk jl mc wf,vk B {a with tmps:=a.tmps} w fN bK v6 mk jl mc wf/\(∀x∈B.cs.toList,x∈fN)
 v31:hF (dZ a 31)
 v32:dZ a 32= .bool aqZ
theorem amM {e kt vt:Nat} {B:vj P D X e kt vt} (fK:Jl B) (bW:fS X) (jV:P.follows .mixedOrders=aqW) {mt:aq4} {jt je jf hp:Array Oper} {iT kR i8 i9 i10:Nat} (qR:SB mt jt je jf) (bj:44<B.N)
  (M8:∀o∈hp.toList,(∀x∈o.op.operands,kE x=aqW)/\∀d,o.dst=aqV d->d<B.N)
  (vZ:∀t,jc t=aqZ\/t=29\/t=30\/t=31\/t=32\/t=33\/t=34\/t=35\/t=9\/t=10->(tC hp).contains t=aqZ)
  (aa:∀a b bi wf,bi.length<mg->pv X hp.toList hp.toList [(6, .c (.own 0)),(9,B.V.DN a),(10,B.V.c3 b)] [.az e bi aqZ wf] (Bo e)=aqV (bi++[B.V.app a b]))
  {a:Act} {w:World} {fN:List MapEntry} {bK:List (D kt×D vt)} {v6:aqX} {mk:Mem} {jl:bo} {mc:Nat->a6} {wf:Bool} (h:vk B a w fN bK v6 mk jl mc wf) (ae:Hg B w fN)
  {R:Act->World->Prop} {Q:Exit->Act->World->Prop}
  (yC:∀a' w' DG Nf DQ mk' MN Q0 Ak,vk B a' w' DG Nf DQ mk' MN Q0 Ak->Hg B w' DG->DG≠[]->FU B.jw B.r w'<FU B.jw B.r w->R a' w')
  (Fp:∀a',(∀t,t≠31->t≠32->dZ a' t=dZ a t)->hF (dZ a' 31)->dZ a' 32= .bool aqZ->a'.defers=[]->a'.tmps.size=B.N->(∀x∈B.cs.toList,x∈fN)->Q .normal a' w):
  (Code.seq (.region i8 je aqZ) (.seq (.cond (.tmp 32) .skip (.exit iT)) (.block kR (.seq (.region i9 jf aqZ) (.region i10 hp aqZ))))).wp P (Exit.then R (Exit.inBlock iT Q)) a w:=by
 obtain ⟨kS,jU,mr⟩:=ae;have tO:=h.map fK;have hold:∀x∈B.cs.toList,x.born<B.gH:=fK.aO.2;obtain ⟨gm,p1,aX,d1,c8,g1,t1⟩:=qR.hU.cons;obtain ⟨gW,Ci,e2,d2,dR,g2,t2⟩:=t1.cons;have ij:=t2.nil;subst ij e2;dsimp only at d1 c8 d2 dR;have FF:(31:Nat)<a.tmps.size:=by rw[h.size];omega
 have ant:∀{x:MapEntry},x∈B.cs.toList->(fN.map (·.born)).toArray.contains x.born=aqW->x∈fN:=by
  intro x U ab;have:x.born∈fN.map (·.born):=by simpa using ab
  obtain ⟨y,ag,he⟩:=arf.1 this;have:=af6 fK.aO.1 (h.mem y ag) U he;rw[<-this];exact ag
 refine wp_seq (wp_region_list ?_);rw[aX];rcases run_next_at (P:=P) w gm.type B.r B.jw B.gH kS _ B.cs B.gH jU tO hold mr with ⟨aF,jX⟩|⟨x,U,cO,Fh,jX⟩
 ·refine mN g1 (v:= .tuple #[.bool aqZ]) (w':=w) (by simp[execOp,c8,oq,h.v30,jX]) ?_;rw[d1];have FG:(32:Nat)<(a.put (aqV 31) (.tuple #[.bool aqZ])).tmps.size:=by rw[fT.1,h.size];omega
  refine mN g2 (Cu (vs:=#[.bool aqZ]) (v:= .bool aqZ) dR (by rw[oq,Gl FF]) rfl) ?_;rw[d2];refine wpList_nil ?_;refine wp_seq (wp_cond_false (by rw[show Act.eval _ (.tmp 32)=dZ _ 32 from rfl,Gl FG]) (wp_exit ?_));simp only[Exit.then,Exit.inBlock,if_true];refine Fp _ (fun t h1 J=>by rw[N0 FG J,N0 FF h1]) ?_ (Gl FG) (by rw[fT.2,fT.2];exact h.defers) (by rw[fT.1,fT.1];exact h.size) fun x U=>ant U (all_seen _ _ aF x U);rw[N0 FG (by omega),Gl FF];intro b aa;cases aa
 ·obtain ⟨MH,pX⟩:=mem_left U;obtain ⟨⟨jm,xC⟩,jx,yU⟩:=fK.es x MH;dsimp only at jx yU;obtain ⟨fo,n9⟩:∃fo,fo=setBlock cO B.r (.mapIter (aqV B.jw) B.gH ((fN.map (·.born)).toArray.push x.born) B.gH):=⟨_,rfl⟩
  rw[<-n9] at jX;have Mu:B.r<w.heap.size:=by
   rcases arQ B.r w.heap.size with ax|ax
   ·exact ax
   ·rw[Array.getElem?_eq_none ax] at jU;cases jU
  have iM:cO.heap=w.heap/\cO.os=w.os/\cO.tape=w.tape/\cO.output=w.output:=by rcases Fh with rfl|rfl<;>exact ⟨rfl,rfl,rfl,rfl⟩
  have cm:fo.heap.size=w.heap.size:=by rw[n9];simp[setBlock,iM.1]
  have cw:fo.os=w.os/\fo.tape=w.tape/\fo.output=w.output:=by rw[n9];exact ⟨iM.2.1,iM.2.2.1,iM.2.2.2⟩
  have dW:∀c,c≠B.r->fo.heap[c]? =w.heap[c]? :=fun c ab=>by rw[n9];simp[setBlock,iM.1,Array.getElem?_setIfInBounds,Ne.symm ab]
  have fG:fo.heap[B.r]? =aqV (.mapIter (aqV B.jw) B.gH ((fN.map (·.born)).toArray.push x.born) B.gH):=by rw[n9];simp[setBlock,iM.1,Mu]
  have yM:mk.aG B.bV= .dead:=h.post.dead fK.bV fK.dead;have Fe:Post P B.eo B.m0 B.de jl mk fo:=h.post.aev fK.r cm cw.1 cw.2.1 cw.2.2 dW h.Bl yM;have Ft:jl B.bV=aqV ⟨B.r,0,0,0⟩:=by rw[h.post.ext _ fK.bV];exact fK.aaN
  have acp:fo.heap[B.jw]? =aqV (.map B.cs B.gH):=by rw[dW _ (by have:=fK.JJ;have:=fK.r;omega)];exact tO
  have aqd:x∉fN:=fun ax=>by
   have:(fN.map (·.born)).toArray.contains x.born=aqW:=by simpa using ⟨x,ax,rfl⟩
   rw[this] at pX;cases pX
  refine mN g1 (v:= .tuple #[.bool aqW,x.key,x.val]) (w':=fo) (by simp[execOp,c8,oq,h.v30,jX]) ?_;rw[d1];obtain ⟨c0,nU⟩:∃c0,c0=a.put (aqV 31) (.tuple #[.bool aqW,x.key,x.val]):=⟨_,rfl⟩
  have cr:c0.tmps.size=B.N/\c0.defers=[]:=by rw[nU,fT.1,fT.2];exact ⟨h.size,h.defers⟩
  have a7:∀t,dZ c0 t=if t=31 then .tuple #[.bool aqW,x.key,x.val] else dZ a t:=fun t=>by rw[nU];exact mG FF
  rw[<-nU];refine mN g2 (w':=fo) (Cu (vs:=#[.bool aqW,x.key,x.val]) (v:= .bool aqW) dR (by rw[oq,a7,if_pos rfl]) rfl) ?_;rw[d2];obtain ⟨a2,kv⟩:∃a2,a2=c0.put (aqV 32) (.bool aqW):=⟨_,rfl⟩
  have z2:a2.tmps.size=B.N/\a2.defers=[]:=by rw[kv,fT.1,fT.2];exact cr
  have bh:∀t,dZ a2 t=if t=32 then .bool aqW else dZ c0 t:=fun t=>by rw[kv];exact mG (by rw[cr.1];omega)
  rw[<-kv];refine wpList_nil ?_;refine wp_seq (wp_cond_true (by rw[show Act.eval _ (.tmp 32)=dZ _ 32 from rfl,bh,if_pos rfl]) (wp_skip ?_));refine wp_block (wp_seq (wp_region_list ?_));obtain ⟨r9,MT,ij,d3,gX,g3,t3⟩:=qR.nT.cons;obtain ⟨Vh,adZ,oR,d4,hX,g4,t4⟩:=t3.cons;obtain ⟨Vi,aqo,yk,d5,za,g5,t5⟩:=t4.cons;obtain ⟨Vj,aqp,aaK,d6,Vn,g6,t6⟩:=t5.cons;obtain ⟨aqt,aqq,aaL,d7,Vo,g7,t7⟩:=t6.cons;have aaM:=t7.nil;subst aaM aaL aaK yk oR;dsimp only at d3 gX d4 hX d5 za d6 Vn d7 Vo;rw[ij];refine mN g3 (v:= .tuple #[x.key,x.val]) (w':=fo) (by simp[execOp,gX,oq,bh,a7,h.v30,run_entry_at fo B.r B.jw B.gH _ B.cs B.gH x fG acp MH fK.aO.1]) ?_;rw[d3];obtain ⟨a3,vC⟩:∃a3,a3=a2.put (aqV 33) (.tuple #[x.key,x.val]):=⟨_,rfl⟩
  have z3:a3.tmps.size=B.N/\a3.defers=[]:=by rw[vC,fT.1,fT.2];exact z2
  have bA:∀t,dZ a3 t=if t=33 then .tuple #[x.key,x.val] else dZ a2 t:=fun t=>by rw[vC];exact mG (by rw[z2.1];omega)
  rw[<-vC];refine mN g4 (w':=fo) (Cu (vs:=#[x.key,x.val]) (v:=x.key) hX (by rw[oq,bA,if_pos rfl]) rfl) ?_;rw[d4];obtain ⟨a4,vD⟩:∃a4,a4=a3.put (aqV 34) x.key:=⟨_,rfl⟩
  have z4:a4.tmps.size=B.N/\a4.defers=[]:=by rw[vD,fT.1,fT.2];exact z3
  have bI:∀t,dZ a4 t=if t=34 then x.key else dZ a3 t:=fun t=>by rw[vD];exact mG (by rw[z3.1];omega)
  rw[<-vD];refine mN g5 (w':=fo) (Cu (vs:=#[x.key,x.val]) (v:=x.val) za (by rw[oq,bI,if_neg (by omega),bA,if_pos rfl]) rfl) ?_;rw[d5];obtain ⟨a5,LH⟩:∃a5,a5=a4.put (aqV 35) x.val:=⟨_,rfl⟩
  have z5:a5.tmps.size=B.N/\a5.defers=[]:=by rw[LH,fT.1,fT.2];exact z4
  have bU:∀t,dZ a5 t=if t=35 then x.val else dZ a4 t:=fun t=>by rw[LH];exact mG (by rw[z4.1];omega)
  rw[<-LH];refine mN g6 (w':=fo) (v:=x.key) (by rw[VY Vn,oq,bU,if_neg (by omega),bI,if_pos rfl]) ?_;rw[d6];obtain ⟨rC,LI⟩:∃rC,rC=a5.put (aqV 9) x.key:=⟨_,rfl⟩
  have Z6:rC.tmps.size=B.N/\rC.defers=[]:=by rw[LI,fT.1,fT.2];exact z5
  have b5:∀t,dZ rC t=if t=9 then x.key else dZ a5 t:=fun t=>by rw[LI];exact mG (by rw[z5.1];omega)
  rw[<-LI];refine mN g7 (w':=fo) (v:=x.val) (by rw[VY Vo,oq,b5,if_neg (by omega),bU,if_pos rfl]) ?_;rw[d7];obtain ⟨pJ,LJ⟩:∃pJ,pJ=rC.put (aqV 10) x.val:=⟨_,rfl⟩
  have Z7:pJ.tmps.size=B.N/\pJ.defers=[]:=by rw[LJ,fT.1,fT.2];exact Z6
  have ck:∀t,dZ pJ t=if t=10 then x.val else dZ rC t:=fun t=>by rw[LJ];exact mG (by rw[Z6.1];omega)
  rw[<-LJ];refine wpList_nil ?_;show (Code.region i10 hp aqZ).wp P _ pJ fo
  let fr:Nat->aqX:=fun t=>if t=6 then v6 else if t=9 then B.V.o7 jm else if t=10 then B.V.nE xC else if t=30 then .pointer (aqV ⟨B.bV,0,aqY⟩) else if t=32 then .bool aqW else
   if jc t=aqW then (if fN.isEmpty=aqW/\36<=t then B.EW t else any) else B.EW t
  have cB:jJ jl B.N fr pJ:=by
   refine ⟨fun t=> ?_,Z7.2,Z7.1⟩;show cb jl (fr t) (dZ pJ t);simp only[fr,ck,b5,bU,bI,bA,bh,a7];by_cases dv:t=6
   ·subst dv;simpa using h.v6
   by_cases nT:t=9
   ·subst nT;simp only[jx];exact Gu (B.V.TL jm)
   by_cases Bs:t=10
   ·subst Bs;simp only[yU];exact Gu (B.V.yn xC)
   by_cases oU:t=30
   ·subst oU;simp only[h.v30];exact ⟨⟨B.r,0,0,0⟩,rfl,Ft,rfl⟩
   by_cases lS:t=32
   ·subst lS;exact rfl
   rw[if_neg dv,if_neg nT,if_neg Bs,if_neg oU,if_neg lS,if_neg Bs,if_neg nT];by_cases hw:jc t=aqW
   ·rw[if_pos hw];by_cases E8:t=35
    ·subst E8;rw[if_neg (by omega),if_pos rfl];exact pn (by rw[yU];exact B.V.dd xC)
    by_cases E7:t=34
    ·subst E7;rw[if_neg (by omega),if_neg (by omega),if_pos rfl];exact pn (by rw[jx];exact B.V.M3 jm)
    by_cases E6:t=33
    ·subst E6;rw[if_neg (by omega),if_neg (by omega),if_neg (by omega),if_pos rfl];exact pn (fun b aa=>by cases aa)
    by_cases pN:t=31
    ·subst pN;rw[if_neg (by omega)];simp only[if_neg E8,if_neg E7,if_neg E6,if_neg lS,if_pos rfl];exact pn (fun b aa=>by cases aa)
    by_cases pM:t=29
    ·subst pM;rw[if_neg (by omega)];simp only[if_neg E8,if_neg E7,if_neg E6,if_neg lS,if_neg pN];exact pn h.ZH
    have E9:36<=t:=by simp only[jc,ar7,ara,as0,atc] at hw;omega
    have ah:Cj t=aqW:=by simp only[jc,Cj,ar7,ara,as0,atc] at hw⊢;omega
    rw[if_neg E8,if_neg E7,if_neg E6,if_neg lS,if_neg pN];by_cases aJ:fN=[]
    ·rw[if_pos ⟨by rw[aJ];rfl,E9⟩];exact (h.on t ah).1 aJ
    ·rw[if_neg (fun ax=>aJ (by simpa using ax.1))];exact pn ((h.on t ah).2 aJ)
   ·have gR:jc t=aqZ:=by simpa using hw
    have b8:t≠35/\t≠34/\t≠33/\t≠31:=by refine ⟨?_, ?_, ?_, ?_⟩<;>(rintro rfl;exact absurd gR (by decide))
    rw[if_neg hw,if_neg b8.1,if_neg b8.2.1,if_neg b8.2.2.1,if_neg lS,if_neg b8.2.2.2];exact h.off t gR
  have FB:bK.length=fN.length:=h.rel.length;have kd:((fN++[x]).map (·.born)).Nodup:=by
   rw[ar',List.nodup_append];refine ⟨h.fF,by simp,fun p ap q aJ=> ?_⟩;simp only[arN,List.map_nil,arX] at aJ;subst aJ;intro he;subst he;have:(fN.map (·.born)).toArray.contains x.born=aqW:=by simpa using ap
   rw[this] at pX;cases pX
  have hL:∀y∈fN++[x],y∈B.cs.toList:=fun y ag=>by
   rcases arj.1 ag with ag|ag
   ·exact h.mem y ag
   ·rw[arX.1 ag];exact MH
  have aN:(fN++[x]).length<=B.cs.size:=by
   have:=Wr (m:=B.cs.toList.map (·.born)) kd fun p ap=>by obtain ⟨y,ag,rfl⟩:=arf.1 ap;exact arf.2 ⟨y,hL y ag,rfl⟩
   simpa using this
  have hlen:(B.xs++bK.map fun p=>B.V.app p.1 p.2).length<mg:=by have:=fK.len;simp only[aro,arP,arw,List.length_nil] at aN⊢;omega
  obtain ⟨aaA,cl,kX⟩:=(show c6 (X.G.T e) mc B.em mk B.k _ v6 from h.y3.obj 0 _ v6 rfl rfl).bf.len;have LF:eA X mc [v6] [(6, .c (.own 0)),(9,B.V.DN jm),(10,B.V.c3 xC)] fr:=by
   intro d;simp only[eg];split
   ·rename_i aB;have:=arA aB;subst this;exact ⟨rfl,by rw[show fr 6=v6 from rfl,kX];exact ⟨rfl,rfl⟩⟩
   ·split
    ·rename_i aB;have:=arA aB;subst this;exact B.V.hk _ _ _
    ·split
     ·rename_i aB;have:=arA aB;subst this;exact B.V.ad _ _ _
     ·trivial
  obtain ⟨n,fr',m',Mx,kW⟩:=zy bW h.y3 LF (aa jm xC _ wf hlen);obtain ⟨vA,Bu⟩:=F7 jV n;obtain ⟨LG, -, -⟩:=G5 vA hp.toList fr fr' mk m' (fun o ai=>(M8 o ai).1) Mx h.QF (cB.low Fe.rel);refine wp_region_list (Gp vA Bu (fun o ai=>(M8 o ai).2) hp.toList fr fr' mk m' jl pJ fo M8 Mx Fe.rel h.QF cB fun a' w' bX ap ku=> ?_);obtain ⟨z',vs',E',bD,fC,pZ,lZ,yr,ys,fB⟩:=kW;obtain ⟨Mk,j,Ak,aa7,abl⟩:=ahw fB;have dv:=ys 6;rw[aa7] at dv;have e9:∀b q,jl b=aqV q->bX b=aqV q:=fun b q aa=>by rw[ap.ext b (Fe.rel.lt b q aa).1];exact aa
  have T3:=Fe.trans ap;have iL:∀u,vs'[0]? =aqV u->hF u:=fun u hu=>by have:=lZ 0 v6 rfl;rw[this] at hu;cases hu;rw[kX];exact N6
  have BD:∀t,t=29\/t=31\/t=33\/t=34\/t=35->fr t=any:=fun t ao=>by rcases ao with rfl|rfl|rfl|rfl|rfl<;>simp[fr,jc]
  have keep:∀t,(tC hp).contains t=aqZ->fr' t=fr t:=fun t ao=>Gn _ _ _ _ _ (ON ao) Mx;have Um:w'.heap[B.r]? =aqV (.mapIter (aqV B.jw) B.gH ((fN.map (·.born)).toArray.push x.born) B.gH):=by rw[ap.ed.block B.r (by rw[cm];exact Mu) fun b q aa ai=>h.Bl b q aa fun ax=>by rw[ax,yM] at ai;cases ai];exact fG
  have acQ:(fN.map (·.born)).toArray.push x.born=((fN++[x]).map (·.born)).toArray:=by simp
  have acq:w'.heap[B.jw]? =aqV (.map B.cs B.gH):=by rw[T3.ed.block B.jw fK.JJ fK.free];exact fK.jw
  refine yC a' w' (fN++[x]) (bK++[(jm,xC)]) (fr' 6) m' bX z' Ak ⟨T3,LG, ?_,h.aaa.trans pZ,h.rel.snoc ⟨jx,yU⟩,ap.apart (by rw[cm];exact Mu) h.Bl yM,hL,kd,ku.defers,ku.size,ku.val 6, ?_, ?_,fun t ao=> ?_,fun t ao=>⟨fun aJ=>absurd aJ (by simp),fun _=> ?_⟩⟩ ⟨B.gH,by rw[<-acQ];exact Um,aq9 _⟩ (by simp) ?_
  ·have:=ain yr abl dv.1;rw[ar',<-List.append_assoc];exact this
  ·have pM:=ku.val 29;rw[keep 29 (vZ 29 (by simp)),BD 29 (by simp)] at pM;exact pM
  ·have oU:=ku.val 30;rw[keep 30 (vZ 30 (by simp))] at oU;obtain ⟨q,_,aJ,ab⟩:=(show cb bX (.pointer (aqV ⟨B.bV,0,aqY⟩)) (dZ a' 30) from oU).ptr;rw[show bX B.bV=_ from e9 _ _ Ft] at aJ;cases aJ;exact ab
  ·have h1:=ku.val t;rw[keep t (vZ t (.inl ao))] at h1;have hw:¬jc t=aqW:=by rw[ao];simp
   have b8:t≠6/\t≠9/\t≠10/\t≠30/\t≠32:=by refine ⟨?_, ?_, ?_, ?_, ?_⟩<;>(rintro rfl;exact absurd ao (by decide))
   simp only[fr,if_neg b8.1,if_neg b8.2.1,if_neg b8.2.2.1,if_neg b8.2.2.2.1,if_neg b8.2.2.2.2,if_neg hw] at h1;exact h1
  ·have h1:=ku.val t;by_cases E9:36<=t/\t<=41
   ·exact Dk h1 (Ym yr iL (Mk t E9.1 E9.2) (ys t))
   ·have kA:t=31\/t=33\/t=34\/t=35\/t=9\/t=10:=by
     simp only[Cj,ar7,ara,as0,atc] at ao;omega
    rw[keep t (vZ t (by omega))] at h1;rcases kA with rfl|rfl|rfl|rfl|rfl|rfl
    ·rw[BD 31 (by simp)] at h1;exact h1
    ·rw[BD 33 (by simp)] at h1;exact h1
    ·rw[BD 34 (by simp)] at h1;exact h1
    ·rw[BD 35 (by simp)] at h1;exact h1
    ·exact Dk h1 (B.V.M3 jm)
    ·exact Dk h1 (B.V.dd xC)
  ·simp only[FU,acq,Um,tO,jU];exact left_shrinks _ _ _ U
open Classical in
def po (em:Mem) (z:Nat->a6) (k:Option Nat) (b:Nat):Prop:=(b<em.next/\(k≠aqV b\/z b≠ .dead))\/(z b).fJ
open Classical in
def tB (m em:Mem) (z:Nat->a6) (k:Option Nat) (cells:List aqX) (t:aq4):Mem where
 next:=m.next+1
 aG:=fun b=>if b<m.next then (if po em z k b then m.aG b else .dead) else if b=m.next then .own cells t else .dead
open Classical in
theorem OJ {m em:Mem} {z:Nat->a6} {k:Option Nat} {cells:List aqX} {t:aq4} {b:Nat} (aa:b<m.next) (hk:po em z k b):(tB m em z k cells t).aG b=m.aG b:=by
 show (if b<m.next then (if po em z k b then m.aG b else .dead) else if b=m.next then .own cells t else .dead)=m.aG b;rw[if_pos aa,if_pos hk]
open Classical in
theorem ahG {m em:Mem} {z:Nat->a6} {k:Option Nat} {cells:List aqX} {t:aq4} {b:Nat} (aa:b<m.next) (hk:¬po em z k b):(tB m em z k cells t).aG b= .dead:=by
 show (if b<m.next then (if po em z k b then m.aG b else .dead) else if b=m.next then .own cells t else .dead)= .dead;rw[if_pos aa,if_neg hk]
open Classical in
theorem NX {m em:Mem} {z:Nat->a6} {k:Option Nat} {cells:List aqX} {t:aq4}:(tB m em z k cells t).aG m.next= .own cells t:=by
 show (if m.next<m.next then (if po em z k m.next then m.aG m.next else .dead) else if m.next=m.next then .own cells t else .dead)=_;rw[if_neg (atg _),if_pos rfl]
open Classical in
theorem OI {m em:Mem} {z:Nat->a6} {k:Option Nat} {cells:List aqX} {t:aq4} {b:Nat} (aa:m.next+1<=b):(tB m em z k cells t).aG b= .dead:=by
 show (if b<m.next then (if po em z k b then m.aG b else .dead) else if b=m.next then .own cells t else .dead)= .dead;rw[if_neg (by omega),if_neg (by omega)]
open Classical in
theorem wz {m em:Mem} {z:Nat->a6} {k:Option Nat} {cells:List aqX} {t:aq4} {b:Nat} (aa:b<m.next):(tB m em z k cells t).aG b=m.aG b/\po em z k b\/(tB m em z k cells t).aG b= .dead:=by
 by_cases hk:po em z k b
 ·exact .inl ⟨OJ aa hk,hk⟩
 ·exact .inr (ahG aa hk)
def mJ (z:Nat->a6) (bV:Nat):Nat->a6:=fun b=>if b=bV then .dead else z b
theorem amQ {au:Type} {T:cf au} {dq:au->List aqX} (ki:∀z x ds,T.rd z x ds->ds=dq x) (hf:∀x,(dq x).all cx=aqW) (dQ:0<T.a1) (nb:P.cellsOf T.tid=T.a1) {j:bo} {m:Mem} {w:World} (br:Rel P j m w) (ct:WF m) {em:Mem} {z:Nat->a6} {k:Option Nat} (dH:cL z em m k) {bV:Nat} (FD:bV<m.next) {aac:List aqX} {anR:aq4} (fD:m.aG bV= .map aac anR) (adE:(z bV).fJ)
  {FO:bo} {Ck:Mem} {wf:World} {Jc:Nat->a6} (bt:Post P (j.up m.next ⟨w.heap.size,0,0,0⟩) ((m.put bV .dead).push .dead) w FO Ck wf) (UR:cL Jc (em.put bV .dead) Ck k) (pZ:cT em.next (mJ z bV) Jc)
  {dS:List au} {v aV:aqX} (hO:c6 T Jc (em.put bV .dead) Ck k dS v) (ad:cb FO v aV) (b8:0<dS.length):
  ∃bX,Post P j m w bX (tB m em z k (dS.flatMap dq) T.tid) wf/\cb bX (.slice (aqV ⟨m.next,0,aqY⟩) dS.length dr) aV/\∀b,b<m.next->bX b=j b:=by
 obtain ⟨yN,ga⟩:=hO;rcases yN with ⟨_,rfl⟩|⟨ml,off,L,c,rfl,g1,g2,g3,g4,g5,g6⟩
 ·simp at b8
 have Fk:em.next<=ml:=ga ml rfl;obtain ⟨q,_,aJ,ab⟩:=ad.slice;have aJ:FO ml=aqV q:=aJ;have UD:=bt.rel.obj ml q aJ;rw[g1] at UD;obtain ⟨eZ,bg,gm,gW,r9,Vh,Vi,Vj⟩:=UD;have kz:∀x,x∈dS->(dq x).length=T.a1:=fun x U=>by obtain ⟨i,ae⟩:=List.getElem?_of_mem U;obtain ⟨cs,h1,_⟩:=g6 i x ae;rw[<-ki _ _ _ h1];exact T.len _ _ _ h1
 have hlen:(dS.flatMap dq).length=dS.length*T.a1:=CR kz;have jT:q.es=T.a1:=r9.symm.trans nb;obtain ⟨hq,fP,eR,ka,aqi⟩:∃hq,aV= .slice (aqV ⟨q.aG,q.dM+off,aqY⟩) dS.length hq/\dS.length<=hq/\hq<dr/\off+hq*q.es<=q.cap*q.es:=by
  rcases ab with ⟨h1,J⟩|⟨h1,J,aj,aM,bq,dv,h3⟩|⟨_,aI,_⟩|⟨_,aI,_⟩
  ·rcases g5 with g5|⟨_,g5,apW⟩
   ·rw[g5] at h1;exact absurd h1 (atg _)
   ·exact ⟨c,J,g5,h1,by rw[jT] at Vi⊢;omega⟩
  ·refine ⟨q.cap - off / q.es,h3,aj,Nat.lt_of_le_of_lt (Nat.sub_le _ _) aM, ?_⟩;have bq:off%q.es=0:=bq;have dv:off / q.es<=q.cap:=dv;have n0:off=off / q.es*q.es:=by
    have:=Nat.div_add_mod off q.es;rw[bq,arJ,Nat.mul_comm] at this;exact this.symm
   rw[Nat.sub_mul,<-n0];have:=asf q.es dv;omega
  ·omega
  ·omega
 have wc:po em z k bV:= .inr adE;have L7:∀b,b<m.next->FO b=j b:=fun b aa=>by rw[bt.ext b (by show b<m.next+1;omega)];show (if b=m.next then aqV _ else j b)=j b;rw[if_neg (by omega)]
 have UI:∀b,b<m.next->b≠bV->((m.put bV .dead).push .dead).aG b=m.aG b:=fun b aa an=>by show (if b=m.next then a6.dead else if b=bV then .dead else m.aG b)=m.aG b;rw[if_neg (by omega),if_neg an]
 have rX:((m.put bV .dead).push .dead).aG bV= .dead:=by show (if bV=m.next then a6.dead else if bV=bV then .dead else m.aG bV)= .dead;rw[if_neg (by omega),if_pos rfl]
 have UH:((m.put bV .dead).push .dead).aG m.next= .dead:=by show (if m.next=m.next then a6.dead else _)= .dead;rw[if_pos rfl]
 have ab7:j m.next=aqY:=br.Cm;have e9:∀(E:iR) b,b<m.next->j.up m.next E b=j b:=fun E b aa=>by show (if b=m.next then aqV E else j b)=j b;rw[if_neg (by omega)]
 have yS:∀(E:iR),j.up m.next E m.next=aqV E:=fun E=>by show (if m.next=m.next then aqV E else j m.next)=aqV E;rw[if_pos rfl]
 have vY:∀b,po em z k b->b<m.next->b≠bV->Ck.aG b=m.aG b:=by
  intro b hk aa an;have gb:mJ z bV b=z b:=by simp[mJ,an]
  have Ui:Jc b=z b->z b≠ .dead->Ck.aG b=m.aG b:=fun h1 J=>by rw[(UR.bg b (by rw[h1];exact J)).1,h1,<-(dH.bg b J).1]
  rcases hk with ⟨h1,J⟩|h1
  ·rcases J with J|J
   ·rw[UR.kept b h1 J,dH.kept b h1 J];show (if b=bV then a6.dead else em.aG b)=em.aG b;rw[if_neg an]
   ·exact Ui ((pZ.low b h1).trans gb) J
  ·exact Ui ((pZ.le b (by rw[gb];exact h1)).trans gb) h1.ne
 have hblk:∀c,c<w.heap.size->(∀b e,j b=aqV e->(m.aG b).hM=aqW->b≠bV->e.aG≠c)->wf.heap[c]? =w.heap[c]? :=by
  intro c ab ke;refine bt.ed.block c ab fun b e aa ai=> ?_;by_cases eM:b=m.next
  ·rw[eM,UH] at ai;cases ai
  ·by_cases ky:b=bV
   ·rw[ky,rX] at ai;cases ai
   ·have cu:j b=aqV e:=by
     rw[<-aa];show j b=(if b=m.next then _ else j b);rw[if_neg eM]
    rw[UI b (br.lt b e cu).1 ky] at ai;exact ke b e cu ai ky
 have Mg:(m.aG bV).hM=aqW:=by rw[fD];rfl
 have acr:(m.aG bV).live=aqW:=by rw[fD];rfl
 have yR:∀e,j bV=aqV e->wf.heap[e.aG]? =w.heap[e.aG]? :=fun e he=>hblk _ (br.lt bV e he).2 fun b bx aa ai ky ax=>ky (br.inj b bV bx e aa he ai acr ax);have dy:∀b e,j b=aqV e->po em z k b->(m.aG b).live=aqW->e.aG≠q.aG:=by
  intro b e aa hk ah ax;have aN:=(br.lt b e aa).1;by_cases ky:b=bV
  ·subst ky;have h1:=br.obj b e aa;rw[fD] at h1;obtain ⟨_,_,cs,apQ,_,J,_⟩:=h1;rw[<-yR e aa,ax,gm] at J;cases J
  ·have:=bt.rel.inj ml b q e aJ ((L7 b aN).trans aa) (by rw[g1];rfl) (by rw[vY b hk aN ky];exact ah) ax.symm;subst this;rcases hk with ⟨h1,_⟩|h1
   ·omega
   ·have gb:mJ z bV ml=z ml:=by simp[mJ,ky]
    have:=pZ.le ml (by rw[gb];exact h1);rw[g3,gb] at this;rw[<-this] at h1;exact h1
 refine ⟨j.up m.next ⟨q.aG,hq,q.es,q.dM+off⟩,⟨⟨?_, ?_, ?_⟩,⟨bt.ed.os,bt.ed.tape,bt.ed.output,bt.ed.size, ?_⟩,arL _,fun b aa=>e9 _ b aa, ?_, ?_, ?_⟩, ?_,fun b aa=>e9 _ b aa⟩
 ·intro b e aa;by_cases eM:b=m.next
  ·subst eM;rw[yS] at aa;cases aa;exact ⟨arU _,(bt.rel.lt ml q aJ).2⟩
  ·rw[show j.up m.next _ b=j b from if_neg eM] at aa;have:=br.lt b e aa;exact ⟨atk this.1,aru this.2 bt.ed.size⟩
 ·intro b e aa;by_cases eM:b=m.next
  ·subst eM;rw[yS] at aa;cases aa;rw[NX];refine ⟨eZ,bg,gm,gW,r9, ?_, ?_,fun i v ae=> ?_⟩
   ·show q.dM+off+hq*q.es<=eZ.size;omega
   ·show (dS.flatMap dq).length<=hq*q.es;rw[hlen,<-jT];exact asf _ eR
   ·obtain ⟨aaJ,h1,J⟩:=Vj _ v (NE ki g6 kz i v ae);have aP:cx v=aqW:=by
     obtain ⟨x,U,ad⟩:=asD.1 (are ae);exact arc.1 (hf x) v ad
    have:=CQ aP J;subst this;exact ⟨aaJ,by show eZ[q.dM+off+i]? =_;rw[arD];exact h1,p8 aP⟩
  ·rw[show j.up m.next _ b=j b from if_neg eM] at aa;have aN:=(br.lt b e aa).1;rcases wz (m:=m) (em:=em) (z:=z) (k:=k) (cells:=dS.flatMap dq) (t:=T.tid) aN with ⟨h1,hk⟩|h1
   ·rw[h1];by_cases ky:b=bV
    ·subst ky;rw[yR e aa];exact (br.obj b e aa).mono (bo.xB ab7)
    ·have J:=bt.rel.obj b e ((L7 b aN).trans aa);rw[vY b hk aN ky] at J;exact (J.below (ct.low b)).mono fun b6 bx cu=>by obtain ⟨aj,aM⟩:=pd cu;rw[e9 _ _ aj,<-L7 _ aj];exact aM
   ·rw[h1];trivial
 ·intro b b6 e bx aa cu ai ah ax;by_cases eM:b=m.next
  ·by_cases kx:b6=m.next
   ·rw[eM,kx]
   ·subst eM;rw[yS] at aa;cases aa;rw[show j.up m.next _ b6=j b6 from if_neg kx] at cu;have aN:=(br.lt b6 bx cu).1;rcases wz (m:=m) (em:=em) (z:=z) (k:=k) (cells:=dS.flatMap dq) (t:=T.tid) aN with ⟨h1,hk⟩|h1
    ·rw[h1] at ah;exact absurd ax.symm (dy b6 bx cu hk ah)
    ·rw[h1] at ah;cases ah
  ·rw[show j.up m.next _ b=j b from if_neg eM] at aa;have aN:=(br.lt b e aa).1;rcases wz (m:=m) (em:=em) (z:=z) (k:=k) (cells:=dS.flatMap dq) (t:=T.tid) aN with ⟨h1,hk⟩|h1
   ·rw[h1] at ai;by_cases kx:b6=m.next
    ·subst kx;rw[yS] at cu;cases cu;exact absurd ax (dy b e aa hk (by cases U:m.aG b<;>rw[U] at ai<;>first|rfl|cases ai))
    ·rw[show j.up m.next _ b6=j b6 from if_neg kx] at cu;have yL:=(br.lt b6 bx cu).1;rcases wz (m:=m) (em:=em) (z:=z) (k:=k) (cells:=dS.flatMap dq) (t:=T.tid) yL with ⟨jh,iV⟩|jh
     ·rw[jh] at ah;exact br.inj b b6 e bx aa cu ai ah ax
     ·rw[jh] at ah;cases ah
   ·rw[h1] at ai;cases ai
 ·intro c ab ke;exact hblk c ab fun b e aa ai _=>ke b e aa ai
 ·intro b e aa e8;have eM:b=m.next:=by
   by_cases eM:b=m.next
   ·exact eM
   ·rw[show j.up m.next _ b=j b from if_neg eM] at aa;have:=(br.lt b e aa).1;omega
  subst eM;rw[yS] at aa;cases aa;show w.heap.size<=q.aG\/∃df dt,j df=aqV dt/\(m.aG df).hM=aqW/\dt.aG=q.aG;have qQ:∀df dt,j.up m.next ⟨w.heap.size,0,0,0⟩ df=aqV dt->(((m.put bV .dead).push .dead).aG df).hM=aqW->j df=aqV dt/\(m.aG df).hM=aqW:=by
   intro df dt h4 ai;by_cases h1:df=m.next
   ·rw[h1,UH] at ai;cases ai
   ·rw[show j.up m.next _ df=j df from if_neg h1] at h4;by_cases J:df=bV
    ·rw[J,rX] at ai;cases ai
    ·rw[UI df (br.lt df dt h4).1 J] at ai;exact ⟨h4,ai⟩
  rcases arQ ml (m.next+1) with aN|L3
  ·have:=bt.dh ml aN (by rw[g1];rfl);have B3:=bt.ext ml aN;rw[aJ] at B3;obtain ⟨h1,J⟩:=qQ ml q B3.symm this;exact .inr ⟨ml,q,h1,J,rfl⟩
  ·rcases bt.fresh ml q aJ L3 with h1|⟨df,dt,h1,J,aj⟩
   ·exact .inl h1
   ·obtain ⟨aM,bq⟩:=qQ df dt h1 J;exact .inr ⟨df,dt,aM,bq,aj⟩
 ·intro b aa ai;rcases wz (m:=m) (em:=em) (z:=z) (k:=k) (cells:=dS.flatMap dq) (t:=T.tid) aa with ⟨h1,hk⟩|h1
  ·rw[h1] at ai;exact ai
  ·rw[h1] at ai;cases ai
 ·intro b aa ai;rcases wz (m:=m) (em:=em) (z:=z) (k:=k) (cells:=dS.flatMap dq) (t:=T.tid) aa with ⟨h1,hk⟩|h1
  ·rw[h1] at ai;exact ai
  ·rw[h1] at ai;cases ai
 ·refine ⟨⟨q.aG,hq,q.es,q.dM+off⟩,rfl,yS _, .inr (.inl ⟨rfl,by show 0<q.es;omega, ?_,ka, ?_, ?_, ?_⟩)⟩
  ·show dS.length<=hq - 0 / q.es;rw[Nat.zero_div];exact eR
  ·show 0%q.es=0;exact Nat.zero_mod _
  ·show 0 / q.es<=hq;rw[Nat.zero_div];exact asd _
  ·show aV= .slice (aqV ⟨q.aG,q.dM+off+0,aqY⟩) dS.length (hq - 0 / q.es);rw[Nat.zero_div,arJ,Nat.sub_zero];exact fP
end
end
end Go.aS
end
section
namespace Go.aS
noncomputable section
theorem VC {N:Nat} {c:Code} (h:gn N c=aqW):∀d,(jD c).contains d=aqW->d<N:=by
 induction c with
 |region i ops apT=>intro d aB;have h1:=(GP h).1;simp only[jD,tC,atV,List.mem_filterMap] at aB;obtain ⟨o,ai,aB⟩:=aB;exact (h1 o ai).2 d aB
 |seq a b wg wh=>
  intro d aB;simp only[gn,ara] at h;simp only[jD,atV,arj] at aB;rcases aB with aB|aB
  ·exact wg h.1 d (by simpa using aB)
  ·exact wh h.2 d (by simpa using aB)
 |cond x a b wg wh=>
  intro d aB;simp only[gn,ara] at h;simp only[jD,atV,arj] at aB;rcases aB with aB|aB
  ·exact wg h.1.2 d (by simpa using aB)
  ·exact wh h.2 d (by simpa using aB)
 |block i a a8=>exact a8 h
 |scope a a8=>exact a8 h
 |loop a a8=>exact a8 h
 |_=>intro d aB;simp[jD] at aB
theorem We (w:World) (o:Obj):(w.alloc o).heap.size=w.heap.size+1:=by show (w.heap.push o).size=_;exact Array.size_push _
theorem Post.iter {P:aq1} {j:bo} {m:Mem} {w:World} (br:Rel P j m w) (o:Obj):Post P j m w j m (w.alloc o):=by
 have h:=aub w o;have bE:=We w o;exact ⟨⟨fun b e aa=>⟨(br.lt b e aa).1,by have:=(br.lt b e aa).2;omega⟩,fun b e aa=>by rw[h.2 _ (br.lt b e aa).2];exact br.obj b e aa,br.inj⟩,⟨rfl,rfl,rfl,by omega,fun c ab _=>h.2 c ab⟩,aq9 _,fun _ _=>rfl,fun b e aa e8=>absurd (br.lt b e aa).1 (by omega),fun _ _ h=>h,fun _ _ h=>h⟩
def l0 (m:Mem) (bV:Nat):Mem:=(m.put bV .dead).push .dead
def oe (j:bo) (m:Mem) (w:World):bo:=j.up m.next ⟨w.heap.size,0,0,0⟩
theorem Ho {m:Mem} {bV b:Nat} (h1:b≠bV) (J:b≠m.next):(l0 m bV).aG b=m.aG b:=by
 show (if b=m.next then a6.dead else if b=bV then .dead else m.aG b)=m.aG b;rw[if_neg J,if_neg h1]
theorem X0 {m:Mem} {bV:Nat}:(l0 m bV).aG m.next= .dead:=by
 show (if m.next=m.next then a6.dead else _)= .dead;rw[if_pos rfl]
theorem YA {m:Mem} {bV:Nat}:(l0 m bV).aG bV= .dead:=by
 show (if bV=m.next then a6.dead else if bV=bV then .dead else m.aG bV)= .dead;split
 ·rfl
 ·rw[if_pos rfl]
theorem wQ {m:Mem} {bV b:Nat}:(l0 m bV).aG b= .dead\/((l0 m bV).aG b=m.aG b/\b≠bV/\b≠m.next):=by
 by_cases h1:b=bV
 ·rw[h1];exact .inl YA
 ·by_cases J:b=m.next
  ·rw[J];exact .inl X0
  ·exact .inr ⟨Ho h1 J,h1,J⟩
theorem zz {j:bo} {m:Mem} {w:World} {b:Nat} (h:b≠m.next):oe j m w b=j b:=by
 show (if b=m.next then _ else j b)=j b;rw[if_neg h]
theorem XZ {j:bo} {m:Mem} {w:World}:oe j m w m.next=aqV ⟨w.heap.size,0,0,0⟩:=by
 show (if m.next=m.next then _ else j m.next)=_;rw[if_pos rfl]
theorem Ot {j:bo} {m:Mem} {w:World} {b:Nat} {e:iR} (h:oe j m w b=aqV e):(b=m.next/\e=⟨w.heap.size,0,0,0⟩)\/(b≠m.next/\j b=aqV e):=by
 by_cases aa:b=m.next
 ·subst aa;rw[XZ] at h;cases h;exact .inl ⟨rfl,rfl⟩
 ·rw[zz aa] at h;exact .inr ⟨aa,h⟩
theorem aiG {m:Mem} {bV:Nat} (h:WF m):WF (l0 m bV):=by
 refine ⟨fun b aa=> ?_,fun b=> ?_⟩
 ·rcases wQ (m:=m) (bV:=bV) (b:=b) with h1|⟨h1,_,J⟩
  ·exact h1
  ·have aa:m.next+1<=b:=aa;rw[h1];exact h.dead b (by omega)
 ·rcases wQ (m:=m) (bV:=bV) (b:=b) with h1|⟨h1,_,J⟩
  ·rw[h1];trivial
  ·rw[h1];exact Gw (arL _) (h.low b)
theorem Post.base {P:aq1} {j:bo} {m:Mem} {w:World} (br:Rel P j m w) (bV:Nat) (o:Obj):Post P (oe j m w) (l0 m bV) w (oe j m w) (l0 m bV) (w.alloc o):=by
 have h:=aub w o;have bE:=We w o;refine ⟨⟨fun b e aa=> ?_,fun b e aa=> ?_,fun b b6 e bx aa cu ai ah he=> ?_⟩,⟨rfl,rfl,rfl,by omega,fun c ab _=>h.2 c ab⟩,aq9 _,fun _ _=>rfl,fun b e aa e8=> ?_,fun _ _ h=>h,fun _ _ h=>h⟩
 ·show b<m.next+1/\_;rcases Ot aa with ⟨h1,rfl⟩|⟨h1,J⟩
  ·exact ⟨by omega,by show w.heap.size<_;omega⟩
  ·have:=br.lt b e J;exact ⟨by omega,by omega⟩
 ·rcases wQ (m:=m) (bV:=bV) (b:=b) with h1|⟨h1,J,aj⟩
  ·rw[h1];trivial
  ·rw[zz aj] at aa;rw[h1,h.2 _ (br.lt b e aa).2];exact (br.obj b e aa).mono (bo.xB br.Cm)
 ·rcases wQ (m:=m) (bV:=bV) (b:=b) with h1|⟨h1,J,aj⟩
  ·rw[h1] at ai;cases ai
  rcases wQ (m:=m) (bV:=bV) (b:=b6) with jh|⟨jh,gk,rL⟩
  ·rw[jh] at ah;cases ah
  rw[h1] at ai;rw[jh] at ah;rw[zz aj] at aa;rw[zz rL] at cu;exact br.inj b b6 e bx aa cu ai ah he
 ·have e8:m.next+1<=b:=e8;rcases Ot aa with ⟨h1,_⟩|⟨h1,J⟩
  ·omega
  ·have:=(br.lt b e J).1;omega
section
variable {P:aq1} {D:Nat->Type} {X:dB P D}
def Lq (e d:Nat) (E:List (Nat×aQ D)) (O:List (aL D)):Option (List (D e)):=
 match eg E d with
 | .c (.own j)=>(match O[j]? with|some (.az bx xs aqZ _)=>if h:bx=e then aqV (h▸xs) else aqY|_=>aqY)
 |_=>aqY
theorem ahx {e d:Nat} {E:List (Nat×aQ D)} {O:List (aL D)} {bi:List (D e)} (h:Lq e d E O=aqV bi):∃j wf,eg E d= .c (.own j)/\O[j]? =aqV (.az e bi aqZ wf):=by
 unfold Lq at h;split at h
 ·rename_i j av;split at h
  ·rename_i bx xs wf ai;split at h
   ·rename_i he;subst he;cases h;exact ⟨j,wf,av,ai⟩
   ·cases h
  ·cases h
 ·cases h
def ML:aQ D->Bool
 | .c (.int .i64 n)=>decide (n=0)
 |_=>aqZ
theorem aiF {s:aQ D} (h:ML s=aqW):s= .c (.int .i64 0):=by
 unfold ML at h;split at h
 ·rw[of_decide_eq_true h]
 ·cases h
def getD (e:Nat) (ex:dX) (E:List (Nat×aQ D)) (O:List (aL D)):Option (List (D e)):=
 if ex= .ret then if (ML (eg E 5)&&[42,43,44].all fun t=>y4 O (eg E t))=aqW then Lq e 4 E O else aqY else aqY
theorem ahv {e:Nat} {ex:dX} {E:List (Nat×aQ D)} {O:List (aL D)} {bi:List (D e)} (h:getD e ex E O=aqV bi):ex= .ret/\(∀t,42<=t->t<=44->y4 O (eg E t)=aqW)/\eg E 5= .c (.int .i64 0)/\∃j wf,eg E 4= .c (.own j)/\O[j]? =aqV (.az e bi aqZ wf):=by
 unfold getD at h;obtain ⟨aI,h⟩:=eW h;obtain ⟨h1,h⟩:=eW h;rw[ara] at h1;refine ⟨aI,fun t aq aa=> ?_,aiF h1.1,ahx h⟩;refine arc.1 h1.2 t ?_;simp only[arb,asF,or_false];omega
def vx (fr:Nat->aqX) (b n:Nat):Nat->aqX:=fun t=>if t=4 then .slice (aqV ⟨b,0,aqY⟩) n dr else if t=5 then .int .i64 0 else if t=32 then .bool aqZ else if jc t=aqW\/(42<=t/\t<=44) then any else fr t
def oS (fr:Nat->aqX) (v6:aqX):Nat->aqX:=fun t=>if t=6 then v6 else if t=32 then .bool aqZ else if jc t=aqW then any else fr t
theorem aeL {l k:List MapEntry} (ah:(l.map (·.born)).Nodup) (hk:(k.map (·.born)).Nodup) (h1:∀x∈l,x∈k) (J:∀x∈k,x∈l):l.Perm k:=by
 have fF:∀{l:List MapEntry},(l.map (·.born)).Nodup->l.Nodup:=fun h=>List.Pairwise.of_map _ (fun a b eF he=>eF (by rw[he])) h;exact (List.perm_ext_iff_of_nodup (fF ah) (fF hk)).2 fun x=>⟨h1 x,J x⟩
theorem ba.perm {au bz:Type} {R:au->bz->Prop} {bi dS:List bz} (ap:bi.Perm dS):∀{xs:List au},ba R xs bi->∃u5,xs.Perm u5/\ba R u5 dS:=by
 induction ap with
 |nil=>intro xs h;exact ⟨xs, .refl _,h⟩
 |cons b _ a8=>
  intro xs h;cases xs with
  |nil=>exact h.elim
  |cons a xs=>obtain ⟨u5,h1,J⟩:=a8 h.2;exact ⟨a::u5,h1.cons a,h.1,J⟩
 |swap b b6 _=>
  intro xs h;cases xs with
  |nil=>exact h.elim
  |cons a xs=>cases xs with
   |nil=>exact h.2.elim
   |cons a' xs=>exact ⟨a'::a::xs, .swap _ _ _,h.2.1,h.1,h.2.2⟩
 |trans _ _ adH adI=>intro xs h;obtain ⟨aD,h1,J⟩:=adH h;obtain ⟨b9,aj,aM⟩:=adI J;exact ⟨b9,h1.trans aj,aM⟩
theorem ba.left {au bz:Type} {R:au->bz->Prop} (hu:∀a a' b,R a b->R a' b->a=a'):∀{xs u5:List au} {bi:List bz},ba R xs bi->ba R u5 bi->xs=u5
 |[],[],_,_,_=>rfl
 |[],_::_,[],_,h=>h.elim
 |[],_::_,_::_,h,_=>h.elim
 |_::_,[],[],h,_=>h.elim
 |_::_,[],_::_,_,h=>h.elim
 |_::_,_::_,[],h,_=>h.elim
 |_::_,_::_,_::_,h,cq=>by rw[hu _ _ _ h.1 cq.1,ba.left hu h.2 cq.2]
end
end
end Go.aS
end
section
namespace Go.aS
noncomputable section
section
variable {P:aq1} {D:Nat->Type} {X:dB P D}
structure AX (X:dB P D) (e kt vt t i7 iT i8 kR i9 i10:Nat) (jt je jf hp:Array Oper) (fU:Code) (V:vl P X e kt vt) (iC:List (D e)->Option (List (D e))) (dq:D e->List aqX):Prop where
 qR:SB t jt je jf
 pS:P.underlying t=aqV (.map kt vt)
 fB:j7 P kt (X.G.bS kt)
 Bv:lQ P vt (X.G.bS vt)
 yF:∀a,c4 (cW P kt) (X.G.bS kt a)=V.o7 a
 FJ:∀a,c4 (cW P vt) (X.G.bS vt a)=V.nE a
 kh:∀a,iA (V.nE a)=aqW
 UY:∀a b,V.nE a=V.nE b->a=b
 vZ:∀t,jc t=aqZ\/t=29\/t=30\/t=31\/t=32\/t=33\/t=34\/t=35\/t=9\/t=10->(tC hp).contains t=aqZ
 aa:∀a b bi wf,bi.length<mg->pv X hp.toList hp.toList [(6, .c (.own 0)),(9,V.DN a),(10,V.c3 b)] [.az e bi aqZ wf] (Bo e)=aqV (bi++[V.app a b])
 ME:∀t,(jD fU).contains t=aqW->t=4\/t=5\/42<=t/\t<=44
 Cc:∀t,t=4\/t=5\/t=32\/jc t=aqW\/42<=t/\t<=44->(jD (s8 i7 jt iT i8 je 32 kR i9 jf i10 hp fU)).contains t=aqW
 ev:∀bi wf,hT X [] calm aqW [] fU [(6, .c (.own 0))] [.az e bi aqZ wf] (getD e)=iC bi
 ki:∀z x ds,(X.G.T e).rd z x ds->ds=dq x
 dG:∀z x,(X.G.T e).rd z x (dq x)
 hf:∀x,(dq x).all cx=aqW
 dQ:0<(X.G.T e).a1
 nb:P.cellsOf (X.G.T e).tid=(X.G.T e).a1
theorem W2 {e kt vt t i7 iT i8 kR i9 i10:Nat} {jt je jf hp:Array Oper} {fU:Code} {V:vl P X e kt vt} {iC:List (D e)->Option (List (D e))} {dq:D e->List aqX} (K:AX X e kt vt t i7 iT i8 kR i9 i10 jt je jf hp fU V iC dq) {j:bo}:
  ∀{es:List (D kt×D vt)} {l:List MapEntry},ba (rr P j kt vt) ((X.G.M t kt vt).mY es) l->ba (fun (p:D kt×D vt) (x:MapEntry)=>x.key=V.o7 p.1/\x.val=V.nE p.2) es l
 |[],[],_=>trivial
 |[],_::_,h=>h.elim
 |_::_,[],h=>h.elim
 |p::es,x::l,h=>by
  refine ⟨⟨?_, ?_⟩,W2 K h.2⟩
  ·rw[<-K.yF];exact h.1.1
  ·have aj:=h.1.2.2;have aM:c4 (cW P vt) (X.G.bS vt p.2)=V.nE p.2:=K.FJ p.2;have aj:ey j (c4 (cW P vt) (X.G.bS vt p.2)) x.val:=aj;rw[aM] at aj;exact Ol (K.kh p.2) aj
theorem ba.mem {au bz:Type} {R:au->bz->Prop}:∀{xs:List au} {bi:List bz},ba R xs bi->∀y∈bi,∃x,R x y
 |[],[],_,y,ag=>by cases ag
 |_::_,[],h,_,_=>h.elim
 |[],_::_,h,_,_=>h.elim
 |a::xs,b::bi,h,y,ag=>by
  rcases arb.1 ag with rfl|ag
  ·exact ⟨a,h.1⟩
  ·exact ba.mem h.2 y ag
theorem amg {z:Nat->a6} {em m:Mem} {k:Option Nat} (h:cL z em m k) {bV:Nat} (FD:bV<m.next):cL (mJ z bV) (em.put bV .dead) (l0 m bV) k:=by
 have ar:m.next<(l0 m bV).next:=arU _;refine ⟨fun b aa=> ?_,fun b aa=> ?_,fun b aa=> ?_,arq h.next (arL _),fun b aa hk=> ?_⟩
 ·have an:b≠bV:=fun ax=>aa (by rw[ax];simp[mJ]);have aF:mJ z bV b=z b:=by simp[mJ,an]
  rw[aF] at aa⊢;have:=h.bg b aa;exact ⟨by rw[Ho an (by omega)];exact this.1,by omega⟩
 ·rcases wQ (m:=m) (bV:=bV) (b:=b) with h1|⟨h1,_,J⟩
  ·exact h1
  ·have aa:m.next+1<=b:=aa;rw[h1];exact h.dead b (by omega)
 ·show (if b=bV then a6.dead else em.aG b)= .dead;split
  ·rfl
  ·exact h.lR b aa
 ·have aa:b<em.next:=aa;have:=h.next;show _=(if b=bV then a6.dead else em.aG b);split
  ·rename_i ax;rw[ax];exact YA
  ·rename_i ax;rw[Ho ax (by omega)];exact h.kept b aa hk
theorem ahM {e kt vt t i7 iT i8 kR i9 i10:Nat} {jt je jf hp:Array Oper} {fU:Code} {V:vl P X e kt vt} {iC:List (D e)->Option (List (D e))} {dq:D e->List aqX} (K:AX X e kt vt t i7 iT i8 kR i9 i10 jt je jf hp fU V iC dq)
  (bW:fS X) (jV:P.follows .mixedOrders=aqW) {xs:List (D e)} {es:List (D kt×D vt)} {dS:List (D e)} (hlen:xs.length+es.length<=mg) (aF:∀bK:List (D kt×D vt),bK.Perm es->iC (xs++bK.map fun p=>V.app p.1 p.2)=aqV dS) (b8:es≠[]) (MJ:0<dS.length)
  {em m:Mem} {z:Nat->a6} {k:Option Nat} {v6:aqX} {Al:Bool} {fr:Nat->aqX} (aw:bm X.G [.az e xs aqZ Al] z em m k [v6]) (dv:fr 6=v6) {bV:Nat} (hU:fr 8= .map (aqV bV)) (FM:z bV= .map ((X.G.M t kt vt).cells es) t):
  Je P (s8 i7 jt iT i8 je 32 kR i9 jf i10 hp fU) fr m .ret (vx fr m.next dS.length) (tB m em z k (dS.flatMap dq) (X.G.T e).tid):=by
 have dH:=aw.aO;have cg:(z bV).fJ:=by rw[FM];trivial
 obtain ⟨BU,FD⟩:=dH.bg.fJ cg;rw[FM] at BU;have qQ:c6 (X.G.T e) z em m k xs v6:=aw.obj 0 _ v6 rfl rfl;have ap1:∀b,v6= .bool b->False:=by obtain ⟨a,c,ad⟩:=qQ.bf.len;intro b aa;rw[ad] at aa;cases aa
 refine ⟨arL _,fun i ae=> ?_,fun ct ah=>⟨⟨fun b aa=>OI aa,fun b=> ?_⟩,fun i=> ?_⟩, ?_⟩
 ·have h1:¬(i=4\/i=5\/i=32\/jc i=aqW\/42<=i/\i<=44):=fun h=>by rw[K.Cc i h] at ae;cases ae
  simp only[not_or] at h1;show vx fr m.next dS.length i=fr i;unfold vx;rw[if_neg h1.1,if_neg h1.2.1,if_neg h1.2.2.1,if_neg (fun h=>by rcases h with h|h;exact h1.2.2.2.1 h;exact h1.2.2.2.2 h)]
 ·rcases arQ b m.next with aa|aa
  ·rcases wz (m:=m) (em:=em) (z:=z) (k:=k) (cells:=dS.flatMap dq) (t:=(X.G.T e).tid) aa with ⟨h1,_⟩|h1
   ·rw[h1];exact Gw (arL _) (ct.low b)
   ·rw[h1];trivial
  ·by_cases eM:b=m.next
   ·rw[eM,NX];intro v ad;obtain ⟨x,_,U⟩:=asD.1 ad;exact CH (arc.1 (K.hf x) v U)
   ·rw[OI (by omega)];trivial
 ·show low (m.next+1) (vx fr m.next dS.length i);unfold vx;split
  ·exact arU _
  ·split
   ·trivial
   ·split
    ·trivial
    ·split
     ·trivial
     ·exact GK (arL _) (ah i)
 ·intro N j a w Q dw br ct cB fc;have Mo:gn N fU=aqW:=by
   simp only[s8,gn,ara] at dw;exact dw.2
  have acE:gn N (.region i10 hp aqZ)=aqW:=by have h1:(gn N (.seq (.region i7 jt aqZ) (.block iT (.loop (.seq (.region i8 je aqZ) (.seq (.cond (.tmp 32) .skip (.exit iT)) (.block kR (.seq (.region i9 jf aqZ) (.region i10 hp aqZ))))))))&&gn N fU)=aqW:=dw;rw[ara] at h1;have J:(gn N (.region i7 jt aqZ)&&(gn N (.region i8 je aqZ)&&(gn N (.cond (.tmp 32) .skip (.exit iT))&&(gn N (.region i9 jf aqZ)&&gn N (.region i10 hp aqZ)))))=aqW:=h1.1;simp only[ara] at J;exact J.2.2.2.2
  have bj:44<N:=VC dw 44 (K.Cc 44 (.inr (.inr (.inr (.inr ⟨by omega,by omega⟩)))));have abj:a.tmps.size=N:=cB.size;obtain ⟨kF,yE,Fm⟩:∃q,j bV=aqV q/\dZ a 8= .map (aqV q.aG):=by have:=cB.val 8;rw[hU] at this;exact this
  obtain ⟨ir,iD,cs,gH,E,g1,g2,g3,g4,g5⟩:nM P j kF w.heap[kF.aG]? (.map ((X.G.M t kt vt).cells es) t):=by have:=br.obj bV kF yE;rw[BU] at this;exact this
  rw[K.pS] at g2;cases g2;have aT:=nJ.xz K.fB.pos g3 (G8 K.fB K.Bv es);subst aT;have n2:=W2 K g4;have hC:cs.toList.length=es.length:=n2.length.symm;obtain ⟨B,oV⟩:∃B:vj P D X e kt vt,B=⟨V,N,oe j m w,l0 m bV,w,fr,mJ z bV,em.put bV .dead,k,xs,cs,gH,kF.aG,w.heap.size,m.next⟩:=⟨_,rfl⟩
  have fK:Jl B:=by
   subst oV;refine ⟨arU _,X0,XZ,aq9 _,g1,(br.lt bV kF yE).2,fun b q (aa:oe j m w b=aqV q) (ai:((l0 m bV).aG b).hM=aqW)=> ?_,g5,fun x U=> ?_, ?_⟩
   ·rcases wQ (m:=m) (bV:=bV) (b:=b) with h1|⟨h1,J,aj⟩
    ·rw[h1] at ai;cases ai
    ·rw[zz aj] at aa;rw[h1] at ai;exact fun ax=>J (br.inj b bV q kF aa yE ai (by rw[BU];rfl) ax)
   ·exact ba.mem n2 x U
   ·show xs.length+cs.size<=mg;rw[<-Array.length_toList,hC];exact hlen
  have acF:=(GP acE).1;obtain ⟨gm,p1,aX,d1,c8,Ls,t1⟩:=K.qR.h3.cons;obtain ⟨gW,Ci,e2,d2,dR,Lt,t2⟩:=t1.cons;have ij:=t2.nil;subst ij e2;dsimp only at d1 c8 d2 dR;unfold s8;refine wp_seq (wp_seq (wp_region_list ?_));rw[aX];refine mN Ls (w':=w) (v:=dZ a 8) (W9 c8) ?_;rw[d1];obtain ⟨c0,nU⟩:∃c0,c0=a.put (aqV 29) (dZ a 8):=⟨_,rfl⟩
  have cr:c0.tmps.size=N/\c0.defers=[]:=by rw[nU,fT.1,fT.2];exact ⟨cB.size,cB.defers⟩
  have a7:∀t,dZ c0 t=if t=29 then dZ a 8 else dZ a t:=fun t=>by rw[nU];exact mG (by omega)
  rw[<-nU];obtain ⟨cO,iM⟩:∃cO,cO=w.alloc (.mapIter (aqV kF.aG) gH #[] gH):=⟨_,rfl⟩
  refine mN Lt (w':=cO) (v:= .pointer (aqV ⟨w.heap.size,0,aqY⟩)) (by rw[iM];simp[execOp,dR,oq,a7,Fm,run_range_map w t kt vt kF.aG cs gH K.pS g1]) ?_;rw[d2];obtain ⟨a2,kv⟩:∃a2,a2=c0.put (aqV 30) (.pointer (aqV ⟨w.heap.size,0,aqY⟩)):=⟨_,rfl⟩
  have z2:a2.tmps.size=N/\a2.defers=[]:=by rw[kv,fT.1,fT.2];exact cr
  have bh:∀t,dZ a2 t=if t=30 then .pointer (aqV ⟨w.heap.size,0,aqY⟩) else dZ c0 t:=fun t=>by rw[kv];exact mG (by rw[cr.1];omega)
  rw[<-kv];refine wpList_nil ?_;have MC:∀b q,j b=aqV q->oe j m w b=aqV q:=bo.xB br.Cm;have abe:vk B a2 cO [] [] v6 (l0 m bV) (oe j m w) (mJ z bV) Al:=by
   subst oV;refine ⟨by rw[iM];exact Post.base br bV _,aiG ct, ?_,cT.refl _,trivial,fun b q aa eM=> ?_,fun x U=>(by cases U),List.nodup_nil,z2.2,z2.1, ?_, ?_, ?_,fun t ao=> ?_,fun t ao=>⟨fun _=> ?_,fun ax=>absurd rfl ax⟩⟩
   ·refine ⟨amg dH FD,rfl,fun i o u ae hu=> ?_,fun i hD o p u l9 b8 ae dY _ _ _ _=> ?_⟩
    ·cases i with
     |zero=>
      cases ae;cases hu;show c6 (X.G.T e) (mJ z bV) (em.put bV .dead) (l0 m bV) k (xs++[]) v6;rw[List.append_nil];refine ⟨?_,qQ.fresh⟩;rcases qQ.bf with h1|⟨b,o,L,c,cm,cw,dW,fG,l3,lB,Nh⟩
      ·exact .inl h1
      ·have ky:b≠bV:=fun ax=>by rw[ax,BU] at cw;cases cw
       refine .inr ⟨b,o,L,c,cm,by rw[Ho ky (by omega)];exact cw,by show b<m.next+1;omega,by simp[mJ,fG],l3,lB,fun i x U=> ?_⟩;obtain ⟨ds,fg,e1⟩:=Nh i x U;exact ⟨ds,by rw[K.ki _ _ _ fg];exact K.dG _ _,e1⟩
     |succ i=>cases ae
    ·cases i with
     |zero=>cases hD with
      |zero=>exact absurd rfl b8
      |succ hD=>cases dY
     |succ i=>cases ae
   ·show q.aG≠w.heap.size;rcases Ot (show oe j m w b=aqV q from aa) with ⟨h1,_⟩|⟨_,h1⟩
    ·exact absurd h1 eM
    ·have:=(br.lt b q h1).2;omega
   ·rw[bh,if_neg (by omega),a7,if_neg (by omega),<-dv];exact (cB.val 6).mono MC
   ·rw[bh,if_neg (by omega),a7,if_pos rfl,Fm];intro b aa;cases aa
   ·rw[bh,if_pos rfl]
   ·have b8:t≠29/\t≠30:=by refine ⟨?_, ?_⟩<;>(rintro rfl;exact absurd ao (by decide))
    rw[bh,if_neg b8.2,a7,if_neg b8.1];exact (cB.val t).mono MC
   ·have b8:t≠29/\t≠30:=by refine ⟨?_, ?_⟩<;>(rintro rfl;exact absurd ao (by decide))
    rw[bh,if_neg b8.2,a7,if_neg b8.1];exact (cB.val t).mono MC
  have abb:Hg B cO []:=by subst oV;refine ⟨gH, ?_,aq9 _⟩;rw[iM];exact (aub w _).1
  have Lw:B.N=N:=by rw[oV]
  have Lx:B.V=V:=by rw[oV]
  show (Code.block iT _).wp P _ a2 cO;refine wp_block (wp_loop (fun a' w'=>∃fN bK DQ mk jl mc wf,vk B a' w' fN bK DQ mk jl mc wf/\Hg B w' fN) (fun _ w'=>FU B.jw B.r w') ⟨[],[],v6,l0 m bV,oe j m w,mJ z bV,Al,abe,abb⟩ fun a3 qo ⟨fN,bK,ma,mk,jl,mc,an1,h,ae⟩=> ?_);refine amM fK bW jV K.qR (by rw[Lw];exact bj) (by rw[Lw];exact acF) K.vZ (by rw[Lx];exact K.aa) h ae (fun a' w' DG Nf DQ mk' MN Q0 Ak h1 J aj aM=>⟨⟨DG,Nf,DQ,mk',MN,Q0,Ak,h1,J⟩,aM⟩) fun a' bA v31 v32 jR kf jP=> ?_;show fU.wp P Q a' qo;have TW:B.cs=cs:=by rw[oV]
  rw[TW] at jP;have hL:∀x∈fN,x∈cs.toList:=by rw[<-TW];exact h.mem
  have B1:=aeL h.fF g5.1 hL jP;obtain ⟨tF,B0,o1⟩:=ba.perm B1.symm n2;have aca:∀a b,V.o7 a=V.o7 b->a=b:=fun a b eF=>K.fB.inj a b (by rw[K.yF,K.yF,eF]);have acZ:ba (fun (p:D kt×D vt) (x:MapEntry)=>x.key=V.o7 p.1/\x.val=V.nE p.2) bK fN:=by have:=h.rel;rw[Lx] at this;exact this
  have acL:=ba.left (fun p se x h1 J=>ath (aca _ _ (h1.1.symm.trans J.1)) (K.UY _ _ (h1.2.symm.trans J.2))) acZ o1;subst acL;have dp:=aF bK B0.symm;have Mr:fN≠[]:=fun ax=>by rw[ax] at B1;have:=B1.length_eq;rw[hC] at this;exact b8 (List.length_eq_zero_iff.1 (by simpa using this.symm))
  have LB:jJ jl N (oS fr ma) a':=by
   refine ⟨fun t=> ?_,jR,by rw[kf,Lw]⟩;show cb jl (oS fr ma t) (dZ a' t);unfold oS;by_cases dv:t=6
   ·subst dv;rw[if_pos rfl,bA 6 (by omega) (by omega)];exact h.v6
   rw[if_neg dv];by_cases lS:t=32
   ·subst lS;rw[if_pos rfl,v32];rfl
   rw[if_neg lS];by_cases hw:jc t=aqW
   ·rw[if_pos hw];refine pn ?_;by_cases pN:t=31
    ·rw[pN];exact v31
    rw[bA t pN lS];by_cases pM:t=29
    ·rw[pM];exact h.ZH
    by_cases oU:t=30
    ·rw[oU,h.v30];intro b aa;cases aa
    refine (h.on t ?_).2 Mr;simp only[jc,Cj,ar7,ara,as0,atc] at hw⊢;omega
   ·rw[if_neg hw];have gR:jc t=aqZ:=by simpa using hw
    have b8:t≠31:=by rintro rfl;exact absurd gR (by decide)
    rw[bA t b8 lS];have:=h.off t gR;rw[oV] at this;exact this
  have fE:bm X.G [.az e (xs++bK.map fun p=>V.app p.1 p.2) aqZ an1] mc B.em mk B.k [ma]:=by have:=h.y3;rw[Lx,show B.xs=xs by rw[oV]] at this;exact this
  obtain ⟨aaA,cl,kX⟩:=(show c6 (X.G.T e) mc B.em mk B.k _ ma from fE.obj 0 _ ma rfl rfl).bf.len;have LF:eA X mc [ma] [(6, .c (.own 0))] (oS fr ma):=by
   intro d;simp only[eg];split
   ·rename_i aB;have:=arA aB;subst this;exact ⟨rfl,by rw[show oS fr ma 6=ma from rfl,kX];exact ⟨rfl,rfl⟩⟩
   ·trivial
  obtain ⟨n,ex,fx,m2,vI,z',vs',E',bD,fC,pZ,lZ,yr,ys,abc⟩:=zH bW (B:=fU) (us:=[]) (L:=0) (by simp) fU aqW [] _ _ (getD e) dS (pj fU) (asd _) (by simp) fE LF ((K.ev _ _).trans dp);obtain ⟨rfl,Mk,aa2,eo,Ak,aa1,abk⟩:=ahv abc;obtain ⟨vA,Bu⟩:=F7 jV n;refine Nz jV vA Bu n fU (oS fr ma) fx mk m2 .ret jl a' qo Q Mo vI h.post.rel h.QF LB fun a4 IG MM acJ Fa=> ?_;have bt:Post P (oe j m w) (l0 m bV) w MM m2 IG:=by have:=h.post.trans acJ;rw[oV] at this;exact this
  have TT:=ys 4;rw[aa1] at TT;have adl:c6 (X.G.T e) z' (em.put bV .dead) m2 k dS (fx 4):=by have:c6 (X.G.T e) z' B.em m2 B.k dS (fx 4):=yr.obj eo _ _ abk TT.1;rw[oV] at this;exact this
  have ac5:cL z' (em.put bV .dead) m2 k:=by have:=yr.aO;rw[oV] at this;exact this
  have adF:cT em.next (mJ z bV) z':=by have:=h.aaa.trans pZ;rw[oV] at this;exact this
  obtain ⟨p0,abn,abq,ab9⟩:=amQ K.ki K.hf K.dQ K.nb br ct dH FD BU cg bt ac5 adF adl (Fa.val 4) MJ;refine fc a4 IG p0 abn ⟨fun t=> ?_,Fa.defers,Fa.size⟩;have adR:∀t,¬(t=4\/t=5\/42<=t/\t<=44)->fx t=oS fr ma t:=fun t ao=>Ny n fU _ _ _ _ _ (Bool.eq_false_iff.2 fun U=>ao (K.ME t U)) vI;have iL:∀u,vs'[0]? =aqV u->hF u:=fun u hu=>by have:=lZ 0 ma rfl;rw[this] at hu;cases hu;rw[kX];exact N6
  show cb p0 (vx fr m.next dS.length t) (dZ a4 t);have pQ:cb MM (fx t) (dZ a4 t):=Fa.val t;unfold vx;by_cases tA:t=4
  ·subst tA;rw[if_pos rfl];exact abq
  rw[if_neg tA];by_cases JN:t=5
  ·subst JN;have TU:=ys 5;rw[aa2] at TU;rw[show fx 5= .int .i64 0 from TU] at pQ;rw[if_pos rfl];exact pQ
  rw[if_neg JN];by_cases Bg:42<=t/\t<=44
  ·have nm:¬t=32:=by omega
   rw[if_neg nm,if_pos (.inr Bg)];exact pn (Dk pQ (Ym yr iL (Mk t Bg.1 Bg.2) (ys t)))
  have ace:=adR t (fun ax=>by rcases ax with ax|ax|ax;exact tA ax;exact JN ax;exact Bg ax);rw[ace] at pQ;by_cases EJ:t=32
  ·subst EJ;rw[if_pos rfl];exact pQ
  rw[if_neg EJ];by_cases hw:jc t=aqW
  ·rw[if_pos (.inl hw)];refine pn ?_;by_cases dv:t=6
   ·subst dv;rw[show oS fr ma 6=ma from rfl] at pQ;exact Dk pQ (by rw[kX];exact N6)
   ·rw[show oS fr ma t=any by unfold oS;rw[if_neg dv,if_neg EJ,if_pos hw]] at pQ;exact pQ
  ·rw[if_neg (fun ax=>by rcases ax with ax|ax;exact hw ax;exact Bg ax)];have dv:t≠6:=by rintro rfl;exact hw (by decide)
   rw[show oS fr ma t=fr t by unfold oS;rw[if_neg dv,if_neg EJ,if_neg hw]] at pQ;refine ((wE (n:=m.next)).2.2 pQ (cB.low br t)).mono fun b q aa=> ?_;obtain ⟨oW,nV⟩:=pd aa;have h1:MM b=oe j m w b:=bt.ext b (atk oW);rw[zz (by omega)] at h1;rw[ab9 b oW,<-h1];exact nV
end
end
end Go.aS
end
