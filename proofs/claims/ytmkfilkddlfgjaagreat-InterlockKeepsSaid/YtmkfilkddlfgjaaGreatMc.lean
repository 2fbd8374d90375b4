import Derived.Maps.RangeRun
import Derived.Test.YtmkfilkddlfgjaaGreatMb
set_option linter.unusedSimpArgs false
set_option linter.unusedVariables false
open Array renaming ext'->ar6
open Bool renaming and_eq_true->aq5,and_eq_true_iff->asX,and_self->asC,noConfusion->atL,not_eq_true'->ar',or_eq_false_iff->atM,or_eq_true->ar1,false->aqT,true->aqQ
open Classical renaming not_not->at5
open Go renaming IntKind->aqW,Operand->aqX,Program->aqV,TypeId->aqY,Value->aqR
open Go.MapKept renaming heap_alloc->at7
open List renaming all_cons->arL,all_eq_true->aq8,contains_iff_mem->atO,ext_getElem?->asw,getD->arW,getD_cons_succ->aui,getD_eq_getElem?_getD->at6,getElem?_append_left->arf,getElem?_append_right->are,getElem?_cons_succ->asy,getElem?_eq_getElem->ars,getElem?_eq_none->asP,getElem?_eq_some_iff->aqZ,getElem?_map->arB,getElem?_range->as2,getElem?_set->arp,getElem?_set_ne->asK,length_append->ari,length_cons->arr,length_map->arN,length_range->atN,length_set->asb,map_append->ar3,map_cons->arG,mem_append->arc,mem_cons->aq6,mem_cons_of_mem->ard,mem_cons_self->arn,mem_filter->aty,mem_flatMap->asz,mem_map->aq',mem_of_getElem?->aq7,mem_singleton->arO,not_mem_nil->asB,range->arI,reverse_reverse->auj
open Nat renaming add_assoc->arx,add_zero->arC,beq->aq9,beq_eq->as6,ble->art,ble_eq->asW,blt->asm,blt_eq->atl,eq_of_beq_eq_true->aru,le_of_ble_eq_true->asa,le_refl->aq3,le_succ->arE,le_trans->arj,lt_irrefl->ata,lt_of_lt_of_le->aro,lt_or_ge->arK,lt_succ_of_lt->atf,lt_succ_self->arP,mul_le_mul_right->ar9,zero_add->ara,zero_le->ar7
open Option renaming bind->aqU,getD_some->asg,map_eq_some_iff->atk,map_some->asv,some->ark,none->aqS,some->aqP
open Prod renaming ext->atb
section
namespace Go.aS
section
variable {P:aqV} {D:Nat->Type} {X:dx P D} {af:Type} {z z':Nat->a6} {e m m':Mem} {k:Option Nat} {vs vs':List aqR} {fr:Nat->aqR} {E:List (Nat×aQ D)} {O bB:List (aL D)} {o:Oper} {r:af}
theorem eV {ap:Type} {p:Prop} [Decidable p] {a:Option ap} {x:ap} (h:(if p then a else aqS)=aqP x):p/\a=aqP x:=by
 split at h
 ·exact ⟨‹_›,h⟩
 ·cases h
theorem fq.refl (m:Mem):fq m m aqS:=⟨aq3 _,fun _ _ _=>rfl⟩
theorem fq.push (m:Mem) (Y:a6):fq m (m.push Y) aqS:=⟨arE _,fun b aa _=>if_neg (by omega)⟩
theorem fq.put (m:Mem) (c:Nat) (Y:a6):fq m (m.put c Y) (aqP c):=⟨aq3 _,fun b aa aq=>if_neg (fun h=>aq (by rw[h]))⟩
theorem fq.any (h:fq m m' aqS) (q:Option Nat):fq m m' q:=⟨h.1,fun b aa _=>h.2 b aa (by simp)⟩
theorem bV.FQ {af:aqX->aqR} {K kC:Tag->aqR->Mem->Prop} (h:bV P af o m K)
  (h1:∀v,cO P af o v->(∃t,K t v m)->kC .pure v m) (J:∀v,eS P af o m v->K (.read fun m=>eS P af o m v) v m->kC (.read fun m=>eS P af o m v) v m)
  (aj:∀Y v,hW P af o m.next Y v->K .new v (m.push Y)->kC .new v (m.push Y)) (aM:∀n v m',gE P (h4 P n) af o m v m'->K .e3 v m'->kC .e3 v m'):bV P af o m kC:=by
 rcases h with ⟨v,h,g⟩|⟨v,I,h,g⟩|⟨v,h,g⟩|⟨Y,v,h,g⟩|⟨n,v,m',h,g⟩
 ·exact .inl ⟨v,h,h1 v h ⟨_,g⟩⟩
 ·exact .inl ⟨v,h,h1 v h ⟨_,g⟩⟩
 ·exact .inr (.inr (.inl ⟨v,h,J v h g⟩))
 ·exact .inr (.inr (.inr (.inl ⟨Y,v,h,aj Y v h g⟩)))
 ·exact .inr (.inr (.inr (.inr ⟨n,v,m',h,aM n v m' h g⟩)))
theorem ahe {C:FuncId->Array aqR->Mem->aqR->Mem->Prop} {v:aqR} (aT:∀x,rel X.G z vs (cm E x) (aJ fr x)) (h:gE P C (aJ fr) o m v m') {ts:List Nat} (ao:uJ X E o.op=aqP ts)
  (ad:∀x as qd,o.op≠ .call {callee:= .value x,args:=as,argTypes:=qd}):∃q,fq m m' q/\mR vs ts q:=by
 cases h with
 |store t x y b off i L e h U ae hm ad az ai=>
  simp only[uJ,h] at ao;have aw:=aT x;split at ao
  ·rename_i j p az;cases ao;rw[az] at aw;obtain ⟨b2,g1,g2⟩:=aw;rw[U] at g2;cases g2;exact ⟨_,fq.put m b _, .inr ⟨j,by simp,_,g1,rfl⟩⟩
  ·rename_i j u cx p az;cases ao;rw[az] at aw;obtain ⟨b2,f0,l,c,g1,g2⟩:=aw;rw[U] at g2;cases g2;exact ⟨_,fq.put m b _, .inr ⟨j,by simp,_,g1,rfl⟩⟩
  ·cases ao
 |call f args v m' h bO=>obtain ⟨x,as,qd,first,cap,h,_⟩:=h;exact absurd h (ad x as qd)
 |vf x y t u e i a l c h _ _ _ _ _ _=>exact ⟨aqS,fq.refl _, .inl rfl⟩
 |rv x y t u e i z a l c n dg new h _ _ _ _ _ _ _ _ _ _ _ _ _ _=>exact ⟨aqS,fq.push _ _, .inl rfl⟩
 |x3 x y t u e i b off l c n L new h _ _ U _ hU acs _ lO _=>
  simp only[uJ,h] at ao;have aw:=aT x;split at ao
  ·rename_i az;rw[az] at aw;have aw:aJ fr x= .slice aqS 0 0:=aw;rw[U] at aw;cases aw
  ·rename_i j az;cases ao;rw[az] at aw;exact ⟨_,fq.put m b _, .inr ⟨j,by simp,_,aw.1,by rw[U];rfl⟩⟩
  ·rename_i j _ _ _ az;cases ao;rw[az] at aw;obtain ⟨w,g1,g2⟩:=aw;exact ⟨_,fq.put m b _, .inr ⟨j,by simp,_,g1.1,by rw[<-g2.aH,U];rfl⟩⟩
  ·rename_i az;cases ao;rw[az] at aw;obtain ⟨_,_,a,au⟩:=aw;rw[U] at au;cases au;have aI:n=0:=by omega
   have oS:new=[]:=List.eq_nil_of_length_eq_zero (by rw[lO,aI,Nat.zero_mul]);subst oS;refine ⟨aqS,⟨aq3 _,fun c _ _=> ?_⟩, .inl rfl⟩;simp only[Mem.put,eT];split
   ·rename_i dB;rw[dB,acs]
   ·rfl
  ·cases ao
 |append x y t u e i z b off l n L new h _ _ _ _ _ _ U _ _ _ _ _ _=>
  simp only[uJ,h] at ao;have aw:=aT x;have ab:fq m ((m.put b .dead).push (.own ((L.drop off).take (l*i.size)++new) e)) (aqP b):=by have:=fq.put m b .dead;exact ⟨arE _,fun c ab aq=>by rw[show ((m.put b .dead).push _).aH c=(m.put b .dead).aH c from if_neg (by show c≠m.next;omega)];exact this.2 c ab aq⟩
  split at ao
  ·rename_i az;rw[az] at aw;have aw:aJ fr x= .slice aqS 0 0:=aw;rw[U] at aw;cases aw
  ·rename_i j az;cases ao;rw[az] at aw;exact ⟨_,ab, .inr ⟨j,by simp,_,aw.1,by rw[U];rfl⟩⟩
  ·rename_i j _ _ _ az;cases ao;rw[az] at aw;obtain ⟨w,g1,g2⟩:=aw;exact ⟨_,ab, .inr ⟨j,by simp,_,g1.1,by rw[<-g2.aH,U];rfl⟩⟩
  ·rename_i az;cases ao;rw[az] at aw;obtain ⟨_,fG,a,au⟩:=aw;rw[U] at au;injection au with _ h1 J;rw[<-J] at fG;exact absurd fG (ata _)
  ·cases ao
 |copy x y t u e i b off l c L cs h _ _ _ _ _ _ _=>simp[uJ,h] at ao
 |mapUpdate gz x ij ix u kt vt b L bQ vc F mQ fg h _ _ U _ _ _ _ _ _ _ _ _ _ _ _ _ _ _=>
  have aw:=aT x;have ao:(match cm E x with| .c (.own j)=>aqP [j]|_=>aqS)=aqP ts:=by rcases h with h|h<;>(rw[h] at ao;exact ao)
  split at ao
  ·rename_i j az;cases ao;rw[az] at aw;exact ⟨_,fq.put m b _, .inr ⟨j,by simp,_,aw.1,by rw[U];rfl⟩⟩
  ·cases ao
theorem Wj {caps:List (Nat×List (bJ D))}:∀{l:List (aQ D)},p2 (l++caps.map fun p=>aQ.gd p.1 p.2 0)=p2 l
 |[]=>by
  induction caps with
  |nil=>rfl
  |cons c caps a8=>exact a8
 |s::l=>by cases s<;>simp only[List.cons_append,p2,Wj (l:=l)]
theorem aje (bO:fQ X) {K:aQ D->List (aL D)->Option af} (av:bo X.G O z e m k vs) (aT:∀x,rel X.G z vs (cm E x) (aJ fr x)) (mZ:iI o.op=aqQ) {ts:List Nat} (ao:uJ X E o.op=aqP ts) (h:ga X o.op E O K=aqP r):
  bV P (aJ fr) o m fun _ v m'=>c0 X O z e k vs K r v m'/\(p4 X E O o.op=aqQ->m'=m)/\∃q,fq m m' q/\mR vs ts q:=by
 have Vh:(∀x as qd,o.op≠ .call {callee:= .value x,args:=as,argTypes:=qd})->∀{p:Prop},p4 X E O o.op=aqQ->p:=fun ad p aK=>by
  unfold p4 at aK;split at aK
  ·rename_i c ab;split at aK
   ·rename_i f aP;obtain ⟨ce,as,ts⟩:=c;exact absurd (by rw[ab];simp only at aP;rw[aP]) (ad f as ts)
   ·cases aK
  ·cases aK
 have gen:(∀x as qd,o.op≠ .call {callee:= .value x,args:=as,argTypes:=qd})->bV P (aJ fr) o m fun _ v m'=>c0 X O z e k vs K r v m'/\(p4 X E O o.op=aqQ->m'=m)/\∃q,fq m m' q/\mR vs ts q:=fun ad=>
  (Hk bO rfl av aT h).FQ (fun v _ ⟨_,hk⟩=>⟨hk,fun _=>rfl,aqS,fq.refl _, .inl rfl⟩) (fun v _ hk=>⟨hk,fun _=>rfl,aqS,fq.refl _, .inl rfl⟩) (fun Y v _ hk=>⟨hk,Vh ad,aqS,fq.push _ _, .inl rfl⟩) fun n v m' he hk=>⟨hk,Vh ad,ahe aT he ao ad⟩
 by_cases ad:∀x as qd,o.op≠ .call {callee:= .value x,args:=as,argTypes:=qd}
 ·exact gen ad
 ·simp only[Classical.not_forall,ne_eq,at5] at ad;obtain ⟨f,as,qd,ah⟩:=ad;rw[ah] at h ao;simp only[uJ] at ao;have h:qU X {callee:= .value f,args:=as,argTypes:=qd} E O K=aqP r:=h;simp only[qU] at h;split at h
  ·rename_i jG caps aP;rw[aP] at ao;simp only at ao;have fY:=aT f;rw[aP] at fY;obtain ⟨gs,vx,aG⟩:=fY;split at h
   ·rename_i eR nZ;rw[nZ] at ao;cases ao;have LW:caps=[]:=(Gu nZ).2.1;subst LW;have Bt:gs=[]:=by cases gs with
     |nil=>rfl
     |cons _ _=>exact aG.elim
    subst Bt;refine bV.call (CF (args:=(as.toList.map (aJ fr)).toArray) (caps:=#[]) ah vx (by apply ar6;simp) rfl) ?_;have aK:p4 X E O o.op=aqT:=by rw[ah];simp only[p4,aP,nZ]
    rw[aK];have:=(WM nZ av (wq aT) h).mono fun v m' (h:_/\_)=>(⟨h.1,fun ax=>atL ax,h.2⟩:c0 X O z e k vs K r v m'/\(aqT=aqQ->m'=m)/\∃q,fq m m' q/\mR vs (zp (as.toList.map (cm E))) q)
    simpa using this
   rename_i Mz;rw[Mz] at ao;simp only at ao;split at ao
   ·cases ao
   rename_i hw;have hw:X.W jG=aqT:=by simpa using hw
   cases ao;refine bV.call (CF (args:=(as.toList.map (aJ fr)).toArray) (caps:=gs.toArray) ah vx (by apply ar6;simp) rfl) ?_;have:=(bO jG _ O K r (as.toList.map (aJ fr)++gs) av ((wq aT).append aG.caps) h).mono fun v m' ax=>(⟨ax.1,ax.2.1,ax.2.2 hw⟩:_/\_/\_)
   rw[Wj] at this;have aK:p4 X E O o.op=X.F jG (as.toList.map (cm E)++caps.map fun p=> .gd p.1 p.2 0) O:=by rw[ah];simp only[p4,aP,Mz]
   rw[aK];simpa using this
  ·rename_i jG is aP;rw[aP] at ao;cases ao
  ·cases h
theorem Om {C:FuncId->Array aqR->Mem->aqR->Mem->Prop} (bO:∀f args m v m',C f args m v m'->m.next<=m'.next) {af:aqX->aqR} {v:aqR} (h:gE P C af o m v m'):m.next<=m'.next:=by
 cases h with
 |call f args v m' h ab=>exact bO _ _ _ _ _ ab
 |rv=>exact arE _
 |append=>exact arE _
 |_=>exact aq3 _
theorem afX {C:FuncId->Array aqR->Mem->aqR->Mem->Prop} (bO:∀f args m v m',C f args m v m'->m.next<=m'.next) {af:aqX->aqR} {v:aqR} (h:oD P C af o m v m'):m.next<=m'.next:=by
 cases h with
 |new h=>exact arE _
 |e3 h=>exact Om bO h
 |_=>exact aq3 _
theorem Of {C:FuncId->Array aqR->Mem->aqR->Mem->Prop} (bO:∀f args m v m',C f args m v m'->m.next<=m'.next) {ops:List Oper}:∀{l:List Oper} {fr fr':Nat->aqR} {m m':Mem},jU P C ops l fr m fr' m'->m.next<=m'.next
 |[],_,_,_,_,⟨_,h⟩=>by rw[h];exact aq3 _
 |o::l,fr,fr',m,m',h=>by
  unfold jU at h;split at h
  ·obtain ⟨v,m1,h1,J⟩:=h;exact arj (afX bO h1) (Of bO J)
  ·exact Of bO h
theorem y1 {C:FuncId->Array aqR->Mem->aqR->Mem->Prop} (bO:∀f args m v m',C f args m v m'->m.next<=m'.next) {ops:List Oper} {B:Array Nat}:∀{l:List Oper} {i:Nat} {A:Acc} {fr fr':Nat->aqR} {m m':Mem},gx P C ops B i l A fr m fr' m'->m.next<=m'.next
 |[],_,_,_,_,_,_,⟨_,h⟩=>by rw[h];exact aq3 _
 |o::l,i,A,fr,fr',m,m',h=>by
  unfold gx at h;split at h
  ·rcases h with ⟨v,_,h⟩|⟨v,_,_,h⟩|⟨Y,v,_,h⟩|⟨v,m1,h1,_,_,h⟩
   ·exact y1 bO h
   ·exact y1 bO h
   ·exact arj (arE _) (y1 bO h)
   ·exact arj (Om bO h1) (y1 bO h)
  ·exact y1 bO h
theorem Wy {C:FuncId->Array aqR->Mem->aqR->Mem->Prop} (bO:∀f args m v m',C f args m v m'->m.next<=m'.next):∀(n:Nat) {c:Code} {fr fr':Nat->aqR} {m m':Mem} {e:dX},ky P C n c fr m e fr' m'->m.next<=m'.next:=by
 intro n;induction n with
 |zero=>intro c fr fr' m m' e h;exact h.elim
 |succ n a8=>
  intro c fr fr' m m' e h;cases c with
  |skip=>obtain ⟨_,rfl,rfl⟩:=h;exact aq3 _
  |label l=>obtain ⟨_,rfl,rfl⟩:=h;exact aq3 _
  |exit id=>obtain ⟨_,rfl,rfl⟩:=h;exact aq3 _
  |ret=>obtain ⟨_,rfl,rfl⟩:=h;exact aq3 _
  |region id ops d=>
   cases d with
   |false=>exact Of bO h.2
   |true=>exact y1 bO h.2
  |seq a b=>
   rcases h with ⟨aX,eU,m1,h1,J⟩|h
   rotate_left
   ·exact h.next
   split at J
   ·exact arj (a8 h1) (a8 J)
   ·obtain ⟨_,rfl,rfl⟩:=J;exact a8 h1
  |cond c a b=>obtain ⟨t,_,h1⟩:=h;exact a8 h1
  |block id c=>obtain ⟨aX,h1,_⟩:=h;exact a8 h1
  |scope c=>exact a8 h
  |loop c=>
   obtain ⟨aX,eU,m1,h1,J⟩:=h;split at J
   ·exact arj (a8 h1) (a8 J)
   ·obtain ⟨_,rfl,rfl⟩:=J;exact a8 h1
  |rangeFunc f bK x y=>exact h.elim
  |goto l=>exact h.elim
  |refuse s=>exact h.elim
theorem Nt:∀(n:Nat) (f:FuncId) (args:Array aqR) (m:Mem) (v:aqR) (m':Mem),h4 P n f args m v m'->m.next<=m'.next
 |0,_,_,_,_,_,h=>h.elim
 |n+1,f,args,m,v,m',h=>by
  rcases h with ⟨_,h⟩|⟨fn,c,e,fr,m1,vs,_,_,_,_,h,_,_,_,_,J⟩
  ·cases h<;>exact aq3 _
  ·have h1:=Wy (Nt n) n h;rcases J with rfl|⟨rfl,_⟩
   ·exact h1
   ·exact aq3 _
def AN (m:Mem) (I:Mem->Prop) (ob:Option Nat):Prop:=∀m',(∀b,ob=aqP b->m'.aH b=m.aH b)->I m'
theorem Xz {b off:Nat} {v:aqR} (h:m.load b off=aqP v) (aa:m'.aH b=m.aH b):m'.load b off=aqP v:=by
 unfold Mem.load at h⊢;rw[aa];exact h
theorem GW {b:Nat} (aa:m'.aH b=m.aH b):∀(n off:Nat),jz m' b off n=jz m b off n
 |0,_=>rfl
 |n+1,off=>by
  have:∀o,m'.load b o=m.load b o:=fun o=>by unfold Mem.load;rw[aa]
  simp only[jz,this,GW aa n]
def tj (z:Nat->a6) (vs:List aqR) (ob:Option Nat):kF->Prop
 | .od=>False
 | .lost=>False
 | .bg=>∀b,ob=aqP b->(z b).fF
 | .ob j=>∀b,ob=aqP b->∃u,vs[j]? =aqP u/\c7 u=aqP b
def xU (z:Nat->a6) (vs:List aqR) (b:Nat):kF->Prop
 | .od=>False
 | .lost=>False
 | .bg=>(z b).fF
 | .ob j=>∃u,vs[j]? =aqP u/\c7 u=aqP b
theorem xU.at {b:Nat} {s:kF} (h:xU z vs b s):tj z vs (aqP b) s:=by
 cases s with
 |od=>exact h
 |lost=>exact h
 |bg=>intro c ab;cases ab;exact h
 |ob j=>intro c ab;cases ab;exact h
theorem ajt {s:kF} {v:aqR} (av:bo X.G O z e m k vs) (aT:∀x,rel X.G z vs (cm E x) (aJ fr x)) (az:sn E o.op=aqP s) (h:eS P (aJ fr) o m v):
  ∃ob,AN m (fun m=>eS P (aJ fr) o m v) ob/\tj z vs ob s:=by
 have aaV:∀{t:Nat} {c:bJ D} {cs:List (bJ D)} {off b M6:Nat},rel X.G z vs (.gd t (c::cs) off) (.pointer (aqP ⟨b,M6,aqS⟩))->(z b).fF:=by
  rintro t c cs off b M6 ⟨b2,o',ds,h1,J,aj⟩;cases h1;cases ds with
  |nil=>exact aj.elim
  |cons d ds=>exact CG (J 0 d rfl)
 have ptr:∀{x:aqX} {b off:Nat},aJ fr x= .pointer (aqP ⟨b,off,aqS⟩)->(match cm E x with| .gd _ (_::_) _=>aqP kF.bg| .box j _=>aqP (.ob j)| .el j _ _ _=>aqP (.ob j)|_=>aqS)=aqP s->xU z vs b s:=by
  intro x b off U az;have aw:=aT x;split at az
  ·rename_i h1;cases az;rw[h1,U] at aw;exact aaV aw
  ·rename_i h1;cases az;rw[h1,U] at aw;obtain ⟨b2,g1,g2⟩:=aw;cases g2;exact ⟨_,g1,rfl⟩
  ·rename_i h1;cases az;rw[h1,U] at aw;obtain ⟨b2,f0,l,c,g1,g2⟩:=aw;cases g2;exact ⟨_,g1,rfl⟩
  ·cases az
 have ay:∀{t:Nat} {xs:List (D t)} {b off l c:Nat},ev (X.G.T t) z xs (.slice (aqP ⟨b,off,aqS⟩) l c)->(z b).fF:=by
  rintro t xs b off l c (⟨h1,_⟩|⟨b2,o',bP,h1,J,_⟩)
  ·cases h1
  ·cases h1;exact J
 cases h with
 |load t x b off d v h U ao aB ad=>simp only[sn,h] at az;exact ⟨aqP b,fun m' hm=> .load t x b off d v h U ao aB (Xz ad (hm b rfl)),(ptr U az).at⟩
 |vV t x b off d i cs h U ao aB ae ad=>simp only[sn,h] at az;exact ⟨aqP b,fun m' hm=> .vV t x b off d i cs h U ao aB ae (by rw[GW (hm b rfl)];exact ad),(ptr U az).at⟩
 |slice t x bG ae bw i L b off l n cp h ao dY U hm eZ eg h1 J aj=>
  simp only[sn,h] at az;refine ⟨aqP b,fun m' gB=> .slice t x bG ae bw i L b off l n cp h ao dY U (by rw[gB b rfl];exact hm) eZ eg h1 J aj,xU.at ?_⟩;have aw:=aT x;split at az
  ·rename_i g;rw[g,U] at aw;cases aw
  ·rename_i g;cases az;rw[g,U] at aw;exact ay aw
  ·rename_i g;cases az;rw[g,U] at aw;exact ⟨_,aw.1,rfl⟩
  ·cases az
 |str cc t x bw b off l c cs h j3 he ao U ad=>
  simp only[sn,h] at az;refine ⟨aqP b,fun m' gB=> .str cc t x bw b off l c cs h j3 he ao U (by rw[GW (gB b rfl)];exact ad),xU.at ?_⟩;have aw:=aT x;split at az
  ·rename_i g;cases az;rw[g,U] at aw;exact ay aw
  ·rename_i g;cases az;rw[g,U] at aw;exact ⟨_,aw.1,rfl⟩
  ·rename_i g;rw[g,U] at aw;cases aw
  ·rename_i g;rw[g,U] at aw;cases aw
  ·cases az
 |zW cc t x bw l c h j3 he ao U=>
  simp only[sn,h] at az;refine ⟨aqS,fun m' gB=> .zW cc t x bw l c h j3 he ao U, ?_⟩;have aw:=aT x;split at az
  ·cases az;intro b aa;cases aa
  ·cases az;intro b aa;cases aa
  ·rename_i g;rw[g,U] at aw;cases aw
  ·rename_i g;rw[g,U] at aw;cases aw
  ·cases az
 |lookup gz x cx ok u kt vt b L F i z' v0 t fg h hf hu U k7 j5 kC aP hk aG ae aE cg ai=>
  simp only[sn,h] at az;rcases U with ⟨U,hm,k2⟩|⟨U,k2⟩
  ·refine ⟨aqP b,fun m' gB=> .lookup gz x cx ok u kt vt b L F i z' v0 t fg h hf hu (.inl ⟨U,by rw[gB b rfl];exact hm,k2⟩) k7 j5 kC aP hk aG ae aE cg ai,xU.at ?_⟩;have aw:=aT x;split at az
   ·rename_i g;cases az;rw[g,U] at aw;rcases aw with ⟨h1,_⟩|⟨r,h1,J⟩
    ·cases h1
    ·cases h1;show (z _).fF;rw[J];exact True.intro
   ·rename_i g;cases az;rw[g,U] at aw;exact ⟨_,aw.1,rfl⟩
   ·cases az
  ·refine ⟨aqS,fun m' gB=> .lookup gz x cx ok u kt vt b L F i z' v0 t fg h hf hu (.inr ⟨U,k2⟩) k7 j5 kC aP hk aG ae aE cg ai, ?_⟩;split at az
   ·cases az;intro b aa;cases aa
   ·cases az;intro b aa;cases aa
   ·cases az
def aal (z:Nat->a6) (m:Mem) (vs:List aqR) (I:Mem->Prop) (s:kF):Prop:=
 s= .lost\/∃ob,AN m I ob/\(∀b,ob=aqP b->b<m.next)/\tj z vs ob s
structure hn (z:Nat->a6) (m:Mem) (vs:List aqR) (A:Acc) (L:eX):Prop where
 rd:∀x∈A.reads,∃y∈L.rd,y.1=x.1/\aal z m vs x.2 y.2
 iB:∀x∈A.gM,∃y∈L.iB,y.1=x.1/\(y.2.1=aqQ->m=x.2)/\∀j∈y.2.2,∃v,vs[j]? =aqP v/\∀b,c7 v=aqP b->b<m.next/\m.aH b=x.2.aH b
 hh:∀x∈A.news,∃y∈L.hh,y.1=x.1/\x.2<m.next/\∃v,vs[y.2]? =aqP v/\c7 v=aqP x.2
theorem AN.step {I:Mem->Prop} {ob q:Option Nat} (h:AN m I ob) (aa:∀b,ob=aqP b->b<m.next) (ab:fq m m' q) (aK:∀b,ob=aqP b->q≠aqP b):AN m' I ob:=fun m2 hm=>h m2 fun b ct=>by
 rw[hm b ct,ab.2 b (aa b ct) (aK b ct)]
theorem tj.mono {ob:Option Nat} {s:kF} (h:tj z vs ob s) (aE:ew z z') (ad:∀(i:Nat) (u:aqR),vs[i]? =aqP u->vs'[i]? =aqP u):tj z' vs' ob s:=by
 cases s with
 |od=>exact h
 |lost=>exact h
 |bg=>intro b aa;rw[aE b (h b aa)];exact h b aa
 |ob j=>intro b aa;obtain ⟨u,g1,g2⟩:=h b aa;exact ⟨u,ad _ _ g1,g2⟩
theorem hn.step {A:Acc} {L:eX} {q:Option Nat} (h:hn z m vs A L) (aE:ew z z') (ad:∀(i:Nat) (u:aqR),vs[i]? =aqP u->vs'[i]? =aqP u) (ab:fq m m' q)
  (L':eX) (aw:∀y∈L.rd,∃jd∈L'.rd,jd.1=y.1/\(jd.2= .lost\/jd.2=y.2/\∀ob,tj z vs ob y.2->∀b,ob=aqP b->q≠aqP b))
  (he:∀y∈L.iB,∃jd∈L'.iB,jd.1=y.1/\(jd.2.1=aqQ->y.2.1=aqQ/\m'=m)/\∀j∈jd.2.2,j∈y.2.2/\∀v b,vs[j]? =aqP v->c7 v=aqP b->q≠aqP b) (aq:∀y∈L.hh,y∈L'.hh):hn z' m' vs' A L' where
 rd:=fun x U=>by
  obtain ⟨y,ag,h1,J⟩:=h.rd x U;obtain ⟨jd,vO,g1,g2⟩:=aw y ag;refine ⟨jd,vO,by rw[g1,h1], ?_⟩;rcases g2 with g2|⟨g2,g3⟩
  ·exact .inl g2
  ·rcases J with J|⟨ob,bt,bE,cM⟩
   ·exact .inl (by rw[g2,J])
   ·exact .inr ⟨ob,bt.step bE ab (g3 ob cM),fun b aa=>aro (bE b aa) ab.1,by rw[g2];exact cM.mono aE ad⟩
 iB:=fun x U=>by obtain ⟨y,ag,h1,aI,J⟩:=h.iB x U;obtain ⟨jd,vO,g1,g0,g2⟩:=he y ag;refine ⟨jd,vO,by rw[g1,h1],fun aP=>by rw[(g0 aP).2];exact aI (g0 aP).1,fun j ar=> ?_⟩;obtain ⟨g3,g4⟩:=g2 j ar;obtain ⟨v,bt,bE⟩:=J j g3;refine ⟨v,ad _ _ bt,fun b aa=> ?_⟩;obtain ⟨cM,fI⟩:=bE b aa;exact ⟨aro cM ab.1,by rw[ab.2 b cM (g4 v b bt aa)];exact fI⟩
 hh:=fun x U=>by obtain ⟨y,ag,h1,J,v,aj,aM⟩:=h.hh x U;exact ⟨y,aq y ag,h1,aro J ab.1,v,ad _ _ aj,aM⟩
theorem hn.quiet {A:Acc} {L:eX} (h:hn z m vs A L) (aE:ew z z') (ad:∀(i:Nat) (u:aqR),vs[i]? =aqP u->vs'[i]? =aqP u) (hm:m'=m):hn z' m' vs' A L:=
 h.step (q:=aqS) aE ad (by rw[hm];exact fq.refl m) L (fun y ag=>⟨y,ag,rfl, .inr ⟨rfl,fun _ _ _ _=>by simp⟩⟩) (fun y ag=>⟨y,ag,rfl,fun h=>⟨h,hm⟩,fun j ar=>⟨ar,fun _ _ _ _=>by simp⟩⟩) fun y ag=>ag
theorem X4 {j:Nat} (av:bo X.G O z e m k vs) (h:Hg O j=aqQ):∃v,vs[j]? =aqP v/\∀b,c7 v=aqP b->b<m.next/\(z b≠ .dead\/∃o,O[j]? =aqP o/\o.live=aqQ):=by
 unfold Hg at h;have fin:∀{o:aL D},O[j]? =aqP o->o≠ .dead->(∀t w,o≠ .box t [] aqQ w)->∃v,vs[j]? =aqP v/\∀b,c7 v=aqP b->b<m.next/\(z b≠ .dead\/∃o,O[j]? =aqP o/\o.live=aqQ):=by
  intro o ah aB lK;obtain ⟨v,ad,bW⟩:=av.at ah;refine ⟨v,ad,fun b aa=> ?_⟩;cases ai:o.live with
  |true=>exact ⟨(bW.lt ai b aa).1, .inr ⟨o,ah,ai⟩⟩
  |false=>
   have aE:z b≠ .dead:=by
    cases o with
    |dead=>exact absurd rfl aB
    |ay t xs bg w=>
     cases bg with
     |false=>cases ai
     |true=>
      rcases (bW:ev (X.G.T t) z xs v) with ⟨rfl,_⟩|⟨b2,o',bP,rfl,J,_⟩
      ·cases aa
      ·cases aa;exact J.ne
    |box t cs bg w=>
     cases bg with
     |false=>cases ai
     |true=>
      obtain ⟨b2,ds,rfl,J,aj⟩:=bW;cases aa;cases cs with
      |nil=>exact absurd rfl (lK t w)
      |cons c cs=>
       cases ds with
       |nil=>exact aj.elim
       |cons d ds=>have:=J 0 d rfl;intro aB;unfold kN at this;rw[aB] at this;cases this
    |recv t cs w=>cases ai
    |eY _ _ _ _ _=>cases ai
    |nest _ _ _ _ _ _=>cases ai
    |map t kt vt es bg w=>
     cases bg with
     |false=>cases ai
     |true=>
      rcases (bW:kD (X.G.M t kt vt) z es v) with ⟨rfl,_⟩|⟨r,rfl,J⟩
      ·cases aa
      ·cases aa;intro aB;rw[aB] at J;cases J
   refine ⟨?_, .inl aE⟩;exact (av.aO.bg b aE).2
 split at h
 ·cases h
 ·cases h
 ·rename_i o h1 J ah;exact fin ah (fun ax=>h1 ax) fun t w ax=>J t w ax
 ·cases h
theorem XM {l:List Nat} {j:Nat}:l.any (aq9 j)=aqQ↔j∈l:=by
 simp only[List.any_eq_true];constructor
 ·rintro ⟨x,U,h⟩;have:=aru h;subst this;exact U
 ·intro h;exact ⟨j,h,by simp⟩
theorem X9 {j:Nat} (h:sd O j=aqQ):∃o,O[j]? =aqP o/\o.live=aqQ:=by
 unfold sd at h;split at h
 ·exact ⟨_,‹_›,h⟩
 ·cases h
theorem Gs {ts:List Nat} {q:Option Nat} (av:bo X.G O z e m k vs) (ai:ts.all (sd O)=aqQ) (aK:mR vs ts q) {j:Nat} (h:uh O ts j=aqQ) {v:aqR} {b:Nat} (ad:vs[j]? =aqP v) (aa:c7 v=aqP b):q≠aqP b:=by
 simp only[uh,aq5,ar'] at h;rcases aK with rfl|⟨i,ae,w,hw,rfl⟩
 ·simp
 ·intro oV;have cW:i≠j:=by
   rintro rfl;rw[XM.2 ae] at h;cases h.2
  obtain ⟨o,ah,jO⟩:=X9 (aq8.1 ai i ae);have aB:=((av.obj i o w ah hw).lt jO b oV).2.1;obtain ⟨bl,mx,h1⟩:=X4 av h.1;rw[ad] at mx;cases mx;rcases (h1 b aa).2 with J|⟨p,an,mw⟩
  ·exact J aB
  ·exact av.eE i j o p w v cW ah an jO mw hw ad b oV aa
theorem afQ {ts:List Nat} {q:Option Nat} (av:bo X.G O z e m k vs) (ai:ts.all (sd O)=aqQ) (aK:mR vs ts q) {b:Nat} (aE:z b≠ .dead):q≠aqP b:=by
 rcases aK with rfl|⟨i,ae,w,hw,rfl⟩
 ·simp
 ·intro oV;obtain ⟨o,ah,jO⟩:=X9 (aq8.1 ai i ae);exact aE ((av.obj i o w ah hw).lt jO b oV).2.1
theorem WV {ts:List Nat} {q:Option Nat} (av:bo X.G O z e m k vs) (ai:ts.all (sd O)=aqQ) (aK:mR vs ts q) {s:kF} (h:DD O ts s=aqQ) {ob:Option Nat} (az:tj z vs ob s):∀b,ob=aqP b->q≠aqP b:=by
 intro b aa;cases s with
 |od=>exact az.elim
 |lost=>exact az.elim
 |bg=>exact afQ av ai aK (az b aa).ne
 |ob j=>obtain ⟨u,g1,g2⟩:=az b aa;exact Gs av ai aK h g1 g2
theorem VU:∀{l:List (aL D)} {i j:Nat},j∈uf O i l->∃n o,j=i+n/\l[n]? =aqP o/\o.live=aqQ
 |[],i,j,h=>by simp[uf] at h
 |o::l,i,j,h=>by
  simp only[uf] at h;have tail:j∈uf O (i+1) l->∃n p,j=i+n/\(o::l)[n]? =aqP p/\p.live=aqQ:=fun h=>by obtain ⟨n,p,h1,J,aj⟩:=VU h;exact ⟨n+1,p,by omega,J,aj⟩
  split at h
  ·rename_i ah;rcases aq6.1 h with rfl|h
   ·exact ⟨0,o,rfl,rfl,ah⟩
   ·exact tail h
  ·exact tail h
theorem hn.e3 {A:Acc} {L:eX} {q:Option Nat} {B:Array Nat} {i:Nat} {ts:List Nat} {qa:Bool} (h:hn z m vs A L) (av:bo X.G O z e m k vs) (aE:ew z z') (ad:∀(i:Nat) (u:aqR),vs[i]? =aqP u->vs'[i]? =aqP u) (ab:fq m m' q) (aK:mR vs ts q) (vI:qa=aqQ->m'=m)
  (hk:PA B i O L ts=aqQ):tS B i A m .e3 m'/\hn z' m' vs' (pD A i m .e3) (A5 i O ts qa L):=by
 simp only[PA,aq5,aq8,ar1] at hk;obtain ⟨ai,rJ,rK⟩:=hk;have ai:ts.all (sd O)=aqQ:=aq8.2 ai;refine ⟨⟨fun x U au=> ?_,fun x U au=> ?_⟩, ?_⟩
 ·obtain ⟨y,ag,h1,J⟩:=h.rd x U;have:=rJ y ag;rw[h1,au] at this;have az:DD O ts y.2=aqQ:=by simpa using this
  rcases J with J|⟨ob,bt,bE,cM⟩
  ·rw[J] at az;cases az
  ·exact bt m' fun b aa=>ab.2 b (bE b aa) (WV av ai aK az cM b aa)
 ·obtain ⟨y,ag,h1,J,v,aj,aM⟩:=h.hh x U;have:=rK y ag;rw[h1,au] at this;have az:uh O ts y.2=aqQ:=by simpa using this
  exact ab.2 _ J (Gs av ai aK az aj aM)
 ·have aO:=h.step (L':=A5 i O ts qa L) aE ad ab (fun y ag=> ?_) (fun y ag=> ?_) fun y ag=>ag
  ·refine ⟨aO.rd,fun x U=> ?_,aO.hh⟩;rcases aq6.1 U with rfl|U
   ·refine ⟨(i,aqQ&&qa,(uf O 0 O).filter (uh O ts)),by simp[A5],rfl,fun aP=>vI (by simpa using aP),fun j ar=> ?_⟩;obtain ⟨Bz,ys⟩:=aty.1 ar;obtain ⟨n,o,g1,g2,g3⟩:=VU Bz;rw[ara] at g1;subst g1;obtain ⟨v,g4,g5⟩:=av.at g2;refine ⟨v,ad _ _ g4,fun b aa=> ?_⟩;have aN:=(g5.lt g3 b aa).1;exact ⟨aro aN ab.1,ab.2 b aN (Gs av ai aK ys g4 aa)⟩
   ·exact aO.iB x U
  ·refine ⟨if DD O ts y.2=aqQ then y else (y.1, .lost),aq'.2 ⟨y,ag,rfl⟩,by split<;>rfl, ?_⟩;split
   ·rename_i az;exact .inr ⟨rfl,fun ob ah=>WV av ai aK az ah⟩
   ·exact .inl rfl
  ·refine ⟨(y.1,y.2.1&&qa,y.2.2.filter (uh O ts)),aq'.2 ⟨y,ard _ ag,rfl⟩,rfl,fun aP=>by simp only[aq5] at aP;exact ⟨aP.1,vI aP.2⟩,fun j ar=> ?_⟩;obtain ⟨Bz,ys⟩:=aty.1 ar;exact ⟨Bz,fun v b h1 J=>Gs av ai aK ys h1 J⟩
theorem hn.A6 {A:Acc} {L:eX} {B:Array Nat} {i:Nat} (h:hn z m vs A L) (ad:∀(i:Nat) (u:aqR),vs[i]? =aqP u->vs'[i]? =aqP u) (aq:m.next<=m'.next)
  (hk:Pa B i L=aqQ):tS B i A m .e3 m'/\hn z' m' vs' (pD A i m .e3) (PB i L):=by
 simp only[Pa,aq5,aq8] at hk;refine ⟨⟨fun x U au=> ?_,fun x U au=> ?_⟩,⟨fun x U=> ?_,fun x U=> ?_,fun x U=> ?_⟩⟩
 ·obtain ⟨y,ag,h1,_⟩:=h.rd x U;have:=hk.1 y ag;rw[h1,au] at this;cases this
 ·obtain ⟨y,ag,h1,_⟩:=h.hh x U;have:=hk.2 y ag;rw[h1,au] at this;cases this
 ·obtain ⟨y,ag,h1,_⟩:=h.rd x U;exact ⟨(y.1, .lost),aq'.2 ⟨y,ag,rfl⟩,h1, .inl rfl⟩
 ·rcases aq6.1 U with rfl|U
  ·exact ⟨(i,aqT,[]),arn,rfl,fun ax=>atL ax,fun j ar=>absurd ar (by simp)⟩
  ·obtain ⟨y,ag,h1,_⟩:=h.iB x U;exact ⟨(y.1,aqT,[]),ard _ (aq'.2 ⟨y,ag,rfl⟩),h1,fun ax=>atL ax,fun j ar=>absurd ar (by simp)⟩
 ·obtain ⟨y,ag,h1,J,v,aj,aM⟩:=h.hh x U;exact ⟨y,ag,h1,aro J aq,v,ad _ _ aj,aM⟩
theorem hn.ZK {A:Acc} {L:eX} (h:hn z m vs A L) (i:Nat) (s:kF) (n:Option Nat):hn z m vs A (ou i s n L) where
 rd:=fun x U=>by obtain ⟨y,ag,h1,J⟩:=h.rd x U;refine ⟨y, ?_,h1,J⟩;unfold ou;cases s<;>first|exact ag|exact ard _ ag
 iB:=fun x U=>by
  obtain ⟨y,ag,h1,J,aj⟩:=h.iB x U;cases n with
  |none=>exact ⟨y,ag,h1,J,aj⟩
  |some j=>exact ⟨(y.1,aqT,y.2.2),aq'.2 ⟨y,ag,rfl⟩,h1,(by simp),aj⟩
 hh:=fun x U=>by
  obtain ⟨y,ag,h1⟩:=h.hh x U;refine ⟨y, ?_,h1⟩;unfold ou;cases n with
  |none=>exact ag
  |some j=>exact ard _ ag
structure fc (eD:Nat) (z0 z:Nat->a6) (fr:Nat->aqR) (E:List (Nat×aQ D)) (m:Mem) (A:Acc) (L:eX):Prop where
 le:ew z0 z
 n:eD<=m.next
 lt:∀b,(z0 b).fF->b<eD
 jI:∀x∈A.gM,∀b,(z0 b).fF->m.aH b=x.2.aH b
 dg:∀d,(L.l6.any (aq9 d))=aqT->yL (eh E d)=aqQ->∀b,c7 (fr d)=aqP b->(z0 b).fF
variable {z0:Nat->a6}
theorem fc.at {eD:Nat} {A:Acc} {L:eX} (h:fc eD z0 z fr E m A L) {x:aqX} (U:r2 E L x=aqQ):∀b,c7 (aJ fr x)=aqP b->(z0 b).fF:=by
 unfold r2 at U;split at U
 ·rename_i d;simp only[aq5,ar'] at U;exact h.dg d U.1 U.2
 ·cases U
theorem fc.read {eD:Nat} {A:Acc} {L:eX} {B:Array Nat} {i:Nat} {v:aqR} (h:fc eD z0 z fr E m A L) (ai:U7 E L o.op=aqQ) (aw:eS P (aJ fr) o m v):∀x∈A.gM,fe B i x.1=aqT->eS P (aJ fr) o x.2 v:=by
 intro x U au;have aa:=h.jI x U;cases aw with
 |load t q b off d v cp aK ao aB ad=>rw[cp] at ai;have:=h.at ai b (by rw[aK];rfl);exact .load t q b off d v cp aK ao aB (Xz ad (aa b this).symm)
 |vV t q b off d i cs cp aK ao aB ae ad=>rw[cp] at ai;have:=h.at ai b (by rw[aK];rfl);exact .vV t q b off d i cs cp aK ao aB ae (by rw[GW (aa b this).symm];exact ad)
 |slice t q bG ae bw i L' b off l n cp aI ao dY aK hm eZ eg g1 g2 g3=>rw[aI] at ai;have:=h.at ai b (by rw[aK];rfl);exact .slice t q bG ae bw i L' b off l n cp aI ao dY aK (by rw[<-aa b this];exact hm) eZ eg g1 g2 g3
 |str cc t q bw b off l c cs aI j3 he ao aK ad=>rw[aI] at ai;cases ai
 |zW cc t q bw l c aI j3 he ao aK=>rw[aI] at ai;cases ai
 |lookup gz q cx ok u kt vt b L' F i z' v0 t fg aI hf hu aK k7 j5 kC aP hk aG ae aE cg fh=>rw[aI] at ai;cases ai
theorem fc.h8 {eD:Nat} {A:Acc} {L:eX} (h:fc eD z0 z fr E m A L) (aE:ew z z'):fc eD z0 z' fr E m A L:=⟨h.le.trans aE,h.n,h.lt,h.jI,h.dg⟩
theorem agk {L:eX} {v:aqR} {eD:Nat} {A:Acc} (h:fc eD z0 z fr E m A L) (aB:qt E L o.op=aqQ) (an:cO P (aJ fr) o v):∀b,c7 v=aqP b->(z0 b).fF:=by
 have jI:∀{w:aqR},flat w=aqQ->∀b,c7 w=aqP b->(z0 b).fF:=by
  intro w hw b aa;cases w with
  |pointer a=>cases a with
   |none=>cases aa
   |some a=>cases hw
  |slice a l c=>cases a with
   |none=>cases aa
   |some a=>cases hw
  |map r=>cases r with
   |none=>cases aa
   |some r=>cases hw
  |_=>cases aa
 cases an with
 |flat v az U ad aw=>exact jI ad
 |move x ah=>
  rcases ah with ah|ah
  ·rw[ah] at aB;exact h.at aB
  ·rw[ah] at aB;exact h.at aB
 |nilCheck x a ah U=>rw[ah] at aB;intro b aa;exact h.at aB b (by rw[U];exact aa)
 |fieldAddr t x i bc f k b off ah ao aP hk az U=>rw[ah] at aB;intro c ab;exact h.at aB c (by rw[U];exact ab)
 |indexAddr t x y e i b off l c k n ah ao ae U ag aI h1=>rw[ah] at aB;intro c ab;exact h.at aB c (by rw[U];exact ab)
 |FH t x y e i b off l k n ah ao ae U ag aI h1=>rw[ah] at aB;intro c ab;exact h.at aB c (by rw[U];exact ab)
 |pick c a b t ah ab=>rw[ah] at aB;cases aB
 |extract x i us v ah U ad=>rw[ah] at aB;cases aB
 |field t x i bc f d cs v ah _ _ _ _ _=>rw[ah] at aB;cases aB
 |build t bK bc i z cs ah _ _ _ _ _ _=>rw[ah] at aB;cases aB
 |Ez t bK n e i k z cs ah _ _ _ _ _ _=>rw[ah] at aB;cases aB
 |slice t x bG ae e i b off l c n cp ah _ _ _ _ _ _ _ _ _=>rw[ah] at aB;cases aB
 |lz t x bG ae e i ah _ _ _ _ _=>rw[ah] at aB;cases aB
 |slice3 t x h0 ae e i b off l c cp dc rW ah _ _ _ _ _ _ _=>rw[ah] at aB;cases aB
 |Iv t x h0 ae e i rW ah _ _ _ _ _=>rw[ah] at aB;cases aB
 |len x t e a l c ah _ _=>rw[ah] at aB;cases aB
 |EC x t e ah _ _=>rw[ah] at aB;cases aB
 |A7 neq x y t u e a l c ah _ _ _=>rw[ah] at aB;cases neq<;>cases aB
 |func fn first captured ah _=>rw[ah] at aB;cases aB
theorem fc.put {eD:Nat} {A:Acc} {L:eX} {v:aqR} {cY:aQ D} (h:fc eD z0 z fr E m A L) (ad:qt E L o.op=aqQ->∀b,c7 v=aqP b->(z0 b).fF):fc eD z0 z (set fr o.dst v) (ln E o.dst cY) m A (qj E o L):=by
 cases aB:o.dst with
 |none=>
  have e:qj E o L=L:=by unfold qj;rw[aB]
  rw[e];exact ⟨h.le,h.n,h.lt,h.jI,h.dg⟩
 |some d=>
  refine ⟨h.le,h.n,h.lt,h.jI,fun c ab aP b aa=> ?_⟩;by_cases tz:c=d
  ·subst tz;simp only[set,if_true] at aa;by_cases yo:qt E L o.op=aqQ
   ·exact ad yo b aa
   ·have e:(qj E o L).l6=c::L.l6:=by unfold qj;rw[aB];dsimp only;rw[if_neg yo]
    rw[e] at ab;simp at ab
  ·simp only[set,if_neg tz] at aa;have ai:eh (ln E (aqP d) cY) c=eh E c:=by
    simp only[ln,eh];rw[if_neg];intro ax;exact tz (aru ax).symm
   rw[ai] at aP;refine h.dg c ?_ aP b aa;unfold qj at ab;rw[aB] at ab;dsimp only at ab;split at ab
   ·rw[List.any_eq_false] at ab⊢;intro y ag MH;have MH:=aru MH;subst MH;refine ab c (aty.2 ⟨ag, ?_⟩) (by simp);simp only[ar'];cases aK:aq9 d c with
    |false=>rfl
    |true=>exact absurd (aru aK).symm tz
   ·simp only[List.any_cons,atM] at ab;exact ab.2
theorem fc.log {eD:Nat} {A hl:Acc} {L L':eX} (h:fc eD z0 z fr E m A L) (ey:hl.gM=A.gM) (ag:L'.l6=L.l6):fc eD z0 z fr E m hl L':=⟨h.le,h.n,h.lt,by rw[ey];exact h.jI,by rw[ag];exact h.dg⟩
theorem fc.grow {eD:Nat} {A:Acc} {L:eX} (h:fc eD z0 z fr E m A L) (ab:fq m m' aqS):fc eD z0 z fr E m' A L:=⟨h.le,arj h.n ab.1,h.lt,fun x U b aa=>by
 rw[ab.2 b (aro (h.lt b aa) h.n) (by simp)];exact h.jI x U b aa,h.dg⟩
theorem fc.e3 {eD i:Nat} {A:Acc} {L:eX} {q:Option Nat} {ts:List Nat} {qa:Bool} (h:fc eD z0 z fr E m A L) (ab:fq m m' q) (aK:∀b,(z0 b).fF->q≠aqP b):fc eD z0 z fr E m' (pD A i m .e3) (A5 i O ts qa L):=by
 have key:∀b,(z0 b).fF->m'.aH b=m.aH b:=fun b aa=>ab.2 b (aro (h.lt b aa) h.n) (fun ax=>aK b aa ax);refine ⟨h.le,arj h.n ab.1,h.lt,fun x U b aa=> ?_,h.dg⟩;rcases aq6.1 U with rfl|U
 ·exact key b aa
 ·rw[key b aa];exact h.jI x U b aa
theorem fc.A6 {eD i:Nat} {A:Acc} {L:eX} {dc:Option Nat} (h:fc eD z0 z fr E m A L) (aq:m.next<=m'.next) (aE:ew z z') (s1:cK z e m k) (s2:cK z' e m' dc):fc eD z0 z' fr E m' (pD A i m .e3) (PB i L):=by
 have key:∀b,(z0 b).fF->m'.aH b=m.aH b:=fun b aa=>by have h1:=h.le b aa;have J:=aE b (by rw[h1];exact aa);rw[(s1.bg b (by rw[h1];exact aa.ne)).1,(s2.bg b (by rw[J,h1];exact aa.ne)).1,J]
 refine ⟨h.le.trans aE,arj h.n aq,h.lt,fun x U b aa=> ?_,h.dg⟩;rcases aq6.1 U with rfl|U
 ·exact key b aa
 ·rw[key b aa];exact h.jI x U b aa
theorem agA {ts:List Nat} {q:Option Nat} (av:bo X.G O z e m k vs) (ai:ts.all (sd O)=aqQ) (aK:mR vs ts q) (aE:ew z0 z):∀b,(z0 b).fF->q≠aqP b:=by
 intro b aa oV;rcases aK with aK|⟨i,ae,v,ad,he⟩
 ·rw[aK] at oV;cases oV
 ·have:=aq8.1 ai i ae;unfold sd at this;split at this
  ·rename_i p an;have:=((av.obj i p v an ad).lt this b (by rw[<-he];exact oV)).2.1;rw[aE b aa] at this;rw[this] at aa;exact aa.elim
  ·cases this
theorem fc.start {E:List (Nat×aQ D)} (av:bo X.G O z e m k vs) (aT:∀d,rel X.G z vs (eh E d) (fr d)):fc m.next z z fr E m ⟨[],[],[]⟩ ⟨[],[],[],[],[]⟩:=by
 refine ⟨ew.refl z,aq3 _,fun b aa=>(av.aO.bg b aa.ne).2,by simp,fun d _ aP b aa=> ?_⟩;have aw:=aT d;unfold yL at aP;split at aP
 ·rename_i aX xs az;rw[az] at aw;rcases (aw:ev (X.G.T aX) z xs (fr d)) with ⟨h1,_⟩|⟨b2,o',bP,h1,J,_⟩
  ·rw[h1] at aa;cases aa
  ·rw[h1] at aa;cases aa;exact J
 ·rename_i t c cs off az;rw[az] at aw;obtain ⟨b,o',ds,h1,J,aj⟩:=aw;rw[h1] at aa;cases aa;cases ds with
  |nil=>exact aj.elim
  |cons d ds=>have aM:=J 0 d rfl;exact CG aM
 ·cases aP
theorem wx {A:Acc} {L:eX} {E:List (Nat×aQ D)} (h:hn z m vs A L):hn z m vs A (qj E o L):=by
 unfold qj;split
 ·exact h
 ·split<;>exact ⟨h.rd,h.iB,h.hh⟩
theorem hn.read {A:Acc} {L:eX} {B:Array Nat} {i:Nat} {s:kF} {v:aqR} {n:Option Nat} (h:hn z m vs A L) (av:bo X.G O z e m k vs) (aT:∀x,rel X.G z vs (cm E x) (aJ fr x)) (aE:ew z z') (ad:∀(i:Nat) (u:aqR),vs[i]? =aqP u->vs'[i]? =aqP u)
  {eD:Nat} (az:sn E o.op=aqP s) (hk:(zC B i O L s||Hj B i E L s o.op)=aqQ) (aw:eS P (aJ fr) o m v) (aG:fc (D:=D) eD z0 z fr E m A L):
  tS B i A m (.read fun m=>eS P (aJ fr) o m v) m/\hn z' m vs' (pD A i m (.read fun m=>eS P (aJ fr) o m v)) (ou i s n L):=by
 obtain ⟨ob,h1,J⟩:=ajt av aT az aw;rw[ar1] at hk;have lt:∀b,ob=aqP b->b<m.next:=by
  intro b aa;cases s with
  |od=>exact J.elim
  |lost=>exact J.elim
  |bg=>have aE:=J b aa;exact (av.aO.bg b aE.ne).2
  |ob j=>have hk:zC B i O L (.ob j)=aqQ:=hk.resolve_right (by simp[Hj,TN]);simp only[zC,aq5] at hk;obtain ⟨u,g1,g2⟩:=J b aa;obtain ⟨bl,g3,g4⟩:=X4 av hk.1;rw[g1] at g3;cases g3;exact (g4 b g2).1
 refine ⟨fun x U au=> ?_, ?_⟩
 ·rcases hk with hk|hk
  case inr=>
   simp only[Hj,aq5] at hk;exact aG.read (B:=B) hk.2 aw x U au
  obtain ⟨y,ag,bt,iP,bE⟩:=h.iB x U;refine h1 x.2 fun b aa=> ?_;cases s with
  |od=>exact J.elim
  |lost=>exact J.elim
  |bg=>simp only[zC,aq8] at hk;have:=hk y ag;rw[bt,au,Bool.false_or] at this;rw[iP this]
  |ob j=>
   simp only[zC,aq5,aq8,ar1] at hk;have:=hk.2 y ag;rw[bt,au] at this;have ar:y.2.1=aqQ\/j∈y.2.2:=by
    rcases this with h|h|h
    ·cases h
    ·exact .inl h
    ·exact .inr (XM.1 h)
   rcases ar with ar|ar
   ·rw[iP ar]
   obtain ⟨bl,g1,g2⟩:=bE j ar;obtain ⟨u,g3,g4⟩:=J b aa;rw[g3] at g1;cases g1;exact (g2 b g4).2.symm
 ·have aO:=((h.quiet (ew.refl z) (fun _ _ h=>h) rfl).ZK i s n).quiet (m':=m) aE ad rfl;refine ⟨fun x U=> ?_,aO.iB,aO.hh⟩;rcases aq6.1 U with rfl|U
  ·refine ⟨(i,s), ?_,rfl, .inr ⟨ob,h1,lt,J.mono aE ad⟩⟩;unfold ou;cases s<;>first|exact J.elim|exact arn
  ·exact aO.rd x U
theorem aih {Y:a6} {v:aqR} {cY:aQ D} {n:Option Nat} {N:Nat} (h:hW P (aJ fr) o N Y v) (aw:rel X.G z vs cY v) (aq:P1 cY=aqP n):∃j,n=aqP j/\∃u,vs[j]? =aqP u/\c7 u=aqP N:=by
 have ad:c7 v=aqP N:=by cases h<;>rfl
 unfold P1 at aq;split at aq
 ·cases aq;exact ⟨_,rfl,v,aw.1,ad⟩
 ·cases aq;obtain ⟨b,g1,rfl⟩:=aw;exact ⟨_,rfl,_,g1,ad⟩
 ·cases aq;obtain ⟨b,l,g1,rfl⟩:=aw;exact ⟨_,rfl,_,g1,ad⟩
 ·have aw:v= .int _ _:=aw;rw[aw] at ad;cases ad
 ·have aw:v=aS.str _:=aw;rw[aw] at ad;cases ad
 ·cases aq
theorem hn.new {A:Acc} {L:eX} {i:Nat} {s:kF} {j:Nat} {Y:a6} (h:hn z m vs A L) (aE:ew z z') (ad:∀(i:Nat) (u:aqR),vs[i]? =aqP u->vs'[i]? =aqP u) (ar:∃u,vs'[j]? =aqP u/\c7 u=aqP m.next):
  hn z' (m.push Y) vs' (pD A i m .new) (ou i s (aqP j) L):=by
 have aO:=h.step (m':=m.push Y) (q:=aqS) aE ad (fq.push m Y) (ou i s (aqP j) L) (fun y ag=>⟨y,by unfold ou;cases s<;>first|exact ag|exact ard _ ag,rfl, .inr ⟨rfl,fun _ _ _ _=>by simp⟩⟩)
  (fun y ag=>⟨(y.1,aqT,y.2.2),aq'.2 ⟨y,ag,rfl⟩,rfl,by simp,fun j ar=>⟨ar,fun _ _ _ _=>by simp⟩⟩) fun y ag=>ard _ ag
 refine ⟨aO.rd,aO.iB,fun x U=> ?_⟩;rcases aq6.1 U with rfl|U
 ·obtain ⟨u,g1,g2⟩:=ar;exact ⟨(i,j),by simp[ou],rfl,arP _,u,g1,g2⟩
 ·exact aO.hh x U
end
end Go.aS
end
section
namespace Go.aS
section
variable {P:aqV} {D:Nat->Type} {X:dx P D} {af:Type} {z z':Nat->a6} {e m m':Mem} {k:Option Nat} {vs:List aqR} {fr:Nat->aqR} {E:List (Nat×aQ D)} {O:List (aL D)} {o:Oper} {r:af}
def eC (X:dx P D) (z:Nat->a6) (vs:List aqR) (E:List (Nat×aQ D)) (fr:Nat->aqR):Prop:=∀d,rel X.G z vs (eh E d) (fr d)
theorem eC.mono (h:eC X z vs E fr) {vs':List aqR} (aE:ew z z') (ad:∀(i:Nat) (u:aqR),vs[i]? =aqP u->vs'[i]? =aqP u):eC X z' vs' E fr:=fun d=>rel.mono (h d) aE ad
theorem eC.cons (h:eC X z vs E fr) {d:Nat} {s:aQ D} (az:rel X.G z vs s (fr d)):eC X z vs ((d,s)::E) fr:=fun i=>by
 simp only[eh];split
 ·rename_i ae;have:d=i:=aru ae;subst this;exact az
 ·exact h i
theorem eC.put (h:eC X z vs E fr) {d:Option Nat} {s:aQ D} {v:aqR} (az:rel X.G z vs s v):eC X z vs (ln E d s) (set fr d v):=by
 cases d with
 |none=>exact h
 |some d=>
  intro i;simp only[ln,eh,set];split
  ·rename_i ae;have:d=i:=aru ae;subst this;rw[if_pos rfl];exact az
  ·rename_i ae;rw[if_neg]
   ·exact h i
   ·intro ax;subst ax;simp at ae
def hy (X:dx P D) (O:List (aL D)) (z:Nat->a6) (e:Mem) (k:Option Nat) (vs:List aqR) (K:List (Nat×aQ D)->List (aL D)->Option af) (r:af) (fr':Nat->aqR) (m':Mem):Prop:=
 ∃z' vs' E' bB,Inv O bB/\cR e.next z z'/\(∀(i:Nat) (u:aqR),vs[i]? =aqP u->vs'[i]? =aqP u)/\bo X.G bB z' e m' k vs'/\eC X z' vs' E' fr'/\K E' bB=aqP r
theorem hy.from {K:List (Nat×aQ D)->List (aL D)->Option af} {fr':Nat->aqR} {cq:Nat->a6} {iS:List aqR} {bL:List (aL D)} (ae:Inv O bL) (aE:cR e.next z cq) (ad:∀(i:Nat) (u:aqR),vs[i]? =aqP u->iS[i]? =aqP u) (h:hy X bL cq e k iS K r fr' m'):hy X O z e k vs K r fr' m':=by
 obtain ⟨z',vs',cY,bB,aI,h1,J,aj,aM,br⟩:=h;exact ⟨z',vs',cY,bB,ae.trans aI,aE.trans h1,fun i u hu=>J i u (ad i u hu),aj,aM,br⟩
theorem hy.here {K:List (Nat×aQ D)->List (aL D)->Option af} (av:bo X.G O z e m k vs) (aT:eC X z vs E fr) (fy:K E O=aqP r):hy X O z e k vs K r fr m:=⟨z,vs,E,O,Inv.refl O,cR.refl z,fun _ _ h=>h,av,aT,fy⟩
theorem WU {d:Nat} {K:List (Nat×aQ D)->Option af} (aT:eC X z vs E fr) (h:uu E d K=aqP r):∃E',eC X z vs E' fr/\K E'=aqP r:=by
 unfold uu at h;have aB:=aT d;split at h
 ·rename_i b az;rw[az] at aB;cases b with
  |true=>rw[if_pos rfl] at h;exact ⟨_,aT.cons (s:= .c (.bool aqQ)) aB,h⟩
  |false=>rw[if_neg (by simp)] at h;exact ⟨_,aT.cons (s:= .c (.bool aqT)) aB,h⟩
 ·exact ⟨_,aT,h⟩
 ·cases h
theorem ajd (bO:fQ X) {K:List (Nat×aQ D)->List (aL D)->Option af} (av:bo X.G O z e m k vs) (aT:eC X z vs E fr) (h:Ce X o E O K=aqP r):bV P (aJ fr) o m fun _ v m'=>hy X O z e k vs K r (set fr o.dst v) m':=by
 have go:∀{E:List (Nat×aQ D)},eC X z vs E fr->ga X o.op E O (fun v O=>K (ln E o.dst v) O)=aqP r->bV P (aJ fr) o m fun _ v m'=>hy X O z e k vs K r (set fr o.dst v) m':=by intro E aT h;refine bV.mono (Hk bO rfl av (Oz aT) h) ?_;rintro t v m' ⟨z',vs',cY,bB,aI,h1,J,aj,aM,br⟩;exact ⟨z',vs',_,bB,aI,h1,J,aj,(aT.mono h1.le J).put aM,br⟩
 unfold Ce at h;split at h
 ·obtain ⟨E',k2,h⟩:=WU aT h;exact go k2 h
 ·exact go aT h
theorem zl (bO:fQ X) {ops:List Oper} {K:List (Nat×aQ D)->List (aL D)->Option af}:∀{l:List Oper} {E:List (Nat×aQ D)} {O:List (aL D)} {z:Nat->a6} {vs:List aqR} {m:Mem} {fr:Nat->aqR},bo X.G O z e m k vs->eC X z vs E fr->pk X ops l E O K=aqP r->fs P ops l (hy X O z e k vs K r) fr m
 |[],E,O,z,vs,m,fr,av,aT,h=>fs.nil (hy.here av aT h)
 |o::l,E,O,z,vs,m,fr,av,aT,h=>by
  unfold pk at h;have step:∀{E:List (Nat×aQ D)},eC X z vs E fr->(Ce X o E O fun E O=>pk X ops l E O K)=aqP r->bV P (aJ fr) o m fun _ v m1=>fs P ops l (hy X O z e k vs K r) (set fr o.dst v) m1:=by intro E aT h;refine bV.mono (ajd bO av aT h) ?_;rintro t v m1 ⟨z',vs',E',bB,aI,h1,J,aj,aM,br⟩;exact fs.mono (zl bO aj aM br) fun _ _ aq=>aq.from aI h1 J
  split at h
  ·rename_i aG;exact fs.JQ (by simp only[wanted,aG]) (step aT h)
  ·rename_i j want aG;split at h
   ·cases h
   ·rename_i d aB;obtain ⟨jA,rG,h⟩:=WU aT h;have ad:=rG d;split at h
    ·rename_i b az;rw[az] at ad;split at h
     ·rename_i aa;exact fs.JP aG aB ad aa (step rG h)
     ·rename_i aa;exact fs.Iu aG aB ad (by cases b<;>cases want<;>simp at aa⊢) (zl bO av (rG.put (s:= .undef) rfl) h)
    ·rename_i az;rw[az] at ad;exact fs.Qp aG aB ad (zl bO av (rG.put (s:= .undef) rfl) h)
    ·cases h
variable {z0:Nat->a6}
theorem Wb {d:Nat} {K:List (Nat×aQ D)->Option af} (aT:eC X z vs E fr) (h:uu E d K=aqP r):∃E',eC X z vs E' fr/\(∀c,eh E' c=eh E c\/yL (eh E' c)=aqT)/\K E'=aqP r:=by
 have aB:=aT d;have Cc:∀{b:Bool} (c:Nat),eh ((d, .c (.bool b))::E) c=eh E c\/yL (eh ((d, .c (.bool b))::E) c)=aqT:=by
  intro b c;simp only[eh];split
  ·exact .inr rfl
  ·exact .inl rfl
 unfold uu at h;split at h
 ·rename_i b aa;rw[aa] at aB;have aB:fr d= .bool b:=aB;split at h
  ·rename_i ao;exact ⟨_,aT.cons (by rw[aB,ao];exact rfl),Cc,h⟩
  ·rename_i ao;exact ⟨_,aT.cons (by rw[aB];cases b with|true=>exact absurd rfl ao|false=>exact rfl),Cc,h⟩
 ·exact ⟨E,aT,fun _=> .inl rfl,h⟩
 ·cases h
theorem fc.split {eD:Nat} {A:Acc} {L:eX} {E':List (Nat×aQ D)} (h:fc eD z0 z fr E m A L) (aK:∀c,eh E' c=eh E c\/yL (eh E' c)=aqT):fc eD z0 z fr E' m A L:=⟨h.le,h.n,h.lt,h.jI,fun d aB aP=>by
 rcases aK d with aK|aK
 ·rw[aK] at aP;exact h.dg d aB aP
 ·rw[aK] at aP;cases aP⟩
theorem fc.skip {eD:Nat} {A:Acc} {L:eX} {dst:Option Nat} (h:fc eD z0 z fr E m A L):fc eD z0 z (set fr dst undef) (ln E dst .undef) m A L:=by
 cases dst with
 |none=>exact h
 |some d=>
  refine ⟨h.le,h.n,h.lt,h.jI,fun c ab aP b aa=> ?_⟩;simp only[ln,eh] at aP;split at aP
  ·cases aP
  ·rename_i tz;have:c≠d:=by rintro rfl;simp at tz
   simp only[set,if_neg this] at aa;exact h.dg c ab aP b aa
theorem X0 (bO:fQ X) {B:Array Nat} {ops l:List Oper} {i:Nat} {A:Acc} {L:eX} {eD:Nat} {Q:(Nat->aqR)->Mem->Prop} {K:eX->List (Nat×aQ D)->List (aL D)->Option af} (av:bo X.G O z e m k vs) (aT:eC X z vs E fr) (cB:hn z m vs A L) (aG:fc eD z0 z fr E m A L) (h:FX X B i o L E O K=aqP r)
  (hk:∀{z':Nat->a6} {vs':List aqR} {m':Mem} {hl:Acc} {L':eX} {E':List (Nat×aQ D)} {bB:List (aL D)} {v:aqR},Inv O bB->cR e.next z z'->(∀(i:Nat) (u:aqR),vs[i]? =aqP u->vs'[i]? =aqP u)->bo X.G bB z' e m' k vs'->eC X z' vs' E' (set fr o.dst v)->hn z' m' vs' hl L'->fc eD z0 z' (set fr o.dst v) E' m' hl L'->K L' E' bB=aqP r->gq P ops B (i+1) l hl Q (set fr o.dst v) m'):
  bV P (aJ fr) o m fun t v m1=>tS B i A m t m1/\gq P ops B (i+1) l (pD A i m t) Q (set fr o.dst v) m1:=by
 have bp:=Oz aT;unfold FX at h;split at h
 ·rename_i mZ;split at h
  ·rename_i ts ao;obtain ⟨j0,h⟩:=eV h;have rA:∀{v:aqR},eS P (aJ fr) o m v->False:=fun aw=>by
    have:=Gc aw;revert this mZ;cases o.op<;>simp[iI,oq]
   have JM:∀{Y:a6} {v:aqR},hW P (aJ fr) o m.next Y v->False:=fun aw=>by have:=Cu aw;revert this mZ;cases o.op<;>simp[iI,ny]
   have fC:qt E L o.op=aqQ->False:=fun aB=>by revert aB mZ;cases o.op<;>simp[iI,qt]
   refine (aje bO av bp mZ ao h).FQ (fun v _ ax=> ?_) (fun v aw _=>(rA aw).elim) (fun Y v aw _=>(JM aw).elim) fun n v m' he ax=> ?_
   ·obtain ⟨_,⟨z',vs',cY,bB,aI,h1,J,aj,aM,br⟩,vI,q,ab,aK⟩:=ax;obtain ⟨g1,g2⟩:=cB.e3 (B:=B) (qa:=p4 X E O o.op) av h1.le J (fq.any (fq.refl m) aqS) (.inl rfl) (fun _=>rfl) j0;have e2:=(aG.e3 (O:=O) (ts:=ts) (q:=aqS) (i:=i) (qa:=p4 X E O o.op) (fq.refl m) (fun b _=>by simp)).h8 h1.le;exact ⟨trivial,hk aI h1 J aj ((aT.mono h1.le J).put aM) (wx ⟨g2.rd,fun x U=>g2.iB x (ard _ U),g2.hh⟩) (fc.put ⟨e2.le,e2.n,e2.lt,fun x U=>e2.jI x (ard _ U),e2.dg⟩ fun aB=>(fC aB).elim) br⟩
   ·obtain ⟨⟨z',vs',cY,bB,aI,h1,J,aj,aM,br⟩,vI,q,ab,aK⟩:=ax;obtain ⟨g1,g2⟩:=cB.e3 (B:=B) av h1.le J ab aK vI j0;exact ⟨g1,hk aI h1 J aj ((aT.mono h1.le J).put aM) (wx g2) (fc.put ((aG.e3 ab (agA av (asX.1 j0).1 aK aG.le)).h8 h1.le) fun aB=>(fC aB).elim) br⟩
  ·obtain ⟨j0,h⟩:=eV h;have rA:∀{v:aqR},eS P (aJ fr) o m v->False:=fun aw=>by
    have:=Gc aw;revert this mZ;cases o.op<;>simp[iI,oq]
   have JM:∀{Y:a6} {v:aqR},hW P (aJ fr) o m.next Y v->False:=fun aw=>by have:=Cu aw;revert this mZ;cases o.op<;>simp[iI,ny]
   have fC:qt E L o.op=aqQ->False:=fun aB=>by revert aB mZ;cases o.op<;>simp[iI,qt]
   refine (Hk bO rfl av bp h).FQ (fun v _ ax=> ?_) (fun v aw _=>(rA aw).elim) (fun Y v aw _=>(JM aw).elim) fun n v m' he ax=> ?_
   ·obtain ⟨_,z',vs',cY,bB,aI,h1,J,aj,aM,br⟩:=ax;obtain ⟨g1,g2⟩:=cB.A6 (z':=z') (m':=m) J (aq3 _) j0;have e2:=aG.A6 (i:=i) (aq3 _) h1.le av.aO aj.aO;exact ⟨trivial,hk aI h1 J aj ((aT.mono h1.le J).put aM) (wx ⟨g2.rd,fun x U=>g2.iB x (ard _ U),g2.hh⟩) (fc.put ⟨e2.le,e2.n,e2.lt,fun x U=>e2.jI x (ard _ U),e2.dg⟩ fun aB=>(fC aB).elim) br⟩
   ·obtain ⟨z',vs',cY,bB,aI,h1,J,aj,aM,br⟩:=ax;have aq:=Om (Nt n) he;obtain ⟨g1,g2⟩:=cB.A6 (z':=z') J aq j0;exact ⟨g1,hk aI h1 J aj ((aT.mono h1.le J).put aM) (wx g2) (fc.put (aG.A6 aq h1.le av.aO aj.aO) fun aB=>(fC aB).elim) br⟩
 ·rename_i mZ;split at h
  ·rename_i s az;obtain ⟨j0,h⟩:=eV h;refine (Hk bO rfl av bp h).FQ (fun v an ax=> ?_) (fun v aw ax=> ?_) (fun Y v aw ax=> ?_) fun n v m' he _=>absurd (NN he) mZ
   ·obtain ⟨_,z',vs',cY,bB,aI,h1,J,aj,aM,br⟩:=ax;dsimp only at br;split at br
    ·rename_i n aq;exact ⟨trivial,hk aI h1 J aj ((aT.mono h1.le J).put aM) (wx ((cB.quiet h1.le J rfl).ZK i s n)) (fc.put (L:=ou i s n L) ((aG.h8 h1.le).log rfl rfl) fun aB=>agk aG aB an) br⟩
    ·cases br
   ·obtain ⟨z',vs',cY,bB,aI,h1,J,aj,aM,br⟩:=ax;dsimp only at br;split at br
    ·rename_i n aq;obtain ⟨g1,g2⟩:=cB.read (n:=n) (B:=B) (i:=i) av bp h1.le J az j0 aw aG;exact ⟨g1,hk aI h1 J aj ((aT.mono h1.le J).put aM) (wx g2) (fc.put (L:=ou i s n L) ((aG.h8 h1.le).log rfl rfl) fun aB=>(by
      have:=Gc aw;revert this aB;cases o.op<;>simp[qt,oq])) br⟩
    ·cases br
   ·obtain ⟨z',vs',cY,bB,aI,h1,J,aj,aM,br⟩:=ax;dsimp only at br;split at br
    ·rename_i n aq;rw[Vi,if_pos (Cu aw)] at aq;obtain ⟨j,rfl,ar⟩:=aih aw aM aq;exact ⟨trivial,hk aI h1 J aj ((aT.mono h1.le J).put aM) (wx (cB.new (i:=i) (s:=s) (Y:=Y) h1.le J ar)) (fc.put (L:=ou i s (aqP j) L) (((aG.grow (fq.push m Y)).h8 h1.le).log rfl rfl) fun aB=>(by
      have:=Cu aw;revert this aB;cases o.op<;>simp[qt,ny])) br⟩
    ·cases br
  ·cases h
theorem ajc (bO:fQ X) {B:Array Nat} {ops l:List Oper} {i:Nat} {A:Acc} {L:eX} {eD:Nat} {Q:(Nat->aqR)->Mem->Prop} {K:eX->List (Nat×aQ D)->List (aL D)->Option af} (av:bo X.G O z e m k vs) (aT:eC X z vs E fr) (cB:hn z m vs A L) (aG:fc eD z0 z fr E m A L) (h:Cd X B i o L E O K=aqP r)
  (hk:∀{z':Nat->a6} {vs':List aqR} {m':Mem} {hl:Acc} {L':eX} {E':List (Nat×aQ D)} {bB:List (aL D)} {v:aqR},Inv O bB->cR e.next z z'->(∀(i:Nat) (u:aqR),vs[i]? =aqP u->vs'[i]? =aqP u)->bo X.G bB z' e m' k vs'->eC X z' vs' E' (set fr o.dst v)->hn z' m' vs' hl L'->fc eD z0 z' (set fr o.dst v) E' m' hl L'->K L' E' bB=aqP r->gq P ops B (i+1) l hl Q (set fr o.dst v) m'):
  bV P (aJ fr) o m fun t v m1=>tS B i A m t m1/\gq P ops B (i+1) l (pD A i m t) Q (set fr o.dst v) m1:=by
 unfold Cd at h;split at h
 ·rename_i mm UH;obtain ⟨E',k2,aK,h⟩:=Wb aT h;have Bs:=aG.split aK;exact X0 bO av k2 cB Bs h hk
 ·exact X0 bO av aT cB aG h hk
theorem gq.mono {ops l:List Oper} {B:Array Nat} {i:Nat} {A:Acc} {K kC:(Nat->aqR)->Mem->Prop} (h:gq P ops B i l A K fr m) (hk:∀fr m,K fr m->kC fr m):gq P ops B i l A kC fr m:=
 let ⟨n,fr',m',h1,J⟩:=h;⟨n,fr',m',h1,hk _ _ J⟩
theorem GY (bO:fQ X) {B:Array Nat} {ops:List Oper} {eD:Nat} {K:List (Nat×aQ D)->List (aL D)->Option af}:∀{l:List Oper} {i:Nat} {A:Acc} {L:eX} {E:List (Nat×aQ D)} {O:List (aL D)} {z:Nat->a6} {vs:List aqR} {m:Mem} {fr:Nat->aqR},bo X.G O z e m k vs->eC X z vs E fr->hn z m vs A L->fc eD z0 z fr E m A L->uP X B ops i l L E O K=aqP r->gq P ops B i l A (hy X O z e k vs K r) fr m
 |[],i,A,L,E,O,z,vs,m,fr,av,aT,cB,gH,h=>gq.done fun fr' aP=>by rw[aP];exact hy.here av aT h
 |o::l,i,A,L,E,O,z,vs,m,fr,av,aT,cB,gH,h=>by
  unfold uP at h;have step:∀{E:List (Nat×aQ D)},eC X z vs E fr->fc eD z0 z fr E m A L->(Cd X B i o L E O fun L E O=>uP X B ops (i+1) l L E O K)=aqP r->bV P (aJ fr) o m fun t v m1=>tS B i A m t m1/\gq P ops B (i+1) l (pD A i m t) (hy X O z e k vs K r) (set fr o.dst v) m1:=by intro E aT aG h;refine ajc bO av aT cB aG h ?_;intro z' vs' m' hl L' E' bB v aI h1 J aj aM br hb dt;exact gq.mono (GY bO aj aM br hb dt) fun _ _ aq=>aq.from aI h1 J
  split at h
  ·rename_i aG;exact gq.cons (by simp only[wanted,aG]) (step aT gH h)
  ·rename_i j want aG;split at h
   ·cases h
   ·rename_i d aB;obtain ⟨jA,rG,acW,h⟩:=Wb aT h;have L3:=gH.split acW;have ad:=rG d;split at h
    ·rename_i b az;rw[az] at ad;split at h
     ·rename_i aa;exact gq.JP aG aB ad aa (step rG L3 h)
     ·rename_i aa;exact gq.Iu aG aB ad (by cases b<;>cases want<;>simp at aa⊢) (GY bO av (rG.put (s:= .undef) rfl) cB L3.skip h)
    ·rename_i az;rw[az] at ad;exact gq.Qp aG aB ad (GY bO av (rG.put (s:= .undef) rfl) cB L3.skip h)
    ·cases h
theorem hn.start:hn z m vs ⟨[],[],[]⟩ ⟨[],[],[],[],[]⟩:=⟨by simp,by simp,by simp⟩
def px (X:dx P D) (B:Code) (u:kZ D):Prop:=∀{af:Type} (E:List (Nat×aQ D)) (O:List (aL D)) (K:dX->List (Nat×aQ D)->List (aL D)->Option af) (r:af) {z:Nat->a6} {e m:Mem} {k:Option Nat} {vs:List aqR} {fr:Nat->aqR},
 u.fits E O=aqQ->bo X.G O z e m k vs->eC X z vs E fr->u.run E O K=aqP r->W P (sub B u.path) (fun x=>hy X O z e k vs (K x) r) fr m
theorem O6:∀(c:Code) (p q:List Nat),sub (sub c p) q=sub c (p++q):=by
 intro c p;induction p generalizing c with
 |nil=>intro q;cases c<;>rfl
 |cons i p a8=>
  intro q;cases c with
  |seq a b=>cases i with
   |zero=>exact a8 a q
   |succ i=>exact a8 b q
  |cond x a b=>cases i with
   |zero=>exact a8 a q
   |succ i=>exact a8 b q
  |block n c=>cases i with
   |zero=>exact a8 c q
   |succ i=>exact a8 c q
  |scope c=>cases i with
   |zero=>exact a8 c q
   |succ i=>exact a8 c q
  |loop c=>cases i with
   |zero=>exact a8 c q
   |succ i=>exact a8 c q
  |_=>rcases q with _|⟨_|j,q⟩<;>cases i<;>rfl
theorem zg {B c:Code} {p:List Nat} {i:Nat} (h:sub B p.reverse=c):sub B (i::p).reverse=sub c [i]:=by rw[List.reverse_cons,<-O6,h]
theorem o9 (c:Code):sub c []=c:=by cases c<;>rfl
theorem YC:∀{p q:List Nat},EJ p q=aqQ->p=q
 |[],[],_=>rfl
 |a::p,b::q,h=>by simp only[EJ,aq5] at h;rw[aru h.1,YC h.2]
 |[],_::_,h=>by cases h
 |_::_,[],h=>by cases h
theorem ae4 {us:List (kZ D)} {p:List Nat} {u:kZ D} (h:qW us p E O=aqP u):u∈us/\u.path=p/\u.fits E O=aqQ:=by
 induction us with
 |nil=>cases h
 |cons w us a8=>
  simp only[qW] at h;split at h
  ·rename_i hw;cases h;simp only[aq5] at hw;exact ⟨arn,YC hw.1,hw.2⟩
  ·obtain ⟨h1,J⟩:=a8 h;exact ⟨ard _ h1,J⟩
theorem W7:∀{n:Nat} {O bL:List (aL D)} {z:Nat->a6} {m:Mem} {vs:List aqR},bo X.G O z e m k vs->Hr n O=aqP bL->∃z',Inv O bL/\cR e.next z z'/\bo X.G bL z' e m k vs
 |0,O,bL,z,m,vs,av,h=>by cases h;exact ⟨z,Inv.refl O,cR.refl z,av⟩
 |n+1,O,bL,z,m,vs,av,h=>by
  simp only[Hr] at h;split at h
  ·rename_i cU J;obtain ⟨cq,c4,a2,a3⟩:=W7 av J;split at h
   ·split at h
    ·cases h;exact ⟨cq,c4,a2,a3⟩
    ·obtain ⟨z2,ff,gA,mS⟩:=CB a3 h;exact ⟨z2,c4.trans ff,a2.trans gA,mS⟩
   ·cases h;exact ⟨cq,c4,a2,a3⟩
  ·cases h
theorem hy.fill {K:List (Nat×aQ D)->List (aL D)->Option af} {r:af} {vs:List aqR} {m':Mem} {fr':Nat->aqR} (h:hy X O z e k vs (uz K) r fr' m'):hy X O z e k vs K r fr' m':=by
 obtain ⟨cq,iS,jA,bL,aI,h1,J,aj,aM,br⟩:=h;unfold uz at br;split at br
 ·rename_i cU aP;obtain ⟨z2,c4,a2,a3⟩:=W7 aj aP;exact ⟨z2,iS,jA,cU,aI.trans c4,h1.trans a2,J,a3,aM.mono a2.le fun _ _ h=>h,br⟩
 ·cases br
theorem zv (bO:fQ X) {B:Code} {us:List (kZ D)} {L:Nat} (rT:∀u∈us,L<u.path.length->px X B u):
  ∀(c:Code) (top:Bool) (p:List Nat) (E:List (Nat×aQ D)) (O:List (aL D)) (K:dX->List (Nat×aQ D)->List (aL D)->Option af) (r:af) {z:Nat->a6} {vs:List aqR} {m:Mem} {fr:Nat->aqR},
   sub B p.reverse=c->L<=p.length->(top=aqT->L<p.length)->bo X.G O z e m k vs->eC X z vs E fr->hT X us calm top p c E O K=aqP r->W P c (fun x=>hy X O z e k vs (K x) r) fr m:=by
 intro c;have piece:∀{c:Code} {top:Bool} {p:List Nat} {E:List (Nat×aQ D)} {O:List (aL D)} {K:dX->List (Nat×aQ D)->List (aL D)->Option af} {r:af} {z:Nat->a6} {vs:List aqR} {m:Mem} {fr:Nat->aqR} {u:kZ D},
   sub B p.reverse=c->(top=aqT->L<p.length)->bo X.G O z e m k vs->eC X z vs E fr->(if top=aqQ then aqS else qW us p.reverse E O)=aqP u->u.run E O K=aqP r->W P c (fun x=>hy X O z e k vs (K x) r) fr m:=by
  intro c top p E O K r z vs m fr u an ao av aT hu h;cases top with
  |true=>cases hu
  |false=>obtain ⟨h1,J,aj⟩:=ae4 hu;have:=rT u h1 (by rw[J,List.length_reverse];exact ao rfl) E O K r aj av aT h;rw[J,an] at this;exact this
 induction c with
 |seq a b vS vT=>
  intro top p E O K r z vs m fr an cB ao av aT h;simp only[hT] at h;split at h
  ·rename_i u hu;exact piece an ao av aT hu h
  ·refine W.seq ((vS aqT (0::p) E O _ r (by rw[zg an];exact o9 a) (by simp;omega) (fun _=>by simp;omega) av aT h).mono ?_);rintro x eU m1 ⟨cq,iS,jA,bL,aI,h1,J,aj,aM,br⟩;cases x with
   |normal=>have br:=(if_pos rfl).symm.trans br;exact (vT aqT (1::p) jA bL K r (by rw[zg an];exact o9 b) (by simp;omega) (fun _=>by simp;omega) aj aM br).mono fun _ _ _ aq=>aq.from aI h1 J
   |exit i=>exact ⟨cq,iS,jA,bL,aI,h1,J,aj,aM,(if_neg (by simp)).symm.trans br⟩
   |ret=>exact ⟨cq,iS,jA,bL,aI,h1,J,aj,aM,(if_neg (by simp)).symm.trans br⟩
 |cond x a b vS vT=>
  intro top p E O K r z vs m fr an cB ao av aT h;simp only[hT] at h;split at h
  ·rename_i u hu;exact piece an ao av aT hu h
  ·split at h
   ·rename_i t az;have U:=Oz aT x;rw[az] at U;cases t with
    |true=>rw[if_pos rfl] at h;exact W.aaL U rfl (vS aqT (0::p) E O K r (by rw[zg an];exact o9 a) (by simp;omega) (fun _=>by simp;omega) av aT h)
    |false=>rw[if_neg (by simp)] at h;exact W.aaK U rfl (vT aqT (1::p) E O K r (by rw[zg an];exact o9 b) (by simp;omega) (fun _=>by simp;omega) av aT h)
   ·cases h
 |scope c a8=>
  intro top p E O K r z vs m fr an cB ao av aT h;simp only[hT] at h;split at h
  ·rename_i u hu;exact piece an ao av aT hu h
  ·exact W.scope (a8 aqT (0::p) E O K r (by rw[zg an];exact o9 c) (by simp;omega) (fun _=>by simp;omega) av aT h)
 |block i c a8=>
  intro top p E O K r z vs m fr an cB ao av aT h;simp only[hT] at h;split at h
  ·rename_i u hu;exact piece an ao av aT hu h
  ·refine W.block ((a8 aqT (0::p) E O _ r (by rw[zg an];exact o9 c) (by simp;omega) (fun _=>by simp;omega) av aT h).mono ?_);rintro x eU m1 aq;obtain ⟨cq,iS,jA,bL,aI,h1,J,aj,aM,br⟩:=aq;cases x with
   |normal=>exact ⟨cq,iS,jA,bL,aI,h1,J,aj,aM,by simpa using br⟩
   |exit j=>
    by_cases cW:j=i
    ·subst cW;exact oG.kj ⟨cq,iS,jA,bL,aI,h1,J,aj,aM,by simpa using br⟩
    ·exact oG.pV (by simpa using cW) ⟨cq,iS,jA,bL,aI,h1,J,aj,aM,by simpa[cW] using br⟩
   |ret=>exact ⟨cq,iS,jA,bL,aI,h1,J,aj,aM,by simpa using br⟩
 |region id ops d=>
  intro top p E O K r z vs m fr an cB ao av aT h;simp only[hT] at h;split at h
  ·rename_i u hu;exact piece an ao av aT hu h
  ·cases d with
   |true=>
    rw[if_pos rfl] at h;split at h
    ·rename_i ab;exact (W.calm (Q:=fun x=>hy X O z e k vs (uz (K x)) r) ab (zl bO av aT h)).mono fun _ _ _ aq=>aq.fill
    ·exact (W.draw (Q:=fun x=>hy X O z e k vs (uz (K x)) r) (GY bO av aT hn.start (fc.start av aT) h)).mono fun _ _ _ aq=>aq.fill
   |false=>rw[if_neg (by simp)] at h;exact (W.region (Q:=fun x=>hy X O z e k vs (uz (K x)) r) (zl bO av aT h)).mono fun _ _ _ aq=>aq.fill
 |loop c a8=>
  intro top p E O K r z vs m fr an cB ao av aT h;simp only[hT] at h;split at h
  ·rename_i u hu;exact piece an ao av aT hu h
  ·cases h
 |skip=>intro top p E O K r z vs m fr an cB ao av aT h;exact W.skip (hy.here av aT h)
 |label l=>intro top p E O K r z vs m fr an cB ao av aT h;exact W.label (hy.here av aT h)
 |exit i=>intro top p E O K r z vs m fr an cB ao av aT h;exact W.exit (hy.here av aT h)
 |ret=>intro top p E O K r z vs m fr an cB ao av aT h;exact W.ret (hy.here av aT h)
 |_=>intro top p E O K r z vs m fr an cB ao av aT h;simp[hT] at h
end
end Go.aS
end
section
namespace Go.aS
inductive e8 where
 |int (k:aqW)|bool|str
 |ay (e:Nat)|mp (t kt vt:Nat)
 |agg (t:Nat)|gd (t:Nat)
 |fn (f:Nat) (ts:List Nat)
 |cut (j e:Nat)
inductive bA where
 |ay (e:Nat)|box (t:Nat)|recv (t:Nat)|eY (e t n:Nat)|map (t kt vt:Nat)
 |eP (t:Nat) (l:List (Nat×Nat))
 |jY (t f:Nat) (is:List Nat)
 |ne (e t:Nat)
inductive dk where
 |v (d:Nat) (c:e8)
 |o (d:Nat) (c:bA)
 |u (j:Nat) (c:bA)
noncomputable section
section
variable {P:aqV} {D:Nat->Type}
def tO (D:Nat->Type):List Nat->Type
 |[]=>Unit
 |t::ts=>D t×tO D ts
def e8.ty (D:Nat->Type):e8->Type
 | .int _=>Int
 | .bool=>Bool
 | .str=>List UInt8
 | .ay e=>List (D e)
 | .mp _ kt vt=>List (D kt×D vt)
 | .agg t=>D t
 | .gd t=>D t
 | .fn _ ts=>tO D ts
 | .cut _ _=>Nat×Nat
def bA.ty (D:Nat->Type):bA->Type
 | .ay e=>List (D e)
 | .box t=>D t
 | .recv t=>D t
 | .eY e _ _=>List (D e)
 | .map _ kt vt=>List (D kt×D vt)
 | .eP t _=>D t
 | .jY _ _ _=>Unit
 | .ne _ t=>List (List (D t))
def dk.ty (D:Nat->Type):dk->Type
 | .v _ c=>c.ty D
 | .o _ c=>c.ty D
 | .u _ c=>c.ty D
def ez (D:Nat->Type):List dk->Type
 |[]=>Unit
 |i::is=>i.ty D×ez D is
variable (X:dx P D)
def hL (t:Nat) (x:D t):List (bJ D):=match X.I t with|some ti=>ti.lh x|none=>[]
def kS (t:Nat) (cs:List (bJ D)):Option (D t):=match X.I t with|some ti=>ti.o4 cs|none=>aqS
def sf:(ts:List Nat)->tO D ts->List (Nat×List (bJ D))
 |[],_=>[]
 |t::ts,x=>(t,hL X t x.1)::sf ts x.2
def wD:(ts:List Nat)->List (Nat×List (bJ D))->Option (tO D ts)
 |[],[]=>aqP ()
 |t::ts,p::l=>if p.1=t then (match kS X t p.2,wD ts l with|some a,aqP b=>aqP (a,b)|_,_=>aqS) else aqS
 |_,_=>aqS
def e8.mk:(c:e8)->c.ty D->aQ D
 | .int k,n=> .c (.int k n)
 | .bool,b=> .c (.bool b)
 | .str,s=> .c (.str s)
 | .ay e,xs=> .c (.ay e xs)
 | .mp t kt vt,es=> .c (.mp t kt vt es)
 | .agg t,x=> .agg t (hL X t x)
 | .gd t,x=> .gd t (hL X t x) 0
 | .fn f ts,x=> .fn f (sf X ts x)
 | .cut j e,x=> .cut j e x.1 x.2
def e8.get:(c:e8)->aQ D->Option (c.ty D)
 | .int k, .c (.int dc n)=>if dc=k then aqP n else aqS
 | .bool, .c (.bool b)=>aqP b
 | .str, .c (.str s)=>aqP s
 | .ay e, .c .fv=>aqP []
 | .mp t kt vt, .c .oa=>aqP []
 | .ay e, .c (.ay bw xs)=>if h:bw=e then aqP (h▸xs) else aqS
 | .mp t kt vt, .c (.mp db ih iw es)=>if h:ih=kt/\iw=vt then (if db=t then aqP (h.1▸h.2▸es) else aqS) else aqS
 | .agg t, .agg db cs=>if db=t then kS X t cs else aqS
 | .gd t, .gd db cs off=>if db=t/\off=0 then kS X t cs else aqS
 | .fn f ts, .fn jG l=>if jG=f then wD X ts l else aqS
 | .cut _ e, .cut _ bw bG n=>if bw=e then aqP (bG,n) else aqS
 |_,_=>aqS
def k1:List (Nat×Nat)->Nat->Option Nat
 |[],_=>aqS
 |p::l,i=>if aq9 p.1 i=aqQ then aqP p.2 else k1 l i
def ns (bU:Nat->Nat) (l:List (Nat×Nat)):Nat->List (bJ D)->List (bJ D)
 |_,[]=>[]
 |i,c::cs=>(match k1 l i with|some n=> .own (bU n)|none=>c)::ns bU l (i+1) cs
def nG (t:Nat):List (bJ D):=match X.I t with|some ti=>ti.qk|none=>[]
def pW (dT:List (bJ D)) (l:List (Nat×Nat)):Nat->List (bJ D)->List (bJ D)
 |_,[]=>[]
 |i,c::cs=>(match k1 l i with|some _=>dT.getD i .fv|none=>c)::pW dT l (i+1) cs
def bA.fa (bU:Nat->Nat):(c:bA)->c.ty D->Bool->aL D
 | .ay e,xs,w=> .ay e xs aqT w
 | .box t,x,w=> .box t (hL X t x) aqT w
 | .recv t,x,w=> .recv t (hL X t x) w
 | .eY e t n,xs,w=> .eY e t n xs w
 | .map t kt vt,es,w=> .map t kt vt es aqT w
 | .eP t l,x,w=> .box t (ns bU l 0 (hL X t x)) aqT w
 | .jY t f is,_,w=> .box t [.fn f (is.map bU)] aqT w
 | .ne e t,di,w=> .nest e t ((X.N e t).map pv.up) di aqS w
def bA.mk (c:bA) (x:c.ty D) (w:Bool):aL D:=bA.fa X (fun n=>n) c x w
def bA.gJ:bA->List Nat
 | .eP _ l=>l.map Prod.snd
 | .jY _ _ is=>is
 |_=>[]
def o3 (a:Option Nat) (i:Nat):Bool:=match a with|some j=>aq9 j i|none=>aqT
def Df (aZ:List Nat) (cs:List (bJ D)):List (Nat×Nat)->Bool
 |[]=>aqQ
 |p::l=>(match cs[p.1]? with|some (.own i)=>o3 (aZ[p.2]?) i|_=>aqT)&&Df aZ cs l
def EB (aZ:List Nat):List Nat->List Nat->Bool
 |[],[]=>aqQ
 |n::l,i::k=>o3 (aZ[n]?) i&&EB aZ l k
 |_,_=>aqT
def bA.get (aZ:List Nat):(c:bA)->aL D->Option (c.ty D)
 | .ay e, .ay bw xs aqT _=>if h:bw=e then aqP (h▸xs) else aqS
 | .box t, .box db cs aqT _=>if db=t then kS X t cs else aqS
 | .recv t, .recv db cs _=>if db=t then kS X t cs else aqS
 | .eY e t n, .eY bw db n' xs _=>if h:bw=e then (if db=t/\n'=n then aqP (h▸xs) else aqS) else aqS
 | .map t kt vt, .map db ih iw es aqT _=>if h:ih=kt/\iw=vt then (if db=t then aqP (h.1▸h.2▸es) else aqS) else aqS
 | .eP t l, .box db cs aqT _=>if db=t/\Df aZ cs l=aqQ then kS X t (pW (nG X t) l 0 cs) else aqS
 | .jY t f is, .box db [.fn jG pT] aqT _=>if db=t/\jG=f/\EB aZ is pT=aqQ then aqP () else aqS
 | .ne e t, .nest bw db _ di aqS _=>if h:db=t then (if bw=e then aqP (h▸di) else aqS) else aqS
 |_,_=>aqS
def aL.clean:aL D->Bool
 | .box _ cs _ _=>cs.all zy
 | .recv _ cs _=>cs.all zy
 | .nest _ _ _ _ _ _=>aqT
 |_=>aqQ
def Ll (O:List (aL D)):aQ D->Option (aQ D×List (aL D))
 | .c c=>(match rD O c with|some (bP,bB)=>aqP (.c bP,bB)|none=>aqS)
 | .agg t cs=>(match A9 O cs with|some (cs',bB)=>aqP (.agg t cs',bB)|none=>aqS)
 | .cut i e bG n=>(match vh O i with|some (.ay bw xs,bB)=>if bw=e then aqP (.c (.ay bw ((xs.take n).drop bG)),bB) else aqS|_=>aqS)
 |s=>aqP (s,O)
def PC:aQ D->Option Nat
 | .c (.own i)=>aqP i
 | .box i _=>aqP i
 | .eY i=>aqP i
 | .el i _ _ _=>aqP i
 |_=>aqS
def xp (l:List (Nat×Nat)):Nat->List (bJ D)->Bool
 |_,[]=>aqT
 |i,c::cs=>(match c with| .own _=>(match k1 l i with|none=>aqQ|_=>aqT)|_=>aqT)||xp l (i+1) cs
def EQ (l:List (Nat×Nat)):Nat->List (bJ D)->List (aL D)->Option (List (bJ D)×List (aL D))
 |_,[],O=>aqP ([],O)
 |i,c::cs,O=>
  match (match k1 l i with|some _=>aqP (c,O)|none=>rD O c) with
  |some (bP,bB)=>(match EQ l (i+1) cs bB with|some (cs',tg)=>aqP (bP::cs',tg)|none=>aqS)
  |none=>aqS
def tv (l:List (Nat×Nat)) (O:List (aL D)) (i:Nat):Option (List (aL D)):=
 match O[i]? with
 |some (.box t cs aqT _)=>if xp l 0 cs=aqQ then (match EQ l 0 cs O with|some (cs',bB)=>aqP (bB.set i (.box t cs' aqT aqQ))|none=>aqS) else aqP O
 |_=>aqP O
def Lm (c:e8) (O:List (aL D)) (s:aQ D):Option (aQ D×List (aL D)):=
 match c,s with
 | .cut _ _,s=>aqP (s,O)
 | .gd _, .box i off=>
  (match tv [] O i with
  |some bL=>(match wJ bL (.box i off) with|some (p,cU)=>aqP (.gd p.1 p.2 0,cU)|none=>aqS)
  |none=>aqS)
 |_,s=>Ll O s
def qu (E:List (Nat×aQ D)):List dk->List (aL D)->Option (List (aQ D)×List (aL D))
 |[],O=>aqP ([],O)
 | .v d c::aF,O=>
  match Lm c O (eh E d) with
  |some (s,bB)=>(match qu E aF bB with|some (l,tg)=>aqP (s::l,tg)|none=>aqS)
  |none=>aqS
 |_::aF,O=>match qu E aF O with|some (l,bB)=>aqP (.un::l,bB)|none=>aqS
def rn:Nat:=2000000
def Tu:Nat:=100000000
def Tv:Nat:=200000000
def De:List (bJ D)->List Nat
 |[]=>[]
 | .own i::cs=>i::De cs
 | .fn _ is::cs=>is++De cs
 |_::cs=>De cs
def YY (O:List (aL D)) (i:Nat):List Nat:=
 match O[i]? with
 |some (.box _ cs _ _)=>De cs
 |some (.recv _ cs _)=>De cs
 |_=>[]
def Ps (O:List (aL D)):Nat->List Nat->List Nat->List Nat
 |0,_,s=>s
 |_+1,[],s=>s
 |n+1,i::l,s=>if s.any (aq9 i)=aqQ then Ps O n l s else Ps O n (YY O i++l) (s++[i])
def Y9:List (Nat×aQ D)->List Nat
 |[]=>[]
 |p::E=>(match PC p.2 with|some i=>[i]|none=>[])++Y9 E
def Y8 (E:List (Nat×aQ D)) (O:List (aL D)):Nat->Nat->Option Nat
 |0,_=>aqS
 |n+1,m=>if aq9 (m%64) 0=aqQ then PC (eh E (m / 64)) else (match Y8 E O n (m / 64) with|some i=>(YY O i)[m%64 - 1]? |none=>aqS)
def JE (E:List (Nat×aQ D)) (O:List (aL D)) (d:Nat):Option Nat:=
 if art Tv d=aqQ then Y8 E O 8 (d - Tv) else
 if asm d rn=aqQ then PC (eh E d)
 else if art Tu d=aqQ then aqP (d - Tu)
 else match eh E ((d - rn) / 1000) with
  | .box i 0=>(match O[i]? with|some (.box _ cs _ _)=>(match cs[(d - rn)%1000]? with|some (.own n)=>aqP n|_=>aqS)|_=>aqS)
  |_=>aqS
def Ev (E:List (Nat×aQ D)) (O:List (aL D)):List dk->Option (List Nat)
 |[]=>aqP []
 | .o d _::aF=>(match JE E O d,Ev E O aF with|some i,aqP l=>aqP (i::l)|_,_=>aqS)
 |_::aF=>Ev E O aF
def nQ (E:List (Nat×aQ D)):List dk->List (aL D)->Option (List (aL D))
 |[],O=>aqP O
 | .o d (.box _)::aF,O=>(match JE E O d with|some i=>(match tv [] O i with|some bB=>nQ E aF bB|none=>aqS)|none=>aqS)
 | .o d (.eP _ l)::aF,O=>(match JE E O d with|some i=>(match tv l O i with|some bB=>nQ E aF bB|none=>aqS)|none=>aqS)
 | .u j (.box _)::aF,O=>(match tv [] O j with|some bB=>nQ E aF bB|none=>aqS)
 | .u j (.eP _ l)::aF,O=>(match tv l O j with|some bB=>nQ E aF bB|none=>aqS)
 |_::aF,O=>nQ E aF O
def TF (aZ:List Nat):e8->aQ D->Bool
 | .cut j _, .cut i _ _ _=>o3 (aZ[j]?) i
 |_,_=>aqQ
def gy (eN:List Nat) (O:List (aL D)):(aF:List dk)->List (aQ D)->List Nat->Option (ez D aF)
 |[],_,[]=>aqP ()
 | .v d c::aF,s::l,aZ=>if TF eN c s=aqQ then (match e8.get X c s,gy eN O aF l aZ with|some x,aqP y=>aqP (x,y)|_,_=>aqS) else aqS
 | .o d c::aF,_::l,i::aZ=>
  match O[i]? with
  |some o=>(match bA.get X eN c o,gy eN O aF l aZ with|some x,aqP y=>aqP (x,y)|_,_=>aqS)
  |none=>aqS
 | .u j c::aF,_::l,aZ=>
  match O[j]? with
  |some o=>(match bA.get X eN c o,gy eN O aF l aZ with|some x,aqP y=>aqP (x,y)|_,_=>aqS)
  |none=>aqS
 |_,_,_=>aqS
def dL:(aF:List dk)->ez D aF->List (aL D)
 |[],_=>[]
 | .o _ c::aF,x=>bA.mk X c x.1 aqT::dL aF x.2
 | .v _ _::aF,x=>dL aF x.2
 | .u _ _::aF,x=>dL aF x.2
def gw:(aF:List dk)->ez D aF->List (Nat×aQ D)
 |[],_=>[]
 | .v d c::aF,x=>(d,e8.mk X c x.1)::gw aF x.2
 | .o _ _::aF,x=>gw aF x.2
 | .u _ _::aF,x=>gw aF x.2
def vi (aZ:List Nat):aQ D->aQ D->Bool
 | .c (.own j), .c (.own i)=>o3 (aZ[j]?) i
 | .box j o, .box i p=>o3 (aZ[j]?) i&&aq9 o p
 | .eY j, .eY i=>o3 (aZ[j]?) i
 | .c .fv, .c .fv=>aqQ
 | .c .yU, .c .yU=>aqQ
 | .c .oa, .c .oa=>aqQ
 | .undef, .undef=>aqQ
 | .un,_=>aqQ
 | .c (.int k n), .c (.int dc n')=>decide (k=dc)&&(n==n')
 | .c (.bool b), .c (.bool b2)=>b==b2
 | .fn f [], .fn jG []=>aq9 f jG
 |_,_=>aqT
def xj (bU:Nat->Nat):aQ D->aQ D
 | .c (.own j)=> .c (.own (bU j))
 | .box j o=> .box (bU j) o
 | .eY j=> .eY (bU j)
 |s=>s
def sg:List Nat->Bool
 |[]=>aqQ
 |i::l=> !(l.any fun j=>aq9 j i)&&sg l
def C0 (l:List (Nat×Nat)):Nat->List (bJ D)->Bool
 |_,[]=>aqQ
 |i,c::cs=>(match k1 l i with|some _=>aqQ|none=>zy c)&&C0 l (i+1) cs
def bA.JN:bA->aL D->Bool
 | .eP _ l, .box _ cs _ _=>C0 l 0 cs
 |_,o=>o.clean
def sh (c:bA) (O:List (aL D)) (i:Nat):Bool:=match O[i]? with|some o=>o.kW|| !(c.JN o)|none=>aqQ
def kP (eN:List Nat):(aF:List dk)->ez D aF->List Nat->List (aL D)->List (aL D)
 | .o _ c::aF,x,i::aZ,O=>kP eN aF x.2 aZ (O.set i (bA.fa X (fun n=>eN.getD n 0) c x.1 (sh c O i)))
 | .v _ _::aF,x,aZ,O=>kP eN aF x.2 aZ O
 | .u _ _::aF,x,aZ,O=>kP eN aF x.2 aZ O
 |_,_,_,O=>O
def HC (aF:List dk) (eG:List (Nat×aQ D)) (E:List (Nat×aQ D)) (O:List (aL D)):Option (ez D aF×List Nat×List (aL D)):=
 match qu E aF O,Ev E O aF with
 |some (bM,bL),aqP aZ=>
  if (sg aZ&&eG.all fun p=>vi aZ p.2 (eh E p.1))=aqQ then
   match gy X aZ bL aF bM aZ with
   |some x=>aqP (x,aZ,kP X aZ aF x aZ bL)
   |none=>aqS
  else aqS
 |_,_=>aqS
def q3 (aF:List dk) (eG:List (Nat×aQ D)) (E:List (Nat×aQ D)) (O:List (aL D)):Option (ez D aF×List Nat×List (aL D)):=
 match nQ E aF O with
 |some lE=>HC X aF eG E lE
 |none=>aqS
end
section
variable {P:aqV} {D:Nat->Type} {X:dx P D} {z z':Nat->a6} {e m m':Mem} {k:Option Nat} {vs vs':List aqR} {fr:Nat->aqR} {E:List (Nat×aQ D)} {O bB:List (aL D)}
theorem se {t:Nat} {x:D t} {ds:List aqR} (h:ba (dj X.G z vs) (hL X t x) ds):ba (dj X.G z vs') (hL X t x) ds:=by
 unfold hL at h⊢;split at h
 ·rename_i ti _;exact ti.q4 z vs' x ds (ti.qR z vs _ x ds (ti.Nb x) h)
 ·exact ba.mono (fun _ _ h=>h) (by cases ds with|nil=>trivial|cons _ _=>exact h.elim)
theorem uq {t:Nat} {x:D t} {cs:List (bJ D)} {ds:List aqR} (an:kS X t cs=aqP x) (h:ba (dj X.G z vs) cs ds):ba (dj X.G z vs') (hL X t x) ds:=by
 unfold kS at an;unfold hL;split at an
 ·rename_i ti cb;exact ti.q4 z vs' x ds (ti.qR z vs cs x ds an h)
 ·cases an
theorem HJ {t:Nat} {x:D t} {cs:List (bJ D)} (an:kS X t cs=aqP x) (h:cs.all zy=aqQ):cs=hL X t x:=by
 unfold kS at an;unfold hL;split at an
 ·rename_i ti cb;exact (ti.F0 cs x an).eq h
 ·cases an
theorem amA {t:Nat} {x:D t} {cs:List (bJ D)} (an:kS X t cs=aqP x):oC cs (hL X t x):=by
 unfold kS at an;unfold hL;split at an
 ·rename_i ti cb;exact ti.F0 cs x an
 ·cases an
theorem WH:∀{ts:List Nat} {x:tO D ts} {gs:List aqR},ba (fun c g=>l3 X.G z vs c.2 0 g) (sf X ts x) gs->ba (fun c g=>l3 X.G z vs' c.2 0 g) (sf X ts x) gs
 |[],_,[],_=>trivial
 |[],_,_::_,h=>h.elim
 |t::ts,x,[],h=>h.elim
 |t::ts,x,g::gs,⟨⟨b,o,ds,h1,J,aj⟩,aM⟩=>⟨⟨b,o,ds,h1,J,se aj⟩,WH aM⟩
theorem Wo:∀{ts:List Nat} {l:List (Nat×List (bJ D))} {x:tO D ts} {gs:List aqR},wD X ts l=aqP x->ba (fun c g=>l3 X.G z vs c.2 0 g) l gs->ba (fun c g=>l3 X.G z vs' c.2 0 g) (sf X ts x) gs
 |[],[],_,[],_,_=>trivial
 |[],[],_,_::_,_,h=>h.elim
 |[],_::_,_,_,h,_=>by cases h
 |_::_,[],_,_,h,_=>by cases h
 |t::ts,p::l,x,[],_,h=>h.elim
 |t::ts,p::l,x,g::gs,h,⟨⟨b,o,ds,h1,J,aj⟩,aM⟩=>by
  simp only[wD] at h;split at h
  ·split at h
   ·rename_i a b2 au aa;cases h;exact ⟨⟨b,o,ds,h1,J,uq au aj⟩,Wo aa aM⟩
   ·cases h
  ·cases h
def e8.yT:e8->Bool
 | .cut _ _=>aqT
 |_=>aqQ
theorem e8.MW {c:e8} {x:c.ty D} {v:aqR} (ab:c.yT=aqQ) (h:rel X.G z vs (e8.mk X c x) v):rel X.G z vs' (e8.mk X c x) v:=by
 cases c with
 |cut j e=>cases ab
 |agg t=>obtain ⟨ds,h1,J⟩:=h;exact ⟨ds,h1,se J⟩
 |gd t=>obtain ⟨b,o,ds,h1,J,aj⟩:=h;exact ⟨b,o,ds,h1,J,se aj⟩
 |fn f ts=>obtain ⟨gs,h1,J⟩:=h;exact ⟨gs,h1,WH J⟩
 |_=>exact h
theorem X3 {a:Option Nat} {i:Nat} (h:o3 a i=aqQ):a=aqP i:=by
 unfold o3 at h;split at h
 ·rw[aru h]
 ·cases h
theorem e8.Bc {aZ:List Nat} {c:e8} {x:c.ty D} {s:aQ D} {v:aqR} (hm:∀(j i:Nat) (u:aqR),aZ[j]? =aqP i->vs[i]? =aqP u->vs'[j]? =aqP u) (dB:TF aZ c s=aqQ) (aG:e8.get X c s=aqP x) (h:rel X.G z vs s v):rel X.G z vs' (e8.mk X c x) v:=by
 unfold e8.get at aG;split at aG
 ·split at aG
  ·rename_i hk;cases aG;subst hk;exact h
  ·cases aG
 ·cases aG;exact h
 ·cases aG;exact h
 ·cases aG;exact .inl ⟨h,rfl⟩
 ·cases aG;exact .inl ⟨h,rfl⟩
 ·split at aG
  ·rename_i hk;cases aG;subst hk;exact h
  ·cases aG
 ·split at aG
  ·rename_i hk;split at aG
   ·rename_i ao;obtain ⟨h1,J⟩:=hk;subst h1 J ao;cases aG;exact h
   ·cases aG
  ·cases aG
 ·obtain ⟨_,aG⟩:=eV aG;obtain ⟨ds,h1,J⟩:=h;exact ⟨ds,h1,uq aG J⟩
 ·obtain ⟨hk,aG⟩:=eV aG;obtain ⟨b,o,ds,h1,J,aj⟩:=h;exact ⟨b,o,ds,by rw[h1,hk.2],J,uq aG aj⟩
 ·obtain ⟨hk,aG⟩:=eV aG;subst hk;obtain ⟨gs,h1,J⟩:=h;exact ⟨gs,h1,Wo aG J⟩
 ·obtain ⟨hk,aG⟩:=eV aG;subst hk;cases aG;obtain ⟨w,h1,J⟩:=h;exact ⟨w,⟨hm _ _ _ (X3 dB) h1.1,h1.2⟩,J⟩
 ·cases aG
theorem bA.rY {bU:Nat->Nat} {c:bA} {x:c.ty D} {w:Bool}:(bA.fa X bU c x w).live=aqQ:=by cases c<;>rfl
theorem bA.FO {bU:Nat->Nat} {c:bA} {x:c.ty D} {w:Bool}:(bA.fa X bU c x w).kW=w:=by cases c<;>first|rfl|simp[bA.fa,aL.kW]
theorem bA.tR {c:bA} {x:c.ty D} {w:Bool}:(bA.mk X c x w).live=aqQ:=bA.rY
theorem l1 {ap bx:Type} {R:ap->bx->Prop}:∀{l:List ap} {k:List bx},ba R l k↔l.length=k.length/\∀(i:Nat) (a:ap) (b:bx),l[i]? =aqP a->k[i]? =aqP b->R a b
 |[],[]=>by simp[ba]
 |[],_::_=>by simp[ba]
 |_::_,[]=>by simp[ba]
 |a::l,b::k=>by
  simp only[ba,l1 (l:=l) (k:=k),arr];constructor
  ·rintro ⟨h1,J,aj⟩;refine ⟨by omega,fun i x y U ag=> ?_⟩;cases i with
   |zero=>simp at U ag;subst U ag;exact h1
   |succ i=>exact aj i x y (by simpa using U) (by simpa using ag)
  ·rintro ⟨h1,J⟩;exact ⟨J 0 a b rfl rfl,by omega,fun i x y U ag=>J (i+1) x y (by simpa using U) (by simpa using ag)⟩
theorem CJ {bU:Nat->Nat} {l:List (Nat×Nat)}:∀{cs:List (bJ D)} {i0 i:Nat},(ns bU l i0 cs)[i]? =(cs[i]?).map fun c=>match k1 l (i0+i) with|some n=> .own (bU n)|none=>c
 |[],i0,i=>by simp[ns]
 |c::cs,i0,0=>by simp[ns]
 |c::cs,i0,i+1=>by simp only[ns,asy];rw[CJ (cs:=cs),show i0+1+i=i0+(i+1) by omega]
theorem XB {dT:List (bJ D)} {l:List (Nat×Nat)}:∀{cs:List (bJ D)} {i0 i:Nat},(pW dT l i0 cs)[i]? =(cs[i]?).map fun c=>match k1 l (i0+i) with|some _=>dT.getD (i0+i) .fv|none=>c
 |[],i0,i=>by simp[pW]
 |c::cs,i0,0=>by simp[pW]
 |c::cs,i0,i+1=>by simp only[pW,asy];rw[XB (cs:=cs),show i0+1+i=i0+(i+1) by omega]
theorem Oa {bU:Nat->Nat} {l:List (Nat×Nat)}:∀{cs:List (bJ D)} {i0:Nat},(ns bU l i0 cs).length=cs.length
 |[],_=>rfl
 |c::cs,i0=>by simp[ns,Oa (cs:=cs)]
theorem YW {t:Nat} (i:Nat):∃v,∀(z:Nat->a6) (vs:List aqR),dj X.G z vs ((nG X t).getD i .fv) v:=by
 unfold nG;cases cb:X.I t with
 |none=>exact ⟨.slice aqS 0 0,fun z vs=>rfl⟩
 |some ti=>
  simp only;cases ab:ti.qk[i]? with
  |none=>exact ⟨.slice aqS 0 0,fun z vs=>by rw[at6,ab];rfl⟩
  |some c=>obtain ⟨v,ad,_⟩:=(ti.rV (fun _=> .dead) []).get i c ab;refine ⟨v,fun z vs=> ?_⟩;rw[at6,ab];exact (l1.1 (ti.rV z vs)).2 i c v ab ad
theorem XC {dT:List (bJ D)} {l:List (Nat×Nat)}:∀{cs:List (bJ D)} {i0:Nat},(pW dT l i0 cs).length=cs.length
 |[],_=>rfl
 |c::cs,i0=>by simp[pW,XC (cs:=cs)]
theorem CE:∀{l:List (Nat×Nat)} {i n:Nat},k1 l i=aqP n->(i,n)∈l
 |[],_,_,h=>by cases h
 |p::l,i,n,h=>by
  simp only[k1] at h;split at h
  ·rename_i an;cases h;have:=aru an;subst this;exact arn
  ·exact ard _ (CE h)
theorem Gy {aZ:List Nat} {cs:List (bJ D)}:∀{l:List (Nat×Nat)},Df aZ cs l=aqQ->∀p∈l,∃i,cs[p.1]? =aqP (.own i)/\aZ[p.2]? =aqP i
 |[],_,_,h=>by simp at h
 |q::l,h,p,an=>by
  simp only[Df,aq5] at h;rcases aq6.1 an with rfl|an
  ·have h1:=h.1;split at h1
   ·rename_i i ae;refine ⟨i,ae, ?_⟩;unfold o3 at h1;split at h1
    ·rename_i j ar;rw[ar,aru h1]
    ·cases h1
   ·cases h1
  ·exact Gy h.2 p an
theorem ahR {t:Nat} {x:D t}:(hL X t x).all o0=aqQ:=by
 unfold hL;split
 ·rename_i ti _;exact ti.MU x
 ·rfl
theorem afl {c:bJ D} {v:aqR} (ab:o0 c=aqQ) (h:dj X.G z vs c v) (aP:∀f is,c≠ .fn f is):dj X.G z vs' c v:=by
 cases c<;>first|exact h|cases ab|exact absurd rfl (aP _ _)
theorem af8 {c:bJ D} {v:aqR} (ab:o0 c=aqQ) (h:dj X.G z vs c v):dj X.G z vs' c v:=by
 cases c with
 |fn f is=>
  cases is with
  |nil=>obtain ⟨gs,h1,J⟩:=h;exact ⟨gs,h1,by cases gs with|nil=>trivial|cons _ _=>exact J.elim⟩
  |cons _ _=>cases ab
 |_=>exact afl ab h (by simp)
def PD (i:Nat):aL D->Prop
 | .box _ cs _ _=> .own i∈cs\/∃f is, .fn f is∈cs/\i∈is
 |_=>False
theorem GN {aZ:List Nat}:∀{l k:List Nat},EB aZ l k=aqQ->ba (fun n i=>aZ[n]? =aqP i) l k
 |[],[],_=>trivial
 |n::l,i::k,h=>by simp only[EB,aq5] at h;exact ⟨X3 h.1,GN h.2⟩
 |[],_::_,h=>by cases h
 |_::_,[],h=>by cases h
theorem XP {bU l9:Nat->Nat}:∀{is:List Nat} {gs:List aqR},(∀n∈is,∀u,vs[bU n]? =aqP u->vs'[l9 n]? =aqP u)->ba (rz vs) (is.map bU) gs->ba (rz vs') (is.map l9) gs
 |[],[],_,_=>trivial
 |[],_::_,_,h=>h.elim
 |_::_,[],_,h=>h.elim
 |n::is,g::gs,ad,⟨h1,J⟩=>⟨⟨ad n arn g h1.1,h1.2⟩,XP (fun m hm=>ad m (ard _ hm)) J⟩
theorem XQ {aZ:List Nat} {bU:Nat->Nat} (ad:∀n i u,aZ[n]? =aqP i->vs[i]? =aqP u->vs'[bU n]? =aqP u):∀{is pT:List Nat} {gs:List aqR},ba (fun n i=>aZ[n]? =aqP i) is pT->ba (rz vs) pT gs->ba (rz vs') (is.map bU) gs
 |[],[],[],_,_=>trivial
 |_::_,[],_,h,_=>h.elim
 |[],_::_,_,h,_=>h.elim
 |[],[],_::_,_,h=>h.elim
 |_::_,_::_,[],_,h=>h.elim
 |n::is,j::pT,g::gs,⟨h1,J⟩,⟨bt,bE⟩=>⟨⟨ad n j g h1 bt.1,bt.2⟩,XQ ad J bE⟩
theorem bA.Vc {bU l9:Nat->Nat} {c:bA} {x:c.ty D} {v:aqR} {w:Bool} (w':Bool) (h:fE X.G z e m k vs (bA.fa X bU c x w) v) (ad:∀n∈c.gJ,PD (bU n) (bA.fa X bU c x w)->∀u,vs[bU n]? =aqP u->vs'[l9 n]? =aqP u):fE X.G z e m k vs' (bA.fa X l9 c x w') v:=by
 cases c with
 |box t=>obtain ⟨b,ds,h1,J,aj,aM⟩:=h;exact ⟨b,ds,h1,J,aj,se aM⟩
 |recv t=>obtain ⟨b,ds,h1,J,aM⟩:=h;exact ⟨b,ds,h1,J,se aM⟩
 |eP t l=>
  obtain ⟨b,ds,h1,J,aj,aM⟩:=h;refine ⟨b,ds,h1,J,aj,l1.2 ⟨?_,fun i a d au aB=> ?_⟩⟩
  ·have:=(l1.1 aM).1;rw[Oa] at this⊢;exact this
  ·rw[CJ] at au;obtain ⟨a0,aI,au⟩:=atk.1 au;have aw:=(l1.1 aM).2 i _ d (by rw[CJ,aI];rfl) aB;rw[ara] at au aw;cases aP:k1 l i with
   |none=>rw[aP] at au aw;subst au;exact af8 (aq8.1 ahR a0 (aq7 aI)) aw
   |some n=>rw[aP] at au aw;subst au;exact ⟨ad n (aq'.2 ⟨_,CE aP,rfl⟩) (.inl (aq7 (i:=i) (by rw[CJ,aI,ara,asv,aP]))) d aw.1,aw.2⟩
 |jY t f is=>
  obtain ⟨b,ds,h1,J,aj,aM⟩:=h;refine ⟨b,ds,h1,J,aj, ?_⟩
  match ds,aM with
  |[d],⟨⟨gs,g1,g2⟩,_⟩=>exact ⟨⟨gs,g1,XP (fun n aq=>ad n aq (.inr ⟨f,_,arn,aq'.2 ⟨n,aq,rfl⟩⟩)) g2⟩,trivial⟩
 |ne e t=>obtain ⟨hu,ws,h⟩:=h;exact ⟨hu,ws,h.bd,h.len,h.nk,fun p an=>by cases an⟩
 |_=>exact h
theorem bA.yP {bU l9:Nat->Nat} {c:bA} {x:c.ty D} {v:aqR} {w:Bool} (w':Bool) (h:fE X.G z e m k vs (bA.fa X bU c x w) v) (ad:∀n∈c.gJ,∀u,vs[bU n]? =aqP u->vs'[l9 n]? =aqP u):fE X.G z e m k vs' (bA.fa X l9 c x w') v:=bA.Vc w' h fun n aq _=>ad n aq
theorem aiS {e t:Nat}:Tt X.G e t ((X.N e t).map pv.up):=by
 intro f aP;cases aq:X.N e t with
 |none=>rw[aq] at aP;cases aP
 |some dM=>rw[aq] at aP;cases aP;exact ⟨dM.bC,dM.tid,dM.aw⟩
theorem bA.Bc {aZ:List Nat} {bU:Nat->Nat} {c:bA} {x:c.ty D} {o:aL D} {v:aqR} (aG:bA.get X aZ c o=aqP x) (h:fE X.G z e m k vs o v) (ad:∀n i u,aZ[n]? =aqP i->vs[i]? =aqP u->vs'[bU n]? =aqP u) (w:Bool):fE X.G z e m k vs' (bA.fa X bU c x w) v:=by
 unfold bA.get at aG;split at aG
 ·split at aG
  ·rename_i hk;cases aG;subst hk;exact h
  ·cases aG
 ·obtain ⟨hk,aG⟩:=eV aG;subst hk;obtain ⟨b,ds,h1,J,aj,aM⟩:=h;exact ⟨b,ds,h1,J,aj,uq aG aM⟩
 ·obtain ⟨hk,aG⟩:=eV aG;subst hk;obtain ⟨b,ds,h1,J,aM⟩:=h;exact ⟨b,ds,h1,J,uq aG aM⟩
 ·split at aG
  ·rename_i hk;split at aG
   ·rename_i ao;obtain ⟨h1,J⟩:=ao;subst hk h1 J;cases aG;exact h
   ·cases aG
  ·cases aG
 ·split at aG
  ·rename_i hk;split at aG
   ·rename_i ao;obtain ⟨h1,J⟩:=hk;subst h1 J ao;cases aG;exact h
   ·cases aG
  ·cases aG
 ·rename_i t l db cs de;obtain ⟨hk,aG⟩:=eV aG;obtain ⟨rfl,ai⟩:=hk;obtain ⟨b,ds,h1,J,aj,aM⟩:=h;have hlen:=(l1.1 aM).1;have aq:ba (dj X.G z vs) (pW (nG X db) l 0 cs) ((arI ds.length).map fun i=>match k1 l i with|some _=>Classical.choose (YW (X:=X) (t:=db) i)|none=>ds.getD i undef):=by
   refine l1.2 ⟨by rw[XC];simp[hlen],fun i a d au aB=> ?_⟩;rw[XB] at au;obtain ⟨a0,aI,au⟩:=atk.1 au;rw[ara] at au;have ae:i<ds.length:=by rw[<-hlen];exact (aqZ.1 aI).1
   rw[arB,as2 ae] at aB;have aB:=ark.inj aB;cases aP:k1 l i with
   |none=>rw[aP] at au;simp only[aP] at aB;subst au aB;exact (l1.1 aM).2 i a0 _ aI (by simp[arW,ars ae])
   |some n=>rw[aP] at au;simp only[aP] at aB;subst au aB;exact Classical.choose_spec (YW (X:=X) (t:=db) i) z vs
  have aq:=uq (vs':=vs') aG aq;refine ⟨b,ds,h1,J,aj,l1.2 ⟨by rw[Oa,(l1.1 aq).1];simp,fun i a d au aB=> ?_⟩⟩;rw[CJ] at au;obtain ⟨a0,aI,au⟩:=atk.1 au;rw[ara] at au;have ae:i<ds.length:=(aqZ.1 aB).1;cases aP:k1 l i with
  |none=>rw[aP] at au;subst au;have:=(l1.1 aq).2 i a0 d aI (by rw[arB,as2 ae];simp only[asv,aP];simp[arW,aB]);exact this
  |some n=>rw[aP] at au;subst au;obtain ⟨i0,g1,g2⟩:=Gy ai _ (CE aP);have aw:=(l1.1 aM).2 i _ d g1 aB;exact ⟨ad n i0 d g2 aw.1,aw.2⟩
 ·obtain ⟨⟨rfl,rfl,ab⟩,aG⟩:=eV aG;obtain ⟨b,ds,h1,J,aj,aM⟩:=h;refine ⟨b,ds,h1,J,aj, ?_⟩
  match ds,aM with
  |[d],⟨⟨gs,g1,g2⟩,_⟩=>exact ⟨⟨gs,g1,XQ ad (GN ab) g2⟩,trivial⟩
 ·split at aG
  ·rename_i hk;subst hk;obtain ⟨hk,aG⟩:=eV aG;subst hk;cases aG;obtain ⟨_,ws,h⟩:=h;exact ⟨aiS,ws,h.bd,h.len,h.nk,fun p an=>by cases an⟩
  ·cases aG
 ·cases aG
theorem bA.aa0 {aZ:List Nat} {c:bA} {x:c.ty D} {o:aL D} (aG:bA.get X aZ c o=aqP x):∀n∈c.gJ,∃i,aZ[n]? =aqP i:=by
 intro n aq;unfold bA.get at aG;split at aG
 ·simp[bA.gJ] at aq
 ·simp[bA.gJ] at aq
 ·simp[bA.gJ] at aq
 ·simp[bA.gJ] at aq
 ·simp[bA.gJ] at aq
 ·obtain ⟨⟨_,ai⟩,_⟩:=eV aG;obtain ⟨p,an,rfl⟩:=aq'.1 aq;obtain ⟨i,_,h⟩:=Gy ai p an;exact ⟨i,h⟩
 ·rename_i t f is db jG pT de;obtain ⟨⟨_,_,ab⟩,_⟩:=eV aG;have:∀{l k:List Nat},ba (fun n i=>aZ[n]? =aqP i) l k->∀n∈l,∃i,aZ[n]? =aqP i:=by
   intro l;induction l with
   |nil=>intro k _ n aq;cases aq
   |cons a l a8=>
    intro k hk n aq;cases k with
    |nil=>exact hk.elim
    |cons b k=>
     rcases aq6.1 aq with rfl|aq
     ·exact ⟨b,hk.1⟩
     ·exact a8 hk.2 n aq
  exact this (GN ab) n aq
 ·simp[bA.gJ] at aq
 ·cases aG
theorem bA.Lq {aZ:List Nat} {c:bA} {x:c.ty D} {o:aL D} (aG:bA.get X aZ c o=aqP x):o.live=aqQ:=by
 unfold bA.get at aG;split at aG<;>first|rfl|cases aG
theorem WO {bU:Nat->Nat} {dT:List (bJ D)} {l:List (Nat×Nat)}:∀{cs ds:List (bJ D)} {i:Nat},oC (pW dT l i cs) ds->C0 l i cs=aqQ->(∀j n,k1 l (i+j)=aqP n->cs[j]? =aqS\/cs[j]? =aqP (.own (bU n)))->ns bU l i ds=cs
 |[],[],_,_,_,_=>rfl
 |[],_::_,_,h,_,_=>h.elim
 |_::_,[],_,h,_,_=>h.elim
 |c::cs,d::ds,i,h,ab,ah=>by
  simp only[C0,aq5] at ab;have J:=WO (cs:=cs) (ds:=ds) (i:=i+1) h.2 ab.2 fun j n ar=>by have:=ah (j+1) n (by rw[<-ar];congr 1;omega);simpa using this
  simp only[ns,J];have aI:=ah 0;rw[arC] at aI;cases aP:k1 l i with
  |some n=>have:=aI n aP;simp at this;simp[this]
  |none=>have h1:=h.1;simp only[aP] at h1 ab;simp only;rw[h1 ab.1]
theorem bA.aaZ {aZ:List Nat} {c:bA} {x:c.ty D} {o:aL D} (aG:bA.get X aZ c o=aqP x) (h:c.JN o=aqQ):o=bA.fa X (fun n=>aZ.getD n 0) c x o.kW:=by
 unfold bA.get at aG;split at aG
 ·split at aG
  ·rename_i hk;cases aG;subst hk;rfl
  ·cases aG
 ·obtain ⟨hk,aG⟩:=eV aG;subst hk;simp only[bA.fa,aL.kW];rw[<-HJ aG h]
 ·obtain ⟨hk,aG⟩:=eV aG;subst hk;simp only[bA.fa,aL.kW];rw[<-HJ aG h]
 ·split at aG
  ·rename_i hk;split at aG
   ·rename_i ao;obtain ⟨h1,J⟩:=ao;subst hk h1 J;cases aG;rfl
   ·cases aG
  ·cases aG
 ·split at aG
  ·rename_i hk;split at aG
   ·rename_i ao;obtain ⟨h1,J⟩:=hk;subst h1 J ao;cases aG;rfl
   ·cases aG
  ·cases aG
 ·rename_i t l db cs de;obtain ⟨⟨rfl,ai⟩,aG⟩:=eV aG;simp only[bA.fa,aL.kW];rw[WO (amA aG) (h:C0 l 0 cs=aqQ) fun j n ar=> .inr ?_];obtain ⟨i,g1,g2⟩:=Gy ai (j,n) (CE (by rwa [ara] at ar));rw[g1,at6,g2];rfl
 ·rename_i t f is db jG pT de;obtain ⟨⟨rfl,rfl,ab⟩,aG⟩:=eV aG;have:∀{l k:List Nat},ba (fun n i=>aZ[n]? =aqP i) l k->l.map (fun n=>aZ.getD n 0)=k:=by
   intro l;induction l with
   |nil=>intro k hk;cases k with
    |nil=>rfl
    |cons _ _=>exact hk.elim
   |cons a l a8=>
    intro k hk;cases k with
    |nil=>exact hk.elim
    |cons b k=>rw[arG,a8 hk.2,at6,hk.1];rfl
  simp only[bA.fa,aL.kW];rw[this (GN ab)]
 ·split at aG
  ·rename_i hk;subst hk;obtain ⟨hk,aG⟩:=eV aG;subst hk;cases h
  ·cases aG
 ·cases aG
end
end
end Go.aS
end
section
namespace Go.aS
section
variable {P:aqV} {D:Nat->Type} {X:dx P D} {z z':Nat->a6} {e m m':Mem} {k:Option Nat} {vs vs':List aqR} {fr:Nat->aqR} {E:List (Nat×aQ D)} {O bB:List (aL D)}
theorem bo.DB (h:bo X.G O z e m k vs) (len:vs'.length=bB.length) (Au:Nat->Nat)
  (ai:∀(i:Nat) (o:aL D),bB[i]? =aqP o->o.live=aqQ->∃p v,O[Au i]? =aqP p/\p.live=aqQ/\vs[Au i]? =aqP v/\vs'[i]? =aqP v/\fE X.G z e m k vs' o v)
  (aP:∀(i:Nat) (o:aL D) (v:aqR),bB[i]? =aqP o->o.live=aqT->vs'[i]? =aqP v->fE X.G z e m k vs' o v)
  (inj:∀(i j:Nat) (o p:aL D),bB[i]? =aqP o->bB[j]? =aqP p->o.live=aqQ->p.live=aqQ->Au i=Au j->i=j):bo X.G bB z e m k vs' where
 aO:=h.aO
 len:=len
 obj:=fun i o v ah ad=>by
  cases cB:o.live with
  |false=>exact aP i o v ah cB ad
  |true=>obtain ⟨p,w,_,_,_,aM,br⟩:=ai i o ah cB;rw[ad] at aM;cases aM;exact br
 eE:=fun i j o p v w cW ah an bG c8 ad hw=>by obtain ⟨dm,v1,g1,g2,g3,g4,_⟩:=ai i o ah bG;obtain ⟨ei,v2,bt,bE,cM,fI,_⟩:=ai j p an c8;rw[ad] at g4;cases g4;rw[hw] at fI;cases fI;exact h.eE (Au i) (Au j) dm ei v w (fun ax=>cW (inj i j o p ah an bG c8 ax)) g1 bt g2 bE g3 cM
theorem fE.frozen {o:aL D} {v:aqR} (ai:o.live=aqT) (h:fE X.G z e m k vs o v) (aE:ew z z') (ad:∀(i:Nat) (u:aqR),vs[i]? =aqP u->vs'[i]? =aqP u):fE X.G z' e m' k vs' o v:=by
 cases o with
 |dead=>trivial
 |ay t xs bg _=>cases bg with
  |true=>exact ev.mono aE h
  |false=>cases ai
 |box t cs bg _=>cases bg with
  |true=>obtain ⟨b,ds,h1,J,aj⟩:=h;exact ⟨b,ds,h1,F6 aE J,nB.mono aj aE ad⟩
  |false=>cases ai
 |map t kt vt es bg _=>cases bg with
  |true=>exact kD.mono h aE
  |false=>cases ai
 |_=>cases ai
theorem C6 (h:∀p∈E,rel X.G z vs p.2 (fr p.1)):eC X z vs E fr:=by
 induction E with
 |nil=>intro d;trivial
 |cons p E a8=>exact (a8 fun q aK=>h q (ard _ aK)).cons (h p arn)
theorem ahk {s cc:aQ D} {v:aqR} (av:bo X.G O z e m k vs) (h:Ll O s=aqP (cc,bB)) (ad:rel X.G z vs s v):∃z',Inv O bB/\cR e.next z z'/\bo X.G bB z' e m k vs/\rel X.G z' vs cc v:=by
 unfold Ll at h;split at h
 ·split at h
  ·rename_i c bP bL ab;cases h;exact zj av ab ad
  ·cases h
 ·split at h
  ·rename_i t cs cs' bL ab;cases h;obtain ⟨ds,h1,J⟩:=ad;obtain ⟨z',g0,g1,g2,g3⟩:=OC av ab J;exact ⟨z',g0,g1,g2,ds,h1,g3⟩
  ·cases h
 ·split at h
  ·rename_i aX xs bL ab;split at h
   ·rename_i he;subst he;cases h;obtain ⟨w,h1,J⟩:=ad;obtain ⟨z',g0,g1,g2,g3⟩:=zj (c:= .own _) av ab h1;exact ⟨z',g0,g1,g2,J.anp g3⟩
   ·cases h
  ·cases h
 ·cases h;exact ⟨z,Inv.refl _,cR.refl z,av,ad⟩
theorem afP {i j t:Nat} {c:bJ D} {cs:List (bJ D)} {bg w:Bool} (h:vh O j=aqP (c,bB)) (ae:O[i]? =aqP (.box t cs bg w)):bB[i]? =aqP (.box t cs bg w):=by
 unfold vh at h;split at h
 ·rename_i ah;cases h;rw[arp];split
  ·rename_i ar;subst ar;rw[ah] at ae;cases ae
  ·exact ae
 ·rename_i ah;cases h;rw[arp];split
  ·rename_i ar;subst ar;rw[ah] at ae;cases ae
  ·exact ae
 ·rename_i ah;cases h;rw[arp];split
  ·rename_i ar;subst ar;rw[ah] at ae;cases ae
  ·exact ae
 ·cases h
theorem afO {i t:Nat} {c bP:bJ D} {cs:List (bJ D)} {bg w:Bool} (h:rD O c=aqP (bP,bB)) (ae:O[i]? =aqP (.box t cs bg w)):bB[i]? =aqP (.box t cs bg w):=by
 unfold rD at h;split at h
 ·exact afP h ae
 ·cases h;exact ae
theorem XH {l:List (Nat×Nat)}:∀{cs cs':List (bJ D)} {n:Nat} {O bB:List (aL D)} {ds:List aqR} {z:Nat->a6},bo X.G O z e m k vs->EQ l n cs O=aqP (cs',bB)->ba (dj X.G z vs) cs ds->
  ∃z',Inv O bB/\cR e.next z z'/\bo X.G bB z' e m k vs/\ba (dj X.G z' vs) cs' ds/\∀(i t:Nat) (A2:List (bJ D)) (bg w:Bool),O[i]? =aqP (.box t A2 bg w)->bB[i]? =aqP (.box t A2 bg w)
 |[],cs',n,O,bB,[],z,av,h,_=>by cases h;exact ⟨z,Inv.refl _,cR.refl z,av,trivial,fun _ _ _ _ _ h=>h⟩
 |c::cs,cs',n,O,bB,d::ds,z,av,h,⟨h1,J⟩=>by
  unfold EQ at h;split at h
  ·rename_i bP bL ab;split at h
   ·rename_i aaN cU hC;cases h;have step:∃cq,Inv O bL/\cR e.next z cq/\bo X.G bL cq e m k vs/\dj X.G cq vs bP d/\∀(i t:Nat) (A2:List (bJ D)) (bg w:Bool),O[i]? =aqP (.box t A2 bg w)->bL[i]? =aqP (.box t A2 bg w):=by
     split at ab
     ·cases ab;exact ⟨z,Inv.refl _,cR.refl z,av,h1,fun _ _ _ _ _ h=>h⟩
     ·obtain ⟨cq,g0,g1,g2,g3⟩:=zj av ab h1;exact ⟨cq,g0,g1,g2,g3,fun _ _ _ _ _ h=>afO ab h⟩
    obtain ⟨cq,g0,g1,g2,g3,g4⟩:=step;obtain ⟨z2,iP,bt,bE,cM,fI⟩:=XH g2 hC (nB.mono J g1.le fun _ _ h=>h);exact ⟨z2,g0.trans iP,g1.trans bt,bE,⟨dj.mono g3 bt.le fun _ _ h=>h,cM⟩,fun _ _ _ _ _ h=>fI _ _ _ _ _ (g4 _ _ _ _ _ h)⟩
   ·cases h
  ·cases h
 |[],_,_,_,_,_::_,_,_,_,h=>h.elim
 |_::_,_,_,_,_,[],_,_,_,h=>h.elim
theorem XK {l:List (Nat×Nat)} {i:Nat} (av:bo X.G O z e m k vs) (h:tv l O i=aqP bB):∃z',Inv O bB/\cR e.next z z'/\bo X.G bB z' e m k vs:=by
 unfold tv at h;split at h
 ·rename_i t cs w ah;split at h
  ·split at h
   ·rename_i cs' bL aP;cases h;obtain ⟨v,ad,b,ds,h1,J,aj,aM⟩:=av.at ah;obtain ⟨cq,g0,g1,g2,g3,g4⟩:=XH av aP aM;have UD:=g4 _ _ _ _ _ ah;obtain ⟨b2,mU,b5,cd,dN,fD⟩:=g2.obj i _ v UD ad;have lK:h9 cq e m k b ds t:=by
     rw[h1] at b5;cases b5;exact ⟨J.aH,cd.lt,cd.dead,cd.fresh⟩
    refine ⟨cq,g0.trans (Inv.set bL i (.inr rfl)),g1,g2.mM (m':=m) UD ad rfl ⟨aq3 _,g2.aO.dead,fun _ _ _=>rfl⟩ g2.aO ⟨b,ds,h1,lK,aj,g3⟩⟩
   ·cases h
  ·cases h;exact ⟨z,Inv.refl _,cR.refl z,av⟩
 ·cases h;exact ⟨z,Inv.refl _,cR.refl z,av⟩
theorem zi:∀{aF:List dk} {O bB:List (aL D)} {z:Nat->a6},bo X.G O z e m k vs->nQ E aF O=aqP bB->∃z',Inv O bB/\cR e.next z z'/\bo X.G bB z' e m k vs
 |[],O,bB,z,av,h=>by cases h;exact ⟨z,Inv.refl _,cR.refl z,av⟩
 |it::aF,O,bB,z,av,h=>by
  have go:∀{l:List (Nat×Nat)} {i:Nat},(match tv l O i with|some bB=>nQ E aF bB|none=>aqS)=aqP bB->∃z',Inv O bB/\cR e.next z z'/\bo X.G bB z' e m k vs:=by
   intro l i h;split at h
   ·rename_i bL aP;obtain ⟨cq,g0,g1,g2⟩:=XK av aP;obtain ⟨z2,iP,bt,bE⟩:=zi g2 h;exact ⟨z2,g0.trans iP,g1.trans bt,bE⟩
   ·cases h
  cases it with
  |v d c=>exact zi (aF:=aF) av h
  |o d c=>
   cases c with
   |box t=>
    simp only[nQ] at h;split at h
    ·exact go h
    ·cases h
   |eP t l=>
    simp only[nQ] at h;split at h
    ·exact go h
    ·cases h
   |_=>exact zi (aF:=aF) av h
  |u j c=>
   cases c with
   |box t=>simp only[nQ] at h;exact go h
   |eP t l=>simp only[nQ] at h;exact go h
   |_=>exact zi (aF:=aF) av h
def xM (X:dx P D) (z:Nat->a6) (vs:List aqR) (fr:Nat->aqR):List dk->List (aQ D)->Prop
 |[],[]=>True
 | .v d _::aF,s::l=>rel X.G z vs s (fr d)/\xM X z vs fr aF l
 | .o _ _::aF,_::l=>xM X z vs fr aF l
 | .u _ _::aF,_::l=>xM X z vs fr aF l
 |_,_=>False
theorem ahl {c:e8} {s cc:aQ D} {v:aqR} (av:bo X.G O z e m k vs) (h:Lm c O s=aqP (cc,bB)) (ad:rel X.G z vs s v):∃z',Inv O bB/\cR e.next z z'/\bo X.G bB z' e m k vs/\rel X.G z' vs cc v:=by
 unfold Lm at h;split at h
 ·cases h;exact ⟨z,Inv.refl _,cR.refl z,av,ad⟩
 ·rename_i t i off;split at h
  ·rename_i bL U;split at h
   ·rename_i p cU an;cases h;obtain ⟨cq,g0,g1,g2⟩:=XK av U;obtain ⟨z2,iP,bt,bE,cM⟩:=N0 g2 (rel.mono ad g1.le fun _ _ h=>h) an;exact ⟨z2,g0.trans iP,g1.trans bt,bE,cM⟩
   ·cases h
  ·cases h
 ·exact ahk av h ad
theorem wz:∀{aF:List dk} {O bB:List (aL D)} {l:List (aQ D)} {z:Nat->a6},bo X.G O z e m k vs->eC X z vs E fr->qu E aF O=aqP (l,bB)->∃z',Inv O bB/\cR e.next z z'/\bo X.G bB z' e m k vs/\xM X z' vs fr aF l
 |[],O,bB,l,z,av,aT,h=>by cases h;exact ⟨z,Inv.refl _,cR.refl z,av,trivial⟩
 | .v d c::aF,O,bB,l,z,av,aT,h=>by
  simp only[qu] at h;split at h
  ·rename_i s bL az;split at h
   ·rename_i pU cU ai;cases h;obtain ⟨cq,g0,g1,g2,g3⟩:=ahl av az (aT d);obtain ⟨z2,iP,bt,bE,cM⟩:=wz g2 (aT.mono g1.le fun _ _ h=>h) ai;exact ⟨z2,g0.trans iP,g1.trans bt,bE,rel.mono g3 bt.le fun _ _ h=>h,cM⟩
   ·cases h
  ·cases h
 | .o d c::aF,O,bB,l,z,av,aT,h=>by
  simp only[qu] at h;split at h
  ·rename_i pU cU ai;cases h;exact wz (aF:=aF) av aT ai
  ·cases h
 | .u d c::aF,O,bB,l,z,av,aT,h=>by
  simp only[qu] at h;split at h
  ·rename_i pU cU ai;cases h;exact wz (aF:=aF) av aT ai
  ·cases h
structure xO (D:Nat->Type) where
 c:bA
 x:c.ty D
def cos:(aF:List dk)->ez D aF->List (xO D)
 |[],_=>[]
 | .o _ c::aF,x=>⟨c,x.1⟩::cos aF x.2
 | .v _ _::aF,x=>cos aF x.2
 | .u _ _::aF,x=>cos aF x.2
theorem kU:∀{aF:List dk} {x:ez D aF},dL X aF x=(cos aF x).map fun q=>bA.mk X q.c q.x aqT
 |[],_=>rfl
 | .o d c::aF,x=>by show bA.mk X c x.1 aqT::dL X aF x.2=bA.mk X c x.1 aqT::(cos aF x.2).map _;rw[kU]
 | .v d c::aF,x=>kU (aF:=aF)
 | .u d c::aF,x=>kU (aF:=aF)
def xQ (X:dx P D) (eN:List Nat) (O:List (aL D)):List Nat->List (xO D)->Prop:=ba fun i q=>∃o,O[i]? =aqP o/\bA.get X eN q.c o=aqP q.x
theorem zB {eN:List Nat} (hm:∀(j i:Nat) (u:aqR),eN[j]? =aqP i->vs[i]? =aqP u->vs'[j]? =aqP u):∀{aF:List dk} {l:List (aQ D)} {aZ:List Nat} {x:ez D aF},gy X eN O aF l aZ=aqP x->xM X z vs fr aF l->∀p∈gw X aF x,rel X.G z vs' p.2 (fr p.1)
 |[],_,_,_,_,_=>by simp[gw]
 | .v d c::aF,[],_,_,_,h=>h.elim
 | .o d c::aF,[],_,_,_,h=>h.elim
 | .u d c::aF,[],_,_,_,h=>h.elim
 | .v d c::aF,s::l,aZ,x,h,au=>by
  simp only[gy] at h;obtain ⟨dB,h⟩:=eV h;split at h
  ·rename_i a b h1 J;cases h;intro p an;simp only[gw,aq6] at an;rcases an with rfl|an
   ·exact e8.Bc hm dB h1 au.1
   ·exact zB hm J au.2 p an
  ·cases h
 | .o d c::aF,s::l,[],x,h,au=>by cases h
 | .o d c::aF,s::l,i::aZ,x,h,au=>by
  simp only[gy] at h;split at h
  ·split at h
   ·rename_i a b h1 J;cases h;intro p an;exact zB hm J au p an
   ·cases h
  ·cases h
 | .u d c::aF,s::l,aZ,x,h,au=>by
  simp only[gy] at h;split at h
  ·split at h
   ·rename_i a b h1 J;cases h;intro p an;exact zB hm J au p an
   ·cases h
  ·cases h
theorem Ds {eN:List Nat}:∀{aF:List dk} {l:List (aQ D)} {aZ:List Nat} {x:ez D aF},gy X eN O aF l aZ=aqP x->xQ X eN O aZ (cos aF x)
 |[],[],[],_,_=>trivial
 |[],_::_,[],_,_=>trivial
 |[],_,_::_,_,h=>by simp[gy] at h
 | .v d c::aF,[],_,_,h=>by simp[gy] at h
 | .o d c::aF,[],_,_,h=>by simp[gy] at h
 | .u d c::aF,[],_,_,h=>by simp[gy] at h
 | .v d c::aF,s::l,aZ,x,h=>by
  simp only[gy] at h;obtain ⟨_,h⟩:=eV h;split at h
  ·rename_i a b h1 J;cases h;show xQ X eN O aZ (cos aF b);exact Ds J
  ·cases h
 | .o d c::aF,s::l,[],x,h=>by cases h
 | .o d c::aF,s::l,i::aZ,x,h=>by
  simp only[gy] at h;split at h
  ·rename_i o ah;split at h
   ·rename_i a b h1 J;cases h;exact ⟨⟨o,ah,h1⟩,Ds J⟩
   ·cases h
  ·cases h
 | .u d c::aF,s::l,aZ,x,h=>by
  simp only[gy] at h;split at h
  ·split at h
   ·rename_i a b h1 J;cases h;show xQ X eN O aZ (cos aF b);exact Ds J
   ·cases h
  ·cases h
theorem VR {i:Nat} {l:List Nat} (h:sg (i::l)=aqQ):i∉l/\sg l=aqQ:=by
 simp only[sg,aq5,ar',List.any_eq_false] at h;refine ⟨fun ae=> ?_,h.2⟩;exact h.1 i ae (by simp)
theorem ND:∀{l:List Nat},sg l=aqQ->∀(a b i:Nat),l[a]? =aqP i->l[b]? =aqP i->a=b
 |[],_,a,b,i,h,_=>by simp at h
 |x::l,h,a,b,i,au,aa=>by
  obtain ⟨h1,J⟩:=VR h;cases a with
  |zero=>
   cases b with
   |zero=>rfl
   |succ b=>simp at au aa;subst au;exact absurd (aq7 aa) h1
  |succ a=>
   cases b with
   |zero=>simp at au aa;subst aa;exact absurd (aq7 au) h1
   |succ b=>simp at au aa;rw[ND J a b i au aa]
def Sx (X:dx P D) (eN:List Nat) (O:List (aL D)):List Nat->List (xO D)->Prop:=ba fun i q=>∃w,O[i]? =aqP (bA.fa X (fun n=>eN.getD n 0) q.c q.x w)
theorem aic {eN:List Nat} (av:bo X.G O z e m k vs) {i:Nat} {o:aL D} {c:bA} {x:c.ty D} (ah:O[i]? =aqP o) (aG:bA.get X eN c o=aqP x) (w:Bool):bo X.G (O.set i (bA.fa X (fun n=>eN.getD n 0) c x w)) z e m k vs:=by
 obtain ⟨v,ad,bW⟩:=av.at ah;have ae:=(aqZ.1 ah).1;refine av.DB (by rw[asb];exact av.len) id (fun j p an ai=> ?_) (fun j p u an ai hu=> ?_) (fun i j _ _ _ _ _ _ h=>h)
 ·rw[arp] at an;split at an
  ·rename_i cW;subst cW;cases an;exact ⟨o,v,ah,bA.Lq aG,ad,ad,bA.Bc aG bW (fun n i u h1 J=>by simpa[arW,h1] using J) w⟩
  ·obtain ⟨u,hu,mv⟩:=av.at an;exact ⟨p,u,an,ai,hu,hu,mv⟩
 ·rw[arp] at an;split at an
  ·cases an;rw[bA.rY] at ai;cases ai
  ·exact av.obj j p u an hu
theorem YG {eN:List Nat} {i:Nat} {p:aL D}:∀{aZ:List Nat} {C:List (xO D)},xQ X eN O aZ C->i∉aZ->xQ X eN (O.set i p) aZ C
 |[],[],_,_=>trivial
 |j::aZ,q::C,⟨⟨o,h1,J⟩,aj⟩,ae=>by
  refine ⟨⟨o, ?_,J⟩,YG aj fun h=>ae (ard _ h)⟩;rw[asK]
  ·exact h1
  ·rintro rfl;exact ae arn
 |[],_::_,h,_=>h.elim
 |_::_,[],h,_=>h.elim
theorem agx {ap:Type} {l:List ap} {i:Nat} {a:ap} (h:l[i]? =aqP a):l.set i a=l:=by
 apply asw;intro j;rw[arp];have ae:=(aqZ.1 h).1;by_cases cW:i=j
 ·subst cW;rw[if_pos rfl,if_pos ae,h]
 ·simp[cW]
theorem Hi {eN:List Nat}:∀{aF:List dk} {x:ez D aF} {aZ:List Nat} {O:List (aL D)},bo X.G O z e m k vs->xQ X eN O aZ (cos aF x)->sg aZ=aqQ->
  Inv O (kP X eN aF x aZ O)/\bo X.G (kP X eN aF x aZ O) z e m k vs/\Sx X eN (kP X eN aF x aZ O) aZ (cos aF x)/\∀i,i∉aZ->(kP X eN aF x aZ O)[i]? =O[i]?
 |[],x,[],O,av,_,_=>⟨Inv.refl _,av,trivial,fun _ _=>rfl⟩
 |[],x,_::_,O,av,h,_=>h.elim
 | .v d c::aF,x,aZ,O,av,h,aq=>by have:=Hi (aF:=aF) (x:=x.2) (aZ:=aZ) av h aq;simpa only[kP,cos] using this
 | .u d c::aF,x,aZ,O,av,h,aq=>by have:=Hi (aF:=aF) (x:=x.2) (aZ:=aZ) av h aq;simpa only[kP,cos] using this
 | .o d c::aF,x,[],O,av,h,aq=>h.elim
 | .o d c::aF,x,i::aZ,O,av,⟨⟨o,h1,J⟩,aj⟩,aq=>by
  obtain ⟨kr,jr⟩:=VR aq;have hA:=aic av h1 J (sh c O i);obtain ⟨g1,g2,g3,g4⟩:=Hi (aF:=aF) (x:=x.2) (aZ:=aZ) hA (YG aj kr) jr;have ae:=(aqZ.1 h1).1;refine ⟨Inv.trans ?_ g1,g2,⟨⟨sh c O i, ?_⟩,g3⟩,fun j ar=> ?_⟩
  ·cases ao:sh c O i with
   |true=>exact Inv.set O i (.inr bA.FO)
   |false=>
    have ab:o.kW=aqT/\c.JN o=aqQ:=by simp only[sh,h1,atM,Bool.not_eq_false'] at ao;exact ao
    have cM:=bA.aaZ J ab.2;rw[ab.1] at cM;have:O.set i (bA.fa X (fun n=>eN.getD n 0) c x.1 aqT)=O:=agx (by rw[h1];exact congrArg aqP cM);rw[this];exact Inv.refl O
  ·show (kP X eN aF x.2 aZ (O.set i (bA.fa X _ c x.1 (sh c O i))))[i]? =_;rw[g4 i kr,arp];simp[ae]
  ·show (kP X eN aF x.2 aZ (O.set i (bA.fa X _ c x.1 (sh c O i))))[j]? =_;rw[g4 j fun h=>ar (ard _ h),asK];rintro rfl;exact ar arn
theorem GP {a:Option Nat} {i:Nat} (h:o3 a i=aqQ):a=aqP i:=by
 unfold o3 at h;split at h
 ·rw[aru h]
 ·cases h
theorem O9 {aZ:List Nat} {s cc:aQ D} {v:aqR} (bU:Nat->Nat) (h:vi aZ s cc=aqQ) (aw:rel X.G z vs cc v) (ad:∀(j i:Nat) (u:aqR),aZ[j]? =aqP i->vs[i]? =aqP u->vs'[bU j]? =aqP u):rel X.G z vs' (xj bU s) v:=by
 unfold vi at h;split at h
 ·exact ⟨ad _ _ _ (GP h) aw.1,aw.2⟩
 ·simp only[aq5] at h;obtain ⟨b,h1,J⟩:=aw;have:=aru h.2;subst this;exact ⟨b,ad _ _ _ (GP h.1) h1,J⟩
 ·obtain ⟨b,l,h1,J⟩:=aw;exact ⟨b,l,ad _ _ _ (GP h) h1,J⟩
 ·exact aw
 ·exact aw
 ·exact aw
 ·exact aw
 ·trivial
 ·simp only[aq5,decide_eq_true_eq,beq_iff_eq] at h;obtain ⟨rfl,rfl⟩:=h;exact aw
 ·have:=eq_of_beq h;subst this;exact aw
 ·have:=aru h;subst this;obtain ⟨gs,h1,J⟩:=aw;refine ⟨gs,h1, ?_⟩;cases gs with
  |nil=>trivial
  |cons _ _=>exact J.elim
 ·cases h
theorem Hc (s:aQ D):xj id s=s:=by
 cases s with
 |c c=>cases c<;>rfl
 |_=>rfl
structure Q4 (X:dx P D) (aF:List dk) (eG:List (Nat×aQ D)) (x:ez D aF) (aZ:List Nat) (cU:List (aL D)) (z:Nat->a6) (e m:Mem) (k:Option Nat) (vs b6:List aqR) (fr:Nat->aqR):Prop where
 yQ:bo X.G cU z e m k vs
 Vd:bo X.G (dL X aF x) z e m k b6
 ZD:eC X z b6 (gw X aF x++eG) fr
 fC:sg aZ=aqQ
 tT:Sx X aZ cU aZ (cos aF x)
 len:b6.length=aZ.length
 dd:∀(j i:Nat),aZ[j]? =aqP i->∃u,b6[j]? =aqP u/\vs[i]? =aqP u
 gt:∀q∈cos aF x,∀n∈q.c.gJ,∃i,aZ[n]? =aqP i
theorem aiG {aF:List dk} {eG:List (Nat×aQ D)} {x:ez D aF} {aZ:List Nat} {cU:List (aL D)} (av:bo X.G O z e m k vs) (aT:eC X z vs E fr) (h:HC X aF eG E O=aqP (x,aZ,cU)):
  ∃z' b6,Inv O cU/\cR e.next z z'/\Q4 X aF eG x aZ cU z' e m k vs b6 fr:=by
 unfold HC at h;split at h
 ·rename_i bM bL aqO aP au;split at h
  ·rename_i ab;simp only[aq5] at ab;split at h
   ·rename_i gX aa;cases h;obtain ⟨cq,g0,g1,g2,g3⟩:=wz av aT aP;have wa:=Ds aa;obtain ⟨kr,jr,FR,aql⟩:=Hi g2 wa ab.1;have jq:∀(j i:Nat),aZ[j]? =aqP i->∃u,(aZ.map fun i=>vs.getD i undef)[j]? =aqP u/\vs[i]? =aqP u:=by
     intro j i ar;obtain ⟨q,_,w,hw⟩:=FR.get j i ar;obtain ⟨v,ad,_⟩:=jr.at hw;refine ⟨v, ?_,ad⟩;rw[arB,ar];simp[ad]
    have hlen:(dL X aF x).length=aZ.length:=by rw[kU,arN];exact FR.length.symm
    have Bu:∀(j:Nat) (kQ:aL D),(dL X aF x)[j]? =aqP kQ->∃i q,q∈cos aF x/\kQ=bA.mk X q.c q.x aqT/\aZ[j]? =aqP i/\∃w,(kP X aZ aF x aZ bL)[i]? =aqP (bA.fa X (fun n=>aZ.getD n 0) q.c q.x w):=by intro j kQ ar;have aN:=(aqZ.1 ar).1;have az:aZ[j]? =aqP (aZ[j]'(by omega)):=ars (by omega);obtain ⟨q,cM,w,fI⟩:=FR.get j _ az;rw[kU,arB,cM] at ar;exact ⟨_,q,aq7 cM,(ark.inj ar).symm,az,w,fI⟩
    have nW:∀q∈cos aF x,∀n∈q.c.gJ,∃i,aZ[n]? =aqP i:=by
     intro q aK;obtain ⟨j,ar,he⟩:=List.mem_iff_getElem.1 aK;have By:(cos aF x)[j]? =aqP q:=by rw[ars ar,he]
     have az:aZ[j]? =aqP (aZ[j]'(by rw[wa.length];exact ar)):=ars _;obtain ⟨dG,bt,o,_,bE⟩:=wa.get j _ az;rw[By] at bt;cases bt;exact bA.aa0 bE
    refine ⟨cq,aZ.map fun i=>vs.getD i undef,g0.trans kr,g1,jr, ?_, ?_,ab.1,FR,by simp,jq,nW⟩
    ·refine jr.DB (by rw[arN];exact hlen.symm) (fun j=>aZ.getD j 0) (fun j kQ ar ai=> ?_) (fun j kQ u ar ai hu=> ?_) (fun i j o p ae ar _ _ cW=> ?_)
     ·obtain ⟨i,q,aK,rfl,az,w,hw⟩:=Bu j kQ ar;obtain ⟨u,adg,UX⟩:=jq j i az;have aB:aZ.getD j 0=i:=by simp[arW,az]
      refine ⟨_,u,by rw[aB];exact hw,bA.rY,by rw[aB];exact UX,adg, ?_⟩;have:=jr.obj i _ u hw UX;refine bA.yP aqT this fun n aq l4 j4=> ?_;obtain ⟨fH,dY⟩:=nW q aK n aq;have k5:aZ.getD n 0=fH:=by simp[arW,dY]
      rw[k5] at j4;obtain ⟨DE,h1,J⟩:=jq n fH dY;rw[j4] at J;cases J;exact h1
     ·obtain ⟨i,q,_,rfl,az,w,hw⟩:=Bu j kQ ar;rw[bA.tR] at ai;cases ai
     ·obtain ⟨a,_,_,_,au,_⟩:=Bu i o ae;obtain ⟨b,_,_,_,aa,_⟩:=Bu j p ar;have aX:aZ.getD i 0=a:=by simp[arW,au]
      have e2:aZ.getD j 0=b:=by simp[arW,aa]
      have:a=b:=by rw[<-aX,<-e2];exact cW
      subst this;exact ND ab.1 i j a au aa
    ·refine C6 fun p an=> ?_;rcases arc.1 an with an|an
     ·refine zB (fun j i u ar hu=> ?_) aa g3 p an;obtain ⟨l4,h1,J⟩:=jq j i ar;rw[hu] at J;cases J;exact h1
     ·have ao:=aq8.1 ab.2 p an;have:=O9 (X:=X) (z:=cq) (vs:=vs) (vs':=aZ.map fun i=>vs.getD i undef) id ao ((aT.mono g1.le fun _ _ h=>h) p.1) fun j i u ar hu=>by
       obtain ⟨l4,h1,J⟩:=jq j i ar;rw[hu] at J;cases J;exact h1
      rwa [Hc] at this
   ·cases h
  ·cases h
 ·cases h
theorem entry {aF:List dk} {eG:List (Nat×aQ D)} {x:ez D aF} {aZ:List Nat} {cU:List (aL D)} (av:bo X.G O z e m k vs) (aT:eC X z vs E fr) (h:q3 X aF eG E O=aqP (x,aZ,cU)):
  ∃z' b6,Inv O cU/\cR e.next z z'/\Q4 X aF eG x aZ cU z' e m k vs b6 fr:=by
 unfold q3 at h;split at h
 ·rename_i lE aP;obtain ⟨cq,g0,g1,g2⟩:=zi av aP;obtain ⟨z2,b6,iP,bt,bE⟩:=aiG g2 (aT.mono g1.le fun _ _ h=>h) h;exact ⟨z2,b6,g0.trans iP,g1.trans bt,bE⟩
 ·cases h
def Zi (E:List (Nat×aQ D)) (O:List (aL D)) (q off:Nat):Option (Nat×Nat×List (bJ D)×Bool):=
 match eh E q with
 | .box i 0=>(match O[i]? with|some (.box t cs aqT w)=>(match cs[off]? with|some .fv=>aqP (i,t,cs,w)|_=>aqS)|_=>aqS)
 |_=>aqS
def js:List dk->List (Nat×aQ D)->List (aL D)->List (Nat×aQ D)×List (aL D)
 | .o d (.ay t)::aF,E,O=>
  if asm d rn=aqQ then (match eh E d with| .c .fv=>js aF ((d, .c (.own O.length))::E) (O++[.ay t [] aqT aqT])|_=>js aF E O)
  else (match Zi E O ((d - rn) / 1000) ((d - rn)%1000) with|some (i,u,cs,_)=>js aF E (O.set i (.box u (cs.set ((d - rn)%1000) (.own O.length)) aqT aqQ)++[.ay t [] aqT aqT])|none=>js aF E O)
 |_::aF,E,O=>js aF E O
 |[],E,O=>(E,O)
theorem lq:∀{aF:List dk} {E:List (Nat×aQ D)} {O:List (aL D)} {vs:List aqR},bo X.G O z e m k vs->eC X z vs E fr->∃vs',Inv O (js aF E O).2/\(∀(i:Nat) (u:aqR),vs[i]? =aqP u->vs'[i]? =aqP u)/\bo X.G (js aF E O).2 z e m k vs'/\eC X z vs' (js aF E O).1 fr
 |[],E,O,vs,av,aT=>⟨vs,Inv.refl _,fun _ _ h=>h,av,aT⟩
 | .v _ _::aF,E,O,vs,av,aT=>lq (aF:=aF) av aT
 | .u _ _::aF,E,O,vs,av,aT=>lq (aF:=aF) av aT
 | .o _ (.box _)::aF,E,O,vs,av,aT=>lq (aF:=aF) av aT
 | .o _ (.recv _)::aF,E,O,vs,av,aT=>lq (aF:=aF) av aT
 | .o _ (.eY _ _ _)::aF,E,O,vs,av,aT=>lq (aF:=aF) av aT
 | .o _ (.map _ _ _)::aF,E,O,vs,av,aT=>lq (aF:=aF) av aT
 | .o _ (.eP _ _)::aF,E,O,vs,av,aT=>lq (aF:=aF) av aT
 | .o _ (.jY _ _ _)::aF,E,O,vs,av,aT=>lq (aF:=aF) av aT
 | .o _ (.ne _ _)::aF,E,O,vs,av,aT=>lq (aF:=aF) av aT
 | .o d (.ay t)::aF,E,O,vs,av,aT=>by
  have T1:∀{O:List (aL D)},bo X.G O z e m k vs->bo X.G (O++[.ay t [] aqT aqT]) z e m k (vs++[.slice aqS 0 0]):=fun {O} av=>by refine av.push (q:=aqS) ⟨aq3 _,av.aO.dead,fun _ _ _=>rfl⟩ av.aO (fun _ _ _ _ _ _=>en.qQ) ?_ fun _ _ _=>en.qQ;exact (⟨.inl ⟨rfl,rfl⟩,fun b aa=>by cases aa⟩:c3 (X.G.T t) z e m k [] (.slice aqS 0 0))
  unfold js;split
  ·split
   ·rename_i az;have aB:=aT d;rw[az] at aB;have aB:fr d= .slice aqS 0 0:=aB;obtain ⟨vs',g1,g2,g3,g4⟩:=lq (aF:=aF) (E:=(d, .c (.own O.length))::E) (T1 av) ((aT.mono (ew.refl z) im).cons ⟨by rw[aB,<-av.len];simp,by rw[aB];rfl,by rw[aB];rfl⟩);exact ⟨vs',(Inv.push O _).trans g1,fun i u hu=>g2 i u (im i u hu),g3,g4⟩
   ·exact lq (aF:=aF) av aT
  ·generalize (d - rn) / 1000=q;generalize (d - rn)%1000=off;split
   ·rename_i i u cs w aq;have aa:O[i]? =aqP (.box u cs aqT w)/\cs[off]? =aqP .fv:=by
     unfold Zi at aq;split at aq
     ·split at aq
      ·split at aq
       ·rename_i J _ aj;cases aq;exact ⟨J,aj⟩
       ·cases aq
      ·cases aq
     ·cases aq
    obtain ⟨v,ad,b,ds,h1,J,aj,aM⟩:=av.at aa.1;have Bg:=T1 av;have ae:=(aqZ.1 aa.1).1;have jQ:O.set i (.box u (cs.set off (.own O.length)) aqT aqQ)++[(.ay t [] aqT aqT:aL D)]=(O++[(.ay t [] aqT aqT:aL D)]).set i (.box u (cs.set off (.own O.length)) aqT aqQ):=by rw[List.set_append_left _ _ ae]
    have vk:bo X.G (O.set i (.box u (cs.set off (.own O.length)) aqT aqQ)++[.ay t [] aqT aqT]) z e m k (vs++[.slice aqS 0 0]):=by
     rw[jQ];refine Bg.mM (m':=m) (v:=v) (o:= .box u cs aqT w) (by rw[arf ae];exact aa.1) (im _ _ ad) rfl ⟨aq3 _,av.aO.dead,fun _ _ _=>rfl⟩ av.aO ?_;refine ⟨b,ds,h1,J,aj,l1.2 ⟨by rw[asb];exact (l1.1 aM).1,fun j a d au aB=> ?_⟩⟩;rw[arp] at au;split at au
     ·rename_i ar;split at au
      ·cases au;subst ar;have aw:d= .slice aqS 0 0:=(l1.1 aM).2 off _ d aa.2 aB;exact ⟨by rw[aw,<-av.len];simp,by rw[aw];rfl,by rw[aw];rfl⟩
      ·cases au
     ·exact dj.mono ((l1.1 aM).2 j a d au aB) (ew.refl z) im
    obtain ⟨vs',g1,g2,g3,g4⟩:=lq (aF:=aF) (E:=E) vk (aT.mono (ew.refl z) im);exact ⟨vs',((Inv.set O i (.inr rfl)).trans (Inv.push _ _)).trans g1,fun i u hu=>g2 i u (im i u hu),g3,g4⟩
   ·exact lq (aF:=aF) av aT
end
end Go.aS
end
section
namespace Go.aS
structure kB (D:Nat->Type) where
 ex:dX
 outs:List dk
 eG:List (Nat×aQ D)
noncomputable section
section
variable {P:aqV} {D:Nat->Type}
def kR (D:Nat->Type):List dk->Type
 |[]=>Unit
 |[i]=>i.ty D
 |i::j::is=>i.ty D×kR D (j::is)
def HE:(aF:List dk)->ez D aF->kR D aF
 |[],_=>()
 |[_],x=>x.1
 |_::j::is,x=>(x.1,HE (j::is) x.2)
def eW:(aF:List dk)->kR D aF->ez D aF
 |[],_=>()
 |[_],y=>(y,())
 |_::j::is,y=>(y.1,eW (j::is) y.2)
def q6:List (kB D)->Type
 |[]=>Empty
 |[x]=>kR D x.outs
 |x::y::xs=>kR D x.outs⊕q6 (y::xs)
def Ex {ap:Type}:(ic:List (kB D))->q6 ic->((x:kB D)->kR D x.outs->ap)->ap
 |[],e,_=>nomatch (e:Empty)
 |[x],y,k=>k x y
 |x::y::xs,r,k=>match (r:kR D x.outs⊕q6 (y::xs)) with| .inl a=>k x a| .inr b=>Ex (y::xs) b k
variable (X:dx P D)
def Zn (n:Nat):aL D->Bool
 | .box _ cs _ _=>cs.all fun c=>match c with| .own i=>asm i n| .fn _ is=>is.all fun i=>asm i n|_=>aqQ
 |_=>aqQ
def Dd (n:Nat) (O:List (aL D)):Nat->List Nat->Bool
 |_,[]=>aqQ
 |j,k::ks=>(if k=1 then (match O[j]? with|some o=>o.live&& !o.kW&&Zn n o|none=>aqT) else aqQ)&&Dd n O (j+1) ks
def Ql (n:Nat) (ks:List Nat) (x:kB D) (E:List (Nat×aQ D)) (O:List (aL D)):Option (kR D x.outs):=
 match qu E x.outs O,Ev E O x.outs with
 |some (bM,bL),aqP aZ=>
  if (sg aZ&&(aZ.all fun i=>art n i||aq9 (ks.getD i 0) 0)&&Dd n bL 0 ks&&x.eG.all fun p=>vi (arI n++aZ) p.2 (eh E p.1))=aqQ then
   match gy X (arI n++aZ) bL x.outs bM aZ with
   |some y=>aqP (HE x.outs y)
   |none=>aqS
  else aqS
 |_,_=>aqS
def zP (n:Nat) (ks:List Nat) (x:kB D) (E:List (Nat×aQ D)) (O:List (aL D)):Option (kR D x.outs):=
 match nQ (js x.outs E O).1 x.outs (js x.outs E O).2 with
 |some bB=>Ql X n ks x (js x.outs E O).1 bB
 |none=>aqS
def ph (n:Nat) (ks:List Nat):(ic:List (kB D))->dX->List (Nat×aQ D)->List (aL D)->Option (q6 ic)
 |[],_,_,_=>aqS
 |[x],e,E,O=>if e=x.ex then zP X n ks x E O else aqS
 |x::y::xs,e,E,O=>if e=x.ex then (match zP X n ks x E O with|some a=>aqP (Sum.inl a)|none=>aqS) else (match ph n ks (y::xs) e E O with|some b=>aqP (Sum.inr b)|none=>aqS)
def iu (bU:Nat->Nat):(aF:List dk)->ez D aF->Nat->aL D
 | .u i c::aF,x,j=>if aq9 i j=aqQ then bA.fa X bU c x.1 aqQ else iu bU aF x.2 j
 | .v _ _::aF,x,j=>iu bU aF x.2 j
 | .o _ _::aF,x,j=>iu bU aF x.2 j
 |[],_,_=> .dead
def vR (n:Nat):Nat:=n
def mC (outs:List dk) (y:ez D outs):Nat->List Nat->List (aL D)->List (aL D)
 |i,k::ks,o::O=>(if k=1 then o else if k=2 then iu X vR outs y i else .dead)::mC outs y (i+1) ks O
 |i,[],o::O=> .dead::mC outs y (i+1) [] O
 |_,_,[]=>[]
def jx (ks:List Nat) (lE:List (aL D)) (outs:List dk) (y:ez D outs):List (aL D):=mC X outs y 0 ks lE++dL X outs y
end
section
variable {P:aqV} {D:Nat->Type} {X:dx P D} {z z':Nat->a6} {e m m':Mem} {k:Option Nat} {vs vs':List aqR} {fr:Nat->aqR} {E:List (Nat×aQ D)} {O bB:List (aL D)}
theorem Zk:∀{aF:List dk} (x:ez D aF),eW aF (HE aF x)=x
 |[],_=>rfl
 |[_],_=>rfl
 |_::j::is,x=>by show (x.1,eW (j::is) (HE (j::is) x.2))=x;rw[Zk (aF:=j::is) x.2];rfl
theorem Cv {n:Nat} {ks:List Nat} {ex:dX}:∀{ic:List (kB D)} {ch:q6 ic},ph X n ks ic ex E O=aqP ch->∃x y,x∈ic/\ex=x.ex/\zP X n ks x E O=aqP y/\∀{ap:Type} (K:(x:kB D)->kR D x.outs->ap),Ex ic ch K=K x y
 |[],_,h=>by cases h
 |[x],ch,h=>by obtain ⟨h1,J⟩:=eV h;exact ⟨x,ch,arn,h1,J,fun _=>rfl⟩
 |x::y::xs,ch,h=>by
  simp only[ph] at h;split at h
  ·rename_i U;split at h
   ·rename_i a au;cases h;exact ⟨x,a,arn,U,au,fun _=>rfl⟩
   ·cases h
  ·split at h
   ·rename_i b aa;cases h;obtain ⟨gX,jd,h1,J,aj,aM⟩:=Cv aa;exact ⟨gX,jd,ard _ h1,J,aj,fun K=>aM K⟩
   ·cases h
theorem Gr {eN:List Nat} {n:Nat}:∀{aF:List dk} {l:List (aQ D)} {aZ:List Nat} {x:ez D aF} {j:Nat},gy X eN O aF l aZ=aqP x->(∀bU,iu X bU aF x j= .dead)\/∃c y o,O[j]? =aqP o/\bA.get X eN c o=aqP y/\∀bU,iu X bU aF x j=bA.fa X bU c y aqQ
 |[],_,_,_,_,_=> .inl fun _=>rfl
 | .v d c::aF,[],_,_,_,h=>by simp[gy] at h
 | .o d c::aF,[],_,_,_,h=>by simp[gy] at h
 | .u d c::aF,[],_,_,_,h=>by simp[gy] at h
 | .v d c::aF,s::l,aZ,x,j,h=>by
  simp only[gy] at h;obtain ⟨_,h⟩:=eV h;split at h
  ·rename_i a b h1 J;cases h;exact Gr (n:=n) (aF:=aF) J
  ·cases h
 | .o d c::aF,s::l,[],x,j,h=>by cases h
 | .o d c::aF,s::l,i::aZ,x,j,h=>by
  simp only[gy] at h;split at h
  ·split at h
   ·rename_i a b h1 J;cases h;exact Gr (n:=n) (aF:=aF) J
   ·cases h
  ·cases h
 | .u d c::aF,s::l,aZ,x,j,h=>by
  simp only[gy] at h;split at h
  ·rename_i o ah;split at h
   ·rename_i a b h1 J;cases h;by_cases aB:aq9 d j=aqQ
    ·have:=aru aB;subst this;refine .inr ⟨c,a,o,ah,h1,fun bU=> ?_⟩;show (if aq9 d d=aqQ then bA.fa X bU c a aqQ else _)=_;rw[if_pos aB]
    ·have aX:∀bU,iu X bU (.u d c::aF) (a,b) j=iu X bU aF b j:=fun bU=>by
      show (if aq9 d j=aqQ then bA.fa X bU c a aqQ else _)=_;rw[if_neg aB]
     simp only[aX];exact Gr (n:=n) (aF:=aF) (j:=j) J
   ·cases h
  ·cases h
def dk.gJ:dk->List Nat
 | .v _ _=>[]
 | .o _ c=>c.gJ
 | .u _ c=>c.gJ
def dk.yT:dk->Bool
 | .v _ c=>c.yT
 |_=>aqQ
theorem sc:∀{aF:List dk} {x:ez D aF} {j:Nat},(∀bU,iu X bU aF x j= .dead)\/∃d c y,dk.u d c∈aF/\∀bU,iu X bU aF x j=bA.fa X bU c y aqQ
 |[],_,_=> .inl fun _=>rfl
 | .v d c::aF,x,j=>by
  rcases sc (aF:=aF) (x:=x.2) (j:=j) with h|⟨d,c,y,h1,J⟩
  ·exact .inl h
  ·exact .inr ⟨d,c,y,ard _ h1,J⟩
 | .o d c::aF,x,j=>by
  rcases sc (aF:=aF) (x:=x.2) (j:=j) with h|⟨d,c,y,h1,J⟩
  ·exact .inl h
  ·exact .inr ⟨d,c,y,ard _ h1,J⟩
 | .u d c::aF,x,j=>by
  by_cases aB:aq9 d j=aqQ
  ·exact .inr ⟨d,c,x.1,arn,fun bU=>if_pos aB⟩
  ·have aX:∀bU,iu X bU (.u d c::aF) x j=iu X bU aF x.2 j:=fun bU=>if_neg aB;simp only[aX];rcases sc (aF:=aF) (x:=x.2) (j:=j) with h|⟨d,c,y,h1,J⟩
   ·exact .inl h
   ·exact .inr ⟨d,c,y,ard _ h1,J⟩
theorem wG:∀{aF:List dk} {x:ez D aF} {o:aL D},o∈dL X aF x->∃d c y,dk.o d c∈aF/\o=bA.mk X c y aqT
 |[],_,_,h=>by simp[dL] at h
 | .v d c::aF,x,o,h=>let ⟨d,c,y,h1,J⟩:=wG (aF:=aF) (x:=x.2) h;⟨d,c,y,ard _ h1,J⟩
 | .u d c::aF,x,o,h=>let ⟨d,c,y,h1,J⟩:=wG (aF:=aF) (x:=x.2) h;⟨d,c,y,ard _ h1,J⟩
 | .o d c::aF,x,o,h=>by
  simp only[dL,aq6] at h;rcases h with rfl|h
  ·exact ⟨d,c,x.1,arn,rfl⟩
  ·obtain ⟨d,c,y,h1,J⟩:=wG (aF:=aF) (x:=x.2) h;exact ⟨d,c,y,ard _ h1,J⟩
theorem zo:∀{aF:List dk} {x:ez D aF} {p:Nat×aQ D},p∈gw X aF x->∃d c y,dk.v d c∈aF/\p.2=e8.mk X c y
 |[],_,_,h=>by simp[gw] at h
 | .o d c::aF,x,o,h=>by obtain ⟨cD,bP,y,h1,J⟩:=zo (aF:=aF) (x:=x.2) h;exact ⟨cD,bP,y,ard _ h1,J⟩
 | .u d c::aF,x,o,h=>by obtain ⟨cD,bP,y,h1,J⟩:=zo (aF:=aF) (x:=x.2) h;exact ⟨cD,bP,y,ard _ h1,J⟩
 | .v d c::aF,x,o,h=>by
  simp only[gw,aq6] at h;rcases h with rfl|h
  ·exact ⟨d,c,x.1,arn,rfl⟩
  ·obtain ⟨cD,bP,y,h1,J⟩:=zo (aF:=aF) (x:=x.2) h;exact ⟨cD,bP,y,ard _ h1,J⟩
theorem mH {outs:List dk} {y:ez D outs}:∀{i:Nat} {ks:List Nat} {O:List (aL D)},(mC X outs y i ks O).length=O.length
 |i,[],[]=>rfl
 |i,_::_,[]=>rfl
 |i,k::ks,o::O=>by simp[mC,mH]
 |i,[],o::O=>by simp[mC,mH]
theorem um {outs:List dk} {y:ez D outs}:∀{i:Nat} {ks:List Nat} {O:List (aL D)} {j:Nat} {o:aL D},O[j]? =aqP o->(mC X outs y i ks O)[j]? =aqP (if ks.getD j 0=1 then o else if ks.getD j 0=2 then iu X vR outs y (i+j) else .dead)
 |i,ks,[],j,o,h=>by simp at h
 |i,k::ks,p::O,0,o,h=>by simp at h;subst h;simp[mC]
 |i,k::ks,p::O,j+1,o,h=>by simp only[asy] at h;have:=um (outs:=outs) (y:=y) (i:=i+1) (ks:=ks) h;simp only[mC,asy,this,aui];rw[arx,Nat.add_comm 1 j]
 |i,[],p::O,0,o,h=>by simp[mC]
 |i,[],p::O,j+1,o,h=>by simp only[asy] at h;have:=um (outs:=outs) (y:=y) (i:=i+1) (ks:=[]) h;simp only[mC,asy,this];simp
theorem agq {n:Nat} {o:aL D} (h:Zn n o=aqQ):∀i,PD i o->i<n:=by
 intro i ae;cases o with
 |box t cs bg w=>
  rcases ae with ae|⟨f,is,ae,hm⟩
  ·have:=aq8.1 h _ ae;simpa[atl] using this
  ·have:=aq8.1 h _ ae;have:=aq8.1 this _ hm;simpa[atl] using this
 |_=>exact ae.elim
theorem Xw {n:Nat}:∀{ks:List Nat} {i j:Nat},Dd n O i ks=aqQ->ks.getD j 0=1->∃o,O[i+j]? =aqP o/\o.live=aqQ/\o.kW=aqT/\∀i,PD i o->i<n
 |[],i,j,_,h=>by simp at h
 |k::ks,i,0,hk,h=>by
  simp only[Dd,aq5] at hk;simp at h;subst h;have h1:=hk.1;rw[if_pos rfl] at h1;split at h1
  ·rename_i o ah;simp only[aq5,ar'] at h1;exact ⟨o,ah,h1.1.1,h1.1.2,agq h1.2⟩
  ·cases h1
 |k::ks,i,j+1,hk,h=>by simp only[Dd,aq5] at hk;simp only[aui] at h;obtain ⟨o,h1,J⟩:=Xw hk.2 h;exact ⟨o,by rw[<-h1];congr 1;omega,J⟩
theorem agj {ins:List dk} {ks:List Nat} {x:ez D ins} {cL:kB D} {y:kR D cL.outs} {b6:List aqR} (ae:Inv (dL X ins x) O) (ad:∀(i:Nat) (u:aqR),b6[i]? =aqP u->vs[i]? =aqP u) (fi:b6.length=(dL X ins x).length)
  (av:bo X.G O z e m k vs) (aT:eC X z vs E fr) (h:Ql X b6.length ks cL E O=aqP y):
  ∃z' dd,cR e.next z z'/\bo X.G (jx X ks (dL X ins x) cL.outs (eW _ y)) z' e m k (b6++dd)/\∀p∈gw X cL.outs (eW _ y)++cL.eG,rel X.G z' (b6++dd) p.2 (fr p.1):=by
 unfold Ql at h;split at h
 ·rename_i bM bL aZ aP au;split at h
  ·rename_i ab;simp only[aq5] at ab;obtain ⟨⟨⟨c1,c2⟩,ry⟩,qq⟩:=ab;split at h
   ·rename_i jd aa;cases h;rw[Zk];obtain ⟨cq,g0,g1,g2,g3⟩:=wz av aT aP;have wa:=Ds aa;have hd:=ae.trans g0;have Fq:∀(j i:Nat),aZ[j]? =aqP i->∃u,(aZ.map fun i=>vs.getD i undef)[j]? =aqP u/\vs[i]? =aqP u:=by
     intro j i ar;obtain ⟨q,_,o,ah,_⟩:=wa.get j i ar;obtain ⟨v,ad,_⟩:=g2.at ah;exact ⟨v,by rw[arB,ar];simp[ad],ad⟩
    have hlen:(dL X cL.outs jd).length=aZ.length:=by rw[kU,arN];exact wa.length.symm
    have fO:∀(j:Nat) (o:aL D),(jx X ks (dL X ins x) cL.outs jd)[j]? =aqP o->
      (j<b6.length/\∃kQ,(dL X ins x)[j]? =aqP kQ/\o=(if ks.getD j 0=1 then kQ else if ks.getD j 0=2 then iu X vR cL.outs jd j else .dead))\/
      (b6.length<=j/\(dL X cL.outs jd)[j - b6.length]? =aqP o):=by
     intro j o ar;unfold jx at ar;by_cases aN:j<b6.length
     ·refine .inl ⟨aN, ?_⟩;rw[arf (by rw[mH];omega)] at ar;have az:(dL X ins x)[j]? =aqP ((dL X ins x)[j]'(by omega)):=ars (by omega);have:=um (X:=X) (outs:=cL.outs) (y:=jd) (i:=0) (ks:=ks) az;rw[ar] at this;refine ⟨_,az, ?_⟩;have:=ark.inj this;rw[ara] at this;exact this
     ·refine .inr ⟨by omega, ?_⟩;rw[are (by rw[mH];omega),mH,<-fi] at ar;exact ar
    have yx:∀(j:Nat) (u:aqR),j<b6.length->vs[j]? =aqP u->(b6++aZ.map fun i=>vs.getD i undef)[j]? =aqP u:=by intro j u ar hu;rw[arf ar];have:b6[j]? =aqP b6[j]:=ars ar;have:=ad j _ this;rw[hu] at this;cases this;exact ars ar
    have nW:∀(n i:Nat) (u:aqR),(arI b6.length++aZ)[n]? =aqP i->vs[i]? =aqP u->(b6++aZ.map fun i=>vs.getD i undef)[n]? =aqP u:=by
     intro n i u aq hu;by_cases aN:n<b6.length
     ·rw[arf (by simpa using aN),as2 aN] at aq;cases aq;exact yx n u aN hu
     ·rw[are (by simpa using aN),atN] at aq;obtain ⟨l4,h1,J⟩:=Fq _ _ aq;rw[hu] at J;cases J;rw[are (by omega)];exact h1
    refine ⟨cq,aZ.map fun i=>vs.getD i undef,g1, ?_, ?_⟩
    ·refine g2.DB ?_ (fun j=>if j<b6.length then j else aZ.getD (j - b6.length) 0) (fun j o ar ai=> ?_) (fun j o u ar ai hu=> ?_) (fun i j o p dY ar Mc Fm cW=> ?_)
     ·unfold jx;rw[ari,ari,mH,hlen,arN,fi]
     ·rcases fO j o ar with ⟨aN,kQ,qE,ah⟩|⟨e4,ah⟩
      ·simp only[if_pos aN];by_cases bt:ks.getD j 0=1
       ·rw[if_pos bt] at ah;subst ah;obtain ⟨p,dm,ei,gb,hi⟩:=Xw ry bt;rw[ara] at dm;have:=hd.dg j p (by omega) dm ei gb;rw[qE] at this;cases this;obtain ⟨v,v1,v2⟩:=g2.at dm;obtain ⟨_,c,w,_,rfl⟩:=wG (aq7 qE);exact ⟨_,v,dm,ei,v1,yx j v aN v1,bA.Vc aqT v2 fun n _ ah u hu=>yx n u (hi n ah) hu⟩
       ·rw[if_neg bt] at ah;by_cases bE:ks.getD j 0=2
        ·rw[if_pos bE] at ah;rcases Gr (n:=0) (j:=j) aa with aB|⟨c,w,p,dm,ei,gb⟩
         ·rw[ah,aB] at ai;cases ai
         ·obtain ⟨v,v1,v2⟩:=g2.at dm;refine ⟨p,v,dm,bA.Lq ei,v1,yx j v aN v1, ?_⟩;rw[ah,gb];exact bA.Bc ei v2 nW aqQ
        ·rw[if_neg bE] at ah;rw[ah] at ai;cases ai
      ·have aq:¬j<b6.length:=by omega
       simp only[if_neg aq];have aN:=(aqZ.1 ah).1;have az:aZ[j - b6.length]? =aqP (aZ[j - b6.length]'(by omega)):=ars (by omega);obtain ⟨q,b5,p,dm,ei⟩:=wa.get _ _ az;rw[kU,arB,b5] at ah;have ah:=(ark.inj ah).symm;subst ah;obtain ⟨u,xn,DE⟩:=Fq _ _ az;obtain ⟨v,v1,v2⟩:=g2.at dm;rw[DE] at v1;cases v1;have aB:aZ.getD (j - b6.length) 0=aZ[j - b6.length]'(by omega):=by simp[arW,az]
       refine ⟨p,u,by rw[aB];exact dm,bA.Lq ei,by rw[aB];exact DE, ?_, ?_⟩
       ·rw[are e4];exact xn
       ·exact bA.Bc ei v2 nW aqT
     ·rcases fO j o ar with ⟨aN,kQ,qE,ah⟩|⟨e4,ah⟩
      ·by_cases bt:ks.getD j 0=1
       ·rw[if_pos bt] at ah;subst ah;obtain ⟨_,c,w,_,rfl⟩:=wG (aq7 qE);rw[bA.tR] at ai;cases ai
       ·rw[if_neg bt] at ah;by_cases bE:ks.getD j 0=2
        ·rw[if_pos bE] at ah;rcases sc (X:=X) (aF:=cL.outs) (x:=jd) (j:=j) with aB|⟨_,c,w,_,aB⟩
         ·rw[ah,aB];trivial
         ·rw[ah,aB,bA.rY] at ai;cases ai
        ·rw[if_neg bE] at ah;rw[ah];trivial
      ·obtain ⟨_,c,w,_,rfl⟩:=wG (aq7 ah);rw[bA.tR] at ai;cases ai
     ·have dead:∀(i j:Nat) (o p:aL D),i<b6.length->b6.length<=j->(jx X ks (dL X ins x) cL.outs jd)[i]? =aqP o->(jx X ks (dL X ins x) cL.outs jd)[j]? =aqP p->o.live=aqQ->i=aZ.getD (j - b6.length) 0->False:=by
       intro i j o p hs ys ah an eZ cW;rcases fO j p an with ⟨aN,_⟩|⟨_,mv⟩
       ·omega
       ·have aN:=(aqZ.1 mv).1;have az:aZ[j - b6.length]? =aqP (aZ[j - b6.length]'(by omega)):=ars (by omega);have aB:aZ.getD (j - b6.length) 0=aZ[j - b6.length]'(by omega):=by simp[arW,az]
        have hm:i∈aZ:=by rw[cW,aB];exact List.getElem_mem _
        have:=aq8.1 c2 i hm;simp only[ar1] at this;have k7:ks.getD i 0=0:=by
         rcases this with h1|h1
         ·have:=asa h1;omega
         ·exact aru h1
        rcases fO i o ah with ⟨_,kQ,_,ig⟩|⟨e4,_⟩
        ·rw[k7] at ig;simp at ig;rw[ig] at eZ;cases eZ
        ·omega
      by_cases h1:i<b6.length
      ·by_cases J:j<b6.length
       ·simpa[h1,J] using cW
       ·simp only[if_pos h1,if_neg J] at cW;exact (dead i j o p h1 (by omega) dY ar Mc cW).elim
      ·by_cases J:j<b6.length
       ·simp only[if_neg h1,if_pos J] at cW;exact (dead j i p o J (by omega) ar dY Fm cW.symm).elim
       ·simp only[if_neg h1,if_neg J] at cW;rcases fO i o dY with ⟨aN,_⟩|⟨_,hs⟩
        ·omega
        ·rcases fO j p ar with ⟨aN,_⟩|⟨_,ys⟩
         ·omega
         ·have ap5:=(aqZ.1 hs).1;have Uw:=(aqZ.1 ys).1;have s1:aZ[i - b6.length]? =aqP (aZ.getD (i - b6.length) 0):=by rw[ars (by omega)];simp[arW,ars (show i - b6.length<aZ.length by omega)]
          have s2:aZ[j - b6.length]? =aqP (aZ.getD (j - b6.length) 0):=by rw[ars (by omega)];simp[arW,ars (show j - b6.length<aZ.length by omega)]
          rw[cW] at s1;have:=ND c1 _ _ _ s1 s2;omega
    ·intro p an;rcases arc.1 an with an|an
     ·refine zB (fun j i u ar hu=> ?_) aa g3 p an;by_cases aN:j<b6.length
      ·rw[arf (by simpa using aN)] at ar;rw[as2 aN] at ar;cases ar;exact yx j u aN hu
      ·rw[are (by simpa using aN)] at ar;rw[atN] at ar;obtain ⟨l4,h1,J⟩:=Fq _ _ ar;rw[hu] at J;cases J;show (b6++_)[j]? =_;rw[are (by omega)];exact h1
     ·have ao:=aq8.1 qq p an;have:=O9 (X:=X) (z:=cq) (vs:=vs) (vs':=b6++aZ.map fun i=>vs.getD i undef) id ao ((aT.mono g1.le fun _ _ h=>h) p.1) fun j i u ar hu=>by
       by_cases aN:j<b6.length
       ·rw[arf (by simpa using aN)] at ar;rw[as2 aN] at ar;cases ar;exact yx j u aN hu
       ·rw[are (by simpa using aN)] at ar;rw[atN] at ar;obtain ⟨l4,h1,J⟩:=Fq _ _ ar;rw[hu] at J;cases J;show (b6++_)[j]? =_;rw[are (by omega)];exact h1
      rwa [Hc] at this
   ·cases h
  ·cases h
 ·cases h
theorem CN {ins:List dk} {ks:List Nat} {x:ez D ins} {cL:kB D} {y:kR D cL.outs} {b6:List aqR} (ae:Inv (dL X ins x) O) (ad:∀(i:Nat) (u:aqR),b6[i]? =aqP u->vs[i]? =aqP u) (fi:b6.length=(dL X ins x).length)
  (av:bo X.G O z e m k vs) (aT:eC X z vs E fr) (h:zP X b6.length ks cL E O=aqP y):
  ∃z' dd,cR e.next z z'/\bo X.G (jx X ks (dL X ins x) cL.outs (eW _ y)) z' e m k (b6++dd)/\∀p∈gw X cL.outs (eW _ y)++cL.eG,rel X.G z' (b6++dd) p.2 (fr p.1):=by
 obtain ⟨vs',g1,g2,g3,g4⟩:=lq (aF:=cL.outs) av aT;unfold zP at h;split at h
 ·rename_i lE aP;obtain ⟨cq,iP,bt,bE⟩:=zi g3 aP;obtain ⟨z2,dd,iQ,b5,cd⟩:=agj ((ae.trans g1).trans iP) (fun i u hu=>g2 i u (ad i u hu)) fi bE (g4.mono bt.le fun _ _ h=>h) h;exact ⟨z2,dd,bt.trans iQ,b5,cd⟩
 ·cases h
end
end
end Go.aS
end
section
namespace Go.aS
structure gh (D:Nat->Type) where
 path:List Nat
 ins:List dk
 eG:List (Nat×aQ D)
 ks:List Nat
 ic:List (kB D)
 keep:List Nat
noncomputable section
section
variable {P:aqV} {D:Nat->Type}
def gh.F (p:gh D):Type:=ez D p.ins->Option (q6 p.ic)
def fb:List dk->Nat
 |[]=>0
 | .o _ _::aF=>fb aF+1
 |_::aF=>fb aF
def sm:aQ D->Bool
 | .c (.own _)| .box _ _| .eY _| .c .fv| .c .yU| .c .oa| .undef| .un| .c (.int _ _)| .c (.bool _)| .fn _ []=>aqQ
 |_=>aqT
def Dy:aQ D->Option Nat
 | .c (.own j)| .box j _| .eY j=>aqP j
 |_=>aqS
def ES (n:Nat) (ks:List Nat) (s:aQ D):Bool:=sm s&&match Dy s with|some j=>art n j|| !Nat.beq (ks.getD j 0) 0|none=>aqQ
def p9:List Nat->Nat->Option Nat
 |[],_=>aqS
 |a::aZ,i=>if aq9 a i=aqQ then aqP 0 else (match p9 aZ i with|some j=>aqP (j+1)|none=>aqS)
variable (X:dx P D)
def q0 (bU:Nat->Nat) (aZ ks:List Nat) (outs:List dk) (y:ez D outs):Nat->List (aL D)->List (aL D)
 |_,[]=>[]
 |i,o::O=>(match p9 aZ i with|some j=>(if ks.getD j 0=1 then o else if ks.getD j 0=2 then iu X bU outs y j else .dead)|none=>if o.live=aqQ then .dead else o)::q0 bU aZ ks outs y (i+1) O
def mkOr (bU:Nat->Nat):(aF:List dk)->ez D aF->List (aL D)
 |[],_=>[]
 | .o _ c::aF,x=>bA.fa X bU c x.1 aqT::mkOr bU aF x.2
 | .v _ _::aF,x=>mkOr bU aF x.2
 | .u _ _::aF,x=>mkOr bU aF x.2
def num (aZ:List Nat) (n N:Nat) (j:Nat):Nat:=if asm j n=aqQ then aZ.getD j 0 else N+(j - n)
def AW (p:gh D) (aZ:List Nat) (N:Nat) (cL:kB D) (y:ez D cL.outs) (E:List (Nat×aQ D)):List (Nat×aQ D):=
 gw X cL.outs y++((cL.eG.map fun q=>(q.1,xj (num aZ (fb p.ins) N) q.2))++p.keep.map fun d=>(d,eh E d))
def qo (p:gh D) (aZ:List Nat) (cU:List (aL D)) (cL:kB D) (y:ez D cL.outs):List (aL D):=q0 X (num aZ (fb p.ins) cU.length) aZ p.ks cL.outs y 0 cU++mkOr X (num aZ (fb p.ins) cU.length) cL.outs y
def gh.zT (p:gh D) (F:p.F) (E:List (Nat×aQ D)) (O:List (aL D)) {af:Type} (K:dX->List (Nat×aQ D)->List (aL D)->Option af):Option af:=
 match q3 X p.ins p.eG E O with
 |some (x,aZ,cU)=>aqU (F x) fun ch=>Ex p.ic ch fun cL y=>K cL.ex (AW X p aZ cU.length cL (eW _ y) E) (qo X p aZ cU cL (eW _ y))
 |none=>aqS
def gh.run (p:gh D) (F:p.F) (E:List (Nat×aQ D)) (O:List (aL D)) {af:Type} (K:dX->List (Nat×aQ D)->List (aL D)->Option af):Option af:=p.zT X F (js p.ins E O).1 (js p.ins E O).2 K
def gh.yY (p:gh D) (F:p.F):kZ D where
 path:=p.path
 fits:=fun E O=>(q3 X p.ins p.eG (js p.ins E O).1 (js p.ins E O).2).isSome
 run:=fun E O {_} K=>p.run X F E O K
def FV (n:Nat) (ks:List Nat) (r:Nat):Bool:=art n r|| !Nat.beq (ks.getD r 0) 0
def zn (n:Nat) (ks:List Nat):Nat->List dk->Bool
 |_,[]=>aqQ
 |j, .o _ c::aF=>(!Nat.beq (ks.getD j 0) 1||c.gJ.all (FV n ks))&&zn n ks (j+1) aF
 |j,_::aF=>zn n ks j aF
def gh.oH (B:Code) (p:gh D):Bool:=((p.ic.all fun cL=>cL.outs.all fun i=>i.yT&&i.gJ.all (FV (fb p.ins) p.ks))&&zn (fb p.ins) p.ks 0 p.ins)&&(p.ic.all (fun cL=>cL.eG.all fun q=>ES (fb p.ins) p.ks q.2)&&p.keep.all fun d=> !(jv (sub B p.path)).contains d)
def yO:Nat->List Nat->List Nat->List (aL D)->Bool
 |_,[],_,_=>aqQ
 |j,k::ks,aZ,O=>(if k=0 then aqQ else o3 (aZ[j]?) j&&(if k=1 then (match O[j]? with|some o=> !o.kW|none=>aqT) else aqQ))&&yO (j+1) ks aZ O
def YZ (p:gh D) (F:p.F) (ex:dX) (E:List (Nat×aQ D)) (O:List (aL D)):Option (q6 p.ic):=
 if ex= .normal then
  match q3 X p.ins p.eG (js p.ins E O).1 (js p.ins E O).2 with
  |some (x,aZ,cU)=>if yO 0 p.ks aZ cU=aqQ then F x else aqS
  |none=>aqS
 else ph X (fb p.ins) p.ks p.ic ex E O
end
section
variable {P:aqV} {D:Nat->Type} {X:dx P D} {z z':Nat->a6} {e m m':Mem} {k:Option Nat} {vs vs':List aqR} {fr:Nat->aqR} {E:List (Nat×aQ D)} {O bB:List (aL D)}
theorem Yt {n:Nat} {ks:List Nat} {r:Nat} (h:FV n ks r=aqQ):n<=r\/ks.getD r 0≠0:=by
 simp only[FV,ar1,ar'] at h;rcases h with h|h
 ·exact .inl (asa h)
 ·refine .inr fun ax=> ?_;rw[ax] at h;cases h
theorem Ct {n:Nat} {ks:List Nat}:∀{aF:List dk} {x:ez D aF} {i j:Nat} {q:xO D},zn n ks i aF=aqQ->(cos aF x)[j]? =aqP q->ks.getD (i+j) 0=1->∀r∈q.c.gJ,n<=r\/ks.getD r 0≠0
 |[],_,_,_,_,_,h,_=>by simp[cos] at h
 | .v d c::aF,x,i,j,q,hk,h,h1=>Ct (aF:=aF) (x:=x.2) hk h h1
 | .u d c::aF,x,i,j,q,hk,h,h1=>Ct (aF:=aF) (x:=x.2) hk h h1
 | .o d c::aF,x,i,0,q,hk,h,h1=>by simp only[cos,List.getElem?_cons_zero] at h;cases h;simp only[zn,aq5] at hk;intro r aw;have J:=hk.1;rw[arC] at h1;rw[h1] at J;exact Yt (aq8.1 (by simpa using J) r aw)
 | .o d c::aF,x,i,j+1,q,hk,h,h1=>by simp only[cos,asy] at h;simp only[zn,aq5] at hk;exact Ct (aF:=aF) (x:=x.2) hk.2 h (by rw[<-h1];congr 1;omega)
theorem XG {bU l9:Nat->Nat} {l:List (Nat×Nat)} (h:∀p∈l,bU p.2=l9 p.2):∀{cs:List (bJ D)} {i:Nat},ns bU l i cs=ns l9 l i cs
 |[],_=>rfl
 |c::cs,i=>by
  simp only[ns,XG h (cs:=cs)];congr 1;cases aP:k1 l i with
  |none=>rfl
  |some n=>simp only;rw[h _ (CE aP)]
theorem ahT {bU l9:Nat->Nat} {c:bA} {x:c.ty D} {w:Bool} (h:∀r∈c.gJ,bU r=l9 r):bA.fa X bU c x w=bA.fa X l9 c x w:=by
 cases c with
 |eP t l=>simp only[bA.fa];rw[XG fun p an=>h p.2 (aq'.2 ⟨p,an,rfl⟩)]
 |jY t f is=>simp only[bA.fa];rw[show is.map bU=is.map l9 from List.map_congr_left fun n aq=>h n aq]
 |_=>rfl
theorem tX {bU:Nat->Nat}:∀{aF:List dk} {x:ez D aF},mkOr X bU aF x=(cos aF x).map fun q=>bA.fa X bU q.c q.x aqT
 |[],_=>rfl
 | .o d c::aF,x=>by show bA.fa X bU c x.1 aqT::mkOr X bU aF x.2=bA.fa X bU c x.1 aqT::(cos aF x.2).map _;rw[tX]
 | .v d c::aF,x=>tX (aF:=aF)
 | .u d c::aF,x=>tX (aF:=aF)
theorem ju:∀{aF:List dk} {x:ez D aF},(dL X aF x).length=fb aF
 |[],_=>rfl
 | .v _ _::aF,x=>ju (aF:=aF)
 | .u _ _::aF,x=>ju (aF:=aF)
 | .o _ _::aF,x=>by show ((dL X aF x.2).length+1)=fb aF+1;rw[ju]
def PE (X:dx P D) (p:gh D) (x:ez D p.ins) (ch:q6 p.ic) (z:Nat->a6) (e:Mem) (k:Option Nat) (b6:List aqR) (ex:dX) (fr':Nat->aqR) (m':Mem):Prop:=
 ∃z' dd cL y,cL∈p.ic/\ex=cL.ex/\(∀{ap:Type} (K:(x:kB D)->kR D x.outs->ap),Ex p.ic ch K=K cL y)/\cR e.next z z'/\
  bo X.G (jx X p.ks (dL X p.ins x) cL.outs (eW _ y)) z' e m' k (b6++dd)/\∀q∈gw X cL.outs (eW _ y)++cL.eG,rel X.G z' (b6++dd) q.2 (fr' q.1)
def re (ql:dX->dX) (X:dx P D) (B:Code) (p:gh D) (F:p.F):Prop:=∀(x:ez D p.ins) (ch:q6 p.ic) {z:Nat->a6} {e m:Mem} {k:Option Nat} {b6:List aqR} {fr:Nat->aqR},
 F x=aqP ch->bo X.G (dL X p.ins x) z e m k b6->eC X z b6 (gw X p.ins x++p.eG) fr->W P (sub B p.path) (fun ex=>PE X p x ch z e k b6 (ql ex)) fr m
def nI (X:dx P D) (B:Code) (p:gh D) (F:p.F):Prop:=∀(x:ez D p.ins) (ch:q6 p.ic) {z:Nat->a6} {e m:Mem} {k:Option Nat} {b6:List aqR} {fr:Nat->aqR},
 F x=aqP ch->bo X.G (dL X p.ins x) z e m k b6->eC X z b6 (gw X p.ins x++p.eG) fr->W P (sub B p.path) (PE X p x ch z e k b6) fr m
theorem re.of {ql:dX->dX} (bO:fQ X) {B:Code} {us:List (kZ D)} {p:gh D} {F:p.F} (rT:∀u∈us,p.path.length<u.path.length->px X B u)
  (dn:∀x,hT X us calm aqQ p.path.reverse (sub B p.path) (gw X p.ins x++p.eG) (dL X p.ins x) (fun ex=>ph X (fb p.ins) p.ks p.ic (ql ex))=F x):re ql X B p F:=by
 intro x ch z e m k b6 fr cG av aT;have h:=dn x;rw[cG] at h;have aq:b6.length=fb p.ins:=by rw[av.len,ju]
 refine (zv bO (L:=p.path.length) rT (sub B p.path) aqQ p.path.reverse _ _ _ ch (by rw[auj]) (by simp) (by simp) av aT h).mono ?_;rintro ex eU m1 ⟨cq,iS,jA,bL,aI,h1,J,aj,aM,br⟩;obtain ⟨cL,y,g1,g2,g3,g4⟩:=Cv br;obtain ⟨z2,dd,bt,bE,cM⟩:=CN (ks:=p.ks) (x:=x) aI J av.len aj aM (by rw[aq];exact g3);exact ⟨z2,dd,cL,y,g1,g2,g4,h1.trans bt,bE,cM⟩
theorem nI.of (bO:fQ X) {B:Code} {us:List (kZ D)} {p:gh D} {F:p.F} (rT:∀u∈us,p.path.length<u.path.length->px X B u)
  (dn:∀x,hT X us calm aqQ p.path.reverse (sub B p.path) (gw X p.ins x++p.eG) (dL X p.ins x) (ph X (fb p.ins) p.ks p.ic)=F x):nI X B p F:=by
 intro x ch z e m k b6 fr cG av aT;have h:=dn x;rw[cG] at h;have aq:b6.length=fb p.ins:=by rw[av.len,ju]
 refine (zv bO (L:=p.path.length) rT (sub B p.path) aqQ p.path.reverse _ _ _ ch (by rw[auj]) (by simp) (by simp) av aT h).mono ?_;rintro ex eU m1 ⟨cq,iS,jA,bL,aI,h1,J,aj,aM,br⟩;obtain ⟨cL,y,g1,g2,g3,g4⟩:=Cv br;obtain ⟨z2,dd,bt,bE,cM⟩:=CN (ks:=p.ks) (x:=x) aI J av.len aj aM (by rw[aq];exact g3);exact ⟨z2,dd,cL,y,g1,g2,g4,h1.trans bt,bE,cM⟩
theorem PR {s:aQ D} {v:aqR} {bU:Nat->Nat} (h:sm s=aqQ) (aw:rel X.G z vs s v) (ad:∀(j:Nat) (u:aqR),Dy s=aqP j->vs[j]? =aqP u->vs'[bU j]? =aqP u):rel X.G z vs' (xj bU s) v:=by
 unfold sm at h;split at h
 ·exact ⟨ad _ _ rfl aw.1,aw.2⟩
 ·obtain ⟨b,h1,J⟩:=aw;exact ⟨b,ad _ _ rfl h1,J⟩
 ·obtain ⟨b,l,h1,J⟩:=aw;exact ⟨b,l,ad _ _ rfl h1,J⟩
 ·exact aw
 ·exact aw
 ·exact aw
 ·exact aw
 ·exact aw
 ·exact aw
 ·exact aw
 ·obtain ⟨gs,h1,J⟩:=aw;refine ⟨gs,h1, ?_⟩;cases gs with
  |nil=>trivial
  |cons _ _=>exact J.elim
 ·cases h
theorem XL {n:Nat} {ks:List Nat} {s:aQ D} (h:ES n ks s=aqQ):sm s=aqQ/\∀j,Dy s=aqP j->n<=j\/ks.getD j 0≠0:=by
 simp only[ES,aq5] at h;refine ⟨h.1,fun j ar=> ?_⟩;have J:=h.2;rw[ar] at J;simp only[ar1,ar'] at J;rcases J with J|J
 ·exact .inl (asa J)
 ·refine .inr fun ax=> ?_;rw[ax] at J;cases J
theorem G6:∀{ks:List Nat} {i j:Nat} {aZ:List Nat},yO i ks aZ O=aqQ->ks.getD j 0≠0->aZ[i+j]? =aqP (i+j)/\(ks.getD j 0=1->∃o,O[i+j]? =aqP o/\o.kW=aqT)
 |[],i,j,aZ,_,h=>by simp at h
 |k::ks,i,0,aZ,hk,h=>by
  simp only[yO,aq5] at hk;simp only[List.getD_cons_zero] at h⊢;have h1:=hk.1;rw[if_neg h] at h1;simp only[aq5] at h1;refine ⟨GP h1.1,fun bt=> ?_⟩;have J:=h1.2;rw[if_pos bt] at J;split at J
  ·rename_i o ah;exact ⟨o,ah,by simpa using J⟩
  ·cases J
 |k::ks,i,j+1,aZ,hk,h=>by simp only[yO,aq5] at hk;simp only[aui] at h⊢;have:=G6 hk.2 h;rw[show i+(j+1)=i+1+j by omega];exact this
theorem amy {outs:List dk} {y:ez D outs} {ks:List Nat} {A B:List (aL D)} (ai:A.length=B.length) (h:∀j,ks.getD j 0=1->A[j]? =B[j]?):mC X outs y 0 ks A=mC X outs y 0 ks B:=by
 apply asw;intro j;by_cases ar:j<A.length
 ·have a:A[j]? =aqP A[j]:=ars ar;have b:B[j]? =aqP (B[j]'(by omega)):=ars (by omega);rw[um a,um b];by_cases bt:ks.getD j 0=1
  ·have e:=h j bt;rw[a,b] at e;rw[if_pos bt,if_pos bt,ark.inj e]
  ·rw[if_neg bt,if_neg bt]
 ·rw[asP (by rw[mH];omega),asP (by rw[mH];omega)]
theorem nI.loop (bO:fQ X) {B c:Code} {us:List (kZ D)} {p:gh D} {F:Nat->p.F} (fG:sub B p.path= .loop c) (hk:p.oH B=aqQ) (rT:∀u∈us,p.path.length+1<u.path.length->px X B u) (aI:∀x,F 0 x=aqS)
  (dn:∀n x,hT X us calm aqQ (0::p.path.reverse) c (gw X p.ins x++p.eG) (dL X p.ins x) (YZ X p (F n))=F (n+1) x):∀n,nI X B p (F n):=by
 intro n;induction n with
 |zero=>intro x ch z e m k b6 fr cG;rw[aI] at cG;cases cG
 |succ n a8=>
  intro x ch z e m k b6 fr cG av aT;have h:=dn n x;rw[cG] at h;rw[fG];have aq:b6.length=fb p.ins:=by rw[av.len,ju]
  refine W.ad2 ((zv bO (L:=p.path.length+1) rT c aqQ (0::p.path.reverse) _ _ _ ch (by rw[List.reverse_cons,auj,<-O6,fG];exact o9 c) (by simp) (by simp) av aT h).mono ?_);rintro ex eU m1 ⟨cq,iS,jA,bL,aI,h1,J,aj,aM,br⟩;have other:ph X (fb p.ins) p.ks p.ic ex jA bL=aqP ch->PE X p x ch z e k b6 ex eU m1:=by intro br;obtain ⟨cL,y,g1,g2,g3,g4⟩:=Cv br;obtain ⟨z2,dd,bt,bE,cM⟩:=CN (ks:=p.ks) (x:=x) aI J av.len aj aM (by rw[aq];exact g3);exact ⟨z2,dd,cL,y,g1,g2,g4,h1.trans bt,bE,cM⟩
  cases ex with
  |exit i=>exact other br
  |ret=>exact other br
  |normal=>
   show W P (.loop c) _ eU m1;have br:(match q3 X p.ins p.eG (js p.ins jA bL).1 (js p.ins jA bL).2 with
    |some (x,aZ,cU)=>if yO 0 p.ks aZ cU=aqQ then F n x else aqS
    |none=>aqS)=aqP ch:=br
   split at br
   ·rename_i gX aZ cU aw;obtain ⟨Me,kf⟩:=eV br;obtain ⟨anU,cN,fk,qf,IA⟩:=lq (aF:=p.ins) aj aM;obtain ⟨z2,QA,i1,i2,hS⟩:=entry qf IA aw;have i1:=cN.trans i1;have J:∀(i:Nat) (u:aqR),b6[i]? =aqP u->anU[i]? =aqP u:=fun i u hu=>fk i u (J i u hu);have yr:=a8 gX ch kf hS.Vd hS.ZD;rw[fG] at yr;refine yr.mono ?_;rintro ex fu m2 ⟨z3,dd,cL,y,g1,g2,g3,g4,g5,g6⟩;have same:∀j,p.ks.getD j 0≠0->∀u,QA[j]? =aqP u->b6[j]? =aqP u:=by
     intro j ar u hu;obtain ⟨s1,_⟩:=G6 Me ar;rw[ara] at s1;obtain ⟨l4,t1,t2⟩:=hS.dd _ _ s1;rw[hu] at t1;cases t1;have aN:j<b6.length:=by have:=(aqZ.1 hu).1;rw[hS.len,hS.tT.length,<-arN (f:=fun q=>bA.mk X q.c q.x aqT),<-kU,ju] at this;omega
     have:=J j _ (ars aN);rw[t2] at this;cases this;exact ars aN
    have gl:QA.length=b6.length:=by rw[hS.len,hS.tT.length,<-arN (f:=fun q=>bA.mk X q.c q.x aqT),<-kU,ju,aq]
    have Qm:∀(j:Nat) (u:aqR),fb p.ins<=j\/p.ks.getD j 0≠0->(QA++dd)[j]? =aqP u->(b6++dd)[j]? =aqP u:=by
     intro j u ar hu;by_cases aN:j<b6.length
     ·rw[arf (by omega)] at hu⊢;rcases ar with ar|ar
      ·omega
      ·exact same j ar u hu
     ·rw[are (by omega)] at hu⊢;rw[gl] at hu;exact hu
    have j1:=hk;simp only[gh.oH,aq5] at j1;have Us:=j1.1.1;have yw:=j1.1.2;have acS:mC X cL.outs (eW _ y) 0 p.ks (dL X p.ins gX)=mC X cL.outs (eW _ y) 0 p.ks (dL X p.ins x):=by
     refine amy (by rw[ju,ju]) fun j ar=> ?_;obtain ⟨s1,s2⟩:=G6 Me (show p.ks.getD j 0≠0 by rw[ar];simp);obtain ⟨o,gm,gV⟩:=s2 ar;rw[ara] at s1 gm;obtain ⟨q,b5,w,cd⟩:=hS.tT.get j j s1;rw[gm] at cd;have cd:=ark.inj cd;subst cd;rw[bA.FO] at gV;subst gV;have Cf:(dL X p.ins gX)[j]? =aqP (bA.mk X q.c q.x aqT):=by rw[kU,arB,b5];rfl
     have gj:j<(dL X p.ins x).length:=by rw[ju,<-ju (X:=X) (x:=gX)];exact (aqZ.1 Cf).1
     have dg:=(aI.trans i1).dg j _ gj gm bA.rY bA.FO;rw[Cf,dg];refine congrArg aqP (ahT fun r aw=> ?_);obtain ⟨adL,Bx⟩:=hS.gt q (aq7 b5) r aw;have yD:r<fb p.ins:=by have:=(aqZ.1 Bx).1;rw[hS.tT.length,<-arN (f:=fun q=>bA.mk X q.c q.x aqT),<-kU,ju] at this;exact this
     rcases Ct (i:=0) yw b5 (by rw[ara];exact ar) r aw with h|h
     ·omega
     ·obtain ⟨j9,_⟩:=G6 Me h;rw[ara] at j9;simp[arW,j9]
    have ab0:∀q∈cL.eG,ES (fb p.ins) p.ks q.2=aqQ:=by exact fun q aK=>aq8.1 (aq8.1 j1.2.1 cL g1) q aK
    have lQ:∀i∈cL.outs,∀r∈i.gJ,fb p.ins<=r\/p.ks.getD r 0≠0:=fun i ae r aw=>Yt (aq8.1 (asX.1 (aq8.1 (aq8.1 Us cL g1) i ae)).2 r aw);refine ⟨z3,dd,cL,y,g1,g2,g3,(h1.trans i2).trans g4, ?_,fun q aK=> ?_⟩
    ·have vG:jx X p.ks (dL X p.ins gX) cL.outs (eW _ y)=jx X p.ks (dL X p.ins x) cL.outs (eW _ y):=by rw[jx,jx,acS]
     rw[vG] at g5;have key:∀(i:Nat) (o:aL D),(jx X p.ks (dL X p.ins x) cL.outs (eW _ y))[i]? =aqP o->o.live=aqQ->(fb p.ins<=i\/p.ks.getD i 0≠0):=by
      intro i o ah ai;by_cases aN:i<fb p.ins
      ·refine .inr fun k7=> ?_;unfold jx at ah;rw[arf (by rw[mH,ju];exact aN)] at ah;have az:(dL X p.ins x)[i]? =aqP ((dL X p.ins x)[i]'(by rw[ju];exact aN)):=ars _;rw[um az,k7] at ah;simp at ah;subst ah;cases ai
      ·exact .inl (by omega)
     have mk:∀(i:Nat) (o:aL D),(jx X p.ks (dL X p.ins x) cL.outs (eW _ y))[i]? =aqP o->o= .dead\/∃c a w,o=bA.mk X c a w/\∀r∈c.gJ,fb p.ins<=r\/p.ks.getD r 0≠0:=by
      intro i o ah;unfold jx at ah;by_cases aN:i<fb p.ins
      ·rw[arf (by rw[mH,ju];exact aN)] at ah;have az:(dL X p.ins x)[i]? =aqP ((dL X p.ins x)[i]'(by rw[ju];exact aN)):=ars _;rw[um az] at ah;have ah:=(ark.inj ah).symm;by_cases bt:p.ks.getD i 0=1
       ·rw[if_pos bt] at ah;have j3:(dL X p.ins x)[i]? =aqP o:=by rw[ah];exact az
        rw[kU,arB] at j3;obtain ⟨q,aK,he⟩:=atk.1 j3;exact .inr ⟨q.c,q.x,aqT,he.symm,Ct (i:=0) yw aK (by rw[ara];exact bt)⟩
       ·rw[if_neg bt] at ah;by_cases bE:p.ks.getD i 0=2
        ·rw[if_pos bE] at ah;rcases sc (X:=X) (aF:=cL.outs) (x:=eW _ y) (j:=0+i) with aB|⟨d,c,a,aB,he⟩
         ·exact .inl (by rw[ah,aB])
         ·exact .inr ⟨c,a,aqQ,by rw[ah,he];rfl,lQ _ aB⟩
        ·rw[if_neg bE] at ah;exact .inl ah
      ·rw[are (by rw[mH,ju];omega)] at ah;obtain ⟨d,c,a,aB,ax⟩:=wG (aq7 ah);exact .inr ⟨c,a,aqT,ax,lQ _ aB⟩
     refine g5.DB (by rw[<-g5.len];simp[gl]) id (fun i o ah ai=> ?_) (fun i o u ah ai hu=> ?_) (fun i j _ _ _ _ _ _ h=>h)
     ·obtain ⟨v,v1,v2⟩:=g5.at ah;refine ⟨o,v,ah,ai,v1,Qm i v (key i o ah ai) v1, ?_⟩;rcases mk i o ah with rfl|⟨c,a,w,rfl,aw⟩
      ·trivial
      ·exact bA.yP w v2 fun r ng u hu=>Qm r u (aw r ng) hu
     ·rcases mk i o ah with rfl|⟨c,a,w,rfl,_⟩
      ·trivial
      ·rw[bA.tR] at ai;cases ai
    ·have aw:=g6 q aK;rcases arc.1 aK with aK|aK
     ·obtain ⟨d,c,a,aB,ab⟩:=zo aK;rw[ab] at aw⊢;exact e8.MW (asX.1 (aq8.1 (aq8.1 Us cL g1) _ aB)).1 aw
     ·obtain ⟨s1,s2⟩:=XL (ab0 q aK);have:=PR (X:=X) (bU:=id) (vs':=b6++dd) s1 aw fun j u ar hu=>Qm j u (s2 j ar) hu
      rwa [Hc] at this
   ·cases br
theorem zb:∀{aZ:List Nat} {i j:Nat},p9 aZ i=aqP j->aZ[j]? =aqP i
 |[],_,_,h=>by cases h
 |a::aZ,i,j,h=>by
  simp only[p9] at h;split at h
  ·rename_i au;cases h;rw[aru au];rfl
  ·split at h
   ·rename_i bT ar;cases h;rw[asy];exact zb ar
   ·cases h
theorem y7 {bU:Nat->Nat} {aZ ks:List Nat} {outs:List dk} {y:ez D outs}:∀{i:Nat} {O:List (aL D)},(q0 X bU aZ ks outs y i O).length=O.length
 |i,[]=>rfl
 |i,o::O=>by simp[q0,y7]
theorem WY {bU:Nat->Nat} {aZ ks:List Nat} {outs:List dk} {y:ez D outs}:∀{i:Nat} {O:List (aL D)} {a:Nat} {o:aL D},O[a]? =aqP o->(q0 X bU aZ ks outs y i O)[a]? =aqP (match p9 aZ (i+a) with|some j=>(if ks.getD j 0=1 then o else if ks.getD j 0=2 then iu X bU outs y j else .dead)|none=>if o.live=aqQ then .dead else o)
 |i,[],a,o,h=>by simp at h
 |i,p::O,0,o,h=>by simp at h;subst h;simp[q0]
 |i,p::O,a+1,o,h=>by simp only[asy] at h;have:=WY (bU:=bU) (aZ:=aZ) (ks:=ks) (outs:=outs) (y:=y) (i:=i+1) h;simp only[q0,asy,this];rw[show i+(a+1)=i+1+a by omega]
theorem re.FZ {ql:dX->dX} {B:Code} {p:gh D} {F:p.F} (h:re ql X B p F) (hk:p.oH B=aqQ) {af:Type} (E:List (Nat×aQ D)) (O:List (aL D)) (K:dX->List (Nat×aQ D)->List (aL D)->Option af) (r:af) {z:Nat->a6} {e m:Mem} {k:Option Nat} {vs:List aqR} {fr:Nat->aqR}
  (av:bo X.G O z e m k vs) (aT:eC X z vs E fr) (aw:p.zT X F E O K=aqP r):W P (sub B p.path) (fun x=>hy X O z e k vs (K (ql x)) r) fr m:=by
 unfold gh.zT at aw;split at aw
 ·rename_i x aZ cU ae;obtain ⟨ch,cG,aw⟩:=bind_some aw;obtain ⟨cq,b6,i1,i2,hS⟩:=entry av aT ae;simp only[gh.oH,aq5] at hk;have aq:aZ.length=fb p.ins:=by rw[<-ju (X:=X) (x:=x),kU,arN];exact hS.tT.length
  have tG:b6.length=fb p.ins:=by rw[hS.len,aq]
  refine (h x ch cG hS.Vd hS.ZD).keep ?_;rintro ex eU m1 Fj ⟨z2,dd,cL,y,g1,g2,g3,g4,g5,g6⟩;rw[g3] at aw;rw[g2];have lO:dd.length=(dL X cL.outs (eW _ y)).length:=by have:=g5.len;unfold jx at this;rw[ari,ari,mH,ju] at this;omega
  have bi:vs.length=cU.length:=hS.yQ.len;have yp:∀(i:Nat) (u:aqR),vs[i]? =aqP u->(vs++dd)[i]? =aqP u:=im;have nW:∀(j:Nat) (u:aqR),(b6++dd)[j]? =aqP u->(vs++dd)[num aZ (fb p.ins) cU.length j]? =aqP u:=by
   intro j u hu;unfold num;by_cases aN:j<fb p.ins
   ·have aa:asm j (fb p.ins)=aqQ:=by simpa[atl] using aN
    rw[if_pos aa];rw[arf (by omega)] at hu;have az:aZ[j]? =aqP (aZ.getD j 0):=by rw[ars (by omega)];simp[arW,ars (show j<aZ.length by omega)]
    obtain ⟨l4,t1,t2⟩:=hS.dd _ _ az;rw[hu] at t1;cases t1;exact yp _ _ t2
   ·have aa:¬asm j (fb p.ins)=aqQ:=by simpa[atl] using aN
    rw[if_neg aa];rw[are (by omega),tG] at hu;rw[are (by omega),bi];rw[show cU.length+(j - fb p.ins) - cU.length=j - fb p.ins by omega];exact hu
  have fO:∀(i:Nat) (o:aL D),(qo X p aZ cU cL (eW _ y))[i]? =aqP o->
    (i<cU.length/\∃gV,cU[i]? =aqP gV/\o=(match p9 aZ i with|some j=>(if p.ks.getD j 0=1 then gV else if p.ks.getD j 0=2 then iu X (num aZ (fb p.ins) cU.length) cL.outs (eW _ y) j else .dead)|none=>if gV.live=aqQ then .dead else gV))\/
    (cU.length<=i/\(mkOr X (num aZ (fb p.ins) cU.length) cL.outs (eW _ y))[i - cU.length]? =aqP o):=by
   intro i o ah;unfold qo at ah;by_cases aN:i<cU.length
   ·refine .inl ⟨aN, ?_⟩;rw[arf (by rw[y7];exact aN)] at ah;have az:cU[i]? =aqP cU[i]:=ars aN;rw[WY az,ara] at ah;exact ⟨_,az,(ark.inj ah).symm⟩
   ·refine .inr ⟨by omega, ?_⟩;rw[are (by rw[y7];omega),y7] at ah;exact ah
  have vG:∀(j:Nat) (kQ:aL D),(dL X p.ins x)[j]? =aqP kQ->(jx X p.ks (dL X p.ins x) cL.outs (eW _ y))[j]? =aqP (if p.ks.getD j 0=1 then kQ else if p.ks.getD j 0=2 then iu X vR cL.outs (eW _ y) j else .dead):=by intro j kQ ar;unfold jx;rw[arf (by rw[mH];exact (aqZ.1 ar).1)];have:=um (X:=X) (outs:=cL.outs) (y:=eW _ y) (i:=0) (ks:=p.ks) ar;rw[ara] at this;exact this
  have acT:∀(i:Nat) (o:aL D),(dL X cL.outs (eW _ y))[i]? =aqP o->(jx X p.ks (dL X p.ins x) cL.outs (eW _ y))[fb p.ins+i]? =aqP o:=by intro i o ah;unfold jx;rw[are (by rw[mH,ju];omega),mH,ju,show fb p.ins+i - fb p.ins=i by omega];exact ah
  have kl:∀(i:Nat) (o:aL D),(qo X p aZ cU cL (eW _ y))[i]? =aqP o->o.live=aqQ->
    (∃j,p9 aZ i=aqP j/\((p.ks.getD j 0=1/\cU[i]? =aqP o)\/(p.ks.getD j 0≠1/\p.ks.getD j 0=2/\o=iu X (num aZ (fb p.ins) cU.length) cL.outs (eW _ y) j)))\/(cU.length<=i/\(mkOr X (num aZ (fb p.ins) cU.length) cL.outs (eW _ y))[i - cU.length]? =aqP o):=by
   intro i o ah ai;rcases fO i o ah with ⟨aN,gV,J,aj⟩|h
   ·left;cases an:p9 aZ i with
    |some j=>
     rw[an] at aj;dsimp only at aj;refine ⟨j,rfl, ?_⟩;by_cases bt:p.ks.getD j 0=1
     ·rw[if_pos bt] at aj;exact .inl ⟨bt,by rw[J,aj]⟩
     ·rw[if_neg bt] at aj;by_cases bE:p.ks.getD j 0=2
      ·rw[if_pos bE] at aj;exact .inr ⟨bt,bE,aj⟩
      ·rw[if_neg bE] at aj;rw[aj] at ai;cases ai
    |none=>
     rw[an] at aj;dsimp only at aj;by_cases aM:gV.live=aqQ
     ·rw[if_pos aM] at aj;rw[aj] at ai;cases ai
     ·rw[if_neg aM] at aj;rw[aj] at ai;exact absurd ai aM
   ·exact .inr h
  refine ⟨z2,vs++dd,_,_,i1.trans ?_,i2.trans g4,yp, ?_,C6 ?_,aw⟩
  ·refine ⟨?_,fun i o ae ah ai ao=> ?_⟩
   ·unfold qo;rw[ari,y7];omega
   ·rcases kl i o ah ai with ⟨j,_,h|⟨_,_,h⟩⟩|h
    ·exact h.2
    ·rcases sc (X:=X) (aF:=cL.outs) (x:=eW _ y) (j:=j) with aB|⟨_,c,a,_,aB⟩
     ·rw[h,aB] at ai;cases ai
     ·rw[h,aB,bA.FO] at ao;cases ao
    ·omega
  ·refine g5.DB ?_ (fun i=>if i<cU.length then (p9 aZ i).getD 0 else fb p.ins+(i - cU.length)) (fun i o ah ai=> ?_) (fun i o u ah ai hu=> ?_) (fun i j o q dY ar Mc Fm cW=> ?_)
   ·unfold qo;rw[ari,ari,y7,lO,bi,tX,kU,arN,arN]
   ·rcases kl i o ah ai with ⟨j,an,ab⟩|⟨e4,ab⟩
    ·have az:=zb an;obtain ⟨q,Cf,w,cd⟩:=hS.tT.get j i az;have b5:(dL X p.ins x)[j]? =aqP (bA.mk X q.c q.x aqT):=by rw[kU,arB,Cf];rfl
     obtain ⟨u,t1,t2⟩:=hS.dd _ _ az;have aN:i<cU.length:=(aqZ.1 cd).1;simp only[if_pos aN,an,asg];have rP:=vG j _ b5;have FB:(b6++dd)[j]? =aqP u:=im _ _ t1;rcases ab with ⟨bt,ab⟩|⟨bt,bE,ab⟩
     ·rw[if_pos bt] at rP;rw[cd] at ab;have ab:=ark.inj ab;subst ab;have bW:=g5.obj j _ u rP FB;refine ⟨_,u,rP,bA.tR,FB,yp _ _ t2,bA.yP w bW fun r aw l4 j4=> ?_⟩;obtain ⟨adL,Bx⟩:=hS.gt q (aq7 Cf) r aw;have aco:r<fb p.ins:=by rw[<-aq];exact (aqZ.1 Bx).1
      have:=nW r l4 j4;unfold num at this
      rwa [if_pos (by simpa[atl] using aco)] at this
     ·rw[if_neg bt,if_pos bE] at rP;have bW:=g5.obj j _ u rP FB;rcases sc (X:=X) (aF:=cL.outs) (x:=eW _ y) (j:=j) with aB|⟨_,c,a,_,aB⟩
      ·rw[ab,aB] at ai;cases ai
      ·rw[aB] at bW;refine ⟨_,u,rP,by rw[aB];exact bA.rY,FB,yp _ _ t2, ?_⟩;rw[ab,aB];exact bA.yP aqQ bW fun r _ l4 j4=>nW r l4 j4
    ·have acB:¬i<cU.length:=by omega
     simp only[if_neg acB];rw[tX,arB] at ab;obtain ⟨q,aK,rfl⟩:=atk.1 ab;have rP:=acT (i - cU.length) (bA.mk X q.c q.x aqT) (by rw[kU,arB,aK];rfl);obtain ⟨u,xn,DE⟩:=g5.at rP;refine ⟨_,u,rP,bA.tR,xn, ?_, ?_⟩
     ·rw[are (by omega),tG,show fb p.ins+(i - cU.length) - fb p.ins=i - cU.length by omega] at xn;rw[are (by omega),bi];exact xn
     ·exact bA.yP aqT DE fun r _ l4 j4=>nW r l4 j4
   ·rcases fO i o ah with ⟨aN,gV,J,aj⟩|⟨_,h⟩
    ·cases an:p9 aZ i with
     |some j=>
      rw[an] at aj;dsimp only at aj;have az:=zb an;obtain ⟨q,b5,w,cd⟩:=hS.tT.get j i az;rw[J] at cd;by_cases bt:p.ks.getD j 0=1
      ·rw[if_pos bt] at aj;rw[aj,ark.inj cd,bA.rY] at ai;cases ai
      ·rw[if_neg bt] at aj;by_cases bE:p.ks.getD j 0=2
       ·rw[if_pos bE] at aj;rcases sc (X:=X) (aF:=cL.outs) (x:=eW _ y) (j:=j) with aB|⟨_,c,a,_,aB⟩
        ·rw[aj,aB];trivial
        ·rw[aj,aB,bA.rY] at ai;cases ai
       ·rw[if_neg bE] at aj;rw[aj];trivial
     |none=>
      rw[an] at aj;dsimp only at aj;by_cases aM:gV.live=aqQ
      ·rw[if_pos aM] at aj;rw[aj];trivial
      ·rw[if_neg aM] at aj;subst aj;rw[arf (by omega)] at hu;exact (hS.yQ.obj i o u J hu).frozen ai g4.le yp
    ·rw[tX,arB] at h;obtain ⟨q,aK,rfl⟩:=atk.1 h;rw[bA.rY] at ai;cases ai
   ·have one:∀(i:Nat) (o:aL D),(qo X p aZ cU cL (eW _ y))[i]? =aqP o->o.live=aqQ->(i<cU.length/\∃j,p9 aZ i=aqP j/\j<fb p.ins)\/cU.length<=i:=by
     intro i o ah ai;rcases kl i o ah ai with ⟨j,an,_⟩|⟨e4,_⟩
     ·have az:=zb an;obtain ⟨kQ,b5,w,cd⟩:=hS.tT.get j i az;exact .inl ⟨(aqZ.1 cd).1,j,an,by have:=(aqZ.1 az).1;omega⟩
     ·exact .inr e4
    rcases one i o dY Mc with ⟨c4,a2,a3,a4⟩|c4
    ·rcases one j q ar Fm with ⟨ff,gA,mS,qp⟩|ff
     ·simp only[if_pos c4,if_pos ff,a3,mS,asg] at cW;subst cW;have s1:=zb a3;have s2:=zb mS;rw[s1] at s2;exact ark.inj s2
     ·have aa:¬j<cU.length:=by omega
      simp only[if_pos c4,if_neg aa,a3,asg] at cW;omega
    ·have au:¬i<cU.length:=by omega
     rcases one j q ar Fm with ⟨ff,gA,mS,qp⟩|ff
     ·simp only[if_neg au,if_pos ff,mS,asg] at cW;omega
     ·have aa:¬j<cU.length:=by omega
      simp only[if_neg au,if_neg aa] at cW;omega
  ·intro q aK;unfold AW at aK;rcases arc.1 aK with aK|aK
   ·obtain ⟨d,c,a,aB,ab⟩:=zo aK;have:=g6 q (arc.2 (.inl aK));rw[ab] at this⊢;exact e8.MW (asX.1 (aq8.1 (aq8.1 hk.1.1 cL g1) _ aB)).1 this
   ·rcases arc.1 aK with aK|aK
    ·obtain ⟨iQ,tH,rfl⟩:=aq'.1 aK;have:=g6 iQ (arc.2 (.inr tH));obtain ⟨s1,_⟩:=XL (aq8.1 (aq8.1 hk.2.1 cL g1) iQ tH);exact PR s1 this fun j u _ hu=>nW j u hu
    ·obtain ⟨d,aB,rfl⟩:=aq'.1 aK;have hw:=aq8.1 hk.2.2 d aB;have:=Fj d (by simpa using hw);show rel X.G z2 (vs++dd) (eh E d) (eU d);rw[this];exact rel.mono (aT d) (i2.le.trans g4.le) yp
 ·cases aw
theorem nI.FZ {B:Code} {p:gh D} {F:p.F} (h:nI X B p F) (hk:p.oH B=aqQ) {af:Type} (E:List (Nat×aQ D)) (O:List (aL D)) (K:dX->List (Nat×aQ D)->List (aL D)->Option af) (r:af) {z:Nat->a6} {e m:Mem} {k:Option Nat} {vs:List aqR} {fr:Nat->aqR}
  (av:bo X.G O z e m k vs) (aT:eC X z vs E fr) (aw:p.zT X F E O K=aqP r):W P (sub B p.path) (fun x=>hy X O z e k vs (K x) r) fr m:=
 re.FZ (ql:=id) h hk E O K r av aT aw
theorem re.yY {ql:dX->dX} {B:Code} {p:gh D} {F:p.F} (h:re ql X B p F) (hk:p.oH B=aqQ) {af:Type} (E:List (Nat×aQ D)) (O:List (aL D)) (K:dX->List (Nat×aQ D)->List (aL D)->Option af) (r:af) {z:Nat->a6} {e m:Mem} {k:Option Nat} {vs:List aqR} {fr:Nat->aqR}
  (av:bo X.G O z e m k vs) (aT:eC X z vs E fr) (aw:p.run X F E O K=aqP r):W P (sub B p.path) (fun x=>hy X O z e k vs (K (ql x)) r) fr m:=by
 obtain ⟨vs',g1,g2,g3,g4⟩:=lq (aF:=p.ins) av aT;exact (h.FZ hk _ _ K r g3 g4 aw).mono fun _ _ _ aq=>aq.from g1 (cR.refl z) g2
theorem nI.yY {B:Code} {p:gh D} {F:p.F} (h:nI X B p F) (hk:p.oH B=aqQ):px X B (p.yY X F):=by
 intro af E O K r z e m k vs fr _ av aT aw;obtain ⟨vs',g1,g2,g3,g4⟩:=lq (aF:=p.ins) av aT;exact (h.FZ hk _ _ K r g3 g4 aw).mono fun _ _ _ aq=>aq.from g1 (cR.refl z) g2
end
end
end Go.aS
end
section
namespace Go.aS
structure bY (D:Nat->Type) where
 f:Nat
 np:Nat
 ins:List dk
 eG:List (Nat×aQ D)
 h5:Option (Nat×Nat)
 qb:Nat
 outs:List dk
 lj:List (Nat×aQ D)
 nC:List ResultVar
 flat:Bool
def oE:Nat:=1000000
def ly:Nat->List ResultVar->List Nat
 |_,[]=>[]
 |n, .tmp d::rs=>d::ly (n+1) rs
 |n, .cell _ _::rs=>n::ly (n+1) rs
def bY.ch {D:Nat->Type} (d:bY D):List Nat:=ly oE d.nC
noncomputable section
section
variable {P:aqV} {D:Nat->Type}
def Py (P:aqV) (t:Nat) (a:aQ D) (O:List (aL D)):Option (aQ D):=
 match a with
 | .box i off=>
  match O[i]? with
  |some (.box _ cs _ _)=>pd (P:=P) t cs off aqP
  |some (.recv _ cs _)=>pd (P:=P) t cs off aqP
  |_=>aqS
 |_=>aqS
def xl (P:aqV) (E:List (Nat×aQ D)) (O:List (aL D)):Nat->List ResultVar->Option (List (Nat×aQ D))
 |_,[]=>aqP []
 |n, .tmp d::rs=>if asm d oE=aqQ then xl P E O (n+1) rs else aqS
 |n, .cell a t::rs=>match Py P t (eh E a) O,xl P E O (n+1) rs with|some V,aqP l=>aqP ((n,V)::l)|_,_=>aqS
def sV (D:Nat->Type):Option (Nat×Nat)->Type
 |none=>Unit
 |some p=>D p.2
def bY.F (d:bY D):Type:=sV D d.h5->ez D d.ins->Option (kR D d.outs)
variable (X:dx P D)
def pg:(c:Option (Nat×Nat))->sV D c->List (aL D)
 |none,_=>[]
 |some p,x=>[.recv p.2 (hL X p.2 x) aqT]
def Dw:Option (Nat×Nat)->List (Nat×aQ D)
 |none=>[]
 |some p=>[(p.1, .box 0 0)]
def xi (d:bY D):List Nat:=match d.h5 with|none=>[]|some _=>[d.qb]
def bY.cL (d:bY D):kB D:=⟨.ret,d.outs,d.lj⟩
def ZC (d:bY D) (ex:dX) (E:List (Nat×aQ D)) (O:List (aL D)):Option (kR D d.outs):=
 if ex= .normal\/ex= .ret then aqU (xl P E O oE d.nC) fun l=>zP X (xi d).length (xi d) d.cL (l++E) O else aqS
def kV:Nat->List (aQ D)->List (Nat×aQ D)
 |_,[]=>[]
 |i,s::l=>(i,s)::kV (i+1) l
def Ix (E:List (Nat×aQ D)):List Nat->Option (List (bJ D⊕(Nat×List (bJ D))))
 |[]=>aqP []
 |d::ds=>
  match eh E d,Ix E ds with
  | .c c,aqP l=>aqP (.inl c::l)
  | .agg t cs,aqP l=>aqP (.inr (t,cs)::l)
  |_,_=>aqS
def Dz (E:List (Nat×aQ D)):List Nat->Option (aQ D)
 |[d]=>aqP (eh E d)
 |ds=>match Ix E ds with|some l=>aqP (.mL l)|none=>aqS
def C4:bJ D->Option aqR
 | .int k n=>aqP (.int k n)
 | .bool b=>aqP (.bool b)
 | .str s=>aqP (aS.str s)
 |_=>aqS
def wN:List (bJ D)->Option (List aqR)
 |[]=>aqP []
 |c::cs=>match C4 c,wN cs with|some v,aqP l=>aqP (v::l)|_,_=>aqS
def sq:List (bJ D⊕(Nat×List (bJ D)))->Option (List aqR)
 |[]=>aqP []
 | .inl c::l=>(match C4 c,sq l with|some v,aqP vs=>aqP (v::vs)|_,_=>aqS)
 | .inr p::l=>(match wN p.2,sq l with|some ds,aqP vs=>aqP (.agg ds.toArray::vs)|_,_=>aqS)
def C5:aQ D->Option aqR
 | .c c=>C4 c
 | .agg _ cs=>(match wN cs with|some ds=>aqP (.agg ds.toArray)|none=>aqS)
 | .mL l=>(match sq l with|some vs=>aqP (.tuple vs.toArray)|none=>aqS)
 |_=>aqS
def zO (t:Nat):Option (aL D)->Option (D t)
 |some (.box db cs aqT _)=>if db=t then kS X t cs else aqS
 |some (.recv db cs _)=>if db=t then kS X t cs else aqS
 |_=>aqS
def Dx (t:Nat) (cs:List (bJ D)):aL D->aL D
 | .box _ _ _ _=> .box t cs aqT aqQ
 |_=> .recv t cs aqQ
def qZ:List dk->Bool
 |[]=>aqQ
 | .o _ (.recv _)::_=>aqT
 | .o _ _::aF=>qZ aF
 | .v _ c::aF=>c.yT&&qZ aF
 | .u _ _::aF=>qZ aF
def vY (i N j:Nat):Nat:=if aq9 j 0=aqQ then i else N+(j - 1)
def CT (outs:List dk) (lj:List (Nat×aQ D)) (ch:List Nat) (flat:Bool) (qb:Nat) (bM:List (aQ D)) (O bL:List (aL D)) {af:Type} (K:aQ D->List (aL D)->Option af):(h5:Option (Nat×Nat))->(sV D h5->Option (kR D outs))->Option af
 |none,G=>
  aqU (G ()) fun y=>
   match Dz (gw X outs (eW _ y)++lj.map fun q=>(q.1,xj (fun j=>bL.length+j) q.2)) ch with
   |some cY=>if flat=aqQ then (match C5 cY with|some _=>K cY O|none=>aqS) else K cY (bL++mkOr X (fun j=>bL.length+j) outs (eW _ y))
   |none=>aqS
 |some p,G=>
  match eh (kV 0 bM) p.1 with
  | .box i 0=>
   match bL[i]? with
   |some o=>
    aqU (zO X p.2 (aqP o)) fun r=>
    aqU (G r) fun y=>
     match Dz (gw X outs (eW _ y)++lj.map fun q=>(q.1,xj (vY i bL.length) q.2)) ch with
     |some cY=>
      if qb=2 then
       match iu X vR outs (eW _ y) 0 with
       | .recv t cs _=>if t=p.2 then K cY (bL.set i (Dx p.2 cs o)++mkOr X (vY i bL.length) outs (eW _ y)) else aqS
       |_=>aqS
      else if qb=1 then (if o.clean=aqQ then K cY (bL++mkOr X (vY i bL.length) outs (eW _ y)) else K cY (bL.set i (Dx p.2 (hL X p.2 r) o)++mkOr X (vY i bL.length) outs (eW _ y))) else aqS
     |none=>aqS
   |none=>aqS
  |_=>aqS
def bY.call (d:bY D) (F:d.F) (bM:List (aQ D)) (O:List (aL D)) {af:Type} (K:aQ D->List (aL D)->Option af):Option af:=
 if aq9 bM.length d.np=aqQ then
  match qu (kV 0 bM) d.ins O with
  |some (kG,bL)=>
   if (d.eG.all fun p=>vi [] p.2 (eh (kV 0 bM) p.1))=aqQ then
    match gy X [] bL d.ins kG [] with
    |some x=>CT X d.outs d.lj d.ch d.flat d.qb bM O bL K d.h5 fun r=>F r x
    |none=>aqS
   else aqS
  |none=>aqS
 else aqS
end
section
variable {P:aqV} {D:Nat->Type} {X:dx P D} {z cq z2:Nat->a6} {e m m1:Mem} {k q:Option Nat} {vs:List aqR} {fr:Nat->aqR} {E:List (Nat×aQ D)} {O bB:List (aL D)}
theorem bo.call (h:bo X.G O cq e m k vs) (aE:cR m.next cq z2) (s:e1 m m1 q) (aO:cK z2 e m1 k) (ai:bB.length=O.length)
  (ah:∀(j:Nat) (o':aL D),bB[j]? =aqP o'->(O[j]? =aqP o'/\(o'.live=aqQ->∀v,vs[j]? =aqP v->en (c7 v) q))\/(∃o,O[j]? =aqP o/\o.live=aqQ/\∀v,vs[j]? =aqP v->fE X.G z2 e m1 k vs o' v)):bo X.G bB z2 e m1 k vs where
 aO:=aO
 len:=by rw[ai];exact h.len
 obj:=fun j o' v ar ad=>by
  rcases ah j o' ar with ⟨h1,J⟩|⟨o,h1,J,aj⟩
  ·have bW:=h.obj j o' v h1 ad;cases cB:o'.live with
   |false=>exact bW.frozen cB aE.le fun _ _ h=>h
   |true=>exact (bW.same s (fun _=>J cB v ad) fun _ _ h=>h).h8 aE.le (fun _ b aa=>aE.low b (bW.lt cB b aa).1) fun _ b j L t aa=>aE.low b (h.aO.bg b (by rw[aa];simp)).2
  ·exact aj v ad
 eE:=fun a b o p v w eH au aa hD jS ad hw=>by
  have key:∀(j:Nat) (o':aL D),bB[j]? =aqP o'->o'.live=aqQ->∃o,O[j]? =aqP o/\o.live=aqQ:=by
   intro j o' ar ai;rcases ah j o' ar with ⟨h1,_⟩|⟨o,h1,J,_⟩
   ·exact ⟨o',h1,ai⟩
   ·exact ⟨o,h1,J⟩
  obtain ⟨gm,g1,g2⟩:=key a o au hD;obtain ⟨gV,g3,g4⟩:=key b p aa jS;exact h.eE a b gm gV v w eH g1 g3 g2 g4 ad hw
theorem bo.aaE {N:List (aL D)} {dd:List aqR} {lim:Nat} (h:bo X.G O z e m k vs) (ai:dd.length=N.length)
  (aN:∀(j:Nat) (o:aL D) (v:aqR),O[j]? =aqP o->vs[j]? =aqP v->o.live=aqQ->∀b,c7 v=aqP b->b<lim)
  (aq:∀(j:Nat) (o:aL D) (v:aqR),N[j]? =aqP o->dd[j]? =aqP v->fE X.G z e m k (vs++dd) o v/\∀b,c7 v=aqP b->lim<=b)
  (au:∀(i j:Nat) (o p:aL D) (v w:aqR),i≠j->N[i]? =aqP o->N[j]? =aqP p->dd[i]? =aqP v->dd[j]? =aqP w->en (c7 v) (c7 w)):bo X.G (O++N) z e m k (vs++dd):=by
 have cs:∀(j:Nat) (o:aL D) (v:aqR),(O++N)[j]? =aqP o->(vs++dd)[j]? =aqP v->(j<O.length/\O[j]? =aqP o/\vs[j]? =aqP v)\/(O.length<=j/\N[j - O.length]? =aqP o/\dd[j - O.length]? =aqP v):=by
  intro j o v ah ad;by_cases ar:j<O.length
  ·rw[arf ar] at ah;rw[arf (by rw[h.len];exact ar)] at ad;exact .inl ⟨ar,ah,ad⟩
  ·rw[are (by omega)] at ah;rw[are (by rw[h.len];omega),h.len] at ad;exact .inr ⟨by omega,ah,ad⟩
 refine ⟨h.aO,by rw[ari,ari,h.len,ai],fun j o v ah ad=> ?_,fun i j o p v w cW ah an bG c8 ad hw=> ?_⟩
 ·rcases cs j o v ah ad with ⟨_,h1,J⟩|⟨_,h1,J⟩
  ·exact (h.obj j o v h1 J).same (m':=m) (q:=aqS) ⟨aq3 _,h.aO.dead,fun _ _ _=>rfl⟩ (fun _=>en.qQ) im
  ·exact (aq _ o v h1 J).1
 ·have mix:∀(i j:Nat) (o p:aL D) (v w:aqR),O[i]? =aqP o->vs[i]? =aqP v->o.live=aqQ->N[j]? =aqP p->dd[j]? =aqP w->en (c7 v) (c7 w):=by
   intro i j o p v w ah ad bG an hw b aa ct;have:=aN i o v ah ad bG b aa;have:=(aq j p w an hw).2 b ct;omega
  rcases cs i o v ah ad with ⟨_,h1,J⟩|⟨_,h1,J⟩
  ·rcases cs j p w an hw with ⟨_,aj,aM⟩|⟨_,aj,aM⟩
   ·exact h.eE i j o p v w cW h1 aj bG c8 J aM
   ·exact mix i _ o p v w h1 J bG aj aM
  ·rcases cs j p w an hw with ⟨_,aj,aM⟩|⟨_,aj,aM⟩
   ·exact (mix j _ p o w v aj aM c8 h1 J).symm
   ·exact au _ _ o p v w (by omega) h1 aj J aM
theorem GD:∀{aF:List dk} {x:ez D aF} {q:xO D},qZ aF=aqQ->q∈cos aF x->∀t,q.c≠ .recv t
 |[],_,_,_,h=>by simp[cos] at h
 | .v d c::aF,x,o,aq,h=>GD (aF:=aF) (x:=x.2) (asX.1 aq).2 h
 | .u d c::aF,x,o,aq,h=>GD (aF:=aF) (x:=x.2) aq h
 | .o d c::aF,x,o,aq,h=>by
  simp only[cos,aq6] at h;have k8:(∀t,c≠ .recv t)/\qZ aF=aqQ:=by
   cases c with
   |recv t=>cases aq
   |_=>exact ⟨fun t h=>(by cases h),aq⟩
  rcases h with rfl|h
  ·exact k8.1
  ·exact GD (aF:=aF) (x:=x.2) k8.2 h
theorem born {c:bA} {x:c.ty D} {w:Bool} {v:aqR} {kk:Option Nat} {bU:Nat->Nat} (ab:∀t,c≠ .recv t) (he:e.next<=m.next) (h:fE X.G z m m1 kk vs (bA.fa X bU c x w) v):fE X.G z e m1 k vs (bA.fa X bU c x w) v/\∀b,c7 v=aqP b->m.next<=b:=by
 cases c with
 |recv t=>exact absurd rfl (ab t)
 |eP t l=>obtain ⟨b,ds,rfl,h1,J,aj⟩:=h;exact ⟨⟨b,ds,rfl,⟨h1.aH,h1.lt,h1.dead, .inl (arj he J)⟩,arj he J,aj⟩,fun c ab=>by cases ab;exact J⟩
 |jY t f is=>obtain ⟨b,ds,rfl,h1,J,aj⟩:=h;exact ⟨⟨b,ds,rfl,⟨h1.aH,h1.lt,h1.dead, .inl (arj he J)⟩,arj he J,aj⟩,fun c ab=>by cases ab;exact J⟩
 |ay t=>have h:c3 (X.G.T t) z m m1 kk x v:=h;refine ⟨(⟨h.bd,fun b aa=>arj he (h.fresh b aa)⟩:c3 (X.G.T t) z e m1 k x v), ?_⟩;rw[fK (by obtain ⟨a,c,rfl⟩:=h.bd.len;intro r;simp)];exact h.fresh
 |box t=>obtain ⟨b,ds,rfl,h1,J,aj⟩:=h;exact ⟨⟨b,ds,rfl,⟨h1.aH,h1.lt,h1.dead, .inl (arj he J)⟩,arj he J,aj⟩,fun c ab=>by cases ab;exact J⟩
 |eY t u n=>obtain ⟨⟨b,rfl⟩,h⟩:=h;exact ⟨⟨⟨b,rfl⟩,h.bd,fun b aa=>arj he (h.fresh b aa)⟩,fun c ab=>h.fresh c ab⟩
 |map t kt vt=>have h:hX (X.G.M t kt vt) z m m1 kk x v:=h;obtain ⟨r,rfl,h1,J,aj,aM⟩:=h.bd;exact ⟨(⟨⟨r,rfl,h1,J,aj,arj he aM⟩⟩:hX (X.G.M t kt vt) z e m1 k x _),fun c ab=>by cases ab;exact aM⟩
 |ne dA t=>obtain ⟨hu,ws,h⟩:=h;refine ⟨⟨hu,ws,⟨h.bd.bd,fun b aa=>arj he (h.bd.fresh b aa)⟩,h.len,fun j w xs h1 J aj=>(h.nk j w xs h1 J aj).Ew he,fun p an=>by cases an⟩, ?_⟩;rw[fK (by obtain ⟨a,c,rfl⟩:=h.bd.bd.len;intro r;simp)];exact h.bd.fresh
theorem O8:∀{ch:List Nat} {l:List (bJ D⊕(Nat×List (bJ D)))},eC X z vs E fr->Ix E ch=aqP l->ba (uO X.G z vs) l (ch.map fr)/\∀x∈ch.map fr,storable x=aqQ
 |[],l,aT,h=>by cases h;exact ⟨trivial,by simp⟩
 |d::ds,l,aT,h=>by
  simp only[Ix] at h;have aB:=aT d;split at h
  ·rename_i c pU ab ai;cases h;rw[ab] at aB;obtain ⟨g1,g2⟩:=O8 aT ai;refine ⟨⟨aB,g1⟩,fun x U=> ?_⟩;rcases aq6.1 U with rfl|U
   ·exact (dj.ZI aB).1
   ·exact g2 x U
  ·rename_i t cs pU ab ai;cases h;rw[ab] at aB;obtain ⟨g1,g2⟩:=O8 aT ai;refine ⟨⟨aB,g1⟩,fun x U=> ?_⟩;rcases aq6.1 U with rfl|U
   ·obtain ⟨ds,aB,_⟩:=aB;rw[aB];rfl
   ·exact g2 x U
  ·cases h
theorem OZ {ch:List Nat} {cY:aQ D} (aT:eC X z vs E fr) (h:Dz E ch=aqP cY):rel X.G z vs cY (pack (ch.map fr))/\((ch.map fr).length=1\/∀x∈ch.map fr,storable x=aqQ):=by
 unfold Dz at h;split at h
 ·cases h;exact ⟨aT _, .inl rfl⟩
 ·rename_i ds kK;split at h
  ·rename_i l ai;cases h;obtain ⟨g1,g2⟩:=O8 aT ai;refine ⟨?_, .inr g2⟩;have:pack (ch.map fr)= .tuple (ch.map fr).toArray:=by
    unfold pack;split
    ·rename_i x U
     match ch,kK,U with
     |[d],kK,_=>exact absurd rfl (kK d)
    ·rfl
   rw[this];exact ⟨_,rfl,g1⟩
  ·cases h
theorem Oq {c:bJ D} {v w:aqR} (h:C4 c=aqP w) (aw:dj X.G z vs c v):v=w/\cv w=aqQ:=by
 cases c<;>first|(cases h;done)|(cases h;exact ⟨aw,rfl⟩)
theorem Ot:∀{cs:List (bJ D)} {ds ws:List aqR},wN cs=aqP ws->ba (dj X.G z vs) cs ds->ds=ws/\ws.all cv=aqQ
 |[],[],_,h,_=>by cases h;exact ⟨rfl,rfl⟩
 |c::cs,d::ds,ws,h,⟨h1,J⟩=>by
  simp only[wN] at h;split at h
  ·rename_i v l ad ai;cases h;obtain ⟨rfl,g1⟩:=Oq ad h1;obtain ⟨rfl,g2⟩:=Ot ai J;exact ⟨rfl,by simp only[arL,g1,g2,asC]⟩
  ·cases h
 |[],_::_,_,_,h=>h.elim
 |_::_,[],_,_,h=>h.elim
theorem Ou:∀{l:List (bJ D⊕(Nat×List (bJ D)))} {ds ws:List aqR},sq l=aqP ws->ba (uO X.G z vs) l ds->ds=ws/\ws.all ir=aqQ
 |[],[],_,h,_=>by cases h;exact ⟨rfl,rfl⟩
 | .inl c::l,d::ds,ws,h,⟨h1,J⟩=>by
  simp only[sq] at h;split at h
  ·rename_i v pU ad ai;cases h;obtain ⟨rfl,g1⟩:=Oq ad h1;obtain ⟨rfl,g2⟩:=Ou ai J;have:ir d=aqQ:=by cases d<;>first|exact g1|cases g1
   exact ⟨rfl,by simp only[arL,this,g2,asC]⟩
  ·cases h
 | .inr p::l,d::ds,ws,h,⟨⟨cs,aI,h1⟩,J⟩=>by
  simp only[sq] at h;split at h
  ·rename_i v pU ad ai;cases h;obtain ⟨rfl,g1⟩:=Ot ad h1;obtain ⟨rfl,g2⟩:=Ou ai J;subst aI;exact ⟨rfl,by simp only[arL,g2,Bool.and_true];exact g1⟩
  ·cases h
 |[],_::_,_,_,h=>h.elim
 |_::_,[],_,_,h=>h.elim
theorem af4 {s:aQ D} {v w:aqR} (h:C5 s=aqP w) (aw:rel X.G z vs s v):v=w/\aS.flat w=aqQ:=by
 unfold C5 at h;split at h
 ·obtain ⟨rfl,g⟩:=Oq h aw;refine ⟨rfl, ?_⟩;cases v<;>first|exact g|cases g
 ·split at h
  ·rename_i ds aB;cases h;obtain ⟨es,rfl,J⟩:=aw;obtain ⟨rfl,g⟩:=Ot aB J;exact ⟨rfl,g⟩
  ·cases h
 ·split at h
  ·rename_i ws aB;cases h;obtain ⟨es,rfl,J⟩:=aw;obtain ⟨rfl,g⟩:=Ou aB J;exact ⟨rfl,g⟩
  ·cases h
 ·cases h
def Qk:Option (Nat×Nat)->List dk
 |none=>[]
 |some p=>[.o p.1 (.recv p.2)]
def ZB:(c:Option (Nat×Nat))->sV D c->ez D (Qk c)
 |none,_=>()
 |some _,r=>(r,())
theorem amC (c:Option (Nat×Nat)) (r:sV D c):dL X (Qk c) (ZB c r)=pg X c r:=by cases c<;>rfl
theorem ajn {c:Option (Nat×Nat)} {r:sV D c} {n:Nat}:(match c with|none=>[]|some _=>[n]).length=(pg X c r).length:=by cases c<;>rfl
theorem ahB {d:bY D} {r:sV D d.h5}:(pg X d.h5 r).length=(xi d).length:=by
 unfold xi;rw[<-ajn (X:=X) (r:=r) (n:=d.qb)]
def alC (X:dx P D) (d:bY D) (r:sV D d.h5) (y:kR D d.outs) (z:Nat->a6) (m:Mem) (kk:Option Nat) (b6:List aqR) (ex:dX) (fr':Nat->aqR) (m1:Mem):Prop:=
 (ex= .normal\/ex= .ret)/\∃fu,o7 P fr' m1 d.nC (d.ch.map fu)/\∃z2 dd,cR m.next z z2/\bo X.G (jx X (xi d) (pg X d.h5 r) d.outs (eW _ y)) z2 m m1 kk (b6++dd)/\∀q∈gw X d.outs (eW _ y)++d.lj,rel X.G z2 (b6++dd) q.2 (fu q.1)
def D9 (X:dx P D) (B:Code) (d:bY D) (F:d.F):Prop:=∀(r:sV D d.h5) (x:ez D d.ins) (y:kR D d.outs) {z:Nat->a6} {m:Mem} {kk:Option Nat} {b6:List aqR} {fr:Nat->aqR},
 F r x=aqP y->bo X.G (pg X d.h5 r) z m m kk b6->eC X z b6 (gw X d.ins x++(d.eG++Dw d.h5)) fr->W P B (alC X d r y z m kk b6) fr m
theorem agD {t:Nat} {a:aQ D} {V:aQ D} {v:aqR} (av:bo X.G O z e m k vs) (au:rel X.G z vs a v) (h:Py P t a O=aqP V):∃b off w,v= .pointer (aqP ⟨b,off,aqS⟩)/\rel X.G z vs V w/\∃d,P.underlying t=aqP d/\
  (if jE d=aqQ then ∃i cs,P.info? t=aqP i/\jz m b off i.size=aqP cs/\w= .agg cs.toArray else m.load b off=aqP w):=by
 have fin:∀{b n:Nat} {cs:List (bJ D)} {ds:List aqR},(∀(j:Nat) (w:aqR),ds[j]? =aqP w->m.load b (0+j)=aqP w)->ba (dj X.G z vs) cs ds->pd (P:=P) t cs n aqP=aqP V->∃w,rel X.G z vs V w/\∃d,P.underlying t=aqP d/\(if jE d=aqQ then ∃i cs,P.info? t=aqP i/\jz m b n i.size=aqP cs/\w= .agg cs.toArray else m.load b n=aqP w):=by
  intro b n cs ds ab aw h;unfold pd at h;split at h
  ·cases h
  ·rename_i d aB;split at h
   ·rename_i vn;split at h
    ·cases h
    ·rename_i i ae;split at h
     ·rename_i hlen;cases h;have ng:ba (dj X.G z vs) ((cs.drop n).take i.size) ((ds.drop n).take i.size):=ba.take _ (ba.drop _ aw);have gl:((ds.drop n).take i.size).length=i.size:=by rw[<-ng.length];exact hlen
      refine ⟨.agg ((ds.drop n).take i.size).toArray,⟨_,rfl,ng⟩,d,aB, ?_⟩;rw[if_pos vn];refine ⟨i,_,ae,Hb _ _ _ gl fun j w ar=> ?_,rfl⟩;rw[List.getElem?_take] at ar;split at ar
      ·rw[List.getElem?_drop] at ar;have:=ab _ w ar
       rwa [ara] at this
      ·cases ar
     ·cases h
   ·rename_i vn;split at h
    ·rename_i c hC;cases h;obtain ⟨w,hw,yE⟩:=aw.get n c hC;refine ⟨w,yE,d,aB, ?_⟩;rw[if_neg vn];have:=ab n w hw
     rwa [ara] at this
    ·cases h
 unfold Py at h;split at h
 ·rename_i i off;obtain ⟨b,ad,U⟩:=au;split at h
  ·rename_i u cs bg cN hO;have bW:=av.obj i _ _ hO ad;cases bg with
   |true=>obtain ⟨b2,ds,he,ab,aw⟩:=bW;cases he;obtain ⟨w,h1,J⟩:=fin (b:=b) (av.aO.rX ab) aw h;exact ⟨b,off,w,U,h1,J⟩
   |false=>obtain ⟨b2,ds,he,aa,_,aw⟩:=bW;cases he;obtain ⟨w,h1,J⟩:=fin (b:=b) aa.rX aw h;exact ⟨b,off,w,U,h1,J⟩
  ·rename_i u cs cN hO;obtain ⟨b2,ds,he,aa,aw⟩:=av.obj i _ _ hO ad;cases he;obtain ⟨w,h1,J⟩:=fin (b:=b) aa.rX aw h;exact ⟨b,off,w,U,h1,J⟩
  ·cases h
 ·cases h
theorem Pu:∀{rs:List ResultVar} {n:Nat} {l:List (Nat×aQ D)},xl P E O n rs=aqP l->∀x∈ly n rs,x<oE\/n<=x
 |[],n,l,_,x,U=>by simp[ly] at U
 | .tmp d::rs,n,l,h,x,U=>by
  obtain ⟨h1,J⟩:=eV h;simp only[ly,aq6] at U;rcases U with rfl|U
  ·exact .inl (by simpa[atl] using h1)
  ·rcases Pu J x U with h|h
   ·exact .inl h
   ·exact .inr (by omega)
 | .cell a t::rs,n,l,h,x,U=>by
  simp only[xl] at h;split at h
  ·rename_i V kq _ J;simp only[ly,aq6] at U;rcases U with rfl|U
   ·exact .inr (aq3 _)
   ·rcases Pu J x U with h|h
    ·exact .inl h
    ·exact .inr (by omega)
  ·cases h
theorem Pv (av:bo X.G O z e m k vs) (aT:eC X z vs E fr):∀{rs:List ResultVar} {n:Nat} {l:List (Nat×aQ D)},oE<=n->xl P E O n rs=aqP l->∃fu,(∀d,d<n->fu d=fr d)/\eC X z vs (l++E) fu/\o7 P fr m rs ((ly n rs).map fu)
 |[],n,l,_,h=>by cases h;exact ⟨fr,fun _ _=>rfl,aT,trivial⟩
 | .tmp d::rs,n,l,aq,h=>by
  obtain ⟨h1,J⟩:=eV h;have aB:d<oE:=by simpa[atl] using h1
  obtain ⟨fu,g1,g2,g3⟩:=Pv av aT (Nat.le_succ_of_le aq) J;exact ⟨fu,fun d aB=>g1 d (atf aB),g2,g1 d (atf (aro aB aq)),g3⟩
 | .cell a t::rs,n,l,aq,h=>by
  simp only[xl] at h;split at h
  ·rename_i V kq h1 J;cases h;obtain ⟨fu,g1,g2,g3⟩:=Pv av aT (Nat.le_succ_of_le aq) J;obtain ⟨b,off,w,cN,fk,qf⟩:=agD av (aT a) h1;refine ⟨fun i=>if i=n then w else fu i,fun d aB=> ?_,fun i=> ?_, ?_⟩
   ·show (if d=n then w else fu d)=fr d;rw[if_neg (by omega)];exact g1 d (by omega)
   ·show rel X.G z vs (eh ((n,V)::(kq++E)) i) (if i=n then w else fu i);simp only[eh];split
    ·rename_i ae;rw[if_pos (aru ae).symm];exact fk
    ·rename_i ae;rw[if_neg (by rintro rfl;simp at ae)];exact g2 i
   ·have hm:(ly (n+1) rs).map (fun i=>if i=n then w else fu i)=(ly (n+1) rs).map fu:=by
     apply List.map_congr_left;intro x U;rw[if_neg];rintro rfl;rcases Pu J _ U with h|h<;>omega
    refine ⟨⟨b,off,cN, ?_⟩, ?_⟩
    ·show ∃d,_;simp only[if_true];exact qf
    ·show o7 P fr m rs ((ly (n+1) rs).map _);rw[hm];exact g3
  ·cases h
theorem D9.of (bO:fQ X) {B:Code} {us:List (kZ D)} {d:bY D} {F:d.F} (rT:∀u∈us,0<u.path.length->px X B u)
  (dn:∀r x,hT X us calm aqQ [] B (gw X d.ins x++(d.eG++Dw d.h5)) (pg X d.h5 r) (ZC X d)=F r x):D9 X B d F:=by
 intro r x y z m kk b6 fr cG av aT;have h:=dn r x;rw[cG] at h;refine (zv bO (L:=0) rT B aqQ [] _ _ _ y (o9 B) (by simp) (by simp) av aT h).mono ?_;rintro ex eU m1 ⟨cq,iS,jA,bL,aI,h1,J,aj,aM,br⟩;obtain ⟨U,br⟩:=eV br;obtain ⟨l,fi,dt⟩:=bind_some br;obtain ⟨fu,b5,cd,dN⟩:=Pv aj aM (aq3 _) fi;have ai:(xi d).length=b6.length:=by rw[av.len,ahB]
 rw[ai] at dt;have aw:=amC (X:=X) d.h5 r;obtain ⟨z2,dd,bt,bE,cM⟩:=CN (ks:=xi d) (ins:=Qk d.h5) (x:=ZB d.h5 r) (cL:=d.cL) (by rw[aw];exact aI) J (by rw[aw];exact av.len) aj cd dt;rw[aw] at bE;exact ⟨U,fu,dN,z2,dd,h1.trans bt,bE,cM⟩
end
end
end Go.aS
end
section
namespace Go.aS
noncomputable section
section
variable {P:aqV} {D:Nat->Type} {X:dx P D} {z cq z2:Nat->a6} {e m m1:Mem} {k q:Option Nat} {vs:List aqR} {fr:Nat->aqR} {E:List (Nat×aQ D)} {O bB:List (aL D)} {af:Type} {r:af}
theorem On:∀{l:List (aQ D)} {args:List aqR} {i:Nat},ba (rel X.G z vs) l args->(∀(j:Nat) (v:aqR),args[j]? =aqP v->fr (i+j)=v)->eC X z vs (kV i l) fr
 |[],[],i,_,_=>fun d=>trivial
 |s::l,a::args,i,⟨h1,J⟩,aP=>by
  refine (On (i:=i+1) J fun j v ar=> ?_).cons ?_
  ·rw[show i+1+j=i+(j+1) by omega];exact aP (j+1) v ar
  ·have:=aP 0 a rfl;rw[arC] at this;rw[this];exact h1
 |[],_::_,_,h,_=>h.elim
 |_::_,[],_,h,_=>h.elim
structure Jb (P:aqV) (X:dx P D) (d:bY D) (F:d.F):Prop where
 ex:∃fn c,P.funcs[d.f]? =aqP fn/\fn.body=aqP c/\mA P d.f=aqQ/\art d.np fn.ntmps=aqQ/\fn.results.toList=d.nC/\D9 X c d F
 new:qZ d.outs=aqQ
 aqy:(d.eG.all fun p=>sm p.2)=aqQ
 anq:(d.lj.all fun p=>sm p.2)=aqQ
 anr:(d.eG.all fun p=>(Dy p.2).isNone)=aqQ
theorem Ny {c:bJ D} {w:aqR} (h:C4 c=aqP w):dj X.G z vs c w/\cv w=aqQ/\ir w=aqQ/\aS.flat w=aqQ:=by
 cases c<;>first|(cases h;done)|(cases h;exact ⟨rfl,rfl,rfl,rfl⟩)
theorem Nz:∀{cs:List (bJ D)} {ws:List aqR},wN cs=aqP ws->ba (dj X.G z vs) cs ws/\ws.all cv=aqQ
 |[],_,h=>by cases h;exact ⟨trivial,rfl⟩
 |c::cs,ws,h=>by
  simp only[wN] at h;split at h
  ·rename_i v l ad ai;cases h;obtain ⟨g1,g2,_⟩:=Ny (X:=X) (z:=z) (vs:=vs) ad;obtain ⟨g3,g4⟩:=Nz ai;exact ⟨⟨g1,g3⟩,by simp only[arL,g2,g4,asC]⟩
  ·cases h
theorem NA:∀{l:List (bJ D⊕(Nat×List (bJ D)))} {ws:List aqR},sq l=aqP ws->ba (uO X.G z vs) l ws/\ws.all ir=aqQ
 |[],_,h=>by cases h;exact ⟨trivial,rfl⟩
 | .inl c::l,ws,h=>by
  simp only[sq] at h;split at h
  ·rename_i v pU ad ai;cases h;obtain ⟨g1,_,g2,_⟩:=Ny (X:=X) (z:=z) (vs:=vs) ad;obtain ⟨g3,g4⟩:=NA ai;exact ⟨⟨g1,g3⟩,by simp only[arL,g2,g4,asC]⟩
  ·cases h
 | .inr p::l,ws,h=>by
  simp only[sq] at h;split at h
  ·rename_i v pU ad ai;cases h;obtain ⟨g1,g2⟩:=Nz (X:=X) (z:=z) (vs:=vs) ad;obtain ⟨g3,g4⟩:=NA ai;exact ⟨⟨⟨v,rfl,g1⟩,g3⟩,by simp only[arL,g4,Bool.and_true];exact g2⟩
  ·cases h
theorem aeT {s:aQ D} {w:aqR} (h:C5 s=aqP w):rel X.G z vs s w/\aS.flat w=aqQ:=by
 unfold C5 at h;split at h
 ·obtain ⟨g1,_,_,g2⟩:=Ny (X:=X) (z:=z) (vs:=vs) h;exact ⟨g1,g2⟩
 ·split at h
  ·rename_i ds aB;cases h;obtain ⟨g1,g2⟩:=Nz (X:=X) (z:=z) (vs:=vs) aB;exact ⟨⟨ds,rfl,g1⟩,g2⟩
  ·cases h
 ·split at h
  ·rename_i ws aB;cases h;obtain ⟨g1,g2⟩:=NA (X:=X) (z:=z) (vs:=vs) aB;exact ⟨⟨ws,rfl,g1⟩,g2⟩
  ·cases h
 ·cases h
theorem Inv.app (O N:List (aL D)):Inv O (O++N):=⟨by simp,fun i p ae an _ _=>by rw[arf ae] at an;exact an⟩
theorem bo.nil (av:bo X.G O z e m k vs):bo X.G ([]:List (aL D)) z m m aqS []:=⟨cK.start av.aO.bg av.aO.dead,rfl,by simp,by simp⟩
theorem Yd {kk:Option Nat} (h:cK cq e m k) (J:cK z2 m m1 kk) (hk:∀b,kk=aqP b->e.next<=b\/k=aqP b):cK z2 e m1 k/\e1 m m1 kk:=
 ⟨⟨J.bg,J.dead,h.lI,arj h.next J.next,fun b aa aq=>by
  rw[J.kept b (aro aa h.next) (fun ax=>by rcases hk b ax with aj|aj;omega;exact aq aj)];exact h.kept b aa aq⟩,⟨J.next,J.dead,J.kept⟩⟩
theorem Xl {ins:List dk} {eG:List (Nat×aQ D)} {bM kG:List (aQ D)} {bL:List (aL D)} {x:ez D ins} {b6:List aqR} (aT:eC X z vs (kV 0 bM) fr) (au:xM X z vs fr ins kG) (aa:gy X [] bL ins kG []=aqP x)
  (U:(eG.all fun p=>vi [] p.2 (eh (kV 0 bM) p.1))=aqQ):∀p∈gw X ins x++eG,rel X.G z b6 p.2 (fr p.1):=by
 intro p an;rcases arc.1 an with an|an
 ·exact zB (fun j i u ar _=>by simp at ar) aa au p an
 ·have ao:=aq8.1 U p an;have:=O9 (X:=X) (vs':=b6) id ao (aT p.1) (by simp)
  rwa [Hc] at this
theorem after {outs:List dk} {y:ez D outs} {lE:List (aL D)} {b6 dd:List aqR} {kk:Option Nat} {cU ri:List (aL D)} {bU:Nat->Nat} (h1:bo X.G cU cq e m k vs) (aj:bo X.G ri z2 e m1 k vs) (aI:bo X.G (lE++dL X outs y) z2 m m1 kk (b6++dd)) (ai:b6.length=lE.length) (aq:qZ outs=aqQ)
  (aN:∀(j:Nat) (o:aL D) (v:aqR),ri[j]? =aqP o->vs[j]? =aqP v->o.live=aqQ->∀b,c7 v=aqP b->b<m.next) (adH:∀(j:Nat) (u:aqR),(b6++dd)[j]? =aqP u->(vs++dd)[bU j]? =aqP u):bo X.G (ri++mkOr X bU outs y) z2 e m1 k (vs++dd):=by
 have hU:(dL X outs y).length=(mkOr X bU outs y).length:=by rw[kU,tX,arN,arN]
 have lO:dd.length=(dL X outs y).length:=by have:=aI.len;simp only[ari] at this;omega
 have up:∀(j:Nat) (o:aL D) (v:aqR),(mkOr X bU outs y)[j]? =aqP o->dd[j]? =aqP v->∃q∈cos outs y,o=bA.fa X bU q.c q.x aqT/\(lE++dL X outs y)[lE.length+j]? =aqP (bA.mk X q.c q.x aqT)/\(b6++dd)[lE.length+j]? =aqP v:=by
  intro j o v ah ad;rw[tX,arB] at ah;cases aK:(cos outs y)[j]? with
  |none=>rw[aK] at ah;cases ah
  |some q=>
   rw[aK] at ah;cases ah;refine ⟨q,aq7 aK,rfl, ?_, ?_⟩
   ·rw[are (by omega),show lE.length+j - lE.length=j by omega,kU,arB,aK];rfl
   ·rw[are (by omega),ai,show lE.length+j - lE.length=j by omega];exact ad
 refine aj.aaE (lO.trans hU) aN (fun j o v ah ad=> ?_) (fun i j o p v w cW ah an ad hw=> ?_)
 ·obtain ⟨q,aK,rfl,g1,g2⟩:=up j o v ah ad;have bW:=aI.obj _ _ v g1 g2;exact born (GD aq aK) h1.aO.next (bA.yP (l9:=bU) (vs':=vs++dd) aqT bW fun n _ u hu=>adH n u hu)
 ·obtain ⟨q,aK,rfl,g1,g2⟩:=up i o v ah ad;obtain ⟨dG,BR,rfl,g3,g4⟩:=up j p w an hw;exact aI.eE _ _ _ _ v w (by omega) g1 g3 bA.tR bA.tR g2 g4
theorem GF:∀{aF:List dk},qZ aF=aqQ->∀d c,dk.v d c∈aF->c.yT=aqQ
 | .v d c::aF,h,cD,bP,hm=>by
  have h:=asX.1 h;rcases aq6.1 hm with he|hm
  ·cases he;exact h.1
  ·exact GF (aF:=aF) h.2 cD bP hm
 | .u d c::aF,h,cD,bP,hm=>by
  rcases aq6.1 hm with he|hm
  ·cases he
  ·exact GF (aF:=aF) h cD bP hm
 | .o d c::aF,h,cD,bP,hm=>by
  rcases aq6.1 hm with he|hm
  ·cases he
  ·refine GF (aF:=aF) ?_ cD bP hm;cases c<;>first|exact h|cases h
theorem Yu {outs:List dk} {y:ez D outs} {lj:List (Nat×aQ D)} {b6 iS:List aqR} {bU:Nat->Nat} (aq:qZ outs=aqQ) (ah:(lj.all fun p=>sm p.2)=aqQ) (h:∀q∈gw X outs y++lj,rel X.G z b6 q.2 (fr q.1)) (ad:∀(j:Nat) (u:aqR),b6[j]? =aqP u->iS[bU j]? =aqP u):
  eC X z iS (gw X outs y++lj.map fun q=>(q.1,xj bU q.2)) fr:=by
 refine C6 fun q aK=> ?_;rcases arc.1 aK with aK|aK
 ·obtain ⟨d,c,a,aB,ab⟩:=zo aK;have:=h q (arc.2 (.inl aK));rw[ab] at this⊢;exact e8.MW (GF aq d c aB) this
 ·obtain ⟨iQ,tH,rfl⟩:=aq'.1 aK;exact PR (aq8.1 ah iQ tH) (h iQ (arc.2 (.inr tH))) fun j u _ hu=>ad j u hu
theorem ahA {t b:Nat} {o:aL D} {x:D t} (aG:zO X t (aqP o)=aqP x) (ah:fE X.G z e m k vs o (.pointer (aqP ⟨b,0,aqS⟩))):
  o.live=aqQ/\(e.next<=b\/k=aqP b)/\(∀vs',fE X.G z m m (aqP b) vs' (.recv t (hL X t x) aqT:aL D) (.pointer (aqP ⟨b,0,aqS⟩)))/\
  (∀{z2:Nat->a6} {m1:Mem} {w:Bool} {a:D t} {ws:List aqR},fE X.G z2 m m1 (aqP b) ws (.recv t (hL X t a) w:aL D) (.pointer (aqP ⟨b,0,aqS⟩))->fE X.G z2 e m1 k vs (Dx t (hL X t a) o) (.pointer (aqP ⟨b,0,aqS⟩))/\(o.clean=aqQ->a=x->fE X.G z2 e m1 k vs o (.pointer (aqP ⟨b,0,aqS⟩)))):=by
 unfold zO at aG;split at aG
 ·rename_i db cs w dn;cases dn;obtain ⟨ao,aG⟩:=eV aG;subst ao;obtain ⟨c,ds,h1,J,aj,aM⟩:=ah;cases h1;refine ⟨rfl, .inl aj,fun vs'=>⟨b,ds,rfl,⟨J.aH,J.lt,J.dead, .inr rfl⟩,uq aG aM⟩, ?_⟩;intro z2 m1 w a ws aw;obtain ⟨c,mU,g1,g2,g3⟩:=aw;cases g1;refine ⟨⟨b,mU,rfl,⟨g2.aH,g2.lt,g2.dead, .inl aj⟩,aj,se g3⟩,fun ab au=> ?_⟩;subst au;rw[HJ aG ab];exact ⟨b,mU,rfl,⟨g2.aH,g2.lt,g2.dead, .inl aj⟩,aj,se g3⟩
 ·rename_i db cs w dn;cases dn;obtain ⟨ao,aG⟩:=eV aG;subst ao;obtain ⟨c,ds,h1,J,aM⟩:=ah;cases h1;refine ⟨rfl,J.fresh,fun vs'=>⟨b,ds,rfl,⟨J.aH,J.lt,J.dead, .inr rfl⟩,uq aG aM⟩, ?_⟩;intro z2 m1 w a ws aw;obtain ⟨c,mU,g1,g2,g3⟩:=aw;cases g1;refine ⟨⟨b,mU,rfl,⟨g2.aH,g2.lt,g2.dead,J.fresh⟩,se g3⟩,fun ab au=> ?_⟩;subst au;rw[HJ aG ab];exact ⟨b,mU,rfl,⟨g2.aH,g2.lt,g2.dead,J.fresh⟩,se g3⟩
 ·cases aG
def bY.quiet (d:bY D):Bool:=d.flat&&d.h5.isNone
def bX (X:dx P D) (d:bY D) (F:d.F):Prop:=∀(bM:List (aQ D)) (O:List (aL D)) {af:Type} (K:aQ D->List (aL D)->Option af) (r:af) {z:Nat->a6} {e m:Mem} {k:Option Nat} {vs:List aqR} (args:List aqR),
 bo X.G O z e m k vs->ba (rel X.G z vs) bM args->d.call X F bM O K=aqP r->hx P d.f args.toArray m fun v m'=>c0 X O z e k vs K r v m'/\(d.quiet=aqQ->m'=m)/\∃q,fq m m' q/\mR vs (p2 bM) q
theorem e1.TC {q:Option Nat} (h:e1 m m1 q):fq m m1 q:=⟨h.next,h.aH⟩
theorem W1 {i off d:Nat}:∀{l:List (aQ D)} {n:Nat},eh (kV n l) d= .box i off->i∈p2 l
 |[],n,h=>by cases h
 |s::l,n,h=>by
  simp only[kV,eh] at h;split at h
  ·subst h;exact arn
  ·have:=W1 h;cases s<;>first|exact this|exact ard _ this
theorem Jb.call {d:bY D} {F:d.F} (cG:Jb P X d F):bX X d F:=by
 intro bM O af K r z e m k vs args av cB h;obtain ⟨fn,c,f1,f2,f3,f4,f5,fG⟩:=cG.ex;have iE:=cG.new;have UQ:=cG.anq;unfold bY.call at h;obtain ⟨hlen,h⟩:=eV h;have hlen:=aru hlen;split at h
 ·rename_i kG bL aP;obtain ⟨U,h⟩:=eV h;split at h
  ·rename_i x aa;have bC:args.toArray.size<=fn.ntmps:=by
    rw[List.size_toArray,<-cB.length,hlen];exact asa f4
   have aT:∀fr:Nat->aqR,(∀i v,args.toArray.toList[i]? =aqP v->fr i=v)->eC X z vs (kV 0 bM) fr:=fun fr fY=>On cB fun j v ar=>by rw[ara];exact fY j v (by simpa using ar)
   obtain ⟨f,np,ins,eG,h5,qb,outs,lj,nC,flat⟩:=d;cases h5 with
   |none=>
    obtain ⟨y,ag,h⟩:=bind_some h;split at h
    ·rename_i cY BU;have body:∀fr:Nat->aqR,(∀i v,args.toArray.toList[i]? =aqP v->fr i=v)->W P c (fun ex eU m1=>(ex= .normal\/ex= .ret)/\∃cq z2 dd,Inv O bL/\cR e.next z cq/\bo X.G bL cq e m k vs/\cR m.next cq z2/\bo X.G (dL X outs (eW outs y)) z2 m m1 aqS dd/\∃fu,o7 P eU m1 nC ((ly oE nC).map fu)/\(rel X.G z2 (vs++dd) cY (pack ((ly oE nC).map fu))/\(((ly oE nC).map fu).length=1\/∀x∈(ly oE nC).map fu,storable x=aqQ))) fr m:=by
      intro fr fY;obtain ⟨cq,g0,g1,g2,g3⟩:=wz av (aT fr fY) aP;have yD:=Xl (b6:=[]) ((aT fr fY).mono g1.le fun _ _ h=>h) g3 aa U;refine (fG () x y (z:=cq) (m:=m) (kk:=aqS) (b6:=[]) ag g2.nil (C6 fun p an=>yD p (by simpa[Dw] using an))).mono ?_;rintro ex eU m1 ⟨he,fu,b5,z2,dd,bt,bE,cM⟩;have bE:bo X.G (dL X outs (eW outs y)) z2 m m1 aqS dd:=bE;refine ⟨he,cq,z2,dd,g0,g1,g2,bt,bE,fu,b5,OZ (Yu (b6:=dd) iE UQ cM fun j u hu=> ?_) BU⟩;show (vs++dd)[bL.length+j]? =aqP u;rw[are (by rw[g2.len];omega),g2.len,show bL.length+j - bL.length=j by omega];exact hu
     split at h
     ·split at h
      ·rename_i w hw;obtain ⟨cN,fk⟩:=aeT (X:=X) (z:=z) (vs:=vs) hw;refine (hx.flat (z:=z) f1 f2 f3 bC fk fun fr fY=>(body fr fY).mono ?_).mono ?_
       ·rintro ex eU m1 ⟨he,cq,z2,dd,_,_,_,_,bE,fu,b5,cM,fI⟩;exact ⟨he,z2,bE.aO,_,by rw[f5];exact b5,fI,(af4 hw cM).1⟩
       ·rintro v m' ⟨rfl,rfl⟩;exact ⟨c0.here av cN h,fun _=>rfl,aqS,fq.refl _, .inl rfl⟩
      ·cases h
     ·rename_i Ml;refine hx.any f1 f2 f3 bC fun fr fY=>(body fr fY).mono ?_;rintro ex eU m1 ⟨he,cq,z2,dd,g0,g1,g2,bt,bE,fu,b5,cM,fI⟩;obtain ⟨s1,s2⟩:=Yd (e:=e) (k:=k) g2.aO bE.aO (by simp);refine ⟨he,_,by rw[f5];exact b5,fI,⟨z2,vs++dd,cY,_,g0.trans (Inv.app _ _),g1.trans (bt.Ew av.aO.next),im, ?_,cM,h⟩,fun aK=>absurd (by simpa[bY.quiet] using aK) Ml,aqS,s2.TC, .inl rfl⟩;have aj:=g2.call bt s2 s1 rfl fun j o' ar=> .inl ⟨ar,fun _ v _=>en.qQ⟩;have acD:∀(j:Nat) (u:aqR),([]++dd)[j]? =aqP u->(vs++dd)[bL.length+j]? =aqP u:=fun j u hu=>by
       rw[are (by rw[g2.len];omega),g2.len,show bL.length+j - bL.length=j by omega];exact hu
      exact after (lE:=[]) (b6:=[]) g2 aj bE rfl iE (fun j o v ah ad ai b aa=>((g2.obj j o v ah ad).lt ai b aa).1) acD
    ·cases h
   |some p=>
    unfold CT at h;dsimp only at h;split at h
    ·rename_i i ae;split at h
     ·rename_i o ah;obtain ⟨xk,Fw,h⟩:=bind_some h;obtain ⟨y,ag,h⟩:=bind_some h;split at h
      ·rename_i cY BU;refine hx.any f1 f2 f3 bC fun fr fY=> ?_;obtain ⟨cq,g0,g1,g2,g3⟩:=wz av (aT fr fY) aP;have yD:=fun b6=>Xl (b6:=b6) ((aT fr fY).mono g1.le fun _ _ h=>h) g3 aa U;have an:=aT fr fY p.1;rw[ae] at an;obtain ⟨b,ff,gA⟩:=an;have bW:=g2.obj i o _ ah ff;obtain ⟨ej,ee,Dv,xg⟩:=ahA Fw bW;have abl:bo X.G (pg X (aqP p) xk) cq m m (aqP b) [.pointer (aqP ⟨b,0,aqS⟩)]:=by
        refine ⟨cK.start g2.aO.bg g2.aO.dead,rfl,fun j o' v ar ad=> ?_,fun a b2 o' pZ v w eH au ct=> ?_⟩
        ·cases j with
         |zero=>simp[pg] at ar ad;subst ar ad;exact Dv _
         |succ j=>simp[pg] at ar
        ·cases a with
         |zero=>cases b2 with
          |zero=>exact absurd rfl eH
          |succ b2=>simp[pg] at ct
         |succ a=>simp[pg] at au
       refine (fG xk x y (z:=cq) (m:=m) (kk:=aqP b) (b6:=[.pointer (aqP ⟨b,0,aqS⟩)]) ag abl (C6 fun q aK=> ?_)).mono ?_
       ·rcases arc.1 aK with aK|aK
        ·exact yD _ q (arc.2 (.inl aK))
        ·rcases arc.1 aK with aK|aK
         ·exact yD _ q (arc.2 (.inr aK))
         ·simp only[Dw,aq6,asB,or_false] at aK;subst aK;exact ⟨b,rfl,gA⟩
       rintro ex eU m1 ⟨he,fu,b5,z2,dd,bt,bE,cM⟩;obtain ⟨s1,s2⟩:=Yd (e:=e) (k:=k) g2.aO bE.aO (fun c ab=>by cases ab;exact ee);have ab3:i<bL.length:=(aqZ.1 ah).1;have nW:∀(j:Nat) (u:aqR),([aqR.pointer (aqP ⟨b,0,aqS⟩)]++dd)[j]? =aqP u->(vs++dd)[vY i bL.length j]? =aqP u:=by
        intro j u hu;cases j with
        |zero=>simp at hu;subst hu;show (vs++dd)[i]? =_;exact im _ _ ff
        |succ j=>simp at hu;show (vs++dd)[bL.length+(j+1 - 1)]? =_;rw[are (by rw[g2.len];omega),g2.len,show bL.length+(j+1 - 1) - bL.length=j by omega];exact hu
       have nh:=OZ (Yu iE UQ cM nW) BU;have bE:bo X.G (([if qb=1 then (.recv p.2 (hL X p.2 xk) aqT:aL D) else if qb=2 then iu X vR outs (eW outs y) 0 else .dead]:List (aL D))++dL X outs (eW outs y)) z2 m m1 (aqP b) ([.pointer (aqP ⟨b,0,aqS⟩)]++dd):=bE;have ax:=bE.obj 0 _ (.pointer (aqP ⟨b,0,aqS⟩)) rfl rfl;have apart:∀(j:Nat) (o':aL D),j≠i->bL[j]? =aqP o'->o'.live=aqQ->∀v,vs[j]? =aqP v->en (c7 v) (aqP b):=fun j o' iD ar ai v ad=>g2.eE j i o' o v _ iD ar ah ai ej ad ff;have MT:∀(j:Nat) (o':aL D) (v:aqR),bL[j]? =aqP o'->vs[j]? =aqP v->o'.live=aqQ->∀c,c7 v=aqP c->c<m.next:=fun j o' v ah ad ai c ab=>((g2.obj j o' v ah ad).lt ai c ab).1;have fin:∀{ri:List (aL D)},Inv bL ri->bo X.G ri z2 e m1 k vs->(∀(j:Nat) (o':aL D) (v:aqR),ri[j]? =aqP o'->vs[j]? =aqP v->o'.live=aqQ->∀c,c7 v=aqP c->c<m.next)->K cY (ri++mkOr X (vY i bL.length) outs (eW outs y))=aqP r->c0 X O z e k vs K r (pack ((ly oE nC).map fu)) m1:=by intro ri ab4 aj aN fy;exact ⟨z2,vs++dd,cY,_,(g0.trans ab4).trans (Inv.app _ _),g1.trans (bt.Ew av.aO.next),im,after g2 aj bE rfl iE aN nW,nh.1,fy⟩
       have mM:∀{r0:aL D},r0.kW=aqQ->(∀v,vs[i]? =aqP v->fE X.G z2 e m1 k vs r0 v)->K cY (bL.set i r0++mkOr X (vY i bL.length) outs (eW outs y))=aqP r->c0 X O z e k vs K r (pack ((ly oE nC).map fu)) m1:=by
        intro r0 ao aj fy;refine fin (Inv.set bL i (.inr ao)) (g2.call bt s2 s1 (by simp) fun j o' ar=> ?_) (fun j o' v ar ad ai c ab=> ?_) fy
        ·rw[arp] at ar;split at ar
         ·rename_i cW;subst cW;simp[ab3] at ar;subst ar;exact .inr ⟨o,ah,ej,aj⟩
         ·rename_i cW;exact .inl ⟨ar,fun ai v ad=>apart j o' (fun e=>cW e.symm) ar ai v ad⟩
        ·rw[arp] at ar;split at ar
         ·rename_i cW;subst cW;exact MT i o v ah ad ej c ab
         ·exact MT j o' v ar ad ai c ab
       refine ⟨he,_,by rw[f5];exact b5,nh.2, ?_,fun aK=>absurd aK (by simp[bY.quiet]),aqP b,s2.TC, .inr ⟨i,W1 ae,_,ff,rfl⟩⟩;split at h
       ·rename_i rK;rw[if_neg (by omega),if_pos rK] at ax;split at h
        ·rename_i t cs w hu;obtain ⟨ao,h⟩:=eV h;rcases sc (X:=X) (aF:=outs) (x:=eW outs y) (j:=0) with aB|⟨_,bP,a',_,aB⟩
         ·rw[aB] at hu;cases hu
         ·cases bP with
          |recv db=>
           have aB:=aB vR;have k5:=aB;rw[hu] at aB;simp only[bA.fa] at aB;cases aB;subst ao;rw[k5] at ax;refine mM ?_ (fun v ad=> ?_) h
           ·unfold Dx;split<;>rfl
           ·rw[ff] at ad;cases ad;exact (xg ax).1
          |_=>rw[aB] at hu;cases hu
        ·cases h
       ·obtain ⟨rJ,h⟩:=eV h;rw[if_pos rJ] at ax;split at h
        ·rename_i hU;refine fin (Inv.refl bL) (g2.call bt s2 s1 rfl fun j o' ar=> ?_) MT h;by_cases iD:j=i
         ·subst iD;rw[ah] at ar;cases ar;exact .inr ⟨o,ah,ej,fun v ad=>by rw[ff] at ad;cases ad;exact (xg ax).2 hU rfl⟩
         ·exact .inl ⟨ar,fun ai v ad=>apart j o' iD ar ai v ad⟩
        ·refine mM ?_ (fun v ad=> ?_) h
         ·unfold Dx;split<;>rfl
         ·rw[ff] at ad;cases ad;exact (xg ax).1
      ·cases h
     ·cases h
    ·cases h
  ·cases h
 ·cases h
structure nK (D:Nat->Type) where
 d:bY D
 F:d.F
def bY.fits (X:dx P D) (d:bY D) (bM:List (aQ D)) (O:List (aL D)):Bool:=
 aq9 bM.length d.np&&match qu (kV 0 bM) d.ins O with
 |some (kG,bL)=>(d.eG.all fun p=>vi [] p.2 (eh (kV 0 bM) p.1))&&(gy X [] bL d.ins kG []).isSome
 |none=>aqT
def CO (X:dx P D):List (nK D)->Nat->List (aQ D)->List (aL D)->{af:Type}->(aQ D->List (aL D)->Option af)->Option af
 |[],_,_,_,_,_=>aqS
 |x::l,f,bM,O,_,K=>if (aq9 x.d.f f&&x.d.fits X bM O)=aqQ then x.d.call X x.F bM O K else CO X l f bM O K
def CU (X:dx P D):List (nK D)->Nat->List (aQ D)->List (aL D)->Bool
 |[],_,_,_=>aqT
 |x::l,f,bM,O=>if (aq9 x.d.f f&&x.d.fits X bM O)=aqQ then x.d.quiet else CU X l f bM O
structure iy (D:Nat->Type) where
 F:(f:Nat)->List (aQ D)->List (aL D)->Bool
 gr:aqX->Option aqX->Option aqX->Nat
 C:(f:Nat)->List (aQ D)->List (aL D)->{af:Type}->(aQ D->List (aL D)->Option af)->Option af
 W:(f:Nat)->Bool
def dx.eJ (X:dx P D) (q:iy D):dx P D:={X with C:=q.C,F:=q.F,gr:=q.gr,W:=q.W}
def dx.with (X:dx P D) (l:List (nK D)):dx P D:=X.eJ ⟨CU X l,X.gr,CO X l,X.W⟩
def dx.oJ (X:dx P D) (f:aqX->Option aqX->Option aqX->Nat):dx P D:=X.eJ ⟨X.F,f,X.C,X.W⟩
theorem agZ (l:iy D) (t:Nat):nG (X.eJ l) t=nG X t:=by
 cases cb:X.I t with
 |none=>have J:(X.eJ l).I t=aqS:=cb;unfold nG;rw[cb,J]
 |some ti=>have J:(X.eJ l).I t=aqP ti:=cb;unfold nG;rw[cb,J]
theorem we (l:iy D) (t:Nat) (x:D t):hL (X.eJ l) t x=hL X t x:=by
 cases cb:X.I t with
 |none=>have J:(X.eJ l).I t=aqS:=cb;unfold hL;rw[cb,J]
 |some ti=>have J:(X.eJ l).I t=aqP ti:=cb;unfold hL;rw[cb,J]
theorem tY (l:iy D) (t:Nat) (cs:List (bJ D)):kS (X.eJ l) t cs=kS X t cs:=by
 cases cb:X.I t with
 |none=>have J:(X.eJ l).I t=aqS:=cb;unfold kS;rw[cb,J]
 |some ti=>have J:(X.eJ l).I t=aqP ti:=cb;unfold kS;rw[cb,J]
theorem VQ (l:iy D):∀(ts:List Nat) (x:tO D ts),sf (X.eJ l) ts x=sf X ts x
 |[],_=>rfl
 |t::ts,x=>by show (t,hL (X.eJ l) t x.1)::sf (X.eJ l) ts x.2=(t,hL X t x.1)::sf X ts x.2;rw[VQ l ts x.2,we l t x.1]
theorem VP (l:iy D):∀(ts:List Nat) (x:List (Nat×List (bJ D))),wD (X.eJ l) ts x=wD X ts x
 |[],[]=>rfl
 |[],_::_=>rfl
 |_::_,[]=>rfl
 |t::ts,p::x=>by simp only[wD,VP l ts x,tY]
theorem e8.MX (l:iy D) (c:e8) (x:c.ty D):e8.mk (X.eJ l) c x=e8.mk X c x:=by
 cases c with
 |fn f ts=>exact congrArg (aQ.fn f) (VQ l ts x)
 |agg t=>exact congrArg (aQ.agg t) (we l t x)
 |gd t=>exact congrArg (fun cs=>aQ.gd t cs 0) (we l t x)
 |_=>rfl
theorem e8.EU (l:iy D) (c:e8) (s:aQ D):e8.get (X.eJ l) c s=e8.get X c s:=by
 unfold e8.get;split
 ·rfl
 ·rfl
 ·rfl
 ·rfl
 ·rfl
 ·rfl
 ·rfl
 ·rename_i t db cs;exact congrArg (fun q:Option (D t)=>if db=t then q else aqS) (tY l t cs)
 ·rename_i t db cs off;exact congrArg (fun q:Option (D t)=>if db=t/\off=0 then q else aqS) (tY l t cs)
 ·rename_i f ts jG cs;exact congrArg (fun q:Option (tO D ts)=>if jG=f then q else aqS) (VP l ts cs)
 ·rfl
 ·rfl
theorem bA.FP (l:iy D) (bU:Nat->Nat) (c:bA) (x:c.ty D) (w:Bool):bA.fa (X.eJ l) bU c x w=bA.fa X bU c x w:=by
 cases c with
 |box t=>exact congrArg (fun cs=>aL.box t cs aqT w) (we l t x)
 |recv t=>exact congrArg (fun cs=>aL.recv t cs w) (we l t x)
 |eP t p=>exact congrArg (fun cs=>aL.box t (ns bU p 0 cs) aqT w) (we l t x)
 |_=>rfl
theorem bA.MX (l:iy D) (c:bA) (x:c.ty D) (w:Bool):bA.mk (X.eJ l) c x w=bA.mk X c x w:=bA.FP l _ c x w
theorem bA.EU (l:iy D) (aZ:List Nat) (c:bA) (o:aL D):bA.get (X.eJ l) aZ c o=bA.get X aZ c o:=by
 unfold bA.get;split
 ·rfl
 ·rename_i t db cs w;exact congrArg (fun q:Option (D t)=>if db=t then q else aqS) (tY l t cs)
 ·rename_i t db cs w;exact congrArg (fun q:Option (D t)=>if db=t then q else aqS) (tY l t cs)
 ·rfl
 ·rfl
 ·rename_i t p db cs w;rw[agZ];exact congrArg (fun q:Option (D t)=>if db=t/\Df aZ cs p=aqQ then q else aqS) (tY l t (pW (nG X t) p 0 cs))
 ·rfl
 ·rfl
 ·rfl
theorem af5 (l:iy D) (t:Nat) (o:Option (aL D)):zO (X.eJ l) t o=zO X t o:=by
 unfold zO;split
 ·rw[tY]
 ·rw[tY]
 ·rfl
theorem CK (l:iy D) {eN:List Nat}:∀(aF:List dk) (kG:List (aQ D)) (aZ:List Nat),gy (X.eJ l) eN O aF kG aZ=gy X eN O aF kG aZ
 |[],_,[]=>rfl
 |[],_,_::_=>by simp[gy]
 | .v _ _::_,[],_=>by simp[gy]
 | .o _ _::_,[],_=>by simp[gy]
 | .u _ _::_,[],_=>by simp[gy]
 | .v d c::aF,s::kG,aZ=>by simp only[gy,e8.EU,CK l aF kG aZ]
 | .o d c::aF,s::kG,[]=>rfl
 | .o d c::aF,s::kG,i::aZ=>by simp only[gy,bA.EU,CK l aF kG aZ]
 | .u d c::aF,s::kG,aZ=>by simp only[gy,bA.EU,CK l aF kG aZ]
theorem OA (l:iy D):∀(aF:List dk) (x:ez D aF),dL (X.eJ l) aF x=dL X aF x
 |[],_=>rfl
 | .v d c::aF,x=>OA l aF x.2
 | .u d c::aF,x=>OA l aF x.2
 | .o d c::aF,x=>by show bA.mk (X.eJ l) c x.1 aqT::dL (X.eJ l) aF x.2=bA.mk X c x.1 aqT::dL X aF x.2;rw[OA l aF x.2];exact congrArg (fun q=>q::dL X aF x.2) (bA.MX l c x.1 aqT)
theorem y2 (l:iy D) {bU:Nat->Nat}:∀(aF:List dk) (x:ez D aF),mkOr (X.eJ l) bU aF x=mkOr X bU aF x
 |[],_=>rfl
 | .v d c::aF,x=>y2 l aF x.2
 | .u d c::aF,x=>y2 l aF x.2
 | .o d c::aF,x=>by show bA.fa (X.eJ l) bU c x.1 aqT::mkOr (X.eJ l) bU aF x.2=bA.fa X bU c x.1 aqT::mkOr X bU aF x.2;rw[y2 l aF x.2];exact congrArg (fun q=>q::mkOr X bU aF x.2) (bA.FP l bU c x.1 aqT)
theorem zc (l:iy D):∀(aF:List dk) (x:ez D aF),gw (X.eJ l) aF x=gw X aF x
 |[],_=>rfl
 | .v d c::aF,x=>by show (d,e8.mk (X.eJ l) c x.1)::gw (X.eJ l) aF x.2=(d,e8.mk X c x.1)::gw X aF x.2;rw[zc l aF x.2];exact congrArg (fun q=>(d,q)::gw X aF x.2) (e8.MX l c x.1)
 | .u d c::aF,x=>zc l aF x.2
 | .o d c::aF,x=>zc l aF x.2
theorem Cj (l:iy D) {bU:Nat->Nat}:∀(aF:List dk) (x:ez D aF) (j:Nat),iu (X.eJ l) bU aF x j=iu X bU aF x j
 |[],_,_=>rfl
 | .v d c::aF,x,j=>Cj l aF x.2 j
 | .u d c::aF,x,j=>by show (if aq9 d j=aqQ then bA.fa (X.eJ l) bU c x.1 aqQ else iu (X.eJ l) bU aF x.2 j)=(if aq9 d j=aqQ then bA.fa X bU c x.1 aqQ else iu X bU aF x.2 j);rw[Cj l aF x.2 j];exact congrArg (fun q=>if aq9 d j=aqQ then q else iu X bU aF x.2 j) (bA.FP l bU c x.1 aqQ)
 | .o d c::aF,x,j=>Cj l aF x.2 j
theorem Cr (l:iy D) (d:bY D) (F:d.F) (bM:List (aQ D)) (O:List (aL D)) {af:Type} (K:aQ D->List (aL D)->Option af):d.call (X.eJ l) F bM O K=d.call X F bM O K:=by
 obtain ⟨f,np,ins,eG,h5,qb,outs,lj,ch,flat⟩:=d;unfold bY.call;dsimp only;simp only[CK];cases h5 with
 |none=>simp only[CT,zc,y2]
 |some p=>simp only[CT,zc,y2,Cj,af5,we]
theorem fQ.oJ {f:aqX->Option aqX->Option aqX->Nat} (h:fQ X):fQ (X.oJ f):=h
theorem bX.oJ {f:aqX->Option aqX->Option aqX->Nat} {d:bY D} {F:d.F} (h:bX (X.oJ f) d F):bX X d F:=by
 intro bM O af K r z e m k vs args av cB ab;rw[<-Cr ⟨X.F,f,X.C,X.W⟩] at ab;exact h bM O K r args av cB ab
def dx.sub (X:dx P D) (x:nK D):dx P D:=X.eJ ⟨fun f bM O=>if aq9 x.d.f f=aqQ then aqT else X.F f bM O,X.gr,fun f bM O _ K=>if aq9 x.d.f f=aqQ then x.d.call X x.F bM O K else X.C f bM O K,X.W⟩
theorem fQ.sub {x:nK D} (h:fQ X) (U:bX X x.d x.F):fQ (X.sub x):=by
 intro f bM O af K r z e m k vs args av cB ab;have ab:(if aq9 x.d.f f=aqQ then x.d.call X x.F bM O K else X.C f bM O K)=aqP r:=ab;have cG:(X.sub x).F f bM O=if aq9 x.d.f f=aqQ then aqT else X.F f bM O:=rfl
 rw[cG];split at ab
 ·rename_i aP;rw[if_pos aP];have aP:=aru aP;rw[<-aP];exact (U bM O K r args av cB ab).mono fun v m' h=>⟨h.1,fun ax=>atL ax,fun _=>h.2.2⟩
 ·rename_i aP;rw[if_neg aP];exact h f bM O K r args av cB ab
theorem bX.sub {x:nK D} {d:bY D} {F:d.F} (h:bX (X.sub x) d F):bX X d F:=by
 intro bM O af K r z e m k vs args av cB ab;unfold dx.sub at h;rw[<-Cr ⟨fun f bM O=>if aq9 x.d.f f=aqQ then aqT else X.F f bM O,X.gr,fun f bM O _ K=>if aq9 x.d.f f=aqQ then x.d.call X x.F bM O K else X.C f bM O K,X.W⟩] at ab;exact h bM O K r args av cB ab
def FY {ap:Type} (a b:Option ap):Option ap:=match a with|some r=>aqP r|none=>b
theorem ajg {ap:Type} {a b:Option ap} {y:ap} (h:FY a b=aqP y):a=aqP y\/b=aqP y:=by
 unfold FY at h;split at h
 ·exact .inl h
 ·exact .inr h
theorem bX.or {d:bY D} {F Ax Ay:d.F} (aw:d.h5=aqS) (cG:∀r x y,F r x=aqP y->Ax r x=aqP y\/Ay r x=aqP y) (h1:bX X d Ax) (J:bX X d Ay):bX X d F:=by
 intro bM O af K r z e m k vs args av cB ab;have key:d.call X Ax bM O K=aqP r\/d.call X Ay bM O K=aqP r:=by
  obtain ⟨f,np,ins,eG,h5,qb,outs,lj,nC,flat⟩:=d;unfold bY.call at ab⊢;obtain ⟨aq,ab⟩:=eV ab;rw[if_pos aq,if_pos aq];split at ab
  ·rename_i kG bL aP;obtain ⟨U,ab⟩:=eV ab;simp only[aP,if_pos U];split at ab
   ·rename_i x aa;simp only[aa];cases h5 with
    |none=>
     unfold CT at ab⊢;obtain ⟨y,ag,ab⟩:=bind_some ab;rcases cG () x y ag with g|g
     ·left;show aqU (Ax () x) _=aqP r;rw[g];exact ab
     ·right;show aqU (Ay () x) _=aqP r;rw[g];exact ab
    |some p=>cases aw
   ·cases ab
  ·cases ab
 rcases key with hk|hk
 ·exact h1 bM O K r args av cB hk
 ·exact J bM O K r args av cB hk
theorem bX.up {l:List (nK D)} {d:bY D} {F:d.F} (h:bX X d F):bX (X.with l) d F:=by
 intro bM O af K r z e m k vs args av cB ab;have ab:d.call (X.eJ ⟨CU X l,X.gr,CO X l,X.W⟩) F bM O K=aqP r:=ab;rw[Cr] at ab;exact h bM O K r args av cB ab
theorem Wn {f:Nat} {bM:List (aQ D)} {K:aQ D->List (aL D)->Option af} {args:List aqR} (av:bo X.G O z e m k vs) (cB:ba (rel X.G z vs) bM args):∀{l:List (nK D)},(∀x∈l,bX X x.d x.F)->CO X l f bM O K=aqP r->hx P f args.toArray m fun v m'=>c0 X O z e k vs K r v m'/\(CU X l f bM O=aqQ->m'=m)/\∃q,fq m m' q/\mR vs (p2 bM) q
 |[],_,ab=>by cases ab
 |x::l,h,ab=>by
  unfold CO at ab;unfold CU;split at ab
  ·rename_i U;rw[if_pos U];simp only[aq5] at U;have:=aru U.1;subst this;exact h x arn bM O K r args av cB ab
  ·rename_i U;rw[if_neg U];exact Wn av cB (fun y ag=>h y (ard _ ag)) ab
theorem fQ.of {l:List (nK D)} (h:∀x∈l,bX X x.d x.F):fQ (X.with l):=by
 intro f bM O af K r z e m k vs args av cB ab;exact (Wn (X:=X) av cB h ab).mono fun v m' ax=>⟨ax.1,ax.2.1,fun _=>ax.2.2⟩
theorem ae7 {l:List (nK D)} {x:nK D} (h:bX X x.d x.F) (ai:∀y∈l,bX X y.d y.F):∀y∈x::l,bX X y.d y.F:=by
 intro y ag;rcases aq6.1 ag with rfl|ag
 ·exact h
 ·exact ai y ag
end
end
end Go.aS
end
section
namespace Go.aS
inductive LT:Type 1 where
 |int (k:aqW)|bool|str
 |ay (ap:Type) (T:cf ap)
 |mp (ap bx:Type) (M:nL ap bx)
 |fn
def LT.ty:LT->Type
 | .int _=>Int
 | .bool=>Bool
 | .str=>List UInt8
 | .ay ap _=>List ap
 | .mp ap bx _=>List (ap×bx)
 | .fn=>Option Nat
def TM:Option Nat->aqR
 |none=> .nilFunc
 |some n=> .func (.func n) #[] #[]
def LT.rd (z:Nat->a6):(l:LT)->l.ty->aqR->Prop
 | .int k,n,v=>v= .int k n
 | .bool,b,v=>v= .bool b
 | .str,s,v=>v=aS.str s
 | .ay _ T,xs,v=>ev T z xs v
 | .mp _ _ M,es,v=>kD M z es v
 | .fn,o,v=>v=TM o
def gu:List LT->Type
 |[]=>Unit
 |l::ls=>l.ty×gu ls
def ot (z:Nat->a6):(ls:List LT)->gu ls->List aqR->Prop
 |[],_,[]=>True
 |l::ls,x,v::vs=>l.rd z x.1 v/\ot z ls x.2 vs
 |_,_,_=>False
theorem Yf {z:Nat->a6}:∀{ls:List LT} {x:gu ls} {cs:List aqR},ot z ls x cs->cs.length=ls.length
 |[],_,[],_=>rfl
 |l::ls,x,v::vs,h=>by simp[Yf h.2]
 |[],_,_::_,h=>h.elim
 |_::_,_,[],h=>h.elim
theorem Xb {z z':Nat->a6} (aE:ew z z'):∀{ls:List LT} {x:gu ls} {cs:List aqR},ot z ls x cs->ot z' ls x cs
 |[],_,[],_=>trivial
 |l::ls,x,v::vs,h=>⟨by
  have h1:=h.1;cases l with
  |ay ap T=>exact ev.mono aE h1
  |mp ap bx M=>exact kD.mono h1 aE
  |_=>exact h1,Xb aE h.2⟩
 |[],_,_::_,h=>h.elim
 |_::_,_,[],h=>h.elim
theorem Yg {z:Nat->a6}:∀{ls:List LT} {x:gu ls} {cs:List aqR},ot z ls x cs->∀c∈cs,storable c=aqQ/\c.cells=#[c]
 |[],_,[],_,c,ab=>by simp at ab
 |l::ls,x,v::vs,h,c,ab=>by
  rcases aq6.1 ab with rfl|ab
  ·have h1:=h.1;cases l with
   |ay ap T=>obtain ⟨a,c,rfl⟩:=ev.len h1;exact ⟨rfl,rfl⟩
   |mp ap bx M=>rcases h1 with ⟨rfl,_⟩|⟨r,rfl,_⟩<;>exact ⟨rfl,rfl⟩
   |fn=>obtain ⟨x,y⟩:=x;cases x<;>(obtain rfl:=h1;exact ⟨rfl,rfl⟩)
   |_=>obtain rfl:=h1;exact ⟨rfl,rfl⟩
  ·exact Yg h.2 c ab
 |[],_,_::_,h,_,_=>h.elim
 |_::_,_,[],h,_,_=>h.elim
def ha (t:aqY) (ls:List LT) {ap:Type} (to:ap->gu ls):cf ap where
 a1:=ls.length
 tid:=t
 rd:=fun z x cs=>ot z ls (to x) cs
 len:=fun _ _ _ h=>Yf h
 mono:=fun _ _ aE _ _ h=>Xb aE h
 one:=fun _ _ _ h=>Yg h
noncomputable section
inductive hQ where
 |int (k:aqW)|bool|str
 |ay (e:Nat)
 |mp (t kt vt:Nat)
 |fn
section
variable {P:aqV} {D:Nat->Type} (G:lG D)
def EN:Option Nat->bJ D
 |none=> .vX
 |some n=> .fn n []
def hQ.lt:hQ->LT
 | .int k=> .int k
 | .bool=> .bool
 | .str=> .str
 | .ay e=> .ay (D e) (G.T e)
 | .mp t kt vt=> .mp (D kt) (D vt) (G.M t kt vt)
 | .fn=> .fn
def fj:List hQ->List LT
 |[]=>[]
 |c::cs=>c.lt G::fj cs
def ik:(ls:List hQ)->gu (fj G ls)->List (bJ D)
 |[],_=>[]
 | .int k::ls,x=> .int k x.1::ik ls x.2
 | .bool::ls,x=> .bool x.1::ik ls x.2
 | .str::ls,x=> .str x.1::ik ls x.2
 | .ay e::ls,x=> .ay e x.1::ik ls x.2
 | .mp t kt vt::ls,x=> .mp t kt vt x.1::ik ls x.2
 | .fn::ls,x=>EN x.1::ik ls x.2
def hM:(ls:List hQ)->List (bJ D)->Option (gu (fj G ls))
 |[],[]=>aqP ()
 | .int k::ls, .int dc n::cs=>if dc=k then (match hM ls cs with|some y=>aqP (n,y)|none=>aqS) else aqS
 | .bool::ls, .bool b::cs=>(match hM ls cs with|some y=>aqP (b,y)|none=>aqS)
 | .str::ls, .str s::cs=>(match hM ls cs with|some y=>aqP (s,y)|none=>aqS)
 | .ay e::ls, .ay bw xs::cs=>if h:bw=e then (match hM ls cs with|some y=>aqP ((h▸xs:List (D e)),y)|none=>aqS) else aqS
 | .ay e::ls, .fv::cs=>(match hM ls cs with|some y=>aqP (([]:List (D e)),y)|none=>aqS)
 | .mp t kt vt::ls, .mp db ih iw es::cs=>if h:ih=kt/\iw=vt then (if db=t then (match hM ls cs with|some y=>aqP ((h.1▸h.2▸es:List (D kt×D vt)),y)|none=>aqS) else aqS) else aqS
 | .mp t kt vt::ls, .oa::cs=>(match hM ls cs with|some y=>aqP (([]:List (D kt×D vt)),y)|none=>aqS)
 | .fn::ls, .vX::cs=>(match hM ls cs with|some y=>aqP ((aqS:Option Nat),y)|none=>aqS)
 | .fn::ls, .fn n []::cs=>(match hM ls cs with|some y=>aqP ((aqP n:Option Nat),y)|none=>aqS)
 |_,_=>aqS
variable {G}
theorem aij {z:Nat->a6} {vs:List aqR} {o:Option Nat} {v:aqR} (h:v=TM o):dj G z vs (EN o) v:=by
 cases o with
 |none=>exact h
 |some n=>exact ⟨[],h,trivial⟩
theorem wF {z:Nat->a6} {vs:List aqR}:∀{ls:List hQ} {x:gu (fj G ls)} {cs:List aqR},ot z (fj G ls) x cs->ba (dj G z vs) (ik G ls x) cs
 |[],_,[],_=>trivial
 | .int k::ls,x,v::w,h=>⟨h.1,wF h.2⟩
 | .bool::ls,x,v::w,h=>⟨h.1,wF h.2⟩
 | .str::ls,x,v::w,h=>⟨h.1,wF h.2⟩
 | .ay e::ls,x,v::w,h=>⟨h.1,wF h.2⟩
 | .mp t kt vt::ls,x,v::w,h=>⟨h.1,wF h.2⟩
 | .fn::ls,x,v::w,h=>⟨aij h.1,wF h.2⟩
 | .mp _ _ _::_,_,[],h=>h.elim
 | .fn::_,_,[],h=>h.elim
 |[],_,_::_,h=>h.elim
 | .int _::_,_,[],h=>h.elim
 | .bool::_,_,[],h=>h.elim
 | .str::_,_,[],h=>h.elim
 | .ay _::_,_,[],h=>h.elim
theorem uo:∀{ls:List hQ} (x:gu (fj G ls)),hM G ls (ik G ls x)=aqP x
 |[],_=>rfl
 | .int k::ls,x=>by show (if k=k then (match hM G ls (ik G ls x.2) with|some y=>aqP (x.1,y)|none=>aqS) else aqS)=_;rw[uo x.2,if_pos rfl];rfl
 | .bool::ls,x=>by show (match hM G ls (ik G ls x.2) with|some y=>aqP (x.1,y)|none=>aqS)=_;rw[uo x.2];rfl
 | .str::ls,x=>by show (match hM G ls (ik G ls x.2) with|some y=>aqP (x.1,y)|none=>aqS)=_;rw[uo x.2];rfl
 | .ay e::ls,x=>by show (if h:e=e then (match hM G ls (ik G ls x.2) with|some y=>aqP ((h▸x.1:List (D e)),y)|none=>aqS) else aqS)=_;rw[uo x.2,dif_pos rfl];rfl
 | .mp t kt vt::ls,x=>by show (if h:kt=kt/\vt=vt then (if t=t then (match hM G ls (ik G ls x.2) with|some y=>aqP ((h.1▸h.2▸x.1:List (D kt×D vt)),y)|none=>aqS) else aqS) else aqS)=_;rw[uo x.2,dif_pos ⟨rfl,rfl⟩,if_pos rfl];rfl
 | .fn::ls,(aqS,y)=>by show (match hM G ls (ik G ls y) with|some y=>aqP ((aqS:Option Nat),y)|none=>aqS)=_;rw[uo y];rfl
 | .fn::ls,(aqP n,y)=>by show (match hM G ls (ik G ls y) with|some y=>aqP ((aqP n:Option Nat),y)|none=>aqS)=_;rw[uo y];rfl
theorem ajj {z:Nat->a6} {vs:List aqR}:∀{ls:List hQ} {cs:List (bJ D)} {x:gu (fj G ls)} {ds:List aqR},hM G ls cs=aqP x->ba (dj G z vs) cs ds->ot z (fj G ls) x ds:=by
 intro ls;induction ls with
 |nil=>
  intro cs x ds h aw;cases cs with
  |nil=>cases ds with
   |nil=>trivial
   |cons _ _=>exact aw.elim
  |cons c cs=>cases h
 |cons l ls a8=>
  intro cs x ds h aw;cases cs with
  |nil=>cases l<;>cases h
  |cons c cs=>
   cases ds with
   |nil=>exact aw.elim
   |cons d ds=>
    obtain ⟨h1,J⟩:=aw;have fin:∀{ap:Type} {f:gu (fj G ls)->ap} {o:Option (gu (fj G ls))} {r:ap},(match o with|some y=>aqP (f y)|none=>aqS)=aqP r->∃y,o=aqP y/\r=f y:=by
     intro ap f o r h;cases o with
     |none=>cases h
     |some y=>cases h;exact ⟨y,rfl,rfl⟩
    cases l with
    |int k=>
     cases c with
     |int dc n=>obtain ⟨hk,h⟩:=eV (ap:=gu (fj G (.int k::ls))) h;subst hk;obtain ⟨y,ag,rfl⟩:=fin h;exact ⟨h1,a8 ag J⟩
     |_=>cases h
    |bool=>
     cases c with
     |bool n=>obtain ⟨y,ag,rfl⟩:=fin h;exact ⟨h1,a8 ag J⟩
     |_=>cases h
    |str=>
     cases c with
     |str n=>obtain ⟨y,ag,rfl⟩:=fin h;exact ⟨h1,a8 ag J⟩
     |_=>cases h
    |ay t=>
     cases c with
     |ay bw xs=>
      by_cases hk:bw=t
      ·subst hk;have h:(if h:bw=bw then (match hM G ls cs with|some y=>aqP ((h▸xs:List (D bw)),y)|none=>aqS) else aqS)=aqP x:=h;rw[dif_pos rfl] at h;obtain ⟨y,ag,rfl⟩:=fin h;exact ⟨h1,a8 ag J⟩
      ·have h:(if h:bw=t then (match hM G ls cs with|some y=>aqP ((h▸xs:List (D t)),y)|none=>aqS) else aqS)=aqP x:=h;rw[dif_neg hk] at h;cases h
     |fv=>obtain ⟨y,ag,rfl⟩:=fin h;exact ⟨.inl ⟨h1,rfl⟩,a8 ag J⟩
     |_=>cases h
    |mp t kt vt=>
     cases c with
     |mp db ih iw es=>
      by_cases hk:ih=kt/\iw=vt
      ·obtain ⟨rfl,rfl⟩:=hk;have h:(if h:ih=ih/\iw=iw then (if db=t then (match hM G ls cs with|some y=>aqP ((h.1▸h.2▸es:List (D ih×D iw)),y)|none=>aqS) else aqS) else aqS)=aqP x:=h;rw[dif_pos ⟨rfl,rfl⟩] at h;obtain ⟨hk,h⟩:=eV h;subst hk;obtain ⟨y,ag,rfl⟩:=fin h;exact ⟨h1,a8 ag J⟩
      ·have h:(if h:ih=kt/\iw=vt then (if db=t then (match hM G ls cs with|some y=>aqP ((h.1▸h.2▸es:List (D kt×D vt)),y)|none=>aqS) else aqS) else aqS)=aqP x:=h;rw[dif_neg hk] at h;cases h
     |oa=>obtain ⟨y,ag,rfl⟩:=fin h;exact ⟨.inl ⟨h1,rfl⟩,a8 ag J⟩
     |_=>cases h
    |fn=>
     cases c with
     |vX=>obtain ⟨y,ag,rfl⟩:=fin h;exact ⟨h1,a8 ag J⟩
     |fn n is=>
      cases is with
      |nil=>
       obtain ⟨y,ag,rfl⟩:=fin h;obtain ⟨gs,g1,g2⟩:=h1;cases gs with
       |nil=>exact ⟨g1,a8 ag J⟩
       |cons _ _=>exact g2.elim
      |cons _ _=>cases h
     |_=>cases h
theorem amz:∀{ls:List hQ} {cs:List (bJ D)} {x:gu (fj G ls)},hM G ls cs=aqP x->oC cs (ik G ls x):=by
 intro ls;induction ls with
 |nil=>
  intro cs x h;cases cs with
  |nil=>trivial
  |cons c cs=>cases h
 |cons l ls a8=>
  intro cs x h;cases cs with
  |nil=>cases l<;>cases h
  |cons c cs=>
   have fin:∀{ap:Type} {f:gu (fj G ls)->ap} {o:Option (gu (fj G ls))} {r:ap},(match o with|some y=>aqP (f y)|none=>aqS)=aqP r->∃y,o=aqP y/\r=f y:=by
    intro ap f o r h;cases o with
    |none=>cases h
    |some y=>cases h;exact ⟨y,rfl,rfl⟩
   cases l with
   |int k=>
    cases c with
    |int dc n=>obtain ⟨hk,h⟩:=eV (ap:=gu (fj G (.int k::ls))) h;subst hk;obtain ⟨y,ag,rfl⟩:=fin h;exact ⟨fun _=>rfl,a8 ag⟩
    |_=>cases h
   |bool=>
    cases c with
    |bool n=>obtain ⟨y,ag,rfl⟩:=fin h;exact ⟨fun _=>rfl,a8 ag⟩
    |_=>cases h
   |str=>
    cases c with
    |str n=>obtain ⟨y,ag,rfl⟩:=fin h;exact ⟨fun _=>rfl,a8 ag⟩
    |_=>cases h
   |ay t=>
    cases c with
    |ay bw xs=>
     by_cases hk:bw=t
     ·subst hk;have h:(if h:bw=bw then (match hM G ls cs with|some y=>aqP ((h▸xs:List (D bw)),y)|none=>aqS) else aqS)=aqP x:=h;rw[dif_pos rfl] at h;obtain ⟨y,ag,rfl⟩:=fin h;exact ⟨fun _=>rfl,a8 ag⟩
     ·have h:(if h:bw=t then (match hM G ls cs with|some y=>aqP ((h▸xs:List (D t)),y)|none=>aqS) else aqS)=aqP x:=h;rw[dif_neg hk] at h;cases h
    |fv=>obtain ⟨y,ag,rfl⟩:=fin h;exact ⟨fun h=>(by cases h),a8 ag⟩
    |_=>cases h
   |mp t kt vt=>
    cases c with
    |mp db ih iw es=>
     by_cases hk:ih=kt/\iw=vt
     ·obtain ⟨rfl,rfl⟩:=hk;have h:(if h:ih=ih/\iw=iw then (if db=t then (match hM G ls cs with|some y=>aqP ((h.1▸h.2▸es:List (D ih×D iw)),y)|none=>aqS) else aqS) else aqS)=aqP x:=h;rw[dif_pos ⟨rfl,rfl⟩] at h;obtain ⟨hk,h⟩:=eV h;subst hk;obtain ⟨y,ag,rfl⟩:=fin h;exact ⟨fun _=>rfl,a8 ag⟩
     ·have h:(if h:ih=kt/\iw=vt then (if db=t then (match hM G ls cs with|some y=>aqP ((h.1▸h.2▸es:List (D kt×D vt)),y)|none=>aqS) else aqS) else aqS)=aqP x:=h;rw[dif_neg hk] at h;cases h
    |oa=>obtain ⟨y,ag,rfl⟩:=fin h;exact ⟨fun h=>(by cases h),a8 ag⟩
    |_=>cases h
   |fn=>
    cases c with
    |vX=>obtain ⟨y,ag,rfl⟩:=fin h;exact ⟨fun _=>rfl,a8 ag⟩
    |fn n is=>
     cases is with
     |nil=>obtain ⟨y,ag,rfl⟩:=fin h;exact ⟨fun _=>rfl,a8 ag⟩
     |cons _ _=>cases h
    |_=>cases h
theorem Qv:∀{ls:List hQ},(fj G ls).length=ls.length
 |[]=>rfl
 |l::ls=>by simp[fj,Qv]
def pr:List hQ->List (bJ D)
 |[]=>[]
 | .int k::ls=> .int k 0::pr ls
 | .bool::ls=> .bool aqT::pr ls
 | .str::ls=> .str []::pr ls
 | .ay _::ls=> .fv::pr ls
 | .mp _ _ _::ls=> .oa::pr ls
 | .fn::ls=> .vX::pr ls
def uZ:List hQ->List aqR
 |[]=>[]
 | .int k::ls=> .int k 0::uZ ls
 | .bool::ls=> .bool aqT::uZ ls
 | .str::ls=> .string ⟨#[]⟩::uZ ls
 | .ay _::ls=> .slice aqS 0 0::uZ ls
 | .mp _ _ _::ls=> .map aqS::uZ ls
 | .fn::ls=> .nilFunc::uZ ls
theorem wH {z:Nat->a6} {vs:List aqR}:∀{ls:List hQ},ba (dj G z vs) (pr ls:List (bJ D)) (uZ ls)
 |[]=>trivial
 | .int k::ls=>⟨rfl,wH⟩
 | .bool::ls=>⟨rfl,wH⟩
 | .str::ls=>⟨rfl,wH⟩
 | .ay _::ls=>⟨rfl,wH⟩
 | .mp _ _ _::ls=>⟨rfl,wH⟩
 | .fn::ls=>⟨rfl,wH⟩
theorem ug:∀{ls:List hQ} {x:gu (fj G ls)},(ik G ls x).all o0=aqQ
 |[],_=>rfl
 | .int k::ls,x=>by simp only[ik,arL,ug,o0,asC]
 | .bool::ls,x=>by simp only[ik,arL,ug,o0,asC]
 | .str::ls,x=>by simp only[ik,arL,ug,o0,asC]
 | .ay _::ls,x=>by simp only[ik,arL,ug,o0,asC]
 | .mp _ _ _::ls,x=>by simp only[ik,arL,ug,o0,asC]
 | .fn::ls,(aqS,y)=>by simp only[ik,EN,arL,ug,o0,asC]
 | .fn::ls,(aqP n,y)=>by simp only[ik,EN,arL,ug,o0,List.isEmpty,asC]
def h6 {t:Nat} (ls:List hQ) (to:D t->gu (fj G ls)) (of:gu (fj G ls)->D t) (h1:∀x,of (to x)=x) (J:∀y,to (of y)=y) (x0:D t) (i:TypeInfo) (b8:aqR)
  (hI:G.T t=ha t (fj G ls) to) (ae:P.info? t=aqP i) (bC:i.size=ls.length) (dS:(ls.length==0)=aqT) (fX:art i.bytes 32768=aqQ) (aE:i.zero=aqP b8) (cg:b8.cells.toList.all cv=aqQ) (dp:b8.cells.size=i.size)
  (xh:∀z,ot z (fj G ls) (to x0) b8.cells.toList) (hg:b8.cells.toList=uZ ls):ft P G t where
 qk:=pr ls
 rV:=fun z vs=>by rw[hg];exact wH
 MU:=fun x=>ug
 lh:=fun x=>ik G ls (to x)
 o4:=fun cs=>match hM G ls cs with|some y=>aqP (of y)|none=>aqS
 x0:=x0
 i:=i
 b8:=b8
 tid:=by rw[hI];rfl
 ae:=ae
 bC:=by rw[hI,bC];exact Qv.symm
 dS:=by rw[hI];show ((fj G ls).length==0)=aqT;rw[Qv];exact dS
 fX:=fX
 aE:=aE
 cg:=cg
 dp:=dp
 xh:=fun z=>by rw[hI];exact xh z
 q4:=fun z vs x cs h=>by rw[hI] at h;exact wF h
 qR:=fun z vs cs x ds h aw=>by
  rw[hI];split at h
  ·rename_i y ag;cases h;show ot z (fj G ls) (to (of y)) ds;rw[J];exact ajj ag aw
  ·cases h
 Nb:=fun x=>by show (match hM G ls (ik G ls (to x)) with|some y=>aqP (of y)|none=>aqS)=aqP x;rw[uo];exact congrArg aqP (h1 x)
 F0:=fun cs x h=>by
  split at h
  ·rename_i y ag;cases h;rw[J];exact amz ag
  ·cases h
theorem afY (u:UInt8):ov (u.toNat:Int)=aqP u:=by
 unfold ov;have:=u.toNat_lt;rw[if_pos (by omega)];simp
def anI {t:Nat} (to:D t->UInt8) (of:UInt8->D t) (Vq:Option UInt8->Option (D t)) (Mp:∀o,Vq o=o.map of) (h1:∀x,of (to x)=x) (J:∀y,to (of y)=y) (i:TypeInfo) (ada:(G.T t).tid=t) (qJ:(G.T t).a1=1) (dE:∀z x cs,(G.T t).rd z x cs↔cs=[.int .u8 (to x).toNat])
  (ae:P.info? t=aqP i) (bC:i.size=1) (fX:art i.bytes 32768=aqQ) (aE:i.zero=aqP (.int .u8 0)):ft P G t where
 qk:=[.int .u8 0]
 rV:=fun z vs=>⟨rfl,trivial⟩
 MU:=fun x=>rfl
 lh:=fun x=>[.int .u8 (to x).toNat]
 o4:=fun cs=>match cs with|[.int .u8 n]=>Vq (ov n)|_=>aqS
 x0:=of 0
 i:=i
 b8:= .int .u8 0
 tid:=ada
 ae:=ae
 bC:=by rw[qJ,bC]
 dS:=by rw[qJ];rfl
 fX:=fX
 aE:=aE
 cg:=rfl
 dp:=by rw[bC];rfl
 xh:=fun z=>(dE z _ _).2 (by rw[J];rfl)
 q4:=fun z vs x cs h=>by rw[(dE z x cs).1 h];exact ⟨rfl,trivial⟩
 qR:=fun z vs cs x ds h aw=>by
  split at h
  ·rename_i n;cases ds with
   |nil=>exact aw.elim
   |cons d ds=>
    cases ds with
    |cons _ _=>exact aw.2.elim
    |nil=>
     rw[Mp] at h;cases hu:ov n with
     |none=>rw[hu] at h;cases h
     |some u=>rw[hu] at h;cases h;have:d= .int .u8 n:=aw.1;rw[this,WW hu];exact (dE z _ _).2 (by rw[J])
  ·cases h
 Nb:=fun x=>by simp only[afY,Mp,asv,h1]
 F0:=fun cs x h=>by
  split at h
  ·rename_i n;rw[Mp] at h;cases hu:ov n with
   |none=>rw[hu] at h;cases h
   |some u=>rw[hu] at h;cases h;rw[J,WW hu];exact oC.refl _
  ·cases h
def fJ:(ls:List hQ)->gu (fj G ls)->List aqR
 |[],_=>[]
 | .int k::ls,x=> .int k x.1::fJ ls x.2
 | .bool::ls,x=> .bool x.1::fJ ls x.2
 | .str::ls,x=>aS.str x.1::fJ ls x.2
 | .ay _::ls,x=>undef::fJ ls x.2
 | .mp _ _ _::ls,x=>undef::fJ ls x.2
 | .fn::ls,x=>undef::fJ ls x.2
def lu (P:aqV):List Field->Nat->List hQ->Bool
 |[],_,[]=>aqQ
 | f :: bc, i, .int _ :: ls => (f.offset == i && f.name != "_") && ((match P.underlying f.type with | aqP (.int _) => aqQ | _ => aqT) && lu P bc (i + 1) ls)
 | f :: bc, i, .bool :: ls => (f.offset == i && f.name != "_") && ((match P.underlying f.type with | aqP .bool => aqQ | _ => aqT) && lu P bc (i + 1) ls)
 | f :: bc, i, .str :: ls => (f.offset == i && f.name != "_") && ((match P.underlying f.type with | aqP .string => aqQ | _ => aqT) && lu P bc (i + 1) ls)
 |_,_,_=>aqT
theorem Cy:∀{bc:List Field} {i:Nat} {ls:List hQ} {x y:gu (fj G ls)},lu P bc i ls=aqQ->me P bc i (fJ ls x) (fJ ls y)
 |[],_,[],_,_,_=>trivial
 |f::bc,i, .int k::ls,x,y,h=>by
  simp only[lu,aq5,beq_iff_eq,bne_iff_ne] at h;obtain ⟨⟨h1,J⟩,aj,aM⟩:=h;refine ⟨h1,J, .inl ?_,Cy aM⟩;split at aj
  ·exact ⟨k,_,_,_,‹_›,rfl,rfl⟩
  ·cases aj
 |f::bc,i, .bool::ls,x,y,h=>by
  simp only[lu,aq5,beq_iff_eq,bne_iff_ne] at h;obtain ⟨⟨h1,J⟩,aj,aM⟩:=h;refine ⟨h1,J, .inr (.inl ?_),Cy aM⟩;split at aj
  ·exact ⟨_,_,‹_›,rfl,rfl⟩
  ·cases aj
 |f::bc,i, .str::ls,x,y,h=>by
  simp only[lu,aq5,beq_iff_eq,bne_iff_ne] at h;obtain ⟨⟨h1,J⟩,aj,aM⟩:=h;refine ⟨h1,J, .inr (.inr ?_),Cy aM⟩;split at aj
  ·exact ⟨_,_,‹_›,rfl,rfl⟩
  ·cases aj
 |_::_,_, .ay _::_,_,_,h=>by cases h
 |_::_,_, .mp _ _ _::_,_,_,h=>by cases h
 |_::_,_, .fn::_,_,_,h=>by cases h
 |[],_,_::_,_,_,h=>by cases h
 |_::_,_,[],_,_,h=>by cases h
theorem CQ:∀{bc:List Field} {i:Nat} {ls:List hQ} {x y:gu (fj G ls)},lu P bc i ls=aqQ->fJ ls x=fJ ls y->x=y
 |_,_,[],_,_,_,_=>rfl
 |f::bc,i, .int k::ls,x,y,h,e=>by simp only[lu,aq5] at h;simp only[fJ,List.cons.injEq] at e;exact atb (aqR.int.inj e.1).2 (CQ h.2.2 e.2)
 |f::bc,i, .bool::ls,x,y,h,e=>by simp only[lu,aq5] at h;simp only[fJ,List.cons.injEq] at e;exact atb (aqR.bool.inj e.1) (CQ h.2.2 e.2)
 |f::bc,i, .str::ls,x,y,h,e=>by simp only[lu,aq5] at h;simp only[fJ,List.cons.injEq] at e;exact atb (Ye e.1) (CQ h.2.2 e.2)
 |_::_,_, .ay _::_,_,_,h,_=>by cases h
 |[],_, .ay _::_,_,_,h,_=>by cases h
 |[],_, .int _::_,_,_,h,_=>by cases h
 |[],_, .bool::_,_,_,h,_=>by cases h
 |[],_, .str::_,_,_,h,_=>by cases h
 |_::_,_, .mp _ _ _::_,_,_,h,_=>by cases h
 |_::_,_, .fn::_,_,_,h,_=>by cases h
 |[],_, .mp _ _ _::_,_,_,h,_=>by cases h
 |[],_, .fn::_,_,_,h,_=>by cases h
theorem CV {z:Nat->a6}:∀{bc:List Field} {i:Nat} {ls:List hQ} {x:gu (fj G ls)} {ds:List aqR},lu P bc i ls=aqQ->ot z (fj G ls) x ds->ds=fJ ls x
 |_,_,[],_,[],_,_=>rfl
 |_,_,[],_,_::_,_,h=>h.elim
 |f::bc,i, .int k::ls,x,d::ds,h,e=>by simp only[lu,aq5] at h;have h1:d= .int k x.1:=e.1;rw[fJ,h1,<-CV h.2.2 e.2]
 |f::bc,i, .bool::ls,x,d::ds,h,e=>by simp only[lu,aq5] at h;have h1:d= .bool x.1:=e.1;rw[fJ,h1,<-CV h.2.2 e.2]
 |f::bc,i, .str::ls,x,d::ds,h,e=>by simp only[lu,aq5] at h;have h1:d=aS.str x.1:=e.1;rw[fJ,h1,<-CV h.2.2 e.2]
 |_::_,_, .ay _::_,_,_,h,_=>by cases h
 |_::_,_, .mp _ _ _::_,_,_,h,_=>by cases h
 |_::_,_, .fn::_,_,_,h,_=>by cases h
 |[],_,_::_,_,_,h,_=>by cases h
 |_::_,_, .int _::_,_,[],_,h=>h.elim
 |_::_,_, .bool::_,_,[],_,h=>h.elim
 |_::_,_, .str::_,_,[],_,h=>h.elim
def WG {t:Nat} (ls:List hQ) (to:D t->gu (fj G ls)) (of:gu (fj G ls)->D t) (h1:∀x,of (to x)=x) (bc:Array Field) (eq:D t->D t->Bool) (hI:G.T t=ha t (fj G ls) to) (he:∀x y,eq x y=aqQ↔x=y)
  (ao:P.underlying t=aqP (.struct bc)) (an:P.stoodInHeld t=aqT) (aG:P.eqGuardType P.depth t=aqT) (az:lu P bc.toList 0 ls=aqQ):mc P G t where
 bc:=bc
 eq:=eq
 dq:=fun x=>fJ ls (to x)
 ao:=ao
 an:=an
 aG:=aG
 az:=fun x y=>Cy az
 ad:=fun z x ds h=>by rw[hI] at h;exact CV az h
 he:=fun x y=>by
  rw[he];constructor
  ·rintro rfl;rfl
  ·intro h;have:=CQ az h;rw[<-h1 x,<-h1 y,this]
def MO {ap:Type} (k:aqW) (of:Int->ap):aQ D->Option ap:=fun s=>match s with| .c (.int dc n)=>if dc=k then aqP (of n) else aqS|_=>aqS
def MP {ap:Type} (of:List UInt8->ap):aQ D->Option ap:=fun s=>match s with| .c (.str n)=>aqP (of n)|_=>aqS
def FL {t:Nat} (ti:ft P G t):aQ D->Option (D t):=fun s=>match s with| .agg db cs=>if db=t then ti.o4 cs else aqS|_=>aqS
def Qz {ap:Type} (k:aqW) (of:Int->ap):bJ D->Option ap:=fun s=>match s with| .int dc n=>if dc=k then aqP (of n) else aqS|_=>aqS
def Qy {ap:Type} (of:Bool->ap):bJ D->Option ap:=fun s=>match s with| .bool n=>aqP (of n)|_=>aqS
theorem aiz {z:Nat->a6} {vs:List aqR} {ap:Type} {k:aqW} {of:Int->ap} {s:aQ D} {a:ap} {v:aqR} (h:MO k of s=aqP a) (aw:rel G z vs s v):∃n,a=of n/\v= .int k n:=by
 unfold MO at h;split at h
 ·split at h
  ·rename_i hk;cases h;subst hk;exact ⟨_,rfl,aw⟩
  ·cases h
 ·cases h
theorem ah' {z:Nat->a6} {vs:List aqR} {ap:Type} {of:List UInt8->ap} {s:aQ D} {a:ap} {v:aqR} (h:MP of s=aqP a) (aw:rel G z vs s v):∃n,a=of n/\v=aS.str n:=by
 unfold MP at h;split at h
 ·cases h;exact ⟨_,rfl,aw⟩
 ·cases h
theorem Yq {z:Nat->a6} {vs:List aqR} {t:Nat} {ti:ft P G t} {s:aQ D} {a:D t} {v:aqR} (h:FL ti s=aqP a) (aw:rel G z vs s v):∃ds:List aqR,(G.T t).rd z a ds/\v= .agg ds.toArray:=by
 unfold FL at h;split at h
 ·obtain ⟨_,h⟩:=eV h;obtain ⟨ds,h1,J⟩:=aw;exact ⟨ds,ti.qR z vs _ _ _ h J,h1⟩
 ·cases h
theorem alA {z:Nat->a6} {vs:List aqR} {ap:Type} {k:aqW} {of:Int->ap} {s:bJ D} {a:ap} {v:aqR} (h:Qz k of s=aqP a) (aw:dj G z vs s v):∃n,a=of n/\v= .int k n:=by
 unfold Qz at h;split at h
 ·split at h
  ·rename_i hk;cases h;subst hk;exact ⟨_,rfl,aw⟩
  ·cases h
 ·cases h
theorem amc {z:Nat->a6} {vs:List aqR} {ap:Type} {of:Bool->ap} {s:bJ D} {a:ap} {v:aqR} (h:Qy of s=aqP a) (aw:dj G z vs s v):∃n,a=of n/\v= .bool n:=by
 unfold Qy at h;split at h
 ·cases h;exact ⟨_,rfl,aw⟩
 ·cases h
structure pu (P:aqV) (G:lG D) (kt:Nat) where
 dec:DecidableEq (D kt)
 K:jX P kt (G.bQ kt)
 n4:aQ D->Option (D kt)
 rL:∀z vs s a v,n4 s=aqP a->rel G z vs s v->v=cZ (cT P kt) (G.bQ kt a)
structure AV (P:aqV) (G:lG D) (vt:Nat) where
 V:lH P vt (G.bQ vt)
 sY:bJ D->Option (D vt)
 ow:D vt->bJ D
 z0:D vt
 i:TypeInfo
 ae:P.info? vt=aqP i
 tK:cT P vt=aqT
 aE:i.zero=aqP (cZ aqT (G.bQ vt z0))
 yG:∀z vs c a v,sY c=aqP a->dj G z vs c v->v=cZ aqT (G.bQ vt a)
 lS:∀z vs a,dj G z vs (ow a) (cZ aqT (G.bQ vt a))
def vW {kt vt:Nat} (a:pu P G kt) (b:AV P G vt):Eb P G kt vt where
 dec:=a.dec
 K:=a.K
 V:=b.V
 n4:=a.n4
 sY:=b.sY
 ow:=b.ow
 z0:=b.z0
 i:=b.i
 ae:=b.ae
 aE:=by rw[b.tK];exact b.aE
 rL:=a.rL
 yG:=by rw[b.tK];exact b.yG
 lS:=by rw[b.tK];exact b.lS
 tK:=b.tK
def adV {kt:Nat} (k:aqW) (of:Int->D kt) (dec:DecidableEq (D kt)) (i:TypeInfo) (h:P.underlying kt=aqP (.int k)) (K:jX P kt (G.bQ kt)) (hk:∀n,G.bQ kt (of n)=[.int k n]):pu P G kt where
 dec:=dec
 K:=K
 n4:=MO k of
 rL:=fun z vs s a v h1 J=>by obtain ⟨n,rfl,rfl⟩:=aiz h1 J;rw[hk,pf h rfl];rfl
def adX {kt:Nat} (of:List UInt8->D kt) (dec:DecidableEq (D kt)) (h:P.underlying kt=aqP .string) (K:jX P kt (G.bQ kt)) (hk:∀n,G.bQ kt (of n)=[aS.str n]):pu P G kt where
 dec:=dec
 K:=K
 n4:=MP of
 rL:=fun z vs s a v h1 J=>by obtain ⟨n,rfl,rfl⟩:=ah' h1 J;rw[hk,pf h rfl];rfl
def MR {t:Nat} (dec:DecidableEq (D t)) (ti:ft P G t) (ls:List hQ) (to:D t->gu (fj G ls)) (of:gu (fj G ls)->D t) (h1:∀x,of (to x)=x) (bc:Array Field) (i:TypeInfo) (hI:G.T t=ha t (fj G ls) to)
  (ao:P.underlying t=aqP (.struct bc)) (ae:P.info? t=aqP i) (an:P.stoodInHeld t=aqT) (dS:(i.size==0)=aqT) (az:lu P bc.toList 0 ls=aqQ) (hlen:∀a,(G.bQ t a).length=i.size) (hk:∀a,G.bQ t a=fJ ls (to a)):pu P G t where
 dec:=dec
 K:=afG ao ae an dS hlen (fun a b=>by rw[hk,hk];exact Cy az) (fun a b h=>by
  rw[hk,hk] at h;have:=CQ az h;rw[<-h1 a,<-h1 b,this])
 n4:=FL ti
 rL:=fun z vs s a v J aj=>by obtain ⟨ds,g1,rfl⟩:=Yq J aj;rw[hI] at g1;rw[CV az g1,hk];simp only[cT,ao,jE,cZ]
def adW {t:Nat} (k:aqW) (dec:DecidableEq (D t)) (ti:ft P G t) (to:D t->gu (fj G [.int k, .int k])) (of:gu (fj G [.int k, .int k])->D t) (h1:∀x,of (to x)=x) {e:Nat} (i B2:TypeInfo) (hI:G.T t=ha t (fj G [.int k, .int k]) to)
  (ao:P.underlying t=aqP (.array 2 e)) (he:P.underlying e=aqP (.int k)) (hV:P.info? e=aqP B2) (hd:B2.size=1) (ae:P.info? t=aqP i) (hs:i.size=2) (hk:∀a,G.bQ t a=fJ [.int k, .int k] (to a)):pu P G t where
 dec:=dec
 K:=ag5 (k:=k) (fun a=>(to a).1) (fun a=>(to a).2.1) ao he hV hd ae hs (fun a=>by rw[hk];rfl) (fun a b J aj=>by
  rw[<-h1 a,<-h1 b];congr 1;exact atb J (atb aj rfl))
 n4:=FL ti
 rL:=fun z vs s a v J aj=>by
  obtain ⟨ds,g1,rfl⟩:=Yq J aj;rw[hI] at g1;have:ds=fJ [.int k, .int k] (to a):=by
   match ds,g1 with
   |[x,y],⟨g1,g2,_⟩=>rw[g1,g2];rfl
  rw[this,hk];simp only[cT,ao,jE,cZ]
def anS {vt:Nat} (k:aqW) (of:Int->D vt) (to:D vt->Int) (h1:∀x,of (to x)=x) (i:TypeInfo) (h:P.underlying vt=aqP (.int k)) (ae:P.info? vt=aqP i) (V:lH P vt (G.bQ vt)) (hk:∀n,G.bQ vt (of n)=[.int k n]) (aE:i.zero=aqP (.int k 0)):AV P G vt where
 V:=V
 sY:=Qz k of
 ow:=fun x=> .int k (to x)
 z0:=of 0
 i:=i
 ae:=ae
 tK:=pf h rfl
 aE:=by rw[hk];exact aE
 yG:=fun z vs c a v g1 g2=>by obtain ⟨n,rfl,rfl⟩:=alA g1 g2;rw[hk];rfl
 lS:=fun z vs a=>by have:=hk (to a);rw[h1] at this;rw[this];rfl
def anR {vt:Nat} (of:Bool->D vt) (to:D vt->Bool) (h1:∀x,of (to x)=x) (i:TypeInfo) (h:P.underlying vt=aqP .bool) (ae:P.info? vt=aqP i) (V:lH P vt (G.bQ vt)) (hk:∀n,G.bQ vt (of n)=[.bool n]) (aE:i.zero=aqP (.bool aqT)):AV P G vt where
 V:=V
 sY:=Qy of
 ow:=fun x=> .bool (to x)
 z0:=of aqT
 i:=i
 ae:=ae
 tK:=pf h rfl
 aE:=by rw[hk];exact aE
 yG:=fun z vs c a v g1 g2=>by obtain ⟨n,rfl,rfl⟩:=amc g1 g2;rw[hk];rfl
 lS:=fun z vs a=>by have:=hk (to a);rw[h1] at this;rw[this];rfl
theorem ah3 {X:dx P D} {B:Code} {u:kZ D} {us:List (kZ D)} (h:px X B u) (az:∀v∈us,px X B v):∀v∈u::us,px X B v:=by
 intro v ad;rcases aq6.1 ad with rfl|ad
 ·exact h
 ·exact az v ad
theorem aji {X:dx P D} {B:Code}:∀v∈([]:List (kZ D)),px X B v:=by simp
theorem bX.law {X:dx P D} {d:bY D} {F:d.F} (cG:bX X d F) {m:Mem} {z:Nat->a6} (aE:jW z m) (aB:∀b,m.next<=b->m.aH b= .dead) {bM:List (aQ D)} {args:List aqR} (cB:ba (rel X.G z []) bM args)
  (h:d.call X F bM [] (fun cY _=>aqP cY)=aqP (.c (.bool aqQ))):hx P d.f args.toArray m fun v _=>v= .bool aqQ:=by
 have av:bo X.G ([]:List (aL D)) z m m aqS []:=⟨cK.start aE aB,rfl,by simp,by simp⟩
 refine (cG bM [] (fun cY _=>aqP cY) _ args av cB h).mono fun v m' ad=> ?_;obtain ⟨⟨z',vs',cY,bB,_,_,_,_,aw,fy⟩,_⟩:=ad;cases fy;exact aw
end
end
end Go.aS
end
section
namespace Go.aS
noncomputable section
section
variable {P:aqV} {D:Nat->Type} {X:dx P D} {af:Type} {z z':Nat->a6} {e m m':Mem} {k:Option Nat} {vs vs':List aqR} {fr:Nat->aqR} {E:List (Nat×aQ D)} {O bB:List (aL D)}
theorem GG (l:iy D) {eN:List Nat}:∀(aF:List dk) (x:ez D aF) (aZ:List Nat) (O:List (aL D)),kP (X.eJ l) eN aF x aZ O=kP X eN aF x aZ O
 |[],_,_,_=>rfl
 | .o _ c::aF,x,[],O=>rfl
 | .o _ c::aF,x,i::aZ,O=>by show kP (X.eJ l) eN aF x.2 aZ (O.set i (bA.fa (X.eJ l) (fun n=>eN.getD n 0) c x.1 (sh c O i)))=kP X eN aF x.2 aZ (O.set i (bA.fa X (fun n=>eN.getD n 0) c x.1 (sh c O i)));rw[GG l aF x.2 aZ];exact congrArg (fun q=>kP X eN aF x.2 aZ (O.set i q)) (bA.FP l _ c x.1 _)
 | .v _ _::aF,x,aZ,O=>GG l aF x.2 aZ O
 | .u _ _::aF,x,aZ,O=>GG l aF x.2 aZ O
theorem VS (l:iy D) {bU:Nat->Nat} {aZ ks:List Nat} {outs:List dk} {y:ez D outs}:∀(O:List (aL D)) (i:Nat),q0 (X.eJ l) bU aZ ks outs y i O=q0 X bU aZ ks outs y i O
 |[],i=>rfl
 |o::O,i=>by simp only[q0,Cj,VS l O (i+1)]
theorem af6 (l:iy D) (aF:List dk) (eG:List (Nat×aQ D)) (E:List (Nat×aQ D)) (O:List (aL D)):q3 (X.eJ l) aF eG E O=q3 X aF eG E O:=by
 simp only[q3,HC,CK,GG]
theorem Xg (l:iy D) (p:gh D) (F:p.F) (E:List (Nat×aQ D)) (O:List (aL D)) {af:Type} (K:dX->List (Nat×aQ D)->List (aL D)->Option af):p.run (X.eJ l) F E O K=p.run X F E O K:=by
 have aX:∀(aZ:List Nat) (N:Nat) (cL:kB D) (y:ez D cL.outs) (E:List (Nat×aQ D)),AW (X.eJ l) p aZ N cL y E=AW X p aZ N cL y E:=fun aZ N cL y E=>by simp only[AW,zc]
 have e2:∀(aZ:List Nat) (cU:List (aL D)) (cL:kB D) (y:ez D cL.outs),qo (X.eJ l) p aZ cU cL y=qo X p aZ cU cL y:=fun aZ cU cL y=>by simp only[qo,VS,y2]
 unfold gh.run gh.zT;simp only[af6,aX,e2]
def Cb:dX->dX
 | .normal=> .ret
 |ex=>ex
theorem agL {ex:dX} (h:Cb ex= .ret):ex= .normal\/ex= .ret:=by
 cases ex<;>first|exact .inl rfl|exact .inr rfl|cases h
structure gZ (D:Nat->Type) where
 f:Nat
 np:Nat
 ins:List dk
 eG:List (Nat×aQ D)
 ks:List Nat
 outs:List dk
 lj:List (Nat×aQ D)
 ch:List Nat
 bg:Bool:=aqT
def EP (keep:List Nat) (i:Nat) (O:List (aL D)):List (aL D):=
 match O[i]? with
 |some (.box t cs aqT w)=>if (!(keep.any (aq9 i))&&cs.all Zj)=aqQ then O.set i (.box t cs aqQ w) else O
 |_=>O
def Hm (keep:List Nat):Nat->List (aL D)->List (aL D)
 |0,O=>O
 |n+1,O=>EP keep n (Hm keep n O)
theorem ahj {keep:List Nat} {i:Nat} (av:bo X.G O z e m k vs):∃z',Inv O (EP keep i O)/\cR e.next z z'/\bo X.G (EP keep i O) z' e m k vs:=by
 unfold EP;split
 ·rename_i t cs w ah;split
  ·rename_i ab;simp only[aq5] at ab;obtain ⟨v,ad,bW⟩:=av.at ah;have acF:=bW;obtain ⟨b,ds,rfl,_⟩:=acF;have jZ:wJ O (.box i 0)=aqP ((t,cs),O.set i (.box t cs aqQ w)):=by
    simp only[wJ,ah];rw[if_pos ⟨trivial,ab.2⟩]
   obtain ⟨z',aI,h1,J,_⟩:=N0 (X:=X) av (s:= .box i 0) (g:= .pointer (aqP ⟨b,0,aqS⟩)) ⟨b,ad,rfl⟩ jZ;exact ⟨z',aI,h1,J⟩
  ·exact ⟨z,Inv.refl _,cR.refl z,av⟩
 ·exact ⟨z,Inv.refl _,cR.refl z,av⟩
theorem Xr {keep:List Nat} (av:bo X.G O z e m k vs):∀n:Nat,∃z',Inv O (Hm keep n O)/\cR e.next z z'/\bo X.G (Hm keep n O) z' e m k vs
 |0=>⟨z,Inv.refl _,cR.refl z,av⟩
 |n+1=>by obtain ⟨cq,aI,h1,J⟩:=Xr av n;obtain ⟨z2,g0,g1,g2⟩:=ahj (keep:=keep) (i:=n) J;exact ⟨z2,aI.trans g0,h1.trans g1,g2⟩
def gZ.pre (d:gZ D) (bM:List (aQ D)) (O:List (aL D)):List (aL D):=if d.bg=aqQ then Hm (Ps O 100 (Y9 (kV 0 bM)) []) O.length O else O
theorem gZ.aew {d:gZ D} {bM:List (aQ D)} (av:bo X.G O z e m k vs):∃z',Inv O (d.pre bM O)/\cR e.next z z'/\bo X.G (d.pre bM O) z' e m k vs:=by
 unfold gZ.pre;split
 ·exact Xr av _
 ·exact ⟨z,Inv.refl _,cR.refl z,av⟩
def gZ.h2 (d:gZ D):gh D:={path:=[],ins:=d.ins,eG:=d.eG,ks:=d.ks,ic:=[⟨.ret,d.outs,d.lj⟩],keep:=[]}
def alz:dX->Bool
 | .ret=>aqQ
 |_=>aqT
variable (X) in
def gZ.call (d:gZ D) (F:d.h2.F) (bM:List (aQ D)) (O:List (aL D)) {af:Type} (K:aQ D->List (aL D)->Option af):Option af:=
 if aq9 bM.length d.np=aqQ then d.h2.run X F (kV 0 bM) (d.pre bM O) fun ex E O=>if alz ex=aqQ then (match Dz E d.ch with|some cY=>K cY O|none=>aqS) else aqS
 else aqS
variable (X) in
def gZ.fits (d:gZ D) (bM:List (aQ D)) (O:List (aL D)):Bool:=
 aq9 bM.length d.np&&(q3 X d.ins d.eG (js d.ins (kV 0 bM) O).1 (js d.ins (kV 0 bM) O).2).isSome
structure Je (P:aqV) (X:dx P D) (d:gZ D) (F:d.h2.F):Prop where
 ex:∃fn c,P.funcs[d.f]? =aqP fn/\fn.body=aqP c/\mA P d.f=aqQ/\art d.np fn.ntmps=aqQ/\fn.results.toList=d.ch.map .tmp/\d.h2.oH c=aqQ/\re Cb X c d.h2 F
def fw (X:dx P D) (d:gZ D) (F:d.h2.F):Prop:=∀(bM:List (aQ D)) (O:List (aL D)) {af:Type} (K:aQ D->List (aL D)->Option af) (r:af) {z:Nat->a6} {e m:Mem} {k:Option Nat} {vs:List aqR} (args:List aqR),
 bo X.G O z e m k vs->ba (rel X.G z vs) bM args->d.call X F bM O K=aqP r->hx P d.f args.toArray m fun v m'=>c0 X O z e k vs K r v m'
theorem Yi {m:Mem}:∀(l:List Nat),o7 P fr m (l.map .tmp) (l.map fr)
 |[]=>trivial
 |_::l=>⟨rfl,Yi l⟩
theorem Je.call {d:gZ D} {F:d.h2.F} (cG:Je P X d F):fw X d F:=by
 intro bM O af K r z e m k vs args av cB h;obtain ⟨fn,c,f1,f2,f3,f4,f5,f6,fG⟩:=cG.ex;unfold gZ.call at h;obtain ⟨hlen,h⟩:=eV h;have hlen:=aru hlen;have bC:args.toArray.size<=fn.ntmps:=by rw[List.size_toArray,<-cB.length,hlen];exact asa f4
 refine hx.any f1 f2 f3 bC fun fr fY=> ?_;have aT:eC X z vs (kV 0 bM) fr:=On cB fun j v ar=>by rw[ara];exact fY j v (by simpa using ar)
 obtain ⟨aqN,ll,dm,ei⟩:=gZ.aew (d:=d) (bM:=bM) av;have aa:=fG.yY f6 (kV 0 bM) (d.pre bM O) _ r ei (aT.mono dm.le fun _ _ h=>h) h;rw[show sub c d.h2.path=c from o9 c] at aa;refine aa.mono ?_;rintro ex eU m1 ⟨cq,iS,jA,bL,aI,h1,J,aj,aM,br⟩;obtain ⟨aw,br⟩:=eV br;have hex:Cb ex= .ret:=by revert aw;cases Cb ex<;>intro aw<;>first|rfl|cases aw
 split at br
 ·rename_i cY BU;obtain ⟨bt,bE⟩:=OZ aM BU;exact ⟨agL hex,_,by rw[f5];exact Yi d.ch,bE,cq,iS,cY,bL,ll.trans aI,dm.trans h1,J,aj,bt,br⟩
 ·cases br
theorem fw.none {d:gZ D} {F:d.h2.F} (aI:∀x,F x=aqS):fw X d F:=by
 intro bM O af K r z e m k vs args av cB h;unfold gZ.call at h;obtain ⟨_,h⟩:=eV h;unfold gh.run gh.zT at h;split at h
 ·rw[aI] at h;cases h
 ·cases h
theorem fw.base {q:iy D} {d:gZ D} {F:d.h2.F} (h:fw (X.eJ q) d F):fw X d F:=by
 intro bM O af K r z e m k vs args av cB ab;have ab:d.call (X.eJ q) F bM O K=aqP r:=by unfold gZ.call at ab⊢;rw[Xg];exact ab
 exact h bM O K r args av cB ab
structure GE (D:Nat->Type) where
 d:gZ D
 F:d.h2.F
variable (X) in
def Bd:List (GE D)->Nat->List (aQ D)->List (aL D)->{af:Type}->(aQ D->List (aL D)->Option af)->Option af
 |[],f,bM,O,_,K=>X.C f bM O K
 |x::l,f,bM,O,_,K=>if (aq9 x.d.f f&&x.d.fits X bM O)=aqQ then x.d.call X x.F bM O K else Bd l f bM O K
variable (X) in
def Be:List (GE D)->Nat->List (aQ D)->List (aL D)->Bool
 |[],f,bM,O=>X.F f bM O
 |x::l,f,bM,O=>if (aq9 x.d.f f&&x.d.fits X bM O)=aqQ then aqT else Be l f bM O
variable (X) in
def ye:List (GE D)->Nat->Bool
 |[],f=>X.W f
 |x::l,f=>aq9 x.d.f f||ye l f
def dx.gen (X:dx P D) (l:List (GE D)):dx P D:=X.eJ ⟨Be X l,X.gr,Bd X l,ye X l⟩
theorem YF (bO:fQ X) {f:Nat} {bM:List (aQ D)} {K:aQ D->List (aL D)->Option af} {r:af} {args:List aqR} (av:bo X.G O z e m k vs) (cB:ba (rel X.G z vs) bM args):∀{l:List (GE D)},(∀x∈l,fw X x.d x.F)->Bd X l f bM O K=aqP r->
  hx P f args.toArray m fun v m'=>c0 X O z e k vs K r v m'/\(Be X l f bM O=aqQ->m'=m)/\(ye X l f=aqT->∃q,fq m m' q/\mR vs (p2 bM) q)
 |[],_,ab=>bO f bM O K r args av cB ab
 |x::l,h,ab=>by
  unfold Bd at ab;unfold Be ye;split at ab
  ·rename_i U;rw[if_pos U];simp only[aq5] at U;have:=aru U.1;subst this;refine (h x arn bM O K r args av cB ab).mono fun v m' aq=>⟨aq,fun ax=>atL ax,fun ax=> ?_⟩
   rw[U.1] at ax;cases ax
  ·rename_i U;rw[if_neg U];refine (YF bO av cB (fun y ag=>h y (ard _ ag)) ab).mono fun v m' aq=>⟨aq.1,aq.2.1,fun ax=>aq.2.2 ?_⟩
   cases aa:ye X l f with
   |false=>rfl
   |true=>rw[aa,Bool.or_true] at ax;cases ax
theorem fQ.gen {l:List (GE D)} (bO:fQ X) (h:∀x∈l,fw X x.d x.F):fQ (X.gen l):=by
 intro f bM O af K r z e m k vs args av cB ab;exact YF (X:=X) bO av cB h ab
theorem bX.eJ {q:iy D} {d:bY D} {F:d.F} (h:bX (X.eJ q) d F):bX X d F:=by
 intro bM O af K r z e m k vs args av cB ab;rw[<-Cr q] at ab;exact h bM O K r args av cB ab
theorem bX.anP {l:List (GE D)} {d:bY D} {F:d.F} (h:bX X d F):bX (X.gen l) d F:=by
 intro bM O af K r z e m k vs args av cB ab;have ab:d.call (X.eJ ⟨Be X l,X.gr,Bd X l,ye X l⟩) F bM O K=aqP r:=ab;rw[Cr] at ab;exact h bM O K r args av cB ab
theorem fw.up {q:iy D} {d:gZ D} {F:d.h2.F} (h:fw X d F):fw (X.eJ q) d F:=by
 intro bM O af K r z e m k vs args av cB ab;have ab:d.call X F bM O K=aqP r:=by unfold gZ.call at ab⊢;rw[Xg] at ab;exact ab
 exact h bM O K r args av cB ab
theorem fQ.aaY {bc:List (nK D)} {l:List (GE D)} (bO:fQ (X.with bc)) (h:∀x∈l,fw X x.d x.F):fQ ((X.with bc).gen l):=fQ.gen bO fun x U=>(h x U).up
theorem ahn:∀y∈([]:List (GE D)),fw X y.d y.F:=by simp
theorem afZ {l:List (GE D)} {x:GE D} (h:fw X x.d x.F) (ai:∀y∈l,fw X y.d y.F):∀y∈x::l,fw X y.d y.F:=by
 intro y ag;rcases aq6.1 ag with rfl|ag
 ·exact h
 ·exact ai y ag
end
end
end Go.aS
end
section
namespace Go.aS
open Go.ChangeMaps (setBlock)
theorem W.ext {P:aqV} {a b:Code} {Q:dX->(Nat->aqR)->Mem->Prop} {fr fr':Nat->aqR} {m m':Mem} {e:dX} (h:Ja P (.seq a b) fr m e fr' m') (aK:Q e fr' m'):W P (.seq a b) Q fr m:=⟨1,e,fr',m', .inr h,aK⟩
theorem Post.aev {P:aqV} {j bT:bq} {m m':Mem} {w w' nE:World} {r:Nat} (h:Post P j m w bT m' w') (aw:w.heap.size<=r) (az:nE.heap.size=w'.heap.size) (ah:nE.os=w'.os) (ao:nE.tape=w'.tape) (an:nE.output=w'.output)
  (aa:∀c,c≠r->nE.heap[c]? =w'.heap[c]?) {bS:Nat} (aq:∀b e,bT b=aqP e->b≠bS->e.aH≠r) (aB:m'.aH bS= .dead):Post P j m w bT m' nE:=
 ⟨⟨fun b e ct=>⟨(h.rel.lt b e ct).1,by rw[az];exact (h.rel.lt b e ct).2⟩,fun b e ct=>by
   by_cases ki:b=bS
   ·rw[ki,aB];trivial
   ·rw[aa _ (aq b e ct ki)];exact h.rel.obj b e ct,h.rel.inj⟩,
  ⟨ah.trans h.ec.os,ao.trans h.ec.tape,an.trans h.ec.output,by rw[az];exact h.ec.size,fun c ab j2=>by rw[aa c (by omega)];exact h.ec.block c ab j2⟩,h.next,h.ext,h.fresh,h.dg,h.alive⟩
theorem Post.apart {P:aqV} {j bT:bq} {m m':Mem} {w w':World} {r bS:Nat} (h:Post P j m w bT m' w') (aw:r<w.heap.size) (aq:∀b e,j b=aqP e->b≠bS->e.aH≠r) (aB:m.aH bS= .dead):∀b e,bT b=aqP e->b≠bS->e.aH≠r:=by
 intro b e aa ki;rcases arK b m.next with aN|e4
 ·exact aq b e (by rw[<-h.ext b aN];exact aa) ki
 ·rcases h.fresh b e aa e4 with aP|⟨df,dA,h1,J,aj⟩
  ·omega
  ·rw[<-aj];exact aq df dA h1 (fun ax=>by rw[ax,aB] at J;cases J)
theorem Post.dead {P:aqV} {j bT:bq} {m m':Mem} {w w':World} {b:Nat} (h:Post P j m w bT m' w') (aa:b<m.next) (aB:m.aH b= .dead):m'.aH b= .dead:=by
 have:=h.alive b aa;rw[aB] at this;cases U:m'.aH b with
 |dead=>rfl
 |_=>rw[U] at this;exact absurd (this rfl) (by simp[a6.live])
def sW (i7:Nat) (jg:Array Oper) (iM i8:Nat) (iV:Array Oper) (anm kI i9:Nat) (iW:Array Oper) (i10:Nat) (hp:Array Oper) (fT:Code):Code:=
 .seq (.seq (.region i7 jg aqT) (.block iM (.loop (.seq (.region i8 iV aqT) (.seq (.cond (.tmp anm) .skip (.exit iM)) (.block kI (.seq (.region i9 iW aqT) (.region i10 hp aqT)))))))) fT
def mb:List Oper->List (Option Nat×Op)->Prop
 |[],[]=>True
 |o::os,p::bK=>(o.dst=p.1/\o.op=p.2/\o.guard=aqS)/\mb os bK
 |_,_=>False
section
variable {P:aqV} {ops:Array Oper} {Q:Exit->Act->World->Prop} {l:List Oper} {a:Act} {w w':World} {o:Oper} {v:aqR}
theorem mN (aG:o.guard=aqS) (aw:(execOp a.eval o).run P w= .ok (.value v) w') (h:wpList P ops Q l (a.put o.dst v) w'):wpList P ops Q (o::l) a w:=by
 unfold wpList;rw[if_pos (by simp[Region.wanted,aG])];left;unfold Oper.wp;rw[aw];exact h
end
def dZ (a:Act) (t:Nat):aqR:=a.tmps.getD t undef
theorem mG {a:Act} {d t:Nat} {v:aqR} (aB:d<a.tmps.size):dZ (a.put (aqP d) v) t=if t=d then v else dZ a t:=GU aB
theorem Gg {a:Act} {d:Nat} {v:aqR} (aB:d<a.tmps.size):dZ (a.put (aqP d) v) d=v:=by rw[mG aB,if_pos rfl]
theorem N1 {a:Act} {d t:Nat} {v:aqR} (aB:d<a.tmps.size) (h:t≠d):dZ (a.put (aqP d) v) t=dZ a t:=by rw[mG aB,if_neg h]
def hE (v:aqR):Prop:=∀b,v≠ .bool b
structure SA (mt:aqY) (jg iV iW:Array Oper):Prop where
 hb:mb jg.toList [(aqP 29, .move (.tmp 8)),(aqP 30, .range mt (.tmp 29))]
 hz:mb iV.toList [(aqP 31, .next (.tmp 30) aqT),(aqP 32, .extract (.tmp 31) 0)]
 mo:mb iW.toList [(aqP 33, .entry (.tmp 30)),(aqP 34, .extract (.tmp 33) 0),(aqP 35, .extract (.tmp 33) 1),(aqP 9, .assign (.tmp 34)),(aqP 10, .assign (.tmp 35))]
def iT (t:Nat):Bool:=(art 29 t&&art t 41)||(aq9 t 6||(aq9 t 9||aq9 t 10))
def B7 (t:Nat):Bool:=aq9 t 31||((art 33 t&&art t 41)||(aq9 t 9||aq9 t 10))
theorem mb.nil {l:List Oper} (h:mb l []):l=[]:=by
 cases l with
 |nil=>rfl
 |cons _ _=>exact h.elim
theorem mb.cons {l:List Oper} {p:Option Nat×Op} {bK:List (Option Nat×Op)} (h:mb l (p::bK)):∃o os,l=o::os/\o.dst=p.1/\o.op=p.2/\o.guard=aqS/\mb os bK:=by
 cases l with
 |nil=>exact h.elim
 |cons o os=>exact ⟨o,os,rfl,h.1.1,h.1.2.1,h.1.2.2,h.2⟩
section
variable {P:aqV} {a:Act} {w:World} {o:Oper}
theorem Xf {x:aqX} (h:o.op= .move x):(execOp a.eval o).run P w= .ok (.value (a.eval x)) w:=by simp[execOp,h]
theorem V2 {x:aqX} (h:o.op= .assign x):(execOp a.eval o).run P w= .ok (.value (a.eval x)) w:=by simp[execOp,h]
theorem Ck {x:aqX} {i:Nat} {vs:Array aqR} {v:aqR} (h:o.op= .extract x i) (U:a.eval x= .tuple vs) (ad:vs[i]? =aqP v):(execOp a.eval o).run P w= .ok (.value v) w:=by
 simp[execOp,h,U,Instr.extract,ad]
theorem oh {t:Nat}:a.eval (.tmp t)=dZ a t:=rfl
end
noncomputable section
section
variable {P:aqV} {D:Nat->Type} {X:dx P D}
def yR (O:List (aL D)):aQ D->Bool
 | .c (.int _ _)| .c (.str _)| .c .fv| .c (.ay _ _)| .agg _ _| .box _ _| .undef| .mL _=>aqQ
 | .c (.own i)=>aq9 i 0||(match O[i]? with|some (.ay _ _ aqT _)=>aqQ|_=>aqT)
 |_=>aqT
def Bb (e:Nat) (E:List (Nat×aQ D)) (O:List (aL D)):Option (List (D e)):=
 if ([36,37,38,39,40,41].all fun t=>yR O (eh E t))=aqQ then
  match eh E 6 with
  | .c (.own j)=>(match O[j]? with|some (.ay bw xs aqT _)=>if h:bw=e then aqP (h▸xs) else aqS|_=>aqS)
  |_=>aqS
 else aqS
theorem N7 {x:Option Addr} {l c:Nat}:hE (.slice x l c):=fun b h=>by cases h
theorem Ys {O:List (aL D)} {z:Nat->a6} {e m:Mem} {k:Option Nat} {vs:List aqR} {s:aQ D} {v:aqR} (av:bo X.G O z e m k vs) (aI:∀u,vs[0]? =aqP u->hE u) (az:yR O s=aqQ) (h:rel X.G z vs s v):hE v:=by
 unfold yR at az;split at az
 ·intro b aa;rw[show v=_ from h] at aa;cases aa
 ·intro b aa;rw[show v=_ from h] at aa;cases aa
 ·intro b aa;rw[show v=_ from h] at aa;cases aa
 ·obtain ⟨a,c,ad⟩:=ev.len h;intro b aa;rw[ad] at aa;cases aa
 ·obtain ⟨ds,ad,_⟩:=h;intro b aa;rw[ad] at aa;cases aa
 ·obtain ⟨df,_,ad⟩:=h;intro b aa;rw[ad] at aa;cases aa
 ·intro b aa;rw[show v=_ from h] at aa;cases aa
 ·obtain ⟨ds,ad,_⟩:=h;intro b aa;rw[ad] at aa;cases aa
 ·rename_i i;simp only[ar1] at az;rcases az with az|az
  ·have:=aru az;subst this;exact aI v h.1
  ·split at az
   ·rename_i aX xs w ah;have bW:=av.obj i _ v ah h.1;obtain ⟨a,c,ad⟩:=(show c3 _ z e m k xs v from bW).bd.len;intro b aa;rw[ad] at aa;cases aa
   ·cases az
 ·cases az
theorem C8 {j:bq} {v aV:aqR} (h:b9 j v aV) (ad:hE v):hE aV:=Wg h ad
def any:aqR:= .chan aqS
theorem pb {j:bq} {aV:aqR} (h:hE aV):b9 j any aV:=h
variable (P X)
structure u6 (e kt vt:Nat) where
 app:D kt->D vt->D e
 DC:D kt->aQ D
 cY:D vt->aQ D
 oZ:D kt->aqR
 nD:D vt->aqR
 hk:∀z vs a,rel X.G z vs (DC a) (oZ a)
 ad:∀z vs a,rel X.G z vs (cY a) (nD a)
 M1:∀a,hE (oZ a)
 dd:∀a,hE (nD a)
 TL:∀a,flat (oZ a)=aqQ
 yc:∀a,flat (nD a)=aqQ
variable {P X}
def FN (jm r:Nat) (w:World):Nat:=
 match w.heap[jm]?,w.heap[r]? with
 |some (.map es _),aqP (.mapIter _ _ seen _)=>(leftOf es seen).size
 |_,_=>0
structure u4 (P:aqV) (D:Nat->Type) (X:dx P D) (e kt vt:Nat) where
 V:u6 P X e kt vt
 N:Nat
 et:bq
 m0:Mem
 de:World
 EO:Nat->aqR
 z0:Nat->a6
 em:Mem
 k:Option Nat
 xs:List (D e)
 cs:Array MapEntry
 gG:Nat
 jm:Nat
 r:Nat
 bS:Nat
structure Jh {e kt vt:Nat} (B:u4 P D X e kt vt):Prop where
 bS:B.bS<B.m0.next
 dead:B.m0.aH B.bS= .dead
 aaS:B.et B.bS=aqP ⟨B.r,0,0,0⟩
 r:B.de.heap.size<=B.r
 jm:B.de.heap[B.jm]? =aqP (.map B.cs B.gG)
 JG:B.jm<B.de.heap.size
 free:∀b q,B.et b=aqP q->(B.m0.aH b).hK=aqQ->q.aH≠B.jm
 aO:wC B.cs B.gG
 es:∀x∈B.cs.toList,∃p:D kt×D vt,x.key=B.V.oZ p.1/\x.val=B.V.nD p.2
 len:B.xs.length+B.cs.size<=ma
structure u5 {e kt vt:Nat} (B:u4 P D X e kt vt) (a:Act) (w:World) (fL:List MapEntry) (bK:List (D kt×D vt)) (v6:aqR) (mk:Mem) (iZ:bq) (l8:Nat->a6) (wf:Bool):Prop where
 post:Post P B.et B.m0 B.de iZ mk w
 QC:WF mk
 yQ:bo X.G [.ay e (B.xs++bK.map fun p=>B.V.app p.1 p.2) aqT wf] l8 B.em mk B.k [v6]
 aaf:cR B.em.next B.z0 l8
 rel:ba (fun (p:D kt×D vt) (x:MapEntry)=>x.key=B.V.oZ p.1/\x.val=B.V.nD p.2) bK fL
 A8:∀b q,iZ b=aqP q->b≠B.bS->q.aH≠B.r
 mem:∀x∈fL,x∈B.cs.toList
 fC:(fL.map (·.born)).Nodup
 defers:a.defers=[]
 size:a.tmps.size=B.N
 v6:b9 iZ v6 (dZ a 6)
 ZN:hE (dZ a 29)
 v30:dZ a 30= .pointer (aqP ⟨B.r,0,aqS⟩)
 off:∀t,iT t=aqT->b9 iZ (B.EO t) (dZ a t)
 on:∀t,B7 t=aqQ->(fL=[]->b9 iZ (B.EO t) (dZ a t))/\(fL≠[]->hE (dZ a t))
def G7 {e kt vt:Nat} (B:u4 P D X e kt vt) (w:World) (fL:List MapEntry):Prop:=∃kJ,w.heap[B.r]? =aqP (.mapIter (aqP B.jm) B.gG (fL.map (·.born)).toArray kJ)/\B.gG<=kJ
theorem u5.map {e kt vt:Nat} {B:u4 P D X e kt vt} (fG:Jh B) {a:Act} {w:World} {fL:List MapEntry} {bK:List (D kt×D vt)} {v6:aqR} {mk:Mem} {iZ:bq} {l8:Nat->a6} {wf:Bool} (h:u5 B a w fL bK v6 mk iZ l8 wf):w.heap[B.jm]? =aqP (.map B.cs B.gG):=by
 rw[h.post.ec.block B.jm fG.JG fG.free];exact fG.jm
theorem af0 {l:List MapEntry} (h:(l.map (·.born)).Nodup) {x y:MapEntry} (U:x∈l) (ag:y∈l) (he:x.born=y.born):x=y:=by
 have h1:=find_born x l h U;have J:=find_born y l h ag;rw[he] at h1;rw[h1] at J;exact ark.inj J
theorem WK {ap:Type} [DecidableEq ap]:∀{l m:List ap},l.Nodup->(∀x∈l,x∈m)->l.length<=m.length
 |[],_,_,_=>ar7 _
 |a::l,m,aq,az=>by have au:=az a arn;obtain ⟨h1,J⟩:=List.nodup_cons.1 aq;have:=WK (m:=m.erase a) J fun x U=>(List.mem_erase_of_ne (fun (he:x=a)=>h1 (by rw[<-he];exact U))).2 (az x (ard _ U));rw[List.length_erase_of_mem au] at this;have an:0<m.length:=List.length_pos_of_mem au;simp only[arr];omega
theorem ahp {e:Nat} {E:List (Nat×aQ D)} {O:List (aL D)} {bk:List (D e)} (h:Bb e E O=aqP bk):(∀t,36<=t->t<=41->yR O (eh E t)=aqQ)/\∃j wf,eh E 6= .c (.own j)/\O[j]? =aqP (.ay e bk aqT wf):=by
 unfold Bb at h;obtain ⟨h1,h⟩:=eV h;refine ⟨fun t au aa=> ?_, ?_⟩
 ·have J:=aq8.1 h1;refine J t ?_;simp only[aq6,asB,or_false];omega
 ·split at h
  ·rename_i j ar;split at h
   ·rename_i bw xs wf ah;split at h
    ·rename_i he;subst he;cases h;exact ⟨j,wf,ar,ah⟩
    ·cases h
   ·cases h
  ·cases h
theorem ba.snoc {ap bx:Type} {R:ap->bx->Prop}:∀{l:List ap} {k:List bx} {a:ap} {b:bx},ba R l k->R a b->ba R (l++[a]) (k++[b])
 |[],[],_,_,_,h=>⟨h,trivial⟩
 |[],_::_,_,_,h,_=>h.elim
 |_::_,[],_,_,h,_=>h.elim
 |_::_,_::_,_,_,⟨h1,J⟩,h=>⟨h1,ba.snoc J h⟩
theorem aib {O:List (aL D)} {z:Nat->a6} {e:Mem} {m:Mem} {k:Option Nat} {vs:List aqR} {j tr:Nat} {xs:List (D tr)} {wf:Bool} {v:aqR} (av:bo X.G O z e m k vs) (ah:O[j]? =aqP (.ay tr xs aqT wf)) (ad:vs[j]? =aqP v):bo X.G [.ay tr xs aqT wf] z e m k [v]:=by
 refine ⟨av.aO,rfl,fun i o u ae hu=> ?_,fun i fH o p u l4 ca ae dY _ _ _ _=> ?_⟩
 ·cases i with
  |zero=>cases ae;cases hu;exact av.obj j _ v ah ad
  |succ i=>cases ae
 ·cases i with
  |zero=>cases fH with
   |zero=>exact absurd rfl ca
   |succ fH=>cases dY
  |succ i=>cases ae
structure apK {e kt vt:Nat} (B:u4 P D X e kt vt) (a:Act) (w:World):Prop where
 out:∃fL bK v6 mk iZ l8 wf,u5 B {a with tmps:=a.tmps} w fL bK v6 mk iZ l8 wf/\(∀x∈B.cs.toList,x∈fL)
 v31:hE (dZ a 31)
 v32:dZ a 32= .bool aqT
theorem amD {e kt vt:Nat} {B:u4 P D X e kt vt} (fG:Jh B) (bO:fQ X) (jN:P.follows .mixedOrders=aqQ) {mt:aqY} {jg iV iW hp:Array Oper} {iM kI i8 i9 i10:Nat} (qH:SA mt jg iV iW) (bi:44<B.N)
  (M7:∀o∈hp.toList,(∀x∈o.op.operands,ku x=aqQ)/\∀d,o.dst=aqP d->d<B.N)
  (vL:∀t,iT t=aqT\/t=29\/t=30\/t=31\/t=32\/t=33\/t=34\/t=35\/t=9\/t=10->(tp hp).contains t=aqT)
  (aa:∀a b bk wf,bk.length<ma->pk X hp.toList hp.toList [(6, .c (.own 0)),(9,B.V.DC a),(10,B.V.cY b)] [.ay e bk aqT wf] (Bb e)=aqP (bk++[B.V.app a b]))
  {a:Act} {w:World} {fL:List MapEntry} {bK:List (D kt×D vt)} {v6:aqR} {mk:Mem} {iZ:bq} {l8:Nat->a6} {wf:Bool} (h:u5 B a w fL bK v6 mk iZ l8 wf) (ae:G7 B w fL)
  {R:Act->World->Prop} {Q:Exit->Act->World->Prop}
  (yr:∀a' w' Du Nd DF mk' MM QX z6,u5 B a' w' Du Nd DF mk' MM QX z6->G7 B w' Du->Du≠[]->FN B.jm B.r w'<FN B.jm B.r w->R a' w')
  (Ff:∀a',(∀t,t≠31->t≠32->dZ a' t=dZ a t)->hE (dZ a' 31)->dZ a' 32= .bool aqT->a'.defers=[]->a'.tmps.size=B.N->(∀x∈B.cs.toList,x∈fL)->Q .normal a' w):
  (Code.seq (.region i8 iV aqT) (.seq (.cond (.tmp 32) .skip (.exit iM)) (.block kI (.seq (.region i9 iW aqT) (.region i10 hp aqT))))).wp P (Exit.then R (Exit.inBlock iM Q)) a w:=by
 obtain ⟨kJ,kj,mq⟩:=ae;have tE:=h.map fG;have hold:∀x∈B.cs.toList,x.born<B.gG:=fG.aO.2;obtain ⟨gm,pU,aX,d1,dm,g1,t1⟩:=qH.hz.cons;obtain ⟨gV,B6,e2,d2,ei,g2,t2⟩:=t1.cons;have hR:=t2.nil;subst hR e2;dsimp only at d1 dm d2 ei;have Fy:(31:Nat)<a.tmps.size:=by rw[h.size];omega
 have ano:∀{x:MapEntry},x∈B.cs.toList->(fL.map (·.born)).toArray.contains x.born=aqQ->x∈fL:=by
  intro x U ab;have:x.born∈fL.map (·.born):=by simpa using ab
  obtain ⟨y,ag,he⟩:=aq'.1 this;have:=af0 fG.aO.1 (h.mem y ag) U he;rw[<-this];exact ag
 refine wp_seq (wp_region_list ?_);rw[aX];rcases run_next_at (P:=P) w gm.type B.r B.jm B.gG kJ _ B.cs B.gG kj tE hold mq with ⟨aE,jP⟩|⟨x,U,cN,E7,jP⟩
 ·refine mN g1 (v:= .tuple #[.bool aqT]) (w':=w) (by simp[execOp,dm,oh,h.v30,jP]) ?_;rw[d1];have Fz:(32:Nat)<(a.put (aqP 31) (.tuple #[.bool aqT])).tmps.size:=by rw[fS.1,h.size];omega
  refine mN g2 (Ck (vs:=#[.bool aqT]) (v:= .bool aqT) ei (by rw[oh,Gg Fy]) rfl) ?_;rw[d2];refine wpList_nil ?_;refine wp_seq (wp_cond_false (by rw[show Act.eval _ (.tmp 32)=dZ _ 32 from rfl,Gg Fz]) (wp_exit ?_));simp only[Exit.then,Exit.inBlock,if_true];refine Ff _ (fun t h1 J=>by rw[N1 Fz J,N1 Fy h1]) ?_ (Gg Fz) (by rw[fS.2,fS.2];exact h.defers) (by rw[fS.1,fS.1];exact h.size) fun x U=>ano U (all_seen _ _ aE x U);rw[N1 Fz (by omega),Gg Fy];intro b aa;cases aa
 ·obtain ⟨MG,pR⟩:=mem_left U;obtain ⟨⟨ja,xt⟩,jn,yH⟩:=fG.es x MG;dsimp only at jn yH;obtain ⟨fk,lU⟩:∃fk,fk=setBlock cN B.r (.mapIter (aqP B.jm) B.gG ((fL.map (·.born)).toArray.push x.born) B.gG):=⟨_,rfl⟩
  rw[<-lU] at jP;have Mu:B.r<w.heap.size:=by
   rcases arK B.r w.heap.size with ax|ax
   ·exact ax
   ·rw[Array.getElem?_eq_none ax] at kj;cases kj
  have iF:cN.heap=w.heap/\cN.os=w.os/\cN.tape=w.tape/\cN.output=w.output:=by rcases E7 with rfl|rfl<;>exact ⟨rfl,rfl,rfl,rfl⟩
  have b5:fk.heap.size=w.heap.size:=by rw[lU];simp[setBlock,iF.1]
  have cd:fk.os=w.os/\fk.tape=w.tape/\fk.output=w.output:=by rw[lU];exact ⟨iF.2.1,iF.2.2.1,iF.2.2.2⟩
  have dN:∀c,c≠B.r->fk.heap[c]? =w.heap[c]? :=fun c ab=>by rw[lU];simp[setBlock,iF.1,Array.getElem?_setIfInBounds,Ne.symm ab]
  have fD:fk.heap[B.r]? =aqP (.mapIter (aqP B.jm) B.gG ((fL.map (·.born)).toArray.push x.born) B.gG):=by rw[lU];simp[setBlock,iF.1,Mu]
  have yz:mk.aH B.bS= .dead:=h.post.dead fG.bS fG.dead;have E4:Post P B.et B.m0 B.de iZ mk fk:=h.post.aev fG.r b5 cd.1 cd.2.1 cd.2.2 dN h.A8 yz;have Fi:iZ B.bS=aqP ⟨B.r,0,0,0⟩:=by rw[h.post.ext _ fG.bS];exact fG.aaS
  have acu:fk.heap[B.jm]? =aqP (.map B.cs B.gG):=by rw[dN _ (by have:=fG.JG;have:=fG.r;omega)];exact tE
  have ap9:x∉fL:=fun ax=>by
   have:(fL.map (·.born)).toArray.contains x.born=aqQ:=by simpa using ⟨x,ax,rfl⟩
   rw[this] at pR;cases pR
  refine mN g1 (v:= .tuple #[.bool aqQ,x.key,x.val]) (w':=fk) (by simp[execOp,dm,oh,h.v30,jP]) ?_;rw[d1];obtain ⟨c4,nR⟩:∃c4,c4=a.put (aqP 31) (.tuple #[.bool aqQ,x.key,x.val]):=⟨_,rfl⟩
  have cq:c4.tmps.size=B.N/\c4.defers=[]:=by rw[nR,fS.1,fS.2];exact ⟨h.size,h.defers⟩
  have a7:∀t,dZ c4 t=if t=31 then .tuple #[.bool aqQ,x.key,x.val] else dZ a t:=fun t=>by rw[nR];exact mG Fy
  rw[<-nR];refine mN g2 (w':=fk) (Ck (vs:=#[.bool aqQ,x.key,x.val]) (v:= .bool aqQ) ei (by rw[oh,a7,if_pos rfl]) rfl) ?_;rw[d2];obtain ⟨a2,kg⟩:∃a2,a2=c4.put (aqP 32) (.bool aqQ):=⟨_,rfl⟩
  have z2:a2.tmps.size=B.N/\a2.defers=[]:=by rw[kg,fS.1,fS.2];exact cq
  have bj:∀t,dZ a2 t=if t=32 then .bool aqQ else dZ c4 t:=fun t=>by rw[kg];exact mG (by rw[cq.1];omega)
  rw[<-kg];refine wpList_nil ?_;refine wp_seq (wp_cond_true (by rw[show Act.eval _ (.tmp 32)=dZ _ 32 from rfl,bj,if_pos rfl]) (wp_skip ?_));refine wp_block (wp_seq (wp_region_list ?_));obtain ⟨r0,MS,hR,d3,gb,g3,t3⟩:=qH.mo.cons;obtain ⟨Vk,adZ,mn,d4,hi,g4,t4⟩:=t3.cons;obtain ⟨Vl,aqi,x9,d5,tU,g5,t5⟩:=t4.cons;obtain ⟨Vm,aqj,aaP,d6,Na,g6,t6⟩:=t5.cons;obtain ⟨aqn,aqk,aaQ,d7,Vr,g7,t7⟩:=t6.cons;have aaR:=t7.nil;subst aaR aaQ aaP x9 mn;dsimp only at d3 gb d4 hi d5 tU d6 Na d7 Vr;rw[hR];refine mN g3 (v:= .tuple #[x.key,x.val]) (w':=fk) (by simp[execOp,gb,oh,bj,a7,h.v30,run_entry_at fk B.r B.jm B.gG _ B.cs B.gG x fD acu MG fG.aO.1]) ?_;rw[d3];obtain ⟨a3,vl⟩:∃a3,a3=a2.put (aqP 33) (.tuple #[x.key,x.val]):=⟨_,rfl⟩
  have z3:a3.tmps.size=B.N/\a3.defers=[]:=by rw[vl,fS.1,fS.2];exact z2
  have bz:∀t,dZ a3 t=if t=33 then .tuple #[x.key,x.val] else dZ a2 t:=fun t=>by rw[vl];exact mG (by rw[z2.1];omega)
  rw[<-vl];refine mN g4 (w':=fk) (Ck (vs:=#[x.key,x.val]) (v:=x.key) hi (by rw[oh,bz,if_pos rfl]) rfl) ?_;rw[d4];obtain ⟨a4,vm⟩:∃a4,a4=a3.put (aqP 34) x.key:=⟨_,rfl⟩
  have z4:a4.tmps.size=B.N/\a4.defers=[]:=by rw[vm,fS.1,fS.2];exact z3
  have bI:∀t,dZ a4 t=if t=34 then x.key else dZ a3 t:=fun t=>by rw[vm];exact mG (by rw[z3.1];omega)
  rw[<-vm];refine mN g5 (w':=fk) (Ck (vs:=#[x.key,x.val]) (v:=x.val) tU (by rw[oh,bI,if_neg (by omega),bz,if_pos rfl]) rfl) ?_;rw[d5];obtain ⟨a5,LH⟩:∃a5,a5=a4.put (aqP 35) x.val:=⟨_,rfl⟩
  have z5:a5.tmps.size=B.N/\a5.defers=[]:=by rw[LH,fS.1,fS.2];exact z4
  have bR:∀t,dZ a5 t=if t=35 then x.val else dZ a4 t:=fun t=>by rw[LH];exact mG (by rw[z4.1];omega)
  rw[<-LH];refine mN g6 (w':=fk) (v:=x.key) (by rw[V2 Na,oh,bR,if_neg (by omega),bI,if_pos rfl]) ?_;rw[d6];obtain ⟨rr,LI⟩:∃rr,rr=a5.put (aqP 9) x.key:=⟨_,rfl⟩
  have aab:rr.tmps.size=B.N/\rr.defers=[]:=by rw[LI,fS.1,fS.2];exact z5
  have b3:∀t,dZ rr t=if t=9 then x.key else dZ a5 t:=fun t=>by rw[LI];exact mG (by rw[z5.1];omega)
  rw[<-LI];refine mN g7 (w':=fk) (v:=x.val) (by rw[V2 Vr,oh,b3,if_neg (by omega),bR,if_pos rfl]) ?_;rw[d7];obtain ⟨pC,LJ⟩:∃pC,pC=rr.put (aqP 10) x.val:=⟨_,rfl⟩
  have aac:pC.tmps.size=B.N/\pC.defers=[]:=by rw[LJ,fS.1,fS.2];exact aab
  have ck:∀t,dZ pC t=if t=10 then x.val else dZ rr t:=fun t=>by rw[LJ];exact mG (by rw[aab.1];omega)
  rw[<-LJ];refine wpList_nil ?_;show (Code.region i10 hp aqT).wp P _ pC fk
  let fr:Nat->aqR:=fun t=>if t=6 then v6 else if t=9 then B.V.oZ ja else if t=10 then B.V.nD xt else if t=30 then .pointer (aqP ⟨B.bS,0,aqS⟩) else if t=32 then .bool aqQ else
   if iT t=aqQ then (if fL.isEmpty=aqQ/\36<=t then B.EO t else any) else B.EO t
  have cG:jB iZ B.N fr pC:=by
   refine ⟨fun t=> ?_,aac.2,aac.1⟩;show b9 iZ (fr t) (dZ pC t);simp only[fr,ck,b3,bR,bI,bz,bj,a7];by_cases dt:t=6
   ·subst dt;simpa using h.v6
   by_cases mo:t=9
   ·subst mo;simp only[jn];exact Gl (B.V.TL ja)
   by_cases Bf:t=10
   ·subst Bf;simp only[yH];exact Gl (B.V.yc xt)
   by_cases oN:t=30
   ·subst oN;simp only[h.v30];exact ⟨⟨B.r,0,0,0⟩,rfl,Fi,rfl⟩
   by_cases lJ:t=32
   ·subst lJ;exact rfl
   rw[if_neg dt,if_neg mo,if_neg Bf,if_neg oN,if_neg lJ,if_neg Bf,if_neg mo];by_cases hw:iT t=aqQ
   ·rw[if_pos hw];by_cases EZ:t=35
    ·subst EZ;rw[if_neg (by omega),if_pos rfl];exact pb (by rw[yH];exact B.V.dd xt)
    by_cases EY:t=34
    ·subst EY;rw[if_neg (by omega),if_neg (by omega),if_pos rfl];exact pb (by rw[jn];exact B.V.M1 ja)
    by_cases EX:t=33
    ·subst EX;rw[if_neg (by omega),if_neg (by omega),if_neg (by omega),if_pos rfl];exact pb (fun b aa=>by cases aa)
    by_cases pG:t=31
    ·subst pG;rw[if_neg (by omega)];simp only[if_neg EZ,if_neg EY,if_neg EX,if_neg lJ,if_pos rfl];exact pb (fun b aa=>by cases aa)
    by_cases pF:t=29
    ·subst pF;rw[if_neg (by omega)];simp only[if_neg EZ,if_neg EY,if_neg EX,if_neg lJ,if_neg pG];exact pb h.ZN
    have E0:36<=t:=by simp only[iT,ar1,aq5,asW,as6] at hw;omega
    have ai:B7 t=aqQ:=by simp only[iT,B7,ar1,aq5,asW,as6] at hw⊢;omega
    rw[if_neg EZ,if_neg EY,if_neg EX,if_neg lJ,if_neg pG];by_cases aK:fL=[]
    ·rw[if_pos ⟨by rw[aK];rfl,E0⟩];exact (h.on t ai).1 aK
    ·rw[if_neg (fun ax=>aK (by simpa using ax.1))];exact pb ((h.on t ai).2 aK)
   ·have gQ:iT t=aqT:=by simpa using hw
    have ca:t≠35/\t≠34/\t≠33/\t≠31:=by refine ⟨?_, ?_, ?_, ?_⟩<;>(rintro rfl;exact absurd gQ (by decide))
    rw[if_neg hw,if_neg ca.1,if_neg ca.2.1,if_neg ca.2.2.1,if_neg lJ,if_neg ca.2.2.2];exact h.off t gQ
  have Ft:bK.length=fL.length:=h.rel.length;have km:((fL++[x]).map (·.born)).Nodup:=by
   rw[ar3,List.nodup_append];refine ⟨h.fC,by simp,fun p an q aK=> ?_⟩;simp only[arG,List.map_nil,arO] at aK;subst aK;intro he;subst he;have:(fL.map (·.born)).toArray.contains x.born=aqQ:=by simpa using an
   rw[this] at pR;cases pR
  have hJ:∀y∈fL++[x],y∈B.cs.toList:=fun y ag=>by
   rcases arc.1 ag with ag|ag
   ·exact h.mem y ag
   ·rw[arO.1 ag];exact MG
  have aN:(fL++[x]).length<=B.cs.size:=by
   have:=WK (m:=B.cs.toList.map (·.born)) km fun p an=>by obtain ⟨y,ag,rfl⟩:=aq'.1 an;exact aq'.2 ⟨y,hJ y ag,rfl⟩
   simpa using this
  have hlen:(B.xs++bK.map fun p=>B.V.app p.1 p.2).length<ma:=by have:=fG.len;simp only[ari,arN,arr,List.length_nil] at aN⊢;omega
  obtain ⟨aaF,cl,lb⟩:=(show c3 (X.G.T e) l8 B.em mk B.k _ v6 from h.yQ.obj 0 _ v6 rfl rfl).bd.len;have LF:eC X l8 [v6] [(6, .c (.own 0)),(9,B.V.DC ja),(10,B.V.cY xt)] fr:=by
   intro d;simp only[eh];split
   ·rename_i aB;have:=aru aB;subst this;exact ⟨rfl,by rw[show fr 6=v6 from rfl,lb];exact ⟨rfl,rfl⟩⟩
   ·split
    ·rename_i aB;have:=aru aB;subst this;exact B.V.hk _ _ _
    ·split
     ·rename_i aB;have:=aru aB;subst this;exact B.V.ad _ _ _
     ·trivial
  obtain ⟨n,fr',m',Mx,lP⟩:=zl bO h.yQ LF (aa ja xt _ wf hlen);obtain ⟨vj,Bh⟩:=F1 jN n;obtain ⟨LG, -, -⟩:=GZ vj hp.toList fr fr' mk m' (fun o ah=>(M7 o ah).1) Mx h.QC (cG.low E4.rel);refine wp_region_list (Gi vj Bh (fun o ah=>(M7 o ah).2) hp.toList fr fr' mk m' iZ pC fk M7 Mx E4.rel h.QC cG fun a' w' bT an kf=> ?_);obtain ⟨z',vs',E',bB,fz,pS,lT,yg,yh,fy⟩:=lP;obtain ⟨BI,j,z6,abb,abq⟩:=ahp fy;have dt:=yh 6;rw[abb] at dt;have e5:∀b q,iZ b=aqP q->bT b=aqP q:=fun b q aa=>by rw[an.ext b (E4.rel.lt b q aa).1];exact aa
  have T3:=E4.trans an;have jq:∀u,vs'[0]? =aqP u->hE u:=fun u hu=>by have:=lT 0 v6 rfl;rw[this] at hu;cases hu;rw[lb];exact N7
  have Bq:∀t,t=29\/t=31\/t=33\/t=34\/t=35->fr t=any:=fun t ao=>by rcases ao with rfl|rfl|rfl|rfl|rfl<;>simp[fr,iT]
  have keep:∀t,(tp hp).contains t=aqT->fr' t=fr t:=fun t ao=>Gh _ _ _ _ _ (OQ ao) Mx;have Un:w'.heap[B.r]? =aqP (.mapIter (aqP B.jm) B.gG ((fL.map (·.born)).toArray.push x.born) B.gG):=by rw[an.ec.block B.r (by rw[b5];exact Mu) fun b q aa ah=>h.A8 b q aa fun ax=>by rw[ax,yz] at ah;cases ah];exact fD
  have acU:(fL.map (·.born)).toArray.push x.born=((fL++[x]).map (·.born)).toArray:=by simp
  have acv:w'.heap[B.jm]? =aqP (.map B.cs B.gG):=by rw[T3.ec.block B.jm fG.JG fG.free];exact fG.jm
  refine yr a' w' (fL++[x]) (bK++[(ja,xt)]) (fr' 6) m' bT z' z6 ⟨T3,LG, ?_,h.aaf.trans pS,h.rel.snoc ⟨jn,yH⟩,an.apart (by rw[b5];exact Mu) h.A8 yz,hJ,km,kf.defers,kf.size,kf.val 6, ?_, ?_,fun t ao=> ?_,fun t ao=>⟨fun aK=>absurd aK (by simp),fun _=> ?_⟩⟩ ⟨B.gG,by rw[<-acU];exact Un,aq3 _⟩ (by simp) ?_
  ·have:=aib yg abq dt.1;rw[ar3,<-List.append_assoc];exact this
  ·have pF:=kf.val 29;rw[keep 29 (vL 29 (by simp)),Bq 29 (by simp)] at pF;exact pF
  ·have oN:=kf.val 30;rw[keep 30 (vL 30 (by simp))] at oN;obtain ⟨q,_,aK,ab⟩:=(show b9 bT (.pointer (aqP ⟨B.bS,0,aqS⟩)) (dZ a' 30) from oN).ptr;rw[show bT B.bS=_ from e5 _ _ Fi] at aK;cases aK;exact ab
  ·have h1:=kf.val t;rw[keep t (vL t (.inl ao))] at h1;have hw:¬iT t=aqQ:=by rw[ao];simp
   have ca:t≠6/\t≠9/\t≠10/\t≠30/\t≠32:=by refine ⟨?_, ?_, ?_, ?_, ?_⟩<;>(rintro rfl;exact absurd ao (by decide))
   simp only[fr,if_neg ca.1,if_neg ca.2.1,if_neg ca.2.2.1,if_neg ca.2.2.2.1,if_neg ca.2.2.2.2,if_neg hw] at h1;exact h1
  ·have h1:=kf.val t;by_cases E0:36<=t/\t<=41
   ·exact C8 h1 (Ys yg jq (BI t E0.1 E0.2) (yh t))
   ·have kn:t=31\/t=33\/t=34\/t=35\/t=9\/t=10:=by
     simp only[B7,ar1,aq5,asW,as6] at ao;omega
    rw[keep t (vL t (by omega))] at h1;rcases kn with rfl|rfl|rfl|rfl|rfl|rfl
    ·rw[Bq 31 (by simp)] at h1;exact h1
    ·rw[Bq 33 (by simp)] at h1;exact h1
    ·rw[Bq 34 (by simp)] at h1;exact h1
    ·rw[Bq 35 (by simp)] at h1;exact h1
    ·exact C8 h1 (B.V.M1 ja)
    ·exact C8 h1 (B.V.dd xt)
  ·simp only[FN,acv,Un,tE,kj];exact left_shrinks _ _ _ U
open Classical in
def pc (em:Mem) (z:Nat->a6) (k:Option Nat) (b:Nat):Prop:=(b<em.next/\(k≠aqP b\/z b≠ .dead))\/(z b).fF
open Classical in
def tm (m em:Mem) (z:Nat->a6) (k:Option Nat) (cells:List aqR) (t:aqY):Mem where
 next:=m.next+1
 aH:=fun b=>if b<m.next then (if pc em z k b then m.aH b else .dead) else if b=m.next then .own cells t else .dead
open Classical in
theorem OL {m em:Mem} {z:Nat->a6} {k:Option Nat} {cells:List aqR} {t:aqY} {b:Nat} (aa:b<m.next) (hk:pc em z k b):(tm m em z k cells t).aH b=m.aH b:=by
 show (if b<m.next then (if pc em z k b then m.aH b else .dead) else if b=m.next then .own cells t else .dead)=m.aH b;rw[if_pos aa,if_pos hk]
open Classical in
theorem ahy {m em:Mem} {z:Nat->a6} {k:Option Nat} {cells:List aqR} {t:aqY} {b:Nat} (aa:b<m.next) (hk:¬pc em z k b):(tm m em z k cells t).aH b= .dead:=by
 show (if b<m.next then (if pc em z k b then m.aH b else .dead) else if b=m.next then .own cells t else .dead)= .dead;rw[if_pos aa,if_neg hk]
open Classical in
theorem NZ {m em:Mem} {z:Nat->a6} {k:Option Nat} {cells:List aqR} {t:aqY}:(tm m em z k cells t).aH m.next= .own cells t:=by
 show (if m.next<m.next then (if pc em z k m.next then m.aH m.next else .dead) else if m.next=m.next then .own cells t else .dead)=_;rw[if_neg (ata _),if_pos rfl]
open Classical in
theorem OK {m em:Mem} {z:Nat->a6} {k:Option Nat} {cells:List aqR} {t:aqY} {b:Nat} (aa:m.next+1<=b):(tm m em z k cells t).aH b= .dead:=by
 show (if b<m.next then (if pc em z k b then m.aH b else .dead) else if b=m.next then .own cells t else .dead)= .dead;rw[if_neg (by omega),if_neg (by omega)]
open Classical in
theorem wc {m em:Mem} {z:Nat->a6} {k:Option Nat} {cells:List aqR} {t:aqY} {b:Nat} (aa:b<m.next):(tm m em z k cells t).aH b=m.aH b/\pc em z k b\/(tm m em z k cells t).aH b= .dead:=by
 by_cases hk:pc em z k b
 ·exact .inl ⟨OL aa hk,hk⟩
 ·exact .inr (ahy aa hk)
def mK (z:Nat->a6) (bS:Nat):Nat->a6:=fun b=>if b=bS then .dead else z b
theorem alu {ap:Type} {T:cf ap} {dq:ap->List aqR} (j6:∀z x ds,T.rd z x ds->ds=dq x) (hc:∀x,(dq x).all cv=aqQ) (dS:0<T.a1) (mY:P.cellsOf T.tid=T.a1) {j:bq} {m:Mem} {w:World} (bp:Rel P j m w) (cr:WF m) {em:Mem} {z:Nat->a6} {k:Option Nat} (dF:cK z em m k) {bS:Nat} (Fv:bS<m.next) {aah:List aqR} {anN:aqY} (fA:m.aH bS= .map aah anN) (adF:(z bS).fF)
  {FI:bq} {B8:Mem} {wf:World} {I7:Nat->a6} (bu:Post P (j.up m.next ⟨w.heap.size,0,0,0⟩) ((m.put bS .dead).push .dead) w FI B8 wf) (US:cK I7 (em.put bS .dead) B8 k) (pS:cR em.next (mK z bS) I7)
  {dT:List ap} {v aV:aqR} (hO:c3 T I7 (em.put bS .dead) B8 k dT v) (ad:b9 FI v aV) (ca:0<dT.length):
  ∃bT,Post P j m w bT (tm m em z k (dT.flatMap dq) T.tid) wf/\b9 bT (.slice (aqP ⟨m.next,0,aqS⟩) dT.length dr) aV/\∀b,b<m.next->bT b=j b:=by
 obtain ⟨yA,fY⟩:=hO;rcases yA with ⟨_,rfl⟩|⟨mh,off,L,c,rfl,g1,g2,g3,g4,g5,g6⟩
 ·simp at ca
 have Fa:em.next<=mh:=fY mh rfl;obtain ⟨q,_,aK,ab⟩:=ad.slice;have aK:FI mh=aqP q:=aK;have UE:=bu.rel.obj mh q aK;rw[g1] at UE;obtain ⟨eY,bg,gm,gV,r0,Vk,Vl,Vm⟩:=UE;have kl:∀x,x∈dT->(dq x).length=T.a1:=fun x U=>by obtain ⟨i,ae⟩:=List.getElem?_of_mem U;obtain ⟨cs,h1,_⟩:=g6 i x ae;rw[<-j6 _ _ _ h1];exact T.len _ _ _ h1
 have hlen:(dT.flatMap dq).length=dT.length*T.a1:=CD kl;have jM:q.es=T.a1:=r0.symm.trans mY;obtain ⟨hq,fO,eQ,jZ,aqd⟩:∃hq,aV= .slice (aqP ⟨q.aH,q.dO+off,aqS⟩) dT.length hq/\dT.length<=hq/\hq<dr/\off+hq*q.es<=q.cap*q.es:=by
  rcases ab with ⟨h1,J⟩|⟨h1,J,aj,aM,br,dt,hb⟩|⟨_,aI,_⟩|⟨_,aI,_⟩
  ·rcases g5 with g5|⟨_,g5,apS⟩
   ·rw[g5] at h1;exact absurd h1 (ata _)
   ·exact ⟨c,J,g5,h1,by rw[jM] at Vl⊢;omega⟩
  ·refine ⟨q.cap - off / q.es,hb,aj,Nat.lt_of_le_of_lt (Nat.sub_le _ _) aM, ?_⟩;have br:off%q.es=0:=br;have dt:off / q.es<=q.cap:=dt;have nX:off=off / q.es*q.es:=by
    have:=Nat.div_add_mod off q.es;rw[br,arC,Nat.mul_comm] at this;exact this.symm
   rw[Nat.sub_mul,<-nX];have:=ar9 q.es dt;omega
  ·omega
  ·omega
 have vQ:pc em z k bS:= .inr adF;have L8:∀b,b<m.next->FI b=j b:=fun b aa=>by rw[bu.ext b (by show b<m.next+1;omega)];show (if b=m.next then aqP _ else j b)=j b;rw[if_neg (by omega)]
 have UJ:∀b,b<m.next->b≠bS->((m.put bS .dead).push .dead).aH b=m.aH b:=fun b aa aw=>by show (if b=m.next then a6.dead else if b=bS then .dead else m.aH b)=m.aH b;rw[if_neg (by omega),if_neg aw]
 have vH:((m.put bS .dead).push .dead).aH bS= .dead:=by show (if bS=m.next then a6.dead else if bS=bS then .dead else m.aH bS)= .dead;rw[if_neg (by omega),if_pos rfl]
 have UI:((m.put bS .dead).push .dead).aH m.next= .dead:=by show (if m.next=m.next then a6.dead else _)= .dead;rw[if_pos rfl]
 have aca:j m.next=aqS:=bp.Ca;have e5:∀(E:iL) b,b<m.next->j.up m.next E b=j b:=fun E b aa=>by show (if b=m.next then aqP E else j b)=j b;rw[if_neg (by omega)]
 have yF:∀(E:iL),j.up m.next E m.next=aqP E:=fun E=>by show (if m.next=m.next then aqP E else j m.next)=aqP E;rw[if_pos rfl]
 have vK:∀b,pc em z k b->b<m.next->b≠bS->B8.aH b=m.aH b:=by
  intro b hk aa aw;have fZ:mK z bS b=z b:=by simp[mK,aw]
  have Ui:I7 b=z b->z b≠ .dead->B8.aH b=m.aH b:=fun h1 J=>by rw[(US.bg b (by rw[h1];exact J)).1,h1,<-(dF.bg b J).1]
  rcases hk with ⟨h1,J⟩|h1
  ·rcases J with J|J
   ·rw[US.kept b h1 J,dF.kept b h1 J];show (if b=bS then a6.dead else em.aH b)=em.aH b;rw[if_neg aw]
   ·exact Ui ((pS.low b h1).trans fZ) J
  ·exact Ui ((pS.le b (by rw[fZ];exact h1)).trans fZ) h1.ne
 have hblk:∀c,c<w.heap.size->(∀b e,j b=aqP e->(m.aH b).hK=aqQ->b≠bS->e.aH≠c)->wf.heap[c]? =w.heap[c]? :=by
  intro c ab j2;refine bu.ec.block c ab fun b e aa ah=> ?_;by_cases eL:b=m.next
  ·rw[eL,UI] at ah;cases ah
  ·by_cases ki:b=bS
   ·rw[ki,vH] at ah;cases ah
   ·have ct:j b=aqP e:=by
     rw[<-aa];show j b=(if b=m.next then _ else j b);rw[if_neg eL]
    rw[UJ b (bp.lt b e ct).1 ki] at ah;exact j2 b e ct ah ki
 have Mh:(m.aH bS).hK=aqQ:=by rw[fA];rfl
 have acw:(m.aH bS).live=aqQ:=by rw[fA];rfl
 have yE:∀e,j bS=aqP e->wf.heap[e.aH]? =w.heap[e.aH]? :=fun e he=>hblk _ (bp.lt bS e he).2 fun b bw aa ah ki ax=>ki (bp.inj b bS bw e aa he ah acw ax);have dv:∀b e,j b=aqP e->pc em z k b->(m.aH b).live=aqQ->e.aH≠q.aH:=by
  intro b e aa hk ai ax;have aN:=(bp.lt b e aa).1;by_cases ki:b=bS
  ·subst ki;have h1:=bp.obj b e aa;rw[fA] at h1;obtain ⟨_,_,cs,apN,_,J,_⟩:=h1;rw[<-yE e aa,ax,gm] at J;cases J
  ·have:=bu.rel.inj mh b q e aK ((L8 b aN).trans aa) (by rw[g1];rfl) (by rw[vK b hk aN ki];exact ai) ax.symm;subst this;rcases hk with ⟨h1,_⟩|h1
   ·omega
   ·have fZ:mK z bS mh=z mh:=by simp[mK,ki]
    have:=pS.le mh (by rw[fZ];exact h1);rw[g3,fZ] at this;rw[<-this] at h1;exact h1
 refine ⟨j.up m.next ⟨q.aH,hq,q.es,q.dO+off⟩,⟨⟨?_, ?_, ?_⟩,⟨bu.ec.os,bu.ec.tape,bu.ec.output,bu.ec.size, ?_⟩,arE _,fun b aa=>e5 _ b aa, ?_, ?_, ?_⟩, ?_,fun b aa=>e5 _ b aa⟩
 ·intro b e aa;by_cases eL:b=m.next
  ·subst eL;rw[yF] at aa;cases aa;exact ⟨arP _,(bu.rel.lt mh q aK).2⟩
  ·rw[show j.up m.next _ b=j b from if_neg eL] at aa;have:=bp.lt b e aa;exact ⟨atf this.1,aro this.2 bu.ec.size⟩
 ·intro b e aa;by_cases eL:b=m.next
  ·subst eL;rw[yF] at aa;cases aa;rw[NZ];refine ⟨eY,bg,gm,gV,r0, ?_, ?_,fun i v ae=> ?_⟩
   ·show q.dO+off+hq*q.es<=eY.size;omega
   ·show (dT.flatMap dq).length<=hq*q.es;rw[hlen,<-jM];exact ar9 _ eQ
   ·obtain ⟨aaO,h1,J⟩:=Vm _ v (NB j6 g6 kl i v ae);have aP:cv v=aqQ:=by
     obtain ⟨x,U,ad⟩:=asz.1 (aq7 ae);exact aq8.1 (hc x) v ad
    have:=CC aP J;subst this;exact ⟨aaO,by show eY[q.dO+off+i]? =_;rw[arx];exact h1,p0 aP⟩
  ·rw[show j.up m.next _ b=j b from if_neg eL] at aa;have aN:=(bp.lt b e aa).1;rcases wc (m:=m) (em:=em) (z:=z) (k:=k) (cells:=dT.flatMap dq) (t:=T.tid) aN with ⟨h1,hk⟩|h1
   ·rw[h1];by_cases ki:b=bS
    ·subst ki;rw[yE e aa];exact (bp.obj b e aa).mono (bq.xq aca)
    ·have J:=bu.rel.obj b e ((L8 b aN).trans aa);rw[vK b hk aN ki] at J;exact (J.below (cr.low b)).mono fun b2 bw ct=>by obtain ⟨aj,aM⟩:=o5 ct;rw[e5 _ _ aj,<-L8 _ aj];exact aM
   ·rw[h1];trivial
 ·intro b b2 e bw aa ct ah ai ax;by_cases eL:b=m.next
  ·by_cases kh:b2=m.next
   ·rw[eL,kh]
   ·subst eL;rw[yF] at aa;cases aa;rw[show j.up m.next _ b2=j b2 from if_neg kh] at ct;have aN:=(bp.lt b2 bw ct).1;rcases wc (m:=m) (em:=em) (z:=z) (k:=k) (cells:=dT.flatMap dq) (t:=T.tid) aN with ⟨h1,hk⟩|h1
    ·rw[h1] at ai;exact absurd ax.symm (dv b2 bw ct hk ai)
    ·rw[h1] at ai;cases ai
  ·rw[show j.up m.next _ b=j b from if_neg eL] at aa;have aN:=(bp.lt b e aa).1;rcases wc (m:=m) (em:=em) (z:=z) (k:=k) (cells:=dT.flatMap dq) (t:=T.tid) aN with ⟨h1,hk⟩|h1
   ·rw[h1] at ah;by_cases kh:b2=m.next
    ·subst kh;rw[yF] at ct;cases ct;exact absurd ax (dv b e aa hk (by cases U:m.aH b<;>rw[U] at ah<;>first|rfl|cases ah))
    ·rw[show j.up m.next _ b2=j b2 from if_neg kh] at ct;have Fp:=(bp.lt b2 bw ct).1;rcases wc (m:=m) (em:=em) (z:=z) (k:=k) (cells:=dT.flatMap dq) (t:=T.tid) Fp with ⟨iX,iO⟩|iX
     ·rw[iX] at ai;exact bp.inj b b2 e bw aa ct ah ai ax
     ·rw[iX] at ai;cases ai
   ·rw[h1] at ah;cases ah
 ·intro c ab j2;exact hblk c ab fun b e aa ah _=>j2 b e aa ah
 ·intro b e aa e4;have eL:b=m.next:=by
   by_cases eL:b=m.next
   ·exact eL
   ·rw[show j.up m.next _ b=j b from if_neg eL] at aa;have:=(bp.lt b e aa).1;omega
  subst eL;rw[yF] at aa;cases aa;show w.heap.size<=q.aH\/∃df dA,j df=aqP dA/\(m.aH df).hK=aqQ/\dA.aH=q.aH;have qG:∀df dA,j.up m.next ⟨w.heap.size,0,0,0⟩ df=aqP dA->(((m.put bS .dead).push .dead).aH df).hK=aqQ->j df=aqP dA/\(m.aH df).hK=aqQ:=by
   intro df dA hY ah;by_cases h1:df=m.next
   ·rw[h1,UI] at ah;cases ah
   ·rw[show j.up m.next _ df=j df from if_neg h1] at hY;by_cases J:df=bS
    ·rw[J,vH] at ah;cases ah
    ·rw[UJ df (bp.lt df dA hY).1 J] at ah;exact ⟨hY,ah⟩
  rcases arK mh (m.next+1) with aN|L4
  ·have:=bu.dg mh aN (by rw[g1];rfl);have BR:=bu.ext mh aN;rw[aK] at BR;obtain ⟨h1,J⟩:=qG mh q BR.symm this;exact .inr ⟨mh,q,h1,J,rfl⟩
  ·rcases bu.fresh mh q aK L4 with h1|⟨df,dA,h1,J,aj⟩
   ·exact .inl h1
   ·obtain ⟨aM,br⟩:=qG df dA h1 J;exact .inr ⟨df,dA,aM,br,aj⟩
 ·intro b aa ah;rcases wc (m:=m) (em:=em) (z:=z) (k:=k) (cells:=dT.flatMap dq) (t:=T.tid) aa with ⟨h1,hk⟩|h1
  ·rw[h1] at ah;exact ah
  ·rw[h1] at ah;cases ah
 ·intro b aa ah;rcases wc (m:=m) (em:=em) (z:=z) (k:=k) (cells:=dT.flatMap dq) (t:=T.tid) aa with ⟨h1,hk⟩|h1
  ·rw[h1] at ah;exact ah
  ·rw[h1] at ah;cases ah
 ·refine ⟨⟨q.aH,hq,q.es,q.dO+off⟩,rfl,yF _, .inr (.inl ⟨rfl,by show 0<q.es;omega, ?_,jZ, ?_, ?_, ?_⟩)⟩
  ·show dT.length<=hq - 0 / q.es;rw[Nat.zero_div];exact eQ
  ·show 0%q.es=0;exact Nat.zero_mod _
  ·show 0 / q.es<=hq;rw[Nat.zero_div];exact ar7 _
  ·show aV= .slice (aqP ⟨q.aH,q.dO+off+0,aqS⟩) dT.length (hq - 0 / q.es);rw[Nat.zero_div,arC,Nat.sub_zero];exact fO
end
end
end Go.aS
end
section
namespace Go.aS
noncomputable section
theorem VH {N:Nat} {c:Code} (h:gn N c=aqQ):∀d,(jv c).contains d=aqQ->d<N:=by
 induction c with
 |region i ops k0=>intro d aB;have h1:=(GH h).1;simp only[jv,tp,atO,List.mem_filterMap] at aB;obtain ⟨o,ah,aB⟩:=aB;exact (h1 o ah).2 d aB
 |seq a b vS vT=>
  intro d aB;simp only[gn,aq5] at h;simp only[jv,atO,arc] at aB;rcases aB with aB|aB
  ·exact vS h.1 d (by simpa using aB)
  ·exact vT h.2 d (by simpa using aB)
 |cond x a b vS vT=>
  intro d aB;simp only[gn,aq5] at h;simp only[jv,atO,arc] at aB;rcases aB with aB|aB
  ·exact vS h.1.2 d (by simpa using aB)
  ·exact vT h.2 d (by simpa using aB)
 |block i a a8=>exact a8 h
 |scope a a8=>exact a8 h
 |loop a a8=>exact a8 h
 |_=>intro d aB;simp[jv] at aB
theorem Wh (w:World) (o:Obj):(w.alloc o).heap.size=w.heap.size+1:=by show (w.heap.push o).size=_;exact Array.size_push _
theorem Post.iter {P:aqV} {j:bq} {m:Mem} {w:World} (bp:Rel P j m w) (o:Obj):Post P j m w j m (w.alloc o):=by
 have h:=at7 w o;have bC:=Wh w o;exact ⟨⟨fun b e aa=>⟨(bp.lt b e aa).1,by have:=(bp.lt b e aa).2;omega⟩,fun b e aa=>by rw[h.2 _ (bp.lt b e aa).2];exact bp.obj b e aa,bp.inj⟩,⟨rfl,rfl,rfl,by omega,fun c ab _=>h.2 c ab⟩,aq3 _,fun _ _=>rfl,fun b e aa e4=>absurd (bp.lt b e aa).1 (by omega),fun _ _ h=>h,fun _ _ h=>h⟩
def lW (m:Mem) (bS:Nat):Mem:=(m.put bS .dead).push .dead
def n3 (j:bq) (m:Mem) (w:World):bq:=j.up m.next ⟨w.heap.size,0,0,0⟩
theorem Hh {m:Mem} {bS b:Nat} (h1:b≠bS) (J:b≠m.next):(lW m bS).aH b=m.aH b:=by
 show (if b=m.next then a6.dead else if b=bS then .dead else m.aH b)=m.aH b;rw[if_neg J,if_neg h1]
theorem X7 {m:Mem} {bS:Nat}:(lW m bS).aH m.next= .dead:=by
 show (if m.next=m.next then a6.dead else _)= .dead;rw[if_pos rfl]
theorem YI {m:Mem} {bS:Nat}:(lW m bS).aH bS= .dead:=by
 show (if bS=m.next then a6.dead else if bS=bS then .dead else m.aH bS)= .dead;split
 ·rfl
 ·rw[if_pos rfl]
theorem wE {m:Mem} {bS b:Nat}:(lW m bS).aH b= .dead\/((lW m bS).aH b=m.aH b/\b≠bS/\b≠m.next):=by
 by_cases h1:b=bS
 ·rw[h1];exact .inl YI
 ·by_cases J:b=m.next
  ·rw[J];exact .inl X7
  ·exact .inr ⟨Hh h1 J,h1,J⟩
theorem zm {j:bq} {m:Mem} {w:World} {b:Nat} (h:b≠m.next):n3 j m w b=j b:=by
 show (if b=m.next then _ else j b)=j b;rw[if_neg h]
theorem X6 {j:bq} {m:Mem} {w:World}:n3 j m w m.next=aqP ⟨w.heap.size,0,0,0⟩:=by
 show (if m.next=m.next then _ else j m.next)=_;rw[if_pos rfl]
theorem Ow {j:bq} {m:Mem} {w:World} {b:Nat} {e:iL} (h:n3 j m w b=aqP e):(b=m.next/\e=⟨w.heap.size,0,0,0⟩)\/(b≠m.next/\j b=aqP e):=by
 by_cases aa:b=m.next
 ·subst aa;rw[X6] at h;cases h;exact .inl ⟨rfl,rfl⟩
 ·rw[zm aa] at h;exact .inr ⟨aa,h⟩
theorem aiv {m:Mem} {bS:Nat} (h:WF m):WF (lW m bS):=by
 refine ⟨fun b aa=> ?_,fun b=> ?_⟩
 ·rcases wE (m:=m) (bS:=bS) (b:=b) with h1|⟨h1,_,J⟩
  ·exact h1
  ·have aa:m.next+1<=b:=aa;rw[h1];exact h.dead b (by omega)
 ·rcases wE (m:=m) (bS:=bS) (b:=b) with h1|⟨h1,_,J⟩
  ·rw[h1];trivial
  ·rw[h1];exact Gn (arE _) (h.low b)
theorem Post.base {P:aqV} {j:bq} {m:Mem} {w:World} (bp:Rel P j m w) (bS:Nat) (o:Obj):Post P (n3 j m w) (lW m bS) w (n3 j m w) (lW m bS) (w.alloc o):=by
 have h:=at7 w o;have bC:=Wh w o;refine ⟨⟨fun b e aa=> ?_,fun b e aa=> ?_,fun b b2 e bw aa ct ah ai he=> ?_⟩,⟨rfl,rfl,rfl,by omega,fun c ab _=>h.2 c ab⟩,aq3 _,fun _ _=>rfl,fun b e aa e4=> ?_,fun _ _ h=>h,fun _ _ h=>h⟩
 ·show b<m.next+1/\_;rcases Ow aa with ⟨h1,rfl⟩|⟨h1,J⟩
  ·exact ⟨by omega,by show w.heap.size<_;omega⟩
  ·have:=bp.lt b e J;exact ⟨by omega,by omega⟩
 ·rcases wE (m:=m) (bS:=bS) (b:=b) with h1|⟨h1,J,aj⟩
  ·rw[h1];trivial
  ·rw[zm aj] at aa;rw[h1,h.2 _ (bp.lt b e aa).2];exact (bp.obj b e aa).mono (bq.xq bp.Ca)
 ·rcases wE (m:=m) (bS:=bS) (b:=b) with h1|⟨h1,J,aj⟩
  ·rw[h1] at ah;cases ah
  rcases wE (m:=m) (bS:=bS) (b:=b2) with iX|⟨iX,gi,rF⟩
  ·rw[iX] at ai;cases ai
  rw[h1] at ah;rw[iX] at ai;rw[zm aj] at aa;rw[zm rF] at ct;exact bp.inj b b2 e bw aa ct ah ai he
 ·have e4:m.next+1<=b:=e4;rcases Ow aa with ⟨h1,_⟩|⟨h1,J⟩
  ·omega
  ·have:=(bp.lt b e J).1;omega
section
variable {P:aqV} {D:Nat->Type} {X:dx P D}
def Lp (e d:Nat) (E:List (Nat×aQ D)) (O:List (aL D)):Option (List (D e)):=
 match eh E d with
 | .c (.own j)=>(match O[j]? with|some (.ay bw xs aqT _)=>if h:bw=e then aqP (h▸xs) else aqS|_=>aqS)
 |_=>aqS
theorem ahq {e d:Nat} {E:List (Nat×aQ D)} {O:List (aL D)} {bk:List (D e)} (h:Lp e d E O=aqP bk):∃j wf,eh E d= .c (.own j)/\O[j]? =aqP (.ay e bk aqT wf):=by
 unfold Lp at h;split at h
 ·rename_i j ar;split at h
  ·rename_i bw xs wf ah;split at h
   ·rename_i he;subst he;cases h;exact ⟨j,wf,ar,ah⟩
   ·cases h
  ·cases h
 ·cases h
def MK:aQ D->Bool
 | .c (.int .i64 n)=>decide (n=0)
 |_=>aqT
theorem aiu {s:aQ D} (h:MK s=aqQ):s= .c (.int .i64 0):=by
 unfold MK at h;split at h
 ·rw[of_decide_eq_true h]
 ·cases h
def getD (e:Nat) (ex:dX) (E:List (Nat×aQ D)) (O:List (aL D)):Option (List (D e)):=
 if ex= .ret then if (MK (eh E 5)&&[42,43,44].all fun t=>yR O (eh E t))=aqQ then Lp e 4 E O else aqS else aqS
theorem aho {e:Nat} {ex:dX} {E:List (Nat×aQ D)} {O:List (aL D)} {bk:List (D e)} (h:getD e ex E O=aqP bk):ex= .ret/\(∀t,42<=t->t<=44->yR O (eh E t)=aqQ)/\eh E 5= .c (.int .i64 0)/\∃j wf,eh E 4= .c (.own j)/\O[j]? =aqP (.ay e bk aqT wf):=by
 unfold getD at h;obtain ⟨aI,h⟩:=eV h;obtain ⟨h1,h⟩:=eV h;rw[aq5] at h1;refine ⟨aI,fun t au aa=> ?_,aiu h1.1,ahq h⟩;refine aq8.1 h1.2 t ?_;simp only[aq6,asB,or_false];omega
def vg (fr:Nat->aqR) (b n:Nat):Nat->aqR:=fun t=>if t=4 then .slice (aqP ⟨b,0,aqS⟩) n dr else if t=5 then .int .i64 0 else if t=32 then .bool aqT else if iT t=aqQ\/(42<=t/\t<=44) then any else fr t
def oL (fr:Nat->aqR) (v6:aqR):Nat->aqR:=fun t=>if t=6 then v6 else if t=32 then .bool aqT else if iT t=aqQ then any else fr t
theorem aeJ {l k:List MapEntry} (ai:(l.map (·.born)).Nodup) (hk:(k.map (·.born)).Nodup) (h1:∀x∈l,x∈k) (J:∀x∈k,x∈l):l.Perm k:=by
 have fC:∀{l:List MapEntry},(l.map (·.born)).Nodup->l.Nodup:=fun h=>List.Pairwise.of_map _ (fun a b eH he=>eH (by rw[he])) h;exact (List.perm_ext_iff_of_nodup (fC ai) (fC hk)).2 fun x=>⟨h1 x,J x⟩
theorem ba.perm {ap bx:Type} {R:ap->bx->Prop} {bk dT:List bx} (an:bk.Perm dT):∀{xs:List ap},ba R xs bk->∃uS,xs.Perm uS/\ba R uS dT:=by
 induction an with
 |nil=>intro xs h;exact ⟨xs, .refl _,h⟩
 |cons b _ a8=>
  intro xs h;cases xs with
  |nil=>exact h.elim
  |cons a xs=>obtain ⟨uS,h1,J⟩:=a8 h.2;exact ⟨a::uS,h1.cons a,h.1,J⟩
 |swap b b2 _=>
  intro xs h;cases xs with
  |nil=>exact h.elim
  |cons a xs=>cases xs with
   |nil=>exact h.2.elim
   |cons a' xs=>exact ⟨a'::a::xs, .swap _ _ _,h.2.1,h.1,h.2.2⟩
 |trans _ _ adI adJ=>intro xs h;obtain ⟨aD,h1,J⟩:=adI h;obtain ⟨b7,aj,aM⟩:=adJ J;exact ⟨b7,h1.trans aj,aM⟩
theorem ba.left {ap bx:Type} {R:ap->bx->Prop} (hu:∀a a' b,R a b->R a' b->a=a'):∀{xs uS:List ap} {bk:List bx},ba R xs bk->ba R uS bk->xs=uS
 |[],[],_,_,_=>rfl
 |[],_::_,[],_,h=>h.elim
 |[],_::_,_::_,h,_=>h.elim
 |_::_,[],[],h,_=>h.elim
 |_::_,[],_::_,_,h=>h.elim
 |_::_,_::_,[],h,_=>h.elim
 |_::_,_::_,_::_,h,cp=>by rw[hu _ _ _ h.1 cp.1,ba.left hu h.2 cp.2]
end
end
end Go.aS
end
section
namespace Go.aS
noncomputable section
section
variable {P:aqV} {D:Nat->Type} {X:dx P D}
structure AK (X:dx P D) (e kt vt t i7 iM i8 kI i9 i10:Nat) (jg iV iW hp:Array Oper) (fT:Code) (V:u6 P X e kt vt) (iv:List (D e)->Option (List (D e))) (dq:D e->List aqR):Prop where
 qH:SA t jg iV iW
 pL:P.underlying t=aqP (.map kt vt)
 fy:jX P kt (X.G.bQ kt)
 Bi:lH P vt (X.G.bQ vt)
 yu:∀a,cZ (cT P kt) (X.G.bQ kt a)=V.oZ a
 FD:∀a,cZ (cT P vt) (X.G.bQ vt a)=V.nD a
 j5:∀a,ir (V.nD a)=aqQ
 U0:∀a b,V.nD a=V.nD b->a=b
 vL:∀t,iT t=aqT\/t=29\/t=30\/t=31\/t=32\/t=33\/t=34\/t=35\/t=9\/t=10->(tp hp).contains t=aqT
 aa:∀a b bk wf,bk.length<ma->pk X hp.toList hp.toList [(6, .c (.own 0)),(9,V.DC a),(10,V.cY b)] [.ay e bk aqT wf] (Bb e)=aqP (bk++[V.app a b])
 MD:∀t,(jv fT).contains t=aqQ->t=4\/t=5\/42<=t/\t<=44
 BZ:∀t,t=4\/t=5\/t=32\/iT t=aqQ\/42<=t/\t<=44->(jv (sW i7 jg iM i8 iV 32 kI i9 iW i10 hp fT)).contains t=aqQ
 dK:∀bk wf,hT X [] calm aqQ [] fT [(6, .c (.own 0))] [.ay e bk aqT wf] (getD e)=iv bk
 j6:∀z x ds,(X.G.T e).rd z x ds->ds=dq x
 dE:∀z x,(X.G.T e).rd z x (dq x)
 hc:∀x,(dq x).all cv=aqQ
 dS:0<(X.G.T e).a1
 mY:P.cellsOf (X.G.T e).tid=(X.G.T e).a1
theorem W6 {e kt vt t i7 iM i8 kI i9 i10:Nat} {jg iV iW hp:Array Oper} {fT:Code} {V:u6 P X e kt vt} {iv:List (D e)->Option (List (D e))} {dq:D e->List aqR} (K:AK X e kt vt t i7 iM i8 kI i9 i10 jg iV iW hp fT V iv dq) {j:bq}:
  ∀{es:List (D kt×D vt)} {l:List MapEntry},ba (rf P j kt vt) ((X.G.M t kt vt).mV es) l->ba (fun (p:D kt×D vt) (x:MapEntry)=>x.key=V.oZ p.1/\x.val=V.nD p.2) es l
 |[],[],_=>trivial
 |[],_::_,h=>h.elim
 |_::_,[],h=>h.elim
 |p::es,x::l,h=>by
  refine ⟨⟨?_, ?_⟩,W6 K h.2⟩
  ·rw[<-K.yu];exact h.1.1
  ·have aj:=h.1.2.2;have aM:cZ (cT P vt) (X.G.bQ vt p.2)=V.nD p.2:=K.FD p.2;have aj:eA j (cZ (cT P vt) (X.G.bQ vt p.2)) x.val:=aj;rw[aM] at aj;exact Oo (K.j5 p.2) aj
theorem ba.mem {ap bx:Type} {R:ap->bx->Prop}:∀{xs:List ap} {bk:List bx},ba R xs bk->∀y∈bk,∃x,R x y
 |[],[],_,y,ag=>by cases ag
 |_::_,[],h,_,_=>h.elim
 |[],_::_,h,_,_=>h.elim
 |a::xs,b::bk,h,y,ag=>by
  rcases aq6.1 ag with rfl|ag
  ·exact ⟨a,h.1⟩
  ·exact ba.mem h.2 y ag
theorem amG {z:Nat->a6} {em m:Mem} {k:Option Nat} (h:cK z em m k) {bS:Nat} (Fv:bS<m.next):cK (mK z bS) (em.put bS .dead) (lW m bS) k:=by
 have aq:m.next<(lW m bS).next:=arP _;refine ⟨fun b aa=> ?_,fun b aa=> ?_,fun b aa=> ?_,arj h.next (arE _),fun b aa hk=> ?_⟩
 ·have aw:b≠bS:=fun ax=>aa (by rw[ax];simp[mK]);have aE:mK z bS b=z b:=by simp[mK,aw]
  rw[aE] at aa⊢;have:=h.bg b aa;exact ⟨by rw[Hh aw (by omega)];exact this.1,by omega⟩
 ·rcases wE (m:=m) (bS:=bS) (b:=b) with h1|⟨h1,_,J⟩
  ·exact h1
  ·have aa:m.next+1<=b:=aa;rw[h1];exact h.dead b (by omega)
 ·show (if b=bS then a6.dead else em.aH b)= .dead;split
  ·rfl
  ·exact h.lI b aa
 ·have aa:b<em.next:=aa;have:=h.next;show _=(if b=bS then a6.dead else em.aH b);split
  ·rename_i ax;rw[ax];exact YI
  ·rename_i ax;rw[Hh ax (by omega)];exact h.kept b aa hk
theorem ahC {e kt vt t i7 iM i8 kI i9 i10:Nat} {jg iV iW hp:Array Oper} {fT:Code} {V:u6 P X e kt vt} {iv:List (D e)->Option (List (D e))} {dq:D e->List aqR} (K:AK X e kt vt t i7 iM i8 kI i9 i10 jg iV iW hp fT V iv dq)
  (bO:fQ X) (jN:P.follows .mixedOrders=aqQ) {xs:List (D e)} {es:List (D kt×D vt)} {dT:List (D e)} (hlen:xs.length+es.length<=ma) (aE:∀bK:List (D kt×D vt),bK.Perm es->iv (xs++bK.map fun p=>V.app p.1 p.2)=aqP dT) (ca:es≠[]) (MI:0<dT.length)
  {em m:Mem} {z:Nat->a6} {k:Option Nat} {v6:aqR} {z7:Bool} {fr:Nat->aqR} (av:bo X.G [.ay e xs aqT z7] z em m k [v6]) (dt:fr 6=v6) {bS:Nat} (hz:fr 8= .map (aqP bS)) (FG:z bS= .map ((X.G.M t kt vt).cells es) t):
  Ja P (sW i7 jg iM i8 iV 32 kI i9 iW i10 hp fT) fr m .ret (vg fr m.next dT.length) (tm m em z k (dT.flatMap dq) (X.G.T e).tid):=by
 have dF:=av.aO;have cg:(z bS).fF:=by rw[FG];trivial
 obtain ⟨BH,Fv⟩:=dF.bg.fF cg;rw[FG] at BH;have qG:c3 (X.G.T e) z em m k xs v6:=av.obj 0 _ v6 rfl rfl;have apW:∀b,v6= .bool b->False:=by obtain ⟨a,c,ad⟩:=qG.bd.len;intro b aa;rw[ad] at aa;cases aa
 refine ⟨arE _,fun i ae=> ?_,fun cr ai=>⟨⟨fun b aa=>OK aa,fun b=> ?_⟩,fun i=> ?_⟩, ?_⟩
 ·have h1:¬(i=4\/i=5\/i=32\/iT i=aqQ\/42<=i/\i<=44):=fun h=>by rw[K.BZ i h] at ae;cases ae
  simp only[not_or] at h1;show vg fr m.next dT.length i=fr i;unfold vg;rw[if_neg h1.1,if_neg h1.2.1,if_neg h1.2.2.1,if_neg (fun h=>by rcases h with h|h;exact h1.2.2.2.1 h;exact h1.2.2.2.2 h)]
 ·rcases arK b m.next with aa|aa
  ·rcases wc (m:=m) (em:=em) (z:=z) (k:=k) (cells:=dT.flatMap dq) (t:=(X.G.T e).tid) aa with ⟨h1,_⟩|h1
   ·rw[h1];exact Gn (arE _) (cr.low b)
   ·rw[h1];trivial
  ·by_cases eL:b=m.next
   ·rw[eL,NZ];intro v ad;obtain ⟨x,_,U⟩:=asz.1 ad;exact Cs (aq8.1 (K.hc x) v U)
   ·rw[OK (by omega)];trivial
 ·show low (m.next+1) (vg fr m.next dT.length i);unfold vg;split
  ·exact arP _
  ·split
   ·trivial
   ·split
    ·trivial
    ·split
     ·trivial
     ·exact GA (arE _) (ai i)
 ·intro N j a w Q du bp cr cG e9;have Mo:gn N fT=aqQ:=by
   simp only[sW,gn,aq5] at du;exact du.2
  have acI:gn N (.region i10 hp aqT)=aqQ:=by have h1:(gn N (.seq (.region i7 jg aqT) (.block iM (.loop (.seq (.region i8 iV aqT) (.seq (.cond (.tmp 32) .skip (.exit iM)) (.block kI (.seq (.region i9 iW aqT) (.region i10 hp aqT))))))))&&gn N fT)=aqQ:=du;rw[aq5] at h1;have J:(gn N (.region i7 jg aqT)&&(gn N (.region i8 iV aqT)&&(gn N (.cond (.tmp 32) .skip (.exit iM))&&(gn N (.region i9 iW aqT)&&gn N (.region i10 hp aqT)))))=aqQ:=h1.1;simp only[aq5] at J;exact J.2.2.2.2
  have bi:44<N:=VH du 44 (K.BZ 44 (.inr (.inr (.inr (.inr ⟨by omega,by omega⟩)))));have abo:a.tmps.size=N:=cG.size;obtain ⟨kv,yt,Fc⟩:∃q,j bS=aqP q/\dZ a 8= .map (aqP q.aH):=by have:=cG.val 8;rw[hz] at this;exact this
  obtain ⟨ih,iw,cs,gG,E,g1,g2,g3,g4,g5⟩:nM P j kv w.heap[kv.aH]? (.map ((X.G.M t kt vt).cells es) t):=by have:=bp.obj bS kv yt;rw[BH] at this;exact this
  rw[K.pL] at g2;cases g2;have aT:=nJ.xo K.fy.pos g3 (G2 K.fy K.Bi es);subst aT;have nY:=W6 K g4;have hC:cs.toList.length=es.length:=nY.length.symm;obtain ⟨B,oO⟩:∃B:u4 P D X e kt vt,B=⟨V,N,n3 j m w,lW m bS,w,fr,mK z bS,em.put bS .dead,k,xs,cs,gG,kv.aH,w.heap.size,m.next⟩:=⟨_,rfl⟩
  have fG:Jh B:=by
   subst oO;refine ⟨arP _,X7,X6,aq3 _,g1,(bp.lt bS kv yt).2,fun b q (aa:n3 j m w b=aqP q) (ah:((lW m bS).aH b).hK=aqQ)=> ?_,g5,fun x U=> ?_, ?_⟩
   ·rcases wE (m:=m) (bS:=bS) (b:=b) with h1|⟨h1,J,aj⟩
    ·rw[h1] at ah;cases ah
    ·rw[zm aj] at aa;rw[h1] at ah;exact fun ax=>J (bp.inj b bS q kv aa yt ah (by rw[BH];rfl) ax)
   ·exact ba.mem nY x U
   ·show xs.length+cs.size<=ma;rw[<-Array.length_toList,hC];exact hlen
  have acJ:=(GH acI).1;obtain ⟨gm,pU,aX,d1,dm,Lr,t1⟩:=K.qH.hb.cons;obtain ⟨gV,B6,e2,d2,ei,Ls,t2⟩:=t1.cons;have hR:=t2.nil;subst hR e2;dsimp only at d1 dm d2 ei;unfold sW;refine wp_seq (wp_seq (wp_region_list ?_));rw[aX];refine mN Lr (w':=w) (v:=dZ a 8) (Xf dm) ?_;rw[d1];obtain ⟨c4,nR⟩:∃c4,c4=a.put (aqP 29) (dZ a 8):=⟨_,rfl⟩
  have cq:c4.tmps.size=N/\c4.defers=[]:=by rw[nR,fS.1,fS.2];exact ⟨cG.size,cG.defers⟩
  have a7:∀t,dZ c4 t=if t=29 then dZ a 8 else dZ a t:=fun t=>by rw[nR];exact mG (by omega)
  rw[<-nR];obtain ⟨cN,iF⟩:∃cN,cN=w.alloc (.mapIter (aqP kv.aH) gG #[] gG):=⟨_,rfl⟩
  refine mN Ls (w':=cN) (v:= .pointer (aqP ⟨w.heap.size,0,aqS⟩)) (by rw[iF];simp[execOp,ei,oh,a7,Fc,run_range_map w t kt vt kv.aH cs gG K.pL g1]) ?_;rw[d2];obtain ⟨a2,kg⟩:∃a2,a2=c4.put (aqP 30) (.pointer (aqP ⟨w.heap.size,0,aqS⟩)):=⟨_,rfl⟩
  have z2:a2.tmps.size=N/\a2.defers=[]:=by rw[kg,fS.1,fS.2];exact cq
  have bj:∀t,dZ a2 t=if t=30 then .pointer (aqP ⟨w.heap.size,0,aqS⟩) else dZ c4 t:=fun t=>by rw[kg];exact mG (by rw[cq.1];omega)
  rw[<-kg];refine wpList_nil ?_;have MC:∀b q,j b=aqP q->n3 j m w b=aqP q:=bq.xq bp.Ca;have abj:u5 B a2 cN [] [] v6 (lW m bS) (n3 j m w) (mK z bS) z7:=by
   subst oO;refine ⟨by rw[iF];exact Post.base bp bS _,aiv cr, ?_,cR.refl _,trivial,fun b q aa eL=> ?_,fun x U=>(by cases U),List.nodup_nil,z2.2,z2.1, ?_, ?_, ?_,fun t ao=> ?_,fun t ao=>⟨fun _=> ?_,fun ax=>absurd rfl ax⟩⟩
   ·refine ⟨amG dF Fv,rfl,fun i o u ae hu=> ?_,fun i fH o p u l4 ca ae dY _ _ _ _=> ?_⟩
    ·cases i with
     |zero=>
      cases ae;cases hu;show c3 (X.G.T e) (mK z bS) (em.put bS .dead) (lW m bS) k (xs++[]) v6;rw[List.append_nil];refine ⟨?_,qG.fresh⟩;rcases qG.bd with h1|⟨b,o,L,c,b5,cd,dN,fD,lY,lo,Ng⟩
      ·exact .inl h1
      ·have ki:b≠bS:=fun ax=>by rw[ax,BH] at cd;cases cd
       refine .inr ⟨b,o,L,c,b5,by rw[Hh ki (by omega)];exact cd,by show b<m.next+1;omega,by simp[mK,fD],lY,lo,fun i x U=> ?_⟩;obtain ⟨ds,ej,ee⟩:=Ng i x U;exact ⟨ds,by rw[K.j6 _ _ _ ej];exact K.dE _ _,ee⟩
     |succ i=>cases ae
    ·cases i with
     |zero=>cases fH with
      |zero=>exact absurd rfl ca
      |succ fH=>cases dY
     |succ i=>cases ae
   ·show q.aH≠w.heap.size;rcases Ow (show n3 j m w b=aqP q from aa) with ⟨h1,_⟩|⟨_,h1⟩
    ·exact absurd h1 eL
    ·have:=(bp.lt b q h1).2;omega
   ·rw[bj,if_neg (by omega),a7,if_neg (by omega),<-dt];exact (cG.val 6).mono MC
   ·rw[bj,if_neg (by omega),a7,if_pos rfl,Fc];intro b aa;cases aa
   ·rw[bj,if_pos rfl]
   ·have ca:t≠29/\t≠30:=by refine ⟨?_, ?_⟩<;>(rintro rfl;exact absurd ao (by decide))
    rw[bj,if_neg ca.2,a7,if_neg ca.1];exact (cG.val t).mono MC
   ·have ca:t≠29/\t≠30:=by refine ⟨?_, ?_⟩<;>(rintro rfl;exact absurd ao (by decide))
    rw[bj,if_neg ca.2,a7,if_neg ca.1];exact (cG.val t).mono MC
  have abg:G7 B cN []:=by subst oO;refine ⟨gG, ?_,aq3 _⟩;rw[iF];exact (at7 w _).1
  have Lw:B.N=N:=by rw[oO]
  have Lx:B.V=V:=by rw[oO]
  show (Code.block iM _).wp P _ a2 cN;refine wp_block (wp_loop (fun a' w'=>∃fL bK DF mk iZ l8 wf,u5 B a' w' fL bK DF mk iZ l8 wf/\G7 B w' fL) (fun _ w'=>FN B.jm B.r w') ⟨[],[],v6,lW m bS,n3 j m w,mK z bS,z7,abj,abg⟩ fun a3 qf ⟨fL,bK,l5,mk,iZ,l8,anX,h,ae⟩=> ?_);refine amD fG bO jN K.qH (by rw[Lw];exact bi) (by rw[Lw];exact acJ) K.vL (by rw[Lx];exact K.aa) h ae (fun a' w' Du Nd DF mk' MM QX z6 h1 J aj aM=>⟨⟨Du,Nd,DF,mk',MM,QX,z6,h1,J⟩,aM⟩) fun a' bz v31 v32 k5 j3 jJ=> ?_;show fT.wp P Q a' qf;have TW:B.cs=cs:=by rw[oO]
  rw[TW] at jJ;have hJ:∀x∈fL,x∈cs.toList:=by rw[<-TW];exact h.mem
  have BP:=aeJ h.fC g5.1 hJ jJ;obtain ⟨tu,BO,oT⟩:=ba.perm BP.symm nY;have acf:∀a b,V.oZ a=V.oZ b->a=b:=fun a b eH=>K.fy.inj a b (by rw[K.yu,K.yu,eH]);have ac3:ba (fun (p:D kt×D vt) (x:MapEntry)=>x.key=V.oZ p.1/\x.val=V.nD p.2) bK fL:=by have:=h.rel;rw[Lx] at this;exact this
  have acP:=ba.left (fun p pZ x h1 J=>atb (acf _ _ (h1.1.symm.trans J.1)) (K.U0 _ _ (h1.2.symm.trans J.2))) ac3 oT;subst acP;have dp:=aE bK BO.symm;have Mr:fL≠[]:=fun ax=>by rw[ax] at BP;have:=BP.length_eq;rw[hC] at this;exact ca (List.length_eq_zero_iff.1 (by simpa using this.symm))
  have LB:jB iZ N (oL fr l5) a':=by
   refine ⟨fun t=> ?_,k5,by rw[j3,Lw]⟩;show b9 iZ (oL fr l5 t) (dZ a' t);unfold oL;by_cases dt:t=6
   ·subst dt;rw[if_pos rfl,bz 6 (by omega) (by omega)];exact h.v6
   rw[if_neg dt];by_cases lJ:t=32
   ·subst lJ;rw[if_pos rfl,v32];rfl
   rw[if_neg lJ];by_cases hw:iT t=aqQ
   ·rw[if_pos hw];refine pb ?_;by_cases pG:t=31
    ·rw[pG];exact v31
    rw[bz t pG lJ];by_cases pF:t=29
    ·rw[pF];exact h.ZN
    by_cases oN:t=30
    ·rw[oN,h.v30];intro b aa;cases aa
    refine (h.on t ?_).2 Mr;simp only[iT,B7,ar1,aq5,asW,as6] at hw⊢;omega
   ·rw[if_neg hw];have gQ:iT t=aqT:=by simpa using hw
    have ca:t≠31:=by rintro rfl;exact absurd gQ (by decide)
    rw[bz t ca lJ];have:=h.off t gQ;rw[oO] at this;exact this
  have fB:bo X.G [.ay e (xs++bK.map fun p=>V.app p.1 p.2) aqT anX] l8 B.em mk B.k [l5]:=by have:=h.yQ;rw[Lx,show B.xs=xs by rw[oO]] at this;exact this
  obtain ⟨aaF,cl,lb⟩:=(show c3 (X.G.T e) l8 B.em mk B.k _ l5 from fB.obj 0 _ l5 rfl rfl).bd.len;have LF:eC X l8 [l5] [(6, .c (.own 0))] (oL fr l5):=by
   intro d;simp only[eh];split
   ·rename_i aB;have:=aru aB;subst this;exact ⟨rfl,by rw[show oL fr l5 6=l5 from rfl,lb];exact ⟨rfl,rfl⟩⟩
   ·trivial
  obtain ⟨n,ex,fu,m2,vr,z',vs',E',bB,fz,pS,lT,yg,yh,abh⟩:=zv bO (B:=fT) (us:=[]) (L:=0) (by simp) fT aqQ [] _ _ (getD e) dT (o9 fT) (ar7 _) (by simp) fB LF ((K.dK _ _).trans dp);obtain ⟨rfl,BI,aa7,et,z6,aa6,abp⟩:=aho abh;obtain ⟨vj,Bh⟩:=F1 jN n;refine Nw jN vj Bh n fT (oL fr l5) fu mk m2 .ret iZ a' qf Q Mo vr h.post.rel h.QC LB fun a4 IA ML acN E1=> ?_;have bu:Post P (n3 j m w) (lW m bS) w ML m2 IA:=by have:=h.post.trans acN;rw[oO] at this;exact this
  have TT:=yh 4;rw[aa6] at TT;have adl:c3 (X.G.T e) z' (em.put bS .dead) m2 k dT (fu 4):=by have:c3 (X.G.T e) z' B.em m2 B.k dT (fu 4):=yg.obj et _ _ abp TT.1;rw[oO] at this;exact this
  have ac7:cK z' (em.put bS .dead) m2 k:=by have:=yg.aO;rw[oO] at this;exact this
  have adG:cR em.next (mK z bS) z':=by have:=h.aaf.trans pS;rw[oO] at this;exact this
  obtain ⟨pT,abt,abw,acd⟩:=alu K.j6 K.hc K.dS K.mY bp cr dF Fv BH cg bu ac7 adG adl (E1.val 4) MI;refine e9 a4 IA pT abt ⟨fun t=> ?_,E1.defers,E1.size⟩;have adS:∀t,¬(t=4\/t=5\/42<=t/\t<=44)->fu t=oL fr l5 t:=fun t ao=>Nv n fT _ _ _ _ _ (Bool.eq_false_iff.2 fun U=>ao (K.MD t U)) vr;have jq:∀u,vs'[0]? =aqP u->hE u:=fun u hu=>by have:=lT 0 l5 rfl;rw[this] at hu;cases hu;rw[lb];exact N7
  show b9 pT (vg fr m.next dT.length t) (dZ a4 t);have pJ:b9 ML (fu t) (dZ a4 t):=E1.val t;unfold vg;by_cases qq:t=4
  ·subst qq;rw[if_pos rfl];exact abw
  rw[if_neg qq];by_cases JK:t=5
  ·subst JK;have TU:=yh 5;rw[aa7] at TU;rw[show fu 5= .int .i64 0 from TU] at pJ;rw[if_pos rfl];exact pJ
  rw[if_neg JK];by_cases A3:42<=t/\t<=44
  ·have ni:¬t=32:=by omega
   rw[if_neg ni,if_pos (.inr A3)];exact pb (C8 pJ (Ys yg jq (BI t A3.1 A3.2) (yh t)))
  have aci:=adS t (fun ax=>by rcases ax with ax|ax|ax;exact qq ax;exact JK ax;exact A3 ax);rw[aci] at pJ;by_cases EA:t=32
  ·subst EA;rw[if_pos rfl];exact pJ
  rw[if_neg EA];by_cases hw:iT t=aqQ
  ·rw[if_pos (.inl hw)];refine pb ?_;by_cases dt:t=6
   ·subst dt;rw[show oL fr l5 6=l5 from rfl] at pJ;exact C8 pJ (by rw[lb];exact N7)
   ·rw[show oL fr l5 t=any by unfold oL;rw[if_neg dt,if_neg EA,if_pos hw]] at pJ;exact pJ
  ·rw[if_neg (fun ax=>by rcases ax with ax|ax;exact hw ax;exact A3 ax)];have dt:t≠6:=by rintro rfl;exact hw (by decide)
   rw[show oL fr l5 t=fr t by unfold oL;rw[if_neg dt,if_neg EA,if_neg hw]] at pJ;refine ((wj (n:=m.next)).2.2 pJ (cG.low bp t)).mono fun b q aa=> ?_;obtain ⟨oP,nS⟩:=o5 aa;have h1:ML b=n3 j m w b:=bu.ext b (atf oP);rw[zm (by omega)] at h1;rw[acd b oP,<-h1];exact nS
end
end
end Go.aS
end
