import Derived.MapKept
import Derived.Laws.StructEq
import Derived.Below
import Derived.Deep.Slices
import Derived.Test.YthaemjpmljdlgaaGreatDoorMa
set_option linter.unusedSimpArgs false
set_option linter.unusedVariables false
open Array renaming getElem?_eq_none->aus,getElem?_eq_some_iff->ar6,getElem?_toList->atx
open Bool renaming and_eq_true->arq,eq_iff_iff->asw,false_eq_true->asf,false_or->asH,not_true->atc,false->arj,true->arf
open Classical renaming propDecidable->atj
open Go renaming IntKind->aro,Operand->arm,Program->arl,TypeId->arn,Value->arh
open Go.DataW renaming trod->auq
open Go.Instr renaming checkKey->atm,findAsking->au6,findNow->aup,sameBits->atX,sliceBound->asu,sliceBounds->ar1
open Go.MapKept renaming IsKey->atW
open Go.Op renaming operands->arv,stringOp->atF
open Go.Program renaming cellsOf->asm
open Go.Region renaming before->asa
open Go.Result renaming andThen_ok->arN
open Go.Sem renaming run_bind->arV,run_pure->ar0
open Go.Value renaming cells->atU,int->asM,okWide->aur,slice->ast
open Go.World renaming block_lt_of_cell?->aui
open Int renaming eq_ofNat_of_zero_le->ar8,toNat_natCast->asv
open List renaming all_cons->asb,all_eq_true->arz,append_assoc->as7,eq_nil_of_length_eq_zero->asJ,ext_getElem?->as8,flatten_cons->atL,getElem?_append->at5,getElem?_append_left->arQ,getElem?_append_right->arP,getElem?_drop->asE,getElem?_eq_getElem->arX,getElem?_eq_none->atG,getElem?_eq_some_iff->arp,getElem?_map->ar4,getElem?_range->atD,getElem?_set->arY,getElem?_set_ne->atg,getElem?_take->asg,length_append->arJ,length_cons->arU,length_drop->asD,length_nil->ath,length_replicate->atb,length_set->asK,length_take->asq,map_cons->asc,mem_cons->arA,mem_cons_of_mem->arK,mem_cons_self->arS,mem_map->arC,mem_range->asF,mem_singleton->ase,mem_toArray->atw,nil_append->atd,not_mem_nil->asU,range->ar2,replicate->arL,replicate_succ->au5
open Nat renaming add_assoc->arZ,add_mul->arW,add_zero->ar3,beq->aru,ble->arF,blt->ar5,eq_zero_or_pos->auc,le_of_ble_eq_true->arG,le_refl->ars,le_succ->ar7,le_trans->arR,lt_of_lt_of_le->arT,lt_succ_self->ash,mul_le_mul->aun,mul_le_mul_right->asC,mul_one->atP,one_mul->asS,succ_mul->auN,zero_add->arE,zero_mul->asz
open Option renaming bind->ark,getD_some->asN,isSome->auo,some->arw,none->ari,some->are
open True renaming intro->arH
open UInt8 renaming ofNat->asR
section
namespace Go.aQ
def aV.fw:aV->Prop
 | .dead| .lock _ _ _ _=>False
 |_=>True
def aV.mem:aV->aV
 | .lock _ _ L t=> .own L t
 |b=>b
theorem aV.fw.ne {x:aV} (h:x.fw):x≠ .dead:=fun e=>by rw[e] at h;exact h
theorem aV.fw.mem {x:aV} (h:x.fw):x.mem=x:=by cases x<;>first|rfl|exact h.elim
def je (z:Nat->aV) (m:Mem):Prop:=∀b,z b≠ .dead->m.ay b=(z b).mem/\b<m.next
theorem je.fw {z:Nat->aV} {m:Mem} (h:je z m) {b:Nat} (ab:(z b).fw):m.ay b=z b/\b<m.next:=by
 have:=h b ab.ne;rw[ab.mem] at this;exact this
def eb (z z':Nat->aV):Prop:=∀b,(z b).fw->z' b=z b
theorem eb.refl (z:Nat->aV):eb z z:=fun _ _=>rfl
theorem eb.trans {a b c:Nat->aV} (h:eb a b) (k:eb b c):eb a c:=fun x U=>by
 have h1:=h x U;rw[k x (by rw[h1];exact U),h1]
def k1 (z:Nat->aV) (b o:Nat):Option arh:=
 match z b with
 | .ro rd=>rd o
 | .own L _=>L[o]?
 | .map _ _=>ari
 | .lock _ _ _ _=>ari
 | .dead=>ari
theorem CH {z:Nat->aV} {b o:Nat} {v:arh} (h:k1 z b o=are v):(z b).fw:=by
 unfold k1 at h;cases aD:z b with
 |dead=>rw[aD] at h;cases h
 |lock _ _ _ _=>rw[aD] at h;cases h
 |_=>exact arH
theorem ahZ {z z':Nat->aV} (h:eb z z') {b o:Nat} {v:arh} (ai:k1 z b o=are v):k1 z' b o=are v:=by
 have:=h b (CH ai);unfold k1 at ai⊢;rw[this];exact ai
theorem Ot {z:Nat->aV} {m:Mem} (h:je z m) {b o:Nat} {v:arh} (ai:k1 z b o=are v):m.load b o=are v:=by
 have:=(h b (CH ai).ne).1;rw[(CH ai).mem] at this;unfold k1 at ai;unfold Mem.load;rw[this];exact ai
structure cb (al:Type) where
 aW:Nat
 tid:arn
 rd:(Nat->aV)->al->List arh->Prop
 len:∀z x cs,rd z x cs->cs.length=aW
 mono:∀z z',eb z z'->∀x cs,rd z x cs->rd z' x cs
 one:∀z x cs,rd z x cs->∀c∈cs,storable c=arf/\c.cells=#[c]
def nE (z:Nat->aV) (b o:Nat) (cs:List arh):Prop:=∀(i:Nat) (u:arh),cs[i]? =are u->k1 z b (o+i)=are u
def om (L:List arh) (o:Nat) (cs:List arh):Prop:=∀(i:Nat) (u:arh),cs[i]? =are u->L[o+i]? =are u
def dW {al:Type} (T:cb al) (z:Nat->aV) (xs:List al) (v:arh):Prop:=
 (v= .slice ari 0 0/\xs=[])\/
 ∃b off c,v= .slice (are ⟨b,off,ari⟩) xs.length c/\(z b).fw/\((c=bT/\∃L,z b= .own L T.tid/\off+xs.length*T.aW<=L.length)\/(c<bT/\xs.length<=c))/\
  ∀(i:Nat) (x:al),xs[i]? =are x->∃cs,T.rd z x cs/\nE z b (off+i*T.aW) cs
theorem Ge {z z':Nat->aV} (h:eb z z') {b o:Nat} {cs:List arh} (ad:nE z b o cs):nE z' b o cs:=fun i u af=>ahZ h (ad i u af)
theorem dW.mono {al:Type} {T:cb al} {z z':Nat->aV} (h:eb z z') {xs:List al} {v:arh} (aq:dW T z xs v):dW T z' xs v:=by
 rcases aq with aq|⟨b,off,c,h1,J,aj,aJ⟩
 ·exact .inl aq
 ·refine .inr ⟨b,off,c,h1,by rw[h b J];exact J, ?_,fun i x af=> ?_⟩
  ·rcases aj with ⟨aj,L,bk,dn⟩|aj
   ·exact .inl ⟨aj,L,by rw[h b J];exact bk,dn⟩
   ·exact .inr aj
  ·obtain ⟨cs,g1,g2⟩:=aJ i x af;exact ⟨cs,T.mono z z' h x cs g1,Ge h g2⟩
theorem dW.nil {al:Type} {T:cb al} {z:Nat->aV}:dW T z [] (.slice ari 0 0):= .inl ⟨rfl,rfl⟩
theorem dW.len {al:Type} {T:cb al} {z:Nat->aV} {xs:List al} {v:arh} (h:dW T z xs v):∃a c,v= .slice a xs.length c:=by
 rcases h with ⟨rfl,rfl⟩|⟨b,off,c,rfl,_⟩
 ·exact ⟨_,_,rfl⟩
 ·exact ⟨_,_,rfl⟩
def ck:arh->Option Nat
 | .slice (are a) _ _=>are a.block
 | .pointer (are a)=>are a.block
 |_=>ari
def er {al:Type} (T:cb al) (z:Nat->aV) (m:Mem) (xs:List al) (v:arh):Prop:=
 (v= .slice ari 0 0/\xs=[])\/
 ∃b o L c,v= .slice (are ⟨b,o,ari⟩) xs.length c/\m.ay b= .own L T.tid/\b<m.next/\z b= .dead/\o+xs.length*T.aW<=L.length/\(c=bT\/(c<bT/\xs.length<=c/\o+c*T.aW<=L.length))/\
  ∀(i:Nat) (x:al),xs[i]? =are x->∃cs,T.rd z x cs/\om L (o+i*T.aW) cs
theorem er.x8 {al:Type} {T:cb al} {z:Nat->aV} {m:Mem} {xs:List al} {v:arh} (h:∃b L c,v= .slice (are ⟨b,0,ari⟩) xs.length c/\m.ay b= .own L T.tid/\b<m.next/\z b= .dead/\xs.length*T.aW<=L.length/\(c=bT\/(c<bT/\xs.length<=c/\c*T.aW<=L.length))/\
  ∀(i:Nat) (x:al),xs[i]? =are x->∃cs,T.rd z x cs/\om L (i*T.aW) cs):er T z m xs v:=by
 obtain ⟨b,L,c,h1,J,aj,aJ,bk,dn,gz⟩:=h;exact .inr ⟨b,0,L,c,h1,J,aj,aJ,by rw[arE];exact bk,by rw[arE];exact dn,fun i x U=>by rw[arE];exact gz i x U⟩
theorem er.nil {al:Type} {T:cb al} {z:Nat->aV} {m:Mem}:er T z m [] (.slice ari 0 0):= .inl ⟨rfl,rfl⟩
theorem er.frame {al:Type} {T:cb al} {z:Nat->aV} {m m':Mem} {xs:List al} {v:arh} (h:er T z m xs v) (ab:∀b,ck v=are b->b<m.next->m'.ay b=m.ay b/\b<m'.next):er T z m' xs v:=by
 rcases h with h|⟨b,o,L,c,rfl,h1,J,aj,aJ,bk,dn⟩
 ·exact .inl h
 ·obtain ⟨g1,g2⟩:=ab b rfl J;exact .inr ⟨b,o,L,c,rfl,by rw[g1];exact h1,g2,aj,aJ,bk,dn⟩
theorem er.lt {al:Type} {T:cb al} {z:Nat->aV} {m:Mem} {xs:List al} {v:arh} (h:er T z m xs v):∀b,ck v=are b->b<m.next/\z b= .dead:=by
 rcases h with ⟨rfl,_⟩|⟨b,o,L,c,rfl,h1,J,aj,_⟩
 ·intro b ab;cases ab
 ·intro bV ab;cases ab;exact ⟨J,aj⟩
theorem er.len {al:Type} {T:cb al} {z:Nat->aV} {m:Mem} {xs:List al} {v:arh} (h:er T z m xs v):∃a c,v= .slice a xs.length c:=by
 rcases h with ⟨rfl,rfl⟩|⟨b,o,L,c,rfl,_⟩
 ·exact ⟨_,_,rfl⟩
 ·exact ⟨_,_,rfl⟩
def ib (z:Nat->aV) (m:Mem) (p:Option Nat):Nat->aV:=fun b=>if p=are b then m.ay b else z b
theorem CX {z:Nat->aV} {m:Mem} {p:Option Nat} (h:∀b,p=are b->z b= .dead):eb z (ib z m p):=by
 intro b ab;unfold ib;split
 ·exact absurd (h b ‹_›) ab.ne
 ·rfl
theorem Hq {z:Nat->aV} {m:Mem} {p:Option Nat} (h:je z m) (an:∀b,p=are b->b<m.next/\(m.ay b).mem=m.ay b):je (ib z m p) m:=by
 intro b ab;unfold ib at ab⊢;split at ab
 ·rw[if_pos ‹_›];exact ⟨(an b ‹_›).2.symm,(an b ‹_›).1⟩
 ·rw[if_neg ‹_›];exact h b ab
theorem er.aoC {al:Type} {T:cb al} {z:Nat->aV} {m:Mem} {xs:List al} {v:arh} (h:er T z m xs v):dW T (ib z m (ck v)) xs v:=by
 rcases h with h|⟨b,o,L,c,rfl,h1,J,aj,aJ,bk,dn⟩
 ·exact .inl h
 ·have aD:ib z m (ck (.slice (are ⟨b,o,ari⟩) xs.length c)) b= .own L T.tid:=by simp[ib,ck,h1]
  have hle:eb z (ib z m (ck (.slice (are ⟨b,o,ari⟩) xs.length c))):=CX fun bV ch=>by cases ch;exact aj
  refine .inr ⟨b,o,c,rfl,by rw[aD];exact arH, ?_,fun i x af=> ?_⟩
  ·rcases bk with rfl|⟨bk,gz,hM⟩
   ·exact .inl ⟨rfl,L,aD,aJ⟩
   ·exact .inr ⟨bk,gz⟩
  ·obtain ⟨cs,g1,g2⟩:=dn i x af;refine ⟨cs,T.mono _ _ hle x cs g1,fun k u hk=> ?_⟩;simp only[k1,aD];exact g2 k u hk
def dV (p q:Option Nat):Prop:=∀b,p=are b->q≠are b
theorem dV.symm {p q:Option Nat} (h:dV p q):dV q p:=fun b aF an=>h b an aF
theorem dV.qX {q:Option Nat}:dV q Option.none:=fun _ _ h=>by cases h
structure cu (z:Nat->aV) (e m:Mem) (k:Option Nat):Prop where
 a6:je z m
 dead:∀b,m.next<=b->m.ay b= .dead
 lX:∀b,e.next<=b->e.ay b= .dead
 next:e.next<=m.next
 kept:∀b,b<e.next->k≠are b->m.ay b=e.ay b
theorem cu.start {z:Nat->aV} {m:Mem} {k:Option Nat} (h:je z m) (aw:∀b,m.next<=b->m.ay b= .dead):cu z m m k:=⟨h,aw,aw,ars _,fun _ _ _=>rfl⟩
theorem cu.push {z:Nat->aV} {e m:Mem} {k:Option Nat} (h:cu z e m k) (x:aV):cu z e (m.push x) k:=by
 refine ⟨fun b ab=> ?_,fun b ab=> ?_,h.lX,Nat.le_succ_of_le h.next,fun b ab hk=> ?_⟩
 ·have:=h.a6 b ab;refine ⟨?_,Nat.lt_succ_of_lt this.2⟩;simp only[Mem.push];rw[if_neg (by omega)];exact this.1
 ·simp only[Mem.push] at ab⊢;rw[if_neg (by omega)];exact h.dead b (by omega)
 ·simp only[Mem.push];have:=h.next;rw[if_neg (by omega)];exact h.kept b ab hk
theorem cu.put {z:Nat->aV} {e m:Mem} {k:Option Nat} (h:cu z e m k) {b:Nat} (x:aV) (aD:z b= .dead) (aO:b<m.next) (ab:e.next<=b\/k=are b):cu z e (m.put b x) k:=by
 refine ⟨fun c ad=> ?_,fun c ad=> ?_,h.lX,h.next,fun c ad hk=> ?_⟩
 ·have:=h.a6 c ad;refine ⟨?_,this.2⟩;simp only[Mem.put];rw[if_neg (fun cJ=>ad (by rw[cJ];exact aD))];exact this.1
 ·have ad:m.next<=c:=ad;simp only[Mem.put];rw[if_neg (by omega)];exact h.dead c ad
 ·simp only[Mem.put];rw[if_neg ?_]
  ·exact h.kept c ad hk
  ·intro cJ;subst cJ;rcases ab with ab|ab
   ·omega
   ·exact hk ab
structure eX (m m':Mem) (k:Option Nat):Prop where
 next:m.next<=m'.next
 dead:∀b,m'.next<=b->m'.ay b= .dead
 ay:∀b,b<m.next->k≠are b->m'.ay b=m.ay b
theorem cu.same {z:Nat->aV} {e m m':Mem} {k q:Option Nat} (h:cu z e m k) (s:eX m m' q) (aF:∀b,q=are b->z b= .dead/\(e.next<=b\/k=are b)):cu z e m' k:=by
 refine ⟨fun b ab=> ?_,s.dead,h.lX,arR h.next s.next,fun b ab hk=> ?_⟩
 ·have:=h.a6 b ab;refine ⟨?_,arT this.2 s.next⟩;rw[s.ay b this.2 (fun o2=>ab (aF b o2).1)];exact this.1
 ·rw[s.ay b (arT ab h.next) (fun o2=> ?_)]
  ·exact h.kept b ab hk
  ·rcases (aF b o2).2 with bq|bq
   ·omega
   ·exact hk bq
theorem cu.aoF {z:Nat->aV} {e m:Mem} (h:cu z e m ari):m.lM e.next=e:=by
 have:(m.lM e.next).ay=e.ay:=by
  funext b;simp only[Mem.lM];split
  ·exact h.kept b ‹_› (by simp)
  ·exact (h.lX b (by omega)).symm
 cases e;simp only[Mem.lM] at this⊢;rw[this]
def cb.flat {al:Type} (t:arn) (f:al->arh) (aK:∀x,b7 (f x)=arf):cb al where
 aW:=1
 tid:=t
 rd:=fun _ x cs=>cs=[f x]
 len:=fun _ _ _ h=>by rw[h];rfl
 mono:=fun _ _ _ _ _ h=>h
 one:=fun _ x cs h c ad=>by rw[h] at ad;simp only[ase] at ad;subst ad;have:=aK x;cases U:f x<;>simp[U,b7] at this<;>first|exact ⟨rfl,rfl⟩|exact ⟨by simp[storable,this],rfl⟩
def str (s:List UInt8):arh:= .string ⟨s.toArray⟩
def El (t:arn) (k:aro):cb Int:=cb.flat t (fun n=> .int k n) fun _=>rfl
def De (t:arn):cb Bool:=cb.flat t (fun n=> .bool n) fun _=>rfl
def Em (t:arn):cb (List UInt8):=cb.flat t str fun _=>rfl
def JO {al:Type} (t:arn) (T:cb al):cb (List al) where
 aW:=1
 tid:=t
 rd:=fun z xs cs=>∃v,cs=[v]/\dW T z xs v
 len:=fun _ _ _ h=>by obtain ⟨v,rfl,_⟩:=h;rfl
 mono:=fun _ _ h _ _ ax=>by obtain ⟨v,h1,J⟩:=ax;exact ⟨v,h1,J.mono h⟩
 one:=fun _ _ cs h c ad=>by obtain ⟨v,rfl,J⟩:=h;simp only[ase] at ad;subst ad;obtain ⟨a,n,rfl⟩:=J.len;exact ⟨rfl,rfl⟩
end Go.aQ
end
section
namespace Go.aQ
section
variable {P:arl} {ae:arm->arh} {o:Oper}
theorem sC {x y:arm} (h:o.op.operands=#[x,y]) {v:arh} (aq:∀cs b,o.op≠ .select cs b) (U:flat (ae x)=arf) (ah:flat (ae y)=arf) (aa:flat v=arf) (ao:∀w,(execOp ae o).run P w= .ok (.value v) w):cm P ae o v:=by
 refine .flat v aq (fun z aD=> ?_) aa ao;rw[h] at aD;simp only[atw,arA,asU,or_false] at aD;rcases aD with rfl|rfl
 ·exact U
 ·exact ah
theorem Hp {x:arm} (h:o.op.operands=#[x]) {v:arh} (aq:∀cs b,o.op≠ .select cs b) (U:flat (ae x)=arf) (aa:flat v=arf) (ao:∀w,(execOp ae o).run P w= .ok (.value v) w):cm P ae o v:=by
 refine .flat v aq (fun z aD=> ?_) aa ao;rw[h] at aD;simp only[atw,arA,asU,or_false] at aD;subst aD;exact U
theorem an6 {x:arm} {v:arh} (h:o.op= .move x) (U:ae x=v):cm P ae o v:=U▸ .move x (.inl h)
theorem akb {x:arm} {v:arh} (h:o.op= .assign x) (U:ae x=v):cm P ae o v:=U▸ .move x (.inr h)
theorem aae {c a b:arm} {t:Bool} {v:arh} (h:o.op= .pick c a b) (ad:ae c= .bool t) (aa:(if t then ae a else ae b)=v):cm P ae o v:=aa▸ .pick c a b t h ad
theorem XD {x:arm} {i:Nat} {vs:List arh} {v:arh} (h:o.op= .extract x i) (U:ae x= .tuple vs.toArray) (aa:vs[i]? =are v):cm P ae o v:= .extract x i _ v h U (by simpa using aa)
section
variable {x y:arm} {t u:arn} {k:aro} {a b:Int}
theorem mM {op:BinOp} (h:o.op= .binOp op t x y u) (U:ae x= .int k a) (ah:ae y= .int k b) {v:arh} (jG:∀w,(binOp op t (.int k a) (.int k b)).run P w= .ok v w) (aa:flat v=arf):cm P ae o v:=by
 refine sC (x:=x) (y:=y) (by rw[h];rfl) (by rw[h];intros;simp) (by rw[U];rfl) (by rw[ah];rfl) aa fun w=> ?_;have aM:(eqGuard op t x y (.int k a) (.int k b)).run P w= .ok () w:=by cases op<;>rfl
 simp only[execOp,h,U,ah,arV,aM,jG,arN,ar0]
theorem mL {op:BinOp} (h1:op≠ .shl) (J:op≠ .shr) (w:World):(binOp op t (.int k a) (.int k b)).run P w=(match op with
   | .add| .sub| .mul=>Op.intArith op k a b
   | .quo| .rem=>Op.intDiv op k a b
   | .and| .or| .xor| .andNot=>Op.intBits op k a b
   |_=>Op.intCmp op a b).run P w:=by
 cases op<;>first|exact absurd rfl h1|exact absurd rfl J|(simp only[binOp,ne_eq,not_true_eq_false,if_false])
theorem VF (h:o.op= .binOp .add t x y u) (U:ae x= .int k a) (ah:ae y= .int k b):cm P ae o (.int k (k.wrap (a+b))):=mM h U ah (fun w=>by rw[mL (by simp) (by simp)];rfl) rfl
theorem VR (h:o.op= .binOp .sub t x y u) (U:ae x= .int k a) (ah:ae y= .int k b):cm P ae o (.int k (k.wrap (a - b))):=mM h U ah (fun w=>by rw[mL (by simp) (by simp)];rfl) rfl
theorem VM (h:o.op= .binOp .mul t x y u) (U:ae x= .int k a) (ah:ae y= .int k b):cm P ae o (.int k (k.wrap (a*b))):=mM h U ah (fun w=>by rw[mL (by simp) (by simp)];rfl) rfl
theorem Nj (h:o.op= .binOp .quo t x y u) (U:ae x= .int k a) (ah:ae y= .int k b) (ab:b≠0):cm P ae o (.int k (k.wrap (a.tdiv b))):=mM h U ah (fun w=>by rw[mL (by simp) (by simp)];simp[Op.intDiv,ab]) rfl
theorem Nk (h:o.op= .binOp .rem t x y u) (U:ae x= .int k a) (ah:ae y= .int k b) (ab:b≠0):cm P ae o (.int k (a.tmod b)):=mM h U ah (fun w=>by rw[mL (by simp) (by simp)];simp[Op.intDiv,ab]) rfl
def p9 (op:BinOp) (k:aro) (x y:Int):Int:=
 let a:=BitVec.ofInt k.bits x
 let b:=BitVec.ofInt k.bits y
 match op with
 | .and=>k.wrap (a&&&b).toNat
 | .or=>k.wrap (a|||b).toNat
 | .xor=>k.wrap (a ^^^ b).toNat
 |_=>k.wrap (a&&&~~~b).toNat
theorem VG (h:o.op= .binOp .and t x y u) (U:ae x= .int k a) (ah:ae y= .int k b):cm P ae o (.int k (p9 .and k a b)):=mM h U ah (fun w=>by rw[mL (by simp) (by simp)];rfl) rfl
theorem VQ (h:o.op= .binOp .or t x y u) (U:ae x= .int k a) (ah:ae y= .int k b):cm P ae o (.int k (p9 .or k a b)):=mM h U ah (fun w=>by rw[mL (by simp) (by simp)];rfl) rfl
theorem VS (h:o.op= .binOp .xor t x y u) (U:ae x= .int k a) (ah:ae y= .int k b):cm P ae o (.int k (p9 .xor k a b)):=mM h U ah (fun w=>by rw[mL (by simp) (by simp)];rfl) rfl
theorem aka (h:o.op= .binOp .andNot t x y u) (U:ae x= .int k a) (ah:ae y= .int k b):cm P ae o (.int k (p9 .andNot k a b)):=mM h U ah (fun w=>by rw[mL (by simp) (by simp)];rfl) rfl
theorem VH (h:o.op= .binOp .eql t x y u) (U:ae x= .int k a) (ah:ae y= .int k b):cm P ae o (.bool (a==b)):=mM h U ah (fun w=>by rw[mL (by simp) (by simp)];rfl) rfl
theorem VO (h:o.op= .binOp .neq t x y u) (U:ae x= .int k a) (ah:ae y= .int k b):cm P ae o (.bool (a !=b)):=mM h U ah (fun w=>by rw[mL (by simp) (by simp)];rfl) rfl
theorem VL (h:o.op= .binOp .lss t x y u) (U:ae x= .int k a) (ah:ae y= .int k b):cm P ae o (.bool (decide (a<b))):=mM h U ah (fun w=>by rw[mL (by simp) (by simp)];rfl) rfl
theorem VK (h:o.op= .binOp .leq t x y u) (U:ae x= .int k a) (ah:ae y= .int k b):cm P ae o (.bool (decide (a<=b))):=mM h U ah (fun w=>by rw[mL (by simp) (by simp)];rfl) rfl
theorem VJ (h:o.op= .binOp .gtr t x y u) (U:ae x= .int k a) (ah:ae y= .int k b):cm P ae o (.bool (decide (b<a))):=mM h U ah (fun w=>by rw[mL (by simp) (by simp)];rfl) rfl
theorem VI (h:o.op= .binOp .geq t x y u) (U:ae x= .int k a) (ah:ae y= .int k b):cm P ae o (.bool (decide (b<=a))):=mM h U ah (fun w=>by rw[mL (by simp) (by simp)];rfl) rfl
theorem PB {op:BinOp} {aa2:aro} (h:o.op= .binOp op t x y u) (U:ae x= .int k a) (ah:ae y= .int aa2 b) (ab:0<=b) (jG:op= .shl\/op= .shr):
  cm P ae o (.int k (if op= .shl then k.wrap (a*2 ^ (min b.toNat k.bits)) else a.fdiv (2 ^ (min b.toNat k.bits)))):=by
 refine sC (x:=x) (y:=y) (by rw[h];rfl) (by rw[h];intros;simp) (by rw[U];rfl) (by rw[ah];rfl) rfl fun w=> ?_;have av:¬b<0:=by omega
 rcases jG with rfl|rfl
 ·simp[execOp,h,U,ah,eqGuard,binOp,Op.shift,av]
 ·simp[execOp,h,U,ah,eqGuard,binOp,Op.shift,av]
theorem VP {b:Bool} (h:o.op= .unOp .not t x) (U:ae x= .bool b):cm P ae o (.bool (!b)):=
 Hp (x:=x) (by rw[h];rfl) (by rw[h];intros;simp) (by rw[U];rfl) rfl fun w=>by simp only[execOp,h,U];rfl
theorem VN (h:o.op= .unOp .neg t x) (U:ae x= .int k a):cm P ae o (.int k (k.wrap (0 - a))):=
 Hp (x:=x) (by rw[h];rfl) (by rw[h];intros;simp) (by rw[U];rfl) rfl fun w=>by simp only[execOp,h,U];rfl
theorem Z1 {d:TypeDesc} {bW:aro} (h:o.op= .convert t u x) (ak:P.underlying t=are d) (hu:P.underlying u=are (.int bW)) (U:ae x= .int k a):cm P ae o (.int bW (bW.wrap a)):=
 Hp (x:=x) (by rw[h];rfl) (by rw[h];intros;simp) (by rw[U];rfl) rfl fun w=>by simp[execOp,h,U,convert,dU ak,dU hu,Conv.intToInt]
theorem aaa {ts:Array arn} (h:o.op= .call {callee:= .builtin .max,args:=#[x,y],argTypes:=ts}) (U:ae x= .int k a) (ah:ae y= .int k b):cm P ae o (.int k (max a b)):=by
 refine sC (x:=x) (y:=y) (by rw[h];rfl) (by rw[h];intros;simp) (by rw[U];rfl) (by rw[ah];rfl) rfl fun w=> ?_;have:(asM k (if b>a then b else a))= .int k (max a b):=by congr 1;split<;>omega
 rw[<-this];simp[execOp,h,U,ah,resolve,invoke,builtin,Builtin.max_,List.foldlM,Builtin.max2]
theorem aab {ts:Array arn} (h:o.op= .call {callee:= .builtin .min,args:=#[x,y],argTypes:=ts}) (U:ae x= .int k a) (ah:ae y= .int k b):cm P ae o (.int k (min a b)):=by
 refine sC (x:=x) (y:=y) (by rw[h];rfl) (by rw[h];intros;simp) (by rw[U];rfl) (by rw[ah];rfl) rfl fun w=> ?_;have:(asM k (if b<a then b else a))= .int k (min a b):=by congr 1;split<;>omega
 rw[<-this];simp[execOp,h,U,ah,resolve,invoke,builtin,Builtin.min_,List.foldlM,Builtin.min2]
end
section
variable {x y:arm} {t u:arn} {s r:List UInt8}
theorem wS:(⟨s.toArray⟩:ByteArray).size=s.length:=by simp[ByteArray.size]
theorem Z7 {ts:Array arn} (h:o.op= .call {callee:= .builtin .len,args:=#[x],argTypes:=ts}) (U7:ts[0]? =are t) (ak:P.underlying t=are .string) (U:ae x=str s):cm P ae o (.int .i64 s.length):=
 Hp (x:=x) (by rw[h];rfl) (by rw[h];intros;simp) (by rw[U];rfl) rfl fun w=>by simp[execOp,h,U,resolve,invoke,builtin,Builtin.len_,U7,str,dU ak,goInt,wS]
theorem Y2 {k:aro} {n:Int} {c:UInt8} (h:o.op= .index t x y) (ak:P.underlying t=are .string) (U:ae x=str s) (ah:ae y= .int k n) (az:0<=n) (ad:s[n.toNat]? =are c):cm P ae o (.int .u8 c.toNat):=by
 refine sC (x:=x) (y:=y) (by rw[h];rfl) (by rw[h];intros;simp) (by rw[U];rfl) (by rw[ah];rfl) rfl fun w=> ?_;have aM:(⟨s.toArray⟩:ByteArray)[n.toNat]? =are c:=by have aO:=(arp.1 ad).1;have J:=(arp.1 ad).2;rw[getElem?_pos (h:=by rw[wS];exact aO)];congr 1
 simp[execOp,h,U,ah,Instr.index,asIntOf,dU ak,str,az,aM]
theorem agf (i k:Nat):(⟨s.toArray⟩:ByteArray).extract i k=⟨((s.take k).drop i).toArray⟩:=by
 have:((⟨s.toArray⟩:ByteArray).extract i k).data=((s.take k).drop i).toArray:=by rw[ByteArray.data_extract];simp[List.extract_eq_drop_take']
 cases ab:(⟨s.toArray⟩:ByteArray).extract i k;rw[ab] at this;simp only at this;rw[this]
theorem Y3 {bf af:Option arm} {a b:Nat} (h:o.op= .slice t x bf af ari) (ak:P.underlying t=are .string) (U:ae x=str s) (dv:oA ae bf a) (cP:lI ae af s.length b)
  (h1:a<=b) (J:b<=s.length):cm P ae o (str ((s.take b).drop a)):=by
 refine .flat _ (by rw[h];intros;simp) (fun z aD=> ?_) rfl fun w=> ?_
 ·rw[h] at aD;cases bf with
  |none=>cases af with
   |none=>simp[arv] at aD;subst aD;rw[U];rfl
   |some y=>
    obtain ⟨k,ah⟩:=cP;simp[arv] at aD;rcases aD with rfl|rfl
    ·rw[U];rfl
    ·rw[ah];rfl
  |some q=>
   obtain ⟨bW,aF⟩:=dv;cases af with
   |none=>
    simp[arv] at aD;rcases aD with rfl|rfl
    ·rw[U];rfl
    ·rw[aF];rfl
   |some y=>
    obtain ⟨k,ah⟩:=cP;simp[arv] at aD;rcases aD with rfl|rfl|rfl
    ·rw[U];rfl
    ·rw[aF];rfl
    ·rw[ah];rfl
 ·have kU:(ar1 arj s.length s.length (bf.map ae) (af.map ae) ari).run P w= .ok (a,b,s.length) w:=by
   cases bf with
   |none=>
    simp only[oA] at dv;subst dv;cases af with
    |none=>simp only[lI] at cP;subst cP;simp[ar1]
    |some y=>obtain ⟨k,ah⟩:=cP;simp[ar1,ah,asu,asIntOf,J]
   |some q=>
    obtain ⟨bW,aF⟩:=dv;cases af with
    |none=>simp only[lI] at cP;subst cP;simp[ar1,aF,asu,asIntOf,h1]
    |some y=>obtain ⟨k,ah⟩:=cP;simp[ar1,ah,aF,asu,asIntOf,h1,J]
  simp only[execOp,h,Instr.sliceAt,arV,dU ak,arN,Option.map_none,Instr.slice,U,str,Option.isSome_none,asf,if_false,ar0,wS,kU,agf]
theorem wQ {op:BinOp} (h:o.op= .binOp op t x y u) (U:ae x=str s) (ah:ae y=str r) (pQ:op≠ .shl/\op≠ .shr) {v:arh} (jG:∀w,(atF op ⟨s.toArray⟩ ⟨r.toArray⟩).run P w= .ok v w) (aa:flat v=arf):cm P ae o v:=by
 refine sC (x:=x) (y:=y) (by rw[h];rfl) (by rw[h];intros;simp) (by rw[U];rfl) (by rw[ah];rfl) aa fun w=> ?_;have aM:(eqGuard op t x y (str s) (str r)).run P w= .ok () w:=by cases op<;>rfl
 have ab:(binOp op t (str s) (str r)).run P w= .ok v w:=by rw[<-jG w];cases op<;>first|exact absurd rfl pQ.1|exact absurd rfl pQ.2|rfl
 simp only[execOp,h,U,ah,arV,aM,ab,arN,ar0]
def po (s r:List UInt8):Bool:=Op.bytesLess s r
theorem Aa (l:List UInt8):(⟨l.toArray⟩:ByteArray).toList=l:=by rw[Go.ByteArray.toList_eq]
theorem Z3 (h:o.op= .binOp .eql t x y u) (U:ae x=str s) (ah:ae y=str r):cm P ae o (.bool (s==r)):=wQ h U ah (by simp) (fun w=>by simp only[atF,Aa];rfl) rfl
theorem aad (h:o.op= .binOp .neq t x y u) (U:ae x=str s) (ah:ae y=str r):cm P ae o (.bool (!(s==r))):=wQ h U ah (by simp) (fun w=>by simp only[atF,Aa];rfl) rfl
theorem Z9 (h:o.op= .binOp .lss t x y u) (U:ae x=str s) (ah:ae y=str r):cm P ae o (.bool (po s r)):=wQ h U ah (by simp) (fun w=>by simp only[atF,Aa];rfl) rfl
theorem Z8 (h:o.op= .binOp .leq t x y u) (U:ae x=str s) (ah:ae y=str r):cm P ae o (.bool (po s r||(s==r))):=wQ h U ah (by simp) (fun w=>by simp only[atF,Aa];rfl) rfl
theorem Z6 (h:o.op= .binOp .gtr t x y u) (U:ae x=str s) (ah:ae y=str r):cm P ae o (.bool (!(po s r||(s==r)))):=wQ h U ah (by simp) (fun w=>by simp only[atF,Aa];rfl) rfl
theorem Z5 (h:o.op= .binOp .geq t x y u) (U:ae x=str s) (ah:ae y=str r):cm P ae o (.bool (!po s r)):=wQ h U ah (by simp) (fun w=>by simp only[atF,Aa];rfl) rfl
theorem aj1:(⟨s.toArray⟩:ByteArray)++(⟨r.toArray⟩:ByteArray)=⟨(s++r).toArray⟩:=by
 have:((⟨s.toArray⟩:ByteArray)++(⟨r.toArray⟩:ByteArray)).data=(s++r).toArray:=by rw[ByteArray.data_append];simp
 cases ab:(⟨s.toArray⟩:ByteArray)++(⟨r.toArray⟩:ByteArray);rw[ab] at this;simp only at this;rw[this]
theorem Z0 (h:o.op= .binOp .add t x y u) (U:ae x=str s) (ah:ae y=str r) (ai:s.length+r.length<=9223372036854775807):cm P ae o (str (s++r)):=wQ h U ah (by simp) (fun w=>by
 simp only[atF,wS,Nat.not_lt.2 ai];rw[if_neg (by show ¬_>(9223372036854775807:Int);omega),aj1];rfl) rfl
theorem WY {op:BinOp} {a b:Bool} (h:o.op= .binOp op t x y u) (ak:P.underlying t=are .bool) (U:ae x= .bool a) (ah:ae y= .bool b) (jG:op= .eql\/op= .neq):cm P ae o (.bool (if op= .eql then a==b else !(a==b))):=by
 refine sC (x:=x) (y:=y) (by rw[h];rfl) (by rw[h];intros;simp) (by rw[U];rfl) (by rw[ah];rfl) rfl fun w=> ?_;have he:(Op.equal t (.bool a) (.bool b)).run P w= .ok (a==b) w:=by
  have aw:∀d:Nat,(Op.equalIn (d+1) t (.bool a) (.bool b)).run P w= .ok (a==b) w:=fun d=>by simp only[Op.equalIn,arV,dU ak,arN,ar0]
  exact aw 9999
 have aM:(eqGuard op t x y (.bool a) (.bool b)).run P w= .ok () w:=by rcases jG with rfl|rfl<;>rfl
 have ab:(binOp op t (.bool a) (.bool b)).run P w= .ok (.bool (if op= .eql then a==b else !(a==b))) w:=by
  rcases jG with rfl|rfl
  ·show (do pure (arh.bool (<-Op.equal t (.bool a) (.bool b))):Sem arh).run P w=_;simp only[arV,he,arN,ar0,if_true]
  ·show (do pure (arh.bool (!(<-Op.equal t (.bool a) (.bool b)))):Sem arh).run P w=_;simp only[arV,he,arN,ar0];rfl
 simp only[execOp,h,U,ah,arV,aM,ab,arN,ar0]
theorem Z2 {a b:Bool} (h:o.op= .binOp .eql t x y u) (ak:P.underlying t=are .bool) (U:ae x= .bool a) (ah:ae y= .bool b):cm P ae o (.bool (a==b)):=WY h ak U ah (.inl rfl)
theorem aac {a b:Bool} (h:o.op= .binOp .neq t x y u) (ak:P.underlying t=are .bool) (U:ae x= .bool a) (ah:ae y= .bool b):cm P ae o (.bool (!(a==b))):=WY h ak U ah (.inr rfl)
end
end
end Go.aQ
end
section
namespace Go.aQ
def bc {al:Type} (xs:List al) (i:Int):Option al:=if 0<=i then xs[i.toNat]? else ari
theorem pd {al:Type} {xs:List al} {i:Int} {x:al} (h:bc xs i=are x):0<=i/\i<xs.length/\xs[i.toNat]? =are x:=by
 unfold bc at h;split at h
 ·have:=(arp.1 h).1;exact ⟨‹_›,by omega,h⟩
 ·cases h
def aa' (z:Nat->aV) (p:arh) (cs:List arh):Prop:=∃b o,p= .pointer (are ⟨b,o,ari⟩)/\nE z b o cs
def Rs (m:Mem) (p:arh) (cs:List arh):Prop:=∃b o,p= .pointer (are ⟨b,o,ari⟩)/\∀(i:Nat) (u:arh),cs[i]? =are u->m.load b (o+i)=are u
section
variable {P:arl} {ae:arm->arh} {o:Oper} {al:Type} {T:cb al} {z:Nat->aV} {m:Mem} {xs:List al} {v:arh} {x y:arm} {t e u:arn} {i:TypeInfo} {d:TypeDesc}
theorem Hl {b:Nat}:∀(n off:Nat) (cs:List arh),cs.length=n->(∀(i:Nat) (u:arh),cs[i]? =are u->m.load b (off+i)=are u)->il m b off n=are cs
 |0,off,cs,ai,_=>by rw[asJ ai];rfl
 |n+1,off,c::cs,ai,h=>by
  have az:=h 0 c (by simp);have aU:=Hl n (off+1) cs (by simpa using ai) fun i u af=>by have:=h (i+1) u (by simpa using af);rw[show off+1+i=off+(i+1) by omega];exact this
  simp only[ar3] at az;simp only[il,az,aU]
 |n+1,off,[],ai,_=>by simp at ai
theorem an5 {k:aro} {n:Int} {a:al} (h:o.op= .indexAddr t x y) (ak:P.underlying t=are (.slice e)) (af:P.info? e=are i) (bu:i.size=T.aW) (U:ae x=v) (ah:ae y= .int k n) (aq:dW T z xs v) (aM:bc xs n=are a):
  ∃p cs,cm P ae o p/\T.rd z a cs/\aa' z p cs:=by
 obtain ⟨az,h1,J⟩:=pd aM;rcases aq with ⟨_,rfl⟩|⟨b,off,c,rfl,_,_,aJ⟩
 ·simp at J
 ·obtain ⟨cs,g1,g2⟩:=aJ _ a J;exact ⟨_,cs, .indexAddr t x y e i b off _ c k n h ak af U ah az h1,g1,b,_,rfl,by rw[bu];exact g2⟩
def abz (s:Nat) (v:arh) (n:Nat) (p:arh):Prop:=∃b f0 l c,v= .slice (are ⟨b,f0,ari⟩) l c/\p= .pointer (are ⟨b,f0+n*s,ari⟩)
theorem an4 {k:aro} {n:Int} {a:al} (h:o.op= .indexAddr t x y) (ak:P.underlying t=are (.slice e)) (af:P.info? e=are i) (bu:i.size=T.aW) (U:ae x=v) (ah:ae y= .int k n) (aq:er T z m xs v) (aM:bc xs n=are a):
  ∃p cs,cm P ae o p/\T.rd z a cs/\Rs m p cs/\abz T.aW v n.toNat p:=by
 obtain ⟨az,h1,J⟩:=pd aM;rcases aq with ⟨_,rfl⟩|⟨b,f0,L,c,rfl,ab,_,_,ai,_,aJ⟩
 ·simp at J
 ·obtain ⟨cs,g1,g2⟩:=aJ _ a J;refine ⟨_,cs, .indexAddr t x y e i b f0 _ c k n h ak af U ah az h1,g1,⟨b,_,rfl,fun j u ap=> ?_⟩,⟨b,f0,_,c,rfl,by rw[bu]⟩⟩;simp only[Mem.load,ab,bu];exact g2 j u ap
def gH {al:Type} (xs:List al) (a b:Int):Option (List al):=if 0<=a/\a<=b/\b<=xs.length then are ((xs.take b.toNat).drop a.toNat) else ari
theorem NZ {xs:List al} {a b:Int} {r:List al} (h:gH xs a b=are r):0<=a/\a<=b/\b<=xs.length/\r=(xs.take b.toNat).drop a.toNat:=by
 unfold gH at h;split at h
 ·rename_i ad;cases h;exact ⟨ad.1,ad.2.1,ad.2.2,rfl⟩
 ·cases h
def yW (ae:arm->arh) (bf:Option arm) (n:Int):Prop:=
 match bf with
 |none=>n=0
 |some y=>∃k,ae y= .int k n
def zN (ae:arm->arh) (af:Option arm) (l:Nat) (n:Int):Prop:=
 match af with
 |none=>n=l
 |some y=>∃k,ae y= .int k n
theorem G4 {ae:arm->arh} {bf:Option arm} {n:Nat} (h:yW ae bf n):oA ae bf n:=by
 cases bf with
 |none=>simp only[yW] at h;simp only[oA];omega
 |some y=>exact h
theorem GQ {ae:arm->arh} {af:Option arm} {l n:Nat} (h:zN ae af l n):lI ae af l n:=by
 cases af with
 |none=>simp only[zN] at h;simp only[lI];omega
 |some y=>exact h
theorem Hb {xs:List al} {a b k:Nat} {r:al} (h:((xs.take b).drop a)[k]? =are r):xs[a+k]? =are r:=by
 rw[asE,asg] at h;split at h
 ·exact h
 ·cases h
theorem Zu {P:arl} {C:FuncId->Array arh->Mem->arh->Mem->Prop} {b off:Nat} {L cs:List arh} (h:o.op= .store t x y) (af:P.info? t=are i) (U:ae x= .pointer (are ⟨b,off,ari⟩)) (hm:m.ay b= .own L e) (aa:storable (ae y)=arf) (gI:(ae y).cells.toList=cs) (aq:cs.length=i.size) (ai:off+cs.length<=L.length):
  fM P C ae o m undef (m.put b (.own (ee L off cs) e)):=by
 subst gI;exact .store t x y b off i L e h U af hm aa (by simpa using aq) (by rw[<-aq];exact ai)
theorem Cy {b:Nat} {x:aV} (aw:∀b,m.next<=b->m.ay b= .dead) (ab:b<m.next):eX m (m.put b x) (are b):=by
 refine ⟨ars _,fun c ad=> ?_,fun c ad hk=> ?_⟩
 ·have ad:m.next<=c:=ad;simp only[Mem.put];rw[if_neg (by omega)];exact aw c ad
 ·simp only[Mem.put];rw[if_neg (fun h=>hk (by rw[h]))]
theorem Ce {x:aV} (aw:∀b,m.next<=b->m.ay b= .dead):eX m (m.push x) ari:=by
 refine ⟨ar7 _,fun c ad=> ?_,fun c ad _=> ?_⟩
 ·simp only[Mem.push] at ad⊢;rw[if_neg (by omega)];exact aw c (by omega)
 ·simp only[Mem.push];rw[if_neg (by omega)]
theorem er.same {m':Mem} {q:Option Nat} (h:er T z m xs v) (s:eX m m' q) (dh:dV (ck v) q):er T z m' xs v:=
 h.frame fun b ab aO=>⟨s.ay b aO (fun aF=>dh b ab aF),arT aO s.next⟩
theorem ahS {m':Mem} {q:Option Nat} {b:Nat} {X:aV} (h:m.ay b=X) (ab:b<m.next) (s:eX m m' q) (dh:q≠are b):m'.ay b=X/\b<m'.next:=⟨by rw[s.ay b ab dh];exact h,arT ab s.next⟩
theorem er.store {n:Nat} {a a':al} {cs cs':List arh} {f:Nat} {new:List arh} {b f0 l c:Nat} (aq:er T z m xs v) (aw:∀b,m.next<=b->m.ay b= .dead) (aa:v= .slice (are ⟨b,f0,ari⟩) l c) (ar:xs[n]? =are a) (ao:T.rd z a cs) (ad:Rs m (.pointer (are ⟨b,f0+n*T.aW,ari⟩)) cs) (nv:T.rd z a' cs') (gI:cs'=ee cs f new) (aK:f+new.length<=cs.length):
  ∃L,m.ay b= .own L T.tid/\f0+n*T.aW+f+new.length<=L.length/\er T z (m.put b (.own (ee L (f0+n*T.aW+f) new) T.tid)) (xs.set n a') v/\eX m (m.put b (.own (ee L (f0+n*T.aW+f) new) T.tid)) (are b):=by
 rcases aq with ⟨rfl,_⟩|⟨bV,f1,L,bg,lB,ab,aO,aD,ai,gT,kf⟩
 ·cases aa
 ·subst aa;simp only[ast.injEq,arw.injEq,Addr.mk.injEq,and_true] at lB;obtain ⟨⟨rfl,rfl⟩,rfl,rfl⟩:=lB;have av:n<xs.length:=(arp.1 ar).1;have hlen:=T.len z a cs ao;have yG:=T.len z a' cs' nv;have qE:f0+n*T.aW+T.aW<=L.length:=by
   have:(n+1)*T.aW<=xs.length*T.aW:=asC _ av;rw[arW,asS] at this;omega
  have b5:(ee L (f0+n*T.aW+f) new).length=L.length:=nH _ _ _;refine ⟨L,ab,by omega, .inr ⟨b,f0,ee L (f0+n*T.aW+f) new,c,by simp,by simp[Mem.put],aO,aD,by rw[b5];simpa using ai,by rw[b5];simpa using gT,fun k w hk=> ?_⟩,Cy aw aO⟩;rw[arY] at hk;by_cases rW:n=k
  ·subst rW;simp[av] at hk;subst hk;refine ⟨cs',nv,fun q u aF=> ?_⟩;have U0:=(arp.1 aF).1;rw[gI,ow _ _ _ _ aK] at aF;rw[ow _ _ _ _ (by omega)];by_cases hx:f<=q/\q<f+new.length
   ·rw[if_pos hx] at aF;rw[if_pos (by omega),show f0+n*T.aW+q - (f0+n*T.aW+f)=q - f by omega];exact aF
   ·rw[if_neg hx] at aF;rw[if_neg (by omega)];obtain ⟨hg,eV,an,ado⟩:=ad;simp only[arh.pointer.injEq,arw.injEq,Addr.mk.injEq,and_true] at an;obtain ⟨rfl,rfl⟩:=an;have:=ado q u aF;simp only[Mem.load,ab] at this;exact this
  ·rw[if_neg rW] at hk;obtain ⟨TN,g1,g2⟩:=kf k w hk;refine ⟨TN,g1,fun q u aF=> ?_⟩;have U0:=(arp.1 aF).1;rw[T.len z w TN g1] at U0;rw[ow _ _ _ _ (by omega)];have pO:¬(f0+n*T.aW+f<=f0+k*T.aW+q/\f0+k*T.aW+q<f0+n*T.aW+f+new.length):=by
    rcases Nat.lt_or_gt_of_ne rW with bq|bq
    ·have:(n+1)*T.aW<=k*T.aW:=asC _ bq;rw[arW,asS] at this;omega
    ·have:(k+1)*T.aW<=n*T.aW:=asC _ bq;rw[arW,asS] at this;omega
   rw[if_neg pO];exact g2 q u aF
end
end Go.aQ
end
section
namespace Go.aQ
def mq:Nat:=4294967296
def eh {al:Type} (xs a8:List al):Option (List al):=if xs.length+a8.length<=mq then are (xs++a8) else ari
theorem ss {al:Type} {xs a8 r:List al} (h:eh xs a8=are r):xs.length+a8.length<=mq/\r=xs++a8:=by
 unfold eh at h;split at h
 ·cases h;exact ⟨‹_›,rfl⟩
 ·cases h
def k2 {al:Type} (x:al) (n:Int):Option (List al):=if 0<=n/\n<=4294967296 then are (arL n.toNat x) else ari
theorem CI {al:Type} {x:al} {n:Int} {r:List al} (h:k2 x n=are r):0<=n/\n<=4294967296/\r=arL n.toNat x:=by
 unfold k2 at h;split at h
 ·rename_i ad;cases h;exact ⟨ad.1,ad.2,rfl⟩
 ·cases h
def oF (n:Int):Option UInt8:=if 0<=n/\n<256 then are (asR n.toNat) else ari
theorem W6 {n:Int} {u:UInt8} (h:oF n=are u):n=u.toNat:=by
 unfold oF at h;split at h
 ·rename_i ad;cases h;simp;omega
 ·cases h
def ye (a b:Int):Option Int:=if b=0 then ari else are (a.tdiv b)
def sh (a b:Int):Option Int:=if b=0 then ari else are (a.tmod b)
theorem agC {a b r:Int} (h:ye a b=are r):b≠0/\r=a.tdiv b:=by
 unfold ye at h;split at h
 ·cases h
 ·cases h;exact ⟨‹_›,rfl⟩
theorem ahb {a b r:Int} (h:sh a b=are r):b≠0/\r=a.tmod b:=by
 unfold sh at h;split at h
 ·cases h
 ·cases h;exact ⟨‹_›,rfl⟩
def lt {al bs:Type} (x:al) (f:al->Option bs):Option bs:=f x
theorem Yr {al bs:Type} {x:al} {f:al->Option bs} {r:bs} (h:lt x f=are r):∃y,x=y/\f y=are r:=⟨x,rfl,h⟩
theorem bind_some {al bs:Type} {x:Option al} {f:al->Option bs} {r:bs} (h:x.bind f=are r):∃y,x=are y/\f y=are r:=Option.bind_eq_some_iff.1 h
def iN (t:arn):cb UInt8:=cb.flat t (fun u=> .int .u8 u.toNat) fun _=>rfl
section
variable {P:arl} {C:FuncId->Array arh->Mem->arh->Mem->Prop} {ae:arm->arh} {o:Oper} {al:Type} {T:cb al} {z:Nat->aV} {m:Mem} {xs a8:List al} {v w:arh} {x y:arm} {t e u:arn} {i:TypeInfo} {d:TypeDesc}
def Src (T:cb al) (z:Nat->aV) (m:Mem) (a8:List al) (w:arh):Prop:=
 gB w=a8.length/\∃cs,cg m T.aW w=are cs/\cs.length=a8.length*T.aW/\∀(i:Nat) (y:al),a8[i]? =are y->∃c,T.rd z y c/\om cs (i*T.aW) c
theorem YQ {m:Mem} {b:Nat}:∀(n off:Nat) (f:Nat->arh),(∀i,i<n->m.load b (off+i)=are (f i))->il m b off n=are ((ar2 n).map f)
 |0,off,f,_=>rfl
 |n+1,off,f,h=>by
  have az:=h 0 (by omega);have aU:=YQ n (off+1) (fun i=>f (i+1)) fun i af=>by rw[show off+1+i=off+(i+1) by omega];exact h (i+1) (by omega)
  simp only[ar3] at az;simp only[il,az,aU,List.range_succ_eq_map,asc,List.map_map];rfl
theorem Pt {b off c:Nat} (h:∀(i:Nat) (y:al),a8[i]? =are y->∃cs,T.rd z y cs/\∀(k:Nat) (u:arh),cs[k]? =are u->m.load b (off+i*T.aW+k)=are u):Src T z m a8 (.slice (are ⟨b,off,ari⟩) a8.length c):=by
 have ad1:∀k,k<a8.length*T.aW->∃u,m.load b (off+k)=are u:=by
  intro k hk;have dt:0<T.aW:=by
   rcases auc T.aW with az|az
   ·rw[az] at hk;omega
   ·exact az
  have aF:k / T.aW<a8.length:=Nat.div_lt_of_lt_mul (by rw[Nat.mul_comm];exact hk);obtain ⟨cs,h1,J⟩:=h (k / T.aW) a8[k / T.aW] (by simp[aF]);have hlen:=T.len z _ cs h1;have ao:k%T.aW<cs.length:=by rw[hlen];exact Nat.mod_lt _ dt
  refine ⟨cs[k%T.aW], ?_⟩;have:=J (k%T.aW) _ (arX ao);rw[arZ,Nat.mul_comm,Nat.div_add_mod] at this;exact this
 let f:Nat->arh:=fun k=>(m.load b (off+k)).getD undef
 have aK:∀k,k<a8.length*T.aW->m.load b (off+k)=are (f k):=fun k hk=>by obtain ⟨u,hu⟩:=ad1 k hk;simp[f,hu]
 refine ⟨rfl,(ar2 (a8.length*T.aW)).map f,YQ _ _ _ aK,by simp,fun i y ah=> ?_⟩;obtain ⟨cs,h1,J⟩:=h i y ah;refine ⟨cs,h1,fun k u hk=> ?_⟩;have nn:=(arp.1 hk).1;rw[T.len z y cs h1] at nn;have jW:=(arp.1 ah).1;have aO:i*T.aW+k<a8.length*T.aW:=by have:(i+1)*T.aW<=a8.length*T.aW:=asC _ jW;rw[arW,asS] at this;omega
 have:=J k u hk;rw[arZ,aK _ aO] at this;rw[ar4,atD aO];simpa using this
theorem dW.src (h:dW T z a8 w) (aD:je z m):Src T z m a8 w:=by
 rcases h with ⟨rfl,rfl⟩|⟨b,off,c,rfl,_,_,aJ⟩
 ·exact ⟨rfl,[],rfl,by simp,fun i y ah=>by simp at ah⟩
 ·exact Pt fun i y ah=>by obtain ⟨cs,g1,g2⟩:=aJ i y ah;exact ⟨cs,g1,fun k u hk=>Ot aD (g2 k u hk)⟩
theorem er.src (h:er T z m a8 w):Src T z m a8 w:=by
 rcases h with ⟨rfl,rfl⟩|⟨b,f0,L,c,rfl,ab,_,_,_,_,aJ⟩
 ·exact ⟨rfl,[],rfl,by simp,fun i y ah=>by simp at ah⟩
 ·exact Pt fun i y ah=>by obtain ⟨cs,g1,g2⟩:=aJ i y ah;exact ⟨cs,g1,fun k u hk=>by simp only[Mem.load,ab];exact g2 k u hk⟩
theorem aj2 {tid:arn} (s:List UInt8):Src (iN tid) z m s (str s):=by
 refine ⟨by simp[gB,str,wS],s.map fun u=> .int .u8 u.toNat,by simp[cg,str,iN,cb.flat],by simp[iN,cb.flat],fun i y ah=> ?_⟩;refine ⟨[.int .u8 y.toNat],rfl,fun k u hk=> ?_⟩;cases k with
 |zero=>simp at hk;subst hk;simp[iN,cb.flat,ah]
 |succ k=>simp at hk
theorem eX.kill {b:Nat} {X:aV} (aw:∀b,m.next<=b->m.ay b= .dead) (ab:b<m.next):eX m ((m.put b .dead).push X) (are b):=by
 have h1:=Cy (m:=m) (x:= .dead) aw ab;refine ⟨ar7 _,fun c ad=> ?_,fun c ad hk=> ?_⟩
 ·have e:((m.put b .dead).push X).ay c=if c=m.next then X else (if c=b then .dead else m.ay c):=rfl
  have ad:m.next+1<=c:=ad;rw[e,if_neg (by omega)];split
  ·rfl
  ·exact aw c (by omega)
 ·have e:((m.put b .dead).push X).ay c=if c=m.next then X else (if c=b then .dead else m.ay c):=rfl
  rw[e,if_neg (by omega),if_neg (fun h=>hk (by rw[h]))]
theorem Xv {cs:List arh} (h:o.op= .call {callee:= .builtin .append,args:=#[x,y],argTypes:=#[t,u]}) (ak:P.underlying t=are (.slice T.tid)) (af:P.info? T.tid=are i) {b1:arh} (gA:i.zero=are b1) (b3:b1.cells.toList.all b7=arf) (cZ:b1.cells.size=i.size)
  (bu:i.size=T.aW) (dt:0<T.aW) (LS:(xs.length+a8.length)*i.bytes<=140737488355328) (kW:xs.length+a8.length<=140737488355328) (U:ae x=v) (aq:er T z m xs v) (c9:rp P m u i (ae y) a8.length cs) (hv:cs.length=a8.length*T.aW) (dm:∀(i:Nat) (y:al),a8[i]? =are y->∃c,T.rd z y c/\om cs (i*T.aW) c)
  (aD:je z m) (aw:∀b,m.next<=b->m.ay b= .dead):
  ∃bl m',fM P C ae o m bl m'/\er T z m' (xs++a8) bl/\eX m m' (ck v)/\∀b,ck bl=are b->ck v=are b\/m.next<=b:=by
 have LU:=LS;have Ml:xs.length+a8.length<9223372036854775807:=by omega
 have ys:cs.length=a8.length*i.size:=by rw[bu];exact hv
 have pN:z m.next= .dead:=by
  cases fE:z m.next with
  |dead=>rfl
  |ro rd=>have:=(aD m.next (by rw[fE];simp)).2;omega
  |own L t=>have:=(aD m.next (by rw[fE];simp)).2;omega
  |map L t=>have:=(aD m.next (by rw[fE];simp)).2;omega
  |lock _ _ _ _=>have:=(aD m.next (by rw[fE];simp)).2;omega
 have join:∀(cK:List arh),cK.length=xs.length*T.aW->(∀(i:Nat) (x:al),xs[i]? =are x->∃c,T.rd z x c/\om cK (i*T.aW) c)->
   ∀(i:Nat) (x:al),(xs++a8)[i]? =are x->∃c,T.rd z x c/\om (cK++cs) (i*T.aW) c:=by
  intro cK iT ag i a ar;rw[at5] at ar;split at ar
  ·rename_i aO;obtain ⟨c,g1,g2⟩:=ag i a ar;refine ⟨c,g1,fun k q hk=> ?_⟩;have:=g2 k q hk;rw[arQ (arp.1 this).1];exact this
  ·rename_i eT;obtain ⟨c,g1,g2⟩:=dm _ a ar;refine ⟨c,g1,fun k q hk=> ?_⟩;have:=g2 k q hk;have h1:i*T.aW=cK.length+(i - xs.length)*T.aW:=by
    rw[iT,<-arW];congr 1;omega
   rw[h1,arZ,arP (by omega),Nat.add_sub_cancel_left];exact this
 rcases aq with ⟨rfl,rfl⟩|⟨b,f0,L,c,rfl,ab,aO,afg,ai,gT,aeG⟩
 ·by_cases oh:a8.length=0
  ·have adt:cs=[]:=asJ (by rw[hv,oh,asz]);have afd:a8=[]:=asJ oh;subst afd;subst adt;refine ⟨ae x,m, .tt x y t u T.tid i ari 0 0 h ak af U (by simp[bT]) (ars _) c9, ?_,⟨ars _,aw,fun _ _ _=>rfl⟩, ?_⟩
   ·rw[U];exact .inl ⟨rfl,rfl⟩
   ·intro b ab;rw[U] at ab;cases ab
  ·refine ⟨_,_, .qq x y t u T.tid i b1 ari 0 0 a8.length [] cs h ak af gA b3 cZ (by rw[bu];exact dt) U (by omega) (by rw[U];rfl) (by simp) c9 ys (by simpa using LU) (by simpa using Ml), ?_,Ce aw, ?_⟩
   ·refine .inr ⟨m.next,0,cs,bT,by simp,by simp[Mem.push],by simp[Mem.push],pN,by simp[hv], .inl rfl, ?_⟩;have:=join [] (by simp) (fun i x U=>by simp at U);simpa using this
   ·intro b ab;cases ab;exact .inr (ars _)
 ·have Mx:∀(i:Nat) (x:al),xs[i]? =are x->∃c,T.rd z x c/\om ((L.drop f0).take (xs.length*T.aW)) (i*T.aW) c:=by
   intro k a ar;obtain ⟨c,g1,g2⟩:=aeG k a ar;refine ⟨c,g1,fun q dL aF=> ?_⟩;have yK:=(arp.1 aF).1;rw[T.len z a c g1] at yK;have nn:=(arp.1 ar).1;have:(k+1)*T.aW<=xs.length*T.aW:=asC _ nn;rw[arW,asS] at this;rw[asg,if_pos (by omega),asE,<-arZ];exact g2 q dL aF
  have lA:((L.drop f0).take (xs.length*T.aW)).length=xs.length*T.aW:=by rw[asq,asD];omega
  rcases gT with rfl|⟨Fg,adi,Uo⟩
  ·refine ⟨_,_, .append x y t u T.tid i b1 b f0 xs.length a8.length L cs h ak af gA b3 cZ (by rw[bu];exact dt) U ab (by rw[bu];exact ai) c9 ys LU Ml, ?_,eX.kill aw aO, ?_⟩
   ·refine .inr ⟨m.next,0,(L.drop f0).take (xs.length*T.aW)++cs,bT,by simp,by simp[Mem.push,Mem.put,bu],by simp[Mem.push,Mem.put],pN, ?_, .inl rfl, ?_⟩
    ·rw[arJ,arJ,lA,hv,arW,arE];exact ars _
    ·simpa using join _ lA Mx
   ·intro bV ch;cases ch;exact .inr (ars _)
  ·by_cases qE:xs.length+a8.length<=c
   ·have ym:f0+(xs.length+a8.length)*i.size<=L.length:=by
     rw[bu];exact arR (Nat.add_le_add_left (asC _ qE) _) Uo
    refine ⟨_,_, .vn x y t u T.tid i b f0 xs.length c a8.length L cs h ak af U (by simp only[bT] at Fg⊢;omega) qE ab c9 ys ym, ?_,Cy aw aO,fun bV ch=> .inl ch⟩;have mC:(ee L (f0+xs.length*i.size) cs).length=L.length:=nH _ _ _;refine .inr ⟨b,f0,ee L (f0+xs.length*i.size) cs,c,by simp,by simp[Mem.put],aO,afg, ?_, .inr ⟨Fg, ?_, ?_⟩, ?_⟩
    ·rw[mC];rw[bu] at ym;simpa using ym
    ·simpa using qE
    ·rw[mC];exact Uo
    ·intro k a ar;obtain ⟨bg,g1,g2⟩:=join _ lA Mx k a ar;refine ⟨bg,g1,fun q dL aF=> ?_⟩;have:=g2 q dL aF;have UM:=(arp.1 this).1;rw[arJ,lA,hv] at UM;rw[bu,arW] at ym;rw[bu,ow _ _ _ _ (by rw[hv];omega)];rw[at5,lA] at this;split at this
     ·rename_i ad5;rw[if_neg (by omega)];rw[asg,if_pos ad5,asE,<-arZ] at this;exact this
     ·rw[if_pos (by omega),show f0+k*T.aW+q - (f0+xs.length*T.aW)=k*T.aW+q - xs.length*T.aW by omega];exact this
   ·have adz:cg m i.size (ae x)=are ((L.drop f0).take (xs.length*T.aW)):=by
     rw[U,bu];simp only[cg];refine Hl _ _ _ lA fun k q hk=> ?_;rw[asg] at hk;split at hk
     ·rw[asE] at hk;simp only[Mem.load,ab];exact hk
     ·cases hk
    refine ⟨_,_, .qq x y t u T.tid i b1 _ xs.length c a8.length ((L.drop f0).take (xs.length*T.aW)) cs h ak af gA b3 cZ (by rw[bu];exact dt) U (by omega) adz (by rw[lA,bu]) c9 ys LU Ml, ?_, ?_, ?_⟩
    ·refine .inr ⟨m.next,0,(L.drop f0).take (xs.length*T.aW)++cs,bT,by simp,by simp[Mem.push],by simp[Mem.push],pN, ?_, .inl rfl,by simpa using join _ lA Mx⟩;rw[arJ,arJ,lA,hv,arW,arE];exact ars _
    ·have:=Ce (m:=m) (x:= .own ((L.drop f0).take (xs.length*T.aW)++cs) T.tid) aw;exact ⟨this.next,this.dead,fun c ad _=>this.ay c ad (by simp)⟩
    ·intro bV ch;cases ch;exact .inr (ars _)
theorem ait (h:o.op= .call {callee:= .builtin .append,args:=#[x,y],argTypes:=#[t,u]}) (ak:P.underlying t=are (.slice T.tid)) (af:P.info? T.tid=are i) {b1:arh} (gA:i.zero=are b1) (b3:b1.cells.toList.all b7=arf) (cZ:b1.cells.size=i.size)
  (bu:i.size=T.aW) (dt:0<T.aW) (LS:(xs.length+a8.length)*i.bytes<=140737488355328) (kW:xs.length+a8.length<=140737488355328) (hu:(∃bp,P.underlying u=are (.slice bp))\/P.underlying u=are .string) (U:ae x=v) (aq:er T z m xs v) (ah:ae y=w) (lz:Src T z m a8 w)
  (aD:je z m) (aw:∀b,m.next<=b->m.ay b= .dead):
  ∃bl m',fM P C ae o m bl m'/\er T z m' (xs++a8) bl/\eX m m' (ck v)/\∀b,ck bl=are b->ck v=are b\/m.next<=b:=by
 obtain ⟨hlen,cs,kf,hv,dm⟩:=lz;exact Xv h ak af gA b3 cZ bu dt LS kW U aq (.el hu (by rw[ah];exact hlen) (by rw[ah,bu];exact kf)) hv dm aD aw
theorem an0 {x0:al} {b1:arh} (dm:T.rd z x0 b1.cells.toList) (c:Nat):(arL c b1.cells.toList).flatten.length=(arL c x0).length*T.aW/\
  ∀(i:Nat) (y:al),(arL c x0)[i]? =are y->∃d,T.rd z y d/\om (arL c b1.cells.toList).flatten (i*T.aW) d:=by
 have hlen:b1.cells.toList.length=T.aW:=T.len z x0 _ dm;refine ⟨by rw[List.length_flatten];simp[hlen],fun j a ar=> ?_⟩;have ap:=(arp.1 ar).1;have LN:a=x0:=by have:=(arp.1 ar).2;simpa using this.symm
 subst LN;refine ⟨_,dm,fun q u aF=> ?_⟩;have yK:=(arp.1 aF).1;rw[hlen] at yK;have key:∀(c j:Nat),j<c->((arL c b1.cells.toList).flatten)[j*T.aW+q]? =b1.cells.toList[q]? :=by
  intro c;induction c with
  |zero=>intro j ap;omega
  |succ c aU=>
   intro j ap;rw[au5,atL];cases j with
   |zero=>rw[asz,arE,arQ (by omega)]
   |succ j=>rw[arP (by rw[hlen,auN];omega),hlen,auN,show j*T.aW+T.aW+q - T.aW=j*T.aW+q by omega];exact aU j (by omega)
 rw[key c j (by simpa using ap)];exact aF
theorem aiu {x0:al} {kk k:aro} {c:Nat} (h:o.op= .call {callee:= .builtin .append,args:=#[x,y],argTypes:=#[t,u]}) (ak:P.underlying t=are (.slice T.tid)) (af:P.info? T.tid=are i) {b1:arh} (gA:i.zero=are b1) (b3:b1.cells.toList.all b7=arf) (cZ:b1.cells.size=i.size)
  (bu:i.size=T.aW) (dt:0<T.aW) (fW:i.bytes<=32768) (hu:P.underlying u=are (.int kk)) (U:ae x=v) (aq:er T z m xs v) (ah:ae y= .int k c) (dm:T.rd z x0 b1.cells.toList)
  (aD:je z m) (aw:∀b,m.next<=b->m.ay b= .dead) {r:List al} (ao:eh xs (arL c x0)=are r):
  ∃bl m',fM P C ae o m bl m'/\er T z m' r bl/\eX m m' (ck v)/\∀b,ck bl=are b->ck v=are b\/m.next<=b:=by
 obtain ⟨kW,rfl⟩:=ss ao;simp only[mq,atb] at kW;have h1:(xs.length+c)*i.bytes<=4294967296*32768:=aun kW fW;have J:c*i.bytes<=4294967296*32768:=aun (by omega) fW;obtain ⟨g1,g2⟩:=an0 (T:=T) (z:=z) dm c;exact Xv h ak af gA b3 cZ bu dt (by rw[atb];omega) (by rw[atb];omega) U aq
  (.mk kk k b1 hu (by rw[ah,atb]) gA b3 cZ (by omega) (by rw[atb];omega) (by rw[atb];omega) (by rw[atb])) g1 g2 aD aw
theorem ajH (h:o.op= .call {callee:= .builtin .append,args:=#[x,y],argTypes:=#[t,u]}) (ak:P.underlying t=are (.slice T.tid)) (af:P.info? T.tid=are i) {b1:arh} (gA:i.zero=are b1) (b3:b1.cells.toList.all b7=arf) (cZ:b1.cells.size=i.size)
  (bu:i.size=T.aW) (dt:0<T.aW) (fW:i.bytes<=32768) (hu:(∃bp,P.underlying u=are (.slice bp))\/P.underlying u=are .string) (U:ae x=v) (aq:er T z m xs v) (ah:ae y=w) (lz:Src T z m a8 w)
  (aD:je z m) (aw:∀b,m.next<=b->m.ay b= .dead) {r:List al} (ao:eh xs a8=are r):
  ∃bl m',fM P C ae o m bl m'/\er T z m' r bl/\eX m m' (ck v)/\∀b,ck bl=are b->ck v=are b\/m.next<=b:=by
 obtain ⟨kW,rfl⟩:=ss ao;simp only[mq] at kW;have:(xs.length+a8.length)*i.bytes<=4294967296*32768:=aun kW fW;exact ait h ak af gA b3 cZ bu dt (by omega) (by omega) hu U aq ah lz aD aw
theorem an1 {x0:al} {k bW:aro} {n n':Int} (h:o.op= .makeSlice t x y) (ak:P.underlying t=are (.slice T.tid)) (af:P.info? T.tid=are i) {b1:arh} (gA:i.zero=are b1) (b3:b1.cells.toList.all b7=arf) (cZ:b1.cells.size=i.size) (bu:i.size=T.aW) (fW:i.bytes<=32768)
  (dm:T.rd z x0 b1.cells.toList) (U:ae x= .int k n) (ah:ae y= .int bW n) (aD:je z m) {r:List al} (ao:k2 x0 n=are r):
  ∃L v,hI P ae o m.next (.own L T.tid) v/\er T z (m.push (.own L T.tid)) r v/\ck v=are m.next:=by
 obtain ⟨az,h1,rfl⟩:=CI ao;obtain ⟨c,rfl⟩:=ar8 az;have pN:z m.next= .dead:=by
  cases fE:z m.next with
  |dead=>rfl
  |ro rd=>have:=(aD m.next (by rw[fE];simp)).2;omega
  |own L t=>have:=(aD m.next (by rw[fE];simp)).2;omega
  |map L t=>have:=(aD m.next (by rw[fE];simp)).2;omega
  |lock _ _ _ _=>have:=(aD m.next (by rw[fE];simp)).2;omega
 have hlen:b1.cells.toList.length=T.aW:=by simp[cZ,bu]
 have gZ:(arL c b1.cells.toList).flatten.length=c*T.aW:=by simp[cZ,bu]
 refine ⟨_,_, .makeSlice t x y c c k bW T.tid i b1 h ak af gA b3 cZ U ah (ars _) ?_ (by omega), ?_,rfl⟩
 ·have:i.bytes*c<=32768*4294967296:=aun fW (by omega);omega
 ·simp only[asv];refine er.x8 ⟨m.next,(arL c b1.cells.toList).flatten,c,by simp,by simp[Mem.push],by simp[Mem.push],pN,by rw[gZ];simp, .inr ⟨by simp[bT];omega,by simp,by rw[gZ];exact ars _⟩,fun j a ar=> ?_⟩;have ap:=(arp.1 ar).1;have LN:a=x0:=by have:=(arp.1 ar).2;simpa using this.symm
  subst LN;refine ⟨_,dm,fun q u aF=> ?_⟩;have yK:=(arp.1 aF).1;rw[hlen] at yK;have key:∀(c j:Nat),j<c->((arL c b1.cells.toList).flatten)[j*T.aW+q]? =b1.cells.toList[q]? :=by
   intro c;induction c with
   |zero=>intro j ap;omega
   |succ c aU=>
    intro j ap;rw[au5,atL];cases j with
    |zero=>rw[asz,arE,arQ (by rw[hlen];exact yK)]
    |succ j=>rw[arW,asS,arP (by rw[hlen];omega),hlen,show j*T.aW+T.aW+q - T.aW=j*T.aW+q by omega];exact aU j (by omega)
  rw[key c j (by simpa using ap)];exact aF
def wP (T:cb al) (z:Nat->aV) (ae:arm->arh):List (Nat×arm)->Nat->List al->List (List arh)->Prop
 |[],_,[],[]=>True
 |(k,x)::bx,n,a::as,c::cs=>k=n/\storable (ae x)=arf/\(ae x).cells.toList=c/\T.rd z a c/\wP T z ae bx (n+1) as cs
 |_,_,_,_=>False
theorem XO:∀(new A B D:List arh),new.length=B.length->ee (A++B++D) A.length new=A++new++D
 |[],A,B,D,h=>by have:B=[]:=asJ h.symm;subst this;simp[ee]
 |v::new,A,b::B,D,h=>by
  have e:(A++(b::B)++D).set A.length v=(A++[v])++B++D:=by simp
  simp only[ee,e];have:=XO new (A++[v]) B D (by simpa using h);simp only[arJ,arU,ath,arE] at this;rw[this];simp
 |_::_,A,[],D,h=>by simp at h
theorem Wl:∀(bx:List (Nat×arm)) (n:Nat) (as:List al) (h8:List (List arh)) (A D:List arh),wP T z ae bx n as h8->A.length=n*T.aW->D.length=as.length*T.aW->
  iG (fun k=>are (k*T.aW,T.aW)) (A++D) (bx.map fun p=>(p.1,ae p.2))=are (A++h8.flatten)
 |[],n,[],[],A,D,_,_,fg=>by have:D=[]:=asJ (by simpa using fg);subst this;simp[iG]
 |(k,x)::bx,n,a::as,c::h8,A,D,h,c9,fg=>by
  obtain ⟨rfl,h1,J,aj,aJ⟩:=h;have ad:=T.len z a c aj;have bu:(ae x).cells.size=T.aW:=by rw[<-ad,<-J];simp
  simp only[arU,arW,asS] at fg;simp only[asc,iG,h1,bu,true_and,arJ];rw[if_pos (by omega),J,<-c9];have MF:A++D=A++D.take T.aW++D.drop T.aW:=by rw[as7,List.take_append_drop]
  rw[MF,XO c A (D.take T.aW) (D.drop T.aW) (by rw[ad,asq];omega)];rw[Wl bx (k+1) as h8 (A++c) (D.drop T.aW) aJ (by rw[arJ,c9,ad,arW,asS]) (by rw[asD];omega)];simp
 |[],_,_::_,_,_,_,h,_,_=>h.elim
 |[],_,[],_::_,_,_,h,_,_=>h.elim
 |_::_,_,[],_,_,_,h,_,_=>h.elim
 |_::_,_,_::_,[],_,_,h,_,_=>h.elim
theorem WS:∀(bx:List (Nat×arm)) (n:Nat) (as:List al) (h8:List (List arh)),wP T z ae bx n as h8->h8.flatten.length=as.length*T.aW/\∀(i:Nat) (a:al),as[i]? =are a->∃c,T.rd z a c/\om h8.flatten (i*T.aW) c
 |[],n,[],[],_=>⟨by simp,fun i a ar=>by simp at ar⟩
 |(k,x)::bx,n,a::as,c::h8,h=>by
  obtain ⟨rfl,h1,J,aj,aJ⟩:=h;have ad:=T.len z a c aj;obtain ⟨g1,g2⟩:=WS bx (k+1) as h8 aJ;refine ⟨by simp only[atL,arJ,g1,ad,arU,arW,asS];omega,fun i b ab=> ?_⟩;cases i with
  |zero=>simp at ab;subst ab;refine ⟨c,aj,fun q u aF=> ?_⟩;have:=(arp.1 aF).1;rw[atL,asz,arE,arQ this];exact aF
  |succ i=>obtain ⟨bg,bm,br⟩:=g2 i b (by simpa using ab);refine ⟨bg,bm,fun q u aF=> ?_⟩;rw[atL,arW,asS,arP (by omega),ad,show i*T.aW+T.aW+q - T.aW=i*T.aW+q by omega];exact br q u aF
 |[],_,_::_,_,h=>h.elim
 |[],_,[],_::_,h=>h.elim
 |_::_,_,[],_,h=>h.elim
 |_::_,_,_::_,[],h=>h.elim
theorem akv {bx:Array (Nat×arm)} {l:Nat} {as:List al} {h8:List (List arh)} (h:o.op= .buildSlice t l bx) (ak:P.underlying t=are (.slice T.tid)) (af:P.info? T.tid=are i) {b1:arh} (gA:i.zero=are b1) (b3:b1.cells.toList.all b7=arf) (cZ:b1.cells.size=i.size) (bu:i.size=T.aW)
  (ai:as.length=l) (rR:l*T.aW<=16777216) (rX:l<9223372036854775808) (ab:wP T z ae bx.toList 0 as h8) (aD:je z m):
  ∃L v,hI P ae o m.next (.own L T.tid) v/\er T z (m.push (.own L T.tid)) as v/\ck v=are m.next:=by
 have pN:z m.next= .dead:=by
  cases fE:z m.next with
  |dead=>rfl
  |ro rd=>have:=(aD m.next (by rw[fE];simp)).2;omega
  |own L t=>have:=(aD m.next (by rw[fE];simp)).2;omega
  |map L t=>have:=(aD m.next (by rw[fE];simp)).2;omega
  |lock _ _ _ _=>have:=(aD m.next (by rw[fE];simp)).2;omega
 have aK:=Wl bx.toList 0 as h8 [] (arL l b1.cells.toList).flatten ab (by simp) (by simp[cZ,bu,ai]);obtain ⟨g1,g2⟩:=WS bx.toList 0 as h8 ab;refine ⟨h8.flatten,_, .buildSlice t l bx T.tid i b1 _ h ak af gA b3 cZ (by rw[bu];exact rR) rX (by rw[bu];simpa using aK), ?_,rfl⟩;exact er.x8 ⟨m.next,h8.flatten,l,by rw[ai],by simp[Mem.push],by simp[Mem.push],pN,by rw[g1];exact ars _, .inr ⟨by simp only[bT];omega,by omega,by rw[g1,ai];exact ars _⟩,g2⟩
theorem akw {s:List UInt8} {tid:arn} (h:o.op= .convert u t x) (hu:P.underlying u=are .string) (ak:P.underlying t=are (.slice tid)) (he:P.underlying tid=are (.int .u8)) (af:P.info? tid=are i) (iS:i.size=1) (U:ae x=str s) (ai:s.length<9223372036854775807) (aD:je z m):
  ∃L v,hI P ae o m.next (.own L tid) v/\er (iN tid) z (m.push (.own L tid)) s v/\ck v=are m.next:=by
 have pN:z m.next= .dead:=by
  cases fE:z m.next with
  |dead=>rfl
  |ro rd=>have:=(aD m.next (by rw[fE];simp)).2;omega
  |own L t=>have:=(aD m.next (by rw[fE];simp)).2;omega
  |map L t=>have:=(aD m.next (by rw[fE];simp)).2;omega
  |lock _ _ _ _=>have:=(aD m.next (by rw[fE];simp)).2;omega
 refine ⟨_,_, .bytes u t x tid i ⟨s.toArray⟩ h hu ak he af iS U (by rw[wS];exact ai), ?_,rfl⟩;refine er.x8 ⟨m.next,s.map fun u=> .int .u8 u.toNat,bT,by rw[wS],by simp[Mem.push,iN,cb.flat],by simp[Mem.push],pN,by simp[iN,cb.flat], .inl rfl,fun k a ar=>⟨[.int .u8 a.toNat],rfl,fun q w aF=> ?_⟩⟩;cases q with
 |zero=>simp at aF;subst aF;simp[iN,cb.flat,ar]
 |succ q=>simp at aF
theorem aal {s:List UInt8} {tid:arn} (h:o.op= .convert t u x) (ak:P.underlying t=are (.slice tid)) (he:P.underlying tid=are (.int .u8)) (hu:P.underlying u=are .string) (U:ae x=v) (aq:Src (iN tid) z m s v) (aa:∃a l c,v= .slice a l c):dX P ae o m (str s):=by
 obtain ⟨a,l,c,rfl⟩:=aa;obtain ⟨ai,cs,kf,hv,dm⟩:=aq;have gI:cs=s.map fun u=> .int .u8 u.toNat:=by
  apply as8;intro k;by_cases hk:k<s.length
  ·obtain ⟨bg,g1,g2⟩:=dm k s[k] (by simp[hk]);have g1:bg=[.int .u8 s[k].toNat]:=g1;subst g1;have:=g2 0 _ rfl;simp only[iN,cb.flat,atP,ar3] at this;simp[this,hk]
  ·have:cs.length<=k:=by rw[hv];simp only[iN,cb.flat];omega
   simp[atG this,hk]
 subst gI;simp only[gB] at ai;subst ai;cases a with
 |none=>
  simp only[cg,arw.injEq] at kf;have:s=[]:=by simpa using kf.symm
  subst this;exact .xB t u x tid _ c h ak he hu U
 |some a=>
  obtain ⟨b,off,spot⟩:=a;cases spot with
  |some q=>simp[cg] at kf
  |none=>simp only[cg,iN,cb.flat,atP] at kf;exact .str t u x tid b off _ c s h ak he hu U kf
end
def looks:Op->Bool
 | .load .. | .convert .. | .slice .. | .lookup .. =>arf
 |_=>arj
def nK:Op->Bool
 | .alloc _| .box .. | .buildSlice .. | .makeSlice .. | .convert .. | .makeMap .. =>arf
 |_=>arj
def calm (ops:Array Oper):Bool:=
 (ar2 ops.size).all fun e=>match ops[e]? with
  |none=>arf
  |some wq=> !iH wq.op||(ar2 ops.size).all fun r=>match ops[r]? with
   |none=>arf
   |some or=>(!(looks or.op)||(if r<e then eM (asa ops) e r else if e<r then eM (asa ops) r e else arf))&&(!(nK or.op)||(if r<e then eM (asa ops) e r else arf))
theorem Gh {P:arl} {ae:arm->arh} {o:Oper} {m:Mem} {v:arh} (h:dX P ae o m v):looks o.op=arf:=by
 cases h<;>simp[*,looks]
theorem Cr {P:arl} {ae:arm->arh} {o:Oper} {n:Nat} {X:aV} {v:arh} (h:hI P ae o n X v):nK o.op=arf:=by
 cases h<;>simp[*,nK]
theorem WT {ops:Array Oper} (h:calm ops=arf) {e r:Nat} {wq or:Oper} (he:ops[e]? =are wq) (ao:ops[r]? =are or) (aP:iH wq.op=arf) (ai:looks or.op=arf):(r<e->eM (asa ops) e r=arf)/\(e<r->eM (asa ops) r e=arf):=by
 simp only[calm,arz,asF] at h;have h1:=h e (ar6.1 he).1;simp only[he,aP,atc,asH,arz,asF] at h1;have J:=h1 r (ar6.1 ao).1;simp only[ao,ai,atc,asH,arq] at J;refine ⟨fun aO=> ?_,fun aO=> ?_⟩
 ·have:=J.1;rw[if_pos aO] at this;exact this
 ·have:=J.1;rw[if_neg (by omega),if_pos aO] at this;exact this
theorem agI {ops:Array Oper} (h:calm ops=arf) {e r:Nat} {wq or:Oper} (he:ops[e]? =are wq) (ao:ops[r]? =are or) (aP:iH wq.op=arf) (ai:nK or.op=arf) (aO:r<e):eM (asa ops) e r=arf:=by
 simp only[calm,arz,asF] at h;have h1:=h e (ar6.1 he).1;simp only[he,aP,atc,asH,arz,asF] at h1;have J:=h1 r (ar6.1 ao).1;simp only[ao,ai,atc,asH,arq] at J;have:=J.2;rw[if_pos aO] at this;exact this
theorem V4 {P:arl} {C:FuncId->Array arh->Mem->arh->Mem->Prop} {ops:Array Oper} (ad:calm ops=arf):∀(l pre:List Oper) (A:Acc) (fr fr':Nat->arh) (m m':Mem),ops.toList=pre++l->
  (∀x∈A.reads,∃o,ops[x.1]? =are o/\looks o.op=arf/\x.1<pre.length)->(∀x∈A.e6,∃o,ops[x.1]? =are o/\iH o.op=arf/\x.1<pre.length)->(∀x∈A.news,∃o,ops[x.1]? =are o/\nK o.op=arf/\x.1<pre.length)->
  iZ P C ops.toList l fr m fr' m'->fZ P C ops.toList (asa ops) pre.length l A fr m fr' m'
 |[],pre,A,fr,fr',m,m',an,h1,J,aj,h=>h
 |o::l,pre,A,fr,fr',m,m',an,h1,J,aj,h=>by
  have ag:ops[pre.length]? =are o:=by rw[<-atx,an];simp
  have qL:ops.toList=(pre++[o])++l:=by rw[an];simp
  have hlen:(pre++[o]).length=pre.length+1:=by simp
  have up:∀{bs:Type} {p:Oper->Bool} {L:List (Nat×bs)},(∀x∈L,∃o,ops[x.1]? =are o/\p o=arf/\x.1<pre.length)->∀x∈L,∃o,ops[x.1]? =are o/\p o=arf/\x.1<pre.length+1:=fun ax x U=>by obtain ⟨q,a,b,c⟩:=ax x U;exact ⟨q,a,b,by omega⟩
  have zY:=fun (A:Acc) (fr:Nat->arh) (m:Mem)=>V4 (P:=P) (C:=C) ad l (pre++[o]) A fr fr' m m' qL;rw[hlen] at zY;simp only[iZ] at h;simp only[fZ];split at h
  ·rename_i hw;rw[if_pos hw];obtain ⟨v,m1,aq,ao⟩:=h;cases aq with
   |pure aF=>exact .inl ⟨v,aF,zY A _ _ (up (p:=fun o=>looks o.op) h1) (up (p:=fun o=>iH o.op) J) (up (p:=fun o=>nK o.op) aj) ao⟩
   |read aF=>
    have l3:=Gh aF;refine .inr (.inl ⟨v,aF,fun x U ar=> ?_,zY _ _ _ ?_ (up (p:=fun o=>iH o.op) J) (up (p:=fun o=>nK o.op) aj) ao⟩)
    ·obtain ⟨q,g1,g2,g3⟩:=J x U;have:=(WT ad g1 ag g2 l3).2 g3;rw[ar] at this;cases this
    ·intro x U;rcases arA.1 U with rfl|U
     ·exact ⟨o,ag,l3,ash _⟩
     ·exact up (p:=fun o=>looks o.op) h1 x U
   |new aF=>
    refine .inr (.inr (.inl ⟨_,v,aF,zY _ _ _ (up (p:=fun o=>looks o.op) h1) (up (p:=fun o=>iH o.op) J) ?_ ao⟩));intro x U;rcases arA.1 U with rfl|U
    ·exact ⟨o,ag,Cr aF,ash _⟩
    ·exact up (p:=fun o=>nK o.op) aj x U
   |ev aF=>
    have nm:=N0 aF;refine .inr (.inr (.inr ⟨v,m1,aF,fun x U ar=> ?_,fun x U ar=> ?_,zY _ _ _ (up (p:=fun o=>looks o.op) h1) ?_ (up (p:=fun o=>nK o.op) aj) ao⟩))
    ·obtain ⟨q,g1,g2,g3⟩:=h1 x U;have:=(WT ad ag g1 nm g2).1 g3;rw[ar] at this;cases this
    ·obtain ⟨q,g1,g2,g3⟩:=aj x U;have:=agI ad ag g1 nm g2 g3;rw[ar] at this;cases this
    ·intro x U;rcases arA.1 U with rfl|U
     ·exact ⟨o,ag,nm,ash _⟩
     ·exact up (p:=fun o=>iH o.op) J x U
  ·rename_i hw;rw[if_neg hw];exact zY A _ _ (up (p:=fun o=>looks o.op) h1) (up (p:=fun o=>iH o.op) J) (up (p:=fun o=>nK o.op) aj) h
theorem W.calm {P:arl} {id:Nat} {ops:Array Oper} {Q:dF->(Nat->arh)->Mem->Prop} {fr:Nat->arh} {m:Mem} (ad:aQ.calm ops=arf) (h:fc P ops.toList ops.toList (Q .normal) fr m):W P (.region id ops arf) Q fr m:=by
 obtain ⟨n,fr',m',h1,J⟩:=h;refine W.draw ⟨n,fr',m', ?_,J⟩;have:=V4 (P:=P) (C:=hR P n) ad ops.toList [] ⟨[],[],[]⟩ fr fr' m m' (by simp) (by simp) (by simp) (by simp) h1;simpa using this
end Go.aQ
end
section
namespace Go.aQ
def sub:Code->List Nat->Code
 |c,[]=>c
 | .seq a b,0::p=>sub a p
 | .seq a b,_::p=>sub b p
 | .cond _ a b,0::p=>sub a p
 | .cond _ a b,_::p=>sub b p
 | .block _ c,_::p=>sub c p
 | .scope c,_::p=>sub c p
 | .loop c,_::p=>sub c p
 |c,_=>c
def bF (f:Func):Code:=f.body.getD .skip
theorem Ho {fr:Nat->arh} {d:Option Tmp} {v:arh} {i:Nat} (h:d≠are i):set fr d v i=fr i:=by
 cases d with
 |none=>rfl
 |some t=>simp only[set];rw[if_neg];rintro rfl;exact h rfl
theorem Gm {P:arl} {C:FuncId->Array arh->Mem->arh->Mem->Prop} {ops:List Oper} {i:Nat}:∀(l:List Oper) (fr fr':Nat->arh) (m m':Mem),(∀o∈l,o.dst≠are i)->iZ P C ops l fr m fr' m'->fr' i=fr i
 |[],fr,fr',m,m',_,h=>by rw[h.1]
 |o::l,fr,fr',m,m',hw,h=>by
  have iU:∀o∈l,o.dst≠are i:=fun o ag=>hw o (by simp[ag]);simp only[iZ] at h;split at h
  ·obtain ⟨v,m1,_,h⟩:=h;rw[Gm l _ _ _ _ iU h];exact Ho (hw o (by simp))
  ·rw[Gm l _ _ _ _ iU h];exact Ho (hw o (by simp))
theorem NL {P:arl} {C:FuncId->Array arh->Mem->arh->Mem->Prop} {ops:List Oper} {B:Array Nat} {i:Nat}:∀(l:List Oper) (n:Nat) (A:Acc) (fr fr':Nat->arh) (m m':Mem),(∀o∈l,o.dst≠are i)->fZ P C ops B n l A fr m fr' m'->fr' i=fr i
 |[],n,A,fr,fr',m,m',_,h=>by rw[h.1]
 |o::l,n,A,fr,fr',m,m',hw,h=>by
  have iU:∀o∈l,o.dst≠are i:=fun o ag=>hw o (by simp[ag]);have h1:=hw o (by simp);simp only[fZ] at h;split at h
  ·rcases h with ⟨v,_,h⟩|⟨v,_,_,h⟩|⟨X,v,_,h⟩|⟨v,m1,_,_,_,h⟩<;>(rw[NL l _ _ _ _ _ _ iU h];exact Ho h1)
  ·rw[NL l _ _ _ _ _ _ iU h];exact Ho h1
theorem OQ {ops:Array Oper} {i:Nat} (h:(tx ops).contains i=arj):∀o∈ops.toList,o.dst≠are i:=by
 intro o ag he;have:i∈tx ops:=List.mem_filterMap.2 ⟨o,ag,he⟩;simp[this] at h
theorem V6 {a b:List Nat} {i:Nat} (h:(a++b).contains i=arj):a.contains i=arj/\b.contains i=arj:=by
 simpa using h
theorem NK {P:arl} {C:FuncId->Array arh->Mem->arh->Mem->Prop} {i:Nat}:∀(n:Nat) (c:Code) (fr fr':Nat->arh) (m m':Mem) (e:dF),(jK c).contains i=arj->j4 P C n c fr m e fr' m'->fr' i=fr i:=by
 intro n;induction n with
 |zero=>intro c fr fr' m m' e _ h;exact h.elim
 |succ n aU=>
  intro c fr fr' m m' e hw h;cases c with
  |skip=>rw[h.2.1]
  |label l=>rw[h.2.1]
  |exit id=>rw[h.2.1]
  |ret=>rw[h.2.1]
  |region id ops d=>
   cases d with
   |false=>exact Gm _ _ _ _ _ (OQ hw) h.2
   |true=>exact NL _ _ _ _ _ _ _ (OQ hw) h.2
  |seq a b=>
   rcases h with ⟨aT,cd,m1,g1,g2⟩|h
   rotate_left
   ·exact h.2.keep _ hw
   obtain ⟨h1,J⟩:=V6 hw;have bm:=aU _ _ _ _ _ _ h1 g1;split at g2
   ·rw[aU _ _ _ _ _ _ J g2,bm]
   ·rw[g2.2.1,bm]
  |cond c a b=>
   obtain ⟨h1,J⟩:=V6 hw;obtain ⟨t,_,g⟩:=h;cases t with
   |false=>exact aU _ _ _ _ _ _ J g
   |true=>exact aU _ _ _ _ _ _ h1 g
  |block id c=>obtain ⟨aT,g,_⟩:=h;exact aU c _ _ _ _ _ hw g
  |scope c=>exact aU c _ _ _ _ _ hw h
  |loop c=>
   obtain ⟨aT,cd,m1,g1,g2⟩:=h;have bm:=aU c _ _ _ _ _ hw g1;split at g2
   ·rw[aU (.loop c) _ _ _ _ _ hw g2,bm]
   ·rw[g2.2.1,bm]
  |rangeFunc f bx x y=>exact h.elim
  |goto l=>exact h.elim
  |refuse s=>exact h.elim
section
variable {P:arl} {Q AI:dF->(Nat->arh)->Mem->Prop} {fr:Nat->arh} {m:Mem}
theorem W.keep {c:Code} (h:W P c Q fr m) (aF:∀e fr' m',(∀i,(jK c).contains i=arj->fr' i=fr i)->Q e fr' m'->AI e fr' m'):W P c AI fr m:=
 let ⟨n,e,fr',m',h1,J⟩:=h
 ⟨n,e,fr',m',h1,aF _ _ _ (fun _ af=>NK _ _ _ _ _ _ _ af h1) J⟩
theorem W.ab5 {c:arm} {a b:Code} {t:Bool} (ak:aL fr c= .bool t) (he:t=arf) (h:W P a Q fr m):W P (.cond c a b) Q fr m:=W.cond (t:=arf) (by rw[ak,he]) h
theorem W.ab4 {c:arm} {a b:Code} {t:Bool} (ak:aL fr c= .bool t) (he:t=arj) (h:W P b Q fr m):W P (.cond c a b) Q fr m:=W.cond (t:=arj) (by rw[ak,he]) h
theorem oP.hit {i:Nat} (h:Q .normal fr m):oP i Q (.exit i) fr m:=by simp only[oP,if_true];exact h
theorem oP.nz {i j:Nat} (cQ:(j==i)=arj) (h:Q (.exit j) fr m):oP i Q (.exit j) fr m:=by
 have:j≠i:=by intro h;simp[h] at cQ
 simp only[oP,if_neg this];exact h
theorem fc.mono {ops l:List Oper} {K kM:(Nat->arh)->Mem->Prop} (h:fc P ops l K fr m) (hk:∀fr m,K fr m->kM fr m):fc P ops l kM fr m:=
 let ⟨n,fr',m',h1,J⟩:=h;⟨n,fr',m',h1,hk _ _ J⟩
end
structure cz (n:Nat) (z z':Nat->aV):Prop where
 le:eb z z'
 low:∀b,b<n->z' b=z b
theorem cz.refl {n:Nat} (z:Nat->aV):cz n z z:=⟨eb.refl z,fun _ _=>rfl⟩
theorem cz.trans {n:Nat} {a b c:Nat->aV} (h:cz n a b) (k:cz n b c):cz n a c:=⟨h.le.trans k.le,fun i af=>by rw[k.low i af,h.low i af]⟩
theorem cz.Eu {n n':Nat} {a b:Nat->aV} (h:cz n a b) (av:n'<=n):cz n' a b:=⟨h.le,fun i af=>h.low i (by omega)⟩
structure h6 (z:Nat->aV) (e m:Mem) (k:Option Nat) (b:Nat) (cs:List arh) (t:arn):Prop where
 ay:m.ay b= .own cs t
 lt:b<m.next
 dead:z b= .dead
 fresh:e.next<=b\/k=are b
structure cO {al:Type} (T:cb al) (z:Nat->aV) (e m:Mem) (k:Option Nat) (xs:List al) (v:arh):Prop where
 a7:er T z m xs v
 fresh:∀b,ck v=are b->e.next<=b
section
variable {al:Type} {T:cb al} {z z':Nat->aV} {e m m':Mem} {k q:Option Nat} {xs:List al} {v:arh} {b:Nat} {cs:List arh} {t:arn}
theorem cO.same (h:cO T z e m k xs v) (s:eX m m' q) (eu:dV (ck v) q):cO T z e m' k xs v:=⟨h.a7.same s eu,h.fresh⟩
theorem h6.same (h:h6 z e m k b cs t) (s:eX m m' q) (eu:dV (are b) q):h6 z e m' k b cs t:=by
 have:=ahS h.ay h.lt s (eu b rfl);exact ⟨this.1,this.2,h.dead,h.fresh⟩
theorem cO.lt (h:cO T z e m k xs v):∀b,ck v=are b->b<m.next:=fun b ab=>(h.a7.lt b ab).1
theorem cO.Vl (h:cO T z e m k xs v):∀b,ck v=are b->b<m.next/\(m.ay b).mem=m.ay b:=fun b ab=>⟨h.lt b ab,by
 rcases h.a7 with ⟨rfl,_⟩|⟨bV,o,L,c,rfl,h1,_⟩
 ·cases ab
 ·cases ab;rw[h1];rfl⟩
theorem er.h5 (h:er T z m xs v) (aD:eb z z') (ab:∀b,ck v=are b->z' b=z b):er T z' m xs v:=by
 rcases h with h|⟨b,f0,L,c,rfl,h1,J,aj,aJ,bk,dn⟩
 ·exact .inl h
 ·refine .inr ⟨b,f0,L,c,rfl,h1,J,by rw[ab b rfl];exact aj,aJ,bk,fun i x af=> ?_⟩;obtain ⟨cs,g1,g2⟩:=dn i x af;exact ⟨cs,T.mono _ _ aD _ _ g1,g2⟩
theorem cO.h5 (h:cO T z e m k xs v) (aD:eb z z') (ab:∀b,ck v=are b->z' b=z b):cO T z' e m k xs v:=⟨h.a7.h5 aD ab,h.fresh⟩
theorem h6.h5 (h:h6 z e m k b cs t) (ab:∀c,are b=are c->z' c=z c):h6 z' e m k b cs t:=⟨h.ay,h.lt,by rw[ab b rfl];exact h.dead,h.fresh⟩
theorem cO.freeze (h:cO T z e m k xs v) (aR:cu z e m k):∃z',cz e.next z z'/\cu z' e m k/\dW T z' xs v/\∀p,dV p (ck v)->∀b,p=are b->z' b=z b:=by
 refine ⟨ib z m (ck v),⟨CX fun b ab=>(h.a7.lt b ab).2,fun b ab=> ?_⟩,⟨Hq aR.a6 h.Vl,aR.dead,aR.lX,aR.next,aR.kept⟩,h.a7.aoC,fun p an b ab=> ?_⟩
 ·unfold ib;rw[if_neg];intro ch;have:=h.fresh b ch;omega
 ·unfold ib;rw[if_neg (an b ab)]
theorem h6.aF (h:h6 z e m k b cs t):∀c,are b=are c->z c= .dead/\(e.next<=c\/k=are c):=fun c ad=>by cases ad;exact ⟨h.dead,h.fresh⟩
theorem cO.aF (h:cO T z e m k xs v):∀c,ck v=are c->z c= .dead/\(e.next<=c\/k=are c):=fun c ad=>⟨(h.a7.lt c ad).2, .inl (h.fresh c ad)⟩
theorem cO.nil:cO T z e m k [] (.slice ari 0 0):=⟨.nil,fun b ab=>by cases ab⟩
variable {P:arl} {C:FuncId->Array arh->Mem->arh->Mem->Prop} {ae:arm->arh} {o:Oper} {w:arh} {a8:List al} {x y:arm} {u:arn} {i:TypeInfo}
theorem ajR (h:o.op= .call {callee:= .builtin .append,args:=#[x,y],argTypes:=#[t,u]}) (ak:P.underlying t=are (.slice T.tid)) (af:P.info? T.tid=are i) {b1:arh} (gA:i.zero=are b1) (b3:b1.cells.toList.all b7=arf) (cZ:b1.cells.size=i.size)
  (bu:i.size=T.aW) (dt:0<T.aW) (fW:i.bytes<=32768) (hu:(∃bp,P.underlying u=are (.slice bp))\/P.underlying u=are .string) (U:ae x=v) (aq:cO T z e m k xs v) (ah:ae y=w) (lz:Src T z m a8 w)
  (aR:cu z e m k) {r:List al} (ao:eh xs a8=are r):
  ∃bl m',fM P C ae o m bl m'/\cu z e m' k/\cO T z e m' k r bl/\eX m m' (ck v)/\∀p,(∀b,p=are b->b<m.next)->dV p (ck v)->dV p (ck bl):=by
 obtain ⟨bl,m',h1,J,aj,aJ⟩:=ajH (C:=C) h ak af gA b3 cZ bu dt fW hu U aq.a7 ah lz aR.a6 aR.dead ao;refine ⟨bl,m',h1,aR.same aj aq.aF,⟨J,fun b ab=> ?_⟩,aj,fun p an ar b ab ch=> ?_⟩
 ·rcases aJ b ab with aJ|aJ
  ·exact aq.fresh b aJ
  ·have:=aR.next;omega
 ·rcases aJ b ch with aJ|aJ
  ·exact ar b ab aJ
  ·have:=an b ab;omega
theorem A2 {L:List arh} {bl:arh} {a8:List al} (aR:cu z e m k) (h:er T z (m.push (.own L t)) a8 bl) (ab:ck bl=are m.next):
  cu z e (m.push (.own L t)) k/\cO T z e (m.push (.own L t)) k a8 bl/\eX m (m.push (.own L t)) ari/\∀p,(∀b,p=are b->b<m.next)->dV p (ck bl):=
 ⟨aR.push _,⟨h,fun b ch=>by rw[ab] at ch;cases ch;exact aR.next⟩,Ce aR.dead,fun p an b ch ky=>by rw[ab] at ky;cases ky;have:=an _ ch;omega⟩
theorem anR {x0:al} {bm br:aro} {n:Int} (h:o.op= .makeSlice t x y) (ak:P.underlying t=are (.slice T.tid)) (af:P.info? T.tid=are i) {b1:arh} (gA:i.zero=are b1) (b3:b1.cells.toList.all b7=arf) (cZ:b1.cells.size=i.size) (bu:i.size=T.aW) (fW:i.bytes<=32768)
  (dm:T.rd z x0 b1.cells.toList) (U:ae x= .int bm n) (ah:ae y= .int br n) (aR:cu z e m k) {r:List al} (ao:k2 x0 n=are r):
  ∃bl m' L cS,hI P ae o m.next (.own L cS) bl/\m'=m.push (.own L cS)/\cu z e m' k/\cO T z e m' k r bl/\eX m m' ari/\∀p,(∀b,p=are b->b<m.next)->dV p (ck bl):=by
 obtain ⟨L,bl,h1,J,aj⟩:=an1 (n':=n) h ak af gA b3 cZ bu fW dm U ah aR.a6 ao;exact ⟨bl,_,_,_,h1,rfl,A2 aR J aj⟩
theorem akA {bx:Array (Nat×arm)} {l:Nat} {as:List al} {h8:List (List arh)} (h:o.op= .buildSlice t l bx) (ak:P.underlying t=are (.slice T.tid)) (af:P.info? T.tid=are i) {b1:arh} (gA:i.zero=are b1) (b3:b1.cells.toList.all b7=arf) (cZ:b1.cells.size=i.size) (bu:i.size=T.aW)
  (ai:as.length=l) (rR:l*T.aW<=16777216) (rX:l<9223372036854775808) (ab:wP T z ae bx.toList 0 as h8) (aR:cu z e m k):
  ∃bl m' L cS,hI P ae o m.next (.own L cS) bl/\m'=m.push (.own L cS)/\cu z e m' k/\cO T z e m' k as bl/\eX m m' ari/\∀p,(∀b,p=are b->b<m.next)->dV p (ck bl):=by
 obtain ⟨L,bl,h1,J,aj⟩:=akv h ak af gA b3 cZ bu ai rR rX ab aR.a6;exact ⟨bl,_,_,_,h1,rfl,A2 aR J aj⟩
theorem akB {s:List UInt8} {tid:arn} (h:o.op= .convert u t x) (hu:P.underlying u=are .string) (ak:P.underlying t=are (.slice tid)) (he:P.underlying tid=are (.int .u8)) (af:P.info? tid=are i) (iS:i.size=1) (U:ae x=str s) (ai:s.length<9223372036854775807) (aR:cu z e m k):
  ∃bl m' L cS,hI P ae o m.next (.own L cS) bl/\m'=m.push (.own L cS)/\cu z e m' k/\cO (iN tid) z e m' k s bl/\eX m m' ari/\∀p,(∀b,p=are b->b<m.next)->dV p (ck bl):=by
 obtain ⟨L,bl,h1,J,aj⟩:=akw h hu ak he af iS U ai aR.a6;exact ⟨bl,_,_,_,h1,rfl,A2 aR J aj⟩
theorem Po {L:List arh} (aR:cu z e m k):cu z e (m.push (.own L t)) k/\h6 z e (m.push (.own L t)) k m.next L t/\eX m (m.push (.own L t)) ari/\∀p,(∀b,p=are b->b<m.next)->dV p (are m.next):=by
 refine ⟨aR.push _,⟨by simp[Mem.push],ash _, ?_, .inl aR.next⟩,Ce aR.dead,fun p an b ch ky=>by cases ky;have:=an _ ch;omega⟩;cases fE:z m.next with
 |dead=>rfl
 |ro rd=>have:=(aR.a6 m.next (by rw[fE];simp)).2;omega
 |own L t=>have:=(aR.a6 m.next (by rw[fE];simp)).2;omega
 |map L t=>have:=(aR.a6 m.next (by rw[fE];simp)).2;omega
 |lock _ _ _ _=>have:=(aR.a6 m.next (by rw[fE];simp)).2;omega
theorem acn {off:Nat} {new cs':List arh} {fJ:arn} (h:o.op= .store t x y) (af:P.info? t=are i) (U:ae x= .pointer (are ⟨b,off,ari⟩)) (ah:ae y=w) (aa:storable w=arf) (av:w.cells.toList=new) (aq:new.length=i.size) (ab:h6 z e m k b cs fJ) (ai:off+new.length<=cs.length) (gI:ee cs off new=cs') (aR:cu z e m k):
  ∃m',fM P C ae o m undef m'/\cu z e m' k/\h6 z e m' k b cs' fJ/\eX m m' (are b):=by
 subst ah gI;have kh:=Cy (x:= .own (ee cs off new) fJ) aR.dead ab.lt;exact ⟨_,(Zu h af U ab.ay aa av aq ai),aR.same kh ab.aF,⟨by simp[Mem.put],ab.lt,ab.dead,ab.fresh⟩,kh⟩
theorem aco {off f0 n f l c:Nat} {new rN AX:List arh} {a a':al} (h:o.op= .store t x y) (af:P.info? t=are i) (U:ae x= .pointer (are ⟨b,off,ari⟩)) (n9:off=f0+n*T.aW+f) (ah:ae y=w) (aa:storable w=arf) (av:w.cells.toList=new) (aq:new.length=i.size)
  (ag:cO T z e m k xs v) (pR:v= .slice (are ⟨b,f0,ari⟩) l c) (ar:xs[n]? =are a) (ao:T.rd z a rN) (ad:∀(i:Nat) (u:arh),rN[i]? =are u->m.load b (f0+n*T.aW+i)=are u) (nv:T.rd z a' AX) (gI:AX=ee rN f new) (aK:f+new.length<=rN.length) (aR:cu z e m k):
  ∃m',fM P C ae o m undef m'/\cu z e m' k/\cO T z e m' k (xs.set n a') v/\eX m m' (ck v):=by
 subst ah n9;obtain ⟨L,g1,g2,g3,g4⟩:=ag.a7.store aR.dead pR ar ao ⟨b,_,rfl,ad⟩ nv gI aK;have hN:ck v=are b:=by rw[pR];rfl
 refine ⟨_,(Zu h af U g1 aa av aq g2),aR.same g4 (by rw[<-hN];exact ag.aF),⟨g3,ag.fresh⟩,by rw[hN];exact g4⟩
theorem anQ {bm:aro} {n:Int} {a:al} {fJ:arn} (h:o.op= .indexAddr t x y) (ak:P.underlying t=are (.slice fJ)) (af:P.info? fJ=are i) (bu:i.size=T.aW) (U:ae x=v) (ah:ae y= .int bm n) (aq:dW T z xs v) (aM:bc xs n=are a):
  ∃b off cs,cm P ae o (.pointer (are ⟨b,off,ari⟩))/\T.rd z a cs/\nE z b off cs:=by
 obtain ⟨p,cs,h1,J,b,off,rfl,aj⟩:=an5 h ak af bu U ah aq aM;exact ⟨b,off,cs,h1,J,aj⟩
theorem anP {bm:aro} {n:Int} {a:al} {fJ:arn} (h:o.op= .indexAddr t x y) (ak:P.underlying t=are (.slice fJ)) (af:P.info? fJ=are i) (bu:i.size=T.aW) (U:ae x=v) (ah:ae y= .int bm n) (aq:cO T z e m k xs v) (aM:bc xs n=are a):
  ∃b f0 l c cs,cm P ae o (.pointer (are ⟨b,f0+n.toNat*T.aW,ari⟩))/\v= .slice (are ⟨b,f0,ari⟩) l c/\T.rd z a cs/\∀(j:Nat) (u:arh),cs[j]? =are u->m.load b (f0+n.toNat*T.aW+j)=are u:=by
 obtain ⟨p,cs,h1,J,aj,b,f0,l,c,rfl,rfl⟩:=an4 h ak af bu U ah aq.a7 aM;obtain ⟨hg,eV,aJ,bk⟩:=aj;cases aJ;exact ⟨b,f0,l,c,cs,h1,rfl,J,bk⟩
theorem Pp {n:Nat} {aY:Array Field} {f:Field} {off:Nat} (h:o.op= .fieldAddr t x n) (ak:P.underlying t=are (.struct aY)) (aK:aY[n]? =are f) (af:P.info? f.type=are i) (aq:(i.size==0)=arj) (U:ae x= .pointer (are ⟨b,off,ari⟩)):
  cm P ae o (.pointer (are ⟨b,off+f.offset,ari⟩)):= .fieldAddr t x n aY f i b off h ak aK af (by intro az;rw[az] at aq;cases aq) U
theorem ZL {off:Nat} {d:TypeDesc} (h:o.op= .load t x) (ak:P.underlying t=are d) (aw:jz d=arj) (U:ae x= .pointer (are ⟨b,off,ari⟩)) (aa:m.load b off=are v):dX P ae o m v:= .load t x b off d v h U ak aw aa
theorem akC {off:Nat} {d:TypeDesc} (h:o.op= .load t x) (ak:P.underlying t=are d) (aw:jz d=arf) (af:P.info? t=are i) (aq:cs.length=i.size) (U:ae x= .pointer (are ⟨b,off,ari⟩)) (aa:∀(j:Nat) (u:arh),cs[j]? =are u->m.load b (off+j)=are u):dX P ae o m (.agg cs.toArray):=
 .ud t x b off d i cs h U ak aw af (Hl _ _ _ aq aa)
theorem h6.load (h:h6 z e m k b cs t) {off:Nat} (aa:cs[off]? =are v):m.load b off=are v:=by simp only[Mem.load,h.ay];exact aa
theorem h6.se (h:h6 z e m k b cs t):∀(j:Nat) (u:arh),cs[j]? =are u->m.load b (0+j)=are u:=fun j u ap=>by rw[arE];exact h.load ap
theorem cu.se (aR:cu z e m k) {off:Nat} (h:nE z b off cs):∀(j:Nat) (u:arh),cs[j]? =are u->m.load b (off+j)=are u:=fun j u ap=>Ot aR.a6 (h j u ap)
end
theorem Xw {args:Array arh} {n i:Nat} {v:arh} (h:args.toList[i]? =are v):(args++Array.replicate n undef).getD i undef=v:=by
 have h1:args[i]? =are v:=by rw[<-atx];exact h
 have aO:=(ar6.1 h1).1;rw[Array.getD_eq_getD_getElem?,Array.getElem?_append_left aO,h1];rfl
theorem ah7 {n:Nat} {v:arh} (h:flat v=arf):low n v:=CE h
theorem fR.flat {P:arl} {f:FuncId} {fn:Func} {c:Code} {args:Array arh} {z:Nat->aV} {m:Mem} {r:arh} (aK:P.funcs[f]? =are fn) (ab:p8 P fn c) (cy:kG P f=arf) (bu:args.size<=fn.ntmps) (ao:aQ.flat r=arf)
  (h:∀fr,(∀i v,args.toList[i]? =are v->fr i=v)->W P c (fun e fr m1=>(e= .normal\/e= .ret)/\∃z',cu z' m m1 ari/\∃vs,ov P fr m1 fn.results.toList vs/\(vs.length=1\/∀x∈vs,storable x=arf)/\pack vs=r) fr m):fR P f args m fun v m'=>v=r/\m'=m:=by
 refine fR.enter aK ab cy bu ((h _ fun i v af=>Xw af).mono ?_);rintro e fr m1 ⟨he,z',aR,vs,h1,J,aj⟩;refine ⟨he,vs,h1,J, .inr ⟨⟨aj,aR.aoF⟩,by rw[aj];exact ah7 ao,fun b ab=> .inl (aR.kept b ab (by simp))⟩⟩
theorem fR.any {P:arl} {f:FuncId} {fn:Func} {c:Code} {args:Array arh} {m:Mem} {R:arh->Mem->Prop} (aK:P.funcs[f]? =are fn) (ab:p8 P fn c) (cy:kG P f=arf) (bu:args.size<=fn.ntmps)
  (h:∀fr,(∀i v,args.toList[i]? =are v->fr i=v)->W P c (fun e fr m1=>(e= .normal\/e= .ret)/\∃vs,ov P fr m1 fn.results.toList vs/\(vs.length=1\/∀x∈vs,storable x=arf)/\R (pack vs) m1) fr m):fR P f args m R:=by
 refine fR.enter aK ab cy bu ((h _ fun i v af=>Xw af).mono ?_);rintro e fr m1 ⟨he,vs,h1,J,aj⟩;exact ⟨he,vs,h1,J, .inl aj⟩
end Go.aQ
end
section
namespace Go.aQ
inductive Tag where
 |pure
 |read (I:Mem->Prop)
 |new
 |ev
def bO (P:arl) (ae:arm->arh) (o:Oper) (m:Mem) (D:Tag->arh->Mem->Prop):Prop:=
 (∃v,cm P ae o v/\D .pure v m)\/(∃v I,cm P ae o v/\D (.read I) v m)\/(∃v,dX P ae o m v/\D (.read fun m=>dX P ae o m v) v m)\/
 (∃X v,hI P ae o m.next X v/\D .new v (m.push X))\/(∃n v m',fM P (hR P n) ae o m v m'/\D .ev v m')
section
variable {P:arl} {ae:arm->arh} {o:Oper} {m:Mem} {D:Tag->arh->Mem->Prop} {K:arh->Mem->Prop}
theorem bO.pure {v:arh} (h:cm P ae o v) (hk:D .pure v m):bO P ae o m D:= .inl ⟨v,h,hk⟩
theorem bO.VU {v:arh} {I:Mem->Prop} (h:cm P ae o v) (hk:D (.read I) v m):bO P ae o m D:= .inr (.inl ⟨v,I,h,hk⟩)
theorem bO.read {v:arh} (h:dX P ae o m v) (hk:D (.read fun m=>dX P ae o m v) v m):bO P ae o m D:= .inr (.inr (.inl ⟨v,h,hk⟩))
theorem bO.new {v:arh} {X:aV} (h:hI P ae o m.next X v) (hk:D .new v (m.push X)):bO P ae o m D:= .inr (.inr (.inr (.inl ⟨X,v,h,hk⟩)))
theorem bO.ev {n:Nat} {v:arh} {m':Mem} (h:fM P (hR P n) ae o m v m') (hk:D .ev v m'):bO P ae o m D:= .inr (.inr (.inr (.inr ⟨n,v,m',h,hk⟩)))
theorem bO.w (h:bO P ae o m fun _=>K):mv P ae o m K:=by
 rcases h with ⟨v,h,hk⟩|⟨v,I,h,hk⟩|⟨v,h,hk⟩|⟨X,v,h,hk⟩|⟨n,v,m',h,hk⟩
 ·exact mv.pure h hk
 ·exact mv.pure h hk
 ·exact mv.read h hk
 ·exact mv.new h hk
 ·exact mv.ev h hk
theorem bO.call {f:FuncId} {args:Array arh} (ad:callee o ae f args) (h:fR P f args m (D .ev)):bO P ae o m D:=by
 obtain ⟨n,v,m',h1,J⟩:=h;exact .ev (.call f args v m' ad h1) J
end
theorem zm {P:arl} {C:FuncId->Array arh->Mem->arh->Mem->Prop} {ops:List Oper} {B:Array Nat}:∀(l:List Oper) (i:Nat) (A hb:Acc) (fr fr':Nat->arh) (m m':Mem),(∀x∈hb.reads,x∈A.reads)->(∀x∈hb.e6,x∈A.e6)->(∀x∈hb.news,x∈A.news)->fZ P C ops B i l A fr m fr' m'->fZ P C ops B i l hb fr m fr' m'
 |[],i,A,hb,fr,fr',m,m',_,_,_,h=>h
 |o::l,i,A,hb,fr,fr',m,m',h1,J,aj,h=>by
  simp only[fZ] at h⊢;split at h
  ·rename_i hw;rw[if_pos hw];rcases h with ⟨v,an,aw⟩|⟨v,an,ag,aw⟩|⟨X,v,an,aw⟩|⟨v,m1,an,g1,g2,aw⟩
   ·exact .inl ⟨v,an,zm l _ _ _ _ _ _ _ h1 J aj aw⟩
   ·refine .inr (.inl ⟨v,an,fun x U=>ag x (J x U),zm l _ {A with reads:=_::A.reads} _ _ _ _ _ (fun x U=> ?_) J aj aw⟩);rcases arA.1 U with rfl|U
    ·exact arS
    ·exact arK _ (h1 x U)
   ·refine .inr (.inr (.inl ⟨X,v,an,zm l _ {A with news:=_::A.news} _ _ _ _ _ h1 J (fun x U=> ?_) aw⟩));rcases arA.1 U with rfl|U
    ·exact arS
    ·exact arK _ (aj x U)
   ·refine .inr (.inr (.inr ⟨v,m1,an,fun x U=>g1 x (h1 x U),fun x U=>g2 x (aj x U),zm l _ {A with e6:=_::A.e6} _ _ _ _ _ h1 (fun x U=> ?_) aj aw⟩));rcases arA.1 U with rfl|U
    ·exact arS
    ·exact arK _ (J x U)
  ·rename_i hw;rw[if_neg hw];exact zm l _ _ _ _ _ _ _ h1 J aj h
def uh (B:Array Nat) (i:Nat) (A:Acc) (m:Mem):Tag->Mem->Prop
 | .pure,_=>True
 | .read I,_=>∀x∈A.e6,eM B i x.1=arj->I x.2
 | .new,_=>True
 | .ev,m1=>(∀x∈A.reads,eM B i x.1=arj->x.2 m1)/\∀x∈A.news,eM B i x.1=arj->m1.ay x.2=m.ay x.2
def pE (A:Acc) (i:Nat) (m:Mem):Tag->Acc
 | .pure=>A
 | .read I=>{A with reads:=(i,I)::A.reads}
 | .new=>{A with news:=(i,m.next)::A.news}
 | .ev=>{A with e6:=(i,m)::A.e6}
section
variable {P:arl} {ops l:List Oper} {B:Array Nat} {i:Nat} {A:Acc} {K:(Nat->arh)->Mem->Prop} {fr:Nat->arh} {m:Mem} {o:Oper}
theorem fc.J9 (aM:wanted ops fr o=arf) (h:bO P (aL fr) o m fun _ v m1=>fc P ops l K (set fr o.dst v) m1):fc P ops (o::l) K fr m:=fc.cons aM h.w
theorem gn.cons (aM:wanted ops fr o=arf) (h:bO P (aL fr) o m fun t v m1=>uh B i A m t m1/\gn P ops B (i+1) l (pE A i m t) K (set fr o.dst v) m1):gn P ops B i (o::l) A K fr m:=by
 have up:∀{n n':Nat} (_:n<=n') {l:List Oper} {i:Nat} {A:Acc} {fr fr':Nat->arh} {m m':Mem},fZ P (hR P n) ops B i l A fr m fr' m'->fZ P (hR P n') ops B i l A fr m fr' m':=fun av=>uq (wx _ _ av) _ _ _ _ _ _ _;rcases h with ⟨v,h,_,n,fr',m',h1,J⟩|⟨v,I,h,_,n,fr',m',h1,J⟩|⟨v,h,ag,n,fr',m',h1,J⟩|⟨X,v,h,_,n,fr',m',h1,J⟩|⟨et,v,m1,h,ag,n,fr',m',h1,J⟩
 ·refine ⟨n,fr',m', ?_,J⟩;simp only[fZ];rw[if_pos aM];exact .inl ⟨v,h,h1⟩
 ·refine ⟨n,fr',m', ?_,J⟩;simp only[fZ];rw[if_pos aM];exact .inl ⟨v,h,zm _ _ {A with reads:=(i,I)::A.reads} A _ _ _ _ (fun x U=>arK _ U) (fun x U=>U) (fun x U=>U) h1⟩
 ·refine ⟨n,fr',m', ?_,J⟩;simp only[fZ];rw[if_pos aM];exact .inr (.inl ⟨v,h,ag,h1⟩)
 ·refine ⟨n,fr',m', ?_,J⟩;simp only[fZ];rw[if_pos aM];exact .inr (.inr (.inl ⟨X,v,h,h1⟩))
 ·refine ⟨max et n,fr',m', ?_,J⟩;simp only[fZ];rw[if_pos aM];exact .inr (.inr (.inr ⟨v,m1,h.mono (wx _ _ (Nat.le_max_left _ _)),ag.1,ag.2,up (Nat.le_max_right _ _) h1⟩))
theorem gn.skip (aM:wanted ops fr o=arj) (h:gn P ops B (i+1) l A K (set fr o.dst undef) m):gn P ops B i (o::l) A K fr m:=by
 obtain ⟨n,fr',m',h1,J⟩:=h;refine ⟨n,fr',m', ?_,J⟩;simp only[fZ];rw[if_neg (by simp[aM])];exact h1
theorem gn.done (h:∀fr',fr'=fr->K fr' m):gn P ops B i [] A K fr m:=⟨0,_,_,⟨rfl,rfl⟩,h _ rfl⟩
end
theorem anC {P:arl} {ae:arm->arh} {o:Oper} {al:Type} {T:cb al} {z:Nat->aV} {xs:List al} {v:arh} {x:arm} {t:arn} {i:TypeInfo} {bf af:Option arm} {a b:Int} {r:List al} (h:o.op= .slice t x bf af ari) (ak:P.underlying t=are (.slice T.tid)) (da:P.info? T.tid=are i) (bu:i.size=T.aW) (U:ae x=v)
  (dv:yW ae bf a) (cP:zN ae af xs.length b) (aq:dW T z xs v) (ao:gH xs a b=are r):
  ∃bl,(cm P ae o bl\/∀m,je z m->dX P ae o m bl)/\dW T z r bl:=by
 obtain ⟨az,h1,J,rfl⟩:=NZ ao;obtain ⟨a',rfl⟩:=ar8 az;obtain ⟨bV,rfl⟩:=ar8 (Int.le_trans az h1);have jk:a'<=bV:=by omega
 have gg:bV<=xs.length:=by omega
 simp only[asv];have Mh:=G4 dv;have L7:=GQ cP;have hlen:((xs.take bV).drop a').length=bV - a':=by simp;omega
 rcases aq with ⟨rfl,rfl⟩|⟨hJ,off,c,rfl,Fp,gT,kf⟩
 ·have iz:bV=0:=by simpa using gg
  subst iz;have ac9:a'=0:=by omega
  subst ac9;exact ⟨.slice ari 0 0, .inl (.k8 t x bf af T.tid i h ak da U Mh L7), .inl ⟨rfl,by simp⟩⟩
 ·have Us:∀o',o'=off+a'*T.aW->∀(k:Nat) (w:al),((xs.take bV).drop a')[k]? =are w->∃cs,T.rd z w cs/\nE z hJ (o'+k*T.aW) cs:=by
   intro o' jF k w hk;obtain ⟨cs,g1,g2⟩:=kf _ w (Hb hk);refine ⟨cs,g1, ?_⟩;rw[jF,arZ,<-arW];exact g2
  rcases gT with ⟨rfl,L,b5,tN⟩|⟨ad,hle⟩
  ·refine ⟨_, .inr fun m aD=>(.slice t x bf af T.tid i L hJ off xs.length a' bV h ak da U ?_ Mh L7 jk gg (by rw[bu];exact tN)), ?_⟩
   ·rw[(aD.fw Fp).1];exact b5
   ·refine .inr ⟨hJ,off+a'*T.aW,bT,by rw[hlen,bu],Fp, .inl ⟨rfl,L,b5, ?_⟩,Us _ rfl⟩;rw[hlen,arZ,<-arW];have:(a'+(bV - a'))*T.aW<=xs.length*T.aW:=asC _ (by omega);omega
  ·refine ⟨_, .inl (.slice t x bf af T.tid i hJ off xs.length c a' bV h ak da U (by simp only[bT] at ad⊢;omega) Mh L7 jk (by omega) (fun _=>trivial)), ?_⟩;by_cases iA:c=a'
   ·have T3:bV - a'=0:=by omega
    refine .inr ⟨hJ,off,c - a',by simp[iA,hlen,T3],Fp, .inr ⟨by omega,by rw[hlen];omega⟩,fun k w hk=> ?_⟩;have aO:=(arp.1 hk).1;omega
   ·refine .inr ⟨hJ,off+a'*T.aW,c - a',by rw[if_neg iA,hlen,bu],Fp, .inr ⟨by omega,by rw[hlen];omega⟩,Us _ rfl⟩
section
variable {al:Type} {T:cb al} {z z':Nat->aV} {e m m':Mem} {k q:Option Nat} {xs:List al} {v:arh} {b:Nat} {cs:List arh} {t:arn}
variable {P:arl} {ae:arm->arh} {o:Oper} {w:arh} {a8:List al} {x y:arm} {u:arn} {i:TypeInfo} {K:arh->Mem->Prop} {D:Tag->arh->Mem->Prop}
theorem G3 (h:o.op= .call {callee:= .builtin .append,args:=#[x,y],argTypes:=#[t,u]}) (ak:P.underlying t=are (.slice T.tid)) (af:P.info? T.tid=are i) {b1:arh} (gA:i.zero=are b1) (b3:b1.cells.toList.all b7=arf) (cZ:b1.cells.size=i.size)
  (bu:i.size=T.aW) (dt:(T.aW==0)=arj) (fW:arF i.bytes 32768=arf) (hu:(∃bp,P.underlying u=are (.slice bp))\/P.underlying u=are .string) (U:ae x=v) (aq:cO T z e m k xs v) (ah:ae y=w) (lz:Src T z m a8 w)
  (aR:cu z e m k) {r:List al} (ao:eh xs a8=are r)
  (hk:∀bl m',cu z e m' k->cO T z e m' k r bl->eX m m' (ck v)->(∀p,(∀b,p=are b->b<m.next)->dV p (ck v)->dV p (ck bl))->D .ev bl m'):bO P ae o m D:=by
 obtain ⟨bl,m',h1,J,aj,aJ,bk⟩:=ajR (C:=hR P 0) h ak af gA b3 cZ bu (by
  rcases auc T.aW with az|az;·rw[az] at dt;cases dt
  ·exact az) (arG fW) hu U aq ah lz aR ao
 exact bO.ev h1 (hk _ _ J aj aJ bk)
theorem ZO {x0:al} {bm br:aro} {n:Int} (h:o.op= .makeSlice t x y) (ak:P.underlying t=are (.slice T.tid)) (af:P.info? T.tid=are i) {b1:arh} (gA:i.zero=are b1) (b3:b1.cells.toList.all b7=arf) (cZ:b1.cells.size=i.size) (bu:i.size=T.aW) (fW:arF i.bytes 32768=arf)
  (dm:T.rd z x0 b1.cells.toList) (U:ae x= .int bm n) (ah:ae y= .int br n) (aR:cu z e m k) {r:List al} (ao:k2 x0 n=are r)
  (hk:∀bl m',cu z e m' k->cO T z e m' k r bl->eX m m' ari->(∀p,(∀b,p=are b->b<m.next)->dV p (ck bl))->D .new bl m'):bO P ae o m D:=by
 obtain ⟨bl,m',L,cS,h1,rfl,J,aj,aJ,bk⟩:=anR h ak af gA b3 cZ bu (arG fW) dm U ah aR ao;exact bO.new h1 (hk _ _ J aj aJ bk)
theorem Ps {bx:Array (Nat×arm)} {l:Nat} (h:o.op= .buildSlice t l bx) (ak:P.underlying t=are (.slice T.tid)) (af:P.info? T.tid=are i) {b1:arh} (gA:i.zero=are b1) (b3:b1.cells.toList.all b7=arf) (cZ:b1.cells.size=i.size) (bu:i.size=T.aW)
  (as:List al) (h8:List (List arh)) (ai:as.length=l) (rR:arF (l*T.aW) 16777216=arf) (rX:ar5 l 9223372036854775808=arf) (ab:wP T z ae bx.toList 0 as h8) (aR:cu z e m k)
  (hk:∀bl m',cu z e m' k->cO T z e m' k as bl->eX m m' ari->(∀p,(∀b,p=are b->b<m.next)->dV p (ck bl))->D .new bl m'):bO P ae o m D:=by
 obtain ⟨bl,m',L,cS,h1,rfl,J,aj,aJ,bk⟩:=akA h ak af gA b3 cZ bu ai (arG rR) (by have:=rX;simp[ar5] at this;omega) ab aR;exact bO.new h1 (hk _ _ J aj aJ bk)
theorem akJ {s:List UInt8} {tid:arn} (h:o.op= .convert u t x) (hu:P.underlying u=are .string) (ak:P.underlying t=are (.slice tid)) (he:P.underlying tid=are (.int .u8)) (af:P.info? tid=are i) (iS:i.size=1) (U:ae x=str s) {cV:List UInt8} (ai:eh s []=are cV) (aR:cu z e m k)
  (hk:∀bl m',cu z e m' k->cO (iN tid) z e m' k cV bl->eX m m' ari->(∀p,(∀b,p=are b->b<m.next)->dV p (ck bl))->D .new bl m'):bO P ae o m D:=by
 obtain ⟨kW,rfl⟩:=ss ai;rw[List.append_nil] at hk;obtain ⟨bl,m',L,cS,h1,rfl,J,aj,aJ,bk⟩:=akB h hu ak he af iS U (by simp only[mq,ath] at kW;omega) aR;exact bO.new h1 (hk _ _ J aj aJ bk)
theorem Vg {off:Nat} {new:List arh} {fJ:arn} (h:o.op= .store t x y) (af:P.info? t=are i) (U:ae x= .pointer (are ⟨b,off,ari⟩)) (ah:ae y=w) (aa:storable w=arf) (av:w.cells.toList=new) (aq:new.length=i.size) (ab:h6 z e m k b cs fJ) (ai:arF (off+new.length) cs.length=arf) (cs':List arh) (gI:ee cs off new=cs') (aR:cu z e m k)
  (hk:∀m',cu z e m' k->h6 z e m' k b cs' fJ->eX m m' (are b)->D .ev undef m'):bO P ae o m D:=by
 obtain ⟨m',h1,J,aj,aJ⟩:=acn (C:=hR P 0) h af U ah aa av aq ab (arG ai) gI aR;exact bO.ev h1 (hk _ J aj aJ)
theorem FN {off f0 n f l c:Nat} {new rN AX:List arh} {a a':al} (h:o.op= .store t x y) (af:P.info? t=are i) (U:ae x= .pointer (are ⟨b,off,ari⟩)) (n9:off=f0+n*T.aW+f) (ah:ae y=w) (aa:storable w=arf) (av:w.cells.toList=new) (aq:new.length=i.size)
  (ag:cO T z e m k xs v) (pR:v= .slice (are ⟨b,f0,ari⟩) l c) (ar:xs[n]? =are a) (ao:T.rd z a rN) (ad:∀(i:Nat) (u:arh),rN[i]? =are u->m.load b (f0+n*T.aW+i)=are u) (nv:T.rd z a' AX) (gI:AX=ee rN f new) (aK:arF (f+new.length) rN.length=arf) (aR:cu z e m k)
  (hk:∀m',cu z e m' k->cO T z e m' k (xs.set n a') v->eX m m' (ck v)->D .ev undef m'):bO P ae o m D:=by
 obtain ⟨m',h1,J,aj,aJ⟩:=aco (C:=hR P 0) h af U n9 ah aa av aq ag pR ar ao ad nv gI (arG aK) aR;exact bO.ev h1 (hk _ J aj aJ)
theorem anW {bm:aro} {n:Int} {a:al} {fJ:arn} (h:o.op= .indexAddr t x y) (ak:P.underlying t=are (.slice fJ)) (af:P.info? fJ=are i) (bu:i.size=T.aW) (U:ae x=v) (ah:ae y= .int bm n) (aq:dW T z xs v) (aM:bc xs n=are a)
  (hk:∀b off cs,T.rd z a cs->nE z b off cs->D .pure (.pointer (are ⟨b,off,ari⟩)) m):bO P ae o m D:=by
 obtain ⟨b,off,cs,h1,J,aj⟩:=anQ h ak af bu U ah aq aM;exact bO.pure h1 (hk _ _ _ J aj)
theorem ZN {bm:aro} {n:Int} {a:al} {fJ:arn} (h:o.op= .indexAddr t x y) (ak:P.underlying t=are (.slice fJ)) (af:P.info? fJ=are i) (bu:i.size=T.aW) (U:ae x=v) (ah:ae y= .int bm n) (aq:cO T z e m k xs v) (aM:bc xs n=are a)
  (hk:∀b f0 l c cs,v= .slice (are ⟨b,f0,ari⟩) l c->T.rd z a cs->xs[n.toNat]? =are a->(∀(j:Nat) (u:arh),cs[j]? =are u->m.load b (f0+n.toNat*T.aW+j)=are u)->D .pure (.pointer (are ⟨b,f0+n.toNat*T.aW,ari⟩)) m):bO P ae o m D:=by
 obtain ⟨b,f0,l,c,cs,h1,J,aj,aJ⟩:=anP h ak af bu U ah aq aM;exact bO.pure h1 (hk _ _ _ _ _ J aj (pd aM).2.2 aJ)
theorem afv {bf af:Option arm} {a b:Int} {r:List al} (h:o.op= .slice t x bf af ari) (ak:P.underlying t=are (.slice T.tid)) (da:P.info? T.tid=are i) (bu:i.size=T.aW) (U:ae x=v)
  (dv:yW ae bf a) (cP:zN ae af xs.length b) (aq:dW T z xs v) (aR:cu z e m k) (ao:gH xs a b=are r) (hk:∀bl I,(∀m,je z m->I m)->dW T z r bl->D (.read I) bl m):bO P ae o m D:=by
 obtain ⟨bl,h1,J⟩:=anC h ak da bu U dv cP aq ao;rcases h1 with h1|h1
 ·exact bO.VU (I:=fun _=>True) h1 (hk _ _ (fun _ _=>trivial) J)
 ·exact bO.read (h1 m aR.a6) (hk _ _ h1 J)
theorem anU {s r:List UInt8} {bf af:Option arm} {a b:Int} (h:o.op= .slice t x bf af ari) (ak:P.underlying t=are .string) (U:ae x=str s) (dv:yW ae bf a) (cP:zN ae af s.length b) (ao:gH s a b=are r) (hk:D .pure (str r) m):bO P ae o m D:=by
 obtain ⟨az,h1,J,rfl⟩:=NZ ao;obtain ⟨a',rfl⟩:=ar8 az;obtain ⟨bV,rfl⟩:=ar8 (Int.le_trans az h1);exact bO.pure (Y3 h ak U (G4 dv) (GQ cP) (by omega) (by omega)) hk
theorem ajp {s:List UInt8} {c:UInt8} {bm:aro} {n:Int} (h:o.op= .index t x y) (ak:P.underlying t=are .string) (U:ae x=str s) (ah:ae y= .int bm n) (aM:bc s n=are c) (hk:D .pure (.int .u8 c.toNat) m):bO P ae o m D:=by
 obtain ⟨az,h1,J⟩:=pd aM;exact bO.pure (Y2 h ak U ah az J) hk
theorem anY {s:List UInt8} {tid:arn} (h:o.op= .convert t u x) (ak:P.underlying t=are (.slice tid)) (he:P.underlying tid=are (.int .u8)) (hu:P.underlying u=are .string) (U:ae x=v) (aq:dW (iN tid) z s v) (aR:cu z e m k) (hk:D (.read fun m=>dX P ae o m (str s)) (str s) m):bO P ae o m D:=
 bO.read (aal h ak he hu U (aq.src aR.a6) (by obtain ⟨a,c,rfl⟩:=aq.len;exact ⟨_,_,_,rfl⟩)) hk
theorem anX {s:List UInt8} {tid:arn} (h:o.op= .convert t u x) (ak:P.underlying t=are (.slice tid)) (he:P.underlying tid=are (.int .u8)) (hu:P.underlying u=are .string) (U:ae x=v) (aq:cO (iN tid) z e m k s v) (hk:D (.read fun m=>dX P ae o m (str s)) (str s) m):bO P ae o m D:=
 bO.read (aal h ak he hu U aq.a7.src (by obtain ⟨a,c,rfl⟩:=aq.a7.len;exact ⟨_,_,_,rfl⟩)) hk
theorem ajo {bx:Array (Nat×arm)} {aY:Array Field} {pl:List (Option (Nat×Nat))} {b1:arh} (vs:List (Nat×arh)) (cs:List arh) (h:o.op= .build t bx) (ak:P.underlying t=are (.struct aY)) (af:P.info? t=are i) (aD:i.zero=are b1) (b3:b1.cells.toList.all b7=arf)
  (oa:mc P aY=pl) (an:pl.all auo=arf) (k0:bx.toList.map (fun p=>(p.1,ae p.2))=vs) (ad:iG (fun k=>(pl[k]?).join) b1.cells.toList vs=are cs) (hk:D .pure (.agg cs.toArray) m):bO P ae o m D:=by
 subst oa k0;exact bO.pure (.build t bx aY i b1 cs h ak af aD b3 (by simpa[arz] using an) ad) hk
variable {ops l:List Oper} {fr:Nat->arh} {oN:(Nat->arh)->Mem->Prop}
theorem fc.J8 {j d:Nat} {want lh:Bool} (aM:o.guard=are (j,want)) (aw:(ops[j]?).bind (·.dst)=are d) (aa:fr d= .bool lh) (ab:lh=want) (h:bO P (aL fr) o m fun _ v m1=>fc P ops l oN (set fr o.dst v) m1):fc P ops (o::l) oN fr m:=
 fc.J9 (by subst ab;simp[wanted,aM,aw,aa]) h
theorem fc.IA {j d:Nat} {want lh:Bool} (aM:o.guard=are (j,want)) (aw:(ops[j]?).bind (·.dst)=are d) (aa:fr d= .bool lh) (ab:lh= !want) (h:fc P ops l oN (set fr o.dst undef) m):fc P ops (o::l) oN fr m:=
 fc.skip (by subst ab;simp[wanted,aM,aw,aa]) h
theorem fc.QF {j d:Nat} {want:Bool} (aM:o.guard=are (j,want)) (aw:(ops[j]?).bind (·.dst)=are d) (aa:fr d=undef) (h:fc P ops l oN (set fr o.dst undef) m):fc P ops (o::l) oN fr m:=
 fc.skip (by simp[wanted,aM,aw,aa,undef]) h
theorem gn.J8 {B:Array Nat} {n:Nat} {A:Acc} {j d:Nat} {want lh:Bool} (aM:o.guard=are (j,want)) (aw:(ops[j]?).bind (·.dst)=are d) (aa:fr d= .bool lh) (ab:lh=want) (h:bO P (aL fr) o m fun t v m1=>uh B n A m t m1/\gn P ops B (n+1) l (pE A n m t) oN (set fr o.dst v) m1):gn P ops B n (o::l) A oN fr m:=
 gn.cons (by subst ab;simp[wanted,aM,aw,aa]) h
theorem gn.IA {B:Array Nat} {n:Nat} {A:Acc} {j d:Nat} {want lh:Bool} (aM:o.guard=are (j,want)) (aw:(ops[j]?).bind (·.dst)=are d) (aa:fr d= .bool lh) (ab:lh= !want) (h:gn P ops B (n+1) l A oN (set fr o.dst undef) m):gn P ops B n (o::l) A oN fr m:=
 gn.skip (by subst ab;simp[wanted,aM,aw,aa]) h
theorem gn.QF {B:Array Nat} {n:Nat} {A:Acc} {j d:Nat} {want:Bool} (aM:o.guard=are (j,want)) (aw:(ops[j]?).bind (·.dst)=are d) (aa:fr d=undef) (h:gn P ops B (n+1) l A oN (set fr o.dst undef) m):gn P ops B n (o::l) A oN fr m:=
 gn.skip (by simp[wanted,aM,aw,aa,undef]) h
end
end Go.aQ
end
section
namespace Go.aQ
theorem V1 {d:TypeDesc} {k:arh} (hk:atW d k):∀(l:List MapEntry) (i:Nat),(∀x∈l,atW d x.key)->aup d k l i=are (kp k l i)
 |[],i,_=>rfl
 |e::es,i,h=>by
  obtain ⟨r,ao,n3⟩:=MapKept.sameNow_of_keys hk (h e (.head _));have aU:=V1 hk es (i+1) (fun x U=>h x (.tail _ U));cases r with
  |true=>have:=n3.1 rfl;rw[kp,if_pos this.symm];simp[aup,ao]
  |false=>
   have bL:¬e.key=k:=fun q=>by have:=n3.2 q.symm;cases this
   rw[kp,if_neg bL];simp[aup,ao,aU]
theorem Oq {P:arl} {kt:arn} {d:TypeDesc} (aw:P.underlying kt=are d) {gp:arh->Prop} (aM:∀v,gp v->atW d v):Keyed P kt gp where
 check:=fun em v w h=>MapKept.run_checkKey aw (aM v h) em _
 find:=fun v es w h aq=>MapKept.run_findKey aw (V1 (aM v h) es 0 fun x U=>aM _ (aq x U))
 stays:=fun v w h=>MapKept.run_keyThatStays (aM v h)
structure nS (al bs:Type) where
 bX:al->List arh
 vc:bs->List arh
 tid:arn
structure ku (P:arl) (kt:arn) {al:Type} (bX:al->List arh):Prop where
 len:∀a,(bX a).length=P.cellsOf kt
 pos:0<P.cellsOf kt
 flat:∀a,(bX a).all b7=arf
 yh:∀a,aQ.flat (cN (cB P kt) (bX a))=arf
 inj:∀a b,cN (cB P kt) (bX a)=cN (cB P kt) (bX b)->a=b
 keyed:Keyed P kt fun v=>∃a,v=cN (cB P kt) (bX a)
structure lU (P:arl) (vt:arn) {bs:Type} (vc:bs->List arh):Prop where
 len:∀b,(vc b).length=P.cellsOf vt
 one:cB P vt=arj->P.cellsOf vt=1
 flat:∀b,(vc b).all b7=arf
def pW (k:aro) (n:Int):List arh:=[.int k n]
def BW (s:List UInt8):List arh:=[str s]
def xr (b:Bool):List arh:=[.bool b]
theorem pn {P:arl} {t:arn} {d:TypeDesc} (h:P.underlying t=are d) (aw:jz d=arj):cB P t=arj:=by simp[cB,h,aw]
theorem akL {P:arl} {kt:arn} {k:aro} {i:TypeInfo} (h:P.underlying kt=are (.int k)) (af:P.info? kt=are i) (aq:i.size=1):ku P kt (pW k) where
 len:=fun a=>by simp[pW,asm,af,aq]
 pos:=by simp[asm,af,aq]
 flat:=fun a=>rfl
 yh:=fun a=>by rw[pn h rfl];rfl
 inj:=fun a b eD=>by rw[pn h rfl] at eD;simpa[cN,pW] using eD
 keyed:=Oq h (by rintro v ⟨a,rfl⟩;rw[pn h rfl];simp[cN,pW,atW])
theorem YM {a b:List UInt8} (h:str a=str b):a=b:=by
 simp only[str] at h;injection h with h;injection h with h;simpa using congrArg Array.toList h
theorem akM {P:arl} {kt:arn} {i:TypeInfo} (h:P.underlying kt=are .string) (af:P.info? kt=are i) (aq:i.size=1):ku P kt BW where
 len:=fun a=>by simp[BW,asm,af,aq]
 pos:=by simp[asm,af,aq]
 flat:=fun a=>rfl
 yh:=fun a=>by rw[pn h rfl];rfl
 inj:=fun a b eD=>by rw[pn h rfl] at eD;exact YM eD
 keyed:=Oq h (by rintro v ⟨a,rfl⟩;rw[pn h rfl];simp[cN,BW,str,atW])
theorem am2 {P:arl} {vt:arn} {k:aro} {i:TypeInfo} (h:P.underlying vt=are (.int k)) (af:P.info? vt=are i) (aq:i.size=1):lU P vt (pW k):=
 ⟨fun a=>by simp[pW,asm,af,aq],fun _=>by simp[asm,af,aq],fun _=>rfl⟩
theorem aj5 {P:arl} {vt:arn} {i:TypeInfo} (h:P.underlying vt=are .bool) (af:P.info? vt=are i) (aq:i.size=1):lU P vt xr:=
 ⟨fun a=>by simp[xr,asm,af,aq],fun _=>by simp[asm,af,aq],fun _=>rfl⟩
section
variable {al bs:Type}
def bn [DecidableEq al]:List (al×bs)->al->Option bs
 |[],_=>ari
 |p::es,a=>if p.1=a then are p.2 else bn es a
def eJ [DecidableEq al]:List (al×bs)->al->bs->List (al×bs)
 |[],a,b=>[(a,b)]
 |p::es,a,b=>if p.1=a then (p.1,b)::es else p::eJ es a b
def nS.nh (M:nS al bs) (es:List (al×bs)):List (List arh×List arh):=es.map fun p=>(M.bX p.1,M.vc p.2)
def nS.cells (M:nS al bs) (es:List (al×bs)):List arh:=(M.nh es).flatMap fun p=>p.1++p.2
structure hU (M:nS al bs) (z:Nat->aV) (e m:Mem) (k:Option Nat) (es:List (al×bs)) (v:arh):Prop where
 a7:∃r,v= .map (are r)/\m.ay r= .map (M.cells es) M.tid/\r<m.next/\z r= .dead/\e.next<=r
def kN (M:nS al bs) (z:Nat->aV) (es:List (al×bs)) (v:arh):Prop:=
 (v= .map ari/\es=[])\/∃r,v= .map (are r)/\z r= .map (M.cells es) M.tid
def sE:arh->Option Nat
 | .map r=>r
 |_=>ari
variable {M:nS al bs} {z z':Nat->aV} {e m m':Mem} {k q:Option Nat} {es:List (al×bs)} {v:arh}
theorem hU.lt (h:hU M z e m k es v):∀b,sE v=are b->b<m.next:=by
 obtain ⟨r,rfl,h1,J,aj,aJ⟩:=h.a7;intro b ab;cases ab;exact J
theorem hU.same (h:hU M z e m k es v) (s:eX m m' q) (eu:dV (sE v) q):hU M z e m' k es v:=by
 obtain ⟨r,rfl,h1,J,aj,aJ⟩:=h.a7;exact ⟨r,rfl,by rw[s.ay r J (eu r rfl)];exact h1,arT J s.next,aj,aJ⟩
theorem hU.h5 (h:hU M z e m k es v) (aD:eb z z') (ab:∀b,sE v=are b->z' b=z b):hU M z' e m k es v:=by
 obtain ⟨r,rfl,h1,J,aj,aJ⟩:=h.a7;exact ⟨r,rfl,h1,J,by rw[ab r rfl];exact aj,aJ⟩
theorem hU.aF (h:hU M z e m k es v):∀c,sE v=are c->z c= .dead/\(e.next<=c\/k=are c):=by
 obtain ⟨r,rfl,h1,J,aj,aJ⟩:=h.a7;intro c ad;cases ad;exact ⟨aj, .inl aJ⟩
theorem hU.freeze (h:hU M z e m k es v) (aR:cu z e m k):∃z',cz e.next z z'/\cu z' e m k/\kN M z' es v/\∀p,dV p (sE v)->∀b,p=are b->z' b=z b:=by
 obtain ⟨r,rfl,h1,J,aj,aJ⟩:=h.a7;refine ⟨ib z m (are r),⟨CX fun b ab=>by cases ab;exact aj,fun b ab=> ?_⟩,⟨Hq aR.a6 (fun b ab=>by cases ab;exact ⟨J,by rw[h1];rfl⟩),aR.dead,aR.lX,aR.next,aR.kept⟩, .inr ⟨r,rfl,by simp[ib,h1]⟩,fun p an b ab=> ?_⟩
 ·unfold ib;rw[if_neg];intro ch;cases ch;omega
 ·have:=an b ab;unfold ib;rw[if_neg (show ¬are r=are b from this)]
theorem kN.mono (h:kN M z es v) (aD:eb z z'):kN M z' es v:=by
 rcases h with h|⟨r,rfl,h1⟩
 ·exact .inl h
 ·exact .inr ⟨r,rfl,by rw[aD r (by rw[h1];exact arH)];exact h1⟩
theorem G1 {P:arl} {kt vt:arn} (K:ku P kt M.bX) (V:lU P vt M.vc) (es:List (al×bs)):mo (P.cellsOf kt) (P.cellsOf vt) (M.cells es) (M.nh es):=by
 refine ⟨rfl,fun p an=> ?_⟩;obtain ⟨x,U,rfl⟩:=arC.1 an;exact ⟨K.len _,V.len _⟩
theorem Yq [DecidableEq al] {P:arl} {kt vt:arn} (K:ku P kt M.bX) (a:al) (z0:bs):∀es:List (al×bs),ry (cB P kt) (cB P vt) (cN (cB P kt) (M.bX a)) (cN (cB P vt) (M.vc z0)) (M.nh es) (cN (cB P vt) (M.vc ((bn es a).getD z0))) (bn es a).isSome
 |[]=> .nz
 |p::es=>by
  simp only[bn];by_cases h:p.1=a
  ·rw[if_pos h];exact .hit (M.bX p.1,M.vc p.2) (M.nh es) (by rw[h])
  ·rw[if_neg h];exact .next (M.bX p.1,M.vc p.2) (M.nh es) _ _ (fun ax=>h (K.inj _ _ ax)) (Yq K a z0 es)
theorem Zo [DecidableEq al] {P:arl} {kt:arn} (K:ku P kt M.bX) (a:al) (b:bs):∀es:List (al×bs),rD (cB P kt) (M.bX a) (M.vc b) (M.nh es) (M.nh (eJ es a b))
 |[]=> .nz
 |p::es=>by
  simp only[eJ];by_cases h:p.1=a
  ·rw[if_pos h];exact .hit (M.bX p.1,M.vc p.2) (M.nh es) (by rw[h])
  ·rw[if_neg h];exact .next (M.bX p.1,M.vc p.2) (M.nh es) _ (fun ax=>h (K.inj _ _ ax)) (Zo K a b es)
theorem WM {P:arl} {kt:arn} (es:List (al×bs)):∀p∈M.nh es,∃a,cN (cB P kt) p.1=cN (cB P kt) (M.bX a):=by
 intro p an;obtain ⟨x,U,rfl⟩:=arC.1 an;exact ⟨x.1,rfl⟩
theorem NA {P:arl} {vt:arn} {vc:bs->List arh} (V:lU P vt vc) (b:bs):hS (cN (cB P vt) (vc b))=arf:=by
 have h1:=V.flat b;have J:=V.len b;cases ar:cB P vt with
 |true=>simpa[cN,hS] using h1
 |false=>
  rw[V.one ar] at J
  match aa:vc b,J with
  |[c],_=>rw[aa] at h1;simp at h1;simp only[cN,List.headD_cons];cases c<;>first|exact h1|(simp[b7] at h1;done)|(simp[b7] at h1;simp[h1])
variable {P:arl} {ae:arm->arh} {o:Oper} {D:Tag->arh->Mem->Prop} {x ca:arm} {eE kt vt:arn} {i:TypeInfo} {a:al} {z0:bs} {cW ri:arh} {ok:Bool}
theorem Zz [DecidableEq al] {r:Nat} (h:o.op= .lookup eE x ca ok) (fX:P.underlying eE=are (.map kt vt)) (hu:P.underlying M.tid=are (.map kt vt)) (K:ku P kt M.bX) (V:lU P vt M.vc) (af:P.info? vt=are i) (aD:i.zero=are (cN (cB P vt) (M.vc z0)))
  (U:ae x= .map (are r)) (hm:m.ay r= .map (M.cells es) M.tid) (mA:ae ca=cN (cB P kt) (M.bX a)):
  dX P ae o m (if ok then .tuple #[cN (cB P vt) (M.vc ((bn es a).getD z0)), .bool (bn es a).isSome] else cN (cB P vt) (M.vc ((bn es a).getD z0))):=
 .lookup eE x ca ok M.tid kt vt r _ _ i _ _ _ _ h fX hu (.inl ⟨U,hm,G1 K V es⟩) K.pos V.one K.keyed (by rw[mA];exact K.yh a) ⟨a,mA⟩ (WM es) af aD (NA V z0) (by rw[mA];exact Yq K a z0 es)
theorem akD [DecidableEq al] (h:o.op= .lookup eE x ca ok) (fX:P.underlying eE=are (.map kt vt)) (hu:P.underlying M.tid=are (.map kt vt)) (K:ku P kt M.bX) (V:lU P vt M.vc) (af:P.info? vt=are i) (aD:i.zero=are (cN (cB P vt) (M.vc z0)))
  (U:ae x=v) (ag:hU M z e m k es v) (mA:ae ca=ri) (og:ri=cN (cB P kt) (M.bX a)) {y:Option bs} (ah:bn es a=y)
  (hw:(if ok then .tuple #[cN (cB P vt) (M.vc (y.getD z0)), .bool y.isSome] else cN (cB P vt) (M.vc (y.getD z0)))=cW):dX P ae o m cW:=by
 obtain ⟨r,rfl,h1,_⟩:=ag.a7;subst hw ah;exact Zz h fX hu K V af aD U h1 (mA.trans og)
theorem ZE [DecidableEq al] (h:o.op= .lookup eE x ca ok) (fX:P.underlying eE=are (.map kt vt)) (hu:P.underlying M.tid=are (.map kt vt)) (K:ku P kt M.bX) (V:lU P vt M.vc) (af:P.info? vt=are i) (aD:i.zero=are (cN (cB P vt) (M.vc z0)))
  (U:ae x=v) (ag:hU M z e m k es v) (mA:ae ca=ri) (og:ri=cN (cB P kt) (M.bX a)) {y:Option bs} (ah:bn es a=y)
  (hw:(if ok then .tuple #[cN (cB P vt) (M.vc (y.getD z0)), .bool y.isSome] else cN (cB P vt) (M.vc (y.getD z0)))=cW) (hk:D (.read fun m=>dX P ae o m cW) cW m):bO P ae o m D:=
 bO.read (akD h fX hu K V af aD U ag mA og ah hw) hk
theorem akE [DecidableEq al] (h:o.op= .lookup eE x ca ok) (fX:P.underlying eE=are (.map kt vt)) (hu:P.underlying M.tid=are (.map kt vt)) (K:ku P kt M.bX) (V:lU P vt M.vc) (af:P.info? vt=are i) (aD:i.zero=are (cN (cB P vt) (M.vc z0)))
  (U:ae x=v) (ag:kN M z es v) (a6:je z m) (mA:ae ca=ri) (og:ri=cN (cB P kt) (M.bX a)) {y:Option bs} (ah:bn es a=y)
  (hw:(if ok then .tuple #[cN (cB P vt) (M.vc (y.getD z0)), .bool y.isSome] else cN (cB P vt) (M.vc (y.getD z0)))=cW):dX P ae o m cW:=by
 subst hw ah;rcases ag with ⟨rfl,rfl⟩|⟨r,rfl,h1⟩
 ·exact .lookup eE x ca ok M.tid kt vt 0 [] [] i _ _ _ _ h fX hu (.inr ⟨U,rfl⟩) K.pos V.one K.keyed (by rw[mA,og];exact K.yh a) ⟨a,mA.trans og⟩ (fun p an=>by simp at an) af aD (NA V z0) .nz
 ·exact Zz h fX hu K V af aD U (by rw[(a6.fw (show (_:aV).fw by rw[h1];exact arH)).1];exact h1) (mA.trans og)
theorem ZF [DecidableEq al] (h:o.op= .lookup eE x ca ok) (fX:P.underlying eE=are (.map kt vt)) (hu:P.underlying M.tid=are (.map kt vt)) (K:ku P kt M.bX) (V:lU P vt M.vc) (af:P.info? vt=are i) (aD:i.zero=are (cN (cB P vt) (M.vc z0)))
  (U:ae x=v) (ag:kN M z es v) (aR:cu z e m k) (mA:ae ca=ri) (og:ri=cN (cB P kt) (M.bX a)) {y:Option bs} (ah:bn es a=y)
  (hw:(if ok then .tuple #[cN (cB P vt) (M.vc (y.getD z0)), .bool y.isSome] else cN (cB P vt) (M.vc (y.getD z0)))=cW) (hk:D (.read fun m=>dX P ae o m cW) cW m):bO P ae o m D:=
 bO.read (akE h fX hu K V af aD U ag aR.a6 mA og ah hw) hk
theorem ahW {t:arn} (M:nS al bs) (h:o.op= .makeMap t ari) (ak:P.underlying t=are (.map kt vt)) (au:M.tid=t) (aR:cu z e m k)
  (hk:∀bl m',cu z e m' k->hU M z e m' k [] bl->eX m m' ari->(∀p,(∀b,p=are b->b<m.next)->dV p (sE bl))->D .new bl m'):bO P ae o m D:=by
 have afh:z m.next= .dead:=by
  cases aD:z m.next with
  |dead=>rfl
  |ro rd=>have:=(aR.a6 m.next (by rw[aD];simp)).2;omega
  |own L t=>have:=(aR.a6 m.next (by rw[aD];simp)).2;omega
  |map L t=>have:=(aR.a6 m.next (by rw[aD];simp)).2;omega
  |lock _ _ _ _=>have:=(aR.a6 m.next (by rw[aD];simp)).2;omega
 refine bO.new (.makeMap t kt vt h ak) (hk _ _ (aR.push _) ⟨m.next,rfl,by simp[Mem.push,nS.cells,nS.nh,au],by simp[Mem.push],afh,aR.next⟩ (Ce aR.dead) fun p an b ab ky=> ?_);cases ky;have:=an _ ab;omega
theorem ajq [DecidableEq al] {fG fb:arm} {b:bs} {Ae:arh} (h:o.op= .mapUpdate eE x fG fb\/o.op= .insert eE x fG fb) (fX:P.underlying eE=are (.map kt vt)) (hu:P.underlying M.tid=are (.map kt vt)) (K:ku P kt M.bX) (V:lU P vt M.vc)
  (U:ae x=v) (ag:hU M z e m k es v) (jD:ae fG=ri) (og:ri=cN (cB P kt) (M.bX a)) (yR:ae fb=Ae) (ae9:Ae=cN (cB P vt) (M.vc b)) (aR:cu z e m k) {tC:List (al×bs)} (iB:eJ es a b=tC)
  (hk:∀m',cu z e m' k->hU M z e m' k tC v->eX m m' (sE v)->D .ev undef m'):bO P ae o m D:=by
 obtain ⟨r,rfl,h1,J,aj,aJ⟩:=ag.a7;subst iB;have kh:=Cy (x:= .map (M.cells (eJ es a b)) M.tid) aR.dead J;have gZ:=NA V b;have ML:=yR.trans ae9;have dd:storable (ae fb)=arf:=by rw[ML];cases ad:cN (cB P vt) (M.vc b)<;>first|rfl|(rw[ad] at gZ;simp[hS,b7] at gZ;done)|(rw[ad] at gZ;simp only[hS,b7,arq,Array.isEmpty_iff] at gZ;simp[storable,gZ.1,gZ.2])
 have adn:∀c∈M.vc b,c∈(ae fb).cells.toList:=by
  intro c ad;rw[ML];cases ar:cB P vt with
  |true=>simpa[cN,atU] using ad
  |false=>
   have J:=V.len b;rw[V.one ar] at J
   match aa:M.vc b,J with
   |[d],_=>rw[aa] at ad;simp at ad;subst ad;simp only[cN,List.headD_cons];have aK:=V.flat b;rw[aa] at aK;simp at aK;cases c<;>first|(simp[b7] at aK;done)|simp[atU]
 refine bO.ev (n:=0) (.mapUpdate eE x fG fb M.tid kt vt r _ (M.bX a) (M.vc b) _ (M.nh (eJ es a b)) _ h fX hu U h1 (G1 K V es) K.pos K.keyed (jD.trans og) (K.len a) (K.flat a) (by rw[jD,og];exact K.yh a) ⟨a,jD.trans og⟩ (WM es) dd ML (V.len b) adn (Zo K a b es)) (hk _ (aR.same kh ag.aF) ⟨r,rfl,by simp[Mem.put,nS.cells],J,aj,aJ⟩ kh)
end
end Go.aQ
end
section
namespace Go.aQ
section
variable {P:arl} {ae:arm->arh} {o:Oper} {x y:arm} {t u:arn} {k aa2:aro} {a:Int}
noncomputable instance aq6:DecidableEq arh:=fun _ _=>atj _
def AJ (P:arl) (t:arn) (x y:arh):Prop:=
 (∃k bW a b,P.underlying t=are (.int bW)/\x= .int k a/\y= .int k b)\/(∃a b,P.underlying t=are .bool/\x= .bool a/\y= .bool b)\/(∃a b,P.underlying t=are .string/\x=str a/\y=str b)
def lS (P:arl):List Field->Nat->List arh->List arh->Prop
 |[],_,[],[]=>True
 | f :: aY, i, x :: xs, y :: a8 => f.offset = i ∧ f.name ≠ "_" ∧ AJ P f.type x y ∧ lS P aY (i + 1) xs a8
 |_,_,_,_=>False
theorem aiP {t:arn} {x y:arh} (h:AJ P t x y) (d:Nat) (w:World):(Op.equalIn (d+1) t x y).run P w= .ok (decide (x=y)) w:=by
 rcases h with ⟨k,bW,a,b,h,rfl,rfl⟩|⟨a,b,h,rfl,rfl⟩|⟨a,b,h,rfl,rfl⟩
 ·rw[run_equalIn_int w d t k bW a b h];congr 1;rw[asw];simp
 ·rw[run_equalIn_bool' w d t a b h];congr 1;rw[asw];simp
 ·rw[str,str,run_equalIn_string w d t _ _ h];congr 1;rw[asw];simp[ByteArray.toList_eq]
theorem WA {t:arn} {x y:arh} (h:AJ P t x y):cB P t=arj:=by
 rcases h with ⟨k,bW,a,b,h,_⟩|⟨a,b,h,_⟩|⟨a,b,h,_⟩<;>simp[cB,h,jz]
theorem OF {t:arn} {cs:Array arh} {i:Nat} {v:arh} (ar:cB P t=arj) {d:TypeDesc} (aw:P.underlying t=are d) (aa:cs[i]? =are v) (w:World):(part t cs i).run P w= .ok v w:=by
 have:jz d=arj:=by simpa[cB,aw] using ar
 simp[part,w4 aw,this,aa]
theorem XN {t:arn} {x y:arh} (h:AJ P t x y):∃d,P.underlying t=are d:=by
 rcases h with ⟨k,bW,a,b,h,_⟩|⟨a,b,h,_⟩|⟨a,b,h,_⟩<;>exact ⟨_,h⟩
theorem Wy {pre pre':List arh} (d:Nat) (w:World):∀{aY:List Field} {i:Nat} {xs a8:List arh},lS P aY i xs a8->pre.length=i->pre'.length=i->(Op.eqFields (d+1) (pre++xs).toArray (pre'++a8).toArray aY).run P w= .ok (decide (xs=a8)) w
 |[],i,[],[],_,_,_=>by simp[Op.eqFields]
 |f::aY,i,x::xs,y::a8,⟨h1,J,aj,aJ⟩,an,qL=>by
  obtain ⟨nf,aw⟩:=XN aj;have ar:=WA aj;have g1:=OF (P:=P) (cs:=(pre++x::xs).toArray) (i:=f.offset) (v:=x) ar aw (by rw[h1,<-an];simp) w;have g2:=OF (P:=P) (cs:=(pre'++y::a8).toArray) (i:=f.offset) (v:=y) ar aw (by rw[h1,<-qL];simp) w;have aU:=Wy (pre:=pre++[x]) (pre':=pre'++[y]) d w aJ (by simp[an]) (by simp[qL]);simp only[as7,List.singleton_append] at aU;simp only[Op.eqFields];rw[if_pos J];simp only[arV,g1,g2,arN,aiP aj d w];by_cases mF:x=y
  ·simp only[mF,decide_true,atc,asf,if_false];rw[<-mF] at aU⊢;rw[mF] at aU⊢;rw[aU];simp
  ·simp[mF]
 |[],_,_::_,_,h,_,_=>h.elim
 |[],_,[],_::_,h,_,_=>h.elim
 |_::_,_,[],_,h,_,_=>h.elim
 |_::_,_,_::_,[],h,_,_=>h.elim
theorem YW {aY:Array Field} {xs a8:List arh} (ak:P.underlying t=are (.struct aY)) (an:P.stoodInHeld t=arj) (h:lS P aY.toList 0 xs a8) (w:World):(Op.equalIn 10000 t (.agg xs.toArray) (.agg a8.toArray)).run P w= .ok (decide (xs=a8)) w:=by
 have aK:P.fieldsOf t=aY:=by simp[arl.fieldsOf,ak]
 rw[show (10000:Nat)=9998+1+1 from rfl,run_equalIn_struct w _ t _ _ (by rw[aK];exact ak) an,aK];have:=Wy (P:=P) (pre:=[]) (pre':=[]) 9998 w h rfl rfl;simpa using this
theorem lS.flat:∀{aY:List Field} {i:Nat} {xs a8:List arh},lS P aY i xs a8->xs.all b7=arf/\a8.all b7=arf
 |[],i,[],[],_=>⟨rfl,rfl⟩
 |f::aY,i,x::xs,y::a8,⟨_,_,aj,aJ⟩=>by
  obtain ⟨g1,g2⟩:=lS.flat aJ;have:b7 x=arf/\b7 y=arf:=by rcases aj with ⟨k,bW,a,b,h,rfl,rfl⟩|⟨a,b,h,rfl,rfl⟩|⟨a,b,h,rfl,rfl⟩<;>exact ⟨rfl,rfl⟩
  simp[this.1,this.2,g1,g2]
 |[],_,_::_,_,h=>h.elim
 |[],_,[],_::_,h=>h.elim
 |_::_,_,[],_,h=>h.elim
 |_::_,_,_::_,[],h=>h.elim
theorem F6 {aY:Array Field} {xs a8:List arh} {r:Bool} (neq:Bool) (h:o.op= .binOp (if neq then .neq else .eql) t x y u) (ak:P.underlying t=are (.struct aY)) (an:P.stoodInHeld t=arj) (aM:P.eqGuardType P.depth t=arj) (aq:lS P aY.toList 0 xs a8)
  (U:ae x= .agg xs.toArray) (ah:ae y= .agg a8.toArray) (ao:r=arf↔xs=a8):cm P ae o (.bool (if neq then !r else r)):=by
 have gZ:=aq.flat;refine sC (x:=x) (y:=y) (by rw[h];rfl) (by rw[h];intros;simp) (by rw[U];simpa[flat,hS] using gZ.1) (by rw[ah];simpa[flat,hS] using gZ.2) rfl fun w=> ?_;have he:=YW ak an aq w;have dm:decide (xs=a8)=r:=by
  by_cases mF:xs=a8
  ·simp[mF,ao.2 mF]
  ·have:r=arj:=by
    cases r with
    |false=>rfl
    |true=>exact absurd (ao.1 rfl) mF
   simp[mF,this]
 rw[dm] at he;cases neq with
 |false=>simp[execOp,h,U,ah,run_eqGuard_agg w _ _ _ _ _ _ aM,run_eql_struct,he]
 |true=>simp[execOp,h,U,ah,run_eqGuard_agg w _ _ _ _ _ _ aM,run_neq_struct,he]
end
section
variable {al:Type} {T:cb al} {z:Nat->aV} {e m:Mem} {k:Option Nat} {xs:List al} {v:arh} {t:arn}
variable {P:arl} {ae:arm->arh} {o:Oper} {x:arm} {i:TypeInfo} {D:Tag->arh->Mem->Prop}
end
theorem agW {P:arl} {t:arn} {aY:Array Field} {xs:List arh} (ak:P.underlying t=are (.struct aY)) (h:lS P aY.toList 0 xs xs) (em:Bool) (w:World):(atm em 10000 t (.agg xs.toArray)).run P w= .ok () w:=by
 have key:∀{aY:List Field} {i:Nat} {a8 pre:List arh},lS P aY i a8 a8->pre.length=i->∀w,
   (forIn aY PUnit.unit fun f _=>(do
    if f.name ≠ "_" then atm em 9999 f.type (← part f.type (pre ++ a8).toArray f.offset)
    pure (ForInStep.yield PUnit.unit):Sem (ForInStep PUnit))).run P w= .ok PUnit.unit w:=by
  intro aY;induction aY with
  |nil=>intro i a8 pre h an w;simp
  |cons f aY aU=>
   intro i a8 pre h an w;cases a8 with
   |nil=>exact h.elim
   |cons y a8=>
    obtain ⟨h1,J,aj,aJ⟩:=h;obtain ⟨nf,aw⟩:=XN aj;have g1:=OF (P:=P) (cs:=(pre++y::a8).toArray) (i:=f.offset) (v:=y) (WA aj) aw (by rw[h1,<-an];simp) w;have g2:(atm em 9999 f.type y).run P w= .ok () w:=by
     have aF:∀n:Nat,(atm em (n+1) f.type y).run P w= .ok () w:=by intro n;rcases aj with ⟨k,bW,a,b,h,rfl,_⟩|⟨a,b,h,rfl,_⟩|⟨a,b,h,rfl,_⟩<;>simp[atm,dU h,str]
     exact aF 9998
    have aU:=aU (pre:=pre++[y]) aJ (by simp[an]) w;simp only[as7,List.singleton_append] at aU;simp only[List.forIn_cons,if_pos J,arV,g1,arN,g2,ar0];exact aU
 have:=key (pre:=[]) h rfl w;simp only[atd] at this;have aF:∀n:Nat,n=9999->(atm em (n+1) t (.agg xs.toArray)).run P w= .ok () w:=by
  rintro n rfl;rw[atm];simp only[arV,dU ak,arN,<-Array.forIn_toList]
  erw [this]
  rfl
 exact aF 9999 rfl
theorem agw {v:arh} (n:Nat) (h:(∃k a,v= .int k a)\/(∃a,v= .bool a)\/∃a,v=str a):atX n v v=arf:=by
 rcases h with ⟨k,a,rfl⟩|⟨a,rfl⟩|⟨a,rfl⟩
 ·cases n<;>simp[atX]
 ·cases n<;>simp[atX]
 ·cases n<;>simp[atX,str,MapKept.bytes_beq]
theorem lS.mem {P:arl}:∀{aY:List Field} {i:Nat} {xs a8:List arh},lS P aY i xs a8->∀v∈xs,(∃k a,v= .int k a)\/(∃a,v= .bool a)\/∃a,v=str a
 |[],i,[],[],_,v,aa=>by simp at aa
 |f::aY,i,x::xs,y::a8,⟨_,_,aj,aJ⟩,v,aa=>by
  rcases arA.1 aa with rfl|aa
  ·rcases aj with ⟨k,bW,a,b,h,rfl,rfl⟩|⟨a,b,h,rfl,rfl⟩|⟨a,b,h,rfl,rfl⟩
   ·exact .inl ⟨_,_,rfl⟩
   ·exact .inr (.inl ⟨_,rfl⟩)
   ·exact .inr (.inr ⟨_,rfl⟩)
  ·exact lS.mem aJ v aa
 |[],_,_::_,_,h,_,_=>h.elim
 |[],_,[],_::_,h,_,_=>h.elim
 |_::_,_,[],_,h,_,_=>h.elim
 |_::_,_,_::_,[],h,_,_=>h.elim
theorem akK {P:arl} {kt:arn} {d:TypeDesc} {i:TypeInfo} {al:Type} {bX:al->List arh} (ak:P.underlying kt=are d) (aw:jz d=arf) (af:P.info? kt=are i) (dt:(i.size==0)=arj) (hlen:∀a,(bX a).length=i.size)
  (gZ:∀a,(bX a).all b7=arf) (hm:∀a,∀v∈bX a,(∃k n,v= .int k n)\/(∃n,v= .bool n)\/∃n,v=str n) (L8:∀a b,bX a=bX b->a=b)
  (Fi:∀a em w,(atm em 10000 kt (.agg (bX a).toArray)).run P w= .ok () w) (di:∀a b w,(Op.equal kt (.agg (bX a).toArray) (.agg (bX b).toArray)).run P w= .ok (decide (bX a=bX b)) w):ku P kt bX where
 len:=fun a=>by rw[hlen];simp[asm,af]
 pos:=by
  have:i.size≠0:=by intro h;rw[h] at dt;cases dt
  simp[asm,af];omega
 flat:=gZ
 yh:=fun a=>by have:=gZ a;simpa[cB,ak,aw,cN,aQ.flat,hS] using this
 inj:=fun a b eD=>by simp only[cB,ak,aw,cN] at eD;injection eD with eD;exact L8 a b (by simpa using eD)
 keyed:=by
  have yq:∀a,cN (cB P kt) (bX a)= .agg (bX a).toArray:=fun a=>by simp[cB,ak,aw,cN]
  refine ⟨?_, ?_, ?_⟩
  ·rintro em v w ⟨a,rfl⟩;rw[yq];exact Fi a em w
  ·rintro v es w ⟨a,rfl⟩ iB;rw[yq] at*;have now:aup d (.agg (bX a).toArray) es 0=(match es with|[]=>are ari|_::_=>ari):=by
    cases es with
    |nil=>rfl
    |cons e es=>cases d<;>first|(cases aw;done)|simp[aup,Instr.sameNow]
   have ab1:∀(es:List MapEntry) (n:Nat),(∀x∈es,∃b,x.key=cN (cB P kt) (bX b))->(au6 kt (.agg (bX a).toArray) es n).run P w= .ok (kp (.agg (bX a).toArray) es n) w:=by
    intro es;induction es with
    |nil=>intro n _;simp[au6,kp]
    |cons e es aU=>
     intro n iB;obtain ⟨b,ab⟩:=iB e (by simp);have Bj:(Op.equal kt (.agg (bX a).toArray) e.key).run P w= .ok (decide (bX a=bX b)) w:=by rw[ab,yq];exact di a b w
     have aU:=aU (n+1) fun x U=>iB x (by simp[U]);simp only[au6,arV,Bj,arN];by_cases eD:bX a=bX b
     ·have:e.key= .agg (bX a).toArray:=by rw[ab,yq,eD]
      simp[eD,kp,this]
     ·have:¬e.key= .agg (bX a).toArray:=by
       rw[ab,yq];intro h;injection h with h;exact eD (by simpa using h.symm)
      simp[eD,kp,this,aU]
   simp only[Instr.findKey,arV,dU ak,arN,now];cases es with
   |nil=>simp[kp]
   |cons e es=>exact ab1 (e::es) 0 iB
  ·rintro v w ⟨a,rfl⟩;rw[yq];have ab:atX 10000 (.agg (bX a).toArray) (.agg (bX a).toArray)=arf:=by
    have hm:=hm a;show (atX (9999+1) _ _)=arf;simp only[atX,beq_self_eq_true,Bool.true_and,arz];rintro ⟨p,q⟩ o1;have:p=q/\p∈bX a:=by
     have h1:=List.of_mem_zip o1;have:∀l:List arh,(p,q)∈l.zip l->p=q:=by
      intro l;induction l with
      |nil=>intro h;simp at h
      |cons z l aU=>
       intro h;simp at h;rcases h with ⟨rfl,rfl⟩|h
       ·rfl
       ·exact aU h
     exact ⟨this _ (by simpa using o1),by simpa using h1.1⟩
    obtain ⟨rfl,J⟩:=this;exact agw _ (hm p J)
   simp[Instr.keyThatStays,ab]
theorem ag5 {P:arl} {kt:arn} {aY:Array Field} {i:TypeInfo} {al:Type} {bX:al->List arh} (ak:P.underlying kt=are (.struct aY)) (af:P.info? kt=are i) (an:P.stoodInHeld kt=arj) (dt:(i.size==0)=arj) (hlen:∀a,(bX a).length=i.size)
  (aq:∀a b,lS P aY.toList 0 (bX a) (bX b)) (L8:∀a b,bX a=bX b->a=b):ku P kt bX:=
 akK ak rfl af dt hlen (fun a=>(aq a a).flat.1) (fun a=>(aq a a).mem) L8 (fun a em w=>agW ak (aq a a) em w) fun a b w=>YW ak an (aq a b) w
@[reducible] def aq4 (n:Int):arh:= .int .i64 n
@[reducible] def aq3 (b:Bool):arh:= .bool b
@[reducible] def aq5 (b:Nat):arh:= .pointer (are ⟨b,0,ari⟩)
section
variable {P:arl} {ops l:List Oper} {K:(Nat->arh)->Mem->Prop} {fr:Nat->arh} {m:Mem} {o:Oper} {v:arh}
theorem aoj (aM:wanted ops fr o=arf) (h:cm P (aL fr) o v) (hk:fc P ops l K (set fr o.dst v) m):fc P ops (o::l) K fr m:=fc.J9 aM (bO.pure h hk)
theorem fG {j d:Nat} {want lh:Bool} (aM:o.guard=are (j,want)) (aw:(ops[j]?).bind (·.dst)=are d) (aa:fr d= .bool lh) (ab:lh= !want) (h:fc P ops l K (set fr o.dst undef) m):fc P ops (o::l) K fr m:=fc.IA aM aw aa ab h
end
structure ap1 {al:Type} (T:cb al) (z:Nat->aV) (e m:Mem) (k:Option Nat) (xs:List al) (v:arh):Prop where
 a7:er T z m xs v
 fresh:∀b,ck v=are b->e.next<=b\/k=are b
section
variable {al:Type} {T:cb al} {z z':Nat->aV} {e m m':Mem} {k q:Option Nat} {xs:List al} {v v0:arh} {t:arn}
variable {P:arl} {ae:arm->arh} {o:Oper} {w:arh} {a8:List al} {x y:arm} {u:arn} {i:TypeInfo} {K:arh->Mem->Prop} {D:Tag->arh->Mem->Prop}
end
end Go.aQ
end
section
namespace Go.aQ
theorem Xf (w:World):∀b,(gK w).next<=b->(gK w).ay b= .dead:=(Yt w).dead
theorem ai6 (w:World):je (gK w).ay (gK w):=fun b ab=>⟨by
 by_cases h:b<w.heap.size
 ·simp[gK,h,aV.mem]
 ·simp[gK,h,aV.mem],by
 by_cases h:b<(gK w).next
 ·exact h
 ·exact absurd (Xf w b (by omega)) ab⟩
theorem N5 {w:World} {b:Nat} (h:b<w.heap.size):((gK w).ay b).fw:=by
 simp[gK,h,aV.fw]
theorem afC {w:World} {b o:Nat} {v:arh} (h:(gK w).load b o=are v):k1 (gK w).ay b o=are v:=by
 unfold Mem.load at h;unfold k1;exact h
open Classical in
noncomputable def seen (w:World) (b:Nat) (c:arh):arh:=if dr (gS w) c c then c else (xu b c).getD c
theorem wK {w:World} {b:Nat} {c:arh} (h:dr (gS w) c c):seen w b c=c:=by simp[seen,h]
def y6 (w:World) (c:arh):Prop:=dr (gS w) c c\/∃a,c= .slice (are a) 0 0
theorem Cv {w:World} {c:arh} (h:b7 c=arf):y6 w c:= .inl (oo h)
theorem Cg {w:World} {b:Nat} {c:arh} (h:b7 c=arf):seen w b c=c:=wK (oo h)
theorem aqU {w:World} {b:Nat} {c:arh} (h:y6 w c) (ab:b<w.heap.size):dr (gS w) (seen w b c) c:=by
 by_cases aa:dr (gS w) c c
 ·rw[wK aa];exact aa
 ·rcases h with h|⟨a,rfl⟩
  ·exact absurd h aa
  ·simp only[seen,aa,if_false,xu,asN];exact ⟨⟨b,0,0,0⟩,rfl,by simp[gS,ab], .inr (.inr (.inr (.inl ⟨rfl,rfl,a,rfl⟩)))⟩
theorem aic {w:World} {b o:Nat} {c:arh} (h:y6 w c) (ad:w.cell? ⟨b,o,ari⟩=are c):(gK w).load b o=are (seen w b c):=by
 have aO:b<w.heap.size:=aui w ⟨b,o,ari⟩ ad;by_cases aa:dr (gS w) c c
 ·rw[wK aa];exact aha ad aa
 ·rcases h with h|⟨a,rfl⟩
  ·exact absurd h aa
  ·simp[Mem.load,gK,aO,ad,aa,xu,seen]
theorem agB {w:World} {a:Addr} {v:arh} (h:w.cell? a=are v):a.spot=ari/\a.block<w.heap.size:=by
 refine ⟨?_,aui w a h⟩;simp only[World.cell?] at h;split at h
 ·split at h
  ·cases h
  ·rename_i aq;simpa using aq
 ·cases h
structure nU (P:arl) {al:Type} (T:cb al) (G:al->Prop):Prop where
 aW:P.cellsOf T.tid=T.aW
 pos:0<T.aW
 rd:∀{H:Type} {enc:arn×arh->H} {w:World} {ni:Nat} {cs:List arh} {x:DataW H×List MemPlace},auq enc P w 0 (fun _=>arf) arf ni T.tid cs=are x->
  (∀c∈cs,y6 w c)/\∀b,(b<w.heap.size\/∀c∈cs,dr (gS w) c c)->∃a,T.rd (gK w).ay a (cs.map (seen w b))/\G a
theorem nU.conv {P:arl} {al:Type} {T AL:cb al} {G:al->Prop} (h:nU P T G) (ak:AL.tid=T.tid) (aq:AL.aW=T.aW) (ao:∀z x cs,T.rd z x cs->AL.rd z x cs):nU P AL G where
 aW:=by rw[ak,aq];exact h.aW
 pos:=by rw[aq];exact h.pos
 rd:=fun e=>by rw[ak] at e;obtain ⟨h1,J⟩:=h.rd e;exact ⟨h1,fun b ab=>by obtain ⟨x,U,aM⟩:=J b ab;exact ⟨x,ao _ _ _ U,aM⟩⟩
def T0 (k:aro) (n:Int):Prop:=k.min<=n/\n<=k.max
def T1 (s:List UInt8):Prop:=s.length<=maxLen
def TZ {al:Type} (_:al):Prop:=True
def A3 {al:Type} (G:al->Prop) (xs:List al):Prop:=xs.length<=maxLen/\∀x∈xs,G x
theorem aj9 {P:arl} {t:arn} {k:aro} {i:TypeInfo} (ak:P.underlying t=are (.int k)) (af:P.info? t=are i) (aq:i.size=1):nU P (El t k) (T0 k) where
 aW:=by simp[El,cb.flat,asm,af,aq]
 pos:=by simp[El,cb.flat]
 rd:=fun h=>by obtain ⟨n,rfl,_,hw⟩:=DataW.trod_int ak h;exact ⟨fun c ad=>by simp at ad;subst ad;exact Cv rfl,fun b _=>⟨n,by simp[El,cb.flat,Cg (w:=_) (b:=b) (c:= .int k n) rfl],by simpa[Lit.wf,T0] using hw⟩⟩
theorem aqX {P:arl} {t:arn} {i:TypeInfo} (ak:P.underlying t=are (.int .u8)) (af:P.info? t=are i) (aq:i.size=1):nU P (iN t) TZ where
 aW:=by simp[iN,cb.flat,asm,af,aq]
 pos:=by simp[iN,cb.flat]
 rd:=fun h=>by
  obtain ⟨n,rfl,_,hw⟩:=DataW.trod_int ak h;refine ⟨fun c ad=>by simp at ad;subst ad;exact Cv rfl,fun b _=>⟨asR n.toNat, ?_,trivial⟩⟩;simp[Lit.wf,aro.min,aro.max,aro.signed,aro.bits] at hw;have:((asR n.toNat).toNat:Int)=n:=by simp;omega
  show [asM .u8 n].map (seen _ b)=[asM .u8 ((asR n.toNat).toNat:Int)];rw[this];simp[Cg (w:=_) (b:=b) (c:= .int .u8 n) rfl]
theorem aqV {P:arl} {t:arn} {i:TypeInfo} (ak:P.underlying t=are .bool) (af:P.info? t=are i) (aq:i.size=1):nU P (De t) TZ where
 aW:=by simp[De,cb.flat,asm,af,aq]
 pos:=by simp[De,cb.flat]
 rd:=fun h=>by obtain ⟨n,rfl,_⟩:=DataW.trod_bool ak h;exact ⟨fun c ad=>by simp at ad;subst ad;exact Cv rfl,fun b _=>⟨n,by simp[De,cb.flat,Cg (w:=_) (b:=b) (c:= .bool n) rfl],trivial⟩⟩
theorem aqZ {P:arl} {t:arn} {i:TypeInfo} (ak:P.underlying t=are .string) (af:P.info? t=are i) (aq:i.size=1):nU P (Em t) T1 where
 aW:=by simp[Em,cb.flat,asm,af,aq]
 pos:=by simp[Em,cb.flat]
 rd:=fun h=>by obtain ⟨n,rfl,_,aq⟩:=DataW.trod_string ak h;exact ⟨fun c ad=>by simp at ad;subst ad;exact Cv rfl,fun b _=>⟨n.data.toList,by simp[Em,cb.flat,str,Cg (w:=_) (b:=b) (c:= .string n) rfl],by simpa[T1] using aq⟩⟩
theorem Y0 {P:arl} {al:Type} {T:cb al} {G:al->Prop} {t:arn} (ho:nU P T G) (ak:P.underlying t=are (.slice T.tid)) {H:Type} {enc:arn×arh->H} {w:World} {ni:Nat} {cs:List arh} {x:DataW H×List MemPlace}
  (h:auq enc P w 0 (fun _=>arf) arf ni t cs=are x):∃c,cs=[c]/\y6 w c/\∀b,(b<w.heap.size\/dr (gS w) c c)->∃xs,dW T (gK w).ay xs (seen w b c)/\A3 G xs:=by
 rcases Deep.open_slice ak h with ⟨rfl,_⟩|⟨a,len,cap,m,n,D,aby,rfl,_,ai,hm,fm,_,U⟩
 ·exact ⟨_,rfl,Cv rfl,fun b _=>⟨[],by rw[Cg rfl];exact .nil,by simp[A3]⟩⟩
 ·simp only[if_true] at fm;subst fm;refine ⟨_,rfl, ?_⟩;rcases auc m with az|dt
  ·subst az;have dT:len=0:=by omega
   subst dT;refine ⟨.inr ⟨a,rfl⟩,fun b ab=>⟨[], ?_,by simp[A3]⟩⟩;by_cases aa:dr (gS w) (.slice (are a) 0 0) (.slice (are a) 0 0)
   ·rw[wK aa];obtain ⟨e,h1,J,_⟩:=aa;obtain ⟨ay,off,spot⟩:=a;simp only at h1 J;subst h1;exact .inr ⟨ay,off,0,rfl,N5 (wM J).1, .inr ⟨by simp[bT],ars _⟩,fun i x af=>by simp at af⟩
   ·have ab:b<w.heap.size:=by
     rcases ab with ab|ab
     ·exact ab
     ·exact absurd ab aa
    simp only[seen,aa,if_false,xu,asN];exact .inr ⟨b,0,0,rfl,N5 ab, .inr ⟨by simp[bT],ars _⟩,fun i x af=>by simp at af⟩
  ·have aq:=ho.aW;have an:=ho.pos;obtain ⟨qt,g1,_⟩:=U 0 dt;obtain ⟨_,g2,g3⟩:=World.cells?_some g1;rw[aq] at g2 g3;have g4:=g3 0 an;obtain ⟨v0,ic⟩:∃v,qt[0]? =are v:=⟨qt[0]'(by omega),by simp[show 0<qt.length by omega]⟩
   rw[ic] at g4;simp only[asz] at g4;have vB:(a.add 0).add 0=a:=by simp[Addr.add]
   rw[vB] at g4;obtain ⟨vY,hblk⟩:=agB g4;obtain ⟨ay,off,spot⟩:=a;simp only at vY hblk;subst vY;have aa:dr (gS w) (.slice (are ⟨ay,off,ari⟩) len m) (.slice (are ⟨ay,off,ari⟩) len m):=
    ⟨⟨ay,0,0,0⟩,rfl,by simp[gS,hblk], .inl ⟨by simp only[maxLen] at hm;simp only[bT];omega,by simp⟩⟩
   refine ⟨.inl aa,fun b _=> ?_⟩;rw[wK aa];have kf:∀i,i<len->∃y:al,G y/\∃ds,T.rd (gK w).ay y ds/\nE (gK w).ay ay (off+i*T.aW) ds:=by
    intro i af;obtain ⟨ci,bm,br⟩:=U i (by omega);obtain ⟨_,dj,gk⟩:=World.cells?_some bm;rw[aq] at dj gk;obtain ⟨cy,dm⟩:=ho.rd br;obtain ⟨y,ah,lZ⟩:=dm ay (.inl hblk);refine ⟨y,lZ,_,ah,fun j u ap=> ?_⟩;rw[ar4] at ap;cases ad:ci[j]? with
    |none=>rw[ad] at ap;cases ap
    |some c=>rw[ad] at ap;simp at ap;subst ap;have hP:=(arp.1 ad).1;have l7:=gk j (by omega);rw[ad,ot,ot] at l7;exact afC (aic (cy c (List.mem_of_getElem? ad)) l7)
   have:∃xs:List al,xs.length=len/\(∀y∈xs,G y)/\∀(i:Nat) (y:al),xs[i]? =are y->∃ds,T.rd (gK w).ay y ds/\nE (gK w).ay ay (off+i*T.aW) ds:=by
    clear U ai hm aa g1 dt;revert kf;generalize len=l;induction l with
    |zero=>intro _;exact ⟨[],rfl,fun y ah=>by simp at ah,fun i y af=>by simp at af⟩
    |succ l aU=>
     intro kf;obtain ⟨xs,aT,cH,e2⟩:=aU fun i af=>kf i (by omega);obtain ⟨y,lZ,ah⟩:=kf l (by omega);refine ⟨xs++[y],by simp[aT],fun u hu=>by rcases List.mem_append.1 hu with hu|hu;exact cH u hu;simp at hu;subst hu;exact lZ,fun i u af=> ?_⟩;by_cases jW:i<l
     ·rw[arQ (by omega)] at af;exact e2 i u af
     ·have aO:=(arp.1 af).1;simp at aO;have:i=l:=by omega
      subst this;rw[arP (by omega)] at af;simp[aT] at af;subst af;exact ah
   obtain ⟨xs,aT,cH,e2⟩:=this;refine ⟨xs, .inr ⟨ay,off,m,by rw[aT],N5 hblk, .inr ⟨by simp only[maxLen] at hm;simp only[bT];omega,by rw[aT];exact ai⟩,e2⟩,by omega,cH⟩
theorem aqW {P:arl} {al:Type} {T:cb al} {G:al->Prop} {t:arn} {i:TypeInfo} (ho:nU P T G) (ak:P.underlying t=are (.slice T.tid)) (af:P.info? t=are i) (aq:i.size=1):nU P (JO t T) (A3 G) where
 aW:=by simp[JO,asm,af,aq]
 pos:=by simp[JO]
 rd:=fun h=>by obtain ⟨c,rfl,h1,J⟩:=Y0 ho ak h;refine ⟨fun d aw=>by simp at aw;subst aw;exact h1,fun b ab=> ?_⟩;obtain ⟨xs,U,lZ⟩:=J b (ab.imp id fun h=>h c (by simp));exact ⟨xs,⟨_,rfl,U⟩,lZ⟩
theorem aiY {P:arl} {al:Type} {T:cb al} {G:al->Prop} {t:arn} (ho:nU P T G) (ak:P.underlying t=are (.slice T.tid)) {H:Type} {enc:arn×arh->H} {w:World} {base:Nat} {v:arh} {d:DataW H} {bx:List MemPlace}
  (cy:aur P w .any base t v) (h:DataW.Trod enc P w 0 (fun _=>arf) arf t v d bx):bU (gS w) v v/\∃xs,dW T (gK w).ay xs v/\A3 G xs:=by
 obtain ⟨ni,aK⟩:=h;obtain ⟨c,ad,h1,J⟩:=Y0 ho ak aK;have aa:dr (gS w) v v/\c=v:=by
  simp only[aur,ak,Cell.okWide,Cell.ok] at cy;cases v with
  |slice a l fv=>
   have fl:c= .slice a l fv:=by simpa[atU] using ad.symm
   refine ⟨?_,fl⟩;cases a with
   |none=>exact rfl
   |some a=>
    simp only at cy;obtain ⟨ai,hm,ax⟩:=cy;obtain ⟨_,aq,row,cells,pQ,_⟩:=ax;have aO:a.block<w.heap.size:=by
     by_cases ab:a.block<w.heap.size
     ·exact ab
     ·simp[World.shape?,aus (Nat.le_of_not_lt ab)] at pQ
    obtain ⟨ay,off,spot⟩:=a;simp only at aq aO;subst aq;refine ⟨⟨ay,0,0,0⟩,rfl,by simp[gS,aO], .inl ⟨?_,by simp⟩⟩;simp only[aro.max,aro.signed,aro.bits] at hm;simp only[bT];simp at hm;omega
  |_=>simp at cy
 obtain ⟨aa,rfl⟩:=aa;refine ⟨bU.p0 aa, ?_⟩;obtain ⟨xs,U⟩:=J 0 (.inr aa);rw[wK aa] at U;exact ⟨xs,U⟩
theorem ajy {P:arl} {w:World} {base:Nat} {u:arn} {c:arh} (h:Cell.okWide P w .any base u c) (ad:y6 w c):dr (gS w) c c:=by
 rcases ad with ad|⟨a,rfl⟩
 ·exact ad
 ·cases hu:P.underlying u with
  |none=>simp[Cell.okWide,Cell.ok,hu] at h
  |some d=>
   cases d<;>simp only[Cell.okWide,Cell.ok,hu] at h
   obtain ⟨_,_,_,aq,row,cells,pQ,_⟩:=h;have aO:a.block<w.heap.size:=by
    by_cases ab:a.block<w.heap.size
    ·exact ab
    ·simp[World.shape?,aus (Nat.le_of_not_lt ab)] at pQ
   obtain ⟨ay,off,spot⟩:=a;simp only at aq aO;subst aq;exact ⟨⟨ay,0,0,0⟩,rfl,by simp[gS,aO], .inl ⟨by simp[bT],by simp⟩⟩
theorem aqS {P:arl} {al:Type} {T:cb al} {G:al->Prop} {aY:Array Field} (ho:nU P T G) (ak:P.underlying T.tid=are (.struct aY)) {H:Type} {enc:arn×arh->H} {w:World} {base:Nat} {v:arh} {d:DataW H} {bx:List MemPlace}
  (cy:aur P w .any base T.tid v) (h:DataW.Trod enc P w 0 (fun _=>arf) arf T.tid v d bx):bU (gS w) v v/\∃x cs,v= .agg cs.toArray/\T.rd (gK w).ay x cs/\G x:=by
 obtain ⟨ni,aK⟩:=h;simp only[aur,ak] at cy;obtain ⟨cs,rfl,bu,ts,U7,_,nk⟩:=cy;have vG:auq enc P w 0 (fun _=>arf) arf ni T.tid cs.toList=are (d,bx):=by simpa[atU] using aK
 obtain ⟨h1,J⟩:=ho.rd vG;have kd:∀c∈cs.toList,dr (gS w) c c:=by intro c ad;obtain ⟨i,af⟩:=List.getElem?_of_mem ad;obtain ⟨u,_,hu⟩:=nk i c (by simpa using af);exact ajy hu (h1 c ad)
 obtain ⟨x,U,lZ⟩:=J 0 (.inr kd);have qH:cs.toList.map (seen w 0)=cs.toList:=by
  have:∀l:List arh,(∀c∈l,dr (gS w) c c)->l.map (seen w 0)=l:=by
   intro l;induction l with
   |nil=>intro _;rfl
   |cons c l aU=>intro ai;rw[asc,wK (ai c (by simp)),aU fun d aw=>ai d (by simp[aw])]
  exact this _ kd
 rw[qH] at U;refine ⟨⟨cs,rfl, ?_⟩,x,cs.toList,by simp,U,lZ⟩;have:∀l:List arh,(∀c∈l,dr (gS w) c c)->a1 (dr (gS w)) l l:=by
  intro l;induction l with
  |nil=>intro _;exact arH
  |cons c l aU=>intro ai;exact ⟨ai c (by simp),aU fun d aw=>ai d (by simp[aw])⟩
 exact this _ kd
theorem ap' {P:arl} {H:Type} {enc:arn×arh->H} {w:World} {n:Nat} {aY:Array Field} {cs:List arh} {xs:List (DataW H×List MemPlace)} (hlen:xs.length=aY.size)
  (aK:∀(i:Nat) (f:Field),aY[i]? =are f->auq enc P w 0 (fun _=>arf) arf n f.type ((cs.drop f.offset).take (P.cellsOf f.type))=xs[i]?) (i:Nat) {f:Field} (af:aY[i]? =are f):
  ∃y,auq enc P w 0 (fun _=>arf) arf n f.type ((cs.drop f.offset).take (P.cellsOf f.type))=are y:=by
 have aO:=(ar6.1 af).1;rw[aK i f af];exact ⟨xs[i]'(by omega),by simp[show i<xs.length by omega]⟩
theorem aqT {P:arl} {al:Type} {T:cb al} {t e:arn} (ak:P.underlying t=are (.slice e)) {H:Type} {enc:arn×arh->H} {w:World} {v:arh} {d:DataW H} {bx:List MemPlace} {z:Nat->aV} {xs:List al}
  (h:DataW.Trod enc P w 0 (fun _=>arf) arf t v d bx) (aq:dW T z xs v):xs.length=0\/∃cg spare,d= .slice cg spare/\cg.length=xs.length:=by
 obtain ⟨ni,aK⟩:=h;rcases aq with ⟨rfl,rfl⟩|⟨b,off,c,rfl,_⟩
 ·exact .inl rfl
 ·rcases Deep.open_slice ak aK with ⟨az,_⟩|⟨a,len,cap,m,n,D,aby,ad,_,_,_,_,U,_⟩
  ·simp[atU] at az
  ·simp only[atU,List.cons.injEq,ast.injEq,and_true] at ad;obtain ⟨_,h1,_⟩:=ad;injection U with U _;exact .inr ⟨_,_,U,by simp[<-h1]⟩
end Go.aQ
end
section
namespace Go.aQ
section
variable {z:Nat->aV} {e m:Mem} {k:Option Nat} {b n:Nat} {cs:List arh} {t:arn} {v:arh}
variable {P:arl} {ae:arm->arh} {o:Oper} {x:arm} {i:TypeInfo} {D:Tag->arh->Mem->Prop}
theorem h6.afD (h:h6 z e m k b cs t) (aR:cu z e m k):∃z',eb z z'/\cu z' e m k/\nE z' b 0 cs/\∀p,dV p (are b)->∀c,p=are c->z' c=z c:=by
 refine ⟨ib z m (are b),CX fun c ad=>by cases ad;exact h.dead,⟨Hq aR.a6 (fun c ad=>by cases ad;exact ⟨h.lt,by rw[h.ay];rfl⟩),aR.dead,aR.lX,aR.next,aR.kept⟩,fun j u ap=> ?_,fun p an c ad=> ?_⟩
 ·simp only[k1,ib,if_true,h.ay,arE];exact ap
 ·unfold ib;rw[if_neg (an c ad)]
theorem h6.freeze (h:h6 z e m k b cs t) (av:e.next<=b) (aR:cu z e m k):∃z',cz e.next z z'/\cu z' e m k/\nE z' b 0 cs/\∀p,dV p (are b)->∀c,p=are c->z' c=z c:=by
 obtain ⟨z',h1,J,aj,aJ⟩:=h.afD aR;refine ⟨ib z m (are b),⟨CX fun c ad=>by cases ad;exact h.dead,fun c ad=> ?_⟩,⟨Hq aR.a6 (fun c ad=>by cases ad;exact ⟨h.lt,by rw[h.ay];rfl⟩),aR.dead,aR.lX,aR.next,aR.kept⟩,fun j u ap=> ?_,fun p an c ad=> ?_⟩
 ·unfold ib;rw[if_neg (by intro ab;cases ab;omega)]
 ·simp only[k1,ib,if_true,h.ay,arE];exact ap
 ·unfold ib;rw[if_neg (an c ad)]
theorem ajn (h:o.op= .alloc t) (af:P.info? t=are i) {b1:arh} (aD:i.zero=are b1) (b3:b1.cells.toList.all b7=arf) (aq:b1.cells.size=i.size) (cs:List arh) (ad:b1.cells.toList=cs) (aR:cu z e m k)
  (hk:∀b m',e.next<=b->cu z e m' k->h6 z e m' k b cs t->eX m m' ari->(∀p,(∀c,p=are c->c<m.next)->dV p (are b))->D .new (.pointer (are ⟨b,0,ari⟩)) m'):bO P ae o m D:=by
 subst ad;obtain ⟨J,aj,aJ,bk⟩:=Po (L:=b1.cells.toList) (t:=t) aR;exact bO.new (.alloc t i b1 h af aD b3 aq) (hk _ _ aR.next J aj aJ bk)
theorem anT (h:o.op= .box t x) (af:P.info? t=are i) (U:ae x=v) (aa:storable v=arf) (cs:List arh) (ad:v.cells.toList=cs) (aq:cs.length=i.size) (aR:cu z e m k)
  (hk:∀b m',e.next<=b->cu z e m' k->h6 z e m' k b cs t->eX m m' ari->(∀p,(∀c,p=are c->c<m.next)->dV p (are b))->D .new (.pointer (are ⟨b,0,ari⟩)) m'):bO P ae o m D:=by
 subst U ad;obtain ⟨J,aj,aJ,bk⟩:=Po (L:=(ae x).cells.toList) (t:=t) aR;exact bO.new (.box t x i h af aa (by simpa using aq)) (hk _ _ aR.next J aj aJ bk)
theorem Z4 {fn:Fn} {cap:Array arm} {caps:Array arh} (h:o.op= .makeFunc fn #[] cap) (ad:cap.map ae=caps) (aq:caps.toList.all storable=arf):cm P ae o (.func fn #[] caps):=by
 subst ad;have:=cm.func (P:=P) (ae:=ae) (o:=o) fn #[] cap h (fun x U=>by
  simp only[atd] at U;have:=arz.1 aq (ae x) (by simp only[Array.toList_map];exact List.mem_map_of_mem (by simpa using U));exact this)
 simpa using this
theorem CG {f:FuncId} {y:arm} {as:Array arm} {ts:Array arn} {args caps all:Array arh} (h:o.op= .call {callee:= .value y,args:=as,argTypes:=ts}) (aK:ae y= .func (.func f) #[] caps) (ar:as.map ae=args) (kd:args++caps=all):callee o ae f all:=
 ⟨_,as,ts,#[],caps,h,aK,by rw[ar,<-kd];simp⟩
end
open Classical in
noncomputable def o9 {al bs:Type} (xs:List al) (f:Bool->Option bs):Option bs:=if xs=[] then (if f arf=f arj then f arf else ari) else f arj
theorem Gx {al bs:Type} {xs:List al} {f:Bool->Option bs} {r:bs} (h:o9 xs f=are r) (t:Bool) (ak:t=arf->xs=[]):f t=are r:=by
 unfold o9 at h;by_cases U:xs=[]
 ·rw[if_pos U] at h;split at h
  ·cases t
   ·rename_i he;rw[<-he];exact h
   ·exact h
  ·cases h
 ·rw[if_neg U] at h;cases t
  ·exact h
  ·exact absurd (ak rfl) U
theorem Yy {al bs:Type} {xs:List al} {f:Bool->Option bs} {r:bs} (h:∀t,(t=arf->xs=[])->f t=are r):o9 xs f=are r:=by
 unfold o9;by_cases U:xs=[]
 ·rw[if_pos U,if_pos (by rw[h arf fun _=>U,h arj (by simp)])];exact h arf fun _=>U
 ·rw[if_neg U];exact h arj (by simp)
section
variable {al bs:Type} {T:cb al} {z:Nat->aV} {e m:Mem} {k:Option Nat} {xs:List al} {v:arh} {t u:arn} {f:Bool->Option bs} {r:bs}
variable {P:arl} {ae:arm->arh} {o:Oper} {x y:arm} {fJ:arn}
theorem zx (neq:Bool) (h:o.op= .binOp (if neq then .neq else .eql) t x y u) (ak:P.underlying t=are (.slice fJ)) (U:ae x= .slice ari 0 0) (ah:ae y= .slice ari 0 0):cm P ae o (.bool (!neq)):=by
 refine sC (x:=x) (y:=y) (by rw[h];rfl) (by rw[h];intros;simp) (by rw[U];rfl) (by rw[ah];rfl) rfl fun w=> ?_;have aM:(eqGuard (if neq then .neq else .eql) t x y (.slice ari 0 0) (.slice ari 0 0)).run P w= .ok () w:=by cases neq<;>simp[eqGuard]
 have ab:(binOp (if neq then .neq else .eql) t (.slice ari 0 0) (.slice ari 0 0)).run P w= .ok (.bool (!neq)) w:=by
  cases neq
  ·exact Lib.run_eql_slice_nil w t fJ ari 0 0 0 0 ak
  ·exact run_neq_slice_nil_any w t fJ ari 0 0 0 0 ak
 simp only[execOp,h,U,ah,arV,aM,ab,arN,ar0]
theorem dW.Na (h:dW T z xs v):(v= .slice ari 0 0/\xs=[])\/∃a l c,v= .slice (are a) l c:=by
 rcases h with h|⟨b,off,c,rfl,_⟩
 ·exact .inl h
 ·exact .inr ⟨_,_,_,rfl⟩
theorem er.Na (h:er T z m xs v):(v= .slice ari 0 0/\xs=[])\/∃a l c,v= .slice (are a) l c:=by
 rcases h with h|⟨b,f0,L,c,rfl,_⟩
 ·exact .inl h
 ·exact .inr ⟨_,_,_,rfl⟩
end
end Go.aQ
end
section
namespace Go.aQ
section
variable {al:Type} {T:cb al} {z z':Nat->aV} {e m m':Mem} {k p q:Option Nat} {xs r:List al} {v:arh} {t u:arn} {b:Nat}
variable {P:arl} {ae:arm->arh} {o:Oper} {x y:arm} {i:TypeInfo} {D:Tag->arh->Mem->Prop} {fJ:arn}
theorem Hx (h:o.op= .call {callee:= .builtin .len,args:=#[x],argTypes:=#[t]}) (ak:P.underlying t=are (.slice fJ)) (U:ae x=v) (aq:∃a c,v= .slice a xs.length c):cm P ae o (.int .i64 xs.length):=by
 obtain ⟨a,c,rfl⟩:=aq;exact .len x t fJ a _ c h ak U
theorem cO.elem {n:Int} {a:al} {f0 l c:Nat} (h:cO T z e m k xs v) (aa:v= .slice (are ⟨b,f0,ari⟩) l c) (aM:bc xs n=are a):
  ∃cs,T.rd z a cs/\xs[n.toNat]? =are a/\∀(j:Nat) (u:arh),cs[j]? =are u->m.load b (f0+n.toNat*T.aW+j)=are u:=by
 obtain ⟨az,h1,J⟩:=pd aM;rcases h.a7 with ⟨_,rfl⟩|⟨bV,f1,L,bg,rfl,ab,_,_,ai,_,aJ⟩
 ·simp at J
 ·obtain ⟨cs,g1,g2⟩:=aJ _ a J;cases aa;exact ⟨cs,g1,J,fun j u ap=>by simp only[Mem.load,ab];exact g2 j u ap⟩
def cb.as (T:cb al) (t:arn):cb al:={T with tid:=t}
theorem ajm {x0:al} {n:Nat} {c:List arh} (h:o.op= .alloc t) (af:P.info? t=are i) {b1:arh} (aD:i.zero=are b1) (b3:b1.cells.toList.all b7=arf) (aq:b1.cells.size=i.size) (ad:b1.cells.toList=(arL n c).flatten) (dm:T.rd z x0 c) (av:ar5 n bT=arf) (aR:cu z e m k)
  (hk:∀b m',cu z e m' k->cO (T.as t) z e m' k (arL n x0) (.slice (are ⟨b,0,ari⟩) n n)->eX m m' ari->(∀p,(∀c,p=are c->c<m.next)->dV p (are b))->D .new (.pointer (are ⟨b,0,ari⟩)) m'):bO P ae o m D:=by
 obtain ⟨J,aj,aJ,bk⟩:=Po (L:=b1.cells.toList) (t:=t) aR;have hlen:=T.len _ _ _ dm;have ai:b1.cells.toList.length=n*T.aW:=by rw[ad];simp[hlen]
 have lv:n<bT:=by simp[ar5] at av;omega
 refine bO.new (.alloc t i b1 h af aD b3 aq) (hk _ _ J ⟨er.x8 ⟨m.next,b1.cells.toList,n,by simp,aj.ay,aj.lt,aj.dead, ?_, .inr ⟨lv,by simp, ?_⟩,fun j x ap=> ?_⟩,fun b ab=>by cases ab;exact aR.next⟩ aJ bk)
 ·rw[ai];simp[cb.as]
 ·rw[ai];simp[cb.as]
 ·obtain ⟨aO,U⟩:=arp.1 ap;simp at aO U;subst U;refine ⟨c,dm,fun q u aF=> ?_⟩;have BH:=(arp.1 aF).1;rw[ad];have key:∀(n j:Nat),j<n->(arL n c).flatten[j*T.aW+q]? =are u:=by
   intro n;induction n with
   |zero=>intro j ap;omega
   |succ n aU=>
    intro j ap;rw[au5,atL];cases j with
    |zero=>rw[asz,arE,arQ BH];exact aF
    |succ j=>rw[arP (by rw[hlen,auN];omega),hlen,show (j+1)*T.aW+q - T.aW=j*T.aW+q by rw[auN];omega];exact aU j (by omega)
  exact key n j aO
theorem anV {bm:aro} {n:Int} {a:al} {l:Nat} (h:o.op= .indexAddr t x y) (ak:P.underlying t=are (.array l fJ)) (af:P.info? fJ=are i) (bu:i.size=T.aW) (U:ae x= .pointer (are ⟨b,0,ari⟩)) (ah:ae y= .int bm n) (aq:cO T z e m k xs (.slice (are ⟨b,0,ari⟩) l l)) (aM:bc xs n=are a)
  (hk:∀cs,T.rd z a cs->xs[n.toNat]? =are a->(∀(j:Nat) (u:arh),cs[j]? =are u->m.load b (n.toNat*T.aW+j)=are u)->D .pure (.pointer (are ⟨b,n.toNat*T.aW,ari⟩)) m):bO P ae o m D:=by
 obtain ⟨cs,g1,g2,g3⟩:=aq.elem rfl aM;obtain ⟨az,h1,J⟩:=pd aM;have ai:xs.length=l:=by obtain ⟨a',bg,he⟩:=aq.a7.len;injection he with _ he _;exact he.symm
 have:=cm.BU (P:=P) (ae:=ae) (o:=o) t x y fJ i b 0 l bm n h ak af U ah az (by rw[<-ai];exact h1);rw[arE,bu] at this;exact bO.pure this (hk _ g1 g2 (by simpa using g3))
end
end Go.aQ
end
section
namespace Go.aQ
structure lT (D:Nat->Type) where
 T:(t:Nat)->cb (D t)
 bX:(t:Nat)->D t->List arh
section
variable (D:Nat->Type)
inductive bC where
 |int (k:aro) (n:Int)
 |bool (b:Bool)
 |str (s:List UInt8)
 |fH|y4|nA
 |aE (e:Nat) (xs:List (D e))
 |mp (t kt vt:Nat) (es:List (D kt×D vt))
 |own (i:Nat)
 |wk
 |fn (f:Nat) (is:List Nat)
inductive aN where
 |un|undef
 |c (v:bC D)
 |agg (t:Nat) (cs:List (bC D))
 |box (i off:Nat)
 |arr (i:Nat)
 |el (i e:Nat) (ca:Int) (off:Nat)
 |gw (t:Nat) (cs:List (bC D)) (off:Nat)
 |fn (f:Nat) (caps:List (Nat×List (bC D)))
 |mV (l:List (bC D⊕(Nat×List (bC D))))
 |cut (i e bf n:Nat)
 |full (e:Nat) (xs:List (D e))
inductive aG where
 |dead
 |aE (e:Nat) (xs:List (D e)) (a6 w:Bool)
 |box (t:Nat) (cs:List (bC D)) (a6 w:Bool)
 |recv (t:Nat) (cs:List (bC D)) (w:Bool)
 |arr (e t n:Nat) (xs:List (D e)) (w:Bool)
 |map (t kt vt:Nat) (es:List (D kt×D vt)) (a6 w:Bool)
 |nest (e t:Nat) (up:Option (List (D t)->D e)) (c8:List (List (D t))) (hole:Option (Int×Nat)) (w:Bool)
end
section
variable {D:Nat->Type} (G:lT D)
def lT.M (t kt vt:Nat):nS (D kt) (D vt):=⟨G.bX kt,G.bX vt,t⟩
def rK (vs:List arh) (i:Nat) (g:arh):Prop:=vs[i]? =are g/\∃b,g= .pointer (are ⟨b,0,ari⟩)
def db (z:Nat->aV) (vs:List arh):bC D->arh->Prop
 | .int k n,v=>v= .int k n
 | .bool b,v=>v= .bool b
 | .str s,v=>v=aQ.str s
 | .fH,v=>v= .slice ari 0 0
 | .y4,v=>v= .pointer ari
 | .nA,v=>v= .map ari
 | .aE e xs,v=>dW (G.T e) z xs v
 | .mp t kt vt es,v=>kN (G.M t kt vt) z es v
 | .own i,v=>vs[i]? =are v/\storable v=arf/\v.cells=#[v]
 | .wk,v=>v= .nilFunc
 | .fn f is,v=>∃gs:List arh,v= .func (.func f) #[] gs.toArray/\a1 (rK vs) is gs
def uY (z:Nat->aV) (vs:List arh):bC D⊕(Nat×List (bC D))->arh->Prop
 | .inl c,v=>db G z vs c v
 | .inr p,v=>∃ds:List arh,v= .agg ds.toArray/\a1 (db G z vs) p.2 ds
def mf (z:Nat->aV) (vs:List arh) (cs:List (bC D)) (off:Nat) (v:arh):Prop:=
 ∃b o ds,v= .pointer (are ⟨b,o+off,ari⟩)/\nE z b o ds/\a1 (db G z vs) cs ds
def oL (aW bf n:Nat) (w v:arh):Prop:=
 (w= .slice ari 0 0/\v= .slice ari 0 0/\bf=0/\n=0)\/
 ∃b f0 l c off bg,w= .slice (are ⟨b,f0,ari⟩) l c/\v= .slice (are ⟨b,off,ari⟩) (n - bf) bg/\bf<=n/\n<=l/\(off=f0+bf*aW\/(n<=bf/\off=f0))/\((c=bT/\bg=bT)\/(c<bT/\bg=c - bf))
def rel (z:Nat->aV) (vs:List arh):aN D->arh->Prop
 | .un,_=>True
 | .undef,v=>v=_root_.Go.undef
 | .c c,v=>db G z vs c v
 | .agg _ cs,v=>∃ds:List arh,v= .agg ds.toArray/\a1 (db G z vs) cs ds
 | .box i off,v=>∃b,vs[i]? =are (.pointer (are ⟨b,0,ari⟩))/\v= .pointer (are ⟨b,off,ari⟩)
 | .arr i,v=>∃b l,vs[i]? =are (.slice (are ⟨b,0,ari⟩) l l)/\v= .pointer (are ⟨b,0,ari⟩)
 | .el i e ca off,v=>∃b f0 l c,vs[i]? =are (.slice (are ⟨b,f0,ari⟩) l c)/\v= .pointer (are ⟨b,f0+ca.toNat*(G.T e).aW+off,ari⟩)
 | .gw _ cs off,v=>mf G z vs cs off v
 | .fn f caps,v=>∃gs:List arh,v= .func (.func f) #[] gs.toArray/\a1 (fun c g=>mf G z vs c.2 0 g) caps gs
 | .mV l,v=>∃ds:List arh,v= .tuple ds.toArray/\a1 (uY G z vs) l ds
 | .cut i e bf n,v=>∃w,db G z vs (.own i) w/\oL (G.T e).aW bf n w v
 | .full e xs,v=>dW (G.T e) z xs v/\xs.length<bT/\∃a,v= .slice a xs.length xs.length
def qn (t:arn):cb arh where
 aW:=1
 tid:=t
 rd:=fun _ v cs=>cs=[v]/\storable v=arf/\v.cells=#[v]
 len:=fun _ v cs h=>by rw[h.1];rfl
 mono:=fun _ _ _ _ _ h=>h
 one:=fun _ v cs h c ad=>by rw[h.1] at ad;simp at ad;subst ad;exact h.2
def tj {al:Type} (T:cb al) (z:Nat->aV) (n cM j:Nat) (xs:List al) (w:arh):Prop:=
 (w= .slice ari 0 0/\xs=[])\/
 ∃b f0 L c,w= .slice (are ⟨b,f0,ari⟩) xs.length c/\z b= .lock cM j L T.tid/\n<=b/\f0+xs.length*T.aW<=L.length/\(c=bT\/(c<bT/\xs.length<=c/\f0+c*T.aW<=L.length))/\
  ∀(i:Nat) (x:al),xs[i]? =are x->∃cs,T.rd z x cs/\om L (f0+i*T.aW) cs
def Jz (z z':Nat->aV) (n:Nat):Prop:=∀b j L t,z b= .lock n j L t->z' b=z b
theorem tj.h5 {al:Type} {T:cb al} {z z':Nat->aV} {n cM j:Nat} {xs:List al} {w:arh} (h:tj T z n cM j xs w) (aD:eb z z') (hk:Jz z z' cM):tj T z' n cM j xs w:=by
 rcases h with h|⟨b,f0,L,c,h1,J,aj,aJ,bk,dn⟩
 ·exact .inl h
 ·refine .inr ⟨b,f0,L,c,h1,by rw[hk b j L _ J];exact J,aj,aJ,bk,fun i x af=> ?_⟩;obtain ⟨cs,g1,g2⟩:=dn i x af;exact ⟨cs,T.mono _ _ aD _ _ g1,g2⟩
theorem tj.Eu {al:Type} {T:cb al} {z:Nat->aV} {n n' cM j:Nat} {xs:List al} {w:arh} (h:tj T z n cM j xs w) (av:n'<=n):tj T z n' cM j xs w:=by
 rcases h with h|⟨b,f0,L,c,h1,J,aj,aJ⟩
 ·exact .inl h
 ·exact .inr ⟨b,f0,L,c,h1,J,arR av aj,aJ⟩
def eG (v:arh):Nat:=match ck v with|some b=>b+1|none=>0
def TA (e t:Nat) (up:Option (List (D t)->D e)):Prop:=∀f,up=are f->(G.T e).aW=1/\(G.T e).tid=e/\∀z xs c,dW (G.T t) z xs c->(G.T e).rd z (f xs) [c]
structure tm {al:Type} (cH:Nat) (T:cb al) (z:Nat->aV) (e m:Mem) (k:Option Nat) (vs:List arh) (c8:List (List al)) (hole:Option (Int×Nat)) (v:arh) (ws:List arh):Prop where
 a7:cO (qn cH) z e m k ws v
 len:ws.length=c8.length
 nx:∀(j:Nat) (w:arh) (xs:List al),ws[j]? =are w->c8[j]? =are xs->(∀p,hole=are p->(j:Int)≠p.1)->tj T z e.next (eG v) j xs w
 out:∀p,hole=are p->0<=p.1/\∃w,vs[p.2]? =are w/\ws[p.1.toNat]? =are w
def fs (z:Nat->aV) (e m:Mem) (k:Option Nat) (vs:List arh):aG D->arh->Prop
 | .dead,_=>True
 | .aE t xs arj _,v=>cO (G.T t) z e m k xs v
 | .aE t xs arf _,v=>dW (G.T t) z xs v
 | .box t cs arj _,v=>∃b ds,v= .pointer (are ⟨b,0,ari⟩)/\h6 z e m k b ds t/\e.next<=b/\a1 (db G z vs) cs ds
 | .box t cs arf _,v=>∃b ds,v= .pointer (are ⟨b,0,ari⟩)/\nE z b 0 ds/\a1 (db G z vs) cs ds
 | .recv t cs _,v=>∃b ds,v= .pointer (are ⟨b,0,ari⟩)/\h6 z e m k b ds t/\a1 (db G z vs) cs ds
 | .arr t u n xs _,v=>(∃b,v= .slice (are ⟨b,0,ari⟩) n n)/\cO ((G.T t).as u) z e m k xs v
 | .map t kt vt es arj _,v=>hU (G.M t kt vt) z e m k es v
 | .map t kt vt es arf _,v=>kN (G.M t kt vt) z es v
 | .nest cH t up c8 hole _,v=>TA G cH t up/\∃ws,tm cH (G.T t) z e m k vs c8 hole v ws
def aG.live:aG D->Bool
 | .aE _ _ a6 _| .box _ _ a6 _| .map _ _ _ _ a6 _=> !a6
 | .recv _ _ _| .arr _ _ _ _ _| .nest _ _ _ _ _ _=>arf
 | .dead=>arj
def aG.la:aG D->Bool
 | .aE _ _ _ w| .box _ _ _ w| .recv _ _ w| .arr _ _ _ _ w| .map _ _ _ _ _ w=>w
 | .nest _ _ _ _ h w=>w||h.isSome
 | .dead=>arf
structure Inv (O bz:List (aG D)):Prop where
 len:O.length<=bz.length
 cK:∀(i:Nat) (o:aG D),i<O.length->bz[i]? =are o->o.live=arf->o.la=arj->O[i]? =are o
theorem Inv.refl (O:List (aG D)):Inv O O:=⟨ars _,fun _ _ _ h _ _=>h⟩
theorem Inv.trans {O bz tn:List (aG D)} (h:Inv O bz) (k:Inv bz tn):Inv O tn:=⟨arR h.len k.len,fun i o af ag ai hw=>h.cK i o af (k.cK i o (arT af h.len) ag ai hw) ai hw⟩
theorem Inv.push (O:List (aG D)) (o:aG D):Inv O (O++[o]):=⟨by simp,fun i p af an _ _=>by rw[arQ af] at an;exact an⟩
theorem Inv.set (O:List (aG D)) (i:Nat) {o:aG D} (h:o.live=arj\/o.la=arf):Inv O (O.set i o):=⟨by simp,fun j p ap an ai hw=>by
 rw[arY] at an;split at an
 ·split at an
  ·cases an;rcases h with h|h
   ·rw[h] at ai;cases ai
   ·rw[h] at hw;cases hw
  ·cases an
 ·exact an⟩
def cT:arh->Option Nat
 | .slice (are a) _ _=>are a.block
 | .pointer (are a)=>are a.block
 | .map r=>r
 |_=>ari
theorem fz {v:arh} (h:∀r,v≠ .map r):cT v=ck v:=by
 cases v with
 |slice a l c=>cases a<;>rfl
 |pointer a=>cases a<;>rfl
 |map r=>exact absurd rfl (h r)
 |_=>rfl
structure bd (O:List (aG D)) (z:Nat->aV) (e m:Mem) (k:Option Nat) (vs:List arh):Prop where
 aR:cu z e m k
 len:vs.length=O.length
 obj:∀(i:Nat) (o:aG D) (v:arh),O[i]? =are o->vs[i]? =are v->fs G z e m k vs o v
 eu:∀(i j:Nat) (o p:aG D) (v w:arh),i≠j->O[i]? =are o->O[j]? =are p->o.live=arf->p.live=arf->vs[i]? =are v->vs[j]? =are w->dV (cT v) (cT w)
variable {G}
theorem db.mono {z z':Nat->aV} {vs vs':List arh} {c:bC D} {v:arh} (h:db G z vs c v) (aD:eb z z') (aa:∀(i:Nat) (u:arh),vs[i]? =are u->vs'[i]? =are u):db G z' vs' c v:=by
 cases c with
 |aE e xs=>exact dW.mono aD h
 |mp t kt vt es=>exact kN.mono h aD
 |own i=>exact ⟨aa _ _ h.1,h.2⟩
 |fn f is=>obtain ⟨gs,h1,J⟩:=h;exact ⟨gs,h1,a1.mono (fun _ _ h=>⟨aa _ _ h.1,h.2⟩) J⟩
 |_=>exact h
theorem nL.mono {z z':Nat->aV} {vs vs':List arh} {cs:List (bC D)} {ds:List arh} (h:a1 (db G z vs) cs ds) (aD:eb z z') (aa:∀(i:Nat) (u:arh),vs[i]? =are u->vs'[i]? =are u):a1 (db G z' vs') cs ds:=a1.mono (fun _ _ h=>db.mono h aD aa) h
theorem mf.mono {z z':Nat->aV} {vs vs':List arh} {cs:List (bC D)} {off:Nat} {v:arh} (h:mf G z vs cs off v) (aD:eb z z') (aa:∀(i:Nat) (u:arh),vs[i]? =are u->vs'[i]? =are u):mf G z' vs' cs off v:=by
 obtain ⟨b,o,ds,h1,J,aj⟩:=h;exact ⟨b,o,ds,h1,Ge aD J,nL.mono aj aD aa⟩
theorem uY.mono {z z':Nat->aV} {vs vs':List arh} {c:bC D⊕(Nat×List (bC D))} {v:arh} (h:uY G z vs c v) (aD:eb z z') (aa:∀(i:Nat) (u:arh),vs[i]? =are u->vs'[i]? =are u):uY G z' vs' c v:=by
 cases c with
 |inl c=>exact db.mono h aD aa
 |inr p=>obtain ⟨ds,h1,J⟩:=h;exact ⟨ds,h1,nL.mono J aD aa⟩
theorem rel.mono {z z':Nat->aV} {vs vs':List arh} {s:aN D} {v:arh} (h:rel G z vs s v) (aD:eb z z') (aa:∀(i:Nat) (u:arh),vs[i]? =are u->vs'[i]? =are u):rel G z' vs' s v:=by
 cases s with
 |un=>trivial
 |undef=>exact h
 |c c=>exact db.mono h aD aa
 |agg t cs=>obtain ⟨ds,h1,J⟩:=h;exact ⟨ds,h1,nL.mono J aD aa⟩
 |box i off=>obtain ⟨b,h1,J⟩:=h;exact ⟨b,aa _ _ h1,J⟩
 |arr i=>obtain ⟨b,l,h1,J⟩:=h;exact ⟨b,l,aa _ _ h1,J⟩
 |el i e ca off=>obtain ⟨b,f0,l,c,h1,J⟩:=h;exact ⟨b,f0,l,c,aa _ _ h1,J⟩
 |gw t cs off=>exact mf.mono h aD aa
 |fn f caps=>obtain ⟨gs,h1,J⟩:=h;exact ⟨gs,h1,a1.mono (fun _ _ h=>mf.mono h aD aa) J⟩
 |mV l=>obtain ⟨ds,h1,J⟩:=h;exact ⟨ds,h1,a1.mono (fun _ _ h=>uY.mono h aD aa) J⟩
 |cut i e bf n=>obtain ⟨w,h1,J⟩:=h;exact ⟨w,db.mono h1 aD aa,J⟩
 |full e xs=>exact ⟨dW.mono aD h.1,h.2⟩
theorem OC {vs:List arh}:∀{is:List Nat} {gs:List arh},a1 (rK vs) is gs->gs.all xq=arf
 |[],[],_=>rfl
 |[],_::_,h=>h.elim
 |_::_,[],h=>h.elim
 |_::_,_::_,⟨⟨_,_,h⟩,J⟩=>by subst h;simp only[asb,OC J,xq,Bool.and_self]
theorem db.aat {z:Nat->aV} {vs:List arh} {c:bC D} {v:arh} (h:db G z vs c v):storable v=arf/\v.cells=#[v]:=by
 cases c with
 |aE e xs=>obtain ⟨a,c,rfl⟩:=dW.len h;exact ⟨rfl,rfl⟩
 |mp t kt vt es=>rcases h with ⟨rfl,_⟩|⟨r,rfl,_⟩<;>exact ⟨rfl,rfl⟩
 |own i=>exact h.2
 |fn f is=>obtain ⟨gs,rfl,J⟩:=h;exact ⟨by simp only[storable,OC J];rfl,rfl⟩
 |_=>obtain rfl:=h;exact ⟨rfl,rfl⟩
theorem fs.same {z:Nat->aV} {e m m':Mem} {k q:Option Nat} {vs vs':List arh} {o:aG D} {v:arh} (h:fs G z e m k vs o v) (s:eX m m' q) (eu:o.live=arf->dV (cT v) q) (aa:∀(i:Nat) (u:arh),vs[i]? =are u->vs'[i]? =are u):fs G z e m' k vs' o v:=by
 have Rp:=eb.refl z;cases o with
 |dead=>trivial
 |aE t xs a6 w=>
  cases a6 with
  |true=>exact h
  |false=>have h:cO (G.T t) z e m k xs v:=h;have eu:=eu rfl;rw[fz (by obtain ⟨a,c,rfl⟩:=h.a7.len;intro r;simp)] at eu;exact h.same s eu
 |box t cs a6 w=>
  cases a6 with
  |true=>obtain ⟨b,ds,h1,J,aj⟩:=h;exact ⟨b,ds,h1,J,nL.mono aj Rp aa⟩
  |false=>obtain ⟨b,ds,rfl,J,aJ,aj⟩:=h;exact ⟨b,ds,rfl,J.same s (eu rfl),aJ,nL.mono aj Rp aa⟩
 |recv t cs w=>obtain ⟨b,ds,rfl,J,aj⟩:=h;exact ⟨b,ds,rfl,J.same s (eu rfl),nL.mono aj Rp aa⟩
 |arr t u n xs w=>obtain ⟨⟨b,rfl⟩,h⟩:=h;exact ⟨⟨b,rfl⟩,h.same s (eu rfl)⟩
 |map t kt vt es a6 w=>
  cases a6 with
  |true=>exact h
  |false=>have h:hU (G.M t kt vt) z e m k es v:=h;have eu:=eu rfl;obtain ⟨r,rfl,_⟩:=h.a7;exact h.same s eu
 |nest cH t up c8 hole w=>obtain ⟨hu,ws,h⟩:=h;have eu:=eu rfl;rw[fz (by obtain ⟨a,c,rfl⟩:=h.a7.a7.len;intro r;simp)] at eu;refine ⟨hu,ws,h.a7.same s eu,h.len,h.nx,fun p an=> ?_⟩;obtain ⟨az,u,h1,J⟩:=h.out p an;exact ⟨az,u,aa _ _ h1,J⟩
theorem fs.h5 {z z':Nat->aV} {e m:Mem} {k:Option Nat} {vs:List arh} {o:aG D} {v:arh} (h:fs G z e m k vs o v) (aD:eb z z') (ab:o.live=arf->∀b,cT v=are b->z' b=z b) (hk:o.live=arf->Jz z z' (eG v)):fs G z' e m k vs o v:=by
 have aa:∀(i:Nat) (u:arh),vs[i]? =are u->vs[i]? =are u:=fun _ _ h=>h;cases o with
 |dead=>trivial
 |aE t xs a6 w=>
  cases a6 with
  |true=>exact dW.mono aD h
  |false=>have h:cO (G.T t) z e m k xs v:=h;have ab:=ab rfl;rw[fz (by obtain ⟨a,c,rfl⟩:=h.a7.len;intro r;simp)] at ab;exact h.h5 aD ab
 |box t cs a6 w=>
  cases a6 with
  |true=>obtain ⟨b,ds,h1,J,aj⟩:=h;exact ⟨b,ds,h1,Ge aD J,nL.mono aj aD aa⟩
  |false=>obtain ⟨b,ds,rfl,J,aJ,aj⟩:=h;exact ⟨b,ds,rfl,J.h5 (ab rfl),aJ,nL.mono aj aD aa⟩
 |recv t cs w=>obtain ⟨b,ds,rfl,J,aj⟩:=h;exact ⟨b,ds,rfl,J.h5 (ab rfl),nL.mono aj aD aa⟩
 |arr t u n xs w=>obtain ⟨⟨b,rfl⟩,h⟩:=h;exact ⟨⟨b,rfl⟩,h.h5 aD (ab rfl)⟩
 |map t kt vt es a6 w=>
  cases a6 with
  |true=>exact kN.mono h aD
  |false=>have h:hU (G.M t kt vt) z e m k es v:=h;have ab:=ab rfl;obtain ⟨r,rfl,_⟩:=h.a7;exact h.h5 aD ab
 |nest cH t up c8 hole w=>obtain ⟨hu,ws,h⟩:=h;have ab:=ab rfl;rw[fz (by obtain ⟨a,c,rfl⟩:=h.a7.a7.len;intro r;simp)] at ab;exact ⟨hu,ws,h.a7.h5 aD ab,h.len,fun j w xs h1 J aj=>(h.nx j w xs h1 J aj).h5 aD (hk rfl),h.out⟩
theorem fs.lt {z:Nat->aV} {e m:Mem} {k:Option Nat} {vs:List arh} {o:aG D} {v:arh} (h:fs G z e m k vs o v) (ai:o.live=arf):∀b,cT v=are b->b<m.next/\z b= .dead/\(e.next<=b\/k=are b):=by
 cases o with
 |dead=>cases ai
 |aE t xs a6 w=>
  cases a6 with
  |true=>cases ai
  |false=>have h:cO (G.T t) z e m k xs v:=h;rw[fz (by obtain ⟨a,c,rfl⟩:=h.a7.len;intro r;simp)];exact fun b ab=>⟨h.lt b ab,h.aF b ab⟩
 |box t cs a6 w=>
  cases a6 with
  |true=>cases ai
  |false=>obtain ⟨b,ds,rfl,J,aJ,aj⟩:=h;intro c ad;cases ad;exact ⟨J.lt,J.dead,J.fresh⟩
 |recv t cs w=>obtain ⟨b,ds,rfl,J,aj⟩:=h;intro c ad;cases ad;exact ⟨J.lt,J.dead,J.fresh⟩
 |arr t u n xs w=>obtain ⟨⟨b,rfl⟩,h⟩:=h;intro c ad;cases ad;exact ⟨h.lt b rfl,h.aF b rfl⟩
 |map t kt vt es a6 w=>
  cases a6 with
  |true=>cases ai
  |false=>have h:hU (G.M t kt vt) z e m k es v:=h;obtain ⟨r,rfl,_⟩:=h.a7;exact fun b ab=>⟨h.lt b ab,h.aF b ab⟩
 |nest cH t up c8 hole w=>obtain ⟨hu,ws,h⟩:=h;rw[fz (by obtain ⟨a,c,rfl⟩:=h.a7.a7.len;intro r;simp)];exact fun b ab=>⟨h.a7.lt b ab,h.a7.aF b ab⟩
variable {O:List (aG D)} {z z':Nat->aV} {e m m':Mem} {k q:Option Nat} {vs:List arh}
theorem bd.at (h:bd G O z e m k vs) {i:Nat} {o:aG D} (ag:O[i]? =are o):∃v,vs[i]? =are v/\fs G z e m k vs o v:=by
 have aO:=(arp.1 ag).1;have yH:i<vs.length:=by rw[h.len];exact aO
 exact ⟨vs[i],arX yH,h.obj i o _ ag (arX yH)⟩
theorem bd.mW (h:bd G O z e m k vs) {i:Nat} {o o':aG D} {v:arh} (ag:O[i]? =are o) (aa:vs[i]? =are v) (ai:o.live=arf) (s:eX m m' (cT v)) (aR:cu z e m' k) (av:fs G z e m' k vs o' v):bd G (O.set i o') z e m' k vs:=by
 have aO:=(arp.1 ag).1;refine ⟨aR,by rw[asK];exact h.len,fun j p w ap hw=> ?_,fun a b p dL u w eD ar ab de j1 hu hw=> ?_⟩
 ·rw[arY] at ap;split at ap
  ·rename_i cQ;subst cQ;cases ap;rw[aa] at hw;cases hw;exact av
  ·rename_i cQ;exact (h.obj j p w ap hw).same s (fun an=>h.eu j i p o w v (fun e=>cQ e.symm) ap ag an ai hw aa) fun _ _ h=>h
 ·have key:∀(a:Nat) (p:aG D),(O.set i o')[a]? =are p->p.live=arf->∃so,O[a]? =are so/\so.live=arf:=by
   intro a p ar an;rw[arY] at ar;split at ar
   ·rename_i Bs;subst Bs;exact ⟨o,ag,ai⟩
   ·exact ⟨p,ar,an⟩
  obtain ⟨en,g1,g2⟩:=key a p ar de;obtain ⟨fo,g3,g4⟩:=key b dL ab j1;exact h.eu a b en fo u w eD g1 g3 g2 g4 hu hw
theorem ih {vs ws:List arh}:∀(i:Nat) (u:arh),vs[i]? =are u->(vs++ws)[i]? =are u:=fun i u h=>by
 rw[arQ (arp.1 h).1];exact h
theorem bd.push (h:bd G O z e m k vs) {o':aG D} {bl:arh} (s:eX m m' q) (aR:cu z e m' k) (aF:∀(i:Nat) (o:aG D) (v:arh),O[i]? =are o->vs[i]? =are v->o.live=arf->dV (cT v) q)
  (av:fs G z e m' k (vs++[bl]) o' bl) (dh:∀p,(∀b,p=are b->b<m.next)->dV p q->dV p (cT bl)):bd G (O++[o']) z e m' k (vs++[bl]):=by
 refine ⟨aR,by simp[h.len],fun j p w ap hw=> ?_,fun a b p dL u w eD ar ab de j1 hu hw=> ?_⟩
 ·by_cases aO:j<O.length
  ·rw[arQ aO] at ap;rw[arQ (by rw[h.len];exact aO)] at hw;exact (h.obj j p w ap hw).same s (fun an=>aF j p w ap hw an) ih
  ·rw[arP (by omega)] at ap;rw[arP (by rw[h.len];omega),h.len] at hw;have:j - O.length=0:=by have:=(arp.1 ap).1;simp at this;omega
   rw[this] at ap hw;simp at ap hw;subst ap hw;exact av
 ·have cK:∀(a:Nat) (p:aG D) (u:arh),a<O.length->(O++[o'])[a]? =are p->(vs++[bl])[a]? =are u->O[a]? =are p/\vs[a]? =are u:=by
   intro a p u aO ar hu;rw[arQ aO] at ar;rw[arQ (by rw[h.len];exact aO)] at hu;exact ⟨ar,hu⟩
  have new:∀(a:Nat) (p:aG D) (u:arh),¬a<O.length->(O++[o'])[a]? =are p->(vs++[bl])[a]? =are u->a=O.length/\u=bl:=by
   intro a p u aO ar hu;rw[arP (by omega)] at ar;have az:a - O.length=0:=by have:=(arp.1 ar).1;simp at this;omega
   rw[arP (by rw[h.len];omega),h.len,az] at hu;simp at hu;exact ⟨by omega,hu.symm⟩
  have lt:∀(a:Nat) (p:aG D) (u:arh),O[a]? =are p->vs[a]? =are u->p.live=arf->dV (cT u) (cT bl):=fun a p u ar hu ai=>dh _ (fun b ab=>((h.obj a p u ar hu).lt ai b ab).1) (aF a p u ar hu ai);by_cases h1:a<O.length
  ·obtain ⟨cr,a2⟩:=cK a p u h1 ar hu;by_cases J:b<O.length
   ·obtain ⟨fe,hg⟩:=cK b dL w J ab hw;exact h.eu a b p dL u w eD cr fe de j1 a2 hg
   ·obtain ⟨_,rfl⟩:=new b dL w J ab hw;exact lt a p u cr a2 de
  ·obtain ⟨aT,rfl⟩:=new a p u h1 ar hu;by_cases J:b<O.length
   ·obtain ⟨fe,hg⟩:=cK b dL w J ab hw;exact (lt b dL w fe hg j1).symm
   ·obtain ⟨e2,_⟩:=new b dL w J ab hw;omega
theorem bd.ib (h:bd G O z e m k vs) {i:Nat} {o o':aG D} {v:arh} (ag:O[i]? =are o) (aa:vs[i]? =are v) (ai:o.live=arf) (eP:o'.live=arj) (aD:eb z z') (aR:cu z' e m k) (ab:∀p,dV p (cT v)->∀b,p=are b->z' b=z b) (av:fs G z' e m k vs o' v):bd G (O.set i o') z' e m k vs:=by
 have aO:=(arp.1 ag).1;refine ⟨aR,by rw[asK];exact h.len,fun j p w ap hw=> ?_,fun a b p dL u w eD ar ch de j1 hu hw=> ?_⟩
 ·rw[arY] at ap;split at ap
  ·rename_i cQ;subst cQ;cases ap;rw[aa] at hw;cases hw;exact av
  ·rename_i cQ;exact (h.obj j p w ap hw).h5 aD (fun an=>ab _ (h.eu j i p o w v (fun e=>cQ e.symm) ap ag an ai hw aa)) fun _ b j L t ch=>ab (are b) (fun c ad lB=>by
    cases ad;have:=((h.obj i o v ag aa).lt ai b lB).2.1;rw[this] at ch;cases ch) b rfl
 ·have key:∀(a:Nat) (p:aG D),(O.set i o')[a]? =are p->p.live=arf->O[a]? =are p:=by
   intro a p ar an;rw[arY] at ar;split at ar
   ·rename_i Bs;subst Bs;cases ar;rw[eP] at an;cases an
   ·exact ar
  exact h.eu a b p dL u w eD (key a p ar de) (key b dL ch j1) de j1 hu hw
end
end Go.aQ
end
section
namespace Go.aQ
section
variable {D:Nat->Type} {G:lT D} {O:List (aG D)} {z z':Nat->aV} {e m m':Mem} {k q:Option Nat} {vs vs':List arh}
theorem HB {v w:arh} (h:dV (ck v) (ck w)):eG v≠eG w\/eG v=0:=by
 unfold eG;cases aa:ck v with
 |none=>exact .inr rfl
 |some b=>
  cases hw:ck w with
  |none=>exact .inl (by simp)
  |some c=>refine .inl fun ax=>h b aa ?_;rw[hw];simp at ax;rw[ax]
theorem OS {r:Option Nat}:eG (.map r)=0:=rfl
theorem bd.D3 (h:bd G O z e m k vs) {i:Nat} {o o':aG D} {v:arh} {p:Option Nat} (ag:O[i]? =are o) (aa:vs[i]? =are v) (ai:o.live=arf) (od:∀r,v≠ .map r) (aD:eb z z') (s:eX m m' (cT v)) (aR:cu z' e m' k)
  (an:∀(j:Nat) (q:aG D) (w:arh),j≠i->O[j]? =are q->q.live=arf->vs[j]? =are w->dV (cT w) p)
  (UX:∀b,p=are b->z b= .dead)
  (ab:∀b,cT v≠are b->p≠are b->(eG v=0\/∀j L t,z b≠ .lock (eG v) j L t)->z' b=z b) (av:fs G z' e m' k vs o' v):bd G (O.set i o') z' e m' k vs:=by
 have aO:=(arp.1 ag).1;refine ⟨aR,by rw[asK];exact h.len,fun j q w ap hw=> ?_,fun a b cI cL u w eD ar ch de j1 hu hw=> ?_⟩
 ·rw[arY] at ap;split at ap
  ·rename_i cQ;subst cQ;cases ap;rw[aa] at hw;cases hw;exact av
  ·rename_i cQ;have bP:=h.obj j q w ap hw;refine ((bP.same s (fun aF=>h.eu j i q o w v (fun e=>cQ e.symm) ap ag aF ai hw aa) fun _ _ h=>h).h5 aD (fun aF b LR=> ?_) fun aF b bw L t l3=> ?_)
   ·have h1:=bP.lt aF b LR;refine ab b (h.eu j i q o w v (fun e=>cQ e.symm) ap ag aF ai hw aa b LR) (an j q w (fun e=>cQ e.symm) ap aF hw b LR) (.inr fun j L t ax=> ?_);rw[h1.2.1] at ax;cases ax
   ·refine ab b (fun ax=> ?_) (fun ax=> ?_) ?_
    ·have:=((h.obj i o v ag aa).lt ai b ax).2.1;rw[this] at l3;cases l3
    ·rw[UX b ax] at l3;cases l3
    ·by_cases az:eG v=0
     ·exact .inl az
     ·refine .inr fun qR a1 t2 ax=> ?_;rw[l3] at ax;have aT:eG w=eG v:=by injection ax
      have dh:=h.eu j i q o w v (fun e=>cQ e.symm) ap ag aF ai hw aa;rw[fz od] at dh;by_cases tY:∃r,w= .map r
      ·obtain ⟨r,rfl⟩:=tY;rw[OS] at aT;exact az aT.symm
      ·rw[fz (fun r ao=>tY ⟨r,ao⟩)] at dh;rcases HB dh with ax|ax
       ·exact ax aT
       ·exact az (by rw[<-aT];exact ax)
 ·have key:∀(a:Nat) (p:aG D),(O.set i o')[a]? =are p->p.live=arf->∃so,O[a]? =are so/\so.live=arf:=by
   intro a p ar an;rw[arY] at ar;split at ar
   ·rename_i Bs;subst Bs;exact ⟨o,ag,ai⟩
   ·exact ⟨p,ar,an⟩
  obtain ⟨en,g1,g2⟩:=key a cI ar de;obtain ⟨fo,g3,g4⟩:=key b cL ch j1;exact h.eu a b en fo u w eD g1 g3 g2 g4 hu hw
theorem bd.Nq (h:bd G O z e m k vs) {o':aG D} {bl:arh} (av:fs G z e m k (vs++[bl]) o' bl) (dh:o'.live=arf->∀(j:Nat) (q:aG D) (w:arh),O[j]? =are q->q.live=arf->vs[j]? =are w->dV (cT w) (cT bl)):bd G (O++[o']) z e m k (vs++[bl]):=by
 have cK:∀(a:Nat) (p:aG D) (u:arh),(O++[o'])[a]? =are p->(vs++[bl])[a]? =are u->(O[a]? =are p/\vs[a]? =are u)\/(a=O.length/\p=o'/\u=bl):=by
  intro a p u ar hu;by_cases aO:a<O.length
  ·rw[arQ aO] at ar;rw[arQ (by rw[h.len];exact aO)] at hu;exact .inl ⟨ar,hu⟩
  ·have az:=(arp.1 ar).1;simp at az;have:a=O.length:=by omega
   subst this;rw[arP (by omega)] at ar;rw[arP (by rw[h.len];omega),h.len] at hu;simp at ar hu;exact .inr ⟨rfl,ar.symm,hu.symm⟩
 refine ⟨h.aR,by simp[h.len],fun j p w ap hw=> ?_,fun a b p dL u w eD ar ab de j1 hu hw=> ?_⟩
 ·rcases cK j p w ap hw with ⟨h1,J⟩|⟨_,rfl,rfl⟩
  ·exact (h.obj j p w h1 J).same (q:=ari) ⟨ars _,h.aR.dead,fun _ _ _=>rfl⟩ (fun _=>dV.qX) ih
  ·exact av
 ·rcases cK a p u ar hu with ⟨cr,a2⟩|⟨aT,rfl,rfl⟩
  ·rcases cK b dL w ab hw with ⟨fe,hg⟩|⟨e2,rfl,rfl⟩
   ·exact h.eu a b p dL u w eD cr fe de j1 a2 hg
   ·exact dh j1 a p u cr de a2
  ·rcases cK b dL w ab hw with ⟨fe,hg⟩|⟨e2,rfl,rfl⟩
   ·exact (dh de b dL w fe j1 hg).symm
   ·omega
theorem bd.aoP (h:bd G O z e m k vs) {i:Nat} {o':aG D} {v:arh} (af:i<O.length) (aa:vs[i]? =are v) (av:fs G z e m k vs o' v) (dh:∀(j:Nat) (q:aG D) (w:arh),j≠i->O[j]? =are q->q.live=arf->vs[j]? =are w->dV (cT w) (cT v)):bd G (O.set i o') z e m k vs:=by
 have cK:∀(a:Nat) (p:aG D),(O.set i o')[a]? =are p->(a≠i/\O[a]? =are p)\/(a=i/\p=o'):=by
  intro a p ar;by_cases LK:i=a
  ·subst LK;rw[List.getElem?_set_self af] at ar;exact .inr ⟨rfl,(arw.inj ar).symm⟩
  ·rw[atg LK] at ar;exact .inl ⟨fun ax=>LK ax.symm,ar⟩
 refine ⟨h.aR,by rw[asK];exact h.len,fun j p w ap hw=> ?_,fun a b p q u w eD ar ab de j1 hu hw=> ?_⟩
 ·rcases cK j p ap with ⟨_,h1⟩|⟨rfl,rfl⟩
  ·exact h.obj j p w h1 hw
  ·rw[aa] at hw;cases hw;exact av
 ·rcases cK a p ar with ⟨cr,a2⟩|⟨rfl,rfl⟩
  ·rcases cK b q ab with ⟨fe,hg⟩|⟨rfl,rfl⟩
   ·exact h.eu a b p q u w eD a2 hg de j1 hu hw
   ·rw[aa] at hw;cases hw;exact dh a p u cr a2 de hu
  ·rcases cK b q ab with ⟨fe,hg⟩|⟨rfl,rfl⟩
   ·rw[aa] at hu;cases hu;exact (dh b q w fe hg j1 hw).symm
   ·exact absurd rfl eD
variable {al:Type} {T:cb al} {cH:Nat} {c8:List (List al)} {ws:List arh} {v:arh}
open Classical in
noncomputable def ra (z:Nat->aV) (n:Nat) (e m:Mem) (v:arh):Nat->aV:=fun b=>
 match z b with
 | .lock n' j L t=>if n'=n/\n≠0/\e.next<=b then .own L t else .lock n' j L t
 |x=>if ck v=are b then m.ay b else x
theorem agk {bs:Type} {jR:cb bs} {f:List al->bs} (h:tm cH T z e m k vs c8 ari v ws) (h1:jR.aW=1) (J:jR.tid=cH) (ao:∀z xs c,dW T z xs c->jR.rd z (f xs) [c]) (aR:cu z e m k):
  ∃z',cz e.next z z'/\cu z' e m k/\dW jR z' (c8.map f) v/\∀b,cT v≠are b->(eG v=0\/∀j L t,z b≠ .lock (eG v) j L t)->z' b=z b:=by
 have aa:cT v=ck v:=fz (by obtain ⟨a,c,rfl⟩:=h.a7.a7.len;intro r;simp);have yu:=fun b (ab:ck v=are b)=>(h.a7.a7.lt b ab).2;have other:∀b,ck v≠are b->(∀n j L t,z b≠ .lock n j L t)->ra z (eG v) e m v b=z b:=by
  intro b ab av;unfold ra;split
  ·rename_i n j L t aD;exact absurd aD (av n j L t)
  ·rw[if_neg ab]
 have Fs:∀b n j L t,z b= .lock n j L t->ra z (eG v) e m v b=if n=eG v/\eG v≠0/\e.next<=b then .own L t else .lock n j L t:=by intro b n j L t ab;unfold ra;rw[ab]
 have pO:∀b,ck v=are b->ra z (eG v) e m v b=m.ay b:=by intro b ab;unfold ra;rw[yu b ab];simp only;rw[if_pos ab]
 have hle:eb z (ra z (eG v) e m v):=fun b ab=>other b (fun ax=>by rw[yu b ax] at ab;exact ab) fun n j L t ax=>by rw[ax] at ab;exact ab
 refine ⟨ra z (eG v) e m v,⟨hle,fun b ab=> ?_⟩,⟨fun b ab=> ?_,aR.dead,aR.lX,aR.next,aR.kept⟩, ?_,fun b ab av=> ?_⟩
 ·cases aD:z b with
  |lock n j L t=>rw[Fs b n j L t aD,if_neg (by omega)]
  |_=>have:=other b (fun ax=>by have:=h.a7.fresh b ax;omega) (fun n j L t ax=>by rw[aD] at ax;cases ax);rw[this,aD]
 ·by_cases hN:ck v=are b
  ·rw[pO b hN];have:=h.a7.Vl b hN;exact ⟨this.2.symm,this.1⟩
  ·cases aD:z b with
   |lock n j L t=>
    have:=aR.a6 b (by rw[aD];simp);rw[aD] at this;rw[Fs b n j L t aD];split
    ·exact this
    ·exact this
   |_=>have aj:=other b hN (fun n j L t ax=>by rw[aD] at ax;cases ax);rw[aj] at ab⊢;exact aR.a6 b ab
 ·have nx:∀(j:Nat) (w:arh) (xs:List al),ws[j]? =are w->c8[j]? =are xs->dW T (ra z (eG v) e m v) xs w:=by
   intro j w xs hw U;rcases h.nx j w xs hw U (fun p an=>by cases an) with ax|⟨b,f0,L,c,rfl,g2,g3,g4,g5,g6⟩
   ·exact .inl ax
   ·have nw:ra z (eG v) e m v b= .own L T.tid:=by
     have az:eG v≠0:=by
      intro az;unfold eG at az;rcases h.a7.a7 with ⟨rfl,mD⟩|⟨bV,o',L',bg,rfl,_⟩
      ·rw[mD] at hw;simp at hw
      ·simp[ck] at az
     rw[Fs b _ _ _ _ g2,if_pos ⟨rfl,az,g3⟩]
    refine .inr ⟨b,f0,c,rfl,by rw[nw];exact arH, ?_,fun i x af=> ?_⟩
    ·rcases g5 with g5|⟨g5,g7,_⟩
     ·exact .inl ⟨g5,L,nw,g4⟩
     ·exact .inr ⟨g5,g7⟩
    ·obtain ⟨cs,cI,cL⟩:=g6 i x af;refine ⟨cs,T.mono _ _ hle _ _ cI,fun a u ar=> ?_⟩;simp only[k1,nw];exact cL a u ar
  rcases h.a7.a7 with ⟨rfl,mD⟩|⟨b,f0,L,c,rfl,g1,g2,g3,g4,g5,g6⟩
  ·have:c8=[]:=List.length_eq_zero_iff.1 (by rw[<-h.len,mD];rfl);subst this;exact .inl ⟨rfl,rfl⟩
  ·have nw:=pO b rfl;rw[g1] at nw;have ai:(c8.map f).length=ws.length:=by rw[List.length_map,h.len]
   refine .inr ⟨b,f0,c,by rw[ai],by rw[nw];exact arH, ?_,fun i x af=> ?_⟩
   ·rcases g5 with g5|⟨g5,g7,_⟩
    ·exact .inl ⟨g5,L,by rw[nw,J];rfl,by rw[ai,h1];exact g4⟩
    ·exact .inr ⟨g5,by rw[ai];exact g7⟩
   ·rw[ar4] at af;obtain ⟨xs,U,rfl⟩:=Option.map_eq_some_iff.1 af;have aO:i<ws.length:=by rw[h.len];exact (arp.1 U).1
    have hw:=arX aO;obtain ⟨cs,cI,cL⟩:=g6 i _ hw;refine ⟨[ws[i]],ao _ _ _ (nx i _ xs hw U),fun a u ar=> ?_⟩;rw[cI.1] at cL;simp only[k1,nw,h1];exact cL a u ar
 ·rw[aa] at ab;cases aD:z b with
  |lock n j L t=>
   rw[Fs b n j L t aD,if_neg];rintro ⟨rfl,az,_⟩;rcases av with av|av
   ·exact az av
   ·exact av j L t aD
  |_=>have aj:=other b ab (fun n j L t ax=>by rw[aD] at ax;cases ax);rw[aj,aD]
theorem ah' {FL j:Nat} {w:arh} {xs:List al} (h:tm cH T z e m k vs c8 ari v ws) (aR:cu z e m k) (hw:ws[j]? =are w) (U:c8[j]? =are xs) (ap:∀(i:Nat) (u:arh),vs[i]? =are u->vs'[i]? =are u) (adQ:vs'[FL]? =are w):
  ∃z',cz e.next z z'/\cu z' e m k/\tm cH T z' e m k vs' c8 (are ((j:Int),FL)) v ws/\cO T z' e m k xs w/\(∀b,z' b=z b\/ck w=are b/\eG v≠0/\∃L t,z b= .lock (eG v) j L t)/\∀b,ck w=are b->z b≠ .dead:=by
 have keep:∀{z'},eb z z'->(∀b,z' b=z b\/ck w=are b/\eG v≠0/\∃L t,z b= .lock (eG v) j L t)->(∀b,ck v=are b->z' b=z b)->tm cH T z' e m k vs' c8 (are ((j:Int),FL)) v ws:=by
  intro z' hle qA pR;refine ⟨h.a7.h5 hle pR,h.len,fun qR dR Q0 g1 g2 g3=> ?_,fun p an=>by cases an;exact ⟨by simp,w,adQ,by simpa using hw⟩⟩;have bL:qR≠j:=fun ax=>g3 _ rfl (by rw[ax]);rcases h.nx qR dR Q0 g1 g2 (fun p an=>by cases an) with ax|⟨b,f0,L,c,cI,cL,eQ,gu,ma,lF⟩
  ·exact .inl ax
  ·refine .inr ⟨b,f0,L,c,cI, ?_,eQ,gu,ma,fun i x af=> ?_⟩
   ·rcases qA b with ax|⟨_,_,a1,t2,ax⟩
    ·rw[ax];exact cL
    ·rw[cL] at ax;exact absurd (by injection ax) bL
   ·obtain ⟨cs,gv,fQ⟩:=lF i x af;exact ⟨cs,T.mono _ _ hle _ _ gv,fQ⟩
 rcases h.nx j w xs hw U (fun p an=>by cases an) with ⟨rfl,rfl⟩|⟨b,f0,L,c,rfl,g2,g3,g4,g5,g6⟩
 ·exact ⟨z,cz.refl z,aR,keep (eb.refl z) (fun b=> .inl rfl) (fun _ _=>rfl),cO.nil,fun b=> .inl rfl,fun b ab=>by cases ab⟩
 ·have az:eG v≠0:=by
   intro az;unfold eG at az;rcases h.a7.a7 with ⟨rfl,mD⟩|⟨bV,o',L',bg,rfl,_⟩
   ·rw[mD] at hw;simp at hw
   ·simp[ck] at az
  let z':Nat->aV:=fun c=>if c=b then .dead else z c
  have aT:z' b= .dead:=if_pos rfl;have e2:∀c,c≠b->z' c=z c:=fun c ad=>if_neg ad;have hle:eb z z':=fun c ad=>e2 c (fun ax=>by rw[ax,g2] at ad;exact ad);have qA:∀bg,z' bg=z bg\/ck (ast (are ⟨b,f0,ari⟩) xs.length c)=are bg/\eG v≠0/\∃L t,z bg= .lock (eG v) j L t:=fun bg=>by
   by_cases ad:bg=b
   ·subst ad;exact .inr ⟨rfl,az,L,_,g2⟩
   ·exact .inl (e2 bg ad)
  have vI:=aR.a6 b (by rw[g2];simp);rw[g2] at vI;refine ⟨z',⟨hle,fun c ad=>e2 c (by omega)⟩,⟨fun c ad=> ?_,aR.dead,aR.lX,aR.next,aR.kept⟩,keep hle qA (fun c ad=>e2 c (fun ax=> ?_)),⟨.inr ⟨b,f0,L,c,rfl,vI.1,vI.2,aT,g4,g5,fun i x af=> ?_⟩,fun c ad=>by cases ad;exact g3⟩,qA,fun c ad=>by cases ad;rw[g2];simp⟩
  ·by_cases cJ:c=b
   ·subst cJ;rw[aT] at ad;exact absurd rfl ad
   ·rw[e2 c cJ] at ad⊢;exact aR.a6 c ad
  ·subst ax;have:=(h.a7.a7.lt c ad).2;rw[g2] at this;cases this
  ·obtain ⟨cs,gv,fQ⟩:=g6 i x af;exact ⟨cs,T.mono _ _ hle _ _ gv,fQ⟩
theorem O2 {hole:Option (Int×Nat)} {j:Nat} {w:arh} {xs:List al} {IF:List arh} (h:tm cH T z e m k vs c8 hole v ws) (aR:cu z e m' k) (ag:cO (qn cH) z e m' k IF v) (mD:IF=ws.set j w) (ap:j<ws.length) (ax:∀p,hole=are p->p.1=(j:Int)) (hw:cO T z e m' k xs w) (dh:dV (ck w) (ck v)):
  ∃z',cz e.next z z'/\cu z' e m' k/\tm cH T z' e m' k vs (c8.set j xs) ari v IF/\∀b,z' b=z b\/ck w=are b:=by
 have keep:∀{z'},eb z z'->(∀b,z' b=z b\/ck w=are b)->tj T z' e.next (eG v) j xs w->tm cH T z' e m' k vs (c8.set j xs) ari v IF:=by
  intro z' hle qA hx;refine ⟨ag.h5 hle fun b ab=> ?_,by rw[mD,asK,asK];exact h.len,fun qR dR Q0 g1 g2 g3=> ?_,fun p an=>by cases an⟩
  ·rcases qA b with ad|ad
   ·exact ad
   ·exact absurd ab (dh b ad)
  ·rw[mD,arY] at g1;rw[arY] at g2;by_cases he:j=qR
   ·subst he;rw[if_pos rfl,if_pos ap] at g1;rw[if_pos rfl,if_pos (by rw[<-h.len];exact ap)] at g2;cases g1;cases g2;exact hx
   ·rw[if_neg he] at g1 g2;rcases h.nx qR dR Q0 g1 g2 (fun p an aqp=>he (by have:=ax p an;omega)) with ad|⟨b,f0,L,c,cI,cL,eQ,gu,ma,lF⟩
    ·exact .inl ad
    ·refine .inr ⟨b,f0,L,c,cI, ?_,eQ,gu,ma,fun i x af=> ?_⟩
     ·rcases qA b with ad|ad
      ·rw[ad];exact cL
      ·have:=(hw.a7.lt b ad).2;rw[this] at cL;cases cL
     ·obtain ⟨cs,gv,fQ⟩:=lF i x af;exact ⟨cs,T.mono _ _ hle _ _ gv,fQ⟩
 rcases hw.a7 with ⟨rfl,rfl⟩|⟨b,f0,L,c,rfl,g1,g2,g3,g4,g5,g6⟩
 ·exact ⟨z,cz.refl z,aR,keep (eb.refl z) (fun b=> .inl rfl) (.inl ⟨rfl,rfl⟩),fun b=> .inl rfl⟩
 ·let z':Nat->aV:=fun c=>if c=b then .lock (eG v) j L T.tid else z c
  have aT:z' b= .lock (eG v) j L T.tid:=if_pos rfl;have e2:∀c,c≠b->z' c=z c:=fun c ad=>if_neg ad;have hle:eb z z':=fun c ad=>e2 c (fun ax=>by rw[ax,g3] at ad;exact ad);have qA:∀bg,z' bg=z bg\/ck (ast (are ⟨b,f0,ari⟩) xs.length c)=are bg:=fun bg=>by
   by_cases ad:bg=b
   ·subst ad;exact .inr rfl
   ·exact .inl (e2 bg ad)
  have fB:=hw.fresh b rfl;refine ⟨z',⟨hle,fun c ad=>e2 c (by omega)⟩,⟨fun c ad=> ?_,aR.dead,aR.lX,aR.next,aR.kept⟩,keep hle qA (.inr ⟨b,f0,L,c,rfl,aT,fB,g4,g5,fun i x af=> ?_⟩),qA⟩
  ·by_cases cJ:c=b
   ·subst cJ;rw[aT];exact ⟨g1,g2⟩
   ·rw[e2 c cJ] at ad⊢;exact aR.a6 c ad
  ·obtain ⟨cs,gv,fQ⟩:=g6 i x af;exact ⟨cs,T.mono _ _ hle _ _ gv,fQ⟩
end
end Go.aQ
end
section
namespace Go.aQ
noncomputable section
section
variable {P:arl} {D:Nat->Type}
def zP:bC D->Bool
 | .fH| .y4| .nA| .own _=>arj
 |_=>arf
def o8:bC D->Bool
 | .own _=>arj
 | .fn _ is=>is.isEmpty
 |_=>arf
def oO:List (bC D)->List (bC D)->Prop
 |[],[]=>True
 |c::cs,d::ds=>(zP c=arf->d=c)/\oO cs ds
 |_,_=>False
theorem oO.eq:∀{cs ds:List (bC D)},oO cs ds->cs.all zP=arf->cs=ds
 |[],[],_,_=>rfl
 |c::cs,d::ds,h,av=>by simp only[asb,arq] at av;rw[h.1 av.1,oO.eq h.2 av.2]
 |[],_::_,h,_=>h.elim
 |_::_,[],h,_=>h.elim
theorem oO.refl:∀(cs:List (bC D)),oO cs cs
 |[]=>trivial
 |_::cs=>⟨fun _=>rfl,oO.refl cs⟩
structure gd (P:arl) (G:lT D) (t:Nat) where
 lC:D t->List (bC D)
 pc:List (bC D)->Option (D t)
 x0:D t
 i:TypeInfo
 b1:arh
 tid:(G.T t).tid=t
 af:P.info? t=are i
 bu:i.size=(G.T t).aW
 dt:((G.T t).aW==0)=arj
 fW:arF i.bytes 32768=arf
 aD:i.zero=are b1
 b3:b1.cells.toList.all b7=arf
 cZ:b1.cells.size=i.size
 xv:∀z,(G.T t).rd z x0 b1.cells.toList
 rc:∀z vs x cs,(G.T t).rd z x cs->a1 (db G z vs) (lC x) cs
 q0:∀z vs cs x ds,pc cs=are x->a1 (db G z vs) cs ds->(G.T t).rd z x ds
 Nl:∀x,pc (lC x)=are x
 F8:∀cs x,pc cs=are x->oO cs (lC x)
 qj:List (bC D)
 pT:∀z vs,a1 (db G z vs) qj b1.cells.toList
 M4:∀x,(lC x).all o8=arf
structure Rq (P:arl) (G:lT D) (t:Nat) where
 e:Nat
 n:Nat
 ti:gd P G e
 i:TypeInfo
 b1:arh
 hu:P.underlying t=are (.array n e)
 af:P.info? t=are i
 aD:i.zero=are b1
 b3:b1.cells.toList.all b7=arf
 cZ:b1.cells.size=i.size
 pT:b1.cells.toList=(arL n ti.b1.cells.toList).flatten
 av:ar5 n bT=arf
structure Ec (P:arl) (G:lT D) (kt vt:Nat) where
 dec:DecidableEq (D kt)
 K:ku P kt (G.bX kt)
 V:lU P vt (G.bX vt)
 o7:aN D->Option (D kt)
 s9:bC D->Option (D vt)
 oG:D vt->bC D
 z0:D vt
 i:TypeInfo
 af:P.info? vt=are i
 aD:i.zero=are (cN (cB P vt) (G.bX vt z0))
 tL:∀z vs s a v,o7 s=are a->rel G z vs s v->v=cN (cB P kt) (G.bX kt a)
 yQ:∀z vs c a v,s9 c=are a->db G z vs c v->v=cN (cB P vt) (G.bX vt a)
 l5:∀z vs a,db G z vs (oG a) (cN (cB P vt) (G.bX vt a))
 tX:cB P vt=arj
structure Rr (P:arl) (G:lT D) (e:Nat) where
 to:List (D e)->List UInt8
 of:List UInt8->List (D e)
 ao:∀z xs v,dW (G.T e) z xs v->dW (iN e) z (to xs) v
 ag:∀z m0 m k xs v,cO (G.T e) z m0 m k xs v->cO (iN e) z m0 m k (to xs) v
 ab:∀z m0 m k xs v,cO (iN e) z m0 m k xs v->cO (G.T e) z m0 m k (of xs) v
 i:TypeInfo
 hu:P.underlying e=are (.int .u8)
 af:P.info? e=are i
 iS:i.size=1
 aq:∀z m a8 w,Src (iN e) z m a8 w->Src (G.T e) z m (of a8) w
structure mu (P:arl) (G:lT D) (t:Nat) where
 aY:Array Field
 eq:D t->D t->Bool
 dc:D t->List arh
 ak:P.underlying t=are (.struct aY)
 an:P.stoodInHeld t=arj
 aM:P.eqGuardType P.depth t=arj
 aq:∀x y,lS P aY.toList 0 (dc x) (dc y)
 aa:∀z x ds,(G.T t).rd z x ds->ds=dc x
 he:∀x y,eq x y=arf↔dc x=dc y
structure pB (P:arl) (G:lT D) where
 f:Nat
 g:Nat
 e:Nat
 im:List (D e)->Option (List (D e))
 dc:D e->List arh
 aa:∀z x ds,(G.T e).rd z x ds->ds=dc x
 ao:∀z x,(G.T e).rd z x (dc x)
 aK:∀x,(dc x).all b7=arf
 ok:kG P f=arf
 az:ZW P f (.func (.func g) #[] #[])
 av:∀xs a8,im xs=are a8->a8.length=xs.length
 aq:∀xs a8,im xs=are a8->0<xs.length->Qa P f (.func (.func g) #[] #[]) xs.length (xs.flatMap dc) (a8.flatMap dc)
structure px (P:arl) (G:lT D) (e t:Nat) where
 up:List (D t)->D e
 bu:(G.T e).aW=1
 tid:(G.T e).tid=e
 ao:∀z xs c,dW (G.T t) z xs c->(G.T e).rd z (up xs) [c]
 i:TypeInfo
 af:P.info? e=are i
 aD:i.zero=are (.slice ari 0 0)
 h1:i.size=1
 fW:arF i.bytes 32768=arf
 hu:P.underlying e=are (.slice t)
 ak:(G.T t).tid=t
structure dk (P:arl) (D:Nat->Type) where
 G:lT D
 S:List (pB P G):=[]
 I:(t:Nat)->Option (gd P G t)
 A:(t:Nat)->Option (Rq P G t)
 Jw:(kt vt:Nat)->Option (Ec P G kt vt)
 B:(e:Nat)->Option (Rr P G e)
 Q:(t:Nat)->Option (mu P G t)
 N:(e t:Nat)->Option (px P G e t):=fun _ _=>ari
 F:(f:Nat)->List (aN D)->List (aG D)->Bool
 dq:arm->Option arm->Option arm->Nat:=fun _ _ _=>0
 W:(f:Nat)->Bool:=fun _=>arj
 C:(f:Nat)->List (aN D)->List (aG D)->{ae:Type}->(aN D->List (aG D)->Option ae)->Option ae
variable (X:dk P D) {ae:Type}
def dQ:List (Nat×aN D)->Nat->aN D
 |[],_=> .un
 |p::E,i=>if aru p.1 i=arf then p.2 else dQ E i
def lE (E:List (Nat×aN D)):Option Nat->aN D->List (Nat×aN D)
 |none,_=>E
 |some d,v=>(d,v)::E
def Nf:arh->aN D
 | .int k n=> .c (.int k n)
 | .bool b=> .c (.bool b)
 | .string b=> .c (.str b.data.toList)
 | .slice ari 0 0=> .c .fH
 | .pointer ari=> .c .y4
 | .map ari=> .c .nA
 | .nilFunc=> .c .wk
 |_=> .un
def cj (E:List (Nat×aN D)):arm->aN D
 | .tmp t=>dQ E t
 | .const v=>Nf v
 | .func f=> .fn f []
 | .global _=> .un
def Hy:arm->Bool
 | .const (.int _ n)=>n !=0
 |_=>arj
def Ex (op:BinOp) (y:arm) (k:aro) (a b:Int) (K:bC D->Option ae):Option ae:=
 match op with
 | .add=>K (.int k (k.wrap (a+b)))
 | .sub=>K (.int k (k.wrap (a - b)))
 | .mul=>K (.int k (k.wrap (a*b)))
 | .and=>K (.int k (p9 .and k a b))
 | .or=>K (.int k (p9 .or k a b))
 | .xor=>K (.int k (p9 .xor k a b))
 | .andNot=>K (.int k (p9 .andNot k a b))
 | .eql=>K (.bool (a==b))
 | .neq=>K (.bool (a !=b))
 | .lss=>K (.bool (decide (a<b)))
 | .leq=>K (.bool (decide (a<=b)))
 | .gtr=>K (.bool (decide (b<a)))
 | .geq=>K (.bool (decide (b<=a)))
 | .quo=>if Hy y=arf then K (.int k (k.wrap (Int.tdiv a b))) else ark (ye a b) fun c=>K (.int k (k.wrap c))
 | .rem=>if Hy y=arf then K (.int k (Int.tmod a b)) else ark (sh a b) fun c=>K (.int k c)
 |_=>ari
def TJ (op:BinOp) (s r:List UInt8) (K:bC D->Option ae):Option ae:=
 match op with
 | .add=>ark (eh s r) fun q=>K (.str q)
 | .eql=>K (.bool (s==r))
 | .neq=>K (.bool (!(s==r)))
 | .lss=>K (.bool (po s r))
 | .leq=>K (.bool (po s r||(s==r)))
 | .gtr=>K (.bool (!(po s r||(s==r))))
 | .geq=>K (.bool (!po s r))
 |_=>ari
def TI (op:BinOp) (a b:Bool) (K:bC D->Option ae):Option ae:=
 match op with
 | .eql=>K (.bool (a==b))
 | .neq=>K (.bool (!(a==b)))
 |_=>ari
def PN:arm->Bool
 | .const (.slice ari 0 0)=>arf
 |_=>arj
def pk (O:List (aG D)):aN D->Option ((e:Nat)×List (D e))
 | .c (.aE e xs)=>are ⟨e,xs⟩
 | .c (.own i)=>
  match O[i]? with
  |some (.aE e xs _ _)=>are ⟨e,xs⟩
  |_=>ari
 |_=>ari
def Y9:arm->Option Nat
 | .const (.int _ (.ofNat n))=>are n
 |_=>ari
def aar (k:aro) (b:Int):Option Nat:=if 0<=b then are (min b.toNat k.bits) else ari
def z8 (left:Bool) (k:aro) (a:Int) (n:Nat):Int:=if left=arf then k.wrap (a*((2 ^ n:Nat):Int)) else a.fdiv ((2 ^ n:Nat):Int)
def Iy (left:Bool) (y:arm) (k:aro) (a b:Int) (K:bC D->Option ae):Option ae:=
 match Y9 y with
 |some n=>if arF n k.bits=arf then K (.int k (z8 left k a n)) else ari
 |none=>ark (aar k b) fun n=>K (.int k (z8 left k a n))
def Lh (op:BinOp) (t t1:Nat) (c1:List (bC D)) (t2:Nat) (c2:List (bC D)) (K:bC D->Option ae):Option ae:=
 match X.I t,X.Q t with
 |some ti,are mS=>
  match ti.pc c1,ti.pc c2 with
  |some a,are b=>(match op with| .eql=>K (.bool (mS.eq a b))| .neq=>K (.bool (!(mS.eq a b)))|_=>ari)
  |_,_=>ari
 |_,_=>ari
def JZ (op:BinOp) (t:arn) (y:arm) (O:List (aG D)) (a b:aN D) (K:bC D->Option ae):Option ae:=
 match a,b with
 | .c (.int k a), .c (.int bW b)=>(match op with| .shl=>Iy arf y k a b K| .shr=>Iy arj y k a b K|op=>if k=bW then Ex op y k a b K else ari)
 | .c (.str s), .c (.str r)=>TJ op s r K
 | .c (.bool a), .c (.bool b)=>match P.underlying t with|some .bool=>TI op a b K|_=>ari
 |a,_=>
  match op,P.underlying t,PN y with
  | .eql,are (.slice _),arf=>
   match a with
   | .c .fH=>K (.bool arf)
   |a=>match pk O a with|some ⟨_,xs⟩=>o9 xs fun t=>K (.bool t)|none=>ari
  | .neq,are (.slice _),arf=>
   match a with
   | .c .fH=>K (.bool arj)
   |a=>match pk O a with|some ⟨_,xs⟩=>o9 xs fun t=>K (.bool (!t))|none=>ari
  |_,_,_=>ari
def xz:List (bC D)->Nat->List (bC D)->List (bC D)
 |L,_,[]=>L
 |L,o,v::vs=>xz (L.set o v) (o+1) vs
def vu (O:List (aG D)) (i:Nat):Option (bC D×List (aG D)):=
 match O[i]? with
 |some (.aE e xs _ w)=>are (.aE e xs,O.set i (.aE e xs arf w))
 |some (.map t kt vt es _ w)=>are (.mp t kt vt es,O.set i (.map t kt vt es arf w))
 |some (.nest e t (are up) c8 ari w)=>are (.aE e (c8.map up),O.set i (.aE e (c8.map up) arf w))
 |_=>ari
def rQ (O:List (aG D)):bC D->Option (bC D×List (aG D))
 | .own i=>vu O i
 |c=>are (c,O)
def A1 (O:List (aG D)):List (bC D)->Option (List (bC D)×List (aG D))
 |[]=>are ([],O)
 |c::cs=>
  match rQ O c with
  |some (bg,bz)=>match A1 bz cs with|some (cs',tn)=>are (bg::cs',tn)|none=>ari
  |none=>ari
def zH:aN D->Option (List (bC D))
 | .c c=>are [c]
 | .agg _ cs=>are cs
 | .fn f []=>are [.fn f []]
 |_=>ari
def EX (O:List (aG D)) (s:aN D):Option (List (bC D)×List (aG D)):=
 match zH s with
 |some cs=>A1 O cs
 |none=>ari
def pj (t:arn) (cs:List (bC D)) (off:Nat) (K:aN D->Option ae):Option ae:=
 match P.underlying t with
 |none=>ari
 |some d=>
  if jz d=arf then
   match P.info? t with
   |none=>ari
   |some i=>if ((cs.drop off).take i.size).length=i.size then K (.agg t ((cs.drop off).take i.size)) else ari
  else
   match cs[off]? with
   |some c=>K (.c c)
   |none=>ari
def aqY (O:List (aG D)) (e:Nat):aN D->Option (List (D e)×List (aG D))
 | .c .fH=>are ([],O)
 | .c c=>
  match rQ O c with
  |some (.aE bp xs,bz)=>if h:bp=e then are (h▸xs,bz) else ari
  |_=>ari
 |_=>ari
def Dr:arm->arm->Bool
 | .tmp a, .tmp b=>aru a b
 | .const (.int _ a), .const (.int _ b)=>a==b
 |_,_=>arj
structure SN (D:Nat->Type) where
 u:Nat
 kt:Nat
 vt:Nat
 es:List (D kt×D vt)
def PS (O:List (aG D)):aN D->Option (SN D)
 | .c (.mp u k v es)=>are ⟨u,k,v,es⟩
 | .c (.own i)=>(match O[i]? with|some (.map u k v es _ _)=>are ⟨u,k,v,es⟩|_=>ari)
 |_=>ari
def Qi (t:arn) (a b:aN D) (O:List (aG D)) (K:aN D->List (aG D)->Option ae):Option ae:=
 match b with
 | .c (.int _ n)=>
  match a with
  | .arr i=>
   match O[i]? with
   |some (.arr e u n' xs _)=>
    match X.I e,P.underlying t with
    |some _,are (.array l bp)=>if bp=e/\l=n' then ark (bc xs n) fun _=>K (.el i e n 0) O else ari
    |_,_=>ari
   |_=>ari
  | .c (.aE e xs)=>
   match X.I e,P.underlying t with
   |some ti,are (.slice bp)=>if bp=e then ark (bc xs n) fun a=>K (.gw e (ti.lC a) 0) O else ari
   |_,_=>ari
  | .c (.own i)=>
   match O[i]? with
   |some (.aE e xs a6 _)=>
    match X.I e,P.underlying t with
    |some ti,are (.slice bp)=>if bp=e then ark (bc xs n) fun a=>if a6=arf then K (.gw e (ti.lC a) 0) O else K (.el i e n 0) O else ari
    |_,_=>ari
   |some (.nest e t1 _ c8 _ _)=>
    match X.N e t1,P.underlying t with
    |some _,are (.slice bp)=>if bp=e then ark (bc c8 n) fun _=>K (.el i e n 0) O else ari
    |_,_=>ari
   |_=>ari
  | .cut i e bf af=>
   match O[i]? with
   |some (.aE aT xs arj _)=>
    match X.I e,P.underlying t with
    |some _,are (.slice bp)=>if bp=e/\aT=e then ark (bc ((xs.take af).drop bf) n) fun _=>K (.el i e ((bf:Int)+n) 0) O else ari
    |_,_=>ari
   |_=>ari
  |_=>ari
 |_=>ari
def Qh (t:arn) (n:Nat) (a:aN D) (O:List (aG D)) (K:aN D->List (aG D)->Option ae):Option ae:=
 match P.underlying t with
 |some (.struct aY)=>
  match aY[n]? with
  |some f=>
   match P.info? f.type with
   |some k=>
    if k.size=0 then ari else
    match a with
    | .box i off=>K (.box i (off+f.offset)) O
    | .gw cS cs off=>K (.gw cS cs (off+f.offset)) O
    | .el i e ca off=>K (.el i e ca (off+f.offset)) O
    |_=>ari
   |none=>ari
  |none=>ari
 |_=>ari
def w6 (O:List (aG D)) (i:Nat):Option (List (aG D)):=
 match O[i]? with
 |some (.nest _ _ _ _ ari _)=>are O
 |some (.nest e t up c8 (are p) _)=>
  match O[p.2]? with
  |some (.aE cS xs arj _)=>if h:cS=t then are ((O.set i (.nest e t up (c8.set p.1.toNat (h▸xs)) ari arf)).set p.2 .dead) else ari
  |_=>ari
 |_=>ari
def O4 (t:arn) (i e:Nat) (ca:Int) (off:Nat) (O:List (aG D)) (K:aN D->List (aG D)->Option ae):Option ae:=
 match w6 O i with
 |some bB=>
  match bB[i]? with
  |some (.nest aT t1 up c8 ari w)=>
   match X.N aT t1 with
   |some _=>if aT=e/\t=e/\off=0 then ark (bc c8 ca) fun xs=>K (.c (.own bB.length)) (bB.set i (.nest aT t1 up c8 (are (ca,bB.length)) w)++[.aE t1 xs arj arj]) else ari
   |none=>ari
  |_=>ari
 |none=>ari
def Pr:Option (aG D)->Bool
 |some (.nest _ _ _ _ _ _)=>arf
 |_=>arj
def Hk (t:arn) (a:aN D) (O:List (aG D)) (K:aN D->List (aG D)->Option ae):Option ae:=
 match a with
 | .gw _ cs off=>pj (P:=P) t cs off fun v=>K v O
 | .box i off=>
  match O[i]? with
  |some (.box _ cs _ _)=>pj (P:=P) t cs off fun v=>K v O
  |some (.recv _ cs _)=>pj (P:=P) t cs off fun v=>K v O
  |_=>ari
 | .el i e ca off=>
  if Pr O[i]? =arf then O4 X t i e ca off O K else
  match O[i]?,X.I e with
  |some (.aE bp xs _ _),are ti=>if h:bp=e then ark (bc (h▸xs:List (D e)) ca) fun a=>pj (P:=P) t (ti.lC a) off fun v=>K v O else ari
  |some (.arr bp _ _ xs _),are ti=>if h:bp=e then ark (bc (h▸xs:List (D e)) ca) fun a=>pj (P:=P) t (ti.lC a) off fun v=>K v O else ari
  |_,_=>ari
 |_=>ari
def YZ (t:arn) (a:aN D) (O:List (aG D)) (K:aN D->List (aG D)->Option ae):Option ae:=
 Hk X t a O fun sv bz=>match sv with
  | .c (.own j)=>(match vu bz j with|some (c,cE)=>K (.c c) cE|none=>ari)
  |_=>ari
def Oc (t:arn) (i e:Nat) (ca:Int) (off:Nat) (b:aN D) (O:List (aG D)) (K:aN D->List (aG D)->Option ae):Option ae:=
 match b with
 | .c (.own j)=>
  match O[i]?,O[j]? with
  |some (.nest aT t1 up c8 hole _),are (.aE t2 xs arj _)=>
   match X.N aT t1 with
   |some _=>
    if h:t2=t1 then
     if aT=e/\t=e/\off=0 then
      match hole with
      |none=>ark (bc c8 ca) fun _=>K .undef ((O.set i (.nest aT t1 up (c8.set ca.toNat (h▸xs)) ari arf)).set j .dead)
      |some p=>if p.1=ca then ark (bc c8 ca) fun _=>K .undef ((O.set i (.nest aT t1 up (c8.set ca.toNat (h▸xs)) ari arf)).set j .dead) else ari
     else ari
    else ari
   |none=>ari
  |_,_=>ari
 | .c .fH=>
  match O[i]? with
  |some (.nest aT t1 up c8 hole _)=>
   match X.N aT t1 with
   |some _=>
    if aT=e/\t=e/\off=0 then
     match hole with
     |none=>ark (bc c8 ca) fun _=>K .undef (O.set i (.nest aT t1 up (c8.set ca.toNat []) ari arf))
     |some p=>if p.1=ca then ark (bc c8 ca) fun _=>K .undef (O.set i (.nest aT t1 up (c8.set ca.toNat []) ari arf)) else ari
    else ari
   |none=>ari
  |_=>ari
 |_=>ari
def O6 (t:arn) (a b:aN D) (O:List (aG D)) (K:aN D->List (aG D)->Option ae):Option ae:=
 match P.info? t with
 |none=>ari
 |some k=>
  match a with
  | .box i off=>
   match zH b with
   |none=>ari
   |some new=>
    if new.length=k.size then
     match O[i]? with
     |some (.box u cs arj _)=>if off+new.length<=cs.length then K .undef (O.set i (.box u (xz cs off new) arj arf)) else ari
     |some (.recv u cs _)=>if off+new.length<=cs.length then K .undef (O.set i (.recv u (xz cs off new) arf)) else ari
     |_=>ari
    else ari
  | .el i e ca off=>
   if Pr O[i]? =arf then Oc X t i e ca off b O K else
   match EX O b with
   |none=>ari
   |some (new,O)=>
    if new.length=k.size then
     match O[i]?,X.I e with
     |some (.aE bp xs arj _),are ti=>
      if h:bp=e then ark (bc (h▸xs:List (D e)) ca) fun a=>if off+new.length<=(ti.lC a).length then ark (ti.pc (xz (ti.lC a) off new)) fun a'=>K .undef (O.set i (.aE e ((h▸xs:List (D e)).set ca.toNat a') arj arf)) else ari
      else ari
     |some (.arr bp u n xs _),are ti=>
      if h:bp=e then ark (bc (h▸xs:List (D e)) ca) fun a=>if off+new.length<=(ti.lC a).length then ark (ti.pc (xz (ti.lC a) off new)) fun a'=>K .undef (O.set i (.arr e u n ((h▸xs:List (D e)).set ca.toNat a') arf)) else ari
      else ari
     |_,_=>ari
    else ari
  |_=>ari
def Dm {e:Nat} (ti:gd P X.G e) (E:List (Nat×aN D)):Nat->List (Nat×arm)->List (aG D)->(List (D e)->List (aG D)->Option ae)->Option ae
 |_,[],O,K=>K [] O
 |n,(j,x)::bx,O,K=>
  if j=n then
   match EX O (cj E x) with
   |some (cs,O)=>ark (ti.pc cs) fun a=>Dm ti E (n+1) bx O fun as O=>K (a::as) O
   |none=>ari
  else ari
def w5 (pl:List (Option (Nat×Nat))) (E:List (Nat×aN D)):List (Nat×arm)->List (bC D)->Option (List (bC D))
 |[],cs=>are cs
 |(i,x)::bx,cs=>
  match (pl[i]?).join,zH (cj E x) with
  |some (off,size),are new=>if new.length=size/\off+size<=cs.length then w5 pl E bx (xz cs off new) else ari
  |_,_=>ari
def yX (E:List (Nat×aN D)):Option arm->Option Int
 |none=>are 0
 |some y=>match cj E y with| .c (.int _ n)=>are n|_=>ari
def zO (E:List (Nat×aN D)) (l:Int):Option arm->Option Int
 |none=>are l
 |some y=>match cj E y with| .c (.int _ n)=>are n|_=>ari
def PL (t:arn) (a:aN D) (E:List (Nat×aN D)) (bf af:Option arm) (O:List (aG D)) (K:aN D->List (aG D)->Option ae):Option ae:=
 match a with
 | .c (.str s)=>
  match P.underlying t,yX E bf,zO E (s.length:Int) af with
  |some .string,are x,are y=>ark (gH s x y) fun r=>K (.c (.str r)) O
  |_,_,_=>ari
 | .c c=>
  match rQ O c with
  |some (.aE e xs,O)=>
   match P.underlying t,X.I e,yX E bf,zO E (xs.length:Int) af with
   |some (.slice bp),are _,are x,are y=>if bp=e then ark (gH xs x y) fun r=>K (.c (.aE e r)) O else ari
   |_,_,_,_=>ari
  |_=>ari
 |_=>ari
def Vs:aN D->Bool
 | .c .fH=>arf
 |_=>arj
def Py (t:arn) (y:arm) (a:aN D) (E:List (Nat×aN D)) (bf af:Option arm) (O:List (aG D)) (K:aN D->List (aG D)->Option ae):Option ae:=
 if Vs a=arf then
  match P.underlying t,yX E bf,zO E 0 af with
  |some (.slice e),are p,are q=>(match X.I e with|some _=>if (p==0&&q==0)=arf then K (.c .fH) O else ari|none=>ari)
  |_,_,_=>ari
 else
 match X.dq y bf af with
 |0=>PL X t a E bf af O K
 |md+1=>
  match a with
  | .c (.own i)=>
   match O[i]?,P.underlying t with
   |some (.aE e xs arj _),are (.slice bp)=>
    match X.I e,yX E bf,zO E (xs.length:Int) af with
    |some _,are p,are q=>
     if bp=e then ark (gH xs p q) fun r=>
      if aru md 0=arf then K (.cut i e p.toNat q.toNat) O
      else K (.c (.own O.length)) (O.set i .dead++[.aE e r arj arj])
     else ari
    |_,_,_=>ari
   |_,_=>ari
  |_=>ari
def ZS {al:Type} (xs:List al) (p q:Int):Option (List al):=if 0<=p/\p<=(xs.length:Int)/\p<=4294967296/\p=q then are (xs.take p.toNat) else ari
def Pz (t:arn) (a b c:aN D) (O:List (aG D)) (K:aN D->List (aG D)->Option ae):Option ae:=
 match P.underlying t,b,c with
 |some (.slice bp), .c (.int _ p), .c (.int _ q)=>
  match a with
  | .c c=>
   match rQ O c with
   |some (.aE e xs,O)=>
    match X.I e with
    |some _=>if bp=e then ark (ZS xs p q) fun r=>K (.full e r) O else ari
    |none=>ari
   |_=>ari
  |_=>ari
 |_,_,_=>ari
def Px (s t:arn) (a:aN D) (O:List (aG D)) (K:aN D->List (aG D)->Option ae):Option ae:=
 match P.underlying s,P.underlying t with
 |some (.int _),are (.int bW)=>(match a with| .c (.int _ n)=>K (.c (.int bW (bW.wrap n))) O|_=>ari)
 |some .string,are (.slice e)=>(match a,X.B e with| .c (.str s),are kx=>ark (eh s []) (fun cV=>K (.c (.own O.length)) (O++[.aE e (kx.of cV) arj arj]))|_,_=>ari)
 |some (.slice e),are .string=>(match pk O a,X.B e with|some ⟨bp,xs⟩,are kx=>if h:bp=e then K (.c (.str (kx.to (h▸xs)))) O else ari|_,_=>ari)
 |_,_=>ari
def Hz (O:List (aG D)) (s:aN D):Option ((e:Nat)×List (D e)):=
 match s with
 | .cut i e bf n=>
  match O[i]? with
  |some (.aE bp xs arj _)=>if bp=e then are ⟨bp,(xs.take n).drop bf⟩ else ari
  |_=>ari
 |s=>pk O s
def Pc (e:Nat) (yf:TypeDesc) (b:aN D) (O:List (aG D)):Option (List (D e)):=
 match yf with
 | .slice _=>(match b with
  | .c .fH=>are []
  |b=>match Hz O b with|some ⟨bp,a8⟩=>if h:bp=e then are (h▸a8) else ari|none=>ari)
 | .string=>(match b,X.B e with
  | .c (.str s),are kx=>are (kx.of s)
  |_,_=>ari)
 |_=>ari
def HA (t u:arn) (a b:aN D) (O:List (aG D)) (K:aN D->List (aG D)->Option ae):Option ae:=
 match P.underlying t,P.underlying u with
 |some (.slice e),are yf=>
  match X.I e with
  |none=>ari
  |some _=>
   match Pc X e yf b O with
   |none=>ari
   |some a8=>
    match a with
    | .c .fH=>ark (eh [] a8) fun r=>K (.c (.own O.length)) (O++[.aE e r arj arj])
    | .full bp xs=>if h:bp=e then (if a8.isEmpty=arf then ari else ark (eh (h▸xs:List (D e)) a8) fun r=>K (.c (.own O.length)) (O++[.aE e r arj arj])) else ari
    | .c (.own i)=>
     match O[i]? with
     |some (.aE bp xs arj _)=>if h:bp=e then ark (eh (h▸xs:List (D e)) a8) fun r=>K (.c (.own O.length)) (O.set i .dead++[.aE e r arj arj]) else ari
     |_=>ari
    | .cut i aT bf n=>
     if aru bf 0=arf then
      if aT=e then
       match O[i]? with
       |some (.aE bp xs arj _)=>if h:bp=e then ark (eh ((h▸xs:List (D e)).take n) a8) fun r=>K (.c (.own O.length)) (O.set i .dead++[.aE e r arj arj]) else ari
       |_=>ari
      else ari
     else ari
    |_=>ari
 |_,_=>ari
def Pl (t u:arn) (a b:aN D) (O:List (aG D)) (K:aN D->List (aG D)->Option ae):Option ae:=
 match P.underlying t,P.underlying u with
 |some (.slice e),are (.slice _)=>
  match X.I e,a,Hz O b with
  |some _, .full bp xs,are ⟨e2,a8⟩=>
   if h:bp=e then
    if J:e2=e then ark (eh (h▸xs:List (D e)) (J▸a8:List (D e))) fun r=>if a8.isEmpty=arf then K (.c (.aE e r)) O else K (.c (.own O.length)) (O++[.aE e r arj arj])
    else ari
   else ari
  |_,_,_=>ari
 |_,_=>ari
def O3 (t:arn) (a b:aN D) (O:List (aG D)) (K:aN D->List (aG D)->Option ae):Option ae:=
 match P.underlying t,a,b with
 |some (.slice e), .c .fH, .c (.int _ n)=>
  match X.I e with
  |some ti=>if (decide (0<n))=arf then ark (k2 ti.x0 n) fun r=>K (.c (.own O.length)) (O++[.aE e r arj arj]) else ari
  |none=>ari
 |some (.slice e), .c (.own i), .c (.int _ n)=>
  match w6 O i with
  |some bB=>
   match bB[i]? with
   |some (.nest aT t1 up mZ ari _)=>
    match X.N aT t1 with
    |some _=>if aT=e then ark (k2 ([]:List (D t1)) n) fun a8=>ark (eh mZ a8) fun r=>K (.c (.own bB.length)) (bB.set i .dead++[.nest aT t1 up r ari arj]) else ari
    |none=>ari
   |_=>ari
  |none=>ari
 |_,_,_=>ari
def Pq:Option TypeDesc->Bool
 |some (.int _)=>arf
 |_=>arj
def Qk (t:arn) (l:Nat) (bx:List (Nat×arm)) (E:List (Nat×aN D)) (O:List (aG D)) (K:aN D->List (aG D)->Option ae):Option ae:=
 match P.underlying t with
 |some (.slice e)=>
  match P.underlying e with
  |some (.slice t1)=>
   match X.N e t1 with
   |some dx=>
    match l,bx with
    |0,[]=>K (.c (.own O.length)) (O++[.nest e t1 (are dx.up) [] ari arj])
    |1,[(0,y)]=>
     match cj E y with
     | .c (.own j)=>
      match O[j]? with
      |some (.aE t2 _ arj _)=>if t2=t1 then K (.c (.own O.length)) (O++[.nest e t1 (are dx.up) [[]] (are (0,j)) arj]) else ari
      |_=>ari
     |_=>ari
    |_,_=>ari
   |none=>ari
  |_=>ari
 |_=>ari
def Pk (t u:arn) (i:Nat) (b:aN D) (O:List (aG D)) (K:aN D->List (aG D)->Option ae):Option ae:=
 match P.underlying t,P.underlying u with
 |some (.slice e),are (.slice _)=>
  match b with
  | .c (.own j)=>
   if aru i j=arf then ari else
   match w6 O i with
   |some bB=>
    match w6 bB j with
    |some cE=>
     match cE[i]?,cE[j]? with
     |some (.nest aT t1 up mZ ari _),are (.nest e2 t2 _ jc ari _)=>
      match X.N aT t1 with
      |some dx=>if h:t2=t1 then (if aT=e/\e2=e then ark (eh mZ (h▸jc:List (List (D t1)))) fun r=>K (.c (.own cE.length)) ((cE.set i .dead).set j .dead++[.nest aT t1 up r ari arj]) else ari) else ari
      |none=>ari
     |_,_=>ari
    |none=>ari
   |none=>ari
  |_=>ari
 |_,_=>ari
def Qj (t:arn) (a:aN D) (O:List (aG D)) (K:aN D->List (aG D)->Option ae):Option ae:=
 match a,P.underlying t with
 | .c (.str s),are .string=>K (.c (.int .i64 (s.length:Int))) O
 | .c .fH,are (.slice _)=>K (.c (.int .i64 (([]:List Int).length:Int))) O
 |a,are (.slice _)=>
  match pk O a with
  |some ⟨_,xs⟩=>K (.c (.int .i64 (xs.length:Int))) O
  |none=>
   match a with
   | .c (.own i)=>(match O[i]? with|some (.nest _ _ _ c8 _ _)=>K (.c (.int .i64 (c8.length:Int))) O|_=>ari)
   | .cut i e bf af=>(match O[i]? with|some (.aE bp xs arj _)=>if bp=e then K (.c (.int .i64 (((xs.take af).drop bf).length:Int))) O else ari|_=>ari)
   |_=>ari
 |_,_=>ari
def ZJ:bC D->Bool
 | .own _=>arj
 | .fn _ is=>is.isEmpty
 |_=>arf
def w7 (O:List (aG D)):aN D->Option ((Nat×List (bC D))×List (aG D))
 | .gw t cs off=>if off=0 then are ((t,cs),O) else ari
 | .box i off=>
  match O[i]? with
  |some (.box t cs _ w)=>if off=0/\cs.all ZJ=arf then are ((t,cs),O.set i (.box t cs arf w)) else ari
  |_=>ari
 |_=>ari
def C1:List (aN D)->List (aG D)->Option (List (Nat×List (bC D))×List (aG D))
 |[],O=>are ([],O)
 |s::l,O=>
  match w7 O s with
  |some (c,O)=>(match C1 l O with|some (r,O)=>are (c::r,O)|none=>ari)
  |none=>ari
def J3 (O:List (aG D)):aN D->Option Nat
 | .box i off=>
  match O[i]? with
  |some (.box _ _ arj _)=>if off=0 then are i else ari
  |_=>ari
 |_=>ari
def Dh (O:List (aG D)):List (aN D)->Option (List Nat)
 |[]=>are []
 |s::l=>match J3 O s,Dh O l with|some i,are is=>are (i::is)|_,_=>ari
def Il:List (aN D)->Option Nat
 |[_, .fn g []]=>are g
 |_=>ari
def QD:Option Nat->Nat->Bool
 |some g,n=>aru g n
 |none,_=>arj
def xo:List (pB P X.G)->Nat->List (Nat×List (bC D))->List (aN D)->Option (pB P X.G)
 |[],_,_,_=>ari
 |s::l,f,caps,bA=>if (aru s.f f&&(caps.isEmpty&&QD (Il bA) s.g))=arf then are s else xo l f caps bA
def PA (eL:pB P X.G) (bA:List (aN D)) (O:List (aG D)) (K:aN D->List (aG D)->Option ae):Option ae:=
 match bA with
 | .c .fH::_=>K (.mV []) O
 | .c (.own i)::_=>
  match O[i]? with
  |some (.aE e xs arj _)=>if h:e=eL.e then ark (eL.im (h▸xs:List (D eL.e))) fun a8=>K (.mV []) (O.set i (.aE eL.e a8 arj arf)) else ari
  |_=>ari
 |_=>ari
def q2 (c:Call) (E:List (Nat×aN D)) (O:List (aG D)) (K:aN D->List (aG D)->Option ae):Option ae:=
 match c.callee with
 | .builtin .len=>match c.args.toList,c.argTypes.toList with|[x],[t]=>Qj (P:=P) t (cj E x) O K|_,_=>ari
 | .builtin .append=>match c.args.toList,c.argTypes.toList with|[x,y],[t,u]=>if Pq (P.underlying u)=arf then O3 X t (cj E x) (cj E y) O K else if aru (X.dq y (are x) (are x)) 6=arf then Pl X t u (cj E x) (cj E y) O K else (match cj E x with| .c (.own i)=>if Pr O[i]? =arf then Pk X t u i (cj E y) O K else HA X t u (cj E x) (cj E y) O K|_=>HA X t u (cj E x) (cj E y) O K)|_,_=>ari
 | .builtin .cap=>match c.args.toList,c.argTypes.toList with|[x],[t]=>(match cj E x,P.underlying t with| .c .fH,are (.slice _)=>K (.c (.int .i64 0)) O|_,_=>ari)|_,_=>ari
 | .builtin .max=>match c.args.toList with|[x,y]=>(match cj E x,cj E y with| .c (.int k a), .c (.int bW b)=>if k=bW then K (.c (.int k (max a b))) O else ari|_,_=>ari)|_=>ari
 | .builtin .min=>match c.args.toList with|[x,y]=>(match cj E x,cj E y with| .c (.int k a), .c (.int bW b)=>if k=bW then K (.c (.int k (min a b))) O else ari|_,_=>ari)|_=>ari
 | .value f=>
  match cj E f with
  | .fn f caps=>
   match xo X X.S f caps (c.args.toList.map (cj E)) with
   |some eL=>PA X eL (c.args.toList.map (cj E)) O K
   |none=>X.C f (c.args.toList.map (cj E)++caps.map fun p=> .gw p.1 p.2 0) O K
  | .c (.fn f is)=>X.C f (c.args.toList.map (cj E)++is.map fun i=> .box i 0) O K
  |_=>ari
 |_=>ari
def O5 (e:Nat) (x y:arm) (n:Int) (O:List (aG D)) (K:aN D->List (aG D)->Option ae):Option ae:=
 match P.underlying e with
 |some (.slice t1)=>
  match X.N e t1,Dr x y with
  |some dx,arf=>ark (k2 ([]:List (D t1)) n) fun r=>K (.c (.own O.length)) (O++[.nest e t1 (are dx.up) r ari arj])
  |_,_=>ari
 |_=>ari
def fY (o:Op) (E:List (Nat×aN D)) (O:List (aG D)) (K:aN D->List (aG D)->Option ae):Option ae:=
 match o with
 | .move x=>K (cj E x) O
 | .assign x=>K (cj E x) O
 | .nilCheck x=>(match cj E x with| .box .. | .arr .. | .el .. | .gw .. =>K (cj E x) O|_=>ari)
 | .extract x i=>(match cj E x with| .mV l=>(match l[i]? with|some (.inl c)=>K (.c c) O|some (.inr p)=>K (.agg p.1 p.2) O|none=>ari)|_=>ari)
 | .pick c a b=>(match cj E c with| .c (.bool arf)=>K (cj E a) O| .c (.bool arj)=>K (cj E b) O|_=>ari)
 | .binOp op t x y u=>(match cj E x,cj E y with| .agg t1 c1, .agg t2 c2=>Lh X op t t1 c1 t2 c2 fun c=>K (.c c) O|a,b=>JZ (P:=P) op t y O a b fun c=>K (.c c) O)
 | .unOp .not t x=>(match cj E x with| .c (.bool b)=>K (.c (.bool (!b))) O|_=>ari)
 | .unOp .neg t x=>(match cj E x with| .c (.int k a)=>K (.c (.int k (k.wrap (0 - a)))) O|_=>ari)
 | .convert s t x=>Px X s t (cj E x) O K
 | .indexAddr t x y=>Qi X t (cj E x) (cj E y) O K
 | .fieldAddr t x n=>Qh (P:=P) t n (cj E x) O K
 | .load t x=>if aru (X.dq x ari ari) 4=arf then YZ X t (cj E x) O K else Hk X t (cj E x) O K
 | .store t x y=>O6 X t (cj E x) (cj E y) O K
 | .alloc t=>
  (match X.A t with
  |some jA=>K (.arr O.length) (O++[.arr jA.e t jA.n (arL jA.n jA.ti.x0) arj])
  |none=>match X.I t with|some ti=>K (.box O.length 0) (O++[.box t ti.qj arj arj])|none=>ari)
 | .box t x=>
  (match P.info? t,zH (cj E x) with
  |some i,are cs=>if cs.length=i.size then K (.box O.length 0) (O++[.box t cs arj arj]) else ari
  |_,_=>ari)
 | .makeSlice t x y=>
  (match P.underlying t,cj E x with
  |some (.slice e), .c (.int _ n)=>
   if aru (X.dq x (are x) (are x)) 3=arf then O5 X e x y n O K else
   match X.I e,Dr x y with
   |some ti,arf=>ark (k2 ti.x0 n) fun r=>K (.c (.own O.length)) (O++[.aE e r arj arj])
   |_,_=>ari
  |_,_=>ari)
 | .buildSlice t l bx=>
  if aru (X.dq (.const (.int .i64 (t:Int))) ari ari) 3=arf then Qk X t l bx.toList E O K else
  (match P.underlying t with
  |some (.slice e)=>
   match X.I e with
   |some ti=>Dm X ti E 0 bx.toList O fun as O=>if as.length=l/\arF (l*(X.G.T e).aW) 16777216=arf then K (.c (.own O.length)) (O++[.aE e as arj arj]) else ari
   |none=>ari
  |_=>ari)
 | .build t bx=>
  (match P.underlying t,X.I t with
  |some (.struct aY),are ti=>if (mc P aY).all auo=arf then (match w5 (mc P aY) E bx.toList ti.qj with|some cs=>K (.agg t cs) O|none=>ari) else ari
  |some (.array n e),are ti=>(match P.info? e with|some k=>(match w5 ((ar2 n).map fun j=>are (j*k.size,k.size)) E bx.toList ti.qj with|some cs=>K (.agg t cs) O|none=>ari)|none=>ari)
  |_,_=>ari)
 | .slice t x bf af ari=>Py X t x (cj E x) E bf af O K
 | .slice t x ari (are y) (are eI)=>Pz X t (cj E x) (cj E y) (cj E eI) O K
 | .index t x y=>(match P.underlying t,cj E x,cj E y with|some .string, .c (.str s), .c (.int _ n)=>ark (bc s n) fun c=>K (.c (.int .u8 (UInt8.toNat c:Int))) O|_,_,_=>ari)
 | .makeFunc (.func f) first cap=>
  if aru (X.dq (.func f) ari ari) 5=arf then (match first.toList,Dh O (cap.toList.map (cj E)) with|[],are is=>K (.c (.fn f is)) O|_,_=>ari) else
  (match first.toList,C1 (cap.toList.map (cj E)) O with|[],are (caps,O)=>K (.fn f caps) O|_,_=>ari)
 | .makeMap t ari=>(match P.underlying t with|some (.map kt vt)=>K (.c (.own O.length)) (O++[.map t kt vt [] arj arj])|_=>ari)
 | .lookup t x y ok=>
  (match PS O (cj E x),cj E y with
  |some ⟨u,kt,vt,es⟩,c=>
   match P.underlying t,P.underlying u with
   |some (.map k v),are (.map bW bl)=>
    if k=kt/\v=vt/\bW=kt/\bl=vt then
     match X.Jw kt vt with
     |some ea=>
      match ea.o7 c with
      |some a=>aQ.lt (@bn _ _ ea.dec es a) fun y=>if ok=arf then K (.mV [.inl (ea.oG (y.getD ea.z0)), .inl (.bool y.isSome)]) O else K (.c (ea.oG (y.getD ea.z0))) O
      |none=>ari
     |none=>ari
    else ari
   |_,_=>ari
  |_,_=>ari)
 | .mapUpdate t x y w| .insert t x y w=>
  (match cj E x,cj E y,cj E w with
  | .c (.own i),c, .c d=>
   match O[i]? with
   |some (.map u kt vt es arj _)=>
    match P.underlying t,P.underlying u with
    |some (.map k v),are (.map bW bl)=>
     if k=kt/\v=vt/\bW=kt/\bl=vt then
      match X.Jw kt vt with
      |some ea=>
       match ea.o7 c,ea.s9 d with
       |some a,are b=>aQ.lt (@eJ _ _ ea.dec es a b) fun tC=>K .undef (O.set i (.map u kt vt tC arj arf))
       |_,_=>ari
      |none=>ari
     else ari
    |_,_=>ari
   |_=>ari
  |_,_,_=>ari)
 | .call c=>q2 X c E O K
 |_=>ari
def Zh:Op->Option Nat
 | .pick (.tmp d) _ _=>are d
 |_=>ari
def uK (E:List (Nat×aN D)) (d:Nat) (K:List (Nat×aN D)->Option ae):Option ae:=
 match dQ E d with
 | .c (.bool b)=>if b=arf then K ((d, .c (.bool arf))::E) else K ((d, .c (.bool arj))::E)
 | .undef=>K E
 |_=>ari
def B7 (o:Oper) (E:List (Nat×aN D)) (O:List (aG D)) (K:List (Nat×aN D)->List (aG D)->Option ae):Option ae:=
 match Zh o.op with
 |some d=>uK E d fun E=>fY X o.op E O fun v O=>K (lE E o.dst v) O
 |none=>fY X o.op E O fun v O=>K (lE E o.dst v) O
def ps (ops:List Oper):List Oper->List (Nat×aN D)->List (aG D)->(List (Nat×aN D)->List (aG D)->Option ae)->Option ae
 |[],E,O,K=>K E O
 |o::os,E,O,K=>
  match o.guard with
  |none=>B7 X o E O fun E O=>ps ops os E O K
  |some (j,want)=>
   match (ops[j]?).bind (·.dst) with
   |none=>ari
   |some d=>
    uK E d fun E=>
     match dQ E d with
     | .c (.bool b)=>if b=want then B7 X o E O fun E O=>ps ops os E O K else ps ops os (lE E o.dst .undef) O K
     | .undef=>ps ops os (lE E o.dst .undef) O K
     |_=>ari
inductive kO where
 |oj|a6|lost
 |ob (j:Nat)
def q7 (E:List (Nat×aN D)):Op->Option kO
 | .load _ x=>(match cj E x with| .gw _ (_::_) _=>are .a6| .box j _=>are (.ob j)| .el j _ _ _=>are (.ob j)|_=>ari)
 | .lookup _ x _ _=>(match cj E x with| .c (.mp _ _ _ _)=>are .a6| .c (.own j)=>are (.ob j)|_=>ari)
 | .convert _ _ x=>(match cj E x with| .c (.aE _ _)=>are .a6| .c (.own j)=>are (.ob j)| .c (.int _ _)=>are .oj| .c (.str _)=>are .oj|_=>ari)
 | .slice _ x _ _ _=>(match cj E x with| .c (.str _)=>are .oj| .c (.aE _ _)=>are .a6| .c (.own j)=>are (.ob j)|_=>ari)
 |_=>are .oj
def p2:List (aN D)->List Nat
 |[]=>[]
 | .box i _::l=>i::p2 l
 |_::l=>p2 l
def zF:List (aN D)->List Nat
 |[]=>[]
 | .c (.own i)::l=>i::zF l
 |_::l=>zF l
def q8 (E:List (Nat×aN D)):Op->Option (List Nat)
 | .store _ x _=>(match cj E x with| .box j _=>are [j]| .el j _ _ _=>are [j]|_=>ari)
 | .mapUpdate _ x _ _=>(match cj E x with| .c (.own j)=>are [j]|_=>ari)
 | .insert _ x _ _=>(match cj E x with| .c (.own j)=>are [j]|_=>ari)
 | .call c=>
  match c.callee with
  | .builtin .append=>(match c.args.toList with|x::_=>(match cj E x with| .c .fH=>are []| .c (.own j)=>are [j]| .cut j _ _ _=>are [j]| .full _ _=>are []|_=>ari)|[]=>ari)
  | .value f=>(match cj E f with| .fn jS caps=>(match xo X X.S jS caps (c.args.toList.map (cj E)) with|some _=>are (zF (c.args.toList.map (cj E)))|none=>if X.W jS=arf then ari else are (p2 (c.args.toList.map (cj E))))|_=>ari)
  |_=>ari
 |_=>ari
structure eS where
 rd:List (Nat×kO)
 ix:List (Nat×(Bool×List Nat))
 ha:List (Nat×Nat)
 jT:List (Nat×Bool)
 mj:List Nat
def yV:aN D->Bool
 | .c (.aE _ _)=>arf
 | .gw _ (_::_) _=>arf
 |_=>arj
def sj (E:List (Nat×aN D)) (L:eS):arm->Bool
 | .tmp d=> !(L.mj.any (aru d))&&yV (dQ E d)
 |_=>arj
def qu (E:List (Nat×aN D)) (L:eS):Op->Bool
 | .move x=>sj E L x
 | .assign x=>sj E L x
 | .nilCheck x=>sj E L x
 | .fieldAddr _ x _=>sj E L x
 | .indexAddr _ x _=>sj E L x
 |_=>arj
def Vi (E:List (Nat×aN D)) (L:eS):Op->Bool
 | .load _ x=>sj E L x
 | .slice _ x _ _ ari=>sj E L x
 |_=>arj
def qh (E:List (Nat×aN D)) (o:Oper) (L:eS):eS:=
 match o.dst with
 |none=>L
 |some d=>if qu E L o.op=arf then {L with mj:=L.mj.filter fun e=> !(aru d e)} else {L with mj:=d::L.mj}
def sy (O:List (aG D)) (j:Nat):Bool:=match O[j]? with|some o=>o.live|none=>arj
def Hr (O:List (aG D)) (j:Nat):Bool:=match O[j]? with|some .dead=>arj|some (.box _ [] arf _)=>arj|some _=>arf|none=>arj
def uD (O:List (aG D)) (ts:List Nat) (j:Nat):Bool:=Hr O j&& !(ts.any (aru j))
def uA (O:List (aG D)):Nat->List (aG D)->List Nat
 |_,[]=>[]
 |i,o::l=>if o.live=arf then i::uA O (i+1) l else uA O (i+1) l
def zR (B:Array Nat) (i:Nat) (O:List (aG D)) (L:eS):kO->Bool
 | .oj=>arf
 | .a6=>L.ix.all fun y=>eM B i y.1||y.2.1
 | .ob j=>Hr O j&&L.ix.all fun y=>eM B i y.1||(y.2.1||y.2.2.any (aru j))
 | .lost=>arj
def DG (O:List (aG D)) (ts:List Nat):kO->Bool
 | .ob j=>uD O ts j
 | .lost=>arj
 |_=>arf
def PU (B:Array Nat) (i:Nat) (O:List (aG D)) (L:eS) (ts:List Nat):Bool:=
 ts.all (sy O)&&((L.rd.all fun y=>eM B i y.1||DG O ts y.2)&&L.ha.all fun y=>eM B i y.1||uD O ts y.2)
def p3 (E:List (Nat×aN D)) (O:List (aG D)):Op->Bool
 | .call c=>
  match c.callee with
  | .value f=>(match cj E f with| .fn f caps=>(match xo X X.S f caps (c.args.toList.map (cj E)) with|some _=>arj|none=>X.F f (c.args.toList.map (cj E)++caps.map fun p=> .gw p.1 p.2 0) O)|_=>arj)
  |_=>arj
 |_=>arj
def AY (i:Nat) (O:List (aG D)) (ts:List Nat) (qc:Bool) (L:eS):eS:=
 {rd:=L.rd.map fun y=>if DG O ts y.2=arf then y else (y.1, .lost)
  ix:=((i,arf,uA O 0 O)::L.ix).map fun y=>(y.1,y.2.1&&qc,y.2.2.filter (uD O ts))
  ha:=L.ha
  jT:=(i,ts.isEmpty)::L.jT.map fun y=>(y.1,y.2&&ts.isEmpty)
  mj:=L.mj}
def PK:aN D->Option (Option Nat)
 | .c (.own j)=>are (are j)
 | .box j _=>are (are j)
 | .arr j=>are (are j)
 | .c (.int _ _)=>are ari
 | .c (.str _)=>are ari
 |_=>ari
def Vu (o:Op) (v:aN D):Option (Option Nat):=if nK o=arf then PK v else are ari
def oC (i:Nat) (s:kO) (n:Option Nat) (L:eS):eS:=
 {rd:=match s with| .oj=>L.rd|s=>(i,s)::L.rd
  ix:=match n with|some _=>L.ix.map fun y=>(y.1,arj,y.2.2)|none=>L.ix
  ha:=match n with|some j=>(i,j)::L.ha|none=>L.ha
  jT:=L.jT
  mj:=L.mj}
def TY:kO->Bool
 | .a6=>arf
 |_=>arj
def Hv (B:Array Nat) (i:Nat) (E:List (Nat×aN D)) (L:eS) (s:kO) (o:Op):Bool:=TY s&&Vi E L o
def Pa (B:Array Nat) (i:Nat) (L:eS):Bool:=(L.rd.all fun y=>eM B i y.1)&&L.ha.all fun y=>eM B i y.1
def PV (i:Nat) (L:eS):eS:=
 {rd:=L.rd.map fun y=>(y.1, .lost)
  ix:=(i,arj,[])::L.ix.map fun y=>(y.1,arj,[])
  ha:=L.ha
  jT:=L.jT
  mj:=L.mj}
def F4 (B:Array Nat) (i:Nat) (o:Oper) (L:eS) (E:List (Nat×aN D)) (O:List (aG D)) (K:eS->List (Nat×aN D)->List (aG D)->Option ae):Option ae:=
 if iH o.op=arf then
  match q8 X E o.op with
  |some ts=>if PU B i O L ts=arf then fY X o.op E O fun v bz=>K (qh E o (AY i O ts (p3 X E O o.op) L)) (lE E o.dst v) bz else ari
  |none=>if Pa B i L=arf then fY X o.op E O fun v bz=>K (qh E o (PV i L)) (lE E o.dst v) bz else ari
 else
  match q7 E o.op with
  |some s=>
   if (zR B i O L s||Hv B i E L s o.op)=arf then
    fY X o.op E O fun v bz=>
     match Vu o.op v with
     |some n=>K (qh E o (oC i s n L)) (lE E o.dst v) bz
     |none=>ari
   else ari
  |none=>ari
def B6 (B:Array Nat) (i:Nat) (o:Oper) (L:eS) (E:List (Nat×aN D)) (O:List (aG D)) (K:eS->List (Nat×aN D)->List (aG D)->Option ae):Option ae:=
 match Zh o.op with
 |some d=>uK E d fun E=>F4 X B i o L E O K
 |none=>F4 X B i o L E O K
def uZ (B:Array Nat) (ops:List Oper):Nat->List Oper->eS->List (Nat×aN D)->List (aG D)->(List (Nat×aN D)->List (aG D)->Option ae)->Option ae
 |_,[],_,E,O,K=>K E O
 |i,o::os,L,E,O,K=>
  match o.guard with
  |none=>B6 X B i o L E O fun L E O=>uZ B ops (i+1) os L E O K
  |some (j,want)=>
   match (ops[j]?).bind (·.dst) with
   |none=>ari
   |some d=>
    uK E d fun E=>
     match dQ E d with
     | .c (.bool b)=>if b=want then B6 X B i o L E O fun L E O=>uZ B ops (i+1) os L E O K else uZ B ops (i+1) os L (lE E o.dst .undef) O K
     | .undef=>uZ B ops (i+1) os L (lE E o.dst .undef) O K
     |_=>ari
structure lg (D:Nat->Type) where
 path:List Nat
 fits:List (Nat×aN D)->List (aG D)->Bool
 run:List (Nat×aN D)->List (aG D)->{ae:Type}->(dF->List (Nat×aN D)->List (aG D)->Option ae)->Option ae
def EP:List Nat->List Nat->Bool
 |[],[]=>arf
 |a::p,b::q=>aru a b&&EP p q
 |_,_=>arj
def q4 (us:List (lg D)) (p:List Nat) (E:List (Nat×aN D)) (O:List (aG D)):Option (lg D):=
 match us with
 |[]=>ari
 |u::us=>if (EP u.path p&&u.fits E O)=arf then are u else q4 us p E O
def ajh:Option (aG D)->Bool
 |some (.nest _ _ _ _ (are _) _)=>arf
 |_=>arj
def an3 (O:List (aG D)) (n:Nat):Bool:=
 match O[n]? with
 |some (.nest _ _ _ _ (are p) _)=>(match O[p.2]? with|some o=> !o.live|none=>arj)
 |_=>arj
def HE:Nat->List (aG D)->Option (List (aG D))
 |0,O=>are O
 |n+1,O=>match HE n O with|some bB=>if ajh bB[n]? =arf then (if an3 bB n=arf then are bB else w6 bB n) else are bB|none=>ari
def uL (K:List (Nat×aN D)->List (aG D)->Option ae) (E:List (Nat×aN D)) (O:List (aG D)):Option ae:=match HE O.length O with|some bz=>K E bz|none=>ari
def hK (us:List (lg D)) (calm:Array Oper->Bool):Bool->List Nat->Code->List (Nat×aN D)->List (aG D)->(dF->List (Nat×aN D)->List (aG D)->Option ae)->Option ae
 |top,p, .seq a b,E,O,K=>
  match (if top=arf then ari else q4 us p.reverse E O) with
  |some u=>u.run E O K
  |none=>hK us calm arj (0::p) a E O fun e E O=>if e= .normal then hK us calm arj (1::p) b E O K else K e E O
 |top,p, .cond c a b,E,O,K=>
  match (if top=arf then ari else q4 us p.reverse E O) with
  |some u=>u.run E O K
  |none=>
   match cj E c with
   | .c (.bool t)=>if t=arf then hK us calm arj (0::p) a E O K else hK us calm arj (1::p) b E O K
   |_=>ari
 |top,p, .block id c,E,O,K=>
  match (if top=arf then ari else q4 us p.reverse E O) with
  |some u=>u.run E O K
  |none=>hK us calm arj (0::p) c E O fun e E O=>K (if e= .exit id then .normal else e) E O
 |top,p, .scope c,E,O,K=>
  match (if top=arf then ari else q4 us p.reverse E O) with
  |some u=>u.run E O K
  |none=>hK us calm arj (0::p) c E O K
 |top,p, .region _ ops d,E,O,K=>
  match (if top=arf then ari else q4 us p.reverse E O) with
  |some u=>u.run E O K
  |none=>if d=arf then (if calm ops=arf then ps X ops.toList ops.toList E O (uL (K .normal)) else uZ X (asa ops) ops.toList 0 ops.toList ⟨[],[],[],[],[]⟩ E O (uL (K .normal))) else ps X ops.toList ops.toList E O (uL (K .normal))
 |top,p, .loop c,E,O,K=>
  match (if top=arf then ari else q4 us p.reverse E O) with
  |some u=>u.run E O K
  |none=>ari
 |_,_, .skip,E,O,K=>K .normal E O
 |_,_, .label _,E,O,K=>K .normal E O
 |_,_, .exit id,E,O,K=>K (.exit id) E O
 |_,_, .ret,E,O,K=>K .ret E O
 |_,_,_,_,_,_=>ari
end
end
end Go.aQ
end
section
namespace Go.aQ
section
variable {P:arl} {D:Nat->Type} {X:dk P D} {ae:Type} {z z':Nat->aV} {e m m':Mem} {k:Option Nat} {vs:List arh} {fr:Nat->arh} {E:List (Nat×aN D)} {O:List (aG D)} {o:Oper} {r:ae}
def cF (X:dk P D) (O:List (aG D)) (z:Nat->aV) (e:Mem) (k:Option Nat) (vs:List arh) (K:aN D->List (aG D)->Option ae) (r:ae) (v:arh) (m':Mem):Prop:=
 ∃z' vs' sv bz,Inv O bz/\cz e.next z z'/\(∀(i:Nat) (u:arh),vs[i]? =are u->vs'[i]? =are u)/\bd X.G bz z' e m' k vs'/\rel X.G z' vs' sv v/\K sv bz=are r
theorem cF.here {K:aN D->List (aG D)->Option ae} {sv:aN D} {v:arh} (au:bd X.G O z e m k vs) (aa:rel X.G z vs sv v) (fA:K sv O=are r):cF X O z e k vs K r v m:=⟨z,vs,sv,O,Inv.refl O,cz.refl z,fun _ _ h=>h,au,aa,fA⟩
theorem cF.from {K:aN D->List (aG D)->Option ae} {v:arh} {bR:Nat->aV} {bB:List (aG D)} (af:Inv O bB) (aD:cz e.next z bR) (h:cF X bB bR e k vs K r v m'):cF X O z e k vs K r v m':=by
 obtain ⟨z',vs',sv,bz,az,h1,J,aj,aJ,bk⟩:=h;exact ⟨z',vs',sv,bz,af.trans az,aD.trans h1,J,aj,aJ,bk⟩
theorem Ow (aP:∀d,rel X.G z vs (dQ E d) (fr d)) (x:arm):rel X.G z vs (cj E x) (aL fr x):=by
 cases x with
 |tmp t=>exact aP t
 |func f=>exact ⟨[],rfl,trivial⟩
 |global g=>trivial
 |const v=>show rel X.G z vs (Nf v) v;unfold Nf;split<;>first|trivial|rfl
theorem YD {i:Nat} {c:bC D} {bz:List (aG D)} {v:arh} (au:bd X.G O z e m k vs) (h:vu O i=are (c,bz)) (aa:vs[i]? =are v):∃z',Inv O bz/\cz e.next z z'/\bd X.G bz z' e m k vs/\db X.G z' vs c v:=by
 unfold vu at h;split at h
 ·rename_i t xs a6 w ag;cases h;have bP:=au.obj i _ v ag aa;cases a6 with
  |true=>
   have:O.set i (.aE t xs arf w)=O:=by
    apply as8;intro j;rw[arY];split
    ·rename_i cQ;subst cQ;rw[ag,if_pos (arp.1 ag).1]
    ·rfl
   rw[this];exact ⟨z,Inv.refl O,cz.refl z,au,bP⟩
  |false=>have bP:cO (X.G.T t) z e m k xs v:=bP;obtain ⟨z',h1,J,aj,aJ⟩:=bP.freeze au.aR;have ab:cT v=ck v:=fz (by obtain ⟨a,c,rfl⟩:=bP.a7.len;intro r;simp);exact ⟨z',Inv.set O i (.inl rfl),h1,au.ib ag aa rfl rfl h1.le J (by rw[ab];exact aJ) aj,aj⟩
 ·rename_i t kt vt es a6 w ag;cases h;have bP:=au.obj i _ v ag aa;cases a6 with
  |true=>
   have:O.set i (.map t kt vt es arf w)=O:=by
    apply as8;intro j;rw[arY];split
    ·rename_i cQ;subst cQ;rw[ag,if_pos (arp.1 ag).1]
    ·rfl
   rw[this];exact ⟨z,Inv.refl O,cz.refl z,au,bP⟩
  |false=>
   have bP:hU (X.G.M t kt vt) z e m k es v:=bP;obtain ⟨z',h1,J,aj,aJ⟩:=bP.freeze au.aR;have ab:cT v=sE v:=by obtain ⟨r,rfl,_⟩:=bP.a7;rfl
   exact ⟨z',Inv.set O i (.inl rfl),h1,au.ib ag aa rfl rfl h1.le J (by rw[ab];exact aJ) aj,aj⟩
 ·rename_i cH t up c8 w ag;cases h;obtain ⟨hu,ws,bP⟩:=au.obj i _ v ag aa;obtain ⟨h1,J,aj⟩:=hu up rfl;obtain ⟨z',g1,g2,g3,g4⟩:=agk bP h1 J aj au.aR;have od:∀r,v≠ .map r:=by obtain ⟨a,c,rfl⟩:=bP.a7.a7.len;intro r;simp
  exact ⟨z',Inv.set O i (.inl rfl),g1,au.D3 (p:=ari) ag aa rfl od g1.le ⟨ars _,au.aR.dead,fun _ _ _=>rfl⟩ g2 (fun _ _ _ _ _ _ _=>dV.qX) (fun b ab=>by cases ab) (fun b ab _ ai=>g4 b ab ai) g3,g3⟩
 ·cases h
theorem zC {c bg:bC D} {bz:List (aG D)} {v:arh} (au:bd X.G O z e m k vs) (h:rQ O c=are (bg,bz)) (aa:db X.G z vs c v):∃z',Inv O bz/\cz e.next z z'/\bd X.G bz z' e m k vs/\db X.G z' vs bg v:=by
 cases c with
 |own i=>exact YD au h aa.1
 |_=>cases h;exact ⟨z,Inv.refl O,cz.refl z,au,aa⟩
theorem O0:∀{cs cs':List (bC D)} {O bz:List (aG D)} {ds:List arh} {z:Nat->aV},bd X.G O z e m k vs->A1 O cs=are (cs',bz)->a1 (db X.G z vs) cs ds->∃z',Inv O bz/\cz e.next z z'/\bd X.G bz z' e m k vs/\a1 (db X.G z' vs) cs' ds
 |[],cs',O,bz,[],z,au,h,_=>by cases h;exact ⟨z,Inv.refl _,cz.refl z,au,trivial⟩
 |c::cs,cs',O,bz,d::ds,z,au,h,⟨h1,J⟩=>by
  unfold A1 at h;split at h
  ·rename_i bg bB ad;split at h
   ·rename_i ab6 cE gI;cases h;obtain ⟨bR,g0,g1,g2,g3⟩:=zC au ad h1;obtain ⟨z2,hh,bm,br,dj⟩:=O0 g2 gI (nL.mono J g1.le fun _ _ h=>h);exact ⟨z2,g0.trans hh,g1.trans bm,br,db.mono g3 bm.le fun _ _ h=>h,dj⟩
   ·cases h
  ·cases h
 |[],_,_,_,_::_,_,_,_,h=>h.elim
 |_::_,_,_,_,[],_,_,_,h=>h.elim
theorem Gp {s:aN D} {cs:List (bC D)} {v:arh} (h:zH s=are cs) (aa:rel X.G z vs s v):storable v=arf/\a1 (db X.G z vs) cs v.cells.toList:=by
 cases s with
 |c c=>cases h;have:=db.aat aa;rw[this.2];exact ⟨this.1,aa,trivial⟩
 |agg t cs'=>cases h;obtain ⟨ds,rfl,J⟩:=aa;exact ⟨rfl,J⟩
 |fn f caps=>
  cases caps with
  |nil=>
   cases h;obtain ⟨gs,rfl,J⟩:=aa;cases gs with
   |nil=>exact ⟨rfl,⟨[],rfl,trivial⟩,trivial⟩
   |cons _ _=>exact J.elim
  |cons _ _=>cases h
 |_=>cases h
theorem YE {s:aN D} {cs:List (bC D)} {bz:List (aG D)} {v:arh} (au:bd X.G O z e m k vs) (h:EX O s=are (cs,bz)) (aa:rel X.G z vs s v):∃z',Inv O bz/\cz e.next z z'/\bd X.G bz z' e m k vs/\storable v=arf/\a1 (db X.G z' vs) cs v.cells.toList:=by
 unfold EX at h;split at h
 ·rename_i qt ad;obtain ⟨h1,J⟩:=Gp ad aa;obtain ⟨z',g0,g1,g2,g3⟩:=O0 au h J;exact ⟨z',g0,g1,g2,h1,g3⟩
 ·cases h
variable {x y:arm} {t u:arn}
theorem ai0 {op:BinOp} {kk:aro} {a b:Int} {K:bC D->Option ae} (ag:o.op= .binOp op t x y u) (U:aL fr x= .int kk a) (ah:aL fr y= .int kk b) (h:Ex op y kk a b K=are r):∃c v,K c=are r/\cm P (aL fr) o v/\db X.G z vs c v:=by
 have lit:Hy y=arf->b≠0:=fun ai ab=>by
  unfold Hy at ai;split at ai
  ·rename_i FP n;have:asM FP n= .int kk b:=ah;cases this;simp[ab] at ai
  ·cases ai
 cases op with
 |add=>exact ⟨_,_,h,VF ag U ah,rfl⟩
 |sub=>exact ⟨_,_,h,VR ag U ah,rfl⟩
 |mul=>exact ⟨_,_,h,VM ag U ah,rfl⟩
 |and=>exact ⟨_,_,h,VG ag U ah,rfl⟩
 |or=>exact ⟨_,_,h,VQ ag U ah,rfl⟩
 |xor=>exact ⟨_,_,h,VS ag U ah,rfl⟩
 |andNot=>exact ⟨_,_,h,aka ag U ah,rfl⟩
 |eql=>exact ⟨_,_,h,VH ag U ah,rfl⟩
 |neq=>exact ⟨_,_,h,VO ag U ah,rfl⟩
 |lss=>exact ⟨_,_,h,VL ag U ah,rfl⟩
 |leq=>exact ⟨_,_,h,VK ag U ah,rfl⟩
 |gtr=>exact ⟨_,_,h,VJ ag U ah,rfl⟩
 |geq=>exact ⟨_,_,h,VI ag U ah,rfl⟩
 |quo=>
  simp only[Ex] at h;split at h
  ·rename_i ai;exact ⟨_,_,h,Nj ag U ah (lit ai),rfl⟩
  ·obtain ⟨c,ad,h⟩:=bind_some h;obtain ⟨h1,rfl⟩:=agC ad;exact ⟨_,_,h,Nj ag U ah h1,rfl⟩
 |rem=>
  simp only[Ex] at h;split at h
  ·rename_i ai;exact ⟨_,_,h,Nk ag U ah (lit ai),rfl⟩
  ·obtain ⟨c,ad,h⟩:=bind_some h;obtain ⟨h1,rfl⟩:=ahb ad;exact ⟨_,_,h,Nk ag U ah h1,rfl⟩
 |shl=>cases h
 |shr=>cases h
theorem ai1 {op:BinOp} {s q:List UInt8} {K:bC D->Option ae} (ag:o.op= .binOp op t x y u) (U:aL fr x=str s) (ah:aL fr y=str q) (h:TJ op s q K=are r):∃c v,K c=are r/\cm P (aL fr) o v/\db X.G z vs c v:=by
 cases op with
 |add=>obtain ⟨c,ad,h⟩:=bind_some h;obtain ⟨h1,rfl⟩:=ss ad;exact ⟨_,_,h,Z0 ag U ah (by simp only[mq] at h1;omega),rfl⟩
 |eql=>exact ⟨_,_,h,Z3 ag U ah,rfl⟩
 |neq=>exact ⟨_,_,h,aad ag U ah,rfl⟩
 |lss=>exact ⟨_,_,h,Z9 ag U ah,rfl⟩
 |leq=>exact ⟨_,_,h,Z8 ag U ah,rfl⟩
 |gtr=>exact ⟨_,_,h,Z6 ag U ah,rfl⟩
 |geq=>exact ⟨_,_,h,Z5 ag U ah,rfl⟩
 |_=>cases h
theorem aiZ {op:BinOp} {a b:Bool} {K:bC D->Option ae} (ag:o.op= .binOp op t x y u) (ak:P.underlying t=are .bool) (U:aL fr x= .bool a) (ah:aL fr y= .bool b) (h:TI op a b K=are r):∃c v,K c=are r/\cm P (aL fr) o v/\db X.G z vs c v:=by
 cases op with
 |eql=>exact ⟨_,_,h,Z2 ag ak U ah,rfl⟩
 |neq=>exact ⟨_,_,h,aac ag ak U ah,rfl⟩
 |_=>cases h
theorem Ov {s:aN D} {v:arh} {p:(t:Nat)×List (D t)} (au:bd X.G O z e m k vs) (h:pk O s=are p) (aa:rel X.G z vs s v):dW (X.G.T p.1) z p.2 v\/∃(w:arh),cO (X.G.T p.1) z e m k p.2 v:=by
 unfold pk at h;split at h
 ·cases h;exact .inl aa
 ·rename_i i;split at h
  ·rename_i t xs a6 w ag;cases h;have bP:=au.obj i _ v ag aa.1;cases a6 with
   |true=>exact .inl bP
   |false=>exact .inr ⟨v,bP⟩
  ·cases h
 ·cases h
theorem ag7 {s:aN D} {v:arh} {p:(t:Nat)×List (D t)} (au:bd X.G O z e m k vs) (h:pk O s=are p) (aa:rel X.G z vs s v):∃a c,v= .slice a p.2.length c:=by
 rcases Ov au h aa with h|⟨_,h⟩
 ·exact h.len
 ·exact h.a7.len
theorem Xe {s:aN D} {v:arh} {p:(t:Nat)×List (D t)} (au:bd X.G O z e m k vs) (h:pk O s=are p) (aa:rel X.G z vs s v):(v= .slice ari 0 0/\p.2=[])\/∃a l c,v= .slice (are a) l c:=by
 rcases Ov au h aa with h|⟨_,h⟩
 ·exact h.Na
 ·exact h.a7.Na
theorem ag8 {s:aN D} {v:arh} {p:(t:Nat)×List (D t)} (au:bd X.G O z e m k vs) (h:pk O s=are p) (aa:rel X.G z vs s v):Src (X.G.T p.1) z m p.2 v:=by
 rcases Ov au h aa with h|⟨_,h⟩
 ·exact h.src au.aR.a6
 ·exact h.a7.src
theorem oL.aog {al:Type} {T:cb al} {z':Nat->aV} {xs:List al} {bf n:Nat} {w v:arh} (ad:oL T.aW bf n w v) (h:dW T z' xs w):dW T z' ((xs.take n).drop bf) v:=by
 rcases ad with ⟨rfl,rfl,rfl,rfl⟩|⟨b,f0,l,c,off,bg,rfl,rfl,h1,J,aj,aJ⟩
 ·exact .inl ⟨rfl,by simp⟩
 ·rcases h with ⟨h,_⟩|⟨bV,Ng,c2,g1,g2,g3,g4⟩
  ·cases h
  ·cases g1;have ai:((xs.take n).drop bf).length=n - bf:=by simp;omega
   refine .inr ⟨b,off,bg,by rw[ai],g2, ?_,fun i x af=> ?_⟩
   ·rw[ai];rcases g3 with ⟨bm,L,br,dj⟩|⟨bm,br⟩
    ·rcases aJ with ⟨_,bk⟩|⟨bk,_⟩
     ·refine .inl ⟨bk,L,br, ?_⟩;have aT:n*T.aW<=xs.length*T.aW:=asC _ J;rcases aj with aj|⟨aj,rS⟩
      ·rw[aj,arZ,<-arW,show bf+(n - bf)=n by omega];omega
      ·rw[rS,show n - bf=0 by omega];omega
     ·omega
    ·rcases aJ with ⟨bk,_⟩|⟨bk,dn⟩
     ·omega
     ·exact .inr ⟨by omega,by omega⟩
   ·obtain ⟨cs,bm,br⟩:=g4 _ x (Hb af);refine ⟨cs,bm, ?_⟩;rcases aj with aj|⟨aj,rS⟩
    ·rw[aj,arZ,<-arW];exact br
    ·have:=(arp.1 af).1;omega
theorem oL.Ni {al:Type} {T:cb al} {z':Nat->aV} {m':Mem} {xs:List al} {bf n:Nat} {w v:arh} (ad:oL T.aW bf n w v) (h:er T z' m' xs w):er T z' m' ((xs.take n).drop bf) v:=by
 rcases ad with ⟨rfl,rfl,_,rfl⟩|⟨b,f0,l,c,off,bg,rfl,rfl,h1,J,aj,aJ⟩
 ·exact .inl ⟨rfl,by simp⟩
 ·rcases h with ⟨h,_⟩|⟨bV,f1,L,c2,g1,g2,g3,g4,g5,g6,g7⟩
  ·cases h
  ·cases g1;have ai:((xs.take n).drop bf).length=n - bf:=by simp;omega
   have aT:n*T.aW<=xs.length*T.aW:=asC _ J;have e2:bf*T.aW+(n - bf)*T.aW=n*T.aW:=by rw[<-arW,show bf+(n - bf)=n by omega]
   have hV:n<=bf->(n - bf)*T.aW=0:=fun h=>by rw[show n - bf=0 by omega,asz]
   refine .inr ⟨b,off,L,bg,by rw[ai],g2,g3,g4, ?_, ?_,fun i x af=> ?_⟩
   ·rw[ai];rcases aj with aj|⟨aj,rS⟩
    ·omega
    ·have:=hV aj;omega
   ·rw[ai];rcases aJ with ⟨_,bk⟩|⟨bk,dn⟩
    ·exact .inl bk
    ·rcases g6 with g6|⟨bm,br,dj⟩
     ·omega
     ·subst dn;have kR:bf*T.aW+(c - bf)*T.aW=c*T.aW:=by rw[<-arW,show bf+(c - bf)=c by omega]
      refine .inr ⟨by omega,by omega, ?_⟩;rcases aj with aj|⟨aj,rS⟩<;>omega
   ·obtain ⟨cs,bm,br⟩:=g7 _ x (Hb af);refine ⟨cs,bm, ?_⟩;rcases aj with aj|⟨aj,rS⟩
    ·rw[aj,arZ,<-arW];exact br
    ·have:=(arp.1 af).1;omega
theorem oL.a7 {al:Type} {T:cb al} {z':Nat->aV} {m':Mem} {xs:List al} {n:Nat} {w v:arh} (ad:oL T.aW 0 n w v) (h:er T z' m' xs w):er T z' m' (xs.take n) v:=by simpa using ad.Ni h
theorem oL.src {al:Type} {T:cb al} {z':Nat->aV} {m':Mem} {xs:List al} {bf n:Nat} {w v:arh} (ad:oL T.aW bf n w v) (h:er T z' m' xs w):Src T z' m' ((xs.take n).drop bf) v:=by
 rcases ad with ⟨rfl,rfl,rfl,rfl⟩|⟨b,f0,l,c,off,bg,rfl,rfl,h1,J,aj,aJ⟩
 ·simpa using (er.nil (T:=T) (z:=z') (m:=m')).src
 ·rcases h with ⟨h,_⟩|⟨bV,f1,L,c2,g1,g2,g3,g4,g5,g6,g7⟩
  ·cases h
  ·cases g1;have ai:((xs.take n).drop bf).length=n - bf:=by simp;omega
   rw[<-ai];refine Pt fun i y ah=> ?_;obtain ⟨cs,bm,br⟩:=g7 _ y (Hb ah);refine ⟨cs,bm,fun k u hk=> ?_⟩;have:=(arp.1 ah).1;have ag:off=f0+bf*T.aW:=by
    rcases aj with aj|⟨aj,_⟩
    ·exact aj
    ·omega
   rw[ag,arZ f0,<-arW];simp only[Mem.load,g2];exact br k u hk
theorem oL.ay {aW bf n:Nat} {w v:arh} (ad:oL aW bf n w v):cT v=cT w:=by
 rcases ad with ⟨rfl,rfl,_,_⟩|⟨b,f0,l,c,off,bg,rfl,rfl,_⟩<;>rfl
theorem Xd {s:aN D} {v:arh} {p:(t:Nat)×List (D t)} (au:bd X.G O z e m k vs) (h:Hz O s=are p) (aa:rel X.G z vs s v):Src (X.G.T p.1) z m p.2 v:=by
 unfold Hz at h;split at h
 ·obtain ⟨w,h1,J⟩:=aa;split at h
  ·rename_i bp xs bD hO;split at h
   ·rename_i he;subst he;cases h;have bP:cO _ z e m k xs w:=au.obj _ _ _ hO h1.1;exact J.src bP.a7
   ·cases h
  ·cases h
 ·exact ag8 au h aa
theorem X0 (h:PN y=arf):aL fr y= .slice ari 0 0:=by
 unfold PN at h;split at h
 ·rfl
 ·cases h
theorem Zm {op:BinOp} {left:Bool} {kk FP:aro} {a b:Int} {K:bC D->Option ae} (ag:o.op= .binOp op t x y u) (ar:aL fr x= .int kk a) (ab:aL fr y= .int FP b) (jG:(op= .shl/\left=arf)\/(op= .shr/\left=arj)) (h:Iy left y kk a b K=are r):∃c v,K c=are r/\cm P (aL fr) o v/\db X.G z vs c v:=by
 have fin:∀{n:Nat},0<=b->min b.toNat kk.bits=n->cm P (aL fr) o (.int kk (z8 left kk a n)):=by
  intro n iz av;have:=PB (P:=P) (op:=op) ag ar ab iz (by rcases jG with ⟨h,_⟩|⟨h,_⟩<;>simp[h]);rw[av] at this;have e:(if op= .shl then kk.wrap (a*2 ^ n) else a.fdiv (2 ^ n))=z8 left kk a n:=by rcases jG with ⟨rfl,rfl⟩|⟨rfl,rfl⟩<;>simp[z8,Int.natCast_pow]
  rw[<-e];exact this
 unfold Iy at h;split at h
 ·rename_i n av;obtain ⟨ai,h⟩:arF n kk.bits=arf/\K (.int kk (z8 left kk a n))=are r:=by
   split at h
   ·exact ⟨‹_›,h⟩
   ·cases h
  have ei:b=n:=by
   unfold Y9 at av;split at av
   ·cases av;have ab:asM _ (Int.ofNat n)= .int FP b:=ab;cases ab;rfl
   ·cases av
  exact ⟨_,_,h,fin (by omega) (by rw[ei,asv];exact Nat.min_eq_left (arG ai)),rfl⟩
 ·obtain ⟨n,av,h⟩:=bind_some h;unfold aar at av;split at av
  ·rename_i iz;cases av;exact ⟨_,_,h,fin iz rfl,rfl⟩
  ·cases av
theorem ak2 {op:BinOp} {t1 t2:Nat} {c1 c2:List (bC D)} {K:bC D->Option ae} (ag:o.op= .binOp op t x y u) (ar:rel X.G z vs (.agg t1 c1) (aL fr x)) (ab:rel X.G z vs (.agg t2 c2) (aL fr y)) (h:Lh X op t t1 c1 t2 c2 K=are r):∃c v,K c=are r/\cm P (aL fr) o v/\db X.G z vs c v:=by
 unfold Lh at h;split at h
 ·rename_i ti mS aeT aqA;split at h
  ·rename_i a b h1 J;obtain ⟨ds,U,yL⟩:=ar;obtain ⟨ng,ah,kX⟩:=ab;have aT:=mS.aa z a ds (ti.q0 z vs c1 a ds h1 yL);have e2:=mS.aa z b ng (ti.q0 z vs c2 b ng J kX);rw[aT] at U;rw[e2] at ah;split at h
   ·exact ⟨_,_,h,F6 arj (by simpa using ag) mS.ak mS.an mS.aM (mS.aq a b) U ah (mS.he a b),rfl⟩
   ·exact ⟨_,_,h,F6 arf (by simpa using ag) mS.ak mS.an mS.aM (mS.aq a b) U ah (mS.he a b),rfl⟩
   ·cases h
  ·cases h
 ·cases h
theorem ai3 {op:BinOp} {a b:aN D} {K:bC D->Option ae} (ag:o.op= .binOp op t x y u) (au:bd X.G O z e m k vs) (ar:rel X.G z vs a (aL fr x)) (ab:rel X.G z vs b (aL fr y)) (h:JZ (P:=P) op t y O a b K=are r):∃c v,K c=are r/\cm P (aL fr) o v/\db X.G z vs c v:=by
 unfold JZ at h;split at h
 ·split at h
  ·exact Zm ag ar ab (.inl ⟨rfl,rfl⟩) h
  ·exact Zm ag ar ab (.inr ⟨rfl,rfl⟩) h
  ·split at h
   ·rename_i hk;subst hk;exact ai0 ag ar ab h
   ·cases h
 ·exact ai1 ag ar ab h
 ·split at h
  ·rename_i ak;exact aiZ ag ak ar ab h
  ·cases h
 ·split at h
  ·rename_i fJ ak av;have ah:=X0 (fr:=fr) av;split at h
   ·exact ⟨_,_,h,zx arj ag ak ar ah,rfl⟩
   ·split at h
    ·rename_i cS xs ai;rcases Xe au ai ar with ⟨aa,pS⟩|⟨a',iW,bg,aa⟩
     ·exact ⟨_,_,Gx h arf fun _=>pS,zx arj ag ak aa ah,rfl⟩
     ·exact ⟨_,_,Gx h arj (by simp), .vp arj x y t u fJ a' iW bg ag ak aa ah,rfl⟩
    ·cases h
  ·rename_i fJ ak av;have ah:=X0 (fr:=fr) av;split at h
   ·exact ⟨_,_,h,zx arf ag ak ar ah,rfl⟩
   ·split at h
    ·rename_i cS xs ai;rcases Xe au ai ar with ⟨aa,pS⟩|⟨a',iW,bg,aa⟩
     ·exact ⟨_,_,Gx h arf fun _=>pS,zx arf ag ak aa ah,rfl⟩
     ·exact ⟨_,_,Gx h arj (by simp), .vp arf x y t u fJ a' iW bg ag ak aa ah,rfl⟩
    ·cases h
  ·cases h
end
end Go.aQ
end
section
namespace Go.aQ
section
variable {P:arl} {D:Nat->Type} {X:dk P D} {ae:Type} {z z':Nat->aV} {e m m':Mem} {k:Option Nat} {vs:List arh} {fr:Nat->arh} {E:List (Nat×aN D)} {O:List (aG D)} {o:Oper} {r:ae}
variable {x y:arm} {t u:arn} {K:aN D->List (aG D)->Option ae}
theorem ij {sv:aN D} {v:arh} (au:bd X.G O z e m k vs) (fA:K sv O=are r) (h:cm P (aL fr) o v) (aa:rel X.G z vs sv v):bO P (aL fr) o m fun _ v m'=>cF X O z e k vs K r v m':=
 bO.pure h (cF.here au aa fA)
theorem ZM {fK:Nat} {ti:gd P X.G fK} {xs:List (D fK)} {n:Int} {kk:aro} {a:D fK} (ag:o.op= .indexAddr t x y) (ak:P.underlying t=are (.slice fK)) (au:bd X.G O z e m k vs) (aq:dW (X.G.T fK) z xs (aL fr x)) (ah:aL fr y= .int kk n) (aM:bc xs n=are a)
  (h:K (.gw fK (ti.lC a) 0) O=are r):bO P (aL fr) o m fun _ v m'=>cF X O z e k vs K r v m':=by
 refine anW ag ak ti.af ti.bu rfl ah aq aM fun b off cs dm ad=> ?_;exact cF.here (sv:= .gw fK (ti.lC a) 0) au ⟨b,off,cs,rfl,ad,ti.rc _ _ _ _ dm⟩ h
theorem ahO {a b:aN D} (ag:o.op= .indexAddr t x y) (au:bd X.G O z e m k vs) (ar:rel X.G z vs a (aL fr x)) (ab:rel X.G z vs b (aL fr y)) (h:Qi X t a b O K=are r):bO P (aL fr) o m fun _ v m'=>cF X O z e k vs K r v m':=by
 unfold Qi at h;split at h
 ·rename_i kk n;have ah:aL fr y= .int kk n:=ab;split at h
  ·rename_i i;split at h
   ·rename_i t1 xC iE xs bD hO;split at h
    ·rename_i ti l bp cA ak;split at h
     ·rename_i di;obtain ⟨rfl,rfl⟩:=di;obtain ⟨a,aM,h⟩:=bind_some h;obtain ⟨b,uc,aa,U⟩:=ar;obtain ⟨⟨bV,he⟩,bP⟩:=au.obj i _ _ hO aa;cases he;refine anV ag ak ti.af (T:=(X.G.T bp).as xC) ti.bu U ah bP aM fun cs dm qF ad=> ?_;exact cF.here (sv:= .el i bp n 0) au ⟨b,0,_,_,aa,by simp;rfl⟩ h
     ·cases h
    ·cases h
   ·cases h
  ·rename_i aT xs;split at h
   ·rename_i ti bp cA ak;split at h
    ·rename_i di;subst di;obtain ⟨a,aM,h⟩:=bind_some h;exact ZM (ti:=ti) ag ak au ar ah aM h
    ·cases h
   ·cases h
  ·rename_i i;split at h
   ·rename_i t1 xs a6 bD hO;split at h
    ·rename_i ti bp cA ak;split at h
     ·rename_i di;subst di;obtain ⟨a,aM,h⟩:=bind_some h;have bP:=au.obj i _ _ hO ar.1;cases a6 with
      |true=>exact ZM (ti:=ti) ag ak au bP ah aM h
      |false=>have bP:cO (X.G.T bp) z e m k xs (aL fr x):=bP;refine ZN ag ak ti.af ti.bu rfl ah bP aM fun b f0 l c cs aa dm qF ad=> ?_;exact cF.here (sv:= .el i bp n 0) au ⟨b,f0,l,c,by rw[<-aa];exact ar.1,rfl⟩ h
     ·cases h
    ·cases h
   ·rename_i aT t1 up c8 hole bD hO;split at h
    ·rename_i dx bp bG ak;split at h
     ·rename_i di;subst di;obtain ⟨a,aM,h⟩:=bind_some h;obtain ⟨hu,ws,bP⟩:=au.obj i _ _ hO ar.1;obtain ⟨g0,g1,g2⟩:=pd aM;have aO:n.toNat<ws.length:=by rw[bP.len];exact (arp.1 g2).1
      have vL:bc ws n=are ws[n.toNat]:=by unfold bc;rw[if_pos (by omega)];exact arX aO
      refine ZN (T:=qn bp) ag ak dx.af (by rw[dx.h1];rfl) rfl ah bP.a7 vL fun b f0 l c cs aa dm qF ad=> ?_;exact cF.here (sv:= .el i bp n 0) au ⟨b,f0,l,c,by rw[<-aa];exact ar.1,by rw[dx.bu];rfl⟩ h
     ·cases h
    ·cases h
   ·cases h
  ·rename_i i aT bf af;split at h
   ·rename_i t1 xs bD hO;split at h
    ·rename_i ti bp cA ak;split at h
     ·rename_i di;obtain ⟨rfl,rfl⟩:=di;obtain ⟨a,aM,h⟩:=bind_some h;obtain ⟨w,hw,ad⟩:=ar;obtain ⟨g0,g1,g2⟩:=pd aM;have hlen:n.toNat<((xs.take af).drop bf).length:=(arp.1 g2).1;rw[asD,asq] at hlen;rcases ad with ⟨_,_,rfl,rfl⟩|⟨b,f0,l,c,off,bg,rfl,aa,h1,J,aj,aJ⟩
      ·omega
      ·have n9:off=f0+bf*(X.G.T t1).aW:=by rcases aj with aj|aj<;>omega
       refine bO.pure (v:= .pointer (are ⟨b,off+n.toNat*ti.i.size,ari⟩)) (.indexAddr t x y t1 ti.i b off _ bg kk n ag ak ti.af aa ah g0 (by omega)) (cF.here (sv:= .el i t1 ((bf:Int)+n) 0) au ⟨b,f0,l,c,hw.1, ?_⟩ h);have aT:((bf:Int)+n).toNat=bf+n.toNat:=by omega
       rw[aT,n9,ti.bu,arW,ar3,arZ]
     ·cases h
    ·cases h
   ·cases h
  ·cases h
 ·cases h
theorem aih {n:Nat} {a:aN D} (ag:o.op= .fieldAddr t x n) (au:bd X.G O z e m k vs) (ar:rel X.G z vs a (aL fr x)) (h:Qh (P:=P) t n a O K=are r):bO P (aL fr) o m fun _ v m'=>cF X O z e k vs K r v m':=by
 unfold Qh at h;split at h
 ·rename_i aY ak;split at h
  ·rename_i f aK;split at h
   ·rename_i i af;split at h
    ·cases h
    ·rename_i aq;have kh:(i.size==0)=arj:=by simpa using aq
     split at h
     ·obtain ⟨b,aa,U⟩:=ar;exact ij au h (Pp ag ak aK af kh U) ⟨b,aa,rfl⟩
     ·obtain ⟨b,ek,ds,U,ad,ao⟩:=ar;exact ij au h (Pp ag ak aK af kh U) ⟨b,ek,ds,by rw[arZ],ad,ao⟩
     ·obtain ⟨b,f0,l,c,aa,U⟩:=ar;exact ij au h (Pp ag ak aK af kh U) ⟨b,f0,l,c,aa,by rw[arZ]⟩
     ·cases h
   ·cases h
  ·cases h
 ·cases h
theorem ah3 {b off:Nat} {cs:List (bC D)} {ds:List arh} {K:aN D->Option ae} (ag:o.op= .load t x) (U:aL fr x= .pointer (are ⟨b,off,ari⟩)) {iP:Nat} (ad:∀(j:Nat) (w:arh),ds[j]? =are w->m.load b (iP+j)=are w) {n:Nat} (n9:off=iP+n) (ao:a1 (db X.G z vs) cs ds)
  (h:pj (P:=P) t cs n K=are r):∃sv v,K sv=are r/\rel X.G z vs sv v/\dX P (aL fr) o m v:=by
 subst n9;unfold pj at h;split at h
 ·cases h
 ·rename_i d aw;split at h
  ·rename_i vC;split at h
   ·cases h
   ·rename_i i af;split at h
    ·rename_i hlen;have nv:a1 (db X.G z vs) ((cs.drop n).take i.size) ((ds.drop n).take i.size):=a1.take _ (a1.drop _ ao);have gU:((ds.drop n).take i.size).length=i.size:=by rw[<-nv.length];exact hlen
     refine ⟨_, .agg ((ds.drop n).take i.size).toArray,h,⟨_,rfl,nv⟩,akC ag aw vC af gU U fun j w ap=> ?_⟩;rw[asg] at ap;split at ap
     ·rw[asE] at ap;rw[arZ];exact ad _ w ap
     ·cases ap
    ·cases h
  ·rename_i vC;split at h
   ·rename_i c gI;obtain ⟨w,hw,yM⟩:=ao.get n c gI;exact ⟨_,w,h,yM,ZL ag aw (by simpa using vC) U (ad n w hw)⟩
   ·cases h
theorem bd.kill (h:bd X.G O z e m k vs) (i:Nat):bd X.G (O.set i .dead) z e m k vs:=by
 refine ⟨h.aR,by rw[asK];exact h.len,fun j p w ap hw=> ?_,fun a b p dL u w eD ar ab de j1 hu hw=> ?_⟩
 ·rw[arY] at ap;split at ap
  ·split at ap
   ·cases ap;trivial
   ·cases ap
  ·exact h.obj j p w ap hw
 ·have key:∀(a:Nat) (p:aG D),(O.set i .dead)[a]? =are p->p.live=arf->O[a]? =are p:=by
   intro a p ar an;rw[arY] at ar;split at ar
   ·split at ar
    ·cases ar;cases an
    ·cases ar
   ·exact ar
  exact h.eu a b p dL u w eD (key a p ar de) (key b dL ab j1) de j1 hu hw
theorem CC {bB:List (aG D)} {i:Nat} (au:bd X.G O z e m k vs) (h:w6 O i=are bB):∃z',Inv O bB/\cz e.next z z'/\bd X.G bB z' e m k vs:=by
 unfold w6 at h;split at h
 ·cases h;exact ⟨z,Inv.refl O,cz.refl z,au⟩
 ·rename_i aT t1 up c8 p w hO;split at h
  ·rename_i t2 xs dR E8;split at h
   ·rename_i di;subst di;cases h;obtain ⟨v,aa,hu,ws,bP⟩:=au.at hO;obtain ⟨pb,u,r3,tT⟩:=bP.out p rfl;have ki:cO (X.G.T t2) z e m k xs u:=au.obj p.2 _ u E8 r3;have bL:i≠p.2:=fun ax=>by rw[ax,E8] at hO;cases hO
    have hN:cT v=ck v:=fz (by obtain ⟨a,c,rfl⟩:=bP.a7.a7.len;intro r;simp);have vD:cT u=ck u:=fz (by obtain ⟨a,c,rfl⟩:=ki.a7.len;intro r;simp);have od:∀r,v≠ .map r:=by obtain ⟨a,c,rfl⟩:=bP.a7.a7.len;intro r;simp
    have dh:=au.eu p.2 i _ _ u v (fun ax=>bL ax.symm) E8 hO rfl rfl r3 aa;rw[hN,vD] at dh;have aO:p.1.toNat<ws.length:=(arp.1 tT).1;have mD:ws=ws.set p.1.toNat u:=by
     apply as8;intro j;rw[arY];split
     ·rename_i ap;subst ap;exact tT
     ·rfl
    obtain ⟨z',g1,g2,g3,g4⟩:=O2 bP au.aR bP.a7 mD aO (fun q aF=>by cases aF;omega) ki dh;have Bb:=au.kill p.2;have LB:(O.set p.2 .dead)[i]? =are (.nest aT t2 up c8 (are p) w):=by rw[atg (fun ax=>bL ax.symm)];exact hO
    have vy:=Bb.D3 (o':= .nest aT t2 up (c8.set p.1.toNat xs) ari arf) (p:=ck u) LB aa rfl od g1.le ⟨ars _,au.aR.dead,fun _ _ _=>rfl⟩ g2 (fun j q mi ap aF ai hw=> ?_) (fun b ab=>(ki.a7.lt b ab).2) (fun b ab an _=> ?_) ⟨hu,ws,g3⟩
    ·have MC:(O.set i (.nest aT t2 up (c8.set p.1.toNat xs) ari arf)).set p.2 .dead=(O.set p.2 .dead).set i (.nest aT t2 up (c8.set p.1.toNat xs) ari arf):=List.set_comm _ _ bL;exact ⟨z',(Inv.set O i (.inr rfl)).trans (Inv.set _ p.2 (.inl rfl)),g1,by rw[MC];exact vy⟩
    ·rw[arY] at aF;split at aF
     ·split at aF
      ·cases aF;cases ai
      ·cases aF
     ·rename_i Mb;have:=au.eu j p.2 q _ mi u (fun ax=>Mb ax.symm) aF E8 ai rfl hw r3;rw[vD] at this;exact this
    ·rcases g4 b with ad|ad
     ·exact ad
     ·exact absurd ad an
   ·cases h
  ·cases h
 ·cases h
theorem ag6 {i e2 t1:Nat} (dx:px P X.G e2 t1) {up:Option (List (D t1)->D e2)} {c8:List (List (D t1))} {bD:Bool} {ca:Int} {bB:List (aG D)} {bR:Nat->aV} (ag:o.op= .load e2 x) (au:bd X.G O z e m k vs) (iS:Inv O bB) (kF:cz e.next z bR) (hn:bd X.G bB bR e m k vs) (hO:bB[i]? =are (.nest e2 t1 up c8 ari bD)) (ar:rel X.G z vs (.el i e2 ca 0) (aL fr x))
  (h:(ark (bc c8 ca) fun xs=>K (.c (.own bB.length)) (bB.set i (.nest e2 t1 up c8 (are (ca,bB.length)) bD)++[.aE t1 xs arj arj]))=are r):bO P (aL fr) o m fun _ v m'=>cF X O z e k vs K r v m':=by
 obtain ⟨xs,aM,h⟩:=bind_some h;obtain ⟨b,f0,l,c,aa,U⟩:=ar;obtain ⟨hu,ws,bP⟩:=hn.obj i _ _ hO aa;obtain ⟨g0,g1,g2⟩:=pd aM;have aO:ca.toNat<ws.length:=by rw[bP.len];exact (arp.1 g2).1
 have hw:=arX aO;have vL:bc ws ca=are ws[ca.toNat]:=by unfold bc;rw[if_pos (by omega)];exact hw
 obtain ⟨cs,dm,_,ad⟩:=bP.a7.elem rfl vL;have adZ:m.load b (f0+ca.toNat*(X.G.T e2).aW+0)=are ws[ca.toNat]:=by rw[dx.bu];exact ad 0 _ (by rw[dm.1];rfl)
 generalize ws[ca.toNat]=u at*;obtain ⟨z2,cI,cL,eQ,gu,ma,lF⟩:=ah' (vs':=vs++[u]) (FL:=bB.length) bP hn.aR hw g2 ih (by rw[<-hn.len];simp);have od:∀r,ast (are ⟨b,f0,ari⟩) l c≠ .map r:=fun r ax=>by cases ax
 have mA:((ca.toNat:Nat):Int)=ca:=by omega
 rw[mA] at eQ;have vD:cT u=ck u:=fz (by obtain ⟨a,c,rfl⟩:=gu.a7.len;intro r;simp);have af:=(arp.1 hO).1;have acT:bd X.G (bB++[.dead]) bR e m k (vs++[u]):=hn.Nq trivial fun ai=>by cases ai
 have acU:=acT.D3 (o:= .nest e2 t1 up c8 ari bD) (o':= .nest e2 t1 up c8 (are (ca,bB.length)) bD) (p:=ari) (by rw[arQ af];exact hO) (ih _ _ aa) rfl od cI.le ⟨ars _,au.aR.dead,fun _ _ _=>rfl⟩ cL (fun _ _ _ _ _ _ _=>dV.qX) (fun b ab=>by cases ab) (fun bV _ _ ai=>by
  rcases ma bV with ax|⟨_,az,L,t,ax⟩
  ·exact ax
  ·rcases ai with ai|ai
   ·exact absurd ai az
   ·exact absurd ax (ai _ _ _)) ⟨hu,ws,eQ⟩
 have hlen:((bB++[(.dead:aG D)]).set i (.nest e2 t1 up c8 (are (ca,bB.length)) bD)).length=bB.length+1:=by simp
 have Ue:=acU.aoP (i:=bB.length) (o':= .aE t1 xs arj arj) (v:=u) (by rw[hlen];omega) (by rw[<-hn.len];simp) (gu:cO (X.G.T t1) z2 e m k xs u) (fun j q w ap aF ai hw=> ?_)
 ·have mC:((bB++[(.dead:aG D)]).set i (.nest e2 t1 up c8 (are (ca,bB.length)) bD)).set bB.length (.aE t1 xs arj arj)=bB.set i (.nest e2 t1 up c8 (are (ca,bB.length)) bD)++[.aE t1 xs arj arj]:=by
   rw[List.set_append_left _ _ af,List.set_append_right _ _ (by simp)];simp
  rw[mC] at Ue;refine bO.read (ZL ag dx.hu rfl U adZ) ⟨z2,vs++[u], .c (.own bB.length),_,iS.trans ((Inv.set bB i (.inr ?_)).trans (Inv.push _ _)),kF.trans cI,ih,Ue, ?_,h⟩
  ·simp[aG.la]
  ·obtain ⟨a,bg,rfl⟩:=gu.a7.len;exact ⟨by rw[<-hn.len];simp,rfl,rfl⟩
 ·intro bV ch jo;rw[vD] at jo;refine lF bV jo ?_;have UB:j<bB.length:=by
   have:=(arp.1 aF).1;rw[hlen] at this;omega
  by_cases kg:j=i
  ·subst kg;rw[arQ (by rw[hn.len];exact af)] at hw;rw[aa] at hw;cases hw;exact ((hn.obj _ _ _ hO aa).lt rfl bV ch).2.1
  ·rw[atg (fun ax=>kg ax.symm),arQ UB] at aF;rw[arQ (by rw[hn.len];exact UB)] at hw;exact ((hn.obj j q w aF hw).lt ai bV ch).2.1
theorem agR {i aT:Nat} {ca:Int} {off:Nat} (ag:o.op= .load t x) (au:bd X.G O z e m k vs) (ar:rel X.G z vs (.el i aT ca off) (aL fr x)) (h:O4 X t i aT ca off O K=are r):bO P (aL fr) o m fun _ v m'=>cF X O z e k vs K r v m':=by
 unfold O4 at h;split at h
 ·rename_i bB aK;obtain ⟨bR,iS,kF,hn⟩:=CC au aK;split at h
  ·rename_i e2 t1 up c8 bD hO;split at h
   ·rename_i dx bG;split at h
    ·rename_i hk;obtain ⟨rfl,rfl,rfl⟩:=hk;exact ag6 dx ag au iS kF hn hO ar h
    ·cases h
   ·cases h
  ·cases h
 ·cases h
theorem Xk {a:aN D} (ag:o.op= .load t x) (au:bd X.G O z e m k vs) (ar:rel X.G z vs a (aL fr x)) (h:Hk X t a O K=are r):bO P (aL fr) o m fun _ v m'=>cF X O z e k vs K r v m':=by
 have fin:∀{b off:Nat} {cs:List (bC D)} {ds:List arh} {iP n:Nat},aL fr x= .pointer (are ⟨b,off,ari⟩)->(∀(j:Nat) (w:arh),ds[j]? =are w->m.load b (iP+j)=are w)->off=iP+n->a1 (db X.G z vs) cs ds->pj (P:=P) t cs n (fun v=>K v O)=are r->bO P (aL fr) o m fun _ v m'=>cF X O z e k vs K r v m':=by intro b off cs ds iP n U ad n9 ao h;obtain ⟨sv,v,h1,J,aj⟩:=ah3 ag U ad n9 ao h;exact bO.read aj (cF.here au J h1)
 unfold Hk at h;split at h
 ·obtain ⟨b,ek,ds,U,ad,ao⟩:=ar;exact fin U (au.aR.se ad) rfl ao h
 ·rename_i i off;obtain ⟨b,aa,U⟩:=ar;split at h
  ·rename_i u cs a6 bD hO;have bP:=au.obj i _ _ hO aa;cases a6 with
   |true=>obtain ⟨bV,ds,he,ad,ao⟩:=bP;cases he;exact fin U (au.aR.se ad) (arE _).symm ao h
   |false=>obtain ⟨bV,ds,he,ab,_,ao⟩:=bP;cases he;exact fin U ab.se (arE _).symm ao h
  ·rename_i u cs bD hO;obtain ⟨bV,ds,he,ab,ao⟩:=au.obj i _ _ hO aa;cases he;exact fin U ab.se (arE _).symm ao h
  ·cases h
 ·rename_i i aT ca off;split at h
  ·exact agR ag au ar h
  obtain ⟨b,f0,l,c,aa,U⟩:=ar;split at h
  ·rename_i e2 xs a6 bD ti hO cA;split at h
   ·rename_i di;subst di;obtain ⟨a,aM,h⟩:=bind_some h;have bP:=au.obj i _ _ hO aa;cases a6 with
    |true=>
     have bP:dW (X.G.T e2) z xs _:=bP;obtain ⟨g0,g1,g2⟩:=pd aM;rcases bP with ⟨he,_⟩|⟨bV,o',bg,he,_,_,aJ⟩
     ·cases he
     ·cases he;obtain ⟨cs,dm,ad⟩:=aJ _ a g2;exact fin U (au.aR.se ad) rfl (ti.rc _ _ _ _ dm) h
    |false=>have bP:cO (X.G.T e2) z e m k xs _:=bP;obtain ⟨cs,dm,_,ad⟩:=bP.elem rfl aM;exact fin U ad rfl (ti.rc _ _ _ _ dm) h
   ·cases h
  ·rename_i e2 u n xs bD ti hO cA;split at h
   ·rename_i di;subst di;obtain ⟨a,aM,h⟩:=bind_some h;obtain ⟨_,bP⟩:=au.obj i _ _ hO aa;obtain ⟨cs,dm,_,ad⟩:=bP.elem rfl aM;exact fin U ad rfl (ti.rc _ _ _ _ dm) h
   ·cases h
  ·cases h
 ·cases h
end
end Go.aQ
end
section
namespace Go.aQ
section
variable {P:arl} {D:Nat->Type} {X:dk P D} {ae:Type} {z z':Nat->aV} {e m m':Mem} {k:Option Nat} {vs:List arh} {fr:Nat->arh} {E:List (Nat×aN D)} {O:List (aG D)} {o:Oper} {r:ae}
variable {x y:arm} {t u:arn} {K:aN D->List (aG D)->Option ae}
theorem a1.set {al bs:Type} {R:al->bs->Prop}:∀{l:List al} {k:List bs} (i:Nat) {a:al} {b:bs},a1 R l k->R a b->a1 R (l.set i a) (k.set i b)
 |[],[],i,a,b,_,_=>by simp[a1]
 |x::l,y::k,0,a,b,⟨_,J⟩,eD=>⟨eD,J⟩
 |x::l,y::k,i+1,a,b,⟨h1,J⟩,eD=>⟨h1,a1.set i J eD⟩
 |[],_::_,_,_,_,h,_=>h.elim
 |_::_,[],_,_,_,h,_=>h.elim
theorem zu:∀{new:List (bC D)} {M9:List arh} {cs:List (bC D)} {ds:List arh} (off:Nat),a1 (db X.G z vs) cs ds->a1 (db X.G z vs) new M9->a1 (db X.G z vs) (xz cs off new) (ee ds off M9)
 |[],[],cs,ds,off,h,_=>h
 |c::new,d::M9,cs,ds,off,h,⟨h1,J⟩=>zu (off+1) (h.set off h1) J
 |[],_::_,_,_,_,_,h=>h.elim
 |_::_,[],_,_,_,_,h=>h.elim
theorem C0 {a b:Nat} (h:a<=b):arF a b=arf:=by rw[Nat.ble_eq];exact h
theorem nG {ob:aG D} {sv:aN D} {v w:arh} (au:bd X.G O z e m k vs) (aR:cu z e m' k) (s:eX m m' ari) (dh:∀p,(∀b,p=are b->b<m.next)->dV p (cT v)) (fA:K sv (O++[ob])=are r) (bP:fs X.G z e m' k (vs++[v]) ob v) (aa:rel X.G z (vs++[v]) sv w):cF X O z e k vs K r w m':=
 ⟨z,vs++[v],sv,O++[ob],Inv.push O ob,cz.refl z,ih,au.push s aR (fun _ _ _ _ _ _=>dV.qX) bP fun p an _=>dh p an,aa,fA⟩
theorem CB {i:Nat} {ob Nd:aG D} {v:arh} (au:bd X.G O z e m k vs) (fA:K .undef (O.set i Nd)=are r) (hO:O[i]? =are ob) (aa:vs[i]? =are v) (ai:ob.live=arf) (ak:Nd.la=arf) (s:eX m m' (cT v)) (aR:cu z e m' k) (av:fs X.G z e m' k vs Nd v):cF X O z e k vs K r undef m':=
 ⟨z,vs, .undef,_,Inv.set O i (.inr ak),cz.refl z,fun _ _ h=>h,au.mW hO aa ai s aR av,rfl,fA⟩
theorem C8 (au:bd X.G O z e m k vs) (v:arh):(vs++[v])[O.length]? =are v:=by
 rw[<-au.len];simp
theorem mN {v:arh} {l:Nat} (au:bd X.G O z e m k vs) (aa:∃a c,v= .slice a l c):rel X.G z (vs++[v]) (.c (.own O.length)) v:=by
 obtain ⟨a,c,rfl⟩:=aa;exact ⟨C8 au _,rfl,rfl⟩
theorem WH {i j aT t1:Nat} (dx:px P X.G aT t1) {up:Option (List (D t1)->D aT)} {c8:List (List (D t1))} {hole:Option (Int×Nat)} {bD dR:Bool} {xs:List (D t1)} {ca:Int} (ag:o.op= .store aT x y) (au:bd X.G O z e m k vs) (hO:O[i]? =are (.nest aT t1 up c8 hole bD)) (ap:O[j]? =are (.aE t1 xs arj dR)) (ar:rel X.G z vs (.el i aT ca 0) (aL fr x)) (ab:rel X.G z vs (.c (.own j)) (aL fr y)) (ax:∀p,hole=are p->p.1=ca)
  (h:(ark (bc c8 ca) fun _=>K .undef ((O.set i (.nest aT t1 up (c8.set ca.toNat xs) ari arf)).set j .dead))=are r):bO P (aL fr) o m fun _ v m'=>cF X O z e k vs K r v m':=by
 obtain ⟨a,aM,h⟩:=bind_some h;obtain ⟨b,f0,l,c,aa,U⟩:=ar;obtain ⟨hu,dd,hv⟩:=ab;obtain ⟨eU,ws,bP⟩:=au.obj i _ _ hO aa;obtain ⟨g0,g1,g2⟩:=pd aM;have aO:ca.toNat<ws.length:=by rw[bP.len];exact (arp.1 g2).1
 have hw:=arX aO;have vL:bc ws ca=are ws[ca.toNat]:=by unfold bc;rw[if_pos (by omega)];exact hw
 obtain ⟨cs,dm,_,ad⟩:=bP.a7.elem rfl vL;have ki:cO (X.G.T t1) z e m k xs (aL fr y):=au.obj j _ _ ap hu;generalize iU:aL fr y=u at*;have bL:i≠j:=fun ax=>by rw[ax,ap] at hO;cases hO
 have od:∀r,ast (are ⟨b,f0,ari⟩) l c≠ .map r:=fun r ax=>by cases ax
 have vD:cT u=ck u:=fz (by obtain ⟨a,c,rfl⟩:=ki.a7.len;intro r;simp);have dh:=au.eu j i _ _ u _ (fun ax=>bL ax.symm) ap hO rfl rfl hu aa;rw[vD] at dh;rw[dx.bu] at U;have ys:u.cells.toList=[u]:=by rw[hv]
 refine FN (T:=qn aT) (f:=0) (n:=ca.toNat) ag dx.af U rfl iU dd ys (by rw[dx.h1];rfl) bP.a7 rfl hw dm ad (a':=u) ⟨rfl,dd,hv⟩ (by rw[dm.1];rfl) (by rw[dm.1];rfl) au.aR fun m' dE sn sm=> ?_;have MD:cO (X.G.T t1) z e m' k xs u:=ki.same sm dh;obtain ⟨z',cI,cL,eQ,gu⟩:=O2 bP dE sn rfl aO (fun p an=>by rw[ax p an];omega) MD dh;have Bb:=au.kill j;have LB:(O.set j .dead)[i]? =are (.nest aT t1 up c8 hole bD):=by rw[atg (fun ax=>bL ax.symm)];exact hO
 have vy:=Bb.D3 (o':= .nest aT t1 up (c8.set ca.toNat xs) ari arf) (p:=ck u) LB aa rfl od cI.le sm cL (fun a q mi ar aF ai hw=> ?_) (fun b ab=>(ki.a7.lt b ab).2) (fun b _ an _=> ?_) ⟨eU,_,eQ⟩
 ·have MC:(O.set i (.nest aT t1 up (c8.set ca.toNat xs) ari arf)).set j .dead=(O.set j .dead).set i (.nest aT t1 up (c8.set ca.toNat xs) ari arf):=List.set_comm _ _ bL;exact ⟨z',vs, .undef,_,(Inv.set O i (.inr rfl)).trans (Inv.set _ j (.inl rfl)),cI,fun _ _ h=>h,by rw[MC];exact vy,rfl,h⟩
 ·rw[arY] at aF;split at aF
  ·split at aF
   ·cases aF;cases ai
   ·cases aF
  ·rename_i Mb;have:=au.eu a j q _ mi u (fun ax=>Mb ax.symm) aF ap ai rfl hw hu;rw[vD] at this;exact this
 ·rcases gu b with ad|ad
  ·exact ad
  ·exact absurd ad an
theorem WI {i aT t1:Nat} (dx:px P X.G aT t1) {up:Option (List (D t1)->D aT)} {c8:List (List (D t1))} {hole:Option (Int×Nat)} {bD:Bool} {ca:Int} (ag:o.op= .store aT x y) (au:bd X.G O z e m k vs) (hO:O[i]? =are (.nest aT t1 up c8 hole bD)) (ar:rel X.G z vs (.el i aT ca 0) (aL fr x)) (ab:rel X.G z vs (.c .fH) (aL fr y)) (ax:∀p,hole=are p->p.1=ca)
  (h:(ark (bc c8 ca) fun _=>K .undef (O.set i (.nest aT t1 up (c8.set ca.toNat []) ari arf)))=are r):bO P (aL fr) o m fun _ v m'=>cF X O z e k vs K r v m':=by
 obtain ⟨a,aM,h⟩:=bind_some h;obtain ⟨b,f0,l,c,aa,U⟩:=ar;obtain ⟨eU,ws,bP⟩:=au.obj i _ _ hO aa;obtain ⟨g0,g1,g2⟩:=pd aM;have aO:ca.toNat<ws.length:=by rw[bP.len];exact (arp.1 g2).1
 have hw:=arX aO;have vL:bc ws ca=are ws[ca.toNat]:=by unfold bc;rw[if_pos (by omega)];exact hw
 obtain ⟨cs,dm,_,ad⟩:=bP.a7.elem rfl vL;have ab:aL fr y= .slice ari 0 0:=ab;have ki:cO (X.G.T t1) z e m k ([]:List (D t1)) (.slice ari 0 0):=⟨.inl ⟨rfl,rfl⟩,fun b ab=>by cases ab⟩
 have od:∀r,ast (are ⟨b,f0,ari⟩) l c≠ .map r:=fun r ax=>by cases ax
 have dh:dV (ck (.slice ari 0 0)) (ck (ast (are ⟨b,f0,ari⟩) l c)):=fun b ab=>by cases ab
 rw[dx.bu] at U;refine FN (T:=qn aT) (f:=0) (n:=ca.toNat) ag dx.af U rfl ab rfl (a':= .slice ari 0 0) rfl (by rw[dx.h1];rfl) bP.a7 rfl hw dm ad ⟨rfl,rfl,rfl⟩ (by rw[dm.1];rfl) (by rw[dm.1];rfl) au.aR fun m' dE sn sm=> ?_;have MD:cO (X.G.T t1) z e m' k ([]:List (D t1)) (.slice ari 0 0):=⟨.inl ⟨rfl,rfl⟩,fun b ab=>by cases ab⟩
 obtain ⟨z',cI,cL,eQ,gu⟩:=O2 bP dE sn rfl aO (fun p an=>by rw[ax p an];omega) MD dh;have vy:=au.D3 (o':= .nest aT t1 up (c8.set ca.toNat []) ari arf) (p:=ari) hO aa rfl od cI.le sm cL (fun a q mi ar aF ai hw=>fun b ab ch=>by cases ch) (fun b ab=>by cases ab) (fun b _ an _=> ?_) ⟨eU,_,eQ⟩
 ·exact ⟨z',vs, .undef,_,Inv.set O i (.inr rfl),cI,fun _ _ h=>h,vy,rfl,h⟩
 ·rcases gu b with ad|ad
  ·exact ad
  ·cases ad
theorem agl {i aT:Nat} {ca:Int} {off:Nat} {b:aN D} (ag:o.op= .store t x y) (au:bd X.G O z e m k vs) (ar:rel X.G z vs (.el i aT ca off) (aL fr x)) (ab:rel X.G z vs b (aL fr y)) (h:Oc X t i aT ca off b O K=are r):bO P (aL fr) o m fun _ v m'=>cF X O z e k vs K r v m':=by
 unfold Oc at h;split at h
 ·rename_i j;split at h
  ·rename_i e2 t1 up c8 hole bD t2 xs dR hO ap;split at h
   ·rename_i dx bG;split at h
    ·rename_i di;subst di;split at h
     ·rename_i hk;obtain ⟨rfl,rfl,rfl⟩:=hk;split at h
      ·exact WH dx ag au hO ap ar ab (fun p an=>by cases an) h
      ·split at h
       ·rename_i p an;exact WH dx ag au hO ap ar ab (fun q aF=>by cases aF;exact an) h
       ·cases h
     ·cases h
    ·cases h
   ·cases h
  ·cases h
 ·split at h
  ·rename_i e2 t1 up c8 hole bD hO;split at h
   ·rename_i dx bG;split at h
    ·rename_i hk;obtain ⟨rfl,rfl,rfl⟩:=hk;split at h
     ·exact WI dx ag au hO ar ab (fun p an=>by cases an) h
     ·split at h
      ·rename_i p an;exact WI dx ag au hO ar ab (fun q aF=>by cases aF;exact an) h
      ·cases h
    ·cases h
   ·cases h
  ·cases h
 ·cases h
theorem agT {a b:aN D} (ag:o.op= .store t x y) (au:bd X.G O z e m k vs) (ar:rel X.G z vs a (aL fr x)) (ab:rel X.G z vs b (aL fr y)) (h:O6 X t a b O K=are r):bO P (aL fr) o m fun _ v m'=>cF X O z e k vs K r v m':=by
 unfold O6 at h;split at h
 ·cases h
 ·rename_i i af;split at h
  ·rename_i j off;split at h
   ·cases h
   ·rename_i new av;obtain ⟨dd,nt⟩:=Gp av ab;split at h
    ·rename_i bu;have qO:(aL fr y).cells.toList.length=i.size:=by rw[<-nt.length];exact bu
     obtain ⟨fe,aa,U⟩:=ar;split at h
     ·rename_i u cs bD hO;split at h
      ·rename_i hle;obtain ⟨hg,ds,he,l0,fB,ao⟩:=au.obj j _ _ hO aa;cases he;refine Vg ag af U rfl dd rfl qO l0 (C0 (by rw[<-ao.length,<-nt.length];exact hle)) _ rfl au.aR fun m' dE J1 sm=> ?_;exact CB au h hO aa rfl rfl sm dE ⟨fe,_,rfl,J1,fB,zu off ao nt⟩
      ·cases h
     ·rename_i u cs bD hO;split at h
      ·rename_i hle;obtain ⟨hg,ds,he,l0,ao⟩:=au.obj j _ _ hO aa;cases he;refine Vg ag af U rfl dd rfl qO l0 (C0 (by rw[<-ao.length,<-nt.length];exact hle)) _ rfl au.aR fun m' dE J1 sm=> ?_;exact CB au h hO aa rfl rfl sm dE ⟨fe,_,rfl,J1,zu off ao nt⟩
      ·cases h
     ·cases h
    ·cases h
  ·rename_i j aT ca off;split at h
   ·exact agl ag au ar ab h
   split at h
   ·cases h
   ·rename_i new bB av;obtain ⟨bR,iS,kF,hn,dd,nt⟩:=YE au av ab;obtain ⟨fe,f0,l,c,aa,U⟩:=ar;split at h
    ·rename_i bu;have qO:(aL fr y).cells.toList.length=i.size:=by rw[<-nt.length];exact bu
     split at h
     ·rename_i e2 xs bD ti hO cA;split at h
      ·rename_i di;subst di;obtain ⟨a,aM,h⟩:=bind_some h;split at h
       ·rename_i hle;obtain ⟨a',an,h⟩:=bind_some h;have bP:cO (X.G.T e2) bR e m k xs _:=hn.obj j _ _ hO aa;obtain ⟨cs,dm,qF,ad⟩:=bP.elem rfl aM;have ao:=ti.rc bR vs a cs dm;refine FN (T:=X.G.T e2) ag af U rfl rfl dd rfl qO bP rfl qF dm ad (ti.q0 bR vs _ a' _ an (zu off ao nt)) rfl (C0 (by rw[<-ao.length,<-nt.length];exact hle)) hn.aR fun m' dE sn sm=> ?_;exact cF.from iS kF (CB hn h hO aa rfl rfl sm dE sn)
       ·cases h
      ·cases h
     ·rename_i e2 u n xs bD ti hO cA;split at h
      ·rename_i di;subst di;obtain ⟨a,aM,h⟩:=bind_some h;split at h
       ·rename_i hle;obtain ⟨a',an,h⟩:=bind_some h;obtain ⟨⟨hg,he⟩,bP⟩:=hn.obj j _ _ hO aa;obtain ⟨cs,dm,qF,ad⟩:=bP.elem rfl aM;have ao:=ti.rc bR vs a cs dm;refine FN (T:=(X.G.T e2).as u) ag af U rfl rfl dd rfl qO bP rfl qF dm ad (ti.q0 bR vs _ a' _ an (zu off ao nt)) rfl (C0 (by rw[<-ao.length,<-nt.length];exact hle)) hn.aR fun m' dE sn sm=> ?_;exact cF.from iS kF (CB hn h hO aa rfl rfl sm dE ⟨⟨hg,he⟩,sn⟩)
       ·cases h
      ·cases h
     ·cases h
    ·cases h
  ·cases h
theorem agN (ag:o.op= .alloc t) (au:bd X.G O z e m k vs)
  (h:(match X.A t with
  |some jA=>K (.arr O.length) (O++[.arr jA.e t jA.n (arL jA.n jA.ti.x0) arj])
  |none=>match X.I t with|some ti=>K (.box O.length 0) (O++[.box t ti.qj arj arj])|none=>ari)=are r):bO P (aL fr) o m fun _ v m'=>cF X O z e k vs K r v m':=by
 split at h
 ·rename_i jA c9;refine ajm (T:=X.G.T jA.e) (x0:=jA.ti.x0) ag jA.af jA.aD jA.b3 jA.cZ jA.pT (jA.ti.xv z) jA.av au.aR fun b m' dE a7 sm dh=> ?_;exact nG (v:= .slice (are ⟨b,0,ari⟩) jA.n jA.n) au dE sm dh h ⟨⟨b,rfl⟩,a7⟩ ⟨b,jA.n,C8 au _,rfl⟩
 ·split at h
  ·rename_i ti cA;refine ajn ag ti.af ti.aD ti.b3 ti.cZ _ rfl au.aR fun b m' av dE eH sm dh=> ?_;exact nG (v:= .pointer (are ⟨b,0,ari⟩)) au dE sm dh h ⟨b,_,rfl,eH,av,ti.pT _ _⟩ ⟨b,C8 au _,rfl⟩
  ·cases h
theorem aie {i:TypeInfo} {cs:List (bC D)} (ag:o.op= .box t x) (au:bd X.G O z e m k vs) (aP:rel X.G z vs (cj E x) (aL fr x)) (af:P.info? t=are i) (ad:zH (cj E x)=are cs) (ai:cs.length=i.size)
  (h:K (.box O.length 0) (O++[.box t cs arj arj])=are r):bO P (aL fr) o m fun _ v m'=>cF X O z e k vs K r v m':=by
 obtain ⟨dd,ao⟩:=Gp ad aP;refine anT ag af rfl dd _ rfl (by rw[<-ao.length];exact ai) au.aR fun b m' av dE eH sm dh=> ?_;exact nG (v:= .pointer (are ⟨b,0,ari⟩)) au dE sm dh h ⟨b,_,rfl,eH,av,nL.mono ao (eb.refl z) ih⟩ ⟨b,C8 au _,rfl⟩
theorem XM {kk:aro} {n:Int} (h:Dr x y=arf) (U:aL fr x= .int kk n):∃br,aL fr y= .int br n:=by
 unfold Dr at h;split at h
 ·rename_i a b;have:a=b:=Nat.eq_of_beq_eq_true h;subst this;exact ⟨kk,U⟩
 ·rename_i bm a br b;have j0:asM bm a= .int kk n:=U;cases j0;have:n=b:=by simpa using h
  subst this;exact ⟨br,rfl⟩
 ·cases h
theorem agS {fK:Nat} {kk:aro} {n:Int} (ag:o.op= .makeSlice t x y) (ak:P.underlying t=are (.slice fK)) (au:bd X.G O z e m k vs) (U:aL fr x= .int kk n) (h:O5 X fK x y n O K=are r):bO P (aL fr) o m fun _ v m'=>cF X O z e k vs K r v m':=by
 unfold O5 at h;split at h
 ·rename_i t1 hu;split at h
  ·rename_i dx bG mF;obtain ⟨c8,hm,h⟩:=bind_some h;obtain ⟨br,ah⟩:=XM mF U;obtain ⟨et,iE,rfl⟩:=CI hm;have nq:k2 (ast ari 0 0) n=are (arL n.toNat (ast ari 0 0)):=by
    unfold k2;rw[if_pos ⟨et,iE⟩]
   refine ZO (T:=qn fK) (x0:=ast ari 0 0) ag ak dx.af dx.aD rfl (by rw[dx.h1];rfl) (by rw[dx.h1];rfl) dx.fW ⟨rfl,rfl,rfl⟩ U ah au.aR nq fun bl m' dE a7 sm dh=> ?_;have ab:cT bl=ck bl:=fz (by obtain ⟨a,c,rfl⟩:=a7.a7.len;intro r;simp);refine nG (v:=bl) au dE sm (by rw[ab];exact dh) h ⟨fun f aK=>by cases aK;exact ⟨dx.bu,dx.tid,dx.ao⟩,_,a7,by simp,fun j w xs g1 g2 _=> .inl ?_,fun p an=>by cases an⟩ (mN au a7.a7.len);rw[List.getElem?_replicate] at g1 g2;split at g1
   ·rename_i ap;rw[if_pos ap] at g2;cases g1;cases g2;exact ⟨rfl,rfl⟩
   ·cases g1
  ·cases h
 ·cases h
theorem ahF {fK:Nat} {ti:gd P X.G fK} {kk:aro} {n:Int} (ag:o.op= .makeSlice t x y) (ak:P.underlying t=are (.slice fK)) (au:bd X.G O z e m k vs) (U:aL fr x= .int kk n) (mF:Dr x y=arf)
  (h:(ark (k2 ti.x0 n) fun r=>K (.c (.own O.length)) (O++[.aE fK r arj arj]))=are r):bO P (aL fr) o m fun _ v m'=>cF X O z e k vs K r v m':=by
 obtain ⟨xs,hm,h⟩:=bind_some h;have ah:=XM mF U;obtain ⟨br,ah⟩:=ah;refine ZO (T:=X.G.T fK) ag (by rw[ti.tid];exact ak) (by rw[ti.tid];exact ti.af) ti.aD ti.b3 ti.cZ ti.bu ti.fW (ti.xv z) U ah au.aR hm fun bl m' dE a7 sm dh=> ?_;have ab:cT bl=ck bl:=fz (by obtain ⟨a,c,rfl⟩:=a7.a7.len;intro r;simp);exact nG (v:=bl) au dE sm (by rw[ab];exact dh) h a7 (mN au a7.a7.len)
theorem X7 {fK:Nat} {ti:gd P X.G fK}:∀{bx:List (Nat×arm)} {n:Nat} {O:List (aG D)} {z:Nat->aV} {K:List (D fK)->List (aG D)->Option ae},bd X.G O z e m k vs->(∀x,rel X.G z vs (cj E x) (aL fr x))->Dm X ti E n bx O K=are r->
  ∃z' bz as h8,Inv O bz/\cz e.next z z'/\bd X.G bz z' e m k vs/\wP (X.G.T fK) z' (aL fr) bx n as h8/\K as bz=are r
 |[],n,O,z,K,au,aP,h=>⟨z,O,[],[],Inv.refl O,cz.refl z,au,trivial,h⟩
 |(j,x)::bx,n,O,z,K,au,aP,h=>by
  unfold Dm at h;split at h
  ·rename_i ap;split at h
   ·rename_i cs bB ad;obtain ⟨a,ar,h⟩:=bind_some h;obtain ⟨bR,iS,kF,hn,dd,ao⟩:=YE au ad (aP x);obtain ⟨z2,cE,as,h8,g0,g1,g2,g3,g4⟩:=X7 hn (fun x=>(aP x).mono kF.le fun _ _ h=>h) h;exact ⟨z2,cE,a::as,(aL fr x).cells.toList::h8,iS.trans g0,kF.trans g1,g2,⟨ap,dd,rfl,(X.G.T fK).mono _ _ g1.le _ _ (ti.q0 _ _ _ _ _ ar ao),g3⟩,g4⟩
   ·cases h
  ·cases h
theorem agQ {fK l:Nat} {ti:gd P X.G fK} {bx:Array (Nat×arm)} (ag:o.op= .buildSlice t l bx) (ak:P.underlying t=are (.slice fK)) (au:bd X.G O z e m k vs) (aP:∀x,rel X.G z vs (cj E x) (aL fr x))
  (h:(Dm X ti E 0 bx.toList O fun as O=>if as.length=l/\arF (l*(X.G.T fK).aW) 16777216=arf then K (.c (.own O.length)) (O++[.aE fK as arj arj]) else ari)=are r):bO P (aL fr) o m fun _ v m'=>cF X O z e k vs K r v m':=by
 obtain ⟨bR,bB,as,h8,g0,g1,g2,g3,g4⟩:=X7 au aP h;split at g4
 ·rename_i ai;have dt:0<(X.G.T fK).aW:=Nat.pos_of_ne_zero fun az=>by have:=ti.dt;rw[az] at this;cases this
  have rR:=arG ai.2;have r0:l<=l*(X.G.T fK).aW:=Nat.le_mul_of_pos_right _ dt;refine Ps (T:=X.G.T fK) ag (by rw[ti.tid];exact ak) (by rw[ti.tid];exact ti.af) ti.aD ti.b3 ti.cZ ti.bu as h8 ai.1 ai.2 (C0 (show l+1<=9223372036854775808 by omega)) g3 g2.aR fun bl m' dE a7 sm dh=> ?_;have ab:cT bl=ck bl:=fz (by obtain ⟨a,c,rfl⟩:=a7.a7.len;intro r;simp);exact cF.from g0 g1 (nG (v:=bl) g2 dE sm (by rw[ab];exact dh) g4 a7 (mN g2 a7.a7.len))
 ·cases g4
theorem OY {pl:List (Option (Nat×Nat))} (aP:∀x,rel X.G z vs (cj E x) (aL fr x)):∀{bx:List (Nat×arm)} {cs cs':List (bC D)} {ds:List arh},w5 pl E bx cs=are cs'->a1 (db X.G z vs) cs ds->
  ∃ng,iG (fun k=>(pl[k]?).join) ds (bx.map fun p=>(p.1,aL fr p.2))=are ng/\a1 (db X.G z vs) cs' ng
 |[],cs,cs',ds,h,ao=>by cases h;exact ⟨ds,rfl,ao⟩
 |(i,x)::bx,cs,cs',ds,h,ao=>by
  unfold w5 at h;split at h
  ·rename_i off size new an ad;split at h
   ·rename_i qC;obtain ⟨dd,nt⟩:=Gp ad (aP x);obtain ⟨ng,g1,g2⟩:=OY aP h (zu off ao nt);refine ⟨ng, ?_,g2⟩;have bu:(aL fr x).cells.size=size:=by
     have h1:new.length=(aL fr x).cells.toList.length:=nt.length;have J:(aL fr x).cells.toList.length=(aL fr x).cells.size:=Array.length_toList;have aj:new.length=size:=qC.1;omega
    simp only[asc,iG,an];rw[if_pos ⟨dd,bu,by rw[<-ao.length];exact qC.2⟩];exact g1
   ·cases h
  ·cases h
theorem XU {n s:Nat}:∀{bx:List (Nat×arh)} {cs ds:List arh},iG (fun k=>(((ar2 n).map fun j=>are (j*s,s))[k]?).join) cs bx=are ds->iG (fun j=>are (j*s,s)) cs bx=are ds
 |[],_,_,h=>h
 |(i,v)::bx,cs,ds,h=>by
  simp only[iG] at h⊢;by_cases af:i<n
  ·rw[ar4,atD af] at h;simp only[Option.map_some,Option.join_some] at h;split at h
   ·rename_i ad;rw[if_pos ad];exact XU h
   ·cases h
  ·rw[ar4,atG (by simp;omega)] at h;cases h
theorem agP {ti:gd P X.G t} {n tB:Nat} {kk:TypeInfo} {bx:Array (Nat×arm)} {cs:List (bC D)} (ag:o.op= .build t bx) (ak:P.underlying t=are (.array n tB)) (hk:P.info? tB=are kk) (au:bd X.G O z e m k vs) (aP:∀x,rel X.G z vs (cj E x) (aL fr x))
  (ad:w5 ((ar2 n).map fun j=>are (j*kk.size,kk.size)) E bx.toList ti.qj=are cs) (h:K (.agg t cs) O=are r):bO P (aL fr) o m fun _ v m'=>cF X O z e k vs K r v m':=by
 obtain ⟨ds,g1,g2⟩:=OY aP ad (ti.pT z vs);exact bO.pure (.AS t bx n tB ti.i kk ti.b1 ds ag ak ti.af ti.aD ti.b3 hk (XU g1)) (cF.here (sv:= .agg t cs) au ⟨ds,rfl,g2⟩ h)
theorem agm {ti:gd P X.G t} {aY:Array Field} {bx:Array (Nat×arm)} {cs:List (bC D)} (ag:o.op= .build t bx) (ak:P.underlying t=are (.struct aY)) (au:bd X.G O z e m k vs) (aP:∀x,rel X.G z vs (cj E x) (aL fr x)) (an:(mc P aY).all auo=arf)
  (ad:w5 (mc P aY) E bx.toList ti.qj=are cs) (h:K (.agg t cs) O=are r):bO P (aL fr) o m fun _ v m'=>cF X O z e k vs K r v m':=by
 obtain ⟨ds,g1,g2⟩:=OY aP ad (ti.pT z vs);exact ajo _ ds ag ak ti.af ti.aD ti.b3 rfl an rfl g1 (cF.here (sv:= .agg t cs) au ⟨ds,rfl,g2⟩ h)
end
end Go.aQ
end
