import Derived.Test.YtfmpkhcaifbonaaGreatDoorProg
import Derived.WalkKit
import Derived.WalkLawsBesides
import Derived.Deep.QuietTactic
import Derived.BigQuiet
import Derived.Laws.IdiomStrings
import Derived.Deep.Cut
import Derived.Deep.MidRow
import Derived.Deep.AppendLies
import Derived.Deep.RegionLaw
import Derived.Defers
import Derived.Recover
import Derived.Test.YtfmpkhcaifbonaaGreatDoorMd
set_option linter.unusedSimpArgs false
set_option linter.unusedVariables false
set_option linter.unusedSectionVars false
open Array renaming all_eq_true_iff_forall_mem->avW,getD_eq_getD_getElem?->avd,getElem?_eq_getElem->avU,getElem?_eq_some_iff->auI,getElem?_push->auD,getElem?_setIfInBounds->avY,getElem?_toList->au8,length_toList->au4,replicate->at0,size_push->auH
open BitVec renaming ofInt->ave
open Bool renaming false->as9,true->as5
open Go renaming IntKind->as',Program->atb,TypeId->atc,Value->as7
open Go.Act renaming eval->auq
open Go.AllReady renaming cons->auk,nil->auV
open Go.Ending renaming returned->avT
open Go.IntKind renaming wrap->ata,wrap_i64->avm,wrap_u8->avG
open Go.Result renaming andThen->avl
open Go.Sem renaming run_bind->atE,run_pure->atK
open Go.Value renaming oneCell'->au7,slice->atZ
open Go.World renaming cell?->at6,cell?_of_block->au6,frozen?->au0,rangeAt_setCells_same->avX,setCell->auZ
open Int renaming reduceEq->atH,toNat_natCast->auc
open List renaming all_eq_true->atq,eq_nil_of_length_eq_zero->aui,flatMap_cons->auO,getElem?_eq_getElem->atS,getElem?_eq_some_iff->atp,getElem?_map->aub,length_append->aua,length_cons->aun,length_map->aus,mem_cons->ats,mem_map->atw,mem_of_getElem?->at3,mem_singleton->au2,not_mem_nil->au5,replicate->att,setIfInBounds_toArray->auy
open Nat renaming add_assoc->atY,add_zero->at2,le_refl->atk,le_succ->atG,le_trans->atx,lt_irrefl->auM,lt_of_lt_of_le->atu,lt_succ_self->at4,mul_one->auP,ne_of_lt->at7,not_lt->aut,zero_add->atB
open Option renaming bind->as8,bind_none->atD,bind_some->atr,none->as6,some->as4
open Or renaming inl->auz
open UInt8 renaming ofNat->auu
section
namespace Go.W
open Go Go.Proofs Go.RowKit
def kZ (w:World) (b o:Nat) (s:List UInt8):Prop:=∀(i:Nat) (x:UInt8),s[i]? =as4 x->w.cell? ⟨b,o+i,as6⟩=as4 (.int .u8 x.toNat)
def fa (w:World) (bf b:Nat) (s:List UInt8):Prop:=∃o c,w.cell? ⟨bf,0,as6⟩=as4 (.slice (as4 ⟨b,o,as6⟩) s.length c)/\s.length<=c/\kZ w b o s/\w.frozen? ⟨bf,0,as6⟩=as9/\bf≠b
def rO:List PanicEntry:=[{v:= .iface 191 (.agg #[]),recovered:=as9}]
theorem kZ.set {w:World} {b o bf:Nat} {s:List UInt8} {v:as7} (h:kZ w b o s) (n:bf≠b):kZ (w.setCell ⟨bf,0,as6⟩ v) b o s:=fun i x aj=>by
 rw[World.cell?_setCell_other _ _ _ _ (by simp[n.symm])];exact h i x aj
theorem LO (b o j:Nat):(⟨b,o,as6⟩:Addr).add j=⟨b,o+j,as6⟩:=by unfold Addr.add;split<;>simp_all
theorem kZ.nil {w:World} {b o:Nat}:kZ w b o []:=fun i x aj=>by cases aj
structure fw (bf:Nat) (w w':World):Prop where
 os:w'.os=w.os
 tape:w'.tape=w.tape
 output:w'.output=w.output
 size:w'.heap.size=w.heap.size
 heap:∀c,c≠bf->w'.heap[c]? =w.heap[c]?
theorem fw.set (bf:Nat) (w:World) (v:as7):fw bf w (w.setCell ⟨bf,0,as6⟩ v):=⟨rfl,rfl,rfl,by simp[auZ],fun c ah=>Below.heap_setCell w _ v c ah⟩
theorem fw.trans {bf:Nat} {a b c:World} (h:fw bf a b) (k:fw bf b c):fw bf a c:=⟨k.os.trans h.os,k.tape.trans h.tape,k.output.trans h.output,k.size.trans h.size,fun x ad=>(k.heap x ad).trans (h.heap x ad)⟩
theorem fw.drewN {bf q:Nat} {a b:World} (h:fw bf a b):fw bf a (b.drewN q):=⟨h.os,h.tape,h.output,h.size,h.heap⟩
def Z0 (bf b k:Nat) (s:List UInt8) (w:World) (e:Ending) (w':World):Prop:=∃o c,e= .returned (.slice (as4 ⟨b,o,as6⟩) k c)/\k<=c/\kZ w' b o (s.take k)/\fw bf w w'/\fa w' bf b (s.drop k)
def pE (bf b:Nat) (r:as7) (s:List UInt8) (w:World) (e:Ending) (w':World):Prop:=e= .returned r/\fw bf w w'/\fa w' bf b s
def mG (bf:Nat) (w:World) (e:Ending) (w':World):Prop:=e= .panicked rO/\fw bf w w'
theorem fw.refl (bf:Nat) (w:World):fw bf w w:=⟨rfl,rfl,rfl,rfl,fun _ _=>rfl⟩
theorem fa.drewN {w:World} {bf b q:Nat} {s:List UInt8} (h:fa w bf b s):fa (w.drewN q) bf b s:=by
 obtain ⟨o,c,bg,U,aa,ao,aN⟩:=h;exact ⟨o,c,by simpa using bg,U,fun i x aj=>by simpa using aa i x aj,by simpa using ao,aN⟩
def dI (x y:UInt8):Int:=((x.toNat*256+y.toNat:Nat):Int)
theorem aez (x y:UInt8):bits .or .i64 (↑x.toNat*256) ↑y.toNat=((x.toNat*256+y.toNat:Nat):Int):=by
 have ad:=x.toNat_lt;have aJ:=y.toNat_lt;have bt:(ave 64 ((x.toNat:Int)*256)).toNat=x.toNat*256:=by rw[show ((x.toNat:Int)*256)=((x.toNat*256:Nat):Int) by omega,BitVec.ofInt_natCast,BitVec.toNat_ofNat,Nat.mod_eq_of_lt (by omega)]
 have e2:(ave 64 (y.toNat:Int)).toNat=y.toNat:=by rw[BitVec.ofInt_natCast,BitVec.toNat_ofNat,Nat.mod_eq_of_lt (by omega)]
 have xY:=Nat.two_pow_add_eq_or_of_lt (i:=8) (b:=y.toNat) (by omega) x.toNat;have vJ:bits .or .i64 (↑x.toNat*256) ↑y.toNat=ata .i64 (((ave 64 ((x.toNat:Int)*256)|||ave 64 (y.toNat:Int):BitVec 64).toNat:Nat):Int):=rfl;rw[vJ,BitVec.toNat_or,bt,e2,Nat.mul_comm x.toNat 256,show (256:Nat)=2 ^ 8 from rfl,<-xY,avm];omega
set_option maxHeartbeats 1000000 in
set_option maxRecDepth 100000 in
theorem GD (bf b k:Nat) (s:List UInt8) (w:World) (h:fa w bf b s) (ar:s.length<k):
  Calls Tryz.prog 67 #[.pointer (as4 ⟨bf,0,as6⟩), .int .i64 k] w (mG bf w):=by
 obtain ⟨o,c,bg,ah,_,a4,_⟩:=h
 go_enter Tryz.func67,Tryz.ntmps67
 go_wp2
 exact ⟨rfl,rfl,fw.refl _ _⟩
set_option maxHeartbeats 1000000 in
set_option maxRecDepth 100000 in
theorem GF (bf b k:Nat) (s:List UInt8) (w:World) (h:fa w bf b s) (ar:k<=s.length):
  Calls Tryz.prog 67 #[.pointer (as4 ⟨bf,0,as6⟩), .int .i64 k] w (Z0 bf b k s w):=by
 obtain ⟨o,c,bg,ah,ag,a4,a2⟩:=h;have D7:∀v,kZ (w.setCell ⟨bf,0,as6⟩ v) b o (s.take k):=fun v=>(kZ.set (fun i x aj=>ag i x (by rw[List.getElem?_take] at aj;split at aj<;>simp_all)) a2)
 have yf:∀v,kZ (w.setCell ⟨bf,0,as6⟩ v) b (o+k) (s.drop k):=fun v=>(kZ.set (fun i x aj=>by rw[List.getElem?_drop] at aj;rw[atY];exact ag _ x aj) a2)
 have q0:∀v,(w.setCell ⟨bf,0,as6⟩ v).cell? ⟨bf,0,as6⟩=as4 v:=fun v=>World.cell?_setCell_same w _ _ bg;have p2:∀v,(w.setCell ⟨bf,0,as6⟩ v).frozen? ⟨bf,0,as6⟩=as9:=fun v=>by simpa using a4
 have ax:(s.drop k).length=s.length - k:=List.length_drop;have aQ:c=k->s.drop k=[]:=fun h=>List.drop_eq_nil_of_le (by omega);generalize aE:s.length=n at*
 go_enter Tryz.func67,Tryz.ntmps67
 go_wp2
 ·go_ret
  refine ⟨o,k,rfl,atk _,D7 _,fw.set _ _ _,o,0, ?_, ?_, ?_,p2 _,a2⟩
  ·rw[ax];exact q0 _
  ·rw[ax];omega
  ·rw[aQ (by assumption)];exact kZ.nil
 ·go_ret
  refine ⟨o,c,rfl,by omega,D7 _,fw.set _ _ _,o+k,c - k, ?_, ?_,yf _,p2 _,a2⟩
  ·rw[ax];exact q0 _
  ·rw[ax];omega
set_option maxHeartbeats 1000000 in
set_option maxRecDepth 100000 in
theorem PH (bf b:Nat) (x:UInt8) (s:List UInt8) (w:World) (h:fa w bf b (x::s)):
  Calls Tryz.prog 40 #[.pointer (as4 ⟨bf,0,as6⟩)] w (pE bf b (.int .i64 x.toNat) s w):=by
 have ah:=GF bf b 1 (x::s) w h (by simp);have ad:=x.toNat_lt
 go_enter Tryz.func40,Tryz.ntmps40
 go_wp2_with (go_at_call 67;refine (ah).mono ?_;rintro e w' ⟨o,c,rfl,U,aa,ar,ao⟩;have aN:=aa 0 x rfl;simp only[at2] at aN)
 go_ret
 exact ⟨rfl,ar,ao⟩
set_option maxHeartbeats 1000000 in
set_option maxRecDepth 100000 in
theorem YK (bf b:Nat) (w:World) (h:fa w bf b []):
  Calls Tryz.prog 40 #[.pointer (as4 ⟨bf,0,as6⟩)] w (mG bf w):=by
 have ah:=GD bf b 1 [] w h (by simp)
 go_enter Tryz.func40,Tryz.ntmps40
 go_wp2_with (go_at_call 67;refine (ah).mono ?_;rintro e w' ⟨rfl,ar⟩)
 exact ⟨rfl,rfl,ar⟩
set_option maxHeartbeats 1000000 in
set_option maxRecDepth 100000 in
theorem afs (bf b:Nat) (x y:UInt8) (s:List UInt8) (w:World) (h:fa w bf b (x::y::s)):
  Calls Tryz.prog 68 #[.pointer (as4 ⟨bf,0,as6⟩)] w (pE bf b (.int .i64 (dI x y)) s w):=by
 have ah:=GF bf b 2 (x::y::s) w h (by simp);have ad:=x.toNat_lt;have aJ:=y.toNat_lt
 go_enter Tryz.func68,Tryz.ntmps68
 go_wp2_with (go_at_call 67;refine (ah).mono ?_;rintro e w' ⟨o,c,rfl,U,aa,ar,ao⟩;have aN:=aa 0 x rfl;have bI:=aa 1 y rfl;simp only[at2] at aN)
 go_quiet (fail)
 go_wp2
 go_ret
 have e:bits BinOp.or .i64 (↑x.toNat*256) ↑y.toNat=dI x y:=aez x y;refine ⟨?_,ar.drewN,ao.drewN⟩;show avT (.int .i64 (bits BinOp.or .i64 (↑x.toNat*256) ↑y.toNat))=_;rw[e]
set_option maxHeartbeats 1000000 in
set_option maxRecDepth 100000 in
theorem Yz (bf b:Nat) (s:List UInt8) (w:World) (h:fa w bf b s) (aE:s.length<2):
  Calls Tryz.prog 68 #[.pointer (as4 ⟨bf,0,as6⟩)] w (mG bf w):=by
 have ah:=GD bf b 2 s w h aE
 go_enter Tryz.func68,Tryz.ntmps68
 go_wp2_with (go_at_call 67;refine (ah).mono ?_;rintro e w' ⟨rfl,ar⟩)
 exact ⟨rfl,rfl,ar⟩
set_option maxHeartbeats 1000000 in
set_option maxRecDepth 100000 in
theorem agN (bf b:Nat) (x:UInt8) (s:List UInt8) (w:World) (h:fa w bf b (x::s)) (aE:x.toNat<=s.length):
  Calls Tryz.prog 69 #[.pointer (as4 ⟨bf,0,as6⟩)] w (pE bf b (.string ⟨(s.take x.toNat).toArray⟩) (s.drop x.toNat) w):=by
 have ah:=PH bf b x s w h;have ax:(s.take x.toNat).length=x.toNat:=List.length_take_of_le aE
 go_enter Tryz.func69,Tryz.ntmps69
 go_wp2_with (first|(go_at_call 40;refine (ah).mono ?_;rintro e w' ⟨rfl,ar,ao⟩)|(go_at_call 67;refine (GF bf b x.toNat s _ ao aE).mono ?_;rintro e w' ⟨o,c,rfl,U,aa,qV,ao⟩;have eb:=run_convert_bytes_back (P:=Tryz.prog) _ 27 9 5 ⟨b,o,as6⟩ c (s.take x.toNat) Tryz.underlying27 Tryz.underlying5 Tryz.underlying9 (fun j a0=>by rw[LO];exact aa j _ (atS a0));rw[ax] at eb))
 go_ret
 exact ⟨rfl,ar.trans qV,ao⟩
set_option maxHeartbeats 1000000 in
set_option maxRecDepth 100000 in
theorem agM (bf b:Nat) (s:List UInt8) (w:World) (h:fa w bf b s) (aE:nQ s=as6):Calls Tryz.prog 69 #[.pointer (as4 ⟨bf,0,as6⟩)] w (mG bf w):=by
 cases s with
 |nil=>
  have ah:=YK bf b w h
  go_enter Tryz.func69,Tryz.ntmps69
  go_wp2_with (go_at_call 40;refine (ah).mono ?_;rintro e w' ⟨rfl,ar⟩)
  exact ⟨rfl,rfl,ar⟩
 |cons x s=>
  have ah:=PH bf b x s w h;have ax:s.length<x.toNat:=by
   have:fP x.toNat s=as6:=aE;unfold fP at this;split at this
   ·cases this
   ·omega
  go_enter Tryz.func69,Tryz.ntmps69
  go_wp2_with (first|(go_at_call 40;refine (ah).mono ?_;rintro e w' ⟨rfl,ar,ao⟩)|(go_at_call 67;refine (GD bf b x.toNat s _ ao ax).mono ?_;rintro e w' ⟨rfl,qV⟩))
  exact ⟨rfl,rfl,ar.trans qV⟩
def Z3 (bf b:Nat) (s:List UInt8) (w:World) (e:Ending) (w':World):Prop:=(∃n r,fK s=as4 (n,r)/\pE bf b (.int .i64 n) r w e w')\/fK s=as6/\mG bf w e w'
def Z2 (bf b:Nat) (s:List UInt8) (w:World) (e:Ending) (w':World):Prop:=(∃n r,rK s=as4 (n,r)/\pE bf b (.int .i64 (n:Int)) r w e w')\/rK s=as6/\mG bf w e w'
def Z5 (bf b:Nat) (s:List UInt8) (w:World) (e:Ending) (w':World):Prop:=(∃n r,nQ s=as4 (n,r)/\pE bf b (.string ⟨n.toArray⟩) r w e w')\/nQ s=as6/\mG bf w e w'
theorem aoA {s r:List UInt8} {n:Int} (h:fK s=as4 (n,r)):∃k:Nat,n=(k:Int)/\k<65536:=by
 match s,h with
 |x::y::s,h=>cases h;have:=x.toNat_lt;have:=y.toNat_lt;exact ⟨_,rfl,by omega⟩
 |[],h=>cases h
 |[_],h=>cases h
def Z1 (bf b k:Nat) (s:List UInt8) (w:World) (e:Ending) (w':World):Prop:=(∃n r o c,fP k s=as4 (n,r)/\n.length=k/\e= .returned (.slice (as4 ⟨b,o,as6⟩) k c)/\k<=c/\kZ w' b o n/\fw bf w w'/\fa w' bf b r)\/fP k s=as6/\mG bf w e w'
theorem aph (bf b k:Nat) (s:List UInt8) (w:World) (h:fa w bf b s):Calls Tryz.prog 67 #[.pointer (as4 ⟨bf,0,as6⟩), .int .i64 k] w (Z1 bf b k s w):=by
 by_cases ar:k<=s.length
 ·refine (GF bf b k s w h ar).mono ?_;rintro e w' ⟨o,c,U,aa,ao,aN,bI⟩;exact .inl ⟨_,_,o,c,if_pos ar,List.length_take_of_le ar,U,aa,ao,aN,bI⟩
 ·exact (GD bf b k s w h (by omega)).mono fun e w' q=> .inr ⟨if_neg ar,q⟩
theorem lr (bf b:Nat) (s:List UInt8) (w:World) (h:fa w bf b s):Calls Tryz.prog 68 #[.pointer (as4 ⟨bf,0,as6⟩)] w (Z3 bf b s w):=by
 match s,h with
 |[],h=>exact (Yz bf b _ w h (by simp)).mono fun e w' q=> .inr ⟨rfl,q⟩
 |[_],h=>exact (Yz bf b _ w h (by simp)).mono fun e w' q=> .inr ⟨rfl,q⟩
 |x::y::s,h=>exact (afs bf b x y s w h).mono fun e w' q=> .inl ⟨_,_,rfl,q⟩
theorem zq (bf b:Nat) (s:List UInt8) (w:World) (h:fa w bf b s):Calls Tryz.prog 40 #[.pointer (as4 ⟨bf,0,as6⟩)] w (Z2 bf b s w):=by
 match s,h with
 |[],h=>exact (YK bf b w h).mono fun e w' q=> .inr ⟨rfl,q⟩
 |x::s,h=>exact (PH bf b x s w h).mono fun e w' q=> .inl ⟨_,_,rfl,q⟩
theorem F9 (bf b:Nat) (s:List UInt8) (w:World) (h:fa w bf b s):Calls Tryz.prog 69 #[.pointer (as4 ⟨bf,0,as6⟩)] w (Z5 bf b s w):=by
 cases aE:nQ s with
 |none=>exact (agM bf b s w h aE).mono fun e w' q=> .inr ⟨aE,q⟩
 |some p=>
  match s,h,aE with
  |x::s,h,aE=>
   have ag:fP x.toNat s=as4 p:=aE;have ax:x.toNat<=s.length:=by
    unfold fP at ag;split at ag
    ·assumption
    ·cases ag
   refine (agN bf b x s w h ax).mono fun e w' q=> .inl ⟨_,_, ?_,q⟩;unfold fP at ag;rw[if_pos ax] at ag;cases ag;exact aE
end Go.W
end
section
namespace Go.W
open Go Go.Proofs Go.RowKit
def dV:as7:= .slice as6 0 0
def hB (k t o c w:as7) (ts pt n kF ds kE n5:as7):Array as7:=#[k,t,o,c,w,ts,pt,n,kF,ds,kE,n5]
def cg:as7:= .int .i64 0
def je:as7:= .string ⟨#[]⟩
structure fR (bR:World) (bf b:Nat) (cs:Array as7) (s:List UInt8) (w:World):Prop where
 os:w.os=bR.os
 tape:w.tape=bR.tape
 output:w.output=bR.output
 size:bR.heap.size+2<=w.heap.size
 heap:∀c,c<bR.heap.size->c≠bf->w.heap[c]? =bR.heap[c]?
 rd:fa w bf b s
 a6:w.heap[bR.heap.size+1]? =as4 (.cells cs 29 (0,0))
 oa:w.heap[bR.heap.size]? =as4 (.cells (hB cg cg cg cg cg dV dV je cg dV je dV) 29 (0,0))
 gQ:bf<bR.heap.size
 ag:b<bR.heap.size
 a9:cs.size=12
 one:∀v∈cs,v.oneCell'=as5
theorem fa.other {w w':World} {bf b:Nat} {s:List UInt8} (h:fa w bf b s) (U:w'.heap[bf]? =w.heap[bf]?) (aa:w'.heap[b]? =w.heap[b]?):fa w' bf b s:=by
 obtain ⟨o,c,g5,cG,dE,gf,ik⟩:=h;refine ⟨o,c,(au6 U).trans g5,cG,fun i x aj=>(au6 aa).trans (dE i x aj), ?_,ik⟩;unfold au0 at gf⊢;rw[U];exact gf
theorem h0 (w:World) (o:Obj):(w.alloc o).heap=w.heap.push o:=rfl
theorem l9 {aB:Type} {xs:Array aB} {x:aB} {i:Nat} (h:i<xs.size):(xs.push x)[i]? =xs[i]? :=by
 rw[auD,if_neg (by omega)]
theorem fR.start {w:World} {bf b:Nat} {s:List UInt8} (k:as7) (ar:k.oneCell'=as5) (h:fa w bf b s) (gQ:bf<w.heap.size) (ag:b<w.heap.size):
  fR w bf b (hB k cg cg cg cg dV dV je cg dV je dV) s ((w.alloc (.cells (hB cg cg cg cg cg dV dV je cg dV je dV) 29)).alloc (.cells (hB k cg cg cg cg dV dV je cg dV je dV) 29)) where
 os:=rfl
 tape:=rfl
 output:=rfl
 size:=by rw[h0,h0];simp
 heap:=fun c ah _=>by rw[h0,h0,l9 (by simp;omega),l9 ah]
 rd:=h.other (by rw[h0,h0,l9 (by simp;omega),l9 gQ]) (by rw[h0,h0,l9 (by simp;omega),l9 ag])
 a6:=by rw[h0,h0,auD,if_pos (by simp)]
 oa:=by rw[h0,h0,l9 (by simp),auD,if_pos rfl]
 gQ:=gQ
 ag:=ag
 a9:=rfl
 one:=fun v ab=>by simp only[hB,List.mem_toArray,ats,au5,or_false] at ab;rcases ab with rfl|rfl|rfl|rfl|rfl|rfl|rfl|rfl|rfl|rfl|rfl|rfl<;>first|exact ar|rfl
theorem fR.call {bR w w':World} {bf b:Nat} {cs:Array as7} {s ig:List UInt8} (h:fR bR bf b cs s w) (k:fw bf w w') (r:fa w' bf b ig):fR bR bf b cs ig w' where
 os:=k.os.trans h.os
 tape:=k.tape.trans h.tape
 output:=k.output.trans h.output
 size:=by rw[k.size];exact h.size
 heap:=fun c ah a2=>(k.heap c a2).trans (h.heap c ah a2)
 rd:=r
 a6:=(k.heap _ (by have:=h.gQ;omega)).trans h.a6
 oa:=(k.heap _ (by have:=h.gQ;omega)).trans h.oa
 gQ:=h.gQ
 ag:=h.ag
 a9:=h.a9
 one:=h.one
theorem fR.put {bR w:World} {bf b:Nat} {cs:Array as7} {s:List UInt8} (h:fR bR bf b cs s w) (k:Nat) (v:as7) (ab:v.oneCell'=as5:=by rfl):fR bR bf b (cs.setIfInBounds k v) s (w.setCell ⟨bR.heap.size+1,k,as6⟩ v) where
 os:=h.os
 tape:=h.tape
 output:=h.output
 size:=by simpa[auZ] using h.size
 heap:=fun c ah a2=>(Below.heap_setCell w _ v c (by simp;omega)).trans (h.heap c ah a2)
 rd:=h.rd.other (Below.heap_setCell w _ v bf (by have:=h.gQ;simp;omega)) (Below.heap_setCell w _ v b (by have:=h.ag;simp;omega))
 a6:=by simp only[auZ,Array.getElem?_modify,h.a6];simp
 oa:=(Below.heap_setCell w _ v _ (by simp)).trans h.oa
 gQ:=h.gQ
 ag:=h.ag
 a9:=by simpa using h.a9
 one:=fun u hu=>by
  rcases Array.mem_or_eq_of_mem_setIfInBounds hu with hu|rfl
  ·exact h.one u hu
  ·exact ab
theorem fR.cell {bR w:World} {bf b:Nat} {cs:Array as7} {s:List UInt8} (h:fR bR bf b cs s w) (k:Nat):w.cell? ⟨bR.heap.size+1,k,as6⟩=cs[k]? :=by
 unfold at6;rw[h.a6];rfl
theorem fR.bi {bR w:World} {bf b:Nat} {cs:Array as7} {s:List UInt8} (h:fR bR bf b cs s w) (k:Nat):w.frozen? ⟨bR.heap.size+1,k,as6⟩=as9:=by
 unfold au0;rw[h.a6];simp
theorem fR.tw {bR w:World} {bf b:Nat} {cs:Array as7} {s:List UInt8} (h:fR bR bf b cs s w) (k:Nat):w.cell? ⟨bR.heap.size,k,as6⟩=#[cg,cg,cg,cg,cg,dV,dV,je,cg,dV,je,dV][k]? :=by
 unfold at6;rw[h.oa];rfl
theorem fR.tD {bR w:World} {bf b:Nat} {cs:Array as7} {s:List UInt8} (h:fR bR bf b cs s w) (k:Nat):w.frozen? ⟨bR.heap.size,k,as6⟩=as9:=by
 unfold au0;rw[h.oa];simp
theorem fw.snoc {g k:Nat} {a b:World} {v:as7} (h:fw g a b):fw g a (b.setCell ⟨g,k,as6⟩ v):=h.trans ⟨rfl,rfl,rfl,by simp[auZ],fun c ah=>Below.heap_setCell b _ v c ah⟩
def QN (bR:World) (bf b:Nat) (cs:Array as7) (s:List UInt8) (e:Ending) (w':World):Prop:=e= .returned (.agg cs)/\∃w,fR bR bf b cs s w/\fw bR.heap.size w w'
theorem fw.cells {g:Nat} {w:World}:∀(vs:List as7) (o:Nat) (b:World),fw g w b->fw g w (b.setCells g o vs)
 |[],_,_,h=>h
 |v::vs,o,b,h=>fw.cells vs (o+1) _ h.snoc
theorem uS {bR w:World} {bf b:Nat} {cs:Array as7} {s:List UInt8} {a:Act} {K:Act->World->Prop} {Q:Exit->Act->World->Prop} (h:fR bR bf b cs s w) (aN:a.eval (.tmp 4)= .pointer (as4 ⟨bR.heap.size,0,as6⟩)) (bI:a.eval (.tmp 5)= .pointer (as4 ⟨bR.heap.size+1,0,as6⟩)) (jj:100<a.tmps.size)
  (fy : K (a.put (as4 100) (.agg cs)) (w.setCells bR.heap.size 0 cs.toList)) : Code.wp Tryz.prog (.region 33 #[{ dst := as4 100, op := .load 29 (.tmp 5), type := 29, pos := "script.go:166", after := #[], guard := as6 }, { dst := as6, op := .store 29 (.tmp 4) (.tmp 100), type := 0, pos := "script.go:166", after := #[{ on := 0, ground := .data }, { on := 0, ground := .phase }], guard := as6 }] as9) (Exit.then K Q) a w := by
 have ah:=h.a9;have U:cs.all (·.oneCell')=as5:=avW.2 h.one;have aj:(Tryz.prog.info? 29).map (·.size)=as4 12:=by kernel_rfl
 refine wp_region_list (wpList_load_mid rfl 29 (.tmp 5) rfl (bR.heap.size+1) 0 bI cs.toList _ (fun j v a0=> ?_) Tryz.underlying29 rfl (by rw[aj];simp[ah]) (wpList_store_mid rfl 29 (.tmp 4) (.tmp 100) rfl bR.heap.size 0 cs ?_ ?_ (fun j a0=> ?_) (by rw[aj,ah]) U fy))
 ·rw[atB,h.cell j,<-au8];exact a0
 ·simp[auq,Act.put] at aN⊢;exact aN
 ·simp[auq,Act.put,jj]
 ·rw[atB,h.tw j,h.tD j];rw[ah] at a0;exact ⟨by rw[avU (by exact a0)];rfl,rfl⟩
theorem uJ {bR w:World} {bf b:Nat} {cs:Array as7} {s:List UInt8} {a:Act} {R:Ending->World->Prop} (h:fR bR bf b cs s w) (aN:a.tmps.getD 4 undef= .pointer (as4 ⟨bR.heap.size,0,as6⟩)) (aQ:a.defers=[]) (ch:R (.returned (.agg cs)) (w.setCells bR.heap.size 0 cs.toList)):
  bodyPost Tryz.prog Tryz.f41 R .ret a (w.setCells bR.heap.size 0 cs.toList):=by
 have ah:=h.a9;have aj:(Tryz.prog.info? 29).map (·.size)=as4 12:=by kernel_rfl
 refine ⟨aQ, .agg cs, ?_,ch⟩;have ax:=run_loadVar_mid (P:=Tryz.prog) (w.setCells bR.heap.size 0 cs.toList) bR.heap.size 0 29 cs.toList _ (avX w _ _ _ fun j a0=>by
  rw[atB,h.tw j,h.tD j];rw[au4,ah] at a0;exact ⟨by rw[avU (by exact a0)];rfl,rfl⟩) Tryz.underlying29 rfl (by rw[aj];simp[ah])
 rw[avd] at aN;simp[results,Tryz.results41,aN,asAddr,atE,atK,ax,avl]
theorem uR {bR w:World} {bf b:Nat} {cs:Array as7} {s:List UInt8} (h:fR bR bf b cs s w):QN bR bf b cs s (.returned (.agg cs)) (w.setCells bR.heap.size 0 cs.toList):=⟨rfl,w,h,fw.cells _ _ _ (fw.refl _ _)⟩
structure De (bf:Nat) (w w':World):Prop where
 os:w'.os=w.os
 tape:w'.tape=w.tape
 output:w'.output=w.output
 size:w.heap.size<=w'.heap.size
 heap:∀c,c<w.heap.size->c≠bf->w'.heap[c]? =w.heap[c]?
theorem fR.jI {bR w w':World} {bf b:Nat} {cs:Array as7} {s:List UInt8} (h:fR bR bf b cs s w) (k:fw bf w w'):De bf bR w':=⟨k.os.trans h.os,k.tape.trans h.tape,k.output.trans h.output,by have:=h.size;rw[k.size];omega,fun c ah a2=>(k.heap c a2).trans (h.heap c ah a2)⟩
def hh (n:Int):as7:= .int .i64 n
def na (s:List UInt8):as7:= .string ⟨s.toArray⟩
def gB (bR w':World) (t:atc) (a9:Nat) (v:as7) (xs:List as7):Prop:=(xs=[]/\v=dV)\/∃(g c l:Nat) (cs:Array as7),v= .slice (as4 ⟨g,0,as6⟩) l c/\l*a9=xs.length/\0<l/\l<=c/\c<=maxLen/\bR.heap.size<=g/\w'.heap[g]? =as4 (.cells cs t (0,0))/\c*a9<=cs.size/\∀(i:Nat) (x:as7),xs[i]? =as4 x->cs[i]? =as4 x
def tj (bR w':World) (e:bw) (cs:Array as7):Prop:=∃ts pt ds n5,cs=hB (hh e.kind) (hh e.bQ) (hh e.to) (hh e.count) (hh e.c0) ts pt (na e.order.name) (hh e.order.bQ) ds (na e.name) n5/\
 gB bR w' 3 1 ts (e.aP.map hh)/\gB bR w' 48 2 pt (e.dd.flatMap fun s=>[hh s.place,hh s.bQ])/\gB bR w' 9 1 ds (e.order.cH.map na)/\gB bR w' 5 1 n5 (e.data.map fun x=> .int .u8 x.toNat)
def gq (bR:World) (bf b:Nat) (k:Int) (s:List UInt8) (e:Ending) (w':World):Prop:=
 match gF k s with
 |some (v,r)=>∃cs,tj bR w' v cs/\QN bR bf b cs r e w'
 |none=>e= .panicked rO/\De bf bR w'
theorem gB.nil {bR w':World} {t:atc} {a9:Nat}:gB bR w' t a9 dV []:= .inl ⟨rfl,rfl⟩
theorem fR.grown {bR w w':World} {bf b:Nat} {cs:Array as7} {s:List UInt8} {row:Option Nat} (h:fR bR bf b cs s w) (g:w.grownBy w' row) (aF:∀k,row=as4 k->bR.heap.size+2<=k):fR bR bf b cs s w' where
 os:=g.os.trans h.os
 tape:=g.tape.trans h.tape
 output:=g.output.trans h.output
 size:=atx h.size g.size
 heap:=fun c ah a2=>(g.block c (by have:=h.size;omega) (fun e=>by have:=aF c e.symm;omega)).trans (h.heap c ah a2)
 rd:=h.rd.other (g.block bf (by have:=h.size;have:=h.gQ;omega) (fun e=>by have:=aF _ e.symm;have:=h.gQ;omega)) (g.block b (by have:=h.size;have:=h.ag;omega) (fun e=>by have:=aF _ e.symm;have:=h.ag;omega))
 a6:=(g.block _ (by have:=h.size;omega) (fun e=>by have:=aF _ e.symm;omega)).trans h.a6
 oa:=(g.block _ (by have:=h.size;omega) (fun e=>by have:=aF _ e.symm;omega)).trans h.oa
 gQ:=h.gQ
 ag:=h.ag
 a9:=h.a9
 one:=h.one
def Own (bR w:World) (t:atc) (a9:Nat) (v:as7) (l:Nat) (xs:List as7):Prop:=w.ownsRow (bR.heap.size+2) t a9 v l xs/\(l=0->v=dV)
theorem Own.one {bR w:World} {t:atc} {a9 l:Nat} {v:as7} {xs:List as7} (h:Own bR w t a9 v l xs):v.oneCell'=as5:=by
 rcases h.1.2 with ⟨rfl,_⟩|⟨g,cap,cur,rfl,_⟩<;>rfl
theorem Own.aS {bR w:World} {t:atc} {a9 l:Nat} {v:as7} {xs:List as7} (h:Own bR w t a9 v l xs):∀k,v.ownBlock=as4 k->bR.heap.size+2<=k:=by
 rcases h.1.2 with ⟨rfl,_⟩|⟨g,cap,cur,rfl,a5,_⟩
 ·intro k ar;cases ar
 ·intro k ar;cases ar;exact a5
theorem Own.keep {bR w w':World} {t:atc} {a9 l:Nat} {v:as7} {xs:List as7} (h:Own bR w t a9 v l xs) (hw:∀c,bR.heap.size+2<=c->w'.heap[c]? =w.heap[c]?):Own bR w' t a9 v l xs:=by
 refine ⟨⟨h.1.1, ?_⟩,h.2⟩;rcases h.1.2 with U|⟨g,cap,cur,U,aa,ao,aN⟩
 ·exact .inl U
 ·exact .inr ⟨g,cap,cur,U,aa,(hw g aa).trans ao,aN⟩
theorem Own.ae {bR w w':World} {t:atc} {a9 l:Nat} {v:as7} {xs:List as7} (h:Own bR w t a9 v l xs) (hw:∀c,bR.heap.size+2<=c->w'.heap[c]? =w.heap[c]?):gB bR w' t a9 v xs:=by
 obtain ⟨⟨U,aa⟩,ao⟩:=h;rcases Nat.eq_zero_or_pos l with rfl|ax
 ·exact .inl ⟨aui (by simpa using U),ao rfl⟩
 ·rcases aa with ⟨_,aa⟩|⟨g,cap,cur,ab,a5,bJ,ah,hm,aE,au⟩
  ·omega
  ·refine .inr ⟨g,cap,l,cur,ab,U.symm,ax,ah,hm,by omega,(hw g a5).trans bJ,by omega,fun i x aj=> ?_⟩;rw[<-au] at aj;rw[List.getElem?_take] at aj;split at aj
   ·simpa using aj
   ·cases aj
theorem fw.TL {bR:World} {w w':World} (k:fw bR.heap.size w w'):∀c,bR.heap.size+2<=c->w'.heap[c]? =w.heap[c]? :=fun c ah=>k.heap c (by omega)
theorem yM {bR w:World} {o:Nat} {v:as7}:∀c,bR.heap.size+2<=c->(w.setCell ⟨bR.heap.size+1,o,as6⟩ v).heap[c]? =w.heap[c]? :=fun c ah=>Below.heap_setCell w _ v c (by simp;omega)
theorem yN {bR w:World} {o:Nat} {vs:List as7}:∀c,bR.heap.size+2<=c->(w.setCells bR.heap.size o vs).heap[c]? =w.heap[c]? :=fun c ah=>(fw.cells vs o w (fw.refl _ _)).heap c (by omega)
theorem agO (xs:List UInt8):∀u∈xs.map (fun x:UInt8=>(.int .u8 x.toNat:as7)),u.oneCell'=as5:=fun u hu=>by
 obtain ⟨x,_,rfl⟩:=atw.1 hu;rfl
theorem kZ.news {w:World} {b o:Nat} {s:List UInt8} (h:kZ w b o s):∀(j:Nat) (u:as7),(s.map fun x:UInt8=>(.int .u8 x.toNat:as7))[j]? =as4 u->w.cell? ((⟨b,o,as6⟩:Addr).add j)=as4 u:=fun j u hu=>by
 rw[aub] at hu;obtain ⟨x,ad,rfl⟩:=Option.map_eq_some_iff.1 hu;rw[LO];exact h j x ad
set_option maxHeartbeats 4000000 in
set_option maxRecDepth 100000 in
theorem abB (bf b:Nat) (s:List UInt8) (w:World) (h:fa w bf b s) (gQ:bf<w.heap.size) (ag:b<w.heap.size):
  Calls Tryz.prog 41 #[.pointer (as4 ⟨bf,0,as6⟩), .int .i64 6] w (gq w bf b 6 s):=by
 have aE:=fR.start (.int .i64 6) rfl h gQ ag
 go_enter Tryz.func41,Tryz.ntmps41
 go_upto_region 33 with (first
  |(go_at_call 68;refine (lr bf b _ _ aE.rd).mono ?_;rintro e dk (⟨lS,s1,dn,rfl,ar,aF⟩|⟨dn,rfl,ar⟩);have g8:=aE.call ar aF;have mc:=g8.cell;have lj:=g8.bi;simp only[hB] at mc)
  |(go_at_call 68;refine (lr bf b _ _ (g8.put 1 _).rd).mono ?_;rintro e g2 (⟨jv,s2,dz,rfl,ar,aF⟩|⟨dz,rfl,ar⟩);have h9:=(g8.put 1 _).call ar aF;have pU:=h9.cell;have Ey:=h9.bi;simp only[hB,auy] at pU)
  |(go_at_call 68;refine (lr bf b _ _ (h9.put 2 _).rd).mono ?_;rintro e my (⟨hp,m8,dX,rfl,ar,aF⟩|⟨dX,rfl,ar⟩);have hn:=(h9.put 2 _).call ar aF;have oX:=hn.cell;have Ez:=hn.bi;have Ea:=hn.tw;have Ec:=hn.tD;simp only[hB,auy] at oX))
 ·refine uS (hn.put 3 _) ?_ ?_ ?_ ?_
  ·rfl
  ·rfl
  ·exact (by decide:100<101)
  go_wp2
  refine uJ (hn.put 3 _) rfl rfl ?_;simp only[gq,gF,dn,dz,dX,atr,atH,if_true,if_false,or_self];exact ⟨_,⟨dV,dV,dV,dV,rfl,gB.nil,gB.nil,gB.nil,gB.nil⟩,uR (hn.put 3 _)⟩
 ·refine ⟨rfl, ?_⟩;simp only[gq,gF,dn,dz,dX,atr,atD,atH,if_true,if_false,or_self];exact ⟨trivial,(h9.put 2 _).jI ar⟩
 ·refine ⟨rfl, ?_⟩;simp only[gq,gF,dn,dz,atr,atD,atH,if_true,if_false,or_self];exact ⟨trivial,(g8.put 1 _).jI ar⟩
 ·refine ⟨rfl, ?_⟩;simp only[gq,gF,dn,atr,atD,atH,if_true,if_false,or_self];exact ⟨trivial,aE.jI ar⟩
set_option maxHeartbeats 4000000 in
set_option maxRecDepth 100000 in
theorem abC (bf b:Nat) (s:List UInt8) (w:World) (h:fa w bf b s) (gQ:bf<w.heap.size) (ag:b<w.heap.size):
  Calls Tryz.prog 41 #[.pointer (as4 ⟨bf,0,as6⟩), .int .i64 7] w (gq w bf b 7 s):=by
 have aE:=fR.start (.int .i64 7) rfl h gQ ag
 go_enter Tryz.func41,Tryz.ntmps41
 go_upto_region 33 with (go_at_call 69;refine (F9 bf b _ _ aE.rd).mono ?_;rintro e dk (⟨lS,s1,dn,rfl,ar,aF⟩|⟨dn,rfl,ar⟩);have g8:=aE.call ar aF;have mc:=g8.cell;have lj:=g8.bi;simp only[hB] at mc)
 ·refine uS (g8.put 10 _) ?_ ?_ ?_ ?_
  ·rfl
  ·rfl
  ·exact (by decide:100<101)
  go_wp2
  refine uJ (g8.put 10 _) rfl rfl ?_;simp only[gq,gF,dn,atr,atH,if_true,if_false,or_self];exact ⟨_,⟨dV,dV,dV,dV,rfl,gB.nil,gB.nil,gB.nil,gB.nil⟩,uR (g8.put 10 _)⟩
 ·refine ⟨rfl, ?_⟩;simp only[gq,gF,dn,atr,atD,atH,if_true,if_false,or_self];exact ⟨trivial,aE.jI ar⟩
def rY (t:atc) (z:as7) (n b:Nat):Prop:=∃i,Tryz.prog.info? t=as4 i/\i.zero=as4 z/\i.size=n/\i.bytes=b
theorem Gj {t:atc} {z:as7} {n b:Nat} (h:(Tryz.prog.info? t).map (fun i=>(i.zero,i.size,i.bytes))=as4 (as4 z,n,b)):rY t z n b:=by
 unfold rY;cases aj:Tryz.prog.info? t with
 |none=>rw[aj] at h;cases h
 |some i=>rw[aj] at h;simp only[Option.map_some,Option.some.injEq,Prod.mk.injEq] at h;exact ⟨i,rfl,h⟩
theorem aed:rY 5 (.int .u8 0) 1 1:=Gj (by kernel_rfl)
theorem UP:rY 3 (.int .i64 0) 1 8:=Gj (by kernel_rfl)
theorem aee:rY 9 (.string ⟨#[]⟩) 1 16:=Gj (by kernel_rfl)
theorem afg:rY 48 (.agg #[.int .i64 0, .int .i64 0]) 2 16:=Gj (by kernel_rfl)
theorem agP {w:World} {ops:Array Oper} {rest:List Oper} {o:Oper} {a:Act} {Q:Exit->Act->World->Prop} (yp:o.guard=as6) (s x:Operand) (t:atc)
  (an:o.op= .call {callee:= .builtin .append,args:=#[s,x],argTypes:=#[t,t]})
  (base:Nat) (e:atc) (z:as7) (size bytes:Nat) (aj:rY e z size bytes) (au:Tryz.prog.underlying t=as4 (.slice e))
  (dU:z.cells.size=size) (b6:0<size)
  (v:as7) (n:Nat) (xs:List as7) (aE:a.eval s=v) (Nh:w.ownsRow base e size v n xs)
  (cj:Addr) (m c:Nat) (news:List as7) (ad:a.eval x= .slice (as4 cj) m c) (ax:news.length=m*size) (M8:∀j u,news[j]? =as4 u->w.cell? (cj.add j)=as4 u) (U:∀u∈news,u.oneCell'=as5)
  (D2:n+m<=maxLen) (vR:(n+m)*bytes<=140737488355328) (yg:base<=w.heap.size) (L:Nat) (cV:n+m=L)
  (h:∀p c w',w'.ownsRow base e size (.slice p L c) L (xs++news)->w.grownBy w' v.ownBlock->(.slice p L c=atZ as6 0 0↔v= .slice as6 0 0/\m=0)->wpList Tryz.prog ops Q rest (a.put o.dst (.slice p L c)) w'):
  wpList Tryz.prog ops Q (o::rest) a w:=by
 subst cV;obtain ⟨i,mL,aa,ao,aN⟩:=aj;exact wpList_append_own_at w yp s x t an base e i z size bytes au mL aa ao aN dU b6 v n xs aE Nh cj m c news ad ax M8 U D2 vR yg fun bH w' a b c _=>by
  have bd:∃p c,bH= .slice p (n+m) c:=by
   rcases a.2 with ⟨rfl,bg⟩|⟨g,cap,cur,rfl,_⟩
   ·exact ⟨as6,0,by rw[bg]⟩
   ·exact ⟨_,_,rfl⟩
  obtain ⟨p,bP,rfl⟩:=bd;exact h p bP w' a b c
theorem apg {bR w w':World} {bf b l:Nat} {cs:Array as7} {s:List UInt8} {t:atc} {a9:Nat} {bH:as7} {xs:List as7} (h:fR bR bf b cs s w) (an:w'.ownsRow (bR.heap.size+2) t a9 bH l ([]++xs)) (g:w.grownBy w' (atZ as6 0 0).ownBlock) (aj:bH= .slice as6 0 0↔atZ as6 0 0= .slice as6 0 0/\l=0):Own bR w' t a9 bH l xs/\fR bR bf b cs s w'/\(∀k:Nat,w'.cell? ⟨bR.heap.size+1,k,as6⟩=cs[k]?)/\∀k:Nat,w'.frozen? ⟨bR.heap.size+1,k,as6⟩=as9:=by
 have aE:=h.grown g (fun k ar=>by cases ar);exact ⟨⟨an,fun e=>aj.2 ⟨rfl,e⟩⟩,aE,aE.cell,aE.bi⟩
set_option maxHeartbeats 4000000 in
set_option maxRecDepth 100000 in
theorem abx (bf b:Nat) (s:List UInt8) (w:World) (h:fa w bf b s) (gQ:bf<w.heap.size) (ag:b<w.heap.size):
  Calls Tryz.prog 41 #[.pointer (as4 ⟨bf,0,as6⟩), .int .i64 1] w (gq w bf b 1 s):=by
 have aE:=fR.start (.int .i64 1) rfl h gQ ag
 go_enter Tryz.func41,Tryz.ntmps41
 go_upto_region 33 with (first
  |(go_at_call 68;refine (lr bf b _ _ aE.rd).mono ?_;rintro e dk (⟨lS,s1,dn,rfl,ar,aF⟩|⟨dn,rfl,ar⟩);have g8:=aE.call ar aF;have mc:=g8.cell;have lj:=g8.bi;simp only[hB] at mc)
  |(go_at_call 68;refine (lr bf b _ _ (g8.put 1 _).rd).mono ?_;rintro e g2 (⟨jv,s2,dz,rfl,ar,aF⟩|⟨dz,rfl,ar⟩);have h9:=(g8.put 1 _).call ar aF;have pU:=h9.cell;have Ey:=h9.bi;simp only[hB,auy] at pU;obtain ⟨cc,rfl,asB⟩:=aoA dz)
  |(go_at_call 67;refine (aph bf b cc _ _ h9.rd).mono ?_;rintro e my (⟨hp,m8,wm,c3,dX,aek,rfl,arZ,aci,ar,aF⟩|⟨dX,rfl,ar⟩);have hn:=h9.call ar aF)
  |(at_builtin;go_loud (refine agP rfl _ _ _ rfl (w.heap.size+2) 5 (.int .u8 0) 1 1 aed Tryz.underlying27 rfl (by omega) (.slice as6 0 0) 0 [] (by rfl) ⟨rfl, .inl ⟨rfl,rfl⟩⟩ ⟨b,wm,as6⟩ cc c3 (hp.map fun x:UInt8=> .int .u8 x.toNat) (by rfl) (by simp[aek]) aci.news (agO hp) (by simp[maxLen];omega) (by omega) hn.size cc (atB cc) ?_);intro ur c4 fo adl MS acP;obtain ⟨ab7,Nn,D9,Nu⟩:=apg hn adl MS acP;simp only[hB,auy] at D9))
 ·refine uS (Nn.put 11 (.slice ur cc c4)) ?_ ?_ ?_ ?_
  ·rfl
  ·rfl
  ·exact (by decide:100<101)
  go_wp2
  refine uJ (Nn.put 11 (.slice ur cc c4)) rfl rfl ?_;simp only[gq,gF,dn,dz,dX,atr,auc,if_true];exact ⟨_,⟨dV,dV,dV,_,rfl,gB.nil,gB.nil,gB.nil,ab7.ae fun c ah=>(yN c ah).trans (yM c ah)⟩,uR (Nn.put 11 (.slice ur cc c4))⟩
 ·refine ⟨rfl, ?_⟩;simp only[gq,gF,dn,dz,dX,atr,atD,auc,if_true];exact ⟨trivial,h9.jI ar⟩
 ·refine ⟨rfl, ?_⟩;simp only[gq,gF,dn,dz,atr,atD,if_true];exact ⟨trivial,(g8.put 1 _).jI ar⟩
 ·refine ⟨rfl, ?_⟩;simp only[gq,gF,dn,atD,if_true];exact ⟨trivial,aE.jI ar⟩
end Go.W
end
section
namespace Go.W
open Go Go.Proofs Go.RowKit
structure k0 {aB:Type} (f:List UInt8->Option (aB×List UInt8)) (c:Nat) (s:List UInt8) (k:Nat) (xs:List aB) (r:List UInt8):Prop where
 le:k<=c
 len:xs.length=k
 eq:iu f c s=Option.map (fun q=>(xs++q.1,q.2)) (iu f (c - k) r)
section
variable {aB:Type} {f:List UInt8->Option (aB×List UInt8)} {c k:Nat} {s r rI:List UInt8} {xs:List aB} {x:aB}
theorem k0.start:k0 f c s 0 [] s:=⟨Nat.zero_le _,rfl,by
 rw[Nat.sub_zero];cases iu f c s<;>rfl⟩
theorem k0.step (h:k0 f c s k xs r) (ar:k<c) (bd:f r=as4 (x,rI)):k0 f c s (k+1) (xs++[x]) rI:=⟨ar,by rw[aua,h.len];rfl,by
 have e:c - k=(c - (k+1))+1:=by omega
 rw[h.eq,e];simp only[iu,bd,atr];cases iu f (c - (k+1)) rI with
 |none=>rfl
 |some q=>simp⟩
theorem k0.fail (h:k0 f c s k xs r) (ar:k<c) (bd:f r=as6):iu f c s=as6:=by
 have e:c - k=(c - (k+1))+1:=by omega
 rw[h.eq,e];simp only[iu,bd,atD,Option.map_none]
theorem k0.done (h:k0 f c s c xs r):iu f c s=as4 (xs,r):=by
 rw[h.eq,Nat.sub_self];simp[iu]
end
end Go.W
end
section
namespace Go.W
open Go Go.Proofs Go.RowKit
theorem fR.drew {bR w:World} {bf b:Nat} {cs:Array as7} {s:List UInt8} (h:fR bR bf b cs s w):fR bR bf b cs s w.drew:=⟨h.os,h.tape,h.output,h.size,h.heap,h.rd.drewN (q:=1),h.a6,h.oa,h.gQ,h.ag,h.a9,h.one⟩
theorem fR.alloc {bR w:World} {bf b:Nat} {cs:Array as7} {s:List UInt8} (h:fR bR bf b cs s w) (o:Obj):fR bR bf b cs s (w.alloc o):=h.grown (row:=as6) ⟨rfl,rfl,rfl,by rw[h0];simp,fun c ah _=>by rw[h0,l9 ah]⟩ (fun _ h=>by cases h)
theorem Own.alloc {bR w:World} {t:atc} {a9 l:Nat} {v:as7} {xs:List as7} (h:Own bR w t a9 v l xs) (o:Obj):Own bR (w.alloc o) t a9 v l xs:=by
 refine ⟨⟨h.1.1, ?_⟩,h.2⟩;rcases h.1.2 with U|⟨g,cap,cur,U,aa,ao,aN⟩
 ·exact .inl U
 ·exact .inr ⟨g,cap,cur,U,aa,by rw[h0,l9 (auI.1 ao).1];exact ao,aN⟩
theorem ER (w:World) (t:atc) (cs:Array as7) (l:List as7) (ax:cs=l.toArray) (H:Nat) (ab0:w.heap.size=H):∀(j:Nat) (u:as7),l[j]? =as4 u->(w.alloc (.cells cs t)).cell? ((⟨H,0,as6⟩:Addr).add j)=as4 u:=fun j u hu=>by
 subst ax ab0;rw[LO,atB];unfold at6;rw[h0,auD,if_pos rfl];simpa using hu
theorem FV {w:World} {ops:Array Oper} {o:Oper} {a:Act} {K:Act->World->Prop} {Q:Exit->Act->World->Prop} {E:Prop} (yp:o.guard=as6) (s x:Operand) (t:atc)
  (an:o.op= .call {callee:= .builtin .append,args:=#[s,x],argTypes:=#[t,t]})
  (base:Nat) (e:atc) (z:as7) (size bytes:Nat) (aj:rY e z size bytes) (au:Tryz.prog.underlying t=as4 (.slice e)) (dU:z.cells.size=size) (b6:0<size)
  (v:as7) (n:Nat) (xs:List as7) (aE:a.eval s=v) (Nh:w.ownsRow base e size v n xs)
  (cj:Addr) (m c:Nat) (news:List as7) (ad:a.eval x= .slice (as4 cj) m c) (ax:news.length=m*size) (M8:∀j u,news[j]? =as4 u->w.cell? (cj.add j)=as4 u) (U:∀u∈news,u.oneCell'=as5)
  (hm:0<m) (D2:n+m<=maxLen) (vR:(n+m)*bytes<=140737488355328) (yg:base<=w.heap.size)
  (h:∀g cap w',w'.ownsRow base e size (.slice (as4 ⟨g,0,as6⟩) (n+m) cap) (n+m) (xs++news)->w.grownBy w' v.ownBlock->K (a.put o.dst (.slice (as4 ⟨g,0,as6⟩) (n+m) cap)) w'):
  if Region.wanted o (yielded ops a.tmps)=as5 then Oper.wp Tryz.prog o a w K Q else E:=by
 obtain ⟨i,mL,aa,ao,aN⟩:=aj;exact step_append_lies w yp s x t an base e i z size bytes au mL aa ao aN dU b6 v n xs aE Nh cj m c news ad ax M8 U hm D2 vR yg _ rfl fun g cap w' a b _ _=>h g cap w' a b
set_option maxHeartbeats 4000000 in
set_option maxRecDepth 100000 in
theorem abz (bf b:Nat) (s:List UInt8) (w:World) (h:fa w bf b s) (gQ:bf<w.heap.size) (ag:b<w.heap.size):
  Calls Tryz.prog 41 #[.pointer (as4 ⟨bf,0,as6⟩), .int .i64 3] w (gq w bf b 3 s):=by
 have aE:=fR.start (.int .i64 3) rfl h gQ ag
 go_enter Tryz.func41,Tryz.ntmps41
 go_upto_region 18 with (first
  |(go_at_call 68;refine (lr bf b _ _ aE.rd).mono ?_;rintro e dk (⟨lS,s1,dn,rfl,ar,aF⟩|⟨dn,rfl,ar⟩);have g8:=aE.call ar aF;have mc:=g8.cell;have lj:=g8.bi;simp only[hB] at mc)
  |(go_at_call 68;refine (lr bf b _ _ (g8.put 1 _).rd).mono ?_;rintro e g2 (⟨jv,s2,dz,rfl,ar,aF⟩|⟨dz,rfl,ar⟩);have h9:=(g8.put 1 _).call ar aF;have pU:=h9.cell;have Ey:=h9.bi;simp only[hB,auy] at pU)
  |(go_at_call 40;refine (zq bf b _ _ (h9.put 4 _).rd).mono ?_;rintro e my (⟨hp,m8,dX,rfl,ar,aF⟩|⟨dX,rfl,ar⟩);have hn:=(h9.put 4 _).call ar aF;have oX:=hn.cell;have Ez:=hn.bi;have Ea:=hn.tw;have Ec:=hn.tD;simp only[hB,auy] at oX))
 ·have M7:hp<256:=by
   cases o2:s2 with
   |nil=>rw[o2] at dX;cases dX
   |cons x r=>rw[o2] at dX;cases dX;exact x.toNat_lt
  go_loopw [56] (fun u wr=>∃(k:Nat) (xs:List Int) (r:List UInt8) (v:as7),u= .int .i64 k/\k0 fK hp m8 k xs r/\Own w wr 3 1 v k (xs.map hh)/\fR w bf b #[.int .i64 3, .int .i64 lS,cg,cg, .int .i64 jv,v,dV,je,cg,dV,je,dV] r wr) (fun u _=>hp - (intOf u).toNat)
  case atStart=>
   exact ⟨0,[],m8,dV,rfl,k0.start,⟨⟨rfl, .inl ⟨rfl,rfl⟩⟩,fun _=>rfl⟩,hn⟩
  case round=>
   obtain ⟨k,xs,r,v,rfl,cV,bN,a1⟩:=hrel;have gJ:=a1.drew;have MJ:=gJ.cell;have Nw:=gJ.bi;by_cases bS:k<hp
   ·cases bb:fK r with
    |none=>
     have ca:Calls Tryz.prog 68 #[.pointer (as4 ⟨bf,0,as6⟩)] wr.drew (mG bf wr.drew):=(lr bf b _ _ gJ.rd).mono (by
      rintro e fo (⟨jl,m9,eE,_⟩|⟨eE,aN⟩)
      ·rw[bb] at eE;cases eE
      ·exact aN)
     have oV:∀fo,fw bf wr.drew fo->gq w bf b 3 s (.panicked rO) fo:=fun fo gZ=>by simp only[gq,gF,dn,dz,dX,cV.fail bS bb,atr,atD,atH,if_true,if_false,or_false,true_or];exact ⟨trivial,gJ.jI gZ⟩
     go_upto_region 19 with fail
     refine wp_region_any (by kernel_rfl) ?_
     change wpAny _ _ _ _ _ _ _ (World.drew _)
     refine wpAny_take (i:=0) (v:=_) rfl (by kernel_rfl) (by kernel_rfl) (by kernel_rfl) (fun _ _ _ h=>h) (auz ⟨by rfl,by intro w;go_simp;rfl⟩) ?_;refine wpAny_take (i:=2) (v:=_) rfl (by kernel_rfl) (by kernel_rfl) (by kernel_rfl) (fun _ _ _ h=>h) (auz ⟨by rfl,by intro w;go_simp;rfl⟩) ?_;refine wpAny_ready (rs:=[1,3]) (by kernel_rfl) (by simp) (auk rfl (fun K fy=> ?_) (auk rfl (fun K fy=> ?_) auV))
     ·go_simp
      refine fy _ _ ?_;clear fy K;refine wpAny_ready (rs:=[3]) (by kernel_rfl) (by simp) (auk rfl (fun K fy=> ?_) auV)
      go_simp;go_at_call 68;refine ca.mono ?_;rintro e fo ⟨rfl,gZ⟩
      exact ⟨rfl,oV _ gZ⟩
     ·go_simp;go_at_call 68;refine ca.mono ?_;rintro e fo ⟨rfl,gZ⟩
      exact ⟨rfl,oV _ gZ⟩
    |some p=>
     obtain ⟨jl,m9⟩:=p;have ca:Calls Tryz.prog 68 #[.pointer (as4 ⟨bf,0,as6⟩)] wr.drew (pE bf b (.int .i64 jl) m9 wr.drew):=(lr bf b _ _ gJ.rd).mono (by
      rintro e fo (⟨rf,va,eE,aN⟩|⟨eE,_⟩)
      ·rw[bb] at eE;cases eE;exact aN
      ·rw[bb] at eE;cases eE)
     go_upto_region 19 with fail
     go_region_law (first
      |(go_simp;go_at_call 68;refine ca.mono ?_;rintro e fo ⟨rfl,gZ,su⟩;have k8:=gJ.call gZ su;have D9:=k8.cell;have Nu:=k8.bi;have jt:=fun o:Obj=>(k8.alloc o).cell)
      |(refine FV rfl _ _ 22 rfl (w.heap.size+2) 3 (.int .i64 0) 1 8 UP Tryz.underlying22 rfl (by omega) v k (xs.map hh) (by rfl) ((bN.keep (fun c ah=>gZ.heap c (by omega))).alloc _).1 ⟨fo.heap.size,0,as6⟩ 1 1 [.int .i64 jl] (by rfl) rfl (ER fo 3 _ _ rfl _ rfl) (by simp[au7]) (by omega) (by simp[maxLen];omega) (by omega) (k8.alloc _).size ?_;intro eG c5 kt yr yo;have k9:=(k8.alloc (.cells #[.int .i64 jl] 3)).grown yo bN.aS;have MI:=k9.cell;have Nv:=k9.bi)
      |fail)
     all_goals
      go_wp2
      go_roundw
      case rel=>exact ⟨k+1,xs++[jl],m9,_,by go_num,cV.step bS bb,by rw[List.map_append];exact Own.keep ⟨yr,fun e=>by omega⟩ yM,k9.put 5 _⟩
      case measure=>simp[intOf];omega
   ·have nD:k=hp:=by have:=cV.le;omega
    subst nD
    go_upto_region 33 with fail
    refine uS a1 ?_ ?_ ?_ ?_
    ·rfl
    ·rfl
    ·exact (by decide:100<101)
    go_wp2
    refine uJ a1 rfl rfl ?_;simp only[gq,gF,dn,dz,dX,cV.done,atr,atD,atH,if_true,if_false,or_false,true_or];exact ⟨_,⟨v,dV,dV,dV,rfl,bN.ae yN,gB.nil,gB.nil,gB.nil⟩,uR a1⟩
 ·refine ⟨rfl, ?_⟩;simp only[gq,gF,dn,dz,dX,atr,atD,atH,if_true,if_false,or_false,true_or];exact ⟨trivial,(h9.put 4 _).jI ar⟩
 ·refine ⟨rfl, ?_⟩;simp only[gq,gF,dn,dz,atr,atD,atH,if_true,if_false,or_false,true_or];exact ⟨trivial,(g8.put 1 _).jI ar⟩
 ·refine ⟨rfl, ?_⟩;simp only[gq,gF,dn,atr,atD,atH,if_true,if_false,or_false,true_or];exact ⟨trivial,aE.jI ar⟩
set_option maxHeartbeats 4000000 in
set_option maxRecDepth 100000 in
theorem abA (bf b:Nat) (s:List UInt8) (w:World) (h:fa w bf b s) (gQ:bf<w.heap.size) (ag:b<w.heap.size):
  Calls Tryz.prog 41 #[.pointer (as4 ⟨bf,0,as6⟩), .int .i64 5] w (gq w bf b 5 s):=by
 have aE:=fR.start (.int .i64 5) rfl h gQ ag
 go_enter Tryz.func41,Tryz.ntmps41
 go_upto_region 18 with (first
  |(go_at_call 68;refine (lr bf b _ _ aE.rd).mono ?_;rintro e dk (⟨lS,s1,dn,rfl,ar,aF⟩|⟨dn,rfl,ar⟩);have g8:=aE.call ar aF;have mc:=g8.cell;have lj:=g8.bi;simp only[hB] at mc)
  |(go_at_call 68;refine (lr bf b _ _ (g8.put 1 _).rd).mono ?_;rintro e g2 (⟨jv,s2,dz,rfl,ar,aF⟩|⟨dz,rfl,ar⟩);have h9:=(g8.put 1 _).call ar aF;have pU:=h9.cell;have Ey:=h9.bi;simp only[hB,auy] at pU)
  |(go_at_call 40;refine (zq bf b _ _ (h9.put 4 _).rd).mono ?_;rintro e my (⟨hp,m8,dX,rfl,ar,aF⟩|⟨dX,rfl,ar⟩);have hn:=(h9.put 4 _).call ar aF;have oX:=hn.cell;have Ez:=hn.bi;have Ea:=hn.tw;have Ec:=hn.tD;simp only[hB,auy] at oX))
 ·have M7:hp<256:=by
   cases o2:s2 with
   |nil=>rw[o2] at dX;cases dX
   |cons x r=>rw[o2] at dX;cases dX;exact x.toNat_lt
  go_loopw [56] (fun u wr=>∃(k:Nat) (xs:List Int) (r:List UInt8) (v:as7),u= .int .i64 k/\k0 fK hp m8 k xs r/\Own w wr 3 1 v k (xs.map hh)/\fR w bf b #[.int .i64 5, .int .i64 lS,cg,cg, .int .i64 jv,v,dV,je,cg,dV,je,dV] r wr) (fun u _=>hp - (intOf u).toNat)
  case atStart=>
   exact ⟨0,[],m8,dV,rfl,k0.start,⟨⟨rfl, .inl ⟨rfl,rfl⟩⟩,fun _=>rfl⟩,hn⟩
  case round=>
   obtain ⟨k,xs,r,v,rfl,cV,bN,a1⟩:=hrel;have gJ:=a1.drew;have MJ:=gJ.cell;have Nw:=gJ.bi;by_cases bS:k<hp
   ·cases bb:fK r with
    |none=>
     have ca:Calls Tryz.prog 68 #[.pointer (as4 ⟨bf,0,as6⟩)] wr.drew (mG bf wr.drew):=(lr bf b _ _ gJ.rd).mono (by
      rintro e fo (⟨jl,m9,eE,_⟩|⟨eE,aN⟩)
      ·rw[bb] at eE;cases eE
      ·exact aN)
     have oV:∀fo,fw bf wr.drew fo->gq w bf b 5 s (.panicked rO) fo:=fun fo gZ=>by simp only[gq,gF,dn,dz,dX,cV.fail bS bb,atr,atD,atH,if_true,if_false,false_or,or_true];exact ⟨trivial,gJ.jI gZ⟩
     go_upto_region 19 with fail
     refine wp_region_any (by kernel_rfl) ?_
     change wpAny _ _ _ _ _ _ _ (World.drew _)
     refine wpAny_take (i:=0) (v:=_) rfl (by kernel_rfl) (by kernel_rfl) (by kernel_rfl) (fun _ _ _ h=>h) (auz ⟨by rfl,by intro w;go_simp;rfl⟩) ?_;refine wpAny_take (i:=2) (v:=_) rfl (by kernel_rfl) (by kernel_rfl) (by kernel_rfl) (fun _ _ _ h=>h) (auz ⟨by rfl,by intro w;go_simp;rfl⟩) ?_;refine wpAny_ready (rs:=[1,3]) (by kernel_rfl) (by simp) (auk rfl (fun K fy=> ?_) (auk rfl (fun K fy=> ?_) auV))
     ·go_simp
      refine fy _ _ ?_;clear fy K;refine wpAny_ready (rs:=[3]) (by kernel_rfl) (by simp) (auk rfl (fun K fy=> ?_) auV)
      go_simp;go_at_call 68;refine ca.mono ?_;rintro e fo ⟨rfl,gZ⟩
      exact ⟨rfl,oV _ gZ⟩
     ·go_simp;go_at_call 68;refine ca.mono ?_;rintro e fo ⟨rfl,gZ⟩
      exact ⟨rfl,oV _ gZ⟩
    |some p=>
     obtain ⟨jl,m9⟩:=p;have ca:Calls Tryz.prog 68 #[.pointer (as4 ⟨bf,0,as6⟩)] wr.drew (pE bf b (.int .i64 jl) m9 wr.drew):=(lr bf b _ _ gJ.rd).mono (by
      rintro e fo (⟨rf,va,eE,aN⟩|⟨eE,_⟩)
      ·rw[bb] at eE;cases eE;exact aN
      ·rw[bb] at eE;cases eE)
     go_upto_region 19 with fail
     go_region_law (first
      |(go_simp;go_at_call 68;refine ca.mono ?_;rintro e fo ⟨rfl,gZ,su⟩;have k8:=gJ.call gZ su;have D9:=k8.cell;have Nu:=k8.bi;have jt:=fun o:Obj=>(k8.alloc o).cell)
      |(refine FV rfl _ _ 22 rfl (w.heap.size+2) 3 (.int .i64 0) 1 8 UP Tryz.underlying22 rfl (by omega) v k (xs.map hh) (by rfl) ((bN.keep (fun c ah=>gZ.heap c (by omega))).alloc _).1 ⟨fo.heap.size,0,as6⟩ 1 1 [.int .i64 jl] (by rfl) rfl (ER fo 3 _ _ rfl _ rfl) (by simp[au7]) (by omega) (by simp[maxLen];omega) (by omega) (k8.alloc _).size ?_;intro eG c5 kt yr yo;have k9:=(k8.alloc (.cells #[.int .i64 jl] 3)).grown yo bN.aS;have MI:=k9.cell;have Nv:=k9.bi)
      |fail)
     all_goals
      go_wp2
      go_roundw
      case rel=>exact ⟨k+1,xs++[jl],m9,_,by go_num,cV.step bS bb,by rw[List.map_append];exact Own.keep ⟨yr,fun e=>by omega⟩ yM,k9.put 5 _⟩
      case measure=>simp[intOf];omega
   ·have nD:k=hp:=by have:=cV.le;omega
    subst nD
    go_upto_region 33 with fail
    refine uS a1 ?_ ?_ ?_ ?_
    ·rfl
    ·rfl
    ·exact (by decide:100<101)
    go_wp2
    refine uJ a1 rfl rfl ?_;simp only[gq,gF,dn,dz,dX,cV.done,atr,atD,atH,if_true,if_false,false_or,or_true];exact ⟨_,⟨v,dV,dV,dV,rfl,bN.ae yN,gB.nil,gB.nil,gB.nil⟩,uR a1⟩
 ·refine ⟨rfl, ?_⟩;simp only[gq,gF,dn,dz,dX,atr,atD,atH,if_true,if_false,false_or,or_true];exact ⟨trivial,(h9.put 4 _).jI ar⟩
 ·refine ⟨rfl, ?_⟩;simp only[gq,gF,dn,dz,atr,atD,atH,if_true,if_false,false_or,or_true];exact ⟨trivial,(g8.put 1 _).jI ar⟩
 ·refine ⟨rfl, ?_⟩;simp only[gq,gF,dn,atr,atD,atH,if_true,if_false,false_or,or_true];exact ⟨trivial,aE.jI ar⟩
end Go.W
end
section
namespace Go.W
open Go Go.Proofs Go.RowKit
set_option maxHeartbeats 4000000 in
set_option maxRecDepth 100000 in
theorem aby (bf b:Nat) (s:List UInt8) (w:World) (h:fa w bf b s) (gQ:bf<w.heap.size) (ag:b<w.heap.size):
  Calls Tryz.prog 41 #[.pointer (as4 ⟨bf,0,as6⟩), .int .i64 2] w (gq w bf b 2 s):=by
 have aE:=fR.start (.int .i64 2) rfl h gQ ag
 go_enter Tryz.func41,Tryz.ntmps41
 go_upto_region 10 with (first
  |(go_at_call 69;refine (F9 bf b _ _ aE.rd).mono ?_;rintro e dk (⟨lS,s1,dn,rfl,ar,aF⟩|⟨dn,rfl,ar⟩);have g8:=aE.call ar aF;have mc:=g8.cell;have lj:=g8.bi;simp only[hB] at mc)
  |(go_at_call 68;refine (lr bf b _ _ (g8.put 7 _).rd).mono ?_;rintro e g2 (⟨jv,s2,dz,rfl,ar,aF⟩|⟨dz,rfl,ar⟩);have h9:=(g8.put 7 _).call ar aF;have pU:=h9.cell;have Ey:=h9.bi;simp only[hB,auy] at pU)
  |(go_at_call 40;refine (zq bf b _ _ (h9.put 8 _).rd).mono ?_;rintro e my (⟨hp,m8,dX,rfl,ar,aF⟩|⟨dX,rfl,ar⟩);have hn:=(h9.put 8 _).call ar aF;have oX:=hn.cell;have Ez:=hn.bi;have Ea:=hn.tw;have Ec:=hn.tD;simp only[hB,auy] at oX))
 ·have M7:hp<256:=by
   cases o2:s2 with
   |nil=>rw[o2] at dX;cases dX
   |cons x r=>rw[o2] at dX;cases dX;exact x.toNat_lt
  go_loopw [33] (fun u wr=>∃(k:Nat) (xs:List (List UInt8)) (r:List UInt8) (v:as7),u= .int .i64 k/\k0 nQ hp m8 k xs r/\Own w wr 9 1 v k (xs.map na)/\fR w bf b #[.int .i64 2,cg,cg,cg,cg,dV,dV,na lS, .int .i64 jv,v,je,dV] r wr) (fun u _=>hp - (intOf u).toNat)
  case atStart=>
   exact ⟨0,[],m8,dV,rfl,k0.start,⟨⟨rfl, .inl ⟨rfl,rfl⟩⟩,fun _=>rfl⟩,hn⟩
  case round=>
   obtain ⟨k,xs,r,v,rfl,cV,bN,a1⟩:=hrel;have gJ:=a1.drew;have MJ:=gJ.cell;have Nw:=gJ.bi;by_cases bS:k<hp
   ·cases bb:nQ r with
    |none=>
     have ca:Calls Tryz.prog 69 #[.pointer (as4 ⟨bf,0,as6⟩)] wr.drew (mG bf wr.drew):=(F9 bf b _ _ gJ.rd).mono (by
      rintro e fo (⟨jl,m9,eE,_⟩|⟨eE,aN⟩)
      ·rw[bb] at eE;cases eE
      ·exact aN)
     have oV:∀fo,fw bf wr.drew fo->gq w bf b 2 s (.panicked rO) fo:=fun fo gZ=>by simp only[gq,gF,dn,dz,dX,cV.fail bS bb,atr,atD,atH,if_true,if_false];exact ⟨trivial,gJ.jI gZ⟩
     go_upto_region 11 with fail
     refine wp_region_any (by kernel_rfl) ?_
     change wpAny _ _ _ _ _ _ _ (World.drew _)
     refine wpAny_take (i:=0) (v:=_) rfl (by kernel_rfl) (by kernel_rfl) (by kernel_rfl) (fun _ _ _ h=>h) (auz ⟨by rfl,by intro w;go_simp;rfl⟩) ?_;refine wpAny_take (i:=1) (v:=_) rfl (by kernel_rfl) (by kernel_rfl) (by kernel_rfl) (fun _ _ _ h=>h) (auz ⟨by rfl,by intro w;go_simp;rfl⟩) ?_;refine wpAny_take (i:=3) (v:=_) rfl (by kernel_rfl) (by kernel_rfl) (by kernel_rfl) (fun _ _ _ h=>h) (auz ⟨by rfl,by intro w;go_simp;rfl⟩) ?_;refine wpAny_ready (rs:=[2,4]) (by kernel_rfl) (by simp) (auk rfl (fun K fy=> ?_) (auk rfl (fun K fy=> ?_) auV))
     ·go_simp
      refine fy _ _ ?_;clear fy K;refine wpAny_ready (rs:=[4]) (by kernel_rfl) (by simp) (auk rfl (fun K fy=> ?_) auV)
      go_simp;go_at_call 69;refine ca.mono ?_;rintro e fo ⟨rfl,gZ⟩
      exact ⟨rfl,oV _ gZ⟩
     ·go_simp;go_at_call 69;refine ca.mono ?_;rintro e fo ⟨rfl,gZ⟩
      exact ⟨rfl,oV _ gZ⟩
    |some p=>
     obtain ⟨jl,m9⟩:=p;have ca:Calls Tryz.prog 69 #[.pointer (as4 ⟨bf,0,as6⟩)] wr.drew (pE bf b (.string ⟨jl.toArray⟩) m9 wr.drew):=(F9 bf b _ _ gJ.rd).mono (by
      rintro e fo (⟨rf,va,eE,aN⟩|⟨eE,_⟩)
      ·rw[bb] at eE;cases eE;exact aN
      ·rw[bb] at eE;cases eE)
     go_upto_region 11 with fail
     go_region_law (first
      |(go_simp;go_at_call 69;refine ca.mono ?_;rintro e fo ⟨rfl,gZ,su⟩;have k8:=gJ.call gZ su;have D9:=k8.cell;have Nu:=k8.bi;have jt:=fun o:Obj=>(k8.alloc o).cell)
      |(refine FV rfl _ _ 24 rfl (w.heap.size+2) 9 (.string ⟨#[]⟩) 1 16 aee Tryz.underlying24 rfl (by omega) v k (xs.map na) (by rfl) ((bN.keep (fun c ah=>gZ.heap c (by omega))).alloc _).1 ⟨fo.heap.size,0,as6⟩ 1 1 [.string ⟨jl.toArray⟩] (by rfl) rfl (ER fo 9 _ _ rfl _ rfl) (by simp[au7]) (by omega) (by simp[maxLen];omega) (by omega) (k8.alloc _).size ?_;intro eG c5 kt yr yo;have k9:=(k8.alloc (.cells #[.string ⟨jl.toArray⟩] 9)).grown yo bN.aS;have MI:=k9.cell;have Nv:=k9.bi)
      |fail)
     all_goals
      go_wp2
      go_roundw
      case rel=>exact ⟨k+1,xs++[jl],m9,_,by go_num,cV.step bS bb,by rw[List.map_append];exact Own.keep ⟨yr,fun e=>by omega⟩ yM,k9.put 9 _⟩
      case measure=>simp[intOf];omega
   ·have nD:k=hp:=by have:=cV.le;omega
    subst nD
    go_upto_region 33 with fail
    refine uS a1 ?_ ?_ ?_ ?_
    ·rfl
    ·rfl
    ·exact (by decide:100<101)
    go_wp2
    refine uJ a1 rfl rfl ?_;simp only[gq,gF,dn,dz,dX,cV.done,atr,atD,atH,if_true,if_false];exact ⟨_,⟨dV,dV,v,dV,rfl,gB.nil,gB.nil,bN.ae yN,gB.nil⟩,uR a1⟩
 ·refine ⟨rfl, ?_⟩;simp only[gq,gF,dn,dz,dX,atr,atD,atH,if_true,if_false];exact ⟨trivial,(h9.put 8 _).jI ar⟩
 ·refine ⟨rfl, ?_⟩;simp only[gq,gF,dn,dz,atr,atD,atH,if_true,if_false];exact ⟨trivial,(g8.put 7 _).jI ar⟩
 ·refine ⟨rfl, ?_⟩;simp only[gq,gF,dn,atr,atD,atH,if_true,if_false];exact ⟨trivial,aE.jI ar⟩
end Go.W
end
section
namespace Go.W
open Go Go.Proofs Go.RowKit
def rN (s:fI):List as7:=[hh s.place,hh s.bQ]
set_option maxHeartbeats 4000000 in
set_option maxRecDepth 100000 in
theorem oa (bf b:Nat) (s:List UInt8) (w:World) (h:fa w bf b s) (gQ:bf<w.heap.size) (ag:b<w.heap.size):
  Calls Tryz.prog 41 #[.pointer (as4 ⟨bf,0,as6⟩), .int .i64 4] w (gq w bf b 4 s):=by
 have aE:=fR.start (.int .i64 4) rfl h gQ ag
 go_enter Tryz.func41,Tryz.ntmps41
 go_upto_region 23 with (go_at_call 40;refine (zq bf b _ _ aE.rd).mono ?_;rintro e my (⟨hp,m8,dX,rfl,ar,aF⟩|⟨dX,rfl,ar⟩);have hn:=aE.call ar aF;have oX:=hn.cell;have Ez:=hn.bi;have Ea:=hn.tw;have Ec:=hn.tD;simp only[hB] at oX)
 ·have M7:hp<256:=by
   cases o2:s with
   |nil=>rw[o2] at dX;cases dX
   |cons x r=>rw[o2] at dX;cases dX;exact x.toNat_lt
  go_loopw [70] (fun u wr=>∃(k:Nat) (xs:List fI) (r:List UInt8) (v:as7),u= .int .i64 k/\k0 oC hp m8 k xs r/\Own w wr 48 2 v k (xs.flatMap rN)/\fR w bf b #[.int .i64 4,cg,cg,cg,cg,dV,v,je,cg,dV,je,dV] r wr) (fun u _=>hp - (intOf u).toNat)
  case atStart=>
   exact ⟨0,[],m8,dV,rfl,k0.start,⟨⟨rfl, .inl ⟨rfl,rfl⟩⟩,fun _=>rfl⟩,hn⟩
  case round=>
   obtain ⟨k,xs,r,v,rfl,cV,bN,a1⟩:=hrel;by_cases bS:k<hp
   ·go_upto_region 25 with (go_at_call 68;refine (lr bf b _ _ a1.rd).mono ?_;rintro e fo (⟨jl,m9,eE,rfl,gZ,su⟩|⟨eE,rfl,gZ⟩))
    ·have gJ:=(a1.call gZ su).drew;have MJ:=gJ.cell;have Nw:=gJ.bi;have yd:Own w fo.drew 48 2 v k (xs.flatMap rN):=bN.keep (fun c ah=>gZ.heap c (by omega));cases bb:fK m9 with
     |none=>
      have ca:Calls Tryz.prog 68 #[.pointer (as4 ⟨bf,0,as6⟩)] fo.drew (mG bf fo.drew):=(lr bf b _ _ gJ.rd).mono (by
       rintro e fo (⟨jl,m9,eE,_⟩|⟨eE,aN⟩)
       ·rw[bb] at eE;cases eE
       ·exact aN)
      have bd:oC r=as6:=by simp only[oC,eE,bb,atr,atD]
      have oV:∀kt,fw bf fo.drew kt->gq w bf b 4 s (.panicked rO) kt:=fun kt mN=>by simp only[gq,gF,dX,cV.fail bS bd,atr,atD,atH,if_true,if_false,or_self];exact ⟨trivial,gJ.jI mN⟩
      refine wp_region_any (by kernel_rfl) ?_
      change wpAny _ _ _ _ _ _ _ (World.drew _)
      refine wpAny_take (i:=0) (v:=_) rfl (by kernel_rfl) (by kernel_rfl) (by kernel_rfl) (fun _ _ _ h=>h) (auz ⟨by rfl,by intro w;go_simp;rfl⟩) ?_;refine wpAny_take (i:=2) (v:=_) rfl (by kernel_rfl) (by kernel_rfl) (by kernel_rfl) (fun _ _ _ h=>h) (auz ⟨by rfl,by intro w;go_simp;rfl⟩) ?_;refine wpAny_take (i:=3) (v:=_) rfl (by kernel_rfl) (by kernel_rfl) (by kernel_rfl) (fun _ _ _ h=>h) (auz ⟨by rfl,by intro w;go_simp;rfl⟩) ?_;refine wpAny_ready (rs:=[1,4]) (by kernel_rfl) (by simp) (auk rfl (fun K fy=> ?_) (auk rfl (fun K fy=> ?_) auV))
      ·go_simp
       refine fy _ _ ?_;clear fy K;refine wpAny_ready (rs:=[4]) (by kernel_rfl) (by simp) (auk rfl (fun K fy=> ?_) auV)
       go_simp;go_at_call 68;refine ca.mono ?_;rintro e kt ⟨rfl,mN⟩
       exact ⟨rfl,oV _ mN⟩
      ·go_simp;go_at_call 68;refine ca.mono ?_;rintro e kt ⟨rfl,mN⟩
       exact ⟨rfl,oV _ mN⟩
     |some p=>
      obtain ⟨rf,va⟩:=p;have ca:Calls Tryz.prog 68 #[.pointer (as4 ⟨bf,0,as6⟩)] fo.drew (pE bf b (.int .i64 rf) va fo.drew):=(lr bf b _ _ gJ.rd).mono (by
       rintro e fo (⟨rf,va,eE,aN⟩|⟨eE,_⟩)
       ·rw[bb] at eE;cases eE;exact aN
       ·rw[bb] at eE;cases eE)
      have bd:oC r=as4 (fI.mk jl rf,va):=by simp only[oC,eE,bb,atr]
      go_region_law (first
       |(go_simp;go_at_call 68;refine ca.mono ?_;rintro e kt ⟨rfl,mN,adJ⟩;have k9:=gJ.call mN adJ;have MI:=k9.cell;have Nv:=k9.bi;have jt:=fun o:Obj=>(k9.alloc o).cell)
       |(refine FV rfl _ _ 23 rfl (w.heap.size+2) 48 (.agg #[.int .i64 0, .int .i64 0]) 2 16 afg Tryz.underlying23 rfl (by omega) v k (xs.flatMap rN) (by rfl) ((yd.keep (fun c ah=>mN.heap c (by omega))).alloc _).1 ⟨kt.heap.size,0,as6⟩ 1 1 [.int .i64 jl, .int .i64 rf] (by rfl) rfl (ER kt 48 _ _ rfl _ rfl) (by simp[au7]) (by omega) (by simp[maxLen];omega) (by omega) (k9.alloc _).size ?_;intro gN c6 pu adm acJ;have MA:=(k9.alloc (.cells #[.int .i64 jl, .int .i64 rf] 48)).grown acJ bN.aS;have arJ:=MA.cell;have asn:=MA.bi)
       |fail)
      all_goals
       go_wp2
       go_roundw
       case rel=>exact ⟨k+1,xs++[fI.mk jl rf],va,_,by go_num,cV.step bS bd,by rw[List.flatMap_append];exact Own.keep ⟨adm,fun e=>by omega⟩ yM,MA.put 6 _⟩
       case measure=>simp[intOf];omega
    ·refine ⟨rfl, ?_⟩;have bd:oC r=as6:=by simp only[oC,eE,atD]
     simp only[gq,gF,dX,cV.fail bS bd,atr,atD,atH,if_true,if_false,or_self];exact ⟨trivial,a1.jI gZ⟩
   ·have nD:k=hp:=by have:=cV.le;omega
    subst nD
    go_upto_region 33 with fail
    refine uS a1 ?_ ?_ ?_ ?_
    ·rfl
    ·rfl
    ·exact (by decide:100<101)
    go_wp2
    refine uJ a1 rfl rfl ?_;simp only[gq,gF,dX,cV.done,atr,atD,atH,if_true,if_false,or_self];exact ⟨_,⟨dV,v,dV,dV,rfl,gB.nil,bN.ae yN,gB.nil,gB.nil⟩,uR a1⟩
 ·refine ⟨rfl, ?_⟩;simp only[gq,gF,dX,atr,atD,atH,if_true,if_false,or_self];exact ⟨trivial,aE.jI ar⟩
end Go.W
end
section
namespace Go.W
open Go Go.Proofs Go.RowKit
def l0:Array as7:=hB cg cg cg cg cg dV dV je cg dV je dV
theorem apA:l0.all (·.oneCell')=as5:=by simp[l0,hB,au7,dV,je,cg]
structure jV (g:Nat) (cs:Array as7) (x:as7) (w:World):Prop where
 a6:w.rangeAt g 0 cs.toList
 a9:cs.size=12
 bi:∀k,w.frozen? ⟨g,k,as6⟩=as9
 x3:w.cell? ⟨g+1,0,as6⟩=as4 x
 DO:w.frozen? ⟨g+1,0,as6⟩=as9
theorem jV.there {g:Nat} {cs:Array as7} {x:as7} {w:World} (h:jV g cs x w):w.there g 0 12:=fun j a0=>⟨by rw[h.a6 j (cs[j]'(by rw[h.a9];exact a0)) (by rw[au8,avU])];rfl,by rw[atB];exact h.bi j⟩
theorem jV.put {g:Nat} {cs ds:Array as7} {x:as7} {w:World} (h:jV g cs x w) (aQ:ds.size=12):jV g ds x (w.setCells g 0 ds.toList):=by
 have ag:(w.setCells g 0 ds.toList).heap[g+1]? =w.heap[g+1]? :=(fw.cells ds.toList 0 w (fw.refl g w)).heap (g+1) (Nat.succ_ne_self g);refine ⟨avX w g 0 _ (by rw[au4,aQ];exact h.there),aQ,fun k=>by rw[World.frozen?_setCells];exact h.bi k, ?_, ?_⟩
 ·exact (au6 (a:=⟨g+1,0,as6⟩) ag).trans h.x3
 ·rw[World.frozen?_setCells];exact h.DO
theorem jV.err {g:Nat} {cs:Array as7} {x y:as7} {w:World} (h:jV g cs x w):jV g cs y (w.setCell ⟨g+1,0,as6⟩ y):=by
 have ag:(w.setCell ⟨g+1,0,as6⟩ y).heap[g]? =w.heap[g]? :=Below.heap_setCell w _ _ g (by simp);refine ⟨fun j v ab=>(au6 (a:=⟨g,0+j,as6⟩) ag).trans (h.a6 j v ab),h.a9,fun k=>by rw[World.frozen?_setCell];exact h.bi k,World.cell?_setCell_same w _ _ h.x3,by rw[World.frozen?_setCell];exact h.DO⟩
theorem jV.keep {g:Nat} {cs:Array as7} {x:as7} {w w':World} (h:jV g cs x w) (U:w'.heap[g]? =w.heap[g]?) (aa:w'.heap[g+1]? =w.heap[g+1]?):jV g cs x w':=
 ⟨fun j v ab=>(au6 (a:=⟨g,0+j,as6⟩) U).trans (h.a6 j v ab),h.a9,fun k=>(World.frozen?_of_block (a:=⟨g,k,as6⟩) U).trans (h.bi k),(au6 (a:=⟨g+1,0,as6⟩) aa).trans h.x3,(World.frozen?_of_block (a:=⟨g+1,0,as6⟩) aa).trans h.DO⟩
theorem abe (e:Operand->as7) (d:Option Tmp) (ty:atc) (pos:String) (aa':Array Edge) (w:World):(execOp e {dst:=d,op:= .build 29 #[],type:=ty,pos:=pos,after:=aa',guard:=as6}).run Tryz.prog w= .ok (.value (.agg l0)) w:=by
 kernel_rfl
set_option maxHeartbeats 4000000 in
set_option maxRecDepth 100000 in
theorem TK {q:Nat} {ops:Array Oper} {t3:atc} {pd:String} {f3:Array Edge} {n:Int} {g:Nat} {cs:Array as7} {x:as7} {a:Act} {w:World} {Q:Exit->Act->World->Prop} (h:jV g cs x w) (e2:a.eval (.tmp q)= .pointer (as4 ⟨g+1,0,as6⟩))
  (hf:Q .normal a (w.setCell ⟨g+1,0,as6⟩ (.int .i64 n))):wpList Tryz.prog ops Q [{dst:=as6,op:= .store 40 (.tmp q) (.const (.int .i64 n)),type:=t3,pos:=pd,after:=f3,guard:=as6}] a w:=by
 have Ex:=h.x3;have yC:=h.DO;refine wpList_plain rfl fun K fy=> ?_;have ab1:=fy _ _ hf;clear fy;have vJ:a.tmps[q]?.getD undef= .pointer (as4 ⟨g+1,0,as6⟩):=by simpa[auq] using e2
 go_simp
 exact ab1
set_option maxHeartbeats 4000000 in
set_option maxRecDepth 100000 in
theorem JC {id d p q:Nat} {t1 t2 t3:atc} {iB iP pd:String} {f1 f2 f3:Array Edge} {n:Int} {g:Nat} {cs:Array as7} {x:as7} {a:Act} {w:World} {Q:Exit->Act->World->Prop} (h:jV g cs x w) (aL:a.eval (.tmp p)= .pointer (as4 ⟨g,0,as6⟩)) (bb:a.eval (.tmp q)= .pointer (as4 ⟨g+1,0,as6⟩)) (aQ:d<a.tmps.size) (U:p≠d) (aa:q≠d)
  (hf:Q .normal (a.put (as4 d) (.agg l0)) ((w.setCells g 0 l0.toList).setCell ⟨g+1,0,as6⟩ (.int .i64 n))):Code.wp Tryz.prog (.region id #[{dst:=as4 d,op:= .build 29 #[],type:=t1,pos:=iB,after:=f1,guard:=as6},{dst:=as6,op:= .store 29 (.tmp p) (.tmp d),type:=t2,pos:=iP,after:=f2,guard:=as6},{dst:=as6,op:= .store 40 (.tmp q) (.const (.int .i64 n)),type:=t3,pos:=pd,after:=f3,guard:=as6}] as9) Q a w:=by
 refine wp_region_list (wpList_plain rfl fun K fy=> ?_);unfold Oper.wp;rw[abe];refine fy _ _ ?_;clear fy K;have bt:(a.put (as4 d) (.agg l0)).eval (.tmp p)= .pointer (as4 ⟨g,0,as6⟩):=by rw[<-aL];simp[auq,Act.put,avY,Ne.symm U]
 have e2:(a.put (as4 d) (.agg l0)).eval (.tmp q)= .pointer (as4 ⟨g+1,0,as6⟩):=by rw[<-bb];simp[auq,Act.put,avY,Ne.symm aa]
 refine wpList_store_mid rfl 29 (.tmp p) (.tmp d) rfl g 0 l0 bt ?_ h.there (by kernel_rfl) apA ?_
 ·simp[auq,Act.put,aQ]
 ·exact TK (h.put rfl) e2 hf
def ZD:List PanicEntry:=[{v:= .iface 191 (.agg #[]),recovered:=as5}]
def JW (w:World) (g:Nat) (n:Int):World:=(w.setCells g 0 l0.toList).setCell ⟨g+1,0,as6⟩ (.int .i64 n)
set_option maxHeartbeats 4000000 in
set_option maxRecDepth 100000 in
theorem ahl (g:Nat) (cs:Array as7) (x:as7) (w:World) (h:jV g cs x w):
  CallsD Tryz.prog 39 #[.pointer (as4 ⟨g,0,as6⟩), .pointer (as4 ⟨g+1,0,as6⟩)] (.panicking rO) w fun e nS w'=>
   e= .returned (.tuple #[])/\nS= .panicking ZD/\w'=JW w g 10:=by
 refine callsD_of_wpS Tryz.func39 rfl fun Tv cs' hu=> ?_;apply wpS_seq;apply wpS_region;simp[wpOpsS,go_sem,recoverD,hu,Tryz.ntmps39,Exit.thenS,rO];refine wpS_cond (t:=as5) (by simp[auq,at0]) ?_;simp only[if_true];apply wpS_of_wp;refine JC h (by simp[auq]) (by simp[auq]) (by simp) (by omega) (by omega) ?_;simp_all [bodyPostS,results,Tryz.results39,ZD,Act.put,JW]
theorem aiD (g:Nat) (w:World):
  CallsD Tryz.prog 39 #[.pointer (as4 ⟨g,0,as6⟩), .pointer (as4 ⟨g+1,0,as6⟩)] .returning w fun e nS w'=>e= .returned (.tuple #[])/\nS= .returning/\w'=w:=by
 refine callsD_of_wpS Tryz.func39 rfl fun Tv cs hu=> ?_;apply wpS_seq;apply wpS_region;simp[wpOpsS,go_sem,recoverD,hu,Tryz.ntmps39,Exit.thenS];refine wpS_cond (t:=as9) (by simp[auq,at0]) ?_;simp only[Bool.false_eq_true,if_false];refine wpS_of_wp (wp_skip ?_);cases Tv;simp_all [bodyPostS,results,Tryz.results39]
theorem Yh {g:Nat} {cs:Array as7} {n:Int} {w:World} {Qm:Array as7} (h:jV g cs (.int .i64 n) w) (aa:Qm.getD 2 undef= .pointer (as4 ⟨g,0,as6⟩)) (ao:Qm.getD 3 undef= .pointer (as4 ⟨g+1,0,as6⟩)):
  (results Tryz.f17 Qm).run Tryz.prog w= .ok (.tuple #[.agg cs, .int .i64 n]) w:=by
 have ax:=run_loadVar_mid (P:=Tryz.prog) w g 0 29 cs.toList _ h.a6 Tryz.underlying29 rfl (by
  have aj:(Tryz.prog.info? 29).map (·.size)=as4 12:=by kernel_rfl
  rw[aj,au4,h.a9])
 have aF:=h.x3;rw[avd] at aa ao;simp[results,Tryz.results17,aa,ao,asAddr,atE,atK,ax,avl];simp[go_sem,aF]
end Go.W
end
section
namespace Go.W
open Go Go.Proofs Go.RowKit
def xD (w:World) (s:List UInt8) (e:Ending) (w':World):Prop:=∃cs,e= .returned (.tuple #[.agg cs, .int .i64 (hd s).2])/\tj w w' (hd s).1 cs/\ay.Grown w w'
theorem apm (bf b k:Nat) (s:List UInt8) (w:World) (h:fa w bf b s) (gQ:bf<w.heap.size) (ag:b<w.heap.size) (ar:1<=k/\k<=7):
  Calls Tryz.prog 41 #[.pointer (as4 ⟨bf,0,as6⟩), .int .i64 k] w (gq w bf b k s):=by
 obtain ⟨U,aa⟩:=ar
 match k,U,aa with
 |1,_,_=>exact abx bf b s w h gQ ag
 |2,_,_=>exact aby bf b s w h gQ ag
 |3,_,_=>exact abz bf b s w h gQ ag
 |4,_,_=>exact oa bf b s w h gQ ag
 |5,_,_=>exact abA bf b s w h gQ ag
 |6,_,_=>exact abB bf b s w h gQ ag
 |7,_,_=>exact abC bf b s w h gQ ag
def Ty (g:Nat):List Deferred:=[{target:= .fn (.func 39) #[.pointer (as4 ⟨g,0,as6⟩), .pointer (as4 ⟨g+1,0,as6⟩)],args:=#[]}]
theorem FM {g:Nat} {cs:Array as7} {n:Int} {w:World} {a:Act} {R:Ending->World->Prop} (h:jV g cs (.int .i64 n) w) (aa:a.tmps.getD 2 undef= .pointer (as4 ⟨g,0,as6⟩)) (ao:a.tmps.getD 3 undef= .pointer (as4 ⟨g+1,0,as6⟩)) (aQ:a.defers=Ty g)
  (ch:R (.returned (.tuple #[.agg cs, .int .i64 n])) w):bodyPostD Tryz.prog Tryz.f17 R .ret a w:=by
 show Leaves _ _ _ _ _ _ _;rw[aQ];refine leaves_cons (f:=39) (args:=#[.pointer (as4 ⟨g,0,as6⟩), .pointer (as4 ⟨g+1,0,as6⟩)]) (by simp) (by simp[go_sem]) ?_;refine (aiD g w).mono ?_;rintro e nS w' ⟨rfl,rfl,rfl⟩;exact ⟨_,Yh h aa ao,ch⟩
theorem O2 {g:Nat} {cs:Array as7} {x:as7} {w:World} {a:Act} {R:Ending->World->Prop} (h:jV g cs x w) (aa:a.tmps.getD 2 undef= .pointer (as4 ⟨g,0,as6⟩)) (ao:a.tmps.getD 3 undef= .pointer (as4 ⟨g+1,0,as6⟩)) (aQ:a.defers=Ty g)
  (ch:R (.returned (.tuple #[.agg l0, .int .i64 10])) (JW w g 10)):bodyPostD Tryz.prog Tryz.f17 R (.panic rO) a w:=by
 show Leaves _ _ _ _ _ _ _;rw[aQ];refine leaves_cons (f:=39) (args:=#[.pointer (as4 ⟨g,0,as6⟩), .pointer (as4 ⟨g+1,0,as6⟩)]) (by simp) (by simp[go_sem]) ?_;refine (ahl g cs x w h).mono ?_;rintro e nS w' ⟨rfl,rfl,rfl⟩;exact ⟨_,Yh (h.put (ds:=l0) rfl).err aa ao,ch⟩
theorem jV.ND {g:Nat} {cs:Array as7} {x:as7} {w w':World} (h:jV g cs x w) (k:fw (g+2) w w'):jV g cs x w':=h.keep (k.heap _ (by omega)) (k.heap _ (by omega))
theorem Mx {w dk g2:World} (G:ay.Grown w dk) (k:fw (w.heap.size+2) dk g2):ay.Grown w g2:=⟨k.os.trans G.os,k.tape.trans G.tape,k.output.trans G.output,by rw[k.size];exact G.size,fun c ah=>(k.heap c (by omega)).trans (G.heap c ah)⟩
theorem TW {w dk g2:World} (G:ay.Grown w dk) (k:De (w.heap.size+2) dk g2):ay.Grown w g2:=⟨k.os.trans G.os,k.tape.trans G.tape,k.output.trans G.output,atx G.size k.size,fun c ah=>(k.heap c (atu ah G.size) (by omega)).trans (G.heap c ah)⟩
theorem YM {w dk:World} {g k:Nat} {v:as7} (G:ay.Grown w dk) (a5:w.heap.size<=g):ay.Grown w (dk.setCell ⟨g,k,as6⟩ v):=⟨G.os,G.tape,G.output,by simpa[auZ] using G.size,fun c ah=>(Below.heap_setCell dk _ v c (by simp;omega)).trans (G.heap c ah)⟩
theorem Po {w dk:World} {g k:Nat} {vs:List as7} (G:ay.Grown w dk) (a5:w.heap.size<=g):ay.Grown w (dk.setCells g k vs):=by
 have k:=fw.cells vs k dk (fw.refl g dk);exact ⟨k.os.trans G.os,k.tape.trans G.tape,k.output.trans G.output,by rw[k.size];exact G.size,fun c ah=>(k.heap c (by omega)).trans (G.heap c ah)⟩
theorem wE {w ZF:World} {s:List UInt8} {n:Int} (aQ:hd s=(mK 0,n)) (G:ay.Grown w ZF):xD w s (.returned (.tuple #[.agg l0, .int .i64 n])) (JW ZF w.heap.size n):=
 ⟨l0,by rw[aQ],by rw[aQ];exact ⟨dV,dV,dV,dV,rfl,gB.nil,gB.nil,gB.nil,gB.nil⟩,YM (Po G (atk _)) (atG _)⟩
theorem gB.up {w kt pu Cs:World} {t:atc} {a9:Nat} {v:as7} {xs:List as7} (h:gB kt pu t a9 v xs) (aE:w.heap.size<=kt.heap.size) (ar:∀c,kt.heap.size<=c->Cs.heap[c]? =pu.heap[c]?):gB w Cs t a9 v xs:=by
 rcases h with h|⟨g,c,l,cs,U,aa,ao,aN,bI,eg,g7,jE⟩
 ·exact .inl h
 ·exact .inr ⟨g,c,l,cs,U,aa,ao,aN,bI,by omega,(ar g eg).trans g7,jE⟩
theorem tj.up {w kt pu Cs:World} {e:bw} {cs:Array as7} (h:tj kt pu e cs) (aE:w.heap.size<=kt.heap.size) (ar:∀c,kt.heap.size<=c->Cs.heap[c]? =pu.heap[c]?):tj w Cs e cs:=by
 obtain ⟨a,b,c,d,bg,U,aa,ao,aN⟩:=h;exact ⟨a,b,c,d,bg,U.up aE ar,aa.up aE ar,ao.up aE ar,aN.up aE ar⟩
set_option maxHeartbeats 4000000 in
set_option maxRecDepth 100000 in
theorem fR.NC {bR w w':World} {bf b:Nat} {cs:Array as7} {s:List UInt8} (h:fR bR bf b cs s w) (k:fw bR.heap.size w w'):De bf bR w':=⟨k.os.trans h.os,k.tape.trans h.tape,k.output.trans h.output,by have:=h.size;rw[k.size];omega,fun c ah a2=>(k.heap c (by omega)).trans (h.heap c ah a2)⟩
theorem W1 (n:Nat) (t:Bool) (au:t=as5↔(1<=n/\n<=7)) (w:World):Calls Tryz.prog 33 #[.int .i64 n] w fun e w'=>e= .returned (.bool t)/\w'=w:=by
 have g7:(n:Int)<=7↔n<=7:=by omega
 go_enter Tryz.func33,Tryz.ntmps33
 go_wp2
 ·go_ret
  refine ⟨?_,rfl⟩;show avT (.bool (decide (n<=7)))=_;have:decide (n<=7)=t:=by cases t<;>simp at au⊢<;>omega
  rw[this]
 ·go_ret
  refine ⟨?_,rfl⟩;show avT (.bool as9)=_;have:as9=t:=by cases t<;>simp at au⊢<;>omega
  rw[this]
def k6 (w:World) (v:as7):World:=((w.alloc (.cells l0 29)).alloc (.cells #[cg] 40)).alloc (.cells #[v] 111)
theorem YL (w:World) (v:as7):ay.Grown w (k6 w v)/\(k6 w v).heap.size=w.heap.size+3/\jV w.heap.size l0 cg (k6 w v)/\(k6 w v).heap[w.heap.size+2]? =as4 (.cells #[v] 111 (0,0)):=by
 have kN:ay.Grown w (k6 w v):=by refine ⟨rfl,rfl,rfl,by simp only[k6,h0,auH];omega,fun c ah=> ?_⟩;rw[k6,h0,h0,h0,l9 (by simp only[auH];omega),l9 (by simp only[auH];omega),l9 ah]
 have a2:(k6 w v).heap.size=w.heap.size+3:=by simp only[k6,h0,auH]
 have bg:(k6 w v).heap[w.heap.size]? =as4 (.cells l0 29 (0,0)):=by rw[k6,h0,h0,h0,l9 (by simp only[auH];omega),l9 (by simp only[auH];omega),auD,if_pos rfl]
 have U:(k6 w v).heap[w.heap.size+1]? =as4 (.cells #[cg] 40 (0,0)):=by rw[k6,h0,h0,h0,l9 (by simp only[auH];omega),auD,if_pos (by simp only[auH])]
 have aa:(k6 w v).heap[w.heap.size+2]? =as4 (.cells #[v] 111 (0,0)):=by rw[k6,h0,h0,h0,auD,if_pos (by simp only[auH])]
 exact ⟨kN,a2,⟨fun j v ab=>by unfold at6;rw[bg];simpa using ab,rfl,fun k=>by unfold au0;rw[bg];simp,by unfold at6;rw[U];rfl,by unfold au0;rw[U];simp⟩,aa⟩
set_option maxHeartbeats 4000000 in
set_option maxRecDepth 100000 in
theorem Pc (b o c:Nat) (s:List UInt8) (w:World) (aE:s.length<=c) (jZ:kZ w b o s) (ag:b<w.heap.size):Calls Tryz.prog 17 #[.slice (as4 ⟨b,o,as6⟩) s.length c] w (xD w s):=by
 have ac9:∀(fn:Fn) (first cap:Array as7) (w:World),(Instr.makeFunc fn first cap).run Tryz.prog w= .ok (.func fn first cap) w:=fun _ _ _ _=>rfl
 go_enter_defers Tryz.func17,Tryz.ntmps17
 obtain ⟨kN,a2,vQ,aa⟩:=YL w (.slice (as4 ⟨b,o,as6⟩) s.length c);have ch:fa (k6 w (.slice (as4 ⟨b,o,as6⟩) s.length c)) (w.heap.size+2) b s:=⟨o,c,by unfold at6;rw[aa];rfl,aE,fun i x aj=>(au6 (a:=⟨b,o+i,as6⟩) (kN.heap b ag)).trans (jZ i x aj),by unfold au0;rw[aa];simp,by omega⟩
 go_upto_region 4 with (go_at_call 40;refine (zq _ b s _ ch).mono ?_;rintro e g2 (⟨n,s2,q,rfl,ar,aF⟩|⟨q,rfl,ar⟩))
 ·have D5:=vQ.ND ar;have ya:=Mx kN ar;have ar8:g2.heap.size=w.heap.size+3:=ar.size.trans a2;by_cases a2:1<=n/\n<=7
  ·go_upto_region 6 with (go_at_call 33;refine (W1 n as5 (by simp[a2]) _).mono ?_;rintro e my ⟨rfl,rfl⟩)
   have a1:=apm (w.heap.size+2) b n s2 _ aF (by omega) (by omega) a2;unfold gq at a1;cases aQ:gF n s2 with
   |none=>
    simp only[aQ] at a1
    go_upto_region 7 with (go_at_call 41;refine a1.mono ?_;rintro e fo ⟨rfl,gZ⟩)
    refine O2 (D5.keep (gZ.heap _ (by omega) (by omega)) (gZ.heap _ (by omega) (by omega))) rfl rfl rfl (wE ?_ (TW ya gZ));simp only[hd,q,if_pos a2,aQ]
   |some p=>
    obtain ⟨v,r⟩:=p;simp only[aQ] at a1;have aj:(Tryz.prog.info? 29).map (·.size)=as4 12:=by kernel_rfl
    go_upto_region 7 with (first
     |(go_at_call 41;refine a1.mono ?_;rintro e fo ⟨cs,vU,rfl,kt,vO,mN⟩;have b6:=vO.a9;have UC:cs.all (·.oneCell')=as5:=avW.2 vO.one;have MS:=TW ya (vO.NC mN);have T5:=D5.keep ((vO.NC mN).heap _ (by omega) (by omega)) ((vO.NC mN).heap _ (by omega) (by omega)))
     |(refine wpList_store_mid rfl 29 (.tmp 2) (.tmp 18) rfl w.heap.size 0 cs rfl rfl (by rw[b6];exact T5.there) (by rw[aj,b6]) UC ?_))
    have qT:=T5.put b6;have MB:ay.Grown w (fo.setCells w.heap.size 0 cs.toList):=Po MS (atk _);have Eg:=fw.cells cs.toList 0 fo (fw.refl w.heap.size fo);have ab9:fa (fo.setCells w.heap.size 0 cs.toList) (w.heap.size+2) b r:=(vO.rd.other (mN.heap _ (by omega)) (mN.heap _ (by omega))).other (Eg.heap _ (by omega)) (Eg.heap _ (by omega));have acG:tj w (fo.setCells w.heap.size 0 cs.toList) v cs:=vU.up ya.size (fun c ah=>Eg.heap c (by omega));generalize fo.setCells w.heap.size 0 cs.toList=pu at*;obtain ⟨aew,c6,Qa,kW,lu,apV,apW⟩:=ab9;have asK:pu.cell? ⟨w.heap.size+1+1,0,as6⟩=as4 (.slice (as4 ⟨b,aew,as6⟩) r.length c6):=Qa;by_cases ax:0<r.length
    ·have gn:(0:Int)<(r.length:Int):=by omega
     go_upto_region 8 with fail
     refine JC qT rfl rfl (by exact (by decide:25<32)) (by decide) (by decide) ?_
     go_wp2
     refine FM (qT.put rfl).err rfl rfl rfl (wE ?_ MB);simp only[hd,q,if_pos a2,aQ,if_pos ax]
    ·have gn:r.length=0:=by omega
     obtain ⟨ts,pt,ds,n5,h3,bt,e2,xY,vJ⟩:=id acG;have acz:∃(p:Option Addr) (c:Nat),n5= .slice p v.data.length c:=by
      rcases vJ with ⟨U,aa⟩|⟨g,c,l,_,U,aa,_⟩
      ·exact ⟨as6,0,by rw[aa,List.map_eq_nil_iff.1 U];rfl⟩
      ·exact ⟨_,c,by rw[U];simp only[aus,auP] at aa;rw[aa]⟩
     obtain ⟨TE,TA,rfl⟩:=acz;have Mz:pu.cell? ⟨w.heap.size,11,as6⟩=as4 (.slice TE v.data.length TA):=by have:=qT.a6 11 (.slice TE v.data.length TA) (by rw[h3];rfl);simpa using this
     clear h3 bt e2 xY vJ;by_cases jE:8000<v.data.length
     ·have abU:(8000:Int)<(v.data.length:Int):=by omega
      go_upto_region 10 with fail
      refine JC qT rfl rfl (by exact (by decide:30<32)) (by decide) (by decide) ?_
      go_wp2
      refine FM (qT.put rfl).err rfl rfl rfl (wE ?_ MB);simp only[hd,q,if_pos a2,aQ,gn,auM,if_false,if_pos jE]
     ·have abU:¬(8000:Int)<(v.data.length:Int):=by omega
      go_upto_region 11 with fail
      refine wp_region_list (wpList_load_mid rfl 29 (.tmp 2) rfl w.heap.size 0 rfl cs.toList _ qT.a6 Tryz.underlying29 rfl (by rw[aj,au4,b6]) (wpList_store_mid rfl 29 (.tmp 2) (.tmp 31) rfl w.heap.size 0 cs ?_ ?_ (by rw[b6];exact qT.there) (by rw[aj,b6]) UC (TK (qT.put b6) ?_ ?_)))
      ·rfl
      ·rfl
      ·rfl
      go_wp2
      refine FM (qT.put b6).err rfl rfl rfl ?_;have sk:hd s=(v,0):=by simp only[hd,q,if_pos a2,aQ,gn,auM,if_false,if_neg jE]
      refine ⟨cs,by rw[sk], ?_,YM (Po MB (atk _)) (atG _)⟩;rw[sk];exact vU.up ya.size fun c ah=>(Below.heap_setCell _ _ _ c (by simp;omega)).trans (((fw.cells cs.toList 0 pu (fw.refl w.heap.size pu)).heap c (by omega)).trans (Eg.heap c (by omega)))
  ·go_upto_region 5 with (go_at_call 33;refine (W1 n as9 (by simp;omega) _).mono ?_;rintro e my ⟨rfl,rfl⟩)
   refine JC D5 rfl rfl (by exact (by decide:15<32)) (by decide) (by decide) ?_
   go_wp2
   refine FM (D5.put rfl).err rfl rfl rfl (wE ?_ ya);simp only[hd,q,if_neg a2]
 ·refine O2 (vQ.ND ar) rfl rfl rfl (wE ?_ (Mx kN ar));simp only[hd,q]
set_option maxHeartbeats 4000000 in
set_option maxRecDepth 100000 in
theorem api (bf:Nat) (p:Option Addr) (c:Nat) (w:World) (bg:w.cell? ⟨bf,0,as6⟩=as4 (.slice p 0 c)):Calls Tryz.prog 40 #[.pointer (as4 ⟨bf,0,as6⟩)] w (mG bf w):=by
 have ah:Calls Tryz.prog 67 #[.pointer (as4 ⟨bf,0,as6⟩), .int .i64 1] w (mG bf w):=by
  go_enter Tryz.func67,Tryz.ntmps67
  go_wp2
  exact ⟨rfl,rfl,fw.refl _ _⟩
 go_enter Tryz.func40,Tryz.ntmps40
 go_wp2_with (go_at_call 67;refine ah.mono ?_;rintro e w' ⟨rfl,ar⟩)
 exact ⟨rfl,rfl,ar⟩
set_option maxHeartbeats 4000000 in
set_option maxRecDepth 100000 in
theorem Xl (p:Option Addr) (c:Nat) (w:World):Calls Tryz.prog 17 #[.slice p 0 c] w (xD w []):=by
 have ac9:∀(fn:Fn) (first cap:Array as7) (w:World),(Instr.makeFunc fn first cap).run Tryz.prog w= .ok (.func fn first cap) w:=fun _ _ _ _=>rfl;obtain ⟨kN,a2,vQ,aa⟩:=YL w (.slice p 0 c)
 go_enter_defers Tryz.func17,Tryz.ntmps17
 go_upto_region 4 with (go_at_call 40;refine (api (w.heap.size+2) p c (k6 w (.slice p 0 c)) (by unfold at6;rw[aa];rfl)).mono ?_;rintro e g2 ⟨rfl,ar⟩)
 exact O2 (vQ.ND ar) rfl rfl rfl (wE rfl (Mx kN ar))
end Go.W
end
section
namespace Go.ay
noncomputable section
variable {P:atb} {D:Nat->Type} {X:et P D}
def PB (X:et P D) (d:ff D) (x:eA D d.ins) (args:List as7) (z:Nat->bm) (m:Mem) (fr:Nat->as7):Prop:=
 args.length=d.np/\(∀(i:Nat) (v:as7),args[i]? =as4 v->fr i=v)/\jU z m/\(∀p∈gu X d.ins x++d.fx,rel X.G z [] p.2 (fr p.1))
theorem aiL {d:ff D} {cp jW:List (aV D)} {O b2:List (aR D)} {x:eA D d.ins} {z:Nat->bm} {e m:Mem} {k:Option Nat} {vs args:List as7} (aw:bC X.G O z e m k vs) (cV:bp (rel X.G z vs) cp args) (hlen:cp.length=d.np)
  (bd:oU (jK 0 cp) d.ins O=as4 (jW,b2)) (ad:(d.fx.all fun p=>sh [] p.2 (eh (jK 0 cp) p.1))=as5) (ag:fP X [] b2 d.ins jW []=as4 x):
  ∃cv fr,Inv O b2/\dt e.next z cv/\bC X.G b2 cv e m k vs/\PB X d x args cv m fr:=by
 have a1:eK X z vs (jK 0 cp) (fun i=>args.getD i undef):=Fo cV fun j v a0=>by
  grind
 obtain ⟨cv,eO,aU,aO,bT⟩:=sI aw a1 bd;exact ⟨cv,_,eO,aU,aO,cV.length.symm.trans hlen,fun i v aj=>by grind,aO.aM.bi,ON (dc:=[]) (a1.mono aU.le fun _ _ h=>h) bT ag ad⟩
def mx (z:Nat->bm) (n:Nat) (B:bm):Nat->bm:=fun b=>if b=n then B else z b
theorem ZW.push {f np:Nat} {ins outs:List dr} {fx:List (Nat×aV D)} {kJ:List ResultVar} (F:eA D ins->Option (j4 D outs)) (an:∀y ck,mkOr X ck outs y=[])
  (ad:∀(x:eA D ins) (y:j4 D outs) (df:aV D) {z:Nat->bm} {m:Mem} {args:List as7} {fr:Nat->as7},F x=as4 y->u7 (w9 (gu X outs (fs outs y)) [] (ko lC kJ)) (ko lC kJ)=as4 df->
   PB X ⟨f,np,ins,fx,as6,0,outs,[],kJ,as9⟩ x args z m fr->∃B v,B.hv/\rel X.G (mx z m.next B) [] df v/\hi P f args.toArray m fun bH m'=>bH=v/\m'=m.push B):
  ih X ⟨f,np,ins,fx,as6,0,outs,[],kJ,as9⟩ (fun _=>F):=by
 intro cp O af K r z e m k vs args aw cV h;unfold ff.call at h;obtain ⟨hlen,h⟩:=fJ h;have hlen:=Nat.eq_of_beq_eq_true hlen;split at h
 ·rename_i jW b2 bd;obtain ⟨MQ,h⟩:=fJ h;split at h
  ·rename_i x ag;obtain ⟨y,aJ,h⟩:=bind_some h;split at h
   ·rename_i df tZ;rw[if_neg (by simp),an,List.append_nil] at h;obtain ⟨cv,fr,eO,aU,aO,bT⟩:=aiL aw cV hlen bd MQ ag;obtain ⟨B,v,ew,h1,sa⟩:=ad x y df aJ (by simpa[ff.ev] using tZ) bT;refine sa.mono ?_;rintro bH m' ⟨rfl,rfl⟩;have a4:dt m.next cv (mx cv m.next B):=⟨fun b ag=>if_neg (at7 (aO.aM.bi.hv ag).2),fun b ag=>if_neg (at7 ag)⟩
    have aM:dp (mx cv m.next B) e (m.push B) k:=⟨fun b ag=>by
     by_cases he:b=m.next
     ·subst he;have bt:mx cv m.next B m.next=B:=if_pos rfl;rw[bt,ew.mem];exact ⟨if_pos rfl,at4 _⟩
     ·have bt:mx cv m.next B b=cv b:=if_neg he;rw[bt] at ag⊢;exact (aO.aM.push B).bi b ag,(aO.aM.push B).dead,(aO.aM.push B).l8,(aO.aM.push B).next,(aO.aM.push B).kept⟩
    have fL:fD m (m.push B) as6:=⟨atG _,aM.dead,fun b ag _=>if_neg (at7 ag)⟩
    refine ⟨⟨_,vs,df,b2,eO,aU.trans (a4.xS aw.aM.next),fun _ _ h=>h,aO.call a4 fL aM rfl fun j o' a0=> .inl ⟨a0,fun _ v _=>eB.nH⟩,h1.mono (eM.refl _) fun i u hu=>(by cases hu),h⟩,fun bb=>(by cases bb),as6,fL.L0, .inl rfl⟩
   ·cases h
  ·cases h
 ·cases h
end
end Go.ay
end
section
namespace Go.ay
theorem asH {v:as7} (h:cQ v=as5) (j:bE):dD j v v:=m0 h
theorem Rel.row {P:atb} {j:bE} {m:Mem} {w w':World} (h:Rel P j m w) (G:Grown w w') {g cap a9:Nat} {cs:Array as7} {t:atc} {L:List as7} (a5:w'.heap[g]? =as4 (.cells cs t (0,0))) (hw:w.heap.size<=g)
  (a4:P.cellsOf t=a9) (U:cap*a9<=cs.size) (aa:L.length<=cap*a9) (ao:∀(i:Nat) (v:as7),L[i]? =as4 v->cs[i]? =as4 v) (aN:L.all cQ=as5):Post P j m w (j.up m.next ⟨g,cap,a9,0⟩) (m.push (.own L t)) w':=by
 have a2:=h.NN;have hle:=bE.Cp (e:=⟨g,cap,a9,0⟩) a2;have cB:n1 P j ⟨g,cap,a9,0⟩ w'.heap[g]? (.own L t):=⟨cs,(0,0),a5,fun i _ aj=>by simp at aj,a4,by simpa using U,aa,fun i v aj=>⟨v,by simpa using ao i v aj,m0 (atq.1 aN v (at3 aj))⟩⟩
 have bS:g<w'.heap.size:=(auI.1 a5).1;have fF:∀b x,j.up m.next ⟨g,cap,a9,0⟩ b=as4 x->b≠m.next->j b=as4 x:=fun b x ag ep=>by simpa[bE.up,ep] using ag
 have aE:∀x,j.up m.next ⟨g,cap,a9,0⟩ m.next=as4 x->x=⟨g,cap,a9,0⟩:=fun x ad=>by simpa[bE.up] using ad.symm
 have fV:∀b,b≠m.next->(m.push (.own L t)).aS b=m.aS b:=fun b ag=>by simp[Mem.push,ag]
 have qZ:(m.push (.own L t)).aS m.next= .own L t:=by simp[Mem.push]
 refine Post.of h ⟨fun b x ag=> ?_,fun b x ag=> ?_,fun b cR x ha ag ej an ax lh=> ?_⟩ ⟨G.os,G.tape,G.output,G.size,fun c ah _=>G.heap c ah⟩ (atG _) (fun b ag=>by simp[bE.up,at7 ag]) (fun b x ag gK=> ?_) (fun b ag an=>by rw[fV b (at7 ag)] at an;exact an) (fun b ag an=>by rw[fV b (at7 ag)] at an;exact an)
 ·by_cases ga:b=m.next
  ·subst ga;cases aE x ag;exact ⟨at4 _,bS⟩
  ·have:=h.lt b x (fF b x ag ga);exact ⟨Nat.lt_succ_of_lt this.1,atu this.2 G.size⟩
 ·by_cases ga:b=m.next
  ·subst ga;cases aE x ag;rw[qZ];exact cB.mono hle
  ·have jG:=fF b x ag ga;rw[fV b ga,G.heap _ (h.lt b x jG).2];exact (h.obj b x jG).mono hle
 ·by_cases ga:b=m.next
  ·by_cases lL:cR=m.next
   ·rw[ga,lL]
   ·subst ga;cases aE x ag;have:=(h.lt cR ha (fF cR ha ej lL)).2;simp only at lh;omega
  ·have jG:=fF b x ag ga;by_cases lL:cR=m.next
   ·subst lL;cases aE ha ej;have:=(h.lt b x jG).2;simp only at lh;omega
   ·rw[fV b ga] at an;rw[fV cR lL] at ax;exact h.inj b cR x ha jG (fF cR ha ej lL) an ax lh
 ·by_cases ga:b=m.next
  ·subst ga;cases aE x ag;exact .inl hw
  ·exact absurd (h.lt b x (fF b x ag ga)).1 (aut.2 gK)
theorem Rel.aeu {P:atb} {j:bE} {m:Mem} {w w':World} (h:Rel P j m w) (G:Grown w w') (X:bm):Post P j m w j (m.push X) w':=by
 have ep:∀b e,j b=as4 e->b≠m.next:=fun b e ag a2=>auM _ (a2▸(h.lt b e ag).1);have fV:∀b,b≠m.next->(m.push X).aS b=m.aS b:=fun b ag=>by simp[Mem.push,ag]
 refine Post.of h ⟨fun b x ag=>⟨Nat.lt_succ_of_lt (h.lt b x ag).1,atu (h.lt b x ag).2 G.size⟩,fun b x ag=> ?_,fun b cR x ha ag ej an ax lh=> ?_⟩ ⟨G.os,G.tape,G.output,G.size,fun c ah _=>G.heap c ah⟩ (atG _) (fun _ _=>rfl) (fun b x ag gK=>absurd (h.lt b x ag).1 (aut.2 gK)) (fun b ag an=>by rw[fV b (at7 ag)] at an;exact an) (fun b ag an=>by rw[fV b (at7 ag)] at an;exact an)
 ·rw[fV b (ep b x ag),G.heap _ (h.lt b x ag).2];exact h.obj b x ag
 ·rw[fV b (ep b x ag)] at an;rw[fV cR (ep cR ha ej)] at ax;exact h.inj b cR x ha ag ej an ax lh
end Go.ay
end
section
namespace Go.W
open Go Go.Proofs Go.RowKit Go.ay
def C3 (m:Mem) (s:List UInt8) (a:as7):Prop:=(a= .slice as6 0 0/\s=[])\/∃b off c,a= .slice (as4 ⟨b,off,as6⟩) s.length c/\(c<cF->s.length<=c)/\∀(i:Nat) (x:UInt8),s[i]? =as4 x->m.load b (off+i)=as4 (.int .u8 x.toNat)
theorem V6 {j:bE} {m:Mem} {w:World} (ch:Rel Tryz.prog j m w) {a ba:as7} (ab:cL j a ba) {s:List UInt8} (aY:C3 m s a):Calls Tryz.prog 17 #[ba] w (xD w s):=by
 rcases aY with ⟨rfl,rfl⟩|⟨b,off,c,rfl,ah,ax⟩
 ·rw[ab.kK];exact Xl as6 0 w
 ·obtain ⟨q,_,a0,bb⟩:=ab.slice;have a0:j b=as4 q:=a0;have jZ:kZ w q.aS (q.dS+off) s:=fun i x aj=>by
   obtain ⟨ba,U,aa⟩:=ch.load b q (off+i) _ a0 (ax i x aj);rw[y4 rfl aa,<-atY] at U;exact U
  have bS:=(ch.lt b q a0).2;have bg:∀p cap,s.length=0->Calls Tryz.prog 17 #[.slice p 0 cap] w (xD w s):=fun p cap h=>by obtain rfl:=aui h;exact Xl p cap w
  rcases bb with ⟨ag,rfl⟩|⟨_,_,hle,_,_,_,rfl⟩|⟨_,fW,_,rfl⟩|⟨_,fW,_,rfl⟩|⟨k,_,_,U,_,aa,_,_,_,rfl⟩
  ·exact Pc _ _ _ _ w (ah ag) jZ bS
  ·exact Pc _ _ _ _ w hle jZ bS
  ·exact bg _ _ fW
  ·exact bg _ _ fW
  ·exact Pc _ _ _ _ w (atx U aa) jZ bS
def j8 (n l:Nat):as7:=if l=0 then dV else .slice (as4 ⟨n,0,as6⟩) l cF
theorem FC {j:bE} {m:Mem} {w w':World} (ch:Rel Tryz.prog j m w) (G:ay.Grown w w') {t:atc} {a9:Nat} {bH:as7} {xs:List as7} (h:gB w w' t a9 bH xs) (a4:Tryz.prog.cellsOf t=a9) (aE:0<a9) (bd:xs.all cQ=as5) {l:Nat} (ax:xs.length=l*a9) {X:bm} (cB:xs≠[]->X= .own xs t):
  ∃bZ,Post Tryz.prog j m w bZ (m.push X) w'/\dD bZ (j8 m.next l) bH:=by
 rcases h with ⟨rfl,rfl⟩|⟨g,c,lk,cs,rfl,U,aa,ao,aN,bI,eg,g7,jE⟩
 ·refine ⟨j,ch.aeu G X, ?_⟩;have:l=0:=by rcases Nat.mul_eq_zero.1 ax.symm with h|h<;>omega
  rw[j8,if_pos this];rfl
 ·have e:lk=l:=Nat.eq_of_mul_eq_mul_right aE (U.trans ax);subst e;have ep:xs≠[]:=fun e=>by
   subst e;rcases Nat.mul_eq_zero.1 ax.symm with h|h<;>omega
  rw[cB ep];have nz:lk*a9<=c*a9:=Nat.mul_le_mul_right _ ao;refine ⟨_,ch.row G eg bI a4 g7 (by rw[ax];exact nz) jE bd, ?_⟩;rw[j8,if_neg (by omega)];refine ⟨⟨g,c,a9,0⟩,rfl,by simp[bE.up], .inr (.inl ⟨rfl,aE, ?_, ?_, ?_, ?_, ?_⟩)⟩
  ·simpa using ao
  ·unfold maxLen at aN;unfold cF;show c<_;omega
  ·simp
  ·simp
  ·simp
theorem gB.isNil {w w':World} {t:atc} {a9:Nat} {v:as7} (h:gB w w' t a9 v []) (aE:0<a9):v=dV:=by
 rcases h with ⟨_,h⟩|⟨_,_,l,_,_,U,aa,_⟩
 ·exact h
 ·have:=Nat.mul_pos aa aE;simp at U;omega
def DA (x:UInt8):as7:= .int .u8 x.toNat
def qQ (e:bw) (n:Nat):Array as7:=hB (hh e.kind) (hh e.bQ) (hh e.to) (hh e.count) (hh e.c0) (j8 n e.aP.length) (j8 n e.dd.length) (na e.order.name) (hh e.order.bQ) (j8 n e.order.cH.length) (na e.name) (j8 n e.data.length)
def iZ (e:bw):bm:=if e.aP≠[] then .own (e.aP.map hh) 3 else if e.dd≠[] then .own (e.dd.flatMap rN) 48 else if e.order.cH≠[] then .own (e.order.cH.map na) 9 else .own (e.data.map DA) 5
def Df (e:bw):Prop:=(e.dd=[]/\e.order.cH=[]/\e.data=[])\/(e.aP=[]/\e.order.cH=[]/\e.data=[])\/(e.aP=[]/\e.dd=[]/\e.data=[])\/(e.aP=[]/\e.dd=[]/\e.order.cH=[])
theorem aoz {k:Int} {b r:List UInt8} {e:bw} (h:gF k b=as4 (e,r)):Df e:=by
 unfold gF at h
 repeat' split at h
 all_goals
  simp only[Option.bind_eq_some_iff,Prod.exists] at h
 ·obtain ⟨_,_,_,_,_,_,_,_,_,h⟩:=h;cases h;exact .inr (.inr (.inr ⟨rfl,rfl,rfl⟩))
 ·obtain ⟨_,_,_,_,_,_,_,_,_,_,_,_,h⟩:=h;cases h;exact .inr (.inr (.inl ⟨rfl,rfl,rfl⟩))
 ·obtain ⟨_,_,_,_,_,_,_,_,_,_,_,_,h⟩:=h;cases h;exact .inl ⟨rfl,rfl,rfl⟩
 ·obtain ⟨_,_,_,_,_,_,h⟩:=h;cases h;exact .inr (.inl ⟨rfl,rfl,rfl⟩)
 ·obtain ⟨_,_,_,_,_,_,_,_,_,h⟩:=h;cases h;exact .inl ⟨rfl,rfl,rfl⟩
 ·obtain ⟨_,_,_,h⟩:=h;cases h;exact .inl ⟨rfl,rfl,rfl⟩
theorem Wt (s:List UInt8):Df (hd s).1:=by
 have bg:Df (mK 0):= .inl ⟨rfl,rfl,rfl⟩;unfold hd
 repeat' split
 all_goals first|exact bg|exact aoz (by assumption)
theorem Xz (l:List Int):(l.map hh).all cQ=as5:=atq.2 fun v ab=>by obtain ⟨x,_,rfl⟩:=atw.1 ab;rfl
theorem XA (l:List (List UInt8)):(l.map na).all cQ=as5:=atq.2 fun v ab=>by obtain ⟨x,_,rfl⟩:=atw.1 ab;rfl
theorem Xy (l:List UInt8):(l.map DA).all cQ=as5:=atq.2 fun v ab=>by obtain ⟨x,_,rfl⟩:=atw.1 ab;rfl
theorem XB (l:List fI):(l.flatMap rN).all cQ=as5:=atq.2 fun v ab=>by
 obtain ⟨x,_,h⟩:=List.mem_flatMap.1 ab;rcases ats.1 h with rfl|h
 ·rfl
 ·obtain rfl:=au2.1 h;rfl
theorem Yb (l:List fI):(l.flatMap rN).length=l.length*2:=by
 induction l with
 |nil=>rfl
 |cons a l aq=>rw[auO,aua,aq];show 2+_=_;rw[aun];omega
theorem asM {n:Nat} {aB:Type} {l:List aB} (h:l=[]):j8 n l.length=dV:=by subst h;rfl
theorem ai7 {j:bE} {m:Mem} {w w':World} (ch:Rel Tryz.prog j m w) (G:ay.Grown w w') {e:bw} {cs:Array as7} (U:Df e) (h:tj w w' e cs):∃bZ,Post Tryz.prog j m w bZ (m.push (iZ e)) w'/\bp (dD bZ) (qQ e m.next).toList cs.toList:=by
 have c5:Tryz.prog.cellsOf 5=1:=by kernel_rfl
 have c3:Tryz.prog.cellsOf 3=1:=by kernel_rfl
 have abg:Tryz.prog.cellsOf 9=1:=by kernel_rfl
 have abf:Tryz.prog.cellsOf 48=2:=by kernel_rfl
 obtain ⟨ts,pt,ds,n5,rfl,cG,dE,gf,ik⟩:=h;obtain ⟨cD,mv,to,l6,wt,jM,aM,⟨on,kF,kd⟩,kE,kM⟩:=e;have key:∀bZ,dD bZ (j8 m.next jM.length) ts->dD bZ (j8 m.next aM.length) pt->dD bZ (j8 m.next kd.length) ds->dD bZ (j8 m.next kM.length) n5->bp (dD bZ) (qQ ⟨cD,mv,to,l6,wt,jM,aM,⟨on,kF,kd⟩,kE,kM⟩ m.next).toList (hB (hh cD) (hh mv) (hh to) (hh l6) (hh wt) ts pt (na on) (hh kF) ds (na kE) n5).toList:=fun bZ iB iP pd ur=>⟨rfl,rfl,rfl,rfl,rfl,iB,iP,rfl,rfl,pd,rfl,ur,trivial⟩
 have ou:∀(bZ:bE),dD bZ (j8 m.next 0) dV:=fun bZ=>rfl;rcases U with ⟨rfl,rfl,rfl⟩|⟨rfl,rfl,rfl⟩|⟨rfl,rfl,rfl⟩|⟨rfl,rfl,rfl⟩
 ·obtain rfl:=dE.isNil (by omega);obtain rfl:=gf.isNil (by omega);obtain rfl:=ik.isNil (by omega);obtain ⟨bZ,p,q⟩:=FC ch G cG c3 (by omega) (Xz jM) (l:=jM.length) (by simp) (X:=iZ ⟨cD,mv,to,l6,wt,jM,[],⟨on,kF,[]⟩,kE,[]⟩) (fun ep=>by
   have:jM≠[]:=fun e=>ep (by rw[e];rfl);simp only[iZ,this,ne_eq,not_false_eq_true,if_true])
  exact ⟨bZ,p,key bZ q (ou bZ) (ou bZ) (ou bZ)⟩
 ·obtain rfl:=cG.isNil (by omega);obtain rfl:=gf.isNil (by omega);obtain rfl:=ik.isNil (by omega);obtain ⟨bZ,p,q⟩:=FC ch G dE abf (by omega) (XB aM) (l:=aM.length) (Yb aM) (X:=iZ ⟨cD,mv,to,l6,wt,[],aM,⟨on,kF,[]⟩,kE,[]⟩) (fun ep=>by
   have:aM≠[]:=fun e=>ep (by rw[e];rfl);simp only[iZ,this,ne_eq,not_false_eq_true,not_true,if_true,if_false];rfl)
  exact ⟨bZ,p,key bZ (ou bZ) q (ou bZ) (ou bZ)⟩
 ·obtain rfl:=cG.isNil (by omega);obtain rfl:=dE.isNil (by omega);obtain rfl:=ik.isNil (by omega);obtain ⟨bZ,p,q⟩:=FC ch G gf abg (by omega) (XA kd) (l:=kd.length) (by simp) (X:=iZ ⟨cD,mv,to,l6,wt,[],[],⟨on,kF,kd⟩,kE,[]⟩) (fun ep=>by
   have:kd≠[]:=fun e=>ep (by rw[e];rfl);simp only[iZ,this,ne_eq,not_false_eq_true,not_true,if_true,if_false])
  exact ⟨bZ,p,key bZ (ou bZ) (ou bZ) q (ou bZ)⟩
 ·obtain rfl:=cG.isNil (by omega);obtain rfl:=dE.isNil (by omega);obtain rfl:=gf.isNil (by omega);obtain ⟨bZ,p,q⟩:=FC ch G ik c5 (by omega) (Xy kM) (l:=kM.length) (by simp) (X:=iZ ⟨cD,mv,to,l6,wt,[],[],⟨on,kF,[]⟩,kE,kM⟩) (fun ep=>by
   simp only[iZ,ne_eq,not_true,if_false];rfl)
  exact ⟨bZ,p,key bZ (ou bZ) (ou bZ) (ou bZ) q⟩
theorem WA {j:bE} {a:as7} {hc:Array as7} (h:bp (cL j) (#[a]:Array as7).toList hc.toList):∃c,hc=#[c]/\cL j a c:=by
 obtain ⟨l⟩:=hc
 match l,h with
 |[c],⟨h,_⟩=>exact ⟨c,rfl,h⟩
 |_::_::_,⟨_,h⟩=>exact h.elim
 |[],h=>exact h.elim
theorem aoE (n l:Nat):g9 (n+1) (j8 n l):=by
 unfold j8;split
 ·trivial
 ·exact at4 n
theorem ai5 (e:bw) (n:Nat):o8 n (iZ e):=by
 unfold iZ
 repeat' split
 ·exact fun v ab=>qb (atq.1 (Xz _) v ab)
 ·exact fun v ab=>qb (atq.1 (XB _) v ab)
 ·exact fun v ab=>qb (atq.1 (XA _) v ab)
 ·exact fun v ab=>qb (atq.1 (Xy _) v ab)
theorem ai6 (e:bw) (n:Nat) (k:Int):low (n+1) (.tuple #[.agg (qQ e n), .int .i64 k]):=fun v ab=>by
 rcases ats.1 ab with rfl|ab
 ·intro u hu;simp only[qQ,hB,ats,au5,or_false] at hu;rcases hu with rfl|rfl|rfl|rfl|rfl|rfl|rfl|rfl|rfl|rfl|rfl|rfl<;>first|exact aoE _ _|trivial
 ·obtain rfl:=au2.1 ab;trivial
def DG (s:List UInt8) (n:Nat):as7:= .tuple #[.agg (qQ (hd s).1 n), .int .i64 (hd s).2]
theorem ajp {m:Mem} {s:List UInt8} {a:as7} (aY:C3 m s a):nt Tryz.prog 17 #[a] m (DG s m.next) (m.push (iZ (hd s).1)):=
 .any _ _ (atG _) (fun dO=>⟨ai6 _ _ _,dO.push (ai5 _ _)⟩) fun j w hc dO ch dW=>by obtain ⟨ba,rfl,ab⟩:=WA dW;refine (V6 ch ab aY).mono ?_;rintro e w' ⟨cs,rfl,vU,G⟩;obtain ⟨bZ,p,q⟩:=ai7 ch G (Wt s) vU;exact ⟨_,bZ,rfl,p,#[.agg cs, .int .i64 (hd s).2],rfl,⟨cs,rfl,q⟩,rfl,trivial⟩
theorem aiE {m:Mem} {s:List UInt8} {a:as7} (aY:C3 m s a) (U:(hd s).1.aP=[]) (aa:(hd s).1.dd=[]) (ao:(hd s).1.order.cH=[]) (aN:(hd s).1.data=[]):nt Tryz.prog 17 #[a] m (DG s m.next) m:=
 .any _ _ (atk _) (fun dO=>⟨fun v ab=>by
  rcases ats.1 ab with rfl|ab
  ·intro u hu;simp only[qQ,hB,U,aa,ao,aN,j8,List.length_nil,if_true,ats,au5,or_false] at hu;rcases hu with rfl|rfl|rfl|rfl|rfl|rfl|rfl|rfl|rfl|rfl|rfl|rfl<;>trivial
  ·obtain rfl:=au2.1 ab;trivial,dO⟩) fun j w hc dO ch dW=>by
  obtain ⟨ba,rfl,ab⟩:=WA dW;refine (V6 ch ab aY).mono ?_;rintro e w' ⟨cs,rfl,vU,G⟩;obtain ⟨ts,pt,ds,n5,rfl,cG,dE,gf,ik⟩:=vU;rw[U] at cG;rw[aa] at dE;rw[ao] at gf;rw[aN] at ik;obtain rfl:=cG.isNil (by omega);obtain rfl:=dE.isNil (by omega);obtain rfl:=gf.isNil (by omega);obtain rfl:=ik.isNil (by omega);refine ⟨_,j,rfl,ch.My G.os G.tape G.output G.size G.heap,#[.agg _, .int .i64 (hd s).2],rfl,⟨_,rfl, ?_⟩,rfl,trivial⟩;simp only[qQ,U,aa,ao,aN];exact ⟨rfl,rfl,rfl,rfl,rfl,rfl,rfl,rfl,rfl,rfl,rfl,rfl,trivial⟩
def DB (c:dP) (b:Nat):Nat->Nat->Option (List UInt8)
 |_,0=>as4 []
 |o,n+1=>match yF c b o,DB c b (o+1) n with
  |some (.int .u8 (.ofNat k)),as4 l=>if k<256 then as4 (auu k::l) else as6
  |_,_=>as6
theorem Xh {c:dP} {b:Nat}:∀{n o:Nat} {s:List UInt8},DB c b o n=as4 s->s.length=n/\∀(i:Nat) (x:UInt8),s[i]? =as4 x->c.mem.load b (o+i)=as4 (.int .u8 x.toNat)
 |0,o,s,h=>by cases h;exact ⟨rfl,fun i x aj=>by cases aj⟩
 |n+1,o,s,h=>by
  simp only[DB] at h;split at h
  ·rename_i k l U aa;split at h
   ·rename_i ar;cases h;obtain ⟨aU,aO⟩:=Xh aa;refine ⟨by rw[aun,aU],fun i x aj=> ?_⟩;cases i with
    |zero=>cases aj;rw[at2,Ph U];congr 2;show (k:Int)=((auu k).toNat:Int);rw[UInt8.toNat_ofNat_of_lt' ar]
    |succ i=>have:=aO i x aj;rw[<-this];congr 1;omega
   ·cases h
  ·cases h
def Ma (f:FuncId) (args:Array as7) (c:dP):Option as7:=
 if f=17 then (match args.toList with
  |[.slice (as4 ⟨b,o,as6⟩) l fU]=>(match DB c b o l with
   |some s=>(match hd s with
    |(e,n)=>if (decide (cF<=fU)||decide (l<=fU))=as5/\e.aP.isEmpty=as5/\e.dd.isEmpty=as5/\e.order.cH.isEmpty=as5/\e.data.isEmpty=as5 then as4 (DG s c.next) else as6)
   |none=>as6)
  |_=>as6) else as6
theorem ajo (f:FuncId) (args:Array as7) (c:dP) (v:as7) (h:Ma f args c=as4 v):nt Tryz.prog f args c.mem v c.mem:=by
 unfold Ma at h;split at h
 ·rename_i bd;subst bd;split at h
  ·rename_i b o l fU aY;obtain rfl:=tt aY;split at h
   ·rename_i s aE;obtain ⟨rfl,g⟩:=Xh aE;split at h;rename_i e n aQ;split at h
    ·rename_i ah;obtain ⟨ah,U,aa,ao,aN⟩:=ah;cases h;refine aiE (m:=c.mem) (.inr ⟨b,o,fU,rfl,fun ag=> ?_,g⟩) ?_ ?_ ?_ ?_
     ·simp only[Bool.or_eq_true,decide_eq_true_eq] at ah;omega
     all_goals
      rw[aQ];exact List.isEmpty_iff.1 (by assumption)
    ·cases h
   ·cases h
  ·cases h
 ·cases h
end Go.W
end
section
set_option maxRecDepth 1000000
namespace Go.W
open Go Go.ay Go.Proofs
noncomputable def wu:List Nat:=(List.range 382).filter fun f=>kS Tryz.prog f
theorem afA:∀f∈wu,kS Tryz.prog f=as5:=fun f bd=>(List.mem_filter.1 bd).2
noncomputable def R:Dg Tryz.prog where
 wu:=wu
 ok:=afA
 L8:=[]
 TD:=fun x ad=>(by cases ad)
 xs:=Ma
 ZI:=ajo
theorem agA:(match zB Tryz.prog R 1000000 14 #[] ⟨0, .e⟩ with|some (v,_)=>pQ 5 v (.bool as5)|none=>as9)=as5:=by kernel_rfl
theorem ahW (w:World) (au:lB Tryz.prog w):Calls Tryz.prog 14 #[] w fun e w'=>e= .returned (.bool as5)/\Grown w w':=by
 have h:=agA;split at h
 ·rename_i v c ah;obtain rfl:=Gc 5 _ _ h;exact ag2 (by kernel_rfl) R ah rfl w au
 ·cases h
end Go.W
end
section
set_option maxRecDepth 100000
set_option maxHeartbeats 1000000
namespace Go.W
open Go.ay Go.Proofs
noncomputable def hA:cr Int:=fT 3 [.int .i64] fun x=>(x,())
noncomputable def aaB:cr Bool:=fT 4 [.bool] fun x=>(x,())
noncomputable def nw:cr UInt8:=js 5
noncomputable def pH:cr (List UInt8):=fT 9 [.str] fun x=>(x,())
noncomputable def xN:cr (List Int):=fT 22 [.ae Int hA] fun x=>(x,())
noncomputable def qK:cr fI:=fT 48 [.int .i64, .int .i64] fun x=>(x.place,x.bQ,())
noncomputable def aat:cr (List fI):=fT 23 [.ae fI qK] fun x=>(x,())
noncomputable def aau:cr (List (List UInt8)):=fT 24 [.ae (List UInt8) pH] fun x=>(x,())
noncomputable def Dl:cr cb:=fT 26 [.str, .int .i64, .ae (List UInt8) pH] fun x=>(x.name,x.bQ,x.cH,())
noncomputable def aav:cr (List UInt8):=fT 27 [.ae UInt8 nw] fun x=>(x,())
noncomputable def aaw:cr bw:=fT 29 [.int .i64, .int .i64, .int .i64, .int .i64, .int .i64, .ae Int hA, .ae fI qK, .str, .int .i64, .ae (List UInt8) pH, .str, .ae UInt8 nw] fun x=>(x.kind,x.bQ,x.to,x.count,x.c0,x.aP,x.dd,x.order.name,x.order.bQ,x.order.cH,x.name,x.data,())
noncomputable def Dn:cr hI:=fT 64 [.str, .int .i64] fun x=>(x.name,x.length,())
noncomputable def aax:cr (List hI):=fT 32 [.ae hI Dn] fun x=>(x,())
noncomputable def Gn:cr en:=fT 117 [.int .i64, .int .i64, .int .i64, .int .i64, .int .i64] fun x=>(x.number,x.kind,x.a,x.b,x.c,())
noncomputable def aay:cr (List en):=fT 33 [.ae en Gn] fun x=>(x,())
noncomputable def Dm:cr gp:=fT 61 [.int .i64, .int .i64, .int .i64] fun x=>(x.speed,x.kA,x.kG,())
noncomputable def aaz:cr (List gp):=fT 34 [.ae gp Dm] fun x=>(x,())
noncomputable def aaA:cr du:=fT 36 [.ae hI Dn, .ae en Gn, .ae gp Dm, .int .i64, .int .i64] fun x=>(x.aP,x.rules,x.table,x.speed,x.kA,())
noncomputable def aaC:cr Int:=fT 40 [.int .i64] fun x=>(x,())
noncomputable def aaD:cr cx:=fT 59 [.ae Int hA, .int .i64] fun x=>(x.l,x.n,())
noncomputable def uW:cr b8:=fT 122 [.str, .int .i64, .int .i64, .int .i64, .int .i64, .int .i64, .bool, .str] fun x=>(x.number,x.length,x.jB,x.hQ,x.oR,x.lI,x.tE,x.dest,())
noncomputable def aaE:cr (List b8):=fT 67 [.ae b8 uW] fun x=>(x,())
noncomputable def aaF:cr (List (List Int)):=fT 68 [.ae (List Int) xN] fun x=>(x,())
noncomputable def aaG:cr (List cb):=fT 69 [.ae cb Dl] fun x=>(x,())
noncomputable def uX:cr eV:=fT 162 [.int .i64, .int .i64, .int .i64, .int .i64] fun x=>(x.ft,x.block,x.round,x.length,())
noncomputable def aaH:cr (List eV):=fT 70 [.ae eV uX] fun x=>(x,())
noncomputable def aaI:cr cS:=fT 72 [.ae eV uX, .int .i64] fun x=>(x.items,x.c0,())
noncomputable def aaJ:cr eW:=fT 74 [.int .i64, .ae Int hA] fun x=>(x.steps,x.hL,())
noncomputable def aaK:cr gY:=fT 76 [.int .i64, .ae Int hA, .ae Int hA] fun x=>(x.fA.steps,x.fA.hL,x.chain,())
noncomputable def aaL:cr fZ:=fT 78 [.ae Int hA, .ae eV uX, .int .i64, .int .i64, .ae Int hA, .ae Int hA, .int .i64, .ae Int hA, .int .i64] fun x=>(x.cu,x.ia.items,x.ia.c0,x.proof.fA.steps,x.proof.fA.hL,x.proof.chain,x.lead,x.aP,x.iQ,())
noncomputable def aaM:cr bL:=fT 80 [.ae b8 uW, .ae (List Int) xN, .ae cb Dl, .bool, .ae Int hA, .ae eV uX, .int .i64, .int .i64, .ae Int hA, .ae Int hA, .int .i64, .ae Int hA, .int .i64, .bool] fun x=>(x.cu,x.aP,x.cE,x.busy,x.bF.cu,x.bF.ia.items,x.bF.ia.c0,x.bF.proof.fA.steps,x.bF.proof.fA.hL,x.bF.proof.chain,x.bF.lead,x.bF.aP,x.bF.iQ,x.dF,())
noncomputable def aer:List LT:=[.int .i64, .int .i64, .int .i64, .int .i64, .int .i64, .ae Int hA, .ae fI qK, .str, .int .i64, .ae (List UInt8) pH, .str, .ae UInt8 nw, .int .i64, .int .i64, .int .i64, .int .i64, .int .i64, .ae Int hA, .ae fI qK, .str, .int .i64, .ae (List UInt8) pH, .str, .ae UInt8 nw, .int .i64, .int .i64, .int .i64, .int .i64, .int .i64, .ae Int hA, .ae fI qK, .str, .int .i64, .ae (List UInt8) pH, .str, .ae UInt8 nw]
noncomputable def aaN:cr xJ:=fT 84 aer fun x=>(x.g5.kind,x.g5.bQ,x.g5.to,x.g5.count,x.g5.c0,x.g5.aP,x.g5.dd,x.g5.order.name,x.g5.order.bQ,x.g5.order.cH,x.g5.name,x.g5.data,x.cG.kind,x.cG.bQ,x.cG.to,x.cG.count,x.cG.c0,x.cG.aP,x.cG.dd,x.cG.order.name,x.cG.order.bQ,x.cG.order.cH,x.cG.name,x.cG.data,x.dE.kind,x.dE.bQ,x.dE.to,x.dE.count,x.dE.c0,x.dE.aP,x.dE.dd,x.dE.order.name,x.dE.order.bQ,x.dE.order.cH,x.dE.name,x.dE.data,())
noncomputable def Gq:cr dh:=fT 182 [.int .i64, .int .i64, .int .i64, .bool] fun x=>(x.oD,x.from_,x.to,x.front,())
noncomputable def aaO:cr (List dh):=fT 85 [.ae dh Gq] fun x=>(x,())
noncomputable def Gp:cr cZ:=fT 175 [.int .i64, .int .i64, .int .i64, .int .i64] fun x=>(x.item,x.reason,x.kx,x.round,())
noncomputable def aaP:cr (List cZ):=fT 86 [.ae cZ Gp] fun x=>(x,())
noncomputable def aaQ:cr fp:=fT 88 [.int .i64, .int .i64, .int .i64, .int .i64, .int .i64, .int .i64, .int .i64] fun x=>(x.length,x.jB,x.hQ,x.mJ,x.kG,x.required,x.oq,())
noncomputable def zA:cr jr:=fT 251 [.int .i64, .int .i64, .int .i64] fun x=>(x.stop,x.cu,x.TX,())
noncomputable def aaR:cr (List jr):=fT 89 [.ae jr zA] fun x=>(x,())
noncomputable def aaS:cr jh:=fT 91 [.str, .ae b8 uW, .int .i64, .int .i64, .int .i64, .int .i64, .int .i64, .int .i64, .int .i64, .ae jr zA] fun x=>(x.name,x.cu,x.gr.length,x.gr.jB,x.gr.hQ,x.gr.mJ,x.gr.kG,x.gr.required,x.gr.oq,x.xa,())
noncomputable def aaT:cr ec:=fT 93 [.int .i64, .ae dh Gq, .int .i64, .ae Int hA, .ae Int hA, .ae cZ Gp, .str, .ae b8 uW, .int .i64, .int .i64, .int .i64, .int .i64, .int .i64, .int .i64, .int .i64, .ae jr zA, .int .i64, .int .i64] fun x=>(x.err,x.vd,x.proof.fA.steps,x.proof.fA.hL,x.proof.chain,x.gb,x.final.name,x.final.cu,x.final.gr.length,x.final.gr.jB,x.final.gr.hQ,x.final.gr.mJ,x.final.gr.kG,x.final.gr.required,x.final.gr.oq,x.final.xa,x.er,x.place,())
noncomputable def apD:cr cC:=fT 105 [.ae UInt8 nw, .bool] fun x=>(x.b,x.bad,())
noncomputable def afp:List LT:=[.ae hI Dn, .ae en Gn, .ae gp Dm, .int .i64, .int .i64, .ae b8 uW, .ae (List Int) xN, .ae cb Dl, .bool, .ae Int hA, .ae eV uX, .int .i64, .int .i64, .ae Int hA, .ae Int hA, .int .i64, .ae Int hA, .int .i64, .bool, .int .i64, .int .i64, .int .i64, .int .i64, .int .i64, .ae Int hA, .ae fI qK, .str, .int .i64, .ae (List UInt8) pH, .str, .ae UInt8 nw, .int .i64, .ae dh Gq, .int .i64, .ae Int hA, .ae Int hA, .ae cZ Gp, .str, .ae b8 uW, .int .i64, .int .i64, .int .i64, .int .i64, .int .i64, .int .i64, .int .i64, .ae jr zA, .int .i64, .int .i64]
noncomputable def afa:cr bu:=fT 132 afp fun x=>(x.c.aP,x.c.rules,x.c.table,x.c.speed,x.c.kA,x.y.cu,x.y.aP,x.y.cE,x.y.busy,x.y.bF.cu,x.y.bF.ia.items,x.y.bF.ia.c0,x.y.bF.proof.fA.steps,x.y.bF.proof.fA.hL,x.y.bF.proof.chain,x.y.bF.lead,x.y.bF.aP,x.y.bF.iQ,x.y.dF,x.e.kind,x.e.bQ,x.e.to,x.e.count,x.e.c0,x.e.aP,x.e.dd,x.e.order.name,x.e.order.bQ,x.e.order.cH,x.e.name,x.e.data,x.r.err,x.r.vd,x.r.proof.fA.steps,x.r.proof.fA.hL,x.r.proof.chain,x.r.gb,x.r.final.name,x.r.final.cu,x.r.final.gr.length,x.r.final.gr.jB,x.r.final.gr.hQ,x.r.final.gr.mJ,x.r.final.gr.kG,x.r.final.gr.required,x.r.final.gr.oq,x.r.final.xa,x.r.er,x.r.place,())
noncomputable def afb:cr cO:=fT 169 [.ae eV uX, .ae Int hA, .ae (List Int) xN] fun x=>(x.items,x.homes,x.aP,())
noncomputable def afc:cr eD:=fT 240 [.int .i64, .int .i64] fun x=>(x.bQ,x.place,())
structure aar where
 aB:Type
 T:cr aB
 eb:aB->List as7
noncomputable def Ql:Nat->aar
 |3=>⟨Int,hA,UR .i64⟩
 |4=>⟨Bool,aaB,YO⟩
 |5=>⟨UInt8,nw,fun _=>[]⟩
 |9=>⟨(List UInt8),pH,aej⟩
 |22=>⟨(List Int),xN,fun _=>[]⟩
 |48=>⟨fI,qK,fun _=>[]⟩
 |23=>⟨(List fI),aat,fun _=>[]⟩
 |24=>⟨(List (List UInt8)),aau,fun _=>[]⟩
 |26=>⟨cb,Dl,fun _=>[]⟩
 |27=>⟨(List UInt8),aav,fun _=>[]⟩
 |29=>⟨bw,aaw,fun _=>[]⟩
 |64=>⟨hI,Dn,fun _=>[]⟩
 |32=>⟨(List hI),aax,fun _=>[]⟩
 |117=>⟨en,Gn,fun _=>[]⟩
 |33=>⟨(List en),aay,fun _=>[]⟩
 |61=>⟨gp,Dm,fun _=>[]⟩
 |34=>⟨(List gp),aaz,fun _=>[]⟩
 |36=>⟨du,aaA,fun _=>[]⟩
 |40=>⟨Int,aaC,UR .i64⟩
 |59=>⟨cx,aaD,fun _=>[]⟩
 |122=>⟨b8,uW,fun _=>[]⟩
 |67=>⟨(List b8),aaE,fun _=>[]⟩
 |68=>⟨(List (List Int)),aaF,fun _=>[]⟩
 |69=>⟨(List cb),aaG,fun _=>[]⟩
 |162=>⟨eV,uX,fun _=>[]⟩
 |70=>⟨(List eV),aaH,fun _=>[]⟩
 |72=>⟨cS,aaI,fun _=>[]⟩
 |74=>⟨eW,aaJ,fun _=>[]⟩
 |76=>⟨gY,aaK,fun _=>[]⟩
 |78=>⟨fZ,aaL,fun _=>[]⟩
 |80=>⟨bL,aaM,fun _=>[]⟩
 |84=>⟨xJ,aaN,fun _=>[]⟩
 |182=>⟨dh,Gq,fun _=>[]⟩
 |85=>⟨(List dh),aaO,fun _=>[]⟩
 |175=>⟨cZ,Gp,fun _=>[]⟩
 |86=>⟨(List cZ),aaP,fun _=>[]⟩
 |88=>⟨fp,aaQ,fun _=>[]⟩
 |251=>⟨jr,zA,fun _=>[]⟩
 |89=>⟨(List jr),aaR,fun _=>[]⟩
 |91=>⟨jh,aaS,fun _=>[]⟩
 |93=>⟨ec,aaT,fun _=>[]⟩
 |105=>⟨cC,apD,fun _=>[]⟩
 |132=>⟨bu,afa,fun _=>[]⟩
 |169=>⟨cO,afb,fun _=>[]⟩
 |240=>⟨eD,afc,fun _=>[]⟩
 |_=>⟨Bool,zz 4,YO⟩
noncomputable def D (t:Nat):Type:=(Ql t).aB
noncomputable def G:l5 D:=⟨fun t=>(Ql t).T,fun t=>(Ql t).eb⟩
noncomputable def aqa:dM Tryz.prog G 3:=gi [.int .i64] (fun (x:Int)=>(x,())) (fun (dw,_)=>(dw:Int)) (fun _=>rfl) (fun _=>rfl) Tryz.t3 rfl Tryz.type3 rfl rfl rfl rfl rfl
noncomputable def aqf:dM Tryz.prog G 4:=gi [.bool] (fun (x:Bool)=>(x,())) (fun (dw,_)=>(dw:Bool)) (fun _=>rfl) (fun _=>rfl) Tryz.t4 rfl Tryz.type4 rfl rfl rfl rfl rfl
noncomputable def aqi:dM Tryz.prog G 5:=aqD (fun (x:UInt8)=>x) (fun x=>x) (fun x=>x) (fun o=>by cases o<;>rfl) (fun _=>rfl) (fun _=>rfl) Tryz.t5 rfl rfl (fun _ _ _=>Iff.rfl) Tryz.type5 rfl rfl rfl
noncomputable def aqA:dM Tryz.prog G 9:=gi [.str] (fun (x:(List UInt8))=>(x,())) (fun (dw,_)=>(dw:(List UInt8))) (fun _=>rfl) (fun _=>rfl) Tryz.t9 rfl Tryz.type9 rfl rfl rfl rfl rfl
noncomputable def ap5:dM Tryz.prog G 22:=gi [.ae 3] (fun (x:(List Int))=>(x,())) (fun (dw,_)=>(dw:(List Int))) (fun _=>rfl) (fun _=>rfl) Tryz.t22 rfl Tryz.type22 rfl rfl rfl rfl rfl
noncomputable def aqh:dM Tryz.prog G 48:=gi [.int .i64, .int .i64] (fun (x:fI)=>(x.place,x.bQ,())) (fun (dw,aT,_)=>((fI.mk dw aT):fI)) (fun _=>rfl) (fun _=>rfl) Tryz.t48 rfl Tryz.type48 rfl rfl rfl rfl rfl
noncomputable def ap6:dM Tryz.prog G 23:=gi [.ae 48] (fun (x:(List fI))=>(x,())) (fun (dw,_)=>(dw:(List fI))) (fun _=>rfl) (fun _=>rfl) Tryz.t23 rfl Tryz.type23 rfl rfl rfl rfl rfl
noncomputable def ap7:dM Tryz.prog G 24:=gi [.ae 9] (fun (x:(List (List UInt8)))=>(x,())) (fun (dw,_)=>(dw:(List (List UInt8)))) (fun _=>rfl) (fun _=>rfl) Tryz.t24 rfl Tryz.type24 rfl rfl rfl rfl rfl
noncomputable def ap8:dM Tryz.prog G 26:=gi [.str, .int .i64, .ae 9] (fun (x:cb)=>(x.name,x.bQ,x.cH,())) (fun (dw,aT,a3,_)=>((cb.mk dw aT a3):cb)) (fun _=>rfl) (fun _=>rfl) Tryz.t26 rfl Tryz.type26 rfl rfl rfl rfl rfl
noncomputable def ap9:dM Tryz.prog G 27:=gi [.ae 5] (fun (x:(List UInt8))=>(x,())) (fun (dw,_)=>(dw:(List UInt8))) (fun _=>rfl) (fun _=>rfl) Tryz.t27 rfl Tryz.type27 rfl rfl rfl rfl rfl
noncomputable def ap':dM Tryz.prog G 29:=gi [.int .i64, .int .i64, .int .i64, .int .i64, .int .i64, .ae 3, .ae 48, .str, .int .i64, .ae 9, .str, .ae 5] (fun (x:bw)=>(x.kind,x.bQ,x.to,x.count,x.c0,x.aP,x.dd,x.order.name,x.order.bQ,x.order.cH,x.name,x.data,())) (fun (dw,aT,a3,a7,bj,bq,bz,bO,b3,cf,b9,cA,_)=>((bw.mk dw aT a3 a7 bj bq bz (cb.mk bO b3 cf) b9 cA):bw)) (fun _=>rfl) (fun _=>rfl) Tryz.t29 rfl Tryz.type29 rfl rfl rfl rfl rfl
noncomputable def aql:dM Tryz.prog G 64:=gi [.str, .int .i64] (fun (x:hI)=>(x.name,x.length,())) (fun (dw,aT,_)=>((hI.mk dw aT):hI)) (fun _=>rfl) (fun _=>rfl) Tryz.t64 rfl Tryz.type64 rfl rfl rfl rfl rfl
noncomputable def aqb:dM Tryz.prog G 32:=gi [.ae 64] (fun (x:(List hI))=>(x,())) (fun (dw,_)=>(dw:(List hI))) (fun _=>rfl) (fun _=>rfl) Tryz.t32 rfl Tryz.type32 rfl rfl rfl rfl rfl
noncomputable def agD:dM Tryz.prog G 117:=gi [.int .i64, .int .i64, .int .i64, .int .i64, .int .i64] (fun (x:en)=>(x.number,x.kind,x.a,x.b,x.c,())) (fun (dw,aT,a3,a7,bj,_)=>((en.mk dw aT a3 a7 bj):en)) (fun _=>rfl) (fun _=>rfl) Tryz.t117 rfl Tryz.type117 rfl rfl rfl rfl rfl
noncomputable def aqc:dM Tryz.prog G 33:=gi [.ae 117] (fun (x:(List en))=>(x,())) (fun (dw,_)=>(dw:(List en))) (fun _=>rfl) (fun _=>rfl) Tryz.t33 rfl Tryz.type33 rfl rfl rfl rfl rfl
noncomputable def aqk:dM Tryz.prog G 61:=gi [.int .i64, .int .i64, .int .i64] (fun (x:gp)=>(x.speed,x.kA,x.kG,())) (fun (dw,aT,a3,_)=>((gp.mk dw aT a3):gp)) (fun _=>rfl) (fun _=>rfl) Tryz.t61 rfl Tryz.type61 rfl rfl rfl rfl rfl
noncomputable def aqd:dM Tryz.prog G 34:=gi [.ae 61] (fun (x:(List gp))=>(x,())) (fun (dw,_)=>(dw:(List gp))) (fun _=>rfl) (fun _=>rfl) Tryz.t34 rfl Tryz.type34 rfl rfl rfl rfl rfl
noncomputable def aqe:dM Tryz.prog G 36:=gi [.ae 64, .ae 117, .ae 61, .int .i64, .int .i64] (fun (x:du)=>(x.aP,x.rules,x.table,x.speed,x.kA,())) (fun (dw,aT,a3,a7,bj,_)=>((du.mk dw aT a3 a7 bj):du)) (fun _=>rfl) (fun _=>rfl) Tryz.t36 rfl Tryz.type36 rfl rfl rfl rfl rfl
noncomputable def aqg:dM Tryz.prog G 40:=gi [.int .i64] (fun (x:Int)=>(x,())) (fun (dw,_)=>(dw:Int)) (fun _=>rfl) (fun _=>rfl) Tryz.t40 rfl Tryz.type40 rfl rfl rfl rfl rfl
noncomputable def aqj:dM Tryz.prog G 59:=gi [.ae 3, .int .i64] (fun (x:cx)=>(x.l,x.n,())) (fun (dw,aT,_)=>((cx.mk dw aT):cx)) (fun _=>rfl) (fun _=>rfl) Tryz.t59 rfl Tryz.type59 rfl rfl rfl rfl rfl
noncomputable def agE:dM Tryz.prog G 122:=gi [.str, .int .i64, .int .i64, .int .i64, .int .i64, .int .i64, .bool, .str] (fun (x:b8)=>(x.number,x.length,x.jB,x.hQ,x.oR,x.lI,x.tE,x.dest,())) (fun (dw,aT,a3,a7,bj,bq,bz,bO,_)=>((b8.mk dw aT a3 a7 bj bq bz bO):b8)) (fun _=>rfl) (fun _=>rfl) Tryz.t122 rfl Tryz.type122 rfl rfl rfl rfl rfl
noncomputable def aqm:dM Tryz.prog G 67:=gi [.ae 122] (fun (x:(List b8))=>(x,())) (fun (dw,_)=>(dw:(List b8))) (fun _=>rfl) (fun _=>rfl) Tryz.t67 rfl Tryz.type67 rfl rfl rfl rfl rfl
noncomputable def aqn:dM Tryz.prog G 68:=gi [.ae 22] (fun (x:(List (List Int)))=>(x,())) (fun (dw,_)=>(dw:(List (List Int)))) (fun _=>rfl) (fun _=>rfl) Tryz.t68 rfl Tryz.type68 rfl rfl rfl rfl rfl
noncomputable def aqo:dM Tryz.prog G 69:=gi [.ae 26] (fun (x:(List cb))=>(x,())) (fun (dw,_)=>(dw:(List cb))) (fun _=>rfl) (fun _=>rfl) Tryz.t69 rfl Tryz.type69 rfl rfl rfl rfl rfl
noncomputable def agG:dM Tryz.prog G 162:=gi [.int .i64, .int .i64, .int .i64, .int .i64] (fun (x:eV)=>(x.ft,x.block,x.round,x.length,())) (fun (dw,aT,a3,a7,_)=>((eV.mk dw aT a3 a7):eV)) (fun _=>rfl) (fun _=>rfl) Tryz.t162 rfl Tryz.type162 rfl rfl rfl rfl rfl
noncomputable def aqp:dM Tryz.prog G 70:=gi [.ae 162] (fun (x:(List eV))=>(x,())) (fun (dw,_)=>(dw:(List eV))) (fun _=>rfl) (fun _=>rfl) Tryz.t70 rfl Tryz.type70 rfl rfl rfl rfl rfl
noncomputable def aqq:dM Tryz.prog G 72:=gi [.ae 162, .int .i64] (fun (x:cS)=>(x.items,x.c0,())) (fun (dw,aT,_)=>((cS.mk dw aT):cS)) (fun _=>rfl) (fun _=>rfl) Tryz.t72 rfl Tryz.type72 rfl rfl rfl rfl rfl
noncomputable def aqr:dM Tryz.prog G 74:=gi [.int .i64, .ae 3] (fun (x:eW)=>(x.steps,x.hL,())) (fun (dw,aT,_)=>((eW.mk dw aT):eW)) (fun _=>rfl) (fun _=>rfl) Tryz.t74 rfl Tryz.type74 rfl rfl rfl rfl rfl
noncomputable def aqs:dM Tryz.prog G 76:=gi [.int .i64, .ae 3, .ae 3] (fun (x:gY)=>(x.fA.steps,x.fA.hL,x.chain,())) (fun (dw,aT,a3,_)=>((gY.mk (eW.mk dw aT) a3):gY)) (fun _=>rfl) (fun _=>rfl) Tryz.t76 rfl Tryz.type76 rfl rfl rfl rfl rfl
noncomputable def aqt:dM Tryz.prog G 78:=gi [.ae 3, .ae 162, .int .i64, .int .i64, .ae 3, .ae 3, .int .i64, .ae 3, .int .i64] (fun (x:fZ)=>(x.cu,x.ia.items,x.ia.c0,x.proof.fA.steps,x.proof.fA.hL,x.proof.chain,x.lead,x.aP,x.iQ,())) (fun (dw,aT,a3,a7,bj,bq,bz,bO,b3,_)=>((fZ.mk dw (cS.mk aT a3) (gY.mk (eW.mk a7 bj) bq) bz bO b3):fZ)) (fun _=>rfl) (fun _=>rfl) Tryz.t78 rfl Tryz.type78 rfl rfl rfl rfl rfl
noncomputable def aqu:dM Tryz.prog G 80:=gi [.ae 122, .ae 22, .ae 26, .bool, .ae 3, .ae 162, .int .i64, .int .i64, .ae 3, .ae 3, .int .i64, .ae 3, .int .i64, .bool] (fun (x:bL)=>(x.cu,x.aP,x.cE,x.busy,x.bF.cu,x.bF.ia.items,x.bF.ia.c0,x.bF.proof.fA.steps,x.bF.proof.fA.hL,x.bF.proof.chain,x.bF.lead,x.bF.aP,x.bF.iQ,x.dF,())) (fun (dw,aT,a3,a7,bj,bq,bz,bO,b3,cf,b9,cA,cI,dg,_)=>((bL.mk dw aT a3 a7 (fZ.mk bj (cS.mk bq bz) (gY.mk (eW.mk bO b3) cf) b9 cA cI) dg):bL)) (fun _=>rfl) (fun _=>rfl) Tryz.t80 rfl Tryz.type80 rfl rfl rfl rfl rfl
noncomputable def aem:List iH:=[.int .i64, .int .i64, .int .i64, .int .i64, .int .i64, .ae 3, .ae 48, .str, .int .i64, .ae 9, .str, .ae 5, .int .i64, .int .i64, .int .i64, .int .i64, .int .i64, .ae 3, .ae 48, .str, .int .i64, .ae 9, .str, .ae 5, .int .i64, .int .i64, .int .i64, .int .i64, .int .i64, .ae 3, .ae 48, .str, .int .i64, .ae 9, .str, .ae 5]
noncomputable def aqv:dM Tryz.prog G 84:=gi aem (fun (x:xJ)=>(x.g5.kind,x.g5.bQ,x.g5.to,x.g5.count,x.g5.c0,x.g5.aP,x.g5.dd,x.g5.order.name,x.g5.order.bQ,x.g5.order.cH,x.g5.name,x.g5.data,x.cG.kind,x.cG.bQ,x.cG.to,x.cG.count,x.cG.c0,x.cG.aP,x.cG.dd,x.cG.order.name,x.cG.order.bQ,x.cG.order.cH,x.cG.name,x.cG.data,x.dE.kind,x.dE.bQ,x.dE.to,x.dE.count,x.dE.c0,x.dE.aP,x.dE.dd,x.dE.order.name,x.dE.order.bQ,x.dE.order.cH,x.dE.name,x.dE.data,())) (fun (dw,aT,a3,a7,bj,bq,bz,bO,b3,cf,b9,cA,cI,dg,dm,dq,dx,c9,cz,dT,eN,fi,ea,fe,fQ,fM,fX,gk,gW,gy,hT,gL,jf,jq,jw,h5,_)=>((xJ.mk (bw.mk dw aT a3 a7 bj bq bz (cb.mk bO b3 cf) b9 cA) (bw.mk cI dg dm dq dx c9 cz (cb.mk dT eN fi) ea fe) (bw.mk fQ fM fX gk gW gy hT (cb.mk gL jf jq) jw h5)):xJ)) (fun _=>rfl) (fun _=>rfl) Tryz.t84 rfl Tryz.type84 rfl rfl rfl rfl rfl
noncomputable def agJ:dM Tryz.prog G 182:=gi [.int .i64, .int .i64, .int .i64, .bool] (fun (x:dh)=>(x.oD,x.from_,x.to,x.front,())) (fun (dw,aT,a3,a7,_)=>((dh.mk dw aT a3 a7):dh)) (fun _=>rfl) (fun _=>rfl) Tryz.t182 rfl Tryz.type182 rfl rfl rfl rfl rfl
noncomputable def aqw:dM Tryz.prog G 85:=gi [.ae 182] (fun (x:(List dh))=>(x,())) (fun (dw,_)=>(dw:(List dh))) (fun _=>rfl) (fun _=>rfl) Tryz.t85 rfl Tryz.type85 rfl rfl rfl rfl rfl
noncomputable def agI:dM Tryz.prog G 175:=gi [.int .i64, .int .i64, .int .i64, .int .i64] (fun (x:cZ)=>(x.item,x.reason,x.kx,x.round,())) (fun (dw,aT,a3,a7,_)=>((cZ.mk dw aT a3 a7):cZ)) (fun _=>rfl) (fun _=>rfl) Tryz.t175 rfl Tryz.type175 rfl rfl rfl rfl rfl
noncomputable def aqx:dM Tryz.prog G 86:=gi [.ae 175] (fun (x:(List cZ))=>(x,())) (fun (dw,_)=>(dw:(List cZ))) (fun _=>rfl) (fun _=>rfl) Tryz.t86 rfl Tryz.type86 rfl rfl rfl rfl rfl
noncomputable def aqy:dM Tryz.prog G 88:=gi [.int .i64, .int .i64, .int .i64, .int .i64, .int .i64, .int .i64, .int .i64] (fun (x:fp)=>(x.length,x.jB,x.hQ,x.mJ,x.kG,x.required,x.oq,())) (fun (dw,aT,a3,a7,bj,bq,bz,_)=>((fp.mk dw aT a3 a7 bj bq bz):fp)) (fun _=>rfl) (fun _=>rfl) Tryz.t88 rfl Tryz.type88 rfl rfl rfl rfl rfl
noncomputable def agL:dM Tryz.prog G 251:=gi [.int .i64, .int .i64, .int .i64] (fun (x:jr)=>(x.stop,x.cu,x.TX,())) (fun (dw,aT,a3,_)=>((jr.mk dw aT a3):jr)) (fun _=>rfl) (fun _=>rfl) Tryz.t251 rfl Tryz.type251 rfl rfl rfl rfl rfl
noncomputable def aqz:dM Tryz.prog G 89:=gi [.ae 251] (fun (x:(List jr))=>(x,())) (fun (dw,_)=>(dw:(List jr))) (fun _=>rfl) (fun _=>rfl) Tryz.t89 rfl Tryz.type89 rfl rfl rfl rfl rfl
noncomputable def aqB:dM Tryz.prog G 91:=gi [.str, .ae 122, .int .i64, .int .i64, .int .i64, .int .i64, .int .i64, .int .i64, .int .i64, .ae 251] (fun (x:jh)=>(x.name,x.cu,x.gr.length,x.gr.jB,x.gr.hQ,x.gr.mJ,x.gr.kG,x.gr.required,x.gr.oq,x.xa,())) (fun (dw,aT,a3,a7,bj,bq,bz,bO,b3,cf,_)=>((jh.mk dw aT (fp.mk a3 a7 bj bq bz bO b3) cf):jh)) (fun _=>rfl) (fun _=>rfl) Tryz.t91 rfl Tryz.type91 rfl rfl rfl rfl rfl
noncomputable def aqC:dM Tryz.prog G 93:=gi [.int .i64, .ae 182, .int .i64, .ae 3, .ae 3, .ae 175, .str, .ae 122, .int .i64, .int .i64, .int .i64, .int .i64, .int .i64, .int .i64, .int .i64, .ae 251, .int .i64, .int .i64] (fun (x:ec)=>(x.err,x.vd,x.proof.fA.steps,x.proof.fA.hL,x.proof.chain,x.gb,x.final.name,x.final.cu,x.final.gr.length,x.final.gr.jB,x.final.gr.hQ,x.final.gr.mJ,x.final.gr.kG,x.final.gr.required,x.final.gr.oq,x.final.xa,x.er,x.place,())) (fun (dw,aT,a3,a7,bj,bq,bz,bO,b3,cf,b9,cA,cI,dg,dm,dq,dx,c9,_)=>((ec.mk dw aT (gY.mk (eW.mk a3 a7) bj) bq (jh.mk bz bO (fp.mk b3 cf b9 cA cI dg dm) dq) dx c9):ec)) (fun _=>rfl) (fun _=>rfl) Tryz.t93 rfl Tryz.type93 rfl rfl rfl rfl rfl
noncomputable def agC:dM Tryz.prog G 105:=gi [.ae 5, .bool] (fun (x:cC)=>(x.b,x.bad,())) (fun (dw,aT,_)=>((cC.mk dw aT):cC)) (fun _=>rfl) (fun _=>rfl) Tryz.t105 rfl Tryz.type105 rfl rfl rfl rfl rfl
noncomputable def afo:List iH:=[.ae 64, .ae 117, .ae 61, .int .i64, .int .i64, .ae 122, .ae 22, .ae 26, .bool, .ae 3, .ae 162, .int .i64, .int .i64, .ae 3, .ae 3, .int .i64, .ae 3, .int .i64, .bool, .int .i64, .int .i64, .int .i64, .int .i64, .int .i64, .ae 3, .ae 48, .str, .int .i64, .ae 9, .str, .ae 5, .int .i64, .ae 182, .int .i64, .ae 3, .ae 3, .ae 175, .str, .ae 122, .int .i64, .int .i64, .int .i64, .int .i64, .int .i64, .int .i64, .int .i64, .ae 251, .int .i64, .int .i64]
noncomputable def agF:dM Tryz.prog G 132:=gi afo (fun (x:bu)=>(x.c.aP,x.c.rules,x.c.table,x.c.speed,x.c.kA,x.y.cu,x.y.aP,x.y.cE,x.y.busy,x.y.bF.cu,x.y.bF.ia.items,x.y.bF.ia.c0,x.y.bF.proof.fA.steps,x.y.bF.proof.fA.hL,x.y.bF.proof.chain,x.y.bF.lead,x.y.bF.aP,x.y.bF.iQ,x.y.dF,x.e.kind,x.e.bQ,x.e.to,x.e.count,x.e.c0,x.e.aP,x.e.dd,x.e.order.name,x.e.order.bQ,x.e.order.cH,x.e.name,x.e.data,x.r.err,x.r.vd,x.r.proof.fA.steps,x.r.proof.fA.hL,x.r.proof.chain,x.r.gb,x.r.final.name,x.r.final.cu,x.r.final.gr.length,x.r.final.gr.jB,x.r.final.gr.hQ,x.r.final.gr.mJ,x.r.final.gr.kG,x.r.final.gr.required,x.r.final.gr.oq,x.r.final.xa,x.r.er,x.r.place,())) (fun (dw,aT,a3,a7,bj,bq,bz,bO,b3,cf,b9,cA,cI,dg,dm,dq,dx,c9,cz,dT,eN,fi,ea,fe,fQ,fM,fX,gk,gW,gy,hT,gL,jf,jq,jw,h5,jQ,gd,jR,jx,nf,mB,lZ,fj,mC,nU,qw,kY,rQ,_)=>((bu.mk (du.mk dw aT a3 a7 bj) (bL.mk bq bz bO b3 (fZ.mk cf (cS.mk b9 cA) (gY.mk (eW.mk cI dg) dm) dq dx c9) cz) (bw.mk dT eN fi ea fe fQ fM (cb.mk fX gk gW) gy hT) (ec.mk gL jf (gY.mk (eW.mk jq jw) h5) jQ (jh.mk gd jR (fp.mk jx nf mB lZ fj mC nU) qw) kY rQ)):bu)) (fun _=>rfl) (fun _=>rfl) Tryz.t132 rfl Tryz.type132 rfl rfl rfl rfl rfl
noncomputable def agH:dM Tryz.prog G 169:=gi [.ae 162, .ae 3, .ae 22] (fun (x:cO)=>(x.items,x.homes,x.aP,())) (fun (dw,aT,a3,_)=>((cO.mk dw aT a3):cO)) (fun _=>rfl) (fun _=>rfl) Tryz.t169 rfl Tryz.type169 rfl rfl rfl rfl rfl
noncomputable def agK:dM Tryz.prog G 240:=gi [.int .i64, .int .i64] (fun (x:eD)=>(x.bQ,x.place,())) (fun (dw,aT,_)=>((eD.mk dw aT):eD)) (fun _=>rfl) (fun _=>rfl) Tryz.t240 rfl Tryz.type240 rfl rfl rfl rfl rfl
noncomputable def aha:LC Tryz.prog G 48:=ahg [.int .i64, .int .i64] (fun (x:fI)=>(x.place,x.bQ,())) (fun (dw,aT,_)=>((fI.mk dw aT):fI)) (fun _=>rfl) _ (fun (x y:fI)=>decide (x=y)) rfl (fun (x y:fI)=>decide_eq_true_iff) Tryz.underlying48 (by kernel_rfl) (by kernel_rfl) (by kernel_rfl)
noncomputable def abd:QE Tryz.prog G 5:=⟨fun xs=>xs,fun xs=>xs,fun _ _ _ h=>h,fun _ _ _ _ _ _ h=>h,fun _ _ _ _ _ _ h=>h,Tryz.t5,Tryz.underlying5,Tryz.type5,rfl,fun _ _ _ _ h=>h⟩
noncomputable def ao':tk Tryz.prog G 22 3:=⟨fun xs=>xs,rfl,rfl,fun _ _ _ h=>⟨h,trivial⟩,Tryz.t22,Tryz.type22,rfl,rfl,rfl,Tryz.underlying22,rfl⟩
noncomputable def bB:et Tryz.prog D where
 G:=G
 I:=fun t=>match t with|3=>as4 aqa|4=>as4 aqf|5=>as4 aqi|9=>as4 aqA|22=>as4 ap5|48=>as4 aqh|23=>as4 ap6|24=>as4 ap7|26=>as4 ap8|27=>as4 ap9|29=>as4 ap'|64=>as4 aql|32=>as4 aqb|117=>as4 agD|33=>as4 aqc|61=>as4 aqk|34=>as4 aqd|36=>as4 aqe|40=>as4 aqg|59=>as4 aqj|122=>as4 agE|67=>as4 aqm|68=>as4 aqn|69=>as4 aqo|162=>as4 agG|70=>as4 aqp|72=>as4 aqq|74=>as4 aqr|76=>as4 aqs|78=>as4 aqt|80=>as4 aqu|84=>as4 aqv|182=>as4 agJ|85=>as4 aqw|175=>as4 agI|86=>as4 aqx|88=>as4 aqy|251=>as4 agL|89=>as4 aqz|91=>as4 aqB|93=>as4 aqC|105=>as4 agC|132=>as4 agF|169=>as4 agH|240=>as4 agK|_=>as6
 A:=fun _=>as6
 Lw:=fun _ _=>as6
 B:=fun t=>match t with|5=>as4 abd|_=>as6
 Q:=fun t=>match t with|48=>as4 aha|_=>as6
 N:=fun e t=>match e,t with|22,3=>as4 ao'|_,_=>as6
 TV:=as4 ⟨0,by kernel_rfl⟩
 F:=fun _ _ _=>as9
 C:=fun _ _ _ _ _=>as6
noncomputable def _root_.Go.ay.bX.u {P:atb} {D:Nat->Type} {bB:et P D} (T:bX bB) (fn:Func):dv T.a6 (hq fn):=dv.nil
noncomputable def tp (N:Nat):bX bB:=bX.nil
noncomputable def QU (N:Nat):bX bB:=(tp N).cj ⟨5,1,[.v 0 (.ae 3)],[],as6,0,[.o 2 (.box 59)],[(2, .box 0 0)],[.tmp 2],as9⟩ (fun r x=>Ln N x.1) (((tp N).u Tryz.f5).fn Tryz.func5)
noncomputable def RP (N:Nat):bX bB:=(QU N).cj ⟨10,2,[.v 1 (.int .i64)],[],as4 (0,59),2,[.v 4 (.int .i64), .u 0 (.recv 59)],[],[.tmp 4],as9⟩ (fun r x=>fN N r x.1) (((((QU N).u Tryz.f10).aM ⟨[1,1,0,1],[.o 0 (.recv 59), .v 5 (.int .i64), .v 11 .bool],[(0, .box 0 0)],[1],[⟨.normal,[.v 5 (.int .i64)],[]⟩],[0,1]⟩ fun x=>HK N x.1 x.2.1 x.2.2.1).aM ⟨[1,1,1,1,1,0,1],[.o 0 (.recv 59), .v 1 (.int .i64), .v 5 (.int .i64), .v 51 .bool],[(0, .box 0 0)],[1],[⟨.normal,[.v 5 (.int .i64)],[]⟩],[0]⟩ fun x=>HL N x.2.1 x.2.2.1 x.2.2.2.1).fn Tryz.func10)
noncomputable def R0 (N:Nat):bX bB:=(RP N).cj ⟨11,2,[.v 1 (.ae 3)],[],as4 (0,59),2,[.v 4 (.int .i64), .u 0 (.recv 59)],[],[.tmp 4],as9⟩ (fun r x=>iE N r x.1) (((RP N).u Tryz.f11).fn Tryz.func11)
noncomputable def Sb (N:Nat):bX bB:=(R0 N).cj ⟨21,1,[.v 0 (.int .i64)],[],as6,0,[.v 2 .str],[],[.tmp 2],as5⟩ (fun r x=>Kx N x.1) (((R0 N).u Tryz.f21).fn Tryz.func21)
noncomputable def Sl (N:Nat):bX bB:=(Sb N).cj ⟨22,1,[],[],as4 (0,59),2,[.o 2 (.ae 61), .u 0 (.recv 59)],[(2, .c (.own 1))],[.tmp 2],as9⟩ (fun r x=>Kn N r) ((((Sb N).u Tryz.f22).b4 N ⟨[1,1,0,1,0],[.o 0 (.recv 59), .o 3 (.ae 61), .v 4 (.int .i64)],[(0, .box 0 0),(3, .c (.own 1))],[2,0],[⟨.exit 0,[.u 0 (.recv 59), .o 3 (.ae 61)],[(3, .c (.own 2))]⟩],[0]⟩ fun n x=>AW N n x.1 x.2.1 x.2.2.1).fn Tryz.func22)
noncomputable def Sv (N:Nat):bX bB:=(Sl N).cj ⟨44,2,[.v 1 (.int .i64)],[],as4 (0,59),2,[.v 1000000 (.agg 117), .u 0 (.recv 59)],[],[.cell 4 117],as9⟩ (fun r x=>Kv N r x.1) ((((Sl N).u Tryz.f44).aM ⟨[1,1,0,1],[.o 0 (.recv 59), .o 4 (.box 117), .o 5 (.box 117), .v 12 (.int .i64)],[(0, .box 0 0),(4, .box 1 0),(5, .box 2 0)],[2,1,2],[⟨.normal,[.u 0 (.recv 59), .u 2 (.box 117)],[]⟩],[0,4,5]⟩ fun x=>Ig N x.1 x.2.2.1 x.2.2.2.1).fn Tryz.func44)
noncomputable def SG (N:Nat):bX bB:=(Sv N).cj ⟨23,2,[.v 1 (.int .i64)],[],as4 (0,59),2,[.o 4 (.ae 117), .u 0 (.recv 59)],[(4, .c (.own 1))],[.tmp 4],as9⟩ (fun r x=>Km N r x.1) ((((Sv N).u Tryz.f23).b4 N ⟨[1,1,0,1,0],[.o 0 (.recv 59), .o 5 (.ae 117), .v 6 (.int .i64)],[(0, .box 0 0),(5, .c (.own 1))],[2,0],[⟨.exit 0,[.u 0 (.recv 59), .o 5 (.ae 117)],[(5, .c (.own 2))]⟩],[0]⟩ fun n x=>AV N n x.1 x.2.1 x.2.2.1).fn Tryz.func23)
noncomputable def SN (N:Nat):bX bB:=(SG N).cj ⟨6,2,[.v 1 .bool],[],as4 (0,59),2,[.v 1000000 (.agg 36), .u 0 (.recv 59)],[],[.cell 4 36],as9⟩ (fun r x=>J9 N r x.1) ((((((SG N).u Tryz.f6).b4 N ⟨[1,1,0,1,0],[.o 0 (.recv 59), .o 4 (.box 36), .o 5 (.bM 36 [(0,3),(2,4)]), .v 6 (.int .i64), .o 2005000 (.ae 64), .o 2005002 (.ae 61)],[(0, .box 0 0),(4, .box 1 0),(5, .box 2 0)],[2,1,2,0,1],[⟨.exit 0,[.u 0 (.recv 59), .u 2 (.bM 36 [(0,5),(2,4)]), .o 2005000 (.ae 64)],[]⟩],[0,1,4,5]⟩ fun n x=>z6 N n x.1 x.2.2.1 x.2.2.2.1 x.2.2.2.2.1).aM ⟨[1,1,1,1,0,0],[.o 0 (.recv 59), .v 1 .bool, .o 4 (.box 36), .o 5 (.bM 36 [(0,3),(2,4)]), .o 2005000 (.ae 64), .o 2005002 (.ae 61)],[(0, .box 0 0),(4, .box 1 0),(5, .box 2 0)],[2,1,1,1,1],[⟨.normal,[.u 0 (.recv 59), .v 51 .bool],[]⟩],[0,4,5]⟩ fun x=>G3 N x.1 x.2.1).aM ⟨[1,1,1,1,0,1],[.o 0 (.recv 59), .o 4 (.box 36), .o 5 (.bM 36 [(0,3),(2,4)]), .v 51 .bool, .o 2005000 (.ae 64), .o 2005002 (.ae 61)],[(0, .box 0 0),(4, .box 1 0),(5, .box 2 0)],[2,1,2,0,0],[⟨.normal,[.u 0 (.recv 59), .u 2 (.bM 36 [(0,5),(2,6)]), .o 2005000 (.ae 64), .o 2005002 (.ae 61)],[]⟩],[0,4,5]⟩ fun x=>G4 N x.1 x.2.2.1 x.2.2.2.1 x.2.2.2.2.1 x.2.2.2.2.2.1).fn Tryz.func6)
noncomputable def SZ (N:Nat):bX bB:=(SN N).cj ⟨71,1,[.v 0 .str],[],as6,0,[.v 2 .bool],[],[.tmp 2],as5⟩ (fun r x=>vt N x.1) ((((((SN N).u Tryz.f71).aM ⟨[1,0,1,0,0,1,0,0,0],[.v 0 .str, .v 3 (.int .i64)],[],[],[⟨.normal,[.v 32 .bool],[]⟩],[0,3]⟩ fun x=>Jz N x.1 x.2.1).b4 N ⟨[1,0,1,0],[.v 0 .str, .v 3 (.int .i64)],[],[],[⟨.exit 0,[],[]⟩,⟨.ret,[.v 2 .bool],[]⟩],[0]⟩ fun n x=>Cd N x.1 n x.2.1).aM ⟨[1,1,0],[.v 0 .str],[],[],[⟨.normal,[.v 2 .bool],[]⟩],[]⟩ fun x=>JA N x.1).fn Tryz.func71)
noncomputable def QV (N:Nat):bX bB:=(SZ N).cj ⟨107,1,[.v 0 (.agg 117)],[],as6,0,[.v 2 .bool],[],[.tmp 2],as5⟩ (fun r x=>K5 N x.1) (((((SZ N).u Tryz.f107).aM ⟨[1,0,0],[.o 1 (.box 117)],[(1, .box 0 0)],[1],[⟨.normal,[.v 20 .bool],[]⟩],[1]⟩ fun x=>Jl N x.1).aM ⟨[1,1,0],[.o 1 (.box 117)],[(1, .box 0 0)],[1],[⟨.normal,[.v 2 .bool],[]⟩],[]⟩ fun x=>Jm N x.1).fn Tryz.func107)
noncomputable def Q2 (N:Nat):bX bB:=(QV N).cj ⟨72,1,[.v 0 (.ae 117)],[],as6,0,[.v 2 (.int .i64)],[],[.tmp 2],as5⟩ (fun r x=>CS N x.1) (((((QV N).u Tryz.f72).b4 N ⟨[1,1,0,1,0,0,1,0,0,1,1,0],[.v 0 (.ae 117), .v 3 (.int .i64), .v 4 (.int .i64)],[],[],[⟨.exit 2,[],[]⟩,⟨.ret,[.v 2 (.int .i64)],[]⟩],[0,3]⟩ fun n x=>B0 N x.1 x.2.1 n x.2.2.1).b4 N ⟨[1,1,0,1,0],[.v 0 (.ae 117), .v 3 (.int .i64)],[],[],[⟨.exit 0,[],[]⟩,⟨.ret,[.v 2 (.int .i64)],[]⟩],[]⟩ fun n x=>BZ N x.1 n x.2.1).fn Tryz.func72)
noncomputable def Rd (N:Nat):bX bB:=(Q2 N).cj ⟨73,1,[.v 0 (.ae 61)],[],as6,0,[.v 2 .bool],[],[.tmp 2],as5⟩ (fun r x=>CC N x.1) (((((Q2 N).u Tryz.f73).aM ⟨[1,1,0,1,0,0,1,0,0,0],[.v 0 (.ae 61), .v 3 (.int .i64)],[],[],[⟨.normal,[.v 58 .bool],[]⟩],[0,3]⟩ fun x=>G0 N x.1 x.2.1).b4 N ⟨[1,1,0,1,0],[.v 0 (.ae 61), .v 3 (.int .i64)],[],[],[⟨.exit 0,[],[]⟩,⟨.ret,[.v 2 .bool],[]⟩],[]⟩ fun n x=>z4 N x.1 n x.2.1).fn Tryz.func73)
noncomputable def Rm (N:Nat):bX bB:=(Rd N).cj ⟨45,1,[.v 0 (.agg 36)],[],as6,0,[.v 2 (.int .i64)],[],[.tmp 2],as5⟩ (fun r x=>CB N x.1) (((((((((Rd N).u Tryz.f45).aM ⟨[1,0],[.o 1 (.box 36)],[(1, .box 0 0)],[1],[⟨.normal,[.v 3 .bool],[]⟩],[1]⟩ fun x=>GV N x.1).aM ⟨[1,1,0,1,0,0,0,0],[.o 1 (.box 36), .v 3 .bool, .v 4 (.int .i64)],[(1, .box 0 0)],[1],[⟨.normal,[.v 44 .bool],[]⟩],[1,3,4]⟩ fun x=>GW N x.1 x.2.1 x.2.2.1).aM ⟨[1,1,0,1,0,0,1,0,0,0],[.o 1 (.box 36), .v 4 (.int .i64)],[(1, .box 0 0)],[1],[⟨.normal,[.v 3 .bool],[]⟩],[1,4]⟩ fun x=>GX N x.1 x.2.1).aM ⟨[1,1,0,1,0,0,1,0,0,1,1,0,0,1,0,0],[.o 1 (.box 36), .v 3 .bool, .v 4 (.int .i64), .v 5 (.int .i64)],[(1, .box 0 0)],[1],[⟨.normal,[.v 3 .bool],[]⟩],[1,4,5]⟩ fun x=>GY N x.1 x.2.1 x.2.2.1 x.2.2.2.1).b4 N ⟨[1,1,0,1,0,0,1,0,0,1,1,0],[.o 1 (.box 36), .v 3 .bool, .v 4 (.int .i64), .v 5 (.int .i64)],[(1, .box 0 0)],[1],[⟨.exit 2,[.v 3 .bool],[]⟩],[1,4]⟩ fun n x=>z3 N x.1 x.2.2.1 n x.2.1 x.2.2.2.1).b4 N ⟨[1,1,0,1,0],[.o 1 (.box 36), .v 3 .bool, .v 4 (.int .i64)],[(1, .box 0 0)],[1],[⟨.exit 0,[.v 3 .bool],[]⟩],[1]⟩ fun n x=>z2 N x.1 n x.2.1 x.2.2.1).fn Tryz.func45)
noncomputable def Rx (N:Nat):bX bB:=(Rm N).cj ⟨24,1,[.v 0 (.agg 36)],[],as6,0,[.v 1000000 (.agg 80), .v 3 (.int .i64)],[],[.cell 2 80, .tmp 3],as9⟩ (fun r x=>Lq N x.1) ((((Rm N).u Tryz.f24).b4 N ⟨[1,1,1,0,1,0],[.o 1 (.box 36), .o 2 (.box 80), .o 5 (.bM 80 [(1,3)]), .v 6 (.int .i64), .o 2005001 (.ae 22)],[(1, .box 0 0),(2, .box 1 0),(5, .box 2 0)],[1,1,2,0],[⟨.exit 0,[.u 2 (.bM 80 [(1,4)]), .o 2005001 (.ae 22)],[]⟩],[2,5]⟩ fun n x=>Bl N x.1 n x.2.2.1 x.2.2.2.1 x.2.2.2.2.1).fn Tryz.func24)
noncomputable def RF (N:Nat):bX bB:=(Rx N).cj ⟨46,1,[.v 0 (.agg 80)],[],as6,0,[.o 2 (.ae 3)],[(2, .c (.own 0))],[.tmp 2],as9⟩ (fun r x=>Kw N x.1) ((((((((Rx N).u Tryz.f46).aM ⟨[1,1,0,1,0,0,1,0,0,1,0,1,0,0,1,0,0],[.o 1 (.box 80), .o 3 (.ae 3), .o 4 (.ae 3), .v 5 (.int .i64), .v 6 .bool, .v 7 (.int .i64)],[(1, .box 0 0),(3, .c (.own 1)),(4, .c (.own 2))],[1,1,1],[⟨.normal,[.v 6 .bool],[]⟩],[1,3,4,5,7]⟩ fun x=>Ii N x.1 x.2.2.2.1 x.2.2.2.2.1 x.2.2.2.2.2.1).b4 N ⟨[1,1,0,1,0,0,1,0,0,1,0,1,0],[.o 1 (.box 80), .o 3 (.ae 3), .o 4 (.ae 3), .v 5 (.int .i64), .v 6 .bool, .v 7 (.int .i64)],[(1, .box 0 0),(3, .c (.own 1)),(4, .c (.own 2))],[1,1,1],[⟨.exit 2,[.v 6 .bool],[]⟩],[1,3,4,5]⟩ fun n x=>A1 N x.1 x.2.2.2.1 n x.2.2.2.2.1 x.2.2.2.2.2.1).aM ⟨[1,1,0,1,0,0,1,0,0,1,1,0],[.o 1 (.box 80), .o 3 (.ae 3), .o 4 (.ae 3), .v 5 (.int .i64), .v 6 .bool],[(1, .box 0 0),(3, .c (.own 1)),(4, .c (.own 2))],[1,1,1],[⟨.normal,[.v 43 .bool],[]⟩],[1,3,4,5,6]⟩ fun x=>Ij N x.1 x.2.2.2.1 x.2.2.2.2.1).aM ⟨[1,1,0,1,0,0,1,0],[.o 1 (.box 80), .o 3 (.ae 3), .o 4 (.ae 3), .v 5 (.int .i64)],[(1, .box 0 0),(3, .c (.own 1)),(4, .c (.own 2))],[1,0,0],[⟨.normal,[.o 3 (.ae 3), .o 4 (.ae 3)],[(3, .c (.own 3)),(4, .c (.own 4))]⟩],[1,5]⟩ fun x=>Ih N x.1 x.2.1 x.2.2.1 x.2.2.2.1).b4 N ⟨[1,1,0,1,0],[.o 1 (.box 80), .o 3 (.ae 3), .o 4 (.ae 3), .v 5 (.int .i64)],[(1, .box 0 0),(3, .c (.own 1)),(4, .c (.own 2))],[1,0,0],[⟨.exit 0,[.o 3 (.ae 3), .o 4 (.ae 3)],[(3, .c (.own 3)),(4, .c (.own 4))]⟩],[]⟩ fun n x=>A0 N x.1 n x.2.1 x.2.2.1 x.2.2.2.1).fn Tryz.func46)
noncomputable def RL (N:Nat):bX bB:=(RF N).cj ⟨108,2,[.v 1 (.int .i64)],[],as4 (0,59),2,[.v 4 .str, .u 0 (.recv 59)],[],[.tmp 4],as9⟩ (fun r x=>Ko N r x.1) ((((RF N).u Tryz.f108).b4 N ⟨[1,1,0,1,0],[.o 0 (.recv 59), .v 1 (.int .i64), .o 5 (.ae 5), .v 6 (.int .i64)],[(0, .box 0 0),(5, .c (.own 1))],[2,2],[⟨.exit 0,[.u 0 (.recv 59), .u 1 (.ae 5)],[]⟩],[0,5]⟩ fun n x=>AX N x.2.1 n x.1 x.2.2.1 x.2.2.2.1).fn Tryz.func108)
noncomputable def RM (N:Nat):bX bB:=(RL N).cj ⟨147,2,[.v 0 .str, .v 1 (.int .i64)],[],as6,0,[.v 4 .bool],[],[.tmp 4],as5⟩ (fun r x=>CK N x.1 x.2.1) (((((RL N).u Tryz.f147).aM ⟨[1,1,0,1,0,0,1,0,0,0],[.v 0 .str, .v 5 (.int .i64)],[],[],[⟨.normal,[.v 24 .bool],[]⟩],[0,1,5]⟩ fun x=>HM N x.1 x.2.1).b4 N ⟨[1,1,0,1,0],[.v 0 .str, .v 1 (.int .i64), .v 5 (.int .i64)],[],[],[⟨.exit 0,[],[]⟩,⟨.ret,[.v 4 .bool],[]⟩],[]⟩ fun n x=>Aq N x.1 x.2.1 n x.2.2.1).fn Tryz.func147)
noncomputable def RN (N:Nat):bX bB:=(RM N).cj ⟨148,2,[.v 0 .str, .v 1 (.int .i64)],[],as6,0,[.v 4 (.int .i64)],[],[.tmp 4],as5⟩ (fun r x=>C0 N x.1 x.2.1) (((((RM N).u Tryz.f148).aM ⟨[1,1,0,1,0,0,1,0,0,1,0,1],[.v 7 (.int .i64), .v 20 .bool],[],[],[⟨.normal,[.v 7 (.int .i64)],[]⟩],[0,1,5,6]⟩ fun x=>IC N x.1 x.2.1).b4 N ⟨[1,1,0,1,0],[.v 0 .str, .v 1 (.int .i64), .v 5 (.int .i64), .v 6 (.int .i64)],[],[],[⟨.exit 0,[.v 5 (.int .i64)],[]⟩],[]⟩ fun n x=>BL N x.1 x.2.1 n x.2.2.1 x.2.2.2.1).fn Tryz.func148)
noncomputable def RO (N:Nat):bX bB:=(RN N).cj ⟨109,1,[.v 0 .str],[],as6,0,[.v 2 (.int .i64), .v 3 (.int .i64)],[],[.tmp 2, .tmp 3],as5⟩ (fun r x=>KU N x.1) (((RN N).u Tryz.f109).fn Tryz.func109)
noncomputable def RQ (N:Nat):bX bB:=(RO N).cj ⟨74,2,[.v 1 (.int .i64)],[],as4 (0,59),2,[.v 4 .str, .u 0 (.recv 59)],[],[.tmp 4],as9⟩ (fun r x=>Kp N r x.1) (((RO N).u Tryz.f74).fn Tryz.func74)
noncomputable def RR (N:Nat):bX bB:=(RQ N).cj ⟨75,1,[],[],as4 (0,59),2,[.v 2 .str, .u 0 (.recv 59)],[],[.tmp 2],as9⟩ (fun r x=>KK N r) (((RQ N).u Tryz.f75).fn Tryz.func75)
noncomputable def RS (N:Nat):bX bB:=(RR N).cj ⟨47,2,[.v 1 (.int .i64)],[],as4 (0,59),2,[.v 1000000 (.agg 122), .u 0 (.recv 59)],[],[.cell 4 122],as9⟩ (fun r x=>Kz N r x.1) (((((RR N).u Tryz.f47).aM ⟨[1,1,0,1,0,0,1],[.o 0 (.recv 59), .o 4 (.box 122), .o 5 (.box 122), .v 26 (.int .u8), .v 27 .bool],[(0, .box 0 0),(4, .box 1 0),(5, .box 2 0)],[1,1,1],[⟨.normal,[.v 27 .bool],[]⟩],[0,4,5,26]⟩ fun x=>Il N x.2.2.2.1 x.2.2.2.2.1).aM ⟨[1,1,0,1],[.o 0 (.recv 59), .o 4 (.box 122), .o 5 (.box 122), .v 26 (.int .u8)],[(0, .box 0 0),(4, .box 1 0),(5, .box 2 0)],[1,1,2],[⟨.normal,[.u 2 (.box 122)],[]⟩],[0,4,5]⟩ fun x=>Ik N x.2.2.1 x.2.2.2.1).fn Tryz.func47)
noncomputable def RT (N:Nat):bX bB:=(RS N).cj ⟨202,1,[.v 0 .str],[],as6,0,[.v 2 (.int .i64)],[],[.tmp 2],as5⟩ (fun r x=>KV N x.1) (((RS N).u Tryz.f202).fn Tryz.func202)
noncomputable def RU (N:Nat):bX bB:=(RT N).cj ⟨149,1,[.v 0 .str],[],as6,0,[.v 2 (.int .i64), .v 3 (.int .i64)],[],[.tmp 2, .tmp 3],as5⟩ (fun r x=>Lc N x.1) (((((RT N).u Tryz.f149).aM ⟨[1,1,0,1,0,0,1],[.v 11 (.int .u8), .v 12 .bool],[],[],[⟨.normal,[.v 12 .bool],[]⟩],[11]⟩ fun x=>Jx N x.1 x.2.1).aM ⟨[1,1,0,1,0,1,1,0,1],[.v 11 (.int .u8), .v 15 .bool],[],[],[⟨.normal,[.v 15 .bool],[]⟩],[11]⟩ fun x=>Jy N x.1 x.2.1).fn Tryz.func149)
noncomputable def RV (N:Nat):bX bB:=(RU N).cj ⟨110,1,[.v 0 (.agg 122)],[],as6,0,[.v 2 (.int .i64)],[],[.tmp 2],as5⟩ (fun r x=>KX N x.1) (((((RU N).u Tryz.f110).aM ⟨[1,1,1,1,0,1],[.o 1 (.box 122), .v 5 (.int .i64), .v 6 (.int .i64), .v 16 (.int .i64)],[(1, .box 0 0)],[1],[⟨.normal,[.v 5 (.int .i64), .v 6 (.int .i64)],[]⟩],[1]⟩ fun x=>H5 N x.2.1 x.2.2.1 x.2.2.2.1).aM ⟨[1,1,1,1,1,0,0,1,1,0],[.o 1 (.box 122), .v 6 (.int .i64)],[(1, .box 0 0)],[1],[⟨.normal,[.v 26 .bool],[]⟩],[1]⟩ fun x=>H6 N x.1 x.2.1).fn Tryz.func110)
noncomputable def RW (N:Nat):bX bB:=(RV N).cj ⟨76,1,[.v 0 (.ae 122)],[],as6,0,[.v 2 (.int .i64)],[],[.tmp 2],as5⟩ (fun r x=>vn N x.1) (((((RV N).u Tryz.f76).b4 N ⟨[1,1,0,1,0,0,1,0,0,1,1,0],[.v 0 (.ae 122), .v 3 (.int .i64), .v 5 (.int .i64)],[],[],[⟨.exit 2,[],[]⟩,⟨.ret,[.v 2 (.int .i64)],[]⟩],[0,3]⟩ fun n x=>Aa N x.1 x.2.1 n x.2.2.1).b4 N ⟨[1,1,0,1,0],[.v 0 (.ae 122), .v 3 (.int .i64)],[],[],[⟨.exit 0,[],[]⟩,⟨.ret,[.v 2 (.int .i64)],[]⟩],[]⟩ fun n x=>z9 N x.1 n x.2.1).fn Tryz.func76)
noncomputable def RX (N:Nat):bX bB:=(RW N).cj ⟨77,1,[.v 0 (.ae 5)],[],as6,0,[.v 2 (.int .i64)],[],[.tmp 2],as5⟩ (fun r x=>CN N x.1) ((((RW N).u Tryz.f77).b4 N ⟨[1,1,0,1,0],[.v 0 (.ae 5), .v 3 (.int .i64), .v 4 (.int .i64)],[],[],[⟨.exit 0,[.v 3 (.int .i64)],[]⟩],[]⟩ fun n x=>AJ N x.1 n x.2.1 x.2.2.1).fn Tryz.func77)
noncomputable def RY (N:Nat):bX bB:=(RX N).cj ⟨48,1,[.v 0 (.ae 122)],[],as6,0,[.o 2 (.ae 5), .v 3 (.int .i64)],[(2, .c (.own 0))],[.tmp 2, .tmp 3],as9⟩ (fun r x=>KL N x.1) ((((((RX N).u Tryz.f48).b4 N ⟨[1,1,1,0,1,0,0,1,0,0,1,0,1,0],[.o 5 (.ae 5), .o 7 (.box 122), .v 8 (.int .i64)],[(5, .c (.own 0)),(7, .box 1 0)],[0,1],[⟨.exit 2,[.o 5 (.ae 5)],[(5, .c (.own 2))]⟩],[0,6,7]⟩ fun n x=>Au N x.2.1 n x.1 x.2.2.1).aM ⟨[1,1,1,0,1,0,0,1,0,0,1,1,1,0,1],[.o 5 (.ae 5), .o 7 (.box 122), .v 9 (.int .u8), .v 54 .bool],[(5, .c (.own 0)),(7, .box 1 0)],[1,1],[⟨.normal,[.v 9 (.int .u8)],[]⟩],[0,5,6,7]⟩ fun x=>HP N x.2.2.1 x.2.2.2.1).b4 N ⟨[1,1,1,0,1,0],[.v 0 (.ae 122), .o 5 (.ae 5), .v 6 (.int .i64)],[(5, .c (.own 0))],[0],[⟨.exit 0,[.o 5 (.ae 5)],[(5, .c (.own 1))]⟩],[]⟩ fun n x=>At N x.1 n x.2.1 x.2.2.1).fn Tryz.func48)
noncomputable def RZ (N:Nat):bX bB:=(RY N).cj ⟨12,2,[.v 1 .str],[],as4 (0,59),2,[.v 4 .str, .u 0 (.recv 59)],[],[.tmp 4],as9⟩ (fun r x=>Ky N r x.1) (((RY N).u Tryz.f12).fn Tryz.func12)
noncomputable def R1 (N:Nat):bX bB:=(RZ N).cj ⟨13,2,[.v 1 (.ae 5)],[],as4 (0,59),2,[.o 4 (.ae 5), .u 0 (.recv 59)],[(4, .c (.own 1))],[.tmp 4],as9⟩ (fun r x=>Cz N r x.1) (((RZ N).u Tryz.f13).fn Tryz.func13)
noncomputable def R2 (N:Nat):bX bB:=(R1 N).cj ⟨49,2,[.v 1 (.agg 36)],[],as4 (0,59),2,[.v 1000000 (.agg 26), .u 0 (.recv 59)],[],[.cell 4 26],as9⟩ (fun r x=>Kk N r x.1) ((((((R1 N).u Tryz.f49).aM ⟨[1,1,0,1,0,0,1,0],[.o 0 (.recv 59), .o 3 (.box 36), .o 4 (.box 26), .o 5 (.bM 26 [(2,4)]), .v 6 (.int .i64), .o 2005002 (.ae 9)],[(0, .box 0 0),(3, .box 1 0),(4, .box 2 0),(5, .box 3 0)],[2,1,1,2,0],[⟨.normal,[.u 0 (.recv 59), .u 3 (.bM 26 [(2,5)]), .o 2005002 (.ae 9)],[]⟩],[0,3,4,5,6]⟩ fun x=>GU N x.1 x.2.2.2.1 x.2.2.2.2.1 x.2.2.2.2.2.1).b4 N ⟨[1,1,0,1,0],[.o 0 (.recv 59), .o 3 (.box 36), .o 4 (.box 26), .o 5 (.bM 26 [(2,4)]), .v 6 (.int .i64), .o 2005002 (.ae 9)],[(0, .box 0 0),(3, .box 1 0),(4, .box 2 0),(5, .box 3 0)],[2,1,1,2,0],[⟨.exit 0,[.u 0 (.recv 59), .u 3 (.bM 26 [(2,5)]), .o 2005002 (.ae 9)],[]⟩],[0,3,4,5]⟩ fun n x=>AU N n x.1 x.2.2.2.1 x.2.2.2.2.1 x.2.2.2.2.2.1).aM ⟨[1,1,1,0,1],[.o 0 (.recv 59), .o 3 (.box 36), .o 4 (.box 26), .o 5 (.bM 26 [(2,4)]), .v 39 .bool, .o 2005002 (.ae 9)],[(0, .box 0 0),(3, .box 1 0),(4, .box 2 0),(5, .box 3 0)],[2,1,1,2,1],[⟨.normal,[.u 0 (.recv 59), .u 3 (.bM 26 [(2,4)])],[]⟩],[0,4,5]⟩ fun x=>H9 N x.1 x.2.1 x.2.2.2.1 x.2.2.2.2.1).fn Tryz.func49)
noncomputable def R3 (N:Nat):bX bB:=(R2 N).cj ⟨78,1,[.v 0 (.agg 80)],[],as6,0,[.v 2 (.int .i64)],[],[.tmp 2],as5⟩ (fun r x=>CL N x.1) (((R2 N).u Tryz.f78).fn Tryz.func78)
noncomputable def R4 (N:Nat):bX bB:=(R3 N).cj ⟨111,5,[.v 0 (.ae 26), .v 1 (.agg 162), .v 2 (.int .i64), .v 3 (.int .i64), .v 4 (.ae 3)],[],as6,0,[.v 10 (.int .i64)],[],[.tmp 10],as5⟩ (fun r x=>mD N x.1 x.2.1 x.2.2.1 x.2.2.2.1 x.2.2.2.2.1) ((((R3 N).u Tryz.f111).b4 N ⟨[1,0,1,0],[.v 2 (.int .i64), .v 4 (.ae 3), .o 6 (.box 162), .v 11 (.int .i64)],[(6, .box 0 0)],[1],[⟨.exit 0,[],[]⟩,⟨.ret,[.v 10 (.int .i64)],[]⟩],[0,6]⟩ fun n x=>AD N x.1 x.2.1 n x.2.2.2.1).fn Tryz.func111)
noncomputable def R5 (N:Nat):bX bB:=(R4 N).cj ⟨79,2,[.v 0 (.agg 80), .v 1 (.ae 3)],[],as6,0,[.o 4 (.ae 3)],[(4, .c (.own 0))],[.tmp 4],as9⟩ (fun r x=>CI N x.1 x.2.1) ((((((R4 N).u Tryz.f79).aM ⟨[1,1,1,0,1,0,0,1,0,0,1,0,0,1,0],[.v 1 (.ae 3), .o 2 (.box 80), .o 5 (.ae 3), .o 6 (.box 78), .v 7 (.int .i64), .v 8 (.int .i64)],[(2, .box 0 0),(5, .c (.own 1)),(6, .box 2 0)],[1,0,1],[⟨.normal,[.o 5 (.ae 3)],[(5, .c (.own 3))]⟩],[1,2,6,7,8]⟩ fun x=>Io N x.1 x.2.1 x.2.2.1 x.2.2.2.1 x.2.2.2.2.1 x.2.2.2.2.2.1).b4 N ⟨[1,1,1,0,1,0,0,1,0,0,1,0],[.v 1 (.ae 3), .o 2 (.box 80), .o 5 (.ae 3), .o 6 (.box 78), .v 7 (.int .i64), .v 8 (.int .i64)],[(2, .box 0 0),(5, .c (.own 1)),(6, .box 2 0)],[1,0,1],[⟨.exit 2,[.o 5 (.ae 3)],[(5, .c (.own 3))]⟩],[1,2,6,7]⟩ fun n x=>A6 N x.1 x.2.1 x.2.2.2.1 x.2.2.2.2.1 n x.2.2.1 x.2.2.2.2.2.1).b4 N ⟨[1,1,1,0,1,0],[.v 1 (.ae 3), .o 2 (.box 80), .o 5 (.ae 3), .o 6 (.box 78), .v 7 (.int .i64)],[(2, .box 0 0),(5, .c (.own 1)),(6, .box 2 0)],[1,0,1],[⟨.exit 0,[.o 5 (.ae 3)],[(5, .c (.own 3))]⟩],[]⟩ fun n x=>A5 N x.1 x.2.1 x.2.2.2.1 n x.2.2.1 x.2.2.2.2.1).fn Tryz.func79)
noncomputable def R6 (N:Nat):bX bB:=(R5 N).cj ⟨50,1,[.v 0 (.agg 80)],[],as6,0,[.v 2 (.int .i64), .v 3 (.ae 3), .o 4 (.ae 3), .v 5 (.int .i64)],[(4, .c (.own 0))],[.tmp 2, .tmp 3, .tmp 4, .tmp 5],as9⟩ (fun r x=>Lk N x.1) ((((R5 N).u Tryz.f50).aM ⟨[1,0,0],[.o 1 (.box 80)],[(1, .box 0 0)],[1],[⟨.normal,[.v 14 .bool],[]⟩],[1]⟩ fun x=>IZ N x.1).fn Tryz.func50)
noncomputable def R7 (N:Nat):bX bB:=(R6 N).cj ⟨25,4,[.v 1 (.agg 36), .v 2 (.agg 80), .v 3 (.int .i64)],[],as4 (0,59),2,[.v 1000000 (.agg 29), .u 0 (.recv 59)],[],[.cell 8 29],as9⟩ (fun r x=>CG N r x.1 x.2.1 x.2.2.1) ((((((((((((((((((R6 N).u Tryz.f25).aM ⟨[1,1,1,0,0,0],[.o 0 (.recv 59), .o 5 (.box 36), .o 6 (.box 80), .o 8 (.box 29), .o 9 (.ae 3), .o 10 (.bM 29 [(5,6),(6,7),(11,8)]), .o 2010005 (.ae 3), .o 2010006 (.ae 48), .o 2010011 (.ae 5)],[(0, .box 0 0),(5, .box 1 0),(6, .box 2 0),(8, .box 3 0),(9, .c (.own 4)),(10, .box 5 0)],[2,1,1,1,1,1,1,1,1],[⟨.normal,[.u 0 (.recv 59), .v 26 .bool],[]⟩],[0,3,5,6,8,9,10]⟩ fun x=>GL N x.1 x.2.2.1).aM ⟨[1,1,1,0,0,1,1,0],[.o 0 (.recv 59), .o 5 (.box 36), .o 6 (.box 80), .o 8 (.box 29), .o 9 (.ae 3), .o 10 (.bM 29 [(5,6),(6,7),(11,8)]), .o 2010005 (.ae 3), .o 2010006 (.ae 48), .o 2010011 (.ae 5)],[(0, .box 0 0),(5, .box 1 0),(6, .box 2 0),(8, .box 3 0),(9, .c (.own 4)),(10, .box 5 0)],[2,1,1,1,1,1,1,1,1],[⟨.normal,[.u 0 (.recv 59), .v 35 .bool],[]⟩],[0,3,5,6,8,9,10]⟩ fun x=>GM N x.1 x.2.2.1).aM ⟨[1,1,1,0],[.o 0 (.recv 59), .o 5 (.box 36), .o 6 (.box 80), .o 8 (.box 29), .o 9 (.ae 3), .o 10 (.bM 29 [(5,6),(6,7),(11,8)]), .o 2010005 (.ae 3), .o 2010006 (.ae 48), .o 2010011 (.ae 5)],[(0, .box 0 0),(5, .box 1 0),(6, .box 2 0),(8, .box 3 0),(9, .c (.own 4)),(10, .box 5 0)],[2,1,1,1,1,2,1,1,1],[⟨.normal,[.u 0 (.recv 59), .u 5 (.bM 29 [(5,6),(6,7),(11,8)])],[]⟩],[0,3,5,6,8,9,10]⟩ fun x=>GK N x.1 x.2.2.1 x.2.2.2.2.2.1).aM ⟨[1,1,1,1,0,1,0,1,0,1,0,0],[.o 0 (.recv 59), .o 8 (.box 29), .o 9 (.ae 3), .o 10 (.bM 29 [(5,4),(6,5),(11,6)]), .o 2010005 (.ae 3), .o 2010006 (.ae 48), .o 2010011 (.ae 5)],[(0, .box 0 0),(8, .box 1 0),(9, .c (.own 2)),(10, .box 3 0)],[2,1,1,1,1,1,1],[⟨.normal,[.u 0 (.recv 59), .v 61 .bool],[]⟩],[0,3,8,9,10]⟩ fun x=>GO N x.1 x.2.2.1).aM ⟨[1,1,1,1,0,1,0,1,0,1,0,1],[.o 0 (.recv 59), .o 8 (.box 29), .o 9 (.ae 3), .o 10 (.bM 29 [(5,4),(6,5),(11,6)]), .v 61 .bool, .o 2010005 (.ae 3), .o 2010006 (.ae 48), .o 2010011 (.ae 5)],[(0, .box 0 0),(8, .box 1 0),(9, .c (.own 2)),(10, .box 3 0)],[2,1,1,2,1,1,1],[⟨.normal,[.u 0 (.recv 59), .u 3 (.bM 29 [(5,4),(6,5),(11,6)])],[]⟩],[0,3,8,10]⟩ fun x=>GP N x.1 x.2.2.1 x.2.2.2.1 x.2.2.2.2.1).b4 N ⟨[1,1,1,1,0,1,0,1,0,1,1,1,0,1,0],[.o 0 (.recv 59), .v 3 (.int .i64), .o 8 (.box 29), .o 10 (.bM 29 [(5,4),(6,5),(11,6)]), .o 11 (.ae 122), .v 12 (.int .i64), .o 2010005 (.ae 3), .o 2010006 (.ae 48), .o 2010011 (.ae 5)],[(0, .box 0 0),(8, .box 1 0),(10, .box 2 0),(11, .c (.own 3))],[2,1,1,0,1,1,1],[⟨.exit 2,[.u 0 (.recv 59), .o 11 (.ae 122)],[(11, .c (.own 7))]⟩],[0,8,10]⟩ fun n x=>AT N x.2.1 n x.1 x.2.2.2.2.1 x.2.2.2.2.2.1).aM ⟨[1,1,1,1,0,1,0,1,1,1,0,1,0],[.o 0 (.recv 59), .o 8 (.box 29), .o 9 (.ae 3), .o 10 (.bM 29 [(5,4),(6,5),(11,6)]), .o 2010005 (.ae 3), .o 2010006 (.ae 48), .o 2010011 (.ae 5)],[(0, .box 0 0),(8, .box 1 0),(9, .c (.own 2)),(10, .box 3 0)],[2,1,1,1,1,1,1],[⟨.normal,[.u 0 (.recv 59), .v 118 .bool],[]⟩],[0,8,9,10]⟩ fun x=>GQ N x.1 x.2.2.1).aM ⟨[1,1,1,1,0,1,0,1,1,1,1,0,1],[.o 0 (.recv 59), .o 5 (.box 36), .o 6 (.box 80), .o 8 (.box 29), .o 9 (.ae 3), .o 10 (.bM 29 [(5,6),(6,7),(11,8)]), .v 45 (.int .i64), .v 124 .bool, .o 2010005 (.ae 3), .o 2010006 (.ae 48), .o 2010011 (.ae 5)],[(0, .box 0 0),(5, .box 1 0),(6, .box 2 0),(8, .box 3 0),(9, .c (.own 4)),(10, .box 5 0)],[1,1,1,1,1,1,1,1,1],[⟨.normal,[.v 124 .bool],[]⟩],[0,5,6,8,9,10,45]⟩ fun x=>GR N x.2.2.2.2.2.2.1 x.2.2.2.2.2.2.2.1).aM ⟨[1,1,1,1,0,1,0,1,1,1,1,1,0,1,0,0],[.o 0 (.recv 59), .o 5 (.box 36), .o 8 (.box 29), .o 9 (.ae 3), .o 10 (.bM 29 [(5,5),(6,6),(11,7)]), .o 2010005 (.ae 3), .o 2010006 (.ae 48), .o 2010011 (.ae 5)],[(0, .box 0 0),(5, .box 1 0),(8, .box 2 0),(9, .c (.own 3)),(10, .box 4 0)],[1,1,1,1,1,1,1,1],[⟨.normal,[.v 144 .bool],[]⟩],[0,5,8,9,10]⟩ fun x=>GS N x.2.2.2.1 x.2.2.2.2.1).aM ⟨[1,1,1,1,0,1,0,1,1,1,1,1,0,1,0,1],[.o 0 (.recv 59), .o 5 (.box 36), .o 8 (.box 29), .o 9 (.ae 3), .o 10 (.bM 29 [(5,5),(6,6),(11,7)]), .v 144 .bool, .o 2010005 (.ae 3), .o 2010006 (.ae 48), .o 2010011 (.ae 5)],[(0, .box 0 0),(5, .box 1 0),(8, .box 2 0),(9, .c (.own 3)),(10, .box 4 0)],[1,1,1,1,2,1,1,1],[⟨.normal,[.u 4 (.bM 29 [(5,5),(6,6),(11,7)])],[]⟩],[0,5,8,9,10]⟩ fun x=>Ga N x.2.2.2.1 x.2.2.2.2.1 x.2.2.2.2.2.1).aM ⟨[1,1,1,1,0,1,0,1,1,1,1,1,0,1,1,0,1,0,0,0,0],[.o 0 (.recv 59), .o 5 (.box 36), .o 8 (.box 29), .o 9 (.ae 3), .o 10 (.bM 29 [(5,5),(6,6),(11,7)]), .v 14 (.int .i64), .o 2010005 (.ae 3), .o 2010006 (.ae 48), .o 2010011 (.ae 5)],[(0, .box 0 0),(5, .box 1 0),(8, .box 2 0),(9, .c (.own 3)),(10, .box 4 0)],[1,1,1,1,1,1,1,1],[⟨.normal,[.v 168 .bool],[]⟩],[0,5,8,9,10,14]⟩ fun x=>Gb N x.2.2.2.1 x.2.2.2.2.2.1 x.2.2.2.2.2.2.1).aM ⟨[1,1,1,1,0,1,0,1,1,1,1,1,0,1,1,0,1,0,0,1,0],[.o 0 (.recv 59), .o 5 (.box 36), .o 8 (.box 29), .o 9 (.ae 3), .o 10 (.bM 29 [(5,5),(6,6),(11,7)]), .v 14 (.int .i64), .o 2010005 (.ae 3), .o 2010006 (.ae 48), .o 2010011 (.ae 5)],[(0, .box 0 0),(5, .box 1 0),(8, .box 2 0),(9, .c (.own 3)),(10, .box 4 0)],[1,1,1,1,2,0,1,1],[⟨.normal,[.u 4 (.bM 29 [(5,8),(6,6),(11,7)]), .o 2010005 (.ae 3)],[]⟩],[0,5,8,9,10,14]⟩ fun x=>F0 N x.2.2.2.1 x.2.2.2.2.1 x.2.2.2.2.2.1 x.2.2.2.2.2.2.1).b4 N ⟨[1,1,1,1,0,1,0,1,1,1,1,1,0,1,1,0,1,0],[.o 0 (.recv 59), .o 5 (.box 36), .o 8 (.box 29), .o 9 (.ae 3), .o 10 (.bM 29 [(5,5),(6,6),(11,7)]), .v 14 (.int .i64), .o 2010005 (.ae 3), .o 2010006 (.ae 48), .o 2010011 (.ae 5)],[(0, .box 0 0),(5, .box 1 0),(8, .box 2 0),(9, .c (.own 3)),(10, .box 4 0)],[1,1,1,1,2,0,1,1],[⟨.exit 4,[.u 4 (.bM 29 [(5,8),(6,6),(11,7)]), .o 2010005 (.ae 3)],[]⟩],[0,5,8,10]⟩ fun n x=>zx N x.2.2.2.1 n x.2.2.2.2.1 x.2.2.2.2.2.1 x.2.2.2.2.2.2.1).b4 N ⟨[1,1,1,1,0,1,0,1,1,1,1,1,1,1,0,1,1,0],[.o 0 (.recv 59), .o 5 (.box 36), .o 8 (.box 29), .o 10 (.bM 29 [(5,4),(6,5),(11,6)]), .v 16 (.ae 3), .v 19 (.int .i64), .o 2010005 (.ae 3), .o 2010006 (.ae 48), .o 2010011 (.ae 5)],[(0, .box 0 0),(5, .box 1 0),(8, .box 2 0),(10, .box 3 0)],[2,1,1,2,1,0,1],[⟨.exit 6,[.u 0 (.recv 59), .u 3 (.bM 29 [(5,4),(6,7),(11,6)]), .o 2010006 (.ae 48)],[]⟩],[0,8,10]⟩ fun n x=>zy N x.2.1 x.2.2.2.2.1 n x.1 x.2.2.2.1 x.2.2.2.2.2.1 x.2.2.2.2.2.2.2.1).aM ⟨[1,1,1,1,0,1],[.o 0 (.recv 59), .v 3 (.int .i64), .o 5 (.box 36), .o 6 (.box 80), .o 8 (.box 29), .o 9 (.ae 3), .o 10 (.bM 29 [(5,6),(6,7),(11,8)]), .v 45 (.int .i64), .o 2010005 (.ae 3), .o 2010006 (.ae 48), .o 2010011 (.ae 5)],[(0, .box 0 0),(5, .box 1 0),(6, .box 2 0),(8, .box 3 0),(9, .c (.own 4)),(10, .box 5 0)],[2,0,0,1,0,2,0,0,0],[⟨.normal,[.u 0 (.recv 59), .u 5 (.bM 29 [(5,9),(6,10),(11,11)]), .o 2010005 (.ae 3), .o 2010006 (.ae 48), .o 2010011 (.ae 5)],[]⟩],[0,8,10]⟩ fun x=>GN N x.1 x.2.1 x.2.2.1 x.2.2.2.1 x.2.2.2.2.2.1 x.2.2.2.2.2.2.1 x.2.2.2.2.2.2.2.1 x.2.2.2.2.2.2.2.2.1 x.2.2.2.2.2.2.2.2.2.1 x.2.2.2.2.2.2.2.2.2.2.1).fn Tryz.func25)
noncomputable def aaV (N:Nat):qE bB:=(R7 N).a6.oS fun x bD aj=>match x,bD,aj with| .const (.int .i64 68),as6,as6=>3|_,_,_=>0
noncomputable def R8 (N:Nat):bX bB:=(R7 N).cj ⟨80,1,[.v 0 (.ae 22)],[],as6,0,[.o 2 (.ne 22 3)],[(2, .c (.own 0))],[.tmp 2],as9⟩ (fun r x=>xx N x.1) (((dv.nil:dv (aaV N) (hq Tryz.f80)).b4 N ⟨[1,1,0,1,0],[.v 0 (.ae 22), .o 3 (.ne 22 3), .v 4 (.int .i64)],[(3, .c (.own 0))],[0],[⟨.exit 0,[.o 3 (.ne 22 3)],[(3, .c (.own 1))]⟩],[]⟩ fun n x=>Bw N x.1 n x.2.1 x.2.2.1).fn Tryz.func80)
noncomputable def R9 (N:Nat):bX bB:=(R8 N).cj ⟨51,1,[.v 0 (.agg 80)],[],as6,0,[.v 1064000000 (.agg 80), .o 1064000001 (.ae 122), .o 1064000003 (.ae 26)],[(1064000001, .c (.own 0)),(1064000003, .c (.own 1))],[.cell 2 80],as9⟩ (fun r x=>CW N x.1) ((((R8 N).u Tryz.f51).b4 N ⟨[1,1,1,1,0,1,0],[.o 1 (.bM 80 [(0,3),(1,4)]), .o 2 (.box 80), .o 3 (.ae 26), .v 4 (.int .i64), .o 2001000 (.ae 122), .o 2001001 (.ne 22 3)],[(1, .box 0 0),(2, .box 1 0),(3, .c (.own 2))],[1,1,0,1,2],[⟨.exit 0,[.o 3 (.ae 26), .u 4 (.ne 22 3)],[(3, .c (.own 5))]⟩],[1,2]⟩ fun n x=>Bx N x.1 n x.2.2.1 x.2.2.2.1 x.2.2.2.2.2.1).fn Tryz.func51)
noncomputable def Sa (N:Nat):bX bB:=(R9 N).cj ⟨81,2,[.v 0 (.agg 36), .v 1 (.int .i64)],[],as6,0,[.v 4 .bool],[],[.tmp 4],as5⟩ (fun r x=>pB N x.1 x.2.1) ((((R9 N).u Tryz.f81).aM ⟨[1,0],[.v 1 (.int .i64), .o 2 (.box 36)],[(2, .box 0 0)],[1],[⟨.normal,[.v 4 .bool],[]⟩],[]⟩ fun x=>Jw N x.1 x.2.1).fn Tryz.func81)
noncomputable def Sc (N:Nat):bX bB:=(Sa N).cj ⟨82,2,[.v 0 (.ae 3), .v 1 (.int .i64)],[],as6,0,[.v 4 .bool],[],[.tmp 4],as5⟩ (fun r x=>th N x.1 x.2.1) ((((Sa N).u Tryz.f82).b4 N ⟨[1,0,1,0],[.v 0 (.ae 3), .v 1 (.int .i64), .v 5 (.int .i64)],[],[],[⟨.exit 0,[],[]⟩,⟨.ret,[.v 4 .bool],[]⟩],[]⟩ fun n x=>Bk N x.1 x.2.1 n x.2.2.1).fn Tryz.func82)
noncomputable def Sd (N:Nat):bX bB:=(Sc N).cj ⟨83,2,[.v 0 (.agg 80), .v 1 (.int .i64)],[],as6,0,[.v 4 .bool],[],[.tmp 4],as5⟩ (fun r x=>qy N x.1 x.2.1) ((((Sc N).u Tryz.f83).b4 N ⟨[1,0,1,0],[.v 1 (.int .i64), .o 2 (.box 80), .v 5 (.int .i64)],[(2, .box 0 0)],[1],[⟨.exit 0,[],[]⟩,⟨.ret,[.v 4 .bool],[]⟩],[]⟩ fun n x=>A4 N x.1 x.2.1 n x.2.2.1).fn Tryz.func83)
noncomputable def Se (N:Nat):bX bB:=(Sd N).cj ⟨112,1,[.v 0 (.ae 5)],[],as6,0,[.v 2 (.int .i64)],[],[.tmp 2],as5⟩ (fun r x=>Lo N x.1) ((((Sd N).u Tryz.f112).b4 N ⟨[1,1,1,0,1,0],[.v 0 (.ae 5), .v 3 (.int .i64), .v 4 (.int .i64)],[],[],[⟨.exit 0,[.v 3 (.int .i64)],[]⟩,⟨.ret,[.v 2 (.int .i64)],[]⟩],[0]⟩ fun n x=>BM N x.1 n x.2.1 x.2.2.1).fn Tryz.func112)
noncomputable def Sf (N:Nat):bX bB:=(Se N).cj ⟨113,1,[.v 0 (.ae 5)],[],as6,0,[.v 2 (.int .i64)],[],[.tmp 2],as5⟩ (fun r x=>vu N x.1) (((Se N).u Tryz.f113).fn Tryz.func113)
noncomputable def Sg (N:Nat):bX bB:=(Sf N).cj ⟨84,1,[.v 0 (.ae 5)],[],as6,0,[.o 2 (.ae 122), .v 3 (.int .i64)],[(2, .c (.own 0))],[.tmp 2, .tmp 3],as9⟩ (fun r x=>nV N x.1) (((((((Sf N).u Tryz.f84).aM ⟨[1,1,1,1,1,0,1,0,0,1,0,0,1,1,0,1,0,0,1,0,0,0,0],[.o 5 (.ae 122), .v 8 (.ae 5), .v 10 (.int .i64)],[(5, .c (.own 0))],[1],[⟨.normal,[.v 63 .bool],[]⟩],[0,5,6,7,8,9,10]⟩ fun x=>HN N x.2.1 x.2.2.1).b4 N ⟨[1,1,1,1,1,0,1,0,0,1,0,0,1,1,0,1,0],[.o 5 (.ae 122), .v 8 (.ae 5), .v 9 .str, .v 10 (.int .i64)],[(5, .c (.own 0))],[1],[⟨.exit 3,[.v 9 .str],[]⟩,⟨.ret,[.v 3 (.int .i64)],[(2, .c .gS)]⟩],[0,5,6,7,8]⟩ fun n x=>As N x.2.1 n x.2.2.1 x.2.2.2.1).aM ⟨[1,1,1,1,1,0,1,0,0,1,0,0,1,1,1,0,0],[.o 5 (.ae 122), .v 8 (.ae 5)],[(5, .c (.own 0))],[1],[⟨.normal,[.v 95 .bool],[]⟩],[0,5,6,7,8,9]⟩ fun x=>HO N x.2.1).b4 N ⟨[1,1,1,1,1,0,1,0],[.v 0 (.ae 5), .o 5 (.ae 122), .v 6 (.int .i64), .v 7 (.int .i64)],[(5, .c (.own 0))],[0],[⟨.exit 1,[.o 5 (.ae 122)],[(5, .c (.own 1))]⟩,⟨.ret,[.v 3 (.int .i64)],[(2, .c .gS)]⟩],[]⟩ fun n x=>Ar N x.1 n x.2.1 x.2.2.1 x.2.2.2.1).fn Tryz.func84)
noncomputable def Sh (N:Nat):bX bB:=(Sg N).cj ⟨85,2,[.v 0 (.ae 22), .v 1 (.int .i64)],[],as6,0,[.v 4 (.int .i64), .v 5 (.int .i64)],[],[.tmp 4, .tmp 5],as5⟩ (fun r x=>pA N x.1 x.2.1) (((((Sg N).u Tryz.f85).b4 N ⟨[1,0,1,0,0,1,0,0,1,0],[.v 0 (.ae 22), .v 1 (.int .i64), .v 6 (.int .i64), .v 7 (.int .i64)],[],[],[⟨.exit 2,[],[]⟩,⟨.ret,[.v 4 (.int .i64), .v 5 (.int .i64)],[]⟩],[0,1,6]⟩ fun n x=>B9 N x.1 x.2.1 x.2.2.1 n x.2.2.2.1).b4 N ⟨[1,0,1,0],[.v 0 (.ae 22), .v 1 (.int .i64), .v 6 (.int .i64)],[],[],[⟨.exit 0,[],[]⟩,⟨.ret,[.v 4 (.int .i64), .v 5 (.int .i64)],[]⟩],[]⟩ fun n x=>B8 N x.1 x.2.1 n x.2.2.1).fn Tryz.func85)
noncomputable def Si (N:Nat):bX bB:=(Sh N).cj ⟨115,1,[.v 0 (.ae 122)],[],as6,0,[.o 2 (.ae 3)],[(2, .c (.own 0))],[.tmp 2],as9⟩ (fun r x=>te N x.1) ((((Sh N).u Tryz.f115).b4 N ⟨[1,1,0,1,0],[.v 0 (.ae 122), .o 3 (.ae 3), .v 4 (.int .i64)],[(3, .c (.own 0))],[0],[⟨.exit 0,[.o 3 (.ae 3)],[(3, .c (.own 1))]⟩],[]⟩ fun n x=>A3 N x.1 n x.2.1 x.2.2.1).fn Tryz.func115)
noncomputable def Sj (N:Nat):bX bB:=(Si N).cj ⟨151,2,[.v 0 (.ae 3), .v 1 (.ae 3)],[],as6,0,[.v 4 (.int .i64)],[],[.tmp 4],as5⟩ (fun r x=>C1 N x.1 x.2.1) ((((Si N).u Tryz.f151).b4 N ⟨[1,1,0,1,0],[.v 0 (.ae 3), .v 1 (.ae 3), .v 5 (.int .i64), .v 6 (.int .i64)],[],[],[⟨.exit 0,[.v 5 (.int .i64)],[]⟩],[]⟩ fun n x=>Bj N x.1 x.2.1 n x.2.2.1 x.2.2.2.1).fn Tryz.func151)
noncomputable def Sk (N:Nat):bX bB:=(Sj N).cj ⟨150,3,[.v 0 (.ae 64), .v 1 (.ae 3), .v 2 (.ae 22)],[],as6,0,[.v 6 .bool],[],[.tmp 6],as5⟩ (fun r x=>K8 N x.1 x.2.1 x.2.2.1) ((((((((((Sj N).u Tryz.f150).aM ⟨[1,0,0],[.v 0 (.ae 64), .v 1 (.ae 3), .v 2 (.ae 22)],[],[],[⟨.normal,[.v 26 .bool],[]⟩],[0,1,2]⟩ fun x=>Js N x.1 x.2.1 x.2.2.1).aM ⟨[1,1,0,1,0,0,1,0,0,0],[.v 1 (.ae 3), .v 7 (.int .i64)],[],[],[⟨.normal,[.v 44 .bool],[]⟩],[0,1,2,7]⟩ fun x=>Jt N x.1 x.2.1).b4 N ⟨[1,1,0,1,0],[.v 1 (.ae 3), .v 7 (.int .i64)],[],[],[⟨.exit 0,[],[]⟩,⟨.ret,[.v 6 .bool],[]⟩],[0,1,2]⟩ fun n x=>B5 N x.1 n x.2.1).aM ⟨[1,1,1,1,0,1,0,0,1,0,0,0,1,0,0,1,0,0,1,0,0],[.v 1 (.ae 3), .o 8 (.ae 4), .v 11 (.int .i64)],[(8, .c (.own 0))],[1],[⟨.normal,[.v 83 .bool],[]⟩],[0,1,2,8,9,10,11]⟩ fun x=>Ju N x.1 x.2.1 x.2.2.1).b4 N ⟨[1,1,1,1,0,1,0,0,1,0,0,0,1,0],[.v 1 (.ae 3), .v 2 (.ae 22), .o 8 (.ae 4), .v 9 (.int .i64), .v 10 (.int .i64)],[(8, .c (.own 0))],[2],[⟨.exit 4,[.u 0 (.ae 4)],[]⟩,⟨.ret,[.v 6 .bool],[]⟩],[0,1,2,8,9]⟩ fun n x=>B7 N x.1 x.2.1 x.2.2.2.1 n x.2.2.1 x.2.2.2.2.1).aM ⟨[1,1,1,1,0,1,0,0,1,0,0,1,0],[.v 0 (.ae 64), .v 1 (.ae 3), .v 2 (.ae 22), .o 8 (.ae 4), .v 9 (.int .i64)],[(8, .c (.own 0))],[1],[⟨.normal,[.v 114 .bool],[]⟩],[0,1,2,8,9]⟩ fun x=>Jv N x.1 x.2.1 x.2.2.1 x.2.2.2.2.1).b4 N ⟨[1,1,1,1,0,1,0],[.v 0 (.ae 64), .v 1 (.ae 3), .v 2 (.ae 22), .o 8 (.ae 4), .v 9 (.int .i64)],[(8, .c (.own 0))],[0],[⟨.exit 2,[],[]⟩,⟨.ret,[.v 6 .bool],[]⟩],[]⟩ fun n x=>B6 N x.1 x.2.1 x.2.2.1 n x.2.2.2.1 x.2.2.2.2.1).fn Tryz.func150)
noncomputable def aaW (N:Nat):qE bB:=(Sk N).a6.oS fun x bD aj=>match x,bD,aj with| .tmp 86,as6,as6=>7| .tmp 81,as6,as4 (.tmp 82)=>1| .tmp 87,as4 (.tmp 89),as6=>1|_,_,_=>0
noncomputable def LH (N:Nat):bX bB:=(Sk N).cj ⟨114,4,[.v 0 (.ae 64), .v 1 (.ae 3), .v 2 (.ae 22), .v 3 (.agg 182)],[],as6,0,[.v 8 (.ae 22), .v 9 (.int .i64)],[],[.tmp 8, .tmp 9],as9⟩ (fun r x=>tf N x.1 x.2.1 x.2.2.1 x.2.2.2.1) ((((((dv.nil:dv (aaW N) (hq Tryz.f114)).aM ⟨[1,1,0,0],[.v 1 (.ae 3), .v 2 (.ae 22), .o 7 (.box 182)],[(7, .box 0 0)],[1],[⟨.normal,[.v 51 .bool],[]⟩],[0,1,2,7]⟩ fun x=>Jo N x.1 x.2.1 x.2.2.1).aM ⟨[1,1,1,1,0,0],[.o 7 (.box 182), .v 10 (.int .i64)],[(7, .box 0 0)],[1],[⟨.normal,[.v 71 .bool],[]⟩],[0,1,2,7,10,11]⟩ fun x=>Jp N x.1 x.2.1).aM ⟨[1,1,1,1,1,1,0,1],[.o 7 (.box 182), .v 10 (.int .i64), .v 11 (.int .i64), .o 12 (.ne 22 3), .v 75 .bool],[(7, .box 0 0),(12, .c (.own 1))],[1,2],[⟨.normal,[.u 1 (.ne 22 3)],[]⟩],[0,1,7,12]⟩ fun x=>Jq N x.2.1 x.2.2.1 x.2.2.2.1 x.2.2.2.2.1).aM ⟨[1,1,1,1,1,1,1,1,0,1],[.o 7 (.box 182), .o 12 (.ne 22 3), .v 98 .bool],[(7, .box 0 0),(12, .c (.own 1))],[1,2],[⟨.normal,[.u 1 (.ne 22 3)],[]⟩],[0,1,7,12]⟩ fun x=>Jr N x.1 x.2.1 x.2.2.1).fn Tryz.func114)
noncomputable def Mk:fO D:=⟨86,3,[.o 100000000 (.box 80), .o 100000001 (.box 80), .o 100000002 (.box 93), .o 100000003 (.ae 122), .o 0 (.bM 132 [(32,5)]), .v 1 (.int .i64), .v 2 (.int .i64), .o 2000032 (.ae 182)],[(0, .box 4 0)],[1,1,1,1,2,0],[.v 6 .bool, .o 2000032 (.ae 182), .u 4 (.bM 132 [(32,6)])],[],[6],as9⟩
noncomputable def Dc (N:Nat):Mk.hS.F:=fun x=>Ku N x.2.2.2.2.1 x.2.2.2.2.2.1 x.2.2.2.2.2.2.1 x.2.2.2.2.2.2.2.1
theorem aqY (N:Nat):gH bB Mk (Dc N):=dv.h2 (dv.nil:dv (LH N).a6 (hq Tryz.f86)) Tryz.func86
noncomputable def aan (N:Nat):bX bB:=(LH N).hZ Mk (Dc N) (aqY N)
noncomputable def XY:fO D:=⟨86,3,[.o 100000000 (.box 80), .o 100000001 (.box 80), .o 100000002 (.box 93), .o 100000004 (.ae 122), .o 0 (.bM 132 [(32,5)]), .v 1 (.int .i64), .v 2 (.int .i64), .o 2000032 (.ae 182)],[(0, .box 4 0)],[1,1,1,1,2,0],[.v 6 .bool, .o 2000032 (.ae 182), .u 4 (.bM 132 [(32,6)])],[],[6],as9⟩
theorem apz (N:Nat):gH bB XY (Dc N):=dv.h2 (dv.nil:dv (LH N).a6 (hq Tryz.f86)) Tryz.func86
noncomputable def Sm (N:Nat):bX bB:=(aan N).hZ XY (Dc N) (apz N)
noncomputable def Sn (N:Nat):bX bB:=(Sm N).hZ ⟨52,1,[.o 100000000 (.box 80), .o 100000001 (.box 80), .o 100000002 (.box 93), .o 0 (.bM 132 [(5,4),(32,5)]), .o 2000005 (.ae 122), .o 2000032 (.ae 182)],[(0, .box 3 0)],[1,1,1,2,0,0],[.v 2 (.int .i64), .o 2000032 (.ae 182), .u 3 (.bM 132 [(32,6)])],[],[2],as9⟩ (fun x=>Kc N x.2.2.2.1 x.2.2.2.2.1 x.2.2.2.2.2.1) ((((((((Sm N).u Tryz.f52).aM ⟨[1,1,0,0,1,1,0],[.o 100000000 (.box 80), .o 100000001 (.box 80), .o 100000002 (.box 93), .o 0 (.bM 132 [(5,5),(32,6)]), .v 3 (.int .i64), .o 4 (.box 78), .o 2000005 (.ae 122), .o 2000032 (.ae 182)],[(0, .box 3 0),(4, .box 4 0)],[1,1,1,1,1,1,1],[⟨.normal,[.v 31 .bool],[]⟩],[0,3]⟩ fun x=>He N x.2.2.2.1 x.2.2.2.2.1 x.2.2.2.2.2.1).aM ⟨[1,1,1,1,1,1,0,1,0,0,1,0,0,1,0,0,1,0,0,1,0],[.o 100000000 (.box 80), .o 100000001 (.box 80), .o 100000002 (.box 93), .o 0 (.bM 132 [(5,5),(32,6)]), .o 5 (.ae 122), .v 8 (.int .i64), .v 9 (.int .i64), .v 10 (.int .i64), .o 2000005 (.ae 122), .o 2000032 (.ae 182)],[(0, .box 3 0),(5, .c (.own 4))],[1,1,1,1,1,1,1],[⟨.normal,[.v 120 .bool],[]⟩],[0,3,5,7,8,9]⟩ fun x=>Hf N x.2.2.2.2.1 x.2.2.2.2.2.1 x.2.2.2.2.2.2.1 x.2.2.2.2.2.2.2.1 x.2.2.2.2.2.2.2.2.1).b4 N ⟨[1,1,1,1,1,1,0,1,0,0,1,0,0,1,0],[.o 100000000 (.box 80), .o 100000001 (.box 80), .o 100000002 (.box 93), .o 0 (.bM 132 [(5,5),(32,6)]), .o 5 (.ae 122), .v 7 (.int .i64), .v 8 (.int .i64), .v 9 (.int .i64), .o 2000005 (.ae 122), .o 2000032 (.ae 182)],[(0, .box 3 0),(5, .c (.own 4))],[1,1,1,1,1,1,1],[⟨.exit 3,[],[]⟩,⟨.ret,[.v 2 (.int .i64)],[]⟩],[0,3,5,7,8]⟩ fun n x=>zN N x.2.2.2.1 x.2.2.2.2.1 x.2.2.2.2.2.1 x.2.2.2.2.2.2.1 x.2.2.2.2.2.2.2.2.1 n x.2.2.2.2.2.2.2.1).b4 N ⟨[1,1,1,1,1,1,0,1,0],[.o 100000000 (.box 80), .o 100000001 (.box 80), .o 100000002 (.box 93), .o 0 (.bM 132 [(5,5),(32,6)]), .o 5 (.ae 122), .v 7 (.int .i64), .v 8 (.int .i64), .o 2000005 (.ae 122), .o 2000032 (.ae 182)],[(0, .box 3 0),(5, .c (.own 4))],[1,1,1,1,1,1,1],[⟨.exit 1,[],[]⟩,⟨.ret,[.v 2 (.int .i64)],[]⟩],[0,3,5,7]⟩ fun n x=>Ad N x.2.2.2.1 x.2.2.2.2.1 x.2.2.2.2.2.1 x.2.2.2.2.2.2.2.1 n x.2.2.2.2.2.2.1).b4 N ⟨[1,1,1,1,1,1,1,1,1,0,1,0],[.o 100000000 (.box 80), .o 100000001 (.box 80), .o 100000002 (.box 93), .o 0 (.bM 132 [(32,5)]), .v 3 (.int .i64), .o 5 (.ae 122), .v 7 (.int .i64), .v 12 (.int .i64), .o 2000032 (.ae 182)],[(0, .box 3 0),(5, .c (.own 4))],[1,1,1,2,1,0],[⟨.exit 5,[.u 3 (.bM 132 [(32,6)]), .o 2000032 (.ae 182)],[]⟩,⟨.ret,[.u 3 (.bM 132 [(32,6)]), .v 2 (.int .i64), .o 2000032 (.ae 182)],[]⟩],[0]⟩ fun n x=>zO N x.2.2.2.2.1 x.2.2.2.2.2.1 x.2.2.2.2.2.2.1 n x.2.2.2.1 x.2.2.2.2.2.2.2.1 x.2.2.2.2.2.2.2.2.1).h2 Tryz.func52)
noncomputable def So (N:Nat):bX bB:=(Sn N).cj ⟨88,2,[.v 0 (.agg 26), .v 1 .str],[],as6,0,[.v 4 (.int .i64)],[],[.tmp 4],as5⟩ (fun r x=>vr N x.1 x.2.1) ((((Sn N).u Tryz.f88).b4 N ⟨[1,0,1,0],[.v 1 .str, .o 2 (.box 26), .v 5 (.int .i64)],[(2, .box 0 0)],[1],[⟨.exit 0,[],[]⟩,⟨.ret,[.v 4 (.int .i64)],[]⟩],[]⟩ fun n x=>B3 N x.1 x.2.1 n x.2.2.1).fn Tryz.func88)
noncomputable def Sp (N:Nat):bX bB:=(So N).cj ⟨87,2,[.v 0 (.agg 36), .v 1 (.agg 26)],[],as6,0,[.v 4 .bool],[],[.tmp 4],as5⟩ (fun r x=>CD N x.1 x.2.1) ((((((So N).u Tryz.f87).aM ⟨[1,0,0],[.o 2 (.box 36), .o 3 (.box 26)],[(2, .box 0 0),(3, .box 1 0)],[1,1],[⟨.normal,[.v 34 .bool],[]⟩],[3]⟩ fun x=>G1 N x.1 x.2.1).aM ⟨[1,1,0,1,0,0,1,0,0,0],[.o 3 (.box 26), .v 5 (.int .i64)],[(3, .box 0 0)],[1],[⟨.normal,[.v 59 .bool],[]⟩],[3,5]⟩ fun x=>G2 N x.1 x.2.1).b4 N ⟨[1,1,0,1,0],[.o 3 (.box 26), .v 5 (.int .i64)],[(3, .box 0 0)],[1],[⟨.exit 0,[],[]⟩,⟨.ret,[.v 4 .bool],[]⟩],[]⟩ fun n x=>z5 N x.1 n x.2.1).fn Tryz.func87)
noncomputable def Sq (N:Nat):bX bB:=(Sp N).hZ ⟨53,1,[.o 100000000 (.box 80), .o 100000001 (.box 80), .o 100000002 (.box 93), .o 0 (.bM 132 [(7,4)]), .o 2000007 (.ae 26)],[(0, .box 3 0)],[1,1,1,2,0],[.v 2 (.int .i64), .o 2000007 (.ae 26), .u 3 (.bM 132 [(7,5)])],[],[2],as9⟩ (fun x=>Kt N x.2.2.2.1 x.2.2.2.2.1) ((((((Sp N).u Tryz.f53).aM ⟨[1,1,1,1,0,1,0,0,1,0,0,1,0,0],[.o 100000000 (.box 80), .o 100000001 (.box 80), .o 100000002 (.box 93), .o 0 (.bM 132 [(7,6)]), .o 3 (.box 26), .o 5 (.box 26), .o 2000007 (.ae 26)],[(0, .box 3 0),(3, .box 4 0),(5, .box 5 0)],[1,1,1,1,1,1,1],[⟨.normal,[.v 53 .bool],[]⟩],[0,3,4,5]⟩ fun x=>Ie N x.2.2.2.2.1 x.2.2.2.2.2.1).b4 N ⟨[1,1,1,1,0,1,0,0,1,0,0,1,1,1,0],[.o 100000000 (.box 80), .o 100000001 (.box 80), .o 100000002 (.box 93), .o 0 (.bM 132 [(7,6)]), .o 3 (.box 26), .o 5 (.box 26), .v 6 (.int .i64), .o 2000007 (.ae 26)],[(0, .box 3 0),(3, .box 4 0),(5, .box 5 0)],[1,1,1,1,1,1,1],[⟨.exit 2,[],[]⟩,⟨.ret,[.v 2 (.int .i64)],[]⟩],[0,3,4]⟩ fun n x=>AZ N x.2.2.2.2.1 x.2.2.2.2.2.1 n x.2.2.2.2.2.2.1).b4 N ⟨[1,1,1,1,0,1,0],[.o 100000000 (.box 80), .o 100000001 (.box 80), .o 100000002 (.box 93), .o 0 (.bM 132 [(7,5)]), .o 3 (.box 26), .v 4 (.int .i64), .o 2000007 (.ae 26)],[(0, .box 3 0),(3, .box 4 0)],[1,1,1,1,1,1],[⟨.exit 0,[],[]⟩,⟨.ret,[.v 2 (.int .i64)],[]⟩],[0,3]⟩ fun n x=>AY N x.2.2.2.2.1 x.2.2.2.2.2.2.1 n x.2.2.2.2.2.1).h2 Tryz.func53)
noncomputable def Sr (N:Nat):bX bB:=(Sq N).cj ⟨89,1,[],[],as4 (0,132),1,[.v 2 .bool],[],[.tmp 2],as9⟩ (fun r x=>Ks N r) ((((((Sq N).u Tryz.f89).aM ⟨[1,0],[.o 0 (.recv 132)],[(0, .box 0 0)],[1],[⟨.normal,[.v 3 .bool],[]⟩],[0]⟩ fun x=>Kg N x.1).aM ⟨[1,1,0,1,0,0,1,0,0],[.o 0 (.recv 132), .v 3 .bool, .v 4 (.int .i64)],[(0, .box 0 0)],[1],[⟨.normal,[.v 3 .bool],[]⟩],[0,4]⟩ fun x=>Kh N x.1 x.2.1 x.2.2.1).b4 N ⟨[1,1,0,1,0],[.o 0 (.recv 132), .v 3 .bool, .v 4 (.int .i64)],[(0, .box 0 0)],[1],[⟨.exit 0,[.v 3 .bool],[]⟩],[0]⟩ fun n x=>CE N x.1 n x.2.1 x.2.2.1).fn Tryz.func89)
noncomputable def Ss (N:Nat):bX bB:=(Sr N).cj ⟨90,1,[],[],as4 (0,132),1,[.v 2 .bool],[],[.tmp 2],as9⟩ (fun r x=>KS N r) (((((Sr N).u Tryz.f90).aM ⟨[1,1,0,1,0,0,1,0,0],[.o 0 (.recv 132), .v 3 .bool, .v 4 (.int .i64)],[(0, .box 0 0)],[1],[⟨.normal,[.v 3 .bool],[]⟩],[0,4]⟩ fun x=>KG N x.1 x.2.1 x.2.2.1).b4 N ⟨[1,1,0,1,0],[.o 0 (.recv 132), .v 3 .bool, .v 4 (.int .i64)],[(0, .box 0 0)],[1],[⟨.exit 0,[.v 3 .bool],[]⟩],[0]⟩ fun n x=>CJ N x.1 n x.2.1 x.2.2.1).fn Tryz.func90)
noncomputable def St (N:Nat):bX bB:=(Ss N).cj ⟨116,2,[.v 0 (.ae 26), .v 1 .str],[],as6,0,[.v 4 (.int .i64), .v 5 (.int .i64)],[],[.tmp 4, .tmp 5],as5⟩ (fun r x=>La N x.1 x.2.1) ((((Ss N).u Tryz.f116).b4 N ⟨[1,0,1,0],[.v 0 (.ae 26), .v 1 .str, .v 6 (.int .i64)],[],[],[⟨.exit 0,[],[]⟩,⟨.ret,[.v 4 (.int .i64), .v 5 (.int .i64)],[]⟩],[]⟩ fun n x=>Cb N x.1 x.2.1 n x.2.2.1).fn Tryz.func116)
noncomputable def Su (N:Nat):bX bB:=(St N).cj ⟨91,2,[.v 0 (.ae 26), .v 1 (.agg 122)],[],as6,0,[.v 1000000 (.agg 162)],[],[.cell 4 162],as5⟩ (fun r x=>xy N x.1 x.2.1) (((St N).u Tryz.f91).fn Tryz.func91)
noncomputable def Sw (N:Nat):bX bB:=(Su N).cj ⟨152,1,[.v 0 (.agg 72)],[],as6,0,[.v 2 (.int .i64)],[],[.tmp 2],as5⟩ (fun r x=>KY N x.1) (((((((Su N).u Tryz.f152).aM ⟨[1,1,0,0],[.o 1 (.box 72)],[(1, .box 0 0)],[1],[⟨.normal,[.v 16 .bool],[]⟩],[1]⟩ fun x=>H7 N x.1).aM ⟨[1,1,1,0,1,0,0,1,0,0,1,0,0],[.o 1 (.box 72), .o 4 (.box 162)],[(1, .box 0 0),(4, .box 1 0)],[1,1],[⟨.normal,[.v 66 .bool],[]⟩],[1,3,4]⟩ fun x=>H8 N x.2.1).aM ⟨[1,1,1,0,1,0,0,1,0,0,1,1,0],[.o 1 (.box 72), .v 3 (.int .i64), .o 4 (.box 162)],[(1, .box 0 0),(4, .box 1 0)],[1,1],[⟨.normal,[.v 80 .bool],[]⟩],[1,3]⟩ fun x=>Hz N x.1 x.2.1 x.2.2.1).b4 N ⟨[1,1,1,0,1,0],[.o 1 (.box 72), .v 3 (.int .i64)],[(1, .box 0 0)],[1],[⟨.exit 0,[],[]⟩,⟨.ret,[.v 2 (.int .i64)],[]⟩],[]⟩ fun n x=>AL N x.1 n x.2.1).fn Tryz.func152)
noncomputable def Sx (N:Nat):bX bB:=(Sw N).cj ⟨205,3,[.v 0 (.agg 72), .v 1 (.int .i64), .v 2 (.int .i64)],[],as6,0,[.v 6 (.int .i64)],[],[.tmp 6],as5⟩ (fun r x=>tg N x.1 x.2.1 x.2.2.1) ((((Sw N).u Tryz.f205).aM ⟨[1,1,0,0,0],[.o 7 (.box 162), .o 8 (.box 162)],[(7, .box 0 0),(8, .box 1 0)],[1,1],[⟨.normal,[.v 19 .bool],[]⟩],[1,2]⟩ fun x=>IM N x.1 x.2.1).fn Tryz.func205)
noncomputable def Sy (N:Nat):bX bB:=(Sx N).cj ⟨206,3,[.v 0 (.agg 72), .v 1 (.int .i64), .v 2 (.int .i64)],[],as6,0,[.v 6 (.int .i64)],[],[.tmp 6],as5⟩ (fun r x=>vo N x.1 x.2.1 x.2.2.1) (((Sx N).u Tryz.f206).fn Tryz.func206)
noncomputable def Sz (N:Nat):bX bB:=(Sy N).cj ⟨154,3,[.v 0 (.agg 72), .v 1 (.ae 3), .v 2 (.int .i64)],[],as6,0,[.v 6 (.int .i64)],[],[.tmp 6],as5⟩ (fun r x=>xv N x.1 x.2.1 x.2.2.1) (((((Sy N).u Tryz.f154).aM ⟨[1,1,0,1,0,0,1,0],[.v 1 (.ae 3), .v 2 (.int .i64), .o 3 (.box 72), .v 7 (.int .i64), .v 8 (.int .i64)],[(3, .box 0 0)],[1],[⟨.normal,[.v 7 (.int .i64)],[]⟩],[1,2,3,8]⟩ fun x=>IL N x.1 x.2.1 x.2.2.1 x.2.2.2.1 x.2.2.2.2.1).b4 N ⟨[1,1,0,1,0],[.v 1 (.ae 3), .v 2 (.int .i64), .o 3 (.box 72), .v 7 (.int .i64), .v 8 (.int .i64)],[(3, .box 0 0)],[1],[⟨.exit 0,[.v 7 (.int .i64)],[]⟩],[]⟩ fun n x=>Br N x.1 x.2.1 x.2.2.1 n x.2.2.2.1 x.2.2.2.2.1).fn Tryz.func154)
noncomputable def SA (N:Nat):bX bB:=(Sz N).cj ⟨203,2,[.v 0 (.int .i64), .v 1 (.int .i64)],[],as6,0,[.v 4 .bool],[],[.tmp 4],as5⟩ (fun r x=>CU N x.1 x.2.1) ((((Sz N).u Tryz.f203).aM ⟨[1,0],[.v 0 (.int .i64), .v 1 (.int .i64)],[],[],[⟨.normal,[.v 4 .bool],[]⟩],[]⟩ fun x=>IP N x.1 x.2.1).fn Tryz.func203)
noncomputable def SB (N:Nat):bX bB:=(SA N).cj ⟨204,3,[.v 0 (.int .i64), .v 1 (.int .i64), .v 2 (.int .i64)],[],as6,0,[.v 6 .bool],[],[.tmp 6],as5⟩ (fun r x=>Lr N x.1 x.2.1 x.2.2.1) (((((SA N).u Tryz.f204).aM ⟨[1,0,0],[.v 0 (.int .i64), .v 1 (.int .i64), .v 2 (.int .i64)],[],[],[⟨.normal,[.v 30 .bool],[]⟩],[0,1,2]⟩ fun x=>IG N x.1 x.2.1 x.2.2.1).b4 N ⟨[1,1,1,0,1,0],[.v 7 (.int .i64), .v 8 (.int .i64)],[],[],[⟨.exit 0,[.v 7 (.int .i64)],[]⟩],[2]⟩ fun n x=>Bm N n x.1 x.2.1).fn Tryz.func204)
noncomputable def SC (N:Nat):bX bB:=(SB N).cj ⟨153,3,[.v 0 (.int .i64), .v 1 (.int .i64), .v 2 (.int .i64)],[],as6,0,[.v 6 (.int .i64), .v 7 (.int .i64)],[],[.tmp 6, .tmp 7],as5⟩ (fun r x=>Lf N x.1 x.2.1 x.2.2.1) (((((SB N).u Tryz.f153).aM ⟨[1,0,0],[.v 0 (.int .i64), .v 1 (.int .i64), .v 2 (.int .i64)],[],[],[⟨.normal,[.v 16 .bool],[]⟩],[0,1,2]⟩ fun x=>IN N x.1 x.2.1 x.2.2.1).b4 N ⟨[1,1,0,1,0],[.v 1 (.int .i64), .v 2 (.int .i64), .v 8 (.int .i64)],[],[],[⟨.exit 0,[],[]⟩,⟨.ret,[.v 6 (.int .i64), .v 7 (.int .i64)],[]⟩],[]⟩ fun n x=>Bt N x.1 x.2.1 n x.2.2.1).fn Tryz.func153)
noncomputable def SD (N:Nat):bX bB:=(SC N).cj ⟨155,1,[.v 0 (.int .i64)],[],as6,0,[.v 2 (.int .i64)],[],[.tmp 2],as5⟩ (fun r x=>Le N x.1) ((((SC N).u Tryz.f155).b4 N ⟨[1,1,0,0],[.v 0 (.int .i64), .v 3 (.int .i64)],[],[],[⟨.exit 0,[.v 3 (.int .i64)],[]⟩],[]⟩ fun n x=>Bs N n x.1 x.2.1).fn Tryz.func155)
noncomputable def SE (N:Nat):bX bB:=(SD N).cj ⟨117,1,[.v 0 (.agg 72)],[],as6,0,[.v 1000000 (.agg 74), .v 3 (.int .i64)],[],[.cell 2 74, .tmp 3],as9⟩ (fun r x=>CO N x.1) ((((((SD N).u Tryz.f117).aM ⟨[1,1,1,1,0,1,0,0,1,0,0,1,0,0,1,0],[.o 1 (.box 72), .o 2 (.box 74), .o 5 (.ae 3), .v 6 (.int .i64), .v 7 (.int .i64), .v 8 (.int .i64)],[(1, .box 0 0),(2, .box 1 0),(5, .c (.own 2))],[1,2,2],[⟨.normal,[.u 1 (.box 74), .u 2 (.ae 3), .v 6 (.int .i64)],[]⟩,⟨.ret,[.u 1 (.box 74), .v 3 (.int .i64)],[]⟩],[1,2,5,7,8]⟩ fun x=>HA N x.1 x.2.1 x.2.2.1 x.2.2.2.1 x.2.2.2.2.1 x.2.2.2.2.2.1).b4 N ⟨[1,1,1,1,0,1,0,0,1,0,0,1,0],[.o 1 (.box 72), .o 2 (.box 74), .o 5 (.ae 3), .v 6 (.int .i64), .v 7 (.int .i64), .v 8 (.int .i64)],[(1, .box 0 0),(2, .box 1 0),(5, .c (.own 2))],[1,2,0],[⟨.exit 2,[.u 1 (.box 74), .o 5 (.ae 3), .v 6 (.int .i64)],[(5, .c (.own 3))]⟩,⟨.ret,[.u 1 (.box 74), .v 3 (.int .i64)],[]⟩],[1,2,5,7]⟩ fun n x=>AN N x.1 x.2.2.2.2.1 n x.2.1 x.2.2.1 x.2.2.2.1 x.2.2.2.2.2.1).b4 N ⟨[1,1,1,1,0,1,0],[.o 1 (.box 72), .o 2 (.box 74), .o 5 (.ae 3), .v 6 (.int .i64), .v 7 (.int .i64)],[(1, .box 0 0),(2, .box 1 0),(5, .c (.own 2))],[1,2,0],[⟨.exit 0,[.u 1 (.box 74), .o 5 (.ae 3), .v 6 (.int .i64)],[(5, .c (.own 3))]⟩,⟨.ret,[.u 1 (.box 74), .v 3 (.int .i64)],[]⟩],[2,5]⟩ fun n x=>AM N x.1 n x.2.1 x.2.2.1 x.2.2.2.1 x.2.2.2.2.1).fn Tryz.func117)
noncomputable def SF (N:Nat):bX bB:=(SE N).cj ⟨156,2,[.v 0 (.agg 72), .v 1 (.ae 3)],[],as6,0,[.o 4 (.ae 3)],[(4, .c (.own 0))],[.tmp 4],as9⟩ (fun r x=>Ld N x.1 x.2.1) ((((((((SE N).u Tryz.f156).aM ⟨[1,1,1,0,1,0,0,1,0],[.v 1 (.ae 3), .o 2 (.box 72), .v 5 (.int .i64), .v 6 (.int .i64)],[(2, .box 0 0)],[1],[⟨.normal,[.v 5 (.int .i64)],[]⟩],[1,2,6]⟩ fun x=>IJ N x.1 x.2.2.1 x.2.2.2.1).b4 N ⟨[1,1,1,0,1,0],[.v 1 (.ae 3), .o 2 (.box 72), .v 5 (.int .i64), .v 6 (.int .i64)],[(2, .box 0 0)],[1],[⟨.exit 0,[.v 5 (.int .i64)],[]⟩],[1,2]⟩ fun n x=>Bo N x.1 n x.2.2.1 x.2.2.2.1).aM ⟨[1,1,1,1,1,0,1,0,0,1,0,0,1,0,0,0,0,0],[.v 1 (.ae 3), .o 2 (.box 72), .v 5 (.int .i64), .o 7 (.ae 3), .v 8 (.int .i64), .v 9 (.int .i64)],[(2, .box 0 0),(7, .c (.own 1))],[1,1],[⟨.normal,[.v 58 .bool],[]⟩],[1,2,5,7,8,9]⟩ fun x=>IK N x.1 x.2.1 x.2.2.1 x.2.2.2.2.1 x.2.2.2.2.2.1).b4 N ⟨[1,1,1,1,1,0,1,0,0,1,0,0,1,0,0],[.v 1 (.ae 3), .o 2 (.box 72), .v 5 (.int .i64), .o 7 (.ae 3), .v 8 (.int .i64), .v 9 (.int .i64)],[(2, .box 0 0),(7, .c (.own 1))],[1,1],[⟨.exit 4,[.v 9 (.int .i64)],[]⟩],[1,2,7]⟩ fun n x=>Bq N x.1 x.2.1 x.2.2.1 x.2.2.2.2.1 n x.2.2.2.2.2.1).b4 N ⟨[1,1,1,1,1,0,1,0],[.v 1 (.ae 3), .o 2 (.box 72), .v 5 (.int .i64), .o 7 (.ae 3), .v 8 (.int .i64)],[(2, .box 0 0),(7, .c (.own 1))],[1,0],[⟨.exit 2,[.o 7 (.ae 3)],[(7, .c (.own 2))]⟩],[]⟩ fun n x=>Bp N x.1 x.2.1 n x.2.2.1 x.2.2.2.1 x.2.2.2.2.1).fn Tryz.func156)
noncomputable def SH (N:Nat):bX bB:=(SF N).cj ⟨118,1,[.v 0 (.agg 72)],[],as6,0,[.o 2 (.ae 3), .v 3 (.int .i64)],[(2, .c (.own 0))],[.tmp 2, .tmp 3],as9⟩ (fun r x=>KB N x.1) (((SF N).u Tryz.f118).fn Tryz.func118)
noncomputable def SI (N:Nat):bX bB:=(SH N).cj ⟨92,1,[.v 0 (.agg 72)],[],as6,0,[.v 1000000 (.agg 76), .v 3 (.int .i64)],[],[.cell 2 76, .tmp 3],as9⟩ (fun r x=>CV N x.1) (((SH N).u Tryz.f92).fn Tryz.func92)
noncomputable def SJ (N:Nat):bX bB:=(SI N).cj ⟨99,2,[.v 0 (.agg 80), .v 1 (.ae 3)],[],as6,0,[.v 4 (.int .i64)],[],[.tmp 4],as5⟩ (fun r x=>CY N x.1 x.2.1) ((((SI N).u Tryz.f99).b4 N ⟨[1,1,0,1,0],[.v 1 (.ae 3), .o 2 (.box 80), .v 5 (.int .i64), .v 6 (.int .i64)],[(2, .box 0 0)],[1],[⟨.exit 0,[.v 5 (.int .i64)],[]⟩],[]⟩ fun n x=>BD N x.1 x.2.1 n x.2.2.1 x.2.2.2.1).fn Tryz.func99)
noncomputable def Dh (N:Nat):bX bB:=(SJ N).cj ⟨93,6,[.v 0 (.agg 36), .v 1 (.agg 80), .v 2 (.agg 72), .v 3 (.agg 74), .v 4 (.ae 3), .v 5 (.ae 22)],[],as6,0,[.v 12 .bool],[],[.tmp 12],as5⟩ (fun r x=>CZ N x.1 x.2.1 x.2.2.1 x.2.2.2.1 x.2.2.2.2.1 x.2.2.2.2.2.1) (((((((((SJ N).u Tryz.f93).aM ⟨[1,1,0,1,0,0,1,0,0,1,0,1,0,0,1,0],[.o 6 (.box 36), .o 7 (.box 80), .o 8 (.box 72), .o 9 (.box 74), .v 13 (.int .i64), .v 14 (.int .i64), .v 15 (.int .i64)],[(6, .box 0 0),(7, .box 1 0),(8, .box 2 0),(9, .box 3 0)],[1,1,1,1],[⟨.normal,[.v 14 (.int .i64)],[]⟩],[4,5,6,7,8,9,13,15]⟩ fun x=>I1 N x.2.2.1 x.2.2.2.1 x.2.2.2.2.1 x.2.2.2.2.2.1 x.2.2.2.2.2.2.1).b4 N ⟨[1,1,0,1,0,0,1,0,0,1,0,1,0],[.o 6 (.box 36), .o 7 (.box 80), .o 8 (.box 72), .o 9 (.box 74), .v 13 (.int .i64), .v 14 (.int .i64), .v 15 (.int .i64)],[(6, .box 0 0),(7, .box 1 0),(8, .box 2 0),(9, .box 3 0)],[1,1,1,1],[⟨.exit 2,[.v 14 (.int .i64)],[]⟩],[4,5,6,7,8,9,13]⟩ fun n x=>BF N x.2.2.1 x.2.2.2.1 x.2.2.2.2.1 n x.2.2.2.2.2.1 x.2.2.2.2.2.2.1).b4 N ⟨[1,1,0,1,0],[.v 4 (.ae 3), .o 6 (.box 36), .o 7 (.box 80), .o 8 (.box 72), .o 9 (.box 74), .v 13 (.int .i64)],[(6, .box 0 0),(7, .box 1 0),(8, .box 2 0),(9, .box 3 0)],[1,1,1,1],[⟨.exit 0,[],[]⟩,⟨.ret,[.v 12 .bool],[]⟩],[5,6,7,8]⟩ fun n x=>BE N x.1 x.2.1 x.2.2.2.1 x.2.2.2.2.1 n x.2.2.2.2.2.1).aM ⟨[1,1,1,0,1,0,0,1,0,0,1,0,1,0,0,1,0],[.o 6 (.box 36), .o 7 (.box 80), .o 8 (.box 72), .v 16 (.int .i64), .v 17 (.int .i64), .v 18 (.int .i64)],[(6, .box 0 0),(7, .box 1 0),(8, .box 2 0)],[1,1,1],[⟨.normal,[.v 17 (.int .i64)],[]⟩],[5,6,7,8,16,18]⟩ fun x=>I2 N x.2.2.1 x.2.2.2.1 x.2.2.2.2.1 x.2.2.2.2.2.1).b4 N ⟨[1,1,1,0,1,0,0,1,0,0,1,0,1,0],[.o 6 (.box 36), .o 7 (.box 80), .o 8 (.box 72), .v 16 (.int .i64), .v 17 (.int .i64), .v 18 (.int .i64)],[(6, .box 0 0),(7, .box 1 0),(8, .box 2 0)],[1,1,1],[⟨.exit 6,[.v 17 (.int .i64)],[]⟩],[5,6,7,8,16]⟩ fun n x=>BH N x.2.2.1 x.2.2.2.1 n x.2.2.2.2.1 x.2.2.2.2.2.1).b4 N ⟨[1,1,1,0,1,0],[.v 5 (.ae 22), .o 6 (.box 36), .o 7 (.box 80), .o 8 (.box 72), .v 16 (.int .i64)],[(6, .box 0 0),(7, .box 1 0),(8, .box 2 0)],[1,1,1],[⟨.exit 4,[],[]⟩,⟨.ret,[.v 12 .bool],[]⟩],[]⟩ fun n x=>BG N x.1 x.2.1 x.2.2.1 x.2.2.2.1 n x.2.2.2.2.1).fn Tryz.func93)
noncomputable def Mj:fO D:=⟨94,4,[.o 100000000 (.box 80), .o 100000001 (.box 80), .o 100000002 (.box 93), .o 100000003 (.box 72), .o 100000004 (.box 76), .o 0 (.box 132), .v 1 (.ae 3), .v 2 (.agg 72), .v 3 (.agg 76)],[(0, .box 5 0)],[1,1,1,1,1,2],[.o 2000016 (.ae 3), .o 2000034 (.ae 3), .o 2000035 (.ae 3), .u 5 (.bM 132 [(16,6),(34,7),(35,8)])],[],[],as9⟩
noncomputable def vy (N:Nat):Mj.hS.F:=fun x=>CH N x.2.2.2.2.2.1 x.2.2.2.2.2.2.1 x.2.2.2.2.2.2.2.1 x.2.2.2.2.2.2.2.2.1
theorem aqX (N:Nat):gH bB Mj (vy N):=dv.h2 (dv.nil:dv (Dh N).a6 (hq Tryz.f94)) Tryz.func94
noncomputable def aao (N:Nat):bX bB:=(Dh N).hZ Mj (vy N) (aqX N)
noncomputable def Xb:fO D:=⟨94,4,[.o 100000000 (.box 80), .o 100000001 (.box 80), .o 100000002 (.box 93), .o 100000006 (.box 72), .o 100000009 (.box 76), .o 0 (.box 132), .v 1 (.ae 3), .v 2 (.agg 72), .v 3 (.agg 76)],[(0, .box 5 0)],[1,1,1,1,1,2],[.o 2000016 (.ae 3), .o 2000034 (.ae 3), .o 2000035 (.ae 3), .u 5 (.bM 132 [(16,6),(34,7),(35,8)])],[],[],as9⟩
theorem aon (N:Nat):gH bB Xb (vy N):=dv.h2 (dv.nil:dv (Dh N).a6 (hq Tryz.f94)) Tryz.func94
noncomputable def SK (N:Nat):bX bB:=(aao N).hZ Xb (vy N) (aon N)
noncomputable def LI (N:Nat):bX bB:=(SK N).hZ ⟨54,1,[.o 100000000 (.box 80), .o 100000001 (.box 80), .o 100000002 (.box 93), .o 0 (.box 132)],[(0, .box 3 0)],[1,1,1,2],[.v 2 (.int .i64), .u 3 (.box 132)],[],[2],as9⟩ (fun x=>KI N x.2.2.2.1) ((((((((SK N).u Tryz.f54).aM ⟨[1,1,1,1,0,1,0,0,1,0,0],[.o 100000000 (.box 80), .o 100000001 (.box 80), .o 100000002 (.box 93), .o 0 (.box 132), .v 3 .bool, .v 4 (.int .i64)],[(0, .box 3 0)],[1,1,1,1],[⟨.normal,[.v 3 .bool],[]⟩],[0,4]⟩ fun x=>Ix N x.2.2.2.1 x.2.2.2.2.1 x.2.2.2.2.2.1).b4 N ⟨[1,1,1,1,0,1,0],[.o 100000000 (.box 80), .o 100000001 (.box 80), .o 100000002 (.box 93), .o 0 (.box 132), .v 3 .bool, .v 4 (.int .i64)],[(0, .box 3 0)],[1,1,1,1],[⟨.exit 0,[.v 3 .bool],[]⟩],[0]⟩ fun n x=>A9 N x.2.2.2.1 n x.2.2.2.2.1 x.2.2.2.2.2.1).b4 N ⟨[1,1,1,1,1,1,1,1,0,1,0],[.o 100000000 (.box 80), .o 100000001 (.box 80), .o 100000002 (.box 93), .o 0 (.box 132), .o 5 (.ae 3), .o 6 (.bM 72 [(0,6)]), .v 7 (.int .i64), .o 2006000 (.ae 162)],[(0, .box 3 0),(5, .c (.own 4)),(6, .box 5 0)],[1,1,1,1,1,2,0],[⟨.exit 2,[.u 5 (.bM 72 [(0,7)]), .o 2006000 (.ae 162)],[]⟩,⟨.ret,[.v 2 (.int .i64)],[]⟩],[0,5,6]⟩ fun n x=>Ba N x.2.2.2.1 x.2.2.2.2.1 n x.2.2.2.2.2.1 x.2.2.2.2.2.2.1 x.2.2.2.2.2.2.2.1).aM ⟨[1,1,1,1,1,1,1,1,1,1,0,1,0,0,1,0,0,1,1,0],[.o 100000000 (.box 80), .o 100000001 (.box 80), .o 100000002 (.box 93), .o 0 (.box 132), .o 5 (.ae 3), .o 6 (.bM 72 [(0,6)]), .v 8 (.int .i64), .v 9 (.ae 3), .v 10 (.int .i64), .o 2006000 (.ae 162)],[(0, .box 3 0),(5, .c (.own 4)),(6, .box 5 0)],[1,1,1,1,1,1,1],[⟨.normal,[.v 171 .bool],[]⟩],[0,5,6,8]⟩ fun x=>Iy N x.2.2.2.1 x.2.2.2.2.2.2.1 x.2.2.2.2.2.2.2.1 x.2.2.2.2.2.2.2.2.1 x.2.2.2.2.2.2.2.2.2.1).b4 N ⟨[1,1,1,1,1,1,1,1,1,1,0,1,0],[.o 100000000 (.box 80), .o 100000001 (.box 80), .o 100000002 (.box 93), .o 0 (.box 132), .o 5 (.ae 3), .o 6 (.bM 72 [(0,6)]), .v 8 (.int .i64), .o 2006000 (.ae 162)],[(0, .box 3 0),(5, .c (.own 4)),(6, .box 5 0)],[1,1,1,1,1,1,1],[⟨.exit 4,[],[]⟩,⟨.ret,[.v 2 (.int .i64)],[]⟩],[0,5,6]⟩ fun n x=>Bb N x.2.2.2.1 x.2.2.2.2.1 x.2.2.2.2.2.2.2.1 n x.2.2.2.2.2.2.1).h2 Tryz.func54)
noncomputable def Mi:fO D:=⟨86,3,[.o 100000000 (.box 80), .o 100000001 (.box 80), .o 100000002 (.box 93), .o 100000003 (.ae 3), .o 100000004 (.ae 3), .o 0 (.bM 132 [(32,6)]), .v 1 (.int .i64), .v 2 (.int .i64), .o 2000032 (.ae 182)],[(0, .box 5 0)],[1,1,1,1,1,2,0],[.v 6 .bool, .o 2000032 (.ae 182), .u 5 (.bM 132 [(32,7)])],[],[6],as9⟩
noncomputable def Db (N:Nat):Mi.hS.F:=fun x=>Kj N x.2.2.2.2.2.1 x.2.2.2.2.2.2.1 x.2.2.2.2.2.2.2.1 x.2.2.2.2.2.2.2.2.1
theorem aqW (N:Nat):gH bB Mi (Db N):=dv.h2 (dv.nil:dv (LI N).a6 (hq Tryz.f86)) Tryz.func86
noncomputable def aap (N:Nat):bX bB:=(LI N).hZ Mi (Db N) (aqW N)
noncomputable def XX:fO D:=⟨86,3,[.o 100000000 (.box 80), .o 100000001 (.box 80), .o 100000002 (.box 93), .o 100000004 (.ae 3), .o 100000005 (.ae 3), .o 0 (.bM 132 [(32,6)]), .v 1 (.int .i64), .v 2 (.int .i64), .o 2000032 (.ae 182)],[(0, .box 5 0)],[1,1,1,1,1,2,0],[.v 6 .bool, .o 2000032 (.ae 182), .u 5 (.bM 132 [(32,7)])],[],[6],as9⟩
theorem apy (N:Nat):gH bB XX (Db N):=dv.h2 (dv.nil:dv (LI N).a6 (hq Tryz.f86)) Tryz.func86
noncomputable def SL (N:Nat):bX bB:=(aap N).hZ XX (Db N) (apy N)
noncomputable def SM (N:Nat):bX bB:=(SL N).hZ ⟨95,1,[.o 100000000 (.box 80), .o 100000001 (.box 80), .o 100000002 (.box 93), .o 0 (.box 132)],[(0, .box 3 0)],[1,1,1,2],[.u 3 (.box 132)],[],[],as9⟩ (fun x=>Ke N x.2.2.2.1) (((SL N).u Tryz.f95).h2 Tryz.func95)
noncomputable def SO (N:Nat):bX bB:=(SM N).hZ ⟨55,1,[.o 100000000 (.box 80), .o 100000001 (.box 80), .o 100000002 (.box 93), .o 0 (.bM 132 [(32,4)]), .o 2000032 (.ae 182)],[(0, .box 3 0)],[1,1,1,2,0],[.v 2 (.int .i64), .u 3 (.box 132)],[],[2],as9⟩ (fun x=>KJ N x.2.2.2.1 x.2.2.2.2.1) ((((((((((((SM N).u Tryz.f55).aM ⟨[1,1,1,1,1,1,0,1,0,0,1,0,0,1,0],[.o 100000000 (.box 80), .o 100000001 (.box 80), .o 100000002 (.box 93), .o 0 (.bM 132 [(32,7)]), .v 4 (.ae 3), .o 5 (.ae 3), .o 6 (.ae 3), .o 8 (.box 48), .o 2000032 (.ae 182)],[(0, .box 3 0),(5, .c (.own 4)),(6, .c (.own 5)),(8, .box 6 0)],[1,1,1,1,1,1,1,1],[⟨.normal,[.v 95 .bool],[]⟩],[0,3,4,5,6,7]⟩ fun x=>Iz N x.2.2.2.1 x.2.2.2.2.1 x.2.2.2.2.2.2.2.1).b4 N ⟨[1,1,1,1,1,1,0,1,0],[.o 100000000 (.box 80), .o 100000001 (.box 80), .o 100000002 (.box 93), .o 0 (.bM 132 [(32,6)]), .v 4 (.ae 3), .o 5 (.ae 3), .o 6 (.ae 3), .v 7 (.int .i64), .o 2000032 (.ae 182)],[(0, .box 3 0),(5, .c (.own 4)),(6, .c (.own 5))],[1,1,1,1,1,1,1],[⟨.exit 1,[],[]⟩,⟨.ret,[.v 2 (.int .i64)],[]⟩],[0,3,4,5,6]⟩ fun n x=>Bc N x.2.2.2.1 x.2.2.2.2.1 n x.2.2.2.2.2.2.2.1).b4 N ⟨[1,1,1,1,1,1,1,0,1,0,0,1,0,0,1,0],[.o 100000000 (.box 80), .o 100000001 (.box 80), .o 100000002 (.box 93), .o 0 (.bM 132 [(32,6)]), .o 5 (.ae 3), .o 6 (.ae 3), .v 9 (.int .i64), .v 10 (.int .i64), .o 2000032 (.ae 182)],[(0, .box 3 0),(5, .c (.own 4)),(6, .c (.own 5))],[1,1,1,1,1,1,1],[⟨.exit 5,[],[]⟩,⟨.ret,[.v 2 (.int .i64)],[]⟩],[0,3,4,5,6,9]⟩ fun n x=>Be N x.2.2.2.1 x.2.2.2.2.2.2.1 n x.2.2.2.2.2.2.2.1).b4 N ⟨[1,1,1,1,1,1,1,0,1,0],[.o 100000000 (.box 80), .o 100000001 (.box 80), .o 100000002 (.box 93), .o 0 (.bM 132 [(32,6)]), .o 5 (.ae 3), .o 6 (.ae 3), .v 9 (.int .i64), .o 2000032 (.ae 182)],[(0, .box 3 0),(5, .c (.own 4)),(6, .c (.own 5))],[1,1,1,1,1,1,1],[⟨.exit 3,[],[]⟩,⟨.ret,[.v 2 (.int .i64)],[]⟩],[0,3,4,5,6]⟩ fun n x=>Bd N x.2.2.2.1 n x.2.2.2.2.2.2.1).b4 N ⟨[1,1,1,1,1,1,1,1,0,1,0],[.o 100000000 (.box 80), .o 100000001 (.box 80), .o 100000002 (.box 93), .o 0 (.bM 132 [(32,6)]), .v 3 (.int .i64), .o 5 (.ae 3), .o 6 (.ae 3), .v 11 (.int .i64), .o 2000032 (.ae 182)],[(0, .box 3 0),(5, .c (.own 4)),(6, .c (.own 5))],[1,1,1,1,1,2,1],[⟨.exit 7,[.u 5 (.ae 3)],[]⟩,⟨.ret,[.v 2 (.int .i64)],[]⟩],[0,4,5,6]⟩ fun n x=>Bf N x.2.2.2.1 x.2.2.2.2.1 n x.2.2.2.2.2.2.1 x.2.2.2.2.2.2.2.1).aM ⟨[1,1,1,1,1,1,1,1,1,0,1,0,0,1,0,0,1],[.o 100000000 (.box 80), .o 100000001 (.box 80), .o 100000002 (.box 93), .o 0 (.bM 132 [(32,6)]), .o 5 (.ae 3), .o 6 (.ae 3), .v 12 (.int .i64), .o 2000032 (.ae 182)],[(0, .box 3 0),(5, .c (.own 4)),(6, .c (.own 5))],[1,1,1,2,1,1,1],[⟨.normal,[.u 3 (.bM 132 [(32,6)])],[]⟩],[0,4,5,6,12]⟩ fun x=>IA N x.2.2.2.1 x.2.2.2.2.1 x.2.2.2.2.2.1 x.2.2.2.2.2.2.1).b4 N ⟨[1,1,1,1,1,1,1,1,1,0,1,0],[.o 100000000 (.box 80), .o 100000001 (.box 80), .o 100000002 (.box 93), .o 0 (.bM 132 [(32,6)]), .v 4 (.ae 3), .o 5 (.ae 3), .o 6 (.ae 3), .v 12 (.int .i64), .o 2000032 (.ae 182)],[(0, .box 3 0),(5, .c (.own 4)),(6, .c (.own 5))],[1,1,1,2,1,1,0],[⟨.exit 9,[.u 3 (.bM 132 [(32,7)]), .o 2000032 (.ae 182)],[]⟩,⟨.ret,[.u 3 (.bM 132 [(32,7)]), .v 2 (.int .i64), .o 2000032 (.ae 182)],[]⟩],[0]⟩ fun n x=>Bg N x.2.2.2.2.1 x.2.2.2.2.2.1 x.2.2.2.2.2.2.1 n x.2.2.2.1 x.2.2.2.2.2.2.2.1 x.2.2.2.2.2.2.2.2.1).aM ⟨[1,1,1,1,1,1,1,1,1,1,1,0,0],[.o 100000000 (.box 80), .o 100000001 (.box 80), .o 100000002 (.box 93), .o 0 (.bM 132 [(32,4)]), .o 2000032 (.ae 182)],[(0, .box 3 0)],[1,1,1,1,1],[⟨.normal,[.v 241 .bool],[]⟩],[0]⟩ fun x=>IB N x.2.2.2.1).aM ⟨[1,1,1,1,1,1,1,1,1,1,1,0,1],[.o 100000000 (.box 80), .o 100000001 (.box 80), .o 100000002 (.box 93), .o 0 (.bM 132 [(32,4)]), .v 241 .bool, .o 2000032 (.ae 182)],[(0, .box 3 0)],[1,1,1,2,0],[⟨.normal,[.u 3 (.box 132)],[]⟩],[0]⟩ fun x=>HJ N x.2.2.2.1 x.2.2.2.2.1 x.2.2.2.2.2.1).h2 Tryz.func55)
noncomputable def SP (N:Nat):bX bB:=(SO N).cj ⟨89,1,[.v 0 (.gU 132)],[],as6,0,[.v 2 .bool],[],[.tmp 2],as5⟩ (fun r x=>Kf N x.1) ((((((SO N).u Tryz.f89).aM ⟨[1,0],[.v 0 (.gU 132)],[],[],[⟨.normal,[.v 3 .bool],[]⟩],[0]⟩ fun x=>Hg N x.1).aM ⟨[1,1,0,1,0,0,1,0,0],[.v 0 (.gU 132), .v 3 .bool, .v 4 (.int .i64)],[],[],[⟨.normal,[.v 3 .bool],[]⟩],[0,4]⟩ fun x=>Hh N x.1 x.2.1 x.2.2.1).b4 N ⟨[1,1,0,1,0],[.v 0 (.gU 132), .v 3 .bool, .v 4 (.int .i64)],[],[],[⟨.exit 0,[.v 3 .bool],[]⟩],[]⟩ fun n x=>zS N x.1 n x.2.1 x.2.2.1).fn Tryz.func89)
noncomputable def SQ (N:Nat):bX bB:=(SP N).cj ⟨90,1,[.v 0 (.gU 132)],[],as6,0,[.v 2 .bool],[],[.tmp 2],as5⟩ (fun r x=>KF N x.1) (((((SP N).u Tryz.f90).aM ⟨[1,1,0,1,0,0,1,0,0],[.v 0 (.gU 132), .v 3 .bool, .v 4 (.int .i64)],[],[],[⟨.normal,[.v 3 .bool],[]⟩],[0,4]⟩ fun x=>It N x.1 x.2.1 x.2.2.1).b4 N ⟨[1,1,0,1,0],[.v 0 (.gU 132), .v 3 .bool, .v 4 (.int .i64)],[],[],[⟨.exit 0,[.v 3 .bool],[]⟩],[]⟩ fun n x=>A7 N x.1 n x.2.1 x.2.2.1).fn Tryz.func90)
noncomputable def SR (N:Nat):bX bB:=(SQ N).cj ⟨119,2,[.v 0 (.ae 3), .v 1 (.int .i64)],[],as6,0,[.v 4 (.int .i64)],[],[.tmp 4],as5⟩ (fun r x=>K9 N x.1 x.2.1) ((((SQ N).u Tryz.f119).b4 N ⟨[1,0,1,0],[.v 0 (.ae 3), .v 1 (.int .i64), .v 5 (.int .i64)],[],[],[⟨.exit 0,[],[]⟩,⟨.ret,[.v 4 (.int .i64)],[]⟩],[]⟩ fun n x=>Ca N x.1 x.2.1 n x.2.2.1).fn Tryz.func119)
noncomputable def SS (N:Nat):bX bB:=(SR N).cj ⟨96,4,[.v 0 (.ae 122), .v 1 (.ae 22), .v 2 (.ae 26), .v 3 (.ae 3)],[],as6,0,[.v 1000000 (.agg 169), .o 9 (.ae 3)],[(9, .c (.own 0))],[.cell 8 169, .tmp 9],as9⟩ (fun r x=>Lj N x.1 x.2.1 x.2.2.1 x.2.2.2.1) ((((((((((((SR N).u Tryz.f96).aM ⟨[1,1,1,0,1,0,0,1,0,0,1,1,0,1,0,0,1,0,0],[.v 2 (.ae 26), .o 8 (.box 169), .o 10 (.bM 169 [(0,3),(1,4),(2,5)]), .o 11 (.ae 3), .v 13 (.int .i64), .v 15 .bool, .v 16 (.int .i64), .o 2010000 (.ae 162), .o 2010001 (.ae 3), .o 2010002 (.ae 22)],[(8, .box 0 0),(10, .box 1 0),(11, .c (.own 2))],[1,1,1,1,1,1],[⟨.normal,[.v 15 .bool],[]⟩],[0,1,2,3,8,10,11,12,13,16]⟩ fun x=>IW N x.1 x.2.2.2.2.1 x.2.2.2.2.2.1 x.2.2.2.2.2.2.1).b4 N ⟨[1,1,1,0,1,0,0,1,0,0,1,1,0,1,0],[.v 2 (.ae 26), .o 8 (.box 169), .o 10 (.bM 169 [(0,3),(1,4),(2,5)]), .o 11 (.ae 3), .v 13 (.int .i64), .v 15 .bool, .v 16 (.int .i64), .o 2010000 (.ae 162), .o 2010001 (.ae 3), .o 2010002 (.ae 22)],[(8, .box 0 0),(10, .box 1 0),(11, .c (.own 2))],[1,1,1,1,1,1],[⟨.exit 2,[.v 15 .bool],[]⟩],[0,1,2,3,8,10,11,12,13]⟩ fun n x=>Bz N x.1 x.2.2.2.2.1 n x.2.2.2.2.2.1 x.2.2.2.2.2.2.1).aM ⟨[1,1,1,0,1,0,0,1,0,0,1,1,1,0],[.o 8 (.box 169), .o 10 (.bM 169 [(0,3),(1,4),(2,5)]), .o 11 (.ae 3), .v 13 (.int .i64), .v 15 .bool, .o 2010000 (.ae 162), .o 2010001 (.ae 3), .o 2010002 (.ae 22)],[(8, .box 0 0),(10, .box 1 0),(11, .c (.own 2))],[1,1,1,1,1,1],[⟨.normal,[.v 58 .bool],[]⟩],[0,1,2,3,8,10,11,12]⟩ fun x=>IX N x.2.2.2.1 x.2.2.2.2.1).aM ⟨[1,1,1,0,1,0,0,1,0],[.v 0 (.ae 122), .v 1 (.ae 22), .v 2 (.ae 26), .v 3 (.ae 3), .o 8 (.box 169), .o 10 (.bM 169 [(0,3),(1,4),(2,5)]), .o 11 (.ae 3), .v 12 (.int .i64), .o 2010000 (.ae 162), .o 2010001 (.ae 3), .o 2010002 (.ae 22)],[(8, .box 0 0),(10, .box 1 0),(11, .c (.own 2))],[1,2,0,0,1,1],[⟨.normal,[.u 1 (.bM 169 [(0,7),(1,4),(2,5)]), .o 11 (.ae 3), .o 2010000 (.ae 162)],[(11, .c (.own 6))]⟩],[0,1,2,3,8,10,12]⟩ fun x=>IV N x.1 x.2.1 x.2.2.1 x.2.2.2.1 x.2.2.2.2.2.2.1 x.2.2.2.2.2.2.2.1 x.2.2.2.2.2.2.2.2.1).b4 N ⟨[1,1,1,0,1,0],[.v 0 (.ae 122), .v 1 (.ae 22), .v 2 (.ae 26), .v 3 (.ae 3), .o 8 (.box 169), .o 10 (.bM 169 [(0,3),(1,4),(2,5)]), .o 11 (.ae 3), .v 12 (.int .i64), .o 2010000 (.ae 162), .o 2010001 (.ae 3), .o 2010002 (.ae 22)],[(8, .box 0 0),(10, .box 1 0),(11, .c (.own 2))],[1,2,0,0,1,1],[⟨.exit 0,[.u 1 (.bM 169 [(0,7),(1,4),(2,5)]), .o 11 (.ae 3), .o 2010000 (.ae 162)],[(11, .c (.own 6))]⟩],[1,2,8,10]⟩ fun n x=>By N x.1 x.2.1 x.2.2.1 x.2.2.2.1 n x.2.2.2.2.2.1 x.2.2.2.2.2.2.1 x.2.2.2.2.2.2.2.1 x.2.2.2.2.2.2.2.2.1).b4 N ⟨[1,1,1,1,0,1,0],[.v 2 (.ae 26), .o 8 (.box 169), .o 10 (.bM 169 [(0,3),(1,4),(2,5)]), .o 11 (.ae 3), .v 17 (.int .i64), .o 2010000 (.ae 162), .o 2010001 (.ae 3), .o 2010002 (.ae 22)],[(8, .box 0 0),(10, .box 1 0),(11, .c (.own 2))],[1,2,1,1,0,1],[⟨.exit 4,[.u 1 (.bM 169 [(0,3),(1,6),(2,5)]), .o 2010001 (.ae 3)],[]⟩],[1,8,10,11]⟩ fun n x=>BA N x.1 n x.2.2.1 x.2.2.2.2.1 x.2.2.2.2.2.2.1).aM ⟨[1,1,1,1,1,0,1,0,0,1,0,0,1,0,1,0,0,1,0],[.v 1 (.ae 22), .o 8 (.box 169), .o 10 (.bM 169 [(0,4),(1,5),(2,6)]), .o 11 (.ae 3), .v 18 (.int .i64), .o 19 (.ae 3), .v 20 (.int .i64), .o 2010000 (.ae 162), .o 2010001 (.ae 3), .o 2010002 (.ae 22)],[(8, .box 0 0),(10, .box 1 0),(11, .c (.own 2)),(19, .c (.own 3))],[1,1,1,0,1,1,1],[⟨.normal,[.o 19 (.ae 3)],[(19, .c (.own 7))]⟩],[1,8,10,11,18,20]⟩ fun x=>IY N x.1 x.2.2.2.1 x.2.2.2.2.1 x.2.2.2.2.2.1 x.2.2.2.2.2.2.1).b4 N ⟨[1,1,1,1,1,0,1,0,0,1,0,0,1,0,1,0],[.v 1 (.ae 22), .o 8 (.box 169), .o 10 (.bM 169 [(0,4),(1,5),(2,6)]), .o 11 (.ae 3), .v 18 (.int .i64), .o 19 (.ae 3), .v 20 (.int .i64), .o 2010000 (.ae 162), .o 2010001 (.ae 3), .o 2010002 (.ae 22)],[(8, .box 0 0),(10, .box 1 0),(11, .c (.own 2)),(19, .c (.own 3))],[1,1,1,0,1,1,1],[⟨.exit 8,[.o 19 (.ae 3)],[(19, .c (.own 7))]⟩],[1,8,10,11,18]⟩ fun n x=>BC N x.1 x.2.2.2.1 x.2.2.2.2.1 n x.2.2.2.2.2.1 x.2.2.2.2.2.2.1).b4 N ⟨[1,1,1,1,1,0,1,0],[.v 1 (.ae 22), .o 8 (.box 169), .o 10 (.bM 169 [(0,3),(1,4),(2,5)]), .o 11 (.ae 3), .v 18 (.int .i64), .o 2010000 (.ae 162), .o 2010001 (.ae 3), .o 2010002 (.ae 22)],[(8, .box 0 0),(10, .box 1 0),(11, .c (.own 2))],[1,2,1,1,1,0],[⟨.exit 6,[.u 1 (.bM 169 [(0,3),(1,4),(2,6)]), .o 2010002 (.ae 22)],[]⟩],[8,10,11]⟩ fun n x=>BB N x.1 x.2.2.2.1 n x.2.2.1 x.2.2.2.2.1 x.2.2.2.2.2.2.2.1).fn Tryz.func96)
noncomputable def SU (N:Nat):bX bB:=(SS N).cj ⟨120,1,[.v 0 (.agg 169)],[],as6,0,[.v 2 .bool],[],[.tmp 2],as5⟩ (fun r x=>CP N x.1) (((((((((((((SS N).u Tryz.f120).aM ⟨[1,0,0],[.o 1 (.box 169)],[(1, .box 0 0)],[1],[⟨.normal,[.v 27 .bool],[]⟩],[1]⟩ fun x=>HE N x.1).aM ⟨[1,1,0,1,0,0,1,0,0,1,0],[.o 1 (.box 169), .o 4 (.box 162)],[(1, .box 0 0),(4, .box 1 0)],[1,1],[⟨.normal,[.v 75 .bool],[]⟩],[1,3]⟩ fun x=>HF N x.1 x.2.1).b4 N ⟨[1,1,0,1,0],[.o 1 (.box 169), .v 3 (.int .i64)],[(1, .box 0 0)],[1],[⟨.exit 0,[],[]⟩,⟨.ret,[.v 2 .bool],[]⟩],[1]⟩ fun n x=>Ah N x.1 n x.2.1).aM ⟨[1,1,1,0,1,0,0,1,0,0,0,0],[.o 1 (.box 169), .v 5 (.int .i64)],[(1, .box 0 0)],[1],[⟨.normal,[.v 99 .bool],[]⟩],[1,5]⟩ fun x=>HG N x.1 x.2.1).b4 N ⟨[1,1,1,0,1,0,0,1,0,0,1,1,0],[.o 1 (.box 169), .v 5 (.int .i64), .v 6 (.int .i64)],[(1, .box 0 0)],[1],[⟨.exit 4,[],[]⟩,⟨.ret,[.v 2 .bool],[]⟩],[1,5]⟩ fun n x=>Aj N x.1 x.2.1 n x.2.2.1).b4 N ⟨[1,1,1,0,1,0],[.o 1 (.box 169), .v 5 (.int .i64)],[(1, .box 0 0)],[1],[⟨.exit 2,[],[]⟩,⟨.ret,[.v 2 .bool],[]⟩],[1]⟩ fun n x=>Ai N x.1 n x.2.1).aM ⟨[1,1,1,1,1,0,1,0,0,1,0,0,1,0,0,1,0,0,1,0,0],[.o 1 (.box 169), .o 7 (.ae 3), .v 10 (.int .i64)],[(1, .box 0 0),(7, .c (.own 1))],[1,1],[⟨.normal,[.v 152 .bool],[]⟩],[1,7,8,9,10]⟩ fun x=>HH N x.2.1 x.2.2.1).b4 N ⟨[1,1,1,1,1,0,1,0,0,1,0,0,1,0],[.o 1 (.box 169), .o 7 (.ae 3), .v 8 (.int .i64), .v 9 (.int .i64)],[(1, .box 0 0),(7, .c (.own 1))],[1,2],[⟨.exit 8,[.u 1 (.ae 3)],[]⟩,⟨.ret,[.v 2 .bool],[]⟩],[1,7,8]⟩ fun n x=>Al N x.1 x.2.2.1 n x.2.1 x.2.2.2.1).b4 N ⟨[1,1,1,1,1,0,1,0],[.o 1 (.box 169), .o 7 (.ae 3), .v 8 (.int .i64)],[(1, .box 0 0),(7, .c (.own 1))],[1,0],[⟨.exit 6,[.o 7 (.ae 3)],[(7, .c (.own 2))]⟩,⟨.ret,[.v 2 .bool],[]⟩],[7]⟩ fun n x=>Ak N x.1 n x.2.1 x.2.2.1).b4 N ⟨[1,1,1,1,1,1,0,1,0],[.o 7 (.ae 3), .v 11 (.int .i64)],[(7, .c (.own 0))],[1],[⟨.exit 10,[],[]⟩,⟨.ret,[.v 2 .bool],[]⟩],[]⟩ fun n x=>Am N x.1 n x.2.1).fn Tryz.func120)
noncomputable def SV (N:Nat):bX bB:=(SU N).cj ⟨121,1,[.v 0 (.agg 169)],[],as6,0,[.o 2 (.ae 240)],[(2, .c (.own 0))],[.tmp 2],as9⟩ (fun r x=>CR N x.1) (((((SU N).u Tryz.f121).b4 N ⟨[1,1,0,1,0,0,1,0,0,1,0],[.o 1 (.box 169), .o 3 (.ae 240), .v 4 (.int .i64), .v 5 (.int .i64)],[(1, .box 0 0),(3, .c (.own 1))],[1,2],[⟨.exit 2,[.u 1 (.ae 240)],[]⟩],[1,3,4]⟩ fun n x=>BU N x.1 x.2.2.1 n x.2.1 x.2.2.2.1).b4 N ⟨[1,1,0,1,0],[.o 1 (.box 169), .o 3 (.ae 240), .v 4 (.int .i64)],[(1, .box 0 0),(3, .c (.own 1))],[1,2],[⟨.exit 0,[.u 1 (.ae 240)],[]⟩],[3]⟩ fun n x=>BT N x.1 n x.2.1 x.2.2.1).fn Tryz.func121)
noncomputable def SW (N:Nat):bX bB:=(SV N).cj ⟨157,3,[.v 0 (.agg 169), .v 1 (.ae 240), .v 2 (.int .i64)],[],as6,0,[.v 6 .bool],[],[.tmp 6],as5⟩ (fun r x=>xw N x.1 x.2.1 x.2.2.1) (((SV N).u Tryz.f157).fn Tryz.func157)
noncomputable def SX (N:Nat):bX bB:=(SW N).cj ⟨159,3,[.v 0 (.ae 240), .v 1 (.int .i64), .v 2 (.int .i64)],[],as6,0,[.v 6 .bool],[],[.tmp 6],as5⟩ (fun r x=>vq N x.1 x.2.1 x.2.2.1) ((((SW N).u Tryz.f159).aM ⟨[1,0],[.v 0 (.ae 240), .v 1 (.int .i64), .v 2 (.int .i64)],[],[],[⟨.normal,[.v 6 .bool],[]⟩],[]⟩ fun x=>HS N x.1 x.2.1 x.2.2.1).fn Tryz.func159)
noncomputable def SY (N:Nat):bX bB:=(SX N).cj ⟨160,3,[.v 0 (.agg 169), .v 1 (.int .i64), .v 2 (.int .i64)],[],as6,0,[.v 6 .bool],[],[.tmp 6],as5⟩ (fun r x=>vp N x.1 x.2.1 x.2.2.1) ((((SX N).u Tryz.f160).aM ⟨[1,0],[.v 1 (.int .i64), .v 2 (.int .i64), .o 3 (.box 169)],[(3, .box 0 0)],[1],[⟨.normal,[.v 6 .bool],[]⟩],[]⟩ fun x=>HR N x.1 x.2.1 x.2.2.1).fn Tryz.func160)
noncomputable def S0 (N:Nat):bX bB:=(SY N).cj ⟨158,4,[.v 0 (.agg 169), .v 1 (.ae 240), .v 2 (.int .i64), .v 3 (.int .i64)],[],as6,0,[.v 8 .bool],[],[.tmp 8],as5⟩ (fun r x=>xq N x.1 x.2.1 x.2.2.1 x.2.2.2.1) ((((SY N).u Tryz.f158).aM ⟨[1,0],[.v 1 (.ae 240), .v 2 (.int .i64), .v 3 (.int .i64), .o 4 (.box 169)],[(4, .box 0 0)],[1],[⟨.normal,[.v 8 .bool],[]⟩],[]⟩ fun x=>HQ N x.1 x.2.1 x.2.2.1 x.2.2.2.1).fn Tryz.func158)
noncomputable def S1 (N:Nat):bX bB:=(S0 N).cj ⟨122,3,[.v 0 (.agg 169), .v 1 (.ae 240), .v 2 (.int .i64)],[],as6,0,[.v 1000000 (.agg 175), .v 7 .bool],[],[.cell 6 175, .tmp 7],as5⟩ (fun r x=>CQ N x.1 x.2.1 x.2.2.1) ((((S0 N).u Tryz.f122).b4 N ⟨[1,1,0,1,0],[.v 1 (.ae 240), .v 2 (.int .i64), .o 3 (.box 169), .o 6 (.box 175), .v 8 (.int .i64)],[(3, .box 0 0),(6, .box 1 0)],[1,2],[⟨.exit 0,[.u 1 (.box 175)],[]⟩,⟨.ret,[.u 1 (.box 175), .v 7 .bool],[]⟩],[6]⟩ fun n x=>BQ N x.1 x.2.1 x.2.2.1 n x.2.2.2.1 x.2.2.2.2.1).fn Tryz.func122)
noncomputable def S2 (N:Nat):bX bB:=(S1 N).cj ⟨123,5,[.v 0 (.agg 169), .v 1 (.ae 240), .v 2 (.ae 3), .v 3 (.int .i64), .v 4 (.int .i64)],[],as6,0,[.v 1000000 (.agg 175), .v 11 .bool],[],[.cell 10 175, .tmp 11],as5⟩ (fun r x=>K1 N x.1 x.2.1 x.2.2.1 x.2.2.2.1 x.2.2.2.2.1) (((((((S1 N).u Tryz.f123).aM ⟨[1,0,1,0,0,1,0,0,0],[.v 1 (.ae 240), .v 2 (.ae 3), .v 3 (.int .i64), .v 4 (.int .i64), .o 5 (.box 169), .o 10 (.box 175), .v 12 (.int .i64)],[(5, .box 0 0),(10, .box 1 0)],[1,1],[⟨.normal,[.v 39 .bool],[]⟩],[1,2,3,4,5,10,12]⟩ fun x=>Jd N x.1 x.2.1 x.2.2.1 x.2.2.2.1 x.2.2.2.2.2.2.1).b4 N ⟨[1,0,1,0],[.v 1 (.ae 240), .v 2 (.ae 3), .v 3 (.int .i64), .v 4 (.int .i64), .o 5 (.box 169), .o 10 (.box 175), .v 12 (.int .i64)],[(5, .box 0 0),(10, .box 1 0)],[1,2],[⟨.exit 0,[.u 1 (.box 175)],[]⟩,⟨.ret,[.u 1 (.box 175), .v 11 .bool],[]⟩],[2,3,4,5,10]⟩ fun n x=>BR N x.1 x.2.1 x.2.2.1 x.2.2.2.1 x.2.2.2.2.1 n x.2.2.2.2.2.1 x.2.2.2.2.2.2.1).aM ⟨[1,1,0,1,0,0,1,0,0,0],[.v 2 (.ae 3), .v 3 (.int .i64), .v 4 (.int .i64), .o 5 (.box 169), .o 10 (.box 175), .v 13 (.int .i64)],[(5, .box 0 0),(10, .box 1 0)],[1,1],[⟨.normal,[.v 69 .bool],[]⟩],[2,3,4,5,10,13]⟩ fun x=>Je N x.1 x.2.1 x.2.2.1 x.2.2.2.1 x.2.2.2.2.2.1).b4 N ⟨[1,1,0,1,0],[.v 2 (.ae 3), .v 3 (.int .i64), .v 4 (.int .i64), .o 5 (.box 169), .o 10 (.box 175), .v 13 (.int .i64)],[(5, .box 0 0),(10, .box 1 0)],[1,2],[⟨.exit 2,[.u 1 (.box 175)],[]⟩,⟨.ret,[.u 1 (.box 175), .v 11 .bool],[]⟩],[10]⟩ fun n x=>BS N x.1 x.2.1 x.2.2.1 x.2.2.2.1 n x.2.2.2.2.1 x.2.2.2.2.2.1).fn Tryz.func123)
noncomputable def LJ (N:Nat):bX bB:=(S2 N).cj ⟨97,1,[.v 0 (.agg 169)],[],as6,0,[.o 2 (.ae 175), .v 3 (.int .i64)],[(2, .c (.own 0))],[.tmp 2, .tmp 3],as9⟩ (fun r x=>KZ N x.1) ((((((((((S2 N).u Tryz.f97).aM ⟨[1,1,1,1,1,0,1,0,0,1,0],[.o 1 (.box 169), .o 4 (.ae 240), .o 5 (.ae 175), .o 6 (.ae 3), .v 7 (.int .i64)],[(1, .box 0 0),(4, .c (.own 1)),(5, .c (.own 2)),(6, .c (.own 3))],[1,1,2,2],[⟨.normal,[.u 2 (.ae 175), .u 3 (.ae 3)],[]⟩],[1,4,5,6,7]⟩ fun x=>HB N x.1 x.2.1 x.2.2.1 x.2.2.2.1 x.2.2.2.2.1).b4 N ⟨[1,1,1,1,1,0,1,0],[.o 1 (.box 169), .o 4 (.ae 240), .o 5 (.ae 175), .o 6 (.ae 3), .v 7 (.int .i64)],[(1, .box 0 0),(4, .c (.own 1)),(5, .c (.own 2)),(6, .c (.own 3))],[1,1,2,2],[⟨.exit 0,[.u 2 (.ae 175), .u 3 (.ae 3)],[]⟩],[1,4,5,6]⟩ fun n x=>AO N x.1 x.2.1 n x.2.2.1 x.2.2.2.1 x.2.2.2.2.1).aM ⟨[1,1,1,1,1,1,0,1,0,0,1,0,0,1,1,0,0,1,0],[.o 1 (.box 169), .o 4 (.ae 240), .o 5 (.ae 175), .o 6 (.ae 3), .v 10 (.int .i64), .v 11 .bool, .v 12 (.int .i64)],[(1, .box 0 0),(4, .c (.own 1)),(5, .c (.own 2)),(6, .c (.own 3))],[1,1,2,2],[⟨.normal,[.u 2 (.ae 175), .u 3 (.ae 3), .v 11 .bool],[]⟩],[1,4,5,6,10,12]⟩ fun x=>HC N x.1 x.2.1 x.2.2.1 x.2.2.2.1 x.2.2.2.2.1 x.2.2.2.2.2.1 x.2.2.2.2.2.2.1).b4 N ⟨[1,1,1,1,1,1,0,1,0,0,1,0,0,1,1,0],[.o 1 (.box 169), .o 4 (.ae 240), .o 5 (.ae 175), .o 6 (.ae 3), .v 10 (.int .i64), .v 11 .bool, .v 12 (.int .i64)],[(1, .box 0 0),(4, .c (.own 1)),(5, .c (.own 2)),(6, .c (.own 3))],[1,1,2,2],[⟨.exit 4,[.u 2 (.ae 175), .u 3 (.ae 3), .v 11 .bool],[]⟩],[1,4,5,6,10]⟩ fun n x=>AQ N x.1 x.2.1 x.2.2.2.2.1 n x.2.2.1 x.2.2.2.1 x.2.2.2.2.2.1 x.2.2.2.2.2.2.1).b4 N ⟨[1,1,1,1,1,1,0,1,0],[.o 1 (.box 169), .o 4 (.ae 240), .o 5 (.ae 175), .o 6 (.ae 3), .v 10 (.int .i64), .v 11 .bool],[(1, .box 0 0),(4, .c (.own 1)),(5, .c (.own 2)),(6, .c (.own 3))],[1,1,2,2],[⟨.exit 2,[.u 2 (.ae 175), .u 3 (.ae 3)],[]⟩],[5,6]⟩ fun n x=>AP N x.1 x.2.1 n x.2.2.1 x.2.2.2.1 x.2.2.2.2.1 x.2.2.2.2.2.1).aM ⟨[1,1,1,1,1,1,1,1,0,1,0,0,1,0],[.o 5 (.ae 175), .o 6 (.ae 3), .o 15 (.ae 175), .v 16 (.int .i64)],[(5, .c (.own 0)),(6, .c (.own 1)),(15, .c (.own 2))],[1,1,0],[⟨.normal,[.o 15 (.ae 175)],[(15, .c (.own 3))]⟩],[5,6,16]⟩ fun x=>HD N x.1 x.2.1 x.2.2.1 x.2.2.2.1).b4 N ⟨[1,1,1,1,1,1,1,1,0,1,0],[.o 5 (.ae 175), .o 6 (.ae 3), .o 15 (.ae 175), .v 16 (.int .i64)],[(5, .c (.own 0)),(6, .c (.own 1)),(15, .c (.own 2))],[1,1,0],[⟨.exit 6,[.o 15 (.ae 175)],[(15, .c (.own 3))]⟩],[]⟩ fun n x=>Ag N x.1 x.2.1 n x.2.2.1 x.2.2.2.1).fn Tryz.func97)
noncomputable def Mg:fO D:=⟨95,1,[.o 100000000 (.box 80), .o 100000001 (.box 80), .o 100000002 (.box 93), .o 100000003 (.ae 3), .o 100000004 (.box 169), .o 100000005 (.ae 175), .o 0 (.box 132)],[(0, .box 6 0)],[1,1,1,1,1,1,2],[.u 6 (.box 132)],[],[],as9⟩
noncomputable def C9 (N:Nat):Mg.hS.F:=fun x=>J6 N x.2.2.2.2.2.2.1
theorem aqT (N:Nat):gH bB Mg (C9 N):=dv.h2 (dv.nil:dv (LJ N).a6 (hq Tryz.f95)) Tryz.func95
noncomputable def aaq (N:Nat):bX bB:=(LJ N).hZ Mg (C9 N) (aqT N)
noncomputable def Xa:fO D:=⟨95,1,[.o 100000000 (.box 80), .o 100000001 (.box 80), .o 100000002 (.box 93), .o 100000006 (.ae 3), .o 100000007 (.box 169), .o 100000008 (.ae 175), .o 0 (.box 132)],[(0, .box 6 0)],[1,1,1,1,1,1,2],[.u 6 (.box 132)],[],[],as9⟩
theorem aom (N:Nat):gH bB Xa (C9 N):=dv.h2 (dv.nil:dv (LJ N).a6 (hq Tryz.f95)) Tryz.func95
noncomputable def S3 (N:Nat):bX bB:=(aaq N).hZ Xa (C9 N) (aom N)
noncomputable def S4 (N:Nat):bX bB:=(S3 N).cj ⟨161,4,[.v 0 (.agg 169), .v 1 (.ae 240), .v 2 (.ae 3), .v 3 (.agg 175)],[],as6,0,[.v 8 .bool],[],[.tmp 8],as5⟩ (fun r x=>Kb N x.1 x.2.1 x.2.2.1 x.2.2.2.1) ((((((((S3 N).u Tryz.f161).aM ⟨[1,0,1,0,0],[.v 1 (.ae 240), .o 4 (.box 169), .o 7 (.box 175)],[(4, .box 0 0),(7, .box 1 0)],[1,1],[⟨.normal,[.v 8 .bool],[]⟩],[]⟩ fun x=>G6 N x.1 x.2.1 x.2.2.1).aM ⟨[1,1,1,0,0],[.o 4 (.box 169), .o 7 (.box 175), .v 9 (.int .i64)],[(4, .box 0 0),(7, .box 1 0)],[1,1],[⟨.normal,[.v 35 .bool],[]⟩],[1,2,4,7,9]⟩ fun x=>G7 N x.1 x.2.2.1).aM ⟨[1,1,1,1,0],[.v 2 (.ae 3), .o 4 (.box 169), .o 7 (.box 175), .v 9 (.int .i64)],[(4, .box 0 0),(7, .box 1 0)],[1,1],[⟨.normal,[.v 10 .bool],[]⟩],[1,4,7,9]⟩ fun x=>G8 N x.1 x.2.2.1 x.2.2.2.1).aM ⟨[1,1,1,1,1,0,1,0,1,0,0],[.v 1 (.ae 240), .o 7 (.box 175), .v 9 (.int .i64), .v 10 .bool],[(7, .box 0 0)],[1],[⟨.normal,[.v 8 .bool],[]⟩],[]⟩ fun x=>G9 N x.1 x.2.1 x.2.2.1 x.2.2.2.1).aM ⟨[1,1,1,1,1,0,1,0,1,1,1,0,0],[.v 1 (.ae 240), .o 4 (.box 169), .o 7 (.box 175), .v 9 (.int .i64), .v 10 .bool],[(4, .box 0 0),(7, .box 1 0)],[1,1],[⟨.normal,[.v 8 .bool],[]⟩],[]⟩ fun x=>Ha N x.1 x.2.1 x.2.2.1 x.2.2.2.1 x.2.2.2.2.1).fn Tryz.func161)
noncomputable def S5 (N:Nat):bX bB:=(S4 N).cj ⟨124,2,[.v 0 (.agg 169), .v 1 (.ae 175)],[],as6,0,[.v 4 .bool],[],[.tmp 4],as5⟩ (fun r x=>K0 N x.1 x.2.1) (((((((((((S4 N).u Tryz.f124).b4 N ⟨[1,1,1,0,1,0],[.o 2 (.box 169), .o 5 (.ae 240), .o 6 (.ae 3), .v 7 (.int .i64)],[(2, .box 0 0),(5, .c (.own 1)),(6, .c (.own 2))],[1,1,2],[⟨.exit 0,[.u 2 (.ae 3)],[]⟩],[1,2,5,6]⟩ fun n x=>An N n x.2.2.1 x.2.2.2.1).aM ⟨[1,1,1,1,0,1,0,0,1,0,0,1,0,0],[.v 1 (.ae 175), .o 2 (.box 169), .o 5 (.ae 240), .o 6 (.ae 3), .v 8 (.int .i64), .v 9 (.int .i64)],[(2, .box 0 0),(5, .c (.own 1)),(6, .c (.own 2))],[1,1,1],[⟨.normal,[.v 63 .bool],[]⟩],[1,2,5,6,8,9]⟩ fun x=>HI N x.1 x.2.2.2.1 x.2.2.2.2.1 x.2.2.2.2.2.1).b4 N ⟨[1,1,1,1,0,1,0],[.v 1 (.ae 175), .o 2 (.box 169), .o 5 (.ae 240), .o 6 (.ae 3), .v 8 (.int .i64)],[(2, .box 0 0),(5, .c (.own 1)),(6, .c (.own 2))],[1,1,2],[⟨.exit 2,[.u 2 (.ae 3)],[]⟩,⟨.ret,[.v 4 .bool],[]⟩],[1,2,5,6]⟩ fun n x=>Ao N x.1 n x.2.2.2.1 x.2.2.2.2.1).b4 N ⟨[1,1,1,1,1,0,1,0],[.v 1 (.ae 175), .o 2 (.box 169), .o 5 (.ae 240), .o 6 (.ae 3), .v 10 (.int .i64)],[(2, .box 0 0),(5, .c (.own 1)),(6, .c (.own 2))],[1,1,1],[⟨.exit 4,[],[]⟩,⟨.ret,[.v 4 .bool],[]⟩],[2,5,6]⟩ fun n x=>Ap N x.1 x.2.1 x.2.2.1 x.2.2.2.1 n x.2.2.2.2.1).aM ⟨[1,1,1,1,1,1,0,1,0,0,1,0,0,1,1,1,0,0,1,0,0,0],[.o 2 (.box 169), .o 5 (.ae 240), .o 6 (.ae 3), .v 11 (.int .i64), .v 14 (.int .i64)],[(2, .box 0 0),(5, .c (.own 1)),(6, .c (.own 2))],[1,1,1],[⟨.normal,[.v 128 .bool],[]⟩],[2,5,6,11,14]⟩ fun x=>Jc N x.1 x.2.1 x.2.2.1 x.2.2.2.1 x.2.2.2.2.1).b4 N ⟨[1,1,1,1,1,1,0,1,0,0,1,0,0,1,1,1,0],[.o 2 (.box 169), .o 5 (.ae 240), .o 6 (.ae 3), .v 11 (.int .i64), .v 14 (.int .i64)],[(2, .box 0 0),(5, .c (.own 1)),(6, .c (.own 2))],[1,1,1],[⟨.exit 8,[],[]⟩,⟨.ret,[.v 4 .bool],[]⟩],[2,5,6,11]⟩ fun n x=>BP N x.1 x.2.1 x.2.2.1 x.2.2.2.1 n x.2.2.2.2.1).aM ⟨[1,1,1,1,1,1,0,1,0,0,1,0],[.o 2 (.box 169), .o 5 (.ae 240), .o 6 (.ae 3), .v 11 (.int .i64)],[(2, .box 0 0),(5, .c (.own 1)),(6, .c (.own 2))],[1,1,1],[⟨.normal,[],[]⟩,⟨.ret,[.v 4 .bool],[]⟩],[2,5,6,11]⟩ fun x=>Jb N x.1 x.2.1 x.2.2.1 x.2.2.2.1).b4 N ⟨[1,1,1,1,1,1,0,1,0],[.o 2 (.box 169), .o 5 (.ae 240), .o 6 (.ae 3), .v 11 (.int .i64)],[(2, .box 0 0),(5, .c (.own 1)),(6, .c (.own 2))],[1,1,1],[⟨.exit 6,[],[]⟩,⟨.ret,[.v 4 .bool],[]⟩],[]⟩ fun n x=>BO N x.1 x.2.1 x.2.2.1 n x.2.2.2.1).fn Tryz.func124)
noncomputable def S6 (N:Nat):bX bB:=(S5 N).cj ⟨125,2,[.v 0 (.ae 175), .v 1 (.int .i64)],[],as6,0,[.v 4 .bool],[],[.tmp 4],as5⟩ (fun r x=>KM N x.1 x.2.1) ((((S5 N).u Tryz.f125).b4 N ⟨[1,0,1,0],[.v 0 (.ae 175), .v 1 (.int .i64), .v 5 (.int .i64)],[],[],[⟨.exit 0,[],[]⟩,⟨.ret,[.v 4 .bool],[]⟩],[]⟩ fun n x=>Av N x.1 x.2.1 n x.2.2.1).fn Tryz.func125)
noncomputable def LK (N:Nat):bX bB:=(S6 N).cj ⟨98,3,[.v 0 (.agg 169), .v 1 (.ae 175), .v 2 (.int .i64)],[],as6,0,[.v 1000000 (.agg 72), .o 7 (.ae 3), .v 8 (.int .i64)],[(7, .c (.own 0))],[.cell 6 72, .tmp 7, .tmp 8],as9⟩ (fun r x=>Lp N x.1 x.2.1 x.2.2.1) (((((((S6 N).u Tryz.f98).aM ⟨[1,0,0,1,1,0],[.v 2 (.int .i64), .o 3 (.box 169), .o 6 (.box 72)],[(3, .box 0 0),(6, .box 1 0)],[1,1],[⟨.normal,[.v 19 .bool],[]⟩],[1,2,3,6]⟩ fun x=>ID N x.1).aM ⟨[1,1,1,1,0,1,0,0,1,0,0,1,0,0,1,0],[.v 1 (.ae 175), .o 3 (.box 169), .o 6 (.box 72), .o 9 (.bM 72 [(0,4)]), .o 10 (.ae 3), .v 11 (.int .i64), .v 12 (.int .i64), .o 2009000 (.ae 162)],[(3, .box 0 0),(6, .box 1 0),(9, .box 2 0),(10, .c (.own 3))],[1,1,2,0,0],[⟨.normal,[.u 2 (.bM 72 [(0,6)]), .o 10 (.ae 3), .o 2009000 (.ae 162)],[(10, .c (.own 5))]⟩],[1,3,6,9,11,12]⟩ fun x=>IE N x.1 x.2.1 x.2.2.2.1 x.2.2.2.2.1 x.2.2.2.2.2.1 x.2.2.2.2.2.2.1 x.2.2.2.2.2.2.2.1).b4 N ⟨[1,1,1,1,0,1,0,0,1,0,0,1,0],[.v 1 (.ae 175), .o 3 (.box 169), .o 6 (.box 72), .o 9 (.bM 72 [(0,4)]), .o 10 (.ae 3), .v 11 (.int .i64), .v 12 (.int .i64), .o 2009000 (.ae 162)],[(3, .box 0 0),(6, .box 1 0),(9, .box 2 0),(10, .c (.own 3))],[1,1,2,0,0],[⟨.exit 3,[.u 2 (.bM 72 [(0,6)]), .o 10 (.ae 3), .o 2009000 (.ae 162)],[(10, .c (.own 5))]⟩],[1,3,6,9,11]⟩ fun n x=>Bh N x.1 x.2.1 x.2.2.2.2.2.1 n x.2.2.2.1 x.2.2.2.2.1 x.2.2.2.2.2.2.1 x.2.2.2.2.2.2.2.1).b4 N ⟨[1,1,1,1,0,1,0],[.v 1 (.ae 175), .o 3 (.box 169), .o 6 (.box 72), .o 9 (.bM 72 [(0,4)]), .o 10 (.ae 3), .v 11 (.int .i64), .o 2009000 (.ae 162)],[(3, .box 0 0),(6, .box 1 0),(9, .box 2 0),(10, .c (.own 3))],[1,1,2,0,0],[⟨.exit 1,[.u 2 (.bM 72 [(0,6)]), .o 10 (.ae 3), .o 2009000 (.ae 162)],[(10, .c (.own 5))]⟩],[6,9]⟩ fun n x=>BN N x.1 x.2.1 n x.2.2.2.1 x.2.2.2.2.1 x.2.2.2.2.2.1 x.2.2.2.2.2.2.1).fn Tryz.func98)
noncomputable def Mh:fO D:=⟨86,3,[.o 100000000 (.box 80), .o 100000001 (.box 80), .o 100000002 (.box 93), .o 100000003 (.box 72), .o 100000004 (.ae 3), .o 100000005 (.box 76), .o 0 (.bM 132 [(32,7)]), .v 1 (.int .i64), .v 2 (.int .i64), .o 2000032 (.ae 182)],[(0, .box 6 0)],[1,1,1,1,1,1,2,0],[.v 6 .bool, .o 2000032 (.ae 182), .u 6 (.bM 132 [(32,8)])],[],[6],as9⟩
noncomputable def Da (N:Nat):Mh.hS.F:=fun x=>J7 N x.2.2.2.2.2.2.1 x.2.2.2.2.2.2.2.1 x.2.2.2.2.2.2.2.2.1 x.2.2.2.2.2.2.2.2.2.1
theorem aqU (N:Nat):gH bB Mh (Da N):=dv.h2 (dv.nil:dv (LK N).a6 (hq Tryz.f86)) Tryz.func86
noncomputable def aag (N:Nat):bX bB:=(LK N).hZ Mh (Da N) (aqU N)
noncomputable def XW:fO D:=⟨86,3,[.o 100000000 (.box 80), .o 100000001 (.box 80), .o 100000002 (.box 93), .o 100000004 (.box 72), .o 100000005 (.ae 3), .o 100000006 (.box 76), .o 0 (.bM 132 [(32,7)]), .v 1 (.int .i64), .v 2 (.int .i64), .o 2000032 (.ae 182)],[(0, .box 6 0)],[1,1,1,1,1,1,2,0],[.v 6 .bool, .o 2000032 (.ae 182), .u 6 (.bM 132 [(32,8)])],[],[6],as9⟩
theorem apx (N:Nat):gH bB XW (Da N):=dv.h2 (dv.nil:dv (LK N).a6 (hq Tryz.f86)) Tryz.func86
noncomputable def aah (N:Nat):bX bB:=(aag N).hZ XW (Da N) (apx N)
noncomputable def Xc:fO D:=⟨94,4,[.o 100000000 (.box 80), .o 100000001 (.box 80), .o 100000002 (.box 93), .o 100000011 (.box 72), .o 100000016 (.box 76), .o 0 (.box 132), .v 1 (.ae 3), .v 2 (.agg 72), .v 3 (.agg 76)],[(0, .box 5 0)],[1,1,1,1,1,2],[.o 2000016 (.ae 3), .o 2000034 (.ae 3), .o 2000035 (.ae 3), .u 5 (.bM 132 [(16,6),(34,7),(35,8)])],[],[],as9⟩
theorem aoo (N:Nat):gH bB Xc (vy N):=dv.h2 (dv.nil:dv (Dh N).a6 (hq Tryz.f94)) Tryz.func94
noncomputable def QW (N:Nat):bX bB:=(aah N).hZ Xc (vy N) (aoo N)
noncomputable def QX (N:Nat):bX bB:=(QW N).hZ ⟨56,1,[.o 100000000 (.box 80), .o 100000001 (.box 80), .o 100000002 (.box 93), .o 0 (.bM 132 [(32,4),(36,5)]), .o 2000032 (.ae 182), .o 2000036 (.ae 175)],[(0, .box 3 0)],[1,1,1,2,0,0],[.v 2 (.int .i64), .u 3 (.box 132)],[],[2],as9⟩ (fun x=>Ki N x.2.2.2.1 x.2.2.2.2.1 x.2.2.2.2.2.1) ((((((((((((QW N).u Tryz.f56).aM ⟨[1,1,1,1,1,1,0,1,0,0,1,0,0,1,1,0,1],[.o 100000000 (.box 80), .o 100000001 (.box 80), .o 100000002 (.box 93), .o 0 (.bM 132 [(32,8),(36,9)]), .o 3 (.box 169), .o 4 (.ae 3), .o 5 (.ae 175), .o 8 (.box 175), .v 94 .bool, .o 2000032 (.ae 182), .o 2000036 (.ae 175)],[(0, .box 3 0),(3, .box 4 0),(4, .c (.own 5)),(5, .c (.own 6)),(8, .box 7 0)],[1,1,1,1,1,1,1,2,1,1],[⟨.normal,[.u 7 (.box 175)],[]⟩],[0,3,4,5,7,8]⟩ fun x=>Hi N x.2.2.2.2.2.1 x.2.2.2.2.2.2.2.1 x.2.2.2.2.2.2.2.2.1).b4 N ⟨[1,1,1,1,1,1,0,1,0],[.o 100000000 (.box 80), .o 100000001 (.box 80), .o 100000002 (.box 93), .o 0 (.bM 132 [(32,7),(36,8)]), .o 3 (.box 169), .o 4 (.ae 3), .o 5 (.ae 175), .v 7 (.int .i64), .o 2000032 (.ae 182), .o 2000036 (.ae 175)],[(0, .box 3 0),(3, .box 4 0),(4, .c (.own 5)),(5, .c (.own 6))],[1,1,1,2,1,1,1,1,0],[⟨.exit 1,[.u 3 (.bM 132 [(32,7),(36,9)]), .o 2000036 (.ae 175)],[]⟩],[0,3,4,5]⟩ fun n x=>zT N x.2.2.2.2.2.1 x.2.2.2.2.2.2.1 n x.2.2.2.1 x.2.2.2.2.2.2.2.1 x.2.2.2.2.2.2.2.2.2.1).b4 N ⟨[1,1,1,1,1,1,1,1,1,0,1,0],[.o 100000000 (.box 80), .o 100000001 (.box 80), .o 100000002 (.box 93), .o 0 (.bM 132 [(32,8),(36,9)]), .o 4 (.ae 3), .o 9 (.box 72), .o 10 (.ae 3), .o 12 (.ae 3), .v 13 (.int .i64), .o 2000032 (.ae 182), .o 2000036 (.ae 175)],[(0, .box 3 0),(4, .c (.own 4)),(9, .box 5 0),(10, .c (.own 6)),(12, .c (.own 7))],[1,1,1,1,1,1,1,0,1,1],[⟨.exit 3,[.o 12 (.ae 3)],[(12, .c (.own 10))]⟩],[0,9]⟩ fun n x=>zU N x.2.2.2.2.1 x.2.2.2.2.2.2.1 n x.2.2.2.2.2.2.2.1 x.2.2.2.2.2.2.2.2.1).aM ⟨[1,1,1,1,1,1,1,1,1,1,1,0,1,0,0,1,0,0,1,0,1,0,0,1,0],[.o 100000000 (.box 80), .o 100000001 (.box 80), .o 100000002 (.box 93), .o 0 (.bM 132 [(32,8),(36,9)]), .o 9 (.box 72), .o 12 (.ae 3), .o 14 (.ne 22 3), .v 15 (.int .i64), .o 16 (.ae 3), .v 17 (.int .i64), .o 2000032 (.ae 182), .o 2000036 (.ae 175)],[(0, .box 3 0),(9, .box 4 0),(12, .c (.own 5)),(14, .c (.own 6)),(16, .c (.own 7))],[1,1,1,1,1,1,2,0,1,1],[⟨.normal,[.u 6 (.ne 22 3), .o 16 (.ae 3)],[(16, .c (.own 10))]⟩],[0,9,12,14,15,17]⟩ fun x=>Hj N x.2.2.2.2.2.1 x.2.2.2.2.2.2.1 x.2.2.2.2.2.2.2.1 x.2.2.2.2.2.2.2.2.1 x.2.2.2.2.2.2.2.2.2.1).b4 N ⟨[1,1,1,1,1,1,1,1,1,1,1,0,1,0,0,1,0,0,1,0,1,0],[.o 100000000 (.box 80), .o 100000001 (.box 80), .o 100000002 (.box 93), .o 0 (.bM 132 [(32,8),(36,9)]), .o 9 (.box 72), .o 12 (.ae 3), .o 14 (.ne 22 3), .v 15 (.int .i64), .o 16 (.ae 3), .v 17 (.int .i64), .o 2000032 (.ae 182), .o 2000036 (.ae 175)],[(0, .box 3 0),(9, .box 4 0),(12, .c (.own 5)),(14, .c (.own 6)),(16, .c (.own 7))],[1,1,1,1,1,1,2,0,1,1],[⟨.exit 7,[.u 6 (.ne 22 3), .o 16 (.ae 3)],[(16, .c (.own 10))]⟩],[0,9,12,14,15]⟩ fun n x=>zW N x.2.2.2.2.2.1 x.2.2.2.2.2.2.2.1 n x.2.2.2.2.2.2.1 x.2.2.2.2.2.2.2.2.1 x.2.2.2.2.2.2.2.2.2.1).b4 N ⟨[1,1,1,1,1,1,1,1,1,1,1,0,1,0],[.o 100000000 (.box 80), .o 100000001 (.box 80), .o 100000002 (.box 93), .o 0 (.bM 132 [(32,7),(36,8)]), .o 9 (.box 72), .o 12 (.ae 3), .o 14 (.ne 22 3), .v 15 (.int .i64), .o 2000032 (.ae 182), .o 2000036 (.ae 175)],[(0, .box 3 0),(9, .box 4 0),(12, .c (.own 5)),(14, .c (.own 6))],[1,1,1,1,1,1,2,1,1],[⟨.exit 5,[.u 6 (.ne 22 3)],[]⟩],[0,9,12,14]⟩ fun n x=>zV N x.2.2.2.2.2.1 n x.2.2.2.2.2.2.1 x.2.2.2.2.2.2.2.1).aM ⟨[1,1,1,1,1,1,1,1,1,1,1,1,1,0,1,0,0,1,0,0],[.o 100000000 (.box 80), .o 100000001 (.box 80), .o 100000002 (.box 93), .o 0 (.bM 132 [(32,7),(36,8)]), .o 9 (.box 72), .o 12 (.ae 3), .o 14 (.ne 22 3), .v 18 .bool, .v 19 (.int .i64), .o 2000032 (.ae 182), .o 2000036 (.ae 175)],[(0, .box 3 0),(9, .box 4 0),(12, .c (.own 5)),(14, .c (.own 6))],[1,1,1,1,1,1,2,1,1],[⟨.normal,[.u 6 (.ne 22 3), .v 18 .bool],[]⟩],[0,9,12,14,19]⟩ fun x=>Hk N x.2.2.2.1 x.2.2.2.2.2.2.1 x.2.2.2.2.2.2.2.1 x.2.2.2.2.2.2.2.2.1).b4 N ⟨[1,1,1,1,1,1,1,1,1,1,1,1,1,0,1,0],[.o 100000000 (.box 80), .o 100000001 (.box 80), .o 100000002 (.box 93), .o 0 (.bM 132 [(32,7),(36,8)]), .o 9 (.box 72), .o 12 (.ae 3), .o 14 (.ne 22 3), .v 18 .bool, .v 19 (.int .i64), .o 2000032 (.ae 182), .o 2000036 (.ae 175)],[(0, .box 3 0),(9, .box 4 0),(12, .c (.own 5)),(14, .c (.own 6))],[1,1,1,1,1,1,2,1,1],[⟨.exit 9,[.u 6 (.ne 22 3), .v 18 .bool],[]⟩],[0,9,12,14]⟩ fun n x=>AR N x.2.2.2.1 n x.2.2.2.2.2.2.1 x.2.2.2.2.2.2.2.1 x.2.2.2.2.2.2.2.2.1).b4 N ⟨[1,1,1,1,1,1,1,1,1,1,1,1,1,1,1,1,1,1,1,0,1,0],[.o 100000000 (.box 80), .o 100000001 (.box 80), .o 100000002 (.box 93), .o 0 (.bM 132 [(32,7)]), .o 9 (.box 72), .o 12 (.ae 3), .o 20 (.box 76), .v 22 (.int .i64), .o 2000032 (.ae 182)],[(0, .box 3 0),(9, .box 4 0),(12, .c (.own 5)),(20, .box 6 0)],[1,1,1,2,1,1,1,0],[⟨.exit 11,[.u 3 (.bM 132 [(32,8)]), .o 2000032 (.ae 182)],[]⟩],[0,9,12,20]⟩ fun n x=>AS N x.2.2.2.2.2.1 n x.2.2.2.1 x.2.2.2.2.2.2.2.1 x.2.2.2.2.2.2.2.2.1).h2 Tryz.func56)
noncomputable def LD (N:Nat):bX bB:=(QX N).cj ⟨100,4,[.v 0 (.ae 22), .v 1 (.int .i64), .v 2 (.int .i64), .v 3 (.int .i64)],[],as6,0,[.o 8 (.ae 182), .v 9 (.int .i64)],[(8, .c (.own 0))],[.tmp 8, .tmp 9],as9⟩ (fun r x=>KR N x.1 x.2.1 x.2.2.1 x.2.2.2.1) ((((((QX N).u Tryz.f100).aM ⟨[1,0,0],[.v 0 (.ae 22), .v 1 (.int .i64), .v 2 (.int .i64)],[],[],[⟨.normal,[.v 34 .bool],[]⟩],[0,1,2,3]⟩ fun x=>HZ N x.1 x.2.1 x.2.2.1).aM ⟨[1,1,0,0],[.v 0 (.ae 22), .v 1 (.int .i64), .v 3 (.int .i64)],[],[],[⟨.normal,[.v 45 .bool],[]⟩],[0,1,2,3]⟩ fun x=>H0 N x.1 x.2.1 x.2.2.1).b4 N ⟨[1,1,1,1,0,1,0],[.v 0 (.ae 22), .v 1 (.int .i64), .v 2 (.int .i64), .o 10 (.ae 182), .v 11 (.int .i64)],[(10, .c (.own 0))],[0],[⟨.exit 0,[.o 10 (.ae 182)],[(10, .c (.own 1))]⟩],[]⟩ fun n x=>AB N x.1 x.2.1 x.2.2.1 n x.2.2.2.1 x.2.2.2.2.1).fn Tryz.func100)
noncomputable def Mf:fO D:=⟨86,3,[.o 100000000 (.box 80), .o 100000001 (.box 80), .o 100000002 (.box 93), .o 100000003 (.ae 182), .o 0 (.bM 132 [(32,5)]), .v 1 (.int .i64), .v 2 (.int .i64), .o 2000032 (.ae 182)],[(0, .box 4 0)],[1,1,1,1,2,0],[.v 6 .bool, .o 2000032 (.ae 182), .u 4 (.bM 132 [(32,6)])],[],[6],as9⟩
noncomputable def C8 (N:Nat):Mf.hS.F:=fun x=>J3 N x.2.2.2.2.1 x.2.2.2.2.2.1 x.2.2.2.2.2.2.1 x.2.2.2.2.2.2.2.1
theorem aqS (N:Nat):gH bB Mf (C8 N):=dv.h2 (dv.nil:dv (LD N).a6 (hq Tryz.f86)) Tryz.func86
noncomputable def aai (N:Nat):bX bB:=(LD N).hZ Mf (C8 N) (aqS N)
noncomputable def XV:fO D:=⟨86,3,[.o 100000000 (.box 80), .o 100000001 (.box 80), .o 100000002 (.box 93), .o 100000004 (.ae 182), .o 0 (.bM 132 [(32,5)]), .v 1 (.int .i64), .v 2 (.int .i64), .o 2000032 (.ae 182)],[(0, .box 4 0)],[1,1,1,1,2,0],[.v 6 .bool, .o 2000032 (.ae 182), .u 4 (.bM 132 [(32,6)])],[],[6],as9⟩
theorem apQ (N:Nat):gH bB XV (C8 N):=dv.h2 (dv.nil:dv (LD N).a6 (hq Tryz.f86)) Tryz.func86
noncomputable def QY (N:Nat):bX bB:=(aai N).hZ XV (C8 N) (apQ N)
noncomputable def QZ (N:Nat):bX bB:=(QY N).hZ ⟨57,1,[.o 100000000 (.box 80), .o 100000001 (.box 80), .o 100000002 (.box 93), .o 0 (.bM 132 [(32,4)]), .o 2000032 (.ae 182)],[(0, .box 3 0)],[1,1,1,2,0],[.v 2 (.int .i64), .o 2000032 (.ae 182), .u 3 (.bM 132 [(32,5)])],[],[2],as9⟩ (fun x=>KH N x.2.2.2.1 x.2.2.2.2.1) (((((((QY N).u Tryz.f57).aM ⟨[1,0,0,1,1,0],[.o 100000000 (.box 80), .o 100000001 (.box 80), .o 100000002 (.box 93), .o 0 (.bM 132 [(32,4)]), .o 2000032 (.ae 182)],[(0, .box 3 0)],[1,1,1,1,1],[⟨.normal,[.v 12 .bool],[]⟩],[0]⟩ fun x=>Iu N x.2.2.2.1).aM ⟨[1,0,0,1,1,1,1,0],[.o 100000000 (.box 80), .o 100000001 (.box 80), .o 100000002 (.box 93), .o 0 (.bM 132 [(32,4)]), .o 2000032 (.ae 182)],[(0, .box 3 0)],[1,1,1,1,1],[⟨.normal,[.v 37 .bool],[]⟩],[0]⟩ fun x=>Iv N x.2.2.2.1).aM ⟨[1,0,0,1,1,1,1,1,1,0],[.o 100000000 (.box 80), .o 100000001 (.box 80), .o 100000002 (.box 93), .o 0 (.bM 132 [(32,4)]), .o 2000032 (.ae 182)],[(0, .box 3 0)],[1,1,1,1,1],[⟨.normal,[.v 73 .bool],[]⟩],[0]⟩ fun x=>Iw N x.2.2.2.1).b4 N ⟨[1,1,1,0,1,0],[.o 100000000 (.box 80), .o 100000001 (.box 80), .o 100000002 (.box 93), .o 0 (.bM 132 [(32,5)]), .o 3 (.ae 182), .v 5 (.int .i64), .o 2000032 (.ae 182)],[(0, .box 3 0),(3, .c (.own 4))],[1,1,1,2,1,0],[⟨.exit 1,[.u 3 (.bM 132 [(32,6)]), .o 2000032 (.ae 182)],[]⟩,⟨.ret,[.u 3 (.bM 132 [(32,6)]), .v 2 (.int .i64), .o 2000032 (.ae 182)],[]⟩],[0]⟩ fun n x=>A8 N x.2.2.2.2.1 n x.2.2.2.1 x.2.2.2.2.2.1 x.2.2.2.2.2.2.1).h2 Tryz.func57)
noncomputable def Q0 (N:Nat):bX bB:=(QZ N).cj ⟨126,3,[.v 0 (.agg 36), .v 1 (.agg 26), .v 2 (.ae 122)],[],as6,0,[.v 6 (.int .i64)],[],[.tmp 6],as5⟩ (fun r x=>K7 N x.1 x.2.1 x.2.2.1) (((QZ N).u Tryz.f126).fn Tryz.func126)
noncomputable def Q1 (N:Nat):bX bB:=(Q0 N).cj ⟨127,2,[.v 0 (.agg 26), .v 1 (.ae 122)],[],as6,0,[.o 4 (.ae 3), .v 5 (.int .i64), .v 6 (.int .i64)],[(4, .c (.own 0))],[.tmp 4, .tmp 5, .tmp 6],as9⟩ (fun r x=>KQ N x.1 x.2.1) ((((Q0 N).u Tryz.f127).b4 N ⟨[1,1,0,1,0],[.v 1 (.ae 122), .o 2 (.box 26), .o 7 (.ae 3), .v 8 (.int .i64)],[(2, .box 0 0),(7, .c (.own 1))],[1,0],[⟨.exit 0,[.o 7 (.ae 3)],[(7, .c (.own 2))]⟩,⟨.ret,[.v 5 (.int .i64), .v 6 (.int .i64)],[(4, .c .gS)]⟩],[]⟩ fun n x=>AA N x.1 x.2.1 n x.2.2.1 x.2.2.2.1).fn Tryz.func127)
noncomputable def Q3 (N:Nat):bX bB:=(Q1 N).cj ⟨207,1,[.v 0 (.ae 122)],[],as6,0,[.v 2 (.int .i64), .v 3 (.int .i64), .v 4 (.int .i64), .v 5 (.int .i64)],[],[.tmp 2, .tmp 3, .tmp 4, .tmp 5],as5⟩ (fun r x=>KW N x.1) ((((Q1 N).u Tryz.f207).b4 N ⟨[1,1,0,1,0],[.v 0 (.ae 122), .v 2 (.int .i64), .v 3 (.int .i64), .v 4 (.int .i64), .v 7 (.int .i64)],[],[],[⟨.exit 0,[.v 2 (.int .i64), .v 3 (.int .i64), .v 4 (.int .i64)],[]⟩],[]⟩ fun n x=>AK N x.1 n x.2.1 x.2.2.1 x.2.2.2.1 x.2.2.2.2.1).fn Tryz.func207)
noncomputable def Q4 (N:Nat):bX bB:=(Q3 N).cj ⟨208,2,[.v 0 (.ae 3), .v 1 (.int .i64)],[],as6,0,[.v 4 .bool],[],[.tmp 4],as5⟩ (fun r x=>xA N x.1 x.2.1) ((((Q3 N).u Tryz.f208).b4 N ⟨[1,0,1,0],[.v 0 (.ae 3), .v 1 (.int .i64), .v 5 (.int .i64)],[],[],[⟨.exit 0,[],[]⟩,⟨.ret,[.v 4 .bool],[]⟩],[]⟩ fun n x=>Bi N x.1 x.2.1 n x.2.2.1).fn Tryz.func208)
noncomputable def Q5 (N:Nat):bX bB:=(Q4 N).cj ⟨209,1,[.v 0 (.int .i64)],[],as6,0,[.v 2 (.int .i64)],[],[.tmp 2],as5⟩ (fun r x=>KO N x.1) (((Q4 N).u Tryz.f209).fn Tryz.func209)
noncomputable def Q6 (N:Nat):bX bB:=(Q5 N).cj ⟨162,2,[.v 0 (.ae 122), .v 1 (.ae 3)],[],as6,0,[.v 1000000 (.agg 88), .v 5 (.int .i64)],[],[.cell 4 88, .tmp 5],as5⟩ (fun r x=>xu N x.1 x.2.1) (((((((((Q5 N).u Tryz.f162).aM ⟨[1,1,1,0,1,0,0,1,0,0,0],[.v 0 (.ae 122), .v 1 (.ae 3), .o 4 (.box 88), .v 10 (.int .i64)],[(4, .box 0 0)],[1],[⟨.normal,[.v 44 .bool],[]⟩],[0,1,4,6,7,8,10]⟩ fun x=>Jf N x.1 x.2.1 x.2.2.2.1).b4 N ⟨[1,1,1,0,1,0],[.v 0 (.ae 122), .v 1 (.ae 3), .o 4 (.box 88), .v 10 (.int .i64)],[(4, .box 0 0)],[2],[⟨.exit 0,[.u 0 (.box 88)],[]⟩,⟨.ret,[.u 0 (.box 88), .v 5 (.int .i64)],[]⟩],[0,1,4,6,7,8]⟩ fun n x=>BV N x.1 x.2.1 n x.2.2.1 x.2.2.2.1).b4 N ⟨[1,1,1,1,0,1,0],[.v 1 (.ae 3), .o 4 (.box 88), .v 11 (.int .i64)],[(4, .box 0 0)],[2],[⟨.exit 2,[.u 0 (.box 88)],[]⟩,⟨.ret,[.u 0 (.box 88), .v 5 (.int .i64)],[]⟩],[0,1,4,6,7,8]⟩ fun n x=>BW N x.1 n x.2.1 x.2.2.1).aM ⟨[1,1,1,1,1,1,0,1,0,0,1,0],[.v 0 (.ae 122), .v 1 (.ae 3), .o 4 (.box 88), .o 12 (.box 88), .v 13 (.int .i64)],[(4, .box 0 0),(12, .box 1 0)],[1,2],[⟨.normal,[.u 1 (.box 88)],[]⟩],[0,1,4,6,7,12,13]⟩ fun x=>Jg N x.1 x.2.1 x.2.2.2.1 x.2.2.2.2.1).b4 N ⟨[1,1,1,1,1,1,0,1,0],[.v 0 (.ae 122), .v 1 (.ae 3), .o 4 (.box 88), .o 12 (.box 88), .v 13 (.int .i64)],[(4, .box 0 0),(12, .box 1 0)],[1,2],[⟨.exit 4,[.u 1 (.box 88)],[]⟩],[4,6,7,12]⟩ fun n x=>BX N x.1 x.2.1 n x.2.2.2.1 x.2.2.2.2.1).aM ⟨[1,1,1,1,1,1,1,1,0,1],[.o 4 (.box 88), .v 7 (.int .i64), .o 12 (.box 88), .v 92 .bool],[(4, .box 0 0),(12, .box 1 0)],[1,2],[⟨.normal,[.u 1 (.box 88)],[]⟩],[4,12]⟩ fun x=>Jh N x.2.1 x.2.2.1 x.2.2.2.1).fn Tryz.func162)
noncomputable def Q7 (N:Nat):bX bB:=(Q6 N).cj ⟨210,3,[.v 0 (.ae 61), .v 1 (.int .i64), .v 2 (.int .i64)],[],as6,0,[.v 6 (.int .i64), .v 7 .bool],[],[.tmp 6, .tmp 7],as5⟩ (fun r x=>Lh N x.1 x.2.1 x.2.2.1) ((((((Q6 N).u Tryz.f210).aM ⟨[1,1,0,1,0,0,1,0,0,0],[.v 0 (.ae 61), .v 1 (.int .i64), .v 2 (.int .i64), .v 8 (.int .i64), .v 9 .bool, .v 10 (.int .i64)],[],[],[⟨.normal,[.v 45 .bool],[]⟩],[0,1,2,8,9,10]⟩ fun x=>IU N x.1 x.2.1 x.2.2.1 x.2.2.2.1 x.2.2.2.2.1 x.2.2.2.2.2.1).aM ⟨[1,1,0,1,0,0,1,0],[.v 0 (.ae 61), .v 1 (.int .i64), .v 2 (.int .i64), .v 8 (.int .i64), .v 9 .bool, .v 10 (.int .i64)],[],[],[⟨.normal,[.v 8 (.int .i64), .v 9 .bool],[]⟩],[0,1,2,10]⟩ fun x=>IT N x.1 x.2.1 x.2.2.1 x.2.2.2.1 x.2.2.2.2.1 x.2.2.2.2.2.1).b4 N ⟨[1,1,0,1,0],[.v 0 (.ae 61), .v 1 (.int .i64), .v 2 (.int .i64), .v 8 (.int .i64), .v 9 .bool, .v 10 (.int .i64)],[],[],[⟨.exit 0,[.v 8 (.int .i64), .v 9 .bool],[]⟩],[]⟩ fun n x=>Bv N x.1 x.2.1 x.2.2.1 n x.2.2.2.1 x.2.2.2.2.1 x.2.2.2.2.2.1).fn Tryz.func210)
noncomputable def Q8 (N:Nat):bX bB:=(Q7 N).cj ⟨163,3,[.v 0 (.ae 61), .v 1 (.int .i64), .v 2 (.int .i64)],[],as6,0,[.v 6 (.int .i64), .v 7 (.int .i64)],[],[.tmp 6, .tmp 7],as5⟩ (fun r x=>Kq N x.1 x.2.1 x.2.2.1) ((((Q7 N).u Tryz.f163).aM ⟨[1,1,0,0],[.v 1 (.int .i64), .v 2 (.int .i64)],[],[],[⟨.normal,[.v 26 .bool],[]⟩],[0,1,2]⟩ fun x=>Ib N x.1 x.2.1).fn Tryz.func163)
noncomputable def Q9 (N:Nat):bX bB:=(Q8 N).cj ⟨128,5,[.v 0 (.ae 122), .v 1 (.ae 3), .v 2 (.ae 61), .v 3 (.int .i64), .v 4 (.int .i64)],[],as6,0,[.v 1000000 (.agg 88), .v 11 (.int .i64)],[],[.cell 10 88, .tmp 11],as5⟩ (fun r x=>K2 N x.1 x.2.1 x.2.2.1 x.2.2.2.1 x.2.2.2.2.1) (((Q8 N).u Tryz.f128).fn Tryz.func128)
noncomputable def Ra (N:Nat):bX bB:=(Q9 N).cj ⟨248,2,[.v 0 (.int .i64), .v 1 (.agg 122)],[],as6,0,[.v 4 (.int .i64)],[],[.tmp 4],as5⟩ (fun r x=>Li N x.1 x.2.1) (((Q9 N).u Tryz.f248).fn Tryz.func248)
noncomputable def Rb (N:Nat):bX bB:=(Ra N).cj ⟨249,4,[.v 0 (.agg 122), .v 1 (.agg 122), .v 2 (.int .i64), .v 3 (.int .i64)],[],as6,0,[.v 8 .bool],[],[.tmp 8],as5⟩ (fun r x=>KC N x.1 x.2.1 x.2.2.1 x.2.2.2.1) ((((Ra N).u Tryz.f249).aM ⟨[1,0],[.v 2 (.int .i64), .v 3 (.int .i64), .o 4 (.box 122), .o 5 (.box 122)],[(4, .box 0 0),(5, .box 1 0)],[1,1],[⟨.normal,[.v 8 .bool],[]⟩],[]⟩ fun x=>Im N x.1 x.2.1 x.2.2.1 x.2.2.2.1).fn Tryz.func249)
noncomputable def Rc (N:Nat):bX bB:=(Rb N).cj ⟨211,3,[.v 0 (.agg 117), .v 1 (.ae 122), .v 2 (.int .i64)],[],as6,0,[.v 6 .bool],[],[.tmp 6],as5⟩ (fun r x=>KP N x.1 x.2.1 x.2.2.1) (((((((((((Rb N).u Tryz.f211).aM ⟨[1,1,0,1,0,0,1],[.o 3 (.box 117), .v 12 (.int .i64), .v 13 .bool],[(3, .box 0 0)],[1],[⟨.normal,[.v 13 .bool],[]⟩],[1,2,3,7,12]⟩ fun x=>HV N x.2.1 x.2.2.1).b4 N ⟨[1,1,0,1,0,1,0,0,1,0],[.v 1 (.ae 122), .v 2 (.int .i64), .o 3 (.box 117), .v 7 (.int .i64), .v 8 (.int .i64)],[(3, .box 0 0)],[1],[⟨.exit 1,[.v 7 (.int .i64)],[]⟩],[3]⟩ fun n x=>Ax N x.1 x.2.1 x.2.2.1 n x.2.2.2.1 x.2.2.2.2.1).aM ⟨[1,1,0,1,0,1,1,1,0,1,0,0,1,0,0,0],[.v 1 (.ae 122), .v 2 (.int .i64), .o 3 (.box 117), .v 9 (.int .i64)],[(3, .box 0 0)],[1],[⟨.normal,[.v 63 .bool],[]⟩],[1,2,3,9]⟩ fun x=>HW N x.1 x.2.1 x.2.2.1 x.2.2.2.1).b4 N ⟨[1,1,0,1,0,1,1,1,0,1,0],[.v 1 (.ae 122), .v 2 (.int .i64), .o 3 (.box 117), .v 9 (.int .i64)],[(3, .box 0 0)],[1],[⟨.exit 3,[],[]⟩,⟨.ret,[.v 6 .bool],[]⟩],[]⟩ fun n x=>Ay N x.1 x.2.1 x.2.2.1 n x.2.2.2.1).aM ⟨[1,1,0,1,0,1,1,1,1,1,0,0],[.v 1 (.ae 122), .v 2 (.int .i64), .o 3 (.box 117)],[(3, .box 0 0)],[1],[⟨.normal,[.v 6 .bool],[]⟩],[]⟩ fun x=>HX N x.1 x.2.1 x.2.2.1).b4 N ⟨[1,1,0,1,0,1,1,1,1,1,1,1,1,1,0,0,1,0],[.v 1 (.ae 122), .o 3 (.box 117), .v 7 (.int .i64), .v 10 (.int .i64)],[(3, .box 0 0)],[1],[⟨.exit 5,[.v 7 (.int .i64)],[]⟩],[1,2,3]⟩ fun n x=>Az N x.1 n x.2.2.1 x.2.2.2.1).aM ⟨[1,1,0,1,0,1,1,1,1,1,1,1,1,1,0,1,0],[.v 1 (.ae 122), .v 2 (.int .i64), .o 3 (.box 117), .v 7 (.int .i64)],[(3, .box 0 0)],[1],[⟨.normal,[.v 6 .bool],[]⟩],[]⟩ fun x=>HY N x.1 x.2.1 x.2.2.1 x.2.2.2.1).aM ⟨[1,1,0,1],[.v 1 (.ae 122), .v 2 (.int .i64), .o 3 (.box 117), .v 7 (.int .i64), .v 12 (.int .i64)],[(3, .box 0 0)],[1],[⟨.normal,[],[]⟩,⟨.ret,[.v 6 .bool],[]⟩],[]⟩ fun x=>HU N x.1 x.2.1 x.2.2.1 x.2.2.2.1 x.2.2.2.2.1).fn Tryz.func211)
noncomputable def Re (N:Nat):bX bB:=(Rc N).cj ⟨164,3,[.v 0 (.agg 117), .v 1 (.ae 122), .v 2 (.ae 3)],[],as6,0,[.v 6 (.int .i64)],[],[.tmp 6],as5⟩ (fun r x=>K4 N x.1 x.2.1 x.2.2.1) ((((((((Rc N).u Tryz.f164).aM ⟨[1,1,0,1,0,1,0,0,1,0],[.o 3 (.box 117), .v 7 (.int .i64), .o 8 (.box 88)],[(3, .box 0 0),(8, .box 1 0)],[1,1],[⟨.normal,[.v 34 .bool],[]⟩],[7]⟩ fun x=>Ji N x.1 x.2.1 x.2.2.1).aM ⟨[1,1,0,1,0,1,1,1,0,1,1,0,1,0,0,1,0,0,0],[.v 1 (.ae 122), .v 2 (.ae 3), .o 3 (.box 117), .v 12 (.int .i64)],[(3, .box 0 0)],[1],[⟨.normal,[.v 61 .bool],[]⟩],[1,2,3,7,10,11,12]⟩ fun x=>Jk N x.1 x.2.1 x.2.2.2.1).aM ⟨[1,1,0,1,0,1,1,1,0,1,1,0,1,0,0,1,0],[.v 1 (.ae 122), .v 2 (.ae 3), .o 3 (.box 117), .v 11 (.int .i64), .v 12 (.int .i64)],[(3, .box 0 0)],[1],[⟨.normal,[.v 11 (.int .i64)],[]⟩],[1,2,3,7,10,12]⟩ fun x=>Jj N x.1 x.2.1 x.2.2.2.1 x.2.2.2.2.1).b4 N ⟨[1,1,0,1,0,1,1,1,0,1,1,0,1,0],[.v 1 (.ae 122), .v 2 (.ae 3), .o 3 (.box 117), .v 7 (.int .i64), .v 11 (.int .i64), .v 12 (.int .i64)],[(3, .box 0 0)],[1],[⟨.exit 1,[.v 11 (.int .i64)],[]⟩],[3,7,10]⟩ fun n x=>B1 N x.1 x.2.1 x.2.2.2.1 n x.2.2.2.2.1 x.2.2.2.2.2.1).b4 N ⟨[1,1,1,0,1,0],[.v 1 (.ae 122), .o 3 (.box 117), .v 7 (.int .i64), .v 13 (.int .i64)],[(3, .box 0 0)],[1],[⟨.exit 3,[],[]⟩,⟨.ret,[.v 6 (.int .i64)],[]⟩],[]⟩ fun n x=>B2 N x.1 x.2.1 x.2.2.1 n x.2.2.2.1).fn Tryz.func164)
noncomputable def Rf (N:Nat):bX bB:=(Re N).cj ⟨129,3,[.v 0 (.ae 117), .v 1 (.ae 122), .v 2 (.ae 3)],[],as6,0,[.v 6 (.int .i64), .v 7 (.int .i64), .v 8 (.int .i64)],[],[.tmp 6, .tmp 7, .tmp 8],as5⟩ (fun r x=>K3 N x.1 x.2.1 x.2.2.1) ((((Re N).u Tryz.f129).b4 N ⟨[1,1,1,0,1,0],[.v 0 (.ae 117), .v 1 (.ae 122), .v 2 (.ae 3), .v 12 (.int .i64)],[],[],[⟨.exit 0,[],[]⟩,⟨.ret,[.v 6 (.int .i64), .v 7 (.int .i64), .v 8 (.int .i64)],[]⟩],[]⟩ fun n x=>BY N x.1 x.2.1 x.2.2.1 n x.2.2.2.1).fn Tryz.func129)
noncomputable def Rg (N:Nat):bX bB:=(Rf N).cj ⟨165,2,[.v 0 (.ae 3), .v 1 (.int .i64)],[],as6,0,[.v 4 .bool],[],[.tmp 4],as5⟩ (fun r x=>KN N x.1 x.2.1) (((((Rf N).u Tryz.f165).aM ⟨[1,0,1,0,0,1,0,0,0],[.v 0 (.ae 3), .v 1 (.int .i64), .v 5 (.int .i64)],[],[],[⟨.normal,[.v 24 .bool],[]⟩],[0,1,5]⟩ fun x=>HT N x.1 x.2.1 x.2.2.1).b4 N ⟨[1,0,1,0],[.v 0 (.ae 3), .v 1 (.int .i64), .v 5 (.int .i64)],[],[],[⟨.exit 0,[],[]⟩,⟨.ret,[.v 4 .bool],[]⟩],[]⟩ fun n x=>Aw N x.1 x.2.1 n x.2.2.1).fn Tryz.func165)
noncomputable def Rh (N:Nat):bX bB:=(Rg N).cj ⟨166,2,[.v 0 (.ae 3), .v 1 (.int .i64)],[],as6,0,[.v 4 (.int .i64), .v 5 (.int .i64)],[],[.tmp 4, .tmp 5],as5⟩ (fun r x=>Ls N x.1 x.2.1) ((((((Rg N).u Tryz.f166).aM ⟨[1,1,0,1,0,0,1,0,0,0,1,0,1,0,1],[.v 5 (.int .i64), .v 24 .bool],[],[],[⟨.normal,[.v 5 (.int .i64)],[]⟩],[0,1,4,7]⟩ fun x=>II N x.1 x.2.1).aM ⟨[1,1,0,1,0,0,1,0],[.v 0 (.ae 3), .v 1 (.int .i64), .v 4 (.int .i64), .v 5 (.int .i64), .v 6 .bool, .v 7 (.int .i64)],[],[],[⟨.normal,[.v 4 (.int .i64), .v 5 (.int .i64), .v 6 .bool],[]⟩],[0,1,7]⟩ fun x=>IH N x.1 x.2.1 x.2.2.1 x.2.2.2.1 x.2.2.2.2.1 x.2.2.2.2.2.1).b4 N ⟨[1,1,0,1,0],[.v 0 (.ae 3), .v 1 (.int .i64), .v 4 (.int .i64), .v 5 (.int .i64), .v 6 .bool, .v 7 (.int .i64)],[],[],[⟨.exit 0,[.v 4 (.int .i64), .v 5 (.int .i64)],[]⟩],[]⟩ fun n x=>Bn N x.1 x.2.1 n x.2.2.1 x.2.2.2.1 x.2.2.2.2.1 x.2.2.2.2.2.1).fn Tryz.func166)
noncomputable def Ri (N:Nat):bX bB:=(Rh N).cj ⟨130,2,[.v 0 (.ae 3), .v 1 (.int .i64)],[],as6,0,[.o 4 (.ae 251), .v 5 (.int .i64)],[(4, .c (.own 0))],[.tmp 4, .tmp 5],as9⟩ (fun r x=>Lg N x.1 x.2.1) ((((((Rh N).u Tryz.f130).aM ⟨[1,0,0],[.v 1 (.int .i64)],[],[],[⟨.normal,[.v 15 .bool],[]⟩],[0,1]⟩ fun x=>IQ N x.1).aM ⟨[1,1,1,1,1,0,1,0,0,1,0],[.v 0 (.ae 3), .o 6 (.ae 251), .v 7 (.int .i64)],[(6, .c (.own 0))],[0],[⟨.normal,[.o 6 (.ae 251)],[(6, .c (.own 1))]⟩],[0,1,7]⟩ fun x=>IS N x.1 x.2.1 x.2.2.1).b4 N ⟨[1,1,1,1,1,0,1,0],[.v 0 (.ae 3), .v 1 (.int .i64), .o 6 (.ae 251), .v 7 (.int .i64)],[(6, .c (.own 0))],[0],[⟨.exit 0,[.o 6 (.ae 251)],[(6, .c (.own 1))]⟩],[]⟩ fun n x=>Bu N x.1 x.2.1 n x.2.2.1 x.2.2.2.1).fn Tryz.func130)
noncomputable def LF (N:Nat):bX bB:=(Ri N).cj ⟨101,3,[.v 0 (.agg 36), .v 1 (.agg 26), .v 2 (.ae 122)],[],as6,0,[.v 1000000 (.agg 91), .v 7 (.int .i64), .v 8 (.int .i64), .v 9 (.int .i64)],[],[.cell 6 91, .tmp 7, .tmp 8, .tmp 9],as9⟩ (fun r x=>K6 N x.1 x.2.1 x.2.2.1) (((((Ri N).u Tryz.f101).aM ⟨[1,1,1,1,1,1,0,1,0,0,1,0,0,0,0],[.o 3 (.box 36), .o 4 (.box 26), .o 6 (.box 91), .o 11 (.ae 3), .o 14 (.ae 3), .v 15 (.int .i64)],[(3, .box 0 0),(4, .box 1 0),(6, .box 2 0),(11, .c (.own 3)),(14, .c (.own 4))],[1,1,1,1,1],[⟨.normal,[.v 64 .bool],[]⟩],[2,3,4,6,11,14,15]⟩ fun x=>Jn N x.2.2.2.1 x.2.2.2.2.2.1).b4 N ⟨[1,1,1,1,1,1,0,1,0],[.o 3 (.box 36), .o 4 (.box 26), .o 6 (.box 91), .o 11 (.ae 3), .o 14 (.ae 3), .v 15 (.int .i64)],[(3, .box 0 0),(4, .box 1 0),(6, .box 2 0),(11, .c (.own 3)),(14, .c (.own 4))],[1,1,2,1,0],[⟨.exit 0,[.u 2 (.box 91), .o 14 (.ae 3)],[(14, .c (.own 5))]⟩,⟨.ret,[.u 2 (.box 91), .v 7 (.int .i64), .v 8 (.int .i64), .v 9 (.int .i64)],[]⟩],[2,3,4,6]⟩ fun n x=>B4 N x.2.1 x.2.2.2.1 n x.2.2.1 x.2.2.2.2.1 x.2.2.2.2.2.1).fn Tryz.func101)
noncomputable def Md:fO D:=⟨86,3,[.o 100000000 (.box 80), .o 100000001 (.box 80), .o 100000002 (.box 93), .o 100000003 (.ae 3), .o 0 (.bM 132 [(32,5)]), .v 1 (.int .i64), .v 2 (.int .i64), .o 2000032 (.ae 182)],[(0, .box 4 0)],[1,1,1,1,2,0],[.v 6 .bool, .o 2000032 (.ae 182), .u 4 (.bM 132 [(32,6)])],[],[6],as9⟩
noncomputable def C6 (N:Nat):Md.hS.F:=fun x=>J0 N x.2.2.2.2.1 x.2.2.2.2.2.1 x.2.2.2.2.2.2.1 x.2.2.2.2.2.2.2.1
theorem aqQ (N:Nat):gH bB Md (C6 N):=dv.h2 (dv.nil:dv (LF N).a6 (hq Tryz.f86)) Tryz.func86
noncomputable def aaj (N:Nat):bX bB:=(LF N).hZ Md (C6 N) (aqQ N)
noncomputable def W8:fO D:=⟨86,3,[.o 100000000 (.box 80), .o 100000001 (.box 80), .o 100000002 (.box 93), .o 100000004 (.ae 3), .o 0 (.bM 132 [(32,5)]), .v 1 (.int .i64), .v 2 (.int .i64), .o 2000032 (.ae 182)],[(0, .box 4 0)],[1,1,1,1,2,0],[.v 6 .bool, .o 2000032 (.ae 182), .u 4 (.bM 132 [(32,6)])],[],[6],as9⟩
theorem aok (N:Nat):gH bB W8 (C6 N):=dv.h2 (dv.nil:dv (LF N).a6 (hq Tryz.f86)) Tryz.func86
noncomputable def Rj (N:Nat):bX bB:=(aaj N).hZ W8 (C6 N) (aok N)
noncomputable def aaU (N:Nat):qE bB:=(Rj N).a6.oS fun x bD aj=>match x,bD,aj with| .tmp 133,as4 (.tmp 125),as4 (.tmp 125)=>6|_,_,_=>0
noncomputable def Rk (N:Nat):bX bB:=(Rj N).hZ ⟨58,1,[.o 100000000 (.box 80), .o 100000001 (.box 80), .o 100000002 (.box 93), .o 0 (.bM 132 [(7,4),(32,5)]), .o 2000007 (.ae 26), .o 2000032 (.ae 182)],[(0, .box 3 0)],[1,1,1,2,0,0],[.v 2 (.int .i64), .o 2000032 (.ae 182), .u 3 (.bM 132 [(32,6)])],[],[2],as9⟩ (fun x=>Kd N x.2.2.2.1 x.2.2.2.2.1 x.2.2.2.2.2.1) (((((dv.nil:dv (aaU N) (hq Tryz.f58)).b4 N ⟨[1,1,0,1,0,0,1,0,0,1,1,1,1,0,1,0],[.o 100000000 (.box 80), .o 100000001 (.box 80), .o 100000002 (.box 93), .o 0 (.bM 132 [(7,7),(32,8)]), .o 4 (.box 26), .o 5 (.ae 122), .o 6 (.ae 3), .v 7 (.int .i64), .o 2000007 (.ae 26), .o 2000032 (.ae 182)],[(0, .box 3 0),(4, .box 4 0),(5, .c (.own 5)),(6, .c (.own 6))],[1,1,1,1,1,0,1,1,1],[⟨.exit 2,[.o 5 (.ae 122)],[(5, .c (.own 9))]⟩],[0,3,4,6]⟩ fun n x=>zQ N x.2.2.2.1 x.2.2.2.2.2.2.1 n x.2.2.2.2.2.1 x.2.2.2.2.2.2.2.1).b4 N ⟨[1,1,0,1,0,0,1,0,0,1,1,1,1,1,1,1,1,0,1,0],[.o 100000000 (.box 80), .o 100000001 (.box 80), .o 100000002 (.box 93), .o 0 (.bM 132 [(32,5)]), .o 6 (.ae 3), .v 12 (.int .i64), .o 2000032 (.ae 182)],[(0, .box 3 0),(6, .c (.own 4))],[1,1,1,2,1,0],[⟨.exit 4,[.u 3 (.bM 132 [(32,6)]), .o 2000032 (.ae 182)],[]⟩],[0,3]⟩ fun n x=>zR N x.2.2.2.2.1 n x.2.2.2.1 x.2.2.2.2.2.1 x.2.2.2.2.2.2.1).b4 N ⟨[1,1,0,1,0],[.o 100000000 (.box 80), .o 100000001 (.box 80), .o 100000002 (.box 93), .o 0 (.bM 132 [(7,4),(32,5)]), .v 3 (.int .i64), .o 2000007 (.ae 26), .o 2000032 (.ae 182)],[(0, .box 3 0)],[1,1,1,2,0,0],[⟨.exit 0,[.u 3 (.bM 132 [(7,6),(32,7)]), .o 2000007 (.ae 26), .o 2000032 (.ae 182)],[]⟩,⟨.ret,[.u 3 (.bM 132 [(32,6)]), .v 2 (.int .i64), .o 2000032 (.ae 182)],[]⟩],[0]⟩ fun n x=>zP N n x.2.2.2.1 x.2.2.2.2.1 x.2.2.2.2.2.1 x.2.2.2.2.2.2.1).h2 Tryz.func58)
noncomputable def Rl (N:Nat):bX bB:=(Rk N).cj ⟨26,3,[.v 0 (.agg 36), .v 1 (.agg 80), .v 2 (.agg 29)],[],as6,0,[.v 1000000 (.agg 80), .v 1000001 (.agg 93)],[],[.cell 6 80, .cell 7 93],as9⟩ (fun r x=>CX N x.1 x.2.1 x.2.2.1) ((((Rk N).u Tryz.f26).aM ⟨[1,1,1,0,1],[.o 4 (.box 80), .o 6 (.box 80), .o 7 (.box 93), .o 8 (.bM 132 [(5,4),(7,5),(32,6),(36,7)]), .v 9 (.int .i64), .v 17 (.int .i64), .o 2008005 (.ae 122), .o 2008007 (.ae 26), .o 2008032 (.ae 182), .o 2008036 (.ae 175)],[(4, .box 0 0),(6, .box 1 0),(7, .box 2 0),(8, .box 3 0)],[1,1,1,2,0,0,0,0],[⟨.normal,[.u 3 (.box 132), .v 9 (.int .i64)],[]⟩],[4,6,7,8]⟩ fun x=>I0 N x.2.2.2.1 x.2.2.2.2.1 x.2.2.2.2.2.1 x.2.2.2.2.2.2.1 x.2.2.2.2.2.2.2.1 x.2.2.2.2.2.2.2.2.1 x.2.2.2.2.2.2.2.2.2.1).fn Tryz.func26)
noncomputable def Rn (N:Nat):bX bB:=(Rl N).cj ⟨7,3,[.v 1 (.agg 36), .v 2 (.int .i64)],[],as4 (0,59),2,[.o 6 (.ae 29), .u 0 (.recv 59)],[(6, .c (.own 1))],[.tmp 6],as9⟩ (fun r x=>Ka N r x.1 x.2.1) ((((((Rl N).u Tryz.f7).aM ⟨[1,1,1,1,0,1,0,0,0,0],[.o 0 (.recv 59), .v 2 (.int .i64), .o 4 (.box 36), .o 7 (.box 80), .o 9 (.ae 29), .v 10 (.int .i64)],[(0, .box 0 0),(4, .box 1 0),(7, .box 2 0),(9, .c (.own 3))],[1,1,1,1],[⟨.normal,[.v 26 .bool],[]⟩],[0,2,4,7,9,10]⟩ fun x=>G5 N x.2.1 x.2.2.2.2.2.1).b4 N ⟨[1,1,1,1,0,1,0],[.o 0 (.recv 59), .v 2 (.int .i64), .o 4 (.box 36), .o 7 (.box 80), .o 9 (.ae 29), .v 10 (.int .i64)],[(0, .box 0 0),(4, .box 1 0),(7, .box 2 0),(9, .c (.own 3))],[2,1,2,0],[⟨.exit 0,[.u 0 (.recv 59), .u 2 (.box 80), .o 9 (.ae 29)],[(9, .c (.own 4))]⟩],[0,2,4,7]⟩ fun n x=>z7 N x.2.1 x.2.2.1 n x.1 x.2.2.2.1 x.2.2.2.2.1 x.2.2.2.2.2.1).b4 N ⟨[1,1,1,1,1,0,1,0],[.o 0 (.recv 59), .o 4 (.box 36), .o 7 (.box 80), .o 9 (.ae 29), .v 12 (.int .i64)],[(0, .box 0 0),(4, .box 1 0),(7, .box 2 0),(9, .c (.own 3))],[2,1,0,0],[⟨.exit 2,[.u 0 (.recv 59), .o 9 (.ae 29)],[(9, .c (.own 4))]⟩],[0]⟩ fun n x=>z8 N x.2.1 n x.1 x.2.2.1 x.2.2.2.1 x.2.2.2.2.1).fn Tryz.func7)
noncomputable def Ro (N:Nat):bX bB:=(Rn N).cj ⟨27,1,[.v 0 (.agg 29)],[],as6,0,[.v 2 .bool],[],[.tmp 2],as5⟩ (fun r x=>Lm N x.1) ((((((Rn N).u Tryz.f27).aM ⟨[1,1,0,1,0,1,1,1,1,0,1],[.o 3 (.box 29), .v 7 (.int .i64), .v 16 .bool],[(3, .box 0 0)],[1],[⟨.normal,[.v 16 .bool],[]⟩],[3,7]⟩ fun x=>I9 N x.2.1 x.2.2.1).aM ⟨[1,1,0,1],[.o 3 (.box 29), .v 7 (.int .i64)],[(3, .box 0 0)],[2],[⟨.normal,[.u 0 (.box 29)],[]⟩,⟨.ret,[.v 2 .bool],[]⟩],[3]⟩ fun x=>I8 N x.1 x.2.1).aM ⟨[1,1,1,1,0],[.o 3 (.box 29), .o 4 (.box 26)],[(3, .box 0 0),(4, .box 1 0)],[1,1],[⟨.normal,[.v 2 .bool],[]⟩],[]⟩ fun x=>Ja N x.1 x.2.1).fn Tryz.func27)
noncomputable def Rp (N:Nat):bX bB:=(Ro N).cj ⟨59,1,[.v 0 (.int .i64)],[],as6,0,[.v 2 .bool],[],[.tmp 2],as5⟩ (fun r x=>pC N x.1) ((((Ro N).u Tryz.f59).aM ⟨[1,0],[.v 0 (.int .i64)],[],[],[⟨.normal,[.v 2 .bool],[]⟩],[]⟩ fun x=>IF N x.1).fn Tryz.func59)
noncomputable def Rq (N:Nat):bX bB:=(Rp N).cj ⟨28,1,[.v 0 (.agg 29)],[],as6,0,[.v 2 .bool],[],[.tmp 2],as5⟩ (fun r x=>Ll N x.1) (((((((((((Rp N).u Tryz.f28).aM ⟨[1,0],[.o 1 (.box 29)],[(1, .box 0 0)],[1],[⟨.normal,[.v 3 .bool],[]⟩],[1]⟩ fun x=>I3 N x.1).aM ⟨[1,1,0,1,0,0,0,0],[.o 1 (.box 29), .v 3 .bool, .v 4 (.int .i64)],[(1, .box 0 0)],[1],[⟨.normal,[.v 76 .bool],[]⟩],[1,3,4]⟩ fun x=>I4 N x.1 x.2.1 x.2.2.1).b4 N ⟨[1,1,0,1,0],[.o 1 (.box 29), .v 3 .bool, .v 4 (.int .i64)],[(1, .box 0 0)],[1],[⟨.exit 0,[.v 3 .bool],[]⟩],[1]⟩ fun n x=>BI N x.1 n x.2.1 x.2.2.1).aM ⟨[1,1,1,0,1,0,0,0,0],[.o 1 (.box 29), .v 3 .bool, .v 5 (.int .i64)],[(1, .box 0 0)],[1],[⟨.normal,[.v 92 .bool],[]⟩],[1,3,5]⟩ fun x=>I5 N x.1 x.2.1 x.2.2.1).aM ⟨[1,1,1,0,1,0,0,1,0,0],[.o 1 (.box 29), .v 5 (.int .i64)],[(1, .box 0 0)],[1],[⟨.normal,[.v 3 .bool],[]⟩],[1,5]⟩ fun x=>I6 N x.1 x.2.1).b4 N ⟨[1,1,1,0,1,0],[.o 1 (.box 29), .v 3 .bool, .v 5 (.int .i64)],[(1, .box 0 0)],[1],[⟨.exit 2,[.v 3 .bool],[]⟩],[1]⟩ fun n x=>BJ N x.1 n x.2.1 x.2.2.1).aM ⟨[1,1,1,1,0,1,0,0,0,0],[.o 1 (.box 29), .v 3 .bool, .v 6 (.int .i64)],[(1, .box 0 0)],[1],[⟨.normal,[.v 119 .bool],[]⟩],[1,3,6]⟩ fun x=>I7 N x.1 x.2.1 x.2.2.1).b4 N ⟨[1,1,1,1,0,1,0],[.o 1 (.box 29), .v 3 .bool, .v 6 (.int .i64)],[(1, .box 0 0)],[1],[⟨.exit 4,[.v 3 .bool],[]⟩],[]⟩ fun n x=>BK N x.1 n x.2.1 x.2.2.1).fn Tryz.func28)
noncomputable def Rr (N:Nat):bX bB:=(Rq N).cj ⟨29,1,[.v 0 (.int .i64)],[],as6,0,[.o 2 (.ae 5)],[(2, .c (.own 0))],[.tmp 2],as9⟩ (fun r x=>nh N x.1) (((Rq N).u Tryz.f29).fn Tryz.func29)
noncomputable def Rs (N:Nat):bX bB:=(Rr N).cj ⟨30,1,[.v 0 .str],[],as6,0,[.o 2 (.ae 5)],[(2, .c (.own 0))],[.tmp 2],as9⟩ (fun r x=>xz N x.1) (((Rr N).u Tryz.f30).fn Tryz.func30)
noncomputable def Rt (N:Nat):bX bB:=(Rs N).cj ⟨8,1,[.v 0 (.agg 29)],[],as6,0,[.o 2 (.ae 5), .v 3 (.int .i64)],[(2, .c (.own 0))],[.tmp 2, .tmp 3],as9⟩ (fun r x=>xr N x.1) ((((((((Rs N).u Tryz.f8).b4 N ⟨[1,1,1,1,0,1,0,1,1,1,0,1,1,1,1,0],[.o 1 (.box 29), .o 4 (.ae 5), .v 5 (.int .i64)],[(1, .box 0 0),(4, .c (.own 1))],[1,0],[⟨.exit 1,[.o 4 (.ae 5)],[(4, .c (.own 2))]⟩],[]⟩ fun n x=>AE N x.1 n x.2.1 x.2.2.1).aM ⟨[1,1,1,1,0,1,0,1,1,1,1,0,1],[.o 1 (.box 29), .o 4 (.ae 5), .v 19 (.int .i64), .v 81 .bool],[(1, .box 0 0),(4, .c (.own 1))],[1,1],[⟨.normal,[.v 81 .bool],[]⟩],[1,4,19]⟩ fun x=>H3 N x.2.2.1 x.2.2.2.1).b4 N ⟨[1,1,1,1,0,1,0,1,1,1,1,1,0,1,1,1,1,0],[.o 1 (.box 29), .o 4 (.ae 5), .v 6 (.int .i64)],[(1, .box 0 0),(4, .c (.own 1))],[1,0],[⟨.exit 3,[.o 4 (.ae 5)],[(4, .c (.own 2))]⟩],[]⟩ fun n x=>AF N x.1 n x.2.1 x.2.2.1).b4 N ⟨[1,1,1,1,0,1,0,1,1,1,1,1,1,1,0,1,1,0],[.o 1 (.box 29), .o 4 (.ae 5), .v 7 (.int .i64)],[(1, .box 0 0),(4, .c (.own 1))],[1,0],[⟨.exit 5,[.o 4 (.ae 5)],[(4, .c (.own 2))]⟩],[]⟩ fun n x=>AG N x.1 n x.2.1 x.2.2.1).aM ⟨[1,1,1,1,0,1],[.o 1 (.box 29), .o 4 (.ae 5), .v 19 (.int .i64)],[(1, .box 0 0),(4, .c (.own 1))],[1,0],[⟨.normal,[.o 4 (.ae 5)],[(4, .c (.own 2))]⟩],[]⟩ fun x=>H2 N x.1 x.2.1 x.2.2.1).fn Tryz.func8)
noncomputable def Ru (N:Nat):bX bB:=(Rt N).cj ⟨15,3,[.v 1 (.agg 36), .v 2 (.int .i64)],[],as4 (0,59),2,[.o 6 (.ae 29), .u 0 (.recv 59)],[(6, .c (.own 1))],[.tmp 6],as9⟩ (fun r x=>KT N r x.1 x.2.1) (((((Rt N).u Tryz.f15).aM ⟨[1,1,1,0,1,0,0,1,0],[.o 0 (.recv 59), .o 7 (.ae 29), .o 8 (.ae 29), .v 9 (.int .i64)],[(0, .box 0 0),(7, .c (.own 1)),(8, .c (.own 2))],[1,0,1],[⟨.normal,[.o 7 (.ae 29)],[(7, .c (.own 3))]⟩],[0,8,9]⟩ fun x=>H4 N x.2.1 x.2.2.1 x.2.2.2.1).b4 N ⟨[1,1,1,0,1,0],[.o 0 (.recv 59), .o 7 (.ae 29), .o 8 (.ae 29), .v 9 (.int .i64)],[(0, .box 0 0),(7, .c (.own 1)),(8, .c (.own 2))],[1,0,1],[⟨.exit 0,[.o 7 (.ae 29)],[(7, .c (.own 3))]⟩],[0]⟩ fun n x=>AI N x.2.2.1 n x.2.1 x.2.2.2.1).fn Tryz.func15)
noncomputable def Rv (N:Nat):bX bB:=(Ru N).cj ⟨33,1,[.v 0 (.int .i64)],[],as6,0,[.v 2 .bool],[],[.tmp 2],as5⟩ (fun r x=>Kr N x.1) ((((Ru N).u Tryz.f33).aM ⟨[1,0],[.v 0 (.int .i64)],[],[],[⟨.normal,[.v 2 .bool],[]⟩],[]⟩ fun x=>Ic N x.1).fn Tryz.func33)
noncomputable def Rw (N:Nat):bX bB:=(Rv N).cj ⟨35,1,[.v 0 (.agg 29)],[],as6,0,[.v 1000000 (.agg 29)],[],[.cell 2 29],as9⟩ (fun r x=>KD N x.1) (((((Rv N).u Tryz.f35).aM ⟨[1,0,1,0,1,1,1,1,0,1],[.o 1 (.box 29), .o 2 (.box 29), .v 4 (.int .i64), .v 13 .bool],[(1, .box 0 0),(2, .box 1 0)],[1,1],[⟨.normal,[.v 13 .bool],[]⟩],[1,2,4]⟩ fun x=>Iq N x.2.2.1 x.2.2.2.1).aM ⟨[1,0,1],[.o 1 (.box 29), .o 2 (.box 29), .v 4 (.int .i64)],[(1, .box 0 0),(2, .box 1 0)],[2,1],[⟨.normal,[.u 0 (.box 29)],[]⟩],[1,2]⟩ fun x=>Ip N x.1 x.2.2.1).fn Tryz.func35)
noncomputable def Ry (N:Nat):bX bB:=(Rw N).cj ⟨34,1,[.v 0 (.agg 29)],[],as6,0,[.v 2 .bool],[],[.tmp 2],as5⟩ (fun r x=>KE N x.1) (((((Rw N).u Tryz.f34).aM ⟨[1,1,0],[.o 1 (.box 29), .o 3 (.box 26)],[(1, .box 0 0),(3, .box 1 0)],[1,1],[⟨.normal,[.v 4 .bool],[]⟩],[1]⟩ fun x=>Ir N x.2.1).aM ⟨[1,1,1,0],[.o 1 (.box 29), .v 4 .bool],[(1, .box 0 0)],[1],[⟨.normal,[.v 2 .bool],[]⟩],[]⟩ fun x=>Is N x.1 x.2.1).fn Tryz.func34)
noncomputable def Rz (N:Nat):bX bB:=(Ry N).hZ ⟨36,2,[.o 100000000 (.box 29), .o 0 (.bM 105 [(0,2)]), .v 1 (.int .i64), .o 2000000 (.ae 5)],[(0, .box 1 0)],[1,2,0],[.o 2000000 (.ae 5), .u 1 (.bM 105 [(0,3)])],[],[],as9⟩ (fun x=>td N x.2.1 x.2.2.1 x.2.2.2.1) ((((Ry N).u Tryz.f36).aM ⟨[0],[.o 100000000 (.box 29), .o 0 (.bM 105 [(0,2)]), .v 1 (.int .i64), .o 2000000 (.ae 5)],[(0, .box 1 0)],[1,2,1],[⟨.normal,[.u 1 (.bM 105 [(0,2)])],[]⟩],[0,1]⟩ fun x=>J5 N x.2.1 x.2.2.1).h2 Tryz.func36)
noncomputable def RA (N:Nat):bX bB:=(Rz N).hZ ⟨37,2,[.o 100000000 (.box 29), .o 0 (.bM 105 [(0,2)]), .v 1 (.ae 3), .o 2000000 (.ae 5)],[(0, .box 1 0)],[1,2,0],[.o 2000000 (.ae 5), .u 1 (.bM 105 [(0,3)])],[],[],as9⟩ (fun x=>tc N x.2.1 x.2.2.1 x.2.2.2.1) (((((Rz N).u Tryz.f37).aM ⟨[1,0,0,1,1,0,0,1,0],[.o 100000000 (.box 29), .o 0 (.bM 105 [(0,2)]), .v 5 (.int .i64), .o 2000000 (.ae 5)],[(0, .box 1 0)],[1,2,1],[⟨.normal,[.u 1 (.bM 105 [(0,2)])],[]⟩],[0,5,6,7,8]⟩ fun x=>J2 N x.2.1 x.2.2.1).b4 N ⟨[1,0],[.o 100000000 (.box 29), .o 0 (.bM 105 [(0,2)]), .v 6 (.ae 3), .v 7 (.int .i64), .v 8 (.int .i64), .o 2000000 (.ae 5)],[(0, .box 1 0)],[1,2,0],[⟨.exit 0,[.u 1 (.bM 105 [(0,3)]), .o 2000000 (.ae 5)],[]⟩],[0]⟩ fun n x=>CA N x.2.2.1 x.2.2.2.1 n x.2.1 x.2.2.2.2.1 x.2.2.2.2.2.1).h2 Tryz.func37)
noncomputable def RB (N:Nat):bX bB:=(RA N).hZ ⟨38,2,[.o 100000000 (.box 29), .o 0 (.bM 105 [(0,2)]), .v 1 .str, .o 2000000 (.ae 5)],[(0, .box 1 0)],[1,2,0],[.o 2000000 (.ae 5), .u 1 (.bM 105 [(0,3)])],[],[],as9⟩ (fun x=>CF N x.2.1 x.2.2.1 x.2.2.2.1) (((RA N).u Tryz.f38).h2 Tryz.func38)
noncomputable def RC (N:Nat):bX bB:=(RB N).hZ ⟨36,2,[.o 0 (.bM 105 [(0,1)]), .v 1 (.int .i64), .o 2000000 (.ae 5)],[(0, .box 0 0)],[2,0],[.o 2000000 (.ae 5), .u 0 (.bM 105 [(0,2)])],[],[],as9⟩ (fun x=>J4 N x.1 x.2.1 x.2.2.1) ((((RB N).u Tryz.f36).aM ⟨[0],[.o 0 (.bM 105 [(0,1)]), .v 1 (.int .i64), .o 2000000 (.ae 5)],[(0, .box 0 0)],[2,1],[⟨.normal,[.u 0 (.bM 105 [(0,1)])],[]⟩],[0,1]⟩ fun x=>GZ N x.1 x.2.1).h2 Tryz.func36)
noncomputable def LG (N:Nat):bX bB:=(RC N).hZ ⟨38,2,[.o 0 (.bM 105 [(0,1)]), .v 1 .str, .o 2000000 (.ae 5)],[(0, .box 0 0)],[2,0],[.o 2000000 (.ae 5), .u 0 (.bM 105 [(0,2)])],[],[],as9⟩ (fun x=>J8 N x.1 x.2.1 x.2.2.1) (((RC N).u Tryz.f38).h2 Tryz.func38)
noncomputable def Me:fO D:=⟨37,2,[.o 100000000 (.box 48), .o 0 (.bM 105 [(0,2)]), .v 1 (.ae 3), .o 2000000 (.ae 5)],[(0, .box 1 0)],[1,2,0],[.o 2000000 (.ae 5), .u 1 (.bM 105 [(0,3)])],[],[],as9⟩
noncomputable def C7 (N:Nat):Me.hS.F:=fun x=>J1 N x.2.1 x.2.2.1 x.2.2.2.1
noncomputable def apP (N:Nat):dv (LG N).a6 (hq Tryz.f37):=dv.aM dv.nil ⟨[1,0,0,1,1,0,0,1,0],[.o 100000000 (.box 48), .o 0 (.bM 105 [(0,2)]), .v 5 (.int .i64), .o 2000000 (.ae 5)],[(0, .box 1 0)],[1,2,1],[⟨.normal,[.u 1 (.bM 105 [(0,2)])],[]⟩],[0,5,6,7,8]⟩ fun x=>Hy N x.2.1 x.2.2.1
noncomputable def Yl (N:Nat):dv (LG N).a6 (hq Tryz.f37):=dv.b4 (apP N) N ⟨[1,0],[.o 100000000 (.box 48), .o 0 (.bM 105 [(0,2)]), .v 6 (.ae 3), .v 7 (.int .i64), .v 8 (.int .i64), .o 2000000 (.ae 5)],[(0, .box 1 0)],[1,2,0],[⟨.exit 0,[.u 1 (.bM 105 [(0,3)]), .o 2000000 (.ae 5)],[]⟩],[0]⟩ fun n x=>z1 N x.2.2.1 x.2.2.2.1 n x.2.1 x.2.2.2.2.1 x.2.2.2.2.2.1
theorem aqR (N:Nat):gH bB Me (C7 N):=dv.h2 (Yl N) Tryz.func37
noncomputable def aak (N:Nat):bX bB:=(LG N).hZ Me (C7 N) (aqR N)
noncomputable def W9:fO D:=⟨37,2,[.o 100000002 (.box 48), .o 0 (.bM 105 [(0,2)]), .v 1 (.ae 3), .o 2000000 (.ae 5)],[(0, .box 1 0)],[1,2,0],[.o 2000000 (.ae 5), .u 1 (.bM 105 [(0,3)])],[],[],as9⟩
theorem aol (N:Nat):gH bB W9 (C7 N):=dv.h2 (Yl N) Tryz.func37
noncomputable def RD (N:Nat):bX bB:=(aak N).hZ W9 (C7 N) (aol N)
noncomputable def aal (N:Nat):bX bB:=(RD N).cj ⟨16,1,[.v 0 (.agg 29)],[],as6,0,[.o 2 (.ae 5), .v 3 (.int .i64)],[(2, .c (.own 0))],[.tmp 2, .tmp 3],as9⟩ (fun r x=>xp N x.1) ((((((((RD N).u Tryz.f16).aM ⟨[1,0,0],[.o 1 (.box 29)],[(1, .box 0 0)],[1],[⟨.normal,[.v 18 .bool],[]⟩],[1]⟩ fun x=>Hb N x.1).b4 N ⟨[1,1,1,1,0,1,0,1,1,1,0,1,1,1,1,0],[.o 4 (.bM 105 [(0,1)]), .v 75 (.ae 9), .v 76 (.int .i64), .v 77 (.int .i64), .o 2004000 (.ae 5)],[(4, .box 0 0)],[2,0],[⟨.exit 1,[.u 0 (.bM 105 [(0,2)]), .o 2004000 (.ae 5)],[]⟩],[4]⟩ fun n x=>Ab N x.2.1 x.2.2.1 n x.1 x.2.2.2.1 x.2.2.2.2.1).aM ⟨[1,1,1,1,0,1,0,1,1,1,1,0,1],[.o 1 (.box 29), .o 4 (.bM 105 [(0,2)]), .v 26 (.int .i64), .v 85 .bool, .o 2004000 (.ae 5)],[(1, .box 0 0),(4, .box 1 0)],[1,1,1],[⟨.normal,[.v 85 .bool],[]⟩],[1,4,26]⟩ fun x=>Hd N x.2.2.1 x.2.2.2.1).b4 N ⟨[1,1,1,1,0,1,0,1,1,1,1,1,1,1,0,1,1,0],[.o 4 (.bM 105 [(0,1)]), .v 112 (.ae 48), .v 113 (.int .i64), .v 114 (.int .i64), .o 2004000 (.ae 5)],[(4, .box 0 0)],[2,0],[⟨.exit 3,[.u 0 (.bM 105 [(0,2)]), .o 2004000 (.ae 5)],[]⟩],[4]⟩ fun n x=>Ac N x.2.1 x.2.2.1 n x.1 x.2.2.2.1 x.2.2.2.2.1).aM ⟨[1,1,1,1,0,1],[.o 1 (.box 29), .o 4 (.bM 105 [(0,2)]), .v 26 (.int .i64), .o 2004000 (.ae 5)],[(1, .box 0 0),(4, .box 1 0)],[0,2,0],[⟨.normal,[.u 1 (.bM 105 [(0,3)]), .o 2004000 (.ae 5)],[]⟩],[4]⟩ fun x=>Hc N x.1 x.2.1 x.2.2.1 x.2.2.2.1).fn Tryz.func16)
noncomputable def DJ:ff D:=⟨17,1,[.v 0 (.ae 5)],[],as6,0,[.v 2 (.agg 29), .v 3 (.int .i64)],[],[.tmp 2, .tmp 3],as9⟩
noncomputable def QI (N:Nat):DJ.F:=fun r x=>oL N x.1
theorem F8 {aB:Type} {T:cr aB} {z:Nat->bm} {n:Nat} {xs:List aB} {L:List as7} (a4:xs≠[]->z n= .own L T.tid) (ax:xs.length*T.a9<=L.length) (ah:∀(i:Nat) (x:aB),xs[i]? =as4 x->∃cs,T.rd z x cs/\ay.mX L (0+i*T.a9) cs):eC T z xs (j8 n xs.length):=by
 cases xs with
 |nil=>exact .inl ⟨rfl,rfl⟩
 |cons a l=>have a4:=a4 (by simp);refine .inr ⟨n,0,cF,if_neg (by simp),by rw[a4];trivial, .inl ⟨rfl,L,a4,by rw[atB];exact ax⟩,fun i x aj=> ?_⟩;obtain ⟨cs,U,aa⟩:=ah i x aj;exact ⟨cs,U,fun j u a0=>by unfold ll;rw[a4];exact aa j u a0⟩
theorem NR {aB:Type} {f:aB->as7} {xs:List aB} {i:Nat} {x:aB} (h:xs[i]? =as4 x):ay.mX (xs.map f) (0+i*1) [f x]:=fun j u a0=>by
 cases j with
 |zero=>cases a0;rw[auP,atB,at2,aub,h];rfl
 |succ j=>cases a0
theorem aqH {xs:List fI} {i:Nat} {x:fI} (h:xs[i]? =as4 x):ay.mX (xs.flatMap rN) (0+i*2) [hh x.place,hh x.bQ]:=fun j u a0=>by
 induction xs generalizing i with
 |nil=>cases h
 |cons a l aq=>
  cases i with
  |zero=>cases h;rw[Nat.zero_mul,atB,auO,List.getElem?_append_left (by have:=(atp.1 a0).1;exact this)];exact a0
  |succ i=>have:=aq (i:=i) (by simpa using h);rw[show 0+(i+1)*2+j=(rN a).length+(0+i*2+j) by show _=2+_;omega,auO,List.getElem?_append_right (Nat.le_add_right _ _),Nat.add_sub_cancel_left];exact this
theorem ajq (N:Nat) (x:eA D [.v 0 (.ae 5)]) (y:j4 D [.v 2 (.agg 29), .v 3 (.int .i64)]) (df:aV D) {z:Nat->bm} {m:Mem} {args:List as7} {fr:Nat->as7} (dQ:oL N x.1=as4 y) (aE:u7 (w9 (gu bB [.v 2 (.agg 29), .v 3 (.int .i64)] (fs [.v 2 (.agg 29), .v 3 (.int .i64)] y)) [] (ko lC [.tmp 2, .tmp 3])) (ko lC [.tmp 2, .tmp 3])=as4 df)
  (aY:PB bB DJ x args z m fr):∃B v,B.hv/\rel bB.G (mx z m.next B) [] df v/\hi Tryz.prog 17 args.toArray m fun bH m'=>bH=v/\m'=m.push B:=by
 obtain ⟨s,u⟩:=x;obtain ⟨U,aa,ao,aN⟩:=aY;obtain ⟨a,rfl⟩:=List.length_eq_one_iff.1 U;have Mm:rel bB.G z [] (.c (.ae 5 s)) a:=by rw[<-aa 0 a rfl];exact aN (0, .c (.ae 5 s)) List.mem_cons_self
 have Mm:eC nw z s a:=Mm;have jZ:C3 m s a:=by
  rcases Mm with h|⟨b,off,c,rfl,_,ah,ax⟩
  ·exact .inl h
  ·refine .inr ⟨b,off,c,rfl,fun ag=> ?_,fun i x aj=> ?_⟩
   ·rcases ah with ⟨rfl,_⟩|⟨_,ah⟩
    ·exact absurd ag (auM _)
    ·exact ah
   ·obtain ⟨cs,aU,aO⟩:=ax i x aj;have aU:cs=[.int .u8 x.toNat]:=aU;subst aU;have:=OG ao (aO 0 _ rfl);rw[show off+i*nw.a9+0=off+i from by show off+i*1+0=_;omega] at this;exact this
 have dQ:oL N s=as4 y:=dQ;unfold oL at dQ;split at dQ
 ·cases dQ;have U:=Wt s;have aQ:=ajp jZ;unfold DG at aQ;generalize hd s=p at aE U aQ;obtain ⟨⟨cD,mv,to,l6,wt,jM,aM,⟨on,kF,kd⟩,kE,kM⟩,n⟩:=p;refine ⟨_,_, ?_, ?_,hi.sort (by kernel_rfl) aQ ⟨rfl,rfl⟩⟩
  ·unfold iZ;repeat' split
   all_goals trivial
  cases aE;have a4:∀X,mx z m.next X m.next=X:=fun X=>if_pos rfl;have ew:jM≠[]->mx z m.next (iZ ⟨cD,mv,to,l6,wt,jM,aM,⟨on,kF,kd⟩,kE,kM⟩) m.next= .own (jM.map hh) hA.tid:=fun h=>by rw[a4];simp only[iZ,ne_eq,h,not_false_eq_true,if_true];rfl
  have h1:aM≠[]->mx z m.next (iZ ⟨cD,mv,to,l6,wt,jM,aM,⟨on,kF,kd⟩,kE,kM⟩) m.next= .own (aM.flatMap rN) qK.tid:=fun h=>by
   rcases U with ⟨g,_⟩|⟨g,_⟩|⟨_,g,_⟩|⟨_,g,_⟩<;>first|exact absurd g h|skip
   have g:jM=[]:=g;rw[a4];simp only[iZ,ne_eq,h,g,not_false_eq_true,not_true,if_true,if_false];rfl
  have sa:kd≠[]->mx z m.next (iZ ⟨cD,mv,to,l6,wt,jM,aM,⟨on,kF,kd⟩,kE,kM⟩) m.next= .own (kd.map na) pH.tid:=fun h=>by
   rcases U with ⟨_,g,_⟩|⟨_,g,_⟩|⟨g,aO,_⟩|⟨_,_,g⟩<;>first|exact absurd g h|skip
   have g:jM=[]:=g;have aO:aM=[]:=aO;rw[a4];simp only[iZ,ne_eq,h,g,aO,not_false_eq_true,not_true,if_true,if_false];rfl
  have Tj:kM≠[]->mx z m.next (iZ ⟨cD,mv,to,l6,wt,jM,aM,⟨on,kF,kd⟩,kE,kM⟩) m.next= .own (kM.map DA) nw.tid:=fun h=>by
   rcases U with ⟨_,_,g⟩|⟨_,_,g⟩|⟨_,_,g⟩|⟨g,aO,bT⟩<;>first|exact absurd g h|skip
   have g:jM=[]:=g;have aO:aM=[]:=aO;have bT:kd=[]:=bT;rw[a4];simp only[iZ,ne_eq,g,aO,bT,not_true,if_false];rfl
  have b5:eC hA (mx z m.next (iZ ⟨cD,mv,to,l6,wt,jM,aM,⟨on,kF,kd⟩,kE,kM⟩)) jM (j8 m.next jM.length):=F8 ew (by rw[aus];exact Nat.le_of_eq (auP _)) fun i x aj=>⟨[hh x],⟨rfl,trivial⟩,NR aj⟩
  have cc:eC qK (mx z m.next (iZ ⟨cD,mv,to,l6,wt,jM,aM,⟨on,kF,kd⟩,kE,kM⟩)) aM (j8 m.next aM.length):=F8 h1 (by rw[Yb];exact atk _) fun i x aj=>⟨[hh x.place,hh x.bQ],⟨rfl,rfl,trivial⟩,aqH aj⟩
  have eH:eC pH (mx z m.next (iZ ⟨cD,mv,to,l6,wt,jM,aM,⟨on,kF,kd⟩,kE,kM⟩)) kd (j8 m.next kd.length):=F8 sa (by rw[aus];exact Nat.le_of_eq (auP _)) fun i x aj=>⟨[na x],⟨rfl,trivial⟩,NR aj⟩
  have ja:eC nw (mx z m.next (iZ ⟨cD,mv,to,l6,wt,jM,aM,⟨on,kF,kd⟩,kE,kM⟩)) kM (j8 m.next kM.length):=F8 Tj (by rw[aus];exact Nat.le_of_eq (auP _)) fun i x aj=>⟨[DA x],rfl,NR aj⟩
  exact ⟨[.agg (qQ _ m.next), .int .i64 n],rfl,⟨(qQ _ m.next).toList,rfl,rfl,rfl,rfl,rfl,rfl,b5,cc,rfl,rfl,eH,rfl,ja,trivial⟩,rfl,trivial⟩
 ·cases dQ
theorem aqV (N:Nat):ih bB DJ (QI N):=ZW.push (f:=17) (np:=1) (fx:=[]) (outs:=[.v 2 (.agg 29), .v 3 (.int .i64)]) (kJ:=[.tmp 2, .tmp 3]) (fun (x:eA D [.v 0 (.ae 5)])=>oL N x.1) (fun _ _=>rfl) (ajq N)
noncomputable def RE (N:Nat):bX bB:=(aal N).cj DJ (QI N) (aqV N)
noncomputable def RG (N:Nat):bX bB:=(RE N).cj ⟨42,2,[.v 0 (.ae 3), .v 1 (.ae 3)],[],as6,0,[.v 4 .bool],[],[.tmp 4],as5⟩ (fun r x=>Lb N x.1 x.2.1) ((((RE N).u Tryz.f42).b4 N ⟨[1,1,0,1,0],[.v 0 (.ae 3), .v 1 (.ae 3), .v 5 (.int .i64)],[],[],[⟨.exit 0,[],[]⟩,⟨.ret,[.v 4 .bool],[]⟩],[]⟩ fun n x=>Cc N x.1 x.2.1 n x.2.2.1).fn Tryz.func42)
noncomputable def RH (N:Nat):bX bB:=(RG N).cj ⟨20,2,[.v 0 (.ae 5), .v 1 (.ae 5)],[],as6,0,[.v 4 .bool],[],[.tmp 4],as5⟩ (fun r x=>xt N x.1 x.2.1) ((((RG N).u Tryz.f20).b4 N ⟨[1,1,0,1,0],[.v 0 (.ae 5), .v 1 (.ae 5), .v 5 (.int .i64)],[],[],[⟨.exit 0,[],[]⟩,⟨.ret,[.v 4 .bool],[]⟩],[]⟩ fun n x=>AH N x.1 x.2.1 n x.2.2.1).fn Tryz.func20)
noncomputable def RI (N:Nat):bX bB:=(RH N).cj ⟨70,2,[.v 0 (.ae 9), .v 1 (.ae 9)],[],as6,0,[.v 4 .bool],[],[.tmp 4],as5⟩ (fun r x=>KA N x.1 x.2.1) ((((RH N).u Tryz.f70).b4 N ⟨[1,1,0,1,0],[.v 0 (.ae 9), .v 1 (.ae 9), .v 5 (.int .i64)],[],[],[⟨.exit 0,[],[]⟩,⟨.ret,[.v 4 .bool],[]⟩],[]⟩ fun n x=>A2 N x.1 x.2.1 n x.2.2.1).fn Tryz.func70)
end Go.W
end
section
set_option maxRecDepth 100000
set_option maxHeartbeats 1000000
namespace Go.W
open Go.ay Go.Proofs
noncomputable def RJ (N:Nat):bX bB:=(RI N).cj ⟨43,2,[.v 0 (.ae 26), .v 1 (.ae 26)],[],as6,0,[.v 4 .bool],[],[.tmp 4],as5⟩ (fun r x=>JZ N x.1 x.2.1) (((((RI N).u Tryz.f43).aM ⟨[1,1,0,1,0,0,1,0,0,0],[.v 0 (.ae 26), .v 1 (.ae 26), .v 5 (.int .i64)],[],[],[⟨.normal,[.v 54 .bool],[]⟩],[0,1,5]⟩ fun x=>Hx N x.1 x.2.1 x.2.2.1).b4 N ⟨[1,1,0,1,0],[.v 0 (.ae 26), .v 1 (.ae 26), .v 5 (.int .i64)],[],[],[⟨.exit 0,[],[]⟩,⟨.ret,[.v 4 .bool],[]⟩],[]⟩ fun n x=>z0 N x.1 x.2.1 n x.2.2.1).fn Tryz.func43)
noncomputable def RK (N:Nat):bX bB:=(RJ N).cj ⟨18,2,[.v 0 (.agg 29), .v 1 (.agg 29)],[],as6,0,[.v 4 .bool],[],[.tmp 4],as5⟩ (fun r x=>JY N x.1 x.2.1) (((((RJ N).u Tryz.f18).aM ⟨[1,0,0],[.o 2 (.box 29), .o 3 (.box 29)],[(2, .box 0 0),(3, .box 1 0)],[1,1],[⟨.normal,[.v 70 .bool],[]⟩],[2,3]⟩ fun x=>Hw N x.1 x.2.1).b4 N ⟨[1,1,0,1,0],[.o 2 (.box 29), .o 3 (.box 29), .v 5 (.int .i64)],[(2, .box 0 0),(3, .box 1 0)],[1,1],[⟨.exit 0,[],[]⟩,⟨.ret,[.v 4 .bool],[]⟩],[2,3]⟩ fun n x=>zZ N x.1 x.2.1 n x.2.2.1).fn Tryz.func18)
noncomputable def aam (N:Nat):bX bB:=(RK N).cj ⟨19,2,[.v 0 (.int .i64), .v 1 (.int .i64)],[],as6,0,[.v 4 (.int .i64)],[],[.tmp 4],as5⟩ (fun r x=>Kl N x.1 x.2.1) ((((RK N).u Tryz.f19).aM ⟨[1,1,1,0,1],[.v 0 (.int .i64), .v 1 (.int .i64), .v 11 .bool],[],[],[⟨.normal,[.v 0 (.int .i64)],[]⟩],[]⟩ fun x=>Ia N x.1 x.2.1 x.2.2.1).fn Tryz.func19)
noncomputable def Ml:ff D:=⟨14,0,[],[],as6,0,[.v 0 .bool],[],[.tmp 0],as5⟩
noncomputable def QJ (N:Nat):Ml.F:=fun r x=>CT N
theorem aqZ (N:Nat):ih bB Ml (QJ N):=ajl (f:=14) (s:=0) (by kernel_rfl) ahW (fun y O K=>by kernel_rfl) _ (fun _ _=> .inr rfl)
noncomputable def tq (N:Nat):bX bB:=(aam N).cj Ml (QJ N) (aqZ N)
noncomputable def apL (N:Nat):dv (tq N).a6 (hq Tryz.f4):=dv.aM dv.nil ⟨[1,1,1,0,1,0,0,1,0,0,1,1,0,0],[.o 7 (.box 59), .o 8 (.ae 29), .v 9 (.int .i64), .v 11 (.int .i64), .o 12 (.box 29), .v 13 (.int .i64)],[(7, .box 0 0),(8, .c (.own 1)),(12, .box 2 0)],[1,1,1],[⟨.normal,[.v 60 .bool],[]⟩],[1,2,7,8,9,10,12]⟩ fun x=>Hs N x.2.1 x.2.2.1 x.2.2.2.1 x.2.2.2.2.1 x.2.2.2.2.2.1
noncomputable def apM (N:Nat):dv (tq N).a6 (hq Tryz.f4):=dv.aM (apL N) ⟨[1,1,1,0,1,0,0,1,0,0,1,1,1,1,1,1,1,1,0,1,0],[.o 7 (.box 59), .o 8 (.ae 29), .v 14 (.ae 5), .o 15 (.ae 5), .v 16 (.int .i64)],[(7, .box 0 0),(8, .c (.own 1)),(15, .c (.own 2))],[1,1,1],[⟨.normal,[.v 106 .bool],[]⟩],[1,2,7,8,9]⟩ fun x=>Ht N x.2.2.1 x.2.2.2.1 x.2.2.2.2.1
noncomputable def apK (N:Nat):dv (tq N).a6 (hq Tryz.f4):=dv.aM (apM N) ⟨[1,1,1,0,1,0,0,1,0],[.v 2 (.int .i64), .o 7 (.box 59), .o 8 (.ae 29), .v 9 (.int .i64)],[(7, .box 0 0),(8, .c (.own 1))],[2,1],[⟨.normal,[.u 0 (.box 59)],[]⟩,⟨.ret,[.v 6 .bool],[]⟩],[1,2,7,8,9]⟩ fun x=>Hr N x.1 x.2.1 x.2.2.1 x.2.2.2.1
noncomputable def apJ (N:Nat):dv (tq N).a6 (hq Tryz.f4):=dv.b4 (apK N) N ⟨[1,1,1,0,1,0],[.v 2 (.int .i64), .o 7 (.box 59), .o 8 (.ae 29), .v 9 (.int .i64)],[(7, .box 0 0),(8, .c (.own 1))],[0,1],[⟨.exit 0,[],[]⟩,⟨.ret,[.v 6 .bool],[]⟩],[1]⟩ fun n x=>zY N x.1 x.2.2.1 n x.2.1 x.2.2.2.1
noncomputable def apO (N:Nat):dv (tq N).a6 (hq Tryz.f4):=dv.aM (apJ N) ⟨[1,1,1,1,1,0,1,1,0,1,0],[.v 1 (.ae 5), .o 19 (.ae 5), .v 20 (.int .i64)],[(19, .c (.own 0))],[1],[⟨.normal,[.v 130 .bool],[]⟩],[]⟩ fun x=>Hv N x.1 x.2.1 x.2.2.1
noncomputable def apN (N:Nat):dv (tq N).a6 (hq Tryz.f4):=dv.aM (apO N) ⟨[1,1,1,1,1,0,1,1],[.v 1 (.ae 5), .o 17 (.box 29), .v 117 .bool],[(17, .box 0 0)],[0],[⟨.normal,[],[]⟩,⟨.ret,[.v 6 .bool],[]⟩],[]⟩ fun x=>Hu N x.1 x.2.1 x.2.2.1
noncomputable def DI:ff D:=⟨4,3,[.v 0 (.ae 3), .v 1 (.ae 5), .v 2 (.int .i64)],[],as6,0,[.v 6 .bool],[],[.tmp 6],as5⟩
noncomputable def C5 (N:Nat):DI.F:=fun r x=>xo N x.1 x.2.1 x.2.2.1
theorem ZH (N:Nat):ih bB DI (C5 N):=dv.fn (apN N) Tryz.func4
noncomputable def aq9 (N:Nat):bX bB:=(tq N).cj DI (C5 N) (ZH N)
end Go.W
end
section
namespace Go.W
open Go.ay
abbrev aH {bK:Type} (e:Option bK) (P:bK->Prop):Prop:=¬e=as6/\∀r,e=as4 r->P r
theorem tv {aB bK:Type} {e:Option aB} {f:aB->Option bK} {P:bK->Prop} (h:e≠as6) (k:∀y,e=as4 y->aH (f y) P):aH (as8 e f) P:=by
 cases e with
 |none=>exact absurd rfl h
 |some y=>exact k y rfl
theorem Du {aB oM bK:Type} {e:Option (Sum aB oM)} {f:Sum aB oM->Option bK} {P:bK->Prop} (h:e≠as6) (k:∀y,e=as4 (.inl y)->aH (f (.inl y)) P) (l:∀y,e=as4 (.inr y)->aH (f (.inr y)) P):aH (as8 e f) P:=by
 cases e with
 |none=>exact absurd rfl h
 |some y=>cases y with
  |inl y=>exact k y rfl
  |inr y=>exact l y rfl
theorem k4 {bK:Type} {n:Int} {f:UInt8->Option bK} {P:bK->Prop} (k:∀y,aH (f y) P):aH (as8 (e7 (ata .u8 n)) f) P:=by
 rw[avG];unfold e7;rw[if_pos (by omega)];exact k _
theorem ed {aB bK:Type} {xs b1:List aB} {f:List aB->Option bK} {P:bK->Prop} (h:xs.length+b1.length<=4294967296) (k:∀y,y=xs++b1->aH (f y) P):aH (as8 (cl xs b1) f) P:=by
 rw[show cl xs b1=as4 (xs++b1) from if_pos h];exact k _ rfl
theorem bU {aB bK:Type} {xs:List aB} {i:Int} {f:aB->Option bK} {P:bK->Prop} (h:0<=i/\i<xs.length) (k:∀y,aD xs i=as4 y->aH (f y) P):aH (as8 (aD xs i) f) P:=by
 have e:aD xs i=as4 (xs[i.toNat]'(by omega)):=by unfold aD;rw[if_pos h.1];exact atS _
 rw[e];exact k _ e
theorem pL {aB bK:Type} {xs:List aB} {a b:Int} {f:List aB->Option bK} {P:bK->Prop} (h:0<=a/\a<=b/\b<=xs.length) (k:∀y,y=(xs.take b.toNat).drop a.toNat->aH (f y) P):aH (as8 (hj xs a b) f) P:=by
 rw[show hj xs a b=_ from if_pos h];exact k _ rfl
theorem tu {aB bK:Type} {x:aB} {n:Int} {f:List aB->Option bK} {P:bK->Prop} (h:0<=n/\n<=4294967296) (k:∀y,y=att n.toNat x->aH (f y) P):aH (as8 (iM x n) f) P:=by
 rw[show iM x n=_ from if_pos h];exact k _ rfl
theorem Ds {bK:Type} {a b:Int} {f:Int->Option bK} {P:bK->Prop} (h:b≠0) (k:∀y,(0<b->y<b/\ -b<y/\(0<=a->0<=y))->aH (f y) P):aH (as8 (nG a b) f) P:=by
 rw[show nG a b=as4 (a.tmod b) by simp[nG,h]];exact k _ fun h=>⟨Int.tmod_lt_of_pos a h,Int.lt_tmod_of_pos a h,Int.tmod_nonneg b⟩
theorem b7 {bK:Type} {e:Option bK} {Q P:bK->Prop} (h:aH e Q) (k:∀r,Q r->P r):aH e P:=⟨h.1,fun r e=>k r (h.2 r e)⟩
theorem xU {bK:Type} {k:as'} {b:Int} {f:Nat->Option bK} {P:bK->Prop} (h:0<=b) (g:∀y,aH (f y) P):aH (as8 (nR k b) f) P:=by
 rw[show nR k b=_ from if_pos h];exact g _
theorem Tk {bK:Type} {k:as'} {b:Int} {f:Nat->Option bK} {P:bK->Prop} (g:∀y,aH (f y) P):aH (as8 (nR k (ata .u64 b)) f) P:=
 xU (by rw[as'.wrap_u64];omega) g
theorem aI {aB bK:Type} {e:Option aB} {f:aB->Option bK} {Q:aB->Prop} {P:bK->Prop} (h:aH e Q) (k:∀y,e=as4 y->Q y->aH (f y) P):aH (as8 e f) P:=
 tv h.1 fun y aJ=>k y aJ (h.2 y aJ)
theorem dR {aB oM bK:Type} {e:Option (Sum aB oM)} {f:Sum aB oM->Option bK} {Q:Sum aB oM->Prop} {P:bK->Prop} (h:aH e Q) (k:∀y,e=as4 (.inl y)->Q (.inl y)->aH (f (.inl y)) P) (l:∀y,e=as4 (.inr y)->Q (.inr y)->aH (f (.inr y)) P):aH (as8 e f) P:=
 Du h.1 (fun y aJ=>k y aJ (h.2 _ aJ)) fun y aJ=>l y aJ (h.2 _ aJ)
theorem arc {aB bK:Type} {b1:List aB} {f:List aB->Option bK} {P:bK->Prop} (h:b1.length<=4294967296) (k:aH (f b1) P):aH (as8 (cl [] b1) f) P:=by
 rw[show cl [] b1=as4 b1 from if_pos (by simpa[qH] using h)];exact k
theorem bo {aB bK:Type} {e:aB} {f:aB->Option bK} {P:bK->Prop} (k:∀y,y=e->aH (f y) P):aH (ay.lt e f) P:=k e rfl
theorem aW {bK:Type} {c:Prop} [Decidable c] {a b:Option bK} {P:bK->Prop} (h:c->aH a P) (k:¬c->aH b P):aH (if c then a else b) P:=by
 by_cases ah:c
 ·rw[if_pos ah];exact h ah
 ·rw[if_neg ah];exact k ah
theorem br {bK:Type} {c:Prop} [Decidable c] {a b:Option bK} {P:bK->Prop} (h:c->aH a P) (k:¬c->aH b P):aH (if decide c=as5 then a else b) P:=by
 by_cases ah:c
 ·rw[if_pos (by simpa using ah)];exact h ah
 ·rw[if_neg (by simpa using ah)];exact k ah
theorem EA {bK:Type} {xs:List UInt8} {a b:Option bK} {P:bK->Prop} (h:xs=[]->aH a P) (k:0<xs.length->aH b P):aH (if (xs==[])=as5 then a else b) P:=by
 by_cases ah:xs=[]
 ·rw[if_pos (by simpa using ah)];exact h ah
 ·rw[if_neg (by simpa using ah)];exact k (List.length_pos_iff.mpr ah)
theorem bG {bK:Type} {e:Int} {f:Int->Option bK} {P:bK->Prop} (h: -4611686018427387904<=e/\e<=4611686018427387904) (k:aH (f e) P):aH (ay.lt (ata .i64 e) f) P:=by
 unfold ay.lt;rw[avm];rw[show (e+9223372036854775808)%18446744073709551616 - 9223372036854775808=e by omega];exact k
theorem aK {bK:Type} {v:bK} {P:bK->Prop} (h:P v):aH (as4 v) P:=⟨nofun,fun r e=>by cases e;exact h⟩
@[grind=] theorem Qr {x:Int} (bg: -4611686018427387904<=x) (U:x<=4611686018427387904):ata .i64 x=x:=by
 rw[avm];omega
@[grind=] theorem arb {aB:Type} {xs b1:List aB} (h:xs.length+b1.length<=4294967296):cl xs b1=as4 (xs++b1):=if_pos h
@[grind=] theorem asv {aB:Type} {x:aB} {n:Int} (bg:0<=n) (h:n<=4294967296):iM x n=as4 (att n.toNat x):=if_pos ⟨bg,h⟩
@[grind=] theorem arf {aB:Type} {xs:List aB} {a b:Int} (h:0<=a/\a<=b/\b<=xs.length):hj xs a b=as4 ((xs.take b.toNat).drop a.toNat):=if_pos h
@[grind .] theorem arj {a b:Int} (h:b≠0):¬tx a b=as6:=by simp[tx,h]
@[grind .] theorem asx {a b:Int} (h:b≠0):¬nG a b=as6/\∀r,nG a b=as4 r->0<b->r<b/\ -b<r/\(0<=a->0<=r):=
 ⟨by simp[nG,h],fun r e h=>by
  obtain ⟨_,rfl⟩:=Wg e;exact ⟨Int.tmod_lt_of_pos a h,Int.lt_tmod_of_pos a h,Int.tmod_nonneg b⟩⟩
@[grind .] theorem asR {n:Int}:¬e7 (ata .u8 n)=as6:=by
 rw[avG];unfold e7;rw[if_pos (by omega)];simp
attribute [grind=] avG
@[grind=] theorem aqI {n:Int} (h:0<=n/\n<256):e7 n=as4 (auu n.toNat):=if_pos h
theorem jY {aB:Type} {xs:List aB} {i:Int} (h:0<=i) (k:i<xs.length):∃t,aD xs i=as4 t:=⟨_,by unfold aD;rw[if_pos h];exact atS (by omega)⟩
attribute [grind->] List.mem_or_eq_of_mem_set List.mem_of_mem_take List.mem_of_mem_drop
@[grind .] theorem arm {aB:Type} {xs:List aB} {i:Int} (h:xs.length<=i):xs.drop i.toNat=[]:=List.drop_eq_nil_of_le (by omega)
@[grind->] theorem sc {aB:Type} {xs:List aB} {i:Int} {y:aB} (e:aD xs i=as4 y):xs.drop i.toNat=y::xs.drop (i+1).toNat:=by
 unfold aD at e;split at e
 ·rw[show (i+1).toNat=i.toNat+1 by omega];obtain ⟨h,rfl⟩:=atp.mp e;exact List.drop_eq_getElem_cons h
 ·cases e
@[grind->] theorem wg {aB:Type} {xs:List aB} {i:Int} {y:aB} (e:aD xs i=as4 y):y∈xs:=by
 unfold aD at e;split at e
 ·exact at3 e
 ·cases e
end Go.W
end
section
set_option maxHeartbeats 2000000
namespace Go.W
open Go.ay
variable {N:Nat} (ap:5000000000<N)
include ap
structure nj (c:du):Prop where
 t:c.aP.length<=1000000
 r:c.rules.length<=1000000
 n:∀t∈c.aP,t.name.length<=1000000
attribute [grind->] nj.t nj.r nj.n
theorem an7 {x0:List UInt8} {ak:Int} (U:0<=ak) (aa:ak<x0.length):aH (Jz N x0 ak) fun r=>True:=by
 rw[Jz];repeat' (with_reducible first|intro _|apply bU|apply br|apply aW|apply aK)
 all_goals grind
theorem an6 {x0:List UInt8} (U:x0.length<N) (aa:x0.length<=4000000000000000000) {n:Nat} {ak:Int}:(0<=ak)->(ak<=(x0.length:Int))->((x0.length:Int) - ak<n)->aH (Cd N x0 n ak) fun r=>True:=by
 induction n generalizing ak with
 |zero=>intros;exfalso;grind -mbtc
 |succ n aq=>
  intros;rw[Cd];repeat' (with_reducible first|intro _|apply aI (an7 ap ?_ ?_)|apply b7 (aq ?_ ?_ ?_)|refine bG (by omega) ?_|apply bo|apply br|apply aW|apply aK)
  all_goals clear aq
  all_goals grind
theorem an8 {x0:List UInt8}:aH (JA N x0) fun r=>True:=by
 rw[JA];repeat' (with_reducible first|intro _|apply bo|apply br|apply aW|apply aK)
 all_goals grind
theorem Gz {x0:List UInt8} (U:x0.length<N) (aa:x0.length<=4000000000000000000):aH (vt N x0) fun r=>True:=by
 rw[vt];repeat' (with_reducible first|intro _|apply dR (an6 ap ?_ ?_ ?_ ?_ ?_)|apply aI (an8 ap)|apply aK)
 all_goals grind
theorem amm {J:en}:aH (Jl N J) fun r=>True:=by
 rw[Jl];repeat' (with_reducible first|intro _|apply br|apply aW|apply aK)
 all_goals grind
theorem amn {J:en}:aH (Jm N J) fun r=>r=as5->0<=J.a:=by
 rw[Jm];repeat' (with_reducible first|intro _|apply bo|apply br|apply aW|apply aK)
 all_goals grind
theorem afJ {x0:en}:aH (K5 N x0) fun r=>r=as5->0<=x0.a:=by
 rw[K5];repeat' (with_reducible first|intro _|apply aI (amm ap)|apply aI (amn ap)|apply aW|apply aK)
 all_goals grind
theorem amP {x0:List en} {ak:Int} (U:x0.length<=1000000) (aa:ak<x0.length) {n:Nat} {av:Int}:(0<=av)->(av<=ak)->(ak - av<n)->aH (B0 N x0 ak n av) fun r=>∀a,r= .inr a->a≠0:=by
 induction n generalizing av with
 |zero=>intros;exfalso;grind -mbtc
 |succ n aq=>
  intros;rw[B0];repeat' (with_reducible first|intro _|apply b7 (aq ?_ ?_ ?_)|apply bU|refine bG (by omega) ?_|apply bo|apply br|apply aW|apply aK)
  all_goals clear aq
  all_goals grind
theorem amO {x0:List en} (U:x0.length<=1000000) {n:Nat} {ak:Int}:(0<=ak)->(ak<=(x0.length:Int))->((x0.length:Int) - ak<n)->aH (BZ N x0 n ak) fun r=>(r= .inl ()->∀t∈x0.drop ak.toNat,0<=t.a)/\∀a,r= .inr a->a≠0:=by
 induction n generalizing ak with
 |zero=>intros;exfalso;grind -mbtc
 |succ n aq=>
  intros;rw[BZ];repeat' (with_reducible first|intro _|apply dR (amP ap ?_ ?_ ?_ ?_ ?_)|apply aI (afJ ap)|apply b7 (aq ?_ ?_ ?_)|apply bU|refine bG (by omega) ?_|apply bo|apply br|apply aW|apply aK)
  all_goals clear aq
  all_goals grind (ematch:=15) (gen:=15) (splits:=15)
theorem Y8 {x0:List en} (U:x0.length<=1000000):aH (CS N x0) fun r=>r=0->∀t∈x0,0<=t.a:=by
 rw[CS];repeat' (with_reducible first|intro _|apply dR (amO ap ?_ ?_ ?_ ?_)|apply br|apply aW|apply aK)
 all_goals grind
theorem ajO {x0:List gp} {ak:Int} (U:0<=ak) (aa:ak<x0.length):aH (G0 N x0 ak) fun r=>True:=by
 rw[G0];repeat' (with_reducible first|intro _|apply bU|apply br|apply aW|apply aK)
 all_goals grind
theorem ajN {x0:List gp} (U:x0.length<=1000000) {n:Nat} {ak:Int}:(0<=ak)->(ak<=(x0.length:Int))->((x0.length:Int) - ak<n)->aH (z4 N x0 n ak) fun r=>True:=by
 induction n generalizing ak with
 |zero=>intros;exfalso;grind -mbtc
 |succ n aq=>
  intros;rw[z4];repeat' (with_reducible first|intro _|apply aI (ajO ap ?_ ?_)|apply b7 (aq ?_ ?_ ?_)|refine bG (by omega) ?_|apply bo|apply br|apply aW|apply aK)
  all_goals clear aq
  all_goals grind
theorem YC {x0:List gp}:aH (CC N x0) fun r=>True:=by
 rw[CC];repeat' (with_reducible first|intro _|apply dR (ajN ap ?_ ?_ ?_ ?_)|apply br|apply aW|apply aK)
 all_goals grind
theorem ajG {J:du}:aH (GV N J) fun r=>r=as5->0<J.aP.length/\J.aP.length<=24:=by
 rw[GV];repeat' (with_reducible first|intro _|apply bo|apply br|apply aW|apply aK)
 all_goals grind
theorem ajI {J:du} {ak:Bool} {av:Int}:aH (GW N J ak av) fun r=>r=as5->ak=as5/\av<(J.aP.length:Int):=by
 rw[GW];repeat' (with_reducible first|intro _|apply aW|apply aK)
 all_goals grind
theorem ajJ {J:du} {av:Int} (U:nj J) (aa:0<=av) (ao:av<J.aP.length):aH (GX N J av) fun r=>True:=by
 rw[GX];repeat' (with_reducible first|intro _|apply aI (Gz ap ?_ ?_)|apply bU|apply bo|apply br|apply aW|apply aK)
 all_goals grind
theorem ajL {J:du} {ak:Bool} {av ai:Int} (U:nj J) (aa:0<=ai) (ao:ai<=av) (aN:av<J.aP.length):aH (GY N J ak av ai) fun r=>True:=by
 rw[GY];repeat' (with_reducible first|intro _|apply bU|apply bo|apply aW|apply aK)
 all_goals grind
theorem ajK {J:du} {av:Int} (U:nj J) (aa:av<J.aP.length) {n:Nat} {ak:Bool} {ai:Int}:(0<=ai)->(ai<=av)->(av - ai<n)->aH (z3 N J av n ak ai) fun r=>True:=by
 induction n generalizing ak ai with
 |zero=>intros;exfalso;grind -mbtc
 |succ n aq=>
  intros;rw[z3];repeat' (with_reducible first|intro _|apply aI (ajL ap ?_ ?_ ?_ ?_)|apply b7 (aq ?_ ?_ ?_)|refine bG (by omega) ?_|apply bo|apply br|apply aW|apply aK)
  all_goals clear aq
  all_goals grind
theorem ajH {J:du} (U:nj J) {n:Nat} {ak:Bool} {av:Int}:(0<=av)->(av<=(J.aP.length:Int))->((J.aP.length:Int) - av<n)->aH (z2 N J n ak av) fun r=>r=as5->ak=as5:=by
 induction n generalizing ak av with
 |zero=>intros;exfalso;grind -mbtc
 |succ n aq=>
  intros;rw[z2];repeat' (with_reducible first|intro _|apply aI (ajI ap)|apply aI (ajJ ap ?_ ?_ ?_)|apply aI (ajK ap ?_ ?_ ?_ ?_ ?_)|apply b7 (aq ?_ ?_ ?_)|refine bG (by omega) ?_|apply bo|apply aW|apply aK)
  all_goals clear aq
  all_goals grind (ematch:=15) (gen:=15) (splits:=15)
theorem YB {x0:du} (U:nj x0):aH (CB N x0) fun r=>r=0->0<x0.aP.length/\x0.aP.length<=24:=by
 rw[CB];repeat' (with_reducible first|intro _|apply aI (YC ap)|apply aI (Y8 ap ?_)|apply aI (ajG ap)|apply aI (ajH ap ?_ ?_ ?_ ?_)|apply aW|apply aK)
 all_goals grind (ematch:=15) (gen:=15) (splits:=15)
theorem aoZ {J:du} (U:nj J) {n:Nat} {ai:bL} {az:Int} {vi:(List (List Int))}:(0<=az)->(az<=(J.aP.length:Int))->((J.aP.length:Int) - az<n)->(vi.length=az)->(∀t∈vi,t=[])->aH (Bl N J n ai az vi) fun r=>r.1=xm ai/\r.2.length=J.aP.length/\∀t∈r.2,t=[]:=by
 induction n generalizing ai az vi with
 |zero=>intros;exfalso;grind -mbtc
 |succ n aq=>
  intros;rw[Bl];repeat' (with_reducible first|intro _|apply b7 (aq ?_ ?_ ?_ ?_ ?_)|apply ed|refine bG (by omega) ?_|apply bo|apply br|apply aW|apply aK)
  all_goals clear aq
  all_goals grind (ematch:=15) (gen:=15) (splits:=15) [xm]
theorem af6 {x0:du} (U:nj x0):aH (Lq N x0) fun r=>r.2=0->0<x0.aP.length/\x0.aP.length<=24/\r.1.aP.length=x0.aP.length/\(∀t∈r.1.aP,t=[])/\r.1=bL.mk [] r.1.aP [] as9 (fZ.mk [] (cS.mk [] 0) (gY.mk (eW.mk 0 []) []) 0 [] 0) as9:=by
 rw[Lq];repeat' (with_reducible first|intro _|apply aI (YB ap ?_)|apply aI (aoZ ap ?_ ?_ ?_ ?_ ?_ ?_)|apply aW|apply aK)
 all_goals grind (ematch:=15) (gen:=15) (splits:=15) [xm]
end Go.W
end
section
set_option maxHeartbeats 2000000
namespace Go.W
open Go.ay
variable {N:Nat} (ap:5000000000<N)
include ap
structure r5 (y:bL):Prop where
 t:y.aP.length<=1000000
 o:y.cE.length<=1000000
 w:y.cu.length<=1000000
attribute [grind->] r5.t r5.o r5.w
theorem akP {J:bL} {ai aA:Int} {az:Bool} (U:0<=aA) (aa:aA<J.cE.length):aH (Ii N J ai az aA) fun r=>True:=by
 rw[Ii];repeat' (with_reducible first|intro _|apply bU|apply bo|apply aW|apply aK)
 all_goals first|grind -mbtc|grind
theorem akO {J:bL} {ai:Int} (U:r5 J) {n:Nat} {az:Bool} {aA:Int}:(0<=aA)->(aA<=(J.cE.length:Int))->((J.cE.length:Int) - aA<n)->aH (A1 N J ai n az aA) fun r=>True:=by
 induction n generalizing az aA with
 |zero=>intros;exfalso;grind -mbtc
 |succ n aq=>
  intros;rw[A1];repeat' (with_reducible first|intro _|apply aI (akP ap ?_ ?_)|apply b7 (aq ?_ ?_ ?_)|refine bG (by omega) ?_|apply bo|apply br|apply aW|apply aK)
  all_goals clear aq
  all_goals first|grind -mbtc|grind
theorem akQ {J:bL} {ai:Int} {az:Bool} (U:0<=ai) (aa:ai<J.aP.length):aH (Ij N J ai az) fun r=>True:=by
 rw[Ij];repeat' (with_reducible first|intro _|apply bU|apply aW|apply aK)
 all_goals first|grind -mbtc|grind
theorem akN {J:bL} {ak av:List Int} {ai:Int} (U:r5 J) (aa:0<=ai) (ao:ai<J.aP.length) (aN:ak.length<=1000000) (bI:av.length<=1000000):aH (Ih N J ak av ai) fun r=>r.1.length+r.2.length<=ak.length+av.length+1/\∀a,(a∈r.1\/a∈r.2)->a∈ak\/a∈av\/a=ai:=by
 rw[Ih];repeat' (with_reducible first|intro _|apply aI (akO ap ?_ ?_ ?_ ?_)|apply aI (akQ ap ?_ ?_)|apply ed|apply aW|apply aK)
 all_goals first|grind -mbtc|grind
theorem akM {J:bL} (U:r5 J) {n:Nat} {ak:(List Int)} {av:(List Int)} {ai:Int}:(0<=ai)->(ai<=(J.aP.length:Int))->((J.aP.length:Int) - ai<n)->(ak.length+av.length<=ai)->aH (A0 N J n ak av ai) fun r=>r.1.length+r.2.length<=J.aP.length:=by
 induction n generalizing ak av ai with
 |zero=>intros;exfalso;grind -mbtc
 |succ n aq=>
  intros;rw[A0];repeat' (with_reducible first|intro _|apply aI (akN ap ?_ ?_ ?_ ?_ ?_)|apply b7 (aq ?_ ?_ ?_ ?_)|refine bG (by omega) ?_|apply bo|apply br|apply aW|apply aK)
  all_goals clear aq
  all_goals first|grind -mbtc|grind
theorem aeD {x0:bL} (U:r5 x0):aH (Kw N x0) fun r=>r.length<=x0.aP.length:=by
 rw[Kw];repeat' (with_reducible first|intro _|apply aI (akM ap ?_ ?_ ?_ ?_ ?_)|apply ed|apply aK)
 all_goals first|grind -mbtc|grind
theorem amd {x0:cx} {ai:Int} {bk:Bool} (U:bk=as5->0<x0.l.length) (aa:0<=x0.n) (ao:x0.n<=1000000000000):aH (HK N x0 ai bk) fun r=>True:=by
 rw[HK];repeat' (with_reducible first|intro _|apply bU|apply Ds|apply Du|apply tv|refine bG (by omega) ?_|apply bo|apply aW|apply aK)
 all_goals first|grind -mbtc|grind
theorem ame {J ai:Int} {s9:Bool}:aH (HL N J ai s9) fun r=>(ai<J-> -J<ai->(s9=as5↔ai<0)->J<=1000000->0<=r/\r<J):=by
 rw[HL];repeat' (with_reducible first|intro _|refine bG (by omega) ?_|apply bo|apply aW|apply aK)
 all_goals first|grind -mbtc|grind
theorem jm {x0:cx} {J:Int} (U:0<=x0.n) (aa:x0.n<=1000000000000) (ao:0<J) (aN:J<=1000000):aH (fN N x0 J) fun r=>0<=r.1/\r.1<J/\r.2.n=x0.n+1:=by
 rw[fN];repeat' (with_reducible first|intro _|apply aI (amd ap ?_ ?_ ?_)|apply aI (ame ap)|apply Ds|refine bG (by omega) ?_|apply aK)
 all_goals first|grind -mbtc|grind
theorem akF {J:Int} (U:J<=100) {n:Nat} {x0:cx} {ai:(List UInt8)} {az:Int}:(0<=az)->(az<=J)->(J - az<n)->(0<=x0.n)->(x0.n+J - az<=1000000000000)->(ai.length=J)->aH (AX N J n x0 ai az) fun r=>r.2.length=J/\x0.n<=r.1.n/\r.1.n<=x0.n+J - az:=by
 induction n generalizing x0 ai az with
 |zero=>intros;exfalso;grind -mbtc
 |succ n aq=>
  intros;rw[AX];repeat' (with_reducible first|intro _|apply aI (jm ap ?_ ?_ ?_ ?_)|apply b7 (aq ?_ ?_ ?_ ?_ ?_ ?_)|apply k4|apply bU|refine bG (by omega) ?_|apply bo|apply br|apply aW|apply aK)
  all_goals clear aq
  all_goals first|grind -mbtc|grind
theorem ae5 {x0:cx} {J:Int} (U:J=11) (aa:0<=x0.n) (ao:x0.n<=900000000000):aH (Ko N x0 J) fun r=>r.1.length=11/\x0.n<=r.2.n/\r.2.n<=x0.n+11:=by
 rw[Ko];repeat' (with_reducible first|intro _|apply aI (akF ap ?_ ?_ ?_ ?_ ?_ ?_ ?_)|apply tu|apply aK)
 all_goals first|grind -mbtc|grind
theorem amg {x0:List UInt8} {ai:Int} (U:0<=ai) (aa:ai<x0.length):aH (HM N x0 ai) fun r=>True:=by
 rw[HM];repeat' (with_reducible first|intro _|apply bU|apply br|apply aW|apply aK)
 all_goals first|grind -mbtc|grind
theorem amf {x0:List UInt8} {J:Int} (U:J=x0.length) (aa:J<=100) {n:Nat} {ai:Int}:(0<=ai)->(ai<=J)->(J - ai<n)->aH (Aq N x0 J n ai) fun r=>True:=by
 induction n generalizing ai with
 |zero=>intros;exfalso;grind -mbtc
 |succ n aq=>
  intros;rw[Aq];repeat' (with_reducible first|intro _|apply aI (amg ap ?_ ?_)|apply b7 (aq ?_ ?_ ?_)|refine bG (by omega) ?_|apply bo|apply br|apply aW|apply aK)
  all_goals clear aq
  all_goals first|grind -mbtc|grind
theorem Yo {x0:List UInt8} {J:Int} (U:J<=100):aH (CK N x0 J) fun r=>r=as5->x0.length=J:=by
 rw[CK];repeat' (with_reducible first|intro _|apply dR (amf ap ?_ ?_ ?_ ?_ ?_)|apply aW|apply aK)
 all_goals first|grind -mbtc|grind
theorem aoQ {aA:Int} {iV:Bool}:aH (IC N aA iV) fun r=>True:=by
 rw[IC];repeat' (with_reducible first|intro _|refine bG (by omega) ?_|apply bo|apply br|apply aW|apply aK)
 all_goals first|grind -mbtc|grind
theorem aoP {x0:List UInt8} {J:Int} (U:J<=x0.length) (aa:J<=100) {n:Nat} {ai:Int} {az:Int}:(0<=az)->(az<=J)->(J - az<n)->aH (BL N x0 J n ai az) fun r=>True:=by
 induction n generalizing ai az with
 |zero=>intros;exfalso;grind -mbtc
 |succ n aq=>
  intros;rw[BL];repeat' (with_reducible first|intro _|apply aI (aoQ ap)|apply b7 (aq ?_ ?_ ?_)|apply bU|refine bG (by omega) ?_|apply bo|apply br|apply aW|apply aK)
  all_goals clear aq
  all_goals first|grind -mbtc|grind
theorem Zf {x0:List UInt8} {J:Int} (U:J=11) (aa:J<=x0.length):aH (C0 N x0 J) fun r=>True:=by
 rw[C0];repeat' (with_reducible first|intro _|apply aI (aoP ap ?_ ?_ ?_ ?_ ?_)|apply aK)
 all_goals first|grind -mbtc|grind
theorem ago {x0:List UInt8}:aH (KU N x0) fun r=>True:=by
 rw[KU];repeat' (with_reducible first|intro _|apply aI (Yo ap ?_)|apply aI (Zf ap ?_ ?_)|refine bG (by omega) ?_|apply bo|apply aW|apply aK)
 all_goals first|grind -mbtc|grind
theorem ae6 {x0:cx} {J:Int} (U:0<=x0.n) (aa:x0.n<=900000000000):aH (Kp N x0 J) fun r=>r.1.length=12/\x0.n<=r.2.n/\r.2.n<=x0.n+11:=by
 rw[Kp];repeat' (with_reducible first|intro _|apply aI (ae5 ap ?_ ?_ ?_)|apply aI (ago ap)|apply k4|apply ed|apply bU|refine bG (by omega) ?_|apply bo|apply aK)
 all_goals grind (ematch:=25) (gen:=25) (splits:=25)
theorem uP {x0:cx} {J:List Int} (U:0<=x0.n) (aa:x0.n<=1000000000000) (ao:0<J.length) (aN:J.length<=1000):aH (iE N x0 J) fun r=>r.1∈J/\r.2.n=x0.n+1:=by
 rw[iE];repeat' (with_reducible first|intro _|apply aI (jm ap ?_ ?_ ?_ ?_)|apply bU|apply aK)
 all_goals first|grind -mbtc|grind
theorem agb {x0:cx} (U:0<=x0.n) (aa:x0.n<=1000000000000):aH (KK N x0) fun r=>r.1.length<=12/\r.2.n=x0.n+1:=by
 rw[KK];repeat' (with_reducible first|intro _|apply aI (jm ap ?_ ?_ ?_ ?_)|apply bU|apply aK)
 all_goals grind -mbtc (gen:=25) (ematch:=25)
theorem akS {iv:Int} {JP:Bool}:aH (Il N iv JP) fun r=>True:=by
 rw[Il];repeat' (with_reducible first|intro _|apply bo|apply aW|apply aK)
 all_goals first|grind -mbtc|grind
theorem akR {ai:b8} {iv:Int}:aH (Ik N ai iv) fun r=>True:=by
 rw[Ik];repeat' (with_reducible first|intro _|apply aI (akS ap)|apply bo|apply aW|apply aK)
 all_goals first|grind -mbtc|grind
theorem aeG {x0:cx} {J:Int} (U:0<=x0.n) (aa:x0.n<=900000000000):aH (Kz N x0 J) fun r=>x0.n<=r.2.n/\r.2.n<=x0.n+30:=by
 rw[Kz];repeat' (with_reducible first|intro _|apply aI (agb ap ?_ ?_)|apply aI (jm ap ?_ ?_ ?_ ?_)|apply aI (ae6 ap ?_ ?_)|apply aI (uP ap ?_ ?_ ?_ ?_)|apply aI (akR ap)|apply bU|refine bG (by omega) ?_|apply aK)
 all_goals grind (ematch:=25) (gen:=25) (splits:=25)
theorem agp {x0:List UInt8}:aH (KV N x0) fun r=>r=0->x0.length=12:=by
 rw[KV];repeat' (with_reducible first|intro _|apply aI (Yo ap ?_)|apply aI (Zf ap ?_ ?_)|apply bU|refine bG (by omega) ?_|apply aW|apply aK)
 all_goals first|grind -mbtc|grind
theorem an4 {bk:Int} {a8:Bool}:aH (Jx N bk a8) fun r=>True:=by
 rw[Jx];repeat' (with_reducible first|intro _|apply bo|apply aW|apply aK)
 all_goals first|grind -mbtc|grind
theorem an5 {bk:Int} {cy:Bool}:aH (Jy N bk cy) fun r=>True:=by
 rw[Jy];repeat' (with_reducible first|intro _|apply bo|apply aW|apply aK)
 all_goals first|grind -mbtc|grind
theorem afR {x0:List UInt8}:aH (Lc N x0) fun r=>r.2=0->x0.length=12:=by
 rw[Lc];repeat' (with_reducible first|intro _|apply aI (an4 ap)|apply aI (an5 ap)|apply aI (agp ap)|apply bU|apply bo|apply aW|apply aK)
 all_goals first|grind -mbtc|grind
theorem alu {ai az di:Int}:aH (H5 N ai az di) fun r=>True:=by
 rw[H5];repeat' (with_reducible first|intro _|apply bo|apply aW|apply aK)
 all_goals first|grind -mbtc|grind
theorem alv {J:b8} {az:Int}:aH (H6 N J az) fun r=>True:=by
 rw[H6];repeat' (with_reducible first|intro _|apply bo|apply br|apply aW|apply aK)
 all_goals first|grind -mbtc|grind
theorem agr {x0:b8} (U:x0.dest.length<=1000000):aH (KX N x0) fun r=>r=0->x0.number.length=12:=by
 rw[KX];repeat' (with_reducible first|intro _|apply aI (afR ap)|apply aI (Gz ap ?_ ?_)|apply aI (alu ap)|apply aI (alv ap)|apply bo|apply aW|apply aK)
 all_goals first|grind -mbtc|grind
end Go.W
end
section
set_option maxHeartbeats 2000000
namespace Go.W
open Go.ay
def Tp (b:List UInt8):Nat->Nat->Prop
 |0,_=>True
 |k+1,p=>match b[p+14]? with
  |none=>False
  |some d=>p+15+d.toNat<=b.length/\Tp b k (p+15+d.toNat)
@[grind .] theorem arh (b:List UInt8) (p:Nat):Tp b 0 p:=trivial
@[grind .] theorem asQ (x:UInt8):(x.toNat:Int)<256:=by have:=x.toNat_lt;omega
@[grind=] theorem asO {a b:Int} (h:0<=a):a.tmod b=a%b:=Int.tmod_eq_emod_of_nonneg h
variable {N:Nat} (ap:5000000000<N)
include ap
theorem ajZ {x0:List b8} {ak:Int} (U:x0.length<=1000000) (aa:ak<x0.length) {n:Nat} {ai:Int}:(0<=ai)->(ai<=ak)->(ak - ai<n)->aH (Aa N x0 ak n ai) fun r=>∀a,r= .inr a->a≠0:=by
 induction n generalizing ai with
 |zero=>intros;exfalso;grind -mbtc
 |succ n aq=>
  intros;rw[Aa];repeat' (with_reducible first|intro _|apply b7 (aq ?_ ?_ ?_)|apply bU|refine bG (by omega) ?_|apply bo|apply br|apply aW|apply aK)
  all_goals clear aq
  all_goals grind -mbtc
theorem ajY {x0:List b8} (U:x0.length<=1000000) (aa:∀w∈x0,w.dest.length<=1000000) {n:Nat} {ak:Int}:(0<=ak)->(ak<=(x0.length:Int))->((x0.length:Int) - ak<n)->aH (z9 N x0 n ak) fun r=>(r= .inl ()->∀w∈x0.drop ak.toNat,w.number.length=12)/\∀a,r= .inr a->a≠0:=by
 induction n generalizing ak with
 |zero=>intros;exfalso;grind -mbtc
 |succ n aq=>
  intros;rw[z9];repeat' (with_reducible first|intro _|apply aI (agr ap ?_)|apply dR (ajZ ap ?_ ?_ ?_ ?_ ?_)|apply b7 (aq ?_ ?_ ?_)|apply bU|refine bG (by omega) ?_|apply bo|apply br|apply aW|apply aK)
  all_goals clear aq
  all_goals grind -mbtc
theorem Gv {x0:List b8} (U:x0.length<=1000000) (aa:∀w∈x0,w.dest.length<=1000000):aH (vn N x0) fun r=>r=0->x0.length<=96/\∀w∈x0,w.number.length=12:=by
 rw[vn];repeat' (with_reducible first|intro _|apply dR (ajY ap ?_ ?_ ?_ ?_ ?_)|apply br|apply aW|apply aK)
 all_goals grind -mbtc
theorem alr {x0:List UInt8} (U:x0.length<=1000000) {n:Nat} {ak:Int} {av:Int}:(0<=av)->(av<=(x0.length:Int))->((x0.length:Int) - av<n)->aH (AJ N x0 n ak av) fun r=>True:=by
 induction n generalizing ak av with
 |zero=>intros;exfalso;grind -mbtc
 |succ n aq=>
  intros;rw[AJ];repeat' (with_reducible first|intro _|apply b7 (aq ?_ ?_ ?_)|apply bU|refine bG (by omega) ?_|apply bo|apply br|apply aW|apply aK)
  all_goals clear aq
  all_goals grind -mbtc
theorem Yt {x0:List UInt8} (U:x0.length<=1000000):aH (CN N x0) fun r=>True:=by
 rw[CN];repeat' (with_reducible first|intro _|apply aI (alr ap ?_ ?_ ?_ ?_)|apply aK)
 all_goals grind -mbtc
theorem aly {aA:b8} (U:aA.number.length=12) {n:Nat} {ai:(List UInt8)} {aC:Int}:(0<=aC)->(aC<=12)->((12:Int) - aC<n)->(aC%2=0)->(ai.length+12 - aC<=100000000)->aH (Au N aA n ai aC) fun r=>r.length+aC<=ai.length+12:=by
 induction n generalizing ai aC with
 |zero=>intros;exfalso;grind -mbtc
 |succ n aq=>
  intros;rw[Au];repeat' (with_reducible first|intro _|apply b7 (aq ?_ ?_ ?_ ?_ ?_)|apply k4|apply ed|apply bU|refine bG (by omega) ?_|apply bo|apply br|apply aW|apply aK)
  all_goals clear aq
  all_goals grind -mbtc
theorem alz {aZ:Int} {Qv:Bool} (U:0<=aZ) (aa:aZ<256):aH (HP N aZ Qv) fun r=>0<=r/\r<256:=by
 rw[HP];repeat' (with_reducible first|intro _|apply bo|apply aW|apply aK)
 all_goals grind -mbtc
theorem alx {x0:List b8} (U:x0.length<=1000000) (aa:∀w∈x0,w.dest.length<=255) (ao:∀w∈x0,w.number.length=12) (aN:x0.length<=96) {n:Nat} {ai:(List UInt8)} {az:Int}:(0<=az)->(az<=(x0.length:Int))->((x0.length:Int) - az<n)->(ai.length<=1000*az+1)->aH (At N x0 n ai az) fun r=>r.length<=100000:=by
 induction n generalizing ai az with
 |zero=>intros;exfalso;grind -mbtc
 |succ n aq=>
  intros;rw[At];repeat' (with_reducible first|intro _|apply aI (aly ap ?_ ?_ ?_ ?_ ?_ ?_)|apply aI (alz ap ?_ ?_)|apply b7 (aq ?_ ?_ ?_ ?_)|apply k4|apply ed|apply bU|apply tv|refine bG (by omega) ?_|apply bo|apply br|apply aW|apply aK)
  all_goals clear aq
  all_goals first|grind -mbtc|grind -mbtc (gen:=20) (ematch:=20)
theorem agd {x0:List b8} (U:x0.length<=1000000) (aa:∀w∈x0,w.dest.length<=255):aH (KL N x0) fun r=>r.1.length<=200000:=by
 rw[KL];repeat' (with_reducible first|intro _|apply aI (Yt ap ?_)|apply aI (alx ap ?_ ?_ ?_ ?_ ?_ ?_ ?_ ?_)|apply aI (Gv ap ?_ ?_)|apply k4|apply ed|refine bG (by omega) ?_|apply aW|apply aK)
 all_goals grind -mbtc
theorem aeF {x0:cx} {J:List UInt8} (U:0<=x0.n) (aa:x0.n<=900000000000) (ao:J.length<=1000000):aH (Ky N x0 J) fun r=>r.1.length<=J.length+1/\x0.n<=r.2.n/\r.2.n<=x0.n+3:=by
 rw[Ky];repeat' (with_reducible first|intro _|apply aI (jm ap ?_ ?_ ?_ ?_)|apply k4|apply ed|apply pL|refine bG (by omega) ?_|apply bo|apply EA|apply aW|apply aK)
 all_goals grind -mbtc
theorem YA {x0:cx} {J:List UInt8} (U:0<=x0.n) (aa:x0.n<=900000000000) (ao:J.length<=1000000):aH (Cz N x0 J) fun r=>r.1.length<=J.length+1/\x0.n<=r.2.n/\r.2.n<=x0.n+3:=by
 rw[Cz];repeat' (with_reducible first|intro _|apply aI (aeF ap ?_ ?_ ?_)|apply ed|apply aK)
 all_goals grind -mbtc
end Go.W
end
