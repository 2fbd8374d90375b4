import Derived.Test.YtfmpkhcaifbonaaGreatDoorProg
import Derived.WalkKit
import Derived.WalkLawsBesides
import Derived.Deep.QuietTactic
import Derived.BigQuiet
import Derived.Laws.IdiomStrings
import Derived.Deep.Cut
import Derived.Deep.MidRow
import Derived.Deep.AppendLies
import Derived.Deep.RegionLaw
import Derived.Defers
import Derived.Recover
import Derived.Test.YtfmpkhcaifbonaaGreatDoorMd
set_option linter.unusedSimpArgs false
set_option linter.unusedVariables false
set_option linter.unusedSectionVars false
open Array renaming all_eq_true_iff_forall_mem->axX,getD_eq_getD_getElem?->axe,getElem?_eq_getElem->axV,getElem?_eq_some_iff->awB,getElem?_push->awH,getElem?_setIfInBounds->axZ,getElem?_toList->aw8,length_toList->aw3,replicate->av1,size_push->awL
open BitVec renaming ofInt->awx,ofInt_natCast->axF,toNat_ofNat->axG
open Bool renaming false->ava,true->au7
open Go renaming IntKind->avb,Program->avd,TypeId->ave,Value->au9
open Go.Act renaming eval->awr
open Go.AllReady renaming cons->awm,nil->awV
open Go.Ending renaming returned->axU
open Go.IntKind renaming wrap->avc,wrap_i64->axa,wrap_u8->axH
open Go.Result renaming andThen->axm
open Go.Sem renaming run_bind->avH,run_pure->avM
open Go.Value renaming oneCell'->aw7,slice->avS
open Go.World renaming cell?->av7,cell?_of_block->aw6,frozen?->awZ,rangeAt_setCells_same->axY,setCell->awY
open Int renaming reduceEq->avF,toNat_natCast->av'
open List renaming all_eq_true->avt,eq_nil_of_length_eq_zero->awd,flatMap_cons->awQ,getElem?_eq_getElem->avV,getElem?_eq_some_iff->avr,getElem?_map->awb,length_append->awa,length_cons->awh,length_map->awk,mem_cons->avu,mem_map->avy,mem_of_getElem?->av4,mem_singleton->aw1,not_mem_nil->awK,replicate->avw,setIfInBounds_toArray->awy
open Nat renaming add_assoc->avZ,add_zero->av2,le_refl->avm,le_succ->avJ,le_trans->avz,lt_irrefl->awP,lt_of_lt_of_le->avx,lt_succ_self->av5,mul_one->awF,ne_of_lt->av9,not_lt->awu,zero_add->avD
open Option renaming bind->au',bind_none->avG,bind_some->avv,none->au8,some->au6
open Or renaming inl->awA
open UInt8 renaming ofNat->awv
section
namespace Go.W
open Go Go.Proofs Go.RowKit
def lp (w:World) (b o:Nat) (s:List UInt8):Prop:=∀(i:Nat) (x:UInt8),s[i]? =au6 x->w.cell? ⟨b,o+i,au8⟩=au6 (.int .u8 x.toNat)
def fi (w:World) (bh b:Nat) (s:List UInt8):Prop:=∃o c,w.cell? ⟨bh,0,au8⟩=au6 (.slice (au6 ⟨b,o,au8⟩) s.length c)/\s.length<=c/\lp w b o s/\w.frozen? ⟨bh,0,au8⟩=ava/\bh≠b
def r6:List PanicEntry:=[{v:= .iface 191 (.agg #[]),recovered:=ava}]
theorem lp.set {w:World} {b o bh:Nat} {s:List UInt8} {v:au9} (h:lp w b o s) (n:bh≠b):lp (w.setCell ⟨bh,0,au8⟩ v) b o s:=fun i x aj=>by
 rw[World.cell?_setCell_other _ _ _ _ (by simp[n.symm])];exact h i x aj
theorem Mq (b o j:Nat):(⟨b,o,au8⟩:Addr).add j=⟨b,o+j,au8⟩:=by unfold Addr.add;split<;>simp_all
theorem lp.nil {w:World} {b o:Nat}:lp w b o []:=fun i x aj=>by cases aj
structure fF (bh:Nat) (w w':World):Prop where
 os:w'.os=w.os
 tape:w'.tape=w.tape
 output:w'.output=w.output
 size:w'.heap.size=w.heap.size
 heap:∀c,c≠bh->w'.heap[c]? =w.heap[c]?
theorem fF.set (bh:Nat) (w:World) (v:au9):fF bh w (w.setCell ⟨bh,0,au8⟩ v):=⟨rfl,rfl,rfl,by simp[awY],fun c ai=>Below.heap_setCell w _ v c ai⟩
theorem fF.trans {bh:Nat} {a b c:World} (h:fF bh a b) (k:fF bh b c):fF bh a c:=⟨k.os.trans h.os,k.tape.trans h.tape,k.output.trans h.output,k.size.trans h.size,fun x ae=>(k.heap x ae).trans (h.heap x ae)⟩
theorem fF.drewN {bh q:Nat} {a b:World} (h:fF bh a b):fF bh a (b.drewN q):=⟨h.os,h.tape,h.output,h.size,h.heap⟩
def aa1 (bh b k:Nat) (s:List UInt8) (w:World) (e:Ending) (w':World):Prop:=∃o c,e= .returned (.slice (au6 ⟨b,o,au8⟩) k c)/\k<=c/\lp w' b o (s.take k)/\fF bh w w'/\fi w' bh b (s.drop k)
def pZ (bh b:Nat) (r:au9) (s:List UInt8) (w:World) (e:Ending) (w':World):Prop:=e= .returned r/\fF bh w w'/\fi w' bh b s
def m5 (bh:Nat) (w:World) (e:Ending) (w':World):Prop:=e= .panicked r6/\fF bh w w'
theorem fF.refl (bh:Nat) (w:World):fF bh w w:=⟨rfl,rfl,rfl,rfl,fun _ _=>rfl⟩
theorem fi.drewN {w:World} {bh b q:Nat} {s:List UInt8} (h:fi w bh b s):fi (w.drewN q) bh b s:=by
 obtain ⟨o,c,bf,U,aa,ap,aN⟩:=h;exact ⟨o,c,by simpa using bf,U,fun i x aj=>by simpa using aa i x aj,by simpa using ap,aN⟩
def dJ (x y:UInt8):Int:=((x.toNat*256+y.toNat:Nat):Int)
theorem afK (x y:UInt8):bits .or .i64 (↑x.toNat*256) ↑y.toNat=((x.toNat*256+y.toNat:Nat):Int):=by
 have ae:=x.toNat_lt;have aI:=y.toNat_lt;have bu:(awx 64 ((x.toNat:Int)*256)).toNat=x.toNat*256:=by rw[show ((x.toNat:Int)*256)=((x.toNat*256:Nat):Int) by omega,axF,axG,Nat.mod_eq_of_lt (by omega)]
 have e2:(awx 64 (y.toNat:Int)).toNat=y.toNat:=by rw[axF,axG,Nat.mod_eq_of_lt (by omega)]
 have uc:=Nat.two_pow_add_eq_or_of_lt (i:=8) (b:=y.toNat) (by omega) x.toNat;have wm:bits .or .i64 (↑x.toNat*256) ↑y.toNat=avc .i64 (((awx 64 ((x.toNat:Int)*256)|||awx 64 (y.toNat:Int):BitVec 64).toNat:Nat):Int):=rfl;rw[wm,BitVec.toNat_or,bu,e2,Nat.mul_comm x.toNat 256,show (256:Nat)=2 ^ 8 from rfl,<-uc,axa];omega
set_option maxHeartbeats 1000000 in
set_option maxRecDepth 100000 in
theorem Hd (bh b k:Nat) (s:List UInt8) (w:World) (h:fi w bh b s) (au:s.length<k):
  Calls Tryz.prog 67 #[.pointer (au6 ⟨bh,0,au8⟩), .int .i64 k] w (m5 bh w):=by
 obtain ⟨o,c,bf,ai,_,a4,_⟩:=h
 go_enter Tryz.func67,Tryz.ntmps67
 go_wp2
 exact ⟨rfl,rfl,fF.refl _ _⟩
set_option maxHeartbeats 1000000 in
set_option maxRecDepth 100000 in
theorem He (bh b k:Nat) (s:List UInt8) (w:World) (h:fi w bh b s) (au:k<=s.length):
  Calls Tryz.prog 67 #[.pointer (au6 ⟨bh,0,au8⟩), .int .i64 k] w (aa1 bh b k s w):=by
 obtain ⟨o,c,bf,ai,ag,a4,a1⟩:=h;have EK:∀v,lp (w.setCell ⟨bh,0,au8⟩ v) b o (s.take k):=fun v=>(lp.set (fun i x aj=>ag i x (by rw[List.getElem?_take] at aj;split at aj<;>simp_all)) a1)
 have yK:∀v,lp (w.setCell ⟨bh,0,au8⟩ v) b (o+k) (s.drop k):=fun v=>(lp.set (fun i x aj=>by rw[List.getElem?_drop] at aj;rw[avZ];exact ag _ x aj) a1)
 have rm:∀v,(w.setCell ⟨bh,0,au8⟩ v).cell? ⟨bh,0,au8⟩=au6 v:=fun v=>World.cell?_setCell_same w _ _ bf;have qp:∀v,(w.setCell ⟨bh,0,au8⟩ v).frozen? ⟨bh,0,au8⟩=ava:=fun v=>by simpa using a4
 have az:(s.drop k).length=s.length - k:=List.length_drop;have aO:c=k->s.drop k=[]:=fun h=>List.drop_eq_nil_of_le (by omega);generalize aC:s.length=n at*
 go_enter Tryz.func67,Tryz.ntmps67
 go_wp2
 ·go_ret
  refine ⟨o,k,rfl,avm _,EK _,fF.set _ _ _,o,0, ?_, ?_, ?_,qp _,a1⟩
  ·rw[az];exact rm _
  ·rw[az];omega
  ·rw[aO (by assumption)];exact lp.nil
 ·go_ret
  refine ⟨o,c,rfl,by omega,EK _,fF.set _ _ _,o+k,c - k, ?_, ?_,yK _,qp _,a1⟩
  ·rw[az];exact rm _
  ·rw[az];omega
set_option maxHeartbeats 1000000 in
set_option maxRecDepth 100000 in
theorem Qk (bh b:Nat) (x:UInt8) (s:List UInt8) (w:World) (h:fi w bh b (x::s)):
  Calls Tryz.prog 40 #[.pointer (au6 ⟨bh,0,au8⟩)] w (pZ bh b (.int .i64 x.toNat) s w):=by
 have ai:=He bh b 1 (x::s) w h (by simp);have ae:=x.toNat_lt
 go_enter Tryz.func40,Tryz.ntmps40
 go_wp2_with (go_at_call 67;refine (ai).mono ?_;rintro e w' ⟨o,c,rfl,U,aa,au,ap⟩;have aN:=aa 0 x rfl;simp only[av2] at aN)
 go_ret
 exact ⟨rfl,au,ap⟩
set_option maxHeartbeats 1000000 in
set_option maxRecDepth 100000 in
theorem Zy (bh b:Nat) (w:World) (h:fi w bh b []):
  Calls Tryz.prog 40 #[.pointer (au6 ⟨bh,0,au8⟩)] w (m5 bh w):=by
 have ai:=Hd bh b 1 [] w h (by simp)
 go_enter Tryz.func40,Tryz.ntmps40
 go_wp2_with (go_at_call 67;refine (ai).mono ?_;rintro e w' ⟨rfl,au⟩)
 exact ⟨rfl,rfl,au⟩
set_option maxHeartbeats 1000000 in
set_option maxRecDepth 100000 in
theorem agc (bh b:Nat) (x y:UInt8) (s:List UInt8) (w:World) (h:fi w bh b (x::y::s)):
  Calls Tryz.prog 68 #[.pointer (au6 ⟨bh,0,au8⟩)] w (pZ bh b (.int .i64 (dJ x y)) s w):=by
 have ai:=He bh b 2 (x::y::s) w h (by simp);have ae:=x.toNat_lt;have aI:=y.toNat_lt
 go_enter Tryz.func68,Tryz.ntmps68
 go_wp2_with (go_at_call 67;refine (ai).mono ?_;rintro e w' ⟨o,c,rfl,U,aa,au,ap⟩;have aN:=aa 0 x rfl;have bK:=aa 1 y rfl;simp only[av2] at aN)
 go_quiet (fail)
 go_wp2
 go_ret
 have e:bits BinOp.or .i64 (↑x.toNat*256) ↑y.toNat=dJ x y:=afK x y;refine ⟨?_,au.drewN,ap.drewN⟩;show axU (.int .i64 (bits BinOp.or .i64 (↑x.toNat*256) ↑y.toNat))=_;rw[e]
set_option maxHeartbeats 1000000 in
set_option maxRecDepth 100000 in
theorem Zl (bh b:Nat) (s:List UInt8) (w:World) (h:fi w bh b s) (aC:s.length<2):
  Calls Tryz.prog 68 #[.pointer (au6 ⟨bh,0,au8⟩)] w (m5 bh w):=by
 have ai:=Hd bh b 2 s w h aC
 go_enter Tryz.func68,Tryz.ntmps68
 go_wp2_with (go_at_call 67;refine (ai).mono ?_;rintro e w' ⟨rfl,au⟩)
 exact ⟨rfl,rfl,au⟩
set_option maxHeartbeats 1000000 in
set_option maxRecDepth 100000 in
theorem ahR (bh b:Nat) (x:UInt8) (s:List UInt8) (w:World) (h:fi w bh b (x::s)) (aC:x.toNat<=s.length):
  Calls Tryz.prog 69 #[.pointer (au6 ⟨bh,0,au8⟩)] w (pZ bh b (.string ⟨(s.take x.toNat).toArray⟩) (s.drop x.toNat) w):=by
 have ai:=Qk bh b x s w h;have az:(s.take x.toNat).length=x.toNat:=List.length_take_of_le aC
 go_enter Tryz.func69,Tryz.ntmps69
 go_wp2_with (first|(go_at_call 40;refine (ai).mono ?_;rintro e w' ⟨rfl,au,ap⟩)|(go_at_call 67;refine (He bh b x.toNat s _ ap aC).mono ?_;rintro e w' ⟨o,c,rfl,U,aa,rh,ap⟩;have ee:=run_convert_bytes_back (P:=Tryz.prog) _ 27 9 5 ⟨b,o,au8⟩ c (s.take x.toNat) Tryz.underlying27 Tryz.underlying5 Tryz.underlying9 (fun j aZ=>by rw[Mq];exact aa j _ (avV aZ));rw[az] at ee))
 go_ret
 exact ⟨rfl,au.trans rh,ap⟩
set_option maxHeartbeats 1000000 in
set_option maxRecDepth 100000 in
theorem ahQ (bh b:Nat) (s:List UInt8) (w:World) (h:fi w bh b s) (aC:kG s=au8):Calls Tryz.prog 69 #[.pointer (au6 ⟨bh,0,au8⟩)] w (m5 bh w):=by
 cases s with
 |nil=>
  have ai:=Zy bh b w h
  go_enter Tryz.func69,Tryz.ntmps69
  go_wp2_with (go_at_call 40;refine (ai).mono ?_;rintro e w' ⟨rfl,au⟩)
  exact ⟨rfl,rfl,au⟩
 |cons x s=>
  have ai:=Qk bh b x s w h;have az:s.length<x.toNat:=by
   have:e0 x.toNat s=au8:=aC;unfold e0 at this;split at this
   ·cases this
   ·omega
  go_enter Tryz.func69,Tryz.ntmps69
  go_wp2_with (first|(go_at_call 40;refine (ai).mono ?_;rintro e w' ⟨rfl,au,ap⟩)|(go_at_call 67;refine (Hd bh b x.toNat s _ ap az).mono ?_;rintro e w' ⟨rfl,rh⟩))
  exact ⟨rfl,rfl,au.trans rh⟩
def aa4 (bh b:Nat) (s:List UInt8) (w:World) (e:Ending) (w':World):Prop:=(∃n r,eo s=au6 (n,r)/\pZ bh b (.int .i64 n) r w e w')\/eo s=au8/\m5 bh w e w'
def aa3 (bh b:Nat) (s:List UInt8) (w:World) (e:Ending) (w':World):Prop:=(∃n r,kZ s=au6 (n,r)/\pZ bh b (.int .i64 (n:Int)) r w e w')\/kZ s=au8/\m5 bh w e w'
def aa6 (bh b:Nat) (s:List UInt8) (w:World) (e:Ending) (w':World):Prop:=(∃n r,kG s=au6 (n,r)/\pZ bh b (.string ⟨n.toArray⟩) r w e w')\/kG s=au8/\m5 bh w e w'
theorem aqJ {s r:List UInt8} {n:Int} (h:eo s=au6 (n,r)):∃k:Nat,n=(k:Int)/\k<65536:=by
 match s,h with
 |x::y::s,h=>cases h;have:=x.toNat_lt;have:=y.toNat_lt;exact ⟨_,rfl,by omega⟩
 |[],h=>cases h
 |[_],h=>cases h
def aa2 (bh b k:Nat) (s:List UInt8) (w:World) (e:Ending) (w':World):Prop:=(∃n r o c,e0 k s=au6 (n,r)/\n.length=k/\e= .returned (.slice (au6 ⟨b,o,au8⟩) k c)/\k<=c/\lp w' b o n/\fF bh w w'/\fi w' bh b r)\/e0 k s=au8/\m5 bh w e w'
theorem aq0 (bh b k:Nat) (s:List UInt8) (w:World) (h:fi w bh b s):Calls Tryz.prog 67 #[.pointer (au6 ⟨bh,0,au8⟩), .int .i64 k] w (aa2 bh b k s w):=by
 by_cases au:k<=s.length
 ·refine (He bh b k s w h au).mono ?_;rintro e w' ⟨o,c,U,aa,ap,aN,bK⟩;exact .inl ⟨_,_,o,c,if_pos au,List.length_take_of_le au,U,aa,ap,aN,bK⟩
 ·exact (Hd bh b k s w h (by omega)).mono fun e w' q=> .inr ⟨if_neg au,q⟩
theorem lP (bh b:Nat) (s:List UInt8) (w:World) (h:fi w bh b s):Calls Tryz.prog 68 #[.pointer (au6 ⟨bh,0,au8⟩)] w (aa4 bh b s w):=by
 match s,h with
 |[],h=>exact (Zl bh b _ w h (by simp)).mono fun e w' q=> .inr ⟨rfl,q⟩
 |[_],h=>exact (Zl bh b _ w h (by simp)).mono fun e w' q=> .inr ⟨rfl,q⟩
 |x::y::s,h=>exact (agc bh b x y s w h).mono fun e w' q=> .inl ⟨_,_,rfl,q⟩
theorem zY (bh b:Nat) (s:List UInt8) (w:World) (h:fi w bh b s):Calls Tryz.prog 40 #[.pointer (au6 ⟨bh,0,au8⟩)] w (aa3 bh b s w):=by
 match s,h with
 |[],h=>exact (Zy bh b w h).mono fun e w' q=> .inr ⟨rfl,q⟩
 |x::s,h=>exact (Qk bh b x s w h).mono fun e w' q=> .inl ⟨_,_,rfl,q⟩
theorem Gy (bh b:Nat) (s:List UInt8) (w:World) (h:fi w bh b s):Calls Tryz.prog 69 #[.pointer (au6 ⟨bh,0,au8⟩)] w (aa6 bh b s w):=by
 cases aC:kG s with
 |none=>exact (ahQ bh b s w h aC).mono fun e w' q=> .inr ⟨aC,q⟩
 |some p=>
  match s,h,aC with
  |x::s,h,aC=>
   have ag:e0 x.toNat s=au6 p:=aC;have az:x.toNat<=s.length:=by
    unfold e0 at ag;split at ag
    ·assumption
    ·cases ag
   refine (ahR bh b x s w h az).mono fun e w' q=> .inl ⟨_,_, ?_,q⟩;unfold e0 at ag;rw[if_pos az] at ag;cases ag;exact aC
end Go.W
end
section
namespace Go.W
open Go Go.Proofs Go.RowKit
def dX:au9:= .slice au8 0 0
def hv (k t o c w:au9) (ts oT n kD ds kC nQ:au9):Array au9:=#[k,t,o,c,w,ts,oT,n,kD,ds,kC,nQ]
def cd:au9:= .int .i64 0
def jo:au9:= .string ⟨#[]⟩
structure fY (bR:World) (bh b:Nat) (cs:Array au9) (s:List UInt8) (w:World):Prop where
 os:w.os=bR.os
 tape:w.tape=bR.tape
 output:w.output=bR.output
 size:bR.heap.size+2<=w.heap.size
 heap:∀c,c<bR.heap.size->c≠bh->w.heap[c]? =bR.heap[c]?
 rd:fi w bh b s
 a8:w.heap[bR.heap.size+1]? =au6 (.cells cs 29 (0,0))
 oy:w.heap[bR.heap.size]? =au6 (.cells (hv cd cd cd cd cd dX dX jo cd dX jo dX) 29 (0,0))
 g0:bh<bR.heap.size
 ag:b<bR.heap.size
 a7:cs.size=12
 one:∀v∈cs,v.oneCell'=au7
theorem fi.other {w w':World} {bh b:Nat} {s:List UInt8} (h:fi w bh b s) (U:w'.heap[bh]? =w.heap[bh]?) (aa:w'.heap[b]? =w.heap[b]?):fi w' bh b s:=by
 obtain ⟨o,c,gH,cz,dw,ft,hK⟩:=h;refine ⟨o,c,(aw6 U).trans gH,cz,fun i x aj=>(aw6 aa).trans (dw i x aj), ?_,hK⟩;unfold awZ at ft⊢;rw[U];exact ft
theorem ib (w:World) (o:Obj):(w.alloc o).heap=w.heap.push o:=rfl
theorem mF {aA:Type} {xs:Array aA} {x:aA} {i:Nat} (h:i<xs.size):(xs.push x)[i]? =xs[i]? :=by
 rw[awH,if_neg (by omega)]
theorem fY.start {w:World} {bh b:Nat} {s:List UInt8} (k:au9) (au:k.oneCell'=au7) (h:fi w bh b s) (g0:bh<w.heap.size) (ag:b<w.heap.size):
  fY w bh b (hv k cd cd cd cd dX dX jo cd dX jo dX) s ((w.alloc (.cells (hv cd cd cd cd cd dX dX jo cd dX jo dX) 29)).alloc (.cells (hv k cd cd cd cd dX dX jo cd dX jo dX) 29)) where
 os:=rfl
 tape:=rfl
 output:=rfl
 size:=by rw[ib,ib];simp
 heap:=fun c ai _=>by rw[ib,ib,mF (by simp;omega),mF ai]
 rd:=h.other (by rw[ib,ib,mF (by simp;omega),mF g0]) (by rw[ib,ib,mF (by simp;omega),mF ag])
 a8:=by rw[ib,ib,awH,if_pos (by simp)]
 oy:=by rw[ib,ib,mF (by simp),awH,if_pos rfl]
 g0:=g0
 ag:=ag
 a7:=rfl
 one:=fun v ab=>by simp only[hv,List.mem_toArray,avu,awK,or_false] at ab;rcases ab with rfl|rfl|rfl|rfl|rfl|rfl|rfl|rfl|rfl|rfl|rfl|rfl<;>first|exact au|rfl
theorem fY.call {bR w w':World} {bh b:Nat} {cs:Array au9} {s h3:List UInt8} (h:fY bR bh b cs s w) (k:fF bh w w') (r:fi w' bh b h3):fY bR bh b cs h3 w' where
 os:=k.os.trans h.os
 tape:=k.tape.trans h.tape
 output:=k.output.trans h.output
 size:=by rw[k.size];exact h.size
 heap:=fun c ai a1=>(k.heap c a1).trans (h.heap c ai a1)
 rd:=r
 a8:=(k.heap _ (by have:=h.g0;omega)).trans h.a8
 oy:=(k.heap _ (by have:=h.g0;omega)).trans h.oy
 g0:=h.g0
 ag:=h.ag
 a7:=h.a7
 one:=h.one
theorem fY.put {bR w:World} {bh b:Nat} {cs:Array au9} {s:List UInt8} (h:fY bR bh b cs s w) (k:Nat) (v:au9) (ab:v.oneCell'=au7:=by rfl):fY bR bh b (cs.setIfInBounds k v) s (w.setCell ⟨bR.heap.size+1,k,au8⟩ v) where
 os:=h.os
 tape:=h.tape
 output:=h.output
 size:=by simpa[awY] using h.size
 heap:=fun c ai a1=>(Below.heap_setCell w _ v c (by simp;omega)).trans (h.heap c ai a1)
 rd:=h.rd.other (Below.heap_setCell w _ v bh (by have:=h.g0;simp;omega)) (Below.heap_setCell w _ v b (by have:=h.ag;simp;omega))
 a8:=by simp only[awY,Array.getElem?_modify,h.a8];simp
 oy:=(Below.heap_setCell w _ v _ (by simp)).trans h.oy
 g0:=h.g0
 ag:=h.ag
 a7:=by simpa using h.a7
 one:=fun u hu=>by
  rcases Array.mem_or_eq_of_mem_setIfInBounds hu with hu|rfl
  ·exact h.one u hu
  ·exact ab
theorem fY.cell {bR w:World} {bh b:Nat} {cs:Array au9} {s:List UInt8} (h:fY bR bh b cs s w) (k:Nat):w.cell? ⟨bR.heap.size+1,k,au8⟩=cs[k]? :=by
 unfold av7;rw[h.a8];rfl
theorem fY.bl {bR w:World} {bh b:Nat} {cs:Array au9} {s:List UInt8} (h:fY bR bh b cs s w) (k:Nat):w.frozen? ⟨bR.heap.size+1,k,au8⟩=ava:=by
 unfold awZ;rw[h.a8];simp
theorem fY.ua {bR w:World} {bh b:Nat} {cs:Array au9} {s:List UInt8} (h:fY bR bh b cs s w) (k:Nat):w.cell? ⟨bR.heap.size,k,au8⟩=#[cd,cd,cd,cd,cd,dX,dX,jo,cd,dX,jo,dX][k]? :=by
 unfold av7;rw[h.oy];rfl
theorem fY.uh {bR w:World} {bh b:Nat} {cs:Array au9} {s:List UInt8} (h:fY bR bh b cs s w) (k:Nat):w.frozen? ⟨bR.heap.size,k,au8⟩=ava:=by
 unfold awZ;rw[h.oy];simp
theorem fF.snoc {g k:Nat} {a b:World} {v:au9} (h:fF g a b):fF g a (b.setCell ⟨g,k,au8⟩ v):=h.trans ⟨rfl,rfl,rfl,by simp[awY],fun c ai=>Below.heap_setCell b _ v c ai⟩
def RA (bR:World) (bh b:Nat) (cs:Array au9) (s:List UInt8) (e:Ending) (w':World):Prop:=e= .returned (.agg cs)/\∃w,fY bR bh b cs s w/\fF bR.heap.size w w'
theorem fF.cells {g:Nat} {w:World}:∀(vs:List au9) (o:Nat) (b:World),fF g w b->fF g w (b.setCells g o vs)
 |[],_,_,h=>h
 |v::vs,o,b,h=>fF.cells vs (o+1) _ h.snoc
theorem vq {bR w:World} {bh b:Nat} {cs:Array au9} {s:List UInt8} {a:Act} {K:Act->World->Prop} {Q:Exit->Act->World->Prop} (h:fY bR bh b cs s w) (aN:a.eval (.tmp 4)= .pointer (au6 ⟨bR.heap.size,0,au8⟩)) (bK:a.eval (.tmp 5)= .pointer (au6 ⟨bR.heap.size+1,0,au8⟩)) (iR:100<a.tmps.size)
  (fH : K (a.put (au6 100) (.agg cs)) (w.setCells bR.heap.size 0 cs.toList)) : Code.wp Tryz.prog (.region 33 #[{ dst := au6 100, op := .load 29 (.tmp 5), type := 29, pos := "script.go:166", after := #[], guard := au8 }, { dst := au8, op := .store 29 (.tmp 4) (.tmp 100), type := 0, pos := "script.go:166", after := #[{ on := 0, ground := .data }, { on := 0, ground := .phase }], guard := au8 }] ava) (Exit.then K Q) a w := by
 have ai:=h.a7;have U:cs.all (·.oneCell')=au7:=axX.2 h.one;have aj:(Tryz.prog.info? 29).map (·.size)=au6 12:=by kernel_rfl
 refine wp_region_list (wpList_load_mid rfl 29 (.tmp 5) rfl (bR.heap.size+1) 0 bK cs.toList _ (fun j v aZ=> ?_) Tryz.underlying29 rfl (by rw[aj];simp[ai]) (wpList_store_mid rfl 29 (.tmp 4) (.tmp 100) rfl bR.heap.size 0 cs ?_ ?_ (fun j aZ=> ?_) (by rw[aj,ai]) U fH))
 ·rw[avD,h.cell j,<-aw8];exact aZ
 ·simp[awr,Act.put] at aN⊢;exact aN
 ·simp[awr,Act.put,iR]
 ·rw[avD,h.ua j,h.uh j];rw[ai] at aZ;exact ⟨by rw[axV (by exact aZ)];rfl,rfl⟩
theorem vg {bR w:World} {bh b:Nat} {cs:Array au9} {s:List UInt8} {a:Act} {R:Ending->World->Prop} (h:fY bR bh b cs s w) (aN:a.tmps.getD 4 undef= .pointer (au6 ⟨bR.heap.size,0,au8⟩)) (aO:a.defers=[]) (cl:R (.returned (.agg cs)) (w.setCells bR.heap.size 0 cs.toList)):
  bodyPost Tryz.prog Tryz.f41 R .ret a (w.setCells bR.heap.size 0 cs.toList):=by
 have ai:=h.a7;have aj:(Tryz.prog.info? 29).map (·.size)=au6 12:=by kernel_rfl
 refine ⟨aO, .agg cs, ?_,cl⟩;have az:=run_loadVar_mid (P:=Tryz.prog) (w.setCells bR.heap.size 0 cs.toList) bR.heap.size 0 29 cs.toList _ (axY w _ _ _ fun j aZ=>by
  rw[avD,h.ua j,h.uh j];rw[aw3,ai] at aZ;exact ⟨by rw[axV (by exact aZ)];rfl,rfl⟩) Tryz.underlying29 rfl (by rw[aj];simp[ai])
 rw[axe] at aN;simp[results,Tryz.results41,aN,asAddr,avH,avM,az,axm]
theorem vp {bR w:World} {bh b:Nat} {cs:Array au9} {s:List UInt8} (h:fY bR bh b cs s w):RA bR bh b cs s (.returned (.agg cs)) (w.setCells bR.heap.size 0 cs.toList):=⟨rfl,w,h,fF.cells _ _ _ (fF.refl _ _)⟩
structure DT (bh:Nat) (w w':World):Prop where
 os:w'.os=w.os
 tape:w'.tape=w.tape
 output:w'.output=w.output
 size:w.heap.size<=w'.heap.size
 heap:∀c,c<w.heap.size->c≠bh->w'.heap[c]? =w.heap[c]?
theorem fY.jV {bR w w':World} {bh b:Nat} {cs:Array au9} {s:List UInt8} (h:fY bR bh b cs s w) (k:fF bh w w'):DT bh bR w':=⟨k.os.trans h.os,k.tape.trans h.tape,k.output.trans h.output,by have:=h.size;rw[k.size];omega,fun c ai a1=>(k.heap c a1).trans (h.heap c ai a1)⟩
def hr (n:Int):au9:= .int .i64 n
def ny (s:List UInt8):au9:= .string ⟨s.toArray⟩
def gG (bR w':World) (t:ave) (a7:Nat) (v:au9) (xs:List au9):Prop:=(xs=[]/\v=dX)\/∃(g c l:Nat) (cs:Array au9),v= .slice (au6 ⟨g,0,au8⟩) l c/\l*a7=xs.length/\0<l/\l<=c/\c<=maxLen/\bR.heap.size<=g/\w'.heap[g]? =au6 (.cells cs t (0,0))/\c*a7<=cs.size/\∀(i:Nat) (x:au9),xs[i]? =au6 x->cs[i]? =au6 x
def tP (bR w':World) (e:bj) (cs:Array au9):Prop:=∃ts oT ds nQ,cs=hv (hr e.kind) (hr e.bC) (hr e.to) (hr e.count) (hr e.cE) ts oT (ny e.order.name) (hr e.order.bC) ds (ny e.name) nQ/\
 gG bR w' 3 1 ts (e.aP.map hr)/\gG bR w' 48 2 oT (e.cQ.flatMap fun s=>[hr s.place,hr s.bC])/\gG bR w' 9 1 ds (e.order.cw.map ny)/\gG bR w' 5 1 nQ (e.data.map fun x=> .int .u8 x.toNat)
def gx (bR:World) (bh b:Nat) (k:Int) (s:List UInt8) (e:Ending) (w':World):Prop:=match eM k s with|some (v,r)=>∃cs,tP bR w' v cs/\RA bR bh b cs r e w'|none=>e= .panicked r6/\DT bh bR w'
theorem gG.nil {bR w':World} {t:ave} {a7:Nat}:gG bR w' t a7 dX []:= .inl ⟨rfl,rfl⟩
theorem fY.grown {bR w w':World} {bh b:Nat} {cs:Array au9} {s:List UInt8} {row:Option Nat} (h:fY bR bh b cs s w) (g:w.grownBy w' row) (aE:∀k,row=au6 k->bR.heap.size+2<=k):fY bR bh b cs s w' where
 os:=g.os.trans h.os
 tape:=g.tape.trans h.tape
 output:=g.output.trans h.output
 size:=avz h.size g.size
 heap:=fun c ai a1=>(g.block c (by have:=h.size;omega) (fun e=>by have:=aE c e.symm;omega)).trans (h.heap c ai a1)
 rd:=h.rd.other (g.block bh (by have:=h.size;have:=h.g0;omega) (fun e=>by have:=aE _ e.symm;have:=h.g0;omega)) (g.block b (by have:=h.size;have:=h.ag;omega) (fun e=>by have:=aE _ e.symm;have:=h.ag;omega))
 a8:=(g.block _ (by have:=h.size;omega) (fun e=>by have:=aE _ e.symm;omega)).trans h.a8
 oy:=(g.block _ (by have:=h.size;omega) (fun e=>by have:=aE _ e.symm;omega)).trans h.oy
 g0:=h.g0
 ag:=h.ag
 a7:=h.a7
 one:=h.one
def Own (bR w:World) (t:ave) (a7:Nat) (v:au9) (l:Nat) (xs:List au9):Prop:=w.ownsRow (bR.heap.size+2) t a7 v l xs/\(l=0->v=dX)
theorem Own.one {bR w:World} {t:ave} {a7 l:Nat} {v:au9} {xs:List au9} (h:Own bR w t a7 v l xs):v.oneCell'=au7:=by
 rcases h.1.2 with ⟨rfl,_⟩|⟨g,cap,cur,rfl,_⟩<;>rfl
theorem Own.aS {bR w:World} {t:ave} {a7 l:Nat} {v:au9} {xs:List au9} (h:Own bR w t a7 v l xs):∀k,v.ownBlock=au6 k->bR.heap.size+2<=k:=by
 rcases h.1.2 with ⟨rfl,_⟩|⟨g,cap,cur,rfl,a5,_⟩
 ·intro k au;cases au
 ·intro k au;cases au;exact a5
theorem Own.keep {bR w w':World} {t:ave} {a7 l:Nat} {v:au9} {xs:List au9} (h:Own bR w t a7 v l xs) (hw:∀c,bR.heap.size+2<=c->w'.heap[c]? =w.heap[c]?):Own bR w' t a7 v l xs:=by
 refine ⟨⟨h.1.1, ?_⟩,h.2⟩;rcases h.1.2 with U|⟨g,cap,cur,U,aa,ap,aN⟩
 ·exact .inl U
 ·exact .inr ⟨g,cap,cur,U,aa,(hw g aa).trans ap,aN⟩
theorem Own.ad {bR w w':World} {t:ave} {a7 l:Nat} {v:au9} {xs:List au9} (h:Own bR w t a7 v l xs) (hw:∀c,bR.heap.size+2<=c->w'.heap[c]? =w.heap[c]?):gG bR w' t a7 v xs:=by
 obtain ⟨⟨U,aa⟩,ap⟩:=h;rcases Nat.eq_zero_or_pos l with rfl|az
 ·exact .inl ⟨awd (by simpa using U),ap rfl⟩
 ·rcases aa with ⟨_,aa⟩|⟨g,cap,cur,ab,a5,bL,ai,hm,aC,aw⟩
  ·omega
  ·refine .inr ⟨g,cap,l,cur,ab,U.symm,az,ai,hm,by omega,(hw g a5).trans bL,by omega,fun i x aj=> ?_⟩;rw[<-aw] at aj;rw[List.getElem?_take] at aj;split at aj
   ·simpa using aj
   ·cases aj
theorem fF.Uz {bR:World} {w w':World} (k:fF bR.heap.size w w'):∀c,bR.heap.size+2<=c->w'.heap[c]? =w.heap[c]? :=fun c ai=>k.heap c (by omega)
theorem zq {bR w:World} {o:Nat} {v:au9}:∀c,bR.heap.size+2<=c->(w.setCell ⟨bR.heap.size+1,o,au8⟩ v).heap[c]? =w.heap[c]? :=fun c ai=>Below.heap_setCell w _ v c (by simp;omega)
theorem zi {bR w:World} {o:Nat} {vs:List au9}:∀c,bR.heap.size+2<=c->(w.setCells bR.heap.size o vs).heap[c]? =w.heap[c]? :=fun c ai=>(fF.cells vs o w (fF.refl _ _)).heap c (by omega)
theorem ahS (xs:List UInt8):∀u∈xs.map (fun x:UInt8=>(.int .u8 x.toNat:au9)),u.oneCell'=au7:=fun u hu=>by
 obtain ⟨x,_,rfl⟩:=avy.1 hu;rfl
theorem lp.news {w:World} {b o:Nat} {s:List UInt8} (h:lp w b o s):∀(j:Nat) (u:au9),(s.map fun x:UInt8=>(.int .u8 x.toNat:au9))[j]? =au6 u->w.cell? ((⟨b,o,au8⟩:Addr).add j)=au6 u:=fun j u hu=>by
 rw[awb] at hu;obtain ⟨x,ae,rfl⟩:=Option.map_eq_some_iff.1 hu;rw[Mq];exact h j x ae
set_option maxHeartbeats 4000000 in
set_option maxRecDepth 100000 in
theorem acP (bh b:Nat) (s:List UInt8) (w:World) (h:fi w bh b s) (g0:bh<w.heap.size) (ag:b<w.heap.size):
  Calls Tryz.prog 41 #[.pointer (au6 ⟨bh,0,au8⟩), .int .i64 6] w (gx w bh b 6 s):=by
 have aC:=fY.start (.int .i64 6) rfl h g0 ag
 go_enter Tryz.func41,Tryz.ntmps41
 go_upto_region 33 with (first
  |(go_at_call 68;refine (lP bh b _ _ aC.rd).mono ?_;rintro e di (⟨ml,s1,dn,rfl,au,aE⟩|⟨dn,rfl,au⟩);have hh:=aC.call au aE;have mI:=hh.cell;have lK:=hh.bl;simp only[hv] at mI)
  |(go_at_call 68;refine (lP bh b _ _ (hh.put 1 _).rd).mono ?_;rintro e gV (⟨jF,s2,dA,rfl,au,aE⟩|⟨dA,rfl,au⟩);have iq:=(hh.put 1 _).call au aE;have qe:=iq.cell;have E8:=iq.bl;simp only[hv,awy] at qe)
  |(go_at_call 68;refine (lP bh b _ _ (iq.put 2 _).rd).mono ?_;rintro e lT (⟨hA,jG,ea,rfl,au,aE⟩|⟨ea,rfl,au⟩);have hz:=(iq.put 2 _).call au aE;have pg:=hz.cell;have E9:=hz.bl;have EN:=hz.ua;have EP:=hz.uh;simp only[hv,awy] at pg))
 ·refine vq (hz.put 3 _) ?_ ?_ ?_ ?_
  ·rfl
  ·rfl
  ·exact (by decide:100<101)
  go_wp2
  refine vg (hz.put 3 _) rfl rfl ?_;simp only[gx,eM,dn,dA,ea,avv,avF,if_true,if_false,or_self];exact ⟨_,⟨dX,dX,dX,dX,rfl,gG.nil,gG.nil,gG.nil,gG.nil⟩,vp (hz.put 3 _)⟩
 ·refine ⟨rfl, ?_⟩;simp only[gx,eM,dn,dA,ea,avv,avG,avF,if_true,if_false,or_self];exact ⟨trivial,(iq.put 2 _).jV au⟩
 ·refine ⟨rfl, ?_⟩;simp only[gx,eM,dn,dA,avv,avG,avF,if_true,if_false,or_self];exact ⟨trivial,(hh.put 1 _).jV au⟩
 ·refine ⟨rfl, ?_⟩;simp only[gx,eM,dn,avv,avG,avF,if_true,if_false,or_self];exact ⟨trivial,aC.jV au⟩
set_option maxHeartbeats 4000000 in
set_option maxRecDepth 100000 in
theorem acQ (bh b:Nat) (s:List UInt8) (w:World) (h:fi w bh b s) (g0:bh<w.heap.size) (ag:b<w.heap.size):
  Calls Tryz.prog 41 #[.pointer (au6 ⟨bh,0,au8⟩), .int .i64 7] w (gx w bh b 7 s):=by
 have aC:=fY.start (.int .i64 7) rfl h g0 ag
 go_enter Tryz.func41,Tryz.ntmps41
 go_upto_region 33 with (go_at_call 69;refine (Gy bh b _ _ aC.rd).mono ?_;rintro e di (⟨ml,s1,dn,rfl,au,aE⟩|⟨dn,rfl,au⟩);have hh:=aC.call au aE;have mI:=hh.cell;have lK:=hh.bl;simp only[hv] at mI)
 ·refine vq (hh.put 10 _) ?_ ?_ ?_ ?_
  ·rfl
  ·rfl
  ·exact (by decide:100<101)
  go_wp2
  refine vg (hh.put 10 _) rfl rfl ?_;simp only[gx,eM,dn,avv,avF,if_true,if_false,or_self];exact ⟨_,⟨dX,dX,dX,dX,rfl,gG.nil,gG.nil,gG.nil,gG.nil⟩,vp (hh.put 10 _)⟩
 ·refine ⟨rfl, ?_⟩;simp only[gx,eM,dn,avv,avG,avF,if_true,if_false,or_self];exact ⟨trivial,aC.jV au⟩
def sh (t:ave) (z:au9) (n b:Nat):Prop:=∃i,Tryz.prog.info? t=au6 i/\i.zero=au6 z/\i.size=n/\i.bytes=b
theorem GV {t:ave} {z:au9} {n b:Nat} (h:(Tryz.prog.info? t).map (fun i=>(i.zero,i.size,i.bytes))=au6 (au6 z,n,b)):sh t z n b:=by
 unfold sh;cases aj:Tryz.prog.info? t with
 |none=>rw[aj] at h;cases h
 |some i=>rw[aj] at h;simp only[Option.map_some,Option.some.injEq,Prod.mk.injEq] at h;exact ⟨i,rfl,h⟩
theorem afo:sh 5 (.int .u8 0) 1 1:=GV (by kernel_rfl)
theorem VB:sh 3 (.int .i64 0) 1 8:=GV (by kernel_rfl)
theorem afp:sh 9 (.string ⟨#[]⟩) 1 16:=GV (by kernel_rfl)
theorem af1:sh 48 (.agg #[.int .i64 0, .int .i64 0]) 2 16:=GV (by kernel_rfl)
theorem ahT {w:World} {ops:Array Oper} {rest:List Oper} {o:Oper} {a:Act} {Q:Exit->Act->World->Prop} (yV:o.guard=au8) (s x:Operand) (t:ave)
  (ao:o.op= .call {callee:= .builtin .append,args:=#[s,x],argTypes:=#[t,t]})
  (base:Nat) (e:ave) (z:au9) (size bytes:Nat) (aj:sh e z size bytes) (aw:Tryz.prog.underlying t=au6 (.slice e))
  (dV:z.cells.size=size) (b9:0<size)
  (v:au9) (n:Nat) (xs:List au9) (aC:a.eval s=v) (NZ:w.ownsRow base e size v n xs)
  (ch:Addr) (m c:Nat) (news:List au9) (ae:a.eval x= .slice (au6 ch) m c) (az:news.length=m*size) (NR:∀j u,news[j]? =au6 u->w.cell? (ch.add j)=au6 u) (U:∀u∈news,u.oneCell'=au7)
  (EG:n+m<=maxLen) (wB:(n+m)*bytes<=140737488355328) (yL:base<=w.heap.size) (L:Nat) (cU:n+m=L)
  (h:∀p c w',w'.ownsRow base e size (.slice p L c) L (xs++news)->w.grownBy w' v.ownBlock->(.slice p L c=avS au8 0 0↔v= .slice au8 0 0/\m=0)->wpList Tryz.prog ops Q rest (a.put o.dst (.slice p L c)) w'):
  wpList Tryz.prog ops Q (o::rest) a w:=by
 subst cU;obtain ⟨i,lB,aa,ap,aN⟩:=aj;exact wpList_append_own_at w yV s x t ao base e i z size bytes aw lB aa ap aN dV b9 v n xs aC NZ ch m c news ae az NR U EG wB yL fun bI w' a b c _=>by
  have bb:∃p c,bI= .slice p (n+m) c:=by
   rcases a.2 with ⟨rfl,bf⟩|⟨g,cap,cur,rfl,_⟩
   ·exact ⟨au8,0,by rw[bf]⟩
   ·exact ⟨_,_,rfl⟩
  obtain ⟨p,bQ,rfl⟩:=bb;exact h p bQ w' a b c
theorem aqY {bR w w':World} {bh b l:Nat} {cs:Array au9} {s:List UInt8} {t:ave} {a7:Nat} {bI:au9} {xs:List au9} (h:fY bR bh b cs s w) (ao:w'.ownsRow (bR.heap.size+2) t a7 bI l ([]++xs)) (g:w.grownBy w' (avS au8 0 0).ownBlock) (aj:bI= .slice au8 0 0↔avS au8 0 0= .slice au8 0 0/\l=0):Own bR w' t a7 bI l xs/\fY bR bh b cs s w'/\(∀k:Nat,w'.cell? ⟨bR.heap.size+1,k,au8⟩=cs[k]?)/\∀k:Nat,w'.frozen? ⟨bR.heap.size+1,k,au8⟩=ava:=by
 have aC:=h.grown g (fun k au=>by cases au);exact ⟨⟨ao,fun e=>aj.2 ⟨rfl,e⟩⟩,aC,aC.cell,aC.bl⟩
set_option maxHeartbeats 4000000 in
set_option maxRecDepth 100000 in
theorem acL (bh b:Nat) (s:List UInt8) (w:World) (h:fi w bh b s) (g0:bh<w.heap.size) (ag:b<w.heap.size):
  Calls Tryz.prog 41 #[.pointer (au6 ⟨bh,0,au8⟩), .int .i64 1] w (gx w bh b 1 s):=by
 have aC:=fY.start (.int .i64 1) rfl h g0 ag
 go_enter Tryz.func41,Tryz.ntmps41
 go_upto_region 33 with (first
  |(go_at_call 68;refine (lP bh b _ _ aC.rd).mono ?_;rintro e di (⟨ml,s1,dn,rfl,au,aE⟩|⟨dn,rfl,au⟩);have hh:=aC.call au aE;have mI:=hh.cell;have lK:=hh.bl;simp only[hv] at mI)
  |(go_at_call 68;refine (lP bh b _ _ (hh.put 1 _).rd).mono ?_;rintro e gV (⟨jF,s2,dA,rfl,au,aE⟩|⟨dA,rfl,au⟩);have iq:=(hh.put 1 _).call au aE;have qe:=iq.cell;have E8:=iq.bl;simp only[hv,awy] at qe;obtain ⟨cc,rfl,auE⟩:=aqJ dA)
  |(go_at_call 67;refine (aq0 bh b cc _ _ iq.rd).mono ?_;rintro e lT (⟨hA,jG,wZ,c3,ea,afv,rfl,atV,adx,au,aE⟩|⟨ea,rfl,au⟩);have hz:=iq.call au aE)
  |(at_builtin;go_loud (refine ahT rfl _ _ _ rfl (w.heap.size+2) 5 (.int .u8 0) 1 1 afo Tryz.underlying27 rfl (by omega) (.slice au8 0 0) 0 [] (by rfl) ⟨rfl, .inl ⟨rfl,rfl⟩⟩ ⟨b,wZ,au8⟩ cc c3 (hA.map fun x:UInt8=> .int .u8 x.toNat) (by rfl) (by simp[afv]) adx.news (ahS hA) (by simp[maxLen];omega) (by omega) hz.size cc (avD cc) ?_);intro uZ c4 fy aew ND ad2;obtain ⟨adn,N5,EM,Oc⟩:=aqY hz aew ND ad2;simp only[hv,awy] at EM))
 ·refine vq (N5.put 11 (.slice uZ cc c4)) ?_ ?_ ?_ ?_
  ·rfl
  ·rfl
  ·exact (by decide:100<101)
  go_wp2
  refine vg (N5.put 11 (.slice uZ cc c4)) rfl rfl ?_;simp only[gx,eM,dn,dA,ea,avv,av',if_true];exact ⟨_,⟨dX,dX,dX,_,rfl,gG.nil,gG.nil,gG.nil,adn.ad fun c ai=>(zi c ai).trans (zq c ai)⟩,vp (N5.put 11 (.slice uZ cc c4))⟩
 ·refine ⟨rfl, ?_⟩;simp only[gx,eM,dn,dA,ea,avv,avG,av',if_true];exact ⟨trivial,iq.jV au⟩
 ·refine ⟨rfl, ?_⟩;simp only[gx,eM,dn,dA,avv,avG,if_true];exact ⟨trivial,(hh.put 1 _).jV au⟩
 ·refine ⟨rfl, ?_⟩;simp only[gx,eM,dn,avG,if_true];exact ⟨trivial,aC.jV au⟩
end Go.W
end
section
namespace Go.W
open Go Go.Proofs Go.RowKit
structure lr {aA:Type} (f:List UInt8->Option (aA×List UInt8)) (c:Nat) (s:List UInt8) (k:Nat) (xs:List aA) (r:List UInt8):Prop where
 le:k<=c
 len:xs.length=k
 eq:hb f c s=Option.map (fun q=>(xs++q.1,q.2)) (hb f (c - k) r)
section
variable {aA:Type} {f:List UInt8->Option (aA×List UInt8)} {c k:Nat} {s r r1:List UInt8} {xs:List aA} {x:aA}
theorem lr.start:lr f c s 0 [] s:=⟨Nat.zero_le _,rfl,by
 rw[Nat.sub_zero];cases hb f c s<;>rfl⟩
theorem lr.step (h:lr f c s k xs r) (au:k<c) (bb:f r=au6 (x,r1)):lr f c s (k+1) (xs++[x]) r1:=⟨au,by rw[awa,h.len];rfl,by
 have e:c - k=(c - (k+1))+1:=by omega
 rw[h.eq,e];simp only[hb,bb,avv];cases hb f (c - (k+1)) r1 with
 |none=>rfl
 |some q=>simp⟩
theorem lr.fail (h:lr f c s k xs r) (au:k<c) (bb:f r=au8):hb f c s=au8:=by
 have e:c - k=(c - (k+1))+1:=by omega
 rw[h.eq,e];simp only[hb,bb,avG,Option.map_none]
theorem lr.done (h:lr f c s c xs r):hb f c s=au6 (xs,r):=by
 rw[h.eq,Nat.sub_self];simp[hb]
end
end Go.W
end
section
namespace Go.W
open Go Go.Proofs Go.RowKit
theorem fY.drew {bR w:World} {bh b:Nat} {cs:Array au9} {s:List UInt8} (h:fY bR bh b cs s w):fY bR bh b cs s w.drew:=⟨h.os,h.tape,h.output,h.size,h.heap,h.rd.drewN (q:=1),h.a8,h.oy,h.g0,h.ag,h.a7,h.one⟩
theorem fY.alloc {bR w:World} {bh b:Nat} {cs:Array au9} {s:List UInt8} (h:fY bR bh b cs s w) (o:Obj):fY bR bh b cs s (w.alloc o):=h.grown (row:=au8) ⟨rfl,rfl,rfl,by rw[ib];simp,fun c ai _=>by rw[ib,mF ai]⟩ (fun _ h=>by cases h)
theorem Own.alloc {bR w:World} {t:ave} {a7 l:Nat} {v:au9} {xs:List au9} (h:Own bR w t a7 v l xs) (o:Obj):Own bR (w.alloc o) t a7 v l xs:=by
 refine ⟨⟨h.1.1, ?_⟩,h.2⟩;rcases h.1.2 with U|⟨g,cap,cur,U,aa,ap,aN⟩
 ·exact .inl U
 ·exact .inr ⟨g,cap,cur,U,aa,by rw[ib,mF (awB.1 ap).1];exact ap,aN⟩
theorem Ft (w:World) (t:ave) (cs:Array au9) (l:List au9) (az:cs=l.toArray) (H:Nat) (adg:w.heap.size=H):∀(j:Nat) (u:au9),l[j]? =au6 u->(w.alloc (.cells cs t)).cell? ((⟨H,0,au8⟩:Addr).add j)=au6 u:=fun j u hu=>by
 subst az adg;rw[Mq,avD];unfold av7;rw[ib,awH,if_pos rfl];simpa using hu
theorem Gt {w:World} {ops:Array Oper} {o:Oper} {a:Act} {K:Act->World->Prop} {Q:Exit->Act->World->Prop} {E:Prop} (yV:o.guard=au8) (s x:Operand) (t:ave)
  (ao:o.op= .call {callee:= .builtin .append,args:=#[s,x],argTypes:=#[t,t]})
  (base:Nat) (e:ave) (z:au9) (size bytes:Nat) (aj:sh e z size bytes) (aw:Tryz.prog.underlying t=au6 (.slice e)) (dV:z.cells.size=size) (b9:0<size)
  (v:au9) (n:Nat) (xs:List au9) (aC:a.eval s=v) (NZ:w.ownsRow base e size v n xs)
  (ch:Addr) (m c:Nat) (news:List au9) (ae:a.eval x= .slice (au6 ch) m c) (az:news.length=m*size) (NR:∀j u,news[j]? =au6 u->w.cell? (ch.add j)=au6 u) (U:∀u∈news,u.oneCell'=au7)
  (hm:0<m) (EG:n+m<=maxLen) (wB:(n+m)*bytes<=140737488355328) (yL:base<=w.heap.size)
  (h:∀g cap w',w'.ownsRow base e size (.slice (au6 ⟨g,0,au8⟩) (n+m) cap) (n+m) (xs++news)->w.grownBy w' v.ownBlock->K (a.put o.dst (.slice (au6 ⟨g,0,au8⟩) (n+m) cap)) w'):
  if Region.wanted o (yielded ops a.tmps)=au7 then Oper.wp Tryz.prog o a w K Q else E:=by
 obtain ⟨i,lB,aa,ap,aN⟩:=aj;exact step_append_lies w yV s x t ao base e i z size bytes aw lB aa ap aN dV b9 v n xs aC NZ ch m c news ae az NR U hm EG wB yL _ rfl fun g cap w' a b _ _=>h g cap w' a b
set_option maxHeartbeats 4000000 in
set_option maxRecDepth 100000 in
theorem acN (bh b:Nat) (s:List UInt8) (w:World) (h:fi w bh b s) (g0:bh<w.heap.size) (ag:b<w.heap.size):
  Calls Tryz.prog 41 #[.pointer (au6 ⟨bh,0,au8⟩), .int .i64 3] w (gx w bh b 3 s):=by
 have aC:=fY.start (.int .i64 3) rfl h g0 ag
 go_enter Tryz.func41,Tryz.ntmps41
 go_upto_region 18 with (first
  |(go_at_call 68;refine (lP bh b _ _ aC.rd).mono ?_;rintro e di (⟨ml,s1,dn,rfl,au,aE⟩|⟨dn,rfl,au⟩);have hh:=aC.call au aE;have mI:=hh.cell;have lK:=hh.bl;simp only[hv] at mI)
  |(go_at_call 68;refine (lP bh b _ _ (hh.put 1 _).rd).mono ?_;rintro e gV (⟨jF,s2,dA,rfl,au,aE⟩|⟨dA,rfl,au⟩);have iq:=(hh.put 1 _).call au aE;have qe:=iq.cell;have E8:=iq.bl;simp only[hv,awy] at qe)
  |(go_at_call 40;refine (zY bh b _ _ (iq.put 4 _).rd).mono ?_;rintro e lT (⟨hA,jG,ea,rfl,au,aE⟩|⟨ea,rfl,au⟩);have hz:=(iq.put 4 _).call au aE;have pg:=hz.cell;have E9:=hz.bl;have EN:=hz.ua;have EP:=hz.uh;simp only[hv,awy] at pg))
 ·have NQ:hA<256:=by
   cases po:s2 with
   |nil=>rw[po] at ea;cases ea
   |cons x r=>rw[po] at ea;cases ea;exact x.toNat_lt
  go_loopw [56] (fun u wr=>∃(k:Nat) (xs:List Int) (r:List UInt8) (v:au9),u= .int .i64 k/\lr eo hA jG k xs r/\Own w wr 3 1 v k (xs.map hr)/\fY w bh b #[.int .i64 3, .int .i64 ml,cd,cd, .int .i64 jF,v,dX,jo,cd,dX,jo,dX] r wr) (fun u _=>hA - (intOf u).toNat)
  case atStart=>
   exact ⟨0,[],jG,dX,rfl,lr.start,⟨⟨rfl, .inl ⟨rfl,rfl⟩⟩,fun _=>rfl⟩,hz⟩
  case round=>
   obtain ⟨k,xs,r,v,rfl,cU,bP,a0⟩:=hrel;have gT:=a0.drew;have Nq:=gT.cell;have Oe:=gT.bl;by_cases bS:k<hA
   ·cases bd:eo r with
    |none=>
     have cf:Calls Tryz.prog 68 #[.pointer (au6 ⟨bh,0,au8⟩)] wr.drew (m5 bh wr.drew):=(lP bh b _ _ gT.rd).mono (by
      rintro e fy (⟨jx,nx,eH,_⟩|⟨eH,aN⟩)
      ·rw[bd] at eH;cases eH
      ·exact aN)
     have pf:∀fy,fF bh wr.drew fy->gx w bh b 3 s (.panicked r6) fy:=fun fy g8=>by simp only[gx,eM,dn,dA,ea,cU.fail bS bd,avv,avG,avF,if_true,if_false,or_false,true_or];exact ⟨trivial,gT.jV g8⟩
     go_upto_region 19 with fail
     refine wp_region_any (by kernel_rfl) ?_
     change wpAny _ _ _ _ _ _ _ (World.drew _)
     refine wpAny_take (i:=0) (v:=_) rfl (by kernel_rfl) (by kernel_rfl) (by kernel_rfl) (fun _ _ _ h=>h) (awA ⟨by rfl,by intro w;go_simp;rfl⟩) ?_;refine wpAny_take (i:=2) (v:=_) rfl (by kernel_rfl) (by kernel_rfl) (by kernel_rfl) (fun _ _ _ h=>h) (awA ⟨by rfl,by intro w;go_simp;rfl⟩) ?_;refine wpAny_ready (rs:=[1,3]) (by kernel_rfl) (by simp) (awm rfl (fun K fH=> ?_) (awm rfl (fun K fH=> ?_) awV))
     ·go_simp
      refine fH _ _ ?_;clear fH K;refine wpAny_ready (rs:=[3]) (by kernel_rfl) (by simp) (awm rfl (fun K fH=> ?_) awV)
      go_simp;go_at_call 68;refine cf.mono ?_;rintro e fy ⟨rfl,g8⟩
      exact ⟨rfl,pf _ g8⟩
     ·go_simp;go_at_call 68;refine cf.mono ?_;rintro e fy ⟨rfl,g8⟩
      exact ⟨rfl,pf _ g8⟩
    |some p=>
     obtain ⟨jx,nx⟩:=p;have cf:Calls Tryz.prog 68 #[.pointer (au6 ⟨bh,0,au8⟩)] wr.drew (pZ bh b (.int .i64 jx) nx wr.drew):=(lP bh b _ _ gT.rd).mono (by
      rintro e fy (⟨rE,vH,eH,aN⟩|⟨eH,_⟩)
      ·rw[bd] at eH;cases eH;exact aN
      ·rw[bd] at eH;cases eH)
     go_upto_region 19 with fail
     go_region_law (first
      |(go_simp;go_at_call 68;refine cf.mono ?_;rintro e fy ⟨rfl,g8,sO⟩;have lC:=gT.call g8 sO;have EM:=lC.cell;have Oc:=lC.bl;have jD:=fun o:Obj=>(lC.alloc o).cell)
      |(refine Gt rfl _ _ 22 rfl (w.heap.size+2) 3 (.int .i64 0) 1 8 VB Tryz.underlying22 rfl (by omega) v k (xs.map hr) (by rfl) ((bP.keep (fun c ai=>g8.heap c (by omega))).alloc _).1 ⟨fy.heap.size,0,au8⟩ 1 1 [.int .i64 jx] (by rfl) rfl (Ft fy 3 _ _ rfl _ rfl) (by simp[aw7]) (by omega) (by simp[maxLen];omega) (by omega) (lC.alloc _).size ?_;intro eL c5 kK yX yU;have lD:=(lC.alloc (.cells #[.int .i64 jx] 3)).grown yU bP.aS;have Np:=lD.cell;have Od:=lD.bl)
      |fail)
     all_goals
      go_wp2
      go_roundw
      case rel=>exact ⟨k+1,xs++[jx],nx,_,by go_num,cU.step bS bd,by rw[List.map_append];exact Own.keep ⟨yX,fun e=>by omega⟩ zq,lD.put 5 _⟩
      case measure=>simp[intOf];omega
   ·have nX:k=hA:=by have:=cU.le;omega
    subst nX
    go_upto_region 33 with fail
    refine vq a0 ?_ ?_ ?_ ?_
    ·rfl
    ·rfl
    ·exact (by decide:100<101)
    go_wp2
    refine vg a0 rfl rfl ?_;simp only[gx,eM,dn,dA,ea,cU.done,avv,avG,avF,if_true,if_false,or_false,true_or];exact ⟨_,⟨v,dX,dX,dX,rfl,bP.ad zi,gG.nil,gG.nil,gG.nil⟩,vp a0⟩
 ·refine ⟨rfl, ?_⟩;simp only[gx,eM,dn,dA,ea,avv,avG,avF,if_true,if_false,or_false,true_or];exact ⟨trivial,(iq.put 4 _).jV au⟩
 ·refine ⟨rfl, ?_⟩;simp only[gx,eM,dn,dA,avv,avG,avF,if_true,if_false,or_false,true_or];exact ⟨trivial,(hh.put 1 _).jV au⟩
 ·refine ⟨rfl, ?_⟩;simp only[gx,eM,dn,avv,avG,avF,if_true,if_false,or_false,true_or];exact ⟨trivial,aC.jV au⟩
set_option maxHeartbeats 4000000 in
set_option maxRecDepth 100000 in
theorem acO (bh b:Nat) (s:List UInt8) (w:World) (h:fi w bh b s) (g0:bh<w.heap.size) (ag:b<w.heap.size):
  Calls Tryz.prog 41 #[.pointer (au6 ⟨bh,0,au8⟩), .int .i64 5] w (gx w bh b 5 s):=by
 have aC:=fY.start (.int .i64 5) rfl h g0 ag
 go_enter Tryz.func41,Tryz.ntmps41
 go_upto_region 18 with (first
  |(go_at_call 68;refine (lP bh b _ _ aC.rd).mono ?_;rintro e di (⟨ml,s1,dn,rfl,au,aE⟩|⟨dn,rfl,au⟩);have hh:=aC.call au aE;have mI:=hh.cell;have lK:=hh.bl;simp only[hv] at mI)
  |(go_at_call 68;refine (lP bh b _ _ (hh.put 1 _).rd).mono ?_;rintro e gV (⟨jF,s2,dA,rfl,au,aE⟩|⟨dA,rfl,au⟩);have iq:=(hh.put 1 _).call au aE;have qe:=iq.cell;have E8:=iq.bl;simp only[hv,awy] at qe)
  |(go_at_call 40;refine (zY bh b _ _ (iq.put 4 _).rd).mono ?_;rintro e lT (⟨hA,jG,ea,rfl,au,aE⟩|⟨ea,rfl,au⟩);have hz:=(iq.put 4 _).call au aE;have pg:=hz.cell;have E9:=hz.bl;have EN:=hz.ua;have EP:=hz.uh;simp only[hv,awy] at pg))
 ·have NQ:hA<256:=by
   cases po:s2 with
   |nil=>rw[po] at ea;cases ea
   |cons x r=>rw[po] at ea;cases ea;exact x.toNat_lt
  go_loopw [56] (fun u wr=>∃(k:Nat) (xs:List Int) (r:List UInt8) (v:au9),u= .int .i64 k/\lr eo hA jG k xs r/\Own w wr 3 1 v k (xs.map hr)/\fY w bh b #[.int .i64 5, .int .i64 ml,cd,cd, .int .i64 jF,v,dX,jo,cd,dX,jo,dX] r wr) (fun u _=>hA - (intOf u).toNat)
  case atStart=>
   exact ⟨0,[],jG,dX,rfl,lr.start,⟨⟨rfl, .inl ⟨rfl,rfl⟩⟩,fun _=>rfl⟩,hz⟩
  case round=>
   obtain ⟨k,xs,r,v,rfl,cU,bP,a0⟩:=hrel;have gT:=a0.drew;have Nq:=gT.cell;have Oe:=gT.bl;by_cases bS:k<hA
   ·cases bd:eo r with
    |none=>
     have cf:Calls Tryz.prog 68 #[.pointer (au6 ⟨bh,0,au8⟩)] wr.drew (m5 bh wr.drew):=(lP bh b _ _ gT.rd).mono (by
      rintro e fy (⟨jx,nx,eH,_⟩|⟨eH,aN⟩)
      ·rw[bd] at eH;cases eH
      ·exact aN)
     have pf:∀fy,fF bh wr.drew fy->gx w bh b 5 s (.panicked r6) fy:=fun fy g8=>by simp only[gx,eM,dn,dA,ea,cU.fail bS bd,avv,avG,avF,if_true,if_false,false_or,or_true];exact ⟨trivial,gT.jV g8⟩
     go_upto_region 19 with fail
     refine wp_region_any (by kernel_rfl) ?_
     change wpAny _ _ _ _ _ _ _ (World.drew _)
     refine wpAny_take (i:=0) (v:=_) rfl (by kernel_rfl) (by kernel_rfl) (by kernel_rfl) (fun _ _ _ h=>h) (awA ⟨by rfl,by intro w;go_simp;rfl⟩) ?_;refine wpAny_take (i:=2) (v:=_) rfl (by kernel_rfl) (by kernel_rfl) (by kernel_rfl) (fun _ _ _ h=>h) (awA ⟨by rfl,by intro w;go_simp;rfl⟩) ?_;refine wpAny_ready (rs:=[1,3]) (by kernel_rfl) (by simp) (awm rfl (fun K fH=> ?_) (awm rfl (fun K fH=> ?_) awV))
     ·go_simp
      refine fH _ _ ?_;clear fH K;refine wpAny_ready (rs:=[3]) (by kernel_rfl) (by simp) (awm rfl (fun K fH=> ?_) awV)
      go_simp;go_at_call 68;refine cf.mono ?_;rintro e fy ⟨rfl,g8⟩
      exact ⟨rfl,pf _ g8⟩
     ·go_simp;go_at_call 68;refine cf.mono ?_;rintro e fy ⟨rfl,g8⟩
      exact ⟨rfl,pf _ g8⟩
    |some p=>
     obtain ⟨jx,nx⟩:=p;have cf:Calls Tryz.prog 68 #[.pointer (au6 ⟨bh,0,au8⟩)] wr.drew (pZ bh b (.int .i64 jx) nx wr.drew):=(lP bh b _ _ gT.rd).mono (by
      rintro e fy (⟨rE,vH,eH,aN⟩|⟨eH,_⟩)
      ·rw[bd] at eH;cases eH;exact aN
      ·rw[bd] at eH;cases eH)
     go_upto_region 19 with fail
     go_region_law (first
      |(go_simp;go_at_call 68;refine cf.mono ?_;rintro e fy ⟨rfl,g8,sO⟩;have lC:=gT.call g8 sO;have EM:=lC.cell;have Oc:=lC.bl;have jD:=fun o:Obj=>(lC.alloc o).cell)
      |(refine Gt rfl _ _ 22 rfl (w.heap.size+2) 3 (.int .i64 0) 1 8 VB Tryz.underlying22 rfl (by omega) v k (xs.map hr) (by rfl) ((bP.keep (fun c ai=>g8.heap c (by omega))).alloc _).1 ⟨fy.heap.size,0,au8⟩ 1 1 [.int .i64 jx] (by rfl) rfl (Ft fy 3 _ _ rfl _ rfl) (by simp[aw7]) (by omega) (by simp[maxLen];omega) (by omega) (lC.alloc _).size ?_;intro eL c5 kK yX yU;have lD:=(lC.alloc (.cells #[.int .i64 jx] 3)).grown yU bP.aS;have Np:=lD.cell;have Od:=lD.bl)
      |fail)
     all_goals
      go_wp2
      go_roundw
      case rel=>exact ⟨k+1,xs++[jx],nx,_,by go_num,cU.step bS bd,by rw[List.map_append];exact Own.keep ⟨yX,fun e=>by omega⟩ zq,lD.put 5 _⟩
      case measure=>simp[intOf];omega
   ·have nX:k=hA:=by have:=cU.le;omega
    subst nX
    go_upto_region 33 with fail
    refine vq a0 ?_ ?_ ?_ ?_
    ·rfl
    ·rfl
    ·exact (by decide:100<101)
    go_wp2
    refine vg a0 rfl rfl ?_;simp only[gx,eM,dn,dA,ea,cU.done,avv,avG,avF,if_true,if_false,false_or,or_true];exact ⟨_,⟨v,dX,dX,dX,rfl,bP.ad zi,gG.nil,gG.nil,gG.nil⟩,vp a0⟩
 ·refine ⟨rfl, ?_⟩;simp only[gx,eM,dn,dA,ea,avv,avG,avF,if_true,if_false,false_or,or_true];exact ⟨trivial,(iq.put 4 _).jV au⟩
 ·refine ⟨rfl, ?_⟩;simp only[gx,eM,dn,dA,avv,avG,avF,if_true,if_false,false_or,or_true];exact ⟨trivial,(hh.put 1 _).jV au⟩
 ·refine ⟨rfl, ?_⟩;simp only[gx,eM,dn,avv,avG,avF,if_true,if_false,false_or,or_true];exact ⟨trivial,aC.jV au⟩
end Go.W
end
section
namespace Go.W
open Go Go.Proofs Go.RowKit
set_option maxHeartbeats 4000000 in
set_option maxRecDepth 100000 in
theorem acM (bh b:Nat) (s:List UInt8) (w:World) (h:fi w bh b s) (g0:bh<w.heap.size) (ag:b<w.heap.size):
  Calls Tryz.prog 41 #[.pointer (au6 ⟨bh,0,au8⟩), .int .i64 2] w (gx w bh b 2 s):=by
 have aC:=fY.start (.int .i64 2) rfl h g0 ag
 go_enter Tryz.func41,Tryz.ntmps41
 go_upto_region 10 with (first
  |(go_at_call 69;refine (Gy bh b _ _ aC.rd).mono ?_;rintro e di (⟨ml,s1,dn,rfl,au,aE⟩|⟨dn,rfl,au⟩);have hh:=aC.call au aE;have mI:=hh.cell;have lK:=hh.bl;simp only[hv] at mI)
  |(go_at_call 68;refine (lP bh b _ _ (hh.put 7 _).rd).mono ?_;rintro e gV (⟨jF,s2,dA,rfl,au,aE⟩|⟨dA,rfl,au⟩);have iq:=(hh.put 7 _).call au aE;have qe:=iq.cell;have E8:=iq.bl;simp only[hv,awy] at qe)
  |(go_at_call 40;refine (zY bh b _ _ (iq.put 8 _).rd).mono ?_;rintro e lT (⟨hA,jG,ea,rfl,au,aE⟩|⟨ea,rfl,au⟩);have hz:=(iq.put 8 _).call au aE;have pg:=hz.cell;have E9:=hz.bl;have EN:=hz.ua;have EP:=hz.uh;simp only[hv,awy] at pg))
 ·have NQ:hA<256:=by
   cases po:s2 with
   |nil=>rw[po] at ea;cases ea
   |cons x r=>rw[po] at ea;cases ea;exact x.toNat_lt
  go_loopw [33] (fun u wr=>∃(k:Nat) (xs:List (List UInt8)) (r:List UInt8) (v:au9),u= .int .i64 k/\lr kG hA jG k xs r/\Own w wr 9 1 v k (xs.map ny)/\fY w bh b #[.int .i64 2,cd,cd,cd,cd,dX,dX,ny ml, .int .i64 jF,v,jo,dX] r wr) (fun u _=>hA - (intOf u).toNat)
  case atStart=>
   exact ⟨0,[],jG,dX,rfl,lr.start,⟨⟨rfl, .inl ⟨rfl,rfl⟩⟩,fun _=>rfl⟩,hz⟩
  case round=>
   obtain ⟨k,xs,r,v,rfl,cU,bP,a0⟩:=hrel;have gT:=a0.drew;have Nq:=gT.cell;have Oe:=gT.bl;by_cases bS:k<hA
   ·cases bd:kG r with
    |none=>
     have cf:Calls Tryz.prog 69 #[.pointer (au6 ⟨bh,0,au8⟩)] wr.drew (m5 bh wr.drew):=(Gy bh b _ _ gT.rd).mono (by
      rintro e fy (⟨jx,nx,eH,_⟩|⟨eH,aN⟩)
      ·rw[bd] at eH;cases eH
      ·exact aN)
     have pf:∀fy,fF bh wr.drew fy->gx w bh b 2 s (.panicked r6) fy:=fun fy g8=>by simp only[gx,eM,dn,dA,ea,cU.fail bS bd,avv,avG,avF,if_true,if_false];exact ⟨trivial,gT.jV g8⟩
     go_upto_region 11 with fail
     refine wp_region_any (by kernel_rfl) ?_
     change wpAny _ _ _ _ _ _ _ (World.drew _)
     refine wpAny_take (i:=0) (v:=_) rfl (by kernel_rfl) (by kernel_rfl) (by kernel_rfl) (fun _ _ _ h=>h) (awA ⟨by rfl,by intro w;go_simp;rfl⟩) ?_;refine wpAny_take (i:=1) (v:=_) rfl (by kernel_rfl) (by kernel_rfl) (by kernel_rfl) (fun _ _ _ h=>h) (awA ⟨by rfl,by intro w;go_simp;rfl⟩) ?_;refine wpAny_take (i:=3) (v:=_) rfl (by kernel_rfl) (by kernel_rfl) (by kernel_rfl) (fun _ _ _ h=>h) (awA ⟨by rfl,by intro w;go_simp;rfl⟩) ?_;refine wpAny_ready (rs:=[2,4]) (by kernel_rfl) (by simp) (awm rfl (fun K fH=> ?_) (awm rfl (fun K fH=> ?_) awV))
     ·go_simp
      refine fH _ _ ?_;clear fH K;refine wpAny_ready (rs:=[4]) (by kernel_rfl) (by simp) (awm rfl (fun K fH=> ?_) awV)
      go_simp;go_at_call 69;refine cf.mono ?_;rintro e fy ⟨rfl,g8⟩
      exact ⟨rfl,pf _ g8⟩
     ·go_simp;go_at_call 69;refine cf.mono ?_;rintro e fy ⟨rfl,g8⟩
      exact ⟨rfl,pf _ g8⟩
    |some p=>
     obtain ⟨jx,nx⟩:=p;have cf:Calls Tryz.prog 69 #[.pointer (au6 ⟨bh,0,au8⟩)] wr.drew (pZ bh b (.string ⟨jx.toArray⟩) nx wr.drew):=(Gy bh b _ _ gT.rd).mono (by
      rintro e fy (⟨rE,vH,eH,aN⟩|⟨eH,_⟩)
      ·rw[bd] at eH;cases eH;exact aN
      ·rw[bd] at eH;cases eH)
     go_upto_region 11 with fail
     go_region_law (first
      |(go_simp;go_at_call 69;refine cf.mono ?_;rintro e fy ⟨rfl,g8,sO⟩;have lC:=gT.call g8 sO;have EM:=lC.cell;have Oc:=lC.bl;have jD:=fun o:Obj=>(lC.alloc o).cell)
      |(refine Gt rfl _ _ 24 rfl (w.heap.size+2) 9 (.string ⟨#[]⟩) 1 16 afp Tryz.underlying24 rfl (by omega) v k (xs.map ny) (by rfl) ((bP.keep (fun c ai=>g8.heap c (by omega))).alloc _).1 ⟨fy.heap.size,0,au8⟩ 1 1 [.string ⟨jx.toArray⟩] (by rfl) rfl (Ft fy 9 _ _ rfl _ rfl) (by simp[aw7]) (by omega) (by simp[maxLen];omega) (by omega) (lC.alloc _).size ?_;intro eL c5 kK yX yU;have lD:=(lC.alloc (.cells #[.string ⟨jx.toArray⟩] 9)).grown yU bP.aS;have Np:=lD.cell;have Od:=lD.bl)
      |fail)
     all_goals
      go_wp2
      go_roundw
      case rel=>exact ⟨k+1,xs++[jx],nx,_,by go_num,cU.step bS bd,by rw[List.map_append];exact Own.keep ⟨yX,fun e=>by omega⟩ zq,lD.put 9 _⟩
      case measure=>simp[intOf];omega
   ·have nX:k=hA:=by have:=cU.le;omega
    subst nX
    go_upto_region 33 with fail
    refine vq a0 ?_ ?_ ?_ ?_
    ·rfl
    ·rfl
    ·exact (by decide:100<101)
    go_wp2
    refine vg a0 rfl rfl ?_;simp only[gx,eM,dn,dA,ea,cU.done,avv,avG,avF,if_true,if_false];exact ⟨_,⟨dX,dX,v,dX,rfl,gG.nil,gG.nil,bP.ad zi,gG.nil⟩,vp a0⟩
 ·refine ⟨rfl, ?_⟩;simp only[gx,eM,dn,dA,ea,avv,avG,avF,if_true,if_false];exact ⟨trivial,(iq.put 8 _).jV au⟩
 ·refine ⟨rfl, ?_⟩;simp only[gx,eM,dn,dA,avv,avG,avF,if_true,if_false];exact ⟨trivial,(hh.put 7 _).jV au⟩
 ·refine ⟨rfl, ?_⟩;simp only[gx,eM,dn,avv,avG,avF,if_true,if_false];exact ⟨trivial,aC.jV au⟩
end Go.W
end
section
namespace Go.W
open Go Go.Proofs Go.RowKit
def r5 (s:er):List au9:=[hr s.place,hr s.bC]
set_option maxHeartbeats 4000000 in
set_option maxRecDepth 100000 in
theorem oy (bh b:Nat) (s:List UInt8) (w:World) (h:fi w bh b s) (g0:bh<w.heap.size) (ag:b<w.heap.size):
  Calls Tryz.prog 41 #[.pointer (au6 ⟨bh,0,au8⟩), .int .i64 4] w (gx w bh b 4 s):=by
 have aC:=fY.start (.int .i64 4) rfl h g0 ag
 go_enter Tryz.func41,Tryz.ntmps41
 go_upto_region 23 with (go_at_call 40;refine (zY bh b _ _ aC.rd).mono ?_;rintro e lT (⟨hA,jG,ea,rfl,au,aE⟩|⟨ea,rfl,au⟩);have hz:=aC.call au aE;have pg:=hz.cell;have E9:=hz.bl;have EN:=hz.ua;have EP:=hz.uh;simp only[hv] at pg)
 ·have NQ:hA<256:=by
   cases po:s with
   |nil=>rw[po] at ea;cases ea
   |cons x r=>rw[po] at ea;cases ea;exact x.toNat_lt
  go_loopw [70] (fun u wr=>∃(k:Nat) (xs:List er) (r:List UInt8) (v:au9),u= .int .i64 k/\lr lj hA jG k xs r/\Own w wr 48 2 v k (xs.flatMap r5)/\fY w bh b #[.int .i64 4,cd,cd,cd,cd,dX,v,jo,cd,dX,jo,dX] r wr) (fun u _=>hA - (intOf u).toNat)
  case atStart=>
   exact ⟨0,[],jG,dX,rfl,lr.start,⟨⟨rfl, .inl ⟨rfl,rfl⟩⟩,fun _=>rfl⟩,hz⟩
  case round=>
   obtain ⟨k,xs,r,v,rfl,cU,bP,a0⟩:=hrel;by_cases bS:k<hA
   ·go_upto_region 25 with (go_at_call 68;refine (lP bh b _ _ a0.rd).mono ?_;rintro e fy (⟨jx,nx,eH,rfl,g8,sO⟩|⟨eH,rfl,g8⟩))
    ·have gT:=(a0.call g8 sO).drew;have Nq:=gT.cell;have Oe:=gT.bl;have yI:Own w fy.drew 48 2 v k (xs.flatMap r5):=bP.keep (fun c ai=>g8.heap c (by omega));cases bd:eo nx with
     |none=>
      have cf:Calls Tryz.prog 68 #[.pointer (au6 ⟨bh,0,au8⟩)] fy.drew (m5 bh fy.drew):=(lP bh b _ _ gT.rd).mono (by
       rintro e fy (⟨jx,nx,eH,_⟩|⟨eH,aN⟩)
       ·rw[bd] at eH;cases eH
       ·exact aN)
      have bb:lj r=au8:=by simp only[lj,eH,bd,avv,avG]
      have pf:∀kK,fF bh fy.drew kK->gx w bh b 4 s (.panicked r6) kK:=fun kK na=>by simp only[gx,eM,ea,cU.fail bS bb,avv,avG,avF,if_true,if_false,or_self];exact ⟨trivial,gT.jV na⟩
      refine wp_region_any (by kernel_rfl) ?_
      change wpAny _ _ _ _ _ _ _ (World.drew _)
      refine wpAny_take (i:=0) (v:=_) rfl (by kernel_rfl) (by kernel_rfl) (by kernel_rfl) (fun _ _ _ h=>h) (awA ⟨by rfl,by intro w;go_simp;rfl⟩) ?_;refine wpAny_take (i:=2) (v:=_) rfl (by kernel_rfl) (by kernel_rfl) (by kernel_rfl) (fun _ _ _ h=>h) (awA ⟨by rfl,by intro w;go_simp;rfl⟩) ?_;refine wpAny_take (i:=3) (v:=_) rfl (by kernel_rfl) (by kernel_rfl) (by kernel_rfl) (fun _ _ _ h=>h) (awA ⟨by rfl,by intro w;go_simp;rfl⟩) ?_;refine wpAny_ready (rs:=[1,4]) (by kernel_rfl) (by simp) (awm rfl (fun K fH=> ?_) (awm rfl (fun K fH=> ?_) awV))
      ·go_simp
       refine fH _ _ ?_;clear fH K;refine wpAny_ready (rs:=[4]) (by kernel_rfl) (by simp) (awm rfl (fun K fH=> ?_) awV)
       go_simp;go_at_call 68;refine cf.mono ?_;rintro e kK ⟨rfl,na⟩
       exact ⟨rfl,pf _ na⟩
      ·go_simp;go_at_call 68;refine cf.mono ?_;rintro e kK ⟨rfl,na⟩
       exact ⟨rfl,pf _ na⟩
     |some p=>
      obtain ⟨rE,vH⟩:=p;have cf:Calls Tryz.prog 68 #[.pointer (au6 ⟨bh,0,au8⟩)] fy.drew (pZ bh b (.int .i64 rE) vH fy.drew):=(lP bh b _ _ gT.rd).mono (by
       rintro e fy (⟨rE,vH,eH,aN⟩|⟨eH,_⟩)
       ·rw[bd] at eH;cases eH;exact aN
       ·rw[bd] at eH;cases eH)
      have bb:lj r=au6 (er.mk jx rE,vH):=by simp only[lj,eH,bd,avv]
      go_region_law (first
       |(go_simp;go_at_call 68;refine cf.mono ?_;rintro e kK ⟨rfl,na,aeU⟩;have lD:=gT.call na aeU;have Np:=lD.cell;have Od:=lD.bl;have jD:=fun o:Obj=>(lD.alloc o).cell)
       |(refine Gt rfl _ _ 23 rfl (w.heap.size+2) 48 (.agg #[.int .i64 0, .int .i64 0]) 2 16 af1 Tryz.underlying23 rfl (by omega) v k (xs.flatMap r5) (by rfl) ((yI.keep (fun c ai=>na.heap c (by omega))).alloc _).1 ⟨kK.heap.size,0,au8⟩ 1 1 [.int .i64 jx, .int .i64 rE] (by rfl) rfl (Ft kK 48 _ _ rfl _ rfl) (by simp[aw7]) (by omega) (by simp[maxLen];omega) (by omega) (lD.alloc _).size ?_;intro gX c6 pP aex adW;have Ng:=(lD.alloc (.cells #[.int .i64 jx, .int .i64 rE] 48)).grown adW bP.aS;have atF:=Ng.cell;have aul:=Ng.bl)
       |fail)
      all_goals
       go_wp2
       go_roundw
       case rel=>exact ⟨k+1,xs++[er.mk jx rE],vH,_,by go_num,cU.step bS bb,by rw[List.flatMap_append];exact Own.keep ⟨aex,fun e=>by omega⟩ zq,Ng.put 6 _⟩
       case measure=>simp[intOf];omega
    ·refine ⟨rfl, ?_⟩;have bb:lj r=au8:=by simp only[lj,eH,avG]
     simp only[gx,eM,ea,cU.fail bS bb,avv,avG,avF,if_true,if_false,or_self];exact ⟨trivial,a0.jV g8⟩
   ·have nX:k=hA:=by have:=cU.le;omega
    subst nX
    go_upto_region 33 with fail
    refine vq a0 ?_ ?_ ?_ ?_
    ·rfl
    ·rfl
    ·exact (by decide:100<101)
    go_wp2
    refine vg a0 rfl rfl ?_;simp only[gx,eM,ea,cU.done,avv,avG,avF,if_true,if_false,or_self];exact ⟨_,⟨dX,v,dX,dX,rfl,gG.nil,bP.ad zi,gG.nil,gG.nil⟩,vp a0⟩
 ·refine ⟨rfl, ?_⟩;simp only[gx,eM,ea,avv,avG,avF,if_true,if_false,or_self];exact ⟨trivial,aC.jV au⟩
end Go.W
end
section
namespace Go.W
open Go Go.Proofs Go.RowKit
def mv:Array au9:=hv cd cd cd cd cd dX dX jo cd dX jo dX
theorem agw:mv.all (·.oneCell')=au7:=by simp[mv,hv,aw7,dX,jo,cd]
structure j8 (g:Nat) (cs:Array au9) (x:au9) (w:World):Prop where
 a8:w.rangeAt g 0 cs.toList
 a7:cs.size=12
 bl:∀k,w.frozen? ⟨g,k,au8⟩=ava
 yy:w.cell? ⟨g+1,0,au8⟩=au6 x
 Es:w.frozen? ⟨g+1,0,au8⟩=ava
theorem j8.there {g:Nat} {cs:Array au9} {x:au9} {w:World} (h:j8 g cs x w):w.there g 0 12:=fun j aZ=>⟨by rw[h.a8 j (cs[j]'(by rw[h.a7];exact aZ)) (by rw[aw8,axV])];rfl,by rw[avD];exact h.bl j⟩
theorem j8.put {g:Nat} {cs ds:Array au9} {x:au9} {w:World} (h:j8 g cs x w) (aO:ds.size=12):j8 g ds x (w.setCells g 0 ds.toList):=by
 have ag:(w.setCells g 0 ds.toList).heap[g+1]? =w.heap[g+1]? :=(fF.cells ds.toList 0 w (fF.refl g w)).heap (g+1) (Nat.succ_ne_self g);refine ⟨axY w g 0 _ (by rw[aw3,aO];exact h.there),aO,fun k=>by rw[World.frozen?_setCells];exact h.bl k, ?_, ?_⟩
 ·exact (aw6 (a:=⟨g+1,0,au8⟩) ag).trans h.yy
 ·rw[World.frozen?_setCells];exact h.Es
theorem j8.err {g:Nat} {cs:Array au9} {x y:au9} {w:World} (h:j8 g cs x w):j8 g cs y (w.setCell ⟨g+1,0,au8⟩ y):=by
 have ag:(w.setCell ⟨g+1,0,au8⟩ y).heap[g]? =w.heap[g]? :=Below.heap_setCell w _ _ g (by simp);refine ⟨fun j v ab=>(aw6 (a:=⟨g,0+j,au8⟩) ag).trans (h.a8 j v ab),h.a7,fun k=>by rw[World.frozen?_setCell];exact h.bl k,World.cell?_setCell_same w _ _ h.yy,by rw[World.frozen?_setCell];exact h.Es⟩
theorem j8.keep {g:Nat} {cs:Array au9} {x:au9} {w w':World} (h:j8 g cs x w) (U:w'.heap[g]? =w.heap[g]?) (aa:w'.heap[g+1]? =w.heap[g+1]?):j8 g cs x w':=
 ⟨fun j v ab=>(aw6 (a:=⟨g,0+j,au8⟩) U).trans (h.a8 j v ab),h.a7,fun k=>(World.frozen?_of_block (a:=⟨g,k,au8⟩) U).trans (h.bl k),(aw6 (a:=⟨g+1,0,au8⟩) aa).trans h.yy,(World.frozen?_of_block (a:=⟨g+1,0,au8⟩) aa).trans h.Es⟩
theorem acd (e:Operand->au9) (d:Option Tmp) (ty:ave) (pos:String) (ab7:Array Edge) (w:World):(execOp e {dst:=d,op:= .build 29 #[],type:=ty,pos:=pos,after:=ab7,guard:=au8}).run Tryz.prog w= .ok (.value (.agg mv)) w:=by
 kernel_rfl
set_option maxHeartbeats 4000000 in
set_option maxRecDepth 100000 in
theorem Uy {q:Nat} {ops:Array Oper} {t3:ave} {pB:String} {f3:Array Edge} {n:Int} {g:Nat} {cs:Array au9} {x:au9} {a:Act} {w:World} {Q:Exit->Act->World->Prop} (h:j8 g cs x w) (e2:a.eval (.tmp q)= .pointer (au6 ⟨g+1,0,au8⟩))
  (hp:Q .normal a (w.setCell ⟨g+1,0,au8⟩ (.int .i64 n))):wpList Tryz.prog ops Q [{dst:=au8,op:= .store 40 (.tmp q) (.const (.int .i64 n)),type:=t3,pos:=pB,after:=f3,guard:=au8}] a w:=by
 have E7:=h.yy;have y8:=h.Es;refine wpList_plain rfl fun K fH=> ?_;have adh:=fH _ _ hp;clear fH;have wm:a.tmps[q]?.getD undef= .pointer (au6 ⟨g+1,0,au8⟩):=by simpa[awr] using e2
 go_simp
 exact adh
set_option maxHeartbeats 4000000 in
set_option maxRecDepth 100000 in
theorem Kd {id d p q:Nat} {t1 t2 t3:ave} {iI iV pB:String} {f1 f2 f3:Array Edge} {n:Int} {g:Nat} {cs:Array au9} {x:au9} {a:Act} {w:World} {Q:Exit->Act->World->Prop} (h:j8 g cs x w) (aM:a.eval (.tmp p)= .pointer (au6 ⟨g,0,au8⟩)) (bd:a.eval (.tmp q)= .pointer (au6 ⟨g+1,0,au8⟩)) (aO:d<a.tmps.size) (U:p≠d) (aa:q≠d)
  (hp:Q .normal (a.put (au6 d) (.agg mv)) ((w.setCells g 0 mv.toList).setCell ⟨g+1,0,au8⟩ (.int .i64 n))):Code.wp Tryz.prog (.region id #[{dst:=au6 d,op:= .build 29 #[],type:=t1,pos:=iI,after:=f1,guard:=au8},{dst:=au8,op:= .store 29 (.tmp p) (.tmp d),type:=t2,pos:=iV,after:=f2,guard:=au8},{dst:=au8,op:= .store 40 (.tmp q) (.const (.int .i64 n)),type:=t3,pos:=pB,after:=f3,guard:=au8}] ava) Q a w:=by
 refine wp_region_list (wpList_plain rfl fun K fH=> ?_);unfold Oper.wp;rw[acd];refine fH _ _ ?_;clear fH K;have bu:(a.put (au6 d) (.agg mv)).eval (.tmp p)= .pointer (au6 ⟨g,0,au8⟩):=by rw[<-aM];simp[awr,Act.put,axZ,Ne.symm U]
 have e2:(a.put (au6 d) (.agg mv)).eval (.tmp q)= .pointer (au6 ⟨g+1,0,au8⟩):=by rw[<-bd];simp[awr,Act.put,axZ,Ne.symm aa]
 refine wpList_store_mid rfl 29 (.tmp p) (.tmp d) rfl g 0 mv bu ?_ h.there (by kernel_rfl) agw ?_
 ·simp[awr,Act.put,aO]
 ·exact Uy (h.put rfl) e2 hp
def aaC:List PanicEntry:=[{v:= .iface 191 (.agg #[]),recovered:=au7}]
def Kv (w:World) (g:Nat) (n:Int):World:=(w.setCells g 0 mv.toList).setCell ⟨g+1,0,au8⟩ (.int .i64 n)
set_option maxHeartbeats 4000000 in
set_option maxRecDepth 100000 in
theorem aiA (g:Nat) (cs:Array au9) (x:au9) (w:World) (h:j8 g cs x w):
  CallsD Tryz.prog 39 #[.pointer (au6 ⟨g,0,au8⟩), .pointer (au6 ⟨g+1,0,au8⟩)] (.panicking r6) w fun e n9 w'=>
   e= .returned (.tuple #[])/\n9= .panicking aaC/\w'=Kv w g 10:=by
 refine callsD_of_wpS Tryz.func39 rfl fun Un cs' hu=> ?_;apply wpS_seq;apply wpS_region;simp[wpOpsS,go_sem,recoverD,hu,Tryz.ntmps39,Exit.thenS,r6];refine wpS_cond (t:=au7) (by simp[awr,av1]) ?_;simp only[if_true];apply wpS_of_wp;refine Kd h (by simp[awr]) (by simp[awr]) (by simp) (by omega) (by omega) ?_;simp_all [bodyPostS,results,Tryz.results39,aaC,Act.put,Kv]
theorem aj7 (g:Nat) (w:World):
  CallsD Tryz.prog 39 #[.pointer (au6 ⟨g,0,au8⟩), .pointer (au6 ⟨g+1,0,au8⟩)] .returning w fun e n9 w'=>e= .returned (.tuple #[])/\n9= .returning/\w'=w:=by
 refine callsD_of_wpS Tryz.func39 rfl fun Un cs hu=> ?_;apply wpS_seq;apply wpS_region;simp[wpOpsS,go_sem,recoverD,hu,Tryz.ntmps39,Exit.thenS];refine wpS_cond (t:=ava) (by simp[awr,av1]) ?_;simp only[Bool.false_eq_true,if_false];refine wpS_of_wp (wp_skip ?_);cases Un;simp_all [bodyPostS,results,Tryz.results39]
theorem YU {g:Nat} {cs:Array au9} {n:Int} {w:World} {Ra:Array au9} (h:j8 g cs (.int .i64 n) w) (aa:Ra.getD 2 undef= .pointer (au6 ⟨g,0,au8⟩)) (ap:Ra.getD 3 undef= .pointer (au6 ⟨g+1,0,au8⟩)):
  (results Tryz.f17 Ra).run Tryz.prog w= .ok (.tuple #[.agg cs, .int .i64 n]) w:=by
 have az:=run_loadVar_mid (P:=Tryz.prog) w g 0 29 cs.toList _ h.a8 Tryz.underlying29 rfl (by
  have aj:(Tryz.prog.info? 29).map (·.size)=au6 12:=by kernel_rfl
  rw[aj,aw3,h.a7])
 have aE:=h.yy;rw[axe] at aa ap;simp[results,Tryz.results17,aa,ap,asAddr,avH,avM,az,axm];simp[go_sem,aE]
end Go.W
end
section
namespace Go.W
open Go Go.Proofs Go.RowKit
def x9 (w:World) (s:List UInt8) (e:Ending) (w':World):Prop:=∃cs,e= .returned (.tuple #[.agg cs, .int .i64 (gS s).2])/\tP w w' (gS s).1 cs/\av.Grown w w'
theorem aqu (bh b k:Nat) (s:List UInt8) (w:World) (h:fi w bh b s) (g0:bh<w.heap.size) (ag:b<w.heap.size) (au:1<=k/\k<=7):
  Calls Tryz.prog 41 #[.pointer (au6 ⟨bh,0,au8⟩), .int .i64 k] w (gx w bh b k s):=by
 obtain ⟨U,aa⟩:=au
 match k,U,aa with
 |1,_,_=>exact acL bh b s w h g0 ag
 |2,_,_=>exact acM bh b s w h g0 ag
 |3,_,_=>exact acN bh b s w h g0 ag
 |4,_,_=>exact oy bh b s w h g0 ag
 |5,_,_=>exact acO bh b s w h g0 ag
 |6,_,_=>exact acP bh b s w h g0 ag
 |7,_,_=>exact acQ bh b s w h g0 ag
def Uo (g:Nat):List Deferred:=[{target:= .fn (.func 39) #[.pointer (au6 ⟨g,0,au8⟩), .pointer (au6 ⟨g+1,0,au8⟩)],args:=#[]}]
theorem Gj {g:Nat} {cs:Array au9} {n:Int} {w:World} {a:Act} {R:Ending->World->Prop} (h:j8 g cs (.int .i64 n) w) (aa:a.tmps.getD 2 undef= .pointer (au6 ⟨g,0,au8⟩)) (ap:a.tmps.getD 3 undef= .pointer (au6 ⟨g+1,0,au8⟩)) (aO:a.defers=Uo g)
  (cl:R (.returned (.tuple #[.agg cs, .int .i64 n])) w):bodyPostD Tryz.prog Tryz.f17 R .ret a w:=by
 show Leaves _ _ _ _ _ _ _;rw[aO];refine leaves_cons (f:=39) (args:=#[.pointer (au6 ⟨g,0,au8⟩), .pointer (au6 ⟨g+1,0,au8⟩)]) (by simp) (by simp[go_sem]) ?_;refine (aj7 g w).mono ?_;rintro e n9 w' ⟨rfl,rfl,rfl⟩;exact ⟨_,YU h aa ap,cl⟩
theorem PN {g:Nat} {cs:Array au9} {x:au9} {w:World} {a:Act} {R:Ending->World->Prop} (h:j8 g cs x w) (aa:a.tmps.getD 2 undef= .pointer (au6 ⟨g,0,au8⟩)) (ap:a.tmps.getD 3 undef= .pointer (au6 ⟨g+1,0,au8⟩)) (aO:a.defers=Uo g)
  (cl:R (.returned (.tuple #[.agg mv, .int .i64 10])) (Kv w g 10)):bodyPostD Tryz.prog Tryz.f17 R (.panic r6) a w:=by
 show Leaves _ _ _ _ _ _ _;rw[aO];refine leaves_cons (f:=39) (args:=#[.pointer (au6 ⟨g,0,au8⟩), .pointer (au6 ⟨g+1,0,au8⟩)]) (by simp) (by simp[go_sem]) ?_;refine (aiA g cs x w h).mono ?_;rintro e n9 w' ⟨rfl,rfl,rfl⟩;exact ⟨_,YU (h.put (ds:=mv) rfl).err aa ap,cl⟩
theorem j8.Ol {g:Nat} {cs:Array au9} {x:au9} {w w':World} (h:j8 g cs x w) (k:fF (g+2) w w'):j8 g cs x w':=h.keep (k.heap _ (by omega)) (k.heap _ (by omega))
theorem Nb {w di gV:World} (G:av.Grown w di) (k:fF (w.heap.size+2) di gV):av.Grown w gV:=⟨k.os.trans G.os,k.tape.trans G.tape,k.output.trans G.output,by rw[k.size];exact G.size,fun c ai=>(k.heap c (by omega)).trans (G.heap c ai)⟩
theorem UJ {w di gV:World} (G:av.Grown w di) (k:DT (w.heap.size+2) di gV):av.Grown w gV:=⟨k.os.trans G.os,k.tape.trans G.tape,k.output.trans G.output,avz G.size k.size,fun c ai=>(k.heap c (avx ai G.size) (by omega)).trans (G.heap c ai)⟩
theorem Zo {w di:World} {g k:Nat} {v:au9} (G:av.Grown w di) (a5:w.heap.size<=g):av.Grown w (di.setCell ⟨g,k,au8⟩ v):=⟨G.os,G.tape,G.output,by simpa[awY] using G.size,fun c ai=>(Below.heap_setCell di _ v c (by simp;omega)).trans (G.heap c ai)⟩
theorem P1 {w di:World} {g k:Nat} {vs:List au9} (G:av.Grown w di) (a5:w.heap.size<=g):av.Grown w (di.setCells g k vs):=by
 have k:=fF.cells vs k di (fF.refl g di);exact ⟨k.os.trans G.os,k.tape.trans G.tape,k.output.trans G.output,by rw[k.size];exact G.size,fun c ai=>(k.heap c (by omega)).trans (G.heap c ai)⟩
theorem xb {w aaE:World} {s:List UInt8} {n:Int} (aO:gS s=(kQ 0,n)) (G:av.Grown w aaE):x9 w s (.returned (.tuple #[.agg mv, .int .i64 n])) (Kv aaE w.heap.size n):=
 ⟨mv,by rw[aO],by rw[aO];exact ⟨dX,dX,dX,dX,rfl,gG.nil,gG.nil,gG.nil,gG.nil⟩,Zo (P1 G (avm _)) (avJ _)⟩
theorem gG.up {w kK pP C1:World} {t:ave} {a7:Nat} {v:au9} {xs:List au9} (h:gG kK pP t a7 v xs) (aC:w.heap.size<=kK.heap.size) (au:∀c,kK.heap.size<=c->C1.heap[c]? =pP.heap[c]?):gG w C1 t a7 v xs:=by
 rcases h with h|⟨g,c,l,cs,U,aa,ap,aN,bK,ed,hg,jP⟩
 ·exact .inl h
 ·exact .inr ⟨g,c,l,cs,U,aa,ap,aN,bK,by omega,(au g ed).trans hg,jP⟩
theorem tP.up {w kK pP C1:World} {e:bj} {cs:Array au9} (h:tP kK pP e cs) (aC:w.heap.size<=kK.heap.size) (au:∀c,kK.heap.size<=c->C1.heap[c]? =pP.heap[c]?):tP w C1 e cs:=by
 obtain ⟨a,b,c,d,bf,U,aa,ap,aN⟩:=h;exact ⟨a,b,c,d,bf,U.up aC au,aa.up aC au,ap.up aC au,aN.up aC au⟩
set_option maxHeartbeats 4000000 in
set_option maxRecDepth 100000 in
theorem fY.Ok {bR w w':World} {bh b:Nat} {cs:Array au9} {s:List UInt8} (h:fY bR bh b cs s w) (k:fF bR.heap.size w w'):DT bh bR w':=⟨k.os.trans h.os,k.tape.trans h.tape,k.output.trans h.output,by have:=h.size;rw[k.size];omega,fun c ai a1=>(k.heap c (by omega)).trans (h.heap c ai a1)⟩
theorem XW (n:Nat) (t:Bool) (aw:t=au7↔(1<=n/\n<=7)) (w:World):Calls Tryz.prog 33 #[.int .i64 n] w fun e w'=>e= .returned (.bool t)/\w'=w:=by
 have hg:(n:Int)<=7↔n<=7:=by omega
 go_enter Tryz.func33,Tryz.ntmps33
 go_wp2
 ·go_ret
  refine ⟨?_,rfl⟩;show axU (.bool (decide (n<=7)))=_;have:decide (n<=7)=t:=by cases t<;>simp at aw⊢<;>omega
  rw[this]
 ·go_ret
  refine ⟨?_,rfl⟩;show axU (.bool ava)=_;have:ava=t:=by cases t<;>simp at aw⊢<;>omega
  rw[this]
def lz (w:World) (v:au9):World:=((w.alloc (.cells mv 29)).alloc (.cells #[cd] 40)).alloc (.cells #[v] 111)
theorem Zn (w:World) (v:au9):av.Grown w (lz w v)/\(lz w v).heap.size=w.heap.size+3/\j8 w.heap.size mv cd (lz w v)/\(lz w v).heap[w.heap.size+2]? =au6 (.cells #[v] 111 (0,0)):=by
 have kp:av.Grown w (lz w v):=by refine ⟨rfl,rfl,rfl,by simp only[lz,ib,awL];omega,fun c ai=> ?_⟩;rw[lz,ib,ib,ib,mF (by simp only[awL];omega),mF (by simp only[awL];omega),mF ai]
 have a1:(lz w v).heap.size=w.heap.size+3:=by simp only[lz,ib,awL]
 have bf:(lz w v).heap[w.heap.size]? =au6 (.cells mv 29 (0,0)):=by rw[lz,ib,ib,ib,mF (by simp only[awL];omega),mF (by simp only[awL];omega),awH,if_pos rfl]
 have U:(lz w v).heap[w.heap.size+1]? =au6 (.cells #[cd] 40 (0,0)):=by rw[lz,ib,ib,ib,mF (by simp only[awL];omega),awH,if_pos (by simp only[awL])]
 have aa:(lz w v).heap[w.heap.size+2]? =au6 (.cells #[v] 111 (0,0)):=by rw[lz,ib,ib,ib,awH,if_pos (by simp only[awL])]
 exact ⟨kp,a1,⟨fun j v ab=>by unfold av7;rw[bf];simpa using ab,rfl,fun k=>by unfold awZ;rw[bf];simp,by unfold av7;rw[U];rfl,by unfold awZ;rw[U];simp⟩,aa⟩
set_option maxHeartbeats 4000000 in
set_option maxRecDepth 100000 in
theorem PS (b o c:Nat) (s:List UInt8) (w:World) (aC:s.length<=c) (kb:lp w b o s) (ag:b<w.heap.size):Calls Tryz.prog 17 #[.slice (au6 ⟨b,o,au8⟩) s.length c] w (x9 w s):=by
 have ael:∀(fn:Fn) (first cap:Array au9) (w:World),(Instr.makeFunc fn first cap).run Tryz.prog w= .ok (.func fn first cap) w:=fun _ _ _ _=>rfl
 go_enter_defers Tryz.func17,Tryz.ntmps17
 obtain ⟨kp,a1,wz,aa⟩:=Zn w (.slice (au6 ⟨b,o,au8⟩) s.length c);have cl:fi (lz w (.slice (au6 ⟨b,o,au8⟩) s.length c)) (w.heap.size+2) b s:=⟨o,c,by unfold av7;rw[aa];rfl,aC,fun i x aj=>(aw6 (a:=⟨b,o+i,au8⟩) (kp.heap b ag)).trans (kb i x aj),by unfold awZ;rw[aa];simp,by omega⟩
 go_upto_region 4 with (go_at_call 40;refine (zY _ b s _ cl).mono ?_;rintro e gV (⟨n,s2,q,rfl,au,aE⟩|⟨q,rfl,au⟩))
 ·have EJ:=wz.Ol au;have yF:=Nb kp au;have at4:gV.heap.size=w.heap.size+3:=au.size.trans a1;by_cases a1:1<=n/\n<=7
  ·go_upto_region 6 with (go_at_call 33;refine (XW n au7 (by simp[a1]) _).mono ?_;rintro e lT ⟨rfl,rfl⟩)
   have a0:=aqu (w.heap.size+2) b n s2 _ aE (by omega) (by omega) a1;unfold gx at a0;cases aO:eM n s2 with
   |none=>
    simp only[aO] at a0
    go_upto_region 7 with (go_at_call 41;refine a0.mono ?_;rintro e fy ⟨rfl,g8⟩)
    refine PN (EJ.keep (g8.heap _ (by omega) (by omega)) (g8.heap _ (by omega) (by omega))) rfl rfl rfl (xb ?_ (UJ yF g8));simp only[gS,q,if_pos a1,aO]
   |some p=>
    obtain ⟨v,r⟩:=p;simp only[aO] at a0;have aj:(Tryz.prog.info? 29).map (·.size)=au6 12:=by kernel_rfl
    go_upto_region 7 with (first
     |(go_at_call 41;refine a0.mono ?_;rintro e fy ⟨cs,wE,rfl,kK,wx,na⟩;have b9:=wx.a7;have Vo:cs.all (·.oneCell')=au7:=axX.2 wx.one;have ND:=UJ yF (wx.Ok na);have UR:=EJ.keep ((wx.Ok na).heap _ (by omega) (by omega)) ((wx.Ok na).heap _ (by omega) (by omega)))
     |(refine wpList_store_mid rfl 29 (.tmp 2) (.tmp 18) rfl w.heap.size 0 cs rfl rfl (by rw[b9];exact UR.there) (by rw[aj,b9]) Vo ?_))
    have re:=UR.put b9;have Nh:av.Grown w (fy.setCells w.heap.size 0 cs.toList):=P1 ND (avm _);have ET:=fF.cells cs.toList 0 fy (fF.refl w.heap.size fy);have adp:fi (fy.setCells w.heap.size 0 cs.toList) (w.heap.size+2) b r:=(wx.rd.other (na.heap _ (by omega)) (na.heap _ (by omega))).other (ET.heap _ (by omega)) (ET.heap _ (by omega));have adT:tP w (fy.setCells w.heap.size 0 cs.toList) v cs:=wE.up yF.size (fun c ai=>ET.heap c (by omega));generalize fy.setCells w.heap.size 0 cs.toList=pP at*;obtain ⟨afH,c6,QT,lh,lQ,are,arf⟩:=adp;have auN:pP.cell? ⟨w.heap.size+1+1,0,au8⟩=au6 (.slice (au6 ⟨b,afH,au8⟩) r.length c6):=QT;by_cases az:0<r.length
    ·have gv:(0:Int)<(r.length:Int):=by omega
     go_upto_region 8 with fail
     refine Kd re rfl rfl (by exact (by decide:25<32)) (by decide) (by decide) ?_
     go_wp2
     refine Gj (re.put rfl).err rfl rfl rfl (xb ?_ Nh);simp only[gS,q,if_pos a1,aO,if_pos az]
    ·have gv:r.length=0:=by omega
     obtain ⟨ts,oT,ds,nQ,ie,bu,e2,uc,wm⟩:=id adT;have adM:∃(p:Option Addr) (c:Nat),nQ= .slice p v.data.length c:=by
      rcases wm with ⟨U,aa⟩|⟨g,c,l,_,U,aa,_⟩
      ·exact ⟨au8,0,by rw[aa,List.map_eq_nil_iff.1 U];rfl⟩
      ·exact ⟨_,c,by rw[U];simp only[awk,awF] at aa;rw[aa]⟩
     obtain ⟨Ut,Up,rfl⟩:=adM;have Nd:pP.cell? ⟨w.heap.size,11,au8⟩=au6 (.slice Ut v.data.length Up):=by have:=re.a8 11 (.slice Ut v.data.length Up) (by rw[ie];rfl);simpa using this
     clear ie bu e2 uc wm;by_cases jP:8000<v.data.length
     ·have ac9:(8000:Int)<(v.data.length:Int):=by omega
      go_upto_region 10 with fail
      refine Kd re rfl rfl (by exact (by decide:30<32)) (by decide) (by decide) ?_
      go_wp2
      refine Gj (re.put rfl).err rfl rfl rfl (xb ?_ Nh);simp only[gS,q,if_pos a1,aO,gv,awP,if_false,if_pos jP]
     ·have ac9:¬(8000:Int)<(v.data.length:Int):=by omega
      go_upto_region 11 with fail
      refine wp_region_list (wpList_load_mid rfl 29 (.tmp 2) rfl w.heap.size 0 rfl cs.toList _ re.a8 Tryz.underlying29 rfl (by rw[aj,aw3,b9]) (wpList_store_mid rfl 29 (.tmp 2) (.tmp 31) rfl w.heap.size 0 cs ?_ ?_ (by rw[b9];exact re.there) (by rw[aj,b9]) Vo (Uy (re.put b9) ?_ ?_)))
      ·rfl
      ·rfl
      ·rfl
      go_wp2
      refine Gj (re.put b9).err rfl rfl rfl ?_;have sE:gS s=(v,0):=by simp only[gS,q,if_pos a1,aO,gv,awP,if_false,if_neg jP]
      refine ⟨cs,by rw[sE], ?_,Zo (P1 Nh (avm _)) (avJ _)⟩;rw[sE];exact wE.up yF.size fun c ai=>(Below.heap_setCell _ _ _ c (by simp;omega)).trans (((fF.cells cs.toList 0 pP (fF.refl w.heap.size pP)).heap c (by omega)).trans (ET.heap c (by omega)))
  ·go_upto_region 5 with (go_at_call 33;refine (XW n ava (by simp;omega) _).mono ?_;rintro e lT ⟨rfl,rfl⟩)
   refine Kd EJ rfl rfl (by exact (by decide:15<32)) (by decide) (by decide) ?_
   go_wp2
   refine Gj (EJ.put rfl).err rfl rfl rfl (xb ?_ yF);simp only[gS,q,if_neg a1]
 ·refine PN (wz.Ol au) rfl rfl rfl (xb ?_ (Nb kp au));simp only[gS,q]
set_option maxHeartbeats 4000000 in
set_option maxRecDepth 100000 in
theorem aq1 (bh:Nat) (p:Option Addr) (c:Nat) (w:World) (bf:w.cell? ⟨bh,0,au8⟩=au6 (.slice p 0 c)):Calls Tryz.prog 40 #[.pointer (au6 ⟨bh,0,au8⟩)] w (m5 bh w):=by
 have ai:Calls Tryz.prog 67 #[.pointer (au6 ⟨bh,0,au8⟩), .int .i64 1] w (m5 bh w):=by
  go_enter Tryz.func67,Tryz.ntmps67
  go_wp2
  exact ⟨rfl,rfl,fF.refl _ _⟩
 go_enter Tryz.func40,Tryz.ntmps40
 go_wp2_with (go_at_call 67;refine ai.mono ?_;rintro e w' ⟨rfl,au⟩)
 exact ⟨rfl,rfl,au⟩
set_option maxHeartbeats 4000000 in
set_option maxRecDepth 100000 in
theorem X1 (p:Option Addr) (c:Nat) (w:World):Calls Tryz.prog 17 #[.slice p 0 c] w (x9 w []):=by
 have ael:∀(fn:Fn) (first cap:Array au9) (w:World),(Instr.makeFunc fn first cap).run Tryz.prog w= .ok (.func fn first cap) w:=fun _ _ _ _=>rfl;obtain ⟨kp,a1,wz,aa⟩:=Zn w (.slice p 0 c)
 go_enter_defers Tryz.func17,Tryz.ntmps17
 go_upto_region 4 with (go_at_call 40;refine (aq1 (w.heap.size+2) p c (lz w (.slice p 0 c)) (by unfold av7;rw[aa];rfl)).mono ?_;rintro e gV ⟨rfl,au⟩)
 exact PN (wz.Ol au) rfl rfl rfl (xb rfl (Nb kp au))
end Go.W
end
section
namespace Go.av
noncomputable section
variable {P:avd} {D:Nat->Type} {X:ez P D}
def Ql (X:ez P D) (d:fm D) (x:eD D d.ins) (args:List au9) (z:Nat->bo) (m:Mem) (fr:Nat->au9):Prop:=args.length=d.np/\(∀(i:Nat) (v:au9),args[i]? =au6 v->fr i=v)/\jI z m/\(∀p∈gz X d.ins x++d.fx,rel X.G z [] p.2 (fr p.1))
theorem ajI {d:fm D} {cq j9:List (aX D)} {O b3:List (aT D)} {x:eD D d.ins} {z:Nat->bo} {e m:Mem} {k:Option Nat} {vs args:List au9} (ay:bF X.G O z e m k vs) (cU:br (rel X.G z vs) cq args) (hlen:cq.length=d.np)
  (bb:pe (jX 0 cq) d.ins O=au6 (j9,b3)) (ae:(d.fx.all fun p=>sB [] p.2 (ei (jX 0 cq) p.1))=au7) (ag:e0 X [] b3 d.ins j9 []=au6 x):
  ∃b4 fr,Inv O b3/\dr e.next z b4/\bF X.G b3 b4 e m k vs/\Ql X d x args b4 m fr:=by
 have a0:eP X z vs (jX 0 cq) (fun i=>args.getD i undef):=F0 cU fun j v aZ=>by
  grind
 obtain ⟨b4,eU,aU,aQ,bT⟩:=s6 ay a0 bb;exact ⟨b4,_,eU,aU,aQ,cU.length.symm.trans hlen,fun i v aj=>by grind,aQ.aL.bl,Pv (dc:=[]) (a0.mono aU.le fun _ _ h=>h) bT ag ae⟩
def mZ (z:Nat->bo) (n:Nat) (B:bo):Nat->bo:=fun b=>if b=n then B else z b
theorem aaX.push {f np:Nat} {ins outs:List dq} {fx:List (Nat×aX D)} {k0:List ResultVar} (F:eD D ins->Option (kf D outs)) (ao:∀y cm,mkOr X cm outs y=[])
  (ae:∀(x:eD D ins) (y:kf D outs) (dh:aX D) {z:Nat->bo} {m:Mem} {args:List au9} {fr:Nat->au9},F x=au6 y->vF (xF (gz X outs (fB outs y)) [] (kE l3 k0)) (kE l3 k0)=au6 dh->
   Ql X ⟨f,np,ins,fx,au8,0,outs,[],k0,ava⟩ x args z m fr->∃B v,B.hy/\rel X.G (mZ z m.next B) [] dh v/\hs P f args.toArray m fun bI m'=>bI=v/\m'=m.push B):
  ix X ⟨f,np,ins,fx,au8,0,outs,[],k0,ava⟩ (fun _=>F):=by
 intro cq O af K r z e m k vs args ay cU h;unfold fm.call at h;obtain ⟨hlen,h⟩:=fT h;have hlen:=Nat.eq_of_beq_eq_true hlen;split at h
 ·rename_i j9 b3 bb;obtain ⟨NB,h⟩:=fT h;split at h
  ·rename_i x ag;obtain ⟨y,aI,h⟩:=bind_some h;split at h
   ·rename_i dh uI;rw[if_neg (by simp),ao,List.append_nil] at h;obtain ⟨b4,fr,eU,aU,aQ,bT⟩:=ajI ay cU hlen bb NB ag;obtain ⟨B,v,eA,hE,oo⟩:=ae x y dh aI (by simpa[fm.eC] using uI) bT;refine oo.mono ?_;rintro bI m' ⟨rfl,rfl⟩;have a4:dr m.next b4 (mZ b4 m.next B):=⟨fun b ag=>if_neg (av9 (aQ.aL.bl.hy ag).2),fun b ag=>if_neg (av9 ag)⟩
    have aL:dp (mZ b4 m.next B) e (m.push B) k:=⟨fun b ag=>by
     by_cases he:b=m.next
     ·subst he;have bu:mZ b4 m.next B m.next=B:=if_pos rfl;rw[bu,eA.mem];exact ⟨if_pos rfl,av5 _⟩
     ·have bu:mZ b4 m.next B b=b4 b:=if_neg he;rw[bu] at ag⊢;exact (aQ.aL.push B).bl b ag,(aQ.aL.push B).dead,(aQ.aL.push B).mD,(aQ.aL.push B).next,(aQ.aL.push B).kept⟩
    have fU:fM m (m.push B) au8:=⟨avJ _,aL.dead,fun b ag _=>if_neg (av9 ag)⟩
    refine ⟨⟨_,vs,dh,b3,eU,aU.trans (a4.yp ay.aL.next),fun _ _ h=>h,aQ.call a4 fU aL rfl fun j o' aZ=> .inl ⟨aZ,fun _ v _=>eE.n0⟩,hE.mono (eR.refl _) fun i u hu=>(by cases hu),h⟩,fun bd=>(by cases bd),au8,fU.MD, .inl rfl⟩
   ·cases h
  ·cases h
 ·cases h
end
end Go.av
end
section
namespace Go.av
theorem auH {v:au9} (h:cP v=au7) (j:bH):dC j v v:=nq h
theorem Rel.row {P:avd} {j:bH} {m:Mem} {w w':World} (h:Rel P j m w) (G:Grown w w') {g cap a7:Nat} {cs:Array au9} {t:ave} {L:List au9} (a5:w'.heap[g]? =au6 (.cells cs t (0,0))) (hw:w.heap.size<=g)
  (a4:P.cellsOf t=a7) (U:cap*a7<=cs.size) (aa:L.length<=cap*a7) (ap:∀(i:Nat) (v:au9),L[i]? =au6 v->cs[i]? =au6 v) (aN:L.all cP=au7):Post P j m w (j.up m.next ⟨g,cap,a7,0⟩) (m.push (.own L t)) w':=by
 have a1:=h.Oy;have hle:=bH.CY (e:=⟨g,cap,a7,0⟩) a1;have cC:oj P j ⟨g,cap,a7,0⟩ w'.heap[g]? (.own L t):=⟨cs,(0,0),a5,fun i _ aj=>by simp at aj,a4,by simpa using U,aa,fun i v aj=>⟨v,by simpa using ap i v aj,nq (avt.1 aN v (av4 aj))⟩⟩
 have bS:g<w'.heap.size:=(awB.1 a5).1;have fO:∀b x,j.up m.next ⟨g,cap,a7,0⟩ b=au6 x->b≠m.next->j b=au6 x:=fun b x ag ev=>by simpa[bH.up,ev] using ag
 have aC:∀x,j.up m.next ⟨g,cap,a7,0⟩ m.next=au6 x->x=⟨g,cap,a7,0⟩:=fun x ae=>by simpa[bH.up] using ae.symm
 have gb:∀b,b≠m.next->(m.push (.own L t)).aS b=m.aS b:=fun b ag=>by simp[Mem.push,ag]
 have rl:(m.push (.own L t)).aS m.next= .own L t:=by simp[Mem.push]
 refine Post.of h ⟨fun b x ag=> ?_,fun b x ag=> ?_,fun b cB x hj ag ek ao az lJ=> ?_⟩ ⟨G.os,G.tape,G.output,G.size,fun c ai _=>G.heap c ai⟩ (avJ _) (fun b ag=>by simp[bH.up,av9 ag]) (fun b x ag gU=> ?_) (fun b ag ao=>by rw[gb b (av9 ag)] at ao;exact ao) (fun b ag ao=>by rw[gb b (av9 ag)] at ao;exact ao)
 ·by_cases gj:b=m.next
  ·subst gj;cases aC x ag;exact ⟨av5 _,bS⟩
  ·have:=h.lt b x (fO b x ag gj);exact ⟨Nat.lt_succ_of_lt this.1,avx this.2 G.size⟩
 ·by_cases gj:b=m.next
  ·subst gj;cases aC x ag;rw[rl];exact cC.mono hle
  ·have jR:=fO b x ag gj;rw[gb b gj,G.heap _ (h.lt b x jR).2];exact (h.obj b x jR).mono hle
 ·by_cases gj:b=m.next
  ·by_cases mc:cB=m.next
   ·rw[gj,mc]
   ·subst gj;cases aC x ag;have:=(h.lt cB hj (fO cB hj ek mc)).2;simp only at lJ;omega
  ·have jR:=fO b x ag gj;by_cases mc:cB=m.next
   ·subst mc;cases aC hj ek;have:=(h.lt b x jR).2;simp only at lJ;omega
   ·rw[gb b gj] at ao;rw[gb cB mc] at az;exact h.inj b cB x hj jR (fO cB hj ek mc) ao az lJ
 ·by_cases gj:b=m.next
  ·subst gj;cases aC x ag;exact .inl hw
  ·exact absurd (h.lt b x (fO b x ag gj)).1 (awu.2 gU)
theorem Rel.afF {P:avd} {j:bH} {m:Mem} {w w':World} (h:Rel P j m w) (G:Grown w w') (X:bo):Post P j m w j (m.push X) w':=by
 have ev:∀b e,j b=au6 e->b≠m.next:=fun b e ag a1=>awP _ (a1▸(h.lt b e ag).1);have gb:∀b,b≠m.next->(m.push X).aS b=m.aS b:=fun b ag=>by simp[Mem.push,ag]
 refine Post.of h ⟨fun b x ag=>⟨Nat.lt_succ_of_lt (h.lt b x ag).1,avx (h.lt b x ag).2 G.size⟩,fun b x ag=> ?_,fun b cB x hj ag ek ao az lJ=> ?_⟩ ⟨G.os,G.tape,G.output,G.size,fun c ai _=>G.heap c ai⟩ (avJ _) (fun _ _=>rfl) (fun b x ag gU=>absurd (h.lt b x ag).1 (awu.2 gU)) (fun b ag ao=>by rw[gb b (av9 ag)] at ao;exact ao) (fun b ag ao=>by rw[gb b (av9 ag)] at ao;exact ao)
 ·rw[gb b (ev b x ag),G.heap _ (h.lt b x ag).2];exact h.obj b x ag
 ·rw[gb b (ev b x ag)] at ao;rw[gb cB (ev cB hj ek)] at az;exact h.inj b cB x hj ag ek ao az lJ
end Go.av
end
section
namespace Go.W
open Go Go.Proofs Go.RowKit Go.av
def DI (m:Mem) (s:List UInt8) (a:au9):Prop:=(a= .slice au8 0 0/\s=[])\/∃b off c,a= .slice (au6 ⟨b,off,au8⟩) s.length c/\(c<cJ->s.length<=c)/\∀(i:Nat) (x:UInt8),s[i]? =au6 x->m.load b (off+i)=au6 (.int .u8 x.toNat)
theorem W2 {j:bH} {m:Mem} {w:World} (cl:Rel Tryz.prog j m w) {a ba:au9} (ab:cN j a ba) {s:List UInt8} (aY:DI m s a):Calls Tryz.prog 17 #[ba] w (x9 w s):=by
 rcases aY with ⟨rfl,rfl⟩|⟨b,off,c,rfl,ai,az⟩
 ·rw[ab.kH];exact X1 au8 0 w
 ·obtain ⟨q,_,aZ,bd⟩:=ab.slice;have aZ:j b=au6 q:=aZ;have kb:lp w q.aS (q.dS+off) s:=fun i x aj=>by
   obtain ⟨ba,U,aa⟩:=cl.load b q (off+i) _ aZ (az i x aj);rw[zA rfl aa,<-avZ] at U;exact U
  have bS:=(cl.lt b q aZ).2;have bf:∀p cap,s.length=0->Calls Tryz.prog 17 #[.slice p 0 cap] w (x9 w s):=fun p cap h=>by obtain rfl:=awd h;exact X1 p cap w
  rcases bd with ⟨ag,rfl⟩|⟨_,_,hle,_,_,_,rfl⟩|⟨_,gd,_,rfl⟩|⟨_,gd,_,rfl⟩|⟨k,_,_,U,_,aa,_,_,_,rfl⟩
  ·exact PS _ _ _ _ w (ai ag) kb bS
  ·exact PS _ _ _ _ w hle kb bS
  ·exact bf _ _ gd
  ·exact bf _ _ gd
  ·exact PS _ _ _ _ w (avz U aa) kb bS
def kj (n l:Nat):au9:=if l=0 then dX else .slice (au6 ⟨n,0,au8⟩) l cJ
theorem Gc {j:bH} {m:Mem} {w w':World} (cl:Rel Tryz.prog j m w) (G:av.Grown w w') {t:ave} {a7:Nat} {bI:au9} {xs:List au9} (h:gG w w' t a7 bI xs) (a4:Tryz.prog.cellsOf t=a7) (aC:0<a7) (bb:xs.all cP=au7) {l:Nat} (az:xs.length=l*a7) {X:bo} (cC:xs≠[]->X= .own xs t):
  ∃b0,Post Tryz.prog j m w b0 (m.push X) w'/\dC b0 (kj m.next l) bI:=by
 rcases h with ⟨rfl,rfl⟩|⟨g,c,lL,cs,rfl,U,aa,ap,aN,bK,ed,hg,jP⟩
 ·refine ⟨j,cl.afF G X, ?_⟩;have:l=0:=by rcases Nat.mul_eq_zero.1 az.symm with h|h<;>omega
  rw[kj,if_pos this];rfl
 ·have e:lL=l:=Nat.eq_of_mul_eq_mul_right aC (U.trans az);subst e;have ev:xs≠[]:=fun e=>by
   subst e;rcases Nat.mul_eq_zero.1 az.symm with h|h<;>omega
  rw[cC ev];have nS:lL*a7<=c*a7:=Nat.mul_le_mul_right _ ap;refine ⟨_,cl.row G ed bK a4 hg (by rw[az];exact nS) jP bb, ?_⟩;rw[kj,if_neg (by omega)];refine ⟨⟨g,c,a7,0⟩,rfl,by simp[bH.up], .inr (.inl ⟨rfl,aC, ?_, ?_, ?_, ?_, ?_⟩)⟩
  ·simpa using ap
  ·unfold maxLen at aN;unfold cJ;show c<_;omega
  ·simp
  ·simp
  ·simp
theorem gG.isNil {w w':World} {t:ave} {a7:Nat} {v:au9} (h:gG w w' t a7 v []) (aC:0<a7):v=dX:=by
 rcases h with ⟨_,h⟩|⟨_,_,l,_,_,U,aa,_⟩
 ·exact h
 ·have:=Nat.mul_pos aa aC;simp at U;omega
def Ed (x:UInt8):au9:= .int .u8 x.toNat
def ra (e:bj) (n:Nat):Array au9:=hv (hr e.kind) (hr e.bC) (hr e.to) (hr e.count) (hr e.cE) (kj n e.aP.length) (kj n e.cQ.length) (ny e.order.name) (hr e.order.bC) (kj n e.order.cw.length) (ny e.name) (kj n e.data.length)
def jj (e:bj):bo:=if e.aP≠[] then .own (e.aP.map hr) 3 else if e.cQ≠[] then .own (e.cQ.flatMap r5) 48 else if e.order.cw≠[] then .own (e.order.cw.map ny) 9 else .own (e.data.map Ed) 5
def DU (e:bj):Prop:=(e.cQ=[]/\e.order.cw=[]/\e.data=[])\/(e.aP=[]/\e.order.cw=[]/\e.data=[])\/(e.aP=[]/\e.cQ=[]/\e.data=[])\/(e.aP=[]/\e.cQ=[]/\e.order.cw=[])
theorem aqI {k:Int} {b r:List UInt8} {e:bj} (h:eM k b=au6 (e,r)):DU e:=by
 unfold eM at h
 repeat' split at h
 all_goals
  simp only[Option.bind_eq_some_iff,Prod.exists] at h
 ·obtain ⟨_,_,_,_,_,_,_,_,_,h⟩:=h;cases h;exact .inr (.inr (.inr ⟨rfl,rfl,rfl⟩))
 ·obtain ⟨_,_,_,_,_,_,_,_,_,_,_,_,h⟩:=h;cases h;exact .inr (.inr (.inl ⟨rfl,rfl,rfl⟩))
 ·obtain ⟨_,_,_,_,_,_,_,_,_,_,_,_,h⟩:=h;cases h;exact .inl ⟨rfl,rfl,rfl⟩
 ·obtain ⟨_,_,_,_,_,_,h⟩:=h;cases h;exact .inr (.inl ⟨rfl,rfl,rfl⟩)
 ·obtain ⟨_,_,_,_,_,_,_,_,_,h⟩:=h;cases h;exact .inl ⟨rfl,rfl,rfl⟩
 ·obtain ⟨_,_,_,h⟩:=h;cases h;exact .inl ⟨rfl,rfl,rfl⟩
theorem XL (s:List UInt8):DU (gS s).1:=by
 have bf:DU (kQ 0):= .inl ⟨rfl,rfl,rfl⟩;unfold gS
 repeat' split
 all_goals first|exact bf|exact aqI (by assumption)
theorem Yu (l:List Int):(l.map hr).all cP=au7:=avt.2 fun v ab=>by obtain ⟨x,_,rfl⟩:=avy.1 ab;rfl
theorem Yv (l:List (List UInt8)):(l.map ny).all cP=au7:=avt.2 fun v ab=>by obtain ⟨x,_,rfl⟩:=avy.1 ab;rfl
theorem Yt (l:List UInt8):(l.map Ed).all cP=au7:=avt.2 fun v ab=>by obtain ⟨x,_,rfl⟩:=avy.1 ab;rfl
theorem Yw (l:List er):(l.flatMap r5).all cP=au7:=avt.2 fun v ab=>by
 obtain ⟨x,_,h⟩:=List.mem_flatMap.1 ab;rcases avu.1 h with rfl|h
 ·rfl
 ·obtain rfl:=aw1.1 h;rfl
theorem Zh (l:List er):(l.flatMap r5).length=l.length*2:=by
 induction l with
 |nil=>rfl
 |cons a l ar=>rw[awQ,awa,ar];show 2+_=_;rw[awh];omega
theorem auP {n:Nat} {aA:Type} {l:List aA} (h:l=[]):kj n l.length=dX:=by subst h;rfl
theorem alq {j:bH} {m:Mem} {w w':World} (cl:Rel Tryz.prog j m w) (G:av.Grown w w') {e:bj} {cs:Array au9} (U:DU e) (h:tP w w' e cs):∃b0,Post Tryz.prog j m w b0 (m.push (jj e)) w'/\br (dC b0) (ra e m.next).toList cs.toList:=by
 have c5:Tryz.prog.cellsOf 5=1:=by kernel_rfl
 have c3:Tryz.prog.cellsOf 3=1:=by kernel_rfl
 have Ue:Tryz.prog.cellsOf 9=1:=by kernel_rfl
 have ace:Tryz.prog.cellsOf 48=2:=by kernel_rfl
 obtain ⟨ts,oT,ds,nQ,rfl,cz,dw,ft,hK⟩:=h;obtain ⟨cG,mX,to,mB,wt,jZ,aL,⟨on,kD,ko⟩,kC,k2⟩:=e;have key:∀b0,dC b0 (kj m.next jZ.length) ts->dC b0 (kj m.next aL.length) oT->dC b0 (kj m.next ko.length) ds->dC b0 (kj m.next k2.length) nQ->br (dC b0) (ra ⟨cG,mX,to,mB,wt,jZ,aL,⟨on,kD,ko⟩,kC,k2⟩ m.next).toList (hv (hr cG) (hr mX) (hr to) (hr mB) (hr wt) ts oT (ny on) (hr kD) ds (ny kC) nQ).toList:=fun b0 iI iV pB uZ=>⟨rfl,rfl,rfl,rfl,rfl,iI,iV,rfl,rfl,pB,rfl,uZ,trivial⟩
 have oL:∀(b0:bH),dC b0 (kj m.next 0) dX:=fun b0=>rfl;rcases U with ⟨rfl,rfl,rfl⟩|⟨rfl,rfl,rfl⟩|⟨rfl,rfl,rfl⟩|⟨rfl,rfl,rfl⟩
 ·obtain rfl:=dw.isNil (by omega);obtain rfl:=ft.isNil (by omega);obtain rfl:=hK.isNil (by omega);obtain ⟨b0,p,q⟩:=Gc cl G cz c3 (by omega) (Yu jZ) (l:=jZ.length) (by simp) (X:=jj ⟨cG,mX,to,mB,wt,jZ,[],⟨on,kD,[]⟩,kC,[]⟩) (fun ev=>by
   have:jZ≠[]:=fun e=>ev (by rw[e];rfl);simp only[jj,this,ne_eq,not_false_eq_true,if_true])
  exact ⟨b0,p,key b0 q (oL b0) (oL b0) (oL b0)⟩
 ·obtain rfl:=cz.isNil (by omega);obtain rfl:=ft.isNil (by omega);obtain rfl:=hK.isNil (by omega);obtain ⟨b0,p,q⟩:=Gc cl G dw ace (by omega) (Yw aL) (l:=aL.length) (Zh aL) (X:=jj ⟨cG,mX,to,mB,wt,[],aL,⟨on,kD,[]⟩,kC,[]⟩) (fun ev=>by
   have:aL≠[]:=fun e=>ev (by rw[e];rfl);simp only[jj,this,ne_eq,not_false_eq_true,not_true,if_true,if_false];rfl)
  exact ⟨b0,p,key b0 (oL b0) q (oL b0) (oL b0)⟩
 ·obtain rfl:=cz.isNil (by omega);obtain rfl:=dw.isNil (by omega);obtain rfl:=hK.isNil (by omega);obtain ⟨b0,p,q⟩:=Gc cl G ft Ue (by omega) (Yv ko) (l:=ko.length) (by simp) (X:=jj ⟨cG,mX,to,mB,wt,[],[],⟨on,kD,ko⟩,kC,[]⟩) (fun ev=>by
   have:ko≠[]:=fun e=>ev (by rw[e];rfl);simp only[jj,this,ne_eq,not_false_eq_true,not_true,if_true,if_false])
  exact ⟨b0,p,key b0 (oL b0) (oL b0) q (oL b0)⟩
 ·obtain rfl:=cz.isNil (by omega);obtain rfl:=dw.isNil (by omega);obtain rfl:=ft.isNil (by omega);obtain ⟨b0,p,q⟩:=Gc cl G hK c5 (by omega) (Yt k2) (l:=k2.length) (by simp) (X:=jj ⟨cG,mX,to,mB,wt,[],[],⟨on,kD,[]⟩,kC,k2⟩) (fun ev=>by
   simp only[jj,ne_eq,not_true,if_false];rfl)
  exact ⟨b0,p,key b0 (oL b0) (oL b0) (oL b0) q⟩
theorem Xv {j:bH} {a:au9} {hn:Array au9} (h:br (cN j) (#[a]:Array au9).toList hn.toList):∃c,hn=#[c]/\cN j a c:=by
 obtain ⟨l⟩:=hn
 match l,h with
 |[c],⟨h,_⟩=>exact ⟨c,rfl,h⟩
 |_::_::_,⟨_,h⟩=>exact h.elim
 |[],h=>exact h.elim
theorem aqN (n l:Nat):hi (n+1) (kj n l):=by
 unfold kj;split
 ·trivial
 ·exact av5 n
theorem alo (e:bj) (n:Nat):pv n (jj e):=by
 unfold jj
 repeat' split
 ·exact fun v ab=>qz (avt.1 (Yu _) v ab)
 ·exact fun v ab=>qz (avt.1 (Yw _) v ab)
 ·exact fun v ab=>qz (avt.1 (Yv _) v ab)
 ·exact fun v ab=>qz (avt.1 (Yt _) v ab)
theorem alp (e:bj) (n:Nat) (k:Int):low (n+1) (.tuple #[.agg (ra e n), .int .i64 k]):=fun v ab=>by
 rcases avu.1 ab with rfl|ab
 ·intro u hu;simp only[ra,hv,avu,awK,or_false] at hu;rcases hu with rfl|rfl|rfl|rfl|rfl|rfl|rfl|rfl|rfl|rfl|rfl|rfl<;>first|exact aqN _ _|trivial
 ·obtain rfl:=aw1.1 ab;trivial
def Ej (s:List UInt8) (n:Nat):au9:= .tuple #[.agg (ra (gS s).1 n), .int .i64 (gS s).2]
theorem akD {m:Mem} {s:List UInt8} {a:au9} (aY:DI m s a):nL Tryz.prog 17 #[a] m (Ej s m.next) (m.push (jj (gS s).1)):=
 .any _ _ (avJ _) (fun dO=>⟨alp _ _ _,dO.push (alo _ _)⟩) fun j w hn dO cl dY=>by obtain ⟨ba,rfl,ab⟩:=Xv dY;refine (W2 cl ab aY).mono ?_;rintro e w' ⟨cs,rfl,wE,G⟩;obtain ⟨b0,p,q⟩:=alq cl G (XL s) wE;exact ⟨_,b0,rfl,p,#[.agg cs, .int .i64 (gS s).2],rfl,⟨cs,rfl,q⟩,rfl,trivial⟩
theorem aj8 {m:Mem} {s:List UInt8} {a:au9} (aY:DI m s a) (U:(gS s).1.aP=[]) (aa:(gS s).1.cQ=[]) (ap:(gS s).1.order.cw=[]) (aN:(gS s).1.data=[]):nL Tryz.prog 17 #[a] m (Ej s m.next) m:=
 .any _ _ (avm _) (fun dO=>⟨fun v ab=>by
  rcases avu.1 ab with rfl|ab
  ·intro u hu;simp only[ra,hv,U,aa,ap,aN,kj,List.length_nil,if_true,avu,awK,or_false] at hu;rcases hu with rfl|rfl|rfl|rfl|rfl|rfl|rfl|rfl|rfl|rfl|rfl|rfl<;>trivial
  ·obtain rfl:=aw1.1 ab;trivial,dO⟩) fun j w hn dO cl dY=>by
  obtain ⟨ba,rfl,ab⟩:=Xv dY;refine (W2 cl ab aY).mono ?_;rintro e w' ⟨cs,rfl,wE,G⟩;obtain ⟨ts,oT,ds,nQ,rfl,cz,dw,ft,hK⟩:=wE;rw[U] at cz;rw[aa] at dw;rw[ap] at ft;rw[aN] at hK;obtain rfl:=cz.isNil (by omega);obtain rfl:=dw.isNil (by omega);obtain rfl:=ft.isNil (by omega);obtain rfl:=hK.isNil (by omega);refine ⟨_,j,rfl,cl.Nc G.os G.tape G.output G.size G.heap,#[.agg _, .int .i64 (gS s).2],rfl,⟨_,rfl, ?_⟩,rfl,trivial⟩;simp only[ra,U,aa,ap,aN];exact ⟨rfl,rfl,rfl,rfl,rfl,rfl,rfl,rfl,rfl,rfl,rfl,rfl,trivial⟩
def Ee (c:dP) (b:Nat):Nat->Nat->Option (List UInt8)
 |_,0=>au6 []
 |o,n+1=>match zc c b o,Ee c b (o+1) n with
  |some (.int .u8 (.ofNat k)),au6 l=>if k<256 then au6 (awv k::l) else au8
  |_,_=>au8
theorem X9 {c:dP} {b:Nat}:∀{n o:Nat} {s:List UInt8},Ee c b o n=au6 s->s.length=n/\∀(i:Nat) (x:UInt8),s[i]? =au6 x->c.mem.load b (o+i)=au6 (.int .u8 x.toNat)
 |0,o,s,h=>by cases h;exact ⟨rfl,fun i x aj=>by cases aj⟩
 |n+1,o,s,h=>by
  simp only[Ee] at h;split at h
  ·rename_i k l U aa;split at h
   ·rename_i au;cases h;obtain ⟨aU,aQ⟩:=X9 aa;refine ⟨by rw[awh,aU],fun i x aj=> ?_⟩;cases i with
    |zero=>cases aj;rw[av2,P5 U];congr 2;show (k:Int)=((awv k).toNat:Int);rw[UInt8.toNat_ofNat_of_lt' au]
    |succ i=>have:=aQ i x aj;rw[<-this];congr 1;omega
   ·cases h
  ·cases h
def MO (f:FuncId) (args:Array au9) (c:dP):Option au9:=
 if f=17 then (match args.toList with
  |[.slice (au6 ⟨b,o,au8⟩) l ga]=>(match Ee c b o l with
   |some s=>(match gS s with
    |(e,n)=>if (decide (cJ<=ga)||decide (l<=ga))=au7/\e.aP.isEmpty=au7/\e.cQ.isEmpty=au7/\e.order.cw.isEmpty=au7/\e.data.isEmpty=au7 then au6 (Ej s c.next) else au8)
   |none=>au8)
  |_=>au8) else au8
theorem akC (f:FuncId) (args:Array au9) (c:dP) (v:au9) (h:MO f args c=au6 v):nL Tryz.prog f args c.mem v c.mem:=by
 unfold MO at h;split at h
 ·rename_i bb;subst bb;split at h
  ·rename_i b o l ga aY;obtain rfl:=tY aY;split at h
   ·rename_i s aC;obtain ⟨rfl,g⟩:=X9 aC;split at h;rename_i e n aO;split at h
    ·rename_i ai;obtain ⟨ai,U,aa,ap,aN⟩:=ai;cases h;refine aj8 (m:=c.mem) (.inr ⟨b,o,ga,rfl,fun ag=> ?_,g⟩) ?_ ?_ ?_ ?_
     ·simp only[Bool.or_eq_true,decide_eq_true_eq] at ai;omega
     all_goals
      rw[aO];exact List.isEmpty_iff.1 (by assumption)
    ·cases h
   ·cases h
  ·cases h
 ·cases h
end Go.W
end
section
set_option maxRecDepth 1000000
namespace Go.W
open Go Go.av Go.Proofs
noncomputable def w0:List Nat:=(List.range 382).filter fun f=>la Tryz.prog f
theorem ah9:∀f∈w0,la Tryz.prog f=au7:=fun f bb=>(List.mem_filter.1 bb).2
noncomputable def R:DV Tryz.prog where
 w0:=w0
 ok:=ah9
 MM:=[]
 Us:=fun x ae=>(by cases ae)
 xs:=MO
 aaH:=akC
theorem ahC:(match z9 Tryz.prog R 1000000 14 #[] ⟨0, .e⟩ with|some (v,_)=>qa 5 v (.bool au7)|none=>ava)=au7:=by kernel_rfl
theorem ajq (w:World) (aw:l1 Tryz.prog w):Calls Tryz.prog 14 #[] w fun e w'=>e= .returned (.bool au7)/\Grown w w':=by
 have h:=ahC;split at h
 ·rename_i v c ai;obtain rfl:=GN 5 _ _ h;exact aix (by kernel_rfl) R ai rfl w aw
 ·cases h
end Go.W
end
section
set_option maxRecDepth 100000
set_option maxHeartbeats 1000000
namespace Go.W
open Go.av Go.Proofs
noncomputable def ht:ct Int:=fW 3 [.int .i64] fun x=>(x,())
noncomputable def abA:ct Bool:=fW 4 [.bool] fun x=>(x,())
noncomputable def l2:ct UInt8:=jC 5
noncomputable def nO:ct (List UInt8):=fW 9 [.str] fun x=>(x,())
noncomputable def yk:ct (List Int):=fW 22 [.ad Int ht] fun x=>(x,())
noncomputable def o7:ct er:=fW 48 [.int .i64, .int .i64] fun x=>(x.place,x.bC,())
noncomputable def abt:ct (List er):=fW 23 [.ad er o7] fun x=>(x,())
noncomputable def abu:ct (List (List UInt8)):=fW 24 [.ad (List UInt8) nO] fun x=>(x,())
noncomputable def D0:ct bX:=fW 26 [.str, .int .i64, .ad (List UInt8) nO] fun x=>(x.name,x.bC,x.cw,())
noncomputable def abv:ct (List UInt8):=fW 27 [.ad UInt8 l2] fun x=>(x,())
noncomputable def Mn:ct bj:=fW 29 [.int .i64, .int .i64, .int .i64, .int .i64, .int .i64, .ad Int ht, .ad er o7, .str, .int .i64, .ad (List UInt8) nO, .str, .ad UInt8 l2] fun x=>(x.kind,x.bC,x.to,x.count,x.cE,x.aP,x.cQ,x.order.name,x.order.bC,x.order.cw,x.name,x.data,())
noncomputable def D2:ct hS:=fW 64 [.str, .int .i64] fun x=>(x.name,x.length,())
noncomputable def abw:ct (List hS):=fW 32 [.ad hS D2] fun x=>(x,())
noncomputable def G8:ct ep:=fW 117 [.int .i64, .int .i64, .int .i64, .int .i64, .int .i64] fun x=>(x.number,x.kind,x.a,x.b,x.c,())
noncomputable def abx:ct (List ep):=fW 33 [.ad ep G8] fun x=>(x,())
noncomputable def D1:ct gw:=fW 61 [.int .i64, .int .i64, .int .i64] fun x=>(x.speed,x.kR,x.kV,())
noncomputable def aby:ct (List gw):=fW 34 [.ad gw D1] fun x=>(x,())
noncomputable def abz:ct dx:=fW 36 [.ad hS D2, .ad ep G8, .ad gw D1, .int .i64, .int .i64] fun x=>(x.aP,x.rules,x.table,x.speed,x.kR,())
noncomputable def abB:ct Int:=fW 40 [.int .i64] fun x=>(x,())
noncomputable def abC:ct cA:=fW 59 [.ad Int ht, .int .i64] fun x=>(x.l,x.n,())
noncomputable def vu:ct cb:=fW 122 [.str, .int .i64, .int .i64, .int .i64, .int .i64, .int .i64, .bool, .str] fun x=>(x.number,x.length,x.jM,x.h0,x.pb,x.mb,x.ui,x.dest,())
noncomputable def abD:ct (List cb):=fW 67 [.ad cb vu] fun x=>(x,())
noncomputable def abE:ct (List (List Int)):=fW 68 [.ad (List Int) yk] fun x=>(x,())
noncomputable def abF:ct (List bX):=fW 69 [.ad bX D0] fun x=>(x,())
noncomputable def vv:ct e3:=fW 162 [.int .i64, .int .i64, .int .i64, .int .i64] fun x=>(x.fC,x.block,x.round,x.length,())
noncomputable def abG:ct (List e3):=fW 70 [.ad e3 vv] fun x=>(x,())
noncomputable def abH:ct cV:=fW 72 [.ad e3 vv, .int .i64] fun x=>(x.items,x.cE,())
noncomputable def abI:ct e4:=fW 74 [.int .i64, .ad Int ht] fun x=>(x.steps,x.hV,())
noncomputable def abJ:ct g7:=fW 76 [.int .i64, .ad Int ht, .ad Int ht] fun x=>(x.fJ.steps,x.fJ.hV,x.chain,())
noncomputable def abK:ct gi:=fW 78 [.ad Int ht, .ad e3 vv, .int .i64, .int .i64, .ad Int ht, .ad Int ht, .int .i64, .ad Int ht, .int .i64] fun x=>(x.cv,x.ir.items,x.ir.cE,x.proof.fJ.steps,x.proof.fJ.hV,x.proof.chain,x.lead,x.aP,x.iW,())
noncomputable def abL:ct bN:=fW 80 [.ad cb vu, .ad (List Int) yk, .ad bX D0, .bool, .ad Int ht, .ad e3 vv, .int .i64, .int .i64, .ad Int ht, .ad Int ht, .int .i64, .ad Int ht, .int .i64, .bool] fun x=>(x.cv,x.aP,x.cH,x.busy,x.bJ.cv,x.bJ.ir.items,x.bJ.ir.cE,x.bJ.proof.fJ.steps,x.bJ.proof.fJ.hV,x.bJ.proof.chain,x.bJ.lead,x.bJ.aP,x.bJ.iW,x.dF,())
noncomputable def afB:List LT:=[.int .i64, .int .i64, .int .i64, .int .i64, .int .i64, .ad Int ht, .ad er o7, .str, .int .i64, .ad (List UInt8) nO, .str, .ad UInt8 l2, .int .i64, .int .i64, .int .i64, .int .i64, .int .i64, .ad Int ht, .ad er o7, .str, .int .i64, .ad (List UInt8) nO, .str, .ad UInt8 l2, .int .i64, .int .i64, .int .i64, .int .i64, .int .i64, .ad Int ht, .ad er o7, .str, .int .i64, .ad (List UInt8) nO, .str, .ad UInt8 l2]
noncomputable def abM:ct yg:=fW 84 afB fun x=>(x.gH.kind,x.gH.bC,x.gH.to,x.gH.count,x.gH.cE,x.gH.aP,x.gH.cQ,x.gH.order.name,x.gH.order.bC,x.gH.order.cw,x.gH.name,x.gH.data,x.cz.kind,x.cz.bC,x.cz.to,x.cz.count,x.cz.cE,x.cz.aP,x.cz.cQ,x.cz.order.name,x.cz.order.bC,x.cz.order.cw,x.cz.name,x.cz.data,x.dw.kind,x.dw.bC,x.dw.to,x.dw.count,x.dw.cE,x.dw.aP,x.dw.cQ,x.dw.order.name,x.dw.order.bC,x.dw.order.cw,x.dw.name,x.dw.data,())
noncomputable def Ha:ct dj:=fW 182 [.int .i64, .int .i64, .int .i64, .bool] fun x=>(x.oV,x.from_,x.to,x.front,())
noncomputable def abN:ct (List dj):=fW 85 [.ad dj Ha] fun x=>(x,())
noncomputable def G9:ct da:=fW 175 [.int .i64, .int .i64, .int .i64, .int .i64] fun x=>(x.item,x.reason,x.kO,x.round,())
noncomputable def abO:ct (List da):=fW 86 [.ad da G9] fun x=>(x,())
noncomputable def abP:ct fz:=fW 88 [.int .i64, .int .i64, .int .i64, .int .i64, .int .i64, .int .i64, .int .i64] fun x=>(x.length,x.jM,x.h0,x.m8,x.kV,x.required,x.oI,())
noncomputable def z8:ct jB:=fW 251 [.int .i64, .int .i64, .int .i64] fun x=>(x.stop,x.cv,x.UK,())
noncomputable def abQ:ct (List jB):=fW 89 [.ad jB z8] fun x=>(x,())
noncomputable def abR:ct js:=fW 91 [.str, .ad cb vu, .int .i64, .int .i64, .int .i64, .int .i64, .int .i64, .int .i64, .int .i64, .ad jB z8] fun x=>(x.name,x.cv,x.gy.length,x.gy.jM,x.gy.h0,x.gy.m8,x.gy.kV,x.gy.required,x.gy.oI,x.xG,())
noncomputable def abS:ct ef:=fW 93 [.int .i64, .ad dj Ha, .int .i64, .ad Int ht, .ad Int ht, .ad da G9, .str, .ad cb vu, .int .i64, .int .i64, .int .i64, .int .i64, .int .i64, .int .i64, .int .i64, .ad jB z8, .int .i64, .int .i64] fun x=>(x.err,x.vJ,x.proof.fJ.steps,x.proof.fJ.hV,x.proof.chain,x.gk,x.final.name,x.final.cv,x.final.gy.length,x.final.gy.jM,x.final.gy.h0,x.final.gy.m8,x.final.gy.kV,x.final.gy.required,x.final.gy.oI,x.final.xG,x.ey,x.place,())
noncomputable def agz:ct cF:=fW 105 [.ad UInt8 l2, .bool] fun x=>(x.b,x.bad,())
noncomputable def af':List LT:=[.ad hS D2, .ad ep G8, .ad gw D1, .int .i64, .int .i64, .ad cb vu, .ad (List Int) yk, .ad bX D0, .bool, .ad Int ht, .ad e3 vv, .int .i64, .int .i64, .ad Int ht, .ad Int ht, .int .i64, .ad Int ht, .int .i64, .bool, .int .i64, .int .i64, .int .i64, .int .i64, .int .i64, .ad Int ht, .ad er o7, .str, .int .i64, .ad (List UInt8) nO, .str, .ad UInt8 l2, .int .i64, .ad dj Ha, .int .i64, .ad Int ht, .ad Int ht, .ad da G9, .str, .ad cb vu, .int .i64, .int .i64, .int .i64, .int .i64, .int .i64, .int .i64, .int .i64, .ad jB z8, .int .i64, .int .i64]
noncomputable def agA:ct bw:=fW 132 af' fun x=>(x.c.aP,x.c.rules,x.c.table,x.c.speed,x.c.kR,x.y.cv,x.y.aP,x.y.cH,x.y.busy,x.y.bJ.cv,x.y.bJ.ir.items,x.y.bJ.ir.cE,x.y.bJ.proof.fJ.steps,x.y.bJ.proof.fJ.hV,x.y.bJ.proof.chain,x.y.bJ.lead,x.y.bJ.aP,x.y.bJ.iW,x.y.dF,x.e.kind,x.e.bC,x.e.to,x.e.count,x.e.cE,x.e.aP,x.e.cQ,x.e.order.name,x.e.order.bC,x.e.order.cw,x.e.name,x.e.data,x.r.err,x.r.vJ,x.r.proof.fJ.steps,x.r.proof.fJ.hV,x.r.proof.chain,x.r.gk,x.r.final.name,x.r.final.cv,x.r.final.gy.length,x.r.final.gy.jM,x.r.final.gy.h0,x.r.final.gy.m8,x.r.final.gy.kV,x.r.final.gy.required,x.r.final.gy.oI,x.r.final.xG,x.r.ey,x.r.place,())
noncomputable def agB:ct eO:=fW 137 [.ad UInt8 l2, .int .i64, .bool] fun x=>(x.b,x.at_,x.short,())
noncomputable def agC:ct cS:=fW 169 [.ad e3 vv, .ad Int ht, .ad (List Int) yk] fun x=>(x.items,x.homes,x.aP,())
noncomputable def afX:ct eG:=fW 240 [.int .i64, .int .i64] fun x=>(x.bC,x.place,())
structure abq where
 aA:Type
 T:ct aA
 ee:aA->List au9
noncomputable def Q9:Nat->abq|3=>⟨Int,ht,VD .i64⟩|4=>⟨Bool,abA,Zq⟩|5=>⟨UInt8,l2,fun _=>[]⟩|9=>⟨(List UInt8),nO,afu⟩|22=>⟨(List Int),yk,fun _=>[]⟩|48=>⟨er,o7,fun _=>[]⟩|23=>⟨(List er),abt,fun _=>[]⟩|24=>⟨(List (List UInt8)),abu,fun _=>[]⟩|26=>⟨bX,D0,fun _=>[]⟩|27=>⟨(List UInt8),abv,fun _=>[]⟩|29=>⟨bj,Mn,fun _=>[]⟩|64=>⟨hS,D2,fun _=>[]⟩|32=>⟨(List hS),abw,fun _=>[]⟩|117=>⟨ep,G8,fun _=>[]⟩|33=>⟨(List ep),abx,fun _=>[]⟩|61=>⟨gw,D1,fun _=>[]⟩|34=>⟨(List gw),aby,fun _=>[]⟩|36=>⟨dx,abz,fun _=>[]⟩|40=>⟨Int,abB,VD .i64⟩|59=>⟨cA,abC,fun _=>[]⟩|122=>⟨cb,vu,fun _=>[]⟩|67=>⟨(List cb),abD,fun _=>[]⟩|68=>⟨(List (List Int)),abE,fun _=>[]⟩|69=>⟨(List bX),abF,fun _=>[]⟩|162=>⟨e3,vv,fun _=>[]⟩|70=>⟨(List e3),abG,fun _=>[]⟩|72=>⟨cV,abH,fun _=>[]⟩|74=>⟨e4,abI,fun _=>[]⟩|76=>⟨g7,abJ,fun _=>[]⟩|78=>⟨gi,abK,fun _=>[]⟩|80=>⟨bN,abL,fun _=>[]⟩|84=>⟨yg,abM,fun _=>[]⟩|182=>⟨dj,Ha,fun _=>[]⟩|85=>⟨(List dj),abN,fun _=>[]⟩|175=>⟨da,G9,fun _=>[]⟩|86=>⟨(List da),abO,fun _=>[]⟩|88=>⟨fz,abP,fun _=>[]⟩|251=>⟨jB,z8,fun _=>[]⟩|89=>⟨(List jB),abQ,fun _=>[]⟩|91=>⟨js,abR,fun _=>[]⟩|93=>⟨ef,abS,fun _=>[]⟩|105=>⟨cF,agz,fun _=>[]⟩|132=>⟨bw,agA,fun _=>[]⟩|137=>⟨eO,agB,fun _=>[]⟩|169=>⟨cS,agC,fun _=>[]⟩|240=>⟨eG,afX,fun _=>[]⟩|_=>⟨Bool,z7 4,Zq⟩
noncomputable def D (t:Nat):Type:=(Q9 t).aA
noncomputable def G:mA D:=⟨fun t=>(Q9 t).T,fun t=>(Q9 t).ee⟩
noncomputable def arO:dI Tryz.prog G 3:=gl [.int .i64] (fun (x:Int)=>(x,())) (fun (du,_)=>(du:Int)) (fun _=>rfl) (fun _=>rfl) Tryz.t3 rfl Tryz.type3 rfl rfl rfl rfl rfl
noncomputable def arT:dI Tryz.prog G 4:=gl [.bool] (fun (x:Bool)=>(x,())) (fun (du,_)=>(du:Bool)) (fun _=>rfl) (fun _=>rfl) Tryz.t4 rfl Tryz.type4 rfl rfl rfl rfl rfl
noncomputable def arW:dI Tryz.prog G 5:=asg (fun (x:UInt8)=>x) (fun x=>x) (fun x=>x) (fun o=>by cases o<;>rfl) (fun _=>rfl) (fun _=>rfl) Tryz.t5 rfl rfl (fun _ _ _=>Iff.rfl) Tryz.type5 rfl rfl rfl
noncomputable def asd:dI Tryz.prog G 9:=gl [.str] (fun (x:(List UInt8))=>(x,())) (fun (du,_)=>(du:(List UInt8))) (fun _=>rfl) (fun _=>rfl) Tryz.t9 rfl Tryz.type9 rfl rfl rfl rfl rfl
noncomputable def arI:dI Tryz.prog G 22:=gl [.ad 3] (fun (x:(List Int))=>(x,())) (fun (du,_)=>(du:(List Int))) (fun _=>rfl) (fun _=>rfl) Tryz.t22 rfl Tryz.type22 rfl rfl rfl rfl rfl
noncomputable def arV:dI Tryz.prog G 48:=gl [.int .i64, .int .i64] (fun (x:er)=>(x.place,x.bC,())) (fun (du,aR,_)=>((er.mk du aR):er)) (fun _=>rfl) (fun _=>rfl) Tryz.t48 rfl Tryz.type48 rfl rfl rfl rfl rfl
noncomputable def arJ:dI Tryz.prog G 23:=gl [.ad 48] (fun (x:(List er))=>(x,())) (fun (du,_)=>(du:(List er))) (fun _=>rfl) (fun _=>rfl) Tryz.t23 rfl Tryz.type23 rfl rfl rfl rfl rfl
noncomputable def arK:dI Tryz.prog G 24:=gl [.ad 9] (fun (x:(List (List UInt8)))=>(x,())) (fun (du,_)=>(du:(List (List UInt8)))) (fun _=>rfl) (fun _=>rfl) Tryz.t24 rfl Tryz.type24 rfl rfl rfl rfl rfl
noncomputable def arL:dI Tryz.prog G 26:=gl [.str, .int .i64, .ad 9] (fun (x:bX)=>(x.name,x.bC,x.cw,())) (fun (du,aR,a2,_)=>((bX.mk du aR a2):bX)) (fun _=>rfl) (fun _=>rfl) Tryz.t26 rfl Tryz.type26 rfl rfl rfl rfl rfl
noncomputable def arM:dI Tryz.prog G 27:=gl [.ad 5] (fun (x:(List UInt8))=>(x,())) (fun (du,_)=>(du:(List UInt8))) (fun _=>rfl) (fun _=>rfl) Tryz.t27 rfl Tryz.type27 rfl rfl rfl rfl rfl
noncomputable def arN:dI Tryz.prog G 29:=gl [.int .i64, .int .i64, .int .i64, .int .i64, .int .i64, .ad 3, .ad 48, .str, .int .i64, .ad 9, .str, .ad 5] (fun (x:bj)=>(x.kind,x.bC,x.to,x.count,x.cE,x.aP,x.cQ,x.order.name,x.order.bC,x.order.cw,x.name,x.data,())) (fun (du,aR,a2,a6,bk,bq,bx,bM,b1,cg,ca,cx,_)=>((bj.mk du aR a2 a6 bk bq bx (bX.mk bM b1 cg) ca cx):bj)) (fun _=>rfl) (fun _=>rfl) Tryz.t29 rfl Tryz.type29 rfl rfl rfl rfl rfl
noncomputable def arZ:dI Tryz.prog G 64:=gl [.str, .int .i64] (fun (x:hS)=>(x.name,x.length,())) (fun (du,aR,_)=>((hS.mk du aR):hS)) (fun _=>rfl) (fun _=>rfl) Tryz.t64 rfl Tryz.type64 rfl rfl rfl rfl rfl
noncomputable def arP:dI Tryz.prog G 32:=gl [.ad 64] (fun (x:(List hS))=>(x,())) (fun (du,_)=>(du:(List hS))) (fun _=>rfl) (fun _=>rfl) Tryz.t32 rfl Tryz.type32 rfl rfl rfl rfl rfl
noncomputable def ahG:dI Tryz.prog G 117:=gl [.int .i64, .int .i64, .int .i64, .int .i64, .int .i64] (fun (x:ep)=>(x.number,x.kind,x.a,x.b,x.c,())) (fun (du,aR,a2,a6,bk,_)=>((ep.mk du aR a2 a6 bk):ep)) (fun _=>rfl) (fun _=>rfl) Tryz.t117 rfl Tryz.type117 rfl rfl rfl rfl rfl
noncomputable def arQ:dI Tryz.prog G 33:=gl [.ad 117] (fun (x:(List ep))=>(x,())) (fun (du,_)=>(du:(List ep))) (fun _=>rfl) (fun _=>rfl) Tryz.t33 rfl Tryz.type33 rfl rfl rfl rfl rfl
noncomputable def arY:dI Tryz.prog G 61:=gl [.int .i64, .int .i64, .int .i64] (fun (x:gw)=>(x.speed,x.kR,x.kV,())) (fun (du,aR,a2,_)=>((gw.mk du aR a2):gw)) (fun _=>rfl) (fun _=>rfl) Tryz.t61 rfl Tryz.type61 rfl rfl rfl rfl rfl
noncomputable def arR:dI Tryz.prog G 34:=gl [.ad 61] (fun (x:(List gw))=>(x,())) (fun (du,_)=>(du:(List gw))) (fun _=>rfl) (fun _=>rfl) Tryz.t34 rfl Tryz.type34 rfl rfl rfl rfl rfl
noncomputable def arS:dI Tryz.prog G 36:=gl [.ad 64, .ad 117, .ad 61, .int .i64, .int .i64] (fun (x:dx)=>(x.aP,x.rules,x.table,x.speed,x.kR,())) (fun (du,aR,a2,a6,bk,_)=>((dx.mk du aR a2 a6 bk):dx)) (fun _=>rfl) (fun _=>rfl) Tryz.t36 rfl Tryz.type36 rfl rfl rfl rfl rfl
noncomputable def arU:dI Tryz.prog G 40:=gl [.int .i64] (fun (x:Int)=>(x,())) (fun (du,_)=>(du:Int)) (fun _=>rfl) (fun _=>rfl) Tryz.t40 rfl Tryz.type40 rfl rfl rfl rfl rfl
noncomputable def arX:dI Tryz.prog G 59:=gl [.ad 3, .int .i64] (fun (x:cA)=>(x.l,x.n,())) (fun (du,aR,_)=>((cA.mk du aR):cA)) (fun _=>rfl) (fun _=>rfl) Tryz.t59 rfl Tryz.type59 rfl rfl rfl rfl rfl
noncomputable def ahH:dI Tryz.prog G 122:=gl [.str, .int .i64, .int .i64, .int .i64, .int .i64, .int .i64, .bool, .str] (fun (x:cb)=>(x.number,x.length,x.jM,x.h0,x.pb,x.mb,x.ui,x.dest,())) (fun (du,aR,a2,a6,bk,bq,bx,bM,_)=>((cb.mk du aR a2 a6 bk bq bx bM):cb)) (fun _=>rfl) (fun _=>rfl) Tryz.t122 rfl Tryz.type122 rfl rfl rfl rfl rfl
noncomputable def ar0:dI Tryz.prog G 67:=gl [.ad 122] (fun (x:(List cb))=>(x,())) (fun (du,_)=>(du:(List cb))) (fun _=>rfl) (fun _=>rfl) Tryz.t67 rfl Tryz.type67 rfl rfl rfl rfl rfl
noncomputable def ar1:dI Tryz.prog G 68:=gl [.ad 22] (fun (x:(List (List Int)))=>(x,())) (fun (du,_)=>(du:(List (List Int)))) (fun _=>rfl) (fun _=>rfl) Tryz.t68 rfl Tryz.type68 rfl rfl rfl rfl rfl
noncomputable def ar2:dI Tryz.prog G 69:=gl [.ad 26] (fun (x:(List bX))=>(x,())) (fun (du,_)=>(du:(List bX))) (fun _=>rfl) (fun _=>rfl) Tryz.t69 rfl Tryz.type69 rfl rfl rfl rfl rfl
noncomputable def ahK:dI Tryz.prog G 162:=gl [.int .i64, .int .i64, .int .i64, .int .i64] (fun (x:e3)=>(x.fC,x.block,x.round,x.length,())) (fun (du,aR,a2,a6,_)=>((e3.mk du aR a2 a6):e3)) (fun _=>rfl) (fun _=>rfl) Tryz.t162 rfl Tryz.type162 rfl rfl rfl rfl rfl
noncomputable def ar3:dI Tryz.prog G 70:=gl [.ad 162] (fun (x:(List e3))=>(x,())) (fun (du,_)=>(du:(List e3))) (fun _=>rfl) (fun _=>rfl) Tryz.t70 rfl Tryz.type70 rfl rfl rfl rfl rfl
noncomputable def ar4:dI Tryz.prog G 72:=gl [.ad 162, .int .i64] (fun (x:cV)=>(x.items,x.cE,())) (fun (du,aR,_)=>((cV.mk du aR):cV)) (fun _=>rfl) (fun _=>rfl) Tryz.t72 rfl Tryz.type72 rfl rfl rfl rfl rfl
noncomputable def ar5:dI Tryz.prog G 74:=gl [.int .i64, .ad 3] (fun (x:e4)=>(x.steps,x.hV,())) (fun (du,aR,_)=>((e4.mk du aR):e4)) (fun _=>rfl) (fun _=>rfl) Tryz.t74 rfl Tryz.type74 rfl rfl rfl rfl rfl
noncomputable def ar6:dI Tryz.prog G 76:=gl [.int .i64, .ad 3, .ad 3] (fun (x:g7)=>(x.fJ.steps,x.fJ.hV,x.chain,())) (fun (du,aR,a2,_)=>((g7.mk (e4.mk du aR) a2):g7)) (fun _=>rfl) (fun _=>rfl) Tryz.t76 rfl Tryz.type76 rfl rfl rfl rfl rfl
noncomputable def ar7:dI Tryz.prog G 78:=gl [.ad 3, .ad 162, .int .i64, .int .i64, .ad 3, .ad 3, .int .i64, .ad 3, .int .i64] (fun (x:gi)=>(x.cv,x.ir.items,x.ir.cE,x.proof.fJ.steps,x.proof.fJ.hV,x.proof.chain,x.lead,x.aP,x.iW,())) (fun (du,aR,a2,a6,bk,bq,bx,bM,b1,_)=>((gi.mk du (cV.mk aR a2) (g7.mk (e4.mk a6 bk) bq) bx bM b1):gi)) (fun _=>rfl) (fun _=>rfl) Tryz.t78 rfl Tryz.type78 rfl rfl rfl rfl rfl
noncomputable def ar8:dI Tryz.prog G 80:=gl [.ad 122, .ad 22, .ad 26, .bool, .ad 3, .ad 162, .int .i64, .int .i64, .ad 3, .ad 3, .int .i64, .ad 3, .int .i64, .bool] (fun (x:bN)=>(x.cv,x.aP,x.cH,x.busy,x.bJ.cv,x.bJ.ir.items,x.bJ.ir.cE,x.bJ.proof.fJ.steps,x.bJ.proof.fJ.hV,x.bJ.proof.chain,x.bJ.lead,x.bJ.aP,x.bJ.iW,x.dF,())) (fun (du,aR,a2,a6,bk,bq,bx,bM,b1,cg,ca,cx,cK,dd,_)=>((bN.mk du aR a2 a6 (gi.mk bk (cV.mk bq bx) (g7.mk (e4.mk bM b1) cg) ca cx cK) dd):bN)) (fun _=>rfl) (fun _=>rfl) Tryz.t80 rfl Tryz.type80 rfl rfl rfl rfl rfl
noncomputable def afx:List iN:=[.int .i64, .int .i64, .int .i64, .int .i64, .int .i64, .ad 3, .ad 48, .str, .int .i64, .ad 9, .str, .ad 5, .int .i64, .int .i64, .int .i64, .int .i64, .int .i64, .ad 3, .ad 48, .str, .int .i64, .ad 9, .str, .ad 5, .int .i64, .int .i64, .int .i64, .int .i64, .int .i64, .ad 3, .ad 48, .str, .int .i64, .ad 9, .str, .ad 5]
noncomputable def ar9:dI Tryz.prog G 84:=gl afx (fun (x:yg)=>(x.gH.kind,x.gH.bC,x.gH.to,x.gH.count,x.gH.cE,x.gH.aP,x.gH.cQ,x.gH.order.name,x.gH.order.bC,x.gH.order.cw,x.gH.name,x.gH.data,x.cz.kind,x.cz.bC,x.cz.to,x.cz.count,x.cz.cE,x.cz.aP,x.cz.cQ,x.cz.order.name,x.cz.order.bC,x.cz.order.cw,x.cz.name,x.cz.data,x.dw.kind,x.dw.bC,x.dw.to,x.dw.count,x.dw.cE,x.dw.aP,x.dw.cQ,x.dw.order.name,x.dw.order.bC,x.dw.order.cw,x.dw.name,x.dw.data,())) (fun (du,aR,a2,a6,bk,bq,bx,bM,b1,cg,ca,cx,cK,dd,dg,dm,dv,c0,cy,dR,eI,fl,dT,e1,fP,fs,fQ,fX,gO,gf,hH,gP,jc,iD,jq,hI,_)=>((yg.mk (bj.mk du aR a2 a6 bk bq bx (bX.mk bM b1 cg) ca cx) (bj.mk cK dd dg dm dv c0 cy (bX.mk dR eI fl) dT e1) (bj.mk fP fs fQ fX gO gf hH (bX.mk gP jc iD) jq hI)):yg)) (fun _=>rfl) (fun _=>rfl) Tryz.t84 rfl Tryz.type84 rfl rfl rfl rfl rfl
noncomputable def ahN:dI Tryz.prog G 182:=gl [.int .i64, .int .i64, .int .i64, .bool] (fun (x:dj)=>(x.oV,x.from_,x.to,x.front,())) (fun (du,aR,a2,a6,_)=>((dj.mk du aR a2 a6):dj)) (fun _=>rfl) (fun _=>rfl) Tryz.t182 rfl Tryz.type182 rfl rfl rfl rfl rfl
noncomputable def ar':dI Tryz.prog G 85:=gl [.ad 182] (fun (x:(List dj))=>(x,())) (fun (du,_)=>(du:(List dj))) (fun _=>rfl) (fun _=>rfl) Tryz.t85 rfl Tryz.type85 rfl rfl rfl rfl rfl
noncomputable def ahM:dI Tryz.prog G 175:=gl [.int .i64, .int .i64, .int .i64, .int .i64] (fun (x:da)=>(x.item,x.reason,x.kO,x.round,())) (fun (du,aR,a2,a6,_)=>((da.mk du aR a2 a6):da)) (fun _=>rfl) (fun _=>rfl) Tryz.t175 rfl Tryz.type175 rfl rfl rfl rfl rfl
noncomputable def asa:dI Tryz.prog G 86:=gl [.ad 175] (fun (x:(List da))=>(x,())) (fun (du,_)=>(du:(List da))) (fun _=>rfl) (fun _=>rfl) Tryz.t86 rfl Tryz.type86 rfl rfl rfl rfl rfl
noncomputable def asb:dI Tryz.prog G 88:=gl [.int .i64, .int .i64, .int .i64, .int .i64, .int .i64, .int .i64, .int .i64] (fun (x:fz)=>(x.length,x.jM,x.h0,x.m8,x.kV,x.required,x.oI,())) (fun (du,aR,a2,a6,bk,bq,bx,_)=>((fz.mk du aR a2 a6 bk bq bx):fz)) (fun _=>rfl) (fun _=>rfl) Tryz.t88 rfl Tryz.type88 rfl rfl rfl rfl rfl
noncomputable def ahP:dI Tryz.prog G 251:=gl [.int .i64, .int .i64, .int .i64] (fun (x:jB)=>(x.stop,x.cv,x.UK,())) (fun (du,aR,a2,_)=>((jB.mk du aR a2):jB)) (fun _=>rfl) (fun _=>rfl) Tryz.t251 rfl Tryz.type251 rfl rfl rfl rfl rfl
noncomputable def asc:dI Tryz.prog G 89:=gl [.ad 251] (fun (x:(List jB))=>(x,())) (fun (du,_)=>(du:(List jB))) (fun _=>rfl) (fun _=>rfl) Tryz.t89 rfl Tryz.type89 rfl rfl rfl rfl rfl
noncomputable def ase:dI Tryz.prog G 91:=gl [.str, .ad 122, .int .i64, .int .i64, .int .i64, .int .i64, .int .i64, .int .i64, .int .i64, .ad 251] (fun (x:js)=>(x.name,x.cv,x.gy.length,x.gy.jM,x.gy.h0,x.gy.m8,x.gy.kV,x.gy.required,x.gy.oI,x.xG,())) (fun (du,aR,a2,a6,bk,bq,bx,bM,b1,cg,_)=>((js.mk du aR (fz.mk a2 a6 bk bq bx bM b1) cg):js)) (fun _=>rfl) (fun _=>rfl) Tryz.t91 rfl Tryz.type91 rfl rfl rfl rfl rfl
noncomputable def asf:dI Tryz.prog G 93:=gl [.int .i64, .ad 182, .int .i64, .ad 3, .ad 3, .ad 175, .str, .ad 122, .int .i64, .int .i64, .int .i64, .int .i64, .int .i64, .int .i64, .int .i64, .ad 251, .int .i64, .int .i64] (fun (x:ef)=>(x.err,x.vJ,x.proof.fJ.steps,x.proof.fJ.hV,x.proof.chain,x.gk,x.final.name,x.final.cv,x.final.gy.length,x.final.gy.jM,x.final.gy.h0,x.final.gy.m8,x.final.gy.kV,x.final.gy.required,x.final.gy.oI,x.final.xG,x.ey,x.place,())) (fun (du,aR,a2,a6,bk,bq,bx,bM,b1,cg,ca,cx,cK,dd,dg,dm,dv,c0,_)=>((ef.mk du aR (g7.mk (e4.mk a2 a6) bk) bq (js.mk bx bM (fz.mk b1 cg ca cx cK dd dg) dm) dv c0):ef)) (fun _=>rfl) (fun _=>rfl) Tryz.t93 rfl Tryz.type93 rfl rfl rfl rfl rfl
noncomputable def ahF:dI Tryz.prog G 105:=gl [.ad 5, .bool] (fun (x:cF)=>(x.b,x.bad,())) (fun (du,aR,_)=>((cF.mk du aR):cF)) (fun _=>rfl) (fun _=>rfl) Tryz.t105 rfl Tryz.type105 rfl rfl rfl rfl rfl
noncomputable def af9:List iN:=[.ad 64, .ad 117, .ad 61, .int .i64, .int .i64, .ad 122, .ad 22, .ad 26, .bool, .ad 3, .ad 162, .int .i64, .int .i64, .ad 3, .ad 3, .int .i64, .ad 3, .int .i64, .bool, .int .i64, .int .i64, .int .i64, .int .i64, .int .i64, .ad 3, .ad 48, .str, .int .i64, .ad 9, .str, .ad 5, .int .i64, .ad 182, .int .i64, .ad 3, .ad 3, .ad 175, .str, .ad 122, .int .i64, .int .i64, .int .i64, .int .i64, .int .i64, .int .i64, .int .i64, .ad 251, .int .i64, .int .i64]
noncomputable def ahI:dI Tryz.prog G 132:=gl af9 (fun (x:bw)=>(x.c.aP,x.c.rules,x.c.table,x.c.speed,x.c.kR,x.y.cv,x.y.aP,x.y.cH,x.y.busy,x.y.bJ.cv,x.y.bJ.ir.items,x.y.bJ.ir.cE,x.y.bJ.proof.fJ.steps,x.y.bJ.proof.fJ.hV,x.y.bJ.proof.chain,x.y.bJ.lead,x.y.bJ.aP,x.y.bJ.iW,x.y.dF,x.e.kind,x.e.bC,x.e.to,x.e.count,x.e.cE,x.e.aP,x.e.cQ,x.e.order.name,x.e.order.bC,x.e.order.cw,x.e.name,x.e.data,x.r.err,x.r.vJ,x.r.proof.fJ.steps,x.r.proof.fJ.hV,x.r.proof.chain,x.r.gk,x.r.final.name,x.r.final.cv,x.r.final.gy.length,x.r.final.gy.jM,x.r.final.gy.h0,x.r.final.gy.m8,x.r.final.gy.kV,x.r.final.gy.required,x.r.final.gy.oI,x.r.final.xG,x.r.ey,x.r.place,())) (fun (du,aR,a2,a6,bk,bq,bx,bM,b1,cg,ca,cx,cK,dd,dg,dm,dv,c0,cy,dR,eI,fl,dT,e1,fP,fs,fQ,fX,gO,gf,hH,gP,jc,iD,jq,hI,jd,gg,j4,jA,mu,h4,ll,fg,ln,oc,qR,lo,r9,_)=>((bw.mk (dx.mk du aR a2 a6 bk) (bN.mk bq bx bM b1 (gi.mk cg (cV.mk ca cx) (g7.mk (e4.mk cK dd) dg) dm dv c0) cy) (bj.mk dR eI fl dT e1 fP fs (bX.mk fQ fX gO) gf hH) (ef.mk gP jc (g7.mk (e4.mk iD jq) hI) jd (js.mk gg j4 (fz.mk jA mu h4 ll fg ln oc) qR) lo r9)):bw)) (fun _=>rfl) (fun _=>rfl) Tryz.t132 rfl Tryz.type132 rfl rfl rfl rfl rfl
noncomputable def ahJ:dI Tryz.prog G 137:=gl [.ad 5, .int .i64, .bool] (fun (x:eO)=>(x.b,x.at_,x.short,())) (fun (du,aR,a2,_)=>((eO.mk du aR a2):eO)) (fun _=>rfl) (fun _=>rfl) Tryz.t137 rfl Tryz.type137 rfl rfl rfl rfl rfl
noncomputable def ahL:dI Tryz.prog G 169:=gl [.ad 162, .ad 3, .ad 22] (fun (x:cS)=>(x.items,x.homes,x.aP,())) (fun (du,aR,a2,_)=>((cS.mk du aR a2):cS)) (fun _=>rfl) (fun _=>rfl) Tryz.t169 rfl Tryz.type169 rfl rfl rfl rfl rfl
noncomputable def ahO:dI Tryz.prog G 240:=gl [.int .i64, .int .i64] (fun (x:eG)=>(x.bC,x.place,())) (fun (du,aR,_)=>((eG.mk du aR):eG)) (fun _=>rfl) (fun _=>rfl) Tryz.t240 rfl Tryz.type240 rfl rfl rfl rfl rfl
noncomputable def aiC:Me Tryz.prog G 48:=aiI [.int .i64, .int .i64] (fun (x:er)=>(x.place,x.bC,())) (fun (du,aR,_)=>((er.mk du aR):er)) (fun _=>rfl) _ (fun (x y:er)=>decide (x=y)) rfl (fun (x y:er)=>decide_eq_true_iff) Tryz.underlying48 (by kernel_rfl) (by kernel_rfl) (by kernel_rfl)
noncomputable def acb:Rs Tryz.prog G 5:=⟨fun xs=>xs,fun xs=>xs,fun _ _ _ h=>h,fun _ _ _ _ _ _ h=>h,fun _ _ _ _ _ _ h=>h,Tryz.t5,Tryz.underlying5,Tryz.type5,rfl,fun _ _ _ _ h=>h⟩
noncomputable def aqo:tQ Tryz.prog G 22 3:=⟨fun xs=>xs,rfl,rfl,fun _ _ _ h=>⟨h,trivial⟩,Tryz.t22,Tryz.type22,rfl,rfl,rfl,Tryz.underlying22,rfl⟩
noncomputable def bA:ez Tryz.prog D where
 G:=G
 I:=fun t=>match t with|3=>au6 arO|4=>au6 arT|5=>au6 arW|9=>au6 asd|22=>au6 arI|48=>au6 arV|23=>au6 arJ|24=>au6 arK|26=>au6 arL|27=>au6 arM|29=>au6 arN|64=>au6 arZ|32=>au6 arP|117=>au6 ahG|33=>au6 arQ|61=>au6 arY|34=>au6 arR|36=>au6 arS|40=>au6 arU|59=>au6 arX|122=>au6 ahH|67=>au6 ar0|68=>au6 ar1|69=>au6 ar2|162=>au6 ahK|70=>au6 ar3|72=>au6 ar4|74=>au6 ar5|76=>au6 ar6|78=>au6 ar7|80=>au6 ar8|84=>au6 ar9|182=>au6 ahN|85=>au6 ar'|175=>au6 ahM|86=>au6 asa|88=>au6 asb|251=>au6 ahP|89=>au6 asc|91=>au6 ase|93=>au6 asf|105=>au6 ahF|132=>au6 ahI|137=>au6 ahJ|169=>au6 ahL|240=>au6 ahO|_=>au8
 A:=fun _=>au8
 L7:=fun _ _=>au8
 B:=fun t=>match t with|5=>au6 acb|_=>au8
 Q:=fun t=>match t with|48=>au6 aiC|_=>au8
 N:=fun e t=>match e,t with|22,3=>au6 aqo|_,_=>au8
 UI:=au6 ⟨0,by kernel_rfl⟩
 F:=fun _ _ _=>ava
 C:=fun _ _ _ _ _=>au8
noncomputable def _root_.Go.av.bV.u {P:avd} {D:Nat->Type} {bA:ez P D} (T:bV bA) (fn:Func):dB T.a8 (hO fn):=dB.nil
noncomputable def tV (N:Nat):bV bA:=bV.nil
noncomputable def RH (N:Nat):bV bA:=(tV N).ch ⟨5,1,[.v 0 (.ad 3)],[],au8,0,[.o 2 (.box 59)],[(2, .box 0 0)],[.tmp 2],ava⟩ (fun r x=>LY N x.1) (((tV N).u Tryz.f5).fn Tryz.func5)
noncomputable def SG (N:Nat):bV bA:=(RH N).ch ⟨10,2,[.v 1 (.int .i64)],[],au6 (0,59),2,[.v 4 (.int .i64), .u 0 (.recv 59)],[],[.tmp 4],ava⟩ (fun r x=>eW N r x.1) (((((RH N).u Tryz.f10).aL ⟨[1,1,0,1],[.o 0 (.recv 59), .v 5 (.int .i64), .v 11 .bool],[(0, .box 0 0)],[1],[⟨.normal,[.v 5 (.int .i64)],[]⟩],[0,1]⟩ fun x=>Ij N x.1 x.2.1 x.2.2.1).aL ⟨[1,1,1,1,1,0,1],[.o 0 (.recv 59), .v 1 (.int .i64), .v 5 (.int .i64), .v 51 .bool],[(0, .box 0 0)],[1],[⟨.normal,[.v 5 (.int .i64)],[]⟩],[0]⟩ fun x=>Ik N x.2.1 x.2.2.1 x.2.2.2.1).fn Tryz.func10)
noncomputable def SR (N:Nat):bV bA:=(SG N).ch ⟨11,2,[.v 1 (.ad 3)],[],au6 (0,59),2,[.v 4 (.int .i64), .u 0 (.recv 59)],[],[.tmp 4],ava⟩ (fun r x=>h5 N r x.1) (((SG N).u Tryz.f11).fn Tryz.func11)
noncomputable def S3 (N:Nat):bV bA:=(SR N).ch ⟨21,1,[.v 0 (.int .i64)],[],au8,0,[.v 2 .str],[],[.tmp 2],au7⟩ (fun r x=>K6 N x.1) (((SR N).u Tryz.f21).fn Tryz.func21)
noncomputable def Td (N:Nat):bV bA:=(S3 N).ch ⟨22,1,[],[],au6 (0,59),2,[.o 2 (.ad 61), .u 0 (.recv 59)],[(2, .c (.own 1))],[.tmp 2],ava⟩ (fun r x=>KW N r) ((((S3 N).u Tryz.f22).b5 N ⟨[1,1,0,1,0],[.o 0 (.recv 59), .o 3 (.ad 61), .v 4 (.int .i64)],[(0, .box 0 0),(3, .c (.own 1))],[2,0],[⟨.exit 0,[.u 0 (.recv 59), .o 3 (.ad 61)],[(3, .c (.own 2))]⟩],[0]⟩ fun n x=>Bt N n x.1 x.2.1 x.2.2.1).fn Tryz.func22)
noncomputable def Tn (N:Nat):bV bA:=(Td N).ch ⟨44,2,[.v 1 (.int .i64)],[],au6 (0,59),2,[.v 1000000 (.agg 117), .u 0 (.recv 59)],[],[.cell 4 117],ava⟩ (fun r x=>K4 N r x.1) ((((Td N).u Tryz.f44).aL ⟨[1,1,0,1],[.o 0 (.recv 59), .o 4 (.box 117), .o 5 (.box 117), .v 12 (.int .i64)],[(0, .box 0 0),(4, .box 1 0),(5, .box 2 0)],[2,1,2],[⟨.normal,[.u 0 (.recv 59), .u 2 (.box 117)],[]⟩],[0,4,5]⟩ fun x=>IM N x.1 x.2.2.1 x.2.2.2.1).fn Tryz.func44)
noncomputable def Ty (N:Nat):bV bA:=(Tn N).ch ⟨23,2,[.v 1 (.int .i64)],[],au6 (0,59),2,[.o 4 (.ad 117), .u 0 (.recv 59)],[(4, .c (.own 1))],[.tmp 4],ava⟩ (fun r x=>KV N r x.1) ((((Tn N).u Tryz.f23).b5 N ⟨[1,1,0,1,0],[.o 0 (.recv 59), .o 5 (.ad 117), .v 6 (.int .i64)],[(0, .box 0 0),(5, .c (.own 1))],[2,0],[⟨.exit 0,[.u 0 (.recv 59), .o 5 (.ad 117)],[(5, .c (.own 2))]⟩],[0]⟩ fun n x=>Bs N n x.1 x.2.1 x.2.2.1).fn Tryz.func23)
noncomputable def TF (N:Nat):bV bA:=(Ty N).ch ⟨6,2,[.v 1 .bool],[],au6 (0,59),2,[.v 1000000 (.agg 36), .u 0 (.recv 59)],[],[.cell 4 36],ava⟩ (fun r x=>KI N r x.1) ((((((Ty N).u Tryz.f6).b5 N ⟨[1,1,0,1,0],[.o 0 (.recv 59), .o 4 (.box 36), .o 5 (.bG 36 [(0,3),(2,4)]), .v 6 (.int .i64), .o 2005000 (.ad 64), .o 2005002 (.ad 61)],[(0, .box 0 0),(4, .box 1 0),(5, .box 2 0)],[2,1,2,0,1],[⟨.exit 0,[.u 0 (.recv 59), .u 2 (.bG 36 [(0,5),(2,4)]), .o 2005000 (.ad 64)],[]⟩],[0,1,4,5]⟩ fun n x=>AF N n x.1 x.2.2.1 x.2.2.2.1 x.2.2.2.2.1).aL ⟨[1,1,1,1,0,0],[.o 0 (.recv 59), .v 1 .bool, .o 4 (.box 36), .o 5 (.bG 36 [(0,3),(2,4)]), .o 2005000 (.ad 64), .o 2005002 (.ad 61)],[(0, .box 0 0),(4, .box 1 0),(5, .box 2 0)],[2,1,1,1,1],[⟨.normal,[.u 0 (.recv 59), .v 51 .bool],[]⟩],[0,4,5]⟩ fun x=>HF N x.1 x.2.1).aL ⟨[1,1,1,1,0,1],[.o 0 (.recv 59), .o 4 (.box 36), .o 5 (.bG 36 [(0,3),(2,4)]), .v 51 .bool, .o 2005000 (.ad 64), .o 2005002 (.ad 61)],[(0, .box 0 0),(4, .box 1 0),(5, .box 2 0)],[2,1,2,0,0],[⟨.normal,[.u 0 (.recv 59), .u 2 (.bG 36 [(0,5),(2,6)]), .o 2005000 (.ad 64), .o 2005002 (.ad 61)],[]⟩],[0,4,5]⟩ fun x=>HG N x.1 x.2.2.1 x.2.2.2.1 x.2.2.2.2.1 x.2.2.2.2.2.1).fn Tryz.func6)
noncomputable def TQ (N:Nat):bV bA:=(TF N).ch ⟨71,1,[.v 0 .str],[],au8,0,[.v 2 .bool],[],[.tmp 2],au7⟩ (fun r x=>v0 N x.1) ((((((TF N).u Tryz.f71).aL ⟨[1,0,1,0,0,1,0,0,0],[.v 0 .str, .v 3 (.int .i64)],[],[],[⟨.normal,[.v 32 .bool],[]⟩],[0,3]⟩ fun x=>Jn N x.1 x.2.1).b5 N ⟨[1,0,1,0],[.v 0 .str, .v 3 (.int .i64)],[],[],[⟨.exit 0,[],[]⟩,⟨.ret,[.v 2 .bool],[]⟩],[0]⟩ fun n x=>BZ N x.1 n x.2.1).aL ⟨[1,1,0],[.v 0 .str],[],[],[⟨.normal,[.v 2 .bool],[]⟩],[]⟩ fun x=>Jo N x.1).fn Tryz.func71)
noncomputable def RI (N:Nat):bV bA:=(TQ N).ch ⟨107,1,[.v 0 (.agg 117)],[],au8,0,[.v 2 .bool],[],[.tmp 2],au7⟩ (fun r x=>LF N x.1) (((((TQ N).u Tryz.f107).aL ⟨[1,0,0],[.o 1 (.box 117)],[(1, .box 0 0)],[1],[⟨.normal,[.v 20 .bool],[]⟩],[1]⟩ fun x=>JZ N x.1).aL ⟨[1,1,0],[.o 1 (.box 117)],[(1, .box 0 0)],[1],[⟨.normal,[.v 2 .bool],[]⟩],[]⟩ fun x=>J0 N x.1).fn Tryz.func107)
noncomputable def RP (N:Nat):bV bA:=(RI N).ch ⟨72,1,[.v 0 (.ad 117)],[],au8,0,[.v 2 (.int .i64)],[],[.tmp 2],au7⟩ (fun r x=>Dx N x.1) (((((RI N).u Tryz.f72).b5 N ⟨[1,1,0,1,0,0,1,0,0,1,1,0],[.v 0 (.ad 117), .v 3 (.int .i64), .v 4 (.int .i64)],[],[],[⟨.exit 2,[],[]⟩,⟨.ret,[.v 2 (.int .i64)],[]⟩],[0,3]⟩ fun n x=>CC N x.1 x.2.1 n x.2.2.1).b5 N ⟨[1,1,0,1,0],[.v 0 (.ad 117), .v 3 (.int .i64)],[],[],[⟨.exit 0,[],[]⟩,⟨.ret,[.v 2 (.int .i64)],[]⟩],[]⟩ fun n x=>CB N x.1 n x.2.1).fn Tryz.func72)
noncomputable def R0 (N:Nat):bV bA:=(RP N).ch ⟨73,1,[.v 0 (.ad 61)],[],au8,0,[.v 2 .bool],[],[.tmp 2],au7⟩ (fun r x=>Dd N x.1) (((((RP N).u Tryz.f73).aL ⟨[1,1,0,1,0,0,1,0,0,0],[.v 0 (.ad 61), .v 3 (.int .i64)],[],[],[⟨.normal,[.v 58 .bool],[]⟩],[0,3]⟩ fun x=>HC N x.1 x.2.1).b5 N ⟨[1,1,0,1,0],[.v 0 (.ad 61), .v 3 (.int .i64)],[],[],[⟨.exit 0,[],[]⟩,⟨.ret,[.v 2 .bool],[]⟩],[]⟩ fun n x=>AD N x.1 n x.2.1).fn Tryz.func73)
noncomputable def R9 (N:Nat):bV bA:=(R0 N).ch ⟨45,1,[.v 0 (.agg 36)],[],au8,0,[.v 2 (.int .i64)],[],[.tmp 2],au7⟩ (fun r x=>Dc N x.1) (((((((((R0 N).u Tryz.f45).aL ⟨[1,0],[.o 1 (.box 36)],[(1, .box 0 0)],[1],[⟨.normal,[.v 3 .bool],[]⟩],[1]⟩ fun x=>Hx N x.1).aL ⟨[1,1,0,1,0,0,0,0],[.o 1 (.box 36), .v 3 .bool, .v 4 (.int .i64)],[(1, .box 0 0)],[1],[⟨.normal,[.v 44 .bool],[]⟩],[1,3,4]⟩ fun x=>Hy N x.1 x.2.1 x.2.2.1).aL ⟨[1,1,0,1,0,0,1,0,0,0],[.o 1 (.box 36), .v 4 (.int .i64)],[(1, .box 0 0)],[1],[⟨.normal,[.v 3 .bool],[]⟩],[1,4]⟩ fun x=>Hz N x.1 x.2.1).aL ⟨[1,1,0,1,0,0,1,0,0,1,1,0,0,1,0,0],[.o 1 (.box 36), .v 3 .bool, .v 4 (.int .i64), .v 5 (.int .i64)],[(1, .box 0 0)],[1],[⟨.normal,[.v 3 .bool],[]⟩],[1,4,5]⟩ fun x=>HA N x.1 x.2.1 x.2.2.1 x.2.2.2.1).b5 N ⟨[1,1,0,1,0,0,1,0,0,1,1,0],[.o 1 (.box 36), .v 3 .bool, .v 4 (.int .i64), .v 5 (.int .i64)],[(1, .box 0 0)],[1],[⟨.exit 2,[.v 3 .bool],[]⟩],[1,4]⟩ fun n x=>AB N x.1 x.2.2.1 n x.2.1 x.2.2.2.1).b5 N ⟨[1,1,0,1,0],[.o 1 (.box 36), .v 3 .bool, .v 4 (.int .i64)],[(1, .box 0 0)],[1],[⟨.exit 0,[.v 3 .bool],[]⟩],[1]⟩ fun n x=>AA N x.1 n x.2.1 x.2.2.1).fn Tryz.func45)
noncomputable def Sk (N:Nat):bV bA:=(R9 N).ch ⟨24,1,[.v 0 (.agg 36)],[],au8,0,[.v 1000000 (.agg 80), .v 3 (.int .i64)],[],[.cell 2 80, .tmp 3],ava⟩ (fun r x=>L1 N x.1) ((((R9 N).u Tryz.f24).b5 N ⟨[1,1,1,0,1,0],[.o 1 (.box 36), .o 2 (.box 80), .o 5 (.bG 80 [(1,3)]), .v 6 (.int .i64), .o 2005001 (.ad 22)],[(1, .box 0 0),(2, .box 1 0),(5, .box 2 0)],[1,1,2,0],[⟨.exit 0,[.u 2 (.bG 80 [(1,4)]), .o 2005001 (.ad 22)],[]⟩],[2,5]⟩ fun n x=>CK N x.1 n x.2.2.1 x.2.2.2.1 x.2.2.2.2.1).fn Tryz.func24)
noncomputable def Ss (N:Nat):bV bA:=(Sk N).ch ⟨46,1,[.v 0 (.agg 80)],[],au8,0,[.o 2 (.ad 3)],[(2, .c (.own 0))],[.tmp 2],ava⟩ (fun r x=>K5 N x.1) ((((((((Sk N).u Tryz.f46).aL ⟨[1,1,0,1,0,0,1,0,0,1,0,1,0,0,1,0,0],[.o 1 (.box 80), .o 3 (.ad 3), .o 4 (.ad 3), .v 5 (.int .i64), .v 6 .bool, .v 7 (.int .i64)],[(1, .box 0 0),(3, .c (.own 1)),(4, .c (.own 2))],[1,1,1],[⟨.normal,[.v 6 .bool],[]⟩],[1,3,4,5,7]⟩ fun x=>IP N x.1 x.2.2.2.1 x.2.2.2.2.1 x.2.2.2.2.2.1).b5 N ⟨[1,1,0,1,0,0,1,0,0,1,0,1,0],[.o 1 (.box 80), .o 3 (.ad 3), .o 4 (.ad 3), .v 5 (.int .i64), .v 6 .bool, .v 7 (.int .i64)],[(1, .box 0 0),(3, .c (.own 1)),(4, .c (.own 2))],[1,1,1],[⟨.exit 2,[.v 6 .bool],[]⟩],[1,3,4,5]⟩ fun n x=>By N x.1 x.2.2.2.1 n x.2.2.2.2.1 x.2.2.2.2.2.1).aL ⟨[1,1,0,1,0,0,1,0,0,1,1,0],[.o 1 (.box 80), .o 3 (.ad 3), .o 4 (.ad 3), .v 5 (.int .i64), .v 6 .bool],[(1, .box 0 0),(3, .c (.own 1)),(4, .c (.own 2))],[1,1,1],[⟨.normal,[.v 43 .bool],[]⟩],[1,3,4,5,6]⟩ fun x=>IQ N x.1 x.2.2.2.1 x.2.2.2.2.1).aL ⟨[1,1,0,1,0,0,1,0],[.o 1 (.box 80), .o 3 (.ad 3), .o 4 (.ad 3), .v 5 (.int .i64)],[(1, .box 0 0),(3, .c (.own 1)),(4, .c (.own 2))],[1,0,0],[⟨.normal,[.o 3 (.ad 3), .o 4 (.ad 3)],[(3, .c (.own 3)),(4, .c (.own 4))]⟩],[1,5]⟩ fun x=>IN N x.1 x.2.1 x.2.2.1 x.2.2.2.1).b5 N ⟨[1,1,0,1,0],[.o 1 (.box 80), .o 3 (.ad 3), .o 4 (.ad 3), .v 5 (.int .i64)],[(1, .box 0 0),(3, .c (.own 1)),(4, .c (.own 2))],[1,0,0],[⟨.exit 0,[.o 3 (.ad 3), .o 4 (.ad 3)],[(3, .c (.own 3)),(4, .c (.own 4))]⟩],[]⟩ fun n x=>Bx N x.1 n x.2.1 x.2.2.1 x.2.2.2.1).fn Tryz.func46)
noncomputable def SC (N:Nat):bV bA:=(Ss N).ch ⟨108,2,[.v 1 (.int .i64)],[],au6 (0,59),2,[.v 4 .str, .u 0 (.recv 59)],[],[.tmp 4],ava⟩ (fun r x=>KX N r x.1) ((((Ss N).u Tryz.f108).b5 N ⟨[1,1,0,1,0],[.o 0 (.recv 59), .v 1 (.int .i64), .o 5 (.ad 5), .v 6 (.int .i64)],[(0, .box 0 0),(5, .c (.own 1))],[2,2],[⟨.exit 0,[.u 0 (.recv 59), .u 1 (.ad 5)],[]⟩],[0,5]⟩ fun n x=>Bu N x.2.1 n x.1 x.2.2.1 x.2.2.2.1).fn Tryz.func108)
noncomputable def SD (N:Nat):bV bA:=(SC N).ch ⟨147,2,[.v 0 .str, .v 1 (.int .i64)],[],au8,0,[.v 4 .bool],[],[.tmp 4],au7⟩ (fun r x=>Dm N x.1 x.2.1) (((((SC N).u Tryz.f147).aL ⟨[1,1,0,1,0,0,1,0,0,0],[.v 0 .str, .v 5 (.int .i64)],[],[],[⟨.normal,[.v 24 .bool],[]⟩],[0,1,5]⟩ fun x=>Il N x.1 x.2.1).b5 N ⟨[1,1,0,1,0],[.v 0 .str, .v 1 (.int .i64), .v 5 (.int .i64)],[],[],[⟨.exit 0,[],[]⟩,⟨.ret,[.v 4 .bool],[]⟩],[]⟩ fun n x=>AY N x.1 x.2.1 n x.2.2.1).fn Tryz.func147)
noncomputable def SE (N:Nat):bV bA:=(SD N).ch ⟨148,2,[.v 0 .str, .v 1 (.int .i64)],[],au8,0,[.v 4 (.int .i64)],[],[.tmp 4],au7⟩ (fun r x=>DF N x.1 x.2.1) (((((SD N).u Tryz.f148).aL ⟨[1,1,0,1,0,0,1,0,0,1,0,1],[.v 7 (.int .i64), .v 20 .bool],[],[],[⟨.normal,[.v 7 (.int .i64)],[]⟩],[0,1,5,6]⟩ fun x=>J5 N x.1 x.2.1).b5 N ⟨[1,1,0,1,0],[.v 0 .str, .v 1 (.int .i64), .v 5 (.int .i64), .v 6 (.int .i64)],[],[],[⟨.exit 0,[.v 5 (.int .i64)],[]⟩],[]⟩ fun n x=>BN N x.1 x.2.1 n x.2.2.1 x.2.2.2.1).fn Tryz.func148)
noncomputable def SF (N:Nat):bV bA:=(SE N).ch ⟨109,1,[.v 0 .str],[],au8,0,[.v 2 (.int .i64), .v 3 (.int .i64)],[],[.tmp 2, .tmp 3],au7⟩ (fun r x=>Lt N x.1) (((SE N).u Tryz.f109).fn Tryz.func109)
noncomputable def SH (N:Nat):bV bA:=(SF N).ch ⟨74,2,[.v 1 (.int .i64)],[],au6 (0,59),2,[.v 4 .str, .u 0 (.recv 59)],[],[.tmp 4],ava⟩ (fun r x=>KY N r x.1) (((SF N).u Tryz.f74).fn Tryz.func74)
noncomputable def SI (N:Nat):bV bA:=(SH N).ch ⟨75,1,[],[],au6 (0,59),2,[.v 2 .str, .u 0 (.recv 59)],[],[.tmp 2],ava⟩ (fun r x=>Li N r) (((SH N).u Tryz.f75).fn Tryz.func75)
noncomputable def SJ (N:Nat):bV bA:=(SI N).ch ⟨47,2,[.v 1 (.int .i64)],[],au6 (0,59),2,[.v 1000000 (.agg 122), .u 0 (.recv 59)],[],[.cell 4 122],ava⟩ (fun r x=>K7 N r x.1) (((((SI N).u Tryz.f47).aL ⟨[1,1,0,1,0,0,1],[.o 0 (.recv 59), .o 4 (.box 122), .o 5 (.box 122), .v 26 (.int .u8), .v 27 .bool],[(0, .box 0 0),(4, .box 1 0),(5, .box 2 0)],[1,1,1],[⟨.normal,[.v 27 .bool],[]⟩],[0,4,5,26]⟩ fun x=>IT N x.2.2.2.1 x.2.2.2.2.1).aL ⟨[1,1,0,1],[.o 0 (.recv 59), .o 4 (.box 122), .o 5 (.box 122), .v 26 (.int .u8)],[(0, .box 0 0),(4, .box 1 0),(5, .box 2 0)],[1,1,2],[⟨.normal,[.u 2 (.box 122)],[]⟩],[0,4,5]⟩ fun x=>IS N x.2.2.1 x.2.2.2.1).fn Tryz.func47)
noncomputable def SK (N:Nat):bV bA:=(SJ N).ch ⟨202,1,[.v 0 .str],[],au8,0,[.v 2 (.int .i64)],[],[.tmp 2],au7⟩ (fun r x=>Lu N x.1) (((SJ N).u Tryz.f202).fn Tryz.func202)
noncomputable def SL (N:Nat):bV bA:=(SK N).ch ⟨149,1,[.v 0 .str],[],au8,0,[.v 2 (.int .i64), .v 3 (.int .i64)],[],[.tmp 2, .tmp 3],au7⟩ (fun r x=>LM N x.1) (((((SK N).u Tryz.f149).aL ⟨[1,1,0,1,0,0,1],[.v 11 (.int .u8), .v 12 .bool],[],[],[⟨.normal,[.v 12 .bool],[]⟩],[11]⟩ fun x=>Jl N x.1 x.2.1).aL ⟨[1,1,0,1,0,1,1,0,1],[.v 11 (.int .u8), .v 15 .bool],[],[],[⟨.normal,[.v 15 .bool],[]⟩],[11]⟩ fun x=>Jm N x.1 x.2.1).fn Tryz.func149)
noncomputable def SM (N:Nat):bV bA:=(SL N).ch ⟨110,1,[.v 0 (.agg 122)],[],au8,0,[.v 2 (.int .i64)],[],[.tmp 2],au7⟩ (fun r x=>Lw N x.1) (((((SL N).u Tryz.f110).aL ⟨[1,1,1,1,0,1],[.o 1 (.box 122), .v 5 (.int .i64), .v 6 (.int .i64), .v 16 (.int .i64)],[(1, .box 0 0)],[1],[⟨.normal,[.v 5 (.int .i64), .v 6 (.int .i64)],[]⟩],[1]⟩ fun x=>H7 N x.2.1 x.2.2.1 x.2.2.2.1).aL ⟨[1,1,1,1,1,0,0,1,1,0],[.o 1 (.box 122), .v 6 (.int .i64)],[(1, .box 0 0)],[1],[⟨.normal,[.v 26 .bool],[]⟩],[1]⟩ fun x=>H8 N x.1 x.2.1).fn Tryz.func110)
noncomputable def SN (N:Nat):bV bA:=(SM N).ch ⟨76,1,[.v 0 (.ad 122)],[],au8,0,[.v 2 (.int .i64)],[],[.tmp 2],au7⟩ (fun r x=>vT N x.1) (((((SM N).u Tryz.f76).b5 N ⟨[1,1,0,1,0,0,1,0,0,1,1,0],[.v 0 (.ad 122), .v 3 (.int .i64), .v 5 (.int .i64)],[],[],[⟨.exit 2,[],[]⟩,⟨.ret,[.v 2 (.int .i64)],[]⟩],[0,3]⟩ fun n x=>Al N x.1 x.2.1 n x.2.2.1).b5 N ⟨[1,1,0,1,0],[.v 0 (.ad 122), .v 3 (.int .i64)],[],[],[⟨.exit 0,[],[]⟩,⟨.ret,[.v 2 (.int .i64)],[]⟩],[]⟩ fun n x=>Ak N x.1 n x.2.1).fn Tryz.func76)
noncomputable def SO (N:Nat):bV bA:=(SN N).ch ⟨77,1,[.v 0 (.ad 5)],[],au8,0,[.v 2 (.int .i64)],[],[.tmp 2],au7⟩ (fun r x=>Ds N x.1) ((((SN N).u Tryz.f77).b5 N ⟨[1,1,0,1,0],[.v 0 (.ad 5), .v 3 (.int .i64), .v 4 (.int .i64)],[],[],[⟨.exit 0,[.v 3 (.int .i64)],[]⟩],[]⟩ fun n x=>Bi N x.1 n x.2.1 x.2.2.1).fn Tryz.func77)
noncomputable def SP (N:Nat):bV bA:=(SO N).ch ⟨48,1,[.v 0 (.ad 122)],[],au8,0,[.o 2 (.ad 5), .v 3 (.int .i64)],[(2, .c (.own 0))],[.tmp 2, .tmp 3],ava⟩ (fun r x=>Lk N x.1) ((((((SO N).u Tryz.f48).b5 N ⟨[1,1,1,0,1,0,0,1,0,0,1,0,1,0],[.o 5 (.ad 5), .o 7 (.box 122), .v 8 (.int .i64)],[(5, .c (.own 0)),(7, .box 1 0)],[0,1],[⟨.exit 2,[.o 5 (.ad 5)],[(5, .c (.own 2))]⟩],[0,6,7]⟩ fun n x=>A2 N x.2.1 n x.1 x.2.2.1).aL ⟨[1,1,1,0,1,0,0,1,0,0,1,1,1,0,1],[.o 5 (.ad 5), .o 7 (.box 122), .v 9 (.int .u8), .v 54 .bool],[(5, .c (.own 0)),(7, .box 1 0)],[1,1],[⟨.normal,[.v 9 (.int .u8)],[]⟩],[0,5,6,7]⟩ fun x=>Ip N x.2.2.1 x.2.2.2.1).b5 N ⟨[1,1,1,0,1,0],[.v 0 (.ad 122), .o 5 (.ad 5), .v 6 (.int .i64)],[(5, .c (.own 0))],[0],[⟨.exit 0,[.o 5 (.ad 5)],[(5, .c (.own 1))]⟩],[]⟩ fun n x=>A1 N x.1 n x.2.1 x.2.2.1).fn Tryz.func48)
noncomputable def SQ (N:Nat):bV bA:=(SP N).ch ⟨12,2,[.v 1 .str],[],au6 (0,59),2,[.v 4 .str, .u 0 (.recv 59)],[],[.tmp 4],ava⟩ (fun r x=>Dj N r x.1) (((SP N).u Tryz.f12).fn Tryz.func12)
noncomputable def SS (N:Nat):bV bA:=(SQ N).ch ⟨13,2,[.v 1 (.ad 5)],[],au6 (0,59),2,[.o 4 (.ad 5), .u 0 (.recv 59)],[(4, .c (.own 1))],[.tmp 4],ava⟩ (fun r x=>Da N r x.1) (((SQ N).u Tryz.f13).fn Tryz.func13)
noncomputable def SU (N:Nat):bV bA:=(SS N).ch ⟨49,2,[.v 1 (.agg 36)],[],au6 (0,59),2,[.v 1000000 (.agg 26), .u 0 (.recv 59)],[],[.cell 4 26],ava⟩ (fun r x=>KU N r x.1) ((((((SS N).u Tryz.f49).aL ⟨[1,1,0,1,0,0,1,0],[.o 0 (.recv 59), .o 3 (.box 36), .o 4 (.box 26), .o 5 (.bG 26 [(2,4)]), .v 6 (.int .i64), .o 2005002 (.ad 9)],[(0, .box 0 0),(3, .box 1 0),(4, .box 2 0),(5, .box 3 0)],[2,1,1,2,0],[⟨.normal,[.u 0 (.recv 59), .u 3 (.bG 26 [(2,5)]), .o 2005002 (.ad 9)],[]⟩],[0,3,4,5,6]⟩ fun x=>IH N x.1 x.2.2.2.1 x.2.2.2.2.1 x.2.2.2.2.2.1).b5 N ⟨[1,1,0,1,0],[.o 0 (.recv 59), .o 3 (.box 36), .o 4 (.box 26), .o 5 (.bG 26 [(2,4)]), .v 6 (.int .i64), .o 2005002 (.ad 9)],[(0, .box 0 0),(3, .box 1 0),(4, .box 2 0),(5, .box 3 0)],[2,1,1,2,0],[⟨.exit 0,[.u 0 (.recv 59), .u 3 (.bG 26 [(2,5)]), .o 2005002 (.ad 9)],[]⟩],[0,3,4,5]⟩ fun n x=>Br N n x.1 x.2.2.2.1 x.2.2.2.2.1 x.2.2.2.2.2.1).aL ⟨[1,1,1,0,1],[.o 0 (.recv 59), .o 3 (.box 36), .o 4 (.box 26), .o 5 (.bG 26 [(2,4)]), .v 39 .bool, .o 2005002 (.ad 9)],[(0, .box 0 0),(3, .box 1 0),(4, .box 2 0),(5, .box 3 0)],[2,1,1,2,1],[⟨.normal,[.u 0 (.recv 59), .u 3 (.bG 26 [(2,4)])],[]⟩],[0,4,5]⟩ fun x=>II N x.1 x.2.1 x.2.2.2.1 x.2.2.2.2.1).fn Tryz.func49)
noncomputable def SV (N:Nat):bV bA:=(SU N).ch ⟨78,1,[.v 0 (.agg 80)],[],au8,0,[.v 2 (.int .i64)],[],[.tmp 2],au7⟩ (fun r x=>Dp N x.1) (((SU N).u Tryz.f78).fn Tryz.func78)
noncomputable def SW (N:Nat):bV bA:=(SV N).ch ⟨111,5,[.v 0 (.ad 26), .v 1 (.agg 162), .v 2 (.int .i64), .v 3 (.int .i64), .v 4 (.ad 3)],[],au8,0,[.v 10 (.int .i64)],[],[.tmp 10],au7⟩ (fun r x=>Lq N x.1 x.2.1 x.2.2.1 x.2.2.2.1 x.2.2.2.2.1) ((((SV N).u Tryz.f111).b5 N ⟨[1,0,1,0],[.v 2 (.int .i64), .v 4 (.ad 3), .o 6 (.box 162), .v 11 (.int .i64)],[(6, .box 0 0)],[1],[⟨.exit 0,[],[]⟩,⟨.ret,[.v 10 (.int .i64)],[]⟩],[0,6]⟩ fun n x=>Ba N x.1 x.2.1 n x.2.2.2.1).fn Tryz.func111)
noncomputable def SX (N:Nat):bV bA:=(SW N).ch ⟨79,2,[.v 0 (.agg 80), .v 1 (.ad 3)],[],au8,0,[.o 4 (.ad 3)],[(4, .c (.own 0))],[.tmp 4],ava⟩ (fun r x=>Dk N x.1 x.2.1) ((((((SW N).u Tryz.f79).aL ⟨[1,1,1,0,1,0,0,1,0,0,1,0,0,1,0],[.v 1 (.ad 3), .o 2 (.box 80), .o 5 (.ad 3), .o 6 (.box 78), .v 7 (.int .i64), .v 8 (.int .i64)],[(2, .box 0 0),(5, .c (.own 1)),(6, .box 2 0)],[1,0,1],[⟨.normal,[.o 5 (.ad 3)],[(5, .c (.own 3))]⟩],[1,2,6,7,8]⟩ fun x=>IV N x.1 x.2.1 x.2.2.1 x.2.2.2.1 x.2.2.2.2.1 x.2.2.2.2.2.1).b5 N ⟨[1,1,1,0,1,0,0,1,0,0,1,0],[.v 1 (.ad 3), .o 2 (.box 80), .o 5 (.ad 3), .o 6 (.box 78), .v 7 (.int .i64), .v 8 (.int .i64)],[(2, .box 0 0),(5, .c (.own 1)),(6, .box 2 0)],[1,0,1],[⟨.exit 2,[.o 5 (.ad 3)],[(5, .c (.own 3))]⟩],[1,2,6,7]⟩ fun n x=>BD N x.1 x.2.1 x.2.2.2.1 x.2.2.2.2.1 n x.2.2.1 x.2.2.2.2.2.1).b5 N ⟨[1,1,1,0,1,0],[.v 1 (.ad 3), .o 2 (.box 80), .o 5 (.ad 3), .o 6 (.box 78), .v 7 (.int .i64)],[(2, .box 0 0),(5, .c (.own 1)),(6, .box 2 0)],[1,0,1],[⟨.exit 0,[.o 5 (.ad 3)],[(5, .c (.own 3))]⟩],[]⟩ fun n x=>BC N x.1 x.2.1 x.2.2.2.1 n x.2.2.1 x.2.2.2.2.1).fn Tryz.func79)
noncomputable def SY (N:Nat):bV bA:=(SX N).ch ⟨50,1,[.v 0 (.agg 80)],[],au8,0,[.v 2 (.int .i64), .v 3 (.ad 3), .o 4 (.ad 3), .v 5 (.int .i64)],[(4, .c (.own 0))],[.tmp 2, .tmp 3, .tmp 4, .tmp 5],ava⟩ (fun r x=>LV N x.1) ((((SX N).u Tryz.f50).aL ⟨[1,0,0],[.o 1 (.box 80)],[(1, .box 0 0)],[1],[⟨.normal,[.v 14 .bool],[]⟩],[1]⟩ fun x=>JD N x.1).fn Tryz.func50)
noncomputable def SZ (N:Nat):bV bA:=(SY N).ch ⟨25,4,[.v 1 (.agg 36), .v 2 (.agg 80), .v 3 (.int .i64)],[],au6 (0,59),2,[.v 1000000 (.agg 29), .u 0 (.recv 59)],[],[.cell 8 29],ava⟩ (fun r x=>Dh N r x.1 x.2.1 x.2.2.1) ((((((((((((((((((SY N).u Tryz.f25).aL ⟨[1,1,1,0,0,0],[.o 0 (.recv 59), .o 5 (.box 36), .o 6 (.box 80), .o 8 (.box 29), .o 9 (.ad 3), .o 10 (.bG 29 [(5,6),(6,7),(11,8)]), .o 2010005 (.ad 3), .o 2010006 (.ad 48), .o 2010011 (.ad 5)],[(0, .box 0 0),(5, .box 1 0),(6, .box 2 0),(8, .box 3 0),(9, .c (.own 4)),(10, .box 5 0)],[2,1,1,1,1,1,1,1,1],[⟨.normal,[.u 0 (.recv 59), .v 26 .bool],[]⟩],[0,3,5,6,8,9,10]⟩ fun x=>Ho N x.1 x.2.2.1).aL ⟨[1,1,1,0,0,1,1,0],[.o 0 (.recv 59), .o 5 (.box 36), .o 6 (.box 80), .o 8 (.box 29), .o 9 (.ad 3), .o 10 (.bG 29 [(5,6),(6,7),(11,8)]), .o 2010005 (.ad 3), .o 2010006 (.ad 48), .o 2010011 (.ad 5)],[(0, .box 0 0),(5, .box 1 0),(6, .box 2 0),(8, .box 3 0),(9, .c (.own 4)),(10, .box 5 0)],[2,1,1,1,1,1,1,1,1],[⟨.normal,[.u 0 (.recv 59), .v 35 .bool],[]⟩],[0,3,5,6,8,9,10]⟩ fun x=>Hp N x.1 x.2.2.1).aL ⟨[1,1,1,0],[.o 0 (.recv 59), .o 5 (.box 36), .o 6 (.box 80), .o 8 (.box 29), .o 9 (.ad 3), .o 10 (.bG 29 [(5,6),(6,7),(11,8)]), .o 2010005 (.ad 3), .o 2010006 (.ad 48), .o 2010011 (.ad 5)],[(0, .box 0 0),(5, .box 1 0),(6, .box 2 0),(8, .box 3 0),(9, .c (.own 4)),(10, .box 5 0)],[2,1,1,1,1,2,1,1,1],[⟨.normal,[.u 0 (.recv 59), .u 5 (.bG 29 [(5,6),(6,7),(11,8)])],[]⟩],[0,3,5,6,8,9,10]⟩ fun x=>Hn N x.1 x.2.2.1 x.2.2.2.2.2.1).aL ⟨[1,1,1,1,0,1,0,1,0,1,0,0],[.o 0 (.recv 59), .o 8 (.box 29), .o 9 (.ad 3), .o 10 (.bG 29 [(5,4),(6,5),(11,6)]), .o 2010005 (.ad 3), .o 2010006 (.ad 48), .o 2010011 (.ad 5)],[(0, .box 0 0),(8, .box 1 0),(9, .c (.own 2)),(10, .box 3 0)],[2,1,1,1,1,1,1],[⟨.normal,[.u 0 (.recv 59), .v 61 .bool],[]⟩],[0,3,8,9,10]⟩ fun x=>IC N x.1 x.2.2.1).aL ⟨[1,1,1,1,0,1,0,1,0,1,0,1],[.o 0 (.recv 59), .o 8 (.box 29), .o 9 (.ad 3), .o 10 (.bG 29 [(5,4),(6,5),(11,6)]), .v 61 .bool, .o 2010005 (.ad 3), .o 2010006 (.ad 48), .o 2010011 (.ad 5)],[(0, .box 0 0),(8, .box 1 0),(9, .c (.own 2)),(10, .box 3 0)],[2,1,1,2,1,1,1],[⟨.normal,[.u 0 (.recv 59), .u 3 (.bG 29 [(5,4),(6,5),(11,6)])],[]⟩],[0,3,8,10]⟩ fun x=>ID N x.1 x.2.2.1 x.2.2.2.1 x.2.2.2.2.1).b5 N ⟨[1,1,1,1,0,1,0,1,0,1,1,1,0,1,0],[.o 0 (.recv 59), .v 3 (.int .i64), .o 8 (.box 29), .o 10 (.bG 29 [(5,4),(6,5),(11,6)]), .o 11 (.ad 122), .v 12 (.int .i64), .o 2010005 (.ad 3), .o 2010006 (.ad 48), .o 2010011 (.ad 5)],[(0, .box 0 0),(8, .box 1 0),(10, .box 2 0),(11, .c (.own 3))],[2,1,1,0,1,1,1],[⟨.exit 2,[.u 0 (.recv 59), .o 11 (.ad 122)],[(11, .c (.own 7))]⟩],[0,8,10]⟩ fun n x=>Bq N x.2.1 n x.1 x.2.2.2.2.1 x.2.2.2.2.2.1).aL ⟨[1,1,1,1,0,1,0,1,1,1,0,1,0],[.o 0 (.recv 59), .o 8 (.box 29), .o 9 (.ad 3), .o 10 (.bG 29 [(5,4),(6,5),(11,6)]), .o 2010005 (.ad 3), .o 2010006 (.ad 48), .o 2010011 (.ad 5)],[(0, .box 0 0),(8, .box 1 0),(9, .c (.own 2)),(10, .box 3 0)],[2,1,1,1,1,1,1],[⟨.normal,[.u 0 (.recv 59), .v 118 .bool],[]⟩],[0,8,9,10]⟩ fun x=>IE N x.1 x.2.2.1).aL ⟨[1,1,1,1,0,1,0,1,1,1,1,0,1],[.o 0 (.recv 59), .o 5 (.box 36), .o 6 (.box 80), .o 8 (.box 29), .o 9 (.ad 3), .o 10 (.bG 29 [(5,6),(6,7),(11,8)]), .v 45 (.int .i64), .v 124 .bool, .o 2010005 (.ad 3), .o 2010006 (.ad 48), .o 2010011 (.ad 5)],[(0, .box 0 0),(5, .box 1 0),(6, .box 2 0),(8, .box 3 0),(9, .c (.own 4)),(10, .box 5 0)],[1,1,1,1,1,1,1,1,1],[⟨.normal,[.v 124 .bool],[]⟩],[0,5,6,8,9,10,45]⟩ fun x=>IF N x.2.2.2.2.2.2.1 x.2.2.2.2.2.2.2.1).aL ⟨[1,1,1,1,0,1,0,1,1,1,1,1,0,1,0,0],[.o 0 (.recv 59), .o 5 (.box 36), .o 8 (.box 29), .o 9 (.ad 3), .o 10 (.bG 29 [(5,5),(6,6),(11,7)]), .o 2010005 (.ad 3), .o 2010006 (.ad 48), .o 2010011 (.ad 5)],[(0, .box 0 0),(5, .box 1 0),(8, .box 2 0),(9, .c (.own 3)),(10, .box 4 0)],[1,1,1,1,1,1,1,1],[⟨.normal,[.v 144 .bool],[]⟩],[0,5,8,9,10]⟩ fun x=>IG N x.2.2.2.1 x.2.2.2.2.1).aL ⟨[1,1,1,1,0,1,0,1,1,1,1,1,0,1,0,1],[.o 0 (.recv 59), .o 5 (.box 36), .o 8 (.box 29), .o 9 (.ad 3), .o 10 (.bG 29 [(5,5),(6,6),(11,7)]), .v 144 .bool, .o 2010005 (.ad 3), .o 2010006 (.ad 48), .o 2010011 (.ad 5)],[(0, .box 0 0),(5, .box 1 0),(8, .box 2 0),(9, .c (.own 3)),(10, .box 4 0)],[1,1,1,1,2,1,1,1],[⟨.normal,[.u 4 (.bG 29 [(5,5),(6,6),(11,7)])],[]⟩],[0,5,8,9,10]⟩ fun x=>Gz N x.2.2.2.1 x.2.2.2.2.1 x.2.2.2.2.2.1).aL ⟨[1,1,1,1,0,1,0,1,1,1,1,1,0,1,1,0,1,0,0,0,0],[.o 0 (.recv 59), .o 5 (.box 36), .o 8 (.box 29), .o 9 (.ad 3), .o 10 (.bG 29 [(5,5),(6,6),(11,7)]), .v 14 (.int .i64), .o 2010005 (.ad 3), .o 2010006 (.ad 48), .o 2010011 (.ad 5)],[(0, .box 0 0),(5, .box 1 0),(8, .box 2 0),(9, .c (.own 3)),(10, .box 4 0)],[1,1,1,1,1,1,1,1],[⟨.normal,[.v 168 .bool],[]⟩],[0,5,8,9,10,14]⟩ fun x=>GA N x.2.2.2.1 x.2.2.2.2.2.1 x.2.2.2.2.2.2.1).aL ⟨[1,1,1,1,0,1,0,1,1,1,1,1,0,1,1,0,1,0,0,1,0],[.o 0 (.recv 59), .o 5 (.box 36), .o 8 (.box 29), .o 9 (.ad 3), .o 10 (.bG 29 [(5,5),(6,6),(11,7)]), .v 14 (.int .i64), .o 2010005 (.ad 3), .o 2010006 (.ad 48), .o 2010011 (.ad 5)],[(0, .box 0 0),(5, .box 1 0),(8, .box 2 0),(9, .c (.own 3)),(10, .box 4 0)],[1,1,1,1,2,0,1,1],[⟨.normal,[.u 4 (.bG 29 [(5,8),(6,6),(11,7)]), .o 2010005 (.ad 3)],[]⟩],[0,5,8,9,10,14]⟩ fun x=>GB N x.2.2.2.1 x.2.2.2.2.1 x.2.2.2.2.2.1 x.2.2.2.2.2.2.1).b5 N ⟨[1,1,1,1,0,1,0,1,1,1,1,1,0,1,1,0,1,0],[.o 0 (.recv 59), .o 5 (.box 36), .o 8 (.box 29), .o 9 (.ad 3), .o 10 (.bG 29 [(5,5),(6,6),(11,7)]), .v 14 (.int .i64), .o 2010005 (.ad 3), .o 2010006 (.ad 48), .o 2010011 (.ad 5)],[(0, .box 0 0),(5, .box 1 0),(8, .box 2 0),(9, .c (.own 3)),(10, .box 4 0)],[1,1,1,1,2,0,1,1],[⟨.exit 4,[.u 4 (.bG 29 [(5,8),(6,6),(11,7)]), .o 2010005 (.ad 3)],[]⟩],[0,5,8,10]⟩ fun n x=>z4 N x.2.2.2.1 n x.2.2.2.2.1 x.2.2.2.2.2.1 x.2.2.2.2.2.2.1).b5 N ⟨[1,1,1,1,0,1,0,1,1,1,1,1,1,1,0,1,1,0],[.o 0 (.recv 59), .o 5 (.box 36), .o 8 (.box 29), .o 10 (.bG 29 [(5,4),(6,5),(11,6)]), .v 16 (.ad 3), .v 19 (.int .i64), .o 2010005 (.ad 3), .o 2010006 (.ad 48), .o 2010011 (.ad 5)],[(0, .box 0 0),(5, .box 1 0),(8, .box 2 0),(10, .box 3 0)],[2,1,1,2,1,0,1],[⟨.exit 6,[.u 0 (.recv 59), .u 3 (.bG 29 [(5,4),(6,7),(11,6)]), .o 2010006 (.ad 48)],[]⟩],[0,8,10]⟩ fun n x=>z5 N x.2.1 x.2.2.2.2.1 n x.1 x.2.2.2.1 x.2.2.2.2.2.1 x.2.2.2.2.2.2.2.1).aL ⟨[1,1,1,1,0,1],[.o 0 (.recv 59), .v 3 (.int .i64), .o 5 (.box 36), .o 6 (.box 80), .o 8 (.box 29), .o 9 (.ad 3), .o 10 (.bG 29 [(5,6),(6,7),(11,8)]), .v 45 (.int .i64), .o 2010005 (.ad 3), .o 2010006 (.ad 48), .o 2010011 (.ad 5)],[(0, .box 0 0),(5, .box 1 0),(6, .box 2 0),(8, .box 3 0),(9, .c (.own 4)),(10, .box 5 0)],[2,0,0,1,0,2,0,0,0],[⟨.normal,[.u 0 (.recv 59), .u 5 (.bG 29 [(5,9),(6,10),(11,11)]), .o 2010005 (.ad 3), .o 2010006 (.ad 48), .o 2010011 (.ad 5)],[]⟩],[0,8,10]⟩ fun x=>Hq N x.1 x.2.1 x.2.2.1 x.2.2.2.1 x.2.2.2.2.2.1 x.2.2.2.2.2.2.1 x.2.2.2.2.2.2.2.1 x.2.2.2.2.2.2.2.2.1 x.2.2.2.2.2.2.2.2.2.1 x.2.2.2.2.2.2.2.2.2.2.1).fn Tryz.func25)
noncomputable def abU (N:Nat):qZ bA:=(SZ N).a8.pc fun x bD aj=>match x,bD,aj with| .const (.int .i64 68),au8,au8=>3|_,_,_=>0
noncomputable def S0 (N:Nat):bV bA:=(SZ N).ch ⟨80,1,[.v 0 (.ad 22)],[],au8,0,[.o 2 (.ne 22 3)],[(2, .c (.own 0))],[.tmp 2],ava⟩ (fun r x=>x3 N x.1) (((dB.nil:dB (abU N) (hO Tryz.f80)).b5 N ⟨[1,1,0,1,0],[.v 0 (.ad 22), .o 3 (.ne 22 3), .v 4 (.int .i64)],[(3, .c (.own 0))],[0],[⟨.exit 0,[.o 3 (.ne 22 3)],[(3, .c (.own 1))]⟩],[]⟩ fun n x=>B8 N x.1 n x.2.1 x.2.2.1).fn Tryz.func80)
noncomputable def S1 (N:Nat):bV bA:=(S0 N).ch ⟨51,1,[.v 0 (.agg 80)],[],au8,0,[.v 1064000000 (.agg 80), .o 1064000001 (.ad 122), .o 1064000003 (.ad 26)],[(1064000001, .c (.own 0)),(1064000003, .c (.own 1))],[.cell 2 80],ava⟩ (fun r x=>DB N x.1) ((((S0 N).u Tryz.f51).b5 N ⟨[1,1,1,1,0,1,0],[.o 1 (.bG 80 [(0,3),(1,4)]), .o 2 (.box 80), .o 3 (.ad 26), .v 4 (.int .i64), .o 2001000 (.ad 122), .o 2001001 (.ne 22 3)],[(1, .box 0 0),(2, .box 1 0),(3, .c (.own 2))],[1,1,0,1,2],[⟨.exit 0,[.o 3 (.ad 26), .u 4 (.ne 22 3)],[(3, .c (.own 5))]⟩],[1,2]⟩ fun n x=>B9 N x.1 n x.2.2.1 x.2.2.2.1 x.2.2.2.2.2.1).fn Tryz.func51)
noncomputable def S2 (N:Nat):bV bA:=(S1 N).ch ⟨81,2,[.v 0 (.agg 36), .v 1 (.int .i64)],[],au8,0,[.v 4 .bool],[],[.tmp 4],au7⟩ (fun r x=>pW N x.1 x.2.1) ((((S1 N).u Tryz.f81).aL ⟨[1,0],[.v 1 (.int .i64), .o 2 (.box 36)],[(2, .box 0 0)],[1],[⟨.normal,[.v 4 .bool],[]⟩],[]⟩ fun x=>Jk N x.1 x.2.1).fn Tryz.func81)
noncomputable def S4 (N:Nat):bV bA:=(S2 N).ch ⟨82,2,[.v 0 (.ad 3), .v 1 (.int .i64)],[],au8,0,[.v 4 .bool],[],[.tmp 4],au7⟩ (fun r x=>tN N x.1 x.2.1) ((((S2 N).u Tryz.f82).b5 N ⟨[1,0,1,0],[.v 0 (.ad 3), .v 1 (.int .i64), .v 5 (.int .i64)],[],[],[⟨.exit 0,[],[]⟩,⟨.ret,[.v 4 .bool],[]⟩],[]⟩ fun n x=>CJ N x.1 x.2.1 n x.2.2.1).fn Tryz.func82)
noncomputable def S5 (N:Nat):bV bA:=(S4 N).ch ⟨83,2,[.v 0 (.agg 80), .v 1 (.int .i64)],[],au8,0,[.v 4 .bool],[],[.tmp 4],au7⟩ (fun r x=>qT N x.1 x.2.1) ((((S4 N).u Tryz.f83).b5 N ⟨[1,0,1,0],[.v 1 (.int .i64), .o 2 (.box 80), .v 5 (.int .i64)],[(2, .box 0 0)],[1],[⟨.exit 0,[],[]⟩,⟨.ret,[.v 4 .bool],[]⟩],[]⟩ fun n x=>BB N x.1 x.2.1 n x.2.2.1).fn Tryz.func83)
noncomputable def S6 (N:Nat):bV bA:=(S5 N).ch ⟨112,1,[.v 0 (.ad 5)],[],au8,0,[.v 2 (.int .i64)],[],[.tmp 2],au7⟩ (fun r x=>LZ N x.1) ((((S5 N).u Tryz.f112).b5 N ⟨[1,1,1,0,1,0],[.v 0 (.ad 5), .v 3 (.int .i64), .v 4 (.int .i64)],[],[],[⟨.exit 0,[.v 3 (.int .i64)],[]⟩,⟨.ret,[.v 2 (.int .i64)],[]⟩],[0]⟩ fun n x=>BO N x.1 n x.2.1 x.2.2.1).fn Tryz.func112)
noncomputable def S7 (N:Nat):bV bA:=(S6 N).ch ⟨113,1,[.v 0 (.ad 5)],[],au8,0,[.v 2 (.int .i64)],[],[.tmp 2],au7⟩ (fun r x=>v3 N x.1) (((S6 N).u Tryz.f113).fn Tryz.func113)
noncomputable def S8 (N:Nat):bV bA:=(S7 N).ch ⟨84,1,[.v 0 (.ad 5)],[],au8,0,[.o 2 (.ad 122), .v 3 (.int .i64)],[(2, .c (.own 0))],[.tmp 2, .tmp 3],ava⟩ (fun r x=>Lj N x.1) (((((((S7 N).u Tryz.f84).aL ⟨[1,1,1,1,1,0,1,0,0,1,0,0,1,1,0,1,0,0,1,0,0,0,0],[.o 5 (.ad 122), .v 8 (.ad 5), .v 10 (.int .i64)],[(5, .c (.own 0))],[1],[⟨.normal,[.v 63 .bool],[]⟩],[0,5,6,7,8,9,10]⟩ fun x=>Im N x.2.1 x.2.2.1).b5 N ⟨[1,1,1,1,1,0,1,0,0,1,0,0,1,1,0,1,0],[.o 5 (.ad 122), .v 8 (.ad 5), .v 9 .str, .v 10 (.int .i64)],[(5, .c (.own 0))],[1],[⟨.exit 3,[.v 9 .str],[]⟩,⟨.ret,[.v 3 (.int .i64)],[(2, .c .g2)]⟩],[0,5,6,7,8]⟩ fun n x=>A0 N x.2.1 n x.2.2.1 x.2.2.2.1).aL ⟨[1,1,1,1,1,0,1,0,0,1,0,0,1,1,1,0,0],[.o 5 (.ad 122), .v 8 (.ad 5)],[(5, .c (.own 0))],[1],[⟨.normal,[.v 95 .bool],[]⟩],[0,5,6,7,8,9]⟩ fun x=>Io N x.2.1).b5 N ⟨[1,1,1,1,1,0,1,0],[.v 0 (.ad 5), .o 5 (.ad 122), .v 6 (.int .i64), .v 7 (.int .i64)],[(5, .c (.own 0))],[0],[⟨.exit 1,[.o 5 (.ad 122)],[(5, .c (.own 1))]⟩,⟨.ret,[.v 3 (.int .i64)],[(2, .c .g2)]⟩],[]⟩ fun n x=>AZ N x.1 n x.2.1 x.2.2.1 x.2.2.2.1).fn Tryz.func84)
noncomputable def S9 (N:Nat):bV bA:=(S8 N).ch ⟨85,2,[.v 0 (.ad 22), .v 1 (.int .i64)],[],au8,0,[.v 4 (.int .i64), .v 5 (.int .i64)],[],[.tmp 4, .tmp 5],au7⟩ (fun r x=>pV N x.1 x.2.1) (((((S8 N).u Tryz.f85).b5 N ⟨[1,0,1,0,0,1,0,0,1,0],[.v 0 (.ad 22), .v 1 (.int .i64), .v 6 (.int .i64), .v 7 (.int .i64)],[],[],[⟨.exit 2,[],[]⟩,⟨.ret,[.v 4 (.int .i64), .v 5 (.int .i64)],[]⟩],[0,1,6]⟩ fun n x=>BV N x.1 x.2.1 x.2.2.1 n x.2.2.2.1).b5 N ⟨[1,0,1,0],[.v 0 (.ad 22), .v 1 (.int .i64), .v 6 (.int .i64)],[],[],[⟨.exit 0,[],[]⟩,⟨.ret,[.v 4 (.int .i64), .v 5 (.int .i64)],[]⟩],[]⟩ fun n x=>BU N x.1 x.2.1 n x.2.2.1).fn Tryz.func85)
noncomputable def Ta (N:Nat):bV bA:=(S9 N).ch ⟨115,1,[.v 0 (.ad 122)],[],au8,0,[.o 2 (.ad 3)],[(2, .c (.own 0))],[.tmp 2],ava⟩ (fun r x=>tK N x.1) ((((S9 N).u Tryz.f115).b5 N ⟨[1,1,0,1,0],[.v 0 (.ad 122), .o 3 (.ad 3), .v 4 (.int .i64)],[(3, .c (.own 0))],[0],[⟨.exit 0,[.o 3 (.ad 3)],[(3, .c (.own 1))]⟩],[]⟩ fun n x=>BA N x.1 n x.2.1 x.2.2.1).fn Tryz.func115)
noncomputable def Tb (N:Nat):bV bA:=(Ta N).ch ⟨151,2,[.v 0 (.ad 3), .v 1 (.ad 3)],[],au8,0,[.v 4 (.int .i64)],[],[.tmp 4],au7⟩ (fun r x=>DG N x.1 x.2.1) ((((Ta N).u Tryz.f151).b5 N ⟨[1,1,0,1,0],[.v 0 (.ad 3), .v 1 (.ad 3), .v 5 (.int .i64), .v 6 (.int .i64)],[],[],[⟨.exit 0,[.v 5 (.int .i64)],[]⟩],[]⟩ fun n x=>BS N x.1 x.2.1 n x.2.2.1 x.2.2.2.1).fn Tryz.func151)
noncomputable def Tc (N:Nat):bV bA:=(Tb N).ch ⟨150,3,[.v 0 (.ad 64), .v 1 (.ad 3), .v 2 (.ad 22)],[],au8,0,[.v 6 .bool],[],[.tmp 6],au7⟩ (fun r x=>LI N x.1 x.2.1 x.2.2.1) ((((((((((Tb N).u Tryz.f150).aL ⟨[1,0,0],[.v 0 (.ad 64), .v 1 (.ad 3), .v 2 (.ad 22)],[],[],[⟨.normal,[.v 26 .bool],[]⟩],[0,1,2]⟩ fun x=>Jg N x.1 x.2.1 x.2.2.1).aL ⟨[1,1,0,1,0,0,1,0,0,0],[.v 1 (.ad 3), .v 7 (.int .i64)],[],[],[⟨.normal,[.v 44 .bool],[]⟩],[0,1,2,7]⟩ fun x=>Jh N x.1 x.2.1).b5 N ⟨[1,1,0,1,0],[.v 1 (.ad 3), .v 7 (.int .i64)],[],[],[⟨.exit 0,[],[]⟩,⟨.ret,[.v 6 .bool],[]⟩],[0,1,2]⟩ fun n x=>CH N x.1 n x.2.1).aL ⟨[1,1,1,1,0,1,0,0,1,0,0,0,1,0,0,1,0,0,1,0,0],[.v 1 (.ad 3), .o 8 (.ad 4), .v 11 (.int .i64)],[(8, .c (.own 0))],[1],[⟨.normal,[.v 83 .bool],[]⟩],[0,1,2,8,9,10,11]⟩ fun x=>Ji N x.1 x.2.1 x.2.2.1).b5 N ⟨[1,1,1,1,0,1,0,0,1,0,0,0,1,0],[.v 1 (.ad 3), .v 2 (.ad 22), .o 8 (.ad 4), .v 9 (.int .i64), .v 10 (.int .i64)],[(8, .c (.own 0))],[2],[⟨.exit 4,[.u 0 (.ad 4)],[]⟩,⟨.ret,[.v 6 .bool],[]⟩],[0,1,2,8,9]⟩ fun n x=>BT N x.1 x.2.1 x.2.2.2.1 n x.2.2.1 x.2.2.2.2.1).aL ⟨[1,1,1,1,0,1,0,0,1,0,0,1,0],[.v 0 (.ad 64), .v 1 (.ad 3), .v 2 (.ad 22), .o 8 (.ad 4), .v 9 (.int .i64)],[(8, .c (.own 0))],[1],[⟨.normal,[.v 114 .bool],[]⟩],[0,1,2,8,9]⟩ fun x=>Jj N x.1 x.2.1 x.2.2.1 x.2.2.2.2.1).b5 N ⟨[1,1,1,1,0,1,0],[.v 0 (.ad 64), .v 1 (.ad 3), .v 2 (.ad 22), .o 8 (.ad 4), .v 9 (.int .i64)],[(8, .c (.own 0))],[0],[⟨.exit 2,[],[]⟩,⟨.ret,[.v 6 .bool],[]⟩],[]⟩ fun n x=>CI N x.1 x.2.1 x.2.2.1 n x.2.2.2.1 x.2.2.2.2.1).fn Tryz.func150)
noncomputable def abV (N:Nat):qZ bA:=(Tc N).a8.pc fun x bD aj=>match x,bD,aj with| .tmp 86,au8,au8=>7| .tmp 81,au8,au6 (.tmp 82)=>1| .tmp 87,au6 (.tmp 89),au8=>1|_,_,_=>0
noncomputable def Mi (N:Nat):bV bA:=(Tc N).ch ⟨114,4,[.v 0 (.ad 64), .v 1 (.ad 3), .v 2 (.ad 22), .v 3 (.agg 182)],[],au8,0,[.v 8 (.ad 22), .v 9 (.int .i64)],[],[.tmp 8, .tmp 9],ava⟩ (fun r x=>tL N x.1 x.2.1 x.2.2.1 x.2.2.2.1) ((((((dB.nil:dB (abV N) (hO Tryz.f114)).aL ⟨[1,1,0,0],[.v 1 (.ad 3), .v 2 (.ad 22), .o 7 (.box 182)],[(7, .box 0 0)],[1],[⟨.normal,[.v 51 .bool],[]⟩],[0,1,2,7]⟩ fun x=>J2 N x.1 x.2.1 x.2.2.1).aL ⟨[1,1,1,1,0,0],[.o 7 (.box 182), .v 10 (.int .i64)],[(7, .box 0 0)],[1],[⟨.normal,[.v 71 .bool],[]⟩],[0,1,2,7,10,11]⟩ fun x=>J3 N x.1 x.2.1).aL ⟨[1,1,1,1,1,1,0,1],[.o 7 (.box 182), .v 10 (.int .i64), .v 11 (.int .i64), .o 12 (.ne 22 3), .v 75 .bool],[(7, .box 0 0),(12, .c (.own 1))],[1,2],[⟨.normal,[.u 1 (.ne 22 3)],[]⟩],[0,1,7,12]⟩ fun x=>Je N x.2.1 x.2.2.1 x.2.2.2.1 x.2.2.2.2.1).aL ⟨[1,1,1,1,1,1,1,1,0,1],[.o 7 (.box 182), .o 12 (.ne 22 3), .v 98 .bool],[(7, .box 0 0),(12, .c (.own 1))],[1,2],[⟨.normal,[.u 1 (.ne 22 3)],[]⟩],[0,1,7,12]⟩ fun x=>Jf N x.1 x.2.1 x.2.2.1).fn Tryz.func114)
noncomputable def MX:fV D:=⟨86,3,[.o 100000000 (.box 80), .o 100000001 (.box 80), .o 100000002 (.box 93), .o 100000003 (.ad 122), .o 0 (.bG 132 [(32,5)]), .v 1 (.int .i64), .v 2 (.int .i64), .o 2000032 (.ad 182)],[(0, .box 4 0)],[1,1,1,1,2,0],[.v 6 .bool, .o 2000032 (.ad 182), .u 4 (.bG 132 [(32,6)])],[],[6],ava⟩
noncomputable def DR (N:Nat):MX.h2.F:=fun x=>K3 N x.2.2.2.2.1 x.2.2.2.2.2.1 x.2.2.2.2.2.2.1 x.2.2.2.2.2.2.2.1
theorem asQ (N:Nat):gQ bA MX (DR N):=dB.ic (dB.nil:dB (Mi N).a8 (hO Tryz.f86)) Tryz.func86
noncomputable def abm (N:Nat):bV bA:=(Mi N).ia MX (DR N) (asQ N)
noncomputable def Y4:fV D:=⟨86,3,[.o 100000000 (.box 80), .o 100000001 (.box 80), .o 100000002 (.box 93), .o 100000004 (.ad 122), .o 0 (.bG 132 [(32,5)]), .v 1 (.int .i64), .v 2 (.int .i64), .o 2000032 (.ad 182)],[(0, .box 4 0)],[1,1,1,1,2,0],[.v 6 .bool, .o 2000032 (.ad 182), .u 4 (.bG 132 [(32,6)])],[],[6],ava⟩
theorem agv (N:Nat):gQ bA Y4 (DR N):=dB.ic (dB.nil:dB (Mi N).a8 (hO Tryz.f86)) Tryz.func86
noncomputable def Te (N:Nat):bV bA:=(abm N).ia Y4 (DR N) (agv N)
noncomputable def Tf (N:Nat):bV bA:=(Te N).ia ⟨52,1,[.o 100000000 (.box 80), .o 100000001 (.box 80), .o 100000002 (.box 93), .o 0 (.bG 132 [(5,4),(32,5)]), .o 2000005 (.ad 122), .o 2000032 (.ad 182)],[(0, .box 3 0)],[1,1,1,2,0,0],[.v 2 (.int .i64), .o 2000032 (.ad 182), .u 3 (.bG 132 [(32,6)])],[],[2],ava⟩ (fun x=>KM N x.2.2.2.1 x.2.2.2.2.1 x.2.2.2.2.2.1) ((((((((Te N).u Tryz.f52).aL ⟨[1,1,0,0,1,1,0],[.o 100000000 (.box 80), .o 100000001 (.box 80), .o 100000002 (.box 93), .o 0 (.bG 132 [(5,5),(32,6)]), .v 3 (.int .i64), .o 4 (.box 78), .o 2000005 (.ad 122), .o 2000032 (.ad 182)],[(0, .box 3 0),(4, .box 4 0)],[1,1,1,1,1,1,1],[⟨.normal,[.v 31 .bool],[]⟩],[0,3]⟩ fun x=>HQ N x.2.2.2.1 x.2.2.2.2.1 x.2.2.2.2.2.1).aL ⟨[1,1,1,1,1,1,0,1,0,0,1,0,0,1,0,0,1,0,0,1,0],[.o 100000000 (.box 80), .o 100000001 (.box 80), .o 100000002 (.box 93), .o 0 (.bG 132 [(5,5),(32,6)]), .o 5 (.ad 122), .v 8 (.int .i64), .v 9 (.int .i64), .v 10 (.int .i64), .o 2000005 (.ad 122), .o 2000032 (.ad 182)],[(0, .box 3 0),(5, .c (.own 4))],[1,1,1,1,1,1,1],[⟨.normal,[.v 120 .bool],[]⟩],[0,3,5,7,8,9]⟩ fun x=>Hh N x.2.2.2.2.1 x.2.2.2.2.2.1 x.2.2.2.2.2.2.1 x.2.2.2.2.2.2.2.1 x.2.2.2.2.2.2.2.2.1).b5 N ⟨[1,1,1,1,1,1,0,1,0,0,1,0,0,1,0],[.o 100000000 (.box 80), .o 100000001 (.box 80), .o 100000002 (.box 93), .o 0 (.bG 132 [(5,5),(32,6)]), .o 5 (.ad 122), .v 7 (.int .i64), .v 8 (.int .i64), .v 9 (.int .i64), .o 2000005 (.ad 122), .o 2000032 (.ad 182)],[(0, .box 3 0),(5, .c (.own 4))],[1,1,1,1,1,1,1],[⟨.exit 3,[],[]⟩,⟨.ret,[.v 2 (.int .i64)],[]⟩],[0,3,5,7,8]⟩ fun n x=>Ap N x.2.2.2.1 x.2.2.2.2.1 x.2.2.2.2.2.1 x.2.2.2.2.2.2.1 x.2.2.2.2.2.2.2.2.1 n x.2.2.2.2.2.2.2.1).b5 N ⟨[1,1,1,1,1,1,0,1,0],[.o 100000000 (.box 80), .o 100000001 (.box 80), .o 100000002 (.box 93), .o 0 (.bG 132 [(5,5),(32,6)]), .o 5 (.ad 122), .v 7 (.int .i64), .v 8 (.int .i64), .o 2000005 (.ad 122), .o 2000032 (.ad 182)],[(0, .box 3 0),(5, .c (.own 4))],[1,1,1,1,1,1,1],[⟨.exit 1,[],[]⟩,⟨.ret,[.v 2 (.int .i64)],[]⟩],[0,3,5,7]⟩ fun n x=>Ao N x.2.2.2.1 x.2.2.2.2.1 x.2.2.2.2.2.1 x.2.2.2.2.2.2.2.1 n x.2.2.2.2.2.2.1).b5 N ⟨[1,1,1,1,1,1,1,1,1,0,1,0],[.o 100000000 (.box 80), .o 100000001 (.box 80), .o 100000002 (.box 93), .o 0 (.bG 132 [(32,5)]), .v 3 (.int .i64), .o 5 (.ad 122), .v 7 (.int .i64), .v 12 (.int .i64), .o 2000032 (.ad 182)],[(0, .box 3 0),(5, .c (.own 4))],[1,1,1,2,1,0],[⟨.exit 5,[.u 3 (.bG 132 [(32,6)]), .o 2000032 (.ad 182)],[]⟩,⟨.ret,[.u 3 (.bG 132 [(32,6)]), .v 2 (.int .i64), .o 2000032 (.ad 182)],[]⟩],[0]⟩ fun n x=>Aq N x.2.2.2.2.1 x.2.2.2.2.2.1 x.2.2.2.2.2.2.1 n x.2.2.2.1 x.2.2.2.2.2.2.2.1 x.2.2.2.2.2.2.2.2.1).ic Tryz.func52)
noncomputable def Tg (N:Nat):bV bA:=(Tf N).ch ⟨88,2,[.v 0 (.agg 26), .v 1 .str],[],au8,0,[.v 4 (.int .i64)],[],[.tmp 4],au7⟩ (fun r x=>vZ N x.1 x.2.1) ((((Tf N).u Tryz.f88).b5 N ⟨[1,0,1,0],[.v 1 .str, .o 2 (.box 26), .v 5 (.int .i64)],[(2, .box 0 0)],[1],[⟨.exit 0,[],[]⟩,⟨.ret,[.v 4 (.int .i64)],[]⟩],[]⟩ fun n x=>CF N x.1 x.2.1 n x.2.2.1).fn Tryz.func88)
noncomputable def Th (N:Nat):bV bA:=(Tg N).ch ⟨87,2,[.v 0 (.agg 36), .v 1 (.agg 26)],[],au8,0,[.v 4 .bool],[],[.tmp 4],au7⟩ (fun r x=>De N x.1 x.2.1) ((((((Tg N).u Tryz.f87).aL ⟨[1,0,0],[.o 2 (.box 36), .o 3 (.box 26)],[(2, .box 0 0),(3, .box 1 0)],[1,1],[⟨.normal,[.v 34 .bool],[]⟩],[3]⟩ fun x=>HD N x.1 x.2.1).aL ⟨[1,1,0,1,0,0,1,0,0,0],[.o 3 (.box 26), .v 5 (.int .i64)],[(3, .box 0 0)],[1],[⟨.normal,[.v 59 .bool],[]⟩],[3,5]⟩ fun x=>HE N x.1 x.2.1).b5 N ⟨[1,1,0,1,0],[.o 3 (.box 26), .v 5 (.int .i64)],[(3, .box 0 0)],[1],[⟨.exit 0,[],[]⟩,⟨.ret,[.v 4 .bool],[]⟩],[]⟩ fun n x=>AE N x.1 n x.2.1).fn Tryz.func87)
noncomputable def Ti (N:Nat):bV bA:=(Th N).ia ⟨53,1,[.o 100000000 (.box 80), .o 100000001 (.box 80), .o 100000002 (.box 93), .o 0 (.bG 132 [(7,4)]), .o 2000007 (.ad 26)],[(0, .box 3 0)],[1,1,1,2,0],[.v 2 (.int .i64), .o 2000007 (.ad 26), .u 3 (.bG 132 [(7,5)])],[],[2],ava⟩ (fun x=>K2 N x.2.2.2.1 x.2.2.2.2.1) ((((((Th N).u Tryz.f53).aL ⟨[1,1,1,1,0,1,0,0,1,0,0,1,0,0],[.o 100000000 (.box 80), .o 100000001 (.box 80), .o 100000002 (.box 93), .o 0 (.bG 132 [(7,6)]), .o 3 (.box 26), .o 5 (.box 26), .o 2000007 (.ad 26)],[(0, .box 3 0),(3, .box 4 0),(5, .box 5 0)],[1,1,1,1,1,1,1],[⟨.normal,[.v 53 .bool],[]⟩],[0,3,4,5]⟩ fun x=>IL N x.2.2.2.2.1 x.2.2.2.2.2.1).b5 N ⟨[1,1,1,1,0,1,0,0,1,0,0,1,1,1,0],[.o 100000000 (.box 80), .o 100000001 (.box 80), .o 100000002 (.box 93), .o 0 (.bG 132 [(7,6)]), .o 3 (.box 26), .o 5 (.box 26), .v 6 (.int .i64), .o 2000007 (.ad 26)],[(0, .box 3 0),(3, .box 4 0),(5, .box 5 0)],[1,1,1,1,1,1,1],[⟨.exit 2,[],[]⟩,⟨.ret,[.v 2 (.int .i64)],[]⟩],[0,3,4]⟩ fun n x=>Bw N x.2.2.2.2.1 x.2.2.2.2.2.1 n x.2.2.2.2.2.2.1).b5 N ⟨[1,1,1,1,0,1,0],[.o 100000000 (.box 80), .o 100000001 (.box 80), .o 100000002 (.box 93), .o 0 (.bG 132 [(7,5)]), .o 3 (.box 26), .v 4 (.int .i64), .o 2000007 (.ad 26)],[(0, .box 3 0),(3, .box 4 0)],[1,1,1,1,1,1],[⟨.exit 0,[],[]⟩,⟨.ret,[.v 2 (.int .i64)],[]⟩],[0,3]⟩ fun n x=>Bv N x.2.2.2.2.1 x.2.2.2.2.2.2.1 n x.2.2.2.2.2.1).ic Tryz.func53)
noncomputable def Tj (N:Nat):bV bA:=(Ti N).ch ⟨89,1,[],[],au6 (0,132),1,[.v 2 .bool],[],[.tmp 2],ava⟩ (fun r x=>K1 N r) ((((((Ti N).u Tryz.f89).aL ⟨[1,0],[.o 0 (.recv 132)],[(0, .box 0 0)],[1],[⟨.normal,[.v 3 .bool],[]⟩],[0]⟩ fun x=>KQ N x.1).aL ⟨[1,1,0,1,0,0,1,0,0],[.o 0 (.recv 132), .v 3 .bool, .v 4 (.int .i64)],[(0, .box 0 0)],[1],[⟨.normal,[.v 3 .bool],[]⟩],[0,4]⟩ fun x=>KR N x.1 x.2.1 x.2.2.1).b5 N ⟨[1,1,0,1,0],[.o 0 (.recv 132), .v 3 .bool, .v 4 (.int .i64)],[(0, .box 0 0)],[1],[⟨.exit 0,[.v 3 .bool],[]⟩],[0]⟩ fun n x=>Df N x.1 n x.2.1 x.2.2.1).fn Tryz.func89)
noncomputable def Tk (N:Nat):bV bA:=(Tj N).ch ⟨90,1,[],[],au6 (0,132),1,[.v 2 .bool],[],[.tmp 2],ava⟩ (fun r x=>Ls N r) (((((Tj N).u Tryz.f90).aL ⟨[1,1,0,1,0,0,1,0,0],[.o 0 (.recv 132), .v 3 .bool, .v 4 (.int .i64)],[(0, .box 0 0)],[1],[⟨.normal,[.v 3 .bool],[]⟩],[0,4]⟩ fun x=>Le N x.1 x.2.1 x.2.2.1).b5 N ⟨[1,1,0,1,0],[.o 0 (.recv 132), .v 3 .bool, .v 4 (.int .i64)],[(0, .box 0 0)],[1],[⟨.exit 0,[.v 3 .bool],[]⟩],[0]⟩ fun n x=>Dl N x.1 n x.2.1 x.2.2.1).fn Tryz.func90)
noncomputable def Tl (N:Nat):bV bA:=(Tk N).ch ⟨116,2,[.v 0 (.ad 26), .v 1 .str],[],au8,0,[.v 4 (.int .i64), .v 5 (.int .i64)],[],[.tmp 4, .tmp 5],au7⟩ (fun r x=>LK N x.1 x.2.1) ((((Tk N).u Tryz.f116).b5 N ⟨[1,0,1,0],[.v 0 (.ad 26), .v 1 .str, .v 6 (.int .i64)],[],[],[⟨.exit 0,[],[]⟩,⟨.ret,[.v 4 (.int .i64), .v 5 (.int .i64)],[]⟩],[]⟩ fun n x=>BX N x.1 x.2.1 n x.2.2.1).fn Tryz.func116)
noncomputable def Tm (N:Nat):bV bA:=(Tl N).ch ⟨91,2,[.v 0 (.ad 26), .v 1 (.agg 122)],[],au8,0,[.v 1000000 (.agg 162)],[],[.cell 4 162],au7⟩ (fun r x=>x4 N x.1 x.2.1) (((Tl N).u Tryz.f91).fn Tryz.func91)
noncomputable def To (N:Nat):bV bA:=(Tm N).ch ⟨152,1,[.v 0 (.agg 72)],[],au8,0,[.v 2 (.int .i64)],[],[.tmp 2],au7⟩ (fun r x=>Lx N x.1) (((((((Tm N).u Tryz.f152).aL ⟨[1,1,0,0],[.o 1 (.box 72)],[(1, .box 0 0)],[1],[⟨.normal,[.v 16 .bool],[]⟩],[1]⟩ fun x=>H9 N x.1).aL ⟨[1,1,1,0,1,0,0,1,0,0,1,0,0],[.o 1 (.box 72), .o 4 (.box 162)],[(1, .box 0 0),(4, .box 1 0)],[1,1],[⟨.normal,[.v 66 .bool],[]⟩],[1,3,4]⟩ fun x=>JE N x.2.1).aL ⟨[1,1,1,0,1,0,0,1,0,0,1,1,0],[.o 1 (.box 72), .v 3 (.int .i64), .o 4 (.box 162)],[(1, .box 0 0),(4, .box 1 0)],[1,1],[⟨.normal,[.v 80 .bool],[]⟩],[1,3]⟩ fun x=>JF N x.1 x.2.1 x.2.2.1).b5 N ⟨[1,1,1,0,1,0],[.o 1 (.box 72), .v 3 (.int .i64)],[(1, .box 0 0)],[1],[⟨.exit 0,[],[]⟩,⟨.ret,[.v 2 (.int .i64)],[]⟩],[]⟩ fun n x=>AK N x.1 n x.2.1).fn Tryz.func152)
noncomputable def Tp (N:Nat):bV bA:=(To N).ch ⟨205,3,[.v 0 (.agg 72), .v 1 (.int .i64), .v 2 (.int .i64)],[],au8,0,[.v 6 (.int .i64)],[],[.tmp 6],au7⟩ (fun r x=>tM N x.1 x.2.1 x.2.2.1) ((((To N).u Tryz.f205).aL ⟨[1,1,0,0,0],[.o 7 (.box 162), .o 8 (.box 162)],[(7, .box 0 0),(8, .box 1 0)],[1,1],[⟨.normal,[.v 19 .bool],[]⟩],[1,2]⟩ fun x=>Js N x.1 x.2.1).fn Tryz.func205)
noncomputable def Tq (N:Nat):bV bA:=(Tp N).ch ⟨206,3,[.v 0 (.agg 72), .v 1 (.int .i64), .v 2 (.int .i64)],[],au8,0,[.v 6 (.int .i64)],[],[.tmp 6],au7⟩ (fun r x=>vW N x.1 x.2.1 x.2.2.1) (((Tp N).u Tryz.f206).fn Tryz.func206)
noncomputable def Tr (N:Nat):bV bA:=(Tq N).ch ⟨154,3,[.v 0 (.agg 72), .v 1 (.ad 3), .v 2 (.int .i64)],[],au8,0,[.v 6 (.int .i64)],[],[.tmp 6],au7⟩ (fun r x=>x1 N x.1 x.2.1 x.2.2.1) (((((Tq N).u Tryz.f154).aL ⟨[1,1,0,1,0,0,1,0],[.v 1 (.ad 3), .v 2 (.int .i64), .o 3 (.box 72), .v 7 (.int .i64), .v 8 (.int .i64)],[(3, .box 0 0)],[1],[⟨.normal,[.v 7 (.int .i64)],[]⟩],[1,2,3,8]⟩ fun x=>Jr N x.1 x.2.1 x.2.2.1 x.2.2.2.1 x.2.2.2.2.1).b5 N ⟨[1,1,0,1,0],[.v 1 (.ad 3), .v 2 (.int .i64), .o 3 (.box 72), .v 7 (.int .i64), .v 8 (.int .i64)],[(3, .box 0 0)],[1],[⟨.exit 0,[.v 7 (.int .i64)],[]⟩],[]⟩ fun n x=>B3 N x.1 x.2.1 x.2.2.1 n x.2.2.2.1 x.2.2.2.2.1).fn Tryz.func154)
noncomputable def Ts (N:Nat):bV bA:=(Tr N).ch ⟨203,2,[.v 0 (.int .i64), .v 1 (.int .i64)],[],au8,0,[.v 4 .bool],[],[.tmp 4],au7⟩ (fun r x=>Dz N x.1 x.2.1) ((((Tr N).u Tryz.f203).aL ⟨[1,0],[.v 0 (.int .i64), .v 1 (.int .i64)],[],[],[⟨.normal,[.v 4 .bool],[]⟩],[]⟩ fun x=>Ju N x.1 x.2.1).fn Tryz.func203)
noncomputable def Tt (N:Nat):bV bA:=(Ts N).ch ⟨204,3,[.v 0 (.int .i64), .v 1 (.int .i64), .v 2 (.int .i64)],[],au8,0,[.v 6 .bool],[],[.tmp 6],au7⟩ (fun r x=>L2 N x.1 x.2.1 x.2.2.1) (((((Ts N).u Tryz.f204).aL ⟨[1,0,0],[.v 0 (.int .i64), .v 1 (.int .i64), .v 2 (.int .i64)],[],[],[⟨.normal,[.v 30 .bool],[]⟩],[0,1,2]⟩ fun x=>J9 N x.1 x.2.1 x.2.2.1).b5 N ⟨[1,1,1,0,1,0],[.v 7 (.int .i64), .v 8 (.int .i64)],[],[],[⟨.exit 0,[.v 7 (.int .i64)],[]⟩],[2]⟩ fun n x=>CL N n x.1 x.2.1).fn Tryz.func204)
noncomputable def Tu (N:Nat):bV bA:=(Tt N).ch ⟨153,3,[.v 0 (.int .i64), .v 1 (.int .i64), .v 2 (.int .i64)],[],au8,0,[.v 6 (.int .i64), .v 7 (.int .i64)],[],[.tmp 6, .tmp 7],au7⟩ (fun r x=>LP N x.1 x.2.1 x.2.2.1) (((((Tt N).u Tryz.f153).aL ⟨[1,0,0],[.v 0 (.int .i64), .v 1 (.int .i64), .v 2 (.int .i64)],[],[],[⟨.normal,[.v 16 .bool],[]⟩],[0,1,2]⟩ fun x=>Jt N x.1 x.2.1 x.2.2.1).b5 N ⟨[1,1,0,1,0],[.v 1 (.int .i64), .v 2 (.int .i64), .v 8 (.int .i64)],[],[],[⟨.exit 0,[],[]⟩,⟨.ret,[.v 6 (.int .i64), .v 7 (.int .i64)],[]⟩],[]⟩ fun n x=>B5 N x.1 x.2.1 n x.2.2.1).fn Tryz.func153)
noncomputable def Tv (N:Nat):bV bA:=(Tu N).ch ⟨155,1,[.v 0 (.int .i64)],[],au8,0,[.v 2 (.int .i64)],[],[.tmp 2],au7⟩ (fun r x=>LO N x.1) ((((Tu N).u Tryz.f155).b5 N ⟨[1,1,0,0],[.v 0 (.int .i64), .v 3 (.int .i64)],[],[],[⟨.exit 0,[.v 3 (.int .i64)],[]⟩],[]⟩ fun n x=>B4 N n x.1 x.2.1).fn Tryz.func155)
noncomputable def Tw (N:Nat):bV bA:=(Tv N).ch ⟨117,1,[.v 0 (.agg 72)],[],au8,0,[.v 1000000 (.agg 74), .v 3 (.int .i64)],[],[.cell 2 74, .tmp 3],ava⟩ (fun r x=>Dt N x.1) ((((((Tv N).u Tryz.f117).aL ⟨[1,1,1,1,0,1,0,0,1,0,0,1,0,0,1,0],[.o 1 (.box 72), .o 2 (.box 74), .o 5 (.ad 3), .v 6 (.int .i64), .v 7 (.int .i64), .v 8 (.int .i64)],[(1, .box 0 0),(2, .box 1 0),(5, .c (.own 2))],[1,2,2],[⟨.normal,[.u 1 (.box 74), .u 2 (.ad 3), .v 6 (.int .i64)],[]⟩,⟨.ret,[.u 1 (.box 74), .v 3 (.int .i64)],[]⟩],[1,2,5,7,8]⟩ fun x=>JG N x.1 x.2.1 x.2.2.1 x.2.2.2.1 x.2.2.2.2.1 x.2.2.2.2.2.1).b5 N ⟨[1,1,1,1,0,1,0,0,1,0,0,1,0],[.o 1 (.box 72), .o 2 (.box 74), .o 5 (.ad 3), .v 6 (.int .i64), .v 7 (.int .i64), .v 8 (.int .i64)],[(1, .box 0 0),(2, .box 1 0),(5, .c (.own 2))],[1,2,0],[⟨.exit 2,[.u 1 (.box 74), .o 5 (.ad 3), .v 6 (.int .i64)],[(5, .c (.own 3))]⟩,⟨.ret,[.u 1 (.box 74), .v 3 (.int .i64)],[]⟩],[1,2,5,7]⟩ fun n x=>AM N x.1 x.2.2.2.2.1 n x.2.1 x.2.2.1 x.2.2.2.1 x.2.2.2.2.2.1).b5 N ⟨[1,1,1,1,0,1,0],[.o 1 (.box 72), .o 2 (.box 74), .o 5 (.ad 3), .v 6 (.int .i64), .v 7 (.int .i64)],[(1, .box 0 0),(2, .box 1 0),(5, .c (.own 2))],[1,2,0],[⟨.exit 0,[.u 1 (.box 74), .o 5 (.ad 3), .v 6 (.int .i64)],[(5, .c (.own 3))]⟩,⟨.ret,[.u 1 (.box 74), .v 3 (.int .i64)],[]⟩],[2,5]⟩ fun n x=>AL N x.1 n x.2.1 x.2.2.1 x.2.2.2.1 x.2.2.2.2.1).fn Tryz.func117)
noncomputable def Tx (N:Nat):bV bA:=(Tw N).ch ⟨156,2,[.v 0 (.agg 72), .v 1 (.ad 3)],[],au8,0,[.o 4 (.ad 3)],[(4, .c (.own 0))],[.tmp 4],ava⟩ (fun r x=>LN N x.1 x.2.1) ((((((((Tw N).u Tryz.f156).aL ⟨[1,1,1,0,1,0,0,1,0],[.v 1 (.ad 3), .o 2 (.box 72), .v 5 (.int .i64), .v 6 (.int .i64)],[(2, .box 0 0)],[1],[⟨.normal,[.v 5 (.int .i64)],[]⟩],[1,2,6]⟩ fun x=>Jp N x.1 x.2.2.1 x.2.2.2.1).b5 N ⟨[1,1,1,0,1,0],[.v 1 (.ad 3), .o 2 (.box 72), .v 5 (.int .i64), .v 6 (.int .i64)],[(2, .box 0 0)],[1],[⟨.exit 0,[.v 5 (.int .i64)],[]⟩],[1,2]⟩ fun n x=>B0 N x.1 n x.2.2.1 x.2.2.2.1).aL ⟨[1,1,1,1,1,0,1,0,0,1,0,0,1,0,0,0,0,0],[.v 1 (.ad 3), .o 2 (.box 72), .v 5 (.int .i64), .o 7 (.ad 3), .v 8 (.int .i64), .v 9 (.int .i64)],[(2, .box 0 0),(7, .c (.own 1))],[1,1],[⟨.normal,[.v 58 .bool],[]⟩],[1,2,5,7,8,9]⟩ fun x=>Jq N x.1 x.2.1 x.2.2.1 x.2.2.2.2.1 x.2.2.2.2.2.1).b5 N ⟨[1,1,1,1,1,0,1,0,0,1,0,0,1,0,0],[.v 1 (.ad 3), .o 2 (.box 72), .v 5 (.int .i64), .o 7 (.ad 3), .v 8 (.int .i64), .v 9 (.int .i64)],[(2, .box 0 0),(7, .c (.own 1))],[1,1],[⟨.exit 4,[.v 9 (.int .i64)],[]⟩],[1,2,7]⟩ fun n x=>B2 N x.1 x.2.1 x.2.2.1 x.2.2.2.2.1 n x.2.2.2.2.2.1).b5 N ⟨[1,1,1,1,1,0,1,0],[.v 1 (.ad 3), .o 2 (.box 72), .v 5 (.int .i64), .o 7 (.ad 3), .v 8 (.int .i64)],[(2, .box 0 0),(7, .c (.own 1))],[1,0],[⟨.exit 2,[.o 7 (.ad 3)],[(7, .c (.own 2))]⟩],[]⟩ fun n x=>B1 N x.1 x.2.1 n x.2.2.1 x.2.2.2.1 x.2.2.2.2.1).fn Tryz.func156)
noncomputable def Tz (N:Nat):bV bA:=(Tx N).ch ⟨118,1,[.v 0 (.agg 72)],[],au8,0,[.o 2 (.ad 3), .v 3 (.int .i64)],[(2, .c (.own 0))],[.tmp 2, .tmp 3],ava⟩ (fun r x=>K9 N x.1) (((Tx N).u Tryz.f118).fn Tryz.func118)
noncomputable def TA (N:Nat):bV bA:=(Tz N).ch ⟨92,1,[.v 0 (.agg 72)],[],au8,0,[.v 1000000 (.agg 76), .v 3 (.int .i64)],[],[.cell 2 76, .tmp 3],ava⟩ (fun r x=>DA N x.1) (((Tz N).u Tryz.f92).fn Tryz.func92)
noncomputable def TB (N:Nat):bV bA:=(TA N).ch ⟨99,2,[.v 0 (.agg 80), .v 1 (.ad 3)],[],au8,0,[.v 4 (.int .i64)],[],[.tmp 4],au7⟩ (fun r x=>DD N x.1 x.2.1) ((((TA N).u Tryz.f99).b5 N ⟨[1,1,0,1,0],[.v 1 (.ad 3), .o 2 (.box 80), .v 5 (.int .i64), .v 6 (.int .i64)],[(2, .box 0 0)],[1],[⟨.exit 0,[.v 5 (.int .i64)],[]⟩],[]⟩ fun n x=>Cf N x.1 x.2.1 n x.2.2.1 x.2.2.2.1).fn Tryz.func99)
noncomputable def DW (N:Nat):bV bA:=(TB N).ch ⟨93,6,[.v 0 (.agg 36), .v 1 (.agg 80), .v 2 (.agg 72), .v 3 (.agg 74), .v 4 (.ad 3), .v 5 (.ad 22)],[],au8,0,[.v 12 .bool],[],[.tmp 12],au7⟩ (fun r x=>DE N x.1 x.2.1 x.2.2.1 x.2.2.2.1 x.2.2.2.2.1 x.2.2.2.2.2.1) (((((((((TB N).u Tryz.f93).aL ⟨[1,1,0,1,0,0,1,0,0,1,0,1,0,0,1,0],[.o 6 (.box 36), .o 7 (.box 80), .o 8 (.box 72), .o 9 (.box 74), .v 13 (.int .i64), .v 14 (.int .i64), .v 15 (.int .i64)],[(6, .box 0 0),(7, .box 1 0),(8, .box 2 0),(9, .box 3 0)],[1,1,1,1],[⟨.normal,[.v 14 (.int .i64)],[]⟩],[4,5,6,7,8,9,13,15]⟩ fun x=>I5 N x.2.2.1 x.2.2.2.1 x.2.2.2.2.1 x.2.2.2.2.2.1 x.2.2.2.2.2.2.1).b5 N ⟨[1,1,0,1,0,0,1,0,0,1,0,1,0],[.o 6 (.box 36), .o 7 (.box 80), .o 8 (.box 72), .o 9 (.box 74), .v 13 (.int .i64), .v 14 (.int .i64), .v 15 (.int .i64)],[(6, .box 0 0),(7, .box 1 0),(8, .box 2 0),(9, .box 3 0)],[1,1,1,1],[⟨.exit 2,[.v 14 (.int .i64)],[]⟩],[4,5,6,7,8,9,13]⟩ fun n x=>Ch N x.2.2.1 x.2.2.2.1 x.2.2.2.2.1 n x.2.2.2.2.2.1 x.2.2.2.2.2.2.1).b5 N ⟨[1,1,0,1,0],[.v 4 (.ad 3), .o 6 (.box 36), .o 7 (.box 80), .o 8 (.box 72), .o 9 (.box 74), .v 13 (.int .i64)],[(6, .box 0 0),(7, .box 1 0),(8, .box 2 0),(9, .box 3 0)],[1,1,1,1],[⟨.exit 0,[],[]⟩,⟨.ret,[.v 12 .bool],[]⟩],[5,6,7,8]⟩ fun n x=>Cg N x.1 x.2.1 x.2.2.2.1 x.2.2.2.2.1 n x.2.2.2.2.2.1).aL ⟨[1,1,1,0,1,0,0,1,0,0,1,0,1,0,0,1,0],[.o 6 (.box 36), .o 7 (.box 80), .o 8 (.box 72), .v 16 (.int .i64), .v 17 (.int .i64), .v 18 (.int .i64)],[(6, .box 0 0),(7, .box 1 0),(8, .box 2 0)],[1,1,1],[⟨.normal,[.v 17 (.int .i64)],[]⟩],[5,6,7,8,16,18]⟩ fun x=>I6 N x.2.2.1 x.2.2.2.1 x.2.2.2.2.1 x.2.2.2.2.2.1).b5 N ⟨[1,1,1,0,1,0,0,1,0,0,1,0,1,0],[.o 6 (.box 36), .o 7 (.box 80), .o 8 (.box 72), .v 16 (.int .i64), .v 17 (.int .i64), .v 18 (.int .i64)],[(6, .box 0 0),(7, .box 1 0),(8, .box 2 0)],[1,1,1],[⟨.exit 6,[.v 17 (.int .i64)],[]⟩],[5,6,7,8,16]⟩ fun n x=>BJ N x.2.2.1 x.2.2.2.1 n x.2.2.2.2.1 x.2.2.2.2.2.1).b5 N ⟨[1,1,1,0,1,0],[.v 5 (.ad 22), .o 6 (.box 36), .o 7 (.box 80), .o 8 (.box 72), .v 16 (.int .i64)],[(6, .box 0 0),(7, .box 1 0),(8, .box 2 0)],[1,1,1],[⟨.exit 4,[],[]⟩,⟨.ret,[.v 12 .bool],[]⟩],[]⟩ fun n x=>Ci N x.1 x.2.1 x.2.2.1 x.2.2.2.1 n x.2.2.2.2.1).fn Tryz.func93)
noncomputable def MW:fV D:=⟨94,4,[.o 100000000 (.box 80), .o 100000001 (.box 80), .o 100000002 (.box 93), .o 100000003 (.box 72), .o 100000004 (.box 76), .o 0 (.box 132), .v 1 (.ad 3), .v 2 (.agg 72), .v 3 (.agg 76)],[(0, .box 5 0)],[1,1,1,1,1,2],[.o 2000016 (.ad 3), .o 2000034 (.ad 3), .o 2000035 (.ad 3), .u 5 (.bG 132 [(16,6),(34,7),(35,8)])],[],[],ava⟩
noncomputable def v9 (N:Nat):MW.h2.F:=fun x=>Di N x.2.2.2.2.2.1 x.2.2.2.2.2.2.1 x.2.2.2.2.2.2.2.1 x.2.2.2.2.2.2.2.2.1
theorem asP (N:Nat):gQ bA MW (v9 N):=dB.ic (dB.nil:dB (DW N).a8 (hO Tryz.f94)) Tryz.func94
noncomputable def abn (N:Nat):bV bA:=(DW N).ia MW (v9 N) (asP N)
noncomputable def Ym:fV D:=⟨94,4,[.o 100000000 (.box 80), .o 100000001 (.box 80), .o 100000002 (.box 93), .o 100000006 (.box 72), .o 100000009 (.box 76), .o 0 (.box 132), .v 1 (.ad 3), .v 2 (.agg 72), .v 3 (.agg 76)],[(0, .box 5 0)],[1,1,1,1,1,2],[.o 2000016 (.ad 3), .o 2000034 (.ad 3), .o 2000035 (.ad 3), .u 5 (.bG 132 [(16,6),(34,7),(35,8)])],[],[],ava⟩
theorem aqW (N:Nat):gQ bA Ym (v9 N):=dB.ic (dB.nil:dB (DW N).a8 (hO Tryz.f94)) Tryz.func94
noncomputable def TC (N:Nat):bV bA:=(abn N).ia Ym (v9 N) (aqW N)
noncomputable def Mj (N:Nat):bV bA:=(TC N).ia ⟨54,1,[.o 100000000 (.box 80), .o 100000001 (.box 80), .o 100000002 (.box 93), .o 0 (.box 132)],[(0, .box 3 0)],[1,1,1,2],[.v 2 (.int .i64), .u 3 (.box 132)],[],[2],ava⟩ (fun x=>Lg N x.2.2.2.1) ((((((((TC N).u Tryz.f54).aL ⟨[1,1,1,1,0,1,0,0,1,0,0],[.o 100000000 (.box 80), .o 100000001 (.box 80), .o 100000002 (.box 93), .o 0 (.box 132), .v 3 .bool, .v 4 (.int .i64)],[(0, .box 3 0)],[1,1,1,1],[⟨.normal,[.v 3 .bool],[]⟩],[0,4]⟩ fun x=>Ib N x.2.2.2.1 x.2.2.2.2.1 x.2.2.2.2.2.1).b5 N ⟨[1,1,1,1,0,1,0],[.o 100000000 (.box 80), .o 100000001 (.box 80), .o 100000002 (.box 93), .o 0 (.box 132), .v 3 .bool, .v 4 (.int .i64)],[(0, .box 3 0)],[1,1,1,1],[⟨.exit 0,[.v 3 .bool],[]⟩],[0]⟩ fun n x=>BG N x.2.2.2.1 n x.2.2.2.2.1 x.2.2.2.2.2.1).b5 N ⟨[1,1,1,1,1,1,1,1,0,1,0],[.o 100000000 (.box 80), .o 100000001 (.box 80), .o 100000002 (.box 93), .o 0 (.box 132), .o 5 (.ad 3), .o 6 (.bG 72 [(0,6)]), .v 7 (.int .i64), .o 2006000 (.ad 162)],[(0, .box 3 0),(5, .c (.own 4)),(6, .box 5 0)],[1,1,1,1,1,2,0],[⟨.exit 2,[.u 5 (.bG 72 [(0,7)]), .o 2006000 (.ad 162)],[]⟩,⟨.ret,[.v 2 (.int .i64)],[]⟩],[0,5,6]⟩ fun n x=>BH N x.2.2.2.1 x.2.2.2.2.1 n x.2.2.2.2.2.1 x.2.2.2.2.2.2.1 x.2.2.2.2.2.2.2.1).aL ⟨[1,1,1,1,1,1,1,1,1,1,0,1,0,0,1,0,0,1,1,0],[.o 100000000 (.box 80), .o 100000001 (.box 80), .o 100000002 (.box 93), .o 0 (.box 132), .o 5 (.ad 3), .o 6 (.bG 72 [(0,6)]), .v 8 (.int .i64), .v 9 (.ad 3), .v 10 (.int .i64), .o 2006000 (.ad 162)],[(0, .box 3 0),(5, .c (.own 4)),(6, .box 5 0)],[1,1,1,1,1,1,1],[⟨.normal,[.v 171 .bool],[]⟩],[0,5,6,8]⟩ fun x=>Ic N x.2.2.2.1 x.2.2.2.2.2.2.1 x.2.2.2.2.2.2.2.1 x.2.2.2.2.2.2.2.2.1 x.2.2.2.2.2.2.2.2.2.1).b5 N ⟨[1,1,1,1,1,1,1,1,1,1,0,1,0],[.o 100000000 (.box 80), .o 100000001 (.box 80), .o 100000002 (.box 93), .o 0 (.box 132), .o 5 (.ad 3), .o 6 (.bG 72 [(0,6)]), .v 8 (.int .i64), .o 2006000 (.ad 162)],[(0, .box 3 0),(5, .c (.own 4)),(6, .box 5 0)],[1,1,1,1,1,1,1],[⟨.exit 4,[],[]⟩,⟨.ret,[.v 2 (.int .i64)],[]⟩],[0,5,6]⟩ fun n x=>BI N x.2.2.2.1 x.2.2.2.2.1 x.2.2.2.2.2.2.2.1 n x.2.2.2.2.2.2.1).ic Tryz.func54)
noncomputable def MV:fV D:=⟨86,3,[.o 100000000 (.box 80), .o 100000001 (.box 80), .o 100000002 (.box 93), .o 100000003 (.ad 3), .o 100000004 (.ad 3), .o 0 (.bG 132 [(32,6)]), .v 1 (.int .i64), .v 2 (.int .i64), .o 2000032 (.ad 182)],[(0, .box 5 0)],[1,1,1,1,1,2,0],[.v 6 .bool, .o 2000032 (.ad 182), .u 5 (.bG 132 [(32,7)])],[],[6],ava⟩
noncomputable def DQ (N:Nat):MV.h2.F:=fun x=>KT N x.2.2.2.2.2.1 x.2.2.2.2.2.2.1 x.2.2.2.2.2.2.2.1 x.2.2.2.2.2.2.2.2.1
theorem asO (N:Nat):gQ bA MV (DQ N):=dB.ic (dB.nil:dB (Mj N).a8 (hO Tryz.f86)) Tryz.func86
noncomputable def abo (N:Nat):bV bA:=(Mj N).ia MV (DQ N) (asO N)
noncomputable def Y3:fV D:=⟨86,3,[.o 100000000 (.box 80), .o 100000001 (.box 80), .o 100000002 (.box 93), .o 100000004 (.ad 3), .o 100000005 (.ad 3), .o 0 (.bG 132 [(32,6)]), .v 1 (.int .i64), .v 2 (.int .i64), .o 2000032 (.ad 182)],[(0, .box 5 0)],[1,1,1,1,1,2,0],[.v 6 .bool, .o 2000032 (.ad 182), .u 5 (.bG 132 [(32,7)])],[],[6],ava⟩
theorem agu (N:Nat):gQ bA Y3 (DQ N):=dB.ic (dB.nil:dB (Mj N).a8 (hO Tryz.f86)) Tryz.func86
noncomputable def TD (N:Nat):bV bA:=(abo N).ia Y3 (DQ N) (agu N)
noncomputable def TE (N:Nat):bV bA:=(TD N).ia ⟨95,1,[.o 100000000 (.box 80), .o 100000001 (.box 80), .o 100000002 (.box 93), .o 0 (.box 132)],[(0, .box 3 0)],[1,1,1,2],[.u 3 (.box 132)],[],[],ava⟩ (fun x=>KO N x.2.2.2.1) (((TD N).u Tryz.f95).ic Tryz.func95)
noncomputable def TG (N:Nat):bV bA:=(TE N).ia ⟨55,1,[.o 100000000 (.box 80), .o 100000001 (.box 80), .o 100000002 (.box 93), .o 0 (.bG 132 [(32,4)]), .o 2000032 (.ad 182)],[(0, .box 3 0)],[1,1,1,2,0],[.v 2 (.int .i64), .u 3 (.box 132)],[],[2],ava⟩ (fun x=>Lh N x.2.2.2.1 x.2.2.2.2.1) ((((((((((((TE N).u Tryz.f55).aL ⟨[1,1,1,1,1,1,0,1,0,0,1,0,0,1,0],[.o 100000000 (.box 80), .o 100000001 (.box 80), .o 100000002 (.box 93), .o 0 (.bG 132 [(32,7)]), .v 4 (.ad 3), .o 5 (.ad 3), .o 6 (.ad 3), .o 8 (.box 48), .o 2000032 (.ad 182)],[(0, .box 3 0),(5, .c (.own 4)),(6, .c (.own 5)),(8, .box 6 0)],[1,1,1,1,1,1,1,1],[⟨.normal,[.v 95 .bool],[]⟩],[0,3,4,5,6,7]⟩ fun x=>Ie N x.2.2.2.1 x.2.2.2.2.1 x.2.2.2.2.2.2.2.1).b5 N ⟨[1,1,1,1,1,1,0,1,0],[.o 100000000 (.box 80), .o 100000001 (.box 80), .o 100000002 (.box 93), .o 0 (.bG 132 [(32,6)]), .v 4 (.ad 3), .o 5 (.ad 3), .o 6 (.ad 3), .v 7 (.int .i64), .o 2000032 (.ad 182)],[(0, .box 3 0),(5, .c (.own 4)),(6, .c (.own 5))],[1,1,1,1,1,1,1],[⟨.exit 1,[],[]⟩,⟨.ret,[.v 2 (.int .i64)],[]⟩],[0,3,4,5,6]⟩ fun n x=>AT N x.2.2.2.1 x.2.2.2.2.1 n x.2.2.2.2.2.2.2.1).b5 N ⟨[1,1,1,1,1,1,1,0,1,0,0,1,0,0,1,0],[.o 100000000 (.box 80), .o 100000001 (.box 80), .o 100000002 (.box 93), .o 0 (.bG 132 [(32,6)]), .o 5 (.ad 3), .o 6 (.ad 3), .v 9 (.int .i64), .v 10 (.int .i64), .o 2000032 (.ad 182)],[(0, .box 3 0),(5, .c (.own 4)),(6, .c (.own 5))],[1,1,1,1,1,1,1],[⟨.exit 5,[],[]⟩,⟨.ret,[.v 2 (.int .i64)],[]⟩],[0,3,4,5,6,9]⟩ fun n x=>AV N x.2.2.2.1 x.2.2.2.2.2.2.1 n x.2.2.2.2.2.2.2.1).b5 N ⟨[1,1,1,1,1,1,1,0,1,0],[.o 100000000 (.box 80), .o 100000001 (.box 80), .o 100000002 (.box 93), .o 0 (.bG 132 [(32,6)]), .o 5 (.ad 3), .o 6 (.ad 3), .v 9 (.int .i64), .o 2000032 (.ad 182)],[(0, .box 3 0),(5, .c (.own 4)),(6, .c (.own 5))],[1,1,1,1,1,1,1],[⟨.exit 3,[],[]⟩,⟨.ret,[.v 2 (.int .i64)],[]⟩],[0,3,4,5,6]⟩ fun n x=>AU N x.2.2.2.1 n x.2.2.2.2.2.2.1).b5 N ⟨[1,1,1,1,1,1,1,1,0,1,0],[.o 100000000 (.box 80), .o 100000001 (.box 80), .o 100000002 (.box 93), .o 0 (.bG 132 [(32,6)]), .v 3 (.int .i64), .o 5 (.ad 3), .o 6 (.ad 3), .v 11 (.int .i64), .o 2000032 (.ad 182)],[(0, .box 3 0),(5, .c (.own 4)),(6, .c (.own 5))],[1,1,1,1,1,2,1],[⟨.exit 7,[.u 5 (.ad 3)],[]⟩,⟨.ret,[.v 2 (.int .i64)],[]⟩],[0,4,5,6]⟩ fun n x=>AW N x.2.2.2.1 x.2.2.2.2.1 n x.2.2.2.2.2.2.1 x.2.2.2.2.2.2.2.1).aL ⟨[1,1,1,1,1,1,1,1,1,0,1,0,0,1,0,0,1],[.o 100000000 (.box 80), .o 100000001 (.box 80), .o 100000002 (.box 93), .o 0 (.bG 132 [(32,6)]), .o 5 (.ad 3), .o 6 (.ad 3), .v 12 (.int .i64), .o 2000032 (.ad 182)],[(0, .box 3 0),(5, .c (.own 4)),(6, .c (.own 5))],[1,1,1,2,1,1,1],[⟨.normal,[.u 3 (.bG 132 [(32,6)])],[]⟩],[0,4,5,6,12]⟩ fun x=>Ig N x.2.2.2.1 x.2.2.2.2.1 x.2.2.2.2.2.1 x.2.2.2.2.2.2.1).b5 N ⟨[1,1,1,1,1,1,1,1,1,0,1,0],[.o 100000000 (.box 80), .o 100000001 (.box 80), .o 100000002 (.box 93), .o 0 (.bG 132 [(32,6)]), .v 4 (.ad 3), .o 5 (.ad 3), .o 6 (.ad 3), .v 12 (.int .i64), .o 2000032 (.ad 182)],[(0, .box 3 0),(5, .c (.own 4)),(6, .c (.own 5))],[1,1,1,2,1,1,0],[⟨.exit 9,[.u 3 (.bG 132 [(32,7)]), .o 2000032 (.ad 182)],[]⟩,⟨.ret,[.u 3 (.bG 132 [(32,7)]), .v 2 (.int .i64), .o 2000032 (.ad 182)],[]⟩],[0]⟩ fun n x=>AX N x.2.2.2.2.1 x.2.2.2.2.2.1 x.2.2.2.2.2.2.1 n x.2.2.2.1 x.2.2.2.2.2.2.2.1 x.2.2.2.2.2.2.2.2.1).aL ⟨[1,1,1,1,1,1,1,1,1,1,1,0,0],[.o 100000000 (.box 80), .o 100000001 (.box 80), .o 100000002 (.box 93), .o 0 (.bG 132 [(32,4)]), .o 2000032 (.ad 182)],[(0, .box 3 0)],[1,1,1,1,1],[⟨.normal,[.v 241 .bool],[]⟩],[0]⟩ fun x=>Ih N x.2.2.2.1).aL ⟨[1,1,1,1,1,1,1,1,1,1,1,0,1],[.o 100000000 (.box 80), .o 100000001 (.box 80), .o 100000002 (.box 93), .o 0 (.bG 132 [(32,4)]), .v 241 .bool, .o 2000032 (.ad 182)],[(0, .box 3 0)],[1,1,1,2,0],[⟨.normal,[.u 3 (.box 132)],[]⟩],[0]⟩ fun x=>Ii N x.2.2.2.1 x.2.2.2.2.1 x.2.2.2.2.2.1).ic Tryz.func55)
noncomputable def TH (N:Nat):bV bA:=(TG N).ch ⟨89,1,[.v 0 (.g4 132)],[],au8,0,[.v 2 .bool],[],[.tmp 2],au7⟩ (fun r x=>KP N x.1) ((((((TG N).u Tryz.f89).aL ⟨[1,0],[.v 0 (.g4 132)],[],[],[⟨.normal,[.v 3 .bool],[]⟩],[0]⟩ fun x=>Hi N x.1).aL ⟨[1,1,0,1,0,0,1,0,0],[.v 0 (.g4 132), .v 3 .bool, .v 4 (.int .i64)],[],[],[⟨.normal,[.v 3 .bool],[]⟩],[0,4]⟩ fun x=>Hj N x.1 x.2.1 x.2.2.1).b5 N ⟨[1,1,0,1,0],[.v 0 (.g4 132), .v 3 .bool, .v 4 (.int .i64)],[],[],[⟨.exit 0,[.v 3 .bool],[]⟩],[]⟩ fun n x=>Bj N x.1 n x.2.1 x.2.2.1).fn Tryz.func89)
noncomputable def TI (N:Nat):bV bA:=(TH N).ch ⟨90,1,[.v 0 (.g4 132)],[],au8,0,[.v 2 .bool],[],[.tmp 2],au7⟩ (fun r x=>Ld N x.1) (((((TH N).u Tryz.f90).aL ⟨[1,1,0,1,0,0,1,0,0],[.v 0 (.g4 132), .v 3 .bool, .v 4 (.int .i64)],[],[],[⟨.normal,[.v 3 .bool],[]⟩],[0,4]⟩ fun x=>I1 N x.1 x.2.1 x.2.2.1).b5 N ⟨[1,1,0,1,0],[.v 0 (.g4 132), .v 3 .bool, .v 4 (.int .i64)],[],[],[⟨.exit 0,[.v 3 .bool],[]⟩],[]⟩ fun n x=>BE N x.1 n x.2.1 x.2.2.1).fn Tryz.func90)
noncomputable def TJ (N:Nat):bV bA:=(TI N).ch ⟨119,2,[.v 0 (.ad 3), .v 1 (.int .i64)],[],au8,0,[.v 4 (.int .i64)],[],[.tmp 4],au7⟩ (fun r x=>LJ N x.1 x.2.1) ((((TI N).u Tryz.f119).b5 N ⟨[1,0,1,0],[.v 0 (.ad 3), .v 1 (.int .i64), .v 5 (.int .i64)],[],[],[⟨.exit 0,[],[]⟩,⟨.ret,[.v 4 (.int .i64)],[]⟩],[]⟩ fun n x=>BW N x.1 x.2.1 n x.2.2.1).fn Tryz.func119)
noncomputable def TK (N:Nat):bV bA:=(TJ N).ch ⟨96,4,[.v 0 (.ad 122), .v 1 (.ad 22), .v 2 (.ad 26), .v 3 (.ad 3)],[],au8,0,[.v 1000000 (.agg 169), .o 9 (.ad 3)],[(9, .c (.own 0))],[.cell 8 169, .tmp 9],ava⟩ (fun r x=>LU N x.1 x.2.1 x.2.2.1 x.2.2.2.1) ((((((((((((TJ N).u Tryz.f96).aL ⟨[1,1,1,0,1,0,0,1,0,0,1,1,0,1,0,0,1,0,0],[.v 2 (.ad 26), .o 8 (.box 169), .o 10 (.bG 169 [(0,3),(1,4),(2,5)]), .o 11 (.ad 3), .v 13 (.int .i64), .v 15 .bool, .v 16 (.int .i64), .o 2010000 (.ad 162), .o 2010001 (.ad 3), .o 2010002 (.ad 22)],[(8, .box 0 0),(10, .box 1 0),(11, .c (.own 2))],[1,1,1,1,1,1],[⟨.normal,[.v 15 .bool],[]⟩],[0,1,2,3,8,10,11,12,13,16]⟩ fun x=>JA N x.1 x.2.2.2.2.1 x.2.2.2.2.2.1 x.2.2.2.2.2.2.1).b5 N ⟨[1,1,1,0,1,0,0,1,0,0,1,1,0,1,0],[.v 2 (.ad 26), .o 8 (.box 169), .o 10 (.bG 169 [(0,3),(1,4),(2,5)]), .o 11 (.ad 3), .v 13 (.int .i64), .v 15 .bool, .v 16 (.int .i64), .o 2010000 (.ad 162), .o 2010001 (.ad 3), .o 2010002 (.ad 22)],[(8, .box 0 0),(10, .box 1 0),(11, .c (.own 2))],[1,1,1,1,1,1],[⟨.exit 2,[.v 15 .bool],[]⟩],[0,1,2,3,8,10,11,12,13]⟩ fun n x=>Cb N x.1 x.2.2.2.2.1 n x.2.2.2.2.2.1 x.2.2.2.2.2.2.1).aL ⟨[1,1,1,0,1,0,0,1,0,0,1,1,1,0],[.o 8 (.box 169), .o 10 (.bG 169 [(0,3),(1,4),(2,5)]), .o 11 (.ad 3), .v 13 (.int .i64), .v 15 .bool, .o 2010000 (.ad 162), .o 2010001 (.ad 3), .o 2010002 (.ad 22)],[(8, .box 0 0),(10, .box 1 0),(11, .c (.own 2))],[1,1,1,1,1,1],[⟨.normal,[.v 58 .bool],[]⟩],[0,1,2,3,8,10,11,12]⟩ fun x=>JB N x.2.2.2.1 x.2.2.2.2.1).aL ⟨[1,1,1,0,1,0,0,1,0],[.v 0 (.ad 122), .v 1 (.ad 22), .v 2 (.ad 26), .v 3 (.ad 3), .o 8 (.box 169), .o 10 (.bG 169 [(0,3),(1,4),(2,5)]), .o 11 (.ad 3), .v 12 (.int .i64), .o 2010000 (.ad 162), .o 2010001 (.ad 3), .o 2010002 (.ad 22)],[(8, .box 0 0),(10, .box 1 0),(11, .c (.own 2))],[1,2,0,0,1,1],[⟨.normal,[.u 1 (.bG 169 [(0,7),(1,4),(2,5)]), .o 11 (.ad 3), .o 2010000 (.ad 162)],[(11, .c (.own 6))]⟩],[0,1,2,3,8,10,12]⟩ fun x=>Jz N x.1 x.2.1 x.2.2.1 x.2.2.2.1 x.2.2.2.2.2.2.1 x.2.2.2.2.2.2.2.1 x.2.2.2.2.2.2.2.2.1).b5 N ⟨[1,1,1,0,1,0],[.v 0 (.ad 122), .v 1 (.ad 22), .v 2 (.ad 26), .v 3 (.ad 3), .o 8 (.box 169), .o 10 (.bG 169 [(0,3),(1,4),(2,5)]), .o 11 (.ad 3), .v 12 (.int .i64), .o 2010000 (.ad 162), .o 2010001 (.ad 3), .o 2010002 (.ad 22)],[(8, .box 0 0),(10, .box 1 0),(11, .c (.own 2))],[1,2,0,0,1,1],[⟨.exit 0,[.u 1 (.bG 169 [(0,7),(1,4),(2,5)]), .o 11 (.ad 3), .o 2010000 (.ad 162)],[(11, .c (.own 6))]⟩],[1,2,8,10]⟩ fun n x=>Ca N x.1 x.2.1 x.2.2.1 x.2.2.2.1 n x.2.2.2.2.2.1 x.2.2.2.2.2.2.1 x.2.2.2.2.2.2.2.1 x.2.2.2.2.2.2.2.2.1).b5 N ⟨[1,1,1,1,0,1,0],[.v 2 (.ad 26), .o 8 (.box 169), .o 10 (.bG 169 [(0,3),(1,4),(2,5)]), .o 11 (.ad 3), .v 17 (.int .i64), .o 2010000 (.ad 162), .o 2010001 (.ad 3), .o 2010002 (.ad 22)],[(8, .box 0 0),(10, .box 1 0),(11, .c (.own 2))],[1,2,1,1,0,1],[⟨.exit 4,[.u 1 (.bG 169 [(0,3),(1,6),(2,5)]), .o 2010001 (.ad 3)],[]⟩],[1,8,10,11]⟩ fun n x=>Cc N x.1 n x.2.2.1 x.2.2.2.2.1 x.2.2.2.2.2.2.1).aL ⟨[1,1,1,1,1,0,1,0,0,1,0,0,1,0,1,0,0,1,0],[.v 1 (.ad 22), .o 8 (.box 169), .o 10 (.bG 169 [(0,4),(1,5),(2,6)]), .o 11 (.ad 3), .v 18 (.int .i64), .o 19 (.ad 3), .v 20 (.int .i64), .o 2010000 (.ad 162), .o 2010001 (.ad 3), .o 2010002 (.ad 22)],[(8, .box 0 0),(10, .box 1 0),(11, .c (.own 2)),(19, .c (.own 3))],[1,1,1,0,1,1,1],[⟨.normal,[.o 19 (.ad 3)],[(19, .c (.own 7))]⟩],[1,8,10,11,18,20]⟩ fun x=>JC N x.1 x.2.2.2.1 x.2.2.2.2.1 x.2.2.2.2.2.1 x.2.2.2.2.2.2.1).b5 N ⟨[1,1,1,1,1,0,1,0,0,1,0,0,1,0,1,0],[.v 1 (.ad 22), .o 8 (.box 169), .o 10 (.bG 169 [(0,4),(1,5),(2,6)]), .o 11 (.ad 3), .v 18 (.int .i64), .o 19 (.ad 3), .v 20 (.int .i64), .o 2010000 (.ad 162), .o 2010001 (.ad 3), .o 2010002 (.ad 22)],[(8, .box 0 0),(10, .box 1 0),(11, .c (.own 2)),(19, .c (.own 3))],[1,1,1,0,1,1,1],[⟨.exit 8,[.o 19 (.ad 3)],[(19, .c (.own 7))]⟩],[1,8,10,11,18]⟩ fun n x=>Ce N x.1 x.2.2.2.1 x.2.2.2.2.1 n x.2.2.2.2.2.1 x.2.2.2.2.2.2.1).b5 N ⟨[1,1,1,1,1,0,1,0],[.v 1 (.ad 22), .o 8 (.box 169), .o 10 (.bG 169 [(0,3),(1,4),(2,5)]), .o 11 (.ad 3), .v 18 (.int .i64), .o 2010000 (.ad 162), .o 2010001 (.ad 3), .o 2010002 (.ad 22)],[(8, .box 0 0),(10, .box 1 0),(11, .c (.own 2))],[1,2,1,1,1,0],[⟨.exit 6,[.u 1 (.bG 169 [(0,3),(1,4),(2,6)]), .o 2010002 (.ad 22)],[]⟩],[8,10,11]⟩ fun n x=>Cd N x.1 x.2.2.2.1 n x.2.2.1 x.2.2.2.2.1 x.2.2.2.2.2.2.2.1).fn Tryz.func96)
noncomputable def TL (N:Nat):bV bA:=(TK N).ch ⟨120,1,[.v 0 (.agg 169)],[],au8,0,[.v 2 .bool],[],[.tmp 2],au7⟩ (fun r x=>Du N x.1) (((((((((((((TK N).u Tryz.f120).aL ⟨[1,0,0],[.o 1 (.box 169)],[(1, .box 0 0)],[1],[⟨.normal,[.v 27 .bool],[]⟩],[1]⟩ fun x=>JK N x.1).aL ⟨[1,1,0,1,0,0,1,0,0,1,0],[.o 1 (.box 169), .o 4 (.box 162)],[(1, .box 0 0),(4, .box 1 0)],[1,1],[⟨.normal,[.v 75 .bool],[]⟩],[1,3]⟩ fun x=>JL N x.1 x.2.1).b5 N ⟨[1,1,0,1,0],[.o 1 (.box 169), .v 3 (.int .i64)],[(1, .box 0 0)],[1],[⟨.exit 0,[],[]⟩,⟨.ret,[.v 2 .bool],[]⟩],[1]⟩ fun n x=>AR N x.1 n x.2.1).aL ⟨[1,1,1,0,1,0,0,1,0,0,0,0],[.o 1 (.box 169), .v 5 (.int .i64)],[(1, .box 0 0)],[1],[⟨.normal,[.v 99 .bool],[]⟩],[1,5]⟩ fun x=>JM N x.1 x.2.1).b5 N ⟨[1,1,1,0,1,0,0,1,0,0,1,1,0],[.o 1 (.box 169), .v 5 (.int .i64), .v 6 (.int .i64)],[(1, .box 0 0)],[1],[⟨.exit 4,[],[]⟩,⟨.ret,[.v 2 .bool],[]⟩],[1,5]⟩ fun n x=>Cj N x.1 x.2.1 n x.2.2.1).b5 N ⟨[1,1,1,0,1,0],[.o 1 (.box 169), .v 5 (.int .i64)],[(1, .box 0 0)],[1],[⟨.exit 2,[],[]⟩,⟨.ret,[.v 2 .bool],[]⟩],[1]⟩ fun n x=>AS N x.1 n x.2.1).aL ⟨[1,1,1,1,1,0,1,0,0,1,0,0,1,0,0,1,0,0,1,0,0],[.o 1 (.box 169), .o 7 (.ad 3), .v 10 (.int .i64)],[(1, .box 0 0),(7, .c (.own 1))],[1,1],[⟨.normal,[.v 152 .bool],[]⟩],[1,7,8,9,10]⟩ fun x=>JN N x.2.1 x.2.2.1).b5 N ⟨[1,1,1,1,1,0,1,0,0,1,0,0,1,0],[.o 1 (.box 169), .o 7 (.ad 3), .v 8 (.int .i64), .v 9 (.int .i64)],[(1, .box 0 0),(7, .c (.own 1))],[1,2],[⟨.exit 8,[.u 1 (.ad 3)],[]⟩,⟨.ret,[.v 2 .bool],[]⟩],[1,7,8]⟩ fun n x=>Cl N x.1 x.2.2.1 n x.2.1 x.2.2.2.1).b5 N ⟨[1,1,1,1,1,0,1,0],[.o 1 (.box 169), .o 7 (.ad 3), .v 8 (.int .i64)],[(1, .box 0 0),(7, .c (.own 1))],[1,0],[⟨.exit 6,[.o 7 (.ad 3)],[(7, .c (.own 2))]⟩,⟨.ret,[.v 2 .bool],[]⟩],[7]⟩ fun n x=>Ck N x.1 n x.2.1 x.2.2.1).b5 N ⟨[1,1,1,1,1,1,0,1,0],[.o 7 (.ad 3), .v 11 (.int .i64)],[(7, .c (.own 0))],[1],[⟨.exit 10,[],[]⟩,⟨.ret,[.v 2 .bool],[]⟩],[]⟩ fun n x=>Cm N x.1 n x.2.1).fn Tryz.func120)
noncomputable def TM (N:Nat):bV bA:=(TL N).ch ⟨121,1,[.v 0 (.agg 169)],[],au8,0,[.o 2 (.ad 240)],[(2, .c (.own 0))],[.tmp 2],ava⟩ (fun r x=>Dw N x.1) (((((TL N).u Tryz.f121).b5 N ⟨[1,1,0,1,0,0,1,0,0,1,0],[.o 1 (.box 169), .o 3 (.ad 240), .v 4 (.int .i64), .v 5 (.int .i64)],[(1, .box 0 0),(3, .c (.own 1))],[1,2],[⟨.exit 2,[.u 1 (.ad 240)],[]⟩],[1,3,4]⟩ fun n x=>Cw N x.1 x.2.2.1 n x.2.1 x.2.2.2.1).b5 N ⟨[1,1,0,1,0],[.o 1 (.box 169), .o 3 (.ad 240), .v 4 (.int .i64)],[(1, .box 0 0),(3, .c (.own 1))],[1,2],[⟨.exit 0,[.u 1 (.ad 240)],[]⟩],[3]⟩ fun n x=>Cv N x.1 n x.2.1 x.2.2.1).fn Tryz.func121)
noncomputable def TN (N:Nat):bV bA:=(TM N).ch ⟨157,3,[.v 0 (.agg 169), .v 1 (.ad 240), .v 2 (.int .i64)],[],au8,0,[.v 6 .bool],[],[.tmp 6],au7⟩ (fun r x=>x2 N x.1 x.2.1 x.2.2.1) (((TM N).u Tryz.f157).fn Tryz.func157)
noncomputable def TO (N:Nat):bV bA:=(TN N).ch ⟨159,3,[.v 0 (.ad 240), .v 1 (.int .i64), .v 2 (.int .i64)],[],au8,0,[.v 6 .bool],[],[.tmp 6],au7⟩ (fun r x=>vY N x.1 x.2.1 x.2.2.1) ((((TN N).u Tryz.f159).aL ⟨[1,0],[.v 0 (.ad 240), .v 1 (.int .i64), .v 2 (.int .i64)],[],[],[⟨.normal,[.v 6 .bool],[]⟩],[]⟩ fun x=>Is N x.1 x.2.1 x.2.2.1).fn Tryz.func159)
noncomputable def TP (N:Nat):bV bA:=(TO N).ch ⟨160,3,[.v 0 (.agg 169), .v 1 (.int .i64), .v 2 (.int .i64)],[],au8,0,[.v 6 .bool],[],[.tmp 6],au7⟩ (fun r x=>vX N x.1 x.2.1 x.2.2.1) ((((TO N).u Tryz.f160).aL ⟨[1,0],[.v 1 (.int .i64), .v 2 (.int .i64), .o 3 (.box 169)],[(3, .box 0 0)],[1],[⟨.normal,[.v 6 .bool],[]⟩],[]⟩ fun x=>Ir N x.1 x.2.1 x.2.2.1).fn Tryz.func160)
noncomputable def TR (N:Nat):bV bA:=(TP N).ch ⟨158,4,[.v 0 (.agg 169), .v 1 (.ad 240), .v 2 (.int .i64), .v 3 (.int .i64)],[],au8,0,[.v 8 .bool],[],[.tmp 8],au7⟩ (fun r x=>xX N x.1 x.2.1 x.2.2.1 x.2.2.2.1) ((((TP N).u Tryz.f158).aL ⟨[1,0],[.v 1 (.ad 240), .v 2 (.int .i64), .v 3 (.int .i64), .o 4 (.box 169)],[(4, .box 0 0)],[1],[⟨.normal,[.v 8 .bool],[]⟩],[]⟩ fun x=>Iq N x.1 x.2.1 x.2.2.1 x.2.2.2.1).fn Tryz.func158)
noncomputable def TS (N:Nat):bV bA:=(TR N).ch ⟨122,3,[.v 0 (.agg 169), .v 1 (.ad 240), .v 2 (.int .i64)],[],au8,0,[.v 1000000 (.agg 175), .v 7 .bool],[],[.cell 6 175, .tmp 7],au7⟩ (fun r x=>Dv N x.1 x.2.1 x.2.2.1) ((((TR N).u Tryz.f122).b5 N ⟨[1,1,0,1,0],[.v 1 (.ad 240), .v 2 (.int .i64), .o 3 (.box 169), .o 6 (.box 175), .v 8 (.int .i64)],[(3, .box 0 0),(6, .box 1 0)],[1,2],[⟨.exit 0,[.u 1 (.box 175)],[]⟩,⟨.ret,[.u 1 (.box 175), .v 7 .bool],[]⟩],[6]⟩ fun n x=>Cs N x.1 x.2.1 x.2.2.1 n x.2.2.2.1 x.2.2.2.2.1).fn Tryz.func122)
noncomputable def TT (N:Nat):bV bA:=(TS N).ch ⟨123,5,[.v 0 (.agg 169), .v 1 (.ad 240), .v 2 (.ad 3), .v 3 (.int .i64), .v 4 (.int .i64)],[],au8,0,[.v 1000000 (.agg 175), .v 11 .bool],[],[.cell 10 175, .tmp 11],au7⟩ (fun r x=>LA N x.1 x.2.1 x.2.2.1 x.2.2.2.1 x.2.2.2.2.1) (((((((TS N).u Tryz.f123).aL ⟨[1,0,1,0,0,1,0,0,0],[.v 1 (.ad 240), .v 2 (.ad 3), .v 3 (.int .i64), .v 4 (.int .i64), .o 5 (.box 169), .o 10 (.box 175), .v 12 (.int .i64)],[(5, .box 0 0),(10, .box 1 0)],[1,1],[⟨.normal,[.v 39 .bool],[]⟩],[1,2,3,4,5,10,12]⟩ fun x=>JR N x.1 x.2.1 x.2.2.1 x.2.2.2.1 x.2.2.2.2.2.2.1).b5 N ⟨[1,0,1,0],[.v 1 (.ad 240), .v 2 (.ad 3), .v 3 (.int .i64), .v 4 (.int .i64), .o 5 (.box 169), .o 10 (.box 175), .v 12 (.int .i64)],[(5, .box 0 0),(10, .box 1 0)],[1,2],[⟨.exit 0,[.u 1 (.box 175)],[]⟩,⟨.ret,[.u 1 (.box 175), .v 11 .bool],[]⟩],[2,3,4,5,10]⟩ fun n x=>Ct N x.1 x.2.1 x.2.2.1 x.2.2.2.1 x.2.2.2.2.1 n x.2.2.2.2.2.1 x.2.2.2.2.2.2.1).aL ⟨[1,1,0,1,0,0,1,0,0,0],[.v 2 (.ad 3), .v 3 (.int .i64), .v 4 (.int .i64), .o 5 (.box 169), .o 10 (.box 175), .v 13 (.int .i64)],[(5, .box 0 0),(10, .box 1 0)],[1,1],[⟨.normal,[.v 69 .bool],[]⟩],[2,3,4,5,10,13]⟩ fun x=>JS N x.1 x.2.1 x.2.2.1 x.2.2.2.1 x.2.2.2.2.2.1).b5 N ⟨[1,1,0,1,0],[.v 2 (.ad 3), .v 3 (.int .i64), .v 4 (.int .i64), .o 5 (.box 169), .o 10 (.box 175), .v 13 (.int .i64)],[(5, .box 0 0),(10, .box 1 0)],[1,2],[⟨.exit 2,[.u 1 (.box 175)],[]⟩,⟨.ret,[.u 1 (.box 175), .v 11 .bool],[]⟩],[10]⟩ fun n x=>Cu N x.1 x.2.1 x.2.2.1 x.2.2.2.1 n x.2.2.2.2.1 x.2.2.2.2.2.1).fn Tryz.func123)
noncomputable def Mk (N:Nat):bV bA:=(TT N).ch ⟨97,1,[.v 0 (.agg 169)],[],au8,0,[.o 2 (.ad 175), .v 3 (.int .i64)],[(2, .c (.own 0))],[.tmp 2, .tmp 3],ava⟩ (fun r x=>Ly N x.1) ((((((((((TT N).u Tryz.f97).aL ⟨[1,1,1,1,1,0,1,0,0,1,0],[.o 1 (.box 169), .o 4 (.ad 240), .o 5 (.ad 175), .o 6 (.ad 3), .v 7 (.int .i64)],[(1, .box 0 0),(4, .c (.own 1)),(5, .c (.own 2)),(6, .c (.own 3))],[1,1,2,2],[⟨.normal,[.u 2 (.ad 175), .u 3 (.ad 3)],[]⟩],[1,4,5,6,7]⟩ fun x=>JH N x.1 x.2.1 x.2.2.1 x.2.2.2.1 x.2.2.2.2.1).b5 N ⟨[1,1,1,1,1,0,1,0],[.o 1 (.box 169), .o 4 (.ad 240), .o 5 (.ad 175), .o 6 (.ad 3), .v 7 (.int .i64)],[(1, .box 0 0),(4, .c (.own 1)),(5, .c (.own 2)),(6, .c (.own 3))],[1,1,2,2],[⟨.exit 0,[.u 2 (.ad 175), .u 3 (.ad 3)],[]⟩],[1,4,5,6]⟩ fun n x=>AN N x.1 x.2.1 n x.2.2.1 x.2.2.2.1 x.2.2.2.2.1).aL ⟨[1,1,1,1,1,1,0,1,0,0,1,0,0,1,1,0,0,1,0],[.o 1 (.box 169), .o 4 (.ad 240), .o 5 (.ad 175), .o 6 (.ad 3), .v 10 (.int .i64), .v 11 .bool, .v 12 (.int .i64)],[(1, .box 0 0),(4, .c (.own 1)),(5, .c (.own 2)),(6, .c (.own 3))],[1,1,2,2],[⟨.normal,[.u 2 (.ad 175), .u 3 (.ad 3), .v 11 .bool],[]⟩],[1,4,5,6,10,12]⟩ fun x=>JI N x.1 x.2.1 x.2.2.1 x.2.2.2.1 x.2.2.2.2.1 x.2.2.2.2.2.1 x.2.2.2.2.2.2.1).b5 N ⟨[1,1,1,1,1,1,0,1,0,0,1,0,0,1,1,0],[.o 1 (.box 169), .o 4 (.ad 240), .o 5 (.ad 175), .o 6 (.ad 3), .v 10 (.int .i64), .v 11 .bool, .v 12 (.int .i64)],[(1, .box 0 0),(4, .c (.own 1)),(5, .c (.own 2)),(6, .c (.own 3))],[1,1,2,2],[⟨.exit 4,[.u 2 (.ad 175), .u 3 (.ad 3), .v 11 .bool],[]⟩],[1,4,5,6,10]⟩ fun n x=>AP N x.1 x.2.1 x.2.2.2.2.1 n x.2.2.1 x.2.2.2.1 x.2.2.2.2.2.1 x.2.2.2.2.2.2.1).b5 N ⟨[1,1,1,1,1,1,0,1,0],[.o 1 (.box 169), .o 4 (.ad 240), .o 5 (.ad 175), .o 6 (.ad 3), .v 10 (.int .i64), .v 11 .bool],[(1, .box 0 0),(4, .c (.own 1)),(5, .c (.own 2)),(6, .c (.own 3))],[1,1,2,2],[⟨.exit 2,[.u 2 (.ad 175), .u 3 (.ad 3)],[]⟩],[5,6]⟩ fun n x=>AO N x.1 x.2.1 n x.2.2.1 x.2.2.2.1 x.2.2.2.2.1 x.2.2.2.2.2.1).aL ⟨[1,1,1,1,1,1,1,1,0,1,0,0,1,0],[.o 5 (.ad 175), .o 6 (.ad 3), .o 15 (.ad 175), .v 16 (.int .i64)],[(5, .c (.own 0)),(6, .c (.own 1)),(15, .c (.own 2))],[1,1,0],[⟨.normal,[.o 15 (.ad 175)],[(15, .c (.own 3))]⟩],[5,6,16]⟩ fun x=>JJ N x.1 x.2.1 x.2.2.1 x.2.2.2.1).b5 N ⟨[1,1,1,1,1,1,1,1,0,1,0],[.o 5 (.ad 175), .o 6 (.ad 3), .o 15 (.ad 175), .v 16 (.int .i64)],[(5, .c (.own 0)),(6, .c (.own 1)),(15, .c (.own 2))],[1,1,0],[⟨.exit 6,[.o 15 (.ad 175)],[(15, .c (.own 3))]⟩],[]⟩ fun n x=>AQ N x.1 x.2.1 n x.2.2.1 x.2.2.2.1).fn Tryz.func97)
noncomputable def MT:fV D:=⟨95,1,[.o 100000000 (.box 80), .o 100000001 (.box 80), .o 100000002 (.box 93), .o 100000003 (.ad 3), .o 100000004 (.box 169), .o 100000005 (.ad 175), .o 0 (.box 132)],[(0, .box 6 0)],[1,1,1,1,1,1,2],[.u 6 (.box 132)],[],[],ava⟩
noncomputable def DO (N:Nat):MT.h2.F:=fun x=>KF N x.2.2.2.2.2.2.1
theorem asL (N:Nat):gQ bA MT (DO N):=dB.ic (dB.nil:dB (Mk N).a8 (hO Tryz.f95)) Tryz.func95
noncomputable def abp (N:Nat):bV bA:=(Mk N).ia MT (DO N) (asL N)
noncomputable def X5:fV D:=⟨95,1,[.o 100000000 (.box 80), .o 100000001 (.box 80), .o 100000002 (.box 93), .o 100000006 (.ad 3), .o 100000007 (.box 169), .o 100000008 (.ad 175), .o 0 (.box 132)],[(0, .box 6 0)],[1,1,1,1,1,1,2],[.u 6 (.box 132)],[],[],ava⟩
theorem aqV (N:Nat):gQ bA X5 (DO N):=dB.ic (dB.nil:dB (Mk N).a8 (hO Tryz.f95)) Tryz.func95
noncomputable def TU (N:Nat):bV bA:=(abp N).ia X5 (DO N) (aqV N)
noncomputable def TV (N:Nat):bV bA:=(TU N).ch ⟨161,4,[.v 0 (.agg 169), .v 1 (.ad 240), .v 2 (.ad 3), .v 3 (.agg 175)],[],au8,0,[.v 8 .bool],[],[.tmp 8],au7⟩ (fun r x=>KK N x.1 x.2.1 x.2.2.1 x.2.2.2.1) ((((((((TU N).u Tryz.f161).aL ⟨[1,0,1,0,0],[.v 1 (.ad 240), .o 4 (.box 169), .o 7 (.box 175)],[(4, .box 0 0),(7, .box 1 0)],[1,1],[⟨.normal,[.v 8 .bool],[]⟩],[]⟩ fun x=>HI N x.1 x.2.1 x.2.2.1).aL ⟨[1,1,1,0,0],[.o 4 (.box 169), .o 7 (.box 175), .v 9 (.int .i64)],[(4, .box 0 0),(7, .box 1 0)],[1,1],[⟨.normal,[.v 35 .bool],[]⟩],[1,2,4,7,9]⟩ fun x=>HJ N x.1 x.2.2.1).aL ⟨[1,1,1,1,0],[.v 2 (.ad 3), .o 4 (.box 169), .o 7 (.box 175), .v 9 (.int .i64)],[(4, .box 0 0),(7, .box 1 0)],[1,1],[⟨.normal,[.v 10 .bool],[]⟩],[1,4,7,9]⟩ fun x=>HK N x.1 x.2.2.1 x.2.2.2.1).aL ⟨[1,1,1,1,1,0,1,0,1,0,0],[.v 1 (.ad 240), .o 7 (.box 175), .v 9 (.int .i64), .v 10 .bool],[(7, .box 0 0)],[1],[⟨.normal,[.v 8 .bool],[]⟩],[]⟩ fun x=>HL N x.1 x.2.1 x.2.2.1 x.2.2.2.1).aL ⟨[1,1,1,1,1,0,1,0,1,1,1,0,0],[.v 1 (.ad 240), .o 4 (.box 169), .o 7 (.box 175), .v 9 (.int .i64), .v 10 .bool],[(4, .box 0 0),(7, .box 1 0)],[1,1],[⟨.normal,[.v 8 .bool],[]⟩],[]⟩ fun x=>HM N x.1 x.2.1 x.2.2.1 x.2.2.2.1 x.2.2.2.2.1).fn Tryz.func161)
noncomputable def TW (N:Nat):bV bA:=(TV N).ch ⟨124,2,[.v 0 (.agg 169), .v 1 (.ad 175)],[],au8,0,[.v 4 .bool],[],[.tmp 4],au7⟩ (fun r x=>Lz N x.1 x.2.1) (((((((((((TV N).u Tryz.f124).b5 N ⟨[1,1,1,0,1,0],[.o 2 (.box 169), .o 5 (.ad 240), .o 6 (.ad 3), .v 7 (.int .i64)],[(2, .box 0 0),(5, .c (.own 1)),(6, .c (.own 2))],[1,1,2],[⟨.exit 0,[.u 2 (.ad 3)],[]⟩],[1,2,5,6]⟩ fun n x=>Cn N n x.2.2.1 x.2.2.2.1).aL ⟨[1,1,1,1,0,1,0,0,1,0,0,1,0,0],[.v 1 (.ad 175), .o 2 (.box 169), .o 5 (.ad 240), .o 6 (.ad 3), .v 8 (.int .i64), .v 9 (.int .i64)],[(2, .box 0 0),(5, .c (.own 1)),(6, .c (.own 2))],[1,1,1],[⟨.normal,[.v 63 .bool],[]⟩],[1,2,5,6,8,9]⟩ fun x=>JO N x.1 x.2.2.2.1 x.2.2.2.2.1 x.2.2.2.2.2.1).b5 N ⟨[1,1,1,1,0,1,0],[.v 1 (.ad 175), .o 2 (.box 169), .o 5 (.ad 240), .o 6 (.ad 3), .v 8 (.int .i64)],[(2, .box 0 0),(5, .c (.own 1)),(6, .c (.own 2))],[1,1,2],[⟨.exit 2,[.u 2 (.ad 3)],[]⟩,⟨.ret,[.v 4 .bool],[]⟩],[1,2,5,6]⟩ fun n x=>Co N x.1 n x.2.2.2.1 x.2.2.2.2.1).b5 N ⟨[1,1,1,1,1,0,1,0],[.v 1 (.ad 175), .o 2 (.box 169), .o 5 (.ad 240), .o 6 (.ad 3), .v 10 (.int .i64)],[(2, .box 0 0),(5, .c (.own 1)),(6, .c (.own 2))],[1,1,1],[⟨.exit 4,[],[]⟩,⟨.ret,[.v 4 .bool],[]⟩],[2,5,6]⟩ fun n x=>Cp N x.1 x.2.1 x.2.2.1 x.2.2.2.1 n x.2.2.2.2.1).aL ⟨[1,1,1,1,1,1,0,1,0,0,1,0,0,1,1,1,0,0,1,0,0,0],[.o 2 (.box 169), .o 5 (.ad 240), .o 6 (.ad 3), .v 11 (.int .i64), .v 14 (.int .i64)],[(2, .box 0 0),(5, .c (.own 1)),(6, .c (.own 2))],[1,1,1],[⟨.normal,[.v 128 .bool],[]⟩],[2,5,6,11,14]⟩ fun x=>JQ N x.1 x.2.1 x.2.2.1 x.2.2.2.1 x.2.2.2.2.1).b5 N ⟨[1,1,1,1,1,1,0,1,0,0,1,0,0,1,1,1,0],[.o 2 (.box 169), .o 5 (.ad 240), .o 6 (.ad 3), .v 11 (.int .i64), .v 14 (.int .i64)],[(2, .box 0 0),(5, .c (.own 1)),(6, .c (.own 2))],[1,1,1],[⟨.exit 8,[],[]⟩,⟨.ret,[.v 4 .bool],[]⟩],[2,5,6,11]⟩ fun n x=>Cr N x.1 x.2.1 x.2.2.1 x.2.2.2.1 n x.2.2.2.2.1).aL ⟨[1,1,1,1,1,1,0,1,0,0,1,0],[.o 2 (.box 169), .o 5 (.ad 240), .o 6 (.ad 3), .v 11 (.int .i64)],[(2, .box 0 0),(5, .c (.own 1)),(6, .c (.own 2))],[1,1,1],[⟨.normal,[],[]⟩,⟨.ret,[.v 4 .bool],[]⟩],[2,5,6,11]⟩ fun x=>JP N x.1 x.2.1 x.2.2.1 x.2.2.2.1).b5 N ⟨[1,1,1,1,1,1,0,1,0],[.o 2 (.box 169), .o 5 (.ad 240), .o 6 (.ad 3), .v 11 (.int .i64)],[(2, .box 0 0),(5, .c (.own 1)),(6, .c (.own 2))],[1,1,1],[⟨.exit 6,[],[]⟩,⟨.ret,[.v 4 .bool],[]⟩],[]⟩ fun n x=>Cq N x.1 x.2.1 x.2.2.1 n x.2.2.2.1).fn Tryz.func124)
noncomputable def TX (N:Nat):bV bA:=(TW N).ch ⟨125,2,[.v 0 (.ad 175), .v 1 (.int .i64)],[],au8,0,[.v 4 .bool],[],[.tmp 4],au7⟩ (fun r x=>Ll N x.1 x.2.1) ((((TW N).u Tryz.f125).b5 N ⟨[1,0,1,0],[.v 0 (.ad 175), .v 1 (.int .i64), .v 5 (.int .i64)],[],[],[⟨.exit 0,[],[]⟩,⟨.ret,[.v 4 .bool],[]⟩],[]⟩ fun n x=>A3 N x.1 x.2.1 n x.2.2.1).fn Tryz.func125)
noncomputable def Ml (N:Nat):bV bA:=(TX N).ch ⟨98,3,[.v 0 (.agg 169), .v 1 (.ad 175), .v 2 (.int .i64)],[],au8,0,[.v 1000000 (.agg 72), .o 7 (.ad 3), .v 8 (.int .i64)],[(7, .c (.own 0))],[.cell 6 72, .tmp 7, .tmp 8],ava⟩ (fun r x=>L0 N x.1 x.2.1 x.2.2.1) (((((((TX N).u Tryz.f98).aL ⟨[1,0,0,1,1,0],[.v 2 (.int .i64), .o 3 (.box 169), .o 6 (.box 72)],[(3, .box 0 0),(6, .box 1 0)],[1,1],[⟨.normal,[.v 19 .bool],[]⟩],[1,2,3,6]⟩ fun x=>J6 N x.1).aL ⟨[1,1,1,1,0,1,0,0,1,0,0,1,0,0,1,0],[.v 1 (.ad 175), .o 3 (.box 169), .o 6 (.box 72), .o 9 (.bG 72 [(0,4)]), .o 10 (.ad 3), .v 11 (.int .i64), .v 12 (.int .i64), .o 2009000 (.ad 162)],[(3, .box 0 0),(6, .box 1 0),(9, .box 2 0),(10, .c (.own 3))],[1,1,2,0,0],[⟨.normal,[.u 2 (.bG 72 [(0,6)]), .o 10 (.ad 3), .o 2009000 (.ad 162)],[(10, .c (.own 5))]⟩],[1,3,6,9,11,12]⟩ fun x=>J7 N x.1 x.2.1 x.2.2.2.1 x.2.2.2.2.1 x.2.2.2.2.2.1 x.2.2.2.2.2.2.1 x.2.2.2.2.2.2.2.1).b5 N ⟨[1,1,1,1,0,1,0,0,1,0,0,1,0],[.v 1 (.ad 175), .o 3 (.box 169), .o 6 (.box 72), .o 9 (.bG 72 [(0,4)]), .o 10 (.ad 3), .v 11 (.int .i64), .v 12 (.int .i64), .o 2009000 (.ad 162)],[(3, .box 0 0),(6, .box 1 0),(9, .box 2 0),(10, .c (.own 3))],[1,1,2,0,0],[⟨.exit 3,[.u 2 (.bG 72 [(0,6)]), .o 10 (.ad 3), .o 2009000 (.ad 162)],[(10, .c (.own 5))]⟩],[1,3,6,9,11]⟩ fun n x=>BQ N x.1 x.2.1 x.2.2.2.2.2.1 n x.2.2.2.1 x.2.2.2.2.1 x.2.2.2.2.2.2.1 x.2.2.2.2.2.2.2.1).b5 N ⟨[1,1,1,1,0,1,0],[.v 1 (.ad 175), .o 3 (.box 169), .o 6 (.box 72), .o 9 (.bG 72 [(0,4)]), .o 10 (.ad 3), .v 11 (.int .i64), .o 2009000 (.ad 162)],[(3, .box 0 0),(6, .box 1 0),(9, .box 2 0),(10, .c (.own 3))],[1,1,2,0,0],[⟨.exit 1,[.u 2 (.bG 72 [(0,6)]), .o 10 (.ad 3), .o 2009000 (.ad 162)],[(10, .c (.own 5))]⟩],[6,9]⟩ fun n x=>BP N x.1 x.2.1 n x.2.2.2.1 x.2.2.2.2.1 x.2.2.2.2.2.1 x.2.2.2.2.2.2.1).fn Tryz.func98)
noncomputable def MU:fV D:=⟨86,3,[.o 100000000 (.box 80), .o 100000001 (.box 80), .o 100000002 (.box 93), .o 100000003 (.box 72), .o 100000004 (.ad 3), .o 100000005 (.box 76), .o 0 (.bG 132 [(32,7)]), .v 1 (.int .i64), .v 2 (.int .i64), .o 2000032 (.ad 182)],[(0, .box 6 0)],[1,1,1,1,1,1,2,0],[.v 6 .bool, .o 2000032 (.ad 182), .u 6 (.bG 132 [(32,8)])],[],[6],ava⟩
noncomputable def DP (N:Nat):MU.h2.F:=fun x=>KG N x.2.2.2.2.2.2.1 x.2.2.2.2.2.2.2.1 x.2.2.2.2.2.2.2.2.1 x.2.2.2.2.2.2.2.2.2.1
theorem asM (N:Nat):gQ bA MU (DP N):=dB.ic (dB.nil:dB (Ml N).a8 (hO Tryz.f86)) Tryz.func86
noncomputable def abf (N:Nat):bV bA:=(Ml N).ia MU (DP N) (asM N)
noncomputable def Y2:fV D:=⟨86,3,[.o 100000000 (.box 80), .o 100000001 (.box 80), .o 100000002 (.box 93), .o 100000004 (.box 72), .o 100000005 (.ad 3), .o 100000006 (.box 76), .o 0 (.bG 132 [(32,7)]), .v 1 (.int .i64), .v 2 (.int .i64), .o 2000032 (.ad 182)],[(0, .box 6 0)],[1,1,1,1,1,1,2,0],[.v 6 .bool, .o 2000032 (.ad 182), .u 6 (.bG 132 [(32,8)])],[],[6],ava⟩
theorem agt (N:Nat):gQ bA Y2 (DP N):=dB.ic (dB.nil:dB (Ml N).a8 (hO Tryz.f86)) Tryz.func86
noncomputable def abg (N:Nat):bV bA:=(abf N).ia Y2 (DP N) (agt N)
noncomputable def Yn:fV D:=⟨94,4,[.o 100000000 (.box 80), .o 100000001 (.box 80), .o 100000002 (.box 93), .o 100000011 (.box 72), .o 100000016 (.box 76), .o 0 (.box 132), .v 1 (.ad 3), .v 2 (.agg 72), .v 3 (.agg 76)],[(0, .box 5 0)],[1,1,1,1,1,2],[.o 2000016 (.ad 3), .o 2000034 (.ad 3), .o 2000035 (.ad 3), .u 5 (.bG 132 [(16,6),(34,7),(35,8)])],[],[],ava⟩
theorem aqX (N:Nat):gQ bA Yn (v9 N):=dB.ic (dB.nil:dB (DW N).a8 (hO Tryz.f94)) Tryz.func94
noncomputable def RJ (N:Nat):bV bA:=(abg N).ia Yn (v9 N) (aqX N)
noncomputable def RK (N:Nat):bV bA:=(RJ N).ia ⟨56,1,[.o 100000000 (.box 80), .o 100000001 (.box 80), .o 100000002 (.box 93), .o 0 (.bG 132 [(32,4),(36,5)]), .o 2000032 (.ad 182), .o 2000036 (.ad 175)],[(0, .box 3 0)],[1,1,1,2,0,0],[.v 2 (.int .i64), .u 3 (.box 132)],[],[2],ava⟩ (fun x=>KS N x.2.2.2.1 x.2.2.2.2.1 x.2.2.2.2.2.1) ((((((((((((RJ N).u Tryz.f56).aL ⟨[1,1,1,1,1,1,0,1,0,0,1,0,0,1,1,0,1],[.o 100000000 (.box 80), .o 100000001 (.box 80), .o 100000002 (.box 93), .o 0 (.bG 132 [(32,8),(36,9)]), .o 3 (.box 169), .o 4 (.ad 3), .o 5 (.ad 175), .o 8 (.box 175), .v 94 .bool, .o 2000032 (.ad 182), .o 2000036 (.ad 175)],[(0, .box 3 0),(3, .box 4 0),(4, .c (.own 5)),(5, .c (.own 6)),(8, .box 7 0)],[1,1,1,1,1,1,1,2,1,1],[⟨.normal,[.u 7 (.box 175)],[]⟩],[0,3,4,5,7,8]⟩ fun x=>Hk N x.2.2.2.2.2.1 x.2.2.2.2.2.2.2.1 x.2.2.2.2.2.2.2.2.1).b5 N ⟨[1,1,1,1,1,1,0,1,0],[.o 100000000 (.box 80), .o 100000001 (.box 80), .o 100000002 (.box 93), .o 0 (.bG 132 [(32,7),(36,8)]), .o 3 (.box 169), .o 4 (.ad 3), .o 5 (.ad 175), .v 7 (.int .i64), .o 2000032 (.ad 182), .o 2000036 (.ad 175)],[(0, .box 3 0),(3, .box 4 0),(4, .c (.own 5)),(5, .c (.own 6))],[1,1,1,2,1,1,1,1,0],[⟨.exit 1,[.u 3 (.bG 132 [(32,7),(36,9)]), .o 2000036 (.ad 175)],[]⟩],[0,3,4,5]⟩ fun n x=>Bk N x.2.2.2.2.2.1 x.2.2.2.2.2.2.1 n x.2.2.2.1 x.2.2.2.2.2.2.2.1 x.2.2.2.2.2.2.2.2.2.1).b5 N ⟨[1,1,1,1,1,1,1,1,1,0,1,0],[.o 100000000 (.box 80), .o 100000001 (.box 80), .o 100000002 (.box 93), .o 0 (.bG 132 [(32,8),(36,9)]), .o 4 (.ad 3), .o 9 (.box 72), .o 10 (.ad 3), .o 12 (.ad 3), .v 13 (.int .i64), .o 2000032 (.ad 182), .o 2000036 (.ad 175)],[(0, .box 3 0),(4, .c (.own 4)),(9, .box 5 0),(10, .c (.own 6)),(12, .c (.own 7))],[1,1,1,1,1,1,1,0,1,1],[⟨.exit 3,[.o 12 (.ad 3)],[(12, .c (.own 10))]⟩],[0,9]⟩ fun n x=>Bl N x.2.2.2.2.1 x.2.2.2.2.2.2.1 n x.2.2.2.2.2.2.2.1 x.2.2.2.2.2.2.2.2.1).aL ⟨[1,1,1,1,1,1,1,1,1,1,1,0,1,0,0,1,0,0,1,0,1,0,0,1,0],[.o 100000000 (.box 80), .o 100000001 (.box 80), .o 100000002 (.box 93), .o 0 (.bG 132 [(32,8),(36,9)]), .o 9 (.box 72), .o 12 (.ad 3), .o 14 (.ne 22 3), .v 15 (.int .i64), .o 16 (.ad 3), .v 17 (.int .i64), .o 2000032 (.ad 182), .o 2000036 (.ad 175)],[(0, .box 3 0),(9, .box 4 0),(12, .c (.own 5)),(14, .c (.own 6)),(16, .c (.own 7))],[1,1,1,1,1,1,2,0,1,1],[⟨.normal,[.u 6 (.ne 22 3), .o 16 (.ad 3)],[(16, .c (.own 10))]⟩],[0,9,12,14,15,17]⟩ fun x=>Hl N x.2.2.2.2.2.1 x.2.2.2.2.2.2.1 x.2.2.2.2.2.2.2.1 x.2.2.2.2.2.2.2.2.1 x.2.2.2.2.2.2.2.2.2.1).b5 N ⟨[1,1,1,1,1,1,1,1,1,1,1,0,1,0,0,1,0,0,1,0,1,0],[.o 100000000 (.box 80), .o 100000001 (.box 80), .o 100000002 (.box 93), .o 0 (.bG 132 [(32,8),(36,9)]), .o 9 (.box 72), .o 12 (.ad 3), .o 14 (.ne 22 3), .v 15 (.int .i64), .o 16 (.ad 3), .v 17 (.int .i64), .o 2000032 (.ad 182), .o 2000036 (.ad 175)],[(0, .box 3 0),(9, .box 4 0),(12, .c (.own 5)),(14, .c (.own 6)),(16, .c (.own 7))],[1,1,1,1,1,1,2,0,1,1],[⟨.exit 7,[.u 6 (.ne 22 3), .o 16 (.ad 3)],[(16, .c (.own 10))]⟩],[0,9,12,14,15]⟩ fun n x=>Bn N x.2.2.2.2.2.1 x.2.2.2.2.2.2.2.1 n x.2.2.2.2.2.2.1 x.2.2.2.2.2.2.2.2.1 x.2.2.2.2.2.2.2.2.2.1).b5 N ⟨[1,1,1,1,1,1,1,1,1,1,1,0,1,0],[.o 100000000 (.box 80), .o 100000001 (.box 80), .o 100000002 (.box 93), .o 0 (.bG 132 [(32,7),(36,8)]), .o 9 (.box 72), .o 12 (.ad 3), .o 14 (.ne 22 3), .v 15 (.int .i64), .o 2000032 (.ad 182), .o 2000036 (.ad 175)],[(0, .box 3 0),(9, .box 4 0),(12, .c (.own 5)),(14, .c (.own 6))],[1,1,1,1,1,1,2,1,1],[⟨.exit 5,[.u 6 (.ne 22 3)],[]⟩],[0,9,12,14]⟩ fun n x=>Bm N x.2.2.2.2.2.1 n x.2.2.2.2.2.2.1 x.2.2.2.2.2.2.2.1).aL ⟨[1,1,1,1,1,1,1,1,1,1,1,1,1,0,1,0,0,1,0,0],[.o 100000000 (.box 80), .o 100000001 (.box 80), .o 100000002 (.box 93), .o 0 (.bG 132 [(32,7),(36,8)]), .o 9 (.box 72), .o 12 (.ad 3), .o 14 (.ne 22 3), .v 18 .bool, .v 19 (.int .i64), .o 2000032 (.ad 182), .o 2000036 (.ad 175)],[(0, .box 3 0),(9, .box 4 0),(12, .c (.own 5)),(14, .c (.own 6))],[1,1,1,1,1,1,2,1,1],[⟨.normal,[.u 6 (.ne 22 3), .v 18 .bool],[]⟩],[0,9,12,14,19]⟩ fun x=>Hm N x.2.2.2.1 x.2.2.2.2.2.2.1 x.2.2.2.2.2.2.2.1 x.2.2.2.2.2.2.2.2.1).b5 N ⟨[1,1,1,1,1,1,1,1,1,1,1,1,1,0,1,0],[.o 100000000 (.box 80), .o 100000001 (.box 80), .o 100000002 (.box 93), .o 0 (.bG 132 [(32,7),(36,8)]), .o 9 (.box 72), .o 12 (.ad 3), .o 14 (.ne 22 3), .v 18 .bool, .v 19 (.int .i64), .o 2000032 (.ad 182), .o 2000036 (.ad 175)],[(0, .box 3 0),(9, .box 4 0),(12, .c (.own 5)),(14, .c (.own 6))],[1,1,1,1,1,1,2,1,1],[⟨.exit 9,[.u 6 (.ne 22 3), .v 18 .bool],[]⟩],[0,9,12,14]⟩ fun n x=>Bo N x.2.2.2.1 n x.2.2.2.2.2.2.1 x.2.2.2.2.2.2.2.1 x.2.2.2.2.2.2.2.2.1).b5 N ⟨[1,1,1,1,1,1,1,1,1,1,1,1,1,1,1,1,1,1,1,0,1,0],[.o 100000000 (.box 80), .o 100000001 (.box 80), .o 100000002 (.box 93), .o 0 (.bG 132 [(32,7)]), .o 9 (.box 72), .o 12 (.ad 3), .o 20 (.box 76), .v 22 (.int .i64), .o 2000032 (.ad 182)],[(0, .box 3 0),(9, .box 4 0),(12, .c (.own 5)),(20, .box 6 0)],[1,1,1,2,1,1,1,0],[⟨.exit 11,[.u 3 (.bG 132 [(32,8)]), .o 2000032 (.ad 182)],[]⟩],[0,9,12,20]⟩ fun n x=>Bp N x.2.2.2.2.2.1 n x.2.2.2.1 x.2.2.2.2.2.2.2.1 x.2.2.2.2.2.2.2.2.1).ic Tryz.func56)
noncomputable def Mf (N:Nat):bV bA:=(RK N).ch ⟨100,4,[.v 0 (.ad 22), .v 1 (.int .i64), .v 2 (.int .i64), .v 3 (.int .i64)],[],au8,0,[.o 8 (.ad 182), .v 9 (.int .i64)],[(8, .c (.own 0))],[.tmp 8, .tmp 9],ava⟩ (fun r x=>Lp N x.1 x.2.1 x.2.2.1 x.2.2.2.1) ((((((RK N).u Tryz.f100).aL ⟨[1,0,0],[.v 0 (.ad 22), .v 1 (.int .i64), .v 2 (.int .i64)],[],[],[⟨.normal,[.v 34 .bool],[]⟩],[0,1,2,3]⟩ fun x=>Iz N x.1 x.2.1 x.2.2.1).aL ⟨[1,1,0,0],[.v 0 (.ad 22), .v 1 (.int .i64), .v 3 (.int .i64)],[],[],[⟨.normal,[.v 45 .bool],[]⟩],[0,1,2,3]⟩ fun x=>IA N x.1 x.2.1 x.2.2.1).b5 N ⟨[1,1,1,1,0,1,0],[.v 0 (.ad 22), .v 1 (.int .i64), .v 2 (.int .i64), .o 10 (.ad 182), .v 11 (.int .i64)],[(10, .c (.own 0))],[0],[⟨.exit 0,[.o 10 (.ad 182)],[(10, .c (.own 1))]⟩],[]⟩ fun n x=>A9 N x.1 x.2.1 x.2.2.1 n x.2.2.2.1 x.2.2.2.2.1).fn Tryz.func100)
noncomputable def MS:fV D:=⟨86,3,[.o 100000000 (.box 80), .o 100000001 (.box 80), .o 100000002 (.box 93), .o 100000003 (.ad 182), .o 0 (.bG 132 [(32,5)]), .v 1 (.int .i64), .v 2 (.int .i64), .o 2000032 (.ad 182)],[(0, .box 4 0)],[1,1,1,1,2,0],[.v 6 .bool, .o 2000032 (.ad 182), .u 4 (.bG 132 [(32,6)])],[],[6],ava⟩
noncomputable def DN (N:Nat):MS.h2.F:=fun x=>KC N x.2.2.2.2.1 x.2.2.2.2.2.1 x.2.2.2.2.2.2.1 x.2.2.2.2.2.2.2.1
theorem asK (N:Nat):gQ bA MS (DN N):=dB.ic (dB.nil:dB (Mf N).a8 (hO Tryz.f86)) Tryz.func86
noncomputable def abh (N:Nat):bV bA:=(Mf N).ia MS (DN N) (asK N)
noncomputable def Y1:fV D:=⟨86,3,[.o 100000000 (.box 80), .o 100000001 (.box 80), .o 100000002 (.box 93), .o 100000004 (.ad 182), .o 0 (.bG 132 [(32,5)]), .v 1 (.int .i64), .v 2 (.int .i64), .o 2000032 (.ad 182)],[(0, .box 4 0)],[1,1,1,1,2,0],[.v 6 .bool, .o 2000032 (.ad 182), .u 4 (.bG 132 [(32,6)])],[],[6],ava⟩
theorem ags (N:Nat):gQ bA Y1 (DN N):=dB.ic (dB.nil:dB (Mf N).a8 (hO Tryz.f86)) Tryz.func86
noncomputable def RL (N:Nat):bV bA:=(abh N).ia Y1 (DN N) (ags N)
noncomputable def RM (N:Nat):bV bA:=(RL N).ia ⟨57,1,[.o 100000000 (.box 80), .o 100000001 (.box 80), .o 100000002 (.box 93), .o 0 (.bG 132 [(32,4)]), .o 2000032 (.ad 182)],[(0, .box 3 0)],[1,1,1,2,0],[.v 2 (.int .i64), .o 2000032 (.ad 182), .u 3 (.bG 132 [(32,5)])],[],[2],ava⟩ (fun x=>Lf N x.2.2.2.1 x.2.2.2.2.1) (((((((RL N).u Tryz.f57).aL ⟨[1,0,0,1,1,0],[.o 100000000 (.box 80), .o 100000001 (.box 80), .o 100000002 (.box 93), .o 0 (.bG 132 [(32,4)]), .o 2000032 (.ad 182)],[(0, .box 3 0)],[1,1,1,1,1],[⟨.normal,[.v 12 .bool],[]⟩],[0]⟩ fun x=>I2 N x.2.2.2.1).aL ⟨[1,0,0,1,1,1,1,0],[.o 100000000 (.box 80), .o 100000001 (.box 80), .o 100000002 (.box 93), .o 0 (.bG 132 [(32,4)]), .o 2000032 (.ad 182)],[(0, .box 3 0)],[1,1,1,1,1],[⟨.normal,[.v 37 .bool],[]⟩],[0]⟩ fun x=>I3 N x.2.2.2.1).aL ⟨[1,0,0,1,1,1,1,1,1,0],[.o 100000000 (.box 80), .o 100000001 (.box 80), .o 100000002 (.box 93), .o 0 (.bG 132 [(32,4)]), .o 2000032 (.ad 182)],[(0, .box 3 0)],[1,1,1,1,1],[⟨.normal,[.v 73 .bool],[]⟩],[0]⟩ fun x=>Ia N x.2.2.2.1).b5 N ⟨[1,1,1,0,1,0],[.o 100000000 (.box 80), .o 100000001 (.box 80), .o 100000002 (.box 93), .o 0 (.bG 132 [(32,5)]), .o 3 (.ad 182), .v 5 (.int .i64), .o 2000032 (.ad 182)],[(0, .box 3 0),(3, .c (.own 4))],[1,1,1,2,1,0],[⟨.exit 1,[.u 3 (.bG 132 [(32,6)]), .o 2000032 (.ad 182)],[]⟩,⟨.ret,[.u 3 (.bG 132 [(32,6)]), .v 2 (.int .i64), .o 2000032 (.ad 182)],[]⟩],[0]⟩ fun n x=>BF N x.2.2.2.2.1 n x.2.2.2.1 x.2.2.2.2.2.1 x.2.2.2.2.2.2.1).ic Tryz.func57)
noncomputable def RN (N:Nat):bV bA:=(RM N).ch ⟨126,3,[.v 0 (.agg 36), .v 1 (.agg 26), .v 2 (.ad 122)],[],au8,0,[.v 6 (.int .i64)],[],[.tmp 6],au7⟩ (fun r x=>LH N x.1 x.2.1 x.2.2.1) (((RM N).u Tryz.f126).fn Tryz.func126)
noncomputable def RO (N:Nat):bV bA:=(RN N).ch ⟨127,2,[.v 0 (.agg 26), .v 1 (.ad 122)],[],au8,0,[.o 4 (.ad 3), .v 5 (.int .i64), .v 6 (.int .i64)],[(4, .c (.own 0))],[.tmp 4, .tmp 5, .tmp 6],ava⟩ (fun r x=>Lo N x.1 x.2.1) ((((RN N).u Tryz.f127).b5 N ⟨[1,1,0,1,0],[.v 1 (.ad 122), .o 2 (.box 26), .o 7 (.ad 3), .v 8 (.int .i64)],[(2, .box 0 0),(7, .c (.own 1))],[1,0],[⟨.exit 0,[.o 7 (.ad 3)],[(7, .c (.own 2))]⟩,⟨.ret,[.v 5 (.int .i64), .v 6 (.int .i64)],[(4, .c .g2)]⟩],[]⟩ fun n x=>A8 N x.1 x.2.1 n x.2.2.1 x.2.2.2.1).fn Tryz.func127)
noncomputable def RQ (N:Nat):bV bA:=(RO N).ch ⟨207,1,[.v 0 (.ad 122)],[],au8,0,[.v 2 (.int .i64), .v 3 (.int .i64), .v 4 (.int .i64), .v 5 (.int .i64)],[],[.tmp 2, .tmp 3, .tmp 4, .tmp 5],au7⟩ (fun r x=>Lv N x.1) ((((RO N).u Tryz.f207).b5 N ⟨[1,1,0,1,0],[.v 0 (.ad 122), .v 2 (.int .i64), .v 3 (.int .i64), .v 4 (.int .i64), .v 7 (.int .i64)],[],[],[⟨.exit 0,[.v 2 (.int .i64), .v 3 (.int .i64), .v 4 (.int .i64)],[]⟩],[]⟩ fun n x=>AJ N x.1 n x.2.1 x.2.2.1 x.2.2.2.1 x.2.2.2.2.1).fn Tryz.func207)
noncomputable def RR (N:Nat):bV bA:=(RQ N).ch ⟨208,2,[.v 0 (.ad 3), .v 1 (.int .i64)],[],au8,0,[.v 4 .bool],[],[.tmp 4],au7⟩ (fun r x=>x6 N x.1 x.2.1) ((((RQ N).u Tryz.f208).b5 N ⟨[1,0,1,0],[.v 0 (.ad 3), .v 1 (.int .i64), .v 5 (.int .i64)],[],[],[⟨.exit 0,[],[]⟩,⟨.ret,[.v 4 .bool],[]⟩],[]⟩ fun n x=>BR N x.1 x.2.1 n x.2.2.1).fn Tryz.func208)
noncomputable def RS (N:Nat):bV bA:=(RR N).ch ⟨209,1,[.v 0 (.int .i64)],[],au8,0,[.v 2 (.int .i64)],[],[.tmp 2],au7⟩ (fun r x=>Ln N x.1) (((RR N).u Tryz.f209).fn Tryz.func209)
noncomputable def RT (N:Nat):bV bA:=(RS N).ch ⟨162,2,[.v 0 (.ad 122), .v 1 (.ad 3)],[],au8,0,[.v 1000000 (.agg 88), .v 5 (.int .i64)],[],[.cell 4 88, .tmp 5],au7⟩ (fun r x=>xZ N x.1 x.2.1) (((((((((RS N).u Tryz.f162).aL ⟨[1,1,1,0,1,0,0,1,0,0,0],[.v 0 (.ad 122), .v 1 (.ad 3), .o 4 (.box 88), .v 10 (.int .i64)],[(4, .box 0 0)],[1],[⟨.normal,[.v 44 .bool],[]⟩],[0,1,4,6,7,8,10]⟩ fun x=>JT N x.1 x.2.1 x.2.2.2.1).b5 N ⟨[1,1,1,0,1,0],[.v 0 (.ad 122), .v 1 (.ad 3), .o 4 (.box 88), .v 10 (.int .i64)],[(4, .box 0 0)],[2],[⟨.exit 0,[.u 0 (.box 88)],[]⟩,⟨.ret,[.u 0 (.box 88), .v 5 (.int .i64)],[]⟩],[0,1,4,6,7,8]⟩ fun n x=>Cx N x.1 x.2.1 n x.2.2.1 x.2.2.2.1).b5 N ⟨[1,1,1,1,0,1,0],[.v 1 (.ad 3), .o 4 (.box 88), .v 11 (.int .i64)],[(4, .box 0 0)],[2],[⟨.exit 2,[.u 0 (.box 88)],[]⟩,⟨.ret,[.u 0 (.box 88), .v 5 (.int .i64)],[]⟩],[0,1,4,6,7,8]⟩ fun n x=>Cy N x.1 n x.2.1 x.2.2.1).aL ⟨[1,1,1,1,1,1,0,1,0,0,1,0],[.v 0 (.ad 122), .v 1 (.ad 3), .o 4 (.box 88), .o 12 (.box 88), .v 13 (.int .i64)],[(4, .box 0 0),(12, .box 1 0)],[1,2],[⟨.normal,[.u 1 (.box 88)],[]⟩],[0,1,4,6,7,12,13]⟩ fun x=>JU N x.1 x.2.1 x.2.2.2.1 x.2.2.2.2.1).b5 N ⟨[1,1,1,1,1,1,0,1,0],[.v 0 (.ad 122), .v 1 (.ad 3), .o 4 (.box 88), .o 12 (.box 88), .v 13 (.int .i64)],[(4, .box 0 0),(12, .box 1 0)],[1,2],[⟨.exit 4,[.u 1 (.box 88)],[]⟩],[4,6,7,12]⟩ fun n x=>Cz N x.1 x.2.1 n x.2.2.2.1 x.2.2.2.2.1).aL ⟨[1,1,1,1,1,1,1,1,0,1],[.o 4 (.box 88), .v 7 (.int .i64), .o 12 (.box 88), .v 92 .bool],[(4, .box 0 0),(12, .box 1 0)],[1,2],[⟨.normal,[.u 1 (.box 88)],[]⟩],[4,12]⟩ fun x=>JV N x.2.1 x.2.2.1 x.2.2.2.1).fn Tryz.func162)
noncomputable def RU (N:Nat):bV bA:=(RT N).ch ⟨210,3,[.v 0 (.ad 61), .v 1 (.int .i64), .v 2 (.int .i64)],[],au8,0,[.v 6 (.int .i64), .v 7 .bool],[],[.tmp 6, .tmp 7],au7⟩ (fun r x=>LR N x.1 x.2.1 x.2.2.1) ((((((RT N).u Tryz.f210).aL ⟨[1,1,0,1,0,0,1,0,0,0],[.v 0 (.ad 61), .v 1 (.int .i64), .v 2 (.int .i64), .v 8 (.int .i64), .v 9 .bool, .v 10 (.int .i64)],[],[],[⟨.normal,[.v 45 .bool],[]⟩],[0,1,2,8,9,10]⟩ fun x=>Jy N x.1 x.2.1 x.2.2.1 x.2.2.2.1 x.2.2.2.2.1 x.2.2.2.2.2.1).aL ⟨[1,1,0,1,0,0,1,0],[.v 0 (.ad 61), .v 1 (.int .i64), .v 2 (.int .i64), .v 8 (.int .i64), .v 9 .bool, .v 10 (.int .i64)],[],[],[⟨.normal,[.v 8 (.int .i64), .v 9 .bool],[]⟩],[0,1,2,10]⟩ fun x=>Jx N x.1 x.2.1 x.2.2.1 x.2.2.2.1 x.2.2.2.2.1 x.2.2.2.2.2.1).b5 N ⟨[1,1,0,1,0],[.v 0 (.ad 61), .v 1 (.int .i64), .v 2 (.int .i64), .v 8 (.int .i64), .v 9 .bool, .v 10 (.int .i64)],[],[],[⟨.exit 0,[.v 8 (.int .i64), .v 9 .bool],[]⟩],[]⟩ fun n x=>B7 N x.1 x.2.1 x.2.2.1 n x.2.2.2.1 x.2.2.2.2.1 x.2.2.2.2.2.1).fn Tryz.func210)
noncomputable def RV (N:Nat):bV bA:=(RU N).ch ⟨163,3,[.v 0 (.ad 61), .v 1 (.int .i64), .v 2 (.int .i64)],[],au8,0,[.v 6 (.int .i64), .v 7 (.int .i64)],[],[.tmp 6, .tmp 7],au7⟩ (fun r x=>KZ N x.1 x.2.1 x.2.2.1) ((((RU N).u Tryz.f163).aL ⟨[1,1,0,0],[.v 1 (.int .i64), .v 2 (.int .i64)],[],[],[⟨.normal,[.v 26 .bool],[]⟩],[0,1,2]⟩ fun x=>IJ N x.1 x.2.1).fn Tryz.func163)
noncomputable def RW (N:Nat):bV bA:=(RV N).ch ⟨128,5,[.v 0 (.ad 122), .v 1 (.ad 3), .v 2 (.ad 61), .v 3 (.int .i64), .v 4 (.int .i64)],[],au8,0,[.v 1000000 (.agg 88), .v 11 (.int .i64)],[],[.cell 10 88, .tmp 11],au7⟩ (fun r x=>LB N x.1 x.2.1 x.2.2.1 x.2.2.2.1 x.2.2.2.2.1) (((RV N).u Tryz.f128).fn Tryz.func128)
noncomputable def RX (N:Nat):bV bA:=(RW N).ch ⟨248,2,[.v 0 (.int .i64), .v 1 (.agg 122)],[],au8,0,[.v 4 (.int .i64)],[],[.tmp 4],au7⟩ (fun r x=>LS N x.1 x.2.1) (((RW N).u Tryz.f248).fn Tryz.func248)
noncomputable def RY (N:Nat):bV bA:=(RX N).ch ⟨249,4,[.v 0 (.agg 122), .v 1 (.agg 122), .v 2 (.int .i64), .v 3 (.int .i64)],[],au8,0,[.v 8 .bool],[],[.tmp 8],au7⟩ (fun r x=>La N x.1 x.2.1 x.2.2.1 x.2.2.2.1) ((((RX N).u Tryz.f249).aL ⟨[1,0],[.v 2 (.int .i64), .v 3 (.int .i64), .o 4 (.box 122), .o 5 (.box 122)],[(4, .box 0 0),(5, .box 1 0)],[1,1],[⟨.normal,[.v 8 .bool],[]⟩],[]⟩ fun x=>IU N x.1 x.2.1 x.2.2.1 x.2.2.2.1).fn Tryz.func249)
noncomputable def RZ (N:Nat):bV bA:=(RY N).ch ⟨211,3,[.v 0 (.agg 117), .v 1 (.ad 122), .v 2 (.int .i64)],[],au8,0,[.v 6 .bool],[],[.tmp 6],au7⟩ (fun r x=>m1 N x.1 x.2.1 x.2.2.1) (((((((((((RY N).u Tryz.f211).aL ⟨[1,1,0,1,0,0,1],[.o 3 (.box 117), .v 12 (.int .i64), .v 13 .bool],[(3, .box 0 0)],[1],[⟨.normal,[.v 13 .bool],[]⟩],[1,2,3,7,12]⟩ fun x=>Iv N x.2.1 x.2.2.1).b5 N ⟨[1,1,0,1,0,1,0,0,1,0],[.v 1 (.ad 122), .v 2 (.int .i64), .o 3 (.box 117), .v 7 (.int .i64), .v 8 (.int .i64)],[(3, .box 0 0)],[1],[⟨.exit 1,[.v 7 (.int .i64)],[]⟩],[3]⟩ fun n x=>A5 N x.1 x.2.1 x.2.2.1 n x.2.2.2.1 x.2.2.2.2.1).aL ⟨[1,1,0,1,0,1,1,1,0,1,0,0,1,0,0,0],[.v 1 (.ad 122), .v 2 (.int .i64), .o 3 (.box 117), .v 9 (.int .i64)],[(3, .box 0 0)],[1],[⟨.normal,[.v 63 .bool],[]⟩],[1,2,3,9]⟩ fun x=>Iw N x.1 x.2.1 x.2.2.1 x.2.2.2.1).b5 N ⟨[1,1,0,1,0,1,1,1,0,1,0],[.v 1 (.ad 122), .v 2 (.int .i64), .o 3 (.box 117), .v 9 (.int .i64)],[(3, .box 0 0)],[1],[⟨.exit 3,[],[]⟩,⟨.ret,[.v 6 .bool],[]⟩],[]⟩ fun n x=>A6 N x.1 x.2.1 x.2.2.1 n x.2.2.2.1).aL ⟨[1,1,0,1,0,1,1,1,1,1,0,0],[.v 1 (.ad 122), .v 2 (.int .i64), .o 3 (.box 117)],[(3, .box 0 0)],[1],[⟨.normal,[.v 6 .bool],[]⟩],[]⟩ fun x=>Ix N x.1 x.2.1 x.2.2.1).b5 N ⟨[1,1,0,1,0,1,1,1,1,1,1,1,1,1,0,0,1,0],[.v 1 (.ad 122), .o 3 (.box 117), .v 7 (.int .i64), .v 10 (.int .i64)],[(3, .box 0 0)],[1],[⟨.exit 5,[.v 7 (.int .i64)],[]⟩],[1,2,3]⟩ fun n x=>A7 N x.1 n x.2.2.1 x.2.2.2.1).aL ⟨[1,1,0,1,0,1,1,1,1,1,1,1,1,1,0,1,0],[.v 1 (.ad 122), .v 2 (.int .i64), .o 3 (.box 117), .v 7 (.int .i64)],[(3, .box 0 0)],[1],[⟨.normal,[.v 6 .bool],[]⟩],[]⟩ fun x=>Iy N x.1 x.2.1 x.2.2.1 x.2.2.2.1).aL ⟨[1,1,0,1],[.v 1 (.ad 122), .v 2 (.int .i64), .o 3 (.box 117), .v 7 (.int .i64), .v 12 (.int .i64)],[(3, .box 0 0)],[1],[⟨.normal,[],[]⟩,⟨.ret,[.v 6 .bool],[]⟩],[]⟩ fun x=>Iu N x.1 x.2.1 x.2.2.1 x.2.2.2.1 x.2.2.2.2.1).fn Tryz.func211)
noncomputable def R1 (N:Nat):bV bA:=(RZ N).ch ⟨164,3,[.v 0 (.agg 117), .v 1 (.ad 122), .v 2 (.ad 3)],[],au8,0,[.v 6 (.int .i64)],[],[.tmp 6],au7⟩ (fun r x=>LD N x.1 x.2.1 x.2.2.1) ((((((((RZ N).u Tryz.f164).aL ⟨[1,1,0,1,0,1,0,0,1,0],[.o 3 (.box 117), .v 7 (.int .i64), .o 8 (.box 88)],[(3, .box 0 0),(8, .box 1 0)],[1,1],[⟨.normal,[.v 34 .bool],[]⟩],[7]⟩ fun x=>JW N x.1 x.2.1 x.2.2.1).aL ⟨[1,1,0,1,0,1,1,1,0,1,1,0,1,0,0,1,0,0,0],[.v 1 (.ad 122), .v 2 (.ad 3), .o 3 (.box 117), .v 12 (.int .i64)],[(3, .box 0 0)],[1],[⟨.normal,[.v 61 .bool],[]⟩],[1,2,3,7,10,11,12]⟩ fun x=>JY N x.1 x.2.1 x.2.2.2.1).aL ⟨[1,1,0,1,0,1,1,1,0,1,1,0,1,0,0,1,0],[.v 1 (.ad 122), .v 2 (.ad 3), .o 3 (.box 117), .v 11 (.int .i64), .v 12 (.int .i64)],[(3, .box 0 0)],[1],[⟨.normal,[.v 11 (.int .i64)],[]⟩],[1,2,3,7,10,12]⟩ fun x=>JX N x.1 x.2.1 x.2.2.2.1 x.2.2.2.2.1).b5 N ⟨[1,1,0,1,0,1,1,1,0,1,1,0,1,0],[.v 1 (.ad 122), .v 2 (.ad 3), .o 3 (.box 117), .v 7 (.int .i64), .v 11 (.int .i64), .v 12 (.int .i64)],[(3, .box 0 0)],[1],[⟨.exit 1,[.v 11 (.int .i64)],[]⟩],[3,7,10]⟩ fun n x=>CD N x.1 x.2.1 x.2.2.2.1 n x.2.2.2.2.1 x.2.2.2.2.2.1).b5 N ⟨[1,1,1,0,1,0],[.v 1 (.ad 122), .o 3 (.box 117), .v 7 (.int .i64), .v 13 (.int .i64)],[(3, .box 0 0)],[1],[⟨.exit 3,[],[]⟩,⟨.ret,[.v 6 (.int .i64)],[]⟩],[]⟩ fun n x=>CE N x.1 x.2.1 x.2.2.1 n x.2.2.2.1).fn Tryz.func164)
noncomputable def R2 (N:Nat):bV bA:=(R1 N).ch ⟨129,3,[.v 0 (.ad 117), .v 1 (.ad 122), .v 2 (.ad 3)],[],au8,0,[.v 6 (.int .i64), .v 7 (.int .i64), .v 8 (.int .i64)],[],[.tmp 6, .tmp 7, .tmp 8],au7⟩ (fun r x=>LC N x.1 x.2.1 x.2.2.1) ((((R1 N).u Tryz.f129).b5 N ⟨[1,1,1,0,1,0],[.v 0 (.ad 117), .v 1 (.ad 122), .v 2 (.ad 3), .v 12 (.int .i64)],[],[],[⟨.exit 0,[],[]⟩,⟨.ret,[.v 6 (.int .i64), .v 7 (.int .i64), .v 8 (.int .i64)],[]⟩],[]⟩ fun n x=>CA N x.1 x.2.1 x.2.2.1 n x.2.2.2.1).fn Tryz.func129)
noncomputable def R3 (N:Nat):bV bA:=(R2 N).ch ⟨165,2,[.v 0 (.ad 3), .v 1 (.int .i64)],[],au8,0,[.v 4 .bool],[],[.tmp 4],au7⟩ (fun r x=>Lm N x.1 x.2.1) (((((R2 N).u Tryz.f165).aL ⟨[1,0,1,0,0,1,0,0,0],[.v 0 (.ad 3), .v 1 (.int .i64), .v 5 (.int .i64)],[],[],[⟨.normal,[.v 24 .bool],[]⟩],[0,1,5]⟩ fun x=>It N x.1 x.2.1 x.2.2.1).b5 N ⟨[1,0,1,0],[.v 0 (.ad 3), .v 1 (.int .i64), .v 5 (.int .i64)],[],[],[⟨.exit 0,[],[]⟩,⟨.ret,[.v 4 .bool],[]⟩],[]⟩ fun n x=>A4 N x.1 x.2.1 n x.2.2.1).fn Tryz.func165)
noncomputable def R4 (N:Nat):bV bA:=(R3 N).ch ⟨166,2,[.v 0 (.ad 3), .v 1 (.int .i64)],[],au8,0,[.v 4 (.int .i64), .v 5 (.int .i64)],[],[.tmp 4, .tmp 5],au7⟩ (fun r x=>L3 N x.1 x.2.1) ((((((R3 N).u Tryz.f166).aL ⟨[1,1,0,1,0,0,1,0,0,0,1,0,1,0,1],[.v 5 (.int .i64), .v 24 .bool],[],[],[⟨.normal,[.v 5 (.int .i64)],[]⟩],[0,1,4,7]⟩ fun x=>Kb N x.1 x.2.1).aL ⟨[1,1,0,1,0,0,1,0],[.v 0 (.ad 3), .v 1 (.int .i64), .v 4 (.int .i64), .v 5 (.int .i64), .v 6 .bool, .v 7 (.int .i64)],[],[],[⟨.normal,[.v 4 (.int .i64), .v 5 (.int .i64), .v 6 .bool],[]⟩],[0,1,7]⟩ fun x=>Ka N x.1 x.2.1 x.2.2.1 x.2.2.2.1 x.2.2.2.2.1 x.2.2.2.2.2.1).b5 N ⟨[1,1,0,1,0],[.v 0 (.ad 3), .v 1 (.int .i64), .v 4 (.int .i64), .v 5 (.int .i64), .v 6 .bool, .v 7 (.int .i64)],[],[],[⟨.exit 0,[.v 4 (.int .i64), .v 5 (.int .i64)],[]⟩],[]⟩ fun n x=>CM N x.1 x.2.1 n x.2.2.1 x.2.2.2.1 x.2.2.2.2.1 x.2.2.2.2.2.1).fn Tryz.func166)
noncomputable def R5 (N:Nat):bV bA:=(R4 N).ch ⟨130,2,[.v 0 (.ad 3), .v 1 (.int .i64)],[],au8,0,[.o 4 (.ad 251), .v 5 (.int .i64)],[(4, .c (.own 0))],[.tmp 4, .tmp 5],ava⟩ (fun r x=>LQ N x.1 x.2.1) ((((((R4 N).u Tryz.f130).aL ⟨[1,0,0],[.v 1 (.int .i64)],[],[],[⟨.normal,[.v 15 .bool],[]⟩],[0,1]⟩ fun x=>Jv N x.1).aL ⟨[1,1,1,1,1,0,1,0,0,1,0],[.v 0 (.ad 3), .o 6 (.ad 251), .v 7 (.int .i64)],[(6, .c (.own 0))],[0],[⟨.normal,[.o 6 (.ad 251)],[(6, .c (.own 1))]⟩],[0,1,7]⟩ fun x=>Jw N x.1 x.2.1 x.2.2.1).b5 N ⟨[1,1,1,1,1,0,1,0],[.v 0 (.ad 3), .v 1 (.int .i64), .o 6 (.ad 251), .v 7 (.int .i64)],[(6, .c (.own 0))],[0],[⟨.exit 0,[.o 6 (.ad 251)],[(6, .c (.own 1))]⟩],[]⟩ fun n x=>B6 N x.1 x.2.1 n x.2.2.1 x.2.2.2.1).fn Tryz.func130)
noncomputable def Mg (N:Nat):bV bA:=(R5 N).ch ⟨101,3,[.v 0 (.agg 36), .v 1 (.agg 26), .v 2 (.ad 122)],[],au8,0,[.v 1000000 (.agg 91), .v 7 (.int .i64), .v 8 (.int .i64), .v 9 (.int .i64)],[],[.cell 6 91, .tmp 7, .tmp 8, .tmp 9],ava⟩ (fun r x=>LG N x.1 x.2.1 x.2.2.1) (((((R5 N).u Tryz.f101).aL ⟨[1,1,1,1,1,1,0,1,0,0,1,0,0,0,0],[.o 3 (.box 36), .o 4 (.box 26), .o 6 (.box 91), .o 11 (.ad 3), .o 14 (.ad 3), .v 15 (.int .i64)],[(3, .box 0 0),(4, .box 1 0),(6, .box 2 0),(11, .c (.own 3)),(14, .c (.own 4))],[1,1,1,1,1],[⟨.normal,[.v 64 .bool],[]⟩],[2,3,4,6,11,14,15]⟩ fun x=>J1 N x.2.2.2.1 x.2.2.2.2.2.1).b5 N ⟨[1,1,1,1,1,1,0,1,0],[.o 3 (.box 36), .o 4 (.box 26), .o 6 (.box 91), .o 11 (.ad 3), .o 14 (.ad 3), .v 15 (.int .i64)],[(3, .box 0 0),(4, .box 1 0),(6, .box 2 0),(11, .c (.own 3)),(14, .c (.own 4))],[1,1,2,1,0],[⟨.exit 0,[.u 2 (.box 91), .o 14 (.ad 3)],[(14, .c (.own 5))]⟩,⟨.ret,[.u 2 (.box 91), .v 7 (.int .i64), .v 8 (.int .i64), .v 9 (.int .i64)],[]⟩],[2,3,4,6]⟩ fun n x=>CG N x.2.1 x.2.2.2.1 n x.2.2.1 x.2.2.2.2.1 x.2.2.2.2.2.1).fn Tryz.func101)
noncomputable def MQ:fV D:=⟨86,3,[.o 100000000 (.box 80), .o 100000001 (.box 80), .o 100000002 (.box 93), .o 100000003 (.ad 3), .o 0 (.bG 132 [(32,5)]), .v 1 (.int .i64), .v 2 (.int .i64), .o 2000032 (.ad 182)],[(0, .box 4 0)],[1,1,1,1,2,0],[.v 6 .bool, .o 2000032 (.ad 182), .u 4 (.bG 132 [(32,6)])],[],[6],ava⟩
noncomputable def DK (N:Nat):MQ.h2.F:=fun x=>Kz N x.2.2.2.2.1 x.2.2.2.2.2.1 x.2.2.2.2.2.2.1 x.2.2.2.2.2.2.2.1
theorem asI (N:Nat):gQ bA MQ (DK N):=dB.ic (dB.nil:dB (Mg N).a8 (hO Tryz.f86)) Tryz.func86
noncomputable def abi (N:Nat):bV bA:=(Mg N).ia MQ (DK N) (asI N)
noncomputable def X3:fV D:=⟨86,3,[.o 100000000 (.box 80), .o 100000001 (.box 80), .o 100000002 (.box 93), .o 100000004 (.ad 3), .o 0 (.bG 132 [(32,5)]), .v 1 (.int .i64), .v 2 (.int .i64), .o 2000032 (.ad 182)],[(0, .box 4 0)],[1,1,1,1,2,0],[.v 6 .bool, .o 2000032 (.ad 182), .u 4 (.bG 132 [(32,6)])],[],[6],ava⟩
theorem aqT (N:Nat):gQ bA X3 (DK N):=dB.ic (dB.nil:dB (Mg N).a8 (hO Tryz.f86)) Tryz.func86
noncomputable def R6 (N:Nat):bV bA:=(abi N).ia X3 (DK N) (aqT N)
noncomputable def abT (N:Nat):qZ bA:=(R6 N).a8.pc fun x bD aj=>match x,bD,aj with| .tmp 133,au6 (.tmp 125),au6 (.tmp 125)=>6|_,_,_=>0
noncomputable def R7 (N:Nat):bV bA:=(R6 N).ia ⟨58,1,[.o 100000000 (.box 80), .o 100000001 (.box 80), .o 100000002 (.box 93), .o 0 (.bG 132 [(7,4),(32,5)]), .o 2000007 (.ad 26), .o 2000032 (.ad 182)],[(0, .box 3 0)],[1,1,1,2,0,0],[.v 2 (.int .i64), .o 2000032 (.ad 182), .u 3 (.bG 132 [(32,6)])],[],[2],ava⟩ (fun x=>KN N x.2.2.2.1 x.2.2.2.2.1 x.2.2.2.2.2.1) (((((dB.nil:dB (abT N) (hO Tryz.f58)).b5 N ⟨[1,1,0,1,0,0,1,0,0,1,1,1,1,0,1,0],[.o 100000000 (.box 80), .o 100000001 (.box 80), .o 100000002 (.box 93), .o 0 (.bG 132 [(7,7),(32,8)]), .o 4 (.box 26), .o 5 (.ad 122), .o 6 (.ad 3), .v 7 (.int .i64), .o 2000007 (.ad 26), .o 2000032 (.ad 182)],[(0, .box 3 0),(4, .box 4 0),(5, .c (.own 5)),(6, .c (.own 6))],[1,1,1,1,1,0,1,1,1],[⟨.exit 2,[.o 5 (.ad 122)],[(5, .c (.own 9))]⟩],[0,3,4,6]⟩ fun n x=>As N x.2.2.2.1 x.2.2.2.2.2.2.1 n x.2.2.2.2.2.1 x.2.2.2.2.2.2.2.1).b5 N ⟨[1,1,0,1,0,0,1,0,0,1,1,1,1,1,1,1,1,0,1,0],[.o 100000000 (.box 80), .o 100000001 (.box 80), .o 100000002 (.box 93), .o 0 (.bG 132 [(32,5)]), .o 6 (.ad 3), .v 12 (.int .i64), .o 2000032 (.ad 182)],[(0, .box 3 0),(6, .c (.own 4))],[1,1,1,2,1,0],[⟨.exit 4,[.u 3 (.bG 132 [(32,6)]), .o 2000032 (.ad 182)],[]⟩],[0,3]⟩ fun n x=>At N x.2.2.2.2.1 n x.2.2.2.1 x.2.2.2.2.2.1 x.2.2.2.2.2.2.1).b5 N ⟨[1,1,0,1,0],[.o 100000000 (.box 80), .o 100000001 (.box 80), .o 100000002 (.box 93), .o 0 (.bG 132 [(7,4),(32,5)]), .v 3 (.int .i64), .o 2000007 (.ad 26), .o 2000032 (.ad 182)],[(0, .box 3 0)],[1,1,1,2,0,0],[⟨.exit 0,[.u 3 (.bG 132 [(7,6),(32,7)]), .o 2000007 (.ad 26), .o 2000032 (.ad 182)],[]⟩,⟨.ret,[.u 3 (.bG 132 [(32,6)]), .v 2 (.int .i64), .o 2000032 (.ad 182)],[]⟩],[0]⟩ fun n x=>Ar N n x.2.2.2.1 x.2.2.2.2.1 x.2.2.2.2.2.1 x.2.2.2.2.2.2.1).ic Tryz.func58)
noncomputable def R8 (N:Nat):bV bA:=(R7 N).ch ⟨26,3,[.v 0 (.agg 36), .v 1 (.agg 80), .v 2 (.agg 29)],[],au8,0,[.v 1000000 (.agg 80), .v 1000001 (.agg 93)],[],[.cell 6 80, .cell 7 93],ava⟩ (fun r x=>DC N x.1 x.2.1 x.2.2.1) ((((R7 N).u Tryz.f26).aL ⟨[1,1,1,0,1],[.o 4 (.box 80), .o 6 (.box 80), .o 7 (.box 93), .o 8 (.bG 132 [(5,4),(7,5),(32,6),(36,7)]), .v 9 (.int .i64), .v 17 (.int .i64), .o 2008005 (.ad 122), .o 2008007 (.ad 26), .o 2008032 (.ad 182), .o 2008036 (.ad 175)],[(4, .box 0 0),(6, .box 1 0),(7, .box 2 0),(8, .box 3 0)],[1,1,1,2,0,0,0,0],[⟨.normal,[.u 3 (.box 132), .v 9 (.int .i64)],[]⟩],[4,6,7,8]⟩ fun x=>I4 N x.2.2.2.1 x.2.2.2.2.1 x.2.2.2.2.2.1 x.2.2.2.2.2.2.1 x.2.2.2.2.2.2.2.1 x.2.2.2.2.2.2.2.2.1 x.2.2.2.2.2.2.2.2.2.1).fn Tryz.func26)
noncomputable def Sa (N:Nat):bV bA:=(R8 N).ch ⟨7,3,[.v 1 (.agg 36), .v 2 (.int .i64)],[],au6 (0,59),2,[.o 6 (.ad 29), .u 0 (.recv 59)],[(6, .c (.own 1))],[.tmp 6],ava⟩ (fun r x=>KJ N r x.1 x.2.1) ((((((R8 N).u Tryz.f7).aL ⟨[1,1,1,1,0,1,0,0,0,0],[.o 0 (.recv 59), .v 2 (.int .i64), .o 4 (.box 36), .o 7 (.box 80), .o 9 (.ad 29), .v 10 (.int .i64)],[(0, .box 0 0),(4, .box 1 0),(7, .box 2 0),(9, .c (.own 3))],[1,1,1,1],[⟨.normal,[.v 26 .bool],[]⟩],[0,2,4,7,9,10]⟩ fun x=>HH N x.2.1 x.2.2.2.2.2.1).b5 N ⟨[1,1,1,1,0,1,0],[.o 0 (.recv 59), .v 2 (.int .i64), .o 4 (.box 36), .o 7 (.box 80), .o 9 (.ad 29), .v 10 (.int .i64)],[(0, .box 0 0),(4, .box 1 0),(7, .box 2 0),(9, .c (.own 3))],[2,1,2,0],[⟨.exit 0,[.u 0 (.recv 59), .u 2 (.box 80), .o 9 (.ad 29)],[(9, .c (.own 4))]⟩],[0,2,4,7]⟩ fun n x=>AG N x.2.1 x.2.2.1 n x.1 x.2.2.2.1 x.2.2.2.2.1 x.2.2.2.2.2.1).b5 N ⟨[1,1,1,1,1,0,1,0],[.o 0 (.recv 59), .o 4 (.box 36), .o 7 (.box 80), .o 9 (.ad 29), .v 12 (.int .i64)],[(0, .box 0 0),(4, .box 1 0),(7, .box 2 0),(9, .c (.own 3))],[2,1,0,0],[⟨.exit 2,[.u 0 (.recv 59), .o 9 (.ad 29)],[(9, .c (.own 4))]⟩],[0]⟩ fun n x=>AH N x.2.1 n x.1 x.2.2.1 x.2.2.2.1 x.2.2.2.2.1).fn Tryz.func7)
noncomputable def Sb (N:Nat):bV bA:=(Sa N).ch ⟨27,1,[.v 0 (.agg 29)],[],au8,0,[.v 2 .bool],[],[.tmp 2],au7⟩ (fun r x=>LX N x.1) ((((((Sa N).u Tryz.f27).aL ⟨[1,1,0,1,0,1,1,1,1,0,1],[.o 3 (.box 29), .v 7 (.int .i64), .v 16 .bool],[(3, .box 0 0)],[1],[⟨.normal,[.v 16 .bool],[]⟩],[3,7]⟩ fun x=>Jd N x.2.1 x.2.2.1).aL ⟨[1,1,0,1],[.o 3 (.box 29), .v 7 (.int .i64)],[(3, .box 0 0)],[2],[⟨.normal,[.u 0 (.box 29)],[]⟩,⟨.ret,[.v 2 .bool],[]⟩],[3]⟩ fun x=>Jc N x.1 x.2.1).aL ⟨[1,1,1,1,0],[.o 3 (.box 29), .o 4 (.box 26)],[(3, .box 0 0),(4, .box 1 0)],[1,1],[⟨.normal,[.v 2 .bool],[]⟩],[]⟩ fun x=>J4 N x.1 x.2.1).fn Tryz.func27)
noncomputable def Sc (N:Nat):bV bA:=(Sb N).ch ⟨59,1,[.v 0 (.int .i64)],[],au8,0,[.v 2 .bool],[],[.tmp 2],au7⟩ (fun r x=>pX N x.1) ((((Sb N).u Tryz.f59).aL ⟨[1,0],[.v 0 (.int .i64)],[],[],[⟨.normal,[.v 2 .bool],[]⟩],[]⟩ fun x=>J8 N x.1).fn Tryz.func59)
noncomputable def Sd (N:Nat):bV bA:=(Sc N).ch ⟨28,1,[.v 0 (.agg 29)],[],au8,0,[.v 2 .bool],[],[.tmp 2],au7⟩ (fun r x=>LW N x.1) (((((((((((Sc N).u Tryz.f28).aL ⟨[1,0],[.o 1 (.box 29)],[(1, .box 0 0)],[1],[⟨.normal,[.v 3 .bool],[]⟩],[1]⟩ fun x=>I7 N x.1).aL ⟨[1,1,0,1,0,0,0,0],[.o 1 (.box 29), .v 3 .bool, .v 4 (.int .i64)],[(1, .box 0 0)],[1],[⟨.normal,[.v 76 .bool],[]⟩],[1,3,4]⟩ fun x=>I8 N x.1 x.2.1 x.2.2.1).b5 N ⟨[1,1,0,1,0],[.o 1 (.box 29), .v 3 .bool, .v 4 (.int .i64)],[(1, .box 0 0)],[1],[⟨.exit 0,[.v 3 .bool],[]⟩],[1]⟩ fun n x=>BK N x.1 n x.2.1 x.2.2.1).aL ⟨[1,1,1,0,1,0,0,0,0],[.o 1 (.box 29), .v 3 .bool, .v 5 (.int .i64)],[(1, .box 0 0)],[1],[⟨.normal,[.v 92 .bool],[]⟩],[1,3,5]⟩ fun x=>I9 N x.1 x.2.1 x.2.2.1).aL ⟨[1,1,1,0,1,0,0,1,0,0],[.o 1 (.box 29), .v 5 (.int .i64)],[(1, .box 0 0)],[1],[⟨.normal,[.v 3 .bool],[]⟩],[1,5]⟩ fun x=>Ja N x.1 x.2.1).b5 N ⟨[1,1,1,0,1,0],[.o 1 (.box 29), .v 3 .bool, .v 5 (.int .i64)],[(1, .box 0 0)],[1],[⟨.exit 2,[.v 3 .bool],[]⟩],[1]⟩ fun n x=>BL N x.1 n x.2.1 x.2.2.1).aL ⟨[1,1,1,1,0,1,0,0,0,0],[.o 1 (.box 29), .v 3 .bool, .v 6 (.int .i64)],[(1, .box 0 0)],[1],[⟨.normal,[.v 119 .bool],[]⟩],[1,3,6]⟩ fun x=>Jb N x.1 x.2.1 x.2.2.1).b5 N ⟨[1,1,1,1,0,1,0],[.o 1 (.box 29), .v 3 .bool, .v 6 (.int .i64)],[(1, .box 0 0)],[1],[⟨.exit 4,[.v 3 .bool],[]⟩],[]⟩ fun n x=>BM N x.1 n x.2.1 x.2.2.1).fn Tryz.func28)
noncomputable def Se (N:Nat):bV bA:=(Sd N).ch ⟨29,1,[.v 0 (.int .i64)],[],au8,0,[.o 2 (.ad 5)],[(2, .c (.own 0))],[.tmp 2],ava⟩ (fun r x=>nE N x.1) (((Sd N).u Tryz.f29).fn Tryz.func29)
noncomputable def Sf (N:Nat):bV bA:=(Se N).ch ⟨30,1,[.v 0 .str],[],au8,0,[.o 2 (.ad 5)],[(2, .c (.own 0))],[.tmp 2],ava⟩ (fun r x=>x5 N x.1) (((Se N).u Tryz.f30).fn Tryz.func30)
noncomputable def Sg (N:Nat):bV bA:=(Sf N).ch ⟨8,1,[.v 0 (.agg 29)],[],au8,0,[.o 2 (.ad 5), .v 3 (.int .i64)],[(2, .c (.own 0))],[.tmp 2, .tmp 3],ava⟩ (fun r x=>Dq N x.1) ((((((((Sf N).u Tryz.f8).b5 N ⟨[1,1,1,1,0,1,0,1,1,1,0,1,1,1,1,0],[.o 1 (.box 29), .o 4 (.ad 5), .v 5 (.int .i64)],[(1, .box 0 0),(4, .c (.own 1))],[1,0],[⟨.exit 1,[.o 4 (.ad 5)],[(4, .c (.own 2))]⟩],[]⟩ fun n x=>Be N x.1 n x.2.1 x.2.2.1).aL ⟨[1,1,1,1,0,1,0,1,1,1,1,0,1],[.o 1 (.box 29), .o 4 (.ad 5), .v 19 (.int .i64), .v 81 .bool],[(1, .box 0 0),(4, .c (.own 1))],[1,1],[⟨.normal,[.v 81 .bool],[]⟩],[1,4,19]⟩ fun x=>H5 N x.2.2.1 x.2.2.2.1).b5 N ⟨[1,1,1,1,0,1,0,1,1,1,1,1,0,1,1,1,1,0],[.o 1 (.box 29), .o 4 (.ad 5), .v 6 (.int .i64)],[(1, .box 0 0),(4, .c (.own 1))],[1,0],[⟨.exit 3,[.o 4 (.ad 5)],[(4, .c (.own 2))]⟩],[]⟩ fun n x=>Bf N x.1 n x.2.1 x.2.2.1).b5 N ⟨[1,1,1,1,0,1,0,1,1,1,1,1,1,1,0,1,1,0],[.o 1 (.box 29), .o 4 (.ad 5), .v 7 (.int .i64)],[(1, .box 0 0),(4, .c (.own 1))],[1,0],[⟨.exit 5,[.o 4 (.ad 5)],[(4, .c (.own 2))]⟩],[]⟩ fun n x=>Bg N x.1 n x.2.1 x.2.2.1).aL ⟨[1,1,1,1,0,1],[.o 1 (.box 29), .o 4 (.ad 5), .v 19 (.int .i64)],[(1, .box 0 0),(4, .c (.own 1))],[1,0],[⟨.normal,[.o 4 (.ad 5)],[(4, .c (.own 2))]⟩],[]⟩ fun x=>H4 N x.1 x.2.1 x.2.2.1).fn Tryz.func8)
noncomputable def Sh (N:Nat):bV bA:=(Sg N).ch ⟨33,1,[.v 0 (.int .i64)],[],au8,0,[.v 2 .bool],[],[.tmp 2],au7⟩ (fun r x=>K0 N x.1) ((((Sg N).u Tryz.f33).aL ⟨[1,0],[.v 0 (.int .i64)],[],[],[⟨.normal,[.v 2 .bool],[]⟩],[]⟩ fun x=>IK N x.1).fn Tryz.func33)
noncomputable def Si (N:Nat):bV bA:=(Sh N).ch ⟨35,1,[.v 0 (.agg 29)],[],au8,0,[.v 1000000 (.agg 29)],[],[.cell 2 29],ava⟩ (fun r x=>Lb N x.1) (((((Sh N).u Tryz.f35).aL ⟨[1,0,1,0,1,1,1,1,0,1],[.o 1 (.box 29), .o 2 (.box 29), .v 4 (.int .i64), .v 13 .bool],[(1, .box 0 0),(2, .box 1 0)],[1,1],[⟨.normal,[.v 13 .bool],[]⟩],[1,2,4]⟩ fun x=>IY N x.2.2.1 x.2.2.2.1).aL ⟨[1,0,1],[.o 1 (.box 29), .o 2 (.box 29), .v 4 (.int .i64)],[(1, .box 0 0),(2, .box 1 0)],[2,1],[⟨.normal,[.u 0 (.box 29)],[]⟩],[1,2]⟩ fun x=>IX N x.1 x.2.2.1).fn Tryz.func35)
noncomputable def Sj (N:Nat):bV bA:=(Si N).ch ⟨34,1,[.v 0 (.agg 29)],[],au8,0,[.v 2 .bool],[],[.tmp 2],au7⟩ (fun r x=>Lc N x.1) (((((Si N).u Tryz.f34).aL ⟨[1,1,0],[.o 1 (.box 29), .o 3 (.box 26)],[(1, .box 0 0),(3, .box 1 0)],[1,1],[⟨.normal,[.v 4 .bool],[]⟩],[1]⟩ fun x=>IZ N x.2.1).aL ⟨[1,1,1,0],[.o 1 (.box 29), .v 4 .bool],[(1, .box 0 0)],[1],[⟨.normal,[.v 2 .bool],[]⟩],[]⟩ fun x=>I0 N x.1 x.2.1).fn Tryz.func34)
noncomputable def Sl (N:Nat):bV bA:=(Sj N).ia ⟨36,2,[.o 100000000 (.box 29), .o 0 (.bG 105 [(0,2)]), .v 1 (.int .i64), .o 2000000 (.ad 5)],[(0, .box 1 0)],[1,2,0],[.o 2000000 (.ad 5), .u 1 (.bG 105 [(0,3)])],[],[],ava⟩ (fun x=>tI N x.2.1 x.2.2.1 x.2.2.2.1) ((((Sj N).u Tryz.f36).aL ⟨[0],[.o 100000000 (.box 29), .o 0 (.bG 105 [(0,2)]), .v 1 (.int .i64), .o 2000000 (.ad 5)],[(0, .box 1 0)],[1,2,1],[⟨.normal,[.u 1 (.bG 105 [(0,2)])],[]⟩],[0,1]⟩ fun x=>KE N x.2.1 x.2.2.1).ic Tryz.func36)
noncomputable def Sm (N:Nat):bV bA:=(Sl N).ia ⟨37,2,[.o 100000000 (.box 29), .o 0 (.bG 105 [(0,2)]), .v 1 (.ad 3), .o 2000000 (.ad 5)],[(0, .box 1 0)],[1,2,0],[.o 2000000 (.ad 5), .u 1 (.bG 105 [(0,3)])],[],[],ava⟩ (fun x=>tH N x.2.1 x.2.2.1 x.2.2.2.1) (((((Sl N).u Tryz.f37).aL ⟨[1,0,0,1,1,0,0,1,0],[.o 100000000 (.box 29), .o 0 (.bG 105 [(0,2)]), .v 5 (.int .i64), .o 2000000 (.ad 5)],[(0, .box 1 0)],[1,2,1],[⟨.normal,[.u 1 (.bG 105 [(0,2)])],[]⟩],[0,5,6,7,8]⟩ fun x=>KB N x.2.1 x.2.2.1).b5 N ⟨[1,0],[.o 100000000 (.box 29), .o 0 (.bG 105 [(0,2)]), .v 6 (.ad 3), .v 7 (.int .i64), .v 8 (.int .i64), .o 2000000 (.ad 5)],[(0, .box 1 0)],[1,2,0],[⟨.exit 0,[.u 1 (.bG 105 [(0,3)]), .o 2000000 (.ad 5)],[]⟩],[0]⟩ fun n x=>Db N x.2.2.1 x.2.2.2.1 n x.2.1 x.2.2.2.2.1 x.2.2.2.2.2.1).ic Tryz.func37)
noncomputable def Sn (N:Nat):bV bA:=(Sm N).ia ⟨38,2,[.o 100000000 (.box 29), .o 0 (.bG 105 [(0,2)]), .v 1 .str, .o 2000000 (.ad 5)],[(0, .box 1 0)],[1,2,0],[.o 2000000 (.ad 5), .u 1 (.bG 105 [(0,3)])],[],[],ava⟩ (fun x=>Dg N x.2.1 x.2.2.1 x.2.2.2.1) (((Sm N).u Tryz.f38).ic Tryz.func38)
noncomputable def So (N:Nat):bV bA:=(Sn N).ia ⟨36,2,[.o 0 (.bG 105 [(0,1)]), .v 1 (.int .i64), .o 2000000 (.ad 5)],[(0, .box 0 0)],[2,0],[.o 2000000 (.ad 5), .u 0 (.bG 105 [(0,2)])],[],[],ava⟩ (fun x=>KD N x.1 x.2.1 x.2.2.1) ((((Sn N).u Tryz.f36).aL ⟨[0],[.o 0 (.bG 105 [(0,1)]), .v 1 (.int .i64), .o 2000000 (.ad 5)],[(0, .box 0 0)],[2,1],[⟨.normal,[.u 0 (.bG 105 [(0,1)])],[]⟩],[0,1]⟩ fun x=>HB N x.1 x.2.1).ic Tryz.func36)
noncomputable def Mh (N:Nat):bV bA:=(So N).ia ⟨38,2,[.o 0 (.bG 105 [(0,1)]), .v 1 .str, .o 2000000 (.ad 5)],[(0, .box 0 0)],[2,0],[.o 2000000 (.ad 5), .u 0 (.bG 105 [(0,2)])],[],[],ava⟩ (fun x=>KH N x.1 x.2.1 x.2.2.1) (((So N).u Tryz.f38).ic Tryz.func38)
noncomputable def MR:fV D:=⟨37,2,[.o 100000000 (.box 48), .o 0 (.bG 105 [(0,2)]), .v 1 (.ad 3), .o 2000000 (.ad 5)],[(0, .box 1 0)],[1,2,0],[.o 2000000 (.ad 5), .u 1 (.bG 105 [(0,3)])],[],[],ava⟩
noncomputable def DL (N:Nat):MR.h2.F:=fun x=>KA N x.2.1 x.2.2.1 x.2.2.2.1
noncomputable def agn (N:Nat):dB (Mh N).a8 (hO Tryz.f37):=dB.aL dB.nil ⟨[1,0,0,1,1,0,0,1,0],[.o 100000000 (.box 48), .o 0 (.bG 105 [(0,2)]), .v 5 (.int .i64), .o 2000000 (.ad 5)],[(0, .box 1 0)],[1,2,1],[⟨.normal,[.u 1 (.bG 105 [(0,2)])],[]⟩],[0,5,6,7,8]⟩ fun x=>Ht N x.2.1 x.2.2.1
noncomputable def YY (N:Nat):dB (Mh N).a8 (hO Tryz.f37):=dB.b5 (agn N) N ⟨[1,0],[.o 100000000 (.box 48), .o 0 (.bG 105 [(0,2)]), .v 6 (.ad 3), .v 7 (.int .i64), .v 8 (.int .i64), .o 2000000 (.ad 5)],[(0, .box 1 0)],[1,2,0],[⟨.exit 0,[.u 1 (.bG 105 [(0,3)]), .o 2000000 (.ad 5)],[]⟩],[0]⟩ fun n x=>Ay N x.2.2.1 x.2.2.2.1 n x.2.1 x.2.2.2.2.1 x.2.2.2.2.2.1
theorem asJ (N:Nat):gQ bA MR (DL N):=dB.ic (YY N) Tryz.func37
noncomputable def abj (N:Nat):bV bA:=(Mh N).ia MR (DL N) (asJ N)
noncomputable def X4:fV D:=⟨37,2,[.o 100000002 (.box 48), .o 0 (.bG 105 [(0,2)]), .v 1 (.ad 3), .o 2000000 (.ad 5)],[(0, .box 1 0)],[1,2,0],[.o 2000000 (.ad 5), .u 1 (.bG 105 [(0,3)])],[],[],ava⟩
theorem aqU (N:Nat):gQ bA X4 (DL N):=dB.ic (YY N) Tryz.func37
noncomputable def Sp (N:Nat):bV bA:=(abj N).ia X4 (DL N) (aqU N)
noncomputable def abk (N:Nat):bV bA:=(Sp N).ch ⟨16,1,[.v 0 (.agg 29)],[],au8,0,[.o 2 (.ad 5), .v 3 (.int .i64)],[(2, .c (.own 0))],[.tmp 2, .tmp 3],ava⟩ (fun r x=>KL N x.1) ((((((((Sp N).u Tryz.f16).aL ⟨[1,0,0],[.o 1 (.box 29)],[(1, .box 0 0)],[1],[⟨.normal,[.v 18 .bool],[]⟩],[1]⟩ fun x=>HN N x.1).b5 N ⟨[1,1,1,1,0,1,0,1,1,1,0,1,1,1,1,0],[.o 4 (.bG 105 [(0,1)]), .v 75 (.ad 9), .v 76 (.int .i64), .v 77 (.int .i64), .o 2004000 (.ad 5)],[(4, .box 0 0)],[2,0],[⟨.exit 1,[.u 0 (.bG 105 [(0,2)]), .o 2004000 (.ad 5)],[]⟩],[4]⟩ fun n x=>Am N x.2.1 x.2.2.1 n x.1 x.2.2.2.1 x.2.2.2.2.1).aL ⟨[1,1,1,1,0,1,0,1,1,1,1,0,1],[.o 1 (.box 29), .o 4 (.bG 105 [(0,2)]), .v 26 (.int .i64), .v 85 .bool, .o 2004000 (.ad 5)],[(1, .box 0 0),(4, .box 1 0)],[1,1,1],[⟨.normal,[.v 85 .bool],[]⟩],[1,4,26]⟩ fun x=>HP N x.2.2.1 x.2.2.2.1).b5 N ⟨[1,1,1,1,0,1,0,1,1,1,1,1,1,1,0,1,1,0],[.o 4 (.bG 105 [(0,1)]), .v 112 (.ad 48), .v 113 (.int .i64), .v 114 (.int .i64), .o 2004000 (.ad 5)],[(4, .box 0 0)],[2,0],[⟨.exit 3,[.u 0 (.bG 105 [(0,2)]), .o 2004000 (.ad 5)],[]⟩],[4]⟩ fun n x=>An N x.2.1 x.2.2.1 n x.1 x.2.2.2.1 x.2.2.2.2.1).aL ⟨[1,1,1,1,0,1],[.o 1 (.box 29), .o 4 (.bG 105 [(0,2)]), .v 26 (.int .i64), .o 2004000 (.ad 5)],[(1, .box 0 0),(4, .box 1 0)],[0,2,0],[⟨.normal,[.u 1 (.bG 105 [(0,3)]), .o 2004000 (.ad 5)],[]⟩],[4]⟩ fun x=>HO N x.1 x.2.1 x.2.2.1 x.2.2.2.1).fn Tryz.func16)
noncomputable def Em:fm D:=⟨17,1,[.v 0 (.ad 5)],[],au8,0,[.v 2 (.agg 29), .v 3 (.int .i64)],[],[.tmp 2, .tmp 3],ava⟩
noncomputable def Rv (N:Nat):Em.F:=fun r x=>tJ N x.1
theorem Gx {aA:Type} {T:ct aA} {z:Nat->bo} {n:Nat} {xs:List aA} {L:List au9} (a4:xs≠[]->z n= .own L T.tid) (az:xs.length*T.a7<=L.length) (ai:∀(i:Nat) (x:aA),xs[i]? =au6 x->∃cs,T.rd z x cs/\av.nk L (0+i*T.a7) cs):eu T z xs (kj n xs.length):=by
 cases xs with
 |nil=>exact .inl ⟨rfl,rfl⟩
 |cons a l=>have a4:=a4 (by simp);refine .inr ⟨n,0,cJ,if_neg (by simp),by rw[a4];trivial, .inl ⟨rfl,L,a4,by rw[avD];exact az⟩,fun i x aj=> ?_⟩;obtain ⟨cs,U,aa⟩:=ai i x aj;exact ⟨cs,U,fun j u aZ=>by unfold k8;rw[a4];exact aa j u aZ⟩
theorem OC {aA:Type} {f:aA->au9} {xs:List aA} {i:Nat} {x:aA} (h:xs[i]? =au6 x):av.nk (xs.map f) (0+i*1) [f x]:=fun j u aZ=>by
 cases j with
 |zero=>cases aZ;rw[awF,avD,av2,awb,h];rfl
 |succ j=>cases aZ
theorem asm {xs:List er} {i:Nat} {x:er} (h:xs[i]? =au6 x):av.nk (xs.flatMap r5) (0+i*2) [hr x.place,hr x.bC]:=fun j u aZ=>by
 induction xs generalizing i with
 |nil=>cases h
 |cons a l ar=>
  cases i with
  |zero=>cases h;rw[Nat.zero_mul,avD,awQ,List.getElem?_append_left (by have:=(avr.1 aZ).1;exact this)];exact aZ
  |succ i=>have:=ar (i:=i) (by simpa using h);rw[show 0+(i+1)*2+j=(r5 a).length+(0+i*2+j) by show _=2+_;omega,awQ,List.getElem?_append_right (Nat.le_add_right _ _),Nat.add_sub_cancel_left];exact this
theorem akE (N:Nat) (x:eD D [.v 0 (.ad 5)]) (y:kf D [.v 2 (.agg 29), .v 3 (.int .i64)]) (dh:aX D) {z:Nat->bo} {m:Mem} {args:List au9} {fr:Nat->au9} (dQ:tJ N x.1=au6 y) (aC:vF (xF (gz bA [.v 2 (.agg 29), .v 3 (.int .i64)] (fB [.v 2 (.agg 29), .v 3 (.int .i64)] y)) [] (kE l3 [.tmp 2, .tmp 3])) (kE l3 [.tmp 2, .tmp 3])=au6 dh)
  (aY:Ql bA Em x args z m fr):∃B v,B.hy/\rel bA.G (mZ z m.next B) [] dh v/\hs Tryz.prog 17 args.toArray m fun bI m'=>bI=v/\m'=m.push B:=by
 obtain ⟨s,u⟩:=x;obtain ⟨U,aa,ap,aN⟩:=aY;obtain ⟨a,rfl⟩:=List.length_eq_one_iff.1 U;have MZ:rel bA.G z [] (.c (.ad 5 s)) a:=by rw[<-aa 0 a rfl];exact aN (0, .c (.ad 5 s)) List.mem_cons_self
 have MZ:eu l2 z s a:=MZ;have kb:DI m s a:=by
  rcases MZ with h|⟨b,off,c,rfl,_,ai,az⟩
  ·exact .inl h
  ·refine .inr ⟨b,off,c,rfl,fun ag=> ?_,fun i x aj=> ?_⟩
   ·rcases ai with ⟨rfl,_⟩|⟨_,ai⟩
    ·exact absurd ag (awP _)
    ·exact ai
   ·obtain ⟨cs,aU,aQ⟩:=az i x aj;have aU:cs=[.int .u8 x.toNat]:=aU;subst aU;have:=O9 ap (aQ 0 _ rfl);rw[show off+i*l2.a7+0=off+i from by show off+i*1+0=_;omega] at this;exact this
 have dQ:tJ N s=au6 y:=dQ;unfold tJ at dQ;split at dQ
 ·cases dQ;have U:=XL s;have aO:=akD kb;unfold Ej at aO;generalize gS s=p at aC U aO;obtain ⟨⟨cG,mX,to,mB,wt,jZ,aL,⟨on,kD,ko⟩,kC,k2⟩,n⟩:=p;refine ⟨_,_, ?_, ?_,hs.sort (by kernel_rfl) aO ⟨rfl,rfl⟩⟩
  ·unfold jj;repeat' split
   all_goals trivial
  cases aC;have a4:∀X,mZ z m.next X m.next=X:=fun X=>if_pos rfl;have eA:jZ≠[]->mZ z m.next (jj ⟨cG,mX,to,mB,wt,jZ,aL,⟨on,kD,ko⟩,kC,k2⟩) m.next= .own (jZ.map hr) ht.tid:=fun h=>by rw[a4];simp only[jj,ne_eq,h,not_false_eq_true,if_true];rfl
  have hE:aL≠[]->mZ z m.next (jj ⟨cG,mX,to,mB,wt,jZ,aL,⟨on,kD,ko⟩,kC,k2⟩) m.next= .own (aL.flatMap r5) o7.tid:=fun h=>by
   rcases U with ⟨g,_⟩|⟨g,_⟩|⟨_,g,_⟩|⟨_,g,_⟩<;>first|exact absurd g h|skip
   have g:jZ=[]:=g;rw[a4];simp only[jj,ne_eq,h,g,not_false_eq_true,not_true,if_true,if_false];rfl
  have oo:ko≠[]->mZ z m.next (jj ⟨cG,mX,to,mB,wt,jZ,aL,⟨on,kD,ko⟩,kC,k2⟩) m.next= .own (ko.map ny) nO.tid:=fun h=>by
   rcases U with ⟨_,g,_⟩|⟨_,g,_⟩|⟨g,aQ,_⟩|⟨_,_,g⟩<;>first|exact absurd g h|skip
   have g:jZ=[]:=g;have aQ:aL=[]:=aQ;rw[a4];simp only[jj,ne_eq,h,g,aQ,not_false_eq_true,not_true,if_true,if_false];rfl
  have Ua:k2≠[]->mZ z m.next (jj ⟨cG,mX,to,mB,wt,jZ,aL,⟨on,kD,ko⟩,kC,k2⟩) m.next= .own (k2.map Ed) l2.tid:=fun h=>by
   rcases U with ⟨_,_,g⟩|⟨_,_,g⟩|⟨_,_,g⟩|⟨g,aQ,bT⟩<;>first|exact absurd g h|skip
   have g:jZ=[]:=g;have aQ:aL=[]:=aQ;have bT:ko=[]:=bT;rw[a4];simp only[jj,ne_eq,g,aQ,bT,not_true,if_false];rfl
  have b6:eu ht (mZ z m.next (jj ⟨cG,mX,to,mB,wt,jZ,aL,⟨on,kD,ko⟩,kC,k2⟩)) jZ (kj m.next jZ.length):=Gx eA (by rw[awk];exact Nat.le_of_eq (awF _)) fun i x aj=>⟨[hr x],⟨rfl,trivial⟩,OC aj⟩
  have cc:eu o7 (mZ z m.next (jj ⟨cG,mX,to,mB,wt,jZ,aL,⟨on,kD,ko⟩,kC,k2⟩)) aL (kj m.next aL.length):=Gx hE (by rw[Zh];exact avm _) fun i x aj=>⟨[hr x.place,hr x.bC],⟨rfl,rfl,trivial⟩,asm aj⟩
  have eF:eu nO (mZ z m.next (jj ⟨cG,mX,to,mB,wt,jZ,aL,⟨on,kD,ko⟩,kC,k2⟩)) ko (kj m.next ko.length):=Gx oo (by rw[awk];exact Nat.le_of_eq (awF _)) fun i x aj=>⟨[ny x],⟨rfl,trivial⟩,OC aj⟩
  have jk:eu l2 (mZ z m.next (jj ⟨cG,mX,to,mB,wt,jZ,aL,⟨on,kD,ko⟩,kC,k2⟩)) k2 (kj m.next k2.length):=Gx Ua (by rw[awk];exact Nat.le_of_eq (awF _)) fun i x aj=>⟨[Ed x],rfl,OC aj⟩
  exact ⟨[.agg (ra _ m.next), .int .i64 n],rfl,⟨(ra _ m.next).toList,rfl,rfl,rfl,rfl,rfl,rfl,b6,cc,rfl,rfl,eF,rfl,jk,trivial⟩,rfl,trivial⟩
 ·cases dQ
theorem asN (N:Nat):ix bA Em (Rv N):=aaX.push (f:=17) (np:=1) (fx:=[]) (outs:=[.v 2 (.agg 29), .v 3 (.int .i64)]) (k0:=[.tmp 2, .tmp 3]) (fun (x:eD D [.v 0 (.ad 5)])=>tJ N x.1) (fun _ _=>rfl) (akE N)
noncomputable def Sq (N:Nat):bV bA:=(abk N).ch Em (Rv N) (asN N)
noncomputable def Sr (N:Nat):bV bA:=(Sq N).ch ⟨61,2,[.v 1 (.int .i64)],[],au6 (0,137),2,[.o 4 (.ad 5), .u 0 (.recv 137)],[(4, .c (.own 1))],[.tmp 4],ava⟩ (fun r x=>vV N r x.1) ((((Sq N).u Tryz.f61).aL ⟨[1,0,0],[.o 0 (.recv 137), .v 1 (.int .i64)],[(0, .box 0 0)],[1],[⟨.normal,[.v 23 .bool],[]⟩],[0,1]⟩ fun x=>IW N x.1 x.2.1).fn Tryz.func61)
noncomputable def St (N:Nat):bV bA:=(Sr N).ch ⟨60,1,[],[],au6 (0,137),2,[.v 2 (.int .i64), .u 0 (.recv 137)],[],[.tmp 2],ava⟩ (fun r x=>nD N r) (((Sr N).u Tryz.f60).fn Tryz.func60)
noncomputable def Su (N:Nat):bV bA:=(St N).ch ⟨63,1,[],[],au6 (0,137),2,[.v 2 (.int .i64), .u 0 (.recv 137)],[],[.tmp 2],ava⟩ (fun r x=>vU N r) (((St N).u Tryz.f63).fn Tryz.func63)
noncomputable def Sv (N:Nat):bV bA:=(Su N).ch ⟨62,1,[],[],au6 (0,137),2,[.v 2 .str, .u 0 (.recv 137)],[],[.tmp 2],ava⟩ (fun r x=>xW N r) (((Su N).u Tryz.f62).fn Tryz.func62)
end Go.W
end
section
set_option maxRecDepth 100000
set_option maxHeartbeats 1000000
namespace Go.W
open Go.av Go.Proofs
noncomputable def Sw (N:Nat):bV bA:=(Sv N).ch ⟨31,1,[.v 0 (.ad 5)],[],au8,0,[.v 1000000 (.agg 29), .v 3 (.int .i64)],[],[.cell 2 29, .tmp 3],ava⟩ (fun r x=>Lr N x.1) (((((((((((Sv N).u Tryz.f31).aL ⟨[1,1,1,1,0,1,0,1,1,1,0,1,1,1,0,0,0,0],[.o 2 (.box 29), .o 4 (.bG 29 [(5,3),(6,4),(9,5),(11,6)]), .o 5 (.box 137), .v 6 (.int .i64), .o 2004005 (.ad 3), .o 2004006 (.ad 48), .o 2004009 (.ad 9), .o 2004011 (.ad 5)],[(2, .box 0 0),(4, .box 1 0),(5, .box 2 0)],[1,1,1,1,1,1,1],[⟨.normal,[.v 55 .bool],[]⟩],[0,2,4,5,6]⟩ fun x=>HZ N x.2.2.1 x.2.2.2.1).b5 N ⟨[1,1,1,1,0,1,0,1,1,1,0,1,1,1,0],[.o 2 (.box 29), .o 4 (.bG 29 [(5,3),(6,4),(9,5),(11,6)]), .o 5 (.box 137), .v 6 (.int .i64), .o 2004005 (.ad 3), .o 2004006 (.ad 48), .o 2004009 (.ad 9), .o 2004011 (.ad 5)],[(2, .box 0 0),(4, .box 1 0),(5, .box 2 0)],[1,2,2,1,1,0,1],[⟨.exit 1,[.u 1 (.bG 29 [(5,3),(6,4),(9,7),(11,6)]), .u 2 (.box 137), .o 2004009 (.ad 9)],[]⟩],[0,2,4,5]⟩ fun n x=>Bb N n x.2.1 x.2.2.1 x.2.2.2.1 x.2.2.2.2.2.2.1).aL ⟨[1,1,1,1,0,1,0,1,1,1,1,0,1],[.o 2 (.box 29), .o 4 (.bG 29 [(5,3),(6,4),(9,5),(11,6)]), .o 5 (.box 137), .v 23 (.int .i64), .v 67 .bool, .o 2004005 (.ad 3), .o 2004006 (.ad 48), .o 2004009 (.ad 9), .o 2004011 (.ad 5)],[(2, .box 0 0),(4, .box 1 0),(5, .box 2 0)],[1,1,1,1,1,1,1],[⟨.normal,[.v 67 .bool],[]⟩],[0,2,4,5,23]⟩ fun x=>H0 N x.2.2.2.1 x.2.2.2.2.1).aL ⟨[1,1,1,1,0,1,0,1,1,1,1,1,0,1,1,1,0,0,0,0],[.o 2 (.box 29), .o 4 (.bG 29 [(5,3),(6,4),(9,5),(11,6)]), .o 5 (.box 137), .v 7 (.int .i64), .o 2004005 (.ad 3), .o 2004006 (.ad 48), .o 2004009 (.ad 9), .o 2004011 (.ad 5)],[(2, .box 0 0),(4, .box 1 0),(5, .box 2 0)],[1,1,1,1,1,1,1],[⟨.normal,[.v 86 .bool],[]⟩],[0,2,4,5,7]⟩ fun x=>H2 N x.2.2.1 x.2.2.2.1).b5 N ⟨[1,1,1,1,0,1,0,1,1,1,1,1,0,1,1,1,0],[.o 2 (.box 29), .o 4 (.bG 29 [(5,3),(6,4),(9,5),(11,6)]), .o 5 (.box 137), .v 7 (.int .i64), .o 2004005 (.ad 3), .o 2004006 (.ad 48), .o 2004009 (.ad 9), .o 2004011 (.ad 5)],[(2, .box 0 0),(4, .box 1 0),(5, .box 2 0)],[1,2,2,0,1,1,1],[⟨.exit 3,[.u 1 (.bG 29 [(5,7),(6,4),(9,5),(11,6)]), .u 2 (.box 137), .o 2004005 (.ad 3)],[]⟩],[0,2,4,5]⟩ fun n x=>Bc N n x.2.1 x.2.2.1 x.2.2.2.1 x.2.2.2.2.1).aL ⟨[1,1,1,1,0,1,0,1,1,1,1,1,1,1,0,1,0,0,0,0],[.o 2 (.box 29), .o 4 (.bG 29 [(5,3),(6,4),(9,5),(11,6)]), .o 5 (.box 137), .v 8 (.int .i64), .o 2004005 (.ad 3), .o 2004006 (.ad 48), .o 2004009 (.ad 9), .o 2004011 (.ad 5)],[(2, .box 0 0),(4, .box 1 0),(5, .box 2 0)],[1,1,1,1,1,1,1],[⟨.normal,[.v 108 .bool],[]⟩],[0,2,4,5,8]⟩ fun x=>H3 N x.2.2.1 x.2.2.2.1).b5 N ⟨[1,1,1,1,0,1,0,1,1,1,1,1,1,1,0,1,0],[.o 2 (.box 29), .o 4 (.bG 29 [(5,3),(6,4),(9,5),(11,6)]), .o 5 (.box 137), .v 8 (.int .i64), .o 2004005 (.ad 3), .o 2004006 (.ad 48), .o 2004009 (.ad 9), .o 2004011 (.ad 5)],[(2, .box 0 0),(4, .box 1 0),(5, .box 2 0)],[1,2,2,1,0,1,1],[⟨.exit 5,[.u 1 (.bG 29 [(5,3),(6,7),(9,5),(11,6)]), .u 2 (.box 137), .o 2004006 (.ad 48)],[]⟩],[0,2,4,5]⟩ fun n x=>Bd N n x.2.1 x.2.2.1 x.2.2.2.1 x.2.2.2.2.2.1).aL ⟨[1,1,1,1,0,1],[.o 2 (.box 29), .o 4 (.bG 29 [(5,3),(6,4),(9,5),(11,6)]), .o 5 (.box 137), .v 23 (.int .i64), .o 2004005 (.ad 3), .o 2004006 (.ad 48), .o 2004009 (.ad 9), .o 2004011 (.ad 5)],[(2, .box 0 0),(4, .box 1 0),(5, .box 2 0)],[2,2,2,0,0,0,0],[⟨.normal,[.u 0 (.box 29), .u 1 (.bG 29 [(5,7),(6,8),(9,9),(11,10)]), .u 2 (.box 137), .o 2004005 (.ad 3), .o 2004006 (.ad 48), .o 2004009 (.ad 9), .o 2004011 (.ad 5)],[]⟩,⟨.ret,[.u 0 (.box 29), .v 3 (.int .i64)],[]⟩],[0,2,4,5]⟩ fun x=>IB N x.1 x.2.1 x.2.2.1 x.2.2.2.1 x.2.2.2.2.1 x.2.2.2.2.2.1 x.2.2.2.2.2.2.1 x.2.2.2.2.2.2.2.1).fn Tryz.func31)
noncomputable def Sx (N:Nat):bV bA:=(Sw N).ch ⟨20,2,[.v 0 (.ad 5), .v 1 (.ad 5)],[],au8,0,[.v 4 .bool],[],[.tmp 4],au7⟩ (fun r x=>Dr N x.1 x.2.1) ((((Sw N).u Tryz.f20).b5 N ⟨[1,1,0,1,0],[.v 0 (.ad 5), .v 1 (.ad 5), .v 5 (.int .i64)],[],[],[⟨.exit 0,[],[]⟩,⟨.ret,[.v 4 .bool],[]⟩],[]⟩ fun n x=>Bh N x.1 x.2.1 n x.2.2.1).fn Tryz.func20)
noncomputable def Sy (N:Nat):bV bA:=(Sx N).ch ⟨42,2,[.v 0 (.ad 3), .v 1 (.ad 3)],[],au8,0,[.v 4 .bool],[],[.tmp 4],au7⟩ (fun r x=>LL N x.1 x.2.1) ((((Sx N).u Tryz.f42).b5 N ⟨[1,1,0,1,0],[.v 0 (.ad 3), .v 1 (.ad 3), .v 5 (.int .i64)],[],[],[⟨.exit 0,[],[]⟩,⟨.ret,[.v 4 .bool],[]⟩],[]⟩ fun n x=>BY N x.1 x.2.1 n x.2.2.1).fn Tryz.func42)
noncomputable def Sz (N:Nat):bV bA:=(Sy N).ch ⟨70,2,[.v 0 (.ad 9), .v 1 (.ad 9)],[],au8,0,[.v 4 .bool],[],[.tmp 4],au7⟩ (fun r x=>K8 N x.1 x.2.1) ((((Sy N).u Tryz.f70).b5 N ⟨[1,1,0,1,0],[.v 0 (.ad 9), .v 1 (.ad 9), .v 5 (.int .i64)],[],[],[⟨.exit 0,[],[]⟩,⟨.ret,[.v 4 .bool],[]⟩],[]⟩ fun n x=>Bz N x.1 x.2.1 n x.2.2.1).fn Tryz.func70)
noncomputable def SA (N:Nat):bV bA:=(Sz N).ch ⟨43,2,[.v 0 (.ad 26), .v 1 (.ad 26)],[],au8,0,[.v 4 .bool],[],[.tmp 4],au7⟩ (fun r x=>Ky N x.1 x.2.1) (((((Sz N).u Tryz.f43).aL ⟨[1,1,0,1,0,0,1,0,0,0],[.v 0 (.ad 26), .v 1 (.ad 26), .v 5 (.int .i64)],[],[],[⟨.normal,[.v 54 .bool],[]⟩],[0,1,5]⟩ fun x=>Hs N x.1 x.2.1 x.2.2.1).b5 N ⟨[1,1,0,1,0],[.v 0 (.ad 26), .v 1 (.ad 26), .v 5 (.int .i64)],[],[],[⟨.exit 0,[],[]⟩,⟨.ret,[.v 4 .bool],[]⟩],[]⟩ fun n x=>Ax N x.1 x.2.1 n x.2.2.1).fn Tryz.func43)
noncomputable def SB (N:Nat):bV bA:=(SA N).ch ⟨18,2,[.v 0 (.agg 29), .v 1 (.agg 29)],[],au8,0,[.v 4 .bool],[],[.tmp 4],au7⟩ (fun r x=>Kx N x.1 x.2.1) (((((SA N).u Tryz.f18).aL ⟨[1,0,0],[.o 2 (.box 29), .o 3 (.box 29)],[(2, .box 0 0),(3, .box 1 0)],[1,1],[⟨.normal,[.v 70 .bool],[]⟩],[2,3]⟩ fun x=>Hr N x.1 x.2.1).b5 N ⟨[1,1,0,1,0],[.o 2 (.box 29), .o 3 (.box 29), .v 5 (.int .i64)],[(2, .box 0 0),(3, .box 1 0)],[1,1],[⟨.exit 0,[],[]⟩,⟨.ret,[.v 4 .bool],[]⟩],[2,3]⟩ fun n x=>Aw N x.1 x.2.1 n x.2.2.1).fn Tryz.func18)
noncomputable def abl (N:Nat):bV bA:=(SB N).ch ⟨9,2,[.v 0 (.agg 29), .v 1 (.ad 5)],[],au8,0,[.v 4 .bool],[],[.tmp 4],au7⟩ (fun r x=>xY N x.1 x.2.1) ((((SB N).u Tryz.f9).aL ⟨[1,1,1,1,1,0],[.o 5 (.ad 5), .v 6 (.int .i64), .o 7 (.ad 5), .v 8 (.int .i64), .o 9 (.box 29), .v 10 (.int .i64), .o 11 (.box 29), .v 12 (.int .i64)],[(5, .c (.own 0)),(7, .c (.own 1)),(9, .box 2 0),(11, .box 3 0)],[1,1,1,1],[⟨.normal,[.v 4 .bool],[]⟩],[]⟩ fun x=>H6 N x.1 x.2.1 x.2.2.1 x.2.2.2.1 x.2.2.2.2.1 x.2.2.2.2.2.1 x.2.2.2.2.2.2.1 x.2.2.2.2.2.2.2.1).fn Tryz.func9)
noncomputable def MY:fm D:=⟨14,0,[],[],au8,0,[.v 0 .bool],[],[.tmp 0],au7⟩
noncomputable def Rw (N:Nat):MY.F:=fun r x=>Dy N
theorem asR (N:Nat):ix bA MY (Rw N):=akz (f:=14) (s:=0) (by kernel_rfl) ajq (fun y O K=>by kernel_rfl) _ (fun _ _=> .inr rfl)
noncomputable def yj (N:Nat):bV bA:=(abl N).ch MY (Rw N) (asR N)
noncomputable def agp (N:Nat):dB (yj N).a8 (hO Tryz.f3):=dB.aL dB.nil ⟨[1,1,1,1,0,1,0,0,1,0,0,1,1,1,0,1],[.o 4 (.box 29), .o 7 (.box 59), .o 9 (.ad 29), .o 11 (.box 29), .o 12 (.ad 5), .v 41 (.int .i64)],[(4, .box 0 0),(7, .box 1 0),(9, .c (.own 2)),(11, .box 3 0),(12, .c (.own 4))],[1,2,1,2,1],[⟨.normal,[.u 1 (.box 59), .u 3 (.box 29)],[]⟩],[2,4,7,9,10,11,12]⟩ fun x=>Hu N x.2.1 x.2.2.2.1 x.2.2.2.2.2.1
noncomputable def ago (N:Nat):dB (yj N).a8 (hO Tryz.f3):=dB.b5 (agp N) N ⟨[1,1,1,1,0,1,0],[.o 4 (.box 29), .o 7 (.box 59), .o 9 (.ad 29), .v 10 (.int .i64)],[(4, .box 0 0),(7, .box 1 0),(9, .c (.own 2))],[1,0,1],[⟨.exit 0,[],[]⟩,⟨.ret,[.v 6 .bool],[]⟩],[2,4]⟩ fun n x=>Az N x.2.2.1 n x.2.1 x.2.2.2.1
noncomputable def agq (N:Nat):dB (yj N).a8 (hO Tryz.f3):=dB.aL (ago N) ⟨[1,1,1,1,1,0,0],[.v 2 (.ad 5), .o 4 (.box 29)],[(4, .box 0 0)],[1],[⟨.normal,[.v 128 .bool],[]⟩],[2,4]⟩ fun x=>Hv N x.1 x.2.1
noncomputable def agr (N:Nat):dB (yj N).a8 (hO Tryz.f3):=dB.aL (agq N) ⟨[1,1,1,1,1,1,0],[.v 2 (.ad 5), .o 4 (.box 29)],[(4, .box 0 0)],[1],[⟨.normal,[.v 6 .bool],[]⟩],[]⟩ fun x=>Hw N x.1 x.2.1
noncomputable def El:fm D:=⟨3,3,[.v 0 (.ad 3), .v 1 (.agg 29), .v 2 (.ad 5)],[],au8,0,[.v 6 .bool],[],[.tmp 6],au7⟩
noncomputable def DM (N:Nat):El.F:=fun r x=>xV N x.1 x.2.1 x.2.2.1
theorem aaG (N:Nat):ix bA El (DM N):=dB.fn (agr N) Tryz.func3
noncomputable def as5 (N:Nat):bV bA:=(yj N).ch El (DM N) (aaG N)
end Go.W
end
section
namespace Go.W
open Go.av
abbrev aH {bO:Type} (e:Option bO) (P:bO->Prop):Prop:=¬e=au8/\∀r,e=au6 r->P r
theorem wg {aA bO:Type} {e:Option aA} {f:aA->Option bO} {P:bO->Prop} (h:e≠au8) (k:∀y,e=au6 y->aH (f y) P):aH (au' e f) P:=by
 cases e with
 |none=>exact absurd rfl h
 |some y=>exact k y rfl
theorem D8 {aA o3 bO:Type} {e:Option (Sum aA o3)} {f:Sum aA o3->Option bO} {P:bO->Prop} (h:e≠au8) (k:∀y,e=au6 (.inl y)->aH (f (.inl y)) P) (l:∀y,e=au6 (.inr y)->aH (f (.inr y)) P):aH (au' e f) P:=by
 cases e with
 |none=>exact absurd rfl h
 |some y=>cases y with
  |inl y=>exact k y rfl
  |inr y=>exact l y rfl
theorem l5 {bO:Type} {n:Int} {f:UInt8->Option bO} {P:bO->Prop} (k:∀y,aH (f y) P):aH (au' (fp (avc .u8 n)) f) P:=by
 rw[axH];unfold fp;rw[if_pos (by omega)];exact k _
theorem dW {aA bO:Type} {xs b7:List aA} {f:List aA->Option bO} {P:bO->Prop} (h:xs.length+b7.length<=4294967296) (k:∀y,y=xs++b7->aH (f y) P):aH (au' (ck xs b7) f) P:=by
 rw[show ck xs b7=au6 (xs++b7) from if_pos h];exact k _ rfl
theorem bU {aA bO:Type} {xs:List aA} {i:Int} {f:aA->Option bO} {P:bO->Prop} (h:0<=i/\i<xs.length) (k:∀y,aD xs i=au6 y->aH (f y) P):aH (au' (aD xs i) f) P:=by
 have e:aD xs i=au6 (xs[i.toNat]'(by omega)):=by unfold aD;rw[if_pos h.1];exact avV _
 rw[e];exact k _ e
theorem p6 {aA bO:Type} {xs:List aA} {a b:Int} {f:List aA->Option bO} {P:bO->Prop} (h:0<=a/\a<=b/\b<=xs.length) (k:∀y,y=(xs.take b.toNat).drop a.toNat->aH (f y) P):aH (au' (ho xs a b) f) P:=by
 rw[show ho xs a b=_ from if_pos h];exact k _ rfl
theorem sv {aA bO:Type} {x:aA} {n:Int} {f:List aA->Option bO} {P:bO->Prop} (h:0<=n/\n<=4294967296) (k:∀y,y=avw n.toNat x->aH (f y) P):aH (au' (iG x n) f) P:=by
 rw[show iG x n=_ from if_pos h];exact k _ rfl
theorem Mv {bO:Type} {a b:Int} {f:Int->Option bO} {P:bO->Prop} (h:b≠0) (k:∀y,(0<b->y<b/\ -b<y/\(0<=a->0<=y))->aH (f y) P):aH (au' (oJ a b) f) P:=by
 rw[show oJ a b=au6 (a.tmod b) by simp[oJ,h]];exact k _ fun h=>⟨Int.tmod_lt_of_pos a h,Int.lt_tmod_of_pos a h,Int.tmod_nonneg b⟩
theorem b8 {bO:Type} {e:Option bO} {Q P:bO->Prop} (h:aH e Q) (k:∀r,Q r->P r):aH e P:=⟨h.1,fun r e=>k r (h.2 r e)⟩
theorem yr {bO:Type} {k:avb} {b:Int} {f:Nat->Option bO} {P:bO->Prop} (h:0<=b) (g:∀y,aH (f y) P):aH (au' (n8 k b) f) P:=by
 rw[show n8 k b=_ from if_pos h];exact g _
theorem Ub {bO:Type} {k:avb} {b:Int} {f:Nat->Option bO} {P:bO->Prop} (g:∀y,aH (f y) P):aH (au' (n8 k (avc .u64 b)) f) P:=
 yr (by rw[avb.wrap_u64];omega) g
theorem aF {aA bO:Type} {e:Option aA} {f:aA->Option bO} {Q:aA->Prop} {P:bO->Prop} (h:aH e Q) (k:∀y,e=au6 y->Q y->aH (f y) P):aH (au' e f) P:=
 wg h.1 fun y aI=>k y aI (h.2 y aI)
theorem dU {aA o3 bO:Type} {e:Option (Sum aA o3)} {f:Sum aA o3->Option bO} {Q:Sum aA o3->Prop} {P:bO->Prop} (h:aH e Q) (k:∀y,e=au6 (.inl y)->Q (.inl y)->aH (f (.inl y)) P) (l:∀y,e=au6 (.inr y)->Q (.inr y)->aH (f (.inr y)) P):aH (au' e f) P:=
 D8 h.1 (fun y aI=>k y aI (h.2 _ aI)) fun y aI=>l y aI (h.2 _ aI)
theorem bn {aA bO:Type} {e:aA} {f:aA->Option bO} {P:bO->Prop} (k:∀y,y=e->aH (f y) P):aH (av.lt e f) P:=k e rfl
theorem aW {bO:Type} {c:Prop} [Decidable c] {a b:Option bO} {P:bO->Prop} (h:c->aH a P) (k:¬c->aH b P):aH (if c then a else b) P:=by
 by_cases ai:c
 ·rw[if_pos ai];exact h ai
 ·rw[if_neg ai];exact k ai
theorem bs {bO:Type} {c:Prop} [Decidable c] {a b:Option bO} {P:bO->Prop} (h:c->aH a P) (k:¬c->aH b P):aH (if decide c=au7 then a else b) P:=by
 by_cases ai:c
 ·rw[if_pos (by simpa using ai)];exact h ai
 ·rw[if_neg (by simpa using ai)];exact k ai
theorem Fa {bO:Type} {xs:List UInt8} {a b:Option bO} {P:bO->Prop} (h:xs=[]->aH a P) (k:0<xs.length->aH b P):aH (if (xs==[])=au7 then a else b) P:=by
 by_cases ai:xs=[]
 ·rw[if_pos (by simpa using ai)];exact h ai
 ·rw[if_neg (by simpa using ai)];exact k (List.length_pos_iff.mpr ai)
theorem bE {bO:Type} {e:Int} {f:Int->Option bO} {P:bO->Prop} (h: -4611686018427387904<=e/\e<=4611686018427387904) (k:aH (f e) P):aH (av.lt (avc .i64 e) f) P:=by
 unfold av.lt;rw[axa];rw[show (e+9223372036854775808)%18446744073709551616 - 9223372036854775808=e by omega];exact k
theorem aK {bO:Type} {v:bO} {P:bO->Prop} (h:P v):aH (au6 v) P:=⟨nofun,fun r e=>by cases e;exact h⟩
@[grind=] theorem r8 {x:Int} (bf: -4611686018427387904<=x) (U:x<=4611686018427387904):avc .i64 x=x:=by
 rw[axa];omega
@[grind=] theorem as8 {aA:Type} {xs b7:List aA} (h:xs.length+b7.length<=4294967296):ck xs b7=au6 (xs++b7):=if_pos h
@[grind=] theorem aut {aA:Type} {x:aA} {n:Int} (bf:0<=n) (h:n<=4294967296):iG x n=au6 (avw n.toNat x):=if_pos ⟨bf,h⟩
@[grind=] theorem ate {aA:Type} {xs:List aA} {a b:Int} (h:0<=a/\a<=b/\b<=xs.length):ho xs a b=au6 ((xs.take b.toNat).drop a.toNat):=if_pos h
@[grind .] theorem ath {a b:Int} (h:b≠0):¬ub a b=au8:=by simp[ub,h]
@[grind .] theorem auv {a b:Int} (h:b≠0):¬oJ a b=au8/\∀r,oJ a b=au6 r->0<b->r<b/\ -b<r/\(0<=a->0<=r):=
 ⟨by simp[oJ,h],fun r e h=>by
  obtain ⟨_,rfl⟩:=Xc e;exact ⟨Int.tmod_lt_of_pos a h,Int.lt_tmod_of_pos a h,Int.tmod_nonneg b⟩⟩
@[grind .] theorem auU {n:Int}:¬fp (avc .u8 n)=au8:=by
 rw[axH];unfold fp;rw[if_pos (by omega)];simp
attribute [grind=] axH
@[grind=] theorem asA {n:Int} (h:0<=n/\n<256):fp n=au6 (awv n.toNat):=if_pos h
theorem ka {aA:Type} {xs:List aA} {i:Int} (h:0<=i) (k:i<xs.length):∃t,aD xs i=au6 t:=⟨_,by unfold aD;rw[if_pos h];exact avV (by omega)⟩
attribute [grind->] List.mem_or_eq_of_mem_set List.mem_of_mem_take List.mem_of_mem_drop
@[grind .] theorem atk {aA:Type} {xs:List aA} {i:Int} (h:xs.length<=i):xs.drop i.toNat=[]:=List.drop_eq_nil_of_le (by omega)
@[grind->] theorem sw {aA:Type} {xs:List aA} {i:Int} {y:aA} (e:aD xs i=au6 y):xs.drop i.toNat=y::xs.drop (i+1).toNat:=by
 unfold aD at e;split at e
 ·rw[show (i+1).toNat=i.toNat+1 by omega];obtain ⟨h,rfl⟩:=avr.mp e;exact List.drop_eq_getElem_cons h
 ·cases e
@[grind->] theorem wU {aA:Type} {xs:List aA} {i:Int} {y:aA} (e:aD xs i=au6 y):y∈xs:=by
 unfold aD at e;split at e
 ·exact av4 e
 ·cases e
end Go.W
end
section
set_option maxHeartbeats 2000000
namespace Go.W
open Go.av
variable {N:Nat} (aq:5000000000<N)
include aq
structure nG (c:dx):Prop where
 t:c.aP.length<=1000000
 r:c.rules.length<=1000000
 n:∀t∈c.aP,t.name.length<=1000000
attribute [grind->] nG.t nG.r nG.n
theorem aoT {x0:List UInt8} {ak:Int} (U:0<=ak) (aa:ak<x0.length):aH (Jn N x0 ak) fun r=>True:=by
 rw[Jn];(repeat' with_reducible first|intro _|apply bU|apply bs|apply aW|apply aK)<;>grind
theorem aoS {x0:List UInt8} (U:x0.length<N) (aa:x0.length<=4000000000000000000) {n:Nat} {ak:Int}:(0<=ak)->(ak<=(x0.length:Int))->((x0.length:Int) - ak<n)->aH (BZ N x0 n ak) fun r=>True:=by
 induction n generalizing ak with
 |zero=>intros;exfalso;grind -mbtc
 |succ n ar=>intros;rw[BZ];(repeat' with_reducible first|intro _|apply aF (aoT aq ..)|apply b8 (ar ..)|refine bE (by omega) ?_|apply bn|apply bs|apply aW|apply aK)<;>clear ar<;>grind
theorem aoU {x0:List UInt8}:aH (Jo N x0) fun r=>True:=by
 rw[Jo];(repeat' with_reducible first|intro _|apply bn|apply bs|apply aW|apply aK)<;>grind
theorem G0 {x0:List UInt8} (U:x0.length<N) (aa:x0.length<=4000000000000000000):aH (v0 N x0) fun r=>True:=by
 rw[v0];(repeat' with_reducible first|intro _|apply dU (aoS aq ..)|apply aF (aoU aq)|apply aK)<;>grind
theorem apg {J:ep}:aH (JZ N J) fun r=>True:=by
 rw[JZ];(repeat' with_reducible first|intro _|apply bs|apply aW|apply aK)<;>grind
theorem aph {J:ep}:aH (J0 N J) fun r=>r=au7->0<=J.a:=by
 rw[J0];(repeat' with_reducible first|intro _|apply bn|apply bs|apply aW|apply aK)<;>grind
theorem agD {x0:ep}:aH (LF N x0) fun r=>r=au7->0<=x0.a:=by
 rw[LF];(repeat' with_reducible first|intro _|apply aF (apg aq)|apply aF (aph aq)|apply aW|apply aK)<;>grind
theorem apa {x0:List ep} {ak:Int} (U:x0.length<=1000000) (aa:ak<x0.length) {n:Nat} {an:Int}:(0<=an)->(an<=ak)->(ak - an<n)->aH (CC N x0 ak n an) fun r=>∀a,r= .inr a->a≠0:=by
 induction n generalizing an with
 |zero=>intros;exfalso;grind -mbtc
 |succ n ar=>intros;rw[CC];(repeat' with_reducible first|intro _|apply b8 (ar ..)|apply bU|refine bE (by omega) ?_|apply bn|apply bs|apply aW|apply aK)<;>clear ar<;>grind
theorem ao' {x0:List ep} (U:x0.length<=1000000) {n:Nat} {ak:Int}:(0<=ak)->(ak<=(x0.length:Int))->((x0.length:Int) - ak<n)->aH (CB N x0 n ak) fun r=>(r= .inl ()->∀t∈x0.drop ak.toNat,0<=t.a)/\∀a,r= .inr a->a≠0:=by
 induction n generalizing ak with
 |zero=>intros;exfalso;grind -mbtc
 |succ n ar=>intros;rw[CB];(repeat' with_reducible first|intro _|apply dU (apa aq ..)|apply aF (agD aq)|apply b8 (ar ..)|apply bU|refine bE (by omega) ?_|apply bn|apply bs|apply aW|apply aK)<;>clear ar<;>grind (ematch:=15) (gen:=15) (splits:=15)
theorem ZH {x0:List ep} (U:x0.length<=1000000):aH (Dx N x0) fun r=>r=0->∀t∈x0,0<=t.a:=by
 rw[Dx];(repeat' with_reducible first|intro _|apply dU (ao' aq ..)|apply bs|apply aW|apply aK)<;>grind
theorem alh {x0:List gw} {ak:Int} (U:0<=ak) (aa:ak<x0.length):aH (HC N x0 ak) fun r=>True:=by
 rw[HC];(repeat' with_reducible first|intro _|apply bU|apply bs|apply aW|apply aK)<;>grind
theorem alg {x0:List gw} (U:x0.length<=1000000) {n:Nat} {ak:Int}:(0<=ak)->(ak<=(x0.length:Int))->((x0.length:Int) - ak<n)->aH (AD N x0 n ak) fun r=>True:=by
 induction n generalizing ak with
 |zero=>intros;exfalso;grind -mbtc
 |succ n ar=>intros;rw[AD];(repeat' with_reducible first|intro _|apply aF (alh aq ..)|apply b8 (ar ..)|refine bE (by omega) ?_|apply bn|apply bs|apply aW|apply aK)<;>clear ar<;>grind
theorem Z3 {x0:List gw}:aH (Dd N x0) fun r=>True:=by
 rw[Dd];(repeat' with_reducible first|intro _|apply dU (alg aq ..)|apply bs|apply aW|apply aK)<;>grind
theorem ak' {J:dx}:aH (Hx N J) fun r=>r=au7->0<J.aP.length/\J.aP.length<=24:=by
 rw[Hx];(repeat' with_reducible first|intro _|apply bn|apply bs|apply aW|apply aK)<;>grind
theorem alb {J:dx} {ak:Bool} {an:Int}:aH (Hy N J ak an) fun r=>r=au7->ak=au7/\an<(J.aP.length:Int):=by
 rw[Hy];(repeat' with_reducible first|intro _|apply aW|apply aK)<;>grind
theorem alc {J:dx} {an:Int} (U:nG J) (aa:0<=an) (ap:an<J.aP.length):aH (Hz N J an) fun r=>True:=by
 rw[Hz];(repeat' with_reducible first|intro _|apply aF (G0 aq ..)|apply bU|apply bn|apply bs|apply aW|apply aK)<;>grind
theorem ale {J:dx} {ak:Bool} {an ah:Int} (U:nG J) (aa:0<=ah) (ap:ah<=an) (aN:an<J.aP.length):aH (HA N J ak an ah) fun r=>True:=by
 rw[HA];(repeat' with_reducible first|intro _|apply bU|apply bn|apply aW|apply aK)<;>grind
theorem ald {J:dx} {an:Int} (U:nG J) (aa:an<J.aP.length) {n:Nat} {ak:Bool} {ah:Int}:(0<=ah)->(ah<=an)->(an - ah<n)->aH (AB N J an n ak ah) fun r=>True:=by
 induction n generalizing ak ah with
 |zero=>intros;exfalso;grind -mbtc
 |succ n ar=>intros;rw[AB];(repeat' with_reducible first|intro _|apply aF (ale aq ..)|apply b8 (ar ..)|refine bE (by omega) ?_|apply bn|apply bs|apply aW|apply aK)<;>clear ar<;>grind
theorem ala {J:dx} (U:nG J) {n:Nat} {ak:Bool} {an:Int}:(0<=an)->(an<=(J.aP.length:Int))->((J.aP.length:Int) - an<n)->aH (AA N J n ak an) fun r=>r=au7->ak=au7:=by
 induction n generalizing ak an with
 |zero=>intros;exfalso;grind -mbtc
 |succ n ar=>intros;rw[AA];(repeat' with_reducible first|intro _|apply aF (alb aq)|apply aF (alc aq ..)|apply aF (ald aq ..)|apply b8 (ar ..)|refine bE (by omega) ?_|apply bn|apply aW|apply aK)<;>clear ar<;>grind (ematch:=15) (gen:=15) (splits:=15)
theorem Z2 {x0:dx} (U:nG x0):aH (Dc N x0) fun r=>r=0->0<x0.aP.length/\x0.aP.length<=24:=by
 rw[Dc];(repeat' with_reducible first|intro _|apply aF (Z3 aq)|apply aF (ZH aq ?_)|apply aF (ak' aq)|apply aF (ala aq ..)|apply aW|apply aK)<;>grind (ematch:=15) (gen:=15) (splits:=15)
theorem apP {J:dx} (U:nG J) {n:Nat} {ah:bN} {ax:Int} {vO:(List (List Int))}:(0<=ax)->(ax<=(J.aP.length:Int))->((J.aP.length:Int) - ax<n)->(vO.length=ax)->(∀t∈vO,t=[])->aH (CK N J n ah ax vO) fun r=>r.1=xT ah/\r.2.length=J.aP.length/\∀t∈r.2,t=[]:=by
 induction n generalizing ah ax vO with
 |zero=>intros;exfalso;grind -mbtc
 |succ n ar=>intros;rw[CK];(repeat' with_reducible first|intro _|apply b8 (ar ..)|apply dW|refine bE (by omega) ?_|apply bn|apply bs|apply aW|apply aK)<;>clear ar<;>grind (ematch:=15) (gen:=15) (splits:=15) [xT]
theorem ah6 {x0:dx} (U:nG x0):aH (L1 N x0) fun r=>r.2=0->0<x0.aP.length/\x0.aP.length<=24/\r.1.aP.length=x0.aP.length/\(∀t∈r.1.aP,t=[])/\r.1=bN.mk [] r.1.aP [] ava (gi.mk [] (cV.mk [] 0) (g7.mk (e4.mk 0 []) []) 0 [] 0) ava:=by
 rw[L1];(repeat' with_reducible first|intro _|apply aF (Z2 aq ?_)|apply aF (apP aq ..)|apply aW|apply aK)<;>grind (ematch:=15) (gen:=15) (splits:=15) [xT]
end Go.W
end
section
set_option maxHeartbeats 2000000
namespace Go.W
open Go.av
variable {N:Nat} (aq:5000000000<N)
include aq
structure sq (y:bN):Prop where
 t:y.aP.length<=1000000
 o:y.cH.length<=1000000
 w:y.cv.length<=1000000
attribute [grind->] sq.t sq.o sq.w
theorem alK {J:bN} {ah aB:Int} {ax:Bool} (U:0<=aB) (aa:aB<J.cH.length):aH (IP N J ah ax aB) fun r=>True:=by
 rw[IP];(repeat' with_reducible first|intro _|apply bU|apply bn|apply aW|apply aK)<;>first|grind -mbtc|grind
theorem alJ {J:bN} {ah:Int} (U:sq J) {n:Nat} {ax:Bool} {aB:Int}:(0<=aB)->(aB<=(J.cH.length:Int))->((J.cH.length:Int) - aB<n)->aH (By N J ah n ax aB) fun r=>True:=by
 induction n generalizing ax aB with
 |zero=>intros;exfalso;grind -mbtc
 |succ n ar=>intros;rw[By];(repeat' with_reducible first|intro _|apply aF (alK aq ..)|apply b8 (ar ..)|refine bE (by omega) ?_|apply bn|apply bs|apply aW|apply aK)<;>clear ar<;>first|grind -mbtc|grind
theorem alL {J:bN} {ah:Int} {ax:Bool} (U:0<=ah) (aa:ah<J.aP.length):aH (IQ N J ah ax) fun r=>True:=by
 rw[IQ];(repeat' with_reducible first|intro _|apply bU|apply aW|apply aK)<;>first|grind -mbtc|grind
theorem alI {J:bN} {ak an:List Int} {ah:Int} (U:sq J) (aa:0<=ah) (ap:ah<J.aP.length) (aN:ak.length<=1000000) (bK:an.length<=1000000):aH (IN N J ak an ah) fun r=>r.1.length+r.2.length<=ak.length+an.length+1/\∀a,(a∈r.1\/a∈r.2)->a∈ak\/a∈an\/a=ah:=by
 rw[IN];(repeat' with_reducible first|intro _|apply aF (alJ aq ..)|apply aF (alL aq ..)|apply dW|apply aW|apply aK)<;>first|grind -mbtc|grind
theorem alH {J:bN} (U:sq J) {n:Nat} {ak:(List Int)} {an:(List Int)} {ah:Int}:(0<=ah)->(ah<=(J.aP.length:Int))->((J.aP.length:Int) - ah<n)->(ak.length+an.length<=ah)->aH (Bx N J n ak an ah) fun r=>r.1.length+r.2.length<=J.aP.length:=by
 induction n generalizing ak an ah with
 |zero=>intros;exfalso;grind -mbtc
 |succ n ar=>intros;rw[Bx];(repeat' with_reducible first|intro _|apply aF (alI aq ..)|apply b8 (ar ..)|refine bE (by omega) ?_|apply bn|apply bs|apply aW|apply aK)<;>clear ar<;>first|grind -mbtc|grind
theorem aht {x0:bN} (U:sq x0):aH (K5 N x0) fun r=>r.length<=x0.aP.length:=by
 rw[K5];(repeat' with_reducible first|intro _|apply aF (alH aq ..)|apply dW|apply aK)<;>first|grind -mbtc|grind
theorem amT {x0:cA} {ah:Int} {bc:Bool} (U:bc=au7->0<x0.l.length) (aa:0<=x0.n) (ap:x0.n<=1000000000000):aH (Ij N x0 ah bc) fun r=>True:=by
 rw[Ij];(repeat' with_reducible first|intro _|apply bU|apply Mv|apply D8|apply wg|refine bE (by omega) ?_|apply bn|apply aW|apply aK)<;>first|grind -mbtc|grind
theorem amU {J ah:Int} {tE:Bool}:aH (Ik N J ah tE) fun r=>(ah<J-> -J<ah->(tE=au7↔ah<0)->J<=1000000->0<=r/\r<J):=by
 rw[Ik];(repeat' with_reducible first|intro _|refine bE (by omega) ?_|apply bn|apply aW|apply aK)<;>first|grind -mbtc|grind
theorem iY {x0:cA} {J:Int} (U:0<=x0.n) (aa:x0.n<=1000000000000) (ap:0<J) (aN:J<=1000000):aH (eW N x0 J) fun r=>0<=r.1/\r.1<J/\r.2.n=x0.n+1:=by
 rw[eW];(repeat' with_reducible first|intro _|apply aF (amT aq ..)|apply aF (amU aq)|apply Mv|refine bE (by omega) ?_|apply aK)<;>first|grind -mbtc|grind
theorem al' {J:Int} (U:J<=100) {n:Nat} {x0:cA} {ah:(List UInt8)} {ax:Int}:(0<=ax)->(ax<=J)->(J - ax<n)->(0<=x0.n)->(x0.n+J - ax<=1000000000000)->(ah.length=J)->aH (Bu N J n x0 ah ax) fun r=>r.2.length=J/\x0.n<=r.1.n/\r.1.n<=x0.n+J - ax:=by
 induction n generalizing x0 ah ax with
 |zero=>intros;exfalso;grind -mbtc
 |succ n ar=>intros;rw[Bu];(repeat' with_reducible first|intro _|apply aF (iY aq ..)|apply b8 (ar ..)|apply l5|apply bU|refine bE (by omega) ?_|apply bn|apply bs|apply aW|apply aK)<;>clear ar<;>first|grind -mbtc|grind
theorem ahl {x0:cA} {J:Int} (U:J=11) (aa:0<=x0.n) (ap:x0.n<=900000000000):aH (KX N x0 J) fun r=>r.1.length=11/\x0.n<=r.2.n/\r.2.n<=x0.n+11:=by
 rw[KX];(repeat' with_reducible first|intro _|apply aF (al' aq ..)|apply sv|apply aK)<;>first|grind -mbtc|grind
theorem amW {x0:List UInt8} {ah:Int} (U:0<=ah) (aa:ah<x0.length):aH (Il N x0 ah) fun r=>True:=by
 rw[Il];(repeat' with_reducible first|intro _|apply bU|apply bs|apply aW|apply aK)<;>first|grind -mbtc|grind
theorem amV {x0:List UInt8} {J:Int} (U:J=x0.length) (aa:J<=100) {n:Nat} {ah:Int}:(0<=ah)->(ah<=J)->(J - ah<n)->aH (AY N x0 J n ah) fun r=>True:=by
 induction n generalizing ah with
 |zero=>intros;exfalso;grind -mbtc
 |succ n ar=>intros;rw[AY];(repeat' with_reducible first|intro _|apply aF (amW aq ..)|apply b8 (ar ..)|refine bE (by omega) ?_|apply bn|apply bs|apply aW|apply aK)<;>clear ar<;>first|grind -mbtc|grind
theorem aab {x0:List UInt8} {J:Int} (U:J<=100):aH (Dm N x0 J) fun r=>r=au7->x0.length=J:=by
 rw[Dm];(repeat' with_reducible first|intro _|apply dU (amV aq ..)|apply aW|apply aK)<;>first|grind -mbtc|grind
theorem apG {aB:Int} {kL:Bool}:aH (J5 N aB kL) fun r=>True:=by
 rw[J5];(repeat' with_reducible first|intro _|refine bE (by omega) ?_|apply bn|apply bs|apply aW|apply aK)<;>first|grind -mbtc|grind
theorem apF {x0:List UInt8} {J:Int} (U:J<=x0.length) (aa:J<=100) {n:Nat} {ah:Int} {ax:Int}:(0<=ax)->(ax<=J)->(J - ax<n)->aH (BN N x0 J n ah ax) fun r=>True:=by
 induction n generalizing ah ax with
 |zero=>intros;exfalso;grind -mbtc
 |succ n ar=>intros;rw[BN];(repeat' with_reducible first|intro _|apply aF (apG aq)|apply b8 (ar ..)|apply bU|refine bE (by omega) ?_|apply bn|apply bs|apply aW|apply aK)<;>clear ar<;>first|grind -mbtc|grind
theorem ZP {x0:List UInt8} {J:Int} (U:J=11) (aa:J<=x0.length):aH (DF N x0 J) fun r=>True:=by
 rw[DF];(repeat' with_reducible first|intro _|apply aF (apF aq ..)|apply aK)<;>first|grind -mbtc|grind
theorem ag2 {x0:List UInt8}:aH (Lt N x0) fun r=>True:=by
 rw[Lt];(repeat' with_reducible first|intro _|apply aF (aab aq ?_)|apply aF (ZP aq ..)|refine bE (by omega) ?_|apply bn|apply aW|apply aK)<;>first|grind -mbtc|grind
theorem ahm {x0:cA} {J:Int} (U:0<=x0.n) (aa:x0.n<=900000000000):aH (KY N x0 J) fun r=>r.1.length=12/\x0.n<=r.2.n/\r.2.n<=x0.n+11:=by
 rw[KY];(repeat' with_reducible first|intro _|apply aF (ahl aq ..)|apply aF (ag2 aq)|apply l5|apply dW|apply bU|refine bE (by omega) ?_|apply bn|apply aK)<;>grind (ematch:=25) (gen:=25) (splits:=25)
theorem tq {x0:cA} {J:List Int} (U:0<=x0.n) (aa:x0.n<=1000000000000) (ap:0<J.length) (aN:J.length<=1000):aH (h5 N x0 J) fun r=>r.1∈J/\r.2.n=x0.n+1:=by
 rw[h5];(repeat' with_reducible first|intro _|apply aF (iY aq ..)|apply bU|apply aK)<;>first|grind -mbtc|grind
theorem agQ {x0:cA} (U:0<=x0.n) (aa:x0.n<=1000000000000):aH (Li N x0) fun r=>r.1.length<=12/\r.2.n=x0.n+1:=by
 rw[Li];(repeat' with_reducible first|intro _|apply aF (iY aq ..)|apply bU|apply aK)<;>grind -mbtc (gen:=25) (ematch:=25)
theorem alN {iC:Int} {Kp:Bool}:aH (IT N iC Kp) fun r=>True:=by
 rw[IT];(repeat' with_reducible first|intro _|apply bn|apply aW|apply aK)<;>first|grind -mbtc|grind
theorem alM {ah:cb} {iC:Int}:aH (IS N ah iC) fun r=>True:=by
 rw[IS];(repeat' with_reducible first|intro _|apply aF (alN aq)|apply bn|apply aW|apply aK)<;>first|grind -mbtc|grind
theorem ahv {x0:cA} {J:Int} (U:0<=x0.n) (aa:x0.n<=900000000000):aH (K7 N x0 J) fun r=>x0.n<=r.2.n/\r.2.n<=x0.n+30:=by
 rw[K7];(repeat' with_reducible first|intro _|apply aF (agQ aq ..)|apply aF (iY aq ..)|apply aF (ahm aq ..)|apply aF (tq aq ..)|apply aF (alM aq)|apply bU|refine bE (by omega) ?_|apply aK)<;>grind (ematch:=25) (gen:=25) (splits:=25)
theorem ag3 {x0:List UInt8}:aH (Lu N x0) fun r=>r=0->x0.length=12:=by
 rw[Lu];(repeat' with_reducible first|intro _|apply aF (aab aq ?_)|apply aF (ZP aq ..)|apply bU|refine bE (by omega) ?_|apply aW|apply aK)<;>first|grind -mbtc|grind
theorem aoQ {bc:Int} {a9:Bool}:aH (Jl N bc a9) fun r=>True:=by
 rw[Jl];(repeat' with_reducible first|intro _|apply bn|apply aW|apply aK)<;>first|grind -mbtc|grind
theorem aoR {bc:Int} {cI:Bool}:aH (Jm N bc cI) fun r=>True:=by
 rw[Jm];(repeat' with_reducible first|intro _|apply bn|apply aW|apply aK)<;>first|grind -mbtc|grind
theorem agK {x0:List UInt8}:aH (LM N x0) fun r=>r.2=0->x0.length=12:=by
 rw[LM];(repeat' with_reducible first|intro _|apply aF (aoQ aq)|apply aF (aoR aq)|apply aF (ag3 aq)|apply bU|apply bn|apply aW|apply aK)<;>first|grind -mbtc|grind
theorem aos {ah ax dt:Int}:aH (H7 N ah ax dt) fun r=>True:=by
 rw[H7];(repeat' with_reducible first|intro _|apply bn|apply aW|apply aK)<;>first|grind -mbtc|grind
theorem aot {J:cb} {ax:Int}:aH (H8 N J ax) fun r=>True:=by
 rw[H8];(repeat' with_reducible first|intro _|apply bn|apply bs|apply aW|apply aK)<;>first|grind -mbtc|grind
theorem ag5 {x0:cb} (U:x0.dest.length<=1000000):aH (Lw N x0) fun r=>r=0->x0.number.length=12:=by
 rw[Lw];(repeat' with_reducible first|intro _|apply aF (agK aq)|apply aF (G0 aq ..)|apply aF (aos aq)|apply aF (aot aq)|apply bn|apply aW|apply aK)<;>first|grind -mbtc|grind
end Go.W
end
section
set_option maxHeartbeats 2000000
namespace Go.W
open Go.av
def Uh (b:List UInt8):Nat->Nat->Prop
 |0,_=>True
 |k+1,p=>match b[p+14]? with
  |none=>False
  |some d=>p+15+d.toNat<=b.length/\Uh b k (p+15+d.toNat)
@[grind .] theorem atf (b:List UInt8) (p:Nat):Uh b 0 p:=trivial
@[grind .] theorem auT (x:UInt8):(x.toNat:Int)<256:=by have:=x.toNat_lt;omega
@[grind=] theorem auR {a b:Int} (h:0<=a):a.tmod b=a%b:=Int.tmod_eq_emod_of_nonneg h
variable {N:Nat} (aq:5000000000<N)
include aq
theorem akV {x0:List cb} {ak:Int} (U:x0.length<=1000000) (aa:ak<x0.length) {n:Nat} {ah:Int}:(0<=ah)->(ah<=ak)->(ak - ah<n)->aH (Al N x0 ak n ah) fun r=>∀a,r= .inr a->a≠0:=by
 induction n generalizing ah with
 |zero=>intros;exfalso;grind -mbtc
 |succ n ar=>intros;rw[Al];(repeat' with_reducible first|intro _|apply b8 (ar ..)|apply bU|refine bE (by omega) ?_|apply bn|apply bs|apply aW|apply aK)<;>clear ar<;>grind -mbtc
theorem akU {x0:List cb} (U:x0.length<=1000000) (aa:∀w∈x0,w.dest.length<=1000000) {n:Nat} {ak:Int}:(0<=ak)->(ak<=(x0.length:Int))->((x0.length:Int) - ak<n)->aH (Ak N x0 n ak) fun r=>(r= .inl ()->∀w∈x0.drop ak.toNat,w.number.length=12)/\∀a,r= .inr a->a≠0:=by
 induction n generalizing ak with
 |zero=>intros;exfalso;grind -mbtc
 |succ n ar=>intros;rw[Ak];(repeat' with_reducible first|intro _|apply aF (ag5 aq ?_)|apply dU (akV aq ..)|apply b8 (ar ..)|apply bU|refine bE (by omega) ?_|apply bn|apply bs|apply aW|apply aK)<;>clear ar<;>grind -mbtc
theorem G6 {x0:List cb} (U:x0.length<=1000000) (aa:∀w∈x0,w.dest.length<=1000000):aH (vT N x0) fun r=>r=0->x0.length<=96/\∀w∈x0,w.number.length=12:=by
 rw[vT];(repeat' with_reducible first|intro _|apply dU (akU aq ..)|apply bs|apply aW|apply aK)<;>grind -mbtc
theorem aoq {x0:List UInt8} (U:x0.length<=1000000) {n:Nat} {ak:Int} {an:Int}:(0<=an)->(an<=(x0.length:Int))->((x0.length:Int) - an<n)->aH (Bi N x0 n ak an) fun r=>True:=by
 induction n generalizing ak an with
 |zero=>intros;exfalso;grind -mbtc
 |succ n ar=>intros;rw[Bi];(repeat' with_reducible first|intro _|apply b8 (ar ..)|apply bU|refine bE (by omega) ?_|apply bn|apply bs|apply aW|apply aK)<;>clear ar<;>grind -mbtc
theorem aai {x0:List UInt8} (U:x0.length<=1000000):aH (Ds N x0) fun r=>True:=by
 rw[Ds];(repeat' with_reducible first|intro _|apply aF (aoq aq ..)|apply aK)<;>grind -mbtc
theorem am2 {aB:cb} (U:aB.number.length=12) {n:Nat} {ah:(List UInt8)} {aG:Int}:(0<=aG)->(aG<=12)->((12:Int) - aG<n)->(aG%2=0)->(ah.length+12 - aG<=100000000)->aH (A2 N aB n ah aG) fun r=>r.length+aG<=ah.length+12:=by
 induction n generalizing ah aG with
 |zero=>intros;exfalso;grind -mbtc
 |succ n ar=>intros;rw[A2];(repeat' with_reducible first|intro _|apply b8 (ar ..)|apply l5|apply dW|apply bU|refine bE (by omega) ?_|apply bn|apply bs|apply aW|apply aK)<;>clear ar<;>grind -mbtc
theorem am3 {a3:Int} {Ri:Bool} (U:0<=a3) (aa:a3<256):aH (Ip N a3 Ri) fun r=>0<=r/\r<256:=by
 rw[Ip];(repeat' with_reducible first|intro _|apply bn|apply aW|apply aK)<;>grind -mbtc
theorem am1 {x0:List cb} (U:x0.length<=1000000) (aa:∀w∈x0,w.dest.length<=255) (ap:∀w∈x0,w.number.length=12) (aN:x0.length<=96) {n:Nat} {ah:(List UInt8)} {ax:Int}:(0<=ax)->(ax<=(x0.length:Int))->((x0.length:Int) - ax<n)->(ah.length<=1000*ax+1)->aH (A1 N x0 n ah ax) fun r=>r.length<=100000:=by
 induction n generalizing ah ax with
 |zero=>intros;exfalso;grind -mbtc
 |succ n ar=>intros;rw[A1];(repeat' with_reducible first|intro _|apply aF (am2 aq ..)|apply aF (am3 aq ..)|apply b8 (ar ..)|apply l5|apply dW|apply bU|apply wg|refine bE (by omega) ?_|apply bn|apply bs|apply aW|apply aK)<;>clear ar<;>first|grind -mbtc|grind -mbtc (gen:=20) (ematch:=20)
theorem agS {x0:List cb} (U:x0.length<=1000000) (aa:∀w∈x0,w.dest.length<=255):aH (Lk N x0) fun r=>r.1.length<=200000:=by
 rw[Lk];(repeat' with_reducible first|intro _|apply aF (aai aq ?_)|apply aF (am1 aq ..)|apply aF (G6 aq ..)|apply l5|apply dW|refine bE (by omega) ?_|apply aW|apply aK)<;>grind -mbtc
theorem Z8 {x0:cA} {J:List UInt8} (U:0<=x0.n) (aa:x0.n<=900000000000) (ap:J.length<=1000000):aH (Dj N x0 J) fun r=>r.1.length<=J.length+1/\x0.n<=r.2.n/\r.2.n<=x0.n+3:=by
 rw[Dj];(repeat' with_reducible first|intro _|apply aF (iY aq ..)|apply l5|apply dW|apply p6|refine bE (by omega) ?_|apply bn|apply Fa|apply aW|apply aK)<;>grind -mbtc
theorem Zm {x0:cA} {J:List UInt8} (U:0<=x0.n) (aa:x0.n<=900000000000) (ap:J.length<=1000000):aH (Da N x0 J) fun r=>r.1.length<=J.length+1/\x0.n<=r.2.n/\r.2.n<=x0.n+3:=by
 rw[Da];(repeat' with_reducible first|intro _|apply aF (Z8 aq ..)|apply dW|apply aK)<;>grind -mbtc
end Go.W
end
