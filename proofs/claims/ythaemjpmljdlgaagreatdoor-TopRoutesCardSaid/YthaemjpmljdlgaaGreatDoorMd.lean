import Derived.Maps.RangeRun
import Derived.Shelf.SlSortCmp.NoneTotal
import Derived.Shelf.SlicesG.Cmp
import Derived.Lib.Split
import Derived.Lib.SplitLaws
import Derived.Lib.ItoaNum
import Derived.Test.YthaemjpmljdlgaaGreatDoorProg
import Derived.WalkKit
import Derived.Recover
import Derived.Test.YthaemjpmljdlgaaGreatDoorMc
set_option linter.unusedSimpArgs false
set_option linter.unusedVariables false
set_option linter.unusedSectionVars false
open Array renaming getElem?_eq_none->aus,getElem?_eq_some_iff->ar6,getElem?_modify->auK,length_toList->atV,replicate->asr
open Bool renaming and_eq_true->arq,and_eq_true_iff->att,and_self->as3,eq_false_iff->atJ,not_eq_true'->aso,or_eq_true->asi,false->arj,true->arf
open Go renaming IntKind->aro,Operand->arm,Program->arl,TypeId->arn,Value->arh
open Go.Act renaming put->as2
open Go.IntKind renaming wrap->art
open Go.Lib renaming compareInt->auw,decDigits->asA,index->aue,split->asp
open Go.MapKept renaming IsKey->atW,heap_alloc->auO
open Go.Program renaming cellsOf->asm
open Go.Region renaming wanted->asT
open Go.Shelf renaming Ren->auy
open Go.Value renaming int->asM
open List renaming all_cons->asb,all_eq_true->arz,append_assoc->as7,append_nil->asI,contains_iff_mem->auv,flatMap_cons->asl,getD_eq_getElem?_getD->atZ,getElem?_eq_getElem->arX,length_append->arJ,length_cons->arU,length_map->ar9,length_singleton->auP,map_append->as9,map_cons->asc,mem_append->arO,mem_cons->arA,mem_cons_of_mem->arK,mem_cons_self->arS,mem_flatMap->as0,mem_map->arC,mem_singleton->ase,nodup_cons->atk,not_mem_nil->asU,replicate->arL
open Nat renaming add_mul->arW,add_zero->ar3,beq->aru,beq_eq->atI,ble->arF,ble_eq->atr,blt->ar5,eq_of_beq_eq_true->arB,le_of_ble_eq_true->arG,le_refl->ars,le_succ->ar7,le_trans->arR,lt_irrefl->atC,lt_or_ge->ar',lt_succ_of_lt->atT,lt_succ_self->ash,mul_le_mul_right->asC,zero_add->arE,zero_le->ass
open Option renaming bind->ark,isSome->auo,map_some->asQ,some->arw,none->ari,some->are
open Sum renaming inl->ary,inr->arx
open UInt8 renaming ofNat->asR,toNat->asP
section
namespace Go.aQ
inductive LT:Type 1 where
 |int (k:aro)|bool|str
 |aE (al:Type) (T:cb al)
 |mp (al bs:Type) (M:nS al bs)
 |fn
def LT.ty:LT->Type
 | .int _=>Int
 | .bool=>Bool
 | .str=>List UInt8
 | .aE al _=>List al
 | .mp al bs _=>List (al×bs)
 | .fn=>Option Nat
def TW:Option Nat->arh
 |none=> .nilFunc
 |some n=> .func (.func n) #[] #[]
def LT.rd (z:Nat->aV):(l:LT)->l.ty->arh->Prop
 | .int k,n,v=>v= .int k n
 | .bool,b,v=>v= .bool b
 | .str,s,v=>v=aQ.str s
 | .aE _ T,xs,v=>dW T z xs v
 | .mp _ _ M,es,v=>kN M z es v
 | .fn,o,v=>v=TW o
def gJ:List LT->Type
 |[]=>Unit
 |l::ls=>l.ty×gJ ls
def oB (z:Nat->aV):(ls:List LT)->gJ ls->List arh->Prop
 |[],_,[]=>True
 |l::ls,x,v::vs=>l.rd z x.1 v/\oB z ls x.2 vs
 |_,_,_=>False
theorem YO {z:Nat->aV}:∀{ls:List LT} {x:gJ ls} {cs:List arh},oB z ls x cs->cs.length=ls.length
 |[],_,[],_=>rfl
 |l::ls,x,v::vs,h=>by simp[YO h.2]
 |[],_,_::_,h=>h.elim
 |_::_,_,[],h=>h.elim
theorem XH {z z':Nat->aV} (aD:eb z z'):∀{ls:List LT} {x:gJ ls} {cs:List arh},oB z ls x cs->oB z' ls x cs
 |[],_,[],_=>trivial
 |l::ls,x,v::vs,h=>⟨by
  have h1:=h.1;cases l with
  |aE al T=>exact dW.mono aD h1
  |mp al bs M=>exact kN.mono h1 aD
  |_=>exact h1,XH aD h.2⟩
 |[],_,_::_,h=>h.elim
 |_::_,_,[],h=>h.elim
theorem YP {z:Nat->aV}:∀{ls:List LT} {x:gJ ls} {cs:List arh},oB z ls x cs->∀c∈cs,storable c=arf/\c.cells=#[c]
 |[],_,[],_,c,ad=>by simp at ad
 |l::ls,x,v::vs,h,c,ad=>by
  rcases arA.1 ad with rfl|ad
  ·have h1:=h.1;cases l with
   |aE al T=>obtain ⟨a,c,rfl⟩:=dW.len h1;exact ⟨rfl,rfl⟩
   |mp al bs M=>rcases h1 with ⟨rfl,_⟩|⟨r,rfl,_⟩<;>exact ⟨rfl,rfl⟩
   |fn=>obtain ⟨x,y⟩:=x;cases x<;>(obtain rfl:=h1;exact ⟨rfl,rfl⟩)
   |_=>obtain rfl:=h1;exact ⟨rfl,rfl⟩
  ·exact YP h.2 c ad
 |[],_,_::_,h,_,_=>h.elim
 |_::_,_,[],h,_,_=>h.elim
def h7 (t:arn) (ls:List LT) {al:Type} (to:al->gJ ls):cb al where
 aW:=ls.length
 tid:=t
 rd:=fun z x cs=>oB z ls (to x) cs
 len:=fun _ _ _ h=>YO h
 mono:=fun _ _ aD _ _ h=>XH aD h
 one:=fun _ _ _ h=>YP h
noncomputable section
inductive hG where
 |int (k:aro)|bool|str
 |aE (e:Nat)
 |mp (t kt vt:Nat)
 |fn
section
variable {P:arl} {D:Nat->Type} (G:lT D)
def ET:Option Nat->bC D
 |none=> .wk
 |some n=> .fn n []
def hG.lt:hG->LT
 | .int k=> .int k
 | .bool=> .bool
 | .str=> .str
 | .aE e=> .aE (D e) (G.T e)
 | .mp t kt vt=> .mp (D kt) (D vt) (G.M t kt vt)
 | .fn=> .fn
def fi:List hG->List LT
 |[]=>[]
 |c::cs=>c.lt G::fi cs
def ie:(ls:List hG)->gJ (fi G ls)->List (bC D)
 |[],_=>[]
 | .int k::ls,x=> .int k x.1::ie ls x.2
 | .bool::ls,x=> .bool x.1::ie ls x.2
 | .str::ls,x=> .str x.1::ie ls x.2
 | .aE e::ls,x=> .aE e x.1::ie ls x.2
 | .mp t kt vt::ls,x=> .mp t kt vt x.1::ie ls x.2
 | .fn::ls,x=>ET x.1::ie ls x.2
def hD:(ls:List hG)->List (bC D)->Option (gJ (fi G ls))
 |[],[]=>are ()
 | .int k::ls, .int bW n::cs=>if bW=k then (match hD ls cs with|some y=>are (n,y)|none=>ari) else ari
 | .bool::ls, .bool b::cs=>(match hD ls cs with|some y=>are (b,y)|none=>ari)
 | .str::ls, .str s::cs=>(match hD ls cs with|some y=>are (s,y)|none=>ari)
 | .aE e::ls, .aE bp xs::cs=>if h:bp=e then (match hD ls cs with|some y=>are ((h▸xs:List (D e)),y)|none=>ari) else ari
 | .aE e::ls, .fH::cs=>(match hD ls cs with|some y=>are (([]:List (D e)),y)|none=>ari)
 | .mp t kt vt::ls, .mp cS gr gx es::cs=>if h:gr=kt/\gx=vt then (if cS=t then (match hD ls cs with|some y=>are ((h.1▸h.2▸es:List (D kt×D vt)),y)|none=>ari) else ari) else ari
 | .mp t kt vt::ls, .nA::cs=>(match hD ls cs with|some y=>are (([]:List (D kt×D vt)),y)|none=>ari)
 | .fn::ls, .wk::cs=>(match hD ls cs with|some y=>are ((ari:Option Nat),y)|none=>ari)
 | .fn::ls, .fn n []::cs=>(match hD ls cs with|some y=>are ((are n:Option Nat),y)|none=>ari)
 |_,_=>ari
variable {G}
theorem akz {z:Nat->aV} {vs:List arh} {o:Option Nat} {v:arh} (h:v=TW o):db G z vs (ET o) v:=by
 cases o with
 |none=>exact h
 |some n=>exact ⟨[],h,trivial⟩
theorem w2 {z:Nat->aV} {vs:List arh}:∀{ls:List hG} {x:gJ (fi G ls)} {cs:List arh},oB z (fi G ls) x cs->a1 (db G z vs) (ie G ls x) cs
 |[],_,[],_=>trivial
 | .int k::ls,x,v::w,h=>⟨h.1,w2 h.2⟩
 | .bool::ls,x,v::w,h=>⟨h.1,w2 h.2⟩
 | .str::ls,x,v::w,h=>⟨h.1,w2 h.2⟩
 | .aE e::ls,x,v::w,h=>⟨h.1,w2 h.2⟩
 | .mp t kt vt::ls,x,v::w,h=>⟨h.1,w2 h.2⟩
 | .fn::ls,x,v::w,h=>⟨akz h.1,w2 h.2⟩
 | .mp _ _ _::_,_,[],h=>h.elim
 | .fn::_,_,[],h=>h.elim
 |[],_,_::_,h=>h.elim
 | .int _::_,_,[],h=>h.elim
 | .bool::_,_,[],h=>h.elim
 | .str::_,_,[],h=>h.elim
 | .aE _::_,_,[],h=>h.elim
theorem uH:∀{ls:List hG} (x:gJ (fi G ls)),hD G ls (ie G ls x)=are x
 |[],_=>rfl
 | .int k::ls,x=>by show (if k=k then (match hD G ls (ie G ls x.2) with|some y=>are (x.1,y)|none=>ari) else ari)=_;rw[uH x.2,if_pos rfl];rfl
 | .bool::ls,x=>by show (match hD G ls (ie G ls x.2) with|some y=>are (x.1,y)|none=>ari)=_;rw[uH x.2];rfl
 | .str::ls,x=>by show (match hD G ls (ie G ls x.2) with|some y=>are (x.1,y)|none=>ari)=_;rw[uH x.2];rfl
 | .aE e::ls,x=>by show (if h:e=e then (match hD G ls (ie G ls x.2) with|some y=>are ((h▸x.1:List (D e)),y)|none=>ari) else ari)=_;rw[uH x.2,dif_pos rfl];rfl
 | .mp t kt vt::ls,x=>by show (if h:kt=kt/\vt=vt then (if t=t then (match hD G ls (ie G ls x.2) with|some y=>are ((h.1▸h.2▸x.1:List (D kt×D vt)),y)|none=>ari) else ari) else ari)=_;rw[uH x.2,dif_pos ⟨rfl,rfl⟩,if_pos rfl];rfl
 | .fn::ls,(ari,y)=>by show (match hD G ls (ie G ls y) with|some y=>are ((ari:Option Nat),y)|none=>ari)=_;rw[uH y];rfl
 | .fn::ls,(are n,y)=>by show (match hD G ls (ie G ls y) with|some y=>are ((are n:Option Nat),y)|none=>ari)=_;rw[uH y];rfl
theorem alG {z:Nat->aV} {vs:List arh}:∀{ls:List hG} {cs:List (bC D)} {x:gJ (fi G ls)} {ds:List arh},hD G ls cs=are x->a1 (db G z vs) cs ds->oB z (fi G ls) x ds:=by
 intro ls;induction ls with
 |nil=>
  intro cs x ds h ao;cases cs with
  |nil=>cases ds with
   |nil=>trivial
   |cons _ _=>exact ao.elim
  |cons c cs=>cases h
 |cons l ls aU=>
  intro cs x ds h ao;cases cs with
  |nil=>cases l<;>cases h
  |cons c cs=>
   cases ds with
   |nil=>exact ao.elim
   |cons d ds=>
    obtain ⟨h1,J⟩:=ao;have fin:∀{al:Type} {f:gJ (fi G ls)->al} {o:Option (gJ (fi G ls))} {r:al},(match o with|some y=>are (f y)|none=>ari)=are r->∃y,o=are y/\r=f y:=by
     intro al f o r h;cases o with
     |none=>cases h
     |some y=>cases h;exact ⟨y,rfl,rfl⟩
    cases l with
    |int k=>
     cases c with
     |int bW n=>obtain ⟨hk,h⟩:=eA (al:=gJ (fi G (.int k::ls))) h;subst hk;obtain ⟨y,ah,rfl⟩:=fin h;exact ⟨h1,aU ah J⟩
     |_=>cases h
    |bool=>
     cases c with
     |bool n=>obtain ⟨y,ah,rfl⟩:=fin h;exact ⟨h1,aU ah J⟩
     |_=>cases h
    |str=>
     cases c with
     |str n=>obtain ⟨y,ah,rfl⟩:=fin h;exact ⟨h1,aU ah J⟩
     |_=>cases h
    |aE t=>
     cases c with
     |aE bp xs=>
      by_cases hk:bp=t
      ·subst hk;have h:(if h:bp=bp then (match hD G ls cs with|some y=>are ((h▸xs:List (D bp)),y)|none=>ari) else ari)=are x:=h;rw[dif_pos rfl] at h;obtain ⟨y,ah,rfl⟩:=fin h;exact ⟨h1,aU ah J⟩
      ·have h:(if h:bp=t then (match hD G ls cs with|some y=>are ((h▸xs:List (D t)),y)|none=>ari) else ari)=are x:=h;rw[dif_neg hk] at h;cases h
     |fH=>obtain ⟨y,ah,rfl⟩:=fin h;exact ⟨.inl ⟨h1,rfl⟩,aU ah J⟩
     |_=>cases h
    |mp t kt vt=>
     cases c with
     |mp cS gr gx es=>
      by_cases hk:gr=kt/\gx=vt
      ·obtain ⟨rfl,rfl⟩:=hk;have h:(if h:gr=gr/\gx=gx then (if cS=t then (match hD G ls cs with|some y=>are ((h.1▸h.2▸es:List (D gr×D gx)),y)|none=>ari) else ari) else ari)=are x:=h;rw[dif_pos ⟨rfl,rfl⟩] at h;obtain ⟨hk,h⟩:=eA h;subst hk;obtain ⟨y,ah,rfl⟩:=fin h;exact ⟨h1,aU ah J⟩
      ·have h:(if h:gr=kt/\gx=vt then (if cS=t then (match hD G ls cs with|some y=>are ((h.1▸h.2▸es:List (D kt×D vt)),y)|none=>ari) else ari) else ari)=are x:=h;rw[dif_neg hk] at h;cases h
     |nA=>obtain ⟨y,ah,rfl⟩:=fin h;exact ⟨.inl ⟨h1,rfl⟩,aU ah J⟩
     |_=>cases h
    |fn=>
     cases c with
     |wk=>obtain ⟨y,ah,rfl⟩:=fin h;exact ⟨h1,aU ah J⟩
     |fn n is=>
      cases is with
      |nil=>
       obtain ⟨y,ah,rfl⟩:=fin h;obtain ⟨gs,g1,g2⟩:=h1;cases gs with
       |nil=>exact ⟨g1,aU ah J⟩
       |cons _ _=>exact g2.elim
      |cons _ _=>cases h
     |_=>cases h
theorem an8:∀{ls:List hG} {cs:List (bC D)} {x:gJ (fi G ls)},hD G ls cs=are x->oO cs (ie G ls x):=by
 intro ls;induction ls with
 |nil=>
  intro cs x h;cases cs with
  |nil=>trivial
  |cons c cs=>cases h
 |cons l ls aU=>
  intro cs x h;cases cs with
  |nil=>cases l<;>cases h
  |cons c cs=>
   have fin:∀{al:Type} {f:gJ (fi G ls)->al} {o:Option (gJ (fi G ls))} {r:al},(match o with|some y=>are (f y)|none=>ari)=are r->∃y,o=are y/\r=f y:=by
    intro al f o r h;cases o with
    |none=>cases h
    |some y=>cases h;exact ⟨y,rfl,rfl⟩
   cases l with
   |int k=>
    cases c with
    |int bW n=>obtain ⟨hk,h⟩:=eA (al:=gJ (fi G (.int k::ls))) h;subst hk;obtain ⟨y,ah,rfl⟩:=fin h;exact ⟨fun _=>rfl,aU ah⟩
    |_=>cases h
   |bool=>
    cases c with
    |bool n=>obtain ⟨y,ah,rfl⟩:=fin h;exact ⟨fun _=>rfl,aU ah⟩
    |_=>cases h
   |str=>
    cases c with
    |str n=>obtain ⟨y,ah,rfl⟩:=fin h;exact ⟨fun _=>rfl,aU ah⟩
    |_=>cases h
   |aE t=>
    cases c with
    |aE bp xs=>
     by_cases hk:bp=t
     ·subst hk;have h:(if h:bp=bp then (match hD G ls cs with|some y=>are ((h▸xs:List (D bp)),y)|none=>ari) else ari)=are x:=h;rw[dif_pos rfl] at h;obtain ⟨y,ah,rfl⟩:=fin h;exact ⟨fun _=>rfl,aU ah⟩
     ·have h:(if h:bp=t then (match hD G ls cs with|some y=>are ((h▸xs:List (D t)),y)|none=>ari) else ari)=are x:=h;rw[dif_neg hk] at h;cases h
    |fH=>obtain ⟨y,ah,rfl⟩:=fin h;exact ⟨fun h=>(by cases h),aU ah⟩
    |_=>cases h
   |mp t kt vt=>
    cases c with
    |mp cS gr gx es=>
     by_cases hk:gr=kt/\gx=vt
     ·obtain ⟨rfl,rfl⟩:=hk;have h:(if h:gr=gr/\gx=gx then (if cS=t then (match hD G ls cs with|some y=>are ((h.1▸h.2▸es:List (D gr×D gx)),y)|none=>ari) else ari) else ari)=are x:=h;rw[dif_pos ⟨rfl,rfl⟩] at h;obtain ⟨hk,h⟩:=eA h;subst hk;obtain ⟨y,ah,rfl⟩:=fin h;exact ⟨fun _=>rfl,aU ah⟩
     ·have h:(if h:gr=kt/\gx=vt then (if cS=t then (match hD G ls cs with|some y=>are ((h.1▸h.2▸es:List (D kt×D vt)),y)|none=>ari) else ari) else ari)=are x:=h;rw[dif_neg hk] at h;cases h
    |nA=>obtain ⟨y,ah,rfl⟩:=fin h;exact ⟨fun h=>(by cases h),aU ah⟩
    |_=>cases h
   |fn=>
    cases c with
    |wk=>obtain ⟨y,ah,rfl⟩:=fin h;exact ⟨fun _=>rfl,aU ah⟩
    |fn n is=>
     cases is with
     |nil=>obtain ⟨y,ah,rfl⟩:=fin h;exact ⟨fun _=>rfl,aU ah⟩
     |cons _ _=>cases h
    |_=>cases h
theorem QJ:∀{ls:List hG},(fi G ls).length=ls.length
 |[]=>rfl
 |l::ls=>by simp[fi,QJ]
def jP:List hG->List (bC D)
 |[]=>[]
 | .int k::ls=> .int k 0::jP ls
 | .bool::ls=> .bool arj::jP ls
 | .str::ls=> .str []::jP ls
 | .aE _::ls=> .fH::jP ls
 | .mp _ _ _::ls=> .nA::jP ls
 | .fn::ls=> .wk::jP ls
def vd:List hG->List arh
 |[]=>[]
 | .int k::ls=> .int k 0::vd ls
 | .bool::ls=> .bool arj::vd ls
 | .str::ls=> .string ⟨#[]⟩::vd ls
 | .aE _::ls=> .slice ari 0 0::vd ls
 | .mp _ _ _::ls=> .map ari::vd ls
 | .fn::ls=> .nilFunc::vd ls
theorem w0 {z:Nat->aV} {vs:List arh}:∀{ls:List hG},a1 (db G z vs) (jP ls:List (bC D)) (vd ls)
 |[]=>trivial
 | .int k::ls=>⟨rfl,w0⟩
 | .bool::ls=>⟨rfl,w0⟩
 | .str::ls=>⟨rfl,w0⟩
 | .aE _::ls=>⟨rfl,w0⟩
 | .mp _ _ _::ls=>⟨rfl,w0⟩
 | .fn::ls=>⟨rfl,w0⟩
theorem uB:∀{ls:List hG} {x:gJ (fi G ls)},(ie G ls x).all o8=arf
 |[],_=>rfl
 | .int k::ls,x=>by simp only[ie,asb,uB,o8,as3]
 | .bool::ls,x=>by simp only[ie,asb,uB,o8,as3]
 | .str::ls,x=>by simp only[ie,asb,uB,o8,as3]
 | .aE _::ls,x=>by simp only[ie,asb,uB,o8,as3]
 | .mp _ _ _::ls,x=>by simp only[ie,asb,uB,o8,as3]
 | .fn::ls,(ari,y)=>by simp only[ie,ET,asb,uB,o8,as3]
 | .fn::ls,(are n,y)=>by simp only[ie,ET,asb,uB,o8,List.isEmpty,as3]
def jN {t:Nat} (ls:List hG) (to:D t->gJ (fi G ls)) (of:gJ (fi G ls)->D t) (h1:∀x,of (to x)=x) (J:∀y,to (of y)=y) (x0:D t) (i:TypeInfo) (b1:arh)
  (ho:G.T t=h7 t (fi G ls) to) (af:P.info? t=are i) (bu:i.size=ls.length) (dt:(ls.length==0)=arj) (fW:arF i.bytes 32768=arf) (aD:i.zero=are b1) (b3:b1.cells.toList.all b7=arf) (cZ:b1.cells.size=i.size)
  (xv:∀z,oB z (fi G ls) (to x0) b1.cells.toList) (gA:b1.cells.toList=vd ls):gd P G t where
 qj:=jP ls
 pT:=fun z vs=>by rw[gA];exact w0
 M4:=fun x=>uB
 lC:=fun x=>ie G ls (to x)
 pc:=fun cs=>match hD G ls cs with|some y=>are (of y)|none=>ari
 x0:=x0
 i:=i
 b1:=b1
 tid:=by rw[ho];rfl
 af:=af
 bu:=by rw[ho,bu];exact QJ.symm
 dt:=by rw[ho];show ((fi G ls).length==0)=arj;rw[QJ];exact dt
 fW:=fW
 aD:=aD
 b3:=b3
 cZ:=cZ
 xv:=fun z=>by rw[ho];exact xv z
 rc:=fun z vs x cs h=>by rw[ho] at h;exact w2 h
 q0:=fun z vs cs x ds h ao=>by
  rw[ho];split at h
  ·rename_i y ah;cases h;show oB z (fi G ls) (to (of y)) ds;rw[J];exact alG ah ao
  ·cases h
 Nl:=fun x=>by show (match hD G ls (ie G ls (to x)) with|some y=>are (of y)|none=>ari)=are x;rw[uH];exact congrArg are (h1 x)
 F8:=fun cs x h=>by
  split at h
  ·rename_i y ah;cases h;rw[J];exact an8 ah
  ·cases h
theorem aho (u:UInt8):oF (u.toNat:Int)=are u:=by
 unfold oF;have:=u.toNat_lt;rw[if_pos (by omega)];simp
def aoB {t:Nat} (to:D t->UInt8) (of:UInt8->D t) (VB:Option UInt8->Option (D t)) (Mr:∀o,VB o=o.map of) (h1:∀x,of (to x)=x) (J:∀y,to (of y)=y) (i:TypeInfo) (aeU:(G.T t).tid=t) (qO:(G.T t).aW=1) (dm:∀z x cs,(G.T t).rd z x cs↔cs=[.int .u8 (to x).toNat])
  (af:P.info? t=are i) (bu:i.size=1) (fW:arF i.bytes 32768=arf) (aD:i.zero=are (.int .u8 0)):gd P G t where
 qj:=[.int .u8 0]
 pT:=fun z vs=>⟨rfl,trivial⟩
 M4:=fun x=>rfl
 lC:=fun x=>[.int .u8 (to x).toNat]
 pc:=fun cs=>match cs with|[.int .u8 n]=>VB (oF n)|_=>ari
 x0:=of 0
 i:=i
 b1:= .int .u8 0
 tid:=aeU
 af:=af
 bu:=by rw[qO,bu]
 dt:=by rw[qO];rfl
 fW:=fW
 aD:=aD
 b3:=rfl
 cZ:=by rw[bu];rfl
 xv:=fun z=>(dm z _ _).2 (by rw[J];rfl)
 rc:=fun z vs x cs h=>by rw[(dm z x cs).1 h];exact ⟨rfl,trivial⟩
 q0:=fun z vs cs x ds h ao=>by
  split at h
  ·rename_i n;cases ds with
   |nil=>exact ao.elim
   |cons d ds=>
    cases ds with
    |cons _ _=>exact ao.2.elim
    |nil=>
     rw[Mr] at h;cases hu:oF n with
     |none=>rw[hu] at h;cases h
     |some u=>rw[hu] at h;cases h;have:d= .int .u8 n:=ao.1;rw[this,W6 hu];exact (dm z _ _).2 (by rw[J])
  ·cases h
 Nl:=fun x=>by simp only[aho,Mr,asQ,h1]
 F8:=fun cs x h=>by
  split at h
  ·rename_i n;rw[Mr] at h;cases hu:oF n with
   |none=>rw[hu] at h;cases h
   |some u=>rw[hu] at h;cases h;rw[J,W6 hu];exact oO.refl _
  ·cases h
def fN:(ls:List hG)->gJ (fi G ls)->List arh
 |[],_=>[]
 | .int k::ls,x=> .int k x.1::fN ls x.2
 | .bool::ls,x=> .bool x.1::fN ls x.2
 | .str::ls,x=>aQ.str x.1::fN ls x.2
 | .aE _::ls,x=>undef::fN ls x.2
 | .mp _ _ _::ls,x=>undef::fN ls x.2
 | .fn::ls,x=>undef::fN ls x.2
def lJ (P:arl):List Field->Nat->List hG->Bool
 |[],_,[]=>arf
 | f :: aY, i, .int _ :: ls => (f.offset == i && f.name != "_") && ((match P.underlying f.type with | are (.int _) => arf | _ => arj) && lJ P aY (i + 1) ls)
 | f :: aY, i, .bool :: ls => (f.offset == i && f.name != "_") && ((match P.underlying f.type with | are .bool => arf | _ => arj) && lJ P aY (i + 1) ls)
 | f :: aY, i, .str :: ls => (f.offset == i && f.name != "_") && ((match P.underlying f.type with | are .string => arf | _ => arj) && lJ P aY (i + 1) ls)
 |_,_,_=>arj
theorem Cf:∀{aY:List Field} {i:Nat} {ls:List hG} {x y:gJ (fi G ls)},lJ P aY i ls=arf->lS P aY i (fN ls x) (fN ls y)
 |[],_,[],_,_,_=>trivial
 |f::aY,i, .int k::ls,x,y,h=>by
  simp only[lJ,arq,beq_iff_eq,bne_iff_ne] at h;obtain ⟨⟨h1,J⟩,aj,aJ⟩:=h;refine ⟨h1,J, .inl ?_,Cf aJ⟩;split at aj
  ·exact ⟨k,_,_,_,‹_›,rfl,rfl⟩
  ·cases aj
 |f::aY,i, .bool::ls,x,y,h=>by
  simp only[lJ,arq,beq_iff_eq,bne_iff_ne] at h;obtain ⟨⟨h1,J⟩,aj,aJ⟩:=h;refine ⟨h1,J, .inr (.inl ?_),Cf aJ⟩;split at aj
  ·exact ⟨_,_,‹_›,rfl,rfl⟩
  ·cases aj
 |f::aY,i, .str::ls,x,y,h=>by
  simp only[lJ,arq,beq_iff_eq,bne_iff_ne] at h;obtain ⟨⟨h1,J⟩,aj,aJ⟩:=h;refine ⟨h1,J, .inr (.inr ?_),Cf aJ⟩;split at aj
  ·exact ⟨_,_,‹_›,rfl,rfl⟩
  ·cases aj
 |_::_,_, .aE _::_,_,_,h=>by cases h
 |_::_,_, .mp _ _ _::_,_,_,h=>by cases h
 |_::_,_, .fn::_,_,_,h=>by cases h
 |[],_,_::_,_,_,h=>by cases h
 |_::_,_,[],_,_,h=>by cases h
theorem CQ:∀{aY:List Field} {i:Nat} {ls:List hG} {x y:gJ (fi G ls)},lJ P aY i ls=arf->fN ls x=fN ls y->x=y
 |_,_,[],_,_,_,_=>rfl
 |f::aY,i, .int k::ls,x,y,h,e=>by simp only[lJ,arq] at h;simp only[fN,List.cons.injEq] at e;exact Prod.ext (asM.inj e.1).2 (CQ h.2.2 e.2)
 |f::aY,i, .bool::ls,x,y,h,e=>by simp only[lJ,arq] at h;simp only[fN,List.cons.injEq] at e;exact Prod.ext (arh.bool.inj e.1) (CQ h.2.2 e.2)
 |f::aY,i, .str::ls,x,y,h,e=>by simp only[lJ,arq] at h;simp only[fN,List.cons.injEq] at e;exact Prod.ext (YM e.1) (CQ h.2.2 e.2)
 |_::_,_, .aE _::_,_,_,h,_=>by cases h
 |[],_, .aE _::_,_,_,h,_=>by cases h
 |[],_, .int _::_,_,_,h,_=>by cases h
 |[],_, .bool::_,_,_,h,_=>by cases h
 |[],_, .str::_,_,_,h,_=>by cases h
 |_::_,_, .mp _ _ _::_,_,_,h,_=>by cases h
 |_::_,_, .fn::_,_,_,h,_=>by cases h
 |[],_, .mp _ _ _::_,_,_,h,_=>by cases h
 |[],_, .fn::_,_,_,h,_=>by cases h
theorem C7 {z:Nat->aV}:∀{aY:List Field} {i:Nat} {ls:List hG} {x:gJ (fi G ls)} {ds:List arh},lJ P aY i ls=arf->oB z (fi G ls) x ds->ds=fN ls x
 |_,_,[],_,[],_,_=>rfl
 |_,_,[],_,_::_,_,h=>h.elim
 |f::aY,i, .int k::ls,x,d::ds,h,e=>by simp only[lJ,arq] at h;have h1:d= .int k x.1:=e.1;rw[fN,h1,<-C7 h.2.2 e.2]
 |f::aY,i, .bool::ls,x,d::ds,h,e=>by simp only[lJ,arq] at h;have h1:d= .bool x.1:=e.1;rw[fN,h1,<-C7 h.2.2 e.2]
 |f::aY,i, .str::ls,x,d::ds,h,e=>by simp only[lJ,arq] at h;have h1:d=aQ.str x.1:=e.1;rw[fN,h1,<-C7 h.2.2 e.2]
 |_::_,_, .aE _::_,_,_,h,_=>by cases h
 |_::_,_, .mp _ _ _::_,_,_,h,_=>by cases h
 |_::_,_, .fn::_,_,_,h,_=>by cases h
 |[],_,_::_,_,_,h,_=>by cases h
 |_::_,_, .int _::_,_,[],_,h=>h.elim
 |_::_,_, .bool::_,_,[],_,h=>h.elim
 |_::_,_, .str::_,_,[],_,h=>h.elim
def Xa {t:Nat} (ls:List hG) (to:D t->gJ (fi G ls)) (of:gJ (fi G ls)->D t) (h1:∀x,of (to x)=x) (aY:Array Field) (eq:D t->D t->Bool) (ho:G.T t=h7 t (fi G ls) to) (he:∀x y,eq x y=arf↔x=y)
  (ak:P.underlying t=are (.struct aY)) (an:P.stoodInHeld t=arj) (aM:P.eqGuardType P.depth t=arj) (aq:lJ P aY.toList 0 ls=arf):mu P G t where
 aY:=aY
 eq:=eq
 dc:=fun x=>fN ls (to x)
 ak:=ak
 an:=an
 aM:=aM
 aq:=fun x y=>Cf aq
 aa:=fun z x ds h=>by rw[ho] at h;exact C7 aq h
 he:=fun x y=>by
  rw[he];constructor
  ·rintro rfl;rfl
  ·intro h;have:=CQ aq h;rw[<-h1 x,<-h1 y,this]
def MY {al:Type} (k:aro) (of:Int->al):aN D->Option al:=fun s=>match s with| .c (.int bW n)=>if bW=k then are (of n) else ari|_=>ari
def MZ {al:Type} (of:List UInt8->al):aN D->Option al:=fun s=>match s with| .c (.str n)=>are (of n)|_=>ari
def MX {t:Nat} (ti:gd P G t):aN D->Option (D t):=fun s=>match s with| .agg cS cs=>if cS=t then ti.pc cs else ari|_=>ari
def QN {al:Type} (k:aro) (of:Int->al):bC D->Option al:=fun s=>match s with| .int bW n=>if bW=k then are (of n) else ari|_=>ari
def QM {al:Type} (of:Bool->al):bC D->Option al:=fun s=>match s with| .bool n=>are (of n)|_=>ari
theorem akO {z:Nat->aV} {vs:List arh} {al:Type} {k:aro} {of:Int->al} {s:aN D} {a:al} {v:arh} (h:MY k of s=are a) (ao:rel G z vs s v):∃n,a=of n/\v= .int k n:=by
 unfold MY at h;split at h
 ·split at h
  ·rename_i hk;cases h;subst hk;exact ⟨_,rfl,ao⟩
  ·cases h
 ·cases h
theorem akP {z:Nat->aV} {vs:List arh} {al:Type} {of:List UInt8->al} {s:aN D} {a:al} {v:arh} (h:MZ of s=are a) (ao:rel G z vs s v):∃n,a=of n/\v=aQ.str n:=by
 unfold MZ at h;split at h
 ·cases h;exact ⟨_,rfl,ao⟩
 ·cases h
theorem akN {z:Nat->aV} {vs:List arh} {t:Nat} {ti:gd P G t} {s:aN D} {a:D t} {v:arh} (h:MX ti s=are a) (ao:rel G z vs s v):∃ds:List arh,(G.T t).rd z a ds/\v= .agg ds.toArray:=by
 unfold MX at h;split at h
 ·obtain ⟨_,h⟩:=eA h;obtain ⟨ds,h1,J⟩:=ao;exact ⟨ds,ti.q0 z vs _ _ _ h J,h1⟩
 ·cases h
theorem am4 {z:Nat->aV} {vs:List arh} {al:Type} {k:aro} {of:Int->al} {s:bC D} {a:al} {v:arh} (h:QN k of s=are a) (ao:db G z vs s v):∃n,a=of n/\v= .int k n:=by
 unfold QN at h;split at h
 ·split at h
  ·rename_i hk;cases h;subst hk;exact ⟨_,rfl,ao⟩
  ·cases h
 ·cases h
theorem am3 {z:Nat->aV} {vs:List arh} {al:Type} {of:Bool->al} {s:bC D} {a:al} {v:arh} (h:QM of s=are a) (ao:db G z vs s v):∃n,a=of n/\v= .bool n:=by
 unfold QM at h;split at h
 ·cases h;exact ⟨_,rfl,ao⟩
 ·cases h
structure tk (P:arl) (G:lT D) (kt:Nat) where
 dec:DecidableEq (D kt)
 K:ku P kt (G.bX kt)
 o7:aN D->Option (D kt)
 tL:∀z vs s a v,o7 s=are a->rel G z vs s v->v=cN (cB P kt) (G.bX kt a)
structure AN (P:arl) (G:lT D) (vt:Nat) where
 V:lU P vt (G.bX vt)
 s9:bC D->Option (D vt)
 oG:D vt->bC D
 z0:D vt
 i:TypeInfo
 af:P.info? vt=are i
 tX:cB P vt=arj
 aD:i.zero=are (cN arj (G.bX vt z0))
 yQ:∀z vs c a v,s9 c=are a->db G z vs c v->v=cN arj (G.bX vt a)
 l5:∀z vs a,db G z vs (oG a) (cN arj (G.bX vt a))
def B1 {kt vt:Nat} (a:tk P G kt) (b:AN P G vt):Ec P G kt vt where
 dec:=a.dec
 K:=a.K
 V:=b.V
 o7:=a.o7
 s9:=b.s9
 oG:=b.oG
 z0:=b.z0
 i:=b.i
 af:=b.af
 aD:=by rw[b.tX];exact b.aD
 tL:=a.tL
 yQ:=by rw[b.tX];exact b.yQ
 l5:=by rw[b.tX];exact b.l5
 tX:=b.tX
def afz {kt:Nat} (k:aro) (of:Int->D kt) (dec:DecidableEq (D kt)) (i:TypeInfo) (h:P.underlying kt=are (.int k)) (K:ku P kt (G.bX kt)) (hk:∀n,G.bX kt (of n)=[.int k n]):tk P G kt where
 dec:=dec
 K:=K
 o7:=MY k of
 tL:=fun z vs s a v h1 J=>by obtain ⟨n,rfl,rfl⟩:=akO h1 J;rw[hk,pn h rfl];rfl
def afA {kt:Nat} (of:List UInt8->D kt) (dec:DecidableEq (D kt)) (h:P.underlying kt=are .string) (K:ku P kt (G.bX kt)) (hk:∀n,G.bX kt (of n)=[aQ.str n]):tk P G kt where
 dec:=dec
 K:=K
 o7:=MZ of
 tL:=fun z vs s a v h1 J=>by obtain ⟨n,rfl,rfl⟩:=akP h1 J;rw[hk,pn h rfl];rfl
def Vh {t:Nat} (dec:DecidableEq (D t)) (ti:gd P G t) (ls:List hG) (to:D t->gJ (fi G ls)) (of:gJ (fi G ls)->D t) (h1:∀x,of (to x)=x) (aY:Array Field) (i:TypeInfo) (ho:G.T t=h7 t (fi G ls) to)
  (ak:P.underlying t=are (.struct aY)) (af:P.info? t=are i) (an:P.stoodInHeld t=arj) (dt:(i.size==0)=arj) (aq:lJ P aY.toList 0 ls=arf) (hlen:∀a,(G.bX t a).length=i.size) (hk:∀a,G.bX t a=fN ls (to a)):tk P G t where
 dec:=dec
 K:=ag5 ak af an dt hlen (fun a b=>by rw[hk,hk];exact Cf aq) (fun a b h=>by
  rw[hk,hk] at h;have:=CQ aq h;rw[<-h1 a,<-h1 b,this])
 o7:=MX ti
 tL:=fun z vs s a v J aj=>by obtain ⟨ds,g1,rfl⟩:=akN J aj;rw[ho] at g1;rw[C7 aq g1,hk];simp only[cB,ak,jz,cN]
def aoM {vt:Nat} (k:aro) (of:Int->D vt) (to:D vt->Int) (h1:∀x,of (to x)=x) (i:TypeInfo) (h:P.underlying vt=are (.int k)) (af:P.info? vt=are i) (V:lU P vt (G.bX vt)) (hk:∀n,G.bX vt (of n)=[.int k n]) (aD:i.zero=are (.int k 0)):AN P G vt where
 V:=V
 s9:=QN k of
 oG:=fun x=> .int k (to x)
 z0:=of 0
 i:=i
 af:=af
 tX:=pn h rfl
 aD:=by rw[hk];exact aD
 yQ:=fun z vs c a v g1 g2=>by obtain ⟨n,rfl,rfl⟩:=am4 g1 g2;rw[hk];rfl
 l5:=fun z vs a=>by have:=hk (to a);rw[h1] at this;rw[this];rfl
def aoL {vt:Nat} (of:Bool->D vt) (to:D vt->Bool) (h1:∀x,of (to x)=x) (i:TypeInfo) (h:P.underlying vt=are .bool) (af:P.info? vt=are i) (V:lU P vt (G.bX vt)) (hk:∀n,G.bX vt (of n)=[.bool n]) (aD:i.zero=are (.bool arj)):AN P G vt where
 V:=V
 s9:=QM of
 oG:=fun x=> .bool (to x)
 z0:=of arj
 i:=i
 af:=af
 tX:=pn h rfl
 aD:=by rw[hk];exact aD
 yQ:=fun z vs c a v g1 g2=>by obtain ⟨n,rfl,rfl⟩:=am3 g1 g2;rw[hk];rfl
 l5:=fun z vs a=>by have:=hk (to a);rw[h1] at this;rw[this];rfl
theorem akc {X:dk P D} {B:Code} {u:lg D} {us:List (lg D)} (h:pA X B u) (aq:∀v∈us,pA X B v):∀v∈u::us,pA X B v:=by
 intro v aa;rcases arA.1 aa with rfl|aa
 ·exact h
 ·exact aq v aa
theorem alF {X:dk P D} {B:Code}:∀v∈([]:List (lg D)),pA X B v:=by simp
theorem b8.law {X:dk P D} {d:bZ D} {F:d.F} (bM:b8 X d F) {m:Mem} {z:Nat->aV} (aD:je z m) (aw:∀b,m.next<=b->m.ay b= .dead) {bA:List (aN D)} {args:List arh} (b5:a1 (rel X.G z []) bA args)
  (h:d.call X F bA [] (fun sv _=>are sv)=are (.c (.bool arf))):fR P d.f args.toArray m fun v _=>v= .bool arf:=by
 have au:bd X.G ([]:List (aG D)) z m m ari []:=⟨cu.start aD aw,rfl,by simp,by simp⟩
 refine (bM bA [] (fun sv _=>are sv) _ args au b5 h).mono fun v m' aa=> ?_;obtain ⟨⟨z',vs',sv,bz,_,_,_,_,ao,fA⟩,_⟩:=aa;cases fA;exact ao
end
end
end Go.aQ
end
section
namespace Go.aQ
noncomputable section
section
variable {P:arl} {D:Nat->Type} {X:dk P D} {ae:Type} {z z':Nat->aV} {e m m':Mem} {k:Option Nat} {vs vs':List arh} {fr:Nat->arh} {E:List (Nat×aN D)} {O bz:List (aG D)}
theorem GD (l:ir D) {eF:List Nat}:∀(aC:List c7) (x:dD D aC) (aX:List Nat) (O:List (aG D)),k4 (X.ey l) eF aC x aX O=k4 X eF aC x aX O
 |[],_,_,_=>rfl
 | .o _ c::aC,x,[],O=>rfl
 | .o _ c::aC,x,i::aX,O=>by show k4 (X.ey l) eF aC x.2 aX (O.set i (bt.eZ (X.ey l) (fun n=>eF.getD n 0) c x.1 (sQ c O i)))=k4 X eF aC x.2 aX (O.set i (bt.eZ X (fun n=>eF.getD n 0) c x.1 (sQ c O i)));rw[GD l aC x.2 aX];exact congrArg (fun q=>k4 X eF aC x.2 aX (O.set i q)) (bt.FW l _ c x.1 _)
 | .v _ _::aC,x,aX,O=>GD l aC x.2 aX O
 | .u _ _::aC,x,aX,O=>GD l aC x.2 aX O
theorem WK (l:ir D) {bN:Nat->Nat} {aX ks:List Nat} {outs:List c7} {y:dD D outs}:∀(O:List (aG D)) (i:Nat),q9 (X.ey l) bN aX ks outs y i O=q9 X bN aX ks outs y i O
 |[],i=>rfl
 |o::O,i=>by simp only[q9,Cb,WK l O (i+1)]
theorem ahs (l:ir D) (aC:List c7) (fx:List (Nat×aN D)) (E:List (Nat×aN D)) (O:List (aG D)):rb (X.ey l) aC fx E O=rb X aC fx E O:=by
 simp only[rb,Ii,Cx,GD]
theorem XL (l:ir D) (p:gb D) (F:p.F) (E:List (Nat×aN D)) (O:List (aG D)) {ae:Type} (K:dF->List (Nat×aN D)->List (aG D)->Option ae):p.run (X.ey l) F E O K=p.run X F E O K:=by
 have aT:∀(aX:List Nat) (N:Nat) (cw:kL D) (y:dD D cw.outs) (E:List (Nat×aN D)),AO (X.ey l) p aX N cw y E=AO X p aX N cw y E:=fun aX N cw y E=>by simp only[AO,zt]
 have e2:∀(aX:List Nat) (cE:List (aG D)) (cw:kL D) (y:dD D cw.outs),qo (X.ey l) p aX cE cw y=qo X p aX cE cw y:=fun aX cE cw y=>by simp only[qo,WK,zh]
 unfold gb.run gb.z6;simp only[ahs,aT,e2]
def B4:dF->dF
 | .normal=> .ret
 |ex=>ex
theorem aib {ex:dF} (h:B4 ex= .ret):ex= .normal\/ex= .ret:=by
 cases ex<;>first|exact .inl rfl|exact .inr rfl|cases h
structure gP (D:Nat->Type) where
 f:Nat
 np:Nat
 ins:List c7
 fx:List (Nat×aN D)
 ks:List Nat
 outs:List c7
 lD:List (Nat×aN D)
 cv:List Nat
 a6:Bool:=arj
def EV (keep:List Nat) (i:Nat) (O:List (aG D)):List (aG D):=
 match O[i]? with
 |some (.box t cs arj w)=>if (!(keep.any (aru i))&&cs.all ZJ)=arf then O.set i (.box t cs arf w) else O
 |_=>O
def HF (keep:List Nat):Nat->List (aG D)->List (aG D)
 |0,O=>O
 |n+1,O=>EV keep n (HF keep n O)
theorem ajO {keep:List Nat} {i:Nat} (au:bd X.G O z e m k vs):∃z',Inv O (EV keep i O)/\cz e.next z z'/\bd X.G (EV keep i O) z' e m k vs:=by
 unfold EV;split
 ·rename_i t cs w ag;split
  ·rename_i ad;simp only[arq] at ad;obtain ⟨v,aa,bP⟩:=au.at ag;have aeh:=bP;obtain ⟨b,ds,rfl,_⟩:=aeh;have gT:w7 O (.box i 0)=are ((t,cs),O.set i (.box t cs arf w)):=by
    simp only[w7,ag];rw[if_pos ⟨trivial,ad.2⟩]
   obtain ⟨z',az,h1,J,_⟩:=OB (X:=X) au (s:= .box i 0) (g:= .pointer (are ⟨b,0,ari⟩)) ⟨b,aa,rfl⟩ gT;exact ⟨z',az,h1,J⟩
  ·exact ⟨z,Inv.refl _,cz.refl z,au⟩
 ·exact ⟨z,Inv.refl _,cz.refl z,au⟩
theorem XX {keep:List Nat} (au:bd X.G O z e m k vs):∀n:Nat,∃z',Inv O (HF keep n O)/\cz e.next z z'/\bd X.G (HF keep n O) z' e m k vs
 |0=>⟨z,Inv.refl _,cz.refl z,au⟩
 |n+1=>by obtain ⟨bR,az,h1,J⟩:=XX au n;obtain ⟨z2,g0,g1,g2⟩:=ajO (keep:=keep) (i:=n) J;exact ⟨z2,az.trans g0,h1.trans g1,g2⟩
def gP.pre (d:gP D) (bA:List (aN D)) (O:List (aG D)):List (aG D):=if d.a6=arf then HF (Pu O 100 (ZR (j5 0 bA)) []) O.length O else O
theorem gP.afX {d:gP D} {bA:List (aN D)} (au:bd X.G O z e m k vs):∃z',Inv O (d.pre bA O)/\cz e.next z z'/\bd X.G (d.pre bA O) z' e m k vs:=by
 unfold gP.pre;split
 ·exact XX au _
 ·exact ⟨z,Inv.refl _,cz.refl z,au⟩
def gP.hZ (d:gP D):gb D:={path:=[],ins:=d.ins,fx:=d.fx,ks:=d.ks,h9:=[⟨.ret,d.outs,d.lD⟩],keep:=[]}
def anS:dF->Bool
 | .ret=>arf
 |_=>arj
variable (X) in
def gP.call (d:gP D) (F:d.hZ.F) (bA:List (aN D)) (O:List (aG D)) {ae:Type} (K:aN D->List (aG D)->Option ae):Option ae:=
 if aru bA.length d.np=arf then d.hZ.run X F (j5 0 bA) (d.pre bA O) fun ex E O=>if anS ex=arf then (match s5 E d.cv with|some sv=>K sv O|none=>ari) else ari
 else ari
variable (X) in
def gP.fits (d:gP D) (bA:List (aN D)) (O:List (aG D)):Bool:=
 aru bA.length d.np&&(rb X d.ins d.fx (jI d.ins (j5 0 bA) O).1 (jI d.ins (j5 0 bA) O).2).isSome
structure Jq (P:arl) (X:dk P D) (d:gP D) (F:d.hZ.F):Prop where
 ex:∃fn c,P.funcs[d.f]? =are fn/\p8 P fn c/\kG P d.f=arf/\arF d.np fn.ntmps=arf/\fn.results.toList=d.cv.map .tmp/\d.hZ.oQ c=arf/\rq B4 X c d.hZ F
def fa (X:dk P D) (d:gP D) (F:d.hZ.F):Prop:=∀(bA:List (aN D)) (O:List (aG D)) {ae:Type} (K:aN D->List (aG D)->Option ae) (r:ae) {z:Nat->aV} {e m:Mem} {k:Option Nat} {vs:List arh} (args:List arh),
 bd X.G O z e m k vs->a1 (rel X.G z vs) bA args->d.call X F bA O K=are r->fR P d.f args.toArray m fun v m'=>cF X O z e k vs K r v m'
theorem YT {m:Mem}:∀(l:List Nat),ov P fr m (l.map .tmp) (l.map fr)
 |[]=>trivial
 |_::l=>⟨rfl,YT l⟩
theorem Jq.call {d:gP D} {F:d.hZ.F} (bM:Jq P X d F):fa X d F:=by
 intro bA O ae K r z e m k vs args au b5 h;obtain ⟨fn,c,f1,f2,f3,f4,f5,f6,dS⟩:=bM.ex;unfold gP.call at h;obtain ⟨hlen,h⟩:=eA h;have hlen:=arB hlen;have bu:args.toArray.size<=fn.ntmps:=by rw[List.size_toArray,<-b5.length,hlen];exact arG f4
 refine fR.any f1 f2 f3 bu fun fr fB=> ?_;have aP:ef X z vs (j5 0 bA) fr:=GN b5 fun j v ap=>by rw[arE];exact fB j v (by simpa using ap)
 obtain ⟨arc,pb,en,fo⟩:=gP.afX (d:=d) (bA:=bA) au;have ab:=dS.za f6 (j5 0 bA) (d.pre bA O) _ r fo (aP.mono en.le fun _ _ h=>h) h;rw[show sub c d.hZ.path=c from pe c] at ab;refine ab.mono ?_;rintro ex cd m1 ⟨bR,ja,jQ,bB,az,h1,J,aj,aJ,bk⟩;obtain ⟨ao,bk⟩:=eA bk;have hex:B4 ex= .ret:=by revert ao;cases B4 ex<;>intro ao<;>first|rfl|cases ao
 split at bk
 ·rename_i sv r7;obtain ⟨bm,br⟩:=O7 aJ r7;exact ⟨aib hex,_,by rw[f5];exact YT d.cv,br,bR,ja,sv,bB,pb.trans az,en.trans h1,J,aj,bm,bk⟩
 ·cases bk
theorem fa.none {d:gP D} {F:d.hZ.F} (az:∀x,F x=ari):fa X d F:=by
 intro bA O ae K r z e m k vs args au b5 h;unfold gP.call at h;obtain ⟨_,h⟩:=eA h;unfold gb.run gb.z6 at h;split at h
 ·rw[az] at h;cases h
 ·cases h
theorem fa.base {q:ir D} {d:gP D} {F:d.hZ.F} (h:fa (X.ey q) d F):fa X d F:=by
 intro bA O ae K r z e m k vs args au b5 ad;have ad:d.call (X.ey q) F bA O K=are r:=by unfold gP.call at ad⊢;rw[XL];exact ad
 exact h bA O K r args au b5 ad
structure GE (D:Nat->Type) where
 d:gP D
 F:d.hZ.F
variable (X) in
def A7:List (GE D)->Nat->List (aN D)->List (aG D)->{ae:Type}->(aN D->List (aG D)->Option ae)->Option ae
 |[],f,bA,O,_,K=>X.C f bA O K
 |x::l,f,bA,O,_,K=>if (aru x.d.f f&&x.d.fits X bA O)=arf then x.d.call X x.F bA O K else A7 l f bA O K
variable (X) in
def A8:List (GE D)->Nat->List (aN D)->List (aG D)->Bool
 |[],f,bA,O=>X.F f bA O
 |x::l,f,bA,O=>if (aru x.d.f f&&x.d.fits X bA O)=arf then arj else A8 l f bA O
variable (X) in
def yl:List (GE D)->Nat->Bool
 |[],f=>X.W f
 |x::l,f=>aru x.d.f f||yl l f
def dk.gen (X:dk P D) (l:List (GE D)):dk P D:=X.ey ⟨A8 X l,X.dq,A7 X l,yl X l⟩
theorem ZA (bI:fL X) {f:Nat} {bA:List (aN D)} {K:aN D->List (aG D)->Option ae} {r:ae} {args:List arh} (au:bd X.G O z e m k vs) (b5:a1 (rel X.G z vs) bA args):∀{l:List (GE D)},(∀x∈l,fa X x.d x.F)->A7 X l f bA O K=are r->
  fR P f args.toArray m fun v m'=>cF X O z e k vs K r v m'/\(A8 X l f bA O=arf->m'=m)/\(yl X l f=arj->∃q,eY m m' q/\nd vs (p2 bA) q)
 |[],_,ad=>bI f bA O K r args au b5 ad
 |x::l,h,ad=>by
  unfold A7 at ad;unfold A8 yl;split at ad
  ·rename_i U;rw[if_pos U];simp only[arq] at U;have:=arB U.1;subst this;refine (h x arS bA O K r args au b5 ad).mono fun v m' av=>⟨av,fun ax=>Bool.noConfusion ax,fun ax=> ?_⟩
   rw[U.1] at ax;cases ax
  ·rename_i U;rw[if_neg U];refine (ZA bI au b5 (fun y ah=>h y (arK _ ah)) ad).mono fun v m' av=>⟨av.1,av.2.1,fun ax=>av.2.2 ?_⟩
   cases ab:yl X l f with
   |false=>rfl
   |true=>rw[ab,Bool.or_true] at ax;cases ax
theorem fL.gen {l:List (GE D)} (bI:fL X) (h:∀x∈l,fa X x.d x.F):fL (X.gen l):=by
 intro f bA O ae K r z e m k vs args au b5 ad;exact ZA (X:=X) bI au b5 h ad
theorem b8.ey {q:ir D} {d:bZ D} {F:d.F} (h:b8 (X.ey q) d F):b8 X d F:=by
 intro bA O ae K r z e m k vs args au b5 ad;rw[<-Cm q] at ad;exact h bA O K r args au b5 ad
theorem b8.aoJ {l:List (GE D)} {d:bZ D} {F:d.F} (h:b8 X d F):b8 (X.gen l) d F:=by
 intro bA O ae K r z e m k vs args au b5 ad;have ad:d.call (X.ey ⟨A8 X l,X.dq,A7 X l,yl X l⟩) F bA O K=are r:=ad;rw[Cm] at ad;exact h bA O K r args au b5 ad
theorem fa.up {q:ir D} {d:gP D} {F:d.hZ.F} (h:fa X d F):fa (X.ey q) d F:=by
 intro bA O ae K r z e m k vs args au b5 ad;have ad:d.call X F bA O K=are r:=by unfold gP.call at ad⊢;rw[XL] at ad;exact ad
 exact h bA O K r args au b5 ad
theorem fL.acp {aY:List (nP D)} {l:List (GE D)} (bI:fL (X.with aY)) (h:∀x∈l,fa X x.d x.F):fL ((X.with aY).gen l):=fL.gen bI fun x U=>(h x U).up
theorem ajc:∀y∈([]:List (GE D)),fa X y.d y.F:=by simp
theorem ail {l:List (GE D)} {x:GE D} (h:fa X x.d x.F) (ai:∀y∈l,fa X y.d y.F):∀y∈x::l,fa X y.d y.F:=by
 intro y ah;rcases arA.1 ah with rfl|ah
 ·exact h
 ·exact ai y ah
end
end
end Go.aQ
end
section
namespace Go.aQ
open Go.ChangeMaps (setBlock)
theorem W.ext {P:arl} {a b:Code} {Q:dF->(Nat->arh)->Mem->Prop} {fr fr':Nat->arh} {m m':Mem} {e:dF} (h:Jk P (.seq a b) fr m e fr' m') (aq:P8 a=arf) (aF:Q e fr' m'):W P (.seq a b) Q fr m:=⟨1,e,fr',m', .inr ⟨aq,h⟩,aF⟩
theorem Post.afW {P:arl} {j bw:bb} {m m':Mem} {w w' lN:World} {r:Nat} (aa:iu P w) (h:Post P j m w bw m' w') (ao:w.heap.size<=r) (aq:lN.heap.size=w'.heap.size) (ag:lN.os=w'.os) (ak:lN.tape=w'.tape) (an:lN.output=w'.output)
  (ab:∀c,c≠r->lN.heap[c]? =w'.heap[c]?) {bJ:Nat} (av:∀b e,bw b=are e->b≠bJ->e.ay≠r) (aw:m'.ay bJ= .dead):Post P j m w bw m' lN:=
 ⟨⟨⟨fun b e ch=>⟨(h.rel.lt b e ch).1,by rw[aq];exact (h.rel.lt b e ch).2⟩,fun b e ch=>by
   by_cases kA:b=bJ
   ·rw[kA,aw];trivial
   ·rw[ab _ (av b e ch kA)];exact h.rel.obj b e ch,h.rel.inj⟩,h.rel.iI.val.keep fun g aM=>ab g fun ax=>by have:=aa.lt aM;omega,h.rel.iI.sep⟩,
  ⟨ag.trans h.dA.os,ak.trans h.dA.tape,an.trans h.dA.output,by rw[aq];exact h.dA.size,fun c ad jX=>by rw[ab c (by omega)];exact h.dA.block c ad jX⟩,h.next,h.ext,h.fresh,h.cK,h.alive⟩
theorem Post.apart {P:arl} {j bw:bb} {m m':Mem} {w w':World} {r bJ:Nat} (h:Post P j m w bw m' w') (ao:r<w.heap.size) (av:∀b e,j b=are e->b≠bJ->e.ay≠r) (aw:m.ay bJ= .dead):∀b e,bw b=are e->b≠bJ->e.ay≠r:=by
 intro b e ab kA;rcases ar' b m.next with aO|eT
 ·exact av b e (by rw[<-h.ext b aO];exact ab) kA
 ·rcases h.fresh b e ab eT with aK|⟨cM,cH,h1,J,aj⟩
  ·omega
  ·rw[<-aj];exact av cM cH h1 (fun ax=>by rw[ax,aw] at J;cases J)
theorem Post.dead {P:arl} {j bw:bb} {m m':Mem} {w w':World} {b:Nat} (h:Post P j m w bw m' w') (ab:b<m.next) (aw:m.ay b= .dead):m'.ay b= .dead:=by
 have:=h.alive b ab;rw[aw] at this;cases U:m'.ay b with
 |dead=>rfl
 |_=>rw[U] at this;exact absurd (this rfl) (by simp[aV.live])
def s6 (i7:Nat) (jw:Array Oper) (iO i8:Nat) (jf:Array Oper) (aod kQ i9:Nat) (jg:Array Oper) (i10:Nat) (hd:Array Oper) (fS:Code):Code:=
 .seq (.seq (.region i7 jw arj) (.block iO (.loop (.seq (.region i8 jf arj) (.seq (.cond (.tmp aod) .skip (.exit iO)) (.block kQ (.seq (.region i9 jg arj) (.region i10 hd arj)))))))) fS
def mr:List Oper->List (Option Nat×Op)->Prop
 |[],[]=>True
 |o::os,p::bx=>(o.dst=p.1/\o.op=p.2/\o.guard=ari)/\mr os bx
 |_,_=>False
section
variable {P:arl} {ops:Array Oper} {Q:Exit->Act->World->Prop} {l:List Oper} {a:Act} {w w':World} {o:Oper} {v:arh}
theorem mX (aM:o.guard=ari) (ao:(execOp a.eval o).run P w= .ok (.value v) w') (h:wpList P ops Q l (a.put o.dst v) w'):wpList P ops Q (o::l) a w:=by
 unfold wpList;rw[if_pos (by simp[asT,aM])];left;unfold Oper.wp;rw[ao];exact h
end
def dN (a:Act) (t:Nat):arh:=a.tmps.getD t undef
theorem mO {a:Act} {d t:Nat} {v:arh} (aw:d<a.tmps.size):dN (a.put (are d) v) t=if t=d then v else dN a t:=sr aw
theorem Gk {a:Act} {d:Nat} {v:arh} (aw:d<a.tmps.size):dN (a.put (are d) v) d=v:=by rw[mO aw,if_pos rfl]
theorem N2 {a:Act} {d t:Nat} {v:arh} (aw:d<a.tmps.size) (h:t≠d):dN (a.put (are d) v) t=dN a t:=by rw[mO aw,if_neg h]
def hp (v:arh):Prop:=∀b,v≠ .bool b
structure SU (mt:arn) (jw jf jg:Array Oper):Prop where
 gz:mr jw.toList [(are 29, .move (.tmp 8)),(are 30, .range mt (.tmp 29))]
 hM:mr jf.toList [(are 31, .next (.tmp 30) arj),(are 32, .extract (.tmp 31) 0)]
 n0:mr jg.toList [(are 33, .entry (.tmp 30)),(are 34, .extract (.tmp 33) 0),(are 35, .extract (.tmp 33) 1),(are 9, .assign (.tmp 34)),(are 10, .assign (.tmp 35))]
def jb (t:Nat):Bool:=(arF 29 t&&arF t 41)||(aru t 6||(aru t 9||aru t 10))
def BY (t:Nat):Bool:=aru t 31||((arF 33 t&&arF t 41)||(aru t 9||aru t 10))
theorem mr.nil {l:List Oper} (h:mr l []):l=[]:=by
 cases l with
 |nil=>rfl
 |cons _ _=>exact h.elim
theorem mr.cons {l:List Oper} {p:Option Nat×Op} {bx:List (Option Nat×Op)} (h:mr l (p::bx)):∃o os,l=o::os/\o.dst=p.1/\o.op=p.2/\o.guard=ari/\mr os bx:=by
 cases l with
 |nil=>exact h.elim
 |cons o os=>exact ⟨o,os,rfl,h.1.1,h.1.2.1,h.1.2.2,h.2⟩
section
variable {P:arl} {a:Act} {w:World} {o:Oper}
theorem XK {x:arm} (h:o.op= .move x):(execOp a.eval o).run P w= .ok (.value (a.eval x)) w:=by simp[execOp,h]
theorem Ww {x:arm} (h:o.op= .assign x):(execOp a.eval o).run P w= .ok (.value (a.eval x)) w:=by simp[execOp,h]
theorem Cc {x:arm} {i:Nat} {vs:Array arh} {v:arh} (h:o.op= .extract x i) (U:a.eval x= .tuple vs) (aa:vs[i]? =are v):(execOp a.eval o).run P w= .ok (.value v) w:=by
 simp[execOp,h,U,Instr.extract,aa]
theorem ou {t:Nat}:a.eval (.tmp t)=dN a t:=rfl
end
noncomputable section
section
variable {P:arl} {D:Nat->Type} {X:dk P D}
def y1 (O:List (aG D)):aN D->Bool
 | .c (.int _ _)| .c (.str _)| .c .fH| .c (.aE _ _)| .agg _ _| .box _ _| .undef| .mV _=>arf
 | .c (.own i)=>aru i 0||(match O[i]? with|some (.aE _ _ arj _)=>arf|_=>arj)
 |_=>arj
def A4 (e:Nat) (E:List (Nat×aN D)) (O:List (aG D)):Option (List (D e)):=
 if ([36,37,38,39,40,41].all fun t=>y1 O (dQ E t))=arf then
  match dQ E 6 with
  | .c (.own j)=>(match O[j]? with|some (.aE bp xs arj _)=>if h:bp=e then are (h▸xs) else ari|_=>ari)
  |_=>ari
 else ari
theorem Oz {x:Option Addr} {l c:Nat}:hp (.slice x l c):=fun b h=>by cases h
theorem Za {O:List (aG D)} {z:Nat->aV} {e m:Mem} {k:Option Nat} {vs:List arh} {s:aN D} {v:arh} (au:bd X.G O z e m k vs) (az:∀u,vs[0]? =are u->hp u) (aq:y1 O s=arf) (h:rel X.G z vs s v):hp v:=by
 unfold y1 at aq;split at aq
 ·intro b ab;rw[show v=_ from h] at ab;cases ab
 ·intro b ab;rw[show v=_ from h] at ab;cases ab
 ·intro b ab;rw[show v=_ from h] at ab;cases ab
 ·obtain ⟨a,c,aa⟩:=dW.len h;intro b ab;rw[aa] at ab;cases ab
 ·obtain ⟨ds,aa,_⟩:=h;intro b ab;rw[aa] at ab;cases ab
 ·obtain ⟨cM,_,aa⟩:=h;intro b ab;rw[aa] at ab;cases ab
 ·intro b ab;rw[show v=_ from h] at ab;cases ab
 ·obtain ⟨ds,aa,_⟩:=h;intro b ab;rw[aa] at ab;cases ab
 ·rename_i i;simp only[asi] at aq;rcases aq with aq|aq
  ·have:=arB aq;subst this;exact az v h.1
  ·split at aq
   ·rename_i aT xs w ag;have bP:=au.obj i _ v ag h.1;obtain ⟨a,c,aa⟩:=(show cO _ z e m k xs v from bP).a7.len;intro b ab;rw[aa] at ab;cases ab
   ·cases aq
 ·cases aq
theorem Df {j:bb} {v aS:arh} (h:bU j v aS) (aa:hp v):hp aS:=Wh h aa
def any:arh:= .chan ari
theorem pf {j:bb} {aS:arh} (h:hp aS):bU j any aS:=h
variable (P X)
structure vi (e kt vt:Nat) where
 app:D kt->D vt->D e
 DE:D kt->aN D
 sv:D vt->aN D
 o6:D kt->arh
 nM:D vt->arh
 hk:∀z vs a,rel X.G z vs (DE a) (o6 a)
 aa:∀z vs a,rel X.G z vs (sv a) (nM a)
 wm:∀a,hp (o6 a)
 c3:∀a,hp (nM a)
 TV:∀a,flat (o6 a)=arf
 lY:∀a,flat (nM a)=arf
variable {P X}
def FT (jB r:Nat) (w:World):Nat:=
 match w.heap[jB]?,w.heap[r]? with
 |some (.map es _),are (.mapIter _ _ seen _)=>(leftOf es seen).size
 |_,_=>0
structure vg (P:arl) (D:Nat->Type) (X:dk P D) (e kt vt:Nat) where
 V:vi P X e kt vt
 N:Nat
 dZ:bb
 m0:Mem
 cW:World
 EU:Nat->arh
 z0:Nat->aV
 em:Mem
 k:Option Nat
 xs:List (D e)
 cs:Array MapEntry
 gE:Nat
 jB:Nat
 r:Nat
 bJ:Nat
 ds:List Deferred
structure Jy {e kt vt:Nat} (B:vg P D X e kt vt):Prop where
 bJ:B.bJ<B.m0.next
 dead:B.m0.ay B.bJ= .dead
 acg:B.dZ B.bJ=are ⟨B.r,0,0,0⟩
 r:B.cW.heap.size<=B.r
 jB:B.cW.heap[B.jB]? =are (.map B.cs B.gE)
 J0:B.jB<B.cW.heap.size
 free:∀b q,B.dZ b=are q->(B.m0.ay b).gj=arf->q.ay≠B.jB
 aR:wY B.cs B.gE
 es:∀x∈B.cs.toList,∃p:D kt×D vt,x.key=B.V.o6 p.1/\x.val=B.V.nM p.2
 len:B.xs.length+B.cs.size<=mq
 iI:iu P B.cW
structure vh {e kt vt:Nat} (B:vg P D X e kt vt) (a:Act) (w:World) (fh:List MapEntry) (bx:List (D kt×D vt)) (v6:arh) (mk:Mem) (jq:bb) (mm:Nat->aV) (wf:Bool):Prop where
 post:Post P B.dZ B.m0 B.cW jq mk w
 QT:WF mk
 y0:bd X.G [.aE e (B.xs++bx.map fun p=>B.V.app p.1 p.2) arj wf] mm B.em mk B.k [v6]
 aa9:cz B.em.next B.z0 mm
 rel:a1 (fun (p:D kt×D vt) (x:MapEntry)=>x.key=B.V.o6 p.1/\x.val=B.V.nM p.2) bx fh
 A0:∀b q,jq b=are q->b≠B.bJ->q.ay≠B.r
 mem:∀x∈fh,x∈B.cs.toList
 gX:(fh.map (·.born)).Nodup
 defers:a.defers=B.ds
 size:a.tmps.size=B.N
 v6:bU jq v6 (dN a 6)
 aaC:hp (dN a 29)
 v30:dN a 30= .pointer (are ⟨B.r,0,ari⟩)
 off:∀t,jb t=arj->bU jq (B.EU t) (dN a t)
 on:∀t,BY t=arf->(fh=[]->bU jq (B.EU t) (dN a t))/\(fh≠[]->hp (dN a t))
def Hh {e kt vt:Nat} (B:vg P D X e kt vt) (w:World) (fh:List MapEntry):Prop:=∃iP,w.heap[B.r]? =are (.mapIter (are B.jB) B.gE (fh.map (·.born)).toArray iP)/\B.gE<=iP
theorem vh.map {e kt vt:Nat} {B:vg P D X e kt vt} (dS:Jy B) {a:Act} {w:World} {fh:List MapEntry} {bx:List (D kt×D vt)} {v6:arh} {mk:Mem} {jq:bb} {mm:Nat->aV} {wf:Bool} (h:vh B a w fh bx v6 mk jq mm wf):w.heap[B.jB]? =are (.map B.cs B.gE):=by
 rw[h.post.dA.block B.jB dS.J0 dS.free];exact dS.jB
theorem aip {l:List MapEntry} (h:(l.map (·.born)).Nodup) {x y:MapEntry} (U:x∈l) (ah:y∈l) (he:x.born=y.born):x=y:=by
 have h1:=find_born x l h U;have J:=find_born y l h ah;rw[he] at h1;rw[h1] at J;exact arw.inj J
theorem Xj {al:Type} [DecidableEq al]:∀{l m:List al},l.Nodup->(∀x∈l,x∈m)->l.length<=m.length
 |[],_,_,_=>ass _
 |a::l,m,av,aq=>by have ar:=aq a arS;obtain ⟨h1,J⟩:=atk.1 av;have:=Xj (m:=m.erase a) J fun x U=>(List.mem_erase_of_ne (fun (he:x=a)=>h1 (by rw[<-he];exact U))).2 (aq x (arK _ U));rw[List.length_erase_of_mem ar] at this;have an:0<m.length:=List.length_pos_of_mem ar;simp only[arU];omega
theorem aje {e:Nat} {E:List (Nat×aN D)} {O:List (aG D)} {a8:List (D e)} (h:A4 e E O=are a8):(∀t,36<=t->t<=41->y1 O (dQ E t)=arf)/\∃j wf,dQ E 6= .c (.own j)/\O[j]? =are (.aE e a8 arj wf):=by
 unfold A4 at h;obtain ⟨h1,h⟩:=eA h;refine ⟨fun t ar ab=> ?_, ?_⟩
 ·have J:=arz.1 h1;refine J t ?_;simp only[arA,asU,or_false];omega
 ·split at h
  ·rename_i j ap;split at h
   ·rename_i bp xs wf ag;split at h
    ·rename_i he;subst he;cases h;exact ⟨j,wf,ap,ag⟩
    ·cases h
   ·cases h
  ·cases h
theorem a1.snoc {al bs:Type} {R:al->bs->Prop}:∀{l:List al} {k:List bs} {a:al} {b:bs},a1 R l k->R a b->a1 R (l++[a]) (k++[b])
 |[],[],_,_,_,h=>⟨h,trivial⟩
 |[],_::_,_,_,h,_=>h.elim
 |_::_,[],_,_,h,_=>h.elim
 |_::_,_::_,_,_,⟨h1,J⟩,h=>⟨h1,a1.snoc J h⟩
theorem akt {O:List (aG D)} {z:Nat->aV} {e:Mem} {m:Mem} {k:Option Nat} {vs:List arh} {j tB:Nat} {xs:List (D tB)} {wf:Bool} {v:arh} (au:bd X.G O z e m k vs) (ag:O[j]? =are (.aE tB xs arj wf)) (aa:vs[j]? =are v):bd X.G [.aE tB xs arj wf] z e m k [v]:=by
 refine ⟨au.aR,rfl,fun i o u af hu=> ?_,fun i kl o p u mg bL af da _ _ _ _=> ?_⟩
 ·cases i with
  |zero=>cases af;cases hu;exact au.obj j _ v ag aa
  |succ i=>cases af
 ·cases i with
  |zero=>cases kl with
   |zero=>exact absurd rfl bL
   |succ kl=>cases da
  |succ i=>cases af
structure ap0 {e kt vt:Nat} (B:vg P D X e kt vt) (a:Act) (w:World):Prop where
 out:∃fh bx v6 mk jq mm wf,vh B {a with tmps:=a.tmps} w fh bx v6 mk jq mm wf/\(∀x∈B.cs.toList,x∈fh)
 v31:hp (dN a 31)
 v32:dN a 32= .bool arj
theorem aoc {e kt vt:Nat} {B:vg P D X e kt vt} (dS:Jy B) (bI:fL X) (hz:P.follows .mixedOrders=arf) {mt:arn} {jw jf jg hd:Array Oper} {iO kQ i8 i9 i10:Nat} (qM:SU mt jw jf jg) (bG:44<B.N)
  (Nh:∀o∈hd.toList,(∀x∈o.op.operands,kH x=arf)/\∀d,o.dst=are d->d<B.N)
  (vZ:∀t,jb t=arj\/t=29\/t=30\/t=31\/t=32\/t=33\/t=34\/t=35\/t=9\/t=10->(tx hd).contains t=arj)
  (ab:∀a b a8 wf,a8.length<mq->ps X hd.toList hd.toList [(6, .c (.own 0)),(9,B.V.DE a),(10,B.V.sv b)] [.aE e a8 arj wf] (A4 e)=are (a8++[B.V.app a b]))
  {a:Act} {w:World} {fh:List MapEntry} {bx:List (D kt×D vt)} {v6:arh} {mk:Mem} {jq:bb} {mm:Nat->aV} {wf:Bool} (h:vh B a w fh bx v6 mk jq mm wf) (af:Hh B w fh)
  {R:Act->World->Prop} {Q:Exit->Act->World->Prop}
  (yx:∀a' w' Dv Np DJ mk' MV Ro Ad,vh B a' w' Dv Np DJ mk' MV Ro Ad->Hh B w' Dv->Dv≠[]->FT B.jB B.r w'<FT B.jB B.r w->R a' w')
  (Fj:∀a',(∀t,t≠31->t≠32->dN a' t=dN a t)->hp (dN a' 31)->dN a' 32= .bool arj->a'.defers=B.ds->a'.tmps.size=B.N->(∀x∈B.cs.toList,x∈fh)->Q .normal a' w):
  (Code.seq (.region i8 jf arj) (.seq (.cond (.tmp 32) .skip (.exit iO)) (.block kQ (.seq (.region i9 jg arj) (.region i10 hd arj))))).wp P (Exit.then R (Exit.inBlock iO Q)) a w:=by
 obtain ⟨iP,hit,kB⟩:=af;have qH:=h.map dS;have hold:∀x∈B.cs.toList,x.born<B.gE:=dS.aR.2;obtain ⟨ek,pX,aT,d1,en,g1,t1⟩:=qM.hM.cons;obtain ⟨eV,uc,e2,d2,fo,g2,t2⟩:=t1.cons;have hV:=t2.nil;subst hV e2;dsimp only at d1 en d2 fo;have FA:(31:Nat)<a.tmps.size:=by rw[h.size];omega
 have aoe:∀{x:MapEntry},x∈B.cs.toList->(fh.map (·.born)).toArray.contains x.born=arf->x∈fh:=by
  intro x U ad;have:x.born∈fh.map (·.born):=by simpa using ad
  obtain ⟨y,ah,he⟩:=arC.1 this;have:=aip dS.aR.1 (h.mem y ah) U he;rw[<-this];exact ah
 refine wp_seq (wp_region_list ?_);rw[aT];rcases run_next_at (P:=P) w ek.type B.r B.jB B.gE iP _ B.cs B.gE hit qH hold kB with ⟨aD,gV⟩|⟨x,U,bD,Fc,gV⟩
 ·refine mX g1 (v:= .tuple #[.bool arj]) (w':=w) (by simp[execOp,en,ou,h.v30,gV]) ?_;rw[d1];have FB:(32:Nat)<(a.put (are 31) (.tuple #[.bool arj])).tmps.size:=by rw[fP.1,h.size];omega
  refine mX g2 (Cc (vs:=#[.bool arj]) (v:= .bool arj) fo (by rw[ou,Gk FA]) rfl) ?_;rw[d2];refine wpList_nil ?_;refine wp_seq (wp_cond_false (by rw[show Act.eval _ (.tmp 32)=dN _ 32 from rfl,Gk FB]) (wp_exit ?_));simp only[Exit.then,Exit.inBlock,if_true];refine Fj _ (fun t h1 J=>by rw[N2 FB J,N2 FA h1]) ?_ (Gk FB) (by rw[fP.2,fP.2];exact h.defers) (by rw[fP.1,fP.1];exact h.size) fun x U=>aoe U (all_seen _ _ aD x U);rw[N2 FB (by omega),Gk FA];intro b ab;cases ab
 ·obtain ⟨MO,pS⟩:=mem_left U;obtain ⟨⟨hA,xG⟩,jD,yR⟩:=dS.es x MO;dsimp only at jD yR;obtain ⟨dR,oe⟩:∃dR,dR=setBlock bD B.r (.mapIter (are B.jB) B.gE ((fh.map (·.born)).toArray.push x.born) B.gE):=⟨_,rfl⟩
  rw[<-oe] at gV;have My:B.r<w.heap.size:=by
   rcases ar' B.r w.heap.size with ax|ax
   ·exact ax
   ·rw[aus ax] at hit;cases hit
  have hY:bD.heap=w.heap/\bD.os=w.os/\bD.tape=w.tape/\bD.output=w.output:=by rcases Fc with rfl|rfl<;>exact ⟨rfl,rfl,rfl,rfl⟩
  have cI:dR.heap.size=w.heap.size:=by rw[oe];simp[setBlock,hY.1]
  have cL:dR.os=w.os/\dR.tape=w.tape/\dR.output=w.output:=by rw[oe];exact ⟨hY.2.1,hY.2.2.1,hY.2.2.2⟩
  have eQ:∀c,c≠B.r->dR.heap[c]? =w.heap[c]? :=fun c ad=>by rw[oe];simp[setBlock,hY.1,Array.getElem?_setIfInBounds,Ne.symm ad]
  have gu:dR.heap[B.r]? =are (.mapIter (are B.jB) B.gE ((fh.map (·.born)).toArray.push x.born) B.gE):=by rw[oe];simp[setBlock,hY.1,My]
  have tQ:mk.ay B.bJ= .dead:=h.post.dead dS.bJ dS.dead;have Fa:Post P B.dZ B.m0 B.cW jq mk dR:=h.post.afW dS.iI dS.r cI cL.1 cL.2.1 cL.2.2 eQ h.A0 tQ;have UC:jq B.bJ=are ⟨B.r,0,0,0⟩:=by rw[h.post.ext _ dS.bJ];exact dS.acg
  have ad7:dR.heap[B.jB]? =are (.map B.cs B.gE):=by rw[eQ _ (by have:=dS.J0;have:=dS.r;omega)];exact qH
  have aqw:x∉fh:=fun ax=>by
   have:(fh.map (·.born)).toArray.contains x.born=arf:=by simpa using ⟨x,ax,rfl⟩
   rw[this] at pS;cases pS
  refine mX g1 (v:= .tuple #[.bool arf,x.key,x.val]) (w':=dR) (by simp[execOp,en,ou,h.v30,gV]) ?_;rw[d1];obtain ⟨cr,oX⟩:∃cr,cr=a.put (are 31) (.tuple #[.bool arf,x.key,x.val]):=⟨_,rfl⟩
  have bR:cr.tmps.size=B.N/\cr.defers=B.ds:=by rw[oX,fP.1,fP.2];exact ⟨h.size,h.defers⟩
  have bh:∀t,dN cr t=if t=31 then .tuple #[.bool arf,x.key,x.val] else dN a t:=fun t=>by rw[oX];exact mO FA
  rw[<-oX];refine mX g2 (w':=dR) (Cc (vs:=#[.bool arf,x.key,x.val]) (v:= .bool arf) fo (by rw[ou,bh,if_pos rfl]) rfl) ?_;rw[d2];obtain ⟨a2,kT⟩:∃a2,a2=cr.put (are 32) (.bool arf):=⟨_,rfl⟩
  have z2:a2.tmps.size=B.N/\a2.defers=B.ds:=by rw[kT,fP.1,fP.2];exact bR
  have bE:∀t,dN a2 t=if t=32 then .bool arf else dN cr t:=fun t=>by rw[kT];exact mO (by rw[bR.1];omega)
  rw[<-kT];refine wpList_nil ?_;refine wp_seq (wp_cond_true (by rw[show Act.eval _ (.tmp 32)=dN _ 32 from rfl,bE,if_pos rfl]) (wp_skip ?_));refine wp_block (wp_seq (wp_region_list ?_));obtain ⟨si,M1,hV,d3,hC,g3,t3⟩:=qM.n0.cons;obtain ⟨Vw,afB,kR,d4,iF,g4,t4⟩:=t3.cons;obtain ⟨Vx,aqH,qv,d5,y9,g5,t5⟩:=t4.cons;obtain ⟨Vy,aqI,acb,d6,VD,g6,t6⟩:=t5.cons;obtain ⟨aqP,aqJ,acd,d7,VE,g7,t7⟩:=t6.cons;have ace:=t7.nil;subst ace acd acb qv kR;dsimp only at d3 hC d4 iF d5 y9 d6 VD d7 VE;rw[hV];refine mX g3 (v:= .tuple #[x.key,x.val]) (w':=dR) (by simp[execOp,hC,ou,bE,bh,h.v30,run_entry_at dR B.r B.jB B.gE _ B.cs B.gE x gu ad7 MO dS.aR.1]) ?_;rw[d3];obtain ⟨a3,vz⟩:∃a3,a3=a2.put (are 33) (.tuple #[x.key,x.val]):=⟨_,rfl⟩
  have z3:a3.tmps.size=B.N/\a3.defers=B.ds:=by rw[vz,fP.1,fP.2];exact z2
  have b6:∀t,dN a3 t=if t=33 then .tuple #[x.key,x.val] else dN a2 t:=fun t=>by rw[vz];exact mO (by rw[z2.1];omega)
  rw[<-vz];refine mX g4 (w':=dR) (Cc (vs:=#[x.key,x.val]) (v:=x.key) iF (by rw[ou,b6,if_pos rfl]) rfl) ?_;rw[d4];obtain ⟨a4,vA⟩:∃a4,a4=a3.put (are 34) x.key:=⟨_,rfl⟩
  have z4:a4.tmps.size=B.N/\a4.defers=B.ds:=by rw[vA,fP.1,fP.2];exact z3
  have cx:∀t,dN a4 t=if t=34 then x.key else dN a3 t:=fun t=>by rw[vA];exact mO (by rw[z3.1];omega)
  rw[<-vA];refine mX g5 (w':=dR) (Cc (vs:=#[x.key,x.val]) (v:=x.val) y9 (by rw[ou,cx,if_neg (by omega),b6,if_pos rfl]) rfl) ?_;rw[d5];obtain ⟨a5,LG⟩:∃a5,a5=a4.put (are 35) x.val:=⟨_,rfl⟩
  have z5:a5.tmps.size=B.N/\a5.defers=B.ds:=by rw[LG,fP.1,fP.2];exact z4
  have cG:∀t,dN a5 t=if t=35 then x.val else dN a4 t:=fun t=>by rw[LG];exact mO (by rw[z4.1];omega)
  rw[<-LG];refine mX g6 (w':=dR) (v:=x.key) (by rw[Ww VD,ou,cG,if_neg (by omega),cx,if_pos rfl]) ?_;rw[d6];obtain ⟨rH,LH⟩:∃rH,rH=a5.put (are 9) x.key:=⟨_,rfl⟩
  have aa3:rH.tmps.size=B.N/\rH.defers=B.ds:=by rw[LH,fP.1,fP.2];exact z5
  have c5:∀t,dN rH t=if t=9 then x.key else dN a5 t:=fun t=>by rw[LH];exact mO (by rw[z5.1];omega)
  rw[<-LH];refine mX g7 (w':=dR) (v:=x.val) (by rw[Ww VE,ou,c5,if_neg (by omega),cG,if_pos rfl]) ?_;rw[d7];obtain ⟨pD,LI⟩:∃pD,pD=rH.put (are 10) x.val:=⟨_,rfl⟩
  have aa4:pD.tmps.size=B.N/\pD.defers=B.ds:=by rw[LI,fP.1,fP.2];exact aa3
  have c6:∀t,dN pD t=if t=10 then x.val else dN rH t:=fun t=>by rw[LI];exact mO (by rw[aa3.1];omega)
  rw[<-LI];refine wpList_nil ?_;show (Code.region i10 hd arj).wp P _ pD dR
  let fr:Nat->arh:=fun t=>if t=6 then v6 else if t=9 then B.V.o6 hA else if t=10 then B.V.nM xG else if t=30 then .pointer (are ⟨B.bJ,0,ari⟩) else if t=32 then .bool arf else
   if jb t=arf then (if fh.isEmpty=arf/\36<=t then B.EU t else any) else B.EU t
  have bM:iM B.ds jq B.N fr pD:=by
   refine ⟨fun t=> ?_,aa4.2,aa4.1⟩;show bU jq (fr t) (dN pD t);simp only[fr,c6,c5,cG,cx,b6,bE,bh];by_cases dn:t=6
   ·subst dn;simpa using h.v6
   by_cases n0:t=9
   ·subst n0;simp only[jD];exact zg (B.V.TV hA)
   by_cases Ba:t=10
   ·subst Ba;simp only[yR];exact zg (B.V.lY xG)
   by_cases oW:t=30
   ·subst oW;simp only[h.v30];exact ⟨⟨B.r,0,0,0⟩,rfl,UC,rfl⟩
   by_cases iR:t=32
   ·subst iR;exact rfl
   rw[if_neg dn,if_neg n0,if_neg Ba,if_neg oW,if_neg iR,if_neg Ba,if_neg n0];by_cases hw:jb t=arf
   ·rw[if_pos hw];by_cases E4:t=35
    ·subst E4;rw[if_neg (by omega),if_pos rfl];exact pf (by rw[yR];exact B.V.c3 xG)
    by_cases E3:t=34
    ·subst E3;rw[if_neg (by omega),if_neg (by omega),if_pos rfl];exact pf (by rw[jD];exact B.V.wm hA)
    by_cases E2:t=33
    ·subst E2;rw[if_neg (by omega),if_neg (by omega),if_neg (by omega),if_pos rfl];exact pf (fun b ab=>by cases ab)
    by_cases pJ:t=31
    ·subst pJ;rw[if_neg (by omega)];simp only[if_neg E4,if_neg E3,if_neg E2,if_neg iR,if_pos rfl];exact pf (fun b ab=>by cases ab)
    by_cases pI:t=29
    ·subst pI;rw[if_neg (by omega)];simp only[if_neg E4,if_neg E3,if_neg E2,if_neg iR,if_neg pJ];exact pf h.aaC
    have E5:36<=t:=by simp only[jb,asi,arq,atr,atI] at hw;omega
    have ai:BY t=arf:=by simp only[jb,BY,asi,arq,atr,atI] at hw⊢;omega
    rw[if_neg E4,if_neg E3,if_neg E2,if_neg iR,if_neg pJ];by_cases aF:fh=[]
    ·rw[if_pos ⟨by rw[aF];rfl,E5⟩];exact (h.on t ai).1 aF
    ·rw[if_neg (fun ax=>aF (by simpa using ax.1))];exact pf ((h.on t ai).2 aF)
   ·have iU:jb t=arj:=by simpa using hw
    have bL:t≠35/\t≠34/\t≠33/\t≠31:=by refine ⟨?_, ?_, ?_, ?_⟩<;>(rintro rfl;exact absurd iU (by decide))
    rw[if_neg hw,if_neg bL.1,if_neg bL.2.1,if_neg bL.2.2.1,if_neg iR,if_neg bL.2.2.2];exact h.off t iU
  have Fv:bx.length=fh.length:=h.rel.length;have lx:((fh++[x]).map (·.born)).Nodup:=by
   rw[as9,List.nodup_append];refine ⟨h.gX,by simp,fun p an q aF=> ?_⟩;simp only[asc,List.map_nil,ase] at aF;subst aF;intro he;subst he;have:(fh.map (·.born)).toArray.contains x.born=arf:=by simpa using an
   rw[this] at pS;cases pS
  have jn:∀y∈fh++[x],y∈B.cs.toList:=fun y ah=>by
   rcases arO.1 ah with ah|ah
   ·exact h.mem y ah
   ·rw[ase.1 ah];exact MO
  have aO:(fh++[x]).length<=B.cs.size:=by
   have:=Xj (m:=B.cs.toList.map (·.born)) lx fun p an=>by obtain ⟨y,ah,rfl⟩:=arC.1 an;exact arC.2 ⟨y,jn y ah,rfl⟩
   simpa using this
  have hlen:(B.xs++bx.map fun p=>B.V.app p.1 p.2).length<mq:=by have:=dS.len;simp only[arJ,ar9,arU,List.length_nil] at aO⊢;omega
  obtain ⟨abY,cl,ki⟩:=(show cO (X.G.T e) mm B.em mk B.k _ v6 from h.y0.obj 0 _ v6 rfl rfl).a7.len;have LC:ef X mm [v6] [(6, .c (.own 0)),(9,B.V.DE hA),(10,B.V.sv xG)] fr:=by
   intro d;simp only[dQ];split
   ·rename_i aw;have:=arB aw;subst this;exact ⟨rfl,by rw[show fr 6=v6 from rfl,ki];exact ⟨rfl,rfl⟩⟩
   ·split
    ·rename_i aw;have:=arB aw;subst this;exact B.V.hk _ _ _
    ·split
     ·rename_i aw;have:=arB aw;subst this;exact B.V.aa _ _ _
     ·trivial
  obtain ⟨n,fr',m',vX,l4⟩:=zy bI h.y0 LC (ab hA xG _ wf hlen);obtain ⟨vw,Bc⟩:=zc hz n;obtain ⟨LF, -, -⟩:=Hd vw hd.toList fr fr' mk m' (fun o ag=>(Nh o ag).1) vX h.QT (bM.low Fa.rel);refine wp_region_list (Gn vw Bc (fun o ag=>(Nh o ag).2) hd.toList fr fr' mk m' jq pD dR Nh vX Fa.rel h.QT bM fun a' w' bw an jl=> ?_);obtain ⟨z',vs',E',bz,hx,pU,k0,yn,yp,fA⟩:=l4;obtain ⟨vP,j,Ad,acG,acX⟩:=aje fA;have dn:=yp 6;rw[acG] at dn;have eU:∀b q,jq b=are q->bw b=are q:=fun b q ab=>by rw[an.ext b (Fa.rel.lt b q ab).1];exact ab
  have Uh:=Fa.trans an;have ic:∀u,vs'[0]? =are u->hp u:=fun u hu=>by have:=k0 0 v6 rfl;rw[this] at hu;cases hu;rw[ki];exact Oz
  have Bm:∀t,t=29\/t=31\/t=33\/t=34\/t=35->fr t=any:=fun t ak=>by rcases ak with rfl|rfl|rfl|rfl|rfl<;>simp[fr,jb]
  have keep:∀t,(tx hd).contains t=arj->fr' t=fr t:=fun t ak=>Gm _ _ _ _ _ (OQ ak) vX;have Uz:w'.heap[B.r]? =are (.mapIter (are B.jB) B.gE ((fh.map (·.born)).toArray.push x.born) B.gE):=by rw[an.dA.block B.r (by rw[cI];exact My) fun b q ab ag=>h.A0 b q ab fun ax=>by rw[ax,tQ] at ag;cases ag];exact gu
  have aey:(fh.map (·.born)).toArray.push x.born=((fh++[x]).map (·.born)).toArray:=by simp
  have ad8:w'.heap[B.jB]? =are (.map B.cs B.gE):=by rw[Uh.dA.block B.jB dS.J0 dS.free];exact dS.jB
  refine yx a' w' (fh++[x]) (bx++[(hA,xG)]) (fr' 6) m' bw z' Ad ⟨Uh,LF, ?_,h.aa9.trans pU,h.rel.snoc ⟨jD,yR⟩,an.apart (by rw[cI];exact My) h.A0 tQ,jn,lx,jl.defers,jl.size,jl.val 6, ?_, ?_,fun t ak=> ?_,fun t ak=>⟨fun aF=>absurd aF (by simp),fun _=> ?_⟩⟩ ⟨B.gE,by rw[<-aey];exact Uz,ars _⟩ (by simp) ?_
  ·have:=akt yn acX dn.1;rw[as9,<-as7];exact this
  ·have pI:=jl.val 29;rw[keep 29 (vZ 29 (by simp)),Bm 29 (by simp)] at pI;exact pI
  ·have oW:=jl.val 30;rw[keep 30 (vZ 30 (by simp))] at oW;obtain ⟨q,_,aF,ad⟩:=(show bU bw (.pointer (are ⟨B.bJ,0,ari⟩)) (dN a' 30) from oW).ptr;rw[show bw B.bJ=_ from eU _ _ UC] at aF;cases aF;exact ad
  ·have h1:=jl.val t;rw[keep t (vZ t (.inl ak))] at h1;have hw:¬jb t=arf:=by rw[ak];simp
   have bL:t≠6/\t≠9/\t≠10/\t≠30/\t≠32:=by refine ⟨?_, ?_, ?_, ?_, ?_⟩<;>(rintro rfl;exact absurd ak (by decide))
   simp only[fr,if_neg bL.1,if_neg bL.2.1,if_neg bL.2.2.1,if_neg bL.2.2.2.1,if_neg bL.2.2.2.2,if_neg hw] at h1;exact h1
  ·have h1:=jl.val t;by_cases E5:36<=t/\t<=41
   ·exact Df h1 (Za yn ic (vP t E5.1 E5.2) (yp t))
   ·have kE:t=31\/t=33\/t=34\/t=35\/t=9\/t=10:=by
     simp only[BY,asi,arq,atr,atI] at ak;omega
    rw[keep t (vZ t (by omega))] at h1;rcases kE with rfl|rfl|rfl|rfl|rfl|rfl
    ·rw[Bm 31 (by simp)] at h1;exact h1
    ·rw[Bm 33 (by simp)] at h1;exact h1
    ·rw[Bm 34 (by simp)] at h1;exact h1
    ·rw[Bm 35 (by simp)] at h1;exact h1
    ·exact Df h1 (B.V.wm hA)
    ·exact Df h1 (B.V.c3 xG)
  ·simp only[FT,ad8,Uz,qH,hit];exact left_shrinks _ _ _ U
open Classical in
def pg (em:Mem) (z:Nat->aV) (k:Option Nat) (b:Nat):Prop:=(b<em.next/\(k≠are b\/z b≠ .dead))\/(z b).fw
open Classical in
def tu (m em:Mem) (z:Nat->aV) (k:Option Nat) (cells:List arh) (t:arn):Mem where
 next:=m.next+1
 ay:=fun b=>if b<m.next then (if pg em z k b then m.ay b else .dead) else if b=m.next then .own cells t else .dead
open Classical in
theorem OU {m em:Mem} {z:Nat->aV} {k:Option Nat} {cells:List arh} {t:arn} {b:Nat} (ab:b<m.next) (hk:pg em z k b):(tu m em z k cells t).ay b=m.ay b:=by
 show (if b<m.next then (if pg em z k b then m.ay b else .dead) else if b=m.next then .own cells t else .dead)=m.ay b;rw[if_pos ab,if_pos hk]
open Classical in
theorem ai4 {m em:Mem} {z:Nat->aV} {k:Option Nat} {cells:List arh} {t:arn} {b:Nat} (ab:b<m.next) (hk:¬pg em z k b):(tu m em z k cells t).ay b= .dead:=by
 show (if b<m.next then (if pg em z k b then m.ay b else .dead) else if b=m.next then .own cells t else .dead)= .dead;rw[if_pos ab,if_neg hk]
open Classical in
theorem OA {m em:Mem} {z:Nat->aV} {k:Option Nat} {cells:List arh} {t:arn}:(tu m em z k cells t).ay m.next= .own cells t:=by
 show (if m.next<m.next then (if pg em z k m.next then m.ay m.next else .dead) else if m.next=m.next then .own cells t else .dead)=_;rw[if_neg (atC _),if_pos rfl]
open Classical in
theorem OT {m em:Mem} {z:Nat->aV} {k:Option Nat} {cells:List arh} {t:arn} {b:Nat} (ab:m.next+1<=b):(tu m em z k cells t).ay b= .dead:=by
 show (if b<m.next then (if pg em z k b then m.ay b else .dead) else if b=m.next then .own cells t else .dead)= .dead;rw[if_neg (by omega),if_neg (by omega)]
open Classical in
theorem wB {m em:Mem} {z:Nat->aV} {k:Option Nat} {cells:List arh} {t:arn} {b:Nat} (ab:b<m.next):(tu m em z k cells t).ay b=m.ay b/\pg em z k b\/(tu m em z k cells t).ay b= .dead:=by
 by_cases hk:pg em z k b
 ·exact .inl ⟨OU ab hk,hk⟩
 ·exact .inr (ai4 ab hk)
def mU (z:Nat->aV) (bJ:Nat):Nat->aV:=fun b=>if b=bJ then .dead else z b
theorem amM {al:Type} {T:cb al} {dc:al->List arh} (kj:∀z x ds,T.rd z x ds->ds=dc x) (gZ:∀x,(dc x).all b7=arf) (dt:0<T.aW) (nk:P.cellsOf T.tid=T.aW) {j:bb} {m:Mem} {w:World} (ba:Rel P j m w) (cn:WF m) {em:Mem} {z:Nat->aV} {k:Option Nat} (dd:cu z em m k) {bJ:Nat} (Fy:bJ<m.next) {abv:List arh} {aoH:arn} (gi:m.ay bJ= .map abv aoH) (afj:(z bJ).fw)
  {FK:bb} {B0:Mem} {wf:World} {Jh:Nat->aV} (b0:Post P (j.up m.next ⟨w.heap.size,0,0,0⟩) ((m.put bJ .dead).push .dead) w FK B0 wf) (U5:cu Jh (em.put bJ .dead) B0 k) (pU:cz em.next (mU z bJ) Jh)
  {dI:List al} {v aS:arh} (hO:cO T Jh (em.put bJ .dead) B0 k dI v) (aa:bU FK v aS) (bL:0<dI.length):
  ∃bw,Post P j m w bw (tu m em z k (dI.flatMap dc) T.tid) wf/\bU bw (.slice (are ⟨m.next,0,ari⟩) dI.length bT) aS/\∀b,b<m.next->bw b=j b:=by
 obtain ⟨tS,fB⟩:=hO;rcases tS with ⟨_,rfl⟩|⟨hl,off,L,c,rfl,g1,g2,g3,g4,g5,g6⟩
 ·simp at bL
 have Un:em.next<=hl:=fB hl rfl;obtain ⟨q,_,aF,ad⟩:=aa.s8 (by rcases g5 with g5|⟨_,g5,_⟩<;>omega);have aF:FK hl=are q:=aF;have US:=b0.rel.obj hl q aF;rw[g1] at US;obtain ⟨arr,a6,ek,eV,si,Vw,Vx,Vy⟩:=US;have kD:∀x,x∈dI->(dc x).length=T.aW:=fun x U=>by obtain ⟨i,af⟩:=List.getElem?_of_mem U;obtain ⟨cs,h1,_⟩:=g6 i x af;rw[<-kj _ _ _ h1];exact T.len _ _ _ h1
 have hlen:(dI.flatMap dc).length=dI.length*T.aW:=CD kD;have iB:q.es=T.aW:=si.symm.trans nk;obtain ⟨fk,fl,dB,gT,aqB⟩:∃fk,aS= .slice (are ⟨q.ay,q.c0+off,ari⟩) dI.length fk/\dI.length<=fk/\fk<bT/\off+fk*q.es<=q.cap*q.es:=by
  rcases ad with ⟨h1,J⟩|⟨h1,J,aj,aJ,bk,dn,gz⟩|⟨_,az,_⟩|⟨_,az,_⟩
  ·rcases g5 with g5|⟨_,g5,aqc⟩
   ·rw[g5] at h1;exact absurd h1 (atC _)
   ·exact ⟨c,J,g5,h1,by rw[iB] at Vx⊢;omega⟩
  ·refine ⟨q.cap - off / q.es,gz,aj,Nat.lt_of_le_of_lt (Nat.sub_le _ _) aJ, ?_⟩;have bk:off%q.es=0:=bk;have dn:off / q.es<=q.cap:=dn;have n9:off=off / q.es*q.es:=by
    have:=Nat.div_add_mod off q.es;rw[bk,ar3,Nat.mul_comm] at this;exact this.symm
   rw[Nat.sub_mul,<-n9];have:=asC q.es dn;omega
  ·omega
  ·omega
 have mH:pg em z k bJ:= .inr afj;have Ma:∀b,b<m.next->FK b=j b:=fun b ab=>by rw[b0.ext b (by show b<m.next+1;omega)];show (if b=m.next then are _ else j b)=j b;rw[if_neg (by omega)]
 have Fw:∀b,b<m.next->b≠bJ->((m.put bJ .dead).push .dead).ay b=m.ay b:=fun b ab ao=>by show (if b=m.next then aV.dead else if b=bJ then .dead else m.ay b)=m.ay b;rw[if_neg (by omega),if_neg ao]
 have r5:((m.put bJ .dead).push .dead).ay bJ= .dead:=by show (if bJ=m.next then aV.dead else if bJ=bJ then .dead else m.ay bJ)= .dead;rw[if_neg (by omega),if_pos rfl]
 have UY:((m.put bJ .dead).push .dead).ay m.next= .dead:=by show (if m.next=m.next then aV.dead else _)= .dead;rw[if_pos rfl]
 have adP:j m.next=ari:=ba.B3;have eU:∀(E:iL) b,b<m.next->j.up m.next E b=j b:=fun E b ab=>by show (if b=m.next then are E else j b)=j b;rw[if_neg (by omega)]
 have yP:∀(E:iL),j.up m.next E m.next=are E:=fun E=>by show (if m.next=m.next then are E else j m.next)=are E;rw[if_pos rfl]
 have vW:∀b,pg em z k b->b<m.next->b≠bJ->B0.ay b=m.ay b:=by
  intro b hk ab ao;have fE:mU z bJ b=z b:=by simp[mU,ao]
  have Uw:Jh b=z b->z b≠ .dead->B0.ay b=m.ay b:=fun h1 J=>by rw[(U5.a6 b (by rw[h1];exact J)).1,h1,<-(dd.a6 b J).1]
  rcases hk with ⟨h1,J⟩|h1
  ·rcases J with J|J
   ·rw[U5.kept b h1 J,dd.kept b h1 J];show (if b=bJ then aV.dead else em.ay b)=em.ay b;rw[if_neg ao]
   ·exact Uw ((pU.low b h1).trans fE) J
  ·exact Uw ((pU.le b (by rw[fE];exact h1)).trans fE) h1.ne
 have hblk:∀c,c<w.heap.size->(∀b e,j b=are e->(m.ay b).gj=arf->b≠bJ->e.ay≠c)->wf.heap[c]? =w.heap[c]? :=by
  intro c ad jX;refine b0.dA.block c ad fun b e ab ag=> ?_;by_cases ei:b=m.next
  ·rw[ei,UY] at ag;cases ag
  ·by_cases kA:b=bJ
   ·rw[kA,r5] at ag;cases ag
   ·have ch:j b=are e:=by
     rw[<-ab];show j b=(if b=m.next then _ else j b);rw[if_neg ei]
    rw[Fw b (ba.lt b e ch).1 kA] at ag;exact jX b e ch ag kA
 have Mm:(m.ay bJ).gj=arf:=by rw[gi];rfl
 have ad9:(m.ay bJ).live=arf:=by rw[gi];rfl
 have yM:∀e,j bJ=are e->wf.heap[e.ay]? =w.heap[e.ay]? :=fun e he=>hblk _ (ba.lt bJ e he).2 fun b bp ab ag kA ax=>kA (ba.inj b bJ bp e ab he ag ad9 ax);have dh:∀b e,j b=are e->pg em z k b->(m.ay b).live=arf->e.ay≠q.ay:=by
  intro b e ab hk ai ax;have aO:=(ba.lt b e ab).1;by_cases kA:b=bJ
  ·subst kA;have h1:=ba.obj b e ab;rw[gi] at h1;obtain ⟨_,_,cs,ap3,_,J,_⟩:=h1;rw[<-yM e ab,ax,ek] at J;cases J
  ·have:=b0.rel.inj hl b q e aF ((Ma b aO).trans ab) (by rw[g1];rfl) (by rw[vW b hk aO kA];exact ai) ax.symm;subst this;rcases hk with ⟨h1,_⟩|h1
   ·omega
   ·have fE:mU z bJ hl=z hl:=by simp[mU,kA]
    have:=pU.le hl (by rw[fE];exact h1);rw[g3,fE] at this;rw[<-this] at h1;exact h1
 refine ⟨j.up m.next ⟨q.ay,fk,q.es,q.c0+off⟩, .of ba ⟨?_, ?_, ?_⟩ ⟨b0.dA.os,b0.dA.tape,b0.dA.output,b0.dA.size, ?_⟩ (ar7 _) (fun b ab=>eU _ b ab) ?_ ?_ ?_, ?_,fun b ab=>eU _ b ab⟩
 ·intro b e ab;by_cases ei:b=m.next
  ·subst ei;rw[yP] at ab;cases ab;exact ⟨ash _,(b0.rel.lt hl q aF).2⟩
  ·rw[show j.up m.next _ b=j b from if_neg ei] at ab;have:=ba.lt b e ab;exact ⟨atT this.1,Nat.lt_of_lt_of_le this.2 b0.dA.size⟩
 ·intro b e ab;by_cases ei:b=m.next
  ·subst ei;rw[yP] at ab;cases ab;rw[OA];refine ⟨arr,a6,ek,eV,si, ?_, ?_,fun i v af=> ?_⟩
   ·show q.c0+off+fk*q.es<=arr.size;omega
   ·show (dI.flatMap dc).length<=fk*q.es;rw[hlen,<-iB];exact asC _ dB
   ·obtain ⟨ab7,h1,J⟩:=Vy _ v (NP kj g6 kD i v af);have aK:b7 v=arf:=by
     obtain ⟨x,U,aa⟩:=as0.1 (List.mem_of_getElem? af);exact arz.1 (gZ x) v aa
    have:=zs aK J;subst this;exact ⟨ab7,by show arr[q.c0+off+i]? =_;rw[Nat.add_assoc];exact h1,oo aK⟩
  ·rw[show j.up m.next _ b=j b from if_neg ei] at ab;have aO:=(ba.lt b e ab).1;rcases wB (m:=m) (em:=em) (z:=z) (k:=k) (cells:=dI.flatMap dc) (t:=T.tid) aO with ⟨h1,hk⟩|h1
   ·rw[h1];by_cases kA:b=bJ
    ·subst kA;rw[yM e ab];exact (ba.obj b e ab).mono (bb.xF adP)
    ·have J:=b0.rel.obj b e ((Ma b aO).trans ab);rw[vW b hk aO kA] at J;exact (J.below (cn.low b)).mono fun bV bp ch=>by obtain ⟨aj,aJ⟩:=oy ch;rw[eU _ _ aj,<-Ma _ aj];exact aJ
   ·rw[h1];trivial
 ·intro b bV e bp ab ch ag ai ax;by_cases ei:b=m.next
  ·by_cases kz:bV=m.next
   ·rw[ei,kz]
   ·subst ei;rw[yP] at ab;cases ab;rw[show j.up m.next _ bV=j bV from if_neg kz] at ch;have aO:=(ba.lt bV bp ch).1;rcases wB (m:=m) (em:=em) (z:=z) (k:=k) (cells:=dI.flatMap dc) (t:=T.tid) aO with ⟨h1,hk⟩|h1
    ·rw[h1] at ai;exact absurd ax.symm (dh bV bp ch hk ai)
    ·rw[h1] at ai;cases ai
  ·rw[show j.up m.next _ b=j b from if_neg ei] at ab;have aO:=(ba.lt b e ab).1;rcases wB (m:=m) (em:=em) (z:=z) (k:=k) (cells:=dI.flatMap dc) (t:=T.tid) aO with ⟨h1,hk⟩|h1
   ·rw[h1] at ag;by_cases kz:bV=m.next
    ·subst kz;rw[yP] at ch;cases ch;exact absurd ax (dh b e ab hk (by cases U:m.ay b<;>rw[U] at ag<;>first|rfl|cases ag))
    ·rw[show j.up m.next _ bV=j bV from if_neg kz] at ch;have yH:=(ba.lt bV bp ch).1;rcases wB (m:=m) (em:=em) (z:=z) (k:=k) (cells:=dI.flatMap dc) (t:=T.tid) yH with ⟨jk,hX⟩|jk
     ·rw[jk] at ai;exact ba.inj b bV e bp ab ch ag ai ax
     ·rw[jk] at ai;cases ai
   ·rw[h1] at ag;cases ag
 ·intro c ad jX;exact hblk c ad fun b e ab ag _=>jX b e ab ag
 ·intro b e ab eT;have ei:b=m.next:=by
   by_cases ei:b=m.next
   ·exact ei
   ·rw[show j.up m.next _ b=j b from if_neg ei] at ab;have:=(ba.lt b e ab).1;omega
  subst ei;rw[yP] at ab;cases ab;show w.heap.size<=q.ay\/∃cM cH,j cM=are cH/\(m.ay cM).gj=arf/\cH.ay=q.ay;have jZ:∀cM cH,j.up m.next ⟨w.heap.size,0,0,0⟩ cM=are cH->(((m.put bJ .dead).push .dead).ay cM).gj=arf->j cM=are cH/\(m.ay cM).gj=arf:=by
   intro cM cH iz ag;by_cases h1:cM=m.next
   ·rw[h1,UY] at ag;cases ag
   ·rw[show j.up m.next _ cM=j cM from if_neg h1] at iz;by_cases J:cM=bJ
    ·rw[J,r5] at ag;cases ag
    ·rw[Fw cM (ba.lt cM cH iz).1 J] at ag;exact ⟨iz,ag⟩
  rcases ar' hl (m.next+1) with aO|L5
  ·have:=b0.cK hl aO (by rw[g1];rfl);have BH:=b0.ext hl aO;rw[aF] at BH;obtain ⟨h1,J⟩:=jZ hl q BH.symm this;exact .inr ⟨hl,q,h1,J,rfl⟩
  ·rcases b0.fresh hl q aF L5 with h1|⟨cM,cH,h1,J,aj⟩
   ·exact .inl h1
   ·obtain ⟨aJ,bk⟩:=jZ cM cH h1 J;exact .inr ⟨cM,cH,aJ,bk,aj⟩
 ·intro b ab ag;rcases wB (m:=m) (em:=em) (z:=z) (k:=k) (cells:=dI.flatMap dc) (t:=T.tid) ab with ⟨h1,hk⟩|h1
  ·rw[h1] at ag;exact ag
  ·rw[h1] at ag;cases ag
 ·intro b ab ag;rcases wB (m:=m) (em:=em) (z:=z) (k:=k) (cells:=dI.flatMap dc) (t:=T.tid) ab with ⟨h1,hk⟩|h1
  ·rw[h1] at ag;exact ag
  ·rw[h1] at ag;cases ag
 ·refine ⟨⟨q.ay,fk,q.es,q.c0+off⟩,rfl,yP _, .inr (.inl ⟨rfl,by show 0<q.es;omega, ?_,gT, ?_, ?_, ?_⟩)⟩
  ·show dI.length<=fk - 0 / q.es;rw[Nat.zero_div];exact dB
  ·show 0%q.es=0;exact Nat.zero_mod _
  ·show 0 / q.es<=fk;rw[Nat.zero_div];exact ass _
  ·show aS= .slice (are ⟨q.ay,q.c0+off+0,ari⟩) dI.length (fk - 0 / q.es);rw[Nat.zero_div,ar3,Nat.sub_zero];exact fl
end
end
end Go.aQ
end
section
namespace Go.aQ
noncomputable section
theorem VZ {N:Nat} {c:Code} (h:e3 N c=arf):∀d,(jK c).contains d=arf->d<N:=by
 induction c with
 |region i ops ap7=>intro d aw;have h1:=(Cu h).1;simp only[jK,tx,auv,List.mem_filterMap] at aw;obtain ⟨o,ag,aw⟩:=aw;exact (h1 o ag).2 d aw
 |seq a b wc we=>
  intro d aw;simp only[e3,arq] at h;simp only[jK,auv,arO] at aw;rcases aw with aw|aw
  ·exact wc h.1 d (by simpa using aw)
  ·exact we h.2 d (by simpa using aw)
 |cond x a b wc we=>
  intro d aw;simp only[e3,arq] at h;simp only[jK,auv,arO] at aw;rcases aw with aw|aw
  ·exact wc h.1.2 d (by simpa using aw)
  ·exact we h.2 d (by simpa using aw)
 |block i a aU=>exact aU h
 |scope a aU=>exact aU h
 |loop a aU=>exact aU h
 |_=>intro d aw;simp[jK] at aw
theorem Wi (w:World) (o:Obj):(w.alloc o).heap.size=w.heap.size+1:=by show (w.heap.push o).size=_;exact Array.size_push _
theorem Post.iter {P:arl} {j:bb} {m:Mem} {w:World} (ba:Rel P j m w) (o:Obj):Post P j m w j m (w.alloc o):=by
 have h:=auO w o;have bu:=Wi w o;exact .of ba ⟨fun b e ab=>⟨(ba.lt b e ab).1,by have:=(ba.lt b e ab).2;omega⟩,fun b e ab=>by rw[h.2 _ (ba.lt b e ab).2];exact ba.obj b e ab,ba.inj⟩ ⟨rfl,rfl,rfl,by omega,fun c ad _=>h.2 c ad⟩ (ars _) (fun _ _=>rfl) (fun b e ab eT=>absurd (ba.lt b e ab).1 (by omega)) (fun _ _ h=>h) (fun _ _ h=>h)
def l6 (m:Mem) (bJ:Nat):Mem:=(m.put bJ .dead).push .dead
def oi (j:bb) (m:Mem) (w:World):bb:=j.up m.next ⟨w.heap.size,0,0,0⟩
theorem Hs {m:Mem} {bJ b:Nat} (h1:b≠bJ) (J:b≠m.next):(l6 m bJ).ay b=m.ay b:=by
 show (if b=m.next then aV.dead else if b=bJ then .dead else m.ay b)=m.ay b;rw[if_neg J,if_neg h1]
theorem YK {m:Mem} {bJ:Nat}:(l6 m bJ).ay m.next= .dead:=by
 show (if m.next=m.next then aV.dead else _)= .dead;rw[if_pos rfl]
theorem ZD {m:Mem} {bJ:Nat}:(l6 m bJ).ay bJ= .dead:=by
 show (if bJ=m.next then aV.dead else if bJ=bJ then .dead else m.ay bJ)= .dead;split
 ·rfl
 ·rw[if_pos rfl]
theorem uF {m:Mem} {bJ b:Nat}:(l6 m bJ).ay b= .dead\/((l6 m bJ).ay b=m.ay b/\b≠bJ/\b≠m.next):=by
 by_cases h1:b=bJ
 ·rw[h1];exact .inl ZD
 ·by_cases J:b=m.next
  ·rw[J];exact .inl YK
  ·exact .inr ⟨Hs h1 J,h1,J⟩
theorem w1 {j:bb} {m:Mem} {w:World} {b:Nat} (h:b≠m.next):oi j m w b=j b:=by
 show (if b=m.next then _ else j b)=j b;rw[if_neg h]
theorem YJ {j:bb} {m:Mem} {w:World}:oi j m w m.next=are ⟨w.heap.size,0,0,0⟩:=by
 show (if m.next=m.next then _ else j m.next)=_;rw[if_pos rfl]
theorem On {j:bb} {m:Mem} {w:World} {b:Nat} {e:iL} (h:oi j m w b=are e):(b=m.next/\e=⟨w.heap.size,0,0,0⟩)\/(b≠m.next/\j b=are e):=by
 by_cases ab:b=m.next
 ·subst ab;rw[YJ] at h;cases h;exact .inl ⟨rfl,rfl⟩
 ·rw[w1 ab] at h;exact .inr ⟨ab,h⟩
theorem akH {m:Mem} {bJ:Nat} (h:WF m):WF (l6 m bJ):=by
 refine ⟨fun b ab=> ?_,fun b=> ?_⟩
 ·rcases uF (m:=m) (bJ:=bJ) (b:=b) with h1|⟨h1,_,J⟩
  ·exact h1
  ·have ab:m.next+1<=b:=ab;rw[h1];exact h.dead b (by omega)
 ·rcases uF (m:=m) (bJ:=bJ) (b:=b) with h1|⟨h1,_,J⟩
  ·rw[h1];trivial
  ·rw[h1];exact Gw (ar7 _) (h.low b)
theorem Post.base {P:arl} {j:bb} {m:Mem} {w:World} (ba:Rel P j m w) (bJ:Nat) (o:Obj):Post P (oi j m w) (l6 m bJ) w (oi j m w) (l6 m bJ) (w.alloc o):=by
 have h:=auO w o;have bu:=Wi w o;refine ⟨⟨⟨fun b e ab=> ?_,fun b e ab=> ?_,fun b bV e bp ab ch ag ai he=> ?_⟩,ba.iI.val.keep fun g aM=>h.2 g (ba.iI.val.lt aM),fun b e ab ag=>by
  rcases uF (m:=m) (bJ:=bJ) (b:=b) with h1|⟨h1,J,aj⟩
  ·rw[h1] at ag;cases ag
  ·rw[h1] at ag;rw[w1 aj] at ab;exact ba.iI.sep b e ab ag⟩,⟨rfl,rfl,rfl,by omega,fun c ad _=>h.2 c ad⟩,ars _,fun _ _=>rfl,fun b e ab eT=> ?_,fun _ _ h=>h,fun _ _ h=>h⟩
 ·show b<m.next+1/\_;rcases On ab with ⟨h1,rfl⟩|⟨h1,J⟩
  ·exact ⟨by omega,by show w.heap.size<_;omega⟩
  ·have:=ba.lt b e J;exact ⟨by omega,by omega⟩
 ·rcases uF (m:=m) (bJ:=bJ) (b:=b) with h1|⟨h1,J,aj⟩
  ·rw[h1];trivial
  ·rw[w1 aj] at ab;rw[h1,h.2 _ (ba.lt b e ab).2];exact (ba.obj b e ab).mono (bb.xF ba.B3)
 ·rcases uF (m:=m) (bJ:=bJ) (b:=b) with h1|⟨h1,J,aj⟩
  ·rw[h1] at ag;cases ag
  rcases uF (m:=m) (bJ:=bJ) (b:=bV) with jk|⟨jk,gg,rS⟩
  ·rw[jk] at ai;cases ai
  rw[h1] at ag;rw[jk] at ai;rw[w1 aj] at ab;rw[w1 rS] at ch;exact ba.inj b bV e bp ab ch ag ai he
 ·have eT:m.next+1<=b:=eT;rcases On ab with ⟨h1,_⟩|⟨h1,J⟩
  ·omega
  ·have:=(ba.lt b e J).1;omega
section
variable {P:arl} {D:Nat->Type} {X:dk P D}
def Lo (e d:Nat) (E:List (Nat×aN D)) (O:List (aG D)):Option (List (D e)):=
 match dQ E d with
 | .c (.own j)=>(match O[j]? with|some (.aE bp xs arj _)=>if h:bp=e then are (h▸xs) else ari|_=>ari)
 |_=>ari
theorem ajf {e d:Nat} {E:List (Nat×aN D)} {O:List (aG D)} {a8:List (D e)} (h:Lo e d E O=are a8):∃j wf,dQ E d= .c (.own j)/\O[j]? =are (.aE e a8 arj wf):=by
 unfold Lo at h;split at h
 ·rename_i j ap;split at h
  ·rename_i bp xs wf ag;split at h
   ·rename_i he;subst he;cases h;exact ⟨j,wf,ap,ag⟩
   ·cases h
  ·cases h
 ·cases h
def MT:aN D->Bool
 | .c (.int .i64 n)=>decide (n=0)
 |_=>arj
theorem akG {s:aN D} (h:MT s=arf):s= .c (.int .i64 0):=by
 unfold MT at h;split at h
 ·rw[of_decide_eq_true h]
 ·cases h
def getD (e:Nat) (ex:dF) (E:List (Nat×aN D)) (O:List (aG D)):Option (List (D e)):=
 if ex= .ret then if (MT (dQ E 5)&&[42,43,44].all fun t=>y1 O (dQ E t))=arf then Lo e 4 E O else ari else ari
theorem ajd {e:Nat} {ex:dF} {E:List (Nat×aN D)} {O:List (aG D)} {a8:List (D e)} (h:getD e ex E O=are a8):ex= .ret/\(∀t,42<=t->t<=44->y1 O (dQ E t)=arf)/\dQ E 5= .c (.int .i64 0)/\∃j wf,dQ E 4= .c (.own j)/\O[j]? =are (.aE e a8 arj wf):=by
 unfold getD at h;obtain ⟨az,h⟩:=eA h;obtain ⟨h1,h⟩:=eA h;rw[arq] at h1;refine ⟨az,fun t ar ab=> ?_,akG h1.1,ajf h⟩;refine arz.1 h1.2 t ?_;simp only[arA,asU,or_false];omega
def vr (fr:Nat->arh) (b n:Nat):Nat->arh:=fun t=>if t=4 then .slice (are ⟨b,0,ari⟩) n bT else if t=5 then .int .i64 0 else if t=32 then .bool arj else if jb t=arf\/(42<=t/\t<=44) then any else fr t
def oV (fr:Nat->arh) (v6:arh):Nat->arh:=fun t=>if t=6 then v6 else if t=32 then .bool arj else if jb t=arf then any else fr t
theorem agb {l k:List MapEntry} (ai:(l.map (·.born)).Nodup) (hk:(k.map (·.born)).Nodup) (h1:∀x∈l,x∈k) (J:∀x∈k,x∈l):l.Perm k:=by
 have gX:∀{l:List MapEntry},(l.map (·.born)).Nodup->l.Nodup:=fun h=>List.Pairwise.of_map _ (fun a b eD he=>eD (by rw[he])) h;exact (List.perm_ext_iff_of_nodup (gX ai) (gX hk)).2 fun x=>⟨h1 x,J x⟩
theorem a1.perm {al bs:Type} {R:al->bs->Prop} {a8 dI:List bs} (an:a8.Perm dI):∀{xs:List al},a1 R xs a8->∃u5,xs.Perm u5/\a1 R u5 dI:=by
 induction an with
 |nil=>intro xs h;exact ⟨xs, .refl _,h⟩
 |cons b _ aU=>
  intro xs h;cases xs with
  |nil=>exact h.elim
  |cons a xs=>obtain ⟨u5,h1,J⟩:=aU h.2;exact ⟨a::u5,h1.cons a,h.1,J⟩
 |swap b bV _=>
  intro xs h;cases xs with
  |nil=>exact h.elim
  |cons a xs=>cases xs with
   |nil=>exact h.2.elim
   |cons a' xs=>exact ⟨a'::a::xs, .swap _ _ _,h.2.1,h.1,h.2.2⟩
 |trans _ _ afm afn=>intro xs h;obtain ⟨aZ,h1,J⟩:=afm h;obtain ⟨dy,aj,aJ⟩:=afn J;exact ⟨dy,h1.trans aj,aJ⟩
theorem a1.left {al bs:Type} {R:al->bs->Prop} (hu:∀a a' b,R a b->R a' b->a=a'):∀{xs u5:List al} {a8:List bs},a1 R xs a8->a1 R u5 a8->xs=u5
 |[],[],_,_,_=>rfl
 |[],_::_,[],_,h=>h.elim
 |[],_::_,_::_,h,_=>h.elim
 |_::_,[],[],h,_=>h.elim
 |_::_,[],_::_,_,h=>h.elim
 |_::_,_::_,[],h,_=>h.elim
 |_::_,_::_,_::_,h,bq=>by rw[hu _ _ _ h.1 bq.1,a1.left hu h.2 bq.2]
end
end
end Go.aQ
end
section
namespace Go.aQ
noncomputable section
section
variable {P:arl} {D:Nat->Type} {X:dk P D}
structure RK (X:dk P D) (e kt vt t i7 iO i8 kQ i9 i10:Nat) (jw jf jg hd:Array Oper) (fS:Code) (V:vi P X e kt vt) (im:List (D e)->Option (List (D e))) (dc:D e->List arh):Prop where
 qM:SU t jw jf jg
 pM:P.underlying t=are (.map kt vt)
 fA:ku P kt (X.G.bX kt)
 Bd:lU P vt (X.G.bX vt)
 yB:∀a,cN (cB P kt) (X.G.bX kt a)=V.o6 a
 FE:∀a,cN (cB P vt) (X.G.bX vt a)=V.nM a
 kZ:∀a,hS (V.nM a)=arf
 Va:∀a b,V.nM a=V.nM b->a=b
 vZ:∀t,jb t=arj\/t=29\/t=30\/t=31\/t=32\/t=33\/t=34\/t=35\/t=9\/t=10->(tx hd).contains t=arj
 ab:∀a b a8 wf,a8.length<mq->ps X hd.toList hd.toList [(6, .c (.own 0)),(9,V.DE a),(10,V.sv b)] [.aE e a8 arj wf] (A4 e)=are (a8++[V.app a b])
 MK:∀t,(jK fS).contains t=arf->t=4\/t=5\/42<=t/\t<=44
 BQ:∀t,t=4\/t=5\/t=32\/jb t=arf\/42<=t/\t<=44->(jK (s6 i7 jw iO i8 jf 32 kQ i9 jg i10 hd fS)).contains t=arf
 fg:∀a8 wf,hK X [] calm arf [] fS [(6, .c (.own 0))] [.aE e a8 arj wf] (getD e)=im a8
 kj:∀z x ds,(X.G.T e).rd z x ds->ds=dc x
 dm:∀z x,(X.G.T e).rd z x (dc x)
 gZ:∀x,(dc x).all b7=arf
 dt:0<(X.G.T e).aW
 nk:P.cellsOf (X.G.T e).tid=(X.G.T e).aW
theorem Xx {e kt vt t i7 iO i8 kQ i9 i10:Nat} {jw jf jg hd:Array Oper} {fS:Code} {V:vi P X e kt vt} {im:List (D e)->Option (List (D e))} {dc:D e->List arh} (K:RK X e kt vt t i7 iO i8 kQ i9 i10 jw jf jg hd fS V im dc) {j:bb}:
  ∀{es:List (D kt×D vt)} {l:List MapEntry},a1 (ru P j kt vt) ((X.G.M t kt vt).nh es) l->a1 (fun (p:D kt×D vt) (x:MapEntry)=>x.key=V.o6 p.1/\x.val=V.nM p.2) es l
 |[],[],_=>trivial
 |[],_::_,h=>h.elim
 |_::_,[],h=>h.elim
 |p::es,x::l,h=>by
  refine ⟨⟨?_, ?_⟩,Xx K h.2⟩
  ·rw[<-K.yB];exact h.1.1
  ·have aj:=h.1.2.2;have aJ:cN (cB P vt) (X.G.bX vt p.2)=V.nM p.2:=K.FE p.2;have aj:eg j (cN (cB P vt) (X.G.bX vt p.2)) x.val:=aj;rw[aJ] at aj;exact Oi (K.kZ p.2) aj
theorem a1.mem {al bs:Type} {R:al->bs->Prop}:∀{xs:List al} {a8:List bs},a1 R xs a8->∀y∈a8,∃x,R x y
 |[],[],_,y,ah=>by cases ah
 |_::_,[],h,_,_=>h.elim
 |[],_::_,h,_,_=>h.elim
 |a::xs,b::a8,h,y,ah=>by
  rcases arA.1 ah with rfl|ah
  ·exact ⟨a,h.1⟩
  ·exact a1.mem h.2 y ah
theorem anE {z:Nat->aV} {em m:Mem} {k:Option Nat} (h:cu z em m k) {bJ:Nat} (Fy:bJ<m.next):cu (mU z bJ) (em.put bJ .dead) (l6 m bJ) k:=by
 have av:m.next<(l6 m bJ).next:=ash _;refine ⟨fun b ab=> ?_,fun b ab=> ?_,fun b ab=> ?_,arR h.next (ar7 _),fun b ab hk=> ?_⟩
 ·have ao:b≠bJ:=fun ax=>ab (by rw[ax];simp[mU]);have aD:mU z bJ b=z b:=by simp[mU,ao]
  rw[aD] at ab⊢;have:=h.a6 b ab;exact ⟨by rw[Hs ao (by omega)];exact this.1,by omega⟩
 ·rcases uF (m:=m) (bJ:=bJ) (b:=b) with h1|⟨h1,_,J⟩
  ·exact h1
  ·have ab:m.next+1<=b:=ab;rw[h1];exact h.dead b (by omega)
 ·show (if b=bJ then aV.dead else em.ay b)= .dead;split
  ·rfl
  ·exact h.lX b ab
 ·have ab:b<em.next:=ab;have:=h.next;show _=(if b=bJ then aV.dead else em.ay b);split
  ·rename_i ax;rw[ax];exact ZD
  ·rename_i ax;rw[Hs ax (by omega)];exact h.kept b ab hk
theorem ajT {e kt vt t i7 iO i8 kQ i9 i10:Nat} {jw jf jg hd:Array Oper} {fS:Code} {V:vi P X e kt vt} {im:List (D e)->Option (List (D e))} {dc:D e->List arh} (K:RK X e kt vt t i7 iO i8 kQ i9 i10 jw jf jg hd fS V im dc)
  (bI:fL X) (hz:P.follows .mixedOrders=arf) {xs:List (D e)} {es:List (D kt×D vt)} {dI:List (D e)} (hlen:xs.length+es.length<=mq) (aD:∀bx:List (D kt×D vt),bx.Perm es->im (xs++bx.map fun p=>V.app p.1 p.2)=are dI) (bL:es≠[]) (BT:0<dI.length)
  {em m:Mem} {z:Nat->aV} {k:Option Nat} {v6:arh} {u4:Bool} {fr:Nat->arh} (au:bd X.G [.aE e xs arj u4] z em m k [v6]) (dn:fr 6=v6) {bJ:Nat} (hM:fr 8= .map (are bJ)) (FJ:z bJ= .map ((X.G.M t kt vt).cells es) t):
  Jk P (s6 i7 jw iO i8 jf 32 kQ i9 jg i10 hd fS) fr m .ret (vr fr m.next dI.length) (tu m em z k (dI.flatMap dc) (X.G.T e).tid):=by
 have dd:=au.aR;have b3:(z bJ).fw:=by rw[FJ];trivial
 obtain ⟨By,Fy⟩:=dd.a6.fw b3;rw[FJ] at By;have jZ:cO (X.G.T e) z em m k xs v6:=au.obj 0 _ v6 rfl rfl;have aqj:∀b,v6= .bool b->False:=by obtain ⟨a,c,aa⟩:=jZ.a7.len;intro b ab;rw[aa] at ab;cases ab
 refine ⟨ar7 _,fun i af=> ?_,fun cn ai=>⟨⟨fun b ab=>OT ab,fun b=> ?_⟩,fun i=> ?_⟩, ?_⟩
 ·have h1:¬(i=4\/i=5\/i=32\/jb i=arf\/42<=i/\i<=44):=fun h=>by rw[K.BQ i h] at af;cases af
  simp only[not_or] at h1;show vr fr m.next dI.length i=fr i;unfold vr;rw[if_neg h1.1,if_neg h1.2.1,if_neg h1.2.2.1,if_neg (fun h=>by rcases h with h|h;exact h1.2.2.2.1 h;exact h1.2.2.2.2 h)]
 ·rcases ar' b m.next with ab|ab
  ·rcases wB (m:=m) (em:=em) (z:=z) (k:=k) (cells:=dI.flatMap dc) (t:=(X.G.T e).tid) ab with ⟨h1,_⟩|h1
   ·rw[h1];exact Gw (ar7 _) (cn.low b)
   ·rw[h1];trivial
  ·by_cases ei:b=m.next
   ·rw[ei,OA];intro v aa;obtain ⟨x,_,U⟩:=as0.1 aa;exact wI (arz.1 (K.gZ x) v U)
   ·rw[OT (by omega)];trivial
 ·show low (m.next+1) (vr fr m.next dI.length i);unfold vr;split
  ·exact ash _
  ·split
   ·trivial
   ·split
    ·trivial
    ·split
     ·trivial
     ·exact Gy (ar7 _) (ai i)
 ·intro AV N j a w Q cy ba cn bM ez;have Mq:e3 N fS=arf:=by
   simp only[s6,e3,arq] at cy;exact cy.2
  have aek:e3 N (.region i10 hd arj)=arf:=by have h1:(e3 N (.seq (.region i7 jw arj) (.block iO (.loop (.seq (.region i8 jf arj) (.seq (.cond (.tmp 32) .skip (.exit iO)) (.block kQ (.seq (.region i9 jg arj) (.region i10 hd arj))))))))&&e3 N fS)=arf:=cy;rw[arq] at h1;have J:(e3 N (.region i7 jw arj)&&(e3 N (.region i8 jf arj)&&(e3 N (.cond (.tmp 32) .skip (.exit iO))&&(e3 N (.region i9 jg arj)&&e3 N (.region i10 hd arj)))))=arf:=h1.1;simp only[arq] at J;exact J.2.2.2.2
  have bG:44<N:=VZ cy 44 (K.BQ 44 (.inr (.inr (.inr (.inr ⟨by omega,by omega⟩)))));have acV:a.tmps.size=N:=bM.size;obtain ⟨kI,yz,Fh⟩:∃q,j bJ=are q/\dN a 8= .map (are q.ay):=by have:=bM.val 8;rw[hM] at this;exact this
  obtain ⟨gr,gx,cs,gE,E,g1,g2,g3,g4,g5⟩:nT P j kI w.heap[kI.ay]? (.map ((X.G.M t kt vt).cells es) t):=by have:=ba.obj bJ kI yz;rw[By] at this;exact this
  rw[K.pM] at g2;cases g2;have aP:=mo.xD K.fA.pos g3 (G1 K.fA K.Bd es);subst aP;have hrel:=Xx K g4;have gI:cs.toList.length=es.length:=hrel.length.symm;obtain ⟨B,n1⟩:∃B:vg P D X e kt vt,B=⟨V,N,oi j m w,l6 m bJ,w,fr,mU z bJ,em.put bJ .dead,k,xs,cs,gE,kI.ay,w.heap.size,m.next,AV⟩:=⟨_,rfl⟩
  have dS:Jy B:=by
   subst n1;refine ⟨ash _,YK,YJ,ars _,g1,(ba.lt bJ kI yz).2,fun b q (ab:oi j m w b=are q) (ag:((l6 m bJ).ay b).gj=arf)=> ?_,g5,fun x U=> ?_, ?_,ba.iI.val⟩
   ·rcases uF (m:=m) (bJ:=bJ) (b:=b) with h1|⟨h1,J,aj⟩
    ·rw[h1] at ag;cases ag
    ·rw[w1 aj] at ab;rw[h1] at ag;exact fun ax=>J (ba.inj b bJ q kI ab yz ag (by rw[By];rfl) ax)
   ·exact a1.mem hrel x U
   ·show xs.length+cs.size<=mq;rw[<-atV,gI];exact hlen
  have ael:=(Cu aek).1;obtain ⟨ek,pX,aT,d1,en,Lq,t1⟩:=K.qM.gz.cons;obtain ⟨eV,uc,e2,d2,fo,Lr,t2⟩:=t1.cons;have hV:=t2.nil;subst hV e2;dsimp only at d1 en d2 fo;unfold s6;refine wp_seq (wp_seq (wp_region_list ?_));rw[aT];refine mX Lq (w':=w) (v:=dN a 8) (XK en) ?_;rw[d1];obtain ⟨cr,oX⟩:∃cr,cr=a.put (are 29) (dN a 8):=⟨_,rfl⟩
  have bR:cr.tmps.size=N/\cr.defers=AV:=by rw[oX,fP.1,fP.2];exact ⟨bM.size,bM.defers⟩
  have bh:∀t,dN cr t=if t=29 then dN a 8 else dN a t:=fun t=>by rw[oX];exact mO (by omega)
  rw[<-oX];obtain ⟨bD,hY⟩:∃bD,bD=w.alloc (.mapIter (are kI.ay) gE #[] gE):=⟨_,rfl⟩
  refine mX Lr (w':=bD) (v:= .pointer (are ⟨w.heap.size,0,ari⟩)) (by rw[hY];simp[execOp,fo,ou,bh,Fh,run_range_map w t kt vt kI.ay cs gE K.pM g1]) ?_;rw[d2];obtain ⟨a2,kT⟩:∃a2,a2=cr.put (are 30) (.pointer (are ⟨w.heap.size,0,ari⟩)):=⟨_,rfl⟩
  have z2:a2.tmps.size=N/\a2.defers=AV:=by rw[kT,fP.1,fP.2];exact bR
  have bE:∀t,dN a2 t=if t=30 then .pointer (are ⟨w.heap.size,0,ari⟩) else dN cr t:=fun t=>by rw[kT];exact mO (by rw[bR.1];omega)
  rw[<-kT];refine wpList_nil ?_;have MG:∀b q,j b=are q->oi j m w b=are q:=bb.xF ba.B3;have acP:vh B a2 bD [] [] v6 (l6 m bJ) (oi j m w) (mU z bJ) u4:=by
   subst n1;refine ⟨by rw[hY];exact Post.base ba bJ _,akH cn, ?_,cz.refl _,trivial,fun b q ab ei=> ?_,fun x U=>(by cases U),List.nodup_nil,z2.2,z2.1, ?_, ?_, ?_,fun t ak=> ?_,fun t ak=>⟨fun _=> ?_,fun ax=>absurd rfl ax⟩⟩
   ·refine ⟨anE dd Fy,rfl,fun i o u af hu=> ?_,fun i kl o p u mg bL af da _ _ _ _=> ?_⟩
    ·cases i with
     |zero=>
      cases af;cases hu;show cO (X.G.T e) (mU z bJ) (em.put bJ .dead) (l6 m bJ) k (xs++[]) v6;rw[asI];refine ⟨?_,jZ.fresh⟩;rcases jZ.a7 with h1|⟨b,o,L,c,cI,cL,eQ,gu,ma,lF,Nr⟩
      ·exact .inl h1
      ·have kA:b≠bJ:=fun ax=>by rw[ax,By] at cL;cases cL
       refine .inr ⟨b,o,L,c,cI,by rw[Hs kA (by omega)];exact cL,by show b<m.next+1;omega,by simp[mU,gu],ma,lF,fun i x U=> ?_⟩;obtain ⟨ds,gv,fQ⟩:=Nr i x U;exact ⟨ds,by rw[K.kj _ _ _ gv];exact K.dm _ _,fQ⟩
     |succ i=>cases af
    ·cases i with
     |zero=>cases kl with
      |zero=>exact absurd rfl bL
      |succ kl=>cases da
     |succ i=>cases af
   ·show q.ay≠w.heap.size;rcases On (show oi j m w b=are q from ab) with ⟨h1,_⟩|⟨_,h1⟩
    ·exact absurd h1 ei
    ·have:=(ba.lt b q h1).2;omega
   ·rw[bE,if_neg (by omega),bh,if_neg (by omega),<-dn];exact (bM.val 6).mono MG
   ·rw[bE,if_neg (by omega),bh,if_pos rfl,Fh];intro b ab;cases ab
   ·rw[bE,if_pos rfl]
   ·have bL:t≠29/\t≠30:=by refine ⟨?_, ?_⟩<;>(rintro rfl;exact absurd ak (by decide))
    rw[bE,if_neg bL.2,bh,if_neg bL.1];exact (bM.val t).mono MG
   ·have bL:t≠29/\t≠30:=by refine ⟨?_, ?_⟩<;>(rintro rfl;exact absurd ak (by decide))
    rw[bE,if_neg bL.2,bh,if_neg bL.1];exact (bM.val t).mono MG
  have acM:Hh B bD []:=by subst n1;refine ⟨gE, ?_,ars _⟩;rw[hY];exact (auO w _).1
  have Lv:B.N=N:=by rw[n1]
  have acE:B.ds=AV:=by rw[n1]
  have Lw:B.V=V:=by rw[n1]
  show (Code.block iO _).wp P _ a2 bD;refine wp_block (wp_loop (fun a' w'=>∃fh bx DJ mk jq mm wf,vh B a' w' fh bx DJ mk jq mm wf/\Hh B w' fh) (fun _ w'=>FT B.jB B.r w') ⟨[],[],v6,l6 m bJ,oi j m w,mU z bJ,u4,acP,acM⟩ fun a3 mi ⟨fh,bx,mh,mk,jq,mm,aoQ,h,af⟩=> ?_);refine aoc dS bI hz K.qM (by rw[Lv];exact bG) (by rw[Lv];exact ael) K.vZ (by rw[Lw];exact K.ab) h af (fun a' w' Dv Np DJ mk' MV Ro Ad h1 J aj aJ=>⟨⟨Dv,Np,DJ,mk',MV,Ro,Ad,h1,J⟩,aJ⟩) fun a' b6 v31 v32 jU kh kd=> ?_;show fS.wp P Q a' mi;have T8:B.cs=cs:=by rw[n1]
  rw[T8] at kd;have jn:∀x∈fh,x∈cs.toList:=by rw[<-T8];exact h.mem
  have BF:=agb h.gX g5.1 jn kd;obtain ⟨tC,r3,tT⟩:=a1.perm BF.symm hrel;have adT:∀a b,V.o6 a=V.o6 b->a=b:=fun a b eD=>K.fA.inj a b (by rw[K.yB,K.yB,eD]);have aeJ:a1 (fun (p:D kt×D vt) (x:MapEntry)=>x.key=V.o6 p.1/\x.val=V.nM p.2) bx fh:=by have:=h.rel;rw[Lw] at this;exact this
  have Mt:=a1.left (fun p so x h1 J=>Prod.ext (adT _ _ (h1.1.symm.trans J.1)) (K.Va _ _ (h1.2.symm.trans J.2))) aeJ tT;subst Mt;have cZ:=aD bx r3.symm;have Mv:fh≠[]:=fun ax=>by rw[ax] at BF;have:=BF.length_eq;rw[gI] at this;exact bL (List.length_eq_zero_iff.1 (by simpa using this.symm))
  have Lz:iM AV jq N (oV fr mh) a':=by
   refine ⟨fun t=> ?_,jU.trans acE,by rw[kh,Lv]⟩;show bU jq (oV fr mh t) (dN a' t);unfold oV;by_cases dn:t=6
   ·subst dn;rw[if_pos rfl,b6 6 (by omega) (by omega)];exact h.v6
   rw[if_neg dn];by_cases iR:t=32
   ·subst iR;rw[if_pos rfl,v32];rfl
   rw[if_neg iR];by_cases hw:jb t=arf
   ·rw[if_pos hw];refine pf ?_;by_cases pJ:t=31
    ·rw[pJ];exact v31
    rw[b6 t pJ iR];by_cases pI:t=29
    ·rw[pI];exact h.aaC
    by_cases oW:t=30
    ·rw[oW,h.v30];intro b ab;cases ab
    refine (h.on t ?_).2 Mv;simp only[jb,BY,asi,arq,atr,atI] at hw⊢;omega
   ·rw[if_neg hw];have iU:jb t=arj:=by simpa using hw
    have bL:t≠31:=by rintro rfl;exact absurd iU (by decide)
    rw[b6 t bL iR];have:=h.off t iU;rw[n1] at this;exact this
  have fm:bd X.G [.aE e (xs++bx.map fun p=>V.app p.1 p.2) arj aoQ] mm B.em mk B.k [mh]:=by have:=h.y0;rw[Lw,show B.xs=xs by rw[n1]] at this;exact this
  obtain ⟨abY,cl,ki⟩:=(show cO (X.G.T e) mm B.em mk B.k _ mh from fm.obj 0 _ mh rfl rfl).a7.len;have LC:ef X mm [mh] [(6, .c (.own 0))] (oV fr mh):=by
   intro d;simp only[dQ];split
   ·rename_i aw;have:=arB aw;subst this;exact ⟨rfl,by rw[show oV fr mh 6=mh from rfl,ki];exact ⟨rfl,rfl⟩⟩
   ·trivial
  obtain ⟨n,ex,ff,m2,qB,z',vs',E',bz,hx,pU,k0,yn,yp,acN⟩:=zI bI (B:=fS) (us:=[]) (L:=0) (by simp) fS arf [] _ _ (getD e) dI (pe fS) (ass _) (by simp) fm LC ((K.fg _ _).trans cZ);obtain ⟨rfl,vP,acA,dZ,Ad,acz,acW⟩:=ajd acN;obtain ⟨vw,Bc⟩:=zc hz n;refine B9 hz vw Bc n fS (oV fr mh) ff mk m2 .ret jq a' mi Q Mq qB h.post.rel h.QT Lz fun a4 ID MU aes E6=> ?_;have b0:Post P (oi j m w) (l6 m bJ) w MU m2 ID:=by have:=h.post.trans aes;rw[n1] at this;exact this
  have T5:=yp 4;rw[acz] at T5;have MH:cO (X.G.T e) z' (em.put bJ .dead) m2 k dI (ff 4):=by have:cO (X.G.T e) z' B.em m2 B.k dI (ff 4):=yn.obj dZ _ _ acW T5.1;rw[n1] at this;exact this
  have aeO:cu z' (em.put bJ .dead) m2 k:=by have:=yn.aR;rw[n1] at this;exact this
  have afk:cz em.next (mU z bJ) z':=by have:=h.aa9.trans pU;rw[n1] at this;exact this
  obtain ⟨pV,acZ,ac4,Mc⟩:=amM K.kj K.gZ K.dt K.nk ba cn dd Fy By b3 b0 aeO afk MH (E6.val 4) BT;refine ez a4 ID pV acZ ⟨fun t=> ?_,E6.defers,E6.size⟩;have afw:∀t,¬(t=4\/t=5\/42<=t/\t<=44)->ff t=oV fr mh t:=fun t ak=>NK n fS _ _ _ _ _ (atJ.2 fun U=>ak (K.MK t U)) qB;have ic:∀u,vs'[0]? =are u->hp u:=fun u hu=>by have:=k0 0 mh rfl;rw[this] at hu;cases hu;rw[ki];exact Oz
  show bU pV (vr fr m.next dI.length t) (dN a4 t);have pL:bU MU (ff t) (dN a4 t):=E6.val t;unfold vr;by_cases lW:t=4
  ·subst lW;rw[if_pos rfl];exact ac4
  rw[if_neg lW];by_cases rJ:t=5
  ·subst rJ;have T6:=yp 5;rw[acA] at T6;rw[show ff 5= .int .i64 0 from T6] at pL;rw[if_pos rfl];exact pL
  rw[if_neg rJ];by_cases AT:42<=t/\t<=44
  ·have mD:¬t=32:=by omega
   rw[if_neg mD,if_pos (.inr AT)];exact pf (Df pL (Za yn ic (vP t AT.1 AT.2) (yp t)))
  have adW:=afw t (fun ax=>by rcases ax with ax|ax|ax;exact lW ax;exact rJ ax;exact AT ax);rw[adW] at pL;by_cases Ey:t=32
  ·subst Ey;rw[if_pos rfl];exact pL
  rw[if_neg Ey];by_cases hw:jb t=arf
  ·rw[if_pos (.inl hw)];refine pf ?_;by_cases dn:t=6
   ·subst dn;rw[show oV fr mh 6=mh from rfl] at pL;exact Df pL (by rw[ki];exact Oz)
   ·rw[show oV fr mh t=any by unfold oV;rw[if_neg dn,if_neg Ey,if_pos hw]] at pL;exact pL
  ·rw[if_neg (fun ax=>by rcases ax with ax|ax;exact hw ax;exact AT ax)];have dn:t≠6:=by rintro rfl;exact hw (by decide)
   rw[show oV fr mh t=fr t by unfold oV;rw[if_neg dn,if_neg Ey,if_neg hw]] at pL;refine ((wA (n:=m.next)).2.2 pL (bM.low ba t)).mono fun b q ab=> ?_;obtain ⟨my,ky⟩:=oy ab;have h1:MU b=oi j m w b:=b0.ext b (atT my);rw[w1 (by omega)] at h1;rw[Mc b my,<-h1];exact ky
end
end
end Go.aQ
end
section
namespace Go.aQ
open Go.Sort Go.Shelf Go.Proofs
noncomputable def gM {al:Type} [Inhabited al] (dY:al->al->Int) (xs:List al):List al:=(pdq (ltOf dY) xs.toArray 0 xs.toArray.size (Lib.bitLen xs.toArray.size) arf arf).toList
noncomputable def k9 {al:Type} [Inhabited al] (dY:al->al->Int) (xs:List al):Option (List al):=if xs.length<4611686018427387904 then are (gM dY xs) else ari
noncomputable def DA {al bs rm:Type} (key:al->Int) (app:bs->rm->al) (im:List al->Option (List al)) (xs:List al) (es:List (bs×rm)):Option (List al×Int):=
 if xs.length+es.length<=4294967296/\((xs++es.map fun p=>app p.1 p.2).map key).Nodup then ark (im (xs++es.map fun p=>app p.1 p.2)) fun dI=>are (dI,0) else ari
def gf (x y:Int):Int:=auw x y
section
variable {al:Type} [Inhabited al]
theorem Yd (x y:Int):decide (gf x y<0)=decide (x<y):=by
 unfold gf auw;by_cases h1:x<y
 ·simp[h1]
 ·by_cases J:x>y<;>simp[h1,J]
theorem q1 (f:al->Int):SWO (ltOf fun x y=>gf (f x) (f y)):=by
 have e:∀x y,ltOf (fun x y=>gf (f x) (f y)) x y=decide (f x<f y):=fun x y=>Yd _ _;refine ⟨fun x=> ?_,fun x y z h1 J=> ?_,fun x y z h1 J=> ?_⟩
 ·rw[e];simp
 ·rw[e] at*;simp at*;omega
 ·rw[e] at*;simp at*;omega
theorem NH (dY:al->al->Int) (hO:SWO (ltOf dY)) (xs:List al):PermIn 0 xs.length xs.toArray (gM dY xs).toArray/\SortedIn (ltOf dY) 0 xs.length (gM dY xs).toArray:=by
 have h:=pdq_sorts (ltOf dY) hO xs.toArray 0 xs.toArray.size (Lib.bitLen xs.toArray.size) arf arf (ass _) (ars _) (Or.inl rfl);have e:(gM dY xs).toArray=pdq (ltOf dY) xs.toArray 0 xs.toArray.size (Lib.bitLen xs.toArray.size) arf arf:=by unfold gM;simp
 rw[e];simpa using h
theorem CA (dY:al->al->Int) (hO:SWO (ltOf dY)) (xs:List al):(gM dY xs).length=xs.length:=by
 have:=(NH dY hO xs).1.1;simpa using this
theorem zk (dY:al->al->Int) (hO:SWO (ltOf dY)) (xs:List al):(gM dY xs).Perm xs:=by
 have h:=(NH dY hO xs).1;have ai:=CA dY hO xs;have J:=h.2.2;have aT:((gM dY xs).toArray.extract 0 xs.length).toList=gM dY xs:=by simp[<-ai]
 have e2:(xs.toArray.extract 0 xs.length).toList=xs:=by simp
 rw[aT,e2] at J;exact J
theorem Ny (f:al->Int) (xs:List al):(gM (fun x y=>gf (f x) (f y)) xs).Pairwise fun x y=>f x<=f y:=by
 have hO:=q1 f;have h:=(NH _ hO xs).2;have ai:=CA _ hO xs;rw[List.pairwise_iff_getElem];intro i j af ap cQ;have:=h i j (ass _) cQ (by omega);have e:∀x y,ltOf (fun x y=>gf (f x) (f y)) x y=decide (f x<f y):=fun x y=>Yd _ _;rw[e] at this;have da:(gM (fun x y=>gf (f x) (f y)) xs).toArray[i]! =(gM (fun x y=>gf (f x) (f y)) xs)[i]:=by rw[getElem!_pos _ _ (by simpa using af)];simp
 have Bt:(gM (fun x y=>gf (f x) (f y)) xs).toArray[j]! =(gM (fun x y=>gf (f x) (f y)) xs)[j]:=by rw[getElem!_pos _ _ (by simpa using ap)];simp
 rw[da,Bt] at this;simp at this;omega
theorem NV {enc:al->List arh} {k:Nat} (hk:∀x,(enc x).length=k):∀(xs:List al) (t:Nat),t<xs.length*k->(xs.flatMap enc)[t]? =are ((enc xs.toArray[t / k]!)[t%k]!)
 |[],t,h=>by simp at h
 |x::xs,t,h=>by
  have hh:0<k:=by
   rcases Nat.eq_zero_or_pos k with az|az;·subst az;simp at h
   ·exact az
  rw[asl,List.getElem?_append];split
  ·rename_i aO;rw[hk] at aO;have h1:t / k=0:=Nat.div_eq_of_lt aO;have J:t%k=t:=Nat.mod_eq_of_lt aO;rw[h1,J];have:t<(enc x).length:=by rw[hk];exact aO
   simp[arX this,getElem!_pos (enc x) t this]
  ·rename_i eT;rw[hk] at eT⊢;have eT:k<=t:=by omega
   rw[NV hk xs (t - k) (by simp only[arU,arW] at h;omega)];have h1:t / k=(t - k) / k+1:=by rw[<-Nat.sub_add_cancel eT,Nat.add_div_right _ hh];simp
   have J:t%k=(t - k)%k:=by rw[<-Nat.sub_add_cancel eT,Nat.add_mod_right];simp
   have aO:(t - k) / k<xs.length:=by rw[Nat.div_lt_iff_lt_mul hh];simp only[arU,arW] at h;omega
   rw[h1,J];congr 3;simp[getElem!_pos xs.toArray ((t - k) / k) (by simpa using aO),getElem!_pos (x::xs).toArray ((t - k) / k+1) (by simpa using aO)]
theorem Gt {enc:al->List arh} {k:Nat} (hk:∀x,(enc x).length=k) (xs:List al):(xs.flatMap enc).length=xs.length*k:=by
 induction xs with
 |nil=>simp
 |cons x xs aU=>rw[asl,arJ,hk,aU,arU,arW];omega
variable {P:arl} {ae:Ren}
theorem aiU (L:SlLaysF0.n6 P ae) {f g k:Nat} (aK:ae.f 6=f) (JS:∀w,(isAgg (ae.t 24)).run P w= .ok arf w) (Re:∀w,(Go.sizeOf (ae.t 24)).run P w= .ok k w) (enc:al->List arh) (hk:∀x,(enc x).length=k) (h1:∀x,(enc x).all b7=arf)
  (dY:al->al->Int) (hO:SWO (ltOf dY)) (Lg:∀args w,(callFunc g args).run P w= .ok (.enter g args) w)
  (hv:∀(x y:al) (W:World),Calls P g #[.agg (enc x).toArray, .agg (enc y).toArray] W fun e w'=>e= .returned (.int .i64 (dY x y))/\∃q sl,w'=grow (W.drewN q) sl)
  (xs:List al) (bu:xs.length<4611686018427387904) (hy:0<k) (MM:0<xs.length):Qa P f (.func (.func g) #[] #[]) xs.length (xs.flatMap enc) ((gM dY xs).flatMap enc):=by
 subst aK;intro w ay off cap cs t a6 hw bM vI;have rY:=Gt hk xs;have hH:HoldsK enc k w ay off xs.toArray:=by
  intro j ap;rw[size_flatK] at ap;have ap:j<xs.length*k:=by simpa using ap
  have aM:=NV hk xs j ap;have ad:=bM j _ aM;have aO:off+j<cs.size:=(ar6.1 ad).1;refine ⟨?_, ?_⟩
  ·rw[get_flatK enc k xs.toArray j (by simpa using ap)];simp[World.cell?,hw,ad]
  ·simp only[World.frozen?,hw];have:=vI (off+j) aO;simp only[Bool.and_eq_false_iff,decide_eq_false_iff_not];by_cases h1:a6.1<=off+j
   ·right;exact fun J=>this ⟨h1,J⟩
   ·left;exact h1
 have hblk:ay<w.heap.size:=by
  rcases ar' ay w.heap.size with h|h
  ·exact h
  ·rw[aus h] at hw;cases hw
 have nk:∀x,∀v∈enc x,v.oneCell'=arf:=fun x v aa=>(WO (j:=fun _=>ari) (arz.1 (h1 x) v aa)).one;refine (AnyQ.slices_SortFunc_eq L k JS Re enc hk nk dY hO g #[] ay off cap xs.toArray w Lg (fun m os ap5 _ x y=>hv x y _) hH hblk (by simpa using bu)).mono ?_;rintro e w' ⟨rfl,n,os,rfl⟩;have an:(pdq (ltOf dY) xs.toArray 0 xs.toArray.size (Lib.bitLen xs.toArray.size) arf arf)=(gM dY xs).toArray:=by unfold gM;simp
 rw[an];have vN:=CA dY hO xs;have qN:(sortWorldK enc k w ay off n (gM dY xs).toArray os).heap.size=w.heap.size+os.size:=by simp[sortWorldK,grow,putRowK,putRow,mapBlock,Sort.ahead]
 have Fk:∀c,c<w.heap.size->(sortWorldK enc k w ay off n (gM dY xs).toArray os).heap[c]? =(w.heap.modify ay (onCells (putCells id off (flatK enc k (gM dY xs).toArray))))[c]? :=by intro c ad;simp only[sortWorldK,grow,putRowK,putRow,mapBlock,Sort.ahead];rw[Array.getElem?_append_left (by simpa using ad)]
 refine ⟨rfl,rfl,rfl,rfl,by rw[qN];omega,fun c ad cJ=> ?_, ?_⟩
 ·rw[Fk c ad,auK,if_neg (by omega)]
 ·rw[Fk ay hblk,auK,if_pos rfl,hw];simp only[asQ,onCells];congr 2;have hle:off+(xs.flatMap enc).length<=cs.size:=by
   have dt:0<xs.length*k:=Nat.mul_pos MM hy;have qG:=arX (l:=xs.flatMap enc) (i:=(xs.flatMap enc).length - 1) (by omega);have:=(ar6.1 (bM _ _ qG)).1;omega
  apply Array.ext_getElem?;intro i;have ad0:off+((gM dY xs).flatMap enc).length<=cs.toList.length:=by rw[Gt hk,vN,<-rY,atV];exact hle
  have aT:((ee cs.toList off ((gM dY xs).flatMap enc)).toArray)[i]? =if off<=i/\i<off+((gM dY xs).flatMap enc).length then ((gM dY xs).flatMap enc)[i - off]? else cs.toList[i]? :=by rw[<-ow _ _ _ _ ad0];simp
  rw[aT];simp only[putCells];rw[Array.getElem?_mapIdx,size_flatK];by_cases hx:off<=i/\i<off+((gM dY xs).flatMap enc).length
  ·rw[if_pos hx];have gU:=Gt hk (gM dY xs);have adK:i<cs.size:=by rw[gU,vN,<-rY] at hx;omega
   rw[Array.getElem?_eq_getElem adK];simp only[asQ];rw[if_pos ⟨hx.1,by rw[gU] at hx;simpa using hx.2⟩];have:=NV hk (gM dY xs) (i - off) (by rw[<-gU];omega);rw[this,get_flatK enc k _ _ (by rw[gU] at hx;simp;omega)];rfl
  ·rw[if_neg hx];have gU:=Gt hk (gM dY xs);have:¬(off<=i/\i<off+(gM dY xs).toArray.size*k):=by rw[gU] at hx;simpa using hx
   simp only[this,if_false];cases ad:cs[i]? with
   |none=>simp[ad]
   |some v=>simp[ad]
end
noncomputable section
section
variable {P:arl} {D:Nat->Type} {G:lT D}
def iv:List hG->Bool
 |[]=>arf
 | .aE _::_=>arj
 | .mp _ _ _::_=>arj
 | .fn::_=>arj
 |_::ls=>iv ls
theorem G9 {z:Nat->aV}:∀{ls:List hG} {x:gJ (fi G ls)} {ds:List arh},iv ls=arf->oB z (fi G ls) x ds->ds=fN ls x
 |[],_,[],_,_=>rfl
 |[],_,_::_,_,h=>h.elim
 | .int k::ls,x,d::ds,h,e=>by have h1:d= .int k x.1:=e.1;rw[fN,h1,<-G9 (ls:=ls) h e.2]
 | .bool::ls,x,d::ds,h,e=>by have h1:d= .bool x.1:=e.1;rw[fN,h1,<-G9 (ls:=ls) h e.2]
 | .str::ls,x,d::ds,h,e=>by have h1:d=aQ.str x.1:=e.1;rw[fN,h1,<-G9 (ls:=ls) h e.2]
 | .aE _::_,_,_,h,_=>by cases h
 | .mp _ _ _::_,_,_,h,_=>by cases h
 | .fn::_,_,_,h,_=>by cases h
 | .int _::_,_,[],_,h=>h.elim
 | .bool::_,_,[],_,h=>h.elim
 | .str::_,_,[],_,h=>h.elim
theorem G8 {z:Nat->aV}:∀{ls:List hG} {x:gJ (fi G ls)},iv ls=arf->oB z (fi G ls) x (fN ls x)
 |[],_,_=>trivial
 | .int k::ls,x,h=>⟨rfl,G8 (ls:=ls) h⟩
 | .bool::ls,x,h=>⟨rfl,G8 (ls:=ls) h⟩
 | .str::ls,x,h=>⟨rfl,G8 (ls:=ls) h⟩
 | .aE _::_,_,h=>by cases h
 | .mp _ _ _::_,_,h=>by cases h
 | .fn::_,_,h=>by cases h
theorem Cl:∀{ls:List hG} {x:gJ (fi G ls)},iv ls=arf->(fN ls x).all b7=arf
 |[],_,_=>rfl
 | .int k::ls,x,h=>by simp only[fN,asb,Cl (ls:=ls) (x:=x.2) h];rfl
 | .bool::ls,x,h=>by simp only[fN,asb,Cl (ls:=ls) (x:=x.2) h];rfl
 | .str::ls,x,h=>by simp only[fN,asb,Cl (ls:=ls) (x:=x.2) h];rfl
 | .aE _::_,_,h=>by cases h
 | .mp _ _ _::_,_,h=>by cases h
 | .fn::_,_,h=>by cases h
theorem qp:∀{ls:List hG} {x:gJ (fi G ls)},(fN ls x).length=ls.length
 |[],_=>rfl
 | .int k::ls,x=>by simp only[fN,arU,qp (ls:=ls)]
 | .bool::ls,x=>by simp only[fN,arU,qp (ls:=ls)]
 | .str::ls,x=>by simp only[fN,arU,qp (ls:=ls)]
 | .aE _::ls,x=>by simp only[fN,arU,qp (ls:=ls)]
 | .mp _ _ _::ls,x=>by simp only[fN,arU,qp (ls:=ls)]
 | .fn::ls,x=>by simp only[fN,arU,qp (ls:=ls)]
def QE {t:Nat} (ls:List hG) (to:D t->gJ (fi G ls)) (ho:G.T t=h7 t (fi G ls) to) (ar:iv ls=arf) (x0:D t) (key:D t->Int) {ae:Ren} (L:SlLaysF0.n6 P ae) (f g:Nat) (aK:ae.f 6=f) (ok:kG P f=arf)
  (JS:∀w,(isAgg (ae.t 24)).run P w= .ok arf w) (Re:∀w,(Go.sizeOf (ae.t 24)).run P w= .ok ls.length w) (Lg:∀args w,(callFunc g args).run P w= .ok (.enter g args) w) (dt:ar5 0 ls.length=arf)
  (hv:∀(x y:D t) (W:World),Calls P g #[.agg (fN ls (to x)).toArray, .agg (fN ls (to y)).toArray] W fun e w'=>e= .returned (.int .i64 (gf (key x) (key y)))/\∃q sl,w'=grow (W.drewN q) sl):pB P G where
 f:=f
 g:=g
 e:=t
 im:= @k9 (D t) ⟨x0⟩ fun x y=>gf (key x) (key y)
 dc:=fun x=>fN ls (to x)
 aa:=fun z x ds h=>by rw[ho] at h;exact G9 ar h
 ao:=fun z x=>by rw[ho];exact G8 ar
 aK:=fun x=>Cl ar
 ok:=ok
 az:=fun p cap w=>by subst aK;exact AnyF.slices_SortFunc_none L p cap _ w
 av:=fun xs a8 h=>by
  letI:Inhabited (D t):=⟨x0⟩
  unfold k9 at h;split at h
  ·cases h;exact CA _ (q1 key) xs
  ·cases h
 aq:=fun xs a8 h az=>by
  letI:Inhabited (D t):=⟨x0⟩
  unfold k9 at h;split at h
  ·rename_i aO;cases h;exact aiU L aK JS Re (fun x=>fN ls (to x)) (fun _=>qp) (fun _=>Cl ar) (fun x y=>gf (key x) (key y)) (q1 key) Lg hv xs aO (arG dt) az
  ·cases h
end
end
end Go.aQ
end
section
namespace Go.aQ
noncomputable section
theorem V8 {al:Type} {f:al->Int}:∀{l:List al},(l.map f).Nodup->∀{a b:al},a∈l->b∈l->f a=f b->a=b
 |[],_,_,_,ar,_,_=>by cases ar
 |x::l,av,a,b,ar,ab,he=>by
  obtain ⟨h1,J⟩:=atk.1 av;rcases arA.1 ar with rfl|nj<;>rcases arA.1 ab with rfl|ch
  ·rfl
  ·exact absurd (he▸List.mem_map_of_mem (f:=f) ch) h1
  ·exact absurd (he▸List.mem_map_of_mem (f:=f) nj) h1
  ·exact V8 J nj ch he
section
variable {P:arl} {D:Nat->Type} {X:dk P D}
def rP (fr:Nat->arh):Nat->arh:=fun t=>if t=32 then .bool arj else if t=29\/t=30\/t=31 then any else fr t
theorem ajU {e kt vt t i7 iO i8 kQ i9 i10:Nat} {jw jf jg hd:Array Oper} {fS:Code} {V:vi P X e kt vt} {im:List (D e)->Option (List (D e))} {dc:D e->List arh} (K:RK X e kt vt t i7 iO i8 kQ i9 i10 jw jf jg hd fS V im dc)
  (bI:fL X) (hz:P.follows .mixedOrders=arf) (vS:e3 45 fS=arf) {ae:Type} {Jx:dF->List (Nat×aN D)->List (aG D)->Option ae} {r:ae} {E:List (Nat×aN D)} {O:List (aG D)} {em m:Mem} {z:Nat->aV} {k:Option Nat} {vs:List arh} {fr:Nat->arh}
  (fg:hK X [] calm arf [] fS E O Jx=are r) (au:bd X.G O z em m k vs) (aP:ef X z vs E (rP fr)) (hM:kN (X.G.M t kt vt) z [] (fr 8)):
  W P (s6 i7 jw iO i8 jf 32 kQ i9 jg i10 hd fS) (fun x=>hi X O z em k vs (Jx x) r) fr m:=by
 obtain ⟨n,ex,ff,m2,qB,l4⟩:=zI bI (B:=fS) (us:=[]) (L:=0) (by simp) fS arf [] _ _ Jx r (pe fS) (ass _) (by simp) au aP fg;obtain ⟨vw,Bc⟩:=zc hz n;refine W.ext (e:=ex) (fr':=ff) (m':=m2) ?_ rfl l4;have hw:∀i,(jK (s6 i7 jw iO i8 jf 32 kQ i9 jg i10 hd fS)).contains i=arj->(jK fS).contains i=arj/\rP fr i=fr i:=by
  intro i af;have h1:¬(i=4\/i=5\/i=32\/jb i=arf\/42<=i/\i<=44):=fun h=>by rw[K.BQ i h] at af;cases af
  refine ⟨atJ.2 fun U=>h1 (by rcases K.MK i U with h|h|h<;>simp[h]), ?_⟩;unfold rP;rw[if_neg (fun h=>h1 (by simp[h])),if_neg (fun h=>h1 (.inr (.inr (.inr (.inl (by rcases h with h|h|h<;>rw[h]<;>rfl))))))]
 have r1:∀{n:Nat},(∀t,low n (fr t))->∀t,low n (rP fr t):=fun ai t=>by
  unfold rP;split
  ·trivial
  ·split
   ·trivial
   ·exact ai t
 refine ⟨WV (NJ n) n qB,fun i af=> ?_,fun cn ai=> ?_, ?_⟩
 ·rw[NK n fS _ _ _ _ _ (hw i af).1 qB];exact (hw i af).2
 ·obtain ⟨h1,J,_⟩:=zq vw n fS _ _ _ _ _ vS qB cn (r1 ai);exact ⟨h1,J⟩
 ·intro ds N j a w Q cy ba cn bM ez;have Mq:e3 N fS=arf:=by
   simp only[s6,e3,arq] at cy;exact cy.2
  have bG:44<N:=VZ cy 44 (K.BQ 44 (.inr (.inr (.inr (.inr ⟨by omega,by omega⟩)))));have acV:a.tmps.size=N:=bM.size;obtain ⟨ek,pX,aT,d1,en,Lq,t1⟩:=K.qM.gz.cons;obtain ⟨eV,uc,e2,d2,fo,Lr,t2⟩:=t1.cons;have hV:=t2.nil;subst hV e2;dsimp only at d1 en d2 fo;refine wp_seq (wp_seq (wp_region_list ?_));rw[aT];refine mX Lq (w':=w) (v:=dN a 8) (XK en) ?_;rw[d1];obtain ⟨cr,oX⟩:∃cr,cr=a.put (are 29) (dN a 8):=⟨_,rfl⟩
  have bR:cr.tmps.size=N/\cr.defers=ds:=by rw[oX,fP.1,fP.2];exact ⟨bM.size,bM.defers⟩
  have bh:∀t,dN cr t=if t=29 then dN a 8 else dN a t:=fun t=>by rw[oX];exact mO (by omega)
  rw[<-oX];obtain ⟨bD,it,hY,gV,vQ,ae2⟩:∃bD it,bD=w.alloc it/\(Instr.range t (dN a 8)).run P w= .ok (.pointer (are ⟨w.heap.size,0,ari⟩)) bD/\(∀ty,(Instr.next (.pointer (are ⟨w.heap.size,0,ari⟩)) arj ty).run P bD= .ok (.tuple #[.bool arj]) bD)/\hp (dN a 8):=by
   have aa:=bM.val 8;rcases hM with ⟨h1,_⟩|⟨bJ,h1,J⟩
   ·rw[h1] at aa;have aa:dN a 8= .map ari:=aa;rw[aa];exact ⟨_,_,rfl,run_range_nilMap w t kt vt K.pM,fun ty=>run_next_nilMap w ty 0 0 #[],fun b ab=>by cases ab⟩
   ·rw[h1] at aa;obtain ⟨kI,yz,Fh⟩:∃q,j bJ=are q/\dN a 8= .map (are q.ay):=aa;have b3:(z bJ).fw:=by rw[J];trivial
    obtain ⟨gr,gx,cs,gE,E',g1,g2,g3,g4,g5⟩:nT P j kI w.heap[kI.ay]? (.map ((X.G.M t kt vt).cells []) t):=by have:=ba.obj bJ kI yz;rw[(au.aR.a6.fw b3).1,J] at this;exact this
    rw[K.pM] at g2;cases g2;have lk:=mo.xD K.fA.pos g3 (G1 K.fA K.Bd []);subst lk;have gI:cs=#[]:=by have:=g4.length;rw[show ((X.G.M t kt vt).nh []).length=0 from rfl] at this;exact Array.eq_empty_of_size_eq_zero (by rw[<-atV];exact this.symm)
    subst gI;rw[Fh];have Fc:=auO w (.mapIter (are kI.ay) gE #[] gE);refine ⟨_,_,rfl,run_range_map w t kt vt kI.ay #[] gE K.pM g1,fun ty=> ?_,fun b ab=>by cases ab⟩;rcases run_next_at (P:=P) (w.alloc (.mapIter (are kI.ay) gE #[] gE)) ty w.heap.size kI.ay gE gE #[] #[] gE Fc.1 (by rw[Fc.2 _ (ba.lt bJ kI yz).2];exact g1) (fun x U=>by cases U) (ars _) with ⟨_,h⟩|⟨x,U,_⟩
    ·exact h
    ·have:=(mem_left U).1;cases this
  refine mX Lr (w':=bD) (v:= .pointer (are ⟨w.heap.size,0,ari⟩)) (by simp[execOp,fo,ou,bh,gV]) ?_;rw[d2];obtain ⟨a2,kT⟩:∃a2,a2=cr.put (are 30) (.pointer (are ⟨w.heap.size,0,ari⟩)):=⟨_,rfl⟩
  have z2:a2.tmps.size=N/\a2.defers=ds:=by rw[kT,fP.1,fP.2];exact bR
  have bE:∀t,dN a2 t=if t=30 then .pointer (are ⟨w.heap.size,0,ari⟩) else dN cr t:=fun t=>by rw[kT];exact mO (by rw[bR.1];omega)
  rw[<-kT];refine wpList_nil ?_;show (Code.block iO _).wp P _ a2 bD;refine wp_block (wp_loop_once ?_);obtain ⟨si,M1,hV,d3,hC,acv,t3⟩:=K.qM.hM.cons;obtain ⟨Vw,afB,kR,d4,iF,acw,t4⟩:=t3.cons;have qv:=t4.nil;subst qv kR;dsimp only at d3 hC d4 iF;refine wp_seq (wp_region_list ?_);rw[hV];refine mX acv (v:= .tuple #[.bool arj]) (w':=bD) (by simp[execOp,hC,ou,bE,vQ]) ?_;rw[d3];obtain ⟨a3,vz⟩:∃a3,a3=a2.put (are 31) (.tuple #[.bool arj]):=⟨_,rfl⟩
  have z3:a3.tmps.size=N/\a3.defers=ds:=by rw[vz,fP.1,fP.2];exact z2
  have b6:∀t,dN a3 t=if t=31 then .tuple #[.bool arj] else dN a2 t:=fun t=>by rw[vz];exact mO (by rw[z2.1];omega)
  rw[<-vz];refine mX acw (w':=bD) (Cc (vs:=#[.bool arj]) (v:= .bool arj) iF (by rw[ou,b6,if_pos rfl]) rfl) ?_;rw[d4];obtain ⟨a4,vA⟩:∃a4,a4=a3.put (are 32) (.bool arj):=⟨_,rfl⟩
  have z4:a4.tmps.size=N/\a4.defers=ds:=by rw[vA,fP.1,fP.2];exact z3
  have cx:∀t,dN a4 t=if t=32 then .bool arj else dN a3 t:=fun t=>by rw[vA];exact mO (by rw[z3.1];omega)
  rw[<-vA];refine wpList_nil ?_;refine wp_seq (wp_cond_false (by rw[show Act.eval _ (.tmp 32)=dN _ 32 from rfl,cx,if_pos rfl]) (wp_exit ?_));simp only[Exit.then,Exit.inBlock,if_true];have b0:=Post.iter ba it;rw[<-hY] at b0;have Lz:iM ds j N (rP fr) a4:=by
   refine ⟨fun t=> ?_,z4.2,z4.1⟩;show bU j (rP fr t) (dN a4 t);unfold rP;rw[cx,b6,bE,bh];by_cases iR:t=32
   ·rw[if_pos iR,if_pos iR];rfl
   rw[if_neg iR,if_neg iR];by_cases pJ:t=31
   ·rw[if_pos (.inr (.inr pJ)),if_pos pJ];exact pf (fun b ab=>by cases ab)
   rw[if_neg pJ];by_cases oW:t=30
   ·rw[if_pos (.inr (.inl oW)),if_pos oW];exact pf (fun b ab=>by cases ab)
   rw[if_neg oW];by_cases pI:t=29
   ·rw[if_pos (.inl pI),if_pos pI];exact pf ae2
   rw[if_neg pI,if_neg (fun h=>by rcases h with h|h|h;exact pI h;exact oW h;exact pJ h)];exact bM.val t
  exact B9 hz vw Bc n fS (rP fr) ff m m2 ex j a4 bD Q Mq qB b0.rel cn Lz fun a5 IE afq aet acJ=>ez a5 IE afq (b0.trans aet) acJ
end
section
variable {al:Type} [Inhabited al]
theorem ahm (f:al->Int) {xs a8:List al} (av:(xs.map f).Nodup) (an:xs.Perm a8):k9 (fun x y=>gf (f x) (f y)) a8=k9 (fun x y=>gf (f x) (f y)) xs:=by
 unfold k9;rw[an.length_eq];split
 ·congr 1;have h1:(gM (fun x y=>gf (f x) (f y)) a8).Perm (gM (fun x y=>gf (f x) (f y)) xs):=(zk _ (q1 f) a8).trans (an.symm.trans (zk _ (q1 f) xs).symm);have iE:((gM (fun x y=>gf (f x) (f y)) xs).map f).Nodup:=((zk _ (q1 f) xs).map f).nodup_iff.2 av;refine h1.eq_of_pairwise (le:=fun x y=>f x<=f y) (fun a b ar ab eD qz=> ?_) (Ny f a8) (Ny f xs);have nj:a∈gM (fun x y=>gf (f x) (f y)) xs:=h1.mem_iff.1 ar;exact V8 iE nj ab (Int.le_antisymm eD qz)
 ·rfl
end
end
end Go.aQ
end
section
namespace Go.aQ
noncomputable section
section
variable {P:arl} {D:Nat->Type} {X:dk P D}
def Ix (D:Nat->Type) (e:Nat):List (kL D):=[⟨.ret,[.v 4 (.aE e), .v 5 (.int .i64)],[]⟩]
def z1 (D:Nat->Type) (path:List Nat) (e kt vt t:Nat):gb D:=⟨path,[.o 6 (.aE e), .v 8 (.mp t kt vt)],[(6, .c (.own 0))],[0],Ix D e,[]⟩
def aap (path:List Nat) (e kt vt t:Nat) (key:D e->Int) (app:D kt->D vt->D e) (im:List (D e)->Option (List (D e))):(z1 D path e kt vt t).F:=fun x=>DA (al:=D e) (bs:=D kt) (rm:=D vt) key app im x.1 x.2.1
def Ak (em:Mem) (z:Nat->aV) (n:Nat) (x:aV):Nat->aV:=open Classical in fun b=>if b<em.next\/(z b).fw then z b else if b=n then x else .dead
theorem ale {e kt vt t i7 iO i8 kQ i9 i10:Nat} {jw jf jg hd:Array Oper} {fS:Code} {V:vi P X e kt vt} {im:List (D e)->Option (List (D e))} {dc:D e->List arh} (K:RK X e kt vt t i7 iO i8 kQ i9 i10 jw jf jg hd fS V im dc)
  (bI:fL X) (hz:P.follows .mixedOrders=arf) (vS:e3 45 fS=arf) (key:D e->Int) (BF:∀a8 Rc,(a8.map key).Nodup->a8.Perm Rc->im Rc=im a8) (BT:∀a8 dI,im a8=are dI->dI.length=a8.length)
  (Ly:∀(a8:List (D e)) (wf:Bool),hK X [] calm arf [] fS [(6, .c (.own 0))] [.aE e a8 arj wf] (pr X 1 [0] (Ix D e))=ark (im a8) fun dI=>are ((dI,(0:Int)):List (D e)×Int))
  {B:Code} {path:List Nat} (dS:sub B path=s6 i7 jw iO i8 jf 32 kQ i9 jg i10 hd fS):nO X B (z1 D path e kt vt t) (aap path e kt vt t key V.app im):=by
 intro x cv z em m k bY fr bM au aP;obtain ⟨xs,es,U⟩:∃(xs:List (D e)) (es:List (D kt×D vt)),x=(xs,es,()):=⟨x.1,x.2.1,rfl⟩
 subst U;have bM:DA (al:=D e) (bs:=D kt) (rm:=D vt) key V.app im xs es=are cv:=bM;unfold DA at bM;obtain ⟨⟨hlen,lx⟩,bM⟩:=eA bM;obtain ⟨dI,aq,bM⟩:=Option.bind_eq_some_iff.1 bM;cases bM;have au:bd X.G [.aE e xs arj arj] z em m k bY:=au;obtain ⟨v6,rfl⟩:∃v6,bY=[v6]:=by
  have:=au.len
  match bY,this with
  |[v],_=>exact ⟨v,rfl⟩
 have aP:ef X z [v6] [(8, .c (.mp t kt vt es)),(6, .c (.own 0))] fr:=aP;have dn:fr 6=v6:=by have:([v6]:List arh)[0]? =are (fr 6)/\_:=aP 6;exact (arw.inj this.1).symm
 have hM:kN (X.G.M t kt vt) z es (fr 8):=aP 8;rw[show (z1 D path e kt vt t).path=path from rfl,dS];cases es with
 |nil=>
  have aq:im xs=are dI:=by simpa using aq
  have fg:=Ly xs arj;rw[aq] at fg;have fg:hK X [] calm arf [] fS [(6, .c (.own 0))] [.aE e xs arj arj] (pr X 1 [0] (Ix D e))=are ((dI,(0:Int)):List (D e)×Int):=fg;refine (ajU K bI hz vS fg au (fun d=> ?_) hM).mono ?_
  ·simp only[dQ];split
   ·rename_i aw;have:=arB aw;subst this;exact aP 6
   ·trivial
  ·rintro ex cd m1 ⟨bR,ja,jQ,bB,az,h1,J,aj,aJ,bk⟩;obtain ⟨cw,y,g1,g2,g3,g4⟩:=Cs bk;obtain ⟨z2,c3,bm,br,dj⟩:=CT (X:=X) (ins:=(z1 D path e kt vt t).ins) (ks:=[0]) (x:=(xs,[],())) (bY:=[v6]) az J rfl aj aJ g3;exact ⟨z2,c3,cw,y,g1,g2,g4,h1.trans bm,br,dj⟩
 |cons pb aci=>
  obtain ⟨es,iB⟩:∃es,es=pb::aci:=⟨_,rfl⟩
  rw[<-iB] at hlen lx aq hM aP;have bL:es≠[]:=by rw[iB];simp
  obtain ⟨bJ,hM,FJ⟩:∃bJ,fr 8= .map (are bJ)/\z bJ= .map ((X.G.M t kt vt).cells es) t:=by
   rcases hM with ⟨_,h⟩|h
   ·exact absurd h bL
   ·exact h
  have afi:0<dI.length:=by rw[BT _ _ aq,arJ,ar9,iB,arU];omega
  have hex:=ajT K bI hz hlen (fun bx an=> ?_) bL afi au dn hM FJ
  ·refine W.ext hex rfl ?_;have dd:=au.aR;have qI:¬(z m.next).fw:=fun h=>by have:=(dd.a6.fw h).2;omega
   have jE:¬m.next<em.next:=by have:=dd.next;omega
   have FI:Ak em z m.next (.own (dI.flatMap dc) (X.G.T e).tid) m.next= .own (dI.flatMap dc) (X.G.T e).tid:=by unfold Ak;rw[if_neg (fun h=>by rcases h with h|h;exact jE h;exact qI h),if_pos rfl]
   have MQ:∀b,b<em.next\/(z b).fw->Ak em z m.next (.own (dI.flatMap dc) (X.G.T e).tid) b=z b:=fun b ab=>by unfold Ak;rw[if_pos ab]
   refine ⟨Ak em z m.next (.own (dI.flatMap dc) (X.G.T e).tid),[],⟨.ret,[.v 4 (.aE e), .v 5 (.int .i64)],[]⟩,((dI,(0:Int)):List (D e)×Int),arS,rfl,fun K=>rfl,⟨fun b ab=>MQ b (.inr ab),fun b ab=>MQ b (.inl ab)⟩, ?_, ?_⟩
   ·show bd X.G [.dead] _ em _ k [v6];refine ⟨⟨fun b ab=> ?_,fun b ab=>OT ab,dd.lX,arR dd.next (ar7 _),fun b ab hk=> ?_⟩,rfl,fun i o u af hu=> ?_,fun i kl o p u mg bL af da ai _ _ _=> ?_⟩
    ·show _/\b<m.next+1;by_cases h:b<em.next\/(z b).fw
     ·rw[MQ b h] at ab⊢;have:=dd.a6 b ab;refine ⟨?_,by omega⟩;rw[OU this.2 (by
       rcases h with h|h
       ·exact .inl ⟨h, .inr ab⟩
       ·exact .inr h)]
      exact this.1
     ·by_cases av:b=m.next
      ·rw[av,FI,OA];exact ⟨rfl,ash _⟩
      ·unfold Ak at ab;rw[if_neg h,if_neg av] at ab;exact absurd rfl ab
    ·have:=dd.next;rw[OU (by omega) (.inl ⟨ab, .inl hk⟩)];exact dd.kept b ab hk
    ·cases i with
     |zero=>cases af;trivial
     |succ i=>cases af
    ·cases i with
     |zero=>cases af;cases ai
     |succ i=>cases af
   ·intro q aF;have aF:q=(4, .c (.aE e dI))\/q=(5, .c (.int .i64 0)):=by
     have:q∈[((4:Nat),(aN.c (.aE e dI):aN D)),(5, .c (.int .i64 0))]:=aF;simpa using this
    rcases aF with rfl|rfl
    ·have kD:∀x∈dI,(dc x).length=(X.G.T e).aW:=fun x _=>(X.G.T e).len _ _ _ (K.dm z x);show dW (X.G.T e) _ dI (.slice (are ⟨m.next,0,ari⟩) dI.length bT);refine .inr ⟨m.next,0,bT,rfl,by rw[FI];trivial, .inl ⟨rfl,_,FI,by rw[CD kD];omega⟩,fun i x U=>⟨dc x,K.dm _ _,fun j v aa=> ?_⟩⟩;show k1 _ m.next _=are v;rw[k1,FI,arE];exact OZ kD i j x v U aa
    ·rfl
  ·have aev:(xs++es.map fun p=>V.app p.1 p.2).Perm (xs++bx.map fun p=>V.app p.1 p.2):=(an.symm.map _).append_left xs;rw[BF _ _ lx aev];exact aq
def nC:Code->Array Oper
 | .region _ ops _=>ops
 |_=>#[]
def o5:Code->Nat
 | .region i _ _=>i
 | .block i _=>i
 |_=>0
theorem mr.of:∀{l:List Oper} {bx:List (Option Nat×Op)},(l.map fun o=>(o.dst,o.op,o.guard))=bx.map (fun p=>(p.1,p.2,ari))->mr l bx
 |[],[],_=>trivial
 |[],_::_,h=>by cases h
 |_::_,[],h=>by cases h
 |o::l,p::bx,h=>by simp only[asc,List.cons.injEq,Prod.mk.injEq] at h;exact ⟨h.1,mr.of h.2⟩
def aaD (l:List Nat):Bool:=l.all fun d=>aru d 6||(arF 36 d&&arF d 41)
def aaF (l:List Nat):Bool:=l.all fun d=>aru d 4||(aru d 5||(arF 42 d&&arF d 44))
def aaG (l:List Nat):Bool:=[4,5,6,9,10,29,30,31,32,33,34,35,36,37,38,39,40,41,42,43,44].all fun d=>l.contains d
theorem am5 {l:List Nat} (h:aaD l=arf) (t:Nat) (ak:jb t=arj\/t=29\/t=30\/t=31\/t=32\/t=33\/t=34\/t=35\/t=9\/t=10):l.contains t=arj:=by
 refine atJ.2 fun ad=> ?_;have:=arz.1 h t (by simpa using ad);simp only[asi,arq,atr,atI] at this;have hw:jb t=arf:=by simp only[jb,asi,arq,atr,atI];omega
 rcases ak with ak|ak
 ·rw[hw] at ak;cases ak
 ·omega
theorem anL {l:List Nat} (h:aaF l=arf) (t:Nat) (ak:l.contains t=arf):t=4\/t=5\/42<=t/\t<=44:=by
 have:=arz.1 h t (by simpa using ak);simpa only[asi,arq,atr,atI] using this
theorem anM {l:List Nat} (h:aaG l=arf) (t:Nat) (ak:t=4\/t=5\/t=32\/jb t=arf\/42<=t/\t<=44):l.contains t=arf:=by
 refine arz.1 h t ?_;simp only[jb,asi,arq,atr,atI] at ak;simp only[arA,asU,or_false];omega
def afG (P:arl) (X:dk P D) (e kt vt:Nat) (k bW:aro) (hk:D kt=Int) (aa:D vt=Int) (app:D kt->D vt->D e):vi P X e kt vt where
 app:=app
 DE:=fun a=> .c (.int k (cast hk a))
 sv:=fun b=> .c (.int bW (cast aa b))
 o6:=fun a=> .int k (cast hk a)
 nM:=fun b=> .int bW (cast aa b)
 hk:=fun _ _ _=>rfl
 aa:=fun _ _ _=>rfl
 wm:=fun _ b h=>by cases h
 c3:=fun _ b h=>by cases h
 TV:=fun _=>rfl
 lY:=fun _=>rfl
theorem ahw {e kt vt t:Nat} (bI:fL X) (hz:P.follows .mixedOrders=arf) {B:Code} {path:List Nat} (k bW:aro) (hk:D kt=Int) (aa:D vt=Int) (app:D kt->D vt->D e) (x0:D e) (key:D e->Int)
  (dS:sub B path=s6 (o5 (sub B (path++[0,0]))) (nC (sub B (path++[0,0]))) (o5 (sub B (path++[0,1]))) (o5 (sub B (path++[0,1,0,0,0]))) (nC (sub B (path++[0,1,0,0,0]))) 32 (o5 (sub B (path++[0,1,0,0,1,1])))
   (o5 (sub B (path++[0,1,0,0,1,1,0,0]))) (nC (sub B (path++[0,1,0,0,1,1,0,0]))) (o5 (sub B (path++[0,1,0,0,1,1,0,1]))) (nC (sub B (path++[0,1,0,0,1,1,0,1]))) (sub B (path++[1])))
  (gz:((nC (sub B (path++[0,0]))).toList.map fun o=>(o.dst,o.op,o.guard))=[(are 29, .move (.tmp 8),ari),(are 30, .range t (.tmp 29),ari)])
  (hM:((nC (sub B (path++[0,1,0,0,0]))).toList.map fun o=>(o.dst,o.op,o.guard))=[(are 31, .next (.tmp 30) arj,ari),(are 32, .extract (.tmp 31) 0,ari)])
  (n0:((nC (sub B (path++[0,1,0,0,1,1,0,0]))).toList.map fun o=>(o.dst,o.op,o.guard))=[(are 33, .entry (.tmp 30),ari),(are 34, .extract (.tmp 33) 0,ari),(are 35, .extract (.tmp 33) 1,ari),(are 9, .assign (.tmp 34),ari),(are 10, .assign (.tmp 35),ari)])
  (pM:P.underlying t=are (.map kt vt)) (fA:ku P kt (X.G.bX kt)) (Bd:lU P vt (X.G.bX vt))
  (yB:∀a,cN (cB P kt) (X.G.bX kt a)= .int k (cast hk a)) (FE:∀a,cN (cB P vt) (X.G.bX vt a)= .int bW (cast aa a))
  (hw:(aaD (tx (nC (sub B (path++[0,1,0,0,1,1,0,1]))))&&(aaF (jK (sub B (path++[1])))&&aaG (jK (sub B path))))=arf)
  (ab:∀(a:D kt) (b:D vt) (a8:List (D e)) (wf:Bool),ps X (nC (sub B (path++[0,1,0,0,1,1,0,1]))).toList (nC (sub B (path++[0,1,0,0,1,1,0,1]))).toList [(6, .c (.own 0)),(9, .c (.int k (cast hk a))),(10, .c (.int bW (cast aa b)))] [.aE e a8 arj wf] (A4 e)=ark (eh a8 [app a b]) fun r=>are r)
  (fg:∀(a8:List (D e)) (wf:Bool),hK X [] calm arf [] (sub B (path++[1])) [(6, .c (.own 0))] [.aE e a8 arj wf] (getD e)=ark (@k9 (D e) ⟨x0⟩ (fun x y=>gf (key x) (key y)) a8) fun r=>are r)
  (Ly:∀(a8:List (D e)) (wf:Bool),hK X [] calm arf [] (sub B (path++[1])) [(6, .c (.own 0))] [.aE e a8 arj wf] (pr X 1 [0] (Ix D e))=ark (@k9 (D e) ⟨x0⟩ (fun x y=>gf (key x) (key y)) a8) fun dI=>are ((dI,(0:Int)):List (D e)×Int))
  {dc:D e->List arh} (kj:∀z x ds,(X.G.T e).rd z x ds->ds=dc x) (dm:∀z x,(X.G.T e).rd z x (dc x)) (gZ:∀x,(dc x).all b7=arf) (dt:0<(X.G.T e).aW) (nk:P.cellsOf (X.G.T e).tid=(X.G.T e).aW) (vS:e3 45 (sub B (path++[1]))=arf):
  nO X B (z1 D path e kt vt t) (aap path e kt vt t key app (@k9 (D e) ⟨x0⟩ fun x y=>gf (key x) (key y))):=by
 letI:Inhabited (D e):=⟨x0⟩
 simp only[arq] at hw;have K:RK X e kt vt t (o5 (sub B (path++[0,0]))) (o5 (sub B (path++[0,1]))) (o5 (sub B (path++[0,1,0,0,0]))) (o5 (sub B (path++[0,1,0,0,1,1]))) (o5 (sub B (path++[0,1,0,0,1,1,0,0]))) (o5 (sub B (path++[0,1,0,0,1,1,0,1])))
   (nC (sub B (path++[0,0]))) (nC (sub B (path++[0,1,0,0,0]))) (nC (sub B (path++[0,1,0,0,1,1,0,0]))) (nC (sub B (path++[0,1,0,0,1,1,0,1]))) (sub B (path++[1])) (afG P X e kt vt k bW hk aa app) (k9 fun x y=>gf (key x) (key y)) dc:={
  qM:=⟨mr.of gz,mr.of hM,mr.of n0⟩
  pM:=pM
  fA:=fA
  Bd:=Bd
  yB:=yB
  FE:=FE
  kZ:=fun _=>rfl
  Va:=fun a b h=>by have h:asM bW (cast aa a)= .int bW (cast aa b):=h;injection h with _ h;have:=congrArg (cast aa.symm) h;simpa using this
  vZ:=am5 hw.1
  ab:=fun a b a8 wf ai=>by
   refine (ab a b a8 wf).trans ?_;rw[show eh a8 [app a b]=are (a8++[app a b]) by
    unfold eh;rw[if_pos (by show a8.length+1<=mq;omega)]]
   rfl
  MK:=anL hw.2.1
  BQ:=fun t ak=>by rw[<-dS];exact anM hw.2.2 t ak
  fg:=fun a8 wf=>by rw[fg a8 wf];cases k9 (fun x y=>gf (key x) (key y)) a8<;>rfl
  kj:=kj
  dm:=dm
  gZ:=gZ
  dt:=dt
  nk:=nk}
 exact ale K bI hz vS key (fun a8 Rc av an=>ahm key av an) (fun a8 dI h=>by
  unfold k9 at h;split at h
  ·cases h;exact CA _ (q1 key) a8
  ·cases h) Ly dS
end
end
end Go.aQ
end
section
namespace Go.aQ
noncomputable section
section
variable {P:arl} {D:Nat->Type} {bj:dk P D}
structure oM (bj:dk P D) where
 X:dk P D
 ok:fL X
 gR:∀{d:bZ D} {F:d.F},b8 X d F->b8 bj d F
 dg:∀{d:gP D} {F:d.hZ.F},fa X d F->fa bj d F
def oM.oS (E:oM bj) (f:arm->Option arm->Option arm->Nat):oM bj:=⟨E.X.oS f,fL.oS E.ok,fun h=>E.gR (b8.oS h),fun h=>E.dg (fa.base h)⟩
structure cY (bj:dk P D) where
 aY:List (nP D)
 gs:List (GE D)
 ok:∀y∈aY,b8 bj y.d y.F
 Ls:∀y∈gs,fa bj y.d y.F
def cY.nil:cY bj:=⟨[],[],by simp,ajc⟩
def cY.du (T:cY bj) (d:bZ D) (F:d.F) (h:b8 bj d F):cY bj:=⟨⟨d,F⟩::T.aY,T.gs,agF (x:=⟨d,F⟩) h T.ok,T.Ls⟩
def cY.x5 (T:cY bj) (d:gP D) (F:d.hZ.F) (h:fa bj d F):cY bj:=⟨T.aY,⟨d,F⟩::T.gs,T.ok,ail (x:=⟨d,F⟩) h T.Ls⟩
def cY.aL (T:cY bj):oM bj:=⟨(bj.with T.aY).gen T.gs,fL.acp (fL.of T.ok) T.Ls,fun h=>b8.ey (b8.ey h),fun h=>fa.base (fa.base h)⟩
def cY.sub (T:cY bj) (d:bZ D) (F:d.F) (h:b8 bj d F):oM bj:=⟨T.aL.X.sub ⟨d,F⟩,fL.sub T.aL.ok (b8.aoJ (b8.up h)),fun h=>T.aL.gR (b8.sub h),fun h=>T.aL.dg (fa.base h)⟩
structure aI (E:oM bj) (B:Code) where
 us:List (lg D)
 ok:∀u∈us,pA E.X B u
variable {E:oM bj} {B:Code}
def aI.nil:aI E B:=⟨[],alF⟩
def aI.add (dq:aI E B) (p:gb D) (F:p.F) (h:nO E.X B p F) (hk:p.oQ B=arf):aI E B:=⟨p.za E.X F::dq.us,akc (h.za hk) dq.ok⟩
def aI.aR (dq:aI E B) (p:gb D) (F:p.F) (hk:p.oQ B=arf:=by kernel_rfl)
  (di:∀x,hK E.X dq.us calm arf p.path.reverse (aQ.sub B p.path) (fO E.X p.ins x++p.fx) (dC E.X p.ins x) (pr E.X (e0 p.ins) p.ks p.h9)=F x:=by intro x;kernel_rfl):aI E B:=
 dq.add p F (nO.of E.ok (fun u h _=>dq.ok u h) di) hk
def ZC:Code->Bool
 | .loop _=>arf
 |_=>arj
theorem agK {B:Code} {p:List Nat} (h:ZC (aQ.sub B p)=arf):aQ.sub B p= .loop (aQ.sub B (p++[0])):=by
 rw[<-OV];cases ad:aQ.sub B p<;>rw[ad] at h<;>first|(cases h;done)|exact congrArg Code.loop (pe _).symm
def aI.ej (dq:aI E B) (N:Nat) (p:gb D) (F:Nat->p.F) (hk:(ZC (aQ.sub B p.path)&&p.oQ B)=arf:=by kernel_rfl) (az:∀x,F 0 x=ari:=by exact fun x=>rfl)
  (di:∀n x,hK E.X dq.us calm arf (0::p.path.reverse) (aQ.sub B (p.path++[0])) (fO E.X p.ins x++p.fx) (dC E.X p.ins x) (ZH E.X p (F n))=F (n+1) x:=by intro n x;kernel_rfl):aI E B:=
 dq.add p (F N) (nO.loop E.ok (agK (att.1 hk).1) (att.1 hk).2 (fun u h _=>dq.ok u h) az di N) (att.1 hk).2
def HD (P:arl) (f np:Nat) (fn:Func):Bool:=fn.body.isSome&&(kG P f&&arF np fn.ntmps)
theorem Yj {fn:Func} (h:fn.body.isSome=arf):fn.body=are (bF fn):=by
 unfold bF;cases ab:fn.body with
 |none=>rw[ab] at h;cases h
 |some c=>rfl
def bZ.gp (P:arl) (d:bZ D) (fn:Func):Bool:=HD P d.f d.np fn&&(q6 d.outs&&((d.fx.all fun p=>sP p.2)&&((d.lD.all fun p=>sP p.2)&&(d.fx.all fun p=>(Dz p.2).isNone))))
theorem aI.fn {fn:Func} (dq:aI E (bF fn)) {d:bZ D} {F:d.F} (az:P.funcs[d.f]? =are fn) (h1:d.gp P fn=arf:=by kernel_rfl) (J:fn.results.toList=d.kK:=by exact rfl)
  (di:∀r x,hK E.X dq.us calm arf [] (bF fn) (fO E.X d.ins x++(d.fx++Dx d.h2)) (pq E.X d.h2 r) (aan E.X d)=F r x:=by intro r x;kernel_rfl):b8 bj d F:=by
 unfold bZ.gp HD at h1;simp only[arq] at h1;obtain ⟨⟨cr,a2,a3⟩,a4,a5,rH,pD⟩:=h1;exact E.gR (Jl.call ⟨⟨fn,_,az, .inl (Yj cr),a2,a3,J,D5.of E.ok (us:=dq.us) (fun u h _=>dq.ok u h) di⟩,a4,a5,rH,pD⟩)
def gP.gp (P:arl) (d:gP D) (fn:Func):Bool:=HD P d.f d.np fn&&d.hZ.oQ (bF fn)
theorem aI.E0 {fn:Func} (dq:aI E (bF fn)) {d:gP D} {F:d.hZ.F} (az:P.funcs[d.f]? =are fn) (h1:d.gp P fn=arf:=by kernel_rfl) (J:fn.results.toList=d.cv.map .tmp:=by exact rfl)
  (di:∀x,hK E.X dq.us calm arf d.hZ.path.reverse (aQ.sub (bF fn) d.hZ.path) (fO E.X d.hZ.ins x++d.hZ.fx) (dC E.X d.hZ.ins x) (fun ex=>pr E.X (e0 d.hZ.ins) d.hZ.ks d.hZ.h9 (B4 ex))=F x:=by intro x;kernel_rfl):fa bj d F:=by
 unfold gP.gp HD at h1;simp only[arq] at h1;obtain ⟨⟨cr,a2,a3⟩,a4⟩:=h1;exact E.dg (Jq.call ⟨⟨fn,_,az, .inl (Yj cr),a2,a3,J,a4,rq.of E.ok (us:=dq.us) (fun u h _=>dq.ok u h) di⟩⟩)
end
end
end Go.aQ
end
section
namespace Go.W
theorem Xc (c:UInt8) (r:List UInt8):∀p:List UInt8,c∉p->aue (p++c::r) [c]=p.length
 |[],_=>by simp[aue,List.isPrefixOf]
 |b::p,h=>by have ab:¬c=b:=fun e=>h (by rw[e];exact arS);rw[List.cons_append,aue,Xc c r p fun e=>h (arK _ e),if_neg (by simp[List.isPrefixOf,ab]),if_neg (by simp only[beq_iff_eq];omega)];simp
theorem Wa (c:UInt8):∀p:List UInt8,c∉p->aue p [c]= -1
 |[],_=>by simp[aue]
 |b::p,h=>by have ab:¬c=b:=fun e=>h (by rw[e];exact arS);rw[aue,Wa c p fun e=>h (arK _ e),if_neg (by simp[List.isPrefixOf,ab])];rfl
theorem W3 {c:UInt8} {p r:List UInt8} (h:c∉p):asp (p++c::r) [c]=p::asp r [c]:=by
 have af:=Xc c r p h;have aw:(p++c::r).drop (p.length+1)=r:=by rw[show p++c::r=(p++[c])++r by simp,List.drop_left' (by simp)]
 unfold asp;rw[Lib.count_hit (by simp) af,auP,aw,Nat.add_comm 1,Lib.splitK,af,if_neg (by simp only[beq_iff_eq];omega)];simp only[Int.toNat_natCast,ar3,auP,aw,List.take_left']
theorem WG {c:UInt8} {p:List UInt8} (h:c∉p):asp p [c]=[p]:=by
 have af:=Wa c p h;unfold asp;rw[Lib.count_miss af];rfl
theorem W2 {c:UInt8}:∀{l:List (List UInt8)},(∀p∈l,c∉p)->asp (l.flatMap fun p=>p++[c]) [c]=l++[[]]
 |[],_=>WG (by simp)
 |p::l,h=>by rw[asl,as7,List.singleton_append,W3 (h p arS),W2 fun q aF=>h q (arK _ aF)];rfl
theorem W4 {c:UInt8}:∀{l:List (List UInt8)} {p:List UInt8},c∉p->(∀p∈l,c∉p)->asp (p++l.flatMap fun p=>c::p) [c]=p::l
 |[],p,h,_=>by simp only[List.flatMap_nil,asI];exact WG h
 |q::l,p,h,ai=>by rw[asl,List.cons_append,W3 h,W4 (ai q arS) fun x U=>ai x (arK _ U)]
def qY (s:List UInt8):Nat:=s.foldl (fun n b=>10*n+(b.toNat - 48)) 0
theorem NX (l:List UInt8) (b:UInt8):qY (l++[b])=10*qY l+(b.toNat - 48):=by unfold qY;rw[List.foldl_append];rfl
theorem Co {u:Nat} (h:u<10):(asR (48+u)).toNat=48+u:=by simp;omega
theorem Zt (u:Nat):qY (asA u)=u/\(∀b∈asA u,48<=b.toNat/\b.toNat<=57)/\asA u≠[]/\(0<u->∃b r,asA u=b::r/\48<b.toNat):=by
 induction u using Nat.strongRecOn with
 |ind u aU=>
  rw[asA];split
  ·rename_i h;refine ⟨?_,fun b ab=> ?_,by simp,fun az=>⟨_,_,rfl,by rw[Co h];omega⟩⟩
   ·show 10*0+((asR (48+u)).toNat - 48)=u;rw[Co h];omega
   ·rw[ase.1 ab,Co h];omega
  ·rename_i h;obtain ⟨h1,J,aj,aJ⟩:=aU (u / 10) (by omega);have hm:u%10<10:=Nat.mod_lt _ (by omega);refine ⟨?_,fun b ab=> ?_,by simp,fun az=> ?_⟩
   ·rw[NX,h1,Co hm];omega
   ·rcases arO.1 ab with ab|ab
    ·exact J b ab
    ·rw[ase.1 ab,Co hm];omega
   ·obtain ⟨b,r,bk,dn⟩:=aJ (by omega);exact ⟨b,r++[_],by rw[bk];rfl,dn⟩
theorem G0:∀(k u:Nat),u<10 ^ (k+1)->(asA u).length<=k+1
 |k,u,h=>by
  rw[asA];split
  ·simp
  ·cases k with
   |zero=>omega
   |succ k=>have:=G0 k (u / 10) (by rw[Nat.pow_succ] at h;omega);rw[arJ,auP];omega
end Go.W
end
section
set_option maxRecDepth 100000
set_option maxHeartbeats 1000000
namespace Go.W
open Go.aQ
noncomputable section
structure eC where
 l:(List Int)
 n:Int
deriving DecidableEq
structure aB where
 kind:Int
 name:(List UInt8)
 a:Int
 b:Int
 c:Int
 length:Int
deriving DecidableEq
structure bo where
 aA:Int
 b4:Int
 out:Int
deriving DecidableEq
structure bi where
 aA:Int
 ed:Int
deriving DecidableEq
structure bQ where
 iV:Int
 ew:(List bo)
 e7:(List bi)
deriving DecidableEq
structure bK where
 aA:Int
 node:Int
deriving DecidableEq
structure Place where
 aA:Int
 b4:Int
deriving DecidableEq
def Rn (N:Nat) (x0:List Int):Option eC:=
 are (eC.mk x0 0)
def xP (N:Nat) (x0:Int):Option (List UInt8):=
 ark (oF 112) fun bh=>
 ark (oF (art .u8 ((art .i64 (48+(Int.tmod (art .i64 (Int.tdiv x0 10)) 10)))))) fun bE=>
 ark (oF (art .u8 ((art .i64 (48+(Int.tmod x0 10)))))) fun b6=>
 aQ.lt ([bh,bE,b6]:List UInt8) fun cx=>
 are cx
def Io (N:Nat) (x0:eC) (cf:Int) (fp:Bool):Option Int:=
 if fp=arf then
  ark (sh x0.n (x0.l.length:Int)) fun bh=>
  ark (bc x0.l bh) fun bE=>
  ark (ye x0.n (x0.l.length:Int)) fun b6=>
  aQ.lt (art .i64 (bE+(art .i64 ((art .i64 (b6))*7919)))) fun cx=>
  are cx
 else
  are cf
def Qq (N:Nat) (aZ:Int) (cf:Int) (tb:Bool):Option Int:=
 if tb=arf then
  aQ.lt (art .i64 (cf+aZ)) fun c6=>
  are c6
 else
  are cf
def lO (N:Nat) (x0:eC) (aZ:Int):Option (Int×eC):=
 ark (Io N x0 0 (decide (0<(x0.l.length:Int)))) fun cG=>
 ark (sh cG aZ) fun c5=>
 ark (Qq N aZ c5 (decide (c5<0))) fun dK=>
 are (dK,(eC.mk x0.l (art .i64 (x0.n+1))))
def Ja (N:Nat) (x0:eC) (aZ:List Int):Option (Int×eC):=
 ark (lO N x0 (aZ.length:Int)) fun bh=>
 ark (bc aZ bh.1) fun bE=>
 are (bE,bh.2)
def H9 (N:Nat) (b9:List Int) (oH:Bool):Option (List Int):=
 if oH=arf then
  ark (eh b9 ([0]:List Int)) fun b6=>
  are b6
 else
  are b9
def Ia (N:Nat) (aZ:Int) (cf:List aB) (b9:List Int) (cq:Int):Option Bool:=
 if (decide ((cf.length:Int)<aZ))=arf then
  if (decide (0<(b9.length:Int)))=arf then
   are (decide (cq<62))
  else
   are arj
 else
  are arj
def Ic (N:Nat) (tc:Int) (aa0:Bool):Option Bool:=
 if aa0=arf then
  are aa0
 else
  aQ.lt (tc==1) fun kr=>
  are kr
def P6 (N:Nat) (x0:eC) (b9:List Int):Option (eC×Bool):=
 ark (lO N x0 3) fun u7=>
 if (u7.1==0)=arf then
  are (u7.2,(decide (0<(b9.length:Int))))
 else
  are (u7.2,arj)
def Ib (N:Nat) (x0:eC) (b9:List Int) (cq:Int) (e8:Int) (cD:aB) (tc:Int):Option (eC×List Int×Int×aB):=
 aQ.lt (tc==0) fun hT=>
 ark (Ic N tc hT) fun h4=>
 if h4=arf then
  ark (eh b9 ([cq,(art .i64 (cq+1))]:List Int)) fun ju=>
  aQ.lt (art .i64 (cq+2)) fun jd=>
  are (x0,ju,jd,(aB.mk 2 cD.name e8 cq (art .i64 (cq+1)) cD.length))
 else
  aQ.lt (tc==2) fun oJ=>
  if oJ=arf then
   ark (eh b9 ([cq,(art .i64 (cq+1))]:List Int)) fun pt=>
   aQ.lt (art .i64 (cq+2)) fun td=>
   are (x0,pt,td,(aB.mk 2 cD.name cq e8 (art .i64 (cq+1)) cD.length))
  else
   aQ.lt (tc==3) fun te=>
   if te=arf then
    ark (eh b9 ([cq]:List Int)) fun u6=>
    aQ.lt (art .i64 (cq+1)) fun rk=>
    are (x0,u6,rk,(aB.mk 3 cD.name e8 cq cD.c cD.length))
   else
    ark (Ja N x0 ([1,300,100000]:List Int)) fun na=>
    ark (P6 N na.2 b9) fun xL=>
    if xL.2=arf then
     ark (bc b9 (art .i64 ((b9.length:Int) - 1))) fun Ah=>
     ark (bc b9 (art .i64 ((b9.length:Int) - 1))) fun IM=>
     ark (gH b9 0 (art .i64 ((b9.length:Int) - 1))) fun DO=>
     are (xL.1,DO,cq,(aB.mk 1 cD.name e8 IM cD.c na.1))
    else
     ark (lO N xL.1 2) fun DP=>
     if (DP.1==0)=arf then
      ark (eh b9 ([cq]:List Int)) fun Q1=>
      aQ.lt (art .i64 (cq+1)) fun Q2=>
      are (DP.2,Q1,Q2,(aB.mk 1 cD.name e8 cq cD.c na.1))
     else
      aQ.lt (art .i64 (cq+1)) fun Q3=>
      are (DP.2,b9,Q3,(aB.mk 1 cD.name e8 cq cD.c na.1))
def Dt (N:Nat) (aZ:Int):Nat->eC->(List aB)->(List Int)->Int->Option (eC×List aB×List Int×Int)
 |0,_,_,_,_=>ari
 |n+1,x0,cf,b9,cq=>
  ark (Ia N aZ cf b9 cq) fun cG=>
  if cG=arf then
   ark (lO N x0 (b9.length:Int)) fun c5=>
   ark (bc b9 c5.1) fun c6=>
   ark (bc b9 c5.1) fun dK=>
   ark (gH b9 0 c5.1) fun dJ=>
   ark (gH b9 (art .i64 (c5.1+1)) (b9.length:Int)) fun ep=>
   ark (eh (List.take (Int.toNat c5.1) b9) (List.drop (Int.toNat (art .i64 (c5.1+1))) (List.take (Int.toNat (b9.length:Int)) b9))) fun eW=>
   ark (xP N (cf.length:Int)) fun e9=>
   ark (lO N c5.2 6) fun e4=>
   ark (Ib N e4.2 eW cq dK (aB.mk 0 e9 0 0 0 0) e4.1) fun Ai=>
   ark (eh cf ([Ai.2.2.2]:List aB)) fun Q4=>
   Dt N aZ n Ai.1 Q4 Ai.2.1 Ai.2.2.1
  else
   are (x0,cf,b9,cq)
def Ie (N:Nat) (cf:List aB) (b9:List Int) (cq:Int):Option Bool:=
 if (decide (0<(b9.length:Int)))=arf then
  if (decide ((cf.length:Int)<96))=arf then
   are (decide (cq<64))
  else
   are arj
 else
  are arj
def Qm (N:Nat) (cf:List aB) (b9:List Int) (cq:Int) (apV:Bool):Option (List aB×Int):=
 if apV=arf then
  ark (xP N (cf.length:Int)) fun Q5=>
  ark (bc b9 0) fun Q6=>
  ark (bc b9 0) fun Q7=>
  ark (eh cf ([(aB.mk 1 Q5 Q7 cq 0 200)]:List aB)) fun Q8=>
  aQ.lt (art .i64 (cq+1)) fun Q9=>
  are (Q8,Q9)
 else
  are (cf,cq)
def Du (N:Nat):Nat->eC->(List aB)->(List Int)->Int->Option (eC×List aB)
 |0,_,_,_,_=>ari
 |n+1,x0,cf,b9,cq=>
  ark (Ie N cf b9 cq) fun aa1=>
  if aa1=arf then
   ark (lO N x0 5) fun IN=>
   ark (Qm N cf b9 cq (decide (0<IN.1))) fun Ra=>
   ark (gH b9 1 (b9.length:Int)) fun Rb=>
   Du N n IN.2 Ra.1 Rb Ra.2
  else
   are (x0,cf)
def DY (N:Nat) (x0:eC) (aZ:Int):Option (List aB×eC):=
 ark (xP N 0) fun bh=>
 ark (lO N x0 2) fun bE=>
 ark (H9 N ([1]:List Int) (bE.1==0)) fun cx=>
 ark (Dt N aZ N bE.2 ([(aB.mk 1 bh 0 1 0 500)]:List aB) cx 2) fun Aj=>
 ark (Du N N Aj.1 Aj.2.1 Aj.2.2.1 Aj.2.2.2) fun IP=>
 are (IP.2,IP.1)
def Qs (N:Nat) (c4:Int) (cf:Bool):Option Bool:=
 if cf=arf then
  are cf
 else
  aQ.lt (c4==3) fun bE=>
  are bE
def xR (N:Nat) (x0:aB):Option (List Int):=
 aQ.lt (x0.kind==1) fun bh=>
 ark (Qs N x0.kind bh) fun b6=>
 if b6=arf then
  are ([x0.a,x0.b]:List Int)
 else
  aQ.lt (x0.kind==2) fun cx=>
  if cx=arf then
   are ([x0.a,x0.b,x0.c]:List Int)
  else
   are []
def Qt (N:Nat) (x0:List UInt8):Option Bool:=
 if (decide ((x0.length:Int)<1))=arf then
  are arf
 else
  are (decide (12<(x0.length:Int)))
def Iq (N:Nat) (x0:List UInt8) (ct:Int):Option Bool:=
 ark (bc x0 ct) fun bE=>
 if (decide ((asP bE:Int)<97))=arf then
  ark (bc x0 ct) fun b6=>
  if (decide ((asP b6:Int)<48))=arf then
   are arf
  else
   ark (bc x0 ct) fun cx=>
   are (decide (57<(asP cx:Int)))
 else
  ark (bc x0 ct) fun cG=>
  if (decide (122<(asP cG:Int)))=arf then
   ark (bc x0 ct) fun c5=>
   if (decide ((asP c5:Int)<48))=arf then
    are arf
   else
    ark (bc x0 ct) fun c6=>
    are (decide (57<(asP c6:Int)))
  else
   are arj
def uT (N:Nat) (x0:List UInt8) (eo:Int):Nat->Int->Option (Sum (Unit) (Bool))
 |0,_=>ari
 |n+1,hr=>
  if (decide (hr<eo))=arf then
   ark (Iq N x0 hr) fun dK=>
   if dK=arf then
    are (arx arj)
   else
    uT N x0 eo n (art .i64 (hr+1))
  else
   are (ary ())
def Jd (N:Nat) (x0:List UInt8):Option Bool:=
 ark (Qt N x0) fun bh=>
 if bh=arf then
  are arj
 else
  ark (uT N x0 (x0.length:Int) N 0) fun dJ=>
  match dJ with
  |ary ep=>
   are arf
  |arx eW=>
   are eW
def P0 (N:Nat) (aZ:aB) (ct:List Int):Option Bool:=
 o9 ct fun bE=>
 if bE=arf then
  are arf
 else
  ark (Jd N aZ.name) fun b6=>
  are (!b6)
def P1 (N:Nat) (cf:Int):Option Bool:=
 if (decide (cf<0))=arf then
  are arf
 else
  are (decide (64<=cf))
def sH (N:Nat) (cf:Int) (xI:List Int) (aaQ:Int):Nat->Int->Option (Sum (Unit) (Bool))
 |0,_=>ari
 |n+1,Ag=>
  if (decide (Ag<aaQ))=arf then
   ark (bc xI Ag) fun dK=>
   if (cf==dK)=arf then
    are (arx arj)
   else
    sH N cf xI aaQ n (art .i64 (Ag+1))
  else
   are (ary ())
def sG (N:Nat) (ct:List Int) (xH:List Int) (oI:Int):Nat->Int->Option (Sum (Unit) (Bool))
 |0,_=>ari
 |n+1,js=>
  if (decide (js<oI))=arf then
   ark (bc xH js) fun cG=>
   ark (P1 N cG) fun c5=>
   if c5=arf then
    are (arx arj)
   else
    ark (gH ct 0 js) fun c6=>
    ark (sH N cG c6 (c6.length:Int) N 0) fun dJ=>
    match dJ with
    |ary ep=>
     sG N ct xH oI n (art .i64 (js+1))
    |arx eW=>
     are (arx eW)
  else
   are (ary ())
def P2 (N:Nat) (aZ:aB):Option Bool:=
 if (aZ.c==0)=arf then
  if (decide (1<=aZ.length))=arf then
   aQ.lt (decide (aZ.length<=100000)) fun hT=>
   are hT
  else
   are arj
 else
  are arj
def P3 (N:Nat) (aZ:aB):Option Bool:=
 if (aZ.length==0)=arf then
  if (aZ.kind==2)=arf then
   are arf
  else
   aQ.lt (aZ.c==0) fun h4=>
   are h4
 else
  are arj
def I4 (N:Nat) (x0:aB):Option Bool:=
 ark (xR N x0) fun bh=>
 ark (P0 N x0 bh) fun cx=>
 if cx=arf then
  are arj
 else
  ark (sG N bh bh (bh.length:Int) N 0) fun e9=>
  match e9 with
  |ary e4=>
   if (x0.kind==1)=arf then
    ark (P2 N x0) fun kr=>
    are kr
   else
    ark (P3 N x0) fun ju=>
    are ju
  |arx jd=>
   are jd
def PX (N:Nat) (c4:Int) (cf:Bool):Option Bool:=
 if cf=arf then
  are cf
 else
  aQ.lt (c4==3) fun bE=>
  are bE
def I0 (N:Nat) (x0:aB):Option Unit:=
 aQ.lt (x0.kind==1) fun bh=>
 ark (PX N x0.kind bh) fun b6=>
 if b6=arf then
  ari
 else
  aQ.lt (x0.kind==2) fun cx=>
  if cx=arf then
   ari
  else
   are ()
def PZ (N:Nat):Option Bool:=
 are arf
def aag (N:Nat) (oI:Int):Nat->Int->Option Unit
 |0,_=>ari
 |n+1,js=>
  if (decide (js<oI))=arf then
   ari
  else
   are ()
def aah (N:Nat) (aZ:aB):Option Bool:=
 if (aZ.c==0)=arf then
  if (decide (1<=aZ.length))=arf then
   aQ.lt (decide (aZ.length<=100000)) fun cx=>
   are cx
  else
   are arj
 else
  are arj
def aai (N:Nat) (aZ:aB):Option Bool:=
 if (aZ.length==0)=arf then
  if (aZ.kind==2)=arf then
   are arf
  else
   aQ.lt (aZ.c==0) fun c5=>
   are c5
 else
  are arj
def Rj (N:Nat) (x0:aB):Option Bool:=
 ark (I0 N x0) fun bh=>
 ark (PZ N) fun bE=>
 if bE=arf then
  are arj
 else
  ark (aag N (([]:List Int).length:Int) N 0) fun b6=>
  if (x0.kind==1)=arf then
   ark (aah N x0) fun cG=>
   are cG
  else
   ark (aai N x0) fun c6=>
   are c6
def Rl (N:Nat) (x0:aB):Option Bool:=
 F5 (Rj N x0) (I4 N x0)
def sL (N:Nat) (QW:List Int) (aaP:Int):Nat->(List (Int×Int))->Int->Option (Sum ((List (Int×Int))) (Int))
 |0,_,_=>ari
 |n+1,c4,xI=>
  if (decide (xI<aaP))=arf then
   ark (bc QW xI) fun c5=>
   ark (bc QW xI) fun c6=>
   aQ.lt (bn c4 c6) fun dK=>
   if ((dK.getD 0)==2)=arf then
    are (arx 17)
   else
    aQ.lt (bn c4 c6) fun dJ=>
    aQ.lt (eJ c4 c6 (art .i64 ((dJ.getD 0)+1))) fun ep=>
    sL N QW aaP n ep (art .i64 (xI+1))
  else
   are (ary c4)
def zK (N:Nat) (hr:List aB) (fq:Int):Nat->(List ((List UInt8)×Bool))->(List (Int×Int))->Int->Option (Sum (Unit) (Int))
 |0,_,_,_=>ari
 |n+1,ct,c4,h3=>
  if (decide (h3<fq))=arf then
   ark (bc hr h3) fun bh=>
   ark (Rl N bh) fun bE=>
   if (!bE)=arf then
    are (arx 1)
   else
    aQ.lt (bn ct bh.name) fun b6=>
    if (b6.getD arj)=arf then
     are (arx 8)
    else
     aQ.lt (eJ ct bh.name arf) fun cx=>
     ark (xR N bh) fun cG=>
     ark (sL N cG (cG.length:Int) N c4 0) fun eW=>
     match eW with
     |ary e9=>
      zK N hr fq n cx e9 (art .i64 (h3+1))
     |arx e4=>
      are (arx e4)
  else
   are (ary ())
def pu (N:Nat) (x0:List aB):Option Int:=
 if (decide (96<(x0.length:Int)))=arf then
  are 3
 else
  ark (zK N x0 (x0.length:Int) N [] [] 0) fun hT=>
  match hT with
  |ary kr=>
   are 0
  |arx h4=>
   are h4
def jj (k:Int):List UInt8:=if k=1 then [116,114,97,99,107] else if k=2 then [115,119,105,116,99,104] else [100,101,114,97,105,108,101,114]
def hL (x:aB):List Int:=if x.kind=1 then [x.a,x.b,x.length] else if x.kind=2 then [x.a,x.b,x.c] else [x.a,x.b]
def yi (x:aB):List UInt8:=jj x.kind++(32::x.name)++(hL x).flatMap (fun n=>32::Lib.itoa n)++[10]
def ji (l:List aB):List UInt8:=l.flatMap yi
def Lk (x:aB):Bool:=decide (x.kind=1\/x.kind=2\/x.kind=3)&&decide (x.name.length<=12)&&decide ((0<=x.a/\x.a<=100000)/\(0<=x.b/\x.b<=100000)/\(0<=x.c/\x.c<=100000)/\0<=x.length/\x.length<=100000)
def q5 (l:List aB):Bool:=decide (1<=l.length/\l.length<=96)&&l.all Lk
def va (N:Nat) (x0:List aB):Option (List UInt8×Int):=
 ark (pu N x0) fun e=>if e=0/\q5 x0=arf then are (ji x0,0) else ari
def rl (N:Nat) (x0:List UInt8) (aZ:List UInt8):Option (List (List UInt8)):=
 if aZ.length=1/\x0.length<4294967281 then are (asp x0 aZ) else ari
def aa6 (N:Nat) (x0:Int):Option (List UInt8×Int):=
 aQ.lt (x0==1) fun bh=>
 if bh=arf then
  are ([116,114,97,99,107],3)
 else
  aQ.lt (x0==2) fun bE=>
  if bE=arf then
   are ([115,119,105,116,99,104],3)
  else
   aQ.lt (x0==3) fun b6=>
   if b6=arf then
    are ([100,101,114,97,105,108,101,114],2)
   else
    are ([],0)
def HJ (N:Nat) (x0:List UInt8):Option Bool:=
 if (x0==[])=arf then
  are arf
 else
  if (decide (7<(x0.length:Int)))=arf then
   are arf
  else
   ark (bc x0 0) fun bh=>
   if ((asP bh:Int)==48)=arf then
    are (!(x0==[48]))
   else
    are arj
def HK (N:Nat) (x0:List UInt8) (cf:Int):Option Bool:=
 ark (bc x0 cf) fun b6=>
 if (decide ((asP b6:Int)<48))=arf then
  are arf
 else
  ark (bc x0 cf) fun cx=>
  are (decide (57<(asP cx:Int)))
def xk (N:Nat) (x0:List UInt8) (mY:Int):Nat->Int->Int->Option (Sum (Int) (Int×Bool))
 |0,_,_=>ari
 |n+1,c4,nN=>
  if (decide (nN<mY))=arf then
   ark (HK N x0 nN) fun cG=>
   if cG=arf then
    are (arx (0,arj))
   else
    ark (bc x0 nN) fun c5=>
    aQ.lt (art .i64 ((art .i64 (10*c4))+(art .i64 ((art .u8 ((asP c5:Int) - 48)))))) fun c6=>
    xk N x0 mY n c6 (art .i64 (nN+1))
  else
   are (ary c4)
def oK (N:Nat) (x0:List UInt8):Option (Int×Bool):=
 ark (HJ N x0) fun bE=>
 if bE=arf then
  are (0,arj)
 else
  ark (xk N x0 (x0.length:Int) N 0 0) fun dK=>
  match dK with
  |ary dJ=>
   aQ.lt (decide (dJ<=1000000)) fun ep=>
   are (dJ,ep)
  |arx eW=>
   are (eW.1,eW.2)
def aaj (N:Nat) (c4:List (List UInt8)) (cf:aB) (b9:Int) (cq:Int):Option (aB×Int):=
 ark (aa6 N cq) fun bE=>
 ark (bc c4 0) fun b6=>
 ark (bc c4 0) fun cx=>
 if (bE.1==cx)=arf then
  are ((aB.mk cq cf.name cf.a cf.b cf.c cf.length),bE.2)
 else
  are (cf,b9)
def Ir (N:Nat) (c4:List (List UInt8)):Nat->aB->Int->Int->Option (aB×Int)
 |0,_,_,_=>ari
 |n+1,cf,b9,cq=>
  if (decide (cq<=3))=arf then
   ark (aaj N c4 cf b9 cq) fun cG=>
   aQ.lt (art .i64 (cq+1)) fun c5=>
   Ir N c4 n cG.1 cG.2 c5
  else
   are (cf,b9)
def uU (N:Nat) (c4:List (List UInt8)) (cf:aB) (b9:Int):Option Bool:=
 if (cf.kind==0)=arf then
  are arf
 else
  if ((c4.length:Int) !=(art .i64 (b9+2)))=arf then
   are arf
  else
   ark (bc c4 1) fun dK=>
   ark (bc c4 1) fun dJ=>
   are (dJ==[])
def sN (N:Nat) (c4:List (List UInt8)) (cf:aB) (aaV:Int):Nat->aB->(List Int)->Int->Option (Sum (aB×List Int) (aB×Bool))
 |0,_,_,_=>ari
 |n+1,dy,cD,tb=>
  if (decide (tb<aaV))=arf then
   ark (bc c4 (art .i64 (tb+2))) fun eW=>
   ark (bc c4 (art .i64 (tb+2))) fun e9=>
   ark (oK N e9) fun e4=>
   if (!e4.2)=arf then
    are (arx (cf,arj))
   else
    ark (bc cD tb) fun hT=>
    ark (bc cD tb) fun kr=>
    aQ.lt (cD.set ((tb:Int).toNat) e4.1) fun h4=>
    sN N c4 cf aaV n dy h4 (art .i64 (tb+1))
  else
   are (ary (dy,cD))
def aak (N:Nat) (cf:aB) (cD:List Int) (apY:Bool):Option aB:=
 if apY=arf then
  ark (bc cD 2) fun na=>
  ark (bc cD 2) fun u7=>
  are (aB.mk cf.kind cf.name cf.a cf.b cf.c u7)
 else
  ark (bc cD 2) fun xL=>
  ark (bc cD 2) fun Ah=>
  are (aB.mk cf.kind cf.name cf.a cf.b Ah cf.length)
def Je (N:Nat) (x0:List UInt8):Option (aB×Bool):=
 ark (rl N x0 [32]) fun bh=>
 ark (Ir N bh N (aB.mk 0 [] 0 0 0 0) 0 1) fun c6=>
 ark (uU N bh c6.1 c6.2) fun ep=>
 if ep=arf then
  are (c6.1,arj)
 else
  ark (sN N bh c6.1 c6.2 N (aB.mk 0 [] 0 0 0 0) (arL 3 0) 0) fun ju=>
  match ju with
  |ary jd=>
   ark (bc bh 1) fun oJ=>
   ark (bc bh 1) fun pt=>
   ark (bc jd.2 0) fun td=>
   ark (bc jd.2 0) fun te=>
   ark (bc jd.2 1) fun u6=>
   ark (bc jd.2 1) fun rk=>
   ark (aak N (aB.mk c6.1.kind pt te rk c6.1.c c6.1.length) jd.2 (c6.1.kind==1)) fun IM=>
   are (IM,arf)
  |arx DO=>
   are (DO.1,DO.2)
def Im (N:Nat) (cf:List (List UInt8)) (jO:Bool):Option (List (List UInt8)):=
 if jO=arf then
  ark (gH cf 0 (art .i64 ((cf.length:Int) - 1))) fun cx=>
  are cx
 else
  are cf
def xl (N:Nat) (aaN:List (List UInt8)) (aaO:Int):Nat->(List aB)->Int->Option (Sum (List aB) (Int×Int))
 |0,_,_=>ari
 |n+1,dy,IJ=>
  if (decide (IJ<aaO))=arf then
   ark (bc aaN IJ) fun c5=>
   ark (Je N c5) fun c6=>
   if (!c6.2)=arf then
    aQ.lt (art .i64 (IJ+1)) fun dK=>
    are (arx (dK,6))
   else
    ark (eh dy ([c6.1]:List aB)) fun dJ=>
    xl N aaN aaO n dJ (art .i64 (IJ+1))
  else
   are (ary dy)
def I8 (N:Nat) (x0:List UInt8):Option (List aB×Int×Int):=
 if (decide (16384<(x0.length:Int)))=arf then
  are ([],0,3)
 else
  ark (rl N x0 [10]) fun bh=>
  ark (bc bh (art .i64 ((bh.length:Int) - 1))) fun bE=>
  ark (bc bh (art .i64 ((bh.length:Int) - 1))) fun b6=>
  ark (Im N bh (b6==[])) fun cG=>
  ark (xl N cG (cG.length:Int) N [] 0) fun ep=>
  match ep with
  |ary eW=>
   ark (pu N eW) fun e9=>
   if (e9 !=0)=arf then
    are ([],0,e9)
   else
    are (eW,0,0)
  |arx e4=>
   are ([],e4.1,e4.2)
def sZ (N:Nat) (x0:List aB) (aZ:List aB):Nat->Int->Option (Sum (Unit) (Bool))
 |0,_=>ari
 |n+1,cf=>
  if (decide (cf<(x0.length:Int)))=arf then
   ark (bc x0 cf) fun bh=>
   ark (bc aZ cf) fun bE=>
   if (!(decide (bh=bE)))=arf then
    are (arx arj)
   else
    aQ.lt (art .i64 (cf+1)) fun b6=>
    sZ N x0 aZ n b6
  else
   are (ary ())
def IX (N:Nat) (x0:List aB) (aZ:List aB):Option Bool:=
 if ((x0.length:Int) !=(aZ.length:Int))=arf then
  are arj
 else
  ark (sZ N x0 aZ N 0) fun cx=>
  match cx with
  |ary cG=>
   are arf
  |arx c5=>
   are c5
def PY (N:Nat) (x0:List aB) (ct:List Int) (c4:Int):Option (List Int):=
 ark (bc x0 c4) fun bh=>
 if (bh.kind==1)=arf then
  ark (eh ct ([c4]:List Int)) fun bE=>
  are bE
 else
  are ct
def zU (N:Nat) (x0:List aB):Nat->(List Int)->Int->Option (List Int)
 |0,_,_=>ari
 |n+1,ct,c4=>
  if (decide (c4<(x0.length:Int)))=arf then
   ark (PY N x0 ct c4) fun b6=>
   aQ.lt (art .i64 (c4+1)) fun cx=>
   zU N x0 n b6 cx
  else
   are ct
def I1 (N:Nat) (x0:List aB):Option (List Int):=
 ark (zU N x0 N [] 0) fun cG=>
 are cG
def Qv (N:Nat) (x0:List aB) (aZ:Int):Option Bool:=
 if (decide (aZ<0))=arf then
  are arf
 else
  are (decide ((x0.length:Int)<=aZ))
def Qw (N:Nat) (oH:Int) (xH:Bool):Option Bool:=
 if xH=arf then
  are xH
 else
  aQ.lt (oH==3) fun cx=>
  are cx
def An (N:Nat) (x0:List aB) (aZ:Int):Option (List Int):=
 ark (Qv N x0 aZ) fun bh=>
 if bh=arf then
  are []
 else
  ark (bc x0 aZ) fun bE=>
  aQ.lt (bE.kind==1) fun b6=>
  ark (Qw N bE.kind b6) fun cG=>
  if cG=arf then
   ark (bc x0 aZ) fun c5=>
   ark (bc x0 aZ) fun c6=>
   are ([c5.a,c6.b]:List Int)
  else
   aQ.lt (bE.kind==2) fun dK=>
   if dK=arf then
    ark (bc x0 aZ) fun dJ=>
    ark (bc x0 aZ) fun ep=>
    ark (bc x0 aZ) fun eW=>
    are ([dJ.a,ep.b,eW.c]:List Int)
   else
    are []
def uW (N:Nat) (x0:List Int) (aZ:Int):Nat->Int->Option (Sum (Unit) (Bool))
 |0,_=>ari
 |n+1,cf=>
  if (decide (cf<(x0.length:Int)))=arf then
   ark (bc x0 cf) fun bh=>
   if (bh==aZ)=arf then
    are (arx arf)
   else
    aQ.lt (art .i64 (cf+1)) fun bE=>
    uW N x0 aZ n bE
  else
   are (ary ())
def D2 (N:Nat) (x0:List Int) (aZ:Int):Option Bool:=
 ark (uW N x0 aZ N 0) fun b6=>
 match b6 with
 |ary cx=>
  are arj
 |arx cG=>
  are cG
def P4 (N:Nat) (x0:List aB) (aZ:Int) (dy:Int) (cq:Int):Option Bool:=
 if (cq !=aZ)=arf then
  ark (An N x0 cq) fun bh=>
  ark (D2 N bh dy) fun bE=>
  are bE
 else
  are arj
def uS (N:Nat) (x0:List aB) (aZ:Int) (dy:Int):Nat->Int->Option (Sum (Unit) (Int))
 |0,_=>ari
 |n+1,cq=>
  if (decide (cq<(x0.length:Int)))=arf then
   ark (P4 N x0 aZ dy cq) fun b6=>
   if b6=arf then
    are (arx cq)
   else
    aQ.lt (art .i64 (cq+1)) fun cx=>
    uS N x0 aZ dy n cx
  else
   are (ary ())
def DX (N:Nat) (x0:List aB) (aZ:Int) (dy:Int):Option Int:=
 ark (uS N x0 aZ dy N 0) fun cG=>
 match cG with
 |ary c5=>
  are (-1)
 |arx c6=>
  are c6
def I9 (N:Nat) (x0:List aB) (aZ:Int) (dy:Int):Option (List Int):=
 ark (An N x0 aZ) fun bh=>
 ark (D2 N bh dy) fun bE=>
 aQ.lt (!bE) fun b6=>
 if b6=arf then
  are []
 else
  ark (bc bh 0) fun cx=>
  ark (bc bh 0) fun cG=>
  aQ.lt (cG==dy) fun c5=>
  if c5=arf then
   ark (gH bh 1 (bh.length:Int)) fun c6=>
   ark (eh ([]:List Int) c6) fun dK=>
   are dK
  else
   ark (bc bh 0) fun dJ=>
   ark (bc bh 0) fun ep=>
   are ([ep]:List Int)
def HL (N:Nat) (x0:eC) (aZ:List aB) (cD:Int) (fp:List Int):Option (eC×Bool):=
 ark (bc aZ cD) fun eW=>
 if (eW.kind==1)=arf then
  ark (lO N x0 2) fun e9=>
  if (e9.1==0)=arf then
   are (e9.2,arf)
  else
   ark (bc fp 0) fun e4=>
   ark (bc fp 0) fun hT=>
   ark (DX N aZ cD hT) fun kr=>
   are (e9.2,(decide (kr<0)))
 else
  are (x0,arj)
def sI (N:Nat) (aZ:List aB):Nat->eC->bo->(List bo)->Int->Option (Sum (eC×List bo) (eC×List bo))
 |0,_,_,_,_=>ari
 |n+1,x0,b9,dH,e8=>
  if (decide (e8<12))=arf then
   ark (DX N aZ b9.aA b9.out) fun dJ=>
   if (decide (dJ<0))=arf then
    are (ary (x0,dH))
   else
    ark (I9 N aZ dJ b9.out) fun ep=>
    ark (HL N x0 aZ dJ ep) fun h4=>
    if h4.2=arf then
     ark (eh dH ([(bo.mk dJ b9.out (-1))]:List bo)) fun ju=>
     are (arx (h4.1,ju))
    else
     ark (lO N h4.1 (ep.length:Int)) fun jd=>
     ark (bc ep jd.1) fun oJ=>
     ark (bc ep jd.1) fun pt=>
     ark (eh dH ([(bo.mk dJ b9.out pt)]:List bo)) fun td=>
     aQ.lt (art .i64 (e8+1)) fun te=>
     sI N aZ n jd.2 (bo.mk dJ b9.out pt) td te
  else
   are (ary (x0,dH))
def I7 (N:Nat) (x0:eC) (aZ:List aB):Option (List bo×eC):=
 ark (I1 N aZ) fun bh=>
 ark (lO N x0 (bh.length:Int)) fun bE=>
 ark (bc bh bE.1) fun b6=>
 ark (bc bh bE.1) fun cx=>
 ark (An N aZ cx) fun cG=>
 ark (lO N bE.2 (cG.length:Int)) fun c5=>
 ark (bc cG c5.1) fun c6=>
 ark (bc cG c5.1) fun dK=>
 ark (sI N aZ N c5.2 (bo.mk cx (-1) dK) ([(bo.mk cx (-1) dK)]:List bo) 0) fun u6=>
 match u6 with
 |ary rk=>
  are (rk.2,rk.1)
 |arx na=>
  are (na.2,na.1)
def Qp (N:Nat) (x0:List aB) (aZ:Int):Option Bool:=
 if (decide (0<=aZ))=arf then
  if (decide (aZ<(x0.length:Int)))=arf then
   ark (bc x0 aZ) fun bh=>
   aQ.lt (bh.kind==1) fun bE=>
   are bE
  else
   are arj
 else
  are arj
def xQ (N:Nat) (x0:List aB) (aZ:Int):Option Bool:=
 ark (Qp N x0 aZ) fun b6=>
 are b6
def Qr (N:Nat) (x0:List aB) (aZ:Int):Option Bool:=
 if (decide (aZ<0))=arf then
  are arf
 else
  are (decide ((x0.length:Int)<=aZ))
def vb (N:Nat) (x0:List aB) (aZ:Int):Option (List Int):=
 ark (Qr N x0 aZ) fun bh=>
 if bh=arf then
  are []
 else
  ark (bc x0 aZ) fun bE=>
  ark (xR N bE) fun b6=>
  are b6
def uQ (N:Nat) (x0:List Int) (aZ:Int) (cq:Int):Nat->Int->Option (Sum (Unit) (Int))
 |0,_=>ari
 |n+1,dH=>
  if (decide (dH<cq))=arf then
   ark (bc x0 dH) fun bh=>
   if (aZ==bh)=arf then
    are (arx dH)
   else
    uQ N x0 aZ cq n (art .i64 (dH+1))
  else
   are (ary ())
def Rh (N:Nat) (x0:List Int) (aZ:Int):Option Int:=
 ark (uQ N x0 aZ (x0.length:Int) N 0) fun bE=>
 match bE with
 |ary b6=>
  are (-1)
 |arx cx=>
  are cx
def Al (N:Nat) (x0:List Int) (aZ:Int):Option Bool:=
 ark (Rh N x0 aZ) fun bh=>
 aQ.lt (decide (0<=bh)) fun bE=>
 are bE
def s3 (N:Nat) (dy:Int) (cq:Int) (kq:List Int) (mY:Int):Nat->Int->Option (Sum (Unit) (Int))
 |0,_=>ari
 |n+1,nN=>
  if (decide (nN<mY))=arf then
   ark (bc kq nN) fun b6=>
   ark (bc kq nN) fun cx=>
   if (cx==dy)=arf then
    are (arx cq)
   else
    s3 N dy cq kq mY n (art .i64 (nN+1))
  else
   are (ary ())
def Qf (N:Nat) (aZ:Int) (dy:Int) (fp:List aB) (eo:Int):Option (Sum (Unit) (Int)):=
 ark (bc fp eo) fun bh=>
 if (eo==aZ)=arf then
  are (ary ())
 else
  ark (xR N bh) fun bE=>
  ark (s3 N dy eo bE (bE.length:Int) N 0) fun cG=>
  match cG with
  |ary c5=>
   are (ary ())
  |arx c6=>
   are (arx c6)
def uR (N:Nat) (aZ:Int) (dy:Int) (fp:List aB) (iq:Int):Nat->Int->Option (Sum (Unit) (Int))
 |0,_=>ari
 |n+1,eo=>
  if (decide (eo<iq))=arf then
   ark (Qf N aZ dy fp eo) fun dK=>
   match dK with
   |ary dJ=>
    uR N aZ dy fp iq n (art .i64 (eo+1))
   |arx ep=>
    are (arx ep)
  else
   are (ary ())
def u9 (N:Nat) (x0:List aB) (aZ:Int) (dy:Int):Option Int:=
 ark (uR N aZ dy x0 (x0.length:Int) N 0) fun eW=>
 match eW with
 |ary e9=>
  are (-1)
 |arx e4=>
  are e4
def me (N:Nat) (dy:Int) (hr:Int):Nat->(List Int)->Int->Option (Sum (Unit) (List Int))
 |0,_,_=>ari
 |n+1,cq,fq=>
  if (decide (fq<hr))=arf then
   ark (bc cq fq) fun bE=>
   ark (bc cq fq) fun b6=>
   if (b6 !=dy)=arf then
    me N dy hr n cq (art .i64 (fq+1))
   else
    aQ.lt (decide (0<fq)) fun cx=>
    if cx=arf then
     ark (bc cq 0) fun cG=>
     ark (bc cq 0) fun c5=>
     are (arx ([c5]:List Int))
    else
     ark (gH cq 1 (cq.length:Int)) fun c6=>
     are (arx c6)
  else
   are (ary ())
def xO (N:Nat) (x0:List aB) (aZ:Int) (dy:Int):Option (List Int):=
 ark (vb N x0 aZ) fun bh=>
 ark (me N dy (bh.length:Int) N bh 0) fun dK=>
 match dK with
 |ary dJ=>
  are []
 |arx ep=>
  are ep
def zM (N:Nat) (x0:List aB) (aZ:List bo) (cf:Int):Option Bool:=
 if (decide (cf<1))=arf then
  are arf
 else
  ark (bc aZ 0) fun bE=>
  ark (xQ N x0 bE.aA) fun b6=>
  if (!b6)=arf then
   are arf
  else
   ark (bc aZ cf) fun cx=>
   ark (xQ N x0 cx.aA) fun cG=>
   if (!cG)=arf then
    are arf
   else
    ark (bc aZ 0) fun c5=>
    if (c5.b4 !=(-1))=arf then
     are arf
    else
     ark (bc aZ cf) fun c6=>
     are (c6.out !=(-1))
def Iu (N:Nat) (x0:List aB) (aZ:List bo) (cf:Int):Option Bool:=
 ark (bc aZ 0) fun dJ=>
 ark (vb N x0 dJ.aA) fun ep=>
 ark (bc aZ 0) fun eW=>
 ark (Al N ep eW.out) fun e9=>
 if (!e9)=arf then
  are arf
 else
  ark (bc aZ cf) fun e4=>
  ark (vb N x0 e4.aA) fun hT=>
  ark (bc aZ cf) fun kr=>
  ark (Al N hT kr.b4) fun h4=>
  are (!h4)
def Iv (N:Nat) (x0:List aB) (cq:bo) (dH:bo):Option Bool:=
 if (cq.b4 !=dH.out)=arf then
  are arf
 else
  if (decide (cq.aA<0))=arf then
   are arf
  else
   ark (u9 N x0 dH.aA dH.out) fun td=>
   are (td !=cq.aA)
def Iw (N:Nat) (x0:List aB) (cf:Int) (b9:Int) (cq:bo):Option Bool:=
 if (decide ((art .i64 (b9+1))<cf))=arf then
  ark (xO N x0 cq.aA cq.b4) fun u6=>
  ark (Al N u6 cq.out) fun rk=>
  are (!rk)
 else
  are arj
def uV (N:Nat) (x0:List aB) (aZ:List bo) (cf:Int) (aaY:List bo) (aaZ:Int):Nat->Int->Option (Sum (Unit) (Bool))
 |0,_=>ari
 |n+1,DN=>
  if (decide (DN<aaZ))=arf then
   ark (bc aaY DN) fun oJ=>
   ark (bc aZ DN) fun pt=>
   ark (Iv N x0 oJ pt) fun te=>
   if te=arf then
    are (arx arj)
   else
    ark (Iw N x0 cf DN oJ) fun na=>
    if na=arf then
     are (arx arj)
    else
     uV N x0 aZ cf aaY aaZ n (art .i64 (DN+1))
  else
   are (ary ())
def Jg (N:Nat) (x0:List aB) (aZ:List bo):Option Bool:=
 aQ.lt (art .i64 ((aZ.length:Int) - 1)) fun bh=>
 ark (zM N x0 aZ bh) fun dK=>
 if dK=arf then
  are arj
 else
  ark (Iu N x0 aZ bh) fun ju=>
  if ju=arf then
   are arj
  else
   ark (gH aZ 1 (aZ.length:Int)) fun jd=>
   ark (uV N x0 aZ bh jd (jd.length:Int) N 0) fun u7=>
   match u7 with
   |ary xL=>
    are arf
   |arx Ah=>
    are Ah
def sM (N:Nat) (cq:List bo) (dH:Int):Nat->(List (Int×Bool))->Int->Option (Sum (Unit) (Bool))
 |0,_,_=>ari
 |n+1,ct,e8=>
  if (decide (e8<dH))=arf then
   ark (bc cq e8) fun bh=>
   aQ.lt (bn ct bh.aA) fun bE=>
   if (bE.getD arj)=arf then
    are (arx arf)
   else
    aQ.lt (eJ ct bh.aA arf) fun b6=>
    sM N cq dH n b6 (art .i64 (e8+1))
  else
   are (ary ())
def D1 (N:Nat) (x0:List bo):Option Bool:=
 ark (sM N x0 (x0.length:Int) N [] 0) fun cx=>
 match cx with
 |ary cG=>
  are arj
 |arx c5=>
  are c5
def Qo (N:Nat) (x0:List aB) (aZ:List bo):Option Bool:=
 ark (pu N x0) fun bh=>
 if (bh==0)=arf then
  ark (Jg N x0 aZ) fun bE=>
  if bE=arf then
   ark (D1 N aZ) fun b6=>
   aQ.lt (!b6) fun cx=>
   are cx
  else
   are arj
 else
  are arj
def D0 (N:Nat) (x0:List aB) (aZ:List bo):Option Bool:=
 ark (Qo N x0 aZ) fun cG=>
 are cG
def I2 (N:Nat) (x0:Int):Option Bool:=
 aQ.lt (x0 !=x0) fun bh=>
 are bh
def Am (N:Nat) (x0:Int) (aZ:Int):Option Int:=
 ark (I2 N x0) fun bh=>
 ark (I2 N aZ) fun bE=>
 if bh=arf then
  if bE=arf then
   are 0
  else
   are (-1)
 else
  if bE=arf then
   are 1
  else
   if (decide (x0<aZ))=arf then
    are (-1)
   else
    if (decide (aZ<x0))=arf then
     are 1
    else
     are 0
def zT (N:Nat) (dH:bo) (e8:aB):Option Bool:=
 if (e8.kind==2)=arf then
  if (dH.b4==e8.b)=arf then
   are arf
  else
   aQ.lt (dH.out==e8.b) fun c5=>
   are c5
 else
  are arj
def HZ (N:Nat) (x0:List aB) (b9:List bi) (hr:List bo) (h3:Int):Option (List bi):=
 ark (bc hr h3) fun bE=>
 ark (bc x0 bE.aA) fun b6=>
 aQ.lt (b6.kind==3) fun cx=>
 if cx=arf then
  ark (eh b9 ([(bi.mk bE.aA 3)]:List bi)) fun cG=>
  are cG
 else
  ark (zT N bE b6) fun c6=>
  if c6=arf then
   ark (eh b9 ([(bi.mk bE.aA 1)]:List bi)) fun dK=>
   are dK
  else
   aQ.lt (b6.kind==2) fun dJ=>
   if dJ=arf then
    ark (eh b9 ([(bi.mk bE.aA 2)]:List bi)) fun ep=>
    are ep
   else
    are b9
def xe (N:Nat) (x0:List aB) (hr:List bo) (fq:Int):Nat->(List bi)->Int->Option (List bi)
 |0,_,_=>ari
 |n+1,b9,h3=>
  if (decide (h3<fq))=arf then
   ark (HZ N x0 b9 hr h3) fun eW=>
   xe N x0 hr fq n eW (art .i64 (h3+1))
  else
   are b9
def DW (N:Nat) (x0:List aB) (aZ:List bo):Option (List bi×Int):=
 ark (D0 N x0 aZ) fun bh=>
 if (!bh)=arf then
  are ([],1)
 else
  ark (xe N x0 aZ (aZ.length:Int) N [] 0) fun e9=>
  ark (@k9 bi ⟨(bi.mk 0 0)⟩ (fun (a b:bi)=>gf a.aA b.aA) e9) fun e4=>
  are (e4,0)
def xd (N:Nat) (cq:List bo) (dH:Int):Nat->(List (Int×Bool))->Int->Option (List (Int×Bool))
 |0,_,_=>ari
 |n+1,ct,e8=>
  if (decide (e8<dH))=arf then
   ark (bc cq e8) fun bh=>
   aQ.lt (eJ ct bh.aA arf) fun bE=>
   xd N cq dH n bE (art .i64 (e8+1))
  else
   are ct
def DU (N:Nat) (x0:List bo):Option ((List (Int×Bool))):=
 ark (xd N x0 (x0.length:Int) N [] 0) fun b6=>
 are b6
def Ip (N:Nat) (dy:aB) (ct:bo):Option Bool:=
 if (ct.b4==dy.b)=arf then
  are arf
 else
  are (ct.out==dy.b)
def Jc (N:Nat) (x0:aB) (aZ:bo):Option Int:=
 ark (Ip N x0 aZ) fun bh=>
 if bh=arf then
  are x0.c
 else
  are x0.b
def HT (N:Nat) (aZ:Int) (b9:Int) (cq:Bool):Option Bool:=
 if cq=arf then
  are (b9 !=aZ)
 else
  are arj
def xM (N:Nat) (x0:Int) (aZ:Int) (lf:List (Int×Int)):Option (Int×(List (Int×Int))):=
 aQ.lt (bn lf x0) fun bh=>
 aQ.lt (bh.getD 0) fun bE=>
 ark (HT N aZ bE bh.isSome) fun b6=>
 if b6=arf then
  are (17,lf)
 else
  aQ.lt (eJ lf x0 aZ) fun cx=>
  are (0,cx)
def Rm (N:Nat) (x0:aB) (aZ:Int):Option Int:=
 if (aZ==x0.b)=arf then
  are 2
 else
  are 1
def HU (N:Nat) (self:bK->(List aB)->(List (bK×Bool))->(List (Int×Bool))->(List (bK×Bool))->(List (Int×Bool))->(List (Int×Int))->(List (Int×Int))->Option (Int×(List (bK×Bool))×(List (Int×Int)))) (b9:bK) (dH:Int) (lf:List (bK×Bool)) (qf:List (Int×Bool)):Option Bool:=
 aQ.lt (bn lf b9) fun bE=>
 if (bE.getD arj)=arf then
  are arf
 else
  if (decide (dH<0))=arf then
   are arf
  else
   aQ.lt (bn qf dH) fun b6=>
   are (b6.getD arj)
def tf (N:Nat):Nat->bK->(List aB)->(List (bK×Bool))->(List (Int×Bool))->(List (bK×Bool))->(List (Int×Bool))->(List (Int×Int))->(List (Int×Int))->Option (Int×(List (bK×Bool))×(List (Int×Int)))
 |0,_,_,_,_,_,_,_,_=>ari
 |cC+1,x0,aZ,dy,ct,lf,qf,aq9,DL=>
  ark (u9 N aZ x0.aA x0.node) fun bh=>
  ark (HU N (tf N cC) x0 bh lf qf) fun cx=>
  if cx=arf then
   are (0,lf,DL)
  else
   aQ.lt (eJ lf x0 arf) fun cG=>
   ark (bc aZ bh) fun c5=>
   aQ.lt (c5.kind==1) fun c6=>
   if c6=arf then
    are (22,cG,DL)
   else
    aQ.lt (c5.kind==3) fun dK=>
    if dK=arf then
     ark (xM N bh 4 DL) fun dJ=>
     are (dJ.1,cG,dJ.2)
    else
     aQ.lt (x0.node !=c5.a) fun ep=>
     if ep=arf then
      ark (Rm N c5 x0.node) fun eW=>
      ark (xM N bh eW DL) fun e9=>
      are (e9.1,cG,e9.2)
     else
      ark (tf N cC (bK.mk bh c5.b) aZ [] [] cG qf [] DL) fun e4=>
      if (e4.1 !=0)=arf then
       are (e4.1,e4.2.1,e4.2.2)
      else
       ark (tf N cC (bK.mk bh c5.c) aZ [] [] e4.2.1 qf [] e4.2.2) fun hT=>
       are (hT.1,hT.2.1,hT.2.2)
def Qn (N:Nat) (dy:(List aB)) (jO:List bo) (mY:Int) (DK:List (Int×Int)) (IH:List (bK×Bool)) (II:List (Int×Bool)):Option (Sum ((List (Int×Int))×(List (bK×Bool))) (Int)):=
 ark (bc jO mY) fun bE=>
 ark (bc dy bE.aA) fun b6=>
 if (b6.kind==2)=arf then
  ark (Jc N b6 bE) fun cx=>
  ark (tf N N (bK.mk bE.aA cx) dy [] [] IH II [] DK) fun cG=>
  if (cG.1 !=0)=arf then
   are (arx cG.1)
  else
   are (ary (cG.2.2,cG.2.1))
 else
  are (ary (DK,IH))
def sK (N:Nat) (dy:(List aB)) (jO:List bo) (kq:Int) (II:List (Int×Bool)):Nat->(List (Int×Int))->Int->(List (Int×Int))->(List (bK×Bool))->(List (bK×Bool))->Option (Sum ((List (Int×Int))×(List (Int×Int))) (Int))
 |0,_,_,_,_,_=>ari
 |n+1,dH,mY,DK,aq',IH=>
  if (decide (mY<kq))=arf then
   ark (Qn N dy jO mY DK IH II) fun c5=>
   match c5 with
   |ary c6=>
    sK N dy jO kq II n [] (art .i64 (mY+1)) c6.1 [] c6.2
   |arx dK=>
    are (arx dK)
  else
   are (ary ([],DK))
def Rk (N:Nat) (x0:List aB) (aZ:List bo):Option ((List (Int×Int))×Int):=
 ark (DU N aZ) fun bh=>
 ark (sK N x0 aZ (aZ.length:Int) bh N [] 0 [] [] []) fun dJ=>
 match dJ with
 |ary ep=>
  are (ep.2,0)
 |arx eW=>
  are ([],eW)
def H4 (N:Nat) (b9:List bi) (dH:List (Int×Int)):Option (List bi×Int):=
 DA (fun (x:bi)=>x.aA) (fun (a:Int) (b:Int)=>(bi.mk a b)) (@k9 bi ⟨(bi.mk 0 0)⟩ (fun (a b:bi)=>gf a.aA b.aA)) b9 dH
def qi (N:Nat) (x0:List aB) (aZ:List bo):Option (List bi×Int):=
 ark (DW N x0 aZ) fun bh=>
 if (bh.2 !=0)=arf then
  are ([],bh.2)
 else
  ark (Rk N x0 aZ) fun bE=>
  if (bE.2 !=0)=arf then
   are ([],bE.2)
  else
   ark (H4 N bh.1 bE.1) fun b6=>
   are (b6.1,b6.2)
def sU (N:Nat) (x0:List bi) (aZ:List bi) (iq:Int):Nat->Int->Option (Sum (Unit) (Bool))
 |0,_=>ari
 |n+1,eo=>
  if (decide (eo<iq))=arf then
   ark (bc x0 eo) fun bh=>
   ark (bc aZ eo) fun bE=>
   if (!(decide (bh=bE)))=arf then
    are (arx arj)
   else
    sU N x0 aZ iq n (art .i64 (eo+1))
  else
   are (ary ())
def IU (N:Nat) (x0:List bi) (aZ:List bi):Option Bool:=
 if ((x0.length:Int) !=(aZ.length:Int))=arf then
  are arj
 else
  ark (sU N x0 aZ (x0.length:Int) N 0) fun b6=>
  match b6 with
  |ary cx=>
   are arf
  |arx cG=>
   are cG
def sW (N:Nat) (b9:bo) (jO:List bo) (kq:Int):Nat->Int->Option (Sum (Unit) (Bool))
 |0,_=>ari
 |n+1,mY=>
  if (decide (mY<kq))=arf then
   ark (bc jO mY) fun bE=>
   if (b9.aA==bE.aA)=arf then
    are (arx arf)
   else
    sW N b9 jO kq n (art .i64 (mY+1))
  else
   are (ary ())
def sV (N:Nat) (ct:bQ) (hr:List bo) (fq:Int):Nat->Int->Option (Sum (Unit) (Bool))
 |0,_=>ari
 |n+1,h3=>
  if (decide (h3<fq))=arf then
   ark (bc hr h3) fun bh=>
   ark (sW N bh ct.ew (ct.ew.length:Int) N 0) fun b6=>
   match b6 with
   |ary cx=>
    sV N ct hr fq n (art .i64 (h3+1))
   |arx cG=>
    are (arx cG)
  else
   are (ary ())
def HS (N:Nat) (cD:bi) (iq:bi):Option Bool:=
 if (cD.aA==iq.aA)=arf then
  are (cD.ed !=iq.ed)
 else
  are arj
def sY (N:Nat) (cD:bi) (aaS:List bi) (xK:Int):Nat->Int->Option (Sum (Unit) (Bool))
 |0,_=>ari
 |n+1,ta=>
  if (decide (ta<xK))=arf then
   ark (bc aaS ta) fun dJ=>
   ark (HS N cD dJ) fun ep=>
   if ep=arf then
    are (arx arf)
   else
    sY N cD aaS xK n (art .i64 (ta+1))
  else
   are (ary ())
def sX (N:Nat) (ct:bQ) (Ag:List bi) (aaR:Int):Nat->Int->Option (Sum (Unit) (Bool))
 |0,_=>ari
 |n+1,QX=>
  if (decide (QX<aaR))=arf then
   ark (bc Ag QX) fun dK=>
   ark (sY N dK ct.e7 (ct.e7.length:Int) N 0) fun eW=>
   match eW with
   |ary e9=>
    sX N ct Ag aaR n (art .i64 (QX+1))
   |arx e4=>
    are (arx e4)
  else
   are (ary ())
def DQ (N:Nat) (x0:bQ) (aZ:bQ):Option Bool:=
 ark (sV N aZ x0.ew (x0.ew.length:Int) N 0) fun c5=>
 match c5 with
 |ary c6=>
  ark (sX N aZ x0.e7 (x0.e7.length:Int) N 0) fun hT=>
  match hT with
  |ary kr=>
   are arj
  |arx h4=>
   are h4
 |arx ju=>
  are ju
def HV (N:Nat) (x0:List aB) (aZ:List bQ):Option Bool:=
 ark (pu N x0) fun bh=>
 if (bh !=0)=arf then
  are arf
 else
  are (decide (16<(aZ.length:Int)))
def HX (N:Nat) (b9:bQ) (cq:List bi) (dH:Int):Option Bool:=
 if (decide (b9.iV<0))=arf then
  are arf
 else
  if (dH !=0)=arf then
   are arf
  else
   ark (IU N b9.e7 cq) fun cG=>
   are (!cG)
def HY (N:Nat) (b9:bQ) (cD:bQ):Option Bool:=
 if (b9.iV==cD.iV)=arf then
  are arf
 else
  ark (DQ N b9 cD) fun dK=>
  are dK
def xb (N:Nat) (cf:Int) (b9:bQ) (aaT:List bQ) (aaU:Int):Nat->Int->Option (Sum (Unit) (Sum (Unit) (Bool)))
 |0,_=>ari
 |n+1,IK=>
  if (decide (IK<aaU))=arf then
   ark (bc aaT IK) fun c6=>
   if (decide (cf<=IK))=arf then
    are (ary ())
   else
    ark (HY N b9 c6) fun dJ=>
    if dJ=arf then
     are (arx (arx arj))
    else
     xb N cf b9 aaT aaU n (art .i64 (IK+1))
  else
   are (arx (ary ()))
def HW (N:Nat) (x0:List aB) (aZ:List bQ) (oI:List bQ) (jO:Int):Option (Sum (Unit) (Bool)):=
 ark (bc oI jO) fun b6=>
 ark (qi N x0 b6.ew) fun cx=>
 ark (HX N b6 cx.1 cx.2) fun c5=>
 if c5=arf then
  are (arx arj)
 else
  ark (xb N jO b6 aZ (aZ.length:Int) N 0) fun ep=>
  match ep with
  |ary eW=>
   are (ary ())
  |arx (ary e9)=>
   are (ary ())
  |arx (arx e4)=>
   are (arx e4)
def s0 (N:Nat) (x0:List aB) (aZ:List bQ) (oI:List bQ) (js:Int):Nat->Int->Option (Sum (Unit) (Bool))
 |0,_=>ari
 |n+1,jO=>
  if (decide (jO<js))=arf then
   ark (HW N x0 aZ oI jO) fun hT=>
   match hT with
   |ary kr=>
    s0 N x0 aZ oI js n (art .i64 (jO+1))
   |arx h4=>
    are (arx h4)
  else
   are (ary ())
def DS (N:Nat) (x0:List aB) (aZ:List bQ):Option Bool:=
 ark (HV N x0 aZ) fun bE=>
 if bE=arf then
  are arj
 else
  ark (s0 N x0 aZ aZ (aZ.length:Int) N 0) fun ju=>
  match ju with
  |ary jd=>
   are arf
  |arx oJ=>
   are oJ
def DT (N:Nat) (x0:List aB) (aZ:List bQ):Option Int:=
 ark (pu N x0) fun bh=>
 if (bh !=0)=arf then
  are bh
 else
  ark (DS N x0 aZ) fun bE=>
  if (!bE)=arf then
   are 1
  else
   are 0
def Ri (N:Nat) (x0:bQ) (aZ:Int):Option Bool:=
 aQ.lt (x0.iV==aZ) fun bh=>
 are bh
def sT (N:Nat) (x0:List bQ) (aZ:Int) (cq:Int):Nat->Int->Option (Sum (Unit) (Int))
 |0,_=>ari
 |n+1,dH=>
  if (decide (dH<cq))=arf then
   ark (bc x0 dH) fun bh=>
   ark (Ri N bh aZ) fun bE=>
   if bE=arf then
    are (arx dH)
   else
    sT N x0 aZ cq n (art .i64 (dH+1))
  else
   are (ary ())
def Rf (N:Nat) (x0:List bQ) (aZ:Int):Option Int:=
 ark (sT N x0 aZ (x0.length:Int) N 0) fun b6=>
 match b6 with
 |ary cx=>
  are (-1)
 |arx cG=>
  are cG
def DV (N:Nat) (x0:List bQ) (aZ:Int):Option Int:=
 ark (Rf N x0 aZ) fun bh=>
 are bh
def xc (N:Nat) (aZ:Int) (js:List Int) (jO:Int):Nat->(List (Place×Int))->(List Place)->Int->Option ((List (Place×Int))×List Place)
 |0,_,_,_=>ari
 |n+1,cf,b9,kq=>
  if (decide (kq<jO))=arf then
   ark (bc js kq) fun bE=>
   ark (bc js kq) fun b6=>
   aQ.lt (eJ cf (Place.mk aZ b6) 0) fun cx=>
   ark (eh b9 ([(Place.mk aZ b6)]:List Place)) fun cG=>
   xc N aZ js jO n cx cG (art .i64 (kq+1))
  else
   are (cf,b9)
def Qg (N:Nat) (cf:List (Place×Int)) (b9:List Place) (cD:Place) (fp:Int) (IL:List Int) (DM:Int):Option ((List (Place×Int))×List Place):=
 ark (bc IL DM) fun e9=>
 aQ.lt (bn cf (Place.mk fp e9)) fun e4=>
 aQ.lt (e4.getD 0) fun hT=>
 if (!e4.isSome)=arf then
  aQ.lt (bn cf cD) fun kr=>
  aQ.lt (eJ cf (Place.mk fp e9) (art .i64 ((kr.getD 0)+1))) fun h4=>
  ark (eh b9 ([(Place.mk fp e9)]:List Place)) fun ju=>
  are (h4,ju)
 else
  are (cf,b9)
def sF (N:Nat) (cD:Place) (fp:Int) (IL:List Int) (tc:Int):Nat->(List (Place×Int))->(List Place)->Int->Option ((List (Place×Int))×List Place)
 |0,_,_,_=>ari
 |n+1,cf,b9,DM=>
  if (decide (DM<tc))=arf then
   ark (Qg N cf b9 cD fp IL DM) fun jd=>
   sF N cD fp IL tc n jd.1 jd.2 (art .i64 (DM+1))
  else
   are (cf,b9)
def Ds (N:Nat) (x0:List aB):Nat->(List (Place×Int))->(List Place)->Option (List (Place×Int))
 |0,_,_=>ari
 |n+1,cf,b9=>
  if (decide (0<(b9.length:Int)))=arf then
   ark (bc b9 0) fun c6=>
   ark (bc b9 0) fun dK=>
   ark (gH b9 1 (b9.length:Int)) fun dJ=>
   ark (u9 N x0 dK.aA dK.b4) fun ep=>
   ark (xO N x0 ep dK.b4) fun eW=>
   ark (sF N dK ep eW (eW.length:Int) N cf dJ 0) fun oJ=>
   Ds N x0 n oJ.1 oJ.2
  else
   are cf
def IZ (N:Nat) (x0:List aB) (aZ:Int):Option ((List (Place×Int))):=
 ark (vb N x0 aZ) fun bh=>
 ark (xc N aZ bh (bh.length:Int) N [] [] 0) fun c5=>
 ark (Ds N x0 N c5.1 c5.2) fun pt=>
 are pt
def xm (N:Nat) (ct:Int) (b9:List Int) (cq:Int):Nat->Int->Option (Sum (Unit) (Int))
 |0,_=>ari
 |n+1,dH=>
  if (decide (dH<cq))=arf then
   ark (bc b9 dH) fun bh=>
   if (bh !=ct)=arf then
    are (arx bh)
   else
    xm N ct b9 cq n (art .i64 (dH+1))
  else
   are (ary ())
def Jb (N:Nat) (x0:List Int):Option Int:=
 ark (xm N 0 x0 (x0.length:Int) N 0) fun bE=>
 match bE with
 |ary b6=>
  are 0
 |arx cx=>
  are cx
def Qu (N:Nat) (aZ:List (Place×Int)) (fp:Int) (iq:Place) (eo:Bool) (fq:Int) (h3:Place) (oH:Int):Option Bool:=
 if (!eo)=arf then
  are arf
 else
  aQ.lt (bn aZ iq) fun cG=>
  ark (Am N oH (cG.getD 0)) fun c5=>
  ark (Am N h3.aA iq.aA) fun c6=>
  ark (Am N fq fp) fun dK=>
  ark (Jb N ([c5,c6,dK]:List Int)) fun dJ=>
  are (decide (dJ<0))
def It (N:Nat) (x0:List aB) (aZ:List (Place×Int)) (dy:Int) (fp:Int) (iq:Place) (eo:Bool) (js:List Int) (kq:Int):Option (Int×Place×Bool):=
 ark (bc js kq) fun bh=>
 ark (u9 N x0 dy bh) fun bE=>
 aQ.lt (bn aZ (Place.mk bE bh)) fun b6=>
 aQ.lt (b6.getD 0) fun cx=>
 if (!b6.isSome)=arf then
  are (fp,iq,eo)
 else
  ark (Qu N aZ fp iq eo bh (Place.mk bE bh) cx) fun ep=>
  if ep=arf then
   are (bh,(Place.mk bE bh),arf)
  else
   are (fp,iq,eo)
def xn (N:Nat) (x0:List aB) (aZ:List (Place×Int)) (dy:Int) (js:List Int) (jO:Int):Nat->Int->Place->Bool->Int->Option (Int×Place×Bool)
 |0,_,_,_,_=>ari
 |n+1,fp,iq,eo,kq=>
  if (decide (kq<jO))=arf then
   ark (It N x0 aZ dy fp iq eo js kq) fun eW=>
   xn N x0 aZ dy js jO n eW.1 eW.2.1 eW.2.2 (art .i64 (kq+1))
  else
   are (fp,iq,eo)
def Jf (N:Nat) (x0:List aB) (aZ:List (Place×Int)) (dy:Int) (ct:List Int):Option (Int×Place×Bool):=
 ark (xn N x0 aZ dy ct (ct.length:Int) N 0 (Place.mk 0 0) arj 0) fun e9=>
 are (e9.1,e9.2.1,e9.2.2)
def Is (N:Nat) (x0:List aB) (aZ:Int) (dy:Int):Option Bool:=
 ark (xQ N x0 aZ) fun bE=>
 if (!bE)=arf then
  are arf
 else
  ark (xQ N x0 dy) fun b6=>
  if (!b6)=arf then
   are arf
  else
   are (aZ==dy)
def zL (N:Nat) (x0:List aB) (e8:List (Place×Int)):Nat->(List bo)->(List Int)->Option (Sum (List bo) (Int))
 |0,_,_=>ari
 |n+1,cD,fp=>
  ark (bc cD (art .i64 ((cD.length:Int) - 1))) fun c6=>
  ark (bc cD (art .i64 ((cD.length:Int) - 1))) fun dK=>
  ark (Jf N x0 e8 dK.aA fp) fun dJ=>
  if (!dJ.2.2)=arf then
   are (arx 15)
  else
   ark (bc cD (art .i64 ((cD.length:Int) - 1))) fun ep=>
   aQ.lt (cD.set (((art .i64 ((cD.length:Int) - 1)):Int).toNat) (bo.mk ep.aA ep.b4 dJ.1)) fun eW=>
   ark (eh eW ([(bo.mk dJ.2.1.aA dJ.2.1.b4 (-1))]:List bo)) fun e9=>
   aQ.lt (bn e8 dJ.2.1) fun e4=>
   if ((e4.getD 0)==0)=arf then
    are (ary e9)
   else
    ark (xO N x0 dJ.2.1.aA dJ.2.1.b4) fun hT=>
    zL N x0 e8 n e9 hT
def jP (N:Nat) (x0:List aB) (aZ:Int) (dy:Int):Option (List bo×Int):=
 ark (pu N x0) fun bh=>
 if (bh !=0)=arf then
  are ([],bh)
 else
  ark (Is N x0 aZ dy) fun cx=>
  if cx=arf then
   are ([],2)
  else
   ark (IZ N x0 dy) fun cG=>
   ark (vb N x0 aZ) fun c5=>
   ark (zL N x0 cG N ([(bo.mk aZ (-1) 0)]:List bo) c5) fun kr=>
   match kr with
   |ary h4=>
    ark (D1 N h4) fun ju=>
    if ju=arf then
     are ([],17)
    else
     are (h4,0)
   |arx jd=>
    are ([],jd)
def IV (N:Nat) (x0:List bo):Option (List bo):=
 o9 x0 fun bh=>
 if bh=arf then
  are []
 else
  ark (eh ([]:List bo) x0) fun bE=>
  are bE
def IT (N:Nat) (x0:List bi):Option (List bi):=
 o9 x0 fun bh=>
 if bh=arf then
  are []
 else
  ark (eh ([]:List bi) x0) fun bE=>
  are bE
def DR (N:Nat) (x0:bQ):Option bQ:=
 ark (IV N x0.ew) fun bh=>
 ark (IT N x0.e7) fun bE=>
 are (bQ.mk x0.iV bh bE)
def xg (N:Nat) (eo:bQ) (aaW:List bQ) (aaX:Int):Nat->(List bQ)->Int->Option (Sum (List bQ) (Int))
 |0,_,_=>ari
 |n+1,hr,QZ=>
  if (decide (QZ<aaX))=arf then
   ark (bc aaW QZ) fun dJ=>
   ark (DQ N eo dJ) fun ep=>
   if ep=arf then
    are (arx 23)
   else
    ark (DR N dJ) fun eW=>
    ark (eh hr ([eW]:List bQ)) fun e9=>
    xg N eo aaW aaX n e9 (art .i64 (QZ+1))
  else
   are (ary hr)
def I3 (N:Nat) (x0:List aB) (aZ:List bQ) (dy:Int) (ct:Int) (c4:Int):Option (List bQ×Int):=
 ark (DT N x0 aZ) fun bh=>
 aQ.lt (bh !=0) fun bE=>
 if bE=arf then
  are ([],bh)
 else
  aQ.lt (decide (dy<0)) fun b6=>
  if b6=arf then
   are ([],2)
  else
   ark (DV N aZ dy) fun cx=>
   aQ.lt (decide (0<=cx)) fun cG=>
   if cG=arf then
    are ([],8)
   else
    aQ.lt ((aZ.length:Int)==16) fun c5=>
    if c5=arf then
     are ([],18)
    else
     ark (jP N x0 ct c4) fun c6=>
     if (c6.2 !=0)=arf then
      are ([],c6.2)
     else
      ark (qi N x0 c6.1) fun dK=>
      if (dK.2 !=0)=arf then
       are ([],dK.2)
      else
       ark (xg N (bQ.mk dy c6.1 dK.1) aZ (aZ.length:Int) N [] 0) fun e4=>
       match e4 with
       |ary hT=>
        ark (eh hT ([(bQ.mk dy c6.1 dK.1)]:List bQ)) fun kr=>
        are (kr,0)
       |arx h4=>
        are ([],h4)
def Qe (N:Nat) (e8:Int) (cD:List bQ) (nN:List bQ) (Af:Int):Option (List bQ):=
 ark (bc nN Af) fun b6=>
 if (Af !=e8)=arf then
  ark (DR N b6) fun cx=>
  ark (eh cD ([cx]:List bQ)) fun cG=>
  are cG
 else
  are cD
def xa (N:Nat) (e8:Int) (nN:List bQ) (aaM:Int):Nat->(List bQ)->Int->Option (List bQ)
 |0,_,_=>ari
 |n+1,cD,Af=>
  if (decide (Af<aaM))=arf then
   ark (Qe N e8 cD nN Af) fun c5=>
   xa N e8 nN aaM n c5 (art .i64 (Af+1))
  else
   are cD
def IY (N:Nat) (x0:List aB) (aZ:List bQ) (dy:Int):Option (List bQ×Int):=
 ark (DT N x0 aZ) fun bh=>
 if (bh !=0)=arf then
  are ([],bh)
 else
  ark (DV N aZ dy) fun bE=>
  if (decide (bE<0))=arf then
   are ([],13)
  else
   ark (xa N bE aZ (aZ.length:Int) N [] 0) fun c6=>
   are (c6,0)
def Rg (N:Nat) (x0:bi) (aZ:bi):Option Bool:=
 aQ.lt (x0.aA==aZ.aA) fun bh=>
 are bh
def sS (N:Nat) (x0:List bi) (aZ:bi) (cq:Int):Nat->Int->Option (Sum (Unit) (Int))
 |0,_=>ari
 |n+1,dH=>
  if (decide (dH<cq))=arf then
   ark (bc x0 dH) fun bh=>
   ark (Rg N bh aZ) fun bE=>
   if bE=arf then
    are (arx dH)
   else
    sS N x0 aZ cq n (art .i64 (dH+1))
  else
   are (ary ())
def IS (N:Nat) (x0:List bi) (aZ:bi):Option Int:=
 ark (sS N x0 aZ (x0.length:Int) N 0) fun b6=>
 match b6 with
 |ary cx=>
  are (-1)
 |arx cG=>
  are cG
def IQ (N:Nat) (x0:List bi) (aZ:bi):Option Bool:=
 ark (IS N x0 aZ) fun bh=>
 aQ.lt (decide (0<=bh)) fun bE=>
 are bE
def Qd (N:Nat) (ct:List bi) (fq:List bi) (oH:Int):Option (List bi):=
 ark (bc fq oH) fun bE=>
 ark (IQ N ct bE) fun b6=>
 if (!b6)=arf then
  ark (eh ct ([bE]:List bi)) fun cx=>
  are cx
 else
  are ct
def w9 (N:Nat) (fq:List bi) (h3:Int):Nat->(List bi)->Int->Option (List bi)
 |0,_,_=>ari
 |n+1,ct,oH=>
  if (decide (oH<h3))=arf then
   ark (Qd N ct fq oH) fun cG=>
   w9 N fq h3 n cG (art .i64 (oH+1))
  else
   are ct
def w8 (N:Nat) (dH:List bQ) (e8:Int):Nat->(List bi)->Int->Option (List bi)
 |0,_,_=>ari
 |n+1,ct,cD=>
  if (decide (cD<e8))=arf then
   ark (bc dH cD) fun bh=>
   ark (w9 N bh.e7 (bh.e7.length:Int) N ct 0) fun c5=>
   w8 N dH e8 n c5 (art .i64 (cD+1))
  else
   are ct
def IW (N:Nat) (x0:List bQ):Option (List bi):=
 ark (w8 N x0 (x0.length:Int) N [] 0) fun c6=>
 ark (@k9 bi ⟨(bi.mk 0 0)⟩ (fun (a b:bi)=>gf a.aA b.aA) c6) fun dK=>
 are dK
def HM (N:Nat) (x0:List aB) (b9:List (Int×Int)) (dH:bi):Option Bool:=
 if (decide (dH.aA<0))=arf then
  are arf
 else
  if (decide ((x0.length:Int)<=dH.aA))=arf then
   are arf
  else
   aQ.lt (bn b9 dH.aA) fun bE=>
   are ((bE.getD 0) !=0)
def HN (N:Nat) (dH:bi):Option Bool:=
 if (dH.ed==1)=arf then
  are arf
 else
  aQ.lt (dH.ed==2) fun cx=>
  are cx
def HO (N:Nat) (dH:bi):Option Bool:=
 if (dH.ed==3)=arf then
  are arf
 else
  aQ.lt (dH.ed==4) fun c5=>
  are c5
def HP (N:Nat) (e8:Bool) (cD:Bool) (fp:Int):Option Bool:=
 if (fp==2)=arf then
  if (!e8)=arf then
   if (fp==3)=arf then
    are (!cD)
   else
    are (!arj)
  else
   are arj
 else
  if (!arj)=arf then
   if (fp==3)=arf then
    are (!cD)
   else
    are (!arj)
  else
   are arj
def sJ (N:Nat) (x0:List aB) (eo:List bi) (hr:Int):Nat->(List (Int×Int))->Int->Option (Sum ((List (Int×Int))) (Bool))
 |0,_,_=>ari
 |n+1,b9,fq=>
  if (decide (fq<hr))=arf then
   ark (bc eo fq) fun bh=>
   ark (HM N x0 b9 bh) fun b6=>
   if b6=arf then
    are (arx arj)
   else
    ark (HN N bh) fun cG=>
    ark (HO N bh) fun c6=>
    ark (bc x0 bh.aA) fun dK=>
    ark (HP N cG c6 dK.kind) fun dJ=>
    if dJ=arf then
     are (arx arj)
    else
     aQ.lt (eJ b9 bh.aA bh.ed) fun ep=>
     sJ N x0 eo hr n ep (art .i64 (fq+1))
  else
   are (ary b9)
def DZ (N:Nat) (x0:List aB) (aZ:List bi):Option ((List (Int×Int))×Bool):=
 ark (sJ N x0 aZ (aZ.length:Int) N [] 0) fun eW=>
 match eW with
 |ary e9=>
  are (e9,arf)
 |arx e4=>
  are ([],e4)
def HG (N:Nat) (e8:aB) (cD:Int):Option Bool:=
 if (e8.kind==3)=arf then
  aQ.lt (cD==4) fun cx=>
  are cx
 else
  are arj
def HH (N:Nat) (ct:Int) (e8:aB) (cD:Int):Option Bool:=
 if (e8.kind==2)=arf then
  if (ct==e8.a)=arf then
   aQ.lt (cD==1) fun c5=>
   are c5
  else
   are arj
 else
  are arj
def HI (N:Nat) (ct:Int) (e8:aB) (cD:Int):Option Bool:=
 if (e8.kind==2)=arf then
  if (ct==e8.a)=arf then
   aQ.lt (cD==2) fun dK=>
   are dK
  else
   are arj
 else
  are arj
def I6 (N:Nat) (x0:List aB) (aZ:List (Int×Int)) (dy:Int) (ct:Int):Option (List Int):=
 ark (bc x0 dy) fun bh=>
 aQ.lt (bn aZ dy) fun bE=>
 aQ.lt (bE.getD 0) fun b6=>
 ark (HG N bh b6) fun cG=>
 if cG=arf then
  are []
 else
  ark (HH N ct bh b6) fun c6=>
  if c6=arf then
   are ([bh.b]:List Int)
  else
   ark (HI N ct bh b6) fun dJ=>
   if dJ=arf then
    are ([bh.c]:List Int)
   else
    ark (xO N x0 dy ct) fun ep=>
    are ep
def HR (N:Nat) (self:(List Int)->bK->(List aB)->(List (bK×Bool))->(List (Int×Bool))->Int->Int->(List (Int×Int))->(List (bK×Bool))->(List (Int×Bool))->Option (Bool×(List (bK×Bool)))) (dH:bK) (cD:Int) (lf:List (bK×Bool)):Option Bool:=
 aQ.lt (bn lf dH) fun bE=>
 if (bE.getD arj)=arf then
  are arf
 else
  are (decide (cD<0))
def Qc (N:Nat) (self:(List Int)->bK->(List aB)->(List (bK×Bool))->(List (Int×Bool))->Int->Int->(List (Int×Int))->(List (bK×Bool))->(List (Int×Bool))->Option (Bool×(List (bK×Bool)))) (c4:Int) (cf:Int) (cD:Int):Option Bool:=
 if (cD !=c4)=arf then
  aQ.lt (cD !=cf) fun c5=>
  are c5
 else
  are arj
def zS (N:Nat) (self:(List Int)->bK->(List aB)->(List (bK×Bool))->(List (Int×Bool))->Int->Int->(List (Int×Int))->(List (bK×Bool))->(List (Int×Bool))->Option (Bool×(List (bK×Bool)))) (IG:List Int) (aZ:(List aB)) (c4:Int) (cf:Int) (b9:(List (Int×Int))) (cD:Int) (ta:List Int) (qg:Int) (qf:List (Int×Bool)):Nat->Int->(List (bK×Bool))->Option (Sum ((List (bK×Bool))) (Bool×(List (bK×Bool))))
 |0,_,_=>ari
 |n+1,QY,lf=>
  if (decide (QY<qg))=arf then
   ark (bc ta QY) fun dJ=>
   ark (self IG (bK.mk cD dJ) aZ [] [] c4 cf b9 lf qf) fun ep=>
   if ep.1=arf then
    are (arx (arf,ep.2))
   else
    zS N self IG aZ c4 cf b9 cD ta qg qf n (art .i64 (QY+1)) ep.2
  else
   are (ary lf)
def ml (N:Nat):Nat->(List Int)->bK->(List aB)->(List (bK×Bool))->(List (Int×Bool))->Int->Int->(List (Int×Int))->(List (bK×Bool))->(List (Int×Bool))->Option (Bool×(List (bK×Bool)))
 |0,_,_,_,_,_,_,_,_,_,_=>ari
 |cC+1,IG,x0,aZ,dy,ct,c4,cf,b9,lf,qf=>
  ark (u9 N aZ x0.aA x0.node) fun bh=>
  ark (HR N (ml N cC) x0 bh lf) fun b6=>
  if b6=arf then
   are (arj,lf)
  else
   aQ.lt (eJ lf x0 arf) fun cx=>
   aQ.lt (bn qf bh) fun cG=>
   if (cG.getD arj)=arf then
    ark (Qc N (ml N cC) c4 cf bh) fun c6=>
    are (c6,cx)
   else
    ark (I6 N aZ b9 bh x0.node) fun dK=>
    ark (zS N (ml N cC) IG aZ c4 cf b9 bh dK (dK.length:Int) qf N 0 cx) fun eW=>
    match eW with
    |ary e9=>
     are (arj,e9)
    |arx e4=>
     are (e4.1,e4.2)
def H2 (N:Nat) (hr:Int) (fq:aB) (rj:List (Int×Bool)):Option Bool:=
 if (fq.kind !=1)=arf then
  are arf
 else
  aQ.lt (bn rj hr) fun c6=>
  are (c6.getD arj)
def H3 (N:Nat) (ct:(List aB)) (dH:(List (Int×Int))) (fp:Int) (iq:Int) (eo:List Int) (hr:Int) (fq:aB) (rj:List (Int×Bool)) (apW:List (bK×Bool)):Option Bool:=
 ark (ml N N eo (bK.mk hr fq.a) ct [] [] fp iq dH apW rj) fun dJ=>
 if dJ.1=arf then
  are arf
 else
  ark (ml N N eo (bK.mk hr fq.b) ct [] [] fp iq dH dJ.2 rj) fun ep=>
  are ep.1
def H0 (N:Nat) (ct:(List aB)) (dH:(List (Int×Int))) (fp:Int) (iq:Int) (eo:List Int) (xK:List aB) (qg:Int) (rj:List (Int×Bool)):Option (List Int):=
 ark (bc xK qg) fun c5=>
 ark (H2 N qg c5 rj) fun dK=>
 if dK=arf then
  are eo
 else
  ark (H3 N ct dH fp iq eo qg c5 rj []) fun eW=>
  if eW=arf then
   ark (eh eo ([qg]:List Int)) fun e9=>
   are e9
  else
   are eo
def xf (N:Nat) (ct:(List aB)) (dH:(List (Int×Int))) (fp:Int) (iq:Int) (xK:List aB) (ta:Int) (rj:List (Int×Bool)):Nat->(List Int)->Int->Option (List Int)
 |0,_,_=>ari
 |n+1,eo,qg=>
  if (decide (qg<ta))=arf then
   ark (H0 N ct dH fp iq eo xK qg rj) fun e4=>
   xf N ct dH fp iq xK ta rj n e4 (art .i64 (qg+1))
  else
   are eo
def xN (N:Nat) (x0:List aB) (aZ:List bo) (dy:List bi):Option (List Int×Int):=
 ark (D0 N x0 aZ) fun bh=>
 if (!bh)=arf then
  are ([],1)
 else
  ark (DZ N x0 dy) fun bE=>
  if (!bE.2)=arf then
   are ([],2)
  else
   ark (DU N aZ) fun b6=>
   ark (bc aZ 0) fun cx=>
   ark (bc aZ (art .i64 ((aZ.length:Int) - 1))) fun cG=>
   ark (xf N x0 bE.1 cx.aA cG.aA x0 (x0.length:Int) b6 N [] 0) fun hT=>
   are (hT,0)
def aa7 (N:Nat):Option Bool:=
 are arf
def H5 (N:Nat) (c4:List aB) (b9:Int) (cq:List aB) (e8:Int):Option Bool:=
 if (b9 !=0)=arf then
  are arf
 else
  if (e8 !=0)=arf then
   are arf
  else
   ark (IX N cq c4) fun cG=>
   are (!cG)
def H7 (N:Nat) (ct:eC) (cq:List aB) (cD:List bQ) (eo:List bQ) (hr:Int) (apX:Bool):Option (eC×List bQ×Int):=
 if apX=arf then
  ark (lO N ct 5) fun kr=>
  ark (IY N cq cD kr.1) fun h4=>
  are (kr.2,h4.1,h4.2)
 else
  are (ct,eo,hr)
def P5 (N:Nat) (oH:List Int) (xH:Int):Option Bool:=
 if (xH !=0)=arf then
  are arf
 else
  are (decide (0<(oH.length:Int)))
def H8 (N:Nat) (fq:List Bool) (js:Int):Option Bool:=
 if (decide (js<0))=arf then
  are arf
 else
  if (decide ((fq.length:Int)<=js))=arf then
   are arf
  else
   ark (bc fq js) fun u7=>
   ark (bc fq js) fun xL=>
   are xL
def xj (N:Nat) (cD:List bQ) (h3:Int):Nat->(List Bool)->Int->Option (Sum (List Bool) (Bool))
 |0,_,_=>ari
 |n+1,fq,oI=>
  ark (bc cD h3) fun u6=>
  if (decide (oI<(u6.ew.length:Int)))=arf then
   ark (bc cD h3) fun rk=>
   ark (bc rk.ew oI) fun na=>
   ark (H8 N fq na.aA) fun Ah=>
   if Ah=arf then
    are (arx arj)
   else
    ark (bc fq na.aA) fun IM=>
    ark (bc fq na.aA) fun DO=>
    aQ.lt (fq.set ((na.aA:Int).toNat) arf) fun DP=>
    aQ.lt (art .i64 (oI+1)) fun Q1=>
    xj N cD h3 n DP Q1
  else
   are (ary fq)
def xi (N:Nat) (cq:List aB) (cD:List bQ):Nat->(List Bool)->Int->Option (Sum (Unit) (Bool))
 |0,_,_=>ari
 |n+1,fq,h3=>
  if (decide (h3<(cD.length:Int)))=arf then
   ark (bc cD h3) fun oJ=>
   ark (IW N cD) fun pt=>
   ark (xN N cq oJ.ew pt) fun td=>
   ark (P5 N td.1 td.2) fun te=>
   if te=arf then
    are (arx arj)
   else
    ark (xj N cD h3 N fq 0) fun Q2=>
    match Q2 with
    |ary Q3=>
     aQ.lt (art .i64 (h3+1)) fun Ai=>
     xi N cq cD n Q3 Ai
    |arx Q4=>
     are (arx Q4)
  else
   are (ary ())
def H6 (N:Nat) (ct:eC) (cq:List aB) (cD:List bQ):Option (Sum (eC×List bQ) (Bool)):=
 ark (I7 N ct cq) fun c6=>
 ark (lO N c6.2 5) fun dK=>
 ark (bc c6.1 0) fun dJ=>
 ark (bc c6.1 0) fun ep=>
 ark (bc c6.1 (art .i64 ((c6.1.length:Int) - 1))) fun eW=>
 ark (bc c6.1 (art .i64 ((c6.1.length:Int) - 1))) fun e9=>
 ark (I3 N cq cD dK.1 ep.aA e9.aA) fun e4=>
 ark (lO N dK.2 4) fun hT=>
 ark (H7 N hT.2 cq cD e4.1 e4.2 (hT.1==0)) fun ju=>
 if (ju.2.2 !=0)=arf then
  are (ary (ju.1,cD))
 else
  ark (k2 arj (cq.length:Int)) fun jd=>
  ark (xi N cq ju.2.1 N jd 0) fun Aj=>
  match Aj with
  |ary aa1=>
   are (ary (ju.1,ju.2.1))
  |arx IN=>
   are (arx IN)
def xh (N:Nat) (cq:List aB):Nat->eC->(List bQ)->Int->Option (Sum (Unit) (Bool))
 |0,_,_,_=>ari
 |n+1,ct,cD,fp=>
  if (decide (fp<10))=arf then
   ark (H6 N ct cq cD) fun Q5=>
   match Q5 with
   |ary Q6=>
    aQ.lt (art .i64 (fp+1)) fun Q7=>
    xh N cq n Q6.1 Q6.2 Q7
   |arx Q8=>
    are (arx Q8)
  else
   are (ary ())
def I5 (N:Nat) (x0:List Int):Option Bool:=
 ark (Rn N x0) fun bh=>
 ark (DY N bh 20) fun bE=>
 ark (va N bE.1) fun b6=>
 ark (I8 N b6.1) fun cx=>
 ark (H5 N bE.1 b6.2 cx.1 cx.2.2) fun c5=>
 if c5=arf then
  are arj
 else
  ark (xh N cx.1 N bE.2 [] 0) fun Q9=>
  match Q9 with
  |ary Ra=>
   ark (aa7 N) fun Rb=>
   are Rb
  |arx IP=>
   are IP
end
end Go.W
end
section
set_option maxRecDepth 100000
set_option maxHeartbeats 1000000
namespace Go.W
open Go.aQ Go.Proofs Go.Sort Go.Shelf Go.RowKit Go.Lib
def agp:auy:=⟨fun|6=>44|15=>73|14=>72|28=>104|29=>105|20=>96|21=>97|22=>98|23=>99|24=>100|25=>101|26=>102|27=>103|46=>122|47=>123|48=>124|49=>125|50=>126|57=>156|n=>n,fun|22=>45|24=>98|25=>103|3=>3|39=>177|0=>0|53=>206|55=>208|4=>4|46=>200|45=>199|50=>155|5=>5|9=>9|66=>227|70=>231|76=>248|77=>249|n=>n,fun|n=>n⟩
theorem O8:Go.Proofs.SlLaysF0.n6 Tryz.prog agp:={
 mixed:=by kernel_rfl,
 f6:=⟨Tryz.f44.name,by decide,Tryz.func44.trans (congrArg are (by kernel_rfl))⟩,
 f14:=⟨Tryz.f72.name,by decide,Tryz.func72.trans (congrArg are (by kernel_rfl))⟩,
 f15:=Tryz.func73.trans (congrArg are (by kernel_rfl)),
 f20:=⟨Tryz.f96.name,by decide,Tryz.func96.trans (congrArg are (by kernel_rfl))⟩,
 f21:=⟨Tryz.f97.name,by decide,Tryz.func97.trans (congrArg are (by kernel_rfl))⟩,
 f22:=⟨Tryz.f98.name,by decide,Tryz.func98.trans (congrArg are (by kernel_rfl))⟩,
 f23:=⟨Tryz.f99.name,by decide,Tryz.func99.trans (congrArg are (by kernel_rfl))⟩,
 f24:=⟨Tryz.f100.name,by decide,Tryz.func100.trans (congrArg are (by kernel_rfl))⟩,
 f25:=⟨Tryz.f101.name,by decide,Tryz.func101.trans (congrArg are (by kernel_rfl))⟩,
 f26:=⟨Tryz.f102.name,by decide,Tryz.func102.trans (congrArg are (by kernel_rfl))⟩,
 f27:=⟨Tryz.f103.name,by decide,Tryz.func103.trans (congrArg are (by kernel_rfl))⟩,
 f28:=Tryz.func104.trans (congrArg are (by kernel_rfl)),
 f29:=Tryz.func105.trans (congrArg are (by kernel_rfl)),
 f46:=⟨Tryz.f122.name,by decide,Tryz.func122.trans (congrArg are (by kernel_rfl))⟩,
 f47:=Tryz.func123.trans (congrArg are (by kernel_rfl)),
 f48:=Tryz.func124.trans (congrArg are (by kernel_rfl)),
 f49:=⟨Tryz.f125.name,by decide,Tryz.func125.trans (congrArg are (by kernel_rfl))⟩,
 f50:=⟨Tryz.f126.name,by decide,Tryz.func126.trans (congrArg are (by kernel_rfl))⟩,
 f57:=⟨Tryz.f156.name,by decide,Tryz.func156.trans (congrArg are (by kernel_rfl))⟩,
 t0:=Tryz.underlying0,
 a0:=Tryz.isAgg0,
 z0:=Tryz.sizeOf0,
 v0:=Tryz.zeroValue0,
 t3:=Tryz.underlying3,
 a3:=Tryz.isAgg3,
 z3:=Tryz.sizeOf3,
 v3:=Tryz.zeroValue3,
 t4:=Tryz.underlying4,
 a4:=Tryz.isAgg4,
 z4:=Tryz.sizeOf4,
 v4:=Tryz.zeroValue4,
 t5:=Tryz.underlying5,
 a5:=Tryz.isAgg5,
 z5:=Tryz.sizeOf5,
 v5:=Tryz.zeroValue5,
 t9:=Tryz.underlying9,
 a9:=Tryz.isAgg9,
 z9:=Tryz.sizeOf9,
 v9:=Tryz.zeroValue9,
 t22:=Tryz.underlying45,
 a22:=Tryz.isAgg45,
 z22:=Tryz.sizeOf45,
 v22:=Tryz.zeroValue45,
 t25:=Tryz.underlying103,
 a25:=Tryz.isAgg103,
 z25:=Tryz.sizeOf103,
 v25:=Tryz.zeroValue103,
 t39:=Tryz.underlying177,
 a39:=Tryz.isAgg177,
 z39:=Tryz.sizeOf177,
 v39:=Tryz.zeroValue177,
 t45:=Tryz.underlying199,
 a45:=Tryz.isAgg199,
 z45:=Tryz.sizeOf199,
 v45:=Tryz.zeroValue199,
 t46:=Tryz.underlying200,
 a46:=Tryz.isAgg200,
 z46:=Tryz.sizeOf200,
 v46:=Tryz.zeroValue200,
 t50:=Tryz.underlying155,
 a50:=Tryz.isAgg155,
 z50:=Tryz.sizeOf155,
 v50:=Tryz.zeroValue155,
 t53:=Tryz.underlying206,
 a53:=Tryz.isAgg206,
 z53:=Tryz.sizeOf206,
 v53:=Tryz.zeroValue206,
 t55:=Tryz.underlying208,
 a55:=Tryz.isAgg208,
 z55:=Tryz.sizeOf208,
 v55:=Tryz.zeroValue208,
 t66:=Tryz.underlying227,
 a66:=Tryz.isAgg227,
 z66:=Tryz.sizeOf227,
 v66:=Tryz.zeroValue227,
 t70:=Tryz.underlying231,
 a70:=Tryz.isAgg231,
 z70:=Tryz.sizeOf231,
 v70:=Tryz.zeroValue231,
 t76:=Tryz.underlying248,
 a76:=Tryz.isAgg248,
 z76:=Tryz.sizeOf248,
 v76:=Tryz.zeroValue248,
 t77:=Tryz.underlying249,
 a77:=Tryz.isAgg249,
 z77:=Tryz.sizeOf249,
 v77:=Tryz.zeroValue249}
def agt:auy:=⟨fun|5=>46|7=>74|n=>n,fun|22=>3|3=>3|4=>4|n=>n,fun|n=>n⟩
theorem O9:Go.Proofs.SlLaysC2.n5 Tryz.prog agt:={
 mixed:=by kernel_rfl,
 f5:=⟨Tryz.f46.name,by decide,Tryz.func46.trans (congrArg are (by kernel_rfl))⟩,
 f7:=⟨Tryz.f74.name,by decide,Tryz.func74.trans (congrArg are (by kernel_rfl))⟩,
 t3:=Tryz.underlying3,
 a3:=Tryz.isAgg3,
 z3:=Tryz.sizeOf3,
 v3:=Tryz.zeroValue3,
 t4:=Tryz.underlying4,
 a4:=Tryz.isAgg4,
 z4:=Tryz.sizeOf4,
 v4:=Tryz.zeroValue4,
 t22:=Tryz.underlying3,
 a22:=Tryz.isAgg3,
 z22:=Tryz.sizeOf3,
 v22:=Tryz.zeroValue3}
set_option maxHeartbeats 1000000 in
theorem akW (x y:bi) (W:World):Calls Tryz.prog 45 #[.agg #[.int .i64 x.aA, .int .i64 x.ed], .agg #[.int .i64 y.aA, .int .i64 y.ed]] W fun e w'=>e= .returned (.int .i64 (gf x.aA y.aA))/\∃q sl,w'=grow (W.drewN q) sl:=by
 have pK:=fun rF=>AnyG.cmp_Compare_int O9 x.aA y.aA rF
 change ∀rF,Calls Tryz.prog 46 _ _ _ at pK
 unfold gf;generalize auw x.aA y.aA=r at pK⊢
 go_enter Tryz.func45,Tryz.ntmps45
 go_wp2_with (go_at_call 46;refine (pK _).mono ?_;rintro e w' ⟨rfl,rfl⟩)
 go_ret
 exact ⟨rfl,0,_,by rw[alloc_eq_grow,alloc_eq_grow,grow_grow];rfl⟩
set_option maxHeartbeats 1000000 in
theorem akX (x y:bi) (W:World):Calls Tryz.prog 67 #[.agg #[.int .i64 x.aA, .int .i64 x.ed], .agg #[.int .i64 y.aA, .int .i64 y.ed]] W fun e w'=>e= .returned (.int .i64 (gf x.aA y.aA))/\∃q sl,w'=grow (W.drewN q) sl:=by
 have pK:=fun rF=>AnyG.cmp_Compare_int O9 x.aA y.aA rF
 change ∀rF,Calls Tryz.prog 46 _ _ _ at pK
 unfold gf;generalize auw x.aA y.aA=r at pK⊢
 go_enter Tryz.func67,Tryz.ntmps67
 go_wp2_with (go_at_call 46;refine (pK _).mono ?_;rintro e w' ⟨rfl,rfl⟩)
 go_ret
 exact ⟨rfl,0,_,by rw[alloc_eq_grow,alloc_eq_grow,grow_grow];rfl⟩
set_option maxHeartbeats 1000000 in
theorem akY (x y:bi) (W:World):Calls Tryz.prog 90 #[.agg #[.int .i64 x.aA, .int .i64 x.ed], .agg #[.int .i64 y.aA, .int .i64 y.ed]] W fun e w'=>e= .returned (.int .i64 (gf x.aA y.aA))/\∃q sl,w'=grow (W.drewN q) sl:=by
 have pK:=fun rF=>AnyG.cmp_Compare_int O9 x.aA y.aA rF
 change ∀rF,Calls Tryz.prog 46 _ _ _ at pK
 unfold gf;generalize auw x.aA y.aA=r at pK⊢
 go_enter Tryz.func90,Tryz.ntmps90
 go_wp2_with (go_at_call 46;refine (pK _).mono ?_;rintro e w' ⟨rfl,rfl⟩)
 go_ret
 exact ⟨rfl,0,_,by rw[alloc_eq_grow,alloc_eq_grow,grow_grow];rfl⟩
end Go.W
end
section
namespace Go.aQ
noncomputable section
variable {P:arl} {D:Nat->Type} {X:dk P D}
def Dc (X:dk P D) (d:bZ D) (x:dD D d.ins) (args:List arh) (z:Nat->aV) (m:Mem) (fr:Nat->arh):Prop:=
 args.length=d.np/\(∀(i:Nat) (v:arh),args[i]? =are v->fr i=v)/\je z m/\(∀p∈fO X d.ins x++d.fx,rel X.G z [] p.2 (fr p.1))
theorem XY {d:bZ D} {bA jh:List (aN D)} {O bB:List (aG D)} {x:dD D d.ins} {z:Nat->aV} {e m:Mem} {k:Option Nat} {vs args:List arh} (au:bd X.G O z e m k vs) (b5:a1 (rel X.G z vs) bA args) (hlen:bA.length=d.np)
  (aK:pH (j5 0 bA) d.ins O=are (jh,bB)) (U:(d.fx.all fun p=>tE [] p.2 (dQ (j5 0 bA) p.1))=arf) (ab:gl X [] bB d.ins jh []=are x):
  ∃bR fr,Inv O bB/\cz e.next z bR/\bd X.G bB bR e m k vs/\Dc X d x args bR m fr:=by
 have aP:ef X z vs (j5 0 bA) (fun i=>args.getD i undef):=GN b5 fun j v ap=>by show args.getD (0+j) undef=v;rw[arE,atZ,ap];rfl
 obtain ⟨bR,g0,g1,g2,g3⟩:=uz au aP aK;exact ⟨bR,_,g0,g1,g2,b5.length.symm.trans hlen,fun i v af=>by show args.getD i undef=v;rw[atZ,af];rfl,g2.aR.a6,OI (bY:=[]) (aP.mono g1.le fun _ _ h=>h) g3 ab U⟩
theorem Jm.flat {f np:Nat} {ins outs:List c7} {fx:List (Nat×aN D)} {kK:List ResultVar} (F:dD D ins->Option (j3 D outs))
  (U:∀(x:dD D ins) (y:j3 D outs) (sv:aN D) (w:arh) {z:Nat->aV} {m:Mem} {args:List arh} {fr:Nat->arh},F x=are y->s5 (fO X outs (eK outs y)) (j6 mw kK)=are sv->uM sv=are w->
   Dc X ⟨f,np,ins,fx,ari,0,outs,[],kK,arf⟩ x args z m fr->fR P f args.toArray m fun v m'=>v=w/\m'=m):
  b8 X ⟨f,np,ins,fx,ari,0,outs,[],kK,arf⟩ (fun _=>F):=by
 intro bA O ae K r z e m k vs args au b5 h;unfold bZ.call at h;obtain ⟨hlen,h⟩:=eA h;have hlen:=arB hlen;split at h
 ·rename_i jh bB aK;obtain ⟨Bo,h⟩:=eA h;split at h
  ·rename_i x ab;obtain ⟨y,ah,h⟩:=bind_some h;split at h
   ·rename_i sv r7;rw[if_pos rfl] at h;split at h
    ·rename_i w hw;obtain ⟨bD,dR⟩:=Wq (X:=X) (z:=z) (vs:=vs) hw;obtain ⟨bR,fr,g0,g1,g2,g3⟩:=XY au b5 hlen aK Bo ab;refine (U x y sv w ah (by simpa[bZ.cv] using r7) hw g3).mono ?_;rintro v m' ⟨rfl,rfl⟩;exact ⟨cF.here au bD h,fun _=>rfl,ari,eY.refl _, .inl rfl⟩
    ·cases h
   ·cases h
  ·cases h
 ·cases h
theorem Jm.fresh {f np s t:Nat} {ins:List c7} {fx:List (Nat×aN D)} (F:dD D ins->Option (List (D t)))
  (U:∀(x:dD D ins) (y:List (D t)) {z:Nat->aV} {m:Mem} {args:List arh} {fr:Nat->arh},F x=are y->Dc X ⟨f,np,ins,fx,ari,0,[.o s (.aE t)],[(s, .c (.own 0))],[.tmp s],arj⟩ x args z m fr->
   ∃cs,y.length<bT/\y.length*(X.G.T t).aW<=cs.length/\(∀(i:Nat) (a:D t),y[i]? =are a->∃ds,(X.G.T t).rd z a ds/\om cs (i*(X.G.T t).aW) ds)/\
    fR P f args.toArray m fun v m'=>v= .slice (are ⟨m.next,0,ari⟩) y.length y.length/\m'=m.push (.own cs (X.G.T t).tid)):
  b8 X ⟨f,np,ins,fx,ari,0,[.o s (.aE t)],[(s, .c (.own 0))],[.tmp s],arj⟩ (fun _=>F):=by
 intro bA O ae K r z e m k vs args au b5 h;unfold bZ.call at h;obtain ⟨hlen,h⟩:=eA h;have hlen:=arB hlen;split at h
 ·rename_i jh bB aK;obtain ⟨Bo,h⟩:=eA h;split at h
  ·rename_i x ab;obtain ⟨y,ah,h⟩:=bind_some h;split at h
   ·rename_i sv r7;rw[if_neg (by simp)] at h;have aeP:sv= .c (.own bB.length):=by
     have:s5 (D:=D) [(s, .c (.own (bB.length+0)))] (j6 mw [.tmp s])=are sv:=r7;simp[j6,s5,dQ] at this;exact this.symm
    subst aeP;obtain ⟨bR,fr,g0,g1,g2,g3⟩:=XY au b5 hlen aK Bo ab;obtain ⟨cs,c1,c2,iw,lW⟩:=U x y ah g3;refine lW.mono ?_;rintro v m' ⟨rfl,rfl⟩;have tS:er (X.G.T t) bR (m.push (.own cs (X.G.T t).tid)) y (.slice (are ⟨m.next,0,ari⟩) y.length y.length):=er.x8 ⟨m.next,cs,y.length,rfl,by simp[Mem.push],by simp[Mem.push],by
     cases fE:bR m.next with
     |dead=>rfl
     |_=>have:=(g2.aR.a6 m.next (by rw[fE];simp)).2;omega,c2, .inr ⟨c1,ars _,c2⟩,iw⟩
    obtain ⟨dE,a7,sm,dh⟩:=A2 g2.aR tS rfl;exact ⟨cF.from g0 g1 (nG (v:= .slice (are ⟨m.next,0,ari⟩) y.length y.length) g2 dE sm dh h a7 (mN g2 ⟨_,_,rfl⟩)),fun aF=>(by cases aF),ari,sm.J4, .inl rfl⟩
   ·cases h
  ·cases h
 ·cases h
theorem b8.alE (hz:P.follows .mixedOrders=arf) {d:bZ D} {F:d.F} (bM:b8 X d F) (aF:d.quiet=arf) {m:Mem} {z:Nat->aV} (aD:je z m) {bA:List (aN D)} {args:List arh} (b5:a1 (rel X.G z []) bA args) {sv:aN D} {u:arh} (hu:uM sv=are u)
  (h:d.call X F bA [] (fun sv _=>are sv)=are sv) {j:bb} {w:World} {fU:Array arh} (cn:WF m) (ba:Rel P j m w) (c9:a1 (bU j) args fU.toList):Calls P d.f fU w fun e w'=>e= .returned u/\∃bw,Post P j m w bw m w':=by
 have au:bd X.G ([]:List (aG D)) z m m ari []:=⟨cu.start aD cn.dead,rfl,by simp,by simp⟩
 obtain ⟨n,v,m',ad,⟨z',vs',aq1,bz,_,_,_,_,ao,fA⟩,aeD,_⟩:=bM bA [] (fun sv _=>are sv) _ args au b5 h;cases fA;obtain rfl:=aeD aF;obtain ⟨rfl,aK⟩:=XV hu ao;refine ((zc hz n).2 _ _ _ _ _ ad j w fU cn ba c9).2.mono ?_;rintro e w' ⟨aS,bw,rfl,an,aa⟩;exact ⟨by rw[wN aK aa],bw,an⟩
end
end Go.aQ
end
section
namespace Go.aQ
section
variable {P:arl} {ae:arm->arh} {o:Oper}
def ny (ae:arm->arh) (d:Nat):Option arm->Option Nat
 |none=>are d
 |some y=>match ae y with
  | .int _ (.ofNat n)=>are n
  |_=>ari
theorem CP {bf:Option arm} {n:Nat} (h:ny ae 0 bf=are n):oA ae bf n:=by
 cases bf with
 |none=>cases h;rfl
 |some y=>
  simp only[ny] at h;split at h
  ·rename_i k m hm;cases h;exact ⟨k,hm⟩
  ·cases h
theorem CO {af:Option arm} {l n:Nat} (h:ny ae l af=are n):lI ae af l n:=by
 cases af with
 |none=>cases h;rfl
 |some y=>
  simp only[ny] at h;split at h
  ·rename_i k m hm;cases h;exact ⟨k,hm⟩
  ·cases h
def eO {al:Type} (b:Bool) (x:Option al):Option al:=match b with|true=>x|false=>ari
theorem eR {al:Type} {b:Bool} {x:Option al} {y:al} (h:eO b x=are y):b=arf/\x=are y:=by
 cases b
 ·cases h
 ·exact ⟨rfl,h⟩
def MS (op:BinOp) (k:aro) (a b:Int):Option arh:=
 match op with
 | .add=>are (.int k (k.wrap (a+b)))
 | .sub=>are (.int k (k.wrap (a - b)))
 | .mul=>are (.int k (k.wrap (a*b)))
 | .quo=>eO (decide (b≠0)) (are (.int k (k.wrap (a.tdiv b))))
 | .rem=>eO (decide (b≠0)) (are (.int k (a.tmod b)))
 | .and=>are (.int k (p9 .and k a b))
 | .or=>are (.int k (p9 .or k a b))
 | .xor=>are (.int k (p9 .xor k a b))
 | .eql=>are (.bool (a==b))
 | .neq=>are (.bool (a !=b))
 | .lss=>are (.bool (decide (a<b)))
 | .leq=>are (.bool (decide (a<=b)))
 | .gtr=>are (.bool (decide (b<a)))
 | .geq=>are (.bool (decide (b<=a)))
 |_=>ari
theorem ajk {op:BinOp} {t u:arn} {x y:arm} {k:aro} {a b:Int} {v:arh} (h:o.op= .binOp op t x y u) (U:ae x= .int k a) (ah:ae y= .int k b) (aa:MS op k a b=are v):cm P ae o v:=by
 cases op with
 |add=>obtain rfl:=arw.inj aa;exact VF h U ah
 |sub=>obtain rfl:=arw.inj aa;exact VR h U ah
 |mul=>obtain rfl:=arw.inj aa;exact VM h U ah
 |and=>obtain rfl:=arw.inj aa;exact VG h U ah
 |or=>obtain rfl:=arw.inj aa;exact VQ h U ah
 |xor=>obtain rfl:=arw.inj aa;exact VS h U ah
 |eql=>obtain rfl:=arw.inj aa;exact VH h U ah
 |neq=>obtain rfl:=arw.inj aa;exact VO h U ah
 |lss=>obtain rfl:=arw.inj aa;exact VL h U ah
 |leq=>obtain rfl:=arw.inj aa;exact VK h U ah
 |gtr=>obtain rfl:=arw.inj aa;exact VJ h U ah
 |geq=>obtain rfl:=arw.inj aa;exact VI h U ah
 |quo=>obtain ⟨ab,aa⟩:=eR aa;obtain rfl:=arw.inj aa;exact Nj h U ah (of_decide_eq_true ab)
 |rem=>obtain ⟨ab,aa⟩:=eR aa;obtain rfl:=arw.inj aa;exact Nk h U ah (of_decide_eq_true ab)
 |_=>exact absurd aa (by simp[MS])
def QG (op:BinOp) (s r:List UInt8):Option arh:=
 match op with
 | .add=>eO (arF (s.length+r.length) 9223372036854775807) (are (str (s++r)))
 | .eql=>are (.bool (s==r))
 | .neq=>are (.bool (!(s==r)))
 | .lss=>are (.bool (po s r))
 | .leq=>are (.bool (po s r||(s==r)))
 | .gtr=>are (.bool (!(po s r||(s==r))))
 | .geq=>are (.bool (!po s r))
 |_=>ari
theorem aj0 {op:BinOp} {t u:arn} {x y:arm} {s r:List UInt8} {v:arh} (h:o.op= .binOp op t x y u) (U:ae x=str s) (ah:ae y=str r) (aa:QG op s r=are v):cm P ae o v:=by
 cases op with
 |eql=>obtain rfl:=arw.inj aa;exact Z3 h U ah
 |neq=>obtain rfl:=arw.inj aa;exact aad h U ah
 |lss=>obtain rfl:=arw.inj aa;exact Z9 h U ah
 |leq=>obtain rfl:=arw.inj aa;exact Z8 h U ah
 |gtr=>obtain rfl:=arw.inj aa;exact Z6 h U ah
 |geq=>obtain rfl:=arw.inj aa;exact Z5 h U ah
 |add=>obtain ⟨ai,aa⟩:=eR aa;obtain rfl:=arw.inj aa;exact Z0 h U ah (arG ai)
 |_=>exact absurd aa (by simp[QG])
theorem sx (b:ByteArray):str b.data.toList= .string b:=by
 cases b with
 |mk d=>simp[str]
def P9 (P:arl) (t:arn) (x y:arh):Option Bool:=
 match P.underlying t,x,y with
 |some (.int _), .int k a, .int bW b=>if k=bW then are (decide (a=b)) else ari
 |some .bool, .bool a, .bool b=>are (decide (a=b))
 |some .string, .string s, .string r=>are (decide (s.data.toList=r.data.toList))
 |_,_,_=>ari
def Hn (P:arl):List Field->Nat->List arh->List arh->Option Bool
 |[],_,[],[]=>are arf
 | f :: aY, i, x :: xs, y :: a8 => eO (aru f.offset i && !(f.name == "_")) (match P9 P f.type x y, Hn P aY (i + 1) xs a8 with
  |some a,are b=>are (a&&b)
  |_,_=>ari)
 |_,_,_,_=>ari
theorem aiQ {t:arn} {x y:arh} {r:Bool} (h:P9 P t x y=are r):AJ P t x y/\(r=arf↔x=y):=by
 unfold P9 at h;split at h
 ·rename_i bW k a br b hu;split at h
  ·rename_i hk;subst hk;obtain rfl:=arw.inj h;exact ⟨.inl ⟨k,bW,a,b,hu,rfl,rfl⟩,by simp⟩
  ·cases h
 ·rename_i a b hu;obtain rfl:=arw.inj h;exact ⟨.inr (.inl ⟨a,b,hu,rfl,rfl⟩),by simp⟩
 ·rename_i s j7 hu;obtain rfl:=arw.inj h;refine ⟨.inr (.inr ⟨s.data.toList,j7.data.toList,hu,(sx s).symm,(sx j7).symm⟩), ?_⟩;rw[decide_eq_true_iff];constructor
  ·intro he;rw[<-sx s,<-sx j7,he]
  ·intro he;cases he;rfl
 ·cases h
theorem N9:∀{aY:List Field} {i:Nat} {xs a8:List arh} {r:Bool},Hn P aY i xs a8=are r->lS P aY i xs a8/\(r=arf↔xs=a8)
 |[],i,[],[],r,h=>by obtain rfl:=arw.inj h;exact ⟨trivial,by simp⟩
 |[],_,_::_,_,_,h=>by cases h
 |[],_,[],_::_,_,h=>by cases h
 |_::_,_,[],_,_,h=>by cases h
 |_::_,_,_::_,[],_,h=>by cases h
 |f::aY,i,x::xs,y::a8,r,h=>by
  simp only[Hn] at h
  replace h:=eR h
  obtain ⟨g,h⟩:=h;rw[arq] at g;split at h
  ·rename_i a b ar ab;obtain rfl:=arw.inj h;obtain ⟨s1,s2⟩:=aiQ ar;obtain ⟨t1,t2⟩:=N9 ab;refine ⟨⟨arB g.1,by simpa using g.2,s1,t1⟩, ?_⟩;rw[arq,s2,t2];simp
  ·cases h
def JY (P:arl) (op:BinOp) (t:arn) (a b:arh):Option arh:=
 match a,b with
 | .int k a, .int br b=>(match op with
  | .shl=>eO (decide (0<=b)) (are (.int k (k.wrap (a*2 ^ (min b.toNat k.bits)))))
  | .shr=>eO (decide (0<=b)) (are (.int k (a.fdiv (2 ^ (min b.toNat k.bits)))))
  |op=>if k=br then MS op k a b else ari)
 | .string s, .string r=>QG op s.data.toList r.data.toList
 | .bool a, .bool b=>(match P.underlying t,op with
  |some .bool, .eql=>are (.bool (a==b))
  |some .bool, .neq=>are (.bool (!(a==b)))
  |_,_=>ari)
 | .agg xs, .agg a8=>(match P.underlying t with
  |some (.struct aY)=>eO (!P.stoodInHeld t&& !P.eqGuardType P.depth t) (match Hn P aY.toList 0 xs.toList a8.toList,op with
   |some r, .eql=>are (.bool r)
   |some r, .neq=>are (.bool (!r))
   |_,_=>ari)
  |_=>ari)
 | .slice ari 0 0, .slice ari 0 0=>(match P.underlying t,op with
  |some (.slice _), .eql=>are (.bool arf)
  |some (.slice _), .neq=>are (.bool arj)
  |_,_=>ari)
 | .slice (are _) _ _, .slice ari 0 0=>(match P.underlying t,op with
  |some (.slice _), .eql=>are (.bool arj)
  |some (.slice _), .neq=>are (.bool arf)
  |_,_=>ari)
 |_,_=>ari
theorem ai2 {op:BinOp} {t u:arn} {x y:arm} {v:arh} (h:o.op= .binOp op t x y u) (aa:JY P op t (ae x) (ae y)=are v):cm P ae o v:=by
 unfold JY at aa;split at aa
 ·rename_i k a br b U ah;split at aa
  ·obtain ⟨ab,aa⟩:=eR aa;obtain rfl:=arw.inj aa;have:=PB (P:=P) (op:= .shl) h U ah (of_decide_eq_true ab) (.inl rfl);simpa using this
  ·obtain ⟨ab,aa⟩:=eR aa;obtain rfl:=arw.inj aa;have:=PB (P:=P) (op:= .shr) h U ah (of_decide_eq_true ab) (.inr rfl);simpa using this
  ·split at aa
   ·rename_i hk;subst hk;exact ajk h U ah aa
   ·cases aa
 ·rename_i s r U ah;exact aj0 h (U.trans (sx s).symm) (ah.trans (sx r).symm) aa
 ·rename_i a b U ah;split at aa
  ·rename_i ak;cases aa;exact Z2 h ak U ah
  ·rename_i ak;cases aa;exact aac h ak U ah
  ·cases aa
 ·rename_i xs a8 U ah;split at aa
  ·rename_i aY ak
   replace aa:=eR aa
   obtain ⟨g,aa⟩:=aa;simp only[arq,aso] at g;split at aa
   ·rename_i r aq;obtain ⟨s1,s2⟩:=N9 aq;obtain rfl:=arw.inj aa;exact F6 arj h ak g.1 g.2 s1 (by rw[U]) (by rw[ah]) s2
   ·rename_i r aq;obtain ⟨s1,s2⟩:=N9 aq;obtain rfl:=arw.inj aa;exact F6 arf h ak g.1 g.2 s1 (by rw[U]) (by rw[ah]) s2
   ·cases aa
  ·cases aa
 ·rename_i U ah;split at aa
  ·rename_i e ak;cases aa;exact zx arj h ak U ah
  ·rename_i e ak;cases aa;exact zx arf h ak U ah
  ·cases aa
 ·rename_i du l c U ah;split at aa
  ·rename_i e ak;cases aa;exact .vp arj x y t u e _ l c h ak U ah
  ·rename_i e ak;cases aa;exact .vp arf x y t u e _ l c h ak U ah
  ·cases aa
 ·cases aa
def PE (P:arl) (c:Call) (ae:arm->arh):Option arh:=
 match c.callee with
 | .builtin .len=>(match c.args.toList,c.argTypes.toList with
  |[x],[t]=>(match ae x,P.underlying t with
   | .slice _ l _,are (.slice _)=>are (.int .i64 l)
   | .string s,are .string=>are (.int .i64 s.data.toList.length)
   |_,_=>ari)
  |_,_=>ari)
 | .builtin .cap=>(match c.args.toList,c.argTypes.toList with
  |[x],[t]=>(match ae x,P.underlying t with
   | .slice ari 0 0,are (.slice _)=>are (.int .i64 0)
   |_,_=>ari)
  |_,_=>ari)
 | .builtin .max=>(match c.args.toList with
  |[x,y]=>(match ae x,ae y with
   | .int k a, .int br b=>if k=br then are (.int k (max a b)) else ari
   |_,_=>ari)
  |_=>ari)
 | .builtin .min=>(match c.args.toList with
  |[x,y]=>(match ae x,ae y with
   | .int k a, .int br b=>if k=br then are (.int k (min a b)) else ari
   |_,_=>ari)
  |_=>ari)
 |_=>ari
theorem x7 {al:Type} {a:Array al} {x:al} (h:a.toList=[x]):a=#[x]:=by
 cases a;simp at h;subst h;rfl
theorem Ev {al:Type} {a:Array al} {x y:al} (h:a.toList=[x,y]):a=#[x,y]:=by
 cases a;simp at h;subst h;rfl
theorem aiq {c:Call} {v:arh} (h:o.op= .call c) (aa:PE P c ae=are v):cm P ae o v:=by
 obtain ⟨ce,TG,ts⟩:=c;unfold PE at aa;dsimp only at aa;split at aa
 ·split at aa
  ·rename_i x t ar ak;obtain rfl:=x7 ar;obtain rfl:=x7 ak;split at aa
   ·rename_i a l c e U hu;cases aa;exact .len x t e a l c h hu U
   ·rename_i s U hu;cases aa;exact Z7 (t:=t) h rfl hu (U.trans (sx s).symm)
   ·cases aa
  ·cases aa
 ·split at aa
  ·rename_i x t ar ak;obtain rfl:=x7 ar;obtain rfl:=x7 ak;split at aa
   ·rename_i e U hu;cases aa;exact .AU x t e h hu U
   ·cases aa
  ·cases aa
 ·split at aa
  ·rename_i x y ar;obtain rfl:=Ev ar;split at aa
   ·rename_i k a br b U ah;split at aa
    ·rename_i hk;subst hk;cases aa;exact aaa h U ah
    ·cases aa
   ·cases aa
  ·cases aa
 ·split at aa
  ·rename_i x y ar;obtain rfl:=Ev ar;split at aa
   ·rename_i k a br b U ah;split at aa
    ·rename_i hk;subst hk;cases aa;exact aab h U ah
    ·cases aa
   ·cases aa
  ·cases aa
 ·cases aa
end
end Go.aQ
end
section
namespace Go.aQ
inductive Trie (al:Type) where
 |e
 |n (l:Trie al) (v:Option al) (r:Trie al)
def Trie.get {al:Type}:Trie al->Nat->Option al
 | .e,_=>ari
 | .n l v r,k=>match aru k 0 with
  |true=>v
  |false=>match aru (k%2) 1 with
   |true=>l.get (k / 2)
   |false=>r.get (k / 2 - 1)
def Trie.set {al:Type}:Nat->Trie al->Nat->al->Trie al
 |0,t,_,_=>t
 |f+1, .e,k,x=>match aru k 0 with
  |true=> .n .e (are x) .e
  |false=>match aru (k%2) 1 with
   |true=> .n (Trie.set f .e (k / 2) x) ari .e
   |false=> .n .e ari (Trie.set f .e (k / 2 - 1) x)
 |f+1, .n l v r,k,x=>match aru k 0 with
  |true=> .n l (are x) r
  |false=>match aru (k%2) 1 with
   |true=> .n (Trie.set f l (k / 2) x) v r
   |false=> .n l v (Trie.set f r (k / 2 - 1) x)
theorem x9 {a b:Nat} (h:¬a=b):aru a b=arj:=by
 cases ab:aru a b with
 |false=>rfl
 |true=>exact absurd (arB ab) h
theorem JX {a b:Nat} (h:a=b):aru a b=arf:=by
 subst h;exact Nat.beq_refl a
theorem Trie.A5 {al:Type} {l r:Trie al} {v:Option al} {k:Nat}:(Trie.n l v r).get k=if k=0 then v else if k%2=1 then l.get (k / 2) else r.get (k / 2 - 1):=by
 simp only[Trie.get];by_cases az:k=0
 ·subst az;rfl
 ·rw[if_neg az,x9 az];by_cases h1:k%2=1
  ·rw[if_pos h1,JX h1]
  ·rw[if_neg h1,x9 h1]
theorem Trie.acr {al:Type} {k:Nat}:(Trie.e:Trie al).get k=ari:=rfl
theorem Trie.aaq {al:Type} {f:Nat} {l r:Trie al} {v:Option al} {k:Nat} {x:al}:Trie.set (f+1) (Trie.n l v r) k x=if k=0 then .n l (are x) r else if k%2=1 then .n (Trie.set f l (k / 2) x) v r else .n l v (Trie.set f r (k / 2 - 1) x):=by
 simp only[Trie.set];by_cases az:k=0
 ·subst az;rfl
 ·rw[if_neg az,x9 az];by_cases h1:k%2=1
  ·rw[if_pos h1,JX h1]
  ·rw[if_neg h1,x9 h1]
theorem Trie.aof {al:Type} {f k:Nat} {x:al}:∀j,(Trie.set (f+1) (Trie.e:Trie al) k x).get j=(Trie.set (f+1) (Trie.n .e ari .e) k x).get j:=by
 intro j;rw[Trie.aaq];simp only[Trie.set];by_cases az:k=0
 ·subst az;rfl
 ·rw[if_neg az,x9 az];by_cases h1:k%2=1
  ·rw[if_pos h1,JX h1]
  ·rw[if_neg h1,x9 h1]
theorem Trie.acu {al:Type} {x:al}:∀(f:Nat) (t:Trie al) (k j:Nat),k+1<2 ^ f->(Trie.set f t k x).get j=if j=k then are x else t.get j:=by
 intro f;induction f with
 |zero=>intro t k j h;omega
 |succ f aU=>
  intro t k j h;have core:∀(l r:Trie al) (v:Option al),(Trie.set (f+1) (Trie.n l v r) k x).get j=if j=k then are x else (Trie.n l v r).get j:=by
   intro l r v;rw[Trie.aaq,Trie.A5];rw[Nat.pow_succ] at h;by_cases az:k=0
   ·subst az;rw[if_pos rfl,Trie.A5];by_cases ap:j=0
    ·subst ap;simp
    ·rw[if_neg ap,if_neg ap,if_neg ap]
   ·rw[if_neg az];by_cases h1:k%2=1
    ·rw[if_pos h1,Trie.A5];by_cases ap:j=0
     ·subst ap;rw[if_pos rfl,if_pos rfl,if_neg (by omega)]
     ·rw[if_neg ap,if_neg ap];by_cases mB:j%2=1
      ·rw[if_pos mB,if_pos mB,aU _ _ _ (by omega)];by_cases yA:j=k
       ·subst yA;simp
       ·rw[if_neg yA,if_neg (by omega)]
      ·rw[if_neg mB,if_neg mB,if_neg (by omega)]
    ·rw[if_neg h1,Trie.A5];by_cases ap:j=0
     ·subst ap;rw[if_pos rfl,if_pos rfl,if_neg (by omega)]
     ·rw[if_neg ap,if_neg ap];by_cases mB:j%2=1
      ·rw[if_pos mB,if_pos mB,if_neg (by omega)]
      ·rw[if_neg mB,if_neg mB,aU _ _ _ (by omega)];by_cases yA:j=k
       ·subst yA;simp
       ·rw[if_neg yA,if_neg (by omega)]
  cases t with
  |n l v r=>exact core l r v
  |e=>
   rw[Trie.aof,core,Trie.A5];congr 1;rw[Trie.acr];split
   ·rfl
   ·split<;>rfl
def Trie.put {al:Type} (t:Trie al) (k:Nat) (x:al):Option (Trie al):=eO (ar5 k 1000000000) (are (Trie.set 31 t k x))
theorem Trie.sr {al:Type} {t cS:Trie al} {k:Nat} {x:al} (h:t.put k x=are cS) (j:Nat):cS.get j=if j=k then are x else t.get j:=by
 obtain ⟨h1,J⟩:=eR h;obtain rfl:=arw.inj J;have:k<1000000000:=arG h1;exact Trie.acu 31 t k j (by omega)
structure dp where
 next:Nat
 t:Trie aV
def dp.mem (c:dp):Mem:=⟨c.next,fun b=>(c.t.get b).getD .dead⟩
def dp.ay (c:dp) (b:Nat):aV:=(c.t.get b).getD .dead
def dp.put (c:dp) (b:Nat) (x:aV):Option dp:=match c.t.put b x with
 |some t=>are ⟨c.next,t⟩
 |none=>ari
def dp.push (c:dp) (x:aV):Option dp:=match c.t.put c.next x with
 |some t=>are ⟨c.next+1,t⟩
 |none=>ari
theorem dp.zb {c bg:dp} {b:Nat} {x:aV} (h:c.put b x=are bg):bg.mem=c.mem.put b x:=by
 unfold dp.put at h;split at h
 ·rename_i t ak;obtain rfl:=arw.inj h;simp only[dp.mem,Mem.put];congr 1;funext i;rw[Trie.sr ak];split<;>rfl
 ·cases h
theorem dp.F9 {c bg:dp} {x:aV} (h:c.push x=are bg):bg.mem=c.mem.push x:=by
 unfold dp.push at h;split at h
 ·rename_i t ak;obtain rfl:=arw.inj h;have h1:∀i,(dp.mem ⟨c.next+1,t⟩).ay i=(c.mem.push x).ay i:=fun i=>by
   show (t.get i).getD .dead=if i=c.next then x else (c.t.get i).getD .dead
   rw[Trie.sr ak];by_cases af:i=c.next
   ·rw[if_pos af,if_pos af];rfl
   ·rw[if_neg af,if_neg af]
  show Mem.mk _ _=Mem.mk _ _;congr 1;exact funext h1
 ·cases h
abbrev cX:=Trie arh
def cX.fr (c:cX) (i:Nat):arh:=(c.get i).getD undef
def cX.set (c:cX) (d:Option Tmp) (v:arh):Option cX:=match d with
 |some t=>c.put t v
 |none=>are c
theorem cX.rf {c bg:cX} {d:Option Tmp} {v:arh} (h:cX.set c d v=are bg):cX.fr bg=aQ.set (cX.fr c) d v:=by
 cases d with
 |none=>obtain rfl:=arw.inj h;rfl
 |some t=>funext i;simp only[cX.fr,aQ.set];rw[Trie.sr h];split<;>rfl
end Go.aQ
end
section
namespace Go.aQ
section
variable {P:arl} {ae:arm->arh} {o:Oper}
theorem aim {al:Type} {l:List (Option al)} (h:l.all auo=arf):∀x∈l,x.isSome=arf:=fun x U=>arz.1 h x U
def Ph (P:arl) (ae:arm->arh) (t:arn) (bx:Array (Nat×arm)):Option arh:=
 match P.underlying t,P.info? t with
 |some (.struct aY),are i=>(match i.zero with
  |some z=>eO (z.cells.toList.all b7&&(mc P aY).all auo) (match iG (fun k=>((mc P aY)[k]?).join) z.cells.toList (bx.toList.map fun p=>(p.1,ae p.2)) with
   |some cs=>are (.agg cs.toArray)
   |none=>ari)
  |none=>ari)
 |some (.array n e),are i=>(match i.zero,P.info? e with
  |some z,are k=>eO (z.cells.toList.all b7) (match iG (fun j=>are (j*k.size,k.size)) z.cells.toList (bx.toList.map fun p=>(p.1,ae p.2)) with
   |some cs=>are (.agg cs.toArray)
   |none=>ari)
  |_,_=>ari)
 |_,_=>ari
theorem agH {t:arn} {bx:Array (Nat×arm)} {v:arh} (h:o.op= .build t bx) (aa:Ph P ae t bx=are v):cm P ae o v:=by
 unfold Ph at aa;split at aa
 ·rename_i aY i hu af;split at aa
  ·rename_i z aD;obtain ⟨h1,aa⟩:=eR aa;rw[arq] at h1;split at aa
   ·rename_i cs ad;obtain rfl:=arw.inj aa;exact .build t bx aY i z cs h hu af aD h1.1 (aim h1.2) ad
   ·cases aa
  ·cases aa
 ·rename_i n e i hu af;split at aa
  ·rename_i z k aD hk;obtain ⟨h1,aa⟩:=eR aa;split at aa
   ·rename_i cs ad;obtain rfl:=arw.inj aa;exact .AS t bx n e i k z cs h hu af aD h1 hk ad
   ·cases aa
  ·cases aa
 ·cases aa
def MR (P:arl) (t:arn) (a b:arh):Option arh:=
 match P.underlying t,a,b with
 |some (.slice e), .slice (are ⟨hJ,off,ari⟩) l c, .int k n=>(match P.info? e with
  |some i=>eO (decide (0<=n)&&decide (n<l)) (are (.pointer (are ⟨hJ,off+n.toNat*i.size,ari⟩)))
  |none=>ari)
 |some (.array l e), .pointer (are ⟨hJ,off,ari⟩), .int k n=>(match P.info? e with
  |some i=>eO (decide (0<=n)&&decide (n<l)) (are (.pointer (are ⟨hJ,off+n.toNat*i.size,ari⟩)))
  |none=>ari)
 |_,_,_=>ari
theorem ajj {t:arn} {x y:arm} {v:arh} (h:o.op= .indexAddr t x y) (aa:MR P t (ae x) (ae y)=are v):cm P ae o v:=by
 unfold MR at aa;split at aa
 ·rename_i e hJ off l c k n hu U ah;split at aa
  ·rename_i i af;obtain ⟨h1,aa⟩:=eR aa;rw[arq] at h1;obtain rfl:=arw.inj aa;exact .indexAddr t x y e i hJ off l c k n h hu af U ah (of_decide_eq_true h1.1) (of_decide_eq_true h1.2)
  ·cases aa
 ·rename_i l e hJ off k n hu U ah;split at aa
  ·rename_i i af;obtain ⟨h1,aa⟩:=eR aa;rw[arq] at h1;obtain rfl:=arw.inj aa;exact .BU t x y e i hJ off l k n h hu af U ah (of_decide_eq_true h1.1) (of_decide_eq_true h1.2)
  ·cases aa
 ·cases aa
def Lj (P:arl) (t:arn) (i:Nat) (a:arh):Option arh:=
 match P.underlying t,a with
 |some (.struct aY), .pointer (are ⟨b,off,ari⟩)=>(match aY[i]? with
  |some f=>(match P.info? f.type with
   |some k=>eO (!Nat.beq k.size 0) (are (.pointer (are ⟨b,off+f.offset,ari⟩)))
   |none=>ari)
  |none=>ari)
 |_,_=>ari
theorem ajL {t:arn} {x:arm} {i:Nat} {v:arh} (h:o.op= .fieldAddr t x i) (aa:Lj P t i (ae x)=are v):cm P ae o v:=by
 unfold Lj at aa;split at aa
 ·rename_i aY b off hu U;split at aa
  ·rename_i f aK;split at aa
   ·rename_i k hk;obtain ⟨h1,aa⟩:=eR aa;obtain rfl:=arw.inj aa;refine .fieldAddr t x i aY f k b off h hu aK hk (fun az=> ?_) U;rw[az] at h1;cases h1
   ·cases aa
  ·cases aa
 ·cases aa
def Ik (l c k:Nat):Bool:=match aru c bT with
 |true=>arF k l
 |false=>ar5 c bT&&arF k c
theorem XJ {l c k:Nat} (h:Ik l c k=arf):(c<bT/\k<=c)\/(c=bT/\k<=l):=by
 unfold Ik at h;split at h
 ·rename_i ad;exact .inr ⟨arB ad,arG h⟩
 ·rw[arq] at h;exact .inl ⟨arG h.1,arG h.2⟩
def Kb (P:arl) (ae:arm->arh) (t:arn) (a:arh) (bf af:Option arm) (eI:arm):Option arh:=
 match P.underlying t,a,bf,af with
 |some (.slice e), .slice (are ⟨b,off,ari⟩) l c,ari,are y=>(match P.info? e,ae y,ae eI with
  |some i, .int _ (.ofNat bq), .int _ (.ofNat bW)=>eO (Ik l c bW&&arF bq bW) (are (.slice (are ⟨b,off,ari⟩) bq bW))
  |_,_,_=>ari)
 |some (.slice e), .slice ari 0 0,ari,are y=>(match P.info? e,ae y,ae eI with
  |some i, .int _ (.ofNat 0), .int _ (.ofNat 0)=>are (.slice ari 0 0)
  |_,_,_=>ari)
 |some (.slice e), .slice (are ⟨b,off,ari⟩) l c,are x0,are y=>(match P.info? e,ae x0,ae y,ae eI with
  |some i, .int _ (.ofNat n), .int _ (.ofNat bq), .int _ (.ofNat bW)=>eO (Ik l c bW&&(arF n bq&&arF bq bW)) (are (.chan ari))
  |_,_,_,_=>ari)
 |_,_,_,_=>ari
theorem ajD {t:arn} {x eI:arm} {bf af:Option arm} {v:arh} (h:o.op= .slice t x bf af (are eI)) (aa:Kb P ae t (ae x) bf af eI=are v):cm P ae o v:=by
 unfold Kb at aa;split at aa
 ·rename_i e b off l c y hu U;split at aa
  ·rename_i i wh bq km bW da ah hm
   replace aa:=eR aa
   obtain ⟨g,aa⟩:=aa;rw[arq] at g;obtain rfl:=arw.inj aa;exact .slice3 t x eI (are y) e i b off l c bq bW km h hu da U (XJ g.1) ⟨y,wh,rfl,ah⟩ hm (arG g.2)
  ·cases aa
 ·rename_i e y hu U;split at aa
  ·rename_i i wh km da ah hm;obtain rfl:=arw.inj aa;exact .DF t x eI (are y) e i km h hu da U ⟨y,wh,rfl,ah⟩ hm
  ·cases aa
 ·rename_i e b off l c x0 y hu U;split at aa
  ·rename_i i hh n wh bq km bW da az ah hm
   replace aa:=eR aa
   obtain ⟨g,aa⟩:=aa;simp only[arq] at g;obtain rfl:=arw.inj aa;exact .IB t x x0 y eI e i b off l c n bq bW hh wh km h hu da U (XJ g.1) az ah hm (arG g.2.1) (arG g.2.2)
  ·cases aa
 ·cases aa
def Kc (P:arl) (ae:arm->arh) (t:arn) (a:arh) (bf af eI:Option arm):Option arh:=
 match eI with
 |some m=>Kb P ae t a bf af m
 |none=>
  match P.underlying t,a with
  |some (.slice e), .slice (are ⟨b,off,ari⟩) l c=>(match P.info? e,ny ae 0 bf,ny ae l af with
   |some i,are n,are bq=>eO (ar5 c bT&&(arF n bq&&arF bq c)) (are (.slice (are ⟨b,if c=n then off else off+n*i.size,ari⟩) (bq - n) (c - n)))
   |_,_,_=>ari)
  |some (.slice e), .slice ari 0 0=>(match P.info? e,ny ae 0 bf,ny ae 0 af with
   |some i,are 0,are 0=>are (.slice ari 0 0)
   |_,_,_=>ari)
  |some .string, .string s=>(match ny ae 0 bf,ny ae s.data.toList.length af with
   |some a,are b=>eO (arF a b&&arF b s.data.toList.length) (are (str ((s.data.toList.take b).drop a)))
   |_,_=>ari)
  |_,_=>ari
theorem ajE {t:arn} {x:arm} {bf af eI:Option arm} {v:arh} (h:o.op= .slice t x bf af eI) (aa:Kc P ae t (ae x) bf af eI=are v):cm P ae o v:=by
 unfold Kc at aa;split at aa
 ·exact ajD h aa
 ·split at aa
  ·rename_i e b off l c hu U;split at aa
   ·rename_i i n bq da dv cP;obtain ⟨h1,aa⟩:=eR aa;obtain rfl:=arw.inj aa;simp only[arq] at h1;exact .slice t x bf af e i b off l c n bq h hu da U (arG h1.1) (CP dv) (CO cP) (arG h1.2.1) (arG h1.2.2) (fun _=>trivial)
   ·cases aa
  ·rename_i e hu U;split at aa
   ·rename_i i da dv cP;obtain rfl:=arw.inj aa;exact .k8 t x bf af e i h hu da U (CP dv) (CO cP)
   ·cases aa
  ·rename_i s hu U;split at aa
   ·rename_i a b dv cP;obtain ⟨h1,aa⟩:=eR aa;obtain rfl:=arw.inj aa;simp only[arq] at h1;exact Y3 h hu (U.trans (sx s).symm) (CP dv) (CO cP) (arG h1.1) (arG h1.2)
   ·cases aa
  ·cases aa
end
end Go.aQ
end
section
namespace Go.aQ
section
variable {P:arl} {ae:arm->arh} {o:Oper} {C:FuncId->Array arh->Mem->arh->Mem->Prop} {c bg:dp}
def Ih (P:arl) (ae:arm->arh) (op:Op):Option arh:=
 match op with
 | .move x| .assign x=>are (ae x)
 | .pick a x y=>(match ae a with
  | .bool arf=>are (ae x)
  | .bool arj=>are (ae y)
  |_=>ari)
 | .extract x i=>(match ae x with
  | .tuple vs=>vs[i]?
  |_=>ari)
 | .build t bx=>Ph P ae t bx
 | .nilCheck x=>(match ae x with
  | .pointer (are a)=>are (.pointer (are a))
  |_=>ari)
 | .fieldAddr t x i=>Lj P t i (ae x)
 | .indexAddr t x y=>MR P t (ae x) (ae y)
 | .index t x y=>(match P.underlying t,ae x,ae y with
  |some .string, .string s, .int _ n=>eO (decide (0<=n)) (match s.data.toList[n.toNat]? with
   |some u=>are (.int .u8 u.toNat)
   |none=>ari)
  |_,_,_=>ari)
 | .slice t x bf af eI=>Kc P ae t (ae x) bf af eI
 | .call c=>PE P c ae
 | .makeFunc fn aY cs=>eO ((aY.toList++cs.toList).all fun x=>storable (ae x)) (are (.func fn (aY.map ae) (cs.map ae)))
 | .unOp .not _ x=>(match ae x with
  | .bool b=>are (.bool (!b))
  |_=>ari)
 | .unOp .neg _ x=>(match ae x with
  | .int k a=>are (.int k (k.wrap (0 - a)))
  |_=>ari)
 | .convert s t x=>(match P.underlying s,P.underlying t,ae x with
  |some _,are (.int bW), .int k a=>are (.int bW (bW.wrap a))
  |_,_,_=>ari)
 | .binOp b t x y u=>JY P b t (ae x) (ae y)
 |_=>ari
theorem XG {v:arh} (aa:Ih P ae o.op=are v):cm P ae o v:=by
 generalize ag:o.op=op at aa;unfold Ih at aa;split at aa
 ·obtain rfl:=arw.inj aa;exact .move _ (.inl ag)
 ·obtain rfl:=arw.inj aa;exact .move _ (.inr ag)
 ·split at aa
  ·rename_i U;obtain rfl:=arw.inj aa;exact .pick _ _ _ arf ag U
  ·rename_i U;obtain rfl:=arw.inj aa;exact .pick _ _ _ arj ag U
  ·cases aa
 ·split at aa
  ·rename_i U;exact .extract _ _ _ v ag U aa
  ·cases aa
 ·exact agH ag aa
 ·split at aa
  ·rename_i U;obtain rfl:=arw.inj aa;exact .nilCheck _ _ ag U
  ·cases aa
 ·exact ajL ag aa
 ·exact ajj ag aa
 ·split at aa
  ·rename_i s k n hu U ah;obtain ⟨h1,aa⟩:=eR aa;split at aa
   ·rename_i u ad;obtain rfl:=arw.inj aa;exact Y2 ag hu (U.trans (sx s).symm) ah (of_decide_eq_true h1) ad
   ·cases aa
  ·cases aa
 ·exact ajE ag aa
 ·exact aiq ag aa
 ·obtain ⟨h1,aa⟩:=eR aa;obtain rfl:=arw.inj aa;exact .func _ _ _ ag fun x U=>arz.1 h1 x U
 ·split at aa
  ·rename_i U;obtain rfl:=arw.inj aa;exact VP ag U
  ·cases aa
 ·split at aa
  ·rename_i U;obtain rfl:=arw.inj aa;exact VN ag U
  ·cases aa
 ·split at aa
  ·rename_i aq ak U;obtain rfl:=arw.inj aa;exact Z1 ag aq ak U
  ·cases aa
 ·exact ai2 ag aa
 ·cases aa
def FR (c:dp) (b o:Nat):Option arh:=match c.ay b with
 | .own L _=>L[o]?
 |_=>ari
theorem Y7 {b n:Nat} {v:arh} (h:FR c b n=are v):c.mem.load b n=are v:=by
 unfold FR at h;unfold Mem.load;show (match c.ay b with| .ro rd=>rd n| .own L _=>L[n]? | .map _ _=>ari| .lock _ _ _ _=>ari| .dead=>ari)=are v;split at h
 ·rename_i L e ab;rw[ab];exact h
 ·cases h
def zW (c:dp) (b o n:Nat):Option (List arh):=match c.ay b with
 | .own L _=>eO (arF (o+n) L.length) (are ((L.drop o).take n))
 |_=>ari
theorem Zi {b:Nat} {L:List arh} {e:arn} (ab:c.mem.ay b= .own L e):∀(n off:Nat),off+n<=L.length->il c.mem b off n=are ((L.drop off).take n)
 |0,off,_=>by simp[il]
 |n+1,off,h=>by
  have aU:=Zi ab n (off+1) (by omega);have az:c.mem.load b off=are (L[off]'(by omega)):=by unfold Mem.load;rw[ab];simp[show off<L.length by omega]
  simp only[il,az,aU];rw[List.drop_eq_getElem_cons (show off<L.length by omega),List.take_succ_cons]
theorem GH {b off n:Nat} {cs:List arh} (h:zW c b off n=are cs):il c.mem b off n=are cs:=by
 unfold zW at h;split at h
 ·rename_i L e ab;obtain ⟨h1,h⟩:=eR h;obtain rfl:=arw.inj h;exact Zi (L:=L) (e:=e) ab n off (arG h1)
 ·cases h
def CL:List arh->Option (List UInt8)
 |[]=>are []
 | .int .u8 n::l=>(match n with
  | .ofNat k=>eO (ar5 k 256) (match CL l with
   |some fu=>are (asR k::fu)
   |none=>ari)
  |_=>ari)
 |_=>ari
theorem Wm:∀{l:List arh} {fu:List UInt8},CL l=are fu->l=fu.map fun u=> .int .u8 u.toNat
 |[],fu,h=>by simp only[CL] at h;obtain rfl:=arw.inj h;rfl
 |v::l,fu,h=>by
  unfold CL at h;split at h
  ·rename_i az;cases az
  ·rename_i n iW az;cases az;split at h
   ·rename_i k;obtain ⟨h1,h⟩:=eR h;split at h
    ·rename_i bs' oY;obtain rfl:=arw.inj h;rw[Wm oY];have:k<256:=arG h1;simp[Nat.mod_eq_of_lt this]
    ·cases h
   ·cases h
  ·cases h
def Ql (P:arl) (ae:arm->arh) (op:Op) (c:dp):Option arh:=
 match op with
 | .load t x=>(match ae x,P.underlying t with
  | .pointer (are ⟨b,off,ari⟩),are d=>(match jz d with
   |false=>FR c b off
   |true=>(match P.info? t with
    |some i=>(match zW c b off i.size with
     |some cs=>are (.agg cs.toArray)
     |none=>ari)
    |none=>ari))
  |_,_=>ari)
 | .slice t x bf (are af) ari=>(match P.underlying t,ae x with
  |some (.slice e), .slice (are ⟨b,off,ari⟩) l fv=>eO (!Nat.blt fv bT) (match P.info? e,c.ay b,ny ae 0 bf,ny ae l (are af) with
   |some i, .own L e2,are n,are bq=>(match (match aru fv bT with|true=>l|false=>fv - bT) with
    |k=>eO (aru e2 e&&(arF n bq&&(arF bq k&&(ar5 n k&&(aru fv bT||aru fv (bT+k)))))) (are (.slice (are ⟨b,off+n*i.size,ari⟩) (bq - n) (bT+(k - n)))))
   |_,_,_,_=>ari)
  |_,_=>ari)
 | .slice t x bf ari ari=>(match P.underlying t,ae x with
  |some (.slice e), .slice (are ⟨b,off,ari⟩) l fv=>eO (aru fv bT) (match P.info? e,c.ay b,ny ae 0 bf,ny ae l ari with
   |some i, .own L e2,are n,are bq=>eO (aru e2 e&&(arF n bq&&(arF bq l&&arF (off+l*i.size) L.length))) (are (.slice (are ⟨b,off+n*i.size,ari⟩) (bq - n) bT))
   |_,_,_,_=>ari)
  |_,_=>ari)
 | .convert s t x=>(match P.underlying s,P.underlying t,ae x with
  |some (.slice e),are .string, .slice (are ⟨b,off,ari⟩) l _=>(match P.underlying e,zW c b off l with
   |some (.int .u8),are cs=>(match CL cs with
    |some fu=>are (.string ⟨fu.toArray⟩)
    |none=>ari)
   |_,_=>ari)
  |some (.slice e),are .string, .slice ari _ _=>(match P.underlying e with
   |some (.int .u8)=>are (.string .empty)
   |_=>ari)
  |_,_,_=>ari)
 |_=>ari
theorem aiM {v:arh} (aa:Ql P ae o.op c=are v):dX P ae o c.mem v:=by
 generalize ag:o.op=op at aa;unfold Ql at aa;split at aa
 ·split at aa
  ·rename_i b off d U hu;split at aa
   ·rename_i aw;exact .load _ _ b off d v ag U hu aw (Y7 aa)
   ·rename_i aw;split at aa
    ·rename_i i af;split at aa
     ·rename_i cs ad;obtain rfl:=arw.inj aa;exact .ud _ _ b off d i cs ag U hu aw af (GH ad)
     ·cases aa
    ·cases aa
  ·cases aa
 ·split at aa
  ·rename_i e b off l fv hu U;obtain ⟨az,r9⟩:=eR aa;clear aa;split at r9
   ·rename_i i L e2 n bq af ab dv cP;dsimp only at r9;generalize hk:(match aru fv bT with|true=>l|false=>fv - bT)=k at r9;obtain ⟨h1,aa⟩:=eR r9;simp only[arq] at h1;obtain ⟨g1,g2,g3,g4,g5⟩:=h1;obtain rfl:=arw.inj aa;obtain rfl:=arB g1;refine .xA _ _ _ _ e2 i L b off l fv k n bq ag hu af U ?_ ab (CP dv) (CO cP) (arG g2) (arG g3) (arG g4);by_cases ad:fv=bT
    ·rw[ad,Nat.beq_refl] at hk;exact .inl ⟨ad,hk.symm⟩
    ·rw[asi] at g5;rcases g5 with g5|g5
     ·exact absurd (arB g5) ad
     ·exact .inr (arB g5)
   ·cases r9
  ·cases aa
 ·split at aa
  ·rename_i e b off l fv hu U;obtain ⟨az,r9⟩:=eR aa;clear aa;split at r9
   ·rename_i i L e2 n bq af ab dv cP;obtain ⟨h1,aa⟩:=eR r9;simp only[arq] at h1;obtain rfl:=arB az;obtain rfl:=arw.inj aa;obtain rfl:=arB h1.1;exact .slice _ _ _ _ e2 i L b off l n bq ag hu af U ab (CP dv) (CO cP) (arG h1.2.1) (arG h1.2.2.1) (arG h1.2.2.2)
   ·cases r9
  ·cases aa
 ·split at aa
  ·rename_i e b off l fv aq ak U;split at aa
   ·rename_i cs he ad;split at aa
    ·rename_i fu oY;obtain rfl:=arw.inj aa;exact .str _ _ _ e b off l fv fu ag aq he ak U (by rw[GH ad,Wm oY])
    ·cases aa
   ·cases aa
  ·rename_i e l fv aq ak U;split at aa
   ·rename_i he;obtain rfl:=arw.inj aa;exact .xB _ _ _ e l fv ag aq he ak U
   ·cases aa
  ·cases aa
 ·cases aa
end
end Go.aQ
end
section
namespace Go.aQ
section
variable {P:arl} {ae:arm->arh} {o:Oper} {C:FuncId->Array arh->Mem->arh->Mem->Prop} {c bg:dp}
def uX (i:TypeInfo):Option arh:=match i.zero with
 |some z=>eO (z.cells.toList.all b7&&aru z.cells.size i.size) (are z)
 |none=>ari
theorem zw {i:TypeInfo} {z:arh} (h:uX i=are z):i.zero=are z/\z.cells.toList.all b7=arf/\z.cells.size=i.size:=by
 unfold uX at h;split at h
 ·rename_i z' aD;obtain ⟨h1,h⟩:=eR h;obtain rfl:=arw.inj h;rw[arq] at h1;exact ⟨aD,h1.1,arB h1.2⟩
 ·cases h
def FZ (P:arl) (ae:arm->arh) (n:Nat) (op:Op):Option (aV×arh):=
 match op with
 | .alloc t=>(match P.info? t with
  |some i=>(match uX i with
   |some z=>are (.own z.cells.toList t, .pointer (are ⟨n,0,ari⟩))
   |none=>ari)
  |none=>ari)
 | .box t x=>(match P.info? t with
  |some i=>eO (storable (ae x)&&aru (ae x).cells.size i.size) (are (.own (ae x).cells.toList t, .pointer (are ⟨n,0,ari⟩)))
  |none=>ari)
 | .buildSlice t l bx=>(match P.underlying t with
  |some (.slice e)=>(match P.info? e with
   |some i=>(match uX i with
    |some z=>eO (arF (l*i.size) 16777216&&ar5 l 9223372036854775808) (match iG (fun k=>are (k*i.size,i.size)) (arL l z.cells.toList).flatten (bx.toList.map fun p=>(p.1,ae p.2)) with
     |some cs=>are (.own cs e, .slice (are ⟨n,0,ari⟩) l l)
     |none=>ari)
    |none=>ari)
   |none=>ari)
  |_=>ari)
 | .makeSlice t x y=>(match P.underlying t,ae x,ae y with
  |some (.slice e), .int _ (.ofNat l), .int _ (.ofNat k)=>(match P.info? e with
   |some i=>(match uX i with
    |some z=>eO (arF l k&&(arF (i.bytes*k) 140737488355328&&ar5 k 9223372036854775808)) (are (.own (arL k z.cells.toList).flatten e, .slice (are ⟨n,0,ari⟩) l k))
    |none=>ari)
   |none=>ari)
  |_,_,_=>ari)
 | .convert s t x=>(match P.underlying s,P.underlying t,ae x with
  |some .string,are (.slice e), .string b=>(match P.underlying e,P.info? e with
   |some (.int .u8),are i=>eO (aru i.size 1&&ar5 b.size 9223372036854775807) (are (.own (b.data.toList.map fun u=> .int .u8 u.toNat) e, .slice (are ⟨n,0,ari⟩) b.size bT))
   |_,_=>ari)
  |_,_,_=>ari)
 | .makeMap t ari=>(match P.underlying t with
  |some (.map _ _)=>are (.map [] t, .map (are n))
  |_=>ari)
 |_=>ari
theorem Yw {n:Nat} {X:aV} {v:arh} (aa:FZ P ae n o.op=are (X,v)):hI P ae o n X v:=by
 generalize ag:o.op=op at aa;unfold FZ at aa;split at aa
 ·split at aa
  ·rename_i i af;split at aa
   ·rename_i z aD;obtain ⟨bR,z2,z3⟩:=zw aD;cases aa;exact .alloc _ i z ag af bR z2 z3
   ·cases aa
  ·cases aa
 ·split at aa
  ·rename_i i af
   replace aa:=eR aa
   obtain ⟨h1,aa⟩:=aa;rw[arq] at h1;cases aa;exact .box _ _ i ag af h1.1 (arB h1.2)
  ·cases aa
 ·split at aa
  ·rename_i e hu;split at aa
   ·rename_i i af;split at aa
    ·rename_i z aD;obtain ⟨bR,z2,z3⟩:=zw aD
     replace aa:=eR aa
     obtain ⟨h1,aa⟩:=aa;rw[arq] at h1;split at aa
     ·rename_i cs ad;cases aa;exact .buildSlice _ _ _ e i z cs ag hu af bR z2 z3 (arG h1.1) (arG h1.2) ad
     ·cases aa
    ·cases aa
   ·cases aa
  ·cases aa
 ·split at aa
  ·rename_i e bm l br k hu U ah;split at aa
   ·rename_i i af;split at aa
    ·rename_i z aD;obtain ⟨bR,z2,z3⟩:=zw aD
     replace aa:=eR aa
     obtain ⟨h1,aa⟩:=aa;simp only[arq] at h1;cases aa;exact .makeSlice _ _ _ l k bm br e i z ag hu af bR z2 z3 U ah (arG h1.1) (arG h1.2.1) (arG h1.2.2)
    ·cases aa
   ·cases aa
  ·cases aa
 ·split at aa
  ·rename_i e b aq ak U;split at aa
   ·rename_i i he af
    replace aa:=eR aa
    obtain ⟨h1,aa⟩:=aa;rw[arq] at h1;cases aa;exact .bytes _ _ _ e i b ag aq ak he af (arB h1.1) U (arG h1.2)
   ·cases aa
  ·cases aa
 ·split at aa
  ·rename_i kt vt hu;cases aa;exact .makeMap _ kt vt ag hu
  ·cases aa
 ·cases aa
def He (c:dp) (aW:Nat):arh->Option (List arh)
 | .slice (are ⟨b,off,ari⟩) l _=>zW c b off (l*aW)
 | .slice ari _ _=>are []
 | .string s=>eO (aru aW 1) (are (s.data.toList.map fun u=> .int .u8 u.toNat))
 |_=>ari
theorem N1 {aW:Nat} {v:arh} {cs:List arh} (h:He c aW v=are cs):cg c.mem aW v=are cs:=by
 unfold He at h;split at h
 ·exact GH h
 ·exact h
 ·obtain ⟨h1,h⟩:=eR h;simp only[cg];rw[if_pos (arB h1)];exact h
 ·cases h
def JT (P:arl) (c:dp) (u:arn) (i:TypeInfo) (v:arh):Option (Nat×List arh):=
 match P.underlying u with
 |some (.slice _)|some .string=>(match He c i.size v with
  |some cs=>are (gB v,cs)
  |none=>ari)
 |some (.int _)=>(match v with
  | .int _ (.ofNat n)=>(match uX i with
   |some z=>eO (ar5 0 i.size&&(arF (n*i.bytes) 140737488355328&&ar5 n 9223372036854775807)) (are (n,(arL n z.cells.toList).flatten))
   |none=>ari)
  |_=>ari)
 |_=>ari
theorem aiX {u:arn} {i:TypeInfo} {v:arh} {n:Nat} {new:List arh} (h:JT P c u i v=are (n,new)):rp P c.mem u i v n new:=by
 unfold JT at h;split at h
 ·rename_i e hu;split at h
  ·rename_i cs ad;cases h;exact .el (.inl ⟨_,hu⟩) rfl (N1 ad)
  ·cases h
 ·rename_i hu;split at h
  ·rename_i cs ad;cases h;exact .el (.inr hu) rfl (N1 ad)
  ·cases h
 ·rename_i kk hu;split at h
  ·rename_i k n';split at h
   ·rename_i z aD;obtain ⟨bR,z2,z3⟩:=zw aD;obtain ⟨h1,h⟩:=eR h;simp only[arq] at h1;cases h;exact .mk kk k z hu rfl bR z2 z3 (arG h1.1) (arG h1.2.1) (arG h1.2.2) rfl
   ·cases h
  ·cases h
 ·cases h
def sR {al:Type} (v:al) (m:Option dp):Option (al×dp):=match m with
 |some c=>are (v,c)
 |none=>ari
theorem ur {al:Type} {v w:al} {m:Option dp} {c:dp} (h:sR v m=are (w,c)):v=w/\m=are c:=by
 cases m with
 |none=>cases h
 |some d=>cases h;exact ⟨rfl,rfl⟩
def PD (P:arl) (t u:arn) (a b:arh) (c:dp):Option (arh×dp):=
 match P.underlying t,a with
 |some (.slice e), .slice du l fv=>(match P.info? e with
  |some i=>(match uX i,JT P c u i b with
   |some z,are (n,new)=>eO (aru new.length (n*i.size)&&(ar5 0 i.size&&(arF ((l+n)*i.bytes) 140737488355328&&ar5 (l+n) 9223372036854775807))) (match ar5 fv bT with
    |true=>(match aru n 0 with
     |true=>eO (arF l fv) (are (a,c))
     |false=>(match arF (l+n) fv,du with
      |true,are ⟨hJ,off,ari⟩=>(match c.ay hJ with
       | .own L e2=>eO (aru e2 e&&arF (off+(l+n)*i.size) L.length) (sR (.slice (are ⟨hJ,off,ari⟩) (l+n) fv) (c.put hJ (.own (ee L (off+l*i.size) new) e)))
       |_=>ari)
      |false,_=>(match He c i.size a with
       |some cK=>eO (aru cK.length (l*i.size)) (sR (.slice (are ⟨c.next,0,ari⟩) (l+n) bT) (c.push (.own (cK++new) e)))
       |none=>ari)
      |_,_=>ari))
    |false=>(match du with
     |some ⟨hJ,off,ari⟩=>(match c.ay hJ with
      | .own L e2=>(match aru fv bT with
       |false=>eO (aru e2 e&&(aru fv (bT+(fv - bT))&&(ar5 0 (fv - bT)&&(arF (l+n) (fv - bT)&&arF (off+(l+n)*i.size) L.length)))) (sR (.slice (are ⟨hJ,off,ari⟩) (l+n) fv) (c.put hJ (.own (ee L (off+l*i.size) new) e)))
       |true=>eO (aru e2 e&&arF (off+l*i.size) L.length) (match c.put hJ .dead with
       |some c1=>sR (.slice (are ⟨c.next,0,ari⟩) (l+n) bT) (c1.push (.own ((L.drop off).take (l*i.size)++new) e))
       |none=>ari))
      |_=>ari)
     |_=>ari))
   |_,_=>ari)
  |none=>ari)
 |_,_=>ari
theorem ain {t u:arn} {x y:arm} {v:arh} (h:o.op= .call {callee:= .builtin .append,args:=#[x,y],argTypes:=#[t,u]}) (aa:PD P t u (ae x) (ae y) c=are (v,bg)):fM P C ae o c.mem v bg.mem:=by
 unfold PD at aa;split at aa
 ·rename_i e du l fv hu U;split at aa
  ·rename_i i af;split at aa
   ·rename_i z n new aD ar;obtain ⟨bR,z2,z3⟩:=zw aD;have vB:=aiX ar
    replace aa:=eR aa
    obtain ⟨h1,aa⟩:=aa;simp only[arq] at h1;obtain ⟨g1,g2,g3,g4⟩:=h1;have g1:=arB g1;have g2:0<i.size:=arG g2;have g3:=arG g3;have g4:l+n<9223372036854775807:=arG g4;split at aa
    ·rename_i tJ;have tJ:fv<bT:=arG tJ;split at aa
     ·rename_i av;obtain rfl:=arB av
      replace aa:=eR aa
      obtain ⟨J,aa⟩:=aa;cases aa;obtain rfl:new=[]:=List.eq_nil_of_length_eq_zero (by rw[g1];simp);exact .tt x y t u e i du l fv h hu af U tJ (arG J) vB
     ·split at aa
      ·rename_i hJ off hle;split at aa
       ·rename_i L e2 ab
        replace aa:=eR aa
        obtain ⟨J,aa⟩:=aa;rw[arq] at J;obtain ⟨rfl,hm⟩:=ur aa;obtain rfl:=arB J.1;rw[dp.zb hm];exact .vn x y t u e2 i hJ off l fv n L new h hu af U tJ (arG hle) ab vB g1 (arG J.2)
       ·cases aa
      ·rename_i hle;split at aa
       ·rename_i cK iT
        replace aa:=eR aa
        obtain ⟨J,aa⟩:=aa;obtain ⟨rfl,hm⟩:=ur aa;rw[dp.F9 hm];have aO:fv<l+n:=by
         cases ar' fv (l+n) with
         |inl h=>exact h
         |inr h=>rw[Nat.ble_eq_true_of_le h] at hle;cases hle
        exact .qq x y t u e i z _ l fv n cK new h hu af bR z2 z3 g2 U aO (N1 iT) (arB J) vB g1 g3 g4
       ·cases aa
      ·cases aa
    ·rename_i tJ;split at aa
     ·rename_i hJ off;split at aa
      ·rename_i L e2 ab;split at aa
       ·replace aa:=eR aa
        obtain ⟨J,aa⟩:=aa;simp only[arq] at J;obtain ⟨bm,br,dj,gk,l7⟩:=J;obtain ⟨rfl,hm⟩:=ur aa;obtain rfl:=arB bm;rw[dp.zb hm];exact .x6 x y t u e2 i hJ off l fv (fv - bT) n L new h hu af U (arB br) (arG dj) (arG gk) ab vB g1 (arG l7)
       rename_i adq;obtain rfl:=arB adq
       replace aa:=eR aa
       obtain ⟨J,aa⟩:=aa;rw[arq] at J;split at aa
       ·rename_i c1 Fg;obtain ⟨rfl,hm⟩:=ur aa;obtain rfl:=arB J.1;rw[dp.F9 hm,dp.zb Fg];exact .append x y t u e2 i z hJ off l n L new h hu af bR z2 z3 g2 U ab (arG J.2) vB g1 g3 g4
       ·cases aa
      ·cases aa
     ·cases aa
   ·cases aa
  ·cases aa
 ·cases aa
end
end Go.aQ
end
section
namespace Go.aQ
section
variable {P:arl} {ae:arm->arh} {o:Oper} {C:FuncId->Array arh->Mem->arh->Mem->Prop} {c bg:dp}
def mI (d:TypeDesc) (v:arh):Bool:=match d,v with
 | .int k, .int bW _=>decide (k=bW)
 | .string, .string _=>arf
 |_,_=>arj
theorem Oo {kt:arn} {d:TypeDesc} (h:P.underlying kt=are d):Keyed P kt fun v=>mI d v=arf:=
 Oq h fun v aa=>by
  unfold mI at aa;split at aa
  ·rw[<-of_decide_eq_true aa];simp[atW]
  ·simp[atW]
  ·cases aa
theorem Gu {d:TypeDesc} {v:arh} (aa:mI d v=arf):aQ.flat v=arf/\b7 v=arf/\v.cells=#[v]/\storable v=arf:=by
 unfold mI at aa;split at aa
 ·exact ⟨rfl,rfl,rfl,rfl⟩
 ·exact ⟨rfl,rfl,rfl,rfl⟩
 ·cases aa
def wg (a b:arh):Bool:=match a,b with
 | .int k a, .int bW b=>decide (k=bW)&&decide (a=b)
 | .string s, .string r=>decide (s.data.toList=r.data.toList)
 |_,_=>arj
theorem Y6 {a b:arh} (h:wg a b=arf):a=b:=by
 unfold wg at h;split at h
 ·rw[arq] at h;rw[of_decide_eq_true h.1,of_decide_eq_true h.2]
 ·rename_i s r;have h1:=of_decide_eq_true h;cases s with
  |mk s=>cases r with
   |mk r=>
    have:s=r:=by cases s;cases r;simp at h1;rw[h1]
    rw[this]
 ·cases h
theorem ZG {d:TypeDesc} {a b:arh} (ar:mI d a=arf) (h:wg a b=arj):a≠b:=by
 rintro rfl;unfold mI at ar;split at ar
 ·simp[wg] at h
 ·simp[wg] at h
 ·cases ar
def C9:List arh->Option (List (arh×arh))
 |[]=>are []
 |a::b::l=>match C9 l with
  |some r=>are ((a,b)::r)
  |none=>ari
 |[_]=>ari
def oU (E:List (arh×arh)):List (List arh×List arh):=E.map fun p=>([p.1],[p.2])
theorem N6:∀{L:List arh} {E:List (arh×arh)},C9 L=are E->L=(oU E).flatMap fun p=>p.1++p.2
 |[],E,h=>by cases h;rfl
 |[_],E,h=>by cases h
 |a::b::l,E,h=>by
  simp only[C9] at h;split at h
  ·rename_i r ao;cases h;simp[oU];have:=N6 ao;simpa[oU] using this
  ·cases h
def xt (key z:arh):List (arh×arh)->arh×Bool
 |[]=>(z,arj)
 |p::E=>match wg p.1 key with
  |true=>(p.2,arf)
  |false=>xt key z E
theorem X6 {d:TypeDesc} {key z:arh}:∀{E:List (arh×arh)},(E.all fun p=>mI d p.1)=arf->ry arj arj key z (oU E) (xt key z E).1 (xt key z E).2
 |[],_=> .nz
 |p::E,h=>by
  simp only[asb,arq] at h;unfold xt;split
  ·rename_i hk;exact .hit _ _ (Y6 hk)
  ·rename_i hk;exact .next _ _ _ _ (ZG h.1 hk) (X6 h.2)
def DI (key val:arh):List (arh×arh)->List (arh×arh)
 |[]=>[(key,val)]
 |p::E=>match wg p.1 key with
  |true=>(p.1,val)::E
  |false=>p::DI key val E
theorem YN {d:TypeDesc} {key val:arh}:∀{E:List (arh×arh)},(E.all fun p=>mI d p.1)=arf->rD arj [key] [val] (oU E) (oU (DI key val E))
 |[],_=> .nz
 |p::E,h=>by
  simp only[asb,arq] at h;unfold DI;split
  ·rename_i hk;exact .hit _ _ (Y6 hk)
  ·rename_i hk;exact .next _ _ _ (ZG h.1 hk) (YN h.2)
def FU (P:arl) (kt vt:arn):Option (TypeDesc×arh):=match P.underlying kt,P.info? kt,P.underlying vt,P.info? vt with
 |some d,are i,are TT,are sc=>(match sc.zero with
  |some z=>eO ((match d with| .int _| .string=>arf|_=>arj)&&(aru i.size 1&&(aru sc.size 1&&(!jz TT&&hS z)))) (are (d,z))
  |none=>ari)
 |_,_,_,_=>ari
structure abx (P:arl) (kt vt:arn) (d:TypeDesc) (z:arh):Prop where
 aw:P.underlying kt=are d
 hA:cB P kt=arj
 dc:cB P vt=arj
 ks:P.cellsOf kt=1
 vs:P.cellsOf vt=1
 sc:∃i,P.info? vt=are i/\i.zero=are z
 aD:hS z=arf
theorem Ys {kt vt:arn} {d:TypeDesc} {z:arh} (h:FU P kt vt=are (d,z)):abx P kt vt d z:=by
 unfold FU at h;split at h
 ·rename_i df i TT sc h1 J aj aJ;split at h
  ·rename_i z' aD
   replace h:=eR h
   obtain ⟨g,h⟩:=h;simp only[arq,aso] at g;cases h;obtain ⟨g1,g2,g3,g4,g5⟩:=g;refine ⟨h1,pn h1 ?_,pn aj g4, ?_, ?_,⟨sc,aJ,aD⟩,g5⟩
   ·cases d<;>first|rfl|cases g1
   ·simp[asm,J,arB g2]
   ·simp[asm,aJ,arB g3]
  ·cases h
 ·cases h
def PR (P:arl) (ae:arm->arh) (op:Op) (c:dp):Option arh:=
 match op with
 | .lookup eE x ca ok=>(match P.underlying eE with
  |some (.map kt vt)=>(match FU P kt vt with
   |some (d,z)=>eO (mI d (ae ca)) (match ae x with
    | .map (are b)=>(match c.ay b with
     | .map L u=>(match P.underlying u,C9 L with
      |some (.map gr gx),are E=>eO (aru gr kt&&(aru gx vt&&E.all fun p=>mI d p.1)) (are (match ok with
       |true=> .tuple #[(xt (ae ca) z E).1, .bool (xt (ae ca) z E).2]
       |false=>(xt (ae ca) z E).1))
      |_,_=>ari)
     |_=>ari)
    | .map ari=>are (match ok with
     |true=> .tuple #[z, .bool arj]
     |false=>z)
    |_=>ari)
   |none=>ari)
  |_=>ari)
 |_=>ari
theorem ah4 {v:arh} (aa:PR P ae o.op c=are v):dX P ae o c.mem v:=by
 generalize ag:o.op=op at aa;unfold PR at aa;split at aa
 ·rename_i eE x ca ok;split at aa
  ·rename_i kt vt fX;split at aa
   ·rename_i d z ho;have T:=Ys ho;obtain ⟨sc,UA,gA⟩:=T.sc
    replace aa:=eR aa
    obtain ⟨hk,aa⟩:=aa;split at aa
    ·rename_i b U;split at aa
     ·rename_i L u ab;split at aa
      ·rename_i gr gx E hu aP
       replace aa:=eR aa
       obtain ⟨g,aa⟩:=aa;simp only[arq] at g;obtain ⟨g1,g2,g3⟩:=g;obtain rfl:=arB g1;obtain rfl:=arB g2;have L1:mo (P.cellsOf gr) (P.cellsOf gx) L (oU E):=⟨N6 aP,fun p an=>by
        obtain ⟨q,_,rfl⟩:=arC.1 an;rw[T.ks,T.vs];exact ⟨rfl,rfl⟩⟩
       have ai:=X6 (d:=d) (key:=ae ca) (z:=z) g3;have:=dX.lookup (P:=P) (ae:=ae) (o:=o) (m:=c.mem) eE x ca ok u gr gx b L (oU E) sc z _ _ (fun v=>mI d v=arf) ag fX hu (.inl ⟨U,ab,L1⟩) (by rw[T.ks];exact Nat.one_pos) (fun _=>T.vs) (Oo T.aw) (Gu hk).1 hk
        (fun p an=>by
         obtain ⟨q,aF,rfl⟩:=arC.1 an;rw[T.hA];exact arz.1 g3 q aF) UA gA T.aD (by rw[T.hA,T.dc];exact ai)
       cases aa;cases ok<;>exact this
      ·cases aa
     ·cases aa
    ·rename_i U;have:=dX.lookup (P:=P) (ae:=ae) (o:=o) (m:=c.mem) eE x ca ok eE kt vt 0 [] [] sc z z arj (fun v=>mI d v=arf) ag fX fX (.inr ⟨U,rfl⟩) (by rw[T.ks];exact Nat.one_pos) (fun _=>T.vs) (Oo T.aw) (Gu hk).1 hk
      (fun p an=>by cases an) UA gA T.aD .nz
     cases aa;cases ok<;>exact this
    ·cases aa
   ·cases aa
  ·cases aa
 ·cases aa
def FY (P:arl) (ae:arm->arh) (eE:arn) (x fG fb:arm) (c:dp):Option dp:=
 match P.underlying eE with
 |some (.map kt vt)=>(match FU P kt vt with
  |some (d,z)=>eO (mI d (ae fG)&&(match ae fb with| .int _ _| .bool _| .string _=>arf|_=>arj)) (match ae x with
   | .map (are b)=>(match c.ay b with
    | .map L u=>(match P.underlying u,C9 L with
     |some (.map gr gx),are E=>eO (aru gr kt&&(aru gx vt&&E.all fun p=>mI d p.1)) (c.put b (.map ((oU (DI (ae fG) (ae fb) E)).flatMap fun p=>p.1++p.2) u))
     |_,_=>ari)
    |_=>ari)
   |_=>ari)
  |none=>ari)
 |_=>ari
theorem Yu {eE:arn} {x fG fb:arm} (ag:o.op= .mapUpdate eE x fG fb\/o.op= .insert eE x fG fb) (aa:FY P ae eE x fG fb c=are bg):fM P C ae o c.mem undef bg.mem:=by
 unfold FY at aa;split at aa
 ·rename_i kt vt fX;split at aa
  ·rename_i d z ho;have T:=Ys ho
   replace aa:=eR aa
   obtain ⟨hk,aa⟩:=aa;rw[arq] at hk;split at aa
   ·rename_i b U;split at aa
    ·rename_i L u ab;split at aa
     ·rename_i gr gx E hu aP
      replace aa:=eR aa
      obtain ⟨g,aa⟩:=aa;simp only[arq] at g;obtain ⟨g1,g2,g3⟩:=g;obtain rfl:=arB g1;obtain rfl:=arB g2;have L1:mo (P.cellsOf gr) (P.cellsOf gx) L (oU E):=⟨N6 aP,fun p an=>by
       obtain ⟨q,_,rfl⟩:=arC.1 an;rw[T.ks,T.vs];exact ⟨rfl,rfl⟩⟩
      have qP:storable (ae fb)=arf/\(ae fb).cells=#[ae fb]:=by have:=hk.2;cases h:ae fb<;>rw[h] at this<;>first|exact ⟨rfl,rfl⟩|cases this
      rw[dp.zb aa];exact .mapUpdate eE x fG fb u gr gx b L [ae fG] [ae fb] (oU E) (oU (DI (ae fG) (ae fb) E)) (fun v=>mI d v=arf) ag fX hu U ab L1 (by rw[T.ks];exact Nat.one_pos) (Oo T.aw) (by rw[T.hA];rfl) (by rw[T.ks];rfl)
       (by simp[(Gu hk.1).2.1]) (Gu hk.1).1 hk.1 (fun p an=>by
        obtain ⟨q,aF,rfl⟩:=arC.1 an;rw[T.hA];exact arz.1 g3 q aF) qP.1 (by rw[T.dc];rfl) (by rw[T.vs];rfl) (fun v aa=>by rw[qP.2];simpa using aa) (by rw[T.hA];exact YN g3)
     ·cases aa
    ·cases aa
   ·cases aa
  ·cases aa
 ·cases aa
def Dq (P:arl) (ae:arm->arh) (op:Op) (c:dp):Option arh:=match Ql P ae op c with
 |some v=>are v
 |none=>PR P ae op c
theorem OE {v:arh} (aa:Dq P ae o.op c=are v):dX P ae o c.mem v:=by
 unfold Dq at aa;split at aa
 ·rename_i u hu;cases aa;exact aiM hu
 ·exact ah4 aa
end
end Go.aQ
end
section
namespace Go.aQ
section
variable {P:arl} {ae:arm->arh} {o:Oper} {C:FuncId->Array arh->Mem->arh->Mem->Prop} {c bg:dp}
abbrev rr:=FuncId->Array arh->dp->Option (arh×dp)
def EN (P:arl) (fT:rr) (ae:arm->arh) (op:Op) (c:dp):Option (arh×dp):=
 match op with
 | .store t x y=>(match ae x,P.info? t with
  | .pointer (are ⟨b,off,ari⟩),are i=>(match c.ay b with
   | .own L e=>eO (storable (ae y)&&(aru (ae y).cells.size i.size&&arF (off+i.size) L.length)) (sR undef (c.put b (.own (ee L off (ae y).cells.toList) e)))
   |_=>ari)
  |_,_=>ari)
 | .mapUpdate eE x fG fb=>sR undef (FY P ae eE x fG fb c)
 | .insert eE x fG fb=>sR undef (FY P ae eE x fG fb c)
 | .call cl=>(match cl.callee with
  | .builtin .append=>(match cl.args.toList,cl.argTypes.toList with
   |[x,y],[t,u]=>PD P t u (ae x) (ae y) c
   |_,_=>ari)
  | .builtin .clear=>(match cl.args.toList,cl.argTypes.toList with
   |[x],[t]=>(match P.underlying t,ae x with
    |some (.slice e), .slice (are ⟨b,off,ari⟩) l _=>(match P.info? e,c.ay b with
     |some i, .own L e2=>(match uX i with
      |some z=>eO (aru e2 e&&(ar5 0 l&&arF (off+l*i.size) L.length)) (sR (.tuple #[]) (c.put b (.own (ee L off (arL l z.cells.toList).flatten) e)))
      |none=>ari)
     |_,_=>ari)
    |_,_=>ari)
   |_,_=>ari)
  | .value f=>(match ae f with
   | .func (.func g) first captured=>fT g (first++cl.args.map ae++captured) c
   |_=>ari)
  |_=>ari)
 |_=>ari
theorem Yf {fT:rr} (jC:∀f args c v bg,fT f args c=are (v,bg)->C f args c.mem v bg.mem) {v:arh} (aa:EN P fT ae o.op c=are (v,bg)):fM P C ae o c.mem v bg.mem:=by
 generalize ag:o.op=op at aa;unfold EN at aa;split at aa
 ·rename_i t x y;split at aa
  ·rename_i b off i U af;split at aa
   ·rename_i L e ab
    replace aa:=eR aa
    obtain ⟨h1,aa⟩:=aa;simp only[arq] at h1;obtain ⟨rfl,hm⟩:=ur aa;rw[dp.zb hm];exact .store t x y b off i L e ag U af ab h1.1 (arB h1.2.1) (arG h1.2.2)
   ·cases aa
  ·cases aa
 ·obtain ⟨rfl,hm⟩:=ur aa;exact Yu (.inl ag) hm
 ·obtain ⟨rfl,hm⟩:=ur aa;exact Yu (.inr ag) hm
 ·rename_i cl;obtain ⟨ce,TG,ts⟩:=cl;dsimp only at aa;split at aa
  ·split at aa
   ·rename_i x y t u ar ak;obtain rfl:=Ev ar;obtain rfl:=Ev ak;exact ain ag aa
   ·cases aa
  ·split at aa
   ·rename_i x t ar ak;obtain rfl:=x7 ar;obtain rfl:=x7 ak;split at aa
    ·rename_i e b off l fv hu U;split at aa
     ·rename_i i L e2 af ab;split at aa
      ·rename_i z aD;obtain ⟨bR,z2,z3⟩:=zw aD
       replace aa:=eR aa
       obtain ⟨g,aa⟩:=aa;simp only[arq] at g;obtain ⟨rfl,hm⟩:=ur aa;obtain rfl:=arB g.1;rw[dp.zb hm];exact .clear x t e2 i z b off l fv L ag hu af bR z2 z3 U ab (arG g.2.1) (arG g.2.2)
      ·cases aa
     ·cases aa
    ·cases aa
   ·cases aa
  ·rename_i f;split at aa
   ·rename_i g first captured aK
    exact .call g _ v _ ⟨f,TG,ts,first,captured,ag,aK,rfl⟩ (jC _ _ _ _ _ aa)
   ·cases aa
  ·cases aa
 ·cases aa
def EO:Option Addr->Option Addr->Bool
 |none,ari=>arf
 |some ⟨b,o,ari⟩,are ⟨bV,o',ari⟩=>aru b bV&&aru o o'
 |_,_=>arj
theorem YA {a b:Option Addr} (h:EO a b=arf):a=b:=by
 unfold EO at h;split at h
 ·rfl
 ·rw[arq] at h;rw[arB h.1,arB h.2]
 ·cases h
def rO (f:arh->arh->Bool):List arh->List arh->Bool
 |[],[]=>arf
 |a::l,b::k=>f a b&&rO f l k
 |_,_=>arj
theorem wV {f:arh->arh->Bool} (aK:∀a b,f a b=arf->a=b):∀{l k:List arh},rO f l k=arf->l=k
 |[],[],_=>rfl
 |[],_::_,h=>by cases h
 |_::_,[],h=>by cases h
 |a::l,b::k,h=>by simp only[rO,arq] at h;rw[aK a b h.1,wV aK h.2]
def qw:Nat->arh->arh->Bool
 |0,_,_=>arj
 |n+1,a,b=>match a,b with
  | .int k a, .int bW b=>decide (k=bW)&&decide (a=b)
  | .bool a, .bool b=>decide (a=b)
  | .string s, .string r=>decide (s.data.toList=r.data.toList)
  | .pointer a, .pointer b=>EO a b
  | .slice a l c, .slice b iW bg=>EO a b&&(aru l iW&&aru c bg)
  | .map ari, .map ari=>arf
  | .map (are r), .map (are q)=>aru r q
  | .nilFunc, .nilFunc=>arf
  | .nilIface, .nilIface=>arf
  | .agg a, .agg b=>rO (qw n) a.toList b.toList
  | .tuple a, .tuple b=>rO (qw n) a.toList b.toList
  | .func (.func f) x y, .func (.func g) z w=>aru f g&&(rO (qw n) x.toList z.toList&&rO (qw n) y.toList w.toList)
  |_,_=>arj
theorem CK {al:Type} {a b:Array al} (h:a.toList=b.toList):a=b:=by cases a;cases b;simp at h;rw[h]
theorem Hf:∀(n:Nat) (a b:arh),qw n a b=arf->a=b:=by
 intro n;induction n with
 |zero=>intro a b h;cases h
 |succ n aU=>
  intro a b h;unfold qw at h;split at h
  ·rw[arq] at h;rw[of_decide_eq_true h.1,of_decide_eq_true h.2]
  ·rw[of_decide_eq_true h]
  ·rename_i s r;cases s with
   |mk d=>cases r with
    |mk e=>have J:d=e:=CK (of_decide_eq_true h);rw[J]
  ·rw[YA h]
  ·simp only[arq] at h;rw[YA h.1,arB h.2.1,arB h.2.2]
  ·rfl
  ·rw[arB h]
  ·rfl
  ·rfl
  ·rw[CK (wV aU h)]
  ·rw[CK (wV aU h)]
  ·simp only[arq] at h;rw[arB h.1,CK (wV aU h.2.1),CK (wV aU h.2.2)]
  ·cases h
def Li:aV->aV->Bool
 | .dead, .dead=>arf
 | .own L t, .own K u=>aru t u&&rO (qw 20) L K
 | .map L t, .map K u=>aru t u&&rO (qw 20) L K
 |_,_=>arj
theorem aky {a b:aV} (h:Li a b=arf):a=b:=by
 unfold Li at h;split at h
 ·rfl
 ·rw[arq] at h;rw[arB h.1,wV (Hf 20) h.2]
 ·rw[arq] at h;rw[arB h.1,wV (Hf 20) h.2]
 ·cases h
def u0 (P:arl) (fT:rr) (ops:List Oper):List Oper->cX->dp->Option (cX×dp)
 |[],fr,c=>are (fr,c)
 |o::os,fr,c=>match wanted ops (cX.fr fr) o with
  |false=>(match cX.set fr o.dst undef with
   |some cd=>u0 P fT ops os cd c
   |none=>ari)
  |true=>(match Ih P (aL (cX.fr fr)) o.op with
   |some v=>(match cX.set fr o.dst v with
    |some cd=>u0 P fT ops os cd c
    |none=>ari)
   |none=>match Dq P (aL (cX.fr fr)) o.op c with
    |some v=>(match cX.set fr o.dst v with
     |some cd=>u0 P fT ops os cd c
     |none=>ari)
    |none=>match FZ P (aL (cX.fr fr)) c.next o.op with
     |some (X,v)=>(match cX.set fr o.dst v,c.push X with
      |some cd,are c1=>u0 P fT ops os cd c1
      |_,_=>ari)
     |none=>match EN P fT (aL (cX.fr fr)) o.op c with
      |some (v,c1)=>(match cX.set fr o.dst v with
       |some cd=>u0 P fT ops os cd c1
       |none=>ari)
      |none=>ari)
theorem zz {fT:rr} (jC:∀f args c v bg,fT f args c=are (v,bg)->C f args c.mem v bg.mem) {ops:List Oper}:∀(os:List Oper) (fr fr':cX) (c bg:dp),u0 P fT ops os fr c=are (fr',bg)->iZ P C ops os (cX.fr fr) c.mem (cX.fr fr') bg.mem
 |[],fr,fr',c,bg,h=>by cases h;exact ⟨rfl,rfl⟩
 |o::os,fr,fr',c,bg,h=>by
  unfold u0 at h;unfold iZ;split at h
  ·rename_i hw;rw[if_neg (by rw[hw];simp)];split at h
   ·rename_i cd aq;rw[<-cX.rf aq];exact zz jC os _ _ _ _ h
   ·cases h
  ·rename_i hw;rw[if_pos hw];split at h
   ·rename_i v an;split at h
    ·rename_i cd aq;exact ⟨v,_, .pure (XG an),by rw[<-cX.rf aq];exact zz jC os _ _ _ _ h⟩
    ·cases h
   ·split at h
    ·rename_i v an;split at h
     ·rename_i cd aq;exact ⟨v,_, .read (OE an),by rw[<-cX.rf aq];exact zz jC os _ _ _ _ h⟩
     ·cases h
    ·split at h
     ·rename_i X v an;split at h
      ·rename_i cd c1 aq ad;refine ⟨v,_, .new (Yw an), ?_⟩;rw[<-cX.rf aq,show c.mem.push X=c1.mem from (dp.F9 ad).symm];exact zz jC os _ _ _ _ h
      ·cases h
     ·split at h
      ·rename_i v c1 an;split at h
       ·rename_i cd aq;exact ⟨v,_, .ev (Yf jC an),by rw[<-cX.rf aq];exact zz jC os _ _ _ _ h⟩
       ·cases h
      ·cases h
end
end Go.aQ
end
section
namespace Go.aQ
theorem ai' {P : arl} {g : FuncId} {fn : Func} {id t3 t4 : Nat} {ek eV : Oper} {X : Code} {ty tz : arn} {ab2 : Array arn} (aK : P.funcs[g]? = are fn) (av : (fn.name == "runtime.NumGoroutine") = arj)
  (ab:fn.body=are (.seq (.region id #[ek,eV] arj) (.cond (.tmp t4) X .skip))) (h1:ek.op= .call {callee:= .builtin .recover,args:=#[],argTypes:=ab2}) (d1:ek.dst=are t3) (g1:ek.guard=ari)
  (J:eV.op= .binOp .neq ty (.tmp t3) (.const .nilIface) tz) (d2:eV.dst=are t4) (g2:eV.guard=ari) (lL:t3<fn.ntmps) (DC:t4<fn.ntmps) (ao:fn.results=#[])
  (cI:∀w,(eqGuard .neq ty (.tmp t3) (.const .nilIface) .nilIface .nilIface).run P w= .ok () w) (cL:∀w,(binOp .neq ty .nilIface .nilIface).run P w= .ok (.bool arj) w):PF P g:=by
 refine ⟨⟨fn,aK,av,by simp[ab]⟩,fun cs w=> ?_⟩;refine callsD_of_wpS aK ab fun ab8 ds hm=>wpS_seq (wpS_region ?_);have bu:(cs++asr (fn.ntmps - cs.size) undef).size>=fn.ntmps:=by simp;omega
 generalize cs++asr (fn.ntmps - cs.size) undef=T at bu;show wpOpsS P #[ek,eV] _ [0,1] _ _ w;have bD:asT ek (yielded #[ek,eV] T)=arf:=by unfold asT;rw[g1]
 have aT:∀ae,(execOp ae ek).run P w= .ok .recover w:=fun ae=>by simp[execOp,h1,resolve,invoke,builtin]
 have aeI:recoverD (ab8::ds)=ari:=by simp[recoverD,hm]
 unfold wpOpsS;simp only[show (#[ek,eV]:Array Oper)[0]? =are ek from rfl,bD,if_true,aT,aeI];unfold wpOpsS;have dR:asT eV (yielded #[ek,eV] (as2 {tmps:=T,defers:=[]} ek.dst .nilIface).tmps)=arf:=by unfold asT;rw[g2]
 have aa:(as2 {tmps:=T,defers:=[]} ek.dst .nilIface).eval (.tmp t3)= .nilIface:=by simp[Act.eval,as2,d1,show t3<T.size by omega]
 have e2:(execOp (as2 {tmps:=T,defers:=[]} ek.dst .nilIface).eval eV).run P w= .ok (.value (.bool arj)) w:=by have ad:(as2 {tmps:=T,defers:=[]} ek.dst .nilIface).eval (.const .nilIface)= .nilIface:=rfl;simp[execOp,J,aa,ad,cI,cL]
 simp only[show (#[ek,eV]:Array Oper)[1]? =are eV from rfl,dR,if_true,e2];rw[Oper.upon_value];have MH:(as2 (as2 {tmps:=T,defers:=[]} ek.dst .nilIface) eV.dst (.bool arj)).eval (.tmp t4)= .bool arj:=by simp[Act.eval,as2,d1,d2,show t4<T.size by omega]
 refine wpS_cond MH (wpS_of_wp (wp_skip ?_));refine ⟨by simp[as2,d1,d2], .returning, ?_, .tuple #[],by simp[results,ao],⟨_,rfl⟩,rfl,rfl⟩;rw[<-hm]
end Go.aQ
end
section
namespace Go.aQ
section
variable {P:arl} {C:FuncId->Array arh->Mem->arh->Mem->Prop}
structure rn where
 reads:List (Nat×cX×Op×arh)
 e6:List (Nat×dp)
 news:List (Nat×Nat)
def Db (P:arl) (fr:cX) (op:Op) (v:arh) (c:dp):Bool:=match Dq P (aL (cX.fr fr)) op c with
 |some u=>qw 20 u v
 |none=>arj
theorem Xq {fr:cX} {o:Oper} {v:arh} {c:dp} (h:Db P fr o.op v c=arf):dX P (aL (cX.fr fr)) o c.mem v:=by
 unfold Db at h;split at h
 ·rename_i u hu;rw[<-Hf 20 u v h];exact OE hu
 ·cases h
inductive nb (P:arl):rn->Acc->Prop where
 |nil:nb P ⟨[],[],[]⟩ ⟨[],[],[]⟩
 |read {A:rn} {B:Acc} (i:Nat) (fr:cX) (o:Oper) (v:arh) (h:nb P A B):nb P {A with reads:=(i,fr,o.op,v)::A.reads} {B with reads:=(i,fun m=>dX P (aL (cX.fr fr)) o m v)::B.reads}
 |ev {A:rn} {B:Acc} (i:Nat) (c:dp) (h:nb P A B):nb P {A with e6:=(i,c)::A.e6} {B with e6:=(i,c.mem)::B.e6}
 |new {A:rn} {B:Acc} (i n:Nat) (h:nb P A B):nb P {A with news:=(i,n)::A.news} {B with news:=(i,n)::B.news}
theorem nb.e6 {A:rn} {B:Acc} (h:nb P A B):B.e6=A.e6.map fun x=>(x.1,x.2.mem):=by
 induction h with
 |nil=>rfl
 |read i fr o v h aU=>exact aU
 |ev i c h aU=>simp only[asc,aU]
 |new i n h aU=>exact aU
theorem nb.news {A:rn} {B:Acc} (h:nb P A B):B.news=A.news:=by
 induction h with
 |nil=>rfl
 |read i fr o v h aU=>exact aU
 |ev i c h aU=>exact aU
 |new i n h aU=>simp only[aU]
theorem nb.reads {A:rn} {B:Acc} (h:nb P A B) {hl:Array Nat} {i:Nat} {c:dp} (ao:(A.reads.all fun x=>eM hl i x.1||Db P x.2.1 x.2.2.1 x.2.2.2 c)=arf):∀x∈B.reads,eM hl i x.1=arj->x.2 c.mem:=by
 induction h with
 |nil=>intro x U;cases U
 |read j fr o v h aU=>
  simp only[asb,arq] at ao;intro x U ar;rcases arA.1 U with rfl|U
  ·have h1:=ao.1;rw[asi] at h1;rcases h1 with h1|h1
   ·rw[h1] at ar;cases ar
   ·exact Xq h1
  ·exact aU ao.2 x U ar
 |ev j bg h aU=>exact aU ao
 |new j n h aU=>exact aU ao
def uO (P:arl) (fT:rr) (ops:List Oper) (hl:Array Nat):Nat->List Oper->rn->cX->dp->Option (cX×dp)
 |_,[],_,fr,c=>are (fr,c)
 |i,o::os,A,fr,c=>match wanted ops (cX.fr fr) o with
  |false=>(match cX.set fr o.dst undef with
   |some cd=>uO P fT ops hl (i+1) os A cd c
   |none=>ari)
  |true=>(match Ih P (aL (cX.fr fr)) o.op with
   |some v=>(match cX.set fr o.dst v with
    |some cd=>uO P fT ops hl (i+1) os A cd c
    |none=>ari)
   |none=>match Dq P (aL (cX.fr fr)) o.op c with
    |some v=>(match cX.set fr o.dst v with
     |some cd=>eO (A.e6.all fun x=>eM hl i x.1||Db P fr o.op v x.2) (uO P fT ops hl (i+1) os {A with reads:=(i,fr,o.op,v)::A.reads} cd c)
     |none=>ari)
    |none=>match FZ P (aL (cX.fr fr)) c.next o.op with
     |some (X,v)=>(match cX.set fr o.dst v,c.push X with
      |some cd,are c1=>uO P fT ops hl (i+1) os {A with news:=(i,c.next)::A.news} cd c1
      |_,_=>ari)
     |none=>match EN P fT (aL (cX.fr fr)) o.op c with
      |some (v,c1)=>(match cX.set fr o.dst v with
       |some cd=>eO ((A.reads.all fun x=>eM hl i x.1||Db P x.2.1 x.2.2.1 x.2.2.2 c1)&&(A.news.all fun x=>eM hl i x.1||Li (c1.ay x.2) (c.ay x.2))) (uO P fT ops hl (i+1) os {A with e6:=(i,c)::A.e6} cd c1)
       |none=>ari)
      |none=>ari)
theorem zr {fT:rr} (jC:∀f args c v bg,fT f args c=are (v,bg)->C f args c.mem v bg.mem) {ops:List Oper} {hl:Array Nat}:∀(os:List Oper) (i:Nat) (A:rn) (B:Acc) (fr fr':cX) (c bg:dp),nb P A B->uO P fT ops hl i os A fr c=are (fr',bg)->fZ P C ops hl i os B (cX.fr fr) c.mem (cX.fr fr') bg.mem
 |[],i,A,B,fr,fr',c,bg,c9,h=>by cases h;exact ⟨rfl,rfl⟩
 |o::os,i,A,B,fr,fr',c,bg,c9,h=>by
  unfold uO at h;unfold fZ;split at h
  ·rename_i hw;rw[if_neg (by rw[hw];simp)];split at h
   ·rename_i cd aq;rw[<-cX.rf aq];exact zr jC os _ _ _ _ _ _ _ c9 h
   ·cases h
  ·rename_i hw;rw[if_pos hw];split at h
   ·rename_i v an;split at h
    ·rename_i cd aq;exact .inl ⟨v,XG an,by rw[<-cX.rf aq];exact zr jC os _ _ _ _ _ _ _ c9 h⟩
    ·cases h
   ·split at h
    ·rename_i v an;split at h
     ·rename_i cd aq
      replace h:=eR h
      obtain ⟨h1,h⟩:=h;refine .inr (.inl ⟨v,OE an,fun x U ar=> ?_,by rw[<-cX.rf aq];exact zr jC os _ _ _ _ _ _ _ (.read i fr o v c9) h⟩);rw[c9.e6] at U;obtain ⟨y,ah,rfl⟩:=arC.1 U;have J:=arz.1 h1 y ah;rw[asi] at J;rcases J with J|J
      ·rw[J] at ar;cases ar
      ·exact Xq J
     ·cases h
    ·split at h
     ·rename_i X v an;split at h
      ·rename_i cd c1 aq ad;refine .inr (.inr (.inl ⟨X,v,Yw an, ?_⟩));rw[<-cX.rf aq,show c.mem.push X=c1.mem from (dp.F9 ad).symm];exact zr jC os _ _ _ _ _ _ _ (.new i c.next c9) h
      ·cases h
     ·split at h
      ·rename_i v c1 an;split at h
       ·rename_i cd aq
        replace h:=eR h
        obtain ⟨h1,h⟩:=h;rw[arq] at h1;refine .inr (.inr (.inr ⟨v,_,Yf jC an,c9.reads h1.1,fun x U ar=> ?_,by rw[<-cX.rf aq];exact zr jC os _ _ _ _ _ _ _ (.ev i c c9) h⟩));rw[c9.news] at U;have J:=arz.1 h1.2 x U;rw[asi] at J;rcases J with J|J
        ·rw[J] at ar;cases ar
        ·exact aky J
       ·cases h
      ·cases h
def qa (P:arl) (fT:rr):Nat->Code->cX->dp->Option (dF×cX×dp)
 |0,_,_,_=>ari
 |n+1,k,fr,c=>match k with
  | .skip=>are (.normal,fr,c)
  | .label _=>are (.normal,fr,c)
  | .exit id=>are (.exit id,fr,c)
  | .ret=>are (.ret,fr,c)
  | .region _ ops arj=>(match u0 P fT ops.toList ops.toList fr c with
   |some (cd,c1)=>are (.normal,cd,c1)
   |none=>ari)
  | .region _ ops arf=>(match uO P fT ops.toList (Region.before ops) 0 ops.toList ⟨[],[],[]⟩ fr c with
   |some (cd,c1)=>are (.normal,cd,c1)
   |none=>ari)
  | .seq a b=>(match qa P fT n a fr c with
   |some (.normal,cd,c1)=>qa P fT n b cd c1
   |some (e,cd,c1)=>are (e,cd,c1)
   |none=>ari)
  | .cond x a b=>(match aL (cX.fr fr) x with
   | .bool arf=>qa P fT n a fr c
   | .bool arj=>qa P fT n b fr c
   |_=>ari)
  | .scope a=>qa P fT n a fr c
  | .block id a=>(match qa P fT n a fr c with
   |some (.exit j,cd,c1)=>(match aru j id with
    |true=>are (.normal,cd,c1)
    |false=>are (.exit j,cd,c1))
   |some (e,cd,c1)=>are (e,cd,c1)
   |none=>ari)
  | .loop a=>(match qa P fT n a fr c with
   |some (.normal,cd,c1)=>qa P fT n (.loop a) cd c1
   |some (e,cd,c1)=>are (e,cd,c1)
   |none=>ari)
  |_=>ari
theorem Xu {fT:rr} (jC:∀f args c v bg,fT f args c=are (v,bg)->C f args c.mem v bg.mem):∀(n:Nat) (k:Code) (fr fr':cX) (c bg:dp) (e:dF),qa P fT n k fr c=are (e,fr',bg)->j4 P C n k (cX.fr fr) c.mem e (cX.fr fr') bg.mem
 |0,k,fr,fr',c,bg,e,h=>by cases h
 |n+1,k,fr,fr',c,bg,e,h=>by
  have aU:=Xu jC n;unfold qa at h;split at h
  ·cases h;exact ⟨rfl,rfl,rfl⟩
  ·cases h;exact ⟨rfl,rfl,rfl⟩
  ·cases h;exact ⟨rfl,rfl,rfl⟩
  ·cases h;exact ⟨rfl,rfl,rfl⟩
  ·split at h
   ·rename_i cd c1 aq;cases h;exact ⟨rfl,zz jC _ _ _ _ _ aq⟩
   ·cases h
  ·split at h
   ·rename_i cd c1 aq;cases h;exact ⟨rfl,zr jC _ _ _ _ _ _ _ _ .nil aq⟩
   ·cases h
  ·split at h
   ·rename_i cd c1 aq;exact .inl ⟨.normal,_,_,aU _ _ _ _ _ _ aq,by rw[if_pos rfl];exact aU _ _ _ _ _ _ h⟩
   ·rename_i aT cd c1 bL aq;cases h;exact .inl ⟨e,_,_,aU _ _ _ _ _ _ aq,by rw[if_neg bL];exact ⟨rfl,rfl,rfl⟩⟩
   ·cases h
  ·split at h
   ·rename_i U;exact ⟨arf,U,aU _ _ _ _ _ _ h⟩
   ·rename_i U;exact ⟨arj,U,aU _ _ _ _ _ _ h⟩
   ·cases h
  ·exact aU _ _ _ _ _ _ h
  ·split at h
   ·rename_i j cd c1 aq;split at h
    ·rename_i ap;cases h;exact ⟨_,aU _ _ _ _ _ _ aq,by rw[arB ap,if_pos rfl]⟩
    ·rename_i ap;cases h;exact ⟨_,aU _ _ _ _ _ _ aq,by rw[if_neg (fun ax=>by cases ax;rw[Nat.beq_refl] at ap;cases ap)]⟩
   ·rename_i aT cd c1 bL aq;cases h;exact ⟨e,aU _ _ _ _ _ _ aq,by rw[if_neg (fun ax=>bL _ ax)]⟩
   ·cases h
  ·split at h
   ·rename_i cd c1 aq;exact ⟨.normal,_,_,aU _ _ _ _ _ _ aq,by rw[if_pos rfl];exact aU _ _ _ _ _ _ h⟩
   ·rename_i aT cd c1 bL aq;cases h;exact ⟨e,_,_,aU _ _ _ _ _ _ aq,by rw[if_neg bL];exact ⟨rfl,rfl,rfl⟩⟩
   ·cases h
  ·cases h
def CW:List arh->Nat->cX->Option cX
 |[],_,t=>are t
 |v::l,i,t=>match t.put i v with
  |some cS=>CW l (i+1) cS
  |none=>ari
theorem WQ:∀(l:List arh) (i:Nat) (t cS:cX),CW l i t=are cS->∀j,cX.fr cS j=if i<=j/\j<i+l.length then l.getD (j - i) undef else cX.fr t j
 |[],i,t,cS,h,j=>by cases h;rw[if_neg (by simp)]
 |v::l,i,t,cS,h,j=>by
  unfold CW at h;split at h
  ·rename_i t1 h1;rw[WQ l (i+1) t1 cS h j];have J:=Trie.sr h1 j;have aj:cX.fr t1 j=if j=i then v else cX.fr t j:=by
    simp only[cX.fr,J];split<;>rfl
   rw[aj];simp only[arU];by_cases ap:j=i
   ·subst ap;rw[if_neg (by omega),if_pos rfl,if_pos (by omega)];simp
   ·rw[if_neg ap];by_cases hk:i+1<=j/\j<i+1+l.length
    ·rw[if_pos hk,if_pos (by omega),show j - i=(j - (i+1))+1 by omega];simp
    ·rw[if_neg hk,if_neg (by omega)]
  ·cases h
theorem ahj {args:Array arh} {t:cX} {N:Nat} (h:CW args.toList 0 .e=are t):cX.fr t=fun i=>(args++asr (N - args.size) undef).getD i undef:=by
 funext j;rw[WQ _ _ _ _ h j];simp only[ass,true_and,arE,Nat.sub_zero,atV];have cH:cX.fr (.e:cX) j=undef:=rfl;rw[cH,Array.getD_eq_getD_getElem?,Array.getElem?_append];by_cases ap:j<args.size
 ·rw[if_pos ap,if_pos ap];simp[atZ]
 ·rw[if_neg ap,if_neg ap];rw[Array.getElem?_replicate];split<;>rfl
def QB (P:arl) (fr:cX) (c:dp):ResultVar->Option arh
 | .tmp t=>are (cX.fr fr t)
 | .cell a t=>match cX.fr fr a,P.underlying t with
  | .pointer (are ⟨b,off,ari⟩),are d=>(match jz d with
   |true=>(match P.info? t with
    |some i=>(match zW c b off i.size with
     |some cs=>are (.agg cs.toArray)
     |none=>ari)
    |none=>ari)
   |false=>FR c b off)
  |_,_=>ari
theorem akr {fr:cX} {c:dp} {r:ResultVar} {v:arh} (h:QB P fr c r=are v):CU P (cX.fr fr) c.mem r v:=by
 cases r with
 |tmp t=>cases h;rfl
 |cell a t=>
  simp only[QB] at h;split at h
  ·rename_i b off d ar hu;split at h
   ·rename_i aw;split at h
    ·rename_i i af;split at h
     ·rename_i cs ad;cases h;exact ⟨b,off,ar,d,hu,by rw[if_pos aw];exact ⟨i,cs,af,GH ad,rfl⟩⟩
     ·cases h
    ·cases h
   ·rename_i aw;exact ⟨b,off,ar,d,hu,by rw[if_neg (by rw[aw];simp)];exact Y7 h⟩
  ·cases h
def Ij (P:arl) (fr:cX) (c:dp):List ResultVar->Option (List arh)
 |[]=>are []
 |r::rs=>match QB P fr c r,Ij P fr c rs with
  |some v,are vs=>are (v::vs)
  |_,_=>ari
theorem XI {fr:cX} {c:dp}:∀{rs:List ResultVar} {vs:List arh},Ij P fr c rs=are vs->ov P (cX.fr fr) c.mem rs vs
 |[],vs,h=>by cases h;trivial
 |r::rs,vs,h=>by
  simp only[Ij] at h;split at h
  ·rename_i v vs' h1 J;cases h;exact ⟨akr h1,XI J⟩
  ·cases h
structure Ed (P:arl) where
 y7:List Nat
 ok:∀f∈y7,kG P f=arf
 Kd:List (Nat×Code)
 TS:∀x∈Kd,∀fn,P.funcs[x.1]? =are fn->p8 P fn x.2
def EF:List (Nat×Code)->Nat->Option Code
 |[],_=>ari
 |x::l,f=>match aru x.1 f with
  |true=>are x.2
  |false=>EF l f
theorem Ye:∀{l:List (Nat×Code)} {f:Nat} {k:Code},EF l f=are k->(f,k)∈l
 |[],_,_,h=>by cases h
 |x::l,f,k,h=>by
  unfold EF at h;split at h
  ·rename_i ab;cases h;obtain rfl:=arB ab;exact arS
  ·exact arK _ (Ye h)
def afH (l:List Nat) (f:Nat):Bool:=l.any fun x=>aru x f
def Dg (P:arl) (R:Ed P):Nat->rr
 |0,_,_,_=>ari
 |n+1,f,args,c=>eO (afH R.y7 f) (match P.funcs[f]? with
  |some fn=>(match (match EF R.Kd f with|some k=>are k|none=>fn.body) with
   |some k=>eO (arF args.size fn.ntmps) (match CW args.toList 0 .e with
    |some fr=>(match qa P (Dg P R n) n k fr c with
     |some (e,cd,c1)=>(match e,Ij P cd c1 fn.results.toList with
      | .exit _,_=>ari
      |_,are vs=>eO (aru vs.length 1||vs.all storable) (are (pack vs,c1))
      |_,ari=>ari)
     |none=>ari)
    |none=>ari)
   |none=>ari)
  |none=>ari)
theorem Xr (R:Ed P):∀(n:Nat) (f:FuncId) (args:Array arh) (c:dp) (v:arh) (bg:dp),Dg P R n f args c=are (v,bg)->hR P n f args c.mem v bg.mem
 |0,f,args,c,v,bg,h=>by cases h
 |n+1,f,args,c,v,bg,h=>by
  have aU:=Xr R n;unfold Dg at h
  replace h:=eR h
  obtain ⟨hm,h⟩:=h;obtain ⟨x,U,ae'⟩:=List.any_eq_true.1 hm;obtain rfl:=arB ae';have cy:=R.ok _ U;split at h
  ·rename_i fn aK;split at h
   ·rename_i k hk;have dS:p8 P fn k:=by
     split at hk
     ·rename_i bW aw;cases hk;exact R.TS _ (Ye aw) fn aK
     ·exact .inl hk
    replace h:=eR h
    obtain ⟨aq,h⟩:=h;split at h
    ·rename_i fr fB;split at h
     ·rename_i e cd c1 ad;have qB:=Xu aU n k fr cd c c1 e ad;rw[ahj (N:=fn.ntmps) fB] at qB;split at h
      ·cases h
      ·rename_i vs bL k0
       replace h:=eR h
       obtain ⟨h1,h⟩:=h;cases h;refine .inr ⟨fn,k,_,_,_,vs,aK,dS,cy,arG aq,qB, ?_,XI k0,rfl, ?_, .inl rfl⟩
       ·rename_i aT _ _;cases aT with
        |normal=>exact .inl rfl
        |ret=>exact .inr rfl
        |exit id=>exact absurd rfl (bL id)
       ·rw[asi] at h1;rcases h1 with h1|h1
        ·exact .inl (arB h1)
        ·exact .inr fun x U=>arz.1 h1 x U
      ·cases h
     ·cases h
    ·cases h
   ·cases h
  ·cases h
end
end Go.aQ
end
