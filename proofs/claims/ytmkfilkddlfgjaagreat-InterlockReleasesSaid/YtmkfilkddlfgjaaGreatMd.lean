/- AmXF AmXH AmRng AmRng2 AmRng3 AmSortK AmRng4 AmRng5 AmU WM WS -/
import Derived.Maps.RangeRun
import Derived.Shelf.SlSortCmp.NoneTotal
import Derived.Shelf.SlicesG.Cmp
import Derived.Test.YtmkfilkddlfgjaaGreatProg
import Derived.WalkKit
import Derived.Test.YtmkfilkddlfgjaaGreatMc
section
set_option linter.unusedSimpArgs false
set_option linter.unusedVariables false
namespace Go.AM
inductive LT:Type 1 where
 |int (k:IntKind)|bool|str
 |sl (α:Type) (T:Ty α)
 |mp (α β:Type) (M:MTy α β)
 |fn
def LT.ty:LT→Type
 | .int _=>Int
 | .bool=>Bool
 | .str=>List UInt8
 | .sl α _=>List α
 | .mp α β _=>List (α×β)
 | .fn=>Option Nat
def fnV:Option Nat→Value
 |none=> .nilFunc
 |some n=> .func (.func n) #[] #[]
def LT.rd (z:Nat→Blk):(l:LT)→l.ty→Value→Prop
 | .int k,n,v=>v= .int k n
 | .bool,b,v=>v= .bool b
 | .str,s,v=>v=AM.str s
 | .sl _ T,xs,v=>SlR T z xs v
 | .mp _ _ M,es,v=>MpR M z es v
 | .fn,o,v=>v=fnV o
def inL:List LT→Type
 |[]=>Unit
 |l::ls=>l.ty×inL ls
def rdL (z:Nat→Blk):(ls:List LT)→inL ls→List Value→Prop
 |[],_,[]=>True
 |l::ls,x,v::vs=>l.rd z x.1 v∧rdL z ls x.2 vs
 |_,_,_=>False
theorem qmZ {z:Nat→Blk}:∀{ls:List LT} {x:inL ls} {cs:List Value},rdL z ls x cs→cs.length=ls.length
 |[],_,[],_=>rfl
 |l::ls,x,v::vs,h=>by simp[qmZ h.2]
 |[],_,_::_,h=>h.elim
 |_::_,_,[],h=>h.elim
theorem qkq {z z':Nat→Blk} (hz:Zle z z'):∀{ls:List LT} {x:inL ls} {cs:List Value},rdL z ls x cs→rdL z' ls x cs
 |[],_,[],_=>trivial
 |l::ls,x,v::vs,h=>⟨by
  have h1:=h.1
  cases l with
  |sl α T=>exact SlR.mono hz h1
  |mp α β M=>exact MpR.mono h1 hz
  |_=>exact h1,qkq hz h.2⟩
 |[],_,_::_,h=>h.elim
 |_::_,_,[],h=>h.elim
theorem qm0 {z:Nat→Blk}:∀{ls:List LT} {x:inL ls} {cs:List Value},rdL z ls x cs→∀c∈cs,storable c=true∧c.cells=#[c]
 |[],_,[],_,c,hc=>by simp at hc
 |l::ls,x,v::vs,h,c,hc=>by
  rcases List.mem_cons.1 hc with rfl|hc
  ·have h1:=h.1
   cases l with
   |sl α T=>obtain ⟨a,c,rfl⟩:=SlR.len h1;exact ⟨rfl,rfl⟩
   |mp α β M=>rcases h1 with ⟨rfl,_⟩|⟨r,rfl,_⟩<;>exact ⟨rfl,rfl⟩
   |fn=>
    obtain ⟨x,y⟩:=x
    cases x<;>(obtain rfl:=h1;exact ⟨rfl,rfl⟩)
   |_=>obtain rfl:=h1;exact ⟨rfl,rfl⟩
  ·exact qm0 h.2 c hc
 |[],_,_::_,h,_,_=>h.elim
 |_::_,_,[],h,_,_=>h.elim
def TyOf (t:TypeId) (ls:List LT) {α:Type} (to:α→inL ls):Ty α where
 sz:=ls.length
 tid:=t
 rd:=fun z x cs=>rdL z ls (to x) cs
 len:=fun _ _ _ h=>qmZ h
 mono:=fun _ _ hz _ _ h=>qkq hz h
 one:=fun _ _ _ h=>qm0 h
noncomputable section
inductive LC where
 |int (k:IntKind)|bool|str
 |sl (e:Nat)
 |mp (t kt vt:Nat)
 |fn
section
variable {P:Program} {D:Nat→Type} (G:Tab D)
def fnC:Option Nat→CV D
 |none=> .nilF
 |some n=> .fn n []
def LC.lt:LC→LT
 | .int k=> .int k
 | .bool=> .bool
 | .str=> .str
 | .sl e=> .sl (D e) (G.T e)
 | .mp t kt vt=> .mp (D kt) (D vt) (G.M t kt vt)
 | .fn=> .fn
def toT:List LC→List LT
 |[]=>[]
 |c::cs=>c.lt G::toT cs
def lvL:(ls:List LC)→inL (toT G ls)→List (CV D)
 |[],_=>[]
 | .int k::ls,x=> .int k x.1::lvL ls x.2
 | .bool::ls,x=> .bool x.1::lvL ls x.2
 | .str::ls,x=> .str x.1::lvL ls x.2
 | .sl e::ls,x=> .sl e x.1::lvL ls x.2
 | .mp t kt vt::ls,x=> .mp t kt vt x.1::lvL ls x.2
 | .fn::ls,x=>fnC x.1::lvL ls x.2
def pkL:(ls:List LC)→List (CV D)→Option (inL (toT G ls))
 |[],[]=>some ()
 | .int k::ls, .int k' n::cs=>if k'=k then (match pkL ls cs with|some y=>some (n,y)|none=>none) else none
 | .bool::ls, .bool b::cs=>(match pkL ls cs with|some y=>some (b,y)|none=>none)
 | .str::ls, .str s::cs=>(match pkL ls cs with|some y=>some (s,y)|none=>none)
 | .sl e::ls, .sl e' xs::cs=>if h:e'=e then (match pkL ls cs with|some y=>some ((h▸xs:List (D e)),y)|none=>none) else none
 | .sl e::ls, .nilS::cs=>(match pkL ls cs with|some y=>some (([]:List (D e)),y)|none=>none)
 | .mp t kt vt::ls, .mp t' kt' vt' es::cs=>if h:kt'=kt∧vt'=vt then (if t'=t then (match pkL ls cs with|some y=>some ((h.1▸h.2▸es:List (D kt×D vt)),y)|none=>none) else none) else none
 | .mp t kt vt::ls, .nilM::cs=>(match pkL ls cs with|some y=>some (([]:List (D kt×D vt)),y)|none=>none)
 | .fn::ls, .nilF::cs=>(match pkL ls cs with|some y=>some ((none:Option Nat),y)|none=>none)
 | .fn::ls, .fn n []::cs=>(match pkL ls cs with|some y=>some ((some n:Option Nat),y)|none=>none)
 |_,_=>none
variable {G}
theorem qsa {z:Nat→Blk} {vs:List Value} {o:Option Nat} {v:Value} (h:v=fnV o):rel0 G z vs (fnC o) v:=by
 cases o with
 |none=>exact h
 |some n=>exact ⟨[],h,trivial⟩
theorem qeU {z:Nat→Blk} {vs:List Value}:∀{ls:List LC} {x:inL (toT G ls)} {cs:List Value},rdL z (toT G ls) x cs→L2 (rel0 G z vs) (lvL G ls x) cs
 |[],_,[],_=>trivial
 | .int k::ls,x,v::w,h=>⟨h.1,qeU h.2⟩
 | .bool::ls,x,v::w,h=>⟨h.1,qeU h.2⟩
 | .str::ls,x,v::w,h=>⟨h.1,qeU h.2⟩
 | .sl e::ls,x,v::w,h=>⟨h.1,qeU h.2⟩
 | .mp t kt vt::ls,x,v::w,h=>⟨h.1,qeU h.2⟩
 | .fn::ls,x,v::w,h=>⟨qsa h.1,qeU h.2⟩
 | .mp _ _ _::_,_,[],h=>h.elim
 | .fn::_,_,[],h=>h.elim
 |[],_,_::_,h=>h.elim
 | .int _::_,_,[],h=>h.elim
 | .bool::_,_,[],h=>h.elim
 | .str::_,_,[],h=>h.elim
 | .sl _::_,_,[],h=>h.elim
theorem qea:∀{ls:List LC} (x:inL (toT G ls)),pkL G ls (lvL G ls x)=some x
 |[],_=>rfl
 | .int k::ls,x=>by
  show (if k=k then (match pkL G ls (lvL G ls x.2) with|some y=>some (x.1,y)|none=>none) else none)=_
  rw[qea x.2,if_pos rfl];rfl
 | .bool::ls,x=>by
  show (match pkL G ls (lvL G ls x.2) with|some y=>some (x.1,y)|none=>none)=_
  rw[qea x.2];rfl
 | .str::ls,x=>by
  show (match pkL G ls (lvL G ls x.2) with|some y=>some (x.1,y)|none=>none)=_
  rw[qea x.2];rfl
 | .sl e::ls,x=>by
  show (if h:e=e then (match pkL G ls (lvL G ls x.2) with|some y=>some ((h▸x.1:List (D e)),y)|none=>none) else none)=_
  rw[qea x.2,dif_pos rfl];rfl
 | .mp t kt vt::ls,x=>by
  show (if h:kt=kt∧vt=vt then (if t=t then (match pkL G ls (lvL G ls x.2) with|some y=>some ((h.1▸h.2▸x.1:List (D kt×D vt)),y)|none=>none) else none) else none)=_
  rw[qea x.2,dif_pos ⟨rfl,rfl⟩,if_pos rfl];rfl
 | .fn::ls,(none,y)=>by
  show (match pkL G ls (lvL G ls y) with|some y=>some ((none:Option Nat),y)|none=>none)=_
  rw[qea y];rfl
 | .fn::ls,(some n,y)=>by
  show (match pkL G ls (lvL G ls y) with|some y=>some ((some n:Option Nat),y)|none=>none)=_
  rw[qea y];rfl
theorem qsR {z:Nat→Blk} {vs:List Value}:∀{ls:List LC} {cs:List (CV D)} {x:inL (toT G ls)} {ds:List Value},pkL G ls cs=some x→L2 (rel0 G z vs) cs ds→rdL z (toT G ls) x ds:=by
 intro ls
 induction ls with
 |nil=>
  intro cs x ds h hr
  cases cs with
  |nil=>cases ds with
   |nil=>trivial
   |cons _ _=>exact hr.elim
  |cons c cs=>cases h
 |cons l ls ih=>
  intro cs x ds h hr
  cases cs with
  |nil=>cases l<;>cases h
  |cons c cs=>
   cases ds with
   |nil=>exact hr.elim
   |cons d ds=>
    obtain ⟨h1,h2⟩:=hr
    have fin:∀{α:Type} {f:inL (toT G ls)→α} {o:Option (inL (toT G ls))} {r:α},(match o with|some y=>some (f y)|none=>none)=some r→∃y,o=some y∧r=f y:=by
     intro α f o r h
     cases o with
     |none=>cases h
     |some y=>cases h;exact ⟨y,rfl,rfl⟩
    cases l with
    |int k=>
     cases c with
     |int k' n=>
      obtain ⟨hk,h⟩:=ite_some (α:=inL (toT G (.int k::ls))) h
      subst hk
      obtain ⟨y,hy,rfl⟩:=fin h
      exact ⟨h1,ih hy h2⟩
     |_=>cases h
    |bool=>
     cases c with
     |bool n=>
      obtain ⟨y,hy,rfl⟩:=fin h
      exact ⟨h1,ih hy h2⟩
     |_=>cases h
    |str=>
     cases c with
     |str n=>
      obtain ⟨y,hy,rfl⟩:=fin h
      exact ⟨h1,ih hy h2⟩
     |_=>cases h
    |sl t=>
     cases c with
     |sl e' xs=>
      by_cases hk:e'=t
      ·subst hk
       have h:(if h:e'=e' then (match pkL G ls cs with|some y=>some ((h▸xs:List (D e')),y)|none=>none) else none)=some x:=h
       rw[dif_pos rfl] at h
       obtain ⟨y,hy,rfl⟩:=fin h
       exact ⟨h1,ih hy h2⟩
      ·have h:(if h:e'=t then (match pkL G ls cs with|some y=>some ((h▸xs:List (D t)),y)|none=>none) else none)=some x:=h
       rw[dif_neg hk] at h
       cases h
     |nilS=>
      obtain ⟨y,hy,rfl⟩:=fin h
      exact ⟨.inl ⟨h1,rfl⟩,ih hy h2⟩
     |_=>cases h
    |mp t kt vt=>
     cases c with
     |mp t' kt' vt' es=>
      by_cases hk:kt'=kt∧vt'=vt
      ·obtain ⟨rfl,rfl⟩:=hk
       have h:(if h:kt'=kt'∧vt'=vt' then (if t'=t then (match pkL G ls cs with|some y=>some ((h.1▸h.2▸es:List (D kt'×D vt')),y)|none=>none) else none) else none)=some x:=h
       rw[dif_pos ⟨rfl,rfl⟩] at h
       obtain ⟨hk,h⟩:=ite_some h
       subst hk
       obtain ⟨y,hy,rfl⟩:=fin h
       exact ⟨h1,ih hy h2⟩
      ·have h:(if h:kt'=kt∧vt'=vt then (if t'=t then (match pkL G ls cs with|some y=>some ((h.1▸h.2▸es:List (D kt×D vt)),y)|none=>none) else none) else none)=some x:=h
       rw[dif_neg hk] at h
       cases h
     |nilM=>
      obtain ⟨y,hy,rfl⟩:=fin h
      exact ⟨.inl ⟨h1,rfl⟩,ih hy h2⟩
     |_=>cases h
    |fn=>
     cases c with
     |nilF=>
      obtain ⟨y,hy,rfl⟩:=fin h
      exact ⟨h1,ih hy h2⟩
     |fn n is=>
      cases is with
      |nil=>
       obtain ⟨y,hy,rfl⟩:=fin h
       obtain ⟨gs,g1,g2⟩:=h1
       cases gs with
       |nil=>exact ⟨g1,ih hy h2⟩
       |cons _ _=>exact g2.elim
      |cons _ _=>cases h
     |_=>cases h
theorem qw7:∀{ls:List LC} {cs:List (CV D)} {x:inL (toT G ls)},pkL G ls cs=some x→MtC cs (lvL G ls x):=by
 intro ls
 induction ls with
 |nil=>
  intro cs x h
  cases cs with
  |nil=>trivial
  |cons c cs=>cases h
 |cons l ls ih=>
  intro cs x h
  cases cs with
  |nil=>cases l<;>cases h
  |cons c cs=>
   have fin:∀{α:Type} {f:inL (toT G ls)→α} {o:Option (inL (toT G ls))} {r:α},(match o with|some y=>some (f y)|none=>none)=some r→∃y,o=some y∧r=f y:=by
    intro α f o r h
    cases o with
    |none=>cases h
    |some y=>cases h;exact ⟨y,rfl,rfl⟩
   cases l with
   |int k=>
    cases c with
    |int k' n=>
     obtain ⟨hk,h⟩:=ite_some (α:=inL (toT G (.int k::ls))) h
     subst hk
     obtain ⟨y,hy,rfl⟩:=fin h
     exact ⟨fun _=>rfl,ih hy⟩
    |_=>cases h
   |bool=>
    cases c with
    |bool n=>
     obtain ⟨y,hy,rfl⟩:=fin h
     exact ⟨fun _=>rfl,ih hy⟩
    |_=>cases h
   |str=>
    cases c with
    |str n=>
     obtain ⟨y,hy,rfl⟩:=fin h
     exact ⟨fun _=>rfl,ih hy⟩
    |_=>cases h
   |sl t=>
    cases c with
    |sl e' xs=>
     by_cases hk:e'=t
     ·subst hk
      have h:(if h:e'=e' then (match pkL G ls cs with|some y=>some ((h▸xs:List (D e')),y)|none=>none) else none)=some x:=h
      rw[dif_pos rfl] at h
      obtain ⟨y,hy,rfl⟩:=fin h
      exact ⟨fun _=>rfl,ih hy⟩
     ·have h:(if h:e'=t then (match pkL G ls cs with|some y=>some ((h▸xs:List (D t)),y)|none=>none) else none)=some x:=h
      rw[dif_neg hk] at h
      cases h
    |nilS=>
     obtain ⟨y,hy,rfl⟩:=fin h
     exact ⟨fun h=>(by cases h),ih hy⟩
    |_=>cases h
   |mp t kt vt=>
    cases c with
    |mp t' kt' vt' es=>
     by_cases hk:kt'=kt∧vt'=vt
     ·obtain ⟨rfl,rfl⟩:=hk
      have h:(if h:kt'=kt'∧vt'=vt' then (if t'=t then (match pkL G ls cs with|some y=>some ((h.1▸h.2▸es:List (D kt'×D vt')),y)|none=>none) else none) else none)=some x:=h
      rw[dif_pos ⟨rfl,rfl⟩] at h
      obtain ⟨hk,h⟩:=ite_some h
      subst hk
      obtain ⟨y,hy,rfl⟩:=fin h
      exact ⟨fun _=>rfl,ih hy⟩
     ·have h:(if h:kt'=kt∧vt'=vt then (if t'=t then (match pkL G ls cs with|some y=>some ((h.1▸h.2▸es:List (D kt×D vt)),y)|none=>none) else none) else none)=some x:=h
      rw[dif_neg hk] at h
      cases h
    |nilM=>
     obtain ⟨y,hy,rfl⟩:=fin h
     exact ⟨fun h=>(by cases h),ih hy⟩
    |_=>cases h
   |fn=>
    cases c with
    |nilF=>
     obtain ⟨y,hy,rfl⟩:=fin h
     exact ⟨fun _=>rfl,ih hy⟩
    |fn n is=>
     cases is with
     |nil=>
      obtain ⟨y,hy,rfl⟩:=fin h
      exact ⟨fun _=>rfl,ih hy⟩
     |cons _ _=>cases h
    |_=>cases h
theorem toT_len:∀{ls:List LC},(toT G ls).length=ls.length
 |[]=>rfl
 |l::ls=>by simp[toT,toT_len]
def zcL:List LC→List (CV D)
 |[]=>[]
 | .int k::ls=> .int k 0::zcL ls
 | .bool::ls=> .bool false::zcL ls
 | .str::ls=> .str []::zcL ls
 | .sl _::ls=> .nilS::zcL ls
 | .mp _ _ _::ls=> .nilM::zcL ls
 | .fn::ls=> .nilF::zcL ls
def zvL:List LC→List Value
 |[]=>[]
 | .int k::ls=> .int k 0::zvL ls
 | .bool::ls=> .bool false::zvL ls
 | .str::ls=> .string ⟨#[]⟩::zvL ls
 | .sl _::ls=> .slice none 0 0::zvL ls
 | .mp _ _ _::ls=> .map none::zvL ls
 | .fn::ls=> .nilFunc::zvL ls
theorem qfd {z:Nat→Blk} {vs:List Value}:∀{ls:List LC},L2 (rel0 G z vs) (zcL ls:List (CV D)) (zvL ls)
 |[]=>trivial
 | .int k::ls=>⟨rfl,qfd⟩
 | .bool::ls=>⟨rfl,qfd⟩
 | .str::ls=>⟨rfl,qfd⟩
 | .sl _::ls=>⟨rfl,qfd⟩
 | .mp _ _ _::ls=>⟨rfl,qfd⟩
 | .fn::ls=>⟨rfl,qfd⟩
theorem qcl:∀{ls:List LC} {x:inL (toT G ls)},(lvL G ls x).all nOwn=true
 |[],_=>rfl
 | .int k::ls,x=>by simp only[lvL,List.all_cons,qcl,nOwn,Bool.and_self]
 | .bool::ls,x=>by simp only[lvL,List.all_cons,qcl,nOwn,Bool.and_self]
 | .str::ls,x=>by simp only[lvL,List.all_cons,qcl,nOwn,Bool.and_self]
 | .sl _::ls,x=>by simp only[lvL,List.all_cons,qcl,nOwn,Bool.and_self]
 | .mp _ _ _::ls,x=>by simp only[lvL,List.all_cons,qcl,nOwn,Bool.and_self]
 | .fn::ls,(none,y)=>by simp only[lvL,fnC,List.all_cons,qcl,nOwn,Bool.and_self]
 | .fn::ls,(some n,y)=>by simp only[lvL,fnC,List.all_cons,qcl,nOwn,List.isEmpty,Bool.and_self]
def tiOf {t:Nat} (ls:List LC) (to:D t→inL (toT G ls)) (of:inL (toT G ls)→D t) (h1:∀x,of (to x)=x) (h2:∀y,to (of y)=y) (x0:D t) (i:TypeInfo) (zv:Value)
  (hT:G.T t=TyOf t (toT G ls) to) (hi:P.info? t=some i) (hsz:i.size=ls.length) (hpos:(ls.length==0)=false) (hby:Nat.ble i.bytes 32768=true) (hz:i.zero=some zv) (hzf:zv.cells.toList.all qah=true) (hzs:zv.cells.size=i.size)
  (rd0:∀z,rdL z (toT G ls) (to x0) zv.cells.toList) (hzv:zv.cells.toList=zvL ls):TI P G t where
 zc:=zcL ls
 hzc:=fun z vs=>by rw[hzv];exact qfd
 lvo:=fun x=>qcl
 lv:=fun x=>lvL G ls (to x)
 pk:=fun cs=>match pkL G ls cs with|some y=>some (of y)|none=>none
 x0:=x0
 i:=i
 zv:=zv
 tid:=by rw[hT];rfl
 hi:=hi
 hsz:=by rw[hT,hsz];exact toT_len.symm
 hpos:=by
  rw[hT]
  show ((toT G ls).length==0)=false
  rw[toT_len];exact hpos
 hby:=hby
 hz:=hz
 hzf:=hzf
 hzs:=hzs
 rd0:=fun z=>by rw[hT];exact rd0 z
 rdl:=fun z vs x cs h=>by rw[hT] at h;exact qeU h
 pkl:=fun z vs cs x ds h hr=>by
  rw[hT]
  split at h
  ·rename_i y hy
   cases h
   show rdL z (toT G ls) (to (of y)) ds
   rw[h2];exact qsR hy hr
  ·cases h
 pklv:=fun x=>by
  show (match pkL G ls (lvL G ls (to x)) with|some y=>some (of y)|none=>none)=some x
  rw[qea];exact congrArg some (h1 x)
 pkn:=fun cs x h=>by
  split at h
  ·rename_i y hy
   cases h
   rw[h2];exact qw7 hy
  ·cases h
theorem qnr (u:UInt8):toU8 (u.toNat:Int)=some u:=by
 unfold toU8
 have:=u.toNat_lt
 rw[if_pos (by omega)]
 simp
def tiU8 {t:Nat} (to:D t→UInt8) (of:UInt8→D t) (oo:Option UInt8→Option (D t)) (hoo:∀o,oo o=o.map of) (h1:∀x,of (to x)=x) (h2:∀y,to (of y)=y) (i:TypeInfo) (htid:(G.T t).tid=t) (hsz':(G.T t).sz=1) (hrd:∀z x cs,(G.T t).rd z x cs↔cs=[.int .u8 (to x).toNat])
  (hi:P.info? t=some i) (hsz:i.size=1) (hby:Nat.ble i.bytes 32768=true) (hz:i.zero=some (.int .u8 0)):TI P G t where
 zc:=[.int .u8 0]
 hzc:=fun z vs=>⟨rfl,trivial⟩
 lvo:=fun x=>rfl
 lv:=fun x=>[.int .u8 (to x).toNat]
 pk:=fun cs=>match cs with|[.int .u8 n]=>oo (toU8 n)|_=>none
 x0:=of 0
 i:=i
 zv:= .int .u8 0
 tid:=htid
 hi:=hi
 hsz:=by rw[hsz',hsz]
 hpos:=by rw[hsz'];rfl
 hby:=hby
 hz:=hz
 hzf:=rfl
 hzs:=by rw[hsz];rfl
 rd0:=fun z=>(hrd z _ _).2 (by rw[h2];rfl)
 rdl:=fun z vs x cs h=>by rw[(hrd z x cs).1 h];exact ⟨rfl,trivial⟩
 pkl:=fun z vs cs x ds h hr=>by
  split at h
  ·rename_i n
   cases ds with
   |nil=>exact hr.elim
   |cons d ds=>
    cases ds with
    |cons _ _=>exact hr.2.elim
    |nil=>
     rw[hoo] at h
     cases hu:toU8 n with
     |none=>rw[hu] at h;cases h
     |some u=>
      rw[hu] at h
      cases h
      have:d= .int .u8 n:=hr.1
      rw[this,qio hu]
      exact (hrd z _ _).2 (by rw[h2])
  ·cases h
 pklv:=fun x=>by
  simp only[qnr,hoo,Option.map_some,h1]
 pkn:=fun cs x h=>by
  split at h
  ·rename_i n
   rw[hoo] at h
   cases hu:toU8 n with
   |none=>rw[hu] at h;cases h
   |some u=>
    rw[hu] at h
    cases h
    rw[h2,qio hu];exact MtC.refl _
  ·cases h
def lvV:(ls:List LC)→inL (toT G ls)→List Value
 |[],_=>[]
 | .int k::ls,x=> .int k x.1::lvV ls x.2
 | .bool::ls,x=> .bool x.1::lvV ls x.2
 | .str::ls,x=>AM.str x.1::lvV ls x.2
 | .sl _::ls,x=>undef::lvV ls x.2
 | .mp _ _ _::ls,x=>undef::lvV ls x.2
 | .fn::ls,x=>undef::lvV ls x.2
def qbh (P:Program):List Field→Nat→List LC→Bool
 |[],_,[]=>true
 | f :: fs, i, .int _ :: ls => (f.offset == i && f.name != "_") && ((match P.underlying f.type with | some (.int _) => true | _ => false) && qbh P fs (i + 1) ls)
 | f :: fs, i, .bool :: ls => (f.offset == i && f.name != "_") && ((match P.underlying f.type with | some .bool => true | _ => false) && qbh P fs (i + 1) ls)
 | f :: fs, i, .str :: ls => (f.offset == i && f.name != "_") && ((match P.underlying f.type with | some .string => true | _ => false) && qbh P fs (i + 1) ls)
 |_,_,_=>false
theorem qcv:∀{fs:List Field} {i:Nat} {ls:List LC} {x y:inL (toT G ls)},qbh P fs i ls=true→ScalF P fs i (lvV ls x) (lvV ls y)
 |[],_,[],_,_,_=>trivial
 |f::fs,i, .int k::ls,x,y,h=>by
  simp only[qbh,Bool.and_eq_true,beq_iff_eq,bne_iff_ne] at h
  obtain ⟨⟨h1,h2⟩,h3,h4⟩:=h
  refine ⟨h1,h2, .inl ?_,qcv h4⟩
  split at h3
  ·exact ⟨k,_,_,_,‹_›,rfl,rfl⟩
  ·cases h3
 |f::fs,i, .bool::ls,x,y,h=>by
  simp only[qbh,Bool.and_eq_true,beq_iff_eq,bne_iff_ne] at h
  obtain ⟨⟨h1,h2⟩,h3,h4⟩:=h
  refine ⟨h1,h2, .inr (.inl ?_),qcv h4⟩
  split at h3
  ·exact ⟨_,_,‹_›,rfl,rfl⟩
  ·cases h3
 |f::fs,i, .str::ls,x,y,h=>by
  simp only[qbh,Bool.and_eq_true,beq_iff_eq,bne_iff_ne] at h
  obtain ⟨⟨h1,h2⟩,h3,h4⟩:=h
  refine ⟨h1,h2, .inr (.inr ?_),qcv h4⟩
  split at h3
  ·exact ⟨_,_,‹_›,rfl,rfl⟩
  ·cases h3
 |_::_,_, .sl _::_,_,_,h=>by cases h
 |_::_,_, .mp _ _ _::_,_,_,h=>by cases h
 |_::_,_, .fn::_,_,_,h=>by cases h
 |[],_,_::_,_,_,h=>by cases h
 |_::_,_,[],_,_,h=>by cases h
theorem qeV:∀{fs:List Field} {i:Nat} {ls:List LC} {x y:inL (toT G ls)},qbh P fs i ls=true→lvV ls x=lvV ls y→x=y
 |_,_,[],_,_,_,_=>rfl
 |f::fs,i, .int k::ls,x,y,h,e=>by
  simp only[qbh,Bool.and_eq_true] at h
  simp only[lvV,List.cons.injEq] at e
  exact Prod.ext (Value.int.inj e.1).2 (qeV h.2.2 e.2)
 |f::fs,i, .bool::ls,x,y,h,e=>by
  simp only[qbh,Bool.and_eq_true] at h
  simp only[lvV,List.cons.injEq] at e
  exact Prod.ext (Value.bool.inj e.1) (qeV h.2.2 e.2)
 |f::fs,i, .str::ls,x,y,h,e=>by
  simp only[qbh,Bool.and_eq_true] at h
  simp only[lvV,List.cons.injEq] at e
  exact Prod.ext (qnq e.1) (qeV h.2.2 e.2)
 |_::_,_, .sl _::_,_,_,h,_=>by cases h
 |[],_, .sl _::_,_,_,h,_=>by cases h
 |[],_, .int _::_,_,_,h,_=>by cases h
 |[],_, .bool::_,_,_,h,_=>by cases h
 |[],_, .str::_,_,_,h,_=>by cases h
 |_::_,_, .mp _ _ _::_,_,_,h,_=>by cases h
 |_::_,_, .fn::_,_,_,h,_=>by cases h
 |[],_, .mp _ _ _::_,_,_,h,_=>by cases h
 |[],_, .fn::_,_,_,h,_=>by cases h
theorem qh2 {z:Nat→Blk}:∀{fs:List Field} {i:Nat} {ls:List LC} {x:inL (toT G ls)} {ds:List Value},qbh P fs i ls=true→rdL z (toT G ls) x ds→ds=lvV ls x
 |_,_,[],_,[],_,_=>rfl
 |_,_,[],_,_::_,_,h=>h.elim
 |f::fs,i, .int k::ls,x,d::ds,h,e=>by
  simp only[qbh,Bool.and_eq_true] at h
  have h1:d= .int k x.1:=e.1
  rw[lvV,h1,←qh2 h.2.2 e.2]
 |f::fs,i, .bool::ls,x,d::ds,h,e=>by
  simp only[qbh,Bool.and_eq_true] at h
  have h1:d= .bool x.1:=e.1
  rw[lvV,h1,←qh2 h.2.2 e.2]
 |f::fs,i, .str::ls,x,d::ds,h,e=>by
  simp only[qbh,Bool.and_eq_true] at h
  have h1:d=AM.str x.1:=e.1
  rw[lvV,h1,←qh2 h.2.2 e.2]
 |_::_,_, .sl _::_,_,_,h,_=>by cases h
 |_::_,_, .mp _ _ _::_,_,_,h,_=>by cases h
 |_::_,_, .fn::_,_,_,h,_=>by cases h
 |[],_,_::_,_,_,h,_=>by cases h
 |_::_,_, .int _::_,_,[],_,h=>h.elim
 |_::_,_, .bool::_,_,[],_,h=>h.elim
 |_::_,_, .str::_,_,[],_,h=>h.elim
def qiOf {t:Nat} (ls:List LC) (to:D t→inL (toT G ls)) (of:inL (toT G ls)→D t) (h1:∀x,of (to x)=x) (fs:Array Field) (eq:D t→D t→Bool) (hT:G.T t=TyOf t (toT G ls) to) (he:∀x y,eq x y=true↔x=y)
  (ht:P.underlying t=some (.struct fs)) (hp:P.stoodInHeld t=false) (hg:P.eqGuardType P.depth t=false) (hs:qbh P fs.toList 0 ls=true):QI P G t where
 fs:=fs
 eq:=eq
 va:=fun x=>lvV ls (to x)
 ht:=ht
 hp:=hp
 hg:=hg
 hs:=fun x y=>qcv hs
 hv:=fun z x ds h=>by rw[hT] at h;exact qh2 hs h
 he:=fun x y=>by
  rw[he]
  constructor
  ·rintro rfl;rfl
  ·intro h
   have:=qeV hs h
   rw[←h1 x,←h1 y,this]
def kgI {α:Type} (k:IntKind) (of:Int→α):SV D→Option α:=fun s=>match s with| .c (.int k' n)=>if k'=k then some (of n) else none|_=>none
def kgS {α:Type} (of:List UInt8→α):SV D→Option α:=fun s=>match s with| .c (.str n)=>some (of n)|_=>none
def kgA {t:Nat} (ti:TI P G t):SV D→Option (D t):=fun s=>match s with| .agg t' cs=>if t'=t then ti.pk cs else none|_=>none
def vgI {α:Type} (k:IntKind) (of:Int→α):CV D→Option α:=fun s=>match s with| .int k' n=>if k'=k then some (of n) else none|_=>none
def vgB {α:Type} (of:Bool→α):CV D→Option α:=fun s=>match s with| .bool n=>some (of n)|_=>none
theorem qsu {z:Nat→Blk} {vs:List Value} {α:Type} {k:IntKind} {of:Int→α} {s:SV D} {a:α} {v:Value} (h:kgI k of s=some a) (hr:rel G z vs s v):∃n,a=of n∧v= .int k n:=by
 unfold kgI at h
 split at h
 ·split at h
  ·rename_i hk
   cases h;subst hk
   exact ⟨_,rfl,hr⟩
  ·cases h
 ·cases h
theorem qsv {z:Nat→Blk} {vs:List Value} {α:Type} {of:List UInt8→α} {s:SV D} {a:α} {v:Value} (h:kgS of s=some a) (hr:rel G z vs s v):∃n,a=of n∧v=AM.str n:=by
 unfold kgS at h
 split at h
 ·cases h
  exact ⟨_,rfl,hr⟩
 ·cases h
theorem qpK {z:Nat→Blk} {vs:List Value} {t:Nat} {ti:TI P G t} {s:SV D} {a:D t} {v:Value} (h:kgA ti s=some a) (hr:rel G z vs s v):∃ds:List Value,(G.T t).rd z a ds∧v= .agg ds.toArray:=by
 unfold kgA at h
 split at h
 ·obtain ⟨_,h⟩:=ite_some h
  obtain ⟨ds,h1,h2⟩:=hr
  exact ⟨ds,ti.pkl z vs _ _ _ h h2,h1⟩
 ·cases h
theorem qvO {z:Nat→Blk} {vs:List Value} {α:Type} {k:IntKind} {of:Int→α} {s:CV D} {a:α} {v:Value} (h:vgI k of s=some a) (hr:rel0 G z vs s v):∃n,a=of n∧v= .int k n:=by
 unfold vgI at h
 split at h
 ·split at h
  ·rename_i hk
   cases h;subst hk
   exact ⟨_,rfl,hr⟩
  ·cases h
 ·cases h
theorem qvN {z:Nat→Blk} {vs:List Value} {α:Type} {of:Bool→α} {s:CV D} {a:α} {v:Value} (h:vgB of s=some a) (hr:rel0 G z vs s v):∃n,a=of n∧v= .bool n:=by
 unfold vgB at h
 split at h
 ·cases h
  exact ⟨_,rfl,hr⟩
 ·cases h
structure KI (P:Program) (G:Tab D) (kt:Nat) where
 dec:DecidableEq (D kt)
 K:KeyOk P kt (G.kc kt)
 kget:SV D→Option (D kt)
 hkg:∀z vs s a v,kget s=some a→rel G z vs s v→v=qal (qaj P kt) (G.kc kt a)
structure VI (P:Program) (G:Tab D) (vt:Nat) where
 V:ValOk P vt (G.kc vt)
 vget:CV D→Option (D vt)
 vput:D vt→CV D
 z0:D vt
 i:TypeInfo
 hi:P.info? vt=some i
 hvn:qaj P vt=false
 hz:i.zero=some (qal false (G.kc vt z0))
 hvg:∀z vs c a v,vget c=some a→rel0 G z vs c v→v=qal false (G.kc vt a)
 hvp:∀z vs a,rel0 G z vs (vput a) (qal false (G.kc vt a))
def miOf {kt vt:Nat} (a:KI P G kt) (b:VI P G vt):MI P G kt vt where
 dec:=a.dec
 K:=a.K
 V:=b.V
 kget:=a.kget
 vget:=b.vget
 vput:=b.vput
 z0:=b.z0
 i:=b.i
 hi:=b.hi
 hz:=by rw[b.hvn];exact b.hz
 hkg:=a.hkg
 hvg:=by rw[b.hvn];exact b.hvg
 hvp:=by rw[b.hvn];exact b.hvp
 hvn:=b.hvn
def kiI {kt:Nat} (k:IntKind) (of:Int→D kt) (dec:DecidableEq (D kt)) (i:TypeInfo) (h:P.underlying kt=some (.int k)) (K:KeyOk P kt (G.kc kt)) (hk:∀n,G.kc kt (of n)=[.int k n]):KI P G kt where
 dec:=dec
 K:=K
 kget:=kgI k of
 hkg:=fun z vs s a v h1 h2=>by
  obtain ⟨n,rfl,rfl⟩:=qsu h1 h2
  rw[hk,qeh h rfl];rfl
def kiS {kt:Nat} (of:List UInt8→D kt) (dec:DecidableEq (D kt)) (h:P.underlying kt=some .string) (K:KeyOk P kt (G.kc kt)) (hk:∀n,G.kc kt (of n)=[AM.str n]):KI P G kt where
 dec:=dec
 K:=K
 kget:=kgS of
 hkg:=fun z vs s a v h1 h2=>by
  obtain ⟨n,rfl,rfl⟩:=qsv h1 h2
  rw[hk,qeh h rfl];rfl
def kiA {t:Nat} (dec:DecidableEq (D t)) (ti:TI P G t) (ls:List LC) (to:D t→inL (toT G ls)) (of:inL (toT G ls)→D t) (h1:∀x,of (to x)=x) (fs:Array Field) (i:TypeInfo) (hT:G.T t=TyOf t (toT G ls) to)
  (ht:P.underlying t=some (.struct fs)) (hi:P.info? t=some i) (hp:P.stoodInHeld t=false) (hpos:(i.size==0)=false) (hs:qbh P fs.toList 0 ls=true) (hlen:∀a,(G.kc t a).length=i.size) (hk:∀a,G.kc t a=lvV ls (to a)):KI P G t where
 dec:=dec
 K:=ql6 ht hi hp hpos hlen (fun a b=>by rw[hk,hk];exact qcv hs) (fun a b h=>by
  rw[hk,hk] at h
  have:=qeV hs h
  rw[←h1 a,←h1 b,this])
 kget:=kgA ti
 hkg:=fun z vs s a v h2 h3=>by
  obtain ⟨ds,g1,rfl⟩:=qpK h2 h3
  rw[hT] at g1
  rw[qh2 hs g1,hk]
  simp only[qaj,ht,aggT,qal]
def kiP {t:Nat} (k:IntKind) (dec:DecidableEq (D t)) (ti:TI P G t) (to:D t→inL (toT G [.int k, .int k])) (of:inL (toT G [.int k, .int k])→D t) (h1:∀x,of (to x)=x) {e:Nat} (i ie:TypeInfo) (hT:G.T t=TyOf t (toT G [.int k, .int k]) to)
  (ht:P.underlying t=some (.array 2 e)) (he:P.underlying e=some (.int k)) (hie:P.info? e=some ie) (hi1:ie.size=1) (hi:P.info? t=some i) (hi2:i.size=2) (hk:∀a,G.kc t a=lvV [.int k, .int k] (to a)):KI P G t where
 dec:=dec
 K:=qqM (k:=k) (fun a=>(to a).1) (fun a=>(to a).2.1) ht he hie hi1 hi hi2 (fun a=>by rw[hk];rfl) (fun a b h2 h3=>by
  rw[←h1 a,←h1 b]
  congr 1
  exact Prod.ext h2 (Prod.ext h3 rfl))
 kget:=kgA ti
 hkg:=fun z vs s a v h2 h3=>by
  obtain ⟨ds,g1,rfl⟩:=qpK h2 h3
  rw[hT] at g1
  have:ds=lvV [.int k, .int k] (to a):=by
   match ds,g1 with
   |[x,y],⟨g1,g2,_⟩=>rw[g1,g2];rfl
  rw[this,hk]
  simp only[qaj,ht,aggT,qal]
def viI {vt:Nat} (k:IntKind) (of:Int→D vt) (to:D vt→Int) (h1:∀x,of (to x)=x) (i:TypeInfo) (h:P.underlying vt=some (.int k)) (hi:P.info? vt=some i) (V:ValOk P vt (G.kc vt)) (hk:∀n,G.kc vt (of n)=[.int k n]) (hz:i.zero=some (.int k 0)):VI P G vt where
 V:=V
 vget:=vgI k of
 vput:=fun x=> .int k (to x)
 z0:=of 0
 i:=i
 hi:=hi
 hvn:=qeh h rfl
 hz:=by rw[hk];exact hz
 hvg:=fun z vs c a v g1 g2=>by
  obtain ⟨n,rfl,rfl⟩:=qvO g1 g2
  rw[hk];rfl
 hvp:=fun z vs a=>by
  have:=hk (to a)
  rw[h1] at this
  rw[this];rfl
def viB {vt:Nat} (of:Bool→D vt) (to:D vt→Bool) (h1:∀x,of (to x)=x) (i:TypeInfo) (h:P.underlying vt=some .bool) (hi:P.info? vt=some i) (V:ValOk P vt (G.kc vt)) (hk:∀n,G.kc vt (of n)=[.bool n]) (hz:i.zero=some (.bool false)):VI P G vt where
 V:=V
 vget:=vgB of
 vput:=fun x=> .bool (to x)
 z0:=of false
 i:=i
 hi:=hi
 hvn:=qeh h rfl
 hz:=by rw[hk];exact hz
 hvg:=fun z vs c a v g1 g2=>by
  obtain ⟨n,rfl,rfl⟩:=qvN g1 g2
  rw[hk];rfl
 hvp:=fun z vs a=>by
  have:=hk (to a)
  rw[h1] at this
  rw[this];rfl
theorem qq8 {X:Ev P D} {B:Code} {u:Pc D} {us:List (Pc D)} (h:PcOk X B u) (hs:∀v∈us,PcOk X B v):∀v∈u::us,PcOk X B v:=by
 intro v hv
 rcases List.mem_cons.1 hv with rfl|hv
 ·exact h
 ·exact hs v hv
theorem qsQ {X:Ev P D} {B:Code}:∀v∈([]:List (Pc D)),PcOk X B v:=by simp
theorem CallOk.law {X:Ev P D} {d:FD D} {F:d.F} (hF:CallOk X d F) {m:Mem} {z:Nat→Blk} (hz:Fz z m) (hd:∀b,m.next≤b→m.blk b= .dead) {svs:List (SV D)} {args:List Value} (hL:L2 (rel X.G z []) svs args)
  (h:d.call X F svs [] (fun sv _=>some sv)=some (.c (.bool true))):CallW P d.f args.toArray m fun v _=>v= .bool true:=by
 have hM:Mm X.G ([]:List (Ob D)) z m m none []:=⟨St.start hz hd,rfl,by simp,by simp⟩
 refine (hF svs [] (fun sv _=>some sv) _ args hM hL h).mono fun v m' hv=> ?_
 obtain ⟨⟨z',vs',sv,O',_,_,_,_,hr,hK⟩,_⟩:=hv
 cases hK
 exact hr
end
end
end Go.AM
end
section
set_option linter.unusedSimpArgs false
set_option linter.unusedVariables false
namespace Go.AM
noncomputable section
section
variable {P:Program} {D:Nat→Type} {X:Ev P D} {ρ:Type} {z z':Nat→Blk} {e m m':Mem} {k:Option Nat} {vs vs':List Value} {fr:Nat→Value} {E:List (Nat×SV D)} {O O':List (Ob D)}
theorem qeu (l:ChQ D) {σ0:List Nat}:∀(its:List It) (x:inT D its) (σ:List Nat) (O:List (Ob D)),nrm (X.ch l) σ0 its x σ O=nrm X σ0 its x σ O
 |[],_,_,_=>rfl
 | .o _ c::its,x,[],O=>rfl
 | .o _ c::its,x,i::σ,O=>by
  show nrm (X.ch l) σ0 its x.2 σ (O.set i (OC.mkr (X.ch l) (fun n=>σ0.getD n 0) c x.1 (qgZ c O i)))=nrm X σ0 its x.2 σ (O.set i (OC.mkr X (fun n=>σ0.getD n 0) c x.1 (qgZ c O i)))
  rw[qeu l its x.2 σ]
  exact congrArg (fun q=>nrm X σ0 its x.2 σ (O.set i q)) (OC.mkr_with l _ c x.1 _)
 | .v _ _::its,x,σ,O=>qeu l its x.2 σ O
 | .u _ _::its,x,σ,O=>qeu l its x.2 σ O
theorem qf0 (l:ChQ D) {τ:Nat→Nat} {σ ks:List Nat} {outs:List It} {y:inT D outs}:∀(O:List (Ob D)) (i:Nat),qfk (X.ch l) τ σ ks outs y i O=qfk X τ σ ks outs y i O
 |[],i=>rfl
 |o::O,i=>by simp only[qfk,qbT,qf0 l O (i+1)]
theorem qmY (l:ChQ D) (its:List It) (fx:List (Nat×SV D)) (E:List (Nat×SV D)) (O:List (Ob D)):rdIn (X.ch l) its fx E O=rdIn X its fx E O:=by
 simp only[rdIn,qot,qdu,qeu]
theorem qkw (l:ChQ D) (p:PD D) (F:p.F) (E:List (Nat×SV D)) (O:List (Ob D)) {ρ:Type} (K:AExit→List (Nat×SV D)→List (Ob D)→Option ρ):p.run (X.ch l) F E O K=p.run X F E O K:=by
 have e1:∀(σ:List Nat) (N:Nat) (xx:Ex D) (y:inT D xx.outs) (E:List (Nat×SV D)),actE (X.ch l) p σ N xx y E=actE X p σ N xx y E:=fun σ N xx y E=>by simp only[actE,qcG]
 have e2:∀(σ:List Nat) (O2:List (Ob D)) (xx:Ex D) (y:inT D xx.outs),actO (X.ch l) p σ O2 xx y=actO X p σ O2 xx y:=fun σ O2 xx y=>by simp only[actO,qf0,qbN]
 unfold PD.run PD.runI
 simp only[qmY,e1,e2]
def nrmE:AExit→AExit
 | .normal=> .ret
 |ex=>ex
theorem qn5 {ex:AExit} (h:nrmE ex= .ret):ex= .normal∨ex= .ret:=by
 cases ex<;>first|exact .inl rfl|exact .inr rfl|cases h
structure GD (D:Nat→Type) where
 f:Nat
 np:Nat
 ins:List It
 fx:List (Nat×SV D)
 ks:List Nat
 outs:List It
 ofx:List (Nat×SV D)
 res:List Nat
 fz:Bool:=false
def frz1 (keep:List Nat) (i:Nat) (O:List (Ob D)):List (Ob D):=
 match O[i]? with
 |some (.box t cs false w)=>if (!(keep.any (Nat.beq i))&&cs.all qsG)=true then O.set i (.box t cs true w) else O
 |_=>O
def qnP (keep:List Nat):Nat→List (Ob D)→List (Ob D)
 |0,O=>O
 |n+1,O=>frz1 keep n (qnP keep n O)
theorem qqw {keep:List Nat} {i:Nat} (hM:Mm X.G O z e m k vs):∃z',Inv O (frz1 keep i O)∧Zx e.next z z'∧Mm X.G (frz1 keep i O) z' e m k vs:=by
 unfold frz1
 split
 ·rename_i t cs w ho
  split
  ·rename_i hc
   simp only[Bool.and_eq_true] at hc
   obtain ⟨v,hv,hob⟩:=hM.at ho
   have hob':=hob
   obtain ⟨b,ds,rfl,_⟩:=hob'
   have hcap:qiI O (.box i 0)=some ((t,cs),O.set i (.box t cs true w)):=by
    simp only[qiI,ho]
    rw[if_pos ⟨trivial,hc.2⟩]
   obtain ⟨z',h0,h1,h2,_⟩:=qf9 (X:=X) hM (s:= .box i 0) (g:= .pointer (some ⟨b,0,none⟩)) ⟨b,hv,rfl⟩ hcap
   exact ⟨z',h0,h1,h2⟩
  ·exact ⟨z,Inv.refl _,Zx.refl z,hM⟩
 ·exact ⟨z,Inv.refl _,Zx.refl z,hM⟩
theorem qj1 {keep:List Nat} (hM:Mm X.G O z e m k vs):∀n:Nat,∃z',Inv O (qnP keep n O)∧Zx e.next z z'∧Mm X.G (qnP keep n O) z' e m k vs
 |0=>⟨z,Inv.refl _,Zx.refl z,hM⟩
 |n+1=>by
  obtain ⟨z1,h0,h1,h2⟩:=qj1 hM n
  obtain ⟨z2,g0,g1,g2⟩:=qqw (keep:=keep) (i:=n) h2
  exact ⟨z2,h0.trans g0,h1.trans g1,g2⟩
def GD.pre (d:GD D) (svs:List (SV D)) (O:List (Ob D)):List (Ob D):=if d.fz=true then qnP (qm2 O 100 (qr1 (qca 0 svs)) []) O.length O else O
theorem GD.pre_ok {d:GD D} {svs:List (SV D)} (hM:Mm X.G O z e m k vs):∃z',Inv O (d.pre svs O)∧Zx e.next z z'∧Mm X.G (d.pre svs O) z' e m k vs:=by
 unfold GD.pre
 split
 ·exact qj1 hM _
 ·exact ⟨z,Inv.refl _,Zx.refl z,hM⟩
def GD.pd (d:GD D):PD D:={path:=[],ins:=d.ins,fx:=d.fx,ks:=d.ks,exs:=[⟨.ret,d.outs,d.ofx⟩],keep:=[]}
def qww:AExit→Bool
 | .ret=>true
 |_=>false
variable (X) in
def GD.call (d:GD D) (F:d.pd.F) (svs:List (SV D)) (O:List (Ob D)) {ρ:Type} (K:SV D→List (Ob D)→Option ρ):Option ρ:=
 if Nat.beq svs.length d.np=true then d.pd.run X F (qca 0 svs) (d.pre svs O) fun ex E O=>if qww ex=true then (match resE E d.res with|some sv=>K sv O|none=>none) else none
 else none
variable (X) in
def GD.fits (d:GD D) (svs:List (SV D)) (O:List (Ob D)):Bool:=
 Nat.beq svs.length d.np&&(rdIn X d.ins d.fx (ownA d.ins (qca 0 svs) O).1 (ownA d.ins (qca 0 svs) O).2).isSome
structure GOk (P:Program) (X:Ev P D) (d:GD D) (F:d.pd.F):Prop where
 ex:∃fn c,P.funcs[d.f]? =some fn∧fn.body=some c∧okFn P d.f=true∧Nat.ble d.np fn.ntmps=true∧fn.results.toList=d.res.map .tmp∧d.pd.chk c=true∧CCn nrmE X c d.pd F
def CallG (X:Ev P D) (d:GD D) (F:d.pd.F):Prop:=∀(svs:List (SV D)) (O:List (Ob D)) {ρ:Type} (K:SV D→List (Ob D)→Option ρ) (r:ρ) {z:Nat→Blk} {e m:Mem} {k:Option Nat} {vs:List Value} (args:List Value),
 Mm X.G O z e m k vs→L2 (rel X.G z vs) svs args→d.call X F svs O K=some r→CallW P d.f args.toArray m fun v m'=>Nxt X O z e k vs K r v m'
theorem qm6 {m:Mem}:∀(l:List Nat),qaV P fr m (l.map .tmp) (l.map fr)
 |[]=>trivial
 |_::l=>⟨rfl,qm6 l⟩
theorem GOk.call {d:GD D} {F:d.pd.F} (hF:GOk P X d F):CallG X d F:=by
 intro svs O ρ K r z e m k vs args hM hL h
 obtain ⟨fn,c,f1,f2,f3,f4,f5,f6,hB⟩:=hF.ex
 unfold GD.call at h
 obtain ⟨hlen,h⟩:=ite_some h
 have hlen:=Nat.eq_of_beq_eq_true hlen
 have hsz:args.toArray.size≤fn.ntmps:=by
  rw[List.size_toArray,←hL.length,hlen]
  exact Nat.le_of_ble_eq_true f4
 refine CallW.any f1 f2 f3 hsz fun fr hfr=> ?_
 have hE:Rl X z vs (qca 0 svs) fr:=qgh hL fun j v hj=>by rw[Nat.zero_add];exact hfr j v (by simpa using hj)
 obtain ⟨zp,p0,p1,p2⟩:=GD.pre_ok (d:=d) (svs:=svs) hM
 have hb:=hB.pc f6 (qca 0 svs) (d.pre svs O) _ r p2 (hE.mono p1.le fun _ _ h=>h) h
 rw[show sub c d.pd.path=c from qbj c] at hb
 refine hb.mono ?_
 rintro ex fr1 m1 ⟨z1,vs1,E1,O1,h0,h1,h2,h3,h4,h5⟩
 obtain ⟨hr,h5⟩:=ite_some h5
 have hex:nrmE ex= .ret:=by
  revert hr
  cases nrmE ex<;>intro hr<;>first|rfl|cases hr
 split at h5
 ·rename_i sv hsv
  obtain ⟨k1,k2⟩:=qjb h4 hsv
  exact ⟨qn5 hex,_,by rw[f5];exact qm6 d.res,k2,z1,vs1,sv,O1,p0.trans h0,p1.trans h1,h2,h3,k1,h5⟩
 ·cases h5
theorem CallG.none {d:GD D} {F:d.pd.F} (h0:∀x,F x=none):CallG X d F:=by
 intro svs O ρ K r z e m k vs args hM hL h
 unfold GD.call at h
 obtain ⟨_,h⟩:=ite_some h
 unfold PD.run PD.runI at h
 split at h
 ·rw[h0] at h;cases h
 ·cases h
theorem CallG.base {q:ChQ D} {d:GD D} {F:d.pd.F} (h:CallG (X.ch q) d F):CallG X d F:=by
 intro svs O ρ K r z e m k vs args hM hL hc
 have hc:d.call (X.ch q) F svs O K=some r:=by
  unfold GD.call at hc⊢
  rw[qkw]
  exact hc
 exact h svs O K r args hM hL hc
structure GE (D:Nat→Type) where
 d:GD D
 F:d.pd.F
variable (X) in
def goG:List (GE D)→Nat→List (SV D)→List (Ob D)→{ρ:Type}→(SV D→List (Ob D)→Option ρ)→Option ρ
 |[],f,svs,O,_,K=>X.C f svs O K
 |x::l,f,svs,O,_,K=>if (Nat.beq x.d.f f&&x.d.fits X svs O)=true then x.d.call X x.F svs O K else goG l f svs O K
variable (X) in
def goGF:List (GE D)→Nat→List (SV D)→List (Ob D)→Bool
 |[],f,svs,O=>X.F f svs O
 |x::l,f,svs,O=>if (Nat.beq x.d.f f&&x.d.fits X svs O)=true then false else goGF l f svs O
variable (X) in
def goGW:List (GE D)→Nat→Bool
 |[],f=>X.W f
 |x::l,f=>Nat.beq x.d.f f||goGW l f
def Ev.gen (X:Ev P D) (l:List (GE D)):Ev P D:=X.ch ⟨goGF X l,X.U,goG X l,goGW X l⟩
theorem qpD (hC:COk X) {f:Nat} {svs:List (SV D)} {K:SV D→List (Ob D)→Option ρ} {r:ρ} {args:List Value} (hM:Mm X.G O z e m k vs) (hL:L2 (rel X.G z vs) svs args):∀{l:List (GE D)},(∀x∈l,CallG X x.d x.F)→goG X l f svs O K=some r→
  CallW P f args.toArray m fun v m'=>Nxt X O z e k vs K r v m'∧(goGF X l f svs O=true→m'=m)∧(goGW X l f=false→∃q,Chg m m' q∧TgtQ vs (qbr svs) q)
 |[],_,hc=>hC f svs O K r args hM hL hc
 |x::l,h,hc=>by
  unfold goG at hc
  unfold goGF goGW
  split at hc
  ·rename_i hx
   rw[if_pos hx]
   simp only[Bool.and_eq_true] at hx
   have:=Nat.eq_of_beq_eq_true hx.1
   subst this
   refine (h x List.mem_cons_self svs O K r args hM hL hc).mono fun v m' hn=>⟨hn,fun hh=>Bool.noConfusion hh,fun hh=> ?_⟩
   rw[hx.1] at hh
   cases hh
  ·rename_i hx
   rw[if_neg hx]
   refine (qpD hC hM hL (fun y hy=>h y (List.mem_cons_of_mem _ hy)) hc).mono fun v m' hn=>⟨hn.1,hn.2.1,fun hh=>hn.2.2 ?_⟩
   cases hb:goGW X l f with
   |false=>rfl
   |true=>rw[hb,Bool.or_true] at hh;cases hh
theorem COk.gen {l:List (GE D)} (hC:COk X) (h:∀x∈l,CallG X x.d x.F):COk (X.gen l):=by
 intro f svs O ρ K r z e m k vs args hM hL hc
 exact qpD (X:=X) hC hM hL h hc
theorem CallOk.ch {q:ChQ D} {d:FD D} {F:d.F} (h:CallOk (X.ch q) d F):CallOk X d F:=by
 intro svs O ρ K r z e m k vs args hM hL hc
 rw[←qcc q] at hc
 exact h svs O K r args hM hL hc
theorem CallOk.upg {l:List (GE D)} {d:FD D} {F:d.F} (h:CallOk X d F):CallOk (X.gen l) d F:=by
 intro svs O ρ K r z e m k vs args hM hL hc
 have hc:d.call (X.ch ⟨goGF X l,X.U,goG X l,goGW X l⟩) F svs O K=some r:=hc
 rw[qcc] at hc
 exact h svs O K r args hM hL hc
theorem CallG.up {q:ChQ D} {d:GD D} {F:d.pd.F} (h:CallG X d F):CallG (X.ch q) d F:=by
 intro svs O ρ K r z e m k vs args hM hL hc
 have hc:d.call X F svs O K=some r:=by
  unfold GD.call at hc⊢
  rw[qkw] at hc
  exact hc
 exact h svs O K r args hM hL hc
theorem COk.gen0 {fs:List (FE D)} {l:List (GE D)} (hC:COk (X.with fs)) (h:∀x∈l,CallG X x.d x.F):COk ((X.with fs).gen l):=COk.gen hC fun x hx=>(h x hx).up
theorem qqA:∀y∈([]:List (GE D)),CallG X y.d y.F:=by simp
theorem qnC {l:List (GE D)} {x:GE D} (h:CallG X x.d x.F) (hl:∀y∈l,CallG X y.d y.F):∀y∈x::l,CallG X y.d y.F:=by
 intro y hy
 rcases List.mem_cons.1 hy with rfl|hy
 ·exact h
 ·exact hl y hy
end
end
end Go.AM
end
section
set_option linter.unusedSimpArgs false
set_option linter.unusedVariables false
namespace Go.AM
open Go.ChangeMaps (setBlock)
theorem W.ext {P:Program} {a b:Code} {Q:AExit→(Nat→Value)→Mem→Prop} {fr fr':Nat→Value} {m m':Mem} {e:AExit} (h:ExtC P (.seq a b) fr m e fr' m') (hq:Q e fr' m'):W P (.seq a b) Q fr m:=⟨1,e,fr',m', .inr h,hq⟩
theorem Post.poke {P:Program} {j j':Emb} {m m':Mem} {w w' w'':World} {r:Nat} (h:Post P j m w j' m' w') (hr:w.heap.size≤r) (hs:w''.heap.size=w'.heap.size) (ho:w''.os=w'.os) (ht:w''.tape=w'.tape) (hp:w''.output=w'.output)
  (hb:∀c,c≠r→w''.heap[c]? =w'.heap[c]?) {rm:Nat} (hn:∀b e,j' b=some e→b≠rm→e.blk≠r) (hd:m'.blk rm= .dead):Post P j m w j' m' w'':=
 ⟨⟨fun b e hb'=>⟨(h.rel.lt b e hb').1,by rw[hs];exact (h.rel.lt b e hb').2⟩,fun b e hb'=>by
   by_cases hbr:b=rm
   ·rw[hbr,hd];trivial
   ·rw[hb _ (hn b e hb' hbr)];exact h.rel.obj b e hb',h.rel.inj⟩,
  ⟨ho.trans h.frm.os,ht.trans h.frm.tape,hp.trans h.frm.output,by rw[hs];exact h.frm.size,fun c hc hno=>by rw[hb c (by omega)];exact h.frm.block c hc hno⟩,h.next,h.ext,h.fresh,h.old,h.alive⟩
theorem Post.apart {P:Program} {j j':Emb} {m m':Mem} {w w':World} {r rm:Nat} (h:Post P j m w j' m' w') (hr:r<w.heap.size) (hn:∀b e,j b=some e→b≠rm→e.blk≠r) (hd:m.blk rm= .dead):∀b e,j' b=some e→b≠rm→e.blk≠r:=by
 intro b e hb hbr
 rcases Nat.lt_or_ge b m.next with hlt|hge
 ·exact hn b e (by rw[←h.ext b hlt];exact hb) hbr
 ·rcases h.fresh b e hb hge with hf|⟨b0,e0,h1,h2,h3⟩
  ·omega
  ·rw[←h3];exact hn b0 e0 h1 (fun hh=>by rw[hh,hd] at h2;cases h2)
theorem Post.dead {P:Program} {j j':Emb} {m m':Mem} {w w':World} {b:Nat} (h:Post P j m w j' m' w') (hb:b<m.next) (hd:m.blk b= .dead):m'.blk b= .dead:=by
 have:=h.alive b hb
 rw[hd] at this
 cases hx:m'.blk b with
 |dead=>rfl
 |_=>rw[hx] at this;exact absurd (this rfl) (by simp[Blk.live])
def rngC (i7:Nat) (O7:Array Oper) (bid i8:Nat) (O8:Array Oper) (s32 bid2 i9:Nat) (O9:Array Oper) (i10:Nat) (O10:Array Oper) (Dc:Code):Code:=
 .seq (.seq (.region i7 O7 false) (.block bid (.loop (.seq (.region i8 O8 false) (.seq (.cond (.tmp s32) .skip (.exit bid)) (.block bid2 (.seq (.region i9 O9 false) (.region i10 O10 false)))))))) Dc
def OpsAre:List Oper→List (Option Nat×Op)→Prop
 |[],[]=>True
 |o::os,p::ps=>(o.dst=p.1∧o.op=p.2∧o.guard=none)∧OpsAre os ps
 |_,_=>False
section
variable {P:Program} {ops:Array Oper} {Q:Exit→Act→World→Prop} {l:List Oper} {a:Act} {w w':World} {o:Oper} {v:Value}
theorem wpv (hg:o.guard=none) (hr:(execOp a.eval o).run P w= .ok (.value v) w') (h:wpList P ops Q l (a.put o.dst v) w'):wpList P ops Q (o::l) a w:=by
 unfold wpList
 rw[if_pos (by simp[Region.wanted,hg])]
 left
 unfold Oper.wp
 rw[hr]
 exact h
end
def tm (a:Act) (t:Nat):Value:=a.tmps.getD t undef
theorem qbz {a:Act} {d t:Nat} {v:Value} (hd:d<a.tmps.size):tm (a.put (some d) v) t=if t=d then v else tm a t:=qgK hd
theorem qb6 {a:Act} {d:Nat} {v:Value} (hd:d<a.tmps.size):tm (a.put (some d) v) d=v:=by rw[qbz hd,if_pos rfl]
theorem qfc {a:Act} {d t:Nat} {v:Value} (hd:d<a.tmps.size) (h:t≠d):tm (a.put (some d) v) t=tm a t:=by rw[qbz hd,if_neg h]
def nb (v:Value):Prop:=∀b,v≠ .bool b
structure RO (mt:TypeId) (O7 O8 O9:Array Oper):Prop where
 h7:OpsAre O7.toList [(some 29, .move (.tmp 8)),(some 30, .range mt (.tmp 29))]
 h8:OpsAre O8.toList [(some 31, .next (.tmp 30) false),(some 32, .extract (.tmp 31) 0)]
 h9:OpsAre O9.toList [(some 33, .entry (.tmp 30)),(some 34, .extract (.tmp 33) 0),(some 35, .extract (.tmp 33) 1),(some 9, .assign (.tmp 34)),(some 10, .assign (.tmp 35))]
def wsB (t:Nat):Bool:=(Nat.ble 29 t&&Nat.ble t 41)||(Nat.beq t 6||(Nat.beq t 9||Nat.beq t 10))
def lbB (t:Nat):Bool:=Nat.beq t 31||((Nat.ble 33 t&&Nat.ble t 41)||(Nat.beq t 9||Nat.beq t 10))
theorem OpsAre.nil {l:List Oper} (h:OpsAre l []):l=[]:=by
 cases l with
 |nil=>rfl
 |cons _ _=>exact h.elim
theorem OpsAre.cons {l:List Oper} {p:Option Nat×Op} {ps:List (Option Nat×Op)} (h:OpsAre l (p::ps)):∃o os,l=o::os∧o.dst=p.1∧o.op=p.2∧o.guard=none∧OpsAre os ps:=by
 cases l with
 |nil=>exact h.elim
 |cons o os=>exact ⟨o,os,rfl,h.1.1,h.1.2.1,h.1.2.2,h.2⟩
section
variable {P:Program} {a:Act} {w:World} {o:Oper}
theorem qkv {x:Operand} (h:o.op= .move x):(execOp a.eval o).run P w= .ok (.value (a.eval x)) w:=by simp[execOp,h]
theorem qfM {x:Operand} (h:o.op= .assign x):(execOp a.eval o).run P w= .ok (.value (a.eval x)) w:=by simp[execOp,h]
theorem qbx {x:Operand} {i:Nat} {vs:Array Value} {v:Value} (h:o.op= .extract x i) (hx:a.eval x= .tuple vs) (hv:vs[i]? =some v):(execOp a.eval o).run P w= .ok (.value v) w:=by
 simp[execOp,h,hx,Instr.extract,hv]
theorem qaP {t:Nat}:a.eval (.tmp t)=tm a t:=rfl
end
noncomputable section
section
variable {P:Program} {D:Nat→Type} {X:Ev P D}
def nbS (O:List (Ob D)):SV D→Bool
 | .c (.int _ _)| .c (.str _)| .c .nilS| .c (.sl _ _)| .agg _ _| .box _ _| .undef| .tup _=>true
 | .c (.own i)=>Nat.beq i 0||(match O[i]? with|some (.sl _ _ false _)=>true|_=>false)
 |_=>false
def getR (e:Nat) (E:List (Nat×SV D)) (O:List (Ob D)):Option (List (D e)):=
 if ([36,37,38,39,40,41].all fun t=>nbS O (lkE E t))=true then
  match lkE E 6 with
  | .c (.own j)=>(match O[j]? with|some (.sl e' xs false _)=>if h:e'=e then some (h▸xs) else none|_=>none)
  |_=>none
 else none
theorem qgB {x:Option Addr} {l c:Nat}:nb (.slice x l c):=fun b h=>by cases h
theorem qpM {O:List (Ob D)} {z:Nat→Blk} {e m:Mem} {k:Option Nat} {vs:List Value} {s:SV D} {v:Value} (hM:Mm X.G O z e m k vs) (h0:∀u,vs[0]? =some u→nb u) (hs:nbS O s=true) (h:rel X.G z vs s v):nb v:=by
 unfold nbS at hs
 split at hs
 ·intro b hb;rw[show v=_ from h] at hb;cases hb
 ·intro b hb;rw[show v=_ from h] at hb;cases hb
 ·intro b hb;rw[show v=_ from h] at hb;cases hb
 ·obtain ⟨a,c,hv⟩:=SlR.len h
  intro b hb;rw[hv] at hb;cases hb
 ·obtain ⟨ds,hv,_⟩:=h
  intro b hb;rw[hv] at hb;cases hb
 ·obtain ⟨b0,_,hv⟩:=h
  intro b hb;rw[hv] at hb;cases hb
 ·intro b hb;rw[show v=_ from h] at hb;cases hb
 ·obtain ⟨ds,hv,_⟩:=h
  intro b hb;rw[hv] at hb;cases hb
 ·rename_i i
  simp only[Bool.or_eq_true] at hs
  rcases hs with hs|hs
  ·have:=Nat.eq_of_beq_eq_true hs
   subst this
   exact h0 v h.1
  ·split at hs
   ·rename_i e1 xs w ho
    have hob:=hM.obj i _ v ho h.1
    obtain ⟨a,c,hv⟩:=(show OwF _ z e m k xs v from hob).ow.len
    intro b hb;rw[hv] at hb;cases hb
   ·cases hs
 ·cases hs
theorem qlr {j:Emb} {v cv:Value} (h:VR j v cv) (hv:nb v):nb cv:=qfo h hv
def any:Value:= .chan none
theorem qb8 {j:Emb} {cv:Value} (h:nb cv):VR j any cv:=h
variable (P X)
structure LV (e kt vt:Nat) where
 app:D kt→D vt→D e
 sk:D kt→SV D
 sv:D vt→SV D
 kV:D kt→Value
 vV:D vt→Value
 hk:∀z vs a,rel X.G z vs (sk a) (kV a)
 hv:∀z vs a,rel X.G z vs (sv a) (vV a)
 nk:∀a,nb (kV a)
 nv:∀a,nb (vV a)
 fk:∀a,flat (kV a)=true
 fv:∀a,flat (vV a)=true
variable {P X}
def lft (bm r:Nat) (w:World):Nat:=
 match w.heap[bm]?,w.heap[r]? with
 |some (.map es _),some (.mapIter _ _ seen _)=>(leftOf es seen).size
 |_,_=>0
structure LB (P:Program) (D:Nat→Type) (X:Ev P D) (e kt vt:Nat) where
 V:LV P X e kt vt
 N:Nat
 j0:Emb
 m0:Mem
 w0:World
 fr0:Nat→Value
 z0:Nat→Blk
 em:Mem
 k:Option Nat
 xs:List (D e)
 cs:Array MapEntry
 clk:Nat
 bm:Nat
 r:Nat
 rm:Nat
structure LBok {e kt vt:Nat} (B:LB P D X e kt vt):Prop where
 rm:B.rm<B.m0.next
 dead:B.m0.blk B.rm= .dead
 emb:B.j0 B.rm=some ⟨B.r,0,0,0⟩
 r:B.w0.heap.size≤B.r
 bm:B.w0.heap[B.bm]? =some (.map B.cs B.clk)
 bmr:B.bm<B.w0.heap.size
 free:∀b q,B.j0 b=some q→(B.m0.blk b).isOwn=true→q.blk≠B.bm
 st:qeC B.cs B.clk
 es:∀x∈B.cs.toList,∃p:D kt×D vt,x.key=B.V.kV p.1∧x.val=B.V.vV p.2
 len:B.xs.length+B.cs.size≤LIM
structure LI {e kt vt:Nat} (B:LB P D X e kt vt) (a:Act) (w:World) (qs:List MapEntry) (ps:List (D kt×D vt)) (v6:Value) (mk:Mem) (jk:Emb) (zk:Nat→Blk) (wf:Bool):Prop where
 post:Post P B.j0 B.m0 B.w0 jk mk w
 wf_:WF mk
 mm:Mm X.G [.sl e (B.xs++ps.map fun p=>B.V.app p.1 p.2) false wf] zk B.em mk B.k [v6]
 zx:Zx B.em.next B.z0 zk
 rel:L2 (fun (p:D kt×D vt) (x:MapEntry)=>x.key=B.V.kV p.1∧x.val=B.V.vV p.2) ps qs
 far:∀b q,jk b=some q→b≠B.rm→q.blk≠B.r
 mem:∀x∈qs,x∈B.cs.toList
 nd:(qs.map (·.born)).Nodup
 defers:a.defers=[]
 size:a.tmps.size=B.N
 v6:VR jk v6 (tm a 6)
 v29:nb (tm a 29)
 v30:tm a 30= .pointer (some ⟨B.r,0,none⟩)
 off:∀t,wsB t=false→VR jk (B.fr0 t) (tm a t)
 on:∀t,lbB t=true→(qs=[]→VR jk (B.fr0 t) (tm a t))∧(qs≠[]→nb (tm a t))
def qjO {e kt vt:Nat} (B:LB P D X e kt vt) (w:World) (qs:List MapEntry):Prop:=∃c0,w.heap[B.r]? =some (.mapIter (some B.bm) B.clk (qs.map (·.born)).toArray c0)∧B.clk≤c0
theorem LI.map {e kt vt:Nat} {B:LB P D X e kt vt} (hB:LBok B) {a:Act} {w:World} {qs:List MapEntry} {ps:List (D kt×D vt)} {v6:Value} {mk:Mem} {jk:Emb} {zk:Nat→Blk} {wf:Bool} (h:LI B a w qs ps v6 mk jk zk wf):w.heap[B.bm]? =some (.map B.cs B.clk):=by
 rw[h.post.frm.block B.bm hB.bmr hB.free];exact hB.bm
theorem qnF {l:List MapEntry} (h:(l.map (·.born)).Nodup) {x y:MapEntry} (hx:x∈l) (hy:y∈l) (he:x.born=y.born):x=y:=by
 have h1:=find_born x l h hx
 have h2:=find_born y l h hy
 rw[he] at h1
 rw[h1] at h2
 exact Option.some.inj h2
theorem qh8 {α:Type} [DecidableEq α]:∀{l m:List α},l.Nodup→(∀x∈l,x∈m)→l.length≤m.length
 |[],_,_,_=>Nat.zero_le _
 |a::l,m,hn,hs=>by
  have ha:=hs a List.mem_cons_self
  obtain ⟨h1,h2⟩:=List.nodup_cons.1 hn
  have:=qh8 (m:=m.erase a) h2 fun x hx=>(List.mem_erase_of_ne (fun (he:x=a)=>h1 (by rw[←he];exact hx))).2 (hs x (List.mem_cons_of_mem _ hx))
  rw[List.length_erase_of_mem ha] at this
  have hp:0<m.length:=List.length_pos_of_mem ha
  simp only[List.length_cons];omega
theorem qqC {e:Nat} {E:List (Nat×SV D)} {O:List (Ob D)} {ys:List (D e)} (h:getR e E O=some ys):(∀t,36≤t→t≤41→nbS O (lkE E t)=true)∧∃j wf,lkE E 6= .c (.own j)∧O[j]? =some (.sl e ys false wf):=by
 unfold getR at h
 obtain ⟨h1,h⟩:=ite_some h
 refine ⟨fun t ha hb=> ?_, ?_⟩
 ·have h2:=List.all_eq_true.1 h1
  refine h2 t ?_
  simp only[List.mem_cons,List.not_mem_nil,or_false];omega
 ·split at h
  ·rename_i j hj
   split at h
   ·rename_i e' xs wf ho
    split at h
    ·rename_i he
     subst he
     cases h
     exact ⟨j,wf,hj,ho⟩
    ·cases h
   ·cases h
  ·cases h
theorem L2.snoc {α β:Type} {R:α→β→Prop}:∀{l:List α} {k:List β} {a:α} {b:β},L2 R l k→R a b→L2 R (l++[a]) (k++[b])
 |[],[],_,_,_,h=>⟨h,trivial⟩
 |[],_::_,_,_,h,_=>h.elim
 |_::_,[],_,_,h,_=>h.elim
 |_::_,_::_,_,_,⟨h1,h2⟩,h=>⟨h1,L2.snoc h2 h⟩
theorem qsz {O:List (Ob D)} {z:Nat→Blk} {e:Mem} {m:Mem} {k:Option Nat} {vs:List Value} {j ee:Nat} {xs:List (D ee)} {wf:Bool} {v:Value} (hM:Mm X.G O z e m k vs) (ho:O[j]? =some (.sl ee xs false wf)) (hv:vs[j]? =some v):Mm X.G [.sl ee xs false wf] z e m k [v]:=by
 refine ⟨hM.st,rfl,fun i o u hi hu=> ?_,fun i i' o p u u' hne hi hi' _ _ _ _=> ?_⟩
 ·cases i with
  |zero=>
   cases hi;cases hu
   exact hM.obj j _ v ho hv
  |succ i=>cases hi
 ·cases i with
  |zero=>cases i' with
   |zero=>exact absurd rfl hne
   |succ i'=>cases hi'
  |succ i=>cases hi
structure FinL {e kt vt:Nat} (B:LB P D X e kt vt) (a:Act) (w:World):Prop where
 out:∃qs ps v6 mk jk zk wf,LI B {a with tmps:=a.tmps} w qs ps v6 mk jk zk wf∧(∀x∈B.cs.toList,x∈qs)
 v31:nb (tm a 31)
 v32:tm a 32= .bool false
theorem qxb {e kt vt:Nat} {B:LB P D X e kt vt} (hB:LBok B) (hC:COk X) (hmix:P.follows .mixedOrders=true) {mt:TypeId} {O7 O8 O9 O10:Array Oper} {bid bid2 i8 i9 i10:Nat} (hro:RO mt O7 O8 O9) (hN:44<B.N)
  (ok10:∀o∈O10.toList,(∀x∈o.op.operands,okX x=true)∧∀d,o.dst=some d→d<B.N)
  (hw10:∀t,wsB t=false∨t=29∨t=30∨t=31∨t=32∨t=33∨t=34∨t=35∨t=9∨t=10→(dsts O10).contains t=false)
  (hb:∀a b ys wf,ys.length<LIM→runL X O10.toList O10.toList [(6, .c (.own 0)),(9,B.V.sk a),(10,B.V.sv b)] [.sl e ys false wf] (getR e)=some (ys++[B.V.app a b]))
  {a:Act} {w:World} {qs:List MapEntry} {ps:List (D kt×D vt)} {v6:Value} {mk:Mem} {jk:Emb} {zk:Nat→Blk} {wf:Bool} (h:LI B a w qs ps v6 mk jk zk wf) (hi:qjO B w qs)
  {R:Act→World→Prop} {Q:Exit→Act→World→Prop}
  (hgo:∀a' w' qs' ps' v6' mk' jk' zk' wf',LI B a' w' qs' ps' v6' mk' jk' zk' wf'→qjO B w' qs'→qs'≠[]→lft B.bm B.r w'<lft B.bm B.r w→R a' w')
  (hend:∀a',(∀t,t≠31→t≠32→tm a' t=tm a t)→nb (tm a' 31)→tm a' 32= .bool false→a'.defers=[]→a'.tmps.size=B.N→(∀x∈B.cs.toList,x∈qs)→Q .normal a' w):
  (Code.seq (.region i8 O8 false) (.seq (.cond (.tmp 32) .skip (.exit bid)) (.block bid2 (.seq (.region i9 O9 false) (.region i10 O10 false))))).wp P (Exit.then R (Exit.inBlock bid Q)) a w:=by
 obtain ⟨c0,hit,hc0⟩:=hi
 have hmap:=h.map hB
 have hold:∀x∈B.cs.toList,x.born<B.clk:=hB.st.2
 obtain ⟨o1,l1,e1,d1,p1,g1,t1⟩:=hro.h8.cons
 obtain ⟨o2,l2,e2,d2,p2,g2,t2⟩:=t1.cons
 have e3:=t2.nil
 subst e3 e2
 dsimp only at d1 p1 d2 p2
 have hs31:(31:Nat)<a.tmps.size:=by rw[h.size];omega
 have seen_mem:∀{x:MapEntry},x∈B.cs.toList→(qs.map (·.born)).toArray.contains x.born=true→x∈qs:=by
  intro x hx hc
  have:x.born∈qs.map (·.born):=by simpa using hc
  obtain ⟨y,hy,he⟩:=List.mem_map.1 this
  have:=qnF hB.st.1 (h.mem y hy) hx he
  rw[←this];exact hy
 refine wp_seq (wp_region_list ?_)
 rw[e1]
 rcases run_next_at (P:=P) w o1.type B.r B.bm B.clk c0 _ B.cs B.clk hit hmap hold hc0 with ⟨hz,hrun⟩|⟨x,hx,w1,hal,hrun⟩
 ·refine wpv g1 (v:= .tuple #[.bool false]) (w':=w) (by simp[execOp,p1,qaP,h.v30,hrun]) ?_
  rw[d1]
  have hs32:(32:Nat)<(a.put (some 31) (.tuple #[.bool false])).tmps.size:=by rw[qai.1,h.size];omega
  refine wpv g2 (qbx (vs:=#[.bool false]) (v:= .bool false) p2 (by rw[qaP,qb6 hs31]) rfl) ?_
  rw[d2]
  refine wpList_nil ?_
  refine wp_seq (wp_cond_false (by rw[show Act.eval _ (.tmp 32)=tm _ 32 from rfl,qb6 hs32]) (wp_exit ?_))
  simp only[Exit.then,Exit.inBlock,if_true]
  refine hend _ (fun t h1 h2=>by rw[qfc hs32 h2,qfc hs31 h1]) ?_ (qb6 hs32) (by rw[qai.2,qai.2];exact h.defers) (by rw[qai.1,qai.1];exact h.size) fun x hx=>seen_mem hx (all_seen _ _ hz x hx)
  rw[qfc hs32 (by omega),qb6 hs31]
  intro b hb;cases hb
 ·obtain ⟨hxc,hxs⟩:=mem_left hx
  obtain ⟨⟨ka,vb⟩,hkx,hvx⟩:=hB.es x hxc
  dsimp only at hkx hvx
  obtain ⟨w2,hw2⟩:∃w2,w2=setBlock w1 B.r (.mapIter (some B.bm) B.clk ((qs.map (·.born)).toArray.push x.born) B.clk):=⟨_,rfl⟩
  rw[←hw2] at hrun
  have hrlt:B.r<w.heap.size:=by
   rcases Nat.lt_or_ge B.r w.heap.size with hh|hh
   ·exact hh
   ·rw[Array.getElem?_eq_none hh] at hit;cases hit
  have hw1:w1.heap=w.heap∧w1.os=w.os∧w1.tape=w.tape∧w1.output=w.output:=by rcases hal with rfl|rfl<;>exact ⟨rfl,rfl,rfl,rfl⟩
  have q1:w2.heap.size=w.heap.size:=by rw[hw2];simp[setBlock,hw1.1]
  have q2:w2.os=w.os∧w2.tape=w.tape∧w2.output=w.output:=by rw[hw2];exact ⟨hw1.2.1,hw1.2.2.1,hw1.2.2.2⟩
  have q3:∀c,c≠B.r→w2.heap[c]? =w.heap[c]? :=fun c hc=>by rw[hw2];simp[setBlock,hw1.1,Array.getElem?_setIfInBounds,Ne.symm hc]
  have q4:w2.heap[B.r]? =some (.mapIter (some B.bm) B.clk ((qs.map (·.born)).toArray.push x.born) B.clk):=by rw[hw2];simp[setBlock,hw1.1,hrlt]
  have hmk:mk.blk B.rm= .dead:=h.post.dead hB.rm hB.dead
  have hP2:Post P B.j0 B.m0 B.w0 jk mk w2:=h.post.poke hB.r q1 q2.1 q2.2.1 q2.2.2 q3 h.far hmk
  have hjr:jk B.rm=some ⟨B.r,0,0,0⟩:=by rw[h.post.ext _ hB.rm];exact hB.emb
  have hmap2:w2.heap[B.bm]? =some (.map B.cs B.clk):=by
   rw[q3 _ (by have:=hB.bmr;have:=hB.r;omega)];exact hmap
  have hnq:x∉qs:=fun hh=>by
   have:(qs.map (·.born)).toArray.contains x.born=true:=by simpa using ⟨x,hh,rfl⟩
   rw[this] at hxs;cases hxs
  refine wpv g1 (v:= .tuple #[.bool true,x.key,x.val]) (w':=w2) (by simp[execOp,p1,qaP,h.v30,hrun]) ?_
  rw[d1]
  obtain ⟨a1,ha1⟩:∃a1,a1=a.put (some 31) (.tuple #[.bool true,x.key,x.val]):=⟨_,rfl⟩
  have z1:a1.tmps.size=B.N∧a1.defers=[]:=by rw[ha1,qai.1,qai.2];exact ⟨h.size,h.defers⟩
  have y1:∀t,tm a1 t=if t=31 then .tuple #[.bool true,x.key,x.val] else tm a t:=fun t=>by rw[ha1];exact qbz hs31
  rw[←ha1]
  refine wpv g2 (w':=w2) (qbx (vs:=#[.bool true,x.key,x.val]) (v:= .bool true) p2 (by rw[qaP,y1,if_pos rfl]) rfl) ?_
  rw[d2]
  obtain ⟨a2,ha2⟩:∃a2,a2=a1.put (some 32) (.bool true):=⟨_,rfl⟩
  have z2:a2.tmps.size=B.N∧a2.defers=[]:=by rw[ha2,qai.1,qai.2];exact z1
  have y2:∀t,tm a2 t=if t=32 then .bool true else tm a1 t:=fun t=>by rw[ha2];exact qbz (by rw[z1.1];omega)
  rw[←ha2]
  refine wpList_nil ?_
  refine wp_seq (wp_cond_true (by rw[show Act.eval _ (.tmp 32)=tm _ 32 from rfl,y2,if_pos rfl]) (wp_skip ?_))
  refine wp_block (wp_seq (wp_region_list ?_))
  obtain ⟨o3,l3,e3,d3,p3,g3,t3⟩:=hro.h9.cons
  obtain ⟨o4,l4,e4,d4,p4,g4,t4⟩:=t3.cons
  obtain ⟨o5,l5,e5,d5,p5,g5,t5⟩:=t4.cons
  obtain ⟨o6,l6,e6,d6,p6,g6,t6⟩:=t5.cons
  obtain ⟨o7,l7,e7,d7,p7,g7,t7⟩:=t6.cons
  have e8:=t7.nil
  subst e8 e7 e6 e5 e4
  dsimp only at d3 p3 d4 p4 d5 p5 d6 p6 d7 p7
  rw[e3]
  refine wpv g3 (v:= .tuple #[x.key,x.val]) (w':=w2) (by simp[execOp,p3,qaP,y2,y1,h.v30,run_entry_at w2 B.r B.bm B.clk _ B.cs B.clk x q4 hmap2 hxc hB.st.1]) ?_
  rw[d3]
  obtain ⟨a3,ha3⟩:∃a3,a3=a2.put (some 33) (.tuple #[x.key,x.val]):=⟨_,rfl⟩
  have z3:a3.tmps.size=B.N∧a3.defers=[]:=by rw[ha3,qai.1,qai.2];exact z2
  have y3:∀t,tm a3 t=if t=33 then .tuple #[x.key,x.val] else tm a2 t:=fun t=>by rw[ha3];exact qbz (by rw[z2.1];omega)
  rw[←ha3]
  refine wpv g4 (w':=w2) (qbx (vs:=#[x.key,x.val]) (v:=x.key) p4 (by rw[qaP,y3,if_pos rfl]) rfl) ?_
  rw[d4]
  obtain ⟨a4,ha4⟩:∃a4,a4=a3.put (some 34) x.key:=⟨_,rfl⟩
  have z4:a4.tmps.size=B.N∧a4.defers=[]:=by rw[ha4,qai.1,qai.2];exact z3
  have y4:∀t,tm a4 t=if t=34 then x.key else tm a3 t:=fun t=>by rw[ha4];exact qbz (by rw[z3.1];omega)
  rw[←ha4]
  refine wpv g5 (w':=w2) (qbx (vs:=#[x.key,x.val]) (v:=x.val) p5 (by rw[qaP,y4,if_neg (by omega),y3,if_pos rfl]) rfl) ?_
  rw[d5]
  obtain ⟨a5,ha5⟩:∃a5,a5=a4.put (some 35) x.val:=⟨_,rfl⟩
  have z5:a5.tmps.size=B.N∧a5.defers=[]:=by rw[ha5,qai.1,qai.2];exact z4
  have y5:∀t,tm a5 t=if t=35 then x.val else tm a4 t:=fun t=>by rw[ha5];exact qbz (by rw[z4.1];omega)
  rw[←ha5]
  refine wpv g6 (w':=w2) (v:=x.key) (by rw[qfM p6,qaP,y5,if_neg (by omega),y4,if_pos rfl]) ?_
  rw[d6]
  obtain ⟨a6,ha6⟩:∃a6,a6=a5.put (some 9) x.key:=⟨_,rfl⟩
  have z6:a6.tmps.size=B.N∧a6.defers=[]:=by rw[ha6,qai.1,qai.2];exact z5
  have y6:∀t,tm a6 t=if t=9 then x.key else tm a5 t:=fun t=>by rw[ha6];exact qbz (by rw[z5.1];omega)
  rw[←ha6]
  refine wpv g7 (w':=w2) (v:=x.val) (by rw[qfM p7,qaP,y6,if_neg (by omega),y5,if_pos rfl]) ?_
  rw[d7]
  obtain ⟨a7,ha7⟩:∃a7,a7=a6.put (some 10) x.val:=⟨_,rfl⟩
  have z7:a7.tmps.size=B.N∧a7.defers=[]:=by rw[ha7,qai.1,qai.2];exact z6
  have y7:∀t,tm a7 t=if t=10 then x.val else tm a6 t:=fun t=>by rw[ha7];exact qbz (by rw[z6.1];omega)
  rw[←ha7]
  refine wpList_nil ?_
  show (Code.region i10 O10 false).wp P _ a7 w2
  let fr:Nat→Value:=fun t=>if t=6 then v6 else if t=9 then B.V.kV ka else if t=10 then B.V.vV vb else if t=30 then .pointer (some ⟨B.rm,0,none⟩) else if t=32 then .bool true else
   if wsB t=true then (if qs.isEmpty=true∧36≤t then B.fr0 t else any) else B.fr0 t
  have hF:FR jk B.N fr a7:=by
   refine ⟨fun t=> ?_,z7.2,z7.1⟩
   show VR jk (fr t) (tm a7 t)
   simp only[fr,y7,y6,y5,y4,y3,y2,y1]
   by_cases h6:t=6
   ·subst h6;simpa using h.v6
   by_cases h9:t=9
   ·subst h9;simp only[hkx];exact qde (B.V.fk ka)
   by_cases h10:t=10
   ·subst h10;simp only[hvx];exact qde (B.V.fv vb)
   by_cases h30:t=30
   ·subst h30
    simp only[h.v30]
    exact ⟨⟨B.r,0,0,0⟩,rfl,hjr,rfl⟩
   by_cases h32:t=32
   ·subst h32;exact rfl
   rw[if_neg h6,if_neg h9,if_neg h10,if_neg h30,if_neg h32,if_neg h10,if_neg h9]
   by_cases hw:wsB t=true
   ·rw[if_pos hw]
    by_cases h35:t=35
    ·subst h35
     rw[if_neg (by omega),if_pos rfl]
     exact qb8 (by rw[hvx];exact B.V.nv vb)
    by_cases h34:t=34
    ·subst h34
     rw[if_neg (by omega),if_neg (by omega),if_pos rfl]
     exact qb8 (by rw[hkx];exact B.V.nk ka)
    by_cases h33:t=33
    ·subst h33
     rw[if_neg (by omega),if_neg (by omega),if_neg (by omega),if_pos rfl]
     exact qb8 (fun b hb=>by cases hb)
    by_cases h31:t=31
    ·subst h31
     rw[if_neg (by omega)]
     simp only[if_neg h35,if_neg h34,if_neg h33,if_neg h32,if_pos rfl]
     exact qb8 (fun b hb=>by cases hb)
    by_cases h29:t=29
    ·subst h29
     rw[if_neg (by omega)]
     simp only[if_neg h35,if_neg h34,if_neg h33,if_neg h32,if_neg h31]
     exact qb8 h.v29
    have h36:36≤t:=by
     simp only[wsB,Bool.or_eq_true,Bool.and_eq_true,Nat.ble_eq,Nat.beq_eq] at hw
     omega
    have hl:lbB t=true:=by
     simp only[wsB,lbB,Bool.or_eq_true,Bool.and_eq_true,Nat.ble_eq,Nat.beq_eq] at hw⊢
     omega
    rw[if_neg h35,if_neg h34,if_neg h33,if_neg h32,if_neg h31]
    by_cases hq:qs=[]
    ·rw[if_pos ⟨by rw[hq];rfl,h36⟩]
     exact (h.on t hl).1 hq
    ·rw[if_neg (fun hh=>hq (by simpa using hh.1))]
     exact qb8 ((h.on t hl).2 hq)
   ·have hw':wsB t=false:=by simpa using hw
    have hne:t≠35∧t≠34∧t≠33∧t≠31:=by
     refine ⟨?_, ?_, ?_, ?_⟩<;>(rintro rfl;exact absurd hw' (by decide))
    rw[if_neg hw,if_neg hne.1,if_neg hne.2.1,if_neg hne.2.2.1,if_neg h32,if_neg hne.2.2.2]
    exact h.off t hw'
  have hps:ps.length=qs.length:=h.rel.length
  have hnd:((qs++[x]).map (·.born)).Nodup:=by
   rw[List.map_append,List.nodup_append]
   refine ⟨h.nd,by simp,fun p hp q hq=> ?_⟩
   simp only[List.map_cons,List.map_nil,List.mem_singleton] at hq
   subst hq
   intro he
   subst he
   have:(qs.map (·.born)).toArray.contains x.born=true:=by simpa using hp
   rw[this] at hxs;cases hxs
  have hmem:∀y∈qs++[x],y∈B.cs.toList:=fun y hy=>by
   rcases List.mem_append.1 hy with hy|hy
   ·exact h.mem y hy
   ·rw[List.mem_singleton.1 hy];exact hxc
  have hlt:(qs++[x]).length≤B.cs.size:=by
   have:=qh8 (m:=B.cs.toList.map (·.born)) hnd fun p hp=>by
    obtain ⟨y,hy,rfl⟩:=List.mem_map.1 hp
    exact List.mem_map.2 ⟨y,hmem y hy,rfl⟩
   simpa using this
  have hlen:(B.xs++ps.map fun p=>B.V.app p.1 p.2).length<LIM:=by
   have:=hB.len
   simp only[List.length_append,List.length_map,List.length_cons,List.length_nil] at hlt⊢
   omega
  obtain ⟨al,cl,hsl⟩:=(show OwF (X.G.T e) zk B.em mk B.k _ v6 from h.mm.obj 0 _ v6 rfl rfl).ow.len
  have hRl:Rl X zk [v6] [(6, .c (.own 0)),(9,B.V.sk ka),(10,B.V.sv vb)] fr:=by
   intro d
   simp only[lkE]
   split
   ·rename_i hd
    have:=Nat.eq_of_beq_eq_true hd
    subst this
    exact ⟨rfl,by rw[show fr 6=v6 from rfl,hsl];exact ⟨rfl,rfl⟩⟩
   ·split
    ·rename_i hd
     have:=Nat.eq_of_beq_eq_true hd
     subst this
     exact B.V.hk _ _ _
    ·split
     ·rename_i hd
      have:=Nat.eq_of_beq_eq_true hd
      subst this
      exact B.V.hv _ _ _
     ·trivial
  obtain ⟨n,fr',m',hseq,hnx⟩:=qdW hC h.mm hRl (hb ka vb _ wf hlen)
  obtain ⟨hCk,hSk⟩:=qbW hmix n
  obtain ⟨hW', -, -⟩:=qgR hCk O10.toList fr fr' mk m' (fun o ho=>(ok10 o ho).1) hseq h.wf_ (hF.low hP2.rel)
  refine wp_region_list (qdA hCk hSk (fun o ho=>(ok10 o ho).2) O10.toList fr fr' mk m' jk a7 w2 ok10 hseq hP2.rel h.wf_ hF fun a' w' j' hp hF'=> ?_)
  obtain ⟨z',vs',E',O',hin,hzx,hvs,hM',hRl',hK⟩:=hnx
  obtain ⟨hnb,j,wf',hE6,hO6⟩:=qqC hK
  have h6:=hRl' 6
  rw[hE6] at h6
  have hup:∀b q,jk b=some q→j' b=some q:=fun b q hb=>by rw[hp.ext b (hP2.rel.lt b q hb).1];exact hb
  have hP3:=hP2.trans hp
  have hv0:∀u,vs'[0]? =some u→nb u:=fun u hu=>by
   have:=hvs 0 v6 rfl
   rw[this] at hu
   cases hu
   rw[hsl];exact qgB
  have hfa:∀t,t=29∨t=31∨t=33∨t=34∨t=35→fr t=any:=fun t ht=>by rcases ht with rfl|rfl|rfl|rfl|rfl<;>simp[fr,wsB]
  have keep:∀t,(dsts O10).contains t=false→fr' t=fr t:=fun t ht=>qdz _ _ _ _ _ (qiN ht) hseq
  have hiter:w'.heap[B.r]? =some (.mapIter (some B.bm) B.clk ((qs.map (·.born)).toArray.push x.born) B.clk):=by
   rw[hp.frm.block B.r (by rw[q1];exact hrlt) fun b q hb ho=>h.far b q hb fun hh=>by rw[hh,hmk] at ho;cases ho]
   exact q4
  have hpush:(qs.map (·.born)).toArray.push x.born=((qs++[x]).map (·.born)).toArray:=by simp
  have hmap3:w'.heap[B.bm]? =some (.map B.cs B.clk):=by rw[hP3.frm.block B.bm hB.bmr hB.free];exact hB.bm
  refine hgo a' w' (qs++[x]) (ps++[(ka,vb)]) (fr' 6) m' j' z' wf' ⟨hP3,hW', ?_,h.zx.trans hzx,h.rel.snoc ⟨hkx,hvx⟩,hp.apart (by rw[q1];exact hrlt) h.far hmk,hmem,hnd,hF'.defers,hF'.size,hF'.val 6, ?_, ?_,fun t ht=> ?_,fun t ht=>⟨fun hq=>absurd hq (by simp),fun _=> ?_⟩⟩ ⟨B.clk,by rw[←hpush];exact hiter,Nat.le_refl _⟩ (by simp) ?_
  ·have:=qsz hM' hO6 h6.1
   rw[List.map_append,←List.append_assoc]
   exact this
  ·have h29:=hF'.val 29
   rw[keep 29 (hw10 29 (by simp)),hfa 29 (by simp)] at h29
   exact h29
  ·have h30:=hF'.val 30
   rw[keep 30 (hw10 30 (by simp))] at h30
   obtain ⟨q,_,hq,hc⟩:=(show VR j' (.pointer (some ⟨B.rm,0,none⟩)) (tm a' 30) from h30).ptr
   rw[show j' B.rm=_ from hup _ _ hjr] at hq
   cases hq
   exact hc
  ·have h1:=hF'.val t
   rw[keep t (hw10 t (.inl ht))] at h1
   have hw:¬wsB t=true:=by rw[ht];simp
   have hne:t≠6∧t≠9∧t≠10∧t≠30∧t≠32:=by refine ⟨?_, ?_, ?_, ?_, ?_⟩<;>(rintro rfl;exact absurd ht (by decide))
   simp only[fr,if_neg hne.1,if_neg hne.2.1,if_neg hne.2.2.1,if_neg hne.2.2.2.1,if_neg hne.2.2.2.2,if_neg hw] at h1
   exact h1
  ·have h1:=hF'.val t
   by_cases h36:36≤t∧t≤41
   ·exact qlr h1 (qpM hM' hv0 (hnb t h36.1 h36.2) (hRl' t))
   ·have ht':t=31∨t=33∨t=34∨t=35∨t=9∨t=10:=by
     simp only[lbB,Bool.or_eq_true,Bool.and_eq_true,Nat.ble_eq,Nat.beq_eq] at ht
     omega
    rw[keep t (hw10 t (by omega))] at h1
    rcases ht' with rfl|rfl|rfl|rfl|rfl|rfl
    ·rw[hfa 31 (by simp)] at h1;exact h1
    ·rw[hfa 33 (by simp)] at h1;exact h1
    ·rw[hfa 34 (by simp)] at h1;exact h1
    ·rw[hfa 35 (by simp)] at h1;exact h1
    ·exact qlr h1 (B.V.nk ka)
    ·exact qlr h1 (B.V.nv vb)
  ·simp only[lft,hmap3,hiter,hmap,hit]
   exact left_shrinks _ _ _ hx
open Classical in
def qee (em:Mem) (z:Nat→Blk) (k:Option Nat) (b:Nat):Prop:=(b<em.next∧(k≠some b∨z b≠ .dead))∨(z b).fzn
open Classical in
def canM (m em:Mem) (z:Nat→Blk) (k:Option Nat) (cells:List Value) (t:TypeId):Mem where
 next:=m.next+1
 blk:=fun b=>if b<m.next then (if qee em z k b then m.blk b else .dead) else if b=m.next then .own cells t else .dead
open Classical in
theorem qiH {m em:Mem} {z:Nat→Blk} {k:Option Nat} {cells:List Value} {t:TypeId} {b:Nat} (hb:b<m.next) (hk:qee em z k b):(canM m em z k cells t).blk b=m.blk b:=by
 show (if b<m.next then (if qee em z k b then m.blk b else .dead) else if b=m.next then .own cells t else .dead)=m.blk b
 rw[if_pos hb,if_pos hk]
open Classical in
theorem qqg {m em:Mem} {z:Nat→Blk} {k:Option Nat} {cells:List Value} {t:TypeId} {b:Nat} (hb:b<m.next) (hk:¬qee em z k b):(canM m em z k cells t).blk b= .dead:=by
 show (if b<m.next then (if qee em z k b then m.blk b else .dead) else if b=m.next then .own cells t else .dead)= .dead
 rw[if_pos hb,if_neg hk]
open Classical in
theorem qf7 {m em:Mem} {z:Nat→Blk} {k:Option Nat} {cells:List Value} {t:TypeId}:(canM m em z k cells t).blk m.next= .own cells t:=by
 show (if m.next<m.next then (if qee em z k m.next then m.blk m.next else .dead) else if m.next=m.next then .own cells t else .dead)=_
 rw[if_neg (Nat.lt_irrefl _),if_pos rfl]
open Classical in
theorem qiG {m em:Mem} {z:Nat→Blk} {k:Option Nat} {cells:List Value} {t:TypeId} {b:Nat} (hb:m.next+1≤b):(canM m em z k cells t).blk b= .dead:=by
 show (if b<m.next then (if qee em z k b then m.blk b else .dead) else if b=m.next then .own cells t else .dead)= .dead
 rw[if_neg (by omega),if_neg (by omega)]
open Classical in
theorem qbX {m em:Mem} {z:Nat→Blk} {k:Option Nat} {cells:List Value} {t:TypeId} {b:Nat} (hb:b<m.next):(canM m em z k cells t).blk b=m.blk b∧qee em z k b∨(canM m em z k cells t).blk b= .dead:=by
 by_cases hk:qee em z k b
 ·exact .inl ⟨qiH hb hk,hk⟩
 ·exact .inr (qqg hb hk)
def rmZ (z:Nat→Blk) (rm:Nat):Nat→Blk:=fun b=>if b=rm then .dead else z b
theorem qwq {α:Type} {T:Ty α} {va:α→List Value} (hva:∀z x ds,T.rd z x ds→ds=va x) (hfl:∀x,(va x).all qah=true) (hpos:0<T.sz) (hcell:P.cellsOf T.tid=T.sz) {j:Emb} {m:Mem} {w:World} (hR:Rel P j m w) (hW:WF m) {em:Mem} {z:Nat→Blk} {k:Option Nat} (hst:St z em m k) {rm:Nat} (hrm:rm<m.next) {Lm:List Value} {um:TypeId} (hmb:m.blk rm= .map Lm um) (hzm:(z rm).fzn)
  {jf:Emb} {mf:Mem} {wf:World} {zf:Nat→Blk} (hP:Post P (j.up m.next ⟨w.heap.size,0,0,0⟩) ((m.put rm .dead).push .dead) w jf mf wf) (hstf:St zf (em.put rm .dead) mf k) (hzx:Zx em.next (rmZ z rm) zf)
  {zs:List α} {v cv:Value} (hO:OwF T zf (em.put rm .dead) mf k zs v) (hv:VR jf v cv) (hne:0<zs.length):
  ∃j',Post P j m w j' (canM m em z k (zs.flatMap va) T.tid) wf∧VR j' (.slice (some ⟨m.next,0,none⟩) zs.length BIG) cv∧∀b,b<m.next→j' b=j b:=by
 obtain ⟨how,hfr⟩:=hO
 rcases how with ⟨_,rfl⟩|⟨bf,off,L,c,rfl,g1,g2,g3,g4,g5,g6⟩
 ·simp at hne
 have hbf:em.next≤bf:=hfr bf rfl
 obtain ⟨q,_,hq,hc⟩:=hv.slice
 have hq:jf bf=some q:=hq
 have hobj:=hP.rel.obj bf q hq
 rw[g1] at hobj
 obtain ⟨arr,fz,o1,o2,o3,o4,o5,o6⟩:=hobj
 have hlv:∀x,x∈zs→(va x).length=T.sz:=fun x hx=>by
  obtain ⟨i,hi⟩:=List.getElem?_of_mem hx
  obtain ⟨cs,h1,_⟩:=g6 i x hi
  rw[←hva _ _ _ h1];exact T.len _ _ _ h1
 have hlen:(zs.flatMap va).length=zs.length*T.sz:=qdd hlv
 have hes:q.es=T.sz:=o3.symm.trans hcell
 obtain ⟨cc,hcv,hcc,hcap,hroom⟩:∃cc,cv= .slice (some ⟨q.blk,q.sh+off,none⟩) zs.length cc∧zs.length≤cc∧cc<BIG∧off+cc*q.es≤q.cap*q.es:=by
  rcases hc with ⟨h1,h2⟩|⟨h1,h2,h3,h4,h5,h6,h7⟩|⟨_,h0,_⟩|⟨_,h0,_⟩
  ·rcases g5 with g5|⟨_,g5,g5'⟩
   ·rw[g5] at h1;exact absurd h1 (Nat.lt_irrefl _)
   ·exact ⟨c,h2,g5,h1,by rw[hes] at o5⊢;omega⟩
  ·refine ⟨q.cap - off / q.es,h7,h3,Nat.lt_of_le_of_lt (Nat.sub_le _ _) h4, ?_⟩
   have h5:off%q.es=0:=h5
   have h6:off / q.es≤q.cap:=h6
   have hoff:off=off / q.es*q.es:=by
    have:=Nat.div_add_mod off q.es
    rw[h5,Nat.add_zero,Nat.mul_comm] at this
    exact this.symm
   rw[Nat.sub_mul,←hoff]
   have:=Nat.mul_le_mul_right q.es h6
   omega
  ·omega
  ·omega
 have hz0:qee em z k rm:= .inr hzm
 have hjf:∀b,b<m.next→jf b=j b:=fun b hb=>by
  rw[hP.ext b (by show b<m.next+1;omega)]
  show (if b=m.next then some _ else j b)=j b
  rw[if_neg (by omega)]
 have hpu:∀b,b<m.next→b≠rm→((m.put rm .dead).push .dead).blk b=m.blk b:=fun b hb hr=>by
  show (if b=m.next then Blk.dead else if b=rm then .dead else m.blk b)=m.blk b
  rw[if_neg (by omega),if_neg hr]
 have hpr:((m.put rm .dead).push .dead).blk rm= .dead:=by
  show (if rm=m.next then Blk.dead else if rm=rm then .dead else m.blk rm)= .dead
  rw[if_neg (by omega),if_pos rfl]
 have hpn:((m.put rm .dead).push .dead).blk m.next= .dead:=by
  show (if m.next=m.next then Blk.dead else _)= .dead
  rw[if_pos rfl]
 have hjn:j m.next=none:=hR.none_next
 have hup:∀(E:Emb1) b,b<m.next→j.up m.next E b=j b:=fun E b hb=>by
  show (if b=m.next then some E else j b)=j b
  rw[if_neg (by omega)]
 have hupn:∀(E:Emb1),j.up m.next E m.next=some E:=fun E=>by
  show (if m.next=m.next then some E else j m.next)=some E
  rw[if_pos rfl]
 have hsame:∀b,qee em z k b→b<m.next→b≠rm→mf.blk b=m.blk b:=by
  intro b hk hb hr
  have hzz:rmZ z rm b=z b:=by simp[rmZ,hr]
  have hfr':zf b=z b→z b≠ .dead→mf.blk b=m.blk b:=fun h1 h2=>by
   rw[(hstf.fz b (by rw[h1];exact h2)).1,h1,←(hst.fz b h2).1]
  rcases hk with ⟨h1,h2⟩|h1
  ·rcases h2 with h2|h2
   ·rw[hstf.kept b h1 h2,hst.kept b h1 h2]
    show (if b=rm then Blk.dead else em.blk b)=em.blk b
    rw[if_neg hr]
   ·exact hfr' ((hzx.low b h1).trans hzz) h2
  ·exact hfr' ((hzx.le b (by rw[hzz];exact h1)).trans hzz) h1.ne
 have hblk:∀c,c<w.heap.size→(∀b e,j b=some e→(m.blk b).isOwn=true→b≠rm→e.blk≠c)→wf.heap[c]? =w.heap[c]? :=by
  intro c hc hno
  refine hP.frm.block c hc fun b e hb ho=> ?_
  by_cases hbn:b=m.next
  ·rw[hbn,hpn] at ho;cases ho
  ·by_cases hbr:b=rm
   ·rw[hbr,hpr] at ho;cases ho
   ·have hb':j b=some e:=by
     rw[←hb];show j b=(if b=m.next then _ else j b);rw[if_neg hbn]
    rw[hpu b (hR.lt b e hb').1 hbr] at ho
    exact hno b e hb' ho hbr
 have hmo:(m.blk rm).isOwn=true:=by rw[hmb];rfl
 have hml:(m.blk rm).live=true:=by rw[hmb];rfl
 have hrw:∀e,j rm=some e→wf.heap[e.blk]? =w.heap[e.blk]? :=fun e he=>hblk _ (hR.lt rm e he).2 fun b e' hb ho hbr hh=>hbr (hR.inj b rm e' e hb he ho hml hh)
 have hap:∀b e,j b=some e→qee em z k b→(m.blk b).live=true→e.blk≠q.blk:=by
  intro b e hb hk hl hh
  have hlt:=(hR.lt b e hb).1
  by_cases hbr:b=rm
  ·subst hbr
   have h1:=hR.obj b e hb
   rw[hmb] at h1
   obtain ⟨_,_,cs,ck,_,h2,_⟩:=h1
   rw[←hrw e hb,hh,o1] at h2
   cases h2
  ·have:=hP.rel.inj bf b q e hq ((hjf b hlt).trans hb) (by rw[g1];rfl) (by rw[hsame b hk hlt hbr];exact hl) hh.symm
   subst this
   rcases hk with ⟨h1,_⟩|h1
   ·omega
   ·have hzz:rmZ z rm bf=z bf:=by simp[rmZ,hbr]
    have:=hzx.le bf (by rw[hzz];exact h1)
    rw[g3,hzz] at this
    rw[←this] at h1
    exact h1
 refine ⟨j.up m.next ⟨q.blk,cc,q.es,q.sh+off⟩,⟨⟨?_, ?_, ?_⟩,⟨hP.frm.os,hP.frm.tape,hP.frm.output,hP.frm.size, ?_⟩,Nat.le_succ _,fun b hb=>hup _ b hb, ?_, ?_, ?_⟩, ?_,fun b hb=>hup _ b hb⟩
 ·intro b e hb
  by_cases hbn:b=m.next
  ·subst hbn
   rw[hupn] at hb
   cases hb
   exact ⟨Nat.lt_succ_self _,(hP.rel.lt bf q hq).2⟩
  ·rw[show j.up m.next _ b=j b from if_neg hbn] at hb
   have:=hR.lt b e hb
   exact ⟨Nat.lt_succ_of_lt this.1,Nat.lt_of_lt_of_le this.2 hP.frm.size⟩
 ·intro b e hb
  by_cases hbn:b=m.next
  ·subst hbn
   rw[hupn] at hb
   cases hb
   rw[qf7]
   refine ⟨arr,fz,o1,o2,o3, ?_, ?_,fun i v hi=> ?_⟩
   ·show q.sh+off+cc*q.es≤arr.size
    omega
   ·show (zs.flatMap va).length≤cc*q.es
    rw[hlen,←hes]
    exact Nat.mul_le_mul_right _ hcc
   ·obtain ⟨cv',h1,h2⟩:=o6 _ v (qdN hva g6 hlv i v hi)
    have hf:qah v=true:=by
     obtain ⟨x,hx,hv⟩:=List.mem_flatMap.1 (List.mem_of_getElem? hi)
     exact List.all_eq_true.1 (hfl x) v hv
    have:=qdb hf h2
    subst this
    exact ⟨cv',by show arr[q.sh+off+i]? =_;rw[Nat.add_assoc];exact h1,qaD hf⟩
  ·rw[show j.up m.next _ b=j b from if_neg hbn] at hb
   have hlt:=(hR.lt b e hb).1
   rcases qbX (m:=m) (em:=em) (z:=z) (k:=k) (cells:=zs.flatMap va) (t:=T.tid) hlt with ⟨h1,hk⟩|h1
   ·rw[h1]
    by_cases hbr:b=rm
    ·subst hbr
     rw[hrw e hb]
     exact (hR.obj b e hb).mono (Emb.up_le hjn)
    ·have h2:=hP.rel.obj b e ((hjf b hlt).trans hb)
     rw[hsame b hk hlt hbr] at h2
     exact (h2.below (hW.low b)).mono fun b' e' hb'=>by
      obtain ⟨h3,h4⟩:=qaC hb'
      rw[hup _ _ h3,←hjf _ h3];exact h4
   ·rw[h1];trivial
 ·intro b b' e e' hb hb' ho hl hh
  by_cases hbn:b=m.next
  ·by_cases hbn':b'=m.next
   ·rw[hbn,hbn']
   ·subst hbn
    rw[hupn] at hb
    cases hb
    rw[show j.up m.next _ b'=j b' from if_neg hbn'] at hb'
    have hlt:=(hR.lt b' e' hb').1
    rcases qbX (m:=m) (em:=em) (z:=z) (k:=k) (cells:=zs.flatMap va) (t:=T.tid) hlt with ⟨h1,hk⟩|h1
    ·rw[h1] at hl
     exact absurd hh.symm (hap b' e' hb' hk hl)
    ·rw[h1] at hl;cases hl
  ·rw[show j.up m.next _ b=j b from if_neg hbn] at hb
   have hlt:=(hR.lt b e hb).1
   rcases qbX (m:=m) (em:=em) (z:=z) (k:=k) (cells:=zs.flatMap va) (t:=T.tid) hlt with ⟨h1,hk⟩|h1
   ·rw[h1] at ho
    by_cases hbn':b'=m.next
    ·subst hbn'
     rw[hupn] at hb'
     cases hb'
     exact absurd hh (hap b e hb hk (by cases hx:m.blk b<;>rw[hx] at ho<;>first|rfl|cases ho))
    ·rw[show j.up m.next _ b'=j b' from if_neg hbn'] at hb'
     have hlt':=(hR.lt b' e' hb').1
     rcases qbX (m:=m) (em:=em) (z:=z) (k:=k) (cells:=zs.flatMap va) (t:=T.tid) hlt' with ⟨h1',hk'⟩|h1'
     ·rw[h1'] at hl
      exact hR.inj b b' e e' hb hb' ho hl hh
     ·rw[h1'] at hl;cases hl
   ·rw[h1] at ho;cases ho
 ·intro c hc hno
  exact hblk c hc fun b e hb ho _=>hno b e hb ho
 ·intro b e hb hge
  have hbn:b=m.next:=by
   by_cases hbn:b=m.next
   ·exact hbn
   ·rw[show j.up m.next _ b=j b from if_neg hbn] at hb
    have:=(hR.lt b e hb).1
    omega
  subst hbn
  rw[hupn] at hb
  cases hb
  show w.heap.size≤q.blk∨∃b0 e0,j b0=some e0∧(m.blk b0).isOwn=true∧e0.blk=q.blk
  have hown:∀b0 e0,j.up m.next ⟨w.heap.size,0,0,0⟩ b0=some e0→(((m.put rm .dead).push .dead).blk b0).isOwn=true→j b0=some e0∧(m.blk b0).isOwn=true:=by
   intro b0 e0 hb0 ho
   by_cases h1:b0=m.next
   ·rw[h1,hpn] at ho;cases ho
   ·rw[show j.up m.next _ b0=j b0 from if_neg h1] at hb0
    by_cases h2:b0=rm
    ·rw[h2,hpr] at ho;cases ho
    ·rw[hpu b0 (hR.lt b0 e0 hb0).1 h2] at ho
     exact ⟨hb0,ho⟩
  rcases Nat.lt_or_ge bf (m.next+1) with hlt|hge'
  ·have:=hP.old bf hlt (by rw[g1];rfl)
   have hq':=hP.ext bf hlt
   rw[hq] at hq'
   obtain ⟨h1,h2⟩:=hown bf q hq'.symm this
   exact .inr ⟨bf,q,h1,h2,rfl⟩
  ·rcases hP.fresh bf q hq hge' with h1|⟨b0,e0,h1,h2,h3⟩
   ·exact .inl h1
   ·obtain ⟨h4,h5⟩:=hown b0 e0 h1 h2
    exact .inr ⟨b0,e0,h4,h5,h3⟩
 ·intro b hb ho
  rcases qbX (m:=m) (em:=em) (z:=z) (k:=k) (cells:=zs.flatMap va) (t:=T.tid) hb with ⟨h1,hk⟩|h1
  ·rw[h1] at ho;exact ho
  ·rw[h1] at ho;cases ho
 ·intro b hb ho
  rcases qbX (m:=m) (em:=em) (z:=z) (k:=k) (cells:=zs.flatMap va) (t:=T.tid) hb with ⟨h1,hk⟩|h1
  ·rw[h1] at ho;exact ho
  ·rw[h1] at ho;cases ho
 ·refine ⟨⟨q.blk,cc,q.es,q.sh+off⟩,rfl,hupn _, .inr (.inl ⟨rfl,by show 0<q.es;omega, ?_,hcap, ?_, ?_, ?_⟩)⟩
  ·show zs.length≤cc - 0 / q.es
   rw[Nat.zero_div];exact hcc
  ·show 0%q.es=0
   exact Nat.zero_mod _
  ·show 0 / q.es≤cc
   rw[Nat.zero_div];exact Nat.zero_le _
  ·show cv= .slice (some ⟨q.blk,q.sh+off+0,none⟩) zs.length (cc - 0 / q.es)
   rw[Nat.zero_div,Nat.add_zero,Nat.sub_zero];exact hcv
end
end
end Go.AM
end
section
set_option linter.unusedSimpArgs false
set_option linter.unusedVariables false
namespace Go.AM
noncomputable section
theorem qdr {N:Nat} {c:Code} (h:qat N c=true):∀d,(qaT c).contains d=true→d<N:=by
 induction c with
 |region i ops dr=>
  intro d hd
  have h1:=(qev h).1
  simp only[qaT,dsts,List.contains_iff_mem,List.mem_filterMap] at hd
  obtain ⟨o,ho,hd⟩:=hd
  exact (h1 o ho).2 d hd
 |seq a b iha ihb=>
  intro d hd
  simp only[qat,Bool.and_eq_true] at h
  simp only[qaT,List.contains_iff_mem,List.mem_append] at hd
  rcases hd with hd|hd
  ·exact iha h.1 d (by simpa using hd)
  ·exact ihb h.2 d (by simpa using hd)
 |cond x a b iha ihb=>
  intro d hd
  simp only[qat,Bool.and_eq_true] at h
  simp only[qaT,List.contains_iff_mem,List.mem_append] at hd
  rcases hd with hd|hd
  ·exact iha h.1.2 d (by simpa using hd)
  ·exact ihb h.2 d (by simpa using hd)
 |block i a ih=>exact ih h
 |scope a ih=>exact ih h
 |loop a ih=>exact ih h
 |_=>intro d hd;simp[qaT] at hd
theorem qfp (w:World) (o:Obj):(w.alloc o).heap.size=w.heap.size+1:=by show (w.heap.push o).size=_;exact Array.size_push _
theorem Post.iter {P:Program} {j:Emb} {m:Mem} {w:World} (hR:Rel P j m w) (o:Obj):Post P j m w j m (w.alloc o):=by
 have h:=MapKept.heap_alloc w o
 have hsz:=qfp w o
 exact ⟨⟨fun b e hb=>⟨(hR.lt b e hb).1,by have:=(hR.lt b e hb).2;omega⟩,fun b e hb=>by rw[h.2 _ (hR.lt b e hb).2];exact hR.obj b e hb,hR.inj⟩,⟨rfl,rfl,rfl,by omega,fun c hc _=>h.2 c hc⟩,Nat.le_refl _,fun _ _=>rfl,fun b e hb hge=>absurd (hR.lt b e hb).1 (by omega),fun _ _ h=>h,fun _ _ h=>h⟩
def itM (m:Mem) (rm:Nat):Mem:=(m.put rm .dead).push .dead
def itJ (j:Emb) (m:Mem) (w:World):Emb:=j.up m.next ⟨w.heap.size,0,0,0⟩
theorem qj5 {m:Mem} {rm b:Nat} (h1:b≠rm) (h2:b≠m.next):(itM m rm).blk b=m.blk b:=by
 show (if b=m.next then Blk.dead else if b=rm then .dead else m.blk b)=m.blk b
 rw[if_neg h2,if_neg h1]
theorem ql3 {m:Mem} {rm:Nat}:(itM m rm).blk m.next= .dead:=by
 show (if m.next=m.next then Blk.dead else _)= .dead
 rw[if_pos rfl]
theorem qpG {m:Mem} {rm:Nat}:(itM m rm).blk rm= .dead:=by
 show (if rm=m.next then Blk.dead else if rm=rm then .dead else m.blk rm)= .dead
 split
 ·rfl
 ·rw[if_pos rfl]
theorem qeR {m:Mem} {rm b:Nat}:(itM m rm).blk b= .dead∨((itM m rm).blk b=m.blk b∧b≠rm∧b≠m.next):=by
 by_cases h1:b=rm
 ·rw[h1];exact .inl qpG
 ·by_cases h2:b=m.next
  ·rw[h2];exact .inl ql3
  ·exact .inr ⟨qj5 h1 h2,h1,h2⟩
theorem qfA {j:Emb} {m:Mem} {w:World} {b:Nat} (h:b≠m.next):itJ j m w b=j b:=by
 show (if b=m.next then _ else j b)=j b
 rw[if_neg h]
theorem ql2 {j:Emb} {m:Mem} {w:World}:itJ j m w m.next=some ⟨w.heap.size,0,0,0⟩:=by
 show (if m.next=m.next then _ else j m.next)=_
 rw[if_pos rfl]
theorem qgp {j:Emb} {m:Mem} {w:World} {b:Nat} {e:Emb1} (h:itJ j m w b=some e):(b=m.next∧e=⟨w.heap.size,0,0,0⟩)∨(b≠m.next∧j b=some e):=by
 by_cases hb:b=m.next
 ·subst hb
  rw[ql2] at h
  cases h
  exact .inl ⟨rfl,rfl⟩
 ·rw[qfA hb] at h
  exact .inr ⟨hb,h⟩
theorem qso {m:Mem} {rm:Nat} (h:WF m):WF (itM m rm):=by
 refine ⟨fun b hb=> ?_,fun b=> ?_⟩
 ·rcases qeR (m:=m) (rm:=rm) (b:=b) with h1|⟨h1,_,h2⟩
  ·exact h1
  ·have hb:m.next+1≤b:=hb
   rw[h1];exact h.dead b (by omega)
 ·rcases qeR (m:=m) (rm:=rm) (b:=b) with h1|⟨h1,_,h2⟩
  ·rw[h1];trivial
  ·rw[h1];exact qdk (Nat.le_succ _) (h.low b)
theorem Post.base {P:Program} {j:Emb} {m:Mem} {w:World} (hR:Rel P j m w) (rm:Nat) (o:Obj):Post P (itJ j m w) (itM m rm) w (itJ j m w) (itM m rm) (w.alloc o):=by
 have h:=MapKept.heap_alloc w o
 have hsz:=qfp w o
 refine ⟨⟨fun b e hb=> ?_,fun b e hb=> ?_,fun b b' e e' hb hb' ho hl he=> ?_⟩,⟨rfl,rfl,rfl,by omega,fun c hc _=>h.2 c hc⟩,Nat.le_refl _,fun _ _=>rfl,fun b e hb hge=> ?_,fun _ _ h=>h,fun _ _ h=>h⟩
 ·show b<m.next+1∧_
  rcases qgp hb with ⟨h1,rfl⟩|⟨h1,h2⟩
  ·exact ⟨by omega,by show w.heap.size<_;omega⟩
  ·have:=hR.lt b e h2
   exact ⟨by omega,by omega⟩
 ·rcases qeR (m:=m) (rm:=rm) (b:=b) with h1|⟨h1,h2,h3⟩
  ·rw[h1];trivial
  ·rw[qfA h3] at hb
   rw[h1,h.2 _ (hR.lt b e hb).2]
   exact (hR.obj b e hb).mono (Emb.up_le hR.none_next)
 ·rcases qeR (m:=m) (rm:=rm) (b:=b) with h1|⟨h1,h2,h3⟩
  ·rw[h1] at ho;cases ho
  rcases qeR (m:=m) (rm:=rm) (b:=b') with h1'|⟨h1',h2',h3'⟩
  ·rw[h1'] at hl;cases hl
  rw[h1] at ho
  rw[h1'] at hl
  rw[qfA h3] at hb
  rw[qfA h3'] at hb'
  exact hR.inj b b' e e' hb hb' ho hl he
 ·have hge:m.next+1≤b:=hge
  rcases qgp hb with ⟨h1,_⟩|⟨h1,h2⟩
  ·omega
  ·have:=(hR.lt b e h2).1
   omega
section
variable {P:Program} {D:Nat→Type} {X:Ev P D}
def getS (e d:Nat) (E:List (Nat×SV D)) (O:List (Ob D)):Option (List (D e)):=
 match lkE E d with
 | .c (.own j)=>(match O[j]? with|some (.sl e' xs false _)=>if h:e'=e then some (h▸xs) else none|_=>none)
 |_=>none
theorem qqD {e d:Nat} {E:List (Nat×SV D)} {O:List (Ob D)} {ys:List (D e)} (h:getS e d E O=some ys):∃j wf,lkE E d= .c (.own j)∧O[j]? =some (.sl e ys false wf):=by
 unfold getS at h
 split at h
 ·rename_i j hj
  split at h
  ·rename_i e' xs wf ho
   split at h
   ·rename_i he
    subst he
    cases h
    exact ⟨j,wf,hj,ho⟩
   ·cases h
  ·cases h
 ·cases h
def is0:SV D→Bool
 | .c (.int .i64 n)=>decide (n=0)
 |_=>false
theorem qsn {s:SV D} (h:is0 s=true):s= .c (.int .i64 0):=by
 unfold is0 at h
 split at h
 ·rw[of_decide_eq_true h]
 ·cases h
def getD (e:Nat) (ex:AExit) (E:List (Nat×SV D)) (O:List (Ob D)):Option (List (D e)):=
 if ex= .ret then if (is0 (lkE E 5)&&[42,43,44].all fun t=>nbS O (lkE E t))=true then getS e 4 E O else none else none
theorem qqB {e:Nat} {ex:AExit} {E:List (Nat×SV D)} {O:List (Ob D)} {ys:List (D e)} (h:getD e ex E O=some ys):ex= .ret∧(∀t,42≤t→t≤44→nbS O (lkE E t)=true)∧lkE E 5= .c (.int .i64 0)∧∃j wf,lkE E 4= .c (.own j)∧O[j]? =some (.sl e ys false wf):=by
 unfold getD at h
 obtain ⟨h0,h⟩:=ite_some h
 obtain ⟨h1,h⟩:=ite_some h
 rw[Bool.and_eq_true] at h1
 refine ⟨h0,fun t ha hb=> ?_,qsn h1.1,qqD h⟩
 refine List.all_eq_true.1 h1.2 t ?_
 simp only[List.mem_cons,List.not_mem_nil,or_false];omega
def frS (fr:Nat→Value) (b n:Nat):Nat→Value:=fun t=>if t=4 then .slice (some ⟨b,0,none⟩) n BIG else if t=5 then .int .i64 0 else if t=32 then .bool false else if wsB t=true∨(42≤t∧t≤44) then any else fr t
def frD (fr:Nat→Value) (v6:Value):Nat→Value:=fun t=>if t=6 then v6 else if t=32 then .bool false else if wsB t=true then any else fr t
theorem qid {l k:List MapEntry} (hl:(l.map (·.born)).Nodup) (hk:(k.map (·.born)).Nodup) (h1:∀x∈l,x∈k) (h2:∀x∈k,x∈l):l.Perm k:=by
 have nd:∀{l:List MapEntry},(l.map (·.born)).Nodup→l.Nodup:=fun h=>List.Pairwise.of_map _ (fun a b hab he=>hab (by rw[he])) h
 exact (List.perm_ext_iff_of_nodup (nd hl) (nd hk)).2 fun x=>⟨h1 x,h2 x⟩
theorem L2.perm {α β:Type} {R:α→β→Prop} {ys zs:List β} (hp:ys.Perm zs):∀{xs:List α},L2 R xs ys→∃xs',xs.Perm xs'∧L2 R xs' zs:=by
 induction hp with
 |nil=>intro xs h;exact ⟨xs, .refl _,h⟩
 |cons b _ ih=>
  intro xs h
  cases xs with
  |nil=>exact h.elim
  |cons a xs=>
   obtain ⟨xs',h1,h2⟩:=ih h.2
   exact ⟨a::xs',h1.cons a,h.1,h2⟩
 |swap b b' _=>
  intro xs h
  cases xs with
  |nil=>exact h.elim
  |cons a xs=>cases xs with
   |nil=>exact h.2.elim
   |cons a' xs=>exact ⟨a'::a::xs, .swap _ _ _,h.2.1,h.1,h.2.2⟩
 |trans _ _ ih1 ih2=>
  intro xs h
  obtain ⟨x1,h1,h2⟩:=ih1 h
  obtain ⟨x2,h3,h4⟩:=ih2 h2
  exact ⟨x2,h1.trans h3,h4⟩
theorem L2.left {α β:Type} {R:α→β→Prop} (hu:∀a a' b,R a b→R a' b→a=a'):∀{xs xs':List α} {ys:List β},L2 R xs ys→L2 R xs' ys→xs=xs'
 |[],[],_,_,_=>rfl
 |[],_::_,[],_,h=>h.elim
 |[],_::_,_::_,h,_=>h.elim
 |_::_,[],[],h,_=>h.elim
 |_::_,[],_::_,_,h=>h.elim
 |_::_,_::_,[],h,_=>h.elim
 |_::_,_::_,_::_,h,h'=>by rw[hu _ _ _ h.1 h'.1,L2.left hu h.2 h'.2]
end
end
end Go.AM
end
section
set_option linter.unusedSimpArgs false
set_option linter.unusedVariables false
namespace Go.AM
noncomputable section
section
variable {P:Program} {D:Nat→Type} {X:Ev P D}
structure RK (X:Ev P D) (e kt vt t i7 bid i8 bid2 i9 i10:Nat) (O7 O8 O9 O10:Array Oper) (Dc:Code) (V:LV P X e kt vt) (srt:List (D e)→Option (List (D e))) (va:D e→List Value):Prop where
 hro:RO t O7 O8 O9
 hmt:P.underlying t=some (.map kt vt)
 hK:KeyOk P kt (X.G.kc kt)
 hVl:ValOk P vt (X.G.kc vt)
 hkV:∀a,qal (qaj P kt) (X.G.kc kt a)=V.kV a
 hvV:∀a,qal (qaj P vt) (X.G.kc vt a)=V.vV a
 hv1:∀a,qbf (V.vV a)=true
 hvi:∀a b,V.vV a=V.vV b→a=b
 hw10:∀t,wsB t=false∨t=29∨t=30∨t=31∨t=32∨t=33∨t=34∨t=35∨t=9∨t=10→(dsts O10).contains t=false
 hb:∀a b ys wf,ys.length<LIM→runL X O10.toList O10.toList [(6, .c (.own 0)),(9,V.sk a),(10,V.sv b)] [.sl e ys false wf] (getR e)=some (ys++[V.app a b])
 hwD:∀t,(qaT Dc).contains t=true→t=4∨t=5∨42≤t∧t≤44
 hwT:∀t,t=4∨t=5∨t=32∨wsB t=true∨42≤t∧t≤44→(qaT (rngC i7 O7 bid i8 O8 32 bid2 i9 O9 i10 O10 Dc)).contains t=true
 hD:∀ys wf,exC X [] calm true [] Dc [(6, .c (.own 0))] [.sl e ys false wf] (getD e)=srt ys
 hva:∀z x ds,(X.G.T e).rd z x ds→ds=va x
 hrd:∀z x,(X.G.T e).rd z x (va x)
 hfl:∀x,(va x).all qah=true
 hpos:0<(X.G.T e).sz
 hcell:P.cellsOf (X.G.T e).tid=(X.G.T e).sz
theorem qjX {e kt vt t i7 bid i8 bid2 i9 i10:Nat} {O7 O8 O9 O10:Array Oper} {Dc:Code} {V:LV P X e kt vt} {srt:List (D e)→Option (List (D e))} {va:D e→List Value} (K:RK X e kt vt t i7 bid i8 bid2 i9 i10 O7 O8 O9 O10 Dc V srt va) {j:Emb}:
  ∀{es:List (D kt×D vt)} {l:List MapEntry},L2 (EntW P j kt vt) ((X.G.M t kt vt).ents es) l→L2 (fun (p:D kt×D vt) (x:MapEntry)=>x.key=V.kV p.1∧x.val=V.vV p.2) es l
 |[],[],_=>trivial
 |[],_::_,h=>h.elim
 |_::_,[],h=>h.elim
 |p::es,x::l,h=>by
  refine ⟨⟨?_, ?_⟩,qjX K h.2⟩
  ·rw[←K.hkV];exact h.1.1
  ·have h3:=h.1.2.2
   have h4:qal (qaj P vt) (X.G.kc vt p.2)=V.vV p.2:=K.hvV p.2
   have h3:VR1 j (qal (qaj P vt) (X.G.kc vt p.2)) x.val:=h3
   rw[h4] at h3
   exact qgi (K.hv1 p.2) h3
theorem L2.mem {α β:Type} {R:α→β→Prop}:∀{xs:List α} {ys:List β},L2 R xs ys→∀y∈ys,∃x,R x y
 |[],[],_,y,hy=>by cases hy
 |_::_,[],h,_,_=>h.elim
 |[],_::_,h,_,_=>h.elim
 |a::xs,b::ys,h,y,hy=>by
  rcases List.mem_cons.1 hy with rfl|hy
  ·exact ⟨a,h.1⟩
  ·exact L2.mem h.2 y hy
theorem qxf {z:Nat→Blk} {em m:Mem} {k:Option Nat} (h:St z em m k) {rm:Nat} (hrm:rm<m.next):St (rmZ z rm) (em.put rm .dead) (itM m rm) k:=by
 have hn:m.next<(itM m rm).next:=Nat.lt_succ_self _
 refine ⟨fun b hb=> ?_,fun b hb=> ?_,fun b hb=> ?_,Nat.le_trans h.next (Nat.le_succ _),fun b hb hk=> ?_⟩
 ·have hr:b≠rm:=fun hh=>hb (by rw[hh];simp[rmZ])
  have hz:rmZ z rm b=z b:=by simp[rmZ,hr]
  rw[hz] at hb⊢
  have:=h.fz b hb
  exact ⟨by rw[qj5 hr (by omega)];exact this.1,by omega⟩
 ·rcases qeR (m:=m) (rm:=rm) (b:=b) with h1|⟨h1,_,h2⟩
  ·exact h1
  ·have hb:m.next+1≤b:=hb
   rw[h1];exact h.dead b (by omega)
 ·show (if b=rm then Blk.dead else em.blk b)= .dead
  split
  ·rfl
  ·exact h.dead0 b hb
 ·have hb:b<em.next:=hb
  have:=h.next
  show _=(if b=rm then Blk.dead else em.blk b)
  split
  ·rename_i hh;rw[hh];exact qpG
  ·rename_i hh;rw[qj5 hh (by omega)];exact h.kept b hb hk
theorem qrh {e kt vt t i7 bid i8 bid2 i9 i10:Nat} {O7 O8 O9 O10:Array Oper} {Dc:Code} {V:LV P X e kt vt} {srt:List (D e)→Option (List (D e))} {va:D e→List Value} (K:RK X e kt vt t i7 bid i8 bid2 i9 i10 O7 O8 O9 O10 Dc V srt va)
  (hC:COk X) (hmix:P.follows .mixedOrders=true) {xs:List (D e)} {es:List (D kt×D vt)} {zs:List (D e)} (hlen:xs.length+es.length≤LIM) (hz:∀ps:List (D kt×D vt),ps.Perm es→srt (xs++ps.map fun p=>V.app p.1 p.2)=some zs) (hne:es≠[]) (hzl:0<zs.length)
  {em m:Mem} {z:Nat→Blk} {k:Option Nat} {v6:Value} {wf0:Bool} {fr:Nat→Value} (hM:Mm X.G [.sl e xs false wf0] z em m k [v6]) (h6:fr 6=v6) {rm:Nat} (h8:fr 8= .map (some rm)) (hzr:z rm= .map ((X.G.M t kt vt).cells es) t):
  ExtC P (rngC i7 O7 bid i8 O8 32 bid2 i9 O9 i10 O10 Dc) fr m .ret (frS fr m.next zs.length) (canM m em z k (zs.flatMap va) (X.G.T e).tid):=by
 have hst:=hM.st
 have hzf:(z rm).fzn:=by rw[hzr];trivial
 obtain ⟨hmr,hrm⟩:=hst.fz.fzn hzf
 rw[hzr] at hmr
 have hown:OwF (X.G.T e) z em m k xs v6:=hM.obj 0 _ v6 rfl rfl
 have hb6:∀b,v6= .bool b→False:=by
  obtain ⟨a,c,hv⟩:=hown.ow.len
  intro b hb;rw[hv] at hb;cases hb
 refine ⟨Nat.le_succ _,fun i hi=> ?_,fun hW hl=>⟨⟨fun b hb=>qiG hb,fun b=> ?_⟩,fun i=> ?_⟩, ?_⟩
 ·have h1:¬(i=4∨i=5∨i=32∨wsB i=true∨42≤i∧i≤44):=fun h=>by rw[K.hwT i h] at hi;cases hi
  simp only[not_or] at h1
  show frS fr m.next zs.length i=fr i
  unfold frS
  rw[if_neg h1.1,if_neg h1.2.1,if_neg h1.2.2.1,if_neg (fun h=>by rcases h with h|h;exact h1.2.2.2.1 h;exact h1.2.2.2.2 h)]
 ·rcases Nat.lt_or_ge b m.next with hb|hb
  ·rcases qbX (m:=m) (em:=em) (z:=z) (k:=k) (cells:=zs.flatMap va) (t:=(X.G.T e).tid) hb with ⟨h1,_⟩|h1
   ·rw[h1];exact qdk (Nat.le_succ _) (hW.low b)
   ·rw[h1];trivial
  ·by_cases hbn:b=m.next
   ·rw[hbn,qf7]
    intro v hv
    obtain ⟨x,_,hx⟩:=List.mem_flatMap.1 hv
    exact qch (List.all_eq_true.1 (K.hfl x) v hx)
   ·rw[qiG (by omega)];trivial
 ·show low (m.next+1) (frS fr m.next zs.length i)
  unfold frS
  split
  ·exact Nat.lt_succ_self _
  ·split
   ·trivial
   ·split
    ·trivial
    ·split
     ·trivial
     ·exact qeq (Nat.le_succ _) (hl i)
 ·intro N j a w Q hok hR hW hF hQ
  have hokD:qat N Dc=true:=by
   simp only[rngC,qat,Bool.and_eq_true] at hok
   exact hok.2
  have hok10:qat N (.region i10 O10 false)=true:=by
   have h1:(qat N (.seq (.region i7 O7 false) (.block bid (.loop (.seq (.region i8 O8 false) (.seq (.cond (.tmp 32) .skip (.exit bid)) (.block bid2 (.seq (.region i9 O9 false) (.region i10 O10 false))))))))&&qat N Dc)=true:=hok
   rw[Bool.and_eq_true] at h1
   have h2:(qat N (.region i7 O7 false)&&(qat N (.region i8 O8 false)&&(qat N (.cond (.tmp 32) .skip (.exit bid))&&(qat N (.region i9 O9 false)&&qat N (.region i10 O10 false)))))=true:=h1.1
   simp only[Bool.and_eq_true] at h2
   exact h2.2.2.2.2
  have hN:44<N:=qdr hok 44 (K.hwT 44 (.inr (.inr (.inr (.inr ⟨by omega,by omega⟩)))))
  have hN8:a.tmps.size=N:=hF.size
  obtain ⟨q8,hj8,hc8⟩:∃q,j rm=some q∧tm a 8= .map (some q.blk):=by
   have:=hF.val 8
   rw[h8] at this
   exact this
  obtain ⟨kt',vt',cs,clk,E,g1,g2,g3,g4,g5⟩:ObjR P j q8 w.heap[q8.blk]? (.map ((X.G.M t kt vt).cells es) t):=by
   have:=hR.obj rm q8 hj8
   rw[hmr] at this
   exact this
  rw[K.hmt] at g2
  cases g2
  have hE:=EntL.uniq K.hK.pos g3 (qgg K.hK K.hVl es)
  subst hE
  have hrel:=qjX K g4
  have hcs:cs.toList.length=es.length:=hrel.length.symm
  obtain ⟨B,hBeq⟩:∃B:LB P D X e kt vt,B=⟨V,N,itJ j m w,itM m rm,w,fr,rmZ z rm,em.put rm .dead,k,xs,cs,clk,q8.blk,w.heap.size,m.next⟩:=⟨_,rfl⟩
  have hB:LBok B:=by
   subst hBeq
   refine ⟨Nat.lt_succ_self _,ql3,ql2,Nat.le_refl _,g1,(hR.lt rm q8 hj8).2,fun b q (hb:itJ j m w b=some q) (ho:((itM m rm).blk b).isOwn=true)=> ?_,g5,fun x hx=> ?_, ?_⟩
   ·rcases qeR (m:=m) (rm:=rm) (b:=b) with h1|⟨h1,h2,h3⟩
    ·rw[h1] at ho;cases ho
    ·rw[qfA h3] at hb
     rw[h1] at ho
     exact fun hh=>h2 (hR.inj b rm q q8 hb hj8 ho (by rw[hmr];rfl) hh)
   ·exact L2.mem hrel x hx
   ·show xs.length+cs.size≤LIM
    rw[←Array.length_toList,hcs];exact hlen
  have hok10':=(qev hok10).1
  obtain ⟨o1,l1,e1,d1,p1,gg1,t1⟩:=K.hro.h7.cons
  obtain ⟨o2,l2,e2,d2,p2,gg2,t2⟩:=t1.cons
  have e3:=t2.nil
  subst e3 e2
  dsimp only at d1 p1 d2 p2
  unfold rngC
  refine wp_seq (wp_seq (wp_region_list ?_))
  rw[e1]
  refine wpv gg1 (w':=w) (v:=tm a 8) (qkv p1) ?_
  rw[d1]
  obtain ⟨a1,ha1⟩:∃a1,a1=a.put (some 29) (tm a 8):=⟨_,rfl⟩
  have z1:a1.tmps.size=N∧a1.defers=[]:=by rw[ha1,qai.1,qai.2];exact ⟨hF.size,hF.defers⟩
  have y1:∀t,tm a1 t=if t=29 then tm a 8 else tm a t:=fun t=>by rw[ha1];exact qbz (by omega)
  rw[←ha1]
  obtain ⟨w1,hw1⟩:∃w1,w1=w.alloc (.mapIter (some q8.blk) clk #[] clk):=⟨_,rfl⟩
  refine wpv gg2 (w':=w1) (v:= .pointer (some ⟨w.heap.size,0,none⟩)) (by rw[hw1];simp[execOp,p2,qaP,y1,hc8,run_range_map w t kt vt q8.blk cs clk K.hmt g1]) ?_
  rw[d2]
  obtain ⟨a2,ha2⟩:∃a2,a2=a1.put (some 30) (.pointer (some ⟨w.heap.size,0,none⟩)):=⟨_,rfl⟩
  have z2:a2.tmps.size=N∧a2.defers=[]:=by rw[ha2,qai.1,qai.2];exact z1
  have y2:∀t,tm a2 t=if t=30 then .pointer (some ⟨w.heap.size,0,none⟩) else tm a1 t:=fun t=>by rw[ha2];exact qbz (by rw[z1.1];omega)
  rw[←ha2]
  refine wpList_nil ?_
  have hup0:∀b q,j b=some q→itJ j m w b=some q:=Emb.up_le hR.none_next
  have hLI:LI B a2 w1 [] [] v6 (itM m rm) (itJ j m w) (rmZ z rm) wf0:=by
   subst hBeq
   refine ⟨by rw[hw1];exact Post.base hR rm _,qso hW, ?_,Zx.refl _,trivial,fun b q hb hbn=> ?_,fun x hx=>(by cases hx),List.nodup_nil,z2.2,z2.1, ?_, ?_, ?_,fun t ht=> ?_,fun t ht=>⟨fun _=> ?_,fun hh=>absurd rfl hh⟩⟩
   ·refine ⟨qxf hst hrm,rfl,fun i o u hi hu=> ?_,fun i i' o p u u' hne hi hi' _ _ _ _=> ?_⟩
    ·cases i with
     |zero=>
      cases hi;cases hu
      show OwF (X.G.T e) (rmZ z rm) (em.put rm .dead) (itM m rm) k (xs++[]) v6
      rw[List.append_nil]
      refine ⟨?_,hown.fresh⟩
      rcases hown.ow with h1|⟨b,o,L,c,q1,q2,q3,q4,q5,q6,q7⟩
      ·exact .inl h1
      ·have hbr:b≠rm:=fun hh=>by rw[hh,hmr] at q2;cases q2
       refine .inr ⟨b,o,L,c,q1,by rw[qj5 hbr (by omega)];exact q2,by show b<m.next+1;omega,by simp[rmZ,q4],q5,q6,fun i x hx=> ?_⟩
       obtain ⟨ds,r1,r2⟩:=q7 i x hx
       exact ⟨ds,by rw[K.hva _ _ _ r1];exact K.hrd _ _,r2⟩
     |succ i=>cases hi
    ·cases i with
     |zero=>cases i' with
      |zero=>exact absurd rfl hne
      |succ i'=>cases hi'
     |succ i=>cases hi
   ·show q.blk≠w.heap.size
    rcases qgp (show itJ j m w b=some q from hb) with ⟨h1,_⟩|⟨_,h1⟩
    ·exact absurd h1 hbn
    ·have:=(hR.lt b q h1).2
     omega
   ·rw[y2,if_neg (by omega),y1,if_neg (by omega),←h6];exact (hF.val 6).mono hup0
   ·rw[y2,if_neg (by omega),y1,if_pos rfl,hc8];intro b hb;cases hb
   ·rw[y2,if_pos rfl]
   ·have hne:t≠29∧t≠30:=by refine ⟨?_, ?_⟩<;>(rintro rfl;exact absurd ht (by decide))
    rw[y2,if_neg hne.2,y1,if_neg hne.1];exact (hF.val t).mono hup0
   ·have hne:t≠29∧t≠30:=by refine ⟨?_, ?_⟩<;>(rintro rfl;exact absurd ht (by decide))
    rw[y2,if_neg hne.2,y1,if_neg hne.1];exact (hF.val t).mono hup0
  have hIt:qjO B w1 []:=by
   subst hBeq
   refine ⟨clk, ?_,Nat.le_refl _⟩
   rw[hw1];exact (MapKept.heap_alloc w _).1
  have hBN:B.N=N:=by rw[hBeq]
  have hBV:B.V=V:=by rw[hBeq]
  show (Code.block bid _).wp P _ a2 w1
  refine wp_block (wp_loop (fun a' w'=>∃qs ps v6' mk jk zk wf,LI B a' w' qs ps v6' mk jk zk wf∧qjO B w' qs) (fun _ w'=>lft B.bm B.r w') ⟨[],[],v6,itM m rm,itJ j m w,rmZ z rm,wf0,hLI,hIt⟩ fun a3 w3 ⟨qs,ps,v6k,mk,jk,zk,wfk,h,hi⟩=> ?_)
  refine qxb hB hC hmix K.hro (by rw[hBN];exact hN) (by rw[hBN];exact hok10') K.hw10 (by rw[hBV];exact K.hb) h hi (fun a' w' qs' ps' v6' mk' jk' zk' wf' h1 h2 h3 h4=>⟨⟨qs',ps',v6',mk',jk',zk',wf',h1,h2⟩,h4⟩) fun a' y3 v31 v32 hd' hs' hall=> ?_
  show Dc.wp P Q a' w3
  have hBcs:B.cs=cs:=by rw[hBeq]
  rw[hBcs] at hall
  have hmem:∀x∈qs,x∈cs.toList:=by rw[←hBcs];exact h.mem
  have hperm:=qid h.nd g5.1 hmem hall
  obtain ⟨es',hp1,hp2⟩:=L2.perm hperm.symm hrel
  have hkinj:∀a b,V.kV a=V.kV b→a=b:=fun a b hab=>K.hK.inj a b (by rw[K.hkV,K.hkV,hab])
  have hrel':L2 (fun (p:D kt×D vt) (x:MapEntry)=>x.key=V.kV p.1∧x.val=V.vV p.2) ps qs:=by
   have:=h.rel
   rw[hBV] at this
   exact this
  have hpe:=L2.left (fun p p' x h1 h2=>Prod.ext (hkinj _ _ (h1.1.symm.trans h2.1)) (K.hvi _ _ (h1.2.symm.trans h2.2))) hrel' hp2
  subst hpe
  have hzs:=hz ps hp1.symm
  have hqs:qs≠[]:=fun hh=>by
   rw[hh] at hperm
   have:=hperm.length_eq
   rw[hcs] at this
   exact hne (List.length_eq_zero_iff.1 (by simpa using this.symm))
  have hFR:FR jk N (frD fr v6k) a':=by
   refine ⟨fun t=> ?_,hd',by rw[hs',hBN]⟩
   show VR jk (frD fr v6k t) (tm a' t)
   unfold frD
   by_cases h6:t=6
   ·subst h6;rw[if_pos rfl,y3 6 (by omega) (by omega)];exact h.v6
   rw[if_neg h6]
   by_cases h32:t=32
   ·subst h32;rw[if_pos rfl,v32];rfl
   rw[if_neg h32]
   by_cases hw:wsB t=true
   ·rw[if_pos hw]
    refine qb8 ?_
    by_cases h31:t=31
    ·rw[h31];exact v31
    rw[y3 t h31 h32]
    by_cases h29:t=29
    ·rw[h29];exact h.v29
    by_cases h30:t=30
    ·rw[h30,h.v30];intro b hb;cases hb
    refine (h.on t ?_).2 hqs
    simp only[wsB,lbB,Bool.or_eq_true,Bool.and_eq_true,Nat.ble_eq,Nat.beq_eq] at hw⊢
    omega
   ·rw[if_neg hw]
    have hw':wsB t=false:=by simpa using hw
    have hne:t≠31:=by rintro rfl;exact absurd hw' (by decide)
    rw[y3 t hne h32]
    have:=h.off t hw'
    rw[hBeq] at this
    exact this
  have hmm:Mm X.G [.sl e (xs++ps.map fun p=>V.app p.1 p.2) false wfk] zk B.em mk B.k [v6k]:=by
   have:=h.mm
   rw[hBV,show B.xs=xs by rw[hBeq]] at this
   exact this
  obtain ⟨al,cl,hsl⟩:=(show OwF (X.G.T e) zk B.em mk B.k _ v6k from hmm.obj 0 _ v6k rfl rfl).ow.len
  have hRl:Rl X zk [v6k] [(6, .c (.own 0))] (frD fr v6k):=by
   intro d
   simp only[lkE]
   split
   ·rename_i hd
    have:=Nat.eq_of_beq_eq_true hd
    subst this
    exact ⟨rfl,by rw[show frD fr v6k 6=v6k from rfl,hsl];exact ⟨rfl,rfl⟩⟩
   ·trivial
  obtain ⟨n,ex,fr2,m2,hcode,z',vs',E',O',hin,hzx,hvs,hM',hRl',hKK⟩:=qfy hC (B:=Dc) (us:=[]) (L:=0) (by simp) Dc true [] _ _ (getD e) zs (qbj Dc) (Nat.zero_le _) (by simp) hmm hRl ((K.hD _ _).trans hzs)
  obtain ⟨rfl,hnb,h5',j0,wf',h4',hO4⟩:=qqB hKK
  obtain ⟨hCk,hSk⟩:=qbW hmix n
  refine qdH hmix hCk hSk n Dc (frD fr v6k) fr2 mk m2 .ret jk a' w3 Q hokD hcode h.post.rel h.wf_ hFR fun a4 w4 j4 hp4 hF4=> ?_
  have hP:Post P (itJ j m w) (itM m rm) w j4 m2 w4:=by
   have:=h.post.trans hp4
   rw[hBeq] at this
   exact this
  have h4r:=hRl' 4
  rw[h4'] at h4r
  have hv4:OwF (X.G.T e) z' (em.put rm .dead) m2 k zs (fr2 4):=by
   have:OwF (X.G.T e) z' B.em m2 B.k zs (fr2 4):=hM'.obj j0 _ _ hO4 h4r.1
   rw[hBeq] at this
   exact this
  have hst4:St z' (em.put rm .dead) m2 k:=by
   have:=hM'.st
   rw[hBeq] at this
   exact this
  have hzx4:Zx em.next (rmZ z rm) z':=by
   have:=h.zx.trans hzx
   rw[hBeq] at this
   exact this
  obtain ⟨js,hPs,hVs,hjs⟩:=qwq K.hva K.hfl K.hpos K.hcell hR hW hst hrm hmr hzf hP hst4 hzx4 hv4 (hF4.val 4) hzl
  refine hQ a4 w4 js hPs ⟨fun t=> ?_,hF4.defers,hF4.size⟩
  have keepD:∀t,¬(t=4∨t=5∨42≤t∧t≤44)→fr2 t=frD fr v6k t:=fun t ht=>qdG n Dc _ _ _ _ _ (Bool.eq_false_iff.2 fun hx=>ht (K.hwD t hx)) hcode
  have hv0:∀u,vs'[0]? =some u→nb u:=fun u hu=>by
   have:=hvs 0 v6k rfl
   rw[this] at hu
   cases hu
   rw[hsl];exact qgB
  show VR js (frS fr m.next zs.length t) (tm a4 t)
  have hft:VR j4 (fr2 t) (tm a4 t):=hF4.val t
  unfold frS
  by_cases c4:t=4
  ·subst c4;rw[if_pos rfl];exact hVs
  rw[if_neg c4]
  by_cases c5:t=5
  ·subst c5
   have h5r:=hRl' 5
   rw[h5'] at h5r
   rw[show fr2 5= .int .i64 0 from h5r] at hft
   rw[if_pos rfl]
   exact hft
  rw[if_neg c5]
  by_cases c42:42≤t∧t≤44
  ·have hws:¬t=32:=by omega
   rw[if_neg hws,if_pos (.inr c42)]
   exact qb8 (qlr hft (qpM hM' hv0 (hnb t c42.1 c42.2) (hRl' t)))
  have hkt:=keepD t (fun hh=>by rcases hh with hh|hh|hh;exact c4 hh;exact c5 hh;exact c42 hh)
  rw[hkt] at hft
  by_cases c32:t=32
  ·subst c32;rw[if_pos rfl];exact hft
  rw[if_neg c32]
  by_cases hw:wsB t=true
  ·rw[if_pos (.inl hw)]
   refine qb8 ?_
   by_cases h6:t=6
   ·subst h6
    rw[show frD fr v6k 6=v6k from rfl] at hft
    exact qlr hft (by rw[hsl];exact qgB)
   ·rw[show frD fr v6k t=any by unfold frD;rw[if_neg h6,if_neg c32,if_pos hw]] at hft
    exact hft
  ·rw[if_neg (fun hh=>by rcases hh with hh|hh;exact hw hh;exact c42 hh)]
   have h6:t≠6:=by rintro rfl;exact hw (by decide)
   rw[show frD fr v6k t=fr t by unfold frD;rw[if_neg h6,if_neg c32,if_neg hw]] at hft
   refine ((qbV (n:=m.next)).2.2 hft (hF.low hR t)).mono fun b q hb=> ?_
   obtain ⟨hb1,hb2⟩:=qaC hb
   have h1:j4 b=itJ j m w b:=hP.ext b (Nat.lt_succ_of_lt hb1)
   rw[qfA (by omega)] at h1
   rw[hjs b hb1,←h1]
   exact hb2
end
end
end Go.AM
end
section
set_option linter.unusedSimpArgs false
set_option linter.unusedVariables false
set_option linter.unusedSectionVars false
namespace Go.AM
open Go.Sort Go.Shelf Go.Proofs
noncomputable def srtL {α:Type} [Inhabited α] (cf:α→α→Int) (xs:List α):List α:=(pdq (ltOf cf) xs.toArray 0 xs.toArray.size (Lib.bitLen xs.toArray.size) true true).toList
noncomputable def srtI {α:Type} [Inhabited α] (cf:α→α→Int) (xs:List α):Option (List α):=if xs.length<4611686018427387904 then some (srtL cf xs) else none
noncomputable def rngM {α β γ:Type} (key:α→Int) (app:β→γ→α) (srt:List α→Option (List α)) (xs:List α) (es:List (β×γ)):Option (List α×Int):=
 if xs.length+es.length≤4294967296∧((xs++es.map fun p=>app p.1 p.2).map key).Nodup then Option.bind (srt (xs++es.map fun p=>app p.1 p.2)) fun zs=>some (zs,0) else none
def cmpI (x y:Int):Int:=Lib.compareInt x y
section
variable {α:Type} [Inhabited α]
theorem qlE (x y:Int):decide (cmpI x y<0)=decide (x<y):=by
 unfold cmpI Lib.compareInt
 by_cases h1:x<y
 ·simp[h1]
 ·by_cases h2:x>y<;>simp[h1,h2]
theorem qbJ (f:α→Int):SWO (ltOf fun x y=>cmpI (f x) (f y)):=by
 have e:∀x y,ltOf (fun x y=>cmpI (f x) (f y)) x y=decide (f x<f y):=fun x y=>qlE _ _
 refine ⟨fun x=> ?_,fun x y z h1 h2=> ?_,fun x y z h1 h2=> ?_⟩
 ·rw[e];simp
 ·rw[e] at*;simp at*;omega
 ·rw[e] at*;simp at*;omega
theorem qdY (cf:α→α→Int) (hO:SWO (ltOf cf)) (xs:List α):PermIn 0 xs.length xs.toArray (srtL cf xs).toArray∧SortedIn (ltOf cf) 0 xs.length (srtL cf xs).toArray:=by
 have h:=pdq_sorts (ltOf cf) hO xs.toArray 0 xs.toArray.size (Lib.bitLen xs.toArray.size) true true (Nat.zero_le _) (Nat.le_refl _) (Or.inl rfl)
 have e:(srtL cf xs).toArray=pdq (ltOf cf) xs.toArray 0 xs.toArray.size (Lib.bitLen xs.toArray.size) true true:=by unfold srtL;simp
 rw[e]
 simpa using h
theorem qdC (cf:α→α→Int) (hO:SWO (ltOf cf)) (xs:List α):(srtL cf xs).length=xs.length:=by
 have:=(qdY cf hO xs).1.1
 simpa using this
theorem qbR (cf:α→α→Int) (hO:SWO (ltOf cf)) (xs:List α):(srtL cf xs).Perm xs:=by
 have h:=(qdY cf hO xs).1
 have hl:=qdC cf hO xs
 have h2:=h.2.2
 have e1:((srtL cf xs).toArray.extract 0 xs.length).toList=srtL cf xs:=by simp[←hl]
 have e2:(xs.toArray.extract 0 xs.length).toList=xs:=by simp
 rw[e1,e2] at h2
 exact h2
theorem qc2 (f:α→Int) (xs:List α):(srtL (fun x y=>cmpI (f x) (f y)) xs).Pairwise fun x y=>f x≤f y:=by
 have hO:=qbJ f
 have h:=(qdY _ hO xs).2
 have hl:=qdC _ hO xs
 rw[List.pairwise_iff_getElem]
 intro i j hi hj hij
 have:=h i j (Nat.zero_le _) hij (by omega)
 have e:∀x y,ltOf (fun x y=>cmpI (f x) (f y)) x y=decide (f x<f y):=fun x y=>qlE _ _
 rw[e] at this
 have hi':(srtL (fun x y=>cmpI (f x) (f y)) xs).toArray[i]! =(srtL (fun x y=>cmpI (f x) (f y)) xs)[i]:=by rw[getElem!_pos _ _ (by simpa using hi)];simp
 have hj':(srtL (fun x y=>cmpI (f x) (f y)) xs).toArray[j]! =(srtL (fun x y=>cmpI (f x) (f y)) xs)[j]:=by rw[getElem!_pos _ _ (by simpa using hj)];simp
 rw[hi',hj'] at this
 simp at this
 omega
theorem qeM {enc:α→List Value} {k:Nat} (hk:∀x,(enc x).length=k):∀(xs:List α) (t:Nat),t<xs.length*k→(xs.flatMap enc)[t]? =some ((enc xs.toArray[t / k]!)[t%k]!)
 |[],t,h=>by simp at h
 |x::xs,t,h=>by
  have k0:0<k:=by
   rcases Nat.eq_zero_or_pos k with h0|h0;·subst h0;simp at h
   ·exact h0
  rw[List.flatMap_cons,List.getElem?_append]
  split
  ·rename_i hlt
   rw[hk] at hlt
   have h1:t / k=0:=Nat.div_eq_of_lt hlt
   have h2:t%k=t:=Nat.mod_eq_of_lt hlt
   rw[h1,h2]
   have:t<(enc x).length:=by rw[hk];exact hlt
   simp[List.getElem?_eq_getElem this,getElem!_pos (enc x) t this]
  ·rename_i hge
   rw[hk] at hge⊢
   have hge:k≤t:=by omega
   rw[qeM hk xs (t - k) (by simp only[List.length_cons,Nat.add_mul] at h;omega)]
   have h1:t / k=(t - k) / k+1:=by rw[←Nat.sub_add_cancel hge,Nat.add_div_right _ k0];simp
   have h2:t%k=(t - k)%k:=by rw[←Nat.sub_add_cancel hge,Nat.add_mod_right];simp
   have hlt:(t - k) / k<xs.length:=by
    rw[Nat.div_lt_iff_lt_mul k0]
    simp only[List.length_cons,Nat.add_mul] at h;omega
   rw[h1,h2]
   congr 3
   simp[getElem!_pos xs.toArray ((t - k) / k) (by simpa using hlt),getElem!_pos (x::xs).toArray ((t - k) / k+1) (by simpa using hlt)]
theorem qdc {enc:α→List Value} {k:Nat} (hk:∀x,(enc x).length=k) (xs:List α):(xs.flatMap enc).length=xs.length*k:=by
 induction xs with
 |nil=>simp
 |cons x xs ih=>rw[List.flatMap_cons,List.length_append,hk,ih,List.length_cons,Nat.add_mul];omega
variable {P:Program} {ρ:Ren}
theorem qoH (L:SlLaysF0.n6 P ρ) {f g k:Nat} (hf:ρ.f 6=f) (aE:∀w,(isAgg (ρ.t 24)).run P w= .ok true w) (zE:∀w,(Go.sizeOf (ρ.t 24)).run P w= .ok k w) (enc:α→List Value) (hk:∀x,(enc x).length=k) (h1:∀x,(enc x).all qah=true)
  (cf:α→α→Int) (hO:SWO (ltOf cf)) (eg:∀args w,(callFunc g args).run P w= .ok (.enter g args) w)
  (hcl:∀(x y:α) (W:World),Calls P g #[.agg (enc x).toArray, .agg (enc y).toArray] W fun e w'=>e= .returned (.int .i64 (cf x y))∧∃q os',w'=grow (W.drewN q) os')
  (xs:List α) (hsz:xs.length<4611686018427387904) (hk0:0<k) (hx0:0<xs.length):qro P f (.func (.func g) #[] #[]) xs.length (xs.flatMap enc) ((srtL cf xs).flatMap enc):=by
 subst hf
 intro w blk off cap cs t fz hw hF hfz
 have hlF:=qdc hk xs
 have hH:HoldsK enc k w blk off xs.toArray:=by
  intro j hj
  rw[size_flatK] at hj
  have hj:j<xs.length*k:=by simpa using hj
  have hg:=qeM hk xs j hj
  have hc:=hF j _ hg
  have hlt:off+j<cs.size:=(Array.getElem?_eq_some_iff.1 hc).1
  refine ⟨?_, ?_⟩
  ·rw[get_flatK enc k xs.toArray j (by simpa using hj)]
   simp[World.cell?,hw,hc]
  ·simp only[World.frozen?,hw]
   have:=hfz (off+j) hlt
   simp only[Bool.and_eq_false_iff,decide_eq_false_iff_not]
   by_cases h1:fz.1≤off+j
   ·right;exact fun h2=>this ⟨h1,h2⟩
   ·left;exact h1
 have hblk:blk<w.heap.size:=by
  rcases Nat.lt_or_ge blk w.heap.size with h|h
  ·exact h
  ·rw[Array.getElem?_eq_none h] at hw;cases hw
 have hcell:∀x,∀v∈enc x,v.oneCell'=true:=fun x v hv=>(qhT (j:=fun _=>none) (List.all_eq_true.1 (h1 x) v hv)).one
 refine (AnyQ.slices_SortFunc_eq L k aE zE enc hk hcell cf hO g #[] blk off cap xs.toArray w eg (fun m os dk _ x y=>hcl x y _) hH hblk (by simpa using hsz)).mono ?_
 rintro e w' ⟨rfl,n,os,rfl⟩
 have hp:(pdq (ltOf cf) xs.toArray 0 xs.toArray.size (Lib.bitLen xs.toArray.size) true true)=(srtL cf xs).toArray:=by unfold srtL;simp
 rw[hp]
 have hls:=qdC cf hO xs
 have hsize:(sortWorldK enc k w blk off n (srtL cf xs).toArray os).heap.size=w.heap.size+os.size:=by
  simp[sortWorldK,grow,putRowK,putRow,mapBlock,Sort.ahead]
 have hget:∀c,c<w.heap.size→(sortWorldK enc k w blk off n (srtL cf xs).toArray os).heap[c]? =(w.heap.modify blk (onCells (putCells id off (flatK enc k (srtL cf xs).toArray))))[c]? :=by
  intro c hc
  simp only[sortWorldK,grow,putRowK,putRow,mapBlock,Sort.ahead]
  rw[Array.getElem?_append_left (by simpa using hc)]
 refine ⟨rfl,rfl,rfl,rfl,by rw[hsize];omega,fun c hc hcb=> ?_, ?_⟩
 ·rw[hget c hc,Array.getElem?_modify,if_neg (by omega)]
 ·rw[hget blk hblk,Array.getElem?_modify,if_pos rfl,hw]
  simp only[Option.map_some,onCells]
  congr 2
  have hle:off+(xs.flatMap enc).length≤cs.size:=by
   have hpos:0<xs.length*k:=Nat.mul_pos hx0 hk0
   have hlast:=List.getElem?_eq_getElem (l:=xs.flatMap enc) (i:=(xs.flatMap enc).length - 1) (by omega)
   have:=(Array.getElem?_eq_some_iff.1 (hF _ _ hlast)).1
   omega
  apply Array.ext_getElem?
  intro i
  have hle2:off+((srtL cf xs).flatMap enc).length≤cs.toList.length:=by rw[qdc hk,hls,←hlF,Array.length_toList];exact hle
  have e1:((setN cs.toList off ((srtL cf xs).flatMap enc)).toArray)[i]? =if off≤i∧i<off+((srtL cf xs).flatMap enc).length then ((srtL cf xs).flatMap enc)[i - off]? else cs.toList[i]? :=by
   rw[←qaR _ _ _ _ hle2];simp
  rw[e1]
  simp only[putCells]
  rw[Array.getElem?_mapIdx,size_flatK]
  by_cases hin:off≤i∧i<off+((srtL cf xs).flatMap enc).length
  ·rw[if_pos hin]
   have hl2:=qdc hk (srtL cf xs)
   have hics:i<cs.size:=by rw[hl2,hls,←hlF] at hin;omega
   rw[Array.getElem?_eq_getElem hics]
   simp only[Option.map_some]
   rw[if_pos ⟨hin.1,by rw[hl2] at hin;simpa using hin.2⟩]
   have:=qeM hk (srtL cf xs) (i - off) (by rw[←hl2];omega)
   rw[this,get_flatK enc k _ _ (by rw[hl2] at hin;simp;omega)]
   rfl
  ·rw[if_neg hin]
   have hl2:=qdc hk (srtL cf xs)
   have:¬(off≤i∧i<off+(srtL cf xs).toArray.size*k):=by rw[hl2] at hin;simpa using hin
   simp only[this,if_false]
   cases hc:cs[i]? with
   |none=>simp[hc]
   |some v=>simp[hc]
end
noncomputable section
section
variable {P:Program} {D:Nat→Type} {G:Tab D}
def allS:List LC→Bool
 |[]=>true
 | .sl _::_=>false
 | .mp _ _ _::_=>false
 | .fn::_=>false
 |_::ls=>allS ls
theorem qf6 {z:Nat→Blk}:∀{ls:List LC} {x:inL (toT G ls)} {ds:List Value},allS ls=true→rdL z (toT G ls) x ds→ds=lvV ls x
 |[],_,[],_,_=>rfl
 |[],_,_::_,_,h=>h.elim
 | .int k::ls,x,d::ds,h,e=>by
  have h1:d= .int k x.1:=e.1
  rw[lvV,h1,←qf6 (ls:=ls) h e.2]
 | .bool::ls,x,d::ds,h,e=>by
  have h1:d= .bool x.1:=e.1
  rw[lvV,h1,←qf6 (ls:=ls) h e.2]
 | .str::ls,x,d::ds,h,e=>by
  have h1:d=AM.str x.1:=e.1
  rw[lvV,h1,←qf6 (ls:=ls) h e.2]
 | .sl _::_,_,_,h,_=>by cases h
 | .mp _ _ _::_,_,_,h,_=>by cases h
 | .fn::_,_,_,h,_=>by cases h
 | .int _::_,_,[],_,h=>h.elim
 | .bool::_,_,[],_,h=>h.elim
 | .str::_,_,[],_,h=>h.elim
theorem qf5 {z:Nat→Blk}:∀{ls:List LC} {x:inL (toT G ls)},allS ls=true→rdL z (toT G ls) x (lvV ls x)
 |[],_,_=>trivial
 | .int k::ls,x,h=>⟨rfl,qf5 (ls:=ls) h⟩
 | .bool::ls,x,h=>⟨rfl,qf5 (ls:=ls) h⟩
 | .str::ls,x,h=>⟨rfl,qf5 (ls:=ls) h⟩
 | .sl _::_,_,h=>by cases h
 | .mp _ _ _::_,_,h=>by cases h
 | .fn::_,_,h=>by cases h
theorem qcb:∀{ls:List LC} {x:inL (toT G ls)},allS ls=true→(lvV ls x).all qah=true
 |[],_,_=>rfl
 | .int k::ls,x,h=>by simp only[lvV,List.all_cons,qcb (ls:=ls) (x:=x.2) h];rfl
 | .bool::ls,x,h=>by simp only[lvV,List.all_cons,qcb (ls:=ls) (x:=x.2) h];rfl
 | .str::ls,x,h=>by simp only[lvV,List.all_cons,qcb (ls:=ls) (x:=x.2) h];rfl
 | .sl _::_,_,h=>by cases h
 | .mp _ _ _::_,_,h=>by cases h
 | .fn::_,_,h=>by cases h
theorem allS_len:∀{ls:List LC} {x:inL (toT G ls)},(lvV ls x).length=ls.length
 |[],_=>rfl
 | .int k::ls,x=>by simp only[lvV,List.length_cons,allS_len (ls:=ls)]
 | .bool::ls,x=>by simp only[lvV,List.length_cons,allS_len (ls:=ls)]
 | .str::ls,x=>by simp only[lvV,List.length_cons,allS_len (ls:=ls)]
 | .sl _::ls,x=>by simp only[lvV,List.length_cons,allS_len (ls:=ls)]
 | .mp _ _ _::ls,x=>by simp only[lvV,List.length_cons,allS_len (ls:=ls)]
 | .fn::ls,x=>by simp only[lvV,List.length_cons,allS_len (ls:=ls)]
def siOf {t:Nat} (ls:List LC) (to:D t→inL (toT G ls)) (hT:G.T t=TyOf t (toT G ls) to) (ha:allS ls=true) (x0:D t) (key:D t→Int) {ρ:Ren} (L:SlLaysF0.n6 P ρ) (f g:Nat) (hf:ρ.f 6=f) (ok:okFn P f=true)
  (aE:∀w,(isAgg (ρ.t 24)).run P w= .ok true w) (zE:∀w,(Go.sizeOf (ρ.t 24)).run P w= .ok ls.length w) (eg:∀args w,(callFunc g args).run P w= .ok (.enter g args) w) (hpos:Nat.blt 0 ls.length=true)
  (hcl:∀(x y:D t) (W:World),Calls P g #[.agg (lvV ls (to x)).toArray, .agg (lvV ls (to y)).toArray] W fun e w'=>e= .returned (.int .i64 (cmpI (key x) (key y)))∧∃q os',w'=grow (W.drewN q) os'):SI P G where
 f:=f
 g:=g
 e:=t
 srt:= @srtI (D t) ⟨x0⟩ fun x y=>cmpI (key x) (key y)
 va:=fun x=>lvV ls (to x)
 hv:=fun z x ds h=>by rw[hT] at h;exact qf6 ha h
 hr:=fun z x=>by rw[hT];exact qf5 ha
 hf:=fun x=>qcb ha
 ok:=ok
 h0:=fun p cap w=>by subst hf;exact AnyF.slices_SortFunc_none L p cap _ w
 hn:=fun xs ys h=>by
  letI:Inhabited (D t):=⟨x0⟩
  unfold srtI at h
  split at h
  ·cases h;exact qdC _ (qbJ key) xs
  ·cases h
 hs:=fun xs ys h h0=>by
  letI:Inhabited (D t):=⟨x0⟩
  unfold srtI at h
  split at h
  ·rename_i hlt
   cases h
   exact qoH L hf aE zE (fun x=>lvV ls (to x)) (fun _=>allS_len) (fun _=>qcb ha) (fun x y=>cmpI (key x) (key y)) (qbJ key) eg hcl xs hlt (Nat.le_of_ble_eq_true hpos) h0
  ·cases h
end
end
end Go.AM
end
section
set_option linter.unusedSimpArgs false
set_option linter.unusedVariables false
namespace Go.AM
noncomputable section
theorem qd6 {α:Type} {f:α→Int}:∀{l:List α},(l.map f).Nodup→∀{a b:α},a∈l→b∈l→f a=f b→a=b
 |[],_,_,_,ha,_,_=>by cases ha
 |x::l,hn,a,b,ha,hb,he=>by
  obtain ⟨h1,h2⟩:=List.nodup_cons.1 hn
  rcases List.mem_cons.1 ha with rfl|ha'<;>rcases List.mem_cons.1 hb with rfl|hb'
  ·rfl
  ·exact absurd (he▸List.mem_map_of_mem (f:=f) hb') h1
  ·exact absurd (he▸List.mem_map_of_mem (f:=f) ha') h1
  ·exact qd6 h2 ha' hb' he
section
variable {P:Program} {D:Nat→Type} {X:Ev P D}
def frE (fr:Nat→Value):Nat→Value:=fun t=>if t=32 then .bool false else if t=29∨t=30∨t=31 then any else fr t
theorem qri {e kt vt t i7 bid i8 bid2 i9 i10:Nat} {O7 O8 O9 O10:Array Oper} {Dc:Code} {V:LV P X e kt vt} {srt:List (D e)→Option (List (D e))} {va:D e→List Value} (K:RK X e kt vt t i7 bid i8 bid2 i9 i10 O7 O8 O9 O10 Dc V srt va)
  (hC:COk X) (hmix:P.follows .mixedOrders=true) (hok0:qat 45 Dc=true) {ρ:Type} {Kf:AExit→List (Nat×SV D)→List (Ob D)→Option ρ} {r:ρ} {E:List (Nat×SV D)} {O:List (Ob D)} {em m:Mem} {z:Nat→Blk} {k:Option Nat} {vs:List Value} {fr:Nat→Value}
  (hD:exC X [] calm true [] Dc E O Kf=some r) (hM:Mm X.G O z em m k vs) (hE:Rl X z vs E (frE fr)) (h8:MpR (X.G.M t kt vt) z [] (fr 8)):
  W P (rngC i7 O7 bid i8 O8 32 bid2 i9 O9 i10 O10 Dc) (fun x=>Nx X O z em k vs (Kf x) r) fr m:=by
 obtain ⟨n,ex,fr2,m2,hcode,hnx⟩:=qfy hC (B:=Dc) (us:=[]) (L:=0) (by simp) Dc true [] _ _ Kf r (qbj Dc) (Nat.zero_le _) (by simp) hM hE hD
 obtain ⟨hCk,hSk⟩:=qbW hmix n
 refine W.ext (e:=ex) (fr':=fr2) (m':=m2) ?_ hnx
 have hw:∀i,(qaT (rngC i7 O7 bid i8 O8 32 bid2 i9 O9 i10 O10 Dc)).contains i=false→(qaT Dc).contains i=false∧frE fr i=fr i:=by
  intro i hi
  have h1:¬(i=4∨i=5∨i=32∨wsB i=true∨42≤i∧i≤44):=fun h=>by rw[K.hwT i h] at hi;cases hi
  refine ⟨Bool.eq_false_iff.2 fun hx=>h1 (by rcases K.hwD i hx with h|h|h<;>simp[h]), ?_⟩
  unfold frE
  rw[if_neg (fun h=>h1 (by simp[h])),if_neg (fun h=>h1 (.inr (.inr (.inr (.inl (by rcases h with h|h|h<;>rw[h]<;>rfl))))))]
 have hlow:∀{n:Nat},(∀t,low n (fr t))→∀t,low n (frE fr t):=fun hl t=>by
  unfold frE
  split
  ·trivial
  ·split
   ·trivial
   ·exact hl t
 refine ⟨qhJ (qdE n) n hcode,fun i hi=> ?_,fun hW hl=> ?_, ?_⟩
 ·rw[qdG n Dc _ _ _ _ _ (hw i hi).1 hcode];exact (hw i hi).2
 ·obtain ⟨h1,h2,_⟩:=qc7 hCk n Dc _ _ _ _ _ hok0 hcode hW (hlow hl)
  exact ⟨h1,h2⟩
 ·intro N j a w Q hok hR hW hF hQ
  have hokD:qat N Dc=true:=by
   simp only[rngC,qat,Bool.and_eq_true] at hok
   exact hok.2
  have hN:44<N:=qdr hok 44 (K.hwT 44 (.inr (.inr (.inr (.inr ⟨by omega,by omega⟩)))))
  have hN8:a.tmps.size=N:=hF.size
  obtain ⟨o1,l1,e1,d1,p1,gg1,t1⟩:=K.hro.h7.cons
  obtain ⟨o2,l2,e2,d2,p2,gg2,t2⟩:=t1.cons
  have e3:=t2.nil
  subst e3 e2
  dsimp only at d1 p1 d2 p2
  refine wp_seq (wp_seq (wp_region_list ?_))
  rw[e1]
  refine wpv gg1 (w':=w) (v:=tm a 8) (qkv p1) ?_
  rw[d1]
  obtain ⟨a1,ha1⟩:∃a1,a1=a.put (some 29) (tm a 8):=⟨_,rfl⟩
  have z1:a1.tmps.size=N∧a1.defers=[]:=by rw[ha1,qai.1,qai.2];exact ⟨hF.size,hF.defers⟩
  have y1:∀t,tm a1 t=if t=29 then tm a 8 else tm a t:=fun t=>by rw[ha1];exact qbz (by omega)
  rw[←ha1]
  obtain ⟨w1,it,hw1,hrun,hnext,hv8⟩:∃w1 it,w1=w.alloc it∧(Instr.range t (tm a 8)).run P w= .ok (.pointer (some ⟨w.heap.size,0,none⟩)) w1∧(∀ty,(Instr.next (.pointer (some ⟨w.heap.size,0,none⟩)) false ty).run P w1= .ok (.tuple #[.bool false]) w1)∧nb (tm a 8):=by
   have hv:=hF.val 8
   rcases h8 with ⟨h1,_⟩|⟨rm,h1,h2⟩
   ·rw[h1] at hv
    have hv:tm a 8= .map none:=hv
    rw[hv]
    exact ⟨_,_,rfl,run_range_nilMap w t kt vt K.hmt,fun ty=>run_next_nilMap w ty 0 0 #[],fun b hb=>by cases hb⟩
   ·rw[h1] at hv
    obtain ⟨q8,hj8,hc8⟩:∃q,j rm=some q∧tm a 8= .map (some q.blk):=hv
    have hzf:(z rm).fzn:=by rw[h2];trivial
    obtain ⟨kt',vt',cs,clk,E',g1,g2,g3,g4,g5⟩:ObjR P j q8 w.heap[q8.blk]? (.map ((X.G.M t kt vt).cells []) t):=by
     have:=hR.obj rm q8 hj8
     rw[(hM.st.fz.fzn hzf).1,h2] at this
     exact this
    rw[K.hmt] at g2
    cases g2
    have hE':=EntL.uniq K.hK.pos g3 (qgg K.hK K.hVl [])
    subst hE'
    have hcs:cs=#[]:=by
     have:=g4.length
     rw[show ((X.G.M t kt vt).ents []).length=0 from rfl] at this
     exact Array.eq_empty_of_size_eq_zero (by rw[←Array.length_toList];exact this.symm)
    subst hcs
    rw[hc8]
    have hal:=MapKept.heap_alloc w (.mapIter (some q8.blk) clk #[] clk)
    refine ⟨_,_,rfl,run_range_map w t kt vt q8.blk #[] clk K.hmt g1,fun ty=> ?_,fun b hb=>by cases hb⟩
    rcases run_next_at (P:=P) (w.alloc (.mapIter (some q8.blk) clk #[] clk)) ty w.heap.size q8.blk clk clk #[] #[] clk hal.1 (by rw[hal.2 _ (hR.lt rm q8 hj8).2];exact g1) (fun x hx=>by cases hx) (Nat.le_refl _) with ⟨_,h⟩|⟨x,hx,_⟩
    ·exact h
    ·have:=(mem_left hx).1;cases this
  refine wpv gg2 (w':=w1) (v:= .pointer (some ⟨w.heap.size,0,none⟩)) (by simp[execOp,p2,qaP,y1,hrun]) ?_
  rw[d2]
  obtain ⟨a2,ha2⟩:∃a2,a2=a1.put (some 30) (.pointer (some ⟨w.heap.size,0,none⟩)):=⟨_,rfl⟩
  have z2:a2.tmps.size=N∧a2.defers=[]:=by rw[ha2,qai.1,qai.2];exact z1
  have y2:∀t,tm a2 t=if t=30 then .pointer (some ⟨w.heap.size,0,none⟩) else tm a1 t:=fun t=>by rw[ha2];exact qbz (by rw[z1.1];omega)
  rw[←ha2]
  refine wpList_nil ?_
  show (Code.block bid _).wp P _ a2 w1
  refine wp_block (wp_loop_once ?_)
  obtain ⟨o3,l3,e3,d3,p3,gg3,t3⟩:=K.hro.h8.cons
  obtain ⟨o4,l4,e4,d4,p4,gg4,t4⟩:=t3.cons
  have e5:=t4.nil
  subst e5 e4
  dsimp only at d3 p3 d4 p4
  refine wp_seq (wp_region_list ?_)
  rw[e3]
  refine wpv gg3 (v:= .tuple #[.bool false]) (w':=w1) (by simp[execOp,p3,qaP,y2,hnext]) ?_
  rw[d3]
  obtain ⟨a3,ha3⟩:∃a3,a3=a2.put (some 31) (.tuple #[.bool false]):=⟨_,rfl⟩
  have z3:a3.tmps.size=N∧a3.defers=[]:=by rw[ha3,qai.1,qai.2];exact z2
  have y3:∀t,tm a3 t=if t=31 then .tuple #[.bool false] else tm a2 t:=fun t=>by rw[ha3];exact qbz (by rw[z2.1];omega)
  rw[←ha3]
  refine wpv gg4 (w':=w1) (qbx (vs:=#[.bool false]) (v:= .bool false) p4 (by rw[qaP,y3,if_pos rfl]) rfl) ?_
  rw[d4]
  obtain ⟨a4,ha4⟩:∃a4,a4=a3.put (some 32) (.bool false):=⟨_,rfl⟩
  have z4:a4.tmps.size=N∧a4.defers=[]:=by rw[ha4,qai.1,qai.2];exact z3
  have y4:∀t,tm a4 t=if t=32 then .bool false else tm a3 t:=fun t=>by rw[ha4];exact qbz (by rw[z3.1];omega)
  rw[←ha4]
  refine wpList_nil ?_
  refine wp_seq (wp_cond_false (by rw[show Act.eval _ (.tmp 32)=tm _ 32 from rfl,y4,if_pos rfl]) (wp_exit ?_))
  simp only[Exit.then,Exit.inBlock,if_true]
  have hP:=Post.iter hR it
  rw[←hw1] at hP
  have hFR:FR j N (frE fr) a4:=by
   refine ⟨fun t=> ?_,z4.2,z4.1⟩
   show VR j (frE fr t) (tm a4 t)
   unfold frE
   rw[y4,y3,y2,y1]
   by_cases h32:t=32
   ·rw[if_pos h32,if_pos h32];rfl
   rw[if_neg h32,if_neg h32]
   by_cases h31:t=31
   ·rw[if_pos (.inr (.inr h31)),if_pos h31];exact qb8 (fun b hb=>by cases hb)
   rw[if_neg h31]
   by_cases h30:t=30
   ·rw[if_pos (.inr (.inl h30)),if_pos h30];exact qb8 (fun b hb=>by cases hb)
   rw[if_neg h30]
   by_cases h29:t=29
   ·rw[if_pos (.inl h29),if_pos h29];exact qb8 hv8
   rw[if_neg h29,if_neg (fun h=>by rcases h with h|h|h;exact h29 h;exact h30 h;exact h31 h)]
   exact hF.val t
  exact qdH hmix hCk hSk n Dc (frE fr) fr2 m m2 ex j a4 w1 Q hokD hcode hP.rel hW hFR fun a5 w5 j5 hp5 hF5=>hQ a5 w5 j5 (hP.trans hp5) hF5
end
section
variable {α:Type} [Inhabited α]
theorem qnn (f:α→Int) {xs ys:List α} (hn:(xs.map f).Nodup) (hp:xs.Perm ys):srtI (fun x y=>cmpI (f x) (f y)) ys=srtI (fun x y=>cmpI (f x) (f y)) xs:=by
 unfold srtI
 rw[hp.length_eq]
 split
 ·congr 1
  have h1:(srtL (fun x y=>cmpI (f x) (f y)) ys).Perm (srtL (fun x y=>cmpI (f x) (f y)) xs):=(qbR _ (qbJ f) ys).trans (hp.symm.trans (qbR _ (qbJ f) xs).symm)
  have n1:((srtL (fun x y=>cmpI (f x) (f y)) xs).map f).Nodup:=((qbR _ (qbJ f) xs).map f).nodup_iff.2 hn
  refine h1.eq_of_pairwise (le:=fun x y=>f x≤f y) (fun a b ha hb hab hba=> ?_) (qc2 f ys) (qc2 f xs)
  have ha':a∈srtL (fun x y=>cmpI (f x) (f y)) xs:=h1.mem_iff.1 ha
  exact qd6 n1 ha' hb (Int.le_antisymm hab hba)
 ·rfl
end
end
end Go.AM
end
section
set_option linter.unusedSimpArgs false
set_option linter.unusedVariables false
namespace Go.AM
noncomputable section
section
variable {P:Program} {D:Nat→Type} {X:Ev P D}
def rngX (D:Nat→Type) (e:Nat):List (Ex D):=[⟨.ret,[.v 4 (.sl e), .v 5 (.int .i64)],[]⟩]
def rngP (D:Nat→Type) (path:List Nat) (e kt vt t:Nat):PD D:=⟨path,[.o 6 (.sl e), .v 8 (.mp t kt vt)],[(6, .c (.own 0))],[0],rngX D e,[]⟩
def rngF (path:List Nat) (e kt vt t:Nat) (key:D e→Int) (app:D kt→D vt→D e) (srt:List (D e)→Option (List (D e))):(rngP D path e kt vt t).F:=fun x=>rngM (α:=D e) (β:=D kt) (γ:=D vt) key app srt x.1 x.2.1
def zS (em:Mem) (z:Nat→Blk) (n:Nat) (x:Blk):Nat→Blk:=open Classical in fun b=>if b<em.next∨(z b).fzn then z b else if b=n then x else .dead
theorem qsZ {e kt vt t i7 bid i8 bid2 i9 i10:Nat} {O7 O8 O9 O10:Array Oper} {Dc:Code} {V:LV P X e kt vt} {srt:List (D e)→Option (List (D e))} {va:D e→List Value} (K:RK X e kt vt t i7 bid i8 bid2 i9 i10 O7 O8 O9 O10 Dc V srt va)
  (hC:COk X) (hmix:P.follows .mixedOrders=true) (hok0:qat 45 Dc=true) (key:D e→Int) (hperm:∀ys ys',(ys.map key).Nodup→ys.Perm ys'→srt ys'=srt ys) (hzl:∀ys zs,srt ys=some zs→zs.length=ys.length)
  (hD0:∀(ys:List (D e)) (wf:Bool),exC X [] calm true [] Dc [(6, .c (.own 0))] [.sl e ys false wf] (rdEx X 1 [0] (rngX D e))=Option.bind (srt ys) fun zs=>some ((zs,(0:Int)):List (D e)×Int))
  {B:Code} {path:List Nat} (hB:sub B path=rngC i7 O7 bid i8 O8 32 bid2 i9 O9 i10 O10 Dc):CC X B (rngP D path e kt vt t) (rngF path e kt vt t key V.app srt):=by
 intro x res z em m k vs0 fr hF hM hE
 obtain ⟨xs,es,hx⟩:∃(xs:List (D e)) (es:List (D kt×D vt)),x=(xs,es,()):=⟨x.1,x.2.1,rfl⟩
 subst hx
 have hF:rngM (α:=D e) (β:=D kt) (γ:=D vt) key V.app srt xs es=some res:=hF
 unfold rngM at hF
 obtain ⟨⟨hlen,hnd⟩,hF⟩:=ite_some hF
 obtain ⟨zs,hs,hF⟩:=Option.bind_eq_some_iff.1 hF
 cases hF
 have hM:Mm X.G [.sl e xs false false] z em m k vs0:=hM
 obtain ⟨v6,rfl⟩:∃v6,vs0=[v6]:=by
  have:=hM.len
  match vs0,this with
  |[v],_=>exact ⟨v,rfl⟩
 have hE:Rl X z [v6] [(8, .c (.mp t kt vt es)),(6, .c (.own 0))] fr:=hE
 have h6:fr 6=v6:=by
  have:([v6]:List Value)[0]? =some (fr 6)∧_:=hE 6
  exact (Option.some.inj this.1).symm
 have h8:MpR (X.G.M t kt vt) z es (fr 8):=hE 8
 rw[show (rngP D path e kt vt t).path=path from rfl,hB]
 cases es with
 |nil=>
  have hs:srt xs=some zs:=by simpa using hs
  have hD:=hD0 xs false
  rw[hs] at hD
  have hD:exC X [] calm true [] Dc [(6, .c (.own 0))] [.sl e xs false false] (rdEx X 1 [0] (rngX D e))=some ((zs,(0:Int)):List (D e)×Int):=hD
  refine (qri K hC hmix hok0 hD hM (fun d=> ?_) h8).mono ?_
  ·simp only[lkE]
   split
   ·rename_i hd
    have:=Nat.eq_of_beq_eq_true hd
    subst this
    exact hE 6
   ·trivial
  ·rintro ex fr1 m1 ⟨z1,vs1,E1,O1,h0,h1,h2,h3,h4,h5⟩
   obtain ⟨xx,y,g1,g2,g3,g4⟩:=qcq h5
   obtain ⟨z2,nv,k1,k2,k3⟩:=qe3 (X:=X) (ins:=(rngP D path e kt vt t).ins) (ks:=[0]) (x:=(xs,[],())) (vs0:=[v6]) h0 h2 rfl h3 h4 g3
   exact ⟨z2,nv,xx,y,g1,g2,g4,h1.trans k1,k2,k3⟩
 |cons p0 es0=>
  obtain ⟨es,hes⟩:∃es,es=p0::es0:=⟨_,rfl⟩
  rw[←hes] at hlen hnd hs h8 hE
  have hne:es≠[]:=by rw[hes];simp
  obtain ⟨rm,h8,hzr⟩:∃rm,fr 8= .map (some rm)∧z rm= .map ((X.G.M t kt vt).cells es) t:=by
   rcases h8 with ⟨_,h⟩|h
   ·exact absurd h hne
   ·exact h
  have hzl0:0<zs.length:=by
   rw[hzl _ _ hs,List.length_append,List.length_map,hes,List.length_cons];omega
  have hex:=qrh K hC hmix hlen (fun ps hp=> ?_) hne hzl0 hM h6 h8 hzr
  ·refine W.ext hex ?_
   have hst:=hM.st
   have hnf:¬(z m.next).fzn:=fun h=>by have:=(hst.fz.fzn h).2;omega
   have hnl:¬m.next<em.next:=by have:=hst.next;omega
   have hzn:zS em z m.next (.own (zs.flatMap va) (X.G.T e).tid) m.next= .own (zs.flatMap va) (X.G.T e).tid:=by
    unfold zS
    rw[if_neg (fun h=>by rcases h with h|h;exact hnl h;exact hnf h),if_pos rfl]
   have hzo:∀b,b<em.next∨(z b).fzn→zS em z m.next (.own (zs.flatMap va) (X.G.T e).tid) b=z b:=fun b hb=>by
    unfold zS
    rw[if_pos hb]
   refine ⟨zS em z m.next (.own (zs.flatMap va) (X.G.T e).tid),[],⟨.ret,[.v 4 (.sl e), .v 5 (.int .i64)],[]⟩,((zs,(0:Int)):List (D e)×Int),List.mem_cons_self,rfl,fun K=>rfl,⟨fun b hb=>hzo b (.inr hb),fun b hb=>hzo b (.inl hb)⟩, ?_, ?_⟩
   ·show Mm X.G [.dead] _ em _ k [v6]
    refine ⟨⟨fun b hb=> ?_,fun b hb=>qiG hb,hst.dead0,Nat.le_trans hst.next (Nat.le_succ _),fun b hb hk=> ?_⟩,rfl,fun i o u hi hu=> ?_,fun i i' o p u u' hne hi hi' hl _ _ _=> ?_⟩
    ·show _∧b<m.next+1
     by_cases h:b<em.next∨(z b).fzn
     ·rw[hzo b h] at hb⊢
      have:=hst.fz b hb
      refine ⟨?_,by omega⟩
      rw[qiH this.2 (by
       rcases h with h|h
       ·exact .inl ⟨h, .inr hb⟩
       ·exact .inr h)]
      exact this.1
     ·by_cases hn:b=m.next
      ·rw[hn,hzn,qf7];exact ⟨rfl,Nat.lt_succ_self _⟩
      ·unfold zS at hb
       rw[if_neg h,if_neg hn] at hb
       exact absurd rfl hb
    ·have:=hst.next
     rw[qiH (by omega) (.inl ⟨hb, .inl hk⟩)]
     exact hst.kept b hb hk
    ·cases i with
     |zero=>cases hi;trivial
     |succ i=>cases hi
    ·cases i with
     |zero=>cases hi;cases hl
     |succ i=>cases hi
   ·intro q hq
    have hq:q=(4, .c (.sl e zs))∨q=(5, .c (.int .i64 0)):=by
     have:q∈[((4:Nat),(SV.c (.sl e zs):SV D)),(5, .c (.int .i64 0))]:=hq
     simpa using this
    rcases hq with rfl|rfl
    ·have hlv:∀x∈zs,(va x).length=(X.G.T e).sz:=fun x _=>(X.G.T e).len _ _ _ (K.hrd z x)
     show SlR (X.G.T e) _ zs (.slice (some ⟨m.next,0,none⟩) zs.length BIG)
     refine .inr ⟨m.next,0,BIG,rfl,by rw[hzn];trivial, .inl ⟨rfl,_,hzn,by rw[qdd hlv];omega⟩,fun i x hx=>⟨va x,K.hrd _ _,fun j v hv=> ?_⟩⟩
     show ldz _ m.next _=some v
     rw[ldz,hzn,Nat.zero_add]
     exact qiT hlv i j x v hx hv
    ·rfl
  ·have hpm:(xs++es.map fun p=>V.app p.1 p.2).Perm (xs++ps.map fun p=>V.app p.1 p.2):=(hp.symm.map _).append_left xs
   rw[hperm _ _ hnd hpm]
   exact hs
def opsA:Code→Array Oper
 | .region _ ops _=>ops
 |_=>#[]
def idA:Code→Nat
 | .region i _ _=>i
 | .block i _=>i
 |_=>0
theorem OpsAre.of:∀{l:List Oper} {ps:List (Option Nat×Op)},(l.map fun o=>(o.dst,o.op,o.guard))=ps.map (fun p=>(p.1,p.2,none))→OpsAre l ps
 |[],[],_=>trivial
 |[],_::_,h=>by cases h
 |_::_,[],h=>by cases h
 |o::l,p::ps,h=>by
  simp only[List.map_cons,List.cons.injEq,Prod.mk.injEq] at h
  exact ⟨h.1,OpsAre.of h.2⟩
def w10B (l:List Nat):Bool:=l.all fun d=>Nat.beq d 6||(Nat.ble 36 d&&Nat.ble d 41)
def wDB (l:List Nat):Bool:=l.all fun d=>Nat.beq d 4||(Nat.beq d 5||(Nat.ble 42 d&&Nat.ble d 44))
def wTB (l:List Nat):Bool:=[4,5,6,9,10,29,30,31,32,33,34,35,36,37,38,39,40,41,42,43,44].all fun d=>l.contains d
theorem qvP {l:List Nat} (h:w10B l=true) (t:Nat) (ht:wsB t=false∨t=29∨t=30∨t=31∨t=32∨t=33∨t=34∨t=35∨t=9∨t=10):l.contains t=false:=by
 refine Bool.eq_false_iff.2 fun hc=> ?_
 have:=List.all_eq_true.1 h t (by simpa using hc)
 simp only[Bool.or_eq_true,Bool.and_eq_true,Nat.ble_eq,Nat.beq_eq] at this
 have hw:wsB t=true:=by
  simp only[wsB,Bool.or_eq_true,Bool.and_eq_true,Nat.ble_eq,Nat.beq_eq];omega
 rcases ht with ht|ht
 ·rw[hw] at ht;cases ht
 ·omega
theorem qxo {l:List Nat} (h:wDB l=true) (t:Nat) (ht:l.contains t=true):t=4∨t=5∨42≤t∧t≤44:=by
 have:=List.all_eq_true.1 h t (by simpa using ht)
 simpa only[Bool.or_eq_true,Bool.and_eq_true,Nat.ble_eq,Nat.beq_eq] using this
theorem qxp {l:List Nat} (h:wTB l=true) (t:Nat) (ht:t=4∨t=5∨t=32∨wsB t=true∨42≤t∧t≤44):l.contains t=true:=by
 refine List.all_eq_true.1 h t ?_
 simp only[wsB,Bool.or_eq_true,Bool.and_eq_true,Nat.ble_eq,Nat.beq_eq] at ht
 simp only[List.mem_cons,List.not_mem_nil,or_false]
 omega
def lvI (P:Program) (X:Ev P D) (e kt vt:Nat) (k k':IntKind) (hk:D kt=Int) (hv:D vt=Int) (app:D kt→D vt→D e):LV P X e kt vt where
 app:=app
 sk:=fun a=> .c (.int k (cast hk a))
 sv:=fun b=> .c (.int k' (cast hv b))
 kV:=fun a=> .int k (cast hk a)
 vV:=fun b=> .int k' (cast hv b)
 hk:=fun _ _ _=>rfl
 hv:=fun _ _ _=>rfl
 nk:=fun _ b h=>by cases h
 nv:=fun _ b h=>by cases h
 fk:=fun _=>rfl
 fv:=fun _=>rfl
theorem qna {e kt vt t:Nat} (hC:COk X) (hmix:P.follows .mixedOrders=true) {B:Code} {path:List Nat} (k k':IntKind) (hk:D kt=Int) (hv:D vt=Int) (app:D kt→D vt→D e) (x0:D e) (key:D e→Int)
  (hB:sub B path=rngC (idA (sub B (path++[0,0]))) (opsA (sub B (path++[0,0]))) (idA (sub B (path++[0,1]))) (idA (sub B (path++[0,1,0,0,0]))) (opsA (sub B (path++[0,1,0,0,0]))) 32 (idA (sub B (path++[0,1,0,0,1,1])))
   (idA (sub B (path++[0,1,0,0,1,1,0,0]))) (opsA (sub B (path++[0,1,0,0,1,1,0,0]))) (idA (sub B (path++[0,1,0,0,1,1,0,1]))) (opsA (sub B (path++[0,1,0,0,1,1,0,1]))) (sub B (path++[1])))
  (h7:((opsA (sub B (path++[0,0]))).toList.map fun o=>(o.dst,o.op,o.guard))=[(some 29, .move (.tmp 8),none),(some 30, .range t (.tmp 29),none)])
  (h8:((opsA (sub B (path++[0,1,0,0,0]))).toList.map fun o=>(o.dst,o.op,o.guard))=[(some 31, .next (.tmp 30) false,none),(some 32, .extract (.tmp 31) 0,none)])
  (h9:((opsA (sub B (path++[0,1,0,0,1,1,0,0]))).toList.map fun o=>(o.dst,o.op,o.guard))=[(some 33, .entry (.tmp 30),none),(some 34, .extract (.tmp 33) 0,none),(some 35, .extract (.tmp 33) 1,none),(some 9, .assign (.tmp 34),none),(some 10, .assign (.tmp 35),none)])
  (hmt:P.underlying t=some (.map kt vt)) (hK:KeyOk P kt (X.G.kc kt)) (hVl:ValOk P vt (X.G.kc vt))
  (hkV:∀a,qal (qaj P kt) (X.G.kc kt a)= .int k (cast hk a)) (hvV:∀a,qal (qaj P vt) (X.G.kc vt a)= .int k' (cast hv a))
  (hw:(w10B (dsts (opsA (sub B (path++[0,1,0,0,1,1,0,1]))))&&(wDB (qaT (sub B (path++[1])))&&wTB (qaT (sub B path))))=true)
  (hb:∀(a:D kt) (b:D vt) (ys:List (D e)) (wf:Bool),runL X (opsA (sub B (path++[0,1,0,0,1,1,0,1]))).toList (opsA (sub B (path++[0,1,0,0,1,1,0,1]))).toList [(6, .c (.own 0)),(9, .c (.int k (cast hk a))),(10, .c (.int k' (cast hv b)))] [.sl e ys false wf] (getR e)=Option.bind (appI ys [app a b]) fun r=>some r)
  (hD:∀(ys:List (D e)) (wf:Bool),exC X [] calm true [] (sub B (path++[1])) [(6, .c (.own 0))] [.sl e ys false wf] (getD e)=Option.bind (@srtI (D e) ⟨x0⟩ (fun x y=>cmpI (key x) (key y)) ys) fun r=>some r)
  (hD0:∀(ys:List (D e)) (wf:Bool),exC X [] calm true [] (sub B (path++[1])) [(6, .c (.own 0))] [.sl e ys false wf] (rdEx X 1 [0] (rngX D e))=Option.bind (@srtI (D e) ⟨x0⟩ (fun x y=>cmpI (key x) (key y)) ys) fun zs=>some ((zs,(0:Int)):List (D e)×Int))
  {va:D e→List Value} (hva:∀z x ds,(X.G.T e).rd z x ds→ds=va x) (hrd:∀z x,(X.G.T e).rd z x (va x)) (hfl:∀x,(va x).all qah=true) (hpos:0<(X.G.T e).sz) (hcell:P.cellsOf (X.G.T e).tid=(X.G.T e).sz) (hok0:qat 45 (sub B (path++[1]))=true):
  CC X B (rngP D path e kt vt t) (rngF path e kt vt t key app (@srtI (D e) ⟨x0⟩ fun x y=>cmpI (key x) (key y))):=by
 letI:Inhabited (D e):=⟨x0⟩
 simp only[Bool.and_eq_true] at hw
 have K:RK X e kt vt t (idA (sub B (path++[0,0]))) (idA (sub B (path++[0,1]))) (idA (sub B (path++[0,1,0,0,0]))) (idA (sub B (path++[0,1,0,0,1,1]))) (idA (sub B (path++[0,1,0,0,1,1,0,0]))) (idA (sub B (path++[0,1,0,0,1,1,0,1])))
   (opsA (sub B (path++[0,0]))) (opsA (sub B (path++[0,1,0,0,0]))) (opsA (sub B (path++[0,1,0,0,1,1,0,0]))) (opsA (sub B (path++[0,1,0,0,1,1,0,1]))) (sub B (path++[1])) (lvI P X e kt vt k k' hk hv app) (srtI fun x y=>cmpI (key x) (key y)) va:={
  hro:=⟨OpsAre.of h7,OpsAre.of h8,OpsAre.of h9⟩
  hmt:=hmt
  hK:=hK
  hVl:=hVl
  hkV:=hkV
  hvV:=hvV
  hv1:=fun _=>rfl
  hvi:=fun a b h=>by
   have h:Value.int k' (cast hv a)= .int k' (cast hv b):=h
   injection h with _ h
   have:=congrArg (cast hv.symm) h
   simpa using this
  hw10:=qvP hw.1
  hb:=fun a b ys wf hl=>by
   refine (hb a b ys wf).trans ?_
   rw[show appI ys [app a b]=some (ys++[app a b]) by
    unfold appI;rw[if_pos (by show ys.length+1≤LIM;omega)]]
   rfl
  hwD:=qxo hw.2.1
  hwT:=fun t ht=>by rw[←hB];exact qxp hw.2.2 t ht
  hD:=fun ys wf=>by
   rw[hD ys wf]
   cases srtI (fun x y=>cmpI (key x) (key y)) ys<;>rfl
  hva:=hva
  hrd:=hrd
  hfl:=hfl
  hpos:=hpos
  hcell:=hcell}
 exact qsZ K hC hmix hok0 key (fun ys ys' hn hp=>qnn key hn hp) (fun ys zs h=>by
  unfold srtI at h
  split at h
  ·cases h;exact qdC _ (qbJ key) ys
  ·cases h) hD0 hB
end
end
end Go.AM
end
section
set_option linter.unusedSimpArgs false
set_option linter.unusedVariables false
namespace Go.AM
noncomputable section
section
variable {P:Program} {D:Nat→Type} {X0:Ev P D}
structure EV (X0:Ev P D) where
 X:Ev P D
 ok:COk X
 dn:∀{d:FD D} {F:d.F},CallOk X d F→CallOk X0 d F
 dg:∀{d:GD D} {F:d.pd.F},CallG X d F→CallG X0 d F
def EV.cuts (E:EV X0) (f:Operand→Option Operand→Option Operand→Nat):EV X0:=⟨E.X.cuts f,COk.cuts E.ok,fun h=>E.dn (CallOk.cuts h),fun h=>E.dg (CallG.base h)⟩
structure TT (X0:Ev P D) where
 fs:List (FE D)
 gs:List (GE D)
 ok:∀y∈fs,CallOk X0 y.d y.F
 gok:∀y∈gs,CallG X0 y.d y.F
def TT.nil:TT X0:=⟨[],[],by simp,qqA⟩
def TT.ad (T:TT X0) (d:FD D) (F:d.F) (h:CallOk X0 d F):TT X0:=⟨⟨d,F⟩::T.fs,T.gs,qlt (x:=⟨d,F⟩) h T.ok,T.gok⟩
def TT.ag (T:TT X0) (d:GD D) (F:d.pd.F) (h:CallG X0 d F):TT X0:=⟨T.fs,⟨d,F⟩::T.gs,T.ok,qnC (x:=⟨d,F⟩) h T.gok⟩
def TT.ev (T:TT X0):EV X0:=⟨(X0.with T.fs).gen T.gs,COk.gen0 (COk.of T.ok) T.gok,fun h=>CallOk.ch (CallOk.ch h),fun h=>CallG.base (CallG.base h)⟩
def TT.sub (T:TT X0) (d:FD D) (F:d.F) (h:CallOk X0 d F):EV X0:=⟨T.ev.X.sub ⟨d,F⟩,COk.sub T.ev.ok (CallOk.upg (CallOk.up h)),fun h=>T.ev.dn (CallOk.sub h),fun h=>T.ev.dg (CallG.base h)⟩
structure UU (E:EV X0) (B:Code) where
 us:List (Pc D)
 ok:∀u∈us,PcOk E.X B u
variable {E:EV X0} {B:Code}
def UU.nil:UU E B:=⟨[],qsQ⟩
def UU.add (U:UU E B) (p:PD D) (F:p.F) (h:CC E.X B p F) (hk:p.chk B=true):UU E B:=⟨p.pc E.X F::U.us,qq8 (h.pc hk) U.ok⟩
def UU.st (U:UU E B) (p:PD D) (F:p.F) (hk:p.chk B=true:=by kernel_rfl)
  (heq:∀x,exC E.X U.us calm true p.path.reverse (AM.sub B p.path) (mkE E.X p.ins x++p.fx) (mkO E.X p.ins x) (rdEx E.X (nO p.ins) p.ks p.exs)=F x:=by intro x;kernel_rfl):UU E B:=
 U.add p F (CC.of E.ok (fun u h _=>U.ok u h) heq) hk
def qpF:Code→Bool
 | .loop _=>true
 |_=>false
theorem qkR {B:Code} {p:List Nat} (h:qpF (AM.sub B p)=true):AM.sub B p= .loop (AM.sub B (p++[0])):=by
 rw[←qjo]
 cases hc:AM.sub B p<;>rw[hc] at h<;>first|(cases h;done)|exact congrArg Code.loop (qbj _).symm
def UU.lp (U:UU E B) (N:Nat) (p:PD D) (F:Nat→p.F) (hk:(qpF (AM.sub B p.path)&&p.chk B)=true:=by kernel_rfl) (h0:∀x,F 0 x=none:=by exact fun x=>rfl)
  (heq:∀n x,exC E.X U.us calm true (0::p.path.reverse) (AM.sub B (p.path++[0])) (mkE E.X p.ins x++p.fx) (mkO E.X p.ins x) (qsy E.X p (F n))=F (n+1) x:=by intro n x;kernel_rfl):UU E B:=
 U.add p (F N) (CC.loop E.ok (qkR (Bool.and_eq_true_iff.1 hk).1) (Bool.and_eq_true_iff.1 hk).2 (fun u h _=>U.ok u h) h0 heq N) (Bool.and_eq_true_iff.1 hk).2
def qnE (P:Program) (f np:Nat) (fn:Func):Bool:=fn.body.isSome&&(okFn P f&&Nat.ble np fn.ntmps)
theorem qlx {fn:Func} (h:fn.body.isSome=true):fn.body=some (qab fn):=by
 unfold qab
 cases hb:fn.body with
 |none=>rw[hb] at h;cases h
 |some c=>rfl
def FD.good (P:Program) (d:FD D) (fn:Func):Bool:=qnE P d.f d.np fn&&(qfi d.outs&&((d.fx.all fun p=>qgW p.2)&&((d.ofx.all fun p=>qgW p.2)&&(d.fx.all fun p=>(refS p.2).isNone))))
theorem UU.fn {fn:Func} (U:UU E (qab fn)) {d:FD D} {F:d.F} (h0:P.funcs[d.f]? =some fn) (h1:d.good P fn=true:=by kernel_rfl) (h2:fn.results.toList=d.rvs:=by exact rfl)
  (heq:∀r x,exC E.X U.us calm true [] (qab fn) (mkE E.X d.ins x++(d.fx++rE d.rcv)) (rO E.X d.rcv r) (retK E.X d)=F r x:=by intro r x;kernel_rfl):CallOk X0 d F:=by
 unfold FD.good qnE at h1
 simp only[Bool.and_eq_true] at h1
 obtain ⟨⟨a1,a2,a3⟩,a4,a5,a6,a7⟩:=h1
 exact E.dn (FOk.call ⟨⟨fn,_,h0,qlx a1,a2,a3,h2,FC.of E.ok (us:=U.us) (fun u h _=>U.ok u h) heq⟩,a4,a5,a6,a7⟩)
def GD.good (P:Program) (d:GD D) (fn:Func):Bool:=qnE P d.f d.np fn&&d.pd.chk (qab fn)
theorem UU.gn {fn:Func} (U:UU E (qab fn)) {d:GD D} {F:d.pd.F} (h0:P.funcs[d.f]? =some fn) (h1:d.good P fn=true:=by kernel_rfl) (h2:fn.results.toList=d.res.map .tmp:=by exact rfl)
  (heq:∀x,exC E.X U.us calm true d.pd.path.reverse (AM.sub (qab fn) d.pd.path) (mkE E.X d.pd.ins x++d.pd.fx) (mkO E.X d.pd.ins x) (fun ex=>rdEx E.X (nO d.pd.ins) d.pd.ks d.pd.exs (nrmE ex))=F x:=by intro x;kernel_rfl):CallG X0 d F:=by
 unfold GD.good qnE at h1
 simp only[Bool.and_eq_true] at h1
 obtain ⟨⟨a1,a2,a3⟩,a4⟩:=h1
 exact E.dg (GOk.call ⟨⟨fn,_,h0,qlx a1,a2,a3,h2,a4,CCn.of E.ok (us:=U.us) (fun u h _=>U.ok u h) heq⟩⟩)
end
end
end Go.AM
end
section
set_option linter.unusedVariables false
set_option linter.unusedSimpArgs false
set_option maxRecDepth 100000
set_option maxHeartbeats 1000000
namespace Go.W
open Go.AM
noncomputable section
structure Maker where
 l:(List Int)
 n:Int
deriving DecidableEq
structure PlantElement where
 kind:Int
 name:(List UInt8)
 a:Int
 b:Int
 c:Int
 length:Int
deriving DecidableEq
structure Visit where
 element:Int
 in_:Int
 out:Int
deriving DecidableEq
structure Act where
 set:Bool
 id:Int
 from_:Int
 to:Int
deriving DecidableEq
structure Setting where
 element:Int
 position:Int
deriving DecidableEq
structure Lock where
 iD:Int
 visits:(List Visit)
 settings:(List Setting)
deriving DecidableEq
structure A2_int where
 a0:Int
 a1:Int
deriving DecidableEq
structure Guardian where
 l:(List PlantElement)
 r:(List Visit)
 need:(List Setting)
 seen:(List (A2_int×Bool))
deriving DecidableEq
structure Step where
 element:Int
 in_:Int
deriving DecidableEq
structure Spot where
 element:Int
 node:Int
deriving DecidableEq
structure Place where
 element:Int
 in_:Int
deriving DecidableEq
def zdM (N:Nat) (x0:List Int):Option Maker:=
 some (Maker.mk x0 0)
def zbX (N:Nat) (x0:Int):Option (List UInt8):=
 Option.bind (toU8 112) fun y1=>
 Option.bind (toU8 (IntKind.wrap .u8 ((IntKind.wrap .i64 (48+(Int.tmod (IntKind.wrap .i64 (Int.tdiv x0 10)) 10)))))) fun y2=>
 Option.bind (toU8 (IntKind.wrap .u8 ((IntKind.wrap .i64 (48+(Int.tmod x0 10)))))) fun y3=>
 AM.lt ([y1,y2,y3]:List UInt8) fun y4=>
 some y4
def qo8 (N:Nat) (x0:Maker) (x5:Int) (x11:Bool):Option Int:=
 if x11=true then
  Option.bind (modI x0.n (x0.l.length:Int)) fun y1=>
  Option.bind (getI x0.l y1) fun y2=>
  Option.bind (divI x0.n (x0.l.length:Int)) fun y3=>
  AM.lt (IntKind.wrap .i64 (y2+(IntKind.wrap .i64 ((IntKind.wrap .i64 (y3))*7919)))) fun y4=>
  some y4
 else
  some x5
def qrL (N:Nat) (x1:Int) (x5:Int) (x51:Bool):Option Int:=
 if x51=true then
  AM.lt (IntKind.wrap .i64 (x5+x1)) fun y7=>
  some y7
 else
  some x5
def zcI (N:Nat) (x0:Maker) (x1:Int):Option (Int×Maker):=
 Option.bind (qo8 N x0 0 (decide (0<(x0.l.length:Int)))) fun y5=>
 Option.bind (modI y5 x1) fun y6=>
 Option.bind (qrL N x1 y6 (decide (y6<0))) fun y8=>
 some (y8,(Maker.mk x0.l (IntKind.wrap .i64 (x0.n+1))))
def zcJ (N:Nat) (x0:Maker) (x1:List Int):Option (Int×Maker):=
 Option.bind (zcI N x0 (x1.length:Int)) fun y1=>
 Option.bind (getI x1 y1.1) fun y2=>
 some (y2,y1.2)
def qoY (N:Nat) (x6:List Int) (x17:Bool):Option (List Int):=
 if x17=true then
  Option.bind (appI x6 ([0]:List Int)) fun y3=>
  some y3
 else
  some x6
def qoZ (N:Nat) (x1:Int) (x5:List PlantElement) (x6:List Int) (x7:Int):Option Bool:=
 if (decide ((x5.length:Int)<x1))=true then
  if (decide (0<(x6.length:Int)))=true then
   some (decide (x7<62))
  else
   some false
 else
  some false
def qo1 (N:Nat) (x55:Int) (x96:Bool):Option Bool:=
 if x96=true then
  some x96
 else
  AM.lt (x55==1) fun y15=>
  some y15
def qrG (N:Nat) (x0:Maker) (x6:List Int):Option (Maker×Bool):=
 Option.bind (zcI N x0 3) fun y26=>
 if (y26.1==0)=true then
  some (y26.2,(decide (0<(x6.length:Int))))
 else
  some (y26.2,false)
def qo0 (N:Nat) (x0:Maker) (x6:List Int) (x7:Int) (x9:Int) (x10:PlantElement) (x55:Int):Option (Maker×List Int×Int×PlantElement):=
 AM.lt (x55==0) fun y14=>
 Option.bind (qo1 N x55 y14) fun y16=>
 if y16=true then
  Option.bind (appI x6 ([x7,(IntKind.wrap .i64 (x7+1))]:List Int)) fun y17=>
  AM.lt (IntKind.wrap .i64 (x7+2)) fun y18=>
  some (x0,y17,y18,(PlantElement.mk 2 x10.name x9 x7 (IntKind.wrap .i64 (x7+1)) x10.length))
 else
  AM.lt (x55==2) fun y19=>
  if y19=true then
   Option.bind (appI x6 ([x7,(IntKind.wrap .i64 (x7+1))]:List Int)) fun y20=>
   AM.lt (IntKind.wrap .i64 (x7+2)) fun y21=>
   some (x0,y20,y21,(PlantElement.mk 2 x10.name x7 x9 (IntKind.wrap .i64 (x7+1)) x10.length))
  else
   AM.lt (x55==3) fun y22=>
   if y22=true then
    Option.bind (appI x6 ([x7]:List Int)) fun y23=>
    AM.lt (IntKind.wrap .i64 (x7+1)) fun y24=>
    some (x0,y23,y24,(PlantElement.mk 3 x10.name x9 x7 x10.c x10.length))
   else
    Option.bind (zcJ N x0 ([1,300,100000]:List Int)) fun y25=>
    Option.bind (qrG N y25.2 x6) fun y27=>
    if y27.2=true then
     Option.bind (getI x6 (IntKind.wrap .i64 ((x6.length:Int) - 1))) fun y28=>
     Option.bind (getI x6 (IntKind.wrap .i64 ((x6.length:Int) - 1))) fun y29=>
     Option.bind (cutI x6 0 (IntKind.wrap .i64 ((x6.length:Int) - 1))) fun y30=>
     some (y27.1,y30,x7,(PlantElement.mk 1 x10.name x9 y29 x10.c y25.1))
    else
     Option.bind (zcI N y27.1 2) fun y31=>
     if (y31.1==0)=true then
      Option.bind (appI x6 ([x7]:List Int)) fun y32=>
      AM.lt (IntKind.wrap .i64 (x7+1)) fun y33=>
      some (y31.2,y32,y33,(PlantElement.mk 1 x10.name x9 x7 x10.c y25.1))
     else
      AM.lt (IntKind.wrap .i64 (x7+1)) fun y34=>
      some (y31.2,x6,y34,(PlantElement.mk 1 x10.name x9 x7 x10.c y25.1))
def qnz (N:Nat) (x1:Int):Nat→Maker→(List PlantElement)→(List Int)→Int→Option (Maker×List PlantElement×List Int×Int)
 |0,_,_,_,_=>none
 |n+1,x0,x5,x6,x7=>
  Option.bind (qoZ N x1 x5 x6 x7) fun y5=>
  if y5=true then
   Option.bind (zcI N x0 (x6.length:Int)) fun y6=>
   Option.bind (getI x6 y6.1) fun y7=>
   Option.bind (getI x6 y6.1) fun y8=>
   Option.bind (cutI x6 0 y6.1) fun y9=>
   Option.bind (cutI x6 (IntKind.wrap .i64 (y6.1+1)) (x6.length:Int)) fun y10=>
   Option.bind (appI (List.take (Int.toNat y6.1) x6) (List.drop (Int.toNat (IntKind.wrap .i64 (y6.1+1))) (List.take (Int.toNat (x6.length:Int)) x6))) fun y11=>
   Option.bind (zbX N (x5.length:Int)) fun y12=>
   Option.bind (zcI N y6.2 6) fun y13=>
   Option.bind (qo0 N y13.2 y11 x7 y8 (PlantElement.mk 0 y12 0 0 0 0) y13.1) fun y35=>
   Option.bind (appI x5 ([y35.2.2.2]:List PlantElement)) fun y36=>
   qnz N x1 n y35.1 y36 y35.2.1 y35.2.2.1
  else
   some (x0,x5,x6,x7)
def qo2 (N:Nat) (x5:List PlantElement) (x6:List Int) (x7:Int):Option Bool:=
 if (decide (0<(x6.length:Int)))=true then
  if (decide ((x5.length:Int)<96))=true then
   some (decide (x7<64))
  else
   some false
 else
  some false
def qrH (N:Nat) (x5:List PlantElement) (x6:List Int) (x7:Int) (x164:Bool):Option (List PlantElement×Int):=
 if x164=true then
  Option.bind (zbX N (x5.length:Int)) fun y40=>
  Option.bind (getI x6 0) fun y41=>
  Option.bind (getI x6 0) fun y42=>
  Option.bind (appI x5 ([(PlantElement.mk 1 y40 y42 x7 0 200)]:List PlantElement)) fun y43=>
  AM.lt (IntKind.wrap .i64 (x7+1)) fun y44=>
  some (y43,y44)
 else
  some (x5,x7)
def qnA (N:Nat):Nat→Maker→(List PlantElement)→(List Int)→Int→Option (Maker×List PlantElement)
 |0,_,_,_,_=>none
 |n+1,x0,x5,x6,x7=>
  Option.bind (qo2 N x5 x6 x7) fun y38=>
  if y38=true then
   Option.bind (zcI N x0 5) fun y39=>
   Option.bind (qrH N x5 x6 x7 (decide (0<y39.1))) fun y45=>
   Option.bind (cutI x6 1 (x6.length:Int)) fun y46=>
   qnA N n y39.2 y45.1 y46 y45.2
  else
   some (x0,x5)
def zbR (N:Nat) (x0:Maker) (x1:Int):Option (List PlantElement×Maker):=
 Option.bind (zbX N 0) fun y1=>
 Option.bind (zcI N x0 2) fun y2=>
 Option.bind (qoY N ([1]:List Int) (y2.1==0)) fun y4=>
 Option.bind (qnz N x1 N y2.2 ([(PlantElement.mk 1 y1 0 1 0 500)]:List PlantElement) y4 2) fun y37=>
 Option.bind (qnA N N y37.1 y37.2.1 y37.2.2.1 y37.2.2.2) fun y47=>
 some (y47.2,y47.1)
def qrz (N:Nat) (x0:List PlantElement) (x3:List Int) (x4:Int):Option (List Int):=
 Option.bind (getI x0 x4) fun y1=>
 if (y1.kind==1)=true then
  Option.bind (appI x3 ([x4]:List Int)) fun y2=>
  some y2
 else
  some x3
def qlf (N:Nat) (x0:List PlantElement):Nat→(List Int)→Int→Option (List Int)
 |0,_,_=>none
 |n+1,x3,x4=>
  if (decide (x4<(x0.length:Int)))=true then
   Option.bind (qrz N x0 x3 x4) fun y3=>
   AM.lt (IntKind.wrap .i64 (x4+1)) fun y4=>
   qlf N x0 n y3 y4
  else
   some x3
def zbH (N:Nat) (x0:List PlantElement):Option (List Int):=
 Option.bind (qlf N x0 N [] 0) fun y5=>
 some y5
def qrX (N:Nat) (x0:List PlantElement) (x1:Int):Option Bool:=
 if (decide (x1<0))=true then
  some true
 else
  some (decide ((x0.length:Int)≤x1))
def qrY (N:Nat) (x17:Int) (x18:Bool):Option Bool:=
 if x18=true then
  some x18
 else
  AM.lt (x17==3) fun y4=>
  some y4
def zdH (N:Nat) (x0:List PlantElement) (x1:Int):Option (List Int):=
 Option.bind (qrX N x0 x1) fun y1=>
 if y1=true then
  some []
 else
  Option.bind (getI x0 x1) fun y2=>
  AM.lt (y2.kind==1) fun y3=>
  Option.bind (qrY N y2.kind y3) fun y5=>
  if y5=true then
   Option.bind (getI x0 x1) fun y6=>
   Option.bind (getI x0 x1) fun y7=>
   some ([y6.a,y7.b]:List Int)
  else
   AM.lt (y2.kind==2) fun y8=>
   if y8=true then
    Option.bind (getI x0 x1) fun y9=>
    Option.bind (getI x0 x1) fun y10=>
    Option.bind (getI x0 x1) fun y11=>
    some ([y9.a,y10.b,y11.c]:List Int)
   else
    some []
def qiC (N:Nat) (x0:List Int) (x1:Int):Nat→Int→Option (Sum (Unit) (Bool))
 |0,_=>none
 |n+1,x5=>
  if (decide (x5<(x0.length:Int)))=true then
   Option.bind (getI x0 x5) fun y1=>
   if (y1==x1)=true then
    some (Sum.inr true)
   else
    AM.lt (IntKind.wrap .i64 (x5+1)) fun y2=>
    qiC N x0 x1 n y2
  else
   some (Sum.inl ())
def zdN (N:Nat) (x0:List Int) (x1:Int):Option Bool:=
 Option.bind (qiC N x0 x1 N 0) fun y3=>
 match y3 with
 |Sum.inl y4=>
  some false
 |Sum.inr y5=>
  some y5
def qrF (N:Nat) (x0:List PlantElement) (x1:Int) (x2:Int) (x7:Int):Option Bool:=
 if (x7 !=x1)=true then
  Option.bind (zdH N x0 x7) fun y1=>
  Option.bind (zdN N y1 x2) fun y2=>
  some y2
 else
  some false
def qiv (N:Nat) (x0:List PlantElement) (x1:Int) (x2:Int):Nat→Int→Option (Sum (Unit) (Int))
 |0,_=>none
 |n+1,x7=>
  if (decide (x7<(x0.length:Int)))=true then
   Option.bind (qrF N x0 x1 x2 x7) fun y3=>
   if y3=true then
    some (Sum.inr x7)
   else
    AM.lt (IntKind.wrap .i64 (x7+1)) fun y4=>
    qiv N x0 x1 x2 n y4
  else
   some (Sum.inl ())
def zbO (N:Nat) (x0:List PlantElement) (x1:Int) (x2:Int):Option Int:=
 Option.bind (qiv N x0 x1 x2 N 0) fun y5=>
 match y5 with
 |Sum.inl y6=>
  some (-1)
 |Sum.inr y7=>
  some y7
def zcB (N:Nat) (x0:List PlantElement) (x1:Int) (x2:Int):Option (List Int):=
 Option.bind (zdH N x0 x1) fun y1=>
 Option.bind (zdN N y1 x2) fun y2=>
 AM.lt (!y2) fun y3=>
 if y3=true then
  some []
 else
  Option.bind (getI y1 0) fun y4=>
  Option.bind (getI y1 0) fun y5=>
  AM.lt (y5==x2) fun y6=>
  if y6=true then
   Option.bind (cutI y1 1 (y1.length:Int)) fun y7=>
   Option.bind (appI ([]:List Int) y7) fun y8=>
   some y8
  else
   Option.bind (getI y1 0) fun y9=>
   Option.bind (getI y1 0) fun y10=>
   some ([y10]:List Int)
def qo5 (N:Nat) (x0:Maker) (x1:List PlantElement) (x10:Int) (x11:List Int):Option (Maker×Bool):=
 Option.bind (getI x1 x10) fun y11=>
 if (y11.kind==1)=true then
  Option.bind (zcI N x0 2) fun y12=>
  if (y12.1==0)=true then
   some (y12.2,true)
  else
   Option.bind (getI x11 0) fun y13=>
   Option.bind (getI x11 0) fun y14=>
   Option.bind (zbO N x1 x10 y14) fun y15=>
   some (y12.2,(decide (y15<0)))
 else
  some (x0,false)
def qhl (N:Nat) (x1:List PlantElement):Nat→Maker→Visit→(List Visit)→Int→Option (Sum (Maker×List Visit) (Maker×List Visit))
 |0,_,_,_,_=>none
 |n+1,x0,x6,x8,x9=>
  if (decide (x9<12))=true then
   Option.bind (zbO N x1 x6.element x6.out) fun y9=>
   if (decide (y9<0))=true then
    some (Sum.inl (x0,x8))
   else
    Option.bind (zcB N x1 y9 x6.out) fun y10=>
    Option.bind (qo5 N x0 x1 y9 y10) fun y16=>
    if y16.2=true then
     Option.bind (appI x8 ([(Visit.mk y9 x6.out (-1))]:List Visit)) fun y17=>
     some (Sum.inr (y16.1,y17))
    else
     Option.bind (zcI N y16.1 (y10.length:Int)) fun y18=>
     Option.bind (getI y10 y18.1) fun y19=>
     Option.bind (getI y10 y18.1) fun y20=>
     Option.bind (appI x8 ([(Visit.mk y9 x6.out y20)]:List Visit)) fun y21=>
     AM.lt (IntKind.wrap .i64 (x9+1)) fun y22=>
     qhl N x1 n y18.2 (Visit.mk y9 x6.out y20) y21 y22
  else
   some (Sum.inl (x0,x8))
def zbW (N:Nat) (x0:Maker) (x1:List PlantElement):Option (List Visit×Maker):=
 Option.bind (zbH N x1) fun y1=>
 Option.bind (zcI N x0 (y1.length:Int)) fun y2=>
 Option.bind (getI y1 y2.1) fun y3=>
 Option.bind (getI y1 y2.1) fun y4=>
 Option.bind (zdH N x1 y4) fun y5=>
 Option.bind (zcI N y2.2 (y5.length:Int)) fun y6=>
 Option.bind (getI y5 y6.1) fun y7=>
 Option.bind (getI y5 y6.1) fun y8=>
 Option.bind (qhl N x1 N y6.2 (Visit.mk y4 (-1) y8) ([(Visit.mk y4 (-1) y8)]:List Visit) 0) fun y23=>
 match y23 with
 |Sum.inl y24=>
  some (y24.2,y24.1)
 |Sum.inr y25=>
  some (y25.2,y25.1)
def qpn (N:Nat) (x0:Maker) (x6:List PlantElement) (x7:List Int) (x11:Act) (x43:Bool):Option (Maker×Act):=
 if x43=true then
  Option.bind (zcI N x0 (x7.length:Int)) fun y11=>
  Option.bind (getI x7 y11.1) fun y12=>
  Option.bind (getI x7 y11.1) fun y13=>
  Option.bind (zcI N y11.2 (IntKind.wrap .i64 ((x6.length:Int)+1))) fun y14=>
  some (y14.2,(Act.mk x11.set x11.id y13 y14.1))
 else
  some (x0,x11)
def qjI (N:Nat) (x1:Int) (x6:List PlantElement) (x7:List Int):Nat→Maker→(List Act)→Int→Option (Maker×List Act)
 |0,_,_,_=>none
 |n+1,x0,x8,x9=>
  if (decide (x9<x1))=true then
   Option.bind (zbW N x0 x6) fun y3=>
   Option.bind (zcI N y3.2 4) fun y4=>
   Option.bind (zcI N y4.2 6) fun y5=>
   Option.bind (getI y3.1 0) fun y6=>
   Option.bind (getI y3.1 0) fun y7=>
   Option.bind (getI y3.1 (IntKind.wrap .i64 ((y3.1.length:Int) - 1))) fun y8=>
   Option.bind (getI y3.1 (IntKind.wrap .i64 ((y3.1.length:Int) - 1))) fun y9=>
   Option.bind (zcI N y5.2 5) fun y10=>
   Option.bind (qpn N y10.2 x6 x7 (Act.mk (decide (0<y4.1)) y5.1 y7.element y9.element) (y10.1==0)) fun y15=>
   Option.bind (appI x8 ([y15.2]:List Act)) fun y16=>
   AM.lt (IntKind.wrap .i64 (x9+1)) fun y17=>
   qjI N x1 x6 x7 n y15.1 y16 y17
  else
   some (x0,x8)
def zdE (N:Nat) (x0:Maker) (x1:Int):Option (List PlantElement×List Act×Maker):=
 Option.bind (zbR N x0 20) fun y1=>
 Option.bind (zbH N y1.1) fun y2=>
 Option.bind (qjI N x1 y1.1 y2 N y1.2 [] 0) fun y18=>
 some (y1.1,y18.2,y18.1)
def qpp (N:Nat) (x0:List UInt8) (x3:Int):Option Bool:=
 Option.bind (getI x0 x3) fun y1=>
 if (decide (97≤(UInt8.toNat y1:Int)))=true then
  Option.bind (getI x0 x3) fun y2=>
  if (decide ((UInt8.toNat y2:Int)≤122))=true then
   some (!true)
  else
   Option.bind (getI x0 x3) fun y3=>
   if (decide (48≤(UInt8.toNat y3:Int)))=true then
    Option.bind (getI x0 x3) fun y4=>
    some (!(decide ((UInt8.toNat y4:Int)≤57)))
   else
    some (!false)
 else
  Option.bind (getI x0 x3) fun y5=>
  if (decide (48≤(UInt8.toNat y5:Int)))=true then
   Option.bind (getI x0 x3) fun y6=>
   some (!(decide ((UInt8.toNat y6:Int)≤57)))
  else
   some (!false)
def qiB (N:Nat) (x0:List UInt8):Nat→Int→Option (Sum (Unit) (Bool))
 |0,_=>none
 |n+1,x3=>
  if (decide (x3<(x0.length:Int)))=true then
   Option.bind (qpp N x0 x3) fun y7=>
   if y7=true then
    some (Sum.inr false)
   else
    AM.lt (IntKind.wrap .i64 (x3+1)) fun y8=>
    qiB N x0 n y8
  else
   some (Sum.inl ())
def qrW (N:Nat) (x0:List UInt8):Option Bool:=
 if (decide (1≤(x0.length:Int)))=true then
  AM.lt (decide ((x0.length:Int)≤12)) fun y11=>
  some y11
 else
  some false
def zdG (N:Nat) (x0:List UInt8):Option Bool:=
 Option.bind (qiB N x0 N 0) fun y9=>
 match y9 with
 |Sum.inl y10=>
  Option.bind (qrW N x0) fun y12=>
  some y12
 |Sum.inr y13=>
  some y13
def qrR (N:Nat) (x5:PlantElement) (x6:List Int):Option Bool:=
 if ((x6.length:Int)==0)=true then
  some true
 else
  Option.bind (zdG N x5.name) fun y3=>
  some (!y3)
def qrS (N:Nat) (x6:List Int) (x7:Int):Option Bool:=
 Option.bind (getI x6 x7) fun y5=>
 if (decide (y5<0))=true then
  some true
 else
  Option.bind (getI x6 x7) fun y6=>
  if (decide (64≤y6))=true then
   some true
  else
   Option.bind (cutI x6 0 x7) fun y7=>
   Option.bind (getI x6 x7) fun y8=>
   Option.bind (zdN N y7 y8) fun y9=>
   some y9
def qhs (N:Nat) (x6:List Int):Nat→Int→Option (Sum (Unit) (Bool))
 |0,_=>none
 |n+1,x7=>
  if (decide (x7<(x6.length:Int)))=true then
   Option.bind (qrS N x6 x7) fun y10=>
   if y10=true then
    some (Sum.inr false)
   else
    AM.lt (IntKind.wrap .i64 (x7+1)) fun y11=>
    qhs N x6 n y11
  else
   some (Sum.inl ())
def qrT (N:Nat) (x5:PlantElement) (x6:List Int):Option Bool:=
 if ((x6.length:Int)==2)=true then
  some (x5.c !=0)
 else
  some false
def qrU (N:Nat) (x5:PlantElement):Option Bool:=
 if (decide (1≤x5.length))=true then
  AM.lt (decide (x5.length≤100000)) fun y15=>
  some y15
 else
  some false
def zcX (N:Nat) (x0:List PlantElement) (x1:Int):Option Bool:=
 Option.bind (getI x0 x1) fun y1=>
 Option.bind (zdH N x0 x1) fun y2=>
 Option.bind (qrR N y1 y2) fun y4=>
 if y4=true then
  some false
 else
  Option.bind (qhs N y2 N 0) fun y12=>
  match y12 with
  |Sum.inl y13=>
   Option.bind (qrT N y1 y2) fun y14=>
   if y14=true then
    some false
   else
    if (y1.kind==1)=true then
     Option.bind (qrU N y1) fun y16=>
     some y16
    else
     AM.lt (y1.length==0) fun y17=>
     some y17
  |Sum.inr y18=>
   some y18
def qhq (N:Nat) (x0:List PlantElement) (x4:Int):Nat→Int→Option (Sum (Unit) (Int))
 |0,_=>none
 |n+1,x5=>
  if (decide (x5<x4))=true then
   Option.bind (getI x0 x5) fun y2=>
   Option.bind (getI x0 x4) fun y3=>
   if (y2.name==y3.name)=true then
    some (Sum.inr 8)
   else
    AM.lt (IntKind.wrap .i64 (x5+1)) fun y4=>
    qhq N x0 x4 n y4
  else
   some (Sum.inl ())
def qhr (N:Nat) (x3:List Int) (x6:List Int):Nat→Int→Option (Sum (Unit) (Int))
 |0,_=>none
 |n+1,x7=>
  if (decide (x7<(x6.length:Int)))=true then
   Option.bind (getI x6 x7) fun y8=>
   Option.bind (getI x6 x7) fun y9=>
   Option.bind (getI x3 y9) fun y10=>
   Option.bind (getI x3 y9) fun y11=>
   if (y11==2)=true then
    some (Sum.inr 17)
   else
    AM.lt (IntKind.wrap .i64 (x7+1)) fun y12=>
    qhr N x3 x6 n y12
  else
   some (Sum.inl ())
def qjG (N:Nat) (x6:List Int):Nat→(List Int)→Int→Option (List Int)
 |0,_,_=>none
 |n+1,x3,x8=>
  if (decide (x8<(x6.length:Int)))=true then
   Option.bind (getI x6 x8) fun y15=>
   Option.bind (getI x6 x8) fun y16=>
   Option.bind (getI x3 y16) fun y17=>
   Option.bind (getI x3 y16) fun y18=>
   Option.bind (getI x3 y16) fun y19=>
   Option.bind (getI x3 y16) fun y20=>
   AM.lt (x3.set ((y16:Int).toNat) (IntKind.wrap .i64 (y18+1))) fun y21=>
   AM.lt (IntKind.wrap .i64 (x8+1)) fun y22=>
   qjG N x6 n y21 y22
  else
   some x3
def qlk (N:Nat) (x0:List PlantElement):Nat→(List Int)→Int→Option (Sum (Unit) (Int))
 |0,_,_=>none
 |n+1,x3,x4=>
  if (decide (x4<(x0.length:Int)))=true then
   Option.bind (zcX N x0 x4) fun y1=>
   if (!y1)=true then
    some (Sum.inr 1)
   else
    Option.bind (qhq N x0 x4 N 0) fun y5=>
    match y5 with
    |Sum.inl y6=>
     Option.bind (zdH N x0 x4) fun y7=>
     Option.bind (qhr N x3 y7 N 0) fun y13=>
     match y13 with
     |Sum.inl y14=>
      Option.bind (qjG N y7 N x3 0) fun y23=>
      AM.lt (IntKind.wrap .i64 (x4+1)) fun y24=>
      qlk N x0 n y23 y24
     |Sum.inr y25=>
      some (Sum.inr y25)
    |Sum.inr y26=>
     some (Sum.inr y26)
  else
   some (Sum.inl ())
def zcW (N:Nat) (x0:List PlantElement):Option Int:=
 if (decide (96<(x0.length:Int)))=true then
  some 3
 else
  Option.bind (qlk N x0 N (List.replicate 64 0) 0) fun y27=>
  match y27 with
  |Sum.inl y28=>
   some 0
  |Sum.inr y29=>
   some y29
def qrV (N:Nat) (x0:List PlantElement) (x1:Int):Option Bool:=
 if (decide (0≤x1))=true then
  if (decide (x1<(x0.length:Int)))=true then
   Option.bind (getI x0 x1) fun y1=>
   AM.lt (y1.kind==1) fun y2=>
   some y2
  else
   some false
 else
  some false
def zcZ (N:Nat) (x0:List PlantElement) (x1:Int):Option Bool:=
 Option.bind (qrV N x0 x1) fun y3=>
 some y3
def qix (N:Nat) (x0:List Visit) (x1:Int):Nat→Int→Option (Sum (Unit) (Bool))
 |0,_=>none
 |n+1,x5=>
  if (decide (x5<(x0.length:Int)))=true then
   Option.bind (getI x0 x5) fun y1=>
   if (y1.element==x1)=true then
    some (Sum.inr true)
   else
    AM.lt (IntKind.wrap .i64 (x5+1)) fun y2=>
    qix N x0 x1 n y2
  else
   some (Sum.inl ())
def zcR (N:Nat) (x0:List Visit) (x1:Int):Option Bool:=
 Option.bind (qix N x0 x1 N 0) fun y3=>
 match y3 with
 |Sum.inl y4=>
  some false
 |Sum.inr y5=>
  some y5
def qiD (N:Nat) (x0:List Int) (x1:Int):Nat→Int→Option (Sum (Unit) (Bool))
 |0,_=>none
 |n+1,x5=>
  if (decide (x5<(x0.length:Int)))=true then
   Option.bind (getI x0 x5) fun y1=>
   if (y1==x1)=true then
    some (Sum.inr true)
   else
    AM.lt (IntKind.wrap .i64 (x5+1)) fun y2=>
    qiD N x0 x1 n y2
  else
   some (Sum.inl ())
def zdO (N:Nat) (x0:List Int) (x1:Int):Option Bool:=
 Option.bind (qiD N x0 x1 N 0) fun y3=>
 match y3 with
 |Sum.inl y4=>
  some false
 |Sum.inr y5=>
  some y5
def qiy (N:Nat) (x0:List PlantElement) (x1:List Visit) (x5:Int):Option Bool:=
 Option.bind (zcW N x0) fun y2=>
 if (y2 !=0)=true then
  some true
 else
  if (decide (x5<1))=true then
   some true
  else
   Option.bind (getI x1 0) fun y3=>
   Option.bind (zcZ N x0 y3.element) fun y4=>
   if (!y4)=true then
    some true
   else
    Option.bind (getI x1 x5) fun y5=>
    Option.bind (zcZ N x0 y5.element) fun y6=>
    if (!y6)=true then
     some true
    else
     Option.bind (getI x1 0) fun y7=>
     if (y7.in_ !=(-1))=true then
      some true
     else
      Option.bind (getI x1 x5) fun y8=>
      some (y8.out !=(-1))
def qpf (N:Nat) (x0:List PlantElement) (x1:List Visit) (x6:Int):Option Bool:=
 Option.bind (getI x1 x6) fun y10=>
 if (decide (y10.element<0))=true then
  some true
 else
  Option.bind (getI x1 x6) fun y11=>
  if (decide ((x0.length:Int)≤y11.element))=true then
   some true
  else
   Option.bind (cutI x1 0 x6) fun y12=>
   Option.bind (getI x1 x6) fun y13=>
   Option.bind (zcR N y12 y13.element) fun y14=>
   some y14
def qpg (N:Nat) (x0:List PlantElement) (x1:List Visit) (x5:Int) (x6:Int):Option Bool:=
 if (decide (x6<x5))=true then
  Option.bind (getI x1 x6) fun y16=>
  Option.bind (zdH N x0 y16.element) fun y17=>
  Option.bind (getI x1 x6) fun y18=>
  Option.bind (zdO N y17 y18.out) fun y19=>
  if (!y19)=true then
   some true
  else
   Option.bind (getI x1 (IntKind.wrap .i64 (x6+1))) fun y20=>
   Option.bind (getI x1 x6) fun y21=>
   if (y20.in_ !=y21.out)=true then
    some true
   else
    Option.bind (getI x1 (IntKind.wrap .i64 (x6+1))) fun y22=>
    Option.bind (getI x1 x6) fun y23=>
    Option.bind (getI x1 x6) fun y24=>
    Option.bind (zbO N x0 y23.element y24.out) fun y25=>
    some (y22.element !=y25)
 else
  some false
def qph (N:Nat) (x0:List PlantElement) (x1:List Visit) (x5:Int) (x6:Int):Option Bool:=
 if (decide (0<x6))=true then
  if (decide (x6<x5))=true then
   Option.bind (getI x1 x6) fun y27=>
   Option.bind (getI x1 x6) fun y28=>
   Option.bind (zcB N x0 y27.element y28.in_) fun y29=>
   Option.bind (getI x1 x6) fun y30=>
   Option.bind (zdO N y29 y30.out) fun y31=>
   some (!y31)
  else
   some false
 else
  some false
def qiz (N:Nat) (x0:List PlantElement) (x1:List Visit) (x5:Int):Nat→Int→Option (Sum (Unit) (Bool))
 |0,_=>none
 |n+1,x6=>
  if (decide (x6≤x5))=true then
   Option.bind (qpf N x0 x1 x6) fun y15=>
   if y15=true then
    some (Sum.inr false)
   else
    Option.bind (qpg N x0 x1 x5 x6) fun y26=>
    if y26=true then
     some (Sum.inr false)
    else
     Option.bind (qph N x0 x1 x5 x6) fun y32=>
     if y32=true then
      some (Sum.inr false)
     else
      AM.lt (IntKind.wrap .i64 (x6+1)) fun y33=>
      qiz N x0 x1 x5 n y33
  else
   some (Sum.inl ())
def zcY (N:Nat) (x0:List PlantElement) (x1:List Visit):Option Bool:=
 AM.lt (IntKind.wrap .i64 ((x1.length:Int) - 1)) fun y1=>
 Option.bind (qiy N x0 x1 y1) fun y9=>
 if y9=true then
  some false
 else
  Option.bind (qiz N x0 x1 y1 N 0) fun y34=>
  match y34 with
  |Sum.inl y35=>
   some true
  |Sum.inr y36=>
   some y36
def qlh (N:Nat) (x3:Visit) (x5:PlantElement):Option Bool:=
 if (x5.kind==2)=true then
  if (x3.in_==x5.b)=true then
   some true
  else
   AM.lt (x3.out==x5.b) fun y3=>
   some y3
 else
  some false
def zbS (N:Nat) (x0:List PlantElement) (x1:Visit):Option Int:=
 Option.bind (getI x0 x1.element) fun y1=>
 AM.lt (y1.kind==3) fun y2=>
 if y2=true then
  some 3
 else
  Option.bind (qlh N x1 y1) fun y4=>
  if y4=true then
   some 1
  else
   AM.lt (y1.kind==2) fun y5=>
   if y5=true then
    some 2
   else
    some 0
def qln (N:Nat) (x0:List Setting) (x3:Setting) (x5:Int):Option Bool:=
 if (decide (0<x5))=true then
  Option.bind (getI x0 (IntKind.wrap .i64 (x5 - 1))) fun y2=>
  some (decide (x3.element≤y2.element))
 else
  some false
def qlm (N:Nat) (x0:List Setting) (x3:Setting):Nat→Int→Option Int
 |0,_=>none
 |n+1,x5=>
  Option.bind (qln N x0 x3 x5) fun y3=>
  if y3=true then
   AM.lt (IntKind.wrap .i64 (x5 - 1)) fun y4=>
   qlm N x0 x3 n y4
  else
   some x5
def qlo (N:Nat) (x0:List Setting) (x3:Setting) (x5:Int):Option Bool:=
 if (decide (x5<(x0.length:Int)))=true then
  Option.bind (getI x0 x5) fun y6=>
  some (y6.element==x3.element)
 else
  some false
def zdP (N:Nat) (x0:List Setting) (x1:Setting):Option (List Setting):=
 AM.lt (x0.length:Int) fun y1=>
 Option.bind (qlm N x0 x1 N y1) fun y5=>
 Option.bind (qlo N x0 x1 y5) fun y7=>
 if y7=true then
  some x0
 else
  Option.bind (qhN x0 y5 y5) fun y8=>
  Option.bind (cutI x0 y5 (x0.length:Int)) fun y9=>
  Option.bind (appI ([x1]:List Setting) y9) fun y10=>
  if y10.isEmpty=true then
   none
  else
   Option.bind (appI y8 y10) fun y11=>
   some y11
def qo3 (N:Nat) (x0:List PlantElement) (x1:List Visit) (x6:List Setting) (x7:Int):Option (List Setting):=
 Option.bind (getI x1 x7) fun y2=>
 Option.bind (zbS N x0 y2) fun y3=>
 if (y3 !=0)=true then
  Option.bind (getI x1 x7) fun y4=>
  Option.bind (zdP N x6 (Setting.mk y4.element y3)) fun y5=>
  some y5
 else
  some x6
def qjA (N:Nat) (x0:List PlantElement) (x1:List Visit):Nat→(List Setting)→Int→Option (List Setting)
 |0,_,_=>none
 |n+1,x6,x7=>
  if (decide (x7<(x1.length:Int)))=true then
   Option.bind (qo3 N x0 x1 x6 x7) fun y6=>
   AM.lt (IntKind.wrap .i64 (x7+1)) fun y7=>
   qjA N x0 x1 n y6 y7
  else
   some x6
def zbT (N:Nat) (x0:List PlantElement) (x1:List Visit):Option (List Setting×Int):=
 Option.bind (zcY N x0 x1) fun y1=>
 if (!y1)=true then
  some ([],1)
 else
  Option.bind (qjA N x0 x1 N [] 0) fun y8=>
  some (y8,0)
def qjM (N:Nat) (x0:List Setting) (x1:Int):Nat→Int→Option (Sum (Unit) (Int))
 |0,_=>none
 |n+1,x5=>
  if (decide (x5<(x0.length:Int)))=true then
   Option.bind (getI x0 x5) fun y1=>
   if (y1.element==x1)=true then
    Option.bind (getI x0 x5) fun y2=>
    some (Sum.inr y2.position)
   else
    AM.lt (IntKind.wrap .i64 (x5+1)) fun y3=>
    qjM N x0 x1 n y3
  else
   some (Sum.inl ())
def zdR (N:Nat) (x0:List Setting) (x1:Int):Option Int:=
 Option.bind (qjM N x0 x1 N 0) fun y4=>
 match y4 with
 |Sum.inl y5=>
  some 0
 |Sum.inr y6=>
  some y6
def qlc (N:Nat) (self:Guardian→Int→Int→(List (A2_int×Bool))→Option (Int×Guardian×(List (A2_int×Bool)))) (x0:Guardian) (x7:Int):Option Bool:=
 if (decide (x7<0))=true then
  some true
 else
  Option.bind (zcR N x0.r x7) fun y4=>
  some y4
def qnt (N:Nat) (self:Guardian→Int→Int→(List (A2_int×Bool))→Option (Int×Guardian×(List (A2_int×Bool)))) (x2:Int) (x8:PlantElement):Option Bool:=
 if (x8.kind==2)=true then
  AM.lt (x2==x8.a) fun y8=>
  some y8
 else
  some false
def qnu (N:Nat) (self:Guardian→Int→Int→(List (A2_int×Bool))→Option (Int×Guardian×(List (A2_int×Bool)))) (x2:Int) (x8:PlantElement):Option Bool:=
 if (x8.kind==2)=true then
  AM.lt (x2==x8.b) fun y12=>
  some y12
 else
  some false
def qld (N:Nat) (self:Guardian→Int→Int→(List (A2_int×Bool))→Option (Int×Guardian×(List (A2_int×Bool)))) (x0:Guardian) (x2:Int) (x7:Int) (x8:PlantElement) (x9:Int) (x2000003:List (A2_int×Bool)):Option (Sum (Guardian×Int×(List (A2_int×Bool))) (Guardian×Int×(List (A2_int×Bool)))):=
 AM.lt (x8.kind==1) fun y7=>
 if y7=true then
  some (Sum.inr ((Guardian.mk x0.l x0.r x0.need []),22,x2000003))
 else
  Option.bind (qnt N self x2 x8) fun y9=>
  if y9=true then
   Option.bind (self (Guardian.mk x0.l x0.r x0.need []) x7 x8.b x2000003) fun y10=>
   if (y10.1 !=0)=true then
    some (Sum.inr ((Guardian.mk y10.2.1.l y10.2.1.r y10.2.1.need []),y10.1,y10.2.2))
   else
    Option.bind (self (Guardian.mk y10.2.1.l y10.2.1.r y10.2.1.need []) x7 x8.c y10.2.2) fun y11=>
    some (Sum.inr ((Guardian.mk y11.2.1.l y11.2.1.r y11.2.1.need []),y11.1,y11.2.2))
  else
   Option.bind (qnu N self x2 x8) fun y13=>
   if y13=true then
    some (Sum.inl ((Guardian.mk x0.l x0.r x0.need []),2,x2000003))
   else
    AM.lt (x8.kind==2) fun y14=>
    if y14=true then
     some (Sum.inl ((Guardian.mk x0.l x0.r x0.need []),1,x2000003))
    else
     some (Sum.inl ((Guardian.mk x0.l x0.r x0.need []),x9,x2000003))
def qnv (N:Nat) (self:Guardian→Int→Int→(List (A2_int×Bool))→Option (Int×Guardian×(List (A2_int×Bool)))) (x9:Int) (x11:Int):Option Bool:=
 if (x11 !=0)=true then
  some (x11 !=x9)
 else
  some false
def zaU (N:Nat):Nat→Guardian→Int→Int→(List (A2_int×Bool))→Option (Int×Guardian×(List (A2_int×Bool)))
 |0,_,_,_,_=>none
 |rc+1,x0,x1,x2,x2000003=>
  AM.lt (qae x2000003 (A2_int.mk x1 x2)) fun y1=>
  if (y1.getD false)=true then
   some (0,(Guardian.mk x0.l x0.r x0.need []),x2000003)
  else
   AM.lt (qao x2000003 (A2_int.mk x1 x2) true) fun y2=>
   Option.bind (zbO N x0.l x1 x2) fun y3=>
   Option.bind (qlc N (zaU N rc) (Guardian.mk x0.l x0.r x0.need []) y3) fun y5=>
   if y5=true then
    some (0,(Guardian.mk x0.l x0.r x0.need []),y2)
   else
    Option.bind (getI x0.l y3) fun y6=>
    Option.bind (qld N (zaU N rc) (Guardian.mk x0.l x0.r x0.need []) x2 y3 y6 4 y2) fun y15=>
    match y15 with
    |Sum.inl y16=>
     Option.bind (zdR N y16.1.need y3) fun y17=>
     Option.bind (qnv N (zaU N rc) y16.2.1 y17) fun y18=>
     if y18=true then
      some (17,(Guardian.mk y16.1.l y16.1.r y16.1.need []),y16.2.2)
     else
      Option.bind (zdP N y16.1.need (Setting.mk y3 y16.2.1)) fun y19=>
      some (0,(Guardian.mk y16.1.l y16.1.r y19 []),y16.2.2)
    |Sum.inr y20=>
     some (y20.2.1,(Guardian.mk y20.1.l y20.1.r y20.1.need []),y20.2.2)
def qo6 (N:Nat) (x10:PlantElement) (x11:Int) (x53:Bool):Option Int:=
 if x53=true then
  some x10.c
 else
  some x11
def qrJ (N:Nat) (x0:List PlantElement) (x1:List Visit) (x8:Guardian) (x9:Int) (x2008003:List (A2_int×Bool)):Option (Sum (Guardian×(List (A2_int×Bool))) (Int)):=
 Option.bind (getI x1 x9) fun y2=>
 Option.bind (getI x0 y2.element) fun y3=>
 if (y3.kind !=2)=true then
  some (Sum.inl ((Guardian.mk x8.l x8.r x8.need []),x2008003))
 else
  Option.bind (getI x1 x9) fun y4=>
  Option.bind (zbS N x0 y4) fun y5=>
  Option.bind (qo6 N y3 y3.b (y5==1)) fun y6=>
  Option.bind (getI x1 x9) fun y7=>
  Option.bind (zaU N N (Guardian.mk x8.l x8.r x8.need []) y7.element y6 x2008003) fun y8=>
  if (y8.1 !=0)=true then
   some (Sum.inr y8.1)
  else
   some (Sum.inl ((Guardian.mk y8.2.1.l y8.2.1.r y8.2.1.need []),y8.2.2))
def qho (N:Nat) (x0:List PlantElement) (x1:List Visit):Nat→Guardian→Int→(List (A2_int×Bool))→Option (Sum (Guardian×(List (A2_int×Bool))) (Int))
 |0,_,_,_=>none
 |n+1,x8,x9,x2008003=>
  if (decide (x9<(x1.length:Int)))=true then
   Option.bind (qrJ N x0 x1 (Guardian.mk x8.l x8.r x8.need []) x9 x2008003) fun y9=>
   match y9 with
   |Sum.inl y10=>
    AM.lt (IntKind.wrap .i64 (x9+1)) fun y11=>
    qho N x0 x1 n (Guardian.mk y10.1.l y10.1.r y10.1.need []) y11 y10.2
   |Sum.inr y12=>
    some (Sum.inr y12)
  else
   some (Sum.inl ((Guardian.mk x8.l x8.r x8.need []),x2008003))
def qjB (N:Nat) (x8:Guardian):Nat→(List Setting)→Int→Option (List Setting)
 |0,_,_=>none
 |n+1,x6,x13=>
  if (decide (x13<(x8.need.length:Int)))=true then
   Option.bind (getI x8.need x13) fun y15=>
   Option.bind (zdP N x6 y15) fun y16=>
   AM.lt (IntKind.wrap .i64 (x13+1)) fun y17=>
   qjB N x8 n y16 y17
  else
   some x6
def zcD (N:Nat) (x0:List PlantElement) (x1:List Visit):Option (List Setting×Int):=
 Option.bind (zbT N x0 x1) fun y1=>
 if (y1.2 !=0)=true then
  some ([],y1.2)
 else
  Option.bind (qho N x0 x1 N (Guardian.mk x0 x1 [] []) 0 []) fun y13=>
  match y13 with
  |Sum.inl y14=>
   Option.bind (qjB N (Guardian.mk y14.1.l y14.1.r y14.1.need []) N y1.1 0) fun y18=>
   some (y18,0)
  |Sum.inr y19=>
   some ([],y19)
def qhu (N:Nat) (x0:List Lock) (x1:Int):Nat→Int→Option (Sum (Unit) (Int))
 |0,_=>none
 |n+1,x5=>
  if (decide (x5<(x0.length:Int)))=true then
   Option.bind (getI x0 x5) fun y1=>
   if (y1.iD==x1)=true then
    some (Sum.inr x5)
   else
    AM.lt (IntKind.wrap .i64 (x5+1)) fun y2=>
    qhu N x0 x1 n y2
  else
   some (Sum.inl ())
def zdL (N:Nat) (x0:List Lock) (x1:Int):Option Int:=
 Option.bind (qhu N x0 x1 N 0) fun y3=>
 match y3 with
 |Sum.inl y4=>
  some (-1)
 |Sum.inr y5=>
  some y5
def qha (N:Nat) (x0:List Setting) (x1:List Setting):Nat→Int→Option (Sum (Unit) (Bool))
 |0,_=>none
 |n+1,x5=>
  if (decide (x5<(x0.length:Int)))=true then
   Option.bind (getI x0 x5) fun y1=>
   Option.bind (getI x1 x5) fun y2=>
   if (!(decide (y1=y2)))=true then
    some (Sum.inr false)
   else
    AM.lt (IntKind.wrap .i64 (x5+1)) fun y3=>
    qha N x0 x1 n y3
  else
   some (Sum.inl ())
def zaW (N:Nat) (x0:List Setting) (x1:List Setting):Option Bool:=
 if ((x0.length:Int) !=(x1.length:Int))=true then
  some false
 else
  Option.bind (qha N x0 x1 N 0) fun y4=>
  match y4 with
  |Sum.inl y5=>
   some true
  |Sum.inr y6=>
   some y6
def qhi (N:Nat) (x2:Lock) (x3:Lock):Nat→Int→Option (Sum (Unit) (Bool))
 |0,_=>none
 |n+1,x5=>
  if (decide (x5<(x2.visits.length:Int)))=true then
   Option.bind (getI x2.visits x5) fun y1=>
   Option.bind (zcR N x3.visits y1.element) fun y2=>
   if y2=true then
    some (Sum.inr true)
   else
    AM.lt (IntKind.wrap .i64 (x5+1)) fun y3=>
    qhi N x2 x3 n y3
  else
   some (Sum.inl ())
def qo4 (N:Nat) (x2:Lock) (x3:Lock) (x6:Int) (x7:Int):Option Bool:=
 Option.bind (getI x2.settings x6) fun y6=>
 Option.bind (getI x3.settings x7) fun y7=>
 if (y6.element==y7.element)=true then
  Option.bind (getI x2.settings x6) fun y8=>
  Option.bind (getI x3.settings x7) fun y9=>
  some (y8.position !=y9.position)
 else
  some false
def qhk (N:Nat) (x2:Lock) (x3:Lock) (x6:Int):Nat→Int→Option (Sum (Unit) (Bool))
 |0,_=>none
 |n+1,x7=>
  if (decide (x7<(x3.settings.length:Int)))=true then
   Option.bind (qo4 N x2 x3 x6 x7) fun y10=>
   if y10=true then
    some (Sum.inr true)
   else
    AM.lt (IntKind.wrap .i64 (x7+1)) fun y11=>
    qhk N x2 x3 x6 n y11
  else
   some (Sum.inl ())
def qhj (N:Nat) (x2:Lock) (x3:Lock):Nat→Int→Option (Sum (Unit) (Bool))
 |0,_=>none
 |n+1,x6=>
  if (decide (x6<(x2.settings.length:Int)))=true then
   Option.bind (qhk N x2 x3 x6 N 0) fun y12=>
   match y12 with
   |Sum.inl y13=>
    AM.lt (IntKind.wrap .i64 (x6+1)) fun y14=>
    qhj N x2 x3 n y14
   |Sum.inr y15=>
    some (Sum.inr y15)
  else
   some (Sum.inl ())
def zbV (N:Nat) (x0:Lock) (x1:Lock):Option Bool:=
 Option.bind (qhi N x0 x1 N 0) fun y4=>
 match y4 with
 |Sum.inl y5=>
  Option.bind (qhj N x0 x1 N 0) fun y16=>
  match y16 with
  |Sum.inl y17=>
   some false
  |Sum.inr y18=>
   some y18
 |Sum.inr y19=>
  some y19
def qpi (N:Nat) (x0:List PlantElement) (x1:List Lock):Option Bool:=
 Option.bind (zcW N x0) fun y1=>
 if (y1 !=0)=true then
  some true
 else
  some (decide (16<(x1.length:Int)))
def qpj (N:Nat) (x1:List Lock) (x5:Int) (x6:List Setting) (x7:Int):Option Bool:=
 Option.bind (getI x1 x5) fun y5=>
 if (decide (y5.iD<0))=true then
  some true
 else
  Option.bind (getI x1 x5) fun y6=>
  Option.bind (zdL N x1 y6.iD) fun y7=>
  if (y7 !=x5)=true then
   some true
  else
   if (x7 !=0)=true then
    some true
   else
    Option.bind (getI x1 x5) fun y8=>
    Option.bind (zaW N y8.settings x6) fun y9=>
    some (!y9)
def qjH (N:Nat) (x1:List Lock) (x5:Int):Nat→Int→Option (Sum (Unit) (Bool))
 |0,_=>none
 |n+1,x8=>
  if (decide (x8<x5))=true then
   Option.bind (getI x1 x8) fun y11=>
   Option.bind (getI x1 x5) fun y12=>
   Option.bind (zbV N y11 y12) fun y13=>
   if y13=true then
    some (Sum.inr false)
   else
    AM.lt (IntKind.wrap .i64 (x8+1)) fun y14=>
    qjH N x1 x5 n y14
  else
   some (Sum.inl ())
def qht (N:Nat) (x0:List PlantElement) (x1:List Lock):Nat→Int→Option (Sum (Unit) (Bool))
 |0,_=>none
 |n+1,x5=>
  if (decide (x5<(x1.length:Int)))=true then
   Option.bind (getI x1 x5) fun y3=>
   Option.bind (zcD N x0 y3.visits) fun y4=>
   Option.bind (qpj N x1 x5 y4.1 y4.2) fun y10=>
   if y10=true then
    some (Sum.inr false)
   else
    Option.bind (qjH N x1 x5 N 0) fun y15=>
    match y15 with
    |Sum.inl y16=>
     AM.lt (IntKind.wrap .i64 (x5+1)) fun y17=>
     qht N x0 x1 n y17
    |Sum.inr y18=>
     some (Sum.inr y18)
  else
   some (Sum.inl ())
def zdB (N:Nat) (x0:List PlantElement) (x1:List Lock):Option Bool:=
 Option.bind (qpi N x0 x1) fun y2=>
 if y2=true then
  some false
 else
  Option.bind (qht N x0 x1 N 0) fun y19=>
  match y19 with
  |Sum.inl y20=>
   some true
  |Sum.inr y21=>
   some y21
def zdC (N:Nat) (x0:List PlantElement) (x1:List Lock):Option Int:=
 Option.bind (zcW N x0) fun y1=>
 if (y1 !=0)=true then
  some y1
 else
  Option.bind (zdB N x0 x1) fun y2=>
  if (!y2)=true then
   some 1
  else
   some 0
def qjE (N:Nat) (x0:List Lock):Nat→(List Lock)→Int→Option (List Lock)
 |0,_,_=>none
 |n+1,x3,x4=>
  if (decide (x4<(x0.length:Int)))=true then
   Option.bind (getI x0 x4) fun y1=>
   Option.bind (getI x0 x4) fun y2=>
   Option.bind (appI ([]:List Visit) y2.visits) fun y3=>
   Option.bind (getI x0 x4) fun y4=>
   Option.bind (appI ([]:List Setting) y4.settings) fun y5=>
   Option.bind (appI x3 ([(Lock.mk y1.iD y3 y5)]:List Lock)) fun y6=>
   AM.lt (IntKind.wrap .i64 (x4+1)) fun y7=>
   qjE N x0 n y6 y7
  else
   some x3
def zcS (N:Nat) (x0:List Lock):Option (List Lock):=
 Option.bind (qjE N x0 N [] 0) fun y8=>
 some y8
def zcE (N:Nat) (x0:List PlantElement) (x1:List Lock) (x2:Int):Option (List Lock×Int):=
 Option.bind (zdC N x0 x1) fun y1=>
 if (y1 !=0)=true then
  some ([],y1)
 else
  Option.bind (zdL N x1 x2) fun y2=>
  if (decide (y2<0))=true then
   some ([],13)
  else
   Option.bind (zcS N x1) fun y3=>
   Option.bind (qhN y3 y2 y2) fun y4=>
   Option.bind (cutI y3 (IntKind.wrap .i64 (y2+1)) (y3.length:Int)) fun y5=>
   Option.bind (appI y4 y5) fun y6=>
   if y5.isEmpty=true then
    some (y6,0)
   else
    some (y6,0)
def zdK (N:Nat) (x0:List PlantElement) (x1:Visit):Option (List Int):=
 if (decide (x1.in_<0))=true then
  Option.bind (zdH N x0 x1.element) fun y1=>
  some y1
 else
  Option.bind (zcB N x0 x1.element x1.in_) fun y2=>
  some y2
def qnB (N:Nat) (x8:Int) (x9:Bool) (x12:Int) (x13:Bool):Option Bool:=
 if x13=true then
  if (!x9)=true then
   some true
  else
   some (decide (x12<x8))
 else
  some false
def qpt (N:Nat) (x0:List PlantElement) (x1:List (Step×Int)) (x5:Visit) (x8:Int) (x9:Bool) (x10:List Int) (x11:Int):Option (Int×Bool):=
 Option.bind (getI x10 x11) fun y2=>
 Option.bind (getI x10 x11) fun y3=>
 Option.bind (zbO N x0 x5.element y3) fun y4=>
 Option.bind (getI x10 x11) fun y5=>
 Option.bind (getI x10 x11) fun y6=>
 AM.lt (qae x1 (Step.mk y4 y6)) fun y7=>
 AM.lt (y7.getD 0) fun y8=>
 Option.bind (qnB N x8 x9 y8 y7.isSome) fun y9=>
 if y9=true then
  some (y8,true)
 else
  some (x8,x9)
def qjL (N:Nat) (x0:List PlantElement) (x1:List (Step×Int)) (x5:Visit) (x10:List Int):Nat→Int→Bool→Int→Option (Int×Bool)
 |0,_,_,_=>none
 |n+1,x8,x9,x11=>
  if (decide (x11<(x10.length:Int)))=true then
   Option.bind (qpt N x0 x1 x5 x8 x9 x10 x11) fun y10=>
   AM.lt (IntKind.wrap .i64 (x11+1)) fun y11=>
   qjL N x0 x1 x5 x10 n y10.1 y10.2 y11
  else
   some (x8,x9)
def zdJ (N:Nat) (x0:List PlantElement) (x1:List (Step×Int)) (x2:Visit):Option (Int×Bool):=
 Option.bind (zdK N x0 x2) fun y1=>
 Option.bind (qjL N x0 x1 x2 y1 N 0 false 0) fun y12=>
 some (y12.1,y12.2)
def qjx (N:Nat) (x1:Int) (x6:List Int):Nat→(List (Step×Int))→Int→Option (List (Step×Int))
 |0,_,_=>none
 |n+1,x5,x7=>
  if (decide (x7<(x6.length:Int)))=true then
   Option.bind (getI x6 x7) fun y2=>
   Option.bind (getI x6 x7) fun y3=>
   AM.lt (qao x5 (Step.mk x1 y3) 0) fun y4=>
   AM.lt (IntKind.wrap .i64 (x7+1)) fun y5=>
   qjx N x1 x6 n y4 y5
  else
   some x5
def qny (N:Nat) (x12:Int) (x13:Bool) (x14:Int) (x15:Bool):Option Bool:=
 if x13=true then
  if (!x15)=true then
   some true
  else
   some (decide ((IntKind.wrap .i64 (x12+1))<x14))
 else
  some false
def qoW (N:Nat) (x0:List PlantElement) (x1:Int) (x5:List (Step×Int)) (x8:Bool) (x9:Int) (x10:List Int) (x11:Int):Option ((List (Step×Int))×Bool):=
 if (x9==x1)=true then
  some (x5,x8)
 else
  Option.bind (getI x10 x11) fun y8=>
  Option.bind (getI x10 x11) fun y9=>
  Option.bind (zdJ N x0 x5 (Visit.mk x9 y9 0)) fun y10=>
  Option.bind (getI x10 x11) fun y11=>
  Option.bind (getI x10 x11) fun y12=>
  AM.lt (qae x5 (Step.mk x9 y12)) fun y13=>
  AM.lt (y13.getD 0) fun y14=>
  Option.bind (qny N y10.1 y10.2 y14 y13.isSome) fun y15=>
  if y15=true then
   Option.bind (getI x10 x11) fun y16=>
   Option.bind (getI x10 x11) fun y17=>
   AM.lt (qao x5 (Step.mk x9 y17) (IntKind.wrap .i64 (y10.1+1))) fun y18=>
   some (y18,true)
  else
   some (x5,x8)
def qjz (N:Nat) (x0:List PlantElement) (x1:Int) (x9:Int) (x10:List Int):Nat→(List (Step×Int))→Bool→Int→Option ((List (Step×Int))×Bool)
 |0,_,_,_=>none
 |n+1,x5,x8,x11=>
  if (decide (x11<(x10.length:Int)))=true then
   Option.bind (qoW N x0 x1 x5 x8 x9 x10 x11) fun y19=>
   AM.lt (IntKind.wrap .i64 (x11+1)) fun y20=>
   qjz N x0 x1 x9 x10 n y19.1 y19.2 y20
  else
   some (x5,x8)
def qjy (N:Nat) (x0:List PlantElement) (x1:Int):Nat→(List (Step×Int))→Bool→Int→Option ((List (Step×Int))×Bool)
 |0,_,_,_=>none
 |n+1,x5,x8,x9=>
  if (decide (x9<(x0.length:Int)))=true then
   Option.bind (zdH N x0 x9) fun y7=>
   Option.bind (qjz N x0 x1 x9 y7 N x5 x8 0) fun y21=>
   AM.lt (IntKind.wrap .i64 (x9+1)) fun y22=>
   qjy N x0 x1 n y21.1 y21.2 y22
  else
   some (x5,x8)
def qlg (N:Nat) (x0:List PlantElement) (x1:Int):Nat→(List (Step×Int))→Bool→Option (List (Step×Int))
 |0,_,_=>none
 |n+1,x5,x8=>
  if x8=true then
   Option.bind (qjy N x0 x1 N x5 false 0) fun y23=>
   qlg N x0 x1 n y23.1 y23.2
  else
   some x5
def zbP (N:Nat) (x0:List PlantElement) (x1:Int):Option ((List (Step×Int))):=
 Option.bind (zdH N x0 x1) fun y1=>
 Option.bind (qjx N x1 y1 N [] 0) fun y6=>
 Option.bind (qlg N x0 x1 N y6 true) fun y24=>
 some y24
def qpq (N:Nat) (x0:List PlantElement) (x1:Int) (x2:Int):Option Bool:=
 Option.bind (zcZ N x0 x1) fun y2=>
 if (!y2)=true then
  some true
 else
  Option.bind (zcZ N x0 x2) fun y3=>
  if (!y3)=true then
   some true
  else
   some (x1==x2)
def qps (N:Nat) (x10:Visit) (x11:Int) (x14:List Int) (x15:Int) (x16:Int) (x17:Int) (x18:Int) (x19:Bool):Option Bool:=
 if x19=true then
  if (x18==x11)=true then
   if (decide (x15<0))=true then
    some true
   else
    if (decide (x17<x15))=true then
     some true
    else
     if (x17==x15)=true then
      Option.bind (getI x14 x16) fun y15=>
      Option.bind (getI x14 x16) fun y16=>
      some (decide (y16<x10.out))
     else
      some false
  else
   some false
 else
  some false
def qpr (N:Nat) (x0:List PlantElement) (x9:List (Step×Int)) (x10:Visit) (x11:Int) (x14:List Int) (x15:Int) (x16:Int):Option (Visit×Int):=
 Option.bind (getI x14 x16) fun y8=>
 Option.bind (getI x14 x16) fun y9=>
 Option.bind (zbO N x0 x10.element y9) fun y10=>
 Option.bind (getI x14 x16) fun y11=>
 Option.bind (getI x14 x16) fun y12=>
 AM.lt (qae x9 (Step.mk y10 y12)) fun y13=>
 AM.lt (y13.getD 0) fun y14=>
 Option.bind (qps N x10 x11 x14 x15 x16 y10 y14 y13.isSome) fun y17=>
 if y17=true then
  Option.bind (getI x14 x16) fun y18=>
  Option.bind (getI x14 x16) fun y19=>
  some ((Visit.mk x10.element x10.in_ y19),y10)
 else
  some (x10,x15)
def qjK (N:Nat) (x0:List PlantElement) (x9:List (Step×Int)) (x11:Int) (x14:List Int):Nat→Visit→Int→Int→Option (Visit×Int)
 |0,_,_,_=>none
 |n+1,x10,x15,x16=>
  if (decide (x16<(x14.length:Int)))=true then
   Option.bind (qpr N x0 x9 x10 x11 x14 x15 x16) fun y20=>
   AM.lt (IntKind.wrap .i64 (x16+1)) fun y21=>
   qjK N x0 x9 x11 x14 n y20.1 y20.2 y21
  else
   some (x10,x15)
def qjJ (N:Nat) (x0:List PlantElement) (x9:List (Step×Int)):Nat→Visit→Int→(List Visit)→Option (Sum (Visit×List Visit) (Int))
 |0,_,_,_=>none
 |n+1,x10,x11,x13=>
  if (decide (0≤x11))=true then
   Option.bind (zdK N x0 (Visit.mk x10.element x10.in_ (-1))) fun y7=>
   Option.bind (qjK N x0 x9 x11 y7 N (Visit.mk x10.element x10.in_ (-1)) (-1) 0) fun y22=>
   Option.bind (zcR N x13 y22.1.element) fun y23=>
   if y23=true then
    some (Sum.inr 17)
   else
    Option.bind (appI x13 ([y22.1]:List Visit)) fun y24=>
    AM.lt (IntKind.wrap .i64 (x11 - 1)) fun y25=>
    qjJ N x0 x9 n (Visit.mk y22.2 y22.1.out 0) y25 y24
  else
   some (Sum.inl (x10,x13))
def zdI (N:Nat) (x0:List PlantElement) (x1:Int) (x2:Int):Option (List Visit×Int):=
 Option.bind (zcW N x0) fun y1=>
 if (y1 !=0)=true then
  some ([],y1)
 else
  Option.bind (qpq N x0 x1 x2) fun y4=>
  if y4=true then
   some ([],2)
  else
   Option.bind (zbP N x0 x2) fun y5=>
   Option.bind (zdJ N x0 y5 (Visit.mk x1 (-1) 0)) fun y6=>
   if (!y6.2)=true then
    some ([],15)
   else
    Option.bind (qjJ N x0 y5 N (Visit.mk x1 (-1) 0) y6.1 []) fun y26=>
    match y26 with
    |Sum.inl y27=>
     Option.bind (zcR N y27.2 x2) fun y28=>
     if y28=true then
      some ([],17)
     else
      Option.bind (appI y27.2 ([(Visit.mk x2 y27.1.in_ (-1))]:List Visit)) fun y29=>
      some (y29,0)
    |Sum.inr y30=>
     some ([],y30)
def qhv (N:Nat) (x1:List Lock) (x16:Lock):Nat→Int→Option (Sum (Unit) (Int))
 |0,_=>none
 |n+1,x17=>
  if (decide (x17<(x1.length:Int)))=true then
   Option.bind (getI x1 x17) fun y8=>
   Option.bind (zbV N y8 x16) fun y9=>
   if y9=true then
    some (Sum.inr 23)
   else
    AM.lt (IntKind.wrap .i64 (x17+1)) fun y10=>
    qhv N x1 x16 n y10
  else
   some (Sum.inl ())
def zdQ (N:Nat) (x0:List PlantElement) (x1:List Lock) (x2:Int) (x3:Int) (x4:Int):Option (List Lock×Int):=
 Option.bind (zdC N x0 x1) fun y1=>
 if (y1 !=0)=true then
  some ([],y1)
 else
  AM.lt (decide (x2<0)) fun y2=>
  if y2=true then
   some ([],2)
  else
   Option.bind (zdL N x1 x2) fun y3=>
   AM.lt (decide (0≤y3)) fun y4=>
   if y4=true then
    some ([],8)
   else
    AM.lt ((x1.length:Int)==16) fun y5=>
    if y5=true then
     some ([],18)
    else
     Option.bind (zdI N x0 x3 x4) fun y6=>
     if (y6.2 !=0)=true then
      some ([],y6.2)
     else
      Option.bind (zcD N x0 y6.1) fun y7=>
      if (y7.2 !=0)=true then
       some ([],y7.2)
      else
       Option.bind (qhv N x1 (Lock.mk x2 y6.1 y7.1) N 0) fun y11=>
       match y11 with
       |Sum.inl y12=>
        Option.bind (zcS N x1) fun y13=>
        Option.bind (appI y13 ([(Lock.mk x2 y6.1 y7.1)]:List Lock)) fun y14=>
        some (y14,0)
       |Sum.inr y15=>
        some ([],y15)
def qrM (N:Nat) (x0:List PlantElement) (x1:List Act) (x5:List Lock) (x6:Int) (x7:List Lock) (x8:Int) (x30:Bool):Option (List Lock×Int):=
 if x30=true then
  Option.bind (getI x1 x6) fun y4=>
  Option.bind (getI x1 x6) fun y5=>
  Option.bind (getI x1 x6) fun y6=>
  Option.bind (zdQ N x0 x5 y4.id y5.from_ y6.to) fun y7=>
  some (y7.1,y7.2)
 else
  some (x7,x8)
def qpa (N:Nat) (x0:List PlantElement) (x1:List Act) (x5:List Lock) (x6:Int):Option (List Lock):=
 Option.bind (getI x1 x6) fun y1=>
 Option.bind (zcE N x0 x5 y1.id) fun y2=>
 Option.bind (getI x1 x6) fun y3=>
 Option.bind (qrM N x0 x1 x5 x6 y2.1 y2.2 y3.set) fun y8=>
 if (y8.2==0)=true then
  some y8.1
 else
  some x5
def qjD (N:Nat) (x0:List PlantElement) (x1:List Act):Nat→(List Lock)→Int→Option (List Lock)
 |0,_,_=>none
 |n+1,x5,x6=>
  if (decide (x6<(x1.length:Int)))=true then
   Option.bind (qpa N x0 x1 x5 x6) fun y9=>
   AM.lt (IntKind.wrap .i64 (x6+1)) fun y10=>
   qjD N x0 x1 n y9 y10
  else
   some x5
def zcN (N:Nat) (x0:List PlantElement) (x1:List Act):Option (List Lock):=
 Option.bind (qjD N x0 x1 N [] 0) fun y11=>
 some y11
def qrO (N:Nat) (x4:Int) (x5:Bool):Option Bool:=
 if x5=true then
  some x5
 else
  AM.lt (x4==3) fun y2=>
  some y2
def zcP (N:Nat) (x0:PlantElement):Option (List Int):=
 AM.lt (x0.kind==1) fun y1=>
 Option.bind (qrO N x0.kind y1) fun y3=>
 if y3=true then
  some ([x0.a,x0.b]:List Int)
 else
  AM.lt (x0.kind==2) fun y4=>
  if y4=true then
   some ([x0.a,x0.b,x0.c]:List Int)
  else
   some []
def qrP (N:Nat) (x0:List UInt8):Option Bool:=
 if (decide ((x0.length:Int)<1))=true then
  some true
 else
  some (decide (12<(x0.length:Int)))
def qpb (N:Nat) (x0:List UInt8) (x3:Int):Option Bool:=
 Option.bind (getI x0 x3) fun y2=>
 if (decide ((UInt8.toNat y2:Int)<97))=true then
  Option.bind (getI x0 x3) fun y3=>
  if (decide ((UInt8.toNat y3:Int)<48))=true then
   some true
  else
   Option.bind (getI x0 x3) fun y4=>
   some (decide (57<(UInt8.toNat y4:Int)))
 else
  Option.bind (getI x0 x3) fun y5=>
  if (decide (122<(UInt8.toNat y5:Int)))=true then
   Option.bind (getI x0 x3) fun y6=>
   if (decide ((UInt8.toNat y6:Int)<48))=true then
    some true
   else
    Option.bind (getI x0 x3) fun y7=>
    some (decide (57<(UInt8.toNat y7:Int)))
  else
   some false
def qiw (N:Nat) (x0:List UInt8) (x13:Int):Nat→Int→Option (Sum (Unit) (Bool))
 |0,_=>none
 |n+1,x14=>
  if (decide (x14<x13))=true then
   Option.bind (qpb N x0 x14) fun y8=>
   if y8=true then
    some (Sum.inr false)
   else
    qiw N x0 x13 n (IntKind.wrap .i64 (x14+1))
  else
   some (Sum.inl ())
def zcQ (N:Nat) (x0:List UInt8):Option Bool:=
 Option.bind (qrP N x0) fun y1=>
 if y1=true then
  some false
 else
  Option.bind (qiw N x0 (x0.length:Int) N 0) fun y9=>
  match y9 with
  |Sum.inl y10=>
   some true
  |Sum.inr y11=>
   some y11
def qrB (N:Nat) (x1:PlantElement) (x3:List Int):Option Bool:=
 nilT x3 fun y2=>
 if y2=true then
  some true
 else
  Option.bind (zcQ N x1.name) fun y3=>
  some (!y3)
def qrC (N:Nat) (x5:Int):Option Bool:=
 if (decide (x5<0))=true then
  some true
 else
  some (decide (64≤x5))
def qhg (N:Nat) (x5:Int) (x33:List Int) (x34:Int):Nat→Int→Option (Sum (Unit) (Bool))
 |0,_=>none
 |n+1,x35=>
  if (decide (x35<x34))=true then
   Option.bind (getI x33 x35) fun y8=>
   if (x5==y8)=true then
    some (Sum.inr false)
   else
    qhg N x5 x33 x34 n (IntKind.wrap .i64 (x35+1))
  else
   some (Sum.inl ())
def qhf (N:Nat) (x3:List Int) (x18:List Int) (x19:Int):Nat→Int→Option (Sum (Unit) (Bool))
 |0,_=>none
 |n+1,x20=>
  if (decide (x20<x19))=true then
   Option.bind (getI x18 x20) fun y5=>
   Option.bind (qrC N y5) fun y6=>
   if y6=true then
    some (Sum.inr false)
   else
    Option.bind (cutI x3 0 x20) fun y7=>
    Option.bind (qhg N y5 y7 (y7.length:Int) N 0) fun y9=>
    match y9 with
    |Sum.inl y10=>
     qhf N x3 x18 x19 n (IntKind.wrap .i64 (x20+1))
    |Sum.inr y11=>
     some (Sum.inr y11)
  else
   some (Sum.inl ())
def qrD (N:Nat) (x1:PlantElement):Option Bool:=
 if (x1.c==0)=true then
  if (decide (1≤x1.length))=true then
   AM.lt (decide (x1.length≤100000)) fun y14=>
   some y14
  else
   some false
 else
  some false
def qrE (N:Nat) (x1:PlantElement):Option Bool:=
 if (x1.length==0)=true then
  if (x1.kind==2)=true then
   some true
  else
   AM.lt (x1.c==0) fun y16=>
   some y16
 else
  some false
def zbN (N:Nat) (x0:PlantElement):Option Bool:=
 Option.bind (zcP N x0) fun y1=>
 Option.bind (qrB N x0 y1) fun y4=>
 if y4=true then
  some false
 else
  Option.bind (qhf N y1 y1 (y1.length:Int) N 0) fun y12=>
  match y12 with
  |Sum.inl y13=>
   if (x0.kind==1)=true then
    Option.bind (qrD N x0) fun y15=>
    some y15
   else
    Option.bind (qrE N x0) fun y17=>
    some y17
  |Sum.inr y18=>
   some y18
def qry (N:Nat) (x4:Int) (x5:Bool):Option Bool:=
 if x5=true then
  some x5
 else
  AM.lt (x4==3) fun y2=>
  some y2
def zbE (N:Nat) (x0:PlantElement):Option Unit:=
 AM.lt (x0.kind==1) fun y1=>
 Option.bind (qry N x0.kind y1) fun y3=>
 if y3=true then
  none
 else
  AM.lt (x0.kind==2) fun y4=>
  if y4=true then
   none
  else
   some ()
def qrA (N:Nat):Option Bool:=
 some true
def qv2 (N:Nat) (x19:Int):Nat→Int→Option Unit
 |0,_=>none
 |n+1,x20=>
  if (decide (x20<x19))=true then
   none
  else
   some ()
def qv3 (N:Nat) (x1:PlantElement):Option Bool:=
 if (x1.c==0)=true then
  if (decide (1≤x1.length))=true then
   AM.lt (decide (x1.length≤100000)) fun y4=>
   some y4
  else
   some false
 else
  some false
def qv4 (N:Nat) (x1:PlantElement):Option Bool:=
 if (x1.length==0)=true then
  if (x1.kind==2)=true then
   some true
  else
   AM.lt (x1.c==0) fun y6=>
   some y6
 else
  some false
def zbM (N:Nat) (x0:PlantElement):Option Bool:=
 Option.bind (zbE N x0) fun y1=>
 Option.bind (qrA N) fun y2=>
 if y2=true then
  some false
 else
  Option.bind (qv2 N (([]:List Int).length:Int) N 0) fun y3=>
  if (x0.kind==1)=true then
   Option.bind (qv3 N x0) fun y5=>
   some y5
  else
   Option.bind (qv4 N x0) fun y7=>
   some y7
def zcA (N:Nat) (x0:PlantElement):Option Bool:=
 orI (zbM N x0) (zbN N x0)
def qhn (N:Nat) (x31:List Int) (x32:Int):Nat→(List (Int×Int))→Int→Option (Sum ((List (Int×Int))) (Int))
 |0,_,_=>none
 |n+1,x4,x33=>
  if (decide (x33<x32))=true then
   Option.bind (getI x31 x33) fun y6=>
   Option.bind (getI x31 x33) fun y7=>
   AM.lt (qae x4 y7) fun y8=>
   if ((y8.getD 0)==2)=true then
    some (Sum.inr 17)
   else
    AM.lt (qae x4 y7) fun y9=>
    AM.lt (qao x4 y7 (IntKind.wrap .i64 ((y9.getD 0)+1))) fun y10=>
    qhn N x31 x32 n y10 (IntKind.wrap .i64 (x33+1))
  else
   some (Sum.inl x4)
def qli (N:Nat) (x14:List PlantElement) (x15:Int):Nat→(List ((List UInt8)×Bool))→(List (Int×Int))→Int→Option (Sum (Unit) (Int))
 |0,_,_,_=>none
 |n+1,x3,x4,x16=>
  if (decide (x16<x15))=true then
   Option.bind (getI x14 x16) fun y1=>
   Option.bind (zcA N y1) fun y2=>
   if (!y2)=true then
    some (Sum.inr 1)
   else
    AM.lt (qae x3 y1.name) fun y3=>
    if (y3.getD false)=true then
     some (Sum.inr 8)
    else
     AM.lt (qao x3 y1.name true) fun y4=>
     Option.bind (zcP N y1) fun y5=>
     Option.bind (qhn N y5 (y5.length:Int) N x4 0) fun y11=>
     match y11 with
     |Sum.inl y12=>
      qli N x14 x15 n y4 y12 (IntKind.wrap .i64 (x16+1))
     |Sum.inr y13=>
      some (Sum.inr y13)
  else
   some (Sum.inl ())
def zbZ (N:Nat) (x0:List PlantElement):Option Int:=
 if (decide (96<(x0.length:Int)))=true then
  some 3
 else
  Option.bind (qli N x0 (x0.length:Int) N [] [] 0) fun y14=>
  match y14 with
  |Sum.inl y15=>
   some 0
  |Sum.inr y16=>
   some y16
def qo7 (N:Nat) (x0:List PlantElement) (x1:Int):Option Bool:=
 if (decide (0≤x1))=true then
  if (decide (x1<(x0.length:Int)))=true then
   Option.bind (getI x0 x1) fun y1=>
   AM.lt (y1.kind==1) fun y2=>
   some y2
  else
   some false
 else
  some false
def zcG (N:Nat) (x0:List PlantElement) (x1:Int):Option Bool:=
 Option.bind (qo7 N x0 x1) fun y3=>
 some y3
def qrN (N:Nat) (x0:List PlantElement) (x1:Int):Option Bool:=
 if (decide (x1<0))=true then
  some true
 else
  some (decide ((x0.length:Int)≤x1))
def zcO (N:Nat) (x0:List PlantElement) (x1:Int):Option (List Int):=
 Option.bind (qrN N x0 x1) fun y1=>
 if y1=true then
  some []
 else
  Option.bind (getI x0 x1) fun y2=>
  Option.bind (zcP N y2) fun y3=>
  some y3
def qit (N:Nat) (x0:List Int) (x1:Int) (x7:Int):Nat→Int→Option (Sum (Unit) (Int))
 |0,_=>none
 |n+1,x8=>
  if (decide (x8<x7))=true then
   Option.bind (getI x0 x8) fun y1=>
   if (x1==y1)=true then
    some (Sum.inr x8)
   else
    qit N x0 x1 x7 n (IntKind.wrap .i64 (x8+1))
  else
   some (Sum.inl ())
def zaL (N:Nat) (x0:List Int) (x1:Int):Option Int:=
 Option.bind (qit N x0 x1 (x0.length:Int) N 0) fun y2=>
 match y2 with
 |Sum.inl y3=>
  some (-1)
 |Sum.inr y4=>
  some y4
def zaG (N:Nat) (x0:List Int) (x1:Int):Option Bool:=
 Option.bind (zaL N x0 x1) fun y1=>
 AM.lt (decide (0≤y1)) fun y2=>
 some y2
def qhc (N:Nat) (x2:Int) (x7:Int) (x22:List Int) (x23:Int):Nat→Int→Option (Sum (Unit) (Int))
 |0,_=>none
 |n+1,x24=>
  if (decide (x24<x23))=true then
   Option.bind (getI x22 x24) fun y3=>
   Option.bind (getI x22 x24) fun y4=>
   if (y4==x2)=true then
    some (Sum.inr x7)
   else
    qhc N x2 x7 x22 x23 n (IntKind.wrap .i64 (x24+1))
  else
   some (Sum.inl ())
def qrw (N:Nat) (x1:Int) (x2:Int) (x11:List PlantElement) (x13:Int):Option (Sum (Unit) (Int)):=
 Option.bind (getI x11 x13) fun y1=>
 if (x13==x1)=true then
  some (Sum.inl ())
 else
  Option.bind (zcP N y1) fun y2=>
  Option.bind (qhc N x2 x13 y2 (y2.length:Int) N 0) fun y5=>
  match y5 with
  |Sum.inl y6=>
   some (Sum.inl ())
  |Sum.inr y7=>
   some (Sum.inr y7)
def qiu (N:Nat) (x1:Int) (x2:Int) (x11:List PlantElement) (x12:Int):Nat→Int→Option (Sum (Unit) (Int))
 |0,_=>none
 |n+1,x13=>
  if (decide (x13<x12))=true then
   Option.bind (qrw N x1 x2 x11 x13) fun y8=>
   match y8 with
   |Sum.inl y9=>
    qiu N x1 x2 x11 x12 n (IntKind.wrap .i64 (x13+1))
   |Sum.inr y10=>
    some (Sum.inr y10)
  else
   some (Sum.inl ())
def zbA (N:Nat) (x0:List PlantElement) (x1:Int) (x2:Int):Option Int:=
 Option.bind (qiu N x1 x2 x0 (x0.length:Int) N 0) fun y11=>
 match y11 with
 |Sum.inl y12=>
  some (-1)
 |Sum.inr y13=>
  some y13
def qcQ (N:Nat) (x2:Int) (x14:Int):Nat→(List Int)→Int→Option (Sum (Unit) (List Int))
 |0,_,_=>none
 |n+1,x7,x15=>
  if (decide (x15<x14))=true then
   Option.bind (getI x7 x15) fun y2=>
   Option.bind (getI x7 x15) fun y3=>
   if (y3 !=x2)=true then
    qcQ N x2 x14 n x7 (IntKind.wrap .i64 (x15+1))
   else
    AM.lt (decide (0<x15)) fun y4=>
    if y4=true then
     Option.bind (getI x7 0) fun y5=>
     Option.bind (getI x7 0) fun y6=>
     some (Sum.inr ([y6]:List Int))
    else
     Option.bind (cutI x7 1 (x7.length:Int)) fun y7=>
     some (Sum.inr y7)
  else
   some (Sum.inl ())
def zbL (N:Nat) (x0:List PlantElement) (x1:Int) (x2:Int):Option (List Int):=
 Option.bind (zcO N x0 x1) fun y1=>
 Option.bind (qcQ N x2 (y1.length:Int) N y1 0) fun y8=>
 match y8 with
 |Sum.inl y9=>
  some []
 |Sum.inr y10=>
  some y10
def qll (N:Nat) (x0:List PlantElement) (x1:List Visit) (x5:Int):Option Bool:=
 if (decide (x5<1))=true then
  some true
 else
  Option.bind (getI x1 0) fun y2=>
  Option.bind (zcG N x0 y2.element) fun y3=>
  if (!y3)=true then
   some true
  else
   Option.bind (getI x1 x5) fun y4=>
   Option.bind (zcG N x0 y4.element) fun y5=>
   if (!y5)=true then
    some true
   else
    Option.bind (getI x1 0) fun y6=>
    if (y6.in_ !=(-1))=true then
     some true
    else
     Option.bind (getI x1 x5) fun y7=>
     some (y7.out !=(-1))
def qpk (N:Nat) (x0:List PlantElement) (x1:List Visit) (x5:Int):Option Bool:=
 Option.bind (getI x1 0) fun y9=>
 Option.bind (zcO N x0 y9.element) fun y10=>
 Option.bind (getI x1 0) fun y11=>
 Option.bind (zaG N y10 y11.out) fun y12=>
 if (!y12)=true then
  some true
 else
  Option.bind (getI x1 x5) fun y13=>
  Option.bind (zcO N x0 y13.element) fun y14=>
  Option.bind (getI x1 x5) fun y15=>
  Option.bind (zaG N y14 y15.in_) fun y16=>
  some (!y16)
def qpl (N:Nat) (x0:List PlantElement) (x7:Visit) (x8:Visit):Option Bool:=
 if (x7.in_ !=x8.out)=true then
  some true
 else
  if (decide (x7.element<0))=true then
   some true
  else
   Option.bind (zbA N x0 x8.element x8.out) fun y21=>
   some (y21 !=x7.element)
def qpm (N:Nat) (x0:List PlantElement) (x5:Int) (x6:Int) (x7:Visit):Option Bool:=
 if (decide ((IntKind.wrap .i64 (x6+1))<x5))=true then
  Option.bind (zbL N x0 x7.element x7.in_) fun y23=>
  Option.bind (zaG N y23 x7.out) fun y24=>
  some (!y24)
 else
  some false
def qiA (N:Nat) (x0:List PlantElement) (x1:List Visit) (x5:Int) (x77:List Visit) (x78:Int):Nat→Int→Option (Sum (Unit) (Bool))
 |0,_=>none
 |n+1,x79=>
  if (decide (x79<x78))=true then
   Option.bind (getI x77 x79) fun y19=>
   Option.bind (getI x1 x79) fun y20=>
   Option.bind (qpl N x0 y19 y20) fun y22=>
   if y22=true then
    some (Sum.inr false)
   else
    Option.bind (qpm N x0 x5 x79 y19) fun y25=>
    if y25=true then
     some (Sum.inr false)
    else
     qiA N x0 x1 x5 x77 x78 n (IntKind.wrap .i64 (x79+1))
  else
   some (Sum.inl ())
def zdD (N:Nat) (x0:List PlantElement) (x1:List Visit):Option Bool:=
 AM.lt (IntKind.wrap .i64 ((x1.length:Int) - 1)) fun y1=>
 Option.bind (qll N x0 x1 y1) fun y8=>
 if y8=true then
  some false
 else
  Option.bind (qpk N x0 x1 y1) fun y17=>
  if y17=true then
   some false
  else
   Option.bind (cutI x1 1 (x1.length:Int)) fun y18=>
   Option.bind (qiA N x0 x1 y1 y18 (y18.length:Int) N 0) fun y26=>
   match y26 with
   |Sum.inl y27=>
    some true
   |Sum.inr y28=>
    some y28
def qhp (N:Nat) (x7:List Visit) (x8:Int):Nat→(List (Int×Bool))→Int→Option (Sum (Unit) (Bool))
 |0,_,_=>none
 |n+1,x3,x9=>
  if (decide (x9<x8))=true then
   Option.bind (getI x7 x9) fun y1=>
   AM.lt (qae x3 y1.element) fun y2=>
   if (y2.getD false)=true then
    some (Sum.inr true)
   else
    AM.lt (qao x3 y1.element true) fun y3=>
    qhp N x7 x8 n y3 (IntKind.wrap .i64 (x9+1))
  else
   some (Sum.inl ())
def zcH (N:Nat) (x0:List Visit):Option Bool:=
 Option.bind (qhp N x0 (x0.length:Int) N [] 0) fun y4=>
 match y4 with
 |Sum.inl y5=>
  some false
 |Sum.inr y6=>
  some y6
def qrK (N:Nat) (x0:List PlantElement) (x1:List Visit):Option Bool:=
 Option.bind (zbZ N x0) fun y1=>
 if (y1==0)=true then
  Option.bind (zdD N x0 x1) fun y2=>
  if y2=true then
   Option.bind (zcH N x1) fun y3=>
   AM.lt (!y3) fun y4=>
   some y4
  else
   some false
 else
  some false
def zcF (N:Nat) (x0:List PlantElement) (x1:List Visit):Option Bool:=
 Option.bind (qrK N x0 x1) fun y5=>
 some y5
def zbI (N:Nat) (x0:Int):Option Bool:=
 AM.lt (x0 !=x0) fun y1=>
 some y1
def zaX (N:Nat) (x0:Int) (x1:Int):Option Int:=
 Option.bind (zbI N x0) fun y1=>
 Option.bind (zbI N x1) fun y2=>
 if y1=true then
  if y2=true then
   some 0
  else
   some (-1)
 else
  if y2=true then
   some 1
  else
   if (decide (x0<x1))=true then
    some (-1)
   else
    if (decide (x1<x0))=true then
     some 1
    else
     some 0
def qle (N:Nat) (x8:Visit) (x9:PlantElement):Option Bool:=
 if (x9.kind==2)=true then
  if (x8.in_==x9.b)=true then
   some true
  else
   AM.lt (x8.out==x9.b) fun y6=>
   some y6
 else
  some false
def qoV (N:Nat) (x0:List PlantElement) (x6:List Setting) (x14:List Visit) (x16:Int):Option (List Setting):=
 Option.bind (getI x14 x16) fun y2=>
 Option.bind (getI x0 y2.element) fun y3=>
 AM.lt (y3.kind==3) fun y4=>
 if y4=true then
  Option.bind (appI x6 ([(Setting.mk y2.element 3)]:List Setting)) fun y5=>
  some y5
 else
  Option.bind (qle N y2 y3) fun y7=>
  if y7=true then
   Option.bind (appI x6 ([(Setting.mk y2.element 1)]:List Setting)) fun y8=>
   some y8
  else
   AM.lt (y3.kind==2) fun y9=>
   if y9=true then
    Option.bind (appI x6 ([(Setting.mk y2.element 2)]:List Setting)) fun y10=>
    some y10
   else
    some x6
def qfl (N:Nat) (x0:List PlantElement) (x14:List Visit) (x15:Int):Nat→(List Setting)→Int→Option (List Setting)
 |0,_,_=>none
 |n+1,x6,x16=>
  if (decide (x16<x15))=true then
   Option.bind (qoV N x0 x6 x14 x16) fun y11=>
   qfl N x0 x14 x15 n y11 (IntKind.wrap .i64 (x16+1))
  else
   some x6
def zbG (N:Nat) (x0:List PlantElement) (x1:List Visit):Option (List Setting×Int):=
 Option.bind (zcF N x0 x1) fun y1=>
 if (!y1)=true then
  some ([],1)
 else
  Option.bind (qfl N x0 x1 (x1.length:Int) N [] 0) fun y12=>
  Option.bind (@srtI Setting ⟨(Setting.mk 0 0)⟩ (fun (a b:Setting)=>cmpI a.element b.element) y12) fun y13=>
  some (y13,0)
def qjv (N:Nat) (x7:List Visit) (x8:Int):Nat→(List (Int×Bool))→Int→Option (List (Int×Bool))
 |0,_,_=>none
 |n+1,x3,x9=>
  if (decide (x9<x8))=true then
   Option.bind (getI x7 x9) fun y1=>
   AM.lt (qao x3 y1.element true) fun y2=>
   qjv N x7 x8 n y2 (IntKind.wrap .i64 (x9+1))
  else
   some x3
def zbC (N:Nat) (x0:List Visit):Option ((List (Int×Bool))):=
 Option.bind (qjv N x0 (x0.length:Int) N [] 0) fun y3=>
 some y3
def qo9 (N:Nat) (x2:PlantElement) (x3:Visit):Option Bool:=
 if (x3.in_==x2.b)=true then
  some true
 else
  some (x3.out==x2.b)
def zcM (N:Nat) (x0:PlantElement) (x1:Visit):Option Int:=
 Option.bind (qo9 N x0 x1) fun y1=>
 if y1=true then
  some x0.c
 else
  some x0.b
def qoP (N:Nat) (x1:Int) (x6:Int) (x7:Bool):Option Bool:=
 if x7=true then
  some (x6 !=x1)
 else
  some false
def zaS (N:Nat) (x0:Int) (x1:Int) (x2002000:List (Int×Int)):Option (Int×(List (Int×Int))):=
 AM.lt (qae x2002000 x0) fun y1=>
 AM.lt (y1.getD 0) fun y2=>
 Option.bind (qoP N x1 y2 y1.isSome) fun y3=>
 if y3=true then
  some (17,x2002000)
 else
  AM.lt (qao x2002000 x0 x1) fun y4=>
  some (0,y4)
def zcL (N:Nat) (x0:PlantElement) (x1:Int):Option Int:=
 if (x1==x0.b)=true then
  some 2
 else
  some 1
def qoQ (N:Nat) (self:Spot→(List PlantElement)→(List (Spot×Bool))→(List (Int×Bool))→(List (Spot×Bool))→(List (Int×Bool))→(List (Int×Int))→(List (Int×Int))→Option (Int×(List (Spot×Bool))×(List (Int×Int)))) (x6:Spot) (x8:Int) (x2002000:List (Spot×Bool)) (x2003000:List (Int×Bool)):Option Bool:=
 AM.lt (qae x2002000 x6) fun y2=>
 if (y2.getD false)=true then
  some true
 else
  if (decide (x8<0))=true then
   some true
  else
   AM.lt (qae x2003000 x8) fun y3=>
   some (y3.getD false)
def zaT (N:Nat):Nat→Spot→(List PlantElement)→(List (Spot×Bool))→(List (Int×Bool))→(List (Spot×Bool))→(List (Int×Bool))→(List (Int×Int))→(List (Int×Int))→Option (Int×(List (Spot×Bool))×(List (Int×Int)))
 |0,_,_,_,_,_,_,_,_=>none
 |rc+1,x0,x1,x2,x3,x2002000,x2003000,x200016385,x201048641=>
  Option.bind (zbA N x1 x0.element x0.node) fun y1=>
  Option.bind (qoQ N (zaT N rc) x0 y1 x2002000 x2003000) fun y4=>
  if y4=true then
   some (0,x2002000,x201048641)
  else
   AM.lt (qao x2002000 x0 true) fun y5=>
   Option.bind (getI x1 y1) fun y6=>
   AM.lt (y6.kind==1) fun y7=>
   if y7=true then
    some (22,y5,x201048641)
   else
    AM.lt (y6.kind==3) fun y8=>
    if y8=true then
     Option.bind (zaS N y1 4 x201048641) fun y9=>
     some (y9.1,y5,y9.2)
    else
     AM.lt (x0.node !=y6.a) fun y10=>
     if y10=true then
      Option.bind (zcL N y6 x0.node) fun y11=>
      Option.bind (zaS N y1 y11 x201048641) fun y12=>
      some (y12.1,y5,y12.2)
     else
      Option.bind (zaT N rc (Spot.mk y1 y6.b) x1 [] [] y5 x2003000 [] x201048641) fun y13=>
      if (y13.1 !=0)=true then
       some (y13.1,y13.2.1,y13.2.2)
      else
       Option.bind (zaT N rc (Spot.mk y1 y6.c) x1 [] [] y13.2.1 x2003000 [] y13.2.2) fun y14=>
       some (y14.1,y14.2.1,y14.2.2)
def qrI (N:Nat) (x2:(List PlantElement)) (x21:List Visit) (x23:Int) (x2008000:List (Int×Int)) (x202621569:List (Spot×Bool)) (x202621633:List (Int×Bool)):Option (Sum ((List (Int×Int))×(List (Spot×Bool))) (Int)):=
 Option.bind (getI x21 x23) fun y2=>
 Option.bind (getI x2 y2.element) fun y3=>
 if (y3.kind==2)=true then
  Option.bind (zcM N y3 y2) fun y4=>
  Option.bind (zaT N N (Spot.mk y2.element y4) x2 [] [] x202621569 x202621633 [] x2008000) fun y5=>
  if (y5.1 !=0)=true then
   some (Sum.inr y5.1)
  else
   some (Sum.inl (y5.2.2,y5.2.1))
 else
  some (Sum.inl (x2008000,x202621569))
def qhm (N:Nat) (x2:(List PlantElement)) (x21:List Visit) (x22:Int) (x202621633:List (Int×Bool)):Nat→(List (Int×Int))→Int→(List (Int×Int))→(List (Spot×Bool))→(List (Spot×Bool))→Option (Sum ((List (Int×Int))×(List (Int×Int))) (Int))
 |0,_,_,_,_,_=>none
 |n+1,x8,x23,x2008000,x200040962,x202621569=>
  if (decide (x23<x22))=true then
   Option.bind (qrI N x2 x21 x23 x2008000 x202621569 x202621633) fun y6=>
   match y6 with
   |Sum.inl y7=>
    qhm N x2 x21 x22 x202621633 n [] (IntKind.wrap .i64 (x23+1)) y7.1 [] y7.2
   |Sum.inr y8=>
    some (Sum.inr y8)
  else
   some (Sum.inl ([],x2008000))
def zbY (N:Nat) (x0:List PlantElement) (x1:List Visit):Option ((List (Int×Int))×Int):=
 Option.bind (zbC N x1) fun y1=>
 Option.bind (qhm N x0 x1 (x1.length:Int) y1 N [] 0 [] [] []) fun y9=>
 match y9 with
 |Sum.inl y10=>
  some (y10.2,0)
 |Sum.inr y11=>
  some ([],y11)
def qnx (N:Nat) (x6:List Setting) (x8:List (Int×Int)):Option (List Setting×Int):=
 rngM (fun (x:Setting)=>x.element) (fun (a:Int) (b:Int)=>(Setting.mk a b)) (@srtI Setting ⟨(Setting.mk 0 0)⟩ (fun (a b:Setting)=>cmpI a.element b.element)) x6 x8
def zbJ (N:Nat) (x0:List PlantElement) (x1:List Visit):Option (List Setting×Int):=
 Option.bind (zbG N x0 x1) fun y1=>
 if (y1.2 !=0)=true then
  some ([],y1.2)
 else
  Option.bind (zbY N x0 x1) fun y2=>
  if (y2.2 !=0)=true then
   some ([],y2.2)
  else
   Option.bind (qnx N y1.1 y2.1) fun y3=>
   some (y3.1,y3.2)
def qg5 (N:Nat) (x0:List Setting) (x1:List Setting) (x12:Int):Nat→Int→Option (Sum (Unit) (Bool))
 |0,_=>none
 |n+1,x13=>
  if (decide (x13<x12))=true then
   Option.bind (getI x0 x13) fun y1=>
   Option.bind (getI x1 x13) fun y2=>
   if (!(decide (y1=y2)))=true then
    some (Sum.inr false)
   else
    qg5 N x0 x1 x12 n (IntKind.wrap .i64 (x13+1))
  else
   some (Sum.inl ())
def zaE (N:Nat) (x0:List Setting) (x1:List Setting):Option Bool:=
 if ((x0.length:Int) !=(x1.length:Int))=true then
  some false
 else
  Option.bind (qg5 N x0 x1 (x0.length:Int) N 0) fun y3=>
  match y3 with
  |Sum.inl y4=>
   some true
  |Sum.inr y5=>
   some y5
def qg7 (N:Nat) (x6:Visit) (x21:List Visit) (x22:Int):Nat→Int→Option (Sum (Unit) (Bool))
 |0,_=>none
 |n+1,x23=>
  if (decide (x23<x22))=true then
   Option.bind (getI x21 x23) fun y2=>
   if (x6.element==y2.element)=true then
    some (Sum.inr true)
   else
    qg7 N x6 x21 x22 n (IntKind.wrap .i64 (x23+1))
  else
   some (Sum.inl ())
def qg6 (N:Nat) (x3:Lock) (x14:List Visit) (x15:Int):Nat→Int→Option (Sum (Unit) (Bool))
 |0,_=>none
 |n+1,x16=>
  if (decide (x16<x15))=true then
   Option.bind (getI x14 x16) fun y1=>
   Option.bind (qg7 N y1 x3.visits (x3.visits.length:Int) N 0) fun y3=>
   match y3 with
   |Sum.inl y4=>
    qg6 N x3 x14 x15 n (IntKind.wrap .i64 (x16+1))
   |Sum.inr y5=>
    some (Sum.inr y5)
  else
   some (Sum.inl ())
def qoO (N:Nat) (x10:Setting) (x12:Setting):Option Bool:=
 if (x10.element==x12.element)=true then
  some (x10.position !=x12.position)
 else
  some false
def qg9 (N:Nat) (x10:Setting) (x42:List Setting) (x43:Int):Nat→Int→Option (Sum (Unit) (Bool))
 |0,_=>none
 |n+1,x44=>
  if (decide (x44<x43))=true then
   Option.bind (getI x42 x44) fun y9=>
   Option.bind (qoO N x10 y9) fun y10=>
   if y10=true then
    some (Sum.inr true)
   else
    qg9 N x10 x42 x43 n (IntKind.wrap .i64 (x44+1))
  else
   some (Sum.inl ())
def qg8 (N:Nat) (x3:Lock) (x35:List Setting) (x36:Int):Nat→Int→Option (Sum (Unit) (Bool))
 |0,_=>none
 |n+1,x37=>
  if (decide (x37<x36))=true then
   Option.bind (getI x35 x37) fun y8=>
   Option.bind (qg9 N y8 x3.settings (x3.settings.length:Int) N 0) fun y11=>
   match y11 with
   |Sum.inl y12=>
    qg8 N x3 x35 x36 n (IntKind.wrap .i64 (x37+1))
   |Sum.inr y13=>
    some (Sum.inr y13)
  else
   some (Sum.inl ())
def zaN (N:Nat) (x0:Lock) (x1:Lock):Option Bool:=
 Option.bind (qg6 N x1 x0.visits (x0.visits.length:Int) N 0) fun y6=>
 match y6 with
 |Sum.inl y7=>
  Option.bind (qg8 N x1 x0.settings (x0.settings.length:Int) N 0) fun y14=>
  match y14 with
  |Sum.inl y15=>
   some false
  |Sum.inr y16=>
   some y16
 |Sum.inr y17=>
  some y17
def qoR (N:Nat) (x0:List PlantElement) (x1:List Lock):Option Bool:=
 Option.bind (zbZ N x0) fun y1=>
 if (y1 !=0)=true then
  some true
 else
  some (decide (16<(x1.length:Int)))
def qoT (N:Nat) (x6:Lock) (x7:List Setting) (x8:Int):Option Bool:=
 if (decide (x6.iD<0))=true then
  some true
 else
  if (x8 !=0)=true then
   some true
  else
   Option.bind (zaE N x6.settings x7) fun y5=>
   some (!y5)
def qoU (N:Nat) (x6:Lock) (x10:Lock):Option Bool:=
 if (x6.iD==x10.iD)=true then
  some true
 else
  Option.bind (zaN N x6 x10) fun y8=>
  some y8
def qjt (N:Nat) (x5:Int) (x6:Lock) (x47:List Lock) (x48:Int):Nat→Int→Option (Sum (Unit) (Sum (Unit) (Bool)))
 |0,_=>none
 |n+1,x49=>
  if (decide (x49<x48))=true then
   Option.bind (getI x47 x49) fun y7=>
   if (decide (x5≤x49))=true then
    some (Sum.inl ())
   else
    Option.bind (qoU N x6 y7) fun y9=>
    if y9=true then
     some (Sum.inr (Sum.inr false))
    else
     qjt N x5 x6 x47 x48 n (IntKind.wrap .i64 (x49+1))
  else
   some (Sum.inr (Sum.inl ()))
def qoS (N:Nat) (x0:List PlantElement) (x1:List Lock) (x19:List Lock) (x21:Int):Option (Sum (Unit) (Bool)):=
 Option.bind (getI x19 x21) fun y3=>
 Option.bind (zbJ N x0 y3.visits) fun y4=>
 Option.bind (qoT N y3 y4.1 y4.2) fun y6=>
 if y6=true then
  some (Sum.inr false)
 else
  Option.bind (qjt N x21 y3 x1 (x1.length:Int) N 0) fun y10=>
  match y10 with
  |Sum.inl y11=>
   some (Sum.inl ())
  |Sum.inr (Sum.inl y12)=>
   some (Sum.inl ())
  |Sum.inr (Sum.inr y13)=>
   some (Sum.inr y13)
def qhb (N:Nat) (x0:List PlantElement) (x1:List Lock) (x19:List Lock) (x20:Int):Nat→Int→Option (Sum (Unit) (Bool))
 |0,_=>none
 |n+1,x21=>
  if (decide (x21<x20))=true then
   Option.bind (qoS N x0 x1 x19 x21) fun y14=>
   match y14 with
   |Sum.inl y15=>
    qhb N x0 x1 x19 x20 n (IntKind.wrap .i64 (x21+1))
   |Sum.inr y16=>
    some (Sum.inr y16)
  else
   some (Sum.inl ())
def zaY (N:Nat) (x0:List PlantElement) (x1:List Lock):Option Bool:=
 Option.bind (qoR N x0 x1) fun y2=>
 if y2=true then
  some false
 else
  Option.bind (qhb N x0 x1 x1 (x1.length:Int) N 0) fun y17=>
  match y17 with
  |Sum.inl y18=>
   some true
  |Sum.inr y19=>
   some y19
def zaZ (N:Nat) (x0:List PlantElement) (x1:List Lock):Option Int:=
 Option.bind (zbZ N x0) fun y1=>
 if (y1 !=0)=true then
  some y1
 else
  Option.bind (zaY N x0 x1) fun y2=>
  if (!y2)=true then
   some 1
  else
   some 0
def zaQ (N:Nat) (x0:Lock) (x1:Int):Option Bool:=
 AM.lt (x0.iD==x1) fun y1=>
 some y1
def qg4 (N:Nat) (x0:List Lock) (x1:Int) (x7:Int):Nat→Int→Option (Sum (Unit) (Int))
 |0,_=>none
 |n+1,x8=>
  if (decide (x8<x7))=true then
   Option.bind (getI x0 x8) fun y1=>
   Option.bind (zaQ N y1 x1) fun y2=>
   if y2=true then
    some (Sum.inr x8)
   else
    qg4 N x0 x1 x7 n (IntKind.wrap .i64 (x8+1))
  else
   some (Sum.inl ())
def zaC (N:Nat) (x0:List Lock) (x1:Int):Option Int:=
 Option.bind (qg4 N x0 x1 (x0.length:Int) N 0) fun y3=>
 match y3 with
 |Sum.inl y4=>
  some (-1)
 |Sum.inr y5=>
  some y5
def zbD (N:Nat) (x0:List Lock) (x1:Int):Option Int:=
 Option.bind (zaC N x0 x1) fun y1=>
 some y1
def qju (N:Nat) (x1:Int) (x20:List Int) (x21:Int):Nat→(List (Place×Int))→(List Place)→Int→Option ((List (Place×Int))×List Place)
 |0,_,_,_=>none
 |n+1,x5,x6,x22=>
  if (decide (x22<x21))=true then
   Option.bind (getI x20 x22) fun y2=>
   Option.bind (getI x20 x22) fun y3=>
   AM.lt (qao x5 (Place.mk x1 y3) 0) fun y4=>
   Option.bind (appI x6 ([(Place.mk x1 y3)]:List Place)) fun y5=>
   qju N x1 x20 x21 n y4 y5 (IntKind.wrap .i64 (x22+1))
  else
   some (x5,x6)
def qrx (N:Nat) (x5:List (Place×Int)) (x6:List Place) (x10:Place) (x11:Int) (x54:List Int) (x56:Int):Option ((List (Place×Int))×List Place):=
 Option.bind (getI x54 x56) fun y12=>
 AM.lt (qae x5 (Place.mk x11 y12)) fun y13=>
 AM.lt (y13.getD 0) fun y14=>
 if (!y13.isSome)=true then
  AM.lt (qae x5 x10) fun y15=>
  AM.lt (qao x5 (Place.mk x11 y12) (IntKind.wrap .i64 ((y15.getD 0)+1))) fun y16=>
  Option.bind (appI x6 ([(Place.mk x11 y12)]:List Place)) fun y17=>
  some (y16,y17)
 else
  some (x5,x6)
def qhd (N:Nat) (x10:Place) (x11:Int) (x54:List Int) (x55:Int):Nat→(List (Place×Int))→(List Place)→Int→Option ((List (Place×Int))×List Place)
 |0,_,_,_=>none
 |n+1,x5,x6,x56=>
  if (decide (x56<x55))=true then
   Option.bind (qrx N x5 x6 x10 x11 x54 x56) fun y18=>
   qhd N x10 x11 x54 x55 n y18.1 y18.2 (IntKind.wrap .i64 (x56+1))
  else
   some (x5,x6)
def qnw (N:Nat) (x0:List PlantElement):Nat→(List (Place×Int))→(List Place)→Option (List (Place×Int))
 |0,_,_=>none
 |n+1,x5,x6=>
  if (decide (0<(x6.length:Int)))=true then
   Option.bind (getI x6 0) fun y7=>
   Option.bind (getI x6 0) fun y8=>
   Option.bind (cutI x6 1 (x6.length:Int)) fun y9=>
   Option.bind (zbA N x0 y8.element y8.in_) fun y10=>
   Option.bind (zbL N x0 y10 y8.in_) fun y11=>
   Option.bind (qhd N y8 y10 y11 (y11.length:Int) N x5 y9 0) fun y19=>
   qnw N x0 n y19.1 y19.2
  else
   some x5
def zbB (N:Nat) (x0:List PlantElement) (x1:Int):Option ((List (Place×Int))):=
 Option.bind (zcO N x0 x1) fun y1=>
 Option.bind (qju N x1 y1 (y1.length:Int) N [] [] 0) fun y6=>
 Option.bind (qnw N x0 N y6.1 y6.2) fun y20=>
 some y20
def qjC (N:Nat) (x3:Int) (x6:List Int) (x7:Int):Nat→Int→Option (Sum (Unit) (Int))
 |0,_=>none
 |n+1,x8=>
  if (decide (x8<x7))=true then
   Option.bind (getI x6 x8) fun y1=>
   if (y1 !=x3)=true then
    some (Sum.inr y1)
   else
    qjC N x3 x6 x7 n (IntKind.wrap .i64 (x8+1))
  else
   some (Sum.inl ())
def zcK (N:Nat) (x0:List Int):Option Int:=
 Option.bind (qjC N 0 x0 (x0.length:Int) N 0) fun y2=>
 match y2 with
 |Sum.inl y3=>
  some 0
 |Sum.inr y4=>
  some y4
def qrQ (N:Nat) (x1:List (Place×Int)) (x11:Int) (x12:Place) (x13:Bool) (x15:Int) (x16:Place) (x17:Int):Option Bool:=
 if (!x13)=true then
  some true
 else
  AM.lt (qae x1 x12) fun y5=>
  Option.bind (zaX N x17 (y5.getD 0)) fun y6=>
  Option.bind (zaX N x16.element x12.element) fun y7=>
  Option.bind (zaX N x15 x11) fun y8=>
  Option.bind (zcK N ([y6,y7,y8]:List Int)) fun y9=>
  some (decide (y9<0))
def qpd (N:Nat) (x0:List PlantElement) (x1:List (Place×Int)) (x2:Int) (x11:Int) (x12:Place) (x13:Bool) (x20:List Int) (x22:Int):Option (Int×Place×Bool):=
 Option.bind (getI x20 x22) fun y1=>
 Option.bind (zbA N x0 x2 y1) fun y2=>
 AM.lt (qae x1 (Place.mk y2 y1)) fun y3=>
 AM.lt (y3.getD 0) fun y4=>
 if (!y3.isSome)=true then
  some (x11,x12,x13)
 else
  Option.bind (qrQ N x1 x11 x12 x13 y1 (Place.mk y2 y1) y4) fun y10=>
  if y10=true then
   some (y1,(Place.mk y2 y1),true)
  else
   some (x11,x12,x13)
def qjF (N:Nat) (x0:List PlantElement) (x1:List (Place×Int)) (x2:Int) (x20:List Int) (x21:Int):Nat→Int→Place→Bool→Int→Option (Int×Place×Bool)
 |0,_,_,_,_=>none
 |n+1,x11,x12,x13,x22=>
  if (decide (x22<x21))=true then
   Option.bind (qpd N x0 x1 x2 x11 x12 x13 x20 x22) fun y11=>
   qjF N x0 x1 x2 x20 x21 n y11.1 y11.2.1 y11.2.2 (IntKind.wrap .i64 (x22+1))
  else
   some (x11,x12,x13)
def zcU (N:Nat) (x0:List PlantElement) (x1:List (Place×Int)) (x2:Int) (x3:List Int):Option (Int×Place×Bool):=
 Option.bind (qjF N x0 x1 x2 x3 (x3.length:Int) N 0 (Place.mk 0 0) false 0) fun y12=>
 some (y12.1,y12.2.1,y12.2.2)
def qpc (N:Nat) (x0:List PlantElement) (x1:Int) (x2:Int):Option Bool:=
 Option.bind (zcG N x0 x1) fun y2=>
 if (!y2)=true then
  some true
 else
  Option.bind (zcG N x0 x2) fun y3=>
  if (!y3)=true then
   some true
  else
   some (x1==x2)
def qlj (N:Nat) (x0:List PlantElement) (x9:List (Place×Int)):Nat→(List Visit)→(List Int)→Option (Sum (List Visit) (Int))
 |0,_,_=>none
 |n+1,x10,x11=>
  Option.bind (getI x10 (IntKind.wrap .i64 ((x10.length:Int) - 1))) fun y7=>
  Option.bind (getI x10 (IntKind.wrap .i64 ((x10.length:Int) - 1))) fun y8=>
  Option.bind (zcU N x0 x9 y8.element x11) fun y9=>
  if (!y9.2.2)=true then
   some (Sum.inr 15)
  else
   Option.bind (getI x10 (IntKind.wrap .i64 ((x10.length:Int) - 1))) fun y10=>
   AM.lt (x10.set (((IntKind.wrap .i64 ((x10.length:Int) - 1)):Int).toNat) (Visit.mk y10.element y10.in_ y9.1)) fun y11=>
   Option.bind (appI y11 ([(Visit.mk y9.2.1.element y9.2.1.in_ (-1))]:List Visit)) fun y12=>
   AM.lt (qae x9 y9.2.1) fun y13=>
   if ((y13.getD 0)==0)=true then
    some (Sum.inl y12)
   else
    Option.bind (zbL N x0 y9.2.1.element y9.2.1.in_) fun y14=>
    qlj N x0 x9 n y12 y14
def zcT (N:Nat) (x0:List PlantElement) (x1:Int) (x2:Int):Option (List Visit×Int):=
 Option.bind (zbZ N x0) fun y1=>
 if (y1 !=0)=true then
  some ([],y1)
 else
  Option.bind (qpc N x0 x1 x2) fun y4=>
  if y4=true then
   some ([],2)
  else
   Option.bind (zbB N x0 x2) fun y5=>
   Option.bind (zcO N x0 x1) fun y6=>
   Option.bind (qlj N x0 y5 N ([(Visit.mk x1 (-1) 0)]:List Visit) y6) fun y15=>
   match y15 with
   |Sum.inl y16=>
    Option.bind (zcH N y16) fun y17=>
    if y17=true then
     some ([],17)
    else
     some (y16,0)
   |Sum.inr y18=>
    some ([],y18)
def zaF (N:Nat) (x0:List Visit):Option (List Visit):=
 nilT x0 fun y1=>
 if y1=true then
  some []
 else
  Option.bind (appI ([]:List Visit) x0) fun y2=>
  some y2
def zaD (N:Nat) (x0:List Setting):Option (List Setting):=
 nilT x0 fun y1=>
 if y1=true then
  some []
 else
  Option.bind (appI ([]:List Setting) x0) fun y2=>
  some y2
def zaV (N:Nat) (x0:Lock):Option Lock:=
 Option.bind (zaF N x0.visits) fun y1=>
 Option.bind (zaD N x0.settings) fun y2=>
 some (Lock.mk x0.iD y1 y2)
def qjw (N:Nat) (x13:Lock) (x60:List Lock) (x61:Int):Nat→(List Lock)→Int→Option (Sum (List Lock) (Int))
 |0,_,_=>none
 |n+1,x14,x62=>
  if (decide (x62<x61))=true then
   Option.bind (getI x60 x62) fun y9=>
   Option.bind (zaN N x13 y9) fun y10=>
   if y10=true then
    some (Sum.inr 23)
   else
    Option.bind (zaV N y9) fun y11=>
    Option.bind (appI x14 ([y11]:List Lock)) fun y12=>
    qjw N x13 x60 x61 n y12 (IntKind.wrap .i64 (x62+1))
  else
   some (Sum.inl x14)
def zbK (N:Nat) (x0:List PlantElement) (x1:List Lock) (x2:Int) (x3:Int) (x4:Int):Option (List Lock×Int):=
 Option.bind (zaZ N x0 x1) fun y1=>
 AM.lt (y1 !=0) fun y2=>
 if y2=true then
  some ([],y1)
 else
  AM.lt (decide (x2<0)) fun y3=>
  if y3=true then
   some ([],2)
  else
   Option.bind (zbD N x1 x2) fun y4=>
   AM.lt (decide (0≤y4)) fun y5=>
   if y5=true then
    some ([],8)
   else
    AM.lt ((x1.length:Int)==16) fun y6=>
    if y6=true then
     some ([],18)
    else
     Option.bind (zcT N x0 x3 x4) fun y7=>
     if (y7.2 !=0)=true then
      some ([],y7.2)
     else
      Option.bind (zbJ N x0 y7.1) fun y8=>
      if (y8.2 !=0)=true then
       some ([],y8.2)
      else
       Option.bind (qjw N (Lock.mk x2 y7.1 y8.1) x1 (x1.length:Int) N [] 0) fun y13=>
       match y13 with
       |Sum.inl y14=>
        Option.bind (appI y14 ([(Lock.mk x2 y7.1 y8.1)]:List Lock)) fun y15=>
        some (y15,0)
       |Sum.inr y16=>
        some ([],y16)
def qrv (N:Nat) (x9:Int) (x10:List Lock) (x24:List Lock) (x26:Int):Option (List Lock):=
 Option.bind (getI x24 x26) fun y3=>
 if (x26 !=x9)=true then
  Option.bind (zaV N y3) fun y4=>
  Option.bind (appI x10 ([y4]:List Lock)) fun y5=>
  some y5
 else
  some x10
def qjs (N:Nat) (x9:Int) (x24:List Lock) (x25:Int):Nat→(List Lock)→Int→Option (List Lock)
 |0,_,_=>none
 |n+1,x10,x26=>
  if (decide (x26<x25))=true then
   Option.bind (qrv N x9 x10 x24 x26) fun y6=>
   qjs N x9 x24 x25 n y6 (IntKind.wrap .i64 (x26+1))
  else
   some x10
def zaP (N:Nat) (x0:List PlantElement) (x1:List Lock) (x2:Int):Option (List Lock×Int):=
 Option.bind (zaZ N x0 x1) fun y1=>
 if (y1 !=0)=true then
  some ([],y1)
 else
  Option.bind (zbD N x1 x2) fun y2=>
  if (decide (y2<0))=true then
   some ([],13)
  else
   Option.bind (qjs N y2 x1 (x1.length:Int) N [] 0) fun y7=>
   some (y7,0)
def qhe (N:Nat) (x0:List Visit) (x1:List Visit):Nat→Int→Option (Sum (Unit) (Bool))
 |0,_=>none
 |n+1,x5=>
  if (decide (x5<(x0.length:Int)))=true then
   Option.bind (getI x0 x5) fun y1=>
   Option.bind (getI x1 x5) fun y2=>
   if (!(decide (y1=y2)))=true then
    some (Sum.inr false)
   else
    AM.lt (IntKind.wrap .i64 (x5+1)) fun y3=>
    qhe N x0 x1 n y3
  else
   some (Sum.inl ())
def zbF (N:Nat) (x0:List Visit) (x1:List Visit):Option Bool:=
 if ((x0.length:Int) !=(x1.length:Int))=true then
  some false
 else
  Option.bind (qhe N x0 x1 N 0) fun y4=>
  match y4 with
  |Sum.inl y5=>
   some true
  |Sum.inr y6=>
   some y6
def qoX (N:Nat) (x0:List Lock) (x1:List Lock) (x5:Int):Option Bool:=
 Option.bind (getI x0 x5) fun y1=>
 Option.bind (getI x1 x5) fun y2=>
 if (y1.iD !=y2.iD)=true then
  some true
 else
  Option.bind (getI x0 x5) fun y3=>
  Option.bind (getI x1 x5) fun y4=>
  Option.bind (zbF N y3.visits y4.visits) fun y5=>
  if (!y5)=true then
   some true
  else
   Option.bind (getI x0 x5) fun y6=>
   Option.bind (getI x1 x5) fun y7=>
   Option.bind (zaW N y6.settings y7.settings) fun y8=>
   some (!y8)
def qhh (N:Nat) (x0:List Lock) (x1:List Lock):Nat→Int→Option (Sum (Unit) (Bool))
 |0,_=>none
 |n+1,x5=>
  if (decide (x5<(x0.length:Int)))=true then
   Option.bind (qoX N x0 x1 x5) fun y9=>
   if y9=true then
    some (Sum.inr false)
   else
    AM.lt (IntKind.wrap .i64 (x5+1)) fun y10=>
    qhh N x0 x1 n y10
  else
   some (Sum.inl ())
def zbQ (N:Nat) (x0:List Lock) (x1:List Lock):Option Bool:=
 if ((x0.length:Int) !=(x1.length:Int))=true then
  some false
 else
  Option.bind (qhh N x0 x1 N 0) fun y11=>
  match y11 with
  |Sum.inl y12=>
   some true
  |Sum.inr y13=>
   some y13
def zaR (N:Nat) (x0:List Lock) (x1:List Lock):Option Bool:=
 Option.bind (zbQ N x0 x1) fun y1=>
 some y1
def zcV (N:Nat):Option (List PlantElement):=
 some ([(PlantElement.mk 1 [116,49] 0 1 0 9),(PlantElement.mk 2 [119] 1 2 3 0),(PlantElement.mk 1 [116,50] 2 4 0 9),(PlantElement.mk 3 [100] 3 5 0 0),(PlantElement.mk 1 [116,51] 5 6 0 9),(PlantElement.mk 1 [116,52] 4 7 0 9)]:List PlantElement)
def qpo (N:Nat) (x1:List Lock) (x2:Int) (x4:Int) (x6:Int) (x7:List Lock) (x8:Int):Option Bool:=
 if (x2==0)=true then
  if ((x1.length:Int)==1)=true then
   Option.bind (getI x1 0) fun y9=>
   if (y9.iD==7)=true then
    Option.bind (getI x1 0) fun y10=>
    if ((y10.visits.length:Int)==3)=true then
     Option.bind (getI x1 0) fun y11=>
     if ((y11.settings.length:Int)==2)=true then
      Option.bind (zcV N) fun y12=>
      Option.bind (zaY N y12 x1) fun y13=>
      if y13=true then
       if (x4==23)=true then
        if (x6==8)=true then
         if (x8==0)=true then
          AM.lt ((x7.length:Int)==0) fun y14=>
          some y14
         else
          some false
        else
         some false
       else
        some false
      else
       some false
     else
      some false
    else
     some false
   else
    some false
  else
   some false
 else
  some false
def zdF (N:Nat):Option Bool:=
 Option.bind (zcV N) fun y1=>
 Option.bind (zbK N y1 [] 7 0 2) fun y2=>
 Option.bind (zcV N) fun y3=>
 Option.bind (zbK N y3 y2.1 8 2 0) fun y4=>
 Option.bind (zcV N) fun y5=>
 Option.bind (zbK N y5 y2.1 7 2 5) fun y6=>
 Option.bind (zcV N) fun y7=>
 Option.bind (zaP N y7 y2.1 7) fun y8=>
 Option.bind (qpo N y2.1 y2.2 y4.2 y6.2 y8.1 y8.2) fun y15=>
 some y15
def qoN (N:Nat) (x6:List Lock) (x9:List Lock) (x11:List Lock) (x12:Int) (x13:List Lock) (x14:Int):Option Bool:=
 if (x12 !=0)=true then
  some true
 else
  Option.bind (zaR N x11 x6) fun y16=>
  if (!y16)=true then
   some true
  else
   if (x14 !=0)=true then
    some true
   else
    Option.bind (zaR N x13 x9) fun y17=>
    if (!y17)=true then
     some true
    else
     some ((x9.length:Int) !=(IntKind.wrap .i64 ((x6.length:Int)+1)))
def qoM (N:Nat) (x3:Maker) (x4:List PlantElement) (x6:List Lock):Option (Sum (Maker) (Bool)):=
 Option.bind (zbW N x3 x4) fun y4=>
 Option.bind (getI y4.1 0) fun y5=>
 Option.bind (getI y4.1 0) fun y6=>
 Option.bind (getI y4.1 (IntKind.wrap .i64 ((y4.1.length:Int) - 1))) fun y7=>
 Option.bind (getI y4.1 (IntKind.wrap .i64 ((y4.1.length:Int) - 1))) fun y8=>
 Option.bind (zbK N x4 x6 50 y6.element y8.element) fun y9=>
 if (y9.2 !=0)=true then
  some (Sum.inl y4.2)
 else
  Option.bind (zaP N x4 y9.1 50) fun y10=>
  Option.bind (getI y4.1 0) fun y11=>
  Option.bind (getI y4.1 0) fun y12=>
  Option.bind (getI y4.1 (IntKind.wrap .i64 ((y4.1.length:Int) - 1))) fun y13=>
  Option.bind (getI y4.1 (IntKind.wrap .i64 ((y4.1.length:Int) - 1))) fun y14=>
  Option.bind (zbK N x4 y10.1 50 y12.element y14.element) fun y15=>
  Option.bind (qoN N x6 y9.1 y10.1 y10.2 y15.1 y15.2) fun y18=>
  if y18=true then
   some (Sum.inr false)
  else
   some (Sum.inl y4.2)
def qjr (N:Nat) (x4:List PlantElement) (x6:List Lock):Nat→Maker→Int→Option (Sum (Unit) (Bool))
 |0,_,_=>none
 |n+1,x3,x7=>
  if (decide (x7<4))=true then
   Option.bind (qoM N x3 x4 x6) fun y19=>
   match y19 with
   |Sum.inl y20=>
    AM.lt (IntKind.wrap .i64 (x7+1)) fun y21=>
    qjr N x4 x6 n y20 y21
   |Sum.inr y22=>
    some (Sum.inr y22)
  else
   some (Sum.inl ())
def zaK (N:Nat) (x0:List Int):Option Bool:=
 Option.bind (zdM N x0) fun y1=>
 Option.bind (zdE N y1 8) fun y2=>
 Option.bind (zcN N y2.1 y2.2.1) fun y3=>
 Option.bind (qjr N y2.1 y3 N y2.2.2 0) fun y23=>
 match y23 with
 |Sum.inl y24=>
  Option.bind (zdF N) fun y25=>
  some y25
 |Sum.inr y26=>
  some y26
def zaH (N:Nat) (x0:Setting) (x1:Setting):Option Bool:=
 AM.lt (x0.element==x1.element) fun y1=>
 some y1
def qvQ (N:Nat) (x0:List Setting) (x1:Setting) (x7:Int):Nat→Int→Option (Sum (Unit) (Int))
 |0,_=>none
 |n+1,x8=>
  if (decide (x8<x7))=true then
   Option.bind (getI x0 x8) fun y1=>
   Option.bind (zaH N y1 x1) fun y2=>
   if y2=true then
    some (Sum.inr x8)
   else
    qvQ N x0 x1 x7 n (IntKind.wrap .i64 (x8+1))
  else
   some (Sum.inl ())
def zaB (N:Nat) (x0:List Setting) (x1:Setting):Option Int:=
 Option.bind (qvQ N x0 x1 (x0.length:Int) N 0) fun y3=>
 match y3 with
 |Sum.inl y4=>
  some (-1)
 |Sum.inr y5=>
  some y5
def zaA (N:Nat) (x0:List Setting) (x1:Setting):Option Bool:=
 Option.bind (zaB N x0 x1) fun y1=>
 AM.lt (decide (0≤y1)) fun y2=>
 some y2
def qxu (N:Nat) (x3:List Setting) (x15:List Setting) (x17:Int):Option (List Setting):=
 Option.bind (getI x15 x17) fun y2=>
 Option.bind (zaA N x3 y2) fun y3=>
 if (!y3)=true then
  Option.bind (appI x3 ([y2]:List Setting)) fun y4=>
  some y4
 else
  some x3
def qvW (N:Nat) (x15:List Setting) (x16:Int):Nat→(List Setting)→Int→Option (List Setting)
 |0,_,_=>none
 |n+1,x3,x17=>
  if (decide (x17<x16))=true then
   Option.bind (qxu N x3 x15 x17) fun y5=>
   qvW N x15 x16 n y5 (IntKind.wrap .i64 (x17+1))
  else
   some x3
def qvV (N:Nat) (x8:List Lock) (x9:Int):Nat→(List Setting)→Int→Option (List Setting)
 |0,_,_=>none
 |n+1,x3,x10=>
  if (decide (x10<x9))=true then
   Option.bind (getI x8 x10) fun y1=>
   Option.bind (qvW N y1.settings (y1.settings.length:Int) N x3 0) fun y6=>
   qvV N x8 x9 n y6 (IntKind.wrap .i64 (x10+1))
  else
   some x3
def zaM (N:Nat) (x0:List Lock):Option (List Setting):=
 Option.bind (qvV N x0 (x0.length:Int) N [] 0) fun y7=>
 Option.bind (@srtI Setting ⟨(Setting.mk 0 0)⟩ (fun (a b:Setting)=>cmpI a.element b.element) y7) fun y8=>
 some y8
def qxJ (N:Nat) (x0:List PlantElement) (x1:List Setting) (x5:Int):Option Bool:=
 Option.bind (getI x1 x5) fun y1=>
 if (decide (y1.element<0))=true then
  some true
 else
  Option.bind (getI x1 x5) fun y2=>
  if (decide ((x0.length:Int)≤y2.element))=true then
   some true
  else
   Option.bind (cutI x1 0 x5) fun y3=>
   Option.bind (getI x1 x5) fun y4=>
   Option.bind (zdR N y3 y4.element) fun y5=>
   some (y5 !=0)
def qxK (N:Nat) (x6:Int):Option Bool:=
 if (x6 !=1)=true then
  some (x6 !=2)
 else
  some false
def qxL (N:Nat) (x6:Int):Option Bool:=
 if (x6 !=3)=true then
  some (x6 !=4)
 else
  some false
def qxI (N:Nat) (x0:List PlantElement) (x1:List Setting) (x5:Int):Option (Sum (Unit) (Bool)):=
 Option.bind (qxJ N x0 x1 x5) fun y6=>
 if y6=true then
  some (Sum.inr false)
 else
  Option.bind (getI x1 x5) fun y7=>
  Option.bind (getI x1 x5) fun y8=>
  Option.bind (getI x0 y8.element) fun y9=>
  AM.lt (y9.kind==2) fun y10=>
  if y10=true then
   Option.bind (qxK N y7.position) fun y11=>
   if y11=true then
    some (Sum.inr false)
   else
    some (Sum.inl ())
  else
   AM.lt (y9.kind==3) fun y12=>
   if y12=true then
    Option.bind (qxL N y7.position) fun y13=>
    if y13=true then
     some (Sum.inr false)
    else
     some (Sum.inl ())
   else
    some (Sum.inr false)
def qv7 (N:Nat) (x0:List PlantElement) (x1:List Setting):Nat→Int→Option (Sum (Unit) (Bool))
 |0,_=>none
 |n+1,x5=>
  if (decide (x5<(x1.length:Int)))=true then
   Option.bind (qxI N x0 x1 x5) fun y14=>
   match y14 with
   |Sum.inl y15=>
    AM.lt (IntKind.wrap .i64 (x5+1)) fun y16=>
    qv7 N x0 x1 n y16
   |Sum.inr y17=>
    some (Sum.inr y17)
  else
   some (Sum.inl ())
def zdA (N:Nat) (x0:List PlantElement) (x1:List Setting):Option Bool:=
 Option.bind (qv7 N x0 x1 N 0) fun y18=>
 match y18 with
 |Sum.inl y19=>
  some true
 |Sum.inr y20=>
  some y20
def qxw (N:Nat) (x4:List PlantElement) (x5:List Act) (x6:List Lock) (x7:Int) (x8:List Lock) (x9:Int) (x45:Bool):Option (List Lock×Int):=
 if x45=true then
  Option.bind (getI x5 x7) fun y8=>
  Option.bind (getI x5 x7) fun y9=>
  Option.bind (getI x5 x7) fun y10=>
  Option.bind (getI x5 x7) fun y11=>
  Option.bind (getI x5 x7) fun y12=>
  Option.bind (getI x5 x7) fun y13=>
  Option.bind (zbK N x4 x6 y9.id y11.from_ y13.to) fun y14=>
  some (y14.1,y14.2)
 else
  some (x8,x9)
def qxx (N:Nat) (x4:List PlantElement) (x6:List Lock) (x11:List Setting):Option Bool:=
 Option.bind (zaY N x4 x6) fun y18=>
 if (!y18)=true then
  some true
 else
  Option.bind (zdA N x4 x11) fun y19=>
  some (!y19)
def qvZ (N:Nat) (x6:List Lock) (x12:Int):Nat→(List Int)→Int→Option (Sum (List Int) (Bool))
 |0,_,_=>none
 |n+1,x10,x13=>
  Option.bind (getI x6 x12) fun y21=>
  if (decide (x13<(y21.visits.length:Int)))=true then
   Option.bind (getI x6 x12) fun y22=>
   Option.bind (getI y22.visits x13) fun y23=>
   Option.bind (getI x10 y23.element) fun y24=>
   Option.bind (getI x10 y23.element) fun y25=>
   Option.bind (getI x10 y23.element) fun y26=>
   Option.bind (getI x10 y23.element) fun y27=>
   AM.lt (x10.set ((y23.element:Int).toNat) (IntKind.wrap .i64 (y25+1))) fun y28=>
   Option.bind (getI x6 x12) fun y29=>
   Option.bind (getI y29.visits x13) fun y30=>
   Option.bind (getI y28 y30.element) fun y31=>
   Option.bind (getI y28 y30.element) fun y32=>
   if (decide (1<y32))=true then
    some (Sum.inr false)
   else
    AM.lt (IntKind.wrap .i64 (x13+1)) fun y33=>
    qvZ N x6 x12 n y28 y33
  else
   some (Sum.inl x10)
def qxy (N:Nat) (x6:List Lock) (x11:List Setting) (x12:Int) (x14:Int) (x15:Bool) (x16:Int):Option Bool:=
 if x15=true then
  some true
 else
  Option.bind (getI x11 x16) fun y37=>
  Option.bind (getI x11 x16) fun y38=>
  Option.bind (getI x6 x12) fun y39=>
  Option.bind (getI y39.settings x14) fun y40=>
  AM.lt (decide (y38=y40)) fun y41=>
  some y41
def qv1 (N:Nat) (x6:List Lock) (x11:List Setting) (x12:Int) (x14:Int):Nat→Bool→Int→Option Bool
 |0,_,_=>none
 |n+1,x15,x16=>
  if (decide (x16<(x11.length:Int)))=true then
   Option.bind (qxy N x6 x11 x12 x14 x15 x16) fun y42=>
   AM.lt (IntKind.wrap .i64 (x16+1)) fun y43=>
   qv1 N x6 x11 x12 x14 n y42 y43
  else
   some x15
def qv0 (N:Nat) (x6:List Lock) (x11:List Setting) (x12:Int):Nat→Int→Option (Sum (Unit) (Bool))
 |0,_=>none
 |n+1,x14=>
  Option.bind (getI x6 x12) fun y36=>
  if (decide (x14<(y36.settings.length:Int)))=true then
   Option.bind (qv1 N x6 x11 x12 x14 N false 0) fun y44=>
   if (!y44)=true then
    some (Sum.inr false)
   else
    AM.lt (IntKind.wrap .i64 (x14+1)) fun y45=>
    qv0 N x6 x11 x12 n y45
  else
   some (Sum.inl ())
def qvY (N:Nat) (x6:List Lock) (x11:List Setting):Nat→(List Int)→Int→Option (Sum (Unit) (Bool))
 |0,_,_=>none
 |n+1,x10,x12=>
  if (decide (x12<(x6.length:Int)))=true then
   Option.bind (qvZ N x6 x12 N x10 0) fun y34=>
   match y34 with
   |Sum.inl y35=>
    Option.bind (qv0 N x6 x11 x12 N 0) fun y46=>
    match y46 with
    |Sum.inl y47=>
     AM.lt (IntKind.wrap .i64 (x12+1)) fun y48=>
     qvY N x6 x11 n y35 y48
    |Sum.inr y49=>
     some (Sum.inr y49)
   |Sum.inr y50=>
    some (Sum.inr y50)
  else
   some (Sum.inl ())
def qxv (N:Nat) (x4:List PlantElement) (x5:List Act) (x6:List Lock) (x7:Int):Option (Sum (List Lock) (Bool)):=
 Option.bind (getI x5 x7) fun y3=>
 Option.bind (getI x5 x7) fun y4=>
 Option.bind (zaP N x4 x6 y4.id) fun y5=>
 Option.bind (getI x5 x7) fun y6=>
 Option.bind (getI x5 x7) fun y7=>
 Option.bind (qxw N x4 x5 x6 x7 y5.1 y5.2 y7.set) fun y15=>
 if (y15.2 !=0)=true then
  some (Sum.inl x6)
 else
  Option.bind (mkI 0 (x4.length:Int)) fun y16=>
  Option.bind (zaM N y15.1) fun y17=>
  Option.bind (qxx N x4 y15.1 y17) fun y20=>
  if y20=true then
   some (Sum.inr false)
  else
   Option.bind (qvY N y15.1 y17 N y16 0) fun y51=>
   match y51 with
   |Sum.inl y52=>
    some (Sum.inl y15.1)
   |Sum.inr y53=>
    some (Sum.inr y53)
def qvX (N:Nat) (x4:List PlantElement) (x5:List Act):Nat→(List Lock)→Int→Option (Sum (List Lock) (Bool))
 |0,_,_=>none
 |n+1,x6,x7=>
  if (decide (x7<(x5.length:Int)))=true then
   Option.bind (qxv N x4 x5 x6 x7) fun y54=>
   match y54 with
   |Sum.inl y55=>
    AM.lt (IntKind.wrap .i64 (x7+1)) fun y56=>
    qvX N x4 x5 n y55 y56
   |Sum.inr y57=>
    some (Sum.inr y57)
  else
   some (Sum.inl x6)
def qxz (N:Nat) (x4:List PlantElement) (x5:List Act) (x6:List Lock):Option Bool:=
 Option.bind (zcN N x4 x5) fun y60=>
 Option.bind (zaR N x6 y60) fun y61=>
 if y61=true then
  Option.bind (zdF N) fun y62=>
  some y62
 else
  some false
def zaO (N:Nat) (x0:List Int):Option Bool:=
 Option.bind (zdM N x0) fun y1=>
 Option.bind (zdE N y1 10) fun y2=>
 Option.bind (qvX N y2.1 y2.2.1 N [] 0) fun y58=>
 match y58 with
 |Sum.inl y59=>
  Option.bind (qxz N y2.1 y2.2.1 y59) fun y63=>
  some y63
 |Sum.inr y64=>
  some y64
def qxA (N:Nat) (self:(List Int)→(List PlantElement)→(List Visit)→(List Setting)→Int→Int→(List (A2_int×Bool))→Option (Bool×(List (A2_int×Bool)))) (x4:Int) (x5:List (A2_int×Bool)) (x13:Int):Option Bool:=
 if (decide (x13<0))=true then
  some true
 else
  AM.lt (qae x5 (A2_int.mk x13 x4)) fun y2=>
  some (y2.getD false)
def qxB (N:Nat) (self:(List Int)→(List PlantElement)→(List Visit)→(List Setting)→Int→Int→(List (A2_int×Bool))→Option (Bool×(List (A2_int×Bool)))) (x1:List Visit) (x13:Int):Option Bool:=
 Option.bind (getI x1 0) fun y6=>
 if (x13 !=y6.element)=true then
  Option.bind (getI x1 (IntKind.wrap .i64 ((x1.length:Int) - 1))) fun y7=>
  AM.lt (x13 !=y7.element) fun y8=>
  some y8
 else
  some false
def qxC (N:Nat) (self:(List Int)→(List PlantElement)→(List Visit)→(List Setting)→Int→Int→(List (A2_int×Bool))→Option (Bool×(List (A2_int×Bool)))) (x14:PlantElement) (x15:Int):Option Bool:=
 if (x14.kind==3)=true then
  some (x15==4)
 else
  some false
def qxE (N:Nat) (self:(List Int)→(List PlantElement)→(List Visit)→(List Setting)→Int→Int→(List (A2_int×Bool))→Option (Bool×(List (A2_int×Bool)))) (x4:Int) (x14:PlantElement) (x15:Int) (x16:List Int) (x17:Int):Option Bool:=
 if (x14.kind==2)=true then
  if (x4==x14.a)=true then
   if (x15==1)=true then
    Option.bind (getI x16 x17) fun y14=>
    if (y14==x14.c)=true then
     some true
    else
     if (x15==2)=true then
      Option.bind (getI x16 x17) fun y15=>
      some (y15==x14.b)
     else
      some false
   else
    if (x15==2)=true then
     Option.bind (getI x16 x17) fun y16=>
     some (y16==x14.b)
    else
     some false
  else
   some false
 else
  some false
def qxD (N:Nat) (self:(List Int)→(List PlantElement)→(List Visit)→(List Setting)→Int→Int→(List (A2_int×Bool))→Option (Bool×(List (A2_int×Bool)))) (x100000000:List Int) (x0:List PlantElement) (x1:List Visit) (x2:List Setting) (x4:Int) (x5:List (A2_int×Bool)) (x13:Int) (x14:PlantElement) (x15:Int) (x16:List Int) (x17:Int):Option (Sum ((List (A2_int×Bool))) ((List (A2_int×Bool))×Bool)):=
 Option.bind (qxE N self x4 x14 x15 x16 x17) fun y17=>
 if y17=true then
  some (Sum.inl x5)
 else
  Option.bind (getI x16 x17) fun y18=>
  Option.bind (self x100000000 x0 x1 x2 x13 y18 x5) fun y19=>
  if y19.1=true then
   some (Sum.inr (y19.2,true))
  else
   some (Sum.inl y19.2)
def qv5 (N:Nat) (self:(List Int)→(List PlantElement)→(List Visit)→(List Setting)→Int→Int→(List (A2_int×Bool))→Option (Bool×(List (A2_int×Bool)))) (x100000000:List Int) (x0:List PlantElement) (x1:List Visit) (x2:List Setting) (x4:Int) (x13:Int) (x14:PlantElement) (x15:Int) (x16:List Int):Nat→(List (A2_int×Bool))→Int→Option (Sum ((List (A2_int×Bool))) ((List (A2_int×Bool))×Bool))
 |0,_,_=>none
 |n+1,x5,x17=>
  if (decide (x17<(x16.length:Int)))=true then
   Option.bind (qxD N self x100000000 x0 x1 x2 x4 x5 x13 x14 x15 x16 x17) fun y20=>
   match y20 with
   |Sum.inl y21=>
    AM.lt (IntKind.wrap .i64 (x17+1)) fun y22=>
    qv5 N self x100000000 x0 x1 x2 x4 x13 x14 x15 x16 n y21 y22
   |Sum.inr y23=>
    some (Sum.inr (y23.1,y23.2))
  else
   some (Sum.inl x5)
def zbU (N:Nat):Nat→(List Int)→(List PlantElement)→(List Visit)→(List Setting)→Int→Int→(List (A2_int×Bool))→Option (Bool×(List (A2_int×Bool)))
 |0,_,_,_,_,_,_,_=>none
 |rc+1,x100000000,x0,x1,x2,x3,x4,x5=>
  Option.bind (zbO N x0 x3 x4) fun y1=>
  Option.bind (qxA N (zbU N rc) x4 x5 y1) fun y3=>
  if y3=true then
   some (false,x5)
  else
   AM.lt (qao x5 (A2_int.mk y1 x4) true) fun y4=>
   Option.bind (zcR N x1 y1) fun y5=>
   if y5=true then
    Option.bind (qxB N (zbU N rc) x1 y1) fun y9=>
    some (y9,y4)
   else
    Option.bind (getI x0 y1) fun y10=>
    Option.bind (zdR N x2 y1) fun y11=>
    Option.bind (zcB N x0 y1 x4) fun y12=>
    Option.bind (qxC N (zbU N rc) y10 y11) fun y13=>
    if y13=true then
     some (false,y4)
    else
     Option.bind (qv5 N (zbU N rc) x100000000 x0 x1 x2 x4 y1 y10 y11 y12 N y4 0) fun y24=>
     match y24 with
     |Sum.inl y25=>
      some (false,y25)
     |Sum.inr y26=>
      some (y26.2,y26.1)
def qxG (N:Nat) (x0:List PlantElement) (x1:List Visit) (x9:Int):Option Bool:=
 Option.bind (getI x0 x9) fun y3=>
 if (y3.kind !=1)=true then
  some true
 else
  Option.bind (zcR N x1 x9) fun y4=>
  some y4
def qxH (N:Nat) (x0:List PlantElement) (x1:List Visit) (x2:List Setting) (x8:List Int) (x9:Int):Option Bool:=
 Option.bind (getI x0 x9) fun y6=>
 Option.bind (zbU N N x8 x0 x1 x2 x9 y6.a []) fun y7=>
 if y7.1=true then
  some true
 else
  Option.bind (getI x0 x9) fun y8=>
  Option.bind (zbU N N x8 x0 x1 x2 x9 y8.b []) fun y9=>
  some y9.1
def qxF (N:Nat) (x0:List PlantElement) (x1:List Visit) (x2:List Setting) (x8:List Int) (x9:Int):Option (List Int):=
 Option.bind (qxG N x0 x1 x9) fun y5=>
 if y5=true then
  some x8
 else
  Option.bind (qxH N x0 x1 x2 x8 x9) fun y10=>
  if y10=true then
   Option.bind (appI x8 ([x9]:List Int)) fun y11=>
   some y11
  else
   some x8
def qv6 (N:Nat) (x0:List PlantElement) (x1:List Visit) (x2:List Setting):Nat→(List Int)→Int→Option (List Int)
 |0,_,_=>none
 |n+1,x8,x9=>
  if (decide (x9<(x0.length:Int)))=true then
   Option.bind (qxF N x0 x1 x2 x8 x9) fun y12=>
   AM.lt (IntKind.wrap .i64 (x9+1)) fun y13=>
   qv6 N x0 x1 x2 n y12 y13
  else
   some x8
def zcC (N:Nat) (x0:List PlantElement) (x1:List Visit) (x2:List Setting):Option (List Int×Int):=
 Option.bind (zcY N x0 x1) fun y1=>
 if (!y1)=true then
  some ([],1)
 else
  Option.bind (zdA N x0 x2) fun y2=>
  if (!y2)=true then
   some ([],2)
  else
   Option.bind (qv6 N x0 x1 x2 N [] 0) fun y14=>
   some (y14,0)
def qxt (N:Nat) (x9:List Int) (x10:Int):Option Bool:=
 if (x10 !=0)=true then
  some true
 else
  some (decide (0<(x9.length:Int)))
def qvU (N:Nat) (x4:List PlantElement) (x6:List Lock) (x7:List Setting):Nat→Int→Option (Sum (Unit) (Bool))
 |0,_=>none
 |n+1,x8=>
  if (decide (x8<(x6.length:Int)))=true then
   Option.bind (getI x6 x8) fun y5=>
   Option.bind (zcC N x4 y5.visits x7) fun y6=>
   Option.bind (qxt N y6.1 y6.2) fun y7=>
   if y7=true then
    some (Sum.inr false)
   else
    AM.lt (IntKind.wrap .i64 (x8+1)) fun y8=>
    qvU N x4 x6 x7 n y8
  else
   some (Sum.inl ())
def zaJ (N:Nat) (x0:List Int):Option Bool:=
 Option.bind (zdM N x0) fun y1=>
 Option.bind (zdE N y1 10) fun y2=>
 Option.bind (zcN N y2.1 y2.2.1) fun y3=>
 Option.bind (zaM N y3) fun y4=>
 Option.bind (qvU N y2.1 y3 y4 N 0) fun y9=>
 match y9 with
 |Sum.inl y10=>
  Option.bind (zdF N) fun y11=>
  some y11
 |Sum.inr y12=>
  some y12
def qxr (N:Nat) (x4:List PlantElement) (x5:List Act) (x6:List Lock) (x7:Int):Option (List Lock):=
 Option.bind (getI x5 x7) fun y3=>
 Option.bind (getI x5 x7) fun y4=>
 Option.bind (getI x5 x7) fun y5=>
 Option.bind (getI x5 x7) fun y6=>
 Option.bind (zdQ N x4 [] x7 y4.from_ y6.to) fun y7=>
 if (y7.2==0)=true then
  Option.bind (getI y7.1 0) fun y8=>
  Option.bind (getI y7.1 0) fun y9=>
  Option.bind (appI x6 ([y9]:List Lock)) fun y10=>
  some y10
 else
  some x6
def qvR (N:Nat) (x4:List PlantElement) (x5:List Act):Nat→(List Lock)→Int→Option (List Lock)
 |0,_,_=>none
 |n+1,x6,x7=>
  if (decide (x7<(x5.length:Int)))=true then
   Option.bind (qxr N x4 x5 x6 x7) fun y11=>
   AM.lt (IntKind.wrap .i64 (x7+1)) fun y12=>
   qvR N x4 x5 n y11 y12
  else
   some x6
def qxs (N:Nat) (x4:List PlantElement) (x6:List Lock) (x10:Int) (x11:Int) (x12:Bool):Option Bool:=
 Option.bind (getI x6 x11) fun y19=>
 Option.bind (getI x6 x11) fun y20=>
 Option.bind (getI x6 x10) fun y21=>
 Option.bind (getI x6 x10) fun y22=>
 Option.bind (zaN N y20 y22) fun y23=>
 if (!(x12==y23))=true then
  some true
 else
  if (x10 !=x11)=true then
   Option.bind (getI x6 x10) fun y24=>
   Option.bind (getI x6 x10) fun y25=>
   Option.bind (getI x6 x11) fun y26=>
   Option.bind (getI x6 x11) fun y27=>
   Option.bind (zaY N x4 ([y25,y27]:List Lock)) fun y28=>
   some (x12==y28)
  else
   some false
def qvT (N:Nat) (x4:List PlantElement) (x6:List Lock) (x10:Int):Nat→Int→Option (Sum (Unit) (Bool))
 |0,_=>none
 |n+1,x11=>
  if (decide (x11<(x6.length:Int)))=true then
   Option.bind (getI x6 x10) fun y14=>
   Option.bind (getI x6 x10) fun y15=>
   Option.bind (getI x6 x11) fun y16=>
   Option.bind (getI x6 x11) fun y17=>
   Option.bind (zaN N y15 y17) fun y18=>
   Option.bind (qxs N x4 x6 x10 x11 y18) fun y29=>
   if y29=true then
    some (Sum.inr false)
   else
    AM.lt (IntKind.wrap .i64 (x11+1)) fun y30=>
    qvT N x4 x6 x10 n y30
  else
   some (Sum.inl ())
def qvS (N:Nat) (x4:List PlantElement) (x6:List Lock):Nat→Int→Option (Sum (Unit) (Bool))
 |0,_=>none
 |n+1,x10=>
  if (decide (x10<(x6.length:Int)))=true then
   Option.bind (qvT N x4 x6 x10 N 0) fun y31=>
   match y31 with
   |Sum.inl y32=>
    AM.lt (IntKind.wrap .i64 (x10+1)) fun y33=>
    qvS N x4 x6 n y33
   |Sum.inr y34=>
    some (Sum.inr y34)
  else
   some (Sum.inl ())
def zaI (N:Nat) (x0:List Int):Option Bool:=
 Option.bind (zdM N x0) fun y1=>
 Option.bind (zdE N y1 6) fun y2=>
 Option.bind (qvR N y2.1 y2.2.1 N [] 0) fun y13=>
 Option.bind (qvS N y2.1 y13 N 0) fun y35=>
 match y35 with
 |Sum.inl y36=>
  Option.bind (zdF N) fun y37=>
  some y37
 |Sum.inr y38=>
  some y38
end
end Go.W
end
section
set_option linter.unusedVariables false
set_option linter.unusedSimpArgs false
set_option maxRecDepth 100000
set_option maxHeartbeats 1000000
namespace Go.W
open Go.AM Go.Proofs Go.Sort Go.Shelf Go.RowKit Go.Lib
def qjk:Go.Shelf.Ren:=⟨fun|6=>36|15=>71|14=>70|28=>103|29=>104|20=>95|21=>96|22=>97|23=>98|24=>99|25=>100|26=>101|27=>102|46=>108|47=>109|48=>110|49=>111|50=>112|57=>115|n=>n,fun|22=>44|24=>51|25=>77|3=>3|39=>109|0=>0|53=>146|55=>148|4=>4|46=>140|45=>139|50=>118|5=>5|9=>9|66=>151|70=>155|76=>157|77=>158|n=>n,fun|n=>n⟩
theorem qnl:Go.Proofs.SlLaysF0.n6 Tryz.prog qjk:={
 mixed:=by kernel_rfl,
 f6:=⟨Tryz.f36.name,by decide,Tryz.func36.trans (congrArg some (by kernel_rfl))⟩,
 f14:=⟨Tryz.f70.name,by decide,Tryz.func70.trans (congrArg some (by kernel_rfl))⟩,
 f15:=Tryz.func71.trans (congrArg some (by kernel_rfl)),
 f20:=⟨Tryz.f95.name,by decide,Tryz.func95.trans (congrArg some (by kernel_rfl))⟩,
 f21:=⟨Tryz.f96.name,by decide,Tryz.func96.trans (congrArg some (by kernel_rfl))⟩,
 f22:=⟨Tryz.f97.name,by decide,Tryz.func97.trans (congrArg some (by kernel_rfl))⟩,
 f23:=⟨Tryz.f98.name,by decide,Tryz.func98.trans (congrArg some (by kernel_rfl))⟩,
 f24:=⟨Tryz.f99.name,by decide,Tryz.func99.trans (congrArg some (by kernel_rfl))⟩,
 f25:=⟨Tryz.f100.name,by decide,Tryz.func100.trans (congrArg some (by kernel_rfl))⟩,
 f26:=⟨Tryz.f101.name,by decide,Tryz.func101.trans (congrArg some (by kernel_rfl))⟩,
 f27:=⟨Tryz.f102.name,by decide,Tryz.func102.trans (congrArg some (by kernel_rfl))⟩,
 f28:=Tryz.func103.trans (congrArg some (by kernel_rfl)),
 f29:=Tryz.func104.trans (congrArg some (by kernel_rfl)),
 f46:=⟨Tryz.f108.name,by decide,Tryz.func108.trans (congrArg some (by kernel_rfl))⟩,
 f47:=Tryz.func109.trans (congrArg some (by kernel_rfl)),
 f48:=Tryz.func110.trans (congrArg some (by kernel_rfl)),
 f49:=⟨Tryz.f111.name,by decide,Tryz.func111.trans (congrArg some (by kernel_rfl))⟩,
 f50:=⟨Tryz.f112.name,by decide,Tryz.func112.trans (congrArg some (by kernel_rfl))⟩,
 f57:=⟨Tryz.f115.name,by decide,Tryz.func115.trans (congrArg some (by kernel_rfl))⟩,
 t0:=Tryz.underlying0,
 a0:=Tryz.isAgg0,
 z0:=Tryz.sizeOf0,
 v0:=Tryz.zeroValue0,
 t3:=Tryz.underlying3,
 a3:=Tryz.isAgg3,
 z3:=Tryz.sizeOf3,
 v3:=Tryz.zeroValue3,
 t4:=Tryz.underlying4,
 a4:=Tryz.isAgg4,
 z4:=Tryz.sizeOf4,
 v4:=Tryz.zeroValue4,
 t5:=Tryz.underlying5,
 a5:=Tryz.isAgg5,
 z5:=Tryz.sizeOf5,
 v5:=Tryz.zeroValue5,
 t9:=Tryz.underlying9,
 a9:=Tryz.isAgg9,
 z9:=Tryz.sizeOf9,
 v9:=Tryz.zeroValue9,
 t22:=Tryz.underlying44,
 a22:=Tryz.isAgg44,
 z22:=Tryz.sizeOf44,
 v22:=Tryz.zeroValue44,
 t25:=Tryz.underlying77,
 a25:=Tryz.isAgg77,
 z25:=Tryz.sizeOf77,
 v25:=Tryz.zeroValue77,
 t39:=Tryz.underlying109,
 a39:=Tryz.isAgg109,
 z39:=Tryz.sizeOf109,
 v39:=Tryz.zeroValue109,
 t45:=Tryz.underlying139,
 a45:=Tryz.isAgg139,
 z45:=Tryz.sizeOf139,
 v45:=Tryz.zeroValue139,
 t46:=Tryz.underlying140,
 a46:=Tryz.isAgg140,
 z46:=Tryz.sizeOf140,
 v46:=Tryz.zeroValue140,
 t50:=Tryz.underlying118,
 a50:=Tryz.isAgg118,
 z50:=Tryz.sizeOf118,
 v50:=Tryz.zeroValue118,
 t53:=Tryz.underlying146,
 a53:=Tryz.isAgg146,
 z53:=Tryz.sizeOf146,
 v53:=Tryz.zeroValue146,
 t55:=Tryz.underlying148,
 a55:=Tryz.isAgg148,
 z55:=Tryz.sizeOf148,
 v55:=Tryz.zeroValue148,
 t66:=Tryz.underlying151,
 a66:=Tryz.isAgg151,
 z66:=Tryz.sizeOf151,
 v66:=Tryz.zeroValue151,
 t70:=Tryz.underlying155,
 a70:=Tryz.isAgg155,
 z70:=Tryz.sizeOf155,
 v70:=Tryz.zeroValue155,
 t76:=Tryz.underlying157,
 a76:=Tryz.isAgg157,
 z76:=Tryz.sizeOf157,
 v76:=Tryz.zeroValue157,
 t77:=Tryz.underlying158,
 a77:=Tryz.isAgg158,
 z77:=Tryz.sizeOf158,
 v77:=Tryz.zeroValue158}
def qkJ:Go.Shelf.Ren:=⟨fun|5=>38|7=>72|n=>n,fun|22=>3|3=>3|4=>4|n=>n,fun|n=>n⟩
theorem qpw:Go.Proofs.SlLaysC2.n5 Tryz.prog qkJ:={
 mixed:=by kernel_rfl,
 f5:=⟨Tryz.f38.name,by decide,Tryz.func38.trans (congrArg some (by kernel_rfl))⟩,
 f7:=⟨Tryz.f72.name,by decide,Tryz.func72.trans (congrArg some (by kernel_rfl))⟩,
 t3:=Tryz.underlying3,
 a3:=Tryz.isAgg3,
 z3:=Tryz.sizeOf3,
 v3:=Tryz.zeroValue3,
 t4:=Tryz.underlying4,
 a4:=Tryz.isAgg4,
 z4:=Tryz.sizeOf4,
 v4:=Tryz.zeroValue4,
 t22:=Tryz.underlying3,
 a22:=Tryz.isAgg3,
 z22:=Tryz.sizeOf3,
 v22:=Tryz.zeroValue3}
set_option maxHeartbeats 1000000 in
theorem qr2 (x y:Setting) (W:World):Calls Tryz.prog 64 #[.agg #[.int .i64 x.element, .int .i64 x.position], .agg #[.int .i64 y.element, .int .i64 y.position]] W fun e w'=>e= .returned (.int .i64 (cmpI x.element y.element))∧∃q os',w'=grow (W.drewN q) os':=by
 have hcon:=fun W'=>AnyG.cmp_Compare_int qpw x.element y.element W'
 change ∀W',Calls Tryz.prog 38 _ _ _ at hcon
 unfold cmpI
 generalize Lib.compareInt x.element y.element=r at hcon⊢
 go_enter Tryz.func64,Tryz.ntmps64
 go_wp2_with (go_at_call 38;refine (hcon _).mono ?_;rintro e w' ⟨rfl,rfl⟩)
 go_ret
 exact ⟨rfl,0,_,by rw[alloc_eq_grow,alloc_eq_grow,grow_grow];rfl⟩
set_option maxHeartbeats 1000000 in
theorem qr3 (x y:Setting) (W:World):Calls Tryz.prog 89 #[.agg #[.int .i64 x.element, .int .i64 x.position], .agg #[.int .i64 y.element, .int .i64 y.position]] W fun e w'=>e= .returned (.int .i64 (cmpI x.element y.element))∧∃q os',w'=grow (W.drewN q) os':=by
 have hcon:=fun W'=>AnyG.cmp_Compare_int qpw x.element y.element W'
 change ∀W',Calls Tryz.prog 38 _ _ _ at hcon
 unfold cmpI
 generalize Lib.compareInt x.element y.element=r at hcon⊢
 go_enter Tryz.func89,Tryz.ntmps89
 go_wp2_with (go_at_call 38;refine (hcon _).mono ?_;rintro e w' ⟨rfl,rfl⟩)
 go_ret
 exact ⟨rfl,0,_,by rw[alloc_eq_grow,alloc_eq_grow,grow_grow];rfl⟩
end Go.W
end
