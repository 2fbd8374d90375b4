/- AmOps AmOps2 AmOps3 AmGen AmGen2 AmMap AmEq AmStart AmFn AmView AmX1 AmXN AmX2 AmX3 AmX4 AmX5 -/
import Derived.MapKept
import Derived.Laws.StructEq
import Derived.Below
import Derived.Deep.Slices
import Derived.Test.YtmkfilkddlfgjaaGreatMa
section
set_option linter.unusedSimpArgs false
set_option linter.unusedVariables false
namespace Go.AM
section
variable {P:Program} {ρ:Operand→Value} {o:Oper}
theorem qgj {x y:Operand} (h:o.op.operands=#[x,y]) {v:Value} (hs:∀cs b,o.op≠ .select cs b) (hx:flat (ρ x)=true) (hy:flat (ρ y)=true) (hv:flat v=true) (hr:∀w,(execOp ρ o).run P w= .ok (.value v) w):PureR P ρ o v:=by
 refine .flat v hs (fun z hz=> ?_) hv hr
 rw[h] at hz
 simp only[List.mem_toArray,List.mem_cons,List.not_mem_nil,or_false] at hz
 rcases hz with rfl|rfl
 ·exact hx
 ·exact hy
theorem qj0 {x:Operand} (h:o.op.operands=#[x]) {v:Value} (hs:∀cs b,o.op≠ .select cs b) (hx:flat (ρ x)=true) (hv:flat v=true) (hr:∀w,(execOp ρ o).run P w= .ok (.value v) w):PureR P ρ o v:=by
 refine .flat v hs (fun z hz=> ?_) hv hr
 rw[h] at hz
 simp only[List.mem_toArray,List.mem_cons,List.not_mem_nil,or_false] at hz
 subst hz
 exact hx
theorem qw3 {x:Operand} {v:Value} (h:o.op= .move x) (hx:ρ x=v):PureR P ρ o v:=hx▸ .move x (.inl h)
theorem qq5 {x:Operand} {v:Value} (h:o.op= .assign x) (hx:ρ x=v):PureR P ρ o v:=hx▸ .move x (.inr h)
theorem qsO {c a b:Operand} {t:Bool} {v:Value} (h:o.op= .pick c a b) (hc:ρ c= .bool t) (hv:(if t then ρ a else ρ b)=v):PureR P ρ o v:=hv▸ .pick c a b t h hc
theorem qkn {x:Operand} {i:Nat} {vs:List Value} {v:Value} (h:o.op= .extract x i) (hx:ρ x= .tuple vs.toArray) (hv:vs[i]? =some v):PureR P ρ o v:= .extract x i _ v h hx (by simpa using hv)
section
variable {x y:Operand} {t u:TypeId} {k:IntKind} {a b:Int}
theorem qaG {op:BinOp} (h:o.op= .binOp op t x y u) (hx:ρ x= .int k a) (hy:ρ y= .int k b) {v:Value} (hop:∀w,(binOp op t (.int k a) (.int k b)).run P w= .ok v w) (hv:flat v=true):PureR P ρ o v:=by
 refine qgj (x:=x) (y:=y) (by rw[h];rfl) (by rw[h];intros;simp) (by rw[hx];rfl) (by rw[hy];rfl) hv fun w=> ?_
 have hg:(eqGuard op t x y (.int k a) (.int k b)).run P w= .ok () w:=by cases op<;>rfl
 simp only[execOp,h,hx,hy,Sem.run_bind,hg,hop,Result.andThen_ok,Sem.run_pure]
theorem qaz {op:BinOp} (h1:op≠ .shl) (h2:op≠ .shr) (w:World):(binOp op t (.int k a) (.int k b)).run P w=(match op with
   | .add| .sub| .mul=>Op.intArith op k a b
   | .quo| .rem=>Op.intDiv op k a b
   | .and| .or| .xor| .andNot=>Op.intBits op k a b
   |_=>Op.intCmp op a b).run P w:=by
 cases op<;>first|exact absurd rfl h1|exact absurd rfl h2|(simp only[binOp,ne_eq,not_true_eq_false,if_false])
theorem pAdd (h:o.op= .binOp .add t x y u) (hx:ρ x= .int k a) (hy:ρ y= .int k b):PureR P ρ o (.int k (k.wrap (a+b))):=qaG h hx hy (fun w=>by rw[qaz (by simp) (by simp)];rfl) rfl
theorem pSub (h:o.op= .binOp .sub t x y u) (hx:ρ x= .int k a) (hy:ρ y= .int k b):PureR P ρ o (.int k (k.wrap (a - b))):=qaG h hx hy (fun w=>by rw[qaz (by simp) (by simp)];rfl) rfl
theorem pMul (h:o.op= .binOp .mul t x y u) (hx:ρ x= .int k a) (hy:ρ y= .int k b):PureR P ρ o (.int k (k.wrap (a*b))):=qaG h hx hy (fun w=>by rw[qaz (by simp) (by simp)];rfl) rfl
theorem pQuo (h:o.op= .binOp .quo t x y u) (hx:ρ x= .int k a) (hy:ρ y= .int k b) (hb:b≠0):PureR P ρ o (.int k (k.wrap (a.tdiv b))):=qaG h hx hy (fun w=>by rw[qaz (by simp) (by simp)];simp[Op.intDiv,hb]) rfl
theorem pRem (h:o.op= .binOp .rem t x y u) (hx:ρ x= .int k a) (hy:ρ y= .int k b) (hb:b≠0):PureR P ρ o (.int k (a.tmod b)):=qaG h hx hy (fun w=>by rw[qaz (by simp) (by simp)];simp[Op.intDiv,hb]) rfl
def qhz (op:BinOp) (k:IntKind) (x y:Int):Int:=
 let a:=BitVec.ofInt k.bits x
 let b:=BitVec.ofInt k.bits y
 match op with
 | .and=>k.wrap (a&&&b).toNat
 | .or=>k.wrap (a|||b).toNat
 | .xor=>k.wrap (a ^^^ b).toNat
 |_=>k.wrap (a&&&~~~b).toNat
theorem pAnd (h:o.op= .binOp .and t x y u) (hx:ρ x= .int k a) (hy:ρ y= .int k b):PureR P ρ o (.int k (qhz .and k a b)):=qaG h hx hy (fun w=>by rw[qaz (by simp) (by simp)];rfl) rfl
theorem pOr (h:o.op= .binOp .or t x y u) (hx:ρ x= .int k a) (hy:ρ y= .int k b):PureR P ρ o (.int k (qhz .or k a b)):=qaG h hx hy (fun w=>by rw[qaz (by simp) (by simp)];rfl) rfl
theorem pXor (h:o.op= .binOp .xor t x y u) (hx:ρ x= .int k a) (hy:ρ y= .int k b):PureR P ρ o (.int k (qhz .xor k a b)):=qaG h hx hy (fun w=>by rw[qaz (by simp) (by simp)];rfl) rfl
theorem qq4 (h:o.op= .binOp .andNot t x y u) (hx:ρ x= .int k a) (hy:ρ y= .int k b):PureR P ρ o (.int k (qhz .andNot k a b)):=qaG h hx hy (fun w=>by rw[qaz (by simp) (by simp)];rfl) rfl
theorem pEql (h:o.op= .binOp .eql t x y u) (hx:ρ x= .int k a) (hy:ρ y= .int k b):PureR P ρ o (.bool (a==b)):=qaG h hx hy (fun w=>by rw[qaz (by simp) (by simp)];rfl) rfl
theorem pNeq (h:o.op= .binOp .neq t x y u) (hx:ρ x= .int k a) (hy:ρ y= .int k b):PureR P ρ o (.bool (a !=b)):=qaG h hx hy (fun w=>by rw[qaz (by simp) (by simp)];rfl) rfl
theorem pLss (h:o.op= .binOp .lss t x y u) (hx:ρ x= .int k a) (hy:ρ y= .int k b):PureR P ρ o (.bool (decide (a<b))):=qaG h hx hy (fun w=>by rw[qaz (by simp) (by simp)];rfl) rfl
theorem pLeq (h:o.op= .binOp .leq t x y u) (hx:ρ x= .int k a) (hy:ρ y= .int k b):PureR P ρ o (.bool (decide (a≤b))):=qaG h hx hy (fun w=>by rw[qaz (by simp) (by simp)];rfl) rfl
theorem pGtr (h:o.op= .binOp .gtr t x y u) (hx:ρ x= .int k a) (hy:ρ y= .int k b):PureR P ρ o (.bool (decide (b<a))):=qaG h hx hy (fun w=>by rw[qaz (by simp) (by simp)];rfl) rfl
theorem pGeq (h:o.op= .binOp .geq t x y u) (hx:ρ x= .int k a) (hy:ρ y= .int k b):PureR P ρ o (.bool (decide (b≤a))):=qaG h hx hy (fun w=>by rw[qaz (by simp) (by simp)];rfl) rfl
theorem qsP {op:BinOp} {yk:IntKind} (h:o.op= .binOp op t x y u) (hx:ρ x= .int k a) (hy:ρ y= .int yk b) (hb:0≤b) (hop:op= .shl∨op= .shr):
  PureR P ρ o (.int k (if op= .shl then k.wrap (a*2 ^ (min b.toNat k.bits)) else a.fdiv (2 ^ (min b.toNat k.bits)))):=by
 refine qgj (x:=x) (y:=y) (by rw[h];rfl) (by rw[h];intros;simp) (by rw[hx];rfl) (by rw[hy];rfl) rfl fun w=> ?_
 have hn:¬b<0:=by omega
 rcases hop with rfl|rfl
 ·simp[execOp,h,hx,hy,eqGuard,binOp,Op.shift,hn]
 ·simp[execOp,h,hx,hy,eqGuard,binOp,Op.shift,hn]
theorem pNot {b:Bool} (h:o.op= .unOp .not t x) (hx:ρ x= .bool b):PureR P ρ o (.bool (!b)):=
 qj0 (x:=x) (by rw[h];rfl) (by rw[h];intros;simp) (by rw[hx];rfl) rfl fun w=>by simp only[execOp,h,hx];rfl
theorem pNeg (h:o.op= .unOp .neg t x) (hx:ρ x= .int k a):PureR P ρ o (.int k (k.wrap (0 - a))):=
 qj0 (x:=x) (by rw[h];rfl) (by rw[h];intros;simp) (by rw[hx];rfl) rfl fun w=>by simp only[execOp,h,hx];rfl
theorem qwR {d:TypeDesc} {k':IntKind} (h:o.op= .convert t u x) (ht:P.underlying t=some d) (hu:P.underlying u=some (.int k')) (hx:ρ x= .int k a):PureR P ρ o (.int k' (k'.wrap a)):=
 qj0 (x:=x) (by rw[h];rfl) (by rw[h];intros;simp) (by rw[hx];rfl) rfl fun w=>by simp[execOp,h,hx,convert,qas ht,qas hu,Conv.intToInt]
theorem qw1 {ts:Array TypeId} (h:o.op= .call {callee:= .builtin .max,args:=#[x,y],argTypes:=ts}) (hx:ρ x= .int k a) (hy:ρ y= .int k b):PureR P ρ o (.int k (max a b)):=by
 refine qgj (x:=x) (y:=y) (by rw[h];rfl) (by rw[h];intros;simp) (by rw[hx];rfl) (by rw[hy];rfl) rfl fun w=> ?_
 have:(Value.int k (if b>a then b else a))= .int k (max a b):=by congr 1;split<;>omega
 rw[←this]
 simp[execOp,h,hx,hy,resolve,invoke,builtin,Builtin.max_,List.foldlM,Builtin.max2]
theorem qw2 {ts:Array TypeId} (h:o.op= .call {callee:= .builtin .min,args:=#[x,y],argTypes:=ts}) (hx:ρ x= .int k a) (hy:ρ y= .int k b):PureR P ρ o (.int k (min a b)):=by
 refine qgj (x:=x) (y:=y) (by rw[h];rfl) (by rw[h];intros;simp) (by rw[hx];rfl) (by rw[hy];rfl) rfl fun w=> ?_
 have:(Value.int k (if b<a then b else a))= .int k (min a b):=by congr 1;split<;>omega
 rw[←this]
 simp[execOp,h,hx,hy,resolve,invoke,builtin,Builtin.min_,List.foldlM,Builtin.min2]
end
section
variable {x y:Operand} {t u:TypeId} {s r:List UInt8}
theorem qcN:(⟨s.toArray⟩:ByteArray).size=s.length:=by simp[ByteArray.size]
theorem qwY {ts:Array TypeId} (h:o.op= .call {callee:= .builtin .len,args:=#[x],argTypes:=ts}) (hts:ts[0]? =some t) (ht:P.underlying t=some .string) (hx:ρ x=str s):PureR P ρ o (.int .i64 s.length):=
 qj0 (x:=x) (by rw[h];rfl) (by rw[h];intros;simp) (by rw[hx];rfl) rfl fun w=>by
  simp[execOp,h,hx,resolve,invoke,builtin,Builtin.len_,hts,str,qas ht,goInt,qcN]
theorem qq6 {k:IntKind} {n:Int} {c:UInt8} (h:o.op= .index t x y) (ht:P.underlying t=some .string) (hx:ρ x=str s) (hy:ρ y= .int k n) (h0:0≤n) (hc:s[n.toNat]? =some c):PureR P ρ o (.int .u8 c.toNat):=by
 refine qgj (x:=x) (y:=y) (by rw[h];rfl) (by rw[h];intros;simp) (by rw[hx];rfl) (by rw[hy];rfl) rfl fun w=> ?_
 have hg:(⟨s.toArray⟩:ByteArray)[n.toNat]? =some c:=by
  have hlt:=(List.getElem?_eq_some_iff.1 hc).1
  have h2:=(List.getElem?_eq_some_iff.1 hc).2
  rw[getElem?_pos (h:=by rw[qcN];exact hlt)]
  congr 1
 simp[execOp,h,hx,hy,Instr.index,asIntOf,qas ht,str,h0,hg]
theorem qjn (i k:Nat):(⟨s.toArray⟩:ByteArray).extract i k=⟨((s.take k).drop i).toArray⟩:=by
 have:((⟨s.toArray⟩:ByteArray).extract i k).data=((s.take k).drop i).toArray:=by
  rw[ByteArray.data_extract]
  simp[List.extract_eq_drop_take']
 cases hb:(⟨s.toArray⟩:ByteArray).extract i k
 rw[hb] at this
 simp only at this
 rw[this]
theorem qq7 {lo hi:Option Operand} {a b:Nat} (h:o.op= .slice t x lo hi none) (ht:P.underlying t=some .string) (hx:ρ x=str s) (hlo:qfh ρ lo a) (hhi:qbM ρ hi s.length b)
  (h1:a≤b) (h2:b≤s.length):PureR P ρ o (str ((s.take b).drop a)):=by
 refine .flat _ (by rw[h];intros;simp) (fun z hz=> ?_) rfl fun w=> ?_
 ·rw[h] at hz
  cases lo with
  |none=>cases hi with
   |none=>simp[Op.operands] at hz;subst hz;rw[hx];rfl
   |some y=>
    obtain ⟨k,hy⟩:=hhi
    simp[Op.operands] at hz
    rcases hz with rfl|rfl
    ·rw[hx];rfl
    ·rw[hy];rfl
  |some q=>
   obtain ⟨k',hq⟩:=hlo
   cases hi with
   |none=>
    simp[Op.operands] at hz
    rcases hz with rfl|rfl
    ·rw[hx];rfl
    ·rw[hq];rfl
   |some y=>
    obtain ⟨k,hy⟩:=hhi
    simp[Op.operands] at hz
    rcases hz with rfl|rfl|rfl
    ·rw[hx];rfl
    ·rw[hq];rfl
    ·rw[hy];rfl
 ·have hbnd:(Instr.sliceBounds false s.length s.length (lo.map ρ) (hi.map ρ) none).run P w= .ok (a,b,s.length) w:=by
   cases lo with
   |none=>
    simp only[qfh] at hlo
    subst hlo
    cases hi with
    |none=>simp only[qbM] at hhi;subst hhi;simp[Instr.sliceBounds]
    |some y=>obtain ⟨k,hy⟩:=hhi;simp[Instr.sliceBounds,hy,Instr.sliceBound,asIntOf,h2]
   |some q=>
    obtain ⟨k',hq⟩:=hlo
    cases hi with
    |none=>simp only[qbM] at hhi;subst hhi;simp[Instr.sliceBounds,hq,Instr.sliceBound,asIntOf,h1]
    |some y=>obtain ⟨k,hy⟩:=hhi;simp[Instr.sliceBounds,hy,hq,Instr.sliceBound,asIntOf,h1,h2]
  simp only[execOp,h,Instr.sliceAt,Sem.run_bind,qas ht,Result.andThen_ok,Option.map_none,Instr.slice,hx,str,Option.isSome_none,Bool.false_eq_true,if_false,Sem.run_pure,qcN,hbnd,qjn]
theorem qb3 {op:BinOp} (h:o.op= .binOp op t x y u) (hx:ρ x=str s) (hy:ρ y=str r) (hsh:op≠ .shl∧op≠ .shr) {v:Value} (hop:∀w,(Op.stringOp op ⟨s.toArray⟩ ⟨r.toArray⟩).run P w= .ok v w) (hv:flat v=true):PureR P ρ o v:=by
 refine qgj (x:=x) (y:=y) (by rw[h];rfl) (by rw[h];intros;simp) (by rw[hx];rfl) (by rw[hy];rfl) hv fun w=> ?_
 have hg:(eqGuard op t x y (str s) (str r)).run P w= .ok () w:=by cases op<;>rfl
 have hb:(binOp op t (str s) (str r)).run P w= .ok v w:=by
  rw[←hop w]
  cases op<;>first|exact absurd rfl hsh.1|exact absurd rfl hsh.2|rfl
 simp only[execOp,h,hx,hy,Sem.run_bind,hg,hb,Result.andThen_ok,Sem.run_pure]
def qlb (s r:List UInt8):Bool:=Op.bytesLess s r
theorem toL (l:List UInt8):(⟨l.toArray⟩:ByteArray).toList=l:=by rw[Go.ByteArray.toList_eq]
theorem qwT (h:o.op= .binOp .eql t x y u) (hx:ρ x=str s) (hy:ρ y=str r):PureR P ρ o (.bool (s==r)):=qb3 h hx hy (by simp) (fun w=>by simp only[Op.stringOp,toL];rfl) rfl
theorem qw5 (h:o.op= .binOp .neq t x y u) (hx:ρ x=str s) (hy:ρ y=str r):PureR P ρ o (.bool (!(s==r))):=qb3 h hx hy (by simp) (fun w=>by simp only[Op.stringOp,toL];rfl) rfl
theorem qw0 (h:o.op= .binOp .lss t x y u) (hx:ρ x=str s) (hy:ρ y=str r):PureR P ρ o (.bool (qlb s r)):=qb3 h hx hy (by simp) (fun w=>by simp only[Op.stringOp,toL];rfl) rfl
theorem qwZ (h:o.op= .binOp .leq t x y u) (hx:ρ x=str s) (hy:ρ y=str r):PureR P ρ o (.bool (qlb s r||(s==r))):=qb3 h hx hy (by simp) (fun w=>by simp only[Op.stringOp,toL];rfl) rfl
theorem qwV (h:o.op= .binOp .gtr t x y u) (hx:ρ x=str s) (hy:ρ y=str r):PureR P ρ o (.bool (!(qlb s r||(s==r)))):=qb3 h hx hy (by simp) (fun w=>by simp only[Op.stringOp,toL];rfl) rfl
theorem qwU (h:o.op= .binOp .geq t x y u) (hx:ρ x=str s) (hy:ρ y=str r):PureR P ρ o (.bool (!qlb s r)):=qb3 h hx hy (by simp) (fun w=>by simp only[Op.stringOp,toL];rfl) rfl
theorem qrp:(⟨s.toArray⟩:ByteArray)++(⟨r.toArray⟩:ByteArray)=⟨(s++r).toArray⟩:=by
 have:((⟨s.toArray⟩:ByteArray)++(⟨r.toArray⟩:ByteArray)).data=(s++r).toArray:=by
  rw[ByteArray.data_append];simp
 cases hb:(⟨s.toArray⟩:ByteArray)++(⟨r.toArray⟩:ByteArray)
 rw[hb] at this
 simp only at this
 rw[this]
theorem qwQ (h:o.op= .binOp .add t x y u) (hx:ρ x=str s) (hy:ρ y=str r) (hl:s.length+r.length≤9223372036854775807):PureR P ρ o (str (s++r)):=qb3 h hx hy (by simp) (fun w=>by
 simp only[Op.stringOp,qcN,Nat.not_lt.2 hl]
 rw[if_neg (by show ¬_>(9223372036854775807:Int);omega),qrp];rfl) rfl
theorem qii {op:BinOp} {a b:Bool} (h:o.op= .binOp op t x y u) (ht:P.underlying t=some .bool) (hx:ρ x= .bool a) (hy:ρ y= .bool b) (hop:op= .eql∨op= .neq):PureR P ρ o (.bool (if op= .eql then a==b else !(a==b))):=by
 refine qgj (x:=x) (y:=y) (by rw[h];rfl) (by rw[h];intros;simp) (by rw[hx];rfl) (by rw[hy];rfl) rfl fun w=> ?_
 have he:(Op.equal t (.bool a) (.bool b)).run P w= .ok (a==b) w:=by
  have hd:∀d:Nat,(Op.equalIn (d+1) t (.bool a) (.bool b)).run P w= .ok (a==b) w:=fun d=>by
   simp only[Op.equalIn,Sem.run_bind,qas ht,Result.andThen_ok,Sem.run_pure]
  exact hd 9999
 have hg:(eqGuard op t x y (.bool a) (.bool b)).run P w= .ok () w:=by rcases hop with rfl|rfl<;>rfl
 have hb:(binOp op t (.bool a) (.bool b)).run P w= .ok (.bool (if op= .eql then a==b else !(a==b))) w:=by
  rcases hop with rfl|rfl
  ·show (do pure (Value.bool (←Op.equal t (.bool a) (.bool b))):Sem Value).run P w=_
   simp only[Sem.run_bind,he,Result.andThen_ok,Sem.run_pure,if_true]
  ·show (do pure (Value.bool (!(←Op.equal t (.bool a) (.bool b)))):Sem Value).run P w=_
   simp only[Sem.run_bind,he,Result.andThen_ok,Sem.run_pure]
   rfl
 simp only[execOp,h,hx,hy,Sem.run_bind,hg,hb,Result.andThen_ok,Sem.run_pure]
theorem qwS {a b:Bool} (h:o.op= .binOp .eql t x y u) (ht:P.underlying t=some .bool) (hx:ρ x= .bool a) (hy:ρ y= .bool b):PureR P ρ o (.bool (a==b)):=qii h ht hx hy (.inl rfl)
theorem qw4 {a b:Bool} (h:o.op= .binOp .neq t x y u) (ht:P.underlying t=some .bool) (hx:ρ x= .bool a) (hy:ρ y= .bool b):PureR P ρ o (.bool (!(a==b))):=qii h ht hx hy (.inr rfl)
end
end
end Go.AM
end
section
set_option linter.unusedSimpArgs false
set_option linter.unusedVariables false
namespace Go.AM
def getI {α:Type} (xs:List α) (i:Int):Option α:=if 0≤i then xs[i.toNat]? else none
theorem qaH {α:Type} {xs:List α} {i:Int} {x:α} (h:getI xs i=some x):0≤i∧i<xs.length∧xs[i.toNat]? =some x:=by
 unfold getI at h
 split at h
 ·have:=(List.getElem?_eq_some_iff.1 h).1
  exact ⟨‹_›,by omega,h⟩
 ·cases h
def CR (z:Nat→Blk) (p:Value) (cs:List Value):Prop:=∃b o,p= .pointer (some ⟨b,o,none⟩)∧qa1 z b o cs
def CM (m:Mem) (p:Value) (cs:List Value):Prop:=∃b o,p= .pointer (some ⟨b,o,none⟩)∧∀(i:Nat) (u:Value),cs[i]? =some u→m.load b (o+i)=some u
section
variable {P:Program} {ρ:Operand→Value} {o:Oper} {α:Type} {T:Ty α} {z:Nat→Blk} {m:Mem} {xs:List α} {v:Value} {x y:Operand} {t e u:TypeId} {i:TypeInfo} {d:TypeDesc}
theorem qkr {b:Nat}:∀(n off:Nat) (cs:List Value),cs.length=n→(∀(i:Nat) (u:Value),cs[i]? =some u→m.load b (off+i)=some u)→rdN m b off n=some cs
 |0,off,cs,hl,_=>by rw[List.eq_nil_of_length_eq_zero hl];rfl
 |n+1,off,c::cs,hl,h=>by
  have h0:=h 0 c (by simp)
  have ih:=qkr n (off+1) cs (by simpa using hl) fun i u hi=>by
   have:=h (i+1) u (by simpa using hi)
   rw[show off+1+i=off+(i+1) by omega];exact this
  simp only[Nat.add_zero] at h0
  simp only[rdN,h0,ih]
 |n+1,off,[],hl,_=>by simp at hl
theorem qwX {k:IntKind} {n:Int} {a:α} (h:o.op= .indexAddr t x y) (ht:P.underlying t=some (.slice e)) (hi:P.info? e=some i) (hsz:i.size=T.sz) (hx:ρ x=v) (hy:ρ y= .int k n) (hs:SlR T z xs v) (hg:getI xs n=some a):
  ∃p cs,PureR P ρ o p∧T.rd z a cs∧CR z p cs:=by
 obtain ⟨h0,h1,h2⟩:=qaH hg
 rcases hs with ⟨_,rfl⟩|⟨b,off,c,rfl,_,_,h4⟩
 ·simp at h2
 ·obtain ⟨cs,g1,g2⟩:=h4 _ a h2
  exact ⟨_,cs, .indexAddr t x y e i b off _ c k n h ht hi hx hy h0 h1,g1,b,_,rfl,by rw[hsz];exact g2⟩
def PtO (s:Nat) (v:Value) (n:Nat) (p:Value):Prop:=∃b f0 l c,v= .slice (some ⟨b,f0,none⟩) l c∧p= .pointer (some ⟨b,f0+n*s,none⟩)
theorem qwW {k:IntKind} {n:Int} {a:α} (h:o.op= .indexAddr t x y) (ht:P.underlying t=some (.slice e)) (hi:P.info? e=some i) (hsz:i.size=T.sz) (hx:ρ x=v) (hy:ρ y= .int k n) (hs:Ow T z m xs v) (hg:getI xs n=some a):
  ∃p cs,PureR P ρ o p∧T.rd z a cs∧CM m p cs∧PtO T.sz v n.toNat p:=by
 obtain ⟨h0,h1,h2⟩:=qaH hg
 rcases hs with ⟨_,rfl⟩|⟨b,f0,L,c,rfl,hb,_,_,hl,_,h4⟩
 ·simp at h2
 ·obtain ⟨cs,g1,g2⟩:=h4 _ a h2
  refine ⟨_,cs, .indexAddr t x y e i b f0 _ c k n h ht hi hx hy h0 h1,g1,⟨b,_,rfl,fun j u hj=> ?_⟩,⟨b,f0,_,c,rfl,by rw[hsz]⟩⟩
  simp only[Mem.load,hb,hsz]
  exact g2 j u hj
def cutI {α:Type} (xs:List α) (a b:Int):Option (List α):=if 0≤a∧a≤b∧b≤xs.length then some ((xs.take b.toNat).drop a.toNat) else none
theorem qeF {xs:List α} {a b:Int} {r:List α} (h:cutI xs a b=some r):0≤a∧a≤b∧b≤xs.length∧r=(xs.take b.toNat).drop a.toNat:=by
 unfold cutI at h
 split at h
 ·rename_i hc
  cases h
  exact ⟨hc.1,hc.2.1,hc.2.2,rfl⟩
 ·cases h
def lowI (ρ:Operand→Value) (lo:Option Operand) (n:Int):Prop:=
 match lo with
 |none=>n=0
 |some y=>∃k,ρ y= .int k n
def qkO (ρ:Operand→Value) (hi:Option Operand) (l:Nat) (n:Int):Prop:=
 match hi with
 |none=>n=l
 |some y=>∃k,ρ y= .int k n
theorem qgv {ρ:Operand→Value} {lo:Option Operand} {n:Nat} (h:lowI ρ lo n):qfh ρ lo n:=by
 cases lo with
 |none=>simp only[lowI] at h;simp only[qfh];omega
 |some y=>exact h
theorem qem {ρ:Operand→Value} {hi:Option Operand} {l n:Nat} (h:qkO ρ hi l n):qbM ρ hi l n:=by
 cases hi with
 |none=>simp only[qkO] at h;simp only[qbM];omega
 |some y=>exact h
theorem qgd {xs:List α} {a b k:Nat} {r:α} (h:((xs.take b).drop a)[k]? =some r):xs[a+k]? =some r:=by
 rw[List.getElem?_drop,List.getElem?_take] at h
 split at h
 ·exact h
 ·cases h
theorem qpy {P:Program} {C:FuncId→Array Value→Mem→Value→Mem→Prop} {b off:Nat} {L cs:List Value} (h:o.op= .store t x y) (hi:P.info? t=some i) (hx:ρ x= .pointer (some ⟨b,off,none⟩)) (hm:m.blk b= .own L e) (hv:storable (ρ y)=true) (hcs:(ρ y).cells.toList=cs) (hs:cs.length=i.size) (hl:off+cs.length≤L.length):
  EffR P C ρ o m undef (m.put b (.own (setN L off cs) e)):=by
 subst hcs
 exact .store t x y b off i L e h hx hi hm hv (by simpa using hs) (by rw[←hs];exact hl)
theorem qdy {b:Nat} {x:Blk} (hd:∀b,m.next≤b→m.blk b= .dead) (hb:b<m.next):Same m (m.put b x) (some b):=by
 refine ⟨Nat.le_refl _,fun c hc=> ?_,fun c hc hk=> ?_⟩
 ·have hc:m.next≤c:=hc
  simp only[Mem.put]
  rw[if_neg (by omega)]
  exact hd c hc
 ·simp only[Mem.put]
  rw[if_neg (fun h=>hk (by rw[h]))]
theorem qcu {x:Blk} (hd:∀b,m.next≤b→m.blk b= .dead):Same m (m.push x) none:=by
 refine ⟨Nat.le_succ _,fun c hc=> ?_,fun c hc _=> ?_⟩
 ·simp only[Mem.push] at hc⊢
  rw[if_neg (by omega)]
  exact hd c (by omega)
 ·simp only[Mem.push]
  rw[if_neg (by omega)]
theorem Ow.same {m':Mem} {q:Option Nat} (h:Ow T z m xs v) (s:Same m m' q) (hap:Ap (qag v) q):Ow T z m' xs v:=
 h.frame fun b hb hlt=>⟨s.blk b hlt (fun hq=>hap b hb hq),Nat.lt_of_lt_of_le hlt s.next⟩
theorem qoh {m':Mem} {q:Option Nat} {b:Nat} {X:Blk} (h:m.blk b=X) (hb:b<m.next) (s:Same m m' q) (hap:q≠some b):m'.blk b=X∧b<m'.next:=⟨by rw[s.blk b hb hap];exact h,Nat.lt_of_lt_of_le hb s.next⟩
theorem Ow.store {n:Nat} {a a':α} {cs cs':List Value} {f:Nat} {new:List Value} {b f0 l c:Nat} (hs:Ow T z m xs v) (hd:∀b,m.next≤b→m.blk b= .dead) (hv:v= .slice (some ⟨b,f0,none⟩) l c) (ha:xs[n]? =some a) (hr:T.rd z a cs) (hc:CM m (.pointer (some ⟨b,f0+n*T.sz,none⟩)) cs) (hr':T.rd z a' cs') (hcs:cs'=setN cs f new) (hf:f+new.length≤cs.length):
  ∃L,m.blk b= .own L T.tid∧f0+n*T.sz+f+new.length≤L.length∧Ow T z (m.put b (.own (setN L (f0+n*T.sz+f) new) T.tid)) (xs.set n a') v∧Same m (m.put b (.own (setN L (f0+n*T.sz+f) new) T.tid)) (some b):=by
 rcases hs with ⟨rfl,_⟩|⟨b',f1,L,c',hv',hb,hlt,hz,hl,hcap,hel⟩
 ·cases hv
 ·subst hv
  simp only[Value.slice.injEq,Option.some.injEq,Addr.mk.injEq,and_true] at hv'
  obtain ⟨⟨rfl,rfl⟩,rfl,rfl⟩:=hv'
  have hn:n<xs.length:=(List.getElem?_eq_some_iff.1 ha).1
  have hlen:=T.len z a cs hr
  have hlen':=T.len z a' cs' hr'
  have hfit:f0+n*T.sz+T.sz≤L.length:=by
   have:(n+1)*T.sz≤xs.length*T.sz:=Nat.mul_le_mul_right _ hn
   rw[Nat.add_mul,Nat.one_mul] at this
   omega
  have hL:(setN L (f0+n*T.sz+f) new).length=L.length:=qax _ _ _
  refine ⟨L,hb,by omega, .inr ⟨b,f0,setN L (f0+n*T.sz+f) new,c,by simp,by simp[Mem.put],hlt,hz,by rw[hL];simpa using hl,by rw[hL];simpa using hcap,fun k w hk=> ?_⟩,qdy hd hlt⟩
  rw[List.getElem?_set] at hk
  by_cases hkn:n=k
  ·subst hkn
   simp[hn] at hk
   subst hk
   refine ⟨cs',hr',fun q u hq=> ?_⟩
   have hqlt:=(List.getElem?_eq_some_iff.1 hq).1
   rw[hcs,qaR _ _ _ _ hf] at hq
   rw[qaR _ _ _ _ (by omega)]
   by_cases hin:f≤q∧q<f+new.length
   ·rw[if_pos hin] at hq
    rw[if_pos (by omega),show f0+n*T.sz+q - (f0+n*T.sz+f)=q - f by omega];exact hq
   ·rw[if_neg hin] at hq
    rw[if_neg (by omega)]
    obtain ⟨b2,o2,hp,hcm⟩:=hc
    simp only[Value.pointer.injEq,Option.some.injEq,Addr.mk.injEq,and_true] at hp
    obtain ⟨rfl,rfl⟩:=hp
    have:=hcm q u hq
    simp only[Mem.load,hb] at this
    exact this
  ·rw[if_neg hkn] at hk
   obtain ⟨cs2,g1,g2⟩:=hel k w hk
   refine ⟨cs2,g1,fun q u hq=> ?_⟩
   have hqlt:=(List.getElem?_eq_some_iff.1 hq).1
   rw[T.len z w cs2 g1] at hqlt
   rw[qaR _ _ _ _ (by omega)]
   have hout:¬(f0+n*T.sz+f≤f0+k*T.sz+q∧f0+k*T.sz+q<f0+n*T.sz+f+new.length):=by
    rcases Nat.lt_or_gt_of_ne hkn with h'|h'
    ·have:(n+1)*T.sz≤k*T.sz:=Nat.mul_le_mul_right _ h'
     rw[Nat.add_mul,Nat.one_mul] at this
     omega
    ·have:(k+1)*T.sz≤n*T.sz:=Nat.mul_le_mul_right _ h'
     rw[Nat.add_mul,Nat.one_mul] at this
     omega
   rw[if_neg hout]
   exact g2 q u hq
end
end Go.AM
end
section
set_option linter.unusedSimpArgs false
set_option linter.unusedVariables false
namespace Go.AM
def LIM:Nat:=4294967296
def appI {α:Type} (xs ys:List α):Option (List α):=if xs.length+ys.length≤LIM then some (xs++ys) else none
theorem qa0 {α:Type} {xs ys r:List α} (h:appI xs ys=some r):xs.length+ys.length≤LIM∧r=xs++ys:=by
 unfold appI at h
 split at h
 ·cases h;exact ⟨‹_›,rfl⟩
 ·cases h
def mkI {α:Type} (x:α) (n:Int):Option (List α):=if 0≤n∧n≤4294967296 then some (List.replicate n.toNat x) else none
theorem qdo {α:Type} {x:α} {n:Int} {r:List α} (h:mkI x n=some r):0≤n∧n≤4294967296∧r=List.replicate n.toNat x:=by
 unfold mkI at h
 split at h
 ·rename_i hc;cases h;exact ⟨hc.1,hc.2,rfl⟩
 ·cases h
def toU8 (n:Int):Option UInt8:=if 0≤n∧n<256 then some (UInt8.ofNat n.toNat) else none
theorem qio {n:Int} {u:UInt8} (h:toU8 n=some u):n=u.toNat:=by
 unfold toU8 at h
 split at h
 ·rename_i hc
  cases h
  simp;omega
 ·cases h
def divI (a b:Int):Option Int:=if b=0 then none else some (a.tdiv b)
def modI (a b:Int):Option Int:=if b=0 then none else some (a.tmod b)
theorem qlF {a b r:Int} (h:divI a b=some r):b≠0∧r=a.tdiv b:=by
 unfold divI at h;split at h
 ·cases h
 ·cases h;exact ⟨‹_›,rfl⟩
theorem qmm {a b r:Int} (h:modI a b=some r):b≠0∧r=a.tmod b:=by
 unfold modI at h;split at h
 ·cases h
 ·cases h;exact ⟨‹_›,rfl⟩
def lt {α β:Type} (x:α) (f:α→Option β):Option β:=f x
theorem qmi {α β:Type} {x:α} {f:α→Option β} {r:β} (h:lt x f=some r):∃y,x=y∧f y=some r:=⟨x,rfl,h⟩
theorem bind_some {α β:Type} {x:Option α} {f:α→Option β} {r:β} (h:x.bind f=some r):∃y,x=some y∧f y=some r:=Option.bind_eq_some_iff.1 h
def TU8 (t:TypeId):Ty UInt8:=Ty.flat t (fun u=> .int .u8 u.toNat) fun _=>rfl
section
variable {P:Program} {C:FuncId→Array Value→Mem→Value→Mem→Prop} {ρ:Operand→Value} {o:Oper} {α:Type} {T:Ty α} {z:Nat→Blk} {m:Mem} {xs ys:List α} {v w:Value} {x y:Operand} {t e u:TypeId} {i:TypeInfo} {d:TypeDesc}
def Src (T:Ty α) (z:Nat→Blk) (m:Mem) (ys:List α) (w:Value):Prop:=
 lenV w=ys.length∧∃cs,elems m T.sz w=some cs∧cs.length=ys.length*T.sz∧∀(i:Nat) (y:α),ys[i]? =some y→∃c,T.rd z y c∧qbs cs (i*T.sz) c
theorem qm1 {m:Mem} {b:Nat}:∀(n off:Nat) (f:Nat→Value),(∀i,i<n→m.load b (off+i)=some (f i))→rdN m b off n=some ((List.range n).map f)
 |0,off,f,_=>rfl
 |n+1,off,f,h=>by
  have h0:=h 0 (by omega)
  have ih:=qm1 n (off+1) (fun i=>f (i+1)) fun i hi=>by rw[show off+1+i=off+(i+1) by omega];exact h (i+1) (by omega)
  simp only[Nat.add_zero] at h0
  simp only[rdN,h0,ih,List.range_succ_eq_map,List.map_cons,List.map_map]
  rfl
theorem qnm {b off c:Nat} (h:∀(i:Nat) (y:α),ys[i]? =some y→∃cs,T.rd z y cs∧∀(k:Nat) (u:Value),cs[k]? =some u→m.load b (off+i*T.sz+k)=some u):Src T z m ys (.slice (some ⟨b,off,none⟩) ys.length c):=by
 have hload:∀k,k<ys.length*T.sz→∃u,m.load b (off+k)=some u:=by
  intro k hk
  have hpos:0<T.sz:=by
   rcases Nat.eq_zero_or_pos T.sz with h0|h0
   ·rw[h0] at hk;omega
   ·exact h0
  have hq:k / T.sz<ys.length:=Nat.div_lt_of_lt_mul (by rw[Nat.mul_comm];exact hk)
  obtain ⟨cs,h1,h2⟩:=h (k / T.sz) ys[k / T.sz] (by simp[hq])
  have hlen:=T.len z _ cs h1
  have hr:k%T.sz<cs.length:=by rw[hlen];exact Nat.mod_lt _ hpos
  refine ⟨cs[k%T.sz], ?_⟩
  have:=h2 (k%T.sz) _ (List.getElem?_eq_getElem hr)
  rw[Nat.add_assoc,Nat.mul_comm,Nat.div_add_mod] at this
  exact this
 let f:Nat→Value:=fun k=>(m.load b (off+k)).getD undef
 have hf:∀k,k<ys.length*T.sz→m.load b (off+k)=some (f k):=fun k hk=>by
  obtain ⟨u,hu⟩:=hload k hk
  simp[f,hu]
 refine ⟨rfl,(List.range (ys.length*T.sz)).map f,qm1 _ _ _ hf,by simp,fun i y hy=> ?_⟩
 obtain ⟨cs,h1,h2⟩:=h i y hy
 refine ⟨cs,h1,fun k u hk=> ?_⟩
 have hkl:=(List.getElem?_eq_some_iff.1 hk).1
 rw[T.len z y cs h1] at hkl
 have hil:=(List.getElem?_eq_some_iff.1 hy).1
 have hlt:i*T.sz+k<ys.length*T.sz:=by
  have:(i+1)*T.sz≤ys.length*T.sz:=Nat.mul_le_mul_right _ hil
  rw[Nat.add_mul,Nat.one_mul] at this
  omega
 have:=h2 k u hk
 rw[Nat.add_assoc,hf _ hlt] at this
 rw[List.getElem?_map,List.getElem?_range hlt]
 simpa using this
theorem SlR.src (h:SlR T z ys w) (hz:Fz z m):Src T z m ys w:=by
 rcases h with ⟨rfl,rfl⟩|⟨b,off,c,rfl,_,_,h4⟩
 ·exact ⟨rfl,[],rfl,by simp,fun i y hy=>by simp at hy⟩
 ·exact qnm fun i y hy=>by
   obtain ⟨cs,g1,g2⟩:=h4 i y hy
   exact ⟨cs,g1,fun k u hk=>qka hz (g2 k u hk)⟩
theorem Ow.src (h:Ow T z m ys w):Src T z m ys w:=by
 rcases h with ⟨rfl,rfl⟩|⟨b,f0,L,c,rfl,hb,_,_,_,_,h4⟩
 ·exact ⟨rfl,[],rfl,by simp,fun i y hy=>by simp at hy⟩
 ·exact qnm fun i y hy=>by
   obtain ⟨cs,g1,g2⟩:=h4 i y hy
   exact ⟨cs,g1,fun k u hk=>by simp only[Mem.load,hb];exact g2 k u hk⟩
theorem Same.kill {b:Nat} {X:Blk} (hd:∀b,m.next≤b→m.blk b= .dead) (hb:b<m.next):Same m ((m.put b .dead).push X) (some b):=by
 have h1:=qdy (m:=m) (x:= .dead) hd hb
 refine ⟨Nat.le_succ _,fun c hc=> ?_,fun c hc hk=> ?_⟩
 ·have e:((m.put b .dead).push X).blk c=if c=m.next then X else (if c=b then .dead else m.blk c):=rfl
  have hc:m.next+1≤c:=hc
  rw[e,if_neg (by omega)]
  split
  ·rfl
  ·exact hd c (by omega)
 ·have e:((m.put b .dead).push X).blk c=if c=m.next then X else (if c=b then .dead else m.blk c):=rfl
  rw[e,if_neg (by omega),if_neg (fun h=>hk (by rw[h]))]
theorem qjV {cs:List Value} (h:o.op= .call {callee:= .builtin .append,args:=#[x,y],argTypes:=#[t,u]}) (ht:P.underlying t=some (.slice T.tid)) (hi:P.info? T.tid=some i) {zv:Value} (hzv:i.zero=some zv) (hzf:zv.cells.toList.all qah=true) (hzs:zv.cells.size=i.size)
  (hsz:i.size=T.sz) (hpos:0<T.sz) (hby0:(xs.length+ys.length)*i.bytes≤140737488355328) (hlim:xs.length+ys.length≤140737488355328) (hx:ρ x=v) (hs:Ow T z m xs v) (hA:AddR P m u i (ρ y) ys.length cs) (hcl:cs.length=ys.length*T.sz) (hrd:∀(i:Nat) (y:α),ys[i]? =some y→∃c,T.rd z y c∧qbs cs (i*T.sz) c)
  (hz:Fz z m) (hd:∀b,m.next≤b→m.blk b= .dead):
  ∃v' m',EffR P C ρ o m v' m'∧Ow T z m' (xs++ys) v'∧Same m m' (qag v)∧∀b,qag v'=some b→qag v=some b∨m.next≤b:=by
 have hbytes:=hby0
 have hmax:xs.length+ys.length<9223372036854775807:=by omega
 have hcl':cs.length=ys.length*i.size:=by rw[hsz];exact hcl
 have hnz:z m.next= .dead:=by
  cases hzz:z m.next with
  |dead=>rfl
  |ro rd=>have:=(hz m.next (by rw[hzz];simp)).2;omega
  |own L t=>have:=(hz m.next (by rw[hzz];simp)).2;omega
  |map L t=>have:=(hz m.next (by rw[hzz];simp)).2;omega
  |lock _ _ _ _=>have:=(hz m.next (by rw[hzz];simp)).2;omega
 have join:∀(old:List Value),old.length=xs.length*T.sz→(∀(i:Nat) (x:α),xs[i]? =some x→∃c,T.rd z x c∧qbs old (i*T.sz) c)→
   ∀(i:Nat) (x:α),(xs++ys)[i]? =some x→∃c,T.rd z x c∧qbs (old++cs) (i*T.sz) c:=by
  intro old hol ho i a ha
  rw[List.getElem?_append] at ha
  split at ha
  ·rename_i hlt
   obtain ⟨c,g1,g2⟩:=ho i a ha
   refine ⟨c,g1,fun k q hk=> ?_⟩
   have:=g2 k q hk
   rw[List.getElem?_append_left (List.getElem?_eq_some_iff.1 this).1]
   exact this
  ·rename_i hge
   obtain ⟨c,g1,g2⟩:=hrd _ a ha
   refine ⟨c,g1,fun k q hk=> ?_⟩
   have:=g2 k q hk
   have h1:i*T.sz=old.length+(i - xs.length)*T.sz:=by
    rw[hol,←Nat.add_mul];congr 1;omega
   rw[h1,Nat.add_assoc,List.getElem?_append_right (by omega),Nat.add_sub_cancel_left]
   exact this
 rcases hs with ⟨rfl,rfl⟩|⟨b,f0,L,c,rfl,hb,hlt,hzb,hl,hcap,hrd0⟩
 ·by_cases hy0:ys.length=0
  ·have hcs0:cs=[]:=List.eq_nil_of_length_eq_zero (by rw[hcl,hy0,Nat.zero_mul])
   have hys0:ys=[]:=List.eq_nil_of_length_eq_zero hy0
   subst hys0
   subst hcs0
   refine ⟨ρ x,m, .appendNone x y t u T.tid i none 0 0 h ht hi hx (by simp[BIG]) (Nat.le_refl _) hA, ?_,⟨Nat.le_refl _,hd,fun _ _ _=>rfl⟩, ?_⟩
   ·rw[hx];exact .inl ⟨rfl,rfl⟩
   ·intro b hb;rw[hx] at hb;cases hb
  ·refine ⟨_,_, .appendNew x y t u T.tid i zv none 0 0 ys.length [] cs h ht hi hzv hzf hzs (by rw[hsz];exact hpos) hx (by omega) (by rw[hx];rfl) (by simp) hA hcl' (by simpa using hbytes) (by simpa using hmax), ?_,qcu hd, ?_⟩
   ·refine .inr ⟨m.next,0,cs,BIG,by simp,by simp[Mem.push],by simp[Mem.push],hnz,by simp[hcl], .inl rfl, ?_⟩
    have:=join [] (by simp) (fun i x hx=>by simp at hx)
    simpa using this
   ·intro b hb;cases hb;exact .inr (Nat.le_refl _)
 ·have hrd1:∀(i:Nat) (x:α),xs[i]? =some x→∃c,T.rd z x c∧qbs ((L.drop f0).take (xs.length*T.sz)) (i*T.sz) c:=by
   intro k a ha
   obtain ⟨c,g1,g2⟩:=hrd0 k a ha
   refine ⟨c,g1,fun q q' hq=> ?_⟩
   have hql:=(List.getElem?_eq_some_iff.1 hq).1
   rw[T.len z a c g1] at hql
   have hkl:=(List.getElem?_eq_some_iff.1 ha).1
   have:(k+1)*T.sz≤xs.length*T.sz:=Nat.mul_le_mul_right _ hkl
   rw[Nat.add_mul,Nat.one_mul] at this
   rw[List.getElem?_take,if_pos (by omega),List.getElem?_drop,←Nat.add_assoc]
   exact g2 q q' hq
  have htl:((L.drop f0).take (xs.length*T.sz)).length=xs.length*T.sz:=by rw[List.length_take,List.length_drop];omega
  rcases hcap with rfl|⟨hc1,hc2,hc3⟩
  ·refine ⟨_,_, .append x y t u T.tid i zv b f0 xs.length ys.length L cs h ht hi hzv hzf hzs (by rw[hsz];exact hpos) hx hb (by rw[hsz];exact hl) hA hcl' hbytes hmax, ?_,Same.kill hd hlt, ?_⟩
   ·refine .inr ⟨m.next,0,(L.drop f0).take (xs.length*T.sz)++cs,BIG,by simp,by simp[Mem.push,Mem.put,hsz],by simp[Mem.push,Mem.put],hnz, ?_, .inl rfl, ?_⟩
    ·rw[List.length_append,List.length_append,htl,hcl,Nat.add_mul,Nat.zero_add]
     exact Nat.le_refl _
    ·simpa using join _ htl hrd1
   ·intro b' hb';cases hb';exact .inr (Nat.le_refl _)
  ·by_cases hfit:xs.length+ys.length≤c
   ·have hL2:f0+(xs.length+ys.length)*i.size≤L.length:=by
     rw[hsz]
     exact Nat.le_trans (Nat.add_le_add_left (Nat.mul_le_mul_right _ hfit) _) hc3
    refine ⟨_,_, .appendIn x y t u T.tid i b f0 xs.length c ys.length L cs h ht hi hx (by simp only[BIG] at hc1⊢;omega) hfit hb hA hcl' hL2, ?_,qdy hd hlt,fun b' hb'=> .inl hb'⟩
    have hset:(setN L (f0+xs.length*i.size) cs).length=L.length:=qax _ _ _
    refine .inr ⟨b,f0,setN L (f0+xs.length*i.size) cs,c,by simp,by simp[Mem.put],hlt,hzb, ?_, .inr ⟨hc1, ?_, ?_⟩, ?_⟩
    ·rw[hset];rw[hsz] at hL2;simpa using hL2
    ·simpa using hfit
    ·rw[hset];exact hc3
    ·intro k a ha
     obtain ⟨c',g1,g2⟩:=join _ htl hrd1 k a ha
     refine ⟨c',g1,fun q q' hq=> ?_⟩
     have:=g2 q q' hq
     have hlt2:=(List.getElem?_eq_some_iff.1 this).1
     rw[List.length_append,htl,hcl] at hlt2
     rw[hsz,Nat.add_mul] at hL2
     rw[hsz,qaR _ _ _ _ (by rw[hcl];omega)]
     rw[List.getElem?_append,htl] at this
     split at this
     ·rename_i hlt3
      rw[if_neg (by omega)]
      rw[List.getElem?_take,if_pos hlt3,List.getElem?_drop,←Nat.add_assoc] at this
      exact this
     ·rw[if_pos (by omega),show f0+k*T.sz+q - (f0+xs.length*T.sz)=k*T.sz+q - xs.length*T.sz by omega]
      exact this
   ·have hel0:elems m i.size (ρ x)=some ((L.drop f0).take (xs.length*T.sz)):=by
     rw[hx,hsz]
     simp only[elems]
     refine qkr _ _ _ htl fun k q hk=> ?_
     rw[List.getElem?_take] at hk
     split at hk
     ·rw[List.getElem?_drop] at hk
      simp only[Mem.load,hb];exact hk
     ·cases hk
    refine ⟨_,_, .appendNew x y t u T.tid i zv _ xs.length c ys.length ((L.drop f0).take (xs.length*T.sz)) cs h ht hi hzv hzf hzs (by rw[hsz];exact hpos) hx (by omega) hel0 (by rw[htl,hsz]) hA hcl' hbytes hmax, ?_, ?_, ?_⟩
    ·refine .inr ⟨m.next,0,(L.drop f0).take (xs.length*T.sz)++cs,BIG,by simp,by simp[Mem.push],by simp[Mem.push],hnz, ?_, .inl rfl,by simpa using join _ htl hrd1⟩
     rw[List.length_append,List.length_append,htl,hcl,Nat.add_mul,Nat.zero_add]
     exact Nat.le_refl _
    ·have:=qcu (m:=m) (x:= .own ((L.drop f0).take (xs.length*T.sz)++cs) T.tid) hd
     exact ⟨this.next,this.dead,fun c hc _=>this.blk c hc (by simp)⟩
    ·intro b' hb';cases hb';exact .inr (Nat.le_refl _)
theorem qnH (h:o.op= .call {callee:= .builtin .append,args:=#[x,y],argTypes:=#[t,u]}) (ht:P.underlying t=some (.slice T.tid)) (hi:P.info? T.tid=some i) {zv:Value} (hzv:i.zero=some zv) (hzf:zv.cells.toList.all qah=true) (hzs:zv.cells.size=i.size)
  (hsz:i.size=T.sz) (hpos:0<T.sz) (hby0:(xs.length+ys.length)*i.bytes≤140737488355328) (hlim:xs.length+ys.length≤140737488355328) (hu:(∃e',P.underlying u=some (.slice e'))∨P.underlying u=some .string) (hx:ρ x=v) (hs:Ow T z m xs v) (hy:ρ y=w) (hsrc:Src T z m ys w)
  (hz:Fz z m) (hd:∀b,m.next≤b→m.blk b= .dead):
  ∃v' m',EffR P C ρ o m v' m'∧Ow T z m' (xs++ys) v'∧Same m m' (qag v)∧∀b,qag v'=some b→qag v=some b∨m.next≤b:=by
 obtain ⟨hlen,cs,hel,hcl,hrd⟩:=hsrc
 exact qjV h ht hi hzv hzf hzs hsz hpos hby0 hlim hx hs (.el hu (by rw[hy];exact hlen) (by rw[hy,hsz];exact hel)) hcl hrd hz hd
theorem qwL {x0:α} {zv:Value} (hrd:T.rd z x0 zv.cells.toList) (c:Nat):(List.replicate c zv.cells.toList).flatten.length=(List.replicate c x0).length*T.sz∧
  ∀(i:Nat) (y:α),(List.replicate c x0)[i]? =some y→∃d,T.rd z y d∧qbs (List.replicate c zv.cells.toList).flatten (i*T.sz) d:=by
 have hlen:zv.cells.toList.length=T.sz:=T.len z x0 _ hrd
 refine ⟨by rw[List.length_flatten];simp[hlen],fun j a ha=> ?_⟩
 have hj:=(List.getElem?_eq_some_iff.1 ha).1
 have hax:a=x0:=by have:=(List.getElem?_eq_some_iff.1 ha).2;simpa using this.symm
 subst hax
 refine ⟨_,hrd,fun q u hq=> ?_⟩
 have hql:=(List.getElem?_eq_some_iff.1 hq).1
 rw[hlen] at hql
 have key:∀(c j:Nat),j<c→((List.replicate c zv.cells.toList).flatten)[j*T.sz+q]? =zv.cells.toList[q]? :=by
  intro c
  induction c with
  |zero=>intro j hj;omega
  |succ c ih=>
   intro j hj
   rw[List.replicate_succ,List.flatten_cons]
   cases j with
   |zero=>rw[Nat.zero_mul,Nat.zero_add,List.getElem?_append_left (by omega)]
   |succ j=>
    rw[List.getElem?_append_right (by rw[hlen,Nat.succ_mul];omega),hlen,Nat.succ_mul,show j*T.sz+T.sz+q - T.sz=j*T.sz+q by omega]
    exact ih j (by omega)
 rw[key c j (by simpa using hj)]
 exact hq
theorem qnI {x0:α} {kk k:IntKind} {c:Nat} (h:o.op= .call {callee:= .builtin .append,args:=#[x,y],argTypes:=#[t,u]}) (ht:P.underlying t=some (.slice T.tid)) (hi:P.info? T.tid=some i) {zv:Value} (hzv:i.zero=some zv) (hzf:zv.cells.toList.all qah=true) (hzs:zv.cells.size=i.size)
  (hsz:i.size=T.sz) (hpos:0<T.sz) (hby:i.bytes≤32768) (hu:P.underlying u=some (.int kk)) (hx:ρ x=v) (hs:Ow T z m xs v) (hy:ρ y= .int k c) (hrd:T.rd z x0 zv.cells.toList)
  (hz:Fz z m) (hd:∀b,m.next≤b→m.blk b= .dead) {r:List α} (hr:appI xs (List.replicate c x0)=some r):
  ∃v' m',EffR P C ρ o m v' m'∧Ow T z m' r v'∧Same m m' (qag v)∧∀b,qag v'=some b→qag v=some b∨m.next≤b:=by
 obtain ⟨hlim,rfl⟩:=qa0 hr
 simp only[LIM,List.length_replicate] at hlim
 have h1:(xs.length+c)*i.bytes≤4294967296*32768:=Nat.mul_le_mul hlim hby
 have h2:c*i.bytes≤4294967296*32768:=Nat.mul_le_mul (by omega) hby
 obtain ⟨g1,g2⟩:=qwL (T:=T) (z:=z) hrd c
 exact qjV h ht hi hzv hzf hzs hsz hpos (by rw[List.length_replicate];omega) (by rw[List.length_replicate];omega) hx hs
  (.mk kk k zv hu (by rw[hy,List.length_replicate]) hzv hzf hzs (by omega) (by rw[List.length_replicate];omega) (by rw[List.length_replicate];omega) (by rw[List.length_replicate])) g1 g2 hz hd
theorem qqp (h:o.op= .call {callee:= .builtin .append,args:=#[x,y],argTypes:=#[t,u]}) (ht:P.underlying t=some (.slice T.tid)) (hi:P.info? T.tid=some i) {zv:Value} (hzv:i.zero=some zv) (hzf:zv.cells.toList.all qah=true) (hzs:zv.cells.size=i.size)
  (hsz:i.size=T.sz) (hpos:0<T.sz) (hby:i.bytes≤32768) (hu:(∃e',P.underlying u=some (.slice e'))∨P.underlying u=some .string) (hx:ρ x=v) (hs:Ow T z m xs v) (hy:ρ y=w) (hsrc:Src T z m ys w)
  (hz:Fz z m) (hd:∀b,m.next≤b→m.blk b= .dead) {r:List α} (hr:appI xs ys=some r):
  ∃v' m',EffR P C ρ o m v' m'∧Ow T z m' r v'∧Same m m' (qag v)∧∀b,qag v'=some b→qag v=some b∨m.next≤b:=by
 obtain ⟨hlim,rfl⟩:=qa0 hr
 simp only[LIM] at hlim
 have:(xs.length+ys.length)*i.bytes≤4294967296*32768:=Nat.mul_le_mul hlim hby
 exact qnH h ht hi hzv hzf hzs hsz hpos (by omega) (by omega) hu hx hs hy hsrc hz hd
theorem qwM {x0:α} {k k':IntKind} {n n':Int} (h:o.op= .makeSlice t x y) (ht:P.underlying t=some (.slice T.tid)) (hi:P.info? T.tid=some i) {zv:Value} (hzv:i.zero=some zv) (hzf:zv.cells.toList.all qah=true) (hzs:zv.cells.size=i.size) (hsz:i.size=T.sz) (hby:i.bytes≤32768)
  (hrd:T.rd z x0 zv.cells.toList) (hx:ρ x= .int k n) (hy:ρ y= .int k' n) (hz:Fz z m) {r:List α} (hr:mkI x0 n=some r):
  ∃L v,NewR P ρ o m.next (.own L T.tid) v∧Ow T z (m.push (.own L T.tid)) r v∧qag v=some m.next:=by
 obtain ⟨h0,h1,rfl⟩:=qdo hr
 obtain ⟨c,rfl⟩:=Int.eq_ofNat_of_zero_le h0
 have hnz:z m.next= .dead:=by
  cases hzz:z m.next with
  |dead=>rfl
  |ro rd=>have:=(hz m.next (by rw[hzz];simp)).2;omega
  |own L t=>have:=(hz m.next (by rw[hzz];simp)).2;omega
  |map L t=>have:=(hz m.next (by rw[hzz];simp)).2;omega
  |lock _ _ _ _=>have:=(hz m.next (by rw[hzz];simp)).2;omega
 have hlen:zv.cells.toList.length=T.sz:=by simp[hzs,hsz]
 have hfl:(List.replicate c zv.cells.toList).flatten.length=c*T.sz:=by simp[hzs,hsz]
 refine ⟨_,_, .makeSlice t x y c c k k' T.tid i zv h ht hi hzv hzf hzs hx hy (Nat.le_refl _) ?_ (by omega), ?_,rfl⟩
 ·have:i.bytes*c≤32768*4294967296:=Nat.mul_le_mul hby (by omega)
  omega
 ·simp only[Int.toNat_natCast]
  refine Ow.at0 ⟨m.next,(List.replicate c zv.cells.toList).flatten,c,by simp,by simp[Mem.push],by simp[Mem.push],hnz,by rw[hfl];simp, .inr ⟨by simp[BIG];omega,by simp,by rw[hfl];exact Nat.le_refl _⟩,fun j a ha=> ?_⟩
  have hj:=(List.getElem?_eq_some_iff.1 ha).1
  have hax:a=x0:=by have:=(List.getElem?_eq_some_iff.1 ha).2;simpa using this.symm
  subst hax
  refine ⟨_,hrd,fun q u hq=> ?_⟩
  have hql:=(List.getElem?_eq_some_iff.1 hq).1
  rw[hlen] at hql
  have key:∀(c j:Nat),j<c→((List.replicate c zv.cells.toList).flatten)[j*T.sz+q]? =zv.cells.toList[q]? :=by
   intro c
   induction c with
   |zero=>intro j hj;omega
   |succ c ih=>
    intro j hj
    rw[List.replicate_succ,List.flatten_cons]
    cases j with
    |zero=>rw[Nat.zero_mul,Nat.zero_add,List.getElem?_append_left (by rw[hlen];exact hql)]
    |succ j=>
     rw[Nat.add_mul,Nat.one_mul,List.getElem?_append_right (by rw[hlen];omega),hlen,show j*T.sz+T.sz+q - T.sz=j*T.sz+q by omega]
     exact ih j (by omega)
  rw[key c j (by simpa using hj)]
  exact hq
def qcT (T:Ty α) (z:Nat→Blk) (ρ:Operand→Value):List (Nat×Operand)→Nat→List α→List (List Value)→Prop
 |[],_,[],[]=>True
 |(k,x)::ps,n,a::as,c::cs=>k=n∧storable (ρ x)=true∧(ρ x).cells.toList=c∧T.rd z a c∧qcT T z ρ ps (n+1) as cs
 |_,_,_,_=>False
theorem qkz:∀(new A B D:List Value),new.length=B.length→setN (A++B++D) A.length new=A++new++D
 |[],A,B,D,h=>by
  have:B=[]:=List.eq_nil_of_length_eq_zero h.symm
  subst this;simp[setN]
 |v::new,A,b::B,D,h=>by
  have e:(A++(b::B)++D).set A.length v=(A++[v])++B++D:=by simp
  simp only[setN,e]
  have:=qkz new (A++[v]) B D (by simpa using h)
  simp only[List.length_append,List.length_cons,List.length_nil,Nat.zero_add] at this
  rw[this];simp
 |_::_,A,[],D,h=>by simp at h
theorem qft:∀(ps:List (Nat×Operand)) (n:Nat) (as:List α) (css:List (List Value)) (A D:List Value),qcT T z ρ ps n as css→A.length=n*T.sz→D.length=as.length*T.sz→
  qbA (fun k=>some (k*T.sz,T.sz)) (A++D) (ps.map fun p=>(p.1,ρ p.2))=some (A++css.flatten)
 |[],n,[],[],A,D,_,_,hD=>by
  have:D=[]:=List.eq_nil_of_length_eq_zero (by simpa using hD)
  subst this
  simp[qbA]
 |(k,x)::ps,n,a::as,c::css,A,D,h,hA,hD=>by
  obtain ⟨rfl,h1,h2,h3,h4⟩:=h
  have hc:=T.len z a c h3
  have hsz:(ρ x).cells.size=T.sz:=by rw[←hc,←h2];simp
  simp only[List.length_cons,Nat.add_mul,Nat.one_mul] at hD
  simp only[List.map_cons,qbA,h1,hsz,true_and,List.length_append]
  rw[if_pos (by omega),h2,←hA]
  have hsplit:A++D=A++D.take T.sz++D.drop T.sz:=by rw[List.append_assoc,List.take_append_drop]
  rw[hsplit,qkz c A (D.take T.sz) (D.drop T.sz) (by rw[hc,List.length_take];omega)]
  rw[qft ps (k+1) as css (A++c) (D.drop T.sz) h4 (by rw[List.length_append,hA,hc,Nat.add_mul,Nat.one_mul]) (by rw[List.length_drop];omega)]
  simp
 |[],_,_::_,_,_,_,h,_,_=>h.elim
 |[],_,[],_::_,_,_,h,_,_=>h.elim
 |_::_,_,[],_,_,_,h,_,_=>h.elim
 |_::_,_,_::_,[],_,_,h,_,_=>h.elim
theorem qhD:∀(ps:List (Nat×Operand)) (n:Nat) (as:List α) (css:List (List Value)),qcT T z ρ ps n as css→css.flatten.length=as.length*T.sz∧∀(i:Nat) (a:α),as[i]? =some a→∃c,T.rd z a c∧qbs css.flatten (i*T.sz) c
 |[],n,[],[],_=>⟨by simp,fun i a ha=>by simp at ha⟩
 |(k,x)::ps,n,a::as,c::css,h=>by
  obtain ⟨rfl,h1,h2,h3,h4⟩:=h
  have hc:=T.len z a c h3
  obtain ⟨g1,g2⟩:=qhD ps (k+1) as css h4
  refine ⟨by simp only[List.flatten_cons,List.length_append,g1,hc,List.length_cons,Nat.add_mul,Nat.one_mul];omega,fun i b hb=> ?_⟩
  cases i with
  |zero=>
   simp at hb
   subst hb
   refine ⟨c,h3,fun q u hq=> ?_⟩
   have:=(List.getElem?_eq_some_iff.1 hq).1
   rw[List.flatten_cons,Nat.zero_mul,Nat.zero_add,List.getElem?_append_left this];exact hq
  |succ i=>
   obtain ⟨c',k1,k2⟩:=g2 i b (by simpa using hb)
   refine ⟨c',k1,fun q u hq=> ?_⟩
   rw[List.flatten_cons,Nat.add_mul,Nat.one_mul,List.getElem?_append_right (by omega),hc,show i*T.sz+T.sz+q - T.sz=i*T.sz+q by omega]
   exact k2 q u hq
 |[],_,_::_,_,h=>h.elim
 |[],_,[],_::_,h=>h.elim
 |_::_,_,[],_,h=>h.elim
 |_::_,_,_::_,[],h=>h.elim
theorem qsB {ps:Array (Nat×Operand)} {l:Nat} {as:List α} {css:List (List Value)} (h:o.op= .buildSlice t l ps) (ht:P.underlying t=some (.slice T.tid)) (hi:P.info? T.tid=some i) {zv:Value} (hzv:i.zero=some zv) (hzf:zv.cells.toList.all qah=true) (hzs:zv.cells.size=i.size) (hsz:i.size=T.sz)
  (hl:as.length=l) (h24:l*T.sz≤16777216) (hl63:l<9223372036854775808) (hb:qcT T z ρ ps.toList 0 as css) (hz:Fz z m):
  ∃L v,NewR P ρ o m.next (.own L T.tid) v∧Ow T z (m.push (.own L T.tid)) as v∧qag v=some m.next:=by
 have hnz:z m.next= .dead:=by
  cases hzz:z m.next with
  |dead=>rfl
  |ro rd=>have:=(hz m.next (by rw[hzz];simp)).2;omega
  |own L t=>have:=(hz m.next (by rw[hzz];simp)).2;omega
  |map L t=>have:=(hz m.next (by rw[hzz];simp)).2;omega
  |lock _ _ _ _=>have:=(hz m.next (by rw[hzz];simp)).2;omega
 have hf:=qft ps.toList 0 as css [] (List.replicate l zv.cells.toList).flatten hb (by simp) (by simp[hzs,hsz,hl])
 obtain ⟨g1,g2⟩:=qhD ps.toList 0 as css hb
 refine ⟨css.flatten,_, .buildSlice t l ps T.tid i zv _ h ht hi hzv hzf hzs (by rw[hsz];exact h24) hl63 (by rw[hsz];simpa using hf), ?_,rfl⟩
 exact Ow.at0 ⟨m.next,css.flatten,l,by rw[hl],by simp[Mem.push],by simp[Mem.push],hnz,by rw[g1];exact Nat.le_refl _, .inr ⟨by simp only[BIG];omega,by omega,by rw[g1,hl];exact Nat.le_refl _⟩,g2⟩
theorem qsC {s:List UInt8} {tid:TypeId} (h:o.op= .convert u t x) (hu:P.underlying u=some .string) (ht:P.underlying t=some (.slice tid)) (he:P.underlying tid=some (.int .u8)) (hi:P.info? tid=some i) (hi1:i.size=1) (hx:ρ x=str s) (hl:s.length<9223372036854775807) (hz:Fz z m):
  ∃L v,NewR P ρ o m.next (.own L tid) v∧Ow (TU8 tid) z (m.push (.own L tid)) s v∧qag v=some m.next:=by
 have hnz:z m.next= .dead:=by
  cases hzz:z m.next with
  |dead=>rfl
  |ro rd=>have:=(hz m.next (by rw[hzz];simp)).2;omega
  |own L t=>have:=(hz m.next (by rw[hzz];simp)).2;omega
  |map L t=>have:=(hz m.next (by rw[hzz];simp)).2;omega
  |lock _ _ _ _=>have:=(hz m.next (by rw[hzz];simp)).2;omega
 refine ⟨_,_, .bytes u t x tid i ⟨s.toArray⟩ h hu ht he hi hi1 hx (by rw[qcN];exact hl), ?_,rfl⟩
 refine Ow.at0 ⟨m.next,s.map fun u=> .int .u8 u.toNat,BIG,by rw[qcN],by simp[Mem.push,TU8,Ty.flat],by simp[Mem.push],hnz,by simp[TU8,Ty.flat], .inl rfl,fun k a ha=>⟨[.int .u8 a.toNat],rfl,fun q w hq=> ?_⟩⟩
 cases q with
 |zero=>simp at hq;subst hq;simp[TU8,Ty.flat,ha]
 |succ q=>simp at hq
theorem rStr {s:List UInt8} {tid:TypeId} (h:o.op= .convert t u x) (ht:P.underlying t=some (.slice tid)) (he:P.underlying tid=some (.int .u8)) (hu:P.underlying u=some .string) (hx:ρ x=v) (hs:Src (TU8 tid) z m s v) (hv:∃a l c,v= .slice a l c):ReadR P ρ o m (str s):=by
 obtain ⟨a,l,c,rfl⟩:=hv
 obtain ⟨hl,cs,hel,hcl,hrd⟩:=hs
 have hcs:cs=s.map fun u=> .int .u8 u.toNat:=by
  apply List.ext_getElem?
  intro k
  by_cases hk:k<s.length
  ·obtain ⟨c',g1,g2⟩:=hrd k s[k] (by simp[hk])
   have g1:c'=[.int .u8 s[k].toNat]:=g1
   subst g1
   have:=g2 0 _ rfl
   simp only[TU8,Ty.flat,Nat.mul_one,Nat.add_zero] at this
   simp[this,hk]
  ·have:cs.length≤k:=by rw[hcl];simp only[TU8,Ty.flat];omega
   simp[List.getElem?_eq_none this,hk]
 subst hcs
 simp only[lenV] at hl
 subst hl
 cases a with
 |none=>
  simp only[elems,Option.some.injEq] at hel
  have:s=[]:=by simpa using hel.symm
  subst this
  exact .strNil t u x tid _ c h ht he hu hx
 |some a=>
  obtain ⟨b,off,spot⟩:=a
  cases spot with
  |some q=>simp[elems] at hel
  |none=>
   simp only[elems,TU8,Ty.flat,Nat.mul_one] at hel
   exact .str t u x tid b off _ c s h ht he hu hx hel
end
def qdR:Op→Bool
 | .load .. | .convert .. | .slice .. | .lookup .. =>true
 |_=>false
def qdm:Op→Bool
 | .alloc _| .box .. | .buildSlice .. | .makeSlice .. | .convert .. | .makeMap .. =>true
 |_=>false
def calm (ops:Array Oper):Bool:=
 (List.range ops.size).all fun e=>match ops[e]? with
  |none=>true
  |some oe=> !qbl oe.op||(List.range ops.size).all fun r=>match ops[r]? with
   |none=>true
   |some or=>(!(qdR or.op)||(if r<e then anc (Region.before ops) e r else if e<r then anc (Region.before ops) r e else true))&&(!(qdm or.op)||(if r<e then anc (Region.before ops) e r else true))
theorem qcH {P:Program} {ρ:Operand→Value} {o:Oper} {m:Mem} {v:Value} (h:ReadR P ρ o m v):qdR o.op=true:=by
 cases h<;>simp[*,qdR]
theorem qco {P:Program} {ρ:Operand→Value} {o:Oper} {n:Nat} {X:Blk} {v:Value} (h:NewR P ρ o n X v):qdm o.op=true:=by
 cases h<;>simp[*,qdm]
theorem qhF {ops:Array Oper} (h:calm ops=true) {e r:Nat} {oe or:Oper} (he:ops[e]? =some oe) (hr:ops[r]? =some or) (hE:qbl oe.op=true) (hl:qdR or.op=true):(r<e→anc (Region.before ops) e r=true)∧(e<r→anc (Region.before ops) r e=true):=by
 simp only[calm,List.all_eq_true,List.mem_range] at h
 have h1:=h e (Array.getElem?_eq_some_iff.1 he).1
 simp only[he,hE,Bool.not_true,Bool.false_or,List.all_eq_true,List.mem_range] at h1
 have h2:=h1 r (Array.getElem?_eq_some_iff.1 hr).1
 simp only[hr,hl,Bool.not_true,Bool.false_or,Bool.and_eq_true] at h2
 refine ⟨fun hlt=> ?_,fun hlt=> ?_⟩
 ·have:=h2.1;rw[if_pos hlt] at this;exact this
 ·have:=h2.1;rw[if_neg (by omega),if_pos hlt] at this;exact this
theorem qly {ops:Array Oper} (h:calm ops=true) {e r:Nat} {oe or:Oper} (he:ops[e]? =some oe) (hr:ops[r]? =some or) (hE:qbl oe.op=true) (hl:qdm or.op=true) (hlt:r<e):anc (Region.before ops) e r=true:=by
 simp only[calm,List.all_eq_true,List.mem_range] at h
 have h1:=h e (Array.getElem?_eq_some_iff.1 he).1
 simp only[he,hE,Bool.not_true,Bool.false_or,List.all_eq_true,List.mem_range] at h1
 have h2:=h1 r (Array.getElem?_eq_some_iff.1 hr).1
 simp only[hr,hl,Bool.not_true,Bool.false_or,Bool.and_eq_true] at h2
 have:=h2.2;rw[if_pos hlt] at this;exact this
theorem qeG {P:Program} {C:FuncId→Array Value→Mem→Value→Mem→Prop} {ops:Array Oper} (hc:calm ops=true):∀(l pre:List Oper) (A:Acc) (fr fr':Nat→Value) (m m':Mem),ops.toList=pre++l→
  (∀x∈A.reads,∃o,ops[x.1]? =some o∧qdR o.op=true∧x.1<pre.length)→(∀x∈A.effs,∃o,ops[x.1]? =some o∧qbl o.op=true∧x.1<pre.length)→(∀x∈A.news,∃o,ops[x.1]? =some o∧qdm o.op=true∧x.1<pre.length)→
  seqR P C ops.toList l fr m fr' m'→qaK P C ops.toList (Region.before ops) pre.length l A fr m fr' m'
 |[],pre,A,fr,fr',m,m',hp,h1,h2,h3,h=>h
 |o::l,pre,A,fr,fr',m,m',hp,h1,h2,h3,h=>by
  have ho:ops[pre.length]? =some o:=by rw[←Array.getElem?_toList,hp];simp
  have hp':ops.toList=(pre++[o])++l:=by rw[hp];simp
  have hlen:(pre++[o]).length=pre.length+1:=by simp
  have up:∀{β:Type} {p:Oper→Bool} {L:List (Nat×β)},(∀x∈L,∃o,ops[x.1]? =some o∧p o=true∧x.1<pre.length)→∀x∈L,∃o,ops[x.1]? =some o∧p o=true∧x.1<pre.length+1:=fun hh x hx=>by
   obtain ⟨q,a,b,c⟩:=hh x hx
   exact ⟨q,a,b,by omega⟩
  have rec_:=fun (A:Acc) (fr:Nat→Value) (m:Mem)=>qeG (P:=P) (C:=C) hc l (pre++[o]) A fr fr' m m' hp'
  rw[hlen] at rec_
  simp only[seqR] at h
  simp only[qaK]
  split at h
  ·rename_i hw
   rw[if_pos hw]
   obtain ⟨v,m1,hs,hr⟩:=h
   cases hs with
   |pure hq=>exact .inl ⟨v,hq,rec_ A _ _ (up (p:=fun o=>qdR o.op) h1) (up (p:=fun o=>qbl o.op) h2) (up (p:=fun o=>qdm o.op) h3) hr⟩
   |read hq=>
    have hlk:=qcH hq
    refine .inr (.inl ⟨v,hq,fun x hx ha=> ?_,rec_ _ _ _ ?_ (up (p:=fun o=>qbl o.op) h2) (up (p:=fun o=>qdm o.op) h3) hr⟩)
    ·obtain ⟨q,g1,g2,g3⟩:=h2 x hx
     have:=(qhF hc g1 ho g2 hlk).2 g3
     rw[ha] at this;cases this
    ·intro x hx
     rcases List.mem_cons.1 hx with rfl|hx
     ·exact ⟨o,ho,hlk,Nat.lt_succ_self _⟩
     ·exact up (p:=fun o=>qdR o.op) h1 x hx
   |new hq=>
    refine .inr (.inr (.inl ⟨_,v,hq,rec_ _ _ _ (up (p:=fun o=>qdR o.op) h1) (up (p:=fun o=>qbl o.op) h2) ?_ hr⟩))
    intro x hx
    rcases List.mem_cons.1 hx with rfl|hx
    ·exact ⟨o,ho,qco hq,Nat.lt_succ_self _⟩
    ·exact up (p:=fun o=>qdm o.op) h3 x hx
   |eff hq=>
    have hef:=qeH hq
    refine .inr (.inr (.inr ⟨v,m1,hq,fun x hx ha=> ?_,fun x hx ha=> ?_,rec_ _ _ _ (up (p:=fun o=>qdR o.op) h1) ?_ (up (p:=fun o=>qdm o.op) h3) hr⟩))
    ·obtain ⟨q,g1,g2,g3⟩:=h1 x hx
     have:=(qhF hc ho g1 hef g2).1 g3
     rw[ha] at this;cases this
    ·obtain ⟨q,g1,g2,g3⟩:=h3 x hx
     have:=qly hc ho g1 hef g2 g3
     rw[ha] at this;cases this
    ·intro x hx
     rcases List.mem_cons.1 hx with rfl|hx
     ·exact ⟨o,ho,hef,Nat.lt_succ_self _⟩
     ·exact up (p:=fun o=>qbl o.op) h2 x hx
  ·rename_i hw
   rw[if_neg hw]
   exact rec_ A _ _ (up (p:=fun o=>qdR o.op) h1) (up (p:=fun o=>qbl o.op) h2) (up (p:=fun o=>qdm o.op) h3) h
theorem W.calm {P:Program} {id:Nat} {ops:Array Oper} {Q:AExit→(Nat→Value)→Mem→Prop} {fr:Nat→Value} {m:Mem} (hc:AM.calm ops=true) (h:SeqW P ops.toList ops.toList (Q .normal) fr m):W P (.region id ops true) Q fr m:=by
 obtain ⟨n,fr',m',h1,h2⟩:=h
 refine W.draw ⟨n,fr',m', ?_,h2⟩
 have:=qeG (P:=P) (C:=qba P n) hc ops.toList [] ⟨[],[],[]⟩ fr fr' m m' (by simp) (by simp) (by simp) (by simp) h1
 simpa using this
end Go.AM
end
section
set_option linter.unusedSimpArgs false
set_option linter.unusedVariables false
namespace Go.AM
def sub:Code→List Nat→Code
 |c,[]=>c
 | .seq a b,0::p=>sub a p
 | .seq a b,_::p=>sub b p
 | .cond _ a b,0::p=>sub a p
 | .cond _ a b,_::p=>sub b p
 | .block _ c,_::p=>sub c p
 | .scope c,_::p=>sub c p
 | .loop c,_::p=>sub c p
 |c,_=>c
def qab (f:Func):Code:=f.body.getD .skip
theorem qkB {fr:Nat→Value} {d:Option Tmp} {v:Value} {i:Nat} (h:d≠some i):set fr d v i=fr i:=by
 cases d with
 |none=>rfl
 |some t=>simp only[set];rw[if_neg];rintro rfl;exact h rfl
theorem qdz {P:Program} {C:FuncId→Array Value→Mem→Value→Mem→Prop} {ops:List Oper} {i:Nat}:∀(l:List Oper) (fr fr':Nat→Value) (m m':Mem),(∀o∈l,o.dst≠some i)→seqR P C ops l fr m fr' m'→fr' i=fr i
 |[],fr,fr',m,m',_,h=>by rw[h.1]
 |o::l,fr,fr',m,m',hw,h=>by
  have hw':∀o∈l,o.dst≠some i:=fun o ho=>hw o (by simp[ho])
  simp only[seqR] at h
  split at h
  ·obtain ⟨v,m1,_,h⟩:=h
   rw[qdz l _ _ _ _ hw' h];exact qkB (hw o (by simp))
  ·rw[qdz l _ _ _ _ hw' h];exact qkB (hw o (by simp))
theorem qdI {P:Program} {C:FuncId→Array Value→Mem→Value→Mem→Prop} {ops:List Oper} {B:Array Nat} {i:Nat}:∀(l:List Oper) (n:Nat) (A:Acc) (fr fr':Nat→Value) (m m':Mem),(∀o∈l,o.dst≠some i)→qaK P C ops B n l A fr m fr' m'→fr' i=fr i
 |[],n,A,fr,fr',m,m',_,h=>by rw[h.1]
 |o::l,n,A,fr,fr',m,m',hw,h=>by
  have hw':∀o∈l,o.dst≠some i:=fun o ho=>hw o (by simp[ho])
  have h1:=hw o (by simp)
  simp only[qaK] at h
  split at h
  ·rcases h with ⟨v,_,h⟩|⟨v,_,_,h⟩|⟨X,v,_,h⟩|⟨v,m1,_,_,_,h⟩<;>(rw[qdI l _ _ _ _ _ _ hw' h];exact qkB h1)
  ·rw[qdI l _ _ _ _ _ _ hw' h];exact qkB h1
theorem qiN {ops:Array Oper} {i:Nat} (h:(dsts ops).contains i=false):∀o∈ops.toList,o.dst≠some i:=by
 intro o ho he
 have:i∈dsts ops:=List.mem_filterMap.2 ⟨o,ho,he⟩
 simp[this] at h
theorem qd2 {a b:List Nat} {i:Nat} (h:(a++b).contains i=false):a.contains i=false∧b.contains i=false:=by
 simpa using h
theorem qdG {P:Program} {C:FuncId→Array Value→Mem→Value→Mem→Prop} {i:Nat}:∀(n:Nat) (c:Code) (fr fr':Nat→Value) (m m':Mem) (e:AExit),(qaT c).contains i=false→qbY P C n c fr m e fr' m'→fr' i=fr i:=by
 intro n
 induction n with
 |zero=>intro c fr fr' m m' e _ h;exact h.elim
 |succ n ih=>
  intro c fr fr' m m' e hw h
  cases c with
  |skip=>rw[h.2.1]
  |label l=>rw[h.2.1]
  |exit id=>rw[h.2.1]
  |ret=>rw[h.2.1]
  |region id ops d=>
   cases d with
   |false=>exact qdz _ _ _ _ _ (qiN hw) h.2
   |true=>exact qdI _ _ _ _ _ _ _ (qiN hw) h.2
  |seq a b=>
   rcases h with ⟨e1,fr1,m1,g1,g2⟩|h
   rotate_left
   ·exact h.keep _ hw
   obtain ⟨h1,h2⟩:=qd2 hw
   have k1:=ih _ _ _ _ _ _ h1 g1
   split at g2
   ·rw[ih _ _ _ _ _ _ h2 g2,k1]
   ·rw[g2.2.1,k1]
  |cond c a b=>
   obtain ⟨h1,h2⟩:=qd2 hw
   obtain ⟨t,_,g⟩:=h
   cases t with
   |false=>exact ih _ _ _ _ _ _ h2 g
   |true=>exact ih _ _ _ _ _ _ h1 g
  |block id c=>
   obtain ⟨e1,g,_⟩:=h
   exact ih c _ _ _ _ _ hw g
  |scope c=>exact ih c _ _ _ _ _ hw h
  |loop c=>
   obtain ⟨e1,fr1,m1,g1,g2⟩:=h
   have k1:=ih c _ _ _ _ _ hw g1
   split at g2
   ·rw[ih (.loop c) _ _ _ _ _ hw g2,k1]
   ·rw[g2.2.1,k1]
  |rangeFunc f ps x y=>exact h.elim
  |goto l=>exact h.elim
  |refuse s=>exact h.elim
section
variable {P:Program} {Q Q':AExit→(Nat→Value)→Mem→Prop} {fr:Nat→Value} {m:Mem}
theorem W.keep {c:Code} (h:W P c Q fr m) (hq:∀e fr' m',(∀i,(qaT c).contains i=false→fr' i=fr i)→Q e fr' m'→Q' e fr' m'):W P c Q' fr m:=
 let ⟨n,e,fr',m',h1,h2⟩:=h
 ⟨n,e,fr',m',h1,hq _ _ _ (fun _ hi=>qdG _ _ _ _ _ _ _ hi h1) h2⟩
theorem W.condT {c:Operand} {a b:Code} {t:Bool} (ht:ev fr c= .bool t) (he:t=true) (h:W P a Q fr m):W P (.cond c a b) Q fr m:=W.cond (t:=true) (by rw[ht,he]) h
theorem W.condF {c:Operand} {a b:Code} {t:Bool} (ht:ev fr c= .bool t) (he:t=false) (h:W P b Q fr m):W P (.cond c a b) Q fr m:=W.cond (t:=false) (by rw[ht,he]) h
theorem blockQ.hit {i:Nat} (h:Q .normal fr m):blockQ i Q (.exit i) fr m:=by simp only[blockQ,if_true];exact h
theorem blockQ.miss {i j:Nat} (hij:(j==i)=false) (h:Q (.exit j) fr m):blockQ i Q (.exit j) fr m:=by
 have:j≠i:=by intro h;simp[h] at hij
 simp only[blockQ,if_neg this];exact h
theorem SeqW.mono {ops l:List Oper} {K K':(Nat→Value)→Mem→Prop} (h:SeqW P ops l K fr m) (hk:∀fr m,K fr m→K' fr m):SeqW P ops l K' fr m:=
 let ⟨n,fr',m',h1,h2⟩:=h;⟨n,fr',m',h1,hk _ _ h2⟩
end
structure Zx (n:Nat) (z z':Nat→Blk):Prop where
 le:Zle z z'
 low:∀b,b<n→z' b=z b
theorem Zx.refl {n:Nat} (z:Nat→Blk):Zx n z z:=⟨Zle.refl z,fun _ _=>rfl⟩
theorem Zx.trans {n:Nat} {a b c:Nat→Blk} (h:Zx n a b) (k:Zx n b c):Zx n a c:=⟨h.le.trans k.le,fun i hi=>by rw[k.low i hi,h.low i hi]⟩
theorem Zx.anti {n n':Nat} {a b:Nat→Blk} (h:Zx n a b) (hn:n'≤n):Zx n' a b:=⟨h.le,fun i hi=>h.low i (by omega)⟩
structure Bx (z:Nat→Blk) (e m:Mem) (k:Option Nat) (b:Nat) (cs:List Value) (t:TypeId):Prop where
 blk:m.blk b= .own cs t
 lt:b<m.next
 dead:z b= .dead
 fresh:e.next≤b∨k=some b
structure OwF {α:Type} (T:Ty α) (z:Nat→Blk) (e m:Mem) (k:Option Nat) (xs:List α) (v:Value):Prop where
 ow:Ow T z m xs v
 fresh:∀b,qag v=some b→e.next≤b
section
variable {α:Type} {T:Ty α} {z z':Nat→Blk} {e m m':Mem} {k q:Option Nat} {xs:List α} {v:Value} {b:Nat} {cs:List Value} {t:TypeId}
theorem OwF.same (h:OwF T z e m k xs v) (s:Same m m' q) (ap:Ap (qag v) q):OwF T z e m' k xs v:=⟨h.ow.same s ap,h.fresh⟩
theorem Bx.same (h:Bx z e m k b cs t) (s:Same m m' q) (ap:Ap (some b) q):Bx z e m' k b cs t:=by
 have:=qoh h.blk h.lt s (ap b rfl)
 exact ⟨this.1,this.2,h.dead,h.fresh⟩
theorem OwF.lt (h:OwF T z e m k xs v):∀b,qag v=some b→b<m.next:=fun b hb=>(h.ow.lt b hb).1
theorem OwF.lt2 (h:OwF T z e m k xs v):∀b,qag v=some b→b<m.next∧(m.blk b).mem=m.blk b:=fun b hb=>⟨h.lt b hb,by
 rcases h.ow with ⟨rfl,_⟩|⟨b',o,L,c,rfl,h1,_⟩
 ·cases hb
 ·cases hb;rw[h1];rfl⟩
theorem Ow.zle (h:Ow T z m xs v) (hz:Zle z z') (hb:∀b,qag v=some b→z' b=z b):Ow T z' m xs v:=by
 rcases h with h|⟨b,f0,L,c,rfl,h1,h2,h3,h4,h5,h6⟩
 ·exact .inl h
 ·refine .inr ⟨b,f0,L,c,rfl,h1,h2,by rw[hb b rfl];exact h3,h4,h5,fun i x hi=> ?_⟩
  obtain ⟨cs,g1,g2⟩:=h6 i x hi
  exact ⟨cs,T.mono _ _ hz _ _ g1,g2⟩
theorem OwF.zle (h:OwF T z e m k xs v) (hz:Zle z z') (hb:∀b,qag v=some b→z' b=z b):OwF T z' e m k xs v:=⟨h.ow.zle hz hb,h.fresh⟩
theorem Bx.zle (h:Bx z e m k b cs t) (hb:∀c,some b=some c→z' c=z c):Bx z' e m k b cs t:=⟨h.blk,h.lt,by rw[hb b rfl];exact h.dead,h.fresh⟩
theorem OwF.freeze (h:OwF T z e m k xs v) (st:St z e m k):∃z',Zx e.next z z'∧St z' e m k∧SlR T z' xs v∧∀p,Ap p (qag v)→∀b,p=some b→z' b=z b:=by
 refine ⟨frz z m (qag v),⟨qhU fun b hb=>(h.ow.lt b hb).2,fun b hb=> ?_⟩,⟨qj2 st.fz h.lt2,st.dead,st.dead0,st.next,st.kept⟩,h.ow.toR,fun p hp b hb=> ?_⟩
 ·unfold frz
  rw[if_neg]
  intro hb'
  have:=h.fresh b hb'
  omega
 ·unfold frz
  rw[if_neg (hp b hb)]
theorem Bx.hq (h:Bx z e m k b cs t):∀c,some b=some c→z c= .dead∧(e.next≤c∨k=some c):=fun c hc=>by cases hc;exact ⟨h.dead,h.fresh⟩
theorem OwF.hq (h:OwF T z e m k xs v):∀c,qag v=some c→z c= .dead∧(e.next≤c∨k=some c):=fun c hc=>⟨(h.ow.lt c hc).2, .inl (h.fresh c hc)⟩
theorem OwF.nil:OwF T z e m k [] (.slice none 0 0):=⟨.nil,fun b hb=>by cases hb⟩
variable {P:Program} {C:FuncId→Array Value→Mem→Value→Mem→Prop} {ρ:Operand→Value} {o:Oper} {w:Value} {ys:List α} {x y:Operand} {u:TypeId} {i:TypeInfo}
theorem qqz (h:o.op= .call {callee:= .builtin .append,args:=#[x,y],argTypes:=#[t,u]}) (ht:P.underlying t=some (.slice T.tid)) (hi:P.info? T.tid=some i) {zv:Value} (hzv:i.zero=some zv) (hzf:zv.cells.toList.all qah=true) (hzs:zv.cells.size=i.size)
  (hsz:i.size=T.sz) (hpos:0<T.sz) (hby:i.bytes≤32768) (hu:(∃e',P.underlying u=some (.slice e'))∨P.underlying u=some .string) (hx:ρ x=v) (hs:OwF T z e m k xs v) (hy:ρ y=w) (hsrc:Src T z m ys w)
  (st:St z e m k) {r:List α} (hr:appI xs ys=some r):
  ∃v' m',EffR P C ρ o m v' m'∧St z e m' k∧OwF T z e m' k r v'∧Same m m' (qag v)∧∀p,(∀b,p=some b→b<m.next)→Ap p (qag v)→Ap p (qag v'):=by
 obtain ⟨v',m',h1,h2,h3,h4⟩:=qqp (C:=C) h ht hi hzv hzf hzs hsz hpos hby hu hx hs.ow hy hsrc st.fz st.dead hr
 refine ⟨v',m',h1,st.same h3 hs.hq,⟨h2,fun b hb=> ?_⟩,h3,fun p hp ha b hb hb'=> ?_⟩
 ·rcases h4 b hb with h4|h4
  ·exact hs.fresh b h4
  ·have:=st.next;omega
 ·rcases h4 b hb' with h4|h4
  ·exact ha b hb h4
  ·have:=hp b hb;omega
theorem gOwn {L:List Value} {v':Value} {ys:List α} (st:St z e m k) (h:Ow T z (m.push (.own L t)) ys v') (hb:qag v'=some m.next):
  St z e (m.push (.own L t)) k∧OwF T z e (m.push (.own L t)) k ys v'∧Same m (m.push (.own L t)) none∧∀p,(∀b,p=some b→b<m.next)→Ap p (qag v'):=
 ⟨st.push _,⟨h,fun b hb'=>by rw[hb] at hb';cases hb';exact st.next⟩,qcu st.dead,fun p hp b hb' hb2=>by rw[hb] at hb2;cases hb2;have:=hp _ hb';omega⟩
theorem qwu {x0:α} {k1 k2:IntKind} {n:Int} (h:o.op= .makeSlice t x y) (ht:P.underlying t=some (.slice T.tid)) (hi:P.info? T.tid=some i) {zv:Value} (hzv:i.zero=some zv) (hzf:zv.cells.toList.all qah=true) (hzs:zv.cells.size=i.size) (hsz:i.size=T.sz) (hby:i.bytes≤32768)
  (hrd:T.rd z x0 zv.cells.toList) (hx:ρ x= .int k1 n) (hy:ρ y= .int k2 n) (st:St z e m k) {r:List α} (hr:mkI x0 n=some r):
  ∃v' m' L t',NewR P ρ o m.next (.own L t') v'∧m'=m.push (.own L t')∧St z e m' k∧OwF T z e m' k r v'∧Same m m' none∧∀p,(∀b,p=some b→b<m.next)→Ap p (qag v'):=by
 obtain ⟨L,v',h1,h2,h3⟩:=qwM (n':=n) h ht hi hzv hzf hzs hsz hby hrd hx hy st.fz hr
 exact ⟨v',_,_,_,h1,rfl,gOwn st h2 h3⟩
theorem qsb {ps:Array (Nat×Operand)} {l:Nat} {as:List α} {css:List (List Value)} (h:o.op= .buildSlice t l ps) (ht:P.underlying t=some (.slice T.tid)) (hi:P.info? T.tid=some i) {zv:Value} (hzv:i.zero=some zv) (hzf:zv.cells.toList.all qah=true) (hzs:zv.cells.size=i.size) (hsz:i.size=T.sz)
  (hl:as.length=l) (h24:l*T.sz≤16777216) (hl63:l<9223372036854775808) (hb:qcT T z ρ ps.toList 0 as css) (st:St z e m k):
  ∃v' m' L t',NewR P ρ o m.next (.own L t') v'∧m'=m.push (.own L t')∧St z e m' k∧OwF T z e m' k as v'∧Same m m' none∧∀p,(∀b,p=some b→b<m.next)→Ap p (qag v'):=by
 obtain ⟨L,v',h1,h2,h3⟩:=qsB h ht hi hzv hzf hzs hsz hl h24 hl63 hb st.fz
 exact ⟨v',_,_,_,h1,rfl,gOwn st h2 h3⟩
theorem qsc {s:List UInt8} {tid:TypeId} (h:o.op= .convert u t x) (hu:P.underlying u=some .string) (ht:P.underlying t=some (.slice tid)) (he:P.underlying tid=some (.int .u8)) (hi:P.info? tid=some i) (hi1:i.size=1) (hx:ρ x=str s) (hl:s.length<9223372036854775807) (st:St z e m k):
  ∃v' m' L t',NewR P ρ o m.next (.own L t') v'∧m'=m.push (.own L t')∧St z e m' k∧OwF (TU8 tid) z e m' k s v'∧Same m m' none∧∀p,(∀b,p=some b→b<m.next)→Ap p (qag v'):=by
 obtain ⟨L,v',h1,h2,h3⟩:=qsC h hu ht he hi hi1 hx hl st.fz
 exact ⟨v',_,_,_,h1,rfl,gOwn st h2 h3⟩
theorem qlV {L:List Value} (st:St z e m k):St z e (m.push (.own L t)) k∧Bx z e (m.push (.own L t)) k m.next L t∧Same m (m.push (.own L t)) none∧∀p,(∀b,p=some b→b<m.next)→Ap p (some m.next):=by
 refine ⟨st.push _,⟨by simp[Mem.push],Nat.lt_succ_self _, ?_, .inl st.next⟩,qcu st.dead,fun p hp b hb' hb2=>by cases hb2;have:=hp _ hb';omega⟩
 cases hzz:z m.next with
 |dead=>rfl
 |ro rd=>have:=(st.fz m.next (by rw[hzz];simp)).2;omega
 |own L t=>have:=(st.fz m.next (by rw[hzz];simp)).2;omega
 |map L t=>have:=(st.fz m.next (by rw[hzz];simp)).2;omega
 |lock _ _ _ _=>have:=(st.fz m.next (by rw[hzz];simp)).2;omega
theorem gPut {off:Nat} {new cs':List Value} {te:TypeId} (h:o.op= .store t x y) (hi:P.info? t=some i) (hx:ρ x= .pointer (some ⟨b,off,none⟩)) (hy:ρ y=w) (hv:storable w=true) (hn:w.cells.toList=new) (hs:new.length=i.size) (hb:Bx z e m k b cs te) (hl:off+new.length≤cs.length) (hcs:setN cs off new=cs') (st:St z e m k):
  ∃m',EffR P C ρ o m undef m'∧St z e m' k∧Bx z e m' k b cs' te∧Same m m' (some b):=by
 subst hy hcs
 have hs':=qdy (x:= .own (setN cs off new) te) st.dead hb.lt
 exact ⟨_,(qpy h hi hx hb.blk hv hn hs hl),st.same hs' hb.hq,⟨by simp[Mem.put],hb.lt,hb.dead,hb.fresh⟩,hs'⟩
theorem gSet {off f0 n f l c:Nat} {new ecs ecs':List Value} {a a':α} (h:o.op= .store t x y) (hi:P.info? t=some i) (hx:ρ x= .pointer (some ⟨b,off,none⟩)) (hoff:off=f0+n*T.sz+f) (hy:ρ y=w) (hv:storable w=true) (hn:w.cells.toList=new) (hs:new.length=i.size)
  (ho:OwF T z e m k xs v) (hvb:v= .slice (some ⟨b,f0,none⟩) l c) (ha:xs[n]? =some a) (hr:T.rd z a ecs) (hc:∀(i:Nat) (u:Value),ecs[i]? =some u→m.load b (f0+n*T.sz+i)=some u) (hr':T.rd z a' ecs') (hcs:ecs'=setN ecs f new) (hf:f+new.length≤ecs.length) (st:St z e m k):
  ∃m',EffR P C ρ o m undef m'∧St z e m' k∧OwF T z e m' k (xs.set n a') v∧Same m m' (qag v):=by
 subst hy hoff
 obtain ⟨L,g1,g2,g3,g4⟩:=ho.ow.store st.dead hvb ha hr ⟨b,_,rfl,hc⟩ hr' hcs hf
 have hbv:qag v=some b:=by rw[hvb];rfl
 refine ⟨_,(qpy h hi hx g1 hv hn hs g2),st.same g4 (by rw[←hbv];exact ho.hq),⟨g3,ho.fresh⟩,by rw[hbv];exact g4⟩
theorem qwt {k1:IntKind} {n:Int} {a:α} {te:TypeId} (h:o.op= .indexAddr t x y) (ht:P.underlying t=some (.slice te)) (hi:P.info? te=some i) (hsz:i.size=T.sz) (hx:ρ x=v) (hy:ρ y= .int k1 n) (hs:SlR T z xs v) (hg:getI xs n=some a):
  ∃b off cs,PureR P ρ o (.pointer (some ⟨b,off,none⟩))∧T.rd z a cs∧qa1 z b off cs:=by
 obtain ⟨p,cs,h1,h2,b,off,rfl,h3⟩:=qwX h ht hi hsz hx hy hs hg
 exact ⟨b,off,cs,h1,h2,h3⟩
theorem qws {k1:IntKind} {n:Int} {a:α} {te:TypeId} (h:o.op= .indexAddr t x y) (ht:P.underlying t=some (.slice te)) (hi:P.info? te=some i) (hsz:i.size=T.sz) (hx:ρ x=v) (hy:ρ y= .int k1 n) (hs:OwF T z e m k xs v) (hg:getI xs n=some a):
  ∃b f0 l c cs,PureR P ρ o (.pointer (some ⟨b,f0+n.toNat*T.sz,none⟩))∧v= .slice (some ⟨b,f0,none⟩) l c∧T.rd z a cs∧∀(j:Nat) (u:Value),cs[j]? =some u→m.load b (f0+n.toNat*T.sz+j)=some u:=by
 obtain ⟨p,cs,h1,h2,h3,b,f0,l,c,rfl,rfl⟩:=qwW h ht hi hsz hx hy hs.ow hg
 obtain ⟨b2,o2,h4,h5⟩:=h3
 cases h4
 exact ⟨b,f0,l,c,cs,h1,rfl,h2,h5⟩
theorem qlW {n:Nat} {fs:Array Field} {f:Field} {off:Nat} (h:o.op= .fieldAddr t x n) (ht:P.underlying t=some (.struct fs)) (hf:fs[n]? =some f) (hi:P.info? f.type=some i) (hs:(i.size==0)=false) (hx:ρ x= .pointer (some ⟨b,off,none⟩)):
  PureR P ρ o (.pointer (some ⟨b,off+f.offset,none⟩)):= .fieldAddr t x n fs f i b off h ht hf hi (by intro h0;rw[h0] at hs;cases hs) hx
theorem qsd {off:Nat} {d:TypeDesc} (h:o.op= .load t x) (ht:P.underlying t=some d) (hd:aggT d=false) (hx:ρ x= .pointer (some ⟨b,off,none⟩)) (hv:m.load b off=some v):ReadR P ρ o m v:= .load t x b off d v h hx ht hd hv
theorem qse {off:Nat} {d:TypeDesc} (h:o.op= .load t x) (ht:P.underlying t=some d) (hd:aggT d=true) (hi:P.info? t=some i) (hs:cs.length=i.size) (hx:ρ x= .pointer (some ⟨b,off,none⟩)) (hv:∀(j:Nat) (u:Value),cs[j]? =some u→m.load b (off+j)=some u):ReadR P ρ o m (.agg cs.toArray):=
 .loadA t x b off d i cs h hx ht hd hi (qkr _ _ _ hs hv)
theorem Bx.load (h:Bx z e m k b cs t) {off:Nat} (hv:cs[off]? =some v):m.load b off=some v:=by simp only[Mem.load,h.blk];exact hv
theorem Bx.loads (h:Bx z e m k b cs t):∀(j:Nat) (u:Value),cs[j]? =some u→m.load b (0+j)=some u:=fun j u hj=>by rw[Nat.zero_add];exact h.load hj
theorem St.loads (st:St z e m k) {off:Nat} (h:qa1 z b off cs):∀(j:Nat) (u:Value),cs[j]? =some u→m.load b (off+j)=some u:=fun j u hj=>qka st.fz (h j u hj)
end
theorem qjW {args:Array Value} {n i:Nat} {v:Value} (h:args.toList[i]? =some v):(args++Array.replicate n undef).getD i undef=v:=by
 have h1:args[i]? =some v:=by rw[←Array.getElem?_toList];exact h
 have hlt:=(Array.getElem?_eq_some_iff.1 h1).1
 rw[Array.getD_eq_getD_getElem?,Array.getElem?_append_left hlt,h1];rfl
theorem qn1 {n:Nat} {v:Value} (h:flat v=true):low n v:=qgo h
theorem CallW.flat {P:Program} {f:FuncId} {fn:Func} {c:Code} {args:Array Value} {z:Nat→Blk} {m:Mem} {r:Value} (hf:P.funcs[f]? =some fn) (hb:fn.body=some c) (hok:okFn P f=true) (hsz:args.size≤fn.ntmps) (hr:AM.flat r=true)
  (h:∀fr,(∀i v,args.toList[i]? =some v→fr i=v)→W P c (fun e fr m1=>(e= .normal∨e= .ret)∧∃z',St z' m m1 none∧∃vs,qaV P fr m1 fn.results.toList vs∧(vs.length=1∨∀x∈vs,storable x=true)∧pack vs=r) fr m):CallW P f args m fun v m'=>v=r∧m'=m:=by
 refine CallW.enter hf hb hok hsz ((h _ fun i v hi=>qjW hi).mono ?_)
 rintro e fr m1 ⟨he,z',st,vs,h1,h2,h3⟩
 refine ⟨he,vs,h1,h2, .inr ⟨⟨h3,st.trunc_eq⟩,by rw[h3];exact qn1 hr,fun b hb=> .inl (st.kept b hb (by simp))⟩⟩
theorem CallW.any {P:Program} {f:FuncId} {fn:Func} {c:Code} {args:Array Value} {m:Mem} {R:Value→Mem→Prop} (hf:P.funcs[f]? =some fn) (hb:fn.body=some c) (hok:okFn P f=true) (hsz:args.size≤fn.ntmps)
  (h:∀fr,(∀i v,args.toList[i]? =some v→fr i=v)→W P c (fun e fr m1=>(e= .normal∨e= .ret)∧∃vs,qaV P fr m1 fn.results.toList vs∧(vs.length=1∨∀x∈vs,storable x=true)∧R (pack vs) m1) fr m):CallW P f args m R:=by
 refine CallW.enter hf hb hok hsz ((h _ fun i v hi=>qjW hi).mono ?_)
 rintro e fr m1 ⟨he,vs,h1,h2,h3⟩
 exact ⟨he,vs,h1,h2, .inl h3⟩
end Go.AM
end
section
set_option linter.unusedSimpArgs false
set_option linter.unusedVariables false
namespace Go.AM
inductive Tag where
 |pure
 |read (I:Mem→Prop)
 |new
 |eff
def StepX (P:Program) (ρ:Operand→Value) (o:Oper) (m:Mem) (D:Tag→Value→Mem→Prop):Prop:=
 (∃v,PureR P ρ o v∧D .pure v m)∨(∃v I,PureR P ρ o v∧D (.read I) v m)∨(∃v,ReadR P ρ o m v∧D (.read fun m=>ReadR P ρ o m v) v m)∨
 (∃X v,NewR P ρ o m.next X v∧D .new v (m.push X))∨(∃n v m',EffR P (qba P n) ρ o m v m'∧D .eff v m')
section
variable {P:Program} {ρ:Operand→Value} {o:Oper} {m:Mem} {D:Tag→Value→Mem→Prop} {K:Value→Mem→Prop}
theorem StepX.pure {v:Value} (h:PureR P ρ o v) (hk:D .pure v m):StepX P ρ o m D:= .inl ⟨v,h,hk⟩
theorem StepX.pureR {v:Value} {I:Mem→Prop} (h:PureR P ρ o v) (hk:D (.read I) v m):StepX P ρ o m D:= .inr (.inl ⟨v,I,h,hk⟩)
theorem StepX.read {v:Value} (h:ReadR P ρ o m v) (hk:D (.read fun m=>ReadR P ρ o m v) v m):StepX P ρ o m D:= .inr (.inr (.inl ⟨v,h,hk⟩))
theorem StepX.new {v:Value} {X:Blk} (h:NewR P ρ o m.next X v) (hk:D .new v (m.push X)):StepX P ρ o m D:= .inr (.inr (.inr (.inl ⟨X,v,h,hk⟩)))
theorem StepX.eff {n:Nat} {v:Value} {m':Mem} (h:EffR P (qba P n) ρ o m v m') (hk:D .eff v m'):StepX P ρ o m D:= .inr (.inr (.inr (.inr ⟨n,v,m',h,hk⟩)))
theorem StepX.w (h:StepX P ρ o m fun _=>K):StepW P ρ o m K:=by
 rcases h with ⟨v,h,hk⟩|⟨v,I,h,hk⟩|⟨v,h,hk⟩|⟨X,v,h,hk⟩|⟨n,v,m',h,hk⟩
 ·exact StepW.pure h hk
 ·exact StepW.pure h hk
 ·exact StepW.read h hk
 ·exact StepW.new h hk
 ·exact StepW.eff h hk
theorem StepX.call {f:FuncId} {args:Array Value} (hc:callee o ρ f args) (h:CallW P f args m (D .eff)):StepX P ρ o m D:=by
 obtain ⟨n,v,m',h1,h2⟩:=h
 exact .eff (.call f args v m' hc h1) h2
end
theorem qbo {P:Program} {C:FuncId→Array Value→Mem→Value→Mem→Prop} {ops:List Oper} {B:Array Nat}:∀(l:List Oper) (i:Nat) (A A':Acc) (fr fr':Nat→Value) (m m':Mem),(∀x∈A'.reads,x∈A.reads)→(∀x∈A'.effs,x∈A.effs)→(∀x∈A'.news,x∈A.news)→qaK P C ops B i l A fr m fr' m'→qaK P C ops B i l A' fr m fr' m'
 |[],i,A,A',fr,fr',m,m',_,_,_,h=>h
 |o::l,i,A,A',fr,fr',m,m',h1,h2,h3,h=>by
  simp only[qaK] at h⊢
  split at h
  ·rename_i hw
   rw[if_pos hw]
   rcases h with ⟨v,hp,hd⟩|⟨v,hp,ho,hd⟩|⟨X,v,hp,hd⟩|⟨v,m1,hp,g1,g2,hd⟩
   ·exact .inl ⟨v,hp,qbo l _ _ _ _ _ _ _ h1 h2 h3 hd⟩
   ·refine .inr (.inl ⟨v,hp,fun x hx=>ho x (h2 x hx),qbo l _ {A with reads:=_::A.reads} _ _ _ _ _ (fun x hx=> ?_) h2 h3 hd⟩)
    rcases List.mem_cons.1 hx with rfl|hx
    ·exact List.mem_cons_self
    ·exact List.mem_cons_of_mem _ (h1 x hx)
   ·refine .inr (.inr (.inl ⟨X,v,hp,qbo l _ {A with news:=_::A.news} _ _ _ _ _ h1 h2 (fun x hx=> ?_) hd⟩))
    rcases List.mem_cons.1 hx with rfl|hx
    ·exact List.mem_cons_self
    ·exact List.mem_cons_of_mem _ (h3 x hx)
   ·refine .inr (.inr (.inr ⟨v,m1,hp,fun x hx=>g1 x (h1 x hx),fun x hx=>g2 x (h3 x hx),qbo l _ {A with effs:=_::A.effs} _ _ _ _ _ h1 (fun x hx=> ?_) h3 hd⟩))
    rcases List.mem_cons.1 hx with rfl|hx
    ·exact List.mem_cons_self
    ·exact List.mem_cons_of_mem _ (h2 x hx)
  ·rename_i hw
   rw[if_neg hw]
   exact qbo l _ _ _ _ _ _ _ h1 h2 h3 h
def obl (B:Array Nat) (i:Nat) (A:Acc) (m:Mem):Tag→Mem→Prop
 | .pure,_=>True
 | .read I,_=>∀x∈A.effs,anc B i x.1=false→I x.2
 | .new,_=>True
 | .eff,m1=>(∀x∈A.reads,anc B i x.1=false→x.2 m1)∧∀x∈A.news,anc B i x.1=false→m1.blk x.2=m.blk x.2
def accT (A:Acc) (i:Nat) (m:Mem):Tag→Acc
 | .pure=>A
 | .read I=>{A with reads:=(i,I)::A.reads}
 | .new=>{A with news:=(i,m.next)::A.news}
 | .eff=>{A with effs:=(i,m)::A.effs}
section
variable {P:Program} {ops l:List Oper} {B:Array Nat} {i:Nat} {A:Acc} {K:(Nat→Value)→Mem→Prop} {fr:Nat→Value} {m:Mem} {o:Oper}
theorem SeqW.consX (hg:wanted ops fr o=true) (h:StepX P (ev fr) o m fun _ v m1=>SeqW P ops l K (set fr o.dst v) m1):SeqW P ops (o::l) K fr m:=SeqW.cons hg h.w
theorem DrawW.cons (hg:wanted ops fr o=true) (h:StepX P (ev fr) o m fun t v m1=>obl B i A m t m1∧DrawW P ops B (i+1) l (accT A i m t) K (set fr o.dst v) m1):DrawW P ops B i (o::l) A K fr m:=by
 have up:∀{n n':Nat} (_:n≤n') {l:List Oper} {i:Nat} {A:Acc} {fr fr':Nat→Value} {m m':Mem},qaK P (qba P n) ops B i l A fr m fr' m'→qaK P (qba P n') ops B i l A fr m fr' m':=fun hn=>qaX (qbb _ _ hn) _ _ _ _ _ _ _
 rcases h with ⟨v,h,_,n,fr',m',h1,h2⟩|⟨v,I,h,_,n,fr',m',h1,h2⟩|⟨v,h,ho,n,fr',m',h1,h2⟩|⟨X,v,h,_,n,fr',m',h1,h2⟩|⟨n0,v,m1,h,ho,n,fr',m',h1,h2⟩
 ·refine ⟨n,fr',m', ?_,h2⟩
  simp only[qaK];rw[if_pos hg]
  exact .inl ⟨v,h,h1⟩
 ·refine ⟨n,fr',m', ?_,h2⟩
  simp only[qaK];rw[if_pos hg]
  exact .inl ⟨v,h,qbo _ _ {A with reads:=(i,I)::A.reads} A _ _ _ _ (fun x hx=>List.mem_cons_of_mem _ hx) (fun x hx=>hx) (fun x hx=>hx) h1⟩
 ·refine ⟨n,fr',m', ?_,h2⟩
  simp only[qaK];rw[if_pos hg]
  exact .inr (.inl ⟨v,h,ho,h1⟩)
 ·refine ⟨n,fr',m', ?_,h2⟩
  simp only[qaK];rw[if_pos hg]
  exact .inr (.inr (.inl ⟨X,v,h,h1⟩))
 ·refine ⟨max n0 n,fr',m', ?_,h2⟩
  simp only[qaK];rw[if_pos hg]
  exact .inr (.inr (.inr ⟨v,m1,h.mono (qbb _ _ (Nat.le_max_left _ _)),ho.1,ho.2,up (Nat.le_max_right _ _) h1⟩))
theorem DrawW.skip (hg:wanted ops fr o=false) (h:DrawW P ops B (i+1) l A K (set fr o.dst undef) m):DrawW P ops B i (o::l) A K fr m:=by
 obtain ⟨n,fr',m',h1,h2⟩:=h
 refine ⟨n,fr',m', ?_,h2⟩
 simp only[qaK]
 rw[if_neg (by simp[hg])]
 exact h1
theorem DrawW.done (h:∀fr',fr'=fr→K fr' m):DrawW P ops B i [] A K fr m:=⟨0,_,_,⟨rfl,rfl⟩,h _ rfl⟩
end
theorem qxd {P:Program} {ρ:Operand→Value} {o:Oper} {α:Type} {T:Ty α} {z:Nat→Blk} {xs:List α} {v:Value} {x:Operand} {t:TypeId} {i:TypeInfo} {lo hi:Option Operand} {a b:Int} {r:List α} (h:o.op= .slice t x lo hi none) (ht:P.underlying t=some (.slice T.tid)) (hi':P.info? T.tid=some i) (hsz:i.size=T.sz) (hx:ρ x=v)
  (hlo:lowI ρ lo a) (hhi:qkO ρ hi xs.length b) (hs:SlR T z xs v) (hr:cutI xs a b=some r):
  ∃v',(PureR P ρ o v'∨∀m,Fz z m→ReadR P ρ o m v')∧SlR T z r v':=by
 obtain ⟨h0,h1,h2,rfl⟩:=qeF hr
 obtain ⟨a',rfl⟩:=Int.eq_ofNat_of_zero_le h0
 obtain ⟨b',rfl⟩:=Int.eq_ofNat_of_zero_le (Int.le_trans h0 h1)
 have h1':a'≤b':=by omega
 have h2':b'≤xs.length:=by omega
 simp only[Int.toNat_natCast]
 have hlo':=qgv hlo
 have hhi':=qem hhi
 have hlen:((xs.take b').drop a').length=b' - a':=by simp;omega
 rcases hs with ⟨rfl,rfl⟩|⟨bl,off,c,rfl,hlive,hcap,hel⟩
 ·have hb0:b'=0:=by simpa using h2'
  subst hb0
  have ha0:a'=0:=by omega
  subst ha0
  exact ⟨.slice none 0 0, .inl (.sliceNil t x lo hi T.tid i h ht hi' hx hlo' hhi'), .inl ⟨rfl,by simp⟩⟩
 ·have hel':∀o',o'=off+a'*T.sz→∀(k:Nat) (w:α),((xs.take b').drop a')[k]? =some w→∃cs,T.rd z w cs∧qa1 z bl (o'+k*T.sz) cs:=by
   intro o' ho' k w hk
   obtain ⟨cs,g1,g2⟩:=hel _ w (qgd hk)
   refine ⟨cs,g1, ?_⟩
   rw[ho',Nat.add_assoc,←Nat.add_mul];exact g2
  rcases hcap with ⟨rfl,L,hL,hlL⟩|⟨hc,hle⟩
  ·refine ⟨_, .inr fun m hz=>(.slice t x lo hi T.tid i L bl off xs.length a' b' h ht hi' hx ?_ hlo' hhi' h1' h2' (by rw[hsz];exact hlL)), ?_⟩
   ·rw[(hz.fzn hlive).1];exact hL
   ·refine .inr ⟨bl,off+a'*T.sz,BIG,by rw[hlen,hsz],hlive, .inl ⟨rfl,L,hL, ?_⟩,hel' _ rfl⟩
    rw[hlen,Nat.add_assoc,←Nat.add_mul]
    have:(a'+(b' - a'))*T.sz≤xs.length*T.sz:=Nat.mul_le_mul_right _ (by omega)
    omega
  ·refine ⟨_, .inl (.slice t x lo hi T.tid i bl off xs.length c a' b' h ht hi' hx (by simp only[BIG] at hc⊢;omega) hlo' hhi' h1' (by omega) (fun _=>trivial)), ?_⟩
   by_cases hcn:c=a'
   ·have h00:b' - a'=0:=by omega
    refine .inr ⟨bl,off,c - a',by simp[hcn,hlen,h00],hlive, .inr ⟨by omega,by rw[hlen];omega⟩,fun k w hk=> ?_⟩
    have hlt:=(List.getElem?_eq_some_iff.1 hk).1
    omega
   ·refine .inr ⟨bl,off+a'*T.sz,c - a',by rw[if_neg hcn,hlen,hsz],hlive, .inr ⟨by omega,by rw[hlen];omega⟩,hel' _ rfl⟩
section
variable {α:Type} {T:Ty α} {z z':Nat→Blk} {e m m':Mem} {k q:Option Nat} {xs:List α} {v:Value} {b:Nat} {cs:List Value} {t:TypeId}
variable {P:Program} {ρ:Operand→Value} {o:Oper} {w:Value} {ys:List α} {x y:Operand} {u:TypeId} {i:TypeInfo} {K:Value→Mem→Prop} {D:Tag→Value→Mem→Prop}
theorem qgq (h:o.op= .call {callee:= .builtin .append,args:=#[x,y],argTypes:=#[t,u]}) (ht:P.underlying t=some (.slice T.tid)) (hi:P.info? T.tid=some i) {zv:Value} (hzv:i.zero=some zv) (hzf:zv.cells.toList.all qah=true) (hzs:zv.cells.size=i.size)
  (hsz:i.size=T.sz) (hpos:(T.sz==0)=false) (hby:Nat.ble i.bytes 32768=true) (hu:(∃e',P.underlying u=some (.slice e'))∨P.underlying u=some .string) (hx:ρ x=v) (hs:OwF T z e m k xs v) (hy:ρ y=w) (hsrc:Src T z m ys w)
  (st:St z e m k) {r:List α} (hr:appI xs ys=some r)
  (hk:∀v' m',St z e m' k→OwF T z e m' k r v'→Same m m' (qag v)→(∀p,(∀b,p=some b→b<m.next)→Ap p (qag v)→Ap p (qag v'))→D .eff v' m'):StepX P ρ o m D:=by
 obtain ⟨v',m',h1,h2,h3,h4,h5⟩:=qqz (C:=qba P 0) h ht hi hzv hzf hzs hsz (by
  rcases Nat.eq_zero_or_pos T.sz with h0|h0;·rw[h0] at hpos;cases hpos
  ·exact h0) (Nat.le_of_ble_eq_true hby) hu hx hs hy hsrc st hr
 exact StepX.eff h1 (hk _ _ h2 h3 h4 h5)
theorem qsr {x0:α} {k1 k2:IntKind} {n:Int} (h:o.op= .makeSlice t x y) (ht:P.underlying t=some (.slice T.tid)) (hi:P.info? T.tid=some i) {zv:Value} (hzv:i.zero=some zv) (hzf:zv.cells.toList.all qah=true) (hzs:zv.cells.size=i.size) (hsz:i.size=T.sz) (hby:Nat.ble i.bytes 32768=true)
  (hrd:T.rd z x0 zv.cells.toList) (hx:ρ x= .int k1 n) (hy:ρ y= .int k2 n) (st:St z e m k) {r:List α} (hr:mkI x0 n=some r)
  (hk:∀v' m',St z e m' k→OwF T z e m' k r v'→Same m m' none→(∀p,(∀b,p=some b→b<m.next)→Ap p (qag v'))→D .new v' m'):StepX P ρ o m D:=by
 obtain ⟨v',m',L,t',h1,rfl,h2,h3,h4,h5⟩:=qwu h ht hi hzv hzf hzs hsz (Nat.le_of_ble_eq_true hby) hrd hx hy st hr
 exact StepX.new h1 (hk _ _ h2 h3 h4 h5)
theorem ql4 {ps:Array (Nat×Operand)} {l:Nat} (h:o.op= .buildSlice t l ps) (ht:P.underlying t=some (.slice T.tid)) (hi:P.info? T.tid=some i) {zv:Value} (hzv:i.zero=some zv) (hzf:zv.cells.toList.all qah=true) (hzs:zv.cells.size=i.size) (hsz:i.size=T.sz)
  (as:List α) (css:List (List Value)) (hl:as.length=l) (h24:Nat.ble (l*T.sz) 16777216=true) (hl63:Nat.blt l 9223372036854775808=true) (hb:qcT T z ρ ps.toList 0 as css) (st:St z e m k)
  (hk:∀v' m',St z e m' k→OwF T z e m' k as v'→Same m m' none→(∀p,(∀b,p=some b→b<m.next)→Ap p (qag v'))→D .new v' m'):StepX P ρ o m D:=by
 obtain ⟨v',m',L,t',h1,rfl,h2,h3,h4,h5⟩:=qsb h ht hi hzv hzf hzs hsz hl (Nat.le_of_ble_eq_true h24) (by have:=hl63;simp[Nat.blt] at this;omega) hb st
 exact StepX.new h1 (hk _ _ h2 h3 h4 h5)
theorem qsp {s:List UInt8} {tid:TypeId} (h:o.op= .convert u t x) (hu:P.underlying u=some .string) (ht:P.underlying t=some (.slice tid)) (he:P.underlying tid=some (.int .u8)) (hi:P.info? tid=some i) (hi1:i.size=1) (hx:ρ x=str s) {s':List UInt8} (hl:appI s []=some s') (st:St z e m k)
  (hk:∀v' m',St z e m' k→OwF (TU8 tid) z e m' k s' v'→Same m m' none→(∀p,(∀b,p=some b→b<m.next)→Ap p (qag v'))→D .new v' m'):StepX P ρ o m D:=by
 obtain ⟨hlim,rfl⟩:=qa0 hl
 rw[List.append_nil] at hk
 obtain ⟨v',m',L,t',h1,rfl,h2,h3,h4,h5⟩:=qsc h hu ht he hi hi1 hx (by simp only[LIM,List.length_nil] at hlim;omega) st
 exact StepX.new h1 (hk _ _ h2 h3 h4 h5)
theorem kPut {off:Nat} {new:List Value} {te:TypeId} (h:o.op= .store t x y) (hi:P.info? t=some i) (hx:ρ x= .pointer (some ⟨b,off,none⟩)) (hy:ρ y=w) (hv:storable w=true) (hn:w.cells.toList=new) (hs:new.length=i.size) (hb:Bx z e m k b cs te) (hl:Nat.ble (off+new.length) cs.length=true) (cs':List Value) (hcs:setN cs off new=cs') (st:St z e m k)
  (hk:∀m',St z e m' k→Bx z e m' k b cs' te→Same m m' (some b)→D .eff undef m'):StepX P ρ o m D:=by
 obtain ⟨m',h1,h2,h3,h4⟩:=gPut (C:=qba P 0) h hi hx hy hv hn hs hb (Nat.le_of_ble_eq_true hl) hcs st
 exact StepX.eff h1 (hk _ h2 h3 h4)
theorem kSet {off f0 n f l c:Nat} {new ecs ecs':List Value} {a a':α} (h:o.op= .store t x y) (hi:P.info? t=some i) (hx:ρ x= .pointer (some ⟨b,off,none⟩)) (hoff:off=f0+n*T.sz+f) (hy:ρ y=w) (hv:storable w=true) (hn:w.cells.toList=new) (hs:new.length=i.size)
  (ho:OwF T z e m k xs v) (hvb:v= .slice (some ⟨b,f0,none⟩) l c) (ha:xs[n]? =some a) (hr:T.rd z a ecs) (hc:∀(i:Nat) (u:Value),ecs[i]? =some u→m.load b (f0+n*T.sz+i)=some u) (hr':T.rd z a' ecs') (hcs:ecs'=setN ecs f new) (hf:Nat.ble (f+new.length) ecs.length=true) (st:St z e m k)
  (hk:∀m',St z e m' k→OwF T z e m' k (xs.set n a') v→Same m m' (qag v)→D .eff undef m'):StepX P ρ o m D:=by
 obtain ⟨m',h1,h2,h3,h4⟩:=gSet (C:=qba P 0) h hi hx hoff hy hv hn hs ho hvb ha hr hc hr' hcs (Nat.le_of_ble_eq_true hf) st
 exact StepX.eff h1 (hk _ h2 h3 h4)
theorem qwE {k1:IntKind} {n:Int} {a:α} {te:TypeId} (h:o.op= .indexAddr t x y) (ht:P.underlying t=some (.slice te)) (hi:P.info? te=some i) (hsz:i.size=T.sz) (hx:ρ x=v) (hy:ρ y= .int k1 n) (hs:SlR T z xs v) (hg:getI xs n=some a)
  (hk:∀b off cs,T.rd z a cs→qa1 z b off cs→D .pure (.pointer (some ⟨b,off,none⟩)) m):StepX P ρ o m D:=by
 obtain ⟨b,off,cs,h1,h2,h3⟩:=qwt h ht hi hsz hx hy hs hg
 exact StepX.pure h1 (hk _ _ _ h2 h3)
theorem qsq {k1:IntKind} {n:Int} {a:α} {te:TypeId} (h:o.op= .indexAddr t x y) (ht:P.underlying t=some (.slice te)) (hi:P.info? te=some i) (hsz:i.size=T.sz) (hx:ρ x=v) (hy:ρ y= .int k1 n) (hs:OwF T z e m k xs v) (hg:getI xs n=some a)
  (hk:∀b f0 l c cs,v= .slice (some ⟨b,f0,none⟩) l c→T.rd z a cs→xs[n.toNat]? =some a→(∀(j:Nat) (u:Value),cs[j]? =some u→m.load b (f0+n.toNat*T.sz+j)=some u)→D .pure (.pointer (some ⟨b,f0+n.toNat*T.sz,none⟩)) m):StepX P ρ o m D:=by
 obtain ⟨b,f0,l,c,cs,h1,h2,h3,h4⟩:=qws h ht hi hsz hx hy hs hg
 exact StepX.pure h1 (hk _ _ _ _ _ h2 h3 (qaH hg).2.2 h4)
theorem kCut {lo hi:Option Operand} {a b:Int} {r:List α} (h:o.op= .slice t x lo hi none) (ht:P.underlying t=some (.slice T.tid)) (hi':P.info? T.tid=some i) (hsz:i.size=T.sz) (hx:ρ x=v)
  (hlo:lowI ρ lo a) (hhi:qkO ρ hi xs.length b) (hs:SlR T z xs v) (st:St z e m k) (hr:cutI xs a b=some r) (hk:∀v' I,(∀m,Fz z m→I m)→SlR T z r v'→D (.read I) v' m):StepX P ρ o m D:=by
 obtain ⟨v',h1,h2⟩:=qxd h ht hi' hsz hx hlo hhi hs hr
 rcases h1 with h1|h1
 ·exact StepX.pureR (I:=fun _=>True) h1 (hk _ _ (fun _ _=>trivial) h2)
 ·exact StepX.read (h1 m st.fz) (hk _ _ h1 h2)
theorem qwC {s r:List UInt8} {lo hi:Option Operand} {a b:Int} (h:o.op= .slice t x lo hi none) (ht:P.underlying t=some .string) (hx:ρ x=str s) (hlo:lowI ρ lo a) (hhi:qkO ρ hi s.length b) (hr:cutI s a b=some r) (hk:D .pure (str r) m):StepX P ρ o m D:=by
 obtain ⟨h0,h1,h2,rfl⟩:=qeF hr
 obtain ⟨a',rfl⟩:=Int.eq_ofNat_of_zero_le h0
 obtain ⟨b',rfl⟩:=Int.eq_ofNat_of_zero_le (Int.le_trans h0 h1)
 exact StepX.pure (qq7 h ht hx (qgv hlo) (qem hhi) (by omega) (by omega)) hk
theorem qqK {s:List UInt8} {c:UInt8} {k1:IntKind} {n:Int} (h:o.op= .index t x y) (ht:P.underlying t=some .string) (hx:ρ x=str s) (hy:ρ y= .int k1 n) (hg:getI s n=some c) (hk:D .pure (.int .u8 c.toNat) m):StepX P ρ o m D:=by
 obtain ⟨h0,h1,h2⟩:=qaH hg
 exact StepX.pure (qq6 h ht hx hy h0 h2) hk
theorem qwG {s:List UInt8} {tid:TypeId} (h:o.op= .convert t u x) (ht:P.underlying t=some (.slice tid)) (he:P.underlying tid=some (.int .u8)) (hu:P.underlying u=some .string) (hx:ρ x=v) (hs:SlR (TU8 tid) z s v) (st:St z e m k) (hk:D (.read fun m=>ReadR P ρ o m (str s)) (str s) m):StepX P ρ o m D:=
 StepX.read (rStr h ht he hu hx (hs.src st.fz) (by obtain ⟨a,c,rfl⟩:=hs.len;exact ⟨_,_,_,rfl⟩)) hk
theorem qwF {s:List UInt8} {tid:TypeId} (h:o.op= .convert t u x) (ht:P.underlying t=some (.slice tid)) (he:P.underlying tid=some (.int .u8)) (hu:P.underlying u=some .string) (hx:ρ x=v) (hs:OwF (TU8 tid) z e m k s v) (hk:D (.read fun m=>ReadR P ρ o m (str s)) (str s) m):StepX P ρ o m D:=
 StepX.read (rStr h ht he hu hx hs.ow.src (by obtain ⟨a,c,rfl⟩:=hs.ow.len;exact ⟨_,_,_,rfl⟩)) hk
theorem qqJ {ps:Array (Nat×Operand)} {fs:Array Field} {pl:List (Option (Nat×Nat))} {zv:Value} (vs:List (Nat×Value)) (cs:List Value) (h:o.op= .build t ps) (ht:P.underlying t=some (.struct fs)) (hi:P.info? t=some i) (hz:i.zero=some zv) (hzf:zv.cells.toList.all qah=true)
  (hpl:qcp P fs=pl) (hp:pl.all Option.isSome=true) (hvs:ps.toList.map (fun p=>(p.1,ρ p.2))=vs) (hc:qbA (fun k=>(pl[k]?).join) zv.cells.toList vs=some cs) (hk:D .pure (.agg cs.toArray) m):StepX P ρ o m D:=by
 subst hpl hvs
 exact StepX.pure (.build t ps fs i zv cs h ht hi hz hzf (by simpa[List.all_eq_true] using hp) hc) hk
variable {ops l:List Oper} {fr:Nat→Value} {KK:(Nat→Value)→Mem→Prop}
theorem SeqW.consG {j d:Nat} {want bb:Bool} (hg:o.guard=some (j,want)) (hd:(ops[j]?).bind (·.dst)=some d) (hv:fr d= .bool bb) (hb:bb=want) (h:StepX P (ev fr) o m fun _ v m1=>SeqW P ops l KK (set fr o.dst v) m1):SeqW P ops (o::l) KK fr m:=
 SeqW.consX (by subst hb;simp[wanted,hg,hd,hv]) h
theorem SeqW.skipG {j d:Nat} {want bb:Bool} (hg:o.guard=some (j,want)) (hd:(ops[j]?).bind (·.dst)=some d) (hv:fr d= .bool bb) (hb:bb= !want) (h:SeqW P ops l KK (set fr o.dst undef) m):SeqW P ops (o::l) KK fr m:=
 SeqW.skip (by subst hb;simp[wanted,hg,hd,hv]) h
theorem SeqW.skipU {j d:Nat} {want:Bool} (hg:o.guard=some (j,want)) (hd:(ops[j]?).bind (·.dst)=some d) (hv:fr d=undef) (h:SeqW P ops l KK (set fr o.dst undef) m):SeqW P ops (o::l) KK fr m:=
 SeqW.skip (by simp[wanted,hg,hd,hv,undef]) h
theorem DrawW.consG {B:Array Nat} {n:Nat} {A:Acc} {j d:Nat} {want bb:Bool} (hg:o.guard=some (j,want)) (hd:(ops[j]?).bind (·.dst)=some d) (hv:fr d= .bool bb) (hb:bb=want) (h:StepX P (ev fr) o m fun t v m1=>obl B n A m t m1∧DrawW P ops B (n+1) l (accT A n m t) KK (set fr o.dst v) m1):DrawW P ops B n (o::l) A KK fr m:=
 DrawW.cons (by subst hb;simp[wanted,hg,hd,hv]) h
theorem DrawW.skipG {B:Array Nat} {n:Nat} {A:Acc} {j d:Nat} {want bb:Bool} (hg:o.guard=some (j,want)) (hd:(ops[j]?).bind (·.dst)=some d) (hv:fr d= .bool bb) (hb:bb= !want) (h:DrawW P ops B (n+1) l A KK (set fr o.dst undef) m):DrawW P ops B n (o::l) A KK fr m:=
 DrawW.skip (by subst hb;simp[wanted,hg,hd,hv]) h
theorem DrawW.skipU {B:Array Nat} {n:Nat} {A:Acc} {j d:Nat} {want:Bool} (hg:o.guard=some (j,want)) (hd:(ops[j]?).bind (·.dst)=some d) (hv:fr d=undef) (h:DrawW P ops B (n+1) l A KK (set fr o.dst undef) m):DrawW P ops B n (o::l) A KK fr m:=
 DrawW.skip (by simp[wanted,hg,hd,hv,undef]) h
end
end Go.AM
end
section
set_option linter.unusedSimpArgs false
set_option linter.unusedVariables false
namespace Go.AM
theorem qda {d:TypeDesc} {k:Value} (hk:MapKept.IsKey d k):∀(l:List MapEntry) (i:Nat),(∀x∈l,MapKept.IsKey d x.key)→Instr.findNow d k l i=some (qbL k l i)
 |[],i,_=>rfl
 |e::es,i,h=>by
  obtain ⟨r,hr,hiff⟩:=MapKept.sameNow_of_keys hk (h e (.head _))
  have ih:=qda hk es (i+1) (fun x hx=>h x (.tail _ hx))
  cases r with
  |true=>
   have:=hiff.1 rfl
   rw[qbL,if_pos this.symm]
   simp[Instr.findNow,hr]
  |false=>
   have hne:¬e.key=k:=fun q=>by have:=hiff.2 q.symm;cases this
   rw[qbL,if_neg hne]
   simp[Instr.findNow,hr,ih]
theorem qj9 {P:Program} {kt:TypeId} {d:TypeDesc} (hd:P.underlying kt=some d) {good:Value→Prop} (hg:∀v,good v→MapKept.IsKey d v):Keyed P kt good where
 check:=fun em v w h=>MapKept.run_checkKey hd (hg v h) em _
 find:=fun v es w h hs=>MapKept.run_findKey hd (qda (hg v h) es 0 fun x hx=>hg _ (hs x hx))
 stays:=fun v w h=>MapKept.run_keyThatStays (hg v h)
structure MTy (α β:Type) where
 kc:α→List Value
 vc:β→List Value
 tid:TypeId
structure KeyOk (P:Program) (kt:TypeId) {α:Type} (kc:α→List Value):Prop where
 len:∀a,(kc a).length=P.cellsOf kt
 pos:0<P.cellsOf kt
 flat:∀a,(kc a).all qah=true
 flatV:∀a,AM.flat (qal (qaj P kt) (kc a))=true
 inj:∀a b,qal (qaj P kt) (kc a)=qal (qaj P kt) (kc b)→a=b
 keyed:Keyed P kt fun v=>∃a,v=qal (qaj P kt) (kc a)
structure ValOk (P:Program) (vt:TypeId) {β:Type} (vc:β→List Value):Prop where
 len:∀b,(vc b).length=P.cellsOf vt
 one:qaj P vt=false→P.cellsOf vt=1
 flat:∀b,(vc b).all qah=true
def kInt (k:IntKind) (n:Int):List Value:=[.int k n]
def kStr (s:List UInt8):List Value:=[str s]
def qgr (b:Bool):List Value:=[.bool b]
theorem qeh {P:Program} {t:TypeId} {d:TypeDesc} (h:P.underlying t=some d) (hd:aggT d=false):qaj P t=false:=by simp[qaj,h,hd]
theorem qss {P:Program} {kt:TypeId} {k:IntKind} {i:TypeInfo} (h:P.underlying kt=some (.int k)) (hi:P.info? kt=some i) (hs:i.size=1):KeyOk P kt (kInt k) where
 len:=fun a=>by simp[kInt,Program.cellsOf,hi,hs]
 pos:=by simp[Program.cellsOf,hi,hs]
 flat:=fun a=>rfl
 flatV:=fun a=>by rw[qeh h rfl];rfl
 inj:=fun a b hab=>by rw[qeh h rfl] at hab;simpa[qal,kInt] using hab
 keyed:=qj9 h (by rintro v ⟨a,rfl⟩;rw[qeh h rfl];simp[qal,kInt,MapKept.IsKey])
theorem qnq {a b:List UInt8} (h:str a=str b):a=b:=by
 simp only[str] at h
 injection h with h
 injection h with h
 simpa using congrArg Array.toList h
theorem qst {P:Program} {kt:TypeId} {i:TypeInfo} (h:P.underlying kt=some .string) (hi:P.info? kt=some i) (hs:i.size=1):KeyOk P kt kStr where
 len:=fun a=>by simp[kStr,Program.cellsOf,hi,hs]
 pos:=by simp[Program.cellsOf,hi,hs]
 flat:=fun a=>rfl
 flatV:=fun a=>by rw[qeh h rfl];rfl
 inj:=fun a b hab=>by rw[qeh h rfl] at hab;exact qnq hab
 keyed:=qj9 h (by rintro v ⟨a,rfl⟩;rw[qeh h rfl];simp[qal,kStr,str,MapKept.IsKey])
theorem qvM {P:Program} {vt:TypeId} {k:IntKind} {i:TypeInfo} (h:P.underlying vt=some (.int k)) (hi:P.info? vt=some i) (hs:i.size=1):ValOk P vt (kInt k):=
 ⟨fun a=>by simp[kInt,Program.cellsOf,hi,hs],fun _=>by simp[Program.cellsOf,hi,hs],fun _=>rfl⟩
theorem qrt {P:Program} {vt:TypeId} {i:TypeInfo} (h:P.underlying vt=some .bool) (hi:P.info? vt=some i) (hs:i.size=1):ValOk P vt qgr:=
 ⟨fun a=>by simp[qgr,Program.cellsOf,hi,hs],fun _=>by simp[Program.cellsOf,hi,hs],fun _=>rfl⟩
section
variable {α β:Type}
def qae [DecidableEq α]:List (α×β)→α→Option β
 |[],_=>none
 |p::es,a=>if p.1=a then some p.2 else qae es a
def qao [DecidableEq α]:List (α×β)→α→β→List (α×β)
 |[],a,b=>[(a,b)]
 |p::es,a,b=>if p.1=a then (p.1,b)::es else p::qao es a b
def MTy.ents (M:MTy α β) (es:List (α×β)):List (List Value×List Value):=es.map fun p=>(M.kc p.1,M.vc p.2)
def MTy.cells (M:MTy α β) (es:List (α×β)):List Value:=(M.ents es).flatMap fun p=>p.1++p.2
structure OwM (M:MTy α β) (z:Nat→Blk) (e m:Mem) (k:Option Nat) (es:List (α×β)) (v:Value):Prop where
 ow:∃r,v= .map (some r)∧m.blk r= .map (M.cells es) M.tid∧r<m.next∧z r= .dead∧e.next≤r
def MpR (M:MTy α β) (z:Nat→Blk) (es:List (α×β)) (v:Value):Prop:=
 (v= .map none∧es=[])∨∃r,v= .map (some r)∧z r= .map (M.cells es) M.tid
def qgy:Value→Option Nat
 | .map r=>r
 |_=>none
variable {M:MTy α β} {z z':Nat→Blk} {e m m':Mem} {k q:Option Nat} {es:List (α×β)} {v:Value}
theorem OwM.lt (h:OwM M z e m k es v):∀b,qgy v=some b→b<m.next:=by
 obtain ⟨r,rfl,h1,h2,h3,h4⟩:=h.ow
 intro b hb;cases hb;exact h2
theorem OwM.same (h:OwM M z e m k es v) (s:Same m m' q) (ap:Ap (qgy v) q):OwM M z e m' k es v:=by
 obtain ⟨r,rfl,h1,h2,h3,h4⟩:=h.ow
 exact ⟨r,rfl,by rw[s.blk r h2 (ap r rfl)];exact h1,Nat.lt_of_lt_of_le h2 s.next,h3,h4⟩
theorem OwM.zle (h:OwM M z e m k es v) (hz:Zle z z') (hb:∀b,qgy v=some b→z' b=z b):OwM M z' e m k es v:=by
 obtain ⟨r,rfl,h1,h2,h3,h4⟩:=h.ow
 exact ⟨r,rfl,h1,h2,by rw[hb r rfl];exact h3,h4⟩
theorem OwM.hq (h:OwM M z e m k es v):∀c,qgy v=some c→z c= .dead∧(e.next≤c∨k=some c):=by
 obtain ⟨r,rfl,h1,h2,h3,h4⟩:=h.ow
 intro c hc;cases hc;exact ⟨h3, .inl h4⟩
theorem OwM.freeze (h:OwM M z e m k es v) (st:St z e m k):∃z',Zx e.next z z'∧St z' e m k∧MpR M z' es v∧∀p,Ap p (qgy v)→∀b,p=some b→z' b=z b:=by
 obtain ⟨r,rfl,h1,h2,h3,h4⟩:=h.ow
 refine ⟨frz z m (some r),⟨qhU fun b hb=>by cases hb;exact h3,fun b hb=> ?_⟩,⟨qj2 st.fz (fun b hb=>by cases hb;exact ⟨h2,by rw[h1];rfl⟩),st.dead,st.dead0,st.next,st.kept⟩, .inr ⟨r,rfl,by simp[frz,h1]⟩,fun p hp b hb=> ?_⟩
 ·unfold frz
  rw[if_neg]
  intro hb';cases hb';omega
 ·have:=hp b hb
  unfold frz
  rw[if_neg (show ¬some r=some b from this)]
theorem MpR.mono (h:MpR M z es v) (hz:Zle z z'):MpR M z' es v:=by
 rcases h with h|⟨r,rfl,h1⟩
 ·exact .inl h
 ·exact .inr ⟨r,rfl,by rw[hz r (by rw[h1];exact True.intro)];exact h1⟩
theorem qgg {P:Program} {kt vt:TypeId} (K:KeyOk P kt M.kc) (V:ValOk P vt M.vc) (es:List (α×β)):EntL (P.cellsOf kt) (P.cellsOf vt) (M.cells es) (M.ents es):=by
 refine ⟨rfl,fun p hp=> ?_⟩
 obtain ⟨x,hx,rfl⟩:=List.mem_map.1 hp
 exact ⟨K.len _,V.len _⟩
theorem qmf [DecidableEq α] {P:Program} {kt vt:TypeId} (K:KeyOk P kt M.kc) (a:α) (z0:β):∀es:List (α×β),Look (qaj P kt) (qaj P vt) (qal (qaj P kt) (M.kc a)) (qal (qaj P vt) (M.vc z0)) (M.ents es) (qal (qaj P vt) (M.vc ((qae es a).getD z0))) (qae es a).isSome
 |[]=> .miss
 |p::es=>by
  simp only[qae]
  by_cases h:p.1=a
  ·rw[if_pos h]
   exact .hit (M.kc p.1,M.vc p.2) (M.ents es) (by rw[h])
  ·rw[if_neg h]
   exact .next (M.kc p.1,M.vc p.2) (M.ents es) _ _ (fun hh=>h (K.inj _ _ hh)) (qmf K a z0 es)
theorem qp4 [DecidableEq α] {P:Program} {kt:TypeId} (K:KeyOk P kt M.kc) (a:α) (b:β):∀es:List (α×β),Upd (qaj P kt) (M.kc a) (M.vc b) (M.ents es) (M.ents (qao es a b))
 |[]=> .miss
 |p::es=>by
  simp only[qao]
  by_cases h:p.1=a
  ·rw[if_pos h]
   exact .hit (M.kc p.1,M.vc p.2) (M.ents es) (by rw[h])
  ·rw[if_neg h]
   exact .next (M.kc p.1,M.vc p.2) (M.ents es) _ (fun hh=>h (K.inj _ _ hh)) (qp4 K a b es)
theorem qhQ {P:Program} {kt:TypeId} (es:List (α×β)):∀p∈M.ents es,∃a,qal (qaj P kt) p.1=qal (qaj P kt) (M.kc a):=by
 intro p hp
 obtain ⟨x,hx,rfl⟩:=List.mem_map.1 hp
 exact ⟨x.1,rfl⟩
theorem qcU {P:Program} {vt:TypeId} {vc:β→List Value} (V:ValOk P vt vc) (b:β):qbf (qal (qaj P vt) (vc b))=true:=by
 have h1:=V.flat b
 have h2:=V.len b
 cases ha:qaj P vt with
 |true=>simpa[qal,qbf] using h1
 |false=>
  rw[V.one ha] at h2
  match hv:vc b,h2 with
  |[c],_=>
   rw[hv] at h1
   simp at h1
   simp only[qal,List.headD_cons]
   cases c<;>first|exact h1|(simp[qah] at h1;done)|(simp[qah] at h1;simp[h1])
variable {P:Program} {ρ:Operand→Value} {o:Oper} {D:Tag→Value→Mem→Prop} {x ix:Operand} {xt kt vt:TypeId} {i:TypeInfo} {a:α} {z0:β} {w0 wk:Value} {ok:Bool}
theorem qpC [DecidableEq α] {r:Nat} (h:o.op= .lookup xt x ix ok) (hxt:P.underlying xt=some (.map kt vt)) (hu:P.underlying M.tid=some (.map kt vt)) (K:KeyOk P kt M.kc) (V:ValOk P vt M.vc) (hi:P.info? vt=some i) (hz:i.zero=some (qal (qaj P vt) (M.vc z0)))
  (hx:ρ x= .map (some r)) (hm:m.blk r= .map (M.cells es) M.tid) (hix:ρ ix=qal (qaj P kt) (M.kc a)):
  ReadR P ρ o m (if ok then .tuple #[qal (qaj P vt) (M.vc ((qae es a).getD z0)), .bool (qae es a).isSome] else qal (qaj P vt) (M.vc ((qae es a).getD z0))):=
 .lookup xt x ix ok M.tid kt vt r _ _ i _ _ _ _ h hxt hu (.inl ⟨hx,hm,qgg K V es⟩) K.pos V.one K.keyed (by rw[hix];exact K.flatV a) ⟨a,hix⟩ (qhQ es) hi hz (qcU V z0) (by rw[hix];exact qmf K a z0 es)
theorem qsf [DecidableEq α] (h:o.op= .lookup xt x ix ok) (hxt:P.underlying xt=some (.map kt vt)) (hu:P.underlying M.tid=some (.map kt vt)) (K:KeyOk P kt M.kc) (V:ValOk P vt M.vc) (hi:P.info? vt=some i) (hz:i.zero=some (qal (qaj P vt) (M.vc z0)))
  (hx:ρ x=v) (ho:OwM M z e m k es v) (hix:ρ ix=wk) (hwk:wk=qal (qaj P kt) (M.kc a)) {y:Option β} (hy:qae es a=y)
  (hw:(if ok then .tuple #[qal (qaj P vt) (M.vc (y.getD z0)), .bool y.isSome] else qal (qaj P vt) (M.vc (y.getD z0)))=w0):ReadR P ρ o m w0:=by
 obtain ⟨r,rfl,h1,_⟩:=ho.ow
 subst hw hy
 exact qpC h hxt hu K V hi hz hx h1 (hix.trans hwk)
theorem qpH [DecidableEq α] (h:o.op= .lookup xt x ix ok) (hxt:P.underlying xt=some (.map kt vt)) (hu:P.underlying M.tid=some (.map kt vt)) (K:KeyOk P kt M.kc) (V:ValOk P vt M.vc) (hi:P.info? vt=some i) (hz:i.zero=some (qal (qaj P vt) (M.vc z0)))
  (hx:ρ x=v) (ho:OwM M z e m k es v) (hix:ρ ix=wk) (hwk:wk=qal (qaj P kt) (M.kc a)) {y:Option β} (hy:qae es a=y)
  (hw:(if ok then .tuple #[qal (qaj P vt) (M.vc (y.getD z0)), .bool y.isSome] else qal (qaj P vt) (M.vc (y.getD z0)))=w0) (hk:D (.read fun m=>ReadR P ρ o m w0) w0 m):StepX P ρ o m D:=
 StepX.read (qsf h hxt hu K V hi hz hx ho hix hwk hy hw) hk
theorem qsg [DecidableEq α] (h:o.op= .lookup xt x ix ok) (hxt:P.underlying xt=some (.map kt vt)) (hu:P.underlying M.tid=some (.map kt vt)) (K:KeyOk P kt M.kc) (V:ValOk P vt M.vc) (hi:P.info? vt=some i) (hz:i.zero=some (qal (qaj P vt) (M.vc z0)))
  (hx:ρ x=v) (ho:MpR M z es v) (fz:Fz z m) (hix:ρ ix=wk) (hwk:wk=qal (qaj P kt) (M.kc a)) {y:Option β} (hy:qae es a=y)
  (hw:(if ok then .tuple #[qal (qaj P vt) (M.vc (y.getD z0)), .bool y.isSome] else qal (qaj P vt) (M.vc (y.getD z0)))=w0):ReadR P ρ o m w0:=by
 subst hw hy
 rcases ho with ⟨rfl,rfl⟩|⟨r,rfl,h1⟩
 ·exact .lookup xt x ix ok M.tid kt vt 0 [] [] i _ _ _ _ h hxt hu (.inr ⟨hx,rfl⟩) K.pos V.one K.keyed (by rw[hix,hwk];exact K.flatV a) ⟨a,hix.trans hwk⟩ (fun p hp=>by simp at hp) hi hz (qcU V z0) .miss
 ·exact qpC h hxt hu K V hi hz hx (by rw[(fz.fzn (show (_:Blk).fzn by rw[h1];exact True.intro)).1];exact h1) (hix.trans hwk)
theorem qpI [DecidableEq α] (h:o.op= .lookup xt x ix ok) (hxt:P.underlying xt=some (.map kt vt)) (hu:P.underlying M.tid=some (.map kt vt)) (K:KeyOk P kt M.kc) (V:ValOk P vt M.vc) (hi:P.info? vt=some i) (hz:i.zero=some (qal (qaj P vt) (M.vc z0)))
  (hx:ρ x=v) (ho:MpR M z es v) (st:St z e m k) (hix:ρ ix=wk) (hwk:wk=qal (qaj P kt) (M.kc a)) {y:Option β} (hy:qae es a=y)
  (hw:(if ok then .tuple #[qal (qaj P vt) (M.vc (y.getD z0)), .bool y.isSome] else qal (qaj P vt) (M.vc (y.getD z0)))=w0) (hk:D (.read fun m=>ReadR P ρ o m w0) w0 m):StepX P ρ o m D:=
 StepX.read (qsg h hxt hu K V hi hz hx ho st.fz hix hwk hy hw) hk
theorem qnS {t:TypeId} (M:MTy α β) (h:o.op= .makeMap t none) (ht:P.underlying t=some (.map kt vt)) (hM:M.tid=t) (st:St z e m k)
  (hk:∀v' m',St z e m' k→OwM M z e m' k [] v'→Same m m' none→(∀p,(∀b,p=some b→b<m.next)→Ap p (qgy v'))→D .new v' m'):StepX P ρ o m D:=by
 have hzd:z m.next= .dead:=by
  cases hz:z m.next with
  |dead=>rfl
  |ro rd=>have:=(st.fz m.next (by rw[hz];simp)).2;omega
  |own L t=>have:=(st.fz m.next (by rw[hz];simp)).2;omega
  |map L t=>have:=(st.fz m.next (by rw[hz];simp)).2;omega
  |lock _ _ _ _=>have:=(st.fz m.next (by rw[hz];simp)).2;omega
 refine StepX.new (.makeMap t kt vt h ht) (hk _ _ (st.push _) ⟨m.next,rfl,by simp[Mem.push,MTy.cells,MTy.ents,hM],by simp[Mem.push],hzd,st.next⟩ (qcu st.dead) fun p hp b hb hb2=> ?_)
 cases hb2
 have:=hp _ hb
 omega
theorem qqL [DecidableEq α] {kx vx:Operand} {b:β} {wv:Value} (h:o.op= .mapUpdate xt x kx vx∨o.op= .insert xt x kx vx) (hxt:P.underlying xt=some (.map kt vt)) (hu:P.underlying M.tid=some (.map kt vt)) (K:KeyOk P kt M.kc) (V:ValOk P vt M.vc)
  (hx:ρ x=v) (ho:OwM M z e m k es v) (hkx:ρ kx=wk) (hwk:wk=qal (qaj P kt) (M.kc a)) (hvx:ρ vx=wv) (hwv:wv=qal (qaj P vt) (M.vc b)) (st:St z e m k) {es':List (α×β)} (hes:qao es a b=es')
  (hk:∀m',St z e m' k→OwM M z e m' k es' v→Same m m' (qgy v)→D .eff undef m'):StepX P ρ o m D:=by
 obtain ⟨r,rfl,h1,h2,h3,h4⟩:=ho.ow
 subst hes
 have hs':=qdy (x:= .map (M.cells (qao es a b)) M.tid) st.dead h2
 have hfl:=qcU V b
 have hwv':=hvx.trans hwv
 have hst:storable (ρ vx)=true:=by
  rw[hwv']
  cases hc:qal (qaj P vt) (M.vc b)<;>first|rfl|(rw[hc] at hfl;simp[qbf,qah] at hfl;done)|(rw[hc] at hfl;simp only[qbf,qah,Bool.and_eq_true,Array.isEmpty_iff] at hfl;simp[storable,hfl.1,hfl.2])
 have hcells:∀c∈M.vc b,c∈(ρ vx).cells.toList:=by
  intro c hc
  rw[hwv']
  cases ha:qaj P vt with
  |true=>simpa[qal,Value.cells] using hc
  |false=>
   have h2:=V.len b
   rw[V.one ha] at h2
   match hv:M.vc b,h2 with
   |[d],_=>
    rw[hv] at hc
    simp at hc;subst hc
    simp only[qal,List.headD_cons]
    have hf:=V.flat b
    rw[hv] at hf
    simp at hf
    cases c<;>first|(simp[qah] at hf;done)|simp[Value.cells]
 refine StepX.eff (n:=0) (.mapUpdate xt x kx vx M.tid kt vt r _ (M.kc a) (M.vc b) _ (M.ents (qao es a b)) _ h hxt hu hx h1 (qgg K V es) K.pos K.keyed (hkx.trans hwk) (K.len a) (K.flat a) (by rw[hkx,hwk];exact K.flatV a) ⟨a,hkx.trans hwk⟩ (qhQ es) hst hwv' (V.len b) hcells (qp4 K a b es)) (hk _ (st.same hs' ho.hq) ⟨r,rfl,by simp[Mem.put,MTy.cells],h2,h3,h4⟩ hs')
end
end Go.AM
end
section
set_option linter.unusedSimpArgs false
set_option linter.unusedVariables false
namespace Go.AM
section
variable {P:Program} {ρ:Operand→Value} {o:Oper} {x y:Operand} {t u:TypeId} {k yk:IntKind} {a:Int}
noncomputable instance valueDec:DecidableEq Value:=fun _ _=>Classical.propDecidable _
def Scal (P:Program) (t:TypeId) (x y:Value):Prop:=
 (∃k k' a b,P.underlying t=some (.int k')∧x= .int k a∧y= .int k b)∨(∃a b,P.underlying t=some .bool∧x= .bool a∧y= .bool b)∨(∃a b,P.underlying t=some .string∧x=str a∧y=str b)
def ScalF (P:Program):List Field→Nat→List Value→List Value→Prop
 |[],_,[],[]=>True
 | f :: fs, i, x :: xs, y :: ys => f.offset = i ∧ f.name ≠ "_" ∧ Scal P f.type x y ∧ ScalF P fs (i + 1) xs ys
 |_,_,_,_=>False
theorem qoA {t:TypeId} {x y:Value} (h:Scal P t x y) (d:Nat) (w:World):(Op.equalIn (d+1) t x y).run P w= .ok (decide (x=y)) w:=by
 rcases h with ⟨k,k',a,b,h,rfl,rfl⟩|⟨a,b,h,rfl,rfl⟩|⟨a,b,h,rfl,rfl⟩
 ·rw[run_equalIn_int w d t k k' a b h]
  congr 1
  rw[Bool.eq_iff_iff];simp
 ·rw[run_equalIn_bool' w d t a b h]
  congr 1
  rw[Bool.eq_iff_iff];simp
 ·rw[str,str,run_equalIn_string w d t _ _ h]
  congr 1
  rw[Bool.eq_iff_iff]
  simp[ByteArray.toList_eq]
theorem qfS {t:TypeId} {x y:Value} (h:Scal P t x y):qaj P t=false:=by
 rcases h with ⟨k,k',a,b,h,_⟩|⟨a,b,h,_⟩|⟨a,b,h,_⟩<;>simp[qaj,h,aggT]
theorem qdw {t:TypeId} {cs:Array Value} {i:Nat} {v:Value} (ha:qaj P t=false) {d:TypeDesc} (hd:P.underlying t=some d) (hv:cs[i]? =some v) (w:World):(part t cs i).run P w= .ok v w:=by
 have:aggT d=false:=by simpa[qaj,hd] using ha
 simp[part,qe8 hd,this,hv]
theorem qky {t:TypeId} {x y:Value} (h:Scal P t x y):∃d,P.underlying t=some d:=by
 rcases h with ⟨k,k',a,b,h,_⟩|⟨a,b,h,_⟩|⟨a,b,h,_⟩<;>exact ⟨_,h⟩
theorem qfO {pre pre':List Value} (d:Nat) (w:World):∀{fs:List Field} {i:Nat} {xs ys:List Value},ScalF P fs i xs ys→pre.length=i→pre'.length=i→(Op.eqFields (d+1) (pre++xs).toArray (pre'++ys).toArray fs).run P w= .ok (decide (xs=ys)) w
 |[],i,[],[],_,_,_=>by simp[Op.eqFields]
 |f::fs,i,x::xs,y::ys,⟨h1,h2,h3,h4⟩,hp,hp'=>by
  obtain ⟨dd,hd⟩:=qky h3
  have ha:=qfS h3
  have g1:=qdw (P:=P) (cs:=(pre++x::xs).toArray) (i:=f.offset) (v:=x) ha hd (by rw[h1,←hp];simp) w
  have g2:=qdw (P:=P) (cs:=(pre'++y::ys).toArray) (i:=f.offset) (v:=y) ha hd (by rw[h1,←hp'];simp) w
  have ih:=qfO (pre:=pre++[x]) (pre':=pre'++[y]) d w h4 (by simp[hp]) (by simp[hp'])
  simp only[List.append_assoc,List.singleton_append] at ih
  simp only[Op.eqFields]
  rw[if_pos h2]
  simp only[Sem.run_bind,g1,g2,Result.andThen_ok,qoA h3 d w]
  by_cases hxy:x=y
  ·simp only[hxy,decide_true,Bool.not_true,Bool.false_eq_true,if_false]
   rw[←hxy] at ih⊢
   rw[hxy] at ih⊢
   rw[ih]
   simp
  ·simp[hxy]
 |[],_,_::_,_,h,_,_=>h.elim
 |[],_,[],_::_,h,_,_=>h.elim
 |_::_,_,[],_,h,_,_=>h.elim
 |_::_,_,_::_,[],h,_,_=>h.elim
theorem qne {fs:Array Field} {xs ys:List Value} (ht:P.underlying t=some (.struct fs)) (hp:P.stoodInHeld t=false) (h:ScalF P fs.toList 0 xs ys) (w:World):(Op.equalIn 10000 t (.agg xs.toArray) (.agg ys.toArray)).run P w= .ok (decide (xs=ys)) w:=by
 have hf:P.fieldsOf t=fs:=by simp[Program.fieldsOf,ht]
 rw[show (10000:Nat)=9998+1+1 from rfl,run_equalIn_struct w _ t _ _ (by rw[hf];exact ht) hp,hf]
 have:=qfO (P:=P) (pre:=[]) (pre':=[]) 9998 w h rfl rfl
 simpa using this
theorem ScalF.flat:∀{fs:List Field} {i:Nat} {xs ys:List Value},ScalF P fs i xs ys→xs.all qah=true∧ys.all qah=true
 |[],i,[],[],_=>⟨rfl,rfl⟩
 |f::fs,i,x::xs,y::ys,⟨_,_,h3,h4⟩=>by
  obtain ⟨g1,g2⟩:=ScalF.flat h4
  have:qah x=true∧qah y=true:=by rcases h3 with ⟨k,k',a,b,h,rfl,rfl⟩|⟨a,b,h,rfl,rfl⟩|⟨a,b,h,rfl,rfl⟩<;>exact ⟨rfl,rfl⟩
  simp[this.1,this.2,g1,g2]
 |[],_,_::_,_,h=>h.elim
 |[],_,[],_::_,h=>h.elim
 |_::_,_,[],_,h=>h.elim
 |_::_,_,_::_,[],h=>h.elim
theorem pEqA {fs:Array Field} {xs ys:List Value} {r:Bool} (neq:Bool) (h:o.op= .binOp (if neq then .neq else .eql) t x y u) (ht:P.underlying t=some (.struct fs)) (hp:P.stoodInHeld t=false) (hg:P.eqGuardType P.depth t=false) (hs:ScalF P fs.toList 0 xs ys)
  (hx:ρ x= .agg xs.toArray) (hy:ρ y= .agg ys.toArray) (hr:r=true↔xs=ys):PureR P ρ o (.bool (if neq then !r else r)):=by
 have hfl:=hs.flat
 refine qgj (x:=x) (y:=y) (by rw[h];rfl) (by rw[h];intros;simp) (by rw[hx];simpa[flat,qbf] using hfl.1) (by rw[hy];simpa[flat,qbf] using hfl.2) rfl fun w=> ?_
 have he:=qne ht hp hs w
 have hrd:decide (xs=ys)=r:=by
  by_cases hxy:xs=ys
  ·simp[hxy,hr.2 hxy]
  ·have:r=false:=by
    cases r with
    |false=>rfl
    |true=>exact absurd (hr.1 rfl) hxy
   simp[hxy,this]
 rw[hrd] at he
 cases neq with
 |false=>simp[execOp,h,hx,hy,run_eqGuard_agg w _ _ _ _ _ _ hg,run_eql_struct,he]
 |true=>simp[execOp,h,hx,hy,run_eqGuard_agg w _ _ _ _ _ _ hg,run_neq_struct,he]
end
section
variable {α:Type} {T:Ty α} {z:Nat→Blk} {e m:Mem} {k:Option Nat} {xs:List α} {v:Value} {t:TypeId}
variable {P:Program} {ρ:Operand→Value} {o:Oper} {x:Operand} {i:TypeInfo} {D:Tag→Value→Mem→Prop}
end
theorem qk7 {P:Program} {t:TypeId} {fs:Array Field} {xs:List Value} (ht:P.underlying t=some (.struct fs)) (h:ScalF P fs.toList 0 xs xs) (em:Bool) (w:World):(Instr.checkKey em 10000 t (.agg xs.toArray)).run P w= .ok () w:=by
 have key:∀{fs:List Field} {i:Nat} {ys pre:List Value},ScalF P fs i ys ys→pre.length=i→∀w,
   (forIn fs PUnit.unit fun f _=>(do
    if f.name ≠ "_" then Instr.checkKey em 9999 f.type (← part f.type (pre ++ ys).toArray f.offset)
    pure (ForInStep.yield PUnit.unit):Sem (ForInStep PUnit))).run P w= .ok PUnit.unit w:=by
  intro fs
  induction fs with
  |nil=>intro i ys pre h hp w;simp
  |cons f fs ih=>
   intro i ys pre h hp w
   cases ys with
   |nil=>exact h.elim
   |cons y ys=>
    obtain ⟨h1,h2,h3,h4⟩:=h
    obtain ⟨dd,hd⟩:=qky h3
    have g1:=qdw (P:=P) (cs:=(pre++y::ys).toArray) (i:=f.offset) (v:=y) (qfS h3) hd (by rw[h1,←hp];simp) w
    have g2:(Instr.checkKey em 9999 f.type y).run P w= .ok () w:=by
     have hq:∀n:Nat,(Instr.checkKey em (n+1) f.type y).run P w= .ok () w:=by
      intro n
      rcases h3 with ⟨k,k',a,b,h,rfl,_⟩|⟨a,b,h,rfl,_⟩|⟨a,b,h,rfl,_⟩<;>simp[Instr.checkKey,qas h,str]
     exact hq 9998
    have ih:=ih (pre:=pre++[y]) h4 (by simp[hp]) w
    simp only[List.append_assoc,List.singleton_append] at ih
    simp only[List.forIn_cons,if_pos h2,Sem.run_bind,g1,Result.andThen_ok,g2,Sem.run_pure]
    exact ih
 have:=key (pre:=[]) h rfl w
 simp only[List.nil_append] at this
 have hq:∀n:Nat,n=9999→(Instr.checkKey em (n+1) t (.agg xs.toArray)).run P w= .ok () w:=by
  rintro n rfl
  rw[Instr.checkKey]
  simp only[Sem.run_bind,qas ht,Result.andThen_ok,←Array.forIn_toList]
  erw [this]
  rfl
 exact hq 9999 rfl
theorem qkM {v:Value} (n:Nat) (h:(∃k a,v= .int k a)∨(∃a,v= .bool a)∨∃a,v=str a):Instr.sameBits n v v=true:=by
 rcases h with ⟨k,a,rfl⟩|⟨a,rfl⟩|⟨a,rfl⟩
 ·cases n<;>simp[Instr.sameBits]
 ·cases n<;>simp[Instr.sameBits]
 ·cases n<;>simp[Instr.sameBits,str,MapKept.bytes_beq]
theorem ScalF.mem {P:Program}:∀{fs:List Field} {i:Nat} {xs ys:List Value},ScalF P fs i xs ys→∀v∈xs,(∃k a,v= .int k a)∨(∃a,v= .bool a)∨∃a,v=str a
 |[],i,[],[],_,v,hv=>by simp at hv
 |f::fs,i,x::xs,y::ys,⟨_,_,h3,h4⟩,v,hv=>by
  rcases List.mem_cons.1 hv with rfl|hv
  ·rcases h3 with ⟨k,k',a,b,h,rfl,rfl⟩|⟨a,b,h,rfl,rfl⟩|⟨a,b,h,rfl,rfl⟩
   ·exact .inl ⟨_,_,rfl⟩
   ·exact .inr (.inl ⟨_,rfl⟩)
   ·exact .inr (.inr ⟨_,rfl⟩)
  ·exact ScalF.mem h4 v hv
 |[],_,_::_,_,h,_,_=>h.elim
 |[],_,[],_::_,h,_,_=>h.elim
 |_::_,_,[],_,h,_,_=>h.elim
 |_::_,_,_::_,[],h,_,_=>h.elim
theorem qpJ {P:Program} {kt:TypeId} {d:TypeDesc} {i:TypeInfo} {α:Type} {kc:α→List Value} (ht:P.underlying kt=some d) (hd:aggT d=true) (hi:P.info? kt=some i) (hpos:(i.size==0)=false) (hlen:∀a,(kc a).length=i.size)
  (hfl:∀a,(kc a).all qah=true) (hm:∀a,∀v∈kc a,(∃k n,v= .int k n)∨(∃n,v= .bool n)∨∃n,v=str n) (hinj:∀a b,kc a=kc b→a=b)
  (hck:∀a em w,(Instr.checkKey em 10000 kt (.agg (kc a).toArray)).run P w= .ok () w) (heq:∀a b w,(Op.equal kt (.agg (kc a).toArray) (.agg (kc b).toArray)).run P w= .ok (decide (kc a=kc b)) w):KeyOk P kt kc where
 len:=fun a=>by rw[hlen];simp[Program.cellsOf,hi]
 pos:=by
  have:i.size≠0:=by intro h;rw[h] at hpos;cases hpos
  simp[Program.cellsOf,hi];omega
 flat:=hfl
 flatV:=fun a=>by
  have:=hfl a
  simpa[qaj,ht,hd,qal,AM.flat,qbf] using this
 inj:=fun a b hab=>by
  simp only[qaj,ht,hd,qal] at hab
  injection hab with hab
  exact hinj a b (by simpa using hab)
 keyed:=by
  have hagg:∀a,qal (qaj P kt) (kc a)= .agg (kc a).toArray:=fun a=>by simp[qaj,ht,hd,qal]
  refine ⟨?_, ?_, ?_⟩
  ·rintro em v w ⟨a,rfl⟩
   rw[hagg]
   exact hck a em w
  ·rintro v es w ⟨a,rfl⟩ hes
   rw[hagg] at*
   have now:Instr.findNow d (.agg (kc a).toArray) es 0=(match es with|[]=>some none|_::_=>none):=by
    cases es with
    |nil=>rfl
    |cons e es=>cases d<;>first|(cases hd;done)|simp[Instr.findNow,Instr.sameNow]
   have asking:∀(es:List MapEntry) (n:Nat),(∀x∈es,∃b,x.key=qal (qaj P kt) (kc b))→(Instr.findAsking kt (.agg (kc a).toArray) es n).run P w= .ok (qbL (.agg (kc a).toArray) es n) w:=by
    intro es
    induction es with
    |nil=>intro n _;simp[Instr.findAsking,qbL]
    |cons e es ih=>
     intro n hes
     obtain ⟨b,hb⟩:=hes e (by simp)
     have he':(Op.equal kt (.agg (kc a).toArray) e.key).run P w= .ok (decide (kc a=kc b)) w:=by
      rw[hb,hagg];exact heq a b w
     have ih:=ih (n+1) fun x hx=>hes x (by simp[hx])
     simp only[Instr.findAsking,Sem.run_bind,he',Result.andThen_ok]
     by_cases hab:kc a=kc b
     ·have:e.key= .agg (kc a).toArray:=by rw[hb,hagg,hab]
      simp[hab,qbL,this]
     ·have:¬e.key= .agg (kc a).toArray:=by
       rw[hb,hagg]
       intro h
       injection h with h
       exact hab (by simpa using h.symm)
      simp[hab,qbL,this,ih]
   simp only[Instr.findKey,Sem.run_bind,qas ht,Result.andThen_ok,now]
   cases es with
   |nil=>simp[qbL]
   |cons e es=>exact asking (e::es) 0 hes
  ·rintro v w ⟨a,rfl⟩
   rw[hagg]
   have hb:Instr.sameBits 10000 (.agg (kc a).toArray) (.agg (kc a).toArray)=true:=by
    have hm:=hm a
    show (Instr.sameBits (9999+1) _ _)=true
    simp only[Instr.sameBits,beq_self_eq_true,Bool.true_and,List.all_eq_true]
    rintro ⟨p,q⟩ hpq
    have:p=q∧p∈kc a:=by
     have h1:=List.of_mem_zip hpq
     have:∀l:List Value,(p,q)∈l.zip l→p=q:=by
      intro l
      induction l with
      |nil=>intro h;simp at h
      |cons z l ih=>
       intro h
       simp at h
       rcases h with ⟨rfl,rfl⟩|h
       ·rfl
       ·exact ih h
     exact ⟨this _ (by simpa using hpq),by simpa using h1.1⟩
    obtain ⟨rfl,h2⟩:=this
    exact qkM _ (hm p h2)
   simp[Instr.keyThatStays,hb]
theorem ql6 {P:Program} {kt:TypeId} {fs:Array Field} {i:TypeInfo} {α:Type} {kc:α→List Value} (ht:P.underlying kt=some (.struct fs)) (hi:P.info? kt=some i) (hp:P.stoodInHeld kt=false) (hpos:(i.size==0)=false) (hlen:∀a,(kc a).length=i.size)
  (hs:∀a b,ScalF P fs.toList 0 (kc a) (kc b)) (hinj:∀a b,kc a=kc b→a=b):KeyOk P kt kc:=
 qpJ ht rfl hi hpos hlen (fun a=>(hs a a).flat.1) (fun a=>(hs a a).mem) hinj (fun a em w=>qk7 ht (hs a a) em w) fun a b w=>qne ht hp (hs a b) w
theorem qqM {P:Program} {kt e:TypeId} {i ie:TypeInfo} {k:IntKind} {α:Type} {kc:α→List Value} (f g:α→Int) (ht:P.underlying kt=some (.array 2 e)) (he:P.underlying e=some (.int k)) (hie:P.info? e=some ie) (h1:ie.size=1) (hi:P.info? kt=some i) (h2:i.size=2)
  (hk:∀a,kc a=[.int k (f a), .int k (g a)]) (hinj:∀a b,f a=f b→g a=g b→a=b):KeyOk P kt kc:=by
 have hsz:∀w,(Go.sizeOf e).run P w= .ok 1 w:=fun w=>by
  have:=run_sizeOf w hie
  simpa[Program.cellsOf,hie,h1] using this
 have hna:aggT (.int k)=false:=rfl
 have p0:∀(a:α) w,(part e (kc a).toArray 0).run P w= .ok (.int k (f a)) w:=fun a w=>qdw (P:=P) (cs:=(kc a).toArray) (i:=0) (v:= .int k (f a)) (qeh he hna) he (by rw[hk];rfl) w
 have p1:∀(a:α) w,(part e (kc a).toArray 1).run P w= .ok (.int k (g a)) w:=fun a w=>qdw (P:=P) (cs:=(kc a).toArray) (i:=1) (v:= .int k (g a)) (qeh he hna) he (by rw[hk];rfl) w
 refine qpJ (d:= .array 2 e) ht rfl hi (by rw[h2];rfl) (fun a=>by rw[hk,h2];rfl) (fun a=>by rw[hk];rfl) (fun a v hv=> ?_) (fun a b h=> ?_) (fun a em w=> ?_) fun a b w=> ?_
 ·rw[hk] at hv
  rcases List.mem_cons.1 hv with rfl|hv
  ·exact .inl ⟨_,_,rfl⟩
  ·rcases List.mem_cons.1 hv with rfl|hv
   ·exact .inl ⟨_,_,rfl⟩
   ·cases hv
 ·rw[hk,hk] at h
  injection h with h3 h4
  injection h4 with h4 _
  exact hinj a b (by injection h3) (by injection h4)
 ·have hc:∀(n:Nat) x w,(Instr.checkKey em (n+1) e (.int k x)).run P w= .ok () w:=by
   intro n x w
   simp[Instr.checkKey,qas he]
  have hq:∀n:Nat,(Instr.checkKey em (n+1+1) kt (.agg (kc a).toArray)).run P w= .ok () w:=by
   intro n
   rw[Instr.checkKey]
   simp only[Sem.run_bind,qas ht,Result.andThen_ok]
   simp only[Std.Legacy.Range.forIn_eq_forIn_range',Std.Legacy.Range.size,Nat.sub_zero,Nat.add_one_sub_one,Nat.div_one]
   simp[show List.range' 0 2=[0,1] from rfl,hsz,p0,p1,hc]
  exact hq 9998
 ·have he1:∀(n:Nat) x y w,(Op.equalIn (n+1) e (.int k x) (.int k y)).run P w= .ok (x==y) w:=by
   intro n x y w
   simp[Op.equalIn,qas he]
  have hq:∀n:Nat,(Op.equalIn (n+1+1) kt (.agg (kc a).toArray) (.agg (kc b).toArray)).run P w= .ok (decide (kc a=kc b)) w:=by
   intro n
   rw[Op.equalIn]
   simp only[Sem.run_bind,qas ht,Result.andThen_ok,hsz]
   simp only[Std.Legacy.Range.forIn_eq_forIn_range',Std.Legacy.Range.size,Nat.sub_zero,Nat.add_one_sub_one,Nat.div_one]
   have hd:decide (kc a=kc b)=(f a==f b&&g a==g b):=by
    rw[hk,hk,Bool.eq_iff_iff]
    simp
   rw[hd]
   cases h3:f a==f b<;>cases h4:g a==g b<;>simp[show List.range' 0 2=[0,1] from rfl,hsz,p0,p1,he1,h3,h4]
  exact hq 9998
@[reducible] def vI (n:Int):Value:= .int .i64 n
@[reducible] def vB (b:Bool):Value:= .bool b
@[reducible] def vP (b:Nat):Value:= .pointer (some ⟨b,0,none⟩)
section
variable {P:Program} {ops l:List Oper} {K:(Nat→Value)→Mem→Prop} {fr:Nat→Value} {m:Mem} {o:Oper} {v:Value}
theorem sx (hg:wanted ops fr o=true) (h:PureR P (ev fr) o v) (hk:SeqW P ops l K (set fr o.dst v) m):SeqW P ops (o::l) K fr m:=SeqW.consX hg (StepX.pure h hk)
theorem kx {j d:Nat} {want bb:Bool} (hg:o.guard=some (j,want)) (hd:(ops[j]?).bind (·.dst)=some d) (hv:fr d= .bool bb) (hb:bb= !want) (h:SeqW P ops l K (set fr o.dst undef) m):SeqW P ops (o::l) K fr m:=SeqW.skipG hg hd hv hb h
end
structure OwK {α:Type} (T:Ty α) (z:Nat→Blk) (e m:Mem) (k:Option Nat) (xs:List α) (v:Value):Prop where
 ow:Ow T z m xs v
 fresh:∀b,qag v=some b→e.next≤b∨k=some b
section
variable {α:Type} {T:Ty α} {z z':Nat→Blk} {e m m':Mem} {k q:Option Nat} {xs:List α} {v v0:Value} {t:TypeId}
variable {P:Program} {ρ:Operand→Value} {o:Oper} {w:Value} {ys:List α} {x y:Operand} {u:TypeId} {i:TypeInfo} {K:Value→Mem→Prop} {D:Tag→Value→Mem→Prop}
end
end Go.AM
end
section
set_option linter.unusedVariables false
set_option linter.unusedSimpArgs false
namespace Go.AM
theorem qh3 (w:World):∀b,(mem0 w).next≤b→(mem0 w).blk b= .dead:=(qmk w).dead
theorem qqS (w:World):Fz (mem0 w).blk (mem0 w):=fun b hb=>⟨by
 by_cases h:b<w.heap.size
 ·simp[mem0,h,Blk.mem]
 ·simp[mem0,h,Blk.mem],by
 by_cases h:b<(mem0 w).next
 ·exact h
 ·exact absurd (qh3 w b (by omega)) hb⟩
theorem qeW {w:World} {b:Nat} (h:b<w.heap.size):((mem0 w).blk b).fzn:=by
 simp[mem0,h,Blk.fzn]
theorem ldz0 {w:World} {b o:Nat} {v:Value} (h:(mem0 w).load b o=some v):ldz (mem0 w).blk b o=some v:=by
 unfold Mem.load at h
 unfold ldz
 exact h
open Classical in
noncomputable def seen (w:World) (b:Nat) (c:Value):Value:=if VR0 (emb0 w) c c then c else (qjh b c).getD c
theorem qby {w:World} {b:Nat} {c:Value} (h:VR0 (emb0 w) c c):seen w b c=c:=by simp[seen,h]
def okc (w:World) (c:Value):Prop:=VR0 (emb0 w) c c∨∃a,c= .slice (some a) 0 0
theorem qds {w:World} {c:Value} (h:qah c=true):okc w c:= .inl (qaD h)
theorem qcw {w:World} {b:Nat} {c:Value} (h:qah c=true):seen w b c=c:=qby (qaD h)
theorem qv8 {w:World} {b:Nat} {c:Value} (h:okc w c) (hb:b<w.heap.size):VR0 (emb0 w) (seen w b c) c:=by
 by_cases hv:VR0 (emb0 w) c c
 ·rw[qby hv];exact hv
 ·rcases h with h|⟨a,rfl⟩
  ·exact absurd h hv
  ·simp only[seen,hv,if_false,qjh,Option.getD_some]
   exact ⟨⟨b,0,0,0⟩,rfl,by simp[emb0,hb], .inr (.inr (.inr ⟨rfl,rfl,a,rfl⟩))⟩
theorem qn6 {w:World} {b o:Nat} {c:Value} (h:okc w c) (hc:w.cell? ⟨b,o,none⟩=some c):(mem0 w).load b o=some (seen w b c):=by
 have hlt:b<w.heap.size:=World.block_lt_of_cell? w ⟨b,o,none⟩ hc
 by_cases hv:VR0 (emb0 w) c c
 ·rw[qby hv];exact qmj hc hv
 ·rcases h with h|⟨a,rfl⟩
  ·exact absurd h hv
  ·simp[Mem.load,mem0,hlt,hc,hv,qjh,seen]
theorem qlD {w:World} {a:Addr} {v:Value} (h:w.cell? a=some v):a.spot=none∧a.block<w.heap.size:=by
 refine ⟨?_,World.block_lt_of_cell? w a h⟩
 simp only[World.cell?] at h
 split at h
 ·split at h
  ·cases h
  ·rename_i hs;simpa using hs
 ·cases h
structure Opn (P:Program) {α:Type} (T:Ty α) (G:α→Prop):Prop where
 sz:P.cellsOf T.tid=T.sz
 pos:0<T.sz
 rd:∀{H:Type} {enc:TypeId×Value→H} {w:World} {fuel:Nat} {cs:List Value} {x:DataW H×List MemPlace},DataW.trod enc P w 0 (fun _=>true) true fuel T.tid cs=some x→
  (∀c∈cs,okc w c)∧∀b,(b<w.heap.size∨∀c∈cs,VR0 (emb0 w) c c)→∃a,T.rd (mem0 w).blk a (cs.map (seen w b))∧G a
theorem Opn.conv {P:Program} {α:Type} {T T':Ty α} {G:α→Prop} (h:Opn P T G) (ht:T'.tid=T.tid) (hs:T'.sz=T.sz) (hr:∀z x cs,T.rd z x cs→T'.rd z x cs):Opn P T' G where
 sz:=by rw[ht,hs];exact h.sz
 pos:=by rw[hs];exact h.pos
 rd:=fun e=>by
  rw[ht] at e
  obtain ⟨h1,h2⟩:=h.rd e
  exact ⟨h1,fun b hb=>by obtain ⟨x,hx,hg⟩:=h2 b hb;exact ⟨x,hr _ _ _ hx,hg⟩⟩
def gInt (k:IntKind) (n:Int):Prop:=k.min≤n∧n≤k.max
def gStr (s:List UInt8):Prop:=s.length≤maxLen
def gAny {α:Type} (_:α):Prop:=True
def gSl {α:Type} (G:α→Prop) (xs:List α):Prop:=xs.length≤maxLen∧∀x∈xs,G x
theorem qq3 {P:Program} {t:TypeId} {k:IntKind} {i:TypeInfo} (ht:P.underlying t=some (.int k)) (hi:P.info? t=some i) (hs:i.size=1):Opn P (TInt t k) (gInt k) where
 sz:=by simp[TInt,Ty.flat,Program.cellsOf,hi,hs]
 pos:=by simp[TInt,Ty.flat]
 rd:=fun h=>by
  obtain ⟨n,rfl,_,hw⟩:=DataW.trod_int ht h
  exact ⟨fun c hc=>by simp at hc;subst hc;exact qds rfl,fun b _=>⟨n,by simp[TInt,Ty.flat,qcw (w:=_) (b:=b) (c:= .int k n) rfl],by simpa[Lit.wf,gInt] using hw⟩⟩
theorem qxN {P:Program} {t:TypeId} {i:TypeInfo} (ht:P.underlying t=some (.int .u8)) (hi:P.info? t=some i) (hs:i.size=1):Opn P (TU8 t) gAny where
 sz:=by simp[TU8,Ty.flat,Program.cellsOf,hi,hs]
 pos:=by simp[TU8,Ty.flat]
 rd:=fun h=>by
  obtain ⟨n,rfl,_,hw⟩:=DataW.trod_int ht h
  refine ⟨fun c hc=>by simp at hc;subst hc;exact qds rfl,fun b _=>⟨UInt8.ofNat n.toNat, ?_,trivial⟩⟩
  simp[Lit.wf,IntKind.min,IntKind.max,IntKind.signed,IntKind.bits] at hw
  have:((UInt8.ofNat n.toNat).toNat:Int)=n:=by simp;omega
  show [Value.int .u8 n].map (seen _ b)=[Value.int .u8 ((UInt8.ofNat n.toNat).toNat:Int)]
  rw[this]
  simp[qcw (w:=_) (b:=b) (c:= .int .u8 n) rfl]
theorem qv9 {P:Program} {t:TypeId} {i:TypeInfo} (ht:P.underlying t=some .bool) (hi:P.info? t=some i) (hs:i.size=1):Opn P (qlq t) gAny where
 sz:=by simp[qlq,Ty.flat,Program.cellsOf,hi,hs]
 pos:=by simp[qlq,Ty.flat]
 rd:=fun h=>by
  obtain ⟨n,rfl,_⟩:=DataW.trod_bool ht h
  exact ⟨fun c hc=>by simp at hc;subst hc;exact qds rfl,fun b _=>⟨n,by simp[qlq,Ty.flat,qcw (w:=_) (b:=b) (c:= .bool n) rfl],trivial⟩⟩
theorem qwP {P:Program} {t:TypeId} {i:TypeInfo} (ht:P.underlying t=some .string) (hi:P.info? t=some i) (hs:i.size=1):Opn P (TStr t) gStr where
 sz:=by simp[TStr,Ty.flat,Program.cellsOf,hi,hs]
 pos:=by simp[TStr,Ty.flat]
 rd:=fun h=>by
  obtain ⟨n,rfl,_,hs⟩:=DataW.trod_string ht h
  exact ⟨fun c hc=>by simp at hc;subst hc;exact qds rfl,fun b _=>⟨n.data.toList,by simp[TStr,Ty.flat,str,qcw (w:=_) (b:=b) (c:= .string n) rfl],by simpa[gStr] using hs⟩⟩
theorem qmL {P:Program} {α:Type} {T:Ty α} {G:α→Prop} {t:TypeId} (hT:Opn P T G) (ht:P.underlying t=some (.slice T.tid)) {H:Type} {enc:TypeId×Value→H} {w:World} {fuel:Nat} {cs:List Value} {x:DataW H×List MemPlace}
  (h:DataW.trod enc P w 0 (fun _=>true) true fuel t cs=some x):∃c,cs=[c]∧okc w c∧∀b,(b<w.heap.size∨VR0 (emb0 w) c c)→∃xs,SlR T (mem0 w).blk xs (seen w b c)∧gSl G xs:=by
 rcases Deep.open_slice ht h with ⟨rfl,_⟩|⟨a,len,cap,m,n,D,Pl,rfl,_,hl,hm,hmm,_,hx⟩
 ·exact ⟨_,rfl,qds rfl,fun b _=>⟨[],by rw[qcw rfl];exact .nil,by simp[gSl]⟩⟩
 ·simp only[if_true] at hmm
  subst hmm
  refine ⟨_,rfl, ?_⟩
  rcases Nat.eq_zero_or_pos m with h0|hpos
  ·subst h0
   have hl0:len=0:=by omega
   subst hl0
   refine ⟨.inr ⟨a,rfl⟩,fun b hb=>⟨[], ?_,by simp[gSl]⟩⟩
   by_cases hv:VR0 (emb0 w) (.slice (some a) 0 0) (.slice (some a) 0 0)
   ·rw[qby hv]
    obtain ⟨e,h1,h2,_⟩:=hv
    obtain ⟨blk,off,spot⟩:=a
    simp only at h1 h2
    subst h1
    exact .inr ⟨blk,off,0,rfl,qeW (qdJ h2).1, .inr ⟨by simp[BIG],Nat.le_refl _⟩,fun i x hi=>by simp at hi⟩
   ·have hb:b<w.heap.size:=by
     rcases hb with hb|hb
     ·exact hb
     ·exact absurd hb hv
    simp only[seen,hv,if_false,qjh,Option.getD_some]
    exact .inr ⟨b,0,0,rfl,qeW hb, .inr ⟨by simp[BIG],Nat.le_refl _⟩,fun i x hi=>by simp at hi⟩
  ·have hs:=hT.sz
   have hp:=hT.pos
   obtain ⟨cs0,g1,_⟩:=hx 0 hpos
   obtain ⟨_,g2,g3⟩:=World.cells?_some g1
   rw[hs] at g2 g3
   have g4:=g3 0 hp
   obtain ⟨v0,hv0⟩:∃v,cs0[0]? =some v:=⟨cs0[0]'(by omega),by simp[show 0<cs0.length by omega]⟩
   rw[hv0] at g4
   simp only[Nat.zero_mul] at g4
   have hadd:(a.add 0).add 0=a:=by simp[Addr.add]
   rw[hadd] at g4
   obtain ⟨hsp,hblk⟩:=qlD g4
   obtain ⟨blk,off,spot⟩:=a
   simp only at hsp hblk
   subst hsp
   have hv:VR0 (emb0 w) (.slice (some ⟨blk,off,none⟩) len m) (.slice (some ⟨blk,off,none⟩) len m):=
    ⟨⟨blk,0,0,0⟩,rfl,by simp[emb0,hblk], .inl ⟨by simp only[maxLen] at hm;simp only[BIG];omega,by simp⟩⟩
   refine ⟨.inl hv,fun b _=> ?_⟩
   rw[qby hv]
   have hel:∀i,i<len→∃y:α,G y∧∃ds,T.rd (mem0 w).blk y ds∧qa1 (mem0 w).blk blk (off+i*T.sz) ds:=by
    intro i hi
    obtain ⟨ci,k1,k2⟩:=hx i (by omega)
    obtain ⟨_,k3,k4⟩:=World.cells?_some k1
    rw[hs] at k3 k4
    obtain ⟨hok,hrd⟩:=hT.rd k2
    obtain ⟨y,hy,hG⟩:=hrd blk (.inl hblk)
    refine ⟨y,hG,_,hy,fun j u hj=> ?_⟩
    rw[List.getElem?_map] at hj
    cases hc:ci[j]? with
    |none=>rw[hc] at hj;cases hj
    |some c=>
     rw[hc] at hj
     simp at hj
     subst hj
     have hjl:=(List.getElem?_eq_some_iff.1 hc).1
     have k5:=k4 j (by omega)
     rw[hc,qaY,qaY] at k5
     exact ldz0 (qn6 (hok c (List.mem_of_getElem? hc)) k5)
   have:∃xs:List α,xs.length=len∧(∀y∈xs,G y)∧∀(i:Nat) (y:α),xs[i]? =some y→∃ds,T.rd (mem0 w).blk y ds∧qa1 (mem0 w).blk blk (off+i*T.sz) ds:=by
    clear hx hl hm hv g1 hpos
    revert hel
    generalize len=l
    induction l with
    |zero=>intro _;exact ⟨[],rfl,fun y hy=>by simp at hy,fun i y hi=>by simp at hi⟩
    |succ l ih=>
     intro hel
     obtain ⟨xs,e1,e0,e2⟩:=ih fun i hi=>hel i (by omega)
     obtain ⟨y,hG,hy⟩:=hel l (by omega)
     refine ⟨xs++[y],by simp[e1],fun u hu=>by rcases List.mem_append.1 hu with hu|hu;exact e0 u hu;simp at hu;subst hu;exact hG,fun i u hi=> ?_⟩
     by_cases hil:i<l
     ·rw[List.getElem?_append_left (by omega)] at hi
      exact e2 i u hi
     ·have hlt:=(List.getElem?_eq_some_iff.1 hi).1
      simp at hlt
      have:i=l:=by omega
      subst this
      rw[List.getElem?_append_right (by omega)] at hi
      simp[e1] at hi
      subst hi
      exact hy
   obtain ⟨xs,e1,e0,e2⟩:=this
   refine ⟨xs, .inr ⟨blk,off,m,by rw[e1],qeW hblk, .inr ⟨by simp only[maxLen] at hm;simp only[BIG];omega,by rw[e1];exact hl⟩,e2⟩,by omega,e0⟩
theorem qxM {P:Program} {α:Type} {T:Ty α} {G:α→Prop} {t:TypeId} {i:TypeInfo} (hT:Opn P T G) (ht:P.underlying t=some (.slice T.tid)) (hi:P.info? t=some i) (hs:i.size=1):Opn P (TSl t T) (gSl G) where
 sz:=by simp[TSl,Program.cellsOf,hi,hs]
 pos:=by simp[TSl]
 rd:=fun h=>by
  obtain ⟨c,rfl,h1,h2⟩:=qmL hT ht h
  refine ⟨fun d hd=>by simp at hd;subst hd;exact h1,fun b hb=> ?_⟩
  obtain ⟨xs,hx,hG⟩:=h2 b (hb.imp id fun h=>h c (by simp))
  exact ⟨xs,⟨_,rfl,hx⟩,hG⟩
theorem qqb {P:Program} {α:Type} {T:Ty α} {G:α→Prop} {t:TypeId} (hT:Opn P T G) (ht:P.underlying t=some (.slice T.tid)) {H:Type} {enc:TypeId×Value→H} {w:World} {base:Nat} {v:Value} {d:DataW H} {ps:List MemPlace}
  (hok:Value.okWide P w .any base t v) (h:DataW.Trod enc P w 0 (fun _=>true) true t v d ps):VR (emb0 w) v v∧∃xs,SlR T (mem0 w).blk xs v∧gSl G xs:=by
 obtain ⟨fuel,hf⟩:=h
 obtain ⟨c,hc,h1,h2⟩:=qmL hT ht hf
 have hv:VR0 (emb0 w) v v∧c=v:=by
  simp only[Value.okWide,ht,Cell.okWide,Cell.ok] at hok
  cases v with
  |slice a l cp=>
   have hcv:c= .slice a l cp:=by simpa[Value.cells] using hc.symm
   refine ⟨?_,hcv⟩
   cases a with
   |none=>exact rfl
   |some a=>
    simp only at hok
    obtain ⟨hl,hm,hh⟩:=hok
    obtain ⟨_,hs,row,cells,hsh,_⟩:=hh
    have hlt:a.block<w.heap.size:=by
     by_cases hb:a.block<w.heap.size
     ·exact hb
     ·simp[World.shape?,Array.getElem?_eq_none (Nat.le_of_not_lt hb)] at hsh
    obtain ⟨blk,off,spot⟩:=a
    simp only at hs hlt
    subst hs
    refine ⟨⟨blk,0,0,0⟩,rfl,by simp[emb0,hlt], .inl ⟨?_,by simp⟩⟩
    simp only[IntKind.max,IntKind.signed,IntKind.bits] at hm
    simp only[BIG]
    simp at hm
    omega
  |_=>simp at hok
 obtain ⟨hv,rfl⟩:=hv
 refine ⟨VR.of0 hv, ?_⟩
 obtain ⟨xs,hx⟩:=h2 0 (.inr hv)
 rw[qby hv] at hx
 exact ⟨xs,hx⟩
theorem qqi {P:Program} {w:World} {base:Nat} {u:TypeId} {c:Value} (h:Cell.okWide P w .any base u c) (hc:okc w c):VR0 (emb0 w) c c:=by
 rcases hc with hc|⟨a,rfl⟩
 ·exact hc
 ·cases hu:P.underlying u with
  |none=>simp[Cell.okWide,Cell.ok,hu] at h
  |some d=>
   cases d<;>simp only[Cell.okWide,Cell.ok,hu] at h
   obtain ⟨_,_,_,hs,row,cells,hsh,_⟩:=h
   have hlt:a.block<w.heap.size:=by
    by_cases hb:a.block<w.heap.size
    ·exact hb
    ·simp[World.shape?,Array.getElem?_eq_none (Nat.le_of_not_lt hb)] at hsh
   obtain ⟨blk,off,spot⟩:=a
   simp only at hs hlt
   subst hs
   exact ⟨⟨blk,0,0,0⟩,rfl,by simp[emb0,hlt], .inl ⟨by simp[BIG],by simp⟩⟩
theorem qwn {P:Program} {α:Type} {T:Ty α} {G:α→Prop} {fs:Array Field} (hT:Opn P T G) (ht:P.underlying T.tid=some (.struct fs)) {H:Type} {enc:TypeId×Value→H} {w:World} {base:Nat} {v:Value} {d:DataW H} {ps:List MemPlace}
  (hok:Value.okWide P w .any base T.tid v) (h:DataW.Trod enc P w 0 (fun _=>true) true T.tid v d ps):VR (emb0 w) v v∧∃x cs,v= .agg cs.toArray∧T.rd (mem0 w).blk x cs∧G x:=by
 obtain ⟨fuel,hf⟩:=h
 simp only[Value.okWide,ht] at hok
 obtain ⟨cs,rfl,hsz,ts,hts,_,hcell⟩:=hok
 have hf':DataW.trod enc P w 0 (fun _=>true) true fuel T.tid cs.toList=some (d,ps):=by simpa[Value.cells] using hf
 obtain ⟨h1,h2⟩:=hT.rd hf'
 have hall:∀c∈cs.toList,VR0 (emb0 w) c c:=by
  intro c hc
  obtain ⟨i,hi⟩:=List.getElem?_of_mem hc
  obtain ⟨u,_,hu⟩:=hcell i c (by simpa using hi)
  exact qqi hu (h1 c hc)
 obtain ⟨x,hx,hG⟩:=h2 0 (.inr hall)
 have hmap:cs.toList.map (seen w 0)=cs.toList:=by
  have:∀l:List Value,(∀c∈l,VR0 (emb0 w) c c)→l.map (seen w 0)=l:=by
   intro l
   induction l with
   |nil=>intro _;rfl
   |cons c l ih=>intro hl;rw[List.map_cons,qby (hl c (by simp)),ih fun d hd=>hl d (by simp[hd])]
  exact this _ hall
 rw[hmap] at hx
 refine ⟨⟨cs,rfl, ?_⟩,x,cs.toList,by simp,hx,hG⟩
 have:∀l:List Value,(∀c∈l,VR0 (emb0 w) c c)→L2 (VR0 (emb0 w)) l l:=by
  intro l
  induction l with
  |nil=>intro _;exact True.intro
  |cons c l ih=>intro hl;exact ⟨hl c (by simp),ih fun d hd=>hl d (by simp[hd])⟩
 exact this _ hall
theorem fld {P:Program} {H:Type} {enc:TypeId×Value→H} {w:World} {n:Nat} {fs:Array Field} {cs:List Value} {xs:List (DataW H×List MemPlace)} (hlen:xs.length=fs.size)
  (hf:∀(i:Nat) (f:Field),fs[i]? =some f→DataW.trod enc P w 0 (fun _=>true) true n f.type ((cs.drop f.offset).take (P.cellsOf f.type))=xs[i]?) (i:Nat) {f:Field} (hi:fs[i]? =some f):
  ∃y,DataW.trod enc P w 0 (fun _=>true) true n f.type ((cs.drop f.offset).take (P.cellsOf f.type))=some y:=by
 have hlt:=(Array.getElem?_eq_some_iff.1 hi).1
 rw[hf i f hi]
 exact ⟨xs[i]'(by omega),by simp[show i<xs.length by omega]⟩
theorem qwo {P:Program} {α:Type} {T:Ty α} {t e:TypeId} (ht:P.underlying t=some (.slice e)) {H:Type} {enc:TypeId×Value→H} {w:World} {v:Value} {d:DataW H} {ps:List MemPlace} {z:Nat→Blk} {xs:List α}
  (h:DataW.Trod enc P w 0 (fun _=>true) true t v d ps) (hs:SlR T z xs v):xs.length=0∨∃elems spare,d= .slice elems spare∧elems.length=xs.length:=by
 obtain ⟨fuel,hf⟩:=h
 rcases hs with ⟨rfl,rfl⟩|⟨b,off,c,rfl,_⟩
 ·exact .inl rfl
 ·rcases Deep.open_slice ht hf with ⟨h0,_⟩|⟨a,len,cap,m,n,D,Pl,hc,_,_,_,_,hx,_⟩
  ·simp[Value.cells] at h0
  ·simp only[Value.cells,List.cons.injEq,Value.slice.injEq,and_true] at hc
   obtain ⟨_,h1,_⟩:=hc
   injection hx with hx _
   exact .inr ⟨_,_,hx,by simp[←h1]⟩
end Go.AM
end
section
set_option linter.unusedSimpArgs false
set_option linter.unusedVariables false
namespace Go.AM
section
variable {z:Nat→Blk} {e m:Mem} {k:Option Nat} {b n:Nat} {cs:List Value} {t:TypeId} {v:Value}
variable {P:Program} {ρ:Operand→Value} {o:Oper} {x:Operand} {i:TypeInfo} {D:Tag→Value→Mem→Prop}
theorem Bx.lend (h:Bx z e m k b cs t) (st:St z e m k):∃z',Zle z z'∧St z' e m k∧qa1 z' b 0 cs∧∀p,Ap p (some b)→∀c,p=some c→z' c=z c:=by
 refine ⟨frz z m (some b),qhU fun c hc=>by cases hc;exact h.dead,⟨qj2 st.fz (fun c hc=>by cases hc;exact ⟨h.lt,by rw[h.blk];rfl⟩),st.dead,st.dead0,st.next,st.kept⟩,fun j u hj=> ?_,fun p hp c hc=> ?_⟩
 ·simp only[ldz,frz,if_true,h.blk,Nat.zero_add];exact hj
 ·unfold frz
  rw[if_neg (hp c hc)]
theorem Bx.freeze (h:Bx z e m k b cs t) (hn:e.next≤b) (st:St z e m k):∃z',Zx e.next z z'∧St z' e m k∧qa1 z' b 0 cs∧∀p,Ap p (some b)→∀c,p=some c→z' c=z c:=by
 obtain ⟨z',h1,h2,h3,h4⟩:=h.lend st
 refine ⟨frz z m (some b),⟨qhU fun c hc=>by cases hc;exact h.dead,fun c hc=> ?_⟩,⟨qj2 st.fz (fun c hc=>by cases hc;exact ⟨h.lt,by rw[h.blk];rfl⟩),st.dead,st.dead0,st.next,st.kept⟩,fun j u hj=> ?_,fun p hp c hc=> ?_⟩
 ·unfold frz
  rw[if_neg (by intro hb;cases hb;omega)]
 ·simp only[ldz,frz,if_true,h.blk,Nat.zero_add];exact hj
 ·unfold frz
  rw[if_neg (hp c hc)]
theorem qqI (h:o.op= .alloc t) (hi:P.info? t=some i) {zv:Value} (hz:i.zero=some zv) (hzf:zv.cells.toList.all qah=true) (hs:zv.cells.size=i.size) (cs:List Value) (hc:zv.cells.toList=cs) (st:St z e m k)
  (hk:∀b m',e.next≤b→St z e m' k→Bx z e m' k b cs t→Same m m' none→(∀p,(∀c,p=some c→c<m.next)→Ap p (some b))→D .new (.pointer (some ⟨b,0,none⟩)) m'):StepX P ρ o m D:=by
 subst hc
 obtain ⟨h2,h3,h4,h5⟩:=qlV (L:=zv.cells.toList) (t:=t) st
 exact StepX.new (.alloc t i zv h hi hz hzf hs) (hk _ _ st.next h2 h3 h4 h5)
theorem qwB (h:o.op= .box t x) (hi:P.info? t=some i) (hx:ρ x=v) (hv:storable v=true) (cs:List Value) (hc:v.cells.toList=cs) (hs:cs.length=i.size) (st:St z e m k)
  (hk:∀b m',e.next≤b→St z e m' k→Bx z e m' k b cs t→Same m m' none→(∀p,(∀c,p=some c→c<m.next)→Ap p (some b))→D .new (.pointer (some ⟨b,0,none⟩)) m'):StepX P ρ o m D:=by
 subst hx hc
 obtain ⟨h2,h3,h4,h5⟩:=qlV (L:=(ρ x).cells.toList) (t:=t) st
 exact StepX.new (.box t x i h hi hv (by simpa using hs)) (hk _ _ st.next h2 h3 h4 h5)
theorem qsN {fn:Fn} {cap:Array Operand} {caps:Array Value} (h:o.op= .makeFunc fn #[] cap) (hc:cap.map ρ=caps) (hs:caps.toList.all storable=true):PureR P ρ o (.func fn #[] caps):=by
 subst hc
 have:=PureR.func (P:=P) (ρ:=ρ) (o:=o) fn #[] cap h (fun x hx=>by
  simp only[List.nil_append] at hx
  have:=List.all_eq_true.1 hs (ρ x) (by simp only[Array.toList_map];exact List.mem_map_of_mem (by simpa using hx))
  exact this)
 simpa using this
theorem qdg {f:FuncId} {y:Operand} {as:Array Operand} {ts:Array TypeId} {args caps all:Array Value} (h:o.op= .call {callee:= .value y,args:=as,argTypes:=ts}) (hf:ρ y= .func (.func f) #[] caps) (ha:as.map ρ=args) (hall:args++caps=all):callee o ρ f all:=
 ⟨_,as,ts,#[],caps,h,hf,by rw[ha,←hall];simp⟩
end
open Classical in
noncomputable def nilT {α β:Type} (xs:List α) (f:Bool→Option β):Option β:=if xs=[] then (if f true=f false then f true else none) else f false
theorem qdp {α β:Type} {xs:List α} {f:Bool→Option β} {r:β} (h:nilT xs f=some r) (t:Bool) (ht:t=true→xs=[]):f t=some r:=by
 unfold nilT at h
 by_cases hx:xs=[]
 ·rw[if_pos hx] at h
  split at h
  ·cases t
   ·rename_i he;rw[←he];exact h
   ·exact h
  ·cases h
 ·rw[if_neg hx] at h
  cases t
  ·exact h
  ·exact absurd (ht rfl) hx
theorem qms {α β:Type} {xs:List α} {f:Bool→Option β} {r:β} (h:∀t,(t=true→xs=[])→f t=some r):nilT xs f=some r:=by
 unfold nilT
 by_cases hx:xs=[]
 ·rw[if_pos hx,if_pos (by rw[h true fun _=>hx,h false (by simp)])];exact h true fun _=>hx
 ·rw[if_neg hx];exact h false (by simp)
section
variable {α β:Type} {T:Ty α} {z:Nat→Blk} {e m:Mem} {k:Option Nat} {xs:List α} {v:Value} {t u:TypeId} {f:Bool→Option β} {r:β}
variable {P:Program} {ρ:Operand→Value} {o:Oper} {x y:Operand} {te:TypeId}
theorem qgG (neq:Bool) (h:o.op= .binOp (if neq then .neq else .eql) t x y u) (ht:P.underlying t=some (.slice te)) (hx:ρ x= .slice none 0 0) (hy:ρ y= .slice none 0 0):PureR P ρ o (.bool (!neq)):=by
 refine qgj (x:=x) (y:=y) (by rw[h];rfl) (by rw[h];intros;simp) (by rw[hx];rfl) (by rw[hy];rfl) rfl fun w=> ?_
 have hg:(eqGuard (if neq then .neq else .eql) t x y (.slice none 0 0) (.slice none 0 0)).run P w= .ok () w:=by
  cases neq<;>simp[eqGuard]
 have hb:(binOp (if neq then .neq else .eql) t (.slice none 0 0) (.slice none 0 0)).run P w= .ok (.bool (!neq)) w:=by
  cases neq
  ·exact Lib.run_eql_slice_nil w t te none 0 0 0 0 ht
  ·exact run_neq_slice_nil_any w t te none 0 0 0 0 ht
 simp only[execOp,h,hx,hy,Sem.run_bind,hg,hb,Result.andThen_ok,Sem.run_pure]
theorem SlR.nilOr (h:SlR T z xs v):(v= .slice none 0 0∧xs=[])∨∃a l c,v= .slice (some a) l c:=by
 rcases h with h|⟨b,off,c,rfl,_⟩
 ·exact .inl h
 ·exact .inr ⟨_,_,_,rfl⟩
theorem Ow.nilOr (h:Ow T z m xs v):(v= .slice none 0 0∧xs=[])∨∃a l c,v= .slice (some a) l c:=by
 rcases h with h|⟨b,f0,L,c,rfl,_⟩
 ·exact .inl h
 ·exact .inr ⟨_,_,_,rfl⟩
end
end Go.AM
end
section
set_option linter.unusedSimpArgs false
set_option linter.unusedVariables false
namespace Go.AM
section
variable {α:Type} {T:Ty α} {z z':Nat→Blk} {e m m':Mem} {k p q:Option Nat} {xs r:List α} {v:Value} {t u:TypeId} {b:Nat}
variable {P:Program} {ρ:Operand→Value} {o:Oper} {x y:Operand} {i:TypeInfo} {D:Tag→Value→Mem→Prop} {te:TypeId}
theorem qoi (h:o.op= .call {callee:= .builtin .len,args:=#[x],argTypes:=#[t]}) (ht:P.underlying t=some (.slice te)) (hx:ρ x=v) (hs:∃a c,v= .slice a xs.length c):PureR P ρ o (.int .i64 xs.length):=by
 obtain ⟨a,c,rfl⟩:=hs
 exact .len x t te a _ c h ht hx
theorem OwF.elem {n:Int} {a:α} {f0 l c:Nat} (h:OwF T z e m k xs v) (hv:v= .slice (some ⟨b,f0,none⟩) l c) (hg:getI xs n=some a):
  ∃cs,T.rd z a cs∧xs[n.toNat]? =some a∧∀(j:Nat) (u:Value),cs[j]? =some u→m.load b (f0+n.toNat*T.sz+j)=some u:=by
 obtain ⟨h0,h1,h2⟩:=qaH hg
 rcases h.ow with ⟨_,rfl⟩|⟨b',f1,L,c',rfl,hb,_,_,hl,_,h4⟩
 ·simp at h2
 ·obtain ⟨cs,g1,g2⟩:=h4 _ a h2
  cases hv
  exact ⟨cs,g1,h2,fun j u hj=>by simp only[Mem.load,hb];exact g2 j u hj⟩
def Ty.as (T:Ty α) (t:TypeId):Ty α:={T with tid:=t}
theorem qqH {x0:α} {n:Nat} {c:List Value} (h:o.op= .alloc t) (hi:P.info? t=some i) {zv:Value} (hz:i.zero=some zv) (hzf:zv.cells.toList.all qah=true) (hs:zv.cells.size=i.size) (hc:zv.cells.toList=(List.replicate n c).flatten) (hrd:T.rd z x0 c) (hn:Nat.blt n BIG=true) (st:St z e m k)
  (hk:∀b m',St z e m' k→OwF (T.as t) z e m' k (List.replicate n x0) (.slice (some ⟨b,0,none⟩) n n)→Same m m' none→(∀p,(∀c,p=some c→c<m.next)→Ap p (some b))→D .new (.pointer (some ⟨b,0,none⟩)) m'):StepX P ρ o m D:=by
 obtain ⟨h2,h3,h4,h5⟩:=qlV (L:=zv.cells.toList) (t:=t) st
 have hlen:=T.len _ _ _ hrd
 have hl:zv.cells.toList.length=n*T.sz:=by rw[hc];simp[hlen]
 have hn':n<BIG:=by simp[Nat.blt] at hn;omega
 refine StepX.new (.alloc t i zv h hi hz hzf hs) (hk _ _ h2 ⟨Ow.at0 ⟨m.next,zv.cells.toList,n,by simp,h3.blk,h3.lt,h3.dead, ?_, .inr ⟨hn',by simp, ?_⟩,fun j x hj=> ?_⟩,fun b hb=>by cases hb;exact st.next⟩ h4 h5)
 ·rw[hl];simp[Ty.as]
 ·rw[hl];simp[Ty.as]
 ·obtain ⟨hlt,hx⟩:=List.getElem?_eq_some_iff.1 hj
  simp at hlt hx
  subst hx
  refine ⟨c,hrd,fun q u hq=> ?_⟩
  have hq':=(List.getElem?_eq_some_iff.1 hq).1
  rw[hc]
  have key:∀(n j:Nat),j<n→(List.replicate n c).flatten[j*T.sz+q]? =some u:=by
   intro n
   induction n with
   |zero=>intro j hj;omega
   |succ n ih=>
    intro j hj
    rw[List.replicate_succ,List.flatten_cons]
    cases j with
    |zero=>rw[Nat.zero_mul,Nat.zero_add,List.getElem?_append_left hq'];exact hq
    |succ j=>
     rw[List.getElem?_append_right (by rw[hlen,Nat.succ_mul];omega),hlen,show (j+1)*T.sz+q - T.sz=j*T.sz+q by rw[Nat.succ_mul];omega]
     exact ih j (by omega)
  exact key n j hlt
theorem qwD {k1:IntKind} {n:Int} {a:α} {l:Nat} (h:o.op= .indexAddr t x y) (ht:P.underlying t=some (.array l te)) (hi:P.info? te=some i) (hsz:i.size=T.sz) (hx:ρ x= .pointer (some ⟨b,0,none⟩)) (hy:ρ y= .int k1 n) (hs:OwF T z e m k xs (.slice (some ⟨b,0,none⟩) l l)) (hg:getI xs n=some a)
  (hk:∀cs,T.rd z a cs→xs[n.toNat]? =some a→(∀(j:Nat) (u:Value),cs[j]? =some u→m.load b (n.toNat*T.sz+j)=some u)→D .pure (.pointer (some ⟨b,n.toNat*T.sz,none⟩)) m):StepX P ρ o m D:=by
 obtain ⟨cs,g1,g2,g3⟩:=hs.elem rfl hg
 obtain ⟨h0,h1,h2⟩:=qaH hg
 have hl:xs.length=l:=by
  obtain ⟨a',c',he⟩:=hs.ow.len
  injection he with _ he _
  exact he.symm
 have:=PureR.indexAddrA (P:=P) (ρ:=ρ) (o:=o) t x y te i b 0 l k1 n h ht hi hx hy h0 (by rw[←hl];exact h1)
 rw[Nat.zero_add,hsz] at this
 exact StepX.pure this (hk _ g1 g2 (by simpa using g3))
end
end Go.AM
end
section
set_option linter.unusedSimpArgs false
set_option linter.unusedVariables false
namespace Go.AM
structure Tab (D:Nat→Type) where
 T:(t:Nat)→Ty (D t)
 kc:(t:Nat)→D t→List Value
section
variable (D:Nat→Type)
inductive CV where
 |int (k:IntKind) (n:Int)
 |bool (b:Bool)
 |str (s:List UInt8)
 |nilS|nilP|nilM
 |sl (e:Nat) (xs:List (D e))
 |mp (t kt vt:Nat) (es:List (D kt×D vt))
 |own (i:Nat)
 |nilF
 |fn (f:Nat) (is:List Nat)
inductive SV where
 |un|undef
 |c (v:CV D)
 |agg (t:Nat) (cs:List (CV D))
 |box (i off:Nat)
 |arr (i:Nat)
 |el (i e:Nat) (ix:Int) (off:Nat)
 |rp (t:Nat) (cs:List (CV D)) (off:Nat)
 |fn (f:Nat) (caps:List (Nat×List (CV D)))
 |tup (l:List (CV D⊕(Nat×List (CV D))))
 |cut (i e lo n:Nat)
 |full (e:Nat) (xs:List (D e))
inductive Ob where
 |dead
 |sl (e:Nat) (xs:List (D e)) (fz w:Bool)
 |box (t:Nat) (cs:List (CV D)) (fz w:Bool)
 |recv (t:Nat) (cs:List (CV D)) (w:Bool)
 |arr (e t n:Nat) (xs:List (D e)) (w:Bool)
 |map (t kt vt:Nat) (es:List (D kt×D vt)) (fz w:Bool)
 |nest (e t:Nat) (up:Option (List (D t)→D e)) (xss:List (List (D t))) (hole:Option (Int×Nat)) (w:Bool)
end
section
variable {D:Nat→Type} (G:Tab D)
def Tab.M (t kt vt:Nat):MTy (D kt) (D vt):=⟨G.kc kt,G.kc vt,t⟩
def capR (vs:List Value) (i:Nat) (g:Value):Prop:=vs[i]? =some g∧∃b,g= .pointer (some ⟨b,0,none⟩)
def rel0 (z:Nat→Blk) (vs:List Value):CV D→Value→Prop
 | .int k n,v=>v= .int k n
 | .bool b,v=>v= .bool b
 | .str s,v=>v=AM.str s
 | .nilS,v=>v= .slice none 0 0
 | .nilP,v=>v= .pointer none
 | .nilM,v=>v= .map none
 | .sl e xs,v=>SlR (G.T e) z xs v
 | .mp t kt vt es,v=>MpR (G.M t kt vt) z es v
 | .own i,v=>vs[i]? =some v∧storable v=true∧v.cells=#[v]
 | .nilF,v=>v= .nilFunc
 | .fn f is,v=>∃gs:List Value,v= .func (.func f) #[] gs.toArray∧L2 (capR vs) is gs
def relT (z:Nat→Blk) (vs:List Value):CV D⊕(Nat×List (CV D))→Value→Prop
 | .inl c,v=>rel0 G z vs c v
 | .inr p,v=>∃ds:List Value,v= .agg ds.toArray∧L2 (rel0 G z vs) p.2 ds
def relP (z:Nat→Blk) (vs:List Value) (cs:List (CV D)) (off:Nat) (v:Value):Prop:=
 ∃b o ds,v= .pointer (some ⟨b,o+off,none⟩)∧qa1 z b o ds∧L2 (rel0 G z vs) cs ds
def CutV (sz lo n:Nat) (w v:Value):Prop:=
 (w= .slice none 0 0∧v= .slice none 0 0∧lo=0∧n=0)∨
 ∃b f0 l c off c',w= .slice (some ⟨b,f0,none⟩) l c∧v= .slice (some ⟨b,off,none⟩) (n - lo) c'∧lo≤n∧n≤l∧(off=f0+lo*sz∨(n≤lo∧off=f0))∧((c=BIG∧c'=BIG)∨(c<BIG∧c'=c - lo))
def rel (z:Nat→Blk) (vs:List Value):SV D→Value→Prop
 | .un,_=>True
 | .undef,v=>v=_root_.Go.undef
 | .c c,v=>rel0 G z vs c v
 | .agg _ cs,v=>∃ds:List Value,v= .agg ds.toArray∧L2 (rel0 G z vs) cs ds
 | .box i off,v=>∃b,vs[i]? =some (.pointer (some ⟨b,0,none⟩))∧v= .pointer (some ⟨b,off,none⟩)
 | .arr i,v=>∃b l,vs[i]? =some (.slice (some ⟨b,0,none⟩) l l)∧v= .pointer (some ⟨b,0,none⟩)
 | .el i e ix off,v=>∃b f0 l c,vs[i]? =some (.slice (some ⟨b,f0,none⟩) l c)∧v= .pointer (some ⟨b,f0+ix.toNat*(G.T e).sz+off,none⟩)
 | .rp _ cs off,v=>relP G z vs cs off v
 | .fn f caps,v=>∃gs:List Value,v= .func (.func f) #[] gs.toArray∧L2 (fun c g=>relP G z vs c.2 0 g) caps gs
 | .tup l,v=>∃ds:List Value,v= .tuple ds.toArray∧L2 (relT G z vs) l ds
 | .cut i e lo n,v=>∃w,rel0 G z vs (.own i) w∧CutV (G.T e).sz lo n w v
 | .full e xs,v=>SlR (G.T e) z xs v∧xs.length<BIG∧∃a,v= .slice a xs.length xs.length
def TVal (t:TypeId):Ty Value where
 sz:=1
 tid:=t
 rd:=fun _ v cs=>cs=[v]∧storable v=true∧v.cells=#[v]
 len:=fun _ v cs h=>by rw[h.1];rfl
 mono:=fun _ _ _ _ _ h=>h
 one:=fun _ v cs h c hc=>by rw[h.1] at hc;simp at hc;subst hc;exact h.2
def InR {α:Type} (T:Ty α) (z:Nat→Blk) (n b0 j:Nat) (xs:List α) (w:Value):Prop:=
 (w= .slice none 0 0∧xs=[])∨
 ∃b f0 L c,w= .slice (some ⟨b,f0,none⟩) xs.length c∧z b= .lock b0 j L T.tid∧n≤b∧f0+xs.length*T.sz≤L.length∧(c=BIG∨(c<BIG∧xs.length≤c∧f0+c*T.sz≤L.length))∧
  ∀(i:Nat) (x:α),xs[i]? =some x→∃cs,T.rd z x cs∧qbs L (f0+i*T.sz) cs
def Lke (z z':Nat→Blk) (n:Nat):Prop:=∀b j L t,z b= .lock n j L t→z' b=z b
theorem InR.zle {α:Type} {T:Ty α} {z z':Nat→Blk} {n b0 j:Nat} {xs:List α} {w:Value} (h:InR T z n b0 j xs w) (hz:Zle z z') (hk:Lke z z' b0):InR T z' n b0 j xs w:=by
 rcases h with h|⟨b,f0,L,c,h1,h2,h3,h4,h5,h6⟩
 ·exact .inl h
 ·refine .inr ⟨b,f0,L,c,h1,by rw[hk b j L _ h2];exact h2,h3,h4,h5,fun i x hi=> ?_⟩
  obtain ⟨cs,g1,g2⟩:=h6 i x hi
  exact ⟨cs,T.mono _ _ hz _ _ g1,g2⟩
theorem InR.anti {α:Type} {T:Ty α} {z:Nat→Blk} {n n' b0 j:Nat} {xs:List α} {w:Value} (h:InR T z n b0 j xs w) (hn:n'≤n):InR T z n' b0 j xs w:=by
 rcases h with h|⟨b,f0,L,c,h1,h2,h3,h4⟩
 ·exact .inl h
 ·exact .inr ⟨b,f0,L,c,h1,h2,Nat.le_trans hn h3,h4⟩
def bkV (v:Value):Nat:=match qag v with|some b=>b+1|none=>0
def UpOk (e t:Nat) (up:Option (List (D t)→D e)):Prop:=∀f,up=some f→(G.T e).sz=1∧(G.T e).tid=e∧∀z xs c,SlR (G.T t) z xs c→(G.T e).rd z (f xs) [c]
structure NestOk {α:Type} (e0:Nat) (T:Ty α) (z:Nat→Blk) (e m:Mem) (k:Option Nat) (vs:List Value) (xss:List (List α)) (hole:Option (Int×Nat)) (v:Value) (ws:List Value):Prop where
 ow:OwF (TVal e0) z e m k ws v
 len:ws.length=xss.length
 inn:∀(j:Nat) (w:Value) (xs:List α),ws[j]? =some w→xss[j]? =some xs→(∀p,hole=some p→(j:Int)≠p.1)→InR T z e.next (bkV v) j xs w
 out:∀p,hole=some p→0≤p.1∧∃w,vs[p.2]? =some w∧ws[p.1.toNat]? =some w
def ObOk (z:Nat→Blk) (e m:Mem) (k:Option Nat) (vs:List Value):Ob D→Value→Prop
 | .dead,_=>True
 | .sl t xs false _,v=>OwF (G.T t) z e m k xs v
 | .sl t xs true _,v=>SlR (G.T t) z xs v
 | .box t cs false _,v=>∃b ds,v= .pointer (some ⟨b,0,none⟩)∧Bx z e m k b ds t∧e.next≤b∧L2 (rel0 G z vs) cs ds
 | .box t cs true _,v=>∃b ds,v= .pointer (some ⟨b,0,none⟩)∧qa1 z b 0 ds∧L2 (rel0 G z vs) cs ds
 | .recv t cs _,v=>∃b ds,v= .pointer (some ⟨b,0,none⟩)∧Bx z e m k b ds t∧L2 (rel0 G z vs) cs ds
 | .arr t u n xs _,v=>(∃b,v= .slice (some ⟨b,0,none⟩) n n)∧OwF ((G.T t).as u) z e m k xs v
 | .map t kt vt es false _,v=>OwM (G.M t kt vt) z e m k es v
 | .map t kt vt es true _,v=>MpR (G.M t kt vt) z es v
 | .nest e0 t up xss hole _,v=>UpOk G e0 t up∧∃ws,NestOk e0 (G.T t) z e m k vs xss hole v ws
def Ob.live:Ob D→Bool
 | .sl _ _ fz _| .box _ _ fz _| .map _ _ _ _ fz _=> !fz
 | .recv _ _ _| .arr _ _ _ _ _| .nest _ _ _ _ _ _=>true
 | .dead=>false
def Ob.tch:Ob D→Bool
 | .sl _ _ _ w| .box _ _ _ w| .recv _ _ w| .arr _ _ _ _ w| .map _ _ _ _ _ w=>w
 | .nest _ _ _ _ h w=>w||h.isSome
 | .dead=>true
structure Inv (O O':List (Ob D)):Prop where
 len:O.length≤O'.length
 old:∀(i:Nat) (o:Ob D),i<O.length→O'[i]? =some o→o.live=true→o.tch=false→O[i]? =some o
theorem Inv.refl (O:List (Ob D)):Inv O O:=⟨Nat.le_refl _,fun _ _ _ h _ _=>h⟩
theorem Inv.trans {O O' O'':List (Ob D)} (h:Inv O O') (k:Inv O' O''):Inv O O'':=⟨Nat.le_trans h.len k.len,fun i o hi ho hl hw=>h.old i o hi (k.old i o (Nat.lt_of_lt_of_le hi h.len) ho hl hw) hl hw⟩
theorem Inv.push (O:List (Ob D)) (o:Ob D):Inv O (O++[o]):=⟨by simp,fun i p hi hp _ _=>by rw[List.getElem?_append_left hi] at hp;exact hp⟩
theorem Inv.set (O:List (Ob D)) (i:Nat) {o:Ob D} (h:o.live=false∨o.tch=true):Inv O (O.set i o):=⟨by simp,fun j p hj hp hl hw=>by
 rw[List.getElem?_set] at hp
 split at hp
 ·split at hp
  ·cases hp
   rcases h with h|h
   ·rw[h] at hl;cases hl
   ·rw[h] at hw;cases hw
  ·cases hp
 ·exact hp⟩
def blkV:Value→Option Nat
 | .slice (some a) _ _=>some a.block
 | .pointer (some a)=>some a.block
 | .map r=>r
 |_=>none
theorem qam {v:Value} (h:∀r,v≠ .map r):blkV v=qag v:=by
 cases v with
 |slice a l c=>cases a<;>rfl
 |pointer a=>cases a<;>rfl
 |map r=>exact absurd rfl (h r)
 |_=>rfl
structure Mm (O:List (Ob D)) (z:Nat→Blk) (e m:Mem) (k:Option Nat) (vs:List Value):Prop where
 st:St z e m k
 len:vs.length=O.length
 obj:∀(i:Nat) (o:Ob D) (v:Value),O[i]? =some o→vs[i]? =some v→ObOk G z e m k vs o v
 ap:∀(i j:Nat) (o p:Ob D) (v w:Value),i≠j→O[i]? =some o→O[j]? =some p→o.live=true→p.live=true→vs[i]? =some v→vs[j]? =some w→Ap (blkV v) (blkV w)
variable {G}
theorem rel0.mono {z z':Nat→Blk} {vs vs':List Value} {c:CV D} {v:Value} (h:rel0 G z vs c v) (hz:Zle z z') (hv:∀(i:Nat) (u:Value),vs[i]? =some u→vs'[i]? =some u):rel0 G z' vs' c v:=by
 cases c with
 |sl e xs=>exact SlR.mono hz h
 |mp t kt vt es=>exact MpR.mono h hz
 |own i=>exact ⟨hv _ _ h.1,h.2⟩
 |fn f is=>obtain ⟨gs,h1,h2⟩:=h;exact ⟨gs,h1,L2.mono (fun _ _ h=>⟨hv _ _ h.1,h.2⟩) h2⟩
 |_=>exact h
theorem rels.mono {z z':Nat→Blk} {vs vs':List Value} {cs:List (CV D)} {ds:List Value} (h:L2 (rel0 G z vs) cs ds) (hz:Zle z z') (hv:∀(i:Nat) (u:Value),vs[i]? =some u→vs'[i]? =some u):L2 (rel0 G z' vs') cs ds:=L2.mono (fun _ _ h=>rel0.mono h hz hv) h
theorem relP.mono {z z':Nat→Blk} {vs vs':List Value} {cs:List (CV D)} {off:Nat} {v:Value} (h:relP G z vs cs off v) (hz:Zle z z') (hv:∀(i:Nat) (u:Value),vs[i]? =some u→vs'[i]? =some u):relP G z' vs' cs off v:=by
 obtain ⟨b,o,ds,h1,h2,h3⟩:=h
 exact ⟨b,o,ds,h1,qbD hz h2,rels.mono h3 hz hv⟩
theorem relT.mono {z z':Nat→Blk} {vs vs':List Value} {c:CV D⊕(Nat×List (CV D))} {v:Value} (h:relT G z vs c v) (hz:Zle z z') (hv:∀(i:Nat) (u:Value),vs[i]? =some u→vs'[i]? =some u):relT G z' vs' c v:=by
 cases c with
 |inl c=>exact rel0.mono h hz hv
 |inr p=>obtain ⟨ds,h1,h2⟩:=h;exact ⟨ds,h1,rels.mono h2 hz hv⟩
theorem rel.mono {z z':Nat→Blk} {vs vs':List Value} {s:SV D} {v:Value} (h:rel G z vs s v) (hz:Zle z z') (hv:∀(i:Nat) (u:Value),vs[i]? =some u→vs'[i]? =some u):rel G z' vs' s v:=by
 cases s with
 |un=>trivial
 |undef=>exact h
 |c c=>exact rel0.mono h hz hv
 |agg t cs=>obtain ⟨ds,h1,h2⟩:=h;exact ⟨ds,h1,rels.mono h2 hz hv⟩
 |box i off=>obtain ⟨b,h1,h2⟩:=h;exact ⟨b,hv _ _ h1,h2⟩
 |arr i=>obtain ⟨b,l,h1,h2⟩:=h;exact ⟨b,l,hv _ _ h1,h2⟩
 |el i e ix off=>obtain ⟨b,f0,l,c,h1,h2⟩:=h;exact ⟨b,f0,l,c,hv _ _ h1,h2⟩
 |rp t cs off=>exact relP.mono h hz hv
 |fn f caps=>obtain ⟨gs,h1,h2⟩:=h;exact ⟨gs,h1,L2.mono (fun _ _ h=>relP.mono h hz hv) h2⟩
 |tup l=>obtain ⟨ds,h1,h2⟩:=h;exact ⟨ds,h1,L2.mono (fun _ _ h=>relT.mono h hz hv) h2⟩
 |cut i e lo n=>obtain ⟨w,h1,h2⟩:=h;exact ⟨w,rel0.mono h1 hz hv,h2⟩
 |full e xs=>exact ⟨SlR.mono hz h.1,h.2⟩
theorem qga {vs:List Value}:∀{is:List Nat} {gs:List Value},L2 (capR vs) is gs→gs.all qiX=true
 |[],[],_=>rfl
 |[],_::_,h=>h.elim
 |_::_,[],h=>h.elim
 |_::_,_::_,⟨⟨_,_,h⟩,h2⟩=>by subst h;simp only[List.all_cons,qga h2,qiX,Bool.and_self]
theorem rel0.stor {z:Nat→Blk} {vs:List Value} {c:CV D} {v:Value} (h:rel0 G z vs c v):storable v=true∧v.cells=#[v]:=by
 cases c with
 |sl e xs=>obtain ⟨a,c,rfl⟩:=SlR.len h;exact ⟨rfl,rfl⟩
 |mp t kt vt es=>rcases h with ⟨rfl,_⟩|⟨r,rfl,_⟩<;>exact ⟨rfl,rfl⟩
 |own i=>exact h.2
 |fn f is=>
  obtain ⟨gs,rfl,h2⟩:=h
  exact ⟨by simp only[storable,qga h2];rfl,rfl⟩
 |_=>obtain rfl:=h;exact ⟨rfl,rfl⟩
theorem ObOk.same {z:Nat→Blk} {e m m':Mem} {k q:Option Nat} {vs vs':List Value} {o:Ob D} {v:Value} (h:ObOk G z e m k vs o v) (s:Same m m' q) (ap:o.live=true→Ap (blkV v) q) (hv:∀(i:Nat) (u:Value),vs[i]? =some u→vs'[i]? =some u):ObOk G z e m' k vs' o v:=by
 have zr:=Zle.refl z
 cases o with
 |dead=>trivial
 |sl t xs fz w=>
  cases fz with
  |true=>exact h
  |false=>
   have h:OwF (G.T t) z e m k xs v:=h
   have ap:=ap rfl
   rw[qam (by obtain ⟨a,c,rfl⟩:=h.ow.len;intro r;simp)] at ap
   exact h.same s ap
 |box t cs fz w=>
  cases fz with
  |true=>obtain ⟨b,ds,h1,h2,h3⟩:=h;exact ⟨b,ds,h1,h2,rels.mono h3 zr hv⟩
  |false=>
   obtain ⟨b,ds,rfl,h2,h4,h3⟩:=h
   exact ⟨b,ds,rfl,h2.same s (ap rfl),h4,rels.mono h3 zr hv⟩
 |recv t cs w=>
  obtain ⟨b,ds,rfl,h2,h3⟩:=h
  exact ⟨b,ds,rfl,h2.same s (ap rfl),rels.mono h3 zr hv⟩
 |arr t u n xs w=>
  obtain ⟨⟨b,rfl⟩,h⟩:=h
  exact ⟨⟨b,rfl⟩,h.same s (ap rfl)⟩
 |map t kt vt es fz w=>
  cases fz with
  |true=>exact h
  |false=>
   have h:OwM (G.M t kt vt) z e m k es v:=h
   have ap:=ap rfl
   obtain ⟨r,rfl,_⟩:=h.ow
   exact h.same s ap
 |nest e0 t up xss hole w=>
  obtain ⟨hu,ws,h⟩:=h
  have ap:=ap rfl
  rw[qam (by obtain ⟨a,c,rfl⟩:=h.ow.ow.len;intro r;simp)] at ap
  refine ⟨hu,ws,h.ow.same s ap,h.len,h.inn,fun p hp=> ?_⟩
  obtain ⟨h0,u,h1,h2⟩:=h.out p hp
  exact ⟨h0,u,hv _ _ h1,h2⟩
theorem ObOk.zle {z z':Nat→Blk} {e m:Mem} {k:Option Nat} {vs:List Value} {o:Ob D} {v:Value} (h:ObOk G z e m k vs o v) (hz:Zle z z') (hb:o.live=true→∀b,blkV v=some b→z' b=z b) (hk:o.live=true→Lke z z' (bkV v)):ObOk G z' e m k vs o v:=by
 have hv:∀(i:Nat) (u:Value),vs[i]? =some u→vs[i]? =some u:=fun _ _ h=>h
 cases o with
 |dead=>trivial
 |sl t xs fz w=>
  cases fz with
  |true=>exact SlR.mono hz h
  |false=>
   have h:OwF (G.T t) z e m k xs v:=h
   have hb:=hb rfl
   rw[qam (by obtain ⟨a,c,rfl⟩:=h.ow.len;intro r;simp)] at hb
   exact h.zle hz hb
 |box t cs fz w=>
  cases fz with
  |true=>obtain ⟨b,ds,h1,h2,h3⟩:=h;exact ⟨b,ds,h1,qbD hz h2,rels.mono h3 hz hv⟩
  |false=>
   obtain ⟨b,ds,rfl,h2,h4,h3⟩:=h
   exact ⟨b,ds,rfl,h2.zle (hb rfl),h4,rels.mono h3 hz hv⟩
 |recv t cs w=>
  obtain ⟨b,ds,rfl,h2,h3⟩:=h
  exact ⟨b,ds,rfl,h2.zle (hb rfl),rels.mono h3 hz hv⟩
 |arr t u n xs w=>
  obtain ⟨⟨b,rfl⟩,h⟩:=h
  exact ⟨⟨b,rfl⟩,h.zle hz (hb rfl)⟩
 |map t kt vt es fz w=>
  cases fz with
  |true=>exact MpR.mono h hz
  |false=>
   have h:OwM (G.M t kt vt) z e m k es v:=h
   have hb:=hb rfl
   obtain ⟨r,rfl,_⟩:=h.ow
   exact h.zle hz hb
 |nest e0 t up xss hole w=>
  obtain ⟨hu,ws,h⟩:=h
  have hb:=hb rfl
  rw[qam (by obtain ⟨a,c,rfl⟩:=h.ow.ow.len;intro r;simp)] at hb
  exact ⟨hu,ws,h.ow.zle hz hb,h.len,fun j w xs h1 h2 h3=>(h.inn j w xs h1 h2 h3).zle hz (hk rfl),h.out⟩
theorem ObOk.lt {z:Nat→Blk} {e m:Mem} {k:Option Nat} {vs:List Value} {o:Ob D} {v:Value} (h:ObOk G z e m k vs o v) (hl:o.live=true):∀b,blkV v=some b→b<m.next∧z b= .dead∧(e.next≤b∨k=some b):=by
 cases o with
 |dead=>cases hl
 |sl t xs fz w=>
  cases fz with
  |true=>cases hl
  |false=>
   have h:OwF (G.T t) z e m k xs v:=h
   rw[qam (by obtain ⟨a,c,rfl⟩:=h.ow.len;intro r;simp)]
   exact fun b hb=>⟨h.lt b hb,h.hq b hb⟩
 |box t cs fz w=>
  cases fz with
  |true=>cases hl
  |false=>
   obtain ⟨b,ds,rfl,h2,h4,h3⟩:=h
   intro c hc;cases hc;exact ⟨h2.lt,h2.dead,h2.fresh⟩
 |recv t cs w=>
  obtain ⟨b,ds,rfl,h2,h3⟩:=h
  intro c hc;cases hc;exact ⟨h2.lt,h2.dead,h2.fresh⟩
 |arr t u n xs w=>
  obtain ⟨⟨b,rfl⟩,h⟩:=h
  intro c hc;cases hc;exact ⟨h.lt b rfl,h.hq b rfl⟩
 |map t kt vt es fz w=>
  cases fz with
  |true=>cases hl
  |false=>
   have h:OwM (G.M t kt vt) z e m k es v:=h
   obtain ⟨r,rfl,_⟩:=h.ow
   exact fun b hb=>⟨h.lt b hb,h.hq b hb⟩
 |nest e0 t up xss hole w=>
  obtain ⟨hu,ws,h⟩:=h
  rw[qam (by obtain ⟨a,c,rfl⟩:=h.ow.ow.len;intro r;simp)]
  exact fun b hb=>⟨h.ow.lt b hb,h.ow.hq b hb⟩
variable {O:List (Ob D)} {z z':Nat→Blk} {e m m':Mem} {k q:Option Nat} {vs:List Value}
theorem Mm.at (h:Mm G O z e m k vs) {i:Nat} {o:Ob D} (ho:O[i]? =some o):∃v,vs[i]? =some v∧ObOk G z e m k vs o v:=by
 have hlt:=(List.getElem?_eq_some_iff.1 ho).1
 have hlt':i<vs.length:=by rw[h.len];exact hlt
 exact ⟨vs[i],List.getElem?_eq_getElem hlt',h.obj i o _ ho (List.getElem?_eq_getElem hlt')⟩
theorem Mm.turn (h:Mm G O z e m k vs) {i:Nat} {o o':Ob D} {v:Value} (ho:O[i]? =some o) (hv:vs[i]? =some v) (hl:o.live=true) (s:Same m m' (blkV v)) (st:St z e m' k) (hn:ObOk G z e m' k vs o' v):Mm G (O.set i o') z e m' k vs:=by
 have hlt:=(List.getElem?_eq_some_iff.1 ho).1
 refine ⟨st,by rw[List.length_set];exact h.len,fun j p w hj hw=> ?_,fun a b p q' u w hab ha hb la lb hu hw=> ?_⟩
 ·rw[List.getElem?_set] at hj
  split at hj
  ·rename_i hij
   subst hij
   cases hj
   rw[hv] at hw;cases hw
   exact hn
  ·rename_i hij
   exact (h.obj j p w hj hw).same s (fun hp=>h.ap j i p o w v (fun e=>hij e.symm) hj ho hp hl hw hv) fun _ _ h=>h
 ·have key:∀(a:Nat) (p:Ob D),(O.set i o')[a]? =some p→p.live=true→∃p',O[a]? =some p'∧p'.live=true:=by
   intro a p ha hp
   rw[List.getElem?_set] at ha
   split at ha
   ·rename_i hia;subst hia;exact ⟨o,ho,hl⟩
   ·exact ⟨p,ha,hp⟩
  obtain ⟨p1,g1,g2⟩:=key a p ha la
  obtain ⟨p2,g3,g4⟩:=key b q' hb lb
  exact h.ap a b p1 p2 u w hab g1 g3 g2 g4 hu hw
theorem qau {vs ws:List Value}:∀(i:Nat) (u:Value),vs[i]? =some u→(vs++ws)[i]? =some u:=fun i u h=>by
 rw[List.getElem?_append_left (List.getElem?_eq_some_iff.1 h).1];exact h
theorem Mm.push (h:Mm G O z e m k vs) {o':Ob D} {v':Value} (s:Same m m' q) (st:St z e m' k) (hq:∀(i:Nat) (o:Ob D) (v:Value),O[i]? =some o→vs[i]? =some v→o.live=true→Ap (blkV v) q)
  (hn:ObOk G z e m' k (vs++[v']) o' v') (hap:∀p,(∀b,p=some b→b<m.next)→Ap p q→Ap p (blkV v')):Mm G (O++[o']) z e m' k (vs++[v']):=by
 refine ⟨st,by simp[h.len],fun j p w hj hw=> ?_,fun a b p q' u w hab ha hb la lb hu hw=> ?_⟩
 ·by_cases hlt:j<O.length
  ·rw[List.getElem?_append_left hlt] at hj
   rw[List.getElem?_append_left (by rw[h.len];exact hlt)] at hw
   exact (h.obj j p w hj hw).same s (fun hp=>hq j p w hj hw hp) qau
  ·rw[List.getElem?_append_right (by omega)] at hj
   rw[List.getElem?_append_right (by rw[h.len];omega),h.len] at hw
   have:j - O.length=0:=by have:=(List.getElem?_eq_some_iff.1 hj).1;simp at this;omega
   rw[this] at hj hw
   simp at hj hw
   subst hj hw
   exact hn
 ·have old:∀(a:Nat) (p:Ob D) (u:Value),a<O.length→(O++[o'])[a]? =some p→(vs++[v'])[a]? =some u→O[a]? =some p∧vs[a]? =some u:=by
   intro a p u hlt ha hu
   rw[List.getElem?_append_left hlt] at ha
   rw[List.getElem?_append_left (by rw[h.len];exact hlt)] at hu
   exact ⟨ha,hu⟩
  have new:∀(a:Nat) (p:Ob D) (u:Value),¬a<O.length→(O++[o'])[a]? =some p→(vs++[v'])[a]? =some u→a=O.length∧u=v':=by
   intro a p u hlt ha hu
   rw[List.getElem?_append_right (by omega)] at ha
   have h0:a - O.length=0:=by have:=(List.getElem?_eq_some_iff.1 ha).1;simp at this;omega
   rw[List.getElem?_append_right (by rw[h.len];omega),h.len,h0] at hu
   simp at hu
   exact ⟨by omega,hu.symm⟩
  have lt:∀(a:Nat) (p:Ob D) (u:Value),O[a]? =some p→vs[a]? =some u→p.live=true→Ap (blkV u) (blkV v'):=fun a p u ha hu hl=>hap _ (fun b hb=>((h.obj a p u ha hu).lt hl b hb).1) (hq a p u ha hu hl)
  by_cases h1:a<O.length
  ·obtain ⟨a1,a2⟩:=old a p u h1 ha hu
   by_cases h2:b<O.length
   ·obtain ⟨b1,b2⟩:=old b q' w h2 hb hw
    exact h.ap a b p q' u w hab a1 b1 la lb a2 b2
   ·obtain ⟨_,rfl⟩:=new b q' w h2 hb hw
    exact lt a p u a1 a2 la
  ·obtain ⟨e1,rfl⟩:=new a p u h1 ha hu
   by_cases h2:b<O.length
   ·obtain ⟨b1,b2⟩:=old b q' w h2 hb hw
    exact (lt b q' w b1 b2 lb).symm
   ·obtain ⟨e2,_⟩:=new b q' w h2 hb hw
    omega
theorem Mm.frz (h:Mm G O z e m k vs) {i:Nat} {o o':Ob D} {v:Value} (ho:O[i]? =some o) (hv:vs[i]? =some v) (hl:o.live=true) (hl':o'.live=false) (hz:Zle z z') (st:St z' e m k) (hb:∀p,Ap p (blkV v)→∀b,p=some b→z' b=z b) (hn:ObOk G z' e m k vs o' v):Mm G (O.set i o') z' e m k vs:=by
 have hlt:=(List.getElem?_eq_some_iff.1 ho).1
 refine ⟨st,by rw[List.length_set];exact h.len,fun j p w hj hw=> ?_,fun a b p q' u w hab ha hb' la lb hu hw=> ?_⟩
 ·rw[List.getElem?_set] at hj
  split at hj
  ·rename_i hij
   subst hij
   cases hj
   rw[hv] at hw;cases hw
   exact hn
  ·rename_i hij
   exact (h.obj j p w hj hw).zle hz (fun hp=>hb _ (h.ap j i p o w v (fun e=>hij e.symm) hj ho hp hl hw hv)) fun _ b j L t hb'=>hb (some b) (fun c hc hv'=>by
    cases hc
    have:=((h.obj i o v ho hv).lt hl b hv').2.1
    rw[this] at hb';cases hb') b rfl
 ·have key:∀(a:Nat) (p:Ob D),(O.set i o')[a]? =some p→p.live=true→O[a]? =some p:=by
   intro a p ha hp
   rw[List.getElem?_set] at ha
   split at ha
   ·rename_i hia;subst hia;cases ha;rw[hl'] at hp;cases hp
   ·exact ha
  exact h.ap a b p q' u w hab (key a p ha la) (key b q' hb' lb) la lb hu hw
end
end Go.AM
end
section
set_option linter.unusedSimpArgs false
set_option linter.unusedVariables false
namespace Go.AM
section
variable {D:Nat→Type} {G:Tab D} {O:List (Ob D)} {z z':Nat→Blk} {e m m':Mem} {k q:Option Nat} {vs vs':List Value}
theorem qnD {v w:Value} (h:Ap (qag v) (qag w)):bkV v≠bkV w∨bkV v=0:=by
 unfold bkV
 cases hv:qag v with
 |none=>exact .inr rfl
 |some b=>
  cases hw:qag w with
  |none=>exact .inl (by simp)
  |some c=>
   refine .inl fun hh=>h b hv ?_
   rw[hw]
   simp at hh
   rw[hh]
theorem qiF {r:Option Nat}:bkV (.map r)=0:=rfl
theorem Mm.zchg (h:Mm G O z e m k vs) {i:Nat} {o o':Ob D} {v:Value} {p:Option Nat} (ho:O[i]? =some o) (hv:vs[i]? =some v) (hl:o.live=true) (hvm:∀r,v≠ .map r) (hz:Zle z z') (s:Same m m' (blkV v)) (st:St z' e m' k)
  (hp:∀(j:Nat) (q:Ob D) (w:Value),j≠i→O[j]? =some q→q.live=true→vs[j]? =some w→Ap (blkV w) p)
  (hpd:∀b,p=some b→z b= .dead)
  (hb:∀b,blkV v≠some b→p≠some b→(bkV v=0∨∀j L t,z b≠ .lock (bkV v) j L t)→z' b=z b) (hn:ObOk G z' e m' k vs o' v):Mm G (O.set i o') z' e m' k vs:=by
 have hlt:=(List.getElem?_eq_some_iff.1 ho).1
 refine ⟨st,by rw[List.length_set];exact h.len,fun j q w hj hw=> ?_,fun a b q1 q2 u w hab ha hb' la lb hu hw=> ?_⟩
 ·rw[List.getElem?_set] at hj
  split at hj
  ·rename_i hij
   subst hij
   cases hj
   rw[hv] at hw;cases hw
   exact hn
  ·rename_i hij
   have hob:=h.obj j q w hj hw
   refine ((hob.same s (fun hq=>h.ap j i q o w v (fun e=>hij e.symm) hj ho hq hl hw hv) fun _ _ h=>h).zle hz (fun hq b hbw=> ?_) fun hq b j' L t hlk=> ?_)
   ·have h1:=hob.lt hq b hbw
    refine hb b (h.ap j i q o w v (fun e=>hij e.symm) hj ho hq hl hw hv b hbw) (hp j q w (fun e=>hij e.symm) hj hq hw b hbw) (.inr fun j L t hh=> ?_)
    rw[h1.2.1] at hh;cases hh
   ·refine hb b (fun hh=> ?_) (fun hh=> ?_) ?_
    ·have:=((h.obj i o v ho hv).lt hl b hh).2.1
     rw[this] at hlk;cases hlk
    ·rw[hpd b hh] at hlk;cases hlk
    ·by_cases h0:bkV v=0
     ·exact .inl h0
     ·refine .inr fun j2 L2 t2 hh=> ?_
      rw[hlk] at hh
      have e1:bkV w=bkV v:=by injection hh
      have hap:=h.ap j i q o w v (fun e=>hij e.symm) hj ho hq hl hw hv
      rw[qam hvm] at hap
      by_cases hwm:∃r,w= .map r
      ·obtain ⟨r,rfl⟩:=hwm
       rw[qiF] at e1
       exact h0 e1.symm
      ·rw[qam (fun r hr=>hwm ⟨r,hr⟩)] at hap
       rcases qnD hap with hh|hh
       ·exact hh e1
       ·exact h0 (by rw[←e1];exact hh)
 ·have key:∀(a:Nat) (p:Ob D),(O.set i o')[a]? =some p→p.live=true→∃p',O[a]? =some p'∧p'.live=true:=by
   intro a p ha hp
   rw[List.getElem?_set] at ha
   split at ha
   ·rename_i hia;subst hia;exact ⟨o,ho,hl⟩
   ·exact ⟨p,ha,hp⟩
  obtain ⟨p1,g1,g2⟩:=key a q1 ha la
  obtain ⟨p2,g3,g4⟩:=key b q2 hb' lb
  exact h.ap a b p1 p2 u w hab g1 g3 g2 g4 hu hw
theorem Mm.pushAt (h:Mm G O z e m k vs) {o':Ob D} {v':Value} (hn:ObOk G z e m k (vs++[v']) o' v') (hap:o'.live=true→∀(j:Nat) (q:Ob D) (w:Value),O[j]? =some q→q.live=true→vs[j]? =some w→Ap (blkV w) (blkV v')):Mm G (O++[o']) z e m k (vs++[v']):=by
 have old:∀(a:Nat) (p:Ob D) (u:Value),(O++[o'])[a]? =some p→(vs++[v'])[a]? =some u→(O[a]? =some p∧vs[a]? =some u)∨(a=O.length∧p=o'∧u=v'):=by
  intro a p u ha hu
  by_cases hlt:a<O.length
  ·rw[List.getElem?_append_left hlt] at ha
   rw[List.getElem?_append_left (by rw[h.len];exact hlt)] at hu
   exact .inl ⟨ha,hu⟩
  ·have h0:=(List.getElem?_eq_some_iff.1 ha).1
   simp at h0
   have:a=O.length:=by omega
   subst this
   rw[List.getElem?_append_right (by omega)] at ha
   rw[List.getElem?_append_right (by rw[h.len];omega),h.len] at hu
   simp at ha hu
   exact .inr ⟨rfl,ha.symm,hu.symm⟩
 refine ⟨h.st,by simp[h.len],fun j p w hj hw=> ?_,fun a b p q' u w hab ha hb la lb hu hw=> ?_⟩
 ·rcases old j p w hj hw with ⟨h1,h2⟩|⟨_,rfl,rfl⟩
  ·exact (h.obj j p w h1 h2).same (q:=none) ⟨Nat.le_refl _,h.st.dead,fun _ _ _=>rfl⟩ (fun _=>Ap.none') qau
  ·exact hn
 ·rcases old a p u ha hu with ⟨a1,a2⟩|⟨e1,rfl,rfl⟩
  ·rcases old b q' w hb hw with ⟨b1,b2⟩|⟨e2,rfl,rfl⟩
   ·exact h.ap a b p q' u w hab a1 b1 la lb a2 b2
   ·exact hap lb a p u a1 la a2
  ·rcases old b q' w hb hw with ⟨b1,b2⟩|⟨e2,rfl,rfl⟩
   ·exact (hap la b q' w b1 lb b2).symm
   ·omega
theorem Mm.wake (h:Mm G O z e m k vs) {i:Nat} {o':Ob D} {v:Value} (hi:i<O.length) (hv:vs[i]? =some v) (hn:ObOk G z e m k vs o' v) (hap:∀(j:Nat) (q:Ob D) (w:Value),j≠i→O[j]? =some q→q.live=true→vs[j]? =some w→Ap (blkV w) (blkV v)):Mm G (O.set i o') z e m k vs:=by
 have old:∀(a:Nat) (p:Ob D),(O.set i o')[a]? =some p→(a≠i∧O[a]? =some p)∨(a=i∧p=o'):=by
  intro a p ha
  by_cases hai:i=a
  ·subst hai
   rw[List.getElem?_set_self hi] at ha
   exact .inr ⟨rfl,(Option.some.inj ha).symm⟩
  ·rw[List.getElem?_set_ne hai] at ha
   exact .inl ⟨fun hh=>hai hh.symm,ha⟩
 refine ⟨h.st,by rw[List.length_set];exact h.len,fun j p w hj hw=> ?_,fun a b p q u w hab ha hb la lb hu hw=> ?_⟩
 ·rcases old j p hj with ⟨_,h1⟩|⟨rfl,rfl⟩
  ·exact h.obj j p w h1 hw
  ·rw[hv] at hw;cases hw;exact hn
 ·rcases old a p ha with ⟨a1,a2⟩|⟨rfl,rfl⟩
  ·rcases old b q hb with ⟨b1,b2⟩|⟨rfl,rfl⟩
   ·exact h.ap a b p q u w hab a2 b2 la lb hu hw
   ·rw[hv] at hw;cases hw;exact hap a p u a1 a2 la hu
  ·rcases old b q hb with ⟨b1,b2⟩|⟨rfl,rfl⟩
   ·rw[hv] at hu;cases hu;exact (hap b q w b1 b2 lb hw).symm
   ·exact absurd rfl hab
variable {α:Type} {T:Ty α} {e0:Nat} {xss:List (List α)} {ws:List Value} {v:Value}
open Classical in
noncomputable def qfm (z:Nat→Blk) (n:Nat) (e m:Mem) (v:Value):Nat→Blk:=fun b=>
 match z b with
 | .lock n' j L t=>if n'=n∧n≠0∧e.next≤b then .own L t else .lock n' j L t
 |x=>if qag v=some b then m.blk b else x
theorem qi0 {β:Type} {T0:Ty β} {f:List α→β} (h:NestOk e0 T z e m k vs xss none v ws) (h1:T0.sz=1) (h2:T0.tid=e0) (hr:∀z xs c,SlR T z xs c→T0.rd z (f xs) [c]) (st:St z e m k):
  ∃z',Zx e.next z z'∧St z' e m k∧SlR T0 z' (xss.map f) v∧∀b,blkV v≠some b→(bkV v=0∨∀j L t,z b≠ .lock (bkV v) j L t)→z' b=z b:=by
 have hv:blkV v=qag v:=qam (by obtain ⟨a,c,rfl⟩:=h.ow.ow.len;intro r;simp)
 have hdead:=fun b (hb:qag v=some b)=>(h.ow.ow.lt b hb).2
 have other:∀b,qag v≠some b→(∀n j L t,z b≠ .lock n j L t)→qfm z (bkV v) e m v b=z b:=by
  intro b hb hn
  unfold qfm
  split
  ·rename_i n j L t hz;exact absurd hz (hn n j L t)
  ·rw[if_neg hb]
 have hlock:∀b n j L t,z b= .lock n j L t→qfm z (bkV v) e m v b=if n=bkV v∧bkV v≠0∧e.next≤b then .own L t else .lock n j L t:=by
  intro b n j L t hb
  unfold qfm
  rw[hb]
 have hout:∀b,qag v=some b→qfm z (bkV v) e m v b=m.blk b:=by
  intro b hb
  unfold qfm
  rw[hdead b hb]
  simp only
  rw[if_pos hb]
 have hle:Zle z (qfm z (bkV v) e m v):=fun b hb=>other b (fun hh=>by rw[hdead b hh] at hb;exact hb) fun n j L t hh=>by rw[hh] at hb;exact hb
 refine ⟨qfm z (bkV v) e m v,⟨hle,fun b hb=> ?_⟩,⟨fun b hb=> ?_,st.dead,st.dead0,st.next,st.kept⟩, ?_,fun b hb hn=> ?_⟩
 ·cases hz:z b with
  |lock n j L t=>rw[hlock b n j L t hz,if_neg (by omega)]
  |_=>
   have:=other b (fun hh=>by have:=h.ow.fresh b hh;omega) (fun n j L t hh=>by rw[hz] at hh;cases hh)
   rw[this,hz]
 ·by_cases hbv:qag v=some b
  ·rw[hout b hbv]
   have:=h.ow.lt2 b hbv
   exact ⟨this.2.symm,this.1⟩
  ·cases hz:z b with
   |lock n j L t=>
    have:=st.fz b (by rw[hz];simp)
    rw[hz] at this
    rw[hlock b n j L t hz]
    split
    ·exact this
    ·exact this
   |_=>
    have h3:=other b hbv (fun n j L t hh=>by rw[hz] at hh;cases hh)
    rw[h3] at hb⊢
    exact st.fz b hb
 ·have inn:∀(j:Nat) (w:Value) (xs:List α),ws[j]? =some w→xss[j]? =some xs→SlR T (qfm z (bkV v) e m v) xs w:=by
   intro j w xs hw hx
   rcases h.inn j w xs hw hx (fun p hp=>by cases hp) with hh|⟨b,f0,L,c,rfl,g2,g3,g4,g5,g6⟩
   ·exact .inl hh
   ·have hz':qfm z (bkV v) e m v b= .own L T.tid:=by
     have h0:bkV v≠0:=by
      intro h0
      unfold bkV at h0
      rcases h.ow.ow with ⟨rfl,hws⟩|⟨b',o',L',c',rfl,_⟩
      ·rw[hws] at hw;simp at hw
      ·simp[qag] at h0
     rw[hlock b _ _ _ _ g2,if_pos ⟨rfl,h0,g3⟩]
    refine .inr ⟨b,f0,c,rfl,by rw[hz'];exact True.intro, ?_,fun i x hi=> ?_⟩
    ·rcases g5 with g5|⟨g5,g7,_⟩
     ·exact .inl ⟨g5,L,hz',g4⟩
     ·exact .inr ⟨g5,g7⟩
    ·obtain ⟨cs,q1,q2⟩:=g6 i x hi
     refine ⟨cs,T.mono _ _ hle _ _ q1,fun a u ha=> ?_⟩
     simp only[ldz,hz']
     exact q2 a u ha
  rcases h.ow.ow with ⟨rfl,hws⟩|⟨b,f0,L,c,rfl,g1,g2,g3,g4,g5,g6⟩
  ·have:xss=[]:=List.length_eq_zero_iff.1 (by rw[←h.len,hws];rfl)
   subst this
   exact .inl ⟨rfl,rfl⟩
  ·have hz':=hout b rfl
   rw[g1] at hz'
   have hl:(xss.map f).length=ws.length:=by rw[List.length_map,h.len]
   refine .inr ⟨b,f0,c,by rw[hl],by rw[hz'];exact True.intro, ?_,fun i x hi=> ?_⟩
   ·rcases g5 with g5|⟨g5,g7,_⟩
    ·exact .inl ⟨g5,L,by rw[hz',h2];rfl,by rw[hl,h1];exact g4⟩
    ·exact .inr ⟨g5,by rw[hl];exact g7⟩
   ·rw[List.getElem?_map] at hi
    obtain ⟨xs,hx,rfl⟩:=Option.map_eq_some_iff.1 hi
    have hlt:i<ws.length:=by rw[h.len];exact (List.getElem?_eq_some_iff.1 hx).1
    have hw:=List.getElem?_eq_getElem hlt
    obtain ⟨cs,q1,q2⟩:=g6 i _ hw
    refine ⟨[ws[i]],hr _ _ _ (inn i _ xs hw hx),fun a u ha=> ?_⟩
    rw[q1.1] at q2
    simp only[ldz,hz',h1]
    exact q2 a u ha
 ·rw[hv] at hb
  cases hz:z b with
  |lock n j L t=>
   rw[hlock b n j L t hz,if_neg]
   rintro ⟨rfl,h0,_⟩
   rcases hn with hn|hn
   ·exact h0 hn
   ·exact hn j L t hz
  |_=>
   have h3:=other b hb (fun n j L t hh=>by rw[hz] at hh;cases hh)
   rw[h3,hz]
theorem qn3 {jo j:Nat} {w:Value} {xs:List α} (h:NestOk e0 T z e m k vs xss none v ws) (st:St z e m k) (hw:ws[j]? =some w) (hx:xss[j]? =some xs) (hj:∀(i:Nat) (u:Value),vs[i]? =some u→vs'[i]? =some u) (hjo:vs'[jo]? =some w):
  ∃z',Zx e.next z z'∧St z' e m k∧NestOk e0 T z' e m k vs' xss (some ((j:Int),jo)) v ws∧OwF T z' e m k xs w∧(∀b,z' b=z b∨qag w=some b∧bkV v≠0∧∃L t,z b= .lock (bkV v) j L t)∧∀b,qag w=some b→z b≠ .dead:=by
 have keep:∀{z'},Zle z z'→(∀b,z' b=z b∨qag w=some b∧bkV v≠0∧∃L t,z b= .lock (bkV v) j L t)→(∀b,qag v=some b→z' b=z b)→NestOk e0 T z' e m k vs' xss (some ((j:Int),jo)) v ws:=by
  intro z' hle hch hvb
  refine ⟨h.ow.zle hle hvb,h.len,fun j2 w2 xs2 g1 g2 g3=> ?_,fun p hp=>by cases hp;exact ⟨by simp,w,hjo,by simpa using hw⟩⟩
  have hne:j2≠j:=fun hh=>g3 _ rfl (by rw[hh])
  rcases h.inn j2 w2 xs2 g1 g2 (fun p hp=>by cases hp) with hh|⟨b,f0,L,c,q1,q2,q3,q4,q5,q6⟩
  ·exact .inl hh
  ·refine .inr ⟨b,f0,L,c,q1, ?_,q3,q4,q5,fun i x hi=> ?_⟩
   ·rcases hch b with hh|⟨_,_,L2,t2,hh⟩
    ·rw[hh];exact q2
    ·rw[q2] at hh
     exact absurd (by injection hh) hne
   ·obtain ⟨cs,r1,r2⟩:=q6 i x hi
    exact ⟨cs,T.mono _ _ hle _ _ r1,r2⟩
 rcases h.inn j w xs hw hx (fun p hp=>by cases hp) with ⟨rfl,rfl⟩|⟨b,f0,L,c,rfl,g2,g3,g4,g5,g6⟩
 ·exact ⟨z,Zx.refl z,st,keep (Zle.refl z) (fun b=> .inl rfl) (fun _ _=>rfl),OwF.nil,fun b=> .inl rfl,fun b hb=>by cases hb⟩
 ·have h0:bkV v≠0:=by
   intro h0
   unfold bkV at h0
   rcases h.ow.ow with ⟨rfl,hws⟩|⟨b',o',L',c',rfl,_⟩
   ·rw[hws] at hw;simp at hw
   ·simp[qag] at h0
  let z':Nat→Blk:=fun c=>if c=b then .dead else z c
  have e1:z' b= .dead:=if_pos rfl
  have e2:∀c,c≠b→z' c=z c:=fun c hc=>if_neg hc
  have hle:Zle z z':=fun c hc=>e2 c (fun hh=>by rw[hh,g2] at hc;exact hc)
  have hch:∀c',z' c'=z c'∨qag (Value.slice (some ⟨b,f0,none⟩) xs.length c)=some c'∧bkV v≠0∧∃L t,z c'= .lock (bkV v) j L t:=fun c'=>by
   by_cases hc:c'=b
   ·subst hc;exact .inr ⟨rfl,h0,L,_,g2⟩
   ·exact .inl (e2 c' hc)
  have hfz:=st.fz b (by rw[g2];simp)
  rw[g2] at hfz
  refine ⟨z',⟨hle,fun c hc=>e2 c (by omega)⟩,⟨fun c hc=> ?_,st.dead,st.dead0,st.next,st.kept⟩,keep hle hch (fun c hc=>e2 c (fun hh=> ?_)),⟨.inr ⟨b,f0,L,c,rfl,hfz.1,hfz.2,e1,g4,g5,fun i x hi=> ?_⟩,fun c hc=>by cases hc;exact g3⟩,hch,fun c hc=>by cases hc;rw[g2];simp⟩
  ·by_cases hcb:c=b
   ·subst hcb;rw[e1] at hc;exact absurd rfl hc
   ·rw[e2 c hcb] at hc⊢;exact st.fz c hc
  ·subst hh
   have:=(h.ow.ow.lt c hc).2
   rw[g2] at this;cases this
  ·obtain ⟨cs,r1,r2⟩:=g6 i x hi
   exact ⟨cs,T.mono _ _ hle _ _ r1,r2⟩
theorem qi1 {hole:Option (Int×Nat)} {j:Nat} {w:Value} {xs:List α} {ws':List Value} (h:NestOk e0 T z e m k vs xss hole v ws) (st:St z e m' k) (ho:OwF (TVal e0) z e m' k ws' v) (hws:ws'=ws.set j w) (hj:j<ws.length) (hh:∀p,hole=some p→p.1=(j:Int)) (hw:OwF T z e m' k xs w) (hap:Ap (qag w) (qag v)):
  ∃z',Zx e.next z z'∧St z' e m' k∧NestOk e0 T z' e m' k vs (xss.set j xs) none v ws'∧∀b,z' b=z b∨qag w=some b:=by
 have keep:∀{z'},Zle z z'→(∀b,z' b=z b∨qag w=some b)→InR T z' e.next (bkV v) j xs w→NestOk e0 T z' e m' k vs (xss.set j xs) none v ws':=by
  intro z' hle hch hin
  refine ⟨ho.zle hle fun b hb=> ?_,by rw[hws,List.length_set,List.length_set];exact h.len,fun j2 w2 xs2 g1 g2 g3=> ?_,fun p hp=>by cases hp⟩
  ·rcases hch b with hc|hc
   ·exact hc
   ·exact absurd hb (hap b hc)
  ·rw[hws,List.getElem?_set] at g1
   rw[List.getElem?_set] at g2
   by_cases he:j=j2
   ·subst he
    rw[if_pos rfl,if_pos hj] at g1
    rw[if_pos rfl,if_pos (by rw[←h.len];exact hj)] at g2
    cases g1;cases g2
    exact hin
   ·rw[if_neg he] at g1 g2
    rcases h.inn j2 w2 xs2 g1 g2 (fun p hp hh2=>he (by have:=hh p hp;omega)) with hc|⟨b,f0,L,c,q1,q2,q3,q4,q5,q6⟩
    ·exact .inl hc
    ·refine .inr ⟨b,f0,L,c,q1, ?_,q3,q4,q5,fun i x hi=> ?_⟩
     ·rcases hch b with hc|hc
      ·rw[hc];exact q2
      ·have:=(hw.ow.lt b hc).2
       rw[this] at q2;cases q2
     ·obtain ⟨cs,r1,r2⟩:=q6 i x hi
      exact ⟨cs,T.mono _ _ hle _ _ r1,r2⟩
 rcases hw.ow with ⟨rfl,rfl⟩|⟨b,f0,L,c,rfl,g1,g2,g3,g4,g5,g6⟩
 ·exact ⟨z,Zx.refl z,st,keep (Zle.refl z) (fun b=> .inl rfl) (.inl ⟨rfl,rfl⟩),fun b=> .inl rfl⟩
 ·let z':Nat→Blk:=fun c=>if c=b then .lock (bkV v) j L T.tid else z c
  have e1:z' b= .lock (bkV v) j L T.tid:=if_pos rfl
  have e2:∀c,c≠b→z' c=z c:=fun c hc=>if_neg hc
  have hle:Zle z z':=fun c hc=>e2 c (fun hh=>by rw[hh,g3] at hc;exact hc)
  have hch:∀c',z' c'=z c'∨qag (Value.slice (some ⟨b,f0,none⟩) xs.length c)=some c':=fun c'=>by
   by_cases hc:c'=b
   ·subst hc;exact .inr rfl
   ·exact .inl (e2 c' hc)
  have hfr:=hw.fresh b rfl
  refine ⟨z',⟨hle,fun c hc=>e2 c (by omega)⟩,⟨fun c hc=> ?_,st.dead,st.dead0,st.next,st.kept⟩,keep hle hch (.inr ⟨b,f0,L,c,rfl,e1,hfr,g4,g5,fun i x hi=> ?_⟩),hch⟩
  ·by_cases hcb:c=b
   ·subst hcb;rw[e1];exact ⟨g1,g2⟩
   ·rw[e2 c hcb] at hc⊢;exact st.fz c hc
  ·obtain ⟨cs,r1,r2⟩:=g6 i x hi
   exact ⟨cs,T.mono _ _ hle _ _ r1,r2⟩
end
end Go.AM
end
section
set_option linter.unusedSimpArgs false
set_option linter.unusedVariables false
namespace Go.AM
noncomputable section
section
variable {P:Program} {D:Nat→Type}
def qkU:CV D→Bool
 | .nilS| .nilP| .nilM| .own _=>false
 |_=>true
def nOwn:CV D→Bool
 | .own _=>false
 | .fn _ is=>is.isEmpty
 |_=>true
def MtC:List (CV D)→List (CV D)→Prop
 |[],[]=>True
 |c::cs,d::ds=>(qkU c=true→d=c)∧MtC cs ds
 |_,_=>False
theorem MtC.eq:∀{cs ds:List (CV D)},MtC cs ds→cs.all qkU=true→cs=ds
 |[],[],_,_=>rfl
 |c::cs,d::ds,h,hn=>by
  simp only[List.all_cons,Bool.and_eq_true] at hn
  rw[h.1 hn.1,MtC.eq h.2 hn.2]
 |[],_::_,h,_=>h.elim
 |_::_,[],h,_=>h.elim
theorem MtC.refl:∀(cs:List (CV D)),MtC cs cs
 |[]=>trivial
 |_::cs=>⟨fun _=>rfl,MtC.refl cs⟩
structure TI (P:Program) (G:Tab D) (t:Nat) where
 lv:D t→List (CV D)
 pk:List (CV D)→Option (D t)
 x0:D t
 i:TypeInfo
 zv:Value
 tid:(G.T t).tid=t
 hi:P.info? t=some i
 hsz:i.size=(G.T t).sz
 hpos:((G.T t).sz==0)=false
 hby:Nat.ble i.bytes 32768=true
 hz:i.zero=some zv
 hzf:zv.cells.toList.all qah=true
 hzs:zv.cells.size=i.size
 rd0:∀z,(G.T t).rd z x0 zv.cells.toList
 rdl:∀z vs x cs,(G.T t).rd z x cs→L2 (rel0 G z vs) (lv x) cs
 pkl:∀z vs cs x ds,pk cs=some x→L2 (rel0 G z vs) cs ds→(G.T t).rd z x ds
 pklv:∀x,pk (lv x)=some x
 pkn:∀cs x,pk cs=some x→MtC cs (lv x)
 zc:List (CV D)
 hzc:∀z vs,L2 (rel0 G z vs) zc zv.cells.toList
 lvo:∀x,(lv x).all nOwn=true
structure AI (P:Program) (G:Tab D) (t:Nat) where
 e:Nat
 n:Nat
 ti:TI P G e
 i:TypeInfo
 zv:Value
 hu:P.underlying t=some (.array n e)
 hi:P.info? t=some i
 hz:i.zero=some zv
 hzf:zv.cells.toList.all qah=true
 hzs:zv.cells.size=i.size
 hzc:zv.cells.toList=(List.replicate n ti.zv.cells.toList).flatten
 hn:Nat.blt n BIG=true
structure MI (P:Program) (G:Tab D) (kt vt:Nat) where
 dec:DecidableEq (D kt)
 K:KeyOk P kt (G.kc kt)
 V:ValOk P vt (G.kc vt)
 kget:SV D→Option (D kt)
 vget:CV D→Option (D vt)
 vput:D vt→CV D
 z0:D vt
 i:TypeInfo
 hi:P.info? vt=some i
 hz:i.zero=some (qal (qaj P vt) (G.kc vt z0))
 hkg:∀z vs s a v,kget s=some a→rel G z vs s v→v=qal (qaj P kt) (G.kc kt a)
 hvg:∀z vs c a v,vget c=some a→rel0 G z vs c v→v=qal (qaj P vt) (G.kc vt a)
 hvp:∀z vs a,rel0 G z vs (vput a) (qal (qaj P vt) (G.kc vt a))
 hvn:qaj P vt=false
structure BI (P:Program) (G:Tab D) (e:Nat) where
 to:List (D e)→List UInt8
 of:List UInt8→List (D e)
 hr:∀z xs v,SlR (G.T e) z xs v→SlR (TU8 e) z (to xs) v
 ho:∀z m0 m k xs v,OwF (G.T e) z m0 m k xs v→OwF (TU8 e) z m0 m k (to xs) v
 hb:∀z m0 m k xs v,OwF (TU8 e) z m0 m k xs v→OwF (G.T e) z m0 m k (of xs) v
 i:TypeInfo
 hu:P.underlying e=some (.int .u8)
 hi:P.info? e=some i
 hi1:i.size=1
structure QI (P:Program) (G:Tab D) (t:Nat) where
 fs:Array Field
 eq:D t→D t→Bool
 va:D t→List Value
 ht:P.underlying t=some (.struct fs)
 hp:P.stoodInHeld t=false
 hg:P.eqGuardType P.depth t=false
 hs:∀x y,ScalF P fs.toList 0 (va x) (va y)
 hv:∀z x ds,(G.T t).rd z x ds→ds=va x
 he:∀x y,eq x y=true↔va x=va y
structure SI (P:Program) (G:Tab D) where
 f:Nat
 g:Nat
 e:Nat
 srt:List (D e)→Option (List (D e))
 va:D e→List Value
 hv:∀z x ds,(G.T e).rd z x ds→ds=va x
 hr:∀z x,(G.T e).rd z x (va x)
 hf:∀x,(va x).all qah=true
 ok:okFn P f=true
 h0:qs1 P f (.func (.func g) #[] #[])
 hn:∀xs ys,srt xs=some ys→ys.length=xs.length
 hs:∀xs ys,srt xs=some ys→0<xs.length→qro P f (.func (.func g) #[] #[]) xs.length (xs.flatMap va) (ys.flatMap va)
structure NI (P:Program) (G:Tab D) (e t:Nat) where
 up:List (D t)→D e
 hsz:(G.T e).sz=1
 tid:(G.T e).tid=e
 hr:∀z xs c,SlR (G.T t) z xs c→(G.T e).rd z (up xs) [c]
 i:TypeInfo
 hi:P.info? e=some i
 hz:i.zero=some (.slice none 0 0)
 h1:i.size=1
 hby:Nat.ble i.bytes 32768=true
 hu:P.underlying e=some (.slice t)
 ht:(G.T t).tid=t
structure Ev (P:Program) (D:Nat→Type) where
 G:Tab D
 S:List (SI P G):=[]
 I:(t:Nat)→Option (TI P G t)
 A:(t:Nat)→Option (AI P G t)
 J:(kt vt:Nat)→Option (MI P G kt vt)
 B:(e:Nat)→Option (BI P G e)
 Q:(t:Nat)→Option (QI P G t)
 N:(e t:Nat)→Option (NI P G e t):=fun _ _=>none
 F:(f:Nat)→List (SV D)→List (Ob D)→Bool
 U:Operand→Option Operand→Option Operand→Nat:=fun _ _ _=>0
 W:(f:Nat)→Bool:=fun _=>false
 C:(f:Nat)→List (SV D)→List (Ob D)→{ρ:Type}→(SV D→List (Ob D)→Option ρ)→Option ρ
variable (X:Ev P D) {ρ:Type}
def lkE:List (Nat×SV D)→Nat→SV D
 |[],_=> .un
 |p::E,i=>if Nat.beq p.1 i=true then p.2 else lkE E i
def putE (E:List (Nat×SV D)):Option Nat→SV D→List (Nat×SV D)
 |none,_=>E
 |some d,v=>(d,v)::E
def ofV:Value→SV D
 | .int k n=> .c (.int k n)
 | .bool b=> .c (.bool b)
 | .string b=> .c (.str b.data.toList)
 | .slice none 0 0=> .c .nilS
 | .pointer none=> .c .nilP
 | .map none=> .c .nilM
 | .nilFunc=> .c .nilF
 |_=> .un
def sop (E:List (Nat×SV D)):Operand→SV D
 | .tmp t=>lkE E t
 | .const v=>ofV v
 | .func f=> .fn f []
 | .global _=> .un
def qnV:Operand→Bool
 | .const (.int _ n)=>n !=0
 |_=>false
def binI (op:BinOp) (y:Operand) (k:IntKind) (a b:Int) (K:CV D→Option ρ):Option ρ:=
 match op with
 | .add=>K (.int k (k.wrap (a+b)))
 | .sub=>K (.int k (k.wrap (a - b)))
 | .mul=>K (.int k (k.wrap (a*b)))
 | .and=>K (.int k (qhz .and k a b))
 | .or=>K (.int k (qhz .or k a b))
 | .xor=>K (.int k (qhz .xor k a b))
 | .andNot=>K (.int k (qhz .andNot k a b))
 | .eql=>K (.bool (a==b))
 | .neq=>K (.bool (a !=b))
 | .lss=>K (.bool (decide (a<b)))
 | .leq=>K (.bool (decide (a≤b)))
 | .gtr=>K (.bool (decide (b<a)))
 | .geq=>K (.bool (decide (b≤a)))
 | .quo=>if qnV y=true then K (.int k (k.wrap (Int.tdiv a b))) else Option.bind (divI a b) fun c=>K (.int k (k.wrap c))
 | .rem=>if qnV y=true then K (.int k (Int.tmod a b)) else Option.bind (modI a b) fun c=>K (.int k c)
 |_=>none
def binS (op:BinOp) (s r:List UInt8) (K:CV D→Option ρ):Option ρ:=
 match op with
 | .add=>Option.bind (appI s r) fun q=>K (.str q)
 | .eql=>K (.bool (s==r))
 | .neq=>K (.bool (!(s==r)))
 | .lss=>K (.bool (qlb s r))
 | .leq=>K (.bool (qlb s r||(s==r)))
 | .gtr=>K (.bool (!(qlb s r||(s==r))))
 | .geq=>K (.bool (!qlb s r))
 |_=>none
def binB (op:BinOp) (a b:Bool) (K:CV D→Option ρ):Option ρ:=
 match op with
 | .eql=>K (.bool (a==b))
 | .neq=>K (.bool (!(a==b)))
 |_=>none
def qqG:Operand→Bool
 | .const (.slice none 0 0)=>true
 |_=>false
def qeg (O:List (Ob D)):SV D→Option ((e:Nat)×List (D e))
 | .c (.sl e xs)=>some ⟨e,xs⟩
 | .c (.own i)=>
  match O[i]? with
  |some (.sl e xs _ _)=>some ⟨e,xs⟩
  |_=>none
 |_=>none
def qpL:Operand→Option Nat
 | .const (.int _ (.ofNat n))=>some n
 |_=>none
def shN (k:IntKind) (b:Int):Option Nat:=if 0≤b then some (min b.toNat k.bits) else none
def shV (left:Bool) (k:IntKind) (a:Int) (n:Nat):Int:=if left=true then k.wrap (a*((2 ^ n:Nat):Int)) else a.fdiv ((2 ^ n:Nat):Int)
def shX (left:Bool) (y:Operand) (k:IntKind) (a b:Int) (K:CV D→Option ρ):Option ρ:=
 match qpL y with
 |some n=>if Nat.ble n k.bits=true then K (.int k (shV left k a n)) else none
 |none=>Option.bind (shN k b) fun n=>K (.int k (shV left k a n))
def eqA (op:BinOp) (t t1:Nat) (c1:List (CV D)) (t2:Nat) (c2:List (CV D)) (K:CV D→Option ρ):Option ρ:=
 match X.I t,X.Q t with
 |some ti,some qi=>
  match ti.pk c1,ti.pk c2 with
  |some a,some b=>(match op with| .eql=>K (.bool (qi.eq a b))| .neq=>K (.bool (!(qi.eq a b)))|_=>none)
  |_,_=>none
 |_,_=>none
def binX (op:BinOp) (t:TypeId) (y:Operand) (O:List (Ob D)) (a b:SV D) (K:CV D→Option ρ):Option ρ:=
 match a,b with
 | .c (.int k a), .c (.int k' b)=>(match op with| .shl=>shX true y k a b K| .shr=>shX false y k a b K|op=>if k=k' then binI op y k a b K else none)
 | .c (.str s), .c (.str r)=>binS op s r K
 | .c (.bool a), .c (.bool b)=>match P.underlying t with|some .bool=>binB op a b K|_=>none
 |a,_=>
  match op,P.underlying t,qqG y with
  | .eql,some (.slice _),true=>
   match a with
   | .c .nilS=>K (.bool true)
   |a=>match qeg O a with|some ⟨_,xs⟩=>nilT xs fun t=>K (.bool t)|none=>none
  | .neq,some (.slice _),true=>
   match a with
   | .c .nilS=>K (.bool false)
   |a=>match qeg O a with|some ⟨_,xs⟩=>nilT xs fun t=>K (.bool (!t))|none=>none
  |_,_,_=>none
def setC:List (CV D)→Nat→List (CV D)→List (CV D)
 |L,_,[]=>L
 |L,o,v::vs=>setC (L.set o v) (o+1) vs
def frzO (O:List (Ob D)) (i:Nat):Option (CV D×List (Ob D)):=
 match O[i]? with
 |some (.sl e xs _ w)=>some (.sl e xs,O.set i (.sl e xs true w))
 |some (.map t kt vt es _ w)=>some (.mp t kt vt es,O.set i (.map t kt vt es true w))
 |some (.nest e t (some up) xss none w)=>some (.sl e (xss.map up),O.set i (.sl e (xss.map up) true w))
 |_=>none
def frzC (O:List (Ob D)):CV D→Option (CV D×List (Ob D))
 | .own i=>frzO O i
 |c=>some (c,O)
def frzL (O:List (Ob D)):List (CV D)→Option (List (CV D)×List (Ob D))
 |[]=>some ([],O)
 |c::cs=>
  match frzC O c with
  |some (c',O')=>match frzL O' cs with|some (cs',O'')=>some (c'::cs',O'')|none=>none
  |none=>none
def qfv:SV D→Option (List (CV D))
 | .c c=>some [c]
 | .agg _ cs=>some cs
 | .fn f []=>some [.fn f []]
 |_=>none
def frzS (O:List (Ob D)) (s:SV D):Option (List (CV D)×List (Ob D)):=
 match qfv s with
 |some cs=>frzL O cs
 |none=>none
def qef (t:TypeId) (cs:List (CV D)) (off:Nat) (K:SV D→Option ρ):Option ρ:=
 match P.underlying t with
 |none=>none
 |some d=>
  if aggT d=true then
   match P.info? t with
   |none=>none
   |some i=>if ((cs.drop off).take i.size).length=i.size then K (.agg t ((cs.drop off).take i.size)) else none
  else
   match cs[off]? with
   |some c=>K (.c c)
   |none=>none
def qxO (O:List (Ob D)) (e:Nat):SV D→Option (List (D e)×List (Ob D))
 | .c .nilS=>some ([],O)
 | .c c=>
  match frzC O c with
  |some (.sl e' xs,O')=>if h:e'=e then some (h▸xs,O') else none
  |_=>none
 |_=>none
def qnh:Operand→Operand→Bool
 | .tmp a, .tmp b=>Nat.beq a b
 | .const (.int _ a), .const (.int _ b)=>a==b
 |_,_=>false
structure LM (D:Nat→Type) where
 u:Nat
 kt:Nat
 vt:Nat
 es:List (D kt×D vt)
def qqQ (O:List (Ob D)):SV D→Option (LM D)
 | .c (.mp u k v es)=>some ⟨u,k,v,es⟩
 | .c (.own i)=>(match O[i]? with|some (.map u k v es _ _)=>some ⟨u,k,v,es⟩|_=>none)
 |_=>none
def qq0 (t:TypeId) (a b:SV D) (O:List (Ob D)) (K:SV D→List (Ob D)→Option ρ):Option ρ:=
 match b with
 | .c (.int _ n)=>
  match a with
  | .arr i=>
   match O[i]? with
   |some (.arr e u n' xs _)=>
    match X.I e,P.underlying t with
    |some _,some (.array l e')=>if e'=e∧l=n' then Option.bind (getI xs n) fun _=>K (.el i e n 0) O else none
    |_,_=>none
   |_=>none
  | .c (.sl e xs)=>
   match X.I e,P.underlying t with
   |some ti,some (.slice e')=>if e'=e then Option.bind (getI xs n) fun a=>K (.rp e (ti.lv a) 0) O else none
   |_,_=>none
  | .c (.own i)=>
   match O[i]? with
   |some (.sl e xs fz _)=>
    match X.I e,P.underlying t with
    |some ti,some (.slice e')=>if e'=e then Option.bind (getI xs n) fun a=>if fz=true then K (.rp e (ti.lv a) 0) O else K (.el i e n 0) O else none
    |_,_=>none
   |some (.nest e t1 _ xss _ _)=>
    match X.N e t1,P.underlying t with
    |some _,some (.slice e')=>if e'=e then Option.bind (getI xss n) fun _=>K (.el i e n 0) O else none
    |_,_=>none
   |_=>none
  | .cut i e lo hi=>
   match O[i]? with
   |some (.sl e1 xs false _)=>
    match X.I e,P.underlying t with
    |some _,some (.slice e')=>if e'=e∧e1=e then Option.bind (getI ((xs.take hi).drop lo) n) fun _=>K (.el i e ((lo:Int)+n) 0) O else none
    |_,_=>none
   |_=>none
  |_=>none
 |_=>none
def qqY (t:TypeId) (n:Nat) (a:SV D) (O:List (Ob D)) (K:SV D→List (Ob D)→Option ρ):Option ρ:=
 match P.underlying t with
 |some (.struct fs)=>
  match fs[n]? with
  |some f=>
   match P.info? f.type with
   |some k=>
    if k.size=0 then none else
    match a with
    | .box i off=>K (.box i (off+f.offset)) O
    | .rp t' cs off=>K (.rp t' cs (off+f.offset)) O
    | .el i e ix off=>K (.el i e ix (off+f.offset)) O
    |_=>none
   |none=>none
  |none=>none
 |_=>none
def qiP (O:List (Ob D)) (i:Nat):Option (List (Ob D)):=
 match O[i]? with
 |some (.nest _ _ _ _ none _)=>some O
 |some (.nest e t up xss (some p) _)=>
  match O[p.2]? with
  |some (.sl t' xs false _)=>if h:t'=t then some ((O.set i (.nest e t up (xss.set p.1.toNat (h▸xs)) none true)).set p.2 .dead) else none
  |_=>none
 |_=>none
def qi3 (t:TypeId) (i e:Nat) (ix:Int) (off:Nat) (O:List (Ob D)) (K:SV D→List (Ob D)→Option ρ):Option ρ:=
 match qiP O i with
 |some O1=>
  match O1[i]? with
  |some (.nest e1 t1 up xss none w)=>
   match X.N e1 t1 with
   |some _=>if e1=e∧t=e∧off=0 then Option.bind (getI xss ix) fun xs=>K (.c (.own O1.length)) (O1.set i (.nest e1 t1 up xss (some (ix,O1.length)) w)++[.sl t1 xs false false]) else none
   |none=>none
  |_=>none
 |none=>none
def ql1:Option (Ob D)→Bool
 |some (.nest _ _ _ _ _ _)=>true
 |_=>false
def qkk (t:TypeId) (a:SV D) (O:List (Ob D)) (K:SV D→List (Ob D)→Option ρ):Option ρ:=
 match a with
 | .rp _ cs off=>qef (P:=P) t cs off fun v=>K v O
 | .box i off=>
  match O[i]? with
  |some (.box _ cs _ _)=>qef (P:=P) t cs off fun v=>K v O
  |some (.recv _ cs _)=>qef (P:=P) t cs off fun v=>K v O
  |_=>none
 | .el i e ix off=>
  if ql1 O[i]? =true then qi3 X t i e ix off O K else
  match O[i]?,X.I e with
  |some (.sl e' xs _ _),some ti=>if h:e'=e then Option.bind (getI (h▸xs:List (D e)) ix) fun a=>qef (P:=P) t (ti.lv a) off fun v=>K v O else none
  |some (.arr e' _ _ xs _),some ti=>if h:e'=e then Option.bind (getI (h▸xs:List (D e)) ix) fun a=>qef (P:=P) t (ti.lv a) off fun v=>K v O else none
  |_,_=>none
 |_=>none
def qmH (t:TypeId) (a:SV D) (O:List (Ob D)) (K:SV D→List (Ob D)→Option ρ):Option ρ:=
 qkk X t a O fun sv O'=>match sv with
  | .c (.own j)=>(match frzO O' j with|some (c,O2)=>K (.c c) O2|none=>none)
  |_=>none
def qgD (t:TypeId) (i e:Nat) (ix:Int) (off:Nat) (b:SV D) (O:List (Ob D)) (K:SV D→List (Ob D)→Option ρ):Option ρ:=
 match b with
 | .c (.own j)=>
  match O[i]?,O[j]? with
  |some (.nest e1 t1 up xss hole _),some (.sl t2 xs false _)=>
   match X.N e1 t1 with
   |some _=>
    if h:t2=t1 then
     if e1=e∧t=e∧off=0 then
      match hole with
      |none=>Option.bind (getI xss ix) fun _=>K .undef ((O.set i (.nest e1 t1 up (xss.set ix.toNat (h▸xs)) none true)).set j .dead)
      |some p=>if p.1=ix then Option.bind (getI xss ix) fun _=>K .undef ((O.set i (.nest e1 t1 up (xss.set ix.toNat (h▸xs)) none true)).set j .dead) else none
     else none
    else none
   |none=>none
  |_,_=>none
 | .c .nilS=>
  match O[i]? with
  |some (.nest e1 t1 up xss hole _)=>
   match X.N e1 t1 with
   |some _=>
    if e1=e∧t=e∧off=0 then
     match hole with
     |none=>Option.bind (getI xss ix) fun _=>K .undef (O.set i (.nest e1 t1 up (xss.set ix.toNat []) none true))
     |some p=>if p.1=ix then Option.bind (getI xss ix) fun _=>K .undef (O.set i (.nest e1 t1 up (xss.set ix.toNat []) none true)) else none
    else none
   |none=>none
  |_=>none
 |_=>none
def qi5 (t:TypeId) (a b:SV D) (O:List (Ob D)) (K:SV D→List (Ob D)→Option ρ):Option ρ:=
 match P.info? t with
 |none=>none
 |some k=>
  match a with
  | .box i off=>
   match qfv b with
   |none=>none
   |some new=>
    if new.length=k.size then
     match O[i]? with
     |some (.box u cs false _)=>if off+new.length≤cs.length then K .undef (O.set i (.box u (setC cs off new) false true)) else none
     |some (.recv u cs _)=>if off+new.length≤cs.length then K .undef (O.set i (.recv u (setC cs off new) true)) else none
     |_=>none
    else none
  | .el i e ix off=>
   if ql1 O[i]? =true then qgD X t i e ix off b O K else
   match frzS O b with
   |none=>none
   |some (new,O)=>
    if new.length=k.size then
     match O[i]?,X.I e with
     |some (.sl e' xs false _),some ti=>
      if h:e'=e then Option.bind (getI (h▸xs:List (D e)) ix) fun a=>if off+new.length≤(ti.lv a).length then Option.bind (ti.pk (setC (ti.lv a) off new)) fun a'=>K .undef (O.set i (.sl e ((h▸xs:List (D e)).set ix.toNat a') false true)) else none
      else none
     |some (.arr e' u n xs _),some ti=>
      if h:e'=e then Option.bind (getI (h▸xs:List (D e)) ix) fun a=>if off+new.length≤(ti.lv a).length then Option.bind (ti.pk (setC (ti.lv a) off new)) fun a'=>K .undef (O.set i (.arr e u n ((h▸xs:List (D e)).set ix.toNat a') true)) else none
      else none
     |_,_=>none
    else none
  |_=>none
def qml {e:Nat} (ti:TI P X.G e) (E:List (Nat×SV D)):Nat→List (Nat×Operand)→List (Ob D)→(List (D e)→List (Ob D)→Option ρ)→Option ρ
 |_,[],O,K=>K [] O
 |n,(j,x)::ps,O,K=>
  if j=n then
   match frzS O (sop E x) with
   |some (cs,O)=>Option.bind (ti.pk cs) fun a=>qml ti E (n+1) ps O fun as O=>K (a::as) O
   |none=>none
  else none
def qiO (pl:List (Option (Nat×Nat))) (E:List (Nat×SV D)):List (Nat×Operand)→List (CV D)→Option (List (CV D))
 |[],cs=>some cs
 |(i,x)::ps,cs=>
  match (pl[i]?).join,qfv (sop E x) with
  |some (off,size),some new=>if new.length=size∧off+size≤cs.length then qiO pl E ps (setC cs off new) else none
  |_,_=>none
def lowX (E:List (Nat×SV D)):Option Operand→Option Int
 |none=>some 0
 |some y=>match sop E y with| .c (.int _ n)=>some n|_=>none
def qkP (E:List (Nat×SV D)) (l:Int):Option Operand→Option Int
 |none=>some l
 |some y=>match sop E y with| .c (.int _ n)=>some n|_=>none
def qqX (t:TypeId) (a:SV D) (E:List (Nat×SV D)) (lo hi:Option Operand) (O:List (Ob D)) (K:SV D→List (Ob D)→Option ρ):Option ρ:=
 match a with
 | .c (.str s)=>
  match P.underlying t,lowX E lo,qkP E (s.length:Int) hi with
  |some .string,some x,some y=>Option.bind (cutI s x y) fun r=>K (.c (.str r)) O
  |_,_,_=>none
 | .c c=>
  match frzC O c with
  |some (.sl e xs,O)=>
   match P.underlying t,X.I e,lowX E lo,qkP E (xs.length:Int) hi with
   |some (.slice e'),some _,some x,some y=>if e'=e then Option.bind (cutI xs x y) fun r=>K (.c (.sl e r)) O else none
   |_,_,_,_=>none
  |_=>none
 |_=>none
def nilB:SV D→Bool
 | .c .nilS=>true
 |_=>false
def qmC (t:TypeId) (y:Operand) (a:SV D) (E:List (Nat×SV D)) (lo hi:Option Operand) (O:List (Ob D)) (K:SV D→List (Ob D)→Option ρ):Option ρ:=
 if nilB a=true then
  match P.underlying t,lowX E lo,qkP E 0 hi with
  |some (.slice e),some p,some q=>(match X.I e with|some _=>if (p==0&&q==0)=true then K (.c .nilS) O else none|none=>none)
  |_,_,_=>none
 else
 match X.U y lo hi with
 |0=>qqX X t a E lo hi O K
 |md+1=>
  match a with
  | .c (.own i)=>
   match O[i]?,P.underlying t with
   |some (.sl e xs false _),some (.slice e')=>
    match X.I e,lowX E lo,qkP E (xs.length:Int) hi with
    |some _,some p,some q=>
     if e'=e then Option.bind (cutI xs p q) fun r=>
      if Nat.beq md 0=true then K (.cut i e p.toNat q.toNat) O
      else K (.c (.own O.length)) (O.set i .dead++[.sl e r false false])
     else none
    |_,_,_=>none
   |_,_=>none
  |_=>none
def qhN {α:Type} (xs:List α) (p q:Int):Option (List α):=if 0≤p∧p≤(xs.length:Int)∧p≤4294967296∧p=q then some (xs.take p.toNat) else none
def qmE (t:TypeId) (a b c:SV D) (O:List (Ob D)) (K:SV D→List (Ob D)→Option ρ):Option ρ:=
 match P.underlying t,b,c with
 |some (.slice e'), .c (.int _ p), .c (.int _ q)=>
  match a with
  | .c c=>
   match frzC O c with
   |some (.sl e xs,O)=>
    match X.I e with
    |some _=>if e'=e then Option.bind (qhN xs p q) fun r=>K (.full e r) O else none
    |none=>none
   |_=>none
  |_=>none
 |_,_,_=>none
def qmA (s t:TypeId) (a:SV D) (O:List (Ob D)) (K:SV D→List (Ob D)→Option ρ):Option ρ:=
 match P.underlying s,P.underlying t with
 |some (.int _),some (.int k')=>(match a with| .c (.int _ n)=>K (.c (.int k' (k'.wrap n))) O|_=>none)
 |some .string,some (.slice e)=>(match a,X.B e with| .c (.str s),some bi=>Option.bind (appI s []) (fun s'=>K (.c (.own O.length)) (O++[.sl e (bi.of s') false false]))|_,_=>none)
 |some (.slice e),some .string=>(match qeg O a,X.B e with|some ⟨e',xs⟩,some bi=>if h:e'=e then K (.c (.str (bi.to (h▸xs)))) O else none|_,_=>none)
 |_,_=>none
def qnY (O:List (Ob D)) (s:SV D):Option ((e:Nat)×List (D e)):=
 match s with
 | .cut i e lo n=>
  match O[i]? with
  |some (.sl e' xs false _)=>if e'=e then some ⟨e',(xs.take n).drop lo⟩ else none
  |_=>none
 |s=>qeg O s
def qn8 (t u:TypeId) (a b:SV D) (O:List (Ob D)) (K:SV D→List (Ob D)→Option ρ):Option ρ:=
 match P.underlying t,P.underlying u with
 |some (.slice e),some (.slice _)=>
  match X.I e with
  |none=>none
  |some _=>
   let ys:Option (List (D e)):=
    match b with
    | .c .nilS=>some []
    |b=>match qnY O b with|some ⟨e',ys⟩=>if h:e'=e then some (h▸ys) else none|none=>none
   match ys with
   |none=>none
   |some ys=>
    match a with
    | .c .nilS=>Option.bind (appI [] ys) fun r=>K (.c (.own O.length)) (O++[.sl e r false false])
    | .full e' xs=>if h:e'=e then (if ys.isEmpty=true then none else Option.bind (appI (h▸xs:List (D e)) ys) fun r=>K (.c (.own O.length)) (O++[.sl e r false false])) else none
    | .c (.own i)=>
     match O[i]? with
     |some (.sl e' xs false _)=>if h:e'=e then Option.bind (appI (h▸xs:List (D e)) ys) fun r=>K (.c (.own O.length)) (O.set i .dead++[.sl e r false false]) else none
     |_=>none
    | .cut i e1 lo n=>
     if Nat.beq lo 0=true then
      if e1=e then
       match O[i]? with
       |some (.sl e' xs false _)=>if h:e'=e then Option.bind (appI ((h▸xs:List (D e)).take n) ys) fun r=>K (.c (.own O.length)) (O.set i .dead++[.sl e r false false]) else none
       |_=>none
      else none
     else none
    |_=>none
 |_,_=>none
def qmx (t u:TypeId) (a b:SV D) (O:List (Ob D)) (K:SV D→List (Ob D)→Option ρ):Option ρ:=
 match P.underlying t,P.underlying u with
 |some (.slice e),some (.slice _)=>
  match X.I e,a,qnY O b with
  |some _, .full e' xs,some ⟨e2,ys⟩=>
   if h:e'=e then
    if h2:e2=e then Option.bind (appI (h▸xs:List (D e)) (h2▸ys:List (D e))) fun r=>if ys.isEmpty=true then K (.c (.sl e r)) O else K (.c (.own O.length)) (O++[.sl e r false false])
    else none
   else none
  |_,_,_=>none
 |_,_=>none
def qi2 (t:TypeId) (a b:SV D) (O:List (Ob D)) (K:SV D→List (Ob D)→Option ρ):Option ρ:=
 match P.underlying t,a,b with
 |some (.slice e), .c .nilS, .c (.int _ n)=>
  match X.I e with
  |some ti=>if (decide (0<n))=true then Option.bind (mkI ti.x0 n) fun r=>K (.c (.own O.length)) (O++[.sl e r false false]) else none
  |none=>none
 |some (.slice e), .c (.own i), .c (.int _ n)=>
  match qiP O i with
  |some O1=>
   match O1[i]? with
   |some (.nest e1 t1 up xa none _)=>
    match X.N e1 t1 with
    |some _=>if e1=e then Option.bind (mkI ([]:List (D t1)) n) fun ys=>Option.bind (appI xa ys) fun r=>K (.c (.own O1.length)) (O1.set i .dead++[.nest e1 t1 up r none false]) else none
    |none=>none
   |_=>none
  |none=>none
 |_,_,_=>none
def ql0:Option TypeDesc→Bool
 |some (.int _)=>true
 |_=>false
def qq2 (t:TypeId) (l:Nat) (ps:List (Nat×Operand)) (E:List (Nat×SV D)) (O:List (Ob D)) (K:SV D→List (Ob D)→Option ρ):Option ρ:=
 match P.underlying t with
 |some (.slice e)=>
  match P.underlying e with
  |some (.slice t1)=>
   match X.N e t1 with
   |some ni=>
    match l,ps with
    |0,[]=>K (.c (.own O.length)) (O++[.nest e t1 (some ni.up) [] none false])
    |1,[(0,y)]=>
     match sop E y with
     | .c (.own j)=>
      match O[j]? with
      |some (.sl t2 _ false _)=>if t2=t1 then K (.c (.own O.length)) (O++[.nest e t1 (some ni.up) [[]] (some (0,j)) false]) else none
      |_=>none
     |_=>none
    |_,_=>none
   |none=>none
  |_=>none
 |_=>none
def qmv (t u:TypeId) (i:Nat) (b:SV D) (O:List (Ob D)) (K:SV D→List (Ob D)→Option ρ):Option ρ:=
 match P.underlying t,P.underlying u with
 |some (.slice e),some (.slice _)=>
  match b with
  | .c (.own j)=>
   if Nat.beq i j=true then none else
   match qiP O i with
   |some O1=>
    match qiP O1 j with
    |some O2=>
     match O2[i]?,O2[j]? with
     |some (.nest e1 t1 up xa none _),some (.nest e2 t2 _ xb none _)=>
      match X.N e1 t1 with
      |some ni=>if h:t2=t1 then (if e1=e∧e2=e then Option.bind (appI xa (h▸xb:List (List (D t1)))) fun r=>K (.c (.own O2.length)) ((O2.set i .dead).set j .dead++[.nest e1 t1 up r none false]) else none) else none
      |none=>none
     |_,_=>none
    |none=>none
   |none=>none
  |_=>none
 |_,_=>none
def qq1 (t:TypeId) (a:SV D) (O:List (Ob D)) (K:SV D→List (Ob D)→Option ρ):Option ρ:=
 match a,P.underlying t with
 | .c (.str s),some .string=>K (.c (.int .i64 (s.length:Int))) O
 | .c .nilS,some (.slice _)=>K (.c (.int .i64 (([]:List Int).length:Int))) O
 |a,some (.slice _)=>
  match qeg O a with
  |some ⟨_,xs⟩=>K (.c (.int .i64 (xs.length:Int))) O
  |none=>
   match a with
   | .c (.own i)=>(match O[i]? with|some (.nest _ _ _ xss _ _)=>K (.c (.int .i64 (xss.length:Int))) O|_=>none)
   | .cut i e lo hi=>(match O[i]? with|some (.sl e' xs false _)=>if e'=e then K (.c (.int .i64 (((xs.take hi).drop lo).length:Int))) O else none|_=>none)
   |_=>none
 |_,_=>none
def qsG:CV D→Bool
 | .own _=>false
 | .fn _ is=>is.isEmpty
 |_=>true
def qiI (O:List (Ob D)):SV D→Option ((Nat×List (CV D))×List (Ob D))
 | .rp t cs off=>if off=0 then some ((t,cs),O) else none
 | .box i off=>
  match O[i]? with
  |some (.box t cs _ w)=>if off=0∧cs.all qsG=true then some ((t,cs),O.set i (.box t cs true w)) else none
  |_=>none
 |_=>none
def qhG:List (SV D)→List (Ob D)→Option (List (Nat×List (CV D))×List (Ob D))
 |[],O=>some ([],O)
 |s::l,O=>
  match qiI O s with
  |some (c,O)=>(match qhG l O with|some (r,O)=>some (c::r,O)|none=>none)
  |none=>none
def capI (O:List (Ob D)):SV D→Option Nat
 | .box i off=>
  match O[i]? with
  |some (.box _ _ false _)=>if off=0 then some i else none
  |_=>none
 |_=>none
def qlz (O:List (Ob D)):List (SV D)→Option (List Nat)
 |[]=>some []
 |s::l=>match capI O s,qlz O l with|some i,some is=>some (i::is)|_,_=>none
def qoF:List (SV D)→Option Nat
 |[_, .fn g []]=>some g
 |_=>none
def sgB:Option Nat→Nat→Bool
 |some g,n=>Nat.beq g n
 |none,_=>false
def qiR:List (SI P X.G)→Nat→List (Nat×List (CV D))→List (SV D)→Option (SI P X.G)
 |[],_,_,_=>none
 |s::l,f,caps,svs=>if (Nat.beq s.f f&&(caps.isEmpty&&sgB (qoF svs) s.g))=true then some s else qiR l f caps svs
def qmK (si:SI P X.G) (svs:List (SV D)) (O:List (Ob D)) (K:SV D→List (Ob D)→Option ρ):Option ρ:=
 match svs with
 | .c .nilS::_=>K (.tup []) O
 | .c (.own i)::_=>
  match O[i]? with
  |some (.sl e xs false _)=>if h:e=si.e then Option.bind (si.srt (h▸xs:List (D si.e))) fun ys=>K (.tup []) (O.set i (.sl si.e ys false true)) else none
  |_=>none
 |_=>none
def qcS (c:Call) (E:List (Nat×SV D)) (O:List (Ob D)) (K:SV D→List (Ob D)→Option ρ):Option ρ:=
 match c.callee with
 | .builtin .len=>match c.args.toList,c.argTypes.toList with|[x],[t]=>qq1 (P:=P) t (sop E x) O K|_,_=>none
 | .builtin .append=>match c.args.toList,c.argTypes.toList with|[x,y],[t,u]=>if ql0 (P.underlying u)=true then qi2 X t (sop E x) (sop E y) O K else if Nat.beq (X.U y (some x) (some x)) 6=true then qmx X t u (sop E x) (sop E y) O K else (match sop E x with| .c (.own i)=>if ql1 O[i]? =true then qmv X t u i (sop E y) O K else qn8 X t u (sop E x) (sop E y) O K|_=>qn8 X t u (sop E x) (sop E y) O K)|_,_=>none
 | .builtin .cap=>match c.args.toList,c.argTypes.toList with|[x],[t]=>(match sop E x,P.underlying t with| .c .nilS,some (.slice _)=>K (.c (.int .i64 0)) O|_,_=>none)|_,_=>none
 | .builtin .max=>match c.args.toList with|[x,y]=>(match sop E x,sop E y with| .c (.int k a), .c (.int k' b)=>if k=k' then K (.c (.int k (max a b))) O else none|_,_=>none)|_=>none
 | .builtin .min=>match c.args.toList with|[x,y]=>(match sop E x,sop E y with| .c (.int k a), .c (.int k' b)=>if k=k' then K (.c (.int k (min a b))) O else none|_,_=>none)|_=>none
 | .value f=>
  match sop E f with
  | .fn f caps=>
   match qiR X X.S f caps (c.args.toList.map (sop E)) with
   |some si=>qmK X si (c.args.toList.map (sop E)) O K
   |none=>X.C f (c.args.toList.map (sop E)++caps.map fun p=> .rp p.1 p.2 0) O K
  | .c (.fn f is)=>X.C f (c.args.toList.map (sop E)++is.map fun i=> .box i 0) O K
  |_=>none
 |_=>none
def qi4 (e:Nat) (x y:Operand) (n:Int) (O:List (Ob D)) (K:SV D→List (Ob D)→Option ρ):Option ρ:=
 match P.underlying e with
 |some (.slice t1)=>
  match X.N e t1,qnh x y with
  |some ni,true=>Option.bind (mkI ([]:List (D t1)) n) fun r=>K (.c (.own O.length)) (O++[.nest e t1 (some ni.up) r none false])
  |_,_=>none
 |_=>none
def op1 (o:Op) (E:List (Nat×SV D)) (O:List (Ob D)) (K:SV D→List (Ob D)→Option ρ):Option ρ:=
 match o with
 | .move x=>K (sop E x) O
 | .assign x=>K (sop E x) O
 | .nilCheck x=>(match sop E x with| .box .. | .arr .. | .el .. | .rp .. =>K (sop E x) O|_=>none)
 | .extract x i=>(match sop E x with| .tup l=>(match l[i]? with|some (.inl c)=>K (.c c) O|some (.inr p)=>K (.agg p.1 p.2) O|none=>none)|_=>none)
 | .pick c a b=>(match sop E c with| .c (.bool true)=>K (sop E a) O| .c (.bool false)=>K (sop E b) O|_=>none)
 | .binOp op t x y u=>(match sop E x,sop E y with| .agg t1 c1, .agg t2 c2=>eqA X op t t1 c1 t2 c2 fun c=>K (.c c) O|a,b=>binX (P:=P) op t y O a b fun c=>K (.c c) O)
 | .unOp .not t x=>(match sop E x with| .c (.bool b)=>K (.c (.bool (!b))) O|_=>none)
 | .unOp .neg t x=>(match sop E x with| .c (.int k a)=>K (.c (.int k (k.wrap (0 - a)))) O|_=>none)
 | .convert s t x=>qmA X s t (sop E x) O K
 | .indexAddr t x y=>qq0 X t (sop E x) (sop E y) O K
 | .fieldAddr t x n=>qqY (P:=P) t n (sop E x) O K
 | .load t x=>if Nat.beq (X.U x none none) 4=true then qmH X t (sop E x) O K else qkk X t (sop E x) O K
 | .store t x y=>qi5 X t (sop E x) (sop E y) O K
 | .alloc t=>
  (match X.A t with
  |some ai=>K (.arr O.length) (O++[.arr ai.e t ai.n (List.replicate ai.n ai.ti.x0) false])
  |none=>match X.I t with|some ti=>K (.box O.length 0) (O++[.box t ti.zc false false])|none=>none)
 | .box t x=>
  (match P.info? t,qfv (sop E x) with
  |some i,some cs=>if cs.length=i.size then K (.box O.length 0) (O++[.box t cs false false]) else none
  |_,_=>none)
 | .makeSlice t x y=>
  (match P.underlying t,sop E x with
  |some (.slice e), .c (.int _ n)=>
   if Nat.beq (X.U x (some x) (some x)) 3=true then qi4 X e x y n O K else
   match X.I e,qnh x y with
   |some ti,true=>Option.bind (mkI ti.x0 n) fun r=>K (.c (.own O.length)) (O++[.sl e r false false])
   |_,_=>none
  |_,_=>none)
 | .buildSlice t l ps=>
  if Nat.beq (X.U (.const (.int .i64 (t:Int))) none none) 3=true then qq2 X t l ps.toList E O K else
  (match P.underlying t with
  |some (.slice e)=>
   match X.I e with
   |some ti=>qml X ti E 0 ps.toList O fun as O=>if as.length=l∧Nat.ble (l*(X.G.T e).sz) 16777216=true then K (.c (.own O.length)) (O++[.sl e as false false]) else none
   |none=>none
  |_=>none)
 | .build t ps=>
  (match P.underlying t,X.I t with
  |some (.struct fs),some ti=>if (qcp P fs).all Option.isSome=true then (match qiO (qcp P fs) E ps.toList ti.zc with|some cs=>K (.agg t cs) O|none=>none) else none
  |some (.array n e),some ti=>(match P.info? e with|some k=>(match qiO ((List.range n).map fun j=>some (j*k.size,k.size)) E ps.toList ti.zc with|some cs=>K (.agg t cs) O|none=>none)|none=>none)
  |_,_=>none)
 | .slice t x lo hi none=>qmC X t x (sop E x) E lo hi O K
 | .slice t x none (some y) (some mx)=>qmE X t (sop E x) (sop E y) (sop E mx) O K
 | .index t x y=>(match P.underlying t,sop E x,sop E y with|some .string, .c (.str s), .c (.int _ n)=>Option.bind (getI s n) fun c=>K (.c (.int .u8 (UInt8.toNat c:Int))) O|_,_,_=>none)
 | .makeFunc (.func f) first cap=>
  if Nat.beq (X.U (.func f) none none) 5=true then (match first.toList,qlz O (cap.toList.map (sop E)) with|[],some is=>K (.c (.fn f is)) O|_,_=>none) else
  (match first.toList,qhG (cap.toList.map (sop E)) O with|[],some (caps,O)=>K (.fn f caps) O|_,_=>none)
 | .makeMap t none=>(match P.underlying t with|some (.map kt vt)=>K (.c (.own O.length)) (O++[.map t kt vt [] false false])|_=>none)
 | .lookup t x y ok=>
  (match qqQ O (sop E x),sop E y with
  |some ⟨u,kt,vt,es⟩,c=>
   match P.underlying t,P.underlying u with
   |some (.map k v),some (.map k' v')=>
    if k=kt∧v=vt∧k'=kt∧v'=vt then
     match X.J kt vt with
     |some mi=>
      match mi.kget c with
      |some a=>AM.lt (@qae _ _ mi.dec es a) fun y=>if ok=true then K (.tup [.inl (mi.vput (y.getD mi.z0)), .inl (.bool y.isSome)]) O else K (.c (mi.vput (y.getD mi.z0))) O
      |none=>none
     |none=>none
    else none
   |_,_=>none
  |_,_=>none)
 | .mapUpdate t x y w| .insert t x y w=>
  (match sop E x,sop E y,sop E w with
  | .c (.own i),c, .c d=>
   match O[i]? with
   |some (.map u kt vt es false _)=>
    match P.underlying t,P.underlying u with
    |some (.map k v),some (.map k' v')=>
     if k=kt∧v=vt∧k'=kt∧v'=vt then
      match X.J kt vt with
      |some mi=>
       match mi.kget c,mi.vget d with
       |some a,some b=>AM.lt (@qao _ _ mi.dec es a b) fun es'=>K .undef (O.set i (.map u kt vt es' false true))
       |_,_=>none
      |none=>none
     else none
    |_,_=>none
   |_=>none
  |_,_,_=>none)
 | .call c=>qcS X c E O K
 |_=>none
def qpR:Op→Option Nat
 | .pick (.tmp d) _ _=>some d
 |_=>none
def qed (E:List (Nat×SV D)) (d:Nat) (K:List (Nat×SV D)→Option ρ):Option ρ:=
 match lkE E d with
 | .c (.bool b)=>if b=true then K ((d, .c (.bool true))::E) else K ((d, .c (.bool false))::E)
 | .undef=>K E
 |_=>none
def opP (o:Oper) (E:List (Nat×SV D)) (O:List (Ob D)) (K:List (Nat×SV D)→List (Ob D)→Option ρ):Option ρ:=
 match qpR o.op with
 |some d=>qed E d fun E=>op1 X o.op E O fun v O=>K (putE E o.dst v) O
 |none=>op1 X o.op E O fun v O=>K (putE E o.dst v) O
def runL (ops:List Oper):List Oper→List (Nat×SV D)→List (Ob D)→(List (Nat×SV D)→List (Ob D)→Option ρ)→Option ρ
 |[],E,O,K=>K E O
 |o::os,E,O,K=>
  match o.guard with
  |none=>opP X o E O fun E O=>runL ops os E O K
  |some (j,want)=>
   match (ops[j]?).bind (·.dst) with
   |none=>none
   |some d=>
    qed E d fun E=>
     match lkE E d with
     | .c (.bool b)=>if b=want then opP X o E O fun E O=>runL ops os E O K else runL ops os (putE E o.dst .undef) O K
     | .undef=>runL ops os (putE E o.dst .undef) O K
     |_=>none
inductive RdS where
 |nr|fz|lost
 |ob (j:Nat)
def qgX (E:List (Nat×SV D)):Op→Option RdS
 | .load _ x=>(match sop E x with| .rp _ (_::_) _=>some .fz| .box j _=>some (.ob j)| .el j _ _ _=>some (.ob j)|_=>none)
 | .lookup _ x _ _=>(match sop E x with| .c (.mp _ _ _ _)=>some .fz| .c (.own j)=>some (.ob j)|_=>none)
 | .convert _ _ x=>(match sop E x with| .c (.sl _ _)=>some .fz| .c (.own j)=>some (.ob j)| .c (.int _ _)=>some .nr| .c (.str _)=>some .nr|_=>none)
 | .slice _ x _ _ _=>(match sop E x with| .c (.str _)=>some .nr| .c (.sl _ _)=>some .fz| .c (.own j)=>some (.ob j)|_=>none)
 |_=>some .nr
def qbr:List (SV D)→List Nat
 |[]=>[]
 | .box i _::l=>i::qbr l
 |_::l=>qbr l
def qfE:List (SV D)→List Nat
 |[]=>[]
 | .c (.own i)::l=>i::qfE l
 |_::l=>qfE l
def qin (E:List (Nat×SV D)):Op→Option (List Nat)
 | .store _ x _=>(match sop E x with| .box j _=>some [j]| .el j _ _ _=>some [j]|_=>none)
 | .mapUpdate _ x _ _=>(match sop E x with| .c (.own j)=>some [j]|_=>none)
 | .insert _ x _ _=>(match sop E x with| .c (.own j)=>some [j]|_=>none)
 | .call c=>
  match c.callee with
  | .builtin .append=>(match c.args.toList with|x::_=>(match sop E x with| .c .nilS=>some []| .c (.own j)=>some [j]| .cut j _ _ _=>some [j]| .full _ _=>some []|_=>none)|[]=>none)
  | .value f=>(match sop E f with| .fn f' caps=>(match qiR X X.S f' caps (c.args.toList.map (sop E)) with|some _=>some (qfE (c.args.toList.map (sop E)))|none=>if X.W f'=true then none else some (qbr (c.args.toList.map (sop E))))|_=>none)
  |_=>none
 |_=>none
structure Lg where
 rd:List (Nat×RdS)
 ef:List (Nat×(Bool×List Nat))
 nw:List (Nat×Nat)
 fl:List (Nat×Bool)
 yn:List Nat
def isFz:SV D→Bool
 | .c (.sl _ _)=>true
 | .rp _ (_::_) _=>true
 |_=>false
def oldS (E:List (Nat×SV D)) (L:Lg):Operand→Bool
 | .tmp d=> !(L.yn.any (Nat.beq d))&&isFz (lkE E d)
 |_=>false
def drvS (E:List (Nat×SV D)) (L:Lg):Op→Bool
 | .move x=>oldS E L x
 | .assign x=>oldS E L x
 | .nilCheck x=>oldS E L x
 | .fieldAddr _ x _=>oldS E L x
 | .indexAddr _ x _=>oldS E L x
 |_=>false
def ldS (E:List (Nat×SV D)) (L:Lg):Op→Bool
 | .load _ x=>oldS E L x
 | .slice _ x _ _ none=>oldS E L x
 |_=>false
def ynLg (E:List (Nat×SV D)) (o:Oper) (L:Lg):Lg:=
 match o.dst with
 |none=>L
 |some d=>if drvS E L o.op=true then {L with yn:=L.yn.filter fun e=> !(Nat.beq d e)} else {L with yn:=d::L.yn}
def qdi (O:List (Ob D)) (j:Nat):Bool:=match O[j]? with|some o=>o.live|none=>false
def qj3 (O:List (Ob D)) (j:Nat):Bool:=match O[j]? with|some .dead=>false|some (.box _ [] true _)=>false|some _=>true|none=>false
def qd1 (O:List (Ob D)) (ts:List Nat) (j:Nat):Bool:=qj3 O j&& !(ts.any (Nat.beq j))
def qck (O:List (Ob D)):Nat→List (Ob D)→List Nat
 |_,[]=>[]
 |i,o::l=>if o.live=true then i::qck O (i+1) l else qck O (i+1) l
def qk5 (B:Array Nat) (i:Nat) (O:List (Ob D)) (L:Lg):RdS→Bool
 | .nr=>true
 | .fz=>L.ef.all fun y=>anc B i y.1||y.2.1
 | .ob j=>qj3 O j&&L.ef.all fun y=>anc B i y.1||(y.2.1||y.2.2.any (Nat.beq j))
 | .lost=>false
def srcB (O:List (Ob D)) (ts:List Nat):RdS→Bool
 | .ob j=>qd1 O ts j
 | .lost=>false
 |_=>true
def qqq (B:Array Nat) (i:Nat) (O:List (Ob D)) (L:Lg) (ts:List Nat):Bool:=
 ts.all (qdi O)&&((L.rd.all fun y=>anc B i y.1||srcB O ts y.2)&&L.nw.all fun y=>anc B i y.1||qd1 O ts y.2)
def qbw (E:List (Nat×SV D)) (O:List (Ob D)):Op→Bool
 | .call c=>
  match c.callee with
  | .value f=>(match sop E f with| .fn f caps=>(match qiR X X.S f caps (c.args.toList.map (sop E)) with|some _=>false|none=>X.F f (c.args.toList.map (sop E)++caps.map fun p=> .rp p.1 p.2 0) O)|_=>false)
  |_=>false
 |_=>false
def efLg (i:Nat) (O:List (Ob D)) (ts:List Nat) (qt:Bool) (L:Lg):Lg:=
 {rd:=L.rd.map fun y=>if srcB O ts y.2=true then y else (y.1, .lost)
  ef:=((i,true,qck O 0 O)::L.ef).map fun y=>(y.1,y.2.1&&qt,y.2.2.filter (qd1 O ts))
  nw:=L.nw
  fl:=(i,ts.isEmpty)::L.fl.map fun y=>(y.1,y.2&&ts.isEmpty)
  yn:=L.yn}
def qqV:SV D→Option (Option Nat)
 | .c (.own j)=>some (some j)
 | .box j _=>some (some j)
 | .arr j=>some (some j)
 | .c (.int _ _)=>some none
 | .c (.str _)=>some none
 |_=>none
def nwOf (o:Op) (v:SV D):Option (Option Nat):=if qdm o=true then qqV v else some none
def rdLg (i:Nat) (s:RdS) (n:Option Nat) (L:Lg):Lg:=
 {rd:=match s with| .nr=>L.rd|s=>(i,s)::L.rd
  ef:=match n with|some _=>L.ef.map fun y=>(y.1,false,y.2.2)|none=>L.ef
  nw:=match n with|some j=>(i,j)::L.nw|none=>L.nw
  fl:=L.fl
  yn:=L.yn}
def fzB:RdS→Bool
 | .fz=>true
 |_=>false
def qkh (B:Array Nat) (i:Nat) (E:List (Nat×SV D)) (L:Lg) (s:RdS) (o:Op):Bool:=fzB s&&ldS E L o
def qls (B:Array Nat) (i:Nat) (L:Lg):Bool:=(L.rd.all fun y=>anc B i y.1)&&L.nw.all fun y=>anc B i y.1
def qqr (i:Nat) (L:Lg):Lg:=
 {rd:=L.rd.map fun y=>(y.1, .lost)
  ef:=(i,false,[])::L.ef.map fun y=>(y.1,false,[])
  nw:=L.nw
  fl:=L.fl
  yn:=L.yn}
def opD1 (B:Array Nat) (i:Nat) (o:Oper) (L:Lg) (E:List (Nat×SV D)) (O:List (Ob D)) (K:Lg→List (Nat×SV D)→List (Ob D)→Option ρ):Option ρ:=
 if qbl o.op=true then
  match qin X E o.op with
  |some ts=>if qqq B i O L ts=true then op1 X o.op E O fun v O'=>K (ynLg E o (efLg i O ts (qbw X E O o.op) L)) (putE E o.dst v) O' else none
  |none=>if qls B i L=true then op1 X o.op E O fun v O'=>K (ynLg E o (qqr i L)) (putE E o.dst v) O' else none
 else
  match qgX E o.op with
  |some s=>
   if (qk5 B i O L s||qkh B i E L s o.op)=true then
    op1 X o.op E O fun v O'=>
     match nwOf o.op v with
     |some n=>K (ynLg E o (rdLg i s n L)) (putE E o.dst v) O'
     |none=>none
   else none
  |none=>none
def opD (B:Array Nat) (i:Nat) (o:Oper) (L:Lg) (E:List (Nat×SV D)) (O:List (Ob D)) (K:Lg→List (Nat×SV D)→List (Ob D)→Option ρ):Option ρ:=
 match qpR o.op with
 |some d=>qed E d fun E=>opD1 X B i o L E O K
 |none=>opD1 X B i o L E O K
def runD (B:Array Nat) (ops:List Oper):Nat→List Oper→Lg→List (Nat×SV D)→List (Ob D)→(List (Nat×SV D)→List (Ob D)→Option ρ)→Option ρ
 |_,[],_,E,O,K=>K E O
 |i,o::os,L,E,O,K=>
  match o.guard with
  |none=>opD X B i o L E O fun L E O=>runD B ops (i+1) os L E O K
  |some (j,want)=>
   match (ops[j]?).bind (·.dst) with
   |none=>none
   |some d=>
    qed E d fun E=>
     match lkE E d with
     | .c (.bool b)=>if b=want then opD X B i o L E O fun L E O=>runD B ops (i+1) os L E O K else runD B ops (i+1) os L (putE E o.dst .undef) O K
     | .undef=>runD B ops (i+1) os L (putE E o.dst .undef) O K
     |_=>none
structure Pc (D:Nat→Type) where
 path:List Nat
 fits:List (Nat×SV D)→List (Ob D)→Bool
 run:List (Nat×SV D)→List (Ob D)→{ρ:Type}→(AExit→List (Nat×SV D)→List (Ob D)→Option ρ)→Option ρ
def eqP:List Nat→List Nat→Bool
 |[],[]=>true
 |a::p,b::q=>Nat.beq a b&&eqP p q
 |_,_=>false
def qff (us:List (Pc D)) (p:List Nat) (E:List (Nat×SV D)) (O:List (Ob D)):Option (Pc D):=
 match us with
 |[]=>none
 |u::us=>if (eqP u.path p&&u.fits E O)=true then some u else qff us p E O
def qqE:Option (Ob D)→Bool
 |some (.nest _ _ _ _ (some _) _)=>true
 |_=>false
def qwO (O:List (Ob D)) (n:Nat):Bool:=
 match O[n]? with
 |some (.nest _ _ _ _ (some p) _)=>(match O[p.2]? with|some o=> !o.live|none=>false)
 |_=>false
def qnK:Nat→List (Ob D)→Option (List (Ob D))
 |0,O=>some O
 |n+1,O=>match qnK n O with|some O1=>if qqE O1[n]? =true then (if qwO O1 n=true then some O1 else qiP O1 n) else some O1|none=>none
def qhR (K:List (Nat×SV D)→List (Ob D)→Option ρ) (E:List (Nat×SV D)) (O:List (Ob D)):Option ρ:=match qnK O.length O with|some O'=>K E O'|none=>none
def exC (us:List (Pc D)) (calm:Array Oper→Bool):Bool→List Nat→Code→List (Nat×SV D)→List (Ob D)→(AExit→List (Nat×SV D)→List (Ob D)→Option ρ)→Option ρ
 |top,p, .seq a b,E,O,K=>
  match (if top=true then none else qff us p.reverse E O) with
  |some u=>u.run E O K
  |none=>exC us calm false (0::p) a E O fun e E O=>if e= .normal then exC us calm false (1::p) b E O K else K e E O
 |top,p, .cond c a b,E,O,K=>
  match (if top=true then none else qff us p.reverse E O) with
  |some u=>u.run E O K
  |none=>
   match sop E c with
   | .c (.bool t)=>if t=true then exC us calm false (0::p) a E O K else exC us calm false (1::p) b E O K
   |_=>none
 |top,p, .block id c,E,O,K=>
  match (if top=true then none else qff us p.reverse E O) with
  |some u=>u.run E O K
  |none=>exC us calm false (0::p) c E O fun e E O=>K (if e= .exit id then .normal else e) E O
 |top,p, .scope c,E,O,K=>
  match (if top=true then none else qff us p.reverse E O) with
  |some u=>u.run E O K
  |none=>exC us calm false (0::p) c E O K
 |top,p, .region _ ops d,E,O,K=>
  match (if top=true then none else qff us p.reverse E O) with
  |some u=>u.run E O K
  |none=>if d=true then (if calm ops=true then runL X ops.toList ops.toList E O (qhR (K .normal)) else runD X (Region.before ops) ops.toList 0 ops.toList ⟨[],[],[],[],[]⟩ E O (qhR (K .normal))) else runL X ops.toList ops.toList E O (qhR (K .normal))
 |top,p, .loop c,E,O,K=>
  match (if top=true then none else qff us p.reverse E O) with
  |some u=>u.run E O K
  |none=>none
 |_,_, .skip,E,O,K=>K .normal E O
 |_,_, .label _,E,O,K=>K .normal E O
 |_,_, .exit id,E,O,K=>K (.exit id) E O
 |_,_, .ret,E,O,K=>K .ret E O
 |_,_,_,_,_,_=>none
end
end
end Go.AM
end
section
set_option linter.unusedSimpArgs false
set_option linter.unusedVariables false
namespace Go.AM
section
variable {P:Program} {D:Nat→Type} {X:Ev P D} {ρ:Type} {z z':Nat→Blk} {e m m':Mem} {k:Option Nat} {vs:List Value} {fr:Nat→Value} {E:List (Nat×SV D)} {O:List (Ob D)} {o:Oper} {r:ρ}
def Nxt (X:Ev P D) (O:List (Ob D)) (z:Nat→Blk) (e:Mem) (k:Option Nat) (vs:List Value) (K:SV D→List (Ob D)→Option ρ) (r:ρ) (v:Value) (m':Mem):Prop:=
 ∃z' vs' sv O',Inv O O'∧Zx e.next z z'∧(∀(i:Nat) (u:Value),vs[i]? =some u→vs'[i]? =some u)∧Mm X.G O' z' e m' k vs'∧rel X.G z' vs' sv v∧K sv O'=some r
theorem Nxt.here {K:SV D→List (Ob D)→Option ρ} {sv:SV D} {v:Value} (hM:Mm X.G O z e m k vs) (hv:rel X.G z vs sv v) (hK:K sv O=some r):Nxt X O z e k vs K r v m:=⟨z,vs,sv,O,Inv.refl O,Zx.refl z,fun _ _ h=>h,hM,hv,hK⟩
theorem Nxt.from {K:SV D→List (Ob D)→Option ρ} {v:Value} {z1:Nat→Blk} {O1:List (Ob D)} (hi:Inv O O1) (hz:Zx e.next z z1) (h:Nxt X O1 z1 e k vs K r v m'):Nxt X O z e k vs K r v m':=by
 obtain ⟨z',vs',sv,O',h0,h1,h2,h3,h4,h5⟩:=h
 exact ⟨z',vs',sv,O',hi.trans h0,hz.trans h1,h2,h3,h4,h5⟩
theorem qgu (hE:∀d,rel X.G z vs (lkE E d) (fr d)) (x:Operand):rel X.G z vs (sop E x) (ev fr x):=by
 cases x with
 |tmp t=>exact hE t
 |func f=>exact ⟨[],rfl,trivial⟩
 |global g=>trivial
 |const v=>
  show rel X.G z vs (ofV v) v
  unfold ofV
  split<;>first|trivial|rfl
theorem qlQ {i:Nat} {c:CV D} {O':List (Ob D)} {v:Value} (hM:Mm X.G O z e m k vs) (h:frzO O i=some (c,O')) (hv:vs[i]? =some v):∃z',Inv O O'∧Zx e.next z z'∧Mm X.G O' z' e m k vs∧rel0 X.G z' vs c v:=by
 unfold frzO at h
 split at h
 ·rename_i t xs fz w ho
  cases h
  have hob:=hM.obj i _ v ho hv
  cases fz with
  |true=>
   have:O.set i (.sl t xs true w)=O:=by
    apply List.ext_getElem?
    intro j
    rw[List.getElem?_set]
    split
    ·rename_i hij;subst hij;rw[ho,if_pos (List.getElem?_eq_some_iff.1 ho).1]
    ·rfl
   rw[this]
   exact ⟨z,Inv.refl O,Zx.refl z,hM,hob⟩
  |false=>
   have hob:OwF (X.G.T t) z e m k xs v:=hob
   obtain ⟨z',h1,h2,h3,h4⟩:=hob.freeze hM.st
   have hb:blkV v=qag v:=qam (by obtain ⟨a,c,rfl⟩:=hob.ow.len;intro r;simp)
   exact ⟨z',Inv.set O i (.inl rfl),h1,hM.frz ho hv rfl rfl h1.le h2 (by rw[hb];exact h4) h3,h3⟩
 ·rename_i t kt vt es fz w ho
  cases h
  have hob:=hM.obj i _ v ho hv
  cases fz with
  |true=>
   have:O.set i (.map t kt vt es true w)=O:=by
    apply List.ext_getElem?
    intro j
    rw[List.getElem?_set]
    split
    ·rename_i hij;subst hij;rw[ho,if_pos (List.getElem?_eq_some_iff.1 ho).1]
    ·rfl
   rw[this]
   exact ⟨z,Inv.refl O,Zx.refl z,hM,hob⟩
  |false=>
   have hob:OwM (X.G.M t kt vt) z e m k es v:=hob
   obtain ⟨z',h1,h2,h3,h4⟩:=hob.freeze hM.st
   have hb:blkV v=qgy v:=by obtain ⟨r,rfl,_⟩:=hob.ow;rfl
   exact ⟨z',Inv.set O i (.inl rfl),h1,hM.frz ho hv rfl rfl h1.le h2 (by rw[hb];exact h4) h3,h3⟩
 ·rename_i e0 t up xss w ho
  cases h
  obtain ⟨hu,ws,hob⟩:=hM.obj i _ v ho hv
  obtain ⟨h1,h2,h3⟩:=hu up rfl
  obtain ⟨z',g1,g2,g3,g4⟩:=qi0 hob h1 h2 h3 hM.st
  have hvm:∀r,v≠ .map r:=by obtain ⟨a,c,rfl⟩:=hob.ow.ow.len;intro r;simp
  exact ⟨z',Inv.set O i (.inl rfl),g1,hM.zchg (p:=none) ho hv rfl hvm g1.le ⟨Nat.le_refl _,hM.st.dead,fun _ _ _=>rfl⟩ g2 (fun _ _ _ _ _ _ _=>Ap.none') (fun b hb=>by cases hb) (fun b hb _ hl=>g4 b hb hl) g3,g3⟩
 ·cases h
theorem qdP {c c':CV D} {O':List (Ob D)} {v:Value} (hM:Mm X.G O z e m k vs) (h:frzC O c=some (c',O')) (hv:rel0 X.G z vs c v):∃z',Inv O O'∧Zx e.next z z'∧Mm X.G O' z' e m k vs∧rel0 X.G z' vs c' v:=by
 cases c with
 |own i=>exact qlQ hM h hv.1
 |_=>cases h;exact ⟨z,Inv.refl O,Zx.refl z,hM,hv⟩
theorem qiV:∀{cs cs':List (CV D)} {O O':List (Ob D)} {ds:List Value} {z:Nat→Blk},Mm X.G O z e m k vs→frzL O cs=some (cs',O')→L2 (rel0 X.G z vs) cs ds→∃z',Inv O O'∧Zx e.next z z'∧Mm X.G O' z' e m k vs∧L2 (rel0 X.G z' vs) cs' ds
 |[],cs',O,O',[],z,hM,h,_=>by cases h;exact ⟨z,Inv.refl _,Zx.refl z,hM,trivial⟩
 |c::cs,cs',O,O',d::ds,z,hM,h,⟨h1,h2⟩=>by
  unfold frzL at h
  split at h
  ·rename_i c' O1 hc
   split at h
   ·rename_i cs1 O2 hcs
    cases h
    obtain ⟨z1,g0,g1,g2,g3⟩:=qdP hM hc h1
    obtain ⟨z2,k0,k1,k2,k3⟩:=qiV g2 hcs (rels.mono h2 g1.le fun _ _ h=>h)
    exact ⟨z2,g0.trans k0,g1.trans k1,k2,rel0.mono g3 k1.le fun _ _ h=>h,k3⟩
   ·cases h
  ·cases h
 |[],_,_,_,_::_,_,_,_,h=>h.elim
 |_::_,_,_,_,[],_,_,_,h=>h.elim
theorem qc6 {s:SV D} {cs:List (CV D)} {v:Value} (h:qfv s=some cs) (hv:rel X.G z vs s v):storable v=true∧L2 (rel0 X.G z vs) cs v.cells.toList:=by
 cases s with
 |c c=>
  cases h
  have:=rel0.stor hv
  rw[this.2]
  exact ⟨this.1,hv,trivial⟩
 |agg t cs'=>
  cases h
  obtain ⟨ds,rfl,h2⟩:=hv
  exact ⟨rfl,h2⟩
 |fn f caps=>
  cases caps with
  |nil=>
   cases h
   obtain ⟨gs,rfl,h2⟩:=hv
   cases gs with
   |nil=>exact ⟨rfl,⟨[],rfl,trivial⟩,trivial⟩
   |cons _ _=>exact h2.elim
  |cons _ _=>cases h
 |_=>cases h
theorem qlR {s:SV D} {cs:List (CV D)} {O':List (Ob D)} {v:Value} (hM:Mm X.G O z e m k vs) (h:frzS O s=some (cs,O')) (hv:rel X.G z vs s v):∃z',Inv O O'∧Zx e.next z z'∧Mm X.G O' z' e m k vs∧storable v=true∧L2 (rel0 X.G z' vs) cs v.cells.toList:=by
 unfold frzS at h
 split at h
 ·rename_i cs0 hc
  obtain ⟨h1,h2⟩:=qc6 hc hv
  obtain ⟨z',g0,g1,g2,g3⟩:=qiV hM h h2
  exact ⟨z',g0,g1,g2,h1,g3⟩
 ·cases h
variable {x y:Operand} {t u:TypeId}
theorem qqd {op:BinOp} {kk:IntKind} {a b:Int} {K:CV D→Option ρ} (ho:o.op= .binOp op t x y u) (hx:ev fr x= .int kk a) (hy:ev fr y= .int kk b) (h:binI op y kk a b K=some r):∃c v,K c=some r∧PureR P (ev fr) o v∧rel0 X.G z vs c v:=by
 have lit:qnV y=true→b≠0:=fun hl hb=>by
  unfold qnV at hl
  split at hl
  ·rename_i kk' n
   have:Value.int kk' n= .int kk b:=hy
   cases this
   simp[hb] at hl
  ·cases hl
 cases op with
 |add=>exact ⟨_,_,h,pAdd ho hx hy,rfl⟩
 |sub=>exact ⟨_,_,h,pSub ho hx hy,rfl⟩
 |mul=>exact ⟨_,_,h,pMul ho hx hy,rfl⟩
 |and=>exact ⟨_,_,h,pAnd ho hx hy,rfl⟩
 |or=>exact ⟨_,_,h,pOr ho hx hy,rfl⟩
 |xor=>exact ⟨_,_,h,pXor ho hx hy,rfl⟩
 |andNot=>exact ⟨_,_,h,qq4 ho hx hy,rfl⟩
 |eql=>exact ⟨_,_,h,pEql ho hx hy,rfl⟩
 |neq=>exact ⟨_,_,h,pNeq ho hx hy,rfl⟩
 |lss=>exact ⟨_,_,h,pLss ho hx hy,rfl⟩
 |leq=>exact ⟨_,_,h,pLeq ho hx hy,rfl⟩
 |gtr=>exact ⟨_,_,h,pGtr ho hx hy,rfl⟩
 |geq=>exact ⟨_,_,h,pGeq ho hx hy,rfl⟩
 |quo=>
  simp only[binI] at h
  split at h
  ·rename_i hl
   exact ⟨_,_,h,pQuo ho hx hy (lit hl),rfl⟩
  ·obtain ⟨c,hc,h⟩:=bind_some h
   obtain ⟨h1,rfl⟩:=qlF hc
   exact ⟨_,_,h,pQuo ho hx hy h1,rfl⟩
 |rem=>
  simp only[binI] at h
  split at h
  ·rename_i hl
   exact ⟨_,_,h,pRem ho hx hy (lit hl),rfl⟩
  ·obtain ⟨c,hc,h⟩:=bind_some h
   obtain ⟨h1,rfl⟩:=qmm hc
   exact ⟨_,_,h,pRem ho hx hy h1,rfl⟩
 |shl=>cases h
 |shr=>cases h
theorem qqe {op:BinOp} {s q:List UInt8} {K:CV D→Option ρ} (ho:o.op= .binOp op t x y u) (hx:ev fr x=str s) (hy:ev fr y=str q) (h:binS op s q K=some r):∃c v,K c=some r∧PureR P (ev fr) o v∧rel0 X.G z vs c v:=by
 cases op with
 |add=>
  obtain ⟨c,hc,h⟩:=bind_some h
  obtain ⟨h1,rfl⟩:=qa0 hc
  exact ⟨_,_,h,qwQ ho hx hy (by simp only[LIM] at h1;omega),rfl⟩
 |eql=>exact ⟨_,_,h,qwT ho hx hy,rfl⟩
 |neq=>exact ⟨_,_,h,qw5 ho hx hy,rfl⟩
 |lss=>exact ⟨_,_,h,qw0 ho hx hy,rfl⟩
 |leq=>exact ⟨_,_,h,qwZ ho hx hy,rfl⟩
 |gtr=>exact ⟨_,_,h,qwV ho hx hy,rfl⟩
 |geq=>exact ⟨_,_,h,qwU ho hx hy,rfl⟩
 |_=>cases h
theorem qqc {op:BinOp} {a b:Bool} {K:CV D→Option ρ} (ho:o.op= .binOp op t x y u) (ht:P.underlying t=some .bool) (hx:ev fr x= .bool a) (hy:ev fr y= .bool b) (h:binB op a b K=some r):∃c v,K c=some r∧PureR P (ev fr) o v∧rel0 X.G z vs c v:=by
 cases op with
 |eql=>exact ⟨_,_,h,qwS ho ht hx hy,rfl⟩
 |neq=>exact ⟨_,_,h,qw4 ho ht hx hy,rfl⟩
 |_=>cases h
theorem qgt {s:SV D} {v:Value} {p:(t:Nat)×List (D t)} (hM:Mm X.G O z e m k vs) (h:qeg O s=some p) (hv:rel X.G z vs s v):SlR (X.G.T p.1) z p.2 v∨∃(w:Value),OwF (X.G.T p.1) z e m k p.2 v:=by
 unfold qeg at h
 split at h
 ·cases h;exact .inl hv
 ·rename_i i
  split at h
  ·rename_i t xs fz w ho
   cases h
   have hob:=hM.obj i _ v ho hv.1
   cases fz with
   |true=>exact .inl hob
   |false=>exact .inr ⟨v,hob⟩
  ·cases h
 ·cases h
theorem qmd {s:SV D} {v:Value} {p:(t:Nat)×List (D t)} (hM:Mm X.G O z e m k vs) (h:qeg O s=some p) (hv:rel X.G z vs s v):∃a c,v= .slice a p.2.length c:=by
 rcases qgt hM h hv with h|⟨_,h⟩
 ·exact h.len
 ·exact h.ow.len
theorem qh1 {s:SV D} {v:Value} {p:(t:Nat)×List (D t)} (hM:Mm X.G O z e m k vs) (h:qeg O s=some p) (hv:rel X.G z vs s v):(v= .slice none 0 0∧p.2=[])∨∃a l c,v= .slice (some a) l c:=by
 rcases qgt hM h hv with h|⟨_,h⟩
 ·exact h.nilOr
 ·exact h.ow.nilOr
theorem qme {s:SV D} {v:Value} {p:(t:Nat)×List (D t)} (hM:Mm X.G O z e m k vs) (h:qeg O s=some p) (hv:rel X.G z vs s v):Src (X.G.T p.1) z m p.2 v:=by
 rcases qgt hM h hv with h|⟨_,h⟩
 ·exact h.src hM.st.fz
 ·exact h.ow.src
theorem CutV.slr {α:Type} {T:Ty α} {z':Nat→Blk} {xs:List α} {lo n:Nat} {w v:Value} (hc:CutV T.sz lo n w v) (h:SlR T z' xs w):SlR T z' ((xs.take n).drop lo) v:=by
 rcases hc with ⟨rfl,rfl,rfl,rfl⟩|⟨b,f0,l,c,off,c',rfl,rfl,h1,h2,h3,h4⟩
 ·exact .inl ⟨rfl,by simp⟩
 ·rcases h with ⟨h,_⟩|⟨b',off',c2,g1,g2,g3,g4⟩
  ·cases h
  ·cases g1
   have hl:((xs.take n).drop lo).length=n - lo:=by simp;omega
   refine .inr ⟨b,off,c',by rw[hl],g2, ?_,fun i x hi=> ?_⟩
   ·rw[hl]
    rcases g3 with ⟨k1,L,k2,k3⟩|⟨k1,k2⟩
    ·rcases h4 with ⟨_,h5⟩|⟨h5,_⟩
     ·refine .inl ⟨h5,L,k2, ?_⟩
      have e1:n*T.sz≤xs.length*T.sz:=Nat.mul_le_mul_right _ h2
      rcases h3 with h3|⟨h3,h3'⟩
      ·rw[h3,Nat.add_assoc,←Nat.add_mul,show lo+(n - lo)=n by omega];omega
      ·rw[h3',show n - lo=0 by omega];omega
     ·omega
    ·rcases h4 with ⟨h5,_⟩|⟨h5,h6⟩
     ·omega
     ·exact .inr ⟨by omega,by omega⟩
   ·obtain ⟨cs,k1,k2⟩:=g4 _ x (qgd hi)
    refine ⟨cs,k1, ?_⟩
    rcases h3 with h3|⟨h3,h3'⟩
    ·rw[h3,Nat.add_assoc,←Nat.add_mul];exact k2
    ·have:=(List.getElem?_eq_some_iff.1 hi).1
     omega
theorem CutV.owd {α:Type} {T:Ty α} {z':Nat→Blk} {m':Mem} {xs:List α} {lo n:Nat} {w v:Value} (hc:CutV T.sz lo n w v) (h:Ow T z' m' xs w):Ow T z' m' ((xs.take n).drop lo) v:=by
 rcases hc with ⟨rfl,rfl,_,rfl⟩|⟨b,f0,l,c,off,c',rfl,rfl,h1,h2,h3,h4⟩
 ·exact .inl ⟨rfl,by simp⟩
 ·rcases h with ⟨h,_⟩|⟨b',f1,L,c2,g1,g2,g3,g4,g5,g6,g7⟩
  ·cases h
  ·cases g1
   have hl:((xs.take n).drop lo).length=n - lo:=by simp;omega
   have e1:n*T.sz≤xs.length*T.sz:=Nat.mul_le_mul_right _ h2
   have e2:lo*T.sz+(n - lo)*T.sz=n*T.sz:=by rw[←Nat.add_mul,show lo+(n - lo)=n by omega]
   have e3:n≤lo→(n - lo)*T.sz=0:=fun h=>by rw[show n - lo=0 by omega,Nat.zero_mul]
   refine .inr ⟨b,off,L,c',by rw[hl],g2,g3,g4, ?_, ?_,fun i x hi=> ?_⟩
   ·rw[hl]
    rcases h3 with h3|⟨h3,h3'⟩
    ·omega
    ·have:=e3 h3;omega
   ·rw[hl]
    rcases h4 with ⟨_,h5⟩|⟨h5,h6⟩
    ·exact .inl h5
    ·rcases g6 with g6|⟨k1,k2,k3⟩
     ·omega
     ·subst h6
      have e4:lo*T.sz+(c - lo)*T.sz=c*T.sz:=by rw[←Nat.add_mul,show lo+(c - lo)=c by omega]
      refine .inr ⟨by omega,by omega, ?_⟩
      rcases h3 with h3|⟨h3,h3'⟩<;>omega
   ·obtain ⟨cs,k1,k2⟩:=g7 _ x (qgd hi)
    refine ⟨cs,k1, ?_⟩
    rcases h3 with h3|⟨h3,h3'⟩
    ·rw[h3,Nat.add_assoc,←Nat.add_mul];exact k2
    ·have:=(List.getElem?_eq_some_iff.1 hi).1
     omega
theorem CutV.ow {α:Type} {T:Ty α} {z':Nat→Blk} {m':Mem} {xs:List α} {n:Nat} {w v:Value} (hc:CutV T.sz 0 n w v) (h:Ow T z' m' xs w):Ow T z' m' (xs.take n) v:=by simpa using hc.owd h
theorem CutV.src {α:Type} {T:Ty α} {z':Nat→Blk} {m':Mem} {xs:List α} {lo n:Nat} {w v:Value} (hc:CutV T.sz lo n w v) (h:Ow T z' m' xs w):Src T z' m' ((xs.take n).drop lo) v:=by
 rcases hc with ⟨rfl,rfl,rfl,rfl⟩|⟨b,f0,l,c,off,c',rfl,rfl,h1,h2,h3,h4⟩
 ·simpa using (Ow.nil (T:=T) (z:=z') (m:=m')).src
 ·rcases h with ⟨h,_⟩|⟨b',f1,L,c2,g1,g2,g3,g4,g5,g6,g7⟩
  ·cases h
  ·cases g1
   have hl:((xs.take n).drop lo).length=n - lo:=by simp;omega
   rw[←hl]
   refine qnm fun i y hy=> ?_
   obtain ⟨cs,k1,k2⟩:=g7 _ y (qgd hy)
   refine ⟨cs,k1,fun k u hk=> ?_⟩
   have:=(List.getElem?_eq_some_iff.1 hy).1
   have ho:off=f0+lo*T.sz:=by
    rcases h3 with h3|⟨h3,_⟩
    ·exact h3
    ·omega
   rw[ho,Nat.add_assoc f0,←Nat.add_mul]
   simp only[Mem.load,g2]
   exact k2 k u hk
theorem CutV.blk {sz lo n:Nat} {w v:Value} (hc:CutV sz lo n w v):blkV v=blkV w:=by
 rcases hc with ⟨rfl,rfl,_,_⟩|⟨b,f0,l,c,off,c',rfl,rfl,_⟩<;>rfl
theorem qh0 {s:SV D} {v:Value} {p:(t:Nat)×List (D t)} (hM:Mm X.G O z e m k vs) (h:qnY O s=some p) (hv:rel X.G z vs s v):Src (X.G.T p.1) z m p.2 v:=by
 unfold qnY at h
 split at h
 ·obtain ⟨w,h1,h2⟩:=hv
  split at h
  ·rename_i e' xs w1 hO
   split at h
   ·rename_i he
    subst he
    cases h
    have hob:OwF _ z e m k xs w:=hM.obj _ _ _ hO h1.1
    exact h2.src hob.ow
   ·cases h
  ·cases h
 ·exact qme hM h hv
theorem qj4 (h:qqG y=true):ev fr y= .slice none 0 0:=by
 unfold qqG at h
 split at h
 ·rfl
 ·cases h
theorem qp0 {op:BinOp} {left:Bool} {kk kk':IntKind} {a b:Int} {K:CV D→Option ρ} (ho:o.op= .binOp op t x y u) (ha:ev fr x= .int kk a) (hb:ev fr y= .int kk' b) (hop:(op= .shl∧left=true)∨(op= .shr∧left=false)) (h:shX left y kk a b K=some r):∃c v,K c=some r∧PureR P (ev fr) o v∧rel0 X.G z vs c v:=by
 have fin:∀{n:Nat},0≤b→min b.toNat kk.bits=n→PureR P (ev fr) o (.int kk (shV left kk a n)):=by
  intro n hb0 hn
  have:=qsP (P:=P) (op:=op) ho ha hb hb0 (by rcases hop with ⟨h,_⟩|⟨h,_⟩<;>simp[h])
  rw[hn] at this
  have e:(if op= .shl then kk.wrap (a*2 ^ n) else a.fdiv (2 ^ n))=shV left kk a n:=by
   rcases hop with ⟨rfl,rfl⟩|⟨rfl,rfl⟩<;>simp[shV,Int.natCast_pow]
  rw[←e];exact this
 unfold shX at h
 split at h
 ·rename_i n hn
  obtain ⟨hl,h⟩:Nat.ble n kk.bits=true∧K (.int kk (shV left kk a n))=some r:=by
   split at h
   ·exact ⟨‹_›,h⟩
   ·cases h
  have hbn:b=n:=by
   unfold qpL at hn
   split at hn
   ·cases hn
    have hb:Value.int _ (Int.ofNat n)= .int kk' b:=hb
    cases hb;rfl
   ·cases hn
  exact ⟨_,_,h,fin (by omega) (by rw[hbn,Int.toNat_natCast];exact Nat.min_eq_left (Nat.le_of_ble_eq_true hl)),rfl⟩
 ·obtain ⟨n,hn,h⟩:=bind_some h
  unfold shN at hn
  split at hn
  ·rename_i hb0
   cases hn
   exact ⟨_,_,h,fin hb0 rfl,rfl⟩
  ·cases hn
theorem qr9 {op:BinOp} {t1 t2:Nat} {c1 c2:List (CV D)} {K:CV D→Option ρ} (ho:o.op= .binOp op t x y u) (ha:rel X.G z vs (.agg t1 c1) (ev fr x)) (hb:rel X.G z vs (.agg t2 c2) (ev fr y)) (h:eqA X op t t1 c1 t2 c2 K=some r):∃c v,K c=some r∧PureR P (ev fr) o v∧rel0 X.G z vs c v:=by
 unfold eqA at h
 split at h
 ·rename_i ti qi hti hqi
  split at h
  ·rename_i a b h1 h2
   obtain ⟨ds,hx,hr1⟩:=ha
   obtain ⟨ds',hy,hr2⟩:=hb
   have e1:=qi.hv z a ds (ti.pkl z vs c1 a ds h1 hr1)
   have e2:=qi.hv z b ds' (ti.pkl z vs c2 b ds' h2 hr2)
   rw[e1] at hx
   rw[e2] at hy
   split at h
   ·exact ⟨_,_,h,pEqA false (by simpa using ho) qi.ht qi.hp qi.hg (qi.hs a b) hx hy (qi.he a b),rfl⟩
   ·exact ⟨_,_,h,pEqA true (by simpa using ho) qi.ht qi.hp qi.hg (qi.hs a b) hx hy (qi.he a b),rfl⟩
   ·cases h
  ·cases h
 ·cases h
theorem qqf {op:BinOp} {a b:SV D} {K:CV D→Option ρ} (ho:o.op= .binOp op t x y u) (hM:Mm X.G O z e m k vs) (ha:rel X.G z vs a (ev fr x)) (hb:rel X.G z vs b (ev fr y)) (h:binX (P:=P) op t y O a b K=some r):∃c v,K c=some r∧PureR P (ev fr) o v∧rel0 X.G z vs c v:=by
 unfold binX at h
 split at h
 ·split at h
  ·exact qp0 ho ha hb (.inl ⟨rfl,rfl⟩) h
  ·exact qp0 ho ha hb (.inr ⟨rfl,rfl⟩) h
  ·split at h
   ·rename_i hk;subst hk
    exact qqd ho ha hb h
   ·cases h
 ·exact qqe ho ha hb h
 ·split at h
  ·rename_i ht
   exact qqc ho ht ha hb h
  ·cases h
 ·split at h
  ·rename_i te ht hn
   have hy:=qj4 (fr:=fr) hn
   split at h
   ·exact ⟨_,_,h,qgG false ho ht ha hy,rfl⟩
   ·split at h
    ·rename_i t' xs hl
     rcases qh1 hM hl ha with ⟨hv,hxs⟩|⟨a',l',c',hv⟩
     ·exact ⟨_,_,qdp h true fun _=>hxs,qgG false ho ht hv hy,rfl⟩
     ·exact ⟨_,_,qdp h false (by simp), .eqNil false x y t u te a' l' c' ho ht hv hy,rfl⟩
    ·cases h
  ·rename_i te ht hn
   have hy:=qj4 (fr:=fr) hn
   split at h
   ·exact ⟨_,_,h,qgG true ho ht ha hy,rfl⟩
   ·split at h
    ·rename_i t' xs hl
     rcases qh1 hM hl ha with ⟨hv,hxs⟩|⟨a',l',c',hv⟩
     ·exact ⟨_,_,qdp h true fun _=>hxs,qgG true ho ht hv hy,rfl⟩
     ·exact ⟨_,_,qdp h false (by simp), .eqNil true x y t u te a' l' c' ho ht hv hy,rfl⟩
    ·cases h
  ·cases h
end
end Go.AM
end
section
set_option linter.unusedSimpArgs false
set_option linter.unusedVariables false
namespace Go.AM
section
variable {P:Program} {D:Nat→Type} {X:Ev P D} {ρ:Type} {z z':Nat→Blk} {e m m':Mem} {k:Option Nat} {vs:List Value} {fr:Nat→Value} {E:List (Nat×SV D)} {O:List (Ob D)} {o:Oper} {r:ρ}
variable {x y:Operand} {t u:TypeId} {K:SV D→List (Ob D)→Option ρ}
theorem qav {sv:SV D} {v:Value} (hM:Mm X.G O z e m k vs) (hK:K sv O=some r) (h:PureR P (ev fr) o v) (hv:rel X.G z vs sv v):StepX P (ev fr) o m fun _ v m'=>Nxt X O z e k vs K r v m':=
 StepX.pure h (Nxt.here hM hv hK)
theorem qsh {tt:Nat} {ti:TI P X.G tt} {xs:List (D tt)} {n:Int} {kk:IntKind} {a:D tt} (ho:o.op= .indexAddr t x y) (ht:P.underlying t=some (.slice tt)) (hM:Mm X.G O z e m k vs) (hs:SlR (X.G.T tt) z xs (ev fr x)) (hy:ev fr y= .int kk n) (hg:getI xs n=some a)
  (h:K (.rp tt (ti.lv a) 0) O=some r):StepX P (ev fr) o m fun _ v m'=>Nxt X O z e k vs K r v m':=by
 refine qwE ho ht ti.hi ti.hsz rfl hy hs hg fun b off cs hrd hc=> ?_
 exact Nxt.here (sv:= .rp tt (ti.lv a) 0) hM ⟨b,off,cs,rfl,hc,ti.rdl _ _ _ _ hrd⟩ h
theorem qod {a b:SV D} (ho:o.op= .indexAddr t x y) (hM:Mm X.G O z e m k vs) (ha:rel X.G z vs a (ev fr x)) (hb:rel X.G z vs b (ev fr y)) (h:qq0 X t a b O K=some r):StepX P (ev fr) o m fun _ v m'=>Nxt X O z e k vs K r v m':=by
 unfold qq0 at h
 split at h
 ·rename_i kk n
  have hy:ev fr y= .int kk n:=hb
  split at h
  ·rename_i i
   split at h
   ·rename_i t1 u1 n1 xs w1 hO
    split at h
    ·rename_i ti l e' hI ht
     split at h
     ·rename_i heq
      obtain ⟨rfl,rfl⟩:=heq
      obtain ⟨a,hg,h⟩:=bind_some h
      obtain ⟨b,l2,hv,hx⟩:=ha
      obtain ⟨⟨b',he⟩,hob⟩:=hM.obj i _ _ hO hv
      cases he
      refine qwD ho ht ti.hi (T:=(X.G.T e').as u1) ti.hsz hx hy hob hg fun cs hrd hg2 hc=> ?_
      exact Nxt.here (sv:= .el i e' n 0) hM ⟨b,0,_,_,hv,by simp;rfl⟩ h
     ·cases h
    ·cases h
   ·cases h
  ·rename_i e1 xs
   split at h
   ·rename_i ti e' hI ht
    split at h
    ·rename_i heq
     subst heq
     obtain ⟨a,hg,h⟩:=bind_some h
     exact qsh (ti:=ti) ho ht hM ha hy hg h
    ·cases h
   ·cases h
  ·rename_i i
   split at h
   ·rename_i t1 xs fz w1 hO
    split at h
    ·rename_i ti e' hI ht
     split at h
     ·rename_i heq
      subst heq
      obtain ⟨a,hg,h⟩:=bind_some h
      have hob:=hM.obj i _ _ hO ha.1
      cases fz with
      |true=>exact qsh (ti:=ti) ho ht hM hob hy hg h
      |false=>
       have hob:OwF (X.G.T e') z e m k xs (ev fr x):=hob
       refine qsq ho ht ti.hi ti.hsz rfl hy hob hg fun b f0 l c cs hv hrd hg2 hc=> ?_
       exact Nxt.here (sv:= .el i e' n 0) hM ⟨b,f0,l,c,by rw[←hv];exact ha.1,rfl⟩ h
     ·cases h
    ·cases h
   ·rename_i e1 t1 up xss hole w1 hO
    split at h
    ·rename_i ni e' hN ht
     split at h
     ·rename_i heq
      subst heq
      obtain ⟨a,hg,h⟩:=bind_some h
      obtain ⟨hu,ws,hob⟩:=hM.obj i _ _ hO ha.1
      obtain ⟨g0,g1,g2⟩:=qaH hg
      have hlt:n.toNat<ws.length:=by rw[hob.len];exact (List.getElem?_eq_some_iff.1 g2).1
      have hgw:getI ws n=some ws[n.toNat]:=by
       unfold getI
       rw[if_pos (by omega)]
       exact List.getElem?_eq_getElem hlt
      refine qsq (T:=TVal e') ho ht ni.hi (by rw[ni.h1];rfl) rfl hy hob.ow hgw fun b f0 l c cs hv hrd hg2 hc=> ?_
      exact Nxt.here (sv:= .el i e' n 0) hM ⟨b,f0,l,c,by rw[←hv];exact ha.1,by rw[ni.hsz];rfl⟩ h
     ·cases h
    ·cases h
   ·cases h
  ·rename_i i e1 lo hi
   split at h
   ·rename_i t1 xs w1 hO
    split at h
    ·rename_i ti e' hI ht
     split at h
     ·rename_i heq
      obtain ⟨rfl,rfl⟩:=heq
      obtain ⟨a,hg,h⟩:=bind_some h
      obtain ⟨w,hw,hc⟩:=ha
      obtain ⟨g0,g1,g2⟩:=qaH hg
      have hlen:n.toNat<((xs.take hi).drop lo).length:=(List.getElem?_eq_some_iff.1 g2).1
      rw[List.length_drop,List.length_take] at hlen
      rcases hc with ⟨_,_,rfl,rfl⟩|⟨b,f0,l,c,off,c',rfl,hv,h1,h2,h3,h4⟩
      ·omega
      ·have hoff:off=f0+lo*(X.G.T t1).sz:=by rcases h3 with h3|h3<;>omega
       refine StepX.pure (v:= .pointer (some ⟨b,off+n.toNat*ti.i.size,none⟩)) (.indexAddr t x y t1 ti.i b off _ c' kk n ho ht ti.hi hv hy g0 (by omega)) (Nxt.here (sv:= .el i t1 ((lo:Int)+n) 0) hM ⟨b,f0,l,c,hw.1, ?_⟩ h)
       have e1:((lo:Int)+n).toNat=lo+n.toNat:=by omega
       rw[e1,hoff,ti.hsz,Nat.add_mul,Nat.add_zero,Nat.add_assoc]
     ·cases h
    ·cases h
   ·cases h
  ·cases h
 ·cases h
theorem qob {n:Nat} {a:SV D} (ho:o.op= .fieldAddr t x n) (hM:Mm X.G O z e m k vs) (ha:rel X.G z vs a (ev fr x)) (h:qqY (P:=P) t n a O K=some r):StepX P (ev fr) o m fun _ v m'=>Nxt X O z e k vs K r v m':=by
 unfold qqY at h
 split at h
 ·rename_i fs ht
  split at h
  ·rename_i f hf
   split at h
   ·rename_i i hi
    split at h
    ·cases h
    ·rename_i hs
     have hs':(i.size==0)=false:=by simpa using hs
     split at h
     ·obtain ⟨b,hv,hx⟩:=ha
      exact qav hM h (qlW ho ht hf hi hs' hx) ⟨b,hv,rfl⟩
     ·obtain ⟨b,o1,ds,hx,hc,hr⟩:=ha
      exact qav hM h (qlW ho ht hf hi hs' hx) ⟨b,o1,ds,by rw[Nat.add_assoc],hc,hr⟩
     ·obtain ⟨b,f0,l,c,hv,hx⟩:=ha
      exact qav hM h (qlW ho ht hf hi hs' hx) ⟨b,f0,l,c,hv,by rw[Nat.add_assoc]⟩
     ·cases h
   ·cases h
  ·cases h
 ·cases h
theorem qnX {b off:Nat} {cs:List (CV D)} {ds:List Value} {K:SV D→Option ρ} (ho:o.op= .load t x) (hx:ev fr x= .pointer (some ⟨b,off,none⟩)) {c0:Nat} (hc:∀(j:Nat) (w:Value),ds[j]? =some w→m.load b (c0+j)=some w) {n:Nat} (hoff:off=c0+n) (hr:L2 (rel0 X.G z vs) cs ds)
  (h:qef (P:=P) t cs n K=some r):∃sv v,K sv=some r∧rel X.G z vs sv v∧ReadR P (ev fr) o m v:=by
 subst hoff
 unfold qef at h
 split at h
 ·cases h
 ·rename_i d hd
  split at h
  ·rename_i hag
   split at h
   ·cases h
   ·rename_i i hi
    split at h
    ·rename_i hlen
     have hr':L2 (rel0 X.G z vs) ((cs.drop n).take i.size) ((ds.drop n).take i.size):=L2.take _ (L2.drop _ hr)
     have hl2:((ds.drop n).take i.size).length=i.size:=by rw[←hr'.length];exact hlen
     refine ⟨_, .agg ((ds.drop n).take i.size).toArray,h,⟨_,rfl,hr'⟩,qse ho hd hag hi hl2 hx fun j w hj=> ?_⟩
     rw[List.getElem?_take] at hj
     split at hj
     ·rw[List.getElem?_drop] at hj
      rw[Nat.add_assoc];exact hc _ w hj
     ·cases hj
    ·cases h
  ·rename_i hag
   split at h
   ·rename_i c hcs
    obtain ⟨w,hw,hrw⟩:=hr.get n c hcs
    exact ⟨_,w,h,hrw,qsd ho hd (by simpa using hag) hx (hc n w hw)⟩
   ·cases h
theorem Mm.kill (h:Mm X.G O z e m k vs) (i:Nat):Mm X.G (O.set i .dead) z e m k vs:=by
 refine ⟨h.st,by rw[List.length_set];exact h.len,fun j p w hj hw=> ?_,fun a b p q' u w hab ha hb la lb hu hw=> ?_⟩
 ·rw[List.getElem?_set] at hj
  split at hj
  ·split at hj
   ·cases hj;trivial
   ·cases hj
  ·exact h.obj j p w hj hw
 ·have key:∀(a:Nat) (p:Ob D),(O.set i .dead)[a]? =some p→p.live=true→O[a]? =some p:=by
   intro a p ha hp
   rw[List.getElem?_set] at ha
   split at ha
   ·split at ha
    ·cases ha;cases hp
    ·cases ha
   ·exact ha
  exact h.ap a b p q' u w hab (key a p ha la) (key b q' hb lb) la lb hu hw
theorem qc9 {O1:List (Ob D)} {i:Nat} (hM:Mm X.G O z e m k vs) (h:qiP O i=some O1):∃z',Inv O O1∧Zx e.next z z'∧Mm X.G O1 z' e m k vs:=by
 unfold qiP at h
 split at h
 ·cases h;exact ⟨z,Inv.refl O,Zx.refl z,hM⟩
 ·rename_i e1 t1 up xss p w hO
  split at h
  ·rename_i t2 xs w2 hO2
   split at h
   ·rename_i heq
    subst heq
    cases h
    obtain ⟨v,hv,hu,ws,hob⟩:=hM.at hO
    obtain ⟨p0,u,hp1,hp2⟩:=hob.out p rfl
    have hsl:OwF (X.G.T t2) z e m k xs u:=hM.obj p.2 _ u hO2 hp1
    have hne:i≠p.2:=fun hh=>by rw[hh,hO2] at hO;cases hO
    have hbv:blkV v=qag v:=qam (by obtain ⟨a,c,rfl⟩:=hob.ow.ow.len;intro r;simp)
    have hbu:blkV u=qag u:=qam (by obtain ⟨a,c,rfl⟩:=hsl.ow.len;intro r;simp)
    have hvm:∀r,v≠ .map r:=by obtain ⟨a,c,rfl⟩:=hob.ow.ow.len;intro r;simp
    have hap:=hM.ap p.2 i _ _ u v (fun hh=>hne hh.symm) hO2 hO rfl rfl hp1 hv
    rw[hbv,hbu] at hap
    have hlt:p.1.toNat<ws.length:=(List.getElem?_eq_some_iff.1 hp2).1
    have hws:ws=ws.set p.1.toNat u:=by
     apply List.ext_getElem?
     intro j
     rw[List.getElem?_set]
     split
     ·rename_i hj;subst hj;exact hp2
     ·rfl
    obtain ⟨z',g1,g2,g3,g4⟩:=qi1 hob hM.st hob.ow hws hlt (fun q hq=>by cases hq;omega) hsl hap
    have hM2:=hM.kill p.2
    have hO':(O.set p.2 .dead)[i]? =some (.nest e1 t2 up xss (some p) w):=by rw[List.getElem?_set_ne (fun hh=>hne hh.symm)];exact hO
    have hM3:=hM2.zchg (o':= .nest e1 t2 up (xss.set p.1.toNat xs) none true) (p:=qag u) hO' hv rfl hvm g1.le ⟨Nat.le_refl _,hM.st.dead,fun _ _ _=>rfl⟩ g2 (fun j q w3 hj hq hl hw=> ?_) (fun b hb=>(hsl.ow.lt b hb).2) (fun b hb hp _=> ?_) ⟨hu,ws,g3⟩
    ·have hsc:(O.set i (.nest e1 t2 up (xss.set p.1.toNat xs) none true)).set p.2 .dead=(O.set p.2 .dead).set i (.nest e1 t2 up (xss.set p.1.toNat xs) none true):=List.set_comm _ _ hne
     exact ⟨z',(Inv.set O i (.inr rfl)).trans (Inv.set _ p.2 (.inl rfl)),g1,by rw[hsc];exact hM3⟩
    ·rw[List.getElem?_set] at hq
     split at hq
     ·split at hq
      ·cases hq;cases hl
      ·cases hq
     ·rename_i hjp
      have:=hM.ap j p.2 q _ w3 u (fun hh=>hjp hh.symm) hq hO2 hl rfl hw hp1
      rw[hbu] at this
      exact this
    ·rcases g4 b with hc|hc
     ·exact hc
     ·exact absurd hc hp
   ·cases h
  ·cases h
 ·cases h
theorem qmb {i e2 t1:Nat} (ni:NI P X.G e2 t1) {up:Option (List (D t1)→D e2)} {xss:List (List (D t1))} {w1:Bool} {ix:Int} {O1:List (Ob D)} {z1:Nat→Blk} (ho:o.op= .load e2 x) (hM:Mm X.G O z e m k vs) (hi1:Inv O O1) (hz1:Zx e.next z z1) (hM1:Mm X.G O1 z1 e m k vs) (hO:O1[i]? =some (.nest e2 t1 up xss none w1)) (ha:rel X.G z vs (.el i e2 ix 0) (ev fr x))
  (h:(Option.bind (getI xss ix) fun xs=>K (.c (.own O1.length)) (O1.set i (.nest e2 t1 up xss (some (ix,O1.length)) w1)++[.sl t1 xs false false]))=some r):StepX P (ev fr) o m fun _ v m'=>Nxt X O z e k vs K r v m':=by
 obtain ⟨xs,hg,h⟩:=bind_some h
 obtain ⟨b,f0,l,c,hv,hx⟩:=ha
 obtain ⟨hu,ws,hob⟩:=hM1.obj i _ _ hO hv
 obtain ⟨g0,g1,g2⟩:=qaH hg
 have hlt:ix.toNat<ws.length:=by rw[hob.len];exact (List.getElem?_eq_some_iff.1 g2).1
 have hw:=List.getElem?_eq_getElem hlt
 have hgw:getI ws ix=some ws[ix.toNat]:=by
  unfold getI
  rw[if_pos (by omega)]
  exact hw
 obtain ⟨cs,hrd,_,hc⟩:=hob.ow.elem rfl hgw
 have hld:m.load b (f0+ix.toNat*(X.G.T e2).sz+0)=some ws[ix.toNat]:=by
  rw[ni.hsz]
  exact hc 0 _ (by rw[hrd.1];rfl)
 generalize ws[ix.toNat]=u at*
 obtain ⟨z2,q1,q2,q3,q4,q5,q6⟩:=qn3 (vs':=vs++[u]) (jo:=O1.length) hob hM1.st hw g2 qau (by rw[←hM1.len];simp)
 have hvm:∀r,Value.slice (some ⟨b,f0,none⟩) l c≠ .map r:=fun r hh=>by cases hh
 have hix:((ix.toNat:Nat):Int)=ix:=by omega
 rw[hix] at q3
 have hbu:blkV u=qag u:=qam (by obtain ⟨a,c,rfl⟩:=q4.ow.len;intro r;simp)
 have hi:=(List.getElem?_eq_some_iff.1 hO).1
 have hMa:Mm X.G (O1++[.dead]) z1 e m k (vs++[u]):=hM1.pushAt trivial fun hl=>by cases hl
 have hMb:=hMa.zchg (o:= .nest e2 t1 up xss none w1) (o':= .nest e2 t1 up xss (some (ix,O1.length)) w1) (p:=none) (by rw[List.getElem?_append_left hi];exact hO) (qau _ _ hv) rfl hvm q1.le ⟨Nat.le_refl _,hM.st.dead,fun _ _ _=>rfl⟩ q2 (fun _ _ _ _ _ _ _=>Ap.none') (fun b hb=>by cases hb) (fun b' _ _ hl=>by
  rcases q5 b' with hh|⟨_,h0,L,t,hh⟩
  ·exact hh
  ·rcases hl with hl|hl
   ·exact absurd hl h0
   ·exact absurd hh (hl _ _ _)) ⟨hu,ws,q3⟩
 have hlen:((O1++[(.dead:Ob D)]).set i (.nest e2 t1 up xss (some (ix,O1.length)) w1)).length=O1.length+1:=by simp
 have hMc:=hMb.wake (i:=O1.length) (o':= .sl t1 xs false false) (v:=u) (by rw[hlen];omega) (by rw[←hM1.len];simp) (q4:OwF (X.G.T t1) z2 e m k xs u) (fun j q w hj hq hl hw=> ?_)
 ·have hset:((O1++[(.dead:Ob D)]).set i (.nest e2 t1 up xss (some (ix,O1.length)) w1)).set O1.length (.sl t1 xs false false)=O1.set i (.nest e2 t1 up xss (some (ix,O1.length)) w1)++[.sl t1 xs false false]:=by
   rw[List.set_append_left _ _ hi,List.set_append_right _ _ (by simp)]
   simp
  rw[hset] at hMc
  refine StepX.read (qsd ho ni.hu rfl hx hld) ⟨z2,vs++[u], .c (.own O1.length),_,hi1.trans ((Inv.set O1 i (.inr ?_)).trans (Inv.push _ _)),hz1.trans q1,qau,hMc, ?_,h⟩
  ·simp[Ob.tch]
  ·obtain ⟨a,c',rfl⟩:=q4.ow.len
   exact ⟨by rw[←hM1.len];simp,rfl,rfl⟩
 ·intro b' hb' hu'
  rw[hbu] at hu'
  refine q6 b' hu' ?_
  have hjlt:j<O1.length:=by
   have:=(List.getElem?_eq_some_iff.1 hq).1
   rw[hlen] at this
   omega
  by_cases hji:j=i
  ·subst hji
   rw[List.getElem?_append_left (by rw[hM1.len];exact hi)] at hw
   rw[hv] at hw;cases hw
   exact ((hM1.obj _ _ _ hO hv).lt rfl b' hb').2.1
  ·rw[List.getElem?_set_ne (fun hh=>hji hh.symm),List.getElem?_append_left hjlt] at hq
   rw[List.getElem?_append_left (by rw[hM1.len];exact hjlt)] at hw
   exact ((hM1.obj j q w hq hw).lt hl b' hb').2.1
theorem qkZ {i e1:Nat} {ix:Int} {off:Nat} (ho:o.op= .load t x) (hM:Mm X.G O z e m k vs) (ha:rel X.G z vs (.el i e1 ix off) (ev fr x)) (h:qi3 X t i e1 ix off O K=some r):StepX P (ev fr) o m fun _ v m'=>Nxt X O z e k vs K r v m':=by
 unfold qi3 at h
 split at h
 ·rename_i O1 hf
  obtain ⟨z1,hi1,hz1,hM1⟩:=qc9 hM hf
  split at h
  ·rename_i e2 t1 up xss w1 hO
   split at h
   ·rename_i ni hN
    split at h
    ·rename_i hk
     obtain ⟨rfl,rfl,rfl⟩:=hk
     exact qmb ni ho hM hi1 hz1 hM1 hO ha h
    ·cases h
   ·cases h
  ·cases h
 ·cases h
theorem qh9 {a:SV D} (ho:o.op= .load t x) (hM:Mm X.G O z e m k vs) (ha:rel X.G z vs a (ev fr x)) (h:qkk X t a O K=some r):StepX P (ev fr) o m fun _ v m'=>Nxt X O z e k vs K r v m':=by
 have fin:∀{b off:Nat} {cs:List (CV D)} {ds:List Value} {c0 n:Nat},ev fr x= .pointer (some ⟨b,off,none⟩)→(∀(j:Nat) (w:Value),ds[j]? =some w→m.load b (c0+j)=some w)→off=c0+n→L2 (rel0 X.G z vs) cs ds→qef (P:=P) t cs n (fun v=>K v O)=some r→StepX P (ev fr) o m fun _ v m'=>Nxt X O z e k vs K r v m':=by
  intro b off cs ds c0 n hx hc hoff hr h
  obtain ⟨sv,v,h1,h2,h3⟩:=qnX ho hx hc hoff hr h
  exact StepX.read h3 (Nxt.here hM h2 h1)
 unfold qkk at h
 split at h
 ·obtain ⟨b,o1,ds,hx,hc,hr⟩:=ha
  exact fin hx (hM.st.loads hc) rfl hr h
 ·rename_i i off
  obtain ⟨b,hv,hx⟩:=ha
  split at h
  ·rename_i u cs fz w1 hO
   have hob:=hM.obj i _ _ hO hv
   cases fz with
   |true=>
    obtain ⟨b',ds,he,hc,hr⟩:=hob
    cases he
    exact fin hx (hM.st.loads hc) (Nat.zero_add _).symm hr h
   |false=>
    obtain ⟨b',ds,he,hb,_,hr⟩:=hob
    cases he
    exact fin hx hb.loads (Nat.zero_add _).symm hr h
  ·rename_i u cs w1 hO
   obtain ⟨b',ds,he,hb,hr⟩:=hM.obj i _ _ hO hv
   cases he
   exact fin hx hb.loads (Nat.zero_add _).symm hr h
  ·cases h
 ·rename_i i e1 ix off
  split at h
  ·exact qkZ ho hM ha h
  obtain ⟨b,f0,l,c,hv,hx⟩:=ha
  split at h
  ·rename_i e2 xs fz w1 ti hO hI
   split at h
   ·rename_i heq
    subst heq
    obtain ⟨a,hg,h⟩:=bind_some h
    have hob:=hM.obj i _ _ hO hv
    cases fz with
    |true=>
     have hob:SlR (X.G.T e2) z xs _:=hob
     obtain ⟨g0,g1,g2⟩:=qaH hg
     rcases hob with ⟨he,_⟩|⟨b',o',c',he,_,_,h4⟩
     ·cases he
     ·cases he
      obtain ⟨cs,hrd,hc⟩:=h4 _ a g2
      exact fin hx (hM.st.loads hc) rfl (ti.rdl _ _ _ _ hrd) h
    |false=>
     have hob:OwF (X.G.T e2) z e m k xs _:=hob
     obtain ⟨cs,hrd,_,hc⟩:=hob.elem rfl hg
     exact fin hx hc rfl (ti.rdl _ _ _ _ hrd) h
   ·cases h
  ·rename_i e2 u n xs w1 ti hO hI
   split at h
   ·rename_i heq
    subst heq
    obtain ⟨a,hg,h⟩:=bind_some h
    obtain ⟨_,hob⟩:=hM.obj i _ _ hO hv
    obtain ⟨cs,hrd,_,hc⟩:=hob.elem rfl hg
    exact fin hx hc rfl (ti.rdl _ _ _ _ hrd) h
   ·cases h
  ·cases h
 ·cases h
end
end Go.AM
end
section
set_option linter.unusedSimpArgs false
set_option linter.unusedVariables false
namespace Go.AM
section
variable {P:Program} {D:Nat→Type} {X:Ev P D} {ρ:Type} {z z':Nat→Blk} {e m m':Mem} {k:Option Nat} {vs:List Value} {fr:Nat→Value} {E:List (Nat×SV D)} {O:List (Ob D)} {o:Oper} {r:ρ}
variable {x y:Operand} {t u:TypeId} {K:SV D→List (Ob D)→Option ρ}
theorem L2.set {α β:Type} {R:α→β→Prop}:∀{l:List α} {k:List β} (i:Nat) {a:α} {b:β},L2 R l k→R a b→L2 R (l.set i a) (k.set i b)
 |[],[],i,a,b,_,_=>by simp[L2]
 |x::l,y::k,0,a,b,⟨_,h2⟩,hab=>⟨hab,h2⟩
 |x::l,y::k,i+1,a,b,⟨h1,h2⟩,hab=>⟨h1,L2.set i h2 hab⟩
 |[],_::_,_,_,_,h,_=>h.elim
 |_::_,[],_,_,_,h,_=>h.elim
theorem qcK:∀{new:List (CV D)} {nds:List Value} {cs:List (CV D)} {ds:List Value} (off:Nat),L2 (rel0 X.G z vs) cs ds→L2 (rel0 X.G z vs) new nds→L2 (rel0 X.G z vs) (setC cs off new) (setN ds off nds)
 |[],[],cs,ds,off,h,_=>h
 |c::new,d::nds,cs,ds,off,h,⟨h1,h2⟩=>qcK (off+1) (h.set off h1) h2
 |[],_::_,_,_,_,_,h=>h.elim
 |_::_,[],_,_,_,_,h=>h.elim
theorem qhB {a b:Nat} (h:a≤b):Nat.ble a b=true:=by rw[Nat.ble_eq];exact h
theorem qaQ {ob:Ob D} {sv:SV D} {v w:Value} (hM:Mm X.G O z e m k vs) (st:St z e m' k) (s:Same m m' none) (hap:∀p,(∀b,p=some b→b<m.next)→Ap p (blkV v)) (hK:K sv (O++[ob])=some r) (hob:ObOk X.G z e m' k (vs++[v]) ob v) (hv:rel X.G z (vs++[v]) sv w):Nxt X O z e k vs K r w m':=
 ⟨z,vs++[v],sv,O++[ob],Inv.push O ob,Zx.refl z,qau,hM.push s st (fun _ _ _ _ _ _=>Ap.none') hob fun p hp _=>hap p hp,hv,hK⟩
theorem qdD {i:Nat} {ob ob':Ob D} {v:Value} (hM:Mm X.G O z e m k vs) (hK:K .undef (O.set i ob')=some r) (hO:O[i]? =some ob) (hv:vs[i]? =some v) (hl:ob.live=true) (ht:ob'.tch=true) (s:Same m m' (blkV v)) (st:St z e m' k) (hn:ObOk X.G z e m' k vs ob' v):Nxt X O z e k vs K r undef m':=
 ⟨z,vs, .undef,_,Inv.set O i (.inr ht),Zx.refl z,fun _ _ h=>h,hM.turn hO hv hl s st hn,rfl,hK⟩
theorem qh6 (hM:Mm X.G O z e m k vs) (v:Value):(vs++[v])[O.length]? =some v:=by
 rw[←hM.len];simp
theorem qa4 {v:Value} {l:Nat} (hM:Mm X.G O z e m k vs) (hv:∃a c,v= .slice a l c):rel X.G z (vs++[v]) (.c (.own O.length)) v:=by
 obtain ⟨a,c,rfl⟩:=hv
 exact ⟨qh6 hM _,rfl,rfl⟩
theorem qfX {i j e1 t1:Nat} (ni:NI P X.G e1 t1) {up:Option (List (D t1)→D e1)} {xss:List (List (D t1))} {hole:Option (Int×Nat)} {w1 w2:Bool} {xs:List (D t1)} {ix:Int} (ho:o.op= .store e1 x y) (hM:Mm X.G O z e m k vs) (hO:O[i]? =some (.nest e1 t1 up xss hole w1)) (hj:O[j]? =some (.sl t1 xs false w2)) (ha:rel X.G z vs (.el i e1 ix 0) (ev fr x)) (hb:rel X.G z vs (.c (.own j)) (ev fr y)) (hh:∀p,hole=some p→p.1=ix)
  (h:(Option.bind (getI xss ix) fun _=>K .undef ((O.set i (.nest e1 t1 up (xss.set ix.toNat xs) none true)).set j .dead))=some r):StepX P (ev fr) o m fun _ v m'=>Nxt X O z e k vs K r v m':=by
 obtain ⟨a,hg,h⟩:=bind_some h
 obtain ⟨b,f0,l,c,hv,hx⟩:=ha
 obtain ⟨hu,hst,hcl⟩:=hb
 obtain ⟨hup,ws,hob⟩:=hM.obj i _ _ hO hv
 obtain ⟨g0,g1,g2⟩:=qaH hg
 have hlt:ix.toNat<ws.length:=by rw[hob.len];exact (List.getElem?_eq_some_iff.1 g2).1
 have hw:=List.getElem?_eq_getElem hlt
 have hgw:getI ws ix=some ws[ix.toNat]:=by
  unfold getI
  rw[if_pos (by omega)]
  exact hw
 obtain ⟨cs,hrd,_,hc⟩:=hob.ow.elem rfl hgw
 have hsl:OwF (X.G.T t1) z e m k xs (ev fr y):=hM.obj j _ _ hj hu
 generalize hw':ev fr y=u at*
 have hne:i≠j:=fun hh=>by rw[hh,hj] at hO;cases hO
 have hvm:∀r,Value.slice (some ⟨b,f0,none⟩) l c≠ .map r:=fun r hh=>by cases hh
 have hbu:blkV u=qag u:=qam (by obtain ⟨a,c,rfl⟩:=hsl.ow.len;intro r;simp)
 have hap:=hM.ap j i _ _ u _ (fun hh=>hne hh.symm) hj hO rfl rfl hu hv
 rw[hbu] at hap
 rw[ni.hsz] at hx
 have hcl':u.cells.toList=[u]:=by rw[hcl]
 refine kSet (T:=TVal e1) (f:=0) (n:=ix.toNat) ho ni.hi hx rfl hw' hst hcl' (by rw[ni.h1];rfl) hob.ow rfl hw hrd hc (a':=u) ⟨rfl,hst,hcl⟩ (by rw[hrd.1];rfl) (by rw[hrd.1];rfl) hM.st fun m' st' ow' sm=> ?_
 have hsl':OwF (X.G.T t1) z e m' k xs u:=hsl.same sm hap
 obtain ⟨z',q1,q2,q3,q4⟩:=qi1 hob st' ow' rfl hlt (fun p hp=>by rw[hh p hp];omega) hsl' hap
 have hM2:=hM.kill j
 have hO':(O.set j .dead)[i]? =some (.nest e1 t1 up xss hole w1):=by rw[List.getElem?_set_ne (fun hh=>hne hh.symm)];exact hO
 have hM3:=hM2.zchg (o':= .nest e1 t1 up (xss.set ix.toNat xs) none true) (p:=qag u) hO' hv rfl hvm q1.le sm q2 (fun a q w3 ha hq hl hw=> ?_) (fun b hb=>(hsl.ow.lt b hb).2) (fun b _ hp _=> ?_) ⟨hup,_,q3⟩
 ·have hsc:(O.set i (.nest e1 t1 up (xss.set ix.toNat xs) none true)).set j .dead=(O.set j .dead).set i (.nest e1 t1 up (xss.set ix.toNat xs) none true):=List.set_comm _ _ hne
  exact ⟨z',vs, .undef,_,(Inv.set O i (.inr rfl)).trans (Inv.set _ j (.inl rfl)),q1,fun _ _ h=>h,by rw[hsc];exact hM3,rfl,h⟩
 ·rw[List.getElem?_set] at hq
  split at hq
  ·split at hq
   ·cases hq;cases hl
   ·cases hq
  ·rename_i hjp
   have:=hM.ap a j q _ w3 u (fun hh=>hjp hh.symm) hq hj hl rfl hw hu
   rw[hbu] at this
   exact this
 ·rcases q4 b with hc|hc
  ·exact hc
  ·exact absurd hc hp
theorem qfY {i e1 t1:Nat} (ni:NI P X.G e1 t1) {up:Option (List (D t1)→D e1)} {xss:List (List (D t1))} {hole:Option (Int×Nat)} {w1:Bool} {ix:Int} (ho:o.op= .store e1 x y) (hM:Mm X.G O z e m k vs) (hO:O[i]? =some (.nest e1 t1 up xss hole w1)) (ha:rel X.G z vs (.el i e1 ix 0) (ev fr x)) (hb:rel X.G z vs (.c .nilS) (ev fr y)) (hh:∀p,hole=some p→p.1=ix)
  (h:(Option.bind (getI xss ix) fun _=>K .undef (O.set i (.nest e1 t1 up (xss.set ix.toNat []) none true)))=some r):StepX P (ev fr) o m fun _ v m'=>Nxt X O z e k vs K r v m':=by
 obtain ⟨a,hg,h⟩:=bind_some h
 obtain ⟨b,f0,l,c,hv,hx⟩:=ha
 obtain ⟨hup,ws,hob⟩:=hM.obj i _ _ hO hv
 obtain ⟨g0,g1,g2⟩:=qaH hg
 have hlt:ix.toNat<ws.length:=by rw[hob.len];exact (List.getElem?_eq_some_iff.1 g2).1
 have hw:=List.getElem?_eq_getElem hlt
 have hgw:getI ws ix=some ws[ix.toNat]:=by
  unfold getI
  rw[if_pos (by omega)]
  exact hw
 obtain ⟨cs,hrd,_,hc⟩:=hob.ow.elem rfl hgw
 have hb:ev fr y= .slice none 0 0:=hb
 have hsl:OwF (X.G.T t1) z e m k ([]:List (D t1)) (.slice none 0 0):=⟨.inl ⟨rfl,rfl⟩,fun b hb=>by cases hb⟩
 have hvm:∀r,Value.slice (some ⟨b,f0,none⟩) l c≠ .map r:=fun r hh=>by cases hh
 have hap:Ap (qag (.slice none 0 0)) (qag (Value.slice (some ⟨b,f0,none⟩) l c)):=fun b hb=>by cases hb
 rw[ni.hsz] at hx
 refine kSet (T:=TVal e1) (f:=0) (n:=ix.toNat) ho ni.hi hx rfl hb rfl (a':= .slice none 0 0) rfl (by rw[ni.h1];rfl) hob.ow rfl hw hrd hc ⟨rfl,rfl,rfl⟩ (by rw[hrd.1];rfl) (by rw[hrd.1];rfl) hM.st fun m' st' ow' sm=> ?_
 have hsl':OwF (X.G.T t1) z e m' k ([]:List (D t1)) (.slice none 0 0):=⟨.inl ⟨rfl,rfl⟩,fun b hb=>by cases hb⟩
 obtain ⟨z',q1,q2,q3,q4⟩:=qi1 hob st' ow' rfl hlt (fun p hp=>by rw[hh p hp];omega) hsl' hap
 have hM3:=hM.zchg (o':= .nest e1 t1 up (xss.set ix.toNat []) none true) (p:=none) hO hv rfl hvm q1.le sm q2 (fun a q w3 ha hq hl hw=>fun b hb hb'=>by cases hb') (fun b hb=>by cases hb) (fun b _ hp _=> ?_) ⟨hup,_,q3⟩
 ·exact ⟨z',vs, .undef,_,Inv.set O i (.inr rfl),q1,fun _ _ h=>h,hM3,rfl,h⟩
 ·rcases q4 b with hc|hc
  ·exact hc
  ·cases hc
theorem qi6 {i e1:Nat} {ix:Int} {off:Nat} {b:SV D} (ho:o.op= .store t x y) (hM:Mm X.G O z e m k vs) (ha:rel X.G z vs (.el i e1 ix off) (ev fr x)) (hb:rel X.G z vs b (ev fr y)) (h:qgD X t i e1 ix off b O K=some r):StepX P (ev fr) o m fun _ v m'=>Nxt X O z e k vs K r v m':=by
 unfold qgD at h
 split at h
 ·rename_i j
  split at h
  ·rename_i e2 t1 up xss hole w1 t2 xs w2 hO hj
   split at h
   ·rename_i ni hN
    split at h
    ·rename_i heq
     subst heq
     split at h
     ·rename_i hk
      obtain ⟨rfl,rfl,rfl⟩:=hk
      split at h
      ·exact qfX ni ho hM hO hj ha hb (fun p hp=>by cases hp) h
      ·split at h
       ·rename_i p hp
        exact qfX ni ho hM hO hj ha hb (fun q hq=>by cases hq;exact hp) h
       ·cases h
     ·cases h
    ·cases h
   ·cases h
  ·cases h
 ·split at h
  ·rename_i e2 t1 up xss hole w1 hO
   split at h
   ·rename_i ni hN
    split at h
    ·rename_i hk
     obtain ⟨rfl,rfl,rfl⟩:=hk
     split at h
     ·exact qfY ni ho hM hO ha hb (fun p hp=>by cases hp) h
     ·split at h
      ·rename_i p hp
       exact qfY ni ho hM hO ha hb (fun q hq=>by cases hq;exact hp) h
      ·cases h
    ·cases h
   ·cases h
  ·cases h
 ·cases h
theorem qk1 {a b:SV D} (ho:o.op= .store t x y) (hM:Mm X.G O z e m k vs) (ha:rel X.G z vs a (ev fr x)) (hb:rel X.G z vs b (ev fr y)) (h:qi5 X t a b O K=some r):StepX P (ev fr) o m fun _ v m'=>Nxt X O z e k vs K r v m':=by
 unfold qi5 at h
 split at h
 ·cases h
 ·rename_i i hi
  split at h
  ·rename_i j off
   split at h
   ·cases h
   ·rename_i new hn
    obtain ⟨hst,hnr⟩:=qc6 hn hb
    split at h
    ·rename_i hsz
     have hsz':(ev fr y).cells.toList.length=i.size:=by rw[←hnr.length];exact hsz
     obtain ⟨b1,hv,hx⟩:=ha
     split at h
     ·rename_i u cs w1 hO
      split at h
      ·rename_i hle
       obtain ⟨b2,ds,he,hbx,hfr,hr⟩:=hM.obj j _ _ hO hv
       cases he
       refine kPut ho hi hx rfl hst rfl hsz' hbx (qhB (by rw[←hr.length,←hnr.length];exact hle)) _ rfl hM.st fun m' st' bx' sm=> ?_
       exact qdD hM h hO hv rfl rfl sm st' ⟨b1,_,rfl,bx',hfr,qcK off hr hnr⟩
      ·cases h
     ·rename_i u cs w1 hO
      split at h
      ·rename_i hle
       obtain ⟨b2,ds,he,hbx,hr⟩:=hM.obj j _ _ hO hv
       cases he
       refine kPut ho hi hx rfl hst rfl hsz' hbx (qhB (by rw[←hr.length,←hnr.length];exact hle)) _ rfl hM.st fun m' st' bx' sm=> ?_
       exact qdD hM h hO hv rfl rfl sm st' ⟨b1,_,rfl,bx',qcK off hr hnr⟩
      ·cases h
     ·cases h
    ·cases h
  ·rename_i j e1 ix off
   split at h
   ·exact qi6 ho hM ha hb h
   split at h
   ·cases h
   ·rename_i new O1 hn
    obtain ⟨z1,hi1,hz1,hM1,hst,hnr⟩:=qlR hM hn hb
    obtain ⟨b1,f0,l,c,hv,hx⟩:=ha
    split at h
    ·rename_i hsz
     have hsz':(ev fr y).cells.toList.length=i.size:=by rw[←hnr.length];exact hsz
     split at h
     ·rename_i e2 xs w1 ti hO hI
      split at h
      ·rename_i heq
       subst heq
       obtain ⟨a,hg,h⟩:=bind_some h
       split at h
       ·rename_i hle
        obtain ⟨a',hp,h⟩:=bind_some h
        have hob:OwF (X.G.T e2) z1 e m k xs _:=hM1.obj j _ _ hO hv
        obtain ⟨cs,hrd,hg2,hc⟩:=hob.elem rfl hg
        have hr:=ti.rdl z1 vs a cs hrd
        refine kSet (T:=X.G.T e2) ho hi hx rfl rfl hst rfl hsz' hob rfl hg2 hrd hc (ti.pkl z1 vs _ a' _ hp (qcK off hr hnr)) rfl (qhB (by rw[←hr.length,←hnr.length];exact hle)) hM1.st fun m' st' ow' sm=> ?_
        exact Nxt.from hi1 hz1 (qdD hM1 h hO hv rfl rfl sm st' ow')
       ·cases h
      ·cases h
     ·rename_i e2 u n xs w1 ti hO hI
      split at h
      ·rename_i heq
       subst heq
       obtain ⟨a,hg,h⟩:=bind_some h
       split at h
       ·rename_i hle
        obtain ⟨a',hp,h⟩:=bind_some h
        obtain ⟨⟨b2,he⟩,hob⟩:=hM1.obj j _ _ hO hv
        obtain ⟨cs,hrd,hg2,hc⟩:=hob.elem rfl hg
        have hr:=ti.rdl z1 vs a cs hrd
        refine kSet (T:=(X.G.T e2).as u) ho hi hx rfl rfl hst rfl hsz' hob rfl hg2 hrd hc (ti.pkl z1 vs _ a' _ hp (qcK off hr hnr)) rfl (qhB (by rw[←hr.length,←hnr.length];exact hle)) hM1.st fun m' st' ow' sm=> ?_
        exact Nxt.from hi1 hz1 (qdD hM1 h hO hv rfl rfl sm st' ⟨⟨b2,he⟩,ow'⟩)
       ·cases h
      ·cases h
     ·cases h
    ·cases h
  ·cases h
theorem qkV (ho:o.op= .alloc t) (hM:Mm X.G O z e m k vs)
  (h:(match X.A t with
  |some ai=>K (.arr O.length) (O++[.arr ai.e t ai.n (List.replicate ai.n ai.ti.x0) false])
  |none=>match X.I t with|some ti=>K (.box O.length 0) (O++[.box t ti.zc false false])|none=>none)=some r):StepX P (ev fr) o m fun _ v m'=>Nxt X O z e k vs K r v m':=by
 split at h
 ·rename_i ai hA
  refine qqH (T:=X.G.T ai.e) (x0:=ai.ti.x0) ho ai.hi ai.hz ai.hzf ai.hzs ai.hzc (ai.ti.rd0 z) ai.hn hM.st fun b m' st' ow sm hap=> ?_
  exact qaQ (v:= .slice (some ⟨b,0,none⟩) ai.n ai.n) hM st' sm hap h ⟨⟨b,rfl⟩,ow⟩ ⟨b,ai.n,qh6 hM _,rfl⟩
 ·split at h
  ·rename_i ti hI
   refine qqI ho ti.hi ti.hz ti.hzf ti.hzs _ rfl hM.st fun b m' hn st' bx sm hap=> ?_
   exact qaQ (v:= .pointer (some ⟨b,0,none⟩)) hM st' sm hap h ⟨b,_,rfl,bx,hn,ti.hzc _ _⟩ ⟨b,qh6 hM _,rfl⟩
  ·cases h
theorem qn9 {i:TypeInfo} {cs:List (CV D)} (ho:o.op= .box t x) (hM:Mm X.G O z e m k vs) (hE:rel X.G z vs (sop E x) (ev fr x)) (hi:P.info? t=some i) (hc:qfv (sop E x)=some cs) (hl:cs.length=i.size)
  (h:K (.box O.length 0) (O++[.box t cs false false])=some r):StepX P (ev fr) o m fun _ v m'=>Nxt X O z e k vs K r v m':=by
 obtain ⟨hst,hr⟩:=qc6 hc hE
 refine qwB ho hi rfl hst _ rfl (by rw[←hr.length];exact hl) hM.st fun b m' hn st' bx sm hap=> ?_
 exact qaQ (v:= .pointer (some ⟨b,0,none⟩)) hM st' sm hap h ⟨b,_,rfl,bx,hn,rels.mono hr (Zle.refl z) qau⟩ ⟨b,qh6 hM _,rfl⟩
theorem qkx {kk:IntKind} {n:Int} (h:qnh x y=true) (hx:ev fr x= .int kk n):∃k2,ev fr y= .int k2 n:=by
 unfold qnh at h
 split at h
 ·rename_i a b
  have:a=b:=Nat.eq_of_beq_eq_true h
  subst this
  exact ⟨kk,hx⟩
 ·rename_i k1 a k2 b
  have hx':Value.int k1 a= .int kk n:=hx
  cases hx'
  have:n=b:=by simpa using h
  subst this
  exact ⟨k2,rfl⟩
 ·cases h
theorem qk0 {tt:Nat} {kk:IntKind} {n:Int} (ho:o.op= .makeSlice t x y) (ht:P.underlying t=some (.slice tt)) (hM:Mm X.G O z e m k vs) (hx:ev fr x= .int kk n) (h:qi4 X tt x y n O K=some r):StepX P (ev fr) o m fun _ v m'=>Nxt X O z e k vs K r v m':=by
 unfold qi4 at h
 split at h
 ·rename_i t1 hu
  split at h
  ·rename_i ni hN hxy
   obtain ⟨xss,hm,h⟩:=bind_some h
   obtain ⟨k2,hy⟩:=qkx hxy hx
   obtain ⟨n0,n1,rfl⟩:=qdo hm
   have hm2:mkI (Value.slice none 0 0) n=some (List.replicate n.toNat (Value.slice none 0 0)):=by
    unfold mkI
    rw[if_pos ⟨n0,n1⟩]
   refine qsr (T:=TVal tt) (x0:=Value.slice none 0 0) ho ht ni.hi ni.hz rfl (by rw[ni.h1];rfl) (by rw[ni.h1];rfl) ni.hby ⟨rfl,rfl,rfl⟩ hx hy hM.st hm2 fun v' m' st' ow sm hap=> ?_
   have hb:blkV v'=qag v':=qam (by obtain ⟨a,c,rfl⟩:=ow.ow.len;intro r;simp)
   refine qaQ (v:=v') hM st' sm (by rw[hb];exact hap) h ⟨fun f hf=>by cases hf;exact ⟨ni.hsz,ni.tid,ni.hr⟩,_,ow,by simp,fun j w xs g1 g2 _=> .inl ?_,fun p hp=>by cases hp⟩ (qa4 hM ow.ow.len)
   rw[List.getElem?_replicate] at g1 g2
   split at g1
   ·rename_i hj
    rw[if_pos hj] at g2
    cases g1;cases g2
    exact ⟨rfl,rfl⟩
   ·cases g1
  ·cases h
 ·cases h
theorem qmJ {tt:Nat} {ti:TI P X.G tt} {kk:IntKind} {n:Int} (ho:o.op= .makeSlice t x y) (ht:P.underlying t=some (.slice tt)) (hM:Mm X.G O z e m k vs) (hx:ev fr x= .int kk n) (hxy:qnh x y=true)
  (h:(Option.bind (mkI ti.x0 n) fun r=>K (.c (.own O.length)) (O++[.sl tt r false false]))=some r):StepX P (ev fr) o m fun _ v m'=>Nxt X O z e k vs K r v m':=by
 obtain ⟨xs,hm,h⟩:=bind_some h
 have hy:=qkx hxy hx
 obtain ⟨k2,hy⟩:=hy
 refine qsr (T:=X.G.T tt) ho (by rw[ti.tid];exact ht) (by rw[ti.tid];exact ti.hi) ti.hz ti.hzf ti.hzs ti.hsz ti.hby (ti.rd0 z) hx hy hM.st hm fun v' m' st' ow sm hap=> ?_
 have hb:blkV v'=qag v':=qam (by obtain ⟨a,c,rfl⟩:=ow.ow.len;intro r;simp)
 exact qaQ (v:=v') hM st' sm (by rw[hb];exact hap) h ow (qa4 hM ow.ow.len)
theorem qkd {tt:Nat} {ti:TI P X.G tt}:∀{ps:List (Nat×Operand)} {n:Nat} {O:List (Ob D)} {z:Nat→Blk} {K:List (D tt)→List (Ob D)→Option ρ},Mm X.G O z e m k vs→(∀x,rel X.G z vs (sop E x) (ev fr x))→qml X ti E n ps O K=some r→
  ∃z' O' as css,Inv O O'∧Zx e.next z z'∧Mm X.G O' z' e m k vs∧qcT (X.G.T tt) z' (ev fr) ps n as css∧K as O'=some r
 |[],n,O,z,K,hM,hE,h=>⟨z,O,[],[],Inv.refl O,Zx.refl z,hM,trivial,h⟩
 |(j,x)::ps,n,O,z,K,hM,hE,h=>by
  unfold qml at h
  split at h
  ·rename_i hj
   split at h
   ·rename_i cs O1 hc
    obtain ⟨a,ha,h⟩:=bind_some h
    obtain ⟨z1,hi1,hz1,hM1,hst,hr⟩:=qlR hM hc (hE x)
    obtain ⟨z2,O2,as,css,g0,g1,g2,g3,g4⟩:=qkd hM1 (fun x=>(hE x).mono hz1.le fun _ _ h=>h) h
    exact ⟨z2,O2,a::as,(ev fr x).cells.toList::css,hi1.trans g0,hz1.trans g1,g2,⟨hj,hst,rfl,(X.G.T tt).mono _ _ g1.le _ _ (ti.pkl _ _ _ _ _ ha hr),g3⟩,g4⟩
   ·cases h
  ·cases h
theorem qkY {tt l:Nat} {ti:TI P X.G tt} {ps:Array (Nat×Operand)} (ho:o.op= .buildSlice t l ps) (ht:P.underlying t=some (.slice tt)) (hM:Mm X.G O z e m k vs) (hE:∀x,rel X.G z vs (sop E x) (ev fr x))
  (h:(qml X ti E 0 ps.toList O fun as O=>if as.length=l∧Nat.ble (l*(X.G.T tt).sz) 16777216=true then K (.c (.own O.length)) (O++[.sl tt as false false]) else none)=some r):StepX P (ev fr) o m fun _ v m'=>Nxt X O z e k vs K r v m':=by
 obtain ⟨z1,O1,as,css,g0,g1,g2,g3,g4⟩:=qkd hM hE h
 split at g4
 ·rename_i hl
  have hpos:0<(X.G.T tt).sz:=Nat.pos_of_ne_zero fun h0=>by have:=ti.hpos;rw[h0] at this;cases this
  have h24:=Nat.le_of_ble_eq_true hl.2
  have hll:l≤l*(X.G.T tt).sz:=Nat.le_mul_of_pos_right _ hpos
  refine ql4 (T:=X.G.T tt) ho (by rw[ti.tid];exact ht) (by rw[ti.tid];exact ti.hi) ti.hz ti.hzf ti.hzs ti.hsz as css hl.1 hl.2 (qhB (show l+1≤9223372036854775808 by omega)) g3 g2.st fun v' m' st' ow sm hap=> ?_
  have hb:blkV v'=qag v':=qam (by obtain ⟨a,c,rfl⟩:=ow.ow.len;intro r;simp)
  exact Nxt.from g0 g1 (qaQ (v:=v') g2 st' sm (by rw[hb];exact hap) g4 ow (qa4 g2 ow.ow.len))
 ·cases g4
theorem qiQ {pl:List (Option (Nat×Nat))} (hE:∀x,rel X.G z vs (sop E x) (ev fr x)):∀{ps:List (Nat×Operand)} {cs cs':List (CV D)} {ds:List Value},qiO pl E ps cs=some cs'→L2 (rel0 X.G z vs) cs ds→
  ∃ds',qbA (fun k=>(pl[k]?).join) ds (ps.map fun p=>(p.1,ev fr p.2))=some ds'∧L2 (rel0 X.G z vs) cs' ds'
 |[],cs,cs',ds,h,hr=>by cases h;exact ⟨ds,rfl,hr⟩
 |(i,x)::ps,cs,cs',ds,h,hr=>by
  unfold qiO at h
  split at h
  ·rename_i off size new hp hc
   split at h
   ·rename_i hcond
    obtain ⟨hst,hnr⟩:=qc6 hc (hE x)
    obtain ⟨ds',g1,g2⟩:=qiQ hE h (qcK off hr hnr)
    refine ⟨ds', ?_,g2⟩
    have hsz:(ev fr x).cells.size=size:=by
     have h1:new.length=(ev fr x).cells.toList.length:=hnr.length
     have h2:(ev fr x).cells.toList.length=(ev fr x).cells.size:=Array.length_toList
     have h3:new.length=size:=hcond.1
     omega
    simp only[List.map_cons,qbA,hp]
    rw[if_pos ⟨hst,hsz,by rw[←hr.length];exact hcond.2⟩]
    exact g1
   ·cases h
  ·cases h
theorem qjZ {n s:Nat}:∀{ps:List (Nat×Value)} {cs ds:List Value},qbA (fun k=>(((List.range n).map fun j=>some (j*s,s))[k]?).join) cs ps=some ds→qbA (fun j=>some (j*s,s)) cs ps=some ds
 |[],_,_,h=>h
 |(i,v)::ps,cs,ds,h=>by
  simp only[qbA] at h⊢
  by_cases hi:i<n
  ·rw[List.getElem?_map,List.getElem?_range hi] at h
   simp only[Option.map_some,Option.join_some] at h
   split at h
   ·rename_i hc
    rw[if_pos hc]
    exact qjZ h
   ·cases h
  ·rw[List.getElem?_map,List.getElem?_eq_none (by simp;omega)] at h
   cases h
theorem qkX {ti:TI P X.G t} {n ee:Nat} {kk:TypeInfo} {ps:Array (Nat×Operand)} {cs:List (CV D)} (ho:o.op= .build t ps) (ht:P.underlying t=some (.array n ee)) (hk:P.info? ee=some kk) (hM:Mm X.G O z e m k vs) (hE:∀x,rel X.G z vs (sop E x) (ev fr x))
  (hc:qiO ((List.range n).map fun j=>some (j*kk.size,kk.size)) E ps.toList ti.zc=some cs) (h:K (.agg t cs) O=some r):StepX P (ev fr) o m fun _ v m'=>Nxt X O z e k vs K r v m':=by
 obtain ⟨ds,g1,g2⟩:=qiQ hE hc (ti.hzc z vs)
 exact StepX.pure (.buildA t ps n ee ti.i kk ti.zv ds ho ht ti.hi ti.hz ti.hzf hk (qjZ g1)) (Nxt.here (sv:= .agg t cs) hM ⟨ds,rfl,g2⟩ h)
theorem qi7 {ti:TI P X.G t} {fs:Array Field} {ps:Array (Nat×Operand)} {cs:List (CV D)} (ho:o.op= .build t ps) (ht:P.underlying t=some (.struct fs)) (hM:Mm X.G O z e m k vs) (hE:∀x,rel X.G z vs (sop E x) (ev fr x)) (hp:(qcp P fs).all Option.isSome=true)
  (hc:qiO (qcp P fs) E ps.toList ti.zc=some cs) (h:K (.agg t cs) O=some r):StepX P (ev fr) o m fun _ v m'=>Nxt X O z e k vs K r v m':=by
 obtain ⟨ds,g1,g2⟩:=qiQ hE hc (ti.hzc z vs)
 exact qqJ _ ds ho ht ti.hi ti.hz ti.hzf rfl hp rfl g1 (Nxt.here (sv:= .agg t cs) hM ⟨ds,rfl,g2⟩ h)
end
end Go.AM
end
