import Derived.Test.YtekkhljfkiojiaaGreatDoorRows
import Derived.WalkKit
import Derived.ProofKit
import Derived.OpenShut
import Derived.ShutString
import Derived.ChangeOld
import Derived.Below
import Derived.Deep.DeepHandedRow
import Derived.Lib.LaidTab
import Derived.Stop.LaidErr
import Derived.Shelf.Vars
import Derived.Test.YtekkhljfkiojiaaGreatDoorNf
set_option linter.defProp false
set_option linter.unusedSimpArgs false
set_option linter.unusedVariables false
set_option linter.unusedSectionVars false
open And renaming intro->oE
open Bool renaming false->ak,true->aa
open Go renaming TypeId->bV,Value->af
open Go.DataW renaming trod->ua
open Go.OpenSpec renaming ofChange->Y1
open List renaming replicate->gb
open Option renaming some->kB,none->ae,some->J
section
set_option maxHeartbeats 2000000
namespace Go.W
open Go.aF
attribute [grind->] afO
def Y7 {c:c8} {y:bq} {p:eR} (h:oF c) (e:y=bq.mk [] (gb c.aH.length []) [] ak p ak) (k:nq p):jr c y:=by
 subst e;obtain ⟨f,j,_,_,_,_,a,_⟩:=h;have n:∀{k:Int} {t:List Int},al (gb c.aH.length ([]:List Int)) k=J t->t=[]:=λg=>List.eq_of_mem_replicate (lP g);refine ⟨λt m=> ?_,f,⟨⟨by simp,by omega,⟨by simp,by simp⟩,λk x t d b=> ?_⟩,by simp[lens],by simp[lens]⟩,by simp,by simp,by simp,nofun,nofun,k⟩
 ·obtain ⟨i,g⟩:=uL m;exact (a i t g).2
 ·rw[n b,YS];have:=(a k x d).2.1;omega
instance:gM 5000000001:=⟨by omega⟩
instance:au (qA 5000000001) True λr=>r=aa:=⟨λ_=>⟨by rw[afg];nofun,λr e=>by rw[afg] at e;exact (kB.inj e).symm⟩⟩
def aGW {a x:List Int}:az' a x []:=λk w i e=>by simp[al] at e
def aH8 {c:c8} {y:bq} {d:ct} {f b a:List Int} {j:b8} {e:Int} (P:jr c y)
  (D:d.items.length=f.length/\d.homes.length=y.b2.length/\(∀t∈d.aH,t.length<=40000)/\(∀w∈f,(∃u∈y.aH,w∈u)/\0<=w/\w<y.bD.length)/\yk y d.items f/\azO y d.items f) (S:azP f d.aH.flatten y.aH.flatten)
  (g:j.items.length=b.length/\b.length<=96/\(∀i∈b,0<=i/\i<d.items.length)/\(∀i∈j.items,0<=i.dS/\i.dS<d.homes.length)/\gu d/\az8 d.items j.items b/\j.dO=e) (K:b.Sublist d.aH.flatten)
  (G:(a.length=b.length/\(∀w∈a,w∈f)/\az' f b a)/\a=[]++(b.drop (0:Int).toNat).map (ayE f)):
  j.items.length=a.length/\a.length<=96/\(∀i∈j.items,0<=i.dS/\i.dS<y.b2.length)/\(∀i∈j.items,i.round=0)/\(∀i∈a,(∃u∈y.aH,i∈u)/\0<=i/\i<y.bD.length)/\a.Nodup/\azO y j.items a/\j.dO=e:=by
 have l:j.items.length=a.length:=by omega
 have I:azO y j.items a:=aGm D.2.2.2.2.2 g.2.2.2.2.2.1 G.1.2.2 g.1;have h:∀i∈a,(∃u∈y.aH,i∈u)/\0<=i/\i<y.bD.length:=λi m=>D.2.2.2.1 i (G.1.2.1 i m);refine ⟨l,by omega,λi m=> ?_,aER I l λi m=>(h i m).2,h, ?_,I,g.2.2.2.2.2.2⟩
 ·rw[<-D.2.1];exact g.2.2.2.1 i m
 ·have:=G.2;rw[Jn,List.nil_append] at this;rw[this];exact P.2.2.1.1.2.2.1.1.sublist ((K.map _).trans S)
theorem aGC {N:Nat} {e:eb} {y:bq} {r:cI} {a:List c4} {w:Int} (h:az0 N e y r) (I:azO y a y.bo.bD) (l:a.length=y.bo.bD.length) (k:w=e.dO):b8.mk a w=y.bo.iP:=by
 obtain ⟨_,_,_,_,_,f,b,g,d,_⟩:=h;rw[aGn I g l b d,k,<-f]
theorem aGB {N:Nat} {e:eb} {y:bq} {r:cI} (h:az0 N e y r):(0<=e.cq/\e.cq<y.aH.length)/\y.busy=aa/\y.cE=ak/\y.bo.proof=r.proof/\aAp N y.bo.iP r.proof/\y.bo.iP.items.length=y.bo.bD.length/\(∀i∈y.bo.bD,0<=i/\i<y.bD.length)/\al y.aH e.cq=J y.bo.bD/\(y.bo.aH.length:Int)=r.proof.e9.steps/\y.bo.h9=0/\(∀t∈y.bo.aH,al y.aH t=J [])/\∀i∈y.bo.iP.items,i.round=0:=by
 obtain ⟨m,j,g,k,l,s,a,n,b,p,q,d,f⟩:=h;exact ⟨m,j,g,k,l,a,b,p,q,d,f,aER n a b⟩
theorem aGA {N:Nat} {j:b8} {p:e8} (h:aAp N j p):p.e9.fW=azN N j/\azY (azN N j) p.e9.steps/\azV N j/\ue j/\azX (azT N j) (azN N j) (azS N j) p.chain/\p.chain.length<=200:=h
attribute [grind->] aGB aGA
variable {N:Nat} [gM N]
instance (priority:=high) {a f j} :au (RA N a f j) (jr a.c a.y/\iW a.e/\j=[]/\f=[]/\a.r.vv=[]/\f.length<=1000000/\j.length<=1000000) λr=>(r.1=0->rr a r.2)/\(r.1=0->r.2.r.dW=[]\/az0 N a.e r.2.y r.2.r):=⟨λE=>azU (au.ok (e:=RA N a f j) (by grind -mbtc)) (by revert E;rw[RA];(repeat' with_reducible first|intro _|apply dq|apply dh|refine dj (by omega) ?_|apply di|apply dk|apply df|apply eC|apply dr|apply dg)<;>first|grind -mbtc|((with_reducible repeat' apply oE)<;>first|grind -mbtc|exact aGW)|(rename_i h x y e Q n I A S U L F d k M l z H T O p g b P q C B s t;have R:=aH8 h.1 (d.1 (by simpa using k)) (d.2 (by simpa using k)) (g.1 (by simpa using b)) (g.2 (by simpa using b)) t;have V:=(g.1 (by simpa using b)).2.2.2.2.1;have K:=afY (d.1 (by simpa using k)).2.2.2.2.1 (d.1 (by simpa using k)).1 (λi m=>(V.2.2.2.1 i m).1);have w:∀i∈B,nV a.y i:=λi m=>K i (t.1.2.1 i m);clear e A F l p q s z;rw[C.1];clear d g t;dsimp only[He] at*;(with_reducible repeat' apply oE)<;>grind -mbtc))⟩
instance (priority:=high) {a d b f g} :au (S8 N a d b f g) (jr a.c (bq.mk d a.y.aH b a.y.busy a.y.bo a.y.cE)/\oF a.c/\iW a.e/\a.r.final.bD=[]/\a.r.vv=[]/\f=[]/\g=[]/\d.length<=1000000/\b.length<=1000000/\f.length<=1000000/\g.length<=1000000) λr=>(r.1=0->rr (Step.mk a.c (bq.mk d a.y.aH b a.y.busy a.y.bo a.y.cE) a.e a.r) r.2)/\(r.1=0->(a.e.kind=3->az0 N a.e r.2.y r.2.r)/\(a.e.kind=5->r.2.r.dW=[]\/az0 N a.e r.2.y r.2.r)):=⟨λh=>azU (au.ok (e:=S8 N a d b f g) (by grind -mbtc)) (by revert h;rw[S8];(repeat' with_reducible first|intro _|apply dq|apply dh|refine dj (by omega) ?_|apply di|apply dk|apply df|apply eC|apply dr|apply dg)<;>first|grind -mbtc|((with_reducible repeat' apply oE)<;>grind -mbtc))⟩
instance (priority:=high) {b U a} :au (afI N b U a) (jr b U/\oF b/\iW a) λr=>Ts b U r/\(r.2.err=0->(a.kind=3->az0 N a r.1 r.2)/\(a.kind=5->r.2.dW=[]\/az0 N a r.1 r.2)):=⟨λi=>azU (au.ok (e:=afI N b U a) (by grind -mbtc)) (by revert i;rw[afI];(repeat' with_reducible first|intro _|apply dq|apply dh|refine dj (by omega) ?_|apply di|apply dk|apply df|apply eC|apply dr|apply dg)<;>first|grind -mbtc|((with_reducible repeat' apply oE)<;>first|grind -mbtc|(rename_i g y e h;obtain ⟨j,f,d⟩:=h;dsimp only;rw[j,f,d];exact g.1)))⟩
instance {a} :au (Am a) (a.length=a.length) λr=>r.n=0:=⟨by rw[Am];exact aC⟩
instance {a b d} :au (Nk a b d) (0<=b/\b<a.length/\a.length<=1000000) λr=>r=aa->d.err=0/\∀e,al a b=J e->e.kind=3\/(e.kind=5/\d.dW≠[]):=⟨by rw[Nk];exact aC⟩
instance {a b d} :au (aCI a b d) (0<=b/\b<a.length/\(∀e,al a b=J e->0<=e.cq/\e.cq<d.aH.length)/\a.length<=1000000) λr=>r=ak:=⟨by rw[aCI];exact aC⟩
instance {f g a n h d b} :au (aA7 N f g a n h d b) (f.length<=1000000/\0<=g/\g<f.length/\(∀o∈a.b2,o.c7.length<=1000000)/\a.b2.length<=1000000/\(∀e,al f g=J e->al a.aH e.cq=J a.bo.bD)/\(∀i∈a.bo.bD,0<=i/\i<a.bD.length)/\a.bo.bD.length<=1000/\0<=d/\d<=a.bo.bD.length/\a.bo.bD.length - d<n/\b.length=d/\azO a b a.bo.bD) λr=>r.2.length=a.bo.bD.length/\azO a r.2 a.bo.bD/\r.1.dO=h.dO:=by induction n generalizing h d b with|zero=>exact bJ|succ n j=>exact ⟨by rw[aA7];(repeat' with_reducible first|intro _|apply dq|apply dh|refine dj (by omega) ?_|apply di|apply dk|apply df|apply eC|apply dr|apply dg)<;>first|grind -mbtc|grind -mbtc [azO]⟩
instance {d f a j g k b} :au (aCJ N d f a j g k b) (0<=f/\f<d.length/\(∀e,al d f=J e->az0 N e a j/\g.dO=e.dO)/\k=a.bo/\azO a b a.bo.bD/\b.length=a.bo.bD.length/\nq a.bo/\d.length<=1000000) λr=>r=ak:=⟨by rw[aCJ];(repeat' with_reducible first|intro _|apply dq|apply dh|refine dj (by omega) ?_|apply di|apply dk|apply df|apply eC|apply dr|apply dg)<;>first|grind -mbtc|(obtain ⟨e,q⟩:=hT (xs:=d) (i:=f) (by omega) (by omega);have h:=‹_/\_›;grind -mbtc [aGC])⟩
instance {d b n a} :au (aA8 d b n a) ((∀t∈b.aH,al d.aH t=J [])/\b.aH.length<=1000000/\0<=a/\a<=(b.aH.length:Int)/\(b.aH.length:Int) - a<n) λr=>r= .inl ():=by induction n generalizing a with|zero=>exact bJ|succ n f=>exact ⟨by rw[aA8];(repeat' with_reducible first|intro _|apply dq|apply dh|refine dj (by omega) ?_|apply di|apply dk|apply df|apply eC|apply dr|apply dg)<;>first|grind -mbtc|(obtain ⟨e,q⟩:=hT (xs:=b.aH) (i:=a) (by omega) (by omega);grind -mbtc)⟩
instance {a b f g d} :au (Nl N a b f g d) (0<=b/\b<a.length/\(∀o∈f.b2,o.c7.length<=1000000)/\f.b2.length<=1000000/\(d=aa->∀e,al a b=J e->az0 N e f g)/\nq f.bo/\a.length<=1000000) λr=>r= .inl ():=⟨by rw[Nl];(repeat' with_reducible first|intro _|apply dq|apply dh|refine dj (by omega) ?_|apply di|apply dk|apply df|apply eC|apply dr|apply dg)<;>first|grind -mbtc|(obtain ⟨e,q⟩:=hT (xs:=a) (i:=b) (by omega) (by omega);grind -mbtc)|(obtain ⟨e,q⟩:=hT (xs:=a) (i:=b) (by omega) (by omega);grind -mbtc [azO])⟩
instance {f a n d b} :au (Df N f a n d b) (oF f/\(∀e∈a,iW e)/\a.length<=1000/\0<=b/\b<=(a.length:Int)/\(a.length:Int) - b<n/\jr f d) λr=>r= .inl ():=by induction n generalizing d b with|zero=>exact bJ|succ n g=>exact ⟨by rw[Df];exact aC⟩
instance {a:List Int}:au (Rm 5000000001 a) (a.length=a.length) λr=>r=aa:=⟨by rw[Rm];(repeat' with_reducible first|intro _|apply dq|apply dh|refine dj (by omega) ?_|apply di|apply dk|apply df|apply eC|apply dr|apply dg)<;>first|grind -mbtc|((with_reducible repeat' apply oE)<;>first|grind -mbtc [nq]|(rename_i h _;exact Y7 (by grind -mbtc) h.2 (by simp[nq])))⟩
def aHv (x:List Int):Rm 5000000001 x=J aa:=by
 obtain ⟨a,b⟩:=au.ok (e:=Rm 5000000001 x) (by trivial);cases h:Rm 5000000001 x with
 |none=>exact absurd h a
 |some r=>rw[b r h]
def aHu (x:List Int):∃N,Rm N x=J aa:=⟨_,aHv x⟩
end Go.W
end
section
namespace Go.Proofs.YtekkhljfkiojiaaGreatDoor.yardProvesDone
open Go.ChangeShapes Go.WideShapes Go.ChangeAt Go.RowKit
open Go.ChangeMaps (open_string shut_string)
set_option maxRecDepth 20000
def own:ownKnob Tryz.prog.godebug=ae:=by kernel_rfl
def as8:laidOutB Tryz.prog=aa:=by kernel_rfl
def aqY {H:Type} {l:bV×af->H} {P:Program} {w:World} {a:Nat} {O:Nat->Bool} {d:Bool} {m:Nat} {t e:bV} {n:Nat} {k:List af} {zs:List (List UInt8)} {p:List MemPlace}
  (A:P.underlying t=J (.array n e)) (N:P.underlying e=J .string) (j:P.cellsOf e=1) (g:P.cellsOf t=n)
  (h:ua l P w a O d m t k=J (.agg (zs.map λz=> .lit (.string z)),p)) (i:Nat) (s:List UInt8) (r:zs[i]? =J s):k[i]? =J (.string ⟨s.toArray⟩):=by
 cases m with
 |zero=>simp[ua] at h
 |succ m=>
  simp only[ua,A,j,g,Nat.mul_one] at h;split at h
  ·obtain ⟨q,x,C⟩:=Option.map_eq_some_iff.1 h;have y:q.map (·.1)=zs.map λz=>(DataW.lit (.string z):DataW H):=by
    have:=congrArg Prod.fst C;simpa using this
   have E:q.length=n:=by simpa using Lib.mapM_length x
   have B:zs.length=n:=by have:=congrArg List.length y;simp at this;omega
   have K:i<n:=by have:=(List.getElem?_eq_some_iff.1 r).1;omega
   obtain ⟨b,F,L⟩:=Lib.mapM_at x i i (by simp[K]);obtain ⟨z,I,rfl,_⟩:=DataW.trod_string N L;have M:k[i]? =J (.string z):=by have:=congrArg (·[0]?) I;simpa[List.getElem?_take,List.getElem?_drop] using this
   have f:(q.map (·.1))[i]? =J (DataW.lit (.string z.data.toList):DataW H):=by simp[F]
   rw[y,List.getElem?_map,r] at f;simp only[Option.map_some,kB.injEq,DataW.lit.injEq,Lit.string.injEq] at f;rw[M,f]
  ·cases h
def avJ {W:World} (h:laidMetH Tryz.prog Rows.yardProvesRow.laid W):aF.rE Tryz.prog W where
 len:=λg bs=>by
  have s5 : Tryz.prog.globalNamed "internal/bytealg.MaxLen" = ae := by kernel_rfl
  rw[s5] at bs;cases bs
 pow:=λg bs=>by
  have s5 : Tryz.prog.globalNamed "internal/strconv.uint64pow10" = ae := by kernel_rfl
  rw[s5] at bs;cases bs
 P8:=λg bs n s bB=>by
  obtain ⟨cQ,⟨A5,eu,cs,lp,p,q,U7,oc,ao1,bg,_,_⟩,_⟩:=(h:laidMet Tryz.prog Rows.yardProvesRow.laid W)
  obtain rfl:=kB.inj (bs.symm.trans U7);have bR : Tryz.prog.globalNamed "humpyard/yardgen.dests" = J 0 := by kernel_rfl
  obtain rfl:=kB.inj (bR.symm.trans bs);have aoW:(Tryz.prog.globals[0]?).map (·.type)=J 160:=by kernel_rfl
  obtain rfl:=kB.inj (aoW.symm.trans oc);have:=aqY (t:=160) (e:=9) (n:=6) (zs:=aF.p2) (by kernel_rfl) Tryz.underlying9 (by kernel_rfl) (by kernel_rfl) bg n s bB;exact World.var?_cell bs ao1 n|>.symm▸(by simpa using this)
noncomputable def Wm (d:Os):World:=
 let b:=World.holding Tryz.prog d ⟨#[],#[],[]⟩
 {b with heap:=b.heap.modify 0 fun
  | .cells _ t a=> .cells (aF.p2.map λs=>af.string ⟨s.toArray⟩).toArray t a
  |o=>o}
def ar2 (a:Os):laidMet Tryz.prog Rows.yardProvesRow.laid ((Wm a).forCall (λ_ _=>0) ⟨#[],#[.slice ae 0 0],[]⟩).memory:=
 laidMet_of_run' 8 (by kernel_rfl) (by kernel_rfl)
def reads (b:Os) {H:Type} (a:bV×af->H):∃d,DataW.whole a Tryz.prog ((Wm b).forCall (λ_ _=>0) ⟨#[],#[.slice ae 0 0],[]⟩).memory Tryz.f6.params.toList Rows.yardProvesSpec.vars ak #[.slice ae 0 0].toList 8=J ([.nil],[],d):=
 ⟨[],by kernel_rfl⟩
set_option maxRecDepth 100000 in
def atj (r:Os) (f:r.Started) (H:Type) (d:bV×af->H) (F:Stop.Interp):
  ReturnsInHanded {} Tryz.checked r 6 .any ((Y1 Rows.yardProvesSpec).preRow d Tryz.prog Tryz.f6 Rows.yardProvesRow.domain ak Rows.yardProvesRow.laid) (((Y1 Rows.yardProvesSpec).at F).post d Tryz.prog Tryz.f6 ak aa ak ak):=by
 obtain ⟨pC,an⟩:=reads r d;refine returnsInHanded_of_row (C:=Tryz.checked) (s:=Y1 Rows.yardProvesSpec) own f (by kernel_rfl) Tryz.func6
  (witness_row_at (enc:=d) (C:=Tryz.checked) ak (Wm r) #[.slice ae 0 0] rfl (by kernel_rfl) (by kernel_rfl) (by kernel_rfl)
   (OpenSpec.preRow_of_cond 8 an (by kernel_rfl) (λk hk=>by cases hk) (by kernel_rfl) (ar2 r))) ?_
 intro W n b ds gs w g S _ _ _ B axG _;have Y:∀(j:Nat) t v,Tryz.f6.params[j]? =J t->b[j]? =J v->af.okWide Tryz.prog W .any n t v:=g;have I:=S;obtain ⟨p,q,l,E,rfl,wj,aye⟩:=S;have U:DataW.TrodAll d Tryz.prog W 0 (λ_=>aa) aa Tryz.f6.params.toList b.toList ds p:=l;rw[Tryz.params6] at U Y;obtain ⟨O,dB,d0,yD,u9,r7,uQ,rfl,rfl,Q,L⟩:=trodAll_cons U;obtain ⟨rfl,rfl,rfl⟩:=trodAll_nil L;obtain rfl:b=#[O]:=by cases b;simp_all
 obtain ⟨rfl,rfl⟩:=trodVars_none E;have V:=Q;have K:∀x∈u9,x.block<W.heap.size:=by obtain ⟨m,hm⟩:=V;exact DataW.trod_lt m _ _ _ hm
 obtain ⟨M,A,Z,ez⟩:=aF.asn (T:=Go.W.iq) (aF.po.conv (AN:=Go.W.iq) (aF.asD Tryz.underlying3 Tryz.type3 rfl) rfl rfl λz x cs h=>by obtain rfl:cs=[_]:=h;exact ⟨rfl,trivial⟩) Tryz.underlying22 (Y 0 22 O rfl rfl) Q;clear l g;obtain ⟨N,oM⟩:=Go.W.aHu A;have i:Go.W.aCs.call Go.W.cT (Go.W.aCh N) [.c (.bh 3 A)] [] (λdR _=>J dR)=Option.bind (Go.W.Rm N A) λy=>J (.c (.bool y)):=by kernel_rfl
 rw[oM] at i;have dE:aF.bP (aF.rel Go.W.cT.G (aF.ig W).blk []) [.c (.bh 3 A)] [O]:=⟨Z,trivial⟩
 refine ((aF.aqc (by kernel_rfl) (avJ B) ?_ (aF.gL.law (X:=Go.W.cT) (F:=Go.W.aCh N) (Go.W.aGa N) (aF.as' W) (aF.acB W) dE i))).mono λe TX ⟨he,P⟩=> ?_
 ·intro a R;simp only[List.mem_cons,List.not_mem_nil,or_false] at R;rcases R with rfl
  ·exact M
 ·subst he;exact ⟨_,rfl,_,_,_,[],_,[],I,trodAll_mk1 (shut_bool Tryz.underlying4 _),(trodAll_cons_mk (Below.trod as8 (by kernel_rfl) (of_decide_eq_true (by kernel_rfl)) V P K) trodAll_mk0),rfl,P.frame _,λh=>by cases h⟩
end Go.Proofs.YtekkhljfkiojiaaGreatDoor.yardProvesDone
end
