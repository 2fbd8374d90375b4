import Derived.Test.YtekkhljfkiojiaaGreatDoorRows
import Derived.WalkKit
import Derived.ProofKit
import Derived.OpenShut
import Derived.ShutString
import Derived.ChangeOld
import Derived.Below
import Derived.Deep.DeepHandedRow
import Derived.Lib.LaidTab
import Derived.Stop.LaidErr
import Derived.Shelf.Vars
import Derived.Test.YtekkhljfkiojiaaGreatDoorOf
set_option linter.defProp false
set_option linter.unusedSimpArgs false
set_option linter.unusedVariables false
set_option linter.unusedSectionVars false
open And renaming intro->oE
open Bool renaming false->ak,true->aa
open Go renaming TypeId->bV,Value->af
open Go.DataW renaming trod->ua
open Go.OpenSpec renaming ofChange->Y1
open List renaming mem_append->kU,mem_filter->aIv,mem_flatten->AD,mem_map->l2,nil_append->aLD,replicate->gb,sublist_flatten_of_mem->af4
open Option renaming some->kB,none->ae,some->J
namespace Go.W
set_option maxHeartbeats 2000000
open Go.aF
section
def aL9 {a A:List Int} {q:Int->Bool} (h:∀l∈a,0<=l):km a (A.filter q)<=km a A:=by
 have:=aL7 (A:=A.filter λi=> !q i) h;rw[aL8 (A:=A) (q:=q)];omega
def aLZ {T:List eE} {a:List Int} {s:List (List Int)} (V:iY T a s):∀l∈a,(0:Int)<=l:=λl m=>by have:=V.2.2 l m;omega
def aGW {a x:List Int}:az' a x []:=λk w i e=>by simp[al] at e
def aH8 {c:c8} {y:bq} {d:ct} {f b a:List Int} {j:b8} {e:Int} (P:jr c y)
  (D:d.items.length=f.length/\d.homes.length=y.b2.length/\(∀t∈d.aH,t.length<=40000)/\(∀w∈f,(∃u∈y.aH,w∈u)/\0<=w/\w<y.bD.length)/\yk y d.items f/\azO y d.items f) (S:azP f d.aH.flatten y.aH.flatten)
  (g:j.items.length=b.length/\b.length<=96/\(∀i∈b,0<=i/\i<d.items.length)/\(∀i∈j.items,0<=i.dS/\i.dS<d.homes.length)/\gu d/\az8 d.items j.items b/\j.dO=e) (K:b.Sublist d.aH.flatten)
  (G:(a.length=b.length/\(∀w∈a,w∈f)/\az' f b a)/\a=[]++(b.drop (0:Int).toNat).map (ayE f)):
  j.items.length=a.length/\a.length<=96/\(∀i∈j.items,0<=i.dS/\i.dS<y.b2.length)/\(∀i∈j.items,i.round=0)/\(∀i∈a,(∃u∈y.aH,i∈u)/\0<=i/\i<y.bD.length)/\a.Nodup/\azO y j.items a/\j.dO=e:=by
 have l:j.items.length=a.length:=by omega
 have I:azO y j.items a:=aGm D.2.2.2.2.2 g.2.2.2.2.2.1 G.1.2.2 g.1;have h:∀i∈a,(∃u∈y.aH,i∈u)/\0<=i/\i<y.bD.length:=λi m=>D.2.2.2.1 i (G.1.2.1 i m);refine ⟨l,by omega,λi m=> ?_,aER I l λi m=>(h i m).2,h, ?_,I,g.2.2.2.2.2.2⟩
 ·rw[<-D.2.1];exact g.2.2.2.1 i m
 ·have:=G.2;rw[Jn,aLD] at this;rw[this];exact P.2.2.1.1.2.2.1.1.sublist ((K.map _).trans S)
def aLF {y z:bq} (h:aID y) (e:z.b2=y.b2):aID z:=by unfold aID;rw[e];exact h
def aNM {x z:Step} {a:List Int} {j:b8} (P:jr x.c x.y) (Y:aIt x.c x.y) (B:aIP (λq=>q) x a j z) (I:azO x.y j.items a) (l:j.items.length=a.length) (A:x.e.aH.Nodup/\(∀t∈x.e.aH,t≠x.e.cq/\∀o∈x.y.b2,o.cq≠t)/\∀o∈x.y.b2,o.cq≠x.e.cq) (g:al x.y.aH x.e.cq=J a):aIt x.c z.y:=by
 have V:=P.2.2.1;have e:z.y.aH=x.y.aH:=by rw[B.1]
 refine ⟨aLF Y.1 (by rw[B.1]),λ_ _=> ?_⟩;exact aMg (s:=z.y.aH) (p:=a) B (V.1.2.2.1.1.sublist (af4 (lP g))) I l (λi m=>by have:=ZC V.1 g m;simpa[lens] using this) A (by rw[e];exact g) (λw m=>m) λo m q h=>⟨q,by rw[<-e];exact h,aL9 (aLZ V)⟩
def aNx {x z:Step} {a:List Int} {j:b8} {l:List cn} {q:List (List Int)} (P:jr x.c x.y) (Y:aIt x.c x.y) (B:aIP (λq=>q.filter λi=> !decide (i∈a)) x a j z) (I:azO x.y j.items a) (E:j.items.length=a.length) (N:a.Nodup) (F:∀i∈a,0<=i/\i<x.y.bD.length) (A:x.e.aH.Nodup/\(∀t∈x.e.aH,t≠x.e.cq/\∀o∈x.y.b2,o.cq≠t)/\∀o∈x.y.b2,o.cq≠x.e.cq)
  (R:aAe x.c.aH (lens x.y.bD) l x.y.aH q) (n:0<=x.e.cq/\x.e.cq<x.y.aH.length) (b:(l.map λm=>m.hX)=a) (r:∀m∈l,m.to=x.e.cq) {y:bq} (K:y=bq.mk z.y.bD q z.y.b2 z.y.busy z.y.bo z.y.cE):aIt x.c y:=by
 have V:=P.2.2.1;have S:aIJ x.y.aH l q:=aLH (l1:=[]) R V aLG (by rw[aLD,b];exact N) λm k=>by rw[r m k];exact n.1
 subst K;refine ⟨aLF Y.1 (by dsimp only;rw[B.1]),λ_ _=> ?_⟩;obtain ⟨p,f⟩:=hT n.1 n.2;refine aMg B N I E F A (S _ _ f) (λw m=>kU.mpr (.inr ?_)) λo m L h=> ?_
 ·rw[<-b] at m;obtain ⟨s,k,rfl⟩:=l2.mp m;exact l2.mpr ⟨s,aIv.mpr ⟨k,decide_eq_true (r s k)⟩,rfl⟩
 ·have d:=P.2.2.2.2.2.1 o m;obtain ⟨H,C⟩:=hT (xs:=x.y.aH) d.1 d.2.1;refine ⟨H,C, ?_⟩;rw[S _ _ C] at h;have z:(l.filter λm=>decide (m.to=o.cq))=[]:=by
   rw[List.filter_eq_nil_iff];intro s k;simp only[decide_eq_true_eq];rw[r s k];exact λg=>A.2.2 o m g.symm
  rw[z,b] at h;simp only[List.map_nil,List.append_nil,kB.injEq] at h;subst h;have e:(λi=>decide (i∉a))=λi=> !decide (i∈a):=by funext i;simp
  rw[e];exact aL9 (aLZ V)
variable {N:Nat} [gM N]
instance (priority:=high) {a} :au (Sj N a) (jr a.c a.y/\iW a.e/\a.r.vv=[]/\aIt a.c a.y) λr=>(r.1=0->rr a r.2)/\(r.1=0->aIt a.c r.2.y):=⟨λd=>azU (au.ok (e:=Sj N a) (by grind -mbtc)) (by revert d;rw[Sj];(repeat' with_reducible first|intro _|apply dq|apply dh|refine dj (by omega) ?_|apply di|apply dk|apply df|apply eC|apply dr|apply dg)<;>first|grind -mbtc|grind -mbtc [azO]|(rename_i g b f z;have B:=f.2 z;exact aNM (by grind -mbtc) (by grind -mbtc) B (by grind -mbtc) (by grind -mbtc) (by grind -mbtc) (by grind -mbtc)))⟩
instance (priority:=high) {d a g n f b} :au (aIN N d a g n f b) ((∀i∈a,i∈d.y.aH.flatten)/\0<=d.e.cq/\d.y.aH.length<=24/\(∀t∈d.y.aH,t.length<=1000000)/\a.length<=1000000/\g=a.length/\0<=b/\b<=g/\g - b<n/\f.length<=b/\(∀s∈f,uc a s)/\(∀s∈f,s.to=d.e.cq)) λr=>(r.length<=a.length/\∀s∈r,uc a s)/\(∀s∈r,s.to=d.e.cq)/\(r.map λm=>m.hX)=(f.map λm=>m.hX)++a.drop b.toNat:=by induction n generalizing f b with|zero=>exact bJ|succ n j=>exact ⟨λh=>azU (au.ok (e:=aIN N d a g (n+1) f b) (by grind -mbtc)) (by revert h;rw[aIN];(repeat' with_reducible first|intro _|apply dq|apply dh|refine dj (by omega) ?_|apply di|apply dk|apply df|apply eC|apply dr|apply dg)<;>first|grind -mbtc|grind -mbtc [uc])⟩
instance (priority:=high) {d U p O} :au (HE N d U p O) (jr d.c d.y/\d.e.aH.length<=100/\0<=d.e.cq/\d.e.cq<d.c.aH.length/\(∀t∈d.e.aH,0<=t/\t<d.c.aH.length)/\p.items.length=U.length/\U.length<=1000/\(∀i∈p.items,0<=i.dS/\i.dS<d.y.b2.length)/\(∀i∈U,nV d.y i)/\(∀i∈U,(∃u∈d.y.aH,i∈u)/\0<=i/\i<d.y.bD.length)/\U.Nodup/\azO d.y p.items U/\((d.e.aH.Nodup/\(∀t∈d.e.aH,t≠d.e.cq/\∀o∈d.y.b2,o.cq≠t)/\∀o∈d.y.b2,o.cq≠d.e.cq))/\aIt d.c d.y/\O.length<=1000000) λr=>(r.1=0->rr d r.2)/\(r.1=0->aIt d.c r.2.y):=⟨λcp=>azU (au.ok (e:=HE N d U p O) (by grind -mbtc)) (by revert cp;rw[HE];(repeat' with_reducible first|intro _|apply dq|apply dh|refine dj (by omega) ?_|apply di|apply dk|apply df|apply eC|apply dr|apply dg)<;>first|grind -mbtc|((with_reducible repeat' apply oE)<;>first|grind -mbtc|(rename_i h y yG aZ M l hu K el Z L Q Y I cC S x f;obtain ⟨g,hV,T,h1,A,k,H,rS,C,P,w,j,V,X,_⟩:=h;have a:=x.1 (by simpa using f);dsimp only at a;intro i m;rw[a.2.2.2.2.1];exact AD.mpr (P i m).1))|(rename_i h y yG aZ M l hu K el Z L Q Y I cC S x f cy E R du F n z;obtain ⟨g,hV,T,h1,A,k,H,rS,C,P,w,j,V,X,_⟩:=h;have a:=x.1 (by simpa using f);have B:=x.2 (by simpa using f);have b:=n.1 z;clear x n S E F el Q l;dsimp only at a b;have m:=b.2.2.2.2.2.2;rw[a.1,a.2.2.2.1,a.2.2.2.2.1] at m;have t2:d.y.aH.length=d.c.aH.length:=g.2.2.1.1.1;exact aNx g X B j k w (λi m=>(P i m).2) V (aEV m).2 ⟨T,by omega⟩ (by have:=R.2.2;simpa[Jn] using this) (λs q=>by rw[R.2.1 s q,a.2.1]) b.2.2.1))⟩
instance (priority:=high) {a f t} :au (Rz N a f t) (jr a.c a.y/\iW a.e/\t.length<=1000/\f=[]/\a.r.vv=[]/\aIt a.c a.y/\f.length<=1000000) λr=>(r.1=0->rr a r.2)/\(r.1=0->aIt a.c r.2.y):=⟨λE=>azU (au.ok (e:=Rz N a f t) (by grind -mbtc)) (by revert E;rw[Rz];(repeat' with_reducible first|intro _|apply dq|apply dh|refine dj (by omega) ?_|apply di|apply dk|apply df|apply eC|apply dr|apply dg)<;>first|grind -mbtc|grind -mbtc [aIt,aID]|((with_reducible repeat' apply oE)<;>first|grind -mbtc|exact aGW)|(rename_i h x y e Q n I A S U L F d j M k z H T O l g b P p C B q s;have R:=aH8 h.1 (d.1 (by simpa using j)) (d.2 (by simpa using j)) (g.1 (by simpa using b)) (g.2 (by simpa using b)) s;have K:=afY (d.1 (by simpa using j)).2.2.2.2.1 (d.1 (by simpa using j)).1 (λi m=>((g.1 (by simpa using b)).2.2.2.2.1.2.2.2.1 i m).1);have w:∀i∈B,nV a.y i:=λi m=>K i (s.1.2.1 i m);clear e A F k l p q z;rw[C.1];clear d g s;dsimp only[He] at*;(with_reducible repeat' apply oE)<;>grind -mbtc))⟩
end
section
def aMa {T:List eE} {d:List Int} {q:List (List Int)} {t i:Int}:∀{l:List cn} {s:List (List Int)} {p:List Int},aAe T d l s q->iY T d s->(∀m∈l,0<=m.to/\m.hX≠i)->al s t=J p->i∈p->∃f,al q t=J f/\i∈f
 |[],s,p,R,V,h,e,k=>⟨p,(R:s=q)▸e,k⟩
 |m::l,s,p,⟨u,F,a,R⟩,V,h,e,k=>by have b:=h m (by simp);refine aMa R a (λg z=>h g (by simp[z])) (aGM V F b.1 e) (kU.mpr (.inl (aIv.mpr ⟨k, ?_⟩)));simpa using λz=>b.2 z.symm
def aM5 {d:Type} {a b:List d} {i:Int} {v:d} (e:al a i=J v):al (a++b) i=J v:=by
 have l:=ku e;unfold al at e⊢;rw[if_pos l.1] at e⊢;rw[List.getElem?_append_left (by omega)];exact e
def aMJ {c:c8} {y z:bq} {b:List bC} (B:Yw c y) (hw:z.bD=y.bD++b) (aM:z.b2=y.b2) (bb:z.bo=y.bo) (H:nW y) (V:oJ c.aH (lens y.bD) y.aH) (aIR:∀l∈lens y.bD,(0:Int)<=l) (O:∀o∈y.b2,0<=o.cq/\o.cq<y.aH.length)
  (agJ:∀w∈y.bo.bD,∀t p,al y.aH t=J p->w∈p->∃qj,al z.aH t=J qj/\w∈qj) (aik:∀o∈y.b2,∀ka,al z.aH o.cq=J ka->ka.Nodup/\∀q,al y.aH o.cq=J q->∀i∈ka,i∈q):Yw c z:=by
 have aMB:∀w∈y.bo.bD,aIw z w=aIw y w:=λw m=>by obtain ⟨v,e,_⟩:=H w m;unfold aIw;rw[hw,aM5 e,e,aM]
 have aNd:∀w∈y.bo.bD,aIB z w=aIB y w:=λw m=>by unfold aIB;rw[aMB w m,aM]
 have aNP:∀w∈y.bo.bD,∀m,aIu z w m=aIu y w m:=λw k m=>by unfold aIu;rw[bb,aNd w k]
 have rg:∀w∈y.bo.bD,0<=w/\w<(lens y.bD).length:=λw m=>by obtain ⟨v,e,_⟩:=H w m;have:=ku e;simpa[lens] using this
 obtain ⟨js,jR,Jc,aw',aG4⟩:=B;refine ⟨by rw[bb];exact js,by rw[bb,aM];exact jR,λw m=> ?_,λdJ t x e f=> ?_,λk o x q e f g=> ?_⟩
 ·rw[bb] at m;obtain ⟨p,e,k⟩:=Jc w m;obtain ⟨qj,cz,k'⟩:=agJ w m _ p e k;refine ⟨qj, ?_,k'⟩;have:aIC z w=aIC y w:=by unfold aIC;rw[bb];split;rfl;exact aNP w m _
  rw[this];exact cz
 ·rw[bb] at e⊢;rw[hw,ayA,af1 λi m=>rg i (aIv.mp m).1];exact aw' dJ t x e f
 ·rw[aM] at e;have abL:=O o (lP e);obtain ⟨r7,eV⟩:=hT (xs:=y.aH) abL.1 abL.2;have t2:=aik o (lP e) q g;have:=aG4 k o x r7 e f eV;rw[bb,hw,ayA,af1 λi m=>rg i (aIv.mp m).1];have dv:(y.bo.bD.filter λw=>decide (aIw z w=k))=y.bo.bD.filter λw=>decide (aIw y w=k):=List.filter_congr λw m=>by rw[aMB w m]
  have avC:∀i∈q,0<=i/\i<(lens y.bD).length:=λi m=>ZC V eV (t2.2 r7 eV i m);rw[af1 λi m=>avC i (aIv.mp m).1,dv];have:=aI8 aIR (A:=q.filter λi=> !decide (i∈y.bo.bD)) (B:=r7.filter λi=> !decide (i∈y.bo.bD)) (t2.1.filter _) λi m=>by have m:=aIv.mp m;exact aIv.mpr ⟨t2.2 r7 eV i m.1,m.2⟩
  omega
def aMZ {c:c8} {y z:bq} {b:List bC} {l:List cn} {t:Int} (P:jr c y) (Y:aIt c y) (d:z=bq.mk (y.bD++b) z.aH y.b2 y.busy y.bo y.cE) (M:az1 c.aH (lens (y.bD++b)) l y.aH z.aH) (h:iY c.aH (lens (y.bD++b)) z.aH) (x:∀s∈l,s.to=t/\y.bD.length<=s.hX) (F:0<=t) (E:∀o∈y.b2,o.cq≠t):aIt c z:=by
 have V:=P.2.2.1;have j:iY c.aH (lens (y.bD++b)) y.aH:=⟨by rw[ayA];exact aw7 V.1,h.2⟩
 have m:=aEV M;have L:z.busy=y.busy:=by rw[d]
 have K:z.cE=y.cE:=by rw[d]
 refine ⟨aLF Y.1 (by rw[d]),λA a=> ?_⟩;rw[L] at A;rw[K] at a;have H:=(P.2.2.2.2.2.2.1 A a).2;refine aMJ (b:=b) (Y.2 A a) (by rw[d]) (by rw[d]) (by rw[d]) H V.1 (aLZ V) (λo k=>⟨(P.2.2.2.2.2.1 o k).1,(P.2.2.2.2.2.1 o k).2.1⟩) (λw k N p e g=> ?_) λo k Q e=>⟨h.1.2.2.1.1.sublist (af4 (lP e)),λq f i g=> ?_⟩
 ·obtain ⟨v,I,_⟩:=H w k;have O:=ku I;exact aMa m.2 j (λs n=>⟨by rw[(x s n).1];exact F,by have:=(x s n).2;omega⟩) e g
 ·rcases m.1.2 _ _ e i g with ⟨p,B,C⟩|⟨s,n,_,r⟩
  ·rw[f] at B;cases B;exact C
  ·exact absurd (r.symm.trans (x s n).1) (E o k)
variable {N:Nat} [gM N]
instance (priority:=high) {f e d n b a} :au (aCT f e d n b a) (0<=f/\d<=1000/\0<=e/\e<=1000/\0<=a/\a<=d/\d - a<n/\b.length<=a) λr=>r.length<=1000/\lo r=lo b+(d - a)/\∀s∈r,s∈b\/(s.front=ak/\s.to=f/\e<=s.hX):=by induction n generalizing b a with|zero=>exact bJ|succ n g=>exact ⟨by rw[aCT];exact aC⟩
instance (priority:=high) {a d l} :au (Aa N a d l) (jr a.c (bq.mk d a.y.aH a.y.b2 a.y.busy a.y.bo a.y.cE)/\a.e.data.length<=1000000/\aIt a.c (bq.mk d a.y.aH a.y.b2 a.y.busy a.y.bo a.y.cE)/\d.length<=1000000/\l.length<=1000000) λr=>(r.1=0->rr (Step.mk a.c (bq.mk d a.y.aH a.y.b2 a.y.busy a.y.bo a.y.cE) a.e a.r) r.2)/\(r.1=0->aIt a.c r.2.y):=⟨λf=>azU (au.ok (e:=Aa N a d l) (by grind -mbtc)) (by revert f;rw[Aa];(repeat' with_reducible first|intro _|apply dq|apply dh|refine dj (by omega) ?_|apply di|apply dk|apply df|apply eC|apply dr|apply dg)<;>first|grind -mbtc|(rename_i f L R h1 M Y mX O p P H Q x E k C A S n5 V I K U j F T B h X w i Z n g z;have g:=g z;subst h j;exact aMZ (b:=C.1) (t:=a.e.cq) f.1 f.2.2.1 g.2.2.1 g.2.2.2.2.2.2 g.2.2.2.2.1 (λs m=>by rcases i.2.2 s m with q|q;exact absurd q (by simp);exact ⟨q.2.1,q.2.2⟩) (by grind -mbtc) (E (by simpa using k))))⟩
instance (priority:=high) {b a d} :au (aD1 b a d) (True) λr=>r=ak->a.cq≠b.cq:=⟨by rw[aD1];exact aC⟩
instance (priority:=high) {f d e n b} :au (aBY N f d e n b) (f.c7.length<=1000000/\(∀o∈d,o.c7.length<=1000000)/\d.length<=1000000/\e=d.length/\0<=b/\b<=e/\e - b<n) λr=>iX r (λ_=>∀o∈d.drop b.toNat,o.cq≠f.cq)/\fh r λa=>a≠0:=by induction n generalizing b with|zero=>exact bJ|succ n g=>exact ⟨by rw[aBY];exact aC⟩
instance (priority:=high) {a b} :au (R1 N a b) (jr a.c (bq.mk a.y.bD a.y.aH b a.y.busy a.y.bo a.y.cE)/\iW a.e/\aIt a.c (bq.mk a.y.bD a.y.aH b a.y.busy a.y.bo a.y.cE)/\b.length<=1000000) λr=>(r.2.2=vz a/\(r.1=0->jr a.c (bq.mk a.y.bD a.y.aH r.2.1 a.y.busy a.y.bo a.y.cE)))/\(r.1=0->aIt a.c (bq.mk a.y.bD a.y.aH r.2.1 a.y.busy a.y.bo a.y.cE)):=⟨λd=>azU (au.ok (e:=R1 N a b) (by grind -mbtc)) (by revert d;rw[R1];(repeat' with_reducible first|intro _|apply dq|apply dh|refine dj (by omega) ?_|apply di|apply dk|apply df|apply eC|apply dr|apply dg)<;>first|grind -mbtc|grind -mbtc [aIt,aID])⟩
instance (priority:=high) {a b} :au (Si N a b) (jr a.c a.y/\aIt a.c a.y/\b.length<=1000000) λr=>(r.1=0->rr a r.2)/\(r.1=0->aIt a.c r.2.y):=⟨λd=>azU (au.ok (e:=Si N a b) (by grind -mbtc)) (by revert d;rw[Si];(repeat' with_reducible first|intro _|apply dq|apply dh|refine dj (by omega) ?_|apply di|apply dk|apply df|apply eC|apply dr|apply dg)<;>first|grind -mbtc|grind -mbtc [aIt,aID])⟩
instance (priority:=high) {a b d} :au (Rx N a b d) (jr a.c (bq.mk a.y.bD a.y.aH b a.y.busy a.y.bo a.y.cE)/\oF a.c/\a.r.final.bD=[]/\aIt a.c (bq.mk a.y.bD a.y.aH b a.y.busy a.y.bo a.y.cE)/\b.length<=1000000/\d.length<=1000000) λr=>(r.1=0->rr (Step.mk a.c (bq.mk a.y.bD a.y.aH b a.y.busy a.y.bo a.y.cE) a.e a.r) r.2)/\(r.1=0->aIt a.c r.2.y):=⟨λf=>azU (au.ok (e:=Rx N a b d) (by grind -mbtc)) (by revert f;rw[Rx];(repeat' with_reducible first|intro _|apply dq|apply dh|refine dj (by omega) ?_|apply di|apply dk|apply df|apply eC|apply dr|apply dg)<;>first|grind -mbtc|grind -mbtc [aIt,aID,List.eraseIdx_sublist])⟩
end
section
def aI' (y z:bq):Prop:=z.cE=ak/\(y.bo.h9<y.bo.proof.e9.steps->z.busy=aa/\z.bD=y.bD/\z.b2=y.b2/\z.bo=eR.mk y.bo.bD y.bo.iP y.bo.proof y.bo.lead y.bo.aH (y.bo.h9+1))/\(y.bo.proof.e9.steps<=y.bo.h9->z.busy=ak/\aI7 y z)
variable {N:Nat} [gM N]
instance (priority:=high) {a d b f g} :au (S5 N a d b f g) (jr a.c (bq.mk d a.y.aH b a.y.busy a.y.bo a.y.cE)/\oF a.c/\iW a.e/\a.r.final.bD=[]/\a.r.vv=[]/\f=[]/\g=[]/\aIt a.c (bq.mk d a.y.aH b a.y.busy a.y.bo a.y.cE)/\d.length<=1000000/\b.length<=1000000/\f.length<=1000000/\g.length<=1000000) λr=>(r.1=0->rr (Step.mk a.c (bq.mk d a.y.aH b a.y.busy a.y.bo a.y.cE) a.e a.r) r.2)/\(r.1=0->aIt a.c r.2.y)/\(a.e.kind=4->a.y.busy=aa->a.y.cE=ak->a.e.hD=[]->r.1=0/\r.2.r.err=a.r.err/\aI' (bq.mk d a.y.aH b a.y.busy a.y.bo a.y.cE) r.2.y):=⟨λh=>azU (au.ok (e:=S5 N a d b f g) (by grind -mbtc)) (by revert h;rw[S5];(repeat' with_reducible first|intro _|apply dq|apply dh|refine dj (by omega) ?_|apply di|apply dk|apply df|apply eC|apply dr|apply dg)<;>first|grind -mbtc|grind -mbtc [aI']|((with_reducible repeat' apply oE)<;>grind -mbtc [aI']))⟩
instance (priority:=high) {f U i} :au (rl N f U i) (jr f U/\oF f/\iW i/\aIt f U) λr=>Ts f U r/\aIt f r.1/\(i.kind=4->U.busy=aa->U.cE=ak->i.hD=[]->r.2.err=0/\aI' U r.1):=⟨λp=>azU (au.ok (e:=rl N f U i) (by grind -mbtc)) (by revert p;rw[rl];(repeat' with_reducible first|intro _|apply dq|apply dh|refine dj (by omega) ?_|apply di|apply dk|apply df|apply eC|apply dr|apply dg)<;>first|grind -mbtc|((with_reducible repeat' apply oE)<;>first|grind -mbtc|(rename_i g y e h;obtain ⟨k,d,m⟩:=h;dsimp only;rw[k,d,m];first|exact g.1|exact g.2.2.2)|(rename_i g y e h q s k n l j d;obtain ⟨a,b,c⟩:=d;dsimp only;rw[a,b,c];exact g.2.2.2)|(rename_i g y e h l j d n;clear j;obtain ⟨a,b,c⟩:=h;rw[a,b,c] at d;dsimp only at d⊢;(try intros);exact (d.2.2 (by assumption) (by assumption) (by assumption) (by assumption)).2)))⟩
end
section
set_option maxRecDepth 100000
def afg:S8 5000000001=J aa:=by kernel_rfl
end
section
attribute [grind->] afO
def Y7 {c:c8} {y:bq} {p:eR} (h:oF c) (e:y=bq.mk [] (gb c.aH.length []) [] ak p ak) (k:nq p):jr c y:=by
 subst e;obtain ⟨f,j,_,_,_,_,a,_⟩:=h;have n:∀{k:Int} {t:List Int},al (gb c.aH.length ([]:List Int)) k=J t->t=[]:=λg=>List.eq_of_mem_replicate (lP g);refine ⟨λt m=> ?_,f,⟨⟨by simp,by omega,⟨by simp,by simp⟩,λk x t d b=> ?_⟩,by simp[lens],by simp[lens]⟩,by simp,by simp,by simp,nofun,nofun,k⟩
 ·obtain ⟨i,g⟩:=uL m;exact (a i t g).2
 ·rw[n b,YS];have:=(a k x d).2.1;omega
instance:gM 5000000001:=⟨by omega⟩
instance:au (S8 5000000001) True λr=>r=aa:=⟨λ_=>⟨by rw[afg];nofun,λr e=>by rw[afg] at e;exact (kB.inj e).symm⟩⟩
def aMK {c:c8} {y:bq} {p:eR} {s:List (List Int)} (e:y=bq.mk [] s [] ak p ak):aIt c y:=by
 subst e;exact ⟨by simp[aID],nofun⟩
theorem aML:iW (eb.mk 4 0 0 0 0 [] [] (b7.mk [] 0 []) [] []):=by simp[iW]
attribute [grind .] aML
def aKh (s:List (List Int)) (w a:Int):Prop:=(a= -1/\w∉s.flatten)\/∃t,al s a=J t/\w∈t
theorem aMe {s:List (List Int)} {w:Int} (h:w∉s.flatten):aKh s w (-1):= .inl ⟨rfl,h⟩
theorem aMY {s:List (List Int)} {w a i:Int} {t:List Int} (h:al s a=J t) (k:al t i=J w):aKh s w a:= .inr ⟨t,h,lP k⟩
attribute [grind .] aMe
attribute [grind->] aMY
def aJ7 (y:bq) (w:Int):Prop:=nV y w/\∃q,al y.aH (aIB y w)=J q/\w∈q
theorem aMN {c:c8} {y z:bq} (P:jr c y) (b:y.busy=aa) (f:y.cE=ak) (F:aI7 y z):∀w∈y.bo.bD,aJ7 z w:=λw m=>by
 have H:=(P.2.2.2.2.2.2.1 b f).2 w m;obtain ⟨a,e,k⟩:=F;have o:aIB z w=aIB y w:=by unfold aIB aIw;rw[a,e]
 refine ⟨?_,by rw[o];exact k w m⟩;unfold nV at*;rw[a,e];exact H
def aLE (y:bq):Prop:=y.aH.flatten.Nodup
theorem aM2 {y:bq} {w a:Int} {v:bC} (F:aJ7 y w) (e:al y.bD w=J v) (N:aLE y) (W:aKh y.aH w a):∃o,al y.b2 (az6 y.b2 v.dest 0).1=J o/\a=o.cq:=by
 obtain ⟨o,i,f⟩:=aJa F.1;obtain ⟨q,b,d⟩:=F.2;have t:aIw y w=(az6 y.b2 v.dest 0).1:=by unfold aIw;rw[e]
 refine ⟨o,by rw[<-t];exact i, ?_⟩;rcases W with ⟨_,n⟩|⟨p,g,h⟩
 ·exact absurd (AD.mpr ⟨q,lP b,d⟩) n
 ·rw[<-f];exact aHm N g b h d
theorem aMU {y z:bq} (h:aI' y z):z.cE=ak/\(y.bo.h9<y.bo.proof.e9.steps->z.busy=aa/\z.bD=y.bD/\z.b2=y.b2/\z.bo=eR.mk y.bo.bD y.bo.iP y.bo.proof y.bo.lead y.bo.aH (y.bo.h9+1))/\(y.bo.proof.e9.steps<=y.bo.h9->z.busy=ak/\aI7 y z):=h
attribute [grind->] aMU aMN
theorem aMM {y:bq} {w:Int} (h:aJ7 y w):0<=w/\w<y.bD.length:=by obtain ⟨⟨v,e,_⟩,_⟩:=h;exact ku e
attribute [grind->] aMM
def aMS {c:c8} {y:bq} (P:jr c y) (b:y.busy=aa) (f:y.cE=ak):0<=y.bo.h9/\y.bo.h9<=y.bo.proof.e9.steps/\y.bo.proof.e9.steps<=1000000/\y.bo.bD.length<=1000:=by
 obtain ⟨h,d,a,e,g,_⟩:=(P.2.2.2.2.2.2.1 b f).1;omega
theorem aMT {c:c8} {y:bq} (P:jr c y):aLE y:=P.2.2.1.1.2.2.1.1
attribute [grind->] aMT
variable {N:Nat} [gM N]
instance {a} :au (Al a) (a.length=a.length) λr=>r.n=0:=⟨by rw[Al];exact aC⟩
instance (priority:=high) {b U f n d} :au (GP b U f n d) (0<=f/\f<b.length/\(∀t∈b,t.length<=1000000)/\b.length<=1000000/\0<=d/\(∀t,al b f=J t->d<=t.length/\t.length - d<n)) λr=>iX r (λ_=>∃t,al b f=J t/\U∉t.drop d.toNat)/\fh r λa=>∃t,al b a.1=J t/\al t a.2=J U:=by induction n generalizing d with|zero=>exact ⟨λh=>by obtain ⟨t,e⟩:=hT (xs:=b) (i:=f) (by omega) (by omega);exfalso;grind -mbtc⟩|succ n g=>exact ⟨by rw[GP];exact aC⟩
instance (priority:=high) {b U n d} :au (GO N b U n d) ((∀t∈b,t.length<=1000000)/\b.length<=1000/\0<=d/\d<=(b.length:Int)/\(b.length:Int) - d<n) λr=>iX r (λ_=>U∉(b.drop d.toNat).flatten)/\fh r λa=>∃t,al b a.1=J t/\al t a.2=J U:=by induction n generalizing d with|zero=>exact bJ|succ n e=>exact ⟨by rw[GO];exact aC⟩
instance (priority:=high) {a U} :au (H3 N a U) ((∀t∈a,t.length<=1000000)/\a.length<=1000) λr=>aKh a U r.1:=⟨by rw[H3];(repeat' with_reducible first|intro _|apply dq|apply dh|refine dj (by omega) ?_|apply di|apply dk|apply df|apply eC|apply dr|apply dg)<;>first|grind -mbtc|(rename_i h;exact aMe (by simpa[Jn] using h.1))⟩
instance {a} :au (aKx a) (a.aH.length=a.aH.length) λr=>r=ak->a.busy=aa/\a.cE=ak:=⟨by rw[aKx];exact aC⟩
instance {a d b e} :au (aKy a d b e) (e.err=0/\d<=a.proof.e9.steps/\b.cE=ak) λr=>r=ak:=⟨by rw[aKy];exact aC⟩
instance {a b d} :au (aKz a b d) (∃o,al a.b2 b=J o/\d=o.cq) λr=>r=ak:=⟨by rw[aKz];exact aC⟩
instance {b a n d} :au (aJm N b a n d) ((∀w∈b.bD,aJ7 a w)/\b.bD.length<=1000/\a.aH.length<=1000/\(∀t∈a.aH,t.length<=1000000)/\(∀o∈a.b2,o.c7.length<=1000000)/\a.b2.length<=1000000/\aLE a/\0<=d/\d<=(b.bD.length:Int)/\(b.bD.length:Int) - d<n) λr=>r= .inl ():=by induction n generalizing d with|zero=>exact bJ|succ n e=>exact ⟨by rw[aJm];(repeat' with_reducible first|intro _|apply dq|apply dh|refine dj (by omega) ?_|apply di|apply dk|apply df|apply eC|apply dr|apply dg)<;>first|grind -mbtc|grind -mbtc [aM2]⟩
instance {d a n b e} :au (aJl N d a n b e) (oF d/\jr d b/\aIt d b/\b.busy=aa/\b.cE=ak/\b.bo=eR.mk a.bD a.iP a.proof a.lead a.aH e/\a.proof.e9.steps - e<n) λr=>r= .inl ():=by induction n generalizing b e with|zero=>exact bJ|succ n f=>exact ⟨by rw[aJl];exact aC⟩
instance {a d f g} :au (aKw N a d f g) (oF a/\(∀e∈d,iW e)/\d.length<=1000/\jr a f/\aIt a f/\0<=g/\g<d.length) λr=>iX r (λy=>jr a y/\aIt a y)/\fh r λ_=>False:=⟨by rw[aKw];(repeat' with_reducible first|intro _|apply dq|apply dh|refine dj (by omega) ?_|apply di|apply dk|apply df|apply eC|apply dr|apply dg)<;>first|grind -mbtc|(rename_i h _ _ _ _ _ s _ _ b _;have P:=aMS s.1.1 (b (by grind -mbtc)).1 (b (by grind -mbtc)).2;grind -mbtc)⟩
instance {f a n d b} :au (aAY N f a n d b) (oF f/\(∀e∈a,iW e)/\a.length<=1000/\0<=b/\b<=(a.length:Int)/\(a.length:Int) - b<n/\jr f d/\aIt f d) λr=>r= .inl ():=by induction n generalizing d b with|zero=>exact bJ|succ n g=>exact ⟨by rw[aAY];exact aC⟩
instance {a:List Int}:au (Hn 5000000001 a) (a.length=a.length) λr=>r=aa:=⟨by rw[Hn];(repeat' with_reducible first|intro _|apply dq|apply dh|refine dj (by omega) ?_|apply di|apply dk|apply df|apply eC|apply dr|apply dg)<;>first|grind -mbtc|((with_reducible repeat' apply oE)<;>first|grind -mbtc [nq]|(rename_i h _;first|exact Y7 (by grind -mbtc) h.2 (by simp[nq])|exact aMK h.2|trace_state))⟩
def aM4 (x:List Int):Hn 5000000001 x=J aa:=by
 obtain ⟨a,b⟩:=au.ok (e:=Hn 5000000001 x) (by trivial);cases h:Hn 5000000001 x with
 |none=>exact absurd h a
 |some r=>rw[b r h]
def aM3 (x:List Int):∃N,Hn N x=J aa:=⟨_,aM4 x⟩
end
end Go.W
section
namespace Go.Proofs.YtekkhljfkiojiaaGreatDoor.yardFinishesDone
open Go.ChangeShapes Go.WideShapes Go.ChangeAt Go.RowKit
open Go.ChangeMaps (open_string shut_string)
set_option maxRecDepth 20000
def own:ownKnob Tryz.prog.godebug=ae:=by kernel_rfl
def as8:laidOutB Tryz.prog=aa:=by kernel_rfl
def aqY {H:Type} {l:bV×af->H} {P:Program} {w:World} {a:Nat} {O:Nat->Bool} {d:Bool} {m:Nat} {t e:bV} {n:Nat} {k:List af} {zs:List (List UInt8)} {p:List MemPlace}
  (A:P.underlying t=J (.array n e)) (N:P.underlying e=J .string) (j:P.cellsOf e=1) (g:P.cellsOf t=n)
  (h:ua l P w a O d m t k=J (.agg (zs.map λz=> .lit (.string z)),p)) (i:Nat) (s:List UInt8) (r:zs[i]? =J s):k[i]? =J (.string ⟨s.toArray⟩):=by
 cases m with
 |zero=>simp[ua] at h
 |succ m=>
  simp only[ua,A,j,g,Nat.mul_one] at h;split at h
  ·obtain ⟨q,x,C⟩:=Option.map_eq_some_iff.1 h;have y:q.map (·.1)=zs.map λz=>(DataW.lit (.string z):DataW H):=by
    have:=congrArg Prod.fst C;simpa using this
   have E:q.length=n:=by simpa using Lib.mapM_length x
   have B:zs.length=n:=by have:=congrArg List.length y;simp at this;omega
   have K:i<n:=by have:=(List.getElem?_eq_some_iff.1 r).1;omega
   obtain ⟨b,F,L⟩:=Lib.mapM_at x i i (by simp[K]);obtain ⟨z,I,rfl,_⟩:=DataW.trod_string N L;have M:k[i]? =J (.string z):=by have:=congrArg (·[0]?) I;simpa[List.getElem?_take,List.getElem?_drop] using this
   have f:(q.map (·.1))[i]? =J (DataW.lit (.string z.data.toList):DataW H):=by simp[F]
   rw[y,List.getElem?_map,r] at f;simp only[Option.map_some,kB.injEq,DataW.lit.injEq,Lit.string.injEq] at f;rw[M,f]
  ·cases h
def avJ {W:World} (h:laidMetH Tryz.prog Rows.yardFinishesRow.laid W):aF.rE Tryz.prog W where
 len:=λg bs=>by
  have s5 : Tryz.prog.globalNamed "internal/bytealg.MaxLen" = ae := by kernel_rfl
  rw[s5] at bs;cases bs
 pow:=λg bs=>by
  have s5 : Tryz.prog.globalNamed "internal/strconv.uint64pow10" = ae := by kernel_rfl
  rw[s5] at bs;cases bs
 P8:=λg bs n s bB=>by
  obtain ⟨cQ,⟨A5,eu,cs,lp,p,q,U7,oc,ao1,bg,_,_⟩,_⟩:=(h:laidMet Tryz.prog Rows.yardFinishesRow.laid W)
  obtain rfl:=kB.inj (bs.symm.trans U7);have bR : Tryz.prog.globalNamed "humpyard/yardgen.dests" = J 0 := by kernel_rfl
  obtain rfl:=kB.inj (bR.symm.trans bs);have aoW:(Tryz.prog.globals[0]?).map (·.type)=J 160:=by kernel_rfl
  obtain rfl:=kB.inj (aoW.symm.trans oc);have:=aqY (t:=160) (e:=9) (n:=6) (zs:=aF.p2) (by kernel_rfl) Tryz.underlying9 (by kernel_rfl) (by kernel_rfl) bg n s bB;exact World.var?_cell bs ao1 n|>.symm▸(by simpa using this)
noncomputable def Wm (d:Os):World:=
 let b:=World.holding Tryz.prog d ⟨#[],#[],[]⟩
 {b with heap:=b.heap.modify 0 fun
  | .cells _ t a=> .cells (aF.p2.map λs=>af.string ⟨s.toArray⟩).toArray t a
  |o=>o}
def ar2 (a:Os):laidMet Tryz.prog Rows.yardFinishesRow.laid ((Wm a).forCall (λ_ _=>0) ⟨#[],#[.slice ae 0 0],[]⟩).memory:=
 laidMet_of_run' 8 (by kernel_rfl) (by kernel_rfl)
def reads (b:Os) {H:Type} (a:bV×af->H):∃d,DataW.whole a Tryz.prog ((Wm b).forCall (λ_ _=>0) ⟨#[],#[.slice ae 0 0],[]⟩).memory Tryz.f8.params.toList Rows.yardFinishesSpec.vars ak #[.slice ae 0 0].toList 8=J ([.nil],[],d):=
 ⟨[],by kernel_rfl⟩
set_option maxRecDepth 100000 in
def atj (r:Os) (f:r.Started) (H:Type) (d:bV×af->H) (F:Stop.Interp):
  ReturnsInHanded {} Tryz.checked r 8 .any ((Y1 Rows.yardFinishesSpec).preRow d Tryz.prog Tryz.f8 Rows.yardFinishesRow.domain ak Rows.yardFinishesRow.laid) (((Y1 Rows.yardFinishesSpec).at F).post d Tryz.prog Tryz.f8 ak aa ak ak):=by
 obtain ⟨pC,an⟩:=reads r d;refine returnsInHanded_of_row (C:=Tryz.checked) (s:=Y1 Rows.yardFinishesSpec) own f (by kernel_rfl) Tryz.func8
  (witness_row_at (enc:=d) (C:=Tryz.checked) ak (Wm r) #[.slice ae 0 0] rfl (by kernel_rfl) (by kernel_rfl) (by kernel_rfl)
   (OpenSpec.preRow_of_cond 8 an (by kernel_rfl) (λk hk=>by cases hk) (by kernel_rfl) (ar2 r))) ?_
 intro W n b ds gs w g S _ _ _ B axG _;have Y:∀(j:Nat) t v,Tryz.f8.params[j]? =J t->b[j]? =J v->af.okWide Tryz.prog W .any n t v:=g;have I:=S;obtain ⟨p,q,l,E,rfl,wj,aye⟩:=S;have U:DataW.TrodAll d Tryz.prog W 0 (λ_=>aa) aa Tryz.f8.params.toList b.toList ds p:=l;rw[Tryz.params8] at U Y;obtain ⟨O,dB,d0,yD,u9,r7,uQ,rfl,rfl,Q,L⟩:=trodAll_cons U;obtain ⟨rfl,rfl,rfl⟩:=trodAll_nil L;obtain rfl:b=#[O]:=by cases b;simp_all
 obtain ⟨rfl,rfl⟩:=trodVars_none E;have V:=Q;have K:∀x∈u9,x.block<W.heap.size:=by obtain ⟨m,hm⟩:=V;exact DataW.trod_lt m _ _ _ hm
 obtain ⟨M,A,Z,ez⟩:=aF.asn (T:=Go.W.iq) (aF.po.conv (AN:=Go.W.iq) (aF.asD Tryz.underlying3 Tryz.type3 rfl) rfl rfl λz x cs h=>by obtain rfl:cs=[_]:=h;exact ⟨rfl,trivial⟩) Tryz.underlying22 (Y 0 22 O rfl rfl) Q;clear l g;obtain ⟨N,oM⟩:=Go.W.aM3 A;have i:Go.W.aKi.call Go.W.cT (Go.W.aJ8 N) [.c (.bh 3 A)] [] (λdR _=>J dR)=Option.bind (Go.W.Hn N A) λy=>J (.c (.bool y)):=by kernel_rfl
 rw[oM] at i;have dE:aF.bP (aF.rel Go.W.cT.G (aF.ig W).blk []) [.c (.bh 3 A)] [O]:=⟨Z,trivial⟩
 refine ((aF.aqc (by kernel_rfl) (avJ B) ?_ (aF.gL.law (X:=Go.W.cT) (F:=Go.W.aJ8 N) (Go.W.aMC N) (aF.as' W) (aF.acB W) dE i))).mono λe TX ⟨he,P⟩=> ?_
 ·intro a R;simp only[List.mem_cons,List.not_mem_nil,or_false] at R;rcases R with rfl
  ·exact M
 ·subst he;exact ⟨_,rfl,_,_,_,[],_,[],I,trodAll_mk1 (shut_bool Tryz.underlying4 _),(trodAll_cons_mk (Below.trod as8 (by kernel_rfl) (of_decide_eq_true (by kernel_rfl)) V P K) trodAll_mk0),rfl,P.frame _,λh=>by cases h⟩
end Go.Proofs.YtekkhljfkiojiaaGreatDoor.yardFinishesDone
end