/- A part of the proof of YardOrders; no condition of our own. -/
import Derived.Test.YtekkhljfkiojiaaGreatDoorMg
set_option linter.defProp false
set_option linter.unusedSimpArgs false
set_option linter.unusedVariables false
set_option linter.unusedSectionVars false
open And renaming intro->oE
open BitVec renaming ofInt->qC,toNat_and->aEQ,toNat_or->aFm
open Bool renaming false->ak,true->aa
open Go renaming IntKind->aG
open Go.IntKind renaming bits->pP,wrap->aO,wrap_i64->vN
open Int renaming fdiv_eq_ediv_of_nonneg->aFp,toNat->sF,toNat_natCast->sG,toNat_zero->IF
open List renaming Perm->Az,append_assoc->IH,drop_zero->AA,eraseIdx_cons_succ->YU,flatten_cons->yn,getElem?_append_left->kS,getElem?_eq_getElem->mm,getElem?_eq_some_iff->fq,length->aN8,map_id'->yo,mem_append->kU,mem_cons->ha,mem_flatten->AD,mem_of_mem_take->aKg,nodup_cons->TB
open Nat renaming and_le_left->aEX,le_refl->e4,pow_le_pow_right->aEY,two_pow_pos->aPX
open Option renaming bind->ab,some->kB,none->ae,some->J
namespace Go.W
set_option maxHeartbeats 2000000
open Go.aF
section
variable {N:Nat}[gM N]
structure pN(c:c8):Prop where
 t:aN8 c.aH<=1000000
 r:aN8 c.rules<=1000000
 n:∀t∈c.aH,aN8 t.aOg<=1000000
attribute [grind->] pN.t pN.r pN.n
instance {b a}:au (aFk b a) (aOa a b) λr=>True:=⟨by rw[aFk];exact aC⟩
instance {a n b}:au (aFY N a n b) (aN8 a<N/\aN8 a<=4000000000000000000/\aOf b (aN8 a) n) λr=>True:=by induction n generalizing b;exact bJ;exact⟨by rw[aFY];exact aC⟩
instance {a}:au (aKW a) (True) λr=>True:=⟨by rw[aKW];exact aC⟩
instance {a}:au (Ah N a) (aN8 a<N/\aN8 a<=4000000000000000000) λr=>True:=⟨by rw[Ah];exact aC⟩
instance {U}:au (GF U) (True) λr=>True:=⟨by rw[GF];exact aC⟩
instance {U}:au (aDp U) (True) λr=>r=aa->0<=U.a:=⟨by rw[aDp];exact aC⟩
instance {b}:au (H0 b) (True) λr=>r=aa->0<=b.a:=⟨by rw[H0];exact aC⟩
instance {e b n d}:au (Gt e b n d) (aN9 e/\b<aN8 e/\aOf d b n) λr=>∀a,r=.inr a->a≠0:=by induction n generalizing d;exact bJ;exact⟨by rw[Gt];exact aC⟩
instance {d n b}:au (PC N d n b) (aN9 d/\aOf b (aN8 d) n) λr=>(r=.inl ()->∀t∈d.drop b.toNat,0<=t.a)/\∀a,r=.inr a->a≠0:=by induction n generalizing b;exact bJ;exact⟨by rw[PC];exact aC⟩
instance {b}:au (HZ N b) (aN9 b) λr=>r=0->∀t∈b,0<=t.a:=⟨by rw[HZ];exact aC⟩
instance {b a}:au (Nk b a) (aOa a b) λr=>True:=⟨by rw[Nk];exact aC⟩
instance {b n a}:au (Df b n a) (aN9 b/\aOf a (aN8 b) n) λr=>True:=by induction n generalizing a;exact bJ;exact⟨by rw[Df];exact aC⟩
instance {a}:au (Rm N a) (True) λr=>True:=⟨by rw[Rm];exact aC⟩
instance {U}:au (Mg U) (True) λr=>r=aa->0<aN8 U.aH/\aN8 U.aH<=24:=⟨by rw[Mg];exact aC⟩
instance {U a b}:au (Mh U a b) (True) λr=>r=aa->a=aa/\b<(aN8 U.aH:Int):=⟨by rw[Mh];exact aC⟩
instance {U a}:au (C4 N U a) (pN U/\aOa a U.aH) λr=>True:=⟨by rw[C4];exact aC⟩
instance {U d b a}:au (Mi U d b a) (pN U/\0<=a/\a<=b/\b<aN8 U.aH) λr=>True:=⟨by rw[Mi];exact aC⟩
instance {U b n d a}:au (C5 U b n d a) (pN U/\b<aN8 U.aH/\aOf a b n) λr=>True:=by induction n generalizing d a;exact bJ;exact⟨by rw[C5];exact aC⟩
instance {U n a b}:au (C3 N U n a b) (pN U/\aOf b (aN8 U.aH) n) λr=>r=aa->a=aa:=by induction n generalizing a b;exact bJ;exact⟨by rw[C3];exact aC⟩
instance {a}:au (Rg N a) (pN a) λr=>r=0->0<aN8 a.aH/\aN8 a.aH<=24:=⟨by rw[Rg];exact aC⟩
instance {U n d a b}:au (aAK U n d a b) (pN U/\0<=a/\a<=(aN8 U.aH:Int)/\(aN8 U.aH:Int)-a<n/\aN8 b=a/\(∀t∈b,t=[])) λr=>r.1=z1 d/\aN8 r.2=aN8 U.aH/\∀t∈r.2,t=[]:=by induction n generalizing d a b with|zero=>exact bJ|succ n e=>exact⟨by rintro⟨f,_,_,_,_,_⟩;rw[aAK];(repeat' with_reducible first|intro _|apply dq|apply dh|refine dj (by omega) ?_|apply di|apply dk|apply df|apply dr|apply dg)<;>clear e<;>grind (ematch:=15) (gen:=15) (splits:=15) [z1]⟩
instance {a}:au (Ic N a) (pN a) λr=>r.2=0->0<aN8 a.aH/\aN8 a.aH<=24/\aN8 r.1.aH=aN8 a.aH/\(∀t∈r.1.aH,t=[])/\r.1=bq.mk [] r.1.aH [] ak (eR.mk [] (b8.mk [] 0) (e8.mk (dF.mk 0 []) []) 0 [] 0) ak:=⟨by intro b;rw[Ic];(repeat' with_reducible first|intro _|apply dq|apply dh|refine dj (by omega) ?_|apply di|apply dk|apply df|apply dr|apply dg)<;>grind (ematch:=15) (gen:=15) (splits:=15) [z1]⟩
end
section
variable {N:Nat}[gM N]
structure uB(y:bq):Prop where
 t:aN8 y.aH<=1000000
 o:aN8 y.b2<=1000000
 w:aN8 y.bD<=1000000
attribute [grind->] uB.t uB.o uB.w
instance {U b a d}:au (aKm U b d a) (aOa a U.b2) λr=>True:=⟨by rw[aKm];exact aC⟩
instance {U d n b a}:au (aJb U d n b a) (uB U/\aOf a (aN8 U.b2) n) λr=>True:=by induction n generalizing b a;exact bJ;exact⟨by rw[aJb];exact aC⟩
instance {U a b}:au (aKn U a b) (aOa a U.aH) λr=>True:=⟨by rw[aKn];exact aC⟩
instance {U b d e}:au (aKV N U b d e) (uB U/\aOa e U.aH/\aN9 b/\aN9 d) λr=>aN8 r.1+aN8 r.2<=aN8 b+aN8 d+1/\∀a,(a∈r.1\/a∈r.2)->a∈b\/a∈d\/a=e:=⟨by rw[aKV];exact aC⟩
instance {U n b d a}:au (aD3 N U n b d a) (uB U/\aOf a (aN8 U.aH) n/\aN8 b+aN8 d<=a) λr=>aN8 r.1+aN8 r.2<=aN8 U.aH:=by induction n generalizing b d a;exact bJ;exact⟨by rw[aD3];exact aC⟩
instance {a}:au (R7 N a) (uB a) λr=>aN8 r<=aN8 a.aH:=⟨by rw[R7];exact aC⟩
instance {a d b}:au (EY a d b) ((b=aa->0<aN8 a.l)/\0<=a.n/\a.n<=1000000000000) λr=>True:=⟨by rw[EY];exact aC⟩
instance {U a b}:au (EZ U a b) (True) λr=>(a<U-> -U<a->(b=aa↔a<0)->U<=1000000->0<=r/\r<U):=⟨by rw[EZ];exact aC⟩
instance {a U}:au (HO a U) (0<=a.n/\a.n<=1000000000000/\0<U/\U<=1000000) λr=>0<=r.1/\r.1<U/\r.2.n=a.n+1:=⟨by rw[HO];exact aC⟩
instance {U n a d b}:au (D1 U n a d b) (U<=100/\aOf b U n/\0<=a.n/\a.n+U-b<=1000000000000/\aN8 d=U) λr=>aN8 r.2=U/\a.n<=r.1.n/\r.1.n<=a.n+U-b:=by induction n generalizing a d b;exact bJ;exact⟨by rw[D1];exact aC⟩
instance {a U}:au (RN N a U) (U=11/\0<=a.n/\a.n<=900000000000) λr=>aN8 r.1=11/\a.n<=r.2.n/\r.2.n<=a.n+11:=⟨by rw[RN];exact aC⟩
instance {b a}:au (aK9 b a) (aOa a b) λr=>True:=⟨by rw[aK9];exact aC⟩
instance {b U n a}:au (aAg b U n a) (U=aN8 b/\U<=100/\aOf a U n) λr=>True:=by induction n generalizing a;exact bJ;exact⟨by rw[aAg];exact aC⟩
instance {a U}:au (Sx N a U) (U<=100) λr=>r=aa->aN8 a=U:=⟨by rw[Sx];exact aC⟩
instance {a b}:au (OO a b) (True) λr=>True:=⟨by rw[OO];exact aC⟩
instance {d U n b a}:au (Gk d U n b a) (U<=aN8 d/\U<=100/\aOf a U n) λr=>True:=by induction n generalizing b a;exact bJ;exact⟨by rw[Gk];exact aC⟩
instance {a U}:au (Ti N a U) (U=11/\U<=aN8 a) λr=>True:=⟨by rw[Ti];exact aC⟩
instance {a}:au (SL N a) (True) λr=>True:=⟨by rw[SL];exact aC⟩
instance {a U}:au (RO N a U) (0<=a.n/\a.n<=900000000000) λr=>aN8 r.1=12/\a.n<=r.2.n/\r.2.n<=a.n+11:=⟨by rw[RO];exact aC⟩
instance {a U}:au (HP a U) (0<=a.n/\a.n<=1000000000000/\0<aN8 U/\aN8 U<=1000) λr=>r.1∈U/\r.2.n=a.n+1:=⟨by rw[HP];exact aC⟩
instance {a}:au (Sw a) (0<=a.n/\a.n<=1000000000000) λr=>aN8 r.1<=12/\r.2.n=a.n+1:=⟨by rintro⟨d,b⟩;rw[Sw];(repeat' with_reducible first|intro _|apply dq|apply dh|refine dj (by omega) ?_|apply di|apply dk|apply df|apply dr|apply dg)<;>grind -mbtc (gen:=25) (ematch:=25)⟩
instance {a b}:au (Oq a b) (True) λr=>True:=⟨by rw[Oq];exact aC⟩
instance {a b}:au (DU a b) (True) λr=>True:=⟨by rw[DU];exact aC⟩
instance {a U}:au (R9 N a U) (0<=a.n/\a.n<=900000000000) λr=>a.n<=r.2.n/\r.2.n<=a.n+30:=⟨by rw[R9];exact aC⟩
instance {a}:au (SM N a) (True) λr=>r=0->aN8 a=12:=⟨by rw[SM];exact aC⟩
instance {a b}:au (aLt a b) (True) λr=>True:=⟨by rw[aLt];exact aC⟩
instance {a b}:au (aLu a b) (True) λr=>True:=⟨by rw[aLu];exact aC⟩
instance {a}:au (S9 N a) (True) λr=>r.2=0->aN8 a=12:=⟨by rw[S9];exact aC⟩
instance {a b d}:au (EN a b d) (True) λr=>True:=⟨by rw[EN];exact aC⟩
instance {U a}:au (aLh U a) (True) λr=>True:=⟨by rw[aLh];exact aC⟩
instance {a}:au (HW N a) (aN9 a.aOl) λr=>r=0->aN8 a.aOj=12:=⟨by rw[HW];exact aC⟩
end
section
def ZW(b:List UInt8):Nat->Nat->Prop
 |0,_=>True
 |k+1,p=>match b[p+14]? with
  |none=>False
  |some d=>p+15+d.toNat<=aN8 b/\ZW b k (p+15+d.toNat)
@[grind .] theorem axe(b:List UInt8)(p:Nat):ZW b 0 p:=trivial
@[grind .] theorem azc(x:UInt8):(x.toNat:Int)<256:=by have:=x.toNat_lt;omega
@[grind=] theorem aza{a b:Int}(h:0<=a):a.tmod b=a%b:=Int.tmod_eq_emod_of_nonneg h
variable {N:Nat}[gM N]
instance {e d n b}:au (aJn e d n b) (aN9 e/\d<aN8 e/\aOf b d n) λr=>∀a,r=.inr a->a≠0:=by induction n generalizing b;exact bJ;exact⟨by rw[aJn];exact aC⟩
instance {b n d}:au (aAQ N b n d) (aN9 b/\(∀w∈b,aN9 w.aOl)/\aOf d (aN8 b) n) λr=>(r=.inl ()->∀w∈b.drop d.toNat,aN8 w.aOj=12)/\∀a,r=.inr a->a≠0:=by induction n generalizing d;exact bJ;exact⟨by rw[aAQ];exact aC⟩
instance {a}:au (Rw N a) (aN9 a/\(∀w∈a,aN9 w.aOl)) λr=>r=0->aN8 a<=96/\∀w∈a,aN8 w.aOj=12:=⟨by rw[Rw];exact aC⟩
instance {b n d a}:au (Fm b n d a) (aN9 b/\aOf a (aN8 b) n) λr=>True:=by induction n generalizing d a;exact bJ;exact⟨by rw[Fm];exact aC⟩
instance {a}:au (SN N a) (aN9 a) λr=>True:=⟨by rw[SN];exact aC⟩
instance {d n b a}:au (aDC d n b a) (aN8 d.aOj=12/\0<=a/\a<=12/\(12:Int)-a<n/\a%2=0/\aN8 b+12-a<=100000000) λr=>aN8 r+a<=aN8 b+12:=by induction n generalizing b a;exact bJ;exact⟨by rw[aDC];exact aC⟩
instance {a b}:au (aLb a b) (0<=a/\a<256) λr=>0<=r/\r<256:=⟨by rw[aLb];exact aC⟩
instance {a n d b}:au (aBq N a n d b) (aN9 a/\(∀w∈a,aN8 w.aOl<=255)/\(∀w∈a,aN8 w.aOj=12)/\aN8 a<=96/\0<=b/\b<=(aN8 a:Int)/\(aN8 a:Int)-b<n/\aN8 d<=1000*b+1) λr=>aN8 r<=100000:=by induction n generalizing d b with|zero=>exact bJ|succ n e=>exact⟨by rintro⟨i,g,f,h,_,_,_,_⟩;rw[aBq];(repeat' with_reducible first|intro _|apply dq|apply dh|refine dj (by omega) ?_|apply di|apply dk|apply df|apply dr|apply dg)<;>clear e<;>first|grind -mbtc|grind -mbtc (gen:=20) (ematch:=20)⟩
instance {a}:au (jO N a) (aN9 a/\(∀w∈a,aN8 w.aOl<=255)) λr=>aN8 r.1<=200000:=⟨by rw[jO];exact aC⟩
instance {a U}:au (R8 a U) (0<=a.n/\a.n<=900000000000/\aN9 U) λr=>aN8 r.1<=aN8 U+1/\a.n<=r.2.n/\r.2.n<=a.n+3:=⟨by rintro⟨e,d,b⟩;rw[R8];(repeat' with_reducible first|intro _|apply dh|apply amf|apply al'|apply ama|refine dj (by omega) ?_|apply di|apply apc|apply df|apply dg)<;>grind -mbtc⟩
instance {a U}:au (Q6 a U) (0<=a.n/\a.n<=900000000000/\aN9 U) λr=>aN8 r.1<=aN8 U+1/\a.n<=r.2.n/\r.2.n<=a.n+3:=⟨by rw[Q6];exact aC⟩
end
section
@[grind=] theorem axk:aN8 p2=6:=rfl
@[grind->] theorem axj{d:List UInt8}(h:d∈p2):aN8 d<=12:=by
 simp only[p2,ha,List.not_mem_nil,or_false] at h;rcases h with rfl|rfl|rfl|rfl|rfl|rfl<;>decide
def kC(y:bq):Prop:=0<=y.bo.h9/\y.bo.h9<=aN8 y.bo.aH/\y.bo.aOc.e9.aOm=aN8 y.bo.aH/\aN8 y.bo.aH<=1000000/\aN8 y.bo.bD<=1000/\0<=y.bo.aOs/\y.bo.aOs<aN8 y.aH/\(∀t∈y.bo.aH,0<=t/\t<aN8 y.aH)/\aN8 y.bo.iP.aN'=aN8 y.bo.bD/\aN8 y.bo.aOc.e9.fW=aN8 y.bo.bD/\∀i∈y.bo.iP.aN',0<=i.dS/\i.dS<aN8 y.b2
def vR(n:Int)(o:b7):Prop:=0<=o.cq/\o.cq<n/\aN8 o.c7<=16/\aN8 o.aOg<=100/\∀d∈o.c7,aN8 d<=1000000
def dP(n K:Int)(s:List (List Int)):Prop:=aN8 s<=24/\∀t∈s,aN8 t<=K/\∀i∈t,0<=i/\i<n
def mR(K:Int)(y:bq):Prop:=dP (aN8 y.bD) K y.aH/\aN8 y.bD<=192/\aN8 y.b2<=8/\(∀o∈y.b2,vR (aN8 y.aH) o)/\(y.aOb=aa->y.cE=ak->kC y)/\aN8 y.bo.bD<=1000/\aN8 y.bo.aH<=1000000/\aN8 y.bo.iP.aN'<=1000000/\aN8 y.bo.aOc.e9.fW<=1000000/\aN8 y.bo.aOc.chain<=1000000/\∀w∈y.bD,aN8 w.aOl<=1000000
def ps(K:Int)(c:c8)(y:bq):Prop:=0<aN8 c.aH/\aN8 y.aH=aN8 c.aH/\mR K y
def iW(e:eb):Prop:=aN8 e.data<=300000/\aN8 e.aH<=100/\aN8 e.hD<=100/\aN8 e.aOo.c7<=100/\aN8 e.aOo.aOg<=100/\(∀d∈e.aOo.c7,aN8 d<=100)/\aN8 e.aOg<=100
theorem alX{K:Int}{y:bq}(h:mR K y):uB y:=⟨by grind[mR,dP],by grind[mR,dP],by grind[mR,dP]⟩
attribute [grind->] alX
attribute [grind] dP kC vR mR ps iW Yp qx awY zZ vz He Hf z1 l0 Ql gq xZ zY Hd
variable {N:Nat}[gM N]
instance {a e f b}:au (aC2 a e f b) (0<=a.n/\a.n<=900000000000/\0<=f/\f<=4/\aN8 b<=100/\(∀d∈b,aN8 d<=12)) λr=>a.n<=r.1.n/\r.1.n<=a.n+2/\aN8 r.2.2<=aN8 b+1/\(∀d∈r.2.2,aN8 d<=12)/\r.2.1.aOg=e.aOg/\r.2.1.cq=e.cq:=⟨by rw[aC2];exact aC⟩
instance {n b e a f}:au (aC1 n b e a f) (0<=a/\a<=4/\(4:Int)-a<n/\0<=b.n/\b.n<=800000000000+2*a/\aN8 f<=a/\(∀d∈f,aN8 d<=12)) λr=>b.n<=r.1.n/\r.1.n<=b.n+8-2*a/\aN8 r.2.2<=4/\(∀d∈r.2.2,aN8 d<=12)/\r.2.1.aOg=e.aOg/\r.2.1.cq=e.cq:=by induction n generalizing b e a f;exact bJ;exact⟨by rw[aC1];exact aC⟩
instance {a d b e}:au (aC3 a d b e) (0<=a.n/\a.n<=900000000000) λr=>a.n<=r.1.n/\r.1.n<=a.n+1/\r.2.aOg=b.aOg:=⟨by rw[aC3];exact aC⟩
instance {a U}:au (RM N a U) (0<=a.n/\a.n<=700000000000/\0<aN8 U.aH/\aN8 U.aH<=24) λr=>a.n<=r.2.n/\r.2.n<=a.n+20/\aN8 r.1.aOg<=12/\aN8 r.1.c7<=4/\∀d∈r.1.c7,aN8 d<=12:=⟨by rw[RM];exact aC⟩
instance {a}:au (SC a) (kC a) λr=>aOa r a.aH/\(r=a.bo.aOs\/r∈a.bo.aH):=⟨by rw[SC];exact aC⟩
instance {d b n a}:au (Oe d b n a) (aN9 b/\aOf a (aN8 b) n) λr=>True:=by induction n generalizing a;exact bJ;exact⟨by rw[Oe];exact aC⟩
instance {d U e a b}:au (x7 N d U e a b) (aN9 b/\0<=a/\a<=aN8 b/\aOa U.dS d) λr=>True:=⟨by rw[x7];exact aC⟩
instance {U a d b e f}:au (aKr N U d a b e f) (kC d/\b=d.bo/\aOa e U/\aOa f b.bD/\aN8 a<=100000000) λr=>aN8 r<=aN8 a+1/\aN8 a<=aN8 r/\(al U e=al b.bD f->aN8 a<aN8 r):=⟨by rw[aKr];exact aC⟩
instance {U g b f n d a}:au (aJg N U g b f n d a) (kC g/\b=g.bo/\0<=f/\f<aN8 U/\0<=a/\a<=(aN8 b.bD:Int)/\(aN8 b.bD:Int)-a<n/\aN8 d+(aN8 b.bD-a)<=100000000) λr=>aN8 r<=aN8 d+(aN8 b.bD-a)/\aN8 d<=aN8 r/\∀i,al U f=J i->i∈b.bD.drop a.toNat->aN8 d<aN8 r:=by induction n generalizing d a with|zero=>exact bJ|succ n h=>exact⟨by rintro⟨m,k,j,l,_,_,_,_⟩;rw[aJg];(repeat' with_reducible first|intro _|apply dq|apply dh|refine dj (by omega) ?_|apply di|apply dk|apply df|apply dr|apply dg)<;>clear h<;>first|grind -mbtc|(obtain⟨t,e⟩:=hT (xs:=b.bD) (i:=a) (by omega) (by omega);rw[sT e];grind -mbtc)⟩
instance {U d f n b a}:au (aB4 N U d f n b a) (kC d/\f=d.bo/\aN8 U<=40000/\0<=a/\a<=(aN8 U:Int)/\(aN8 U:Int)-a<n/\aN8 b+1000*(aN8 U-a)<=100000000) λr=>aN8 r<=100000000/\((∀i∈U,i∈f.bD)->aN8 b+(aN8 U-a)<=aN8 r):=by induction n generalizing b a with|zero=>exact bJ|succ n g=>exact⟨by rintro⟨k,j,h,_,_,_,_⟩;rw[aB4];(repeat' with_reducible first|intro _|apply dq|apply dh|refine dj (by omega) ?_|apply di|apply dk|apply df|apply dr|apply dg)<;>clear g<;>first|grind -mbtc|(obtain⟨t,e⟩:=hT (xs:=U) (i:=a) (by omega) (by omega);grind -mbtc)⟩
instance {a U}:au (Sf N a U) (kC a/\aN8 U<=40000) λr=>aN8 r<=100000000/\((∀i∈U,i∈a.bo.bD)->aN8 U<=aN8 r):=⟨by rw[Sf];exact aC⟩
instance {U}:au (aEt U) (True) λr=>r=ak->U.aOb=aa/\U.cE=ak:=⟨by rw[aEt];exact aC⟩
instance {a}:au (Aj N a) (mR 40000 a) λr=>aN8 r.2.1<=40000:=⟨by rw[Aj];exact aC⟩
instance {a b}:au (MR a b) (0<=a.n/\a.n<=900000000000) λr=>a.n<=r.1.n/\r.1.n<=a.n+1:=⟨by rw[MR];exact aC⟩
instance {a b}:au (EG a b) (0<=a.n/\a.n<=900000000000) λr=>a.n<=r.1.n/\r.1.n<=a.n+1:=⟨by rw[EG];exact aC⟩
instance {a d b}:au (EF a d b) (0<=a.n/\a.n<=700000000000) λr=>a.n<=r.1.n/\r.1.n<=a.n+2/\r.2.aOo=b.aOo/\r.2.aOg=b.aOg:=⟨by rw[EF];exact aC⟩
instance {a b}:au (EI a b) (0<=a.n/\a.n<=900000000000) λr=>a.n<=r.1.n/\r.1.n<=a.n+1/\(r.2=aa->0<aN8 b):=⟨by rw[EI];exact aC⟩
instance {a d b e}:au (MS a d b e) (0<=a.n/\a.n<=900000000000/\aN9 d/\(e=aa->0<aN8 d)) λr=>a.n<=r.1.n/\r.1.n<=a.n+1/\r.2.aOo=b.aOo/\r.2.aOg=b.aOg:=⟨by rw[MS];exact aC⟩
instance {e n b d a}:au (EJ N e n b d a) (0<=a/\a<n/\0<=b.n/\b.n+100*a<=800000000000/\aN8 d+a<=10/\(∀w∈d,aN8 w.aOl<=12)) λr=>b.n<=r.1.n/\r.1.n<=b.n+100*a/\aN8 r.2<=10/\∀w∈r.2,aN8 w.aOl<=12:=by induction n generalizing b d a;exact bJ;exact⟨by rw[EJ];exact aC⟩
instance {a b}:au (MT a b) (0<=a.n/\a.n<=900000000000) λr=>a.n<=r.1.n/\r.1.n<=a.n+1/\(r.2=aa->0<aN8 b):=⟨by rw[MT];exact aC⟩
instance {b a}:au (EK b a) (True) λr=>True:=⟨by rw[EK];exact aC⟩
instance {a b}:au (aKL a b) (True) λr=>r=aa->0<aN8 a:=⟨by rw[aKL];exact aC⟩
instance {b a d}:au (aKj b a d) (aN9 b/\(d=aa->0<aN8 b)) λr=>r.aOo=a.aOo/\r.aOg=a.aOg:=⟨by rw[aKj];exact aC⟩
instance {a d b}:au (aKk a b d) (True) λr=>r=aa->b<aN8 a/\aN8 d<4:=⟨by rw[aKk];exact aC⟩
instance {d b a e}:au (aKl d a e b) (aOa e d/\aN8 b<=4) λr=>aN8 r.2<=aN8 b+1/\r.1.aOo=a.aOo/\r.1.aOg=a.aOg:=⟨by rw[aKl];exact aC⟩
instance {b n a d e}:au (aJz b n a d e) (aN9 b/\aOf d (aN8 b) n/\aN8 e<=4) λr=>aN8 r.2<=4/\r.1.aOo=a.aOo/\r.1.aOg=a.aOg:=by induction n generalizing a d e;exact bJ;exact⟨by rw[aJz];exact aC⟩
instance {e f n b d a g}:au (aJA e f n b d a g) (aN9 f/\aN8 f<=40000/\aN8 e.aH<=24/\0<aN8 e.aH/\0<=a/\a<n/\0<=b.n/\b.n+2*a<=800000000000/\aN8 g+a<=10) λr=>b.n<=r.1.n/\r.1.n<=b.n+2*a/\aN8 r.2.2<=10/\r.2.1.aOo=d.aOo/\r.2.1.aOg=d.aOg:=by induction n generalizing b d a g;exact bJ;exact⟨by rw[aJA];exact aC⟩
instance {a k l f g e h b i j}:au (EH N a k f g e b l h i j) (0<=a.n/\a.n<=700000000000/\ps 40000 f g/\aN8 e<=24/\b.aOo.c7=[]/\b.aOo.aOg=[]/\b.aOg=[]/\h=[]/\i=[]/\j=[]) λr=>a.n<=r.1.n/\r.1.n<=a.n+2000/\aN8 r.2.2.1<=10/\aN8 r.2.2.2.1<=10/\aN8 r.2.2.2.2<=300000/\aN8 r.2.1.aOo.c7<=4/\aN8 r.2.1.aOo.aOg<=12/\(∀d∈r.2.1.aOo.c7,aN8 d<=12)/\aN8 r.2.1.aOg<=100:=⟨by rw[EH];exact aC⟩
instance {a U b d}:au (RL N a U b d) (0<=a.n/\a.n<=600000000000/\ps 40000 U b) λr=>a.n<=r.2.n/\r.2.n<=a.n+3000/\iW r.1:=⟨by rw[RL];exact aC⟩
end
section
def ZX(b:List UInt8):Nat->Int->Prop|0,_=>True|k+1,p=>∃d,al b (p+14)=J d/\p+15+d.toNat<=aN8 b/\ZX b k (p+15+d.toNat)
def jF(b:List UInt8)(k p:Int):Prop:=ZX b k.toNat p
def ZS{b:List UInt8}{k p:Int}(h:jF b k p)(a:0<k):∃d,al b (p+14)=J d/\p+15+d.toNat<=aN8 b/\jF b (k-1) (p+15+d.toNat):=by
 unfold jF at h⊢;rw[show k.toNat=(k-1).toNat+1 by omega] at h;exact h
def ZT{b:List UInt8}{k p:Int}{d:UInt8}(f:0<k)(e:al b (p+14)=J d)(a:p+15+d.toNat<=aN8 b)(h:jF b (k-1) (p+15+d.toNat)):jF b k p:=by
 unfold jF at h⊢;rw[show k.toNat=(k-1).toNat+1 by omega];exact⟨d,e,a,h⟩
def ZR{b:List UInt8}{k p:Int}(a:k<=0):jF b k p:=by unfold jF;rw[show k.toNat=0 by omega];trivial
theorem xA(x:UInt8):x.toNat<=255:=by have:=x.toNat_lt;omega
@[grind=] theorem azi(x:UInt8):aO .i64 (x.toNat:Int)=x.toNat:=by
 have:=xA x;rw[Qb (by omega) (by omega)]
def amn{b:List UInt8}{k a p q:Int}{d:UInt8}(i:0<k)(e:al b (p+14)=J d)(f:q<=aN8 b)(g:q=p+15+d.toNat)(j:a=k-1)(h:jF b a q):jF b k p:=by
 subst g j;exact ZT i e f h
def ZU{b:List UInt8}{k f p q:Int}{d:UInt8}(h:jF b k p)(i:0<k)(e:al b (p+14)=J d)(g:q=p+15+d.toNat)(j:f=k-1):jF b f q:=by
 subst g j;obtain⟨l,a,_,k⟩:=ZS h i;rw[e] at a;cases a;exact k
theorem Jh{b:List UInt8}{k p:Int}(h:jF b k p)(a:0<k):∃d,al b (p+14)=J d/\p+15+d.toNat<=aN8 b:=by
 obtain⟨d,e,l,_⟩:=ZS h a;exact⟨d,e,l⟩
theorem UK{b:List UInt8}{p:Int}{i:Int}(h:0<=p)(k:0<=i):al (b.drop p.toNat) i=al b (p+i):=by
 unfold al;rw[if_pos k,if_pos (by omega),List.getElem?_drop,show p.toNat+i.toNat=(p+i).toNat by omega]
@[grind=] theorem azb(o:b7):b7.mk o.aOg o.cq o.c7=o:=rfl
@[grind=] theorem ayT(p:eR):eR.mk p.bD (b8.mk p.iP.aN' p.iP.dO) (e8.mk (dF.mk p.aOc.e9.aOm p.aOc.e9.fW) p.aOc.chain) p.aOs p.aH p.h9=p:=rfl
theorem amT{b:Type}{l:List b}{i:Int}{a y:b}(e:al (l.set i.toNat a) i=J y):y=a:=by
 unfold al at e;split at e
 ·obtain⟨h,rfl⟩:=fq.mp e;simp
 ·cases e
theorem afo{a:Type}{l:List a}{i:Int}{y:a}(e:al l i=J y):l.set i.toNat y=l:=by
 unfold al at e;split at e
 ·obtain⟨h,rfl⟩:=fq.mp e;exact List.set_getElem_self h
 ·cases e
def yB(l:List Bool):Nat:=l.countP id
theorem amr{l:List Bool}{i:Int}(e:al l i=J ak):yB (l.set i.toNat aa)=yB l+1:=by
 unfold al at e;split at e
 ·obtain⟨h,e⟩:=fq.mp e;unfold yB;rw[List.countP_set h];simp[e]
 ·cases e
theorem amq(l:List Bool):yB l<=aN8 l:=List.countP_le_length
def ur(s r:List (List Int)):Prop:=∀t q,al r t=J q->∃p,al s t=J p/\aN8 q<=aN8 p/\∀i∈q,i∈p
def pq(s r:List (List Int))(w a:Int):Prop:=∀t q,al r t=J q->∃p,al s t=J p/\aN8 q<=aN8 p+1/\∀i∈q,(t=a/\i=w)\/i∈p
def aam{b:Type}{s:List b}{i t:Int}{q u:b}(h:0<=i)(e:al (s.set i.toNat q) t=J u):(t=i/\u=q/\∃p,al s t=J p)\/(t≠i/\al s t=J u):=by
 unfold al at*;split at e
 ·rename_i a;obtain⟨k,e⟩:=fq.mp e;rw[List.getElem_set] at e;rw[List.length_set] at k;split at e
  ·exact .inl ⟨by omega,e.symm,s[t.toNat],by rw[if_pos a];exact mm k⟩
  ·exact .inr ⟨by omega,by rw[if_pos a,mm k,e]⟩
 ·cases e
theorem agB(s:List (List Int)):ur s s:=λ_ q h=>⟨q,h,e4 _,λ_ h=>h⟩
theorem agC{s:List (List Int)}{i:Int}{p q:List Int}(h:0<=i)(e:al s i=J p)(l:aN8 q<=aN8 p)(k:∀v∈q,v∈p):ur s (s.set i.toNat q):=λt u g=>by
 rcases aam h g with⟨rfl,rfl,_⟩|⟨_,g⟩
 ·exact⟨p,e,l,k⟩
 ·exact⟨u,g,e4 _,λ_ h=>h⟩
theorem agF{s:List (List Int)}{i w:Int}{p q:List Int}(h:0<=i)(e:al s i=J p)(l:aN8 q=aN8 p+1)(k:∀v∈q,v=w\/v∈p):pq s (s.set i.toNat q) w i:=λt u g=>by
 rcases aam h g with⟨rfl,rfl,_⟩|⟨_,g⟩
 ·exact⟨p,e,by omega,λv a=>(k v a).imp (λx=>⟨rfl,x⟩) id⟩
 ·exact⟨u,g,by omega,λ_ h=>.inr h⟩
theorem ur.db{s r:List (List Int)}{w t:Int}(h:ur s r):pq s r w t:=λa q g=>by
 obtain⟨p,e,f,b⟩:=h a q g;exact⟨p,e,by omega,λi d=>.inr (b i d)⟩
theorem pq.avE{s r u:List (List Int)}{w t:Int}(h:ur s r)(k:pq r u w t):pq s u w t:=λa q g=>by
 obtain⟨p,j,m,d⟩:=k a q g;obtain⟨l,b,n,f⟩:=h a p j;exact⟨l,b,by omega,λi e=>(d i e).imp id (f i)⟩
theorem uL{a:Type}{s:List a}{q:a}(h:q∈s):∃t,al s t=J q:=by
 obtain⟨i,h,rfl⟩:=List.getElem_of_mem h;exact⟨i,by unfold al;rw[if_pos (by omega)];exact mm (by omega)⟩
@[grind->] theorem aw4{s r:List (List Int)}{q:List Int}(h:ur s r)(a:q∈r):∃p∈s,aN8 q<=aN8 p/\∀i∈q,i∈p:=by
 obtain⟨t,g⟩:=uL a;obtain⟨p,g,l,k⟩:=h t q g;exact⟨p,lP g,l,k⟩
@[grind->] theorem aw5{s r:List (List Int)}{q:List Int}{w t a:Int}(h:pq s r w t)(d:al r a=J q):∃p∈s,aN8 q<=aN8 p+1/\∀i∈q,i=w\/i∈p:=by
 obtain⟨p,g,l,k⟩:=h a q d;exact⟨p,lP g,l,λi b=>(k i b).imp And.right id⟩
theorem ak9{s r:List (List Int)}{w t n:Int}{k:Nat}(h:dP n 40000 s)(a:∀t∈s,aN8 t<=k)(b:k<=1000)(l:aN8 r=aN8 s)(c:pq s r w t)(d:0<=w)(e:w<n):dP n 40000 r:=by
 refine⟨by unfold dP at h;omega,λq j=>?_⟩;obtain⟨t,g⟩:=uL j;obtain⟨p,g,l,k⟩:=c t q g;have:=a p (lP g);refine⟨by omega,λi f=>?_⟩;rcases k i f with⟨_,rfl⟩|k
 ·exact⟨d,e⟩
 ·exact(h.2 p (lP g)).2 i k
def dC(c:c8)(y:bq):Prop:=ps 40000 c y
def l3(w:List Int)(s:List (List Int))(t:Int):Prop:=∀q,al s t=J q->∀i∈q,i∈w
def AG(p:eR)(s:List (List Int)):Prop:=∀t,(t=p.aOs\/t∈p.aH)->l3 p.bD s t
def gH(y:bq):Prop:=y.aOb=aa->y.cE=ak->AG y.bo y.aH
def AJ(w:List Int)(s r:List (List Int)):Prop:=∀t p,al s t=J p->∃q,al r t=J q/\∀i∈p,i∈w\/i∈q
def kF(w:List Int)(y z:bq):Prop:=∃s b,z=bq.mk y.bD s y.b2 y.aOb y.bo b/\∀t,l3 w y.aH t->l3 w s t
def nu(a:Int)(y z:bq):Prop:=∃s b,z=bq.mk y.bD s y.b2 y.aOb y.bo b/\∀w t,t≠a->l3 w y.aH t->l3 w s t
def Ze{s r:List (List Int)}{w:List Int}{v d t:Int}(h:pq s r v d)(k:v∈w\/t≠d)(g:l3 w s t):l3 w r t:=λq e i f=>by
 obtain⟨p,j,_,b⟩:=h t q e;rcases b i f with⟨a,rfl⟩|b
 ·rcases k with k|k
  ·exact k
  ·exact absurd a k
 ·exact g p j i b
theorem AS{y:bq}{s:List (List Int)}{w:List Int}{v a:Int}(h:pq y.aH s v a)(k:v∈w):kF w y (bq.mk y.bD s y.b2 y.aOb y.bo y.cE):=⟨s,_,rfl,λ_=>Ze h (.inl k)⟩
theorem AR{y:bq}{s:List (List Int)}{v a:Int}(h:pq y.aH s v a):nu a y (bq.mk y.bD s y.b2 y.aOb y.bo y.cE):=⟨s,_,rfl,λ_ _ k=>Ze h (.inr k)⟩
theorem uD(w:List Int)(y:bq):kF w y y:=⟨_,_,rfl,λ_ h=>h⟩
theorem uC(a:Int)(y:bq):nu a y y:=⟨_,_,rfl,λ_ _ _ h=>h⟩
theorem TZ{w:List Int}{x y z:bq}(h:kF w x y)(k:kF w y z):kF w x z:=by
 obtain⟨s,b,rfl,h⟩:=h;obtain⟨r,c,rfl,k⟩:=k;exact⟨_,_,rfl,λt g=>k t (h t g)⟩
theorem TY{d:Int}{x y z:bq}(h:nu d x y)(k:nu d y z):nu d x z:=by
 obtain⟨s,b,rfl,h⟩:=h;obtain⟨r,c,rfl,k⟩:=k;exact⟨_,_,rfl,λw t a g=>k w t a (h w t a g)⟩
theorem Za(w:List Int)(s:List (List Int)):AJ w s s:=λ_ p h=>⟨p,h,λ_ h=>.inr h⟩
theorem Zb{w:List Int}{s r:List (List Int)}{i:Int}{p q:List Int}(a:0<=i)(e:al s i=J p)(k:∀v∈p,v∈w\/v∈q)(h:AJ w (s.set i.toNat q) r):AJ w s r:=λt u g=>by
 by_cases d:t=i
 ·subst d;obtain rfl:p=u:=kB.inj (e.symm.trans g);obtain⟨x,l,f⟩:=h t q (by
   unfold al at e⊢;rw[if_pos a] at e⊢;rw[List.getElem?_set_self (by obtain⟨h,_⟩:=fq.mp e;exact h)])
  exact⟨x,l,λv b=>(k v b).elim .inl (f v)⟩
 ·exact h t u (by
   unfold al at g⊢;split at g
   ·rename_i j;rw[if_pos j,List.getElem?_set_ne (by omega)];exact g
   ·cases g)
variable {N:Nat}[gM N]
instance {b n d a}:au (Ge b n d a) (aN8 b<=1000/\(∀t∈b,aN9 t)/\aOf a (aN8 b) n/\aN8 d<=a) λr=>r=d++b.drop a.toNat:=by induction n generalizing d a;exact bJ;exact⟨by rw[Ge];exact aC⟩
instance {a}:au (Td N a) (aN8 a<=1000/\(∀t∈a,aN9 t)) λr=>r=a:=⟨by rw[Td];exact aC⟩
instance {U n b a d}:au (Pj U n b a d) (aN8 U.b2<=8/\(∀o∈U.b2,aN8 o.c7<=16)/\0<=a/\a<=(aN8 U.b2:Int)/\(aN8 U.b2:Int)-a<n/\aN8 b<=a) λr=>r.1=b++U.b2.drop a.toNat/\r.2=d:=by induction n generalizing b a d with|zero=>exact bJ|succ n e=>exact⟨by rintro⟨g,f,_,_,_,_⟩;rw[Pj];(repeat' with_reducible first|intro _|apply dq|apply dh|refine dj (by omega) ?_|apply di|apply dk|apply df|apply dr|apply dg)<;>clear e<;>first|grind -mbtc|(rw[sT (by assumption:al U.b2 a=J _)];simp_all)⟩
instance {a}:au (Te N a) (mR 40000 a) λr=>r.1=bq.mk [] a.aH [] a.aOb a.bo a.cE/\r.2.1=a.bD/\r.2.2=a.b2:=⟨by intro b;rw[Te];simp only[yo];(repeat' with_reducible first|intro _|apply dq|apply dh|refine dj (by omega) ?_|apply di|apply dk|apply df|apply dr|apply dg)<;>first|grind -mbtc|simp_all[Yp]⟩
instance {U a}:au (GS U a) (True) λr=>r=aa->aOa U a.aH:=⟨by rw[GS];exact aC⟩
instance {a U}:au (x9 a U) (True) λr=>r=aa->aOa U a.aH:=⟨by rw[x9];exact aC⟩
instance {b U n d}:au (OW b U n d) (aN9 b/\aOf d (aN8 b) n) λr=>(∀a,r=.inr a->a=aa/\U∈b)/\(r=.inl ()->U∉b.drop d.toNat):=by induction n generalizing d;exact bJ;exact⟨by rw[OW];exact aC⟩
instance {a U}:au (Am N a U) (aN9 a) λr=>(r=aa->U∈a)/\(r=ak->U∉a):=⟨by rw[Am];exact aC⟩
instance {U a n b}:au (Fu U a n b) (aN9 a.b2/\aOf b (aN8 a.b2) n) λr=>True:=by induction n generalizing b;exact bJ;exact⟨by rw[Fu];exact aC⟩
instance {a U}:au (Se N a U) (aN9 a.b2) λr=>True:=⟨by rw[Se];exact aC⟩
instance {b U f n d}:au (GP b U f n d) (0<=f/\f<aN8 b/\aN8 b<=1000/\(∀t∈b,aN9 t)/\0<=d/\(∀t,al b f=J t->d<=aN8 t/\aN8 t-d<n)) λr=>∀a,r=.inr a->0<=a.1/\a.1<aN8 b/\0<=a.2/\∀t,al b a.1=J t->a.2<aN8 t:=by induction n generalizing d with|zero=>exact⟨by rintro⟨h,g,j,k,_,_⟩;obtain⟨t,e⟩:=hT h g;exfalso;grind -mbtc⟩|succ n i=>exact⟨by rw[GP];exact aC⟩
instance {b U n d}:au (GO N b U n d) (aN8 b<=1000/\(∀t∈b,aN9 t)/\aOf d (aN8 b) n) λr=>∀a,r=.inr a->aOa a.1 b/\0<=a.2/\∀t,al b a.1=J t->a.2<aN8 t:=by induction n generalizing d;exact bJ;exact⟨by rw[GO];exact aC⟩
instance {a U}:au (H3 N a U) (aN8 a<=1000/\(∀t∈a,aN9 t)) λr=>0<=r.1->aOa r.1 a/\0<=r.2/\∀t,al a r.1=J t->r.2<aN8 t:=⟨by rw[H3];exact aC⟩
instance {b n d a}:au (Ft b n d a) (aN9 b/\aOf a (aN8 b) n/\aN8 d=a) λr=>aN8 r=aN8 b:=by induction n generalizing d a;exact bJ;exact⟨by rw[Ft];exact aC⟩
instance {a}:au (Sd N a) (aN9 a) λr=>aN8 r=aN8 a:=⟨by rw[Sd];exact aC⟩
instance {d U n b a}:au (aEB d U n b a) (aN9 U/\(∀i∈U,aOa i d)/\aOf a (aN8 U) n) λr=>True:=by induction n generalizing b a;exact bJ;exact⟨by rw[aEB];exact aC⟩
instance {a U}:au (Ib N a U) (aN9 U/\(∀i∈U,aOa i a)) λr=>True:=⟨by rw[Ib];exact aC⟩
instance {b U a}:au (GN b U a) (True) λr=>r=ak->aN8 a=aN8 b:=⟨by rw[GN];exact aC⟩
instance {U a}:au (aI4 U a) (aOa a U) λr=>True:=⟨by rw[aI4];exact aC⟩
instance {U n b}:au (aBb U n b) (aN9 U/\aOf b (aN8 U) n) λr=>∀a,r=.inr a->a=ak:=by induction n generalizing b;exact bJ;exact⟨by rw[aBb];exact aC⟩
instance {U b a}:au (aI5 U b a) (aN8 b=aN8 U) λr=>r=ak->aOa a U/\al b a=J ak:=⟨by rw[aI5];exact aC⟩
instance {U d f n g b}:au (aIY U d f n g b) (0<=f/\f<aN8 d/\aN8 d<=1000/\(∀t∈d,aN9 t)/\0<=b/\(∀t,al d f=J t->b<=aN8 t/\aN8 t-b<n)/\aN8 g=aN8 U) λr=>(∀a,r=.inr a->a=ak)/\∀a,r=.inl a->aN8 a=aN8 U/\∀t,al d f=J t->yB a+b=yB g+aN8 t:=by induction n generalizing g b with|zero=>exact⟨by rintro⟨i,h,k,l,_,_,_⟩;obtain⟨t,e⟩:=hT i h;exfalso;grind -mbtc⟩|succ n j=>exact⟨by rintro⟨i,h,k,l,_,_,_⟩;rw[aIY];(repeat' with_reducible first|intro _|apply dq|apply dh|refine dj (by omega) ?_|apply di|apply dk|apply df|apply dr|apply dg)<;>clear j<;>first|grind -mbtc|grind -mbtc[amr]⟩
instance {d U a b}:au (aI6 N d U a b) (aOa b a/\aN8 a=aN8 d/\dP (aN8 U) 1000000 a) λr=>True:=⟨by rw[aI6];exact aC⟩
instance {g U d n f b}:au (aIX N g U d n f b) (aN8 d=aN8 g/\dP (aN8 U) 1000000 d/\0<=b/\b<=(aN8 d:Int)/\(aN8 d:Int)-b<n/\aN8 f=aN8 U) λr=>(r=.inl ()->∀t∈d.drop b.toNat,aN8 t<=aN8 U)/\∀a,r=.inr a->a=ak:=by induction n generalizing f b with|zero=>exact bJ|succ n h=>exact⟨by rintro⟨k,j,_,_,_,_⟩;rw[aIX];(repeat' with_reducible first|intro _|apply dq|apply dh|refine dj (by omega) ?_|apply di|apply dk|apply df|apply dr|apply dg)<;>clear h<;>first|grind -mbtc|(obtain⟨t,e⟩:=hT (xs:=d) (i:=b) (by omega) (by omega);rw[sT e];grind -mbtc[amq])⟩
instance {b U a}:au (S1 N b U a) (dP (aN8 U) 1000000 a/\aN8 U<=1000) λr=>r=aa->aN8 a=aN8 b/\∀t∈a,aN8 t<=aN8 U:=⟨by rw[S1];exact aC⟩
instance {U b a}:au (GK U b a) (True) λr=>r=ak->aOa a.hX U/\a.aOt<aN8 b/\a.to<aN8 b:=⟨by rw[GK];exact aC⟩
instance {b a}:au (PL b a) (True) λr=>True:=⟨by rw[PL];exact aC⟩
instance {b d a e}:au (GL b d a e) ((e=aa->0<=b/\b<aN8 a/\0<=d/\∀t,al a b=J t->d<aN8 t)/\(∀t∈a,aN9 t)) λr=>aN8 r=aN8 a/\ur a r:=⟨by rintro⟨g,f⟩;rw[GL];(repeat' with_reducible first|intro _|apply dq|apply dh|refine dj (by omega) ?_|apply di|apply dk|apply df|apply dr|apply dg)<;>first|grind -mbtc|grind -mbtc[agC,agB]⟩
instance {b a d}:au (GM b a d) (0<=b.to/\b.to<aN8 a/\(∀t∈a,aN9 t)) λr=>aN8 r=aN8 a/\pq a r b.hX b.to:=⟨by rintro⟨g,f,e⟩;rw[GM];(repeat' with_reducible first|intro _|apply dq|apply dh|refine dj (by omega) ?_|apply di|apply dk|apply df|apply dr|apply dg)<;>first|grind -mbtc|grind -mbtc[agF]⟩
instance {d U a b}:au (Ag N d U a b) (dP (aN8 U) 40000 a/\aN8 U<=1000) λr=>r.2=0->aN8 r.1=aN8 a/\dP (aN8 U) 40000 r.1/\pq a r.1 b.hX b.to:=⟨by rintro⟨f,e⟩;rw[Ag];simp only[yo];(repeat' with_reducible first|intro _|apply dq|apply dh|refine dj (by omega) ?_|apply di|apply dk|apply df|apply dr|apply dg)<;>first|grind -mbtc|grind -mbtc[ur.db,pq.avE,afo,ak9]⟩
instance {a U d b}:au (HH N a U d b) (dC a.c a.y/\aN9 b) λr=>aN8 r.2.1<=aN8 b+1/\r.2.2.c=a.c/\r.2.2.e=a.e/\dC a.c r.2.2.y/\(∀W,U∈W->kF W a.y r.2.2.y)/\nu d a.y r.2.2.y:=⟨by rintro⟨g,f⟩;rw[HH];simp only[gq];(repeat' with_reducible first|intro _|apply dq|apply dh|refine dj (by omega) ?_|apply di|apply dk|apply df|apply dr|apply dg)<;>first|grind -mbtc[dC]|grind -mbtc[AS,AR,uD,uC,dC]⟩
end
section
@[grind=] theorem ay'{a b:Int}(h:0<=a):a.tdiv b=a / b:=Int.tdiv_eq_ediv_of_nonneg h
@[grind=] theorem ayM(a b:Int):max a b=if a<=b then b else a:=Int.max_def a b
def tV(N:Nat)(j:b8)(v:List Int)(y x r:Int):Prop:=∃k c s,H4 j x y=J k/\0<k/\al v x=J c/\Sy j x y=J s/\aO .i64 (c+s)=r
def nS(v:List Int):Prop:=∀c∈v,0<=c/\c<4096
attribute [grind] nS
theorem afL{N:Nat}{j:b8}{v:List Int}{y x k c s:Int}(e:H4 j x y=J k)(b:0<k)(a:al v x=J c)(d:Sy j x y=J s):tV N j v y x (aO .i64 (c+s)):=⟨k,c,s,e,b,a,d,rfl⟩
variable {N:Nat}[gM N]
instance {U a n b}:au (GG U a n b) (aN9 a.c7/\aOf b (aN8 a.c7) n) λr=>True:=by induction n generalizing b;exact bJ;exact⟨by rw[GG];exact aC⟩
instance {a U}:au (SZ N a U) (aN9 a.c7) λr=>True:=⟨by rw[SZ];exact aC⟩
instance {b a}:au (Dg N b a) (aN9 a.aOg) λr=>r=ak->aOa a.cq b.aH/\aN8 a.c7<=16:=⟨by rw[Dg];exact aC⟩
instance {a b}:au (aKB N a b) (aOa b a.c7/\aN9 a.c7/\(∀d∈a.c7,aN9 d)) λr=>True:=⟨by rw[aKB];exact aC⟩
instance {b n e}:au (Nn N b n e) (aN9 b.c7/\(∀d∈b.c7,aN9 d)/\aOf e (aN8 b.c7) n) λr=>∀a,r=.inr a->a=ak:=by induction n generalizing e;exact bJ;exact⟨by rw[Nn];exact aC⟩
instance {a U}:au (Rn N a U) (aN9 U.aOg/\aN9 U.c7/\(∀d∈U.c7,aN9 d)) λr=>r=aa->aOa U.cq a.aH/\aN8 U.c7<=16:=⟨by rw[Rn];exact aC⟩
instance {b a}:au (aKU b a) (True) λr=>True:=⟨by rw[aKU];exact aC⟩
instance {a d n b}:au (aJy N a d n b) (aN9 a.c7/\aN9 d.c7/\aOf b (aN8 a.c7) n) λr=>True:=by induction n generalizing b;exact bJ;exact⟨by rw[aJy];exact aC⟩
instance {d a n b}:au (DQ N d a n b) (aN9 d.c7/\aN9 a/\(∀o∈a,aN9 o.c7)/\aOf b (aN8 a) n) λr=>True:=by induction n generalizing b;exact bJ;exact⟨by rw[DQ];exact aC⟩
instance {a b}:au (R4 N a b) (dC a.c (bq.mk a.y.bD a.y.aH b a.y.aOb a.y.bo a.y.cE)/\iW a.e) λr=>r.1=0->dC a.c (bq.mk r.2.2.y.bD r.2.2.y.aH r.2.1 r.2.2.y.aOb r.2.2.y.bo r.2.2.y.cE)/\r.2.2.y.aOb=ak:=⟨by rintro⟨f,d⟩;rw[R4];(repeat' with_reducible first|intro _|apply dq|apply dh|refine dj (by omega) ?_|apply di|apply dk|apply df|apply dr|apply dg)<;>first|grind -mbtc[dC]|grind -mbtc (gen:=20) (ematch:=20) [dC]⟩
instance {a}:au (aLx a) (True) λr=>r=aa->aOa a.e.cq a.c.aH/\0<=a.e.dO/\a.e.dO<=12:=⟨by rw[aLx];exact aC⟩
instance {a d b}:au (aLy a d b) (aOa b a.e.aH) λr=>r=aa->d=aa/\∀t,al a.e.aH b=J t->aOa t a.c.aH:=⟨by rw[aLy];exact aC⟩
instance {b n d a}:au (aJ5 b n d a) (aN9 b.e.aH/\0<=a/\a<=(aN8 b.e.aH:Int)/\(aN8 b.e.aH:Int)-a<n) λr=>r=aa->d=aa/\∀t∈b.e.aH.drop a.toNat,0<=t/\t<aN8 b.c.aH:=by induction n generalizing d a with|zero=>exact bJ|succ n f=>exact⟨by rintro⟨g,_,_,_⟩;rw[aJ5];(repeat' with_reducible first|intro _|apply dq|apply dh|refine dj (by omega) ?_|apply di|apply dk|apply df|apply dr|apply dg)<;>clear f<;>first|grind -mbtc|(obtain⟨t,e⟩:=hT (xs:=b.e.aH) (i:=a) (by omega) (by omega);grind -mbtc)⟩
instance {a}:au (HG N a) (aN9 a.e.aH) λr=>r=aa->aOa a.e.cq a.c.aH/\0<=a.e.dO/\a.e.dO<=12/\∀t∈a.e.aH,aOa t a.c.aH:=⟨by rw[HG];exact aC⟩
instance {a d b}:au (aLz N a d b) (aOa b a.e.aH/\aN9 a.e.aH/\aN9 a.y.b2) λr=>True:=⟨by rw[aLz];exact aC⟩
instance {a n d b}:au (aJ6 N a n d b) (aN9 a.e.aH/\aN9 a.y.b2/\aOf b (aN8 a.e.aH) n) λr=>True:=by induction n generalizing d b;exact bJ;exact⟨by rw[aJ6];exact aC⟩
instance {a}:au (SI N a) (aN9 a.e.aH/\aN9 a.y.b2) λr=>True:=⟨by rw[SI];exact aC⟩
instance {b U n d}:au (O0 N b U n d) (aN9 b/\(∀o∈b,aN9 o.c7)/\aOf d (aN8 b) n) λr=>∀a,r=.inr a->aOa a.1 b:=by induction n generalizing d;exact bJ;exact⟨by rw[O0];exact aC⟩
instance {a U}:au (S3 N a U) (aN9 a/\(∀o∈a,aN9 o.c7)) λr=> -1<=r.1/\r.1<aN8 a:=⟨by rw[S3];exact aC⟩
instance {a U}:au (H5 N a U) (aN9 a/\(∀o∈a,aN9 o.c7)) λr=> -1<=r.dS/\r.dS<aN8 a:=⟨by rw[H5];exact aC⟩
instance {U}:au (Pq U) (True) λr=>r=ak->0<=U.dO/\U.dO<=12:=⟨by rw[Pq];exact aC⟩
instance {a}:au (aLi a) (True) λr=>r=ak->0<=a.pZ/\a.pZ<32:=⟨by rw[aLi];exact aC⟩
instance {U a b}:au (aLj U a b) (a<aN8 U.aN'/\aN9 U.aN') λr=>True:=⟨by rw[aLj];exact aC⟩
instance {U n b}:au (aJD U n b) (aN9 U.aN'/\aOf b (aN8 U.aN') n) λr=>(r=.inl ()->∀t∈U.aN'.drop b.toNat,0<=t.pZ/\t.pZ<32)/\∀a,r=.inr a->a≠0:=by induction n generalizing b;exact bJ;exact⟨by rw[aJD];exact aC⟩
instance {a}:au (SP N a) (aN9 a.aN') λr=>r=0->aN8 a.aN'<=96/\0<=a.dO/\a.dO<=12/\∀t∈a.aN',0<=t.pZ/\t.pZ<32:=⟨by rw[SP];exact aC⟩
instance {a b}:au (aEq a b) (True) λr=>r=ak->a.pZ<b.pZ:=⟨by rw[aEq];exact aC⟩
instance {d U e}:au (H4 d U e) (aOa U d.aN'/\aOa e d.aN') λr=>0<=r/\r<=2/\(0<r->∀a b,al d.aN' U=J a->al d.aN' e=J b->a.pZ<b.pZ):=⟨by rw[H4];exact aC⟩
instance {a U b}:au (Sy a U b) (aOa U a.aN'/\aOa b a.aN') λr=>0<=r/\r<=1:=⟨by rw[Sy];exact aC⟩
instance {U b d e a}:au (aKY N U b a d e) (0<=b/\b<aN8 a.aN'/\0<=e/\e<aN8 a.aN'/\aN8 U=aN8 a.aN'/\nS U/\0<=d/\d<=4096) λr=>0<=r/\r<=4096/\(r=d\/tV N a U b e r):=⟨by rintro⟨k,g,f,h,i,j,l,m⟩;rw[aKY];(repeat' with_reducible first|intro _|apply dq|apply dh|refine dj (by omega) ?_|apply di|apply dk|apply df|apply dr|apply dg)<;>first|grind -mbtc|grind -mbtc[afL]⟩
instance {U d a n b e}:au (aJR N U d a n b e) (aOa d a.aN'/\aN8 U=aN8 a.aN'/\nS U/\aN9 a.aN'/\aOf e (aN8 a.aN') n/\0<=b/\b<=4096) λr=>0<=r/\r<=4096/\(r=b\/∃x:Int,aOa x a.aN'/\tV N a U d x r):=by induction n generalizing b e;exact bJ;exact⟨by rw[aJR];exact aC⟩
instance {a U b}:au (tT N a U b) (aOa b a.aN'/\aN8 U=aN8 a.aN'/\nS U/\aN9 a.aN') λr=>0<=r/\r<=4096/\(0<r->∃x:Int,aOa x a.aN'/\tV N a U b x r):=⟨by rw[tT];exact aC⟩
end
section
def alW{c:c8}{y:bq}{w a:List Int}{j:b8}{p:e8}{l:Int}(h:dC c y)(r:0<=l)(m:l<aN8 c.aH)(e:∀t∈a,0<=t/\t<aN8 c.aH)(n:aN8 a=p.e9.aOm)(q:aN8 a<=100)(b:aN8 j.aN'=aN8 w)(k:aN8 p.e9.fW=aN8 w)(d:aN8 w<=1000)(f:∀i∈j.aN',0<=i.dS/\i.dS<aN8 y.b2)(s:aN8 p.chain<=1000):dC c (bq.mk y.bD y.aH y.b2 aa (eR.mk w j p l a 0) ak):=by
 unfold dC ps mR at*;refine⟨h.1,h.2.1,h.2.2.1,h.2.2.2.1,h.2.2.2.2.1,h.2.2.2.2.2.1,λ_ _=>?_,d,by simp;omega,by simp;omega,by simp;omega,by simp;omega,h.2.2.2.2.2.2.2.2.2.2.2.2⟩;unfold kC;simp only;refine⟨by omega,by omega,by omega,by omega,by omega,by omega,by omega,λt g=>?_,b,k,f⟩;have:=e t g;omega
def agi{y:bq}{w a:List Int}{j:b8}{p:e8}{l:Int}(d:l3 w y.aH l)(b:∀t∈a,l3 w y.aH t):gH (bq.mk y.bD y.aH y.b2 aa (eR.mk w j p l a 0) ak):=λ_ _ t h=>by
 rcases h with rfl|h
 ·exact d
 ·exact b t h
variable {N:Nat}[gM N]
instance {U b n d a}:au (Gh U b n d a) (aN9 U/\(∀i∈U,aOa i b.bD)/\aOf a (aN8 U) n) λr=>True:=by induction n generalizing d a;exact bJ;exact⟨by rw[Gh];exact aC⟩
instance {a U}:au (Tg N a U) (aN9 U/\(∀i∈U,aOa i a.bD)) λr=>True:=⟨by rw[Tg];exact aC⟩
instance {a b f e d}:au (aK4 a b f e d) (aOa d a.aN'/\aN8 b.fW=aN8 a.aN') λr=>True:=⟨by rw[aK4];exact aC⟩
instance {a d f n e b}:au (aJX a d f n e b) (aN8 d.fW=aN8 a.aN'/\aN9 a.aN'/\aOf b (aN8 a.aN') n) λr=>True:=by induction n generalizing e b;exact bJ;exact⟨by rw[aJX];exact aC⟩
instance {a f d b n e}:au (aBh N a f d b n e) (aN8 b.fW=aN8 d.aN'/\aN9 d.aN'/\b.aOm<=aN8 a/\aN9 a/\(∀t∈a,aOa t f.aH)/\aOf e (aN8 a) n) λr=>True:=by induction n generalizing e;exact bJ;exact⟨by rw[aBh];exact aC⟩
instance {a d e b}:au (aK5 a d e b) (aOa b a.aN') λr=>True:=⟨by rw[aK5];exact aC⟩
instance {a e n d b}:au (aJZ a e n d b) (aN9 a.aN'/\aOf b (aN8 a.aN') n) λr=>True:=by induction n generalizing d b;exact bJ;exact⟨by rw[aJZ];exact aC⟩
instance {b e a f n d}:au (aJY N b e a f n d) (aN8 a.b2<=8/\(∀o∈a.b2,aOa o.cq b/\o.cq<aN8 e.aH)/\dP (aN8 a.bD) 40000 b/\aN9 f.aN'/\aOf d (aN8 a.b2) n) λr=>True:=by induction n generalizing d;exact bJ;exact⟨by rw[aJY];exact aC⟩
instance {f U b e a d}:au (Th N f U b e a d) (aN8 U.b2<=8/\(∀o∈U.b2,aOa o.cq d/\o.cq<aN8 f.aH)/\dP (aN8 U.bD) 40000 d/\aN8 e.fW=aN8 b.aN'/\aN9 b.aN'/\aN9 a/\(∀t∈a,aOa t f.aH)) λr=>r=aa->e.aOm<=aN8 a:=⟨by rw[Th];exact aC⟩
instance {a U d b}:au (vC a U d b) (0<=b.e9.aOm/\b.e9.aOm<=aN8 a.e.aH/\aN8 a.e.aH<=100/\dC a.c a.y/\0<=a.e.cq/\a.e.cq<aN8 a.c.aH/\(∀t∈a.e.aH,0<=t/\t<aN8 a.c.aH)/\aN8 d.aN'=aN8 U/\aN8 b.e9.fW=aN8 U/\aN8 U<=1000/\(∀i∈d.aN',0<=i.dS/\i.dS<aN8 a.y.b2)/\aN8 b.chain<=1000/\l3 U a.y.aH a.e.cq/\(∀t∈a.e.aH,l3 U a.y.aH t)) λr=>r.2.2.2.c=a.c/\dC a.c (bq.mk r.2.2.2.y.bD r.2.2.2.y.aH r.2.2.2.y.b2 r.2.2.2.y.aOb (eR.mk r.2.2.2.y.bo.bD r.2.2.2.y.bo.iP r.2.2.2.y.bo.aOc r.2.2.2.y.bo.aOs r.1 r.2.2.2.y.bo.h9) r.2.2.2.y.cE)/\gH (bq.mk r.2.2.2.y.bD r.2.2.2.y.aH r.2.2.2.y.b2 r.2.2.2.y.aOb (eR.mk r.2.2.2.y.bo.bD r.2.2.2.y.bo.iP r.2.2.2.y.bo.aOc r.2.2.2.y.bo.aOs r.1 r.2.2.2.y.bo.h9) r.2.2.2.y.cE):=⟨by rintro⟨w,s,q,h,j,k,x,l,m,n,p,f,g,z⟩;rw[vC];(repeat' with_reducible first|intro _|apply dq|apply dh|refine dj (by omega) ?_|apply di|apply dk|apply df|apply dr|apply dg)<;>first|grind -mbtc|exact⟨rfl,alW (y:=a.y) h j k (by grind -mbtc) (by grind -mbtc) (by grind -mbtc) l m n p f,agi (y:=a.y) g (by grind -mbtc)⟩⟩
instance {a}:au (RE a) (True) λr=>r.c=a.c/\r.y=bq.mk a.y.bD a.y.aH a.y.b2 ak (eR.mk [] (b8.mk [] 0) (e8.mk (dF.mk 0 []) []) 0 [] 0) ak:=⟨by rw[RE];exact aC⟩
instance {a}:au (NG a) (True) λr=>r=aa->aOa a.e.cq a.c.aH/\0<=a.e.dO/\a.e.dO<=12:=⟨by rw[NG];exact aC⟩
instance {a d b}:au (Ez a d b) (aOa b a.e.aH) λr=>r=aa->d=aa/\∀t,al a.e.aH b=J t->aOa t a.c.aH:=⟨by rw[Ez];exact aC⟩
instance {b n d a}:au (Ey b n d a) (aN9 b.e.aH/\0<=a/\a<=(aN8 b.e.aH:Int)/\(aN8 b.e.aH:Int)-a<n) λr=>r=aa->d=aa/\∀t∈b.e.aH.drop a.toNat,0<=t/\t<aN8 b.c.aH:=by induction n generalizing d a with|zero=>exact bJ|succ n f=>exact⟨by rintro⟨g,_,_,_⟩;rw[Ey];(repeat' with_reducible first|intro _|apply dq|apply dh|refine dj (by omega) ?_|apply di|apply dk|apply df|apply dr|apply dg)<;>clear f<;>first|grind -mbtc|(obtain⟨t,e⟩:=hT (xs:=b.e.aH) (i:=a) (by omega) (by omega);grind -mbtc)⟩
instance {a}:au (RF N a) (aN9 a.e.aH) λr=>r=aa->aOa a.e.cq a.c.aH/\0<=a.e.dO/\a.e.dO<=12/\∀t∈a.e.aH,aOa t a.c.aH:=⟨by rw[RF];exact aC⟩
instance {a d b}:au (FD N a d b) (aOa b a.e.aH/\aN9 a.e.aH/\aN9 a.y.b2) λr=>True:=⟨by rw[FD];exact aC⟩
instance {a n d b}:au (FC N a n d b) (aN9 a.e.aH/\aN9 a.y.b2/\aOf b (aN8 a.e.aH) n) λr=>True:=by induction n generalizing d b;exact bJ;exact⟨by rw[FC];exact aC⟩
instance {a}:au (Sn N a) (aN9 a.e.aH/\aN9 a.y.b2) λr=>True:=⟨by rw[Sn];exact aC⟩
instance {b U n a}:au (OX b U n a) (aN9 b/\aOf a (aN8 b) n) λr=>True:=by induction n generalizing a;exact bJ;exact⟨by rw[OX];exact aC⟩
instance {a U}:au (S2 N a U) (aN9 a) λr=>True:=⟨by rw[S2];exact aC⟩
instance {a d b e}:au (aK1 a d e b) (aOa b a) λr=>True:=⟨by rw[aK1];exact aC⟩
instance {a e n d b}:au (aJT a e n d b) (aN9 a/\aOf b (aN8 a) n) λr=>True:=by induction n generalizing d b;exact bJ;exact⟨by rw[aJT];exact aC⟩
instance {a b}:au (aK2 a b) (True) λr=>True:=⟨by rw[aK2];exact aC⟩
instance {a U d f b e g}:au (aK0 N a U d f b e g) (aN8 a<=192/\dP (aN8 a) 40000 U/\aN9 d/\aN9 f/\(∀o∈d,aN9 o.c7)/\aOa e a/\aN8 b<=1000/\aN8 g=aN8 b/\(∀i∈b,aOa i a)) λr=>aN8 r.2.1<=aN8 b+1/\aN8 r.2.2=aN8 r.2.1/\∀i∈r.2.1,aOa i a:=⟨by rw[aK0];exact aC⟩
instance {a U e h n g b d f}:au (aJS N a U e h n g b d f) (aN8 a<=192/\dP (aN8 a) 40000 U/\aN9 e/\aN9 h/\(∀o∈e,aN9 o.c7)/\aOf d (aN8 a) n/\aN8 b<=d/\aN8 f=aN8 b/\(∀i∈b,aOa i a)) λr=>aN8 r.2.1<=aN8 a/\aN8 r.2.2=aN8 r.2.1/\∀i∈r.2.1,aOa i a:=by induction n generalizing g b d f;exact bJ;exact⟨by rw[aJS];exact aC⟩
instance {a n e b d}:au (aJU a n e b d) (aN8 a<=8/\aOf b (aN8 a) n/\aN8 d=b) λr=>aN8 r.2=aN8 a:=by induction n generalizing e b d;exact bJ;exact⟨by rw[aJU];exact aC⟩
instance {U e b a d}:au (aK3 N U e a b d) (aOa a U/\0<=d/\(∀t,al U a=J t->d<aN8 t)/\aN9 e/\aN9 b) λr=>aN8 r<=aN8 b+1:=⟨by rw[aK3];exact aC⟩
instance {U f b n d a}:au (aJW N U f b n d a) (0<=b/\b<aN8 U/\aN9 f/\(∀t∈U,aN8 t<=40000)/\0<=a/\(∀t,al U b=J t->a<=aN8 t/\aN8 t-a<n)/\aN8 d<=a) λr=>aN8 r<=40000:=by induction n generalizing d a with|zero=>exact⟨by rintro⟨h,g,j,k,_,_,_⟩;obtain⟨t,e⟩:=hT h g;exfalso;grind -mbtc⟩|succ n i=>exact⟨by rw[aJW];exact aC⟩
instance {U d n e a b}:au (aJV N U d n e a b) (aN9 d/\aN8 U<=24/\(∀t∈U,aN8 t<=40000)/\aOf a (aN8 U) n/\aN8 b=a/\(∀t∈b,aN8 t<=40000)) λr=>aN8 r.2=aN8 U/\∀t∈r.2,aN8 t<=40000:=by induction n generalizing e a b;exact bJ;exact⟨by rw[aJV];exact aC⟩
instance {b U a d}:au (H6 N b U a d) (aN8 b<=192/\dP (aN8 b) 40000 U/\aN9 a/\aN9 d/\(∀o∈a,aN9 o.c7)/\aN8 a<=8) λr=>aN8 r.1.aN'=aN8 r.2/\aN8 r.2<=192/\aN8 r.1.aOq=aN8 a/\aN8 r.1.aH=aN8 U/\(∀t∈r.1.aH,aN8 t<=40000)/\∀i∈r.2,aOa i b:=⟨by rw[H6];exact aC⟩
end
section
def gu(x:ct):Prop:=aN8 x.aN'<=96/\aN8 x.aOq<=16/\aN8 x.aH<=24/\(∀t∈x.aN',0<=t.dS/\t.dS<aN8 x.aOq)/\(∀t∈x.aH,aN8 t<=40000)/\∀t∈x.aH,∀i∈t,0<=i/\i<aN8 x.aN'
attribute [grind] gu
def kV(n:Nat)(x:List b6):Prop:=∀p∈x,0<=p.aOk/\p.aOk<n/\p.ib<n
attribute [grind] kV
def ky(l:List Int):Nat:=l.countP λz=>decide (z<0)
theorem Kg{l:List Int}{i c v:Int}(e:al l i=J c)(a:c<0)(b:0<=v):ky (l.set i.toNat v)+1=ky l:=by
 unfold al at e;split at e
 ·obtain⟨h,rfl⟩:=fq.mp e;unfold ky;have d:0<l.countP λz=>decide (z<0):=List.countP_pos_iff.mpr ⟨_,List.getElem_mem h,by simpa using a⟩;rw[List.countP_set h];simp[a,show¬v<0 by omega];omega
 ·cases e
theorem VT(l:List Int):ky l<=aN8 l:=List.countP_le_length
variable {N:Nat}[gM N]
instance {U}:au (aDQ U) (True) λr=>r=ak->aN8 U.aN'<=96/\aN8 U.aOq<=16/\aN8 U.aH<=24:=⟨by rw[aDQ];exact aC⟩
instance {U a}:au (aLn U a) (True) λr=>r=ak->aOa a.dS U.aOq:=⟨by rw[aLn];exact aC⟩
instance {U n b}:au (aDR U n b) (aN9 U.aN'/\aOf b (aN8 U.aN') n) λr=>(r=.inl ()->∀t∈U.aN'.drop b.toNat,aOa t.dS U.aOq)/\∀a,r=.inr a->a=ak:=by induction n generalizing b;exact bJ;exact⟨by rw[aDR];exact aC⟩
instance {U a}:au (aLo U a) (aOa a U.aOq) λr=>True:=⟨by rw[aLo];exact aC⟩
instance {U b n d}:au (aJI U b n d) (aOa b U.aOq/\aN8 U.aOq<=1000/\aOf d b n) λr=>∀a,r=.inr a->a=ak:=by induction n generalizing d;exact bJ;exact⟨by rw[aJI];exact aC⟩
instance {U n b}:au (aJH N U n b) (aN8 U.aOq<=1000/\aOf b (aN8 U.aOq) n) λr=>∀a,r=.inr a->a=ak:=by induction n generalizing b;exact bJ;exact⟨by rw[aJH];exact aC⟩
instance {b a}:au (aLp b a) (True) λr=>r=ak->aOa a b:=⟨by rw[aLp];exact aC⟩
instance {U d n f b}:au (aJK U d n f b) (0<=d/\d<aN8 U.aH/\(∀t∈U.aH,aN8 t<=40000)/\0<=b/\(∀t,al U.aH d=J t->b<=aN8 t/\aN8 t-b<n)) λr=>(∀a,r=.inl a->aN8 a=aN8 f/\∀t,al U.aH d=J t->∀i∈t.drop b.toNat,0<=i/\i<aN8 f)/\∀a,r=.inr a->a=ak:=by induction n generalizing f b with|zero=>exact⟨by rintro⟨h,g,k,_,_⟩;obtain⟨t,e⟩:=hT h g;exfalso;grind -mbtc⟩|succ n j=>exact⟨by rw[aJK];exact aC⟩
instance {U n d b}:au (aJJ N U n d b) (aN8 U.aH<=24/\(∀t∈U.aH,aN8 t<=40000)/\0<=b/\b<=(aN8 U.aH:Int)/\(aN8 U.aH:Int)-b<n) λr=>(∀a,r=.inl a->aN8 a=aN8 d/\∀t∈U.aH.drop b.toNat,∀i∈t,0<=i/\i<aN8 d)/\∀a,r=.inr a->a=ak:=by induction n generalizing d b with|zero=>exact bJ|succ n f=>exact⟨by rintro⟨h,g,_,_,_⟩;rw[aJJ];(repeat' with_reducible first|intro _|apply dq|apply dh|refine dj (by omega) ?_|apply di|apply dk|apply df|apply dr|apply dg)<;>clear f<;>first|grind -mbtc|(obtain⟨t,e⟩:=hT (xs:=U.aH) (i:=b) (by omega) (by omega);rw[sT e];simp_all;grind -mbtc)⟩
instance {d n b}:au (aJL d n b) (aN9 d/\aOf b (aN8 d) n) λr=>∀a,r=.inr a->a=ak:=by induction n generalizing b;exact bJ;exact⟨by rw[aJL];exact aC⟩
instance {a}:au (SQ N a) ((∀t∈a.aH,aN8 t<=40000)) λr=>r=aa->gu a:=⟨by rw[SQ];exact aC⟩
instance {U b n d a}:au (Pu U b n d a) (0<=b/\b<aN8 U.aH/\gu U/\0<=a/\(∀t,al U.aH b=J t->a<=aN8 t/\aN8 t-a<n)/\aN8 d=aN8 U.aN') λr=>aN8 r=aN8 U.aN':=by induction n generalizing d a with|zero=>exact⟨by rintro⟨g,f,i,_,_,_⟩;obtain⟨t,e⟩:=hT g f;exfalso;grind -mbtc⟩|succ n h=>exact⟨by rw[Pu];exact aC⟩
instance {U n a b}:au (Pt N U n a b) (gu U/\aOf b (aN8 U.aH) n/\aN8 a=aN8 U.aN') λr=>aN8 r=aN8 U.aN':=by induction n generalizing a b;exact bJ;exact⟨by rw[Pt];exact aC⟩
instance {a}:au (SU N a) (gu a) λr=>aN8 r=aN8 a.aN':=⟨by rw[SU];exact aC⟩
instance {a U b}:au (ya a U b) (gu a/\aN8 U=aN8 a.aN'/\aOa b U) λr=>True:=⟨by rw[ya];exact aC⟩
instance {a U b}:au (E4 a U b) (aOa U a/\aOa b a) λr=>True:=⟨by rw[E4];exact aC⟩
instance {a U b}:au (SA a U b) (aOa U a/\aOa b a) λr=>True:=⟨by rw[SA];exact aC⟩
instance {U b a}:au (E3 U b a) (aOa U a.aN'/\aOa b a.aN') λr=>True:=⟨by rw[E3];exact aC⟩
instance {a U b}:au (HR a U b) (aOa U a.aN'/\aOa b a.aN') λr=>True:=⟨by rw[HR];exact aC⟩
instance {U b d a}:au (E2 U b d a) (gu a/\aN8 U=aN8 a.aN'/\aOa b U/\aOa d U) λr=>True:=⟨by rw[E2];exact aC⟩
instance {a U b d}:au (Ad a U b d) (gu a/\aN8 U=aN8 a.aN'/\aOa b U/\aOa d U) λr=>True:=⟨by rw[Ad];exact aC⟩
instance {U d b n f e}:au (EP U d b n f e) (gu b/\aN8 U=aN8 b.aN'/\aOa d U/\aOf e (aN8 b.aN') n) λr=>∀a,r=.inr a->a.1.aOk=d/\a.1.ib<aN8 U:=by induction n generalizing f e;exact bJ;exact⟨by rw[EP];exact aC⟩
instance {b U a}:au (HX N b U a) (gu b/\aN8 U=aN8 b.aN'/\aOa a U) λr=>r.2=aa->r.1.aOk=a/\r.1.ib<aN8 U:=⟨by rw[HX];exact aC⟩
instance {U b d e a}:au (aBC U b d e a) (aN8 b=aN8 U/\aOa d U/\aOa a U) λr=>True:=⟨by rw[aBC];exact aC⟩
instance {U g e h b n f d}:au (EQ U g e h b n f d) (gu b/\aN8 U=aN8 b.aN'/\aN8 g=aN8 b.aN'/\aOa e U/\aOf d (aN8 b.aN') n) λr=>∀a,r=.inr a->a.1.aOk=e/\a.1.ib<aN8 U:=by induction n generalizing f d;exact bJ;exact⟨by rw[EQ];exact aC⟩
instance {a d f e b}:au (aLs a d f b e) (aN8 a=aN8 b.aN'/\aOa d a/\aOa e a) λr=>True:=⟨by rw[aLs];exact aC⟩
instance {b e h d n g f}:au (aDU b e h d n g f) (gu d/\aN8 b=aN8 d.aN'/\aOa e b/\aOf f (aN8 d.aN') n) λr=>∀a,r=.inr a->a.1.aOk=e/\a.1.ib<aN8 b:=by induction n generalizing g f;exact bJ;exact⟨by rw[aDU];exact aC⟩
instance {a U d b e}:au (SS N a U d b e) (gu a/\aN8 U=aN8 a.aN'/\aN8 d=aN8 a.aN'/\aOa b U) λr=>r.2=aa->r.1.aOk=b/\r.1.ib<aN8 U:=⟨by rw[SS];exact aC⟩
instance {U e a b d}:au (aLk N U e a b d) (gu U/\aN8 e=aN8 U.aN'/\aN8 a=aN8 U.aN'/\aN8 b=aN8 U.aN'/\kV (aN8 U.aN') a/\aOa d b) λr=>aN8 r.1=aN8 U.aN'/\aN8 r.2=aN8 U.aN'/\kV (aN8 U.aN') r.1:=⟨by rw[aLk];exact aC⟩
instance {U e n a b d}:au (XM N U e n a b d) (gu U/\aN8 e=aN8 U.aN'/\aOf d (aN8 b) n/\aN8 a=aN8 U.aN'/\aN8 b=aN8 U.aN'/\kV (aN8 U.aN') a) λr=>aN8 r.1=aN8 U.aN'/\aN8 r.2=aN8 U.aN'/\kV (aN8 U.aN') r.1:=by induction n generalizing a b d;exact bJ;exact⟨by rw[XM];exact aC⟩
instance {U g d a f b e}:au (aLl N U g d a f e b) (gu U/\aN8 g=aN8 U.aN'/\aN8 d=aN8 U.aN'/\aN8 a=aN8 U.aN'/\kV (aN8 U.aN') d/\0<=b/\b<aN8 a/\0<=f) λr=>aN8 r.1=aN8 U.aN'/\aN8 r.2.1=aN8 U.aN'/\kV (aN8 U.aN') r.1/\ky r.2.1<=ky a/\(r.2.2=aa->e=aa\/ky r.2.1<ky a):=⟨by rintro⟨m,i,h,j,k,l,n,p⟩;rw[aLl];(repeat' with_reducible first|intro _|apply dq|apply dh|refine dj (by omega) ?_|apply di|apply dk|apply df|apply dr|apply dg)<;>first|grind -mbtc|grind -mbtc[Kg]|grind -mbtc[VT]⟩
instance {U g f n b a d e}:au (aJF N U g f n b a d e) (gu U/\aN8 g=aN8 U.aN'/\0<=f/\aOf e (aN8 a) n/\aN8 b=aN8 U.aN'/\aN8 a=aN8 U.aN'/\kV (aN8 U.aN') b) λr=>aN8 r.1=aN8 U.aN'/\aN8 r.2.1=aN8 U.aN'/\kV (aN8 U.aN') r.1/\ky r.2.1<=ky a/\(r.2.2=aa->d=aa\/ky r.2.1<ky a):=by induction n generalizing b a d e;exact bJ;exact⟨by rw[aJF];exact aC⟩
instance {U f n e a d b}:au (aJE N U f n e a d b) (gu U/\aN8 f=aN8 U.aN'/\(b=aa->ky a+1<n)/\0<n/\0<=d/\(b=aa->d+ky a<=1000)/\aN8 e=aN8 U.aN'/\aN8 a=aN8 U.aN'/\kV (aN8 U.aN') e) λr=>aN8 r.1=aN8 U.aN'/\aN8 r.2=aN8 U.aN'/\kV (aN8 U.aN') r.1:=by induction n generalizing e a d b;exact bJ;exact⟨by rw[aJE];exact aC⟩
instance {b a d e}:au (aLm b d a e) (aOa e d/\aN8 b=aN8 d/\aN9 a) λr=>aN8 r<=aN8 a+1/\∀p∈r,p∈a\/p∈b:=⟨by rw[aLm];exact aC⟩
instance {b a n d e}:au (aJG b a n d e) (aN8 b=aN8 a/\aN8 a<=1000/\aOf e (aN8 a) n/\aN8 d<=e/\(∀p∈d,p∈b)) λr=>aN8 r<=aN8 a/\∀p∈r,p∈b:=by induction n generalizing d e;exact bJ;exact⟨by rw[aJG];exact aC⟩
instance {a}:au (afH N a) ((∀t∈a.aH,aN8 t<=40000)) λr=>aN8 r.1<=96/\kV (aN8 a.aN') r.1:=⟨by intro b;rw[afH];(repeat' with_reducible first|intro _|apply dq|apply dh|refine dj (by omega) ?_|apply di|apply dk|apply df|apply dr|apply dg)<;>first|grind -mbtc|grind -mbtc[Kg]|grind -mbtc[VT]⟩
end
section
variable {N:Nat}[gM N]
instance {U a b}:au (CT U a b) (gu a/\aN8 U=aN8 a.aN'/\aOa b.aOk U) λr=>True:=⟨by rw[CT];exact aC⟩
instance {b a}:au (aAR b a) (True) λr=>r=ak->aOa a b.aN':=⟨by rw[aAR];exact aC⟩
instance {b d a}:au (aKC b d a) (aOa a b) λr=>True:=⟨by rw[aKC];exact aC⟩
instance {U b a d}:au (aKD U b a d) (aOa b.aOk U/\aOa a U) λr=>True:=⟨by rw[aKD];exact aC⟩
instance {U a d b e}:au (aKE U a d b e) (gu a/\aN8 U=aN8 a.aN'/\aOa d.aOk U/\aOa b U) λr=>True:=⟨by rw[aKE];exact aC⟩
instance {a U b d}:au (Hy a U b d) (gu a/\aN8 U=aN8 a.aN'/\aN8 b=aN8 a.aN'/\aOa d.aOk U) λr=>True:=⟨by rw[Hy];exact aC⟩
instance {n a b}:au (aAs n a b) (aOf b (aN8 a) n/\aN8 a<=1000) λr=>aN8 r=aN8 a:=by induction n generalizing a b;exact bJ;exact⟨by rw[aAs];exact aC⟩
instance {U b d a}:au (aAt U b d a) (aOa d U) λr=>r=ak->aOa a b:=⟨by rw[aAt];exact aC⟩
instance {U n b d}:au (aAk U n b d) (aN9 U/\aOf d (aN8 U) n) λr=>∀a,r=.inl a->aN8 a=aN8 b/\∀p∈U.drop d.toNat,aOa p.aOk b:=by induction n generalizing b d;exact bJ;exact⟨by rw[aAk];exact aC⟩
instance {U a d e n b}:au (aAu U a d e n b) (gu a/\aN8 d=aN8 a.aN'/\aN8 e=aN8 a.aN'/\aN9 U/\(∀p∈U,aOa p.aOk d)/\aOf b (aN8 U) n) λr=>True:=by induction n generalizing b;exact bJ;exact⟨by rw[aAu];exact aC⟩
instance {a e b d f}:au (aLr a e b d f) (gu a/\aN8 e=aN8 a.aN'/\aN8 b=aN8 a.aN'/\aOa d b/\aOa f b) λr=>True:=⟨by rw[aLr];exact aC⟩
instance {a f b e n d}:au (aJN a f b e n d) (gu a/\aN8 f=aN8 a.aN'/\aN8 b=aN8 a.aN'/\aOa e b/\aOf d (aN8 b) n) λr=>True:=by induction n generalizing d;exact bJ;exact⟨by rw[aJN];exact aC⟩
instance {a e b d}:au (aLq N a e b d) (gu a/\aN8 e=aN8 a.aN'/\aN8 b=aN8 a.aN'/\aOa d b) λr=>True:=⟨by rw[aLq];exact aC⟩
instance {a e d n b}:au (aJM N a e d n b) (gu a/\aN8 e=aN8 a.aN'/\aN8 d=aN8 a.aN'/\aOf b (aN8 d) n) λr=>True:=by induction n generalizing b;exact bJ;exact⟨by rw[aJM];exact aC⟩
instance {a U}:au (SR N a U) (gu a/\aN9 U) λr=>True:=⟨by rw[SR];exact aC⟩
instance {b U n a}:au (N7 b U n a) (aN9 b/\aOf a (aN8 b) n) λr=>True:=by induction n generalizing a;exact bJ;exact⟨by rw[N7];exact aC⟩
instance {a U}:au (Sz N a U) (aN9 a) λr=>True:=⟨by rw[Sz];exact aC⟩
instance {a}:au (Gq a) (True) λr=>True:=⟨by rw[Gq];exact aC⟩
instance {U a g b d e f}:au (aAI N U a g b d e f) (gu a/\aN9 U/\aOa d a.aH/\0<=e/\(∀t,al a.aH d=J t->e<aN8 t)/\aN8 b<=10000000/\aN8 f=aN8 b/\(∀i∈f,aOa i.dS a.aOq)/\(∀i∈b,aOa i a.aN')) λr=>aN8 r.2.1<=aN8 b+1/\aN8 r.2.2=aN8 r.2.1/\r.1.dO=g.dO/\(∀i∈r.2.2,aOa i.dS a.aOq)/\∀i∈r.2.1,aOa i a.aN':=⟨by rw[aAI];exact aC⟩
instance {U a b n h f d g}:au (aEz N U a b n h f d g) (0<=b/\b<aN8 a.aH/\gu a/\aN9 U/\0<=d/\(∀t,al a.aH b=J t->d<=aN8 t/\aN8 t-d<n)/\aN8 f<=40000*b+d/\aN8 g=aN8 f/\(∀i∈g,0<=i.dS/\i.dS<aN8 a.aOq)/\(∀i∈f,0<=i/\i<aN8 a.aN')) λr=>aN8 r.2.1<=40000*b+40000/\aN8 r.2.2=aN8 r.2.1/\r.1.dO=h.dO/\(∀i∈r.2.2,0<=i.dS/\i.dS<aN8 a.aOq)/\∀i∈r.2.1,0<=i/\i<aN8 a.aN':=by induction n generalizing h f d g with|zero=>exact⟨by rintro⟨k,j,m,p,_,_,_,_,_,_⟩;obtain⟨t,e⟩:=hT k j;exfalso;grind -mbtc⟩|succ n l=>exact⟨by rw[aEz];exact aC⟩
instance {U a n f b d e}:au (aAH N U a n f b d e) (gu a/\aN9 U/\aOf d (aN8 a.aH) n/\aN8 b<=40000*d/\aN8 e=aN8 b/\(∀i∈e,aOa i.dS a.aOq)/\(∀i∈b,aOa i a.aN')) λr=>aN8 r.2.1<=960000/\aN8 r.2.2=aN8 r.2.1/\r.1.dO=f.dO/\(∀i∈r.2.2,aOa i.dS a.aOq)/\∀i∈r.2.1,aOa i a.aN':=by induction n generalizing f b d e;exact bJ;exact⟨by rw[aAH];exact aC⟩
instance {a U b}:au (H9 N a U b) ((∀t∈a.aH,aN8 t<=40000)/\aN9 U) λr=>aN8 r.1.aN'=aN8 r.2.1/\aN8 r.2.1<=960000/\(∀i∈r.1.aN',aOa i.dS a.aOq)/\∀i∈r.2.1,aOa i a.aN':=⟨by rw[H9];exact aC⟩
end
section
theorem BF{a:Type}{l:List a}(h:(aN8 l:Int)=0):l=[]:=List.length_eq_zero_iff.1 (by omega)
attribute [grind->] amT afo
variable {N:Nat}[gM N]
instance {a U d b}:au (Hw N a U d b) (dC a.c a.y/\aN9 b) λr=>aN8 r.2.1<=aN8 b+1/\r.2.2.c=a.c/\r.2.2.e=a.e/\dC a.c r.2.2.y/\(∀W,U∈W->kF W a.y r.2.2.y)/\nu d a.y r.2.2.y:=⟨by rintro⟨g,f⟩;rw[Hw];simp only[gq];(repeat' with_reducible first|intro _|apply dq|apply dh|refine dj (by omega) ?_|apply di|apply dk|apply df|apply dr|apply dg)<;>first|grind -mbtc[dC]|grind -mbtc[AS,AR,uD,uC,dC]⟩
instance {d a b}:au (EC d a b) ((b=aa->0<=a.ib)/\a.ib<aN8 d) λr=>True:=⟨by rw[EC];exact aC⟩
instance {g b n a d f}:au (EB g b n a d f) (aN8 b<=1000/\kV (aN8 g) b/\aOf d (aN8 b) n/\aN8 f<=1000+d) λr=>r.1.c=a.c/\r.1.y=a.y/\r.1.e=a.e/\aN8 r.2<=3000:=by induction n generalizing a d f;exact bJ;exact⟨by rw[EB];exact aC⟩
instance {d a n b e}:au (ED d a n b e) (aN9 a/\(∀i∈a,aOa i d)/\aOf e (aN8 a) n/\aN8 b=e/\(∀i∈b,i∈d)) λr=>aN8 r=aN8 a/\∀i∈r,i∈d:=by induction n generalizing b e;exact bJ;exact⟨by rw[ED];exact aC⟩
instance {f d a b e}:au (aKH N f a b d e) (aOa b a/\aN9 f/\0<=e/\(∀t,al a b=J t->e<aN8 t)/\aN9 d) λr=>aN8 r.2<=aN8 d+1/\r.1=a/\(∀v∈r.2,v∈d\/∃t,al a b=J t/\v∈t)/\(∀v∈d,v∈r.2)/\∀t y,al a b=J t->al t e=J y->y∈f\/y∈r.2:=⟨by rw[aKH];exact aC⟩
instance {h b n a g d}:au (aJr N h b n a g d) (aN9 h/\0<=d/\(∀t,al a b=J t->d<=aN8 t/\aN8 t-d<n)/\0<=b/\b<aN8 a/\(∀t∈a,aN8 t<=40000)/\aN8 g<=d) λr=>aN8 r.2<=40000/\r.1=a/\(∀v∈r.2,v∈g\/∃t,al a b=J t/\v∈t)/\(∀v∈g,v∈r.2)/\∀t,al a b=J t->∀y∈t.drop d.toNat,y∈h\/y∈r.2:=by induction n generalizing a g d with|zero=>exact⟨by rintro⟨k,_,_,_,_,_,_⟩;obtain⟨t,e⟩:=hT (xs:=a) (i:=b) (by omega) (by omega);exfalso;grind -mbtc⟩|succ n j=>exact⟨by rintro⟨k,_,_,_,_,_,_⟩;rw[aJr];(repeat' with_reducible first|intro _|apply dq|apply dh|refine dj (by omega) ?_|apply di|apply dk|apply df|apply dr|apply dg)<;>clear j<;>first|grind -mbtc|(obtain⟨t,e⟩:=hT (xs:=a) (i:=b) (by omega) (by omega);obtain⟨u,f⟩:=hT (xs:=t) (i:=d) (by omega) (by grind -mbtc);have:=sT f;grind -mbtc)⟩
instance {d n a b}:au (aJq N d n a b) (aN9 d/\0<=b/\b<=(aN8 a:Int)/\(aN8 a:Int)-b<n/\(∀t∈a,aN8 t<=40000)/\aN8 a<=24) λr=>aN8 r=aN8 a/\(∀m,dP m 40000 a->dP m 40000 r)/\AJ d a r:=by induction n generalizing a b with|zero=>exact bJ|succ n e=>exact⟨by rintro⟨f,_,_,_,_,_⟩;rw[aJq];(repeat' with_reducible first|intro _|apply dq|apply dh|refine dj (by omega) ?_|apply di|apply dk|apply df|apply dr|apply dg)<;>clear e<;>first|grind -mbtc|grind -mbtc[Zb,Za]|(simp only[IF,AA] at*;grind -mbtc[Zb,Za])⟩
instance {d a f b}:au (aKI d a f b) (0<=b/\b<aN8 d.e.aH/\(∀t∈d.e.aH,0<=t/\t<aN8 a)) λr=>r.1=a/\(r.2=aa->f=aa/\∀t,al d.e.aH b=J t->al a t=J []):=⟨by rintro⟨i,h,g⟩;rw[aKI];(repeat' with_reducible first|intro _|apply dq|apply dh|refine dj (by omega) ?_|apply di|apply dk|apply df|apply dr|apply dg)<;>first|grind -mbtc|grind -mbtc[BF]⟩
instance {b n d f a}:au (aJs b n d f a) (aN9 b.e.aH/\0<=a/\a<=(aN8 b.e.aH:Int)/\(aN8 b.e.aH:Int)-a<n/\(∀t∈b.e.aH,0<=t/\t<aN8 d)) λr=>r.1=d/\(r.2=aa->f=aa/\∀t∈b.e.aH.drop a.toNat,al d t=J []):=by induction n generalizing d f a with|zero=>exact bJ|succ n g=>exact⟨by rintro⟨h,_,_,_,_⟩;rw[aJs];(repeat' with_reducible first|intro _|apply dq|apply dh|refine dj (by omega) ?_|apply di|apply dk|apply df|apply dr|apply dg)<;>clear g<;>first|grind -mbtc|(obtain⟨t,e⟩:=hT (xs:=b.e.aH) (i:=a) (by omega) (by omega);have:=sT e;grind -mbtc)⟩
instance {d n a b f}:au (aJt N d n a b f) (aN8 d<=1000/\0<=b/\b<=(aN8 d:Int)/\(aN8 d:Int)-b<n/\dC a.c a.y/\aN8 f<=1000+b) λr=>r.1.c=a.c/\r.1.e=a.e/\dC a.c r.1.y/\kF d a.y r.1.y:=by induction n generalizing a b f with|zero=>exact bJ|succ n g=>exact⟨by rintro⟨h,_,_,_,_,_⟩;rw[aJt];(repeat' with_reducible first|intro _|apply dq|apply dh|refine dj (by omega) ?_|apply di|apply dk|apply df|apply dr|apply dg)<;>clear g<;>first|grind -mbtc|grind -mbtc[TZ,uD]⟩
end
section
variable {N:Nat}[gM N]
instance {a U b}:au (Od a U b) (True) λr=>r=ak->aOa U a/\aOa b a:=⟨by rw[Od];exact aC⟩
instance {b U a}:au (aDI b U a) (aOa U b) λr=>r=ak->0<=a/\∀t,al b U=J t->a<=aN8 t:=⟨by rw[aDI];exact aC⟩
instance {b U f n d a}:au (aBt b U f n d a) (0<=U/\U<aN8 b/\(∀t∈b,aN8 t<=40000)/\0<=a/\(∀t,al b U=J t->a<=aN8 t/\aN8 t-a<n)/\aN8 d<=a) λr=>∀t,al b U=J t->aN8 r<=aN8 d+aN8 t-a:=by induction n generalizing d a with|zero=>exact⟨by rintro⟨h,g,j,_,_,_⟩;obtain⟨t,e⟩:=hT h g;exfalso;grind -mbtc⟩|succ n i=>exact⟨by rw[aBt];exact aC⟩
instance {b U d a}:au (x6 N b U d a) ((∀t∈b,aN8 t<=40000)) λr=>∀t,al b U=J t->0<=a->aN8 r.1<=a:=⟨by rw[x6];exact aC⟩
instance {a U d b}:au (Ri N a U d b) (dC a.c a.y/\aN9 b) λr=>aN8 r.2.1<=aN8 b+1/\r.2.2.c=a.c/\r.2.2.e=a.e/\dC a.c r.2.2.y/\(∀W,U∈W->kF W a.y r.2.2.y)/\nu d a.y r.2.2.y:=⟨by rintro⟨g,f⟩;rw[Ri];simp only[gq];(repeat' with_reducible first|intro _|apply dq|apply dh|refine dj (by omega) ?_|apply di|apply dk|apply df|apply dr|apply dg)<;>first|grind -mbtc[dC]|grind -mbtc[AS,AR,uD,uC,dC]⟩
instance {a}:au (FF a) (True) λr=>r=ak->aOa a.e.cq a.c.aH/\aOa a.e.to a.c.aH:=⟨by rw[FF];exact aC⟩
instance {a}:au (OK N a) (aN9 a.y.b2) λr=>True:=⟨by rw[OK];exact aC⟩
instance {a}:au (OL a) (aOa a.e.cq a.y.aH) λr=>r=ak->1<=a.e.count/\∃t,al a.y.aH a.e.cq=J t/\a.e.count<=aN8 t:=⟨by rw[OL];exact aC⟩
instance {f n b d g}:au (OM N f n b d g) (aN8 f<=40000/\0<=d/\d<=(aN8 f:Int)/\(aN8 f:Int)-d<n/\dC b.c b.y/\aN8 g<=1000+d) λr=>(∀a,r=.inl a->a.1.c=b.c/\a.1.e=b.e/\dC b.c a.1.y/\nu b.e.to b.y a.1.y)/\∀a,r=.inr a->a.2.1≠0:=by induction n generalizing b d g with|zero=>exact bJ|succ n h=>exact⟨by rintro⟨i,_,_,_,_,_⟩;rw[OM];(repeat' with_reducible first|intro _|apply dq|apply dh|refine dj (by omega) ?_|apply di|apply dk|apply df|apply dr|apply dg)<;>clear h<;>first|grind -mbtc|grind -mbtc[TY,uC]⟩
instance {a b}:au (Sp N a b) (dC a.c a.y/\iW a.e/\aN8 b<=1000) λr=>r.1=0->r.2.2.c=a.c/\dC a.c r.2.2.y/\gH r.2.2.y:=⟨by rintro⟨g,f,d⟩;rw[Sp];(repeat' with_reducible first|intro _|apply dq|apply dh|refine dj (by omega) ?_|apply di|apply dk|apply df|apply dr|apply dg)<;>first|grind -mbtc[dC]|grind -mbtc[dC,gH,nu]⟩
instance {b U a}:au (S0 N b U a) (pN b/\aN9 U.aOg/\aN9 U.c7/\(∀d∈U.c7,aN9 d)/\aN9 a/\(∀w∈a,aN9 w.aOl)) λr=>r=0->aOa U.cq b.aH/\aN8 U.c7<=16/\aN8 a<=96:=⟨by rw[S0];exact aC⟩
instance {U e n d b}:au (Oc N U e n d b) (aN9 U/\aN9 e.c7/\aOf b (aN8 U) n/\aN8 d=b) λr=>∀a,r=.inl a->aN8 a=aN8 U:=by induction n generalizing d b;exact bJ;exact⟨by rw[Oc];exact aC⟩
instance {a U}:au (Ae N a U) (aN9 U/\aN9 a.c7) λr=>r.2.2=0->aN8 r.1=aN8 U\/aN8 r.1=0:=⟨by rw[Ae];exact aC⟩
end
section
variable {N:Nat}[gM N]
instance {b n d e f a}:au (Fo b n d e f a) (aN9 b/\aOf a (aN8 b) n) λr=>True:=by induction n generalizing d e f a;exact bJ;exact⟨by rw[Fo];exact aC⟩
instance {a}:au (SO N a) (aN9 a/\(∀w∈a,aN9 w.aOl)) λr=>True:=⟨by rw[SO];exact aC⟩
instance {b U n a}:au (Gr b U n a) (aN9 b/\aOf a (aN8 b) n) λr=>True:=by induction n generalizing a;exact bJ;exact⟨by rw[Gr];exact aC⟩
instance {a U}:au (Ia N a U) (aN9 a) λr=>True:=⟨by rw[Ia];exact aC⟩
instance {a}:au (x5 a) (True) λr=>True:=⟨by rw[x5];exact aC⟩
instance {b U a}:au (ET b U a) (aOa a U) λr=>True:=⟨by rw[ET];exact aC⟩
instance {d U n b a}:au (ES d U n b a) (aN9 U/\aOf a (aN8 U) n) λr=>True:=by induction n generalizing b a;exact bJ;exact⟨by rw[ES];exact aC⟩
instance {U n b a}:au (Py N U n b a) (aN9 U/\aOf a (aN8 U) n) λr=>True:=by induction n generalizing b a;exact bJ;exact⟨by rw[Py];exact aC⟩
instance {b U d a}:au (aDm N b U d a) (aOa a b/\aN9 U) λr=>True:=⟨by rw[aDm];exact aC⟩
instance {b U n d a}:au (aBD N b U n d a) (aN9 b/\aN9 U/\aOf a (aN8 b) n) λr=>True:=by induction n generalizing d a;exact bJ;exact⟨by rw[aBD];exact aC⟩
instance {a d b}:au (aBE a d b) ((b=aa->0<a)) λr=>True:=⟨by rw[aBE];exact aC⟩
instance {a U}:au (HY N a U) (aN9 a/\aN9 U/\(∀w∈a,aN9 w.aOl)) λr=>True:=⟨by rw[HY];exact aC⟩
instance {b U e f a d}:au (aKZ b U e f d a) (aOa a b) λr=>True:=⟨by rw[aKZ];exact aC⟩
instance {b U e f a d}:au (Pg b U e f d a) (aOa a b) λr=>True:=⟨by rw[Pg];exact aC⟩
instance {b U f n e d a}:au (Gd b U f n e d a) (aN9 b/\aOf a (aN8 b) n) λr=>True:=by induction n generalizing e d a;exact bJ;exact⟨by rw[Gd];exact aC⟩
instance {a U b}:au (Ai N a U b) (aN9 a) λr=>True:=⟨by rw[Ai];exact aC⟩
instance {U a}:au (aBT U a) (True) λr=>True:=⟨by rw[aBT];exact aC⟩
instance {a U b}:au (RR N a U b) (aN9 a) λr=>True:=⟨by rw[RR];exact aC⟩
instance {a U b d e}:au (SV N a U b d e) (aN9 a/\aN9 U/\aN9 b/\(∀w∈a,aN9 w.aOl)) λr=>True:=⟨by rw[SV];exact aC⟩
end
section
variable {N:Nat}[gM N]
instance {a U}:au (vH a U) (True) λr=>True:=⟨by rw[vH];exact aC⟩
instance {a d e b}:au (aKq a d e b) (True) λr=>True:=⟨by rw[aKq];exact aC⟩
instance {d U a b}:au (HK d U a b) (True) λr=>True:=⟨by rw[HK];exact aC⟩
instance {a b}:au (aDH a b) (True) λr=>True:=⟨by rw[aDH];exact aC⟩
instance {U b e n d a}:au (aJj U b e n d a) (aOa b U/\aN9 U/\0<=a/\a<=b+1/\b+1-a<n) λr=>True:=by induction n generalizing d a;exact bJ;exact⟨by rw[aJj];exact aC⟩
instance {U b a d}:au (aLc U b d a) (aOa a U/\aOa b U/\aN9 U) λr=>True:=⟨by rw[aLc];exact aC⟩
instance {U b d n a}:au (aJk U b d n a) (aOa b U/\aN9 U/\aOf a b n) λr=>True:=by induction n generalizing a;exact bJ;exact⟨by rw[aJk];exact aC⟩
instance {U a b}:au (aLd U a b) (aOa a U/\aN9 U) λr=>True:=⟨by rw[aLd];exact aC⟩
instance {U n b a}:au (aJB U n b a) (aN9 U/\aOf a (aN8 U) n) λr=>True:=by induction n generalizing b a;exact bJ;exact⟨by rw[aJB];exact aC⟩
instance {U a d b}:au (aLe U a b d) (aOa a U/\aN9 U) λr=>True:=⟨by rw[aLe];exact aC⟩
instance {U a e b d}:au (E8 N U a d e b) (aOa a U/\aN9 U) λr=>True:=⟨by rw[E8];exact aC⟩
instance {b U a}:au (SB N b U a) (aOa a U/\aN9 U) λr=>True:=⟨by rw[SB];exact aC⟩
instance {a b d}:au (Gz a b d) (True) λr=>True:=⟨by rw[Gz];exact aC⟩
instance {U b a}:au (GB N U b a) (aOa a U/\aN9 b) λr=>True:=⟨by rw[GB];exact aC⟩
instance {U b d a}:au (PG N U b d a) (aOa a U/\aN9 b) λr=>True:=⟨by rw[PG];exact aC⟩
instance {U e b n d a}:au (GA N U e b n d a) (b<=aN8 U/\aN9 U/\aN9 e/\aOf a b n) λr=>True:=by induction n generalizing d a;exact bJ;exact⟨by rw[GA];exact aC⟩
instance {U d a n b}:au (GC N U d a n b) (a<=aN8 U/\aN9 U/\aOf b a n) λr=>True:=by induction n generalizing b;exact bJ;exact⟨by rw[GC];exact aC⟩
instance {d U b}:au (SY N d U b) (0<=d.a/\aN9 U/\aN9 b/\(∀w∈U,aN9 w.aOl)) λr=>True:=⟨by rw[SY];exact aC⟩
instance {b U a}:au (E7 b U a) (aOa a b) λr=>True:=⟨by rw[E7];exact aC⟩
instance {b U n a}:au (E6 b U n a) (aN9 b/\aOf a (aN8 b) n) λr=>True:=by induction n generalizing a;exact bJ;exact⟨by rw[E6];exact aC⟩
instance {a U}:au (HS N a U) (aN9 a) λr=>True:=⟨by rw[HS];exact aC⟩
instance {a b}:au (aAM a b) (True) λr=>True:=⟨by rw[aAM];exact aC⟩
instance {b U f d a e}:au (aAL b U f d e a) (aOa a b) λr=>True:=⟨by rw[aAL];exact aC⟩
instance {b U n f d e a}:au (aED b U n f d e a) (aN9 b/\aOf a (aN8 b) n) λr=>True:=by induction n generalizing f d e a;exact bJ;exact⟨by rw[aED];exact aC⟩
instance {a U}:au (yb N a U) (aN9 a) λr=>True:=⟨by rw[yb];exact aC⟩
instance {U}:au (Ga U) (True) λr=>r=ak->0<=U/\U<=16:=⟨by rw[Ga];exact aC⟩
instance {b a d}:au (Gb N b a d) (aN9 b/\aN9 a) λr=>aN8 r<=aN8 a+1:=⟨by rw[Gb];exact aC⟩
instance {d U n b a}:au (Pe N d U n b a) (aN9 d/\U<=16/\aOf a U n/\aN8 b<=a) λr=>True:=by induction n generalizing b a;exact bJ;exact⟨by rw[Pe];exact aC⟩
instance {a U}:au (Tc N a U) (aN9 a) λr=>True:=⟨by rw[Tc];exact aC⟩
end
section
def ame{a:Type}{b:Int}{f:Nat->Option a}{P:a->Prop}(h:0<=b/\b<=12)(g:∀y,y<=12->¬f y=ae/\∀r,f y=J r->P r):¬ab (j2 .i64 b) f=ae/\∀r,ab (j2 .i64 b) f=J r->P r:=by
 rw[show j2 .i64 b=_ from if_pos h.1];exact g _ (by omega)
@[grind->] theorem ayV{y:Nat}(h:y<=12):aO .i64 (1*((2 ^ y:Nat):Int))≠0:=by
 have b:2 ^ y<=2 ^ 12:=aEY (by omega) h;have a:0<2 ^ y:=aPX y;rw[Qb (by omega) (by omega)];omega
def amM{a:Int}{y:Nat}(h:0<=a)(k:a<=5000):0<=a.fdiv ((2 ^ y:Nat):Int)/\a.fdiv ((2 ^ y:Nat):Int)<=5000:=by
 rw[aFp _ (Int.natCast_nonneg _)];have:=Int.ediv_le_self ((2 ^ y:Nat):Int) h;exact⟨Int.ediv_nonneg h (Int.natCast_nonneg _),by omega⟩
def apn{b:Type}{a:Int}{y:Nat}{f:Int->Option b}{P:b->Prop}(h:0<=a/\a<=5000)(k:∀v,0<=v/\v<=5000->¬f v=ae/\∀r,f v=J r->P r):¬aF.lt (a.fdiv ((2 ^ y:Nat):Int)) f=ae/\∀r,aF.lt (a.fdiv ((2 ^ y:Nat):Int)) f=J r->P r:=k _ (amM h.1 h.2)
variable {N:Nat}[gM N]
instance {a U}:au (XO a U) (True) λr=>r=aa->0<=a/\a<13/\0<=U/\U<=12:=⟨by rw[XO];exact aC⟩
instance {a U}:au (Ta a U) (True) λr=>r=aa->0<=a/\a<13/\0<=U/\U<=12:=⟨by rw[Ta];exact aC⟩
instance {a U b}:au (FV a U b) (True) λr=>r=ak->0<=U/\U<=12/\0<=a/\a<4096:=⟨by intro _;rw[FV];(repeat' with_reducible first|intro _|apply ame (by grind -mbtc)|apply dh|apply T5|apply amb|refine dj (by omega) ?_|apply dk|apply df|apply dg)<;>grind -mbtc⟩
instance {n b a}:au (aJ0 n b a) (0<=a/\a<=5000/\a<n) λr=>True:=by induction n generalizing b a;exact bJ;exact⟨by rw[aJ0];exact aC⟩
instance {b U a}:au (Tk N b U a) (True) λr=>True:=⟨by intro _;rw[Tk];(repeat' with_reducible first|intro _|apply apn (by grind -mbtc)|apply dh|apply T5|apply di|apply df|apply dg)<;>grind -mbtc⟩
instance {a U b}:au (F8 a U b) (True) λr=>r=ak->0<=a:=⟨by rw[F8];exact aC⟩
instance {U d n b}:au (aFZ N U d n b) (0<=b/\b<=5000/\5000-b<n) λr=>∀a,r=.inr a->0<=a.1/\a.1<4096/\a.2=0:=by induction n generalizing b;exact bJ;exact⟨by rw[aFZ];exact aC⟩
instance {a U b}:au (qA N a U b) (a<=5000) λr=>r.2=0->0<=r.1/\r.1<4096:=⟨by rw[qA];exact aC⟩
instance {n a b}:au (O9 n a b) (0<=a/\a<n/\0<=b/\b+a<=5000) λr=>0<=r:=by induction n generalizing a b;exact bJ;exact⟨by rw[O9];exact aC⟩
instance {a}:au (tU N a) (0<=a/\a<=5000) λr=>0<=r:=⟨by rw[tU];exact aC⟩
instance {U f b d g e}:au (Ps N U f b d g e) (aOa e U.aN'/\aN9 U.aN'/\aN8 b=aN8 U.aN'/\nS b/\0<=d/\d<4096) λr=>(∀a,r=.inl a->aN8 a.2.1=aN8 U.aN'/\nS a.2.1/\0<=a.2.2/\a.2.2<4096)/\∀a,r=.inr a->a.2≠0:=⟨by rw[Ps];exact aC⟩
instance {U g n f b d e}:au (Pr N U g n f b d e) (aN9 U.aN'/\aOf e (aN8 U.aN') n/\aN8 b=aN8 U.aN'/\nS b/\0<=d/\d<4096) λr=>(∀a,r=.inl a->aN8 a.2.1=aN8 U.aN'/\nS a.2.1/\0<=a.2.2/\a.2.2<4096)/\∀a,r=.inr a->a.2≠0:=by induction n generalizing f b d e;exact bJ;exact⟨by rw[Pr];exact aC⟩
instance {U n f d e b}:au (EO N U n f d e b) (aN9 U.aN'/\0<=b/\b<=32/\(32:Int)-b<n/\aN8 d=aN8 U.aN'/\nS d/\0<=e/\e<4096) λr=>(∀a,r=.inl a->aN8 a.2.1=aN8 U.aN'/\nS a.2.1/\0<=a.2.2/\a.2.2<4096)/\∀a,r=.inr a->a.2≠0:=by induction n generalizing f d e b;exact bJ;exact⟨by rw[EO];exact aC⟩
instance {a}:au (Af N a) (aN9 a.aN') λr=>r.2=0->aN8 r.1.fW=aN8 a.aN'/\nS r.1.fW/\0<=r.1.aOm/\aN8 a.aN'<=96/\∀t∈a.aN',0<=t.pZ/\t.pZ<32:=⟨by rw[Af];exact aC⟩
instance {U a b}:au (XN U a b) (aOa a U/\aOa b U) λr=>aOa r U:=⟨by rw[XN];exact aC⟩
instance {U n a b}:au (afc U n a b) (aN9 U/\aOf b (aN8 U) n/\aOa a U) λr=>aOa r U:=by induction n generalizing a b;exact bJ;exact⟨by rw[afc];exact aC⟩
instance {U d f g e}:au (aKX N U d f g e) (aN8 U=aN8 d.aN'/\aN9 d.aN'/\nS U/\0<=f/\f<aN8 d.aN'/\0<=e/\e<aN8 d.aN') λr=>(r=aa->¬tV N d U f e g)/\(r=ak->(∀a b,al d.aN' e=J a->al d.aN' f=J b->a.pZ<b.pZ)):=⟨by rintro⟨m,i,h,j,k,l,n⟩;rw[aKX];(repeat' with_reducible first|intro _|apply dq|apply dh|refine dj (by omega) ?_|apply di|apply dk|apply df|apply dr|apply dg)<;>first|grind -mbtc|grind -mbtc[tV]⟩
instance {U d f g n e}:au (aJQ N U d f g n e) (aN8 U=aN8 d.aN'/\aN9 d.aN'/\nS U/\aOa f d.aN'/\0<=e/\(∃x:Int,e<=x/\x<aN8 d.aN'/\tV N d U f x g)/\aN8 d.aN'-e<n) λr=>aOa r d.aN'/\(∀a b,al d.aN' r=J a->al d.aN' f=J b->a.pZ<b.pZ):=by induction n generalizing e;exact bJ;exact⟨by rw[aJQ];exact aC⟩
instance {U b n d g f}:au (aJP N U b n d g f) (aN8 U=aN8 b.aN'/\aN9 b.aN'/\nS U/\(∀t∈b.aN',0<=t.pZ/\t.pZ<32)/\0<=d/\d<aN8 b.aN'/\(∀a,al b.aN' d=J a->a.pZ<n/\aN8 g+a.pZ<=200)/\(0<f->∃x:Int,0<=x/\x<aN8 b.aN'/\tV N b U d x f)) λr=>aN8 r<=200:=by induction n generalizing d g f with|zero=>exact⟨by rintro⟨m,k,j,l,_,_,_,_⟩;obtain⟨t,e⟩:=hT (xs:=b.aN') (i:=d) (by omega) (by omega);exfalso;grind -mbtc⟩|succ n h=>exact⟨by rintro⟨m,k,j,l,_,_,_,_⟩;rw[aJP];(repeat' with_reducible first|intro _|apply dq|apply dh|refine dj (by omega) ?_|apply di|apply dk|apply df|apply dr|apply dg)<;>clear h<;>first|grind -mbtc|(obtain⟨t,e⟩:=hT (xs:=b.aN') (i:=d) (by omega) (by omega);grind -mbtc)⟩
instance {a U}:au (afI N a U) (aN8 U=aN8 a.aN'/\aN9 a.aN'/\nS U/\(∀t∈a.aN',0<=t.pZ/\t.pZ<32)) λr=>aN8 r<=200:=⟨by rw[afI];exact aC⟩
instance {a}:au (HJ N a) (aN9 a.aN') λr=>aN8 r.1<=200:=⟨by rw[HJ];exact aC⟩
instance {a}:au (Tb N a) (aN9 a.aN') λr=>r.2=0->aN8 r.1.e9.fW=aN8 a.aN'/\aN8 a.aN'<=96/\0<=r.1.e9.aOm/\aN8 r.1.chain<=200:=⟨by rw[Tb];exact aC⟩
end
section
theorem alZ{c:c8}{y:bq}{b:Bool}(h:dC c y)(k:b=ak->y.cE=ak):dC c (bq.mk y.bD y.aH y.b2 y.aOb y.bo b):=by
 unfold dC ps mR at*;exact⟨h.1,h.2.1,h.2.2.1,h.2.2.2.1,h.2.2.2.2.1,h.2.2.2.2.2.1,λa b=>by have:=h.2.2.2.2.2.2.1 a (k b);unfold kC at*;exact this,h.2.2.2.2.2.2.2⟩
theorem al4(w:List Int)(y:bq)(b:Bool):kF w y (bq.mk y.bD y.aH y.b2 y.aOb y.bo b):=⟨_,_,rfl,λ_ h=>h⟩
def agr{c:c8}{y:bq}{p:Int}(h:dC c y)(d:p=y.bo.h9+1)(k:y.cE=ak->p<=y.bo.aOc.e9.aOm):dC c (bq.mk y.bD y.aH y.b2 y.aOb (eR.mk y.bo.bD y.bo.iP y.bo.aOc y.bo.aOs y.bo.aH p) y.cE):=by
 unfold dC ps mR at*;refine⟨h.1,h.2.1,h.2.2.1,h.2.2.2.1,h.2.2.2.2.1,h.2.2.2.2.2.1,λa b=>?_,h.2.2.2.2.2.2.2⟩;have:=h.2.2.2.2.2.2.1 a b;have k:=k b;unfold kC at*;simp only;exact⟨by omega,by omega,this.2.2⟩
def ags{x y:bq}{p:Int}(h:gH x)(b:x.aOb=aa)(f:x.cE=ak)(g:kF x.bo.bD x y):gH (bq.mk y.bD y.aH y.b2 y.aOb (eR.mk y.bo.bD y.bo.iP y.bo.aOc y.bo.aOs y.bo.aH p) y.cE):=by
 obtain⟨e,d,rfl,g⟩:=g;intro _ _ t a;exact g t (h b f t a)
def ZI{w:List Int}{x y:bq}(h:kF w x y):y.bo=x.bo:=by
 obtain⟨_,_,rfl,_⟩:=h;rfl
def al2{c:c8}{y:bq}(h:dC c y)(a:y.aOb=aa)(b:y.cE=ak):0<=y.bo.h9/\y.bo.h9<=1000000:=by
 unfold dC ps mR at h;have:=h.2.2.2.2.2.2.1 a b;unfold kC at this;omega
theorem ZH{c:c8}{y:bq}(h:dC c y):dC c (bq.mk y.bD y.aH y.b2 ak (eR.mk [] (b8.mk [] 0) (e8.mk (dF.mk 0 []) []) 0 [] 0) ak):=by
 unfold dC ps mR at*;exact⟨h.1,h.2.1,h.2.2.1,h.2.2.2.1,h.2.2.2.2.1,h.2.2.2.2.2.1,nofun,by simp,by simp,by simp,by simp,by simp,h.2.2.2.2.2.2.2.2.2.2.2.2⟩
theorem Y4{w:List bC}{s:List (List Int)}{o:List b7}{p:eR}{b:Bool}:gH (bq.mk w s o ak p b):=nofun
def Y9{f:List Int}{v:Int}{d y z a:b0}{A:Prop}{B:Prop}{C:Prop}{D:Prop}(h:A/\y.c=d.c/\B/\dC d.c y.y/\(∀W,v∈W->kF W d.y y.y)/\C)(k:z.c=y.c/\D/\(∃b,z.y=bq.mk y.y.bD y.y.aH y.y.b2 y.y.aOb y.y.bo b/\(b=ak->y.y.cE=ak))/\∀W,kF W y.y z.y)(l:a.c=z.c/\dC z.c a.y/\((∀i∈f,i∈z.y.bo.bD)->kF z.y.bo.bD z.y a.y))(m:v∈f):a.c=d.c/\dC d.c a.y/\((∀i∈f,i∈d.y.bo.bD)->kF d.y.bo.bD d.y a.y):=by
 obtain⟨_,n,_,x,q,_⟩:=h;obtain⟨j,_,_,r⟩:=k;obtain⟨l1,t,e⟩:=l;refine⟨by rw[l1,j,n],by rw[<-n,<-j];exact t,λw=>?_⟩;have s:=q _ (w _ m);have g:=TZ s (r _);have p:=ZI g;rw[p] at e;exact TZ g (e w)
def agu{d a z:b0}{q:Bool}(e:z.c=a.c/\(q=ak->z.y=bq.mk a.y.bD a.y.aH a.y.b2 a.y.aOb (eR.mk a.y.bo.bD a.y.bo.iP a.y.bo.aOc a.y.bo.aOs a.y.bo.aH (aO .i64 (a.y.bo.h9+1))) a.y.cE)/\(q=aa->z.y=(bq.mk a.y.bD a.y.aH a.y.b2 ak (eR.mk [] (b8.mk [] 0) (e8.mk (dF.mk 0 []) []) 0 [] 0) ak)))
  (g:q=ak->a.y.cE=ak->aO .i64 (a.y.bo.h9+1)<=a.y.bo.aOc.e9.aOm) (s:dC d.c d.y) (n:gH d.y) (b:d.y.aOb=aa) (f:d.y.cE=ak) (h:a.c=d.c/\dC d.c a.y/\kF d.y.bo.bD d.y a.y):z.c=d.c/\dC d.c z.y/\gH z.y:=by
 obtain⟨r,l,m⟩:=e;obtain⟨p,j,k⟩:=h;have t:=al2 s b f;have i:=ZI k;refine⟨by rw[r,p],?_⟩;cases q
 ·rw[l rfl];rw[Qb (by rw[i];omega) (by rw[i];omega)] at g⊢;exact⟨agr j rfl (g rfl),ags n b f k⟩
 ·rw[m rfl];exact⟨ZH j,Y4⟩
variable {N:Nat}[gM N]
instance {a d b}:au (NT a d b) (0<=b/\b<aN8 a.e.aH/\(∀t∈a.e.aH,0<=t/\t<aN8 a.y.aH)) λr=>r=aa->d=aa/\∀t,al a.e.aH b=J t->al a.y.aH t=J []:=⟨by rintro⟨h,g,f⟩;rw[NT];(repeat' with_reducible first|intro _|apply dq|apply dh|refine dj (by omega) ?_|apply di|apply dk|apply df|apply dr|apply dg)<;>first|grind -mbtc|grind -mbtc[BF]⟩
instance {a n d b}:au (FG a n d b) (aN9 a.e.aH/\(∀t∈a.e.aH,0<=t/\t<aN8 a.y.aH)/\0<=b/\b<=(aN8 a.e.aH:Int)/\(aN8 a.e.aH:Int)-b<n) λr=>r=aa->d=aa/\∀t∈a.e.aH.drop b.toNat,al a.y.aH t=J []:=by induction n generalizing d b with|zero=>exact bJ|succ n f=>exact⟨by rintro⟨h,g,_,_,_⟩;rw[FG];(repeat' with_reducible first|intro _|apply dq|apply dh|refine dj (by omega) ?_|apply di|apply dk|apply df|apply dr|apply dg)<;>clear f<;>first|grind -mbtc|(obtain⟨t,e⟩:=hT (xs:=a.e.aH) (i:=b) (by omega) (by omega);have:=sT e;grind -mbtc)⟩
instance {b d n g e f}:au (aEj N b d n g e f) (aN8 b.y.b2<=8/\(∀o∈b.y.b2,aN9 o.c7)/\aN8 d<=40000/\(∀i∈d,aOa i b.y.bD)/\aOf e (aN8 d) n/\aN8 f=e/\(∀i∈f,aOa i.dS b.y.b2)) λr=>(∀a,r=.inl a->aN8 a.2=aN8 d/\a.1.dO=g.dO/\∀i∈a.2,aOa i.dS b.y.b2)/\∀a,r=.inr a->a≠0:=by induction n generalizing g e f;exact bJ;exact⟨by rw[aEj];exact aC⟩
instance {b e d a f}:au (aKv N b e a d f) (aN8 b.y.b2<=8/\(∀o∈b.y.b2,aN9 o.c7)/\(∀i∈a,aOa i b.y.bD)/\d=aN8 a/\aN8 a<=40000/\aOa e f) λr=>True:=⟨by rw[aKv];exact aC⟩
instance {b d f n e}:au (aB9 N b d f n e) (aN8 b.y.b2<=8/\(∀o∈b.y.b2,aN9 o.c7)/\aN8 d<=40000/\aN8 f=aN8 d/\(∀i∈f,aOa i.dS b.y.b2)/\(∀o∈b.y.b2,aOa o.cq b.y.aH)/\(∀t∈b.y.aH,aN8 t<=40000/\∀i∈t,aOa i b.y.bD)/\aOf e (aN8 d) n) λr=>∀a,r=.inr a->a≠0:=by induction n generalizing e;exact bJ;exact⟨by rw[aB9];exact aC⟩
instance {a}:au (Sq N a) (dC a.c a.y/\iW a.e) λr=>r.1=0->r.2.c=a.c/\dC a.c r.2.y/\gH r.2.y:=⟨by rintro⟨d,b⟩;rw[Sq];(repeat' with_reducible first|intro _|apply dq|apply dh|refine dj (by omega) ?_|apply di|apply dk|apply df|apply dr|apply dg)<;>first|grind -mbtc[dC]|(simp only[IF,AA] at*;grind -mbtc[l3])⟩
instance {a U d b}:au (RH N a U d b) (dC a.c a.y/\aN9 b) λr=>aN8 r.2.1<=aN8 b+1/\r.2.2.c=a.c/\r.2.2.e=a.e/\dC a.c r.2.2.y/\(∀W,U∈W->kF W a.y r.2.2.y)/\nu d a.y r.2.2.y:=⟨by rintro⟨g,f⟩;rw[RH];simp only[gq];(repeat' with_reducible first|intro _|apply dq|apply dh|refine dj (by omega) ?_|apply di|apply dk|apply df|apply dr|apply dg)<;>first|grind -mbtc[dC]|grind -mbtc[AS,AR,uD,uC,dC]⟩
instance {d a b}:au (aEk d a b) (True) λr=>r=ak->aOa b.aOe a:=⟨by rw[aEk];exact aC⟩
instance {d f n b}:au (NU d f n b) (aN9 d.e.hD/\aOf b (aN8 d.e.hD) n) λr=>(r=.inl ()->∀s∈d.e.hD.drop b.toNat,aOa s.aOe f)/\∀a,r=.inr a->a≠0:=by induction n generalizing b;exact bJ;exact⟨by rw[NU];exact aC⟩
instance {f d n b}:au (aBl f d n b) (aOa d f.e.hD/\aN9 f.e.hD/\aOf b d n) λr=>∀a,r=.inr a->a≠0:=by induction n generalizing b;exact bJ;exact⟨by rw[aBl];exact aC⟩
instance {d n b}:au (aB' N d n b) (aN9 d.e.hD/\aOf b (aN8 d.e.hD) n) λr=>∀a,r=.inr a->a≠0:=by induction n generalizing b;exact bJ;exact⟨by rw[aB'];exact aC⟩
instance {d g n b f}:au (aDw d g n b f) (aN9 d.e.hD/\aOf f (aN8 d.e.hD) n/\(∀s∈d.e.hD,aOa s.aOe b)) λr=>(∀a,r=.inl a->aN8 a=aN8 b)/\∀a,r=.inr a->a≠0:=by induction n generalizing b f;exact bJ;exact⟨by rw[aDw];exact aC⟩
instance {a f g d}:au (aK6 a f g d) (aOa d f/\d<aN8 g) λr=>r.c=a.c/\r.e=a.e/\(∃b,r.y=bq.mk a.y.bD a.y.aH a.y.b2 a.y.aOb a.y.bo b/\(b=ak->a.y.cE=ak))/\∀W,kF W a.y r.y:=⟨by rw[aK6];(repeat' with_reducible first|intro _|apply dq|apply dh|refine dj (by omega) ?_|apply di|apply dk|apply df|apply eC|apply dr|apply dg)<;>first|grind -mbtc[uD,al4]|grind⟩
instance {d g j n b e f}:au (aJi N d g j n b e f) (aN8 d<=aN8 g/\aN8 d<=aN8 j/\aN8 d<=40000/\0<=e/\e<=(aN8 d:Int)/\(aN8 d:Int)-e<n/\dC b.c b.y/\aN8 f<=1000+e) λr=>iX r (λa=>a.1.c=b.c/\dC b.c a.1.y/\((∀i∈d,i∈b.y.bo.bD)->kF b.y.bo.bD b.y a.1.y))/\fh r λa=>a.2.1≠0:=by induction n generalizing b e f with|zero=>exact bJ|succ n k=>exact⟨by rintro⟨m,l,p,_,_,_,_,_⟩;rw[aJi];(repeat' with_reducible first|intro _|apply dq|apply dh|refine dj (by omega) ?_|apply di|apply dk|apply df|apply eC|apply dr|apply dg)<;>clear k<;>first|grind -mbtc|grind -mbtc[uD,alZ]|exact⟨Y9 (by assumption) (by assumption) (by rename_i h;exact h.1) (lP (by assumption)),trivial⟩|exact Y9 (by assumption) (by assumption) (by rename_i h;exact h.1) (lP (by assumption))⟩
instance {a}:au (aK7 a) (True) λr=>r=ak->a.y.cE=ak->a.y.bo.h9<=a.y.bo.aOc.e9.aOm:=⟨by rw[aK7];exact aC⟩
instance {a b d}:au (aK8 a b d) (True) λr=>r.c=a.c/\(b=ak->r.y=a.y)/\(b=aa->r.y=bq.mk a.y.bD a.y.aH a.y.b2 ak (eR.mk [] (b8.mk [] 0) (e8.mk (dF.mk 0 []) []) 0 [] 0) ak):=⟨by rw[aK8];exact aC⟩
instance {a b}:au (Sr N a b) (dC a.c a.y/\gH a.y/\iW a.e/\aN8 b<=1000) λr=>r.1=0->r.2.c=a.c/\dC a.c r.2.y/\gH r.2.y:=⟨by rintro⟨f,d,g,h⟩;rw[Sr];(repeat' with_reducible first|intro _|apply dq|apply dh|refine dj (by omega) ?_|apply di|apply dk|apply df|apply eC|apply dr|apply dg)<;>first|grind -mbtc[dC]|grind -mbtc[gH,AG,l3]|(dsimp only at*;exact agu (by assumption) (by assumption) f d (by grind -mbtc) (by grind -mbtc) (by first|grind -mbtc|grind -mbtc[gH,AG,l3]))|((try simp only[IF,AA] at*);first|grind -mbtc[dC]|grind -mbtc[dC,gH,AG,l3])⟩
end
section
theorem agt{w:List Int}{s r:List (List Int)}{t:Int}{q:List Int}(h:AJ w s r)(e:al r t=J q)(z:(aN8 q:Int)=0):l3 w s t:=λp f i a=>by
 obtain⟨d,b,k⟩:=h t p f;obtain rfl:q=d:=kB.inj (e.symm.trans b);obtain rfl:=BF z;exact(k i a).elim id (by simp)
theorem al5{w:List Int}{x y:bq}{t:Int}(h:kF w x y)(g:l3 w x.aH t):l3 w y.aH t:=by
 obtain⟨_,_,rfl,k⟩:=h;exact k t g
variable {N:Nat}[gM N]
instance {a}:au (Ro a) (True) λr=>r.c=a.c/\r.y=bq.mk a.y.bD a.y.aH a.y.b2 ak (eR.mk [] (b8.mk [] 0) (e8.mk (dF.mk 0 []) []) 0 [] 0) ak:=⟨by intro _;rw[Ro];(repeat' with_reducible first|intro _|apply dq|apply dh|refine dj (by omega) ?_|apply di|apply dk|apply df|apply eC|apply dr|apply dg)<;>grind⟩
instance {a b d}:au (RG N a b d) (dC a.c a.y/\iW a.e/\aN8 b<=1000/\aN8 d<=1000) λr=>r.1=0->r.2.c=a.c/\dC a.c r.2.y/\gH r.2.y:=⟨by rintro⟨i,g,f,h⟩;rw[RG];(repeat' with_reducible first|intro _|apply dq|apply dh|refine dj (by omega) ?_|apply di|apply dk|apply df|apply eC|apply dr|apply dg)<;>(try dsimp only at*)<;>first|grind -mbtc[dC]|((try simp only[IF,AA] at*);first|grind -mbtc[dC,ZH,Y4]|grind -mbtc[->agt,->al5,kF,BF,dC])⟩
end
section
def amp{b:List UInt8}{k a p q i:Int}{d:UInt8}(h:jF b k p)(j:0<k)(e:al b i=J d)(f:i=p+14)(g:q=p+15+d.toNat)(l:a=k-1):jF b a q:=by
 subst f;exact ZU h j e g l
theorem azF{b:List UInt8}{k a p q i:Int}{d:UInt8}(j:0<k)(f:i=p+14)(g:q=p+15+d.toNat)(l:a=k-1)(e:al b i=J d)(h:jF b k p):jF b a q:=amp h j e f g l
attribute [grind<=] azF
theorem al3{c:c8}{y:bq}{e:List bC}(h:dC c y)(a:aN8 y.bD<=aN8 e)(b:aN8 e<=192)(d:∀w∈e,aN8 w.aOl<=1000000):dC c (bq.mk e y.aH y.b2 y.aOb y.bo y.cE):=by
 unfold dC ps mR dP kC at*;simp only at*;refine⟨h.1,h.2.1,⟨h.2.2.1.1,λt f=>⟨(h.2.2.1.2 t f).1,λi g=>?_⟩⟩,b,h.2.2.2.2.1,h.2.2.2.2.2.1,h.2.2.2.2.2.2.1,h.2.2.2.2.2.2.2.1,h.2.2.2.2.2.2.2.2.1,h.2.2.2.2.2.2.2.2.2.1,h.2.2.2.2.2.2.2.2.2.2.1,h.2.2.2.2.2.2.2.2.2.2.2.1,d⟩;have:=(h.2.2.1.2 t f).2 i g;omega
theorem agm{e g:List bC}{s:List (List Int)}{o:List b7}{b f:Bool}{p:eR}{z:bq}{t:Int}(h:gH (bq.mk e s o b p f))(k:nu t (bq.mk g s o b p f) z)(f:f=ak)(n:b=aa->t≠p.aOs/\t∉p.aH):gH z:=by
 obtain⟨s,b,rfl,k⟩:=k;intro d _ u a;refine k _ u ?_ (h d f u a);rintro rfl;rcases a with a|a
 ·exact(n d).1 a
 ·exact(n d).2 a
variable {N:Nat}[gM N]
instance {b n f e}:au (OS b n f e) (aN9 b/\0<aN8 b/\0<=f/\f<=aN8 b/\0<=e/\e<=256/\256-e<n) λr=>(∀a,r=.inl a->0<=a/\a<=aN8 b/\∀d,al b 0=J d->jF b (d.toNat-e) f)/\∀a,r=.inr a->a= -1:=by induction n generalizing f e with|zero=>exact bJ|succ n g=>exact⟨by rintro⟨i,h,_,_,_,_,_⟩;rw[OS];exact aOr (oE @xA (oE @amn @ZR))⟩
instance {a}:au (Tj N a) (aN9 a) λr=> -1<=r/\(0<=r->2<=r/\0<aN8 a/\r<=aN8 a/\∀d,al a 0=J d->jF a d.toNat 1):=⟨by rw[Tj];exact aC⟩
instance {a}:au (H8 a) (2<=aN8 a) λr=>True:=⟨by rw[H8];exact aC⟩
instance {b a}:au (aK' b a) (aOa a b) λr=>True:=⟨by rw[aK'];exact aC⟩
instance {e n d b}:au (N6 e n d b) (6<=aN8 e/\0<=b/\b<=6/\(6:Int)-b<n/\aN8 d<=2*b) λr=>fh r λa=>a≠0:=by induction n generalizing d b;exact bJ;exact⟨by rw[N6];exact aC⟩
instance {a}:au (aLa a) (14<=aN8 a) λr=>True:=⟨by rw[aLa];exact aC⟩
instance {e n g f b}:au (N5 N e n g f b) (aN9 e/\0<aN8 e/\0<=f/\f<=aN8 e/\0<=b/\b<=256/\256-b<n/\(∀d,al e 0=J d->jF e (d.toNat-b) f)/\aN8 g<=b/\(∀w∈g,aN9 w.aOl)) λr=>iX r (λa=>aN8 a<=256/\∀w∈a,aN9 w.aOl)/\fh r λa=>a≠0:=by induction n generalizing g f b with|zero=>exact bJ|succ n h=>exact⟨by rintro⟨k,i,_,_,_,_,_,_,_,_⟩;rw[N5];(repeat' with_reducible first|intro _|apply dq|apply dh|refine dj (by omega) ?_|apply di|apply dk|apply df|apply eC|apply dr|apply dg)<;>clear h<;>first|grind -mbtc[xA]|grind -mbtc[xA,->Jh,UK]|(simp only[sG,List.take_length] at*;(repeat' apply oE)<;>first|grind -mbtc[xA,->Jh,UK]|(intro d j;subst_vars;grind -mbtc[xA,->Jh,UK]))⟩
instance {a}:au (gy N a) (aN9 a) λr=>aN8 r.1<=256/\(∀w∈r.1,aN9 w.aOl)/\(r.2=0->aN8 r.1<=96):=⟨by rw[gy];exact aC⟩
instance {d b a}:au (Es N d b a) (aN9 a.aH) λr=>r=ak->d.y.cE=ak/\(d.y.aOb=aa->b≠a.aOs/\b∉a.aH):=⟨by rw[Es];exact aC⟩
instance {b e d a f}:au (aAU b d a f e) (aOa a e/\aOa d b) λr=>True:=⟨by rw[aAU];exact aC⟩
instance {f g e d h n b}:au (Et N f g d h e n b) (aOa h g/\aN8 f.y.aH<=1000/\(∀t∈f.y.aH,aN9 t)/\d=aN8 e/\aN9 e/\aOf b d n) λr=>fh r λa=>a≠0:=by induction n generalizing b;exact bJ;exact⟨by rw[Et];exact aC⟩
instance {f b e g n d}:au (NE N f b g e n d) (aN9 b/\aN9 e/\aN8 f.y.aH<=1000/\(∀t∈f.y.aH,aN9 t)/\g=aN8 e/\aOf d (aN8 b) n) λr=>fh r λa=>a≠0:=by induction n generalizing d;exact bJ;exact⟨by rw[NE];exact aC⟩
instance {h f e n b d g}:au (aJp N h e f n b d g) (aN8 e<=1000/\0<=f/\f<=1000/\0<=d/\d<=(aN8 e:Int)/\(aN8 e:Int)-d<n/\dC b.c b.y/\aN8 g<=1000+d) λr=>(∀a,r=.inl a->a.1.c=b.c/\dC b.c a.1.y/\nu h b.y a.1.y)/\∀a,r=.inr a->a.2.1≠0:=by induction n generalizing b d g with|zero=>exact bJ|succ n i=>exact⟨by rintro⟨l,k,j,_,_,_,_,_⟩;rw[aJp];(repeat' with_reducible first|intro _|apply dq|apply dh|refine dj (by omega) ?_|apply di|apply dk|apply df|apply eC|apply dr|apply dg)<;>clear i<;>first|grind -mbtc|grind -mbtc[TY,uC]⟩
instance {a b d}:au (RC N a b d) (dC a.c (bq.mk b a.y.aH a.y.b2 a.y.aOb a.y.bo a.y.cE)/\gH (bq.mk b a.y.aH a.y.b2 a.y.aOb a.y.bo a.y.cE)/\iW a.e/\aN8 d<=1000) λr=>r.1=0->r.2.2.c=a.c/\dC a.c r.2.2.y/\gH r.2.2.y:=⟨by rintro⟨i,g,f,h⟩;rw[RC];(repeat' with_reducible first|intro _|apply dq|apply dh|refine dj (by omega) ?_|apply di|apply dk|apply df|apply eC|apply dr|apply dg)<;>(try dsimp only at*)<;>first|grind -mbtc[dC]|grind -mbtc[al3,->agm]⟩
end
section
structure qE(c:c8):Prop where
 a:pN c
 b:aN8 c.table<=1000000
attribute [grind->] qE.a qE.b
theorem al1{c:c8}{y:bq}{i j k:Nat}(h:dC c y)(b:y.aOb=ak)(a:i<=j):dC c (bq.mk y.bD y.aH (y.b2.take i++(y.b2.take k).drop j) y.aOb y.bo y.cE):=by
 unfold dC ps mR at*;refine⟨h.1,h.2.1,h.2.2.1,h.2.2.2.1,?_,λo d=>h.2.2.2.2.2.1 o ?_,λe=>by simp_all,h.2.2.2.2.2.2.2⟩
 ·have:=h.2.2.2.2.1;simp only[List.length_append,List.length_take,List.length_drop];omega
 ·rcases kU.1 d with d|d
  ·exact aKg d
  ·exact aKg (List.mem_of_mem_drop d)
theorem ZG{t:Int}{y z:bq}(h:nu t y z):z.aOb=y.aOb/\z.b2=y.b2:=by
 obtain⟨_,_,rfl,_⟩:=h;exact⟨rfl,rfl⟩
def alY{c:c8}{s:List (List Int)}(h:0<aN8 c.aH)(a:aN8 c.aH<=24)(b:aN8 s=aN8 c.aH)(d:∀t∈s,t=[]):dC c (bq.mk [] s [] ak (eR.mk [] (b8.mk [] 0) (e8.mk (dF.mk 0 []) []) 0 [] 0) ak):=by
 unfold dC ps mR dP;refine⟨h,b,⟨by simp only;omega,λt e=>?_⟩,by simp,by simp,by simp,nofun,by simp,by simp,by simp,by simp,by simp,by simp⟩;rw[d t e];simp
theorem al0{c:c8}{y:bq}(h:dC c y):aN8 y.b2<=8:=by
 unfold dC ps mR at h;exact h.2.2.2.2.1
theorem awU(y:bq):bq.mk y.bD y.aH y.b2 y.aOb y.bo y.cE=y:=rfl
def afn{a b c y:eb}{i:Int}(h:al [a,b,c] i=J y)(f:iW a)(d:iW b)(e:iW c):iW y:=by
 have:=lP h;simp at this;rcases this with rfl|rfl|rfl<;>assumption
instance {d:Type}{a:List d}{b c:Int}:au (LJ a b c) (0<=b/\b<=aN8 a/\b<=4294967296/\b=c) λr=>r=a.take b.toNat:=G1 rfl
variable {N:Nat}[gM N]
instance {b U e n d}:au (EU N b U e n d) ((∀t∈b,0<=t.a)/\aN9 b/\aN9 U/\aN9 e/\(∀w∈U,aN9 w.aOl)/\aOf d (aN8 b) n) λr=>True:=by induction n generalizing d;exact bJ;exact⟨by rw[EU];exact aC⟩
instance {b U a}:au (SX N b U a) (aN9 b/\aN9 U/\aN9 a/\(∀w∈U,aN9 w.aOl)) λr=>True:=⟨by rw[SX];exact aC⟩
instance {a b}:au (GJ a b) (aOa b a/\aN9 a) λr=>True:=⟨by rw[GJ];exact aC⟩
instance {g d n f e b}:au (GI g d n f e b) (aN9 d/\aOf b (aN8 d) n/\aN8 e<=b) λr=>∀a,r=.inl a->aN9 a.2:=by induction n generalizing f e b;exact bJ;exact⟨by rw[GI];exact aC⟩
instance {b U a}:au (H2 N b U a) (qE b/\aN9 U.aOg/\aN9 U.c7/\(∀d∈U.c7,aN9 d)/\aN9 a/\(∀w∈a,aN9 w.aOl)) λr=>True:=⟨by rw[H2];exact aC⟩
instance {a U d b}:au (Ra N a U d b) (dC a.c a.y/\aN9 b) λr=>aN8 r.2.1<=aN8 b+1/\r.2.2.c=a.c/\r.2.2.e=a.e/\dC a.c r.2.2.y/\(∀W,U∈W->kF W a.y r.2.2.y)/\nu d a.y r.2.2.y:=⟨by rintro⟨g,f⟩;rw[Ra];simp only[gq];(repeat' with_reducible first|intro _|apply dq|apply dh|refine dj (by omega) ?_|apply di|apply dk|apply df|apply dr|apply dg)<;>first|grind -mbtc[dC]|grind -mbtc[AS,AR,uD,uC,dC]⟩
instance {e d n a b}:au (aAV e d n a b) (aN8 d<=40000/\(∀i∈d,aOa i e.y.bD)/\(∀w∈e.y.bD,aN9 w.aOl)/\aOf b (aN8 d) n/\aN8 a<=b/\(∀w∈a,aN9 w.aOl)) λr=>aN8 r<=40000/\∀w∈r,aN9 w.aOl:=by induction n generalizing a b;exact bJ;exact⟨by rw[aAV];exact aC⟩
instance {d n a b e}:au (aAW N d n a b e) (aN8 d<=40000/\0<=b/\b<=(aN8 d:Int)/\(aN8 d:Int)-b<n/\dC a.c a.y/\aN8 e<=1000+b) λr=>r.1.c=a.c/\dC a.c r.1.y/\nu (-1) a.y r.1.y:=by induction n generalizing a b e with|zero=>exact bJ|succ n f=>exact⟨by rintro⟨g,_,_,_,_,_⟩;rw[aAW];exact aOr (oE @TY @uC)⟩
instance {n b d e f}:au (Eu N n b d e f) (0<=d/\d<=(aN8 e:Int)/\(aN8 e:Int)-d<n/\dC b.c (bq.mk b.y.bD b.y.aH e b.y.aOb b.y.bo b.y.cE)/\qE b.c/\b.y.aOb=ak/\aN8 f<=1000) λr=>fh r λa=>a.2.1=0->a.1.c=b.c/\dC b.c a.1.y/\a.1.y.aOb=ak:=by induction n generalizing b d e f with|zero=>exact bJ|succ n g=>exact⟨by rintro⟨_,_,_,_,_,_,_⟩;rw[Eu];(repeat' with_reducible first|intro _|apply dq|apply dh|refine dj (by omega) ?_|apply di|apply dk|apply df|apply eC|apply dr|apply dg)<;>clear g<;>((try dsimp only at*)<;>first|grind -mbtc[dC]|grind -mbtc[dC,->ZG]|grind -mbtc[al1,->ZG,->al0])⟩
instance {a d b}:au (RD N a d b) (dC a.c (bq.mk a.y.bD a.y.aH d a.y.aOb a.y.bo a.y.cE)/\qE a.c/\aN8 b<=1000) λr=>r.1=0->r.2.2.c=a.c/\dC a.c r.2.2.y/\gH r.2.2.y:=⟨by rintro⟨g,f,e⟩;rw[RD];(repeat' with_reducible first|intro _|apply dq|apply dh|refine dj (by omega) ?_|apply di|apply dk|apply df|apply eC|apply dr|apply dg)<;>((try dsimp only at*)<;>first|grind -mbtc|grind -mbtc[dC]|grind -mbtc[gH])⟩
instance {a f i b d g h}:au (Pl N a f i b d g h) (dC a.c (bq.mk b a.y.aH d a.y.aOb a.y.bo a.y.cE)/\gH (bq.mk b a.y.aH d a.y.aOb a.y.bo a.y.cE)/\iW a.e/\qE a.c/\g=[]/\h=[]/\f≠0) λr=>r.2=0->dC a.c r.1.y/\gH r.1.y:=⟨by rintro⟨p,k,j,l,m,n,q⟩;rw[Pl];(repeat' with_reducible first|intro _|apply dq|apply dh|refine dj (by omega) ?_|apply di|apply dk|apply df|apply eC|apply dr|apply dg)<;>((try dsimp only at*)<;>first|grind -mbtc|grind -mbtc[dC,gH])⟩
instance {a U b}:au (Tf N a U b) (dC a U/\gH U/\iW b/\qE a) λr=>dC a r.1/\gH r.1:=⟨by rintro⟨g,e,d,f⟩;rw[Tf];(repeat' with_reducible first|intro _|apply dq|apply dh|refine dj (by omega) ?_|apply di|apply dk|apply df|apply eC|apply dr|apply dg)<;>((try dsimp only at*)<;>first|grind -mbtc[awU]|(simp_all;done)|grind -mbtc[dC])⟩
instance {b a}:au (aCN b a) (True) λr=>r=aa->a<3:=⟨by rw[aCN];exact aC⟩
instance {j g n b f d a}:au (aAN N j g n b f d a) (qE g/\0<=a/\a<=3/\3-a<n/\0<=b.n/\b.n+3000*(3-a)<=500000000000/\dC g f/\gH f/\aN8 d<=1000+a/\(∀e∈d,iW e)) λr=>b.n<=r.1.n/\r.1.n<=b.n+3000*(3-a)/\dC g r.2.1/\gH r.2.1/\(aN8 r.2.2:Int)<=aN8 d+3-a/\∀e∈r.2.2,iW e:=by induction n generalizing b f d a with|zero=>exact bJ|succ n h=>exact⟨by rintro⟨k,_,_,_,_,_,_,_,_,_⟩;rw[aAN];(repeat' with_reducible first|intro _|apply dq|apply dh|refine dj (by omega) ?_|apply di|apply dk|apply df|apply eC|apply dr|apply dg)<;>clear h<;>first|grind -mbtc|(refine⟨by omega,by omega,?_⟩;exact by assumption)|(simp only[List.length_cons,List.length_nil];grind -mbtc)|(have i:=afn (by assumption) (by simp[iW]) (by simp[iW]) (by grind -mbtc);clear k;grind -mbtc)|(have i:=afn (by assumption) (by simp[iW]) (by simp[iW]) (by grind -mbtc);grind -mbtc[dC])⟩
instance {g n b f d a}:au (aCO N g n b f d a) (qE g/\0<=a/\a<n/\0<=b.n/\b.n+3000*a<=500000000000/\dC g f/\gH f/\aN8 d+a<=10000/\(∀e∈d,iW e)) λr=>b.n<=r.1.n/\r.1.n<=b.n+3000*a/\aN8 r.2<=aN8 d+a/\∀e∈r.2,iW e:=by induction n generalizing b f d a with|zero=>exact bJ|succ n h=>exact⟨by rintro⟨i,_,_,_,_,_,_,_,_⟩;rw[aCO];exact aOr @dC.eq_1⟩
instance {a U b}:au (Rq N a U b) (qE U/\0<=b/\b<=100/\0<=a.n/\a.n<=100000000) λr=>a.n<=r.2.n/\r.2.n<=a.n+1000000/\aN8 r.1<=200/\∀e∈r.1,iW e:=⟨by rintro⟨i,f,d,g,h⟩;rw[Rq];exact aOr (oE @alY @gH.eq_1)⟩
end
section
def amo{b:List UInt8}{k a p q i:Int}{d:UInt8}(l:0<k)(e:al b i=J d)(g:i=p+14)(f:q<=aN8 b)(j:q=p+15+d.toNat)(m:a=k-1)(h:jF b a q):jF b k p:=by
 subst g j m;exact ZT l e f h
theorem azG{b:List UInt8}{k a p q i:Int}{d:UInt8}(l:0<k)(g:i=p+14)(f:q<=aN8 b)(j:q=p+15+d.toNat)(m:a=k-1)(e:al b i=J d)(h:jF b a q):jF b k p:=amo l e g f j m h
attribute [grind<=] azG
def azt(x:UInt8):Nat:=x.toNat
theorem azJ{x:UInt8}:x.toNat=min 255 (azt x):=by
 have:=x.toNat_lt;show azt x=_;have e:azt x=x.toNat:=rfl;omega
attribute [grind=] azJ
@[grind=] theorem Jn{b:Type}{a:List b}:a.drop (sF 0)=a:=rfl
def aPg(i:Int):Prop:=(97<=i/\i<=122)\/(48<=i/\i<=57)
def aOV(s:List UInt8):Prop:=∀c∈s,aPg c.toNat
def aOU(s:List UInt8):Prop:=0<aN8 s/\aN8 s<=12/\aOV s
def aQ0{s:List UInt8}{k:Int}{c:UInt8}(g:al s k=J c)(f:aPg c.toNat)(h:aOV (s.drop (k+1).toNat)):aOV (s.drop k.toNat):=λv m=>by
 rw[sT g] at m;rcases ha.mp m with rfl|m
 ·exact f
 ·exact h v m
def aQ1{s:List UInt8}{k:Int}(h:(aN8 s:Int)<=k):aOV (s.drop k.toNat):=by rw[axi h];intro w m;simp at m
def aQZ{s:List UInt8}{k:Int}{c:UInt8}(g:al s k=J c)(f:¬aPg c.toNat):¬aOV s:=λh=>f (h c (lP g))
def aOF(l:List bC):Prop:=∀w∈l,aOU w.aOl
theorem aQJ{l:List bC}{k:Int}{w:bC}(h:aOF l)(g:al l k=J w):aOU w.aOl:=h w (lP g)
def pY(w:bC):Prop:=0<w.aOh/\w.aOh<=400/\0<w.gv/\w.gv<=2000/\0<=w.lJ/\w.lJ<=2000/\0<=w.iL/\w.iL<=6/\aN8 w.aOl<=12/\aN8 w.aOj<=12/\aOU w.aOl
attribute [grind] pY
attribute [grind->] aQJ
variable {N:Nat}[gM N]
instance {b a}:au (LZ b a) (aOa a b) λr=>True:=⟨by rw[LZ];exact aC⟩
instance {d n a}:au (DI d n a) (aN9 d/\aOf a (aN8 d) n) λr=>fh r λb=>b=ak:=by induction n generalizing a;exact bJ;exact⟨by rw[DI];exact aC⟩
instance {a U}:au (QX N a U) (aN9 a) λr=>r=aa->(aN8 a:Int)=U:=⟨by rw[QX];exact aC⟩
instance {a b}:au (Db a b) (0<=a/\a<=255) λr=>0<=r/\r<=1000:=⟨by rw[Db];exact aC⟩
instance {d n a b}:au (Ml d n a b) (aN9 d/\aOf b (aN8 d) n/\0<=a/\a<=1000*b) λr=>0<=r/\r<=1000000000:=by induction n generalizing a b;exact bJ;exact⟨by rw[Ml];exact aC⟩
instance {a}:au (Hq N a) (aN9 a) λr=>0<=r/\r<=1000000000:=⟨by rw[Hq];exact aC⟩
instance {a}:au (Q3 N a) (aN9 a) λr=>True:=⟨by rw[Q3];exact aC⟩
instance {a}:au (Q2 N a) (aN9 a) λr=>(r=0->aN8 a=12)/\r≠7/\r≠12:=⟨by rw[Q2];exact aC⟩
instance {a b}:au (C1 a b) (True) λr=>True:=⟨by rw[C1];exact aC⟩
instance {a b}:au (aDb a b) (True) λr=>True:=⟨by rw[aDb];exact aC⟩
instance {a}:au (Q9 N a) (aN9 a) λr=>(r.2=0->aN8 a=12)/\r.2≠7/\r.2≠12:=⟨by rw[Q9];exact aC⟩
instance {a}:au (Ru a) (True) λr=>0<=r/\r<=6:=⟨by rw[Ru];exact aC⟩
instance {a}:au (aKM a) (True) λr=>r=ak↔aPg a:=⟨by rw[aKM];exact aOr @aPg.eq_1⟩
instance {a n d}:au (D4 a n d) (aN9 a/\aOf d (aN8 a) n) λr=>iX r (λ_=>aOV (a.drop d.toNat))/\fh r λb=>b=ak/\¬aOV a:=by induction n generalizing d;exact bJ;exact⟨by rw[D4];exact aOr (oE @aQ1 (oE @aQ0 @aQZ))⟩
instance {a}:au (aKN a) (True) λr=>r=aa↔0<aN8 a/\aN8 a<=12:=⟨by rw[aKN];exact aC⟩
instance {a}:au (RQ N a) (aN9 a) λr=>r=aa↔aOU a:=⟨by rw[RQ];exact aOr @aOU.eq_1⟩
instance {a b}:au (CP a b) (True) λr=>r=120\/r=a:=⟨by rw[CP];exact aC⟩
instance {U a}:au (Nv U a) (True) λr=>r=ak->U.aOh<=400/\U.gv<=2000/\a<=U.aOh/\50<=U.gv:=⟨by rw[Nv];exact aC⟩
instance {U}:au (CQ U) (True) λr=>r=ak->0<=U.lJ/\U.lJ<=U.gv:=⟨by rw[CQ];exact aC⟩
instance {a}:au (Rt N a) (aN9 a.aOj/\aN9 a.aOl) λr=>(r=0->pY a)/\r≠12/\(aOU a.aOl->r≠7):=⟨by rw[Rt];(repeat' with_reducible first|intro _|apply dq|apply dh|refine dj (by omega) ?_|apply di|apply dk|apply df|apply eC|apply dr|apply dg)<;>first|grind -mbtc|grind -mbtc[aOU]⟩
instance {b e n f d}:au (CS N b e n f d) (e=aN8 b/\aN9 b/\(∀w∈b,aN9 w.aOj/\aN9 w.aOl)/\aOf d e n) λr=>iX r (λa=>∀w∈b.drop d.toNat,pY w)/\fh r λa=>a≠0/\a≠12/\(aOF b->a≠7):=by induction n generalizing f d;exact bJ;exact⟨by rw[CS];exact aC⟩
instance {a}:au (Hx N a) (∀w∈a,aN9 w.aOj/\aN9 w.aOl) λr=>(r=0->aN8 a<=96/\∀w∈a,pY w)/\r≠12/\(aOF a->r≠7):=⟨by rw[Hx];exact aC⟩
instance {b n f e}:au (aJf b n f e) (aN9 b/\0<aN8 b/\0<=f/\f<=aN8 b+255/\0<=e/\e<=256/\256-e<n) λr=>iX r (λa=>f<=a/\a<=aN8 b+255/\(a<=aN8 b->∀d,al b 0=J d->jF b (d.toNat-e) f))/\fh r λa=>a.2=ak:=by induction n generalizing f e;exact bJ;exact⟨by rw[aJf];exact aOr @ZR⟩
instance {a}:au (Sc N a) (aN9 a) λr=>r.2=aa->3<=r.1/\0<aN8 a/\r.1<=aN8 a/\∀d,al a 0=J d->jF a d.toNat 1:=⟨by rw[Sc];exact aC⟩
instance {a}:au (SD a) (aN9 a.b/\aOa a.at_ a.b) λr=>r.2.b=a.b/\r.2.at_=a.at_+1/\0<=r.1/\r.1<=255/\∀d,al a.b a.at_=J d->r.1=d.toNat:=⟨by rw[SD];exact aC⟩
instance {a}:au (SE a) (aN9 a.b/\0<=a.at_/\a.at_+1<aN8 a.b) λr=>r.2.b=a.b/\r.2.at_=a.at_+2:=⟨by rw[SE];exact aC⟩
instance {b a n e d}:au (aAO b a n e d) (a=aN8 b/\aN9 b/\aOf d a n) λr=>True:=by induction n generalizing e d;exact bJ;exact⟨by rw[aAO];exact aC⟩
instance {a}:au (Rr N a) (aN9 a) λr=>True:=⟨by rw[Rr];exact aC⟩
instance {a b}:au (aKO a b) (True) λr=>True:=⟨by rw[aKO];exact aC⟩
instance {n d e f a}:au (aCC n d e f a) (0<=a/\a<=12/\(12:Int)-a<n/\aN9 d.b/\0<=d.at_/\2*d.at_-a+12<=2*aN8 d.b/\aN8 e=a/\a%2=0) λr=>r.1.b=d.b/\2*r.1.at_=2*d.at_-a+12/\aN8 r.2.1=12:=by induction n generalizing d e f a;exact bJ;exact⟨by rw[aCC];exact aC⟩
instance {d b a}:au (aKP d b a) (True) λr=>True:=⟨by rw[aKP];exact aC⟩
instance {a}:au (RS N a) (aN9 a.b/\0<=a.at_/\(∃d,al a.b (a.at_+14)=J d/\a.at_+15+d.toNat<=aN8 a.b)) λr=>r.2.2.b=a.b/\(∀d,al a.b (a.at_+14)=J d->r.2.2.at_=a.at_+15+d.toNat)/\aN8 r.1.aOj=12/\aN8 r.1.aOl<=255:=⟨by rw[RS];exact aC⟩
instance {b a}:au (Ni b a) (True) λr=>True:=⟨by rw[Ni];exact aC⟩
instance {e n f g h a}:au (De N e n f g h a) (aN9 e/\0<aN8 e/\f.b=e/\0<=f.at_/\aN8 g<=a/\0<=a/\a<=256/\256-a<n/\(∀d,al e 0=J d->jF e (d.toNat-a) f.at_)/\(∀w∈g,aN9 w.aOj/\aN9 w.aOl)) λr=>∀w∈r.1,aN9 w.aOj/\aN9 w.aOl:=by induction n generalizing f g h a;exact bJ;exact⟨by rw[De];exact aOr (oE @Jh @ZU)⟩
instance {a}:au (Rj N a) (aN9 a) λr=>(r.2=0->aN8 r.1<=96/\∀w∈r.1,pY w)/\(r.2≠0->r.1=[]):=⟨by rw[Rj];exact aC⟩
instance {f g n b d e a}:au (CO f g n b d e a) (g=aN8 f/\aN8 f<=96/\(∀w∈f,pY w)/\0<=a/\a<=g/\g-a<n/\0<=b/\b<=400*a/\0<=d/\d<=2000*a/\0<=e/\e<=6*a) λr=>0<=r.1/\r.1<=38400/\0<=r.2.1/\r.2.1<=192000/\0<=r.2.2/\r.2.2<=576:=by induction n generalizing b d e a;exact bJ;exact⟨by rw[CO];exact aC⟩
instance {a}:au (Rs N a) (∀w∈a,aN9 w.aOj/\aN9 w.aOl) λr=>0<=r.1/\r.1<=38400/\0<=r.2.1/\r.2.1<=192000/\(r.2.2.2=0->aN8 a<=96/\∀w∈a,pY w)/\r.2.2.2≠12/\(aOF a->r.2.2.2≠7):=⟨by rw[Rs];exact aC⟩
end
section
def pj(i:Int):List UInt8:=[112,48,UInt8.ofNat (48+i).toNat]
def uk(x:List UInt8):Prop:=1<=aN8 x/\aN8 x<=12/\∀b∈x,(97<=b.toNat/\b.toNat<=122)\/(48<=b.toNat/\b.toNat<=57)
def IS{i:Int}(h:0<=i)(k:i<10):i=0\/i=1\/i=2\/i=3\/i=4\/i=5\/i=6\/i=7\/i=8\/i=9:=by omega
theorem agd{i j:Int}(h:pj i=pj j)(a:0<=i)(b:i<10)(c:0<=j)(d:j<10):i=j:=by
 rcases IS a b with rfl|rfl|rfl|rfl|rfl|rfl|rfl|rfl|rfl|rfl<;>rcases IS c d with rfl|rfl|rfl|rfl|rfl|rfl|rfl|rfl|rfl|rfl<;>first|rfl|exact absurd h (by decide)
attribute [grind->] agd
@[grind .] theorem aw2{i:Int}(a:0<=i)(b:i<10):uk (pj i):=by
 unfold uk;rcases IS a b with rfl|rfl|rfl|rfl|rfl|rfl|rfl|rfl|rfl|rfl<;>decide
def pV(r:cR):Prop:=1<=r.aOj/\r.aOj<=9999/\1<=r.aOn/\r.aOn<=9/\0<=r.a/\r.a<=1000000/\0<=r.b/\r.b<=1000000/\0<=r.c/\r.c<=1000000
def tX(b:ff):Prop:=1<=b.speed/\b.speed<=200/\0<=b.iZ/\b.iZ<=500/\0<=b.j9/\b.j9<=250
def oF(c:c8):Prop:=1<=aN8 c.aH/\aN8 c.aH<=9/\1<=c.speed/\c.speed<=200/\0<=c.iZ/\c.iZ<=500/\(∀i t,al c.aH i=J t->t.aOg=pj i/\1<=t.aOh/\t.aOh<=100000)/\aN8 c.rules<=9/\(∀i r,al c.rules i=J r->10*i+1<=r.aOj/\r.aOj<=10*i+9/\pV r)/\aN8 c.table<=64/\∀b∈c.table,tX b
attribute [grind] pV tX oF uk
@[grind=] theorem ayK{a b:Type}[DecidableEq a]{m:List (a×b)}{k q:a}{v:b}:jv (o8 m k v) q=if k=q then J v else jv m q:=by
 induction m with
 |nil=>simp[o8,jv]
 |cons p m d=>simp only[o8];split<;>simp only[jv]<;>grind
@[grind=] theorem ayL{a b:Type}[DecidableEq a]{q:a}:jv ([]:List (a×b)) q=ae:=rfl
@[grind->] theorem ayJ{a:Type}{b:List a}{k:Int}{y:a}(h:y∈(b.take k.toNat).drop (sF 0)):∃i,0<=i/\i<k/\al b i=J y:=by
 obtain⟨i,l,e⟩:=List.getElem_of_mem h;simp at l e;exact⟨i,by omega,by omega,by simp[al,<-e]⟩
@[grind->] theorem ku{a:Type}{b:List a}{i:Int}{y:a}(h:al b i=J y):0<=i/\i<aN8 b:=by
 unfold al at h;split at h
 ·have:=(fq.mp h).1;omega
 ·cases h
variable {N:Nat}[gM N]
instance {a b}:au (C9 a b) (aOa b a) λr=>uk a->r=ak:=⟨by rw[C9];exact aC⟩
instance {a d n b}:au (C8 a d n b) (aN9 a/\aOi a b d n) λr=>uk a->r=.inl ():=by induction n generalizing b;exact bJ;exact⟨by rw[C8];exact aC⟩
instance {a}:au (Da a) (True) λr=>uk a->r=aa:=⟨by rw[Da];exact aC⟩
instance {a}:au (nQ N a) (aN9 a) λr=>uk a->r=aa:=⟨by rw[nQ];exact aC⟩
instance {a}:au (Dj a) (True) λr=>0<=a->a<=1000000->r=ak:=⟨by rw[Dj];exact aC⟩
instance {a d n b}:au (Np a d n b) (aN9 a/\aOi a b d n) λr=>(∀x∈a,0<=x/\x<=1000000)->r=.inl ():=by induction n generalizing b;exact bJ;exact⟨by rw[Np];exact aC⟩
instance {U}:au (Nq U) (True) λr=>pV U->r=aa:=⟨by rw[Nq];exact aC⟩
instance {a}:au (Hv N a) (True) λr=>pV a->r=aa:=⟨by rw[Hv];exact aC⟩
instance {a U}:au (vB a U) (True) λr=>r=(a.aOj==U.aOj):=⟨by rw[vB];exact aC⟩
instance {a U d n b}:au (Cw a U d n b) (aN9 a/\aOi a b d n) λr=>(∀r∈a,r.aOj≠U.aOj)->r=.inl ():=by induction n generalizing b;exact bJ;exact⟨by rw[Cw];exact aC⟩
instance {a U}:au (Qt N a U) (aN9 a) λr=>(∀r∈a,r.aOj≠U.aOj)->r= -1:=⟨by rw[Qt];exact aC⟩
instance {a U}:au (Qq N a U) (aN9 a) λr=>(∀r∈a,r.aOj≠U.aOj)->r=ak:=⟨by rw[Qq];exact aC⟩
instance {a e d n b}:au (Di N a e d n b) (e=a/\aN8 a<=32/\d=aN8 a/\(∀i r,al a i=J r->10*i+1<=r.aOj/\r.aOj<=10*i+9/\pV r)/\aOf b d n) λr=>r=.inl ():=by induction n generalizing b;exact bJ;exact⟨by rw[Di];exact aC⟩
instance {a}:au (Hu N a) (aN8 a<=32/\(∀i r,al a i=J r->10*i+1<=r.aOj/\r.aOj<=10*i+9/\pV r)) λr=>r=0:=⟨by rw[Hu];exact aC⟩
instance {a U b}:au (F5 a U b) (True) λr=>r=aa↔U<=a/\a<=b:=⟨by rw[F5];exact aC⟩
instance {a U b}:au (S7 a U b) (True) λr=>r=aa↔U<=a/\a<=b:=⟨by rw[S7];exact aC⟩
instance {a}:au (aC9 a) (True) λr=>tX a->r=ak:=⟨by rw[aC9];exact aC⟩
instance {a e n d}:au (XL a e n d) (aN9 a/\aOi a d e n) λr=>(∀b∈a,tX b)->r=.inl ():=by induction n generalizing d;exact bJ;exact⟨by rw[XL];exact aC⟩
instance {a}:au (afG N a) (aN9 a) λr=>aN8 a<=64->(∀b∈a,tX b)->r=aa:=⟨by rw[afG];exact aC⟩
instance {U}:au (Mw U) (oF U) λr=>r=ak:=⟨by rw[Mw];exact aC⟩
instance {b a}:au (Mx N b a) (uk a.aOg/\jv b a.aOg=ae/\1<=a.aOh/\a.aOh<=100000) λr=>r=ak:=⟨by rw[Mx];exact aC⟩
instance {b d n e a}:au (Dz N b d n e a) (aN8 b<=9/\d=aN8 b/\(∀i t,al b i=J t->t.aOg=pj i/\1<=t.aOh/\t.aOh<=100000)/\0<=a/\a<=d/\d-a<n/\(∀j,a<=j->j<10->jv e (pj j)=ae)) λr=>r=.inl ():=by induction n generalizing e a;exact bJ;exact⟨by rw[Dz];exact aC⟩
instance {a}:au (Hi N a) (oF a) λr=>r=0:=⟨by rw[Hi];exact aC⟩
instance {a}:au (Ak N a) (oF a) λr=>r.2=0/\r.1=bq.mk [] (List.replicate (aN8 a.aH) []) [] ak (eR.mk [] (b8.mk [] 0) (e8.mk (dF.mk 0 []) []) 0 [] 0) ak:=⟨by rw[Ak];(repeat' with_reducible first|intro _|apply dq|apply dh|refine dj (by omega) ?_|apply di|apply dk|apply df|apply eC|apply dr|apply dg)<;>first|grind -mbtc|simp_all⟩
end
section
def km(a:List Int)(t:List Int):Int:=(t.map λi=>(al a i).getD 0).sum
@[grind=] theorem YS{a:List Int}:km a []=0:=rfl
@[grind=] theorem Ay{a t:List Int}{i:Int}:km a (i::t)=(al a i).getD 0+km a t:=by simp[km]
def afZ{a t u:List Int}:km a (t++u)=km a t+km a u:=by simp[km]
def af0{ls t:List Int}{b:Nat}(h:b<aN8 t):km ls (t.eraseIdx b)=km ls t-(al ls t[b]).getD 0:=by
 induction t generalizing b with
 |nil=>simp at h
 |cons x t a=>
  cases b with
  |zero=>simp[Ay];omega
  |succ b=>simp only[YU,Ay,List.getElem_cons_succ];rw[a (by simpa using h)];omega
def TW(n:Nat)(R:List Int):Prop:=R.Nodup/\∀i∈R,0<=i/\i<n
def oJ(T:List eE)(b:List Int)(s:List (List Int)):Prop:=aN8 s=aN8 T/\aN8 T<=24/\TW (aN8 b) s.flatten/\∀k a t,al T k=J a->al s k=J t->km b t<=a.aOh
def iY(T:List eE)(a:List Int)(s:List (List Int)):Prop:=oJ T a s/\aN8 a<=192/\∀l∈a,1<=l/\l<=400
@[grind=] theorem rM{d:Type}{b:List d}{k i:Int}{v:d}(h:0<=k)(l:k<aN8 b):al (b.set k.toNat v) i=if i=k then J v else al b i:=by
 unfold al;by_cases a:0<=i
 ·rw[if_pos a,if_pos a,List.getElem?_set];by_cases e:i=k
  ·subst e;rw[if_pos rfl,if_pos rfl,if_pos (by omega)]
  ·rw[if_neg (by omega),if_neg e]
 ·rw[if_neg a,if_neg a,if_neg (by omega)]
def aag{s:List (List Int)}{k:Int}{t:List Int}(h:al s k=J t):Az s.flatten (t++(s.eraseIdx k.toNat).flatten)/\∀u,Az (s.set k.toNat u).flatten (u++(s.eraseIdx k.toNat).flatten):=by
 obtain⟨k,rfl⟩:∃n:Nat,k=n:=⟨k.toNat,by have:=ku h;omega⟩
 replace h:s[k]?=J t:=by simpa[al] using h
 simp only[sG];induction s generalizing k with
 |nil=>simp at h
 |cons x s e=>
  cases k with
  |zero=>simp at h;subst h;simp
  |succ k=>
   simp only[List.getElem?_cons_succ] at h;simp only[yn,YU,List.set_cons_succ];obtain⟨a,b⟩:=e (k:=k) h;have d (u:List Int):Az (x++(u++(s.eraseIdx k).flatten)) (u++(x++(s.eraseIdx k).flatten)):=by rw[<-IH,<-IH];exact List.perm_append_comm.append_right _
   exact⟨(a.append_left x).trans (d t),λu=>((b u).append_left x).trans (d u)⟩
def amJ{t:List Int}{b:Nat}(h:b<aN8 t):Az t (t[b]::t.eraseIdx b):=by
 induction t generalizing b with
 |nil=>simp at h
 |cons x t a=>
  cases b with
  |zero=>simp
  |succ b=>simp only[List.getElem_cons_succ,YU];exact((a (by simpa using h)).cons x).trans (.swap ..)
def awo{s:List (List Int)}{a b w:Int}{t:List Int}(h:al s a=J t)(k:al t b=J w):Az s.flatten (w::(s.set a.toNat (t.eraseIdx b.toNat)).flatten):=by
 obtain⟨p,q⟩:=aag h;have l:=ku k;have e:t[b.toNat]'(by omega)=w:=by
  have:t[b.toNat]?=J w:=by simpa[al,l.1] using k
  exact(fq.mp this).2
 have:=amJ (t:=t) (b:=b.toNat) (by omega);rw[e] at this;exact p.trans ((this.append_right _).trans (by simpa using(q _).symm))
def afw{s:List (List Int)}{a w:Int}{t:List Int}(h:al s a=J t):Az (s.set a.toNat (t++[w])).flatten (w::s.flatten):=by
 obtain⟨p,q⟩:=aag h;refine(q _).trans ?_;rw[IH,List.singleton_append];exact List.perm_middle.trans (p.symm.cons w)
theorem ZC{T:List eE}{a:List Int}{s:List (List Int)}(V:oJ T a s){k:Int}{t:List Int}(h:al s k=J t){i:Int}(m:i∈t):0<=i/\i<aN8 a:=
 V.2.2.1.2 i (AD.mpr ⟨t,lP h,m⟩)
def alE{T:List eE}{d:List Int}{s:List (List Int)}(V:iY T d s){a b w:Int}{t:List Int}(h:al s a=J t)(k:al t b=J w):
  iY T d (s.set a.toNat (t.eraseIdx b.toNat))/\aN8 (s.set a.toNat (t.eraseIdx b.toNat)).flatten+1=aN8 s.flatten/\w∉(s.set a.toNat (t.eraseIdx b.toNat)).flatten/\km d (t.eraseIdx b.toNat)+(al d w).getD 0=km d t:=by
 have p:=awo h k;have l:=ku k;have y:=ku h;obtain⟨⟨C,E,⟨F,z⟩,A⟩,H,j⟩:=V;have e:t[b.toNat]'(by omega)=w:=by
  have:t[b.toNat]?=J w:=by simpa[al,l.1] using k
  exact(fq.mp this).2
 have B:=af0 (ls:=d) (t:=t) (b:=b.toNat) (by omega);rw[e] at B;have g:=(p.nodup_iff).mp F;rw[TB] at g;have r:=z w (p.mem_iff.mpr (by simp));have I:0<=(al d w).getD 0:=by obtain⟨v,q⟩:=hT r.1 r.2;rw[q];have:=j v (lP q);simp;omega
 refine⟨⟨⟨by simpa using C,E,⟨g.2,λi m=>z i (p.mem_iff.mpr (.tail _ m))⟩,λk x u n f=>?_⟩,H,j⟩,by have:=p.length_eq;simp at this⊢;omega,g.1,by omega⟩;rw[rM y.1 y.2] at f;split at f
 ·cases f;subst k;have:=A _ _ _ n h;omega
 ·exact A _ _ _ n f
def alD{T:List eE}{b:List Int}{s:List (List Int)}(V:iY T b s){a w:Int}{t:List Int}(h:al s a=J t)(k:w∉s.flatten)(r:0<=w/\w<aN8 b)(q:∀x,al T a=J x->km b t+(al b w).getD 0<=x.aOh):
  iY T b (s.set a.toNat (t++[w]))/\aN8 (s.set a.toNat (t++[w])).flatten=aN8 s.flatten+1:=by
 have p:=afw (w:=w) h;have f:=ku h;obtain⟨⟨j,l,⟨n,y⟩,z⟩,A,g⟩:=V;refine⟨⟨⟨by simpa using j,l,⟨p.nodup_iff.mpr (TB.mpr ⟨k,n⟩),λi m=>?_⟩,λk x u e d=>?_⟩,A,g⟩,by have:=p.length_eq;simpa using this⟩
 ·rcases ha.mp (p.mem_iff.mp m) with rfl|m
  ·exact r
  ·exact y i m
 ·rw[rM f.1 f.2] at d;split at d
  ·cases d;subst k;rw[afZ];have:=q _ e;simpa[Ay,YS] using this
  ·exact z _ _ _ e d
def afv{n:Nat}{R:List Int}(h:TW n R):aN8 R<=n:=by
 induction n generalizing R with
 |zero=>
  cases R with
  |nil=>simp
  |cons x R=>have:=h.2 x (by simp);omega
 |succ n d=>
  have a:TW n (R.erase (n:Int)):=⟨h.1.erase _,λi m=>by
   have:=(h.1.mem_erase_iff).mp m;have:=h.2 i this.2;omega⟩
  have b:=d a;rw[List.length_erase] at b;split at b<;>omega
theorem alF{T:List eE}{a:List Int}{s:List (List Int)}(V:oJ T a s):aN8 s=aN8 T/\aN8 T<=24/\aN8 s.flatten<=aN8 a/\∀t∈s,aN8 t<=aN8 a/\∀i∈t,0<=i/\i<aN8 a:=
 ⟨V.1,V.2.1,afv V.2.2.1,λt m=>⟨Nat.le_trans ((List.sublist_flatten_of_mem m).length_le) (afv V.2.2.1),λi b=>V.2.2.1.2 i (AD.mpr ⟨t,m,b⟩)⟩⟩
theorem alB{T:List eE}{a:List Int}{s:List (List Int)}(V:iY T a s):oJ T a s/\aN8 a<=192/\∀l∈a,1<=l/\l<=400:=V
theorem alC{T:List eE}{d:List Int}{s:List (List Int)}(a:oJ T d s)(b:aN8 d<=192)(c:∀l∈d,1<=l/\l<=400):iY T d s:=⟨a,b,c⟩
attribute [grind->] alF alB
attribute [grind <-] alC
attribute [grind->] ZC
def uG(s:cn):Int:=(if s.aOt= -1 then 1 else 0)-(if s.to= -1 then 1 else 0)
def lo(l:List cn):Int:=(l.map uG).sum
@[grind=] theorem axg:lo []=0:=rfl
@[grind=] theorem ZY{a:cn}{l:List cn}:lo (a::l)=uG a+lo l:=by simp[lo]
def mO(l:List cn)(s a:List (List Int)):Prop:=aN8 a=aN8 s/\∀t q,al a t=J q->∀i∈q,(∃p,al s t=J p/\i∈p)\/∃h∈l,h.hX=i/\h.to=t
theorem agb{s:List (List Int)}:mO [] s s:=⟨rfl,λt q e i m=>.inl ⟨q,e,m⟩⟩
theorem agc{a:cn}{l:List cn}{s b d:List (List Int)}(h:mO [a] s b)(k:mO l b d):mO (a::l) s d:=by
 refine⟨k.1.trans h.1,λt q e i m=>?_⟩;rcases k.2 t q e i m with⟨p,e,m⟩|⟨h,m,e⟩
 ·rcases h.2 t p e i m with o|⟨h,m,e⟩
  ·exact .inl o
  ·simp at m;exact .inr ⟨h,by simp[m],e⟩
 ·exact .inr ⟨h,by simp[m],e⟩
def aga{l:List cn}{s:List (List Int)}{a:Int}{b:Nat}{t:List Int}(h:al s a=J t):mO l s (s.set a.toNat (t.eraseIdx b)):=by
 have d:=ku h;refine⟨by simp,λk q e i m=>?_⟩;rw[rM d.1 d.2] at e;split at e
 ·cases e;subst k;exact .inl ⟨t,h,List.mem_of_mem_eraseIdx m⟩
 ·exact .inl ⟨q,e,m⟩
def af'{a:cn}{s b:List (List Int)}{t:List Int}(k:mO [a] s b)(h:al b a.to=J t):mO [a] s (b.set a.to.toNat (t++[a.hX])):=by
 have d:=ku h;refine⟨by simp[k.1],λj q e i m=>?_⟩;rw[rM d.1 d.2] at e;split at e
 ·cases e;subst j;rcases kU.mp m with m|m
  ·exact k.2 _ _ h i m
  ·exact .inr ⟨a,by simp,(List.mem_singleton.mp m).symm,rfl⟩
 ·exact k.2 _ _ e i m
def atT{T:List eE}{g:List Int}{s f j:List (List Int)}{d:cn}{a b:Int}(V:iY T g s)(z:0<=d.hX/\d.hX<aN8 g/\ -1<=d.aOt/\d.aOt<aN8 s/\ -1<=d.to/\d.to<aN8 s)
  (K:(a= -1/\d.hX∉s.flatten)\/∃t,al s a=J t/\al t b=J d.hX) (I:a=d.aOt) (H:d.aOt= -1->d.to≠ -1)
  (r:0<=d.to->d.to≠d.aOt->∀x t,al T d.to=J x->al s d.to=J t->km g t+(al g d.hX).getD 0<=x.aOh)
  (y:(a<0->f=s)/\(0<=a->∀t,al s a=J t->f=s.set a.toNat (t.eraseIdx b.toNat)))
  (w:(d.to<0->j=f)/\(0<=d.to->∀t,al f d.to=J t->j=f.set d.to.toNat (t++[d.hX]))):iY T g j/\aN8 j.flatten=aN8 s.flatten+uG d/\mO [d] s j:=by
 subst I;have p:mO [d] s f/\iY T g f/\(aN8 f.flatten:Int)=aN8 s.flatten-(if d.aOt= -1 then 0 else 1)/\d.hX∉f.flatten/\aN8 f=aN8 s/\(0<=d.to->∀x t,al T d.to=J x->al f d.to=J t->km g t+(al g d.hX).getD 0<=x.aOh):=by
  rcases K with⟨e,m⟩|⟨t,e,k⟩
  ·rw[y.1 (by omega),if_pos e];exact⟨⟨rfl,λt q e i m=>.inl ⟨q,e,m⟩⟩,V,by omega,m,rfl,λo x t=>r o (by omega) x t⟩
  ·have l:=ku e;obtain⟨A,B,C,D⟩:=alE V e k;rw[y.2 l.1 t e,if_neg (by omega)];refine⟨aga e,A,by omega,C,by simp,λo x u h n=>?_⟩;rw[rM l.1 l.2] at n;split at n
   ·cases n;rename_i q;rw[q] at h;have:=V.1.2.2.2 _ _ _ h e;omega
   ·rename_i q;exact r o q x u h n
 obtain⟨M,A,B,C,D,E⟩:=p;unfold uG;by_cases o:0<=d.to
 ·obtain⟨t,e⟩:=hT (xs:=f) (i:=d.to) o (by omega);obtain⟨F,G⟩:=alD A e C ⟨z.1,z.2.1⟩ λx h=>E o x t h e;rw[w.2 o t e,if_neg (by omega:¬d.to= -1)];refine⟨F,?_,af' M e⟩;split at B<;>rename_i q<;>simp only[q,if_true,if_false]<;>omega
 ·rw[w.1 (by omega),if_pos (by omega:d.to= -1)];have q:¬d.aOt= -1:=λq=>H q (by omega);rw[if_neg q] at B⊢;exact⟨A,by omega,M⟩
attribute [grind .] agb
attribute [grind->] agc
def aAq(n:Nat)(m:cn)(s q:List (List Int)):Prop:=
 (0<=m.hX/\m.hX<n/\ -1<=m.aOt/\m.aOt<aN8 s/\ -1<=m.to/\m.to<aN8 s)/\(m.aOt= -1->m.to≠ -1)/\m.front=ak/\
 ∃b a,((m.aOt= -1/\m.hX∉s.flatten)\/∃t,al s m.aOt=J t/\al t b=J m.hX)/\((m.aOt<0->a=s)/\(0<=m.aOt->∀t,al s m.aOt=J t->a=s.set m.aOt.toNat (t.eraseIdx b.toNat)))/\
  ((m.to<0->q=a)/\(0<=m.to->∀t,al a m.to=J t->q=a.set m.to.toNat (t++[m.hX])))
def aAe(T:List eE)(a:List Int):List cn->List (List Int)->List (List Int)->Prop|[],s,q=>s=q|m::l,s,q=>∃u,aAq (aN8 a) m s u/\iY T a u/\aAe T a l u q
theorem aFx{T:List eE}{a:List Int}{s:List (List Int)}:aAe T a [] s s:=rfl
def az1(T:List eE)(a:List Int)(l:List cn)(s q:List (List Int)):Prop:=mO l s q/\aAe T a l s q
theorem aGs{T:List eE}{a:List Int}{s:List (List Int)}:az1 T a [] s s:=⟨agb,rfl⟩
def aGt{T:List eE}{d:List Int}{a:cn}{l:List cn}{s b e:List (List Int)}(h:mO [a] s b)(f:aAq (aN8 d) a s b)(v:iY T d b)(k:az1 T d l b e):az1 T d (a::l) s e:=⟨agc h k.1,b,f,v,k.2⟩
theorem aGu{T:List eE}{b:List Int}{a:cn}{l:List cn}{s d e:List (List Int)}(h:mO [a] s d)(k:az1 T b l d e)(f:aAq (aN8 b) a s d)(v:iY T b d):az1 T b (a::l) s e:=aGt h f v k
attribute [grind->] aGu
attribute [grind .] aGs aFx
theorem aEV{T:List eE}{a:List Int}{l:List cn}{s q:List (List Int)}(h:az1 T a l s q):mO l s q/\aAe T a l s q:=h
attribute [grind->] aEV
def aIa{T:List eE}{e:List Int}{s g h:List (List Int)}{d:cn}{a b:Int}(V:iY T e s)(n:0<=d.hX/\d.hX<aN8 e/\ -1<=d.aOt/\d.aOt<aN8 s/\ -1<=d.to/\d.to<aN8 s)
  (l:(a= -1/\d.hX∉s.flatten)\/∃t,al s a=J t/\al t b=J d.hX) (k:a=d.aOt) (j:d.aOt= -1->d.to≠ -1)
  (p:0<=d.to->d.to≠d.aOt->∀x t,al T d.to=J x->al s d.to=J t->km e t+(al e d.hX).getD 0<=x.aOh)
  (m:(a<0->g=s)/\(0<=a->∀t,al s a=J t->g=s.set a.toNat (t.eraseIdx b.toNat)))
  (i:(d.to<0->h=g)/\(0<=d.to->∀t,al g d.to=J t->h=g.set d.to.toNat (t++[d.hX]))) (f:d.front=ak):iY T e h/\aN8 h.flatten=aN8 s.flatten+uG d/\mO [d] s h/\aAq (aN8 e) d s h:=by
 obtain⟨A,B,C⟩:=atT V n l k j p m i;subst k;exact⟨A,B,C,n,j,f,b,g,l,m,i⟩
end
section
instance {e:Type}{d:List e}{a b:Int}:au (AY d a b) (0<=a/\a<aN8 d/\b=a+1) λr=>r=d.eraseIdx a.toNat:=G1 rfl
@[grind=] theorem ay8{d:Type}{b:List d}{k:Int}{t:d}(h:al b k=J t):b.set k.toNat t=b:=by
 have l:=ku h;have:b[k.toNat]?=J t:=by simpa[al,l.1] using h
 obtain⟨a,rfl⟩:=fq.mp this;exact List.set_getElem_self a
def mQ(T:List eE):Prop:=∀t∈T,1<=t.aOh/\t.aOh<=100000
attribute [grind] mQ uG
attribute [grind=] yn List.flatten_nil
variable {N:Nat}[gM N]
instance {a}:au (Hg a) (aN9 a) λr=>r=a:=⟨by rw[Hg];exact aC⟩
instance {a}:au (qy a) (aN9 a) λr=>r=a:=⟨by rw[qy];exact aC⟩
instance {a}:au (QH a) (aN9 a) λr=>r=a:=⟨by rw[QH];exact aC⟩
instance {a}:au (QE a) (aN9 a) λr=>r=a:=⟨by rw[QE];exact aC⟩
instance {b U e n d}:au (DD b U e n d) (aN9 b/\aOi b d e n) λr=>iX r (λ_=>U∉b.drop d.toNat)/\fh r λa=>al b a=J U:=by induction n generalizing d;exact bJ;exact⟨by rw[DD];exact aC⟩
instance {a U}:au (vA N a U) (aN9 a) λr=>(r= -1/\U∉a)\/al a r=J U:=⟨by rw[vA];exact aC⟩
instance {a U}:au (sy N a U) (aN9 a) λr=>r=aa↔U∈a:=⟨by rw[sy];exact aC⟩
instance {U a e n b d}:au (aA6 U a e n b d) (aN9 a/\e=aN8 a/\(∀i∈a,aOa i U)/\(∀l∈U,1<=l/\l<=400)/\aOf d e n/\ -1000000-400*d<=b/\b<=1000000) λr=>r=b-km U (a.drop d.toNat):=by induction n generalizing b d;exact bJ;exact⟨by rw[aA6];exact aC⟩
instance {b U a}:au (Rk N b U a) (aN9 a/\(∀i∈a,0<=i/\i<aN8 U)/\(∀l∈U,1<=l/\l<=400)/\1<=b.aOh/\b.aOh<=100000) λr=>r=b.aOh-km U a:=⟨by rw[Rk];exact aC⟩
instance {b U a}:au (aDc b U a) (True) λr=>r=ak->aN8 a=aN8 b/\aN8 a<=24/\aN8 U<=192:=⟨by rw[aDc];exact aC⟩
instance {a}:au (aPP a) (True) λr=>r=ak->1<=a/\a<=400:=⟨by rw[aPP];exact aC⟩
instance {b e n d}:au (aPt b e n d) (aN9 b/\aOi b d e n) λr=>iX r (λ_=>∀l∈b.drop d.toNat,1<=l/\l<=400)/\fh r λa=>a=ak:=by induction n generalizing d;exact bJ;exact⟨by rw[aPt];exact aC⟩
instance {U a b}:au (aPQ U a b) (aN8 a=aN8 U) λr=>r=ak->aOa b U:=⟨by rw[aPQ];exact aC⟩
instance {U e f n b d}:au (aPv U e f n b d) (aN9 e/\aOi e d f n/\aN8 b=aN8 U) λr=>iX r (λa=>aN8 a=aN8 U)/\fh r λa=>a=ak:=by induction n generalizing b d;exact bJ;exact⟨by rw[aPv];exact aC⟩
instance {d U a b}:au (aPR N d U b a) (aN9 a/\0<=b/\b<aN8 d/\(∀i∈a,0<=i/\i<aN8 U)/\(∀l∈U,1<=l/\l<=400)/\mQ d) λr=>True:=⟨by rw[aPR];exact aC⟩
instance {g U b e n d f}:au (aPu N g U b e n d f) (oJ g U b/\(∀t∈b,aN9 t)/\e=aN8 b/\(∀l∈U,1<=l/\l<=400)/\mQ g/\aOf f e n/\aN8 d=aN8 U) λr=>fh r λa=>a=ak:=by induction n generalizing d f;exact bJ;exact⟨by rw[aPu];exact aC⟩
instance {b U a}:au (Re N b U a) (oJ b U a/\aN9 U/\(∀t∈a,aN9 t)/\mQ b) λr=>r=aa->iY b U a:=⟨by rw[Re];exact aC⟩
instance {a e n d b}:au (CZ a e n d b) (aN9 a/\(∀t∈a,aN9 t)/\aOi a b e n/\aN8 d<=b) λr=>r=d++a.drop b.toNat:=by induction n generalizing d b;exact bJ;exact⟨by rw[CZ];exact aC⟩
instance {a}:au (Hm N a) (aN9 a/\(∀t∈a,aN9 t)) λr=>r=a:=⟨by rw[Hm];exact aC⟩
instance {U e b n d}:au (aDd N U b e n d) (aN9 b/\(∀t∈b,aN9 t)/\aOi b d e n) λr=>iX r (λ_=>U∉(b.drop d.toNat).flatten)/\fh r λa=>∃t,al b a.1=J t/\al t a.2=J U:=by induction n generalizing d;exact bJ;exact⟨by rw[aDd];exact aC⟩
instance {a U}:au (Ho N a U) (aN9 a/\(∀t∈a,aN9 t)) λr=>(r.1= -1/\U∉a.flatten)\/∃t,al a r.1=J t/\al t r.2=J U:=⟨by rw[Ho];exact aC⟩
instance {U b a}:au (DJ U b a) (True) λr=>r=ak->0<=a.hX/\a.hX<aN8 U/\ -1<=a.aOt/\a.aOt<aN8 b/\ -1<=a.to/\a.to<aN8 b:=⟨by rw[DJ];exact aC⟩
instance {a b}:au (L0 a b) (True) λr=>r=ak->b=a.aOt/\(a.aOt= -1->a.to≠ -1):=⟨by rw[L0];exact aC⟩
instance {d U b a}:au (aC5 N d U b a) (iY d U b/\(∀t∈b,aN9 t)/\mQ d/\0<=a.hX/\a.hX<aN8 U/\a.to<aN8 b) λr=>r.1=b/\(r.2=ak->0<=a.to->a.to≠a.aOt->∀x t,al d a.to=J x->al b a.to=J t->km U t+(al U a.hX).getD 0<=x.aOh):=⟨by rw[aC5];exact aC⟩
instance {b a d e}:au (aC6 b a d e) (e=decide (0<=a)/\(a<0\/∃t,al b a=J t/\aOa d t)/\(∀t∈b,aN9 t)) λr=>(a<0->r=b)/\(0<=a->∀t,al b a=J t->r=b.set a.toNat (t.eraseIdx d.toNat)):=⟨by rw[aC6];exact aC⟩
instance {a}:au (aC8 a) (a.front=ak) λr=>r=ak:=⟨by rw[aC8];exact aC⟩
instance {b a}:au (aC7 b a) (a.front=ak/\a.to<aN8 b/\(∀t∈b,aN9 t)) λr=>(a.to<0->r=b)/\(0<=a.to->∀t,al b a.to=J t->r=b.set a.to.toNat (t++[a.hX])):=⟨by rw[aC7];exact aC⟩
instance {d U a b}:au (QZ N d U a b) (iY d U a/\mQ d/\b.front=ak) λr=>(r.1=0->iY d U r.2/\aN8 r.2.flatten=aN8 a.flatten+uG b/\mO [b] a r.2/\aAq (aN8 U) b a r.2)/\r.1≠7/\r.1≠12:=⟨by rw[QZ];simp only[yo];(repeat' with_reducible first|intro _|apply dq|apply dh|refine dj (by omega) ?_|apply di|apply dk|apply df|apply eC|apply dr|apply dg)<;>(first|grind -mbtc|(refine⟨λ_=>?_,by simp⟩;rename_i h y B l k q z m s A f g t C i n w p e x E j _;rw[i.1] at e;exact aIa h.1 (l (by simpa using k)) m (f (by simpa using g)).1 (f (by simpa using g)).2 (i.2 (by simpa using n)) e j h.2.2))⟩
instance {f U b g n d e}:au (Nw N f U b g n d e) (mQ f/\aN9 b/\g=aN8 b/\(∀s∈b,s.front=ak)/\aOf e g n/\iY f U d) λr=>iX r (λa=>iY f U a/\aN8 a.flatten=aN8 d.flatten+lo (b.drop e.toNat)/\az1 f U (b.drop e.toNat) d a)/\fh r λa=>a.2≠0/\a.2≠7/\a.2≠12:=by induction n generalizing d e;exact bJ;exact⟨by rw[Nw];exact aC⟩
instance {d U a b}:au (Rv N d U a b) (oJ d U a/\mQ d/\aN9 U/\(∀t∈a,aN9 t)/\aN9 b/\(∀s∈b,s.front=ak)) λr=>(r.2.2=0->iY d U r.1/\aN8 r.1.flatten=aN8 a.flatten+lo b/\az1 d U b a r.1)/\r.2.2≠7/\r.2.2≠12:=⟨by rw[Rv];simp only[yo];exact aC⟩
end
section
def lens(a:List bC):List Int:=a.map (·.aOh)
@[grind=] theorem ayC{a:List bC}:aN8 (lens a)=aN8 a:=by simp[lens]
@[grind=] theorem ayD:lens []=[]:=rfl
@[grind=] theorem ayB{w:bC}{a:List bC}:lens (w::a)=w.aOh::lens a:=rfl
def nV(y:bq)(i:Int):Prop:=∃w,al y.bD i=J w/\∃o∈y.b2,w.aOl∈o.c7
def nW(y:bq):Prop:=∀i∈y.bo.bD,nV y i
def YL{y z:bq}{i:Int}(h:nV y i)(o:z.b2=y.b2)(w:y.bD<+:z.bD):nV z i:=by
 obtain⟨v,e,k⟩:=h;obtain⟨t,r⟩:=w;refine⟨v,?_,by rw[o];exact k⟩;have:=ku e;unfold al at e⊢;rw[if_pos this.1] at e⊢;rw[<-r,kS (by omega)];exact e
def YM{y z:bq}(h:nW y)(p:z.bo.bD=y.bo.bD)(o:z.b2=y.b2)(w:y.bD<+:z.bD):nW z:=λi m=>YL (h i (p▸m)) o w
theorem azv{y z:bq}(p:z.bo.bD=y.bo.bD)(o:z.b2=y.b2)(w:y.bD<+:z.bD)(h:nW y):nW z:=YM h p o w
attribute [grind<=] azv
theorem azu{y z:bq}{i:Int}(o:z.b2=y.b2)(w:y.bD<+:z.bD)(h:nV y i):nV z i:=YL h o w
attribute [grind<=] azu
def nq(p:eR):Prop:=aN8 p.bD<=1000/\aN8 p.aH<=100000/\aN8 p.iP.aN'<=1000/\aN8 p.aOc.e9.fW<=1000/\aN8 p.aOc.chain<=1000
def jr(c:c8)(y:bq):Prop:=mQ c.aH/\1<=aN8 c.aH/\iY c.aH (lens y.bD) y.aH/\(∀w∈y.bD,pY w)/\aN8 y.b2<=8/\(∀o∈y.b2,vR (aN8 y.aH) o)/\(y.aOb=aa->y.cE=ak->kC y/\nW y)/\gH y/\nq y.bo
def aCq(T:List eE)(a:List Int)(l:List cn)(s q:List (List Int)):Prop:=aAe T a l s q/\aN8 l<=1000000
def rr(x z:Step):Prop:=z.c=x.c/\jr x.c z.y/\x.y.bD<+:z.y.bD/\aCq x.c.aH (lens z.y.bD) z.r.vv x.y.aH z.y.aH
attribute [grind] aCq rr nq
def af1{b e t:List Int}(h:∀i∈t,0<=i/\i<aN8 b):km (b++e) t=km b t:=by
 induction t with
 |nil=>rfl
 |cons i t d=>have a:=h i (by simp);rw[Ay,Ay,d λi m=>h i (by simp[m])];simp only[al,if_pos a.1];rw[kS (by omega)]
@[grind .] theorem aw7{T:List eE}{g j:List Int}{s:List (List Int)}(V:oJ T g s):oJ T (g++j) s:=by
 obtain⟨a,b,⟨c,d⟩,e⟩:=V;refine⟨a,b,⟨c,λi m=>by have:=d i m;simp;omega⟩,λk x t h f=>?_⟩;rw[af1 λi m=>ZC ⟨a,b,⟨c,d⟩,e⟩ f m];exact e k x t h f
@[grind=] theorem ayA{a b:List bC}:lens (a++b)=lens a++lens b:=by simp[lens]
@[grind=] theorem axf{a b:List cn}:lo (a++b)=lo a+lo b:=by simp[lo]
@[grind .] theorem ayU{a b:List bC}:a<+:a++b:=List.prefix_append ..
@[grind .] theorem ap1{a:List bC}:a<+:a:=List.prefix_refl _
def Y5{y z:bq}{l:List cn}(h:gH y)(m:mO l y.aH z.aH)(b:z.aOb=y.aOb)(f:z.cE=ak->y.cE=ak)(p:z.bo.bD=y.bo.bD/\z.bo.aOs=y.bo.aOs/\z.bo.aH=y.bo.aH)
  (k:y.aOb=aa->y.cE=ak->∀s∈l,s.hX∈y.bo.bD\/(s.to≠y.bo.aOs/\s.to∉y.bo.aH)):gH z:=by
 intro g d t a q e i j;rw[b] at g;have d:=f d;rw[p.2.1,p.2.2] at a;rw[p.1];rcases m.2 t q e i j with⟨u,e,j⟩|⟨s,w,n,r⟩
 ·exact h g d t a u e i j
 ·subst n r;rcases k g d s w with o|o
  ·exact o
  ·rcases a with a|a
   ·exact absurd a o.1
   ·exact absurd a o.2
theorem agn{c:c8}{y:bq}(h:jr c y):mQ c.aH/\1<=aN8 c.aH/\iY c.aH (lens y.bD) y.aH/\(∀w∈y.bD,pY w)/\aN8 y.b2<=8/\(∀o∈y.b2,vR (aN8 y.aH) o)/\(y.aOb=aa->y.cE=ak->kC y/\nW y)/\gH y/\nq y.bo:=h
def IX{c:c8}{y:bq}(a:mQ c.aH)(b:1<=aN8 c.aH)(e:iY c.aH (lens y.bD) y.aH)(f:∀w∈y.bD,pY w)(g:aN8 y.b2<=8)(h:∀o∈y.b2,vR (aN8 y.aH) o)(i:y.aOb=aa->y.cE=ak->kC y/\nW y)(j:gH y)(k:nq y.bo):jr c y:=⟨a,b,e,f,g,h,i,j,k⟩
attribute [grind->] agn
variable {N:Nat}[gM N]
instance {a}:au (Rb a) (aN9 a.c7) λr=>r=a:=⟨by rw[Rb];(repeat' with_reducible first|intro _|apply dq|apply dh|refine dj (by omega) ?_|apply di|apply dk|apply df|apply eC|apply dr|apply dg)<;>first|grind -mbtc|simp_all⟩
instance {a U}:au (aAi a U) (True) λr=>r=aa->aOa U a.c.aH:=⟨by rw[aAi];exact aC⟩
instance {a U}:au (tS a U) (True) λr=>r=aa->aOa U a.c.aH:=⟨by rw[tS];exact aC⟩
instance {a U b}:au (Fy N a U b) (aN9 b.aH/\b=a.y.bo) λr=>r=ak->a.y.cE=ak/\(a.y.aOb=aa->U≠a.y.bo.aOs/\U∉a.y.bo.aH):=⟨by rw[Fy];exact aC⟩
instance {a U}:au (HM N a U) (aN9 a.y.bo.aH) λr=>r=ak->a.y.cE=ak/\(a.y.aOb=aa->U≠a.y.bo.aOs/\U∉a.y.bo.aH):=⟨by rw[HM];exact aC⟩
instance {a U}:au (QS a U) (True) λr=>r=(a.cq==U):=⟨by rw[QS];exact aC⟩
instance {b U d n a}:au (CI b U d n a) (aN9 b/\aOi b a d n) λr=>True:=by induction n generalizing a;exact bJ;exact⟨by rw[CI];exact aC⟩
instance {a U}:au (Qn N a U) (aN9 a) λr=>True:=⟨by rw[Qn];exact aC⟩
instance {a U}:au (Qm N a U) (aN9 a) λr=>True:=⟨by rw[Qm];exact aC⟩
instance {a U}:au (R2 N a U) (aN9 a.y.b2) λr=>True:=⟨by rw[R2];exact aC⟩
instance {a U}:au (QU a U) (True) λr=>True:=⟨by rw[QU];exact aC⟩
instance {b U d n a}:au (CJ b U d n a) (aN9 b/\aOi b a d n) λr=>True:=by induction n generalizing a;exact bJ;exact⟨by rw[CJ];exact aC⟩
instance {a U}:au (Qp N a U) (aN9 a) λr=>True:=⟨by rw[Qp];exact aC⟩
instance {a U}:au (Qo N a U) (aN9 a) λr=>True:=⟨by rw[Qo];exact aC⟩
instance {d e n b a}:au (aJ4 d e n b a) (aN9 d/\aOi d a e n/\aN8 b<=a) λr=>r=b++lens (d.drop a.toNat):=by induction n generalizing b a;exact bJ;exact⟨by rw[aJ4];exact aC⟩
instance {a U b}:au (HF N a U b) (mQ a.c.aH/\oJ a.c.aH (lens a.y.bD) a.y.aH/\aN8 a.y.bD<=1000/\aN9 U/\(∀s∈U,s.front=ak)/\aN9 b) λr=>r.1=0->r.2.c=a.c/\r.2.e=a.e/\r.2.y=bq.mk a.y.bD r.2.y.aH a.y.b2 a.y.aOb a.y.bo a.y.cE/\r.2.r.vv=U/\iY a.c.aH (lens a.y.bD) r.2.y.aH/\aN8 r.2.y.aH.flatten=aN8 a.y.aH.flatten+lo U/\az1 a.c.aH (lens a.y.bD) U a.y.aH r.2.y.aH:=⟨by rw[HF];exact aC⟩
instance {g d b f n e}:au (aCS N g b f d n e) (aN9 g/\aN9 b/\f=aN8 b/\(∀i∈b,aOa i d)/\aN9 d/\aOf e f n) λr=>fh r λa=>a≠0:=by induction n generalizing e;exact bJ;exact⟨by rw[aCS];exact aC⟩
instance {g d b e n f}:au (CU N g b e d n f) (aN9 g/\aN9 b/\e=aN8 b/\(∀t∈b,aN9 t/\∀i∈t,aOa i d)/\aN9 d/\aOf f e n) λr=>fh r λa=>a≠0:=by induction n generalizing f;exact bJ;exact⟨by rw[CU];exact aC⟩
instance {f e d n a b}:au (aCT f e d n a b) (0<=f/\d<=1000/\0<=e/\e<=1000/\aOf b d n/\aN8 a<=b) λr=>aN8 r<=1000/\lo r=lo a+(d-b)/\∀s∈r,s∈a\/(s.front=ak/\s.to=f):=by induction n generalizing a b;exact bJ;exact⟨by rw[aCT];exact aC⟩
instance {a b d}:au (Aa N a b d) (jr a.c (bq.mk b a.y.aH a.y.b2 a.y.aOb a.y.bo a.y.cE)/\aN9 a.e.data/\aN9 b/\aN9 d) λr=>r.1=0->rr (Step.mk a.c (bq.mk b a.y.aH a.y.b2 a.y.aOb a.y.bo a.y.cE) a.e a.r) r.2:=⟨by rw[Aa];(repeat' with_reducible first|intro _|apply dq|apply dh|refine dj (by omega) ?_|apply di|apply dk|apply df|apply eC|apply dr|apply dg)<;>first|grind -mbtc|(rename_i g z;have g:=g z;refine⟨?_,IX ?_ ?_ ?_ ?_ ?_ ?_ ?_ (Y5 (y:=bq.mk b a.y.aH a.y.b2 a.y.aOb a.y.bo a.y.cE) ?_ g.2.2.2.2.2.2.1 ?_ ?_ ?_ ?_) ?_,?_,?_⟩<;>grind -mbtc)⟩
instance {b U e n d}:au (Dx b U e n d) (aN9 b/\aOi b d e n) λr=>iX r (λ_=>U∉b.drop d.toNat)/\fh r λa=>al b a=J U:=by induction n generalizing d;exact bJ;exact⟨by rw[Dx];exact aC⟩
instance {a U}:au (z6 N a U) (aN9 a) λr=>(r= -1/\U∉a)\/al a r=J U:=⟨by rw[z6];exact aC⟩
instance {a U}:au (Hh N a U) (aN9 a) λr=>True:=⟨by rw[Hh];exact aC⟩
instance {b a}:au (Mz N b a) (aN9 a.aOg) λr=>r=ak->0<=a.cq/\a.cq<aN8 b.aH/\1<=aN8 a.c7/\aN8 a.c7<=16:=⟨by rw[Mz];exact aC⟩
instance {b a d}:au (MA N b a d) (aN9 d/\0<=a/\a<=aN8 b.c7/\aN9 b.c7) λr=>True:=⟨by rw[MA];exact aC⟩
instance {f b g n e}:au (DC N f b g n e) (aN9 b/\b=f.c7/\(∀d∈b,aN9 d)/\aOi b e g n) λr=>fh r λa=>a=ak:=by induction n generalizing e;exact bJ;exact⟨by rw[DC];exact aC⟩
instance {a U}:au (Hj N a U) (aN9 U.aOg/\aN9 U.c7/\(∀d∈U.c7,aN9 d)) λr=>r=aa->0<=U.cq/\U.cq<aN8 a.aH/\1<=aN8 U.c7/\aN8 U.c7<=16:=⟨by rw[Hj];exact aC⟩
instance {a U}:au (QY N a U) (aN9 U.c7) λr=>True:=⟨by rw[QY];exact aC⟩
instance {b U d n a}:au (Cy N b U d n a) (aN9 U.c7/\aN9 b/\aOi b a d n) λr=>True:=by induction n generalizing a;exact bJ;exact⟨by rw[Cy];exact aC⟩
instance {a U}:au (Qv N a U) (aN9 U.c7/\aN9 a) λr=>True:=⟨by rw[Qv];exact aC⟩
instance {a U}:au (Qs N a U) (aN9 U.c7/\aN9 a) λr=>True:=⟨by rw[Qs];exact aC⟩
instance {b a d}:au (aD1 b a d) (True) λr=>True:=⟨by rw[aD1];exact aC⟩
instance {e b f n d}:au (aBY N e b f n d) (aN9 e.c7/\(∀o∈b,aN9 o.c7)/\aN9 b/\aOi b d f n) λr=>fh r λa=>a≠0:=by induction n generalizing d;exact bJ;exact⟨by rw[aBY];exact aC⟩
instance {a b}:au (R1 N a b) (jr a.c (bq.mk a.y.bD a.y.aH b a.y.aOb a.y.bo a.y.cE)/\iW a.e/\aN9 b) λr=>r.2.2=vz a/\(r.1=0->jr a.c (bq.mk a.y.bD a.y.aH r.2.1 a.y.aOb a.y.bo a.y.cE)):=⟨by rw[R1];(repeat' with_reducible first|intro _|apply dq|apply dh|refine dj (by omega) ?_|apply di|apply dk|apply df|apply eC|apply dr|apply dg)<;>first|grind -mbtc|(refine⟨by grind -mbtc,λ_=>IX ?_ ?_ ?_ ?_ ?_ ?_ ?_ ?_ ?_⟩<;>grind -mbtc[gH])⟩
instance {f b e n d}:au (Ek f b e n d) (aN9 b/\aOi b d e n) λr=>iX r (λ_=>∀t∈b.drop d.toNat,aOa t f.c.aH)/\fh r λa=>a≠0:=by induction n generalizing d;exact bJ;exact⟨by rw[Ek];exact aC⟩
instance {a}:au (Oj a) (True) λr=>r=ak->0<=a.e.dO/\a.e.dO<=12:=⟨by rw[Oj];exact aC⟩
instance {a}:au (R0 N a) (aN8 a.e.aH<=1000) λr=>r=0->0<=a.e.cq/\a.e.cq<aN8 a.c.aH/\(∀t∈a.e.aH,aOa t a.c.aH)/\0<=a.e.dO/\a.e.dO<=12:=⟨by rw[R0];(repeat' with_reducible first|intro _|apply dq|apply dh|refine dj (by omega) ?_|apply di|apply dk|apply df|apply eC|apply dr|apply dg)<;>first|grind -mbtc|(subst_vars;simp_all[Jn,aOa])⟩
instance {a b d}:au (aAh N a b d) (aN9 a.y.b2/\0<=b/\b<=aN8 a.e.aH/\aN9 a.e.aH) λr=>True:=⟨by rw[aAh];exact aC⟩
instance {b a f n d}:au (Fg N b a f n d) (aN9 b.y.b2/\a=b.e.aH/\aN9 b.e.aH/\aN9 a/\aOi a d f n) λr=>True:=by induction n generalizing d;exact bJ;exact⟨by rw[Fg];exact aC⟩
instance {a}:au (SH N a) (aN9 a.y.b2/\aN9 a.e.aH) λr=>True:=⟨by rw[SH];exact aC⟩
end
section
open Go.Sort Go.Shelf Go.Proofs Go.RowKit
def zc{a:Int}(h:0<=a)(k:a<4611686018427387904):(qC (pP .i64) a).toNat=a.toNat:=by
 have:pP .i64=64:=rfl;rw[BitVec.toNat_ofInt,this];omega
def Yh{n:Nat}(k:n<4611686018427387904):aO .i64 (n:Int)=n:=by rw[vN];omega
def al7{a b:Int}(h:0<=a)(k:a<4611686018427387904)(l:0<=b)(m:b<4611686018427387904):0<=ih .and .i64 a b/\ih .and .i64 a b<=a/\ih .and .i64 a b<=b:=by
 simp only[ih,aEQ,zc h k,zc l m];have p:=aEX (n:=a.toNat) (m:=b.toNat);have q:=Nat.and_le_right (n:=a.toNat) (m:=b.toNat);rw[Yh (by omega)];omega
def qe{a:Int}(h:0<a)(k:a<4611686018427387904):1<=ih .and .i64 a (aO .i64 (0-a))/\ih .and .i64 a (aO .i64 (0-a))<=a:=by
 have b:aO .i64 (0-a)= -a:=by rw[vN];omega
 rw[b];simp only[ih];have e:qC (pP .i64) (-a)= -qC (pP .i64) a:=by rw[BitVec.ofInt_neg]
 rw[e];have p:(qC (pP .i64) a&&& -qC (pP .i64) a).toNat<=a.toNat:=by rw[aEQ,zc (by omega) k];exact aEX
 have q:(qC (pP .i64) a&&& -qC (pP .i64) a).toNat≠0:=by intro z;have d:qC (pP .i64) a&&& -qC (pP .i64) a=0#_:=BitVec.eq_of_toNat_eq (by simpa using z);have s:=BitVec.add_eq_or_of_and_eq_zero _ _ d;rw[BitVec.add_right_neg] at s;have t:=congrArg BitVec.toNat s;rw[aFm,zc (by omega) k] at t;have:=Nat.left_le_or (n:=a.toNat) (m:=(-qC (pP .i64) a).toNat);rw[BitVec.toNat_ofNat,Nat.zero_mod] at t;omega
 rw[Yh (by omega)];omega
def abM{a b:Int}(h:0<=a)(k:a<1073741824)(l:0<=b)(m:b<1073741824):0<=ih .or .i64 a b/\ih .or .i64 a b<1073741824:=by
 simp only[ih,aFm,zc h (by omega),zc l (by omega)];have p:=Nat.or_lt_two_pow (x:=a.toNat) (y:=b.toNat) (n:=30) (by omega) (by omega);rw[Yh (by omega)];omega
def aps{a b:Int}(h:0<a)(k:a<4611686018427387904)(e:b=aO .i64 (0-a)):1<=ih .and .i64 a b/\ih .and .i64 a b<=a:=by subst e;exact qe h k
def aaf{a b:Int}(h:0<=a)(k:1<=b):0<=a.fdiv b/\a.fdiv b<=a:=by
 rw[aFp _ (by omega)];exact⟨Int.ediv_nonneg h (by omega),Int.ediv_le_self _ h⟩
def iS{y:Nat}(h:y<=12):1<=(2:Int) ^ y/\(2:Int) ^ y<=4096:=by
 have b:2 ^ y<=2 ^ 12:=aEY (by omega) h;have a:0<2 ^ y:=aPX y;have e:(2:Int) ^ y=((2 ^ y:Nat):Int):=by simp
 omega
def VZ{y:Nat}(h:(y:Int)<=12):1<=((2 ^ y:Nat):Int)/\((2 ^ y:Nat):Int)<=4096:=by
 have:=iS (y:=y) (by omega);simpa using this
def aby{a b:Int}(h:0<=a)(k:a<=8192)(l:1<=b)(m:b<=4096):0<=a*b/\a*b<=33554432:=
 ⟨Int.mul_nonneg h (by omega),by have:=Int.mul_le_mul k m (by omega) (by omega:(0:Int)<=8192);omega⟩
theorem P2{k:aG}{b:Int}{y:Nat}(h:j2 k b=J y):(y:Int)<=b:=by
 unfold j2 at h;split at h
 ·cases h;omega
 ·cases h
attribute [grind->] P2
def azp(a b:Int):Int:=ih .and .i64 a b
def azs(a b:Int):Int:=ih .or .i64 a b
def azr(a b:Int):Int:=a.fdiv b
def azq(y:Nat):Int:=(2:Int) ^ y
theorem azB{a b:Int}(h:0<=a)(k:a<4611686018427387904)(l:0<=b)(m:b<4611686018427387904):ih .and .i64 a b=min (min a b) (max 0 (azp a b)):=by
 have:=al7 h k l m;show azp a b=_;have e:azp a b=ih .and .i64 a b:=rfl;omega
theorem azC{a b:Int}(h:0<a)(k:a<4611686018427387904)(e:b=aO .i64 (0-a)):ih .and .i64 a b=min a (max 1 (azp a b)):=by
 have:=aps h k e;show azp a b=_;have e:azp a b=ih .and .i64 a b:=rfl;omega
theorem azE{a b:Int}(h:0<=a)(k:a<1073741824)(l:0<=b)(m:b<1073741824):ih .or .i64 a b=min 1073741823 (max 0 (azs a b)):=by
 have:=abM h k l m;show azs a b=_;have e:azs a b=ih .or .i64 a b:=rfl;omega
theorem azD{a b:Int}(h:0<=a)(k:1<=b):a.fdiv b=min a (max 0 (azr a b)):=by
 have:=aaf h k;show azr a b=_;have e:azr a b=a.fdiv b:=rfl;omega
theorem azA{y:Nat}(h:y<=12):(2:Int) ^ y=min 4096 (max 1 (azq y)):=by
 have:=iS h;show azq y=_;have e:azq y=(2:Int) ^ y:=rfl;omega
attribute [grind=] azB azC azE azD azA
def aqi{b:Type}[Inhabited b](f:b->Int)(a:List b):(ou (λx y=>f x-f y) a).Pairwise λx y=>f x<=f y:=by
 have g:=W1 f;have h:=(Wi _ g a).2;have p:=BU _ g a;rw[List.pairwise_iff_getElem];intro i j k l n;have:=h i j (Nat.zero_le _) n (by omega);have e:∀x y,ltOf (λx y=>f x-f y) x y=decide (f x<f y):=λx y=>by unfold ltOf;congr 1;simp;omega
 rw[e] at this;have m:(ou (λx y=>f x-f y) a).toArray[i]! =(ou (λx y=>f x-f y) a)[i]:=by rw[getElem!_pos _ _ (by simpa using k)];simp
 have d:(ou (λx y=>f x-f y) a).toArray[j]! =(ou (λx y=>f x-f y) a)[j]:=by rw[getElem!_pos _ _ (by simpa using l)];simp
 rw[m,d] at this;simp at this;omega
def amm{a d b:List Int}(h:o1 a d=J b):b.Pairwise λx y=>a.getD x.toNat 0<=a.getD y.toNat 0:=by
 unfold o1 at h;split at h
 ·cases h;exact .nil
 ·split at h
  ·rename_i e;cases h
   letI:Inhabited (pW (aN8 a)):=⟨⟨0,by omega⟩⟩
   rw[List.pairwise_map];exact aqi (λx:pW (aN8 a)=>a.getD x.1.toNat 0) _
  ·cases h
instance {d a:List Int}:au (o1 d a) ((∀x∈a,aOa x d)/\(∀b∈d,0<=b/\b<=1000000)/\aN9 a) λr=>r.Perm a/\r.Pairwise λx y=>d.getD x.toNat 0<=d.getD y.toNat 0:=⟨λh=>by
 refine⟨?_,λr e=>⟨abZ e,amm e⟩⟩;unfold o1;split
 ·simp
 ·rename_i f;rw[dif_pos]
  ·simp
  ·refine⟨h.1,λb m=>by have:=h.2.1 b m;omega,by omega,?_⟩;cases a with
   |nil=>exact absurd rfl f
   |cons x a=>have:=h.1 x (by simp);omega⟩
end
end Go.W