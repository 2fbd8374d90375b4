import Derived.Test.YtmkfilkddlfgjaaGreatRows
import Derived.WalkKit
import Derived.ProofKit
import Derived.OpenShut
import Derived.ShutString
import Derived.ChangeOld
import Derived.Below
import Derived.Test.YtmkfilkddlfgjaaGreatMe
namespace Go.Proofs.YtmkfilkddlfgjaaGreat.interlockProtectsDone
open Go.ChangeShapes Go.WideShapes Go.ChangeAt Go.RowKit
open Go.ChangeMaps (open_string shut_string)
set_option linter.unusedVariables false
set_option linter.unusedSimpArgs false
set_option maxRecDepth 20000
theorem own:ownKnob Tryz.prog.godebug=none:=by kernel_rfl
theorem laidOut:laidOutB Tryz.prog=true:=by kernel_rfl
set_option maxRecDepth 100000 in
theorem lifted (os:Os) (started:os.Started) (H:Type) (enc:TypeId×Value->H):
  ReturnsInHanded {} Tryz.checked os 5 .any (Rows.interlockProtectsSpec.pre6 enc Tryz.prog Tryz.f5 Rows.interlockProtectsRow.domain false) (Rows.interlockProtectsSpec.post enc Tryz.prog Tryz.f5 false true false false):=by
 refine returnsInHanded_of_change (C:=Tryz.checked) own started (by kernel_rfl) Tryz.func5
  (ChangeSpec.witness6 (enc:=enc) (C:=Tryz.checked) false ⟨#[],#[.slice none 0 0],[]⟩ 8 (by kernel_rfl) (by kernel_rfl) (by kernel_rfl) (by kernel_rfl)) ?_
 intro W base args ds gs before UX ct ap3 _;have B9:∀(j:Nat) t v,Tryz.f5.params[j]? =some t->args[j]? =some v->Value.okWide Tryz.prog W .any base t v:=UX;have LG:=ct;obtain ⟨p,q,TV,eC,rfl,yB,kd⟩:=ct;have eu:DataW.TrodAll enc Tryz.prog W 0 (fun _=>true) true Tryz.f5.params.toList args.toList ds p:=TV;rw[Tryz.params5] at eu B9;obtain ⟨v0,b7,d0,apU,lz,iY,tH,rfl,rfl,aI,oy⟩:=trodAll_cons eu;obtain ⟨rfl,rfl,rfl⟩:=trodAll_nil oy;obtain rfl:args=#[v0]:=by cases args;simp_all
 obtain ⟨rfl,rfl⟩:=trodVars_none eC;have hE:=aI;have ad3:∀x∈lz,x.block<W.heap.size:=by obtain ⟨m,hm⟩:=hE;exact DataW.trod_lt m _ _ _ hm
 obtain ⟨anX,z0,mK,de⟩:=aS.ahB (T:=Go.W.A8) (aS.nN.conv (A1:=Go.W.A8) (aS.ah6 Tryz.underlying3 Tryz.type3 rfl) rfl rfl fun z x cs h=>by obtain rfl:cs=[_]:=h;exact ⟨rfl,trivial⟩) Tryz.underlying22 (B9 0 22 v0 rfl rfl) aI;clear TV UX;obtain ⟨N,bj⟩:=Go.W.amK z0;have TK:Go.W.EP.call Go.W.bd (Go.W.Ej N) [.c (.az 3 z0)] [] (fun c3 _=>some c3)=Option.bind (Go.W.IW N z0) fun y=>some (.c (.bool y)):=by kernel_rfl
 rw[bj] at TK;have cC:aS.ba (aS.rel Go.W.bd.G (aS.gV W).aG []) [.c (.az 3 z0)] [v0]:=⟨mK,trivial⟩
 refine ((aS.aeE (by kernel_rfl) ?_ (aS.b3.law (X:=Go.W.bd) (F:=Go.W.Ej N) (Go.W.ZO N) (aS.ah1 W) (aS.Wn W) cC TK))).mono fun e rA ⟨he,Ty⟩=> ?_
 ·intro a aq;simp only[List.mem_cons,List.not_mem_nil,or_false] at aq;rcases aq with rfl
  ·exact anX
 ·subst he;exact ⟨_,rfl,_,_,_,[],_,[],LG,trodAll_mk1 (shut_bool Tryz.underlying4 _),(trodAll_cons_mk (Below.trod laidOut (by kernel_rfl) (of_decide_eq_true (by kernel_rfl)) hE Ty ad3) trodAll_mk0),rfl,Ty.frame _,fun h=>by cases h⟩
theorem over:Rows.interlockProtectsRow.holds Tryz.pinned (OpenSpec.ofChange Rows.interlockProtectsSpec):=
 OpenClaim.holds_of_wide 5 Tryz.f5 rfl rfl rfl rfl rfl rfl rfl ⟨rfl,rfl,rfl,rfl,rfl⟩ rfl rfl rfl rfl rfl (by kernel_rfl) Tryz.func5 (by kernel_rfl)
  (of_decide_eq_true (by kernel_rfl)) (by unfold Func.isWrapper;first|(rw[if_pos (by decide+kernel)];kernel_rfl)|(rw[if_neg (by decide+kernel)];exact ⟨rfl,rfl⟩))
  (fun os started H enc _=>lifted os started H enc)
theorem proved:Rows.InterlockProtectsSaid:=over
#print axioms proved
end Go.Proofs.YtmkfilkddlfgjaaGreat.interlockProtectsDone
