import Derived.Test.YtmkfilkddlfgjaaGreatRows
import Derived.WalkKit
import Derived.ProofKit
import Derived.OpenShut
import Derived.ShutString
import Derived.ChangeOld
import Derived.Below
import Derived.Test.YtmkfilkddlfgjaaGreatMe
namespace Go.Proofs.YtmkfilkddlfgjaaGreat.interlockKeepsDone
open Go.ChangeShapes Go.WideShapes Go.ChangeAt Go.RowKit
open Go.ChangeMaps (open_string shut_string)
set_option linter.unusedVariables false
set_option linter.unusedSimpArgs false
set_option maxRecDepth 20000
theorem own:ownKnob Tryz.prog.godebug=none:=by kernel_rfl
theorem laidOut:laidOutB Tryz.prog=true:=by kernel_rfl
set_option maxRecDepth 100000 in
theorem lifted (os:Os) (started:os.Started) (H:Type) (enc:TypeId×Value->H):
  ReturnsInHanded {} Tryz.checked os 4 .any (Rows.interlockKeepsSpec.pre6 enc Tryz.prog Tryz.f4 Rows.interlockKeepsRow.domain false) (Rows.interlockKeepsSpec.post enc Tryz.prog Tryz.f4 false true false false):=by
 refine returnsInHanded_of_change (C:=Tryz.checked) own started (by kernel_rfl) Tryz.func4
  (ChangeSpec.witness6 (enc:=enc) (C:=Tryz.checked) false ⟨#[],#[.slice none 0 0],[]⟩ 8 (by kernel_rfl) (by kernel_rfl) (by kernel_rfl) (by kernel_rfl)) ?_
 intro W base args ds gs before UZ cr apY _;have BV:∀(j:Nat) t v,Tryz.f4.params[j]? =some t->args[j]? =some v->Value.okWide Tryz.prog W .any base t v:=UZ;have LG:=cr;obtain ⟨p,q,TV,dD,rfl,yq,km⟩:=cr;have ey:DataW.TrodAll enc Tryz.prog W 0 (fun _=>true) true Tryz.f4.params.toList args.toList ds p:=TV;rw[Tryz.params4] at ey BV;obtain ⟨v0,b6,d0,apQ,ll,iQ,tw,rfl,rfl,aI,nz⟩:=trodAll_cons ey;obtain ⟨rfl,rfl,rfl⟩:=trodAll_nil nz;obtain rfl:args=#[v0]:=by cases args;simp_all
 obtain ⟨rfl,rfl⟩:=trodVars_none dD;have iP:=aI;have ad3:∀x∈ll,x.block<W.heap.size:=by obtain ⟨m,hm⟩:=iP;exact DataW.trod_lt m _ _ _ hm
 obtain ⟨anT,z0,DA,de⟩:=aS.aht (T:=Go.W.AU) (aS.nN.conv (AO:=Go.W.AU) (aS.ahY Tryz.underlying3 Tryz.type3 rfl) rfl rfl fun z x cs h=>by obtain rfl:cs=[_]:=h;exact ⟨rfl,trivial⟩) Tryz.underlying22 (BV 0 22 v0 rfl rfl) aI;clear TV UZ;obtain ⟨N,bi⟩:=Go.W.amY z0;have TJ:Go.W.EH.call Go.W.bh (Go.W.Ea N) [.c (.ay 3 z0)] [] (fun cY _=>some cY)=Option.bind (Go.W.IP N z0) fun y=>some (.c (.bool y)):=by kernel_rfl
 rw[bi] at TJ;have cB:aS.ba (aS.rel Go.W.bh.G (aS.gU W).aH []) [.c (.ay 3 z0)] [v0]:=⟨DA,trivial⟩
 refine ((aS.aeF (by kernel_rfl) ?_ (aS.bX.law (X:=Go.W.bh) (F:=Go.W.Ea N) (Go.W.ZU N) (aS.ahS W) (aS.Ws W) cB TJ))).mono fun e rp ⟨he,Ty⟩=> ?_
 ·intro a au;simp only[List.mem_cons,List.not_mem_nil,or_false] at au;rcases au with rfl
  ·exact anT
 ·subst he;exact ⟨_,rfl,_,_,_,[],_,[],LG,trodAll_mk1 (shut_bool Tryz.underlying4 _),(trodAll_cons_mk (Below.trod laidOut (by kernel_rfl) (of_decide_eq_true (by kernel_rfl)) iP Ty ad3) trodAll_mk0),rfl,Ty.frame _,fun h=>by cases h⟩
theorem over:Rows.interlockKeepsRow.holds Tryz.pinned (OpenSpec.ofChange Rows.interlockKeepsSpec):=
 OpenClaim.holds_of_wide 4 Tryz.f4 rfl rfl rfl rfl rfl rfl rfl ⟨rfl,rfl,rfl,rfl,rfl⟩ rfl rfl rfl rfl rfl (by kernel_rfl) Tryz.func4 (by kernel_rfl)
  (of_decide_eq_true (by kernel_rfl)) (by unfold Func.isWrapper;first|(rw[if_pos (by decide+kernel)];kernel_rfl)|(rw[if_neg (by decide+kernel)];exact ⟨rfl,rfl⟩))
  (fun os started H enc _=>lifted os started H enc)
theorem proved:Rows.InterlockKeepsSaid:=over
#print axioms proved
end Go.Proofs.YtmkfilkddlfgjaaGreat.interlockKeepsDone
