import Derived.Test.YtmkfilkddlfgjaaGreatRows
import Derived.WalkKit
import Derived.ProofKit
import Derived.OpenShut
import Derived.ShutString
import Derived.ChangeOld
import Derived.Below
import Derived.Test.YtmkfilkddlfgjaaGreatMf
namespace Go.Proofs.YtmkfilkddlfgjaaGreat.interlockReleasesDone
open Go.ChangeShapes Go.WideShapes Go.ChangeAt Go.RowKit
open Go.ChangeMaps (open_string shut_string)
set_option linter.unusedVariables false
set_option linter.unusedSimpArgs false
set_option maxRecDepth 20000
theorem own:ownKnob Tryz.prog.godebug=none:=by kernel_rfl
theorem laidOut:laidOutB Tryz.prog=true:=by kernel_rfl
set_option maxRecDepth 100000 in
theorem lifted (os:Os) (started:os.Started) (H:Type) (enc:TypeId×Value→H):
  ReturnsInHanded {} Tryz.checked os 3 .any (Rows.interlockReleasesSpec.pre6 enc Tryz.prog Tryz.f3 Rows.interlockReleasesRow.domain false) (Rows.interlockReleasesSpec.post enc Tryz.prog Tryz.f3 false true false false):=by
 refine returnsInHanded_of_change (C:=Tryz.checked) own started (by kernel_rfl) Tryz.func3
  (ChangeSpec.witness6 (enc:=enc) (C:=Tryz.checked) false ⟨#[],#[.slice none 0 0],[]⟩ 8 (by kernel_rfl) (by kernel_rfl) (by kernel_rfl) (by kernel_rfl)) ?_
 intro W base args ds gs before hval0 hW hcnd _
 have hval:∀(j:Nat) t v,Tryz.f3.params[j]? =some t→args[j]? =some v→Value.okWide Tryz.prog W .any base t v:=hval0
 have hW':=hW
 obtain ⟨p,q,hA0,hV,rfl,hfz,hnd⟩:=hW
 have hA:DataW.TrodAll enc Tryz.prog W 0 (fun _=>true) true Tryz.f3.params.toList args.toList ds p:=hA0
 rw[Tryz.params3] at hA hval
 obtain ⟨v0,vs0,d0,ds0,p0,q0,hargs,rfl,rfl,h0,r0⟩:=trodAll_cons hA
 obtain ⟨rfl,rfl,rfl⟩:=trodAll_nil r0
 obtain rfl:args=#[v0]:=by cases args;simp_all
 obtain ⟨rfl,rfl⟩:=trodVars_none hV
 have k0:=h0
 have lt0:∀x∈p0,x.block<W.heap.size:=by obtain ⟨m,hm⟩:=k0;exact DataW.trod_lt m _ _ _ hm
 obtain ⟨vr0,z0,s0,w0⟩:=AM.qqb (T:=Go.W.Ty3) (AM.Opn.conv (T':=Go.W.Ty3) (AM.qq3 Tryz.underlying3 Tryz.type3 rfl) rfl rfl fun z x cs h=>by obtain rfl:cs=[_]:=h;exact ⟨rfl,trivial⟩) Tryz.underlying22 (hval 0 22 v0 rfl rfl) h0
 clear hA0 hval0
 obtain ⟨N,hN⟩:=Go.W.relT z0
 have ec:Go.W.dzaK.call Go.W.X0 (Go.W.FzaK N) [.c (.sl 3 z0)] [] (fun sv _=>some sv)=Option.bind (Go.W.zaK N z0) fun y=>some (.c (.bool y)):=by kernel_rfl
 rw[hN] at ec
 have hL:AM.L2 (AM.rel Go.W.X0.G (AM.mem0 W).blk []) [.c (.sl 3 z0)] [v0]:=⟨s0,trivial⟩
 refine ((AM.qiY (by kernel_rfl) ?_ (AM.CallOk.law (X:=Go.W.X0) (F:=Go.W.FzaK N) (Go.W.wzaK N) (AM.qqS W) (AM.qh3 W) hL ec))).mono fun e W' ⟨he,bel⟩=> ?_
 ·intro a ha
  simp only[List.mem_cons,List.not_mem_nil,or_false] at ha
  rcases ha with rfl
  ·exact vr0
 ·subst he
  exact ⟨_,rfl,_,_,_,[],_,[],hW',trodAll_mk1 (shut_bool Tryz.underlying4 _),(trodAll_cons_mk (Below.trod laidOut (by kernel_rfl) (of_decide_eq_true (by kernel_rfl)) k0 bel lt0) trodAll_mk0),rfl,bel.frame _,fun h=>by cases h⟩
theorem over:Rows.interlockReleasesRow.holds Tryz.pinned (OpenSpec.ofChange Rows.interlockReleasesSpec):=
 OpenClaim.holds_of_wide 3 Tryz.f3 rfl rfl rfl rfl rfl rfl rfl ⟨rfl,rfl,rfl,rfl,rfl⟩ rfl rfl rfl rfl rfl (by kernel_rfl) Tryz.func3 (by kernel_rfl)
  (of_decide_eq_true (by kernel_rfl)) (by unfold Func.isWrapper;first|(rw[if_pos (by decide+kernel)];kernel_rfl)|(rw[if_neg (by decide+kernel)];exact ⟨rfl,rfl⟩))
  (fun os started H enc _=>lifted os started H enc)
theorem proved:Rows.InterlockReleasesSaid:=over
#print axioms proved
end Go.Proofs.YtmkfilkddlfgjaaGreat.interlockReleasesDone
