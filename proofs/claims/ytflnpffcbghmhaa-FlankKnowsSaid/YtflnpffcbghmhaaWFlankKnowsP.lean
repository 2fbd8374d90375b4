import Derived.Test.YtflnpffcbghmhaaRows
import Derived.WalkKit
import Derived.ProofKit
import Derived.OpenShut
import Derived.ShutString
import Derived.ChangeOld
import Derived.Below
import Derived.Test.YtflnpffcbghmhaaMf
namespace Go.Proofs.Ytflnpffcbghmhaa.flankKnowsDone
open Go.ChangeShapes Go.WideShapes Go.ChangeAt Go.RowKit
open Go.ChangeMaps (open_string shut_string)
set_option linter.unusedVariables false
set_option linter.unusedSimpArgs false
set_option maxRecDepth 20000
theorem own:ownKnob Try.prog.godebug=none:=by kernel_rfl
theorem laidOut:laidOutB Try.prog=true:=by kernel_rfl
set_option maxRecDepth 100000 in
theorem lifted (os:Os) (started:os.Started) (H:Type) (enc:TypeId×Value→H):
  ReturnsInHanded {} Try.checked os 6 .any (Rows.flankKnowsSpec.pre6 enc Try.prog Try.f6 Rows.flankKnowsRow.domain false) (Rows.flankKnowsSpec.post enc Try.prog Try.f6 false true false false):=by
 refine returnsInHanded_of_change (C:=Try.checked) own started (by kernel_rfl) Try.func6
  (ChangeSpec.witness6 (enc:=enc) (C:=Try.checked) false ⟨#[],#[.slice none 0 0, .int .i64 0],[]⟩ 8 (by kernel_rfl) (by kernel_rfl) (by kernel_rfl) (by kernel_rfl)) ?_
 intro W base args ds gs before hval0 hW hcnd _
 have hval:∀(j:Nat) t v,Try.f6.params[j]? =some t→args[j]? =some v→Value.okWide Try.prog W .any base t v:=hval0
 have hW':=hW
 obtain ⟨p,q,hA0,hV,rfl,hfz,hnd⟩:=hW
 have hA:DataW.TrodAll enc Try.prog W 0 (fun _=>true) true Try.f6.params.toList args.toList ds p:=hA0
 rw[Try.params6] at hA hval
 obtain ⟨v0,vs0,d0,ds0,p0,q0,hargs,rfl,rfl,h0,r0⟩:=trodAll_cons hA
 obtain ⟨v1,vs1,d1,ds1,p1,q1,rfl,rfl,rfl,h1,r1⟩:=trodAll_cons r0
 obtain ⟨rfl,rfl,rfl⟩:=trodAll_nil r1
 obtain rfl:args=#[v0,v1]:=by cases args;simp_all
 obtain ⟨rfl,rfl⟩:=trodVars_none hV
 have k0:=h0
 have lt0:∀x∈p0,x.block<W.heap.size:=by obtain ⟨m,hm⟩:=k0;exact DataW.trod_lt m _ _ _ hm
 obtain ⟨vr0,z0,s0,w0⟩:=AM.qwx (T:=Go.W.Ty3) (AM.Opn.conv (T':=Go.W.Ty3) (AM.qxo Try.underlying3 Try.type3 rfl) rfl rfl fun z x cs h=>by obtain rfl:cs=[_]:=h;exact ⟨rfl,trivial⟩) Try.underlying22 (hval 0 22 v0 rfl rfl) h0
 have k1:=h1
 have lt1:∀x∈p1,x.block<W.heap.size:=by obtain ⟨m,hm⟩:=k1;exact DataW.trod_lt m _ _ _ hm
 obtain ⟨z1,rfl,rfl,rfl,w1⟩:=open_int Try.underlying3 (hval 1 3 v1 rfl rfl) h1
 have vr1:AM.VR (AM.emb0 W) (.int .i64 z1) (.int .i64 z1):=rfl
 clear hA0 hval0
 obtain ⟨N,hN⟩:=Go.W.qwR z0 z1
 have ec:Go.W.dzaM.call Go.W.X0 (Go.W.FzaM N) [.c (.sl 3 z0), .c (.int .i64 z1)] [] (fun sv _=>some sv)=Option.bind (Go.W.zaM N z0 z1) fun y=>some (.c (.bool y)):=by kernel_rfl
 rw[hN] at ec
 have hL:AM.L2 (AM.rel Go.W.X0.G (AM.mem0 W).blk []) [.c (.sl 3 z0), .c (.int .i64 z1)] [v0, .int .i64 z1]:=⟨s0,rfl,trivial⟩
 refine ((AM.qhR (by kernel_rfl) ?_ (AM.CallOk.law (X:=Go.W.X0) (F:=Go.W.FzaM N) (by first|exact (Go.W.ozaM N).call.base|exact (Go.W.ozaM N).call.cuts.base|exact AM.CallOk.ch (AM.CallOk.ch (Go.W.ozaM N).call)|exact AM.CallOk.ch (AM.CallOk.ch (AM.CallOk.ch (Go.W.ozaM N).call))) (AM.qxe W) (AM.qg0 W) hL ec))).mono fun e W' ⟨he,bel⟩=> ?_
 ·intro a ha
  simp only[List.mem_cons,List.not_mem_nil,or_false] at ha
  rcases ha with rfl|rfl
  ·exact vr0
  ·exact vr1
 ·subst he
  exact ⟨_,rfl,_,_,_,[],_,[],hW',trodAll_mk1 (shut_bool Try.underlying4 _),(trodAll_cons_mk (Below.trod laidOut (by kernel_rfl) (of_decide_eq_true (by kernel_rfl)) k0 bel lt0) (trodAll_cons_mk (Below.trod laidOut (by kernel_rfl) (of_decide_eq_true (by kernel_rfl)) k1 bel lt1) trodAll_mk0)),rfl,bel.frame _,fun h=>by cases h⟩
theorem over:Rows.flankKnowsRow.holds Try.pinned (OpenSpec.ofChange Rows.flankKnowsSpec):=
 OpenClaim.holds_of_wide 6 Try.f6 rfl rfl rfl rfl rfl rfl rfl ⟨rfl,rfl,rfl,rfl,rfl⟩ rfl rfl rfl rfl rfl (by kernel_rfl) Try.func6 (by kernel_rfl)
  (of_decide_eq_true (by kernel_rfl)) (by unfold Func.isWrapper;first|(rw[if_pos (by decide+kernel)];kernel_rfl)|(rw[if_neg (by decide+kernel)];exact ⟨rfl,rfl⟩))
  (fun os started H enc _=>lifted os started H enc)
theorem proved:Rows.FlankKnowsSaid:=over
#print axioms proved
end Go.Proofs.Ytflnpffcbghmhaa.flankKnowsDone
