import Derived.Test.YtfmpkhcaifbonaaGreatDoorCards
import Derived.Test.YtfmpkhcaifbonaaGreatDoorTie
import Derived.Test.YtfmpkhcaifbonaaGreatDoorQ5
import Derived.Test.YtfmpkhcaifbonaaGreatDoorMf
namespace Go.Proofs.YtfmpkhcaifbonaaGreatDoor.scriptCodesUptoDone
set_option linter.unusedVariables false
set_option maxRecDepth 20000
theorem said:Rows.ScriptCodesUptoSaid:=
 OpenClaim.holds_of_cond 3 Tryz.f3 rfl rfl rfl rfl rfl rfl rfl ⟨rfl,rfl,rfl,rfl,rfl⟩ rfl rfl rfl rfl rfl (by kernel_rfl) Tryz.func3 closed
  (of_decide_eq_true (by kernel_rfl)) (by unfold Func.isWrapper;first|(rw[if_pos (by decide+kernel)];kernel_rfl)|(rw[if_neg (by decide+kernel)];exact ⟨rfl,rfl⟩))
  (fun os started H enc _ F=>by rw[OpenClaim.pre_eq_preRow];exact aqE os started H enc F)
theorem plain (f : FuncId) (fn : Func) (bb : Tryz.pinned.checked.prog.funcNamed "humpyard/humpyardlaw46.ScriptCodes" = some f) (NA : Tryz.pinned.checked.prog.funcs[f]? = some fn) :
  false=Tryz.pinned.checked.prog.looks []/\∀(j:Nat) t,fn.params[j]? =some t->Tryz.pinned.checked.prog.wantsStandIn t=false:=by
 obtain rfl : f = 3 := Option.some.inj ((show Tryz.prog.funcNamed "humpyard/humpyardlaw46.ScriptCodes" = some 3 by kernel_rfl).symm.trans bb) |>.symm
 obtain rfl:fn=Tryz.f3:=(Option.some.inj (Tryz.func3.symm.trans NA)).symm;refine ⟨by kernel_rfl,fun j t aw=> ?_⟩;rw[Tryz.params3] at aw;have hm:t∈[22,29,27]:=by simpa using Array.mem_of_getElem? aw
 have h:=List.all_eq_true.1 (show ([22,29,27].all fun t=> !Tryz.prog.wantsStandIn t)=true by kernel_rfl) t hm;have aa:Tryz.prog.wantsStandIn t=false:=by simpa using h
 exact aa
theorem proved:Rows.ScriptCodesUptoCardSaid:=
 Claim7.holds_tied_plain_at .later [] _ _ _ _ said (fun _ h=>by cases h) (by kernel_rfl) (fun _ h=>by cases h) scriptCodesUpto_row_tie rfl ⟨rfl,rfl⟩ (by kernel_rfl) rfl plain (by kernel_rfl)
#print axioms proved
end Go.Proofs.YtfmpkhcaifbonaaGreatDoor.scriptCodesUptoDone
