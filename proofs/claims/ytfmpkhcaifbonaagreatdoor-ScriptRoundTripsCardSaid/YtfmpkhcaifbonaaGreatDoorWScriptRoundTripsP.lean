import Derived.Test.YtfmpkhcaifbonaaGreatDoorCards
import Derived.Test.YtfmpkhcaifbonaaGreatDoorTie
import Derived.Test.YtfmpkhcaifbonaaGreatDoorQ5
import Derived.Test.YtfmpkhcaifbonaaGreatDoorMf
namespace Go.Proofs.YtfmpkhcaifbonaaGreatDoor.scriptRoundTripsDone
set_option linter.unusedVariables false
set_option maxRecDepth 20000
theorem said:Rows.ScriptRoundTripsSaid:=
 OpenClaim.holds_of_cond 4 Tryz.f4 rfl rfl rfl rfl rfl rfl rfl ⟨rfl,rfl,rfl,rfl,rfl⟩ rfl rfl rfl rfl rfl (by kernel_rfl) Tryz.func4 closed
  (of_decide_eq_true (by kernel_rfl)) (by unfold Func.isWrapper;first|(rw[if_pos (by decide+kernel)];kernel_rfl)|(rw[if_neg (by decide+kernel)];exact ⟨rfl,rfl⟩))
  (fun os started H enc _ F=>by rw[OpenClaim.pre_eq_preRow];exact ao4 os started H enc F)
theorem plain (f : FuncId) (fn : Func) (bd : Tryz.pinned.checked.prog.funcNamed "humpyard/humpyardlaw46.ScriptRoundTrips" = some f) (MP : Tryz.pinned.checked.prog.funcs[f]? = some fn) :
  false=Tryz.pinned.checked.prog.looks []/\∀(j:Nat) t,fn.params[j]? =some t->Tryz.pinned.checked.prog.wantsStandIn t=false:=by
 obtain rfl : f = 4 := Option.some.inj ((show Tryz.prog.funcNamed "humpyard/humpyardlaw46.ScriptRoundTrips" = some 4 by kernel_rfl).symm.trans bd) |>.symm
 obtain rfl:fn=Tryz.f4:=(Option.some.inj (Tryz.func4.symm.trans MP)).symm;refine ⟨by kernel_rfl,fun j t au=> ?_⟩;rw[Tryz.params4] at au;have hm:t∈[22,27,3]:=by simpa using Array.mem_of_getElem? au
 have h:=List.all_eq_true.1 (show ([22,27,3].all fun t=> !Tryz.prog.wantsStandIn t)=true by kernel_rfl) t hm;have aa:Tryz.prog.wantsStandIn t=false:=by simpa using h
 exact aa
theorem proved:Rows.ScriptRoundTripsCardSaid:=
 Claim7.holds_tied_plain_at .later [] _ _ _ _ said (fun _ h=>by cases h) (by kernel_rfl) (fun _ h=>by cases h) scriptRoundTrips_row_tie rfl ⟨rfl,rfl⟩ (by kernel_rfl) rfl plain (by kernel_rfl)
#print axioms proved
end Go.Proofs.YtfmpkhcaifbonaaGreatDoor.scriptRoundTripsDone
