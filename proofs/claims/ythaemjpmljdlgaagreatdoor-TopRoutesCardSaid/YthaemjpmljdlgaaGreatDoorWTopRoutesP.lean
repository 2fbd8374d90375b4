import Derived.Test.YthaemjpmljdlgaaGreatDoorCards
import Derived.Test.YthaemjpmljdlgaaGreatDoorTie
import Derived.Test.YthaemjpmljdlgaaGreatDoorQ5
import Derived.Test.YthaemjpmljdlgaaGreatDoorMf
namespace Go.Proofs.YthaemjpmljdlgaaGreatDoor.topRoutesDone
set_option linter.unusedVariables false
set_option maxRecDepth 20000
theorem said:Rows.TopRoutesSaid:=
 OpenClaim.holds_of_cond 3 Tryz.f3 rfl rfl rfl rfl rfl rfl rfl ⟨rfl,rfl,rfl,rfl,rfl⟩ rfl rfl rfl rfl rfl (by kernel_rfl) Tryz.func3 closed
  (of_decide_eq_true (by kernel_rfl)) (by unfold Func.isWrapper;first|(rw[if_pos (by decide+kernel)];kernel_rfl)|(rw[if_neg (by decide+kernel)];exact ⟨rfl,rfl⟩))
  (fun os started H enc _ F=>by rw[OpenClaim.pre_eq_preRow];exact akS os started H enc F)
theorem plain (f : FuncId) (fn : Func) (aK : Tryz.pinned.checked.prog.funcNamed "humpyard/humpyardtop.TopRoutes" = some f) (L4 : Tryz.pinned.checked.prog.funcs[f]? = some fn) :
  false=Tryz.pinned.checked.prog.looks []/\∀(j:Nat) t,fn.params[j]? =some t->Tryz.pinned.checked.prog.wantsStandIn t=false:=by
 obtain rfl : f = 3 := Option.some.inj ((show Tryz.prog.funcNamed "humpyard/humpyardtop.TopRoutes" = some 3 by kernel_rfl).symm.trans aK) |>.symm
 obtain rfl:fn=Tryz.f3:=(Option.some.inj (Tryz.func3.symm.trans L4)).symm;refine ⟨by kernel_rfl,fun j t ak=> ?_⟩;rw[Tryz.params3] at ak;obtain rfl:t=22:=by simpa using Array.mem_of_getElem? ak
 exact (show Tryz.prog.wantsStandIn 22=false by kernel_rfl)
theorem proved:Rows.TopRoutesCardSaid:=
 Claim7.holds_tied_plain_at .later [] _ _ _ _ said (fun _ h=>by cases h) (by kernel_rfl) (fun _ h=>by cases h) topRoutes_row_tie rfl ⟨rfl,rfl⟩ (by kernel_rfl) rfl plain (by kernel_rfl)
#print axioms proved
end Go.Proofs.YthaemjpmljdlgaaGreatDoor.topRoutesDone
