import Derived.Test.YtekkhljfkiojiaaGreatDoorCards
import Derived.Test.YtekkhljfkiojiaaGreatDoorTie
import Derived.Test.YtekkhljfkiojiaaGreatDoorU5
import Derived.Test.YtekkhljfkiojiaaGreatDoorU6
import Derived.Test.YtekkhljfkiojiaaGreatDoorOg
namespace Go.Proofs.YtekkhljfkiojiaaGreatDoor.yardFinishesDone
set_option linter.unusedVariables false
set_option maxRecDepth 20000
theorem said:Rows.YardFinishesSaid:=
 OpenClaim.holds_of_cond 8 Tryz.f8 rfl rfl rfl rfl rfl rfl rfl ⟨rfl,rfl,rfl,rfl,rfl⟩ rfl rfl rfl rfl rfl (by kernel_rfl) Tryz.func8 closed
  (of_decide_eq_true (by kernel_rfl)) (by unfold Func.isWrapper;first|(rw[if_pos (by decide+kernel)];kernel_rfl)|(rw[if_neg (by decide+kernel)];exact ⟨rfl,rfl⟩))
  (fun os started H enc _ F=>by rw[OpenClaim.pre_eq_preRow];exact atj os started H enc F)
theorem plain (f : FuncId) (fn : Func) (bF : Tryz.pinned.checked.prog.funcNamed "humpyard/humpyardlaw44.YardFinishes" = some f) (U6 : Tryz.pinned.checked.prog.funcs[f]? = some fn) :
  false=Tryz.pinned.checked.prog.looks []/\∀(j:Nat) t,fn.params[j]? =some t->Tryz.pinned.checked.prog.wantsStandIn t=false:=by
 obtain rfl : f = 8 := Option.some.inj ((show Tryz.prog.funcNamed "humpyard/humpyardlaw44.YardFinishes" = some 8 by kernel_rfl).symm.trans bF) |>.symm
 obtain rfl:fn=Tryz.f8:=(Option.some.inj (Tryz.func8.symm.trans U6)).symm;refine ⟨by kernel_rfl,fun j t aJ=> ?_⟩;rw[Tryz.params8] at aJ;have hm:t∈[22]:=by simpa using Array.mem_of_getElem? aJ
 exact List.all_eq_true.1 (show ([22].all fun t=> !Tryz.prog.wantsStandIn t)=true by kernel_rfl) t hm|>fun h=>(by simpa using h:Tryz.prog.wantsStandIn t=false)
theorem proved:Rows.YardFinishesCardSaid:=
 Claim7.holds_tied_plain_at .later [] _ _ _ _ said (fun _ h=>by cases h) (by kernel_rfl) (fun _ h=>by cases h) yardFinishes_row_tie rfl ⟨rfl,rfl⟩ (by kernel_rfl) rfl plain c9
#print axioms proved
end Go.Proofs.YtekkhljfkiojiaaGreatDoor.yardFinishesDone
