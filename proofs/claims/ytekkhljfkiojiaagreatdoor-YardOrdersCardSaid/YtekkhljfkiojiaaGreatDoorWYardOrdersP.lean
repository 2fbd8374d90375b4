/- 'humpyardlaw44.YardOrders' returns true whatever the input, and the input reads as it did: the card of the row that lists one table of the program; no condition of our own. -/
import Derived.Test.YtekkhljfkiojiaaGreatDoorCards
import Derived.Test.YtekkhljfkiojiaaGreatDoorTie
import Derived.Test.YtekkhljfkiojiaaGreatDoorQ5
import Derived.Test.YtekkhljfkiojiaaGreatDoorQ6
import Derived.Test.YtekkhljfkiojiaaGreatDoorMj
namespace Go.Proofs.YtekkhljfkiojiaaGreatDoor.yardOrdersDone
set_option linter.unusedVariables false
set_option maxRecDepth 20000
theorem said:Rows.YardOrdersSaid:=
 OpenClaim.holds_of_cond 7 Tryz.f7 rfl rfl rfl rfl rfl rfl rfl ⟨rfl,rfl,rfl,rfl,rfl⟩ rfl rfl rfl rfl rfl (by kernel_rfl) Tryz.func7 closed
  (of_decide_eq_true (by kernel_rfl)) (by unfold Func.isWrapper;first|(rw[if_pos (by decide+kernel)];kernel_rfl)|(rw[if_neg (by decide+kernel)];exact⟨rfl,rfl⟩))
  (fun os started H enc _ F=>by rw[OpenClaim.pre_eq_preRow];exact atj os started H enc F)
theorem plain(f : FuncId)(fn : Func)(bF : Tryz.pinned.checked.prog.funcNamed "humpyard/humpyardlaw44.YardOrders" = some f)(U6 : Tryz.pinned.checked.prog.funcs[f]?= some fn):
  false=Tryz.pinned.checked.prog.looks []/\∀(j:Nat) t,fn.params[j]?=some t->Tryz.pinned.checked.prog.wantsStandIn t=false:=by
 obtain rfl : f = 7 := Option.some.inj ((show Tryz.prog.funcNamed "humpyard/humpyardlaw44.YardOrders" = some 7 by kernel_rfl).symm.trans bF) |>.symm
 obtain rfl:fn=Tryz.f7:=(Option.some.inj (Tryz.func7.symm.trans U6)).symm;refine⟨by kernel_rfl,fun j t aJ=>?_⟩;rw[Tryz.params7] at aJ;have hm:t∈[22]:=by simpa using Array.mem_of_getElem? aJ
 exact List.all_eq_true.1 (show([22].all fun t=> !Tryz.prog.wantsStandIn t)=true by kernel_rfl) t hm|>fun h=>(by simpa using h:Tryz.prog.wantsStandIn t=false)
theorem proved:Rows.YardOrdersCardSaid:=
 Claim7.holds_tied_plain_at .later [] _ _ _ _ said (fun _ h=>by cases h) (by kernel_rfl) (fun _ h=>by cases h) yardOrders_row_tie rfl ⟨rfl,rfl⟩ (by kernel_rfl) rfl plain c9
#print axioms proved
end Go.Proofs.YtekkhljfkiojiaaGreatDoor.yardOrdersDone
