/- The card of licitlaw37.ConclusionDiffers: for every pair of arguments and every world the row allows, the call returns true and both arguments read as before. No condition stands ahead of it. -/
import Derived.Test.YtnpfemnclccbnaaGreatDoorDL
import Derived.Test.YtnpfemnclccbnaaGreatDoorQL
namespace Go.Proofs.YtnpfemnclccbnaaGreatDoor.Differs
open Go.ChangeShapes Go.WideShapes Go.ChangeAt Go.RowKit Go.Proofs.Dif
set_option linter.unusedVariables false

theorem plain (f : FuncId) (fn : Func) (hf : Tryz.pinned.checked.prog.funcNamed "licit/licitlaw37.ConclusionDiffers" = some f) (hfn : Tryz.pinned.checked.prog.funcs[f]? = some fn) :
    true = Tryz.pinned.checked.prog.looks [] ∧ ∀ (j : Nat) t, fn.params[j]? = some t → Tryz.pinned.checked.prog.wantsStandIn t = false := by
  obtain rfl : f = 6 := Option.some.inj ((show Tryz.prog.funcNamed "licit/licitlaw37.ConclusionDiffers" = some 6 by kernel_rfl).symm.trans hf) |>.symm
  obtain rfl : fn = Tryz.f6 := (Option.some.inj (Tryz.func6.symm.trans hfn)).symm
  refine ⟨by kernel_rfl, fun j t ht => ?_⟩
  rw [Tryz.params6] at ht
  obtain rfl : t = 47 := by simpa using Array.mem_of_getElem? ht
  exact (show Tryz.prog.wantsStandIn 47 = false by kernel_rfl)

theorem byText : Rows.conclusionDiffersRow.wfByText (OpenSpec.ofChange Rows.conclusionDiffersSpec) = true := by kernel_rfl
theorem goes : false = Rows.conclusionDiffersRow.goesBy Tryz.pinned.checked.prog := by kernel_rfl
theorem mains : Tryz.pinned.checked.prog.mainIs = some (Rows.conclusionDiffersCard.stood.harness.1, Rows.conclusionDiffersCard.stood.harness.2.toList) := by kernel_rfl
end Go.Proofs.YtnpfemnclccbnaaGreatDoor.Differs
namespace Go.Proofs.YtnpfemnclccbnaaGreatDoor.Differs
open Go.ChangeShapes Go.WideShapes Go.ChangeAt Go.RowKit Go.Proofs.Dif
set_option linter.unusedVariables false

theorem card (aw : Awake8) : Rows.ConclusionDiffersCardSaid :=
  Claim7.holds_tied_plain_at .later [] _ _ _ _ (said aw) (fun _ h => by cases h) byText (fun _ h => by cases h) conclusionDiffers_row_tie rfl ⟨rfl, rfl⟩ mains rfl plain goes
end Go.Proofs.YtnpfemnclccbnaaGreatDoor.Differs
namespace Go.Proofs.YtnpfemnclccbnaaGreatDoor
theorem conclusionDiffers_holds : Rows.ConclusionDiffersCardSaid := Differs.card Go.Proofs.Qas.awake37
#print axioms conclusionDiffers_holds
end Go.Proofs.YtnpfemnclccbnaaGreatDoor
