/- A part of the proof of the card of licitlaw37.ConclusionDiffers. -/
import Derived.Test.YtnpfemnclccbnaaGreatDoorDK
import Derived.Test.YtnpfemnclccbnaaGreatDoorDJ
namespace Go.Proofs.YtnpfemnclccbnaaGreatDoor.Differs
open Go.ChangeShapes Go.WideShapes Go.ChangeAt Go.RowKit
set_option linter.unusedVariables false

theorem named : Tryz.pinned.checked.prog.funcNamed c.func = some 6 := by kernel_rfl
theorem instanced : Tryz.f6.isInstance Tryz.pinned.checked.prog c.origin c.targs := of_decide_eq_true (by kernel_rfl)
theorem wrapped : Tryz.f6.isWrapper Tryz.pinned.checked.prog c.wrapper c.mainSum := by unfold Func.isWrapper; first | (rw [if_pos (by decide +kernel)]; kernel_rfl) | (rw [if_neg (by decide +kernel)]; exact ⟨rfl, rfl⟩)
theorem facts : joinedFacts Tryz.pinned.checked.prog 6 Tryz.f6 s c = true := by
  unfold joinedFacts
  rw [q0, q1, q2, q3, q4, q5, q6, q7, q8, q9, q10, q11, q12, q13, q14, q15, q16, q17, q18, q19, q20, q21, q22, q23, q24, q25, q26, q27, q29, q30, q31]
  simp only [Bool.true_and, Bool.and_true]
  kernel_rfl
end Go.Proofs.YtnpfemnclccbnaaGreatDoor.Differs
namespace Go.Proofs.YtnpfemnclccbnaaGreatDoor.Differs
open Go.ChangeShapes Go.WideShapes Go.ChangeAt Go.RowKit Go.Proofs.Dif
set_option linter.unusedVariables false

theorem said (aw : Awake8) : Rows.ConclusionDiffersSaid :=
  OpenClaim.holds_of_cond 6 Tryz.f6 rfl rfl rfl rfl rfl rfl rfl ⟨rfl, rfl, rfl, rfl, rfl⟩ rfl rfl rfl rfl rfl named Tryz.func6 facts instanced wrapped
    (fun os started H enc _ F => by rw [OpenClaim.pre_eq_preRow]; exact lifted aw os started H enc F)
end Go.Proofs.YtnpfemnclccbnaaGreatDoor.Differs
