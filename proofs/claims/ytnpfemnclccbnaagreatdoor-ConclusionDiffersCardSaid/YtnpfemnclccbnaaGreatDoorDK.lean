/- A part of the proof of the card of licitlaw37.ConclusionDiffers. -/
import Derived.Test.YtnpfemnclccbnaaGreatDoorCards
import Derived.Test.YtnpfemnclccbnaaGreatDoorTie
import Derived.JoinedCond
import Derived.ProofKit
namespace Go.Proofs.YtnpfemnclccbnaaGreatDoor.Differs
open Go.ChangeShapes Go.WideShapes Go.ChangeAt Go.RowKit
set_option linter.unusedVariables false
abbrev c := Rows.conclusionDiffersRow
abbrev s : ChangeSpec := (OpenSpec.ofChange Rows.conclusionDiffersSpec).bare
theorem q0 : (c.wf (OpenSpec.ofChange s)) = true := by kernel_rfl
theorem q1 : (laidOutB Tryz.pinned.checked.prog) = true := by kernel_rfl
theorem q2 : (mapsRowed Tryz.pinned.checked.prog) = true := by kernel_rfl
theorem q3 : (Tryz.f6.params.all (Tryz.pinned.checked.prog.readableRec ·)) = true := by kernel_rfl
theorem q4 : (namedTie Tryz.pinned.checked.prog c.named s.vars) = true := by kernel_rfl
theorem q5 : ((c.stops == [])) = true := by kernel_rfl
theorem q6 : ((Tryz.pinned.checked.prog.stops == [])) = true := by kernel_rfl
theorem q7 : ((c.knobs == [])) = true := by kernel_rfl
theorem q8 : ((Tryz.pinned.checked.prog.stopKnobs == [])) = true := by kernel_rfl
theorem q9 : ((c.inPlace == Tryz.pinned.checked.prog.inPlace 6)) = true := by kernel_rfl
theorem q10 : ((c.unfollowed == Tryz.pinned.checked.prog.unfollowed 6)) = true := by kernel_rfl
theorem q11 : ((c.recurses == Tryz.pinned.checked.prog.recurses 6)) = true := by kernel_rfl
theorem q12 : ((c.named == Tryz.pinned.checked.prog.varsNamed 6)) = true := by kernel_rfl
theorem q13 : ((c.maps == (Tryz.f6.params.toList ++ s.plain.varTypes Tryz.pinned.checked.prog).any (Tryz.pinned.checked.prog.mapsRec ·))) = true := by kernel_rfl
theorem q14 : ((c.ifaces == (Tryz.f6.params.toList ++ s.plain.varTypes Tryz.pinned.checked.prog).any (Tryz.pinned.checked.prog.ifacesRec ·))) = true := by kernel_rfl
theorem q15 : ((c.mapsOut == Tryz.pinned.checked.prog.mapsAmong Tryz.f6.resultTypes.toList)) = true := by kernel_rfl
theorem q16 : ((c.loops == (Tryz.f6.params.toList ++ s.plain.varTypes Tryz.pinned.checked.prog).any (Tryz.pinned.checked.prog.loopsFrom ·))) = true := by kernel_rfl
theorem q17 : ((c.wideKeys == (Tryz.f6.params.toList ++ s.plain.varTypes Tryz.pinned.checked.prog ++ Tryz.f6.resultTypes.toList).any (Tryz.pinned.checked.prog.wideKeysFrom ·))) = true := by kernel_rfl
theorem q18 : (s.vars.all (Tryz.pinned.checked.prog.varReadable ·)) = true := by kernel_rfl
theorem q19 : (Tryz.f6.resultTypes.all (fun t => Tryz.pinned.checked.prog.readableRec t && decide (t < Tryz.pinned.checked.prog.types.size))) = true := by kernel_rfl
theorem q20 : ((c.ifacesOut == Tryz.f6.resultTypes.toList.any (Tryz.pinned.checked.prog.ifacesRec ·))) = true := by kernel_rfl
theorem q21 : ((c.loopsOut == Tryz.f6.resultTypes.toList.any (Tryz.pinned.checked.prog.loopsFrom ·))) = true := by kernel_rfl
theorem q22 : ((c.plainKeys == Tryz.pinned.checked.prog.plainKeys)) = true := by kernel_rfl
theorem q23 : (c.shortTexts.isNone) = true := by kernel_rfl
theorem q24 : (Tryz.pinned.checked.prog.stopsHeard) = true := by kernel_rfl
theorem q25 : (Tryz.pinned.checked.prog.mayEnter) = true := by kernel_rfl
theorem q26 : ((c.lifted == Tryz.pinned.checked.prog.liftsFinal)) = true := by kernel_rfl
theorem q27 : ((Tryz.pinned.checked.prog.make == some c.make)) = true := by kernel_rfl
theorem q28 : ((c.kinds == (if c.domain.isEmpty then [] else Tryz.f6.params.toList.map fun t => match Tryz.pinned.checked.prog.underlying t with | some (.int k) => some k | _ => none))) = true := by kernel_rfl
theorem q29 : ((c.pinned == c.pinnedBy)) = true := by kernel_rfl
theorem q30 : ((c.veiled == (Tryz.f6.params.toList ++ s.plain.varTypes Tryz.pinned.checked.prog ++ Tryz.f6.resultTypes.toList).any (Tryz.pinned.checked.prog.veiledRec ·))) = true := by kernel_rfl
theorem q31 : (c.veiledFits Tryz.pinned.checked.prog Tryz.f6.params.toList (Tryz.f6.params.toList ++ s.plain.varTypes Tryz.pinned.checked.prog ++ Tryz.f6.resultTypes.toList)) = true := by kernel_rfl
end Go.Proofs.YtnpfemnclccbnaaGreatDoor.Differs
