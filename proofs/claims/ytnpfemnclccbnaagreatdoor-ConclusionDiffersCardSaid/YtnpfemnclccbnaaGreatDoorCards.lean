/-
  DERIVED. GIVEN WITH THE SEED: THE CARDS: each row of YtnpfemnclccbnaaGreatDoorRows.lean that lists a variable, with what it lists TIED to the program's text (the seventh form; the later family's looks); each row that meets fmt, with fmt's text TOLD by the authors' own Lean function (tested against real Go, not proved from fmt's source: count such statements apart). THE CARD IS WHAT COUNTS. Prove the row's statement (the work); the ties are given (YtnpfemnclccbnaaGreatDoorTie.lean); close each card by the builder's one call (the guide's Derived/Test/ToyasCard.lean, 'card_holds'). Laid BY PROGRAM, IN A SANDBOX (cutbox-door.mjs). By AI agents, Wed Nov 11 2026. No macro, syntax, notation, axiom, sorry.
-/
import Derived.Test.YtnpfemnclccbnaaGreatDoorRows
import GoSem.ClaimSeven
namespace Go.Proofs.YtnpfemnclccbnaaGreatDoor
namespace Rows

/-- THE TIED CARD OF 'licitlaw37.ConclusionDigests'. -/
def conclusionDigestsCard : Claim7 := { stood := { row := conclusionDigestsRow, standIns := [], harness := (true, "215197338077fdcd20a5b8a7f8393e2b7ee520a6c714133ddb0f13de710f55a9"), looks := true }, kinds := [], alts := [], laidByText := true, laidKinds := [.data, .data, .data, .data, .sentinel, .sentinel, .pinned], laidTests := true, laidLooks := .later }
def ConclusionDigestsCardSaid : Prop := Claim7.holds Tryz.pinned (.plain (OpenSpec.ofChange conclusionDigestsSpec)) conclusionDigestsCard

/-- THE TIED CARD OF 'licitlaw37.ConclusionRules'. -/
def conclusionRulesCard : Claim7 := { stood := { row := conclusionRulesRow, standIns := [], harness := (true, "215197338077fdcd20a5b8a7f8393e2b7ee520a6c714133ddb0f13de710f55a9"), looks := true }, kinds := [], alts := [], laidByText := true, laidKinds := [.data, .data, .data, .data, .sentinel, .sentinel, .pinned], laidTests := true, laidLooks := .later }
def ConclusionRulesCardSaid : Prop := Claim7.holds Tryz.pinned (.plain (OpenSpec.ofChange conclusionRulesSpec)) conclusionRulesCard

/-- THE TIED CARD OF 'licitlaw37.ConclusionEvidence'. -/
def conclusionEvidenceCard : Claim7 := { stood := { row := conclusionEvidenceRow, standIns := [], harness := (true, "215197338077fdcd20a5b8a7f8393e2b7ee520a6c714133ddb0f13de710f55a9"), looks := true }, kinds := [], alts := [], laidByText := true, laidKinds := [.data, .data, .data, .data, .sentinel, .sentinel, .pinned], laidTests := true, laidLooks := .later }
def ConclusionEvidenceCardSaid : Prop := Claim7.holds Tryz.pinned (.plain (OpenSpec.ofChange conclusionEvidenceSpec)) conclusionEvidenceCard

/-- THE TIED CARD OF 'licitlaw37.ConclusionDiffers'. -/
def conclusionDiffersCard : Claim7 := { stood := { row := conclusionDiffersRow, standIns := [], harness := (true, "215197338077fdcd20a5b8a7f8393e2b7ee520a6c714133ddb0f13de710f55a9"), looks := true }, kinds := [], alts := [], laidByText := true, laidKinds := [.data, .data, .data, .data, .sentinel, .sentinel, .pinned], laidTests := true, laidLooks := .later }
def ConclusionDiffersCardSaid : Prop := Claim7.holds Tryz.pinned (.plain (OpenSpec.ofChange conclusionDiffersSpec)) conclusionDiffersCard

/-- THE TIED CARD OF 'licitlaw37.ConclusionLocal'. -/
def conclusionLocalCard : Claim7 := { stood := { row := conclusionLocalRow, standIns := [], harness := (true, "215197338077fdcd20a5b8a7f8393e2b7ee520a6c714133ddb0f13de710f55a9"), looks := true }, kinds := [], alts := [], laidByText := true, laidKinds := [.data, .data, .data, .data, .sentinel, .sentinel, .pinned], laidTests := true, laidLooks := .later }
def ConclusionLocalCardSaid : Prop := Claim7.holds Tryz.pinned (.plain (OpenSpec.ofChange conclusionLocalSpec)) conclusionLocalCard

/-- THE SECOND FORM's CARD OF 'licitlaw37.ConclusionDigests'. -/
def conclusionDigestsUptoCard : Claim7 := { stood := { row := conclusionDigestsUptoRow, standIns := [], harness := (true, "215197338077fdcd20a5b8a7f8393e2b7ee520a6c714133ddb0f13de710f55a9"), looks := true }, kinds := [], alts := [], laidByText := true, laidKinds := [.data, .data, .data, .data, .sentinel, .sentinel, .pinned], laidTests := true, laidLooks := .later }
def ConclusionDigestsUptoCardSaid : Prop := Claim7.holds Tryz.pinned (.plain (OpenSpec.upto conclusionDigestsSpec)) conclusionDigestsUptoCard

/-- THE SECOND FORM's CARD OF 'licitlaw37.ConclusionRules'. -/
def conclusionRulesUptoCard : Claim7 := { stood := { row := conclusionRulesUptoRow, standIns := [], harness := (true, "215197338077fdcd20a5b8a7f8393e2b7ee520a6c714133ddb0f13de710f55a9"), looks := true }, kinds := [], alts := [], laidByText := true, laidKinds := [.data, .data, .data, .data, .sentinel, .sentinel, .pinned], laidTests := true, laidLooks := .later }
def ConclusionRulesUptoCardSaid : Prop := Claim7.holds Tryz.pinned (.plain (OpenSpec.upto conclusionRulesSpec)) conclusionRulesUptoCard

/-- THE SECOND FORM's CARD OF 'licitlaw37.ConclusionEvidence'. -/
def conclusionEvidenceUptoCard : Claim7 := { stood := { row := conclusionEvidenceUptoRow, standIns := [], harness := (true, "215197338077fdcd20a5b8a7f8393e2b7ee520a6c714133ddb0f13de710f55a9"), looks := true }, kinds := [], alts := [], laidByText := true, laidKinds := [.data, .data, .data, .data, .sentinel, .sentinel, .pinned], laidTests := true, laidLooks := .later }
def ConclusionEvidenceUptoCardSaid : Prop := Claim7.holds Tryz.pinned (.plain (OpenSpec.upto conclusionEvidenceSpec)) conclusionEvidenceUptoCard

/-- THE SECOND FORM's CARD OF 'licitlaw37.ConclusionDiffers'. -/
def conclusionDiffersUptoCard : Claim7 := { stood := { row := conclusionDiffersUptoRow, standIns := [], harness := (true, "215197338077fdcd20a5b8a7f8393e2b7ee520a6c714133ddb0f13de710f55a9"), looks := true }, kinds := [], alts := [], laidByText := true, laidKinds := [.data, .data, .data, .data, .sentinel, .sentinel, .pinned], laidTests := true, laidLooks := .later }
def ConclusionDiffersUptoCardSaid : Prop := Claim7.holds Tryz.pinned (.plain (OpenSpec.upto conclusionDiffersSpec)) conclusionDiffersUptoCard

/-- THE SECOND FORM's CARD OF 'licitlaw37.ConclusionLocal'. -/
def conclusionLocalUptoCard : Claim7 := { stood := { row := conclusionLocalUptoRow, standIns := [], harness := (true, "215197338077fdcd20a5b8a7f8393e2b7ee520a6c714133ddb0f13de710f55a9"), looks := true }, kinds := [], alts := [], laidByText := true, laidKinds := [.data, .data, .data, .data, .sentinel, .sentinel, .pinned], laidTests := true, laidLooks := .later }
def ConclusionLocalUptoCardSaid : Prop := Claim7.holds Tryz.pinned (.plain (OpenSpec.upto conclusionLocalSpec)) conclusionLocalUptoCard
end Rows
end Go.Proofs.YtnpfemnclccbnaaGreatDoor
