/-
  DERIVED. GIVEN WITH THE SEED: THE CARDS: each row of YtiacgomjmijfcaaDoorRows.lean that lists a variable, with what it lists TIED to the program's text (the seventh form; the later family's looks); each row that meets fmt, with fmt's text TOLD by the authors' own Lean function (tested against real Go, not proved from fmt's source: count such statements apart). THE CARD IS WHAT COUNTS. Prove the row's statement (the work); the ties are given (YtiacgomjmijfcaaDoorTie.lean); close each card by the builder's one call (the guide's Derived/Test/ToyasCard.lean, 'card_holds'). Laid BY PROGRAM, IN A SANDBOX (cutbox-door.mjs). By AI agents, Wed Nov 11 2026. No macro, syntax, notation, axiom, sorry.
-/
import Derived.Test.YtiacgomjmijfcaaDoorRows
import GoSem.ClaimSeven
namespace Go.Proofs.YtiacgomjmijfcaaDoor
namespace Rows

/-- THE TIED CARD OF 'hedgerowlaw22.EvalLaws'. -/
def evalLawsCard : Claim7 := { stood := { row := evalLawsRow, standIns := [], harness := (true, "5c7a69ca3d5cbebfb7dea3ca0426bc0eece95240c888d94089508cf0af04de19"), looks := false }, kinds := [], alts := [], laidByText := true, laidKinds := [.data, .pinned], laidTests := true, laidLooks := .later }
def EvalLawsCardSaid : Prop := Claim7.holds Tryd.pinned (.plain (OpenSpec.ofChange evalLawsSpec)) evalLawsCard

/-- THE TIED CARD OF 'hedgerowlaw07.StorePuts'. -/
def storePutsCard : Claim7 := { stood := { row := storePutsRow, standIns := [], harness := (true, "5c7a69ca3d5cbebfb7dea3ca0426bc0eece95240c888d94089508cf0af04de19"), looks := false }, kinds := [], alts := [], laidByText := true, laidKinds := [.data, .pinned], laidTests := true, laidLooks := .later }
def StorePutsCardSaid : Prop := Claim7.holds Tryd.pinned (.plain (OpenSpec.ofChange storePutsSpec)) storePutsCard

/-- THE SECOND FORM's CARD OF 'hedgerowlaw22.EvalLaws'. -/
def evalLawsUptoCard : Claim7 := { stood := { row := evalLawsUptoRow, standIns := [], harness := (true, "5c7a69ca3d5cbebfb7dea3ca0426bc0eece95240c888d94089508cf0af04de19"), looks := false }, kinds := [], alts := [], laidByText := true, laidKinds := [.data, .pinned], laidTests := true, laidLooks := .later }
def EvalLawsUptoCardSaid : Prop := Claim7.holds Tryd.pinned (.plain (OpenSpec.upto evalLawsSpec)) evalLawsUptoCard

/-- THE SECOND FORM's CARD OF 'hedgerowlaw07.StorePuts'. -/
def storePutsUptoCard : Claim7 := { stood := { row := storePutsUptoRow, standIns := [], harness := (true, "5c7a69ca3d5cbebfb7dea3ca0426bc0eece95240c888d94089508cf0af04de19"), looks := false }, kinds := [], alts := [], laidByText := true, laidKinds := [.data, .pinned], laidTests := true, laidLooks := .later }
def StorePutsUptoCardSaid : Prop := Claim7.holds Tryd.pinned (.plain (OpenSpec.upto storePutsSpec)) storePutsUptoCard
end Rows
end Go.Proofs.YtiacgomjmijfcaaDoor
