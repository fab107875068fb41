/-
  DERIVED. GIVEN WITH THE SEED: THE CARDS: each row of YtchjbidfmhmmhaaGreatDoorRows.lean that lists a variable, with what it lists TIED to the program's text (the seventh form; the later family's looks); each row that meets fmt, with fmt's text TOLD by the authors' own Lean function (tested against real Go, not proved from fmt's source: count such statements apart). THE CARD IS WHAT COUNTS. Prove the row's statement (the work); the ties are given (YtchjbidfmhmmhaaGreatDoorTie.lean); close each card by the builder's one call (the guide's Derived/Test/ToyasCard.lean, 'card_holds'). Laid BY PROGRAM, IN A SANDBOX (cutbox-door.mjs). By AI agents, Wed Nov 11 2026. No macro, syntax, notation, axiom, sorry.
-/
import Derived.Test.YtchjbidfmhmmhaaGreatDoorRows
import GoSem.ClaimSeven
namespace Go.Proofs.YtchjbidfmhmmhaaGreatDoor
namespace Rows

/-- THE TIED CARD OF 'hedgerowlaw22.EvalTells'. -/
def evalTellsCard : Claim7 := { stood := { row := evalTellsRow, standIns := [], harness := (true, "aa7bd46db012f0e9c119f200ac4f2f691ff7f03d73ce9233d583640a21b67b10"), looks := false }, kinds := [], alts := [], laidByText := true, laidKinds := [.data, .pinned], laidTests := true, laidLooks := .later }
def EvalTellsCardSaid : Prop := Claim7.holds Tryz.pinned (.plain (OpenSpec.ofChange evalTellsSpec)) evalTellsCard

/-- THE TIED CARD OF 'hedgerowlaw22.EvalConstants'. -/
def evalConstantsCard : Claim7 := { stood := { row := evalConstantsRow, standIns := [], harness := (true, "aa7bd46db012f0e9c119f200ac4f2f691ff7f03d73ce9233d583640a21b67b10"), looks := false }, kinds := [], alts := [], laidByText := true, laidKinds := [.data, .pinned], laidTests := true, laidLooks := .later }
def EvalConstantsCardSaid : Prop := Claim7.holds Tryz.pinned (.plain (OpenSpec.ofChange evalConstantsSpec)) evalConstantsCard

/-- THE TIED CARD OF 'hedgerowlaw08.GraphLines'. -/
def graphLinesCard : Claim7 := { stood := { row := graphLinesRow, standIns := [], harness := (true, "aa7bd46db012f0e9c119f200ac4f2f691ff7f03d73ce9233d583640a21b67b10"), looks := false }, kinds := [], alts := [], laidByText := true, laidKinds := [.data, .data, .data, .data, .pinned], laidTests := true, laidLooks := .later }
def GraphLinesCardSaid : Prop := Claim7.holds Tryz.pinned (.plain (OpenSpec.ofChange graphLinesSpec)) graphLinesCard

/-- THE TIED CARD OF 'hedgerowlaw08.GraphHides'. -/
def graphHidesCard : Claim7 := { stood := { row := graphHidesRow, standIns := [], harness := (true, "aa7bd46db012f0e9c119f200ac4f2f691ff7f03d73ce9233d583640a21b67b10"), looks := false }, kinds := [], alts := [], laidByText := true, laidKinds := [.data, .data, .data, .data, .pinned], laidTests := true, laidLooks := .later }
def GraphHidesCardSaid : Prop := Claim7.holds Tryz.pinned (.plain (OpenSpec.ofChange graphHidesSpec)) graphHidesCard

/-- THE TIED CARD OF 'hedgerowlaw08.GraphLinks'. -/
def graphLinksCard : Claim7 := { stood := { row := graphLinksRow, standIns := [], harness := (true, "aa7bd46db012f0e9c119f200ac4f2f691ff7f03d73ce9233d583640a21b67b10"), looks := false }, kinds := [], alts := [], laidByText := true, laidKinds := [.data, .data, .data, .data, .pinned], laidTests := true, laidLooks := .later }
def GraphLinksCardSaid : Prop := Claim7.holds Tryz.pinned (.plain (OpenSpec.ofChange graphLinksSpec)) graphLinksCard

/-- THE TIED CARD OF 'hedgerowlaw08.GraphAsks'. -/
def graphAsksCard : Claim7 := { stood := { row := graphAsksRow, standIns := [], harness := (true, "aa7bd46db012f0e9c119f200ac4f2f691ff7f03d73ce9233d583640a21b67b10"), looks := false }, kinds := [], alts := [], laidByText := true, laidKinds := [.data, .data, .data, .data, .pinned], laidTests := true, laidLooks := .later }
def GraphAsksCardSaid : Prop := Claim7.holds Tryz.pinned (.plain (OpenSpec.ofChange graphAsksSpec)) graphAsksCard

/-- THE SECOND FORM's CARD OF 'hedgerowlaw22.EvalTells'. -/
def evalTellsUptoCard : Claim7 := { stood := { row := evalTellsUptoRow, standIns := [], harness := (true, "aa7bd46db012f0e9c119f200ac4f2f691ff7f03d73ce9233d583640a21b67b10"), looks := false }, kinds := [], alts := [], laidByText := true, laidKinds := [.data, .pinned], laidTests := true, laidLooks := .later }
def EvalTellsUptoCardSaid : Prop := Claim7.holds Tryz.pinned (.plain (OpenSpec.upto evalTellsSpec)) evalTellsUptoCard

/-- THE SECOND FORM's CARD OF 'hedgerowlaw22.EvalConstants'. -/
def evalConstantsUptoCard : Claim7 := { stood := { row := evalConstantsUptoRow, standIns := [], harness := (true, "aa7bd46db012f0e9c119f200ac4f2f691ff7f03d73ce9233d583640a21b67b10"), looks := false }, kinds := [], alts := [], laidByText := true, laidKinds := [.data, .pinned], laidTests := true, laidLooks := .later }
def EvalConstantsUptoCardSaid : Prop := Claim7.holds Tryz.pinned (.plain (OpenSpec.upto evalConstantsSpec)) evalConstantsUptoCard

/-- THE SECOND FORM's CARD OF 'hedgerowlaw08.GraphLines'. -/
def graphLinesUptoCard : Claim7 := { stood := { row := graphLinesUptoRow, standIns := [], harness := (true, "aa7bd46db012f0e9c119f200ac4f2f691ff7f03d73ce9233d583640a21b67b10"), looks := false }, kinds := [], alts := [], laidByText := true, laidKinds := [.data, .data, .data, .data, .pinned], laidTests := true, laidLooks := .later }
def GraphLinesUptoCardSaid : Prop := Claim7.holds Tryz.pinned (.plain (OpenSpec.upto graphLinesSpec)) graphLinesUptoCard

/-- THE SECOND FORM's CARD OF 'hedgerowlaw08.GraphHides'. -/
def graphHidesUptoCard : Claim7 := { stood := { row := graphHidesUptoRow, standIns := [], harness := (true, "aa7bd46db012f0e9c119f200ac4f2f691ff7f03d73ce9233d583640a21b67b10"), looks := false }, kinds := [], alts := [], laidByText := true, laidKinds := [.data, .data, .data, .data, .pinned], laidTests := true, laidLooks := .later }
def GraphHidesUptoCardSaid : Prop := Claim7.holds Tryz.pinned (.plain (OpenSpec.upto graphHidesSpec)) graphHidesUptoCard

/-- THE SECOND FORM's CARD OF 'hedgerowlaw08.GraphLinks'. -/
def graphLinksUptoCard : Claim7 := { stood := { row := graphLinksUptoRow, standIns := [], harness := (true, "aa7bd46db012f0e9c119f200ac4f2f691ff7f03d73ce9233d583640a21b67b10"), looks := false }, kinds := [], alts := [], laidByText := true, laidKinds := [.data, .data, .data, .data, .pinned], laidTests := true, laidLooks := .later }
def GraphLinksUptoCardSaid : Prop := Claim7.holds Tryz.pinned (.plain (OpenSpec.upto graphLinksSpec)) graphLinksUptoCard

/-- THE SECOND FORM's CARD OF 'hedgerowlaw08.GraphAsks'. -/
def graphAsksUptoCard : Claim7 := { stood := { row := graphAsksUptoRow, standIns := [], harness := (true, "aa7bd46db012f0e9c119f200ac4f2f691ff7f03d73ce9233d583640a21b67b10"), looks := false }, kinds := [], alts := [], laidByText := true, laidKinds := [.data, .data, .data, .data, .pinned], laidTests := true, laidLooks := .later }
def GraphAsksUptoCardSaid : Prop := Claim7.holds Tryz.pinned (.plain (OpenSpec.upto graphAsksSpec)) graphAsksUptoCard
end Rows
end Go.Proofs.YtchjbidfmhmmhaaGreatDoor
