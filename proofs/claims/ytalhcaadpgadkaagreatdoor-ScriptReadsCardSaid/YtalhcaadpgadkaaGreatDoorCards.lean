/-
  DERIVED. GIVEN WITH THE SEED: THE CARDS: each row of YtalhcaadpgadkaaGreatDoorRows.lean that lists a variable, with what it lists TIED to the program's text (the seventh form; the later family's looks); each row that meets fmt, with fmt's text TOLD by the authors' own Lean function (tested against real Go, not proved from fmt's source: count such statements apart). THE CARD IS WHAT COUNTS. Prove the row's statement (the work); the ties are given (YtalhcaadpgadkaaGreatDoorTie.lean); close each card by the builder's one call (the guide's Derived/Test/ToyasCard.lean, 'card_holds'). Laid BY PROGRAM, IN A SANDBOX (cutbox-door.mjs). By AI agents, Wed Nov 11 2026. No macro, syntax, notation, axiom, sorry.
-/
import Derived.Test.YtalhcaadpgadkaaGreatDoorRows
import GoSem.ClaimSeven
namespace Go.Proofs.YtalhcaadpgadkaaGreatDoor
namespace Rows

/-- THE TIED CARD OF 'hedgerowlaw29.ScriptTexts'. -/
def scriptTextsCard : Claim7 := { stood := { row := scriptTextsRow, standIns := [], harness := (true, "1a877b436b497242a5b08b8bb77b546c7ecc7f0b12f0541fc413bc3a5bd155a1"), looks := true }, kinds := [], alts := [], laidByText := true, laidKinds := [.data, .data, .data, .data, .sentinel, .sentinel, .pinned], laidTests := true, laidLooks := .later }
def ScriptTextsCardSaid : Prop := Claim7.holds Tryz.pinned (.plain (OpenSpec.ofChange scriptTextsSpec)) scriptTextsCard

/-- THE TIED CARD OF 'hedgerowlaw29.ScriptReads'. -/
def scriptReadsCard : Claim7 := { stood := { row := scriptReadsRow, standIns := [], harness := (true, "1a877b436b497242a5b08b8bb77b546c7ecc7f0b12f0541fc413bc3a5bd155a1"), looks := true }, kinds := [], alts := [], laidByText := true, laidKinds := [.data, .data, .data, .data, .sentinel, .sentinel, .pinned], laidTests := true, laidLooks := .later }
def ScriptReadsCardSaid : Prop := Claim7.holds Tryz.pinned (.plain (OpenSpec.ofChange scriptReadsSpec)) scriptReadsCard

/-- THE TIED CARD OF 'hedgerowlaw29.ScriptChanges'. -/
def scriptChangesCard : Claim7 := { stood := { row := scriptChangesRow, standIns := [], harness := (true, "1a877b436b497242a5b08b8bb77b546c7ecc7f0b12f0541fc413bc3a5bd155a1"), looks := true }, kinds := [], alts := [], laidByText := true, laidKinds := [.data, .data, .data, .data, .sentinel, .sentinel, .pinned], laidTests := true, laidLooks := .later }
def ScriptChangesCardSaid : Prop := Claim7.holds Tryz.pinned (.plain (OpenSpec.ofChange scriptChangesSpec)) scriptChangesCard

/-- THE SECOND FORM's CARD OF 'hedgerowlaw29.ScriptTexts'. -/
def scriptTextsUptoCard : Claim7 := { stood := { row := scriptTextsUptoRow, standIns := [], harness := (true, "1a877b436b497242a5b08b8bb77b546c7ecc7f0b12f0541fc413bc3a5bd155a1"), looks := true }, kinds := [], alts := [], laidByText := true, laidKinds := [.data, .data, .data, .data, .sentinel, .sentinel, .pinned], laidTests := true, laidLooks := .later }
def ScriptTextsUptoCardSaid : Prop := Claim7.holds Tryz.pinned (.plain (OpenSpec.upto scriptTextsSpec)) scriptTextsUptoCard

/-- THE SECOND FORM's CARD OF 'hedgerowlaw29.ScriptReads'. -/
def scriptReadsUptoCard : Claim7 := { stood := { row := scriptReadsUptoRow, standIns := [], harness := (true, "1a877b436b497242a5b08b8bb77b546c7ecc7f0b12f0541fc413bc3a5bd155a1"), looks := true }, kinds := [], alts := [], laidByText := true, laidKinds := [.data, .data, .data, .data, .sentinel, .sentinel, .pinned], laidTests := true, laidLooks := .later }
def ScriptReadsUptoCardSaid : Prop := Claim7.holds Tryz.pinned (.plain (OpenSpec.upto scriptReadsSpec)) scriptReadsUptoCard

/-- THE SECOND FORM's CARD OF 'hedgerowlaw29.ScriptChanges'. -/
def scriptChangesUptoCard : Claim7 := { stood := { row := scriptChangesUptoRow, standIns := [], harness := (true, "1a877b436b497242a5b08b8bb77b546c7ecc7f0b12f0541fc413bc3a5bd155a1"), looks := true }, kinds := [], alts := [], laidByText := true, laidKinds := [.data, .data, .data, .data, .sentinel, .sentinel, .pinned], laidTests := true, laidLooks := .later }
def ScriptChangesUptoCardSaid : Prop := Claim7.holds Tryz.pinned (.plain (OpenSpec.upto scriptChangesSpec)) scriptChangesUptoCard
end Rows
end Go.Proofs.YtalhcaadpgadkaaGreatDoor
