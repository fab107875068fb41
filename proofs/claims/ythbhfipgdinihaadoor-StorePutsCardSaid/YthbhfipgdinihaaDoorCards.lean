/-
  DERIVED. GIVEN WITH THE SEED: THE CARDS: each row of YthbhfipgdinihaaDoorRows.lean that lists a variable, with what it lists TIED to the program's text (the seventh form; the later family's looks); each row that meets fmt, with fmt's text TOLD by the authors' own Lean function (tested against real Go, not proved from fmt's source: count such statements apart). THE CARD IS WHAT COUNTS. Prove the row's statement (the work); the ties are given (YthbhfipgdinihaaDoorTie.lean); close each card by the builder's one call (the guide's Derived/Test/ToyasCard.lean, 'card_holds'). Laid BY PROGRAM, IN A SANDBOX (cutbox-door.mjs). By AI agents, Wed Nov 11 2026. No macro, syntax, notation, axiom, sorry.
-/
import Derived.Test.YthbhfipgdinihaaDoorRows
import GoSem.ClaimSeven
namespace Go.Proofs.YthbhfipgdinihaaDoor
namespace Rows

/-- THE TIED CARD OF 'hedgerowlaw12.SnapCuts'. -/
def snapCutsCard : Claim7 := { stood := { row := snapCutsRow, standIns := [], harness := (true, "6b6f941afd6f0a150d97b2a3e5607fa4ee8552ed6a365602f3f7d88092f9dff9"), looks := false }, kinds := [], alts := [], laidByText := true, laidKinds := [.data, .pinned], laidTests := true, laidLooks := .later }
def SnapCutsCardSaid : Prop := Claim7.holds Tryd.pinned (.plain (OpenSpec.ofChange snapCutsSpec)) snapCutsCard

/-- THE TIED CARD OF 'hedgerowlaw07.StorePuts'. -/
def storePutsCard : Claim7 := { stood := { row := storePutsRow, standIns := [], harness := (true, "6b6f941afd6f0a150d97b2a3e5607fa4ee8552ed6a365602f3f7d88092f9dff9"), looks := false }, kinds := [], alts := [], laidByText := true, laidKinds := [.data, .pinned], laidTests := true, laidLooks := .later }
def StorePutsCardSaid : Prop := Claim7.holds Tryd.pinned (.plain (OpenSpec.ofChange storePutsSpec)) storePutsCard

/-- THE SECOND FORM's CARD OF 'hedgerowlaw12.SnapCuts'. -/
def snapCutsUptoCard : Claim7 := { stood := { row := snapCutsUptoRow, standIns := [], harness := (true, "6b6f941afd6f0a150d97b2a3e5607fa4ee8552ed6a365602f3f7d88092f9dff9"), looks := false }, kinds := [], alts := [], laidByText := true, laidKinds := [.data, .pinned], laidTests := true, laidLooks := .later }
def SnapCutsUptoCardSaid : Prop := Claim7.holds Tryd.pinned (.plain (OpenSpec.upto snapCutsSpec)) snapCutsUptoCard

/-- THE SECOND FORM's CARD OF 'hedgerowlaw07.StorePuts'. -/
def storePutsUptoCard : Claim7 := { stood := { row := storePutsUptoRow, standIns := [], harness := (true, "6b6f941afd6f0a150d97b2a3e5607fa4ee8552ed6a365602f3f7d88092f9dff9"), looks := false }, kinds := [], alts := [], laidByText := true, laidKinds := [.data, .pinned], laidTests := true, laidLooks := .later }
def StorePutsUptoCardSaid : Prop := Claim7.holds Tryd.pinned (.plain (OpenSpec.upto storePutsSpec)) storePutsUptoCard
end Rows
end Go.Proofs.YthbhfipgdinihaaDoor
