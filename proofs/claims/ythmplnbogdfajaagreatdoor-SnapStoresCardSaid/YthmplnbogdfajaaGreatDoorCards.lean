/-
  DERIVED. GIVEN WITH THE SEED: THE CARDS: each row of YthmplnbogdfajaaGreatDoorRows.lean that lists a variable, with what it lists TIED to the program's text (the seventh form; the later family's looks); each row that meets fmt, with fmt's text TOLD by the authors' own Lean function (tested against real Go, not proved from fmt's source: count such statements apart). THE CARD IS WHAT COUNTS. Prove the row's statement (the work); the ties are given (YthmplnbogdfajaaGreatDoorTie.lean); close each card by the builder's one call (the guide's Derived/Test/ToyasCard.lean, 'card_holds'). Laid BY PROGRAM, IN A SANDBOX (cutbox-door.mjs). By AI agents, Wed Nov 11 2026. No macro, syntax, notation, axiom, sorry.
-/
import Derived.Test.YthmplnbogdfajaaGreatDoorRows
import GoSem.ClaimSeven
namespace Go.Proofs.YthmplnbogdfajaaGreatDoor
namespace Rows

/-- THE TIED CARD OF 'hedgerowlaw07.StoreLive'. -/
def storeLiveCard : Claim7 := { stood := { row := storeLiveRow, standIns := [], harness := (true, "b22fe744dd558c30d35b597d645a2f49c043c754d4e819e65a70a891fedeefd0"), looks := false }, kinds := [], alts := [], laidByText := true, laidKinds := [.data, .pinned], laidTests := true, laidLooks := .later }
def StoreLiveCardSaid : Prop := Claim7.holds Tryz.pinned (.plain (OpenSpec.ofChange storeLiveSpec)) storeLiveCard

/-- THE TIED CARD OF 'hedgerowlaw07.StoreOrder'. -/
def storeOrderCard : Claim7 := { stood := { row := storeOrderRow, standIns := [], harness := (true, "b22fe744dd558c30d35b597d645a2f49c043c754d4e819e65a70a891fedeefd0"), looks := false }, kinds := [], alts := [], laidByText := true, laidKinds := [.data, .pinned], laidTests := true, laidLooks := .later }
def StoreOrderCardSaid : Prop := Claim7.holds Tryz.pinned (.plain (OpenSpec.ofChange storeOrderSpec)) storeOrderCard

/-- THE TIED CARD OF 'hedgerowlaw07.StoreCopies'. -/
def storeCopiesCard : Claim7 := { stood := { row := storeCopiesRow, standIns := [], harness := (true, "b22fe744dd558c30d35b597d645a2f49c043c754d4e819e65a70a891fedeefd0"), looks := false }, kinds := [], alts := [], laidByText := true, laidKinds := [.data, .pinned], laidTests := true, laidLooks := .later }
def StoreCopiesCardSaid : Prop := Claim7.holds Tryz.pinned (.plain (OpenSpec.ofChange storeCopiesSpec)) storeCopiesCard

/-- THE TIED CARD OF 'hedgerowlaw07.StoreValues'. -/
def storeValuesCard : Claim7 := { stood := { row := storeValuesRow, standIns := [], harness := (true, "b22fe744dd558c30d35b597d645a2f49c043c754d4e819e65a70a891fedeefd0"), looks := false }, kinds := [], alts := [], laidByText := true, laidKinds := [.data, .pinned], laidTests := true, laidLooks := .later }
def StoreValuesCardSaid : Prop := Claim7.holds Tryz.pinned (.plain (OpenSpec.ofChange storeValuesSpec)) storeValuesCard

/-- THE TIED CARD OF 'hedgerowlaw12.SnapStores'. -/
def snapStoresCard : Claim7 := { stood := { row := snapStoresRow, standIns := [], harness := (true, "b22fe744dd558c30d35b597d645a2f49c043c754d4e819e65a70a891fedeefd0"), looks := false }, kinds := [], alts := [], laidByText := true, laidKinds := [.data, .pinned], laidTests := true, laidLooks := .later }
def SnapStoresCardSaid : Prop := Claim7.holds Tryz.pinned (.plain (OpenSpec.ofChange snapStoresSpec)) snapStoresCard

/-- THE SECOND FORM's CARD OF 'hedgerowlaw07.StoreLive'. -/
def storeLiveUptoCard : Claim7 := { stood := { row := storeLiveUptoRow, standIns := [], harness := (true, "b22fe744dd558c30d35b597d645a2f49c043c754d4e819e65a70a891fedeefd0"), looks := false }, kinds := [], alts := [], laidByText := true, laidKinds := [.data, .pinned], laidTests := true, laidLooks := .later }
def StoreLiveUptoCardSaid : Prop := Claim7.holds Tryz.pinned (.plain (OpenSpec.upto storeLiveSpec)) storeLiveUptoCard

/-- THE SECOND FORM's CARD OF 'hedgerowlaw07.StoreOrder'. -/
def storeOrderUptoCard : Claim7 := { stood := { row := storeOrderUptoRow, standIns := [], harness := (true, "b22fe744dd558c30d35b597d645a2f49c043c754d4e819e65a70a891fedeefd0"), looks := false }, kinds := [], alts := [], laidByText := true, laidKinds := [.data, .pinned], laidTests := true, laidLooks := .later }
def StoreOrderUptoCardSaid : Prop := Claim7.holds Tryz.pinned (.plain (OpenSpec.upto storeOrderSpec)) storeOrderUptoCard

/-- THE SECOND FORM's CARD OF 'hedgerowlaw07.StoreCopies'. -/
def storeCopiesUptoCard : Claim7 := { stood := { row := storeCopiesUptoRow, standIns := [], harness := (true, "b22fe744dd558c30d35b597d645a2f49c043c754d4e819e65a70a891fedeefd0"), looks := false }, kinds := [], alts := [], laidByText := true, laidKinds := [.data, .pinned], laidTests := true, laidLooks := .later }
def StoreCopiesUptoCardSaid : Prop := Claim7.holds Tryz.pinned (.plain (OpenSpec.upto storeCopiesSpec)) storeCopiesUptoCard

/-- THE SECOND FORM's CARD OF 'hedgerowlaw07.StoreValues'. -/
def storeValuesUptoCard : Claim7 := { stood := { row := storeValuesUptoRow, standIns := [], harness := (true, "b22fe744dd558c30d35b597d645a2f49c043c754d4e819e65a70a891fedeefd0"), looks := false }, kinds := [], alts := [], laidByText := true, laidKinds := [.data, .pinned], laidTests := true, laidLooks := .later }
def StoreValuesUptoCardSaid : Prop := Claim7.holds Tryz.pinned (.plain (OpenSpec.upto storeValuesSpec)) storeValuesUptoCard

/-- THE SECOND FORM's CARD OF 'hedgerowlaw12.SnapStores'. -/
def snapStoresUptoCard : Claim7 := { stood := { row := snapStoresUptoRow, standIns := [], harness := (true, "b22fe744dd558c30d35b597d645a2f49c043c754d4e819e65a70a891fedeefd0"), looks := false }, kinds := [], alts := [], laidByText := true, laidKinds := [.data, .pinned], laidTests := true, laidLooks := .later }
def SnapStoresUptoCardSaid : Prop := Claim7.holds Tryz.pinned (.plain (OpenSpec.upto snapStoresSpec)) snapStoresUptoCard
end Rows
end Go.Proofs.YthmplnbogdfajaaGreatDoor
