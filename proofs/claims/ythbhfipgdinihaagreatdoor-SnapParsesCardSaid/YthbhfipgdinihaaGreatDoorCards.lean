/-
  DERIVED. GIVEN WITH THE SEED: THE CARDS: each row of YthbhfipgdinihaaGreatDoorRows.lean that lists a variable, with what it lists TIED to the program's text (the seventh form; the later family's looks); each row that meets fmt, with fmt's text TOLD by the authors' own Lean function (tested against real Go, not proved from fmt's source: count such statements apart). THE CARD IS WHAT COUNTS. Prove the row's statement (the work); the ties are given (YthbhfipgdinihaaGreatDoorTie.lean); close each card by the builder's one call (the guide's Derived/Test/ToyasCard.lean, 'card_holds'). Laid BY PROGRAM, IN A SANDBOX (cutbox-door.mjs). By AI agents, Wed Nov 11 2026. No macro, syntax, notation, axiom, sorry.
-/
import Derived.Test.YthbhfipgdinihaaGreatDoorRows
import GoSem.ClaimSeven
namespace Go.Proofs.YthbhfipgdinihaaGreatDoor
namespace Rows

/-- THE TIED CARD OF 'hedgerowlaw12.SnapBytes'. -/
def snapBytesCard : Claim7 := { stood := { row := snapBytesRow, standIns := [], harness := (true, "8ce66f44c5d36a1e8213c8df30fc042a23d4facd1c0546160e9f916b460f2388"), looks := true }, kinds := [], alts := [], laidByText := true, laidKinds := [.data, .pinned], laidTests := true, laidLooks := .later }
def SnapBytesCardSaid : Prop := Claim7.holds Tryz.pinned (.plain (OpenSpec.ofChange snapBytesSpec)) snapBytesCard

/-- THE TIED CARD OF 'hedgerowlaw12.SnapParses'. -/
def snapParsesCard : Claim7 := { stood := { row := snapParsesRow, standIns := [], harness := (true, "8ce66f44c5d36a1e8213c8df30fc042a23d4facd1c0546160e9f916b460f2388"), looks := true }, kinds := [], alts := [], laidByText := true, laidKinds := [.data, .pinned], laidTests := true, laidLooks := .later }
def SnapParsesCardSaid : Prop := Claim7.holds Tryz.pinned (.plain (OpenSpec.ofChange snapParsesSpec)) snapParsesCard

/-- THE TIED CARD OF 'hedgerowlaw12.SnapStores'. -/
def snapStoresCard : Claim7 := { stood := { row := snapStoresRow, standIns := [], harness := (true, "8ce66f44c5d36a1e8213c8df30fc042a23d4facd1c0546160e9f916b460f2388"), looks := true }, kinds := [], alts := [], laidByText := true, laidKinds := [.data, .pinned], laidTests := true, laidLooks := .later }
def SnapStoresCardSaid : Prop := Claim7.holds Tryz.pinned (.plain (OpenSpec.ofChange snapStoresSpec)) snapStoresCard

/-- THE TIED CARD OF 'hedgerowlaw07.StoreLive'. -/
def storeLiveCard : Claim7 := { stood := { row := storeLiveRow, standIns := [], harness := (true, "8ce66f44c5d36a1e8213c8df30fc042a23d4facd1c0546160e9f916b460f2388"), looks := true }, kinds := [], alts := [], laidByText := true, laidKinds := [.data, .pinned], laidTests := true, laidLooks := .later }
def StoreLiveCardSaid : Prop := Claim7.holds Tryz.pinned (.plain (OpenSpec.ofChange storeLiveSpec)) storeLiveCard

/-- THE TIED CARD OF 'hedgerowlaw07.StoreOrder'. -/
def storeOrderCard : Claim7 := { stood := { row := storeOrderRow, standIns := [], harness := (true, "8ce66f44c5d36a1e8213c8df30fc042a23d4facd1c0546160e9f916b460f2388"), looks := true }, kinds := [], alts := [], laidByText := true, laidKinds := [.data, .pinned], laidTests := true, laidLooks := .later }
def StoreOrderCardSaid : Prop := Claim7.holds Tryz.pinned (.plain (OpenSpec.ofChange storeOrderSpec)) storeOrderCard

/-- THE TIED CARD OF 'hedgerowlaw07.StoreCopies'. -/
def storeCopiesCard : Claim7 := { stood := { row := storeCopiesRow, standIns := [], harness := (true, "8ce66f44c5d36a1e8213c8df30fc042a23d4facd1c0546160e9f916b460f2388"), looks := true }, kinds := [], alts := [], laidByText := true, laidKinds := [.data, .pinned], laidTests := true, laidLooks := .later }
def StoreCopiesCardSaid : Prop := Claim7.holds Tryz.pinned (.plain (OpenSpec.ofChange storeCopiesSpec)) storeCopiesCard

/-- THE TIED CARD OF 'hedgerowlaw07.StoreValues'. -/
def storeValuesCard : Claim7 := { stood := { row := storeValuesRow, standIns := [], harness := (true, "8ce66f44c5d36a1e8213c8df30fc042a23d4facd1c0546160e9f916b460f2388"), looks := true }, kinds := [], alts := [], laidByText := true, laidKinds := [.data, .pinned], laidTests := true, laidLooks := .later }
def StoreValuesCardSaid : Prop := Claim7.holds Tryz.pinned (.plain (OpenSpec.ofChange storeValuesSpec)) storeValuesCard

/-- THE TIED CARD OF 'hedgerowlaw08.GraphLines'. -/
def graphLinesCard : Claim7 := { stood := { row := graphLinesRow, standIns := [], harness := (true, "8ce66f44c5d36a1e8213c8df30fc042a23d4facd1c0546160e9f916b460f2388"), looks := true }, kinds := [], alts := [], laidByText := true, laidKinds := [.data, .data, .data, .data, .pinned], laidTests := true, laidLooks := .later }
def GraphLinesCardSaid : Prop := Claim7.holds Tryz.pinned (.plain (OpenSpec.ofChange graphLinesSpec)) graphLinesCard

/-- THE TIED CARD OF 'hedgerowlaw08.GraphHides'. -/
def graphHidesCard : Claim7 := { stood := { row := graphHidesRow, standIns := [], harness := (true, "8ce66f44c5d36a1e8213c8df30fc042a23d4facd1c0546160e9f916b460f2388"), looks := true }, kinds := [], alts := [], laidByText := true, laidKinds := [.data, .data, .data, .data, .pinned], laidTests := true, laidLooks := .later }
def GraphHidesCardSaid : Prop := Claim7.holds Tryz.pinned (.plain (OpenSpec.ofChange graphHidesSpec)) graphHidesCard

/-- THE TIED CARD OF 'hedgerowlaw08.GraphLinks'. -/
def graphLinksCard : Claim7 := { stood := { row := graphLinksRow, standIns := [], harness := (true, "8ce66f44c5d36a1e8213c8df30fc042a23d4facd1c0546160e9f916b460f2388"), looks := true }, kinds := [], alts := [], laidByText := true, laidKinds := [.data, .data, .data, .data, .pinned], laidTests := true, laidLooks := .later }
def GraphLinksCardSaid : Prop := Claim7.holds Tryz.pinned (.plain (OpenSpec.ofChange graphLinksSpec)) graphLinksCard

/-- THE TIED CARD OF 'hedgerowlaw08.GraphAsks'. -/
def graphAsksCard : Claim7 := { stood := { row := graphAsksRow, standIns := [], harness := (true, "8ce66f44c5d36a1e8213c8df30fc042a23d4facd1c0546160e9f916b460f2388"), looks := true }, kinds := [], alts := [], laidByText := true, laidKinds := [.data, .data, .data, .data, .pinned], laidTests := true, laidLooks := .later }
def GraphAsksCardSaid : Prop := Claim7.holds Tryz.pinned (.plain (OpenSpec.ofChange graphAsksSpec)) graphAsksCard

/-- THE TIED CARD OF 'hedgerowlaw33.WaysCosts'. -/
def waysCostsCard : Claim7 := { stood := { row := waysCostsRow, standIns := [], harness := (true, "8ce66f44c5d36a1e8213c8df30fc042a23d4facd1c0546160e9f916b460f2388"), looks := true }, kinds := [], alts := [], laidByText := true, laidKinds := [.data, .pinned], laidTests := true, laidLooks := .later }
def WaysCostsCardSaid : Prop := Claim7.holds Tryz.pinned (.plain (OpenSpec.ofChange waysCostsSpec)) waysCostsCard

/-- THE TIED CARD OF 'hedgerowlaw33.WaysCheapest'. -/
def waysCheapestCard : Claim7 := { stood := { row := waysCheapestRow, standIns := [], harness := (true, "8ce66f44c5d36a1e8213c8df30fc042a23d4facd1c0546160e9f916b460f2388"), looks := true }, kinds := [], alts := [], laidByText := true, laidKinds := [.data, .pinned], laidTests := true, laidLooks := .later }
def WaysCheapestCardSaid : Prop := Claim7.holds Tryz.pinned (.plain (OpenSpec.ofChange waysCheapestSpec)) waysCheapestCard

/-- THE TIED CARD OF 'hedgerowlaw33.WaysEdges'. -/
def waysEdgesCard : Claim7 := { stood := { row := waysEdgesRow, standIns := [], harness := (true, "8ce66f44c5d36a1e8213c8df30fc042a23d4facd1c0546160e9f916b460f2388"), looks := true }, kinds := [], alts := [], laidByText := true, laidKinds := [.data, .pinned], laidTests := true, laidLooks := .later }
def WaysEdgesCardSaid : Prop := Claim7.holds Tryz.pinned (.plain (OpenSpec.ofChange waysEdgesSpec)) waysEdgesCard

/-- THE SECOND FORM's CARD OF 'hedgerowlaw12.SnapBytes'. -/
def snapBytesUptoCard : Claim7 := { stood := { row := snapBytesUptoRow, standIns := [], harness := (true, "8ce66f44c5d36a1e8213c8df30fc042a23d4facd1c0546160e9f916b460f2388"), looks := true }, kinds := [], alts := [], laidByText := true, laidKinds := [.data, .pinned], laidTests := true, laidLooks := .later }
def SnapBytesUptoCardSaid : Prop := Claim7.holds Tryz.pinned (.plain (OpenSpec.upto snapBytesSpec)) snapBytesUptoCard

/-- THE SECOND FORM's CARD OF 'hedgerowlaw12.SnapParses'. -/
def snapParsesUptoCard : Claim7 := { stood := { row := snapParsesUptoRow, standIns := [], harness := (true, "8ce66f44c5d36a1e8213c8df30fc042a23d4facd1c0546160e9f916b460f2388"), looks := true }, kinds := [], alts := [], laidByText := true, laidKinds := [.data, .pinned], laidTests := true, laidLooks := .later }
def SnapParsesUptoCardSaid : Prop := Claim7.holds Tryz.pinned (.plain (OpenSpec.upto snapParsesSpec)) snapParsesUptoCard

/-- THE SECOND FORM's CARD OF 'hedgerowlaw12.SnapStores'. -/
def snapStoresUptoCard : Claim7 := { stood := { row := snapStoresUptoRow, standIns := [], harness := (true, "8ce66f44c5d36a1e8213c8df30fc042a23d4facd1c0546160e9f916b460f2388"), looks := true }, kinds := [], alts := [], laidByText := true, laidKinds := [.data, .pinned], laidTests := true, laidLooks := .later }
def SnapStoresUptoCardSaid : Prop := Claim7.holds Tryz.pinned (.plain (OpenSpec.upto snapStoresSpec)) snapStoresUptoCard

/-- THE SECOND FORM's CARD OF 'hedgerowlaw07.StoreLive'. -/
def storeLiveUptoCard : Claim7 := { stood := { row := storeLiveUptoRow, standIns := [], harness := (true, "8ce66f44c5d36a1e8213c8df30fc042a23d4facd1c0546160e9f916b460f2388"), looks := true }, kinds := [], alts := [], laidByText := true, laidKinds := [.data, .pinned], laidTests := true, laidLooks := .later }
def StoreLiveUptoCardSaid : Prop := Claim7.holds Tryz.pinned (.plain (OpenSpec.upto storeLiveSpec)) storeLiveUptoCard

/-- THE SECOND FORM's CARD OF 'hedgerowlaw07.StoreOrder'. -/
def storeOrderUptoCard : Claim7 := { stood := { row := storeOrderUptoRow, standIns := [], harness := (true, "8ce66f44c5d36a1e8213c8df30fc042a23d4facd1c0546160e9f916b460f2388"), looks := true }, kinds := [], alts := [], laidByText := true, laidKinds := [.data, .pinned], laidTests := true, laidLooks := .later }
def StoreOrderUptoCardSaid : Prop := Claim7.holds Tryz.pinned (.plain (OpenSpec.upto storeOrderSpec)) storeOrderUptoCard

/-- THE SECOND FORM's CARD OF 'hedgerowlaw07.StoreCopies'. -/
def storeCopiesUptoCard : Claim7 := { stood := { row := storeCopiesUptoRow, standIns := [], harness := (true, "8ce66f44c5d36a1e8213c8df30fc042a23d4facd1c0546160e9f916b460f2388"), looks := true }, kinds := [], alts := [], laidByText := true, laidKinds := [.data, .pinned], laidTests := true, laidLooks := .later }
def StoreCopiesUptoCardSaid : Prop := Claim7.holds Tryz.pinned (.plain (OpenSpec.upto storeCopiesSpec)) storeCopiesUptoCard

/-- THE SECOND FORM's CARD OF 'hedgerowlaw07.StoreValues'. -/
def storeValuesUptoCard : Claim7 := { stood := { row := storeValuesUptoRow, standIns := [], harness := (true, "8ce66f44c5d36a1e8213c8df30fc042a23d4facd1c0546160e9f916b460f2388"), looks := true }, kinds := [], alts := [], laidByText := true, laidKinds := [.data, .pinned], laidTests := true, laidLooks := .later }
def StoreValuesUptoCardSaid : Prop := Claim7.holds Tryz.pinned (.plain (OpenSpec.upto storeValuesSpec)) storeValuesUptoCard

/-- THE SECOND FORM's CARD OF 'hedgerowlaw08.GraphLines'. -/
def graphLinesUptoCard : Claim7 := { stood := { row := graphLinesUptoRow, standIns := [], harness := (true, "8ce66f44c5d36a1e8213c8df30fc042a23d4facd1c0546160e9f916b460f2388"), looks := true }, kinds := [], alts := [], laidByText := true, laidKinds := [.data, .data, .data, .data, .pinned], laidTests := true, laidLooks := .later }
def GraphLinesUptoCardSaid : Prop := Claim7.holds Tryz.pinned (.plain (OpenSpec.upto graphLinesSpec)) graphLinesUptoCard

/-- THE SECOND FORM's CARD OF 'hedgerowlaw08.GraphHides'. -/
def graphHidesUptoCard : Claim7 := { stood := { row := graphHidesUptoRow, standIns := [], harness := (true, "8ce66f44c5d36a1e8213c8df30fc042a23d4facd1c0546160e9f916b460f2388"), looks := true }, kinds := [], alts := [], laidByText := true, laidKinds := [.data, .data, .data, .data, .pinned], laidTests := true, laidLooks := .later }
def GraphHidesUptoCardSaid : Prop := Claim7.holds Tryz.pinned (.plain (OpenSpec.upto graphHidesSpec)) graphHidesUptoCard

/-- THE SECOND FORM's CARD OF 'hedgerowlaw08.GraphLinks'. -/
def graphLinksUptoCard : Claim7 := { stood := { row := graphLinksUptoRow, standIns := [], harness := (true, "8ce66f44c5d36a1e8213c8df30fc042a23d4facd1c0546160e9f916b460f2388"), looks := true }, kinds := [], alts := [], laidByText := true, laidKinds := [.data, .data, .data, .data, .pinned], laidTests := true, laidLooks := .later }
def GraphLinksUptoCardSaid : Prop := Claim7.holds Tryz.pinned (.plain (OpenSpec.upto graphLinksSpec)) graphLinksUptoCard

/-- THE SECOND FORM's CARD OF 'hedgerowlaw08.GraphAsks'. -/
def graphAsksUptoCard : Claim7 := { stood := { row := graphAsksUptoRow, standIns := [], harness := (true, "8ce66f44c5d36a1e8213c8df30fc042a23d4facd1c0546160e9f916b460f2388"), looks := true }, kinds := [], alts := [], laidByText := true, laidKinds := [.data, .data, .data, .data, .pinned], laidTests := true, laidLooks := .later }
def GraphAsksUptoCardSaid : Prop := Claim7.holds Tryz.pinned (.plain (OpenSpec.upto graphAsksSpec)) graphAsksUptoCard

/-- THE SECOND FORM's CARD OF 'hedgerowlaw33.WaysCosts'. -/
def waysCostsUptoCard : Claim7 := { stood := { row := waysCostsUptoRow, standIns := [], harness := (true, "8ce66f44c5d36a1e8213c8df30fc042a23d4facd1c0546160e9f916b460f2388"), looks := true }, kinds := [], alts := [], laidByText := true, laidKinds := [.data, .pinned], laidTests := true, laidLooks := .later }
def WaysCostsUptoCardSaid : Prop := Claim7.holds Tryz.pinned (.plain (OpenSpec.upto waysCostsSpec)) waysCostsUptoCard

/-- THE SECOND FORM's CARD OF 'hedgerowlaw33.WaysCheapest'. -/
def waysCheapestUptoCard : Claim7 := { stood := { row := waysCheapestUptoRow, standIns := [], harness := (true, "8ce66f44c5d36a1e8213c8df30fc042a23d4facd1c0546160e9f916b460f2388"), looks := true }, kinds := [], alts := [], laidByText := true, laidKinds := [.data, .pinned], laidTests := true, laidLooks := .later }
def WaysCheapestUptoCardSaid : Prop := Claim7.holds Tryz.pinned (.plain (OpenSpec.upto waysCheapestSpec)) waysCheapestUptoCard

/-- THE SECOND FORM's CARD OF 'hedgerowlaw33.WaysEdges'. -/
def waysEdgesUptoCard : Claim7 := { stood := { row := waysEdgesUptoRow, standIns := [], harness := (true, "8ce66f44c5d36a1e8213c8df30fc042a23d4facd1c0546160e9f916b460f2388"), looks := true }, kinds := [], alts := [], laidByText := true, laidKinds := [.data, .pinned], laidTests := true, laidLooks := .later }
def WaysEdgesUptoCardSaid : Prop := Claim7.holds Tryz.pinned (.plain (OpenSpec.upto waysEdgesSpec)) waysEdgesUptoCard
end Rows
end Go.Proofs.YthbhfipgdinihaaGreatDoor
