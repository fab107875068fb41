/-
  NARROWER THAN 'FOR EVERY INPUT', by the rows' own cells (each row's printed sentence says how): SnapBytes: laid · SnapParses: laid · SnapStores: laid · StoreLive: laid · StoreOrder: laid · StoreCopies: laid · StoreValues: laid · GraphLines: laid · GraphHides: laid · GraphLinks: laid · GraphAsks: laid · WaysCosts: laid · WaysCheapest: laid · WaysEdges: laid.
  DERIVED. THE GIVEN ROWS OF THIS SEAT. 14 by the template 'for every input the law returns true; each argument reads behind the call as it read before'; 0 by the template 'total and deterministic' (their statements: YthbhfipgdinihaaGreatDoorTotals.lean).
  GIVEN WITH THE SEED: the statements are not yours to turn. If you find one false, say at which input.
  Laid BY PROGRAM, IN A SANDBOX (cutbox-rows.mjs): the forced cells as the released guide's own fill.sh prints them over the translation 951f894844453a1f… (all of the seat's roots in one cut). By AI agents, Wed Nov 11 2026. No macro, syntax, notation, axiom, sorry.
-/
import Derived.Test.YthbhfipgdinihaaGreatDoorChecked
import GoSem.PinnedTables
import GoSem.Claim
import GoSem.ClaimJoined
import GoSem.ClaimMapViews
import Derived.JoinedTies
import Derived.KernelRfl
namespace Go.Proofs.YthbhfipgdinihaaGreatDoor
/- THE CELL 'sum', in the pinned program and in every row, IS THE sha256 OF THE DUMP (.gsa) THAT YthbhfipgdinihaaGreatDoorProg.lean LOADS. Nothing in Lean hashes anything: it is a label: what it is worth is what the hold of that sum in a sandbox is worth. -/
noncomputable def Tryz.pinned : Pinned := { name := "ythbhfipgdinihaagreatdoor", sum := "951f894844453a1fc0315e819aece0e1b631652545518714b0fc77bd5d0960d2", checked := Tryz.checked }
namespace Rows
def none {H : Type} : Left H := { results := [], args := [] }

/- WHAT THE LISTED PACKAGE-LEVEL VARIABLES READ AS WHEN THE CALL BEGINS. Each datum BY PROGRAM (the guide's laid-datum.mjs) off the statement by which the dump's own 'gosem.cut.vars' lays the variable. In a bare row this is a premise. The card (YthbhfipgdinihaaGreatDoorCards.lean) ties it to the program's text. -/
def laid_unicode_utf8_acceptRanges {H : Type} : DataW H := .agg [.agg [.lit (.int .u8 128), .lit (.int .u8 191)], .agg [.lit (.int .u8 160), .lit (.int .u8 191)], .agg [.lit (.int .u8 128), .lit (.int .u8 159)], .agg [.lit (.int .u8 144), .lit (.int .u8 191)], .agg [.lit (.int .u8 128), .lit (.int .u8 143)], .agg [.lit (.int .u8 0), .lit (.int .u8 0)], .agg [.lit (.int .u8 0), .lit (.int .u8 0)], .agg [.lit (.int .u8 0), .lit (.int .u8 0)], .agg [.lit (.int .u8 0), .lit (.int .u8 0)], .agg [.lit (.int .u8 0), .lit (.int .u8 0)], .agg [.lit (.int .u8 0), .lit (.int .u8 0)], .agg [.lit (.int .u8 0), .lit (.int .u8 0)], .agg [.lit (.int .u8 0), .lit (.int .u8 0)], .agg [.lit (.int .u8 0), .lit (.int .u8 0)], .agg [.lit (.int .u8 0), .lit (.int .u8 0)], .agg [.lit (.int .u8 0), .lit (.int .u8 0)]]
/-- One of Go's own tables, pinned by name: the form's constant. -/
def laid_unicode_utf8_first : DataW Unit := Go.Pinned.utf8First
def laid_math_bits_deBruijn32tab {H : Type} : DataW H := .agg [.lit (.int .u8 0), .lit (.int .u8 1), .lit (.int .u8 28), .lit (.int .u8 2), .lit (.int .u8 29), .lit (.int .u8 14), .lit (.int .u8 24), .lit (.int .u8 3), .lit (.int .u8 30), .lit (.int .u8 22), .lit (.int .u8 20), .lit (.int .u8 15), .lit (.int .u8 25), .lit (.int .u8 17), .lit (.int .u8 4), .lit (.int .u8 8), .lit (.int .u8 31), .lit (.int .u8 27), .lit (.int .u8 13), .lit (.int .u8 23), .lit (.int .u8 21), .lit (.int .u8 19), .lit (.int .u8 16), .lit (.int .u8 7), .lit (.int .u8 26), .lit (.int .u8 12), .lit (.int .u8 18), .lit (.int .u8 6), .lit (.int .u8 11), .lit (.int .u8 5), .lit (.int .u8 10), .lit (.int .u8 9)]
def laid_math_bits_deBruijn64tab {H : Type} : DataW H := .agg [.lit (.int .u8 0), .lit (.int .u8 1), .lit (.int .u8 56), .lit (.int .u8 2), .lit (.int .u8 57), .lit (.int .u8 49), .lit (.int .u8 28), .lit (.int .u8 3), .lit (.int .u8 61), .lit (.int .u8 58), .lit (.int .u8 42), .lit (.int .u8 50), .lit (.int .u8 38), .lit (.int .u8 29), .lit (.int .u8 17), .lit (.int .u8 4), .lit (.int .u8 62), .lit (.int .u8 47), .lit (.int .u8 59), .lit (.int .u8 36), .lit (.int .u8 45), .lit (.int .u8 43), .lit (.int .u8 51), .lit (.int .u8 22), .lit (.int .u8 53), .lit (.int .u8 39), .lit (.int .u8 33), .lit (.int .u8 30), .lit (.int .u8 24), .lit (.int .u8 18), .lit (.int .u8 12), .lit (.int .u8 5), .lit (.int .u8 63), .lit (.int .u8 55), .lit (.int .u8 48), .lit (.int .u8 27), .lit (.int .u8 60), .lit (.int .u8 41), .lit (.int .u8 37), .lit (.int .u8 16), .lit (.int .u8 46), .lit (.int .u8 35), .lit (.int .u8 44), .lit (.int .u8 21), .lit (.int .u8 52), .lit (.int .u8 32), .lit (.int .u8 23), .lit (.int .u8 11), .lit (.int .u8 54), .lit (.int .u8 26), .lit (.int .u8 40), .lit (.int .u8 15), .lit (.int .u8 34), .lit (.int .u8 20), .lit (.int .u8 31), .lit (.int .u8 10), .lit (.int .u8 25), .lit (.int .u8 14), .lit (.int .u8 19), .lit (.int .u8 9), .lit (.int .u8 13), .lit (.int .u8 8), .lit (.int .u8 7), .lit (.int .u8 6)]
def laid_internal_strconv_uint64pow10 {H : Type} : DataW H := .agg [.lit (.int .u64 1), .lit (.int .u64 10), .lit (.int .u64 100), .lit (.int .u64 1000), .lit (.int .u64 10000), .lit (.int .u64 100000), .lit (.int .u64 1000000), .lit (.int .u64 10000000), .lit (.int .u64 100000000), .lit (.int .u64 1000000000), .lit (.int .u64 10000000000), .lit (.int .u64 100000000000), .lit (.int .u64 1000000000000), .lit (.int .u64 10000000000000), .lit (.int .u64 100000000000000), .lit (.int .u64 1000000000000000), .lit (.int .u64 10000000000000000), .lit (.int .u64 100000000000000000), .lit (.int .u64 1000000000000000000), .lit (.int .u64 10000000000000000000)]

/-- 'hedgerowlaw12.SnapBytes': WHATEVER THE INPUT: true; the input reads as it did. -/
def snapBytesSpec : ChangeSpec := { name := "snapBytes", fn := fun _ => fun
  | [d] => { results := [.lit (.bool true)], args := [d] }
  | _ => none }
def snapBytesRow : OpenClaim := { program := "ythbhfipgdinihaagreatdoor", sum := "951f894844453a1fc0315e819aece0e1b631652545518714b0fc77bd5d0960d2", func := "hedgerow/hedgerowlaw12.SnapBytes", spec := "snapBytes", inPlace := ["internal/abi.NoEscape", "internal/bytealg.MakeNoZero", "internal/bytealg.CountString", "internal/bytealg.IndexByteString", "internal/bytealg.IndexString"], unfollowed := true, recurses := true, named := ["unicode/utf8.first", "unicode/utf8.acceptRanges", "internal/bytealg.MaxLen"], plainKeys := false, apart := false, laid := [("unicode/utf8.acceptRanges", laid_unicode_utf8_acceptRanges), ("unicode/utf8.first", laid_unicode_utf8_first)] }
def SnapBytesSaid : Prop := snapBytesRow.holds Tryz.pinned (OpenSpec.ofChange snapBytesSpec)

/-- ITS FALSE NEIGHBOUR: 'it returns false'. Refute it at one input. -/
def snapBytesWrong : ChangeSpec := { name := "snapBytes", fn := fun _ => fun
  | [d] => { results := [.lit (.bool false)], args := [d] }
  | _ => none }
def SnapBytesWrongFalsely : Prop := snapBytesRow.holds Tryz.pinned (OpenSpec.ofChange snapBytesWrong)

/-- 'hedgerowlaw12.SnapParses': WHATEVER THE INPUT: true; the input reads as it did. -/
def snapParsesSpec : ChangeSpec := { name := "snapParses", fn := fun _ => fun
  | [d] => { results := [.lit (.bool true)], args := [d] }
  | _ => none }
def snapParsesRow : OpenClaim := { program := "ythbhfipgdinihaagreatdoor", sum := "951f894844453a1fc0315e819aece0e1b631652545518714b0fc77bd5d0960d2", func := "hedgerow/hedgerowlaw12.SnapParses", spec := "snapParses", inPlace := ["internal/abi.NoEscape", "internal/bytealg.MakeNoZero", "internal/bytealg.CountString", "internal/bytealg.IndexByteString", "internal/bytealg.IndexString"], unfollowed := true, recurses := true, named := ["unicode/utf8.first", "unicode/utf8.acceptRanges", "internal/bytealg.MaxLen"], plainKeys := false, apart := false, laid := [("unicode/utf8.acceptRanges", laid_unicode_utf8_acceptRanges), ("unicode/utf8.first", laid_unicode_utf8_first)] }
def SnapParsesSaid : Prop := snapParsesRow.holds Tryz.pinned (OpenSpec.ofChange snapParsesSpec)

/-- ITS FALSE NEIGHBOUR: 'it returns false'. Refute it at one input. -/
def snapParsesWrong : ChangeSpec := { name := "snapParses", fn := fun _ => fun
  | [d] => { results := [.lit (.bool false)], args := [d] }
  | _ => none }
def SnapParsesWrongFalsely : Prop := snapParsesRow.holds Tryz.pinned (OpenSpec.ofChange snapParsesWrong)

/-- 'hedgerowlaw12.SnapStores': WHATEVER THE INPUT: true; the input reads as it did. -/
def snapStoresSpec : ChangeSpec := { name := "snapStores", fn := fun _ => fun
  | [d] => { results := [.lit (.bool true)], args := [d] }
  | _ => none }
def snapStoresRow : OpenClaim := { program := "ythbhfipgdinihaagreatdoor", sum := "951f894844453a1fc0315e819aece0e1b631652545518714b0fc77bd5d0960d2", func := "hedgerow/hedgerowlaw12.SnapStores", spec := "snapStores", inPlace := ["internal/abi.NoEscape", "internal/bytealg.MakeNoZero", "internal/bytealg.CountString", "internal/bytealg.IndexByteString", "internal/bytealg.IndexString", "slices.overlaps[hedgerow/store.Entry]"], unfollowed := true, recurses := true, named := ["unicode/utf8.first", "unicode/utf8.acceptRanges", "internal/bytealg.MaxLen"], plainKeys := false, apart := false, laid := [("unicode/utf8.acceptRanges", laid_unicode_utf8_acceptRanges), ("unicode/utf8.first", laid_unicode_utf8_first)] }
def SnapStoresSaid : Prop := snapStoresRow.holds Tryz.pinned (OpenSpec.ofChange snapStoresSpec)

/-- ITS FALSE NEIGHBOUR: 'it returns false'. Refute it at one input. -/
def snapStoresWrong : ChangeSpec := { name := "snapStores", fn := fun _ => fun
  | [d] => { results := [.lit (.bool false)], args := [d] }
  | _ => none }
def SnapStoresWrongFalsely : Prop := snapStoresRow.holds Tryz.pinned (OpenSpec.ofChange snapStoresWrong)

/-- 'hedgerowlaw07.StoreLive': WHATEVER THE INPUT: true; the input reads as it did. -/
def storeLiveSpec : ChangeSpec := { name := "storeLive", fn := fun _ => fun
  | [d1, d2] => { results := [.lit (.bool true)], args := [d1, d2] }
  | _ => none }
def storeLiveRow : OpenClaim := { program := "ythbhfipgdinihaagreatdoor", sum := "951f894844453a1fc0315e819aece0e1b631652545518714b0fc77bd5d0960d2", func := "hedgerow/hedgerowlaw07.StoreLive", spec := "storeLive", inPlace := ["internal/abi.NoEscape", "internal/bytealg.MakeNoZero", "internal/bytealg.CountString", "internal/bytealg.IndexByteString", "internal/bytealg.IndexString", "slices.overlaps[hedgerow/store.Entry]"], unfollowed := true, recurses := true, named := ["unicode/utf8.first", "unicode/utf8.acceptRanges", "internal/bytealg.MaxLen"], plainKeys := false, apart := false, laid := [("unicode/utf8.acceptRanges", laid_unicode_utf8_acceptRanges), ("unicode/utf8.first", laid_unicode_utf8_first)] }
def StoreLiveSaid : Prop := storeLiveRow.holds Tryz.pinned (OpenSpec.ofChange storeLiveSpec)

/-- ITS FALSE NEIGHBOUR: 'it returns false'. Refute it at one input. -/
def storeLiveWrong : ChangeSpec := { name := "storeLive", fn := fun _ => fun
  | [d1, d2] => { results := [.lit (.bool false)], args := [d1, d2] }
  | _ => none }
def StoreLiveWrongFalsely : Prop := storeLiveRow.holds Tryz.pinned (OpenSpec.ofChange storeLiveWrong)

/-- 'hedgerowlaw07.StoreOrder': WHATEVER THE INPUT: true; the input reads as it did. -/
def storeOrderSpec : ChangeSpec := { name := "storeOrder", fn := fun _ => fun
  | [d1, d2] => { results := [.lit (.bool true)], args := [d1, d2] }
  | _ => none }
def storeOrderRow : OpenClaim := { program := "ythbhfipgdinihaagreatdoor", sum := "951f894844453a1fc0315e819aece0e1b631652545518714b0fc77bd5d0960d2", func := "hedgerow/hedgerowlaw07.StoreOrder", spec := "storeOrder", inPlace := ["internal/abi.NoEscape", "internal/bytealg.MakeNoZero", "internal/bytealg.CountString", "internal/bytealg.IndexByteString", "internal/bytealg.IndexString", "slices.overlaps[hedgerow/store.Entry]"], unfollowed := true, recurses := true, named := ["unicode/utf8.first", "unicode/utf8.acceptRanges", "internal/bytealg.MaxLen"], plainKeys := false, apart := false, laid := [("unicode/utf8.acceptRanges", laid_unicode_utf8_acceptRanges), ("unicode/utf8.first", laid_unicode_utf8_first)] }
def StoreOrderSaid : Prop := storeOrderRow.holds Tryz.pinned (OpenSpec.ofChange storeOrderSpec)

/-- ITS FALSE NEIGHBOUR: 'it returns false'. Refute it at one input. -/
def storeOrderWrong : ChangeSpec := { name := "storeOrder", fn := fun _ => fun
  | [d1, d2] => { results := [.lit (.bool false)], args := [d1, d2] }
  | _ => none }
def StoreOrderWrongFalsely : Prop := storeOrderRow.holds Tryz.pinned (OpenSpec.ofChange storeOrderWrong)

/-- 'hedgerowlaw07.StoreCopies': WHATEVER THE INPUT: true; the input reads as it did. -/
def storeCopiesSpec : ChangeSpec := { name := "storeCopies", fn := fun _ => fun
  | [d1, d2] => { results := [.lit (.bool true)], args := [d1, d2] }
  | _ => none }
def storeCopiesRow : OpenClaim := { program := "ythbhfipgdinihaagreatdoor", sum := "951f894844453a1fc0315e819aece0e1b631652545518714b0fc77bd5d0960d2", func := "hedgerow/hedgerowlaw07.StoreCopies", spec := "storeCopies", inPlace := ["internal/abi.NoEscape", "internal/bytealg.MakeNoZero", "internal/bytealg.CountString", "internal/bytealg.IndexByteString", "internal/bytealg.IndexString", "slices.overlaps[hedgerow/store.Entry]"], unfollowed := true, recurses := true, named := ["unicode/utf8.first", "unicode/utf8.acceptRanges", "internal/bytealg.MaxLen"], plainKeys := false, apart := false, laid := [("unicode/utf8.acceptRanges", laid_unicode_utf8_acceptRanges), ("unicode/utf8.first", laid_unicode_utf8_first)] }
def StoreCopiesSaid : Prop := storeCopiesRow.holds Tryz.pinned (OpenSpec.ofChange storeCopiesSpec)

/-- ITS FALSE NEIGHBOUR: 'it returns false'. Refute it at one input. -/
def storeCopiesWrong : ChangeSpec := { name := "storeCopies", fn := fun _ => fun
  | [d1, d2] => { results := [.lit (.bool false)], args := [d1, d2] }
  | _ => none }
def StoreCopiesWrongFalsely : Prop := storeCopiesRow.holds Tryz.pinned (OpenSpec.ofChange storeCopiesWrong)

/-- 'hedgerowlaw07.StoreValues': WHATEVER THE INPUT: true; the input reads as it did. -/
def storeValuesSpec : ChangeSpec := { name := "storeValues", fn := fun _ => fun
  | [d1, d2] => { results := [.lit (.bool true)], args := [d1, d2] }
  | _ => none }
def storeValuesRow : OpenClaim := { program := "ythbhfipgdinihaagreatdoor", sum := "951f894844453a1fc0315e819aece0e1b631652545518714b0fc77bd5d0960d2", func := "hedgerow/hedgerowlaw07.StoreValues", spec := "storeValues", inPlace := ["internal/abi.NoEscape", "internal/bytealg.MakeNoZero", "internal/bytealg.CountString", "internal/bytealg.IndexByteString", "internal/bytealg.IndexString", "slices.overlaps[hedgerow/store.Entry]"], unfollowed := true, recurses := true, named := ["unicode/utf8.first", "unicode/utf8.acceptRanges", "internal/bytealg.MaxLen"], plainKeys := false, apart := false, laid := [("unicode/utf8.acceptRanges", laid_unicode_utf8_acceptRanges), ("unicode/utf8.first", laid_unicode_utf8_first)] }
def StoreValuesSaid : Prop := storeValuesRow.holds Tryz.pinned (OpenSpec.ofChange storeValuesSpec)

/-- ITS FALSE NEIGHBOUR: 'it returns false'. Refute it at one input. -/
def storeValuesWrong : ChangeSpec := { name := "storeValues", fn := fun _ => fun
  | [d1, d2] => { results := [.lit (.bool false)], args := [d1, d2] }
  | _ => none }
def StoreValuesWrongFalsely : Prop := storeValuesRow.holds Tryz.pinned (OpenSpec.ofChange storeValuesWrong)

/-- 'hedgerowlaw08.GraphLines': WHATEVER THE INPUT: true; the input reads as it did. -/
def graphLinesSpec : ChangeSpec := { name := "graphLines", fn := fun _ => fun
  | [d] => { results := [.lit (.bool true)], args := [d] }
  | _ => none }
def graphLinesRow : OpenClaim := { program := "ythbhfipgdinihaagreatdoor", sum := "951f894844453a1fc0315e819aece0e1b631652545518714b0fc77bd5d0960d2", func := "hedgerow/hedgerowlaw08.GraphLines", spec := "graphLines", inPlace := ["internal/abi.NoEscape", "internal/bytealg.MakeNoZero", "internal/bytealg.CountString", "internal/bytealg.IndexByteString", "internal/bytealg.IndexString", "slices.overlaps[hedgerow/store.Entry]"], unfollowed := true, recurses := true, named := ["unicode/utf8.first", "unicode/utf8.acceptRanges", "internal/bytealg.MaxLen", "internal/strconv.uint64pow10", "math/bits.deBruijn32tab", "math/bits.deBruijn64tab"], plainKeys := false, apart := false, laid := [("math/bits.deBruijn32tab", laid_math_bits_deBruijn32tab), ("math/bits.deBruijn64tab", laid_math_bits_deBruijn64tab), ("internal/strconv.uint64pow10", laid_internal_strconv_uint64pow10), ("unicode/utf8.acceptRanges", laid_unicode_utf8_acceptRanges), ("unicode/utf8.first", laid_unicode_utf8_first)] }
def GraphLinesSaid : Prop := graphLinesRow.holds Tryz.pinned (OpenSpec.ofChange graphLinesSpec)

/-- ITS FALSE NEIGHBOUR: 'it returns false'. Refute it at one input. -/
def graphLinesWrong : ChangeSpec := { name := "graphLines", fn := fun _ => fun
  | [d] => { results := [.lit (.bool false)], args := [d] }
  | _ => none }
def GraphLinesWrongFalsely : Prop := graphLinesRow.holds Tryz.pinned (OpenSpec.ofChange graphLinesWrong)

/-- 'hedgerowlaw08.GraphHides': WHATEVER THE INPUT: true; the input reads as it did. -/
def graphHidesSpec : ChangeSpec := { name := "graphHides", fn := fun _ => fun
  | [d1, d2] => { results := [.lit (.bool true)], args := [d1, d2] }
  | _ => none }
def graphHidesRow : OpenClaim := { program := "ythbhfipgdinihaagreatdoor", sum := "951f894844453a1fc0315e819aece0e1b631652545518714b0fc77bd5d0960d2", func := "hedgerow/hedgerowlaw08.GraphHides", spec := "graphHides", inPlace := ["internal/abi.NoEscape", "internal/bytealg.MakeNoZero", "internal/bytealg.CountString", "internal/bytealg.IndexByteString", "internal/bytealg.IndexString", "slices.overlaps[hedgerow/store.Entry]"], unfollowed := true, recurses := true, named := ["unicode/utf8.first", "unicode/utf8.acceptRanges", "internal/bytealg.MaxLen", "internal/strconv.uint64pow10", "math/bits.deBruijn32tab", "math/bits.deBruijn64tab"], plainKeys := false, apart := false, laid := [("math/bits.deBruijn32tab", laid_math_bits_deBruijn32tab), ("math/bits.deBruijn64tab", laid_math_bits_deBruijn64tab), ("internal/strconv.uint64pow10", laid_internal_strconv_uint64pow10), ("unicode/utf8.acceptRanges", laid_unicode_utf8_acceptRanges), ("unicode/utf8.first", laid_unicode_utf8_first)] }
def GraphHidesSaid : Prop := graphHidesRow.holds Tryz.pinned (OpenSpec.ofChange graphHidesSpec)

/-- ITS FALSE NEIGHBOUR: 'it returns false'. Refute it at one input. -/
def graphHidesWrong : ChangeSpec := { name := "graphHides", fn := fun _ => fun
  | [d1, d2] => { results := [.lit (.bool false)], args := [d1, d2] }
  | _ => none }
def GraphHidesWrongFalsely : Prop := graphHidesRow.holds Tryz.pinned (OpenSpec.ofChange graphHidesWrong)

/-- 'hedgerowlaw08.GraphLinks': WHATEVER THE INPUT: true; the input reads as it did. -/
def graphLinksSpec : ChangeSpec := { name := "graphLinks", fn := fun _ => fun
  | [d1, d2] => { results := [.lit (.bool true)], args := [d1, d2] }
  | _ => none }
def graphLinksRow : OpenClaim := { program := "ythbhfipgdinihaagreatdoor", sum := "951f894844453a1fc0315e819aece0e1b631652545518714b0fc77bd5d0960d2", func := "hedgerow/hedgerowlaw08.GraphLinks", spec := "graphLinks", inPlace := ["internal/abi.NoEscape", "internal/bytealg.MakeNoZero", "internal/bytealg.CountString", "internal/bytealg.IndexByteString", "internal/bytealg.IndexString", "slices.overlaps[hedgerow/store.Entry]"], unfollowed := true, recurses := true, named := ["unicode/utf8.first", "unicode/utf8.acceptRanges", "internal/bytealg.MaxLen", "internal/strconv.uint64pow10", "math/bits.deBruijn32tab", "math/bits.deBruijn64tab"], plainKeys := false, apart := false, laid := [("math/bits.deBruijn32tab", laid_math_bits_deBruijn32tab), ("math/bits.deBruijn64tab", laid_math_bits_deBruijn64tab), ("internal/strconv.uint64pow10", laid_internal_strconv_uint64pow10), ("unicode/utf8.acceptRanges", laid_unicode_utf8_acceptRanges), ("unicode/utf8.first", laid_unicode_utf8_first)] }
def GraphLinksSaid : Prop := graphLinksRow.holds Tryz.pinned (OpenSpec.ofChange graphLinksSpec)

/-- ITS FALSE NEIGHBOUR: 'it returns false'. Refute it at one input. -/
def graphLinksWrong : ChangeSpec := { name := "graphLinks", fn := fun _ => fun
  | [d1, d2] => { results := [.lit (.bool false)], args := [d1, d2] }
  | _ => none }
def GraphLinksWrongFalsely : Prop := graphLinksRow.holds Tryz.pinned (OpenSpec.ofChange graphLinksWrong)

/-- 'hedgerowlaw08.GraphAsks': WHATEVER THE INPUT: true; the input reads as it did. -/
def graphAsksSpec : ChangeSpec := { name := "graphAsks", fn := fun _ => fun
  | [d1, d2, d3, d4] => { results := [.lit (.bool true)], args := [d1, d2, d3, d4] }
  | _ => none }
def graphAsksRow : OpenClaim := { program := "ythbhfipgdinihaagreatdoor", sum := "951f894844453a1fc0315e819aece0e1b631652545518714b0fc77bd5d0960d2", func := "hedgerow/hedgerowlaw08.GraphAsks", spec := "graphAsks", inPlace := ["internal/abi.NoEscape", "internal/bytealg.MakeNoZero", "internal/bytealg.CountString", "internal/bytealg.IndexByteString", "internal/bytealg.IndexString", "slices.overlaps[hedgerow/store.Entry]"], unfollowed := true, recurses := true, named := ["unicode/utf8.first", "unicode/utf8.acceptRanges", "internal/bytealg.MaxLen", "internal/strconv.uint64pow10", "math/bits.deBruijn32tab", "math/bits.deBruijn64tab"], plainKeys := false, apart := false, laid := [("math/bits.deBruijn32tab", laid_math_bits_deBruijn32tab), ("math/bits.deBruijn64tab", laid_math_bits_deBruijn64tab), ("internal/strconv.uint64pow10", laid_internal_strconv_uint64pow10), ("unicode/utf8.acceptRanges", laid_unicode_utf8_acceptRanges), ("unicode/utf8.first", laid_unicode_utf8_first)] }
def GraphAsksSaid : Prop := graphAsksRow.holds Tryz.pinned (OpenSpec.ofChange graphAsksSpec)

/-- ITS FALSE NEIGHBOUR: 'it returns false'. Refute it at one input. -/
def graphAsksWrong : ChangeSpec := { name := "graphAsks", fn := fun _ => fun
  | [d1, d2, d3, d4] => { results := [.lit (.bool false)], args := [d1, d2, d3, d4] }
  | _ => none }
def GraphAsksWrongFalsely : Prop := graphAsksRow.holds Tryz.pinned (OpenSpec.ofChange graphAsksWrong)

/-- 'hedgerowlaw33.WaysCosts': WHATEVER THE INPUT: true; the input reads as it did. -/
def waysCostsSpec : ChangeSpec := { name := "waysCosts", fn := fun _ => fun
  | [d1, d2, d3] => { results := [.lit (.bool true)], args := [d1, d2, d3] }
  | _ => none }
def waysCostsRow : OpenClaim := { program := "ythbhfipgdinihaagreatdoor", sum := "951f894844453a1fc0315e819aece0e1b631652545518714b0fc77bd5d0960d2", func := "hedgerow/hedgerowlaw33.WaysCosts", spec := "waysCosts", inPlace := ["internal/abi.NoEscape", "internal/bytealg.MakeNoZero", "internal/bytealg.CountString", "internal/bytealg.IndexByteString", "internal/bytealg.IndexString", "slices.overlaps[hedgerow/store.Entry]"], unfollowed := true, recurses := true, named := ["unicode/utf8.first", "unicode/utf8.acceptRanges", "internal/bytealg.MaxLen"], plainKeys := false, apart := false, laid := [("unicode/utf8.acceptRanges", laid_unicode_utf8_acceptRanges), ("unicode/utf8.first", laid_unicode_utf8_first)] }
def WaysCostsSaid : Prop := waysCostsRow.holds Tryz.pinned (OpenSpec.ofChange waysCostsSpec)

/-- ITS FALSE NEIGHBOUR: 'it returns false'. Refute it at one input. -/
def waysCostsWrong : ChangeSpec := { name := "waysCosts", fn := fun _ => fun
  | [d1, d2, d3] => { results := [.lit (.bool false)], args := [d1, d2, d3] }
  | _ => none }
def WaysCostsWrongFalsely : Prop := waysCostsRow.holds Tryz.pinned (OpenSpec.ofChange waysCostsWrong)

/-- 'hedgerowlaw33.WaysCheapest': WHATEVER THE INPUT: true; the input reads as it did. -/
def waysCheapestSpec : ChangeSpec := { name := "waysCheapest", fn := fun _ => fun
  | [d1, d2, d3, d4] => { results := [.lit (.bool true)], args := [d1, d2, d3, d4] }
  | _ => none }
def waysCheapestRow : OpenClaim := { program := "ythbhfipgdinihaagreatdoor", sum := "951f894844453a1fc0315e819aece0e1b631652545518714b0fc77bd5d0960d2", func := "hedgerow/hedgerowlaw33.WaysCheapest", spec := "waysCheapest", inPlace := ["internal/abi.NoEscape", "internal/bytealg.MakeNoZero", "internal/bytealg.CountString", "internal/bytealg.IndexByteString", "internal/bytealg.IndexString", "slices.overlaps[hedgerow/store.Entry]"], unfollowed := true, recurses := true, named := ["unicode/utf8.first", "unicode/utf8.acceptRanges", "internal/bytealg.MaxLen"], plainKeys := false, apart := false, laid := [("unicode/utf8.acceptRanges", laid_unicode_utf8_acceptRanges), ("unicode/utf8.first", laid_unicode_utf8_first)] }
def WaysCheapestSaid : Prop := waysCheapestRow.holds Tryz.pinned (OpenSpec.ofChange waysCheapestSpec)

/-- ITS FALSE NEIGHBOUR: 'it returns false'. Refute it at one input. -/
def waysCheapestWrong : ChangeSpec := { name := "waysCheapest", fn := fun _ => fun
  | [d1, d2, d3, d4] => { results := [.lit (.bool false)], args := [d1, d2, d3, d4] }
  | _ => none }
def WaysCheapestWrongFalsely : Prop := waysCheapestRow.holds Tryz.pinned (OpenSpec.ofChange waysCheapestWrong)

/-- 'hedgerowlaw33.WaysEdges': WHATEVER THE INPUT: true; the input reads as it did. -/
def waysEdgesSpec : ChangeSpec := { name := "waysEdges", fn := fun _ => fun
  | [d1, d2, d3] => { results := [.lit (.bool true)], args := [d1, d2, d3] }
  | _ => none }
def waysEdgesRow : OpenClaim := { program := "ythbhfipgdinihaagreatdoor", sum := "951f894844453a1fc0315e819aece0e1b631652545518714b0fc77bd5d0960d2", func := "hedgerow/hedgerowlaw33.WaysEdges", spec := "waysEdges", inPlace := ["internal/abi.NoEscape", "internal/bytealg.MakeNoZero", "internal/bytealg.CountString", "internal/bytealg.IndexByteString", "internal/bytealg.IndexString", "slices.overlaps[hedgerow/store.Entry]"], unfollowed := true, recurses := true, named := ["unicode/utf8.first", "unicode/utf8.acceptRanges", "internal/bytealg.MaxLen"], plainKeys := false, apart := false, laid := [("unicode/utf8.acceptRanges", laid_unicode_utf8_acceptRanges), ("unicode/utf8.first", laid_unicode_utf8_first)] }
def WaysEdgesSaid : Prop := waysEdgesRow.holds Tryz.pinned (OpenSpec.ofChange waysEdgesSpec)

/-- ITS FALSE NEIGHBOUR: 'it returns false'. Refute it at one input. -/
def waysEdgesWrong : ChangeSpec := { name := "waysEdges", fn := fun _ => fun
  | [d1, d2, d3] => { results := [.lit (.bool false)], args := [d1, d2, d3] }
  | _ => none }
def WaysEdgesWrongFalsely : Prop := waysEdgesRow.holds Tryz.pinned (OpenSpec.ofChange waysEdgesWrong)

/- THE SECOND FORM. 'bulk': how many values and letters a reading holds, each counted each time it is reached (what is shared counts as often as it is met; a slice's spare places count too). A statement '..UptoSaid' is the law's where the arguments, and the package variables that the reading takes, are together of bulk at most 1048576: NARROWER than '..Said'. Prove '..Said' where nothing that the law and all that it calls make is longer than what came in: it says more and counts as full. Else prove '..UptoSaid'. A law counts once. -/
mutual
def uptoBulk {H : Type} : DataW H → Nat
  | .lit (.string bytes) => bytes.length + 1
  | .lit _ => 1
  | .nil => 1
  | .ptr d => uptoBulk d + 1
  | .slice elems spare => uptoBulkAll elems + uptoBulkAll spare + 1
  | .agg parts => uptoBulkAll parts + 1
  | .iface _ d => uptoBulk d + 1
  | .map entries => uptoBulkEntries entries + 1
  | .held _ => 1
def uptoBulkAll {H : Type} : List (DataW H) → Nat
  | [] => 0
  | d :: r => uptoBulk d + uptoBulkAll r
def uptoBulkEntries {H : Type} : List (Lit × DataW H) → Nat
  | [] => 0
  | x :: r => uptoBulkEntry x + uptoBulkEntries r
def uptoBulkEntry {H : Type} : Lit × DataW H → Nat
  | (.string bytes, d) => bytes.length + uptoBulk d + 1
  | (_, d) => uptoBulk d + 1
 end
def uptoSmall : (H : Type) → List (DataW H) → Bool := fun _ ds => decide (uptoBulkAll ds ≤ 1048576)
def OpenSpec.upto (s : _root_.Go.ChangeSpec) : _root_.Go.OpenSpec := { _root_.Go.OpenSpec.ofChange s with cond := some uptoSmall }

/-- 'hedgerowlaw12.SnapBytes', WHERE WHAT IT READS IS OF BULK AT MOST 1048576: true; the input reads as it did. -/
def snapBytesUptoRow : OpenClaim := { program := "ythbhfipgdinihaagreatdoor", sum := "951f894844453a1fc0315e819aece0e1b631652545518714b0fc77bd5d0960d2", func := "hedgerow/hedgerowlaw12.SnapBytes", spec := "snapBytes", inPlace := ["internal/abi.NoEscape", "internal/bytealg.MakeNoZero", "internal/bytealg.CountString", "internal/bytealg.IndexByteString", "internal/bytealg.IndexString"], unfollowed := true, recurses := true, named := ["unicode/utf8.first", "unicode/utf8.acceptRanges", "internal/bytealg.MaxLen"], plainKeys := false, apart := false, laid := [("unicode/utf8.acceptRanges", laid_unicode_utf8_acceptRanges), ("unicode/utf8.first", laid_unicode_utf8_first)], narrowed := true }
def SnapBytesUptoSaid : Prop := snapBytesUptoRow.holds Tryz.pinned (OpenSpec.upto snapBytesSpec)

/-- 'hedgerowlaw12.SnapParses', WHERE WHAT IT READS IS OF BULK AT MOST 1048576: true; the input reads as it did. -/
def snapParsesUptoRow : OpenClaim := { program := "ythbhfipgdinihaagreatdoor", sum := "951f894844453a1fc0315e819aece0e1b631652545518714b0fc77bd5d0960d2", func := "hedgerow/hedgerowlaw12.SnapParses", spec := "snapParses", inPlace := ["internal/abi.NoEscape", "internal/bytealg.MakeNoZero", "internal/bytealg.CountString", "internal/bytealg.IndexByteString", "internal/bytealg.IndexString"], unfollowed := true, recurses := true, named := ["unicode/utf8.first", "unicode/utf8.acceptRanges", "internal/bytealg.MaxLen"], plainKeys := false, apart := false, laid := [("unicode/utf8.acceptRanges", laid_unicode_utf8_acceptRanges), ("unicode/utf8.first", laid_unicode_utf8_first)], narrowed := true }
def SnapParsesUptoSaid : Prop := snapParsesUptoRow.holds Tryz.pinned (OpenSpec.upto snapParsesSpec)

/-- 'hedgerowlaw12.SnapStores', WHERE WHAT IT READS IS OF BULK AT MOST 1048576: true; the input reads as it did. -/
def snapStoresUptoRow : OpenClaim := { program := "ythbhfipgdinihaagreatdoor", sum := "951f894844453a1fc0315e819aece0e1b631652545518714b0fc77bd5d0960d2", func := "hedgerow/hedgerowlaw12.SnapStores", spec := "snapStores", inPlace := ["internal/abi.NoEscape", "internal/bytealg.MakeNoZero", "internal/bytealg.CountString", "internal/bytealg.IndexByteString", "internal/bytealg.IndexString", "slices.overlaps[hedgerow/store.Entry]"], unfollowed := true, recurses := true, named := ["unicode/utf8.first", "unicode/utf8.acceptRanges", "internal/bytealg.MaxLen"], plainKeys := false, apart := false, laid := [("unicode/utf8.acceptRanges", laid_unicode_utf8_acceptRanges), ("unicode/utf8.first", laid_unicode_utf8_first)], narrowed := true }
def SnapStoresUptoSaid : Prop := snapStoresUptoRow.holds Tryz.pinned (OpenSpec.upto snapStoresSpec)

/-- 'hedgerowlaw07.StoreLive', WHERE WHAT IT READS IS OF BULK AT MOST 1048576: true; the input reads as it did. -/
def storeLiveUptoRow : OpenClaim := { program := "ythbhfipgdinihaagreatdoor", sum := "951f894844453a1fc0315e819aece0e1b631652545518714b0fc77bd5d0960d2", func := "hedgerow/hedgerowlaw07.StoreLive", spec := "storeLive", inPlace := ["internal/abi.NoEscape", "internal/bytealg.MakeNoZero", "internal/bytealg.CountString", "internal/bytealg.IndexByteString", "internal/bytealg.IndexString", "slices.overlaps[hedgerow/store.Entry]"], unfollowed := true, recurses := true, named := ["unicode/utf8.first", "unicode/utf8.acceptRanges", "internal/bytealg.MaxLen"], plainKeys := false, apart := false, laid := [("unicode/utf8.acceptRanges", laid_unicode_utf8_acceptRanges), ("unicode/utf8.first", laid_unicode_utf8_first)], narrowed := true }
def StoreLiveUptoSaid : Prop := storeLiveUptoRow.holds Tryz.pinned (OpenSpec.upto storeLiveSpec)

/-- 'hedgerowlaw07.StoreOrder', WHERE WHAT IT READS IS OF BULK AT MOST 1048576: true; the input reads as it did. -/
def storeOrderUptoRow : OpenClaim := { program := "ythbhfipgdinihaagreatdoor", sum := "951f894844453a1fc0315e819aece0e1b631652545518714b0fc77bd5d0960d2", func := "hedgerow/hedgerowlaw07.StoreOrder", spec := "storeOrder", inPlace := ["internal/abi.NoEscape", "internal/bytealg.MakeNoZero", "internal/bytealg.CountString", "internal/bytealg.IndexByteString", "internal/bytealg.IndexString", "slices.overlaps[hedgerow/store.Entry]"], unfollowed := true, recurses := true, named := ["unicode/utf8.first", "unicode/utf8.acceptRanges", "internal/bytealg.MaxLen"], plainKeys := false, apart := false, laid := [("unicode/utf8.acceptRanges", laid_unicode_utf8_acceptRanges), ("unicode/utf8.first", laid_unicode_utf8_first)], narrowed := true }
def StoreOrderUptoSaid : Prop := storeOrderUptoRow.holds Tryz.pinned (OpenSpec.upto storeOrderSpec)

/-- 'hedgerowlaw07.StoreCopies', WHERE WHAT IT READS IS OF BULK AT MOST 1048576: true; the input reads as it did. -/
def storeCopiesUptoRow : OpenClaim := { program := "ythbhfipgdinihaagreatdoor", sum := "951f894844453a1fc0315e819aece0e1b631652545518714b0fc77bd5d0960d2", func := "hedgerow/hedgerowlaw07.StoreCopies", spec := "storeCopies", inPlace := ["internal/abi.NoEscape", "internal/bytealg.MakeNoZero", "internal/bytealg.CountString", "internal/bytealg.IndexByteString", "internal/bytealg.IndexString", "slices.overlaps[hedgerow/store.Entry]"], unfollowed := true, recurses := true, named := ["unicode/utf8.first", "unicode/utf8.acceptRanges", "internal/bytealg.MaxLen"], plainKeys := false, apart := false, laid := [("unicode/utf8.acceptRanges", laid_unicode_utf8_acceptRanges), ("unicode/utf8.first", laid_unicode_utf8_first)], narrowed := true }
def StoreCopiesUptoSaid : Prop := storeCopiesUptoRow.holds Tryz.pinned (OpenSpec.upto storeCopiesSpec)

/-- 'hedgerowlaw07.StoreValues', WHERE WHAT IT READS IS OF BULK AT MOST 1048576: true; the input reads as it did. -/
def storeValuesUptoRow : OpenClaim := { program := "ythbhfipgdinihaagreatdoor", sum := "951f894844453a1fc0315e819aece0e1b631652545518714b0fc77bd5d0960d2", func := "hedgerow/hedgerowlaw07.StoreValues", spec := "storeValues", inPlace := ["internal/abi.NoEscape", "internal/bytealg.MakeNoZero", "internal/bytealg.CountString", "internal/bytealg.IndexByteString", "internal/bytealg.IndexString", "slices.overlaps[hedgerow/store.Entry]"], unfollowed := true, recurses := true, named := ["unicode/utf8.first", "unicode/utf8.acceptRanges", "internal/bytealg.MaxLen"], plainKeys := false, apart := false, laid := [("unicode/utf8.acceptRanges", laid_unicode_utf8_acceptRanges), ("unicode/utf8.first", laid_unicode_utf8_first)], narrowed := true }
def StoreValuesUptoSaid : Prop := storeValuesUptoRow.holds Tryz.pinned (OpenSpec.upto storeValuesSpec)

/-- 'hedgerowlaw08.GraphLines', WHERE WHAT IT READS IS OF BULK AT MOST 1048576: true; the input reads as it did. -/
def graphLinesUptoRow : OpenClaim := { program := "ythbhfipgdinihaagreatdoor", sum := "951f894844453a1fc0315e819aece0e1b631652545518714b0fc77bd5d0960d2", func := "hedgerow/hedgerowlaw08.GraphLines", spec := "graphLines", inPlace := ["internal/abi.NoEscape", "internal/bytealg.MakeNoZero", "internal/bytealg.CountString", "internal/bytealg.IndexByteString", "internal/bytealg.IndexString", "slices.overlaps[hedgerow/store.Entry]"], unfollowed := true, recurses := true, named := ["unicode/utf8.first", "unicode/utf8.acceptRanges", "internal/bytealg.MaxLen", "internal/strconv.uint64pow10", "math/bits.deBruijn32tab", "math/bits.deBruijn64tab"], plainKeys := false, apart := false, laid := [("math/bits.deBruijn32tab", laid_math_bits_deBruijn32tab), ("math/bits.deBruijn64tab", laid_math_bits_deBruijn64tab), ("internal/strconv.uint64pow10", laid_internal_strconv_uint64pow10), ("unicode/utf8.acceptRanges", laid_unicode_utf8_acceptRanges), ("unicode/utf8.first", laid_unicode_utf8_first)], narrowed := true }
def GraphLinesUptoSaid : Prop := graphLinesUptoRow.holds Tryz.pinned (OpenSpec.upto graphLinesSpec)

/-- 'hedgerowlaw08.GraphHides', WHERE WHAT IT READS IS OF BULK AT MOST 1048576: true; the input reads as it did. -/
def graphHidesUptoRow : OpenClaim := { program := "ythbhfipgdinihaagreatdoor", sum := "951f894844453a1fc0315e819aece0e1b631652545518714b0fc77bd5d0960d2", func := "hedgerow/hedgerowlaw08.GraphHides", spec := "graphHides", inPlace := ["internal/abi.NoEscape", "internal/bytealg.MakeNoZero", "internal/bytealg.CountString", "internal/bytealg.IndexByteString", "internal/bytealg.IndexString", "slices.overlaps[hedgerow/store.Entry]"], unfollowed := true, recurses := true, named := ["unicode/utf8.first", "unicode/utf8.acceptRanges", "internal/bytealg.MaxLen", "internal/strconv.uint64pow10", "math/bits.deBruijn32tab", "math/bits.deBruijn64tab"], plainKeys := false, apart := false, laid := [("math/bits.deBruijn32tab", laid_math_bits_deBruijn32tab), ("math/bits.deBruijn64tab", laid_math_bits_deBruijn64tab), ("internal/strconv.uint64pow10", laid_internal_strconv_uint64pow10), ("unicode/utf8.acceptRanges", laid_unicode_utf8_acceptRanges), ("unicode/utf8.first", laid_unicode_utf8_first)], narrowed := true }
def GraphHidesUptoSaid : Prop := graphHidesUptoRow.holds Tryz.pinned (OpenSpec.upto graphHidesSpec)

/-- 'hedgerowlaw08.GraphLinks', WHERE WHAT IT READS IS OF BULK AT MOST 1048576: true; the input reads as it did. -/
def graphLinksUptoRow : OpenClaim := { program := "ythbhfipgdinihaagreatdoor", sum := "951f894844453a1fc0315e819aece0e1b631652545518714b0fc77bd5d0960d2", func := "hedgerow/hedgerowlaw08.GraphLinks", spec := "graphLinks", inPlace := ["internal/abi.NoEscape", "internal/bytealg.MakeNoZero", "internal/bytealg.CountString", "internal/bytealg.IndexByteString", "internal/bytealg.IndexString", "slices.overlaps[hedgerow/store.Entry]"], unfollowed := true, recurses := true, named := ["unicode/utf8.first", "unicode/utf8.acceptRanges", "internal/bytealg.MaxLen", "internal/strconv.uint64pow10", "math/bits.deBruijn32tab", "math/bits.deBruijn64tab"], plainKeys := false, apart := false, laid := [("math/bits.deBruijn32tab", laid_math_bits_deBruijn32tab), ("math/bits.deBruijn64tab", laid_math_bits_deBruijn64tab), ("internal/strconv.uint64pow10", laid_internal_strconv_uint64pow10), ("unicode/utf8.acceptRanges", laid_unicode_utf8_acceptRanges), ("unicode/utf8.first", laid_unicode_utf8_first)], narrowed := true }
def GraphLinksUptoSaid : Prop := graphLinksUptoRow.holds Tryz.pinned (OpenSpec.upto graphLinksSpec)

/-- 'hedgerowlaw08.GraphAsks', WHERE WHAT IT READS IS OF BULK AT MOST 1048576: true; the input reads as it did. -/
def graphAsksUptoRow : OpenClaim := { program := "ythbhfipgdinihaagreatdoor", sum := "951f894844453a1fc0315e819aece0e1b631652545518714b0fc77bd5d0960d2", func := "hedgerow/hedgerowlaw08.GraphAsks", spec := "graphAsks", inPlace := ["internal/abi.NoEscape", "internal/bytealg.MakeNoZero", "internal/bytealg.CountString", "internal/bytealg.IndexByteString", "internal/bytealg.IndexString", "slices.overlaps[hedgerow/store.Entry]"], unfollowed := true, recurses := true, named := ["unicode/utf8.first", "unicode/utf8.acceptRanges", "internal/bytealg.MaxLen", "internal/strconv.uint64pow10", "math/bits.deBruijn32tab", "math/bits.deBruijn64tab"], plainKeys := false, apart := false, laid := [("math/bits.deBruijn32tab", laid_math_bits_deBruijn32tab), ("math/bits.deBruijn64tab", laid_math_bits_deBruijn64tab), ("internal/strconv.uint64pow10", laid_internal_strconv_uint64pow10), ("unicode/utf8.acceptRanges", laid_unicode_utf8_acceptRanges), ("unicode/utf8.first", laid_unicode_utf8_first)], narrowed := true }
def GraphAsksUptoSaid : Prop := graphAsksUptoRow.holds Tryz.pinned (OpenSpec.upto graphAsksSpec)

/-- 'hedgerowlaw33.WaysCosts', WHERE WHAT IT READS IS OF BULK AT MOST 1048576: true; the input reads as it did. -/
def waysCostsUptoRow : OpenClaim := { program := "ythbhfipgdinihaagreatdoor", sum := "951f894844453a1fc0315e819aece0e1b631652545518714b0fc77bd5d0960d2", func := "hedgerow/hedgerowlaw33.WaysCosts", spec := "waysCosts", inPlace := ["internal/abi.NoEscape", "internal/bytealg.MakeNoZero", "internal/bytealg.CountString", "internal/bytealg.IndexByteString", "internal/bytealg.IndexString", "slices.overlaps[hedgerow/store.Entry]"], unfollowed := true, recurses := true, named := ["unicode/utf8.first", "unicode/utf8.acceptRanges", "internal/bytealg.MaxLen"], plainKeys := false, apart := false, laid := [("unicode/utf8.acceptRanges", laid_unicode_utf8_acceptRanges), ("unicode/utf8.first", laid_unicode_utf8_first)], narrowed := true }
def WaysCostsUptoSaid : Prop := waysCostsUptoRow.holds Tryz.pinned (OpenSpec.upto waysCostsSpec)

/-- 'hedgerowlaw33.WaysCheapest', WHERE WHAT IT READS IS OF BULK AT MOST 1048576: true; the input reads as it did. -/
def waysCheapestUptoRow : OpenClaim := { program := "ythbhfipgdinihaagreatdoor", sum := "951f894844453a1fc0315e819aece0e1b631652545518714b0fc77bd5d0960d2", func := "hedgerow/hedgerowlaw33.WaysCheapest", spec := "waysCheapest", inPlace := ["internal/abi.NoEscape", "internal/bytealg.MakeNoZero", "internal/bytealg.CountString", "internal/bytealg.IndexByteString", "internal/bytealg.IndexString", "slices.overlaps[hedgerow/store.Entry]"], unfollowed := true, recurses := true, named := ["unicode/utf8.first", "unicode/utf8.acceptRanges", "internal/bytealg.MaxLen"], plainKeys := false, apart := false, laid := [("unicode/utf8.acceptRanges", laid_unicode_utf8_acceptRanges), ("unicode/utf8.first", laid_unicode_utf8_first)], narrowed := true }
def WaysCheapestUptoSaid : Prop := waysCheapestUptoRow.holds Tryz.pinned (OpenSpec.upto waysCheapestSpec)

/-- 'hedgerowlaw33.WaysEdges', WHERE WHAT IT READS IS OF BULK AT MOST 1048576: true; the input reads as it did. -/
def waysEdgesUptoRow : OpenClaim := { program := "ythbhfipgdinihaagreatdoor", sum := "951f894844453a1fc0315e819aece0e1b631652545518714b0fc77bd5d0960d2", func := "hedgerow/hedgerowlaw33.WaysEdges", spec := "waysEdges", inPlace := ["internal/abi.NoEscape", "internal/bytealg.MakeNoZero", "internal/bytealg.CountString", "internal/bytealg.IndexByteString", "internal/bytealg.IndexString", "slices.overlaps[hedgerow/store.Entry]"], unfollowed := true, recurses := true, named := ["unicode/utf8.first", "unicode/utf8.acceptRanges", "internal/bytealg.MaxLen"], plainKeys := false, apart := false, laid := [("unicode/utf8.acceptRanges", laid_unicode_utf8_acceptRanges), ("unicode/utf8.first", laid_unicode_utf8_first)], narrowed := true }
def WaysEdgesUptoSaid : Prop := waysEdgesUptoRow.holds Tryz.pinned (OpenSpec.upto waysEdgesSpec)

end Rows
end Go.Proofs.YthbhfipgdinihaaGreatDoor
