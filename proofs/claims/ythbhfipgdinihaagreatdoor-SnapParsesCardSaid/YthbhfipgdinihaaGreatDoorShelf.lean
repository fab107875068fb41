/- Own work: the shadow machine and what it shows, part Shelf. -/
import Derived.Shelf.Strings.Builder1
import Derived.Shelf.Strings.Builder2
import Derived.Shelf.Strings.OnBuilder
import Derived.Shelf.Small.Bits
import Derived.Shelf.Small.Wraps
import Derived.Shelf.Strings.BuilderF
import Derived.Shelf.Strings.BuilderK
import Derived.Shelf.Utf8.RuneCount
import Derived.Shelf.Strings.Builder2Cap
import Derived.Shelf.Strconv.Itoa0
import Derived.Shelf.Strconv.Itoa1
import Derived.Shelf.LaysM
import Derived.Shelf.Strconv.Itoa2
import Derived.Shelf.Strconv.Itoa3
import Derived.Shelf.Strings.Search1
import Derived.Shelf.Strings.Search2
import Derived.Shelf.Strings.Search3
import Derived.Shelf.Strings.Count
import Derived.Shelf.Strings.Shaped
import Derived.Shelf.Strings.Split
import Derived.Shelf.Strings.SplitShaped
import Derived.Shelf.Unicode.Decode
import Derived.Shelf.Strings.RuneCount
import Derived.Shelf.Strings.Explode
import Derived.Shelf.Unicode.DecodeSlow
import Derived.Shelf.Unicode.DecodeAny
import Derived.Shelf.Strings.BuilderCap
import Derived.Ground.Names2Prog
import Derived.Shelf.Slices.Clone
import Derived.Shelf.Slices.SearchI
import Derived.Test.YthbhfipgdinihaaGreatDoorProg
set_option linter.all false

namespace Go.Proofs
open Go.Shelf
def Tryz.lays156_ren : Go.Shelf.Ren := ⟨fun | 156 => 121 | 165 => 163 | 166 => 164 | 169 => 165 | 240 => 201 | 241 => 202 | 276 => 232 | 277 => 233 | n => n, fun | 31 => 81 | 9 => 9 | 3 => 3 | 4 => 4 | 0 => 0 | 20 => 20 | 72 => 211 | 76 => 215 | 70 => 209 | 37 => 30 | 75 => 214 | 127 => 251 | 164 => 276 | 5 => 5 | 80 => 217 | n => n, fun | n => n⟩
theorem Tryz.lays156 : Go.Proofs.Lays.n156 Tryz.prog Tryz.lays156_ren := {
  mixed := by kernel_rfl
  f156 := Tryz.func121.trans (congrArg some (by kernel_rfl))
  f165 := Tryz.func163.trans (congrArg some (by kernel_rfl))
  f166 := Tryz.func164.trans (congrArg some (by kernel_rfl))
  f169 := Tryz.func165.trans (congrArg some (by kernel_rfl))
  f240 := Tryz.func201.trans (congrArg some (by kernel_rfl))
  f241 := Tryz.func202.trans (congrArg some (by kernel_rfl))
  f276 := Tryz.func232.trans (congrArg some (by kernel_rfl))
  f277 := Tryz.func233.trans (congrArg some (by kernel_rfl))
  t0 := Tryz.underlying0
  a0 := Tryz.isAgg0
  z0 := Tryz.sizeOf0
  v0 := Tryz.zeroValue0
  t3 := Tryz.underlying3
  a3 := Tryz.isAgg3
  z3 := Tryz.sizeOf3
  v3 := Tryz.zeroValue3
  t4 := Tryz.underlying4
  a4 := Tryz.isAgg4
  z4 := Tryz.sizeOf4
  v4 := Tryz.zeroValue4
  t9 := Tryz.underlying9
  a9 := Tryz.isAgg9
  z9 := Tryz.sizeOf9
  v9 := Tryz.zeroValue9
  t20 := Tryz.underlying20
  a20 := Tryz.isAgg20
  z20 := Tryz.sizeOf20
  v20 := Tryz.zeroValue20
  t31 := Tryz.underlying81
  a31 := Tryz.isAgg81
  z31 := Tryz.sizeOf81
  v31 := Tryz.zeroValue81
  t37 := Tryz.underlying30
  a37 := Tryz.isAgg30
  z37 := Tryz.sizeOf30
  v37 := Tryz.zeroValue30
  t70 := Tryz.underlying209
  a70 := Tryz.isAgg209
  z70 := Tryz.sizeOf209
  v70 := Tryz.zeroValue209
  t72 := Tryz.underlying211
  a72 := Tryz.isAgg211
  z72 := Tryz.sizeOf211
  v72 := Tryz.zeroValue211
  t75 := Tryz.underlying214
  a75 := Tryz.isAgg214
  z75 := Tryz.sizeOf214
  v75 := Tryz.zeroValue214
  t76 := Tryz.underlying215
  a76 := Tryz.isAgg215
  z76 := Tryz.sizeOf215
  v76 := Tryz.zeroValue215
  t127 := Tryz.underlying251
  a127 := Tryz.isAgg251
  z127 := Tryz.sizeOf251
  v127 := Tryz.zeroValue251
  t164 := Tryz.underlying276
  a164 := Tryz.isAgg276
  z164 := Tryz.sizeOf276
  v164 := Tryz.zeroValue276 }
theorem Tryz.Builder_Extra_156 : Builder.Extra Tryz.prog Tryz.lays156_ren := {
  sizeBuilder := by kernel_rfl
  liesBuilder := by kernel_rfl
  t5 := Tryz.underlying5
  a5 := Tryz.isAgg5
  z5 := Tryz.sizeOf5
  v5 := Tryz.zeroValue5
  infoByte := by kernel_rfl
  cellsByte := by kernel_rfl
  sizeByte := by kernel_rfl
  neB5 := by decide }
open Go.RowKit in
/-- No element: the empty string; the world is as it was. (Whatever the slice's address and capacity: a nil slice too.) (LAID: no walk: one application.) -/
theorem Tryz.strings_Join_none (a : Option Addr) (c : Nat) (sep : ByteArray) (w : World) :
    Calls Tryz.prog 121 #[.slice a 0 c, .string sep] w fun e w' => e = .returned (.string ⟨#[]⟩) ∧ w' = w := Any.strings_Join_none Tryz.lays156 Tryz.Builder_Extra_156 a c sep w
open Go.RowKit in
/-- strings.Join: "Join concatenates the elements of its first argument to create a single string. The separator string sep is placed between elements in the resulting string.": HOWEVER MANY ELEMENTS. Below the heap's end the world is as it was. (LAID: no walk: one application.) -/
theorem Tryz.strings_Join (bk o c : Nat) (xs : List ByteArray) (sep : ByteArray) (w : World) (hcells : ∀ (j : Nat) x, xs[j]? = some x → w.cell? ⟨bk, o + j, none⟩ = some (.string x)) (hbk : bk < w.heap.size) (hN : xs.length ≤ 140737488355328) (hcap : xs.length ≤ c) (hlen : (Lib.join (xs.map (·.data.toList)) sep.data.toList).length ≤ 140737488355328) :
    Calls Tryz.prog 121 #[.slice (some ⟨bk, o, none⟩) xs.length c, .string sep] w fun e w' => e = .returned (.string ⟨(Lib.join (xs.map (·.data.toList)) sep.data.toList).toArray⟩) ∧ Below w.heap.size w w' := Any.strings_Join Tryz.lays156 Tryz.Builder_Extra_156 bk o c xs sep w hcells hbk hN hcap hlen
def Tryz.lays146_ren : Go.Shelf.Ren := ⟨fun | 146 => 244 | 221 => 247 | 268 => 252 | 138 => 253 | 143 => 254 | 195 => 259 | 197 => 260 | 218 => 261 | 219 => 262 | 260 => 265 | 217 => 266 | 225 => 267 | 224 => 268 | 267 => 269 | 266 => 270 | 314 => 271 | n => n, fun | 9 => 9 | 31 => 81 | 3 => 3 | 4 => 4 | 0 => 0 | 105 => 300 | 21 => 21 | 5 => 5 | 46 => 181 | 119 => 305 | 139 => 308 | 138 => 307 | 146 => 309 | 51 => 241 | n => n, fun | 1 => 0 | 3 => 4 | 4 => 5 | n => n⟩
theorem Tryz.lays146 : Go.Proofs.Lays.n146 Tryz.prog Tryz.lays146_ren := {
  mixed := by kernel_rfl
  f138 := Tryz.func253.trans (congrArg some (by kernel_rfl))
  f143 := Tryz.func254.trans (congrArg some (by kernel_rfl))
  f146 := Tryz.func244.trans (congrArg some (by kernel_rfl))
  f195 := Tryz.func259.trans (congrArg some (by kernel_rfl))
  f197 := Tryz.func260.trans (congrArg some (by kernel_rfl))
  f217 := Tryz.func266.trans (congrArg some (by kernel_rfl))
  f218 := Tryz.func261.trans (congrArg some (by kernel_rfl))
  f219 := Tryz.func262.trans (congrArg some (by kernel_rfl))
  f221 := Tryz.func247.trans (congrArg some (by kernel_rfl))
  f224 := Tryz.func268.trans (congrArg some (by kernel_rfl))
  f225 := Tryz.func267.trans (congrArg some (by kernel_rfl))
  f260 := Tryz.func265.trans (congrArg some (by kernel_rfl))
  f266 := Tryz.func270.trans (congrArg some (by kernel_rfl))
  f267 := Tryz.func269.trans (congrArg some (by kernel_rfl))
  f268 := Tryz.func252.trans (congrArg some (by kernel_rfl))
  f314 := Tryz.func271.trans (congrArg some (by kernel_rfl))
  t0 := Tryz.underlying0
  a0 := Tryz.isAgg0
  z0 := Tryz.sizeOf0
  v0 := Tryz.zeroValue0
  t3 := Tryz.underlying3
  a3 := Tryz.isAgg3
  z3 := Tryz.sizeOf3
  v3 := Tryz.zeroValue3
  t4 := Tryz.underlying4
  a4 := Tryz.isAgg4
  z4 := Tryz.sizeOf4
  v4 := Tryz.zeroValue4
  t5 := Tryz.underlying5
  a5 := Tryz.isAgg5
  z5 := Tryz.sizeOf5
  v5 := Tryz.zeroValue5
  t9 := Tryz.underlying9
  a9 := Tryz.isAgg9
  z9 := Tryz.sizeOf9
  v9 := Tryz.zeroValue9
  t21 := Tryz.underlying21
  a21 := Tryz.isAgg21
  z21 := Tryz.sizeOf21
  v21 := Tryz.zeroValue21
  t31 := Tryz.underlying81
  a31 := Tryz.isAgg81
  z31 := Tryz.sizeOf81
  v31 := Tryz.zeroValue81
  t46 := Tryz.underlying181
  a46 := Tryz.isAgg181
  z46 := Tryz.sizeOf181
  v46 := Tryz.zeroValue181
  t51 := Tryz.underlying241
  a51 := Tryz.isAgg241
  z51 := Tryz.sizeOf241
  v51 := Tryz.zeroValue241
  t105 := Tryz.underlying300
  a105 := Tryz.isAgg300
  z105 := Tryz.sizeOf300
  v105 := Tryz.zeroValue300
  t119 := Tryz.underlying305
  a119 := Tryz.isAgg305
  z119 := Tryz.sizeOf305
  t138 := Tryz.underlying307
  a138 := Tryz.isAgg307
  z138 := Tryz.sizeOf307
  v138 := Tryz.zeroValue307
  t139 := Tryz.underlying308
  a139 := Tryz.isAgg308
  z139 := Tryz.sizeOf308
  v139 := Tryz.zeroValue308
  t146 := Tryz.underlying309
  a146 := Tryz.isAgg309
  z146 := Tryz.sizeOf309
  v146 := Tryz.zeroValue309
  g1 := by kernel_rfl
  g3 := by kernel_rfl
  g4 := by kernel_rfl }
open Go.RowKit Go.Lib in
/-- strings.Split. (LAID: no walk: one application.) -/
theorem Tryz.strings_Split (s sep : ByteArray) (m : Int) (w : World) (hs : s.size < 4294967281) (hm : w.cell? ⟨0, 0, none⟩ = some (.int .i64 m)) (h1 : 1 ≤ sep.size) :
    Calls Tryz.prog 244 #[.string s, .string sep] w fun e w' =>
      e = .returned (.slice (some ⟨w.heap.size, 0, none⟩) (Lib.countB s sep + 1) (Lib.countB s sep + 1)) ∧ w' = w.alloc (.cells ((Lib.splitB sep 0 (Lib.countB s sep) s).map Value.string).toArray 9) := Any.strings_Split Tryz.lays146 (by kernel_rfl) s sep m w hs hm h1
end Go.Proofs
