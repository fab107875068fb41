/- Own work: the zaM machine and what it shows, part RowC. -/
import Derived.Test.YtchjbidfmhmmhaaGreatDoorAl
import Derived.Test.YtchjbidfmhmmhaaGreatDoorShF
import Derived.Test.YtchjbidfmhmmhaaGreatDoorTie
import Derived.Test.YtchjbidfmhmmhaaGreatDoorCards
import Derived.LaidMore
import Derived.Lay
import Derived.SevenTiedAt
import Derived.Stop.Joined
import Derived.HandedShaped
set_option linter.all false
namespace Go.Proofs.YtchjbidfmhmmhaaGreatDoor
open Go.Sh Go.ChangeShapes Go.WideShapes Go.ChangeAt Go.RowKit
set_option maxRecDepth 100000
theorem zA3:ownKnob Tryz.prog.godebug=none:=by kernel_rfl
theorem zHC:laidOutB Tryz.prog=true:=by kernel_rfl
theorem zEy:Tryz.prog.follows .mixedOrders=true:=by kernel_rfl
theorem zuQ {w w':World} {g o:Nat} (h:w'.heap[g]?=w.heap[g]?):w'.cell? ⟨g,o,none⟩=w.cell? ⟨g,o,none⟩:=by simp [World.cell?,h]
theorem zyw {W:World} {Q:Prop} (_:Q) (hS:W.ShapedOpen Tryz.prog):∀ w':World,(∀ b,b<W.heap.size→w'.heap[b]?=W.heap[b]?)→Facts.D w':=by
 intro w' hw
 obtain ⟨m,hm⟩:=cell_of_shapedOpen_int (P:=Tryz.prog) (g:=0) (k:=.i64) (zero := #[.int .i64 0]) (t:=3) hS (of_decide_eq_true (by kernel_rfl)) (by kernel_rfl) rfl (by kernel_rfl) (by kernel_rfl) Tryz.underlying3
 have hsz:0<W.heap.size:=by
  rcases Nat.lt_or_ge 0 W.heap.size with h | h
  ·exact h
  ·have:W.heap[0]?=none:=Array.getElem?_eq_none h
   simp [World.cell?,this] at hm
 exact ⟨m,(zuQ (hw 0 hsz)).trans hm⟩
end Go.Proofs.YtchjbidfmhmmhaaGreatDoor
