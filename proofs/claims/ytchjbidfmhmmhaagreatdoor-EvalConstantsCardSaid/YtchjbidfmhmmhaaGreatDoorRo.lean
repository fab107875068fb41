/- Own work: the zaH machine and what it shows, part Ro. -/
import Derived.Test.YtchjbidfmhmmhaaGreatDoorDo
set_option linter.all false
namespace Go.Proofs.YtchjbidfmhmmhaaGreatDoor
open Go.Sh
set_option maxHeartbeats 4000000
set_option maxRecDepth 100000
section
variable {e:Evt} (hp:e.past.length = 16)
include hp
end
structure ElBig (x:El):Prop where
  a:x.a.length ≤ 1125899906842624
  b:x.b.length ≤ 1125899906842624
  c:x.c.length ≤ 1125899906842624
  d:x.d.length ≤ 1125899906842624
structure EvBig (e:Evt):Prop where
  past:e.past.length = 16
  x:ElBig e.x
  t:e.vt.length ≤ 1125899906842624
def zys (x:El):Nat := x.a.length + x.b.length + x.c.length + x.d.length
end Go.Proofs.YtchjbidfmhmmhaaGreatDoor
namespace Go.Proofs.YtchjbidfmhmmhaaGreatDoor
open Go.Sh
set_option maxHeartbeats 4000000
set_option maxRecDepth 100000
def leB (p v:List Int) (n:Nat):Bool := (List.range n).all fun k => decide (zjn p k ≤ zjn v k)
def zlo (v:List Int) (e:Evt):Bool := evB e && (decide (zjn v e.r = e.c - 1) && leB e.past v 16)
def zBj (s:List Evt × List Int) (e:Evt):List Evt × List Int := if zlo s.2 e then (s.1 ++ [e],s.2.set e.r.toNat e.c) else s
def zfW:List Int := [0,0,0,0,0,0,0,0,0,0,0,0,0,0,0,0]
def zBP (E:List Evt):List Evt × List Int := E.foldl zBj ([],zfW)
theorem zvB {e:Evt} (h:evB e = true):0 ≤ e.r ∧ e.r < 16 ∧ 1 ≤ e.c ∧ e.c ≤ 1048576 := by
  simp only [evB,zm4,zir,Bool.and_eq_true,decide_eq_true_eq] at h
  exact h.1.1.1
theorem znz {α β:Type} (f:β → α → β) (b:β) (l:List α) (i:Nat) (x:α) (h:l[i]? = some x):(l.take (i + 1)).foldl f b = f ((l.take i).foldl f b) x := by
  rw [List.take_add_one,h]; simp
end Go.Proofs.YtchjbidfmhmmhaaGreatDoor
