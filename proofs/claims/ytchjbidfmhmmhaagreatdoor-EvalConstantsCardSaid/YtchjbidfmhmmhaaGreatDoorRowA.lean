/- Own work: the zaH machine and what it shows, part RowA. -/
import Derived.Test.YtchjbidfmhmmhaaGreatDoorCo
import Derived.Test.YtchjbidfmhmmhaaGreatDoorRowC
set_option linter.all false
namespace Go.Proofs.YtchjbidfmhmmhaaGreatDoor
open Go.Sh Go.ChangeShapes Go.WideShapes Go.ChangeAt Go.RowKit
set_option maxRecDepth 100000
abbrev zvC:Shape := .row [.int .i64,.int .i64,.str]
theorem zbZ {s:Shape} {ss:List Shape} {c:List GV} (h:Fits (.row (s :: ss)) c):∃ a b,c = a ++ b ∧ Fits s a ∧ Fits (.row ss) b := by
  cases h with
  | rcons _ _ a b h1 h2 => exact ⟨a,b,rfl,h1,h2⟩
theorem zlp {c:List GV} (h:Fits (.row []) c):c = [] := by cases h; rfl
theorem zfz {c:List GV} (h:Fits (.int .i64) c):∃ n:Int,c = [.int .i64 n] ∧ -9223372036854775808 ≤ n ∧ n ≤ 9223372036854775807 := by
  cases h with
  | int _ n hn =>
    simp [IntKind.min,IntKind.max,IntKind.signed,IntKind.bits] at hn
    exact ⟨n,rfl,hn.1,hn.2⟩
theorem ziN {c:List GV} (h:Fits .str c):∃ t:List UInt8,c = [.str (mkB t)] ∧ t.length ≤ 1125899906842624 := by
  cases h with
  | str s hs =>
    refine ⟨s.data.toList,by rw [zfM], ?_⟩
    rw [zws] at hs; unfold zeE at hs; omega
theorem zjM {c:List GV} (h:Fits zvC c):∃ (k n:Int) (t:List UInt8),c = [.int .i64 k,.int .i64 n,.str (mkB t)] ∧ (-9223372036854775808 ≤ n ∧ n ≤ 9223372036854775807) ∧ t.length ≤ 1125899906842624 := by
  obtain ⟨a1,b1,rfl,f1,g1⟩ := zbZ h
  obtain ⟨a2,b2,rfl,f2,g2⟩ := zbZ g1
  obtain ⟨a3,b3,rfl,f3,g3⟩ := zbZ g2
  obtain rfl := zlp g3
  obtain ⟨k,rfl,k1,k2⟩ := zfz f1
  obtain ⟨n,rfl,n1,n2⟩ := zfz f2
  obtain ⟨t,rfl,ht⟩ := ziN f3
  exact ⟨k,n,t,rfl,⟨n1,n2⟩,ht⟩
end Go.Proofs.YtchjbidfmhmmhaaGreatDoor
