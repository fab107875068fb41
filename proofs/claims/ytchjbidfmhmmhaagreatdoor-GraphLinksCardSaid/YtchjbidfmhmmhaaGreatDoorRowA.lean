/- Own work: the zaL machine and what it shows, part RowA. -/
import Derived.Test.YtchjbidfmhmmhaaGreatDoorCo
import Derived.Test.YtchjbidfmhmmhaaGreatDoorRowC
set_option linter.all false
namespace Go.Proofs.YtchjbidfmhmmhaaGreatDoor
open Go.Sh Go.ChangeShapes Go.WideShapes Go.ChangeAt Go.RowKit
set_option maxRecDepth 100000
abbrev zCR:Shape := .row [.int .i64,.str,.str,.str,.str]
abbrev zzE:Shape := .row [.int .i64,.int .i64,.str]
abbrev zzF:Shape := .row [.int .i64,.int .i64]
abbrev zCs:Shape := .row (List.replicate 16 (.int .i64))
abbrev zAU:Shape := .row [zzF,zCs,.int .i64,zCR,zzE]
theorem zbm {s:Shape} {ss:List Shape} {c:List GV} (h:Fits (.row (s :: ss)) c):∃ a b,c = a ++ b ∧ Fits s a ∧ Fits (.row ss) b := by
  cases h with
  | rcons _ _ a b h1 h2 => exact ⟨a,b,rfl,h1,h2⟩
theorem zhm {c:List GV} (h:Fits (.row []) c):c = [] := by cases h; rfl
theorem zeX {c:List GV} (h:Fits (.int .i64) c):∃ n:Int,c = [.int .i64 n] ∧ -9223372036854775808 ≤ n ∧ n ≤ 9223372036854775807 := by
  cases h with
  | int _ n hn =>
    simp [IntKind.min,IntKind.max,IntKind.signed,IntKind.bits] at hn
    exact ⟨n,rfl,hn.1,hn.2⟩
theorem zgd {c:List GV} (h:Fits .str c):∃ t:List UInt8,c = [.str (mkB t)] ∧ t.length ≤ 1125899906842624 := by
  cases h with
  | str s hs =>
    refine ⟨s.data.toList,by rw [zgt], ?_⟩
    rw [zxH] at hs; unfold ze8 at hs; omega
theorem zuI {c:List GV} (h:Fits zCR c):∃ x:El,c = elC x ∧ ElBig x ∧ ElRange x := by
  obtain ⟨a1,b1,rfl,f1,g1⟩ := zbm h
  obtain ⟨a2,b2,rfl,f2,g2⟩ := zbm g1
  obtain ⟨a3,b3,rfl,f3,g3⟩ := zbm g2
  obtain ⟨a4,b4,rfl,f4,g4⟩ := zbm g3
  obtain ⟨a5,b5,rfl,f5,g5⟩ := zbm g4
  obtain rfl := zhm g5
  obtain ⟨k,rfl,k1,k2⟩ := zeX f1
  obtain ⟨a,rfl,ha⟩ := zgd f2
  obtain ⟨b,rfl,hb⟩ := zgd f3
  obtain ⟨c,rfl,hc⟩ := zgd f4
  obtain ⟨d,rfl,hd⟩ := zgd f5
  exact ⟨⟨k,a,b,c,d⟩,rfl,⟨ha,hb,hc,hd⟩,⟨k1,k2⟩⟩
theorem zrB {c:List GV} (h:Fits zzE c):∃ (k n:Int) (t:List UInt8),c = [.int .i64 k,.int .i64 n,.str (mkB t)] ∧ (-9223372036854775808 ≤ n ∧ n ≤ 9223372036854775807) ∧ t.length ≤ 1125899906842624 := by
  obtain ⟨a1,b1,rfl,f1,g1⟩ := zbm h
  obtain ⟨a2,b2,rfl,f2,g2⟩ := zbm g1
  obtain ⟨a3,b3,rfl,f3,g3⟩ := zbm g2
  obtain rfl := zhm g3
  obtain ⟨k,rfl,k1,k2⟩ := zeX f1
  obtain ⟨n,rfl,n1,n2⟩ := zeX f2
  obtain ⟨t,rfl,ht⟩ := zgd f3
  exact ⟨k,n,t,rfl,⟨n1,n2⟩,ht⟩
theorem zrC {c:List GV} (h:Fits zzF c):∃ r n:Int,c = [.int .i64 r,.int .i64 n] := by
  obtain ⟨a1,b1,rfl,f1,g1⟩ := zbm h
  obtain ⟨a2,b2,rfl,f2,g2⟩ := zbm g1
  obtain rfl := zhm g2
  obtain ⟨k,rfl,_⟩ := zeX f1
  obtain ⟨n,rfl,_⟩ := zeX f2
  exact ⟨k,n,rfl⟩
theorem ziN:∀ (m:Nat) {c:List GV},Fits (.row (List.replicate m (.int .i64))) c → ∃ l:List Int,c = l.map (fun n => GV.int .i64 n) ∧ l.length = m
  | 0,c,h => ⟨[],zhm h,rfl⟩
  | m + 1,c,h => by
    obtain ⟨a,b,rfl,f,g⟩ := zbm h
    obtain ⟨n,rfl,_⟩ := zeX f
    obtain ⟨l,rfl,hl⟩ := ziN m g
    exact ⟨n :: l,rfl,by simp [hl]⟩
theorem zwR {c:List GV} (h:Fits zAU c):∃ e:Evt,mkG zAU c = evG e ∧ EvIn e := by
  obtain ⟨a1,b1,rfl,f1,g1⟩ := zbm h
  obtain ⟨a2,b2,rfl,f2,g2⟩ := zbm g1
  obtain ⟨a3,b3,rfl,f3,g3⟩ := zbm g2
  obtain ⟨a4,b4,rfl,f4,g4⟩ := zbm g3
  obtain ⟨a5,b5,rfl,f5,g5⟩ := zbm g4
  obtain rfl := zhm g5
  obtain ⟨r,n,rfl⟩ := zrC f1
  obtain ⟨l,rfl,hl⟩ := ziN 16 f2
  obtain ⟨op,rfl,_⟩ := zeX f3
  obtain ⟨x,rfl,hx,hr⟩ := zuI f4
  obtain ⟨k,m,t,rfl,hm,ht⟩ := zrB f5
  exact ⟨⟨r,n,l,op,x,k,m,t⟩,rfl,⟨⟨hl,hx,ht⟩,hm.1,hm.2⟩⟩
end Go.Proofs.YtchjbidfmhmmhaaGreatDoor
