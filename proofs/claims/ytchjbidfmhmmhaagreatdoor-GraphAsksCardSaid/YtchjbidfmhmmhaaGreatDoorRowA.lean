/- Own work: the zaN machine and what it shows, part RowA. -/
import Derived.Test.YtchjbidfmhmmhaaGreatDoorCo
import Derived.Test.YtchjbidfmhmmhaaGreatDoorRowC
set_option linter.all false
namespace Go.Proofs.YtchjbidfmhmmhaaGreatDoor
open Go.Sh Go.ChangeShapes Go.WideShapes Go.ChangeAt Go.RowKit
set_option maxRecDepth 100000
abbrev zB0:Shape:=.row [.int .i64,.str,.str,.str,.str]
abbrev zAK:Shape:=.row [.int .i64,.int .i64,.str]
abbrev zAL:Shape:=.row [.int .i64,.int .i64]
abbrev zDG:Shape:=.row (List.replicate 16 (.int .i64))
abbrev zB1:Shape:=.row [zAL,zDG,.int .i64,zB0,zAK]
theorem za9 {s:Shape} {ss:List Shape} {c:List GV} (h:Fits (.row (s::ss)) c):∃ a b,c=a++b∧Fits s a∧Fits (.row ss) b:=by
  cases h with
  | rcons _ _ a b h1 h2=>exact ⟨a,b,rfl,h1,h2⟩
theorem zgw {c:List GV} (h:Fits (.row []) c):c=[]:=by cases h; rfl
theorem zfb {c:List GV} (h:Fits (.int .i64) c):∃ n:Int,c=[.int .i64 n]∧-9223372036854775808≤n∧n≤9223372036854775807:=by
  cases h with
  | int _ n hn =>
    simp [IntKind.min,IntKind.max,IntKind.signed,IntKind.bits] at hn
    exact ⟨n,rfl,hn.1,hn.2⟩
theorem zdy {c:List GV} (h:Fits .str c):∃ t:List UInt8,c=[.str (mkB t)]∧t.length≤1125899906842624:=by
  cases h with
  | str s hs =>
    refine ⟨s.data.toList,by rw [zgK], ?_⟩
    rw [zyF] at hs; unfold zfm at hs; omega
theorem znT {c:List GV} (h:Fits zB0 c):∃ x:El,c=elC x∧ElBig x∧ElRange x:=by
  obtain ⟨a1,b1,rfl,f1,g1⟩:=za9 h
  obtain ⟨a2,b2,rfl,f2,g2⟩:=za9 g1
  obtain ⟨a3,b3,rfl,f3,g3⟩:=za9 g2
  obtain ⟨a4,b4,rfl,f4,g4⟩:=za9 g3
  obtain ⟨a5,b5,rfl,f5,g5⟩:=za9 g4
  obtain rfl:=zgw g5
  obtain ⟨k,rfl,k1,k2⟩:=zfb f1
  obtain ⟨a,rfl,ha⟩:=zdy f2
  obtain ⟨b,rfl,hb⟩:=zdy f3
  obtain ⟨c,rfl,hc⟩:=zdy f4
  obtain ⟨d,rfl,hd⟩:=zdy f5
  exact ⟨⟨k,a,b,c,d⟩,rfl,⟨ha,hb,hc,hd⟩,⟨k1,k2⟩⟩
theorem zsq {c:List GV} (h:Fits zAK c):∃ (k n:Int) (t:List UInt8),c=[.int .i64 k,.int .i64 n,.str (mkB t)]∧(-9223372036854775808≤n∧n≤9223372036854775807)∧t.length≤1125899906842624:=by
  obtain ⟨a1,b1,rfl,f1,g1⟩:=za9 h
  obtain ⟨a2,b2,rfl,f2,g2⟩:=za9 g1
  obtain ⟨a3,b3,rfl,f3,g3⟩:=za9 g2
  obtain rfl:=zgw g3
  obtain ⟨k,rfl,k1,k2⟩:=zfb f1
  obtain ⟨n,rfl,n1,n2⟩:=zfb f2
  obtain ⟨t,rfl,ht⟩:=zdy f3
  exact ⟨k,n,t,rfl,⟨n1,n2⟩,ht⟩
theorem zsr {c:List GV} (h:Fits zAL c):∃ r n:Int,c=[.int .i64 r,.int .i64 n]:=by
  obtain ⟨a1,b1,rfl,f1,g1⟩:=za9 h
  obtain ⟨a2,b2,rfl,f2,g2⟩:=za9 g1
  obtain rfl:=zgw g2
  obtain ⟨k,rfl,_⟩:=zfb f1
  obtain ⟨n,rfl,_⟩:=zfb f2
  exact ⟨k,n,rfl⟩
theorem zjb:∀ (m:Nat) {c:List GV},Fits (.row (List.replicate m (.int .i64))) c→∃ l:List Int,c=l.map (fun n=>GV.int .i64 n)∧l.length=m
  | 0,c,h=>⟨[],zgw h,rfl⟩
  | m+1,c,h=>by
    obtain ⟨a,b,rfl,f,g⟩:=za9 h
    obtain ⟨n,rfl,_⟩:=zfb f
    obtain ⟨l,rfl,hl⟩:=zjb m g
    exact ⟨n::l,rfl,by simp [hl]⟩
theorem zxP {c:List GV} (h:Fits zB1 c):∃ e:Evt,mkG zB1 c=evG e∧EvIn e:=by
  obtain ⟨a1,b1,rfl,f1,g1⟩:=za9 h
  obtain ⟨a2,b2,rfl,f2,g2⟩:=za9 g1
  obtain ⟨a3,b3,rfl,f3,g3⟩:=za9 g2
  obtain ⟨a4,b4,rfl,f4,g4⟩:=za9 g3
  obtain ⟨a5,b5,rfl,f5,g5⟩:=za9 g4
  obtain rfl:=zgw g5
  obtain ⟨r,n,rfl⟩:=zsr f1
  obtain ⟨l,rfl,hl⟩:=zjb 16 f2
  obtain ⟨op,rfl,_⟩:=zfb f3
  obtain ⟨x,rfl,hx,hr⟩:=znT f4
  obtain ⟨k,m,t,rfl,hm,ht⟩:=zsq f5
  exact ⟨⟨r,n,l,op,x,k,m,t⟩,rfl,⟨⟨hl,hx,ht⟩,hm.1,hm.2⟩⟩
end Go.Proofs.YtchjbidfmhmmhaaGreatDoor
