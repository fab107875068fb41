/- Own work: the zaO machine and what it shows, part RowA. -/
import Derived.Test.YtchjbidfmhmmhaaGreatDoorCo
import Derived.Test.YtchjbidfmhmmhaaGreatDoorRowC
set_option linter.all false
namespace Go.Proofs.YtchjbidfmhmmhaaGreatDoor
open Go.Sh Go.ChangeShapes Go.WideShapes Go.ChangeAt Go.RowKit
set_option maxRecDepth 100000
abbrev zGx:Shape:=.row [.int .i64,.str,.str,.str,.str]
abbrev zC8:Shape:=.row [.int .i64,.int .i64,.str]
abbrev zC9:Shape:=.row [.int .i64,.int .i64]
abbrev zF9:Shape:=.row (List.replicate 16 (.int .i64))
abbrev zEm:Shape:=.row [zC9,zF9,.int .i64,zGx,zC8]
theorem zby {s:Shape} {ss:List Shape} {c:List GV} (h:Fits (.row (s::ss)) c):∃ a b,c=a++b∧Fits s a∧Fits (.row ss) b:=by
 cases h with
 | rcons _ _ a b h1 h2=>exact ⟨a,b,rfl,h1,h2⟩
theorem zis {c:List GV} (h:Fits (.row []) c):c=[]:=by cases h; rfl
theorem zfO {c:List GV} (h:Fits (.int .i64) c):∃ n:Int,c=[.int .i64 n]∧-9223372036854775808≤n∧n≤9223372036854775807:=by
 cases h with
 | int _ n hn =>
  simp [IntKind.min,IntKind.max,IntKind.signed,IntKind.bits] at hn
  exact ⟨n,rfl,hn.1,hn.2⟩
theorem zit {c:List GV} (h:Fits .str c):∃ t:List UInt8,c=[.str (mkB t)]∧t.length≤1125899906842624:=by
 cases h with
 | str s hs =>
  refine ⟨s.data.toList,by rw [zhn], ?_⟩
  rw [bs_size] at hs; unfold zf0 at hs; omega
theorem zxL {c:List GV} (h:Fits zGx c):∃ x:El,c=elC x∧ElBig x∧ElRange x:=by
 obtain ⟨a1,b1,rfl,f1,g1⟩:=zby h
 obtain ⟨a2,b2,rfl,f2,g2⟩:=zby g1
 obtain ⟨a3,b3,rfl,f3,g3⟩:=zby g2
 obtain ⟨a4,b4,rfl,f4,g4⟩:=zby g3
 obtain ⟨a5,b5,rfl,f5,g5⟩:=zby g4
 obtain rfl:=zis g5
 obtain ⟨k,rfl,k1,k2⟩:=zfO f1
 obtain ⟨a,rfl,ha⟩:=zit f2
 obtain ⟨b,rfl,hb⟩:=zit f3
 obtain ⟨c,rfl,hc⟩:=zit f4
 obtain ⟨d,rfl,hd⟩:=zit f5
 exact ⟨⟨k,a,b,c,d⟩,rfl,⟨ha,hb,hc,hd⟩,⟨k1,k2⟩⟩
theorem zuE {c:List GV} (h:Fits zC8 c):∃ (k n:Int) (t:List UInt8),c=[.int .i64 k,.int .i64 n,.str (mkB t)]∧(-9223372036854775808≤n∧n≤9223372036854775807)∧t.length≤1125899906842624:=by
 obtain ⟨a1,b1,rfl,f1,g1⟩:=zby h
 obtain ⟨a2,b2,rfl,f2,g2⟩:=zby g1
 obtain ⟨a3,b3,rfl,f3,g3⟩:=zby g2
 obtain rfl:=zis g3
 obtain ⟨k,rfl,k1,k2⟩:=zfO f1
 obtain ⟨n,rfl,n1,n2⟩:=zfO f2
 obtain ⟨t,rfl,ht⟩:=zit f3
 exact ⟨k,n,t,rfl,⟨n1,n2⟩,ht⟩
theorem zuF {c:List GV} (h:Fits zC9 c):∃ r n:Int,c=[.int .i64 r,.int .i64 n]:=by
 obtain ⟨a1,b1,rfl,f1,g1⟩:=zby h
 obtain ⟨a2,b2,rfl,f2,g2⟩:=zby g1
 obtain rfl:=zis g2
 obtain ⟨k,rfl,_⟩:=zfO f1
 obtain ⟨n,rfl,_⟩:=zfO f2
 exact ⟨k,n,rfl⟩
theorem zkb:∀ (m:Nat) {c:List GV},Fits (.row (List.replicate m (.int .i64))) c→∃ l:List Int,c=l.map (fun n=>GV.int .i64 n)∧l.length=m
 | 0,c,h=>⟨[],zis h,rfl⟩
 | m+1,c,h=>by
  obtain ⟨a,b,rfl,f,g⟩:=zby h
  obtain ⟨n,rfl,_⟩:=zfO f
  obtain ⟨l,rfl,hl⟩:=zkb m g
  exact ⟨n::l,rfl,by simp [hl]⟩
theorem zAa {c:List GV} (h:Fits zEm c):∃ e:Evt,mkG zEm c=evG e∧EvIn e:=by
 obtain ⟨a1,b1,rfl,f1,g1⟩:=zby h
 obtain ⟨a2,b2,rfl,f2,g2⟩:=zby g1
 obtain ⟨a3,b3,rfl,f3,g3⟩:=zby g2
 obtain ⟨a4,b4,rfl,f4,g4⟩:=zby g3
 obtain ⟨a5,b5,rfl,f5,g5⟩:=zby g4
 obtain rfl:=zis g5
 obtain ⟨r,n,rfl⟩:=zuF f1
 obtain ⟨l,rfl,hl⟩:=zkb 16 f2
 obtain ⟨op,rfl,_⟩:=zfO f3
 obtain ⟨x,rfl,hx,hr⟩:=zxL f4
 obtain ⟨k,m,t,rfl,hm,ht⟩:=zuE f5
 exact ⟨⟨r,n,l,op,x,k,m,t⟩,rfl,⟨⟨hl,hx,ht⟩,hm.1,hm.2⟩⟩
end Go.Proofs.YtchjbidfmhmmhaaGreatDoor
