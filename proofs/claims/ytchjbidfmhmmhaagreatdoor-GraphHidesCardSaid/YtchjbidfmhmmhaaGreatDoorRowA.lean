/- Own work: the zaG machine and what it shows, part RowA. -/
import Derived.Test.YtchjbidfmhmmhaaGreatDoorCo
import Derived.Test.YtchjbidfmhmmhaaGreatDoorRowC
set_option linter.all false
namespace Go.Proofs.YtchjbidfmhmmhaaGreatDoor
open Go.Sh Go.ChangeShapes Go.WideShapes Go.ChangeAt Go.RowKit
set_option maxRecDepth 100000
abbrev zDQ:Shape:=.row [.int .i64,.str,.str,.str,.str]
abbrev zAG:Shape:=.row [.int .i64,.int .i64,.str]
abbrev zAH:Shape:=.row [.int .i64,.int .i64]
abbrev zDs:Shape:=.row (List.replicate 16 (.int .i64))
abbrev zBS:Shape:=.row [zAH,zDs,.int .i64,zDQ,zAG]
theorem zbq {s:Shape} {ss:List Shape} {c:List GV} (h:Fits (.row (s::ss)) c):∃ a b,c=a++b∧Fits s a∧Fits (.row ss) b:=by
 cases h with
 | rcons _ _ a b h1 h2=>exact ⟨a,b,rfl,h1,h2⟩
theorem zhI {c:List GV} (h:Fits (.row []) c):c=[]:=by cases h; rfl
theorem ze7 {c:List GV} (h:Fits (.int .i64) c):∃ n:Int,c=[.int .i64 n]∧-9223372036854775808≤n∧n≤9223372036854775807:=by
 cases h with
 | int _ n hn =>
  simp [IntKind.min,IntKind.max,IntKind.signed,IntKind.bits] at hn
  exact ⟨n,rfl,hn.1,hn.2⟩
theorem zgq {c:List GV} (h:Fits .str c):∃ t:List UInt8,c=[.str (mkB t)]∧t.length≤1125899906842624:=by
 cases h with
 | str s hs =>
  refine ⟨s.data.toList,by rw [zgF], ?_⟩
  rw [bs_size] at hs; unfold zfj at hs; omega
theorem zvG {c:List GV} (h:Fits zDQ c):∃ x:El,c=elC x∧ElBig x∧ElRange x:=by
 obtain ⟨a1,b1,rfl,f1,g1⟩:=zbq h
 obtain ⟨a2,b2,rfl,f2,g2⟩:=zbq g1
 obtain ⟨a3,b3,rfl,f3,g3⟩:=zbq g2
 obtain ⟨a4,b4,rfl,f4,g4⟩:=zbq g3
 obtain ⟨a5,b5,rfl,f5,g5⟩:=zbq g4
 obtain rfl:=zhI g5
 obtain ⟨k,rfl,k1,k2⟩:=ze7 f1
 obtain ⟨a,rfl,ha⟩:=zgq f2
 obtain ⟨b,rfl,hb⟩:=zgq f3
 obtain ⟨c,rfl,hc⟩:=zgq f4
 obtain ⟨d,rfl,hd⟩:=zgq f5
 exact ⟨⟨k,a,b,c,d⟩,rfl,⟨ha,hb,hc,hd⟩,⟨k1,k2⟩⟩
theorem zss {c:List GV} (h:Fits zAG c):∃ (k n:Int) (t:List UInt8),c=[.int .i64 k,.int .i64 n,.str (mkB t)]∧(-9223372036854775808≤n∧n≤9223372036854775807)∧t.length≤1125899906842624:=by
 obtain ⟨a1,b1,rfl,f1,g1⟩:=zbq h
 obtain ⟨a2,b2,rfl,f2,g2⟩:=zbq g1
 obtain ⟨a3,b3,rfl,f3,g3⟩:=zbq g2
 obtain rfl:=zhI g3
 obtain ⟨k,rfl,k1,k2⟩:=ze7 f1
 obtain ⟨n,rfl,n1,n2⟩:=ze7 f2
 obtain ⟨t,rfl,ht⟩:=zgq f3
 exact ⟨k,n,t,rfl,⟨n1,n2⟩,ht⟩
theorem zst {c:List GV} (h:Fits zAH c):∃ r n:Int,c=[.int .i64 r,.int .i64 n]:=by
 obtain ⟨a1,b1,rfl,f1,g1⟩:=zbq h
 obtain ⟨a2,b2,rfl,f2,g2⟩:=zbq g1
 obtain rfl:=zhI g2
 obtain ⟨k,rfl,_⟩:=ze7 f1
 obtain ⟨n,rfl,_⟩:=ze7 f2
 exact ⟨k,n,rfl⟩
theorem zje:∀ (m:Nat) {c:List GV},Fits (.row (List.replicate m (.int .i64))) c→∃ l:List Int,c=l.map (fun n=>GV.int .i64 n)∧l.length=m
 | 0,c,h=>⟨[],zhI h,rfl⟩
 | m+1,c,h=>by
  obtain ⟨a,b,rfl,f,g⟩:=zbq h
  obtain ⟨n,rfl,_⟩:=ze7 f
  obtain ⟨l,rfl,hl⟩:=zje m g
  exact ⟨n::l,rfl,by simp [hl]⟩
theorem zxW {c:List GV} (h:Fits zBS c):∃ e:Evt,mkG zBS c=evG e∧EvIn e:=by
 obtain ⟨a1,b1,rfl,f1,g1⟩:=zbq h
 obtain ⟨a2,b2,rfl,f2,g2⟩:=zbq g1
 obtain ⟨a3,b3,rfl,f3,g3⟩:=zbq g2
 obtain ⟨a4,b4,rfl,f4,g4⟩:=zbq g3
 obtain ⟨a5,b5,rfl,f5,g5⟩:=zbq g4
 obtain rfl:=zhI g5
 obtain ⟨r,n,rfl⟩:=zst f1
 obtain ⟨l,rfl,hl⟩:=zje 16 f2
 obtain ⟨op,rfl,_⟩:=ze7 f3
 obtain ⟨x,rfl,hx,hr⟩:=zvG f4
 obtain ⟨k,m,t,rfl,hm,ht⟩:=zss f5
 exact ⟨⟨r,n,l,op,x,k,m,t⟩,rfl,⟨⟨hl,hx,ht⟩,hm.1,hm.2⟩⟩
end Go.Proofs.YtchjbidfmhmmhaaGreatDoor
