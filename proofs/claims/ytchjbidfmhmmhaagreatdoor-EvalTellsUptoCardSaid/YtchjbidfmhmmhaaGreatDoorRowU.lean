/- Own work: the zaM machine and what it shows, part RowU. -/
import Derived.Test.YtchjbidfmhmmhaaGreatDoorRowC
import Derived.Deep.DeepHandedRow
import Derived.Test.YtchjbidfmhmmhaaGreatDoorRowA
import Derived.Test.YtchjbidfmhmmhaaGreatDoorShF
import Derived.Test.YtchjbidfmhmmhaaGreatDoorXt
set_option linter.all false
namespace Go.Proofs.YtchjbidfmhmmhaaGreatDoor
open Go.Sh Go.ChangeShapes Go.WideShapes Go.ChangeAt Go.RowKit
set_option maxRecDepth 100000
section
variable {P:Program} {S:Nat} {H:Type}
def zA4 (P:Program) (S:Nat):Nat→TypeId→Bool
 | 0,_=>false
 | n+1,t=>match P.underlying t with
  | some (.slice e)=>decide (P.bytesOf e≤S)&&zA4 P S n e
  | some (.struct fs)=>fs.toList.all fun f=>zA4 P S n f.type
  | some (.array _ e)=>zA4 P S n e
  | some (.pointer _)=>false
  | some (.map _ _)=>false
  | _=>true
theorem zbG {a b c:Nat} (h:a≤S * b):a≤S * (b+c):=Nat.le_trans h (Nat.mul_le_mul_left S (Nat.le_add_right b c))
theorem zyx:∀ d:DataW H,1≤Rows.uptoBulk d:=fun d=>by
 cases d with
 | lit l=>cases l <;> simp [Rows.uptoBulk]
 | _=>simp [Rows.uptoBulk]
theorem zla:∀ ds:List (DataW H),ds.length≤Rows.uptoBulkAll ds
 | []=>by simp
 | d::ds=>by have:=zyx d; have:=zla ds; rw [Rows.uptoBulkAll,List.length_cons]; omega
theorem zh7 {t:TypeId} (h:∀ (d:DataW H) (n:Nat),n∈DataW.weights P t d→n≤S * Rows.uptoBulk d):∀ (ds:List (DataW H)) (n:Nat),n∈DataW.weightsAll P t ds→n≤S * Rows.uptoBulkAll ds
 | [],n,hn=>by simp [DataW.weightsAll] at hn
 | d::ds,n,hn=>by
  rw [DataW.weightsAll] at hn
  rw [Rows.uptoBulkAll]
  rcases List.mem_append.1 hn with hn | hn
  ·exact zbG (h d n hn)
  ·rw [Nat.add_comm]; exact zbG (zh7 h ds n hn)
theorem ziC:∀ (ds:List (DataW H)) (ts:List TypeId) (_:∀ t∈ts,∀ (d:DataW H) (n:Nat),n∈DataW.weights P t d→n≤S * Rows.uptoBulk d) (n:Nat),n∈DataW.weightsEach P ts ds→n≤S * Rows.uptoBulkAll ds
 | [],ts,_,n,hn=>by cases ts <;> simp [DataW.weightsEach] at hn
 | d::ds,[],_,n,hn=>by simp [DataW.weightsEach] at hn
 | d::ds,t::ts,h,n,hn=>by
  rw [DataW.weightsEach] at hn
  rw [Rows.uptoBulkAll]
  rcases List.mem_append.1 hn with hn | hn
  ·exact zbG (h t List.mem_cons_self d n hn)
  ·rw [Nat.add_comm]; exact zbG (ziC ds ts (fun t ht=>h t (List.mem_cons_of_mem _ ht)) n hn)
theorem zh8 (h1:1≤S):∀ (k:Nat) (t:TypeId),zA4 P S k t=true→∀ (d:DataW H) (n:Nat),n∈DataW.weights P t d→n≤S * Rows.uptoBulk d
 | 0,t,ht,_,_,_=>by cases ht
 | k+1,t,ht,d,n,hn=>by
  rw [zA4] at ht
  cases d with
  | lit l =>
   cases l with
   | string bs =>
    simp only [DataW.weights,List.mem_singleton] at hn
    have:=Nat.mul_le_mul_right bs.length h1
    rw [Rows.uptoBulk]; exact zbG (by omega)
   | _=>simp [DataW.weights] at hn
  | nil=>simp [DataW.weights] at hn
  | held _=>simp [DataW.weights] at hn
  | iface _ _=>simp [DataW.weights] at hn
  | ptr d =>
   rw [DataW.weights] at hn
   split at hn
   ·rename_i hu; rw [hu] at ht; cases ht
   ·cases hn
  | map es =>
   rw [DataW.weights] at hn
   split at hn
   ·rename_i hu; rw [hu] at ht; cases ht
   ·cases hn
  | slice es sp =>
   rw [DataW.weights] at hn
   rw [Rows.uptoBulk]
   split at hn
   ·rename_i e hu
    rw [hu] at ht
    simp only [Bool.and_eq_true,decide_eq_true_eq] at ht
    have ih:=zh8 h1 k e ht.2
    rcases List.mem_cons.1 hn with rfl | hn
    ·have l1:=zla es
     have l2:=zla sp
     refine zbG ?_
     rw [Nat.mul_comm]
     exact Nat.mul_le_mul ht.1 (by omega)
    ·rcases List.mem_append.1 hn with hn | hn
     ·rw [Nat.add_assoc]; exact zbG (zh7 ih es n hn)
     ·rw [Nat.add_comm (Rows.uptoBulkAll es),Nat.add_assoc]; exact zbG (zh7 ih sp n hn)
   ·cases hn
  | agg ps =>
   rw [DataW.weights] at hn
   rw [Rows.uptoBulk]
   split at hn
   ·rename_i fs hu
    rw [hu] at ht
    simp only [List.all_eq_true] at ht
    refine zbG (ziC ps _ (fun t ht'=>?_) n hn)
    obtain ⟨f,hf,rfl⟩:=List.mem_map.1 ht'
    exact zh8 h1 k f.type (ht f hf)
   ·rename_i m e hu
    rw [hu] at ht
    exact zbG (zh7 (zh8 h1 k e ht) ps n hn)
   ·cases hn
theorem zpN:∀ (a b:List (DataW H)),Rows.uptoBulkAll a≤Rows.uptoBulkAll (a++b)
 | [],b=>by simp [Rows.uptoBulkAll]
 | x::a,b=>by have:=zpN a b; simp only [List.cons_append,Rows.uptoBulkAll]; omega
end
theorem zlb {H:Type} {ts:List TypeId} (ht:(ts.all fun t=>zA4 Tryz.prog 1024 20 t)=true) {ds gs:List (DataW H)} (h:Rows.uptoSmall H (ds++gs)=true):∀ n∈DataW.weightsEach Tryz.prog ts ds,n≤1073741824:=by
 intro n hn
 have h1:=ziC (S:=1024) ds ts (fun t h'=>zh8 (by decide) 20 t (List.all_eq_true.1 ht t h')) n hn
 have h2:Rows.uptoBulkAll (ds++gs)≤1048576:=by simpa [Rows.uptoSmall] using h
 have h3:=zpN ds gs
 omega
theorem zmz {H:Type} {enc:TypeId × Value→H} {C:Checked} {os:Os} {f:FuncId} {fn:Func} {s:OpenSpec} {conds:List PathCond} {apart:Bool} {laid:List (String × DataW Unit)} (modest:Bool) (w0:World) (args:Array Value) (hos:w0.os=os)
 (hsh:(w0.forCall (fun _ _=>0) ⟨#[],args,[]⟩).Shaped C.prog)
 (hok:Input.okWideB C.prog (w0.forCall (fun _ _=>0) ⟨#[],args,[]⟩) f ⟨#[],args,[]⟩=true)
 (hrow:s.preRow enc C.prog fn conds apart laid (w0.forCall (fun _ _=>0) ⟨#[],args,[]⟩).memory args) :
 ∃ (w:World) (tape:Tape) (i:Input),w.os=os∧(w.forCall tape i).Shaped C.prog∧i.vars=[]∧Input.okWide C.prog (w.forCall tape i) .any w.heap.size f i ∧
  s.preRow enc C.prog fn conds apart laid (w.forCall tape i).memory i.args∧({ modest:=modest } : Assume).holds C.prog (lone (Frame.enter C.prog f i.args .normal) [] (w.forCall tape i)) :=
 ⟨w0,fun _ _=>0,⟨#[],args,[]⟩,hos,hsh,(Input.okWide_of_okWideB (base:=0) hok).1,(Input.okWide_of_okWideB hok).2,hrow,by
   simp only [Assume.holds]
   exact ⟨by simp,by simp,fun _=>Modest.zero,by simp,by simp⟩⟩
theorem zaF {s:Shape} {ss:List Shape} {c:List GV} (h:FitsU (.row (s::ss)) c):∃ a b,c=a++b∧FitsU s a∧FitsU (.row ss) b:=by
 cases h with
 | rcons _ _ a b h1 h2=>exact ⟨a,b,rfl,h1,h2⟩
theorem zdx {c:List GV} (h:FitsU (.row []) c):c=[]:=by cases h; rfl
theorem zbY {c:List GV} (h:FitsU (.int .i64) c):∃ n:Int,c=[.int .i64 n]∧-9223372036854775808≤n∧n≤9223372036854775807:=by
 cases h with
 | int _ n hn =>
  simp [IntKind.min,IntKind.max,IntKind.signed,IntKind.bits] at hn
  exact ⟨n,rfl,hn.1,hn.2⟩
theorem zgz {c:List GV} (h:FitsU .str c):∃ t:List UInt8,c=[.str (mkB t)]∧t.length≤1125899906842624:=by
 cases h with
 | str s hs =>
  refine ⟨s.data.toList,by rw [zcE], ?_⟩
  rw [zv8] at hs; unfold zgY at hs; omega
theorem zuR {c:List GV} (h:FitsU zH2 c):∃ x:El,c=elC x∧ElBig x∧ElRange x:=by
 obtain ⟨a1,b1,rfl,f1,g1⟩:=zaF h
 obtain ⟨a2,b2,rfl,f2,g2⟩:=zaF g1
 obtain ⟨a3,b3,rfl,f3,g3⟩:=zaF g2
 obtain ⟨a4,b4,rfl,f4,g4⟩:=zaF g3
 obtain ⟨a5,b5,rfl,f5,g5⟩:=zaF g4
 obtain rfl:=zdx g5
 obtain ⟨k,rfl,k1,k2⟩:=zbY f1
 obtain ⟨a,rfl,ha⟩:=zgz f2
 obtain ⟨b,rfl,hb⟩:=zgz f3
 obtain ⟨c,rfl,hc⟩:=zgz f4
 obtain ⟨d,rfl,hd⟩:=zgz f5
 exact ⟨⟨k,a,b,c,d⟩,rfl,⟨ha,hb,hc,hd⟩,⟨k1,k2⟩⟩
theorem zrh {c:List GV} (h:FitsU zuP c):∃ (k n:Int) (t:List UInt8),c=[.int .i64 k,.int .i64 n,.str (mkB t)]∧(-9223372036854775808≤n∧n≤9223372036854775807)∧t.length≤1125899906842624:=by
 obtain ⟨a1,b1,rfl,f1,g1⟩:=zaF h
 obtain ⟨a2,b2,rfl,f2,g2⟩:=zaF g1
 obtain ⟨a3,b3,rfl,f3,g3⟩:=zaF g2
 obtain rfl:=zdx g3
 obtain ⟨k,rfl,k1,k2⟩:=zbY f1
 obtain ⟨n,rfl,n1,n2⟩:=zbY f2
 obtain ⟨t,rfl,ht⟩:=zgz f3
 exact ⟨k,n,t,rfl,⟨n1,n2⟩,ht⟩
theorem zri {c:List GV} (h:FitsU zEx c):∃ r n:Int,c=[.int .i64 r,.int .i64 n]:=by
 obtain ⟨a1,b1,rfl,f1,g1⟩:=zaF h
 obtain ⟨a2,b2,rfl,f2,g2⟩:=zaF g1
 obtain rfl:=zdx g2
 obtain ⟨k,rfl,_⟩:=zbY f1
 obtain ⟨n,rfl,_⟩:=zbY f2
 exact ⟨k,n,rfl⟩
theorem ziD:∀ (m:Nat) {c:List GV},FitsU (.row (List.replicate m (.int .i64))) c→∃ l:List Int,c=l.map (fun n=>GV.int .i64 n)∧l.length=m
 | 0,c,h=>⟨[],zdx h,rfl⟩
 | m+1,c,h=>by
  obtain ⟨a,b,rfl,f,g⟩:=zaF h
  obtain ⟨n,rfl,_⟩:=zbY f
  obtain ⟨l,rfl,hl⟩:=ziD m g
  exact ⟨n::l,rfl,by simp [hl]⟩
theorem zyy {c:List GV} (h:FitsU zFL c):∃ e:Evt,mkG zFL c=evG e∧EvIn e:=by
 obtain ⟨a1,b1,rfl,f1,g1⟩:=zaF h
 obtain ⟨a2,b2,rfl,f2,g2⟩:=zaF g1
 obtain ⟨a3,b3,rfl,f3,g3⟩:=zaF g2
 obtain ⟨a4,b4,rfl,f4,g4⟩:=zaF g3
 obtain ⟨a5,b5,rfl,f5,g5⟩:=zaF g4
 obtain rfl:=zdx g5
 obtain ⟨r,n,rfl⟩:=zri f1
 obtain ⟨l,rfl,hl⟩:=ziD 16 f2
 obtain ⟨op,rfl,_⟩:=zbY f3
 obtain ⟨x,rfl,hx,hr⟩:=zuR f4
 obtain ⟨k,m,t,rfl,hm,ht⟩:=zrh f5
 exact ⟨⟨r,n,l,op,x,k,m,t⟩,rfl,⟨⟨hl,hx,ht⟩,hm.1,hm.2⟩⟩
abbrev zFM:Shape:=.row [.int .i64,zuP,.str,.str,.int .i64,.int .i64]
abbrev zFN:Shape:=.row [.str,zuP]
theorem zgA {c:List GV} (h:FitsU .str c):∃ t:List UInt8,c=[.str (mkB t)]∧t.length≤1073741824:=by
 cases h with
 | str s hs =>
  refine ⟨s.data.toList,by rw [zcE], ?_⟩
  rw [zv8] at hs; exact hs
theorem ziE {c:List GV} (h:FitsU zuP c):∃ (k n:Int) (t:List UInt8),c=[.int .i64 k,.int .i64 n,.str (mkB t)]∧(-9223372036854775808≤n∧n≤9223372036854775807)∧t.length≤1073741824:=by
 obtain ⟨a1,b1,rfl,f1,g1⟩:=zaF h
 obtain ⟨a2,b2,rfl,f2,g2⟩:=zaF g1
 obtain ⟨a3,b3,rfl,f3,g3⟩:=zaF g2
 obtain rfl:=zdx g3
 obtain ⟨k,rfl,k1,k2⟩:=zbY f1
 obtain ⟨n,rfl,n1,n2⟩:=zbY f2
 obtain ⟨t,rfl,ht⟩:=zgA f3
 exact ⟨k,n,t,rfl,⟨n1,n2⟩,ht⟩
theorem zyz {c:List GV} (h:FitsU zFM c):∃ e:Ex,mkG zFM c=exG e∧ExU e:=by
 obtain ⟨a1,b1,rfl,f1,g1⟩:=zaF h
 obtain ⟨a2,b2,rfl,f2,g2⟩:=zaF g1
 obtain ⟨a3,b3,rfl,f3,g3⟩:=zaF g2
 obtain ⟨a4,b4,rfl,f4,g4⟩:=zaF g3
 obtain ⟨a5,b5,rfl,f5,g5⟩:=zaF g4
 obtain ⟨a6,b6,rfl,f6,g6⟩:=zaF g5
 obtain rfl:=zdx g6
 obtain ⟨k,rfl,_⟩:=zbY f1
 obtain ⟨vk,vn,vt,rfl,hn,ht⟩:=ziE f2
 obtain ⟨v,rfl,hv⟩:=zgA f3
 obtain ⟨p,rfl,hp⟩:=zgA f4
 obtain ⟨l,rfl,_⟩:=zbY f5
 obtain ⟨r,rfl,_⟩:=zbY f6
 exact ⟨⟨k,⟨vk,vn,vt⟩,v,p,l,r⟩,rfl,⟨ht,hn.1,hn.2,hv,hp⟩⟩
theorem zyA {c:List GV} (h:FitsU zFN c):∃ b:Bd,mkG zFN c=bdG b∧BdOk b:=by
 obtain ⟨a1,b1,rfl,f1,g1⟩:=zaF h
 obtain ⟨a2,b2,rfl,f2,g2⟩:=zaF g1
 obtain rfl:=zdx g2
 obtain ⟨v,rfl,hv⟩:=zgA f1
 obtain ⟨vk,vn,vt,rfl,hn,ht⟩:=ziE f2
 exact ⟨⟨v,⟨vk,vn,vt⟩⟩,rfl,⟨ht,hn.1,hn.2⟩⟩
theorem zjI (gargs:List GV) (h:ArgsFitU [.slice zFM,.int .i64,.slice zFN,.slice zFL] gargs):∃ H',ecall T2 zlT gargs (znz Tryz.prog.globals.size)=some (.bool true,H'):=by
 cases h with
 | cons h1 t1 =>
 cases t1 with
 | cons h2 t2 =>
 cases t2 with
 | cons h3 t3 =>
 cases t3 with
 | cons h4 t4 =>
  cases t4
  obtain ⟨X,hX,hx,hxl⟩:=zhu (f:=exG) (fun c hc=>zyz hc) h1
  obtain ⟨i,rfl,hi1,hi2⟩:=zbY h2
  obtain ⟨B,hB,hb,hbl⟩:=zhu (f:=bdG) (fun c hc=>zyA hc) h3
  obtain ⟨E,hE,he,hel⟩:=zhu (f:=evG) (fun c hc=>zyy hc) h4
  exact znu X (by unfold maxLen at hxl; omega) hx _ hX i hi1 hi2 B (by unfold maxLen at hbl; omega) hb _ hB E (by unfold maxLen at hel; omega) he _ hE _ (by simp [znz]) (by simp [znz])
end Go.Proofs.YtchjbidfmhmmhaaGreatDoor
