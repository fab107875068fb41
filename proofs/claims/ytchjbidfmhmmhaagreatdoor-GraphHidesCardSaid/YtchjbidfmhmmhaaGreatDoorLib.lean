/- Own work: the zaG machine and what it shows, part Lib. -/
import Derived.Test.YtchjbidfmhmmhaaGreatDoorRows
import Derived.Test.YtchjbidfmhmmhaaGreatDoorProg
import Derived.WalkKit
import Derived.WalkSpells
import Derived.Lib.Builder
import Derived.Test.YtchjbidfmhmmhaaGreatDoorLo
import Derived.Test.YtchjbidfmhmmhaaGreatDoorSo
import Derived.Test.YtchjbidfmhmmhaaGreatDoorShH
import Derived.Test.YtchjbidfmhmmhaaGreatDoorVp
import Derived.Test.YtchjbidfmhmmhaaGreatDoorShelf
import Derived.Test.YtchjbidfmhmmhaaGreatDoorShG
import Derived.Lib.AppendIntMem
import Derived.Shelf.Spec.SlicesInsertGrow
import Derived.Sort.Row
set_option linter.all false
namespace Go.Proofs.YtchjbidfmhmmhaaGreatDoor
open Go.RowKit
set_option maxRecDepth 100000
set_option maxHeartbeats 1000000 in
theorem zr8 (b:Nat) (w:World) (h0:w.cell? ⟨b,0,none⟩=some (.pointer (some ⟨b,0,none⟩))) :
 Calls Tryz.prog 162 #[.pointer (some ⟨b,0,none⟩)] w fun e w'=>e=.returned (.tuple #[])∧w'=w:=by
 obtain ⟨j,hj⟩:∃ j,Tryz.prog.info? 176=some j:=⟨_,rfl⟩
 go_enter Tryz.func162,Tryz.ntmps162
 go_wp2
 rw [Lib.run_neq_ptr_same w _ (by kernel_rfl) hj]
 go_wp2
 go_end0
 exact ⟨rfl,rfl⟩
set_option maxHeartbeats 1000000 in
theorem zpb (b:Nat) (w:World) (h0:w.cell? ⟨b,0,none⟩=some (.pointer none)) (hsh:w.shape? b=some (176,2)) (hfz:w.frozen? ⟨b,0,none⟩=false) :
 Calls Tryz.prog 162 #[.pointer (some ⟨b,0,none⟩)] w fun e w'=>e=.returned (.tuple #[])∧w'=w.setCell ⟨b,0,none⟩ (.pointer (some ⟨b,0,none⟩)):=by
 obtain ⟨j,hj,hjs⟩:∃ j,Tryz.prog.info? 176=some j∧j.size=2:=⟨_,rfl,by kernel_rfl⟩
 go_enter Tryz.func162,Tryz.ntmps162
 go_wp2
 rw [Lib.run_to_unsafe w ⟨b,0,none⟩ (t:=176) (by kernel_rfl) (by kernel_rfl) hj (by rw [hjs]; decide) hsh (Nat.zero_lt_succ 1)]
 simp only [Result.andThen]
 rw [Oper.upon_value]
 go_wp2
 rw [run_callFunc_extern Tryz.func192 (by kernel_rfl) (by kernel_rfl) (by kernel_rfl) (e:=Extern.AbiNoEscape.same) (by kernel_rfl)]
 rw [Lib.run_noEscape]
 simp only [Result.andThen]
 rw [Oper.upon_value]
 go_wp2
 rw [Lib.run_from_unsafe w ⟨b,0,none⟩ (u:=176) (by kernel_rfl) (by kernel_rfl) hj hsh (by kernel_rfl)]
 simp only [Result.andThen]
 rw [Oper.upon_value]
 go_wp2
 go_end0
 exact ⟨rfl,rfl⟩
open Go.RowKit Go.Sh
instance:Facts:=⟨fun w=>(∃ m,w.cell? ⟨0,0,none⟩=some (.int .i64 m))∧Lib.TabIs Tryz.prog w "internal/strconv.uint64pow10" .u64 Lib.pow10Tab,False⟩
theorem HR.low {ro:Nat} {K:Ctx} {H:GH} (hr:HR ro K H) : @HR Low.lowFacts ro K H :=
 @HR.mk Low.lowFacts ro K H hr.nO hr.toks hr.bo hr.bt hr.obj hr.inj hr.dom hr.glob hr.roN hr.tok hr.tinj hr.size hr.loc (fun _ _=>trivial)
def deI:List GV→Option (El × GV)
 | [.int .i64 k,.str a,.str b,.str c,.str d,v]=>if v.one&&v.ok&&zgE 10 v then some (⟨k,a.data.toList,b.data.toList,c.data.toList,d.data.toList⟩,v) else none
 | _=>none
def enI (p:El × GV):List GV:=elC p.1++[p.2]
def cfI (p q:El × GV):Int:=zdu p.1 q.1
def zbW {β:Type} (c:β→β→Int):List β→Bool
 | []=>true
 | x::l=>l.all (fun y=>decide (c x y≠0))&&zbW c l
def deV:List GV→Option Vl
 | [.int .i64 k,.int .i64 n,.str t]=>some ⟨k,n,t.data.toList⟩
 | _=>none
def zj3:List GV→GH→Option (GV × GH):=zgW 108 6 deI enI cfI (zbW cfI)
def zj4:List GV→GH→Option (GV × GH):=zgW 141 3 deV vlC zfm (fun _=>true)
def deL:List GV→Option Lk
 | [.str f,.str t,.str y]=>some ⟨f.data.toList,t.data.toList,y.data.toList⟩
 | _=>none
def zj5:List GV→GH→Option (GV × GH):=zgW 63 3 deL lkC zfq (fun _=>true)
theorem zAB {x:List GV} {b:Lk} (h:deL x=some b):x=lkC b:=by
 unfold deL at h
 split at h
 ·injection h with h; subst h
  simp [lkC,zgF]
 ·cases h
def zr9:List GV→GH→Option (GV × GH):=zwM 5
theorem zsa {x:List GV} {b:El × GV} (h:deI x=some b):x=enI b∧b.2.one=true∧b.2.ok=true∧zgE 10 b.2=true:=by
 unfold deI at h
 split at h
 ·split at h
  ·rename_i hc
   injection h with h; subst h
   simp only [Bool.and_eq_true] at hc
   simp [enI,elC,zgF,hc]
  ·cases h
 ·cases h
theorem zAC {x:List GV} {b:Vl} (h:deV x=some b):x=vlC b:=by
 unfold deV at h
 split at h
 ·injection h with h; subst h
  simp [vlC,zgF]
 ·cases h
theorem zj6 {β:Type} {c:β→β→Int} (hs:∀ x y,c y x=- c x y):∀ (l:List β),zbW c l=true→∀ a b,a∈l→b∈l→c a b=0→a=b
 | [],_,a,b,h,_,_=>by simp at h
 | x::l,h,a,b,ha,hb,hz=>by
  simp only [zbW,Bool.and_eq_true,List.all_eq_true,decide_eq_true_eq] at h
  rcases List.mem_cons.1 ha with e1 | ha'
  ·rcases List.mem_cons.1 hb with e2 | hb'
   ·rw [e1,e2]
   ·subst e1; exact absurd hz (h.1 b hb')
  ·rcases List.mem_cons.1 hb with e2 | hb'
   ·subst e2
    have:=hs b a
    exact absurd (show c b a=0 by omega) (h.1 a ha')
   ·exact zj6 hs l h.2 a b ha' hb' hz
theorem zsb:zcO Tryz.prog 107 ⟨8,[],.trap,0,30,zj3⟩ :=
 zks (g:=108) (k:=6) (de:=deI) (en:=enI) (cf:=cfI) (chk:=zbW cfI) rfl rfl ⟨_,_,Tryz.func107,by kernel_rfl,rfl⟩ (fun x b h=>(zsa h).1) (ordE_ok.swo fun p:El × GV=>p.1)
  (fun bs hc a b ha hb h1 h2=>zj6 (fun x y=>ordE_ok.swap x.1 y.1) bs hc a b ha hb (by
    have s:=ordE_ok.swap a.1 b.1
    have h1':¬ zdu a.1 b.1<0:=fun h=>by
     have h1:decide (zdu a.1 b.1<0)=false:=h1
     rw [decide_eq_true h] at h1; cases h1
    have h2':¬ zdu b.1 a.1<0:=fun h=>by
     have h2:decide (zdu b.1 a.1<0)=false:=h2
     rw [decide_eq_true h] at h2; cases h2
    show zdu a.1 b.1=0
    omega))
  (fun p cap fv w=>AnyF.slices_SortFunc_none (P:=Tryz.prog) (ρ:=Tryz.sortIt_ren) { Tryz.sortIt with } p cap fv w)
  (fun enc hk h1 cf' hO blk off cap d w hc hH hb hs=>AnyQ.slices_SortFunc Tryz.sortIt 6 Tryz.isAgg115 Tryz.sizeOf115 enc hk h1 cf' hO 108 #[] blk off cap d w (enters_of Tryz.func108 (by kernel_rfl) rfl) hc hH hb hs)
  (fun K H a b vx vy ha hb hr hx hy=>by
    obtain ⟨_,a1,a2,a3⟩:=zsa ha
    obtain ⟨_,b1,b2,b3⟩:=zsa hb
    exact @zim Low.lowFacts _ trivial (by kernel_rfl) (by kernel_rfl) Low.T Low.T_ok 108 _ Low.T_x54 (by decide) K H (HR.low hr) _ _ vx vy hx hy 10 (by simp only [enI,elC,List.cons_append,List.nil_append,List.all_cons,List.all_nil,a3,Bool.and_true]; rfl) (by simp only [enI,elC,List.cons_append,List.nil_append,List.all_cons,List.all_nil,b3,Bool.and_true]; rfl) _ (fun H=>Low.store_All_1 a.1 b.1 a.2 b.2 a1 b1 a2 b2 H))
theorem zsc:zcO Tryz.prog 140 ⟨8,[],.trap,0,30,zj4⟩ :=
 zks (g:=141) (k:=3) (de:=deV) (en:=vlC) (cf:=zfm) (chk:=fun _=>true) rfl rfl ⟨_,_,Tryz.func140,by kernel_rfl,rfl⟩ (fun x b h=>zAC h) (ordV_ok.swo fun p:Vl=>p)
  (fun bs hc a b ha hb h1 h2=>ordV_ok.eq (by simpa [ltC] using h1) (by simpa [ltC] using h2))
  (fun p cap fv w=>AnyF.slices_SortFunc_none (P:=Tryz.prog) (ρ:=Tryz.sortVl_ren) { Tryz.sortVl with } p cap fv w)
  (fun enc hk h1 cf' hO blk off cap d w hc hH hb hs=>AnyQ.slices_SortFunc Tryz.sortVl 3 Tryz.isAgg34 Tryz.sizeOf34 enc hk h1 cf' hO 141 #[] blk off cap d w (enters_of Tryz.func141 (by kernel_rfl) rfl) hc hH hb hs)
  (fun K H a b vx vy ha hb hr hx hy=>by
    exact @zim Low.lowFacts _ trivial (by kernel_rfl) (by kernel_rfl) Low.T Low.T_ok 141 _ Low.T_x69 (by decide) K H (HR.low hr) _ _ vx vy hx hy 10 rfl rfl _ (fun H=>Low.value_Compare a b H))
theorem zsd:zcO Tryz.prog 62 ⟨8,[],.trap,0,30,zj5⟩ :=
 zks (g:=63) (k:=3) (de:=deL) (en:=lkC) (cf:=zfq) (chk:=fun _=>true) rfl rfl ⟨_,_,Tryz.func62,by kernel_rfl,rfl⟩ (fun x b h=>zAB h) (ordL_ok.swo fun p:Lk=>p)
  (fun bs hc a b ha hb h1 h2=>ordL_ok.eq (by simpa [ltC] using h1) (by simpa [ltC] using h2))
  (fun p cap fv w=>AnyF.slices_SortFunc_none (P:=Tryz.prog) (ρ:=Tryz.sortLk_ren) { Tryz.sortLk with } p cap fv w)
  (fun enc hk h1 cf' hO blk off cap d w hc hH hb hs=>AnyQ.slices_SortFunc Tryz.sortLk 3 Tryz.isAgg73 Tryz.sizeOf73 enc hk h1 cf' hO 63 #[] blk off cap d w (enters_of Tryz.func63 (by kernel_rfl) rfl) hc hH hb hs)
  (fun K H a b vx vy ha hb hr hx hy=>by
    exact @zim Low.lowFacts _ trivial (by kernel_rfl) (by kernel_rfl) Low.T Low.T_ok 63 _ Low.T_x23 (by decide) K H (HR.low hr) _ _ vx vy hx hy 10 rfl rfl _ (fun H=>Low.graph_order a b H))
set_option maxHeartbeats 1000000 in
theorem zse (b g off cap n:Nat) (l:List UInt8) (w:World) (c0:w.cell? ⟨b,1,none⟩=some (.slice (some ⟨g,off,none⟩) l.length cap)) (h0:l≠[]) (hle:l.length≤cap) (hm:cap≤maxLen) (hsh:w.shape? g=some (5,n)) (hn:off+cap≤n)
 (hcell:∀ j x,l[j]?=some x→w.cell? ⟨g,off+j,none⟩=some (.int .u8 x.toNat)) :
 Calls Tryz.prog 128 #[.pointer (some ⟨b,0,none⟩)] w fun e w'=>e=.returned (.string ⟨l.toArray⟩)∧∃ d,w'=World.freeze { w with drawn:=d } ⟨g,off,none⟩ l.length:=by
 have hl0:l.length≠0:=by simpa using h0
 have c1:w.drew.cell? ⟨b,1,none⟩=some (.slice (some ⟨g,off,none⟩) l.length cap):=c0
 have hSD:(Builtin.unsafeSliceData_ #[174] 209 #[.slice (some ⟨g,off,none⟩) l.length cap]).run Tryz.prog w.drew=.ok (.pointer (some ⟨g,off,none⟩)) w.drew :=
  Lib.run_unsafeSliceData_row _ _ _ _ _ _ (by omega)
 have hUS:(Builtin.unsafeString_ #[209,3] 9 #[.pointer (some ⟨g,off,none⟩),.int .i64 l.length]).run Tryz.prog w.drew=.ok (.string ⟨l.toArray⟩) (w.drew.freeze ⟨g,off,none⟩ l.length) :=
  zeV (P:=Tryz.prog) w.drew 209 3 9 5 (by kernel_rfl) (by kernel_rfl) g off n hsh l h0 (by omega) (by unfold maxLen at hm; omega) hcell
 go_enter Tryz.func128,Tryz.ntmps128
 go_wp2
 go_region
 all_goals (go_wp2; go_ret; exact ⟨rfl,_,rfl⟩)
set_option maxHeartbeats 1000000 in
theorem zsf (b:Nat) (w:World) (c0:w.cell? ⟨b,1,none⟩=some (.slice none 0 0)) :
 Calls Tryz.prog 128 #[.pointer (some ⟨b,0,none⟩)] w fun e w'=>e=.returned (.string ⟨#[]⟩)∧WGrow w w':=by
 have c1:w.drew.cell? ⟨b,1,none⟩=some (.slice none 0 0):=c0
 have hSD:(Builtin.unsafeSliceData_ #[174] 209 #[.slice none 0 0]).run Tryz.prog w.drew=.ok (.pointer none) w.drew:=rfl
 have hUS:(Builtin.unsafeString_ #[209,3] 9 #[.pointer none,.int .i64 0]).run Tryz.prog w.drew=.ok (.string ⟨#[]⟩) w.drew :=
  Lib.run_unsafeString_none (P:=Tryz.prog) w.drew 209 3 9 none
 go_enter Tryz.func128,Tryz.ntmps128
 go_wp2
 go_region
 all_goals (go_wp2; go_ret; exact ⟨rfl,⟨Nat.le_refl _,rfl,rfl,rfl,fun _ _=>rfl,fun h=>h.elim⟩⟩)
open Go.RowKit Go.Sh Go.Lib
theorem zcS {P:Program} (w:World) (dT sT ty elem:TypeId) (k:Nat) (b o dLen dCap:Nat) (a:Addr) (sLen sCap m:Nat) (cs:List Value) (hu:P.underlying dT=some (.slice elem)) (hs:(P.info? elem).map (·.size)=some k)
 (hn:Nat.min sLen dLen=m) (hl:cs.length=m * k) (hsrc:∀ (j:Nat) v,cs[j]?=some v→w.cell? (a.add j)=some v) (hc:∀ j,j<cs.length→(w.cell? ⟨b,o+j,none⟩).isSome=true) (hf:∀ j,j<cs.length→w.frozen? ⟨b,o+j,none⟩=false)
 (h1:∀ v∈cs,v.oneCell'=true) :
 (Builtin.copy_ #[dT,sT] ty #[.slice (some ⟨b,o,none⟩) dLen dCap,.slice (some a) sLen sCap]).run P w=.ok (goInt m) (w.setCells b o cs):=by
 have hst:=run_storeCells_cells (P:=P) b o cs 0 w (by simpa using hc) (by simpa using hf) h1
 cases hq:P.info? elem with
 | none=>simp [hq] at hs
 | some i =>
  have hi:i.size=k:=by simpa [hq] using hs
  have hfc:=run_firstCells_some (P:=P) w k m a sLen sCap cs hl hsrc
  simp [Builtin.copy_,run_underlying hu,Builtin.lenOf,sizeOf,typeInfo,hq,hi,hn,hfc,hst]
theorem zfD {P:Program} (w:World) (tS tR e:TypeId) (ht:P.underlying tS=some (.slice e)) (size:Nat) (hz:∀ w,(Go.sizeOf e).run P w=.ok size w)
 (a b:Addr) (la ca lb cb:Nat) (hne:a.block≠b.block) {curA curB:Array Value} {tA tB:TypeId} {frA:Nat × Nat} (ha:w.heap[a.block]?=some (.cells curA tA frA)) (hA:curA.size≠0) (hb:w.heap[b.block]?=some (.cells curB tB (0,0))) :
 (Extern.SlicesOverlaps.overlaps #[tS,tS] #[tR] #[.slice (some a) la ca,.slice (some b) lb cb]).run P w=.ok (.bool false) w:=by
 have hnb:(a.block != b.block)=true:=by simpa using hne
 have hnb':(a.block == b.block)=false:=by simpa using hne
 have hsa:w.shape? a.block=some (tA,curA.size):=by simp [World.shape?,ha]
 have hsb:w.shape? b.block=some (tB,curB.size):=by simp [World.shape?,hb]
 have hfb:w.frozen? b=false:=by simp [World.frozen?,hb]
 have hfe:∀ n,w.frozen? { block:=b.block,off:=n }=false:=fun n=>by simp [World.frozen?,hb]
 obtain ⟨kA,hkA⟩:∃ kA,curA.size=kA+1:=⟨curA.size - 1,by omega⟩
 rw [hkA] at hsa
 change Sem.run P (α:=Value) (do
  let some t:=(#[tS,tS]:Array TypeId)[0]? | stuck "slices.overlaps: no parameter types"
  let .slice elem ← underlying t | stuck "slices.overlaps: slice type expected"
  let size ← sizeOf elem
  match (some a:Option Addr),(some b:Option Addr) with
  | some a,some b =>
   if la=0∨lb=0∨size=0 then pure (Value.bool false)
   else if a.block != b.block&&(← frozen a)&&(← frozen b) then unsupported .addressObserved
   else do
    if a.block != b.block then do
     noView a; noView b
     if ← mayBeOne a b then return Value.bool ((← choose (.extern "sameAddr.stringBytes" 2)) == 1)
    pure (Value.bool (a.block == b.block&&a.off<b.off+lb * size&&b.off<a.off+la * size))
  | _,_=>pure (Value.bool false)) w=_
 by_cases h0:la=0∨lb=0∨size=0
 ·simp [run_underlying ht,hz,h0]
 ·cases hfa:w.frozen? a <;> cases hfc:w.frozen? { block:=a.block,off:=kA+1 } <;>
   simp [run_underlying ht,hz,h0,hnb,hnb',frozen,noView,viewAt,mayBeOne,stringish,shape,Sem.run,hsa,hsb,hfa,hfb,hfc,hfe]
theorem zxS (w:World) (b vb voff vc o lb cb:Nat) (hvb:vb≠b) {curA curB:Array Value} {tA tB:TypeId} {frA:Nat × Nat} (ha:w.heap[vb]?=some (.cells curA tA frA)) (hA:curA.size≠0) (hb:w.heap[b]?=some (.cells curB tB (0,0))) :
 (callFunc 104 #[.slice (some ⟨vb,voff,none⟩) 1 vc,.slice (some ⟨b,o,none⟩) lb cb]).run Tryz.prog w=.ok (.value (.bool false)) w:=by
 rw [run_callFunc_extern Tryz.func104 (by kernel_rfl) (by kernel_rfl) (by kernel_rfl) (e:=Extern.SlicesOverlaps.overlaps #[93,93] #[4]) (by kernel_rfl),
  zfD w 93 4 96 Tryz.underlying93 5 Tryz.sizeOf96 ⟨vb,voff,none⟩ ⟨b,o,none⟩ 1 vc lb cb hvb ha hA hb]
 rfl
set_option maxHeartbeats 4000000 in
theorem zsg (b n c i vb voff vc:Nat) (cs vs:List Value) (w:World) (hi:i<n) (hroom:n+1≤c) (hc63:c≤9223372036854775807) (hvb:vb≠b)
 (hcl:cs.length=n * 5) (hvl:vs.length=5) (cur:Array Value) (ty:TypeId) (hb:w.heap[b]?=some (.cells cur ty (0,0))) (hcap:c * 5≤cur.size)
 (hcs:∀ (j:Nat) v,cs[j]?=some v→w.cell? ⟨b,j,none⟩=some v) (hvs:∀ (j:Nat) v,vs[j]?=some v→w.cell? ⟨vb,voff+j,none⟩=some v) (h1c:∀ v∈cs,v.oneCell'=true) (h1v:∀ v∈vs,v.oneCell'=true)
 {curA:Array Value} {tA:TypeId} {frA:Nat × Nat} (ha:w.heap[vb]?=some (.cells curA tA frA)) (hA:curA.size≠0) :
 Calls Tryz.prog 58 #[.slice (some ⟨b,0,none⟩) n c,.int .i64 i,.slice (some ⟨vb,voff,none⟩) 1 vc] w fun e w' =>
  e=.returned (.slice (some ⟨b,0,none⟩) (n+1) c)∧w'=(w.drew.setCells b ((i+1) * 5) (cs.drop (i * 5))).setCells b (i * 5) vs:=by
 have t0:=Tryz.underlying0; have t3:=Tryz.underlying3; have t4:=Tryz.underlying4; have t93:=Tryz.underlying93; have z96:=Tryz.sizeOf96
 have hz2:¬ ((i:Int)=(n:Int)):=by omega
 have hov:∀ o lb cb,(callFunc 104 #[.slice (some ⟨vb,voff,none⟩) 1 vc,.slice (some ⟨b,o,none⟩) lb cb]).run Tryz.prog w=.ok (.value (.bool false)) w:=fun o lb cb=>zxS w b vb voff vc o lb cb hvb ha hA hb
 have hw1:IntKind.i64.wrap ((i:Int)+1)=(i:Int)+1:=by rw [IntKind.wrap_i64]; omega
 have hw2:IntKind.i64.wrap ((n:Int)+1)=(n:Int)+1:=by rw [IntKind.wrap_i64]; omega
 have hb1:(0:Int)≤(i:Int)+1:=by omega
 have hin:i≤n:=by omega
 have htn:((i:Int)+1).toNat=i+1:=by omega
 have hb2:¬ (c=i+1):=by omega
 have hb3:(i:Int)≤(n:Int)+1:=by omega
 have hb4:¬ (c=i):=by omega
 have hz3:¬ ((c:Int)<(n:Int)+1):=by omega
 have hsz:(Tryz.prog.info? 96).map (·.size)=some 5:=by kernel_rfl
 have hdl:(cs.drop (i * 5)).length=(n - i) * 5:=by rw [List.length_drop,hcl]; omega
 have mixed:Tryz.prog.follows .mixedOrders=true:=by kernel_rfl
 have hlt:∀ j,j<(cs.drop (i * 5)).length→(i+1) * 5+j<c * 5:=fun j hj=>by rw [hdl] at hj; clear hw1 hw2 htn; omega
 have hcell:∀ j,j<c * 5→(w.cell? ⟨b,j,none⟩).isSome=true:=fun j hj=>by
  have:j<cur.size:=by omega
  simp [World.cell?,hb,this]
 have hfz:∀ j,w.frozen? ⟨b,j,none⟩=false:=fun j=>by simp [World.frozen?,hb]
 have hcp1:∀ ty dc sc,(Builtin.copy_ #[93,93] ty #[.slice (some ⟨b,(i+1) * 5,none⟩) (n - i) dc,.slice (some ⟨b,i * 5,none⟩) (n+1 - i) sc]).run Tryz.prog w.drew=.ok (goInt ((n - i:Nat):Int)) (w.drew.setCells b ((i+1) * 5) (cs.drop (i * 5))):=fun ty dc sc =>
  zcS w.drew _ _ ty 96 5 b ((i+1) * 5) (n - i) dc ⟨b,i * 5,none⟩ (n+1 - i) sc (n - i) (cs.drop (i * 5)) Tryz.underlying93 hsz (by simp only [Nat.min_def]; split <;> omega) hdl
   (fun j v hj=>by rw [Addr.add_lit]; exact hcs (i * 5+j) v (by rwa [List.getElem?_drop] at hj))
   (fun j hj=>hcell _ (hlt j hj)) (fun j hj=>hfz _) (fun v hv=>h1c v (List.mem_of_mem_drop hv))
 obtain ⟨W1,hW1⟩:∃ W1,W1=w.drew.setCells b ((i+1) * 5) (cs.drop (i * 5)):=⟨_,rfl⟩
 have hcell1:∀ j,j<c * 5→(W1.cell? ⟨b,j,none⟩).isSome=true:=fun j hj=>by
  rw [hW1]
  exact isSome_setCells b _ _ w.drew (fun j hj=>hcell _ (hlt j hj)) _ (hcell j hj)
 have hcp2:∀ (W:World),(∀ x,W.cell? x=W1.cell? x)→(∀ x,W.frozen? x=W1.frozen? x)→∀ ty dc,(Builtin.copy_ #[93,93] ty #[.slice (some ⟨b,i * 5,none⟩) (n+1 - i) dc,.slice (some ⟨vb,voff,none⟩) 1 vc]).run Tryz.prog W=.ok (goInt ((1:Nat):Int)) (W.setCells b (i * 5) vs):=fun W hWc hWf ty dc =>
  zcS W _ _ ty 96 5 b (i * 5) (n+1 - i) dc ⟨vb,voff,none⟩ 1 vc 1 vs Tryz.underlying93 hsz (by simp only [Nat.min_def]; split <;> omega) (by omega)
   (fun j v hj=>by
     rw [Addr.add_lit,hWc,hW1,World.cell?_setCells_out b _ _ _ _ (fun h _=>absurd h hvb)]
     exact hvs j v hj)
   (fun j hj=>by rw [hWc]; exact hcell1 _ (by omega)) (fun j hj=>by rw [hWf,hW1,World.frozen?_setCells]; exact hfz _) h1v
 rw [← hW1] at hcp1
 clear hcell1
 go_enter Tryz.func58,Tryz.ntmps58
 go_wp2_with (simp only [hov])
 go_region_law_o (refine step_copy_runI rfl _ _ 93 93 rfl _ _ (by simp [Act.eval,Act.put]) (by simp [Act.eval,Act.put]) (hcp1 _ _ _) ?_)
 go_wp2_with (at_builtin; refine wpList_copy_runI _ rfl _ _ 93 93 rfl _ _ rfl rfl (hcp2 _ (fun _=>rfl) (fun _=>rfl) _ _) ?_)
 go_ret
 first | exact ⟨rfl,rfl⟩ | exact ⟨rfl,by rw [hW1]⟩
abbrev zEnt:Value:=.agg #[.int .i64 0,.int .i64 0,.int .i64 0,.int .i64 0,.string ⟨#[]⟩]
theorem zsh:∃ i0,Tryz.prog.info? 96=some i0∧i0.zero=some zEnt∧i0.size=5∧i0.bytes=48:=by
 have h:(Tryz.prog.info? 96).map (fun i=>(i.zero,i.size,i.bytes))=some (some zEnt,5,48):=by kernel_rfl
 exact info_parts h
theorem zsi (w:World) {vb voff vc:Nat} {vs:List Value} (hvl:vs.length=5) (hvs:∀ (j:Nat) v,vs[j]?=some v→w.cell? ⟨vb,voff+j,none⟩=some v) (h1v:∀ v∈vs,v.oneCell'=true) :
 Src Tryz.prog 5 93 (.slice (some ⟨vb,voff,none⟩) 1 vc) 1 vs w :=
 ⟨.inl ⟨_,Tryz.underlying93⟩,fun _=>rfl,run_firstCells_some w 5 1 ⟨vb,voff,none⟩ 1 vc vs (by omega) (fun j v hj=>by rw [Addr.add_lit]; exact hvs j v hj),
   run_firstCells_some w.drew 5 1 ⟨vb,voff,none⟩ 1 vc vs (by omega) (fun j v hj=>by rw [Addr.add_lit]; exact hvs j v hj),by omega,h1v⟩
set_option maxHeartbeats 4000000 in
theorem zk6 (b n c vb voff vc:Nat) (vs:List Value) (w:World) (hroom:n+1≤c) (hc63:c≤9223372036854775807) (hvl:vs.length=5) (cur:Array Value) (ty:TypeId) (hb:w.heap[b]?=some (.cells cur ty (0,0))) (hcap:c * 5≤cur.size)
 (hvs:∀ (j:Nat) v,vs[j]?=some v→w.cell? ⟨vb,voff+j,none⟩=some v) (h1v:∀ v∈vs,v.oneCell'=true) :
 Calls Tryz.prog 58 #[.slice (some ⟨b,0,none⟩) n c,.int .i64 n,.slice (some ⟨vb,voff,none⟩) 1 vc] w fun e w' =>
  e=.returned (.slice (some ⟨b,0,none⟩) (n+1) c)∧w'=w.setCells b (n * 5) vs:=by
 have t0:=Tryz.underlying0; have t3:=Tryz.underlying3; have t4:=Tryz.underlying4; have t93:=Tryz.underlying93; have z96:=Tryz.sizeOf96
 obtain ⟨i0,hi0,hz0,hzs,hzb⟩:=zsh
 have hsrc:=zsi w (vc:=vc) hvl hvs h1v
 have hcell:∀ j,j<c * 5→(w.cell? ⟨b,j,none⟩).isSome=true:=fun j hj=>by
  have:j<cur.size:=by omega
  simp [World.cell?,hb,this]
 have hrun:∀ ty,(Builtin.append_ #[93,93] ty #[.slice (some ⟨b,0,none⟩) n c,.slice (some ⟨vb,voff,none⟩) 1 vc]).run Tryz.prog w=.ok (.slice (some ⟨b,0,none⟩) (n+1) c) (w.setCells b (n * 5) vs):=fun ty=>by
  have:=run_append_room_src (P:=Tryz.prog) w 93 93 ty 96 i0 t93 hi0 b 0 n c _ 1 vs (by rw [hzs]; exact hsrc) hroom (fun j hj=>by rw [hzs,Nat.zero_add]; exact hcell _ (by omega)) (fun j hj=>by simp [World.frozen?,hb])
  rw [hzs,Nat.zero_add] at this
  exact this
 clear hcell
 go_enter Tryz.func58,Tryz.ntmps58
 go_wp2_with (at_builtin; refine Lib.wpList_append_run _ rfl _ _ _ _ rfl _ _ rfl rfl _ _ (hrun _) ?_)
 go_ret
 exact ⟨rfl,rfl⟩
set_option maxHeartbeats 4000000 in
theorem zk7 (base:Option Addr) (n c vb voff vc:Nat) (cs vs:List Value) (w:World) (hnc:n≤c) (hroom:c<n+1) (hbig:(n+1) * 48≤140737488355328)
 (hcl:cs.length=n * 5) (hvl:vs.length=5) (hnil:base=none→n=0) (hsp:∀ a,base=some a→n=0∨∃ b,a=⟨b,0,none⟩)
 (hcs:∀ a,base=some a→∀ (j:Nat) v,cs[j]?=some v→w.cell? (a.add j)=some v)
 (hvs:∀ (j:Nat) v,vs[j]?=some v→w.cell? ⟨vb,voff+j,none⟩=some v) (h1v:∀ v∈vs,v.oneCell'=true) :
 Calls Tryz.prog 58 #[.slice base n c,.int .i64 n,.slice (some ⟨vb,voff,none⟩) 1 vc] w fun e w' =>
  e=.returned (.slice (some ⟨w.heap.size,0,none⟩) (n+1) (grownCap w (n+1) c 96)) ∧
  w'=w.drew.alloc (.cells ((cs++vs).toArray++Builtin.zeroCells zEnt.cells (grownCap w (n+1) c 96 - (n+1))) 96):=by
 have t0:=Tryz.underlying0; have t3:=Tryz.underlying3; have t4:=Tryz.underlying4; have t93:=Tryz.underlying93; have z96:=Tryz.sizeOf96
 obtain ⟨i0,hi0,hz0,hzs,hzb⟩:=zsh
 have hsrc:=zsi w (vc:=vc) hvl hvs h1v
 have hold:(Builtin.firstCells i0.size n (.slice base n c)).run Tryz.prog w.drew=.ok cs.toArray w.drew:=by
  rw [hzs]
  cases base with
  | none =>
   have h0:=hnil rfl
   subst h0
   rw [List.length_eq_zero_iff.1 (by omega:cs.length=0)]
   exact run_firstCells_none w.drew 5 0 0 c
  | some a=>exact run_firstCells_some w.drew 5 n a n c cs (by omega) (fun j v hj=>hcs a rfl j v hj)
 have hrun:∀ ty,(Builtin.append_ #[93,93] ty #[.slice base n c,.slice (some ⟨vb,voff,none⟩) 1 vc]).run Tryz.prog w=_:=fun ty =>
  run_append_grow_src w 93 93 ty 96 i0 _ t93 hi0 hz0 base n c cs hold _ 1 vs (by rw [hzs]; exact hsrc) hroom (by omega) (by rw [hzb]; exact growslice_fits hroom hbig)
 go_enter Tryz.func58,Tryz.ntmps58
 cases base with
 | none =>
  have h0:=hnil rfl
  subst h0
  go_wp2_with (at_builtin; refine Lib.wpList_append_run _ rfl _ _ _ _ rfl _ _ rfl rfl _ _ (hrun _) ?_)
  go_ret
  exact ⟨rfl,rfl⟩
 | some a =>
  obtain ⟨ab,ao,asp⟩:=a
  go_wp2_with (at_builtin; refine Lib.wpList_append_run _ rfl _ _ _ _ rfl _ _ rfl rfl _ _ (hrun _) ?_)
  all_goals (go_ret; exact ⟨rfl,rfl⟩)
set_option maxHeartbeats 4000000 in
theorem zvA (b n c i vb voff vc:Nat) (cs vs:List Value) (w:World) (hi:i<n) (hnc:n≤c) (hroom:c<n+1) (hbig:(n+1) * 48≤140737488355328)
 (hcl:cs.length=n * 5) (hvl:vs.length=5)
 (hcs:∀ (j:Nat) v,cs[j]?=some v→w.cell? ⟨b,j,none⟩=some v)
 (hvs:∀ (j:Nat) v,vs[j]?=some v→w.cell? ⟨vb,voff+j,none⟩=some v) (h1c:∀ v∈cs,v.oneCell'=true) (h1v:∀ v∈vs,v.oneCell'=true) :
 Calls Tryz.prog 58 #[.slice (some ⟨b,0,none⟩) n c,.int .i64 i,.slice (some ⟨vb,voff,none⟩) 1 vc] w fun e w' =>
  e=.returned (.slice (some ⟨w.heap.size,0,none⟩) (n+1) (grownCap w (n+1) c 96)) ∧
  w'=(((w.alloc (.cells ((cs.take (i * 5)).toArray++Builtin.zeroCells zEnt.cells (n+1 - i)++Builtin.zeroCells zEnt.cells (grownCap w (n+1) c 96 - (n+1))) 96)).drew.setCells w.heap.size (i * 5) vs).drew).setCells w.heap.size ((i+1) * 5) (cs.drop (i * 5)):=by
 have t0:=Tryz.underlying0; have t3:=Tryz.underlying3; have t4:=Tryz.underlying4; have t93:=Tryz.underlying93; have z96:=Tryz.sizeOf96
 have mixed:Tryz.prog.follows .mixedOrders=true:=by kernel_rfl
 obtain ⟨i0,hi0,hz0,hzs,hzb⟩:=zsh
 have hz2:¬ ((i:Int)=(n:Int)):=by omega
 have hz3:(c:Int)<(n:Int)+1:=by omega
 have hsz:(Tryz.prog.info? 96).map (·.size)=some 5:=by rw [hi0]; simp [hzs]
 have hbw:b<w.heap.size:=block_lt_of_cell (hcs 0 _ (List.getElem?_eq_getElem (by omega)))
 have hvw:vb<w.heap.size:=block_lt_of_cell (hvs 0 _ (List.getElem?_eq_getElem (by omega)))
 have hkk:(n:Int)+1 - (i:Int)=((n+1 - i:Nat):Int):=by omega
 have hik:i+(n+1 - i)=n+1:=by omega
 have htl:(cs.take (i * 5)).length=i * 5:=by rw [List.length_take,hcl]; omega
 have hdl:(cs.drop (i * 5)).length=(n - i) * 5:=by rw [List.length_drop,hcl]; omega
 have hold:(Builtin.firstCells i0.size i (.slice (some ⟨b,0,none⟩) i c)).run Tryz.prog w.drew=.ok (cs.take (i * 5)).toArray w.drew:=by
  rw [hzs]
  exact run_firstCells_some w.drew 5 i ⟨b,0,none⟩ i c (cs.take (i * 5)) htl (fun j v hj=>by
   rw [Addr.add_lit,Nat.zero_add]
   rw [List.getElem?_take] at hj
   split at hj
   ·exact hcs j v hj
   ·cases hj)
 have hrz:∀ ty,(Builtin.append_ #[93,3] ty #[.slice (some ⟨b,0,none⟩) i c,.int .i64 ((n:Int)+1 - (i:Int))]).run Tryz.prog w =
  .ok (.slice (some ⟨w.heap.size,0,none⟩) (n+1) (grownCap w (n+1) c 96)) (w.drew.alloc (.cells ((cs.take (i * 5)).toArray++Builtin.zeroCells zEnt.cells (n+1 - i)++Builtin.zeroCells zEnt.cells (grownCap w (n+1) c 96 - (n+1))) 96)):=fun ty=>by
  have h:=Lib.run_append_grow_zeros w 93 3 ty 96 i0 _ .i64 .i64 t93 t3 hi0 hz0 (some ⟨b,0,none⟩) i c (cs.take (i * 5)) hold (n+1 - i) (by omega) (by omega) (by omega) (by omega) (by rw [hzb]; omega) (by rw [hzb,hik]; exact growslice_fits hroom hbig)
  rw [hik] at h
  rw [hkk]
  exact h
 obtain ⟨G,hG⟩:∃ G,G=grownCap w (n+1) c 96:=⟨_,rfl⟩
 obtain ⟨ROW,hROW⟩:∃ ROW:Array Value,ROW=(cs.take (i * 5)).toArray++Builtin.zeroCells zEnt.cells (n+1 - i)++Builtin.zeroCells zEnt.cells (G - (n+1)):=⟨_,rfl⟩
 rw [← hG] at hrz ⊢
 rw [← hROW] at hrz ⊢
 have hRl:(n+1) * 5≤ROW.size:=by
  rw [hROW]
  have hzc:zEnt.cells.size=5:=rfl
  simp only [Array.size_append,List.size_toArray,htl,Builtin.zeroCells,Array.size_map,Array.size_range,hzc]
  omega
 obtain ⟨W1,hW1⟩:∃ W1,W1=w.drew.alloc (.cells ROW 96):=⟨_,rfl⟩
 rw [← hW1] at hrz
 have hN:∀ j,j<(n+1) * 5→(W1.cell? ⟨w.heap.size,j,none⟩).isSome=true:=fun j hj=>by
  rw [hW1,World.cell?_alloc_at (w:=w.drew) ROW _ w.heap.size j rfl,Array.getElem?_eq_getElem (by omega)]; rfl
 have hNf:∀ j,W1.frozen? ⟨w.heap.size,j,none⟩=false:=fun j=>by rw [hW1]; exact World.frozen?_alloc_at (w:=w.drew) ROW _ w.heap.size j rfl
 have hOb:∀ j v,w.cell? ⟨b,j,none⟩=some v→W1.cell? ⟨b,j,none⟩=some v:=fun j v h=>by rw [hW1,World.cell?_alloc_past (w:=w.drew) _ b j hbw]; exact h
 have hOv:∀ j v,w.cell? ⟨vb,j,none⟩=some v→W1.cell? ⟨vb,j,none⟩=some v:=fun j v h=>by rw [hW1,World.cell?_alloc_past (w:=w.drew) _ vb j hvw]; exact h
 have hcpA:∀ (W:World),(∀ x,W.cell? x=W1.cell? x)→(∀ x,W.frozen? x=W1.frozen? x)→∀ ty dc,(Builtin.copy_ #[93,93] ty #[.slice (some ⟨w.heap.size,i * 5,none⟩) (n+1 - i) dc,.slice (some ⟨vb,voff,none⟩) 1 vc]).run Tryz.prog W=.ok (goInt ((1:Nat):Int)) (W.setCells w.heap.size (i * 5) vs):=fun W hWc hWf ty dc =>
  zcS W _ _ ty 96 5 w.heap.size (i * 5) (n+1 - i) dc ⟨vb,voff,none⟩ 1 vc 1 vs t93 hsz (by simp only [Nat.min_def]; split <;> omega) (by omega)
   (fun j v hj=>by rw [Addr.add_lit,hWc]; exact hOv _ v (hvs j v hj))
   (fun j hj=>by rw [hWc]; exact hN _ (by omega)) (fun j hj=>by rw [hWf]; exact hNf _) h1v
 have hGn:n+1≤G:=by rw [hG]; exact grownCap_ge w _ _ _
 have hG63:G≤9223372036854775807:=by
  have:=grownCap_le_maxLen w (n+1) c 96 (by unfold maxLen; omega)
  rw [← hG] at this
  unfold maxLen at this
  omega
 have hGi:¬ (G=i):=by omega
 have hGim:¬ (G=i+1):=by omega
 have hci:¬ (c=i):=by omega
 have hbN:b≠w.heap.size:=by omega
 have hlt:∀ j,j<(cs.drop (i * 5)).length→(i+1) * 5+j<(n+1) * 5:=fun j hj=>by rw [hdl] at hj; omega
 have hcpB:∀ (W:World),(∀ x,W.cell? x=(W1.setCells w.heap.size (i * 5) vs).cell? x)→(∀ x,W.frozen? x=(W1.setCells w.heap.size (i * 5) vs).frozen? x)→∀ ty dc sc,(Builtin.copy_ #[93,93] ty #[.slice (some ⟨w.heap.size,(i+1) * 5,none⟩) (n - i) dc,.slice (some ⟨b,i * 5,none⟩) (n - i) sc]).run Tryz.prog W=.ok (goInt ((n - i:Nat):Int)) (W.setCells w.heap.size ((i+1) * 5) (cs.drop (i * 5))):=fun W hWc hWf ty dc sc =>
  zcS W _ _ ty 96 5 w.heap.size ((i+1) * 5) (n - i) dc ⟨b,i * 5,none⟩ (n - i) sc (n - i) (cs.drop (i * 5)) t93 hsz (by simp only [Nat.min_def]; split <;> omega) hdl
   (fun j v hj=>by
     rw [Addr.add_lit,hWc,World.cell?_setCells_out _ _ _ _ _ (fun h _=>absurd h hbN)]
     exact hOb _ v (hcs (i * 5+j) v (by rwa [List.getElem?_drop] at hj)))
   (fun j hj=>by rw [hWc]; exact isSome_setCells _ _ _ _ (fun t ht=>hN _ (by omega)) _ (hN _ (hlt j hj)))
   (fun j hj=>by rw [hWf,World.frozen?_setCells]; exact hNf _) (fun v hv=>h1c v (List.mem_of_mem_drop hv))
 subst hW1
 have hE1:∀ x,((w.alloc (.cells ROW 96)).drew).cell? x=(w.drew.alloc (.cells ROW 96)).cell? x:=fun x=>rfl
 have hE2:∀ x,((w.alloc (.cells ROW 96)).drew).frozen? x=(w.drew.alloc (.cells ROW 96)).frozen? x:=fun x=>rfl
 have hF1:∀ x,(((w.alloc (.cells ROW 96)).drew.setCells w.heap.size (i * 5) vs).drew).cell? x=((w.drew.alloc (.cells ROW 96)).setCells w.heap.size (i * 5) vs).cell? x:=fun x=>rfl
 have hF2:∀ x,(((w.alloc (.cells ROW 96)).drew.setCells w.heap.size (i * 5) vs).drew).frozen? x=((w.drew.alloc (.cells ROW 96)).setCells w.heap.size (i * 5) vs).frozen? x:=fun x=>rfl
 have hw1:IntKind.i64.wrap ((i:Int)+1)=(i:Int)+1:=by rw [IntKind.wrap_i64]; omega
 have hw2:IntKind.i64.wrap ((n:Int)+1)=(n:Int)+1:=by rw [IntKind.wrap_i64]; omega
 have hw3:IntKind.i64.wrap ((n:Int)+1 - (i:Int))=(n:Int)+1 - (i:Int):=by rw [IntKind.wrap_i64]; omega
 have hb1:(0:Int)≤(i:Int)+1:=by omega
 have hin:i≤n:=by omega
 have htn:((i:Int)+1).toNat=i+1:=by omega
 have hb3:(i:Int)≤(n:Int):=by omega
 clear hkk hik hold hROW hG hRl hlt
 go_enter Tryz.func58,Tryz.ntmps58
 go_wp2_with (first
  | (at_builtin; refine Lib.wpList_append_run _ rfl _ _ _ _ rfl _ _ rfl rfl _ _ (hrz _) ?_)
  | (at_builtin; refine wpList_copy_runI _ rfl _ _ 93 93 rfl _ _ rfl rfl (hcpA _ hE1 hE2 _ _) ?_)
  | (at_builtin; refine wpList_copy_runI _ rfl _ _ 93 93 rfl _ _ rfl rfl (hcpB _ (fun _=>rfl) (fun _=>rfl) _ _ _) ?_))
 go_region_law_o (refine step_copy_runI rfl _ _ 93 93 rfl (.slice (some ⟨w.heap.size,(i+1) * 5,none⟩) (n - i) (G - (i+1))) (.slice (some ⟨b,i * 5,none⟩) (n - i) (c - i)) (by simp [Act.eval,Act.put]) (by simp [Act.eval,Act.put]) (hcpB _ hF1 hF2 3 (G - (i+1)) (c - i)) ?_)
 go_wp2
 go_ret
 exact ⟨rfl,rfl⟩
theorem zmD {cs vs:List Value} {i j:Nat} {v:Value} (hl:i * 5≤cs.length) (hvl:vs.length=5) (h:(cs.take (i * 5)++vs++cs.drop (i * 5))[j]?=some v) :
 (j<i * 5∧cs[j]?=some v)∨(i * 5≤j∧j<i * 5+5∧vs[j - i * 5]?=some v)∨((i+1) * 5≤j∧(cs.drop (i * 5))[j - (i+1) * 5]?=some v):=by
 have htl:(cs.take (i * 5)).length=i * 5:=by rw [List.length_take]; omega
 rw [List.append_assoc,List.getElem?_append,htl] at h
 split at h
 ·rename_i h1
  rw [List.getElem?_take,if_pos h1] at h
  exact .inl ⟨h1,h⟩
 ·rename_i h1
  rw [List.getElem?_append,hvl] at h
  split at h
  ·exact .inr (.inl ⟨by omega,by omega,h⟩)
  ·rename_i h2
   refine .inr (.inr ⟨by omega, ?_⟩)
   rwa [show j - i * 5 - 5=j - (i+1) * 5 by omega] at h
theorem zAD:zBH Tryz.prog 58 5:=by
 intro base n c i vb voff vc cs vs w hn hnc hc hi hcl hvl h1c h1v hbase hvs
 have hmax:c≤9223372036854775807:=by unfold maxLen at hc; omega
 have hgc:∀ c0,c0<n+1→n+1≤grownCap w (n+1) c0 96∧grownCap w (n+1) c0 96≤maxLen:=fun c0 _=>⟨grownCap_ge w _ _ _,grownCap_le_maxLen w (n+1) c0 96 (by unfold maxLen; omega)⟩
 -- a new row behind the heap
 have newrow:∀ (c0:Nat) (R:List Value) (T:Array Value),c0<n+1→(R=cs++vs)→(w.drew.alloc (.cells (R.toArray++T) 96)).heap[w.heap.size]?=some (.cells (R.toArray++T) 96 (0,0)):=fun c0 R T _ _=>heap_alloc_new w.drew _
 have endgrow:∀ base,i=n→c<n+1→(base=none→n=0)→(∀ a,base=some a→∀ (j:Nat) v,cs[j]?=some v→w.cell? (a.add j)=some v)→(∀ a,base=some a→n=0∨∃ b,a=⟨b,0,none⟩) →
  Calls Tryz.prog 58 #[.slice base n c,.int .i64 i,.slice (some ⟨vb,voff,none⟩) 1 vc] w fun e w' =>
  ∃ (b' c':Nat) (cur':Array Value) (ty':TypeId),e=.returned (.slice (some ⟨b',0,none⟩) (n+1) c')∧n+1≤c'∧c'≤maxLen∧w'.heap[b']?=some (.cells cur' ty' (0,0)) ∧
   (∀ (j:Nat) v,(cs.take (i * 5)++vs++cs.drop (i * 5))[j]?=some v→cur'[j]?=some v)∧((base=some ⟨b',0,none⟩∧0<c∧WSet w w' b')∨(w.heap.size≤b'∧WGrow w w')):=by
  intro base hin hroom hnil hcs hsp
  subst hin
  refine (zk7 base i c vb voff vc cs vs w hnc hroom (by omega) hcl hvl hnil hsp hcs hvs h1v).mono fun e w' he=>?_
  obtain ⟨rfl,rfl⟩:=he
  refine ⟨w.heap.size,_,_,96,rfl,(hgc c hroom).1,(hgc c hroom).2,heap_alloc_new w.drew _,fun j v hj=>?_,.inr ⟨Nat.le_refl _,⟨by simp,rfl,rfl,rfl,fun k hk=>heap_alloc_old w.drew _ hk,fun _=>Nat.le_succ _⟩⟩⟩
  rw [← hcl,List.take_length,List.drop_length,List.append_nil] at hj
  rw [Array.getElem?_append_left (by simp only [List.size_toArray]; exact (List.getElem?_eq_some_iff.1 hj).1)]
  simpa using hj
 rcases hbase with ⟨b,cur,ty,rfl,hb,hcap,hcur,hvb⟩ | ⟨h0,hc0⟩
 ·have hcell:∀ (j:Nat) v,cs[j]?=some v→w.cell? ⟨b,j,none⟩=some v:=fun j v h=>by
   simp only [World.cell?,hb,Option.isSome_none,Bool.false_eq_true,if_false]
   exact hcur j v h
  by_cases hroom:n+1≤c
  ·by_cases hin:i=n
   ·subst hin
    refine (zk6 b i c vb voff vc vs w hroom hmax hvl cur ty hb hcap hvs h1v).mono fun e w' he=>?_
    obtain ⟨rfl,rfl⟩:=he
    have hle:i * 5+vs.length≤cur.size:=by omega
    obtain ⟨⟨cur',c1,c2,c3⟩,_⟩:=zaH b vs (i * 5) w cur ty (0,0) hb hle
    refine ⟨b,c,cur',ty,rfl,hroom,hc,c1,fun j v hj=>?_,.inl ⟨rfl,by omega,zaV hb hle⟩⟩
    rw [c3]
    rcases zmD (by omega) hvl hj with ⟨q1,q2⟩ | ⟨q1,q2,q3⟩ | ⟨q1,q2⟩
    ·rw [if_neg (by omega)]; exact hcur j v q2
    ·rw [if_pos (by omega)]; exact q3
    ·rw [← hcl,List.drop_length] at q2; simp at q2
   ·have hi':i<n:=by omega
    obtain ⟨curA,tA,frA,ha,hA⟩:∃ curA tA frA,w.heap[vb]?=some (.cells curA tA frA)∧curA.size≠0:=by
     have h0:=hvs 0 _ (List.getElem?_eq_getElem (by omega))
     obtain ⟨cA,eA,fA,q1,q2⟩:=Go.Sort.cells_of_cell? h0
     exact ⟨cA,eA,fA,q1,fun h=>by have:=(Array.getElem?_eq_some_iff.1 q2).1; omega⟩
    refine (zsg b n c i vb voff vc cs vs w hi' hroom hmax hvb hcl hvl cur ty hb hcap hcell hvs h1c h1v ha hA).mono fun e w' he=>?_
    obtain ⟨rfl,rfl⟩:=he
    have hdl:(cs.drop (i * 5)).length=(n - i) * 5:=by rw [List.length_drop,hcl]; omega
    have hle1:(i+1) * 5+(cs.drop (i * 5)).length≤cur.size:=by rw [hdl]; omega
    obtain ⟨⟨cur1,c1,c2,c3⟩,c4⟩:=zaH b (cs.drop (i * 5)) ((i+1) * 5) w.drew cur ty (0,0) hb hle1
    have hle2:i * 5+vs.length≤cur1.size:=by omega
    obtain ⟨⟨cur2,d1,d2,d3⟩,d4⟩:=zaH b vs (i * 5) _ cur1 ty (0,0) c1 hle2
    have w1:=zaV (w:=w.drew) (us:=cs.drop (i * 5)) hb hle1
    have w2:=zaV (us:=vs) c1 hle2
    refine ⟨b,c,cur2,ty,rfl,hroom,hc,d1,fun j v hj=>?_,.inl ⟨rfl,by omega,⟨w2.size.trans w1.size,w2.tape.trans w1.tape,w2.os.trans w1.os,w2.output.trans w1.output,fun k hk=>(w2.old k hk).trans (w1.old k hk),fun m=>Nat.le_trans (Nat.le_trans (Nat.le_succ _) (w1.drawn m)) (w2.drawn m)⟩⟩⟩
    rw [d3]
    rcases zmD (by omega) hvl hj with ⟨q1,q2⟩ | ⟨q1,q2,q3⟩ | ⟨q1,q2⟩
    ·rw [if_neg (by omega),c3,if_neg (by omega)]; exact hcur j v q2
    ·rw [if_pos (by omega)]; exact q3
    ·have:=(List.getElem?_eq_some_iff.1 q2).1
     rw [if_neg (by omega),c3,if_pos (by omega)]; exact q2
  ·by_cases hin:i=n
   ·exact endgrow _ hin (by omega) (fun h=>by cases h) (fun a ha j v hj=>by injection ha with ha; subst ha; rw [Addr.add_lit,Nat.zero_add]; exact hcell j v hj) (fun a ha=>by injection ha with ha; exact .inr ⟨b,ha.symm⟩)
   ·have hi':i<n:=by omega
    refine (zvA b n c i vb voff vc cs vs w hi' hnc (by omega) (by omega) hcl hvl hcell hvs h1c h1v).mono fun e w' he=>?_
    obtain ⟨rfl,rfl⟩:=he
    have hdl:(cs.drop (i * 5)).length=(n - i) * 5:=by rw [List.length_drop,hcl]; omega
    have htl:(cs.take (i * 5)).length=i * 5:=by rw [List.length_take]; omega
    generalize hROW:(cs.take (i * 5)).toArray++Builtin.zeroCells zEnt.cells (n+1 - i)++Builtin.zeroCells zEnt.cells (grownCap w (n+1) c 96 - (n+1))=ROW
    have hRl:(n+1) * 5≤ROW.size:=by
     rw [← hROW]
     have hzc:zEnt.cells.size=5:=rfl
     simp only [Array.size_append,List.size_toArray,htl,Builtin.zeroCells,Array.size_map,Array.size_range,hzc]
     omega
    have hRg:∀ j,j<i * 5→ROW[j]?=cs[j]?:=fun j hj=>by
     rw [← hROW,Array.append_assoc,Array.getElem?_append_left (by simp only [List.size_toArray,htl]; exact hj),List.getElem?_toArray,List.getElem?_take,if_pos hj]
    have h0:(w.alloc (.cells ROW 96)).drew.heap[w.heap.size]?=some (.cells ROW 96 (0,0)):=heap_alloc_new w _
    have hle1:i * 5+vs.length≤ROW.size:=by omega
    obtain ⟨⟨cur1,c1,c2,c3⟩,c4⟩:=zaH w.heap.size vs (i * 5) (w.alloc (.cells ROW 96)).drew ROW 96 (0,0) h0 hle1
    have hle2:(i+1) * 5+(cs.drop (i * 5)).length≤cur1.size:=by rw [hdl]; omega
    have c1':((w.alloc (.cells ROW 96)).drew.setCells w.heap.size (i * 5) vs).drew.heap[w.heap.size]?=some (.cells cur1 96 (0,0)):=c1
    obtain ⟨⟨cur2,d1,d2,d3⟩,d4⟩:=zaH w.heap.size (cs.drop (i * 5)) ((i+1) * 5) _ cur1 96 (0,0) c1' hle2
    have w1:=zaV (w:=(w.alloc (.cells ROW 96)).drew) (us:=vs) h0 hle1
    have w2:=zaV (us:=cs.drop (i * 5)) c1' hle2
    refine ⟨w.heap.size,_,cur2,96,rfl,(hgc c (by omega)).1,(hgc c (by omega)).2,d1,fun j v hj=>?_,.inr ⟨Nat.le_refl _,⟨?_,w2.tape.trans w1.tape,w2.os.trans w1.os,w2.output.trans w1.output,fun k hk=>?_,fun m=>?_⟩⟩⟩
    ·rw [d3]
     rcases zmD (by omega) hvl hj with ⟨q1,q2⟩ | ⟨q1,q2,q3⟩ | ⟨q1,q2⟩
     ·rw [if_neg (by omega),c3,if_neg (by omega),hRg j q1]; exact q2
     ·rw [if_neg (by omega),c3,if_pos (by omega)]; exact q3
     ·have:=(List.getElem?_eq_some_iff.1 q2).1
      rw [if_pos (by omega)]; exact q2
    ·have e1:=w2.size
     have e2:=w1.size
     have e3:(w.alloc (.cells ROW 96)).drew.heap.size=w.heap.size+1:=by show (w.alloc (.cells ROW 96)).heap.size=_; simp
     have e4:((w.alloc (.cells ROW 96)).drew.setCells w.heap.size (i * 5) vs).drew.heap.size=((w.alloc (.cells ROW 96)).drew.setCells w.heap.size (i * 5) vs).heap.size:=rfl
     omega
    ·exact ((w2.old k (by omega)).trans (w1.old k (by omega))).trans (heap_alloc_old w _ hk)
    ·exact Nat.le_trans (Nat.le_trans (Nat.le_trans (Nat.le_succ w.drawn) (w1.drawn m)) (Nat.le_succ _)) (w2.drawn m)
 ·subst h0 hc0
  have hi0:i=0:=by omega
  subst hi0
  have hcs0:cs=[]:=List.length_eq_zero_iff.1 (by omega)
  exact endgrow base rfl (by omega) (fun _=>rfl) (fun a _ j v hj=>by rw [hcs0] at hj; simp at hj) (fun _ _=>.inl rfl)
theorem zDl:zcO Tryz.prog 79 ⟨8,[],.trap,0,10,zbd⟩ :=
 zwJ (fun h=>h) rfl ⟨_,_,Tryz.func79,by kernel_rfl,rfl⟩ Tryz.strings_Join_none Tryz.strings_Join
theorem zDm:zcO Tryz.prog 156 ⟨8,[],.trap,0,11,zbd⟩ :=
 ztK rfl ⟨_,_,Tryz.func156,by kernel_rfl,rfl⟩ (t:=9) fun s sep w hD hs h1=>by
  obtain ⟨⟨m,hm⟩,_⟩:=hD
  exact Tryz.strings_Split s sep m w hs hm h1
theorem zDn:zcO Tryz.prog 165 ⟨8,[],.trap,0,12,zbd⟩ :=
 zwK rfl ⟨_,_,Tryz.func165,by kernel_rfl,rfl⟩ fun n w hD h0 h1=>(Tryz.strconv_Itoa n h0 h1 w hD.2).mono fun e w' he=>by
  obtain ⟨rfl,k,os,rfl⟩:=he
  exact ⟨rfl,zdO (Lib.below_grow _ _ (Nat.le_refl _) _ _) fun h=>h.elim⟩
theorem zDo:zcO Tryz.prog 128 ⟨8,[],.trap,5,17,zbd⟩ :=
 ztL (fun h=>h) rfl ⟨_,_,Tryz.func128,by kernel_rfl,rfl⟩ zsf zse
theorem zDp:zcO Tryz.prog 162 ⟨8,[],.trap,176,20,zbd⟩ :=
 zwL rfl ⟨_,_,Tryz.func162,by kernel_rfl,rfl⟩ zr8 zpb
theorem zbA:zcO Tryz.prog 58 ⟨8,[],.trap,0,30,zr9⟩ :=
 zyL rfl rfl ⟨_,_,Tryz.func58,by kernel_rfl,rfl⟩ zAD
theorem zbB:zcO Tryz.prog 107 ⟨8,[],.trap,0,30,zj3⟩:=zsb
theorem zbI:zcO Tryz.prog 140 ⟨8,[],.trap,0,30,zj4⟩:=zsc
theorem zbS:zcO Tryz.prog 62 ⟨8,[],.trap,0,30,zj5⟩:=zsd
end Go.Proofs.YtchjbidfmhmmhaaGreatDoor
