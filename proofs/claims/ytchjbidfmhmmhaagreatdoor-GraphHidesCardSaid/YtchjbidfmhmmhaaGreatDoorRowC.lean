/- Own work: the zaG machine and what it shows, part RowC. -/
import Derived.Test.YtchjbidfmhmmhaaGreatDoorAl
import Derived.Test.YtchjbidfmhmmhaaGreatDoorShF
import Derived.Test.YtchjbidfmhmmhaaGreatDoorTie
import Derived.Test.YtchjbidfmhmmhaaGreatDoorCards
import Derived.LaidMore
import Derived.Lay
import Derived.SevenTiedAt
import Derived.Stop.Joined
import Derived.HandedShaped
set_option linter.all false
namespace Go.Proofs.YtchjbidfmhmmhaaGreatDoor
open Go.Sh Go.ChangeShapes Go.WideShapes Go.ChangeAt Go.RowKit
set_option maxRecDepth 100000
theorem zxX:ownKnob Tryz.prog.godebug=none:=by kernel_rfl
theorem zDt:laidOutB Tryz.prog=true:=by kernel_rfl
theorem zAI:Tryz.prog.follows .mixedOrders=true:=by kernel_rfl
theorem zhJ {P:Program} {W:World} {H:Type} {enc:TypeId × Value→H} : ∀ {ts:List TypeId} {vs:List Value} {ds:List (DataW H)} {ps:List MemPlace},DataW.TrodAll enc P W 0 (fun _=>true) true ts vs ds ps→ts.length=ds.length
 | [],_,_,_,h=>by obtain ⟨_,rfl,_⟩:=trodAll_nil h; rfl
 | t::ts,_,_,_,h=>by
  obtain ⟨v,vs',d,ds',p,q,rfl,rfl,rfl,h1,h2⟩:=trodAll_cons h
  rw [List.length_cons,List.length_cons,zhJ h2]
theorem zhK {P:Program} {H:Type} {n:Nat} : ∀ {ts us:List TypeId} {ds es:List (DataW H)},ts.length=ds.length→n∈DataW.weightsEach P ts ds→n∈DataW.weightsEach P (ts++us) (ds++es)
 | [],_,[],_,_,h=>by simp [DataW.weightsEach] at h
 | t::ts,us,d::ds,es,hl,h=>by
  rw [DataW.weightsEach] at h
  rw [List.cons_append,List.cons_append,DataW.weightsEach]
  rcases List.mem_append.1 h with h | h
  ·exact List.mem_append.2 (.inl h)
  ·exact List.mem_append.2 (.inr (zhK (by simpa using hl) h))
 | [],_,_::_,_,hl,_=>by simp at hl
 | _::_,_,[],_,hl,_=>by simp at hl
theorem zmH {H:Type} {enc:TypeId × Value→H} {a:Assume} {C:Checked} {os:Os} {f:FuncId} {fn:Func} {s:ChangeSpec} {conds:List PathCond} {apart fresh handsOn again:Bool} {X:World→Array Value→Prop}
 (hX:∀ (w w':World) (args:Array Value),w.heap=w'.heap→X w args→X w' args)
 (own:ownKnob C.prog.godebug=none) (started:os.Started) (noInit:C.prog.inits.idxOf? f=none) (hfn:C.prog.funcs[f]?=some fn)
 (witness:∃ (w:World) (tape:Tape) (i:Input),w.os=os∧(w.forCall tape i).Shaped C.prog∧i.vars=[]∧Input.okWide C.prog (w.forCall tape i) .any w.heap.size f i ∧
   ((s.pre enc C.prog fn conds apart (w.forCall tape i).memory i.args∧X (w.forCall tape i).memory i.args)∧sizedMet enc C.prog fn (OpenSpec.ofChange s) apart (w.forCall tape i).memory i.args)∧a.holds C.prog (lone (Frame.enter C.prog f i.args .normal) [] (w.forCall tape i)))
 (contract:∀ (W:World) (base:Nat) (args:Array Value) (ds gs:List (DataW H)) (before:List MemPlace),
   (∀ (j:Nat) t v,fn.params[j]?=some t→args[j]?=some v→Value.okWide C.prog W .any base t v) →
   DataW.Whole enc C.prog fn.params.toList s.vars apart W args.toList ds gs before →
   (∀ n∈DataW.weightsEach C.prog fn.params.toList ds,n≤zfj)→X W args→W.ShapedOpen C.prog →
   Calls C.prog f args W fun e W'=>∃ v,e=.returned v∧s.post enc C.prog fn apart fresh handsOn again W args v W') :
 ReturnsInHanded a C os f .any (fun w args=>(s.pre enc C.prog fn conds apart w args∧X w args)∧sizedMet enc C.prog fn (OpenSpec.ofChange s) apart w args) (s.post enc C.prog fn apart fresh handsOn again):=by
 refine returnsInHanded_of_calls own started noInit witness ?_
 intro w tape i _ hsh _ hok hpre hholds
 obtain ⟨_,_,_,fn',hfn',_,_,_,_,hval⟩:=hok
 have e:fn'=fn:=Option.some.inj (hfn'.symm.trans hfn)
 subst e
 obtain ⟨⟨_,hx⟩,_,ds,gs,before,hw,hz⟩:=hpre
 have hl:fn'.params.toList.length=ds.length:=by
  obtain ⟨p,q,hA,_⟩:=hw
  exact zhJ hA
 have hc:∀ n∈DataW.weightsEach C.prog fn'.params.toList ds,n≤zfj:=fun n hn=>by
  have:=List.all_eq_true.1 hz n (zhK hl hn)
  exact of_decide_eq_true this
 have hw':=DataW.Whole.of_heap (w':=w.forCall tape i) (by rfl) hw
 refine (contract (w.forCall tape i) w.heap.size i.args ds gs before hval hw' hc (hX _ _ _ (by rfl) hx) hsh).mono fun e W' ⟨v,he,hp⟩=>?_
 subst he
 exact ChangeSpec.post_blind hp
theorem zsu {w w':World} {g o:Nat} (h:w'.heap[g]?=w.heap[g]?):w'.cell? ⟨g,o,none⟩=w.cell? ⟨g,o,none⟩:=by simp [World.cell?,h]
theorem zvH {W:World} (hL:laidMetH Tryz.prog Rows.graphLinesRow.laid W) (hS:W.ShapedOpen Tryz.prog):∀ w':World,(∀ b,b<W.heap.size→w'.heap[b]?=W.heap[b]?)→Facts.D w':=by
 intro w' hw
 rw [MakeChecks.laidMetH_plain _ _ _ (by kernel_rfl)] at hL
 obtain ⟨ps,⟨g1,t1,cs1,f1,p1,q1,_,_,_,_,⟨g2,t2,cs2,f2,p2,q2,_,_,_,_,⟨g3,t3,cs3,f3,p3,q3,hg3,ht3,hv3,hd3,⟨g4,t4,cs4,f4,p4,q4,_,_,_,_,⟨g5,t5,cs5,f5,p5,q5,_,_,_,_,_,_⟩,_⟩,_⟩,_⟩,_⟩,_⟩:=hL
 have e3:Tryz.prog.globalNamed "internal/strconv.uint64pow10" = some 1:=by kernel_rfl
 have y3:(Tryz.prog.globals[1]?).map (·.type)=some 257:=by kernel_rfl
 obtain rfl:=Option.some.inj (e3.symm.trans hg3)
 obtain rfl:=Option.some.inj (y3.symm.trans ht3)
 obtain ⟨m,hm⟩:=cell_of_shapedOpen_int (P:=Tryz.prog) (g:=0) (k:=.i64) (zero := #[.int .i64 0]) (t:=3) hS (of_decide_eq_true (by kernel_rfl)) (by kernel_rfl) rfl (by kernel_rfl) (by kernel_rfl) Tryz.underlying3
 have hsz:1<W.heap.size:=by
  rcases Nat.lt_or_ge 1 W.heap.size with h | h
  ·exact h
  ·have:W.heap[1]?=none:=Array.getElem?_eq_none h
   simp [World.var?,e3,this] at hv3
 have hc:∀ g o,g<2→w'.cell? ⟨g,o,none⟩=W.cell? ⟨g,o,none⟩:=fun g o hg=>zsu (hw g (by omega))
 refine ⟨⟨m,(hc 0 0 (by omega)).trans hm⟩, ?_⟩
 have hcs:=Lib.cells_of_tab (k:=.u64) (zs:=Lib.pow10Tab) (n:=20) (show Tryz.prog.underlying 257=some (.array 20 202) from by kernel_rfl) (show Tryz.prog.underlying 202=some (.int .u64) from by kernel_rfl) (by kernel_rfl) (by kernel_rfl) (show DataW.trod _ _ _ _ _ _ _ _ _=some (Lib.tabData .u64 Lib.pow10Tab,p3) from hd3)
 unfold Lib.TabIs
 have:w'.var? Tryz.prog "internal/strconv.uint64pow10" = W.var? Tryz.prog "internal/strconv.uint64pow10" := by
  simp only [World.var?,e3,Option.bind_some,hw 1 (by omega)]
 rw [this,hv3,← hcs]
end Go.Proofs.YtchjbidfmhmmhaaGreatDoor
