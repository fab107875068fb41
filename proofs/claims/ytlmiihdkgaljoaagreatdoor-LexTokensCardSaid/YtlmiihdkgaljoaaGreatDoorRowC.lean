/- Own work: the shadow machine and what it shows, part RowC. -/
import Derived.Test.YtlmiihdkgaljoaaGreatDoorFun
import Derived.Test.YtlmiihdkgaljoaaGreatDoorShF
import Derived.Test.YtlmiihdkgaljoaaGreatDoorTie
import Derived.Test.YtlmiihdkgaljoaaGreatDoorCards
import Derived.LaidMore
import Derived.Lay
import Derived.SevenTiedAt
import Derived.Stop.Joined
import Derived.HandedShaped
set_option linter.all false

namespace Go.Proofs.YtlmiihdkgaljoaaGreatDoor
open Go.Sh Go.ChangeShapes Go.WideShapes Go.ChangeAt Go.RowKit
set_option maxRecDepth 100000

theorem own0 : ownKnob Tryz.prog.godebug = none := by kernel_rfl
theorem laid0 : laidOutB Tryz.prog = true := by kernel_rfl
theorem mixed0 : Tryz.prog.follows .mixedOrders = true := by kernel_rfl

theorem trodAll_len {P : Program} {W : World} {H : Type} {enc : TypeId × Value → H} : ∀ {ts : List TypeId} {vs : List Value} {ds : List (DataW H)} {ps : List MemPlace}, DataW.TrodAll enc P W 0 (fun _ => true) true ts vs ds ps → ts.length = ds.length
  | [], _, _, _, h => by obtain ⟨_, rfl, _⟩ := trodAll_nil h; rfl
  | t :: ts, _, _, _, h => by
    obtain ⟨v, vs', d, ds', p, q, rfl, rfl, rfl, h1, h2⟩ := trodAll_cons h
    rw [List.length_cons, List.length_cons, trodAll_len h2]

theorem weights_pre {P : Program} {H : Type} {n : Nat} : ∀ {ts us : List TypeId} {ds es : List (DataW H)}, ts.length = ds.length → n ∈ DataW.weightsEach P ts ds → n ∈ DataW.weightsEach P (ts ++ us) (ds ++ es)
  | [], _, [], _, _, h => by simp [DataW.weightsEach] at h
  | t :: ts, us, d :: ds, es, hl, h => by
    rw [DataW.weightsEach] at h
    rw [List.cons_append, List.cons_append, DataW.weightsEach]
    rcases List.mem_append.1 h with h | h
    · exact List.mem_append.2 (.inl h)
    · exact List.mem_append.2 (.inr (weights_pre (by simpa using hl) h))
  | [], _, _ :: _, _, hl, _ => by simp at hl
  | _ :: _, _, [], _, hl, _ => by simp at hl

/-- The plain wrap, with what the row lists and the world's shape. -/
theorem handed_both {H : Type} {enc : TypeId × Value → H} {a : Assume} {C : Checked} {os : Os} {f : FuncId} {fn : Func} {s : ChangeSpec} {conds : List PathCond} {apart fresh handsOn again : Bool} {X : World → Array Value → Prop}
    (hX : ∀ (w w' : World) (args : Array Value), w.heap = w'.heap → X w args → X w' args)
    (own : ownKnob C.prog.godebug = none) (started : os.Started) (noInit : C.prog.inits.idxOf? f = none) (hfn : C.prog.funcs[f]? = some fn)
    (witness : ∃ (w : World) (tape : Tape) (i : Input), w.os = os ∧ (w.forCall tape i).Shaped C.prog ∧ i.vars = [] ∧ Input.okWide C.prog (w.forCall tape i) .any w.heap.size f i ∧
      ((s.pre enc C.prog fn conds apart (w.forCall tape i).memory i.args ∧ X (w.forCall tape i).memory i.args) ∧ sizedMet enc C.prog fn (OpenSpec.ofChange s) apart (w.forCall tape i).memory i.args) ∧ a.holds C.prog (lone (Frame.enter C.prog f i.args .normal) [] (w.forCall tape i)))
    (contract : ∀ (W : World) (base : Nat) (args : Array Value) (ds gs : List (DataW H)) (before : List MemPlace),
      (∀ (j : Nat) t v, fn.params[j]? = some t → args[j]? = some v → Value.okWide C.prog W .any base t v) →
      DataW.Whole enc C.prog fn.params.toList s.vars apart W args.toList ds gs before →
      (∀ n ∈ DataW.weightsEach C.prog fn.params.toList ds, n ≤ strMost) → X W args → W.ShapedOpen C.prog →
      Calls C.prog f args W fun e W' => ∃ v, e = .returned v ∧ s.post enc C.prog fn apart fresh handsOn again W args v W') :
    ReturnsInHanded a C os f .any (fun w args => (s.pre enc C.prog fn conds apart w args ∧ X w args) ∧ sizedMet enc C.prog fn (OpenSpec.ofChange s) apart w args) (s.post enc C.prog fn apart fresh handsOn again) := by
  refine returnsInHanded_of_calls own started noInit witness ?_
  intro w tape i _ hsh _ hok hpre hholds
  obtain ⟨_, _, _, fn', hfn', _, _, _, _, hval⟩ := hok
  have e : fn' = fn := Option.some.inj (hfn'.symm.trans hfn)
  subst e
  obtain ⟨⟨_, hx⟩, _, ds, gs, before, hw, hz⟩ := hpre
  have hl : fn'.params.toList.length = ds.length := by
    obtain ⟨p, q, hA, _⟩ := hw
    exact trodAll_len hA
  have hc : ∀ n ∈ DataW.weightsEach C.prog fn'.params.toList ds, n ≤ strMost := fun n hn => by
    have := List.all_eq_true.1 hz n (weights_pre hl hn)
    exact of_decide_eq_true this
  have hw' := DataW.Whole.of_heap (w' := w.forCall tape i) (by rfl) hw
  refine (contract (w.forCall tape i) w.heap.size i.args ds gs before hval hw' hc (hX _ _ _ (by rfl) hx) hsh).mono fun e W' ⟨v, he, hp⟩ => ?_
  subst he
  exact ChangeSpec.post_blind hp

theorem cell_same {w w' : World} {g o : Nat} (h : w'.heap[g]? = w.heap[g]?) : w'.cell? ⟨g, o, none⟩ = w.cell? ⟨g, o, none⟩ := by simp [World.cell?, h]

theorem iface_cell {W : World} {name s : String} {d : DataW Unit} {g t : Nat} {cs : Array Value} {fuel : Nat} {p : List MemPlace} (hg : Tryz.prog.globalNamed name = some g) (ht : (match Tryz.prog.underlying t with | some (.interface _) => true | _ => false) = true)
    (hv : W.var? Tryz.prog name = some cs) (h : DataW.trod (fun _ => ()) Tryz.prog W 0 (fun _ => true) false fuel t cs.toList = some (.iface s d, p)) : ∃ te pe, W.cell? ⟨g, 0, none⟩ = some (.iface te pe) := by
  have hc := World.var?_cell hg hv 0
  cases fuel with
  | zero => simp [DataW.trod] at h
  | succ fuel =>
    rcases cs with ⟨cs⟩
    split at ht <;> try (cases ht; done)
    rename_i ms hms
    simp only [DataW.trod, hms] at h
    split at h
    all_goals first
      | (cases h; done)
      | (simp_all; done)

/-- What is known of the library's variables, out of the row's list and the world's shape. -/
theorem facts_of {W : World} (hL : laidMetH Tryz.prog Rows.lexLongRow.laid W) (hS : W.ShapedOpen Tryz.prog) : ∀ w' : World, (∀ b, b < W.heap.size → w'.heap[b]? = W.heap[b]?) → Facts.D w' := by
  intro w' hw
  rw [MakeChecks.laidMetH_plain _ _ _ (by kernel_rfl)] at hL
  obtain ⟨ps, ⟨g1, t1, cs1, f1, p1, q1, _, _, _, _, ⟨g2, t2, cs2, f2, p2, q2, _, _, _, _, ⟨g3, t3, cs3, f3, p3, q3, hg3, ht3, hv3, hd3, ⟨g4, t4, cs4, f4, p4, q4, _, _, _, _, ⟨g5, t5, cs5, f5, p5, q5, hg5, ht5, hv5, hd5, ⟨g6, t6, cs6, f6, p6, q6, hg6, ht6, hv6, hd6, _, _⟩, _⟩, _⟩, _⟩, _⟩, _⟩, _⟩ := hL
  have e3 : Tryz.prog.globalNamed "internal/strconv.uint64pow10" = some 5 := by kernel_rfl
  have e5 : Tryz.prog.globalNamed "strconv.ErrRange" = some 4 := by kernel_rfl
  have e6 : Tryz.prog.globalNamed "strconv.ErrSyntax" = some 3 := by kernel_rfl
  have y3 : (Tryz.prog.globals[5]?).map (·.type) = some 124 := by kernel_rfl
  have y5 : (Tryz.prog.globals[4]?).map (·.type) = some 63 := by kernel_rfl
  have y6 : (Tryz.prog.globals[3]?).map (·.type) = some 63 := by kernel_rfl
  obtain rfl := Option.some.inj (e3.symm.trans hg3)
  obtain rfl := Option.some.inj (e5.symm.trans hg5)
  obtain rfl := Option.some.inj (e6.symm.trans hg6)
  obtain rfl := Option.some.inj (y3.symm.trans ht3)
  obtain rfl := Option.some.inj (y5.symm.trans ht5)
  obtain rfl := Option.some.inj (y6.symm.trans ht6)
  obtain ⟨m, hm⟩ := cell_of_shapedOpen_int (P := Tryz.prog) (g := 2) (k := .i64) (zero := #[.int .i64 0]) (t := 3) hS (of_decide_eq_true (by kernel_rfl)) (by kernel_rfl) rfl (by kernel_rfl) (by kernel_rfl) Tryz.underlying3
  have hsz : 5 < W.heap.size := by
    rcases Nat.lt_or_ge 5 W.heap.size with h | h
    · exact h
    · have : W.heap[5]? = none := Array.getElem?_eq_none h
      simp [World.var?, e3, this] at hv3
  have hc : ∀ g o, g < 6 → w'.cell? ⟨g, o, none⟩ = W.cell? ⟨g, o, none⟩ := fun g o hg => cell_same (hw g (by omega))
  obtain ⟨r1, r2, hr⟩ := iface_cell e5 (by kernel_rfl) hv5 hd5
  obtain ⟨r3, r4, hr'⟩ := iface_cell e6 (by kernel_rfl) hv6 hd6
  refine ⟨⟨m, (hc 2 0 (by omega)).trans hm⟩, ?_, ⟨r3, r4, (hc 3 0 (by omega)).trans hr'⟩, ⟨r1, r2, (hc 4 0 (by omega)).trans hr⟩⟩
  have hcs := Lib.cells_of_tab (k := .u64) (zs := Lib.pow10Tab) (n := 20) (show Tryz.prog.underlying 124 = some (.array 20 112) from by kernel_rfl) (show Tryz.prog.underlying 112 = some (.int .u64) from by kernel_rfl) (by kernel_rfl) (by kernel_rfl) (show DataW.trod _ _ _ _ _ _ _ _ _ = some (Lib.tabData .u64 Lib.pow10Tab, p3) from hd3)
  unfold Lib.TabIs
  have : w'.var? Tryz.prog "internal/strconv.uint64pow10" = W.var? Tryz.prog "internal/strconv.uint64pow10" := by
    simp only [World.var?, e3, Option.bind_some, hw 5 (by omega)]
  rw [this, hv3, ← hcs]

end Go.Proofs.YtlmiihdkgaljoaaGreatDoor
