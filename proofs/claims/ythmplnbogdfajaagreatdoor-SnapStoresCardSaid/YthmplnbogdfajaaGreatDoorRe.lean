/- Own work: the shadow machine and what it shows, part Re. -/
import Derived.Test.YthmplnbogdfajaaGreatDoorBy
set_option linter.all false
namespace Go.Proofs.YthmplnbogdfajaaGreatDoor
open Go.Sh
set_option maxRecDepth 100000
structure Made (H : GH) (zs : List GV) (H' : GH) (s' : GV) : Prop where
  el : Elems 1 s' zs
  step : TokStep none H H'
theorem Made.trans {H H1 H2 : GH} {xs ys : List GV} {s1 s2 : GV} (h : Made H xs H1 s1) (h' : Made H1 ys H2 s2) : Made H ys H2 s2 := ⟨h'.el, h.step.trans h'.step⟩
theorem Made.ok {H H1 : GH} {xs : List GV} {s1 : GV} (h : Made H xs H1 s1) : s1.ok = true := h.el.ok
theorem Made.btle {H H1 : GH} {xs : List GV} {s1 : GV} (h : Made H xs H1 s1) (hb : H.bt ≤ H.toks.length) : H1.bt ≤ H1.toks.length := h.step.btle hb
theorem Made.refl {H : GH} {xs : List GV} {s : GV} (h : Elems 1 s xs) : Made H xs H s := ⟨h, .refl _ _⟩
end Go.Proofs.YthmplnbogdfajaaGreatDoor
namespace Go.Proofs.YthmplnbogdfajaaGreatDoor
open Go.Sh
set_option maxRecDepth 100000
theorem App.keep' {H H1 : GH} {own : Option Nat} {sz : Nat} {s : GV} {xs : List GV} (h : App H sz s xs) (ht : TokStep own H H1) (hn : ∀ t, tokOf s = some t → own ≠ some t) : App H1 sz s xs := by
  cases h with
  | nil => exact .nil
  | exact => exact .exact _
  | tok _ h hb => exact .tok _ (ht.tok _ _ (hn _ rfl) h) (by rw [ht.bt]; exact hb)
abbrev dotG (e : Ent) : GV := .agg [.int .i64 e.r, .int .i64 e.c]
abbrev valG (e : Ent) : GV := .agg [.int .i64 e.k, .int .i64 e.n, .str (mkB e.t)]
structure Two (H0 : GH) (ds vs : List GV) (H : GH) (d v : GV) : Prop where
  da : App H 2 d ds
  va : App H 3 v vs
  step : TokStep none H0 H
  dn : ∀ t, tokOf d = some t → H0.toks.length ≤ t
  vn : ∀ t, tokOf v = some t → H0.toks.length ≤ t
  ne : ∀ t, tokOf d = some t → tokOf v ≠ some t
theorem TokStep.fresh {H0 H H' : GH} {own : Option Nat} (h : TokStep none H0 H) (h' : TokStep own H H') (hn : ∀ t, own = some t → H0.toks.length ≤ t) : TokStep none H0 H' :=
  ⟨h'.objs.trans h.objs, h'.bo.trans h.bo, h'.bt.trans h.bt, Nat.le_trans h.len h'.len, fun t p _ hp => h'.tok t p (fun e => by
    have := hn t e
    have := (List.getElem?_eq_some_iff.1 hp).1
    omega) (h.tok t p (by simp) hp)⟩
theorem Two.grow {H0 H : GH} {ds vs : List GV} {d v : GV} (h : Two H0 ds vs H d v) (hbt : H0.bt ≤ H0.toks.length) (x y : GV) (hd : ds.length ≤ 2 ^ 20) (hv : vs.length ≤ 2 ^ 20) (t1 t2 : Nat) :
    ∃ d' v' H1 H', gAppend H t1 2 16 d (.sl 2 [x] .exact) = some (d', H1) ∧ gAppend H1 t2 3 32 v (.sl 3 [y] .exact) = some (v', H') ∧ d'.ok = true ∧ v'.ok = true ∧ Two H0 (ds ++ [x]) (vs ++ [y]) H' d' v' := by
  have hb := h.step.btle hbt
  obtain ⟨d', H1, a1, a2, a3, a4⟩ := append_ok (ty := t1) (bytes := 16) (ys := [x]) (x := .sl 2 [x] .exact) h.da (by simp [gNews]) hb (by simp only [List.length_singleton, room]; omega) (by simp only [List.length_singleton, maxLen]; omega)
  have hva := App.keep' h.va a3 (fun t ht e => h.ne t e ht)
  have hb1 := a3.btle hb
  obtain ⟨v', H', b1, b2, b3, b4⟩ := append_ok (ty := t2) (bytes := 32) (ys := [y]) (x := .sl 3 [y] .exact) hva (by simp [gNews]) hb1 (by simp only [List.length_singleton, room]; omega) (by simp only [List.length_singleton, maxLen]; omega)
  have dn' : ∀ t, tokOf d' = some t → H0.toks.length ≤ t := fun t ht => by
    rcases a4 with e | e
    · exact h.dn t (e ▸ ht)
    · exact Nat.le_trans h.step.len (e t ht)
  have vlt := h.va.tok_lt
  have dlt := a2.tok_lt
  have ne1 : ∀ t, tokOf d' = some t → tokOf v ≠ some t := fun t ht hv => by
    rcases a4 with e | e
    · exact h.ne t (e ▸ ht) hv
    · have := e t ht; have := vlt t hv; omega
  refine ⟨d', v', H1, H', a1, b1, a2.ok, b2.ok, ⟨App.keep' a2 b3 (fun t ht e => ne1 t ht e), b2, ?_, dn', ?_, ?_⟩⟩
  · exact TokStep.fresh (TokStep.fresh h.step a3 h.dn) b3 h.vn
  · intro t ht
    rcases b4 with e | e
    · exact h.vn t (e ▸ ht)
    · exact Nat.le_trans (Nat.le_trans h.step.len a3.len) (e t ht)
  · intro t ht hv
    rcases b4 with e | e
    · exact ne1 t ht (e ▸ hv)
    · have := e t hv; have := dlt t ht; omega
abbrev RP := Itm × GV × GV
structure ROk (p : RP) : Prop where
  d : Elems 2 p.2.1 (p.1.L.map dotG)
  v : Elems 3 p.2.2 (p.1.L.map valG)
theorem clean_sl {a b n sz : Nat} {v : GV} {xs ys : List GV} (hv : Elems sz v xs) (h : xs.mapM (clean a b n) = some ys) : ∃ v', clean a b (n + 1) v = some v' ∧ Elems sz v' ys := by
  cases hv with
  | nil =>
    have : ys = [] := (Option.some.inj h).symm
    exact ⟨_, rfl, by rw [this]; exact .nil⟩
  | sl xs t =>
    have : clean a b (n + 1) (.sl sz xs t) = some (.sl sz ys (match t with | .tok t pos ty => if t < b then .tok t pos ty else .imm | tag => tag)) := by
      show Option.map _ (xs.mapM (clean a b n)) = _
      rw [h]; rfl
    exact ⟨_, this, .sl _ _⟩
end Go.Proofs.YthmplnbogdfajaaGreatDoor
namespace Go.Proofs.YthmplnbogdfajaaGreatDoor
open Go.Sh
set_option maxRecDepth 100000
theorem itemBy_lens (I : List Itm) (h : ∀ p ∈ I, ElS p.x ∧ p.L.length ≤ 1000 ∧ ∀ e ∈ p.L, EntS e) (hI : I.length ≤ 1000) : (I.flatMap itemBy).length ≤ 1000 * 1100000 := by
  have h1 := flat_le itemBy 1100000 I (fun q hq => by
    obtain ⟨a, b, c⟩ := h q hq
    exact itemBy_len a b c)
  exact Nat.le_trans h1 (Nat.mul_le_mul hI (Nat.le_refl _))
end Go.Proofs.YthmplnbogdfajaaGreatDoor
namespace Go.Proofs.YthmplnbogdfajaaGreatDoor
open Go.Sh
set_option maxRecDepth 100000
structure IBig (p : IP) : Prop where
  x : ElBig p.1.x
  L : p.1.L.length ≤ 9223372036854775807
  el : Elems 5 p.2 (p.1.L.map entG)
structure Small (p : Itm) : Prop where
  L : p.L.length ≤ 20
  x : elSum p.x ≤ 300
  t : ∀ e ∈ p.L, e.t.length ≤ 300
end Go.Proofs.YthmplnbogdfajaaGreatDoor
namespace Go.Proofs.YthmplnbogdfajaaGreatDoor
open Go.Sh
set_option maxRecDepth 100000
section
variable {kv : List Int} (hk : kv.length = 16) (vi ve : GV)
include hk
end
end Go.Proofs.YthmplnbogdfajaaGreatDoor
