/- Own work, over the shadow machine: DSpec4. -/
import Derived.Test.YtiacgomjmijfcaaDoorEv3
set_option linter.all false
namespace Go.Proofs.YtiacgomjmijfcaaDoor
open Go.Sh
set_option maxRecDepth 100000

theorem rowL_len (x y : Fin 3) : (rowL x y).length = 11 := rfl
theorem vals_len (x y : Fin 3) : (vals x y).length = 11 := rfl

theorem eval_loop (x y : Fin 3) (n : Nat) (hn : n ≤ 11) (cs : List GV) : ∀ (k : Nat) (_ : ((rowL x y).take n).drop k = cs) (l : List GV) (g : Nat) (H : GH) (v w e u out : GV) (id : Nat) (K : GExit × St → Prop) (_ : lget l 41 = v) (_ : Elems 8 v ((rowL x y).take n)) (_ : lget l 42 = .int .i64 n) (_ : lget l 43 = .int .i64 k)
    (_ : lget l 11 = .ptr id 0) (_ : H.objs[id]? = some (.cells [w, e, u, out])) (_ : App H 3 out (gvs ((vals x y).take k))) (_ : H.bo ≤ id) (_ : H.bt ≤ H.toks.length) (_ : k ≤ n)
    (_ : ∀ l' g' H' out', (∀ t, t = 1 ∨ t = 8 ∨ t = 11 → lget l' t = lget l t) → H'.objs[id]? = some (.cells [w, e, u, out']) → Elems 3 out' (gvs ((vals x y).take n)) → K (.exit 0, ⟨⟨l', g'⟩, H'⟩)),
    optW (erun T (.loop L0_eval_Eval) ⟨⟨l, g⟩, H⟩) K := by
  have hlen : ((rowL x y).take n).length = n := by rw [List.length_take, rowL_len]; omega
  induction cs with
  | nil =>
    intro k hd l g H v w e u out id K h41 hE h42 h43 h11 ho ha hbo hbt hkn hK
    have hk : k = n := by have := List.drop_eq_nil_iff.1 hd; omega
    subst hk
    rw [run_loop]
    simp [L0_eval_Eval, h42, h43]
    exact hK _ _ H out (fun t ht => by rcases ht with rfl | rfl | rfl <;> simp) ho ha.elems
  | cons c cs ih =>
    intro k hd l g H v w e u out id K h41 hE h42 h43 h11 ho ha hbo hbt hkn hK
    obtain ⟨hget, hi, hd'⟩ := drop_cons' hd
    rw [hlen] at hi
    have hc : (rowL x y)[k]? = some c := by
      rw [List.getElem?_take_of_lt hi] at hget
      exact hget
    obtain ⟨t, rfl⟩ := hE.is_sl hget
    obtain ⟨cc, rfl, c1, c2⟩ := rowL_ex hc
    have hlti : (k : Int) < n := by omega
    have hix := gIx_of (n := ((rowL x y).take n).length) (k := k) (by omega)
    have hw : IntKind.i64.wrap ((k : Int) + 1) = (k : Int) + 1 := wrap_i64' (by omega) (by omega)
    obtain ⟨z, hz, hat⟩ := at_all x y hc ho ha.elems
    have htl : ((vals x y).take k).length ≤ 11 := by rw [List.length_take, vals_len]; omega
    obtain ⟨out', H1, hap, hg⟩ := append_grown (sz := 3) (bytes := 32) (x := .sl 3 [.agg (gc z)] .exact) ha rfl hbt (by simp [room]; omega) (by simp [maxLen]; omega)
    have ho1 : H1.objs[id]? = some (.cells [w, e, u, out]) := by rw [hg.step.objs]; exact ho
    have hbo1 : H1.bo ≤ id := by rw [hg.step.bo]; exact hbo
    have hel := hg.app.elems
    have hnext : (gvs ((vals x y).take k)) ++ [GV.agg (gc z)] = gvs ((vals x y).take (k + 1)) := by
      rw [List.take_add_one, hz]; simp [gvs]
    rw [hnext] at hel
    rw [run_loop, wp_seqK]
    simp only [List.length_take] at hix
    simp [-partOf_agg, L0_eval_Eval, h41, h42, h43, h11, hlti, hix, hget, part8 c1, c1, c2, set8 c1, ho, hat, gSetAll, hap, ho1, hbo1, setPart, hel.ok, hel.cells, hel.one, ha.ok, hw]
    refine ih (k + 1) hd' _ _ _ _ w e u out' id K (by simp [h41]) hE (by simp [h42]) (by simp) (by simp [h11]) (obj_set ho1) ?_ hbo1 (hg.step.btle hbt) (by omega) ?_
    · have := hg.app
      rw [hnext] at this
      exact this.objs _
    · intro l' g' H' o' q1 q2 q3
      exact hK l' g' H' o' (fun t ht => by rw [q1 t ht]; rcases ht with rfl | rfl | rfl <;> simp) q2 q3

theorem eval_spec (x y : Fin 3) {v : GV} (hE : Elems 8 v (rowL x y)) {i : Nat} (hi : i < 11) {H : GH} : ∃ z, (vals x y)[i]? = some z ∧ ecall T f_eval_Eval [v, .int .i64 i, .nilsl, .nilptr] H = some (.tup [.agg (gc z), .int .i64 0], H) := by
  have hz : ∃ z, (vals x y)[i]? = some z := ⟨_, List.getElem?_eq_getElem (by rw [vals_len]; exact hi)⟩
  obtain ⟨z, hz⟩ := hz
  refine ⟨z, hz, ?_⟩
  apply optW.eq
  rw [ecall_1 T_eval_Eval rfl (by simp [F_eval_Eval]), wp_fin1]
  have h0 : ¬ ((i : Int) < 0) := by omega
  have h1 : ¬ ((11 : Int) ≤ i) := by omega
  have hr := right_spec hE (by rw [rowL_len]; decide) (fun k e he => ⟨rowL_ex he, fun H => may_all x y k e he H⟩) H.over
  have hcn := contains_nil (.func 19 [] []) rfl H.over
  have hw : IntKind.i64.wrap ((i : Int) + 1) = (i : Int) + 1 := wrap_i64' (by omega) (by omega)
  have hb : gBounds (rowL x y).length false true false [GV.int .i64 ((i : Int) + 1)] = some (0, i + 1, none) := by
    rw [rowL_len]
    simp only [gBounds, gBound]
    rw [if_pos (by omega)]; simp
  obtain ⟨v', hcut, hE'⟩ := hE.cut hb
  simp only [Nat.sub_zero, List.drop_zero] at hE'
  have hl' : ((rowL x y).take (i + 1)).length = i + 1 := by rw [List.length_take, rowL_len]; omega
  simp [F_eval_Eval, b_eval_Eval, hE.ok, hE.len, rowL_len, h0, h1, hr, hcn, gFill, setPart, hE.cells, hw, hcut, hE'.ok, hE'.len, hl']
  rw [wp_seqK, wp_blockK]
  refine eval_loop x y (i + 1) (by omega) ((rowL x y).take (i + 1)) 0 rfl _ _ _ v' v .nilsl .nilptr .nilsl H.objs.length _ (by simp) hE' (by simp) (by simp) (by simp) (by simp [GH.newObj, GH.over]) .nil (Nat.le_refl _) (Nat.le_refl _) (by omega) ?_
  intro l' g' H' out' q1 q2 q3
  have hg : (gvs ((vals x y).take (i + 1)))[i]? = some (.agg (gc z)) := by
    simp [gvs, hz]
  have hlv : ((vals x y).take (i + 1)).length = i + 1 := by rw [List.length_take, vals_len]; omega
  obtain ⟨t, rfl⟩ := q3.is_sl hg
  have hlg : (gvs ((vals x y).take (i + 1))).length = i + 1 := by rw [gvs_len, hlv]
  generalize gvs ((vals x y).take (i + 1)) = G at hg hlg q2 q3
  obtain ⟨hh, hg2⟩ := List.getElem?_eq_some_iff.1 hg
  have hix := gIx_of (n := i + 1) (k := i) (by omega)
  have a1 := q1 1 (by simp)
  have a8 := q1 8 (by simp)
  have a11 := q1 11 (by simp)
  simp at a1 a8 a11
  have hcl : ∀ a b, clean a b 100 (.tup [.agg (gc z), .int .i64 0]) = some (.tup [.agg (gc z), .int .i64 0]) := by
    intro a b
    match z with
    | 0 => rfl
    | 1 => rfl
    | 2 => rfl
  simp [-partOf_agg, a1, a8, a11, q2, hlg, hix, hg2, hcl]

end Go.Proofs.YtiacgomjmijfcaaDoor
