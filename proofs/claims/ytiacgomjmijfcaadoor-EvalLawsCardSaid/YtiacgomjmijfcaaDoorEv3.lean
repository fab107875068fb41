/- Own work, over the shadow machine: DSpec3. -/
import Derived.Test.YtiacgomjmijfcaaDoorEv2
set_option linter.all false
namespace Go.Proofs.YtiacgomjmijfcaaDoor
open Go.Sh
set_option maxRecDepth 100000

def gvs (l : List (Fin 3)) : List GV := l.map fun x => .agg (gc x)
@[simp] theorem gvs_len (l : List (Fin 3)) : (gvs l).length = l.length := by simp [gvs]

/-- A place of a row without variables comes to this. -/
theorem leaf_spec (p : GV) (hp : p.ok = true) (x : Fin 3) (l r : Int) (H : GH) : ecall T f_eval_reckoner_leaf [p, ex 1 x l r] H = some (.agg (gc x), H) := by
  apply optW.eq
  rw [ecall_0 T_eval_reckoner_leaf rfl (by simp [F_eval_reckoner_leaf]), wp_fin1]
  have hc : partOf (exc 1 x l r) 1 3 true = some (.agg (gc x)) := by match x with | 0 => rfl | 1 => rfl | 2 => rfl
  have h0 : (exc 1 x l r)[0]? = some (.int .i64 1) := rfl
  simp [-partOf_agg, F_eval_reckoner_leaf, b_eval_reckoner_leaf, hp, ex_def, hc, h0]

theorem exc_kind (k : Int) (x : Fin 3) (l r : Int) : (exc k x l r)[0]? = some (.int .i64 k) := rfl
theorem exc_l (k : Int) (x : Fin 3) (l r : Int) : (exc k x l r)[6]? = some (.int .i64 l) := by match x with | 0 => rfl | 1 => rfl | 2 => rfl
theorem exc_r (k : Int) (x : Fin 3) (l r : Int) : (exc k x l r)[7]? = some (.int .i64 r) := by match x with | 0 => rfl | 1 => rfl | 2 => rfl
theorem exc_part (k : Int) (x : Fin 3) (l r : Int) : partOf (exc k x l r) 0 8 true = some (.agg (exc k x l r)) := part8 (by simp [exc])

theorem gIx_of {n : Nat} {k : Nat} (h : k < n) : gIx n (.int .i64 (k : Int)) = some k := by
  simp only [gIx]
  rw [if_pos (by omega)]; simp

theorem at_leaf {H : GH} {id : Nat} {x : Fin 3} {l r : Int} : ecall T f_eval_reckoner_at [.ptr id 0, ex 1 x l r] H = some (.agg (gc x), H) := by
  apply optW.eq
  rw [ecall_1 T_eval_reckoner_at rfl (by simp [F_eval_reckoner_at]), wp_fin1]
  have hl := leaf_spec (.ptr id 0) rfl x l r H.over
  rw [ex_def] at hl ⊢
  simp [-partOf_agg, F_eval_reckoner_at, b_eval_reckoner_at, exc_kind, exc_part, hl]

theorem at_one {H : GH} {id : Nat} {r v e out : GV} {L : List (Fin 3)} (hd : H.objs[id]? = some (.cells [r, e, v, out])) (hE : Elems 3 out (gvs L)) {l : Nat} {a x : Fin 3} (hl : L[l]? = some a) : ecall T f_eval_reckoner_at [.ptr id 0, ex 5 x l 0] H = some (.agg (gc (notF a)), H) := by
  apply optW.eq
  rw [ecall_1 T_eval_reckoner_at rfl (by simp [F_eval_reckoner_at]), wp_fin1]
  have hg : (gvs L)[l]? = some (.agg (gc a)) := by simp [gvs, hl]
  obtain ⟨t, rfl⟩ := hE.is_sl hg
  have hlt : l < L.length := (List.getElem?_eq_some_iff.1 hl).1
  rw [ex_def]
  simp [-partOf_agg, F_eval_reckoner_at, b_eval_reckoner_at, exc_kind, exc_l, exc_part, hd, hg, gIx_of hlt, one_fact]

theorem at_two {H : GH} {id : Nat} {w v e out : GV} {L : List (Fin 3)} (hd : H.objs[id]? = some (.cells [w, e, v, out])) (hE : Elems 3 out (gvs L)) {l r : Nat} {a b x : Fin 3} (hl : L[l]? = some a) (hr : L[r]? = some b) :
    ecall T f_eval_reckoner_at [.ptr id 0, ex 8 x l r] H = some (.agg (gc (orF a b)), H) ∧ ecall T f_eval_reckoner_at [.ptr id 0, ex 9 x l r] H = some (.agg (gc (andF a b)), H) ∧
    ecall T f_eval_reckoner_at [.ptr id 0, ex 10 x l r] H = some (.agg (gc (eqF a b)), H) ∧ ecall T f_eval_reckoner_at [.ptr id 0, ex 11 x l r] H = some (.agg (gc (neF a b)), H) := by
  have hg : (gvs L)[l]? = some (.agg (gc a)) := by simp [gvs, hl]
  have hg' : (gvs L)[r]? = some (.agg (gc b)) := by simp [gvs, hr]
  obtain ⟨t, rfl⟩ := hE.is_sl hg
  have hlt : l < L.length := (List.getElem?_eq_some_iff.1 hl).1
  have hrt : r < L.length := (List.getElem?_eq_some_iff.1 hr).1
  refine ⟨?_, ?_, ?_, ?_⟩
  all_goals
    apply optW.eq
    rw [ecall_1 T_eval_reckoner_at rfl (by simp [F_eval_reckoner_at]), wp_fin1, ex_def]
    simp [-partOf_agg, F_eval_reckoner_at, b_eval_reckoner_at, exc_kind, exc_l, exc_r, exc_part, hd, hg, hg', gIx_of hlt, gIx_of hrt, or_fact, and_fact, eq_fact, ne_fact]

theorem at_all (x y : Fin 3) {H : GH} {id : Nat} {w v e out : GV} {k : Nat} {c : GV} (hc : (rowL x y)[k]? = some c) (hd : H.objs[id]? = some (.cells [w, e, v, out])) (hE : Elems 3 out (gvs ((vals x y).take k))) :
    ∃ z, (vals x y)[k]? = some z ∧ ecall T f_eval_reckoner_at [.ptr id 0, c] H = some (.agg (gc z), H) := by
  match k, hc with
  | 0, hc => injection hc with hc; subst hc; exact ⟨_, rfl, at_leaf⟩
  | 1, hc => injection hc with hc; subst hc; exact ⟨_, rfl, at_leaf⟩
  | 2, hc => injection hc with hc; subst hc; exact ⟨_, rfl, at_one (l := 0) hd hE rfl⟩
  | 3, hc => injection hc with hc; subst hc; exact ⟨_, rfl, at_one (l := 1) hd hE rfl⟩
  | 4, hc => injection hc with hc; subst hc; exact ⟨_, rfl, at_one (l := 2) hd hE rfl⟩
  | 5, hc => injection hc with hc; subst hc; exact ⟨_, rfl, (at_two (l := 0) (r := 1) hd hE rfl rfl).2.1⟩
  | 6, hc => injection hc with hc; subst hc; exact ⟨_, rfl, (at_two (l := 2) (r := 3) hd hE rfl rfl).1⟩
  | 7, hc => injection hc with hc; subst hc; exact ⟨_, rfl, at_one (l := 6) hd hE rfl⟩
  | 8, hc => injection hc with hc; subst hc; exact ⟨_, rfl, (at_two (l := 0) (r := 1) hd hE rfl rfl).2.2.1⟩
  | 9, hc => injection hc with hc; subst hc; exact ⟨_, rfl, (at_two (l := 0) (r := 1) hd hE rfl rfl).2.2.2⟩
  | 10, hc => injection hc with hc; subst hc; exact ⟨_, rfl, at_one (l := 9) hd hE rfl⟩
  | k + 11, hc => simp [rowL] at hc

end Go.Proofs.YtiacgomjmijfcaaDoor
