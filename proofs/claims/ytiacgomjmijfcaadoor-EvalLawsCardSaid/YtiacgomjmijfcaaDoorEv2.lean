/- Own work, over the shadow machine: DSpec2. -/
import Derived.Test.YtiacgomjmijfcaaDoorEv1
set_option linter.all false
namespace Go.Proofs.YtiacgomjmijfcaaDoor
open Go.Sh
set_option maxRecDepth 100000

theorem drop_cons' {α : Type} {B : List α} {i : Nat} {c : α} {cs : List α} (h : B.drop i = c :: cs) : B[i]? = some c ∧ i < B.length ∧ B.drop (i + 1) = cs := by
  have h1 : (B.drop i)[0]? = some c := by rw [h]; rfl
  rw [List.getElem?_drop] at h1
  refine ⟨by simpa using h1, (List.getElem?_eq_some_iff.1 h1).1, ?_⟩
  rw [← List.drop_drop, h]; rfl

@[simp] theorem gc_len (x : Fin 3) : (gc x).length = 3 := by match x with | 0 => rfl | 1 => rfl | 2 => rfl
@[simp] theorem gc_one (x : Fin 3) : (gc x).all GV.one = true := by match x with | 0 => rfl | 1 => rfl | 2 => rfl
@[simp] theorem gc_part (x : Fin 3) : partOf (gc x) 0 3 true = some (.agg (gc x)) := by match x with | 0 => rfl | 1 => rfl | 2 => rfl
@[simp] theorem gc_set (x : Fin 3) : setPart [.int .i64 0, .int .i64 0, .str ⟨#[]⟩] 0 (gc x) = some (gc x) := by match x with | 0 => rfl | 1 => rfl | 2 => rfl
@[simp] theorem gc_clean (a b : Nat) (x : Fin 3) : clean a b 100 (.agg (gc x)) = some (.agg (gc x)) := by match x with | 0 => rfl | 1 => rfl | 2 => rfl

theorem ex_cells (k : Int) (x : Fin 3) (l r : Int) : ∃ a b : GV, a.ok = true ∧ (ex k x l r).cells.length = 8 ∧ (ex k x l r).cells.all GV.one = true ∧ (ex k x l r).ok = true := by
  match x with
  | 0 => exact ⟨.nilsl, .nilsl, rfl, rfl, rfl, rfl⟩
  | 1 => exact ⟨.nilsl, .nilsl, rfl, rfl, rfl, rfl⟩
  | 2 => exact ⟨.nilsl, .nilsl, rfl, rfl, rfl, rfl⟩

/-- Elements of the row: eight cells. -/
def exc (k : Int) (x : Fin 3) (l r : Int) : List GV := .int .i64 k :: gc x ++ [.str ⟨#[]⟩, .str ⟨#[]⟩, .int .i64 l, .int .i64 r]
theorem ex_def (k : Int) (x : Fin 3) (l r : Int) : ex k x l r = .agg (exc k x l r) := rfl
theorem rowL_ex {x y : Fin 3} {k : Nat} {e : GV} (h : (rowL x y)[k]? = some e) : ∃ c, e = .agg c ∧ c.length = 8 ∧ c.all GV.one = true := by
  have hm := List.mem_of_getElem? h
  have : ∀ (k : Int) (x : Fin 3) (l r : Int), ∃ c, ex k x l r = .agg c ∧ c.length = 8 ∧ c.all GV.one = true := fun k x l r => ⟨exc k x l r, rfl, by simp [exc], by
    match x with
    | 0 => rfl
    | 1 => rfl
    | 2 => rfl⟩
  simp only [rowL, List.mem_cons, List.not_mem_nil, or_false] at hm
  rcases hm with rfl | rfl | rfl | rfl | rfl | rfl | rfl | rfl | rfl | rfl | rfl <;> exact this _ _ _ _

def z8 : List GV := [.int .i64 0, .int .i64 0, .int .i64 0, .str ⟨#[]⟩, .str ⟨#[]⟩, .str ⟨#[]⟩, .int .i64 0, .int .i64 0]
theorem set8 {c : List GV} (h : c.length = 8) : setPart [.int .i64 0, .int .i64 0, .int .i64 0, .str ⟨#[]⟩, .str ⟨#[]⟩, .str ⟨#[]⟩, .int .i64 0, .int .i64 0] 0 c = some c := by
  unfold setPart
  rw [if_pos (by simp [h])]
  simp [h]
theorem part8 {c : List GV} (h : c.length = 8) : partOf c 0 8 true = some (.agg c) := by
  rw [partOf_agg, if_pos (by omega)]
  simp [← h]

/-- A row that may be. -/
theorem right_loop (es : List GV) : ∀ (i : Nat) (L : List GV) (_ : L.drop i = es) (_ : L.length ≤ 1000) (_ : ∀ (k : Nat) e, L[k]? = some e → (∃ c, e = .agg c ∧ c.length = 8 ∧ c.all GV.one = true) ∧ ∀ H, ecall T f_expr_may [e, .int .i64 k] H = some (.bool true, H)) (l : List GV) (g : Nat) (H : GH) (v : GV) (K : GExit × St → Prop)
    (_ : lget l 5 = v) (_ : Elems 8 v L) (_ : lget l 6 = .int .i64 L.length) (_ : lget l 7 = .int .i64 i) (_ : ∀ l' g', K (.exit 0, ⟨⟨l', g'⟩, H⟩)),
    optW (erun T (.loop L0_expr_Right) ⟨⟨l, g⟩, H⟩) K := by
  induction es with
  | nil =>
    intro i L hd hL hA l g H v K h5 hE h6 h7 hK
    have hge : ¬ ((i : Int) < L.length) := by have := List.drop_eq_nil_iff.1 hd; omega
    rw [run_loop]
    simp [L0_expr_Right, h6, h7, hge]
    exact hK _ _
  | cons c cs ih =>
    intro i L hd hL hA l g H v K h5 hE h6 h7 hK
    obtain ⟨hget, hi, hd'⟩ := drop_cons' hd
    obtain ⟨⟨cc, rfl, hc1, hc2⟩, hmay⟩ := hA i c hget
    obtain ⟨t, rfl⟩ := hE.is_sl hget
    have hlti : (i : Int) < L.length := by omega
    have hix : gIx L.length (.int .i64 i) = some i := by
      simp only [gIx]
      rw [if_pos (by omega)]; simp
    have hw : IntKind.i64.wrap ((i : Int) + 1) = (i : Int) + 1 := wrap_i64' (by omega) (by omega)
    rw [run_loop, wp_seqK]
    simp [-partOf_agg, L0_expr_Right, h5, h6, h7, hlti, hix, hget, part8 hc1, hc1, hc2, set8 hc1, hmay, hw]
    exact ih (i + 1) L hd' hL hA _ _ H _ K (by simp [h5]) hE (by simp [h6]) (by simp) hK

theorem right_spec {L : List GV} {v : GV} (hE : Elems 8 v L) (hL : L.length ≤ 1000) (hA : ∀ (k : Nat) e, L[k]? = some e → (∃ c, e = .agg c ∧ c.length = 8 ∧ c.all GV.one = true) ∧ ∀ H, ecall T f_expr_may [e, .int .i64 k] H = some (.bool true, H)) (H : GH) :
    ecall T f_expr_Right [v] H = some (.int .i64 0, H) := by
  apply optW.eq
  rw [ecall_1 T_expr_Right rfl (by simp [F_expr_Right]), wp_fin1]
  simp [F_expr_Right, b_expr_Right, hE.ok, hE.len]
  rw [wp_seqK, wp_blockK]
  refine right_loop L 0 L rfl hL hA _ _ _ v _ (by simp) hE (by simp) (by simp) ?_
  intro l' g'
  simp

theorem contains_nil (f : GV) (hf : f.ok = true) (H : GH) : ecall T f_slices_ContainsFunceval_Enveval_Bind [.nilsl, f] H = some (.bool false, H) := by
  have h1 : ecall T f_slices_IndexFunceval_Enveval_Bind [.nilsl, f] H = some (.int .i64 (-1), H) := by
    apply optW.eq
    rw [ecall_0 T_slices_IndexFunceval_Enveval_Bind rfl (by simp [F_slices_IndexFunceval_Enveval_Bind]), wp_fin1]
    simp [F_slices_IndexFunceval_Enveval_Bind, b_slices_IndexFunceval_Enveval_Bind]
    rw [run_loop]
    simp [L0_slices_IndexFunceval_Enveval_Bind]
  apply optW.eq
  rw [ecall_0 T_slices_ContainsFunceval_Enveval_Bind rfl (by simp [F_slices_ContainsFunceval_Enveval_Bind]), wp_fin1]
  simp [F_slices_ContainsFunceval_Enveval_Bind, b_slices_ContainsFunceval_Enveval_Bind, h1, hf]

end Go.Proofs.YtiacgomjmijfcaaDoor
