/- Own work, over the shadow machine: DSpec1. -/
import Derived.Test.YtiacgomjmijfcaaDoorFun
import Derived.Test.YtiacgomjmijfcaaDoorShF
set_option linter.all false
namespace Go.Proofs.YtiacgomjmijfcaaDoor
open Go.Sh
set_option maxRecDepth 100000

/-! ## Null, false, true -/

def gc : Fin 3 → List GV
  | 0 => [.int .i64 0, .int .i64 0, .str ⟨#[]⟩]
  | 1 => [.int .i64 1, .int .i64 0, .str ⟨#[]⟩]
  | 2 => [.int .i64 1, .int .i64 1, .str ⟨#[]⟩]

def ex (k : Int) (x : Fin 3) (l r : Int) : GV := .agg (.int .i64 k :: gc x ++ [.str ⟨#[]⟩, .str ⟨#[]⟩, .int .i64 l, .int .i64 r])

def rowL (x y : Fin 3) : List GV := [ex 1 x 0 0, ex 1 y 0 0, ex 5 0 0 0, ex 5 0 1 0, ex 5 0 2 0, ex 9 0 0 1, ex 8 0 2 3, ex 5 0 6 0, ex 10 0 0 1, ex 11 0 0 1, ex 5 0 9 0]

def notF : Fin 3 → Fin 3 | 0 => 0 | 1 => 2 | 2 => 1
def orF : Fin 3 → Fin 3 → Fin 3 | 2, _ => 2 | _, 2 => 2 | 1, 1 => 1 | _, _ => 0
def andF : Fin 3 → Fin 3 → Fin 3 | 1, _ => 1 | _, 1 => 1 | 2, 2 => 2 | _, _ => 0
def eqF : Fin 3 → Fin 3 → Fin 3 | 0, _ => 0 | _, 0 => 0 | 1, 1 => 2 | 2, 2 => 2 | _, _ => 1
def neF : Fin 3 → Fin 3 → Fin 3 | 0, _ => 0 | _, 0 => 0 | 1, 1 => 1 | 2, 2 => 1 | _, _ => 2

def vals (x y : Fin 3) : List (Fin 3) := [x, y, notF x, notF y, notF (notF x), andF x y, orF (notF x) (notF y), notF (orF (notF x) (notF y)), eqF x y, neF x y, notF (neF x y)]

theorem may_1 (x : Fin 3) (H : GH) : ecall T f_expr_may [ex 1 x 0 0, .int .i64 0] H = some (.bool true, H) ∧ ecall T f_expr_may [ex 1 x 0 0, .int .i64 1] H = some (.bool true, H) := by
  match x with
  | 0 => exact ⟨ecall_iff.2 ⟨100, by kernel_rfl⟩, ecall_iff.2 ⟨100, by kernel_rfl⟩⟩
  | 1 => exact ⟨ecall_iff.2 ⟨100, by kernel_rfl⟩, ecall_iff.2 ⟨100, by kernel_rfl⟩⟩
  | 2 => exact ⟨ecall_iff.2 ⟨100, by kernel_rfl⟩, ecall_iff.2 ⟨100, by kernel_rfl⟩⟩

theorem may_all (x y : Fin 3) (k : Nat) (e : GV) (he : (rowL x y)[k]? = some e) (H : GH) : ecall T f_expr_may [e, .int .i64 k] H = some (.bool true, H) := by
  match k, he with
  | 0, he => injection he with he; subst he; exact (may_1 x H).1
  | 1, he => injection he with he; subst he; exact (may_1 y H).2
  | 2, he => injection he with he; subst he; exact ecall_iff.2 ⟨100, by kernel_rfl⟩
  | 3, he => injection he with he; subst he; exact ecall_iff.2 ⟨100, by kernel_rfl⟩
  | 4, he => injection he with he; subst he; exact ecall_iff.2 ⟨100, by kernel_rfl⟩
  | 5, he => injection he with he; subst he; exact ecall_iff.2 ⟨100, by kernel_rfl⟩
  | 6, he => injection he with he; subst he; exact ecall_iff.2 ⟨100, by kernel_rfl⟩
  | 7, he => injection he with he; subst he; exact ecall_iff.2 ⟨100, by kernel_rfl⟩
  | 8, he => injection he with he; subst he; exact ecall_iff.2 ⟨100, by kernel_rfl⟩
  | 9, he => injection he with he; subst he; exact ecall_iff.2 ⟨100, by kernel_rfl⟩
  | 10, he => injection he with he; subst he; exact ecall_iff.2 ⟨100, by kernel_rfl⟩
  | k + 11, he => simp [rowL] at he

theorem one_fact (a : Fin 3) (H : GH) : ecall T f_eval_one [.int .i64 5, .agg (gc a)] H = some (.agg (gc (notF a)), H) := by
  match a with
  | 0 => exact ecall_iff.2 ⟨60, by kernel_rfl⟩
  | 1 => exact ecall_iff.2 ⟨60, by kernel_rfl⟩
  | 2 => exact ecall_iff.2 ⟨60, by kernel_rfl⟩

theorem or_fact (a b : Fin 3) (H : GH) : ecall T f_eval_logic [.agg (gc a), .agg (gc b), .bool true] H = some (.agg (gc (orF a b)), H) := by
  match a, b with
  | 0, 0 => exact ecall_iff.2 ⟨60, by kernel_rfl⟩
  | 0, 1 => exact ecall_iff.2 ⟨60, by kernel_rfl⟩
  | 0, 2 => exact ecall_iff.2 ⟨60, by kernel_rfl⟩
  | 1, 0 => exact ecall_iff.2 ⟨60, by kernel_rfl⟩
  | 1, 1 => exact ecall_iff.2 ⟨60, by kernel_rfl⟩
  | 1, 2 => exact ecall_iff.2 ⟨60, by kernel_rfl⟩
  | 2, 0 => exact ecall_iff.2 ⟨60, by kernel_rfl⟩
  | 2, 1 => exact ecall_iff.2 ⟨60, by kernel_rfl⟩
  | 2, 2 => exact ecall_iff.2 ⟨60, by kernel_rfl⟩

theorem and_fact (a b : Fin 3) (H : GH) : ecall T f_eval_logic [.agg (gc a), .agg (gc b), .bool false] H = some (.agg (gc (andF a b)), H) := by
  match a, b with
  | 0, 0 => exact ecall_iff.2 ⟨60, by kernel_rfl⟩
  | 0, 1 => exact ecall_iff.2 ⟨60, by kernel_rfl⟩
  | 0, 2 => exact ecall_iff.2 ⟨60, by kernel_rfl⟩
  | 1, 0 => exact ecall_iff.2 ⟨60, by kernel_rfl⟩
  | 1, 1 => exact ecall_iff.2 ⟨60, by kernel_rfl⟩
  | 1, 2 => exact ecall_iff.2 ⟨60, by kernel_rfl⟩
  | 2, 0 => exact ecall_iff.2 ⟨60, by kernel_rfl⟩
  | 2, 1 => exact ecall_iff.2 ⟨60, by kernel_rfl⟩
  | 2, 2 => exact ecall_iff.2 ⟨60, by kernel_rfl⟩

theorem eq_fact (a b : Fin 3) (H : GH) : ecall T f_eval_compared [.int .i64 10, .agg (gc a), .agg (gc b)] H = some (.agg (gc (eqF a b)), H) := by
  match a, b with
  | 0, 0 => exact ecall_iff.2 ⟨60, by kernel_rfl⟩
  | 0, 1 => exact ecall_iff.2 ⟨60, by kernel_rfl⟩
  | 0, 2 => exact ecall_iff.2 ⟨60, by kernel_rfl⟩
  | 1, 0 => exact ecall_iff.2 ⟨60, by kernel_rfl⟩
  | 1, 1 => exact ecall_iff.2 ⟨60, by kernel_rfl⟩
  | 1, 2 => exact ecall_iff.2 ⟨60, by kernel_rfl⟩
  | 2, 0 => exact ecall_iff.2 ⟨60, by kernel_rfl⟩
  | 2, 1 => exact ecall_iff.2 ⟨60, by kernel_rfl⟩
  | 2, 2 => exact ecall_iff.2 ⟨60, by kernel_rfl⟩

theorem ne_fact (a b : Fin 3) (H : GH) : ecall T f_eval_compared [.int .i64 11, .agg (gc a), .agg (gc b)] H = some (.agg (gc (neF a b)), H) := by
  match a, b with
  | 0, 0 => exact ecall_iff.2 ⟨60, by kernel_rfl⟩
  | 0, 1 => exact ecall_iff.2 ⟨60, by kernel_rfl⟩
  | 0, 2 => exact ecall_iff.2 ⟨60, by kernel_rfl⟩
  | 1, 0 => exact ecall_iff.2 ⟨60, by kernel_rfl⟩
  | 1, 1 => exact ecall_iff.2 ⟨60, by kernel_rfl⟩
  | 1, 2 => exact ecall_iff.2 ⟨60, by kernel_rfl⟩
  | 2, 0 => exact ecall_iff.2 ⟨60, by kernel_rfl⟩
  | 2, 1 => exact ecall_iff.2 ⟨60, by kernel_rfl⟩
  | 2, 2 => exact ecall_iff.2 ⟨60, by kernel_rfl⟩

theorem fixed22 (H : GH) : ecall T f_hedgerowlaw22_fixed [] H = some (.bool true, H) := ecall_iff.2 ⟨200, by kernel_rfl⟩

end Go.Proofs.YtiacgomjmijfcaaDoor
