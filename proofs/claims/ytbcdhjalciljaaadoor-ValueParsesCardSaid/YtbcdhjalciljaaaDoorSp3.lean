/- Own work, over the shadow machine: VSpec3. -/
import Derived.Test.YtbcdhjalciljaaaDoorSp2
set_option linter.all false
namespace Go.Proofs.YtbcdhjalciljaaaDoor
open Go.Sh
set_option maxRecDepth 100000

def refS (a b : ByteArray) : Int := match diff a.data.toList b.data.toList with
  | some v => v
  | none => cmpI a.size b.size

def refV (k n : Int) (s : ByteArray) (k' n' : Int) (s' : ByteArray) : Int :=
  if k ≠ k' then (if k < k' then -1 else 1) else if n ≠ n' then (if n < n' then -1 else 1) else refS s s'

theorem ref_cmp (k n : Int) (s : ByteArray) (k' n' : Int) (s' : ByteArray) (hs : s.size ≤ 9223372036854775807) (H : GH) : ecall T f_hedgerowref01_Compare [val k n s, val k' n' s'] H = some (.int .i64 (refV k n s k' n' s'), H) := by
  apply optW.eq
  rw [ecall_0 T_hedgerowref01_Compare rfl (by simp [F_hedgerowref01_Compare]), wp_fin1]
  unfold refV
  by_cases hk : k = k'
  · subst hk
    by_cases hn : n = n'
    · subst hn
      simp [F_hedgerowref01_Compare, b_hedgerowref01_Compare, val]
      rw [wp_seqK, wp_blockK]
      refine refc_loop s s' hs (.int .i64 k) (.int .i64 k) (.int .i64 n) (.int .i64 n) 0 1 s.data.toList 0 (by simp) _ _ _ _ ?_ ?_ ?_ ?_ ?_
      · simp
      · simp
      · simp
      · intro l' v hd h4
        simp at hd
        simp [h4, refS, hd]
      · intro l' hd h2 h3
        simp at hd h2 h3
        by_cases h1 : (s.size : Int) < s'.size
        · simp [h2, h3, refS, hd, cmpI, h1]
        · by_cases h1' : (s'.size : Int) < s.size
          · simp [h2, h3, refS, hd, cmpI, h1, h1']
          · simp [h2, h3, refS, hd, cmpI, h1, h1']
    · by_cases h : n < n' <;> simp [F_hedgerowref01_Compare, b_hedgerowref01_Compare, val, hn, h]
  · by_cases h : k < k' <;> simp [F_hedgerowref01_Compare, b_hedgerowref01_Compare, val, hk, h]
end Go.Proofs.YtbcdhjalciljaaaDoor
