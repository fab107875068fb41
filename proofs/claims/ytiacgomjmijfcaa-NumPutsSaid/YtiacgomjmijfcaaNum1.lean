/- Own work, over the shadow machine: NumSpec. -/
import Derived.Test.YtiacgomjmijfcaaFun
import Derived.Test.YtiacgomjmijfcaaShF
import Derived.IntWalk
set_option linter.all false
namespace Go.Proofs.Ytiacgomjmijfcaa
open Go.Sh

/-- Bytes as the shadow has them. -/
def u8s (l : List Int) : List GV := l.map fun n => .int .u8 n

theorem u8s_append (a b : List Int) : u8s (a ++ b) = u8s a ++ u8s b := by simp [u8s]
@[simp] theorem u8s_length (a : List Int) : (u8s a).length = a.length := by simp [u8s]

def byte (n : Int) : UInt8 := UInt8.ofNat n.toNat
/-- Bytes as a text. -/
def txt (l : List Int) : ByteArray := ⟨(l.map byte).toArray⟩

theorem toBytes_u8s (l : List Int) : toBytes (u8s l) = some (l.map byte) := by
  induction l with
  | nil => rfl
  | cons c cs ih =>
    have : u8s (c :: cs) = .int .u8 c :: u8s cs := rfl
    rw [this, toBytes, ih]; rfl

def isB (l : List Int) : Prop := ∀ c ∈ l, 0 ≤ c ∧ c ≤ 255

theorem txt_inj {a b : List Int} (ha : isB a) (hb : isB b) : txt a = txt b ↔ a = b := by
  constructor
  · intro h
    have h1 : a.map byte = b.map byte := by
      unfold txt at h
      injection h with h
      exact List.toArray_inj h
    clear h
    induction a generalizing b with
    | nil => cases b with
      | nil => rfl
      | cons _ _ => simp at h1
    | cons c cs ih => cases b with
      | nil => simp at h1
      | cons d ds =>
        simp only [List.map_cons, List.cons.injEq] at h1
        have hc := ha c (by simp)
        have hd := hb d (by simp)
        have e : c = d := by
          have h2 := congrArg UInt8.toNat h1.1
          simp only [byte, UInt8.toNat_ofNat'] at h2
          omega
        rw [e, ih (fun x hx => ha x (by simp [hx])) (fun x hx => hb x (by simp [hx])) h1.2]
  · intro h; rw [h]

theorem b2s_u8s {s : GV} {b : List Int} (h : Elems 1 s (u8s b)) (call : Nat → List GV → GH → Option (GV × GH)) (l : List GV) (g : Nat) (H : GH) : geff call .b2s [s] ⟨l, g⟩ H = some ⟨.str (txt b), none, H, g⟩ := by
  rw [h.b2s, toBytes_u8s]; rfl

/-- All but the last byte of a number. -/
def hiB (n : Int) : List Int := if n ≤ 127 then [] else (n % 128 + 128) :: hiB (n / 128)
termination_by n.toNat
decreasing_by omega
def loB (n : Int) : Int := if n ≤ 127 then n else loB (n / 128)
termination_by n.toNat
decreasing_by omega

/-- A number's bytes. -/
def numB (n : Int) : List Int := hiB n ++ [loB n]

theorem and127 {k : Int} (h0 : 0 ≤ k) (h : k < 2 ^ 62) : gInt .and .i64 k 127 = some (.int .i64 (k % 128)) := by
  obtain ⟨k, rfl⟩ := Int.eq_ofNat_of_zero_le h0
  rw [show (k : Int) % 128 = ((k % 128 : Nat) : Int) by omega, ← mask7]; exact and_i64 (b := 127) (by omega) (by decide)

theorem or128 {m : Int} (h0 : 0 ≤ m) (h : m < 128) : gInt .or .i64 m 128 = some (.int .i64 (m + 128)) := by
  obtain ⟨m, rfl⟩ := Int.eq_ofNat_of_zero_le h0
  rw [show (m : Int) + 128 = ((m + 128 : Nat) : Int) by omega, ← or7 (by omega)]; exact or_i64 (b := 128) (by omega) (by decide)

theorem shr7 {k : Int} (h0 : 0 ≤ k) (h : k < 2 ^ 62) : gShift .shr .i64 k 7 = some (.int .i64 (k / 128)) := by
  simp only [gShift, IntKind.bits]
  rw [if_neg (by omega)]
  simp only [Option.some.injEq, GV.int.injEq, true_and]
  have : (2 : Int) ^ (min (7 : Int).toNat 64) = 128 := by decide
  rw [this, Int.fdiv_eq_ediv_of_nonneg _ (by omega)]

theorem loB_le {k : Int} (h0 : 0 ≤ k) : 0 ≤ loB k ∧ loB k ≤ 127 := by
  fun_induction loB k with
  | case1 n h => exact ⟨h0, h⟩
  | case2 n h ih => exact ih (by omega)

theorem hiB_len (m : Nat) : ∀ (k : Int), k < 128 ^ (m + 1) → (hiB k).length ≤ m := by
  induction m with
  | zero => intro k h; rw [hiB, if_pos (by omega)]; simp
  | succ m ih =>
    intro k h
    rw [hiB]
    split
    · simp
    · have : k / 128 < 128 ^ (m + 1) := by
        rw [Int.ediv_lt_iff_lt_mul (by omega)]; rw [Int.pow_succ] at h; exact h
      simp only [List.length_cons]
      have := ih _ this
      omega

set_option maxHeartbeats 4000000 in
/-- All the rounds. -/
theorem put_loop (k : Int) : ∀ (_ : 0 ≤ k) (_ : k < 2 ^ 62) (l : List GV) (g : Nat) (H : GH) (s : GV) (xs : List GV) (K : GExit × St → Prop) (_ : lget l 0 = s) (_ : App H 1 s xs) (_ : H.bt ≤ H.toks.length) (_ : lget l 1 = .int .i64 k) (_ : xs.length + (hiB k).length ≤ 2 ^ 40)
    (_ : ∀ l' H' s', lget l' 0 = s' → lget l' 1 = .int .i64 (loB k) → Grown 1 H s (xs ++ u8s (hiB k)) H' s' → K (.exit 0, ⟨⟨l', g⟩, H'⟩)),
    optW (erun T (.loop L0_num_Put) ⟨⟨l, g⟩, H⟩) K := by
  fun_induction hiB k with
  | case1 k h =>
    intro h0 hk l g H s xs K hs ha hbt h1 hl hK
    have e2 : loB k = k := by rw [loB, if_pos h]
    have hc : ¬ (127 < k) := by omega
    rw [run_loop]
    simp [L0_num_Put, h1, hc]
    exact hK _ H s (by simp [hs]) (by simp [h1, e2]) (by simpa [u8s] using Grown.refl ha)
  | case2 k h ih =>
    intro h0 hk l g H s xs K hs ha hbt h1 hl hK
    have e2 : loB k = loB (k / 128) := by rw [loB, if_neg h]
    have hc : (127 < k) := by omega
    simp only [List.length_cons] at hl
    have hw : IntKind.u8.wrap (k % 128 + 128) = k % 128 + 128 := wrap_u8' (by omega) (by omega)
    obtain ⟨s', H', hap, hg⟩ := append_grown (sz := 1) (bytes := 1) (x := .sl 1 (u8s [k % 128 + 128]) .exact) ha rfl hbt (by simp [room]; omega) (by simp [maxLen]; omega)
    simp [u8s] at hap
    rw [run_loop, wp_seqK]
    simp [L0_num_Put, hs, h1, hc, ha.ok, hg.ok, and127 h0 hk, or128 (m := k % 128) (by omega) (by omega), hw, shr7 h0 hk, hap, gSetAll]
    refine ih (by omega) (by omega) _ g H' s' (xs ++ u8s [k % 128 + 128]) K (by simp) hg.app (hg.step.btle hbt) (by simp) (by simp; omega) ?_
    intro l2 H2 s2 p0 p1 p2
    exact hK l2 H2 s2 p0 (by rw [e2]; exact p1) (by simpa [u8s] using hg.trans p2)

/-- The bytes that a number adds. -/
def putB (n : Int) : List Int := if n < 0 ∨ n > 4611686018427387903 then [] else numB n

theorem putB_len (n : Int) : (putB n).length ≤ 9 := by
  rw [putB]
  split
  · simp
  · have := hiB_len 8 n (by omega)
    simp [numB]; omega

theorem put_spec (n : Int) {H : GH} {s : GV} {xs : List GV} (ha : App H 1 s xs) (hbt : H.bt ≤ H.toks.length) (hl : xs.length ≤ 2 ^ 39) :
    ∃ s' H', ecall T f_num_Put [s, .int .i64 n] H = some (s', H') ∧ Grown 1 H s (xs ++ u8s (putB n)) H' s' := by
  have key : optW (ecall T f_num_Put [s, .int .i64 n] H) fun r => Grown 1 H s (xs ++ u8s (putB n)) r.2 r.1 := by
    rw [ecall_0 T_num_Put rfl (by simp [F_num_Put]), wp_fin1]
    by_cases h0 : n < 0
    · have e : putB n = [] := by rw [putB, if_pos (.inl h0)]
      simp [F_num_Put, b_num_Put, h0, ha.ok, e]
      simpa [u8s] using Grown.refl ha
    by_cases h1 : 4611686018427387903 < n
    · have e : putB n = [] := by rw [putB, if_pos (.inr h1)]
      simp [F_num_Put, b_num_Put, h0, h1, ha.ok, e]
      simpa [u8s] using Grown.refl ha
    have e : putB n = hiB n ++ [loB n] := by rw [putB, if_neg (by omega), numB]
    have hlen : (hiB n).length ≤ 8 := hiB_len 8 n (by omega)
    simp [F_num_Put, b_num_Put, h0, h1]
    rw [wp_seqK, wp_blockK]
    refine put_loop n (by omega) (by omega) _ _ H s xs _ (by simp) ha hbt (by simp) (by omega) ?_
    intro l' H' s' p0 p1 p2
    have hlo := loB_le (k := n) (by omega)
    have hw : IntKind.u8.wrap (loB n) = loB n := wrap_u8' (by omega) (by omega)
    obtain ⟨s2, H2, hap, hg⟩ := append_grown (sz := 1) (bytes := 1) (x := .sl 1 (u8s [loB n]) .exact) p2.app rfl (p2.step.btle hbt) (by simp [room]; omega) (by simp [maxLen]; omega)
    simp [u8s] at hap
    simp [p0, p1, p2.ok, hw, gSetAll, hap, hg.ok, e]
    simpa [u8s] using p2.trans hg
  obtain ⟨⟨s', H'⟩, h1, h2⟩ := key
  exact ⟨s', H', h1, h2⟩

/-- The bytes that a signed number adds. -/
def sigB (n : Int) : List Int := if n < -1152921504606846976 ∨ n > 1152921504606846976 then [] else if n < 0 then putB (-2 * n - 1) else putB (2 * n)

theorem sigB_len (n : Int) : (sigB n).length ≤ 9 := by
  rw [sigB]
  split
  · simp
  · split <;> exact putB_len _

theorem signed_spec (n : Int) {H : GH} {s : GV} {xs : List GV} (ha : App H 1 s xs) (hbt : H.bt ≤ H.toks.length) (hl : xs.length ≤ 2 ^ 39) :
    ∃ s' H', ecall T f_num_Signed [s, .int .i64 n] H = some (s', H') ∧ Grown 1 H s (xs ++ u8s (sigB n)) H' s' := by
  have key : optW (ecall T f_num_Signed [s, .int .i64 n] H) fun r => Grown 1 H s (xs ++ u8s (sigB n)) r.2 r.1 := by
    rw [ecall_0 T_num_Signed rfl (by simp [F_num_Signed]), wp_fin1]
    by_cases h0 : n < -1152921504606846976
    · have e : sigB n = [] := by rw [sigB, if_pos (.inl h0)]
      simp [F_num_Signed, b_num_Signed, h0, ha.ok, e]
      simpa [u8s] using Grown.refl ha
    by_cases h1 : 1152921504606846976 < n
    · have e : sigB n = [] := by rw [sigB, if_pos (.inr h1)]
      simp [F_num_Signed, b_num_Signed, h0, h1, ha.ok, e]
      simpa [u8s] using Grown.refl ha
    by_cases h2 : n < 0
    · have e : sigB n = putB (-2 * n - 1) := by rw [sigB, if_neg (by omega), if_pos h2]
      obtain ⟨s', H', hc, hg⟩ := put_spec (-2 * n - 1) ha hbt hl
      simp [F_num_Signed, b_num_Signed, h0, h1, h2, ha.ok, e, wrap_i64' (n := -2 * n) (by omega) (by omega), wrap_i64' (n := -2 * n - 1) (by omega) (by omega), hc, hg.ok, hg]
    · have e : sigB n = putB (2 * n) := by rw [sigB, if_neg (by omega), if_neg h2]
      obtain ⟨s', H', hc, hg⟩ := put_spec (2 * n) ha hbt hl
      simp [F_num_Signed, b_num_Signed, h0, h1, h2, ha.ok, e, wrap_i64' (n := 2 * n) (by omega) (by omega), hc, hg.ok, hg]
  obtain ⟨⟨s', H'⟩, h1, h2⟩ := key
  exact ⟨s', H', h1, h2⟩

theorem bytesGV_length (s : ByteArray) : (bytesGV s).length = s.size := by
  unfold bytesGV; rw [List.length_map, Array.length_toList]; rfl

theorem text_spec (t : ByteArray) (ht : t.size ≤ 2 ^ 39) {H : GH} {s : GV} {xs : List GV} (ha : App H 1 s xs) (hbt : H.bt ≤ H.toks.length) (hl : xs.length ≤ 2 ^ 39) :
    ∃ s' H', ecall T f_num_Text [s, .str t] H = some (s', H') ∧ Grown 1 H s (xs ++ u8s (putB t.size) ++ bytesGV t) H' s' := by
  have key : optW (ecall T f_num_Text [s, .str t] H) fun r => Grown 1 H s (xs ++ u8s (putB t.size) ++ bytesGV t) r.2 r.1 := by
    rw [ecall_0 T_num_Text rfl (by simp [F_num_Text]), wp_fin1]
    obtain ⟨s', H', hc, hg⟩ := put_spec t.size ha hbt hl
    have := putB_len t.size
    obtain ⟨s2, H2, hap, hg2⟩ := append_grown (sz := 1) (bytes := 1) (x := .str t) hg.app rfl (hg.step.btle hbt) (by simp only [List.length_append, u8s_length, bytesGV_length, room]; omega) (by simp only [List.length_append, u8s_length, bytesGV_length, maxLen]; omega)
    simp [F_num_Text, b_num_Text, ha.ok, hc, hg.ok, hap, hg2.ok]
    simpa using hg.trans hg2
  obtain ⟨⟨s', H'⟩, h1, h2⟩ := key
  exact ⟨s', H', h1, h2⟩

end Go.Proofs.Ytiacgomjmijfcaa
