/- Own work: the shadow machine and what it shows, part Nu. -/
import Derived.Test.YthmplnbogdfajaaGreatDoorFun
import Derived.Test.YthmplnbogdfajaaGreatDoorShF
import Derived.IntWalk
set_option linter.all false
namespace Go.Proofs.YthmplnbogdfajaaGreatDoor
open Go.Sh
def u8s (l : List Int) : List GV := l.map fun n => .int .u8 n
theorem u8s_append (a b : List Int) : u8s (a ++ b) = u8s a ++ u8s b := by simp [u8s]
@[simp] theorem u8s_length (a : List Int) : (u8s a).length = a.length := by simp [u8s]
def byte (n : Int) : UInt8 := UInt8.ofNat n.toNat
def txt (l : List Int) : ByteArray := ⟨(l.map byte).toArray⟩
theorem toBytes_u8s (l : List Int) : toBytes (u8s l) = some (l.map byte) := by
  induction l with
  | nil => rfl
  | cons c cs ih =>
    have : u8s (c :: cs) = .int .u8 c :: u8s cs := rfl
    rw [this, toBytes, ih]; rfl
def isB (l : List Int) : Prop := ∀ c ∈ l, 0 ≤ c ∧ c ≤ 255
theorem b2s_u8s {s : GV} {b : List Int} (h : Elems 1 s (u8s b)) (call : Nat → List GV → GH → Option (GV × GH)) (l : List GV) (g : Nat) (H : GH) : geff call .b2s [s] ⟨l, g⟩ H = some ⟨.str (txt b), none, H, g⟩ := by
  rw [h.b2s, toBytes_u8s]; rfl
def hiB (n : Int) : List Int := if n ≤ 127 then [] else (n % 128 + 128) :: hiB (n / 128)
termination_by n.toNat
decreasing_by omega
def loB (n : Int) : Int := if n ≤ 127 then n else loB (n / 128)
termination_by n.toNat
decreasing_by omega
def numB (n : Int) : List Int := hiB n ++ [loB n]
theorem and127 {k : Int} (h0 : 0 ≤ k) (h : k < 2 ^ 62) : gInt .and .i64 k 127 = some (.int .i64 (k % 128)) := by
  obtain ⟨k, rfl⟩ := Int.eq_ofNat_of_zero_le h0
  rw [show (k : Int) % 128 = ((k % 128 : Nat) : Int) by omega, ← mask7]; exact and_i64 (b := 127) (by omega) (by decide)
theorem or128 {m : Int} (h0 : 0 ≤ m) (h : m < 128) : gInt .or .i64 m 128 = some (.int .i64 (m + 128)) := by
  obtain ⟨m, rfl⟩ := Int.eq_ofNat_of_zero_le h0
  rw [show (m : Int) + 128 = ((m + 128 : Nat) : Int) by omega, ← or7 (by omega)]; exact or_i64 (b := 128) (by omega) (by decide)
theorem shr7 {k : Int} (h0 : 0 ≤ k) (h : k < 2 ^ 62) : gShift .shr .i64 k 7 = some (.int .i64 (k / 128)) := by
  simp only [gShift, IntKind.bits]
  rw [if_neg (by omega)]
  simp only [Option.some.injEq, GV.int.injEq, true_and]
  have : (2 : Int) ^ (min (7 : Int).toNat 64) = 128 := by decide
  rw [this, Int.fdiv_eq_ediv_of_nonneg _ (by omega)]
theorem loB_le {k : Int} (h0 : 0 ≤ k) : 0 ≤ loB k ∧ loB k ≤ 127 := by
  fun_induction loB k with
  | case1 n h => exact ⟨h0, h⟩
  | case2 n h ih => exact ih (by omega)
theorem hiB_len (m : Nat) : ∀ (k : Int), k < 128 ^ (m + 1) → (hiB k).length ≤ m := by
  induction m with
  | zero => intro k h; rw [hiB, if_pos (by omega)]; simp
  | succ m ih =>
    intro k h
    rw [hiB]
    split
    · simp
    · have : k / 128 < 128 ^ (m + 1) := by
        rw [Int.ediv_lt_iff_lt_mul (by omega)]; rw [Int.pow_succ] at h; exact h
      simp only [List.length_cons]
      have := ih _ this
      omega
set_option maxHeartbeats 4000000 in
theorem put_loop (k : Int) : ∀ (_ : 0 ≤ k) (_ : k < 2 ^ 62) (l : List GV) (g : Nat) (H : GH) (s : GV) (xs : List GV) (K : GExit × St → Prop) (_ : lget l 0 = s) (_ : App H 1 s xs) (_ : H.bt ≤ H.toks.length) (_ : lget l 1 = .int .i64 k) (_ : xs.length + (hiB k).length ≤ 2 ^ 40)
    (_ : ∀ l' H' s', lget l' 0 = s' → lget l' 1 = .int .i64 (loB k) → Grown 1 H s (xs ++ u8s (hiB k)) H' s' → K (.exit 0, ⟨⟨l', g⟩, H'⟩)),
    optW (erun T (.loop L0_x26) ⟨⟨l, g⟩, H⟩) K := by
  fun_induction hiB k with
  | case1 k h =>
    intro h0 hk l g H s xs K hs ha hbt h1 hl hK
    have e2 : loB k = k := by rw [loB, if_pos h]
    have hc : ¬ (127 < k) := by omega
    rw [run_loop]
    simp [L0_x26, h1, hc]
    exact hK _ H s (by simp [hs]) (by simp [h1, e2]) (by simpa [u8s] using Grown.refl ha)
  | case2 k h ih =>
    intro h0 hk l g H s xs K hs ha hbt h1 hl hK
    have e2 : loB k = loB (k / 128) := by rw [loB, if_neg h]
    have hc : (127 < k) := by omega
    simp only [List.length_cons] at hl
    have hw : IntKind.u8.wrap (k % 128 + 128) = k % 128 + 128 := wrap_u8' (by omega) (by omega)
    obtain ⟨s', H', hap, hg⟩ := append_grown (ty := 5) (sz := 1) (bytes := 1) (x := .sl 1 (u8s [k % 128 + 128]) .exact) ha rfl hbt (by simp [room]; omega) (by simp [maxLen]; omega)
    simp [u8s] at hap
    rw [run_loop, wp_seqK]
    simp [L0_x26, hs, h1, hc, ha.ok, hg.ok, and127 h0 hk, or128 (m := k % 128) (by omega) (by omega), hw, shr7 h0 hk, hap, gSetAll]
    refine ih (by omega) (by omega) _ g H' s' (xs ++ u8s [k % 128 + 128]) K (by simp) hg.app (hg.step.btle hbt) (by simp) (by simp; omega) ?_
    intro l2 H2 s2 p0 p1 p2
    exact hK l2 H2 s2 p0 (by rw [e2]; exact p1) (by simpa [u8s] using hg.trans p2)
def putB (n : Int) : List Int := if n < 0 ∨ n > 4611686018427387903 then [] else numB n
theorem putB_len (n : Int) : (putB n).length ≤ 9 := by
  rw [putB]
  split
  · simp
  · have := hiB_len 8 n (by omega)
    simp [numB]; omega
theorem put_spec (n : Int) {H : GH} {s : GV} {xs : List GV} (ha : App H 1 s xs) (hbt : H.bt ≤ H.toks.length) (hl : xs.length ≤ 2 ^ 39) :
    ∃ s' H', ecall T f_x26 [s, .int .i64 n] H = some (s', H') ∧ Grown 1 H s (xs ++ u8s (putB n)) H' s' := by
  have key : optW (ecall T f_x26 [s, .int .i64 n] H) fun r => Grown 1 H s (xs ++ u8s (putB n)) r.2 r.1 := by
    rw [ecall_0 T_x26 rfl (by simp [F_x26]), wp_fin1]
    by_cases h0 : n < 0
    · have e : putB n = [] := by rw [putB, if_pos (.inl h0)]
      simp [F_x26, b_x26, h0, ha.ok, e]
      simpa [u8s] using Grown.refl ha
    by_cases h1 : 4611686018427387903 < n
    · have e : putB n = [] := by rw [putB, if_pos (.inr h1)]
      simp [F_x26, b_x26, h0, h1, ha.ok, e]
      simpa [u8s] using Grown.refl ha
    have e : putB n = hiB n ++ [loB n] := by rw [putB, if_neg (by omega), numB]
    have hlen : (hiB n).length ≤ 8 := hiB_len 8 n (by omega)
    simp [F_x26, b_x26, h0, h1]
    rw [wp_seqK, wp_blockK]
    refine put_loop n (by omega) (by omega) _ _ H s xs _ (by simp) ha hbt (by simp) (by omega) ?_
    intro l' H' s' p0 p1 p2
    have hlo := loB_le (k := n) (by omega)
    have hw : IntKind.u8.wrap (loB n) = loB n := wrap_u8' (by omega) (by omega)
    obtain ⟨s2, H2, hap, hg⟩ := append_grown (ty := 5) (sz := 1) (bytes := 1) (x := .sl 1 (u8s [loB n]) .exact) p2.app rfl (p2.step.btle hbt) (by simp [room]; omega) (by simp [maxLen]; omega)
    simp [u8s] at hap
    simp [p0, p1, p2.ok, hw, gSetAll, hap, hg.ok, e]
    simpa [u8s] using p2.trans hg
  obtain ⟨⟨s', H'⟩, h1, h2⟩ := key
  exact ⟨s', H', h1, h2⟩
def sigB (n : Int) : List Int := if n < -1152921504606846976 ∨ n > 1152921504606846976 then [] else if n < 0 then putB (-2 * n - 1) else putB (2 * n)
theorem sigB_len (n : Int) : (sigB n).length ≤ 9 := by
  rw [sigB]
  split
  · simp
  · split <;> exact putB_len _
theorem signed_spec (n : Int) {H : GH} {s : GV} {xs : List GV} (ha : App H 1 s xs) (hbt : H.bt ≤ H.toks.length) (hl : xs.length ≤ 2 ^ 39) :
    ∃ s' H', ecall T f_x33 [s, .int .i64 n] H = some (s', H') ∧ Grown 1 H s (xs ++ u8s (sigB n)) H' s' := by
  have key : optW (ecall T f_x33 [s, .int .i64 n] H) fun r => Grown 1 H s (xs ++ u8s (sigB n)) r.2 r.1 := by
    rw [ecall_0 T_x33 rfl (by simp [F_x33]), wp_fin1]
    by_cases h0 : n < -1152921504606846976
    · have e : sigB n = [] := by rw [sigB, if_pos (.inl h0)]
      simp [F_x33, b_x33, h0, ha.ok, e]
      simpa [u8s] using Grown.refl ha
    by_cases h1 : 1152921504606846976 < n
    · have e : sigB n = [] := by rw [sigB, if_pos (.inr h1)]
      simp [F_x33, b_x33, h0, h1, ha.ok, e]
      simpa [u8s] using Grown.refl ha
    by_cases h2 : n < 0
    · have e : sigB n = putB (-2 * n - 1) := by rw [sigB, if_neg (by omega), if_pos h2]
      obtain ⟨s', H', hc, hg⟩ := put_spec (-2 * n - 1) ha hbt hl
      simp [F_x33, b_x33, h0, h1, h2, ha.ok, e, wrap_i64' (n := -2 * n) (by omega) (by omega), wrap_i64' (n := -2 * n - 1) (by omega) (by omega), hc, hg.ok, hg]
    · have e : sigB n = putB (2 * n) := by rw [sigB, if_neg (by omega), if_neg h2]
      obtain ⟨s', H', hc, hg⟩ := put_spec (2 * n) ha hbt hl
      simp [F_x33, b_x33, h0, h1, h2, ha.ok, e, wrap_i64' (n := 2 * n) (by omega) (by omega), hc, hg.ok, hg]
  obtain ⟨⟨s', H'⟩, h1, h2⟩ := key
  exact ⟨s', H', h1, h2⟩
theorem bytesGV_length (s : ByteArray) : (bytesGV s).length = s.size := by
  unfold bytesGV; rw [List.length_map, Array.length_toList]; rfl
theorem text_spec (t : ByteArray) (ht : t.size ≤ 2 ^ 39) {H : GH} {s : GV} {xs : List GV} (ha : App H 1 s xs) (hbt : H.bt ≤ H.toks.length) (hl : xs.length ≤ 2 ^ 39) :
    ∃ s' H', ecall T f_x34 [s, .str t] H = some (s', H') ∧ Grown 1 H s (xs ++ u8s (putB t.size) ++ bytesGV t) H' s' := by
  have key : optW (ecall T f_x34 [s, .str t] H) fun r => Grown 1 H s (xs ++ u8s (putB t.size) ++ bytesGV t) r.2 r.1 := by
    rw [ecall_0 T_x34 rfl (by simp [F_x34]), wp_fin1]
    obtain ⟨s', H', hc, hg⟩ := put_spec t.size ha hbt hl
    have := putB_len t.size
    obtain ⟨s2, H2, hap, hg2⟩ := append_grown (ty := 5) (sz := 1) (bytes := 1) (x := .str t) hg.app rfl (hg.step.btle hbt) (by simp only [List.length_append, u8s_length, bytesGV_length, room]; omega) (by simp only [List.length_append, u8s_length, bytesGV_length, maxLen]; omega)
    simp [F_x34, b_x34, ha.ok, hc, hg.ok, hap, hg2.ok]
    simpa using hg.trans hg2
  obtain ⟨⟨s', H'⟩, h1, h2⟩ := key
  exact ⟨s', H', h1, h2⟩
end Go.Proofs.YthmplnbogdfajaaGreatDoor
namespace Go.Proofs.YthmplnbogdfajaaGreatDoor
open Go.Sh
end Go.Proofs.YthmplnbogdfajaaGreatDoor
namespace Go.Proofs.YthmplnbogdfajaaGreatDoor
open Go.Sh
def takeP : Nat → Int → List Int → Int × Int
  | _, _, [] => (0, 0)
  | i, n, c :: cs =>
    if c < 128 then (if (c = 0 ∧ 0 < i) ∨ n + c % 128 * 128 ^ i > 4611686018427387903 then (0, 0) else (n + c % 128 * 128 ^ i, (i : Int) + 1))
    else takeP (i + 1) (n + c % 128 * 128 ^ i) cs
def take (b : List Int) : Int × Int := takeP 0 0 (b.take 9)
theorem pow128_pos (n : Nat) : (0 : Int) < 128 ^ n := Int.pow_pos (by omega)
theorem pow128_succ (n : Nat) : (128 : Int) ^ (n + 1) = 128 * 128 ^ n := by rw [Int.pow_succ]; omega
theorem takeP_numB (k : Int) : ∀ (i : Nat) (m : Int) (rest : List Int), 0 ≤ k → (0 < k ∨ i = 0) → m + k * 128 ^ i ≤ 4611686018427387903 → takeP i m (numB k ++ rest) = (m + k * 128 ^ i, (i : Int) + (numB k).length) := by
  intro i m rest h0 hk hb
  rw [numB]
  fun_induction hiB k generalizing i m with
  | case1 k h =>
    have e : loB k = k := by rw [loB, if_pos h]
    have e2 : k % 128 = k := by omega
    simp only [List.nil_append, List.cons_append, takeP, e, e2]
    rw [if_pos (by omega), if_neg (by omega)]
    simp
  | case2 k h ih =>
    have e : loB k = loB (k / 128) := by rw [loB, if_neg h]
    have hmul : (k % 128 + 128) % 128 * 128 ^ i + k / 128 * 128 ^ (i + 1) = k * 128 ^ i := by
      rw [pow128_succ, ← Int.mul_assoc, ← Int.add_mul]
      congr 1
      omega
    simp only [List.cons_append, takeP]
    rw [if_neg (by omega), e]
    have := ih (i + 1) (m + (k % 128 + 128) % 128 * 128 ^ i) (by omega) (by omega) (by omega)
    rw [this]
    simp only [List.length_cons, Prod.mk.injEq]
    constructor
    · omega
    · simp; omega
theorem numB_len {k : Int} (h1 : k ≤ 4611686018427387903) : (numB k).length ≤ 9 := by
  have := hiB_len 8 k (by omega)
  simp [numB]; omega
theorem take_numB {k : Int} (h0 : 0 ≤ k) (h1 : k ≤ 4611686018427387903) (rest : List Int) : take (numB k ++ rest) = (k, ((numB k).length : Int)) := by
  have hl := numB_len h1
  rw [take, List.take_append, List.take_of_length_le hl, takeP_numB k 0 0 _ h0 (.inr rfl) (by simpa using h1)]
  simp
theorem numB_pos (k : Int) : 1 ≤ (numB k).length := by simp [numB]
end Go.Proofs.YthmplnbogdfajaaGreatDoor
namespace Go.Proofs.YthmplnbogdfajaaGreatDoor
open Go.Sh
theorem and127u {c : Int} (h0 : 0 ≤ c) (h1 : c ≤ 255) : gInt .and .u8 c 127 = some (.int .u8 (c % 128)) := by
  obtain ⟨c, rfl⟩ := Int.eq_ofNat_of_zero_le h0
  rw [show (c : Int) % 128 = ((c % 128 : Nat) : Int) by omega, ← mask7]; exact and_u8 (b := 127) (by omega) (by decide)
theorem pow128_two (i : Nat) : (128 : Int) ^ i = 2 ^ (7 * i) := by
  rw [Int.pow_mul]; rfl
theorem pow128_le {i : Nat} (h : i ≤ 8) : (128 : Int) ^ i ≤ 72057594037927936 := by
  have : ∀ j : Fin 9, (128 : Int) ^ j.val ≤ 72057594037927936 := by decide
  exact this ⟨i, by omega⟩
theorem shl7 {c : Int} {i : Nat} (h0 : 0 ≤ c) (h1 : c < 128) (hi : i ≤ 8) : gShift .shl .u64 c (7 * (i : Int)) = some (.int .u64 (c * 128 ^ i)) := by
  simp only [gShift, IntKind.bits]
  rw [if_neg (by omega)]
  have e : min (7 * (i : Int)).toNat 64 = 7 * i := by omega
  rw [e, ← pow128_two]
  have h2 := pow128_le hi
  have h3 := pow128_pos i
  have h4 : c * 128 ^ i ≤ 127 * 128 ^ i := Int.mul_le_mul_of_nonneg_right (by omega) (by omega)
  have h5 : 0 ≤ c * 128 ^ i := Int.mul_nonneg h0 (by omega)
  rw [wrap_u64' h5 (by omega)]
theorem orShift {n c : Int} {i : Nat} (h0 : 0 ≤ c) (h1 : c < 128) (hi : i ≤ 8) (hn : 0 ≤ n) (hlt : n < 128 ^ i) : gInt .or .u64 n (c * 128 ^ i) = some (.int .u64 (n + c * 128 ^ i)) := by
  have h2 := pow128_le hi
  have h3 := pow128_pos i
  have h4 : c * 128 ^ i ≤ 127 * 128 ^ i := Int.mul_le_mul_of_nonneg_right (by omega) (by omega)
  have h5 : 0 ≤ c * 128 ^ i := Int.mul_nonneg h0 (by omega)
  obtain ⟨n, rfl⟩ := Int.eq_ofNat_of_zero_le hn
  obtain ⟨c, rfl⟩ := Int.eq_ofNat_of_zero_le h0
  have e : (c : Int) * 128 ^ i = ((2 ^ (7 * i) * c : Nat) : Int) := by
    rw [pow128_two, Int.natCast_mul, Int.natCast_pow, Int.mul_comm]; rfl
  rw [e] at h4 h5 ⊢
  rw [or_u64 (by omega) (by omega)]
  congr 2
  rw [pow128_two] at hlt
  have hlt' : n < 2 ^ (7 * i) := by
    have : ((2 ^ (7 * i) : Nat) : Int) = (2 : Int) ^ (7 * i) := by rw [Int.natCast_pow]; rfl
    omega
  have := Nat.two_pow_add_eq_or_of_lt hlt' c
  rw [Nat.or_comm, ← this]
  omega
theorem isB_tail {c : Int} {cs : List Int} (h : isB (c :: cs)) : isB cs := fun x hx => h x (by simp [hx])
theorem drop_cons {B : List Int} {i : Nat} {c : Int} {cs : List Int} (h : B.drop i = c :: cs) : B[i]? = some c ∧ i < B.length ∧ B.drop (i + 1) = cs := by
  have h1 : (B.drop i)[0]? = some c := by rw [h]; rfl
  rw [List.getElem?_drop] at h1
  refine ⟨by simpa using h1, (List.getElem?_eq_some_iff.1 h1).1, ?_⟩
  rw [← List.drop_drop, h]; rfl
set_option maxHeartbeats 4000000 in
theorem take_loop (cs : List Int) : ∀ (i : Nat) (n : Int) (B : List Int) (_ : isB B) (_ : B.length ≤ 9) (_ : B.drop i = cs) (_ : 0 ≤ n) (_ : n < 128 ^ i) (l : List GV) (g : Nat) (H : GH) (v : GV) (K : GExit × St → Prop) (_ : lget l 11 = v) (_ : Elems 1 v (u8s B)) (_ : lget l 12 = .int .i64 B.length)
    (_ : lget l 13 = .int .i64 i) (_ : lget l 4 = .int .u64 n)
    (_ : ∀ l', takeP i n cs = (0, 0) → K (.exit 0, ⟨⟨l', g⟩, H⟩))
    (_ : ∀ l', lget l' 2 = .int .i64 (takeP i n cs).1 → lget l' 3 = .int .i64 (takeP i n cs).2 → K (.ret, ⟨⟨l', g⟩, H⟩)),
    optW (erun T (.loop L0_x35) ⟨⟨l, g⟩, H⟩) K := by
  induction cs with
  | nil =>
    intro i n B hB hl hd hn hlt l g H v K hv hE h12 h13 h4 hx hr
    have hge : ¬ ((i : Int) < B.length) := by
      have := List.drop_eq_nil_iff.1 hd; omega
    rw [run_loop]
    simp [L0_x35, h12, h13, hge]
    exact hx _ rfl
  | cons c cs ih =>
    intro i n B hB hl hd hn hlt l g H v K hv hE h12 h13 h4 hx hr
    obtain ⟨hget, hi, hd'⟩ := drop_cons hd
    have hlti : (i : Int) < B.length := by omega
    have hc := hB c (List.mem_of_getElem? hget)
    have hm0 : 0 ≤ c % 128 := by omega
    have hm1 : c % 128 < 128 := by omega
    have hi8 : i ≤ 8 := by omega
    have p2 := pow128_le hi8
    have p3 := pow128_pos i
    have p4 : c % 128 * 128 ^ i ≤ 127 * 128 ^ i := Int.mul_le_mul_of_nonneg_right (by omega) (by omega)
    have p5 : 0 ≤ c % 128 * 128 ^ i := Int.mul_nonneg hm0 (by omega)
    have hw1 : IntKind.u64.wrap (c % 128) = c % 128 := wrap_u64' (by omega) (by omega)
    have hw2 : IntKind.i64.wrap (7 * (i : Int)) = 7 * (i : Int) := wrap_i64' (by omega) (by omega)
    have hw3 : IntKind.u64.wrap (7 * (i : Int)) = 7 * (i : Int) := wrap_u64' (by omega) (by omega)
    have hw4 : IntKind.i64.wrap ((i : Int) + 1) = (i : Int) + 1 := wrap_i64' (by omega) (by omega)
    have hw5 : n + c % 128 * 128 ^ i ≤ 4611686018427387903 → IntKind.i64.wrap (n + c % 128 * 128 ^ i) = n + c % 128 * 128 ^ i := fun h => wrap_i64' (by omega) (by omega)
    have hix : gIx B.length (.int .i64 i) = some i := by
      simp only [gIx]
      rw [if_pos (by omega)]; simp
    have hel : (u8s B)[i]? = some (.int .u8 c) := by simp [u8s, hget]
    have hsl : ∃ t, v = .sl 1 (u8s B) t := by
      generalize u8s B = xs at hE hel
      cases hE with
      | nil => simp at hel
      | sl _ t => exact ⟨t, rfl⟩
    obtain ⟨t, rfl⟩ := hsl
    rw [run_loop, wp_seqK]
    rw [takeP] at hx hr
    by_cases hlow : c < 128
    · rw [if_pos hlow] at hx hr
      by_cases hz : c = 0 ∧ 0 < i
      · have hbad : (c = 0 ∧ 0 < i) ∨ n + c % 128 * 128 ^ i > 4611686018427387903 := .inl hz
        rw [if_pos hbad] at hx hr
        have hz0 := eq_true hz.1
        have hz1 : (0 : Int) < i := by omega
        simp [L0_x35, hv, h12, h13, h4, hlti, hix, hel, and127u hc.1 hc.2, hw1, hw2, hw3, hw4, shl7 hm0 hm1 hi8, orShift hm0 hm1 hi8 hn hlt, hlow, hz0, hz.2]
        exact hr _ (by simp) (by simp)
      · have hpk : ∀ (b : Bool), (if decide (c = 0) = true then .bool (decide ((0 : Int) < i)) else GV.bool false) = .bool (decide (c = 0 ∧ 0 < i)) := by
          intro _
          by_cases h : c = 0 <;> simp [h]
        by_cases hbig : n + c % 128 * 128 ^ i > 4611686018427387903
        · rw [if_pos (.inr hbig)] at hx hr
          have hbig' : 4611686018427387903 < n + c % 128 * 128 ^ i := hbig
          by_cases hc0 : c = 0
          · have hi0 : ¬ (0 < i) := fun h => hz ⟨hc0, h⟩
            simp [L0_x35, hv, h12, h13, h4, hlti, hix, hel, and127u hc.1 hc.2, hw1, hw2, hw3, hw4, shl7 hm0 hm1 hi8, orShift hm0 hm1 hi8 hn hlt, hlow, eq_true hc0, hi0, hbig']
            exact hr _ (by simp) (by simp)
          · simp [L0_x35, hv, h12, h13, h4, hlti, hix, hel, and127u hc.1 hc.2, hw1, hw2, hw3, hw4, shl7 hm0 hm1 hi8, orShift hm0 hm1 hi8 hn hlt, hlow, hc0, hbig']
            exact hr _ (by simp) (by simp)
        · have hbig' : ¬ 4611686018427387903 < n + c % 128 * 128 ^ i := hbig
          rw [if_neg (by rintro (h | h); exact hz h; exact hbig h)] at hx hr
          by_cases hc0 : c = 0
          · have hi0 : ¬ (0 < i) := fun h => hz ⟨hc0, h⟩
            simp [L0_x35, hv, h12, h13, h4, hlti, hix, hel, and127u hc.1 hc.2, hw1, hw2, hw3, hw4, shl7 hm0 hm1 hi8, orShift hm0 hm1 hi8 hn hlt, hlow, eq_true hc0, hi0, hbig', hw5 (by omega)]
            exact hr _ (by simp) (by simp)
          · simp [L0_x35, hv, h12, h13, h4, hlti, hix, hel, and127u hc.1 hc.2, hw1, hw2, hw3, hw4, shl7 hm0 hm1 hi8, orShift hm0 hm1 hi8 hn hlt, hlow, hc0, hbig', hw5 (by omega)]
            exact hr _ (by simp) (by simp)
    · rw [if_neg hlow] at hx hr
      simp [L0_x35, hv, h12, h13, h4, hlti, hix, hel, and127u hc.1 hc.2, hw1, hw2, hw3, hw4, shl7 hm0 hm1 hi8, orShift hm0 hm1 hi8 hn hlt, hlow]
      refine ih (i + 1) _ B hB hl hd' (by omega) (by rw [pow128_succ]; omega) _ g H _ K (by simp [hv]) hE (by simp [h12]) (by simp) (by simp) hx hr
theorem take_bounds (cs : List Int) : ∀ (i : Nat) (n : Int), 0 ≤ n → isB cs → 0 ≤ (takeP i n cs).1 ∧ (takeP i n cs).1 ≤ 4611686018427387903 ∧ 0 ≤ (takeP i n cs).2 ∧ (takeP i n cs).2 ≤ i + cs.length ∧ ((takeP i n cs).2 = 0 → (takeP i n cs).1 = 0) := by
  induction cs with
  | nil => intro i n _ _; simp [takeP]
  | cons c cs ih =>
    intro i n hn hb
    have hc := hb c (by simp)
    have p5 : 0 ≤ c % 128 * 128 ^ i := Int.mul_nonneg (by omega) (by have := pow128_pos i; omega)
    rw [takeP]
    simp only [List.length_cons]
    split
    · split
      · simp; omega
      · rename_i h1 h2
        dsimp only
        refine ⟨by omega, by omega, by omega, by omega, by omega⟩
    · have := ih (i + 1) (n + c % 128 * 128 ^ i) (by omega) (isB_tail hb)
      omega
theorem isB_take {B : List Int} (h : isB B) (n : Nat) : isB (B.take n) := fun x hx => h x (List.mem_of_mem_take hx)
theorem isB_drop {B : List Int} (h : isB B) (n : Nat) : isB (B.drop n) := fun x hx => h x (List.mem_of_mem_drop hx)
theorem take_ok {B : List Int} (h : isB B) : 0 ≤ (take B).1 ∧ (take B).1 ≤ 4611686018427387903 ∧ 0 ≤ (take B).2 ∧ (take B).2 ≤ B.length ∧ ((take B).2 = 0 → (take B).1 = 0) := by
  have := take_bounds (B.take 9) 0 0 (by omega) (isB_take h 9)
  simp only [take]
  have h2 := List.length_take_le 9 B
  have h3 : (B.take 9).length ≤ B.length := List.length_take_le' 9 B
  omega
theorem u8s_take (n : Nat) (B : List Int) : u8s (B.take n) = (u8s B).take n := by simp [u8s, List.map_take]
theorem u8s_drop (n : Nat) (B : List Int) : u8s (B.drop n) = (u8s B).drop n := by simp [u8s, List.map_drop]
theorem take_spec {B : List Int} {v : GV} {H : GH} (hB : isB B) (hE : Elems 1 v (u8s B)) (hl : B.length ≤ 2 ^ 40) :
    ecall T f_x35 [v] H = some (.tup [.int .i64 (take B).1, .int .i64 (take B).2], H) := by
  apply optW.eq
  rw [ecall_0 T_x35 rfl (by simp [F_x35]), wp_fin1]
  have hmin : (if (9 : Int) < B.length then (9 : Int) else B.length) = ((min 9 B.length : Nat) : Int) := by split <;> omega
  have hb : gBounds (u8s B).length false true false [GV.int .i64 ((min 9 B.length : Nat) : Int)] = some (0, min 9 B.length, none) := by
    simp only [gBounds, gBound, u8s_length]
    rw [if_pos (by omega)]; simp
  generalize hm : ((min 9 B.length : Nat) : Int) = m at hmin hb
  obtain ⟨v', hcut, hE'⟩ := hE.cut hb
  have hE2 : Elems 1 v' (u8s (B.take 9)) := by
    have : (u8s B).take (min 9 B.length) = u8s (B.take 9) := by
      rw [u8s_take]
      by_cases h : 9 ≤ B.length
      · rw [Nat.min_eq_left h]
      · rw [Nat.min_eq_right (by omega), List.take_of_length_le (by simp), List.take_of_length_le (by simp; omega)]
    simpa [this] using hE'
  simp [F_x35, b_x35, hE.ok, hE.len, hmin, hcut, hE2.ok, hE2.len]
  rw [wp_seqK, wp_blockK]
  refine take_loop (B.take 9) 0 0 (B.take 9) (isB_take hB 9) (List.length_take_le 9 B) rfl (by omega) (by simp) _ _ H v' _ (by simp) hE2 (by simp) (by simp) (by simp) ?_ ?_
  · intro l' h0
    have e : take B = (0, 0) := h0
    simp [e]
  · intro l' h2 h3
    simp [h2, h3, take]
end Go.Proofs.YthmplnbogdfajaaGreatDoor
namespace Go.Proofs.YthmplnbogdfajaaGreatDoor
open Go.Sh
theorem isB_append {a b : List Int} (ha : isB a) (hb : isB b) : isB (a ++ b) := fun x hx => (List.mem_append.1 hx).elim (ha x) (hb x)
theorem isB_hiB {n : Int} (h0 : 0 ≤ n) : isB (hiB n) := by
  fun_induction hiB n with
  | case1 n h => intro x hx; simp at hx
  | case2 n h ih =>
    intro x hx
    rcases List.mem_cons.1 hx with rfl | hx
    · omega
    · exact ih (by omega) x hx
theorem isB_putB (n : Int) : isB (putB n) := by
  rw [putB]
  split
  · intro x hx; simp at hx
  · refine isB_append (isB_hiB (by omega)) (fun x hx => ?_)
    have := loB_le (k := n) (by omega)
    simp at hx
    omega
end Go.Proofs.YthmplnbogdfajaaGreatDoor
namespace Go.Proofs.YthmplnbogdfajaaGreatDoor
open Go.Sh
structure Rd (H : GH) (id : Nat) (B : List Int) (bad : Bool) : Prop where
  ex : ∃ v, H.objs[id]? = some (.cells 133 [v, .bool bad]) ∧ Elems 1 v (u8s B)
  bo : H.bo ≤ id
  isb : isB B
  len : B.length ≤ 2 ^ 40
theorem Rd.lt {H : GH} {id : Nat} {B : List Int} {bad : Bool} (h : Rd H id B bad) : id < H.objs.length := by
  obtain ⟨v, h1, _⟩ := h.ex
  exact (List.getElem?_eq_some_iff.1 h1).1
theorem Rd.mods {H H' : GH} {id : Nat} {B : List Int} {bad : Bool} {ids : Nat → Prop} (h : Rd H id B bad) (hm : Mods ids H H') (hn : ¬ ids id) : Rd H' id B bad := by
  have hlt := h.lt
  obtain ⟨⟨v, h1, h2⟩, h3, h4, h5⟩ := h
  exact ⟨⟨v, by rw [hm.obj id hlt hn]; exact h1, h2⟩, by rw [hm.bo]; exact h3, h4, h5⟩
def rdNum (B : List Int) (bad : Bool) (most : Int) : Int × List Int × Bool :=
  if bad = true then (0, B, true)
  else if (take B).2 = 0 ∨ most < (take B).1 then (0, B, true)
  else ((take B).1, B.drop (take B).2.toNat, false)
def sgn (n : Int) : Int := if n % 2 = 1 then -(n / 2) - 1 else n / 2
def rdText (B : List Int) (bad : Bool) (most : Int) : ByteArray × List Int × Bool :=
  if (rdNum B bad most).2.2 = true ∨ (rdNum B bad most).2.1.length < (rdNum B bad most).1 then (⟨#[]⟩, (rdNum B bad most).2.1, true)
  else (txt ((rdNum B bad most).2.1.take (rdNum B bad most).1.toNat), (rdNum B bad most).2.1.drop (rdNum B bad most).1.toNat, false)
theorem read_spec {v : GV} {B : List Int} {H : GH} (hE : Elems 1 v (u8s B)) (hB : isB B) (hl : B.length ≤ 2 ^ 40) (hbo : H.bo ≤ H.objs.length) :
    ∃ H', ecall T f_x27 [v] H = some (.ptr H.objs.length 0, H') ∧ Rd H' H.objs.length B false ∧ Mods (fun _ => False) H H' := by
  refine ⟨H.newObj (.cells 133 [v, .bool false]), ?_, ⟨⟨v, by simp [GH.newObj], hE⟩, hbo, hB, hl⟩, .new _ _ _⟩
  apply optW.eq
  rw [ecall_0 T_x27 rfl (by simp [F_x27]), wp_fin1]
  simp [F_x27, b_x27, hE.ok, gFill, setPart, hE.cells]
theorem fail_raw {H : GH} {id : Nat} {v : GV} {bad : Bool} (h1 : H.objs[id]? = some (.cells 133 [v, .bool bad])) : ecall T f_x29 [.ptr id 0] H = some (.bool bad, H) := by
  apply optW.eq
  rw [ecall_1 T_x29 rfl (by simp [F_x29]), wp_fin1]
  simp [F_x29, b_x29, h1]
theorem fail_spec {H : GH} {id : Nat} {B : List Int} {bad : Bool} (h : Rd H id B bad) : ecall T f_x29 [.ptr id 0] H = some (.bool bad, H) := by
  obtain ⟨v, h1, h2⟩ := h.ex
  exact fail_raw h1
theorem done_spec {H : GH} {id : Nat} {B : List Int} {bad : Bool} (h : Rd H id B bad) : ecall T f_x28 [.ptr id 0] H = some (.bool (!bad && decide (B = [])), H) := by
  obtain ⟨v, h1, h2⟩ := h.ex
  apply optW.eq
  rw [ecall_1 T_x28 rfl (by simp [F_x28]), wp_fin1]
  cases bad <;> simp [F_x28, b_x28, h1, fail_raw (H := H.over) h1, h2.ok, h2.len]
theorem cutL {B : List Int} {v : GV} (hE : Elems 1 v (u8s B)) {k : Int} (h0 : 0 ≤ k) (h1 : k ≤ B.length) :
    ∃ v', (∀ (call : Nat → List GV → GH → Option (GV × GH)) (l : List GV) (g : Nat) (H : GH), geff call (.slsl 1 true false false) [v, .int .i64 k] ⟨l, g⟩ H = some ⟨v', none, H, g⟩) ∧ Elems 1 v' (u8s (B.drop k.toNat)) := by
  have hb : gBounds (u8s B).length true false false [.int .i64 k] = some (k.toNat, B.length, none) := by
    simp only [gBounds, gBound, u8s_length]
    rw [if_pos (by omega)]; simp
  obtain ⟨v', h2, h3⟩ := hE.cut hb
  refine ⟨v', h2, ?_⟩
  have : ((u8s B).drop k.toNat).take (B.length - k.toNat) = u8s (B.drop k.toNat) := by
    rw [u8s_drop, List.take_of_length_le (by simp)]
  rw [this] at h3; exact h3
theorem cutH {B : List Int} {v : GV} (hE : Elems 1 v (u8s B)) {k : Int} (h0 : 0 ≤ k) (h1 : k ≤ B.length) :
    ∃ v', (∀ (call : Nat → List GV → GH → Option (GV × GH)) (l : List GV) (g : Nat) (H : GH), geff call (.slsl 1 false true false) [v, .int .i64 k] ⟨l, g⟩ H = some ⟨v', none, H, g⟩) ∧ Elems 1 v' (u8s (B.take k.toNat)) := by
  have hb : gBounds (u8s B).length false true false [.int .i64 k] = some (0, k.toNat, none) := by
    simp only [gBounds, gBound, u8s_length]
    rw [if_pos (by omega)]; simp
  obtain ⟨v', h2, h3⟩ := hE.cut hb
  refine ⟨v', h2, ?_⟩
  rw [List.drop_zero, Nat.sub_zero, ← u8s_take] at h3; exact h3
theorem Rd.set {H : GH} {id : Nat} {B B' : List Int} {bad bad' : Bool} {v' : GV} (h : Rd H id B bad) (hE : Elems 1 v' (u8s B')) (hB : isB B') (hl : B'.length ≤ 2 ^ 40) : Rd { H with objs := H.objs.set id (.cells 133 [v', .bool bad']) } id B' bad' := by
  obtain ⟨v, h1, _⟩ := h.ex
  exact ⟨⟨v', obj_set h1, hE⟩, h.bo, hB, hl⟩
theorem num_spec {H : GH} {id : Nat} {B : List Int} {bad : Bool} (h : Rd H id B bad) (most : Int) :
    ∃ H', ecall T f_x30 [.ptr id 0, .int .i64 most] H = some (.int .i64 (rdNum B bad most).1, H') ∧ Rd H' id (rdNum B bad most).2.1 (rdNum B bad most).2.2 ∧ Mods (· = id) H H' := by
  obtain ⟨v, h1, h2⟩ := h.ex
  have key : optW (ecall T f_x30 [.ptr id 0, .int .i64 most] H) fun r => r.1 = .int .i64 (rdNum B bad most).1 ∧ Rd r.2 id (rdNum B bad most).2.1 (rdNum B bad most).2.2 ∧ Mods (· = id) H r.2 := by
    rw [ecall_0 T_x30 rfl (by simp [F_x30]), wp_fin1]
    have ht := take_spec h.isb h2 h.len (H := H)
    obtain ⟨k1, k2, k3, k4, k5⟩ := take_ok h.isb
    cases hbad : bad with
    | true =>
      subst hbad
      simp [F_x30, b_x30, fail_spec h, rdNum]
      exact ⟨h, .refl _ _⟩
    | false =>
      subst hbad
      by_cases hz : (take B).2 = 0
      · simp [F_x30, b_x30, fail_spec h, h1, ht, h2.ok, hz, h.bo, setPart, rdNum]
        exact ⟨h.set h2 h.isb h.len, .set _ _ _⟩
      · by_cases hm : most < (take B).1
        · simp [F_x30, b_x30, fail_spec h, h1, ht, h2.ok, hz, hm, h.bo, setPart, rdNum]
          exact ⟨h.set h2 h.isb h.len, .set _ _ _⟩
        · obtain ⟨v', c1, c2⟩ := cutL h2 k3 k4
          simp [F_x30, b_x30, fail_spec h, h1, ht, h2.ok, hz, hm, h.bo, setPart, rdNum, c1, c2.ok, c2.cells, c2.one]
          exact ⟨h.set c2 (isB_drop h.isb _) (by have := h.len; simp; omega), .set _ _ _⟩
  obtain ⟨⟨r, H'⟩, e1, e2, e3, e4⟩ := key
  simp only at e2 e3 e4
  subst e2
  exact ⟨H', e1, e3, e4⟩
theorem rdNum_ok {B : List Int} {bad : Bool} (hB : isB B) (most : Int) : 0 ≤ (rdNum B bad most).1 ∧ (rdNum B bad most).1 ≤ 4611686018427387903 := by
  have := take_ok hB
  rw [rdNum]
  split
  · simp
  · split
    · simp
    · simp only; omega
theorem and1 {k : Int} (h0 : 0 ≤ k) (h : k < 2 ^ 62) : gInt .and .i64 k 1 = some (.int .i64 (k % 2)) := by
  obtain ⟨k, rfl⟩ := Int.eq_ofNat_of_zero_le h0
  have := and_i64 (a := k) (b := 1) (by omega) (by decide)
  rw [Nat.and_one_is_mod] at this
  rw [show (k : Int) % 2 = ((k % 2 : Nat) : Int) by omega]
  exact this
theorem rsigned_spec {H : GH} {id : Nat} {B : List Int} {bad : Bool} (h : Rd H id B bad) :
    ∃ H', ecall T f_x31 [.ptr id 0] H = some (.int .i64 (sgn (rdNum B bad 2305843009213693952).1), H') ∧ Rd H' id (rdNum B bad 2305843009213693952).2.1 (rdNum B bad 2305843009213693952).2.2 ∧ Mods (· = id) H H' := by
  obtain ⟨H1, h1, h2, h3⟩ := num_spec h 2305843009213693952
  refine ⟨H1, ?_, h2, h3⟩
  obtain ⟨k0, k1⟩ := rdNum_ok (bad := bad) h.isb 2305843009213693952
  generalize (rdNum B bad 2305843009213693952).1 = n at h1 k0 k1
  apply optW.eq
  rw [ecall_0 T_x31 rfl (by simp [F_x31]), wp_fin1]
  have hq : n.tdiv 2 = n / 2 := Int.tdiv_eq_ediv_of_nonneg k0
  have w1 : IntKind.i64.wrap (n / 2) = n / 2 := wrap_i64' (by omega) (by omega)
  have w2 : IntKind.i64.wrap (0 - n / 2) = 0 - n / 2 := wrap_i64' (by omega) (by omega)
  have w3 : IntKind.i64.wrap (0 - n / 2 - 1) = 0 - n / 2 - 1 := wrap_i64' (by omega) (by omega)
  simp only [Int.zero_sub] at w2 w3
  by_cases ho : n % 2 = 1
  · simp [F_x31, b_x31, h1, and1 k0 (by omega), ho, gInt_quo, hq, w1, w2, w3, sgn]
  · simp [F_x31, b_x31, h1, and1 k0 (by omega), ho, gInt_quo, hq, w1, w2, w3, sgn]
theorem rtext_spec {H : GH} {id : Nat} {B : List Int} {bad : Bool} (h : Rd H id B bad) (most : Int) :
    ∃ H', ecall T f_x32 [.ptr id 0, .int .i64 most] H = some (.str (rdText B bad most).1, H') ∧ Rd H' id (rdText B bad most).2.1 (rdText B bad most).2.2 ∧ Mods (· = id) H H' := by
  obtain ⟨H1, hn1, hn2, hn3⟩ := num_spec h most
  obtain ⟨k0, k1⟩ := rdNum_ok (bad := bad) h.isb most
  rw [rdText]
  generalize rdNum B bad most = r at hn1 hn2 k0 k1
  obtain ⟨n, B1, bad1⟩ := r
  simp only at hn1 hn2 k0 k1
  obtain ⟨v, h1, h2⟩ := hn2.ex
  have key : optW (ecall T f_x32 [.ptr id 0, .int .i64 most] H) fun r => r.1 = .str (if bad1 = true ∨ B1.length < n then (⟨#[]⟩, B1, true) else (txt (B1.take n.toNat), B1.drop n.toNat, false)).1 ∧
      Rd r.2 id (if bad1 = true ∨ B1.length < n then ((⟨#[]⟩ : ByteArray), B1, true) else (txt (B1.take n.toNat), B1.drop n.toNat, false)).2.1 (if bad1 = true ∨ B1.length < n then ((⟨#[]⟩ : ByteArray), B1, true) else (txt (B1.take n.toNat), B1.drop n.toNat, false)).2.2 ∧ Mods (· = id) H r.2 := by
    rw [ecall_0 T_x32 rfl (by simp [F_x32]), wp_fin1]
    cases hbad : bad1 with
    | true =>
      subst hbad
      simp [F_x32, b_x32, hn1, fail_spec hn2]
      exact ⟨hn2, hn3⟩
    | false =>
      subst hbad
      by_cases hlen : (B1.length : Int) < n
      · simp [F_x32, b_x32, hn1, fail_spec hn2, h1, h2.ok, h2.len, hlen, hn2.bo, setPart]
        exact ⟨hn2.set h2 hn2.isb hn2.len, hn3.trans (.set _ _ _)⟩
      · obtain ⟨v1, c1, c2⟩ := cutH h2 k0 (by omega)
        obtain ⟨v2, d1, d2⟩ := cutL h2 k0 (by omega)
        simp [F_x32, b_x32, hn1, fail_spec hn2, h1, h2.ok, h2.len, hlen, hn2.bo, setPart, c1, c2.ok, b2s_u8s c2, d1, d2.ok, d2.cells, d2.one]
        exact ⟨hn2.set d2 (isB_drop hn2.isb _) (by have := hn2.len; simp; omega), hn3.trans (.set _ _ _)⟩
  obtain ⟨⟨r, H'⟩, e1, e2, e3, e4⟩ := key
  simp only at e2 e3 e4
  subst e2
  exact ⟨H', e1, e3, e4⟩
end Go.Proofs.YthmplnbogdfajaaGreatDoor
