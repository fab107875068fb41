/- Own work, over the shadow machine: VSpec6. -/
import Derived.Test.YtbcdhjalciljaaaDoorSp5
set_option linter.all false
namespace Go.Proofs.YtbcdhjalciljaaaDoor
open Go.Sh
set_option maxRecDepth 100000

/-! ## Plain texts -/

def nextK (v : GV) (s g' off g : Nat) (H : GH) : Option Eff :=
  match v with
  | .siter g'' t pos => if g'' = g' ∧ off = 0 then
      if pos < t.size then
        some ⟨.tup [.bool true, .int .i64 pos, .int .i32 (Utf8.decode t pos).1], some (s, .siter g' t (pos + (Utf8.decode t pos).2)), H, g⟩
      else some ⟨.tup [.bool false], none, H, g⟩
    else none
  | _ => none
theorem geff_next {call : Nat → List GV → GH → Option (GV × GH)} (l : List GV) (g s g' o : Nat) (H : GH) : geff call .next [.laddr s g' o] ⟨l, g⟩ H = nextK (lget l s) s g' o g H := by
  simp only [geff, nextK]
  generalize lget l s = v
  cases v <;> try rfl
theorem nextK_siter (s g' g : Nat) (t : ByteArray) (pos : Nat) (H : GH) : nextK (.siter g' t pos) s g' 0 g H = if pos < t.size then
        some ⟨.tup [.bool true, .int .i64 pos, .int .i32 (Utf8.decode t pos).1], some (s, .siter g' t (pos + (Utf8.decode t pos).2)), H, g⟩
      else some ⟨.tup [.bool false], none, H, g⟩ := by simp [nextK]

def okc (c : UInt8) : Bool := decide (32 ≤ c.toNat ∧ c.toNat ≤ 126)

theorem plain_loop (a : ByteArray) (cs : List UInt8) : ∀ (i : Nat) (_ : a.data.toList.drop i = cs) (l : List GV) (g g' : Nat) (H : GH) (K : GExit × St → Prop)
    (_ : lget l 0 = .str a) (_ : lget l 6 = .siter g' a i)
    (_ : ∀ l', cs.all okc = false → lget l' 2 = .bool false → K (.ret, ⟨⟨l', g⟩, H⟩))
    (_ : ∀ l', cs.all okc = true → lget l' 0 = .str a → K (.exit 0, ⟨⟨l', g⟩, H⟩)),
    optW (erun T (.loop L0_value_plain) ⟨⟨l, g⟩, H⟩) K := by
  induction cs with
  | nil =>
    intro i hd l g g' H K h0 h6 hr he
    have hlen := drop_none hd
    have hge : ¬ (i < a.size) := by
      have : a.size = a.data.toList.length := by simp
      omega
    rw [run_loop]
    simp [L0_value_plain, h0, h6, geff_next, nextK_siter, hge]
    exact he _ (by simp) (by simp [h0])
  | cons c cs ih =>
    intro i hd l g g' H K h0 h6 hr he
    obtain ⟨hg, hi, hd'⟩ := drop_some hd
    have hsz : a.size = a.data.toList.length := by simp
    have hlt : i < a.size := by omega
    have hgi : a[i]'hlt = c := by
      have h1 : a[i]? = some c := by rw [str_get]; exact hg
      rw [getElem?_pos a i hlt] at h1
      exact Option.some.inj h1
    rw [run_loop, wp_seqK]
    by_cases h128 : c.toNat < 128
    · have hdec := decode_ascii a i hlt (by rw [hgi]; exact h128)
      rw [hgi] at hdec
      by_cases h1 : (c.toNat : Int) < 32
      · have hk : okc c = false := by simp [okc]; omega
        have h1' : c.toNat < 32 := by omega
        simp [L0_value_plain, h0, h6, geff_next, nextK_siter, hlt, hdec, h1, h1']
        exact hr _ (by simp [hk]) (by simp)
      · have h1' : ¬ c.toNat < 32 := by omega
        by_cases h2 : (126 : Int) < c.toNat
        · have h2' : 126 < c.toNat := by omega
          have hk : okc c = false := by simp [okc]; omega
          simp [L0_value_plain, h0, h6, geff_next, nextK_siter, hlt, hdec, h1, h1', h2, h2']
          exact hr _ (by simp [hk]) (by simp)
        · have h2' : ¬ 126 < c.toNat := by omega
          have hk : okc c = true := by simp [okc]; omega
          simp [L0_value_plain, h0, h6, geff_next, nextK_siter, hlt, hdec, h1, h1', h2, h2']
          refine ih (i + 1) hd' _ g g' H K ?_ ?_ ?_ ?_
          · simp [h0]
          · simp
          · intro l' h1 h2; exact hr l' (by simp [hk, h1]) h2
          · intro l' h1 h2; exact he l' (by simp [hk, h1]) h2
    · have hdec := (decode_high a i hlt (by rw [hgi]; omega)).1
      have hk : okc c = false := by simp [okc]; omega
      have h1 : ¬ ((Utf8.decode a i).1 : Int) < 32 := by omega
      have h2 : (126 : Int) < (Utf8.decode a i).1 := by omega
      have h1' : ¬ ((Utf8.decode a i).1) < 32 := by omega
      have h2' : 126 < (Utf8.decode a i).1 := by omega
      simp [L0_value_plain, h0, h6, geff_next, nextK_siter, hlt, h1, h2, h1', h2']
      exact hr _ (by simp [hk]) (by simp)

theorem value_plain (a : ByteArray) (H : GH) : ecall T f_value_plain [.str a] H = some (.bool (plainL a.data.toList), H) := by
  apply optW.eq
  rw [ecall_0 T_value_plain rfl (by simp [F_value_plain]), wp_fin1]
  have hsz : a.size = a.data.toList.length := by simp
  have hp : plainL a.data.toList = (a.data.toList.all okc && decide (a.data.toList.length ≤ 64)) := rfl
  rw [hp]
  simp only [F_value_plain, b_value_plain]
  simp
  rw [wp_seqK, wp_blockK]
  refine plain_loop a a.data.toList 0 (by simp) _ _ 0 _ _ ?_ ?_ ?_ ?_
  · simp
  · simp
  · intro l' h1 h2
    simp [h2]
    intro h; simp [h] at h1
  · intro l' h1 h2
    by_cases h64 : (a.size : Int) ≤ 64
    · simp [h2, h64]; exact ⟨by simpa using h1, by omega⟩
    · simp [h2, h64]; intro _; omega

theorem rplain_loop (a : ByteArray) (ha : a.size ≤ 9223372036854775807) (cs : List UInt8) : ∀ (i : Nat) (_ : a.data.toList.drop i = cs) (l : List GV) (g : Nat) (H : GH) (K : GExit × St → Prop)
    (_ : lget l 0 = .str a) (_ : lget l 3 = .int .i64 i)
    (_ : ∀ l', cs.all okc = false → lget l' 2 = .bool false → K (.ret, ⟨⟨l', g⟩, H⟩))
    (_ : ∀ l', cs.all okc = true → lget l' 0 = .str a → K (.exit 0, ⟨⟨l', g⟩, H⟩)),
    optW (erun T (.loop L0_hedgerowref01_plain) ⟨⟨l, g⟩, H⟩) K := by
  induction cs with
  | nil =>
    intro i hd l g H K h0 h3 hr he
    have hlen := drop_none hd
    have hge : ¬ ((i : Int) < a.size) := by
      have : a.size = a.data.toList.length := by simp
      omega
    rw [run_loop]
    simp [L0_hedgerowref01_plain, h0, h3, hge]
    exact he _ (by simp) (by simp [h0])
  | cons c cs ih =>
    intro i hd l g H K h0 h3 hr he
    obtain ⟨hg, hi, hd'⟩ := drop_some hd
    have hsz : a.size = a.data.toList.length := by simp
    have hlt : (i : Int) < a.size := by omega
    have hix := ix_ok hlt
    have hw : IntKind.i64.wrap ((i : Int) + 1) = (i : Int) + 1 := wrap_i64' (by omega) (by omega)
    have hg' : a.data[i]? = some c := by simpa using hg
    rw [run_loop, wp_seqK]
    by_cases h1 : (c.toNat : Int) < 32
    · have hk : okc c = false := by simp [okc]; omega
      have h1' : c.toNat < 32 := by omega
      simp [L0_hedgerowref01_plain, h0, h3, hlt, hix, str_get, hg', h1, h1']
      exact hr _ (by simp [hk]) (by simp)
    · have h1' : ¬ c.toNat < 32 := by omega
      by_cases h2 : (126 : Int) < c.toNat
      · have h2' : 126 < c.toNat := by omega
        have hk : okc c = false := by simp [okc]; omega
        simp [L0_hedgerowref01_plain, h0, h3, hlt, hix, str_get, hg', h1, h1', h2, h2']
        exact hr _ (by simp [hk]) (by simp)
      · have h2' : ¬ 126 < c.toNat := by omega
        have hk : okc c = true := by simp [okc]; omega
        simp [L0_hedgerowref01_plain, h0, h3, hlt, hix, str_get, hg', h1, h1', h2, h2', hw]
        refine ih (i + 1) hd' _ g H K ?_ ?_ ?_ ?_
        · simp [h0]
        · simp
        · intro l' h1 h2; exact hr l' (by simp [hk, h1]) h2
        · intro l' h1 h2; exact he l' (by simp [hk, h1]) h2

theorem ref_plain (a : ByteArray) (ha : a.size ≤ 9223372036854775807) (H : GH) : ecall T f_hedgerowref01_plain [.str a] H = some (.bool (plainL a.data.toList), H) := by
  apply optW.eq
  rw [ecall_0 T_hedgerowref01_plain rfl (by simp [F_hedgerowref01_plain]), wp_fin1]
  have hsz : a.size = a.data.toList.length := by simp
  have hp : plainL a.data.toList = (a.data.toList.all okc && decide (a.data.toList.length ≤ 64)) := rfl
  rw [hp]
  simp only [F_hedgerowref01_plain, b_hedgerowref01_plain]
  simp
  rw [wp_seqK, wp_blockK]
  refine rplain_loop a ha a.data.toList 0 (by simp) _ _ _ _ ?_ ?_ ?_ ?_
  · simp
  · simp
  · intro l' h1 h2
    simp [h2]
    intro h; simp [h] at h1
  · intro l' h1 h2
    by_cases h64 : (a.size : Int) ≤ 64
    · simp [h2, h64]; exact ⟨by simpa using h1, by omega⟩
    · simp [h2, h64]; intro _; omega
end Go.Proofs.YtbcdhjalciljaaaDoor
