/- Own work: the shadow machine and what it shows, part Val. -/
import Derived.Test.YtlmiihdkgaljoaaGreatDoorSp1
import Derived.Test.YtlmiihdkgaljoaaGreatDoorPu
import Derived.Laws.RangeString
import Derived.Laws.RangeAny
set_option linter.all false

namespace Go.Proofs.YtlmiihdkgaljoaaGreatDoor
open Go.Sh
set_option maxRecDepth 100000

theorem drop_none {l : List UInt8} {i : Nat} (h : l.drop i = []) : l.length ≤ i := by simpa using h

theorem drop_some {l cs : List UInt8} {c : UInt8} {i : Nat} (h : l.drop i = c :: cs) : l[i]? = some c ∧ i < l.length ∧ l.drop (i + 1) = cs := by
  have h1 : i < l.length := by
    rcases Nat.lt_or_ge i l.length with h1 | h1
    · exact h1
    · rw [List.drop_eq_nil_of_le h1] at h; cases h
  refine ⟨?_, h1, ?_⟩
  · have := congrArg (·[0]?) h
    simpa using this
  · have := congrArg List.tail h
    simpa using this

theorem u8_ne {x y : UInt8} : (x.toNat : Int) = y.toNat ↔ x = y := by
  constructor
  · intro h; exact UInt8.toNat_inj.1 (by omega)
  · rintro rfl; rfl

/-- What tells letters and others apart. -/
structure Cls (c : UInt8) (p0 p1 p2 p3 p4 p5 p6 lt inn : Bool) : Prop where
  a0 : decide ((97 : Int) ≤ c.toNat) = p0
  a1 : decide ((c.toNat : Int) ≤ 122) = p1
  a2 : decide ((65 : Int) ≤ c.toNat) = p2
  a3 : decide ((c.toNat : Int) ≤ 90) = p3
  a4 : decide ((48 : Int) ≤ c.toNat) = p4
  a5 : decide ((c.toNat : Int) ≤ 57) = p5
  a6 : decide ((c.toNat : Int) = 95) = p6
  l : letter c = lt
  n : inner c = inn

theorem cls (c : UInt8) : Cls c false true false true false true false false false ∨ Cls c false true false true true true false false true ∨ Cls c false true false true true false false false false ∨
    Cls c false true true true true false false true true ∨ Cls c false true true false true false false false false ∨ Cls c false true true false true false true false true ∨
    Cls c true true true false true false false true true ∨ Cls c true false true false true false false false false := by
  rcases (by omega : (c.toNat : Int) < 48 ∨ (48 ≤ (c.toNat : Int) ∧ (c.toNat : Int) ≤ 57) ∨ (58 ≤ (c.toNat : Int) ∧ (c.toNat : Int) ≤ 64) ∨ (65 ≤ (c.toNat : Int) ∧ (c.toNat : Int) ≤ 90) ∨ (91 ≤ (c.toNat : Int) ∧ (c.toNat : Int) ≤ 94) ∨ (c.toNat : Int) = 95 ∨ (c.toNat : Int) = 96 ∨ (97 ≤ (c.toNat : Int) ∧ (c.toNat : Int) ≤ 122) ∨ 123 ≤ (c.toNat : Int)) with h | h | h | h | h | h | h | h | h
  · left; constructor <;> simp [inner, letter] <;> omega
  · right; left; constructor <;> simp [inner, letter] <;> omega
  · right; right; left; constructor <;> simp [inner, letter] <;> omega
  · right; right; right; left; constructor <;> simp [inner, letter] <;> omega
  · right; right; right; right; left; constructor <;> simp [inner, letter] <;> omega
  · right; right; right; right; right; left; constructor <;> simp [inner, letter] <;> omega
  · right; right; right; right; left; constructor <;> simp [inner, letter] <;> omega
  · right; right; right; right; right; right; left; constructor <;> simp [inner, letter] <;> omega
  · right; right; right; right; right; right; right; constructor <;> simp [inner, letter] <;> omega

theorem value_letter (c : UInt8) (H : GH) : ecall T f_value_letter [.int .u8 c.toNat] H = some (.bool (letter c), H) := by
  apply optW.eq
  rw [ecall_0 T_value_letter rfl (by simp [F_value_letter]), wp_fin1]
  unfold letter
  rcases (by omega : (c.toNat : Int) < 48 ∨ (48 ≤ (c.toNat : Int) ∧ (c.toNat : Int) ≤ 57) ∨ (58 ≤ (c.toNat : Int) ∧ (c.toNat : Int) ≤ 64) ∨ (65 ≤ (c.toNat : Int) ∧ (c.toNat : Int) ≤ 90) ∨ (91 ≤ (c.toNat : Int) ∧ (c.toNat : Int) ≤ 94) ∨ (c.toNat : Int) = 95 ∨ (c.toNat : Int) = 96 ∨ (97 ≤ (c.toNat : Int) ∧ (c.toNat : Int) ≤ 122) ∨ 123 ≤ (c.toNat : Int)) with h | h | h | h | h | h | h | h | h
  all_goals
    first | (have a0 : (97 : Int) ≤ c.toNat := by omega) | (have a0 : ¬ ((97 : Int) ≤ c.toNat) := by omega)
    first | (have a1 : (c.toNat : Int) ≤ 122 := by omega) | (have a1 : ¬ ((c.toNat : Int) ≤ 122) := by omega)
    first | (have a2 : (65 : Int) ≤ c.toNat := by omega) | (have a2 : ¬ ((65 : Int) ≤ c.toNat) := by omega)
    first | (have a3 : (c.toNat : Int) ≤ 90 := by omega) | (have a3 : ¬ ((c.toNat : Int) ≤ 90) := by omega)
    first | (have a4 : (48 : Int) ≤ c.toNat := by omega) | (have a4 : ¬ ((48 : Int) ≤ c.toNat) := by omega)
    first | (have a5 : (c.toNat : Int) ≤ 57 := by omega) | (have a5 : ¬ ((c.toNat : Int) ≤ 57) := by omega)
    first | (have a6 : (c.toNat : Int) = 95 := by omega) | (have a6 : ¬ ((c.toNat : Int) = 95) := by omega)
    simp [F_value_letter, b_value_letter, a0, a1, a2, a3]
    omega

theorem value_inner (c : UInt8) (H : GH) : ecall T f_value_inner [.int .u8 c.toNat] H = some (.bool (inner c), H) := by
  apply optW.eq
  rw [ecall_0 T_value_inner rfl (by simp [F_value_inner]), wp_fin1]
  unfold inner
  cases hl : letter c
  · rcases (by omega : (c.toNat : Int) < 48 ∨ (48 ≤ (c.toNat : Int) ∧ (c.toNat : Int) ≤ 57) ∨ (58 ≤ (c.toNat : Int) ∧ (c.toNat : Int) ≤ 64) ∨ (65 ≤ (c.toNat : Int) ∧ (c.toNat : Int) ≤ 90) ∨ (91 ≤ (c.toNat : Int) ∧ (c.toNat : Int) ≤ 94) ∨ (c.toNat : Int) = 95 ∨ (c.toNat : Int) = 96 ∨ (97 ≤ (c.toNat : Int) ∧ (c.toNat : Int) ≤ 122) ∨ 123 ≤ (c.toNat : Int)) with h | h | h | h | h | h | h | h | h
    all_goals
      first | (have a0 : (97 : Int) ≤ c.toNat := by omega) | (have a0 : ¬ ((97 : Int) ≤ c.toNat) := by omega)
      first | (have a1 : (c.toNat : Int) ≤ 122 := by omega) | (have a1 : ¬ ((c.toNat : Int) ≤ 122) := by omega)
      first | (have a2 : (65 : Int) ≤ c.toNat := by omega) | (have a2 : ¬ ((65 : Int) ≤ c.toNat) := by omega)
      first | (have a3 : (c.toNat : Int) ≤ 90 := by omega) | (have a3 : ¬ ((c.toNat : Int) ≤ 90) := by omega)
      first | (have a4 : (48 : Int) ≤ c.toNat := by omega) | (have a4 : ¬ ((48 : Int) ≤ c.toNat) := by omega)
      first | (have a5 : (c.toNat : Int) ≤ 57 := by omega) | (have a5 : ¬ ((c.toNat : Int) ≤ 57) := by omega)
      first | (have a6 : (c.toNat : Int) = 95 := by omega) | (have a6 : ¬ ((c.toNat : Int) = 95) := by omega)
      first
        | (have hv := value_letter c H; rw [h, hl] at hv; have hn : c.toNat = 95 := by omega
           simp [F_value_inner, b_value_inner, hv, h, hn]; done)
        | (simp [F_value_inner, b_value_inner, value_letter, hl, a4, a5, a6]; done)
        | (simp [F_value_inner, b_value_inner, value_letter, hl, a4, a5, a6]; omega)
  · simp [F_value_inner, b_value_inner, value_letter, hl]

theorem name_loop (a : ByteArray) (ha : a.size ≤ 9223372036854775807) (cs : List UInt8) : ∀ (i : Nat) (_ : a.data.toList.drop i = cs) (l : List GV) (g : Nat) (H : GH) (K : GExit × St → Prop)
    (_ : lget l 0 = .str a) (_ : lget l 18 = .int .i64 a.size) (_ : lget l 19 = .int .i64 i)
    (_ : ∀ l', cs.all inner = false → lget l' 2 = .bool false → K (.ret, ⟨⟨l', g⟩, H⟩))
    (_ : ∀ l', cs.all inner = true → K (.exit 0, ⟨⟨l', g⟩, H⟩)),
    optW (erun T (.loop L0_value_Name) ⟨⟨l, g⟩, H⟩) K := by
  induction cs with
  | nil =>
    intro i hd l g H K h0 h18 h19 hr he
    have hlen := drop_none hd
    have hge : ¬ ((i : Int) < a.size) := by
      have : a.size = a.data.toList.length := by simp
      omega
    rw [run_loop]
    simp [L0_value_Name, h0, h18, h19, hge]
    exact he _ (by simp)
  | cons c cs ih =>
    intro i hd l g H K h0 h18 h19 hr he
    obtain ⟨hg, hi, hd'⟩ := drop_some hd
    have hsz : a.size = a.data.toList.length := by simp
    have hlt : (i : Int) < a.size := by omega
    have hix := ix_ok hlt
    have hw : IntKind.i64.wrap ((i : Int) + 1) = (i : Int) + 1 := wrap_i64' (by omega) (by omega)
    have hg' : a.data[i]? = some c := by simpa using hg
    rw [run_loop, wp_seqK]
    cases hin : inner c
    · simp [L0_value_Name, h0, h18, h19, hlt, hix, str_get, hg', value_inner, hin]
      exact hr _ (by simp [hin]) (by simp)
    · simp [L0_value_Name, h0, h18, h19, hlt, hix, str_get, hg', value_inner, hin, hw]
      refine ih (i + 1) hd' _ g H K ?_ ?_ ?_ ?_ ?_
      · simp [h0]
      · simp [h18]
      · simp
      · intro l' h1 h2; exact hr l' (by simp [hin, h1]) h2
      · intro l' h1; exact he l' (by simp [hin, h1])

theorem nil_str (a : ByteArray) : (a.data.toList = []) ↔ a.size = 0 := by
  have : a.size = a.data.toList.length := by simp
  rw [this]; exact List.length_eq_zero_iff.symm

theorem value_Name (a : ByteArray) (ha : a.size ≤ 9223372036854775807) (H : GH) : ecall T f_value_Name [.str a] H = some (.bool (nameL a.data.toList), H) := by
  apply optW.eq
  rw [ecall_0 T_value_Name rfl (by simp [F_value_Name]), wp_fin1]
  have hsz : a.size = a.data.toList.length := by simp
  unfold nameL
  cases hl : a.data.toList with
  | nil =>
    have ha0 : a = ⟨#[]⟩ := by
      rcases a with ⟨d⟩
      have : d = #[] := Array.toList_inj.1 hl
      rw [this]
    simp [F_value_Name, b_value_Name, ha0]
  | cons c cs =>
    have hcl : ¬ a = ⟨#[]⟩ := by intro h; rw [h] at hl; cases hl
    by_cases h16 : (16 : Int) < a.size
    · have : ¬ cs.length + 1 ≤ 16 := by rw [hl] at hsz; simp at hsz; omega
      simp [F_value_Name, b_value_Name, hcl, h16, this]
    · have h16' : cs.length + 1 ≤ 16 := by rw [hl] at hsz; simp at hsz; omega
      have hix : gIx a.size (.int .i64 0) = some 0 := ix_ok (i := 0) (by rw [hl] at hsz; simp at hsz; omega)
      have hg0 : a.data[0]? = some c := by
        have : a.data.toList[0]? = some c := by rw [hl]; rfl
        simpa using this
      cases hlet : letter c
      · simp [F_value_Name, b_value_Name, hcl, h16, hix, str_get, hg0, value_letter, hlet]
      · simp [F_value_Name, b_value_Name, hcl, h16, hix, str_get, hg0, value_letter, hlet]
        rw [wp_seqK, wp_blockK]
        refine name_loop a ha (c :: cs) 0 (by simp [hl]) _ _ _ _ ?_ ?_ ?_ ?_ ?_
        · simp
        · simp
        · simp
        · intro l' h1 h2
          simp [h2]
          intro _; simpa using h1
        · intro l' h1
          simp
          exact ⟨by omega, by simpa using h1⟩

def nextK (v : GV) (s g' off g : Nat) (H : GH) : Option Eff :=
  match v with
  | .siter g'' t pos => if g'' = g' ∧ off = 0 then
      if pos < t.size then
        some ⟨.tup [.bool true, .int .i64 pos, .int .i32 (Utf8.decode t pos).1], some (s, .siter g' t (pos + (Utf8.decode t pos).2)), H, g⟩
      else some ⟨.tup [.bool false], none, H, g⟩
    else none
  | _ => none

theorem geff_next {call : Nat → List GV → GH → Option (GV × GH)} (l : List GV) (g s g' o : Nat) (H : GH) : geff call .next [.laddr s g' o] ⟨l, g⟩ H = nextK (lget l s) s g' o g H := by
  simp only [geff, nextK]
  generalize lget l s = v
  cases v <;> try rfl

theorem nextK_siter (s g' g : Nat) (t : ByteArray) (pos : Nat) (H : GH) : nextK (.siter g' t pos) s g' 0 g H = if pos < t.size then
        some ⟨.tup [.bool true, .int .i64 pos, .int .i32 (Utf8.decode t pos).1], some (s, .siter g' t (pos + (Utf8.decode t pos).2)), H, g⟩
      else some ⟨.tup [.bool false], none, H, g⟩ := by simp [nextK]

def okc (c : UInt8) : Bool := decide (32 ≤ c.toNat ∧ c.toNat ≤ 126)

theorem plain_loop (a : ByteArray) (cs : List UInt8) : ∀ (i : Nat) (_ : a.data.toList.drop i = cs) (l : List GV) (g g' : Nat) (H : GH) (K : GExit × St → Prop)
    (_ : lget l 0 = .str a) (_ : lget l 6 = .siter g' a i)
    (_ : ∀ l', cs.all okc = false → lget l' 2 = .bool false → K (.ret, ⟨⟨l', g⟩, H⟩))
    (_ : ∀ l', cs.all okc = true → lget l' 0 = .str a → K (.exit 0, ⟨⟨l', g⟩, H⟩)),
    optW (erun T (.loop L0_value_plain) ⟨⟨l, g⟩, H⟩) K := by
  induction cs with
  | nil =>
    intro i hd l g g' H K h0 h6 hr he
    have hlen := drop_none hd
    have hge : ¬ (i < a.size) := by
      have : a.size = a.data.toList.length := by simp
      omega
    rw [run_loop]
    simp [L0_value_plain, h0, h6, geff_next, nextK_siter, hge]
    exact he _ (by simp) (by simp [h0])
  | cons c cs ih =>
    intro i hd l g g' H K h0 h6 hr he
    obtain ⟨hg, hi, hd'⟩ := drop_some hd
    have hsz : a.size = a.data.toList.length := by simp
    have hlt : i < a.size := by omega
    have hgi : a[i]'hlt = c := by
      have h1 : a[i]? = some c := by rw [str_get]; exact hg
      rw [getElem?_pos a i hlt] at h1
      exact Option.some.inj h1
    rw [run_loop, wp_seqK]
    by_cases h128 : c.toNat < 128
    · have hdec := decode_ascii a i hlt (by rw [hgi]; exact h128)
      rw [hgi] at hdec
      by_cases h1 : (c.toNat : Int) < 32
      · have hk : okc c = false := by simp [okc]; omega
        have h1' : c.toNat < 32 := by omega
        simp [L0_value_plain, h0, h6, geff_next, nextK_siter, hlt, hdec, h1, h1']
        exact hr _ (by simp [hk]) (by simp)
      · have h1' : ¬ c.toNat < 32 := by omega
        by_cases h2 : (126 : Int) < c.toNat
        · have h2' : 126 < c.toNat := by omega
          have hk : okc c = false := by simp [okc]; omega
          simp [L0_value_plain, h0, h6, geff_next, nextK_siter, hlt, hdec, h1, h1', h2, h2']
          exact hr _ (by simp [hk]) (by simp)
        · have h2' : ¬ 126 < c.toNat := by omega
          have hk : okc c = true := by simp [okc]; omega
          simp [L0_value_plain, h0, h6, geff_next, nextK_siter, hlt, hdec, h1, h1', h2, h2']
          refine ih (i + 1) hd' _ g g' H K ?_ ?_ ?_ ?_
          · simp [h0]
          · simp
          · intro l' h1 h2; exact hr l' (by simp [hk, h1]) h2
          · intro l' h1 h2; exact he l' (by simp [hk, h1]) h2
    · have hdec := (decode_high a i hlt (by rw [hgi]; omega)).1
      have hk : okc c = false := by simp [okc]; omega
      have h1 : ¬ ((Utf8.decode a i).1 : Int) < 32 := by omega
      have h2 : (126 : Int) < (Utf8.decode a i).1 := by omega
      have h1' : ¬ ((Utf8.decode a i).1) < 32 := by omega
      have h2' : 126 < (Utf8.decode a i).1 := by omega
      simp [L0_value_plain, h0, h6, geff_next, nextK_siter, hlt, h1, h2, h1', h2']
      exact hr _ (by simp [hk]) (by simp)

theorem value_plain (a : ByteArray) (H : GH) : ecall T f_value_plain [.str a] H = some (.bool (plainL a.data.toList), H) := by
  apply optW.eq
  rw [ecall_0 T_value_plain rfl (by simp [F_value_plain]), wp_fin1]
  have hsz : a.size = a.data.toList.length := by simp
  have hp : plainL a.data.toList = (a.data.toList.all okc && decide (a.data.toList.length ≤ 64)) := rfl
  rw [hp]
  simp only [F_value_plain, b_value_plain]
  simp
  rw [wp_seqK, wp_blockK]
  refine plain_loop a a.data.toList 0 (by simp) _ _ 0 _ _ ?_ ?_ ?_ ?_
  · simp
  · simp
  · intro l' h1 h2
    simp [h2]
    intro h; simp [h] at h1
  · intro l' h1 h2
    by_cases h64 : (a.size : Int) ≤ 64
    · simp [h2, h64]; exact ⟨by simpa using h1, by omega⟩
    · simp [h2, h64]; intro _; omega

theorem bv_an (v : BitVec 64) : (v &&& ~~~ 1#64 = 0#64) ↔ v = 0#64 ∨ v = 1#64 := by
  constructor
  · intro h
    have hb : ∀ i, 1 ≤ i → v.getLsbD i = false := by
      intro i hi
      by_cases h64 : i < 64
      · have h2 : (v &&& ~~~ 1#64).getLsbD i = (0#64).getLsbD i := by rw [h]
        have h3 : ¬ i = 0 := by omega
        rw [BitVec.getLsbD_and, BitVec.getLsbD_not, BitVec.getLsbD_one] at h2
        have e1 : (decide (i < 64) && !(decide (0 < 64) && decide (i = 0))) = true := by simp [h64, h3]
        rw [e1, Bool.and_true] at h2
        rw [h2]; simp
      · exact BitVec.getLsbD_of_ge v i (by omega)
    cases h0 : v.getLsbD 0
    · left
      apply BitVec.eq_of_getLsbD_eq
      intro i hi
      rcases Nat.eq_zero_or_pos i with rfl | hp
      · rw [h0]; rfl
      · rw [hb i hp]; simp
    · right
      apply BitVec.eq_of_getLsbD_eq
      intro i hi
      rcases Nat.eq_zero_or_pos i with rfl | hp
      · rw [h0]; rfl
      · rw [hb i hp]
        have h3 : ¬ i = 0 := by omega
        simp [BitVec.getLsbD_one, h3]
  · rintro (rfl | rfl) <;> decide

theorem andnot1 (n : Int) (h1 : -9223372036854775808 ≤ n) (h2 : n ≤ 9223372036854775807) : ∃ x, gInt .andNot .i64 n 1 = some (.int .i64 x) ∧ (x = 0 ↔ (n = 0 ∨ n = 1)) := by
  have e2 : gInt .andNot .i64 n 1 = some (.int .i64 (IntKind.i64.wrap ((BitVec.ofInt 64 n &&& ~~~ BitVec.ofInt 64 1).toNat : Int))) := rfl
  refine ⟨_, e2, ?_⟩
  have hlt := (BitVec.ofInt 64 n &&& ~~~ BitVec.ofInt 64 1).isLt
  have e : (BitVec.ofInt 64 n &&& ~~~ BitVec.ofInt 64 1) = 0#64 ↔ (n = 0 ∨ n = 1) := by
    have e1 : BitVec.ofInt 64 1 = 1#64 := by decide
    rw [e1, bv_an]
    have hn : ∀ m : Nat, m < 2 → (BitVec.ofInt 64 n = BitVec.ofNat 64 m ↔ n = m) := by
      intro m hm
      constructor
      · intro h
        have := congrArg BitVec.toNat h
        rw [BitVec.toNat_ofInt, BitVec.toNat_ofNat] at this
        omega
      · rintro rfl
        apply BitVec.eq_of_toNat_eq
        rw [BitVec.toNat_ofInt, BitVec.toNat_ofNat]
        omega
    have h3 := hn 0 (by omega)
    have h4 := hn 1 (by omega)
    rw [h3, h4]
    simp
  rw [← e]
  generalize (BitVec.ofInt 64 n &&& ~~~ BitVec.ofInt 64 1) = w at *
  rw [IntKind.wrap_i64]
  constructor
  · intro h
    apply BitVec.eq_of_toNat_eq
    simp
    omega
  · rintro rfl; decide

theorem names3 (a b c : ByteArray) (t : Tag) (ha : a.size ≤ 1000) (hb : b.size ≤ 1000) (hc : c.size ≤ 1000) (H : GH) : ecall T f_value_names [.sl 1 [.str a, .str b, .str c] t] H = some (.bool (nameL a.data.toList && nameL b.data.toList && nameL c.data.toList), H) := by
  apply optW.eq
  rw [ecall_0 T_value_names rfl (by simp [F_value_names]), wp_fin1]
  have w1 : IntKind.i64.wrap 1 = 1 := by decide
  have w2 : IntKind.i64.wrap 2 = 2 := by decide
  have w3 : IntKind.i64.wrap 3 = 3 := by decide
  have na := value_Name a (by omega) H
  have nb := value_Name b (by omega) H
  have nc := value_Name c (by omega) H
  cases xa : nameL a.data.toList <;> rw [xa] at na
  · simp [F_value_names, b_value_names, run_loop, L0_value_names, gIx, w1, w2, w3, na]
  · cases xb : nameL b.data.toList <;> rw [xb] at nb
    · simp [F_value_names, b_value_names, run_loop, L0_value_names, gIx, w1, w2, w3, na, nb]
    · cases xc : nameL c.data.toList <;> rw [xc] at nc
      · simp [F_value_names, b_value_names, run_loop, L0_value_names, gIx, w1, w2, w3, na, nb, nc]
      · simp [F_value_names, b_value_names, run_loop, L0_value_names, gIx, w1, w2, w3, na, nb, nc]

theorem split_lib (s : ByteArray) (hs : s.size ≤ 1000) (H : GH) : ∃ parts : List ByteArray, parts.map (·.data.toList) = splitL 62 s.data.toList ∧ ecall T f_strings_Split [.str s, .str ⟨#[62]⟩] H = some (.sl 1 (parts.map .str) .exact, H) := by
  refine ⟨Lib.splitB ⟨#[62]⟩ 0 (Lib.countB s ⟨#[62]⟩) s, ?_, ?_⟩
  · rw [Lib.splitB_data]
    exact split_one 62 s.data.toList
  · rw [ecall_lib T_strings_Split (by decide) (by simp [F_strings_Split])]
    have : s.size < 4294967281 ∧ 1 ≤ (⟨#[62]⟩ : ByteArray).size := ⟨by omega, by decide⟩
    simp only [libH, libP, lSplit, F_strings_Split, if_pos this]
    rfl

theorem splitL_size (c : UInt8) : ∀ (l : List UInt8) (p : List UInt8), p ∈ splitL c l → p.length ≤ l.length
  | [], p, h => by simp [splitL] at h; subst h; simp
  | b :: l, p, h => by
    have ih := splitL_size c l
    unfold splitL at h
    split at h
    · rcases List.mem_cons.1 h with rfl | h
      · simp
      · have := ih p h; simp; omega
    · split at h
      · simp at h; subst h; simp
      · rename_i q qs hq
        rcases List.mem_cons.1 h with rfl | h
        · have := ih q (by rw [hq]; simp); simp; omega
        · have := ih p (by rw [hq]; simp [h]); simp; omega

theorem value_Link (k n : Int) (s : ByteArray) (hs : s.size ≤ 1000) (H : GH) : ∃ x y z, ecall T f_value_Link [.agg [.int .i64 k, .int .i64 n, .str s]] H = some (.tup [.agg [.str x, .str y, .str z], .bool (decide (k = 5) && (decide (n = 0) && (linkL s.data.toList).isSome))], H) := by
  obtain ⟨parts, hp, hsp⟩ := split_lib s hs H
  have key : ∃ x y z, optW (ecall T f_value_Link [.agg [.int .i64 k, .int .i64 n, .str s]] H) fun r => r = (.tup [.agg [.str x, .str y, .str z], .bool (decide (k = 5) && (decide (n = 0) && (linkL s.data.toList).isSome))], H) := by
    rw [ecall_0 T_value_Link rfl (by simp [F_value_Link])]
    by_cases hk : k = 5
    · by_cases hn : n = 0
      · have hsize : ∀ p ∈ parts, p.size ≤ 1000 := by
          intro p hpm
          have h1 : p.data.toList ∈ splitL 62 s.data.toList := by rw [← hp]; exact List.mem_map_of_mem hpm
          have h2 := splitL_size 62 _ _ h1
          have e1 : p.size = p.data.toList.length := by simp
          have e2 : s.size = s.data.toList.length := by simp
          omega
        by_cases h3 : parts.length = 3
        · obtain ⟨a, b, c, rfl⟩ : ∃ a b c, parts = [a, b, c] := by
            match parts, h3 with
            | [a, b, c], _ => exact ⟨a, b, c, rfl⟩
          have hna := names3 a b c .exact (hsize a (by simp)) (hsize b (by simp)) (hsize c (by simp)) H
          simp only [List.map_cons, List.map_nil] at hp hsp
          have hlk : (linkL s.data.toList).isSome = (nameL a.data.toList && nameL b.data.toList && nameL c.data.toList) := by
            unfold linkL
            rw [← hp]
            simp only
            split <;> simp_all
          rw [hlk]
          cases hx : (nameL a.data.toList && nameL b.data.toList && nameL c.data.toList) <;> rw [hx] at hna
          · refine ⟨⟨#[]⟩, ⟨#[]⟩, ⟨#[]⟩, ?_⟩
            rw [wp_fin1]
            simp [F_value_Link, b_value_Link, hk, hn, hsp, hna, gFill, setPart]
          · refine ⟨a, c, b, ?_⟩
            rw [wp_fin1]
            simp [F_value_Link, b_value_Link, hk, hn, hsp, hna, gFill, setPart, gIx]
        · have hlk : (linkL s.data.toList).isSome = false := by
            unfold linkL
            rw [← hp]
            split
            · rename_i a b c h
              have := congrArg List.length h
              simp at this
              exact absurd this h3
            · rfl
          have h3' : ¬ ((parts.length : Int) = 3) := by omega
          refine ⟨⟨#[]⟩, ⟨#[]⟩, ⟨#[]⟩, ?_⟩
          rw [wp_fin1, hlk]
          simp [F_value_Link, b_value_Link, hk, hn, hsp, gFill, setPart, h3', h3]
      · refine ⟨⟨#[]⟩, ⟨#[]⟩, ⟨#[]⟩, ?_⟩
        rw [wp_fin1]
        simp [F_value_Link, b_value_Link, hk, hn, hsp, gFill, setPart]
    · refine ⟨⟨#[]⟩, ⟨#[]⟩, ⟨#[]⟩, ?_⟩
      rw [wp_fin1]
      simp [F_value_Link, b_value_Link, hk, hsp, gFill, setPart]
  obtain ⟨x, y, z, h⟩ := key
  exact ⟨x, y, z, optW.eq h⟩

theorem empty_iff (s : ByteArray) : s.data.toList = [] ↔ s = ⟨#[]⟩ := by
  constructor
  · intro h
    rcases s with ⟨d⟩
    have : d = #[] := Array.toList_inj.1 h
    rw [this]
  · rintro rfl; rfl

theorem value_Right (k n : Int) (s : ByteArray) (hs : s.size ≤ 1000) (hn1 : -9223372036854775808 ≤ n) (hn2 : n ≤ 9223372036854775807) (H : GH) :
    ecall T f_value_Right [.agg [.int .i64 k, .int .i64 n, .str s]] H = some (.bool (rightV k n s.data.toList), H) := by
  apply optW.eq
  rw [ecall_0 T_value_Right rfl (by simp [F_value_Right]), wp_fin1]
  unfold rightV
  simp only [empty_iff]
  by_cases h0 : k = 0
  · subst h0
    by_cases hn : n = 0 <;> simp [F_value_Right, b_value_Right, hn]
  · by_cases h1 : k = 1
    · subst h1
      obtain ⟨x, hx, hx0⟩ := andnot1 n hn1 hn2
      by_cases hx1 : x = 0
      · have := hx0.1 hx1
        simp [F_value_Right, b_value_Right, hx, hx1, this]
      · have : ¬ (n = 0 ∨ n = 1) := fun h => hx1 (hx0.2 h)
        simp [F_value_Right, b_value_Right, hx, hx1, this]
    · by_cases h2 : k = 2
      · subst h2
        by_cases ha : -1099511627776 ≤ n
        · by_cases hb : n ≤ 1099511627776 <;> simp [F_value_Right, b_value_Right, ha, hb]
        · simp [F_value_Right, b_value_Right, ha]
      · by_cases h3 : k = 3
        · subst h3
          by_cases hn : n = 0 <;> simp [F_value_Right, b_value_Right, hn, value_plain]
        · by_cases h4 : k = 4
          · subst h4
            have := value_Name s (by omega) H
            by_cases hn : n = 0 <;> simp [F_value_Right, b_value_Right, hn, this]
          · obtain ⟨x, y, z, hl⟩ := value_Link k n s hs H
            by_cases h5 : k = 5
            · subst h5
              simp [F_value_Right, b_value_Right, hl, setPart]
            · simp [F_value_Right, b_value_Right, h0, h1, h2, h3, h4, h5, hl, setPart]

def u8s (bs : List UInt8) : List GV := bs.map fun b => .int .u8 b.toNat

/-- A builder's row. -/
def RowOk (toks : List Nat) (bt : Nat) (sl : GV) (bs : List UInt8) : Prop :=
  (bs = [] ∧ sl = .nilsl) ∨ ∃ t pos, bs ≠ [] ∧ sl = .sl 1 (u8s bs) (.tok t pos (some 5)) ∧ toks[t]? = some pos ∧ bt ≤ t

/-- A builder that has these bytes. -/
structure Bld (H : GH) (id : Nat) (bs : List UInt8) : Prop where
  bo : H.bo ≤ id
  bt : H.bt ≤ H.toks.length
  obj : ∃ p sl, H.objs[id]? = some (.cells 60 [p, sl]) ∧ (p = .nilptr ∨ p = .ptr id 0) ∧ RowOk H.toks H.bt sl bs

theorem copy_spec {H : GH} {id : Nat} {p sl : GV} (hb : H.bo ≤ id) (ho : H.objs[id]? = some (.cells 60 [p, sl])) (hp : p = .nilptr ∨ p = .ptr id 0) :
    ∃ objs, ecall T f_strings_Builder_copyCheck [.ptr id 0] H = some (.tup [], { H with objs := objs }) ∧ objs[id]? = some (.cells 60 [.ptr id 0, sl]) := by
  rw [ecall_lib T_strings_Builder_copyCheck (by decide) (by simp [F_strings_Builder_copyCheck])]
  rcases hp with rfl | rfl
  · refine ⟨H.objs.set id (.cells 60 [.ptr id 0, sl]), ?_, obj_set ho⟩
    simp [libH, libW, lUsed, F_strings_Builder_copyCheck, ho, hb]
  · refine ⟨H.objs, ?_, ho⟩
    simp [libH, libW, lUsed, F_strings_Builder_copyCheck, ho]

theorem row_app {H : GH} {sl : GV} {bs : List UInt8} (hr : RowOk H.toks H.bt sl bs) (hbt : H.bt ≤ H.toks.length) (hl : bs.length ≤ 100000) (c : UInt8) :
    ∃ s' toks', gAppend H 5 1 1 sl (.sl 1 [.int .u8 c.toNat] .exact) = some (s', { H with toks := toks' }) ∧ RowOk toks' H.bt s' (bs ++ [c]) ∧ H.bt ≤ toks'.length ∧ s'.ok = true ∧ s'.one = true ∧ s'.cells = [s'] ∧ (∀ t, unbox t sl = sl) ∧ (∀ t, unbox t s' = s') := by
  have h1 : (1 : Nat) ≤ room ∧ (1 : Nat) ≤ maxLen := ⟨by simp [room], by simp [maxLen]⟩
  have h2 : bs.length + 1 ≤ room ∧ bs.length + 1 ≤ maxLen := ⟨by simp [room]; omega, by simp [maxLen]; omega⟩
  rcases hr with ⟨rfl, rfl⟩ | ⟨t, pos, hne, rfl, ht, hb⟩
  · refine ⟨.sl 1 [.int .u8 c.toNat] (.tok H.toks.length 1 (some 5)), H.toks ++ [1], ?_, .inr ⟨H.toks.length, 1, by simp, rfl, by simp, hbt⟩, by simp; omega, rfl, rfl, rfl, fun _ => rfl, fun _ => rfl⟩
    simp [gAppend, gNews, h1]
  · have hlt : t < H.toks.length := (List.getElem?_eq_some_iff.1 ht).1
    refine ⟨.sl 1 (u8s bs ++ [.int .u8 c.toNat]) (.tok t (pos + 1) (some 5)), H.toks.set t (pos + 1), ?_, .inr ⟨t, pos + 1, by simp, by simp [u8s], by simp [hlt], hb⟩, by simpa using hbt, rfl, rfl, rfl, fun _ => rfl, fun _ => rfl⟩
    simp [gAppend, gNews, ht, hb, u8s, h2]

theorem write_byte {H : GH} {id : Nat} {bs : List UInt8} (hB : Bld H id bs) (hl : bs.length ≤ 100000) (c : UInt8) :
    ∃ H', ecall T f_strings_Builder_WriteByte [.ptr id 0, .int .u8 c.toNat] H = some (.niliface, H') ∧ Bld H' id (bs ++ [c]) := by
  obtain ⟨hbo, hbt, p, sl, ho, hp, hrow⟩ := hB
  obtain ⟨objs, hcc, ho'⟩ := copy_spec hbo ho hp
  have hbt' : ({ H with objs := objs } : GH).bt ≤ ({ H with objs := objs } : GH).toks.length := hbt
  obtain ⟨s', toks', happ, hrow', hbt2, hok, hone, hcells, hu1, hu2⟩ := row_app (H := { H with objs := objs }) hrow hbt' hl c
  refine ⟨{ H with objs := objs.set id (.cells 60 [.ptr id 0, s']), toks := toks' }, ?_, hbo, hbt2, .ptr id 0, s', obj_set (H := { H with objs := objs }) ho', .inr rfl, hrow'⟩
  apply optW.eq
  rw [ecall_0 T_strings_Builder_WriteByte rfl (by simp [F_strings_Builder_WriteByte]), wp_fin1]
  simp only [F_strings_Builder_WriteByte, b_strings_Builder_WriteByte]
  simp [hcc, ho', gSetAll, happ, hok, hone, hcells, hbo, hu1, hu2, setPart]

theorem built {H : GH} {id : Nat} {bs : List UInt8} (hB : Bld H id bs) : ecall T f_strings_Builder_String [.ptr id 0] H = some (.str ⟨bs.toArray⟩, H) := by
  obtain ⟨hbo, hbt, p, sl, ho, hp, hrow⟩ := hB
  rw [ecall_lib T_strings_Builder_String (by decide) (by simp [F_strings_Builder_String])]
  rcases hrow with ⟨rfl, rfl⟩ | ⟨t, pos, hne, rfl, ht, hb⟩
  · simp [libH, libP, lBuilt, F_strings_Builder_String, ho]
  · have hr : ∀ l : List UInt8, byteRow (u8s l) = some l := by
      intro l
      induction l with
      | nil => rfl
      | cons b l ih =>
        have := b.toNat_lt
        have e : u8s (b :: l) = .int .u8 b.toNat :: u8s l := rfl
        rw [e, byteRow, if_pos (by omega), ih]
        simp
    cases bs with
    | nil => exact absurd rfl hne
    | cons b l =>
      have := hr (b :: l)
      have e : u8s (b :: l) = .int .u8 b.toNat :: u8s l := rfl
      rw [e] at this
      simp [libH, libP, lBuilt, F_strings_Builder_String, ho, e, ht, hb, this]

theorem quo_append (a b : List UInt8) : quoL (a ++ b) = quoL a ++ quoL b := by
  induction a with
  | nil => rfl
  | cons c a ih =>
    simp only [List.cons_append, quoL]
    split <;> simp [ih]

theorem quo_len (l : List UInt8) : (quoL l).length ≤ 2 * l.length := by
  induction l with
  | nil => simp [quoL]
  | cons c l ih => unfold quoL; split <;> simp <;> omega

theorem quoted_loop (s : ByteArray) (hs : s.size ≤ 1000) (cs : List UInt8) : ∀ (i : Nat) (_ : s.data.toList.drop i = cs) (l : List GV) (g : Nat) (H : GH) (K : GExit × St → Prop) (id : Nat) (bs : List UInt8)
    (_ : lget l 8 = .sl 1 (bytesGV s) .imm) (_ : lget l 9 = .int .i64 s.size) (_ : lget l 10 = .int .i64 i) (_ : lget l 3 = .ptr id 0)
    (_ : Bld H id bs) (_ : bs.length + 2 * cs.length ≤ 10000)
    (_ : ∀ (l' : List GV) (H' : GH), lget l' 3 = .ptr id 0 → Bld H' id (bs ++ quoL cs) → K (.exit 0, ⟨⟨l', g⟩, H'⟩)),
    optW (erun T (.loop L0_value_quoted) ⟨⟨l, g⟩, H⟩) K := by
  induction cs with
  | nil =>
    intro i hd l g H K id bs h8 h9 h10 h3 hB hl he
    have hlen := drop_none hd
    have hge : ¬ ((i : Int) < s.size) := by
      have : s.size = s.data.toList.length := by simp
      omega
    rw [run_loop]
    simp [L0_value_quoted, h9, h10, hge]
    exact he _ H (by simp [h3]) (by simpa [quoL] using hB)
  | cons c cs ih =>
    intro i hd l g H K id bs h8 h9 h10 h3 hB hl he
    obtain ⟨hg, hi, hd'⟩ := drop_some hd
    have hsz : s.size = s.data.toList.length := by simp
    have hlt : (i : Int) < s.size := by omega
    have hbl : (bytesGV s).length = s.size := bytesGV_len s
    have hix : gIx (bytesGV s).length (.int .i64 i) = some i := by rw [hbl]; exact ix_ok hlt
    have hw : IntKind.i64.wrap ((i : Int) + 1) = (i : Int) + 1 := wrap_i64' (by omega) (by omega)
    have hge : (bytesGV s)[i]? = some (.int .u8 c.toNat) := by simp only [bytesGV, List.getElem?_map, hg]; rfl
    rw [run_loop, wp_seqK]
    simp only [List.length_cons] at hl
    by_cases h39 : c = 39 ∨ c = 92
    · obtain ⟨H1, hw1, hB1⟩ := write_byte hB (by omega) 92
      obtain ⟨H2, hw2, hB2⟩ := write_byte hB1 (by simp; omega) c
      have e92 : ((92 : UInt8).toNat : Int) = 92 := rfl
      rw [e92] at hw1
      have hq : bs ++ quoL (c :: cs) = (bs ++ [92] ++ [c]) ++ quoL cs := by simp [quoL, h39]
      rcases h39 with rfl | rfl
      · have e39 : ((39 : UInt8).toNat : Int) = 39 := rfl
        rw [e39] at hw2 hge
        simp [L0_value_quoted, h8, h9, h10, h3, hlt, hix, hge, hw1, hw2, hw]
        refine ih (i + 1) hd' _ g H2 K id _ ?_ ?_ ?_ ?_ hB2 (by simp; omega) ?_
        · simp [h8]
        · simp [h9]
        · simp
        · simp [h3]
        · intro l' H' h1 h2; exact he l' H' h1 (by rw [hq]; exact h2)
      · rw [e92] at hw2 hge
        simp [L0_value_quoted, h8, h9, h10, h3, hlt, hix, hge, hw1, hw2, hw]
        refine ih (i + 1) hd' _ g H2 K id _ ?_ ?_ ?_ ?_ hB2 (by simp; omega) ?_
        · simp [h8]
        · simp [h9]
        · simp
        · simp [h3]
        · intro l' H' h1 h2; exact he l' H' h1 (by rw [hq]; exact h2)
    · have hn1 : ¬ c = 39 := fun h => h39 (.inl h)
      have hn2 : ¬ c = 92 := fun h => h39 (.inr h)
      have a1 : ¬ c.toNat = 39 := fun h => hn1 (UInt8.toNat_inj.1 h)
      have a2 : ¬ c.toNat = 92 := fun h => hn2 (UInt8.toNat_inj.1 h)
      have b1 : ¬ (c.toNat : Int) = 39 := by omega
      have b2 : ¬ (c.toNat : Int) = 92 := by omega
      obtain ⟨H1, hw1, hB1⟩ := write_byte hB (by omega) c
      have hq : bs ++ quoL (c :: cs) = (bs ++ [c]) ++ quoL cs := by simp [quoL, hn1, hn2]
      simp [L0_value_quoted, h8, h9, h10, h3, hlt, hix, hge, hw1, hw, a1, a2, b1, b2]
      refine ih (i + 1) hd' _ g H1 K id _ ?_ ?_ ?_ ?_ hB1 (by simp; omega) ?_
      · simp [h8]
      · simp [h9]
      · simp
      · simp [h3]
      · intro l' H' h1 h2; exact he l' H' h1 (by rw [hq]; exact h2)

theorem new_bld (H : GH) : Bld (H.over.newObj (.cells 60 [.nilptr, .nilsl])) H.objs.length [] := by
  refine ⟨Nat.le_refl _, Nat.le_refl _, .nilptr, .nilsl, ?_, .inl rfl, .inl ⟨rfl, rfl⟩⟩
  simp [GH.newObj, GH.over]

theorem clean_s (a b : Nat) (x : ByteArray) : clean a b 100 (.str x) = some (.str x) := rfl

theorem value_quoted (s : ByteArray) (hs : s.size ≤ 1000) (H : GH) : ecall T f_value_quoted [.str s] H = some (.str ⟨(39 :: (quoL s.data.toList ++ [39])).toArray⟩, H) := by
  apply optW.eq
  rw [ecall_1 T_value_quoted rfl (by simp [F_value_quoted]), wp_fin1]
  have hsz : s.size = s.data.toList.length := by simp
  have hml : s.size ≤ maxLen := by simp [maxLen]; omega
  obtain ⟨H1, hw1, hB1⟩ := write_byte (new_bld H) (by simp) 39
  have e39 : ((39 : UInt8).toNat : Int) = 39 := rfl
  rw [e39] at hw1
  have hbl : (bytesGV s).length = s.size := bytesGV_len s
  simp only [F_value_quoted, b_value_quoted]
  simp [hw1, hml, hbl]
  rw [wp_seqK, wp_blockK]
  refine quoted_loop s hs s.data.toList 0 (by simp) _ _ _ _ H.objs.length [39] ?_ ?_ ?_ ?_ (by simpa using hB1) (by simp; omega) ?_
  · simp
  · simp
  · simp
  · simp
  · intro l' H' h1 h2
    obtain ⟨H2, hw2, hB2⟩ := write_byte h2 (by have := quo_len s.data.toList; simp; omega) 39
    rw [e39] at hw2
    have hbu := built hB2
    simp [h1, hw2, hbu, clean_s]

theorem unquoted_loop (s : ByteArray) (hs : s.size ≤ 1000) (n : Nat) : ∀ (cs : List UInt8) (_ : cs.length ≤ n) (i : Nat) (_ : s.data.toList.drop i = cs) (l : List GV) (g : Nat) (H : GH) (K : GExit × St → Prop) (id : Nat) (bs : List UInt8)
    (_ : lget l 0 = .str s) (_ : lget l 4 = .int .i64 i) (_ : lget l 3 = .ptr id 0)
    (_ : Bld H id bs) (_ : bs.length + cs.length ≤ 10000)
    (_ : ∀ (l' : List GV) (H' : GH), lget l' 3 = .ptr id 0 → Bld H' id (bs ++ unq2 cs) → K (.exit 0, ⟨⟨l', g⟩, H'⟩)),
    optW (erun T (.loop L0_value_unquoted) ⟨⟨l, g⟩, H⟩) K := by
  have hsz : s.size = s.data.toList.length := by simp
  have hsub : 1 ≤ s.size → IntKind.i64.wrap ((s.size : Int) - 1) = (s.size : Int) - 1 := fun _ => wrap_i64' (by omega) (by omega)
  have hsub0 : IntKind.i64.wrap ((s.size : Int) - 1) = (s.size : Int) - 1 := wrap_i64' (by omega) (by omega)
  induction n with
  | zero =>
    intro cs hn i hd l g H K id bs h0 h4 h3 hB hl he
    have : cs = [] := List.eq_nil_of_length_eq_zero (by omega)
    subst this
    have hlen := drop_none hd
    have hge : ¬ ((i : Int) < (s.size : Int) - 1) := by omega
    rw [run_loop]
    simp [L0_value_unquoted, h0, h4, hsub0, hge]
    exact he _ H (by simp [h3]) (by simpa [unq2] using hB)
  | succ n ih =>
    intro cs hn i hd l g H K id bs h0 h4 h3 hB hl he
    by_cases h2 : cs.length ≤ 1
    · have hge : ¬ ((i : Int) < (s.size : Int) - 1) := by
        have := congrArg List.length hd
        simp at this
        omega
      have hu : unq2 cs = [] := by
        match cs, h2 with
        | [], _ => rfl
        | [_], _ => rfl
      rw [run_loop]
      simp [L0_value_unquoted, h0, h4, hsub0, hge]
      exact he _ H (by simp [h3]) (by rw [hu]; simpa using hB)
    · obtain ⟨c, d, r, rfl⟩ : ∃ c d r, cs = c :: d :: r := by
        match cs, h2 with
        | c :: d :: r, _ => exact ⟨c, d, r, rfl⟩
        | [], h2 => simp at h2
        | [_], h2 => simp at h2
      obtain ⟨hg, hi, hd'⟩ := drop_some hd
      obtain ⟨hg2, hi2, hd2⟩ := drop_some hd'
      simp only [List.length_cons] at hn hl
      have hlt : (i : Int) < (s.size : Int) - 1 := by omega
      have hix := ix_ok (a := s) (i := i) (by omega)
      have hix2 := ix_ok (a := s) (i := i + 1) (by omega)
      have hw : IntKind.i64.wrap ((i : Int) + 1) = (i : Int) + 1 := wrap_i64' (by omega) (by omega)
      have hw2 : IntKind.i64.wrap ((i : Int) + 1 + 1) = (i : Int) + 1 + 1 := wrap_i64' (by omega) (by omega)
      have hg' : s.data[i]? = some c := by simpa using hg
      have hg2' : s.data[i + 1]? = some d := by simpa using hg2
      have hc1 : ((i + 1 : Nat) : Int) = (i : Int) + 1 := by omega
      rw [hc1] at hix2
      rw [run_loop, wp_seqK]
      by_cases h92 : c = 92
      · subst h92
        obtain ⟨H1, hw1, hB1⟩ := write_byte hB (by omega) d
        simp [L0_value_unquoted, h0, h4, h3, hsub0, hlt, hix, hix2, str_get, hg', hg2', hw, hw2, hw1]
        refine ih r (by omega) (i + 2) hd2 _ g H1 K id _ ?_ ?_ ?_ hB1 (by simp; omega) ?_
        · simp [h0]
        · simp; omega
        · simp [h3]
        · intro l' H' h1 h2
          refine he l' H' h1 ?_
          have : bs ++ unq2 (92 :: d :: r) = (bs ++ [d]) ++ unq2 r := by simp [unq2]
          rw [this]; exact h2
      · have a1 : ¬ c.toNat = 92 := fun h => h92 (UInt8.toNat_inj.1 h)
        have b1 : ¬ (c.toNat : Int) = 92 := by omega
        obtain ⟨H1, hw1, hB1⟩ := write_byte hB (by omega) c
        simp [L0_value_unquoted, h0, h4, h3, hsub0, hlt, hix, str_get, hg', hw, hw1, a1, b1]
        refine ih (d :: r) (by simp; omega) (i + 1) hd' _ g H1 K id _ ?_ ?_ ?_ hB1 (by simp; omega) ?_
        · simp [h0]
        · simp
        · simp [h3]
        · intro l' H' h1 h2
          refine he l' H' h1 ?_
          have : bs ++ unq2 (c :: d :: r) = (bs ++ [c]) ++ unq2 (d :: r) := by simp [unq2, h92]
          rw [this]; exact h2

theorem value_unquoted (s : ByteArray) (hs : s.size ≤ 1000) (H : GH) : ecall T f_value_unquoted [.str s] H = some (.str ⟨(unq2 (s.data.toList.drop 1)).toArray⟩, H) := by
  apply optW.eq
  rw [ecall_1 T_value_unquoted rfl (by simp [F_value_unquoted]), wp_fin1]
  have hsz : s.size = s.data.toList.length := by simp
  simp only [F_value_unquoted, b_value_unquoted]
  simp
  rw [wp_seqK, wp_blockK]
  refine unquoted_loop s hs 1000 (s.data.toList.drop 1) (by simp; omega) 1 rfl _ _ _ _ H.objs.length [] ?_ ?_ ?_ (new_bld H) (by simp; omega) ?_
  · simp
  · simp
  · simp
  · intro l' H' h1 h2
    have hbu := built h2
    simp [h1, hbu, clean_s]

theorem add_ok {a b : ByteArray} (h : a.size + b.size ≤ 100000) : gStr .add a b = some (.str (a ++ b)) := by
  simp only [gStr]; rw [if_pos (by simp [maxLen]; omega)]

theorem ba_size (l : List UInt8) : (⟨l.toArray⟩ : ByteArray).size = l.length := by
  show l.toArray.size = _
  simp

theorem tb1 (x : Int) : toBytes [.int .u8 x] = some [UInt8.ofNat x.toNat] := rfl

theorem itoa_len (n : Int) (h1 : -1099511627776 ≤ n) (h2 : n ≤ 1099511627776) : (Lib.itoa n).length ≤ 20 := by
  unfold Lib.itoa
  split
  · have := nDigits_le 15 n.natAbs (by omega) (by omega)
    simp [Lib.decDigits_length]; omega
  · have := nDigits_le 15 n.toNat (by omega) (by omega)
    simp [Lib.decDigits_length]; omega

theorem fmt_bool (b : Bool) (H : GH) : ecall T f_strconv_FormatBool [.bool b] H = some (.str (if b = true then ⟨#[116, 114, 117, 101]⟩ else ⟨#[102, 97, 108, 115, 101]⟩), H) := by
  have h88 : ecall T f_strconv_FormatBool_77 [.bool b] H = some (.str (if b = true then ⟨#[116, 114, 117, 101]⟩ else ⟨#[102, 97, 108, 115, 101]⟩), H) := by
    apply optW.eq
    rw [ecall_0 T_strconv_FormatBool_77 rfl (by simp [F_strconv_FormatBool_77]), wp_fin1]
    cases b <;> simp [F_strconv_FormatBool_77, b_strconv_FormatBool_77]
  apply optW.eq
  rw [ecall_0 T_strconv_FormatBool rfl (by simp [F_strconv_FormatBool]), wp_fin1]
  simp [F_strconv_FormatBool, b_strconv_FormatBool, h88]

theorem itoa_lib (n : Int) (h1 : -9223372036854775808 ≤ n) (h2 : n ≤ 9223372036854775807) (H : GH) : ecall T f_strconv_Itoa [.int .i64 n] H = some (.str ⟨(Lib.itoa n).toArray⟩, H) := by
  rw [ecall_lib T_strconv_Itoa (by decide) (by simp [F_strconv_Itoa])]
  simp [libH, libP, lItoa, F_strconv_Itoa, h1, h2]

theorem value_String (k n : Int) (s : ByteArray) (hs : s.size ≤ 1000) (hn1 : -9223372036854775808 ≤ n) (hn2 : n ≤ 9223372036854775807) (H : GH) :
    ecall T f_value_String [.agg [.int .i64 k, .int .i64 n, .str s]] H = some (.str ⟨(txtV k n s.data.toList).toArray⟩, H) := by
  apply optW.eq
  rw [ecall_0 T_value_String rfl (by simp [F_value_String]), wp_fin1]
  have hr := value_Right k n s hs hn1 hn2 H
  unfold txtV
  cases hrv : rightV k n s.data.toList <;> rw [hrv] at hr
  · simp [F_value_String, b_value_String, hr]
  · rcases right_cases hrv with ⟨rfl, h2, h3⟩ | ⟨rfl, h2, h3⟩ | ⟨rfl, h2, h3⟩ | ⟨rfl, h1, h2, h3⟩ | ⟨rfl, h2⟩ | ⟨rfl, h2⟩ | ⟨rfl, h2⟩
    · simp [F_value_String, b_value_String, hr, txtR]
    · subst h2
      have hf := fmt_bool false H
      simp [F_value_String, b_value_String, hr, txtR, hf]
    · subst h2
      have hf := fmt_bool true H
      simp [F_value_String, b_value_String, hr, txtR, hf]
    · simp [F_value_String, b_value_String, hr, txtR, itoa_lib n hn1 hn2]
    · simp [F_value_String, b_value_String, hr, txtR, value_quoted s hs]
    · have a1 : gStr .add (⟨#[40]⟩ : ByteArray) s = _ := add_ok (by show (1 : Nat) + _ ≤ _; omega)
      have a2 : gStr .add ((⟨#[40]⟩ : ByteArray) ++ s) (⟨#[41]⟩ : ByteArray) = _ := add_ok (by rw [bs_size]; show _ + (1 : Nat) ≤ _; simp; omega)
      simp [F_value_String, b_value_String, hr, txtR, a1, a2]
      apply ba_ext; simp
    · have a1 : gStr .add (⟨#[91]⟩ : ByteArray) s = _ := add_ok (by show (1 : Nat) + _ ≤ _; omega)
      have a2 : gStr .add ((⟨#[91]⟩ : ByteArray) ++ s) (⟨#[93]⟩ : ByteArray) = _ := add_ok (by rw [bs_size]; show _ + (1 : Nat) ≤ _; simp; omega)
      simp [F_value_String, b_value_String, hr, txtR, a1, a2]
      apply ba_ext; simp

theorem slice1 {s : ByteArray} {i : Nat} {c : UInt8} {cs : List UInt8} (hd : s.data.toList.drop i = c :: cs) : gBounds s.size true true false [.int .i64 (i : Int), .int .i64 ((i : Int) + 1)] = some (i, i + 1, none) ∧ (s.extract i (i + 1)).data.toList = [c] ∧ (s.extract i (i + 1)).size = 1 := by
  obtain ⟨hg, hi, _⟩ := drop_some hd
  have hsz := bs_size s
  have e1 : gBound s.size (.int .i64 ((i : Int) + 1)) = some (i + 1) := by simp only [gBound]; rw [if_pos (by omega)]; congr 1
  have e2 : gBound (i + 1) (.int .i64 (i : Int)) = some i := by simp only [gBound]; rw [if_pos (by omega)]; simp
  have hxs : (s.extract i (i + 1)).data.toList = [c] := by rw [Lib.extract_data, show i + 1 - i = 1 by omega, hd]; rfl
  exact ⟨by simp [gBounds, e1, e2], hxs, by rw [bs_size, hxs]; rfl⟩

theorem list_iff (s : ByteArray) (l : List UInt8) : s.data.toList = l ↔ s = ⟨l.toArray⟩ := by
  constructor
  · intro h; exact ba_ext (by simpa using h)
  · rintro rfl; simp

/-- A value of three parts. -/
def val3 (v : Int × Int × List UInt8) : GV := .agg [.int .i64 v.1, .int .i64 v.2.1, .str ⟨v.2.2.toArray⟩]

theorem atoi_lib (s : ByteArray) (hs : s.size ≤ 1000) (H : GH) : ∃ e, ecall T f_strconv_Atoi [.str s] H = some (.tup [.int .i64 (atoiN s.data.toList), e], H) ∧ (∀ t, unbox t e = e) := by
  rw [ecall_lib T_strconv_Atoi (by decide) (by simp [F_strconv_Atoi])]
  have hz : s.size ≤ 281474976710656 := by omega
  simp only [libH, libP, lAtoi, F_strconv_Atoi, if_pos hz]
  unfold atoiN
  rcases Lib.atoiAll s.data.toList with v | _ | _
  · exact ⟨.niliface, rfl, fun _ => rfl⟩
  · exact ⟨_, rfl, fun _ => rfl⟩
  · exact ⟨_, rfl, fun _ => rfl⟩

theorem mid_slice (s : ByteArray) (h : 2 ≤ s.size) (hs : s.size ≤ 1000) : gBounds s.size true true false [.int .i64 1, .int .i64 ((s.size : Int) - 1)] = some (1, s.size - 1, none) ∧ s.extract 1 (s.size - 1) = ⟨(mid s.data.toList).toArray⟩ := by
  have e1 : gBound s.size (.int .i64 ((s.size : Int) - 1)) = some (s.size - 1) := by simp only [gBound]; rw [if_pos (by omega)]; congr 1; omega
  have e2 : gBound (s.size - 1) (.int .i64 1) = some 1 := by simp only [gBound]; rw [if_pos (by omega)]; rfl
  refine ⟨by simp [gBounds, e1, e2], ?_⟩
  apply ba_ext
  rw [Lib.extract_data]
  have := bs_size s
  simp only [mid]
  rw [← this, show s.size - 1 - 1 = s.size - 2 by omega]

theorem value_guess (s : ByteArray) (hs : s.size ≤ 1000) (H : GH) : ecall T f_value_guess [.str s] H = some (val3 (guessV s.data.toList), H) := by
  apply optW.eq
  rw [ecall_0 T_value_guess rfl (by simp [F_value_guess]), wp_fin1]
  have hsz := bs_size s
  unfold guessV
  simp only [F_value_guess, b_value_guess]
  by_cases h1 : s = ⟨#[116, 114, 117, 101]⟩
  · have hl := (list_iff s [116, 114, 117, 101]).2 h1
    rw [if_pos hl]
    simp [h1, gFill, setPart, val3]
  · have hl1 : ¬ s.data.toList = [116, 114, 117, 101] := fun h => h1 ((list_iff _ _).1 h)
    rw [if_neg hl1]
    by_cases h2 : s = ⟨#[102, 97, 108, 115, 101]⟩
    · have hl := (list_iff s [102, 97, 108, 115, 101]).2 h2
      rw [if_pos hl]
      simp [h2, gFill, setPart, val3]
    · have hl2 : ¬ s.data.toList = [102, 97, 108, 115, 101] := fun h => h2 ((list_iff _ _).1 h)
      rw [if_neg hl2]
      by_cases h3 : s = ⟨#[110, 117, 108, 108]⟩
      · have hl := (list_iff s [110, 117, 108, 108]).2 h3
        rw [if_pos (.inl hl)]
        simp [h3, gFill, setPart, val3]
      · have hl3 : ¬ s.data.toList = [110, 117, 108, 108] := fun h => h3 ((list_iff _ _).1 h)
        by_cases h4 : (s.size : Int) < 1
        · have hl4 : s.data.toList = [] := List.eq_nil_of_length_eq_zero (by omega)
          rw [if_pos (.inr hl4)]
          have h4' : s.size = 0 := by omega
          simp [h1, h2, h3, h4, h4', gFill, setPart, val3]
        · have hl4 : ¬ s.data.toList = [] := fun h => by
            have h0 : s.size = 0 := by rw [hsz, h]; rfl
            omega
          rw [if_neg (by rintro (h | h); exact hl3 h; exact hl4 h)]
          have h4' : ¬ s.size = 0 := by omega
          obtain ⟨c, r, hcr⟩ : ∃ c r, s.data.toList = c :: r := by
            cases hh : s.data.toList with
            | nil => exact absurd hh hl4
            | cons c r => exact ⟨c, r, rfl⟩
          have hix : gIx s.size (.int .i64 0) = some 0 := ix_ok (i := 0) (by omega)
          have hg0 : s.data[0]? = some c := by
            have : s.data.toList[0]? = some c := by rw [hcr]; rfl
            simpa using this
          have hgd : ∀ h : 0 < s.data.size, s.data[0]'h = c := fun h => by rw [Array.getElem?_eq_getElem h] at hg0; exact Option.some.inj hg0
          have hlt0 : 0 < s.size := by omega
          obtain ⟨e, hat, hub⟩ := atoi_lib s hs H
          by_cases h5 : (1 : Int) < s.size
          · have h5' : 1 < s.size := by omega
            have h5l : 1 < s.data.toList.length := by omega
            have hhd : s.data.toList.head? = some c := by rw [hcr]; rfl
            have hw : IntKind.i64.wrap ((s.size : Int) - 1) = (s.size : Int) - 1 := wrap_i64' (by omega) (by omega)
            obtain ⟨hgb, hmid⟩ := mid_slice s (by omega) hs
            simp only [hhd, h5l, true_and, Option.some.injEq]
            by_cases c1 : c = 39
            · rw [if_pos c1]
              have n1 : (39 : UInt8).toNat = 39 := rfl
              subst c1
              simp [h1, h2, h3, h4, h4', h5, h5', hix, str_get, hg0, hgd, hlt0, n1, value_unquoted s hs, gFill, setPart, val3]
            · rw [if_neg c1]
              have n1 : ¬ c.toNat = 39 := fun h => c1 (UInt8.toNat_inj.1 h)
              have m1 : ¬ (c.toNat : Int) = 39 := by omega
              by_cases c2 : c = 40
              · rw [if_pos c2]
                subst c2
                simp [h1, h2, h3, h4, h4', h5, h5', hix, str_get, hg0, hgd, hlt0, hw, hgb, hmid, gFill, setPart, val3]
              · rw [if_neg c2]
                have n2 : ¬ c.toNat = 40 := fun h => c2 (UInt8.toNat_inj.1 h)
                have m2 : ¬ (c.toNat : Int) = 40 := by omega
                by_cases c3 : c = 91
                · rw [if_pos c3]
                  subst c3
                  simp [h1, h2, h3, h4, h4', h5, h5', hix, str_get, hg0, hgd, hlt0, hw, hgb, hmid, gFill, setPart, val3]
                · rw [if_neg c3]
                  have n3 : ¬ c.toNat = 91 := fun h => c3 (UInt8.toNat_inj.1 h)
                  have m3 : ¬ (c.toNat : Int) = 91 := by omega
                  simp [h1, h2, h3, h4, h4', h5, h5', hix, str_get, hg0, hgd, hlt0, n1, m1, n2, m2, n3, m3, hat, hub, gFill, setPart, val3]
          · have h5' : ¬ 1 < s.size := by omega
            have h5l : ¬ 1 < s.data.toList.length := by omega
            simp only [h5l, false_and, if_false]
            simp [h1, h2, h3, h4, h4', h5, h5', hat, hub, gFill, setPart, val3]

theorem guess_small (l : List UInt8) (hl : l.length ≤ 1000) : (guessV l).2.2.length ≤ 1000 ∧ -9223372036854775808 ≤ (guessV l).2.1 ∧ (guessV l).2.1 ≤ 9223372036854775807 := by
  have hu : ∀ (n : Nat) (l : List UInt8), l.length ≤ n → (unq2 l).length ≤ l.length := by
    intro n
    induction n with
    | zero => intro l h; have : l = [] := List.eq_nil_of_length_eq_zero (by omega); subst this; simp [unq2]
    | succ n ih =>
      intro l h
      match l with
      | [] => simp [unq2]
      | [_] => simp [unq2]
      | c :: d :: r =>
        unfold unq2
        simp only [List.length_cons] at h
        split
        · have := ih r (by omega); simp; omega
        · have := ih (d :: r) (by simp; omega); simp at this ⊢; omega
  have hm : (mid l).length ≤ l.length := by simp [mid]; omega
  have ha : -9223372036854775808 ≤ atoiN l ∧ atoiN l ≤ 9223372036854775807 := by
    unfold atoiN
    cases h : Lib.atoiAll l with
    | ok v =>
      show -9223372036854775808 ≤ v ∧ v ≤ _
      unfold Lib.atoiAll at h
      split at h
      · cases h
      · simp only at h
        split at h
        · cases h
        · cases h
        · rename_i u _
          split at h
          · cases h
          · split at h
            · cases h
            · injection h with h
              split at h <;> omega
    | _ => first
      | (show -9223372036854775808 ≤ (0 : Int) ∧ (0 : Int) ≤ _; omega)
      | (show -9223372036854775808 ≤ Lib.atoiSat l ∧ Lib.atoiSat l ≤ _; unfold Lib.atoiSat; split <;> omega)
  unfold guessV
  split
  · simp
  · split
    · simp
    · split
      · simp
      · split
        · refine ⟨?_, by simp, by simp⟩
          have := hu _ (l.drop 1) (Nat.le_refl _)
          simp at this ⊢; omega
        · split
          · exact ⟨by simp only; omega, by simp, by simp⟩
          · split
            · exact ⟨by simp only; omega, by simp, by simp⟩
            · exact ⟨by simp, ha.1, ha.2⟩

/-- What a reading tells. -/
def opt3 : Option (Int × Int × List UInt8) → GV
  | some v => .tup [val3 v, .bool true]
  | none => .tup [val3 (0, 0, []), .bool false]

theorem value_Parse (s : ByteArray) (hs : s.size ≤ 1000) (H : GH) : ecall T f_value_Parse [.str s] H = some (opt3 (parseV s.data.toList), H) := by
  apply optW.eq
  rw [ecall_0 T_value_Parse rfl (by simp [F_value_Parse]), wp_fin1]
  have hsz := bs_size s
  have hg := value_guess s (by omega) H
  obtain ⟨g1, g2, g3⟩ := guess_small s.data.toList (by omega)
  obtain ⟨⟨k, n, t⟩, hkn⟩ : ∃ v, guessV s.data.toList = v := ⟨_, rfl⟩
  rw [hkn] at hg g1 g2 g3
  simp only at g1 g2 g3
  have hst := value_String k n ⟨t.toArray⟩ (by rw [ba_size]; omega) g2 g3 H
  have hdt : (⟨t.toArray⟩ : ByteArray).data.toList = t := by simp
  rw [hdt] at hst
  simp only [val3] at hg
  unfold parseV
  rw [hkn]
  simp only [F_value_Parse, b_value_Parse]
  by_cases h0 : s = ⟨#[]⟩
  · have hl : s.data.toList = [] := (empty_iff s).2 h0
    rw [if_neg (by rintro ⟨h, _⟩; exact h hl)]
    subst h0
    simp [hg, gFill, setPart, opt3, val3]
  · have hl : ¬ s.data.toList = [] := fun h => h0 ((empty_iff s).1 h)
    by_cases ht : txtV k n t = s.data.toList
    · have ht' : (⟨(txtV k n t).toArray⟩ : ByteArray) = s := ((list_iff s _).1 ht.symm).symm
      rw [if_pos ⟨hl, ht⟩]
      simp [h0, hg, hst, ht', setPart, opt3, val3]
    · have ht' : ¬ (⟨(txtV k n t).toArray⟩ : ByteArray) = s := fun h => ht ((list_iff s _).2 h.symm).symm
      rw [if_neg (by rintro ⟨_, h⟩; exact ht h)]
      simp [h0, hg, hst, ht', gFill, setPart, opt3, val3]

end Go.Proofs.YtlmiihdkgaljoaaGreatDoor
