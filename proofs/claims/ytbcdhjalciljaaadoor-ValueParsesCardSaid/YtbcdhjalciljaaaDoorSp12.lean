/- Own work, over the shadow machine: VSpec12. -/
import Derived.Test.YtbcdhjalciljaaaDoorSp11
set_option linter.all false
namespace Go.Proofs.YtbcdhjalciljaaaDoor
open Go.Sh
set_option maxRecDepth 100000

theorem ba_ext {a b : ByteArray} (h : a.data.toList = b.data.toList) : a = b := by
  rcases a with ⟨a⟩; rcases b with ⟨b⟩
  have : a = b := Array.toList_inj.1 h
  rw [this]

theorem add_ok {a b : ByteArray} (h : a.size + b.size ≤ 100000) : gStr .add a b = some (.str (a ++ b)) := by
  simp only [gStr]; rw [if_pos (by simp [maxLen]; omega)]

theorem ba_size (l : List UInt8) : (⟨l.toArray⟩ : ByteArray).size = l.length := by
  show l.toArray.size = _
  simp

theorem bs_size (a : ByteArray) : a.size = a.data.toList.length := by simp

theorem tb1 (x : Int) : toBytes [.int .u8 x] = some [UInt8.ofNat x.toNat] := rfl

theorem itoa_len (n : Int) (h1 : -1099511627776 ≤ n) (h2 : n ≤ 1099511627776) : (Lib.itoa n).length ≤ 20 := by
  unfold Lib.itoa
  split
  · have := nDigits_le 15 n.natAbs (by omega) (by omega)
    simp [Lib.decDigits_length]; omega
  · have := nDigits_le 15 n.toNat (by omega) (by omega)
    simp [Lib.decDigits_length]; omega

theorem digits (N : Nat) : ∀ n : Int, n.natAbs = N → -1099511627776 ≤ n → n ≤ 1099511627776 → ∀ H : GH, ecall T f_hedgerowref01_Digits [.int .i64 n] H = some (.str ⟨(Lib.itoa n).toArray⟩, H) := by
  induction N using Nat.strongRecOn with
  | _ N ih =>
    intro n hN h1 h2 H
    apply optW.eq
    rw [ecall_0 T_hedgerowref01_Digits rfl (by simp [F_hedgerowref01_Digits]), wp_fin1]
    rw [itoa_rec]
    simp only [F_hedgerowref01_Digits, b_hedgerowref01_Digits]
    by_cases hn : n < 0
    · by_cases hn10 : -10 < n
      · have w1 : IntKind.i64.wrap (48 - n) = 48 - n := wrap_i64' (by omega) (by omega)
        have w2 : IntKind.u8.wrap (48 - n) = 48 - n := wrap_u8' (by omega) (by omega)
        have ha : gStr .add (⟨#[45]⟩ : ByteArray) ⟨#[UInt8.ofNat (48 - n).toNat]⟩ = _ := add_ok (by show (1 : Nat) + 1 ≤ _; omega)
        simp [hn, hn10, w1, w2, gSetAll, tb1, ha]
        apply ba_ext
        have : (48 - n).toNat = 48 + n.natAbs := by omega
        simp [this]
      · obtain ⟨m, hm⟩ : ∃ m : Nat, n = -(m : Int) := ⟨n.natAbs, by omega⟩
        have eq : n.tdiv 10 = -((m / 10 : Nat) : Int) := by rw [hm, Int.neg_tdiv]; simp
        have er : n.tmod 10 = -((m % 10 : Nat) : Int) := by rw [hm, Int.neg_tmod]; congr 1
        have hq : IntKind.i64.wrap (n.tdiv 10) = n.tdiv 10 := wrap_i64' (by omega) (by omega)
        have hi := ih (n.tdiv 10).natAbs (by omega) (n.tdiv 10) rfl (by omega) (by omega) H
        have w1 : IntKind.i64.wrap (48 - n.tmod 10) = 48 - n.tmod 10 := wrap_i64' (by omega) (by omega)
        have w2 : IntKind.u8.wrap (48 - n.tmod 10) = 48 - n.tmod 10 := wrap_u8' (by omega) (by omega)
        have hlen := itoa_len (n.tdiv 10) (by omega) (by omega)
        have ha : gStr .add ⟨(Lib.itoa (n.tdiv 10)).toArray⟩ ⟨#[UInt8.ofNat (48 - n.tmod 10).toNat]⟩ = _ := add_ok (by rw [ba_size]; show _ + (1 : Nat) ≤ _; omega)
        simp [hn, hn10, hq, hi, w1, w2, gSetAll, tb1, ha, gInt]
        apply ba_ext
        have : (48 - n.tmod 10).toNat = 48 + (n.tmod 10).natAbs := by omega
        simp [this]
    · by_cases hn10 : n < 10
      · have w1 : IntKind.i64.wrap (48 + n) = 48 + n := wrap_i64' (by omega) (by omega)
        have w2 : IntKind.u8.wrap (48 + n) = 48 + n := wrap_u8' (by omega) (by omega)
        simp [hn, hn10, w1, w2, gSetAll, tb1]
        have : (48 + n).toNat = 48 + n.natAbs := by omega
        rw [this]; exact UInt8.ofNat_add 48 _
      · obtain ⟨m, hm⟩ : ∃ m : Nat, n = (m : Int) := ⟨n.natAbs, by omega⟩
        have eq : n.tdiv 10 = ((m / 10 : Nat) : Int) := by rw [hm]; simp
        have er : n.tmod 10 = ((m % 10 : Nat) : Int) := by rw [hm]; exact (Int.ofNat_tmod m 10).symm
        have hq : IntKind.i64.wrap (n.tdiv 10) = n.tdiv 10 := wrap_i64' (by omega) (by omega)
        have hi := ih (n.tdiv 10).natAbs (by omega) (n.tdiv 10) rfl (by omega) (by omega) H
        have w1 : IntKind.i64.wrap (48 + n.tmod 10) = 48 + n.tmod 10 := wrap_i64' (by omega) (by omega)
        have w2 : IntKind.u8.wrap (48 + n.tmod 10) = 48 + n.tmod 10 := wrap_u8' (by omega) (by omega)
        have hlen := itoa_len (n.tdiv 10) (by omega) (by omega)
        have ha : gStr .add ⟨(Lib.itoa (n.tdiv 10)).toArray⟩ ⟨#[UInt8.ofNat (48 + n.tmod 10).toNat]⟩ = _ := add_ok (by rw [ba_size]; show _ + (1 : Nat) ≤ _; omega)
        simp [hn, hn10, hq, hi, w1, w2, gSetAll, tb1, ha, gInt]
        apply ba_ext
        have : (48 + n.tmod 10).toNat = 48 + (n.tmod 10).natAbs := by omega
        simp [this]

theorem ref_Digits (n : Int) (h1 : -1099511627776 ≤ n) (h2 : n ≤ 1099511627776) (H : GH) : ecall T f_hedgerowref01_Digits [.int .i64 n] H = some (.str ⟨(Lib.itoa n).toArray⟩, H) := digits _ n rfl h1 h2 H

theorem fmt_bool (b : Bool) (H : GH) : ecall T f_strconv_FormatBool [.bool b] H = some (.str (if b = true then ⟨#[116, 114, 117, 101]⟩ else ⟨#[102, 97, 108, 115, 101]⟩), H) := by
  have h88 : ecall T f_strconv_FormatBool_88 [.bool b] H = some (.str (if b = true then ⟨#[116, 114, 117, 101]⟩ else ⟨#[102, 97, 108, 115, 101]⟩), H) := by
    apply optW.eq
    rw [ecall_0 T_strconv_FormatBool_88 rfl (by simp [F_strconv_FormatBool_88]), wp_fin1]
    cases b <;> simp [F_strconv_FormatBool_88, b_strconv_FormatBool_88]
  apply optW.eq
  rw [ecall_0 T_strconv_FormatBool rfl (by simp [F_strconv_FormatBool]), wp_fin1]
  simp [F_strconv_FormatBool, b_strconv_FormatBool, h88]

theorem itoa_lib (n : Int) (h1 : -9223372036854775808 ≤ n) (h2 : n ≤ 9223372036854775807) (H : GH) : ecall T f_strconv_Itoa [.int .i64 n] H = some (.str ⟨(Lib.itoa n).toArray⟩, H) := by
  rw [ecall_lib T_strconv_Itoa (by decide) (by simp [F_strconv_Itoa])]
  simp [libH, libP, lItoa, F_strconv_Itoa, h1, h2]

theorem value_String (k n : Int) (s : ByteArray) (hs : s.size ≤ 1000) (hn1 : -9223372036854775808 ≤ n) (hn2 : n ≤ 9223372036854775807) (H : GH) :
    ecall T f_value_String [.agg [.int .i64 k, .int .i64 n, .str s]] H = some (.str ⟨(txtV k n s.data.toList).toArray⟩, H) := by
  apply optW.eq
  rw [ecall_0 T_value_String rfl (by simp [F_value_String]), wp_fin1]
  have hr := value_Right k n s hs hn1 hn2 H
  unfold txtV
  cases hrv : rightV k n s.data.toList <;> rw [hrv] at hr
  · simp [F_value_String, b_value_String, hr]
  · rcases right_cases hrv with ⟨rfl, h2, h3⟩ | ⟨rfl, h2, h3⟩ | ⟨rfl, h2, h3⟩ | ⟨rfl, h1, h2, h3⟩ | ⟨rfl, h2⟩ | ⟨rfl, h2⟩ | ⟨rfl, h2⟩
    · simp [F_value_String, b_value_String, hr, txtR]
    · subst h2
      have hf := fmt_bool false H
      simp [F_value_String, b_value_String, hr, txtR, hf]
    · subst h2
      have hf := fmt_bool true H
      simp [F_value_String, b_value_String, hr, txtR, hf]
    · simp [F_value_String, b_value_String, hr, txtR, itoa_lib n hn1 hn2]
    · simp [F_value_String, b_value_String, hr, txtR, value_quoted s hs]
    · have a1 : gStr .add (⟨#[40]⟩ : ByteArray) s = _ := add_ok (by show (1 : Nat) + _ ≤ _; omega)
      have a2 : gStr .add ((⟨#[40]⟩ : ByteArray) ++ s) (⟨#[41]⟩ : ByteArray) = _ := add_ok (by rw [bs_size]; show _ + (1 : Nat) ≤ _; simp; omega)
      simp [F_value_String, b_value_String, hr, txtR, a1, a2]
      apply ba_ext; simp
    · have a1 : gStr .add (⟨#[91]⟩ : ByteArray) s = _ := add_ok (by show (1 : Nat) + _ ≤ _; omega)
      have a2 : gStr .add ((⟨#[91]⟩ : ByteArray) ++ s) (⟨#[93]⟩ : ByteArray) = _ := add_ok (by rw [bs_size]; show _ + (1 : Nat) ≤ _; simp; omega)
      simp [F_value_String, b_value_String, hr, txtR, a1, a2]
      apply ba_ext; simp
end Go.Proofs.YtbcdhjalciljaaaDoor
