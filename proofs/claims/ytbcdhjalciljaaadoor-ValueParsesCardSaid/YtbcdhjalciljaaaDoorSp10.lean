/- Own work, over the shadow machine: VSpec10. -/
import Derived.Test.YtbcdhjalciljaaaDoorSp9
set_option linter.all false
namespace Go.Proofs.YtbcdhjalciljaaaDoor
open Go.Sh
set_option maxRecDepth 100000

/-! ## strings.Builder -/

def u8s (bs : List UInt8) : List GV := bs.map fun b => .int .u8 b.toNat

/-- A builder's row. -/
def RowOk (toks : List Nat) (bt : Nat) (sl : GV) (bs : List UInt8) : Prop :=
  (bs = [] ∧ sl = .nilsl) ∨ ∃ t pos, bs ≠ [] ∧ sl = .sl 1 (u8s bs) (.tok t pos (some 5)) ∧ toks[t]? = some pos ∧ bt ≤ t

/-- A builder that has these bytes. -/
structure Bld (H : GH) (id : Nat) (bs : List UInt8) : Prop where
  bo : H.bo ≤ id
  bt : H.bt ≤ H.toks.length
  obj : ∃ p sl, H.objs[id]? = some (.cells 117 [p, sl]) ∧ (p = .nilptr ∨ p = .ptr id 0) ∧ RowOk H.toks H.bt sl bs

theorem copy_spec {H : GH} {id : Nat} {p sl : GV} (hb : H.bo ≤ id) (ho : H.objs[id]? = some (.cells 117 [p, sl])) (hp : p = .nilptr ∨ p = .ptr id 0) :
    ∃ objs, ecall T f_strings_Builder_copyCheck [.ptr id 0] H = some (.tup [], { H with objs := objs }) ∧ objs[id]? = some (.cells 117 [.ptr id 0, sl]) := by
  rw [ecall_lib T_strings_Builder_copyCheck (by decide) (by simp [F_strings_Builder_copyCheck])]
  rcases hp with rfl | rfl
  · refine ⟨H.objs.set id (.cells 117 [.ptr id 0, sl]), ?_, obj_set ho⟩
    simp [libH, libW, lUsed, F_strings_Builder_copyCheck, ho, hb]
  · refine ⟨H.objs, ?_, ho⟩
    simp [libH, libW, lUsed, F_strings_Builder_copyCheck, ho]

theorem row_app {H : GH} {sl : GV} {bs : List UInt8} (hr : RowOk H.toks H.bt sl bs) (hbt : H.bt ≤ H.toks.length) (hl : bs.length ≤ 100000) (c : UInt8) :
    ∃ s' toks', gAppend H 5 1 1 sl (.sl 1 [.int .u8 c.toNat] .exact) = some (s', { H with toks := toks' }) ∧ RowOk toks' H.bt s' (bs ++ [c]) ∧ H.bt ≤ toks'.length ∧ s'.ok = true ∧ s'.one = true ∧ s'.cells = [s'] ∧ (∀ t, unbox t sl = sl) ∧ (∀ t, unbox t s' = s') := by
  have h1 : (1 : Nat) ≤ room ∧ (1 : Nat) ≤ maxLen := ⟨by simp [room], by simp [maxLen]⟩
  have h2 : bs.length + 1 ≤ room ∧ bs.length + 1 ≤ maxLen := ⟨by simp [room]; omega, by simp [maxLen]; omega⟩
  rcases hr with ⟨rfl, rfl⟩ | ⟨t, pos, hne, rfl, ht, hb⟩
  · refine ⟨.sl 1 [.int .u8 c.toNat] (.tok H.toks.length 1 (some 5)), H.toks ++ [1], ?_, .inr ⟨H.toks.length, 1, by simp, rfl, by simp, hbt⟩, by simp; omega, rfl, rfl, rfl, fun _ => rfl, fun _ => rfl⟩
    simp [gAppend, gNews, h1]
  · have hlt : t < H.toks.length := (List.getElem?_eq_some_iff.1 ht).1
    refine ⟨.sl 1 (u8s bs ++ [.int .u8 c.toNat]) (.tok t (pos + 1) (some 5)), H.toks.set t (pos + 1), ?_, .inr ⟨t, pos + 1, by simp, by simp [u8s], by simp [hlt], hb⟩, by simpa using hbt, rfl, rfl, rfl, fun _ => rfl, fun _ => rfl⟩
    simp [gAppend, gNews, ht, hb, u8s, h2]

theorem write_byte {H : GH} {id : Nat} {bs : List UInt8} (hB : Bld H id bs) (hl : bs.length ≤ 100000) (c : UInt8) :
    ∃ H', ecall T f_strings_Builder_WriteByte [.ptr id 0, .int .u8 c.toNat] H = some (.niliface, H') ∧ Bld H' id (bs ++ [c]) := by
  obtain ⟨hbo, hbt, p, sl, ho, hp, hrow⟩ := hB
  obtain ⟨objs, hcc, ho'⟩ := copy_spec hbo ho hp
  have hbt' : ({ H with objs := objs } : GH).bt ≤ ({ H with objs := objs } : GH).toks.length := hbt
  obtain ⟨s', toks', happ, hrow', hbt2, hok, hone, hcells, hu1, hu2⟩ := row_app (H := { H with objs := objs }) hrow hbt' hl c
  refine ⟨{ H with objs := objs.set id (.cells 117 [.ptr id 0, s']), toks := toks' }, ?_, hbo, hbt2, .ptr id 0, s', obj_set (H := { H with objs := objs }) ho', .inr rfl, hrow'⟩
  apply optW.eq
  rw [ecall_0 T_strings_Builder_WriteByte rfl (by simp [F_strings_Builder_WriteByte]), wp_fin1]
  simp only [F_strings_Builder_WriteByte, b_strings_Builder_WriteByte]
  simp [hcc, ho', gSetAll, happ, hok, hone, hcells, hbo, hu1, hu2, setPart]

theorem built {H : GH} {id : Nat} {bs : List UInt8} (hB : Bld H id bs) : ecall T f_strings_Builder_String [.ptr id 0] H = some (.str ⟨bs.toArray⟩, H) := by
  obtain ⟨hbo, hbt, p, sl, ho, hp, hrow⟩ := hB
  rw [ecall_lib T_strings_Builder_String (by decide) (by simp [F_strings_Builder_String])]
  rcases hrow with ⟨rfl, rfl⟩ | ⟨t, pos, hne, rfl, ht, hb⟩
  · simp [libH, libP, lBuilt, F_strings_Builder_String, ho]
  · have hr : ∀ l : List UInt8, byteRow (u8s l) = some l := by
      intro l
      induction l with
      | nil => rfl
      | cons b l ih =>
        have := b.toNat_lt
        have e : u8s (b :: l) = .int .u8 b.toNat :: u8s l := rfl
        rw [e, byteRow, if_pos (by omega), ih]
        simp
    cases bs with
    | nil => exact absurd rfl hne
    | cons b l =>
      have := hr (b :: l)
      have e : u8s (b :: l) = .int .u8 b.toNat :: u8s l := rfl
      rw [e] at this
      simp [libH, libP, lBuilt, F_strings_Builder_String, ho, e, ht, hb, this]
end Go.Proofs.YtbcdhjalciljaaaDoor
