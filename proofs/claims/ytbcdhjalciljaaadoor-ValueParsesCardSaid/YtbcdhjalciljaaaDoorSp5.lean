/- Own work, over the shadow machine: VSpec5. -/
import Derived.Test.YtbcdhjalciljaaaDoorSp4
import Derived.Laws.RangeString
import Derived.Laws.RangeAny
set_option linter.all false
namespace Go.Proofs.YtbcdhjalciljaaaDoor
open Go.Sh
set_option maxRecDepth 100000

/-! ## Names by the reference -/

/-- What tells letters and others apart. -/
structure Cls (c : UInt8) (p0 p1 p2 p3 p4 p5 p6 lt inn : Bool) : Prop where
  a0 : decide ((97 : Int) ≤ c.toNat) = p0
  a1 : decide ((c.toNat : Int) ≤ 122) = p1
  a2 : decide ((65 : Int) ≤ c.toNat) = p2
  a3 : decide ((c.toNat : Int) ≤ 90) = p3
  a4 : decide ((48 : Int) ≤ c.toNat) = p4
  a5 : decide ((c.toNat : Int) ≤ 57) = p5
  a6 : decide ((c.toNat : Int) = 95) = p6
  l : letter c = lt
  n : inner c = inn

theorem cls (c : UInt8) : Cls c false true false true false true false false false ∨ Cls c false true false true true true false false true ∨ Cls c false true false true true false false false false ∨
    Cls c false true true true true false false true true ∨ Cls c false true true false true false false false false ∨ Cls c false true true false true false true false true ∨
    Cls c true true true false true false false true true ∨ Cls c true false true false true false false false false := by
  rcases (by omega : (c.toNat : Int) < 48 ∨ (48 ≤ (c.toNat : Int) ∧ (c.toNat : Int) ≤ 57) ∨ (58 ≤ (c.toNat : Int) ∧ (c.toNat : Int) ≤ 64) ∨ (65 ≤ (c.toNat : Int) ∧ (c.toNat : Int) ≤ 90) ∨ (91 ≤ (c.toNat : Int) ∧ (c.toNat : Int) ≤ 94) ∨ (c.toNat : Int) = 95 ∨ (c.toNat : Int) = 96 ∨ (97 ≤ (c.toNat : Int) ∧ (c.toNat : Int) ≤ 122) ∨ 123 ≤ (c.toNat : Int)) with h | h | h | h | h | h | h | h | h
  · left; constructor <;> simp [inner, letter] <;> omega
  · right; left; constructor <;> simp [inner, letter] <;> omega
  · right; right; left; constructor <;> simp [inner, letter] <;> omega
  · right; right; right; left; constructor <;> simp [inner, letter] <;> omega
  · right; right; right; right; left; constructor <;> simp [inner, letter] <;> omega
  · right; right; right; right; right; left; constructor <;> simp [inner, letter] <;> omega
  · right; right; right; right; left; constructor <;> simp [inner, letter] <;> omega
  · right; right; right; right; right; right; left; constructor <;> simp [inner, letter] <;> omega
  · right; right; right; right; right; right; right; constructor <;> simp [inner, letter] <;> omega

theorem rname_loop (a : ByteArray) (ha : a.size ≤ 9223372036854775807) (cs : List UInt8) : ∀ (i : Nat) (_ : a.data.toList.drop i = cs) (l : List GV) (g : Nat) (H : GH) (K : GExit × St → Prop)
    (_ : 0 < i) (_ : lget l 0 = .str a) (_ : lget l 3 = .int .i64 i)
    (_ : ∀ l', cs.all inner = false → lget l' 2 = .bool false → K (.ret, ⟨⟨l', g⟩, H⟩))
    (_ : ∀ l', cs.all inner = true → lget l' 0 = .str a → K (.exit 0, ⟨⟨l', g⟩, H⟩)),
    optW (erun T (.loop L0_hedgerowref01_Name) ⟨⟨l, g⟩, H⟩) K := by
  induction cs with
  | nil =>
    intro i hd l g H K hi0 h0 h3 hr he
    have hlen := drop_none hd
    have hge : ¬ ((i : Int) < a.size) := by
      have : a.size = a.data.toList.length := by simp
      omega
    rw [run_loop]
    simp [L0_hedgerowref01_Name, h0, h3, hge]
    exact he _ (by simp) (by simp [h0])
  | cons c cs ih =>
    intro i hd l g H K hi0 h0 h3 hr he
    obtain ⟨hg, hi, hd'⟩ := drop_some hd
    have hsz : a.size = a.data.toList.length := by simp
    have hlt : (i : Int) < a.size := by omega
    have hix := ix_ok hlt
    have hw : IntKind.i64.wrap ((i : Int) + 1) = (i : Int) + 1 := wrap_i64' (by omega) (by omega)
    have hg' : a.data[i]? = some c := by simpa using hg
    have hne : ¬ ((i : Int) = 0) := by omega
    have hne' : ¬ (i = 0) := by omega
    rw [run_loop, wp_seqK]
    rcases cls c with h | h | h | h | h | h | h | h
    all_goals
      obtain ⟨a0, a1, a2, a3, a4, a5, a6, al, an⟩ := h
      simp only [decide_eq_true_eq, decide_eq_false_iff_not] at a0 a1 a2 a3 a4 a5 a6
      simp [L0_hedgerowref01_Name, h0, h3, hlt, hix, str_get, hg', a0, a1, a2, a3, a4, a5, a6, hw, hne, hne']
      first
        | exact hr _ (by simp [an]) (by simp)
        | (refine ih (i + 1) hd' _ g H K (by omega) ?_ ?_ ?_ ?_
           · simp [h0]
           · simp
           · intro l' h1 h2; exact hr l' (by simp [an, h1]) h2
           · intro l' h1 h2; exact he l' (by simp [an, h1]) h2)

theorem ref_Name (a : ByteArray) (ha : a.size ≤ 9223372036854775807) (H : GH) : ecall T f_hedgerowref01_Name [.str a] H = some (.bool (nameL a.data.toList), H) := by
  apply optW.eq
  rw [ecall_0 T_hedgerowref01_Name rfl (by simp [F_hedgerowref01_Name]), wp_fin1]
  have hsz : a.size = a.data.toList.length := by simp
  unfold nameL
  cases hl : a.data.toList with
  | nil =>
    have hs0 : a.size = 0 := by rw [hsz, hl]; rfl
    simp [F_hedgerowref01_Name, b_hedgerowref01_Name, run_loop, L0_hedgerowref01_Name, hs0]
  | cons c cs =>
    have hs1 : a.size = cs.length + 1 := by rw [hsz, hl]; rfl
    have hlt : (0 : Int) < a.size := by omega
    have hlt' : 0 < a.size := by omega
    have hix : gIx a.size (.int .i64 0) = some 0 := ix_ok (i := 0) (by omega)
    have hg0 : a.data[0]? = some c := by
      have : a.data.toList[0]? = some c := by rw [hl]; rfl
      simpa using this
    have hg1 : ∀ h : 0 < a.data.size, a.data[0]'h = c := fun h => by rw [Array.getElem?_eq_getElem h] at hg0; exact Option.some.inj hg0
    have hw1 : IntKind.i64.wrap 1 = 1 := by decide
    simp [F_hedgerowref01_Name, b_hedgerowref01_Name]
    rw [wp_seqK, wp_blockK, run_loop, wp_seqK]
    rcases cls c with h | h | h | h | h | h | h | h
    all_goals
      obtain ⟨a0, a1, a2, a3, a4, a5, a6, al, an⟩ := h
      simp only [decide_eq_true_eq, decide_eq_false_iff_not] at a0 a1 a2 a3 a4 a5 a6
      simp [L0_hedgerowref01_Name, hlt, hlt', hix, str_get, hg0, hg1, a0, a1, a2, a3, a4, a5, a6, hw1, al]
      try
        refine rname_loop a ha cs 1 (by simp [hl]) _ _ _ _ (by omega) ?_ ?_ ?_ ?_
        · simp
        · simp
        · intro l' h1 h2
          simp [h2]
          intro _ _; simpa using h1
        · intro l' h1 h2
          have h1' : ∀ x ∈ cs, inner x = true := by simpa using h1
          by_cases h16 : (a.size : Int) ≤ 16
          · have h16' : cs.length ≤ 15 := by omega
            have hge1 : (1 : Int) ≤ a.size := by omega
            simp [h2, h16, hge1, h16', an]
            first | exact h1' | exact ⟨by omega, h1'⟩ | (intro x hx; exact h1' x hx)
          · have h16' : ¬ cs.length ≤ 15 := by omega
            have hge1 : (1 : Int) ≤ a.size := by omega
            simp [h2, h16, hge1, h16']
end Go.Proofs.YtbcdhjalciljaaaDoor
