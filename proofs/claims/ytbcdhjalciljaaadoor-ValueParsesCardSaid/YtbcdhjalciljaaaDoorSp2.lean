/- Own work, over the shadow machine: VSpec2. -/
import Derived.Test.YtbcdhjalciljaaaDoorSp1
set_option linter.all false
namespace Go.Proofs.YtbcdhjalciljaaaDoor
open Go.Sh
set_option maxRecDepth 100000

/-! ## hedgerowref01.Compare -/

/-- At the first place where two rows differ. -/
def diff : List UInt8 → List UInt8 → Option Int
  | x :: a, y :: b => if x = y then diff a b else some (if x < y then -1 else 1)
  | _, _ => none

theorem str_get (s : ByteArray) (i : Nat) : s[i]? = s.data.toList[i]? := by
  rcases s with ⟨d⟩
  by_cases h : i < d.size
  · have h1 : (ByteArray.mk d)[i]? = some (d[i]) := by
      rw [getElem?_pos (ByteArray.mk d) i h]; rfl
    rw [h1]; simp [h]
  · have h1 : (ByteArray.mk d)[i]? = none := getElem?_neg (ByteArray.mk d) i h
    rw [h1]; simp [Nat.not_lt.1 h]

theorem drop_none {l : List UInt8} {i : Nat} (h : l.drop i = []) : l.length ≤ i := by simpa using h

theorem drop_some {l cs : List UInt8} {c : UInt8} {i : Nat} (h : l.drop i = c :: cs) : l[i]? = some c ∧ i < l.length ∧ l.drop (i + 1) = cs := by
  have h1 : i < l.length := by
    rcases Nat.lt_or_ge i l.length with h1 | h1
    · exact h1
    · rw [List.drop_eq_nil_of_le h1] at h; cases h
  refine ⟨?_, h1, ?_⟩
  · have := congrArg (·[0]?) h
    simpa using this
  · have := congrArg List.tail h
    simpa using this

theorem u8_ne {x y : UInt8} : (x.toNat : Int) = y.toNat ↔ x = y := by
  constructor
  · intro h; exact UInt8.toNat_inj.1 (by omega)
  · rintro rfl; rfl

theorem u8_lt {x y : UInt8} : (x.toNat : Int) < y.toNat ↔ x < y := by
  rw [UInt8.lt_iff_toNat_lt]; omega

theorem refc_loop (a b : ByteArray) (ha : a.size ≤ 9223372036854775807) (k1 k2 m1 m2 : GV) (g2 g3 : Nat) (cs : List UInt8) : ∀ (i : Nat) (_ : a.data.toList.drop i = cs) (l : List GV) (g : Nat) (H : GH) (K : GExit × St → Prop)
    (_ : lget l 2 = .lbox g2 [k1, m1, .str a]) (_ : lget l 3 = .lbox g3 [k2, m2, .str b]) (_ : lget l 5 = .int .i64 i)
    (_ : ∀ l' v, diff cs (b.data.toList.drop i) = some v → lget l' 4 = .int .i64 v → K (.ret, ⟨⟨l', g⟩, H⟩))
    (_ : ∀ l', diff cs (b.data.toList.drop i) = none → lget l' 2 = lget l 2 → lget l' 3 = lget l 3 → K (.exit 0, ⟨⟨l', g⟩, H⟩)),
    optW (erun T (.loop L0_hedgerowref01_Compare) ⟨⟨l, g⟩, H⟩) K := by
  induction cs with
  | nil =>
    intro i hd l g H K h2 h3 h5 hr he
    have hlen := drop_none hd
    have hge : ¬ ((i : Int) < a.size) := by
      have : a.size = a.data.toList.length := by simp
      omega
    rw [run_loop]
    simp [L0_hedgerowref01_Compare, h2, h3, h5, hge]
    exact he _ (by simp [diff]) (by simp [h2]) (by simp [h3])
  | cons c cs ih =>
    intro i hd l g H K h2 h3 h5 hr he
    obtain ⟨hg, hi, hd'⟩ := drop_some hd
    have hsz : a.size = a.data.toList.length := by simp
    have hlt : (i : Int) < a.size := by omega
    have hix : gIx a.size (.int .i64 i) = some i := by
      simp only [gIx]; rw [if_pos (by omega)]; simp
    have hw : IntKind.i64.wrap ((i : Int) + 1) = (i : Int) + 1 := wrap_i64' (by omega) (by omega)
    rw [run_loop, wp_seqK]
    cases hbd : b.data.toList.drop i with
    | nil =>
      have hlenb := drop_none hbd
      have hge : ¬ ((i : Int) < b.size) := by
        have : b.size = b.data.toList.length := by simp
        omega
      simp [L0_hedgerowref01_Compare, h2, h3, h5, hlt, hge]
      exact he _ (by rw [hbd]; rfl) (by simp [h2]) (by simp [h3])
    | cons d ds =>
      obtain ⟨hgb, hib, hdb⟩ := drop_some hbd
      have hg' : a.data[i]? = some c := by simpa using hg
      have hgb' : b.data[i]? = some d := by simpa using hgb
      have hszb : b.size = b.data.toList.length := by simp
      have hltb : (i : Int) < b.size := by omega
      have hixb : gIx b.size (.int .i64 i) = some i := by
        simp only [gIx]; rw [if_pos (by omega)]; simp
      by_cases hcd : c = d
      · subst hcd
        simp [L0_hedgerowref01_Compare, h2, h3, h5, hlt, hltb, hix, hixb, str_get, hg', hgb', hw]
        refine ih (i + 1) hd' _ g H K ?_ ?_ ?_ ?_ ?_
        · simp [h2]
        · simp [h3]
        · simp
        · intro l' v h h4
          refine hr l' v ?_ h4
          rw [hbd]; simpa [diff, hdb] using h
        · intro l' h p q
          refine he l' ?_ (by rw [p]; simp) (by rw [q]; simp)
          rw [hbd]; simpa [diff, hdb] using h
      · have hne : ¬ ((c.toNat : Int) = d.toNat) := fun h => hcd (u8_ne.1 h)
        by_cases hlt2 : c < d
        · have hlt3 := u8_lt.2 hlt2
          simp [L0_hedgerowref01_Compare, h2, h3, h5, hlt, hltb, hix, hixb, str_get, hg', hgb', hne, hlt3]
          refine hr _ (-1) ?_ ?_
          · rw [hbd]; simp [diff, hcd, hlt2]
          · simp
        · have hlt3 : ¬ ((c.toNat : Int) < d.toNat) := fun h => hlt2 (u8_lt.1 h)
          simp [L0_hedgerowref01_Compare, h2, h3, h5, hlt, hltb, hix, hixb, str_get, hg', hgb', hne, hlt3]
          refine hr _ 1 ?_ ?_
          · rw [hbd]; simp [diff, hcd, hlt2]
          · simp
end Go.Proofs.YtbcdhjalciljaaaDoor
