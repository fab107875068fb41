/- Own work: the shadow machine and what it shows, part Cu. -/
import Derived.Test.YthbhfipgdinihaaDoorLa
import Derived.Test.YthbhfipgdinihaaDoorPl
set_option linter.all false

namespace Go.Proofs.YthbhfipgdinihaaDoor
open Go.Sh
set_option maxRecDepth 100000

/-! ## The law of cuts -/

theorem putB_len0 {n : Int} (h : nOk n) : 1 ≤ (putB n).length := by rw [putB_numB h]; exact numB_pos n

theorem parse_ok {v : GV} {B : List Int} (hE : Elems 1 v (u8s B)) (hB : isB B) (hl : B.length ≤ 2 ^ 40) (H : GH) :
    ∃ (kv : List Int) (wi we : GV) (J : List IP) (E : List Evt), kv.length = 16 ∧ ecall T f_snap_Parse [v] H = some (.tup [.agg (snC kv wi we), .int .i64 (pCode B)], H) ∧ Elems 6 wi (J.map ipG) ∧ Elems 27 we (E.map evG) ∧ (∀ p ∈ J, IOk p) ∧ (pCode B = 0 → kv = (pK B).1 ∧ J.map (·.1) = (pI B).1 ∧ E = (pV B).1) := by
  obtain ⟨wi, we, J, h1, h2, h3, h4, h5, _⟩ := snap_Parse hE hB hl H
  refine ⟨_, wi, we, J, _, ?_, h1, h2, h3, h5, fun h0 => ?_⟩
  · split
    · exact rNs_len _ _
    · rfl
  · rw [h0] at h4 ⊢
    exact ⟨rfl, h4, rfl⟩

theorem snapCuts_ok (kv : List Int) (hk : kv.length = 16) (I : List IP) (hI : I.length ≤ 9223372036854775807) (hin : ∀ p ∈ I, IIn p) (E : List Evt) (hE : E.length ≤ 9223372036854775807) (hine : ∀ e ∈ E, EIn e) (vi ve : GV) (hvi : Elems 6 vi (I.map ipG)) (hve : Elems 27 ve (E.map evG))
    (cut : Int) (hc0 : 0 ≤ cut) (hc1 : cut ≤ 65535) (M : List Int) (hM : isB M) (hMl : M.length ≤ 9223372036854775807) (mv : GV) (hmv : Elems 1 mv (u8s M)) (H : GH) (hbt : H.bt ≤ H.toks.length) :
    ∃ H', ecall T f_hedgerowlaw12_SnapCuts [.agg (snC kv vi ve), .int .u16 cut, mv] H = some (.bool true, H') := by
  have hfx := fixed_ok
  have sl := sn_len hk vi ve
  have s18 : List.take 18 (snC kv vi ve) = snC kv vi ve := List.take_of_length_le (by rw [sl]; exact Nat.le_refl _)
  have hml := hmv.len
  rw [u8s_length] at hml
  have hmu := hmv.unb
  obtain ⟨b, hfew, hb⟩ := few_ok kv hk I hI (fun p hp => (hin p hp).big) E hE (fun e he => (hine e he).big) vi ve hvi hve H
  have key : optW (ecall T f_hedgerowlaw12_SnapCuts [.agg (snC kv vi ve), .int .u16 cut, mv] H) fun r => ∃ H', r = (.bool true, H') := by
    rw [ecall_0 T_hedgerowlaw12_SnapCuts rfl (by simp [F_hedgerowlaw12_SnapCuts]), wp_fin1]
    simp only [F_hedgerowlaw12_SnapCuts, b_hedgerowlaw12_SnapCuts]
    cases b with
    | false => simp [hfx, sl, s18, hfew]
    | true =>
      by_cases h100 : 100 < M.length
      · have h100' : (100 : Int) < M.length := by omega
        simp [hfx, sl, s18, hfew, hml, hmu, h100, h100']
      · have h100' : ¬ (100 : Int) < M.length := by omega
        obtain ⟨hI30, hE30, hsm, hse⟩ := hb rfl
        have hIS : ∀ p ∈ I, IS p ∧ p.1.L.length ≤ 1000 := fun p hp => (hin p hp).is (hsm p hp)
        have hEvS : ∀ e ∈ E, EvS e := fun e he => (hine e he).ev (hse e he)
        obtain ⟨v, hby, hv⟩ := snap_Bytes kv hk I (by omega) hIS E (by omega) hEvS vi ve hvi hve H
        cases hr : rightB kv (I.map (·.1)) E with
        | false =>
          rw [hr] at hby hv
          simp only [Bool.false_eq_true, if_false] at hby hv
          have hvl := hv.len
          have hvu := hv.unb
          simp [hfx, sl, s18, hfew, hml, hmu, h100, h100', hby, hvl, hvu]
        | true =>
          rw [hr] at hby hv
          simp only [if_true] at hby hv
          have hitm : ∀ p ∈ I.map (·.1), ElS p.x ∧ p.L.length ≤ 1000 ∧ ∀ e ∈ p.L, EntS e := fun p hp => by
            obtain ⟨q, hq, rfl⟩ := List.mem_map.1 hp
            exact ⟨(hIS q hq).1.x, (hIS q hq).2, (hIS q hq).1.fit⟩
          have hlen := snapBy_len hk (by rw [List.length_map]; omega) hitm (by omega) hEvS
          have hlen2 : (snapBy kv (I.map (·.1)) E).length ≤ 2 ^ 36 := by
            have h1 := itemBy_lens (I.map (·.1)) hitm (by rw [List.length_map]; omega)
            have h2 := flat_le putB 9 kv (fun n _ => putB_len n)
            have h3 := flat_le evBy 6000 E (fun e hm => evBy_len (hEvS e hm))
            have h4 := putB_len (I.map (·.1)).length
            have h5 := putB_len E.length
            have h6 : E.length * 6000 ≤ 1000 * 6000 := Nat.mul_le_mul_right _ (by omega)
            rw [hk] at h2
            simp only [snapBy, List.length_append]
            omega
          have hfit : SnFit kv (I.map (·.1)) E := ⟨hk, fun p hp => ⟨(hitm p hp).1.ok, by have := (hitm p hp).2.1; omega, fun e he => by have := ((hitm p hp).2.2 e he).t; omega⟩, by rw [List.length_map]; omega, fun e he => (hEvS e he).ok, by omega⟩
          obtain ⟨pc, pk, pi, pv⟩ := parse_code hfit hr
          have hbB := isB_snapBy kv (I.map (·.1)) E
          have hpos : 1 ≤ (snapBy kv (I.map (·.1)) E).length := by
            have h5 := putB_len0 (n := E.length) (by constructor <;> omega)
            simp only [snapBy, List.length_append]
            omega
          have hcut := fun k hk2 => parse_cut hfit hr (k := k) hk2
          have hmore := fun w hw => parse_more hfit hr (w := w) hw
          generalize hBB : snapBy kv (I.map (·.1)) E = B at *
          have hvl := hv.len
          rw [u8s_length] at hvl
          have hvu := hv.unb
          -- the part
          have hn0 : ¬ (B.length : Int) = 0 := by omega
          have hn0' : ¬ B.length = 0 := by omega
          have htm : cut.tmod (B.length : Int) = cut % (B.length : Int) := Int.tmod_eq_emod_of_nonneg hc0
          have hrem : gInt .rem .i64 cut (B.length : Int) = some (.int .i64 (cut % (B.length : Int))) := by simp only [gInt]; rw [if_neg hn0, htm]
          have hm0 := Int.emod_nonneg cut hn0
          have hm1 := Int.emod_lt_of_pos cut (show (0 : Int) < B.length by omega)
          obtain ⟨v', hsl, hv'⟩ := cutH hv (k := cut % (B.length : Int)) hm0 (by omega)
          have hw : IntKind.i64.wrap cut = cut := wrap_i64' (by omega) (by omega)
          have hlt : (B.take (cut % (B.length : Int)).toNat).length ≤ 2 ^ 40 := by rw [List.length_take]; omega
          obtain ⟨kv2, wi, we, J, E2, hk2, hpa, hwi, hwe, hJok, _⟩ := parse_ok hv' (isB_take hbB _) hlt H
          rw [hcut _ (by omega)] at hpa
          have tl := sn_len hk2 wi we
          have t18 : List.take 18 (snC kv2 wi we) = snC kv2 wi we := List.take_of_length_le (by rw [tl]; exact Nat.le_refl _)
          have hon : (snC kv2 wi we).all GV.one = true := by simp [snC, hwi.one, hwe.one]
          have hset : setPart sn0 0 (snC kv2 wi we) = some (snC kv2 wi we) := by simp only [setPart, tl]; simp [tl]
          simp only [sn0] at hset
          -- with more behind
          obtain ⟨o1, H1, ap1, A1, st1, _⟩ := append_ok (ty := 5) (bytes := 1) (App.exact (H := H) (sz := 1) []) hv.news hbt (by rw [u8s_length]; simp [room]; omega) (by rw [u8s_length]; simp [maxLen]; omega)
          rw [List.nil_append] at A1
          have hbt1 := st1.btle hbt
          obtain ⟨o2, H2, ap2, A2, st2, _⟩ := append_ok (ty := 5) (bytes := 1) A1 hmv.news hbt1 (by rw [u8s_length, u8s_length]; simp [room]; omega) (by rw [u8s_length, u8s_length]; simp [maxLen]; omega)
          rw [← u8s_append] at A2
          obtain ⟨kv3, xi, xe, J3, E3, hk3, hpa3, hxi, hxe, hJok3, h30⟩ := parse_ok A2.elems (isB_append hbB hM) (by rw [List.length_append]; omega) H2
          have ul := sn_len hk3 xi xe
          have u18 : List.take 18 (snC kv3 xi xe) = snC kv3 xi xe := List.take_of_length_le (by rw [ul]; exact Nat.le_refl _)
          have uon : (snC kv3 xi xe).all GV.one = true := by simp [snC, hxi.one, hxe.one]
          have uset : setPart sn0 0 (snC kv3 xi xe) = some (snC kv3 xi xe) := by simp only [setPart, ul]; simp [ul]
          simp only [sn0] at uset
          have e1 := A1.ok
          have e2 := A2.ok
          have u1 := fun t => A1.elems.unb t
          have u2 := fun t => A2.elems.unb t
          by_cases hMn : M = []
          · subst hMn
            rw [List.append_nil, pc] at hpa3
            rw [List.append_nil] at h30
            obtain ⟨q1, q2, q3⟩ := h30 pc
            rw [pk] at q1
            rw [pi] at q2
            rw [pv] at q3
            subst q1 q3
            have hsame := snap_Same _ hk I J3 q2.symm (by omega) (fun p hp => (hIS p hp).1.ok) hJok3 _ (by omega) (fun e he => (hEvS e he).past) vi ve xi xe hvi hxi hve hxe H2
            simp only [List.length_nil] at hml
            simp [hfx, sl, s18, hfew, hml, hmu, hby, hvl, hvu, hv.ok, hmv.ok, hw, hrem, hsl, hv'.ok, hv'.unb, hpa, tl, t18, hon, hset, ap1, ap2, e1, e2, u1, u2, hpa3, ul, u18, uon, uset, hsame, gSetAll]
          · have hc2 := hmore M hMn
            rw [hc2] at hpa3
            have hm2 : ¬ (M.length : Int) = 0 := by
              cases M with
              | nil => exact absurd rfl hMn
              | cons a l => simp; omega
            have hm2' : ¬ M.length = 0 := by omega
            simp [hfx, sl, s18, hfew, hml, hmu, h100, h100', hby, hvl, hvu, hv.ok, hmv.ok, hw, hrem, hsl, hv'.ok, hv'.unb, hpa, tl, t18, hon, hset, ap1, ap2, e1, e2, u1, u2, hpa3, ul, u18, uon, uset, hm2, hm2', hMn, gSetAll]
  obtain ⟨r, h1, H', rfl⟩ := key
  exact ⟨H', h1⟩
end Go.Proofs.YthbhfipgdinihaaDoor
