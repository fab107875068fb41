/- Own work, over the shadow machine: LSpec4. -/
import Derived.Test.YtlmiihdkgaljoaaGreatDoorSp3
set_option linter.all false
namespace Go.Proofs.YtlmiihdkgaljoaaGreatDoor
open Go.Sh
set_option maxRecDepth 100000

theorem fill_loop (n : Nat) (hn : n ≤ 5000) (d : Nat) : ∀ (i : Nat) (_ : i + d = n) (l : List GV) (g : Nat) (H : GH) (K : GExit × St → Prop) (id : Nat)
    (_ : lget l 3 = .hsl id 0 n 1 false) (_ : lget l 15 = .int .i64 n) (_ : lget l 16 = .int .i64 i)
    (_ : H.objs[id]? = some (.row 5 (List.replicate i (.int .u8 43) ++ List.replicate d (.int .u8 0)))) (_ : H.bo ≤ id)
    (_ : ∀ (l' : List GV) (H' : GH), lget l' 0 = lget l 0 → lget l' 3 = .hsl id 0 n 1 false → H'.objs[id]? = some (.row 5 (List.replicate n (.int .u8 43))) → K (.exit 0, ⟨⟨l', g⟩, H'⟩)),
    optW (erun T (.loop L0_hedgerowlaw18_LexLong) ⟨⟨l, g⟩, H⟩) K := by
  induction d with
  | zero =>
    intro i hi l g H K id h3 h15 h16 hob hbo he
    have hin : i = n := by omega
    subst hin
    rw [run_loop]
    simp [L0_hedgerowlaw18_LexLong, h15, h16]
    exact he _ H (by simp) (by simp [h3]) (by simpa using hob)
  | succ d ih =>
    intro i hi l g H K id h3 h15 h16 hob hbo he
    have hlt : (i : Int) < n := by omega
    have hlt' : i < n := by omega
    have hix : gIx n (.int .i64 (i : Int)) = some i := by simp only [gIx]; rw [if_pos (by omega)]; simp
    have hw : IntKind.i64.wrap ((i : Int) + 1) = (i : Int) + 1 := wrap_i64' (by omega) (by omega)
    have hsp : setPart (List.replicate i (.int .u8 43) ++ List.replicate (d + 1) (.int .u8 0)) i [GV.int .u8 43] = some (List.replicate (i + 1) (.int .u8 43) ++ List.replicate d (.int .u8 0)) := by
      have hl : i + 1 ≤ i + (d + 1) := by omega
      simp only [setPart, List.length_append, List.length_replicate, List.length_cons, List.length_nil, Nat.zero_add, if_pos hl, Option.some.injEq]
      have e1 : (List.replicate i (GV.int .u8 43) ++ List.replicate (d + 1) (GV.int .u8 0)).take i = List.replicate i (GV.int .u8 43) := by simp
      have e2 : (List.replicate i (GV.int .u8 43) ++ List.replicate (d + 1) (GV.int .u8 0)).drop (i + 1) = List.replicate d (GV.int .u8 0) := by
        rw [List.drop_append]; simp
      rw [e1, e2, List.replicate_succ']
    have hidl : id < H.objs.length := (List.getElem?_eq_some_iff.1 hob).1
    rw [run_loop, wp_seqK]
    simp [L0_hedgerowlaw18_LexLong, h3, h15, h16, hlt, hlt', hix, hob, hsp, hbo, hw]
    refine ih (i + 1) (by omega) _ _ _ K id ?_ ?_ ?_ ?_ hbo ?_
    · simp [h3]
    · simp [h15]
    · simp
    · simp [hidl]
    · intro l' H' f0 f3 f4
      exact he l' H' (by rw [f0]; simp) f3 f4

theorem cells_rep (n : Nat) (k : IntKind) (x : Int) : (List.replicate n (GV.int k x)).flatMap GV.cells = List.replicate n (.int k x) := by
  induction n with
  | zero => rfl
  | succ n ih => rw [List.replicate_succ, List.flatMap_cons, ih]; rfl

theorem toBytes_rep (n : Nat) : toBytes (List.replicate n (.int .u8 43)) = some (List.replicate n 43) := by
  induction n with
  | zero => rfl
  | succ n ih => rw [List.replicate_succ, toBytes, ih]; rfl

theorem long_ok (m : Int) (h0 : 0 ≤ m) (h1 : m ≤ 255) (H : GH) (hb : H.bo ≤ H.objs.length) : ∃ H', ecall T f_hedgerowlaw18_LexLong [.int .u8 m] H = some (.bool true, H') := by
  obtain ⟨q, hq, hq3⟩ : ∃ q : Nat, m.tmod 3 = (q : Int) ∧ q < 3 := by
    obtain ⟨k, rfl⟩ : ∃ k : Nat, m = (k : Int) := ⟨m.toNat, by omega⟩
    exact ⟨k % 3, (Int.ofNat_tmod k 3).symm, Nat.mod_lt _ (by omega)⟩
  have key : optW (ecall T f_hedgerowlaw18_LexLong [.int .u8 m] H) fun r => r.1 = .bool true := by
    rw [ecall_0 T_hedgerowlaw18_LexLong rfl (by simp [F_hedgerowlaw18_LexLong]), wp_fin1]
    simp only [F_hedgerowlaw18_LexLong, b_hedgerowlaw18_LexLong]
    have w1 : IntKind.i64.wrap (q : Int) = q := wrap_i64' (by omega) (by omega)
    have w2 : IntKind.i64.wrap (2000 + (q : Int)) = 2000 + (q : Int) := wrap_i64' (by omega) (by omega)
    have hr : gInt .rem .u8 m 3 = some (.int .u8 (q : Int)) := by simp only [gInt]; rw [if_neg (by omega), hq]
    have hmk : gMakeR H 5 1 1 (.int .u8 0) (.int .i64 (2000 + (q : Int))) (.int .i64 (2000 + (q : Int))) = some (.hsl H.objs.length 0 (2000 + q) 1 false, H.newObj (.row 5 (List.replicate (2000 + q) (.int .u8 0)))) := by
      have e1 : (2000 + (q : Int)).toNat = 2000 + q := by omega
      simp only [gMakeR, e1]
      rw [if_pos ⟨by omega, by omega, by simp only [room]; omega, by simp only [maxLen]; omega, rfl, by omega, rfl⟩]
      rw [cells_rep]
    simp [fixed_ok, hr, w1, w2, hmk]
    rw [wp_seqK, wp_blockK]
    refine fill_loop (2000 + q) (by omega) (2000 + q) 0 (by omega) _ _ _ _ H.objs.length ?_ ?_ ?_ ?_ hb ?_
    · simp
    · simp
    · simp
    · simp [GH.newObj]
    · intro l' H' f0 f3 f4
      have hlen : (List.replicate (2000 + q) (GV.int .u8 43)).length = 2000 + q := by simp
      obtain ⟨sB, hsB, hb2⟩ : ∃ sB : ByteArray, sB.data.toList = List.replicate (2000 + q) 43 ∧ gB2r H' [.hsl H.objs.length 0 (2000 + q) 1 false] = some (.str sB) := by
        refine ⟨⟨(List.replicate (2000 + q) (43 : UInt8)).toArray⟩, by simp, ?_⟩
        simp only [gB2r, f4]
        rw [if_pos (by rw [hlen]; omega), List.drop_zero, List.take_of_length_le (by rw [hlen]; omega), toBytes_rep]
        rfl
      have hz : sB.size = 2000 + q := by rw [bs_size, hsB]; simp
      simp at f0
      by_cases hq0 : q = 0
      · obtain ⟨t, ht⟩ := tokens_plus sB (2000 + q) (by omega) (by omega) hsB H'
        obtain ⟨xs, hxl, hxs⟩ : ∃ xs : List GV, xs.length = 2000 + q ∧ List.replicate (2000 + q) plusT = xs := ⟨_, by simp, rfl⟩
        rw [hxs] at ht
        have hx2 : ((xs.length : Int) = 2000) := by omega
        have hx3 : xs.length = 2000 := by omega
        have hq1 : ¬ ((0 : Int) < q) := by omega
        have hq2 : ¬ (0 < q) := by omega
        simp [f0, f3, hb2, ht, hr, hx3, hq1, hq2]
      · have hbig : ecall T f_lex_Tokens [.str sB] H' = some (.tup [.nilsl, .int .i64 3], H') := by
          apply optW.eq
          rw [ecall_1 T_lex_Tokens rfl (by simp [F_lex_Tokens]), wp_fin1]
          have hgt : (2000 : Int) < 2000 + (q : Int) := by omega
          have hgt' : 2000 < 2000 + q := by omega
          have hq0'' : 0 < q := by omega
          have hc : clean H'.objs.length H'.toks.length 100 (.tup [.nilsl, .int .i64 3]) = some (.tup [.nilsl, .int .i64 3]) := rfl
          simp [F_lex_Tokens, b_lex_Tokens, hz, hgt, hgt', hq0'', hc]
        have hq0' : (0 : Int) < q := by omega
        have hq0'' : 0 < q := by omega
        simp [f0, f3, hb2, hbig, hr, hq0', hq0'']
  obtain ⟨v, h, hv⟩ := key
  exact ⟨v.2, by rw [h]; congr 1; exact Prod.ext hv rfl⟩
end Go.Proofs.YtlmiihdkgaljoaaGreatDoor
