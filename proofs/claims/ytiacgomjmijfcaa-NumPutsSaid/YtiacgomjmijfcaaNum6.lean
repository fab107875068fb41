/- Own work, over the shadow machine: NumSpec5. -/
import Derived.Test.YtiacgomjmijfcaaNum5
set_option linter.all false
namespace Go.Proofs.Ytiacgomjmijfcaa
open Go.Sh

/-- A reader that lies in the heap: what is left, and whether something failed. -/
structure Rd (H : GH) (id : Nat) (B : List Int) (bad : Bool) : Prop where
  ex : ∃ v, H.objs[id]? = some (.cells [v, .bool bad]) ∧ Elems 1 v (u8s B)
  bo : H.bo ≤ id
  isb : isB B
  len : B.length ≤ 2 ^ 40

theorem Rd.lt {H : GH} {id : Nat} {B : List Int} {bad : Bool} (h : Rd H id B bad) : id < H.objs.length := by
  obtain ⟨v, h1, _⟩ := h.ex
  exact (List.getElem?_eq_some_iff.1 h1).1

theorem Rd.mods {H H' : GH} {id : Nat} {B : List Int} {bad : Bool} {ids : Nat → Prop} (h : Rd H id B bad) (hm : Mods ids H H') (hn : ¬ ids id) : Rd H' id B bad := by
  have hlt := h.lt
  obtain ⟨⟨v, h1, h2⟩, h3, h4, h5⟩ := h
  exact ⟨⟨v, by rw [hm.obj id hlt hn]; exact h1, h2⟩, by rw [hm.bo]; exact h3, h4, h5⟩

/-- What the next number is. -/
def rdNum (B : List Int) (bad : Bool) (most : Int) : Int × List Int × Bool :=
  if bad = true then (0, B, true)
  else if (take B).2 = 0 ∨ most < (take B).1 then (0, B, true)
  else ((take B).1, B.drop (take B).2.toNat, false)

def sgn (n : Int) : Int := if n % 2 = 1 then -(n / 2) - 1 else n / 2

def rdText (B : List Int) (bad : Bool) (most : Int) : ByteArray × List Int × Bool :=
  if (rdNum B bad most).2.2 = true ∨ (rdNum B bad most).2.1.length < (rdNum B bad most).1 then (⟨#[]⟩, (rdNum B bad most).2.1, true)
  else (txt ((rdNum B bad most).2.1.take (rdNum B bad most).1.toNat), (rdNum B bad most).2.1.drop (rdNum B bad most).1.toNat, false)

theorem read_spec {v : GV} {B : List Int} {H : GH} (hE : Elems 1 v (u8s B)) (hB : isB B) (hl : B.length ≤ 2 ^ 40) (hbo : H.bo ≤ H.objs.length) :
    ∃ H', ecall T f_num_Read [v] H = some (.ptr H.objs.length 0, H') ∧ Rd H' H.objs.length B false ∧ Mods (fun _ => False) H H' := by
  refine ⟨H.newObj (.cells [v, .bool false]), ?_, ⟨⟨v, by simp [GH.newObj], hE⟩, hbo, hB, hl⟩, .new _ _ _⟩
  apply optW.eq
  rw [ecall_0 T_num_Read rfl (by simp [F_num_Read]), wp_fin1]
  simp [F_num_Read, b_num_Read, hE.ok, gFill, setPart, hE.cells]

theorem fail_raw {H : GH} {id : Nat} {v : GV} {bad : Bool} (h1 : H.objs[id]? = some (.cells [v, .bool bad])) : ecall T f_num_Reader_Fail [.ptr id 0] H = some (.bool bad, H) := by
  apply optW.eq
  rw [ecall_1 T_num_Reader_Fail rfl (by simp [F_num_Reader_Fail]), wp_fin1]
  simp [F_num_Reader_Fail, b_num_Reader_Fail, h1]

theorem fail_spec {H : GH} {id : Nat} {B : List Int} {bad : Bool} (h : Rd H id B bad) : ecall T f_num_Reader_Fail [.ptr id 0] H = some (.bool bad, H) := by
  obtain ⟨v, h1, h2⟩ := h.ex
  exact fail_raw h1

theorem done_spec {H : GH} {id : Nat} {B : List Int} {bad : Bool} (h : Rd H id B bad) : ecall T f_num_Reader_Done [.ptr id 0] H = some (.bool (!bad && decide (B = [])), H) := by
  obtain ⟨v, h1, h2⟩ := h.ex
  apply optW.eq
  rw [ecall_1 T_num_Reader_Done rfl (by simp [F_num_Reader_Done]), wp_fin1]
  cases bad <;> simp [F_num_Reader_Done, b_num_Reader_Done, h1, fail_raw (H := H.over) h1, h2.ok, h2.len]

theorem left_spec {H : GH} {id : Nat} {B : List Int} {bad : Bool} (h : Rd H id B bad) : ecall T f_num_Reader_Left [.ptr id 0] H = some (.int .i64 (if bad = true then 0 else B.length), H) := by
  obtain ⟨v, h1, h2⟩ := h.ex
  apply optW.eq
  rw [ecall_1 T_num_Reader_Left rfl (by simp [F_num_Reader_Left]), wp_fin1]
  cases bad <;> simp [F_num_Reader_Left, b_num_Reader_Left, h1, fail_raw (H := H.over) h1, h2.ok, h2.len]

theorem refLeft_spec {H : GH} {id : Nat} {B : List Int} {bad : Bool} (h : Rd H id B bad) : ecall T f_hedgerowref02_Reader_Left [.ptr id 0] H = some (.int .i64 (if bad = true then 0 else B.length), H) := by
  obtain ⟨v, h1, h2⟩ := h.ex
  apply optW.eq
  rw [ecall_1 T_hedgerowref02_Reader_Left rfl (by simp [F_hedgerowref02_Reader_Left]), wp_fin1]
  cases bad <;> simp [F_hedgerowref02_Reader_Left, b_hedgerowref02_Reader_Left, h1, h2.ok, h2.len]

theorem cutL {B : List Int} {v : GV} (hE : Elems 1 v (u8s B)) {k : Int} (h0 : 0 ≤ k) (h1 : k ≤ B.length) :
    ∃ v', (∀ (call : Nat → List GV → GH → Option (GV × GH)) (l : List GV) (g : Nat) (H : GH), geff call (.slsl 1 true false false) [v, .int .i64 k] ⟨l, g⟩ H = some ⟨v', none, H, g⟩) ∧ Elems 1 v' (u8s (B.drop k.toNat)) := by
  have hb : gBounds (u8s B).length true false false [.int .i64 k] = some (k.toNat, B.length, none) := by
    simp only [gBounds, gBound, u8s_length]
    rw [if_pos (by omega)]; simp
  obtain ⟨v', h2, h3⟩ := hE.cut hb
  refine ⟨v', h2, ?_⟩
  have : ((u8s B).drop k.toNat).take (B.length - k.toNat) = u8s (B.drop k.toNat) := by
    rw [u8s_drop, List.take_of_length_le (by simp)]
  rw [this] at h3; exact h3

theorem cutH {B : List Int} {v : GV} (hE : Elems 1 v (u8s B)) {k : Int} (h0 : 0 ≤ k) (h1 : k ≤ B.length) :
    ∃ v', (∀ (call : Nat → List GV → GH → Option (GV × GH)) (l : List GV) (g : Nat) (H : GH), geff call (.slsl 1 false true false) [v, .int .i64 k] ⟨l, g⟩ H = some ⟨v', none, H, g⟩) ∧ Elems 1 v' (u8s (B.take k.toNat)) := by
  have hb : gBounds (u8s B).length false true false [.int .i64 k] = some (0, k.toNat, none) := by
    simp only [gBounds, gBound, u8s_length]
    rw [if_pos (by omega)]; simp
  obtain ⟨v', h2, h3⟩ := hE.cut hb
  refine ⟨v', h2, ?_⟩
  rw [List.drop_zero, Nat.sub_zero, ← u8s_take] at h3; exact h3

/-- The reader, written anew. -/
theorem Rd.set {H : GH} {id : Nat} {B B' : List Int} {bad bad' : Bool} {v' : GV} (h : Rd H id B bad) (hE : Elems 1 v' (u8s B')) (hB : isB B') (hl : B'.length ≤ 2 ^ 40) : Rd { H with objs := H.objs.set id (.cells [v', .bool bad']) } id B' bad' := by
  obtain ⟨v, h1, _⟩ := h.ex
  exact ⟨⟨v', obj_set h1, hE⟩, h.bo, hB, hl⟩

theorem num_spec {H : GH} {id : Nat} {B : List Int} {bad : Bool} (h : Rd H id B bad) (most : Int) :
    ∃ H', ecall T f_num_Reader_Num [.ptr id 0, .int .i64 most] H = some (.int .i64 (rdNum B bad most).1, H') ∧ Rd H' id (rdNum B bad most).2.1 (rdNum B bad most).2.2 ∧ Mods (· = id) H H' := by
  obtain ⟨v, h1, h2⟩ := h.ex
  have key : optW (ecall T f_num_Reader_Num [.ptr id 0, .int .i64 most] H) fun r => r.1 = .int .i64 (rdNum B bad most).1 ∧ Rd r.2 id (rdNum B bad most).2.1 (rdNum B bad most).2.2 ∧ Mods (· = id) H r.2 := by
    rw [ecall_0 T_num_Reader_Num rfl (by simp [F_num_Reader_Num]), wp_fin1]
    have ht := take_spec h.isb h2 h.len (H := H)
    obtain ⟨k1, k2, k3, k4, k5⟩ := take_ok h.isb
    cases hbad : bad with
    | true =>
      subst hbad
      simp [F_num_Reader_Num, b_num_Reader_Num, fail_spec h, rdNum]
      exact ⟨h, .refl _ _⟩
    | false =>
      subst hbad
      by_cases hz : (take B).2 = 0
      · simp [F_num_Reader_Num, b_num_Reader_Num, fail_spec h, h1, ht, h2.ok, hz, h.bo, setPart, rdNum]
        exact ⟨h.set h2 h.isb h.len, .set _ _ _⟩
      · by_cases hm : most < (take B).1
        · simp [F_num_Reader_Num, b_num_Reader_Num, fail_spec h, h1, ht, h2.ok, hz, hm, h.bo, setPart, rdNum]
          exact ⟨h.set h2 h.isb h.len, .set _ _ _⟩
        · obtain ⟨v', c1, c2⟩ := cutL h2 k3 k4
          simp [F_num_Reader_Num, b_num_Reader_Num, fail_spec h, h1, ht, h2.ok, hz, hm, h.bo, setPart, rdNum, c1, c2.ok, c2.cells, c2.one]
          exact ⟨h.set c2 (isB_drop h.isb _) (by have := h.len; simp; omega), .set _ _ _⟩
  obtain ⟨⟨r, H'⟩, e1, e2, e3, e4⟩ := key
  simp only at e2 e3 e4
  subst e2
  exact ⟨H', e1, e3, e4⟩

theorem refNum_spec {H : GH} {id : Nat} {B : List Int} {bad : Bool} (h : Rd H id B bad) (most : Int) (hbt : H.bt ≤ H.toks.length) :
    ∃ H', ecall T f_hedgerowref02_Reader_Num [.ptr id 0, .int .i64 most] H = some (.int .i64 (rdNum B bad most).1, H') ∧ Rd H' id (rdNum B bad most).2.1 (rdNum B bad most).2.2 ∧ Mods (· = id) H H' := by
  obtain ⟨v, h1, h2⟩ := h.ex
  have key : optW (ecall T f_hedgerowref02_Reader_Num [.ptr id 0, .int .i64 most] H) fun r => r.1 = .int .i64 (rdNum B bad most).1 ∧ Rd r.2 id (rdNum B bad most).2.1 (rdNum B bad most).2.2 ∧ Mods (· = id) H r.2 := by
    rw [ecall_0 T_hedgerowref02_Reader_Num rfl (by simp [F_hedgerowref02_Reader_Num]), wp_fin1]
    obtain ⟨H1, ht, hts⟩ := refTake_spec h.isb h2 h.len hbt
    have hm1 : Mods (fun j => j = id) H H1 := hts.mods
    have h1' : H1.objs[id]? = some (.cells [v, .bool bad]) := by rw [hts.objs]; exact h1
    have hbo' : H1.bo ≤ id := by rw [hts.bo]; exact h.bo
    have h' : Rd H1 id B bad := ⟨⟨v, h1', h2⟩, hbo', h.isb, h.len⟩
    obtain ⟨k1, k2, k3, k4, k5⟩ := take_ok h.isb
    cases hbad : bad with
    | true =>
      subst hbad
      simp [F_hedgerowref02_Reader_Num, b_hedgerowref02_Reader_Num, h1, h1', hbo', ht, h2.ok, setPart, rdNum]
      exact ⟨h'.set h2 h.isb h.len, hm1.trans (.set _ _ _)⟩
    | false =>
      subst hbad
      by_cases hz : (take B).2 = 0
      · simp [F_hedgerowref02_Reader_Num, b_hedgerowref02_Reader_Num, h1, h1', hbo', ht, h2.ok, hz, setPart, rdNum]
        exact ⟨h'.set h2 h.isb h.len, hm1.trans (.set _ _ _)⟩
      · by_cases hm : most < (take B).1
        · simp [F_hedgerowref02_Reader_Num, b_hedgerowref02_Reader_Num, h1, h1', hbo', ht, h2.ok, hz, hm, setPart, rdNum]
          exact ⟨h'.set h2 h.isb h.len, hm1.trans (.set _ _ _)⟩
        · obtain ⟨v', c1, c2⟩ := cutL h2 k3 k4
          simp [F_hedgerowref02_Reader_Num, b_hedgerowref02_Reader_Num, h1, h1', hbo', ht, h2.ok, hz, hm, setPart, rdNum, c1, c2.ok, c2.cells, c2.one]
          exact ⟨h'.set c2 (isB_drop h.isb _) (by have := h.len; simp; omega), hm1.trans (.set _ _ _)⟩
  obtain ⟨⟨r, H'⟩, e1, e2, e3, e4⟩ := key
  simp only at e2 e3 e4
  subst e2
  exact ⟨H', e1, e3, e4⟩

theorem rdNum_ok {B : List Int} {bad : Bool} (hB : isB B) (most : Int) : 0 ≤ (rdNum B bad most).1 ∧ (rdNum B bad most).1 ≤ 4611686018427387903 := by
  have := take_ok hB
  rw [rdNum]
  split
  · simp
  · split
    · simp
    · simp only; omega

theorem and1 {k : Int} (h0 : 0 ≤ k) (h : k < 2 ^ 62) : gInt .and .i64 k 1 = some (.int .i64 (k % 2)) := by
  obtain ⟨k, rfl⟩ := Int.eq_ofNat_of_zero_le h0
  have := and_i64 (a := k) (b := 1) (by omega) (by decide)
  rw [Nat.and_one_is_mod] at this
  rw [show (k : Int) % 2 = ((k % 2 : Nat) : Int) by omega]
  exact this

theorem rsigned_spec {H : GH} {id : Nat} {B : List Int} {bad : Bool} (h : Rd H id B bad) :
    ∃ H', ecall T f_num_Reader_Signed [.ptr id 0] H = some (.int .i64 (sgn (rdNum B bad 2305843009213693952).1), H') ∧ Rd H' id (rdNum B bad 2305843009213693952).2.1 (rdNum B bad 2305843009213693952).2.2 ∧ Mods (· = id) H H' := by
  obtain ⟨H1, h1, h2, h3⟩ := num_spec h 2305843009213693952
  refine ⟨H1, ?_, h2, h3⟩
  obtain ⟨k0, k1⟩ := rdNum_ok (bad := bad) h.isb 2305843009213693952
  generalize (rdNum B bad 2305843009213693952).1 = n at h1 k0 k1
  apply optW.eq
  rw [ecall_0 T_num_Reader_Signed rfl (by simp [F_num_Reader_Signed]), wp_fin1]
  have hq : n.tdiv 2 = n / 2 := Int.tdiv_eq_ediv_of_nonneg k0
  have w1 : IntKind.i64.wrap (n / 2) = n / 2 := wrap_i64' (by omega) (by omega)
  have w2 : IntKind.i64.wrap (0 - n / 2) = 0 - n / 2 := wrap_i64' (by omega) (by omega)
  have w3 : IntKind.i64.wrap (0 - n / 2 - 1) = 0 - n / 2 - 1 := wrap_i64' (by omega) (by omega)
  simp only [Int.zero_sub] at w2 w3
  by_cases ho : n % 2 = 1
  · simp [F_num_Reader_Signed, b_num_Reader_Signed, h1, and1 k0 (by omega), ho, gInt_quo, hq, w1, w2, w3, sgn]
  · simp [F_num_Reader_Signed, b_num_Reader_Signed, h1, and1 k0 (by omega), ho, gInt_quo, hq, w1, w2, w3, sgn]

theorem refRsigned_spec {H : GH} {id : Nat} {B : List Int} {bad : Bool} (h : Rd H id B bad) (hbt : H.bt ≤ H.toks.length) :
    ∃ H', ecall T f_hedgerowref02_Reader_Signed [.ptr id 0] H = some (.int .i64 (sgn (rdNum B bad 2305843009213693952).1), H') ∧ Rd H' id (rdNum B bad 2305843009213693952).2.1 (rdNum B bad 2305843009213693952).2.2 ∧ Mods (· = id) H H' := by
  obtain ⟨H1, h1, h2, h3⟩ := refNum_spec h 2305843009213693952 hbt
  refine ⟨H1, ?_, h2, h3⟩
  obtain ⟨k0, k1⟩ := rdNum_ok (bad := bad) h.isb 2305843009213693952
  generalize (rdNum B bad 2305843009213693952).1 = n at h1 k0 k1
  apply optW.eq
  rw [ecall_0 T_hedgerowref02_Reader_Signed rfl (by simp [F_hedgerowref02_Reader_Signed]), wp_fin1]
  have hq : n.tdiv 2 = n / 2 := Int.tdiv_eq_ediv_of_nonneg k0
  have hr : n.tmod 2 = n % 2 := Int.tmod_eq_emod_of_nonneg k0
  have w1 : IntKind.i64.wrap (n / 2) = n / 2 := wrap_i64' (by omega) (by omega)
  have w2 : IntKind.i64.wrap (0 - n / 2) = 0 - n / 2 := wrap_i64' (by omega) (by omega)
  have w3 : IntKind.i64.wrap (0 - n / 2 - 1) = 0 - n / 2 - 1 := wrap_i64' (by omega) (by omega)
  simp only [Int.zero_sub] at w2 w3
  by_cases ho : n % 2 = 1
  · simp [F_hedgerowref02_Reader_Signed, b_hedgerowref02_Reader_Signed, h1, ho, gInt_quo, gInt_rem, hq, hr, w1, w2, w3, sgn]
  · simp [F_hedgerowref02_Reader_Signed, b_hedgerowref02_Reader_Signed, h1, ho, gInt_quo, gInt_rem, hq, hr, w1, w2, w3, sgn]

theorem rtext_spec {H : GH} {id : Nat} {B : List Int} {bad : Bool} (h : Rd H id B bad) (most : Int) :
    ∃ H', ecall T f_num_Reader_Text [.ptr id 0, .int .i64 most] H = some (.str (rdText B bad most).1, H') ∧ Rd H' id (rdText B bad most).2.1 (rdText B bad most).2.2 ∧ Mods (· = id) H H' := by
  obtain ⟨H1, hn1, hn2, hn3⟩ := num_spec h most
  obtain ⟨k0, k1⟩ := rdNum_ok (bad := bad) h.isb most
  rw [rdText]
  generalize rdNum B bad most = r at hn1 hn2 k0 k1
  obtain ⟨n, B1, bad1⟩ := r
  simp only at hn1 hn2 k0 k1
  obtain ⟨v, h1, h2⟩ := hn2.ex
  have key : optW (ecall T f_num_Reader_Text [.ptr id 0, .int .i64 most] H) fun r => r.1 = .str (if bad1 = true ∨ B1.length < n then (⟨#[]⟩, B1, true) else (txt (B1.take n.toNat), B1.drop n.toNat, false)).1 ∧
      Rd r.2 id (if bad1 = true ∨ B1.length < n then ((⟨#[]⟩ : ByteArray), B1, true) else (txt (B1.take n.toNat), B1.drop n.toNat, false)).2.1 (if bad1 = true ∨ B1.length < n then ((⟨#[]⟩ : ByteArray), B1, true) else (txt (B1.take n.toNat), B1.drop n.toNat, false)).2.2 ∧ Mods (· = id) H r.2 := by
    rw [ecall_0 T_num_Reader_Text rfl (by simp [F_num_Reader_Text]), wp_fin1]
    cases hbad : bad1 with
    | true =>
      subst hbad
      simp [F_num_Reader_Text, b_num_Reader_Text, hn1, fail_spec hn2]
      exact ⟨hn2, hn3⟩
    | false =>
      subst hbad
      by_cases hlen : (B1.length : Int) < n
      · simp [F_num_Reader_Text, b_num_Reader_Text, hn1, fail_spec hn2, h1, h2.ok, h2.len, hlen, hn2.bo, setPart]
        exact ⟨hn2.set h2 hn2.isb hn2.len, hn3.trans (.set _ _ _)⟩
      · obtain ⟨v1, c1, c2⟩ := cutH h2 k0 (by omega)
        obtain ⟨v2, d1, d2⟩ := cutL h2 k0 (by omega)
        simp [F_num_Reader_Text, b_num_Reader_Text, hn1, fail_spec hn2, h1, h2.ok, h2.len, hlen, hn2.bo, setPart, c1, c2.ok, b2s_u8s c2, d1, d2.ok, d2.cells, d2.one]
        exact ⟨hn2.set d2 (isB_drop hn2.isb _) (by have := hn2.len; simp; omega), hn3.trans (.set _ _ _)⟩
  obtain ⟨⟨r, H'⟩, e1, e2, e3, e4⟩ := key
  simp only at e2 e3 e4
  subst e2
  exact ⟨H', e1, e3, e4⟩

theorem refRtext_spec {H : GH} {id : Nat} {B : List Int} {bad : Bool} (h : Rd H id B bad) (most : Int) (hbt : H.bt ≤ H.toks.length) :
    ∃ H', ecall T f_hedgerowref02_Reader_Text [.ptr id 0, .int .i64 most] H = some (.str (rdText B bad most).1, H') ∧ Rd H' id (rdText B bad most).2.1 (rdText B bad most).2.2 ∧ Mods (· = id) H H' := by
  obtain ⟨H1, hn1, hn2, hn3⟩ := refNum_spec h most hbt
  obtain ⟨k0, k1⟩ := rdNum_ok (bad := bad) h.isb most
  rw [rdText]
  generalize rdNum B bad most = r at hn1 hn2 k0 k1
  obtain ⟨n, B1, bad1⟩ := r
  simp only at hn1 hn2 k0 k1
  obtain ⟨v, h1, h2⟩ := hn2.ex
  have key : optW (ecall T f_hedgerowref02_Reader_Text [.ptr id 0, .int .i64 most] H) fun r => r.1 = .str (if bad1 = true ∨ B1.length < n then (⟨#[]⟩, B1, true) else (txt (B1.take n.toNat), B1.drop n.toNat, false)).1 ∧
      Rd r.2 id (if bad1 = true ∨ B1.length < n then ((⟨#[]⟩ : ByteArray), B1, true) else (txt (B1.take n.toNat), B1.drop n.toNat, false)).2.1 (if bad1 = true ∨ B1.length < n then ((⟨#[]⟩ : ByteArray), B1, true) else (txt (B1.take n.toNat), B1.drop n.toNat, false)).2.2 ∧ Mods (· = id) H r.2 := by
    rw [ecall_0 T_hedgerowref02_Reader_Text rfl (by simp [F_hedgerowref02_Reader_Text]), wp_fin1]
    cases hbad : bad1 with
    | true =>
      subst hbad
      simp [F_hedgerowref02_Reader_Text, b_hedgerowref02_Reader_Text, hn1, h1, hn2.bo, setPart]
      exact ⟨hn2.set h2 hn2.isb hn2.len, hn3.trans (.set _ _ _)⟩
    | false =>
      subst hbad
      by_cases hlen : (B1.length : Int) < n
      · simp [F_hedgerowref02_Reader_Text, b_hedgerowref02_Reader_Text, hn1, h1, h2.ok, h2.len, hlen, hn2.bo, setPart]
        exact ⟨hn2.set h2 hn2.isb hn2.len, hn3.trans (.set _ _ _)⟩
      · obtain ⟨v1, c1, c2⟩ := cutH h2 k0 (by omega)
        obtain ⟨v2, d1, d2⟩ := cutL h2 k0 (by omega)
        simp [F_hedgerowref02_Reader_Text, b_hedgerowref02_Reader_Text, hn1, h1, h2.ok, h2.len, hlen, hn2.bo, setPart, c1, c2.ok, b2s_u8s c2, d1, d2.ok, d2.cells, d2.one]
        exact ⟨hn2.set d2 (isB_drop hn2.isb _) (by have := hn2.len; simp; omega), hn3.trans (.set _ _ _)⟩
  obtain ⟨⟨r, H'⟩, e1, e2, e3, e4⟩ := key
  simp only at e2 e3 e4
  subst e2
  exact ⟨H', e1, e3, e4⟩

end Go.Proofs.Ytiacgomjmijfcaa
