/- Own work: the shadow machine and what it shows, part Ref. -/
import Derived.Test.YtlmiihdkgaljoaaGreatDoorVal
import Derived.Test.YtlmiihdkgaljoaaGreatDoorSp1
set_option linter.all false

namespace Go.Proofs.YtlmiihdkgaljoaaGreatDoor
open Go.Sh
set_option maxRecDepth 100000

theorem rname_loop (a : ByteArray) (ha : a.size ≤ 9223372036854775807) (cs : List UInt8) : ∀ (i : Nat) (_ : a.data.toList.drop i = cs) (l : List GV) (g : Nat) (H : GH) (K : GExit × St → Prop)
    (_ : 0 < i) (_ : lget l 0 = .str a) (_ : lget l 3 = .int .i64 i)
    (_ : ∀ l', cs.all inner = false → lget l' 2 = .bool false → K (.ret, ⟨⟨l', g⟩, H⟩))
    (_ : ∀ l', cs.all inner = true → lget l' 0 = .str a → K (.exit 0, ⟨⟨l', g⟩, H⟩)),
    optW (erun T (.loop L0_hedgerowref01_Name) ⟨⟨l, g⟩, H⟩) K := by
  induction cs with
  | nil =>
    intro i hd l g H K hi0 h0 h3 hr he
    have hlen := drop_none hd
    have hge : ¬ ((i : Int) < a.size) := by
      have : a.size = a.data.toList.length := by simp
      omega
    rw [run_loop]
    simp [L0_hedgerowref01_Name, h0, h3, hge]
    exact he _ (by simp) (by simp [h0])
  | cons c cs ih =>
    intro i hd l g H K hi0 h0 h3 hr he
    obtain ⟨hg, hi, hd'⟩ := drop_some hd
    have hsz : a.size = a.data.toList.length := by simp
    have hlt : (i : Int) < a.size := by omega
    have hix := ix_ok hlt
    have hw : IntKind.i64.wrap ((i : Int) + 1) = (i : Int) + 1 := wrap_i64' (by omega) (by omega)
    have hg' : a.data[i]? = some c := by simpa using hg
    have hne : ¬ ((i : Int) = 0) := by omega
    have hne' : ¬ (i = 0) := by omega
    rw [run_loop, wp_seqK]
    rcases cls c with h | h | h | h | h | h | h | h
    all_goals
      obtain ⟨a0, a1, a2, a3, a4, a5, a6, al, an⟩ := h
      simp only [decide_eq_true_eq, decide_eq_false_iff_not] at a0 a1 a2 a3 a4 a5 a6
      simp [L0_hedgerowref01_Name, h0, h3, hlt, hix, str_get, hg', a0, a1, a2, a3, a4, a5, a6, hw, hne, hne']
      first
        | exact hr _ (by simp [an]) (by simp)
        | (refine ih (i + 1) hd' _ g H K (by omega) ?_ ?_ ?_ ?_
           · simp [h0]
           · simp
           · intro l' h1 h2; exact hr l' (by simp [an, h1]) h2
           · intro l' h1 h2; exact he l' (by simp [an, h1]) h2)

theorem ref_Name (a : ByteArray) (ha : a.size ≤ 9223372036854775807) (H : GH) : ecall T f_hedgerowref01_Name [.str a] H = some (.bool (nameL a.data.toList), H) := by
  apply optW.eq
  rw [ecall_0 T_hedgerowref01_Name rfl (by simp [F_hedgerowref01_Name]), wp_fin1]
  have hsz : a.size = a.data.toList.length := by simp
  unfold nameL
  cases hl : a.data.toList with
  | nil =>
    have hs0 : a.size = 0 := by rw [hsz, hl]; rfl
    simp [F_hedgerowref01_Name, b_hedgerowref01_Name, run_loop, L0_hedgerowref01_Name, hs0]
  | cons c cs =>
    have hs1 : a.size = cs.length + 1 := by rw [hsz, hl]; rfl
    have hlt : (0 : Int) < a.size := by omega
    have hlt' : 0 < a.size := by omega
    have hix : gIx a.size (.int .i64 0) = some 0 := ix_ok (i := 0) (by omega)
    have hg0 : a.data[0]? = some c := by
      have : a.data.toList[0]? = some c := by rw [hl]; rfl
      simpa using this
    have hg1 : ∀ h : 0 < a.data.size, a.data[0]'h = c := fun h => by rw [Array.getElem?_eq_getElem h] at hg0; exact Option.some.inj hg0
    have hw1 : IntKind.i64.wrap 1 = 1 := by decide
    simp [F_hedgerowref01_Name, b_hedgerowref01_Name]
    rw [wp_seqK, wp_blockK, run_loop, wp_seqK]
    rcases cls c with h | h | h | h | h | h | h | h
    all_goals
      obtain ⟨a0, a1, a2, a3, a4, a5, a6, al, an⟩ := h
      simp only [decide_eq_true_eq, decide_eq_false_iff_not] at a0 a1 a2 a3 a4 a5 a6
      simp [L0_hedgerowref01_Name, hlt, hlt', hix, str_get, hg0, hg1, a0, a1, a2, a3, a4, a5, a6, hw1, al]
      try
        refine rname_loop a ha cs 1 (by simp [hl]) _ _ _ _ (by omega) ?_ ?_ ?_ ?_
        · simp
        · simp
        · intro l' h1 h2
          simp [h2]
          intro _ _; simpa using h1
        · intro l' h1 h2
          have h1' : ∀ x ∈ cs, inner x = true := by simpa using h1
          by_cases h16 : (a.size : Int) ≤ 16
          · have h16' : cs.length ≤ 15 := by omega
            have hge1 : (1 : Int) ≤ a.size := by omega
            simp [h2, h16, hge1, h16', an]
            first | exact h1' | exact ⟨by omega, h1'⟩ | (intro x hx; exact h1' x hx)
          · have h16' : ¬ cs.length ≤ 15 := by omega
            have hge1 : (1 : Int) ≤ a.size := by omega
            simp [h2, h16, hge1, h16']

theorem rplain_loop (a : ByteArray) (ha : a.size ≤ 9223372036854775807) (cs : List UInt8) : ∀ (i : Nat) (_ : a.data.toList.drop i = cs) (l : List GV) (g : Nat) (H : GH) (K : GExit × St → Prop)
    (_ : lget l 0 = .str a) (_ : lget l 3 = .int .i64 i)
    (_ : ∀ l', cs.all okc = false → lget l' 2 = .bool false → K (.ret, ⟨⟨l', g⟩, H⟩))
    (_ : ∀ l', cs.all okc = true → lget l' 0 = .str a → K (.exit 0, ⟨⟨l', g⟩, H⟩)),
    optW (erun T (.loop L0_hedgerowref01_plain) ⟨⟨l, g⟩, H⟩) K := by
  induction cs with
  | nil =>
    intro i hd l g H K h0 h3 hr he
    have hlen := drop_none hd
    have hge : ¬ ((i : Int) < a.size) := by
      have : a.size = a.data.toList.length := by simp
      omega
    rw [run_loop]
    simp [L0_hedgerowref01_plain, h0, h3, hge]
    exact he _ (by simp) (by simp [h0])
  | cons c cs ih =>
    intro i hd l g H K h0 h3 hr he
    obtain ⟨hg, hi, hd'⟩ := drop_some hd
    have hsz : a.size = a.data.toList.length := by simp
    have hlt : (i : Int) < a.size := by omega
    have hix := ix_ok hlt
    have hw : IntKind.i64.wrap ((i : Int) + 1) = (i : Int) + 1 := wrap_i64' (by omega) (by omega)
    have hg' : a.data[i]? = some c := by simpa using hg
    rw [run_loop, wp_seqK]
    by_cases h1 : (c.toNat : Int) < 32
    · have hk : okc c = false := by simp [okc]; omega
      have h1' : c.toNat < 32 := by omega
      simp [L0_hedgerowref01_plain, h0, h3, hlt, hix, str_get, hg', h1, h1']
      exact hr _ (by simp [hk]) (by simp)
    · have h1' : ¬ c.toNat < 32 := by omega
      by_cases h2 : (126 : Int) < c.toNat
      · have h2' : 126 < c.toNat := by omega
        have hk : okc c = false := by simp [okc]; omega
        simp [L0_hedgerowref01_plain, h0, h3, hlt, hix, str_get, hg', h1, h1', h2, h2']
        exact hr _ (by simp [hk]) (by simp)
      · have h2' : ¬ 126 < c.toNat := by omega
        have hk : okc c = true := by simp [okc]; omega
        simp [L0_hedgerowref01_plain, h0, h3, hlt, hix, str_get, hg', h1, h1', h2, h2', hw]
        refine ih (i + 1) hd' _ g H K ?_ ?_ ?_ ?_
        · simp [h0]
        · simp
        · intro l' h1 h2; exact hr l' (by simp [hk, h1]) h2
        · intro l' h1 h2; exact he l' (by simp [hk, h1]) h2

theorem ref_plain (a : ByteArray) (ha : a.size ≤ 9223372036854775807) (H : GH) : ecall T f_hedgerowref01_plain [.str a] H = some (.bool (plainL a.data.toList), H) := by
  apply optW.eq
  rw [ecall_0 T_hedgerowref01_plain rfl (by simp [F_hedgerowref01_plain]), wp_fin1]
  have hsz : a.size = a.data.toList.length := by simp
  have hp : plainL a.data.toList = (a.data.toList.all okc && decide (a.data.toList.length ≤ 64)) := rfl
  rw [hp]
  simp only [F_hedgerowref01_plain, b_hedgerowref01_plain]
  simp
  rw [wp_seqK, wp_blockK]
  refine rplain_loop a ha a.data.toList 0 (by simp) _ _ _ _ ?_ ?_ ?_ ?_
  · simp
  · simp
  · intro l' h1 h2
    simp [h2]
    intro h; simp [h] at h1
  · intro l' h1 h2
    by_cases h64 : (a.size : Int) ≤ 64
    · simp [h2, h64]; exact ⟨by simpa using h1, by omega⟩
    · simp [h2, h64]; intro _; omega

theorem rsplit_loop (s : ByteArray) (hs : s.size ≤ 1000) (cs : List UInt8) : ∀ (i : Nat) (_ : s.data.toList.drop i = cs) (l : List GV) (g : Nat) (H : GH) (K : GExit × St → Prop) (id : Nat) (done : List ByteArray) (cur : ByteArray)
    (_ : lget l 0 = .str s) (_ : lget l 1 = .int .u8 62) (_ : lget l 5 = .hsl id 0 (done.length + 1) 1 false) (_ : lget l 6 = .int .i64 i)
    (_ : H.objs[id]? = some (.row 9 ((done ++ [cur]).map .str))) (_ : H.bo ≤ id) (_ : H.bo ≤ H.objs.length) (_ : cur.size + cs.length ≤ s.size) (_ : done.length + cs.length ≤ s.size)
    (_ : ∀ (l' : List GV) (H' : GH) (id' : Nat) (parts : List ByteArray) (p : List UInt8) (ps : List (List UInt8)), splitL 62 cs = p :: ps → parts.map (fun b : ByteArray => b.data.toList) = done.map (fun b : ByteArray => b.data.toList) ++ (cur.data.toList ++ p) :: ps →
      lget l' 5 = .hsl id' 0 parts.length 1 false → H'.objs[id']? = some (.row 9 (parts.map .str)) → K (.exit 0, ⟨⟨l', g⟩, H'⟩)),
    optW (erun T (.loop L0_hedgerowref01_Split) ⟨⟨l, g⟩, H⟩) K := by
  induction cs with
  | nil =>
    intro i hd l g H K id done cur h0 h1 h5 h6 hob hbo hbl hc1 hc2 he
    have hlen := drop_none hd
    have hge : ¬ ((i : Int) < s.size) := by
      have : s.size = s.data.toList.length := by simp
      omega
    rw [run_loop]
    simp [L0_hedgerowref01_Split, h0, h6, hge]
    exact he _ _ id (done ++ [cur]) [] [] rfl (by simp) (by simp [h5]) hob
  | cons c cs ih =>
    intro i hd l g H K id done cur h0 h1 h5 h6 hob hbo hbl hc1 hc2 he
    obtain ⟨hg, hi, hd'⟩ := drop_some hd
    have hsz : s.size = s.data.toList.length := by simp
    have hlt : (i : Int) < s.size := by omega
    have hix := ix_ok hlt
    have hw : IntKind.i64.wrap ((i : Int) + 1) = (i : Int) + 1 := wrap_i64' (by omega) (by omega)
    have hg' : s.data[i]? = some c := by simpa using hg
    rw [run_loop, wp_seqK]
    simp only [List.length_cons] at hc1 hc2
    obtain ⟨p, ps, hsp⟩ : ∃ p ps, splitL 62 cs = p :: ps := by
      cases cs with
      | nil => exact ⟨_, _, rfl⟩
      | cons b l =>
        unfold splitL
        split
        · exact ⟨_, _, rfl⟩
        · split <;> exact ⟨_, _, rfl⟩
    by_cases hc : c = 62
    · subst hc
      have happ := gAppend_row (bytes := 16) (ag := false) (len := done.length + 1) (sz := 1) (x := .sl 1 [.str ⟨#[]⟩] .exact) (news := [.str ⟨#[]⟩]) hob (by simp [gNews]) (by simp) hbo (by simp [room]; omega) (by simp [maxLen]; omega) (by simp)
      simp [L0_hedgerowref01_Split, h0, h1, h5, h6, hlt, hix, str_get, hg', hw, gSetAll, happ]
      refine ih (i + 1) hd' _ g _ K H.objs.length (done ++ [cur]) ⟨#[]⟩ ?_ ?_ ?_ ?_ ?_ ?_ ?_ ?_ ?_ ?_
      · simp [h0]
      · simp [h1]
      · simp
      · simp
      · simp
      · exact hbl
      · first | omega | (simp; omega) | simp
      · have : (⟨#[]⟩ : ByteArray).size = 0 := rfl
        first | omega | (simp; omega) | simp
      · first | omega | (simp; omega) | simp
      · intro l' H' id' parts p' ps' e1 e2 e3 e4
        refine he l' H' id' parts [] (p' :: ps') (by simp [splitL, e1]) ?_ e3 e4
        rw [e2]; simp
    · have hcn : ¬ ((c.toNat : Int) = 62) := fun h => hc (u8_ne.1 (by simpa using h))
      have hcn' : ¬ (c.toNat = 62) := by omega
      have hwd : IntKind.i64.wrap (done.length : Int) = done.length := wrap_i64' (by omega) (by omega)
      have hgd : gIx (done.length + 1) (.int .i64 (done.length : Int)) = some done.length := by simp only [gIx]; rw [if_pos (by omega)]; simp
      have hob' : H.objs[id]? = some (.row 9 (done.map GV.str ++ [.str cur])) := by simpa using hob
      have hpt : (done.map GV.str ++ [.str cur])[done.length]? = some (.str cur) := by simp
      have hsp2 : ∀ x, setPart (done.map GV.str ++ [.str cur]) done.length [x] = some (done.map GV.str ++ [x]) := by
        intro x
        simp [setPart]
      have hgb : gBounds s.size true true false [.int .i64 (i : Int), .int .i64 ((i : Int) + 1)] = some (i, i + 1, none) := by
        have e1 : gBound s.size (.int .i64 ((i : Int) + 1)) = some (i + 1) := by simp only [gBound]; rw [if_pos (by omega)]; congr 1
        have e2 : gBound (i + 1) (.int .i64 (i : Int)) = some i := by simp only [gBound]; rw [if_pos (by omega)]; simp
        simp [gBounds, e1, e2]
      have hxs : (s.extract i (i + 1)).data.toList = [c] := by
        rw [Lib.extract_data, show i + 1 - i = 1 by omega, hd]; rfl
      have hxz : (s.extract i (i + 1)).size = 1 := by
        have hbz : ∀ b : ByteArray, b.size = b.data.toList.length := fun b => by simp
        rw [hbz, hxs]; rfl
      have hadd : gStr .add cur (s.extract i (i + 1)) = some (.str (cur ++ s.extract i (i + 1))) := by
        simp only [gStr]; rw [if_pos (by rw [hxz]; simp [maxLen]; omega)]
      have hidl : id < H.objs.length := (List.getElem?_eq_some_iff.1 hob).1
      simp [L0_hedgerowref01_Split, h0, h1, h5, h6, hlt, hix, str_get, hg', hw, hcn, hcn', hob', hwd, hgd, hpt, hsp2, hgb, hadd, hbo]
      refine ih (i + 1) hd' _ g _ K id done (cur ++ s.extract i (i + 1)) ?_ ?_ ?_ ?_ ?_ ?_ ?_ ?_ ?_ ?_
      · simp [h0]
      · simp [h1]
      · simp [h5]
      · simp
      · simp [hidl]
      · exact hbo
      · simp; omega
      · simp [hxz]; omega
      · omega
      · intro l' H' id' parts p' ps' e1 e2 e3 e4
        refine he l' H' id' parts (c :: p') ps' (by simp [splitL, e1, hc]) ?_ e3 e4
        rw [e2]; simp [hxs]; rw [hd]; rfl

theorem splitL_ne (c : UInt8) (l : List UInt8) : ∃ p ps, splitL c l = p :: ps := by
  cases l with
  | nil => exact ⟨_, _, rfl⟩
  | cons b l =>
    unfold splitL
    split
    · exact ⟨_, _, rfl⟩
    · split <;> exact ⟨_, _, rfl⟩

theorem ref_Split (s : ByteArray) (hs : s.size ≤ 1000) (H : GH) (hb : H.bo ≤ H.objs.length) : ∃ (id : Nat) (parts : List ByteArray) (H' : GH), parts.map (fun b : ByteArray => b.data.toList) = splitL 62 s.data.toList ∧ H'.objs[id]? = some (.row 9 (parts.map .str)) ∧
    ecall T f_hedgerowref01_Split [.str s, .int .u8 62] H = some (.hsl id 0 parts.length 1 false, H') := by
  have key : optW (ecall T f_hedgerowref01_Split [.str s, .int .u8 62] H) fun r => ∃ (id : Nat) (parts : List ByteArray) (H' : GH), parts.map (fun b : ByteArray => b.data.toList) = splitL 62 s.data.toList ∧ H'.objs[id]? = some (.row 9 (parts.map .str)) ∧ r = (.hsl id 0 parts.length 1 false, H') := by
    rw [ecall_0 T_hedgerowref01_Split rfl (by simp [F_hedgerowref01_Split]), wp_fin1]
    simp only [F_hedgerowref01_Split, b_hedgerowref01_Split]
    simp [gSetAll]
    rw [wp_seqK, wp_blockK]
    refine rsplit_loop s hs s.data.toList 0 (by simp) _ _ _ _ H.objs.length [] ⟨#[]⟩ ?_ ?_ ?_ ?_ ?_ ?_ ?_ ?_ ?_ ?_
    · simp
    · simp
    · simp
    · simp
    · simp [GH.newObj]
    · exact hb
    · simp [GH.newObj]; omega
    · have : (⟨#[]⟩ : ByteArray).size = 0 := rfl
      simp [this]
    · simp
    · intro l' H' id' parts p ps e1 e2 e3 e4
      simp [e3]
      refine ⟨id', parts, ?_, e4, rfl, rfl⟩
      rw [e1]; simpa using e2
  obtain ⟨v, h, id, parts, H', h1, h2, h3⟩ := key
  exact ⟨id, parts, H', h1, h2, by rw [h, h3]⟩

theorem splitL_sum (c : UInt8) : ∀ l : List UInt8, ((splitL c l).map List.length).sum + (splitL c l).length = l.length + 1
  | [] => rfl
  | b :: l => by
    have ih := splitL_sum c l
    obtain ⟨p, ps, h⟩ := splitL_ne c l
    unfold splitL
    rw [h] at ih ⊢
    simp only [List.map_cons, List.sum_cons, List.length_cons] at ih
    split
    · simp; omega
    · simp; omega

theorem link_short (l : List UInt8) (h : 60 < l.length) : (linkL l).isSome = false := by
  unfold linkL
  have hs := splitL_sum 62 l
  split
  · rename_i a b c hl
    rw [hl] at hs
    simp only [List.map_cons, List.map_nil, List.sum_cons, List.sum_nil, List.length_cons, List.length_nil] at hs
    split
    · rename_i hn
      exfalso
      simp only [nameL, Bool.and_eq_true, decide_eq_true_eq] at hn
      omega
    · rfl
  · rfl

theorem clean_lk (a b : Nat) (x y z : ByteArray) (c : Bool) : clean a b 100 (.tup [.agg [.str x, .str y, .str z], .bool c]) = some (.tup [.agg [.str x, .str y, .str z], .bool c]) := rfl

theorem ref_Link (s : ByteArray) (H : GH) : ∃ x y z, ecall T f_hedgerowref01_Link [.str s] H = some (.tup [.agg [.str x, .str y, .str z], .bool (linkL s.data.toList).isSome], H) := by
  have hsz : s.size = s.data.toList.length := by simp
  have key : ∃ x y z, optW (ecall T f_hedgerowref01_Link [.str s] H) fun r => r = (.tup [.agg [.str x, .str y, .str z], .bool (linkL s.data.toList).isSome], H) := by
    rw [ecall_1 T_hedgerowref01_Link rfl (by simp [F_hedgerowref01_Link])]
    by_cases h60 : (60 : Int) < s.size
    · refine ⟨⟨#[]⟩, ⟨#[]⟩, ⟨#[]⟩, ?_⟩
      have h60' : 60 < s.size := by omega
      rw [wp_fin1, link_short _ (by omega)]
      simp [F_hedgerowref01_Link, b_hedgerowref01_Link, h60, h60', gFill, setPart, clean_lk]
    · have h60' : ¬ 60 < s.size := by omega
      obtain ⟨id, parts, H', hp, hob, hsp⟩ := ref_Split s (by omega) H.over (by simp [GH.over])
      by_cases h3 : parts.length = 3
      · obtain ⟨a, b, c, rfl⟩ : ∃ a b c, parts = [a, b, c] := by
          match parts, h3 with
          | [a, b, c], _ => exact ⟨a, b, c, rfl⟩
        simp only [List.map_cons, List.map_nil, List.length_cons, List.length_nil] at hp hsp hob
        have hsum := splitL_sum 62 s.data.toList
        rw [← hp] at hsum
        simp only [List.map_cons, List.map_nil, List.sum_cons, List.sum_nil, List.length_cons, List.length_nil] at hsum
        have hlen : ∀ b : ByteArray, b.size = b.data.toList.length := fun b => by simp
        have ha := hlen a; have hb := hlen b; have hc := hlen c
        have hlk : (linkL s.data.toList).isSome = (nameL a.data.toList && nameL b.data.toList && nameL c.data.toList) := by
          unfold linkL
          rw [← hp]
          simp only
          cases hh : (nameL a.data.toList && nameL b.data.toList && nameL c.data.toList) <;> simp only [if_true, if_false, Bool.false_eq_true] <;> rfl
        have na := ref_Name a (by omega) H'
        have nb := ref_Name b (by omega) H'
        have nc := ref_Name c (by omega) H'
        rw [hlk]
        have e1 : (0 + 1 + 1 + 1 : Nat) = 3 := rfl
        rw [e1] at hsp
        cases xa : nameL a.data.toList <;> rw [xa] at na
        · refine ⟨⟨#[]⟩, ⟨#[]⟩, ⟨#[]⟩, ?_⟩
          rw [wp_fin1]
          simp [F_hedgerowref01_Link, b_hedgerowref01_Link, h60, h60', hsp, hob, gIx, na, gFill, setPart, clean_lk]
        · cases xb : nameL b.data.toList <;> rw [xb] at nb
          · refine ⟨⟨#[]⟩, ⟨#[]⟩, ⟨#[]⟩, ?_⟩
            rw [wp_fin1]
            simp [F_hedgerowref01_Link, b_hedgerowref01_Link, h60, h60', hsp, hob, gIx, na, nb, gFill, setPart, clean_lk]
          · cases xc : nameL c.data.toList <;> rw [xc] at nc
            · refine ⟨⟨#[]⟩, ⟨#[]⟩, ⟨#[]⟩, ?_⟩
              rw [wp_fin1]
              simp [F_hedgerowref01_Link, b_hedgerowref01_Link, h60, h60', hsp, hob, gIx, na, nb, nc, gFill, setPart, clean_lk]
            · refine ⟨a, c, b, ?_⟩
              rw [wp_fin1]
              simp [F_hedgerowref01_Link, b_hedgerowref01_Link, h60, h60', hsp, hob, gIx, na, nb, nc, gFill, setPart, clean_lk]
      · have hlk : (linkL s.data.toList).isSome = false := by
          unfold linkL
          rw [← hp]
          split
          · rename_i a b c h
            have := congrArg List.length h
            simp at this
            exact absurd this h3
          · rfl
        have h3' : ¬ ((parts.length : Int) = 3) := by omega
        refine ⟨⟨#[]⟩, ⟨#[]⟩, ⟨#[]⟩, ?_⟩
        rw [wp_fin1, hlk]
        simp [F_hedgerowref01_Link, b_hedgerowref01_Link, h60, h60', hsp, gFill, setPart, h3', h3, clean_lk]
  obtain ⟨x, y, z, h⟩ := key
  exact ⟨x, y, z, optW.eq h⟩

theorem ref_Right (k n : Int) (s : ByteArray) (hs : s.size ≤ 9223372036854775807) (H : GH) :
    ecall T f_hedgerowref01_Right [.agg [.int .i64 k, .int .i64 n, .str s]] H = some (.bool (rightV k n s.data.toList), H) := by
  apply optW.eq
  rw [ecall_0 T_hedgerowref01_Right rfl (by simp [F_hedgerowref01_Right]), wp_fin1]
  unfold rightV
  simp only [empty_iff]
  by_cases h0 : k = 0
  · subst h0
    by_cases hn : n = 0 <;> simp [F_hedgerowref01_Right, b_hedgerowref01_Right, hn]
  · by_cases h1 : k = 1
    · subst h1
      by_cases hn : n = 0
      · simp [F_hedgerowref01_Right, b_hedgerowref01_Right, hn]
      · by_cases hn1 : n = 1 <;> simp [F_hedgerowref01_Right, b_hedgerowref01_Right, hn, hn1]
    · by_cases h2 : k = 2
      · subst h2
        by_cases ha : -1099511627776 ≤ n
        · by_cases hb : n ≤ 1099511627776 <;> simp [F_hedgerowref01_Right, b_hedgerowref01_Right, ha, hb]
        · simp [F_hedgerowref01_Right, b_hedgerowref01_Right, ha]
      · by_cases h3 : k = 3
        · subst h3
          by_cases hn : n = 0 <;> simp [F_hedgerowref01_Right, b_hedgerowref01_Right, hn, ref_plain s hs]
        · by_cases h4 : k = 4
          · subst h4
            by_cases hn : n = 0 <;> simp [F_hedgerowref01_Right, b_hedgerowref01_Right, hn, ref_Name s hs]
          · by_cases h5 : k = 5
            · subst h5
              obtain ⟨x, y, z, hl⟩ := ref_Link s H
              by_cases hn : n = 0 <;> simp [F_hedgerowref01_Right, b_hedgerowref01_Right, hn, hl, setPart]
            · simp [F_hedgerowref01_Right, b_hedgerowref01_Right, h0, h1, h2, h3, h4, h5]

theorem itoa_len2 (n : Int) (h1 : -9999999999999999 ≤ n) (h2 : n ≤ 9999999999999999) : (Lib.itoa n).length ≤ 20 := by
  unfold Lib.itoa
  split
  · have := nDigits_le 16 n.natAbs (by omega) (by omega)
    simp [Lib.decDigits_length]; omega
  · have := nDigits_le 16 n.toNat (by omega) (by omega)
    simp [Lib.decDigits_length]; omega

theorem digits (N : Nat) : ∀ n : Int, n.natAbs = N → -9999999999999999 ≤ n → n ≤ 9999999999999999 → ∀ H : GH, ecall T f_hedgerowref01_Digits [.int .i64 n] H = some (.str ⟨(Lib.itoa n).toArray⟩, H) := by
  induction N using Nat.strongRecOn with
  | _ N ih =>
    intro n hN h1 h2 H
    apply optW.eq
    rw [ecall_0 T_hedgerowref01_Digits rfl (by simp [F_hedgerowref01_Digits]), wp_fin1]
    rw [itoa_rec]
    simp only [F_hedgerowref01_Digits, b_hedgerowref01_Digits]
    by_cases hn : n < 0
    · by_cases hn10 : -10 < n
      · have w1 : IntKind.i64.wrap (48 - n) = 48 - n := wrap_i64' (by omega) (by omega)
        have w2 : IntKind.u8.wrap (48 - n) = 48 - n := wrap_u8' (by omega) (by omega)
        have ha : gStr .add (⟨#[45]⟩ : ByteArray) ⟨#[UInt8.ofNat (48 - n).toNat]⟩ = _ := add_ok (by show (1 : Nat) + 1 ≤ _; omega)
        simp [hn, hn10, w1, w2, gSetAll, tb1, ha]
        apply ba_ext
        have : (48 - n).toNat = 48 + n.natAbs := by omega
        simp [this]
      · obtain ⟨m, hm⟩ : ∃ m : Nat, n = -(m : Int) := ⟨n.natAbs, by omega⟩
        have eq : n.tdiv 10 = -((m / 10 : Nat) : Int) := by rw [hm, Int.neg_tdiv]; simp
        have er : n.tmod 10 = -((m % 10 : Nat) : Int) := by rw [hm, Int.neg_tmod]; congr 1
        have hq : IntKind.i64.wrap (n.tdiv 10) = n.tdiv 10 := wrap_i64' (by omega) (by omega)
        have hi := ih (n.tdiv 10).natAbs (by omega) (n.tdiv 10) rfl (by omega) (by omega) H
        have w1 : IntKind.i64.wrap (48 - n.tmod 10) = 48 - n.tmod 10 := wrap_i64' (by omega) (by omega)
        have w2 : IntKind.u8.wrap (48 - n.tmod 10) = 48 - n.tmod 10 := wrap_u8' (by omega) (by omega)
        have hlen := itoa_len2 (n.tdiv 10) (by omega) (by omega)
        have ha : gStr .add ⟨(Lib.itoa (n.tdiv 10)).toArray⟩ ⟨#[UInt8.ofNat (48 - n.tmod 10).toNat]⟩ = _ := add_ok (by rw [ba_size]; show _ + (1 : Nat) ≤ _; omega)
        simp [hn, hn10, hq, hi, w1, w2, gSetAll, tb1, ha, gInt]
        apply ba_ext
        have : (48 - n.tmod 10).toNat = 48 + (n.tmod 10).natAbs := by omega
        simp [this]
    · by_cases hn10 : n < 10
      · have w1 : IntKind.i64.wrap (48 + n) = 48 + n := wrap_i64' (by omega) (by omega)
        have w2 : IntKind.u8.wrap (48 + n) = 48 + n := wrap_u8' (by omega) (by omega)
        simp [hn, hn10, w1, w2, gSetAll, tb1]
        have : (48 + n).toNat = 48 + n.natAbs := by omega
        rw [this]; exact UInt8.ofNat_add 48 _
      · obtain ⟨m, hm⟩ : ∃ m : Nat, n = (m : Int) := ⟨n.natAbs, by omega⟩
        have eq : n.tdiv 10 = ((m / 10 : Nat) : Int) := by rw [hm]; simp
        have er : n.tmod 10 = ((m % 10 : Nat) : Int) := by rw [hm]; exact (Int.ofNat_tmod m 10).symm
        have hq : IntKind.i64.wrap (n.tdiv 10) = n.tdiv 10 := wrap_i64' (by omega) (by omega)
        have hi := ih (n.tdiv 10).natAbs (by omega) (n.tdiv 10) rfl (by omega) (by omega) H
        have w1 : IntKind.i64.wrap (48 + n.tmod 10) = 48 + n.tmod 10 := wrap_i64' (by omega) (by omega)
        have w2 : IntKind.u8.wrap (48 + n.tmod 10) = 48 + n.tmod 10 := wrap_u8' (by omega) (by omega)
        have hlen := itoa_len2 (n.tdiv 10) (by omega) (by omega)
        have ha : gStr .add ⟨(Lib.itoa (n.tdiv 10)).toArray⟩ ⟨#[UInt8.ofNat (48 + n.tmod 10).toNat]⟩ = _ := add_ok (by rw [ba_size]; show _ + (1 : Nat) ≤ _; omega)
        simp [hn, hn10, hq, hi, w1, w2, gSetAll, tb1, ha, gInt]
        apply ba_ext
        have : (48 + n.tmod 10).toNat = 48 + (n.tmod 10).natAbs := by omega
        simp [this]

theorem ref_Digits (n : Int) (h1 : -9999999999999999 ≤ n) (h2 : n ≤ 9999999999999999) (H : GH) : ecall T f_hedgerowref01_Digits [.int .i64 n] H = some (.str ⟨(Lib.itoa n).toArray⟩, H) := digits _ n rfl h1 h2 H

theorem rtext_loop (s : ByteArray) (hs : s.size ≤ 1000) (kv nv : GV) (g1 : Nat) (cs : List UInt8) : ∀ (i : Nat) (_ : s.data.toList.drop i = cs) (l : List GV) (g : Nat) (H : GH) (K : GExit × St → Prop) (acc : ByteArray)
    (_ : lget l 1 = .lbox g1 [kv, nv, .str s]) (_ : lget l 3 = .str acc) (_ : lget l 4 = .int .i64 i) (_ : acc.size + 2 * cs.length ≤ 10000)
    (_ : ∀ (l' : List GV) (acc' : ByteArray), lget l' 3 = .str acc' → acc'.data.toList = acc.data.toList ++ quoL cs → K (.exit 1, ⟨⟨l', g⟩, H⟩)),
    optW (erun T (.loop L0_hedgerowref01_Text) ⟨⟨l, g⟩, H⟩) K := by
  induction cs with
  | nil =>
    intro i hd l g H K acc h1 h3 h4 hl he
    have hlen := drop_none hd
    have hge : ¬ ((i : Int) < s.size) := by
      have := bs_size s
      omega
    rw [run_loop]
    simp [L0_hedgerowref01_Text, h1, h4, hge]
    exact he _ acc (by simp [h3]) (by simp [quoL])
  | cons c cs ih =>
    intro i hd l g H K acc h1 h3 h4 hl he
    obtain ⟨hg, hi, hd'⟩ := drop_some hd
    obtain ⟨hgb, hxs, hxz⟩ := slice1 hd
    have hsz := bs_size s
    have hlt : (i : Int) < s.size := by omega
    have hix := ix_ok hlt
    have hw : IntKind.i64.wrap ((i : Int) + 1) = (i : Int) + 1 := wrap_i64' (by omega) (by omega)
    have hg' : s.data[i]? = some c := by simpa using hg
    simp only [List.length_cons] at hl
    rw [run_loop, wp_seqK]
    by_cases h39 : c = 39 ∨ c = 92
    · have a1 : gStr .add acc (⟨#[92]⟩ : ByteArray) = _ := add_ok (by show _ + (1 : Nat) ≤ _; omega)
      have z1 : (acc ++ (⟨#[92]⟩ : ByteArray)).size = acc.size + 1 := by
        rw [bs_size, bs_size acc]; simp
      have a2 : gStr .add (acc ++ (⟨#[92]⟩ : ByteArray)) (s.extract i (i + 1)) = _ := add_ok (by rw [hxz, z1]; omega)
      have z2 : (acc ++ (⟨#[92]⟩ : ByteArray) ++ s.extract i (i + 1)).size = acc.size + 2 := by
        rw [ByteArray.size_append, z1, hxz]
      rcases h39 with rfl | rfl
      · simp [L0_hedgerowref01_Text, h1, h3, h4, hlt, hix, str_get, hg', hw, gSetAll, tb1, a1, a2, hgb]
        refine ih (i + 1) hd' _ g H K (acc ++ (⟨#[92]⟩ : ByteArray) ++ s.extract i (i + 1)) ?_ ?_ ?_ (by rw [z2]; omega) ?_
        · simp [h1]
        · simp
        · simp
        · intro l' acc' e1 e2
          refine he l' acc' e1 ?_
          rw [e2, ByteArray.data_append, Array.toList_append, hxs]
          simp [quoL]
      · simp [L0_hedgerowref01_Text, h1, h3, h4, hlt, hix, str_get, hg', hw, gSetAll, tb1, a1, a2, hgb]
        refine ih (i + 1) hd' _ g H K (acc ++ (⟨#[92]⟩ : ByteArray) ++ s.extract i (i + 1)) ?_ ?_ ?_ (by rw [z2]; omega) ?_
        · simp [h1]
        · simp
        · simp
        · intro l' acc' e1 e2
          refine he l' acc' e1 ?_
          rw [e2, ByteArray.data_append, Array.toList_append, hxs]
          simp [quoL]
    · have hn1 : ¬ c = 39 := fun h => h39 (.inl h)
      have hn2 : ¬ c = 92 := fun h => h39 (.inr h)
      have n1 : ¬ c.toNat = 39 := fun h => hn1 (UInt8.toNat_inj.1 h)
      have n2 : ¬ c.toNat = 92 := fun h => hn2 (UInt8.toNat_inj.1 h)
      have b1 : ¬ (c.toNat : Int) = 39 := by omega
      have b2 : ¬ (c.toNat : Int) = 92 := by omega
      have a2 : gStr .add acc (s.extract i (i + 1)) = _ := add_ok (by rw [hxz]; omega)
      have z2 : (acc ++ s.extract i (i + 1)).size = acc.size + 1 := by rw [ByteArray.size_append, hxz]
      simp [L0_hedgerowref01_Text, h1, h3, h4, hlt, hix, str_get, hg', hw, a2, hgb, n1, n2, b1, b2]
      refine ih (i + 1) hd' _ g H K (acc ++ s.extract i (i + 1)) ?_ ?_ ?_ (by rw [z2]; omega) ?_
      · simp [h1]
      · simp
      · simp
      · intro l' acc' e1 e2
        refine he l' acc' e1 ?_
        rw [e2, ByteArray.data_append, Array.toList_append, hxs]
        simp [quoL, hn1, hn2]

theorem ref_Text (k n : Int) (s : ByteArray) (hs : s.size ≤ 1000) (H : GH) :
    ecall T f_hedgerowref01_Text [.agg [.int .i64 k, .int .i64 n, .str s]] H = some (.str ⟨(txtV k n s.data.toList).toArray⟩, H) := by
  apply optW.eq
  rw [ecall_0 T_hedgerowref01_Text rfl (by simp [F_hedgerowref01_Text]), wp_fin1]
  have hr := ref_Right k n s (by omega) H
  unfold txtV
  cases hrv : rightV k n s.data.toList <;> rw [hrv] at hr
  · simp [F_hedgerowref01_Text, b_hedgerowref01_Text, hr]
  · rcases right_cases hrv with ⟨rfl, h2, h3⟩ | ⟨rfl, h2, h3⟩ | ⟨rfl, h2, h3⟩ | ⟨rfl, h1, h2, h3⟩ | ⟨rfl, h2⟩ | ⟨rfl, h2⟩ | ⟨rfl, h2⟩
    · simp [F_hedgerowref01_Text, b_hedgerowref01_Text, hr, txtR]
    · subst h2
      simp [F_hedgerowref01_Text, b_hedgerowref01_Text, hr, txtR]
    · subst h2
      simp [F_hedgerowref01_Text, b_hedgerowref01_Text, hr, txtR]
    · simp [F_hedgerowref01_Text, b_hedgerowref01_Text, hr, txtR, ref_Digits n (by omega) (by omega)]
    · simp [F_hedgerowref01_Text, b_hedgerowref01_Text, hr, txtR]
      rw [wp_seqK, wp_blockK]
      refine rtext_loop s hs (.int .i64 3) (.int .i64 n) 0 s.data.toList 0 (by simp) _ _ _ _ (⟨#[39]⟩ : ByteArray) ?_ ?_ ?_ ?_ ?_
      · simp
      · simp
      · simp
      · have := bs_size s
        show (1 : Nat) + _ ≤ _
        omega
      · intro l' acc' e1 e2
        have hz : acc'.size ≤ 3000 := by
          rw [bs_size, e2]
          have := quo_len s.data.toList
          have := bs_size s
          simp; omega
        have a2 : gStr .add acc' (⟨#[39]⟩ : ByteArray) = _ := add_ok (by show _ + (1 : Nat) ≤ _; omega)
        simp [e1, a2]
        apply ba_ext
        rw [ByteArray.data_append, Array.toList_append, e2]
        simp
    · have a1 : gStr .add (⟨#[40]⟩ : ByteArray) s = _ := add_ok (by show (1 : Nat) + _ ≤ _; omega)
      have a2 : gStr .add ((⟨#[40]⟩ : ByteArray) ++ s) (⟨#[41]⟩ : ByteArray) = _ := add_ok (by rw [bs_size]; show _ + (1 : Nat) ≤ _; simp; omega)
      simp [F_hedgerowref01_Text, b_hedgerowref01_Text, hr, txtR, a1, a2]
      apply ba_ext; simp
    · have a1 : gStr .add (⟨#[91]⟩ : ByteArray) s = _ := add_ok (by show (1 : Nat) + _ ≤ _; omega)
      have a2 : gStr .add ((⟨#[91]⟩ : ByteArray) ++ s) (⟨#[93]⟩ : ByteArray) = _ := add_ok (by rw [bs_size]; show _ + (1 : Nat) ≤ _; simp; omega)
      simp [F_hedgerowref01_Text, b_hedgerowref01_Text, hr, txtR, a1, a2]
      apply ba_ext; simp

theorem number_loop (s : ByteArray) (hs : s.size ≤ 1000) (n : Nat) : ∀ (i : Nat) (_ : n + i = 15) (cs : List UInt8) (_ : s.data.toList.drop i = cs) (l : List GV) (g : Nat) (H : GH) (K : GExit × St → Prop) (acc : Int) (b : Nat)
    (_ : lget l 0 = .str s) (_ : lget l 3 = .int .i64 acc) (_ : lget l 5 = .int .i64 i) (_ : -(b : Int) ≤ acc) (_ : acc ≤ b) (_ : (b + 30) * 10 ^ n ≤ 1000000000000000000)
    (_ : ∀ (l' : List GV) (acc' : Int), lget l' 3 = .int .i64 acc' → lget l' 4 = lget l 4 → acc' = numI acc (cs.take n) → -1000000000000000000 ≤ acc' → acc' ≤ 1000000000000000000 → K (.exit 0, ⟨⟨l', g⟩, H⟩)),
    optW (erun T (.loop L0_hedgerowref01_number) ⟨⟨l, g⟩, H⟩) K := by
  have hsz := bs_size s
  induction n with
  | zero =>
    intro i hi cs hd l g H K acc b h0 h3 h5 hb1 hb2 hb he
    have hi15 : i = 15 := by omega
    subst hi15
    rw [run_loop]
    have hbb : b ≤ 1000000000000000000 := by simp at hb; omega
    by_cases hlt : (15 : Int) < s.size
    · have hlt' : 15 < s.size := by omega
      simp at h5
      simp [L0_hedgerowref01_number, h0, h5, hlt, hlt']
      exact he _ acc (by simp [h3]) (by simp) (by simp [numI]) (by omega) (by omega)
    · have hlt' : ¬ 15 < s.size := by omega
      simp at h5
      simp [L0_hedgerowref01_number, h0, h5, hlt, hlt']
      exact he _ acc (by simp [h3]) (by simp) (by simp [numI]) (by omega) (by omega)
  | succ n ih =>
    intro i hi cs hd l g H K acc b h0 h3 h5 hb1 hb2 hb he
    have hp : 1 ≤ 10 ^ n := Nat.one_le_pow _ _ (by omega)
    have hb10 : (b + 30) * 10 ≤ 1000000000000000000 := by
      refine Nat.le_trans (Nat.mul_le_mul_left _ ?_) hb
      rw [Nat.pow_succ]; omega
    cases cs with
    | nil =>
      have hlen := drop_none hd
      have hge : ¬ ((i : Int) < s.size) := by omega
      have hge' : ¬ (i < s.size) := by omega
      rw [run_loop]
      simp [L0_hedgerowref01_number, h0, h5, hge, hge']
      exact he _ acc (by simp [h3]) (by simp) (by simp [numI]) (by omega) (by omega)
    | cons c cs =>
      obtain ⟨hg, hi2, hd'⟩ := drop_some hd
      have hlt : (i : Int) < s.size := by omega
      have hlt' : i < s.size := by omega
      have h15 : (i : Int) < 15 := by omega
      have h15' : i < 15 := by omega
      have hix := ix_ok hlt
      have hg' : s.data[i]? = some c := by simpa using hg
      have hgd : ∀ h : i < s.data.size, s.data[i]'h = c := fun h => by rw [Array.getElem?_eq_getElem h] at hg'; exact Option.some.inj hg'
      have hc := c.toNat_lt
      have hw : IntKind.i64.wrap ((i : Int) + 1) = (i : Int) + 1 := wrap_i64' (by omega) (by omega)
      have w1 : IntKind.i64.wrap (acc * 10) = acc * 10 := wrap_i64' (by omega) (by omega)
      have w2 : IntKind.i64.wrap (c.toNat : Int) = c.toNat := wrap_i64' (by omega) (by omega)
      have w3 : IntKind.i64.wrap (acc * 10 + (c.toNat : Int)) = acc * 10 + c.toNat := wrap_i64' (by omega) (by omega)
      have w4 : IntKind.i64.wrap (acc * 10 + (c.toNat : Int) - 48) = acc * 10 + c.toNat - 48 := wrap_i64' (by omega) (by omega)
      rw [run_loop, wp_seqK]
      simp [L0_hedgerowref01_number, h0, h3, h5, hlt, hlt', h15, h15', hix, str_get, hg', hgd, w1, w2, w3, w4, hw]
      refine ih (i + 1) (by omega) cs hd' _ g H K (acc * 10 + c.toNat - 48) (b * 10 + 207) ?_ ?_ ?_ (by omega) (by omega) ?_ ?_
      · simp [h0]
      · simp
      · simp
      · rw [Nat.pow_succ, Nat.mul_comm (10 ^ n) 10, ← Nat.mul_assoc] at hb
        exact Nat.le_trans (Nat.mul_le_mul_right _ (by omega)) hb
      · intro l' acc' e1 e2 e3 e4 e5
        refine he l' acc' e1 (by rw [e2]; simp) ?_ e4 e5
        rw [e3]; rfl

theorem ref_number (s : ByteArray) (hs : s.size ≤ 1000) (hne : s.data.toList ≠ []) (H : GH) : ecall T f_hedgerowref01_number [.str s] H = some (.int .i64 (numR s.data.toList), H) := by
  apply optW.eq
  rw [ecall_0 T_hedgerowref01_number rfl (by simp [F_hedgerowref01_number]), wp_fin1]
  have hsz := bs_size s
  obtain ⟨c, r, hcr⟩ : ∃ c r, s.data.toList = c :: r := by
    cases hh : s.data.toList with
    | nil => exact absurd hh hne
    | cons c r => exact ⟨c, r, rfl⟩
  have hs1 : s.size = r.length + 1 := by rw [hsz, hcr]; rfl
  have hix : gIx s.size (.int .i64 0) = some 0 := ix_ok (i := 0) (by omega)
  have hg0 : s.data[0]? = some c := by
    have : s.data.toList[0]? = some c := by rw [hcr]; rfl
    simpa using this
  have hgd : ∀ h : 0 < s.data.size, s.data[0]'h = c := fun h => by rw [Array.getElem?_eq_getElem h] at hg0; exact Option.some.inj hg0
  simp only [F_hedgerowref01_number, b_hedgerowref01_number]
  rw [hcr]
  by_cases h45 : c = 45
  · subst h45
    have e1 : gBound s.size (.int .i64 1) = some 1 := by simp only [gBound]; rw [if_pos (by omega)]; rfl
    have hgb : gBounds s.size true false false [.int .i64 1] = some (1, s.size, none) := by simp [gBounds, e1]
    have hx : (s.extract 1 s.size).data.toList = r := by
      rw [Lib.extract_data, hcr, List.drop_one, List.tail_cons, List.take_of_length_le (by omega)]
    have hxz : (s.extract 1 s.size).size = r.length := by rw [bs_size, hx]
    have w0 : IntKind.i64.wrap (-1) = -1 := by decide
    simp [hix, str_get, hg0, hgd, hgb]
    rw [wp_seqK, wp_blockK]
    refine number_loop (s.extract 1 s.size) (by omega) 15 0 rfl r (by rw [hx]; rfl) _ _ _ _ 0 0 ?_ ?_ ?_ (by omega) (by omega) (by omega) ?_
    · simp
    · simp
    · simp
    · intro l' acc' e1 e2 e3 e4 e5
      have w1 : IntKind.i64.wrap (acc' * -1) = -acc' := by rw [wrap_i64' (by omega) (by omega)]; omega
      have w2 : IntKind.i64.wrap (-acc') = -acc' := wrap_i64' (by omega) (by omega)
      have hnum : numR (45 :: r) = -acc' := by rw [e3]; simp [numR]
      simp at e2
      simp [e1, e2, w1, w2, hnum]
  · have n1 : ¬ c.toNat = 45 := fun h => h45 (UInt8.toNat_inj.1 h)
    have m1 : ¬ (c.toNat : Int) = 45 := by omega
    simp [hix, str_get, hg0, hgd, n1, m1]
    rw [wp_seqK, wp_blockK]
    refine number_loop s hs 15 0 rfl (c :: r) (by rw [hcr]; rfl) _ _ _ _ 0 0 ?_ ?_ ?_ (by omega) (by omega) (by omega) ?_
    · simp
    · simp
    · simp
    · intro l' acc' e1 e2 e3 e4 e5
      have w1 : IntKind.i64.wrap acc' = acc' := wrap_i64' (by omega) (by omega)
      have hnum : numR (c :: r) = acc' := by rw [e3]; simp only [numR, if_neg h45]
      simp at e2
      simp [e1, e2, w1, hnum]

theorem bare_loop (s : ByteArray) (hs : s.size ≤ 1000) (n : Nat) : ∀ (cs : List UInt8) (_ : cs.length ≤ n) (i : Nat) (_ : s.data.toList.drop i = cs) (l : List GV) (g : Nat) (H : GH) (K : GExit × St → Prop) (acc : ByteArray)
    (_ : lget l 4 = .str s) (_ : lget l 5 = .str acc) (_ : lget l 6 = .int .i64 i) (_ : acc.size + cs.length ≤ 10000)
    (_ : ∀ (l' : List GV) (acc' : ByteArray), lget l' 0 = lget l 0 → lget l' 2 = lget l 2 → lget l' 3 = lget l 3 → lget l' 4 = .str s → lget l' 5 = .str acc' → acc'.data.toList = acc.data.toList ++ unqL cs → K (.exit 0, ⟨⟨l', g⟩, H⟩)),
    optW (erun T (.loop L0_hedgerowref01_Parse) ⟨⟨l, g⟩, H⟩) K := by
  have hsz := bs_size s
  have nil_case : ∀ (i : Nat) (_ : s.data.toList.drop i = []) (l : List GV) (g : Nat) (H : GH) (K : GExit × St → Prop) (acc : ByteArray)
    (_ : lget l 4 = .str s) (_ : lget l 5 = .str acc) (_ : lget l 6 = .int .i64 i)
    (_ : ∀ (l' : List GV) (acc' : ByteArray), lget l' 0 = lget l 0 → lget l' 2 = lget l 2 → lget l' 3 = lget l 3 → lget l' 4 = .str s → lget l' 5 = .str acc' → acc'.data.toList = acc.data.toList ++ unqL [] → K (.exit 0, ⟨⟨l', g⟩, H⟩)),
    optW (erun T (.loop L0_hedgerowref01_Parse) ⟨⟨l, g⟩, H⟩) K := by
    intro i hd l g H K acc h4 h5 h6 he
    have hlen := drop_none hd
    have hge : ¬ ((i : Int) < s.size) := by omega
    have hge' : ¬ (i < s.size) := by omega
    rw [run_loop]
    simp [L0_hedgerowref01_Parse, h4, h6, hge, hge']
    exact he _ acc (by simp) (by simp) (by simp) (by simp [h4]) (by simp [h5]) (by simp [unqL])
  induction n with
  | zero =>
    intro cs hn i hd l g H K acc h4 h5 h6 hl he
    have : cs = [] := List.eq_nil_of_length_eq_zero (by omega)
    subst this
    exact nil_case i hd l g H K acc h4 h5 h6 he
  | succ n ih =>
    intro cs hn i hd l g H K acc h4 h5 h6 hl he
    cases cs with
    | nil => exact nil_case i hd l g H K acc h4 h5 h6 he
    | cons c cs =>
      obtain ⟨hg, hi, hd'⟩ := drop_some hd
      obtain ⟨hgb, hxs, hxz⟩ := slice1 hd
      have hlt : (i : Int) < s.size := by omega
      have hlt' : i < s.size := by omega
      have hix := ix_ok hlt
      have hg' : s.data[i]? = some c := by simpa using hg
      have hgd : ∀ h : i < s.data.size, s.data[i]'h = c := fun h => by rw [Array.getElem?_eq_getElem h] at hg'; exact Option.some.inj hg'
      have hw : IntKind.i64.wrap ((i : Int) + 1) = (i : Int) + 1 := wrap_i64' (by omega) (by omega)
      have hw2 : IntKind.i64.wrap ((i : Int) + 1 + 1) = (i : Int) + 1 + 1 := wrap_i64' (by omega) (by omega)
      simp only [List.length_cons] at hn hl
      have a2 : gStr .add acc (s.extract i (i + 1)) = _ := add_ok (by rw [hxz]; omega)
      have z2 : (acc ++ s.extract i (i + 1)).size = acc.size + 1 := by rw [ByteArray.size_append, hxz]
      rw [run_loop, wp_seqK]
      by_cases h92 : c = 92
      · subst h92
        have n92 : (92 : UInt8).toNat = 92 := rfl
        cases cs with
        | nil =>
          have hle := drop_none hd'
          have hlt2 : ¬ ((i : Int) + 1 < s.size) := by omega
          have hlt2' : ¬ (i + 1 < s.size) := by omega
          simp [L0_hedgerowref01_Parse, h4, h5, h6, hlt, hlt', hix, str_get, hg', hgd, hw, hlt2, hlt2', a2, hgb]
          refine ih [] (by simp) (i + 1) hd' _ g H K (acc ++ s.extract i (i + 1)) ?_ ?_ ?_ (by rw [z2]; simp; omega) ?_
          · simp [h4]
          · simp
          · simp
          · intro l' acc' e0 e2 e3 e4 e5 e6
            refine he l' acc' (by rw [e0]; simp) (by rw [e2]; simp) (by rw [e3]; simp) e4 e5 ?_
            rw [e6, ByteArray.data_append, Array.toList_append, hxs]
            simp [unqL]
        | cons d r =>
          obtain ⟨hg2, hi2, hd2⟩ := drop_some hd'
          obtain ⟨hgb2, hxs2, hxz2⟩ := slice1 hd'
          have hc1 : ((i + 1 : Nat) : Int) = (i : Int) + 1 := by omega
          rw [hc1] at hgb2
          have hlt2 : ((i : Int) + 1 < s.size) := by omega
          have hlt2' : (i + 1 < s.size) := by omega
          have a3 : gStr .add acc (s.extract (i + 1) (i + 1 + 1)) = _ := add_ok (by rw [hxz2]; omega)
          have z3 : (acc ++ s.extract (i + 1) (i + 1 + 1)).size = acc.size + 1 := by rw [ByteArray.size_append, hxz2]
          simp only [List.length_cons] at hn hl
          simp [L0_hedgerowref01_Parse, h4, h5, h6, hlt, hlt', hix, str_get, hg', hgd, hw, hw2, hlt2, hlt2', a3, hgb2]
          refine ih r (by omega) (i + 2) hd2 _ g H K (acc ++ s.extract (i + 1) (i + 1 + 1)) ?_ ?_ ?_ (by rw [z3]; omega) ?_
          · simp [h4]
          · simp
          · simp; omega
          · intro l' acc' e0 e2 e3 e4 e5 e6
            refine he l' acc' (by rw [e0]; simp) (by rw [e2]; simp) (by rw [e3]; simp) e4 e5 ?_
            rw [e6, ByteArray.data_append, Array.toList_append, hxs2]
            simp [unqL]
      · have n1 : ¬ c.toNat = 92 := fun h => h92 (UInt8.toNat_inj.1 h)
        have m1 : ¬ (c.toNat : Int) = 92 := by omega
        simp [L0_hedgerowref01_Parse, h4, h5, h6, hlt, hlt', hix, str_get, hg', hgd, hw, n1, m1, a2, hgb]
        refine ih cs (by omega) (i + 1) hd' _ g H K (acc ++ s.extract i (i + 1)) ?_ ?_ ?_ (by rw [z2]; omega) ?_
        · simp [h4]
        · simp
        · simp
        · intro l' acc' e0 e2 e3 e4 e5 e6
          refine he l' acc' (by rw [e0]; simp) (by rw [e2]; simp) (by rw [e3]; simp) e4 e5 ?_
          rw [e6, ByteArray.data_append, Array.toList_append, hxs]
          cases cs with
          | nil => simp [unqL]
          | cons d r => simp [unqL, h92]

theorem cand_loop (s : ByteArray) (all : List (Int × Int × List UInt8)) (t : Tag) (hall : all.length ≤ 100) (hsm : ∀ v ∈ all, v.2.2.length ≤ 1000) (g2 : Nat) (vs : List (Int × Int × List UInt8)) : ∀ (j : Nat) (_ : all.drop j = vs) (l : List GV) (g : Nat) (H : GH) (K : GExit × St → Prop)
    (_ : lget l 0 = .str s) (_ : lget l 2 = .lbox g2 [.int .i64 0, .int .i64 0, .str ⟨#[]⟩]) (_ : lget l 63 = .sl 3 (all.map val3) t) (_ : lget l 64 = .int .i64 all.length) (_ : lget l 65 = .int .i64 j)
    (_ : ∀ (l' : List GV) (g' : Nat) v, vs.find? (fun v => right3 v && (txt3 v == s.data.toList)) = some v → lget l' 2 = .lbox g2 (val3 v).cells → lget l' 3 = .bool true → K (.ret, ⟨⟨l', g'⟩, H⟩))
    (_ : ∀ (l' : List GV) (g' : Nat), vs.find? (fun v => right3 v && (txt3 v == s.data.toList)) = none → lget l' 2 = .lbox g2 [.int .i64 0, .int .i64 0, .str ⟨#[]⟩] → K (.exit 2, ⟨⟨l', g'⟩, H⟩)),
    optW (erun T (.loop L1_hedgerowref01_Parse) ⟨⟨l, g⟩, H⟩) K := by
  induction vs with
  | nil =>
    intro j hd l g H K h0 h2 h63 h64 h65 hr he
    have hle : all.length ≤ j := by simpa using hd
    have hge : ¬ ((j : Int) < all.length) := by omega
    have hge' : ¬ (j < all.length) := by omega
    rw [run_loop]
    simp [L1_hedgerowref01_Parse, h64, h65, hge, hge']
    exact he _ g rfl (by simp [h2])
  | cons v vs ih =>
    intro j hd l g H K h0 h2 h63 h64 h65 hr he
    have hj : j < all.length := by
      rcases Nat.lt_or_ge j all.length with h1 | h1
      · exact h1
      · rw [List.drop_eq_nil_of_le h1] at hd; cases hd
    have hgv : all[j]? = some v := by
      have := congrArg (·[0]?) hd
      simpa using this
    have hd' : all.drop (j + 1) = vs := by
      have := congrArg List.tail hd
      simpa using this
    have hvm : v ∈ all := List.mem_of_getElem? hgv
    have hlt : (j : Int) < all.length := by omega
    have hix : gIx all.length (.int .i64 (j : Int)) = some j := by simp only [gIx]; rw [if_pos (by omega)]; simp
    have hw : IntKind.i64.wrap ((j : Int) + 1) = (j : Int) + 1 := wrap_i64' (by omega) (by omega)
    obtain ⟨k, n, b⟩ := v
    have hgd : ∀ h : j < all.length, all[j]'h = (k, n, b) := fun h => by rw [List.getElem?_eq_getElem h] at hgv; exact Option.some.inj hgv
    have hbs : (⟨b.toArray⟩ : ByteArray).size ≤ 1000 := by rw [ba_size]; exact hsm _ hvm
    have hR := ref_Right k n ⟨b.toArray⟩ (by omega) H
    have hT := ref_Text k n ⟨b.toArray⟩ hbs H
    have hdt : (⟨b.toArray⟩ : ByteArray).data.toList = b := by simp
    rw [hdt] at hR hT
    rw [run_loop, wp_seqK]
    cases hrv : rightV k n b <;> rw [hrv] at hR
    · have hp : (right3 (k, n, b) && (txt3 (k, n, b) == s.data.toList)) = false := by simp [right3, hrv]
      simp [L1_hedgerowref01_Parse, h0, h63, h64, h65, hlt, hj, hix, hgv, hgd, val3, setPart, hR, hw]
      refine ih (j + 1) hd' _ _ H K ?_ ?_ ?_ ?_ ?_ ?_ ?_
      · simp [h0]
      · simp [h2]
      · simp [h63]
      · simp [h64]
      · simp
      · intro l' g' w e1 e2 e3; exact hr l' g' w (by rw [List.find?_cons, hp]; exact e1) e2 e3
      · intro l' g' e1 e2; exact he l' g' (by rw [List.find?_cons, hp]; exact e1) e2
    · by_cases ht : txtV k n b = s.data.toList
      · have ht' : (⟨(txtV k n b).toArray⟩ : ByteArray) = s := ((list_iff s _).1 ht.symm).symm
        have hp : (right3 (k, n, b) && (txt3 (k, n, b) == s.data.toList)) = true := by simp [right3, hrv, txt3, ht]
        simp [L1_hedgerowref01_Parse, h0, h2, h63, h64, h65, hlt, hj, hix, hgv, hgd, val3, setPart, hR, hT, ht']
        refine hr _ _ (k, n, b) (by rw [List.find?_cons, hp]) ?_ ?_
        · simp [val3]
        · simp
      · have ht' : ¬ (⟨(txtV k n b).toArray⟩ : ByteArray) = s := fun h => ht ((list_iff s _).2 h.symm).symm
        have hp : (right3 (k, n, b) && (txt3 (k, n, b) == s.data.toList)) = false := by simp [right3, hrv, txt3, ht]
        simp [L1_hedgerowref01_Parse, h0, h63, h64, h65, hlt, hj, hix, hgv, hgd, val3, setPart, hR, hT, ht', hw]
        refine ih (j + 1) hd' _ _ H K ?_ ?_ ?_ ?_ ?_ ?_ ?_
        · simp [h0]
        · simp [h2]
        · simp [h63]
        · simp [h64]
        · simp
        · intro l' g' w e1 e2 e3; exact hr l' g' w (by rw [List.find?_cons, hp]; exact e1) e2 e3
        · intro l' g' e1 e2; exact he l' g' (by rw [List.find?_cons, hp]; exact e1) e2

theorem unq_len : ∀ (n : Nat) (l : List UInt8), l.length ≤ n → (unqL l).length ≤ l.length := by
  intro n
  induction n with
  | zero => intro l h; have : l = [] := List.eq_nil_of_length_eq_zero (by omega); subst this; simp [unqL]
  | succ n ih =>
    intro l h
    match l with
    | [] => simp [unqL]
    | [_] => simp [unqL]
    | c :: d :: r =>
      unfold unqL
      simp only [List.length_cons] at h
      split
      · have := ih r (by omega); simp; omega
      · have := ih (d :: r) (by simp; omega); simp at this ⊢; omega

theorem ref_Parse (s : ByteArray) (hs : s.size ≤ 200) (H : GH) : ecall T f_hedgerowref01_Parse [.str s] H = some (opt3 (parseV s.data.toList), H) := by
  apply optW.eq
  rw [ecall_0 T_hedgerowref01_Parse rfl (by simp [F_hedgerowref01_Parse]), wp_fin1]
  have hsz := bs_size s
  simp only [F_hedgerowref01_Parse, b_hedgerowref01_Parse]
  by_cases h0 : s = ⟨#[]⟩
  · subst h0
    have hp : parseV (⟨#[]⟩ : ByteArray).data.toList = none := by
      unfold parseV; rw [if_neg (by rintro ⟨h, _⟩; exact h rfl)]
    rw [hp]
    simp [gFill, setPart, opt3, val3]
  · have hl : s.data.toList ≠ [] := fun h => h0 ((empty_iff s).1 h)
    have h200 : ¬ ((200 : Int) < s.size) := by omega
    have h200' : ¬ (200 < s.size) := by omega
    have hnum := ref_number s (by omega) hl H
    have hfc := find_cand hl
    -- what follows, once the text between is there
    have tail : ∀ (inner : ByteArray) (_ : inner.data.toList = mid s.data.toList) (l : List GV) (_ : lget l 0 = .str s) (_ : lget l 2 = .lbox 0 [.int .i64 0, .int .i64 0, .str ⟨#[]⟩]) (_ : lget l 4 = .str inner) (_ : lget l 5 = .str ⟨#[]⟩) (_ : lget l 6 = .int .i64 0) (K : GExit × St → Prop)
        (_ : ∀ (l' : List GV) (bare : ByteArray), lget l' 0 = .str s → lget l' 2 = .lbox 0 [.int .i64 0, .int .i64 0, .str ⟨#[]⟩] → lget l' 4 = .str inner → lget l' 5 = .str bare → bare = ⟨(unqL (mid s.data.toList)).toArray⟩ → K (.exit 0, ⟨⟨l', 1⟩, H⟩)), optW (erun T (.loop L0_hedgerowref01_Parse) ⟨⟨l, 1⟩, H⟩) K := by
      intro inner hin l e0 e2 e4 e5 e6 K he
      have hil : inner.size ≤ 200 := by
        rw [bs_size, hin]; simp [mid]; omega
      refine bare_loop inner (by omega) 1000 inner.data.toList (by rw [← bs_size]; omega) 0 rfl l 1 H K ⟨#[]⟩ e4 e5 (by simpa using e6) (by have : (⟨#[]⟩ : ByteArray).size = 0 := rfl; rw [this, ← bs_size]; omega) ?_
      intro l' acc' f0 f2 f3 f4 f5 f6
      refine he l' acc' (by rw [f0, e0]) (by rw [f2, e2]) f4 f5 ?_
      apply ba_ext
      rw [f6, hin]; simp
    have hml : (mid s.data.toList).length ≤ 200 := by simp [mid]; omega
    have hul := unq_len _ (mid s.data.toList) (Nat.le_refl _)
    have hsmall : ∀ v ∈ cand s.data.toList, v.2.2.length ≤ 1000 := by
      intro v hv
      simp only [cand, List.mem_cons, List.not_mem_nil, or_false] at hv
      rcases hv with rfl | rfl | rfl | rfl | rfl | rfl | rfl <;> simp only [List.length_nil] <;> omega
    by_cases h1 : (1 : Int) < s.size
    · have h1' : 1 < s.size := by omega
      have hw : IntKind.i64.wrap ((s.size : Int) - 1) = (s.size : Int) - 1 := wrap_i64' (by omega) (by omega)
      obtain ⟨hgb, hmid⟩ := mid_slice s (by omega) (by omega)
      simp [h0, h200, h200', h1, h1', hw, hgb, hmid]
      rw [wp_seqK, wp_blockK]
      refine tail ⟨(mid s.data.toList).toArray⟩ (by simp) _ ?_ ?_ ?_ ?_ ?_ _ ?_
      · simp
      · simp
      · simp
      · simp
      · simp
      · intro l' bare f0 f2 f4 f5 f6
        subst f6
        simp [f0, f4, f5, hnum, gFill, setPart, gSetAll]
        rw [wp_seqK, wp_blockK]
        refine cand_loop s (cand s.data.toList) .exact (by simp [cand]) hsmall 0 (cand s.data.toList) 0 rfl _ _ _ _ ?_ ?_ ?_ ?_ ?_ ?_ ?_
        · simp [f0]
        · simp [f2]
        · simp [cand, val3]
        · simp [cand]
        · simp
        · intro l'' g' v e1 e2 e3
          have hpv : parseV s.data.toList = some v := hfc.symm.trans e1
          rw [hpv]
          simp [e2, e3, opt3, val3]
        · intro l'' g' e1 e2
          have hpv : parseV s.data.toList = none := hfc.symm.trans e1
          rw [hpv]
          simp [e2, opt3, val3, gFill, setPart]
    · have h1' : ¬ 1 < s.size := by omega
      have hm0 : mid s.data.toList = [] := by
        have : s.data.toList.length ≤ 1 := by omega
        simp only [mid]
        rw [show s.data.toList.length - 2 = 0 by omega, List.take_zero]
      simp [h0, h200, h200', h1, h1']
      rw [wp_seqK, wp_blockK]
      refine tail ⟨#[]⟩ (by rw [hm0]) _ ?_ ?_ ?_ ?_ ?_ _ ?_
      · simp
      · simp
      · simp
      · simp
      · simp
      · intro l' bare f0 f2 f4 f5 f6
        subst f6
        have hmm : (⟨#[]⟩ : ByteArray) = ⟨(mid s.data.toList).toArray⟩ := by rw [hm0]
        rw [hmm] at f4
        simp [f0, f4, f5, hnum, gFill, setPart, gSetAll]
        rw [wp_seqK, wp_blockK]
        refine cand_loop s (cand s.data.toList) .exact (by simp [cand]) hsmall 0 (cand s.data.toList) 0 rfl _ _ _ _ ?_ ?_ ?_ ?_ ?_ ?_ ?_
        · simp [f0]
        · simp [f2]
        · simp [cand, val3]
        · simp [cand]
        · simp
        · intro l'' g' v e1 e2 e3
          have hpv : parseV s.data.toList = some v := hfc.symm.trans e1
          rw [hpv]
          simp [e2, e3, opt3, val3]
        · intro l'' g' e1 e2
          have hpv : parseV s.data.toList = none := hfc.symm.trans e1
          rw [hpv]
          simp [e2, opt3, val3, gFill, setPart]

end Go.Proofs.YtlmiihdkgaljoaaGreatDoor
