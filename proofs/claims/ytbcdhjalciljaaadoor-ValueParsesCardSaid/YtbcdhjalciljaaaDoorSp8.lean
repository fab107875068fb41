/- Own work, over the shadow machine: VSpec8. -/
import Derived.Test.YtbcdhjalciljaaaDoorSp7
set_option linter.all false
namespace Go.Proofs.YtbcdhjalciljaaaDoor
open Go.Sh
set_option maxRecDepth 100000

theorem empty_iff (s : ByteArray) : s.data.toList = [] ↔ s = ⟨#[]⟩ := by
  constructor
  · intro h
    rcases s with ⟨d⟩
    have : d = #[] := Array.toList_inj.1 h
    rw [this]
  · rintro rfl; rfl

theorem value_Right (k n : Int) (s : ByteArray) (hs : s.size ≤ 1000) (hn1 : -9223372036854775808 ≤ n) (hn2 : n ≤ 9223372036854775807) (H : GH) :
    ecall T f_value_Right [.agg [.int .i64 k, .int .i64 n, .str s]] H = some (.bool (rightV k n s.data.toList), H) := by
  apply optW.eq
  rw [ecall_0 T_value_Right rfl (by simp [F_value_Right]), wp_fin1]
  unfold rightV
  simp only [empty_iff]
  by_cases h0 : k = 0
  · subst h0
    by_cases hn : n = 0 <;> simp [F_value_Right, b_value_Right, hn]
  · by_cases h1 : k = 1
    · subst h1
      obtain ⟨x, hx, hx0⟩ := andnot1 n hn1 hn2
      by_cases hx1 : x = 0
      · have := hx0.1 hx1
        simp [F_value_Right, b_value_Right, hx, hx1, this]
      · have : ¬ (n = 0 ∨ n = 1) := fun h => hx1 (hx0.2 h)
        simp [F_value_Right, b_value_Right, hx, hx1, this]
    · by_cases h2 : k = 2
      · subst h2
        by_cases ha : -1099511627776 ≤ n
        · by_cases hb : n ≤ 1099511627776 <;> simp [F_value_Right, b_value_Right, ha, hb]
        · simp [F_value_Right, b_value_Right, ha]
      · by_cases h3 : k = 3
        · subst h3
          by_cases hn : n = 0 <;> simp [F_value_Right, b_value_Right, hn, value_plain]
        · by_cases h4 : k = 4
          · subst h4
            have := value_Name s (by omega) H
            by_cases hn : n = 0 <;> simp [F_value_Right, b_value_Right, hn, this]
          · obtain ⟨x, y, z, hl⟩ := value_Link k n s hs H
            by_cases h5 : k = 5
            · subst h5
              simp [F_value_Right, b_value_Right, hl, setPart]
            · simp [F_value_Right, b_value_Right, h0, h1, h2, h3, h4, h5, hl, setPart]

/-! ## The reference's cut -/

theorem rsplit_loop (s : ByteArray) (hs : s.size ≤ 1000) (cs : List UInt8) : ∀ (i : Nat) (_ : s.data.toList.drop i = cs) (l : List GV) (g : Nat) (H : GH) (K : GExit × St → Prop) (id : Nat) (done : List ByteArray) (cur : ByteArray)
    (_ : lget l 0 = .str s) (_ : lget l 1 = .int .u8 62) (_ : lget l 5 = .hsl id 0 (done.length + 1) 1 false) (_ : lget l 6 = .int .i64 i)
    (_ : H.objs[id]? = some (.row 9 ((done ++ [cur]).map .str))) (_ : H.bo ≤ id) (_ : H.bo ≤ H.objs.length) (_ : cur.size + cs.length ≤ s.size) (_ : done.length + cs.length ≤ s.size)
    (_ : ∀ (l' : List GV) (H' : GH) (id' : Nat) (parts : List ByteArray) (p : List UInt8) (ps : List (List UInt8)), splitL 62 cs = p :: ps → parts.map (fun b : ByteArray => b.data.toList) = done.map (fun b : ByteArray => b.data.toList) ++ (cur.data.toList ++ p) :: ps →
      lget l' 5 = .hsl id' 0 parts.length 1 false → H'.objs[id']? = some (.row 9 (parts.map .str)) → K (.exit 0, ⟨⟨l', g⟩, H'⟩)),
    optW (erun T (.loop L0_hedgerowref01_Split) ⟨⟨l, g⟩, H⟩) K := by
  induction cs with
  | nil =>
    intro i hd l g H K id done cur h0 h1 h5 h6 hob hbo hbl hc1 hc2 he
    have hlen := drop_none hd
    have hge : ¬ ((i : Int) < s.size) := by
      have : s.size = s.data.toList.length := by simp
      omega
    rw [run_loop]
    simp [L0_hedgerowref01_Split, h0, h6, hge]
    exact he _ _ id (done ++ [cur]) [] [] rfl (by simp) (by simp [h5]) hob
  | cons c cs ih =>
    intro i hd l g H K id done cur h0 h1 h5 h6 hob hbo hbl hc1 hc2 he
    obtain ⟨hg, hi, hd'⟩ := drop_some hd
    have hsz : s.size = s.data.toList.length := by simp
    have hlt : (i : Int) < s.size := by omega
    have hix := ix_ok hlt
    have hw : IntKind.i64.wrap ((i : Int) + 1) = (i : Int) + 1 := wrap_i64' (by omega) (by omega)
    have hg' : s.data[i]? = some c := by simpa using hg
    rw [run_loop, wp_seqK]
    simp only [List.length_cons] at hc1 hc2
    obtain ⟨p, ps, hsp⟩ : ∃ p ps, splitL 62 cs = p :: ps := by
      cases cs with
      | nil => exact ⟨_, _, rfl⟩
      | cons b l =>
        unfold splitL
        split
        · exact ⟨_, _, rfl⟩
        · split <;> exact ⟨_, _, rfl⟩
    by_cases hc : c = 62
    · subst hc
      have happ := gAppend_row (bytes := 16) (ag := false) (len := done.length + 1) (sz := 1) (x := .sl 1 [.str ⟨#[]⟩] .exact) (news := [.str ⟨#[]⟩]) hob (by simp [gNews]) (by simp) hbo (by simp [room]; omega) (by simp [maxLen]; omega) (by simp)
      simp [L0_hedgerowref01_Split, h0, h1, h5, h6, hlt, hix, str_get, hg', hw, gSetAll, happ]
      refine ih (i + 1) hd' _ g _ K H.objs.length (done ++ [cur]) ⟨#[]⟩ ?_ ?_ ?_ ?_ ?_ ?_ ?_ ?_ ?_ ?_
      · simp [h0]
      · simp [h1]
      · simp
      · simp
      · simp
      · exact hbl
      · first | omega | (simp; omega) | simp
      · have : (⟨#[]⟩ : ByteArray).size = 0 := rfl
        first | omega | (simp; omega) | simp
      · first | omega | (simp; omega) | simp
      · intro l' H' id' parts p' ps' e1 e2 e3 e4
        refine he l' H' id' parts [] (p' :: ps') (by simp [splitL, e1]) ?_ e3 e4
        rw [e2]; simp
    · have hcn : ¬ ((c.toNat : Int) = 62) := fun h => hc (u8_ne.1 (by simpa using h))
      have hcn' : ¬ (c.toNat = 62) := by omega
      have hwd : IntKind.i64.wrap (done.length : Int) = done.length := wrap_i64' (by omega) (by omega)
      have hgd : gIx (done.length + 1) (.int .i64 (done.length : Int)) = some done.length := by simp only [gIx]; rw [if_pos (by omega)]; simp
      have hob' : H.objs[id]? = some (.row 9 (done.map GV.str ++ [.str cur])) := by simpa using hob
      have hpt : (done.map GV.str ++ [.str cur])[done.length]? = some (.str cur) := by simp
      have hsp2 : ∀ x, setPart (done.map GV.str ++ [.str cur]) done.length [x] = some (done.map GV.str ++ [x]) := by
        intro x
        simp [setPart]
      have hgb : gBounds s.size true true false [.int .i64 (i : Int), .int .i64 ((i : Int) + 1)] = some (i, i + 1, none) := by
        have e1 : gBound s.size (.int .i64 ((i : Int) + 1)) = some (i + 1) := by simp only [gBound]; rw [if_pos (by omega)]; congr 1
        have e2 : gBound (i + 1) (.int .i64 (i : Int)) = some i := by simp only [gBound]; rw [if_pos (by omega)]; simp
        simp [gBounds, e1, e2]
      have hxs : (s.extract i (i + 1)).data.toList = [c] := by
        rw [Lib.extract_data, show i + 1 - i = 1 by omega, hd]; rfl
      have hxz : (s.extract i (i + 1)).size = 1 := by
        have hbz : ∀ b : ByteArray, b.size = b.data.toList.length := fun b => by simp
        rw [hbz, hxs]; rfl
      have hadd : gStr .add cur (s.extract i (i + 1)) = some (.str (cur ++ s.extract i (i + 1))) := by
        simp only [gStr]; rw [if_pos (by rw [hxz]; simp [maxLen]; omega)]
      have hidl : id < H.objs.length := (List.getElem?_eq_some_iff.1 hob).1
      simp [L0_hedgerowref01_Split, h0, h1, h5, h6, hlt, hix, str_get, hg', hw, hcn, hcn', hob', hwd, hgd, hpt, hsp2, hgb, hadd, hbo]
      refine ih (i + 1) hd' _ g _ K id done (cur ++ s.extract i (i + 1)) ?_ ?_ ?_ ?_ ?_ ?_ ?_ ?_ ?_ ?_
      · simp [h0]
      · simp [h1]
      · simp [h5]
      · simp
      · simp [hidl]
      · exact hbo
      · simp; omega
      · simp [hxz]; omega
      · omega
      · intro l' H' id' parts p' ps' e1 e2 e3 e4
        refine he l' H' id' parts (c :: p') ps' (by simp [splitL, e1, hc]) ?_ e3 e4
        rw [e2]; simp [hxs]; rw [hd]; rfl
end Go.Proofs.YtbcdhjalciljaaaDoor
