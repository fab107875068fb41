/- Own work, over the shadow machine: JSpec10. -/
import Derived.Test.YtalhcaadpgadkaaDoorSp9
set_option linter.all false
namespace Go.Proofs.YtalhcaadpgadkaaDoor
open Go.Sh
set_option maxRecDepth 100000

/-! ## Steps' text -/

theorem news_str (s : List UInt8) : gNews 1 (.str (mkB s)) = some (u8s s) := by
  simp [gNews, bytesGV, u8s]

theorem row_app2 {H : GH} {sl : GV} {bs : List UInt8} (hr : RowOk H.toks H.bt sl bs) (hbt : H.bt ≤ H.toks.length) (s : List UInt8) (hne : s ≠ []) (hl : bs.length + s.length ≤ 100000000) :
    ∃ s' toks', gAppend H 5 1 1 sl (.str (mkB s)) = some (s', { H with toks := toks' }) ∧ RowOk toks' H.bt s' (bs ++ s) ∧ H.bt ≤ toks'.length ∧ s'.ok = true ∧ s'.one = true ∧ s'.cells = [s'] ∧ (∀ t, unbox t sl = sl) ∧ (∀ t, unbox t s' = s') := by
  have hul : (u8s s).length = s.length := by simp [u8s]
  have hue : (u8s s).isEmpty = false := by
    cases s with
    | nil => exact absurd rfl hne
    | cons a s => rfl
  have h1 : s.length * 1 ≤ room ∧ s.length ≤ maxLen := ⟨by simp [room]; omega, by simp [maxLen]; omega⟩
  have h2 : (bs.length + s.length) * 1 ≤ room ∧ bs.length + s.length ≤ maxLen := ⟨by simp [room]; omega, by simp [maxLen]; omega⟩
  have hbs : bs ++ s ≠ [] := fun h => hne (List.append_eq_nil_iff.1 h).2
  rcases hr with ⟨rfl, rfl⟩ | ⟨t, pos, hne2, rfl, ht, hb⟩
  · refine ⟨.sl 1 (u8s s) (.tok H.toks.length s.length (some 5)), H.toks ++ [s.length], ?_, .inr ⟨H.toks.length, s.length, hbs, rfl, by simp, hbt⟩, by simp; omega, rfl, rfl, rfl, fun _ => rfl, fun _ => rfl⟩
    unfold gAppend
    rw [news_str]
    simp only [Option.bind_some, hue, hul, Bool.false_eq_true, if_false]
    rw [if_pos h1]
  · have hlt : t < H.toks.length := (List.getElem?_eq_some_iff.1 ht).1
    have hbl : (u8s bs).length = bs.length := by simp [u8s]
    refine ⟨.sl 1 (u8s bs ++ u8s s) (.tok t (pos + s.length) (some 5)), H.toks.set t (pos + s.length), ?_, .inr ⟨t, pos + s.length, hbs, by simp [u8s], by simp [hlt], hb⟩, by simpa using hbt, rfl, rfl, rfl, fun _ => rfl, fun _ => rfl⟩
    unfold gAppend
    rw [news_str]
    simp only [Option.bind_some, hue, hul, hbl, Bool.false_eq_true, if_false, ne_eq, not_true_eq_false, reduceCtorEq, or_self]
    rw [if_pos h2, if_pos ⟨ht, hb⟩]
    simp

theorem write_str {H : GH} {id : Nat} {bs : List UInt8} (hB : Bld H id bs) (s : List UInt8) (hne : s ≠ []) (hl : bs.length + s.length ≤ 100000000) :
    ∃ r H', ecall T f_strings_Builder_WriteString [.ptr id 0, .str (mkB s)] H = some (r, H') ∧ Bld H' id (bs ++ s) := by
  obtain ⟨hbo, hbt, p, sl, ho, hp, hrow⟩ := hB
  obtain ⟨objs, hcc, ho'⟩ := copy_spec hbo ho hp
  have hbt' : ({ H with objs := objs } : GH).bt ≤ ({ H with objs := objs } : GH).toks.length := hbt
  obtain ⟨s', toks', happ, hrow', hbt2, hok, hone, hcells, hu1, hu2⟩ := row_app2 (H := { H with objs := objs }) hrow hbt' s hne hl
  refine ⟨.tup [.int .i64 s.length, .niliface], { H with objs := objs.set id (.cells 43 [.ptr id 0, s']), toks := toks' }, ?_, hbo, hbt2, .ptr id 0, s', obj_set (H := { H with objs := objs }) ho', .inr rfl, hrow'⟩
  apply optW.eq
  rw [ecall_0 T_strings_Builder_WriteString rfl (by simp [F_strings_Builder_WriteString]), wp_fin1]
  simp only [F_strings_Builder_WriteString, b_strings_Builder_WriteString]
  simp [hcc, ho', gSetAll, happ, hok, hone, hcells, hbo, hu1, hu2, setPart]

abbrev SP := Stp × GV
def spG (p : SP) : GV := stpG p.1 p.2

/-- A step as it may stand in a row. -/
structure SOk (p : SP) : Prop where
  fit : SFit p.1
  el : Elems 9 p.2 (p.1.chs.map chgG)
  chs : ∀ c ∈ p.1.chs, CFit c

theorem text_len (x : Stp) (h : x.okB = true) (hf : SFit x) : x.text.length ≤ 20010 := by
  simp only [Stp.okB, Bool.and_eq_true, decide_eq_true_eq] at h
  obtain ⟨hk, hp, hn, hc⟩ := h
  have hch : x.chs.length ≤ 64 := by
    simp only [Stp.plainB, Bool.and_eq_true, decide_eq_true_eq] at hp
    rcases hp.2.2 with h | h
    · exact h.2
    · omega
  obtain ⟨_, hwj⟩ := words_len x hf hk (by omega)
  have hll : x.lines.length ≤ 65 := by simp [Stp.lines]; omega
  have hjl := join_len 10 300 x.lines (fun w hw => by
    simp only [Stp.lines, List.mem_cons, List.mem_map] at hw
    rcases hw with rfl | ⟨c, hc', rfl⟩
    · omega
    · exact (chg_text10 (List.all_eq_true.1 hc c hc')).2)
  have : x.lines.length * 301 ≤ 65 * 301 := Nat.mul_le_mul hll (Nat.le_refl _)
  simp only [Stp.text, List.length_append, List.length_cons, List.length_nil]
  omega

theorem txt_loop (all : List SP) (hall : all.length ≤ 1000) (hok : ∀ p ∈ all, SOk p) (v : GV) (hv : Elems 8 v (all.map spG)) (id : Nat) (xs : List SP) : ∀ (j : Nat) (_ : all.drop j = xs) (l : List GV) (g : Nat) (H : GH) (K : GExit × St → Prop) (bs : List UInt8)
    (_ : lget l 9 = v) (_ : lget l 10 = .int .i64 all.length) (_ : lget l 11 = .int .i64 j) (_ : lget l 4 = .ptr id 0) (_ : Bld H id bs) (_ : bs.length ≤ j * 20010)
    (_ : ∀ (l' : List GV) (g' : Nat) (H' : GH), xs.all (fun p => p.1.okB) = true → lget l' 4 = .ptr id 0 → Bld H' id (bs ++ textL (xs.map (·.1))) → K (.exit 0, ⟨⟨l', g'⟩, H'⟩))
    (_ : ∀ (l' : List GV) (g' : Nat) (H' : GH), xs.all (fun p => p.1.okB) = false → lget l' 2 = .str ⟨#[]⟩ → lget l' 3 = .bool false → K (.ret, ⟨⟨l', g'⟩, H'⟩)),
    optW (erun T (.loop L0_script_Text) ⟨⟨l, g⟩, H⟩) K := by
  induction xs with
  | nil =>
    intro j hd l g H K bs h9 h10 h11 h4 hB hbs he hr
    have hle : all.length ≤ j := by simpa using hd
    have hge : ¬ ((j : Int) < all.length) := by omega
    have hge' : ¬ (j < all.length) := by omega
    rw [run_loop]
    simp [L0_script_Text, h10, h11, hge, hge']
    exact he _ g H rfl (by simp [h4]) (by simpa [textL] using hB)
  | cons p xs ih =>
    intro j hd l g H K bs h9 h10 h11 h4 hB hbs he hr
    have hj : j < all.length := by
      rcases Nat.lt_or_ge j all.length with h1 | h1
      · exact h1
      · rw [List.drop_eq_nil_of_le h1] at hd; cases hd
    have hgv : all[j]? = some p := by
      have := congrArg (·[0]?) hd
      simpa using this
    have hd' : all.drop (j + 1) = xs := by
      have := congrArg List.tail hd
      simpa using this
    have hgd : ∀ h : j < all.length, all[j]'h = p := fun h => by rw [List.getElem?_eq_getElem h] at hgv; exact Option.some.inj hgv
    have hgm : (all.map spG)[j]? = some (spG p) := by simp [hgv]
    obtain ⟨t, hvt⟩ := hv.is_sl hgm
    obtain ⟨x, w⟩ := p
    have hp := hok _ (List.mem_of_getElem? hgv)
    have hst := script_step x hp.fit w hp.el hp.chs
    have hwo := hp.el.one
    have hwc := hp.el.cells
    have hwk := hp.el.ok
    simp only at hwo hwc hwk
    have hlt : (j : Int) < all.length := by omega
    have hix : gIx all.length (.int .i64 (j : Int)) = some j := by simp only [gIx]; rw [if_pos (by omega)]; simp
    have hw : IntKind.i64.wrap ((j : Int) + 1) = (j : Int) + 1 := wrap_i64' (by omega) (by omega)
    rw [hvt] at h9
    simp only [stpG, stpC] at hst
    cases hk : x.okB with
    | false =>
      simp only [hk] at hst
      rw [run_loop, wp_seqK]
      simp [L0_script_Text, h9, h10, h11, hlt, hj, hix, hgv, hgd, spG, stpG, stpC, setPart, hwo, hwc, hwk, hst]
      exact hr _ _ H (by simp [hk]) (by simp) (by simp)
    | true =>
      have htx : stpTx x = x.text := by simp [stpTx, hk]
      simp only [hk, htx] at hst
      have htl := text_len x hk hp.fit
      obtain ⟨r, H', hwr, hB'⟩ := write_str hB x.text (text_ne x) (by have : j * 20010 ≤ 1000 * 20010 := Nat.mul_le_mul (by omega) (Nat.le_refl _); omega)
      rw [run_loop, wp_seqK]
      simp [L0_script_Text, h4, h9, h10, h11, hlt, hj, hix, hgv, hgd, spG, stpG, stpC, setPart, hwo, hwc, hwk, hst, hwr, hw]
      refine ih (j + 1) hd' _ _ H' K (bs ++ x.text) ?_ ?_ ?_ ?_ hB' (by rw [List.length_append, Nat.add_mul]; omega) ?_ ?_
      · simp [h9, hvt]
      · simp [h10]
      · simp
      · simp [h4]
      · intro l' g' H2 f0 f4 f5
        refine he l' g' H2 (by simpa [hk] using f0) f4 ?_
        simpa [textL] using f5
      · intro l' g' H2 f0 f2 f3
        exact hr l' g' H2 (by simpa [hk] using f0) f2 f3

def allOk (L : List SP) : Bool := L.all (fun p => p.1.okB)
def txtL (L : List SP) : List UInt8 := if allOk L then textL (L.map (·.1)) else []

theorem script_Text (L : List SP) (hL : L.length ≤ 1000) (hok : ∀ p ∈ L, SOk p) (v : GV) (hv : Elems 8 v (L.map spG)) (H : GH) : ecall T f_script_Text [v] H = some (.tup [.str (mkB (txtL L)), .bool (allOk L)], H) := by
  have hlb : ∀ (call : Nat → List GV → GH → Option (GV × GH)) (l : List GV) (g : Nat) (H : GH), geff call .lensl [v] ⟨l, g⟩ H = some ⟨.int .i64 (L.map spG).length, none, H, g⟩ := hv.len
  have hub : ∀ t, unbox t v = v := elemsUnbox hv
  have hcl : ∀ (s : ByteArray) (b : Bool), clean H.objs.length H.toks.length 100 (.tup [.str s, .bool b]) = some (.tup [.str s, .bool b]) := fun _ _ => rfl
  apply optW.eq
  rw [ecall_1 T_script_Text rfl (by simp [F_script_Text]), wp_fin1]
  simp only [F_script_Text, b_script_Text]
  simp [hub, hlb]
  rw [wp_seqK, wp_blockK]
  refine txt_loop L hL hok v hv H.objs.length L 0 rfl _ _ _ _ [] ?_ ?_ ?_ ?_ ?_ (by simp) ?_ ?_
  · simp [hub]
  · simp
  · simp
  · simp
  · exact ⟨by simp [GH.newObj], by simp [GH.newObj], .nilptr, .nilsl, by simp [GH.newObj], .inl rfl, .inl ⟨rfl, rfl⟩⟩
  · intro l' g' H' f0 f4 hB
    have hbt := built hB
    simp only [List.nil_append, mk_mkB] at hbt
    have h1 : allOk L = true := f0
    simp [f4, hbt, hcl, txtL, h1]
  · intro l' g' H' f0 f2 f3
    have h1 : allOk L = false := f0
    simp [f2, f3, hcl, txtL, h1]
end Go.Proofs.YtalhcaadpgadkaaDoor
