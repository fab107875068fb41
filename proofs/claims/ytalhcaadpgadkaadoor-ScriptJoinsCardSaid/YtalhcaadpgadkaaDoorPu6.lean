/- Own work, over the shadow machine: SPure3. -/
import Derived.Test.YtalhcaadpgadkaaDoorPu5
import Derived.Test.YtalhcaadpgadkaaDoorShF
set_option linter.all false
namespace Go.Sh
open Go

/-! A script's text is read as it was. -/

theorem mem_join (x b : UInt8) : ∀ (ws : List (List UInt8)), b ∈ Lib.join ws [x] → b = x ∨ ∃ w ∈ ws, b ∈ w := by
  intro ws h
  cases ws with
  | nil => simp [Lib.join_nil] at h
  | cons w ws =>
    rw [join_flat] at h
    rcases List.mem_append.1 h with h | h
    · exact .inr ⟨w, by simp, h⟩
    · simp only [List.mem_flatMap, List.mem_cons] at h
      obtain ⟨v, hv, h | h⟩ := h
      · exact .inl h
      · exact .inr ⟨v, by simp [hv], h⟩

theorem dec_no (u : Nat) (b : UInt8) (h : ¬ (48 ≤ b.toNat ∧ b.toNat ≤ 57)) : b ∉ Lib.decDigits u := by
  intro hm
  have := List.all_eq_true.1 (dec_dig u) b hm
  simp [isDig] at this
  exact h this

theorem itoa_no (n : Int) (b : UInt8) (h : ¬ (48 ≤ b.toNat ∧ b.toNat ≤ 57)) (h2 : b ≠ 45) : b ∉ Lib.itoa n := by
  unfold Lib.itoa
  split
  · intro hm
    rcases List.mem_cons.1 hm with hm | hm
    · exact h2 hm
    · exact dec_no _ b h hm
  · exact dec_no _ b h

theorem itoa32 (n : Int) : (32 : UInt8) ∉ Lib.itoa n := itoa_no n 32 (by decide) (by decide)
theorem itoa10 (n : Int) : (10 : UInt8) ∉ Lib.itoa n := itoa_no n 10 (by decide) (by decide)

theorem numO_itoa (n : Int) (h1 : -1099511627776 ≤ n) (h2 : n ≤ 1099511627776) : numO (Lib.itoa n) = (n, false) := by
  unfold numO; rw [atoi_itoa n h1 h2]

theorem inner10 (l : List UInt8) (h : l.all inner = true) : (10 : UInt8) ∉ l := by
  intro hm
  have := List.all_eq_true.1 h 10 hm
  revert this; decide
theorem name10 {l : List UInt8} (h : nameL l = true) : (10 : UInt8) ∉ l := by
  simp only [nameL, Bool.and_eq_true] at h
  exact inner10 l h.2
theorem name_len {l : List UInt8} (h : nameL l = true) : l.length ≤ 16 := by
  simp only [nameL, Bool.and_eq_true, decide_eq_true_eq] at h
  omega
theorem plain10 {l : List UInt8} (h : plainL l = true) : (10 : UInt8) ∉ l := by
  simp only [plainL, Bool.and_eq_true] at h
  intro hm
  have := List.all_eq_true.1 h.1 10 hm
  revert this; decide
theorem quo_mem (b : UInt8) : ∀ l : List UInt8, b ∈ quoL l → b = 92 ∨ b ∈ l
  | [], h => by simp [quoL] at h
  | c :: l, h => by
    unfold quoL at h
    have ih := quo_mem b l
    split at h
    · simp only [List.mem_cons] at h ⊢
      rcases h with h | h | h
      · exact .inl h
      · exact .inr (.inl h)
      · rcases ih h with h | h
        · exact .inl h
        · exact .inr (.inr h)
    · simp only [List.mem_cons] at h ⊢
      rcases h with h | h
      · exact .inr (.inl h)
      · rcases ih h with h | h
        · exact .inl h
        · exact .inr (.inr h)
theorem quo_len2 : ∀ l : List UInt8, (quoL l).length ≤ 2 * l.length
  | [] => by simp [quoL]
  | c :: l => by
    have := quo_len2 l
    unfold quoL
    split <;> simp <;> omega
theorem split_mem (c b : UInt8) : ∀ l : List UInt8, b ∈ l → b = c ∨ ∃ p ∈ splitL c l, b ∈ p
  | [], h => by cases h
  | x :: l, h => by
    have ih := split_mem c b l
    unfold splitL
    by_cases hx : x = c
    · rw [if_pos hx]
      rcases List.mem_cons.1 h with h | h
      · exact .inl (h.trans hx)
      · rcases ih h with h | ⟨p, hp, hb⟩
        · exact .inl h
        · exact .inr ⟨p, by simp [hp], hb⟩
    · rw [if_neg hx]
      cases hs : splitL c l with
      | nil =>
        rw [hs] at ih
        simp only
        rcases List.mem_cons.1 h with h | h
        · exact .inr ⟨[x], by simp, by simp [h]⟩
        · rcases ih h with h | ⟨p, hp, _⟩
          · exact .inl h
          · cases hp
      | cons q qs =>
        rw [hs] at ih
        simp only
        rcases List.mem_cons.1 h with h | h
        · exact .inr ⟨x :: q, by simp, by simp [h]⟩
        · rcases ih h with h | ⟨p, hp, hb⟩
          · exact .inl h
          · rcases List.mem_cons.1 hp with rfl | hp
            · exact .inr ⟨x :: p, by simp, by simp [hb]⟩
            · exact .inr ⟨p, by simp [hp], hb⟩
theorem split_len (c : UInt8) : ∀ l : List UInt8, l.length + 1 = ((splitL c l).map (fun p => p.length + 1)).sum
  | [] => by simp [splitL]
  | x :: l => by
    have ih := split_len c l
    unfold splitL
    by_cases hx : x = c
    · rw [if_pos hx]; simp; omega
    · rw [if_neg hx]
      cases hs : splitL c l with
      | nil => rw [hs] at ih; simp at ih
      | cons q qs => rw [hs] at ih; simp at ih ⊢; omega
theorem link10 {l : List UInt8} (h : (linkL l).isSome = true) : (10 : UInt8) ∉ l ∧ l.length ≤ 50 := by
  unfold linkL at h
  split at h
  · rename_i a b c hs
    split at h
    · rename_i hn
      simp only [Bool.and_eq_true] at hn
      obtain ⟨⟨ha, hb⟩, hc⟩ := hn
      have h2 := split_len 62 l
      rw [hs] at h2
      have := name_len ha; have := name_len hb; have := name_len hc
      refine ⟨fun hm => ?_, by simp at h2; omega⟩
      rcases split_mem 62 10 l hm with e | ⟨p, hp, hm⟩
      · revert e; decide
      · rw [hs] at hp
        simp only [List.mem_cons, List.not_mem_nil, or_false] at hp
        rcases hp with rfl | rfl | rfl
        · exact name10 ha hm
        · exact name10 hb hm
        · exact name10 hc hm
    · cases h
  · cases h

theorem itoa_len9 (n : Int) (h1 : -1099511627776 ≤ n) (h2 : n ≤ 1099511627776) : (Lib.itoa n).length ≤ 20 := by
  unfold Lib.itoa
  split
  · have := nDigits_le 15 n.natAbs (by omega) (by omega)
    simp [Lib.decDigits_length]; omega
  · have := nDigits_le 15 n.toNat (by omega) (by omega)
    simp [Lib.decDigits_length]; omega

theorem txt10 {k n : Int} {l : List UInt8} (h : rightV k n l = true) : (10 : UInt8) ∉ txtV k n l ∧ (txtV k n l).length ≤ 130 := by
  have e : txtV k n l = txtR k n l := by simp [txtV, h]
  rw [e]
  rcases right_cases h with ⟨rfl, rfl, rfl⟩ | ⟨rfl, rfl, rfl⟩ | ⟨rfl, rfl, rfl⟩ | ⟨rfl, h1, h2, rfl⟩ | ⟨rfl, rfl⟩ | ⟨rfl, rfl⟩ | ⟨rfl, rfl⟩
  · decide
  · decide
  · decide
  · have := itoa_len9 n h1 h2
    exact ⟨itoa10 n, by show (Lib.itoa n).length ≤ _; omega⟩
  · have hp : plainL l = true := by simpa [rightV] using h
    have hl : l.length ≤ 64 := by simp [plainL] at hp; exact hp.2
    have hq := quo_len2 l
    refine ⟨?_, by simp [txtR]; omega⟩
    intro hm
    simp [txtR] at hm
    rcases quo_mem 10 l hm with e | e
    · revert e; decide
    · exact plain10 hp e
  · have hp : nameL l = true := by simpa [rightV] using h
    have := name_len hp
    refine ⟨?_, by simp [txtR]; omega⟩
    intro hm
    simp [txtR] at hm
    exact name10 hp hm
  · have hp : (linkL l).isSome = true := by simpa [rightV] using h
    obtain ⟨h1, h2⟩ := link10 hp
    refine ⟨?_, by simp [txtR]; omega⟩
    intro hm
    simp [txtR] at hm
    exact h1 hm

theorem parts_no {k : Int} {a b c d : List UInt8} (h : elemV k a b c d = true) : ∀ w ∈ partsL k a b c d, (10 : UInt8) ∉ w ∧ w.length ≤ 16 := by
  intro w hw
  have key : ∀ l, nameL l = true → (10 : UInt8) ∉ l ∧ l.length ≤ 16 := fun l hl => ⟨name10 hl, name_len hl⟩
  rcases elem_kind h with rfl | rfl | rfl | rfl | rfl <;> simp [elemV] at h <;> simp [partsL] at hw
  · subst hw; exact key _ h.1
  · rcases hw with rfl | rfl
    · exact key _ h.1.1
    · exact key _ h.1.2
  · rcases hw with rfl | rfl | rfl
    · exact key _ h.1.1.1
    · exact key _ h.1.2
    · exact key _ h.1.1.2
  · rcases hw with rfl | rfl
    · exact key _ h.1.1
    · exact key _ h.1.2
  · rcases hw with rfl | rfl | rfl | rfl
    · exact key _ h.1.1.1
    · exact key _ h.1.2
    · exact key _ h.1.1.2
    · exact key _ h.2

theorem op_no {k : Int} (h : 1 ≤ k ∧ k ≤ 4) : (10 : UInt8) ∉ nthL opsL k ∧ (nthL opsL k).length ≤ 6 := by
  rcases op_cases h with rfl | rfl | rfl | rfl <;> decide
theorem el_no {k : Int} (h : k = 1 ∨ k = 2 ∨ k = 3 ∨ k = 4 ∨ k = 5) : (10 : UInt8) ∉ nthL elsL k ∧ (nthL elsL k).length ≤ 5 := by
  rcases h with rfl | rfl | rfl | rfl | rfl <;> decide

theorem flat_len (x : UInt8) (B : Nat) : ∀ ws : List (List UInt8), (∀ w ∈ ws, w.length ≤ B) → (ws.flatMap (fun v => x :: v)).length ≤ ws.length * (B + 1)
  | [], _ => by simp
  | w :: ws, h => by
    have h1 := h w (by simp)
    have h2 := flat_len x B ws (fun v hv => h v (by simp [hv]))
    simp only [List.flatMap_cons, List.length_append, List.length_cons, Nat.add_mul]
    omega

theorem parts_len {k : Int} {a b c d : List UInt8} : (partsL k a b c d).length ≤ 4 := by
  unfold partsL
  split
  · simp
  · split
    · simp
    · split <;> simp

theorem chg_text10 {x : Chg} (h : x.okB = true) : (10 : UInt8) ∉ x.text ∧ x.text.length ≤ 300 := by
  simp only [Chg.okB, Bool.and_eq_true, decide_eq_true_eq] at h
  obtain ⟨hop, hel, hv, _⟩ := h
  have h1 := op_no hop
  have h2 := el_no (elem_kind hel)
  have h3 := parts_no hel
  have h4 := txt10 hv
  constructor
  · intro hm
    rcases mem_join 32 10 _ hm with e | ⟨w, hw, hm⟩
    · revert e; decide
    · simp only [List.mem_cons, List.mem_append] at hw
      rcases hw with rfl | rfl | hw | hw
      · exact h1.1 hm
      · exact h2.1 hm
      · exact (h3 w hw).1 hm
      · split at hw
        · cases hw
        · simp only [List.mem_cons, List.not_mem_nil, or_false] at hw
          subst hw
          exact h4.1 hm
  · unfold Chg.text
    rw [join_flat]
    simp only [List.flatMap_cons, List.flatMap_append, List.length_append, List.length_cons]
    have := flat_len 32 16 _ (fun w hw => (h3 w hw).2)
    have hp := parts_len (k := x.ek) (a := x.a) (b := x.b) (c := x.c) (d := x.d)
    have hv : ((if x.none = true then [] else [txtV x.vk x.vn x.vt] : List (List UInt8)).flatMap (fun v => (32 : UInt8) :: v)).length ≤ 131 := by
      split
      · simp
      · simp; omega
    have : (partsL x.ek x.a x.b x.c x.d).length * (16 + 1) ≤ 4 * 17 := Nat.mul_le_mul hp (Nat.le_refl _)
    omega

/-! ## Numbers -/

theorem takeN_text (y : Stp) (tl : List (List UInt8)) : ∀ (js : List Nat) (x : Stp) (bad : Bool), (∀ j ∈ js, okN (y.num j) = true) →
    takeN js x (Lib.join (js.map (fun j => Lib.itoa (y.num j)) ++ tl) [32]) bad = (js.foldl (fun x j => x.setN j (y.num j)) x, Lib.join tl [32], bad)
  | [], x, bad, _ => rfl
  | j :: js, x, bad, h => by
    have hj := h j (by simp)
    simp only [okN, decide_eq_true_eq] at hj
    simp only [List.map_cons, List.cons_append, takeN, w1_join _ _ (itoa32 _), r1_join _ _ (itoa32 _), numO_itoa (y.num j) (by omega) (by omega), Bool.or_false, List.foldl_cons]
    exact takeN_text y tl js _ bad (fun i hi => h i (by simp [hi]))

theorem kind_cases {k : Int} (h : 1 ≤ k ∧ k ≤ 11) : k = 1 ∨ k = 2 ∨ k = 3 ∨ k = 4 ∨ k = 5 ∨ k = 6 ∨ k = 7 ∨ k = 8 ∨ k = 9 ∨ k = 10 ∨ k = 11 := by omega

/-- Of a step that may be told nothing is left but what belongs to it. -/
theorem fold_own (y : Stp) (hk : 1 ≤ y.k ∧ y.k ≤ 11) (hp : y.plainB = true) : (ownL y.k).foldl (fun x j => x.setN j (y.num j)) ⟨y.k, 0, 0, 0, 0, 0, 0, []⟩ = { y with by_ := 0, chs := [] } := by
  simp only [Stp.plainB, Bool.and_eq_true] at hp
  obtain ⟨h1, _⟩ := hp
  obtain ⟨k, r, s, i, kp, at_, by_, chs⟩ := y
  simp only at hk h1 ⊢
  rcases kind_cases hk with rfl | rfl | rfl | rfl | rfl | rfl | rfl | rfl | rfl | rfl | rfl <;>
    simp [ownL, Stp.num] at h1 <;> simp [ownL, Stp.num, Stp.setN, h1]

theorem nam_word {k : Int} (h : 1 ≤ k ∧ k ≤ 11) : (32 : UInt8) ∉ nthL namL k ∧ (10 : UInt8) ∉ nthL namL k ∧ idxL (nthL namL k) namL 0 = k ∧ (nthL namL k).length ≤ 7 := by
  rcases kind_cases h with rfl | rfl | rfl | rfl | rfl | rfl | rfl | rfl | rfl | rfl | rfl <;> decide

/-! ## Changes -/

theorem takeC_text (rest : List UInt8) : ∀ (cs done : List Chg), (∀ c ∈ cs, c.okB = true) → takeC cs.length (cs.flatMap (fun c => c.text ++ [10]) ++ rest) false done = (done ++ cs, rest, false)
  | [], done, _ => by simp [takeC]
  | c :: cs, done, h => by
    have hc := h c (by simp)
    have e : (c :: cs).flatMap (fun c => c.text ++ [10]) ++ rest = c.text ++ 10 :: (cs.flatMap (fun c => c.text ++ [10]) ++ rest) := by simp
    rw [e]
    simp only [List.length_cons, takeC, lineR_hit _ _ _ (chg_text10 hc).1, readC_text c hc]
    rw [if_neg (by simp), takeC_text rest cs _ (fun d hd => h d (by simp [hd]))]
    simp

theorem words10 (y : Stp) (hk : 1 ≤ y.k ∧ y.k ≤ 11) : (10 : UInt8) ∉ Lib.join y.words [32] := by
  intro hm
  rcases mem_join 32 10 _ hm with e | ⟨w, hw, hm⟩
  · revert e; decide
  · simp only [Stp.words, Stp.tail, List.mem_cons, List.mem_append, List.mem_map] at hw
    rcases hw with rfl | ⟨j, _, rfl⟩ | hw | hw
    · exact (nam_word hk).2.1 hm
    · exact itoa10 _ hm
    · split at hw
      · simp at hw; subst hw; exact itoa10 _ hm
      · cases hw
    · split at hw
      · simp at hw; subst hw; exact itoa10 _ hm
      · cases hw

theorem stepR_text (y : Stp) (h : y.okB = true) (hb : 0 ≤ y.by_ ∧ y.by_ ≤ 255) (rest : List UInt8) : stepR (y.text ++ rest) false = (y, rest, false) := by
  simp only [Stp.okB, Bool.and_eq_true, decide_eq_true_eq] at h
  obtain ⟨hk, hp, hn, hc⟩ := h
  have hp' := hp
  simp only [Stp.plainB, Bool.and_eq_true, decide_eq_true_eq] at hp'
  obtain ⟨_, hby, hch⟩ := hp'
  have hcs : ∀ c ∈ y.chs, c.okB = true := List.all_eq_true.1 hc
  have e : y.text ++ rest = Lib.join y.words [32] ++ 10 :: (y.chs.flatMap (fun c => c.text ++ [10]) ++ rest) := by
    unfold Stp.text Stp.lines
    rw [join_end 10 _ (by simp)]
    simp [List.flatMap_map]
  have hnw := nam_word hk
  unfold stepR
  simp only [e, lineR_hit _ _ _ (words10 y hk)]
  have hw : w1 (Lib.join y.words [32]) = nthL namL y.k := w1_join _ _ hnw.1
  have hr : r1 (Lib.join y.words [32]) = Lib.join ((ownL y.k).map (fun j => Lib.itoa (y.num j)) ++ y.tail) [32] := r1_join _ _ hnw.1
  rw [hw, hr, hnw.2.2.1, if_neg (by omega), takeN_text y y.tail (ownL y.k) _ _ (fun j hj => List.all_eq_true.1 hn j hj), fold_own y hk hp]
  simp only [stepTu, Stp.tail]
  by_cases ht : turnB y.k = true
  · have hk1 : y.k ≠ 1 := by intro e; rw [e] at ht; revert ht; decide
    have hch0 : y.chs = [] := by
      rcases hch with h | h
      · exact absurd h.1 hk1
      · simpa using h
    have hbo : byteOf y.by_ = y.by_ := by
      unfold byteOf
      exact wrap_u8' (by omega) (by omega)
    have hnn : ¬ (y.by_ < 0 ∨ 255 < y.by_) := by omega
    simp only [ht, if_true, if_neg hk1, List.append_nil, w1_join _ _ (itoa32 _), r1_join _ _ (itoa32 _), numO_itoa y.by_ (by omega) (by omega), stepBc, hbo, hch0, hnn, decide_false, Bool.or_false, List.flatMap_nil, List.nil_append]
    simp only [Prod.mk.injEq, and_true]
    rw [← hch0]
  · have hby0 : y.by_ = 0 := by
      rcases hby with h | h
      · exact absurd h ht
      · exact h
    simp only [if_neg ht, List.nil_append, stepBc]
    by_cases hk1 : y.k = 1
    · have hl : y.chs.length ≤ 64 := by
        rcases hch with h | h
        · exact h.2
        · omega
      have hm : (min (y.chs.length : Int) 64).toNat = y.chs.length := by omega
      simp only [hk1, if_true, w1_join _ _ (itoa32 _), numO_itoa (y.chs.length : Int) (by omega) (by omega), Bool.or_false, hm, takeC_text rest y.chs [] hcs]
      simp only [List.nil_append, Prod.mk.injEq, and_true]
      obtain ⟨_, _, _, _, _, _, _, _⟩ := y
      simp only at hby0 hk1
      subst hby0 hk1
      rfl
    · have hch0 : y.chs = [] := by
        rcases hch with h | h
        · exact absurd h.1 hk1
        · simpa using h
      simp only [if_neg hk1, hch0, List.flatMap_nil, List.nil_append, Prod.mk.injEq, and_true]
      obtain ⟨_, _, _, _, _, _, _, _⟩ := y
      simp only at hby0 hch0
      subst hby0 hch0
      rfl

theorem text_ne (y : Stp) : y.text ≠ [] := by simp [Stp.text]

theorem readG_text : ∀ (L : List Stp) (n : Nat) (done : List Stp), (∀ y ∈ L, y.okB = true ∧ 0 ≤ y.by_ ∧ y.by_ ≤ 255) → L.length < n → readG n (textL L) false done = (done ++ L, false)
  | [], n + 1, done, _, _ => by simp [readG, textL]
  | y :: L, n + 1, done, h, hn => by
    have hy := h y (by simp)
    have e : textL (y :: L) = y.text ++ textL L := by simp [textL]
    have hne : ¬ (textL (y :: L) = [] ∨ false = true) := by
      rw [e]; intro h
      rcases h with h | h
      · exact text_ne y (List.append_eq_nil_iff.1 h).1
      · cases h
    simp only [readG]
    rw [if_neg hne, e, stepR_text y hy.1 hy.2, readG_text L n _ (fun z hz => h z (by simp [hz])) (by simp at hn; omega)]
    simp
  | [], 0, _, _, hn => by omega
  | _ :: _, 0, _, _, hn => by omega

theorem textL_len : ∀ L : List Stp, L.length ≤ (textL L).length
  | [] => by simp
  | y :: L => by
    have := textL_len L
    have h : 1 ≤ y.text.length := by simp [Stp.text]
    have e : textL (y :: L) = y.text ++ textL L := by simp [textL]
    rw [e, List.length_append, List.length_cons]; omega

theorem readL_text (L : List Stp) (h : ∀ y ∈ L, y.okB = true ∧ 0 ≤ y.by_ ∧ y.by_ ≤ 255) : readL (textL L) = some L := by
  unfold readL
  rw [readG_text L _ [] h (by have := textL_len L; omega)]
  simp only [List.nil_append]
  rw [if_pos ⟨trivial, List.all_eq_true.2 (fun y hy => (h y hy).1), trivial⟩]
end Go.Sh
