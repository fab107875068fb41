/- Own work, over the shadow machine: SSpec22. -/
import Derived.Test.YtalhcaadpgadkaaGreatDoorSp21
set_option linter.all false
namespace Go.Proofs.YtalhcaadpgadkaaGreatDoor
open Go.Sh
set_option maxRecDepth 100000

theorem nam_row : [GV.str ⟨#[]⟩, .str ⟨#[119, 114, 105, 116, 101]⟩, .str ⟨#[116, 105, 99, 107]⟩, .str ⟨#[100, 101, 108, 105, 118, 101, 114]⟩, .str ⟨#[100, 114, 111, 112]⟩, .str ⟨#[100, 111, 117, 98, 108, 101]⟩, .str ⟨#[116, 117, 114, 110]⟩, .str ⟨#[99, 114, 97, 115, 104]⟩, .str ⟨#[114, 101, 99, 111, 118, 101, 114]⟩, .str ⟨#[99, 111, 109, 112, 97, 99, 116]⟩, .str ⟨#[115, 112, 111, 105, 108]⟩, .str ⟨#[115, 121, 110, 99]⟩] = namL.map strG := rfl

theorem nam_oks : oks (namL.map strG) = true := rfl
theorem nam_len : namL.length = 12 := rfl
theorem nam_set : gSetAll [GV.str ⟨#[]⟩, .str ⟨#[]⟩, .str ⟨#[]⟩, .str ⟨#[]⟩, .str ⟨#[]⟩, .str ⟨#[]⟩, .str ⟨#[]⟩, .str ⟨#[]⟩, .str ⟨#[]⟩, .str ⟨#[]⟩, .str ⟨#[]⟩, .str ⟨#[]⟩] ([0, 1, 2, 3, 4, 5, 6, 7, 8, 9, 10, 11].zip (namL.map strG)) = namL.map strG := rfl

theorem nums_all {x : Stp} (hf : SFit x) : (numsL x).all okN = (ownL x.k).all (fun j => okN (x.num j)) := by
  have : okN x.by_ = true := by have := hf.b1; have := hf.b2; simp [okN]; omega
  simp only [numsL, List.all_append, List.all_map]
  split <;> simp [this, Function.comp_def]

theorem text_pre {x : Stp} : x.text = nthL namL x.k ++ (numsL x).flatMap (fun n => 32 :: Lib.itoa n) ++ (if x.k = 1 then 32 :: Lib.itoa x.chs.length else []) ++ [10] ++ x.chs.flatMap (fun c => c.text ++ [10]) := by
  rw [Stp.text_flat]
  congr 2
  simp only [Stp.tail, numsL, List.flatMap_append, List.flatMap_map]
  generalize turnB x.k = b
  cases b <;> by_cases h1 : x.k = 1 <;> simp [h1]

theorem textL_bound {L : List SP} (hok : ∀ p ∈ L, SOk p) (h : allOk L = true) : (textL (L.map (·.1))).length ≤ L.length * 20010 := by
  have := textL_size (allOk_good h hok)
  simpa using this

set_option maxHeartbeats 1000000 in
theorem text_loop (L : List SP) (hL : L.length ≤ 1000) (hok : ∀ p ∈ L, SOk p) (v : GV) (hv : Elems 8 v (L.map spG)) (l0 : List GV) (g0 : Nat) (H0 : GH) (K : GExit × St → Prop)
    (h13 : lget l0 13 = v) (h14 : lget l0 14 = .int .i64 L.length) (h15 : lget l0 15 = .int .i64 0) (h4 : lget l0 4 = .str (mkB []))
    (he : ∀ l g, allOk L = true → lget l 4 = .str (mkB (textL (L.map (·.1)))) → K (.exit 0, ⟨⟨l, g⟩, H0⟩))
    (hr : ∀ l g, allOk L = false → lget l 2 = .str ⟨#[]⟩ → lget l 3 = .bool false → K (.ret, ⟨⟨l, g⟩, H0⟩)) :
    optW (erun T (.loop L2_hedgerowref29_Text) ⟨⟨l0, g0⟩, H0⟩) K := by
  refine range_loop (T := T) (n := L.length) (A := List UInt8) (fun _ a => [(4, .str (mkB a))]) (fun i a _ H => H = H0 ∧ a = textL ((L.take i).map (·.1)) ∧ allOk (L.take i) = true) (c := 16) (b := 0) (I := 15) (N := 14) (d := 89) rfl (by omega) (by decide) ⟨rfl, rfl⟩ (by simp) ?_ ?_ 0 [] l0 g0 H0 (by omega) ⟨rfl, rfl, rfl⟩ (by simp [h4]) (.refl _ _ _) h15 h14
  · intro i a l g H hi ⟨hH, ha, hall⟩ hh hf hI
    subst hH
    have h13' := hf.get 13 rfl h13 (by simp [hv.boxy])
    obtain ⟨lt, ix, opt, get, ⟨t, sl⟩, wr_, mem⟩ := at_ok (e := spG) hv hi (by omega)
    generalize L[i]'hi = p at opt get mem
    rw [sl] at h13'
    simp only [Holds_cons, Holds_nil, and_true] at hh
    have htake : L.take (i + 1) = L.take i ++ [p] := by rw [List.take_add_one, opt]; rfl
    have hsp := hok p mem
    obtain ⟨x, w⟩ := p
    obtain ⟨hfit, hel, hcf⟩ := hsp
    simp only at hfit hel hcf
    have hbad : x.okB = false → allOk L = false := fun h => by
      rw [Bool.eq_false_iff]
      intro h'
      rw [List.all_eq_true.1 h' (x, w) mem] at h; cases h
    have hlen : a.length ≤ 1000 * 20010 := by
      rw [ha]
      have h1 := textL_bound (L := L.take i) (fun q hq => hok q (List.mem_of_mem_take hq)) hall
      have h2 : (L.take i).length ≤ 1000 := by rw [List.length_take]; omega
      exact Nat.le_trans h1 (Nat.mul_le_mul h2 (Nat.le_refl _))
    have hone := hel.one
    have hcel := hel.cells
    have helk := hel.ok
    have heu := elemsUnbox hel
    have hell := hel.len
    have s8 : setPart [GV.int .i64 0, .int .i64 0, .int .i64 0, .int .i64 0, .int .i64 0, .int .i64 0, .int .u8 0, .nilsl] 0 (stpC x w) = some (stpC x w) := rfl
    have hbare := ref_bare x w hel H
    simp only [stpG] at hbare
    have hnum := ref_numbers x hfit w H
    simp only [stpG] at hnum
    by_cases k1 : x.k < 1
    · have hk : x.okB = false := by simp [Stp.okB]; intro; omega
      simp [h13', hI, hh, ix, opt, get, spG, stpG, stpC, setPart, hone, hcel, helk, heu, k1]
      exact fun _ => hr _ _ (hbad hk) (by simp) (by simp)
    by_cases k11 : 11 < x.k
    · have hk : x.okB = false := by simp [Stp.okB]; intro; omega
      simp [h13', hI, hh, ix, opt, get, spG, stpG, stpC, setPart, hone, hcel, helk, heu, k1, k11]
      exact fun _ => hr _ _ (hbad hk) (by simp) (by simp)
    cases hpl : x.plainB with
    | false =>
      have hk : x.okB = false := by simp [Stp.okB, hpl]
      rw [hpl] at hbare
      simp only [stpC] at hbare
      simp [h13', hI, hh, ix, opt, get, spG, stpG, stpC, setPart, hone, hcel, helk, heu, k1, k11, hbare]
      exact fun _ => hr _ _ (hbad hk) (by simp) (by simp)
    | true =>
      have hpc : x.chs.length ≤ 1000 := by
        simp only [Stp.plainB, Bool.and_eq_true, decide_eq_true_eq] at hpl
        rcases hpl.2.2 with h | h <;> omega
      rw [hpl] at hbare
      simp only [stpC] at hbare hnum
      obtain ⟨kn, hkn, hn12, hopt⟩ := nth_nam (k := x.k) ⟨by omega, by omega⟩
      have hix : gIx 12 (.int .i64 (kn : Int)) = some kn := by simp only [gIx]; rw [if_pos (by omega)]; simp
      have hix' : gIx 12 (.int .i64 x.k) = some kn := by rw [hkn]; exact hix
      have hnl := (nam_word (k := x.k) ⟨by omega, by omega⟩).2.2.2
      have e1 := catB (a := a) (b := nthL namL x.k) (by omega)
      simp [h13', hI, hh, ix, opt, get, spG, stpG, stpC, setPart, hone, hcel, helk, heu, k1, k11, hbare, nam_set, nam_oks, nam_len, nam_row, hix', hopt, strG, e1, hnum]
      rw [wp_blockK, wp_seqK, wp_blockK]
      have hnb := numsL_bounds (x := x)
      refine tnums_loop (numsL x) hnb _ (.sl _ .exact) (a ++ nthL namL x.k) (by simp; omega) _ _ H _ (by simp) (by simp) (by simp) (by simp) ?_ ?_
      · intro l1 g1 hn1 h41 hf1
        have h6 := hf1.get 6 rfl (v := .lbox g (stpC x w)) (by simp [stpC]) rfl
        rw [nums_all hfit] at hn1
        have hnl2 : ((numsL x).flatMap fun n => 32 :: Lib.itoa n).length ≤ 6 * 21 := by
          have h1 := flat_len 32 20 ((numsL x).map Lib.itoa) (fun u hu => by
            obtain ⟨m, hm, rfl⟩ := List.mem_map.1 hu
            have := List.all_eq_true.1 ((nums_all hfit).trans hn1) m hm
            simp only [okN, decide_eq_true_eq] at this
            exact itoa_len9 m (by omega) (by omega))
          simp only [List.flatMap_map, List.length_map] at h1
          omega
        have hchs : ∀ (o : List UInt8), o.length ≤ 45000000 → o = a ++ nthL namL x.k ++ (numsL x).flatMap (fun n => 32 :: Lib.itoa n) ++ (if x.k = 1 then 32 :: Lib.itoa x.chs.length else []) ++ [10] → ∀ l2 g2, lget l2 71 = w → lget l2 72 = .int .i64 x.chs.length → lget l2 73 = .int .i64 0 → lget l2 4 = .str (mkB o) →
            ∀ K', (∀ l' g', allOk (L.take (i + 1)) = true → lget l' 4 = .str (mkB (textL ((L.take (i + 1)).map (·.1)))) → K' (.exit 4, ⟨⟨l', g'⟩, H⟩)) → (∀ l' g', allOk L = false → lget l' 2 = .str ⟨#[]⟩ → lget l' 3 = .bool false → K' (.ret, ⟨⟨l', g'⟩, H⟩)) → optW (erun T (.loop L1_hedgerowref29_Text) ⟨⟨l2, g2⟩, H⟩) K' := by
          intro o hol ho l2 g2 e71 e72 e73 e4 K' hk1 hk2
          refine tchs_loop x.chs hpc hcf w hel o (by omega) l2 g2 H K' e71 e72 e73 e4 ?_ ?_
          · intro l3 g3 hc3 h43 _
            have hxok : x.okB = true := by
              simp only [Stp.okB, hpl, hn1, hc3, Bool.and_true, decide_eq_true_eq]; omega
            refine hk1 l3 g3 (by rw [htake]; simp only [allOk, List.all_append] at *; rw [hall]; simp [hxok]) ?_
            rw [h43, htake, List.map_append, textL_append, ← ha]
            congr 2
            simp only [List.map_cons, List.map_nil, textL, List.flatMap_cons, List.flatMap_nil, List.append_nil]
            rw [text_pre, ho]
            simp only [List.append_assoc]
          · intro l3 g3 hc3 h23 h33
            exact hk2 l3 g3 (hbad (by simp [Stp.okB, hc3])) h23 h33
        have hd := fun H => ref_Digits x.chs.length (by omega) (by omega) H
        simp only [mk_mkB] at hd
        have hil := itoa_len9 (x.chs.length : Int) (by omega) (by omega)
        have e3 : mkB [32] = (⟨#[32]⟩ : ByteArray) := rfl
        have e10 : mkB [10] = (⟨#[10]⟩ : ByteArray) := rfl
        obtain ⟨o1, ho1⟩ : ∃ o1, a ++ nthL namL x.k ++ (numsL x).flatMap (fun n => 32 :: Lib.itoa n) = o1 := ⟨_, rfl⟩
        have hol1 : o1.length ≤ 40000000 := by rw [← ho1]; simp only [List.length_append]; omega
        rw [ho1] at h41 hchs
        have c7 : (stpC x w)[7]? = some w := rfl
        have c0 : (stpC x w)[0]? = some (.int .i64 x.k) := rfl
        by_cases hk1 : x.k = 1
        · have f1 := catB (a := o1) (b := [32]) (by simp; omega)
          have f2 := catB (a := o1 ++ [32]) (b := Lib.itoa x.chs.length) (by simp; omega)
          have f3 := catB (a := o1 ++ 32 :: Lib.itoa x.chs.length) (b := [10]) (by simp; omega)
          rw [e3] at f1
          rw [e10] at f3
          rw [if_pos hk1] at hchs
          simp [h6, h41, c7, c0, hk1, hell, heu, helk, hd, f1, f2, f3]
          rw [wp_blockK]
          refine hchs (o1 ++ 32 :: Lib.itoa x.chs.length ++ [10]) (by simp; omega) (by simp) _ _ (by simp [heu]) (by simp) (by simp) (by simp) _ ?_ ?_
          · intro l' g' k1 k2
            simp
            exact fun _ => ⟨_, ⟨rfl, k1⟩, by simpa using k2⟩
          · intro l' g' k1 k2 k3
            simp
            exact fun _ => hr _ _ k1 k2 k3
        · have f3 := catB (a := o1) (b := [10]) (by simp; omega)
          rw [e10] at f3
          rw [if_neg hk1] at hchs
          simp [h6, h41, c7, c0, hk1, hell, heu, helk, f3]
          rw [wp_blockK]
          refine hchs (o1 ++ [10]) (by simp; omega) (by simp) _ _ (by simp [heu]) (by simp) (by simp) (by simp) _ ?_ ?_
          · intro l' g' k1 k2
            simp
            exact fun _ => ⟨_, ⟨rfl, k1⟩, by simpa using k2⟩
          · intro l' g' k1 k2 k3
            simp
            exact fun _ => hr _ _ k1 k2 k3
      · intro l1 g1 hn1 h21 h31
        rw [nums_all hfit] at hn1
        have hk : x.okB = false := by simp [Stp.okB, hn1]
        simp
        exact fun _ => hr _ _ (hbad hk) h21 h31
  · intro a l g H ⟨hH, ha, hall⟩ hh hf
    subst hH
    simp only [List.take_length] at ha hall
    simp only [Holds_cons, Holds_nil, and_true] at hh
    exact he l g hall (by rw [hh, ha])

theorem refText (L : List SP) (hL : L.length ≤ 1000) (hok : ∀ p ∈ L, SOk p) (v : GV) (hv : Elems 8 v (L.map spG)) (H : GH) : ecall T f_hedgerowref29_Text [v] H = some (.tup [.str (mkB (txtL L)), .bool (allOk L)], H) := by
  have hl := hv.len
  have hu := elemsUnbox hv
  apply optW.eq
  rw [ecall_0 T_hedgerowref29_Text rfl (by simp [F_hedgerowref29_Text]), wp_fin1]
  simp only [F_hedgerowref29_Text, b_hedgerowref29_Text]
  simp [hl, hu]
  rw [wp_seqK, wp_blockK]
  refine text_loop L hL hok v hv _ _ H _ (by simp [hu]) (by simp) (by simp) (by simp) ?_ ?_
  · intro l g h1 h2
    simp [h2, txtL, h1]
  · intro l g h1 h2 h3
    simp [h2, h3, txtL, h1]

theorem scriptTexts_ok (L : List SP) (hbig : ∀ p ∈ L, SBig p) (hL : L.length ≤ 9223372036854775807) (v : GV) (hv : Elems 8 v (L.map spG)) (H : GH) : ecall T f_hedgerowlaw29_ScriptTexts [v] H = some (.bool true, H) := by
  have hu := elemsUnbox hv
  have hvk := hv.ok
  obtain ⟨b, hfew, hb⟩ := few_ok L hbig hL v hv H
  apply optW.eq
  rw [ecall_0 T_hedgerowlaw29_ScriptTexts rfl (by simp [F_hedgerowlaw29_ScriptTexts]), wp_fin1]
  simp only [F_hedgerowlaw29_ScriptTexts, b_hedgerowlaw29_ScriptTexts]
  cases b with
  | false => simp [fixed_ok, hfew, hu, hvk]
  | true =>
    obtain ⟨h30, hall⟩ := hb rfl
    have hok : ∀ p ∈ L, SOk p := fun p hp => (hall p hp).1
    have c1 := fun H => script_Text L (by omega) hok v hv H
    have c2 := fun H => refText L (by omega) hok v hv H
    cases ha : allOk L with
    | false =>
      rw [ha] at c1 c2
      simp [fixed_ok, hfew, hu, hvk, c1, c2]
    | true =>
      rw [ha] at c1 c2
      have htx : txtL L = textL (L.map (·.1)) := by simp [txtL, ha]
      rw [htx] at c1 c2
      obtain ⟨r, hr, L', v', e1, e2, e3, rfl⟩ := read_back (allOk_good ha hok) (by simp; omega) H
      have hsame := Same_ok L L' e1.symm hok e2 (fun p hp => chs_small (List.all_eq_true.1 ha p hp)) (by omega) v v' hv e3 H
      have hu' := elemsUnbox e3
      have hvk' := e3.ok
      simp [fixed_ok, hfew, hu, hvk, c1, c2, hr, hsame, hu', hvk']

theorem readG_len : ∀ (n : Nat) (rest : List UInt8) (bad : Bool) (done : List Stp), (readG n rest bad done).1.length ≤ done.length + n
  | 0, rest, bad, done => by simp [readG]
  | n + 1, rest, bad, done => by
    simp only [readG]
    split
    · simp
    · have := readG_len n (stepR rest bad).2.1 (stepR rest bad).2.2 (done ++ [(stepR rest bad).1])
      rw [List.length_append, List.length_cons, List.length_nil] at this
      omega

theorem cut_len (q : List UInt8) : (Lib.cut q [10]).1.length ≤ q.length := by
  rcases cut_cases 10 q with ⟨w, r, _, h1, h2⟩ | ⟨_, h2⟩
  · rw [h2, h1]; simp
  · rw [h2]; exact Nat.le_refl _

theorem scriptReads_ok (s : List UInt8) (H : GH) : ecall T f_hedgerowlaw29_ScriptReads [.str (mkB s)] H = some (.bool true, H) := by
  apply optW.eq
  rw [ecall_0 T_hedgerowlaw29_ScriptReads rfl (by simp [F_hedgerowlaw29_ScriptReads]), wp_fin1]
  simp only [F_hedgerowlaw29_ScriptReads, b_hedgerowlaw29_ScriptReads]
  by_cases h600 : 600 < s.length
  · have h600' : (600 : Int) < s.length := by omega
    simp [fixed_ok, h600, h600']
  · have h600' : ¬ (600 : Int) < s.length := by omega
    have hsh : shortL s := fun p q e => by
      have h1 := cut_len q
      have h2 := congrArg List.length e
      rw [List.length_append] at h2
      omega
    have hlen : (readG (s.length + 1) s false []).1.length ≤ 1000 := by
      have := readG_len (s.length + 1) s false []
      rw [List.length_nil] at this
      omega
    obtain ⟨r, hr, h⟩ := script_Read s hsh (by omega) hlen H
    rcases h with ⟨h1, rfl⟩ | ⟨L, v, h1, h2, h3, rfl⟩
    · simp [fixed_ok, h600, h600', hr]
    · have hk : (readG (s.length + 1) s false []).1 = L.map (·.1) ∧ allOk L = true ∧ textL (L.map (·.1)) = s := by
        simp only [readL] at h1
        split at h1
        · rename_i hh
          injection h1 with h1
          rw [h1] at hh
          exact ⟨h1, by rw [allOk_eq]; exact hh.2.1, hh.2.2⟩
        · cases h1
      obtain ⟨k1, k2, k3⟩ := hk
      have hLl : L.length ≤ 1000 := by rw [k1, List.length_map] at hlen; exact hlen
      have hu := elemsUnbox h3
      have hvk := h3.ok
      have c2 := refText L hLl h2 v h3 H
      have htx : txtL L = s := by simp [txtL, k2, k3]
      rw [htx, k2] at c2
      simp [fixed_ok, h600, h600', hr, hu, hvk, c2]
end Go.Proofs.YtalhcaadpgadkaaGreatDoor
