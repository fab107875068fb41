/- Own work: the shadow machine and what it shows, part Sa. -/
import Derived.Test.YthmplnbogdfajaaGreatDoorRe
set_option linter.all false
namespace Go.Proofs.YthmplnbogdfajaaGreatDoor
open Go.Sh
set_option maxRecDepth 100000
def fitsR : List Leaf → List GV → Bool
  | [], [] => true
  | l :: ls, x :: xs => decide (leafEq l x x = some true) && fitsR ls xs
  | _, _ => false
theorem leaves_refl : ∀ (ls : List Leaf) (xs : List GV), fitsR ls xs = true → leavesEq ls xs xs = some true
  | [], [], _ => rfl
  | l :: ls, x :: xs, h => by
    simp only [fitsR, Bool.and_eq_true, decide_eq_true_eq] at h
    rw [leavesEq, h.1, leaves_refl ls xs h.2]; rfl
  | [], _ :: _, h => by cases h
  | _ :: _, [], h => by cases h
theorem fitsR_append : ∀ (a : List Leaf) (x : List GV) (b : List Leaf) (y : List GV), fitsR a x = true → fitsR b y = true → fitsR (a ++ b) (x ++ y) = true
  | [], [], _, _, _, h => h
  | l :: ls, x :: xs, b, y, h, h' => by
    simp only [fitsR, Bool.and_eq_true] at h
    simp only [List.cons_append, fitsR, h.1, fitsR_append ls xs b y h.2 h', Bool.and_self]
  | [], _ :: _, _, _, h, _ => by cases h
  | _ :: _, [], _, _, h, _ => by cases h
theorem fitsR_ints : ∀ (l : List Int), fitsR (List.replicate l.length (.int .i64)) (l.map fun n => GV.int .i64 n) = true
  | [] => rfl
  | n :: l => by
    simp only [List.length_cons, List.replicate_succ, List.map_cons, fitsR, fitsR_ints l, Bool.and_true]
    simp [leafEq]
theorem vec_refl (kv : List Int) (hk : kv.length = 16) : leavesEq [.int .i64, .int .i64, .int .i64, .int .i64, .int .i64, .int .i64, .int .i64, .int .i64, .int .i64, .int .i64, .int .i64, .int .i64, .int .i64, .int .i64, .int .i64, .int .i64] (kv.map fun n => GV.int .i64 n) (kv.map fun n => GV.int .i64 n) = some true := by
  have := leaves_refl _ _ (fitsR_ints kv)
  rw [hk] at this
  exact this
theorem ev_refl (e : Evt) (hp : e.past.length = 16) : leavesEq [.int .i64, .int .i64, .int .i64, .int .i64, .int .i64, .int .i64, .int .i64, .int .i64, .int .i64, .int .i64, .int .i64, .int .i64, .int .i64, .int .i64, .int .i64, .int .i64, .int .i64, .int .i64, .int .i64, .int .i64, .str, .str, .str, .str, .int .i64, .int .i64, .str] (evC e) (evC e) = some true := by
  have h1 := fitsR_ints e.past
  rw [hp] at h1
  have h2 : fitsR [.int .i64, .int .i64, .str, .str, .str, .str, .int .i64, .int .i64, .str] (evTl e) = true := by simp [fitsR, evTl, elC, leafEq, ba_self]
  have h3 := fitsR_append _ _ _ _ h1 h2
  have h4 : fitsR ([.int .i64, .int .i64] ++ (List.replicate 16 (.int .i64) ++ [.int .i64, .int .i64, .str, .str, .str, .str, .int .i64, .int .i64, .str])) (evC e) = true :=
    fitsR_append [.int .i64, .int .i64] [.int .i64 e.r, .int .i64 e.c] _ _ (by simp [fitsR, leafEq, ba_self]) h3
  exact leaves_refl _ _ h4
theorem same_entries (L : List Ent) (hL : L.length ≤ 100000) (u v : GV) (hu : Elems 5 u (L.map entG)) (hv : Elems 5 v (L.map entG)) (H : GH) :
    ecall T f_x42 [u, v] H = some (.bool true, H) := by
  have lu := hu.len
  have lv := hv.len
  have uu := elemsUnbox hu
  have uv := elemsUnbox hv
  apply optW.eq
  rw [ecall_0 T_x42 rfl (by simp [F_x42]), wp_fin1]
  simp only [F_x42, b_x42]
  simp [uu, uv, lu, lv]
  rw [wp_seqK, wp_blockK]
  refine range_loop (T := T) (n := L.length) (A := Unit) (fun _ _ => []) (fun _ _ _ H' => H' = H) (c := 14) (b := 0) (I := 13) (N := 12) (d := 25) rfl (by omega) (by decide) ⟨rfl, rfl⟩ (by simp) ?_ ?_ 0 () _ _ H (by omega) rfl (by simp) (.refl _ _ _) (by simp) (by simp)
  · intro i a l g H' hi hH hh hf hI
    subst hH
    have h0 := hf.get 0 rfl (v := u) (by simp) (by simp [hu.boxy])
    have h1 := hf.get 1 rfl (v := v) (by simp) (by simp [hv.boxy])
    obtain ⟨lt, ix, opt, get, ⟨t, su⟩, wr_, mem⟩ := at_ok (e := entG) hu hi (by omega)
    obtain ⟨t2, sv⟩ := hv.is_sl (i := i) (x := entG (L[i]'hi)) (by simp [hi])
    generalize L[i]'hi = e at opt get mem sv
    have hr := ent_refl e
    have hlc : (entC e).length = 5 := rfl
    have hll : List.take 5 (entC e) = entC e := rfl
    rw [su] at h0
    rw [sv] at h1
    simp [h0, h1, hI, ix, opt, get, hr, hlc, hll]
  · intro a l g H' hH hh hf
    subst hH
    simp
theorem same_events (E : List Evt) (hE : E.length ≤ 100000) (hp : ∀ e ∈ E, e.past.length = 16) (u v : GV) (hu : Elems 27 u (E.map evG)) (hv : Elems 27 v (E.map evG)) (H : GH) :
    ecall T f_x41 [u, v] H = some (.bool true, H) := by
  have lu := hu.len
  have lv := hv.len
  have uu := elemsUnbox hu
  have uv := elemsUnbox hv
  apply optW.eq
  rw [ecall_0 T_x41 rfl (by simp [F_x41]), wp_fin1]
  simp only [F_x41, b_x41]
  simp [uu, uv, lu, lv]
  rw [wp_seqK, wp_blockK]
  refine range_loop (T := T) (n := E.length) (A := Unit) (fun _ _ => []) (fun _ _ _ H' => H' = H) (c := 14) (b := 0) (I := 13) (N := 12) (d := 25) rfl (by omega) (by decide) ⟨rfl, rfl⟩ (by simp) ?_ ?_ 0 () _ _ H (by omega) rfl (by simp) (.refl _ _ _) (by simp) (by simp)
  · intro i a l g H' hi hH hh hf hI
    subst hH
    have h0 := hf.get 0 rfl (v := u) (by simp) (by simp [hu.boxy])
    have h1 := hf.get 1 rfl (v := v) (by simp) (by simp [hv.boxy])
    obtain ⟨lt, ix, opt, get, ⟨t, su⟩, wr_, mem⟩ := at_ok (e := evG) hu hi (by omega)
    obtain ⟨t2, sv⟩ := hv.is_sl (i := i) (x := evG (E[i]'hi)) (by simp [hi])
    generalize E[i]'hi = e at opt get mem sv
    have hr := ev_refl e (hp e mem)
    have hlc := ev_len (hp e mem)
    have hll : List.take 27 (evC e) = evC e := List.take_of_length_le (by rw [hlc]; exact Nat.le_refl _)
    rw [su] at h0
    rw [sv] at h1
    simp [h0, h1, hI, ix, opt, get, hr, hlc, hll]
  · intro a l g H' hH hh hf
    subst hH
    simp
theorem alike_ok (p : Itm) (u v : GV) (hL : p.L.length ≤ 100000) (hu : Elems 5 u (p.L.map entG)) (hv : Elems 5 v (p.L.map entG)) (H : GH) :
    ecall T f_x51 [.agg (itemC p.x u), .agg (itemC p.x v)] H = some (.bool true, H) := by
  have he := fun H => same_entries p.L hL u v hu hv H
  have hr := el_refl p.x
  simp only [elC] at hr
  apply optW.eq
  rw [ecall_0 T_x51 rfl (by simp [F_x51]), wp_fin1]
  simp [F_x51, b_x51, itemC, elC, hr, hu.ok, hv.ok, hu.one, hv.one, hu.unb, hv.unb, he]
theorem same_items (I J : List IP) (hIJ : I.map (·.1) = J.map (·.1)) (hI : I.length ≤ 100000) (hoki : ∀ p ∈ I, IOk p) (hokj : ∀ p ∈ J, IOk p) (u v : GV) (hu : Elems 6 u (I.map ipG)) (hv : Elems 6 v (J.map ipG)) (H : GH) :
    ecall T f_x40 [u, v, .func f_x51 [] []] H = some (.bool true, H) := by
  have hl : J.length = I.length := by have := congrArg List.length hIJ; simpa using this.symm
  have lu := hu.len
  have lv := hv.len
  have uu := elemsUnbox hu
  have uv := elemsUnbox hv
  apply optW.eq
  rw [ecall_0 T_x40 rfl (by simp [F_x40]), wp_fin1]
  simp only [F_x40, b_x40]
  simp [uu, uv, lu, lv, hl]
  rw [wp_seqK, wp_blockK]
  refine range_loop (T := T) (n := I.length) (A := Unit) (fun _ _ => []) (fun _ _ _ H' => H' = H) (c := 18) (b := 0) (I := 17) (N := 16) (d := 31) rfl (by omega) (by decide) ⟨rfl, rfl⟩ (by simp) ?_ ?_ 0 () _ _ H (by omega) rfl (by simp) (.refl _ _ _) (by simp) (by simp)
  · intro i a l g H' hi hH hh hf hIx
    subst hH
    have h15 := hf.get 15 rfl (v := u) (by simp [uu]) (by simp [hu.boxy])
    have h1 := hf.get 1 rfl (v := v) (by simp) (by simp [hv.boxy])
    have h2 := hf.get 2 rfl (v := .func f_x51 [] []) (by simp) rfl
    obtain ⟨lt, ix, opt, get, ⟨t, su⟩, wr_, mem⟩ := at_ok (e := ipG) hu hi (by omega)
    obtain ⟨lt2, ix2, opt2, get2, ⟨t2, sv⟩, _, mem2⟩ := at_ok (e := ipG) hv (by omega : i < J.length) (by omega)
    have hsame : (I[i]'hi).1 = (J[i]'(by omega)).1 := by
      have h1 : (I.map (·.1))[i]? = (J.map (·.1))[i]? := by rw [hIJ]
      have h2 : i < J.length := by omega
      simpa [hi, h2] using h1
    generalize I[i]'hi = p at opt get mem hsame
    generalize J[i]'(by omega) = q at opt2 get2 mem2 hsame
    obtain ⟨a1, x1⟩ := p
    obtain ⟨a2, x2⟩ := q
    simp only at hsame
    subst hsame
    have hp := hoki _ mem
    have hq := hokj _ mem2
    have hal := fun H => alike_ok a1 x1 x2 hp.L hp.el hq.el H
    simp only [itemC, elC, List.cons_append, List.nil_append] at hal
    rw [su] at h15
    rw [sv] at h1
    simp [h15, h1, h2, hIx, ix, ix2, opt, get, opt2, get2, itemC, elC, setPart, hp.el.one, hq.el.one, hp.el.ok, hq.el.ok, hal]
  · intro a l g H' hH hh hf
    subst hH
    simp
theorem snap_Same (kv : List Int) (hk : kv.length = 16) (I J : List IP) (hIJ : I.map (·.1) = J.map (·.1)) (hI : I.length ≤ 100000) (hoki : ∀ p ∈ I, IOk p) (hokj : ∀ p ∈ J, IOk p) (E : List Evt) (hE : E.length ≤ 100000) (hp : ∀ e ∈ E, e.past.length = 16)
    (ui ue vi ve : GV) (hui : Elems 6 ui (I.map ipG)) (hvi : Elems 6 vi (J.map ipG)) (hue : Elems 27 ue (E.map evG)) (hve : Elems 27 ve (E.map evG)) (H : GH) :
    ecall T f_x50 [.agg (snC kv ui ue), .agg (snC kv vi ve)] H = some (.bool true, H) := by
  have h1 := fun H => same_items I J hIJ hI hoki hokj ui vi hui hvi H
  have h2 := fun H => same_events E hE hp ue ve hue hve H
  have h3 := vec_refl kv hk
  have a1 := sn_len hk ui ue
  have a2 := sn_len hk vi ve
  have b1 := sn_take hk ui ue
  have b2 := sn_take hk vi ve
  have c1 := sn_16 hk ui ue
  have c2 := sn_16 hk vi ve
  have d1 := sn_17 hk ui ue
  have d2 := sn_17 hk vi ve
  have c1' := sn_16' hk ui ue
  have c2' := sn_16' hk vi ve
  have d1' := sn_17' hk ui ue
  have d2' := sn_17' hk vi ve
  apply optW.eq
  rw [ecall_0 T_x50 rfl (by simp [F_x50]), wp_fin1]
  have hf : GV.func 63 [] [] = GV.func f_x51 [] [] := rfl
  simp only [F_x50, b_x50, hf]
  simp [a1, a2, b1, b2, c1, c2, d1, d2, c1', c2', d1', d2', h3, hui.ok, hue.ok, hvi.ok, hve.ok, hui.unb, hue.unb, hvi.unb, hve.unb, h1, h2]
end Go.Proofs.YthmplnbogdfajaaGreatDoor
