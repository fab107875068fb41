/- Own work: the zaL machine and what it shows, part Gr. -/
import Derived.Test.YtchjbidfmhmmhaaGreatDoorLv
import Derived.Test.YtchjbidfmhmmhaaGreatDoorVs
import Derived.Test.YtchjbidfmhmmhaaGreatDoorVp
set_option linter.all false
namespace Go.Proofs.YtchjbidfmhmmhaaGreatDoor
open Go.Sh
set_option maxHeartbeats 4000000
set_option maxRecDepth 100000
def zkw (R:List Evt) (x:El):Bool := !(zjy R x).isEmpty
def zgQ (R:List Evt) (key:List UInt8):Bool := zkw R (zaY key)
def zdP (R:List Evt) (x:Lk):Bool := zkw R (zfV x) && (zgQ R x.f && zgQ R x.t)
def zd7 (x y:Lk):Bool := decide (zey y x < 0)
def zbv (R:List Evt):List Lk := (((zbj R).filter fun e => decide (e.k = 3) && zdP R (zbZ e)).map zbZ).foldl (fun out x => zin (zd7 x) x out) []
def zc5 (R:List Evt):List El := (zbj R).filter (zkw R)
theorem zlY {R:List Evt} {x:El} : x ∈ zc5 R ↔ zkw R x = true := by
  refine ⟨fun h => (List.mem_filter.1 h).2,fun h => List.mem_filter.2 ⟨?_,h⟩⟩
  rw [(zc8 R).2]
  unfold zkw at h
  cases hl:zjy R x with
  | nil => rw [hl] at h; cases h
  | cons a l =>
    have ha:a ∈ zjy R x := by rw [hl]; exact List.mem_cons_self
    obtain ⟨h1,h2⟩ := List.mem_filter.1 ha
    simp only [zcE,Bool.and_eq_true,decide_eq_true_eq] at h2
    exact ⟨a,h1,h2.1.1⟩
theorem zq0 (R:List Evt):(zc5 R).Pairwise fun a b => zdj a b < 0 := (zc8 R).1.sublist List.filter_sublist
theorem zm7 {R:List Evt} (h:Row R) {x:El} (hx:x ∈ zbj R):zbq x.k x.a x.b x.c x.d = true := by
  obtain ⟨e,he,rfl⟩ := ((zc8 R).2 x).1 hx
  exact zjY ((zgZ rfl h.causl).2 e he).1
theorem zkx {x:El} (h:zbq x.k x.a x.b x.c x.d = true) (hk:x.k = 3):x = zfV (zbZ x) := by
  obtain ⟨k,a,b,c,d⟩ := x
  simp only at hk; subst hk
  simp only [zbq] at h
  simp at h
  obtain ⟨_,rfl⟩ := h
  rfl
theorem zob (R:List Evt) (a:List UInt8):zaM (zc5 R) (zaY a) = zgQ R a := by
  have:decide (zaY a ∈ zc5 R) = zkw R (zaY a) := by
    rw [Bool.eq_iff_iff,decide_eq_true_eq]; exact zlY
  simp only [zaM,this]
  simp [zgQ]
theorem zoc (R:List Evt) (x:Lk):zaM (zc5 R) (zfV x) = zdP R x := by
  have h:∀ y:El,decide (y ∈ zc5 R) = zkw R y := fun y => by
    rw [Bool.eq_iff_iff,decide_eq_true_eq]; exact zlY
  simp only [zaM,h,zdP,zgQ]
  simp
theorem zlZ (R:List Evt) (p:El → Bool):(zc5 R).filter p = (zbj R).filter fun e => zkw R e && p e := by
  unfold zc5
  rw [List.filter_filter]
  congr 1
  funext e
  rw [Bool.and_comm]
theorem zf8 {R:List Evt} (h:Row R) (vals:El → List Vl):(zaN vals (zc5 R) (zc5 R)).links = ((zbj R).filter fun e => decide (e.k = 3) && zdP R (zbZ e)).map zbZ := by
  simp only [zaN]
  rw [zlZ]
  congr 1
  refine List.filter_congr fun e he => ?_
  by_cases hk:e.k = 3
  · have e1 := zkx (zm7 h he) hk
    have e2:zaM (zc5 R) e = zdP R (zbZ e) := by rw [e1]; exact zoc R _
    rw [e2]
    have e3:zkw R e = zkw R (zfV (zbZ e)) := by rw [← e1]
    simp only [hk,decide_true,Bool.true_and,e3,zdP]
    cases zkw R (zfV (zbZ e)) <;> rfl
  · simp [hk]
theorem zm8 {β:Type} {c:β → β → Int} (hc:CmpOk c) (x:β):∀ out:List β,(∀ y ∈ out,c y x ≠ 0) → out.Pairwise (fun a b => c a b < 0) → (zin (fun y => decide (c y x < 0)) x out).Pairwise fun a b => c a b < 0
  | [],_,_ => List.pairwise_singleton _ _
  | y :: out,hn,h => by
    have h' := List.pairwise_cons.1 h
    rw [zhl]
    split
    · rename_i hy
      refine List.pairwise_cons.2 ⟨fun z hz => ?_,zm8 hc x out (fun z hz => hn z (List.mem_cons_of_mem _ hz)) h'.2⟩
      rcases insP_mem.1 hz with rfl | hz
      · exact of_decide_eq_true hy
      · exact h'.1 z hz
    · rename_i hy
      have h1:¬ c y x < 0 := fun hh => hy (decide_eq_true hh)
      have h2 := hn y List.mem_cons_self
      have h3 := hc.swap y x
      have hxy:c x y < 0 := by omega
      refine List.pairwise_cons.2 ⟨fun z hz => ?_,h⟩
      rcases List.mem_cons.1 hz with rfl | hz
      · exact hxy
      · have hz' := h'.1 z hz
        have t1 := hc.trans x y z (by omega) (by omega)
        rcases Int.lt_or_eq_of_le t1 with h5 | h5
        · exact h5
        · exfalso
          have e := hc.zero x z h5
          subst e
          have := hc.swap y x
          omega
theorem zwE {β:Type} {c:β → β → Int} (hc:CmpOk c) {l l':List β} (h:l.Pairwise fun a b => c a b < 0) (h':l'.Pairwise fun a b => c a b < 0) (hm:∀ x,x ∈ l ↔ x ∈ l'):l = l' := by
  have nd:∀ {l:List β},(l.Pairwise fun a b => c a b < 0) → l.Nodup := fun h => h.imp fun {a b} hab e => by subst e; rw [hc.self] at hab; omega
  have hp:l.Perm l' := (List.perm_ext_iff_of_nodup (nd h) (nd h')).2 hm
  exact List.Perm.eq_of_pairwise (le := fun a b => c a b < 0) (fun a b _ _ h1 h2 => by have := hc.swap a b; omega) h h' hp
theorem zm9 {β:Type} {c:β → β → Int} (hc:CmpOk c):∀ (l out:List β),(out ++ l).Nodup → out.Pairwise (fun a b => c a b < 0) →
    (l.foldl (fun out x => zin (fun y => decide (c y x < 0)) x out) out).Pairwise (fun a b => c a b < 0) ∧ (l.foldl (fun out x => zin (fun y => decide (c y x < 0)) x out) out).Perm (out ++ l)
  | [],out,_,h => ⟨h,by simp⟩
  | x :: l,out,hn,h => by
    have hx:∀ y ∈ out,c y x ≠ 0 := fun y hy hz => by
      have e := hc.zero y x hz
      subst e
      rw [List.nodup_append] at hn
      exact hn.2.2 y hy y List.mem_cons_self rfl
    have hp := zrw (fun y => decide (c y x < 0)) x out
    have hp2:(zin (fun y => decide (c y x < 0)) x out ++ l).Perm (out ++ x :: l) := (hp.append_right l).trans (List.perm_middle.symm)
    obtain ⟨i1,i2⟩ := zm9 hc l (zin (fun y => decide (c y x < 0)) x out) (hp2.nodup_iff.2 hn) (zm8 hc x out hx h)
    exact ⟨i1,i2.trans hp2⟩
theorem zod {β:Type} {c:β → β → Int} (hc:CmpOk c) {l:List β} (hn:l.Nodup):(za4 (ltC c) l).Pairwise fun a b => c a b < 0 := by
  have h1 := zcZ (lt := ltC c) (hc.swo fun x:β => x) l
  have h2:(za4 (ltC c) l).Nodup := (za2 l).nodup_iff.2 hn
  refine List.Pairwise.imp₂ (fun a b h1 h2 => ?_) h1 h2
  have h3:¬ c b a < 0 := of_decide_eq_false h1
  have h4 := hc.swap a b
  rcases Int.lt_or_eq_of_le (show c a b ≤ 0 by omega) with h5 | h5
  · exact h5
  · exact absurd (hc.zero a b h5) h2
theorem zuq {A:List El} (h:∀ e ∈ A,e = zfV (zbZ e)) (hn:A.Nodup):(A.map zbZ).Nodup := by
  induction A with
  | nil => simp
  | cons e A ih =>
    rw [List.map_cons,List.nodup_cons]
    rw [List.nodup_cons] at hn
    refine ⟨fun hm => ?_,ih (fun x hx => h x (List.mem_cons_of_mem _ hx)) hn.2⟩
    obtain ⟨x,hx,hxe⟩ := List.mem_map.1 hm
    have e1 := h x (List.mem_cons_of_mem _ hx)
    have e2 := h e List.mem_cons_self
    rw [hxe,← e2] at e1
    exact hn.1 (e1 ▸ hx)
theorem zf9 {R:List Evt} (h:Row R) (vals:El → List Vl):za4 (ltC zey) (zaN vals (zc5 R) (zc5 R)).links = zbv R ∧ (zbv R).Nodup := by
  rw [zf8 h]
  unfold zbv
  have hn0:(zbj R).Nodup := (zc8 R).1.imp fun {a b} hab e => by subst e; rw [ordE_ok.self] at hab; omega
  have hn:(((zbj R).filter fun e => decide (e.k = 3) && zdP R (zbZ e)).map zbZ).Nodup := zuq (fun e he => by
    obtain ⟨h1,h2⟩ := List.mem_filter.1 he
    simp only [Bool.and_eq_true,decide_eq_true_eq] at h2
    exact zkx (zm7 h h1) h2.1) (hn0.filter _)
  generalize (((zbj R).filter fun e => decide (e.k = 3) && zdP R (zbZ e)).map zbZ) = A at hn
  have f1 := zm9 ordL_ok A [] (by simpa using hn) List.Pairwise.nil
  rw [List.nil_append] at f1
  refine ⟨zwE ordL_ok (zod ordL_ok hn) f1.1 fun x => ?_,f1.2.nodup_iff.2 hn⟩
  rw [(za2 A).mem_iff]
  exact f1.2.mem_iff.symm
end Go.Proofs.YtchjbidfmhmmhaaGreatDoor
