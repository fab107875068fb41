/- Own work: the zaL machine and what it shows, part Lv. -/
import Derived.Test.YtchjbidfmhmmhaaGreatDoorCo
import Derived.Test.YtchjbidfmhmmhaaGreatDoorEl
set_option linter.all false
namespace Go.Proofs.YtchjbidfmhmmhaaGreatDoor
open Go.Sh
set_option maxHeartbeats 4000000
set_option maxRecDepth 100000
def zgA (v:List Int) (r c:Int):Bool := decide (c ≤ zc3 v r)
def zce (x:El) (y a:Evt):Bool := (decide (y.x = x) && !decide (y.op = 1)) && (!decide (y.r = a.r ∧ y.c = a.c) && zgA y.past a.r a.c)
def zcE (R:List Evt) (x:El) (a:Evt):Bool := (decide (a.x = x) && decide (a.op = 1 ∨ a.op = 3)) && !R.any fun y => zce x y a
def zjy (R:List Evt) (x:El):List Evt := R.filter (zcE R x)
theorem zgZ:∀ {l:List Evt} {v:List Int},v.length = 16 → zdk v l → (∀ k:Int,0 ≤ k → zc3 v k ≤ zc3 (zcg v l) k) ∧ ∀ y ∈ l,evB y = true ∧ zc3 v y.r < y.c ∧ y.c ≤ zc3 (zcg v l) y.r ∧ ∀ k:Int,0 ≤ k → k < 16 → zc3 y.past k ≤ zc3 (zcg v l) k
  | [],v,_,_ => ⟨fun k _ => Int.le_refl _,fun y h => by cases h⟩
  | e :: l,v,hv,hc => by
    obtain ⟨hf,hc⟩ := hc
    obtain ⟨hb,ha,hp⟩ := zg6 hf
    obtain ⟨r0,r1,c0,c1⟩ := zeW hb
    have hat := zwf hv (c := e.c) r0 r1
    obtain ⟨h1,h2⟩ := zgZ (v := zpL v e) (by simp [zpL,hv]) hc
    have up1:∀ k:Int,0 ≤ k → zc3 v k ≤ zc3 (zpL v e) k := fun k hk => by
      unfold zpL; rw [hat k hk]; split
      · rename_i e1; rw [e1]; omega
      · exact Int.le_refl _
    refine ⟨fun k hk => Int.le_trans (up1 k hk) (h1 k hk),fun y hy => ?_⟩
    rcases List.mem_cons.1 hy with rfl | hy
    · refine ⟨hb,by omega, ?_,fun k hk hk2 => ?_⟩
      · have := h1 y.r r0
        unfold zpL at this
        rw [hat y.r r0,if_pos rfl] at this
        exact this
      · have h3 := hp k.toNat (by omega)
        rw [Int.toNat_of_nonneg hk] at h3
        exact Int.le_trans h3 (Int.le_trans (up1 k hk) (h1 k hk))
    · obtain ⟨q1,q2,q3,q4⟩ := h2 y hy
      have := up1 y.r (zeW q1).1
      exact ⟨q1,by omega,q3,q4⟩
theorem zro (L:List Ent) (x:Ent):(zi9 L x).Perm (L ++ [x]) := by
  unfold zi9
  refine List.perm_middle.trans ?_
  refine (List.Perm.cons x (List.filter_append_perm (fun y => decide (zdm y x < 0)) L)).trans ?_
  exact (List.perm_append_singleton x L).symm
theorem zim {α β:Type} (f:α → β) (p:β → Bool) (l:List α):(l.map f).filter p = (l.filter fun a => p (f a)).map f := by
  rw [List.filter_map]; rfl
theorem zrp {l:List Evt} {e:Evt} (hl:zdk zero16 l) (hf:zjA (zcg zero16 l) e = true) (x:El) :
    zjy (l ++ [e]) x = (if x = e.x then ((if e.op = 1 then zjy l x else (zjy l x).filter fun a => !zb1 e.past a.r a.c) ++ if e.op = 1 ∨ e.op = 3 then [e] else []) else zjy l x) := by
  obtain ⟨_,hu⟩ := zgZ (v := zero16) rfl hl
  obtain ⟨hb,ha,hp⟩ := zg6 hf
  obtain ⟨r0,r1,c0,c1⟩ := zeW hb
  have hB:∀ a,zcE (l ++ [e]) x a = (zcE l x a && !zce x e a) := fun a => by
    unfold zcE
    rw [List.any_append]
    simp only [List.any_cons,List.any_nil,Bool.or_false,Bool.not_or,Bool.and_assoc]
  unfold zjy
  rw [List.filter_append]
  by_cases hx:x = e.x
  · rw [if_pos hx]
    have he : [e].filter (zcE (l ++ [e]) x) = if e.op = 1 ∨ e.op = 3 then [e] else [] := by
      have hn:zce x e e = false := by simp [zce]
      have hany:(l.any fun y => zce x y e) = false := by
        rw [List.any_eq_false]
        intro y hy
        obtain ⟨_,_,_,q4⟩ := hu y hy
        have := q4 e.r r0 r1
        have hk:zgA y.past e.r e.c = false := by unfold zgA; exact decide_eq_false (by omega)
        simp [zce,hk]
      have:zcE (l ++ [e]) x e = decide (e.op = 1 ∨ e.op = 3) := by
        rw [hB,hn]; unfold zcE; rw [hany,hx]; simp
      rw [List.filter_cons,this]
      by_cases ho:e.op = 1 ∨ e.op = 3
      · rw [if_pos ho,if_pos (decide_eq_true ho)]; rfl
      · rw [if_neg ho,if_neg (by simpa using ho)]; rfl
    rw [he]
    congr 1
    by_cases ho:e.op = 1
    · rw [if_pos ho]
      apply List.filter_congr
      intro a _
      rw [hB]; simp [zce,ho]
    · rw [if_neg ho,List.filter_filter]
      apply List.filter_congr
      intro a hm
      obtain ⟨q1,_,q3,_⟩ := hu a hm
      have hd := zeW q1
      have hne:¬ (e.r = a.r ∧ e.c = a.c) := fun h => by
        rw [← h.1,ha] at q3; omega
      have hk:zb1 e.past a.r a.c = zgA e.past a.r a.c := by
        have:zfW a.r a.c = true := by simp only [zfW,decide_eq_true_eq]; exact hd
        unfold zb1 zgA; rw [this,Bool.true_and]
      rw [hB,hk,Bool.and_comm]
      unfold zce
      rw [hx,decide_eq_false ho,decide_eq_false hne]
      simp
  · rw [if_neg hx]
    have h0:∀ a,zce x e a = false := fun a => by
      unfold zce; rw [decide_eq_false (fun h => hx h.symm)]; rfl
    have he : [e].filter (zcE (l ++ [e]) x) = [] := by
      have:zcE (l ++ [e]) x e = false := by
        rw [hB]; unfold zcE; rw [decide_eq_false (fun h => hx h.symm)]; rfl
      rw [List.filter_cons,this]; rfl
    rw [he,List.append_nil]
    apply List.filter_congr
    intro a _
    rw [hB,h0]; simp
theorem zrq {R:List Evt} (h:Row R) (x:El):∀ i ≤ R.length,(zcd (zbD (R.take i)) x).Perm ((zjy (R.take i) x).map zf0)
  | 0,_ => by rw [List.take_zero]; exact .refl _
  | i + 1,hi => by
    have ih := zrq h x i (by omega)
    obtain ⟨e,he⟩:∃ e,R[i]? = some e := ⟨R[i],List.getElem?_eq_getElem (by omega)⟩
    obtain ⟨hg,hf,hd⟩ := h.at_ he
    have ht:R.take (i + 1) = R.take i ++ [e] := by rw [List.take_add_one,he]; rfl
    have hc:zdk zero16 (R.take i) := by
      have := h.causl
      rw [← List.take_append_drop i R] at this
      exact (causl_app.1 this).1
    rw [hd,ht,zrp hc hf]
    unfold doF
    rw [znE]
    by_cases hx:x = e.x
    · rw [if_pos hx,if_pos hx,← hx]
      have hcut:(ziA e (zcd (zbD (R.take i)) x)).Perm ((if e.op = 1 then zjy (R.take i) x else (zjy (R.take i) x).filter fun a => !zb1 e.past a.r a.c).map zf0) := by
        unfold ziA
        by_cases ho:e.op = 1
        · rw [if_pos ho,if_pos ho]; exact ih
        · rw [if_neg ho,if_neg ho]
          have := ih.filter fun y => !zb1 e.past y.r y.c
          rw [zim] at this
          exact this
      unfold doL
      by_cases ho:e.op = 1 ∨ e.op = 3
      · rw [if_pos ho,if_pos ho,List.map_append]
        exact (zro _ _).trans (hcut.append_right _)
      · rw [if_neg ho,if_neg ho,List.append_nil]
        exact hcut
    · rw [if_neg hx,if_neg hx]; exact ih
theorem znc {R:List Evt} (h:Row R) (x:El):(zcd (zbD R) x).Perm ((zjy R x).map zf0) := by
  have := zrq h x R.length (Nat.le_refl _)
  rwa [List.take_length] at this
end Go.Proofs.YtchjbidfmhmmhaaGreatDoor
namespace Go.Proofs.YtchjbidfmhmmhaaGreatDoor
open Go.Sh
set_option maxHeartbeats 4000000
set_option maxRecDepth 100000
theorem zwL (a b:List UInt8):(mkB a == mkB b) = decide (a = b) := by
  by_cases h:a = b
  · subst h; rw [zwk]; simp
  · rw [decide_eq_false h,Bool.eq_false_iff]
    intro e
    have:mkB a = mkB b := by
      rcases ha:mkB a with ⟨x⟩
      rcases hb:mkB b with ⟨y⟩
      rw [ha,hb] at e
      have e:(x == y) = true := e
      rw [eq_of_beq e]
    have := congrArg (fun b:ByteArray => b.data.toList) this
    simp only [zbu] at this
    exact h this
theorem zhk (x y:El):zaB [.int .i64,.str,.str,.str,.str] (elC x) (elC y) = some (decide (x = y)) := by
  have:decide (x = y) = (decide (x.k = y.k) && (decide (x.a = y.a) && (decide (x.b = y.b) && (decide (x.c = y.c) && decide (x.d = y.d))))) := by
    rw [Bool.eq_iff_iff]
    simp only [Bool.and_eq_true,decide_eq_true_eq]
    constructor
    · intro h; subst h; exact ⟨rfl,rfl,rfl,rfl,rfl⟩
    · rintro ⟨h1,h2,h3,h4,h5⟩
      cases x; cases y; simp_all
  rw [this]
  by_cases h1:x.k = y.k <;> by_cases h2:x.a = y.a <;> by_cases h3:x.b = y.b <;> by_cases h4:x.c = y.c <;> by_cases h5:x.d = y.d <;> simp [zaB,zaZ,elC,zwL,h1,h2,h3,h4,h5]
theorem zom (r c r' c':Int):zaB [.int .i64,.int .i64] [.int .i64 r,.int .i64 c] [.int .i64 r',.int .i64 c'] = some (decide (r = r' ∧ c = c')) := by
  by_cases h1:r = r' <;> by_cases h2:c = c' <;> simp [zaB,zaZ,h1,h2]
theorem ziL (k n:Int) (t:List UInt8) (k' n':Int) (t':List UInt8):zaB [.int .i64,.int .i64,.str] [.int .i64 k,.int .i64 n,.str (mkB t)] [.int .i64 k',.int .i64 n',.str (mkB t')] = some (decide (k = k' ∧ n = n' ∧ t = t')) := by
  by_cases h1:k = k' <;> by_cases h2:n = n' <;> by_cases h3:t = t' <;> simp [zaB,zaZ,zwL,h1,h2,h3]
theorem zrr (v:List Int) (hv:v.length = 16) (r c:Int) (h0:0 ≤ r) (h1:r < 16) (H:GH):ecall T zue [.agg (v.map zh9),.agg [.int .i64 r,.int .i64 c]] H = some (.bool (zgA v r c),H) := by
  have hi := zpX h0 h1
  have ha := zl6 hv (k := r.toNat) (by omega)
  have hat':zc3 v ((r.toNat:Nat):Int) = zc3 v r := by simp only [zc3,Int.toNat_natCast]
  rw [hat'] at ha
  apply optW.eq
  rw [zad zCi rfl (by simp [zqW]),zab]
  simp [zqW,zzi,hi,ha,zgA]
structure EvOk (e:Evt):Prop where
  fit:EvFit e
  ok:evB e = true
theorem EvOk.dot {e:Evt} (h:EvOk e):0 ≤ e.r ∧ e.r < 16 ∧ 1 ≤ e.c ∧ e.c ≤ 1048576 := zeW h.ok
theorem zwM {R:List Evt} (hR:R.length ≤ 1000) (hok:∀ e ∈ R,EvOk e) (vr:GV) (hvr:Elems 27 vr (R.map evG)) (x:El) (a:Evt) (ha:EvOk a) (g3 g7:Nat) (l0:List GV) (g0:Nat) (H0:GH) (K:GExit × St → Prop)
    (h31:zaf l0 31 = vr) (h32:zaf l0 32 = .int .i64 R.length) (h33:zaf l0 33 = .int .i64 0) (h3:zaf l0 3 = .lbox g3 (elC x)) (h7:zaf l0 7 = .lbox g7 (evC a)) (h8:zaf l0 8 = .bool true)
    (he:∀ l g,zaf l 3 = .lbox g3 (elC x) → zaf l 7 = .lbox g7 (evC a) → zaf l 8 = .bool (!R.any fun y => zce x y a) → Fr zm6 l0 l → K (.exit 2,⟨⟨l,g⟩,H0⟩)) :
    optW (erun T (.loop zm6) ⟨⟨l0,g0⟩,H0⟩) K := by
  refine zbd (T := T) (n := R.length) (A := Unit) (fun i _ => [(3,.lbox g3 (elC x)),(7,.lbox g7 (evC a)),(8,.bool (!(R.take i).any fun y => zce x y a))]) (fun i _ _ H' => H' = H0) (c := 34) (b := 2) (I := 33) (N := 32) (d := 60) rfl (by omega) (by decide) ⟨rfl,rfl⟩ (by simp) ?_ ?_ 0 () _ _ H0 (by omega) rfl (by simp [h3,h7,h8]) (.refl _ _ _) h33 h32
  · intro i u l g H' hi hH hh hf hI
    subst hH
    have h31' := hf.get 31 rfl h31 (by simp [hvr.boxy])
    obtain ⟨lt,ix,opt,get,⟨t,sv⟩,wr_,mem⟩ := zdi (e := evG) hvr hi (by omega)
    generalize R[i]'hi = y at opt get mem
    obtain ⟨hfy,hby⟩ := hok y mem
    have l1 := zcY hfy.past
    have l4:List.take 27 (evC y) = evC y := List.take_of_length_le (by rw [l1]; exact Nat.le_refl _)
    have lo := zha hfy.past
    have sp := ziM hfy.past
    have l6 := zlF hfy.past
    have l5 := znR hfy.past
    have l5' := zke hfy.past
    have l3 := zkf y
    have l2 := zf2 hfy.past
    have a1 := zcY ha.fit.past
    have a3 := zkf a
    have le := zhk y.x x
    have ld := zom y.r y.c a.r a.c
    have hkn := fun H => zrr y.past hfy.past a.r a.c ha.dot.1 ha.dot.2.1 H
    simp only [zaA,zaI,and_true] at hh
    obtain ⟨hh3,hh7,hh8⟩ := hh
    have hs:(!(R.take (i + 1)).any fun y => zce x y a) = ((!(R.take i).any fun y => zce x y a) && !zce x y a) := by
      rw [List.take_add_one,opt,List.any_append]; simp
    rw [hs]
    generalize (!(R.take i).any fun y => zce x y a) = b8 at hh8
    have hlx:(elC x).length = 5 := rfl
    have htx:List.take 5 (elC x) = elC x := rfl
    rw [sv] at h31'
    unfold zce
    by_cases c1:y.x = x
    · rw [c1] at l6 le
      by_cases c2:y.op = 1
      · simp [h31',hI,hh3,hh7,hh8,ix,opt,get,sp,l1,l4,lo,l6,l5,l5',le,c1,c2,hlx,htx]
      · by_cases c3:y.r = a.r ∧ y.c = a.c
        · rw [c3.1,c3.2] at ld
          simp [h31',hI,hh3,hh7,hh8,ix,opt,get,sp,l1,l4,lo,l6,l5,l5',l3,a1,a3,ld,le,c1,c2,c3,hlx,htx]
        · cases hk:zgA y.past a.r a.c with
          | false =>
            rw [hk] at hkn
            simp [h31',hI,hh3,hh7,hh8,ix,opt,get,sp,l1,l4,lo,l6,l5,l5',l3,l2,a1,a3,ld,le,c1,c2,c3,hkn,hlx,htx]
          | true =>
            rw [hk] at hkn
            simp [h31',hI,hh3,hh7,hh8,ix,opt,get,sp,l1,l4,lo,l6,l5,l5',l3,l2,a1,a3,ld,le,c1,c2,c3,hkn,hlx,htx]
    · simp [h31',hI,hh3,hh7,hh8,ix,opt,get,sp,l1,l4,lo,l6,le,c1,hlx,htx]
  · intro u l g H' hH hh hf
    subst hH
    simp only [zaA,zaI,and_true] at hh
    rw [List.take_length] at hh
    exact he l g hh.1 hh.2.1 hh.2.2 hf
theorem zrs {R:List Evt} (hR:R.length ≤ 1000) (hok:∀ e ∈ R,EvOk e) (vr:GV) (hvr:Elems 27 vr (R.map evG)) (x:El) (g3:Nat) (l0:List GV) (g0:Nat) (H0:GH) (hbt:H0.bt ≤ H0.toks.length) (K:GExit × St → Prop)
    (h0:zaf l0 0 = vr) (h11:zaf l0 11 = vr) (h12:zaf l0 12 = .int .i64 R.length) (h13:zaf l0 13 = .int .i64 0) (h3:zaf l0 3 = .lbox g3 (elC x)) (h5:zaf l0 5 = .nilsl)
    (he:∀ l g H v,zaf l 5 = v → Grown 27 H0 .nilsl ((zjy R x).map evG) H v → Fr zqL l0 l → K (.exit 0,⟨⟨l,g⟩,H⟩)) :
    optW (erun T (.loop zqL) ⟨⟨l0,g0⟩,H0⟩) K := by
  refine zbd (T := T) (n := R.length) (A := GV) (fun _ s => [(3,.lbox g3 (elC x)),(5,s)]) (fun i s _ H' => Grown 27 H0 .nilsl (((R.take i).filter (zcE R x)).map evG) H' s) (c := 14) (b := 0) (I := 13) (N := 12) (d := 66) rfl (by omega) (by decide) ⟨rfl,rfl⟩ (by simp) ?_ ?_ 0 .nilsl _ _ H0 (by omega) (by simpa using Grown.refl App.nil) (by simp [h3,h5]) (.refl _ _ _) h13 h12
  · intro i s l g H' hi hG hh hf hI
    have h0' := hf.get 0 rfl h0 (by simp [hvr.boxy])
    have h11' := hf.get 11 rfl h11 (by simp [hvr.boxy])
    have hl := hvr.len
    have hu := zam hvr
    have hk := hvr.ok
    simp only [List.length_map] at hl
    obtain ⟨lt,ix,opt,get,⟨t,sv⟩,wr_,mem⟩ := zdi (e := evG) hvr hi (by omega)
    generalize R[i]'hi = a at opt get mem
    have ha := hok a mem
    have l1 := zcY ha.fit.past
    have l4:List.take 27 (evC a) = evC a := List.take_of_length_le (by rw [l1]; exact Nat.le_refl _)
    have lo := zha ha.fit.past
    have sp := ziM ha.fit.past
    have l6 := zlF ha.fit.past
    have l5 := znR ha.fit.past
    have l5' := zke ha.fit.past
    have le := zhk a.x x
    have hlx:(elC x).length = 5 := rfl
    have htx:List.take 5 (elC x) = elC x := rfl
    have ht:R.take (i + 1) = R.take i ++ [a] := by rw [List.take_add_one,opt]; rfl
    rw [ht,List.filter_append]
    have hfl:((R.take i).filter (zcE R x)).length ≤ 1000 := Nat.le_trans (List.length_filter_le _ _) (by rw [List.length_take]; omega)
    generalize (R.take i).filter (zcE R x) = F at hG hfl
    simp only [zaA,zaI,and_true] at hh
    obtain ⟨hh3,hh5⟩ := hh
    have h11s := h11'
    rw [sv] at h11'
    have hsk := hG.ok
    have hse := hG.app.elems
    have hsb := hse.boxy
    by_cases c1:a.x = x
    · rw [c1] at l6 le
      by_cases c2:a.op = 1 ∨ a.op = 3
      · have hlv:zcE R x a = !R.any fun y => zce x y a := by unfold zcE; rw [c1,decide_eq_true c2]; simp
        have key:∀ (l1':List GV),zaf l1' 31 = vr → zaf l1' 32 = .int .i64 R.length → zaf l1' 33 = .int .i64 0 → zaf l1' 3 = .lbox g3 (elC x) → zaf l1' 7 = .lbox g (evC a) → zaf l1' 8 = .bool true → zaf l1' 5 = s →
            optW (erun T (.loop zm6) ⟨⟨l1',g + 1⟩,H'⟩) fun r => ∃ l2 g2,r = (.exit 2,⟨⟨l2,g2⟩,H'⟩) ∧ zaf l2 3 = .lbox g3 (elC x) ∧ zaf l2 7 = .lbox g (evC a) ∧ zaf l2 8 = .bool (zcE R x a) ∧ zaf l2 5 = s := fun l1' k31 k32 k33 k3 k7 k8 k5 => by
          refine zwM hR hok vr hvr x a ha g3 g l1' (g + 1) H' _ k31 k32 k33 k3 k7 k8 ?_
          intro l2 g2 j3 j7 j8 hf2
          exact ⟨l2,g2,rfl,j3,j7,by rw [hlv]; exact j8,hf2.get 5 rfl k5 (by simp [hsb])⟩
        rcases c2 with c2 | c2
        all_goals
          simp [h11',h0',hl,hu,hk,hI,hh3,hh5,ix,opt,get,sp,l1,l4,lo,l6,l5,l5',le,c1,c2,hlx,htx]
          rw [zao,zaw,zao]
          refine optW.mono (key _ (by simp [hu]) (by simp) (by simp) (by simp [hh3]) (by simp) (by simp) (by simp [hh5])) ?_
          rintro _ ⟨l2,g2,rfl,j3,j7,j8,j5⟩
          cases hb:zcE R x a with
          | false =>
            rw [hb] at j8
            simp [j3,j5,j8]
            have hf0 : [a].filter (zcE R x) = [] := by rw [List.filter_cons,hb]; rfl
            rw [hf0,List.map_nil,List.append_nil]
            exact fun _ => hG
          | true =>
            rw [hb] at j8
            obtain ⟨s',H2,a1,G1⟩ := zcA (ty := 36) (bytes := 256) (ys := [evG a]) (x := .sl 27 [evG a] .exact) hG.app (by simp [zbT]) (hG.step.btle hbt) (by simp only [List.length_singleton,List.length_map,zeN]; omega) (by simp only [List.length_singleton,List.length_map,maxLen]; omega)
            have sk' := G1.ok
            have hG2 := hG.trans G1
            simp [j3,j5,j7,j8,l1,l4,lo,zan,zaU,a1,hsk,sk']
            have hf1 : [a].filter (zcE R x) = [a] := by rw [List.filter_cons,hb]; rfl
            rw [hf1]
            exact fun _ => hG2
      · have c3:¬ a.op = 1 := fun h => c2 (.inl h)
        have c4:¬ a.op = 3 := fun h => c2 (.inr h)
        have hn:zcE R x a = false := by unfold zcE; rw [decide_eq_false c2]; simp
        simp [h11',hI,hh3,hh5,ix,opt,get,sp,l1,l4,lo,l6,l5,l5',le,c1,c3,c4,hlx,htx,hn]
        exact fun _ => hG
    · have hn:zcE R x a = false := by unfold zcE; rw [decide_eq_false c1]; rfl
      simp [h11',hI,hh3,hh5,ix,opt,get,sp,l1,l4,lo,l6,le,c1,hlx,htx,hn]
      exact fun _ => hG
  · intro s l g H' hG hh hf
    simp only [zaA,zaI,and_true] at hh
    rw [List.take_length] at hG
    exact he l g H' s hh.2 hG hf
theorem zuB {R:List Evt} (hR:R.length ≤ 1000) (hok:∀ e ∈ R,EvOk e) (vr:GV) (hvr:Elems 27 vr (R.map evG)) (x:El) (H:GH) (hbt:H.bt ≤ H.toks.length) :
    ∃ v H',ecall T zp8 [vr,.agg (elC x)] H = some (v,H') ∧ Grown 27 H .nilsl ((zjy R x).map evG) H' v := by
  have hl := hvr.len
  have hu := zam hvr
  have hk := hvr.ok
  simp only [List.length_map] at hl
  have hlx:(elC x).length = 5 := rfl
  have key:optW (ecall T zp8 [vr,.agg (elC x)] H) fun r => ∃ v H',r = (v,H') ∧ Grown 27 H .nilsl ((zjy R x).map evG) H' v := by
    rw [zad zB4 rfl (by simp [zqM]),zab]
    simp only [zqM,zy7]
    simp [hl,hu,hk]
    rw [zaw,zao]
    refine zrs hR hok vr hvr x 0 _ _ H hbt _ (by simp [hu]) (by simp [hu]) (by simp) (by simp) (by simp) (by simp) ?_
    intro l g H' v k5 hG hf
    have ok := hG.ok
    simp [k5,ok]
    exact ⟨v,H',⟨rfl,rfl⟩,hG⟩
  obtain ⟨r,h,v,H',rfl,h2⟩ := key
  exact ⟨v,H',h,h2⟩
end Go.Proofs.YtchjbidfmhmmhaaGreatDoor
namespace Go.Proofs.YtchjbidfmhmmhaaGreatDoor
open Go.Sh
set_option maxHeartbeats 4000000
set_option maxRecDepth 100000
def ixP {α:Type} (p:α → Bool) (out:List α):Nat := (out.takeWhile p).length
def zin {α:Type} (p:α → Bool) (e:α) (out:List α):List α := out.take (ixP p out) ++ e :: out.drop (ixP p out)
theorem zrt {α:Type} {p:α → Bool} : ∀ {out:List α} {i:Nat},i ≤ out.length → (∀ k,k < i → ∀ y,out[k]? = some y → p y = true) → (∀ y,out[i]? = some y → p y = false) → ixP p out = i
  | [],i,h,_,_ => by simp [ixP] at h ⊢; omega
  | y :: out,0,_,_,h2 => by
    have := h2 y rfl
    simp [ixP,List.takeWhile_cons,this]
  | y :: out,i + 1,h,h1,h2 => by
    have h0 := h1 0 (by omega) y rfl
    have ih := zrt (p := p) (out := out) (i := i) (by simpa using h) (fun k hk z hz => h1 (k + 1) (by omega) z (by simpa using hz)) (fun z hz => h2 z (by simpa using hz))
    simp only [ixP] at ih ⊢
    rw [List.takeWhile_cons,h0]
    simp [ih]
theorem zwN {α:Type} (p:α → Bool) (out:List α):ixP p out ≤ out.length := (List.takeWhile_sublist p).length_le
theorem zgB {H:GH} {ty sz bytes:Nat} {a b:GV} {xs ys:List GV} {z:GV} (ha:Elems sz a xs) (hb:Elems sz b ys) (hz:zbT sz (.sl sz [z] .exact) = some [z]) (hbt:H.bt ≤ H.toks.length) (hl:xs.length + ys.length ≤ 1000) (hby:bytes ≤ 256) :
    ∃ m H1 n H2 r H3,za3 H ty sz bytes (.sl sz [] .exact) a = some (m,H1) ∧ m.ok = true ∧ za3 H1 ty sz bytes m (.sl sz [z] .exact) = some (n,H2) ∧ n.ok = true ∧ za3 H2 ty sz bytes n b = some (r,H3) ∧ r.ok = true ∧ Elems sz r (xs ++ z :: ys) ∧ TokStep none H H3 := by
  have hm:∀ k:Nat,k ≤ 1001 → k * bytes ≤ zeN := fun k hk => Nat.le_trans (Nat.mul_le_mul hk hby) (by simp only [zeN]; omega)
  obtain ⟨m,H1,a1,G1⟩ := zcA (H := H) (ty := ty) (bytes := bytes) (x := a) (App.exact (sz := sz) []) ha.news hbt (hm _ (by simp only [List.length_nil]; omega)) (by simp only [List.length_nil,maxLen]; omega)
  obtain ⟨n,H2,a2,G2⟩ := zcA (ty := ty) (bytes := bytes) (x := .sl sz [z] .exact) G1.app hz (G1.step.btle hbt) (hm _ (by simp only [List.length_append,List.length_nil,List.length_singleton]; omega)) (by simp only [List.length_append,List.length_nil,List.length_singleton,maxLen]; omega)
  have G12 := G1.trans G2
  obtain ⟨r,H3,a3,G3⟩ := zcA (ty := ty) (bytes := bytes) (x := b) G2.app hb.news (G12.step.btle hbt) (hm _ (by simp only [List.length_append,List.length_nil,List.length_singleton]; omega)) (by simp only [List.length_append,List.length_nil,List.length_singleton,maxLen]; omega)
  have G := G12.trans G3
  exact ⟨m,H1,n,H2,r,H3,a1,G1.ok,a2,G2.ok,a3,G.ok,by simpa using G.app.elems,G.step⟩
theorem zdt {n k:Nat} (h:k ≤ n):zbS n (.int .i64 (k:Int)) = some k := by
  simp only [zbS]; rw [if_pos (by omega)]; simp
theorem insP_mem {α:Type} {p:α → Bool} {e:α} {out:List α} {y:α} : y ∈ zin p e out ↔ y = e ∨ y ∈ out := by
  unfold zin
  rw [List.mem_append,List.mem_cons]
  conv => rhs; rw [← List.take_append_drop (ixP p out) out,List.mem_append]
  constructor
  · rintro (h | h | h)
    · exact .inr (.inl h)
    · exact .inl h
    · exact .inr (.inr h)
  · rintro (h | h | h)
    · exact .inr (.inl h)
    · exact .inl h
    · exact .inr (.inr h)
theorem znd {α:Type} (p:α → Bool) (e:α) (out:List α):(zin p e out).length = out.length + 1 := by
  have := zwN p out
  unfold zin
  rw [List.length_append,List.length_cons,List.length_take,List.length_drop]
  omega
end Go.Proofs.YtchjbidfmhmmhaaGreatDoor
namespace Go.Proofs.YtchjbidfmhmmhaaGreatDoor
open Go.Sh
set_option maxHeartbeats 4000000
set_option maxRecDepth 100000
theorem zru {x:El} (h:ElBig x) (hr:ElRange x):zaz true kLs (elG x) = true := by
  obtain ⟨h1,h2⟩ := hr
  have := h.a; have := h.b; have := h.c; have := h.d
  simp [zaz,elC,zar,maxLen,IntKind.min,IntKind.max,IntKind.signed,IntKind.bits]
  omega
theorem zne {x:El} (hk:zaz true kLs (elG x) = true):∀ {es:List (GV × GV)} {S:List Stp},zb4 zgW es = some S → Has es x (zcd S x)
  | [],S,h => by simp only [zb4,Option.some.injEq] at h; subst h; exact .inl ⟨rfl,rfl⟩
  | p :: es,S,h => by
    simp only [zb4] at h
    split at h
    · rename_i a b ha hb
      injection h with h; subst h
      have ih := zne hk hb
      have hke:zbU p.1 (elG x) = decide (a.1 = x) := by
        obtain ⟨e1,_,o1⟩ := zdS ha
        rw [e1,Bool.eq_iff_iff,zaH (zfq o1.fit o1.range) hk,decide_eq_true_eq]
        exact ⟨zdV,fun h => by rw [h]⟩
      unfold Has za1 zcd at ih ⊢
      rw [List.find?_cons,List.find?_cons,hke]
      by_cases e:a.1 = x
      · simp only [e,decide_true]
        obtain ⟨_,⟨t,ht⟩,_⟩ := zdS ha
        exact .inr ⟨p.2,rfl,by rw [ht]; exact .sl _ _⟩
      · simp only [e,decide_false]; exact ih
    · cases h
def zuC (H:GH) (s m:Nat) (S:List Stp):Prop := ∃ es,H.objs[s]? = some (.cells 92 [.map m]) ∧ H.objs[m]? = some (.map true kLs es) ∧ zb4 zgW es = some S
theorem Sto.rd {H:GH} {s m:Nat} {S:List Stp} (h:Sto H s m S):zuC H s m S := by
  obtain ⟨⟨es,⟨h1,h2,_⟩,hd⟩,_⟩ := h
  exact ⟨es,h1,h2,hd⟩
theorem zon {H:GH} {s m:Nat} {S:List Stp} (h:zuC H s m S) (x:El) (hk:zaz true kLs (elG x) = true) (hL:(zcd S x).length ≤ 1000000) (hbo:H.bo ≤ H.objs.length) :
    ∃ v',ecall T znY [.ptr s 0,.agg (elC x)] H = some (v',zbR (zcd S x) H) ∧ Elems 5 v' ((zcd S x).map zbQ) := by
  obtain ⟨es,h1,h2,hd⟩ := h
  have hv := zne hk hd
  generalize zcd S x = L at hv hL
  obtain ⟨w,c1,c2⟩ := zfr L _ hv.get hL H
  obtain ⟨v',hf,hE⟩ := zoq c2 hbo
  refine ⟨v', ?_,hE⟩
  have hok':w.ok = true := by rcases c2.elems with ⟨_,h⟩ | ⟨_,h⟩; exact h.ok; subst h; rfl
  have hu':∀ t,zbt t w = w := by rcases c2.elems with ⟨_,h⟩ | ⟨_,h⟩; exact zam h; subst h; exact fun _ => rfl
  have gok := hv.get.ok
  have gu := zam hv.get
  have vok := hE.ok
  have vu := zam hE
  apply optW.eq
  rw [zad zzr rfl (by simp [zlT]),zab]
  simp only [elG,elC] at hk c1 gok gu
  simp [zlT,zwA,elC,h1,h2,hk,c1,hok',hu',hf,gok,gu,vok,vu,za9,zc4]
end Go.Proofs.YtchjbidfmhmmhaaGreatDoor
namespace Go.Proofs.YtchjbidfmhmmhaaGreatDoor
open Go.Sh
set_option maxHeartbeats 4000000
set_option maxRecDepth 100000
def zeM (x y:El):Bool := zmR y x
def zpI (out:List El) (x:El):List El := if out[ixP (zeM x) out]? = some x then out else zin (zeM x) x out
def zio (out:List El) (e:Evt):List El := zpI out e.x
def zbj (R:List Evt):List El := R.foldl zio []
theorem zuD (e:Evt) (he:EvFit e) (out:List El) (ho:out.length ≤ 1000) (v:GV) (hv:Elems 5 v (out.map elG)) (g5:Nat) (l0:List GV) (g0:Nat) (H0:GH) (K:GExit × St → Prop)
    (h3:zaf l0 3 = v) (h5:zaf l0 5 = .lbox g5 (evC e)) (h6:zaf l0 6 = .int .i64 0)
    (hk:∀ l g,zaf l 6 = .int .i64 (ixP (zeM e.x) out) → Fr ziH l0 l → K (.exit 2,⟨⟨l,g⟩,H0⟩)) :
    optW (erun T (.loop ziH) ⟨⟨l0,g0⟩,H0⟩) K := by
  refine zcO (l0 := l0) (fun m l g H => H = H0 ∧ ∃ i:Nat,m = out.length - i ∧ i ≤ out.length ∧ zaf l 6 = .int .i64 i ∧ ∀ k,k < i → ∀ y,out[k]? = some y → zeM e.x y = true) ?_ out.length l0 g0 H0 ⟨rfl,0,rfl,Nat.zero_le _,h6,fun k hk => by omega⟩ (.refl _ _ _)
  intro m l g H ⟨hH,i,hm,hi,q6,lo⟩ hf
  subst hH
  have q3 := hf.get 3 rfl h3 (by simp [hv.boxy])
  have q5 := hf.get 5 rfl h5 rfl
  have hl := hv.len
  have hu := zam hv
  have hok := hv.ok
  simp only [List.length_map] at hl
  have e1 := zcY he.past
  have e6 := zlF he.past
  by_cases hlt:i < out.length
  · have hlt':(i:Int) < out.length := by omega
    obtain ⟨lt,ix,opt,get,⟨t,sl⟩,wr_,mem⟩ := zdi (e := elG) hv hlt (by omega)
    generalize out[i]'hlt = y at opt get mem
    have hle := fun H => ztM y e.x H
    have hw:IntKind.i64.wrap ((i:Int) + 1) = (i:Int) + 1 := zaq (by omega) (by omega)
    have hlx:(elC y).length = 5 := rfl
    have htx:List.take 5 (elC y) = elC y := rfl
    rw [sl] at q3
    have hfd:zeM e.x y = zmR y e.x := rfl
    cases hb:zmR y e.x with
    | true =>
      rw [hb] at hle
      simp [ziH,q3,q5,q6,hl,hlt',ix,opt,e1,e6,hlx,htx,hle,hw]
      refine ⟨out.length - (i + 1),by omega,i + 1,rfl,by omega,by simp,fun k hk z hz => ?_⟩
      rcases Nat.lt_or_ge k i with h | h
      · exact lo k h z hz
      · have:k = i := by omega
        rw [this,opt] at hz
        injection hz with hz
        rw [← hz,hfd,hb]
    | false =>
      rw [hb] at hle
      have hx := zrt (p := zeM e.x) hi lo (fun z hz => by rw [opt] at hz; injection hz with hz; rw [← hz,hfd,hb])
      simp [ziH,q3,q5,q6,hl,hlt',ix,opt,e1,e6,hlx,htx,hle,hw]
      exact fun hf' => hk _ _ (by simp [q6,hx]) hf'
  · have hie:i = out.length := by omega
    have hx := zrt (p := zeM e.x) hi lo (fun z hz => by rw [hie] at hz; simp at hz)
    simp [ziH,q3,q6,hl,hu,hok,hlt]
    exact fun hf' => hk _ _ (by simp [q6,hx]) hf'
theorem zuE (out:List El) (x:El):(zpI out x).length ≤ out.length + 1 := by
  unfold zpI; split
  · omega
  · rw [znd]; exact Nat.le_refl _
theorem zga (R:List Evt):(zbj R).length ≤ R.length := by
  suffices h:∀ (l:List Evt) (out:List El),(l.foldl zio out).length ≤ out.length + l.length by
    have := h R []; simpa [zbj] using this
  intro l
  induction l with
  | nil => intro out; simp
  | cons e l ih => intro out; rw [List.foldl_cons,List.length_cons]; have h1 := ih (zio out e); have h2:(zio out e).length ≤ out.length + 1 := zuE out e.x; omega
theorem zoo {R:List Evt} (hR:R.length ≤ 500) (hof:∀ y ∈ R,EvFit y) (vr:GV) (hvr:Elems 27 vr (R.map evG)) (l0:List GV) (g0:Nat) (H0:GH) (hbt:H0.bt ≤ H0.toks.length) (K:GExit × St → Prop)
    (h7:zaf l0 7 = vr) (h8:zaf l0 8 = .int .i64 R.length) (h9:zaf l0 9 = .int .i64 0) (h3:zaf l0 3 = .nilsl)
    (he:∀ l g H v,zaf l 3 = v → Elems 5 v ((zbj R).map elG) → TokStep none H0 H → Fr zqI l0 l → K (.exit 0,⟨⟨l,g⟩,H⟩)) :
    optW (erun T (.loop zqI) ⟨⟨l0,g0⟩,H0⟩) K := by
  refine zbd (T := T) (n := R.length) (A := GV) (fun _ s => [(3,s)]) (fun i s _ H' => Elems 5 s ((zbj (R.take i)).map elG) ∧ TokStep none H0 H') (c := 10) (b := 0) (I := 9) (N := 8) (d := 54) rfl (by omega) (by decide) ⟨rfl,rfl⟩ (by simp) ?_ ?_ 0 .nilsl _ _ H0 (by omega) ⟨by rw [List.take_zero]; exact .nil,.refl _ _⟩ (by simp [h3]) (.refl _ _ _) h9 h8
  · intro i s l g H' hi ⟨hE,hT⟩ hh hf hI
    have h7' := hf.get 7 rfl h7 (by simp [hvr.boxy])
    obtain ⟨lt,ix,opt,get,⟨t,sv⟩,wr_,mem⟩ := zdi (e := evG) hvr hi (by omega)
    generalize R[i]'hi = e at opt get mem
    have hfe := hof e mem
    have l1 := zcY hfe.past
    have l4:List.take 27 (evC e) = evC e := List.take_of_length_le (by rw [l1]; exact Nat.le_refl _)
    have lo := zha hfe.past
    have sp := ziM hfe.past
    have l6 := zlF hfe.past
    have hst:zbj (R.take (i + 1)) = zpI (zbj (R.take i)) e.x := by
      unfold zbj; rw [zgb zio [] R i e opt,zio]
    have hol := zga (R.take i)
    rw [List.length_take,Nat.min_eq_left (by omega)] at hol
    rw [hst]
    generalize zbj (R.take i) = out at hE hol
    simp only [zaA,zaI,and_true] at hh
    rw [sv] at h7'
    have hu := zam hE
    have hl := hE.len
    have hk := hE.ok
    simp only [List.length_map] at hl
    simp [h7',hI,hh,ix,opt,get,sp,l1,l4,lo]
    rw [zao,zaw,zao]
    refine zuD e hfe out (by omega) s hE g _ _ H' _ (by simp [hh]) (by simp) (by simp) ?_
    intro l2 g2 k6 hf2
    have k3 := hf2.get 3 rfl (v := s) (by simp [hh]) (by simp [hE.boxy])
    have k5 := hf2.get 5 rfl (v := .lbox g (evC e)) (by simp) rfl
    have hix := zwN (zeM e.x) out
    have hb := hT.btle hbt
    unfold zpI zin
    generalize ixP (zeM e.x) out = k at k6 hix
    have go:out[k]? ≠ some e.x → zaf l2 3 = s → True := fun _ _ => trivial
    have g1:zay (out.map elG).length false true false [.int .i64 (k:Int)] = some (0,k,none) := by
      simp only [zay,List.length_map,zdt hix,Option.map_some]
    have g2':zay (out.map elG).length true false false [.int .i64 (k:Int)] = some (k,out.length,none) := by
      simp only [zay,List.length_map,zdt hix,Option.map_some]
    obtain ⟨c1,d1,e1⟩ := hE.cut g1
    obtain ⟨c2,d2,e2⟩ := hE.cut g2'
    have o1 := e1.ok
    have o2 := e2.ok
    obtain ⟨m,H1,n,H2,r,H3,b1,b2,b3,b4,b5,b6,b7,b8⟩ := zgB (H := H') (ty := 32) (bytes := 72) (z := elG e.x) e1 e2 (by simp [zbT]) hb (by simp; omega) (by omega)
    have hx:((out.map elG).drop 0).take (k - 0) ++ elG e.x :: ((out.map elG).drop k).take (out.length - k) = (out.take k ++ e.x :: out.drop k).map elG := by
      rw [List.drop_zero,Nat.sub_zero,List.map_append,List.map_cons,List.map_take,List.map_drop,List.take_of_length_le (l := (out.map elG).drop k) (by simp)]
    rw [hx] at b7
    have hlx:(elC e.x).length = 5 := rfl
    have htx:List.take 5 (elC e.x) = elC e.x := rfl
    have hone:(elC e.x).all GV.one = true := rfl
    by_cases hlt:k < out.length
    · have hne:¬ (k:Int) = out.length := by omega
      have hne':¬ k = out.length := by omega
      obtain ⟨_,kx,kopt,kget,⟨kt,ksl⟩,_,kmem⟩ := zdi (e := elG) hE hlt (by omega)
      generalize out[k]'hlt = y at kopt kget kmem
      have le := zhk y e.x
      have hly:(elC y).length = 5 := rfl
      have hty:List.take 5 (elC y) = elC y := rfl
      by_cases hy:y = e.x
      · rw [if_pos (by rw [kopt,hy])]
        rw [hy] at le kopt kget
        have k3' := k3
        rw [ksl] at k3
        simp [k3,k5,k6,hl,hu,hk,hne,hne',kx,kopt,l1,l6,le,hlx,htx]
        exact fun _ => ⟨by rw [← ksl]; exact hE,hT⟩
      · rw [if_neg (by rw [kopt]; intro h; injection h with h; exact hy h)]
        rw [decide_eq_false hy] at le
        subst ksl
        simp [-zfN,k3,k5,k6,hl,hne,hne',kx,kopt,l1,l6,le,hly,hty,hlx,htx,hone,d1,d2,o1,o2,zan,zaU,b1,b2,b3,b4,b5,b6]
        exact fun _ => ⟨by simpa using b7,hT.trans b8⟩
    · have hke:k = out.length := by omega
      subst hke
      rw [if_neg (by simp)]
      simp [k3,k5,k6,hl,hu,hk,l1,l6,hlx,htx,hone,d1,d2,o1,o2,zan,zaU,b1,b2,b3,b4,b5,b6]
      exact fun _ => ⟨by simpa using b7,hT.trans b8⟩
  · intro s l g H' ⟨hE,hT⟩ hh hf
    simp only [zaA,zaI,and_true] at hh
    rw [List.take_length] at hE
    exact he l g H' s hh hE hT hf
theorem zrv {R:List Evt} (hR:R.length ≤ 500) (hof:∀ y ∈ R,EvFit y) (vr:GV) (hvr:Elems 27 vr (R.map evG)) (H:GH) (hbt:H.bt ≤ H.toks.length) :
    ∃ v H',ecall T zp7 [vr] H = some (v,H') ∧ Elems 5 v ((zbj R).map elG) ∧ TokStep none H H' := by
  have hl := hvr.len
  have hu := zam hvr
  have hk := hvr.ok
  simp only [List.length_map] at hl
  have key:optW (ecall T zp7 [vr] H) fun r => ∃ v H',r = (v,H') ∧ Elems 5 v ((zbj R).map elG) ∧ TokStep none H H' := by
    rw [zad zB2 rfl (by simp [zqJ]),zab]
    simp only [zqJ,zy6]
    simp [hl,hu,hk]
    rw [zaw,zao]
    refine zoo hR hof vr hvr _ _ H hbt _ (by simp [hu]) (by simp) (by simp) (by simp) ?_
    intro l g H' v k3 hE hT hf
    have ok := hE.ok
    simp [k3,ok]
    exact ⟨v,H',⟨rfl,rfl⟩,hE,hT⟩
  obtain ⟨r,h,v,H',rfl,h2⟩ := key
  exact ⟨v,H',h,h2⟩
theorem zhl {α:Type} {p:α → Bool} {e y:α} {out:List α} : zin p e (y :: out) = if p y then y :: zin p e out else e :: y :: out := by
  unfold zin ixP
  rw [List.takeWhile_cons]
  split <;> simp
theorem zrw {α:Type} (p:α → Bool) (e:α) (out:List α):(zin p e out).Perm (e :: out) := by
  unfold zin
  refine List.perm_middle.trans ?_
  rw [List.take_append_drop]
end Go.Proofs.YtchjbidfmhmmhaaGreatDoor
namespace Go.Proofs.YtchjbidfmhmmhaaGreatDoor
open Go.Sh
set_option maxHeartbeats 4000000
set_option maxRecDepth 100000
theorem zkF {x y:El} {out:List El} : zpI (y :: out) x = if zeM x y then y :: zpI out x else if y = x then y :: out else x :: y :: out := by
  unfold zpI
  have hi:ixP (zeM x) (y :: out) = if zeM x y then ixP (zeM x) out + 1 else 0 := by
    unfold ixP; rw [List.takeWhile_cons]; split <;> simp
  rw [hi]
  by_cases h:zeM x y
  · rw [if_pos h,if_pos h,List.getElem?_cons_succ]
    split
    · rfl
    · rw [zhl,if_pos h]
  · rw [if_neg h,if_neg h]
    by_cases h2:y = x
    · rw [if_pos h2,if_pos (by rw [h2]; rfl)]
    · rw [if_neg h2,if_neg (by simpa using h2),zhl,if_neg h]
def zwO (l:List El):Prop := l.Pairwise fun a b => zdj a b < 0
theorem zop {x y z:El} (h1:zdj x y < 0) (h2:zdj y z < 0):zdj x z < 0 := by
  have hs := ordE_ok.swo fun p:El => p
  have := hs.trans x y z (decide_eq_true h1) (decide_eq_true h2)
  simpa using this
theorem addE_mem {x z:El} : ∀ {out:List El},z ∈ zpI out x ↔ z = x ∨ z ∈ out
  | [] => by
    have:zpI [] x = [x] := rfl
    rw [this]; simp
  | y :: out => by
    rw [zkF]
    split
    · rw [List.mem_cons,addE_mem,List.mem_cons]
      constructor
      · rintro (h | h | h)
        · exact .inr (.inl h)
        · exact .inl h
        · exact .inr (.inr h)
      · rintro (h | h | h)
        · exact .inr (.inl h)
        · exact .inl h
        · exact .inr (.inr h)
    · split
      · rename_i h
        rw [List.mem_cons]
        constructor
        · exact fun h2 => .inr h2
        · rintro (h2 | h2)
          · exact .inl (by rw [h2,h])
          · exact h2
      · rw [List.mem_cons]
theorem zkG {x:El} : ∀ {out:List El},zwO out → zwO (zpI out x)
  | [],_ => by
    have:zpI [] x = [x] := rfl
    rw [this]; exact List.pairwise_singleton _ _
  | y :: out,h => by
    unfold zwO at h
    rw [List.pairwise_cons] at h
    rw [zkF]
    split
    · rename_i hl
      have ih := zkG (x := x) h.2
      refine List.pairwise_cons.2 ⟨fun z hz => ?_,ih⟩
      rcases addE_mem.1 hz with rfl | hz
      · simpa [zeM,zmR] using hl
      · exact h.1 z hz
    · rename_i hl
      split
      · exact List.pairwise_cons.2 h
      · rename_i hn
        have h1:¬ zdj y x < 0 := by simpa [zeM,zmR] using hl
        have h2:zdj y x ≠ 0 := fun e => hn (ordE_ok.zero _ _ e)
        have h3 := ordE_ok.swap y x
        have h4:zdj x y < 0 := by omega
        refine List.pairwise_cons.2 ⟨fun z hz => ?_,List.pairwise_cons.2 h⟩
        rcases List.mem_cons.1 hz with rfl | hz
        · exact h4
        · exact zop h4 (h.1 z hz)
theorem zc8 (R:List Evt):zwO (zbj R) ∧ ∀ z,z ∈ zbj R ↔ ∃ e ∈ R,e.x = z := by
  suffices h:∀ (l:List Evt) (out:List El),zwO out → zwO (l.foldl zio out) ∧ ∀ z,z ∈ l.foldl zio out ↔ z ∈ out ∨ ∃ e ∈ l,e.x = z by
    have := h R [] List.Pairwise.nil
    exact ⟨this.1,fun z => (this.2 z).trans (by simp)⟩
  intro l
  induction l with
  | nil => intro out h; exact ⟨h,fun z => by simp⟩
  | cons e l ih =>
    intro out h
    obtain ⟨h1,h2⟩ := ih (zio out e) (zkG h)
    refine ⟨h1,fun z => ?_⟩
    rw [List.foldl_cons,h2]
    unfold zio
    rw [addE_mem]
    constructor
    · rintro ((h3 | h3) | ⟨a,ha,h3⟩)
      · exact .inr ⟨e,List.mem_cons_self,h3.symm⟩
      · exact .inl h3
      · exact .inr ⟨a,List.mem_cons_of_mem _ ha,h3⟩
    · rintro (h3 | ⟨a,ha,h3⟩)
      · exact .inl (.inr h3)
      · rcases List.mem_cons.1 ha with rfl | ha
        · exact .inl (.inl h3.symm)
        · exact .inr ⟨a,ha,h3⟩
def zuF (S:List Stp) (x:El):Bool := !decide (zcd S x = [])
def zjz (S:List Stp) (X:List El):List Stp := (X.filter (zuF S)).map fun x => (x,zcd S x)
theorem zuG {S:List Stp} {X:List El} (h:zwO X):(zjz S X).Pairwise fun p q => zdj p.1 q.1 < 0 := by
  unfold zjz
  rw [List.pairwise_map]
  exact h.filter _
theorem zuH {R:List Evt} (h:Row R) {H:GH} {s m:Nat} (hS:Sto H s m (zbD R)):zez (zbD R) = zjz (zbD R) (zbj R) := by
  obtain ⟨hr,hm⟩ := zc8 R
  have hp := zuG (S := zbD R) hr
  have nd:(zjz (zbD R) (zbj R)).Nodup := hp.imp fun {a b} hlt e => by
    rw [e,ordE_ok.self] at hlt; omega
  have nd2:(zbD R).Nodup := (List.pairwise_map.1 hS.ap).imp fun h e => h (by rw [e])
  have hperm:(zjz (zbD R) (zbj R)).Perm (zbD R) := by
    rw [List.perm_iff_count]
    intro p
    rw [nd.count,nd2.count]
    have key:p ∈ zjz (zbD R) (zbj R) ↔ p ∈ zbD R := by
      unfold zjz
      rw [List.mem_map]
      constructor
      · rintro ⟨x,hx,rfl⟩
        have := (List.mem_filter.1 hx).2
        simp only [zuF,Bool.not_eq_true',decide_eq_false_iff_not] at this
        exact ztC this
      · intro hm2
        have e := zm2 hS.ap hm2
        have hne:zcd (zbD R) p.1 ≠ [] := by rw [e]; exact hS.ne_nil p hm2
        refine ⟨p.1,List.mem_filter.2 ⟨(hm p.1).2 ?_,by simp [zuF,hne]⟩,by rw [e]⟩
        have hl := znc h p.1
        have:zjy R p.1 ≠ [] := fun e0 => by
          rw [e0] at hl
          exact hne hl.eq_nil
        obtain ⟨a,ha⟩ := List.exists_mem_of_ne_nil _ this
        have ha := List.mem_filter.1 ha
        have hb := ha.2
        unfold zcE at hb
        simp only [Bool.and_eq_true,decide_eq_true_eq] at hb
        exact ⟨a,ha.1,hb.1.1⟩
    by_cases hc:p ∈ zbD R
    · rw [if_pos hc,if_pos (key.2 hc)]
    · rw [if_neg hc,if_neg (fun h2 => hc (key.1 h2))]
  have h1 := zff hperm (apart_of.2 hS.ap)
  unfold zez
  rw [← h1]
  refine (zgr (l := zjz (zbD R) (zbj R)) (.refl _) (hp.imp fun {a b} hlt => ?_) zly fun a b ha hb e1 e2 => ?_).symm
  · have := ordE_ok.swap a.1 b.1
    show decide (zdj b.1 a.1 < 0) = false
    exact decide_eq_false (by omega)
  · have e1:decide (zdj a.1 b.1 < 0) = false := e1
    have e2:decide (zdj b.1 a.1 < 0) = false := e2
    have h2 := of_decide_eq_false e1
    have h3 := of_decide_eq_false e2
    have h4 := ordE_ok.swap a.1 b.1
    have h5:a.1 = b.1 := ordE_ok.zero _ _ (by omega)
    obtain ⟨x,_,rfl⟩ := List.mem_map.1 ha
    obtain ⟨y,_,rfl⟩ := List.mem_map.1 hb
    have h5:x = y := h5
    rw [h5]
end Go.Proofs.YtchjbidfmhmmhaaGreatDoor
