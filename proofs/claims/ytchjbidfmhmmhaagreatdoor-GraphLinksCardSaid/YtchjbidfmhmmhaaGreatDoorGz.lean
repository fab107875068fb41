/- Own work: the zaL machine and what it shows, part Gz. -/
import Derived.Test.YtchjbidfmhmmhaaGreatDoorGx
import Derived.Test.YtchjbidfmhmmhaaGreatDoorEl
import Derived.Test.YtchjbidfmhmmhaaGreatDoorRowA
set_option linter.all false
namespace Go.Proofs.YtchjbidfmhmmhaaGreatDoor
open Go.Sh
set_option maxHeartbeats 4000000
set_option maxRecDepth 100000
theorem zra (x y:Lk) (H:GH):ecall T zt6 [.agg (lkC x),.agg (lkC y)] H = some (.bool (decide (zey x y < 0)),H) := by
  apply optW.eq
  rw [zbM zB3 rfl (by simp [zkj]),zab]
  unfold zey
  by_cases h1:x.f = y.f
  · have e1 := (zaS _ _).2 h1
    by_cases h2:x.y = y.y
    · have e2 := (zaS _ _).2 h2
      by_cases h3:x.t = y.t
      · simp [zkj,zqK,lkC,h1,h2,h3,zdo,orL,zco]
      · have e3:zcf x.t y.t ≠ 0 := fun h => h3 ((zaS _ _).1 h)
        simp [zkj,zqK,lkC,h1,h2,zdo,orL,zco,e3]
    · have e2:zcf x.y y.y ≠ 0 := fun h => h2 ((zaS _ _).1 h)
      simp [zkj,zqK,lkC,h1,h2,zdo,orL,zco,e2]
  · have e1:zcf x.f y.f ≠ 0 := fun h => h1 ((zaS _ _).1 h)
    simp [zkj,zqK,lkC,h1,zdo,orL,e1]
theorem zrb (x:Lk) (H:GH):ecall T zt5 [.agg (lkC x)] H = some (.agg (elC (zfV x)),H) := by
  apply optW.eq
  rw [zbM zB1 rfl (by simp [zqH]),zab]
  simp [zqH,zy4,elC,lkC,zaU,zae,zky]
structure RowV (R:List Evt) (vr:GV):Prop where
  row:Row R
  el:Elems 27 vr (R.map evG)
theorem RowV.ok {R:List Evt} {vr:GV} (h:RowV R vr):∀ e ∈ R,EvOk e := fun e he => ⟨h.row.fit e he,((zgZ rfl h.row.causl).2 e he).1⟩
theorem znb {R:List Evt} {vr:GV} (h:RowV R vr) (x:El) (H:GH):ecall T zp9 [vr,.agg (elC x)] H = some (.bool (zkw R x),H) := by
  obtain ⟨v,H',hc,hG⟩ := zuB (by have := h.row.le; omega) h.ok vr h.el x H.over (Nat.le_refl _)
  have e := hG.app.elems
  have l := e.len
  simp only [List.length_map] at l
  have hu := h.el.unb
  have ho := h.el.ok
  have hlx:(elC x).length = 5 := rfl
  have htx:List.take 5 (elC x) = elC x := rfl
  apply optW.eq
  rw [zbM zB5 rfl (by simp [zqN]),zab]
  have hb:decide (0 < (zjy R x).length) = zkw R x := by
    unfold zkw; cases zjy R x <;> simp
  rw [← hb]
  simp [zqN,zy8,hu,ho,hlx,htx,hc,e.unb,e.ok,l]
theorem zkz {R:List Evt} {vr:GV} (h:RowV R vr) (a:List UInt8) (H:GH):ecall T zp4 [vr,.str (mkB a)] H = some (.bool (zgQ R a),H) := by
  have hc := fun H => znb h (zaY a) H
  have hu := h.el.unb
  have ho := h.el.ok
  simp only [elC] at hc
  apply optW.eq
  rw [zbM zBK rfl (by simp [zqA]),zab]
  simp at hc
  simp [zqA,zyR,hu,ho,zaU,zae,hc,zgQ]
theorem zkA {R:List Evt} {vr:GV} (h:RowV R vr) (x:Lk) (H:GH):ecall T ztX [vr,.agg (lkC x)] H = some (.bool (zdP R x),H) := by
  have hc := fun H => znb h (zfV x) H
  have hE := fun H => zrb x H
  have hf := fun H => zkz h x.f H
  have ht := fun H => zkz h x.t H
  have hu := h.el.unb
  have ho := h.el.ok
  simp only [lkC] at hE ⊢
  apply optW.eq
  rw [zbM zBL rfl (by simp [zlM]),zab]
  unfold zdP
  cases h1:zkw R (zfV x)
  · rw [h1] at hc
    simp [zlM,zuk,hu,ho,hE,hc]
  · rw [h1] at hc
    cases h2:zgQ R x.f
    · rw [h2] at hf
      simp [zlM,zuk,hu,ho,hE,hc,hf]
    · rw [h2] at hf
      simp [zlM,zuk,hu,ho,hE,hc,hf,ht]
end Go.Proofs.YtchjbidfmhmmhaaGreatDoor
namespace Go.Proofs.YtchjbidfmhmmhaaGreatDoor
open Go.Sh
set_option maxHeartbeats 4000000
set_option maxRecDepth 100000
theorem zuy (x:Lk) (out:List Lk) (ho:out.length ≤ 1000) (v:GV) (hv:Elems 3 v (out.map lkG)) (g6:Nat) (l0:List GV) (g0:Nat) (H0:GH) (K:GExit × St → Prop)
    (h3:zaf l0 3 = v) (h6:zaf l0 6 = .lbox g6 (lkC x)) (h7:zaf l0 7 = .int .i64 0)
    (hk:∀ l g,zaf l 7 = .int .i64 (ixP (zd7 x) out) → Fr ziD l0 l → K (.exit 2,⟨⟨l,g⟩,H0⟩)) :
    optW (erun T (.loop ziD) ⟨⟨l0,g0⟩,H0⟩) K := by
  refine zcO (l0 := l0) (fun m l g H => H = H0 ∧ ∃ i:Nat,m = out.length - i ∧ i ≤ out.length ∧ zaf l 7 = .int .i64 i ∧ ∀ k,k < i → ∀ y,out[k]? = some y → zd7 x y = true) ?_ out.length l0 g0 H0 ⟨rfl,0,rfl,Nat.zero_le _,h7,fun k hk => by omega⟩ (.refl _ _ _)
  intro m l g H ⟨hH,i,hm,hi,q7,lo⟩ hf
  subst hH
  have q3 := hf.get 3 rfl h3 (by simp [hv.boxy])
  have q6 := hf.get 6 rfl h6 rfl
  have hl := hv.len
  have hu := zam hv
  have hok := hv.ok
  simp only [List.length_map] at hl
  by_cases hlt:i < out.length
  · have hlt':(i:Int) < out.length := by omega
    obtain ⟨lt,ix,opt,get,⟨t,sl⟩,wr_,mem⟩ := zdi (e := lkG) hv hlt (by omega)
    generalize out[i]'hlt = y at opt get mem
    have hle := fun H => zra y x H
    have hw:IntKind.i64.wrap ((i:Int) + 1) = (i:Int) + 1 := zaq (by omega) (by omega)
    have hlx:(lkC y).length = 3 := rfl
    have htx:List.take 3 (lkC y) = lkC y := rfl
    have hlx':(lkC x).length = 3 := rfl
    have htx':List.take 3 (lkC x) = lkC x := rfl
    rw [sl] at q3
    have hfd:zd7 x y = decide (zey y x < 0) := rfl
    cases hb:decide (zey y x < 0) with
    | true =>
      rw [hb] at hle
      simp [ziD,q3,q6,q7,hl,hlt',ix,opt,hlx,htx,hlx',htx',hle,hw]
      refine ⟨out.length - (i + 1),by omega,i + 1,rfl,by omega,by simp,fun k hk z hz => ?_⟩
      rcases Nat.lt_or_ge k i with h | h
      · exact lo k h z hz
      · have:k = i := by omega
        rw [this,opt] at hz
        injection hz with hz
        rw [← hz,hfd,hb]
    | false =>
      rw [hb] at hle
      have hx := zrt (p := zd7 x) hi lo (fun z hz => by rw [opt] at hz; injection hz with hz; rw [← hz,hfd,hb])
      simp [ziD,q3,q6,q7,hl,hlt',ix,opt,hlx,htx,hlx',htx',hle,hw]
      exact fun hf' => hk _ _ (by simp [q7,hx]) hf'
  · have hie:i = out.length := by omega
    have hx := zrt (p := zd7 x) hi lo (fun z hz => by rw [hie] at hz; simp at hz)
    simp [ziD,q3,q7,hl,hu,hok,hlt]
    exact fun hf' => hk _ _ (by simp [q7,hx]) hf'
def zds (R:List Evt) (out:List Lk) (e:El):List Lk := if decide (e.k = 3) && zdP R (zbZ e) then zin (zd7 (zbZ e)) (zbZ e) out else out
theorem zrc (R:List Evt) (out:List Lk) (e:El):(zds R out e).length ≤ out.length + 1 := by
  unfold zds; split
  · rw [znd]; exact Nat.le_refl _
  · omega
theorem ziK (R:List Evt):∀ (X:List El) (out:List Lk),X.foldl (zds R) out = ((X.filter fun e => decide (e.k = 3) && zdP R (zbZ e)).map zbZ).foldl (fun out x => zin (zd7 x) x out) out
  | [],_ => rfl
  | e :: X,out => by
    rw [List.foldl_cons,ziK R X,List.filter_cons]
    unfold zds
    split <;> simp [*]
theorem zoj {R:List Evt} {vr:GV} (h:RowV R vr) (X:List El) (hX:X.length ≤ 500) (vx:GV) (hvx:Elems 5 vx (X.map elG)) (l0:List GV) (g0:Nat) (H0:GH) (hbt:H0.bt ≤ H0.toks.length) (K:GExit × St → Prop)
    (h9:zaf l0 9 = vx) (h10:zaf l0 10 = .int .i64 X.length) (h11:zaf l0 11 = .int .i64 0) (h3:zaf l0 3 = .nilsl) (h0:zaf l0 0 = vr)
    (he:∀ l g H v,zaf l 3 = v → Elems 3 v ((X.foldl (zds R) []).map lkG) → TokStep none H0 H → Fr zqw l0 l → K (.exit 0,⟨⟨l,g⟩,H⟩)) :
    optW (erun T (.loop zqw) ⟨⟨l0,g0⟩,H0⟩) K := by
  refine zbd (T := T) (n := X.length) (A := GV) (fun _ s => [(3,s)]) (fun i s _ H' => Elems 3 s (((X.take i).foldl (zds R) []).map lkG) ∧ TokStep none H0 H' ∧ ((X.take i).foldl (zds R) []).length ≤ i) (c := 12) (b := 0) (I := 11) (N := 10) (d := 57) rfl (by omega) (by decide) ⟨rfl,rfl⟩ (by simp) ?_ ?_ 0 .nilsl _ _ H0 (by omega) ⟨by rw [List.take_zero]; exact .nil,.refl _ _,by simp⟩ (by simp [h3]) (.refl _ _ _) h11 h10
  · intro i s l g H' hi ⟨hE,hT,hol⟩ hh hf hI
    have k9 := hf.get 9 rfl h9 (by simp [hvx.boxy])
    have k0 := hf.get 0 rfl h0 (by simp [h.el.boxy])
    obtain ⟨lt,ix,opt,get,⟨t,sv⟩,wr_,mem⟩ := zdi (e := elG) hvx hi (by omega)
    generalize X[i]'hi = e at opt get mem
    have hst:(X.take (i + 1)).foldl (zds R) [] = zds R ((X.take i).foldl (zds R) []) e := zgb (zds R) [] X i e opt
    have hol' := zrc R ((X.take i).foldl (zds R) []) e
    rw [hst]
    generalize (X.take i).foldl (zds R) [] = out at hE hol hol'
    have hlk := fun H => zkA h (zbZ e) H
    simp only [zaA,zaI,and_true] at hh
    rw [sv] at k9
    have vu := h.el.unb
    have vo := h.el.ok
    have hu := zam hE
    have hl := hE.len
    have hk := hE.ok
    simp only [List.length_map] at hl
    obtain ⟨ek,ea,eb,ec,ed⟩ := e
    simp only [lkC] at hlk
    by_cases h3':ek = 3
    · subst h3'
      cases hlr:zdP R ⟨ea,eb,ec⟩ with
      | false =>
        rw [hlr] at hlk
        have hadd:zds R out ⟨3,ea,eb,ec,ed⟩ = out := by simp [zds,hlr]
        rw [hadd]
        simp [k9,k0,hI,ix,opt,get,elC,zae,zaU,vu,vo,hlk]
        exact fun _ => by rw [hh]; exact ⟨hE,hT,by omega⟩
      | true =>
        rw [hlr] at hlk
        have hadd:zds R out ⟨3,ea,eb,ec,ed⟩ = zin (zd7 ⟨ea,eb,ec⟩) ⟨ea,eb,ec⟩ out := by simp [zds,hlr]
        rw [hadd]
        rw [hadd] at hol'
        simp [k9,k0,hI,ix,opt,get,elC,zae,zaU,vu,vo,hlk]
        rw [zao,zaw,zao]
        refine zuy ⟨ea,eb,ec⟩ out (by omega) s hE (g + 1) _ _ H' _ (by simp [hh]) (by simp [lkC]) (by simp) ?_
        intro l2 g2 k7 hf2
        have k3 := hf2.get 3 rfl (v := s) (by simp [hh]) (by simp [hE.boxy])
        have k6 := hf2.get 6 rfl (v := .lbox (g + 1) (lkC ⟨ea,eb,ec⟩)) (by simp [lkC]) rfl
        have hix := zwN (zd7 ⟨ea,eb,ec⟩) out
        have hb := hT.btle hbt
        unfold zin at hol' ⊢
        generalize ixP (zd7 ⟨ea,eb,ec⟩) out = k at k7 hix hol'
        have g1:zay (out.map lkG).length false true false [.int .i64 (k:Int)] = some (0,k,none) := by
          simp only [zay,List.length_map,zdt hix,Option.map_some]
        have g2':zay (out.map lkG).length true false false [.int .i64 (k:Int)] = some (k,out.length,none) := by
          simp only [zay,List.length_map,zdt hix,Option.map_some]
        obtain ⟨c1,d1,e1⟩ := hE.cut g1
        obtain ⟨c2,d2,e2⟩ := hE.cut g2'
        have o1 := e1.ok
        have o2 := e2.ok
        obtain ⟨m,H1,n,H2,r,H3,b1,b2,b3,b4,b5,b6,b7,b8⟩ := zgB (H := H') (ty := 73) (bytes := 48) (z := lkG ⟨ea,eb,ec⟩) e1 e2 (by simp [zbT]) hb (by simp; omega) (by omega)
        have hx:((out.map lkG).drop 0).take (k - 0) ++ lkG ⟨ea,eb,ec⟩ :: ((out.map lkG).drop k).take (out.length - k) = (out.take k ++ (⟨ea,eb,ec⟩:Lk) :: out.drop k).map lkG := by
          rw [List.drop_zero,Nat.sub_zero,List.map_append,List.map_cons,List.map_take,List.map_drop,List.take_of_length_le (l := (out.map lkG).drop k) (by simp)]
        rw [hx] at b7
        simp only [lkG,lkC] at k6 b3
        simp [-zfN,k3,k6,k7,hl,hu,hk,d1,d2,o1,o2,zan,zaU,b1,b2,b3,b4,b5,b6]
        exact fun _ => ⟨by simpa using b7,hT.trans b8,by simpa using (show _ ≤ i + 1 by omega)⟩
    · have hadd:zds R out ⟨ek,ea,eb,ec,ed⟩ = out := by simp [zds,h3']
      rw [hadd]
      simp [k9,k0,hI,ix,opt,get,elC,zae,zaU,vu,vo,h3']
      exact fun _ => by rw [hh]; exact ⟨hE,hT,by omega⟩
  · intro s l g H' ⟨hE,hT,_⟩ hh hf
    simp only [zaA,zaI,and_true] at hh
    rw [List.take_length] at hE
    exact he l g H' s hh hE hT hf
theorem zok {R:List Evt} {vr:GV} (h:RowV R vr) (H:GH):∃ v,ecall T zp3 [vr] H = some (v,H) ∧ Elems 3 v ((zbv R).map lkG) := by
  have hle := h.row.le
  obtain ⟨vx,H1,hx,hE,hT⟩ := zrv (by omega) h.row.fit vr h.el H.over (Nat.le_refl _)
  have l := hE.len
  simp only [List.length_map] at l
  have hel := zga R
  have key:optW (ecall T zp3 [vr] H) fun r => ∃ v,r = (v,H) ∧ Elems 3 v ((zbv R).map lkG) := by
    rw [zbM zBH rfl (by simp [zqx]),zab]
    simp only [zqx,zyO]
    have vu := h.el.unb
    have vo := h.el.ok
    simp [vu,vo,hx,hE.unb,hE.ok,l]
    rw [zaw,zao]
    refine zoj h (zbj R) (by omega) vx hE _ _ H1 (hT.btle (Nat.le_refl _)) _ (by simp [hE.unb]) (by simp) (by simp) (by simp) (by simp [vu]) ?_
    intro l4 g4 H4 v k3 hE4 hT4 hf4
    rw [ziK] at hE4
    obtain ⟨v2,d1,d2⟩ := zdr (a := H.objs.length) (b := H.toks.length) (n := 99) hE4 (fun x hx => by obtain ⟨y,_,rfl⟩ := List.mem_map.1 hx; rfl)
    simp [k3,hE4.unb,hE4.ok,d1]
    exact d2
  obtain ⟨r,hr,v,rfl,h2⟩ := key
  exact ⟨v,hr,h2⟩
end Go.Proofs.YtchjbidfmhmmhaaGreatDoor
namespace Go.Proofs.YtchjbidfmhmmhaaGreatDoor
open Go.Sh
set_option maxHeartbeats 4000000
set_option maxRecDepth 100000
theorem zrd (x y:Lk):zaB [.str,.str,.str] (lkC x) (lkC y) = some (decide (x = y)) := by
  obtain ⟨a,b,c⟩ := x
  obtain ⟨a',b',c'⟩ := y
  simp only [lkC,zaB,zaZ,zwL,Lk.mk.injEq,Option.some.injEq]
  by_cases h1:a = a' <;> by_cases h2:b = b' <;> by_cases h3:c = c' <;> simp [h1,h2,h3]
theorem zuz (R:List Evt) (x:El):decide (x ∈ zc5 R) = zkw R x := by
  rw [Bool.eq_iff_iff,decide_eq_true_eq]; exact zlY
theorem zre (R:List Evt) (a:List UInt8):(zq8 R).there (zaY a) = zgQ R a := by
  show (decide (zaY a ∈ zc5 R) && zaM (zc5 R) (zaY a)) = _
  rw [zuz,zob,zgQ,Bool.and_self]
theorem zkB {R:List Evt} (h:Row R) {x:Lk} (hx:x ∈ zbv R):zdP R x = true ∧ ∃ e ∈ zbj R,e.k = 3 ∧ zbZ e = x := by
  have h1 := (zf9 h (zcD (zbD R))).1
  rw [← h1,(za2 _).mem_iff,zf8 h] at hx
  obtain ⟨e,he,rfl⟩ := List.mem_map.1 hx
  obtain ⟨h2,h3⟩ := List.mem_filter.1 he
  simp only [Bool.and_eq_true,decide_eq_true_eq] at h3
  exact ⟨h3.2,e,h2,h3.1,rfl⟩
theorem zkC {R:List Evt} (h:Row R):(zbv R).length ≤ 60 := by
  have h1 := (zf9 h (zcD (zbD R))).1
  rw [← h1,(za2 _).length_eq,zf8 h,List.length_map]
  have h2 := List.length_filter_le (fun e => decide (e.k = 3) && zdP R (zbZ e)) (zbj R)
  have h3 := zga R
  have h4 := h.le
  omega
theorem zol {R:List Evt} (h:Row R) {x:Lk} (hx:x ∈ zbv R):x.f.length ≤ 1125899906842624 ∧ x.t.length ≤ 1125899906842624 := by
  obtain ⟨_,e,he,_,rfl⟩ := zkB h hx
  obtain ⟨y,hy,rfl⟩ := ((zc8 R).2 e).1 he
  have := h.fit y hy
  have h1 := this.x.a; have h2 := this.x.b
  exact ⟨by show y.x.a.length ≤ _; omega,by show y.x.b.length ≤ _; omega⟩
theorem zjs (p:Lk → Bool) (L:List Lk) (i:Nat) (x:Lk) (h:L[i]? = some x) (hp:p x = true):(L.filter p)[((L.take i).filter p).length]? = some x ∧ ((L.take i).filter p).length < (L.filter p).length := by
  have hlt := (List.getElem?_eq_some_iff.1 h).1
  have e:L.filter p = (L.take i).filter p ++ x :: (L.drop (i + 1)).filter p := by
    have:L = L.take i ++ x :: L.drop (i + 1) := by
      have h2 := (List.getElem?_eq_some_iff.1 h).2
      rw [← h2,← List.drop_eq_getElem_cons hlt,List.take_append_drop]
    conv => lhs; rw [this]
    rw [List.filter_append,List.filter_cons,if_pos hp]
  rw [e]
  refine ⟨by simp,by simp⟩
theorem zl3 {R:List Evt} (hR:Row R) (key:List UInt8) (va vw vo vi:GV) (hva:Elems 3 va ((zbv R).map lkG)) (hvw:Elems 3 vw ((zbv R).map lkG)) (hvo:Elems 3 vo (((zbv R).filter fun x => decide (x.f = key)).map lkG)) (hvi:Elems 3 vi (((zbv R).filter fun x => decide (x.t = key)).map lkG))
    (n:Nat) (l0:List GV) (g0:Nat) (H0:GH) (hV:zq9 H0 n R) (K:GExit × St → Prop)
    (h43:zaf l0 43 = va) (h44:zaf l0 44 = .int .i64 (zbv R).length) (h45:zaf l0 45 = .int .i64 0) (h7:zaf l0 7 = .ptr (n + 6) 0) (h9:zaf l0 9 = vw) (h10:zaf l0 10 = vo) (h11:zaf l0 11 = vi) (h1:zaf l0 1 = .str (mkB key)) (h12:zaf l0 12 = .int .i64 0) (h13:zaf l0 13 = .int .i64 0)
    (he:∀ l g,zaf l 12 = .int .i64 ((zbv R).filter fun x => decide (x.f = key)).length → zaf l 13 = .int .i64 ((zbv R).filter fun x => decide (x.t = key)).length → Fr zqg l0 l → K (.exit 0,⟨⟨l,g⟩,H0⟩)) :
    optW (erun T2 (.loop zqg) ⟨⟨l0,g0⟩,H0⟩) K := by
  have hlen := zkC hR
  have hsm:∀ x ∈ zbv R,zdP R x = true ∧ x.f.length ≤ 1125899906842624 ∧ x.t.length ≤ 1125899906842624 := fun x hx => ⟨(zkB hR hx).1,zol hR hx⟩
  generalize hL:zbv R = L at *
  refine zbd (T := T2) (n := L.length) (A := Unit) (fun i _ => [(12,.int .i64 ((L.take i).filter fun x => decide (x.f = key)).length),(13,.int .i64 ((L.take i).filter fun x => decide (x.t = key)).length)]) (fun _ _ _ H' => H' = H0) (c := 46) (b := 0) (I := 45) (N := 44) (d := 106) rfl (by omega) (by decide) ⟨rfl,rfl⟩ (by simp) ?_ ?_ 0 () _ _ H0 (by omega) rfl (by simp [h12,h13]) (.refl _ _ _) h45 h44
  · intro i a l g H' hi hH hh hf hI
    subst hH
    have k43 := hf.get 43 rfl h43 (by simp [hva.boxy])
    have k7 := hf.get 7 rfl h7 rfl
    have k9 := hf.get 9 rfl h9 (by simp [hvw.boxy])
    have k10 := hf.get 10 rfl h10 (by simp [hvo.boxy])
    have k11 := hf.get 11 rfl h11 (by simp [hvi.boxy])
    have k1 := hf.get 1 rfl h1 rfl
    obtain ⟨lt,ix,opt,get,⟨t,sv⟩,wr_,mem⟩ := zdi (e := lkG) hva hi (by omega)
    obtain ⟨_,ixw,_,getw,⟨tw,svw⟩,_,_⟩ := zdi (e := lkG) hvw hi (by omega)
    generalize L[i]'hi = x at opt get mem
    obtain ⟨hlk,bf,bt⟩ := hsm x mem
    have hnf:zgQ R x.f = true := by unfold zdP at hlk; simp only [Bool.and_eq_true] at hlk; exact hlk.2.1
    have hnt:zgQ R x.t = true := by unfold zdP at hlk; simp only [Bool.and_eq_true] at hlk; exact hlk.2.2
    have c1 := up (zna hV x.f bf)
    have c2 := up (zna hV x.t bt)
    rw [zre,hnf] at c1
    rw [zre,hnt] at c2
    have le := zrd x x
    simp only [decide_true] at le
    have hlx:(lkC x).length = 3 := rfl
    have htx:List.take 3 (lkC x) = lkC x := rfl
    have hone:(lkC x).all GV.one = true := rfl
    have hsp:zae [GV.str ⟨#[]⟩,.str ⟨#[]⟩,.str ⟨#[]⟩] 0 (lkC x) = some (lkC x) := rfl
    have hx0:∀ h,(lkC x)[0]'h = .str (mkB x.f) := fun _ => rfl
    have hx1:∀ h,(lkC x)[1]'h = .str (mkB x.t) := fun _ => rfl
    have f1 := zc7 (fun x => decide (x.f = key)) L i x opt
    have f2 := zc7 (fun x => decide (x.t = key)) L i x opt
    simp only [zaA,zaI,and_true] at hh
    obtain ⟨q12,q13⟩ := hh
    have lA := List.length_filter_le (fun x => decide (x.f = key)) (L.take i)
    have lB := List.length_filter_le (fun x => decide (x.t = key)) (L.take i)
    rw [List.length_take] at lA lB
    have wA:IntKind.i64.wrap ((((L.take i).filter fun x => decide (x.f = key)).length:Int) + 1) = (((L.take i).filter fun x => decide (x.f = key)).length:Int) + 1 := zaq (by omega) (by omega)
    have wB:IntKind.i64.wrap ((((L.take i).filter fun x => decide (x.t = key)).length:Int) + 1) = (((L.take i).filter fun x => decide (x.t = key)).length:Int) + 1 := zaq (by omega) (by omega)
    rw [sv] at k43
    rw [svw] at k9
    have eo := hvo.len
    have ei := hvi.len
    simp only [List.length_map] at eo ei
    rw [f1,f2]
    by_cases hf1:x.f = key
    · obtain ⟨go,glt⟩ := zjs (fun x => decide (x.f = key)) L i x opt (by simp [hf1])
      obtain ⟨olt,oix,oopt,oget,⟨ot,osv⟩,_,_⟩ := zdi (e := lkG) hvo glt (by have := List.length_filter_le (fun x => decide (x.f = key)) L; omega)
      have og:∀ h,(L.filter fun x => decide (x.f = key))[((L.take i).filter fun x => decide (x.f = key)).length]'h = x := fun _ => (List.getElem?_eq_some_iff.1 go).2
      rw [osv] at k10 eo
      rw [hf1] at c1
      by_cases ht1:x.t = key
      · obtain ⟨gi,gilt⟩ := zjs (fun x => decide (x.t = key)) L i x opt (by simp [ht1])
        obtain ⟨ilt,iix,iopt,iget,⟨it,isv⟩,_,_⟩ := zdi (e := lkG) hvi gilt (by have := List.length_filter_le (fun x => decide (x.t = key)) L; omega)
        have ig:∀ h,(L.filter fun x => decide (x.t = key))[((L.take i).filter fun x => decide (x.t = key)).length]'h = x := fun _ => (List.getElem?_eq_some_iff.1 gi).2
        rw [isv] at k11 ei
        rw [ht1] at c2
        simp [k43,k7,k9,k10,k11,k1,hI,ix,opt,get,hlx,htx,hone,hsp,le,hx0,hx1,c1,c2,hf1,ht1,q12,q13,wA,wB,zbt,oix,og,iix,ig,glt,gilt,Nat.not_le.2 glt,Nat.not_le.2 gilt]
      · simp [k43,k7,k9,k10,k11,k1,hI,ix,opt,get,hlx,htx,hone,hsp,le,hx0,hx1,c1,c2,hf1,ht1,q12,q13,wA,wB,zbt,oix,og,glt,Nat.not_le.2 glt]
    · by_cases ht1:x.t = key
      · obtain ⟨gi,gilt⟩ := zjs (fun x => decide (x.t = key)) L i x opt (by simp [ht1])
        obtain ⟨ilt,iix,iopt,iget,⟨it,isv⟩,_,_⟩ := zdi (e := lkG) hvi gilt (by have := List.length_filter_le (fun x => decide (x.t = key)) L; omega)
        have ig:∀ h,(L.filter fun x => decide (x.t = key))[((L.take i).filter fun x => decide (x.t = key)).length]'h = x := fun _ => (List.getElem?_eq_some_iff.1 gi).2
        rw [isv] at k11 ei
        rw [ht1] at c2
        simp [k43,k7,k9,k10,k11,k1,hI,ix,opt,get,hlx,htx,hone,hsp,le,hx0,hx1,c1,c2,hf1,ht1,q12,q13,wA,wB,zbt,iix,ig,gilt,Nat.not_le.2 gilt]
      · simp [k43,k7,k9,k10,k11,k1,hI,ix,opt,get,hlx,htx,hone,hsp,le,hx0,hx1,c1,c2,hf1,ht1,q12,q13,wA,wB,zbt]
  · intro a l g H' hH hh hf
    subst hH
    simp only [zaA,zaI,and_true] at hh
    rw [List.take_length] at hh
    exact he l g hh.1 hh.2 hf
theorem zjt (E:List Evt) (hE:E.length ≤ 9223372036854775807) (hin:∀ e ∈ E,EvIn e) (ve:GV) (hve:Elems 27 ve (E.map evG)) (key:List UInt8) (hkey:key.length ≤ 1125899906842624) (H:GH) (hbo:H.bo ≤ H.objs.length) (hbt:H.bt ≤ H.toks.length) :
    ∃ H',ecall T2 zkg [ve,.str (mkB key)] H = some (.bool true,H') := by
  have hfx := zq6
  obtain ⟨fb,hfew,hfb⟩ := zzz E hE (fun e he => (hin e he).big) ve hve H
  have hfew := up hfew
  have goal:optW (ecall T2 zkg [ve,.str (mkB key)] H) fun r => ∃ H',r = (.bool true,H') := by
    rw [zad (zpR _ _ zzm) rfl (by simp [zqh]),zab]
    simp only [zqh,zyx]
    have hue := zam hve
    have hok := hve.ok
    cases fb with
    | false => simp [hfx,hue,hok,hfew]
    | true =>
      obtain ⟨hl60,hsh⟩ := hfb rfl
      have hfit:∀ e ∈ E,EvFit e := fun e he => (hin e he).fit (hsh e he)
      obtain ⟨vr,H1,hca,hG⟩ := zou E (by omega) hfit ve hve H hbt
      have hca := up hca
      have hrow := zyq hl60 hfit
      have hcl := (zgc E).2
      generalize (zbk E).1 = R at hrow hG
      generalize (zbk E).2 = kv at hcl hca
      have hrok := hG.ok
      have hre := hG.app.elems
      have hrl := hre.len
      have hru := zam hre
      simp only [List.length_map] at hrl
      have hbo1:H1.bo ≤ H1.objs.length := by rw [hG.step.objs,hG.step.bo]; exact hbo
      have hbt1:H1.bt ≤ H1.toks.length := hG.step.btle hbt
      have hone:∀ z:List GV,z.length = 16 → zae z 0 (kv.map zh9) = some (kv.map zh9) := fun z hz => by
        simp only [zae,hz,List.length_map,hcl]; simp [hcl,hz]
      have ho2:kv.all (GV.one ∘ zh9) = true := by rw [List.all_eq_true]; intros; rfl
      have t3:List.take 16 kv = kv := List.take_of_length_le (by omega)
      obtain ⟨n,H2,hvw,hV,hB,hn1,hn2,hbt2,hbo2⟩ := zwJ hrow vr hre H1 hbo1 hbt1
      have hV':VDone H2 n (zq8 R) (zbv R) (fun a => (zbv R).filter fun x => decide (x.f = a)) (fun a => (zbv R).filter fun x => decide (x.t = a)) := hV
      have hll := zkC hrow
      obtain ⟨va,hva1,hva⟩ := zoh hV' (by omega)
      obtain ⟨vw,hvw1,hvw2⟩ := zok ⟨hrow,hre⟩ H2
      obtain ⟨vo,hvo1,hvo⟩ := zuw hV' key hkey (by have := List.length_filter_le (fun x => decide (x.f = key)) (zbv R); omega)
      obtain ⟨vi,hvi1,hvi⟩ := zwG hV' key hkey (by have := List.length_filter_le (fun x => decide (x.t = key)) (zbv R); omega)
      have hva1 := up hva1
      have hvw1 := up hvw1
      have hvo1 := up hvo1
      have hvi1 := up hvi1
      have a1 := hva.len
      have a2 := zam hva
      have a3 := hva.ok
      have b1 := hvw2.len
      have b2 := zam hvw2
      have b3 := hvw2.ok
      have o1 := hvo.len
      have o2 := zam hvo
      have o3 := hvo.ok
      have i1 := hvi.len
      have i2 := zam hvi
      have i3 := hvi.ok
      simp only [List.length_map] at a1 b1 o1 i1
      simp [hfx,hue,hok,hfew,hca,hrok,hrl,hru,hcl,hone,ho2,t3,hvw,hva1,hvw1,hvo1,hvi1,a1,a2,a3,b1,b2,b3,o2,o3,i2,i3]
      rw [zaw,zao]
      refine zl3 hrow key va vw vo vi hva hvw2 hvo hvi n _ _ H2 hV _ (by simp [a2]) (by simp) (by simp) (by simp) (by simp [b2]) (by simp [o2]) (by simp [i2]) (by simp) (by simp) (by simp) ?_
      intro l g k12 k13 hf
      have k10 := hf.get 10 rfl (v := vo) (by simp [o2]) (by simp [hvo.boxy])
      have k11 := hf.get 11 rfl (v := vi) (by simp [i2]) (by simp [hvi.boxy])
      simp [k12,k13,k10,k11,o1,i1,o2,i2]
  obtain ⟨r,h,H',rfl⟩ := goal
  exact ⟨H',h⟩
end Go.Proofs.YtchjbidfmhmmhaaGreatDoor
namespace Go.Proofs.YtchjbidfmhmmhaaGreatDoor
open Go.Sh Go.ChangeShapes Go.WideShapes Go.ChangeAt Go.RowKit
set_option maxRecDepth 100000
theorem zhj (gargs:List GV) (h:ArgsFit [.slice zAU,.str] gargs):∃ H',ecall T2 zkg gargs (zlv Tryz.prog.globals.size) = some (.bool true,H') := by
  cases h with
  | cons h1 t1 =>
  cases t1 with
  | cons h2 t2 =>
    cases t2
    obtain ⟨E,hE,he,hel⟩ := zsF (f := evG) (fun c hc => zwR hc) h1
    obtain ⟨t,rfl,ht⟩ := zgd h2
    exact zjt E (by unfold maxLen at hel; omega) he _ hE t ht _ (by simp [zlv]) (by simp [zlv])
end Go.Proofs.YtchjbidfmhmmhaaGreatDoor
