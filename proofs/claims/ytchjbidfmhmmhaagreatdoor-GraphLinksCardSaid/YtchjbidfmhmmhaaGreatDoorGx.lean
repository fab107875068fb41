/- Own work: the zaL machine and what it shows, part Gx. -/
import Derived.Test.YtchjbidfmhmmhaaGreatDoorGw
import Derived.Test.YtchjbidfmhmmhaaGreatDoorAl
set_option linter.all false
namespace Go.Proofs.YtchjbidfmhmmhaaGreatDoor
open Go.Sh
set_option maxHeartbeats 4000000
set_option maxRecDepth 100000
theorem zdr {a b n:Nat} {sz:Nat} {v:GV} {xs:List GV} (hv:Elems sz v xs) (h:∀ x ∈ xs,zaG a b n x = some x):∃ v',zaG a b (n + 1) v = some v' ∧ Elems sz v' xs := by
  cases hv with
  | nil => exact ⟨.nilsl,rfl,.nil⟩
  | sl _ t =>
    have := zcN a b n xs h
    exact ⟨_,by show (xs.mapM (zaG a b n)).map _ = _; rw [this]; rfl,.sl _ _⟩
theorem zjr {v:GV} {xs:List GV} (hv:Elems 3 v xs) (hl:xs.length ≤ 10000) (H:GH) (hbt:H.bt ≤ H.toks.length):∃ v' H',ecall T znW [v] H = some (v',H') ∧ Elems 3 v' xs ∧ TokStep none H H' := by
  cases hv with
  | nil =>
    refine ⟨.nilsl,H, ?_,.nil,.refl _ _⟩
    apply optW.eq
    rw [zad zzp rfl (by simp [zlQ]),zab]
    simp [zlQ,zwx]
  | sl xs t =>
    obtain ⟨s',H',a1,a2,a3,a4⟩ := zhU (H := H) (ty := 73) (sz := 3) (bytes := 48) (s := .sl 3 [] .exact) (x := .sl 3 xs t) (.exact []) (ys := xs) (by simp [zbT]) hbt (by simp [zeN]; omega) (by simp [maxLen]; omega)
    have e1 := a2.elems.unb
    have e2 := a2.ok
    refine ⟨s',H', ?_,by simpa using a2.elems,a3⟩
    apply optW.eq
    rw [zad zzp rfl (by simp [zlQ]),zab]
    simp [zlQ,zwx,zan,a1,e1,e2]
section
variable {H:GH} {n:Nat} {w:Vw} {links:List Lk} {outs ins:List UInt8 → List Lk}
theorem zoh (hV:VDone H n w links outs ins) (hl:links.length ≤ 1000):∃ v,ecall T znU [.ptr (n + 6) 0] H = some (v,H) ∧ Elems 3 v (links.map lkG) := by
  obtain ⟨vn,vl,h6,_,hn⟩ := hV.obj
  obtain ⟨v',H',c1,c2,_⟩ := zjr hn (by rw [List.length_map]; omega) H.over (Nat.le_refl _)
  obtain ⟨v2,d1,d2⟩ := zdr (a := H.objs.length) (b := H.toks.length) (n := 99) c2 (fun x hx => by obtain ⟨y,_,rfl⟩ := List.mem_map.1 hx; rfl)
  refine ⟨v2, ?_,d2⟩
  apply optW.eq
  rw [zbM zBG rfl (by simp [zqv]),zab]
  simp [zqv,zyN,h6,hn.unb,hn.ok,c1,c2.unb,c2.ok,d1]
theorem zuw (hV:VDone H n w links outs ins) (a:List UInt8) (ha:a.length ≤ 1125899906842624) (hl:(outs a).length ≤ 1000):∃ v,ecall T ztV [.ptr (n + 6) 0,.str (mkB a)] H = some (v,H) ∧ Elems 3 v ((outs a).map lkG) := by
  obtain ⟨vn,vl,h6,_,_⟩ := hV.obj
  obtain ⟨es,h0,hM⟩ := hV.outs
  have hk := zhh a ha
  have hn := hM.at_ a hk
  generalize hv:(za1 es (zb7 a)).getD .nilsl = v0 at hn
  simp only [zb7] at hv hk
  obtain ⟨v',H',c1,c2,_⟩ := zjr hn (by rw [List.length_map]; omega) H.over (Nat.le_refl _)
  obtain ⟨v2,d1,d2⟩ := zdr (a := H.objs.length) (b := H.toks.length) (n := 99) c2 (fun x hx => by obtain ⟨y,_,rfl⟩ := List.mem_map.1 hx; rfl)
  refine ⟨v2, ?_,d2⟩
  apply optW.eq
  rw [zbM zBI rfl (by simp [zqy]),zab]
  simp [zqy,zyP,h6,h0,hk,hv,hn.unb,hn.ok,c1,c2.unb,c2.ok,d1]
theorem zwG (hV:VDone H n w links outs ins) (a:List UInt8) (ha:a.length ≤ 1125899906842624) (hl:(ins a).length ≤ 1000):∃ v,ecall T ztW [.ptr (n + 6) 0,.str (mkB a)] H = some (v,H) ∧ Elems 3 v ((ins a).map lkG) := by
  obtain ⟨vn,vl,h6,_,_⟩ := hV.obj
  obtain ⟨es,h0,hM⟩ := hV.ins
  have hk := zhh a ha
  have hn := hM.at_ a hk
  generalize hv:(za1 es (zb7 a)).getD .nilsl = v0 at hn
  simp only [zb7] at hv hk
  obtain ⟨v',H',c1,c2,_⟩ := zjr hn (by rw [List.length_map]; omega) H.over (Nat.le_refl _)
  obtain ⟨v2,d1,d2⟩ := zdr (a := H.objs.length) (b := H.toks.length) (n := 99) c2 (fun x hx => by obtain ⟨y,_,rfl⟩ := List.mem_map.1 hx; rfl)
  refine ⟨v2, ?_,d2⟩
  apply optW.eq
  rw [zbM zBJ rfl (by simp [zqz]),zab]
  simp [zqz,zyQ,h6,h0,hk,hv,hn.unb,hn.ok,c1,c2.unb,c2.ok,d1]
theorem zna (hV:VDone H n w links outs ins) (a:List UInt8) (ha:a.length ≤ 1125899906842624):ecall T znT [.ptr (n + 6) 0,.str (mkB a)] H = some (.bool (w.there (zaY a)),H) := by
  obtain ⟨vn,vl,h6,_,_⟩ := hV.obj
  obtain ⟨es,h0,hM⟩ := hV.there
  have hk := zfo a ha
  have hn := hM.at_ (zaY a) hk
  have gN := fun H => zc6 a H
  apply optW.eq
  rw [zbM zBF rfl (by simp [zqu]),zab]
  simp [zqu,zyM,h6,h0,hk,hn,gN]
end
end Go.Proofs.YtchjbidfmhmmhaaGreatDoor
namespace Go.Proofs.YtchjbidfmhmmhaaGreatDoor
open Go.Sh
set_option maxRecDepth 100000
theorem zoi (H:GH):zbw T2 3000 ztU [] H = some (.bool true,H) := by kernel_rfl
theorem zq6 (H:GH):ecall T2 ztU [] H = some (.bool true,H) := ecall_iff.2 ⟨3000,zoi H⟩
end Go.Proofs.YtchjbidfmhmmhaaGreatDoor
namespace Go.Proofs.YtchjbidfmhmmhaaGreatDoor
open Go.Sh
set_option maxHeartbeats 4000000
set_option maxRecDepth 100000
theorem zux (E:List Evt) (hE:E.length ≤ 9223372036854775807) (hbig:∀ e ∈ E,EvBig e) (ve:GV) (hve:Elems 27 ve (E.map evG)) (l0:List GV) (g0:Nat) (H0:GH) (K:GExit × St → Prop)
    (h5:zaf l0 5 = ve) (h6:zaf l0 6 = .int .i64 E.length) (h7:zaf l0 7 = .int .i64 0) (h0:zaf l0 0 = ve)
    (he:∀ l g,zaf l 0 = ve → (∀ e ∈ E,zir e.x + e.vt.length ≤ 300) → K (.exit 0,⟨⟨l,g⟩,H0⟩))
    (hr:∀ l g,zaf l 2 = .bool false → K (.ret,⟨⟨l,g⟩,H0⟩)) :
    optW (erun T (.loop zv1) ⟨⟨l0,g0⟩,H0⟩) K := by
  refine zbd (T := T) (n := E.length) (A := Unit) (fun _ _ => [(0,ve)]) (fun i _ _ H' => H' = H0 ∧ ∀ e ∈ E.take i,zir e.x + e.vt.length ≤ 300) (c := 8) (b := 0) (I := 7) (N := 6) (d := 14) rfl (by omega) (by decide) ⟨rfl,rfl⟩ (by simp) ?_ ?_ 0 () _ _ H0 (by omega) ⟨rfl,by simp⟩ (by simp [h0]) (.refl _ _ _) h7 h6
  · intro i a l g H' hi ⟨hH,hall⟩ hh hf hIx
    subst hH
    have h5' := hf.get 5 rfl h5 (by simp [hve.boxy])
    obtain ⟨lt,ix,opt,get,⟨t,sv⟩,wr_,mem⟩ := zdi (e := evG) hve hi (by omega)
    generalize E[i]'hi = e at opt get mem
    have hfe := hbig e mem
    have hsh := fun H => zry e hfe H
    have l1 := zcY hfe.past
    have l4:List.take 27 (evC e) = evC e := List.take_of_length_le (by rw [l1]; exact Nat.le_refl _)
    have lo := zha hfe.past
    have sp := ziM hfe.past
    have htake:E.take (i + 1) = E.take i ++ [e] := by rw [List.take_add_one,opt]; rfl
    rw [sv] at h5'
    simp only [zaA,zaI,and_true] at hh
    by_cases hs:zir e.x + e.vt.length ≤ 300
    · simp [h5',hIx,ix,opt,get,sp,l1,l4,lo,hsh,hs,hh]
      intro _ e' he'
      rw [htake] at he'
      rcases List.mem_append.1 he' with he' | he'
      · exact hall e' he'
      · rw [List.mem_singleton] at he'; subst he'; exact hs
    · simp [h5',hIx,ix,opt,get,sp,l1,l4,lo,hsh,hs]
      exact fun _ => hr _ _ (by simp)
  · intro a l g H' ⟨hH,hall⟩ hh hf
    subst hH
    rw [List.take_length] at hall
    simp only [zaA,zaI,and_true] at hh
    exact he l g hh hall
theorem zzz (E:List Evt) (hE:E.length ≤ 9223372036854775807) (hbig:∀ e ∈ E,EvBig e) (ve:GV) (hve:Elems 27 ve (E.map evG)) (H:GH) :
    ∃ b,ecall T zp1 [ve] H = some (.bool b,H) ∧ (b = true → E.length ≤ 60 ∧ ∀ e ∈ E,zir e.x + e.vt.length ≤ 300) := by
  have le := hve.len
  have ue := zam hve
  have oe := hve.ok
  simp only [List.length_map] at le
  have key:optW (ecall T zp1 [ve] H) fun r => ∃ b,r = (.bool b,H) ∧ (b = true → E.length ≤ 60 ∧ ∀ e ∈ E,zir e.x + e.vt.length ≤ 300) := by
    rw [zad zBD rfl (by simp [zqr]),zab]
    simp only [zqr,zyE]
    simp [le,ue,oe]
    rw [zaw,zao]
    refine zux E hE hbig ve hve _ _ H _ (by simp [ue]) (by simp) (by simp) (by simp) ?_ ?_
    · intro l g k0 hs
      simp [k0,le,ue,oe]
      rcases Nat.lt_or_ge 50 E.length with h | h
      · exact .inl (by omega)
      · exact .inr ⟨by omega,by omega,hs⟩
    · intro l g k2
      simp [k2]
  obtain ⟨r,h,b,rfl,h2⟩ := key
  exact ⟨b,h,h2⟩
theorem zwH {R:List Evt} (hR:Row R) (vr:GV) (hvr:Elems 27 vr (R.map evG)) (s m:Nat) (l0:List GV) (g0:Nat) (H0:GH) (hS:Sto H0 s m []) (hbo:H0.bo ≤ H0.objs.length) (K:GExit × St → Prop)
    (h7:zaf l0 7 = vr) (h8:zaf l0 8 = .int .i64 R.length) (h9:zaf l0 9 = .int .i64 0) (h3:zaf l0 3 = .ptr s 0)
    (he:∀ l g H,Sto H s m (zbD R) → Stepm m H0 H → Fr zqs l0 l → K (.exit 0,⟨⟨l,g⟩,H⟩)) :
    optW (erun T2 (.loop zqs) ⟨⟨l0,g0⟩,H0⟩) K := by
  have hle := hR.le
  refine zbd (T := T2) (n := R.length) (A := Unit) (fun _ _ => []) (fun i _ _ H' => Sto H' s m (zbD (R.take i)) ∧ Stepm m H0 H') (c := 10) (b := 0) (I := 9) (N := 8) (d := 16) rfl (by omega) (by decide) ⟨rfl,rfl⟩ (by simp) ?_ ?_ 0 () _ _ H0 (by omega) ⟨hS,.refl _ _⟩ (by simp) (.refl _ _ _) h9 h8
  · intro i a l g H' hi ⟨hA,hSt⟩ hh hf hI
    have k7 := hf.get 7 rfl h7 (by simp [hvr.boxy])
    have k3 := hf.get 3 rfl h3 rfl
    obtain ⟨lt,ix,opt,get,⟨t,sv⟩,wr_,mem⟩ := zdi (e := evG) hvr hi (by omega)
    generalize R[i]'hi = e at opt get mem
    have hfe := hR.fit e mem
    have l1 := zcY hfe.past
    have l4:List.take 27 (evC e) = evC e := List.take_of_length_le (by rw [l1]; exact Nat.le_refl _)
    have lo := zha hfe.past
    have sp := ziM hfe.past
    obtain ⟨H1,hd,hA1,hSt1⟩ := hR.step opt hA (hSt.bole hbo)
    rw [sv] at k7
    simp [k7,k3,hI,ix,opt,get,sp,l1,l4,lo,hd]
    exact fun _ => ⟨hA1,hSt.trans hSt1⟩
  · intro a l g H' ⟨hA,hSt⟩ hh hf
    rw [List.take_length] at hA
    exact he l g H' hA hSt hf
theorem zq7 {R:List Evt} (h:Row R) {H:GH} {s m:Nat} (hS:Sto H s m (zbD R)):(zez (zbD R)).map (·.1) = zc5 R := by
  rw [zuH h hS]
  unfold zjz zc5
  rw [List.map_map]
  have:((fun x:Stp => x.1) ∘ fun x => (x,zcd (zbD R) x)) = id := rfl
  rw [this,List.map_id]
  refine List.filter_congr fun x _ => ?_
  unfold zuF zkw
  have hp := znc h x
  cases hl:zjy R x with
  | nil => rw [hl] at hp; simp only [List.map_nil] at hp; rw [List.perm_nil.1 hp]; simp
  | cons a l =>
    rw [hl] at hp
    have:zcd (zbD R) x ≠ [] := fun e => by rw [e] at hp; have := hp.length_eq; simp at this
    simp [this]
abbrev zq8 (R:List Evt):Vw := zaN (zcD (zbD R)) (zc5 R) (zc5 R)
def zq9 (H:GH) (n:Nat) (R:List Evt):Prop := VDone H n (zq8 R) (zbv R) (fun a => (zbv R).filter fun x => decide (x.f = a)) (fun a => (zbv R).filter fun x => decide (x.t = a))
theorem zwI {R:List Evt} (h:Row R) {H:GH} {s m:Nat} (hS:Sto H s m (zbD R)):∀ p ∈ zez (zbD R),SeeOk (zbD R) p.1 := by
  intro p hp
  have hg := h.good
  have hp' := (ziz _).mem_iff.1 hp
  have hne:zcd (zbD R) p.1 ≠ [] := by rw [zm2 hS.ap hp']; exact hS.ne_nil p hp'
  obtain ⟨h1,h2⟩ := hg.el p.1 hne
  have hr := zi8 h1
  refine ⟨⟨?_, ?_, ?_, ?_⟩,zfq h2 hr, ?_,h1⟩
  · have := h2.a; omega
  · have := h2.b; omega
  · have := h2.c; omega
  · have := h2.d; omega
  · have := hg.len p.1; have := h.le; omega
theorem zwJ {R:List Evt} (hR:Row R) (vr:GV) (hvr:Elems 27 vr (R.map evG)) (H:GH) (hbo:H.bo ≤ H.objs.length) (hbt:H.bt ≤ H.toks.length) :
    ∃ n H',ecall T2 zp2 [vr] H = some (.ptr (n + 6) 0,H') ∧ zq9 H' n R ∧ Below H.objs.length H H' ∧ H.objs.length ≤ n ∧ n + 7 ≤ H'.objs.length ∧ H'.bt ≤ H'.toks.length ∧ H'.bo = H.bo := by
  have n1 := zyr H
  have s1 := Sto.new H hbo
  have m1 := ztD H
  have hlt:H.objs.length + 2 ≤ (znK H).objs.length := by simp [znK]
  have hk1:∀ i,i < H.objs.length → (znK H).objs[i]? = H.objs[i]? := fun i hi => List.getElem?_append_left hi
  have hbt1:(znK H).bt ≤ (znK H).toks.length := hbt
  have hbo':(znK H).bo = H.bo := rfl
  have hbt':(znK H).bt = H.bt := rfl
  have e1 := hvr.len
  have e2 := hvr.unb
  have e3 := hvr.ok
  simp only [List.length_map] at e1
  have key:optW (ecall T2 zp2 [vr] H) fun r => ∃ n H',r = (.ptr (n + 6) 0,H') ∧ zq9 H' n R ∧ Below H.objs.length H H' ∧ H.objs.length ≤ n ∧ n + 7 ≤ H'.objs.length ∧ H'.bt ≤ H'.toks.length ∧ H'.bo = H.bo := by
    rw [zad (zpR _ _ zBE) rfl (by simp [zqt]),zab]
    simp only [zqt,zyF]
    generalize hHn:znK H = H1 at n1 s1 m1 hlt hk1 hbt1 hbo' hbt'
    have hbo1:H1.bo ≤ H1.objs.length := by rw [m1.bo]; exact Nat.le_trans hbo m1.len
    simp [n1,e1,e2,e3]
    rw [zaw,zao]
    refine zwH hR vr hvr (H.objs.length + 1) H.objs.length _ _ H1 s1 hbo1 _ (by simp [e2]) (by simp) (by simp) (by simp) ?_
    intro l g H2 hS hSt hf
    have k3 := hf.get 3 rfl (v := .ptr (H.objs.length + 1) 0) (by simp) rfl
    have hsz := hR.good.size
    have hle := hR.le
    obtain ⟨H3,c1,c2,c3,c4,c5⟩ := zuv hS (by omega) (zwI hR hS) (hSt.bole hbo1) (by rw [hSt.bt,hSt.toks]; exact hbt1)
    rw [zq7 hR hS,zvX _ (zq0 R),(zf9 hR _).1] at c2
    simp [k3,c1]
    have hb3:H3.bo = H.bo := by rw [c3.bo,hSt.bo,hbo']
    refine ⟨H2.objs.length,H3,⟨rfl,rfl⟩,c2,⟨hb3,by rw [c3.bt,hSt.bt,hbt'],fun i hi => ?_⟩, ?_,c5,c4,hb3⟩
    · have hl2 := hSt.len
      rw [c3.keep i (by omega)]
      obtain ⟨o,ho⟩:∃ o,H1.objs[i]? = some o := ⟨_,List.getElem?_eq_getElem (by omega)⟩
      rw [hSt.keep i o (by omega) ho,← hk1 i hi,ho]
    · have hl2 := hSt.len; omega
  obtain ⟨r,hr,n,H',rfl,h⟩ := key
  exact ⟨n,H',hr,h⟩
end Go.Proofs.YtchjbidfmhmmhaaGreatDoor
