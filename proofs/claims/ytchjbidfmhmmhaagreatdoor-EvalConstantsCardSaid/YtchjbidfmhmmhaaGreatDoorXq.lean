/- Own work: the zaH machine and what it shows, part Xq. -/
import Derived.Test.YtchjbidfmhmmhaaGreatDoorXp
import Derived.Test.YtchjbidfmhmmhaaGreatDoorAl
import Derived.Test.YtchjbidfmhmmhaaGreatDoorRowA
set_option linter.all false
namespace Go.Proofs.YtchjbidfmhmmhaaGreatDoor
open Go.Sh
set_option maxHeartbeats 4000000
set_option maxRecDepth 100000
def zkF (leafF:Ex → Vl) (out:List Vl) (e:Ex):List Vl := out ++ [atX leafF out e]
def zcx (leafF:Ex → Vl) (row:List Ex):List Vl := row.foldl (zkF leafF) []
theorem zfT (leafF:Ex → Vl):∀ (row:List Ex) (out:List Vl),(row.foldl (zkF leafF) out).length = out.length + row.length
  | [],out => rfl
  | e :: row,out => by
    rw [List.foldl_cons,zfT leafF row,List.length_cons]
    simp only [zkF,List.length_append,List.length_singleton]; omega
structure RecAt (H0:GH) (n:Nat) (vr ve vv:GV) (xs:List Vl) (H:GH):Prop where
  obj:∃ out,H.objs[n]? = some (.cells 124 [vr,ve,vv,out]) ∧ App H 3 out (xs.map vlG)
  keep:∀ j,j ≠ n → H.objs[j]? = H0.objs[j]?
  bo:H.bo = H0.bo
  bt:H.bt = H0.bt
  toks:H0.toks.length ≤ H.toks.length
theorem zr7 (leafF:Ex → Vl) (R:List Ex) (hRl:R.length ≤ 1000) (hmay:∀ (i:Nat) (e:Ex),R[i]? = some e → zjc e i = true) (n:Nat) (vr ve vv v:GV) (hv:Elems 8 v (R.map exG)) (l0:List GV) (g0:Nat) (H0:GH) (hbn:H0.bo ≤ n) (hbt:H0.bt ≤ H0.toks.length)
    (hleaf:∀ e ∈ R,e.k < 5 → ∀ H' out,H'.objs[n]? = some (.cells 124 [vr,ve,vv,out]) → (∀ j,j ≠ n → H'.objs[j]? = H0.objs[j]?) → ecall T zkZ [.ptr n 0,exG e] H' = some (.agg (vlC (leafF e)),H'))
    (hr0:RecAt H0 n vr ve vv [] H0) (K:GExit × St → Prop)
    (h41:zag l0 41 = v) (h42:zag l0 42 = .int .i64 R.length) (h43:zag l0 43 = .int .i64 0) (h11:zag l0 11 = .ptr n 0) (b8:GV) (h8:zag l0 8 = b8)
    (he:∀ l g H,RecAt H0 n vr ve vv (zcx leafF R) H → zag l 8 = b8 → Fr zvm l0 l → K (.exit 0,⟨⟨l,g⟩,H⟩)) :
    optW (erun T (.loop zvm) ⟨⟨l0,g0⟩,H0⟩) K := by
  refine zbn (T := T) (n := R.length) (A := Unit) (fun _ _ => [(8,b8)]) (fun i _ _ H' => RecAt H0 n vr ve vv (zcx leafF (R.take i)) H') (c := 44) (b := 0) (I := 43) (N := 42) (d := 59) rfl (by omega) (by decide) ⟨rfl,rfl⟩ (by simp) ?_ ?_ 0 () _ _ H0 (by omega) (by simpa [zcx] using hr0) (by simp [h8]) (.refl _ _ _) h43 h42
  · intro i a l g H' hi hRec hh hf hI
    have k41 := hf.get 41 rfl h41 (by simp [hv.boxy])
    have k11 := hf.get 11 rfl h11 rfl
    obtain ⟨lt,ix,opt,get,⟨t,sv⟩,_,mem⟩ := zfi (e := exG) hv hi (by omega)
    generalize R[i]'hi = e at opt get mem
    have hm := hmay i e opt
    have hst:zcx leafF (R.take (i + 1)) = zkF leafF (zcx leafF (R.take i)) e := znz (zkF leafF) [] R i e opt
    have hlen:(zcx leafF (R.take i)).length = i := by
      rw [zcx,zfT,List.length_take,List.length_nil]; omega
    rw [hst]
    generalize zcx leafF (R.take i) = xs at hRec hlen
    obtain ⟨out,ho,ha⟩ := hRec.obj
    have hkeep := hRec.keep
    have hA := zwG leafF n H' vr ve vv out xs ho ha.elems (by omega) e (by rw [hlen]; exact hm) (fun h5 H'' hobj => hleaf e mem h5 H'' out (by rw [hobj]; exact ho) (fun j hj => by rw [hobj]; exact hkeep j hj))
    obtain ⟨w',H2,a1,G1⟩ := zkq (ty := 34) (bytes := 32) (ys := [vlG (atX leafF xs e)]) (x := .sl 3 [vlG (atX leafF xs e)] .exact) ha (by simp [zb8]) (by rw [hRec.bt]; exact Nat.le_trans hbt hRec.toks) (by simp only [List.length_singleton,List.length_map,zeU]; omega) (by simp only [List.length_singleton,List.length_map,maxLen]; omega)
    have hobj2:H2.objs = H'.objs := G1.step.objs
    have hbo2:H2.bo ≤ n := by rw [G1.step.bo,hRec.bo]; exact hbn
    have ho2:H2.objs[n]? = some (.cells 124 [vr,ve,vv,out]) := by rw [hobj2]; exact ho
    have wu := zam G1.app.elems
    have wok := G1.ok
    have w1 := G1.app.elems.one
    have wc := G1.app.elems.cells
    have ou := zam ha.elems
    have ook := ha.elems.ok
    rw [sv] at k41
    have hl8:(exC e).length = 8 := rfl
    have ht8:List.take 8 (exC e) = exC e := rfl
    have hone8:(exC e).all GV.one = true := rfl
    have hs8:zac [GV.int .i64 0,.int .i64 0,.int .i64 0,.str ⟨#[]⟩,.str ⟨#[]⟩,.str ⟨#[]⟩,.int .i64 0,.int .i64 0] 0 (exC e) = some (exC e) := rfl
    simp only [zc5,zdS,and_true] at hh
    simp only [exG] at hA
    simp only [vlG] at a1
    simp [k41,k11,hI,hh,ix,opt,get,hl8,ht8,hone8,hs8,ho,ou,ook,hA,zao,zar,zaN,zav,zaS,a1,wu,wok,w1,wc,ho2,hbo2,zac]
    refine fun _ => ⟨⟨w', ?_, ?_⟩,fun j hj => ?_,G1.step.bo.trans hRec.bo,G1.step.bt.trans hRec.bt,Nat.le_trans hRec.toks G1.step.len⟩
    · show (H2.objs.set n _)[n]? = _
      rw [List.getElem?_set_self (List.getElem?_eq_some_iff.1 ho2).1]
    · have := G1.app.objs (H2.objs.set n (GObj.cells 124 [vr,ve,vv,w']))
      simpa [zkF] using this
    · show (H2.objs.set n _)[j]? = _
      rw [List.getElem?_set_ne (fun h => hj h.symm),hobj2]
      exact hkeep j hj
  · intro a l g H' hRec hh hf
    simp only [zc5,zdS,and_true] at hh
    rw [List.take_length] at hRec
    exact he l g H' hRec hh hf
def zd3 (leafF:Ex → Vl) (row:List Ex) (i:Int) (b:List Bd):Vl × Int :=
  if 0 ≤ i ∧ i < row.length then
    if zd2 row = true then
      if (b.any fun x => !zbO x.v.k x.v.n x.v.t) = true then (nullV,1)
      else (zc8 (zcx leafF (row.take (i.toNat + 1))) i,0)
    else (nullV,1)
  else (nullV,1)
theorem zr8 (leafF:Ex → Vl) (row:List Ex) (hrl:row.length ≤ 1000) (hok:∀ e ∈ row,ExOk e) (vr:GV) (hvr:Elems 8 vr (row.map exG)) (i:Int) (hi1 : -9223372036854775808 ≤ i) (hi2:i ≤ 9223372036854775807) (b:List Bd) (hbl:b.length ≤ 9223372036854775807) (hbok:∀ x ∈ b,BdOk x) (ve:GV) (hve:Elems 4 ve (b.map bdG)) (vv:GV) (hvv:vv.ok = true ∧ (∀ t,zbm t vv = vv) ∧ vv.one = true ∧ vv.cells = [vv]) (H:GH)
    (hleaf:∀ e ∈ row,e.k < 5 → (∃ a:Nat,zjc e a = true) → ∀ H' out,H'.objs[H.objs.length]? = some (.cells 124 [vr,ve,vv,out]) → (∀ j,j < H.objs.length → H'.objs[j]? = H.objs[j]?) → ecall T zkZ [.ptr H.objs.length 0,exG e] H' = some (.agg (vlC (leafF e)),H')) :
    ecall T zsf [vr,.int .i64 i,ve,vv] H = some (.tup [.agg (vlC (zd3 leafF row i b).1),.int .i64 (zd3 leafF row i b).2],H) := by
  have r1 := hvr.len
  have r2 := zam hvr
  have r3 := hvr.ok
  have e2 := zam hve
  have e3 := hve.ok
  obtain ⟨v1,v2,v3,v4⟩ := hvv
  simp only [List.length_map] at r1
  have hR := fun H => zoR row (by omega) hok vr hvr H
  have hC := fun H => zr6 b hbl ve hve hbok H
  have hcl:∀ v k,zaE H.objs.length H.toks.length 100 (GV.tup [GV.agg (vlC v),.int .i64 k]) = some (GV.tup [GV.agg (vlC v),.int .i64 k]) := fun _ _ => rfl
  have hcl0:∀ k,zaE H.objs.length H.toks.length 100 (GV.tup [GV.agg [.int .i64 0,.int .i64 0,.str ⟨#[]⟩],.int .i64 k]) = some (GV.tup [GV.agg [.int .i64 0,.int .i64 0,.str ⟨#[]⟩],.int .i64 k]) := fun _ => rfl
  have rc := hvr.cells
  have r4 := hvr.one
  have ec := hve.cells
  have e4 := hve.one
  apply optW.eq
  rw [zdp zCf rfl (by simp [zxx,r3,e3,v1]),zab]
  simp only [zxx,zBK]
  unfold zd3
  by_cases i0:0 ≤ i
  · have n0:¬ i < 0 := by omega
    by_cases il:i < row.length
    · have nl:¬ (row.length:Int) ≤ i := by omega
      rw [if_pos ⟨i0,il⟩]
      cases hr:zd2 row with
      | false =>
        rw [hr] at hR
        simp [n0,nl,r1,r2,r3,e2,e3,v1,v2,hcl0,hR,zar,zac]
        rfl
      | true =>
        rw [hr] at hR
        cases ho:(b.any fun x => !zbO x.v.k x.v.n x.v.t) with
        | true =>
          rw [ho] at hC
          simp [n0,nl,r1,r2,r3,e2,e3,v1,v2,hcl0,hR,hC,zar,zac]
          rfl
        | false =>
          rw [ho] at hC
          obtain ⟨m,rfl⟩:∃ m:Nat,i = m := ⟨i.toNat,by omega⟩
          have hml:m < row.length := by omega
          have hwm:IntKind.i64.wrap ((m:Int) + 1) = (m:Int) + 1 := zaB (by omega) (by omega)
          have g1:zaD (row.map exG).length false true false [.int .i64 ((m:Int) + 1)] = some (0,m + 1,none) := by
            rw [show ((m:Int) + 1) = ((m + 1:Nat):Int) by omega]
            simp only [zaD,List.length_map,zln (show m + 1 ≤ row.length by omega),Option.map_some]
          obtain ⟨c1,d1,f1⟩ := hvr.cut g1
          have hxr:((row.map exG).drop 0).take (m + 1 - 0) = (row.take (m + 1)).map exG := by
            rw [List.drop_zero,Nat.sub_zero,List.map_take]
          rw [hxr] at f1
          have q1 := f1.len
          have q2 := zam f1
          have q3 := f1.ok
          have hmin:min (m + 1) row.length = m + 1 := by omega
          simp only [List.length_map,List.length_take,hmin] at q1
          simp [-zg6,n0,nl,r1,r2,r3,rc,r4,e2,e3,ec,e4,v1,v2,v3,v4,hR,hC,zar,zac,hwm,d1,q1,q2,q3]
          rw [zaz,zaC]
          have hmayR:∀ (j:Nat) (e:Ex),row[j]? = some e → zjc e j = true := fun j e he => by
            have hj := (List.getElem?_eq_some_iff.1 he).1
            have := List.all_eq_true.1 hr j (List.mem_range.2 hj)
            rw [he] at this
            exact this
          have hmay:∀ (j:Nat) (e:Ex),(row.take (m + 1))[j]? = some e → zjc e j = true := fun j e he => by
            have hj := (List.getElem?_eq_some_iff.1 he).1
            rw [List.length_take] at hj
            rw [List.getElem?_take_of_lt (by omega)] at he
            exact hmayR j e he
          have hxl:(zcx leafF (row.take (m + 1))).length = m + 1 := by
            rw [zcx,zfT,List.length_take,List.length_nil]; omega
          refine zr7 leafF (row.take (m + 1)) (by rw [List.length_take]; omega) hmay H.objs.length vr ve vv c1 f1 _ _ _ (Nat.le_refl _) (Nat.le_refl _) ?_ ⟨⟨.nilsl, ?_,.nil⟩,fun j hj => rfl,rfl,rfl,Nat.le_refl _⟩ _ (by simp [q2]) (by simp [hmin]) (by simp) (by simp) (.lbox 0 [.int .i64 0,.int .i64 0,.str ⟨#[]⟩]) (by simp) ?_
          · intro e he h5 H' out ho' hk'
            have hm' := List.mem_of_mem_take he
            obtain ⟨j,hj⟩ := List.mem_iff_getElem?.1 hm'
            refine hleaf e hm' h5 ⟨j,hmayR j e hj⟩ H' out ho' fun k hk => ?_
            rw [hk' k (by omega)]
            show (H.objs ++ _)[k]? = _
            rw [List.getElem?_append_left hk]
          · show (H.objs ++ _)[H.objs.length]? = _
            simp
          · intro l g H1 hRec k8 hf
            obtain ⟨out,ho1,ha1⟩ := hRec.obj
            have k11 := hf.get 11 rfl (v := .ptr H.objs.length 0) (by simp) rfl
            have k1 := hf.get 1 rfl (v := .int .i64 m) (by simp) rfl
            have he1 := ha1.elems
            have hml':m < (zcx leafF (row.take (m + 1))).length := by omega
            obtain ⟨lt,ix,opt,get,⟨t,sv⟩,_,_⟩ := zfi (e := vlG) he1 hml' (by omega)
            have hsd:zc8 (zcx leafF (row.take (m + 1))) m = (zcx leafF (row.take (m + 1)))[m] := by simp [zc8,hml']
            generalize (zcx leafF (row.take (m + 1)))[m]'hml' = p at opt get hsd
            rw [hsd]
            have hou := zam he1
            have hook := he1.ok
            rw [sv] at ho1
            simp [k8,k11,k1,ho1,ix,opt,zaN,zav,zaS,zbx,hcl]
    · have nl:(row.length:Int) ≤ i := by omega
      simp [n0,nl,hcl0,il,r1,r2,r3,e2,e3,v1,v2,zar,zac]
      rfl
  · have n0:i < 0 := by omega
    simp [n0,i0,hcl0,r1,r2,r3,e2,e3,v1,v2,zar,zac]
    rfl
end Go.Proofs.YtchjbidfmhmmhaaGreatDoor
namespace Go.Proofs.YtchjbidfmhmmhaaGreatDoor
open Go.Sh
set_option maxHeartbeats 4000000
set_option maxRecDepth 100000
theorem zoS (e:Ex) (h:e.k = 1) (n:Nat) (H:GH):ecall T zkZ [.ptr n 0,exG e] H = some (.agg (vlC e.v),H) := by
  obtain ⟨k,v,var,prop,l,r⟩ := e
  obtain ⟨vk,vn,vt⟩ := v
  simp only at h
  subst h
  have hcl:zaE H.objs.length H.toks.length 100 (GV.agg [.int .i64 vk,.int .i64 vn,.str (mkB vt)]) = some (.agg [.int .i64 vk,.int .i64 vn,.str (mkB vt)]) := rfl
  apply optW.eq
  rw [zdp zAY rfl (by simp [zpS]),zab]
  simp [zpS,zxZ,exC,vlC,zac,hcl]
def okV (v:Vl):Bool := zbO v.k v.n v.t
theorem zdv:okV nullV = true := by decide
theorem ok_bool (b:Bool):okV (zcQ b) = true := by cases b <;> decide
theorem zr9 (n:Int):okV (zuE n) = true := by
  unfold okV zuE zbO
  simp only
  rw [if_neg (by omega),if_neg (by omega),if_pos trivial]
  simp only [and_true,decide_eq_true_eq]
  omega
theorem zzE (k:Int) (a:Vl):okV (zwC k a) = true := by
  unfold zwC
  split
  · exact ok_bool _
  · split
    · exact ok_bool _
    · split
      · exact zdv
      · exact ok_bool _
theorem zmV (a b:Vl) (d:Bool):okV (zf7 a b d) = true := by
  unfold zf7
  split
  · exact ok_bool _
  · split
    · exact ok_bool _
    · exact zdv
theorem zwH (k:Int) (a b:Vl):okV (zmh k a b) = true := by
  unfold zmh
  split
  · exact zdv
  · split
    · exact ok_bool _
    · split
      · exact zdv
      · split
        · exact ok_bool _
        · split
          · exact ok_bool _
          · split
            · exact ok_bool _
            · exact ok_bool _
theorem zwI (k:Int) (a b:Vl):okV (zmg k a b) = true := by
  unfold zmg
  split
  · exact zdv
  · split
    · exact zr9 _
    · split
      · exact zr9 _
      · exact zr9 _
theorem zBH (leafF:Ex → Vl) (xs:List Vl) (e:Ex) (hl:e.k < 5 → okV (leafF e) = true):okV (atX leafF xs e) = true := by
  unfold atX
  split
  · rename_i h; exact hl h
  · split
    · exact zzE _ _
    · split
      · exact zmV _ _ _
      · split
        · exact zmV _ _ _
        · split
          · exact zwH _ _ _
          · exact zwI _ _ _
theorem zmW (leafF:Ex → Vl):∀ (row:List Ex) (out:List Vl),(∀ e ∈ row,e.k < 5 → okV (leafF e) = true) → (∀ v ∈ out,okV v = true) → ∀ v ∈ row.foldl (zkF leafF) out,okV v = true
  | [],out,_,ho => ho
  | e :: row,out,hl,ho => by
    rw [List.foldl_cons]
    refine zmW leafF row _ (fun x hx => hl x (List.mem_cons_of_mem _ hx)) fun v hv => ?_
    rcases List.mem_append.1 hv with hv | hv
    · exact ho v hv
    · rw [List.mem_singleton] at hv; subst hv
      exact zBH _ _ _ (hl e List.mem_cons_self)
theorem zwJ {xs:List Vl} (h:∀ v ∈ xs,okV v = true) (i:Int):okV (zc8 xs i) = true := by
  unfold zc8
  cases hx:xs[i.toNat]? with
  | none => exact zdv
  | some v => exact h v (List.mem_of_getElem? hx)
theorem zuH (leafF:Ex → Vl) (row:List Ex) (i:Int) (b:List Bd) (hl:zd2 row = true → ∀ e ∈ row,e.k < 5 → okV (leafF e) = true):okV (zd3 leafF row i b).1 = true := by
  unfold zd3
  split
  · split
    · rename_i hr
      split
      · exact zdv
      · exact zwJ (zmW leafF _ [] (fun e he => hl hr e (List.mem_of_mem_take he)) (by simp)) _
    · exact zdv
  · exact zdv
theorem zsa (leafF:Ex → Vl) (row:List Ex) (i:Int) (b:List Bd) (hb:∀ x ∈ b,okV x.v = true):zd3 leafF row i b = zd3 leafF row i [] := by
  have h:(b.any fun x => !zbO x.v.k x.v.n x.v.t) = false := by
    rw [List.any_eq_false]
    intro x hx
    have := hb x hx
    unfold okV at this
    rw [this]; simp
  unfold zd3
  rw [h]
  rfl
theorem zoT (leafF:Ex → Vl) (row:List Ex) (i:Int) (b:List Bd):(zd3 leafF row i b).2 = 0 ∨ (zd3 leafF row i b).2 = 1 := by
  unfold zd3
  split
  · split
    · split
      · exact .inr rfl
      · exact .inl rfl
    · exact .inr rfl
  · exact .inr rfl
theorem zkG {e:Ex} {a:Int} (h:zjc e a = true) (hk:e.k < 5) (hv:e.var = []):e.k = 1 ∧ okV e.v = true := by
  simp only [zjc,Bool.and_eq_true] at h
  have h1 := h.1
  have hn:zhm [] = false := by decide
  unfold okX at h1
  split at h1
  · rename_i hk1
    simp only [Bool.and_eq_true] at h1
    exact ⟨hk1,h1.1⟩
  · split at h1
    · rw [hv,hn] at h1; cases h1
    · split at h1
      · rw [hv,hn] at h1; cases h1
      · rw [if_neg (by omega),if_neg (by omega)] at h1; cases h1
theorem zsb {row:List Ex} (h:zd2 row = true) {e:Ex} (he:e ∈ row):∃ a:Nat,zjc e a = true := by
  obtain ⟨j,hj⟩ := List.mem_iff_getElem?.1 he
  have hlt := (List.getElem?_eq_some_iff.1 hj).1
  have := List.all_eq_true.1 h j (List.mem_range.2 hlt)
  rw [hj] at this
  exact ⟨j,this⟩
abbrev zjd (e:Ex):Vl := e.v
theorem zuI {row:List Ex} (hv:∀ e ∈ row,e.var = []) (i:Int) (b:List Bd):okV (zd3 zjd row i b).1 = true :=
  zuH zjd row i b fun hr e he hk => by
    obtain ⟨a,ha⟩ := zsb hr he
    exact (zkG ha hk (hv e he)).2
end Go.Proofs.YtchjbidfmhmmhaaGreatDoor
namespace Go.Proofs.YtchjbidfmhmmhaaGreatDoor
open Go.Sh
set_option maxHeartbeats 4000000
set_option maxRecDepth 100000
theorem zmi (H:GH):zbl T2 3000 zsH [] H = some (.bool true,H) := by kernel_rfl
theorem zoU (H:GH):ecall T2 zsH [] H = some (.bool true,H) := ecall_iff.2 ⟨3000,zmi H⟩
end Go.Proofs.YtchjbidfmhmmhaaGreatDoor
namespace Go.Proofs.YtchjbidfmhmmhaaGreatDoor
open Go.Sh
set_option maxHeartbeats 4000000
set_option maxRecDepth 100000
structure ExIn (e:Ex):Prop where
  t:e.v.t.length ≤ 1125899906842624
  n1 : -9223372036854775808 ≤ e.v.n
  n2:e.v.n ≤ 9223372036854775807
  var:e.var.length ≤ 1125899906842624
  prop:e.prop.length ≤ 1125899906842624
structure BdIn (b:Bd):Prop where
  t:b.v.t.length ≤ 1125899906842624
  n1 : -9223372036854775808 ≤ b.v.n
  n2:b.v.n ≤ 9223372036854775807
theorem zik (v:Vl) (ht:v.t.length ≤ 9223372036854775807) (H:GH):ecall T zm8 [.agg (vlC v)] H = some (.bool (okV v),H) := by
  have h := zrU v.k v.n (mkB v.t) (by simpa using ht) H
  simp at h
  exact h
theorem zmj (row:List Ex) (hL:row.length ≤ 1000) (hin:∀ e ∈ row,ExIn e) (v:GV) (hv:Elems 8 v (row.map exG)) (l0:List GV) (g0:Nat) (H0:GH) (K:GExit × St → Prop)
    (h26:zag l0 26 = v) (h27:zag l0 27 = .int .i64 row.length) (h28:zag l0 28 = .int .i64 0)
    (hr:∀ l g,zag l 6 = .bool true → K (.ret,⟨⟨l,g⟩,H0⟩))
    (he:∀ l g,(∀ e ∈ row,e.var = [] ∧ e.v.t.length ≤ 200) → Fr zpn l0 l → K (.exit 0,⟨⟨l,g⟩,H0⟩)) :
    optW (erun T2 (.loop zpn) ⟨⟨l0,g0⟩,H0⟩) K := by
  refine zbn (T := T2) (n := row.length) (A := Unit) (fun _ _ => []) (fun i _ _ H' => H' = H0 ∧ ∀ e ∈ row.take i,e.var = [] ∧ e.v.t.length ≤ 200) (c := 29) (b := 0) (I := 28) (N := 27) (d := 42) rfl (by omega) (by decide) ⟨rfl,rfl⟩ (by simp) ?_ ?_ 0 () _ _ H0 (by omega) ⟨rfl,by simp⟩ (by simp) (.refl _ _ _) h28 h27
  · intro i u l g H' hi ⟨hH,hyes⟩ hh hf hI
    subst hH
    have k26 := hf.get 26 rfl h26 (by simp [hv.boxy])
    obtain ⟨lt,ix,opt,get,⟨t,sv⟩,_,mem⟩ := zfi (e := exG) hv hi (by omega)
    generalize row[i]'hi = e at opt get mem
    have hx := hin e mem
    rw [sv] at k26
    have htake:row.take (i + 1) = row.take i ++ [e] := by rw [List.take_add_one,opt]; rfl
    have hl:(exC e).length = 8 := rfl
    have ht:List.take 8 (exC e) = exC e := rfl
    have ho:(exC e).all GV.one = true := rfl
    have hs:zac [GV.int .i64 0,.int .i64 0,.int .i64 0,.str ⟨#[]⟩,.str ⟨#[]⟩,.str ⟨#[]⟩,.int .i64 0,.int .i64 0] 0 (exC e) = some (exC e) := rfl
    have x3:∀ h,(exC e)[3]'h = .str (mkB e.v.t) := fun _ => rfl
    have x4:∀ h,(exC e)[4]'h = .str (mkB e.var) := fun _ => rfl
    by_cases q1:e.var = []
    · by_cases q2:200 < e.v.t.length
      · have q2':(200:Int) < e.v.t.length := by omega
        simp [k26,hI,ix,opt,get,hl,ht,ho,hs,x3,x4,q1,q2,q2']
        exact fun _ => hr _ _ (by simp)
      · have q2':¬ (200:Int) < e.v.t.length := by omega
        simp [k26,hI,ix,opt,get,hl,ht,ho,hs,x3,x4,q1,q2,q2']
        intro _ y hy
        rw [htake] at hy
        rcases List.mem_append.1 hy with hy | hy
        · exact hyes y hy
        · rw [List.mem_singleton] at hy; subst hy; exact ⟨q1,by omega⟩
    · simp [k26,hI,ix,opt,get,hl,ht,ho,hs,x3,x4,q1]
      exact fun _ => hr _ _ (by simp)
  · intro u l g H' ⟨hH,hyes⟩ hh hf
    subst hH
    rw [List.take_length] at hyes
    exact he l g hyes hf
theorem zoV (b:List Bd) (hL:b.length ≤ 1000) (hin:∀ x ∈ b,BdIn x) (v:GV) (hv:Elems 4 v (b.map bdG)) (l0:List GV) (g0:Nat) (H0:GH) (K:GExit × St → Prop)
    (h43:zag l0 43 = v) (h44:zag l0 44 = .int .i64 b.length) (h45:zag l0 45 = .int .i64 0)
    (hr:∀ l g,zag l 6 = .bool true → K (.ret,⟨⟨l,g⟩,H0⟩))
    (he:∀ l g,(∀ x ∈ b,okV x.v = true ∧ x.v.t.length ≤ 200) → Fr zpo l0 l → K (.exit 2,⟨⟨l,g⟩,H0⟩)) :
    optW (erun T2 (.loop zpo) ⟨⟨l0,g0⟩,H0⟩) K := by
  refine zbn (T := T2) (n := b.length) (A := Unit) (fun _ _ => []) (fun i _ _ H' => H' = H0 ∧ ∀ x ∈ b.take i,okV x.v = true ∧ x.v.t.length ≤ 200) (c := 46) (b := 2) (I := 45) (N := 44) (d := 60) rfl (by omega) (by decide) ⟨rfl,rfl⟩ (by simp) ?_ ?_ 0 () _ _ H0 (by omega) ⟨rfl,by simp⟩ (by simp) (.refl _ _ _) h45 h44
  · intro i u l g H' hi ⟨hH,hyes⟩ hh hf hI
    subst hH
    have k43 := hf.get 43 rfl h43 (by simp [hv.boxy])
    obtain ⟨lt,ix,opt,get,⟨t,sv⟩,_,mem⟩ := zfi (e := bdG) hv hi (by omega)
    generalize b[i]'hi = e at opt get mem
    have hx := hin e mem
    rw [sv] at k43
    have htake:b.take (i + 1) = b.take i ++ [e] := by rw [List.take_add_one,opt]; rfl
    have hl:(bdC e).length = 4 := rfl
    have ht:List.take 4 (bdC e) = bdC e := rfl
    have ho:(bdC e).all GV.one = true := rfl
    have hs:zac [GV.str ⟨#[]⟩,.int .i64 0,.int .i64 0,.str ⟨#[]⟩] 0 (bdC e) = some (bdC e) := rfl
    have x3:∀ h,(bdC e)[3]'h = .str (mkB e.v.t) := fun _ => rfl
    have xd:List.take 3 (List.drop 1 (bdC e)) = vlC e.v := rfl
    have xd':List.take 3 (List.tail (bdC e)) = vlC e.v := rfl
    have hR := fun H => up (zik e.v (by have := hx.t; omega) H)
    by_cases q2:200 < e.v.t.length
    · have q2':(200:Int) < e.v.t.length := by omega
      simp [k43,hI,ix,opt,get,hl,ht,ho,hs,x3,q2,q2']
      exact fun _ => hr _ _ (by simp)
    · have q2':¬ (200:Int) < e.v.t.length := by omega
      cases q3:okV e.v with
      | false =>
        rw [q3] at hR
        simp [k43,hI,ix,opt,get,hl,ht,ho,hs,x3,q2,q2',xd,xd',hR,zaN]
        exact fun _ => hr _ _ (by simp)
      | true =>
        rw [q3] at hR
        simp [k43,hI,ix,opt,get,hl,ht,ho,hs,x3,q2,q2',xd,xd',hR,zaN]
        intro _ y hy
        rw [htake] at hy
        rcases List.mem_append.1 hy with hy | hy
        · exact hyes y hy
        · rw [List.mem_singleton] at hy; subst hy; exact ⟨q3,by omega⟩
  · intro u l g H' ⟨hH,hyes⟩ hh hf
    subst hH
    rw [List.take_length] at hyes
    exact he l g hyes hf
def ev0:Evt := ⟨0,1,zfW,1,⟨1,[97],[],[],[]⟩,0,0,[]⟩
theorem ev0_row:Row [ev0] := ⟨fun e he => by
  rw [List.mem_singleton] at he; subst he
  exact ⟨rfl,⟨by decide,by decide,by decide,by decide⟩,by decide,by decide,by decide⟩,⟨by decide,trivial⟩,by decide⟩
end Go.Proofs.YtchjbidfmhmmhaaGreatDoor
namespace Go.Proofs.YtchjbidfmhmmhaaGreatDoor
open Go.Sh
set_option maxHeartbeats 4000000
set_option maxRecDepth 100000
theorem zBI (k:Int) (a:Vl):(zwC k a).t = [] := by
  unfold zwC
  repeat' split
  all_goals rfl
theorem zsc (a b:Vl) (d:Bool):(zf7 a b d).t = [] := by
  unfold zf7
  repeat' split
  all_goals rfl
theorem zzF (k:Int) (a b:Vl):(zmh k a b).t = [] := by
  unfold zmh
  repeat' split
  all_goals rfl
theorem zzG (k:Int) (a b:Vl):(zmg k a b).t = [] := by
  unfold zmg zuE
  repeat' split
  all_goals rfl
theorem zCr (leafF:Ex → Vl) (xs:List Vl) (e:Ex) (hl:(leafF e).t.length ≤ 200):(atX leafF xs e).t.length ≤ 200 := by
  unfold atX
  split
  · exact hl
  · split
    · rw [zBI]; simp
    · split
      · rw [zsc]; simp
      · split
        · rw [zsc]; simp
        · split
          · rw [zzF]; simp
          · rw [zzG]; simp
theorem zsd (leafF:Ex → Vl):∀ (row:List Ex) (out:List Vl),(∀ e ∈ row,(leafF e).t.length ≤ 200) → (∀ v ∈ out,v.t.length ≤ 200) → ∀ v ∈ row.foldl (zkF leafF) out,v.t.length ≤ 200
  | [],out,_,ho => ho
  | e :: row,out,hl,ho => by
    rw [List.foldl_cons]
    refine zsd leafF row _ (fun x hx => hl x (List.mem_cons_of_mem _ hx)) fun v hv => ?_
    rcases List.mem_append.1 hv with hv | hv
    · exact ho v hv
    · rw [List.mem_singleton] at hv; subst hv
      exact zCr _ _ _ (hl e List.mem_cons_self)
theorem zzH (leafF:Ex → Vl) (row:List Ex) (i:Int) (b:List Bd) (hl:∀ e ∈ row,(leafF e).t.length ≤ 200):(zd3 leafF row i b).1.t.length ≤ 200 := by
  have h0:nullV.t.length ≤ 200 := by simp
  unfold zd3
  split
  · split
    · split
      · exact h0
      · show (zc8 _ _).t.length ≤ 200
        unfold zc8
        cases hx:(zcx leafF (row.take (i.toNat + 1)))[i.toNat]? with
        | none => exact h0
        | some v => exact zsd leafF _ [] (fun e he => hl e (List.mem_of_mem_take he)) (by simp) v (List.mem_of_getElem? hx)
    · exact h0
  · exact h0
theorem zil (row:List Ex) (hrl:row.length ≤ 1000) (hin:∀ e ∈ row,ExIn e) (hv:∀ e ∈ row,e.var = [] ∧ e.v.t.length ≤ 200) (vr:GV) (hvr:Elems 8 vr (row.map exG)) (i:Int) (hi1 : -9223372036854775808 ≤ i) (hi2:i ≤ 9223372036854775807) (b:List Bd) (hbl:b.length ≤ 1000) (hbin:∀ x ∈ b,BdIn x) (hb:∀ x ∈ b,okV x.v = true ∧ x.v.t.length ≤ 200) (ve:GV) (hve:Elems 4 ve (b.map bdG)) (vv:GV) (hvv:vv.ok = true ∧ (∀ t,zbm t vv = vv) ∧ vv.one = true ∧ vv.cells = [vv]) (H:GH) :
    ecall T2 zsf [vr,.int .i64 i,ve,vv] H = some (.tup [.agg (vlC (zd3 zjd row i []).1),.int .i64 (zd3 zjd row i []).2],H) := by
  have h := zr8 zjd row hrl (fun e he => ⟨by have := (hv e he).2; omega,(hin e he).n1,(hin e he).n2,by have := (hin e he).var; omega,by have := (hin e he).prop; omega⟩) vr hvr i hi1 hi2 b (by omega) (fun x hx => ⟨by have := (hb x hx).2; omega,(hbin x hx).n1,(hbin x hx).n2⟩) ve hve vv hvv H (fun e he hk ⟨a,ha⟩ H' out _ _ => zoS e (zkG ha hk (hv e he).1).1 _ H')
  rw [zsa zjd row i b (fun x hx => (hb x hx).1)] at h
  exact up h
theorem zgg (row:List Ex) (hrl:row.length ≤ 9223372036854775807) (hin:∀ e ∈ row,ExIn e) (vr:GV) (hvr:Elems 8 vr (row.map exG)) (i:Int) (hi1 : -9223372036854775808 ≤ i) (hi2:i ≤ 9223372036854775807) (b:List Bd) (hbl:b.length ≤ 9223372036854775807) (hbin:∀ x ∈ b,BdIn x) (ve:GV) (hve:Elems 4 ve (b.map bdG)) (H:GH) (hbo:H.bo ≤ H.objs.length) (hbt:H.bt ≤ H.toks.length) :
    ∃ H',ecall T2 zjs [vr,.int .i64 i,ve] H = some (.bool true,H') := by
  have hfx := zoU
  have r1 := hvr.len
  have r2 := zam hvr
  have r3 := hvr.ok
  have e1 := hve.len
  have e2 := zam hve
  have e3 := hve.ok
  simp only [List.length_map] at r1 e1
  have goal:optW (ecall T2 zjs [vr,.int .i64 i,ve] H) fun r => ∃ H',r = (.bool true,H') := by
    rw [zae (zss _ _ zyb) rfl (by simp [zpp]),zab]
    simp only [zpp,zxs]
    by_cases g1:40 < row.length
    · have g1':(40:Int) < row.length := by omega
      simp [hfx,r1,r2,r3,e1,e2,e3,g1,g1']
    · have g1':¬ (40:Int) < row.length := by omega
      by_cases g2:12 < b.length
      · have g2':(12:Int) < b.length := by omega
        simp [hfx,r1,r2,r3,e1,e2,e3,g1,g1',g2,g2']
      · have g2':¬ (12:Int) < b.length := by omega
        simp [hfx,r1,r2,r3,e1,e2,e3,g1,g1',g2,g2']
        rw [zaz,zaC]
        refine zmj row (by omega) hin vr hvr _ _ _ _ (by simp [r2]) (by simp) (by simp) ?_ ?_
        · intro l g h6
          simp [h6]
        · intro l g hcon hf
          have k0 := hf.get 0 rfl (v := vr) (by simp) (by simp [hvr.boxy])
          have k1 := hf.get 1 rfl (v := .int .i64 i) (by simp) rfl
          have k2 := hf.get 2 rfl (v := ve) (by simp) (by simp [hve.boxy])
          simp [k2,e1,e2,e3]
          rw [zaz,zaC]
          refine zoV b (by omega) hbin ve hve _ _ _ _ (by simp [e2]) (by simp) (by simp) ?_ ?_
          · intro l g h6
            simp [h6]
          · intro l2 g2 hbs hf2
            have j0 := hf2.get 0 rfl (v := vr) (by simp [k0]) (by simp [hvr.boxy])
            have j1 := hf2.get 1 rfl (v := .int .i64 i) (by simp [k1]) rfl
            have j2 := hf2.get 2 rfl (v := ve) (by simp [k2]) (by simp [hve.boxy])
            have n1 := zxl H
            have s1 := Sto.new H hbo
            have m1 := zsu H
            have hbt1:(zuJ H).bt ≤ (zuJ H).toks.length := hbt
            generalize zuJ H = H1 at n1 s1 m1 hbt1
            have hbo1:H1.bo ≤ H1.objs.length := by rw [m1.bo]; exact Nat.le_trans hbo m1.len
            obtain ⟨H2,hd,s2,st2⟩ := ev0_row.step (i := 0) rfl s1 hbo1
            have hbo2 := st2.bole hbo1
            have hbt2:H2.bt ≤ H2.toks.length := by rw [st2.bt,st2.toks]; exact hbt1
            have hsz := ev0_row.good.size
            obtain ⟨H3,c1,_,_,_,_⟩ := ztl (S := zgf [ev0]) s2 (by have : [ev0].length = 1 := rfl; omega) (zvz ev0_row s2) hbo2 hbt2
            have ex := zil row (by omega) hin hcon vr hvr i hi1 hi2 [] (by simp) (by simp) (by simp) .nilsl .nil .nilptr ⟨rfl,fun _ => rfl,rfl,rfl⟩ H2
            have ey := zil row (by omega) hin hcon vr hvr i hi1 hi2 b (by omega) hbin hbs ve hve (.ptr (H2.objs.length + 6) 0) ⟨rfl,fun _ => rfl,rfl,rfl⟩ H3
            have hok := zuI (fun e he => (hcon e he).1) i []
            have htl := zzH zjd row i [] (fun e he => (hcon e he).2)
            have hcode := zoT zjd row i []
            generalize zd3 zjd row i [] = p at ex ey hok hcode htl
            obtain ⟨x,k⟩ := p
            simp only at ex ey hok hcode htl
            have hlv := zaL x x
            simp only [decide_true] at hlv
            have hd':ecall T2 zjt [GV.ptr (H.objs.length + 1) 0,.agg [.int .i64 0,.int .i64 1,.int .i64 0,.int .i64 0,.int .i64 0,.int .i64 0,.int .i64 0,.int .i64 0,.int .i64 0,.int .i64 0,.int .i64 0,.int .i64 0,.int .i64 0,.int .i64 0,.int .i64 0,.int .i64 0,.int .i64 0,.int .i64 0,.int .i64 1,.int .i64 1,.str ⟨#[97]⟩,.str ⟨#[]⟩,.str ⟨#[]⟩,.str ⟨#[]⟩,.int .i64 0,.int .i64 0,.str ⟨#[]⟩]] H1 = some (.int .i64 0,H2) := hd
            have hR := fun H => up (zik x (by omega) H)
            rw [hok] at hR
            rcases hcode with rfl | rfl
            · simp [j0,j1,j2,r2,r3,e2,e3,n1,zar,zac,hd',ex,ey,c1,zaN,zav,zaS,hlv,hR]
            · simp [j0,j1,j2,r2,r3,e2,e3,n1,zar,zac,hd',ex,ey,c1,zaN,zav,zaS,hlv]
  obtain ⟨r,h,H',rfl⟩ := goal
  exact ⟨H',h⟩
end Go.Proofs.YtchjbidfmhmmhaaGreatDoor
namespace Go.Proofs.YtchjbidfmhmmhaaGreatDoor
open Go.Sh Go.ChangeShapes Go.WideShapes Go.ChangeAt Go.RowKit
set_option maxRecDepth 100000
abbrev zz9:Shape := .row [.int .i64,zvC,.str,.str,.int .i64,.int .i64]
abbrev zAa:Shape := .row [.str,zvC]
theorem zwK {c:List GV} (h:Fits zz9 c):∃ e:Ex,mkG zz9 c = exG e ∧ ExIn e := by
  obtain ⟨a1,b1,rfl,f1,g1⟩ := zbZ h
  obtain ⟨a2,b2,rfl,f2,g2⟩ := zbZ g1
  obtain ⟨a3,b3,rfl,f3,g3⟩ := zbZ g2
  obtain ⟨a4,b4,rfl,f4,g4⟩ := zbZ g3
  obtain ⟨a5,b5,rfl,f5,g5⟩ := zbZ g4
  obtain ⟨a6,b6,rfl,f6,g6⟩ := zbZ g5
  obtain rfl := zlp g6
  obtain ⟨k,rfl,_⟩ := zfz f1
  obtain ⟨vk,vn,vt,rfl,hn,ht⟩ := zjM f2
  obtain ⟨v,rfl,hv⟩ := ziN f3
  obtain ⟨p,rfl,hp⟩ := ziN f4
  obtain ⟨l,rfl,_⟩ := zfz f5
  obtain ⟨r,rfl,_⟩ := zfz f6
  exact ⟨⟨k,⟨vk,vn,vt⟩,v,p,l,r⟩,rfl,⟨ht,hn.1,hn.2,hv,hp⟩⟩
theorem zwL {c:List GV} (h:Fits zAa c):∃ b:Bd,mkG zAa c = bdG b ∧ BdIn b := by
  obtain ⟨a1,b1,rfl,f1,g1⟩ := zbZ h
  obtain ⟨a2,b2,rfl,f2,g2⟩ := zbZ g1
  obtain rfl := zlp g2
  obtain ⟨v,rfl,hv⟩ := ziN f1
  obtain ⟨vk,vn,vt,rfl,hn,ht⟩ := zjM f2
  exact ⟨⟨v,⟨vk,vn,vt⟩⟩,rfl,⟨ht,hn.1,hn.2⟩⟩
theorem zfm (gargs:List GV) (h:ArgsFit [.slice zz9,.int .i64,.slice zAa] gargs):∃ H',ecall T2 zjs gargs (zkK Tryz.prog.globals.size) = some (.bool true,H') := by
  cases h with
  | cons h1 t1 =>
  cases t1 with
  | cons h2 t2 =>
  cases t2 with
  | cons h3 t3 =>
    cases t3
    obtain ⟨E,hE,he,hel⟩ := zks (f := exG) (fun c hc => zwK hc) h1
    obtain ⟨i,rfl,hi1,hi2⟩ := zfz h2
    obtain ⟨B,hB,hb,hbl⟩ := zks (f := bdG) (fun c hc => zwL hc) h3
    exact zgg E (by unfold maxLen at hel; omega) he _ hE i hi1 hi2 B (by unfold maxLen at hbl; omega) hb _ hB _ (by simp [zkK]) (by simp [zkK])
end Go.Proofs.YtchjbidfmhmmhaaGreatDoor
