/- Own work: the zaG machine and what it shows, part Gz. -/
import Derived.Test.YtchjbidfmhmmhaaGreatDoorGx
import Derived.Test.YtchjbidfmhmmhaaGreatDoorEl
set_option linter.all false
namespace Go.Proofs.YtchjbidfmhmmhaaGreatDoor
open Go.Sh
set_option maxHeartbeats 4000000
set_option maxRecDepth 100000
structure RowV (R:List Evt) (vr:GV):Prop where
 row:Row R
 el:Elems 27 vr (R.map evG)
theorem RowV.ok {R:List Evt} {vr:GV} (h:RowV R vr):∀ e∈R,EvOk e:=fun e he=>⟨h.row.fit e he,((zdB rfl h.row.causl).2 e he).1⟩
theorem zvs (R:List Evt) (x:El):decide (x∈zbV R)=zf8 R x:=by
 rw [Bool.eq_iff_iff,decide_eq_true_eq]; exact has_mem
theorem zr1 (R:List Evt) (a:List UInt8):(zgM R).there (zaw a)=zdy R a:=by
 show (decide (zaw a∈zbV R)&&zaK (zbV R) (zaw a))=_
 rw [zvs,zgj,zdy,Bool.and_self]
theorem zk1 {R:List Evt} (h:Row R) {x:Lk} (hx:x∈zbD R):zeT R x=true∧∃ e∈zbg R,e.k=3∧zcd e=x:=by
 have h1:=(zgl h (zb5 (zby R))).1
 rw [← h1,(zaW _).mem_iff,zgk h] at hx
 obtain ⟨e,he,rfl⟩:=List.mem_map.1 hx
 obtain ⟨h2,h3⟩:=List.mem_filter.1 he
 simp only [Bool.and_eq_true,decide_eq_true_eq] at h3
 exact ⟨h3.2,e,h2,h3.1,rfl⟩
theorem zhC {R:List Evt} (h:Row R):(zbD R).length≤60:=by
 have h1:=(zgl h (zb5 (zby R))).1
 rw [← h1,(zaW _).length_eq,zgk h,List.length_map]
 have h2:=List.length_filter_le (fun e=>decide (e.k=3)&&zeT R (zcd e)) (zbg R)
 have h3:=zex R
 have h4:=h.le
 omega
theorem zvt (out:List Vl) (x:Vl):(znK out x).length≤out.length+1:=by
 unfold znK; split
 ·omega
 ·rw [znU]; exact Nat.le_refl _
theorem zr2 (L:List (List UInt8)) (hL:L.length≤100000) (va vb:GV) (hva:Elems 1 va (L.map za2)) (hvb:Elems 1 vb (L.map za2)) (l0:List GV) (g0:Nat) (H0:GH) (K:GExit × St→Prop)
 (h0:zag l0 0=va) (h1:zag l0 1=vb) (h12:zag l0 12=.int .i64 L.length) (h13:zag l0 13=.int .i64 0)
 (he:∀ l g,K (.exit 0,⟨⟨l,g⟩,H0⟩)) :
 optW (erun T (.loop zw3) ⟨⟨l0,g0⟩,H0⟩) K:=by
 refine za5 (T:=T) (n:=L.length) (A:=Unit) (fun i _=>[]) (fun i _ _ H'=>H'=H0) (c:=14) (b:=0) (I:=13) (N:=12) (d:=25) rfl (by omega) (by decide) ⟨rfl,rfl⟩ (by simp) ?_ ?_ 0 () _ _ H0 (by omega) rfl (by simp) (.refl _ _ _) h13 h12
 ·intro i u l g H' hi hH hh hf hI
  subst hH
  have k0:=hf.get 0 rfl h0 (by simp [hva.boxy])
  have k1:=hf.get 1 rfl h1 (by simp [hvb.boxy])
  obtain ⟨lt,ix,opt,get,⟨t,sv⟩,_,_⟩:=zeU (e:=za2) hva hi (by omega)
  obtain ⟨_,_,_,_,⟨t2,sv2⟩,_,_⟩:=zeU (e:=za2) hvb hi (by omega)
  generalize L[i]'hi=e at opt get
  rw [sv] at k0
  rw [sv2] at k1
  have hc0:(za2 e).cells=[.str (mkB e)]:=rfl
  simp [k0,k1,hI,ix,opt,get,hc0]
 ·intro u l g H' hH hh hf
  subst hH
  exact he l g
theorem zxQ (L:List (List UInt8)) (hL:L.length≤100000) (va vb:GV) (hva:Elems 1 va (L.map za2)) (hvb:Elems 1 vb (L.map za2)) (H:GH):ecall T zuR [va,vb] H=some (.bool true,H):=by
 have a1:=hva.len
 have a2:=zaf hva
 have a3:=hva.ok
 have b1:=hvb.len
 have b2:=zaf hvb
 have b3:=hvb.ok
 simp only [List.length_map] at a1 b1
 apply optW.eq
 rw [zci zCy rfl (by simp [zrj]),zab]
 simp only [zrj,zzM]
 simp [a1,a2,a3,b1,b2,b3]
 rw [zay,zar]
 refine zr2 L hL va vb hva hvb _ _ _ _ (by simp [a2]) (by simp [b2]) (by simp) (by simp) ?_
 intro l g
 simp
theorem zk2:∀ (l out:List Vl),(l.foldl znK out).length≤out.length+l.length
 | [],out=>by simp
 | x::l,out=>by
  rw [List.foldl_cons,List.length_cons]
  have h1:=zk2 l (znK out x)
  have h2:=zvt out x
  omega
theorem zo2 {R:List Evt} (h:Row R) (e:El):(zbR R e).length≤60:=by
 unfold zbR
 split
 ·simp
 ·have h1:=zk2 ((zgn R e).map zus) []
  have h2:(zgn R e).length≤R.length:=List.length_filter_le _ _
  have h3:=h.le
  simp only [List.length_map,List.length_nil] at h1
  omega
theorem zo3 {R:List Evt} (h:Row R) (key:List UInt8):(zcm R key).length≤60:=by
 unfold zcm
 rw [List.length_map]
 have h2:=List.length_filter_le (fun e:El=>decide (e.k=2∧e.a=key)&&(zf8 R e&&zg3 R e)) (zbg R)
 have h3:=zex R
 have h4:=h.le
 omega
theorem zr3 {R:List Evt} (h:Row R) (o:El):(zdT R o).length≤60:=by
 unfold zdT
 rw [List.length_map]
 have h2:=List.length_filter_le (fun e:El=>ofR o&&(zxM o e&&decide (0<(zbR R e).length))) (zbg R)
 have h3:=zex R
 have h4:=h.le
 omega
end Go.Proofs.YtchjbidfmhmmhaaGreatDoor
