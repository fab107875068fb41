/- Own work: the zaM machine and what it shows, part Gx. -/
import Derived.Test.YtchjbidfmhmmhaaGreatDoorGw
import Derived.Test.YtchjbidfmhmmhaaGreatDoorAl
set_option linter.all false
namespace Go.Proofs.YtchjbidfmhmmhaaGreatDoor
open Go.Sh
set_option maxHeartbeats 4000000
set_option maxRecDepth 100000
theorem zbQ {a b n:Nat} {sz:Nat} {v:GV} {xs:List GV} (hv:Elems sz v xs) (h:∀ x∈xs,zaJ a b n x=some x):∃ v',zaJ a b (n+1) v=some v'∧Elems sz v' xs:=by
 cases hv with
 | nil=>exact ⟨.nilsl,rfl,.nil⟩
 | sl _ t =>
  have:=zdd a b n xs h
  exact ⟨_,by show (xs.mapM (zaJ a b n)).map _=_; rw [this]; rfl,.sl _ _⟩
theorem zyn {v:GV} {xs:List GV} (hv:Elems 3 v xs) (hl:xs.length≤10000) (H:GH) (hbt:H.bt≤H.toks.length):∃ v' H',ecall T zxO [v] H=some (v',H')∧Elems 3 v' xs∧TokStep none H H':=by
 cases hv with
 | nil =>
  refine ⟨.nilsl,H, ?_,.nil,.refl _ _⟩
  apply optW.eq
  rw [zae zD8 rfl (by simp [zn0]),zab]
  simp [zn0,zAL]
 | sl xs t =>
  obtain ⟨s',H',a1,a2,a3,a4⟩:=zi9 (H:=H) (ty:=34) (sz:=3) (bytes:=32) (s:=.sl 3 [] .exact) (x:=.sl 3 xs t) (.exact []) (ys:=xs) (by simp [zbS]) hbt (by simp [zeu]; omega) (by simp [maxLen]; omega)
  have e1:=a2.elems.unb
  have e2:=a2.ok
  refine ⟨s',H', ?_,by simpa using a2.elems,a3⟩
  apply optW.eq
  rw [zae zD8 rfl (by simp [zn0]),zab]
  simp [zn0,zAL,zan,a1,e1,e2]
section
variable {H:GH} {n:Nat} {w:Vw} {links:List Lk} {outs ins:List UInt8→List Lk}
theorem ziw (hV:VDone H n w links outs ins) (x:El) (hk:zaI true kLs (elG x)=true) (hl:(w.values x).length≤1000):∃ v,ecall T zs2 [.ptr (n+6) 0,.agg (elC x)] H=some (v,H)∧Elems 3 v ((w.values x).map vlG):=by
 obtain ⟨vn,vl,h6,_,_⟩:=hV.obj
 obtain ⟨es,h0,hM⟩:=hV.values
 have hn:=hM.at_ x hk
 generalize hv:(zbd es (elG x)).getD .nilsl=v0 at hn
 obtain ⟨v',H',c1,c2,_⟩:=zyn hn (by rw [List.length_map]; omega) H.over (Nat.le_refl _)
 obtain ⟨v2,d1,d2⟩:=zbQ (a:=H.objs.length) (b:=H.toks.length) (n:=99) c2 (fun x hx=>by obtain ⟨y,_,rfl⟩:=List.mem_map.1 hx; rfl)
 refine ⟨v2, ?_,d2⟩
 have hl5:(elC x).length=5:=rfl
 have ht5:List.take 5 (elC x)=elC x:=rfl
 apply optW.eq
 rw [zbc zGA rfl (by simp [ztv]),zab]
 simp [ztv,zDb,h6,h0,hk,hv,hl5,ht5,hn.unb,hn.ok,c1,c2.unb,c2.ok,d1]
end
theorem zur {R:List Evt} (h:Row R) {H:GH} {s m:Nat} (hS:Sto H s m (zbP R)):(zfs (zbP R)).map (·.1)=zdI R:=by
 rw [zyv h hS]
 unfold zk8 zdI
 rw [List.map_map]
 have:((fun x:Stp=>x.1) ∘ fun x=>(x,zcd (zbP R) x))=id:=rfl
 rw [this,List.map_id]
 refine List.filter_congr fun x _=>?_
 unfold zyt zjE
 have hp:=zk5 h x
 cases hl:zg6 R x with
 | nil=>rw [hl] at hp; simp only [List.map_nil] at hp; rw [List.perm_nil.1 hp]; simp
 | cons a l =>
  rw [hl] at hp
  have:zcd (zbP R) x≠[]:=fun e=>by rw [e] at hp; have:=hp.length_eq; simp at this
  simp [this]
theorem zpH {R:List Evt} (h:Row R):zpF R (zcx (zbP R)):=by
 intro x
 obtain ⟨h1,h2,_⟩:=zzP (zbP R) x
 refine ⟨h1,fun v=>?_⟩
 rw [h2]
 have hp:=(zk5 h x).map zfc
 rw [List.map_map] at hp
 exact hp.mem_iff
abbrev zj9 (R:List Evt):Vw:=zaT (zcx (zbP R)) (zdI R) (zdI R)
def zus (H:GH) (n:Nat) (R:List Evt):Prop:=VDone H n (zj9 R) (zgr R) (fun a=>(zgr R).filter fun x=>decide (x.f=a)) (fun a=>(zgr R).filter fun x=>decide (x.t=a))
theorem zAV {R:List Evt} (h:Row R) {H:GH} {s m:Nat} (hS:Sto H s m (zbP R)):∀ p∈zfs (zbP R),SeeOk (zbP R) p.1:=by
 intro p hp
 have hg:=h.good
 have hp':=(zjT _).mem_iff.1 hp
 have hne:zcd (zbP R) p.1≠[]:=by rw [zpo hS.ap hp']; exact hS.ne_nil p hp'
 obtain ⟨h1,h2⟩:=hg.el p.1 hne
 have hr:=zkx h1
 refine ⟨⟨?_, ?_, ?_, ?_⟩,zgw h2 hr, ?_,h1⟩
 ·have:=h2.a; omega
 ·have:=h2.b; omega
 ·have:=h2.c; omega
 ·have:=h2.d; omega
 ·have:=hg.len p.1; have:=h.le; omega
end Go.Proofs.YtchjbidfmhmmhaaGreatDoor
