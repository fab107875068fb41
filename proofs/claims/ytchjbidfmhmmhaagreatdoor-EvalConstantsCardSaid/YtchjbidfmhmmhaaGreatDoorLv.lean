/- Own work: the zaH machine and what it shows, part Lv. -/
import Derived.Test.YtchjbidfmhmmhaaGreatDoorCo
import Derived.Test.YtchjbidfmhmmhaaGreatDoorEl
set_option linter.all false
namespace Go.Proofs.YtchjbidfmhmmhaaGreatDoor
open Go.Sh
set_option maxHeartbeats 4000000
set_option maxRecDepth 100000
end Go.Proofs.YtchjbidfmhmmhaaGreatDoor
namespace Go.Proofs.YtchjbidfmhmmhaaGreatDoor
open Go.Sh
set_option maxHeartbeats 4000000
set_option maxRecDepth 100000
theorem zyq (a b:List UInt8):(mkB a == mkB b) = decide (a = b) := by
  by_cases h:a = b
  · subst h; rw [zu8]; simp
  · rw [decide_eq_false h,Bool.eq_false_iff]
    intro e
    have:mkB a = mkB b := by
      rcases ha:mkB a with ⟨x⟩
      rcases hb:mkB b with ⟨y⟩
      rw [ha,hb] at e
      have e:(x == y) = true := e
      rw [eq_of_beq e]
    have := congrArg (fun b:ByteArray => b.data.toList) this
    simp only [zb3] at this
    exact h this
theorem zfy (k n:Int) (t:List UInt8) (k' n':Int) (t':List UInt8):zax [.int .i64,.int .i64,.str] [.int .i64 k,.int .i64 n,.str (mkB t)] [.int .i64 k',.int .i64 n',.str (mkB t')] = some (decide (k = k' ∧ n = n' ∧ t = t')) := by
  by_cases h1:k = k' <;> by_cases h2:n = n' <;> by_cases h3:t = t' <;> simp [zax,zaY,zyq,h1,h2,h3]
structure EvOk (e:Evt):Prop where
  fit:EvFit e
  ok:evB e = true
end Go.Proofs.YtchjbidfmhmmhaaGreatDoor
namespace Go.Proofs.YtchjbidfmhmmhaaGreatDoor
open Go.Sh
set_option maxHeartbeats 4000000
set_option maxRecDepth 100000
theorem zln {n k:Nat} (h:k ≤ n):zbK n (.int .i64 (k:Int)) = some k := by
  simp only [zbK]; rw [if_pos (by omega)]; simp
end Go.Proofs.YtchjbidfmhmmhaaGreatDoor
namespace Go.Proofs.YtchjbidfmhmmhaaGreatDoor
open Go.Sh
set_option maxHeartbeats 4000000
set_option maxRecDepth 100000
theorem zqh {x:El} (h:ElBig x) (hr:ElRange x):zaw true kLs (elG x) = true := by
  obtain ⟨h1,h2⟩ := hr
  have := h.a; have := h.b; have := h.c; have := h.d
  simp [zaw,elC,zap,maxLen,IntKind.min,IntKind.max,IntKind.signed,IntKind.bits]
  omega
theorem zmp {x:El} (hk:zaw true kLs (elG x) = true):∀ {es:List (GV × GV)} {S:List Stp},zbW zgh es = some S → Has es x (zcK S x)
  | [],S,h => by simp only [zbW,Option.some.injEq] at h; subst h; exact .inl ⟨rfl,rfl⟩
  | p :: es,S,h => by
    simp only [zbW] at h
    split at h
    · rename_i a b ha hb
      injection h with h; subst h
      have ih := zmp hk hb
      have hke:zbL p.1 (elG x) = decide (a.1 = x) := by
        obtain ⟨e1,_,o1⟩ := zdA ha
        rw [e1,Bool.eq_iff_iff,zaG (zeS o1.fit o1.range) hk,decide_eq_true_eq]
        exact ⟨zdC,fun h => by rw [h]⟩
      unfold Has za2 zcK at ih ⊢
      rw [List.find?_cons,List.find?_cons,hke]
      by_cases e:a.1 = x
      · simp only [e,decide_true]
        obtain ⟨_,⟨t,ht⟩,_⟩ := zdA ha
        exact .inr ⟨p.2,rfl,by rw [ht]; exact .sl _ _⟩
      · simp only [e,decide_false]; exact ih
    · cases h
def ztn (H:GH) (s m:Nat) (S:List Stp):Prop := ∃ es,H.objs[s]? = some (.cells 92 [.map m]) ∧ H.objs[m]? = some (.map true kLs es) ∧ zbW zgh es = some S
theorem Sto.rd {H:GH} {s m:Nat} {S:List Stp} (h:Sto H s m S):ztn H s m S := by
  obtain ⟨⟨es,⟨h1,h2,_⟩,hd⟩,_⟩ := h
  exact ⟨es,h1,h2,hd⟩
theorem znw {H:GH} {s m:Nat} {S:List Stp} (h:ztn H s m S) (x:El) (hk:zaw true kLs (elG x) = true) (hL:(zcK S x).length ≤ 1000000) (hbo:H.bo ≤ H.objs.length) :
    ∃ v',ecall T zna [.ptr s 0,.agg (elC x)] H = some (v',zbJ (zcK S x) H) ∧ Elems 5 v' ((zcK S x).map zbI) := by
  obtain ⟨es,h1,h2,hd⟩ := h
  have hv := zmp hk hd
  generalize zcK S x = L at hv hL
  obtain ⟨w,c1,c2⟩ := zeT L _ hv.get hL H
  obtain ⟨v',hf,hE⟩ := znx c2 hbo
  refine ⟨v', ?_,hE⟩
  have hok':w.ok = true := by rcases c2.elems with ⟨_,h⟩ | ⟨_,h⟩; exact h.ok; subst h; rfl
  have hu':∀ t,zbm t w = w := by rcases c2.elems with ⟨_,h⟩ | ⟨_,h⟩; exact zam h; subst h; exact fun _ => rfl
  have gok := hv.get.ok
  have gu := zam hv.get
  have vok := hE.ok
  have vu := zam hE
  apply optW.eq
  rw [zae zyf rfl (by simp [zlb]),zab]
  simp only [elG,elC] at hk c1 gok gu
  simp [zlb,zvt,elC,h1,h2,hk,c1,hok',hu',hf,gok,gu,vok,vu,za5,zcW]
end Go.Proofs.YtchjbidfmhmmhaaGreatDoor
namespace Go.Proofs.YtchjbidfmhmmhaaGreatDoor
open Go.Sh
set_option maxHeartbeats 4000000
set_option maxRecDepth 100000
end Go.Proofs.YtchjbidfmhmmhaaGreatDoor
namespace Go.Proofs.YtchjbidfmhmmhaaGreatDoor
open Go.Sh
set_option maxHeartbeats 4000000
set_option maxRecDepth 100000
end Go.Proofs.YtchjbidfmhmmhaaGreatDoor
