/- Own work: the zaH machine and what it shows, part Gx. -/
import Derived.Test.YtchjbidfmhmmhaaGreatDoorGw
import Derived.Test.YtchjbidfmhmmhaaGreatDoorAl
set_option linter.all false
namespace Go.Proofs.YtchjbidfmhmmhaaGreatDoor
open Go.Sh
set_option maxHeartbeats 4000000
set_option maxRecDepth 100000
section
variable {H:GH} {n:Nat} {w:Vw} {links:List Lk} {outs ins:List UInt8 → List Lk}
end
end Go.Proofs.YtchjbidfmhmmhaaGreatDoor
namespace Go.Proofs.YtchjbidfmhmmhaaGreatDoor
open Go.Sh
set_option maxRecDepth 100000
end Go.Proofs.YtchjbidfmhmmhaaGreatDoor
namespace Go.Proofs.YtchjbidfmhmmhaaGreatDoor
open Go.Sh
set_option maxHeartbeats 4000000
set_option maxRecDepth 100000
theorem zvz {R:List Evt} (h:Row R) {H:GH} {s m:Nat} (hS:Sto H s m (zgf R)):∀ p ∈ zfq (zgf R),SeeOk (zgf R) p.1 := by
  intro p hp
  have hg := h.good
  have hp' := (zhO _).mem_iff.1 hp
  have hne:zcK (zgf R) p.1 ≠ [] := by rw [zst hS.ap hp']; exact hS.ne_nil p hp'
  obtain ⟨h1,h2⟩ := hg.el p.1 hne
  have hr := zih h1
  refine ⟨⟨?_, ?_, ?_, ?_⟩,zeS h2 hr, ?_,h1⟩
  · have := h2.a; omega
  · have := h2.b; omega
  · have := h2.c; omega
  · have := h2.d; omega
  · have := hg.len p.1; have := h.le; omega
end Go.Proofs.YtchjbidfmhmmhaaGreatDoor
