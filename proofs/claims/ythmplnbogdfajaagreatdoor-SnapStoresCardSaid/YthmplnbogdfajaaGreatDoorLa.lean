/- Own work: the shadow machine and what it shows, part La. -/
import Derived.Test.YthmplnbogdfajaaGreatDoorRd
import Derived.Test.YthmplnbogdfajaaGreatDoorSa
import Derived.Test.YthmplnbogdfajaaGreatDoorPl
set_option linter.all false
namespace Go.Proofs.YthmplnbogdfajaaGreatDoor
open Go.Sh
set_option maxRecDepth 100000
theorem fixed_run (H : GH) : gcall T 3000 f_x15 [] H = some (.bool true, H) := by kernel_rfl
theorem fixed_ok (H : GH) : ecall T f_x15 [] H = some (.bool true, H) := ecall_iff.2 ⟨3000, fixed_run H⟩
theorem isB_flat {α : Type} {f : α → List Int} {l : List α} (h : ∀ x ∈ l, isB (f x)) : isB (l.flatMap f) := fun c hc => by
  obtain ⟨x, hx, hm⟩ := List.mem_flatMap.1 hc
  exact h x hx c hm
theorem isB_tB (t : List UInt8) : isB (tB t) := fun c hc => by
  obtain ⟨b, _, rfl⟩ := List.mem_map.1 hc
  have := b.toNat_lt
  omega
theorem isB_textB (t : List UInt8) : isB (textB t) := isB_append (isB_putB _) (isB_tB t)
theorem isB_sigB (n : Int) : isB (sigB n) := by
  unfold sigB
  split
  · intro c hc; cases hc
  · split <;> exact isB_putB _
theorem isB_vlB (k n : Int) (t : List UInt8) : isB (vlB k n t) := isB_append (isB_putB _) (isB_append (isB_sigB n) (isB_textB t))
theorem isB_entBy (e : Ent) : isB (entBy e) := isB_append (isB_putB _) (isB_append (isB_putB _) (isB_vlB _ _ _))
theorem isB_elBy (x : El) : isB (elBy x) := isB_append (isB_putB _) (isB_flat fun t _ => isB_textB t)
theorem isB_itemBy (p : Itm) : isB (itemBy p) := isB_append (isB_elBy _) (isB_append (isB_putB _) (isB_flat fun e _ => isB_entBy e))
theorem isB_evBy (e : Evt) : isB (evBy e) := isB_append (isB_append (isB_append (isB_putB _) (isB_append (isB_putB _) (isB_flat fun n _ => isB_putB n))) (isB_append (isB_putB _) (isB_elBy _))) (isB_vlB _ _ _)
theorem isB_snapBy (kv : List Int) (I : List Itm) (E : List Evt) : isB (snapBy kv I E) :=
  isB_append (isB_flat fun n _ => isB_putB n) (isB_append (isB_putB _) (isB_append (isB_flat fun p _ => isB_itemBy p) (isB_append (isB_putB _) (isB_flat fun e _ => isB_evBy e))))
theorem snapBy_len {kv : List Int} {I : List Itm} {E : List Evt} (hk : kv.length = 16) (hI : I.length ≤ 1000) (h : ∀ p ∈ I, ElS p.x ∧ p.L.length ≤ 1000 ∧ ∀ e ∈ p.L, EntS e) (hE : E.length ≤ 1000) (he : ∀ e ∈ E, EvS e) : (snapBy kv I E).length ≤ 2 ^ 40 := by
  have h1 := itemBy_lens I h hI
  have h2 := flat_le putB 9 kv (fun n _ => putB_len n)
  have h3 := flat_le evBy 6000 E (fun e hm => evBy_len (he e hm))
  have h4 := putB_len I.length
  have h5 := putB_len E.length
  have h6 : E.length * 6000 ≤ 1000 * 6000 := Nat.mul_le_mul_right _ hE
  rw [hk] at h2
  simp only [snapBy, List.length_append]
  omega
structure IIn (p : IP) : Prop where
  big : IBig p
  r : ElRange p.1.x
  n : ∀ e ∈ p.1.L, -9223372036854775808 ≤ e.n ∧ e.n ≤ 9223372036854775807
structure EIn (e : Evt) : Prop where
  big : EvBig e
  n : -9223372036854775808 ≤ e.vn ∧ e.vn ≤ 9223372036854775807
theorem elS_of {x : El} {m : Nat} (h : elSum x + m ≤ 300) : ElS x ∧ m ≤ 300 := by
  unfold elSum at h
  exact ⟨⟨by omega, by omega, by omega, by omega⟩, by omega⟩
theorem IIn.is {p : IP} (h : IIn p) (hs : Small p.1) : IS p ∧ p.1.L.length ≤ 1000 := by
  have h20 := hs.L
  refine ⟨⟨(elS_of (m := 0) (by have := hs.x; omega)).1, h.r, by omega, fun e he => ⟨by have := hs.t e he; omega, (h.n e he).1, (h.n e he).2⟩, h.big.el⟩, by omega⟩
theorem EIn.ev {e : Evt} (h : EIn e) (hs : elSum e.x + e.vt.length ≤ 300) : EvS e := by
  obtain ⟨a, b⟩ := elS_of hs
  exact ⟨h.big.past, a, by omega, h.n.1, h.n.2⟩
end Go.Proofs.YthmplnbogdfajaaGreatDoor
