/- Own work: the shadow machine and what it shows, part ShD. -/
import Derived.Test.YthmplnbogdfajaaGreatDoorShC
import Derived.Orders
set_option linter.all false
namespace Go.Sh
variable [Facts]
section
variable {P : Program} {ro : Nat} {hp : List Nat} {K : Ctx} {H : GH} {lam : Nat → Option Nat} {nt : Nat} {e : Env} {a : Act} {o : Oper} {B gk : Nat}
def Prim.isCall : Prim → Bool
  | .call _ | .callv => true
  | _ => false
theorem arr_of_toList {α : Type} {a : Array α} {l : List α} (h : a.toList = l) : a = l.toArray := by rw [← h]
theorem call_of {c : Call} {cl : Callee} {as : List Operand} {ts : List TypeId} (h1 : c.callee = cl) (h2 : c.args.toList = as) (h3 : c.argTypes.toList = ts) : c = { callee := cl, args := as.toArray, argTypes := ts.toArray } := by
  cases c with | mk x y z => cases h1; cases arr_of_toList h2; cases arr_of_toList h3; rfl
theorem cCall_sound (hlaid : laidOutB P = true) {call : Nat → List GV → GH → Option (GV × GH)} (hr : HR ro K H) (fr : FR K lam nt e a) (hB : e.gen ≤ B) {g : Nat} {rowA : Bool} {c : Call} (ho : o.op = .call c) {p : Prim} {srcs : List Src} (hc : cCall P ro rowA c = some (p, srcs)) (hnc : p.isCall = false)
    {f : Eff} (hf : geff call p (srcs.map (evalS e)) ⟨e.s, g⟩ H = some f) : StepOk P ro K lam nt e a o H f B g := by
  have fin : ∀ {p : Prim} {srcs : List Src}, (∀ args e H, geff call p args e H = (gPure p args).map fun v => ⟨v, none, H, e.gen⟩) → geff call p (srcs.map (evalS e)) ⟨e.s, g⟩ H = some f →
      (∀ v, gPure p (srcs.map (evalS e)) = some v → PureOk P K lam a o v) → StepOk P ro K lam nt e a o H f B g := by
    intro p srcs h1 h2 h3
    rw [h1, Option.map_eq_some_iff] at h2
    obtain ⟨v, hv, rfl⟩ := h2
    exact step_pure hr fr hB (h3 v hv)
  unfold cCall at hc
  split at hc
  · simp only [Option.map_eq_some_iff, Prod.mk.injEq] at hc
    obtain ⟨_, _, rfl, _⟩ := hc
    cases hnc
  · simp only [Option.map_eq_some_iff, Prod.mk.injEq] at hc
    obtain ⟨_, _, rfl, _⟩ := hc
    cases hnc
  · rename_i hcl
    split at hc
    · rename_i x t hx ht
      have ho' := ho.trans (congrArg Op.call (call_of hcl hx ht))
      split at hc
      · rename_i hu
        simp only [Option.map_eq_some_iff, Prod.mk.injEq] at hc
        obtain ⟨s, hs, rfl, rfl⟩ := hc
        exact fin (fun _ _ _ => rfl) hf fun v hv => ps_lenstr hr fr ho' hu hs hv
      · rename_i el hu
        simp only [Option.map_eq_some_iff, Prod.mk.injEq] at hc
        obtain ⟨s, hs, rfl, rfl⟩ := hc
        exact fin (fun _ _ _ => rfl) hf fun v hv => ps_lensl hr fr ho' hu hs hv
      · rename_i mk me hu
        simp only [Option.map_eq_some_iff, Prod.mk.injEq] at hc
        obtain ⟨s, hs, rfl, rfl⟩ := hc
        simp only [geff, List.map_cons, List.map_nil, Option.map_eq_some_iff] at hf
        obtain ⟨n, hn, rfl⟩ := hf
        exact step_mlen hr fr hB ho' hu hs rfl hn
      · rename_i n el hu
        simp only [Option.map_eq_some_iff, Prod.mk.injEq] at hc
        obtain ⟨s, hs, rfl, rfl⟩ := hc
        exact fin (fun _ _ _ => rfl) hf fun v hv => ps_lenN (u := t) hr fr ho' (.inl hu) hv
      · rename_i u hu
        split at hc
        · rename_i n el hu'
          simp only [Option.map_eq_some_iff, Prod.mk.injEq] at hc
          obtain ⟨s, hs, rfl, rfl⟩ := hc
          exact fin (fun _ _ _ => rfl) hf fun v hv => ps_lenN hr fr ho' (.inr ⟨hu, hu'⟩) hv
        · cases hc
      · cases hc
    · cases hc
  · rename_i hcl
    split at hc
    · rename_i sx xx t u hx ht
      have ho' := ho.trans (congrArg Op.call (call_of hcl hx ht))
      split at hc
      · rename_i el e' hu hu'
        split at hc
        · rename_i sz by_ z s x hsz hby hz hs hxs
          split at hc
          · rename_i hzl
            simp only [Option.some.injEq, Prod.mk.injEq] at hc
            obtain ⟨hp, rfl⟩ := hc
            split at hp
            · subst hp
              simp only [geff, List.map_cons, List.map_nil, Option.map_eq_some_iff] at hf
              obtain ⟨⟨v, H'⟩, hv, rfl⟩ := hf
              exact step_appendN hr fr hB ho' hu (.inl ⟨e', hu'⟩) hsz hby hz hzl hs hxs hv
            · subst hp
              simp only [geff, List.map_cons, List.map_nil, Option.map_eq_some_iff] at hf
              obtain ⟨⟨v, H'⟩, hv, rfl⟩ := hf
              exact step_append hr fr hB ho' hu (.inl ⟨e', hu'⟩) hsz hby hz hzl hs hxs hv
          · cases hc
        · cases hc
      · rename_i el hu hu'
        split at hc
        · rename_i sz by_ z s x hsz hby hz hs hxs
          split at hc
          · rename_i hzl
            obtain ⟨hzl, h1, h2⟩ := hzl
            simp only [Option.some.injEq, Prod.mk.injEq] at hc
            obtain ⟨rfl, rfl⟩ := hc
            simp only [geff, List.map_cons, List.map_nil, Option.map_eq_some_iff] at hf
            obtain ⟨⟨v, H'⟩, hv, rfl⟩ := hf
            subst h1; subst h2
            exact step_append hr fr hB ho' hu (.inr hu') hsz hby hz hzl hs hxs hv
          · cases hc
        · cases hc
      · cases hc
    · cases hc
  · rename_i hcl
    split at hc
    · rename_i x t hx ht
      have ho' := ho.trans (congrArg Op.call (call_of hcl hx ht))
      split at hc
      · rename_i el hu
        split at hc
        · rename_i sz z s hsz hz hs
          split at hc
          · rename_i hzl
            simp only [Option.some.injEq, Prod.mk.injEq] at hc
            obtain ⟨rfl, rfl⟩ := hc
            simp only [geff, List.map_cons, List.map_nil, Option.map_eq_some_iff] at hf
            obtain ⟨⟨v, H'⟩, hv, rfl⟩ := hf
            exact step_clear hr fr hB ho' hu hsz hz hzl hs hv
          · cases hc
        · cases hc
      · cases hc
    · cases hc
  · rename_i hcl
    split at hc
    · rename_i x y t u hx ht
      have ho' := ho.trans (congrArg Op.call (call_of hcl hx ht))
      split at hc
      · rename_i kt el hu
        split at hc
        · rename_i ag ls l hk hs
          simp only [Option.some.injEq, Prod.mk.injEq] at hc
          obtain ⟨rfl, rfl⟩ := hc
          simp only [geff] at hf
          split at hf
          · rename_i mg kg hl
            simp only [Option.map_eq_some_iff] at hf
            obtain ⟨H', hg', rfl⟩ := hf
            exact step_mdel hlaid hr fr hB ho' hu hk hs hl hg'
          · cases hf
        · cases hc
      · cases hc
    · cases hc
  · rename_i hcl
    split at hc
    · rename_i x y hx
      have ho' := ho.trans (congrArg Op.call (call_of hcl hx rfl))
      simp only [Option.map_eq_some_iff, Prod.mk.injEq] at hc
      obtain ⟨l, hs, rfl, rfl⟩ := hc
      exact fin (fun _ _ _ => rfl) hf fun v hv => ps_minmax (mx := true) hr fr ho' hs hv
    · cases hc
  · rename_i hcl
    split at hc
    · rename_i x y hx
      have ho' := ho.trans (congrArg Op.call (call_of hcl hx rfl))
      simp only [Option.map_eq_some_iff, Prod.mk.injEq] at hc
      obtain ⟨l, hs, rfl, rfl⟩ := hc
      exact fin (fun _ _ _ => rfl) hf fun v hv => ps_minmax (mx := false) hr fr ho' hs hv
    · cases hc
  · cases hc
theorem cBin_sound {call : Nat → List GV → GH → Option (GV × GH)} (hr : HR ro K H) (fr : FR K lam nt e a) (hB : e.gen ≤ B) {g : Nat} {op : BinOp} {t yt : TypeId} {x y : Operand} (ho : o.op = .binOp op t x y yt) {p : Prim} {srcs : List Src}
    (hc : cOp P ro hp o = some (p, srcs)) {f : Eff} (hf : geff call p (srcs.map (evalS e)) ⟨e.s, g⟩ H = some f) : StepOk P ro K lam nt e a o H f B g := by
  have fin : ∀ {p : Prim} {srcs : List Src}, (∀ args e H, geff call p args e H = (gPure p args).map fun v => ⟨v, none, H, e.gen⟩) → geff call p (srcs.map (evalS e)) ⟨e.s, g⟩ H = some f →
      (∀ v, gPure p (srcs.map (evalS e)) = some v → PureOk P K lam a o v) → StepOk P ro K lam nt e a o H f B g := by
    intro p srcs h1 h2 h3
    rw [h1, Option.map_eq_some_iff] at h2
    obtain ⟨v, hv, rfl⟩ := h2
    exact step_pure hr fr hB (h3 v hv)
  simp only [cOp, ho] at hc
  split at hc
  case h_2 => cases hc
  case h_1 l hs =>
    have bin : some (Prim.bin op, l) = some (p, srcs) → StepOk P ro K lam nt e a o H f B g := by
      intro h
      simp only [Option.some.injEq, Prod.mk.injEq] at h
      obtain ⟨rfl, rfl⟩ := h
      exact fin (fun _ _ _ => rfl) hf fun v hv => ps_bin hr fr ho hs hv
    have eq1 : ∀ (lf : Leaf), op = .eql ∨ op = .neq → leafTy P t lf → (lf = .iface → isConst x = true ∨ isConst y = true) → some (Prim.eq1 (op == .neq) lf, l) = some (p, srcs) → StepOk P ro K lam nt e a o H f B g := by
      intro lf hop h1 h2 h
      simp only [Option.some.injEq, Prod.mk.injEq] at h
      obtain ⟨rfl, rfl⟩ := h
      exact fin (fun _ _ _ => rfl) hf fun v hv => ps_eq1 hr fr ho hop hs h1 h2 hv
    have eqv : op = .eql ∨ op = .neq → ((∃ fs, P.underlying t = some (.struct fs)) ∨ ∃ n el, P.underlying t = some (.array n el)) →
        (if P.eqGuardType P.depth t = true then none else match leavesOf P 50 t, sizeG P t with
          | some ls, some n => if ls.length = n then some (Prim.eqv (op == .neq) ls, l) else none
          | _, _ => none) = some (p, srcs) → StepOk P ro K lam nt e a o H f B g := by
      intro hop hu h
      have hag : aggG P t = some true := by
        rcases hu with ⟨fs, hu⟩ | ⟨n, el, hu⟩ <;> simp [aggG, hu]
      split at h
      · cases h
      · rename_i hgd
        split at h
        · rename_i ls n hl hsz
          split at h
          · rename_i hln
            simp only [Option.some.injEq, Prod.mk.injEq] at h
            obtain ⟨rfl, rfl⟩ := h
            exact fin (fun _ _ _ => rfl) hf fun v hv => ps_eqv hr fr ho hop hs hl hsz hag hln (by simpa using hgd) hv
          · cases h
        · cases h
    have eqs : op = .eql ∨ op = .neq → (match P.underlying t with
        | some (.int _) | some .string => some (Prim.bin op, l)
        | some .bool => some (.eq1 (op == .neq) .bool, l)
        | some (.pointer _) => some (.eq1 (op == .neq) .ptr, l)
        | some (.slice _) => some (.eq1 (op == .neq) .slice, l)
        | some (.map _ _) => some (.eq1 (op == .neq) .map, l)
        | some (.func _ _ _) => some (.eq1 (op == .neq) .func, l)
        | some (.interface _) => if isConst x || isConst y then some (.eq1 (op == .neq) .iface, l) else none
        | some (.struct _) | some (.array _ _) => if P.eqGuardType P.depth t then none else match leavesOf P 50 t, sizeG P t with
          | some ls, some n => if ls.length = n then some (.eqv (op == .neq) ls, l) else none
          | _, _ => none
        | _ => none) = some (p, srcs) → StepOk P ro K lam nt e a o H f B g := by
      intro hop h
      split at h
      · exact bin h
      · exact bin h
      · rename_i hu; exact eq1 .bool hop hu (by intro h; cases h) h
      · rename_i u hu; exact eq1 .ptr hop ⟨_, hu⟩ (by intro h; cases h) h
      · rename_i u hu; exact eq1 .slice hop ⟨_, hu⟩ (by intro h; cases h) h
      · rename_i u v hu; exact eq1 .map hop ⟨_, _, hu⟩ (by intro h; cases h) h
      · rename_i u v w hu; exact eq1 .func hop ⟨_, _, _, hu⟩ (by intro h; cases h) h
      · rename_i u hu
        split at h
        · rename_i hcc; exact eq1 .iface hop ⟨_, hu⟩ (fun _ => by simpa using hcc) h
        · cases h
      · rename_i u hu; exact eqv hop (.inl ⟨_, hu⟩) h
      · rename_i n u hu; exact eqv hop (.inr ⟨_, _, hu⟩) h
      · cases h
    cases op
    case eql => exact eqs (.inl rfl) hc
    case neq => exact eqs (.inr rfl) hc
    all_goals exact bin hc
end
end Go.Sh
namespace Go.Sh
variable [Facts]
section
variable {P : Program} {ro : Nat} {hp : List Nat} {K : Ctx} {H : GH} {lam : Nat → Option Nat} {nt : Nat} {e : Env} {a : Act} {o : Oper} {B gk : Nat}
theorem ite_or {α : Type} {c : Prop} [Decidable c] {x y p : α} (h : (if c then x else y) = p) : x = p ∨ y = p := by
  by_cases hc : c
  · left; rwa [if_pos hc] at h
  · right; rwa [if_neg hc] at h
theorem deref_gen (e : Env) (g sl n : Nat) : deref ⟨e.s, g⟩ sl n = deref e sl n := rfl
theorem gLoad_gen (e : Env) (H : GH) (g sz : Nat) (ag : Bool) (v : GV) : gLoad ⟨e.s, g⟩ H sz ag v = gLoad e H sz ag v := by
  cases v <;> rfl
theorem cOp_sound (hlaid : laidOutB P = true) {call : Nat → List GV → GH → Option (GV × GH)} (hr : HR ro K H) (fr : FR K lam nt e a) (hB : e.gen ≤ B) {g : Nat} (hg : lam g = none) {p : Prim} {srcs : List Src} (hgB : p.isBox = true → g < B) (hc : cOp P ro hp o = some (p, srcs)) (hnc : ∀ c, o.op = .call c → p.isCall = false)
    {f : Eff} (hf : geff call p (srcs.map (evalS e)) ⟨e.s, g⟩ H = some f) : StepOk P ro K lam nt e a o H f B g := by
  have fin : ∀ {p : Prim} {srcs : List Src}, (∀ args e H, geff call p args e H = (gPure p args).map fun v => ⟨v, none, H, e.gen⟩) → geff call p (srcs.map (evalS e)) ⟨e.s, g⟩ H = some f →
      (∀ v, gPure p (srcs.map (evalS e)) = some v → PureOk P K lam a o v) → StepOk P ro K lam nt e a o H f B g := by
    intro p srcs h1 h2 h3
    rw [h1, Option.map_eq_some_iff] at h2
    obtain ⟨v, hv, rfl⟩ := h2
    exact step_pure hr fr hB (h3 v hv)
  cases ho : o.op
  case move x =>
    simp only [cOp, ho, Option.map_eq_some_iff, Prod.mk.injEq] at hc
    obtain ⟨s, hs, h, rfl⟩ := hc
    rcases ite_or h with rfl | rfl
    · simp only [geff, List.map_cons, List.map_nil, Option.map_eq_some_iff] at hf
      obtain ⟨⟨v, H'⟩, hv, rfl⟩ := hf
      exact step_freeze hr fr hB (.inl ho) hs hv
    · exact fin (fun _ _ _ => rfl) hf fun v hv => ps_id hr fr (.inl ho) hs hv
  case assign x =>
    simp only [cOp, ho, Option.map_eq_some_iff, Prod.mk.injEq] at hc
    obtain ⟨s, hs, h, rfl⟩ := hc
    rcases ite_or h with rfl | rfl
    · simp only [geff, List.map_cons, List.map_nil, Option.map_eq_some_iff] at hf
      obtain ⟨⟨v, H'⟩, hv, rfl⟩ := hf
      exact step_freeze hr fr hB (.inr ho) hs hv
    · exact fin (fun _ _ _ => rfl) hf fun v hv => ps_id hr fr (.inr ho) hs hv
  case pick c x y =>
    simp only [cOp, ho, Option.map_eq_some_iff, Prod.mk.injEq] at hc
    obtain ⟨s, hs, rfl, rfl⟩ := hc
    exact fin (fun _ _ _ => rfl) hf fun v hv => ps_pick hr fr ho hs hv
  case alloc t =>
    simp only [cOp, ho, Option.map_eq_some_iff, Prod.mk.injEq] at hc
    obtain ⟨z, hz, h, rfl⟩ := hc
    rcases ite_or h with rfl | rfl
    · simp only [geff, List.map_nil, Option.some.injEq] at hf
      subst hf
      exact step_allocH hr fr hB ho hz
    · simp only [geff, List.map_nil, Option.some.injEq] at hf
      subst hf
      exact step_allocL hr fr hB hg (hgB rfl) ho hz
  case box t x =>
    simp only [cOp, ho, Option.map_eq_some_iff, Prod.mk.injEq] at hc
    obtain ⟨s, hs, h, rfl⟩ := hc
    rcases ite_or h with rfl | h
    · simp only [geff, List.map_cons, List.map_nil] at hf
      split at hf
      · rename_i hok
        injection hf with hf
        subst hf
        exact step_boxI hr fr hB ho hs hok
      · cases hf
    rcases ite_or h with rfl | rfl
    · simp only [geff, List.map_cons, List.map_nil] at hf
      split at hf
      · rename_i hok
        injection hf with hf
        subst hf
        exact step_boxH hr fr hB ho hs hok
      · cases hf
    · simp only [geff, List.map_cons, List.map_nil] at hf
      split at hf
      · rename_i hok
        injection hf with hf
        subst hf
        exact step_boxL hr fr hB hg (hgB rfl) ho hs hok
      · cases hf
  case build t ps =>
    simp only [cOp, ho] at hc
    split at hc
    · rename_i fs z l hu hz hs
      simp only [Option.bind_eq_some_iff] at hc
      obtain ⟨pl, hpl, hc⟩ := hc
      split at hc
      · rename_i hall
        simp only [Option.some.injEq, Prod.mk.injEq] at hc
        obtain ⟨rfl, rfl⟩ := hc
        exact fin (fun _ _ _ => rfl) hf fun v hv => ps_build hr fr ho hz hs (.inl ⟨fs, hu, hpl, hall⟩) hv
      · cases hc
    · rename_i n el z l hu hz hs
      simp only [Option.map_eq_some_iff, Prod.mk.injEq] at hc
      obtain ⟨k, hk, rfl, rfl⟩ := hc
      exact fin (fun _ _ _ => rfl) hf fun v hv => ps_build hr fr ho hz hs (.inr ⟨n, el, k, hu, hk, rfl⟩) hv
    · cases hc
  case buildSlice t len ps =>
    simp only [cOp, ho] at hc
    split at hc
    · rename_i el l hu hs
      split at hc
      · rename_i sz z hsz hz
        split at hc
        · rename_i hcc
          simp only [Option.some.injEq, Prod.mk.injEq] at hc
          obtain ⟨hp1, rfl⟩ := hc
          rcases ite_or hp1 with rfl | rfl
          · simp only [geff] at hf
            split at hf
            · rename_i hh
              injection hf with hf
              subst hf
              simp only [Bool.and_eq_true, beq_iff_eq, List.all_eq_true, decide_eq_true_eq] at hh
              obtain ⟨⟨⟨⟨⟨q1, q2⟩, q3⟩, q4⟩, q5⟩, q6⟩ := hh
              exact step_buildR hr fr hB ho hu hsz hz hcc.1 hcc.2.1 hcc.2.2 hs q1 (by simpa using q2) q3 q4 q6
            · cases hf
          · simp only [geff] at hf
            split at hf
            · rename_i hh
              injection hf with hf
              subst hf
              simp only [Bool.and_eq_true, beq_iff_eq, List.all_eq_true, decide_eq_true_eq] at hh
              obtain ⟨⟨⟨⟨⟨q1, q2⟩, q3⟩, q4⟩, q5⟩, q6⟩ := hh
              exact step_buildSl hr fr hB ho hu hsz hz hcc.1 hcc.2.1 hcc.2.2 hs q1 (by simpa using q2) q3 q4 q6
            · cases hf
        · cases hc
      · cases hc
    · cases hc
  case makeSlice t x y =>
    simp only [cOp, ho] at hc
    split at hc
    · rename_i el s u hu hs hs2
      split at hc
      · rename_i sz by_ z hsz hby hz
        simp only [Option.some.injEq, Prod.mk.injEq] at hc
        obtain ⟨rfl, rfl⟩ := hc
        simp only [geff, List.map_cons, List.map_nil, Option.map_eq_some_iff] at hf
        obtain ⟨⟨v, H'⟩, hv, rfl⟩ := hf
        exact step_makeR hr fr hB ho hu hsz hby hz hs hs2 hv
      · cases hc
    · cases hc
  case load t x =>
    simp only [cOp, ho] at hc
    split at hc
    · rename_i n ag s hsz ha hs
      simp only [Option.some.injEq, Prod.mk.injEq] at hc
      obtain ⟨rfl, rfl⟩ := hc
      simp only [geff, List.map_cons, List.map_nil, Option.map_eq_some_iff, gLoad_gen] at hf
      obtain ⟨v, hv, rfl⟩ := hf
      exact step_pure hr fr hB (ps_load hr fr ho hs hsz ha hv)
    · cases hc
  case store t x y =>
    simp only [cOp, ho] at hc
    split at hc
    · rename_i n l hsz hs
      simp only [Option.some.injEq, Prod.mk.injEq] at hc
      obtain ⟨rfl, rfl⟩ := hc
      simp only [geff] at hf
      split at hf
      · rename_i av v hl
        split at hf
        · rename_i hh
          simp only [Bool.and_eq_true, beq_iff_eq] at hh
          split at hf
          · rename_i sl gg off
            simp only [Option.bind_eq_some_iff, Option.map_eq_some_iff, deref_gen] at hf
            obtain ⟨cs, hd, cs', hp, rfl⟩ := hf
            exact step_storeL hr fr hB ho hs hsz hl hh.1.1 hh.1.2 hh.2 hd hp
          · rename_i id off
            split at hf
            · rename_i cs hd
              split at hf
              · rename_i hbo
                simp only [Option.map_eq_some_iff] at hf
                obtain ⟨cs', hp, rfl⟩ := hf
                exact step_storeH hr fr hB ho hs hsz hl hh.1.1 hh.1.2 hh.2 hd hbo hp
              · cases hf
            · rename_i cs hd
              split at hf
              · rename_i hbo
                simp only [Option.map_eq_some_iff] at hf
                obtain ⟨cs', hp, rfl⟩ := hf
                exact step_storeR hr fr hB ho hs hsz hl hh.1.1 hh.1.2 hh.2 hd hbo hp
              · cases hf
            · cases hf
          · cases hf
        · cases hf
      · cases hf
    · cases hc
  case fieldAddr t x i =>
    simp only [cOp, ho] at hc
    split at hc
    · rename_i fs s hu hs
      simp only [Option.bind_eq_some_iff] at hc
      obtain ⟨fl, hfl, hc⟩ := hc
      split at hc
      · rename_i n hn
        split at hc
        · cases hc
        · rename_i hn0
          simp only [Option.some.injEq, Prod.mk.injEq] at hc
          obtain ⟨rfl, rfl⟩ := hc
          exact fin (fun _ _ _ => rfl) hf fun v hv => ps_faddr hr fr ho hu hfl hn hn0 hs hv
      · cases hc
    · cases hc
  case field t x i =>
    simp only [cOp, ho] at hc
    split at hc
    · rename_i fs s hu hs
      simp only [Option.bind_eq_some_iff] at hc
      obtain ⟨fl, hfl, hc⟩ := hc
      split at hc
      · rename_i n ag hn ha
        simp only [Option.some.injEq, Prod.mk.injEq] at hc
        obtain ⟨rfl, rfl⟩ := hc
        exact fin (fun _ _ _ => rfl) hf fun v hv => ps_field hr fr ho hu hfl hn ha hs hv
      · cases hc
    · cases hc
  case indexAddr t x i =>
    simp only [cOp, ho] at hc
    split at hc
    · rename_i el l hu hs
      simp only [Option.map_eq_some_iff, Prod.mk.injEq] at hc
      obtain ⟨n, hn, rfl, rfl⟩ := hc
      exact fin (fun _ _ _ => rfl) hf fun v hv => ps_ixaddr hr fr ho hu hn hs hv
    · rename_i m el l hu hs
      simp only [Option.map_eq_some_iff, Prod.mk.injEq] at hc
      obtain ⟨n, hn, rfl, rfl⟩ := hc
      exact fin (fun _ _ _ => rfl) hf fun v hv => ps_ixaddrA hr fr ho hu hn hs hv
    · cases hc
  case index t x i =>
    simp only [cOp, ho] at hc
    split at hc
    · rename_i l hu hs
      simp only [Option.some.injEq, Prod.mk.injEq] at hc
      obtain ⟨rfl, rfl⟩ := hc
      exact fin (fun _ _ _ => rfl) hf fun v hv => ps_ixstr hr fr ho hu hs hv
    · rename_i n el l hu hs
      split at hc
      · rename_i k ag hk ha
        simp only [Option.some.injEq, Prod.mk.injEq] at hc
        obtain ⟨rfl, rfl⟩ := hc
        exact fin (fun _ _ _ => rfl) hf fun v hv => ps_ixarr hr fr ho hu hk ha hs hv
      · cases hc
    · cases hc
  case slice t x lo hi mx =>
    simp only [cOp, ho] at hc
    split at hc
    · rename_i s l1 l2 hu hs h1 h2 h3
      split at hc
      · rename_i hmx
        simp only [Option.some.injEq, Prod.mk.injEq] at hc
        obtain ⟨rfl, rfl⟩ := hc
        cases mx with
        | some m => cases hmx
        | none => exact fin (fun _ _ _ => rfl) hf fun v hv => ps_slstr hr fr ho hu hs h1 h2 hv
      · cases hc
    · rename_i el s l1 l2 l3 hu hs h1 h2 h3
      simp only [Option.map_eq_some_iff, Prod.mk.injEq] at hc
      obtain ⟨n, hn, rfl, rfl⟩ := hc
      exact fin (fun _ _ _ => rfl) hf fun v hv => ps_slsl hr fr ho hu hn hs h1 h2 h3 hv
    · rename_i n el s hu hs h1 h2 h3
      simp only [Option.map_eq_some_iff, Prod.mk.injEq] at hc
      obtain ⟨sz, hn, rfl, rfl⟩ := hc
      have none_of : ∀ {y : Option Operand}, cOpt ro y = some [] → y = none := fun {y} h => by
        cases y with
        | none => rfl
        | some y => simp [cOpt] at h
      obtain rfl := none_of h1
      obtain rfl := none_of h2
      obtain rfl := none_of h3
      exact fin (fun _ _ _ => rfl) hf fun v hv => ps_slarr hr fr ho hu hn hs hv
    · cases hc
  case nilCheck x =>
    simp only [cOp, ho, Option.map_eq_some_iff, Prod.mk.injEq] at hc
    obtain ⟨s, hs, rfl, rfl⟩ := hc
    exact fin (fun _ _ _ => rfl) hf fun v hv => ps_nilchk hr fr ho hs hv
  case binOp op t x y yt => exact cBin_sound hr fr hB ho hc hf
  case unOp op t x =>
    simp only [cOp, ho, Option.map_eq_some_iff, Prod.mk.injEq] at hc
    obtain ⟨s, hs, rfl, rfl⟩ := hc
    exact fin (fun _ _ _ => rfl) hf fun v hv => ps_un hr fr ho hs hv
  case convert u t x =>
    simp only [cOp, ho] at hc
    split at hc
    · rename_i d k s hu ht hs
      simp only [Option.some.injEq, Prod.mk.injEq] at hc
      obtain ⟨rfl, rfl⟩ := hc
      exact fin (fun _ _ _ => rfl) hf fun v hv => ps_conv hr fr ho hu ht hs hv
    · rename_i s hu ht hs
      simp only [Option.some.injEq, Prod.mk.injEq] at hc
      obtain ⟨rfl, rfl⟩ := hc
      exact fin (fun _ _ _ => rfl) hf fun v hv => ps_strid hr fr ho hu ht hs hv
    · rename_i el s hu ht hs
      split at hc
      · rename_i hel hsz
        simp only [Option.some.injEq, Prod.mk.injEq] at hc
        obtain ⟨rfl, rfl⟩ := hc
        simp only [geff, List.map_cons, List.map_nil] at hf
        split at hf
        · rename_i sb hv
          simp only [List.cons.injEq, and_true] at hv
          split at hf
          · rename_i hlen
            injection hf with hf
            subst hf
            exact step_s2b hr fr hB ho hu ht hel hs hv hlen
          · cases hf
        · cases hf
      · cases hc
    · rename_i el s hu ht hs
      split at hc
      · rename_i hel
        simp only [Option.some.injEq, Prod.mk.injEq] at hc
        obtain ⟨hp1, rfl⟩ := hc
        rcases ite_or hp1 with rfl | rfl
        · simp only [geff, Option.map_eq_some_iff] at hf
          obtain ⟨v, hv, rfl⟩ := hf
          exact step_pure hr fr hB (ps_b2r hr fr ho hu ht hel hs hv)
        · exact fin (fun _ _ _ => rfl) hf fun v hv => ps_b2s hr fr ho hu ht hel hs hv
      · cases hc
    · cases hc
  case makeFunc fn first captured =>
    cases fn with
    | func f =>
      simp only [cOp, ho, Option.map_eq_some_iff, Prod.mk.injEq] at hc
      obtain ⟨s, hs, rfl, rfl⟩ := hc
      exact fin (fun _ _ _ => rfl) hf fun v hv => ps_mkfunc hr fr ho hs hv
    | _ => simp [cOp, ho] at hc
  case extract x i =>
    simp only [cOp, ho, Option.map_eq_some_iff, Prod.mk.injEq] at hc
    obtain ⟨s, hs, rfl, rfl⟩ := hc
    exact fin (fun _ _ _ => rfl) hf fun v hv => ps_extract hr fr ho hs hv
  case range t x =>
    simp only [cOp, ho] at hc
    split at hc
    · rename_i hu
      simp only [Option.map_eq_some_iff, Prod.mk.injEq] at hc
      obtain ⟨s, hs, rfl, rfl⟩ := hc
      simp only [geff, List.map_cons, List.map_nil] at hf
      split at hf
      · rename_i sb hv
        simp only [List.cons.injEq, and_true] at hv
        injection hf with hf
        subst hf
        exact step_range hr fr hB hg (hgB rfl) ho hu hs hv
      · cases hf
    · cases hc
  case next x b =>
    cases b with
    | false => simp [cOp, ho] at hc
    | true =>
      simp only [cOp, ho, Option.map_eq_some_iff, Prod.mk.injEq] at hc
      obtain ⟨s, hs, rfl, rfl⟩ := hc
      simp only [geff, List.map_cons, List.map_nil] at hf
      split at hf
      · rename_i sl gg off hv
        simp only [List.cons.injEq, and_true] at hv
        split at hf
        · rename_i g' t pos hi
          split at hf
          · rename_i hgo
            obtain ⟨rfl, rfl⟩ := hgo
            split at hf
            · rename_i hlt
              injection hf with hf
              subst hf
              exact (step_next hr fr hB ho hs hv hi).1 hlt
            · rename_i hlt
              injection hf with hf
              subst hf
              exact (step_next hr fr hB ho hs hv hi).2 hlt
          · cases hf
        · cases hf
      · cases hf
  case makeMap t r =>
    cases r with
    | some _ => simp [cOp, ho] at hc
    | none =>
      simp only [cOp, ho] at hc
      split at hc
      · simp only [Option.map_eq_some_iff, Prod.mk.injEq] at hc
        obtain ⟨⟨ag, ls⟩, hk, rfl, rfl⟩ := hc
        simp only [geff, List.map_nil, Option.some.injEq] at hf
        subst hf
        exact step_mkmap hr fr hB ho
      · cases hc
  case lookup t x i ok =>
    simp only [cOp, ho] at hc
    split at hc
    · rename_i k el hu
      split at hc
      · rename_i ag ls z l hk hz hs
        simp only [Option.some.injEq, Prod.mk.injEq] at hc
        obtain ⟨rfl, rfl⟩ := hc
        simp only [geff] at hf
        split at hf
        · rename_i mg kg hl
          simp only [Option.map_eq_some_iff] at hf
          obtain ⟨r, hg', rfl⟩ := hf
          exact step_mlook hlaid hr fr hB ho hu hk hz hs hl hg'
        · cases hf
      · cases hc
    · cases hc
  case mapUpdate t m k x =>
    simp only [cOp, ho] at hc
    split at hc
    · rename_i kt el hu
      split at hc
      · rename_i ag ls l hk hs
        simp only [Option.some.injEq, Prod.mk.injEq] at hc
        obtain ⟨rfl, rfl⟩ := hc
        simp only [geff] at hf
        split at hf
        · rename_i mg kg vg hl
          simp only [Option.map_eq_some_iff] at hf
          obtain ⟨H', hg', rfl⟩ := hf
          exact step_mset hlaid hr fr hB ho hu hk hs hl hg'
        · cases hf
      · cases hc
    · cases hc
  case call c =>
    simp only [cOp, ho] at hc
    exact cCall_sound hlaid hr fr hB ho hc (hnc c ho) hf
  all_goals (simp [cOp, ho] at hc)
end
end Go.Sh
namespace Go.Sh
variable [Facts]
def FuncTo (P : Program) (ro : Nat) (K : Ctx) (H : GH) (f : FuncId) (us : Array Value) (v : GV) (H' : GH) : Prop :=
  ∀ (o : Oper) (a : Act) (next : Act → World → Prop) (Q : Exit → Act → World → Prop),
    (∀ rv K', HR ro K' H' → VR K' v rv → Ext (fun _ => False) H.bo H.bt K K' → next (a.put o.dst rv) K'.w) → o.upon P a next Q ((callFunc f us).run P K.w)
def CallSound (P : Program) (ro : Nat) (call : Nat → List GV → GH → Option (GV × GH)) : Prop :=
  laidOutB P = true ∧ ∀ f args H v H', call f args H = some (v, H') → oks args = true → ∀ K us, HR ro K H → CR K args us → FuncTo P ro K H f us v H'
def CallKeep (call : Nat → List GV → GH → Option (GV × GH)) : Prop := ∀ f args H v H', call f args H = some (v, H') → H'.bo = H.bo ∧ H'.bt = H.bt
structure Sim (ro : Nat) (K0 : Ctx) (H0 : GH) (nt : Nat) (s : St) (a : Act) (w : World) (K : Ctx) (lam : Nat → Option Nat) : Prop where
  w : K.w = w
  hr : HR ro K s.H
  fr : FR K lam nt s.e a
  ext : Ext (fun _ => False) H0.bo H0.bt K0 K
  new : ∀ n b, lam n = some b → K0.w.heap.size ≤ b
  bo : s.H.bo = H0.bo
  bt : s.H.bt = H0.bt
def SimS (ro : Nat) (K0 : Ctx) (H0 : GH) (nt : Nat) (s : St) (a : Act) (w : World) : Prop := ∃ K lam, Sim ro K0 H0 nt s a w K lam
section
variable {P : Program} {ro : Nat} {hp : List Nat} {K K0 : Ctx} {H H0 : GH} {lam : Nat → Option Nat} {nt : Nat} {e : Env} {a : Act} {o : Oper} {w : World}
theorem gAppend_keep {H H' : GH} {ty sz by_ : Nat} {s x v : GV} (h : gAppend H ty sz by_ s x = some (v, H')) : H'.bo = H.bo ∧ H'.bt = H.bt := by
  unfold gAppend at h
  simp only [Option.bind_eq_some_iff] at h
  obtain ⟨news, _, h⟩ := h
  split at h
  · split at h
    · injection h with h; injection h with h1 h2; subst h2; exact ⟨rfl, rfl⟩
    · split at h
      · injection h with h; injection h with h1 h2; subst h2; exact ⟨rfl, rfl⟩
      · cases h
  · split at h
    · cases h
    · split at h
      · injection h with h; injection h with h1 h2; subst h2; exact ⟨rfl, rfl⟩
      split at h
      · cases h
      · split at h
        · split at h
          · cases h
          · injection h with h; injection h with h1 h2; subst h2; exact ⟨rfl, rfl⟩
          · split at h
            · injection h with h; injection h with h1 h2; subst h2; exact ⟨rfl, rfl⟩
            · cases h
        · cases h
  · split at h
    · split at h
      · injection h with h; injection h with h1 h2; subst h2; exact ⟨rfl, rfl⟩
      · cases h
    · cases h
  · cases h
theorem gFreeze_keep {H H' : GH} {args : List GV} {v : GV} (h : gFreeze H args = some (v, H')) : H'.bo = H.bo ∧ H'.bt = H.bt := by
  unfold gFreeze at h
  repeat' split at h
  all_goals first | (cases h; done) | (injection h with h; injection h with _ h; subst h; exact ⟨rfl, rfl⟩)
theorem gMSet0_keep {H H' : GH} {ag : Bool} {ls : List Leaf} {m k v : GV} (h : gMSet0 H ag ls m k v = some H') : H'.bo = H.bo ∧ H'.bt = H.bt := by
  unfold gMSet0 at h
  repeat' split at h
  all_goals first | (cases h; done) | (injection h with h; subst h; exact ⟨rfl, rfl⟩)
theorem gMSet_keep {H H' : GH} {ag : Bool} {ls : List Leaf} {m k v : GV} (h : gMSet H ag ls m k v = some H') : H'.bo = H.bo ∧ H'.bt = H.bt := by
  unfold gMSet at h
  split at h
  · simp only [Option.bind_eq_some_iff] at h
    obtain ⟨⟨v, H1⟩, h1, h2⟩ := h
    have k1 := gFreeze_keep h1
    have k2 := gMSet0_keep h2
    exact ⟨k2.1.trans k1.1, k2.2.trans k1.2⟩
  · exact gMSet0_keep h
theorem gMDel_keep {H H' : GH} {ag : Bool} {ls : List Leaf} {m k : GV} (h : gMDel H ag ls m k = some H') : H'.bo = H.bo ∧ H'.bt = H.bt := by
  unfold gMDel at h
  repeat' split at h
  all_goals first | (cases h; done) | (injection h with h; subst h; exact ⟨rfl, rfl⟩)
theorem gAppendN_keep {H H' : GH} {ty sz bytes : Nat} {s x v : GV} (h : gAppendN H ty sz bytes s x = some (v, H')) : H'.bo = H.bo ∧ H'.bt = H.bt := by
  unfold gAppendN at h
  simp only [Option.bind_eq_some_iff] at h
  obtain ⟨news, _, h⟩ := h
  repeat' split at h
  all_goals first | exact gAppend_keep h | (cases h; done) | (injection h with h; injection h with _ h; subst h; exact ⟨rfl, rfl⟩)
theorem gClear_keep {H H' : GH} {sz : Nat} {zero : GV} {args : List GV} {v : GV} (h : gClear H sz zero args = some (v, H')) : H'.bo = H.bo ∧ H'.bt = H.bt := by
  unfold gClear at h
  repeat' split at h
  all_goals first | (cases h; done) | (injection h with h; injection h with _ h; subst h; exact ⟨rfl, rfl⟩)
theorem geff_keep {call : Nat → List GV → GH → Option (GV × GH)} {p : Prim} {args : List GV} {f : Eff} (hk : CallKeep call) (h : geff call p args e H = some f) :
    f.H.bo = H.bo ∧ f.H.bt = H.bt ∧ f.gen = if p.isBox then e.gen + 1 else e.gen := by
  cases p <;> simp only [geff, Prim.isBox, if_true, if_false, Bool.false_eq_true] at h ⊢
  case freeze =>
    simp only [Option.map_eq_some_iff] at h
    obtain ⟨⟨v, H'⟩, h1, rfl⟩ := h
    exact ⟨(gFreeze_keep h1).1, (gFreeze_keep h1).2, rfl⟩
  case clearR =>
    simp only [Option.map_eq_some_iff] at h
    obtain ⟨⟨v, H'⟩, h1, rfl⟩ := h
    exact ⟨(gClear_keep h1).1, (gClear_keep h1).2, rfl⟩
  case appendN =>
    split at h
    · simp only [Option.map_eq_some_iff] at h
      obtain ⟨⟨v, H'⟩, h1, rfl⟩ := h
      exact ⟨(gAppendN_keep h1).1, (gAppendN_keep h1).2, rfl⟩
    · cases h
  case boxI => (split at h <;> try split at h) <;> first | (injection h with h; subst h; exact ⟨rfl, rfl, rfl⟩) | cases h
  case mkmap => split at h <;> first | (injection h with h; subst h; exact ⟨rfl, rfl, rfl⟩) | cases h
  case mset =>
    split at h
    · simp only [Option.map_eq_some_iff] at h
      obtain ⟨H', h1, rfl⟩ := h
      exact ⟨(gMSet_keep h1).1, (gMSet_keep h1).2, rfl⟩
    · cases h
  case mdel =>
    split at h
    · simp only [Option.map_eq_some_iff] at h
      obtain ⟨H', h1, rfl⟩ := h
      exact ⟨(gMDel_keep h1).1, (gMDel_keep h1).2, rfl⟩
    · cases h
  case mlook =>
    split at h
    · simp only [Option.map_eq_some_iff] at h
      obtain ⟨_, _, rfl⟩ := h
      exact ⟨rfl, rfl, rfl⟩
    · cases h
  case mlen =>
    split at h
    · simp only [Option.map_eq_some_iff] at h
      obtain ⟨_, _, rfl⟩ := h
      exact ⟨rfl, rfl, rfl⟩
    · cases h
  case makeR =>
    split at h
    · simp only [Option.map_eq_some_iff] at h
      obtain ⟨⟨v, H'⟩, h1, rfl⟩ := h
      unfold gMakeR at h1
      split at h1
      · split at h1
        · injection h1 with h1; injection h1 with h2 h3; subst h3; exact ⟨rfl, rfl, rfl⟩
        · cases h1
      · cases h1
    · cases h
  case append =>
    split at h
    · simp only [Option.map_eq_some_iff] at h
      obtain ⟨⟨v, H'⟩, h1, rfl⟩ := h
      exact ⟨(gAppend_keep h1).1, (gAppend_keep h1).2, rfl⟩
    · cases h
  case appendS =>
    split at h
    · simp only [Option.map_eq_some_iff] at h
      obtain ⟨⟨v, H'⟩, h1, rfl⟩ := h
      exact ⟨(gAppend_keep h1).1, (gAppend_keep h1).2, rfl⟩
    · cases h
  case call =>
    split at h
    · simp only [Option.map_eq_some_iff] at h
      obtain ⟨⟨v, H'⟩, h1, rfl⟩ := h
      exact ⟨(hk _ _ _ _ _ h1).1, (hk _ _ _ _ _ h1).2, rfl⟩
    · cases h
  case callP =>
    split at h
    · simp only [Option.map_eq_some_iff] at h
      obtain ⟨⟨v, H'⟩, h1, rfl⟩ := h
      exact ⟨rfl, rfl, rfl⟩
    · cases h
  case callv =>
    split at h
    · split at h
      · simp only [Option.map_eq_some_iff] at h
        obtain ⟨⟨v, H'⟩, h1, rfl⟩ := h
        exact ⟨(hk _ _ _ _ _ h1).1, (hk _ _ _ _ _ h1).2, rfl⟩
      · cases h
    · cases h
  case store =>
    split at h
    · split at h
      · split at h
        · simp only [Option.bind_eq_some_iff, Option.map_eq_some_iff] at h
          obtain ⟨_, _, _, _, rfl⟩ := h
          exact ⟨rfl, rfl, rfl⟩
        · split at h
          · split at h
            · simp only [Option.map_eq_some_iff] at h
              obtain ⟨_, _, rfl⟩ := h
              exact ⟨rfl, rfl, rfl⟩
            · cases h
          · split at h
            · simp only [Option.map_eq_some_iff] at h
              obtain ⟨_, _, rfl⟩ := h
              exact ⟨rfl, rfl, rfl⟩
            · cases h
          · cases h
        · cases h
      · cases h
    · cases h
  case next =>
    split at h
    · split at h
      · split at h
        · split at h <;> (injection h with h; subst h; exact ⟨rfl, rfl, rfl⟩)
        · cases h
      · cases h
    · cases h
  case allocL => split at h <;> first | (injection h with h; subst h; exact ⟨rfl, rfl, rfl⟩) | cases h
  case allocH => split at h <;> first | (injection h with h; subst h; exact ⟨rfl, rfl, rfl⟩) | cases h
  case range => split at h <;> first | (injection h with h; subst h; exact ⟨rfl, rfl, rfl⟩) | cases h
  case allocK => split at h <;> first | (injection h with h; subst h; exact ⟨rfl, rfl, rfl⟩) | cases h
  case rangeK => split at h <;> first | (injection h with h; subst h; exact ⟨rfl, rfl, rfl⟩) | cases h
  case boxK => (split at h <;> try split at h) <;> first | (injection h with h; subst h; exact ⟨rfl, rfl, rfl⟩) | cases h
  case buildR => split at h <;> first | (injection h with h; subst h; exact ⟨rfl, rfl, rfl⟩) | cases h
  case buildSl => split at h <;> first | (injection h with h; subst h; exact ⟨rfl, rfl, rfl⟩) | cases h
  case boxL => (split at h <;> try split at h) <;> first | (injection h with h; subst h; exact ⟨rfl, rfl, rfl⟩) | cases h
  case boxH => (split at h <;> try split at h) <;> first | (injection h with h; subst h; exact ⟨rfl, rfl, rfl⟩) | cases h
  case s2b => (split at h <;> try split at h) <;> first | (injection h with h; subst h; exact ⟨rfl, rfl, rfl⟩) | cases h
  case load =>
    split at h
    · simp only [Option.map_eq_some_iff] at h
      obtain ⟨_, _, rfl⟩ := h
      exact ⟨rfl, rfl, rfl⟩
    · cases h
  all_goals
    simp only [Option.map_eq_some_iff] at h
    obtain ⟨_, _, rfl⟩ := h
    exact ⟨rfl, rfl, rfl⟩
def Eff.onB (f : Eff) (B : Nat) (d : Option Nat) (s : St) : St := { f with gen := B }.on d s
theorem Sim.step {s : St} (hs : Sim ro K0 H0 nt s a w K lam) (hρ : ∀ b, K0.ρ b → b < K0.w.heap.size) {f : Eff} {B : Nat} (hb : f.H.bo = s.H.bo ∧ f.H.bt = s.H.bt) {gk : Nat} (hst : StepOk P ro K lam nt s.e a o s.H f B gk) (hd : ∀ d, o.dst = some d → d < nt)
    {next : Act → World → Prop} {Q : Exit → Act → World → Prop} (hn : ∀ a' w' K' lam', Sim ro K0 H0 nt (f.onB B o.dst s) a' w' K' lam' → (∀ n, n ≠ gk → lam' n = lam n) → next a' w') : o.wp P a w next Q := by
  obtain ⟨K', lam', rv, hrun, hr', hx, hl1, hl2, hl3, hfr⟩ := hst
  have sim : Sim ro K0 H0 nt (f.onB B o.dst s) (a.put o.dst rv) K'.w K' lam' := by
    refine ⟨rfl, hr', hfr o.dst hd, hs.ext.trans (by rw [← hs.bo, ← hs.bt]; exact hx) (fun b h1 h2 => ?_), fun n b h => ?_, hb.1.trans hs.bo, hb.2.trans hs.bt⟩
    · obtain ⟨n, hn⟩ := h2
      exact absurd (hs.new n b hn) (Nat.not_le.2 (hρ b h1))
    · rcases hl2 n b h with h | h
      · exact hs.new n b h
      · exact Nat.le_trans hs.ext.size h
  have hw := hs.w
  subst hw
  rcases hrun with hrun | ⟨hrun, rfl⟩
  · rw [Oper.wp, hrun]; exact hn _ _ _ _ sim hl3
  · rw [Oper.wp, hrun]; exact hn _ _ _ _ sim hl3
theorem callOp_eq {f : FuncId} {c : Call} (ho : o.op = .call c) (hc : c.callee = .value (.func f)) (ρ : Operand → Value) (hρ : ρ (.func f) = .func (.func f) #[] #[]) : execOp ρ o = callFunc f (c.args.map ρ) := by
  simp [execOp, ho, resolve, hc, hρ, Deferred.ofValue, invoke]
theorem callvOp_eq {c : Call} {x : Operand} (ho : o.op = .call c) (hc : c.callee = .value x) (ρ : Operand → Value) {f : FuncId} {us vs : Array Value} (hρ : ρ x = .func (.func f) us vs) : execOp ρ o = callFunc f (us ++ c.args.map ρ ++ vs) := by
  simp [execOp, ho, resolve, hc, hρ, Deferred.ofValue, invoke]
theorem CR.append {K : Ctx} {xs ys : List GV} {us vs : Array Value} (h : CR K xs us) (h' : CR K ys vs) : CR K (xs ++ ys) (us ++ vs) := by
  refine ⟨by simp [h.1, h'.1], fun i c v hc hv => ?_⟩
  by_cases hi : i < xs.length
  · rw [List.getElem?_append_left hi] at hc
    rw [Array.getElem?_append_left (by rw [← h.1]; exact hi)] at hv
    exact h.2 i c v hc hv
  · rw [List.getElem?_append_right (by omega)] at hc
    rw [Array.getElem?_append_right (by rw [← h.1]; omega), ← h.1] at hv
    exact h'.2 _ c v hc hv
theorem srcs_CR (hr : HR ro K H) (fr : FR K lam nt e a) {xs : Array Operand} {l : List Src} (hs : cSrcs ro xs.toList = some l) (hok : oks (l.map (evalS e)) = true) : CR K (l.map (evalS e)) (xs.map a.eval) := by
  obtain ⟨h1, h2⟩ := cSrcs_all hr fr hs
  refine ⟨by simpa using h1, fun i c v hc hv => ?_⟩
  simp only [Array.getElem?_map, Option.map_eq_some_iff] at hv
  obtain ⟨z, hz, rfl⟩ := hv
  exact (h2 i c z hc (by simpa using hz)).1.vr (oks_get hok hc)
theorem Sim.called {s : St} (hs : Sim ro K0 H0 nt s a w K lam) {f : FuncId} {us : Array Value} {v : GV} {H' : GH} {B n' : Nat} (hB : s.e.gen ≤ B) (hb : H'.bo = s.H.bo ∧ H'.bt = s.H.bt) (hto : FuncTo P ro K s.H f us v H') (hrun : execOp a.eval o = callFunc f us) (hd : ∀ d, o.dst = some d → d < nt)
    {next : Act → World → Prop} {Q : Exit → Act → World → Prop} (hn : ∀ a' w' K', Sim ro K0 H0 nt (Eff.onB ⟨v, none, H', n'⟩ B o.dst s) a' w' K' lam → next a' w') : o.wp P a w next Q := by
  have hw := hs.w
  subst hw
  rw [Oper.wp, hrun]
  refine hto o a next Q (fun rv K' hr' hv hx => hn _ _ K' ⟨rfl, hr', ?_, hs.ext.trans (by rw [← hs.bo, ← hs.bt]; exact hx) (fun _ _ (h : False) => h.elim), hs.new, hb.1.trans hs.bo, hb.2.trans hs.bt⟩)
  exact hs.fr.step (f := ⟨v, none, H', n'⟩) (m := none) (B := B) hx (fun _ _ h => h) (fun n b h => (hx.loc b (hs.fr.lamρ n b h)).1) hs.fr.linj (fun n hn => hs.fr.gen n (by omega)) (fun n b h _ => (hx.loc b (hs.fr.lamρ n b h)).2 (fun h => h.elim)) hd (SR.of hv)
    (fun n hn => absurd hn (notbox_of_ok hv.ok n)) (fun n h => by cases h) (fun s g h => by cases h)
theorem cCall_builtin {rowA : Bool} {c : Call} {p : Prim} {srcs : List Src} (h : ∀ x, c.callee ≠ .value x) (hc : cCall P ro rowA c = some (p, srcs)) : p.isCall = false := by
  unfold cCall at hc
  repeat' split at hc
  all_goals first
    | (cases hc; done)
    | exact absurd ‹c.callee = _› (h _)
    | (simp only [Option.map_eq_some_iff, Prod.mk.injEq] at hc
       obtain ⟨_, _, rfl, _⟩ := hc
       rfl)
    | (simp only [Option.some.injEq, Prod.mk.injEq] at hc
       obtain ⟨rfl, _⟩ := hc
       rfl)
theorem op_core {call : Nat → List GV → GH → Option (GV × GH)} (hcall : CallSound P ro call) (hk : CallKeep call) {s : St} (hs : Sim ro K0 H0 nt s a w K lam) (hρ : ∀ b, K0.ρ b → b < K0.w.heap.size) {p : Prim} {srcs : List Src} {B g : Nat} (hB : s.e.gen ≤ B) (hg : lam g = none)
    (hgB : p.isBox = true → g < B) (hc : cOp P ro hp o = some (p, srcs)) (hd : ∀ d, o.dst = some d → d < nt) {f : Eff} (hf : geff call p (srcs.map (evalS s.e)) ⟨s.e.s, g⟩ s.H = some f) {next : Act → World → Prop} {Q : Exit → Act → World → Prop}
    (hn : ∀ a' w' K' lam', Sim ro K0 H0 nt (f.onB B o.dst s) a' w' K' lam' → (∀ n, n ≠ g → lam' n = lam n) → next a' w') : o.wp P a w next Q := by
  have plain : (∀ c, o.op = .call c → p.isCall = false) → o.wp P a w next Q := by
    intro hnc
    obtain ⟨k1, k2, k3⟩ := geff_keep hk hf
    exact hs.step hρ ⟨k1, k2⟩ (cOp_sound hcall.1 (call := call) hs.hr hs.fr (B := B) hB (g := g) hg hgB hc hnc hf) hd hn
  cases ho : o.op
  case call c =>
    have hc' := hc
    simp only [cOp, ho] at hc'
    unfold cCall at hc'
    split at hc'
    · rename_i fn hcl
      simp only [Option.map_eq_some_iff, Prod.mk.injEq] at hc'
      obtain ⟨l, hl, rfl, rfl⟩ := hc'
      simp only [geff] at hf
      split at hf
      · rename_i hok
        simp only [Option.map_eq_some_iff] at hf
        obtain ⟨⟨v, H'⟩, hv, rfl⟩ := hf
        exact hs.called hB (hk _ _ _ _ _ hv) (hcall.2 _ _ _ _ _ hv hok K _ hs.hr (srcs_CR hs.hr hs.fr hl hok)) (callOp_eq ho hcl a.eval rfl) hd (fun a' w' K' h => hn a' w' K' lam h fun _ _ => rfl)
      · cases hf
    · rename_i x _ hcl
      simp only [Option.map_eq_some_iff, Prod.mk.injEq] at hc'
      obtain ⟨l, hl, rfl, rfl⟩ := hc'
      obtain ⟨s1, l1, h1, h2, rfl⟩ := cSrcs_cons hl
      simp only [geff] at hf
      split at hf
      · rename_i fn first captured rest he
        simp only [List.map_cons, List.cons.injEq] at he
        obtain ⟨he, rfl⟩ := he
        split at hf
        · rename_i hok
          simp only [Option.map_eq_some_iff] at hf
          obtain ⟨⟨v, H'⟩, hv, rfl⟩ := hf
          have q1 := (cSrc_sound hs.hr hs.fr h1).1
          rw [he] at q1
          cases hq : a.eval x <;> rw [hq] at q1 <;> try (cases q1; done)
          rename_i fv us vs
          cases q1 with
          | func hx hy g1 g2 =>
          have hall : oks (first ++ l1.map (evalS s.e) ++ captured) = true := by
            have o1 : oks first = true := by
              simp only [oks, List.all_eq_true]
              intro z hz
              obtain ⟨i, hi, e⟩ := List.mem_iff_getElem.1 hz
              exact (g1 i z us[i] (by rw [List.getElem?_eq_getElem hi, e]) (by rw [Array.getElem?_eq_getElem])).ok
            have o2 : oks captured = true := by
              simp only [oks, List.all_eq_true]
              intro z hz
              obtain ⟨i, hi, e⟩ := List.mem_iff_getElem.1 hz
              exact (g2 i z vs[i] (by rw [List.getElem?_eq_getElem hi, e]) (by rw [Array.getElem?_eq_getElem])).ok
            simp only [oks, List.all_append, Bool.and_eq_true] at *
            exact ⟨⟨o1, hok⟩, o2⟩
          exact hs.called hB (hk _ _ _ _ _ hv) (hcall.2 _ _ _ _ _ hv hall K _ hs.hr ((CR.append ⟨hx, g1⟩ (srcs_CR hs.hr hs.fr h2 hok)).append ⟨hy, g2⟩)) (callvOp_eq ho hcl a.eval hq) hd (fun a' w' K' h => hn a' w' K' lam h fun _ _ => rfl)
        · cases hf
      · cases hf
    case h_9 => cases hc'
    all_goals
      rename_i hcl
      exact plain fun c' hc' => by
        rw [ho] at hc'
        injection hc' with hc'
        subst hc'
        simp only [cOp, ho] at hc
        exact cCall_builtin (fun x h => by rw [hcl] at h; cases h) hc
  all_goals exact plain fun c hc => by rw [ho] at hc; cases hc
theorem op_sim {call : Nat → List GV → GH → Option (GV × GH)} (hcall : CallSound P ro call) (hk : CallKeep call) {s : St} (hs : SimS ro K0 H0 nt s a w) (hρ : ∀ b, K0.ρ b → b < K0.w.heap.size) {p : Prim} {srcs : List Src} (hc : cOp P ro hp o = some (p, srcs))
    (hd : ∀ d, o.dst = some d → d < nt) {f : Eff} (hf : geff call p (srcs.map (evalS s.e)) s.e s.H = some f) {next : Act → World → Prop} {Q : Exit → Act → World → Prop}
    (hn : ∀ a' w', SimS ro K0 H0 nt (f.on o.dst s) a' w' → next a' w') : o.wp P a w next Q := by
  obtain ⟨K, lam, hs⟩ := hs
  obtain ⟨k1, k2, k3⟩ := geff_keep hk hf
  refine op_core hcall hk hs hρ (B := f.gen) (g := s.e.gen) ?_ (hs.fr.gen _ (Nat.le_refl _)) (fun h => ?_) hc hd hf (fun a' w' K' lam' h _ => hn a' w' ⟨K', lam', h⟩)
  · rw [k3]; split <;> omega
  · rw [k3, h]; simp
end
end Go.Sh
namespace Go.Sh
variable [Facts]
section
variable {P : Program} {ro : Nat} {hp : List Nat} {K0 : Ctx} {H0 : GH} {nt : Nat} {a : Act} {o : Oper} {w : World} {ops : Array Oper}
theorem cIOp_get {l : List Oper} {io : IOp} (h : cIOp P ro hp nt l o = some io) :
    ∃ p srcs, io.ak = none ∧ cOpT P ro hp o = (p, srcs) ∧ io.prim = p ∧ io.args = srcs ∧ io.dst = o.dst ∧ (∀ d, o.dst = some d → d < nt) ∧
      ((o.guard = none ∧ io.guard = none) ∨ ∃ j want d, o.guard = some (j, want) ∧ (l[j]?).bind (·.dst) = some d ∧ d < nt ∧ io.guard = some (d, want)) := by
  rcases hp' : cOpT P ro hp o with ⟨p, srcs⟩
  have fin : (∀ d, o.dst = some d → d < nt) → (match o.guard with
      | none => some (⟨o.dst, none, p, srcs, none⟩ : IOp)
      | some (j, want) => match (l[j]?).bind (·.dst) with
        | some d => if d < nt then some ⟨o.dst, some (d, want), p, srcs, none⟩ else none
        | none => none) = some io → ∃ p' srcs', io.ak = none ∧ (p, srcs) = (p', srcs') ∧ io.prim = p' ∧ io.args = srcs' ∧ io.dst = o.dst ∧ (∀ d, o.dst = some d → d < nt) ∧
      ((o.guard = none ∧ io.guard = none) ∨ ∃ j want d, o.guard = some (j, want) ∧ (l[j]?).bind (·.dst) = some d ∧ d < nt ∧ io.guard = some (d, want)) := by
    intro hd' h
    split at h
    · rename_i hg
      injection h with h
      subst h
      exact ⟨p, srcs, rfl, rfl, rfl, rfl, rfl, hd', .inl ⟨hg, rfl⟩⟩
    · rename_i j want hg
      split at h
      · rename_i d hj
        split at h
        · rename_i hdn
          injection h with h
          subst h
          exact ⟨p, srcs, rfl, rfl, rfl, rfl, rfl, hd', .inr ⟨j, want, d, hg, hj, hdn, rfl⟩⟩
        · cases h
      · cases h
  cases hdst : o.dst with
  | none =>
    simp only [cIOp, hp', hdst, if_true] at h
    have hd' : ∀ d, o.dst = some d → d < nt := fun d h => by rw [hdst] at h; cases h
    rw [hdst] at fin
    exact fin (fun d h => by cases h) h
  | some d =>
    simp only [cIOp, hp', hdst, decide_eq_true_eq] at h
    by_cases hd : d < nt
    · rw [if_pos hd] at h
      rw [hdst] at fin
      exact fin (fun d' h => by injection h with h; exact h ▸ hd) h
    · rw [if_neg hd] at h; cases h
theorem skip_core {s : St} {K : Ctx} {lam : Nat → Option Nat} (hs : Sim ro K0 H0 nt s a w K lam) (hd : ∀ d, o.dst = some d → d < nt) : Sim ro K0 H0 nt { s with e := s.e.put o.dst (.tup []) } (a.put o.dst undef) w K lam := by
  refine ⟨hs.w, hs.hr, ?_, hs.ext, hs.new, hs.bo, hs.bt⟩
  have := hs.fr.step (f := ⟨.tup [], none, s.H, s.e.gen⟩) (m := none) (B := s.e.gen) (rv := undef) (dst := o.dst) (Ext.refl (fun _ => False) 0 0 K) (fun _ _ h => h) (fun n b h => hs.fr.lamρ n b h) hs.fr.linj (fun n hn => hs.fr.gen n hn) (fun n b h _ => rfl) hd (SR.of (.tup rfl (fun i c v h => by cases h)))
    (fun n hn => hn.elim) (fun n h => by cases h) (fun s g h => by cases h)
  cases ho : o.dst <;> rw [ho] at this <;> exact this
theorem skip_sim {s : St} (hs : SimS ro K0 H0 nt s a w) (hd : ∀ d, o.dst = some d → d < nt) : SimS ro K0 H0 nt { s with e := s.e.put o.dst (.tup []) } (a.put o.dst undef) w := by
  obtain ⟨K, lam, hs⟩ := hs
  exact ⟨K, lam, skip_core hs hd⟩
theorem wanted_sim {s : St} (hs : SimS ro K0 H0 nt s a w) {g : Option (Nat × Bool)} {b : Bool} (hg : (o.guard = none ∧ g = none) ∨ ∃ j want d, o.guard = some (j, want) ∧ (ops.toList[j]?).bind (·.dst) = some d ∧ d < nt ∧ g = some (d, want))
    (h : gWanted s.e g = some b) : Region.wanted o (yielded ops a.tmps) = b := by
  obtain ⟨K, lam, hs⟩ := hs
  rcases hg with ⟨h1, rfl⟩ | ⟨j, want, d, h1, h2, h3, rfl⟩
  · simp only [gWanted, Option.some.injEq] at h
    simp [Region.wanted, h1, h]
  · simp only [gWanted] at h
    split at h
    · rename_i c hc
      have hsr := hs.fr.slot d
      rw [hc] at hsr
      have hq : a.tmps[d]? = some (.bool c) := by
        have hsz : d < a.tmps.size := by rw [hs.fr.size]; exact h3
        rw [Array.getElem?_eq_getElem hsz]
        have : a.tmps.getD d undef = a.tmps[d] := by simp [hsz]
        rw [← this]
        cases hv : a.tmps.getD d undef <;> rw [hv] at hsr <;> cases hsr
        rfl
      simp only [Array.getElem?_toList] at h2
      injection h with h
      subst h
      simp only [Region.wanted, h1, yielded, h2, Option.bind_some, hq]
      cases c <;> cases want <;> rfl
    · rename_i hc
      have hsr := hs.fr.slot d
      rw [hc] at hsr
      have hq : a.tmps[d]? = some (.tuple #[]) := by
        have hsz : d < a.tmps.size := by rw [hs.fr.size]; exact h3
        rw [Array.getElem?_eq_getElem hsz]
        have : a.tmps.getD d undef = a.tmps[d] := by simp [hsz]
        rw [← this]
        cases hv : a.tmps.getD d undef <;> rw [hv] at hsr <;> cases hsr
        rename_i vs hl _
        have : vs = #[] := by simpa using hl.symm
        rw [this]
      simp only [Array.getElem?_toList] at h2
      injection h with h
      subst h
      simp only [Region.wanted, h1, yielded, h2, Option.bind_some, hq]
      cases want <;> rfl
    · cases h
theorem cOpT_get {p : Prim} {srcs : List Src} (h : cOpT P ro hp o = (p, srcs)) : cOp P ro hp o = some (p, srcs) ∨ p = .trap := by
  unfold cOpT at h
  cases hc : cOp P ro hp o with
  | none => rw [hc] at h; simp only [Option.getD_none, Prod.mk.injEq] at h; exact .inr h.1.symm
  | some q => rw [hc] at h; simp only [Option.getD_some] at h; exact .inl (by rw [h])
theorem gop_sim {call : Nat → List GV → GH → Option (GV × GH)} (hcall : CallSound P ro call) (hk : CallKeep call) {s s' : St} {io : IOp} (hs : SimS ro K0 H0 nt s a w) (hρ : ∀ b, K0.ρ b → b < K0.w.heap.size)
    (hc : cIOp P ro hp nt ops.toList o = some io) (hg : gop call io s = some s') {next : Act → World → Prop} {Q : Exit → Act → World → Prop} (hn : ∀ a' w', SimS ro K0 H0 nt s' a' w' → next a' w') :
    if Region.wanted o (yielded ops a.tmps) then o.wp P a w next Q ∨ (o.asks P a w ∧ LetsOut Q) else next (a.put o.dst undef) w := by
  obtain ⟨p, srcs, _, h1, h2, h3, h4, h5, h6⟩ := cIOp_get hc
  unfold gop at hg
  split at hg
  · cases hg
  · rename_i hw
    rw [wanted_sim hs h6 hw]
    injection hg with hg
    subst hg
    rw [h4] at hn
    exact hn _ _ (skip_sim hs h5)
  · rename_i hw
    rw [wanted_sim hs h6 hw]
    split at hg
    case isFalse => cases hg
    simp only [Option.map_eq_some_iff] at hg
    obtain ⟨f, hf, rfl⟩ := hg
    rw [h2, h3] at hf
    rw [h4] at hn
    rcases cOpT_get h1 with hc' | rfl
    · exact .inl (op_sim hcall hk hs hρ hc' h5 hf hn)
    · simp [geff, gPure] at hf
theorem gops_sim {call : Nat → List GV → GH → Option (GV × GH)} (hcall : CallSound P ro call) (hk : CallKeep call) (hρ : ∀ b, K0.ρ b → b < K0.w.heap.size) {s' : St} {Q : Exit → Act → World → Prop} (hn : ∀ a' w', SimS ro K0 H0 nt s' a' w' → Q .normal a' w') :
    ∀ (l : List Oper) (k : Nat) (ios : List IOp) (s : St) (a : Act) (w : World), (∀ j o, l[j]? = some o → ops[k + j]? = some o) → l.mapM (cIOp P ro hp nt ops.toList) = some ios →
      gops call ios s = some s' → SimS ro K0 H0 nt s a w → wpOps P ops Q (List.range' k l.length) a w := by
  intro l
  induction l with
  | nil =>
    intro k ios s a w _ hm hg hs
    simp only [List.mapM_nil, Option.pure_def, Option.some.injEq] at hm
    subst hm
    simp only [gops, Option.some.injEq] at hg
    subst hg
    exact hn _ _ hs
  | cons o l ih =>
    intro k ios s a w hl hm hg hs
    simp only [List.mapM_cons, Option.bind_eq_bind, Option.bind_eq_some_iff, Option.pure_def, Option.some.injEq] at hm
    obtain ⟨io, h1, ios', h2, rfl⟩ := hm
    simp only [gops, Option.bind_eq_some_iff] at hg
    obtain ⟨s1, h3, h4⟩ := hg
    have h5 : ops[k]? = some o := hl 0 o rfl
    simp only [List.length_cons, List.range'_succ, wpOps, h5]
    exact gop_sim hcall hk hs hρ h1 h3 (fun a' w' hs' => ih (k + 1) ios' s1 a' w' (fun j o' hj => by have := hl (j + 1) o' hj; rwa [show k + (j + 1) = k + 1 + j by omega] at this) h2 h4 hs')
theorem region_sim {call : Nat → List GV → GH → Option (GV × GH)} (hcall : CallSound P ro call) (hk : CallKeep call) (hρ : ∀ b, K0.ρ b → b < K0.w.heap.size) {s s' : St} {Q : Exit → Act → World → Prop} (hn : ∀ a' w', SimS ro K0 H0 nt s' a' w' → Q .normal a' w')
    {ios : List IOp} (hm : cOps P ro hp nt ops.toList = some ios) (hg : gops call ios s = some s') (hs : SimS ro K0 H0 nt s a w) {id : Nat} : (Code.region id ops false).wp P Q a w := by
  refine wp_region ?_
  rw [List.range_eq_range']
  have := gops_sim hcall hk hρ hn ops.toList 0 ios s a w (fun j o h => by simpa using h) hm hg hs
  simpa using this
def resRead (a : Act) (r : ResultVar) : Sem Value :=
  match r with
  | .tmp t => pure (a.tmps.getD t undef)
  | .cell x t => do loadVar t (← asAddr (a.tmps.getD x undef))
theorem gRes_sound {s : St} {K : Ctx} {lam : Nat → Option Nat} (hr : HR ro K s.H) (fr : FR K lam nt s.e a) {r : ResultVar} {ir : IRes} {v : GV} (hc : cRes P r = some ir) (hg : gRes s ir = some v) :
    ∃ rv, (resRead a r).run P K.w = .ok rv K.w ∧ VR K v rv := by
  cases r with
  | tmp t =>
    simp only [cRes, Option.some.injEq] at hc
    subst hc
    simp only [gRes] at hg
    split at hg
    · rename_i hok
      injection hg with hg
      subst hg
      exact ⟨_, rfl, (fr.slot t).vr hok⟩
    · cases hg
  | cell x t =>
    simp only [cRes] at hc
    split at hc
    · rename_i n ag hn ha
      injection hc with hc
      subst hc
      simp only [gRes] at hg
      obtain ⟨q1, _⟩ := cSrc_sound hr fr (ro := ro) (x := .tmp x) (s := .slot x) rfl
      obtain ⟨b, oo, v', h1, h2, h3⟩ := gLoad_sound (P := P) hr fr hg ha hn q1
      refine ⟨v', ?_, h3⟩
      have h1' : a.tmps.getD x undef = .pointer (some ⟨b, oo, none⟩) := h1
      simp only [resRead, h1', asAddr, Sem.run_bind, Sem.run_pure, Result.andThen_ok, h2]
    · cases hc
theorem results_sound {s : St} {K : Ctx} {lam : Nat → Option Nat} (hr : HR ro K s.H) (fr : FR K lam nt s.e a) {fn : Func} {rs : List IRes} {v : GV} (hc : fn.results.toList.mapM (cRes P) = some rs) (hg : gResults s rs = some v) :
    ∃ rv, (results fn a.tmps).run P K.w = .ok rv K.w ∧ VR K v rv := by
  have key : ∀ (l : List ResultVar) (rs : List IRes) (vs : List GV), l.mapM (cRes P) = some rs → rs.mapM (gRes s) = some vs →
      ∃ rvs : List Value, (l.mapM (resRead a)).run P K.w = .ok rvs K.w ∧ vs.length = rvs.length ∧
        ∀ (i : Nat) c u, vs[i]? = some c → rvs[i]? = some u → VR K c u := by
    intro l
    induction l with
    | nil =>
      intro rs vs h1 h2
      simp only [List.mapM_nil, Option.pure_def, Option.some.injEq] at h1
      subst h1
      simp only [List.mapM_nil, Option.pure_def, Option.some.injEq] at h2
      subst h2
      exact ⟨[], rfl, rfl, fun i c u h => by simp at h⟩
    | cons r l ih =>
      intro rs vs h1 h2
      simp only [List.mapM_cons, Option.bind_eq_bind, Option.bind_eq_some_iff, Option.pure_def, Option.some.injEq] at h1
      obtain ⟨ir, h3, rs', h4, rfl⟩ := h1
      simp only [List.mapM_cons, Option.bind_eq_bind, Option.bind_eq_some_iff, Option.pure_def, Option.some.injEq] at h2
      obtain ⟨v, h5, vs', h6, rfl⟩ := h2
      obtain ⟨rv, h7, h8⟩ := gRes_sound hr fr h3 h5
      obtain ⟨rvs, h9, h10, h11⟩ := ih rs' vs' h4 h6
      refine ⟨rv :: rvs, ?_, by simp [h10], fun i c u hc hu => ?_⟩
      · simp only [List.mapM_cons, Sem.run_bind]
        rw [h7]
        simp only [Result.andThen_ok, h9, Sem.run_pure]
      · cases i with
        | zero => simp at hc hu; subst hc; subst hu; exact h8
        | succ i => exact h11 i c u (by simpa using hc) (by simpa using hu)
  unfold gResults at hg
  simp only [Option.map_eq_some_iff] at hg
  obtain ⟨vs, h1, h2⟩ := hg
  obtain ⟨rvs, h3, h4, h5⟩ := key _ _ _ hc h1
  have hrun : (fn.results.mapM (resRead a)).run P K.w = .ok rvs.toArray K.w := by
    rw [Array.mapM_eq_mapM_toList, map_eq_pure_bind, Sem.run_bind, h3]
    rfl
  have hres : (results fn a.tmps).run P K.w = .ok (if h : rvs.toArray.size = 1 then rvs.toArray[0] else .tuple rvs.toArray) K.w := by
    have hq : (results fn a.tmps).run P K.w = ((fn.results.mapM (resRead a)).run P K.w).andThen fun vs w => (pure (if h : vs.size = 1 then vs[0] else .tuple vs) : Sem Value).run P w := by
      unfold results
      rw [Sem.run_bind]
      rfl
    rw [hq, hrun]
    rfl
  refine ⟨_, hres, ?_⟩
  by_cases hv : vs.length = 1
  · obtain ⟨v1, rfl⟩ := List.length_eq_one_iff.1 hv
    obtain ⟨u1, rfl⟩ := List.length_eq_one_iff.1 (h4.symm.trans hv)
    simp only at h2
    subst h2
    simpa using h5 0 v1 u1 rfl rfl
  · have hv' : v = .tup vs := by
      match vs, hv, h2 with
      | [], _, h2 => exact h2.symm
      | [_], hv, _ => exact absurd rfl hv
      | _ :: _ :: _, _, h2 => exact h2.symm
    subst hv'
    rw [dif_neg (by simpa [← h4] using hv)]
    exact .tup (by simpa using h4) (fun i c u hc hu => h5 i c u hc (by simpa using hu))
end
end Go.Sh
namespace Go.Sh
variable [Facts]
section
variable {P : Program} {ro : Nat} {hp : List Nat} {K0 : Ctx} {H0 : GH} {nt : Nat}
theorem withAk_get (all : List Oper) : ∀ (ops : List Oper) (ios : List IOp), ios.length = ops.length → (withAk P hp all ops ios).length = ops.length ∧ ∀ (i : Nat) o io, ops[i]? = some o → ios[i]? = some io → (withAk P hp all ops ios)[i]? = some { io with ak := cAk P hp all o, prim := mild hp io.prim }
  | [], [], _ => ⟨rfl, fun i o io h => by simp at h⟩
  | [], _ :: _, h => by simp at h
  | _ :: _, [], h => by simp at h
  | o :: ops, io :: ios, h => by
    obtain ⟨h1, h2⟩ := withAk_get all ops ios (by simpa using h)
    refine ⟨by simp [withAk, h1], fun i o' io' ho hio => ?_⟩
    cases i with
    | zero => simp at ho hio; subst ho; subst hio; simp [withAk]
    | succ i => simp at ho hio; simpa [withAk] using h2 i o' io' ho hio
def PureCalls (hp : List Nat) (call : Nat → List GV → GH → Option (GV × GH)) : Prop := ∀ f, hp.contains (f + 2097152) = true → ∀ args H v H', call f args H = some (v, H') → H' = H
theorem geff_mild {call : Nat → List GV → GH → Option (GV × GH)} (hpc : PureCalls hp call) {p : Prim} {args : List GV} {e : Env} {H : GH} {f : Eff} (h : geff call (mild hp p) args e H = some f) : geff call p args e H = some f := by
  cases p
  case call g =>
    simp only [mild] at h
    split at h
    · rename_i hg
      simp only [geff] at h ⊢
      split at h
      · rename_i hok
        rw [if_pos hok]
        simp only [Option.map_eq_some_iff] at h ⊢
        obtain ⟨⟨v, H'⟩, h1, rfl⟩ := h
        have := hpc g hg _ _ _ _ h1
        subst this
        exact ⟨_, h1, rfl⟩
      · cases h
    · exact h
  all_goals exact h
def Prim.isK : Prim → Bool
  | .allocK _ _ | .boxK _ | .rangeK _ => true
  | _ => false
theorem geff_any {call : Nat → List GV → GH → Option (GV × GH)} {p : Prim} (hb : p.isBox = false) (hk : p.isK = false) {args : List GV} {l : List GV} (g g' : Nat) {H : GH} {f : Eff} (h : geff call p args ⟨l, g⟩ H = some f) : geff call p args ⟨l, g'⟩ H = some { f with gen := g' } ∧ f.gen = g := by
  have dr : ∀ sl n, deref ⟨l, g⟩ sl n = deref ⟨l, g'⟩ sl n := fun _ _ => rfl
  have ld : ∀ sz ag v, gLoad ⟨l, g⟩ H sz ag v = gLoad ⟨l, g'⟩ H sz ag v := fun sz ag v => by cases v <;> rfl
  cases p <;> simp only [Prim.isBox, Prim.isK, Bool.true_eq_false] at hb hk <;> simp only [geff] at h ⊢
  case load =>
    split at h
    · simp only [Option.map_eq_some_iff] at h ⊢
      obtain ⟨v, hv, rfl⟩ := h
      exact ⟨⟨v, by rw [← ld]; exact hv, rfl⟩, rfl⟩
    · cases h
  case store =>
    split at h
    · split at h
      · rename_i hc
        rw [if_pos hc]
        split at h
        · simp only [Option.bind_eq_some_iff, Option.map_eq_some_iff] at h ⊢
          obtain ⟨v, hv, u, hu, rfl⟩ := h
          exact ⟨⟨v, by rw [← dr]; exact hv, u, hu, rfl⟩, rfl⟩
        · split at h
          · split at h
            · rename_i hbo
              simp only [Option.map_eq_some_iff] at h
              obtain ⟨v, hv, rfl⟩ := h
              simp [*]
            · cases h
          · split at h
            · rename_i hbo
              simp only [Option.map_eq_some_iff] at h
              obtain ⟨v, hv, rfl⟩ := h
              simp [*]
            · cases h
          · cases h
        · cases h
      · cases h
    · cases h
  case next =>
    split at h
    · split at h
      · split at h
        · rename_i hc
          split at h
          · rename_i hp
            injection h with h; subst h
            simp [*]
          · rename_i hp
            injection h with h; subst h
            simp [*]
        · cases h
      · cases h
    · cases h
  all_goals
    first
      | (simp only [Option.map_eq_some_iff] at h ⊢
         obtain ⟨v, hv, rfl⟩ := h
         exact ⟨⟨v, hv, rfl⟩, rfl⟩)
      | (repeat' split at h
         all_goals first
           | (cases h; done)
           | (injection h with h; subst h; first | exact ⟨rfl, rfl⟩ | simp [*])
           | (simp only [Option.map_eq_some_iff] at h
              obtain ⟨v, hv, rfl⟩ := h
              first
                | (simp [*]; done)
                | (rename_i hok
                   rw [if_pos hok, hv]
                   exact ⟨rfl, rfl⟩)))
theorem geff_rank {call : Nat → List GV → GH → Option (GV × GH)} {p : Prim} {args : List GV} {l : List GV} {g k : Nat} {H : GH} {f : Eff} (h : geff call (p.rank k) args ⟨l, g⟩ H = some f) : p.isK = false ∧ ∃ n', geff call p args ⟨l, g + k⟩ H = some { f with gen := n' } ∧ f.gen = g := by
  cases p
  case allocK => simp [Prim.rank, geff, gPure] at h
  case boxK => simp [Prim.rank, geff, gPure] at h
  case rangeK => simp [Prim.rank, geff, gPure] at h
  case allocL z =>
    simp only [Prim.rank, geff] at h ⊢
    split at h
    · injection h with h; subst h; exact ⟨rfl, _, rfl, rfl⟩
    · cases h
  case boxL =>
    simp only [Prim.rank, geff] at h ⊢
    split at h
    · split at h
      · rename_i hok
        injection h with h; subst h; rw [if_pos hok]; exact ⟨rfl, _, rfl, rfl⟩
      · cases h
    · cases h
  case range =>
    simp only [Prim.rank, geff] at h ⊢
    split at h
    · injection h with h; subst h; exact ⟨rfl, _, rfl, rfl⟩
    · cases h
  all_goals
    simp only [Prim.rank] at h
    have := geff_any rfl rfl g (g + k) h
    exact ⟨rfl, _, this.1, this.2⟩
theorem mild_rank (p : Prim) (k : Nat) : (mild hp p).rank k = mild hp (p.rank k) := by
  cases p <;> try rfl
  rename_i f
  by_cases h : hp.contains (f + 2097152) = true
  · simp only [mild, Prim.rank, if_pos h]
  · simp only [mild, Prim.rank, if_neg h]
theorem ranks_get : ∀ (l : List IOp) (k i : Nat) (io : IOp), l[i]? = some io → (ranks k l)[i]? = some { io with prim := io.prim.rank (k + i) }
  | [], _, _, _, h => by simp at h
  | x :: l, k, i, io, h => by
    cases i with
    | zero => simp at h; subst h; simp [ranks]
    | succ i =>
      simp at h
      have := ranks_get l (k + 1) i io h
      simp only [ranks, List.getElem?_cons_succ, this]
      rw [show k + 1 + i = k + (i + 1) by omega]
theorem ranks_len : ∀ (l : List IOp) (k : Nat), (ranks k l).length = l.length
  | [], _ => rfl
  | x :: l, k => by simp [ranks, ranks_len l (k + 1)]
def SimD (ro : Nat) (K0 : Ctx) (H0 : GH) (nt : Nat) (n : Nat) (fresh : Nat → Prop) (s : St) (a : Act) (w : World) : Prop :=
  ∃ K lam, Sim ro K0 H0 nt ⟨⟨s.e.s, s.e.gen + n⟩, s.H⟩ a w K lam ∧ ∀ k, k < n → fresh k → lam (s.e.gen + k) = none
theorem SimS.d {s : St} {a : Act} {w : World} (h : SimS ro K0 H0 nt s a w) (n : Nat) (fresh : Nat → Prop) : SimD ro K0 H0 nt n fresh s a w := by
  obtain ⟨K, lam, hs⟩ := h
  refine ⟨K, lam, ⟨hs.w, hs.hr, { hs.fr with gen := fun m hm => hs.fr.gen m (by simp only at hm; omega) }, hs.ext, hs.new, hs.bo, hs.bt⟩, fun k _ _ => hs.fr.gen _ (by omega)⟩
theorem gop_noak {call : Nat → List GV → GH → Option (GV × GH)} (hpc : PureCalls hp call) {io : IOp} {k : Option AK} {i : Nat} {s s' : St} (h : gop call { io with ak := k, prim := (mild hp io.prim).rank i } s = some s') :
    (gWanted s.e io.guard = some false ∧ s' = { s with e := s.e.put io.dst (.tup []) }) ∨
    (gWanted s.e io.guard = some true ∧ io.prim.isK = false ∧ ∃ f, geff call io.prim (io.args.map (evalS s.e)) ⟨s.e.s, s.e.gen + i⟩ s.H = some f ∧ s' = f.onB s.e.gen io.dst s) := by
  unfold gop at h
  simp only at h
  cases hg : gWanted s.e io.guard with
  | none => simp only [hg] at h; cases h
  | some b =>
    cases b with
    | false => simp only [hg] at h; injection h with h; exact .inl ⟨rfl, h.symm⟩
    | true =>
      simp only [hg] at h
      split at h
      · simp only [Option.map_eq_some_iff] at h
        obtain ⟨f, hf, rfl⟩ := h
        rw [mild_rank] at hf
        obtain ⟨h0, n', h1, h2⟩ := geff_rank (geff_mild hpc hf)
        refine .inr ⟨rfl, h0, _, h1, ?_⟩
        simp only [Eff.onB]
        rw [← h2]
      · cases h
theorem getD_setB (a : Array Bool) (i j : Nat) (hi : i < a.size) (d : Bool) : (a.setIfInBounds i true).getD j d = if j = i then true else a.getD j d := by
  by_cases h : j = i
  · subst h; simp [hi]
  · simp [h, Array.getElem?_setIfInBounds_ne (Ne.symm h)]
theorem onB_up (f : Eff) (B B' m : Nat) (d : Option Nat) (s : St) : f.onB B d ⟨⟨s.e.s, m⟩, s.H⟩ = ⟨⟨(f.onB B' d s).e.s, B⟩, (f.onB B' d s).H⟩ := by
  obtain ⟨v, b, H, g⟩ := f
  cases d <;> (cases b <;> rfl)
theorem gop_simD {call : Nat → List GV → GH → Option (GV × GH)} (hpc : PureCalls hp call) (hcall : CallSound P ro call) (hk : CallKeep call) {o : Oper} {ops : Array Oper} {a : Act} {w : World} {n i : Nat} {fresh : Nat → Prop} {s s' : St} {io : IOp} {k : Option AK} (hs : SimD ro K0 H0 nt n fresh s a w) (hρ : ∀ b, K0.ρ b → b < K0.w.heap.size)
    (hc : cIOp P ro hp nt ops.toList o = some io) (hbox : io.prim.isBox = true → i < n) (hfi : fresh i) (hg : gop call { io with ak := k, prim := (mild hp io.prim).rank i } s = some s') {next : Act → World → Prop} {Q : Exit → Act → World → Prop}
    (hn : ∀ a' w', SimD ro K0 H0 nt n (fun m => fresh m ∧ m ≠ i) s' a' w' → next a' w') :
    if Region.wanted o (yielded ops a.tmps) then o.wp P a w next Q ∨ (o.asks P a w ∧ LetsOut Q) else next (a.put o.dst undef) w := by
  obtain ⟨p, srcs, _, h1, h2, h3, h4, h5, h6⟩ := cIOp_get hc
  obtain ⟨K, lam, hsim, hfr⟩ := hs
  rcases gop_noak hpc hg with ⟨hw, rfl⟩ | ⟨hw, hnk, f, hf, rfl⟩
  · rw [wanted_sim ⟨K, lam, hsim⟩ h6 hw]
    rw [h4] at hn
    refine hn _ _ ⟨K, lam, ?_, fun m hm hf => ?_⟩
    · have := skip_core hsim h5
      cases hd : o.dst <;> rw [hd] at this <;> exact this
    · have := hfr m hm hf.1
      cases hd : o.dst <;> exact this
  · rw [wanted_sim ⟨K, lam, hsim⟩ h6 hw]
    rw [h2, h3] at hf
    rw [h4] at hn
    rw [h2] at hnk
    rcases cOpT_get h1 with hc' | rfl
    · refine .inl ?_
      by_cases hb : p.isBox = true
      · have hin : i < n := hbox (by rw [h2]; exact hb)
        refine op_core (call := call) hcall hk hsim hρ (B := s.e.gen + n) (g := s.e.gen + i) (Nat.le_refl _) (hfr i hin hfi) (fun _ => by omega) hc' h5 hf (fun a' w' K' lam' q1 q2 => hn a' w' ⟨K', lam', ?_, fun m hm hf => ?_⟩)
        · rw [onB_up (B' := s.e.gen)] at q1; exact q1
        · have : lam' (s.e.gen + m) = lam (s.e.gen + m) := q2 _ (by have := hf.2; omega)
          exact this.trans (hfr m hm hf.1)
      · have hb' : p.isBox = false := by simpa using hb
        have hf' := (geff_any hb' hnk _ (s.e.gen + n) hf).1
        refine op_core (call := call) hcall hk hsim hρ (B := s.e.gen + n) (g := s.e.gen + n) (Nat.le_refl _) (hsim.fr.gen _ (Nat.le_refl _)) (fun h => absurd h hb) hc' h5 hf' (fun a' w' K' lam' q1 q2 => hn a' w' ⟨K', lam', ?_, fun m hm hf => ?_⟩)
        · rw [onB_up (B' := s.e.gen)] at q1; exact q1
        · have : lam' (s.e.gen + m) = lam (s.e.gen + m) := q2 _ (by omega)
          exact this.trans (hfr m hm hf.1)
    · simp [geff, gPure] at hf
theorem draw_any {call : Nat → List GV → GH → Option (GV × GH)} (hpc : PureCalls hp call) (hcall : CallSound P ro call) (hk : CallKeep call) (hρ : ∀ b, K0.ρ b → b < K0.w.heap.size) {ops : Array Oper} {ios : List IOp} {prec : List (List Nat)} {ord : List Nat}
    {n : Nat} (hios : ∀ (i : Nat) io, ios[i]? = some io → ∃ o io0 k, ops[i]? = some o ∧ cIOp P ro hp nt ops.toList o = some io0 ∧ io = { io0 with ak := k, prim := (mild hp io0.prim).rank i } ∧ (io0.prim.isBox = true → i < n)) (hlen : ios.length = ops.size)
    (hgood : okOrd (preOf ops.toList) (fun i => prec.getD i []) (fun i => (ios[i]?).bind opFoot) [] ord = true) (hall : ∀ i, i < ops.size → i ∈ ord) (hin : ∀ i, i ∈ ord → i < ops.size)
    {s' : St} {Q : Exit → Act → World → Prop} (hn : ∀ a' w', SimD ro K0 H0 nt n (fun _ => False) s' a' w' → Q .normal a' w') :
    ∀ (fuel : Nat) (listed : Array Bool) (rem : List Nat) (s : St) (a : Act) (w : World), listed.size = ops.size → rem = ord.filter (fun i => !listed.getD i true) → rem.length = fuel →
      (∀ y, listed.getD y false = true → ∀ x ∈ prec.getD y [], listed.getD x false = true) → gops call (rem.filterMap fun i => ios[i]?) s = some s' → SimD ro K0 H0 nt n (fun k => listed.getD k false = false) s a w → wpAny P .any ops Q fuel listed a w := by
  have dflt : ∀ (listed : Array Bool) (i : Nat), listed.size = ops.size → i < ops.size → ∀ d d', listed.getD i d = listed.getD i d' := by
    intro listed i h1 h2 d d'
    simp [h1, h2]
  have nil : ∀ (listed : Array Bool) (rem : List Nat), listed.size = ops.size → rem = ord.filter (fun i => !listed.getD i true) → Region.ready .any ops listed = [] → rem = [] := by
    intro listed rem hsz hrem hr
    cases rem with
    | nil => rfl
    | cons j rest =>
      exfalso
      obtain ⟨d, r, e, hd, hj, _⟩ := List.filter_eq_cons_iff.1 hrem.symm
      have hjn : j < ops.size := hin j (by rw [e]; simp)
      obtain ⟨g1, _⟩ := okOrd_split ord [] d j r hgood e
      have : j ∈ Region.ready .any ops listed := by
        unfold Region.ready
        simp only [List.mem_filter, List.mem_range, Bool.and_eq_true]
        refine ⟨hjn, hj, ?_⟩
        rw [Array.getElem?_eq_getElem hjn]
        simp only [Option.map_some, Option.getD_some, Array.all_eq_true]
        intro k hk'
        by_cases hb : Region.binds .any (ops[j].after[k]) = true
        · simp only [hb, Bool.not_true, Bool.false_or]
          have hx : ops[j].after[k].on ∈ preOf ops.toList j := by
            unfold preOf
            simp only [Array.getElem?_toList, Array.getElem?_eq_getElem hjn, List.mem_map, List.mem_filter]
            exact ⟨ops[j].after[k], ⟨by simp, hb⟩, rfl⟩
          rcases g1 _ hx with h | h
          · cases h
          · have h2 := hd _ h
            simp only [Bool.not_eq_true', Bool.not_eq_false] at h2
            have hlt : ops[j].after[k].on < ops.size := hin _ (by rw [e]; exact List.mem_append_left _ h)
            rw [dflt listed _ hsz hlt false true]
            simpa using h2
        · simp [hb]
      rw [hr] at this
      cases this
  intro fuel
  induction fuel with
  | zero =>
    intro listed rem s a w hsz hrem hl hC hg hs
    have h0 : rem = [] := List.length_eq_zero_iff.1 hl
    subst h0
    simp only [List.filterMap_nil, gops, Option.some.injEq] at hg
    subst hg
    refine ⟨?_, hn _ _ (by obtain ⟨K, lam, h1, _⟩ := hs; exact ⟨K, lam, h1, fun _ _ h => h.elim⟩)⟩
    unfold Region.ready
    rw [List.filter_eq_nil_iff]
    intro i hi hc
    simp only [List.mem_range, Bool.and_eq_true] at hi hc
    have hm : i ∈ ord.filter (fun i => !listed.getD i true) := List.mem_filter.2 ⟨hall i hi, hc.1⟩
    rw [← hrem] at hm
    cases hm
  | succ fuel ih =>
    intro listed rem s a w hsz hrem hl hC hg hs
    refine ⟨fun hr => ?_, fun i hi => ?_⟩
    · have := nil listed rem hsz hrem hr
      subst this
      simp at hl
    · unfold Region.ready at hi
      simp only [List.mem_filter, List.mem_range, Bool.and_eq_true] at hi
      obtain ⟨hin', hnl, hafter⟩ := hi
      rw [Array.getElem?_eq_getElem hin'] at hafter
      simp only [Option.map_some, Option.getD_some, Array.all_eq_true] at hafter
      have hpre : ∀ x ∈ preOf ops.toList i, listed.getD x false = true := by
        intro x hx
        unfold preOf at hx
        simp only [Array.getElem?_toList, Array.getElem?_eq_getElem hin', List.mem_map, List.mem_filter] at hx
        obtain ⟨e, ⟨h1, h2⟩, rfl⟩ := hx
        obtain ⟨k, hk', he⟩ := Array.mem_iff_getElem.1 (Array.mem_toList_iff.1 h1)
        have := hafter k hk'
        rw [he, h2] at this
        simpa using this
      obtain ⟨d, r, e⟩ := List.append_of_mem (hall i hin')
      obtain ⟨_, _, g3, g4, g5⟩ := okOrd_split ord [] d i r hgood e
      have hprec : ∀ x ∈ prec.getD i [], listed.getD x false = true := by
        intro x hx
        rcases g4 x hx with h | ⟨y, hy, hxy⟩
        · exact hpre x h
        · exact hC y (hpre y hy) x hxy
      have hir : i ∉ r := by
        intro hm
        obtain ⟨r1, r2, er⟩ := List.append_of_mem hm
        obtain ⟨_, _, q, _⟩ := okOrd_split ord [] (d ++ i :: r1) i r2 hgood (by rw [e, er]; simp)
        exact q (by simp)
      have hlf : listed.getD i false = false := by
        rw [dflt listed i hsz hin' false true]
        simpa using hnl
      have hrem1 : rem = d.filter (fun i => !listed.getD i true) ++ i :: r.filter (fun i => !listed.getD i true) := by
        rw [hrem, e, List.filter_append, List.filter_cons, if_pos hnl]
      have hnew : ∀ (l : List Nat), i ∉ l → l.filter (fun j => !(listed.setIfInBounds i true).getD j true) = l.filter (fun j => !listed.getD j true) := by
        intro l hil
        apply List.filter_congr
        intro j hj
        rw [getD_setB _ _ _ (by rw [hsz]; exact hin'), if_neg (by intro e'; subst e'; exact hil hj)]
      have hrem2 : d.filter (fun i => !listed.getD i true) ++ r.filter (fun i => !listed.getD i true) = ord.filter (fun j => !(listed.setIfInBounds i true).getD j true) := by
        rw [e, List.filter_append, List.filter_cons, if_neg (by rw [getD_setB _ _ _ (by rw [hsz]; exact hin'), if_pos rfl]; simp), hnew d g3, hnew r hir]
      obtain ⟨io, hio⟩ : ∃ io, ios[i]? = some io := ⟨_, List.getElem?_eq_getElem (by rw [hlen]; exact hin')⟩
      have hgo : gops call (io :: ((d.filter (fun i => !listed.getD i true)).filterMap (fun i => ios[i]?) ++ (r.filter (fun i => !listed.getD i true)).filterMap (fun i => ios[i]?))) s = some s' := by
        rw [← hg, hrem1, List.filterMap_append, List.filterMap_cons, hio]
        refine (gops_front _ _ (fun y hy => ?_) s).symm
        obtain ⟨x, hx, hxy⟩ := List.mem_filterMap.1 hy
        obtain ⟨hxd, hxl⟩ := List.mem_filter.1 hx
        have hxn : x < ops.size := hin x (by rw [e]; exact List.mem_append_left _ hxd)
        rcases g5 x (.inr hxd) with h | h
        · have := hprec x h
          rw [dflt listed x hsz hxn false true] at this
          rw [this] at hxl
          cases hxl
        · simp only [hxy, hio, Option.bind_some, fits2] at h
          split at h
          · rename_i fy fx h1 h2
            exact ⟨fy, fx, h1, h2, h⟩
          · cases h
      obtain ⟨o, io0, k, ho, hc, rfl, hbox⟩ := hios i io hio
      simp only [gops, Option.bind_eq_some_iff] at hgo
      obtain ⟨s1, h1, h2⟩ := hgo
      have hstep := gop_simD (Q := Q) hpc hcall hk hs hρ hc hbox hlf h1 (next := wpAny P .any ops Q fuel (listed.setIfInBounds i true)) (fun a' w' hs' => by
        refine ih (listed.setIfInBounds i true) _ s1 a' w' (by simpa using hsz) hrem2 ?_ ?_ ?_ ?_
        · rw [hrem1] at hl
          simp only [List.length_append, List.length_cons] at hl ⊢
          omega
        · intro y hy x hx
          rw [getD_setB _ _ _ (by rw [hsz]; exact hin')] at hy ⊢
          by_cases hyi : y = i
          · subst hyi
            split
            · rfl
            · exact hprec x hx
          · rw [if_neg hyi] at hy
            split
            · rfl
            · exact hC y hy x hx
        · rw [List.filterMap_append]; exact h2
        · obtain ⟨K, lam, q1, q2⟩ := hs'
          refine ⟨K, lam, q1, fun m hm hf => q2 m hm ?_⟩
          have hf2 : (listed.setIfInBounds i true).getD m false = false := hf
          rw [getD_setB _ _ _ (by rw [hsz]; exact hin')] at hf2
          by_cases hmi : m = i
          · rw [if_pos hmi] at hf2; cases hf2
          · rw [if_neg hmi] at hf2; exact ⟨hf2, hmi⟩)
      unfold wpOp
      rw [ho]
      exact hstep
def Ctx.drew (K : Ctx) (d : Nat) : Ctx := { K with w := { K.w with drawn := d } }
theorem Ext.drew (K : Ctx) (d bo bt : Nat) (hd : K.w.drawn ≤ d) : Ext (fun _ => False) bo bt K (K.drew d) :=
  { N := rfl, nO := Nat.le_refl _, size := Nat.le_refl _, tape := rfl, os := rfl, output := rfl, drawn := fun _ => hd, φ := fun _ _ _ h => h, κ := fun _ _ => rfl, imm := fun _ _ h => ⟨h, rfl⟩, loc := fun _ h => ⟨h, fun _ => rfl⟩, below := fun _ _ => rfl,
    tok := fun _ p h => ⟨p, h, Nat.le_refl _, fun _ => rfl⟩, prot := fun _ _ _ => ⟨rfl, fun _ _ => rfl⟩, protT := fun _ _ _ => ⟨rfl, rfl, fun _ _ => rfl⟩ }
theorem drew_sim {s : St} {a : Act} {w : World} (h : SimS ro K0 H0 nt s a w) (d : Nat) (hd : w.drawn ≤ d) : SimS ro K0 H0 nt s a { w with drawn := d } := by
  obtain ⟨K, lam, hs⟩ := h
  have x := Ext.drew K d H0.bo H0.bt (by rw [hs.w]; exact hd)
  refine ⟨K.drew d, lam, by rw [← hs.w]; rfl, ?_, ?_, hs.ext.trans x (fun _ _ h => h.elim), hs.new, hs.bo, hs.bt⟩
  · exact
      { nO := hs.hr.nO, toks := hs.hr.toks, bo := hs.hr.bo, bt := hs.hr.bt,
        obj := by
          intro id o ho
          have := hs.hr.obj id o ho
          cases o with
          | cells t cs =>
            obtain ⟨b, vs, elem, fr, h1, h2, h3, h4, h5⟩ := this
            exact ⟨b, vs, elem, fr, h1, h2, h3, h4, fun i c v hc hv => (h5 i c v hc hv).ext x⟩
          | row t cs =>
            obtain ⟨hidn, hro, b, vs, h1, h2, h3, h4, h5⟩ := this
            exact ⟨hidn, hro, b, vs, h1, h2, h3, h4, fun i c v hc hv => (h5 i c v hc hv).ext x⟩
          | map ag ls es =>
            obtain ⟨hw, b, ents, clock, h1, h2, h3, es', h4, h5, h6⟩ := this
            exact ⟨hw, b, ents, clock, h1, h2, h3, es', h4, h5, fun i p m hp hm => ⟨(h6 i p m hp hm).1.ext x, (h6 i p m hp hm).2.ext x⟩⟩
          | dead => trivial
        inj := hs.hr.inj, dom := hs.hr.dom, glob := hs.hr.glob, roN := hs.hr.roN, tok := hs.hr.tok, tinj := hs.hr.tinj, size := hs.hr.size, loc := hs.hr.loc, dat := hs.hr.dat }
  · exact hs.fr.step (f := ⟨.junk, none, s.H, s.e.gen⟩) (m := none) (B := s.e.gen) (rv := undef) (dst := none) x (fun _ _ h => h) (fun n b h => hs.fr.lamρ n b h) hs.fr.linj (fun n hn => hs.fr.gen n hn) (fun n b h _ => rfl) (fun d h => by cases h) trivial
      (fun n hn => hn.elim) (fun n h => by cases h) (fun s g h => by cases h)
theorem mapM_filterMap {α β : Type} {f : α → Option β} : ∀ {l : List α} {r : List β}, l.mapM f = some r → l.filterMap f = r
  | [], r, h => by simpa using h
  | x :: l, r, h => by
    simp only [List.mapM_cons, Option.bind_eq_bind, Option.bind_eq_some_iff, Option.pure_def, Option.some.injEq] at h
    obtain ⟨y, h1, r', h2, rfl⟩ := h
    rw [List.filterMap_cons, h1, mapM_filterMap h2]
theorem draw_sim (hm : P.follows .mixedOrders = true) {call : Nat → List GV → GH → Option (GV × GH)} (hpc : PureCalls hp call) (hcall : CallSound P ro call) (hk : CallKeep call) (hρ : ∀ b, K0.ρ b → b < K0.w.heap.size) {ops : Array Oper} {s s' : St} {a : Act} {w : World} {Q : Exit → Act → World → Prop}
    {ios : List IOp} {n : Nat} (hn : ∀ a' w', SimS ro K0 H0 nt ⟨⟨s'.e.s, s'.e.gen + n⟩, s'.H⟩ a' w' → Q .normal a' w') (hc : cDraw P ro hp nt ops.toList = some (ios, n)) (hg : gops call ios s = some s') (hs0 : SimS ro K0 H0 nt s a w) {id : Nat} :
    (Code.region id ops true).wp P Q a w := by
  have hs := drew_sim hs0 (w.drawn + 1) (Nat.le_succ _)
  unfold cDraw at hc
  simp only [Option.bind_eq_some_iff] at hc
  obtain ⟨ios0, h0, hc⟩ := hc
  split at hc
  case isFalse => cases hc
  rename_i hgood
  simp only [Option.map_eq_some_iff, Prod.mk.injEq] at hc
  obtain ⟨l, hc, rfl, rfl⟩ := hc
  simp only [ordGood, Bool.and_eq_true, beq_iff_eq, List.all_eq_true, List.mem_range] at hgood
  obtain ⟨⟨g1, g2⟩, g3⟩ := hgood
  obtain ⟨m1, m2⟩ := mapM_some h0
  obtain ⟨a1, a2⟩ := withAk_get (P := P) (hp := hp) ops.toList ops.toList ios0 m1
  have a3 := ranks_len (withAk P hp ops.toList ops.toList ios0) 0
  have hmf := mapM_filterMap hc
  obtain ⟨m3, m4⟩ := mapM_some hc
  have hin : ∀ i, i ∈ Region.linearise .any ops 0 → i < ops.size := by
    intro i hi
    obtain ⟨k, hk', e⟩ := List.mem_iff_getElem.1 hi
    have hk2 : k < l.length := by rw [m3]; exact hk'
    have := m4 k i l[k] (by show (Region.linearise .any ops 0)[k]? = _; rw [List.getElem?_eq_getElem hk', e]) (List.getElem?_eq_getElem hk2)
    have := (List.getElem?_eq_some_iff.1 this).1
    rw [a3, a1] at this
    simpa using this
  refine wp_region_any hm (draw_any (hp := hp) (n := bumpOf ios0) hpc hcall hk hρ (ios := ranks 0 (withAk P hp ops.toList ops.toList ios0)) (ord := Region.linearise .any ops 0) (fun i io hio => ?_) (by rw [a3, a1]; simp) g1 (fun i hi => by simpa using g3 i (by simpa using hi)) hin
    (fun a' w' h => by obtain ⟨K, lam, h1, _⟩ := h; exact hn a' w' ⟨K, lam, h1⟩) ops.size _ (Region.linearise .any ops 0) s a _ (by simp) ?_ ?_ ?_ ?_ (hs.d _ _))
  · have hi : i < ops.size := by
      have := (List.getElem?_eq_some_iff.1 hio).1
      rw [a3, a1] at this; simpa using this
    have hi0 : i < ios0.length := by rw [m1]; simpa using hi
    have ho : ops.toList[i]? = some ops[i] := by simp [hi]
    have := ranks_get _ 0 i _ (a2 i _ _ ho (List.getElem?_eq_getElem hi0))
    rw [this] at hio
    injection hio with hio
    refine ⟨ops[i], ios0[i], cAk P hp ops.toList ops[i], Array.getElem?_eq_getElem hi, m2 i _ _ ho (List.getElem?_eq_getElem hi0), ?_, fun hb => ?_⟩
    · rw [← hio]
      simp only [Nat.zero_add]
    · unfold bumpOf
      rw [if_pos]
      · exact hi0
      · rw [List.any_eq_true]; exact ⟨_, List.getElem_mem hi0, hb⟩
  · symm
    rw [List.filter_eq_self]
    intro i hi
    simp [hin i hi]
  · simpa using g2
  · intro y hy
    exfalso
    by_cases hy' : y < ops.size <;> simp [hy'] at hy
  · rw [show (Region.linearise .any ops 0).filterMap (fun i => (ranks 0 (withAk P hp ops.toList ops.toList ios0))[i]?) = l from hmf]
    exact hg
end
end Go.Sh
