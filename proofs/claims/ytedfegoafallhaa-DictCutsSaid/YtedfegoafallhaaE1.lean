/- Loops over functions: the statement. -/
import Derived.Test.YtedfegoafallhaaD9
import Derived.RangeFuncSeq
namespace Go.Proofs.Ytedfegoafallhaa
set_option linter.unusedVariables false
set_option linter.unusedSimpArgs false
open Go Go.RowKit
set_option maxRecDepth 100000

/-- What a round keeps of another party's memory. -/
structure Keep (It : Nat → Prop) (w w' : World) : Prop where
  os : w'.os = w.os
  tape : w'.tape = w.tape
  output : w'.output = w.output
  size : w.heap.size ≤ w'.heap.size
  block : ∀ β, It β → w'.heap[β]? = w.heap[β]?
/-- A function that hands these on, one by one, to the function that it is given. -/
def IterC (P : Program) (it : FuncId) (cap : List AV) (xs : List (List AV)) : Prop :=
  (∀ (vs : Array Value) (w : World), (callFunc it vs).run P w = .ok (.enter it vs) w) ∧
  ∀ (W : World) (st : Nat → Prop) (us : List Value) (l : Nat), (∀ β, st β → β < W.heap.size) → us.length = cap.length → (∀ (i : Nat) (x : AV) (u : Value), cap[i]? = some x → us[i]? = some u → Rep (RC.pure st) W x u) →
  ∀ (J : Nat → (Nat → Prop) → World → Prop) (Jx : World → Prop),
    (∀ i It It' W1 W2, J i It W1 → Below W1.heap.size W1 W2 → (∀ β, It' β → It β ∨ (W1.heap.size ≤ β ∧ β < W2.heap.size)) → J i It' W2) →
    (∀ W1 W2, Jx W1 → Below W1.heap.size W1 W2 → Jx W2) →
    (∀ (i : Nat) (x : List AV) (It : Nat → Prop) (W1 : World) (args : List Value), xs[i]? = some x → J i It W1 → args.length = x.length → (∀ (j : Nat) (a : AV) (u : Value), x[j]? = some a → args[j]? = some u → Rep (RC.pure It) W1 a u) →
      YieldAt Fence.wide 0 P l args.toArray W1 (fun e W2 => Keep It W1 W2 ∧ ((e = .returned (.bool true) ∧ J (i + 1) It W2) ∨ (e = .returned (.bool false) ∧ Jx W2)))) →
    J 0 st W → Calls P it ((.func (.yield l) #[] #[]) :: us).toArray W (fun e W' => (∃ v, e = .returned v) ∧ ((∃ It, J xs.length It W') ∨ Jx W'))

/-- Slots are set. -/
def setPs : List Nat → List AV → List (Nat × AV) → List (Nat × AV)
  | p :: ps, x :: xs, fr => setPs ps xs ((p, x) :: fr)
  | _, _, fr => fr
theorem fr_setPs {c : RC} {w : World} {n : Nat} : ∀ (ps : List Nat) (xs : List AV) (us : List Value) (fr : List (Nat × AV)) (tmps : Array Value), tmps.size = n → (∀ p, p ∈ ps → p < n) → us.length = xs.length → xs.length = ps.length →
    (∀ (j : Nat) (a : AV) (u : Value), xs[j]? = some a → us[j]? = some u → Rep c w a u) → (∀ t, Rep c w (lkA fr t) (tmps.getD t undef)) →
    ((ps.zip us).foldl (fun tmps (p : Nat × Value) => tmps.setIfInBounds p.1 p.2) tmps).size = n ∧ ∀ t, Rep c w (lkA (setPs ps xs fr) t) (((ps.zip us).foldl (fun tmps (p : Nat × Value) => tmps.setIfInBounds p.1 p.2) tmps).getD t undef)
  | [], xs, us, fr, tmps, hn, _, _, _, _, hf => by
    simp only [List.zip_nil_left, List.foldl_nil, setPs]
    exact ⟨hn, hf⟩
  | p :: ps, x :: xs, u :: us, fr, tmps, hn, hp, hl, hl', hx, hf => by
    simp only [List.zip_cons_cons, List.foldl_cons, setPs]
    refine fr_setPs ps xs us _ _ (by simpa using hn) (fun q hq => hp q (by simp [hq])) (by simpa using hl) (by simpa using hl') (fun j a v ha hv => hx (j + 1) a v (by simpa using ha) (by simpa using hv)) (fun t => ?_)
    rw [lkA_cons]
    have hpn := hp p (by simp)
    by_cases h : t = p
    · subst h
      rw [if_pos rfl]
      have : (tmps.setIfInBounds t u).getD t undef = u := by
        simp [Array.getD_eq_getD_getElem?, hn, hpn]
      rw [this]
      exact hx 0 x u rfl rfl
    · rw [if_neg h]
      have : (tmps.setIfInBounds p u).getD t undef = tmps.getD t undef := by
        simp [Array.getD_eq_getD_getElem?, Array.getElem?_setIfInBounds_ne (Ne.symm h)]
      rw [this]
      exact hf t

/-- A block that is nobody's turns. -/
theorem Rep.other {c : RC} {w w' : World} (h : ∀ β, c.st β → w'.heap[β]? = w.heap[β]?) {x : AV} {v : Value} (r : Rep c w x v) : Rep c w' x v := r.mono ⟨fun β hb => ⟨hb, h β hb⟩, fun _ h => h, fun _ _ _ _ h => h⟩

/-- The state of a round, seen from the loop's own frame. -/
theorem Sim.back {C C2 : ACtx} {s0 s2 : AS} {c c3 : RC} {a a3 : Act} {w w3 w' : World} {l : Nat} (hS : Sim C s0 c a w) (hR : Sim C2 s2 c3 a3 w3) (m : Mono c c3 w w3)
    (old : ∀ k, k < w.heap.size → (∀ b g o, c.own b g = some o → o.loc ≠ some k) → k ≠ l → w3.heap[k]? = w.heap[k]?) (sz : w.heap.size ≤ w3.heap.size) (os : w3.os = w.os) (tape : w3.tape = w.tape) (output : w3.output = w.output)
    (hw : ∀ β, β ≠ l → w'.heap[β]? = w3.heap[β]?) (hsz : w'.heap.size = w3.heap.size) (hos : w'.os = w3.os) (hta : w'.tape = w3.tape) (hou : w'.output = w3.output)
    (hl : ¬ c3.st l) (hl' : ∀ b g o, c3.own b g = some o → o.loc ≠ some l) (hl0 : C.w0.heap.size ≤ l)
    (hal : ∀ b g o β, c3.own b g = some o → o.loc = some β → C.w0.heap.size ≤ β ∨ C.lent β) (hst : ∀ β, c3.st β → C.st0 β ∨ C.w0.heap.size ≤ β ∨ C.lent β) : Sim C ⟨s0.fr, s2.hp, s2.gc⟩ c3 a w' := by
  have hne : ∀ β, c3.st β → β ≠ l := fun β h e => hl (e ▸ h)
  have m3 : Mono c3 c3 w3 w' := ⟨fun β h => ⟨h, hw β (hne β h)⟩, fun _ h => h, fun _ _ _ _ h => h⟩
  have m' : Mono c c3 w w' := m.trans m3
  refine ⟨hS.nd.step m'.st, hS.sz, fun t => (hS.fr t).mono m', fun b blk hb => ?_, fun b g o ho => ?_, hR.inj, fun β hb => ?_, fun β hb => (m.st β (hS.st0 β hb)).1, hS.old.trans' (hos.trans os) (hta.trans tape) (hou.trans output) (by omega) (fun k hk hk' => ?_), hS.mo.trans m'⟩
  · obtain ⟨o, h1, h2⟩ := hR.hp b blk hb
    exact ⟨o, h1, h2.mono m3 (fun β hβ => hw β (fun e => hl' b _ o h1 (e ▸ hβ)))⟩
  · obtain ⟨k1, k2, k4⟩ := hR.al b g o ho
    refine ⟨k1, k2, fun β hβ => ?_⟩
    obtain ⟨q1, q2, q3⟩ := k4 β hβ
    exact ⟨by omega, q2, hal b g o β ho hβ⟩
  · exact ⟨by have := (hR.st β hb).1; omega, hst β hb⟩
  · have hkw : k < w.heap.size := Nat.lt_of_lt_of_le hk hS.old.size
    have hkl : k ≠ l := by omega
    rw [hw k hkl]
    refine old k hkw (fun b g o ho hk'' => ?_) hkl
    rcases ((hS.al b g o ho).2.2 k hk'').2.2 with h | h
    · omega
    · exact hk' h

/-- Where a round ends. -/
def roundA (fr : List (Nat × AV)) (K : List (Nat × Option Blk) → Nat → Prop) (Q : Exit → AS → Prop) : Exit → AS → Prop
  | .normal, s => K s.hp s.gc
  | .ret, s => Q .ret ⟨fr, s.hp, s.gc⟩
  | .exit id, s => Q (.exit id) ⟨fr, s.hp, s.gc⟩
  | _, _ => False

/-- A round's frame, as a context of its own. -/
def rctx (C : ACtx) (w0 : World) (st0 lent : Nat → Prop) (l : Nat) (c0 : RC) : ACtx := ⟨C.P, C.T, C.ok, C.n, w0, st0, lent, (some l, true), c0⟩
theorem Sim.rebase {C : ACtx} {s : AS} {c : RC} {a : Act} {w w' : World} {l : Nat} (hS : Sim C s c a w) (hd : a.defers = []) (hw : ∀ β, β ≠ l → w'.heap[β]? = w.heap[β]?) (hsz : w'.heap.size = w.heap.size) (hl : ¬ c.st l) (hl' : ∀ b g o, c.own b g = some o → o.loc ≠ some l) :
    Sim (rctx C w' c.st (fun β => ∃ b g o, c.own b g = some o ∧ o.loc = some β) l c) s c a w' := by
  have hne : ∀ β, c.st β → β ≠ l := fun β h e => hl (e ▸ h)
  have m3 : Mono c c w w' := ⟨fun β h => ⟨h, hw β (hne β h)⟩, fun _ h => h, fun _ _ _ _ h => h⟩
  refine ⟨by rw [hd]; exact Nd.nil _ _ _ _, hS.sz, fun t => (hS.fr t).mono m3, fun b blk hb => ?_, fun b g o ho => ?_, hS.inj, fun β hb => ⟨by have := (hS.st β hb).1; omega, .inl hb⟩, fun β hb => hb, Old.refl _ _, Mono.refl _ _⟩
  · obtain ⟨o, h1, h2⟩ := hS.hp b blk hb
    exact ⟨o, h1, h2.mono m3 (fun β hβ => hw β (fun e => hl' b _ o h1 (e ▸ hβ)))⟩
  · obtain ⟨k1, k2, k4⟩ := hS.al b g o ho
    refine ⟨k1, k2, fun β hβ => ?_⟩
    obtain ⟨q1, q2, q3⟩ := k4 β hβ
    exact ⟨by omega, q2, .inr ⟨b, g, o, ho, hβ⟩⟩
end Go.Proofs.Ytedfegoafallhaa
