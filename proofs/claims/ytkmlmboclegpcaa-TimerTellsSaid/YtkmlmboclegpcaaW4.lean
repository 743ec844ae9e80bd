/- E1, E2, E3, E4, E5, F1, F2, F3, F4, F5, F6, F7, F8, F9, Fa, Fb, Fc, Fd, Fe, Ff, Fg, Fh, Fi, Fj. -/
import Derived.Test.YtkmlmboclegpcaaW1
import Derived.Test.YtkmlmboclegpcaaW2
import Derived.Test.YtkmlmboclegpcaaW3
import Derived.RangeFuncSeq
import Derived.Lib.MakeNoZero
import Derived.Laws.Externs
import Derived.Laws.Small
import Derived.Lib.ConvBytes
import Derived.Lib.AppendStr
import Derived.Laws.Append
import Derived.Laws.Strings
set_option linter.unusedVariables false
set_option linter.unusedSimpArgs false
namespace Go.Proofs.Ytkmlmboclegpcaa
open Go Go.RowKit
set_option maxRecDepth 100000
structure Keep (It : Nat → Prop) (w w' : World) : Prop where
 os : w'.os = w.os
 tape : w'.tape = w.tape
 output : w'.output = w.output
 size : w.heap.size ≤ w'.heap.size
 block : ∀ β, It β → w'.heap[β]? = w.heap[β]?
def IterC (P : Program) (it : FuncId) (cap : List AV) (xs : List (List AV)) : Prop :=
 (∀ (vs : Array Value) (w : World), (callFunc it vs).run P w = .ok (.enter it vs) w) ∧
 ∀ (W : World) (st : Nat → Prop) (us : List Value) (l : Nat), (∀ β, st β → β < W.heap.size) → us.length = cap.length → (∀ (i : Nat) (x : AV) (u : Value), cap[i]? = some x → us[i]? = some u → Rep (RC.pure st) W x u) →
 ∀ (J : Nat → (Nat → Prop) → World → Prop) (Jx : World → Prop),
  (∀ i It It' W1 W2, J i It W1 → Below W1.heap.size W1 W2 → (∀ β, It' β → It β ∨ (W1.heap.size ≤ β ∧ β < W2.heap.size)) → J i It' W2) →
  (∀ W1 W2, Jx W1 → Below W1.heap.size W1 W2 → Jx W2) →
  (∀ (i : Nat) (x : List AV) (It : Nat → Prop) (W1 : World) (args : List Value), xs[i]? = some x → J i It W1 → args.length = x.length → (∀ (j : Nat) (a : AV) (u : Value), x[j]? = some a → args[j]? = some u → Rep (RC.pure It) W1 a u) →
   YieldAt Fence.wide 0 P l args.toArray W1 (fun e W2 => Keep It W1 W2 ∧ ((e = .returned (.bool true) ∧ J (i + 1) It W2) ∨ (e = .returned (.bool false) ∧ Jx W2)))) →
  J 0 st W → Calls P it ((.func (.yield l) #[] #[]) :: us).toArray W (fun e W' => (∃ v, e = .returned v) ∧ ((∃ It, J xs.length It W') ∨ Jx W'))
def setPs : List Nat → List AV → List (Nat × AV) → List (Nat × AV)
 | p :: ps, x :: xs, fr => setPs ps xs ((p, x) :: fr)
 | _, _, fr => fr
theorem fr_setPs {c : RC} {w : World} {n : Nat} : ∀ (ps : List Nat) (xs : List AV) (us : List Value) (fr : List (Nat × AV)) (tmps : Array Value), tmps.size = n → (∀ p, p ∈ ps → p < n) → us.length = xs.length → xs.length = ps.length →
  (∀ (j : Nat) (a : AV) (u : Value), xs[j]? = some a → us[j]? = some u → Rep c w a u) → (∀ t, Rep c w (lkA fr t) (tmps.getD t undef)) →
  ((ps.zip us).foldl (fun tmps (p : Nat × Value) => tmps.setIfInBounds p.1 p.2) tmps).size = n ∧ ∀ t, Rep c w (lkA (setPs ps xs fr) t) (((ps.zip us).foldl (fun tmps (p : Nat × Value) => tmps.setIfInBounds p.1 p.2) tmps).getD t undef)
 | [], xs, us, fr, tmps, hn, _, _, _, _, hf => by
  simp only [List.zip_nil_left, List.foldl_nil, setPs]
  exact ⟨hn, hf⟩
 | p :: ps, x :: xs, u :: us, fr, tmps, hn, hp, hl, hl', hx, hf => by
  simp only [List.zip_cons_cons, List.foldl_cons, setPs]
  refine fr_setPs ps xs us _ _ (by simpa using hn) (fun q hq => hp q (by simp [hq])) (by simpa using hl) (by simpa using hl') (fun j a v ha hv => hx (j + 1) a v (by simpa using ha) (by simpa using hv)) (fun t => ?_)
  rw [lkA_cons]
  have hpn := hp p (by simp)
  by_cases h : t = p
  ·subst h
   rw [if_pos rfl]
   have : (tmps.setIfInBounds t u).getD t undef = u := by
    simp [Array.getD_eq_getD_getElem?, hn, hpn]
   rw [this]
   exact hx 0 x u rfl rfl
  ·rw [if_neg h]
   have : (tmps.setIfInBounds p u).getD t undef = tmps.getD t undef := by
    simp [Array.getD_eq_getD_getElem?, Array.getElem?_setIfInBounds_ne (Ne.symm h)]
   rw [this]
   exact hf t
theorem Rep.other {c : RC} {w w' : World} (h : ∀ β, c.st β → w'.heap[β]? = w.heap[β]?) {x : AV} {v : Value} (r : Rep c w x v) : Rep c w' x v := r.mono ⟨fun β hb => ⟨hb, h β hb⟩, fun _ h => h, fun _ _ _ _ h => h⟩
theorem Sim.back {C C2 : ACtx} {s0 s2 : AS} {c c3 : RC} {a a3 : Act} {w w3 w' : World} {l : Nat} (hS : Sim C s0 c a w) (hR : Sim C2 s2 c3 a3 w3) (m : Mono c c3 w w3)
  (old : ∀ k, k < w.heap.size → (∀ b g o, c.own b g = some o → o.loc ≠ some k) → k ≠ l → w3.heap[k]? = w.heap[k]?) (sz : w.heap.size ≤ w3.heap.size) (os : w3.os = w.os) (tape : w3.tape = w.tape) (output : w3.output = w.output)
  (hw : ∀ β, β ≠ l → w'.heap[β]? = w3.heap[β]?) (hsz : w'.heap.size = w3.heap.size) (hos : w'.os = w3.os) (hta : w'.tape = w3.tape) (hou : w'.output = w3.output)
  (hl : ¬ c3.st l) (hl' : ∀ b g o, c3.own b g = some o → o.loc ≠ some l) (hl0 : C.w0.heap.size ≤ l)
  (hal : ∀ b g o β, c3.own b g = some o → o.loc = some β → C.w0.heap.size ≤ β ∨ C.lent β) (hst : ∀ β, c3.st β → C.st0 β ∨ C.w0.heap.size ≤ β ∨ C.lent β) : Sim C ⟨s0.fr, s2.hp, s2.gc⟩ c3 a w' := by
 have hne : ∀ β, c3.st β → β ≠ l := fun β h e => hl (e ▸ h)
 have m3 : Mono c3 c3 w3 w' := ⟨fun β h => ⟨h, hw β (hne β h)⟩, fun _ h => h, fun _ _ _ _ h => h⟩
 have m' : Mono c c3 w w' := m.trans m3
 refine ⟨hS.nd.step m'.st, hS.sz, fun t => (hS.fr t).mono m', fun b blk hb => ?_, fun b g o ho => ?_, hR.inj, fun β hb => ?_, fun β hb => (m.st β (hS.st0 β hb)).1, hS.old.trans' (hos.trans os) (hta.trans tape) (hou.trans output) (by omega) (fun k hk hk' => ?_), hS.mo.trans m'⟩
 ·obtain ⟨o, h1, h2⟩ := hR.hp b blk hb
  exact ⟨o, h1, h2.mono m3 (fun β hβ => hw β (fun e => hl' b _ o h1 (e ▸ hβ)))⟩
 ·obtain ⟨k1, k2, k4⟩ := hR.al b g o ho
  refine ⟨k1, k2, fun β hβ => ?_⟩
  obtain ⟨q1, q2, q3⟩ := k4 β hβ
  exact ⟨by omega, q2, hal b g o β ho hβ⟩
 ·exact ⟨by have := (hR.st β hb).1; omega, hst β hb⟩
 ·have hkw : k < w.heap.size := Nat.lt_of_lt_of_le hk hS.old.size
  have hkl : k ≠ l := by omega
  rw [hw k hkl]
  refine old k hkw (fun b g o ho hk'' => ?_) hkl
  rcases ((hS.al b g o ho).2.2 k hk'').2.2 with h | h
  ·omega
  ·exact hk' h
def roundA (fr : List (Nat × AV)) (K : List (Nat × Option Blk) → Nat → Prop) (Q : Exit → AS → Prop) : Exit → AS → Prop
 | .normal, s => K s.hp s.gc
 | .ret, s => Q .ret ⟨fr, s.hp, s.gc⟩
 | .exit id, s => Q (.exit id) ⟨fr, s.hp, s.gc⟩
 | _, _ => False
def rctx (C : ACtx) (w0 : World) (st0 lent : Nat → Prop) (l : Nat) (c0 : RC) : ACtx := ⟨C.P, C.T, C.ok, C.n, w0, st0, lent, (some l, true), c0⟩
theorem Sim.rebase {C : ACtx} {s : AS} {c : RC} {a : Act} {w w' : World} {l : Nat} (hS : Sim C s c a w) (hd : a.defers = []) (hw : ∀ β, β ≠ l → w'.heap[β]? = w.heap[β]?) (hsz : w'.heap.size = w.heap.size) (hl : ¬ c.st l) (hl' : ∀ b g o, c.own b g = some o → o.loc ≠ some l) :
  Sim (rctx C w' c.st (fun β => ∃ b g o, c.own b g = some o ∧ o.loc = some β) l c) s c a w' := by
 have hne : ∀ β, c.st β → β ≠ l := fun β h e => hl (e ▸ h)
 have m3 : Mono c c w w' := ⟨fun β h => ⟨h, hw β (hne β h)⟩, fun _ h => h, fun _ _ _ _ h => h⟩
 refine ⟨by rw [hd]; exact Nd.nil _ _ _ _, hS.sz, fun t => (hS.fr t).mono m3, fun b blk hb => ?_, fun b g o ho => ?_, hS.inj, fun β hb => ⟨by have := (hS.st β hb).1; omega, .inl hb⟩, fun β hb => hb, Old.refl _ _, Mono.refl _ _⟩
 ·obtain ⟨o, h1, h2⟩ := hS.hp b blk hb
  exact ⟨o, h1, h2.mono m3 (fun β hβ => hw β (fun e => hl' b _ o h1 (e ▸ hβ)))⟩
 ·obtain ⟨k1, k2, k4⟩ := hS.al b g o ho
  refine ⟨k1, k2, fun β hβ => ?_⟩
  obtain ⟨q1, q2, q3⟩ := k4 β hβ
  exact ⟨by omega, q2, .inr ⟨b, g, o, ho, hβ⟩⟩
end Go.Proofs.Ytkmlmboclegpcaa
namespace Go.Proofs.Ytkmlmboclegpcaa
open Go Go.RowKit
set_option maxRecDepth 100000
structure Mine (C : ACtx) (a : Act) (fr : List (Nat × AV)) (D l : Nat) (ob : Obj) (It : Nat → Prop) (W : World) (hp : List (Nat × Option Blk)) (gc : Nat) (c : RC) : Prop where
 sim : Sim C ⟨fr, hp, gc⟩ c a W
 gens : ∀ g, c.used g → g < gc
 dst : c.st D
 dheap : W.heap[D]? = some (.deferred (some []))
 lheap : W.heap[l]? = some ob
 lst : ¬ c.st l
 lown : ∀ b g o, c.own b g = some o → o.loc ≠ some l
 own : ∀ b g o β, c.own b g = some o → o.loc = some β → ¬ It β
 lit : ¬ It l
 itlt : ∀ β, It β → β < W.heap.size
 itok : ∀ β, It β → C.st0 β ∨ C.w0.heap.size ≤ β ∨ C.lent β
theorem Mine.grow {C : ACtx} {a : Act} {fr : List (Nat × AV)} {D l : Nat} {ob : Obj} {It It' : Nat → Prop} {W W2 : World} {hp : List (Nat × Option Blk)} {gc : Nat} {c : RC} (h : Mine C a fr D l ob It W hp gc c) (hB : Below W.heap.size W W2) (hIt : ∀ β, It' β → It β ∨ (W.heap.size ≤ β ∧ β < W2.heap.size)) (hD : D < W.heap.size) (hl : l < W.heap.size) : Mine C a fr D l ob It' W2 hp gc c :=
  ⟨h.sim.grow (w' := W2) c.st hB (fun _ hb => hb) (fun _ hb => .inl hb) none .dead undef (fun e he => by cases he) (fun e => absurd rfl e), h.gens, h.dst, (hB.block D hD).trans h.dheap, (hB.block l hl).trans h.lheap, h.lst, h.lown,
   fun b g o β ho hβ hi => by
    have hlt := ((h.sim.al b g o ho).2.2 β hβ).1
    rcases hIt β hi with h' | h'
    · exact h.own b g o β ho hβ h'
    · omega,
   fun hi => by
    rcases hIt l hi with h' | h'
    · exact h.lit h'
    · omega,
   fun β hi => by
    rcases hIt β hi with h' | h'
    · exact Nat.lt_of_lt_of_le (h.itlt β h') hB.size
    · exact h'.2,
   fun β hi => by
    rcases hIt β hi with h' | h'
    · exact h.itok β h'
    · exact .inr (.inl (Nat.le_trans h.sim.old.size h'.1))⟩
theorem Mine.le {C : ACtx} {a : Act} {fr : List (Nat × AV)} {D l : Nat} {ob : Obj} {It : Nat → Prop} {W : World} {hp hp' : List (Nat × Option Blk)} {gc gc' : Nat} {c : RC} (h : Mine C a fr D l ob It W hp gc c) (h2 : HpLe hp hp') (h3 : gc ≤ gc') : ∃ c', Mine C a fr D l ob It W hp' gc' c' := by
 classical
 have hS := h.sim
 let c' : RC := ⟨fun b g => if lkH hp' b = none then none else c.own b g, c.used, c.st⟩
 have hown : ∀ b g o, c'.own b g = some o → c.own b g = some o := fun b g o ho => by
  simp only [c'] at ho
  split at ho
  ·cases ho
  ·exact ho
 have hm : Mono c c' W W := ⟨fun β hb => ⟨hb, rfl⟩, fun g hg => hg, fun b g o _ ho => hown b g o ho⟩
 refine ⟨c', ⟨hS.nd.step (fun _ hb => ⟨hb, rfl⟩), hS.sz, fun t => (hS.fr t).mono hm, fun b blk hb => ?_, fun b g o ho => ?_, fun b g o b' g' o' β k k' => hS.inj b g o b' g' o' β (hown _ _ _ k) (hown _ _ _ k'), hS.st, hS.st0, hS.old, hS.mo.trans hm⟩, fun g hg => Nat.lt_of_lt_of_le (h.gens g hg) h3, h.dst, h.dheap, h.lheap, h.lst, fun b g o ho => h.lown b g o (hown _ _ _ ho), fun b g o β ho => h.own b g o β (hown _ _ _ ho), h.lit, h.itlt, h.itok⟩
 ·simp only at hb
  have e : lkH hp' b = lkH hp b := by
   rcases h2.spec b with e | e
   ·exact e
   ·rw [e] at hb; cases hb
  obtain ⟨o, q1, q2⟩ := hS.hp b blk (e ▸ hb)
  refine ⟨o, ?_, q2.mono hm (fun _ _ => rfl)⟩
  simp only [c']
  rw [if_neg (by rw [hb]; simp)]
  exact q1
 ·have ho' := ho
  simp only [c'] at ho'
  split at ho'
  ·cases ho'
  ·rename_i hne
   have e : lkH hp' b = lkH hp b := by
    rcases h2.spec b with e | e
    ·exact e
    ·exact absurd e hne
   obtain ⟨q1, ⟨blk, q2, q3⟩, q4⟩ := hS.al b g o ho'
   exact ⟨q1, ⟨blk, e.trans q2, q3⟩, q4⟩
section
variable {P : Program} {T : Nat → Option TI} {ok : ∀ t ti, T t = some ti → tiOf P t = some ti} {n : Nat} {w0 : World} {st0 lent : Nat → Prop} {c00 : RC}
theorem awp_rangeFunc0 {s : AS} {Q : Exit → AS → Prop} {g : Operand} {ps : Array Tmp} {assign body : Code} {it : FuncId} {cap : List AV} {xs : List (List AV)} (hg : s.ev g = .clo (.func it) [] cap) (hit : IterC P it cap xs) (hcl : ∀ x, x ∈ cap → Closed x) (hxs : ∀ x, x ∈ xs → x.length = ps.toList.length) (hxc : ∀ x, x ∈ xs → ∀ a, a ∈ x → Closed a)
  (hps : ∀ p, p ∈ ps.toList → p < n)
  {τ : Type} (hp : τ → List (Nat × Option Blk)) (gc : τ → Nat) (I : Nat → τ → Prop) (t0 : τ) (h0 : I 0 t0) (hs : HpLe s.hp (hp t0) ∧ s.gc ≤ gc t0)
  (round : ∀ (w0 : World) (st0 lent : Nat → Prop) (l : Nat) (c0 : RC) (i : Nat) (x : List AV) (t : τ), xs[i]? = some x → I i t →
   awp ⟨P, T, ok, n, w0, st0, lent, (some l, true), c0⟩ assign ⟨setPs ps.toList x s.fr, hp t, gc t⟩ (thenA (fun s' => ∀ (w0 : World) (st0 lent : Nat → Prop) (c0 : RC), awp ⟨P, T, ok, n, w0, st0, lent, (some l, true), c0⟩ body s' (roundA s.fr (fun hp' gc' => ∃ t', HpLe hp' (hp t') ∧ gc' ≤ gc t' ∧ I (i + 1) t') Q)) (fun _ _ => False)))
  (fin : ∀ t, I xs.length t → Q .normal ⟨s.fr, hp t, gc t⟩) : awp ⟨P, T, ok, n, w0, st0, lent, (none, false), c00⟩ (.rangeFunc g ps assign body) s Q := by
 intro a w ⟨c, hS, hu⟩
 have hev := hS.ev g
 rw [hg] at hev
 generalize hux : a.eval g = ux at hev
 cases hev with
 | clo _ _ _ us0 vs hl0 hl' hr hr' =>
 have hus0 : us0 = [] := List.eq_nil_of_length_eq_zero (by simpa using hl0)
 subst hus0
 obtain ⟨F1, F2⟩ := hit
 refine wpIn_rangeFunc (fun fn _ => ?_)
 -- the record, and the block
 let rec0 : Loop := { state := .ready, pending := none, fn, tmps := a.tmps, params := ps, assign, body, defers := w.heap.size }
 let w1 : World := (w.alloc (.deferred (some []))).alloc (.loop rec0)
 have hB1 : Below w.heap.size w w1 := ((Below.refl w.heap.size w).alloc (Nat.le_refl _) _).alloc (by simp) _
 have hsz1 : w1.heap.size = w.heap.size + 2 := by simp [w1]
 have hD1 : w1.heap[w.heap.size]? = some (.deferred (some [])) := by
  have : (w.alloc (.deferred (some []))).heap[w.heap.size]? = some (.deferred (some [])) := by show (w.heap.push _)[w.heap.size]? = _; simp
  show ((w.alloc (.deferred (some []))).heap.push _)[w.heap.size]? = _
  rw [Array.getElem?_push_lt (by simp)]
  rw [← Array.getElem?_eq_getElem]
  exact this
 have hL1 : w1.heap[w.heap.size + 1]? = some (.loop rec0) := by
  have := World.alloc_heap_new (w.alloc (.deferred (some []))) (.loop rec0)
  rwa [World.size_alloc] at this
 refine ⟨w.heap.size + 1, [{ target := .collected w.heap.size, args := #[] }], w1, { target := .fn (.func it) vs.toArray, args := #[.func (.yield (w.heap.size + 1)) #[] #[]] }, w1, it, (((.func (.yield (w.heap.size + 1)) #[] #[]) :: vs).toArray), w1, run_enterLoop_outer _ _ _ _ _, ?_, fun _ _ => trivial, ?_, fun h => (by cases h), ?_⟩
 ·simp [resolve, hux, Deferred.ofValue]
  rfl
 ·have e : #[Value.func (.yield (w.heap.size + 1)) #[] #[]] ++ vs.toArray = (((.func (.yield (w.heap.size + 1)) #[] #[]) :: vs).toArray : Array Value) := by
   apply Array.ext'
   simp
  simp [invoke, F1]
 -- the invariant
 let C : ACtx := ⟨P, T, ok, n, w0, st0, lent, (none, false), c00⟩
 let J : Nat → (Nat → Prop) → World → Prop := fun i It W => ∃ t ct, I i t ∧ w.heap.size + 1 < W.heap.size ∧ Mine C a s.fr w.heap.size (w.heap.size + 1) (.loop rec0) It W (hp t) (gc t) ct
 let Jx : World → Prop := fun W => ∃ (jc : Code) (e : Exit) (hp' : List (Nat × Option Blk)) (gc' : Nat) (ct : RC), ((jc = .ret ∧ e = .ret) ∨ ∃ id, jc = .exit id ∧ e = .exit id) ∧ Q e ⟨s.fr, hp', gc'⟩ ∧ w.heap.size + 1 < W.heap.size ∧ Mine C a s.fr w.heap.size (w.heap.size + 1) (.loop { rec0 with state := .done, pending := some jc }) (fun _ => False) W hp' gc' ct
 have hRet : ∀ W, (∃ It, J xs.length It W) ∨ Jx W → rangePost (fenceR none) 0 P (w.heap.size + 1) (fun e a' w' => ∃ s', SimE C s' a' w' ∧ Q e s') { a with defers := [{ target := .collected w.heap.size, args := #[] }] ++ a.defers } (.returned (.tuple #[])) W := by
  intro W hJ
  have fin2 : ∀ (W : World) (It : Nat → Prop) hp' gc' ct (r : Loop), Mine C a s.fr w.heap.size (w.heap.size + 1) (.loop r) It W hp' gc' ct → SimE C ⟨s.fr, hp', gc'⟩ { a with defers := [{ target := .collected w.heap.size, args := #[] }] ++ a.defers } (W.putObj (w.heap.size + 1) (.loop { r with state := .exhausted })) := by
   intro W It hp' gc' ct r hM
   have hS' := hM.sim
   have hw : ∀ β, β ≠ w.heap.size + 1 → (W.putObj (w.heap.size + 1) (.loop { r with state := .exhausted })).heap[β]? = W.heap[β]? := fun β hβ => World.putObj_heap_other hβ
   have m3 : Mono ct ct W (W.putObj (w.heap.size + 1) (.loop { r with state := .exhausted })) := ⟨fun β h => ⟨h, hw β (fun e => hM.lst (e ▸ h))⟩, fun _ h => h, fun _ _ _ _ h => h⟩
   refine ⟨ct, ⟨⟨fun d hd => ?_, ?_, fun h => (by cases h)⟩, hS'.sz, fun t => (hS'.fr t).mono m3, fun b blk hb => ?_, fun b g o ho => ?_, hS'.inj, fun β hb => by rw [World.putObj_size]; exact hS'.st β hb, hS'.st0, hS'.old.trans' rfl rfl rfl (by rw [World.putObj_size]; exact Nat.le_refl _) (fun k hk _ => hw k (fun e => ?_)), hS'.mo.trans m3⟩, hM.gens⟩
   ·rcases List.mem_append.1 hd with h | h
    ·rw [List.mem_singleton.1 h]
     exact ⟨_, rfl, hM.dst, hS.old.size, (hw _ (Nat.ne_of_lt (Nat.lt_succ_self _))).trans hM.dheap⟩
    ·exact (hS'.nd.step m3.st).at_ d h
   ·rw [List.singleton_append, List.nodup_cons]
    refine ⟨fun h => ?_, hS'.nd.nodup⟩
    obtain ⟨D, e, k1, _⟩ := hS.nd.at_ _ h
    have := (hS.st D k1).1
    cases e
    omega
   ·obtain ⟨o, h1, h2⟩ := hS'.hp b blk hb
    exact ⟨o, h1, h2.mono m3 (fun β hβ => hw β (fun e => hM.lown b _ o h1 (e ▸ hβ)))⟩
   ·obtain ⟨k1, k2, k4⟩ := hS'.al b g o ho
    exact ⟨k1, k2, fun β hβ => by rw [World.putObj_size]; exact k4 β hβ⟩
   ·have := hS.old.size
    have hk' : k < w0.heap.size := hk
    have : w0.heap.size ≤ w.heap.size := this
    omega
  rcases hJ with ⟨_, t, ct, hI, _, hM⟩ | ⟨jc, e, hp', gc', ct, hje, hQ, _, hM⟩
  ·refine ⟨none, _, run_endLoop hM.lheap (by simp [rec0]), ?_⟩
   exact ⟨_, fin2 W _ _ _ _ _ hM, fin t hI⟩
  ·refine ⟨some jc, _, run_endLoop hM.lheap (by simp), ?_⟩
   have hE := fin2 W _ _ _ _ _ hM
   rcases hje with ⟨rfl, rfl⟩ | ⟨id, rfl, rfl⟩
   ·exact wpIn_ret ⟨_, hE, hQ⟩
   ·exact wpIn_exit ⟨_, hE, hQ⟩
 have hret : ∀ e W', (∃ v, e = .returned v) ∧ ((∃ It, J xs.length It W') ∨ Jx W') → rangePost (fenceR none) 0 P (w.heap.size + 1) (fun e a' w' => ∃ s', SimE C s' a' w' ∧ Q e s') { a with defers := [{ target := .collected w.heap.size, args := #[] }] ++ a.defers } e W' := by
  rintro e W' ⟨⟨v, rfl⟩, hJ⟩
  exact hRet W' hJ
 have hcalls := F2 w1 c.st vs (w.heap.size + 1) (fun β hb => by have := (hS.st β hb).1; omega) hl' (fun i x u hx hu' => ((hr' i x u hx hu').closed (hcl x (List.mem_of_getElem? hx)) (RC.pure c.st) (fun β hb => ⟨hb, hB1.block β (hS.st β hb).1⟩))) J Jx ?_ ?_ ?_ ?_
 ·exact callsR (Calls.mono hcalls hret)
 ·rintro i It It' W1 W2 ⟨t, ct, hI, hlt, hM⟩ hB hIt
  exact ⟨t, ct, hI, Nat.lt_of_lt_of_le hlt hB.size, hM.grow hB hIt (by omega) hlt⟩
 ·rintro W1 W2 ⟨jc, e, hp', gc', ct, hje, hQ, hlt, hM⟩ hB
  exact ⟨jc, e, hp', gc', ct, hje, hQ, Nat.lt_of_lt_of_le hlt hB.size, hM.grow hB (fun β h => .inl h) (by omega) hlt⟩
 ·rintro i x It W1 args hx ⟨t, ct, hI, hlt, hM⟩ hargl harg
  have hxm := List.mem_of_getElem? hx
  have hpl : args.length = ps.toList.length := hargl.trans (hxs x hxm)
  refine ⟨fn, _, assign, body, run_yield hM.lheap (by simpa [rec0] using hpl), ?_⟩
  have htm : (rec0.params.zip args.toArray).foldl (fun tmps (t, a) => tmps.setIfInBounds t a) rec0.tmps = (ps.toList.zip args).foldl (fun tmps (p : Nat × Value) => tmps.setIfInBounds p.1 p.2) a.tmps := by
   show (ps.zip args.toArray).foldl _ a.tmps = _
   rw [← Array.foldl_toList, Array.toList_zip]
  rw [htm]
  let cr : RC := ⟨ct.own, ct.used, fun β => ct.st β ∨ It β⟩
  have mcr : Mono ct cr W1 W1 := ⟨fun β hb => ⟨.inl hb, rfl⟩, fun _ h => h, fun _ _ _ _ h => h⟩
  obtain ⟨hsz, hfr⟩ := fr_setPs (c := cr) (w := W1) (n := n) ps.toList x args s.fr a.tmps hM.sim.sz hps hargl (hxs x hxm) (fun j b u hb hu2 => (harg j b u hb hu2).closed (hxc x hxm b (List.mem_of_getElem? hb)) cr (fun β hβ => ⟨.inr hβ, rfl⟩)) (fun t => (hM.sim.fr t).mono mcr)
  generalize (ps.toList.zip args).foldl (fun tmps (p : Nat × Value) => tmps.setIfInBounds p.1 p.2) a.tmps = tm at hsz hfr
  have simr : Sim ⟨P, T, ok, n, W1, cr.st, fun β => ∃ b g o, ct.own b g = some o ∧ o.loc = some β, (some (w.heap.size + 1), true), cr⟩ ⟨setPs ps.toList x s.fr, hp t, gc t⟩ cr { tmps := tm, defers := [] } W1 := by
   refine ⟨Nd.nil _ _ _ _, hsz, hfr, fun b blk hb => ?_, fun b g o ho => ?_, hM.sim.inj, fun β hb => ⟨?_, .inl hb⟩, fun β hb => hb, Old.refl _ _, Mono.refl _ _⟩
   ·obtain ⟨o, h1, h2⟩ := hM.sim.hp b blk hb
    exact ⟨o, h1, h2.mono mcr (fun _ _ => rfl)⟩
   ·obtain ⟨k1, k2, k4⟩ := hM.sim.al b g o ho
    refine ⟨k1, k2, fun β hβ => ?_⟩
    obtain ⟨q1, q2, q3⟩ := k4 β hβ
    exact ⟨q1, fun h => h.elim q2 (hM.own b g o β ho hβ), .inr ⟨b, g, o, ho, hβ⟩⟩
   ·rcases hb with h | h
    ·exact (hM.sim.st β h).1
    ·exact hM.itlt β h
  have R := round W1 cr.st (fun β => ∃ b g o, ct.own b g = some o ∧ o.loc = some β) (w.heap.size + 1) cr i x t hx hI _ W1 ⟨cr, simr, hM.gens⟩
  refine roundIn_of_wpIn (F := Fence.wide) trivial (wpIn_mono R ?_)
  rintro e a1 w1' ⟨s', ⟨c', hS', hu'⟩, hq⟩
  have hqn : e = .normal := by cases e <;> first | rfl | exact hq.elim
  subst hqn
  simp only [thenA] at hq
  have hl1 : w1'.heap[w.heap.size + 1]? = some (.loop rec0) := (hS'.old.block _ hlt (fun ⟨b, g, o, ho, hβ⟩ => hM.lown b g o ho hβ)).trans hM.lheap
  have hlc' : ¬ c'.st (w.heap.size + 1) := fun h => by
   rcases (hS'.st _ h).2 with k | k | ⟨b, g, o, ho, hβ⟩
   ·exact k.elim hM.lst hM.lit
   ·have : W1.heap.size ≤ w.heap.size + 1 := k
    omega
   ·exact hM.lown b g o ho hβ
  have hlo' : ∀ b g o, c'.own b g = some o → o.loc ≠ some (w.heap.size + 1) := fun b g o ho hβ => by
   rcases ((hS'.al b g o ho).2.2 _ hβ).2.2 with k | ⟨b, g, o, ho, hβ⟩
   ·have : W1.heap.size ≤ w.heap.size + 1 := k
    omega
   ·exact hM.lown b g o ho hβ
  refine ⟨_, run_beginRound hl1 rfl, ?_⟩
  have hw2 : ∀ β, β ≠ w.heap.size + 1 → (w1'.putObj (w.heap.size + 1) (.loop { rec0 with state := .busy })).heap[β]? = w1'.heap[β]? := fun β hβ => World.putObj_heap_other hβ
  have hlt' : w.heap.size + 1 < w1'.heap.size := (Array.getElem?_eq_some_iff.1 hl1).1
  have hL2 : (w1'.putObj (w.heap.size + 1) (.loop { rec0 with state := .busy })).heap[w.heap.size + 1]? = some (.loop { rec0 with state := .busy }) := World.putObj_heap_same hlt'
  have hsz2 : (w1'.putObj (w.heap.size + 1) (.loop { rec0 with state := .busy })).heap.size = w1'.heap.size := World.putObj_size
  have hS2 := hS'.rebase (w' := w1'.putObj (w.heap.size + 1) (.loop { rec0 with state := .busy })) (l := w.heap.size + 1) (hS'.nd.rd_ rfl) hw2 hsz2 hlc' hlo'
  have hos2 : (w1'.putObj (w.heap.size + 1) (.loop { rec0 with state := .busy })).os = w1'.os ∧ (w1'.putObj (w.heap.size + 1) (.loop { rec0 with state := .busy })).tape = w1'.tape ∧ (w1'.putObj (w.heap.size + 1) (.loop { rec0 with state := .busy })).output = w1'.output := ⟨rfl, rfl, rfl⟩
  generalize w1'.putObj (w.heap.size + 1) (.loop { rec0 with state := .busy }) = w2 at *
  refine wpIn_mono (hq w2 c'.st _ c' a1 w2 ⟨c', hS2, hu'⟩) ?_
  rintro e2 a3 w3 ⟨s3, ⟨c3, hS3, hu3⟩, hr⟩
  have hl3 : w3.heap[w.heap.size + 1]? = some (.loop { rec0 with state := .busy }) := (hS3.old.block _ (by show w.heap.size + 1 < w2.heap.size; omega) (fun ⟨b, g, o, ho, hβ⟩ => hlo' b g o ho hβ)).trans hL2
  have m12 : Mono c' c' w1' w2 := ⟨fun β h => ⟨h, hw2 β (fun e => hlc' (e ▸ h))⟩, fun _ h => h, fun _ _ _ _ h => h⟩
  have mr3 : Mono cr c3 W1 w3 := (hS'.mo.trans m12).trans hS3.mo
  have m3 : Mono ct c3 W1 w3 := mcr.trans mr3
  have hlc3 : ¬ c3.st (w.heap.size + 1) := fun h => by
   rcases (hS3.st _ h).2 with k | k | ⟨b, g, o, ho, hβ⟩
   ·exact hlc' k
   ·have : w2.heap.size ≤ w.heap.size + 1 := k
    omega
   ·exact hlo' b g o ho hβ
  have hlo3 : ∀ b g o, c3.own b g = some o → o.loc ≠ some (w.heap.size + 1) := fun b g o ho hβ => by
   rcases ((hS3.al b g o ho).2.2 _ hβ).2.2 with k | ⟨b, g, o, ho, hβ⟩
   ·have : w2.heap.size ≤ w.heap.size + 1 := k
    omega
   ·exact hlo' b g o ho hβ
  have hs1 : W1.heap.size ≤ w1'.heap.size := hS'.old.size
  have hs3 : w2.heap.size ≤ w3.heap.size := hS3.old.size
  have hs0 : w0.heap.size ≤ w.heap.size := hS.old.size
  have hltW : w.heap.size + 1 < W1.heap.size := hlt
  have hold : ∀ k, k < W1.heap.size → (∀ b g o, ct.own b g = some o → o.loc ≠ some k) → k ≠ w.heap.size + 1 → w3.heap[k]? = W1.heap[k]? := fun k hk hno hkl => by
   have e1 : w1'.heap[k]? = W1.heap[k]? := hS'.old.block k hk (fun ⟨b, g, o, ho, hβ⟩ => hno b g o ho hβ)
   have e2 : w3.heap[k]? = w2.heap[k]? := hS3.old.block k (by show k < w2.heap.size; omega) (fun ⟨b, g, o, ho, hβ⟩ => by
    rcases ((hS'.al b g o ho).2.2 _ hβ).2.2 with q | ⟨b, g, o, ho, hβ⟩
    ·have : W1.heap.size ≤ k := q
     omega
    ·exact hno b g o ho hβ)
   rw [e2, hw2 k hkl, e1]
  have hal' : ∀ b g o β, c'.own b g = some o → o.loc = some β → w0.heap.size ≤ β ∨ lent β := fun b g o β ho hβ => by
   rcases ((hS'.al b g o ho).2.2 _ hβ).2.2 with q | ⟨b, g, o, ho, hβ⟩
   ·have : W1.heap.size ≤ β := q
    exact .inl (by omega)
   ·exact ((hM.sim.al b g o ho).2.2 _ hβ).2.2
  have hal3 : ∀ b g o β, c3.own b g = some o → o.loc = some β → w0.heap.size ≤ β ∨ lent β := fun b g o β ho hβ => by
   rcases ((hS3.al b g o ho).2.2 _ hβ).2.2 with q | ⟨b, g, o, ho, hβ⟩
   ·have : w2.heap.size ≤ β := q
    exact .inl (by omega)
   ·exact hal' b g o β ho hβ
  have hst' : ∀ β, c'.st β → st0 β ∨ w0.heap.size ≤ β ∨ lent β := fun β hb => by
   rcases (hS'.st β hb).2 with q | q | ⟨b, g, o, ho, hβ⟩
   ·rcases q with q | q
    ·exact (hM.sim.st β q).2
    ·exact hM.itok β q
   ·have : W1.heap.size ≤ β := q
    exact .inr (.inl (by omega))
   ·exact .inr ((hM.sim.al b g o ho).2.2 _ hβ).2.2
  have hst3 : ∀ β, c3.st β → st0 β ∨ w0.heap.size ≤ β ∨ lent β := fun β hb => by
   rcases (hS3.st β hb).2 with q | q | ⟨b, g, o, ho, hβ⟩
   ·exact hst' β q
   ·have : w2.heap.size ≤ β := q
    exact .inr (.inl (by omega))
   ·exact .inr (hal' b g o β ho hβ)
  have hfin : ∀ (ob : Obj) (It' : Nat → Prop), (∀ β, It' β → It β) → Mine C a s.fr w.heap.size (w.heap.size + 1) ob It' (w3.putObj (w.heap.size + 1) ob) s3.hp s3.gc c3 := by
   intro ob It' hsub
   have hwo : ∀ β, β ≠ w.heap.size + 1 → (w3.putObj (w.heap.size + 1) ob).heap[β]? = w3.heap[β]? := fun β hβ => World.putObj_heap_other hβ
   have hD : w.heap.size ≠ w.heap.size + 1 := by omega
   refine ⟨hM.sim.back (C := C) (s0 := ⟨s.fr, hp t, gc t⟩) (l := w.heap.size + 1) hS3 m3 hold (by omega) ?_ ?_ ?_ hwo World.putObj_size rfl rfl rfl hlc3 hlo3 (by show w0.heap.size ≤ _; omega) hal3 hst3, hu3, (m3.st _ hM.dst).1, (hwo _ hD).trans ((m3.st _ hM.dst).2.trans hM.dheap), World.putObj_heap_same (Array.getElem?_eq_some_iff.1 hl3).1, hlc3, hlo3, fun b g o β ho hβ hi => ?_, fun h => hM.lit (hsub _ h), fun β h => ?_, fun β h => hM.itok β (hsub β h)⟩
   ·rw [hS3.old.os, hos2.1, hS'.old.os]
   ·rw [hS3.old.tape, hos2.2.1, hS'.old.tape]
   ·rw [hS3.old.output, hos2.2.2, hS'.old.output]
   ·exact ((hS3.al b g o ho).2.2 β hβ).2.1 (mr3.st β (.inr (hsub β hi))).1
   ·have := hM.itlt β (hsub β h)
    rw [World.putObj_size]
    omega
  have hkeep : ∀ ob, Keep It W1 (w3.putObj (w.heap.size + 1) ob) := fun ob =>
   ⟨by show w3.os = _; rw [hS3.old.os, hos2.1, hS'.old.os], by show w3.tape = _; rw [hS3.old.tape, hos2.2.1, hS'.old.tape], by show w3.output = _; rw [hS3.old.output, hos2.2.2, hS'.old.output], by rw [World.putObj_size]; omega, fun β hβ => by
    have hne : β ≠ w.heap.size + 1 := fun e => hM.lit (by rw [← e]; exact hβ)
    rw [World.putObj_heap_other hne]
    exact (mr3.st β (.inr hβ)).2⟩
  have hlt3 : ∀ ob, w.heap.size + 1 < (w3.putObj (w.heap.size + 1) ob).heap.size := fun ob => by rw [World.putObj_size]; omega
  cases e2 with
  | normal =>
   obtain ⟨t', g1, g2, g3⟩ := hr
   obtain ⟨c4, hM4⟩ := (hfin (.loop rec0) It (fun _ h => h)).le g1 g2
   exact ⟨_, _, run_endRound none hl3, hkeep _, .inl ⟨rfl, t', c4, g3, hlt3 _, hM4⟩⟩
  | ret => exact ⟨_, _, run_endRound (some .ret) hl3, hkeep _, .inr ⟨rfl, .ret, .ret, s3.hp, s3.gc, c3, .inl ⟨rfl, rfl⟩, hr, hlt3 _, hfin _ _ (fun _ h => h.elim)⟩⟩
  | exit id => exact ⟨_, _, run_endRound (some (.exit id)) hl3, hkeep _, .inr ⟨rfl, .exit id, .exit id, s3.hp, s3.gc, c3, .inr ⟨id, rfl, rfl⟩, hr, hlt3 _, hfin _ _ (fun _ h => h.elim)⟩⟩
  | goto _ => exact hr.elim
  | panic _ => exact hr.elim
  | outgrown => exact hr.elim
 ·-- the first round
  have hM0 : Mine C a s.fr w.heap.size (w.heap.size + 1) (.loop rec0) c.st w1 s.hp s.gc ⟨c.own, c.used, fun β => c.st β ∨ β = w.heap.size⟩ := by
   refine ⟨hS.grow (w' := w1) (fun β => c.st β ∨ β = w.heap.size) hB1 (fun β h => .inl h) (fun β h => h.imp id (fun e => by subst e; omega)) none .dead undef (fun e he => by cases he) (fun e => absurd rfl e), hu, .inr rfl, hD1, hL1, fun h => ?_, fun b g o ho hl => ?_, fun b g o β ho hβ hi => ((hS.al b g o ho).2.2 β hβ).2.1 hi, fun h => ?_, fun β h => ?_, fun β h => (hS.st β h).2⟩
   ·rcases h with h | h
    ·have := (hS.st _ h).1; omega
    ·omega
   ·have := ((hS.al b g o ho).2.2 _ hl).1; omega
   ·have := (hS.st _ h).1; omega
   ·have := (hS.st _ h).1; omega
  obtain ⟨c', hM'⟩ := hM0.le hs.1 hs.2
  exact ⟨t0, c', h0, by omega, hM'⟩
theorem awp_rangeFunc {s : AS} {Q : Exit → AS → Prop} {g : Operand} {ps : Array Tmp} {assign body : Code} {it : FuncId} {cap : List AV} {xs : List (List AV)} {τ : Type} (hp : τ → List (Nat × Option Blk)) (gc : τ → Nat) (I : Nat → τ → Prop) (t0 : τ) (hit : IterC P it cap xs) (hg : s.ev g = .clo (.func it) [] cap) (hcl : ∀ x, x ∈ cap → Closed x) (hxs : ∀ x, x ∈ xs → x.length = ps.toList.length) (hxc : ∀ x, x ∈ xs → ∀ a, a ∈ x → Closed a)
  (hps : ps.toList.all (fun p => Nat.blt p n) = true) (h0 : I 0 t0) (hs : HpLe s.hp (hp t0) ∧ s.gc ≤ gc t0)
  (round : ∀ (w0 : World) (st0 lent : Nat → Prop) (l : Nat) (c0 : RC) (i : Nat) (x : List AV) (t : τ), xs[i]? = some x → I i t →
   awp ⟨P, T, ok, n, w0, st0, lent, (some l, true), c0⟩ assign ⟨setPs ps.toList x s.fr, hp t, gc t⟩ (thenA (fun s' => ∀ (w0 : World) (st0 lent : Nat → Prop) (c0 : RC), awp ⟨P, T, ok, n, w0, st0, lent, (some l, true), c0⟩ body s' (roundA s.fr (fun hp' gc' => ∃ t', HpLe hp' (hp t') ∧ gc' ≤ gc t' ∧ I (i + 1) t') Q)) (fun _ _ => False)))
  (fin : ∀ t, I xs.length t → Q .normal ⟨s.fr, hp t, gc t⟩) : awp ⟨P, T, ok, n, w0, st0, lent, (none, false), c00⟩ (.rangeFunc g ps assign body) s Q :=
 awp_rangeFunc0 hg hit hcl hxs hxc (fun p hp => lt_of_blt (List.all_eq_true.1 hps p hp)) hp gc I t0 h0 hs round fin
end
end Go.Proofs.Ytkmlmboclegpcaa
namespace Go.Proofs.Ytkmlmboclegpcaa
open Go Go.RowKit
set_option maxRecDepth 100000
structure YCtx (P : Program) (T : Nat → Option TI) (ok : ∀ t ti, T t = some ti → tiOf P t = some ti) (n : Nat) (xs : List (List AV)) where
 l : Nat
 J : Nat → (Nat → Prop) → World → Prop
 Jx : World → Prop
 hJ : ∀ i It It' W1 W2, J i It W1 → Below W1.heap.size W1 W2 → (∀ β, It' β → It β ∨ (W1.heap.size ≤ β ∧ β < W2.heap.size)) → J i It' W2
 hJx : ∀ W1 W2, Jx W1 → Below W1.heap.size W1 W2 → Jx W2
 hR : ∀ (i : Nat) (x : List AV) (It : Nat → Prop) (W1 : World) (args : List Value), xs[i]? = some x → J i It W1 → args.length = x.length → (∀ (j : Nat) (a : AV) (u : Value), x[j]? = some a → args[j]? = some u → Rep (RC.pure It) W1 a u) →
   YieldAt Fence.wide 0 P l args.toArray W1 (fun e W2 => Keep It W1 W2 ∧ ((e = .returned (.bool true) ∧ J (i + 1) It W2) ∨ (e = .returned (.bool false) ∧ Jx W2)))
variable {P : Program} {T : Nat → Option TI} {ok : ∀ t ti, T t = some ti → tiOf P t = some ti} {n : Nat} {xs : List (List AV)}
def YCtx.ctx (Y : YCtx P T ok n xs) (W : World) (st : Nat → Prop) : ACtx := ⟨P, T, ok, n, W, st, fun _ => False, (none, true), RC.bare st⟩
def YCtx.JJ (Y : YCtx P T ok n xs) : Option Nat → (Nat → Prop) → World → Prop
 | some i, It, W => Y.J i It W
 | none, _, W => Y.Jx W
def SimY (Y : YCtx P T ok n xs) (ph : Option Nat) (s : AS) (a : Act) (w : World) : Prop := ∃ W st, Y.JJ ph st W ∧ (∀ β, st β → β < W.heap.size) ∧ SimE (Y.ctx W st) s a w
def awpY (Y : YCtx P T ok n xs) (c : Code) (ph : Option Nat) (s : AS) (Q : Exit → Option Nat → AS → Prop) : Prop :=
 ∀ a w, SimY Y ph s a w → c.wpIn Fence.wide 0 P (fun e a' w' => ∃ ph' s', SimY Y ph' s' a' w' ∧ Q e ph' s') a w
section
variable {Y : YCtx P T ok n xs} {ph : Option Nat} {s : AS} {Q : Exit → Option Nat → AS → Prop}
theorem awpY_plain {c : Code} (h : ∀ W st, awp (Y.ctx W st) c s (fun e s' => Q e ph s')) : awpY Y c ph s Q := fun a w ⟨W, st, hJ, hb, hs⟩ =>
 wpIn_mono (h W st a w hs) (fun e a' w' ⟨s', h1, h2⟩ => ⟨ph, s', ⟨W, st, hJ, hb, h1⟩, h2⟩)
def thenY (next : Option Nat → AS → Prop) (Q : Exit → Option Nat → AS → Prop) : Exit → Option Nat → AS → Prop
 | .normal, ph, s => next ph s
 | e, ph, s => Q e ph s
theorem awpY_seq {x y : Code} (h : awpY Y x ph s (thenY (fun ph' s' => awpY Y y ph' s' Q) Q)) : awpY Y (.seq x y) ph s Q := fun a w hs =>
 wpIn_seq (wpIn_mono (h a w hs) (fun e a' w' ⟨ph', s', h1, h2⟩ => by
  cases e <;> first
   | exact h2 a' w' h1
   | exact ⟨ph', s', h1, h2⟩))
def blockY (id : Nat) (Q : Exit → Option Nat → AS → Prop) : Exit → Option Nat → AS → Prop
 | .exit id', ph, s => if id' = id then Q .normal ph s else Q (.exit id') ph s
 | e, ph, s => Q e ph s
theorem awpY_block {id : Nat} {c : Code} (h : awpY Y c ph s (blockY id Q)) : awpY Y (.block id c) ph s Q := fun a w hs =>
 wpIn_block (wpIn_mono (h a w hs) (fun e a' w' ⟨ph', s', h1, h2⟩ => by
  cases e with
  | exit id' =>
   simp only [Exit.inBlock, blockY] at h2 ⊢
   split
   ·rename_i hid; rw [if_pos hid] at h2; exact ⟨ph', s', h1, h2⟩
   ·rename_i hid; rw [if_neg hid] at h2; exact ⟨ph', s', h1, h2⟩
  | _ => exact ⟨ph', s', h1, h2⟩))
theorem awpY_skip (h : Q .normal ph s) : awpY Y .skip ph s Q := fun _ _ hs => wpIn_skip ⟨ph, s, hs, h⟩
theorem awpY_exit {id : Nat} (h : Q (.exit id) ph s) : awpY Y (.exit id) ph s Q := fun _ _ hs => wpIn_exit ⟨ph, s, hs, h⟩
theorem awpY_ret (h : Q .ret ph s) : awpY Y .ret ph s Q := fun _ _ hs => wpIn_ret ⟨ph, s, hs, h⟩
theorem awpY_cond {x : Operand} {c d : Code} {b : Bool} (hv : s.ev x = .val (.bool b)) (ht : b = true → awpY Y c ph s Q) (hf : b = false → awpY Y d ph s Q) : awpY Y (.cond x c d) ph s Q := by
 intro a w hs
 have he : a.eval x = .bool b := by
  obtain ⟨W, st, _, _, c', hS, _⟩ := hs
  have := hS.ev x
  rw [hv] at this
  generalize a.eval x = u at this
  cases this
  rfl
 exact wpIn_cond_split he (fun e => ht e a w hs) (fun e => hf e a w hs)
theorem awpY_loopT {c : Code} {τ : Type} (S : τ → AS) (φ : τ → Option Nat) (I : τ → Prop) (μ : τ → Nat) (t0 : τ) (h0 : I t0) (hph : ph = φ t0) (hs : FrLe s.fr (S t0).fr ∧ HpLe s.hp (S t0).hp ∧ s.gc ≤ (S t0).gc)
  (round : ∀ t, I t → awpY Y c (φ t) (S t) (thenY (fun ph' s' => ∃ t', ph' = φ t' ∧ (FrLe s'.fr (S t').fr ∧ HpLe s'.hp (S t').hp ∧ s'.gc ≤ (S t').gc) ∧ I t' ∧ μ t' < μ t) Q)) : awpY Y (.loop c) ph s Q := by
 intro a w ⟨W, st, hJ, hb, hsim⟩
 subst hph
 refine wp_loop_ex (rd := none) (I := fun (t : τ) a w => SimY Y (φ t) (S t) a w ∧ I t) μ (t := t0) ⟨⟨W, st, hJ, hb, hsim.le hs.1 hs.2.1 hs.2.2⟩, h0⟩ (fun t a w ht => ?_)
 refine wpIn_mono (round t ht.2 a w ht.1) (fun e a' w' ⟨ph', s', h1, h2⟩ => ?_)
 cases e with
 | normal =>
  obtain ⟨t', k0, k1, k2, k3⟩ := h2
  subst k0
  obtain ⟨W, st, hJ, hb, hsim⟩ := h1
  exact ⟨t', ⟨⟨W, st, hJ, hb, hsim.le k1.1 k1.2.1 k1.2.2⟩, k2⟩, k3⟩
 | _ => exact ⟨ph', s', h1, h2⟩
end
theorem wpOpsIn_append {F : Fence} {n : Nat} {P : Program} {ops : Array Oper} {Q : Exit → Act → World → Prop} : ∀ (l1 l2 : List Nat) (a : Act) (w : World), wpOpsIn F n P ops (Exit.then (wpOpsIn F n P ops Q l2) Q) l1 a w → wpOpsIn F n P ops Q (l1 ++ l2) a w
 | [], l2, a, w, h => h
 | i :: l1, l2, a, w, h => by
  rw [wpOpsIn_cons] at h
  rw [List.cons_append, wpOpsIn_cons]
  unfold wpOpIn at h ⊢
  split
  ·rename_i ho
   simp only [ho] at h
   exact wpOpsIn_append l1 l2 a w h
  ·rename_i o ho
   simp only [ho] at h
   split
   ·rename_i hw
    rw [if_pos hw] at h
    refine ⟨h.1, ?_⟩
    have h2 := h.2
    generalize (o.semAt F.round a.eval).run P w = r at h2
    cases r with
    | ok x w' =>
     cases x <;> simp only [Oper.uponIn] at h2 ⊢ <;> first
      | exact wpOpsIn_append l1 l2 _ _ h2
      | exact ⟨h2.1, h2.2.mono (fun e w'' he => by cases e <;> first | exact wpOpsIn_append l1 l2 _ _ he | exact he)⟩
      | exact ⟨h2.1, h2.2.mono (fun v w'' he => wpOpsIn_append l1 l2 _ _ he)⟩
    | halt x w' => cases x <;> simp only [Oper.uponIn] at h2 ⊢ <;> exact h2
   ·rename_i hw
    rw [if_neg hw] at h
    exact ⟨h.1, wpOpsIn_append l1 l2 _ _ h.2⟩
end Go.Proofs.Ytkmlmboclegpcaa
namespace Go.Proofs.Ytkmlmboclegpcaa
open Go Go.RowKit
set_option maxRecDepth 100000
theorem wanted_of {C : ACtx} {ops : Array Oper} {s : AS} {c : RC} {a : Act} {w : World} {o : Oper} {b : Bool} (hS : Sim C s c a w) (hg : guardIs ops s o b) : Region.wanted o (yielded ops a.tmps) = b := by
 unfold Region.wanted
 unfold guardIs at hg
 split at hg
 ·rename_i hgn
  rw [hgn, hg]
 ·rename_i j want hgn
  obtain ⟨oj, d, q1, q2, q3⟩ := hg
  rw [hgn]
  rcases q3.symm with ⟨vs, q4, q5⟩ | ⟨b, q4, q5⟩
  ·have hr := hS.fr d
   rw [q4] at hr
   have hd' : a.tmps[d]? = none ∨ a.tmps[d]? = some (.tuple vs) := by
    rw [Array.getD_eq_getD_getElem?] at hr
    cases hg : a.tmps[d]? with
    | none => exact .inl rfl
    | some u => rw [hg] at hr; cases hr; exact .inr rfl
   have : yielded ops a.tmps j = none := by
    unfold yielded
    rw [q1]
    rcases hd' with h | h <;> simp [q2, h]
   simp only [this, q5]
   rfl
  have hr := hS.fr d
  rw [q4] at hr
  have hd' : a.tmps[d]? = some (.bool b) := by
   rw [Array.getD_eq_getD_getElem?] at hr
   cases hg : a.tmps[d]? with
   | none => rw [hg] at hr; cases hr
   | some u => rw [hg] at hr; cases hr; rfl
  have : yielded ops a.tmps j = some b := by
   unfold yielded
   rw [q1]
   simp [q2, hd']
  simp only [this, q5]
  cases b <;> cases want <;> rfl
theorem pre_seq {C : ACtx} {ops : Array Oper} {K : AS → List (List Nat × List Nat) → Prop} {k : Nat} {l : List Oper} {s : AS} {Q : Exit → Act → World → Prop} (hops : ∀ (j : Nat) (o : Oper), l[j]? = some o → ops[k + j]? = some o) (h : ARun C ops K k l s []) {c : RC} {a : Act} {w : World} (hS : Sim C s c a w) (hu : ∀ g, c.used g → g < s.gc)
  (hQ : ∀ s' c' a' w' fps, Sim C s' c' a' w' → (∀ g, c'.used g → g < s.gc + (k + l.length)) → s'.gc = s.gc → K s' fps → Q .normal a' w') : wpOpsIn (fenceR C.rd.1) 0 C.P ops Q (List.range' k l.length) a w := by
 obtain ⟨its, h1, h2, h3, h4⟩ := ARun.spec l k s [] h
 rw [← h1]
 refine reg_seq (s0 := s) (F := final s its) (fun g => g < s.gc) (k + l.length) (fun s' c' a' w' hS' he hu' => ?_) (fun k => by omega) its k s c a w hS rfl h2 (AS.eqv.refl _) (fun j it hj => ⟨(h3 j it hj).1, hops j it.o (h3 j it hj).2⟩) (by omega) (fun g hg => .inl (hu g hg))
 refine hQ (final s its) c' a' w' _ (hS'.congr he.fr he.hp) (fun g hg => ?_) (final_gc its s) h4
 rcases hu' g hg with h | ⟨j, hj, e⟩ <;> omega
theorem ARun.nil {C : ACtx} {ops : Array Oper} {K : AS → List (List Nat × List Nat) → Prop} {k : Nat} {s : AS} {fps : List (List Nat × List Nat)} (h : K s fps) : ARun C ops K k [] s fps := h
def ClosedFr (fr : List (Nat × AV)) : Prop := ∀ p, p ∈ fr → Closed p.2
theorem ClosedFr.nil : ClosedFr [] := fun p h => by cases h
theorem ClosedFr.cons {t : Nat} {v : AV} {fr : List (Nat × AV)} (h : Closed v) (r : ClosedFr fr) : ClosedFr ((t, v) :: fr) := fun p hp => by
 rcases List.mem_cons.1 hp with rfl | hp
 ·exact h
 ·exact r p hp
theorem ClosedFr.lk {fr : List (Nat × AV)} (h : ClosedFr fr) (t : Nat) : Closed (lkA fr t) ∨ lkA fr t = .dead := by
 induction fr with
 | nil => exact .inr rfl
 | cons p fr ih =>
  obtain ⟨k, v⟩ := p
  rw [lkA_cons]
  split
  ·exact .inl (h (k, v) (by simp))
  ·exact ih (fun p hp => h p (by simp [hp]))
section
variable {P : Program} {T : Nat → Option TI} {ok : ∀ t ti, T t = some ti → tiOf P t = some ti} {n : Nat} {xs : List (List AV)}
def YieldK (Y : YCtx P T ok n xs) (l : List Oper) (k i gc : Nat) (d : Nat) (fx : Operand) (args : Array Operand) (o : Oper) (x : List AV) (fr2 : List (Nat × AV)) (Q : Exit → Option Nat → AS → Prop) : AS → List (List Nat × List Nat) → Prop := fun s1 _ =>
 guardF l.toArray s1.fr o = some true ∧ evA s1.fr fx = .val (.func (.yield Y.l) #[] #[]) ∧ args.toList.map (evA s1.fr) = x ∧ FrLe s1.fr fr2 ∧
 (∀ W st, ARun (Y.ctx W st) l.toArray (fun s2 _ => Q .normal (some (i + 1)) ⟨s2.fr, s2.hp, s2.gc + l.length⟩) (k + 1) (l.drop (k + 1)) ⟨(d, .val (.bool true)) :: fr2, [], gc⟩ []) ∧
 (∀ W st, ARun (Y.ctx W st) l.toArray (fun s2 _ => Q .normal none ⟨s2.fr, s2.hp, s2.gc + l.length⟩) (k + 1) (l.drop (k + 1)) ⟨(d, .val (.bool false)) :: fr2, [], gc⟩ [])
theorem awpY_yield {Y : YCtx P T ok n xs} {i : Nat} {s : AS} {Q : Exit → Option Nat → AS → Prop} {id : Nat} {l : List Oper} {fx : Operand} {args : Array Operand} {ats : Array TypeId} {d : Nat} {ty : TypeId} {pos : String} {after : Array Edge} {gd : Option (Nat × Bool)} (k : Nat) (x : List AV) (fr2 : List (Nat × AV)) (ho : l[k]? = some ⟨some d, .call ⟨.value fx, args, ats⟩, ty, pos, after, gd⟩) (hx : xs[i]? = some x) (hxc : ∀ a, a ∈ x → Closed a) (hfc : ClosedFr fr2) (hd : Nat.blt d n = true)
  (h : ∀ W st, ARun (Y.ctx W st) l.toArray (YieldK Y l k i s.gc d fx args ⟨some d, .call ⟨.value fx, args, ats⟩, ty, pos, after, gd⟩ x fr2 Q) 0 (l.take k) s []) : awpY Y (.region id l.toArray false) (some i) s Q := by
 intro a w ⟨W, st, hJ, hb, c, hS, hu⟩
 have hk : k < l.length := (List.getElem?_eq_some_iff.1 ho).1
 refine wpIn_region ?_
 have e1 : List.range l.toArray.size = List.range' 0 (l.take k).length ++ (k :: List.range' (k + 1) (l.drop (k + 1)).length) := by
  rw [List.range_eq_range', List.length_take, List.length_drop, List.size_toArray, show min k l.length = k by omega]
  have : List.range' 0 l.length = List.range' 0 k ++ List.range' k (l.length - k) := by
   have := (List.range'_append (s := 0) (m := k) (n := l.length - k) (step := 1)).symm
   rw [show k + (l.length - k) = l.length by omega] at this
   simpa using this
  rw [this, show l.length - k = (l.length - (k + 1)) + 1 by omega, List.range'_succ]
 rw [e1]
 refine wpOpsIn_append _ _ _ _ ?_
 refine pre_seq (C := Y.ctx W st) (ops := l.toArray) (fun j o hj => ?_) (h W st) hS hu (fun s1 c1 a1 w1 fps hS1 hu1 hgc hK => ?_)
 ·rw [Nat.zero_add, List.getElem?_toArray]
  rw [List.getElem?_take] at hj
  split at hj
  ·exact hj
  ·cases hj
 obtain ⟨k1, k2, k3, k4, k5, k6⟩ := hK
 show wpOpsIn Fence.wide 0 P l.toArray _ (k :: List.range' (k + 1) (l.drop (k + 1)).length) a1 w1
 rw [wpOpsIn_cons]
 unfold wpOpIn
 rw [List.getElem?_toArray, ho]
 simp only
 rw [if_pos (wanted_of hS1 (guardF_spec k1))]
 -- what the loop's party holds by now
 have hB : Below W.heap.size W w1 := ⟨hS1.old.os, hS1.old.tape, hS1.old.output, hS1.old.size, fun k hk => hS1.old.block k hk (fun h => h)⟩
 have hJ1 : Y.J i c1.st w1 := Y.hJ i st c1.st W w1 hJ hB (fun β hβ => by
  obtain ⟨q1, q2 | q2 | q2⟩ := hS1.st β hβ
  ·exact .inl q2
  ·exact .inr ⟨q2, q1⟩
  ·exact q2.elim)
 have hfx := hS1.ev fx
 have hfx' : Rep c1 w1 (.val (.func (.yield Y.l) #[] #[])) (a1.eval fx) := by rw [← k2]; exact hfx
 have hfx2 := hfx'.val_inv
 have hal : (args.toList.map a1.eval).length = x.length := by rw [← k3]; simp
 have hrep : ∀ (j : Nat) (b : AV) (u : Value), x[j]? = some b → (args.toList.map a1.eval)[j]? = some u → Rep (RC.pure c1.st) w1 b u := fun j b u hb2 hu2 => by
  rw [← k3, List.getElem?_map] at hb2
  rw [List.getElem?_map] at hu2
  cases hz : args.toList[j]? with
  | none => rw [hz] at hb2; cases hb2
  | some z =>
   rw [hz] at hb2 hu2
   simp only [Option.map_some, Option.some.injEq] at hb2 hu2
   subst hu2
   have hzx : evA s1.fr z ∈ x := by
    rw [← k3]
    exact List.mem_map_of_mem (List.mem_of_getElem? hz)
   rw [← hb2]
   exact (hS1.ev z).closed (hxc _ hzx) (RC.pure c1.st) (fun β hβ => ⟨hβ, rfl⟩)
 obtain ⟨fn, tmps, assign, body, hy, hround⟩ := Y.hR i x c1.st w1 (args.toList.map a1.eval) hx hJ1 hal hrep
 have hrun : (execOp a1.eval ⟨some d, .call ⟨.value fx, args, ats⟩, ty, pos, after, gd⟩).run P w1 = .ok (.round Y.l fn tmps assign body) w1 := by
  have e : (args.toList.map a1.eval).toArray = args.map a1.eval := by
   apply Array.ext'
   rw [Array.toList_map]
  rw [e] at hy
  simp [execOp, resolve, hfx2, Deferred.ofValue, invoke, hy]
 refine ⟨fun _ _ => trivial, ?_⟩
 rw [show Fence.wide.round = none from rfl, Oper.semAt_none, hrun, Oper.uponIn_round]
 refine ⟨fun h => (by cases h), hround.mono (fun e w2 ⟨hkp, hor⟩ => ?_)⟩
 have post : ∀ (b : Bool) (ph : Option Nat), Y.JJ ph c1.st w2 → (∀ W st, ARun (Y.ctx W st) l.toArray (fun s2 _ => Q .normal ph ⟨s2.fr, s2.hp, s2.gc + l.length⟩) (k + 1) (l.drop (k + 1)) ⟨(d, .val (.bool b)) :: fr2, [], s.gc⟩ []) →
   wpOpsIn Fence.wide 0 P l.toArray (fun e a' w' => ∃ ph' s', SimY Y ph' s' a' w' ∧ Q e ph' s') (List.range' (k + 1) (l.drop (k + 1)).length) (a1.put (some d) (.bool b)) w2 := by
  intro b ph hph hA
  have hst1 : ∀ β, c1.st β → β < w2.heap.size := fun β hβ => Nat.lt_of_lt_of_le (hS1.st β hβ).1 hkp.size
  have hdn : d < n := lt_of_blt hd
  have hS2 : Sim (Y.ctx w2 c1.st) ⟨(d, .val (.bool b)) :: fr2, [], s.gc⟩ (RC.bare c1.st) (a1.put (some d) (.bool b)) w2 := by
   refine ⟨?_, (Act.put_size a1 (some d) (.bool b)).trans hS1.sz, fun t => ?_, fun b blk hb => by simp [lkH] at hb, fun b g o ho => by simp [RC.bare] at ho, fun b g o b' g' o' β h => by simp [RC.bare] at h, fun β hβ => ⟨hst1 β hβ, .inl hβ⟩, fun β hβ => hβ, Old.refl _ _, Mono.refl _ _⟩
   ·rw [Act.put_nd, hS1.nd.rd_ rfl]
    exact Nd.nil _ _ _ _
   ·have hsz : a1.tmps.size = n := hS1.sz
    rw [lkA_cons, tmps_put a1 (some d) (.bool b) t (fun e he => by obtain rfl := Option.some.inj he; omega)]
    by_cases h : t = d
    ·subst h
     rw [if_pos rfl, if_pos rfl]
     exact .val _
    ·rw [if_neg h, if_neg (fun e => h (Option.some.inj e).symm)]
     rcases k4.spec t with e | e
     ·rcases hfc.lk t with hc | hc
      ·have := hS1.fr t
       rw [← e] at this
       exact this.closed hc (RC.bare c1.st) (fun β hβ => ⟨hβ, hkp.block β hβ⟩)
      ·rw [hc]
       exact .dead _
     ·rw [e]
      exact .dead _
  refine pre_seq (C := Y.ctx w2 c1.st) (ops := l.toArray) (fun j o hj => ?_) (hA w2 c1.st) hS2 (fun g hg => hg.elim) (fun s2 c2 a2 w3 fps hSf huf hgcf hKf => ?_)
  ·rw [List.getElem?_drop] at hj
   rw [List.getElem?_toArray]
   exact hj
  ·refine ⟨ph, ⟨s2.fr, s2.hp, s2.gc + l.length⟩, ⟨w2, c1.st, hph, hst1, c2, hSf.congr (fun _ => rfl) (fun _ => rfl), fun g hg => ?_⟩, hKf⟩
   have := huf g hg
   simp only at hgcf this ⊢
   rw [List.length_drop] at this
   omega
 rcases hor with ⟨he, hj2⟩ | ⟨he, hj2⟩
 ·subst he
  exact post true (some (i + 1)) hj2 k5
 ·subst he
  exact post false none hj2 k6
end
theorem IterC.of_awpY {P : Program} {T : Nat → Option TI} {ok : ∀ t ti, T t = some ti → tiOf P t = some ti} {f : FuncId} {fn : Func} {code : Code} {cap : List AV} {xs : List (List AV)} (hf : P.funcs[f]? = some fn)
  (hn : (fn.name == "runtime.NumGoroutine") = false) (hb : fn.body = some code) (hres : fn.results = #[]) (hlen : Nat.ble (cap.length + 1) fn.ntmps = true) (hcl : ∀ x, x ∈ cap → Closed x)
  (h : ∀ Y : YCtx P T ok fn.ntmps xs, awpY Y code (some 0) ⟨frOf 0 (.val (.func (.yield Y.l) #[] #[]) :: cap), [], 0⟩ (fun e ph s => (e = .normal ∨ e = .ret) ∧ (ph = some xs.length ∨ ph = none))) : IterC P f cap xs := by
 refine ⟨fun vs w => ?_, fun W st us l hst hl hr J Jx hJ hJx hR hJ0 => ?_⟩
 ·have hn' : ¬ fn.name = "runtime.NumGoroutine" := by simpa using hn
  simp [callFunc, hf, hn', hb]
 ·refine calls_of_wp hf hb ((wpIn_wide (n := 0)).1 ?_)
  let Y : YCtx P T ok fn.ntmps xs := ⟨l, J, Jx, hJ, hJx, hR⟩
  have hle := Nat.le_of_ble_eq_true hlen
  generalize hvs : (Value.func (.yield l) #[] #[]) :: us = vs
  generalize hav : (AV.val (.func (.yield l) #[] #[])) :: cap = args
  have hlv : vs.length = args.length := by rw [← hvs, ← hav]; simp [hl]
  have hrv : ∀ (i : Nat) (x : AV) (u : Value), args[i]? = some x → vs[i]? = some u → Rep (RC.pure st) W x u := fun i x u hx hu => by
   rw [← hav] at hx
   rw [← hvs] at hu
   cases i with
   | zero =>
    simp only [List.getElem?_cons_zero, Option.some.injEq] at hx hu
    rw [← hx, ← hu]
    exact .val _
   | succ i => exact hr i x u (by simpa using hx) (by simpa using hu)
  have hclv : ∀ x, x ∈ args → Closed x := fun x hx => by
   rw [← hav] at hx
   rcases List.mem_cons.1 hx with rfl | hx
   ·exact .val _
   ·exact hcl x hx
  have hla : args.length ≤ fn.ntmps := by rw [← hav]; simpa using hle
  have hS : SimE (Y.ctx W st) ⟨frOf 0 args, [], 0⟩ { tmps := vs.toArray ++ Array.replicate (fn.ntmps - vs.toArray.size) undef, defers := [] } W := by
   refine ⟨⟨fun _ _ => none, fun _ => False, st⟩, ⟨Nd.nil _ _ _ _, by show _ = fn.ntmps; simp; omega, fun t => ?_, fun b blk hb => by simp [lkH] at hb, fun b g o ho => by simp at ho, fun b g o b' g' o' β h => by simp at h, fun β hb => ⟨hst β hb, .inl hb⟩, fun β hb => hb, Old.refl _ _, Mono.refl _ _⟩, fun g hg => hg.elim⟩
   simp only
   rw [lk_frOf]
   simp only [Nat.zero_le, if_true, Nat.sub_zero]
   cases hx : args[t]? with
   | none => exact .dead _
   | some x =>
    have ht : t < vs.length := by rw [hlv]; exact (List.getElem?_eq_some_iff.1 hx).1
    have : (vs.toArray ++ Array.replicate (fn.ntmps - vs.toArray.size) undef).getD t undef = vs[t] := by
     simp [Array.getD_eq_getD_getElem?, Array.getElem?_append, ht]
    rw [this]
    have := hrv t x vs[t] hx (List.getElem?_eq_getElem ht)
    simp only [Option.getD_some]
    exact this.closed (hclv x (List.mem_of_getElem? hx)) _ (fun β hb => ⟨hb, rfl⟩)
  have hh := h Y
  rw [show (AV.val (.func (.yield Y.l) #[] #[])) :: cap = args from hav] at hh
  refine wpIn_mono (hh _ W ⟨W, st, hJ0, hst, hS⟩) (fun e a' w' ⟨ph, s', ⟨W', st', hj, hb', c', hS', _⟩, he, hph⟩ => ?_)
  have hB : Below W'.heap.size W' w' := ⟨hS'.old.os, hS'.old.tape, hS'.old.output, hS'.old.size, fun k hk => hS'.old.block k hk (fun h => h)⟩
  have fin : a'.defers = [] ∧ ∃ v, (results fn a'.tmps).run P w' = .ok v w' ∧ (∃ v', Ending.returned v = .returned v') ∧ ((∃ It, J xs.length It w') ∨ Jx w') := by
   refine ⟨hS'.nd.rd_ rfl, .tuple #[], ?_, ⟨_, rfl⟩, ?_⟩
   ·simp [results, hres]
   ·rcases hph with rfl | rfl
    ·exact .inl ⟨st', hJ _ st' st' W' w' hj hB (fun β h => .inl h)⟩
    ·exact .inr (hJx W' w' hj hB)
  rcases he with rfl | rfl
  ·exact fin
  ·exact fin
end Go.Proofs.Ytkmlmboclegpcaa
namespace Go.Proofs.Ytkmlmboclegpcaa
open Go Go.RowKit
set_option maxRecDepth 100000
section
variable {C : ACtx} {ops : Array Oper} {K : AS → List (List Nat × List Nat) → Prop} {k : Nat} {rest : List Oper} {fr : List (Nat × AV)} {hp : List (Nat × Option Blk)} {gc : Nat} {fps : List (List Nat × List Nat)}
 {d : Nat} {ty : TypeId} {pos : String} {after : Array Edge} {gd : Option (Nat × Bool)} {x y z : Operand} {v : AV}
theorem ARun.fld {t n : Nat} {es : List AV} {tif : TI} {fields : Array Field} {fl : Field} (hx : evA fr x = .agg es) (hu : C.P.underlying t = some (.struct fields)) (hf : fields[n]? = some fl) (htf : C.T fl.type = some tif)
  (hv : (tif.k.agg = true ∧ ∃ cs, loadCs es fl.offset tif.size = some cs ∧ v = .agg cs) ∨ (tif.k.agg = false ∧ es[fl.offset]? = some v))
  (hd : Nat.blt d C.n = true) (hg : guardIs ops ⟨fr, hp, gc⟩ ⟨some d, .field t x n, ty, pos, after, gd⟩ true)
  (nx : ARun C ops K (k + 1) rest ⟨(d, v) :: fr, hp, gc⟩ (fps ++ [([], [])])) : ARun C ops K k (⟨some d, .field t x n, ty, pos, after, gd⟩ :: rest) ⟨fr, hp, gc⟩ fps :=
 ARun.field (ti := ⟨.other, 0, 0, []⟩) (fs := []) (off := 0) (sz := 0) (tf := 0) hx hu hf htf hv hd hg nx
theorem ARun.min2 {kk kk' : IntKind} {n m : Int} {ats : Array TypeId} (hx : evA fr x = .val (.int kk n)) (hy : evA fr y = .val (.int kk' m)) (hd : Nat.blt d C.n = true) (hg : guardIs ops ⟨fr, hp, gc⟩ ⟨some d, .call ⟨.builtin .min, #[x, y], ats⟩, ty, pos, after, gd⟩ true)
  (nx : ARun C ops K (k + 1) rest ⟨(d, .val (.int kk (min n m))) :: fr, hp, gc⟩ (fps ++ [([], [])])) : ARun C ops K k (⟨some d, .call ⟨.builtin .min, #[x, y], ats⟩, ty, pos, after, gd⟩ :: rest) ⟨fr, hp, gc⟩ fps :=
 ARun.quiet hd hg [] (by simp) (fun s c a w hS hev _ => by
  have h1 := hev x (by simp [Op.operands, Call.operands])
  have h2 := hev y (by simp [Op.operands, Call.operands])
  rw [hx] at h1
  rw [hy] at h2
  have h1 := h1.val_inv
  have h2 := h2.val_inv
  have e : (if m < n then m else n) = min n m := by omega
  exact ⟨_, by simp [execOp, resolve, invoke, builtin, h1, h2, run_min_int2, e], .val _⟩) nx
end
section
variable {P : Program} {T : Nat → Option TI} {ok : ∀ t ti, T t = some ti → tiOf P t = some ti} {n : Nat} {xs : List (List AV)} {Y : YCtx P T ok n xs} {ph : Option Nat} {s : AS} {Q : Exit → Option Nat → AS → Prop}
theorem awpY_condT {x : Operand} {c d : Code} {b : Bool} (hv : s.ev x = .val (.bool b)) (hb : b = true) (h : awpY Y c ph s Q) : awpY Y (.cond x c d) ph s Q :=
 awpY_cond hv (fun _ => h) (fun e => by rw [hb] at e; cases e)
theorem awpY_condF {x : Operand} {c d : Code} {b : Bool} (hv : s.ev x = .val (.bool b)) (hb : b = false) (h : awpY Y d ph s Q) : awpY Y (.cond x c d) ph s Q :=
 awpY_cond hv (fun e => by rw [hb] at e; cases e) (fun _ => h)
end
end Go.Proofs.Ytkmlmboclegpcaa
namespace Go.Proofs.Ytkmlmboclegpcaa
open Go Go.RowKit
set_option maxRecDepth 100000
def lendOwn (os : List OB) : Nat → Nat → Option OB := fun b g => if b = 1000 + g then os[g]? else none
def RC.lend (os : List OB) (st : Nat → Prop) : RC := ⟨lendOwn os, fun g => g < os.length, st⟩
theorem lendOwn_at (os : List OB) (j : Nat) : lendOwn os (1000 + j) j = os[j]? := if_pos rfl
theorem lendOwn_some {os : List OB} {b g : Nat} {o : OB} (h : lendOwn os b g = some o) : b = 1000 + g ∧ os[g]? = some o := by
 unfold lendOwn at h
 split at h
 ·rename_i e; exact ⟨e, h⟩
 ·cases h
abbrev LB := Nat × List (List AV)
def hpFrom : Nat → List LB → List (Nat × Option Blk)
 | _, [] => []
 | k, p :: l => (1000 + k, some ⟨k, p.1, p.2⟩) :: hpFrom (k + 1) l
theorem lk_hpFrom : ∀ (l : List LB) (k b : Nat) (blk : Blk), lkH (hpFrom k l) b = some blk → ∃ j p, l[j]? = some p ∧ b = 1000 + (k + j) ∧ blk = ⟨k + j, p.1, p.2⟩
 | [], k, b, blk, h => by simp [hpFrom, lkH] at h
 | p :: l, k, b, blk, h => by
  rw [hpFrom, lkH_cons] at h
  split at h
  ·rename_i e
   exact ⟨0, p, rfl, by omega, (Option.some.inj h).symm⟩
  ·obtain ⟨j, q, h1, h2, h3⟩ := lk_hpFrom l (k + 1) b blk h
   exact ⟨j + 1, q, by simpa using h1, by omega, by rw [h3, show k + 1 + j = k + (j + 1) by omega]⟩
theorem lk_hpFrom_at : ∀ (l : List LB) (k j : Nat) (p : LB), l[j]? = some p → lkH (hpFrom k l) (1000 + (k + j)) = some ⟨k + j, p.1, p.2⟩
 | [], k, j, p, h => by simp at h
 | q :: l, k, j, p, h => by
  rw [hpFrom, lkH_cons]
  cases j with
  | zero =>
   simp only [List.getElem?_cons_zero, Option.some.injEq] at h
   subst h
   rw [if_pos (by omega)]
   rfl
  | succ j =>
   rw [if_neg (by omega)]
   have := lk_hpFrom_at l (k + 1) j p (by simpa using h)
   rw [show k + 1 + j = k + (j + 1) by omega] at this
   exact this
def FnL (P : Program) (f : FuncId) (args : List AV) (bs : List LB) (res : AV) (bs' : List (List (List AV))) : Prop :=
 (∀ (vs : Array Value) (w : World), (callFunc f vs).run P w = .ok (.enter f vs) w) ∧
 ∀ (w : World) (st : Nat → Prop) (vs : List Value) (os : List OB), (∀ β, st β → β < w.heap.size) → os.length = bs.length →
  (∀ (j : Nat) (o : OB) (β : Nat), os[j]? = some o → o.loc = some β → β < w.heap.size ∧ ¬ st β) →
  (∀ (i j : Nat) (o o' : OB) (β : Nat), os[i]? = some o → os[j]? = some o' → o.loc = some β → o'.loc = some β → i = j) →
  (∀ (j : Nat) (o : OB) (p : LB), os[j]? = some o → bs[j]? = some p → RowRep (RC.lend os st) w ⟨j, p.1, p.2⟩ o) →
  vs.length = args.length → (∀ (i : Nat) (x : AV) (u : Value), args[i]? = some x → vs[i]? = some u → Rep (RC.lend os st) w x u) →
  Calls P f vs.toArray w (fun e w' => ∃ r St, e = .returned r ∧ Old (fun β => ∃ (j : Nat) (o : OB), os[j]? = some o ∧ o.loc = some β) w w' ∧ (∀ β, st β → St β) ∧ (∀ β, St β → st β ∨ (w.heap.size ≤ β ∧ β < w'.heap.size)) ∧
   (∀ β, st β → w'.heap[β]? = w.heap[β]?) ∧
   (∀ (j : Nat) (o : OB) (p : LB) (els : List (List AV)), os[j]? = some o → bs[j]? = some p → bs'[j]? = some els → RowRep (RC.lend os St) w' ⟨j, p.1, els⟩ o) ∧ Rep (RC.lend os St) w' res r)
def hpNone : Nat → Nat → List (Nat × Option Blk)
 | _, 0 => []
 | k, n + 1 => (1000 + k, none) :: hpNone (k + 1) n
def dropHp (n : Nat) (hp : List (Nat × Option Blk)) : List (Nat × Option Blk) := hpNone 0 n ++ hp
theorem lk_hpNone : ∀ (n k b : Nat) (hp : List (Nat × Option Blk)), lkH (hpNone k n ++ hp) b = if 1000 + k ≤ b ∧ b < 1000 + k + n then none else lkH hp b
 | 0, k, b, hp => by rw [if_neg (by omega)]; rfl
 | n + 1, k, b, hp => by
  rw [hpNone, List.cons_append, lkH_cons, lk_hpNone n (k + 1) b hp]
  by_cases h : b = 1000 + k
  ·rw [if_pos h, if_pos (by omega)]
  ·rw [if_neg h]
   by_cases h2 : 1000 + (k + 1) ≤ b ∧ b < 1000 + (k + 1) + n
   ·rw [if_pos h2, if_pos (by omega)]
   ·rw [if_neg h2, if_neg (by omega)]
inductive Rl (n : Nat) (sX : AS) : AV → AV → Prop where
 | reif {x x' : AV} (h : Reif sX x x') : Rl n sX x x'
 | ptr (j i f : Nat) (hj : Nat.blt j n = true) : Rl n sX (.ptr (1000 + j) j i f) (.ptr (1000 + j) j i f)
 | own (j lo m : Nat) (hj : Nat.blt j n = true) : Rl n sX (.own (1000 + j) j lo m) (.own (1000 + j) j lo m)
 | clo {f : Fn} {first first' cap cap' : List AV} (hl : first'.length = first.length) (hr : ∀ (i : Nat) (x x' : AV), first[i]? = some x → first'[i]? = some x' → Rl n sX x x') (hl' : cap'.length = cap.length) (hr' : ∀ (i : Nat) (x x' : AV), cap[i]? = some x → cap'[i]? = some x' → Rl n sX x x') : Rl n sX (.clo f first cap) (.clo f first' cap')
def RlL (n : Nat) (sX : AS) (es es' : List AV) : Prop := es'.length = es.length ∧ ∀ (i : Nat) (x x' : AV), es[i]? = some x → es'[i]? = some x' → Rl n sX x x'
theorem RlL.nil (n : Nat) (sX : AS) : RlL n sX [] [] := ⟨rfl, fun i x x' h => by simp at h⟩
theorem RlL.cons {n : Nat} {sX : AS} {x x' : AV} {es es' : List AV} (h : Rl n sX x x') (t : RlL n sX es es') : RlL n sX (x :: es) (x' :: es') :=
 ⟨by simp [t.1], fun i y y' hy hy' => by
  cases i with
  | zero =>
   simp only [List.getElem?_cons_zero, Option.some.injEq] at hy hy'
   subst hy
   subst hy'
   exact h
  | succ i => exact t.2 i y y' (by simpa using hy) (by simpa using hy')⟩
def RlR (n : Nat) (sX : AS) (els els' : List (List AV)) : Prop := els'.length = els.length ∧ ∀ (i : Nat) (el el' : List AV), els[i]? = some el → els'[i]? = some el' → RlL n sX el el'
theorem RlR.nil (n : Nat) (sX : AS) : RlR n sX [] [] := ⟨rfl, fun i x x' h => by simp at h⟩
theorem RlR.cons {n : Nat} {sX : AS} {x x' : List AV} {es es' : List (List AV)} (h : RlL n sX x x') (t : RlR n sX es es') : RlR n sX (x :: es) (x' :: es') :=
 ⟨by simp [t.1], fun i y y' hy hy' => by
  cases i with
  | zero =>
   simp only [List.getElem?_cons_zero, Option.some.injEq] at hy hy'
   subst hy
   subst hy'
   exact h
  | succ i => exact t.2 i y y' (by simpa using hy) (by simpa using hy')⟩
theorem RlR.closed {n : Nat} {sX : AS} {els : List (List AV)} (h : ∀ el x, el ∈ els → x ∈ el → Closed x) : RlR n sX els els :=
 ⟨rfl, fun i el el' h1 h2 => by
  rw [h1] at h2
  obtain rfl := Option.some.inj h2
  exact ⟨rfl, fun k x x' h3 h4 => by
   rw [h3] at h4
   obtain rfl := Option.some.inj h4
   exact .reif (.closed x (h el x (List.mem_of_getElem? h1) (List.mem_of_getElem? h3)))⟩⟩
def LentEnd (n : Nat) (s sX : AS) : Nat → List LB → List (List (List AV)) → Prop
 | _, [], [] => True
 | j, p :: bs, els' :: bs' => (∃ els, lkH s.hp (1000 + j) = some ⟨j, p.1, els⟩ ∧ RlR n sX els els') ∧ LentEnd n s sX (j + 1) bs bs'
 | _, _, _ => False
theorem LentEnd.get {n : Nat} {s sX : AS} : ∀ {bs : List LB} {bs' : List (List (List AV))} {k : Nat}, LentEnd n s sX k bs bs' → ∀ (j : Nat) (p : LB), bs[j]? = some p → ∃ els' els, bs'[j]? = some els' ∧ lkH s.hp (1000 + (k + j)) = some ⟨k + j, p.1, els⟩ ∧ RlR n sX els els'
 | [], _, _, _, j, p, hp => by simp at hp
 | q :: bs, [], _, h, j, p, hp => h.elim
 | q :: bs, els' :: bs', k, h, j, p, hp => by
  cases j with
  | zero =>
   simp only [List.getElem?_cons_zero, Option.some.injEq] at hp
   subst hp
   obtain ⟨els, h1, h2⟩ := h.1
   exact ⟨els', els, rfl, h1, h2⟩
  | succ j =>
   obtain ⟨e1, e2, h1, h2, h3⟩ := h.2.get j p (by simpa using hp)
   rw [show k + 1 + j = k + (j + 1) by omega] at h2
   exact ⟨e1, e2, by simpa using h1, h2, h3⟩
def retLn (C : ACtx) (rs : Array ResultVar) (res : AV) (bs : List LB) (bs' : List (List (List AV))) : Exit → AS → Prop
 | .normal, s => ∃ vs, ResL C ⟨s.fr, dropHp bs.length s.hp, s.gc⟩ rs.toList vs ∧ res = retAV vs ∧ LentEnd bs.length s ⟨s.fr, dropHp bs.length s.hp, s.gc⟩ 0 bs bs'
 | .ret, s => ∃ vs, ResL C ⟨s.fr, dropHp bs.length s.hp, s.gc⟩ rs.toList vs ∧ res = retAV vs ∧ LentEnd bs.length s ⟨s.fr, dropHp bs.length s.hp, s.gc⟩ 0 bs bs'
 | _, _ => False
theorem Sim.less {C : ACtx} {s : AS} {c : RC} {a : Act} {w : World} (hS : Sim C s c a w) (hp' : List (Nat × Option Blk)) (h : ∀ b, lkH hp' b = lkH s.hp b ∨ lkH hp' b = none) :
  Sim C ⟨s.fr, hp', s.gc⟩ ⟨fun b g => if lkH hp' b = none then none else c.own b g, c.used, c.st⟩ a w := by
 classical
 let c' : RC := ⟨fun b g => if lkH hp' b = none then none else c.own b g, c.used, c.st⟩
 have hown : ∀ b g o, c'.own b g = some o → c.own b g = some o ∧ lkH hp' b = lkH s.hp b := fun b g o ho => by
  simp only [c'] at ho
  split at ho
  ·cases ho
  ·rename_i hne
   exact ⟨ho, (h b).resolve_right hne⟩
 have hm : Mono c c' w w := ⟨fun β hb => ⟨hb, rfl⟩, fun g hg => hg, fun b g o _ ho => (hown b g o ho).1⟩
 refine ⟨hS.nd.step (fun _ hb => ⟨hb, rfl⟩), hS.sz, fun t => (hS.fr t).mono hm, fun b blk hb => ?_, fun b g o ho => ?_, fun b g o b' g' o' β k k' => hS.inj b g o b' g' o' β (hown _ _ _ k).1 (hown _ _ _ k').1, hS.st, hS.st0, hS.old, hS.mo.trans hm⟩
 ·simp only at hb
  have e : lkH hp' b = lkH s.hp b := by
   rcases h b with e | e
   ·exact e
   ·rw [e] at hb; cases hb
  obtain ⟨o, q1, q2⟩ := hS.hp b blk (e ▸ hb)
  refine ⟨o, ?_, q2.mono hm (fun _ _ => rfl)⟩
  simp only [c']
  rw [if_neg (by rw [hb]; simp)]
  exact q1
 ·obtain ⟨ho', e⟩ := hown b g o ho
  obtain ⟨q1, ⟨blk, q2, q3⟩, q4⟩ := hS.al b g o ho'
  exact ⟨q1, ⟨blk, e.trans q2, q3⟩, q4⟩
theorem Rl.rep {C : ACtx} {s : AS} {c : RC} {a : Act} {w : World} {n : Nat} {os : List OB} {hp' : List (Nat × Option Blk)} (hS : Sim C s c a w) (h : ∀ b, lkH hp' b = lkH s.hp b ∨ lkH hp' b = none) (hn : os.length = n) (hos : ∀ j, j < n → c.own (1000 + j) j = os[j]?)
  {x x' : AV} (r : Rl n ⟨s.fr, hp', s.gc⟩ x x') : ∀ {u : Value}, Rep c w x u → Rep (RC.lend os (RC.given ⟨fun b g => if lkH hp' b = none then none else c.own b g, c.used, c.st⟩)) w x' u := by
 classical
 have hm : Mono c ⟨fun b g => if lkH hp' b = none then none else c.own b g, c.used, c.st⟩ w w := ⟨fun β hb => ⟨hb, rfl⟩, fun g hg => hg, fun b g o _ ho => by
  simp only at ho
  split at ho
  ·cases ho
  ·exact ho⟩
 induction r with
 | reif hr => exact fun ru => hr.rep (hS.less hp' h) (ru.mono hm) _ _
 | ptr j i f hj =>
  have hj := lt_of_blt hj
  intro u ru
  cases ru with
  | ptr _ _ _ _ β o hu hp =>
   refine .ptr _ _ _ _ β o (by show j < os.length; omega) (fun q hq => hp q ?_)
   have hq : lendOwn os (1000 + j) j = some q := hq
   rw [lendOwn_at] at hq
   rw [hos j hj]
   exact hq
 | own j lo m hj =>
  have hj := lt_of_blt hj
  intro u ru
  cases ru with
  | own _ _ _ _ A m' cap hu hp =>
   refine .own _ _ _ _ A m' cap (by show j < os.length; omega) (fun q hq => hp q ?_)
   have hq : lendOwn os (1000 + j) j = some q := hq
   rw [lendOwn_at] at hq
   rw [hos j hj]
   exact hq
 | @clo f first first' cap cap' hl _ hl' _ ih ih' =>
  intro u ru
  cases ru with
  | clo _ _ _ us vs k1 k2 k3 k4 =>
   refine .clo f first' cap' us vs (k1.trans hl.symm) (k2.trans hl'.symm) (fun i x' u hx hu => ?_) (fun i x' u hx hu => ?_)
   ·have hi : i < first.length := by rw [← hl]; exact (List.getElem?_eq_some_iff.1 hx).1
    exact ih i first[i] x' (List.getElem?_eq_getElem hi) hx (k3 i _ u (List.getElem?_eq_getElem hi) hu)
   ·have hi : i < cap.length := by rw [← hl']; exact (List.getElem?_eq_some_iff.1 hx).1
    exact ih' i cap[i] x' (List.getElem?_eq_getElem hi) hx (k4 i _ u (List.getElem?_eq_getElem hi) hu)
theorem FnL.of_awp {P : Program} {T : Nat → Option TI} {ok : ∀ t ti, T t = some ti → tiOf P t = some ti} {f : FuncId} {fn : Func} {code : Code} {args : List AV} {bs : List LB} {res : AV} {bs' : List (List (List AV))} (hf : P.funcs[f]? = some fn)
  (hn : (fn.name == "runtime.NumGoroutine") = false) (hb : fn.body = some code) (hlen : Nat.ble args.length fn.ntmps = true) (hsz : bs.all (fun p => Nat.blt 0 p.1) = true)
  (h : ∀ (w0 : World) (st0 lent : Nat → Prop) (c0 : RC), awp ⟨P, T, ok, fn.ntmps, w0, st0, lent, (none, false), c0⟩ code ⟨frOf 0 args, hpFrom 0 bs, bs.length⟩ (retLn ⟨P, T, ok, fn.ntmps, w0, st0, lent, (none, false), c0⟩ fn.results res bs bs')) : FnL P f args bs res bs' := by
 refine ⟨fun vs w => ?_, fun w st vs os hst hos hloc hinj hrow hl hr => ?_⟩
 ·have hn' : ¬ fn.name = "runtime.NumGoroutine" := by simpa using hn
  simp [callFunc, hf, hn', hb]
 ·refine (callsIn_wide (n := 0)).1 (callsIn_of_wp_marks hf hb trivial ?_)
  have hle := Nat.le_of_ble_eq_true hlen
  let lent : Nat → Prop := fun β => ∃ (j : Nat) (o : OB), os[j]? = some o ∧ o.loc = some β
  let c0 : RC := RC.lend os st
  have hS : SimE ⟨P, T, ok, fn.ntmps, w, st, lent, (none, false), c0⟩ ⟨frOf 0 args, hpFrom 0 bs, bs.length⟩ { tmps := vs.toArray ++ Array.replicate (fn.ntmps - vs.toArray.size) undef, defers := [] } w := by
   refine ⟨c0, ⟨Nd.nil _ _ _ _, by simp; omega, fun t => ?_, fun b blk hb => ?_, fun b g o ho => ?_, fun b g o b' g' o' β h h' k k' => ?_, fun β hb => ⟨hst β hb, .inl hb⟩, fun β hb => hb, Old.refl _ _, Mono.refl _ _⟩, fun g hg => by show g < bs.length; rw [← hos]; exact hg⟩
   ·simp only
    rw [lk_frOf]
    simp only [Nat.zero_le, if_true, Nat.sub_zero]
    cases hx : args[t]? with
    | none => exact .dead _
    | some x =>
     have ht : t < vs.length := by rw [hl]; exact (List.getElem?_eq_some_iff.1 hx).1
     have : (vs.toArray ++ Array.replicate (fn.ntmps - vs.toArray.size) undef).getD t undef = vs[t] := by
      simp [Array.getD_eq_getD_getElem?, Array.getElem?_append, ht]
     rw [this]
     have := hr t x vs[t] hx (List.getElem?_eq_getElem ht)
     simp only [Option.getD_some]
     exact this
   ·obtain ⟨j, p, h1, h2, h3⟩ := lk_hpFrom bs 0 b blk hb
    subst h2
    subst h3
    rw [Nat.zero_add]
    have hj : j < os.length := by rw [hos]; exact (List.getElem?_eq_some_iff.1 h1).1
    exact ⟨os[j], (lendOwn_at os j).trans (List.getElem?_eq_getElem hj), .inl (hrow j _ p (List.getElem?_eq_getElem hj) h1)⟩
   ·obtain ⟨rfl, h2⟩ := lendOwn_some ho
    have hj : g < bs.length := by rw [← hos]; exact (List.getElem?_eq_some_iff.1 h2).1
    have hlk := lk_hpFrom_at bs 0 g bs[g] (List.getElem?_eq_getElem hj)
    rw [Nat.zero_add] at hlk
    refine ⟨(List.getElem?_eq_some_iff.1 h2).1, ⟨_, hlk, rfl⟩, fun β hβ => ?_⟩
    obtain ⟨k1, k2⟩ := hloc g o β h2 hβ
    exact ⟨k1, k2, .inr ⟨g, o, h2, hβ⟩⟩
   ·obtain ⟨rfl, h2⟩ := lendOwn_some h
    obtain ⟨rfl, h3⟩ := lendOwn_some h'
    have := hinj g g' o o' β h2 h3 k k'
    omega
  refine wpIn_mono (h w st lent c0 _ w hS) (fun e a' w' ⟨s', ⟨c', hS', _⟩, hq⟩ => ?_)
  have fin0 : ∀ (w2 : World) (c2 : RC), Sim ⟨P, T, ok, fn.ntmps, w, st, lent, (none, false), c0⟩ s' c2 { a' with defers := [] } w2 → ∀ vs', ResL ⟨P, T, ok, fn.ntmps, w, st, lent, (none, false), c0⟩ ⟨s'.fr, dropHp bs.length s'.hp, s'.gc⟩ fn.results.toList vs' → res = retAV vs' → LentEnd bs.length s' ⟨s'.fr, dropHp bs.length s'.hp, s'.gc⟩ 0 bs bs' → ∃ v, (results fn a'.tmps).run P w2 = .ok v w2 ∧ ∃ r St, Ending.returned v = .returned r ∧ Old lent w w2 ∧ (∀ β, st β → St β) ∧ (∀ β, St β → st β ∨ (w.heap.size ≤ β ∧ β < w2.heap.size)) ∧
    (∀ β, st β → w2.heap[β]? = w.heap[β]?) ∧
    (∀ (j : Nat) (o : OB) (p : LB) (els : List (List AV)), os[j]? = some o → bs[j]? = some p → bs'[j]? = some els → RowRep (RC.lend os St) w2 ⟨j, p.1, els⟩ o) ∧ Rep (RC.lend os St) w2 res r := by
   intro w' c' hS' vs' hv he hle'
   have hlk : ∀ b, lkH (dropHp bs.length s'.hp) b = lkH s'.hp b ∨ lkH (dropHp bs.length s'.hp) b = none := fun b => by
    unfold dropHp
    rw [lk_hpNone]
    split
    ·exact .inr rfl
    ·exact .inl rfl
   have hSX := hS'.less (dropHp bs.length s'.hp) hlk
   have hown : ∀ j, j < bs.length → c'.own (1000 + j) j = os[j]? := fun j hj => by
    obtain ⟨els', els, h1, h2, h3⟩ := hle'.get j bs[j] (List.getElem?_eq_getElem hj)
    rw [Nat.zero_add] at h2
    obtain ⟨o, k1, _⟩ := hS'.hp _ _ h2
    have k2 := hS'.mo.own (1000 + j) j o (by show j < os.length; omega) k1
    have k3 : lendOwn os (1000 + j) j = some o := k2
    rw [lendOwn_at] at k3
    rw [k1, k3]
   obtain ⟨us, g1, g2, g3⟩ := hv.run hSX
   let cX : RC := ⟨fun b g => if lkH (dropHp bs.length s'.hp) b = none then none else c'.own b g, c'.used, c'.st⟩
   have hgiv : ∀ β, cX.given β → st β ∨ (w.heap.size ≤ β ∧ β < w'.heap.size) := fun β hb => by
    rcases hb with hb | ⟨b, g, o, h1, h2⟩
    ·obtain ⟨k1, k2 | k2 | ⟨j, o, k2, k3⟩⟩ := hS'.st β hb
     ·exact .inl k2
     ·exact .inr ⟨k2, k1⟩
     ·have hj : j < bs.length := by rw [← hos]; exact (List.getElem?_eq_some_iff.1 k2).1
      exact absurd hb ((hS'.al _ _ o ((hown j hj).trans k2)).2.2 β k3).2.1
    ·have h1' := h1
     simp only [cX] at h1'
     split at h1'
     ·cases h1'
     ·rename_i hne
      obtain ⟨k1, k2, k3 | ⟨j, o', k3, k4⟩⟩ := (hS'.al b g o h1').2.2 β h2
      ·exact .inr ⟨k3, k1⟩
      ·have hj : j < bs.length := by rw [← hos]; exact (List.getElem?_eq_some_iff.1 k3).1
       have := (hS'.inj b g o _ _ o' β h1' ((hown j hj).trans k3) h2 k4).1
       refine absurd ?_ hne
       unfold dropHp
       rw [lk_hpNone, if_pos (by omega)]
   refine ⟨retV us, run_results g1, retV us, cX.given, rfl, hS'.old, fun β hb => .inl (hS'.st0 β hb), hgiv, fun β hb => hS'.old.block β (hst β hb) (fun ⟨j, o, k1, k2⟩ => (hloc j o β k1 k2).2 hb), fun j o p els ho hp hels => ?_, ?_⟩
   ·have hj : j < bs.length := (List.getElem?_eq_some_iff.1 hp).1
    obtain ⟨els', els0, h1, h2, h3⟩ := hle'.get j p hp
    rw [Nat.zero_add] at h2
    rw [hels] at h1
    obtain rfl := Option.some.inj h1
    obtain ⟨o', k1, kB⟩ := hS'.hp _ _ h2
    simp only at k1
    rw [hown j hj, ho] at k1
    obtain rfl := Option.some.inj k1
    have hp0 : 0 < p.1 := lt_of_blt (List.all_eq_true.1 hsz p (List.mem_of_getElem? hp))
    obtain ⟨r1, r2, r3⟩ := kB.row (by rw [kB.sz]; exact hp0)
    have hlen : ∀ (i : Nat) (el : List AV), els[i]? = some el → ∃ el0, els0[i]? = some el0 ∧ RlL bs.length ⟨s'.fr, dropHp bs.length s'.hp, s'.gc⟩ el0 el := fun i el hi => by
     have hi' : i < els0.length := by rw [← h3.1]; exact (List.getElem?_eq_some_iff.1 hi).1
     exact ⟨els0[i], List.getElem?_eq_getElem hi', h3.2 i _ el (List.getElem?_eq_getElem hi') hi⟩
    refine ⟨r1, fun el hel => ?_, ?_⟩
    ·obtain ⟨i, hi⟩ := List.getElem?_of_mem hel
     obtain ⟨el0, q1, q2⟩ := hlen i el hi
     rw [q2.1]
     exact r2 el0 (List.mem_of_getElem? q1)
    ·cases hl : o.loc with
     | none =>
      rw [hl] at r3
      simp only at r3 ⊢
      have := h3.1
      rw [r3] at this
      exact List.eq_nil_of_length_eq_zero this
     | some β =>
      rw [hl] at r3
      obtain ⟨cur, e, q1, q2, q3⟩ := r3
      refine ⟨cur, e, q1, q2, fun i el f x hi hx => ?_⟩
      obtain ⟨el0, t1, t2⟩ := hlen i el hi
      have hf : f < el0.length := by rw [← t2.1]; exact (List.getElem?_eq_some_iff.1 hx).1
      obtain ⟨u, u1, u2, u3⟩ := q3 i el0 f el0[f] t1 (List.getElem?_eq_getElem hf)
      exact ⟨u, u1, u2, Rl.rep hS' hlk hos hown (t2.2 f _ x (List.getElem?_eq_getElem hf) hx) u3⟩
   ·subst he
    have one : ∀ (l : List AV) (l' : List Value), l'.length = l.length → (∀ (i : Nat) (x : AV) (u : Value), l[i]? = some x → l'[i]? = some u → Rep (RC.lend os cX.given) w' x u) → Rep (RC.lend os cX.given) w' (retAV l) (retV l') := by
     intro l l' hl' hr'
     match l, l', hl' with
     | [], [], _ => exact .tup [] [] rfl hr'
     | [x], [u], _ => exact hr' 0 x u rfl rfl
     | x :: y :: l, u :: v :: l', h' => exact .tup _ _ h' hr'
    exact one vs' us g2 (fun i x u hx hu => g3 i x u hx hu _ _)
  have fin : (∃ vs', ResL ⟨P, T, ok, fn.ntmps, w, st, lent, (none, false), c0⟩ ⟨s'.fr, dropHp bs.length s'.hp, s'.gc⟩ fn.results.toList vs' ∧ res = retAV vs' ∧ LentEnd bs.length s' ⟨s'.fr, dropHp bs.length s'.hp, s'.gc⟩ 0 bs bs') → LeavesInM Fence.wide 0 P fn a'.tmps (fun e w2 => ∃ r St, e = .returned r ∧ Old lent w w2 ∧ (∀ β, st β → St β) ∧ (∀ β, St β → st β ∨ (w.heap.size ≤ β ∧ β < w2.heap.size)) ∧
    (∀ β, st β → w2.heap[β]? = w.heap[β]?) ∧
    (∀ (j : Nat) (o : OB) (p : LB) (els : List (List AV)), os[j]? = some o → bs[j]? = some p → bs'[j]? = some els → RowRep (RC.lend os St) w2 ⟨j, p.1, els⟩ o) ∧ Rep (RC.lend os St) w2 res r) a'.defers .returning w' := by
   intro ⟨vs', hv, he, hle'⟩
   refine leavesM a'.defers w' hS'.nd (fun w1 k1 k2 k3 k4 k5 => ?_)
   exact fin0 w1 _ (hS'.shut (w1 := w1) (fun β => ({ target := .collected β, args := #[] } : Deferred) ∈ a'.defers) (fun β hβ => by
    obtain ⟨D, g1, g2, g3, g4⟩ := hS'.nd.at_ _ hβ
    obtain rfl : β = D := by cases g1; rfl
    exact ⟨g2, g3, _, g4⟩) k1 k2 k3 k4 k5 (fun β hb => hst β hb) (fun β hb => hst β hb)) vs' hv he hle'
  cases e <;> first
   | exact fin hq
   | exact hq.elim
end Go.Proofs.Ytkmlmboclegpcaa
namespace Go.Proofs.Ytkmlmboclegpcaa
open Go Go.RowKit
set_option maxRecDepth 100000
inductive Ln (m : List (Nat × Nat)) : AV → AV → Prop where
 | wk {v v' : AV} (h : Wk v v') (hc : Closed v') : Ln m v v'
 | ptr {b g j : Nat} (i f : Nat) (h : m[j]? = some (b, g)) : Ln m (.ptr b g i f) (.ptr (1000 + j) j i f)
 | own {b g j : Nat} (lo n : Nat) (h : m[j]? = some (b, g)) : Ln m (.own b g lo n) (.own (1000 + j) j lo n)
 | clo {f : Fn} {first first' cap cap' : List AV} (hl : first'.length = first.length) (hr : ∀ (i : Nat) (x x' : AV), first[i]? = some x → first'[i]? = some x' → Ln m x x') (hl' : cap'.length = cap.length) (hr' : ∀ (i : Nat) (x x' : AV), cap[i]? = some x → cap'[i]? = some x' → Ln m x x') : Ln m (.clo f first cap) (.clo f first' cap')
inductive Lb (m : List (Nat × Nat)) : AV → AV → Prop where
 | same (v : AV) (hc : Closed v) : Lb m v v
 | ptr {b g j : Nat} (i f : Nat) (h : m[j]? = some (b, g)) : Lb m (.ptr b g i f) (.ptr (1000 + j) j i f)
 | own {b g j : Nat} (lo n : Nat) (h : m[j]? = some (b, g)) : Lb m (.own b g lo n) (.own (1000 + j) j lo n)
 | clo {f : Fn} {first first' cap cap' : List AV} (hl : first'.length = first.length) (hr : ∀ (i : Nat) (x x' : AV), first[i]? = some x → first'[i]? = some x' → Lb m x x') (hl' : cap'.length = cap.length) (hr' : ∀ (i : Nat) (x x' : AV), cap[i]? = some x → cap'[i]? = some x' → Lb m x x') : Lb m (.clo f first cap) (.clo f first' cap')
def RelL (R : AV → AV → Prop) (es es' : List AV) : Prop := es'.length = es.length ∧ ∀ (i : Nat) (x x' : AV), es[i]? = some x → es'[i]? = some x' → R x x'
theorem RelL.nil (R : AV → AV → Prop) : RelL R [] [] := ⟨rfl, fun i x x' h => by simp at h⟩
theorem RelL.cons {R : AV → AV → Prop} {x x' : AV} {es es' : List AV} (h : R x x') (t : RelL R es es') : RelL R (x :: es) (x' :: es') :=
 ⟨by simp [t.1], fun i y y' hy hy' => by
  cases i with
  | zero =>
   simp only [List.getElem?_cons_zero, Option.some.injEq] at hy hy'
   subst hy
   subst hy'
   exact h
  | succ i => exact t.2 i y y' (by simpa using hy) (by simpa using hy')⟩
theorem Ln.cloL {m : List (Nat × Nat)} {f : Fn} {first first' cap cap' : List AV} (h : RelL (Ln m) first first') (h' : RelL (Ln m) cap cap') : Ln m (.clo f first cap) (.clo f first' cap') := .clo h.1 h.2 h'.1 h'.2
theorem Lb.cloL {m : List (Nat × Nat)} {f : Fn} {first first' cap cap' : List AV} (h : RelL (Lb m) first first') (h' : RelL (Lb m) cap cap') : Lb m (.clo f first cap) (.clo f first' cap') := .clo h.1 h.2 h'.1 h'.2
def RelR (R : AV → AV → Prop) (els els' : List (List AV)) : Prop := els'.length = els.length ∧ ∀ (i : Nat) (el el' : List AV), els[i]? = some el → els'[i]? = some el' → RelL R el el'
theorem RelR.nil (R : AV → AV → Prop) : RelR R [] [] := ⟨rfl, fun i x x' h => by simp at h⟩
theorem RelR.cons {R : AV → AV → Prop} {x x' : List AV} {es es' : List (List AV)} (h : RelL R x x') (t : RelR R es es') : RelR R (x :: es) (x' :: es') :=
 ⟨by simp [t.1], fun i y y' hy hy' => by
  cases i with
  | zero =>
   simp only [List.getElem?_cons_zero, Option.some.injEq] at hy hy'
   subst hy
   subst hy'
   exact h
  | succ i => exact t.2 i y y' (by simpa using hy) (by simpa using hy')⟩
theorem RelR.id {R : AV → AV → Prop} {els : List (List AV)} (h : ∀ el x, el ∈ els → x ∈ el → R x x) : RelR R els els :=
 ⟨rfl, fun i el el' h1 h2 => by
  rw [h1] at h2
  obtain rfl := Option.some.inj h2
  exact ⟨rfl, fun k x x' h3 h4 => by
   rw [h3] at h4
   obtain rfl := Option.some.inj h4
   exact h el x (List.mem_of_getElem? h1) (List.mem_of_getElem? h3)⟩⟩
def LentIn (R : AV → AV → Prop) : List (Nat × Blk) → List LB → Prop
 | [], [] => True
 | p :: ls, q :: bs => (p.2.sz = q.1 ∧ Nat.blt 0 q.1 = true ∧ RelR R p.2.els q.2) ∧ LentIn R ls bs
 | _, _ => False
theorem LentIn.get {R : AV → AV → Prop} : ∀ {ls : List (Nat × Blk)} {bs : List LB}, LentIn R ls bs → bs.length = ls.length ∧ ∀ (j : Nat) (p : Nat × Blk) (q : LB), ls[j]? = some p → bs[j]? = some q → p.2.sz = q.1 ∧ 0 < q.1 ∧ RelR R p.2.els q.2
 | [], [], _ => ⟨rfl, fun j p q h => by simp at h⟩
 | [], _ :: _, h => h.elim
 | _ :: _, [], h => h.elim
 | p :: ls, q :: bs, h => by
  obtain ⟨h1, h2⟩ := LentIn.get h.2
  refine ⟨by simp [h1], fun j p' q' hp hq => ?_⟩
  cases j with
  | zero =>
   simp only [List.getElem?_cons_zero, Option.some.injEq] at hp hq
   subst hp
   subst hq
   exact ⟨h.1.1, lt_of_blt h.1.2.1, h.1.2.2⟩
  | succ j => exact h2 j p' q' (by simpa using hp) (by simpa using hq)
def LentOut (R : AV → AV → Prop) : List (Nat × Blk) → List (Nat × Blk) → List (List (List AV)) → Prop
 | [], [], [] => True
 | p :: ls, p' :: ls', els' :: bs' => (p'.1 = p.1 ∧ p'.2.gen = p.2.gen ∧ p'.2.sz = p.2.sz ∧ RelR R p'.2.els els') ∧ LentOut R ls ls' bs'
 | _, _, _ => False
theorem LentOut.get {R : AV → AV → Prop} : ∀ {ls ls' : List (Nat × Blk)} {bs' : List (List (List AV))}, LentOut R ls ls' bs' → ls'.length = ls.length ∧ bs'.length = ls.length ∧ ∀ (j : Nat) (p p' : Nat × Blk) (e : List (List AV)), ls[j]? = some p → ls'[j]? = some p' → bs'[j]? = some e → p'.1 = p.1 ∧ p'.2.gen = p.2.gen ∧ p'.2.sz = p.2.sz ∧ RelR R p'.2.els e
 | [], [], [], _ => ⟨rfl, rfl, fun j p p' e h => by simp at h⟩
 | [], _ :: _, _, h => h.elim
 | _ :: _, [], _, h => h.elim
 | [], [], _ :: _, h => h.elim
 | _ :: _, _ :: _, [], h => h.elim
 | p :: ls, p' :: ls', e :: bs', h => by
  obtain ⟨h1, h2, h3⟩ := LentOut.get h.2
  refine ⟨by simp [h1], by simp [h2], fun j q q' e' hp hq he => ?_⟩
  cases j with
  | zero =>
   simp only [List.getElem?_cons_zero, Option.some.injEq] at hp hq he
   subst hp
   subst hq
   subst he
   exact h.1
  | succ j => exact h3 j q q' e' (by simpa using hp) (by simpa using hq) (by simpa using he)
def LkAll (hp : List (Nat × Option Blk)) : List (Nat × Blk) → Prop
 | [] => True
 | p :: ls => lkH hp p.1 = some p.2 ∧ LkAll hp ls
theorem LkAll.get {hp : List (Nat × Option Blk)} : ∀ {ls : List (Nat × Blk)}, LkAll hp ls → ∀ p, p ∈ ls → lkH hp p.1 = some p.2
 | [], _, p, h => by cases h
 | q :: ls, h, p, hp => by
  rcases List.mem_cons.1 hp with rfl | hp
  ·exact h.1
  ·exact LkAll.get h.2 p hp
def nodupB : List Nat → Bool
 | [] => true
 | x :: l => (l.all fun y => !Nat.beq x y) && nodupB l
theorem nodupB_spec : ∀ {l : List Nat}, nodupB l = true → ∀ (i j : Nat) (x : Nat), l[i]? = some x → l[j]? = some x → i = j
 | [], _, i, j, x, h, _ => by simp at h
 | y :: l, h, i, j, x, hi, hj => by
  rw [nodupB, Bool.and_eq_true] at h
  have hne : ∀ k z, l[k]? = some z → z ≠ y := fun k z hk e => by
   have := List.all_eq_true.1 h.1 z (List.mem_of_getElem? hk)
   rw [e, Nat.beq_refl] at this
   cases this
  cases i with
  | zero =>
   cases j with
   | zero => rfl
   | succ j =>
    simp only [List.getElem?_cons_zero, List.getElem?_cons_succ, Option.some.injEq] at hi hj
    exact absurd hi.symm (hne j x hj)
  | succ i =>
   cases j with
   | zero =>
    simp only [List.getElem?_cons_zero, List.getElem?_cons_succ, Option.some.injEq] at hi hj
    exact absurd hj.symm (hne i x hi)
   | succ j =>
    simp only [List.getElem?_cons_succ] at hi hj
    rw [nodupB_spec h.2 i j x hi hj]
theorem lk_ups : ∀ (ls : List (Nat × Blk)) (hp : List (Nat × Option Blk)) (b : Nat), (∃ p, p ∈ ls ∧ p.1 = b ∧ lkH (ls.map (fun p => (p.1, some p.2)) ++ hp) b = some p.2) ∨ ((∀ p, p ∈ ls → p.1 ≠ b) ∧ lkH (ls.map (fun p => (p.1, some p.2)) ++ hp) b = lkH hp b)
 | [], hp, b => .inr ⟨fun p h => (by cases h), rfl⟩
 | q :: ls, hp, b => by
  rw [List.map_cons, List.cons_append, lkH_cons]
  by_cases h : b = q.1
  ·exact .inl ⟨q, by simp, h.symm, if_pos h⟩
  ·rw [if_neg h]
   rcases lk_ups ls hp b with ⟨p, h1, h2, h3⟩ | ⟨h1, h2⟩
   ·exact .inl ⟨p, by simp [h1], h2, h3⟩
   ·exact .inr ⟨fun p hp => by
     rcases List.mem_cons.1 hp with rfl | hp
     ·exact fun e => h e.symm
     ·exact h1 p hp, h2⟩
theorem Sim.lent {C : ACtx} {s : AS} {c : RC} {a : Act} {w w' : World} (hS : Sim C s c a w) (ls' : List (Nat × Blk)) (os : List OB) (St : Nat → Prop) (hlen : os.length = ls'.length)
  (hold : ∀ (j : Nat) (p' : Nat × Blk) (o : OB), ls'[j]? = some p' → os[j]? = some o → c.own p'.1 p'.2.gen = some o ∧ (∃ blk, lkH s.hp p'.1 = some blk ∧ blk.gen = p'.2.gen) ∧ RowRep ⟨c.own, c.used, St⟩ w' p'.2 o)
  (hE : Old (fun β => ∃ (j : Nat) (o : OB), os[j]? = some o ∧ o.loc = some β) w w') (hst : ∀ β, c.st β → St β) (hst' : ∀ β, St β → c.st β ∨ (w.heap.size ≤ β ∧ β < w'.heap.size))
  (d : Option Nat) (v : AV) (u : Value) (hd : ∀ e, d = some e → e < C.n) (hv : Rep ⟨c.own, c.used, St⟩ w' v u) : Sim C (s.app d v (ls'.map (fun p => (p.1, some p.2)))) ⟨c.own, c.used, St⟩ (a.put d u) w' := by
 have hget : ∀ p', p' ∈ ls' → ∃ o, (∃ j : Nat, os[j]? = some o) ∧ c.own p'.1 p'.2.gen = some o ∧ (∃ blk, lkH s.hp p'.1 = some blk ∧ blk.gen = p'.2.gen) ∧ RowRep ⟨c.own, c.used, St⟩ w' p'.2 o := fun p' hp' => by
  obtain ⟨j, hj⟩ := List.getElem?_of_mem hp'
  have hj' : j < os.length := by rw [hlen]; exact (List.getElem?_eq_some_iff.1 hj).1
  exact ⟨os[j], ⟨j, List.getElem?_eq_getElem hj'⟩, hold j p' _ hj (List.getElem?_eq_getElem hj')⟩
 have hos : ∀ (j : Nat) (o : OB), os[j]? = some o → ∃ p', p' ∈ ls' ∧ c.own p'.1 p'.2.gen = some o := fun j o ho => by
  have hj' : j < ls'.length := by rw [← hlen]; exact (List.getElem?_eq_some_iff.1 ho).1
  exact ⟨ls'[j], List.getElem_mem hj', (hold j _ o (List.getElem?_eq_getElem hj') ho).1⟩
 have hm : Mono c ⟨c.own, c.used, St⟩ w w' := ⟨fun β hb => ⟨hst β hb, hE.block β (hS.st β hb).1 (fun ⟨j, o, h1, h2⟩ => by
  obtain ⟨p', _, h3⟩ := hos j o h1
  exact ((hS.al _ _ o h3).2.2 β h2).2.1 hb)⟩, fun g hg => hg, fun b g o _ h => h⟩
 refine ⟨(Act.put_nd a d u).symm ▸ hS.nd.step hm.st, (Act.put_size a d u).trans hS.sz, fr_put hS hm d v u hd (fun _ => hv), fun b blk hb => ?_, fun b g o ho => ?_, hS.inj, fun β hb => ?_, fun β hb => hst β (hS.st0 β hb), hS.old.trans' hE.os hE.tape hE.output hE.size (fun k hk hk' => ?_), hS.mo.trans hm⟩
 ·simp only [AS.app] at hb
  rcases lk_ups ls' s.hp b with ⟨p, h1, h2, h3⟩ | ⟨h1, h2⟩
  ·rw [h3] at hb
   obtain rfl := Option.some.inj hb
   obtain ⟨o, _, k1, _, k3⟩ := hget p h1
   subst h2
   exact ⟨o, k1, .inl k3⟩
  ·rw [h2] at hb
   obtain ⟨o, k1, k2⟩ := hS.hp b blk hb
   refine ⟨o, k1, k2.mono hm (fun β hβ => hE.block β ((hS.al b _ o k1).2.2 β hβ).1 (fun ⟨j, o', q1, q2⟩ => ?_))⟩
   obtain ⟨p', q3, q4⟩ := hos j o' q1
   exact h1 p' q3 (hS.inj b _ o _ _ o' β k1 q4 hβ q2).1.symm
 ·obtain ⟨k1, ⟨blk, k2, k3⟩, k4⟩ := hS.al b g o ho
  refine ⟨k1, ?_, fun β hβ => ?_⟩
  ·rcases lk_ups ls' s.hp b with ⟨p, h1, h2, h3⟩ | ⟨h1, h2⟩
   ·obtain ⟨o', _, q1, ⟨blk', q2, q3⟩, _⟩ := hget p h1
    refine ⟨p.2, by simpa [AS.app] using h3, ?_⟩
    rw [h2, k2] at q2
    rw [← q3, ← k3, Option.some.inj q2]
   ·exact ⟨blk, by simpa [AS.app] using h2.trans k2, k3⟩
  ·obtain ⟨q1, q2, q3⟩ := k4 β hβ
   refine ⟨Nat.lt_of_lt_of_le q1 hE.size, fun hs => ?_, q3⟩
   rcases hst' β hs with h | h
   ·exact q2 h
   ·omega
 ·rcases hst' β hb with h | h
  ·exact ⟨Nat.lt_of_lt_of_le (hS.st β h).1 hE.size, (hS.st β h).2⟩
  ·exact ⟨h.2, .inr (.inl (Nat.le_trans hS.old.size h.1))⟩
 ·refine hE.block k (Nat.lt_of_lt_of_le hk hS.old.size) (fun ⟨j, o, h1, h2⟩ => ?_)
  obtain ⟨p', _, h3⟩ := hos j o h1
  rcases ((hS.al _ _ o h3).2.2 k h2).2.2 with h | h
  ·omega
  ·exact hk' h
theorem Ln.rep {m : List (Nat × Nat)} {c : RC} {w : World} {os : List OB} (hos : ∀ (j b g : Nat), m[j]? = some (b, g) → ∃ o, os[j]? = some o ∧ c.own b g = some o) {x x' : AV} (h : Ln m x x') : ∀ {u : Value}, Rep c w x u → Rep (RC.lend os c.st) w x' u := by
 induction h with
 | wk h hc => exact fun r => (h.rep r).closed hc _ (fun β hb => ⟨hb, rfl⟩)
 | @ptr b g j i f h =>
  intro u r
  obtain ⟨o, h1, h2⟩ := hos j b g h
  cases r with
  | ptr _ _ _ _ β o' hu hp =>
   refine .ptr _ _ _ _ β o' ((List.getElem?_eq_some_iff.1 h1).1) (fun q hq => hp q ?_)
   have hq : lendOwn os (1000 + j) j = some q := hq
   rw [lendOwn_at, h1] at hq
   rw [h2, hq]
 | @own b g j lo n h =>
  intro u r
  obtain ⟨o, h1, h2⟩ := hos j b g h
  cases r with
  | own _ _ _ _ A m' cap hu hp =>
   refine .own _ _ _ _ A m' cap ((List.getElem?_eq_some_iff.1 h1).1) (fun q hq => hp q ?_)
   have hq : lendOwn os (1000 + j) j = some q := hq
   rw [lendOwn_at, h1] at hq
   rw [h2, hq]
 | @clo f first first' cap cap' hl _ hl' _ ih ih' =>
  intro u ru
  cases ru with
  | clo _ _ _ us vs k1 k2 k3 k4 =>
   refine .clo f first' cap' us vs (k1.trans hl.symm) (k2.trans hl'.symm) (fun i x' u hx hu => ?_) (fun i x' u hx hu => ?_)
   ·have hi : i < first.length := by rw [← hl]; exact (List.getElem?_eq_some_iff.1 hx).1
    exact ih i first[i] x' (List.getElem?_eq_getElem hi) hx (k3 i _ u (List.getElem?_eq_getElem hi) hu)
   ·have hi : i < cap.length := by rw [← hl']; exact (List.getElem?_eq_some_iff.1 hx).1
    exact ih' i cap[i] x' (List.getElem?_eq_getElem hi) hx (k4 i _ u (List.getElem?_eq_getElem hi) hu)
theorem Lb.rep {m : List (Nat × Nat)} {own : Nat → Nat → Option OB} {used : Nat → Prop} {St : Nat → Prop} {w : World} {os : List OB} (hos : ∀ (j b g : Nat), m[j]? = some (b, g) → ∃ o, os[j]? = some o ∧ own b g = some o ∧ used g) {x x' : AV} (h : Lb m x x') : ∀ {u : Value}, Rep (RC.lend os St) w x' u → Rep ⟨own, used, St⟩ w x u := by
 induction h with
 | same v hc => exact fun r => r.closed hc _ (fun β hb => ⟨hb, rfl⟩)
 | @ptr b g j i f h =>
  intro u r
  obtain ⟨o, h1, h2, h3⟩ := hos j b g h
  cases r with
  | ptr _ _ _ _ β o' hu hp =>
   refine .ptr _ _ _ _ β o' h3 (fun q hq => hp q ?_)
   have hq : own b g = some q := hq
   show lendOwn os (1000 + j) j = some q
   rw [lendOwn_at, h1, ← h2, hq]
 | @own b g j lo n h =>
  intro u r
  obtain ⟨o, h1, h2, h3⟩ := hos j b g h
  cases r with
  | own _ _ _ _ A m' cap hu hp =>
   refine .own _ _ _ _ A m' cap h3 (fun q hq => hp q ?_)
   have hq : own b g = some q := hq
   show lendOwn os (1000 + j) j = some q
   rw [lendOwn_at, h1, ← h2, hq]
 | @clo f first first' cap cap' hl _ hl' _ ih ih' =>
  intro u ru
  cases ru with
  | clo _ _ _ us vs k1 k2 k3 k4 =>
   refine .clo f first cap us vs (k1.trans hl) (k2.trans hl') (fun i x u hx hu => ?_) (fun i x u hx hu => ?_)
   ·have hi : i < first'.length := by rw [hl]; exact (List.getElem?_eq_some_iff.1 hx).1
    exact ih i x first'[i] hx (List.getElem?_eq_getElem hi) (k3 i _ u (List.getElem?_eq_getElem hi) hu)
   ·have hi : i < cap'.length := by rw [hl']; exact (List.getElem?_eq_some_iff.1 hx).1
    exact ih' i x cap'[i] hx (List.getElem?_eq_getElem hi) (k4 i _ u (List.getElem?_eq_getElem hi) hu)
def FunA (x : AV) (f : FuncId) (first cap : List AV) : Prop := (x = .val (.func (.func f) #[] #[]) ∧ first = [] ∧ cap = []) ∨ x = .clo (.func f) first cap
section
variable {C : ACtx} {ops : Array Oper} {K : AS → List (List Nat × List Nat) → Prop} {k : Nat} {rest : List Oper} {fr : List (Nat × AV)} {hp : List (Nat × Option Blk)} {gc : Nat} {fps : List (List Nat × List Nat)}
 {d : Nat} {ty : TypeId} {pos : String} {after : Array Edge} {gd : Option (Nat × Bool)} {v : AV}
theorem ARun.callL {dst : Option Nat} {fx : Operand} {args : Array Operand} {ats : Array TypeId} {f : FuncId} {first cap cavs : List AV} {bs : List LB} {res : AV} {bs' : List (List (List AV))} (ls ls' : List (Nat × Blk)) (hF : FnL C.P f cavs bs res bs') (hf : FunA (evA fr fx) f first cap)
  (ha : RelL (Ln (ls.map fun p => (p.1, p.2.gen))) (first ++ args.toList.map (evA fr) ++ cap) cavs) (hlk : LkAll hp ls) (hnd : nodupB (ls.map (·.1)) = true) (hin : LentIn (Ln (ls.map fun p => (p.1, p.2.gen))) ls bs) (hout : LentOut (Lb (ls.map fun p => (p.1, p.2.gen))) ls ls' bs') (hres : Lb (ls.map fun p => (p.1, p.2.gen)) v res)
  (hd : (match dst with | some d => Nat.blt d C.n | none => true) = true) (hg : guardIs ops ⟨fr, hp, gc⟩ ⟨dst, .call ⟨.value fx, args, ats⟩, ty, pos, after, gd⟩ true)
  (nx : ARun C ops K (k + 1) rest ⟨putFr fr dst v, ls'.map (fun p => (p.1, some p.2)) ++ hp, gc⟩ (fps ++ [(ls.map (·.1), ls'.map (·.1))])) : ARun C ops K k (⟨dst, .call ⟨.value fx, args, ats⟩, ty, pos, after, gd⟩ :: rest) ⟨fr, hp, gc⟩ fps := by
 have e : (ls'.map (fun p => (p.1, some p.2))).map (·.1) = ls'.map (·.1) := by rw [List.map_map]; rfl
 refine ARun.step v ls (ls'.map (fun p => (p.1, some p.2))) hg (fun p hp => LkAll.get hlk p hp) ?_ (by rw [e]; exact nx)
 intro s c a w hS _ hargs hrd
 have hdst : ∀ e, dst = some e → e < C.n := by
  intro e he
  subst he
  exact lt_of_blt hd
 have hev : ∀ z ∈ #[fx] ++ args, Rep c w (evA fr z) (a.eval z) := by
  intro z hz
  have hz' : z ∈ (Op.call ⟨.value fx, args, ats⟩).operands.toList := by simpa [Op.operands, Call.operands] using hz
  rw [← args_ev hargs z hz']
  exact hS.ev z
 have h1 := hev fx (by simp)
 obtain ⟨F1, F2⟩ := hF
 -- the function, and what it is called with
 obtain ⟨us, vs, hux, hl, hl', hr, hr'⟩ : ∃ us vs : List Value, a.eval fx = .func (.func f) us.toArray vs.toArray ∧ us.length = first.length ∧ vs.length = cap.length ∧ (∀ (i : Nat) (x : AV) (u : Value), first[i]? = some x → us[i]? = some u → Rep c w x u) ∧ (∀ (i : Nat) (x : AV) (u : Value), cap[i]? = some x → vs[i]? = some u → Rep c w x u) := by
  generalize hfx : evA fr fx = F at hf h1
  generalize hux : a.eval fx = ux at h1
  rcases hf with ⟨rfl, rfl, rfl⟩ | rfl
  ·exact ⟨[], [], h1.val_inv, rfl, rfl, fun i x u h => (by simp at h), fun i x u h => (by simp at h)⟩
  ·cases h1 with
   | clo _ _ _ us vs k1 k2 k3 k4 => exact ⟨us, vs, rfl, k1, k2, k3, k4⟩
 have hmr := map_rep (c := c) (w := w) (a := a) (fr := fr) args.toList (fun z hz => hev z (Array.mem_append.2 (.inr (Array.mem_toList_iff.1 hz))))
 have hall := rep_append (l := first ++ args.toList.map (evA fr)) (l' := cap) (us := us ++ args.toList.map a.eval) (us' := vs) (by simp [hl]) (rep_append hl hr hmr) hr'
 have hlall : (us ++ args.toList.map a.eval ++ vs).length = (first ++ args.toList.map (evA fr) ++ cap).length := by simp [hl, hl']
 -- the blocks
 obtain ⟨hin1, hin2⟩ := hin.get
 obtain ⟨ho1, ho2, ho3⟩ := hout.get
 have hob : ∀ p, p ∈ ls → ∃ o, c.own p.1 p.2.gen = some o ∧ BlkRep c w p.2 o := fun p hp => hS.hp p.1 p.2 (hrd p hp)
 obtain ⟨os, hosl, hosg⟩ := pick_list (fun (j : Nat) (p : Nat × Blk) (o : OB) => c.own p.1 p.2.gen = some o ∧ BlkRep c w p.2 o) ls 0 (fun j p hp => hob p (List.mem_of_getElem? hp))
 have hos : ∀ (j : Nat) (p : Nat × Blk) (o : OB), ls[j]? = some p → os[j]? = some o → c.own p.1 p.2.gen = some o ∧ BlkRep c w p.2 o := fun j p o hp ho => hosg j p o hp ho
 have hosm : ∀ (j b g : Nat), (ls.map fun p => (p.1, p.2.gen))[j]? = some (b, g) → ∃ o, os[j]? = some o ∧ c.own b g = some o := fun j b g h => by
  rw [List.getElem?_map] at h
  cases hp : ls[j]? with
  | none => rw [hp] at h; cases h
  | some p =>
   rw [hp] at h
   simp only [Option.map_some, Option.some.injEq, Prod.mk.injEq] at h
   obtain ⟨rfl, rfl⟩ := h
   have hj : j < os.length := by rw [hosl]; exact (List.getElem?_eq_some_iff.1 hp).1
   exact ⟨os[j], List.getElem?_eq_getElem hj, (hos j p _ hp (List.getElem?_eq_getElem hj)).1⟩
 have hosp : ∀ (j : Nat) (o : OB), os[j]? = some o → ∃ p, ls[j]? = some p ∧ c.own p.1 p.2.gen = some o ∧ BlkRep c w p.2 o := fun j o ho => by
  have hj : j < ls.length := by rw [← hosl]; exact (List.getElem?_eq_some_iff.1 ho).1
  exact ⟨ls[j], List.getElem?_eq_getElem hj, hos j _ o (List.getElem?_eq_getElem hj) ho⟩
 have hC := F2 w c.st (us ++ args.toList.map a.eval ++ vs) os (fun β hb => (hS.st β hb).1) (by rw [hosl, hin1])
  (fun j o β ho hβ => by
   obtain ⟨p, _, k1, _⟩ := hosp j o ho
   have := (hS.al _ _ o k1).2.2 β hβ
   exact ⟨this.1, this.2.1⟩)
  (fun i j o o' β ho ho' hβ hβ' => by
   obtain ⟨p, q1, k1, _⟩ := hosp i o ho
   obtain ⟨p', q1', k1', _⟩ := hosp j o' ho'
   have e := (hS.inj _ _ o _ _ o' β k1 k1' hβ hβ').1
   exact nodupB_spec hnd i j p.1 (by rw [List.getElem?_map, q1]; rfl) (by rw [List.getElem?_map, q1', e]; rfl))
  (fun j o q ho hq => by
   obtain ⟨p, q1, k1, k2⟩ := hosp j o ho
   obtain ⟨z1, z2, z3⟩ := hin2 j p q q1 hq
   obtain ⟨r1, r2, r3⟩ := k2.row (by rw [k2.sz, z1]; exact z2)
   have hget : ∀ (i : Nat) (el : List AV), q.2[i]? = some el → ∃ el0, p.2.els[i]? = some el0 ∧ RelL (Ln (ls.map fun p => (p.1, p.2.gen))) el0 el := fun i el hi => by
    have hi' : i < p.2.els.length := by rw [← z3.1]; exact (List.getElem?_eq_some_iff.1 hi).1
    exact ⟨p.2.els[i], List.getElem?_eq_getElem hi', z3.2 i _ el (List.getElem?_eq_getElem hi') hi⟩
   refine ⟨r1.trans z1, fun el hel => ?_, ?_⟩
   ·obtain ⟨i, hi⟩ := List.getElem?_of_mem hel
    obtain ⟨el0, q1, q2⟩ := hget i el hi
    rw [q2.1, r2 el0 (List.mem_of_getElem? q1), z1]
   ·cases hl : o.loc with
    | none =>
     rw [hl] at r3
     simp only at r3 ⊢
     have := z3.1
     rw [r3] at this
     exact List.eq_nil_of_length_eq_zero this
    | some β =>
     rw [hl] at r3
     obtain ⟨cur, e, y1, y2, y3⟩ := r3
     refine ⟨cur, e, y1, y2, fun i el f x hi hx => ?_⟩
     obtain ⟨el0, t1, t2⟩ := hget i el hi
     have hf : f < el0.length := by rw [← t2.1]; exact (List.getElem?_eq_some_iff.1 hx).1
     obtain ⟨u, u1, u2, u3⟩ := y3 i el0 f el0[f] t1 (List.getElem?_eq_getElem hf)
     exact ⟨u, by rw [← z1]; exact u1, u2, Ln.rep hosm (t2.2 f _ x (List.getElem?_eq_getElem hf) hx) u3⟩)
  (hlall.trans ha.1.symm) (fun i x u hx hu => by
   have hi : i < (first ++ args.toList.map (evA fr) ++ cap).length := by rw [← ha.1]; exact (List.getElem?_eq_some_iff.1 hx).1
   exact Ln.rep hosm (ha.2 i _ x (List.getElem?_eq_getElem hi) hx) (hall i _ u (List.getElem?_eq_getElem hi) hu))
 have hrun : (execOp a.eval ⟨dst, .call ⟨.value fx, args, ats⟩, ty, pos, after, gd⟩).run C.P w = .ok (.enter f (us ++ args.toList.map a.eval ++ vs).toArray) w := by
  have e : us.toArray ++ args.map a.eval ++ vs.toArray = (us ++ args.toList.map a.eval ++ vs).toArray := by
   apply Array.ext'
   simp
  rw [← e]
  simp [execOp, resolve, hux, Deferred.ofValue, invoke, F1]
 unfold Oper.wp
 rw [hrun, Oper.upon_enter]
 refine hC.mono (fun e w' ⟨r, St, he, hE, hs1, hs2, hs3, hrow, hrr⟩ => ?_)
 subst he
 have hosb : ∀ (j b g : Nat), (ls.map fun p => (p.1, p.2.gen))[j]? = some (b, g) → ∃ o, os[j]? = some o ∧ c.own b g = some o ∧ c.used g := fun j b g h => by
  obtain ⟨o, k1, k2⟩ := hosm j b g h
  exact ⟨o, k1, k2, (hS.al b g o k2).1⟩
 refine ⟨_, hS.lent ls' os St (by rw [hosl, ho1]) (fun j p' o hp' ho => ?_) hE hs1 hs2 dst v r hdst (Lb.rep hosb hres hrr), fun g hg => .inl hg⟩
 obtain ⟨p, q1, k1, k2⟩ := hosp j o ho
 have hjb : j < bs'.length := by rw [ho2]; exact (List.getElem?_eq_some_iff.1 q1).1
 have hjs : j < bs.length := by rw [hin1]; exact (List.getElem?_eq_some_iff.1 q1).1
 obtain ⟨z1, z2, z3, z4⟩ := ho3 j p p' _ q1 hp' (List.getElem?_eq_getElem hjb)
 obtain ⟨y1, y2, _⟩ := hin2 j p _ q1 (List.getElem?_eq_getElem hjs)
 refine ⟨by rw [z1, z2]; exact k1, ⟨p.2, by rw [z1]; exact hrd p (List.mem_of_getElem? q1), z2.symm⟩, ?_⟩
 obtain ⟨r1, r2, r3⟩ := hrow j o _ _ ho (List.getElem?_eq_getElem hjs) (List.getElem?_eq_getElem hjb)
 simp only at r1 r2 r3
 have hget : ∀ (i : Nat) (el : List AV), p'.2.els[i]? = some el → ∃ el0, bs'[j][i]? = some el0 ∧ RelL (Lb (ls.map fun p => (p.1, p.2.gen))) el el0 := fun i el hi => by
  have hi' : i < bs'[j].length := by rw [z4.1]; exact (List.getElem?_eq_some_iff.1 hi).1
  exact ⟨bs'[j][i], List.getElem?_eq_getElem hi', z4.2 i el _ hi (List.getElem?_eq_getElem hi')⟩
 have hsz : bs[j].1 = p'.2.sz := by rw [z3, y1]
 refine ⟨r1.trans hsz, fun el hel => ?_, ?_⟩
 ·obtain ⟨i, hi⟩ := List.getElem?_of_mem hel
  obtain ⟨el0, q1, q2⟩ := hget i el hi
  rw [← q2.1, r2 el0 (List.mem_of_getElem? q1), hsz]
 ·cases hl : o.loc with
  | none =>
   rw [hl] at r3
   simp only at r3 ⊢
   have := z4.1
   rw [r3] at this
   exact List.eq_nil_of_length_eq_zero this.symm
  | some β =>
   rw [hl] at r3
   obtain ⟨cur, e, y1, y2, y3⟩ := r3
   refine ⟨cur, e, y1, y2, fun i el f x hi hx => ?_⟩
   obtain ⟨el0, t1, t2⟩ := hget i el hi
   have hf : f < el0.length := by rw [t2.1]; exact (List.getElem?_eq_some_iff.1 hx).1
   obtain ⟨u, u1, u2, u3⟩ := y3 i el0 f el0[f] t1 (List.getElem?_eq_getElem hf)
   exact ⟨u, by rw [← hsz]; exact u1, u2, Lb.rep hosb (t2.2 f x _ hx (List.getElem?_eq_getElem hf)) u3⟩
end
end Go.Proofs.Ytkmlmboclegpcaa
namespace Go.Proofs.Ytkmlmboclegpcaa
open Go Go.RowKit
set_option maxRecDepth 100000
section
variable {C : ACtx} {ops : Array Oper} {K : AS → List (List Nat × List Nat) → Prop} {k : Nat} {rest : List Oper} {fr : List (Nat × AV)} {hp : List (Nat × Option Blk)} {gc : Nat} {fps : List (List Nat × List Nat)}
 {d : Nat} {ty : TypeId} {pos : String} {after : Array Edge} {gd : Option (Nat × Bool)} {x y z : Operand} {v : AV}
theorem ARun.nilCheckP {b g i f : Nat} (hx : evA fr x = .ptr b g i f) (hd : Nat.blt d C.n = true) (hg : guardIs ops ⟨fr, hp, gc⟩ ⟨some d, .nilCheck x, ty, pos, after, gd⟩ true)
  (nx : ARun C ops K (k + 1) rest ⟨(d, .ptr b g i f) :: fr, hp, gc⟩ (fps ++ [([], [])])) : ARun C ops K k (⟨some d, .nilCheck x, ty, pos, after, gd⟩ :: rest) ⟨fr, hp, gc⟩ fps :=
 ARun.quiet hd hg [] (by simp) (fun s c a w hS hev _ => by
  have h1 := hev x (by simp [Op.operands])
  rw [hx] at h1
  generalize hu : a.eval x = u at h1
  cases h1 with
  | ptr _ _ _ _ β o hu' hp' => exact ⟨_, by simp [execOp, hu], .ptr b g i f β o hu' hp'⟩) nx
end
section
variable {P : Program} {T : Nat → Option TI} {ok : ∀ t ti, T t = some ti → tiOf P t = some ti} {nn : Nat} {w0 : World} {st0 lent : Nat → Prop} {rdd : Option Nat × Bool} {c00 : RC} {ops : Array Oper} {K : AS → List (List Nat × List Nat) → Prop} {k : Nat} {rest : List Oper} {fr : List (Nat × AV)} {hp : List (Nat × Option Blk)} {gc : Nat} {fps : List (List Nat × List Nat)}
 {d : Nat} {ty : TypeId} {pos : String} {after : Array Edge} {gd : Option (Nat × Bool)} {v : AV}
theorem callLX {dst : Option Nat} {fx : Operand} {args : Array Operand} {ats : Array TypeId} {f : FuncId} {first cap cavs : List AV} {bs : List LB} {res : AV} {bs' : List (List (List AV))} (ls ls' : List (Nat × Blk)) (hF : FnL P f cavs bs res bs') (hf : FunA (evA fr fx) f first cap) (hlk : LkAll hp ls)
  (ha : RelL (Ln (ls.map fun p => (p.1, p.2.gen))) (first ++ args.toList.map (evA fr) ++ cap) cavs) (hin : LentIn (Ln (ls.map fun p => (p.1, p.2.gen))) ls bs) (hout : LentOut (Lb (ls.map fun p => (p.1, p.2.gen))) ls ls' bs') (hres : Lb (ls.map fun p => (p.1, p.2.gen)) v res)
  (hnd : nodupB (ls.map (·.1)) = true) (hd : (match dst with | some d => Nat.blt d nn | none => true) = true) (hg : guardF ops fr ⟨dst, .call ⟨.value fx, args, ats⟩, ty, pos, after, gd⟩ = some true)
  (nx : ARun ⟨P, T, ok, nn, w0, st0, lent, rdd, c00⟩ ops K (k + 1) rest ⟨putFr fr dst v, ls'.map (fun p => (p.1, some p.2)) ++ hp, gc⟩ (fps ++ [(ls.map (·.1), ls'.map (·.1))])) : ARun ⟨P, T, ok, nn, w0, st0, lent, rdd, c00⟩ ops K k (⟨dst, .call ⟨.value fx, args, ats⟩, ty, pos, after, gd⟩ :: rest) ⟨fr, hp, gc⟩ fps :=
 ARun.callL ls ls' hF hf ha hlk hnd hin hout hres hd (guardF_spec hg) nx
end
end Go.Proofs.Ytkmlmboclegpcaa
namespace Go.Proofs.Ytkmlmboclegpcaa
open Go Go.RowKit
set_option maxRecDepth 100000
section
variable {C : ACtx} {ops : Array Oper} {K : AS → List (List Nat × List Nat) → Prop} {k : Nat} {rest : List Oper} {fr : List (Nat × AV)} {hp : List (Nat × Option Blk)} {gc : Nat} {fps : List (List Nat × List Nat)}
 {d : Nat} {ty : TypeId} {pos : String} {after : Array Edge} {gd : Option (Nat × Bool)} {x y z : Operand} {v : AV}
theorem ARun.storeAt {t : Nat} {ti : TI} {b g i f : Nat} {gen sz : Nat} {els els' : List (List AV)} {el el' cs : List AV} (hx : evA fr x = .ptr b g i f) (hb : lkH hp b = some ⟨gen, sz, els⟩) (hgg : gen = g) (he : els[i]? = some el)
  (ht : C.T t = some ti) (hc : cellsA (evA fr y) = some cs) (hl : cs.length = ti.size) (h0 : Nat.blt 0 ti.size = true) (hs : setF el f cs = some el') (hu : els.set i el' = els')
  (hg : guardIs ops ⟨fr, hp, gc⟩ ⟨none, .store t x y, ty, pos, after, gd⟩ true)
  (nx : ARun C ops K (k + 1) rest ⟨fr, (b, some ⟨gen, sz, els'⟩) :: hp, gc⟩ (fps ++ [([b], [b])])) : ARun C ops K k (⟨none, .store t x y, ty, pos, after, gd⟩ :: rest) ⟨fr, hp, gc⟩ fps := by
 subst hu
 exact ARun.store hx hb hgg he ht hc hl h0 (setF_spec hs) hg nx
end
end Go.Proofs.Ytkmlmboclegpcaa
namespace Go.Proofs.Ytkmlmboclegpcaa
open Go Go.RowKit
set_option maxRecDepth 100000
section
variable {C : ACtx} {ops : Array Oper} {K : AS → List (List Nat × List Nat) → Prop} {k : Nat} {rest : List Oper} {fr : List (Nat × AV)} {hp : List (Nat × Option Blk)} {gc : Nat} {fps : List (List Nat × List Nat)}
 {d : Nat} {ty : TypeId} {pos : String} {after : Array Edge} {gd : Option (Nat × Bool)} {x y z : Operand} {v : AV}
theorem ARun.indexAgg {t e n : Nat} {ti te : TI} {es : List AV} {kk : IntKind} {i : Int} (hx : evA fr x = .agg es) (hy : evA fr y = .val (.int kk i)) (h0 : 0 ≤ i) (h1 : i < (n : Int)) (ht : C.T t = some ti) (hk : ti.k = .array n e) (hte : C.T e = some te) (ha : te.k.agg = false) (h2 : te.size = 1) (hv : es[i.toNat]? = some v)
  (hd : Nat.blt d C.n = true) (hg : guardIs ops ⟨fr, hp, gc⟩ ⟨some d, .index t x y, ty, pos, after, gd⟩ true)
  (nx : ARun C ops K (k + 1) rest ⟨(d, v) :: fr, hp, gc⟩ (fps ++ [([], [])])) : ARun C ops K k (⟨some d, .index t x y, ty, pos, after, gd⟩ :: rest) ⟨fr, hp, gc⟩ fps :=
 ARun.quiet hd hg [] (by simp) (fun s' c a w hS hev _ => by
  have hrx := hev x (by simp [Op.operands])
  have hry := hev y (by simp [Op.operands])
  rw [hx] at hrx
  rw [hy] at hry
  have hry := hry.val_inv
  have hun := run_underlying' (und_array ht hk) w
  generalize hux : a.eval x = ux at hrx
  cases hrx with
  | agg _ us hl hone hr =>
   have hlt : i.toNat < us.length := by rw [hl]; exact (List.getElem?_eq_some_iff.1 hv).1
   refine ⟨us[i.toNat], ?_, hr _ v _ hv (List.getElem?_eq_getElem hlt)⟩
   simp [execOp, Instr.index, hux, hry, asIntOf, hun, h0, h1, part, run_isAgg hte, ha, run_sizeOf hte, h2, hlt]) nx
end
end Go.Proofs.Ytkmlmboclegpcaa
namespace Go.Proofs.Ytkmlmboclegpcaa
open Go Go.RowKit
set_option maxRecDepth 100000
theorem awp_cut {C : ACtx} {s : AS} {Q Q2 : Exit → AS → Prop} {c c2 : Code} {T : Type} (S : T → AS) (I : T → Prop) (h1 : awp C c s (thenA (fun s' => ∃ t, (FrLe s'.fr (S t).fr ∧ HpLe s'.hp (S t).hp ∧ s'.gc ≤ (S t).gc) ∧ I t) Q2))
    (h2 : ∀ t, I t → awp C c2 (S t) Q) : awp C c s (thenA (fun s' => awp C c2 s' Q) Q2) :=
  awp_mono h1 (fun e s' h => by
    cases e <;> first
      | exact h
      | (obtain ⟨t, ⟨k1, k2, k3⟩, hI⟩ := h
         exact awp_weaken (fun a w hs => hs.le k1 k2 k3) (h2 t hI)))
end Go.Proofs.Ytkmlmboclegpcaa
namespace Go.Proofs.Ytkmlmboclegpcaa
open Go Go.RowKit
set_option maxRecDepth 100000
theorem SimE.wkH {C : ACtx} {s : AS} {a : Act} {w : World} (h : SimE C s a w) {b gen sz : Nat} {els els' : List (List AV)} (hb : lkH s.hp b = some ⟨gen, sz, els⟩) (h0 : Nat.blt 0 sz = true) (hw : RelR Wk els els') : SimE C ⟨s.fr, (b, some ⟨gen, sz, els'⟩) :: s.hp, s.gc⟩ a w := by
 obtain ⟨c, hS, hu⟩ := h
 refine ⟨c, ⟨hS.nd, hS.sz, hS.fr, fun b' blk hb' => ?_, fun b' g o ho => ?_, hS.inj, hS.st, hS.st0, hS.old, hS.mo⟩, hu⟩
 ·simp only at hb'
  rw [lkH_cons] at hb'
  split at hb'
  ·rename_i e
   subst e
   obtain rfl := Option.some.inj hb'
   obtain ⟨o, q1, q2⟩ := hS.hp b' _ hb
   obtain ⟨r1, r2, r3⟩ := q2.row (by rw [q2.sz]; exact lt_of_blt h0)
   have hget : ∀ (i : Nat) (el : List AV), els'[i]? = some el → ∃ el0, els[i]? = some el0 ∧ RelL Wk el0 el := fun i el hi => by
    have hi' : i < els.length := by rw [← hw.1]; exact (List.getElem?_eq_some_iff.1 hi).1
    exact ⟨els[i], List.getElem?_eq_getElem hi', hw.2 i _ el (List.getElem?_eq_getElem hi') hi⟩
   refine ⟨o, q1, .inl ⟨r1, fun el hel => ?_, ?_⟩⟩
   ·obtain ⟨i, hi⟩ := List.getElem?_of_mem hel
    obtain ⟨el0, k1, k2⟩ := hget i el hi
    rw [k2.1]
    exact r2 el0 (List.mem_of_getElem? k1)
   ·cases hl : o.loc with
    | none =>
     rw [hl] at r3
     simp only at r3 ⊢
     have := hw.1
     rw [r3] at this
     exact List.eq_nil_of_length_eq_zero this
    | some β =>
     rw [hl] at r3
     obtain ⟨cur, e, y1, y2, y3⟩ := r3
     refine ⟨cur, e, y1, y2, fun i el f x hi hx => ?_⟩
     obtain ⟨el0, t1, t2⟩ := hget i el hi
     have hf : f < el0.length := by rw [← t2.1]; exact (List.getElem?_eq_some_iff.1 hx).1
     obtain ⟨u, u1, u2, u3⟩ := y3 i el0 f el0[f] t1 (List.getElem?_eq_getElem hf)
     exact ⟨u, u1, u2, (t2.2 f _ x (List.getElem?_eq_getElem hf) hx).rep u3⟩
  ·exact hS.hp b' blk hb'
 ·obtain ⟨k1, ⟨blk, k2, k3⟩, k4⟩ := hS.al b' g o ho
  refine ⟨k1, ?_, k4⟩
  simp only
  by_cases e : b' = b
  ·subst e
   rw [hb] at k2
   obtain rfl := Option.some.inj k2
   exact ⟨⟨gen, sz, els'⟩, by rw [lkH_cons, if_pos rfl], k3⟩
  ·exact ⟨blk, by rw [lkH_cons, if_neg e]; exact k2, k3⟩
theorem awp_wkH {C : ACtx} {fr : List (Nat × AV)} {hp : List (Nat × Option Blk)} {gc : Nat} {Q : Exit → AS → Prop} {c : Code} (b : Nat) {gen sz : Nat} {els : List (List AV)} (els' : List (List AV)) (hb : lkH hp b = some ⟨gen, sz, els⟩) (h0 : Nat.blt 0 sz = true) (hw : RelR Wk els els')
  (h : awp C c ⟨fr, (b, some ⟨gen, sz, els'⟩) :: hp, gc⟩ Q) : awp C c ⟨fr, hp, gc⟩ Q :=
 awp_weaken (fun a w hs => hs.wkH (s := ⟨fr, hp, gc⟩) hb h0 hw) h
end Go.Proofs.Ytkmlmboclegpcaa
namespace Go.Proofs.Ytkmlmboclegpcaa
open Go Go.RowKit Go.Lib
set_option maxRecDepth 100000
section
variable {C : ACtx} {ops : Array Oper} {K : AS → List (List Nat × List Nat) → Prop} {k : Nat} {rest : List Oper} {fr : List (Nat × AV)} {hp : List (Nat × Option Blk)} {gc : Nat} {fps : List (List Nat × List Nat)}
 {d : Nat} {ty : TypeId} {pos : String} {after : Array Edge} {gd : Option (Nat × Bool)} {x y z : Operand} {v : AV}
end
end Go.Proofs.Ytkmlmboclegpcaa
namespace Go.Proofs.Ytkmlmboclegpcaa
open Go Go.RowKit
set_option maxRecDepth 100000
end Go.Proofs.Ytkmlmboclegpcaa
namespace Go.Proofs.Ytkmlmboclegpcaa
open Go Go.RowKit
set_option maxRecDepth 100000
end Go.Proofs.Ytkmlmboclegpcaa
namespace Go.Proofs.Ytkmlmboclegpcaa
open Go Go.RowKit
set_option maxRecDepth 100000
def FnN (P : Program) (f : FuncId) (args : List AV) (el : List AV) : Prop :=
 (∀ (vs : Array Value) (w : World), (callFunc f vs).run P w = .ok (.enter f vs) w) ∧
 ∀ (w : World) (st : Nat → Prop) (vs : List Value), (∀ β, st β → β < w.heap.size) → vs.length = args.length → (∀ (i : Nat) (x : AV) (u : Value), args[i]? = some x → vs[i]? = some u → Rep (RC.pure st) w x u) →
  Calls P f vs.toArray w (fun e w' => ∃ β St cur ty, e = .returned (.pointer (some ⟨β, 0, none⟩)) ∧ Below w.heap.size w w' ∧ (∀ β, st β → St β) ∧ (∀ β, St β → st β ∨ (w.heap.size ≤ β ∧ β < w'.heap.size)) ∧
   w.heap.size ≤ β ∧ β < w'.heap.size ∧ ¬ St β ∧ RowAt w' β cur ty ∧ ∀ (j : Nat) (x : AV), el[j]? = some x → ∃ u, cur[j]? = some u ∧ u.oneCell' = true ∧ ∀ own used, Rep ⟨own, used, St⟩ w' x u)
def retN (C : ACtx) (rs : Array ResultVar) (el : List AV) : Exit → AS → Prop
 | .normal, s => ∃ t b g sz, rs.toList = [.tmp t] ∧ lkA s.fr t = .ptr b g 0 0 ∧ lkH s.hp b = some ⟨g, sz, [el]⟩
 | .ret, s => ∃ t b g sz, rs.toList = [.tmp t] ∧ lkA s.fr t = .ptr b g 0 0 ∧ lkH s.hp b = some ⟨g, sz, [el]⟩
 | _, _ => False
theorem FnN.of_awp {P : Program} {T : Nat → Option TI} {ok : ∀ t ti, T t = some ti → tiOf P t = some ti} {f : FuncId} {fn : Func} {code : Code} {args : List AV} {el : List AV} (hf : P.funcs[f]? = some fn)
  (hn : (fn.name == "runtime.NumGoroutine") = false) (hb : fn.body = some code) (hlen : Nat.ble args.length fn.ntmps = true) (hcl : ∀ x, x ∈ args → Closed x) (hel : ∀ x, x ∈ el → Closed x)
  (h : ∀ (w0 : World) (st0 : Nat → Prop), awp ⟨P, T, ok, fn.ntmps, w0, st0, fun _ => False, (none, false), RC.bare st0⟩ code ⟨frOf 0 args, [], 0⟩ (retN ⟨P, T, ok, fn.ntmps, w0, st0, fun _ => False, (none, false), RC.bare st0⟩ fn.results el)) : FnN P f args el := by
 refine ⟨fun vs w => ?_, fun w st vs hst hl hr => ?_⟩
 ·have hn' : ¬ fn.name = "runtime.NumGoroutine" := by simpa using hn
  simp [callFunc, hf, hn', hb]
 ·refine (callsIn_wide (n := 0)).1 (callsIn_of_wp_marks hf hb trivial ?_)
  have hle := Nat.le_of_ble_eq_true hlen
  have hS : SimE ⟨P, T, ok, fn.ntmps, w, st, fun _ => False, (none, false), RC.bare st⟩ ⟨frOf 0 args, [], 0⟩ { tmps := vs.toArray ++ Array.replicate (fn.ntmps - vs.toArray.size) undef, defers := [] } w := by
   refine ⟨⟨fun _ _ => none, fun _ => False, st⟩, ⟨Nd.nil _ _ _ _, by simp; omega, fun t => ?_, fun b blk hb => by simp [lkH] at hb, fun b g o ho => by simp at ho, fun b g o b' g' o' β h => by simp at h, fun β hb => ⟨hst β hb, .inl hb⟩, fun β hb => hb, Old.refl _ _, Mono.refl _ _⟩, fun g hg => hg.elim⟩
   simp only
   rw [lk_frOf]
   simp only [Nat.zero_le, if_true, Nat.sub_zero]
   cases hx : args[t]? with
   | none => exact .dead _
   | some x =>
    have ht : t < vs.length := by rw [hl]; exact (List.getElem?_eq_some_iff.1 hx).1
    have : (vs.toArray ++ Array.replicate (fn.ntmps - vs.toArray.size) undef).getD t undef = vs[t] := by
     simp [Array.getD_eq_getD_getElem?, Array.getElem?_append, ht]
    rw [this]
    have := hr t x vs[t] hx (List.getElem?_eq_getElem ht)
    simp only [Option.getD_some]
    exact this.closed (hcl x (List.mem_of_getElem? hx)) _ (fun β hb => ⟨hb, rfl⟩)
  refine wpIn_mono (h w st _ w hS) (fun e a' w' ⟨s', ⟨c', hS', _⟩, hq⟩ => ?_)
  have fin0 : ∀ (w2 : World) (c2 : RC), Sim ⟨P, T, ok, fn.ntmps, w, st, fun _ => False, (none, false), RC.bare st⟩ s' c2 { a' with defers := [] } w2 → (∃ t b g sz, fn.results.toList = [.tmp t] ∧ lkA s'.fr t = .ptr b g 0 0 ∧ lkH s'.hp b = some ⟨g, sz, [el]⟩) →
    ∃ v, (results fn a'.tmps).run P w2 = .ok v w2 ∧ ∃ β St cur ty, Ending.returned v = .returned (.pointer (some ⟨β, 0, none⟩)) ∧ Below w.heap.size w w2 ∧ (∀ β, st β → St β) ∧ (∀ β, St β → st β ∨ (w.heap.size ≤ β ∧ β < w2.heap.size)) ∧
     w.heap.size ≤ β ∧ β < w2.heap.size ∧ ¬ St β ∧ RowAt w2 β cur ty ∧ ∀ (j : Nat) (x : AV), el[j]? = some x → ∃ u, cur[j]? = some u ∧ u.oneCell' = true ∧ ∀ own used, Rep ⟨own, used, St⟩ w2 x u := by
   intro w' c' hS' ⟨t, b, g, sz, e1, e2, e3⟩
   have hfr := hS'.fr t
   rw [e2] at hfr
   obtain ⟨o, h1, hB⟩ := hS'.hp b _ e3
   simp only at h1
   generalize hu : ({ a' with defers := [] } : Act).tmps.getD t undef = u at hfr
   have hu' : a'.tmps.getD t undef = u := hu
   cases hfr with
   | ptr _ _ _ _ β off _ hp =>
    obtain ⟨k1, k2, k3⟩ := hp o h1
    simp only [Nat.zero_mul, Nat.zero_add] at k2
    subst k2
    obtain ⟨r1, r2, r3⟩ := hB.row k3
    simp only at r1 r2 r3
    rw [k1] at r3
    obtain ⟨cur, ty, q1, q2, q3⟩ := r3
    have hlk : ∀ b', lkH ((b, none) :: s'.hp) b' = lkH s'.hp b' ∨ lkH ((b, none) :: s'.hp) b' = none := fun b' => by
     rw [lkH_cons]
     split
     ·exact .inr rfl
     ·exact .inl rfl
    let cX : RC := ⟨fun b' g' => if lkH ((b, none) :: s'.hp) b' = none then none else c'.own b' g', c'.used, c'.st⟩
    obtain ⟨al1, al2, al3⟩ := (hS'.al b g o h1).2.2 β k1
    have hβ : w.heap.size ≤ β := by
     rcases al3 with h | h
     ·exact h
     ·exact h.elim
    refine ⟨_, run_results (us := [a'.tmps.getD t undef]) (by rw [e1]; rfl), β, cX.given, cur, ty, by show Ending.returned (a'.tmps.getD t undef) = _; rw [hu'], ⟨hS'.old.os, hS'.old.tape, hS'.old.output, hS'.old.size, fun k hk => hS'.old.block k hk (fun h => h)⟩, fun β' hb => .inl (hS'.st0 β' hb), fun β' hb => ?_, hβ, al1, fun hgv => ?_, q1, fun j x hx => ?_⟩
    ·rcases hb with hb | ⟨b2, g2, o2, y1, y2⟩
     ·obtain ⟨z1, z2 | z2 | z2⟩ := hS'.st β' hb
      ·exact .inl z2
      ·exact .inr ⟨z2, z1⟩
      ·exact z2.elim
     ·simp only [cX] at y1
      split at y1
      ·cases y1
      ·obtain ⟨z1, z2, z3 | z3⟩ := (hS'.al b2 g2 o2 y1).2.2 β' y2
       ·exact .inr ⟨z3, z1⟩
       ·exact z3.elim
    ·rcases hgv with hgv | ⟨b2, g2, o2, y1, y2⟩
     ·exact al2 hgv
     ·simp only [cX] at y1
      split at y1
      ·cases y1
      ·rename_i hne
       have := (hS'.inj b2 g2 o2 b g o β y1 h1 y2 k1).1
       subst this
       exact hne (by rw [lkH_cons, if_pos rfl])
    ·obtain ⟨v, x1, x2, x3⟩ := q3 0 el j x rfl hx
     rw [Nat.zero_mul, Nat.zero_add] at x1
     exact ⟨v, x1, x2, fun own used => x3.closed (hel x (List.mem_of_getElem? hx)) _ (fun β' hb => ⟨.inl hb, rfl⟩)⟩
  have fin : (∃ t b g sz, fn.results.toList = [.tmp t] ∧ lkA s'.fr t = .ptr b g 0 0 ∧ lkH s'.hp b = some ⟨g, sz, [el]⟩) → LeavesInM Fence.wide 0 P fn a'.tmps (fun e w2 => ∃ β St cur ty, e = .returned (.pointer (some ⟨β, 0, none⟩)) ∧ Below w.heap.size w w2 ∧ (∀ β, st β → St β) ∧ (∀ β, St β → st β ∨ (w.heap.size ≤ β ∧ β < w2.heap.size)) ∧
     w.heap.size ≤ β ∧ β < w2.heap.size ∧ ¬ St β ∧ RowAt w2 β cur ty ∧ ∀ (j : Nat) (x : AV), el[j]? = some x → ∃ u, cur[j]? = some u ∧ u.oneCell' = true ∧ ∀ own used, Rep ⟨own, used, St⟩ w2 x u) a'.defers .returning w' := by
   intro hh
   refine leavesM a'.defers w' hS'.nd (fun w1 k1 k2 k3 k4 k5 => ?_)
   exact fin0 w1 _ (hS'.shut (w1 := w1) (fun β => ({ target := .collected β, args := #[] } : Deferred) ∈ a'.defers) (fun β hβ => by
    obtain ⟨D, g1, g2, g3, g4⟩ := hS'.nd.at_ _ hβ
    obtain rfl : β = D := by cases g1; rfl
    exact ⟨g2, g3, _, g4⟩) k1 k2 k3 k4 k5 (fun β hb => hst β hb) (fun β hb => hst β hb)) hh
  cases e <;> first
   | exact fin hq
   | exact hq.elim
section
variable {C : ACtx} {ops : Array Oper} {K : AS → List (List Nat × List Nat) → Prop} {k : Nat} {rest : List Oper} {fr : List (Nat × AV)} {hp : List (Nat × Option Blk)} {gc : Nat} {fps : List (List Nat × List Nat)}
 {d : Nat} {ty : TypeId} {pos : String} {after : Array Edge} {gd : Option (Nat × Bool)} {v : AV}
end
end Go.Proofs.Ytkmlmboclegpcaa
namespace Go.Proofs.Ytkmlmboclegpcaa
open Go Go.RowKit
set_option maxRecDepth 100000
theorem awp_cT {C : ACtx} {s : AS} {Q : Exit → AS → Prop} {x : Operand} {c d : Code} {b : Bool} (hv : s.ev x = .val (.bool b)) (h : awp C c s Q) (hb : b = true := by first | rfl | assumption | exact beq_int _ | exact bne_int _) : awp C (.cond x c d) s Q := awp_condT hv hb h
theorem awp_cF {C : ACtx} {s : AS} {Q : Exit → AS → Prop} {x : Operand} {c d : Code} {b : Bool} (hv : s.ev x = .val (.bool b)) (h : awp C d s Q) (hb : b = false := by first | rfl | assumption | exact beq_int _ | exact bne_int _) : awp C (.cond x c d) s Q := awp_condF hv hb h
theorem awp_rg {C : ACtx} {s : AS} {Q : Exit → AS → Prop} {id : Nat} {l : List Oper} {draw : Bool} (hm : C.P.follows .mixedOrders = true) (h : ARun C l.toArray (regK draw l Q) 0 l s []) : awp C (.region id l.toArray draw) s Q := awp_region (fun _ => hm) h
section
variable {C : ACtx} {ops : Array Oper} {K : AS → List (List Nat × List Nat) → Prop} {k : Nat} {rest : List Oper} {fr : List (Nat × AV)} {hp : List (Nat × Option Blk)} {gc : Nat} {fps : List (List Nat × List Nat)}
 {d : Nat} {ty : TypeId} {pos : String} {after : Array Edge} {gd : Option (Nat × Bool)} {x y z : Operand} {v : AV}
theorem ARun.o {o : Oper} {fr' : List (Nat × AV)} {hp' : List (Nat × Option Blk)} {r w : List Nat} {side : Prop} (h : opF C.T C.n ops (gc + k) fr hp o = some ⟨fr', hp', r, w, side⟩)
  (n : ARun C ops K (k + 1) rest ⟨fr', hp', gc⟩ (fps ++ [(r, w)]))
  (hs : side := by first | exact True.intro | exact rfl | (unfold inR; omega) | omega | ((try unfold inR); simp only [decide_eq_true_eq, decide_eq_false_iff_not, beq_iff_eq, beq_eq_false_iff_ne, ne_eq, Bool.not_eq_true', Bool.not_eq_false', List.length_map, List.length_append, List.length_take, List.length_drop, List.length_replicate, List.length_cons, List.length_nil] at *; omega)) : ARun C ops K k (o :: rest) ⟨fr, hp, gc⟩ fps := ARun.op h hs n
theorem ARun.kT {draw : Bool} {l0 : List Oper} {Q : Exit → AS → Prop} {dst : Option Nat} {op : Op} {j : Nat} {want b : Bool} {oj : Oper} {e : Nat} (h1 : ops[j]? = some oj) (h2 : oj.dst = some e) (h3 : lkA fr e = .val (.bool b))
  (ht : ARun C ops (regK draw l0 Q) k (⟨dst, op, ty, pos, after, some (j, want)⟩ :: rest) ⟨(e, .val (.bool true)) :: fr, hp, gc⟩ fps) (hb : b = true := by first | rfl | assumption | exact beq_int _ | exact bne_int _) :
  ARun C ops (regK draw l0 Q) k (⟨dst, op, ty, pos, after, some (j, want)⟩ :: rest) ⟨fr, hp, gc⟩ fps := ARun.knowT h1 h2 h3 hb ht
theorem ARun.kF {draw : Bool} {l0 : List Oper} {Q : Exit → AS → Prop} {dst : Option Nat} {op : Op} {j : Nat} {want b : Bool} {oj : Oper} {e : Nat} (h1 : ops[j]? = some oj) (h2 : oj.dst = some e) (h3 : lkA fr e = .val (.bool b))
  (hf : ARun C ops (regK draw l0 Q) k (⟨dst, op, ty, pos, after, some (j, want)⟩ :: rest) ⟨(e, .val (.bool false)) :: fr, hp, gc⟩ fps) (hb : b = false := by first | rfl | assumption | exact beq_int _ | exact bne_int _) :
  ARun C ops (regK draw l0 Q) k (⟨dst, op, ty, pos, after, some (j, want)⟩ :: rest) ⟨fr, hp, gc⟩ fps := ARun.knowF h1 h2 h3 hb hf
theorem ARun.f {s : AS} {l : List Oper} {draw : Bool} {Q : Exit → AS → Prop} (h2 : Q .normal (s.bump l.length)) (h1 : draw = true → regOk l fps = true := by first | (intro h; cases h; done) | (intro _; kernel_rfl)) : ARun C ops (regK draw l Q) k [] s fps := ARun.fin h1 h2
end
section
variable {P : Program} {T : Nat → Option TI} {ok : ∀ t ti, T t = some ti → tiOf P t = some ti} {nn : Nat} {w0 : World} {st0 lent : Nat → Prop} {rdd : Option Nat × Bool} {c00 : RC}
 {ops : Array Oper} {K : AS → List (List Nat × List Nat) → Prop} {k : Nat} {rest : List Oper} {fr : List (Nat × AV)} {hp : List (Nat × Option Blk)} {gc : Nat} {fps : List (List Nat × List Nat)}
 {d : Nat} {ty : TypeId} {pos : String} {after : Array Edge} {gd : Option (Nat × Bool)} {x y z : Operand} {v : AV}
def dOk (nn : Nat) : Option Nat → Bool
 | some d => Nat.blt d nn
 | none => true
end
end Go.Proofs.Ytkmlmboclegpcaa
namespace Go.Proofs.Ytkmlmboclegpcaa
open Go Go.RowKit
set_option maxRecDepth 100000
theorem Sim.frz {C : ACtx} {s : AS} {c : RC} {a : Act} {w : World} {d g sz : Nat} {els : List (List AV)} (hS : Sim C (s.app (some d) (.own d g 0 els.length) [(d, some ⟨g, sz, els⟩)]) c a w) (hcl : ∀ el x, el ∈ els → x ∈ el → Closed x) :
  ∃ c2, Sim C (s.app (some d) (.sl sz false els) [(d, none)]) c2 a w ∧ ∀ g, c2.used g → c.used g := by
 classical
 let c' : RC := ⟨fun b' g' => if b' = d then none else c.own b' g', c.used, fun β => c.st β ∨ ∃ o, c.own d g = some o ∧ o.loc = some β⟩
 have hm : Mono c c' w w := ⟨fun β hb => ⟨.inl hb, rfl⟩, fun g hg => hg, fun b g o _ ho => by
  simp only [c'] at ho
  split at ho
  ·cases ho
  ·exact ho⟩
 have hlk : ∀ b', lkH (s.app (some d) (.own d g 0 els.length) [(d, some ⟨g, sz, els⟩)]).hp b' = if b' = d then some ⟨g, sz, els⟩ else lkH s.hp b' := fun b' => by
  simp only [AS.app, List.cons_append, List.nil_append, lkH_cons]
 have hlk2 : ∀ b', lkH (s.app (some d) (.sl sz false els) [(d, none)]).hp b' = if b' = d then none else lkH s.hp b' := fun b' => by
  simp only [AS.app, List.cons_append, List.nil_append, lkH_cons]
 have hfr : ∀ t, lkA (s.app (some d) (.own d g 0 els.length) [(d, some ⟨g, sz, els⟩)]).fr t = if t = d then .own d g 0 els.length else lkA s.fr t := fun t => by
  simp only [AS.app, putFr, lkA_cons]
 have hfr2 : ∀ t, lkA (s.app (some d) (.sl sz false els) [(d, none)]).fr t = if t = d then .sl sz false els else lkA s.fr t := fun t => by
  simp only [AS.app, putFr, lkA_cons]
 refine ⟨c', ⟨hS.nd.step (fun _ hb => ⟨.inl hb, rfl⟩), hS.sz, fun t => ?_, fun b' blk hb' => ?_, fun b' g' o ho => ?_, fun b1 g1 o1 b2 g2 o2 β q1 q2 q3 q4 => ?_, fun β hβ => ?_, fun β hβ => .inl (hS.st0 β hβ), hS.old, hS.mo.trans hm⟩, fun g hg => hg⟩
 ·have h1 := hS.fr t
  rw [hfr] at h1
  rw [hfr2]
  split
  ·rename_i e
   rw [if_pos e] at h1
   refine own_to_sl hS (b := d) (g := g) (sz := sz) (by rw [hlk, if_pos rfl]) hcl (fun β hb => .inl hb) (fun o β ho hβ => .inr ⟨o, ho, hβ⟩) h1
  ·rename_i e
   rw [if_neg e] at h1
   exact h1.mono hm
 ·rw [hlk2] at hb'
  split at hb'
  ·cases hb'
  ·rename_i e
   obtain ⟨o, q1, q2⟩ := hS.hp b' blk (by rw [hlk, if_neg e]; exact hb')
   refine ⟨o, ?_, q2.mono hm (fun _ _ => rfl)⟩
   simp only [c']
   rw [if_neg e]
   exact q1
 ·simp only [c'] at ho
  split at ho
  ·cases ho
  ·rename_i e
   obtain ⟨q1, ⟨blk, q2, q3⟩, q4⟩ := hS.al b' g' o ho
   rw [hlk, if_neg e] at q2
   refine ⟨q1, ⟨blk, by rw [hlk2, if_neg e]; exact q2, q3⟩, fun β hβ => ?_⟩
   obtain ⟨r1, r2, r3⟩ := q4 β hβ
   refine ⟨r1, fun hs => ?_, r3⟩
   rcases hs with hs | ⟨o', ho', hl'⟩
   ·exact r2 hs
   ·exact e (hS.inj b' g' o d g o' β ho ho' hβ hl').1
 ·simp only [c'] at q1 q2
  split at q1
  ·cases q1
  ·split at q2
   ·cases q2
   ·exact hS.inj b1 g1 o1 b2 g2 o2 β q1 q2 q3 q4
 ·rcases hβ with hβ | ⟨o, ho, hl⟩
  ·exact hS.st β hβ
  ·obtain ⟨r1, r2, r3⟩ := (hS.al d g o ho).2.2 β hl
   exact ⟨r1, .inr r3⟩
theorem Does.frz {C : ACtx} {G i : Nat} {o : Oper} {args : List AV} {rd : List (Nat × Blk)} {d g n sz : Nat} {els : List (List AV)} (h : Does C G i o args rd (.own d g 0 n) [(d, some ⟨g, sz, els⟩)]) (hd : o.dst = some d) (hn : els.length = n) (hcl : ∀ el x, el ∈ els → x ∈ el → Closed x) : Does C G i o args rd (.sl sz false els) [(d, none)] := by
 subst hn
 intro s c a w hS hf ha hr
 have := h s c a w hS hf ha hr
 rw [hd] at this ⊢
 exact Oper.wp_mono (fun a' w' ⟨c', h1, h2⟩ => by
  obtain ⟨c2, k1, k2⟩ := h1.frz hcl
  exact ⟨c2, k1, fun g hg => h2 g (k2 g hg)⟩) this
section
variable {C : ACtx} {ops : Array Oper} {K : AS → List (List Nat × List Nat) → Prop} {k : Nat} {rest : List Oper} {fr : List (Nat × AV)} {hp : List (Nat × Option Blk)} {gc : Nat} {fps : List (List Nat × List Nat)}
 {d : Nat} {ty : TypeId} {pos : String} {after : Array Edge} {gd : Option (Nat × Bool)} {x y z : Operand} {v : AV}
end
end Go.Proofs.Ytkmlmboclegpcaa
namespace Go.Proofs.Ytkmlmboclegpcaa
open Go Go.RowKit
set_option maxRecDepth 100000
theorem zeroCells_one {z : Value} {l : List Value} (h : z.cells.toList = l) (h1 : l.all Value.oneCell' = true) (h0 : 0 < z.cells.size) (k : Nat) : ∀ u ∈ (Builtin.zeroCells z.cells k).toList, u.oneCell' = true := by
 intro u hu
 unfold Builtin.zeroCells at hu
 simp only [Array.toList_map, List.mem_map] at hu
 obtain ⟨j, _, rfl⟩ := hu
 have hlt : j % z.cells.size < z.cells.size := Nat.mod_lt _ h0
 refine List.all_eq_true.1 h1 _ ?_
 rw [← h]
 rw [getElem!_pos z.cells _ hlt]
 exact Array.mem_toList_iff.2 (Array.getElem_mem hlt)
section
variable {C : ACtx} {ops : Array Oper} {K : AS → List (List Nat × List Nat) → Prop} {k : Nat} {rest : List Oper} {fr : List (Nat × AV)} {hp : List (Nat × Option Blk)} {gc : Nat} {fps : List (List Nat × List Nat)}
 {d : Nat} {ty : TypeId} {pos : String} {after : Array Edge} {gd : Option (Nat × Bool)} {x y : Operand}
end
end Go.Proofs.Ytkmlmboclegpcaa
namespace Go.Proofs.Ytkmlmboclegpcaa
open Go Go.RowKit
set_option maxRecDepth 100000
section
variable {C : ACtx} {ops : Array Oper} {K : AS → List (List Nat × List Nat) → Prop} {k : Nat} {rest : List Oper} {fr : List (Nat × AV)} {hp : List (Nat × Option Blk)} {gc : Nat} {fps : List (List Nat × List Nat)}
 {d : Nat} {ty : TypeId} {pos : String} {after : Array Edge} {gd : Option (Nat × Bool)} {x y : Operand}
theorem appF {t e sz : Nat} {ti te : TI} {els els2 : List (List AV)} {rd : List (Nat × Blk)} (hx : evA fr x = .sl sz true els)
  (nx : ARun C ops K (k + 1) rest ⟨(d, .own d (gc + k) 0 (els ++ els2).length) :: fr, (d, some ⟨gc + k, te.size, els ++ els2⟩) :: hp, gc⟩ (fps ++ [(rd.map (·.1), [d])]))
  (ht : C.T t = some ti := by exact rfl) (hk : ti.k = .slice e := by exact rfl) (hte : C.T e = some te := by exact rfl) (hpos : Nat.blt 0 te.size = true := by exact rfl) (hzl : te.zero.length = te.size := by exact rfl) (hd : Nat.blt d C.n = true := by exact rfl) (hg : guardF ops fr ⟨some d, .call ⟨.builtin .append, #[x, y], #[t, t]⟩, ty, pos, after, gd⟩ = some true := by exact rfl) (hy : SrcA fr hp y te.size els2 rd := by first | exact SrcA.sl rfl (.inr rfl) | exact SrcA.sl rfl (.inl rfl) | exact SrcA.ownW rfl rfl rfl rfl) (h1 : els = [] ∨ sz = te.size := by first | exact .inr rfl | exact .inl rfl | (right; simp; done)) (hne : els = [] ∨ els2 ≠ [] := by first | exact .inr rfl | exact .inl rfl | (right; simp; done)) (hb : (els.length + els2.length) * te.bytes ≤ 140737488355328 := by first | omega | (dsimp only [maxLen]; done) | (dsimp only [maxLen]; omega) | (simp only [List.length_append, List.length_map, List.length_take, List.length_drop, List.length_replicate, List.length_cons, List.length_nil, maxLen]; done) | (simp only [List.length_append, List.length_map, List.length_take, List.length_drop, List.length_replicate, List.length_cons, List.length_nil, maxLen]; omega) | (simp only [List.length_append, List.length_map, List.length_take, List.length_drop, List.length_replicate, List.length_cons, List.length_nil, maxLen] at *; done) | (simp only [List.length_append, List.length_map, List.length_take, List.length_drop, List.length_replicate, List.length_cons, List.length_nil, maxLen] at *; omega)) (hm : els.length + els2.length ≤ maxLen := by first | omega | (dsimp only [maxLen]; done) | (dsimp only [maxLen]; omega) | (simp only [List.length_append, List.length_map, List.length_take, List.length_drop, List.length_replicate, List.length_cons, List.length_nil, maxLen]; done) | (simp only [List.length_append, List.length_map, List.length_take, List.length_drop, List.length_replicate, List.length_cons, List.length_nil, maxLen]; omega) | (simp only [List.length_append, List.length_map, List.length_take, List.length_drop, List.length_replicate, List.length_cons, List.length_nil, maxLen] at *; done) | (simp only [List.length_append, List.length_map, List.length_take, List.length_drop, List.length_replicate, List.length_cons, List.length_nil, maxLen] at *; omega)) :
  ARun C ops K k (⟨some d, .call ⟨.builtin .append, #[x, y], #[t, t]⟩, ty, pos, after, gd⟩ :: rest) ⟨fr, hp, gc⟩ fps := ARun.append_fullS hx hy ht hk hte h1 hne hpos hzl hb hm hd (guardF_spec hg) nx
theorem appO {t e b g n gen sz : Nat} {ti te : TI} {els els2 : List (List AV)} {rd : List (Nat × Blk)} (hx : evA fr x = .own b g 0 n)
  (nx : ARun C ops K (k + 1) rest ⟨(d, .own b (gc + k) 0 (els ++ els2).length) :: fr, (b, some ⟨gc + k, sz, els ++ els2⟩) :: hp, gc⟩ (fps ++ [(b :: rd.map (·.1), [b])]))
  (hbk : lkH hp b = some ⟨gen, sz, els⟩ := by exact rfl) (hgg : gen = g := by exact rfl) (hn : els.length = n := by exact rfl) (ht : C.T t = some ti := by exact rfl) (hk : ti.k = .slice e := by exact rfl) (hte : C.T e = some te := by exact rfl) (h1 : sz = te.size := by exact rfl) (hpos : Nat.blt 0 te.size = true := by exact rfl) (hzl : te.zero.length = te.size := by exact rfl) (hd : Nat.blt d C.n = true := by exact rfl) (hg : guardF ops fr ⟨some d, .call ⟨.builtin .append, #[x, y], #[t, t]⟩, ty, pos, after, gd⟩ = some true := by exact rfl) (hy : SrcA fr hp y te.size els2 rd := by first | exact SrcA.sl rfl (.inr rfl) | exact SrcA.sl rfl (.inl rfl) | exact SrcA.ownW rfl rfl rfl rfl) (hb : (els.length + els2.length) * te.bytes ≤ 140737488355328 := by first | omega | (dsimp only [maxLen]; done) | (dsimp only [maxLen]; omega) | (simp only [List.length_append, List.length_map, List.length_take, List.length_drop, List.length_replicate, List.length_cons, List.length_nil, maxLen]; done) | (simp only [List.length_append, List.length_map, List.length_take, List.length_drop, List.length_replicate, List.length_cons, List.length_nil, maxLen]; omega) | (simp only [List.length_append, List.length_map, List.length_take, List.length_drop, List.length_replicate, List.length_cons, List.length_nil, maxLen] at *; done) | (simp only [List.length_append, List.length_map, List.length_take, List.length_drop, List.length_replicate, List.length_cons, List.length_nil, maxLen] at *; omega)) (hm : els.length + els2.length ≤ maxLen := by first | omega | (dsimp only [maxLen]; done) | (dsimp only [maxLen]; omega) | (simp only [List.length_append, List.length_map, List.length_take, List.length_drop, List.length_replicate, List.length_cons, List.length_nil, maxLen]; done) | (simp only [List.length_append, List.length_map, List.length_take, List.length_drop, List.length_replicate, List.length_cons, List.length_nil, maxLen]; omega) | (simp only [List.length_append, List.length_map, List.length_take, List.length_drop, List.length_replicate, List.length_cons, List.length_nil, maxLen] at *; done) | (simp only [List.length_append, List.length_map, List.length_take, List.length_drop, List.length_replicate, List.length_cons, List.length_nil, maxLen] at *; omega)) :
  ARun C ops K k (⟨some d, .call ⟨.builtin .append, #[x, y], #[t, t]⟩, ty, pos, after, gd⟩ :: rest) ⟨fr, hp, gc⟩ fps := ARun.append_ownS hx hbk hgg hn hy ht hk hte h1 hpos hzl hb hm hd (guardF_spec hg) nx
end
section
variable {P : Program} {T : Nat → Option TI} {ok : ∀ t ti, T t = some ti → tiOf P t = some ti} {nn : Nat} {w0 : World} {st0 lent : Nat → Prop} {rdd : Option Nat × Bool} {c00 : RC}
 {ops : Array Oper} {K : AS → List (List Nat × List Nat) → Prop} {k : Nat} {rest : List Oper} {fr : List (Nat × AV)} {hp : List (Nat × Option Blk)} {gc : Nat} {fps : List (List Nat × List Nat)}
 {d : Nat} {ty : TypeId} {pos : String} {after : Array Edge} {gd : Option (Nat × Bool)} {v : AV}
theorem cX {fx : Operand} {args : Array Operand} {ats : Array TypeId} {f : FuncId} {avs : List AV} (hF : FnC P f avs v)
  (nx : ARun ⟨P, T, ok, nn, w0, st0, lent, rdd, c00⟩ ops K (k + 1) rest ⟨(d, v) :: fr, hp, gc⟩ (fps ++ [([], [])]))
  (hf : evA fr fx = .val (.func (.func f) #[] #[]) := by exact rfl) (ha : args.toList.map (evA fr) = avs := by exact rfl)
  (hd : Nat.blt d nn = true := by exact rfl) (hg : guardF ops fr ⟨some d, .call ⟨.value fx, args, ats⟩, ty, pos, after, gd⟩ = some true := by exact rfl) : ARun ⟨P, T, ok, nn, w0, st0, lent, rdd, c00⟩ ops K k (⟨some d, .call ⟨.value fx, args, ats⟩, ty, pos, after, gd⟩ :: rest) ⟨fr, hp, gc⟩ fps := callX hF hf ha hd hg nx
end
theorem lensT {p : Prop} (h : p := by first | omega | (dsimp only [maxLen]; done) | (dsimp only [maxLen]; omega) | (simp only [List.length_append, List.length_map, List.length_take, List.length_drop, List.length_replicate, List.length_cons, List.length_nil, maxLen]; done) | (simp only [List.length_append, List.length_map, List.length_take, List.length_drop, List.length_replicate, List.length_cons, List.length_nil, maxLen]; omega) | (simp only [List.length_append, List.length_map, List.length_take, List.length_drop, List.length_replicate, List.length_cons, List.length_nil, maxLen] at *; done) | (simp only [List.length_append, List.length_map, List.length_take, List.length_drop, List.length_replicate, List.length_cons, List.length_nil, maxLen] at *; omega)) : p := h
theorem wkT {p : Prop} (h : p := by (repeat (refine WkL.cons (by first | exact Wk.same _ | exact Wk.nilSl | exact Wk.weak _ _ _ | exact Wk.aggL (by (repeat (refine WkL.cons (by first | exact Wk.same _ | exact Wk.nilSl | exact Wk.weak _ _ _) ?_)); exact WkL.nil)) ?_)); exact WkL.nil) : p := h
theorem fzT {p : Prop} (h : p := by (repeat (refine FzL.cons (by first | exact Fz.same _ | exact Fz.wk Wk.nilSl | exact Fz.wk (Wk.weak _ _ _) | exact Fz.own1 (by first | (simp; done) | (simp; rfl)) rfl (by simp) | exact Fz.cloL (FzL.nil _) (by (repeat (refine FzL.cons (by first | exact Fz.ptr1 (by first | exact .head _ | exact .tail _ (.head _) | exact .tail _ (.tail _ (.head _))) rfl rfl | exact Fz.same _) ?_)); exact FzL.nil _) | exact Fz.aggL (by (repeat (refine FzL.cons (by first | exact Fz.same _ | exact Fz.wk Wk.nilSl | exact Fz.wk (Wk.weak _ _ _) | exact Fz.own1 (by first | (simp; done) | (simp; rfl)) rfl (by simp)) ?_)); exact FzL.nil _)) ?_)); exact FzL.nil _) : p := h
theorem askT {p : Prop} (h : p := by (repeat (refine RelL.cons (by first | exact .ptr (j := 0) 0 0 rfl | exact .wk (.same _) (by first | exact .val _ | exact closed_tr _ | exact .agg (NC_closed _)) | exact .wk (.weak _ _ _) (closed_s _)) ?_)); exact RelL.nil _) : p := h
theorem resT {p : Prop} (h : p := by repeat' (first | exact RL.nil _ | refine RL.cons (by first | exact Reif.val _ | exact Reif.nilSl | exact .closed _ (closed_tr _)) ?_)) : p := h
theorem reuT {p : Prop} (h : p := by repeat' (first | exact RL.nil _ | refine RL.cons (by first | exact Reif.val _ | exact Reif.nilSl | exact .closed _ (by first | exact closed_bs _ | exact closed_s _ | exact closed_ws _ | exact closedFr _ | exact closedRq _ | exact closedHn _ | exact closedLCf _ | exact closed_map encP_closed)) ?_)) : p := h
end Go.Proofs.Ytkmlmboclegpcaa
namespace Go.Proofs.Ytkmlmboclegpcaa
open Go Go.RowKit
set_option maxRecDepth 100000
section
variable {C : ACtx} {ops : Array Oper} {K : AS → List (List Nat × List Nat) → Prop} {k : Nat} {rest : List Oper} {fr : List (Nat × AV)} {hp : List (Nat × Option Blk)} {gc : Nat} {fps : List (List Nat × List Nat)}
 {d : Nat} {ty : TypeId} {pos : String} {after : Array Edge} {gd : Option (Nat × Bool)} {x y z : Operand} {v : AV}
theorem boxW {t : TypeId} {cs : List AV} {n : Nat} (hx : evA fr x = .agg cs) (hn : cs.length = n) (h0 : Nat.blt 0 n = true) (hd : Nat.blt d C.n = true) (hg : guardF ops fr ⟨some d, .box t x, ty, pos, after, gd⟩ = some true) (nx : ARun C ops K (k + 1) rest ⟨(d, .ptr d (gc + k) 0 0) :: fr, (d, some ⟨gc + k, n, [cs]⟩) :: hp, gc⟩ (fps ++ [([], [d])])) : ARun C ops K k (⟨some d, .box t x, ty, pos, after, gd⟩ :: rest) ⟨fr, hp, gc⟩ fps := by
 subst hn
 exact ARun.box (by rw [hx]; rfl) h0 hd (guardF_spec hg) nx
theorem allocW {t : TypeId} {ti : TI} {cs : List AV} {n : Nat} (ht : C.T t = some ti) (hz1 : ti.zero.all Value.oneCell' = true) (hc : ti.zero.map zv = cs) (hn : cs.length = n) (h0 : Nat.blt 0 n = true) (hd : Nat.blt d C.n = true) (hg : guardF ops fr ⟨some d, .alloc t, ty, pos, after, gd⟩ = some true) (nx : ARun C ops K (k + 1) rest ⟨(d, .ptr d (gc + k) 0 0) :: fr, (d, some ⟨gc + k, n, [cs]⟩) :: hp, gc⟩ (fps ++ [([], [d])])) : ARun C ops K k (⟨some d, .alloc t, ty, pos, after, gd⟩ :: rest) ⟨fr, hp, gc⟩ fps := by
 subst hn
 subst hc
 exact ARun.alloc ht hz1 h0 hd (guardF_spec hg) nx
theorem loadW {t : Nat} {ti : TI} {b g gen sz : Nat} {el : List AV} (hx : evA fr x = .ptr b g 0 0) (hb : lkH hp b = some ⟨gen, sz, [el]⟩) (hgg : gen = g) (ht : C.T t = some ti) (ha : ti.k.agg = true) (hn : el.length = ti.size) (hd : Nat.blt d C.n = true) (hg : guardF ops fr ⟨some d, .load t x, ty, pos, after, gd⟩ = some true) (nx : ARun C ops K (k + 1) rest ⟨(d, .agg el) :: fr, hp, gc⟩ (fps ++ [([b], [])])) : ARun C ops K k (⟨some d, .load t x, ty, pos, after, gd⟩ :: rest) ⟨fr, hp, gc⟩ fps :=
 ARun.loadAgg hx hb hgg rfl ht ha (loadCs_all hn) hd (guardF_spec hg) nx
theorem storeW {t : Nat} {ti : TI} {b g gen sz : Nat} {el cs : List AV} (hx : evA fr x = .ptr b g 0 0) (hb : lkH hp b = some ⟨gen, sz, [el]⟩) (hgg : gen = g) (ht : C.T t = some ti) (hc : evA fr y = .agg cs) (hl : cs.length = ti.size) (hn : el.length = ti.size) (h0 : Nat.blt 0 ti.size = true) (hg : guardF ops fr ⟨none, .store t x y, ty, pos, after, gd⟩ = some true) (nx : ARun C ops K (k + 1) rest ⟨fr, (b, some ⟨gen, sz, [cs]⟩) :: hp, gc⟩ (fps ++ [([b], [b])])) : ARun C ops K k (⟨none, .store t x y, ty, pos, after, gd⟩ :: rest) ⟨fr, hp, gc⟩ fps :=
 ARun.store hx hb hgg rfl ht (by rw [hc]; rfl) hl h0 (SetAts.all (hl.trans hn.symm)) (guardF_spec hg) nx
theorem setF_of {el cs : List AV} {f : Nat} (h : f + cs.length ≤ el.length) : setF el f cs = some (el.take f ++ (cs ++ el.drop (f + cs.length))) := by
 unfold setF
 have : Nat.ble (f + cs.length) el.length = true := Nat.ble_eq_true_of_le h
 rw [this]
 rfl
theorem setF_one {el : List AV} {f : Nat} {x : AV} (h : f < el.length) : setF el f [x] = some (el.set f x) := by
 rw [setF_of (by show f + 1 ≤ _; omega)]
 congr 1
 rw [List.set_eq_take_append_cons_drop, if_pos h]
 rfl
theorem storeC {t : Nat} {ti : TI} {b g gen sz f : Nat} {el el' : List AV} (hx : evA fr x = .ptr b g 0 f) (hb : lkH hp b = some ⟨gen, sz, [el]⟩) (hgg : gen = g) (ht : C.T t = some ti) (hc : cellsA (evA fr y) = some [v]) (hl : ti.size = 1) (hs : setF el f [v] = some el') (hg : guardF ops fr ⟨none, .store t x y, ty, pos, after, gd⟩ = some true) (nx : ARun C ops K (k + 1) rest ⟨fr, (b, some ⟨gen, sz, [el']⟩) :: hp, gc⟩ (fps ++ [([b], [b])])) : ARun C ops K k (⟨none, .store t x y, ty, pos, after, gd⟩ :: rest) ⟨fr, hp, gc⟩ fps :=
 ARun.storeAt hx hb hgg rfl ht hc (by rw [hl]; rfl) (by rw [hl]; rfl) hs rfl (guardF_spec hg) nx
theorem loadC {t : Nat} {ti : TI} {b g gen sz f : Nat} {el : List AV} (hx : evA fr x = .ptr b g 0 f) (hb : lkH hp b = some ⟨gen, sz, [el]⟩) (hgg : gen = g) (ht : C.T t = some ti) (ha : ti.k.agg = false) (hc : el[f]? = some v) (hd : Nat.blt d C.n = true) (hg : guardF ops fr ⟨some d, .load t x, ty, pos, after, gd⟩ = some true) (nx : ARun C ops K (k + 1) rest ⟨(d, v) :: fr, hp, gc⟩ (fps ++ [([b], [])])) : ARun C ops K k (⟨some d, .load t x, ty, pos, after, gd⟩ :: rest) ⟨fr, hp, gc⟩ fps :=
 ARun.loadOne hx hb hgg rfl ht ha hc hd (guardF_spec hg) nx
end
end Go.Proofs.Ytkmlmboclegpcaa
namespace Go.Proofs.Ytkmlmboclegpcaa
open Go Go.RowKit
set_option maxRecDepth 100000
section
variable {C : ACtx} {ops : Array Oper} {K : AS → List (List Nat × List Nat) → Prop} {k : Nat} {rest : List Oper} {fr : List (Nat × AV)} {hp : List (Nat × Option Blk)} {gc : Nat} {fps : List (List Nat × List Nat)}
 {d : Nat} {ty : TypeId} {pos : String} {after : Array Edge} {gd : Option (Nat × Bool)} {x y z : Operand} {v : AV}
theorem ARun.clear {t e b g lo n gen sz : Nat} {ti te : TI} {els : List (List AV)} (hx : evA fr x = .own b g lo n) (hbk : lkH hp b = some ⟨gen, sz, els⟩) (hgg : gen = g) (hn : lo + n ≤ els.length) (ht : C.T t = some ti) (hk : ti.k = .slice e) (hte : C.T e = some te) (h1 : sz = te.size) (hz1 : te.zero.all Value.oneCell' = true) (hzl : te.zero.length = te.size) (hpos : Nat.blt 0 te.size = true)
  (hg : guardIs ops ⟨fr, hp, gc⟩ ⟨none, .call ⟨.builtin .clear, #[x], #[t]⟩, ty, pos, after, gd⟩ true)
  (nx : ARun C ops K (k + 1) rest ⟨fr, (b, some ⟨gen, sz, overL els lo (List.replicate n (te.zero.map zv))⟩) :: hp, gc⟩ (fps ++ [([b], [b])])) :
  ARun C ops K k (⟨none, .call ⟨.builtin .clear, #[x], #[t]⟩, ty, pos, after, gd⟩ :: rest) ⟨fr, hp, gc⟩ fps := by
 refine ARun.step (.val (.tuple #[])) [(b, ⟨gen, sz, els⟩)] [(b, some ⟨gen, sz, overL els lo (List.replicate n (te.zero.map zv))⟩)] hg (by simp [hbk]) ?_ nx
 subst hgg
 intro s c a w hS hf hargs hrd
 have hev : ∀ z ∈ #[x], Rep c w (evA fr z) (a.eval z) := by
  intro z hz
  have hz' : z ∈ (Op.call ⟨.builtin .clear, #[x], #[t]⟩).operands.toList := by simpa [Op.operands, Call.operands] using hz
  rw [← args_ev hargs z hz']
  exact hS.ev z
 have hrx := hev x (by simp)
 rw [hx] at hrx
 have hbb := hrd (b, ⟨gen, sz, els⟩) (by simp)
 obtain ⟨o, ho, hB⟩ := hS.hp b _ hbb
 simp only at ho
 have hin := und_slice ht hk
 have hun := run_underlying' hin w
 obtain ⟨zz, hzr, hzc⟩ := run_zeroValue hte w
 have hp0 := lt_of_blt hpos
 have hzs : zz.cells.size = sz := by
  have : zz.cells.toList.length = te.zero.length := by rw [hzc]
  rw [Array.length_toList] at this
  omega
 have hnl : (Builtin.zeroCells zz.cells n).toList.length = n * sz := by unfold Builtin.zeroCells; simp [hzs]
 have hone : ∀ u ∈ (Builtin.zeroCells zz.cells n).toList, u.oneCell' = true := zeroCells_one hzc hz1 (by omega) n
 have hzin : ElsIn c w sz (List.replicate n (te.zero.map zv)) (Builtin.zeroCells zz.cells n) := by
  have := zeros_in (c := c) (w := w) (sz := sz) hzc hz1 (by omega) (by omega) n
  unfold Builtin.zeroCells
  rw [hzs]
  rw [hzs] at this
  exact this
 generalize hux : a.eval x = ux at hrx
 cases hrx with
 | own _ _ _ _ A m cap hu hp' =>
  obtain ⟨rfl, k2, k3, k4, k0, k5⟩ := hp' o ho
  obtain ⟨hosz, hoz, holoc⟩ := hB.row k0
  simp only at hosz hoz holoc
  have hfit : lo + (List.replicate m (te.zero.map zv)).length ≤ els.length := by rw [List.length_replicate]; exact hn
  have hrun0 : ∀ w', (match A with | some ad => (storeCells ad (Builtin.zeroCells zz.cells m).toList : Sem Unit) | none => pure ()).run C.P w = .ok () w' → (execOp a.eval ⟨none, .call ⟨.builtin .clear, #[x], #[t]⟩, ty, pos, after, gd⟩).run C.P w = .ok (.value (.tuple #[])) w' := by
   intro w' h
   have : (Builtin.clear_ #[t] ty #[.slice A m cap]).run C.P w = .ok (.tuple #[]) w' := by
    cases A with
    | none =>
     simp only [Sem.run_pure, Result.ok.injEq, true_and] at h
     subst h
     simp [Builtin.clear_, hun]
    | some ad =>
     simp only at h
     by_cases hm0 : m = 0
     ·subst hm0
      have hz0 : (Builtin.zeroCells zz.cells 0).toList = [] := by
       apply List.eq_nil_of_length_eq_zero
       rw [hnl, Nat.zero_mul]
      rw [hz0] at h
      simp only [storeCells, Sem.run_pure, Result.ok.injEq, true_and] at h
      subst h
      simp [Builtin.clear_, hun]
     ·simp [Builtin.clear_, hun, hm0, hzr, h]
   simp [execOp, resolve, invoke, builtin, hux, this]
  rcases k5 with k5 | ⟨β, k5, k6, k7⟩
  ·subst k5
   have hm0 : m = 0 := by omega
   subst hm0
   have hz : overL els lo (List.replicate 0 (te.zero.map zv)) = els := by simp [overL]
   have hz0 : (Builtin.zeroCells zz.cells 0).toList = [] := by
    apply List.eq_nil_of_length_eq_zero
    rw [hnl, Nat.zero_mul]
   have hw : (match A with | some ad => (storeCells ad (Builtin.zeroCells zz.cells 0).toList : Sem Unit) | none => pure ()).run C.P w = .ok () w := by
    cases A <;> simp [storeCells, hz0]
   refine wp_value (hrun0 _ hw) ⟨c, ?_, fun g' hg' => .inl hg'⟩
   rw [hz]
   have := hS.put none (.val (.tuple #[])) (.tuple #[]) (fun e he => by cases he) (fun h => absurd rfl h)
   refine this.congr (fun _ => rfl) (fun b' => ?_)
   simp only [AS.app, List.nil_append, List.cons_append, lkH_cons]
   split
   ·rename_i hbe; rw [hbe]; exact hbb
   ·rfl
  ·rw [k5] at holoc
   obtain ⟨cur, e', q1, q2, q3⟩ := holoc
   have hcs : (lo + m) * sz ≤ cur.size := by
    have k8 : (lo + m) * sz ≤ (lo + cap) * sz := Nat.mul_le_mul_right _ (by omega)
    rw [hosz] at k7
    omega
   rw [Nat.add_mul] at hcs
   generalize hnews : (Builtin.zeroCells zz.cells m).toList = news at *
   have hst := RowAt.store C.P (lo * sz) news 0 q1 (by rw [hnl]; omega) hone
   simp only [Nat.add_zero] at hst
   have hw : (match A with | some ad => (storeCells ad news : Sem Unit) | none => pure ()).run C.P w = .ok () (w.setRow β (cur.toList.take (lo * sz) ++ news ++ cur.toList.drop (lo * sz + news.length)).toArray) := by
    rw [k6, hosz]
    exact hst
   refine wp_value (hrun0 _ hw) ⟨_, hS.upd (w' := w.setRow β _) b ⟨gen, sz, overL els lo (List.replicate m (te.zero.map zv))⟩ o (.inr ho) rfl rfl rfl (by simp) (fun β' _ hne => setRow_other w β β' _ (fun e => hne (by rw [k5, e]))) (fun β' hβ => .inr ⟨gen, o, ho, hβ⟩) (fun hmono => .inl ⟨hosz, fun el hel => ?_, ?_⟩) none (.val (.tuple #[])) (.tuple #[]) (fun e he => by cases he) (fun h _ => absurd rfl h), fun g' hg' => ?_⟩
   ·unfold overL at hel
    rcases List.mem_append.1 hel with h | h
    ·exact hoz el (List.mem_of_mem_take h)
    ·rcases List.mem_append.1 h with h | h
     ·exact hzin.2.1 el h
     ·exact hoz el (List.mem_of_mem_drop h)
   ·rw [k5]
    simp only
    have e1 : cur.toList.length = cur.size := Array.length_toList
    refine row_intro (e := e') q1 q2 ?_ (fun i el f x hi hx => ?_)
    ·simp only [List.size_toArray, List.length_append, List.length_take, List.length_drop, hnl]
     rw [e1, ← q2]
     omega
    ·have hget : ∀ j, (cur.toList.take (lo * sz) ++ news ++ cur.toList.drop (lo * sz + news.length)).toArray[j]? = if j < lo * sz then cur.toList[j]? else if j < lo * sz + m * sz then news[j - lo * sz]? else cur.toList[j]? := by
      intro j
      rw [List.getElem?_toArray, list_over _ _ _ (by rw [e1, hnl]; omega) j, hnl]
     rw [hget]
     rw [overL_get hfit, List.length_replicate] at hi
     have hf2 : f < sz := by
      have hx' := (List.getElem?_eq_some_iff.1 hx).1
      have : el.length = sz := by
       split at hi
       ·exact hoz el (List.mem_of_getElem? hi)
       ·split at hi
        ·exact hzin.2.1 el (List.mem_of_getElem? hi)
        ·exact hoz el (List.mem_of_getElem? hi)
      omega
     by_cases hi1 : i < lo
     ·rw [if_pos hi1] at hi
      have : (i + 1) * sz ≤ lo * sz := Nat.mul_le_mul_right _ hi1
      rw [Nat.add_mul] at this
      rw [if_pos (by omega)]
      obtain ⟨u, r1, r2, r3⟩ := q3 i el f x hi hx
      exact ⟨u, by simpa using r1, r2, r3.mono hmono⟩
     ·rw [if_neg hi1] at hi
      have hge : lo * sz ≤ i * sz := Nat.mul_le_mul_right _ (by omega)
      by_cases hi2 : i < lo + m
      ·rw [if_pos hi2] at hi
       have : (i + 1) * sz ≤ (lo + m) * sz := Nat.mul_le_mul_right _ hi2
       rw [Nat.add_mul, Nat.add_mul] at this
       rw [if_neg (by omega), if_pos (by omega)]
       obtain ⟨u, r1, r2, r3⟩ := hzin.2.2 _ el f x hi hx
       refine ⟨u, ?_, r2, r3.mono hmono⟩
       rw [← hnews, Array.getElem?_toList, ← r1]
       congr 1
       rw [Nat.sub_mul]
       omega
      ·rw [if_neg hi2] at hi
       have : (lo + m) * sz ≤ i * sz := Nat.mul_le_mul_right _ (by omega)
       rw [Nat.add_mul] at this
       rw [if_neg (by omega), if_neg (by omega)]
       obtain ⟨u, r1, r2, r3⟩ := q3 i el f x hi hx
       exact ⟨u, by simpa using r1, r2, r3.mono hmono⟩
   ·rcases hg' with h | h
    ·exact .inl h
    ·left
     simp only at h
     rw [h]
     exact (hS.al b gen _ ho).1
end
def FrG (bs : List (Nat × Blk)) (fr : List (Nat × AV)) : List (Nat × AV) → Prop
 | [] => True
 | (t, v) :: r => Fz bs (lkA fr t) v ∧ FrG bs fr r
theorem FrG.spec {bs : List (Nat × Blk)} {fr : List (Nat × AV)} : ∀ {l : List (Nat × AV)}, FrG bs fr l → ∀ t, Fz bs (lkA fr t) (lkA l t) ∨ lkA l t = .dead
 | [], _, _ => .inr rfl
 | (k, v) :: r, h, t => by
  rw [lkA_cons]
  split
  ·rename_i e
   subst e
   exact .inl h.1
  ·exact FrG.spec h.2 t
theorem SimE.frz {C : ACtx} {fr fr' : List (Nat × AV)} {hp : List (Nat × Option Blk)} {gc : Nat} {a : Act} {w : World} (bs : List (Nat × Blk)) (hb : BsOk hp bs) (h1 : FrG bs fr fr') (h : SimE C ⟨fr, hp, gc⟩ a w) : SimE C ⟨fr', bs.map (fun p => (p.1, none)) ++ hp, gc⟩ a w := by
 obtain ⟨c, hS, hu⟩ := h
 have hF := hS.froze bs (fun p hp => (hb p hp).1)
 refine ⟨c.froze bs, ⟨hF.nd, hF.sz, fun t => ?_, hF.hp, hF.al, hF.inj, hF.st, hF.st0, hF.old, hF.mo⟩, hu⟩
 rcases h1.spec t with e | e
 ·exact Fz.rep hS hb e (hS.fr t)
 ·show Rep _ _ (lkA fr' t) _
  rw [e]
  exact .dead _
theorem awp_frz {C : ACtx} {fr fr' : List (Nat × AV)} {hp : List (Nat × Option Blk)} {gc : Nat} {c : Code} {Q : Exit → AS → Prop} (bs : List (Nat × Blk)) (hb : BsOk hp bs) (h1 : FrG bs fr fr') (k : awp C c ⟨fr', bs.map (fun p => (p.1, none)) ++ hp, gc⟩ Q) : awp C c ⟨fr, hp, gc⟩ Q :=
 awp_weaken (fun a w h => h.frz bs hb h1) k
end Go.Proofs.Ytkmlmboclegpcaa
namespace Go.Proofs.Ytkmlmboclegpcaa
open Go Go.RowKit
set_option maxRecDepth 100000
section
variable {P : Program} {T : Nat → Option TI} {ok : ∀ t ti, T t = some ti → tiOf P t = some ti} {nn : Nat} {w0 : World} {st0 lent : Nat → Prop} {rdd : Option Nat × Bool} {c00 : RC}
 {ops : Array Oper} {K : AS → List (List Nat × List Nat) → Prop} {k : Nat} {rest : List Oper} {fr : List (Nat × AV)} {hp : List (Nat × Option Blk)} {gc : Nat} {fps : List (List Nat × List Nat)}
 {d : Nat} {ty : TypeId} {pos : String} {after : Array Edge} {gd : Option (Nat × Bool)} {x y z : Operand} {v : AV}
theorem callR {dst : Option Nat} {fx : Operand} {args : Array Operand} {ats : Array TypeId} {f : FuncId} {cavs : List AV} {res : AV} (b g sz : Nat) (e1 e2 : List (List AV)) (hF : FnL P f cavs [(sz, e1)] res [e2]) (h1 : ∀ el x, el ∈ e1 → x ∈ el → Closed x) (h2 : ∀ el x, el ∈ e2 → x ∈ el → Closed x)
  (ha : RelL (Ln [(b, g)]) (args.toList.map (evA fr)) cavs) (hres : Lb [(b, g)] v res)
  (hf : evA fr fx = .val (.func (.func f) #[] #[])) (hlk : lkH hp b = some ⟨g, sz, e1⟩) (h0 : Nat.blt 0 sz = true) (hd : dOk nn dst = true) (hg : guardF ops fr ⟨dst, .call ⟨.value fx, args, ats⟩, ty, pos, after, gd⟩ = some true)
  (nx : ARun ⟨P, T, ok, nn, w0, st0, lent, rdd, c00⟩ ops K (k + 1) rest ⟨putFr fr dst v, (b, some ⟨g, sz, e2⟩) :: hp, gc⟩ (fps ++ [([b], [b])])) :
  ARun ⟨P, T, ok, nn, w0, st0, lent, rdd, c00⟩ ops K k (⟨dst, .call ⟨.value fx, args, ats⟩, ty, pos, after, gd⟩ :: rest) ⟨fr, hp, gc⟩ fps :=
 callLX (first := []) (cap := []) [(b, ⟨g, sz, e1⟩)] [(b, ⟨g, sz, e2⟩)] hF (.inl ⟨hf, rfl, rfl⟩) ⟨hlk, trivial⟩ (by rw [List.nil_append, List.append_nil]; exact ha) ⟨⟨rfl, h0, RelR.id (fun el x q1 q2 => .wk (.same _) (h1 el x q1 q2))⟩, trivial⟩ ⟨⟨rfl, rfl, rfl, RelR.id (fun el x q1 q2 => .same _ (h2 el x q1 q2))⟩, trivial⟩ hres rfl (by cases dst <;> exact hd) hg nx
end
section
variable {C : ACtx} {ops : Array Oper} {K : AS → List (List Nat × List Nat) → Prop} {k : Nat} {rest : List Oper} {fr : List (Nat × AV)} {hp : List (Nat × Option Blk)} {gc : Nat} {fps : List (List Nat × List Nat)}
 {d : Nat} {ty : TypeId} {pos : String} {after : Array Edge} {gd : Option (Nat × Bool)} {x y z : Operand} {v : AV}
theorem build0 {t : Nat} {ti : TI} {fs : List (Nat × Nat)} {es : List AV} (ht : C.T t = some ti) (hk : ti.k = .struct fs) (hz1 : ti.zero.all Value.oneCell' = true) (he : ti.zero.map zv = es) (hd : Nat.blt d C.n = true) (hg : guardF ops fr ⟨some d, .build t #[], ty, pos, after, gd⟩ = some true) (nx : ARun C ops K (k + 1) rest ⟨(d, .agg es) :: fr, hp, gc⟩ (fps ++ [([], [])])) : ARun C ops K k (⟨some d, .build t #[], ty, pos, after, gd⟩ :: rest) ⟨fr, hp, gc⟩ fps := by
 subst he
 exact ARun.build ht hk hz1 (.nil _) hd (guardF_spec hg) nx
theorem build1 {t i off : Nat} {ti : TI} {fs : List (Nat × Nat)} {es es' : List AV} (ht : C.T t = some ti) (hk : ti.k = .struct fs) (hz1 : ti.zero.all Value.oneCell' = true) (hi : fs[i]? = some (off, 1)) (hx : cellsA (evA fr x) = some [v]) (he : ti.zero.map zv = es) (hs : setF es off [v] = some es') (hd : Nat.blt d C.n = true) (hg : guardF ops fr ⟨some d, .build t #[(i, x)], ty, pos, after, gd⟩ = some true) (nx : ARun C ops K (k + 1) rest ⟨(d, .agg es') :: fr, hp, gc⟩ (fps ++ [([], [])])) : ARun C ops K k (⟨some d, .build t #[(i, x)], ty, pos, after, gd⟩ :: rest) ⟨fr, hp, gc⟩ fps := by
 subst he
 exact ARun.build ht hk hz1 (.cons hi hx rfl (setF_spec hs) (.nil _)) hd (guardF_spec hg) nx
end
theorem loadCs_at {el cs : List AV} {f n : Nat} (h : f + n ≤ el.length) (e : (el.drop f).take n = cs) : loadCs el f n = some cs := by
 unfold loadCs
 have : Nat.ble (f + n) el.length = true := Nat.ble_eq_true_of_le h
 rw [this, e]
 rfl
end Go.Proofs.Ytkmlmboclegpcaa
namespace Go.Proofs.Ytkmlmboclegpcaa
open Go Go.RowKit
set_option maxRecDepth 100000
def retLr (rs : Array ResultVar) (res : AV) (bs : List LB) (bs' : List (List (List AV))) : Exit → AS → Prop
 | .normal, s => ∃ t x, rs.toList = [.tmp t] ∧ lkA s.fr t = x ∧ Rl bs.length ⟨s.fr, dropHp bs.length s.hp, s.gc⟩ x res ∧ LentEnd bs.length s ⟨s.fr, dropHp bs.length s.hp, s.gc⟩ 0 bs bs'
 | .ret, s => ∃ t x, rs.toList = [.tmp t] ∧ lkA s.fr t = x ∧ Rl bs.length ⟨s.fr, dropHp bs.length s.hp, s.gc⟩ x res ∧ LentEnd bs.length s ⟨s.fr, dropHp bs.length s.hp, s.gc⟩ 0 bs bs'
 | _, _ => False
theorem FnL.of_awpR {P : Program} {T : Nat → Option TI} {ok : ∀ t ti, T t = some ti → tiOf P t = some ti} {f : FuncId} {fn : Func} {code : Code} {args : List AV} {bs : List LB} {res : AV} {bs' : List (List (List AV))} (hf : P.funcs[f]? = some fn)
  (hn : (fn.name == "runtime.NumGoroutine") = false) (hb : fn.body = some code) (hlen : Nat.ble args.length fn.ntmps = true) (hsz : bs.all (fun p => Nat.blt 0 p.1) = true)
  (h : ∀ (w0 : World) (st0 lent : Nat → Prop) (c0 : RC), awp ⟨P, T, ok, fn.ntmps, w0, st0, lent, (none, false), c0⟩ code ⟨frOf 0 args, hpFrom 0 bs, bs.length⟩ (retLr fn.results res bs bs')) : FnL P f args bs res bs' := by
 refine ⟨fun vs w => ?_, fun w st vs os hst hos hloc hinj hrow hl hr => ?_⟩
 ·have hn' : ¬ fn.name = "runtime.NumGoroutine" := by simpa using hn
  simp [callFunc, hf, hn', hb]
 ·refine (callsIn_wide (n := 0)).1 (callsIn_of_wp_marks hf hb trivial ?_)
  have hle := Nat.le_of_ble_eq_true hlen
  let lent : Nat → Prop := fun β => ∃ (j : Nat) (o : OB), os[j]? = some o ∧ o.loc = some β
  let c0 : RC := RC.lend os st
  have hS : SimE ⟨P, T, ok, fn.ntmps, w, st, lent, (none, false), c0⟩ ⟨frOf 0 args, hpFrom 0 bs, bs.length⟩ { tmps := vs.toArray ++ Array.replicate (fn.ntmps - vs.toArray.size) undef, defers := [] } w := by
   refine ⟨c0, ⟨Nd.nil _ _ _ _, by simp; omega, fun t => ?_, fun b blk hb => ?_, fun b g o ho => ?_, fun b g o b' g' o' β h h' k k' => ?_, fun β hb => ⟨hst β hb, .inl hb⟩, fun β hb => hb, Old.refl _ _, Mono.refl _ _⟩, fun g hg => by show g < bs.length; rw [← hos]; exact hg⟩
   ·simp only
    rw [lk_frOf]
    simp only [Nat.zero_le, if_true, Nat.sub_zero]
    cases hx : args[t]? with
    | none => exact .dead _
    | some x =>
     have ht : t < vs.length := by rw [hl]; exact (List.getElem?_eq_some_iff.1 hx).1
     have : (vs.toArray ++ Array.replicate (fn.ntmps - vs.toArray.size) undef).getD t undef = vs[t] := by
      simp [Array.getD_eq_getD_getElem?, Array.getElem?_append, ht]
     rw [this]
     have := hr t x vs[t] hx (List.getElem?_eq_getElem ht)
     simp only [Option.getD_some]
     exact this
   ·obtain ⟨j, p, h1, h2, h3⟩ := lk_hpFrom bs 0 b blk hb
    subst h2
    subst h3
    rw [Nat.zero_add]
    have hj : j < os.length := by rw [hos]; exact (List.getElem?_eq_some_iff.1 h1).1
    exact ⟨os[j], (lendOwn_at os j).trans (List.getElem?_eq_getElem hj), .inl (hrow j _ p (List.getElem?_eq_getElem hj) h1)⟩
   ·obtain ⟨rfl, h2⟩ := lendOwn_some ho
    have hj : g < bs.length := by rw [← hos]; exact (List.getElem?_eq_some_iff.1 h2).1
    have hlk := lk_hpFrom_at bs 0 g bs[g] (List.getElem?_eq_getElem hj)
    rw [Nat.zero_add] at hlk
    refine ⟨(List.getElem?_eq_some_iff.1 h2).1, ⟨_, hlk, rfl⟩, fun β hβ => ?_⟩
    obtain ⟨k1, k2⟩ := hloc g o β h2 hβ
    exact ⟨k1, k2, .inr ⟨g, o, h2, hβ⟩⟩
   ·obtain ⟨rfl, h2⟩ := lendOwn_some h
    obtain ⟨rfl, h3⟩ := lendOwn_some h'
    have := hinj g g' o o' β h2 h3 k k'
    omega
  refine wpIn_mono (h w st lent c0 _ w hS) (fun e a' w' ⟨s', ⟨c', hS', _⟩, hq⟩ => ?_)
  have fin0 : ∀ (w2 : World) (c2 : RC), Sim ⟨P, T, ok, fn.ntmps, w, st, lent, (none, false), c0⟩ s' c2 { a' with defers := [] } w2 → ∀ t x, fn.results.toList = [.tmp t] → lkA s'.fr t = x → Rl bs.length ⟨s'.fr, dropHp bs.length s'.hp, s'.gc⟩ x res → LentEnd bs.length s' ⟨s'.fr, dropHp bs.length s'.hp, s'.gc⟩ 0 bs bs' → ∃ v, (results fn a'.tmps).run P w2 = .ok v w2 ∧ ∃ r St, Ending.returned v = .returned r ∧ Old lent w w2 ∧ (∀ β, st β → St β) ∧ (∀ β, St β → st β ∨ (w.heap.size ≤ β ∧ β < w2.heap.size)) ∧
    (∀ β, st β → w2.heap[β]? = w.heap[β]?) ∧
    (∀ (j : Nat) (o : OB) (p : LB) (els : List (List AV)), os[j]? = some o → bs[j]? = some p → bs'[j]? = some els → RowRep (RC.lend os St) w2 ⟨j, p.1, els⟩ o) ∧ Rep (RC.lend os St) w2 res r := by
   intro w' c' hS' tq xq hv he hrl hle'
   have hlk : ∀ b, lkH (dropHp bs.length s'.hp) b = lkH s'.hp b ∨ lkH (dropHp bs.length s'.hp) b = none := fun b => by
    unfold dropHp
    rw [lk_hpNone]
    split
    ·exact .inr rfl
    ·exact .inl rfl
   have hSX := hS'.less (dropHp bs.length s'.hp) hlk
   have hown : ∀ j, j < bs.length → c'.own (1000 + j) j = os[j]? := fun j hj => by
    obtain ⟨els', els, h1, h2, h3⟩ := hle'.get j bs[j] (List.getElem?_eq_getElem hj)
    rw [Nat.zero_add] at h2
    obtain ⟨o, k1, _⟩ := hS'.hp _ _ h2
    have k2 := hS'.mo.own (1000 + j) j o (by show j < os.length; omega) k1
    have k3 : lendOwn os (1000 + j) j = some o := k2
    rw [lendOwn_at] at k3
    rw [k1, k3]
   let cX : RC := ⟨fun b g => if lkH (dropHp bs.length s'.hp) b = none then none else c'.own b g, c'.used, c'.st⟩
   have hgiv : ∀ β, cX.given β → st β ∨ (w.heap.size ≤ β ∧ β < w'.heap.size) := fun β hb => by
    rcases hb with hb | ⟨b, g, o, h1, h2⟩
    ·obtain ⟨k1, k2 | k2 | ⟨j, o, k2, k3⟩⟩ := hS'.st β hb
     ·exact .inl k2
     ·exact .inr ⟨k2, k1⟩
     ·have hj : j < bs.length := by rw [← hos]; exact (List.getElem?_eq_some_iff.1 k2).1
      exact absurd hb ((hS'.al _ _ o ((hown j hj).trans k2)).2.2 β k3).2.1
    ·have h1' := h1
     simp only [cX] at h1'
     split at h1'
     ·cases h1'
     ·rename_i hne
      obtain ⟨k1, k2, k3 | ⟨j, o', k3, k4⟩⟩ := (hS'.al b g o h1').2.2 β h2
      ·exact .inr ⟨k3, k1⟩
      ·have hj : j < bs.length := by rw [← hos]; exact (List.getElem?_eq_some_iff.1 k3).1
       have := (hS'.inj b g o _ _ o' β h1' ((hown j hj).trans k3) h2 k4).1
       refine absurd ?_ hne
       unfold dropHp
       rw [lk_hpNone, if_pos (by omega)]
   have hrep := hS'.fr tq
   rw [he] at hrep
   have hrun : (fn.results.toList.mapM (resOne a'.tmps)).run P w' = .ok [a'.tmps.getD tq undef] w' := by
    rw [hv]
    simp [List.mapM_cons, List.mapM_nil, resOne]
   refine ⟨retV [a'.tmps.getD tq undef], run_results hrun, retV [a'.tmps.getD tq undef], cX.given, rfl, hS'.old, fun β hb => .inl (hS'.st0 β hb), hgiv, fun β hb => hS'.old.block β (hst β hb) (fun ⟨j, o, k1, k2⟩ => (hloc j o β k1 k2).2 hb), fun j o p els ho hp hels => ?_, ?_⟩
   ·have hj : j < bs.length := (List.getElem?_eq_some_iff.1 hp).1
    obtain ⟨els', els0, h1, h2, h3⟩ := hle'.get j p hp
    rw [Nat.zero_add] at h2
    rw [hels] at h1
    obtain rfl := Option.some.inj h1
    obtain ⟨o', k1, kB⟩ := hS'.hp _ _ h2
    simp only at k1
    rw [hown j hj, ho] at k1
    obtain rfl := Option.some.inj k1
    have hp0 : 0 < p.1 := lt_of_blt (List.all_eq_true.1 hsz p (List.mem_of_getElem? hp))
    obtain ⟨r1, r2, r3⟩ := kB.row (by rw [kB.sz]; exact hp0)
    have hlen : ∀ (i : Nat) (el : List AV), els[i]? = some el → ∃ el0, els0[i]? = some el0 ∧ RlL bs.length ⟨s'.fr, dropHp bs.length s'.hp, s'.gc⟩ el0 el := fun i el hi => by
     have hi' : i < els0.length := by rw [← h3.1]; exact (List.getElem?_eq_some_iff.1 hi).1
     exact ⟨els0[i], List.getElem?_eq_getElem hi', h3.2 i _ el (List.getElem?_eq_getElem hi') hi⟩
    refine ⟨r1, fun el hel => ?_, ?_⟩
    ·obtain ⟨i, hi⟩ := List.getElem?_of_mem hel
     obtain ⟨el0, q1, q2⟩ := hlen i el hi
     rw [q2.1]
     exact r2 el0 (List.mem_of_getElem? q1)
    ·cases hl : o.loc with
     | none =>
      rw [hl] at r3
      simp only at r3 ⊢
      have := h3.1
      rw [r3] at this
      exact List.eq_nil_of_length_eq_zero this
     | some β =>
      rw [hl] at r3
      obtain ⟨cur, e, q1, q2, q3⟩ := r3
      refine ⟨cur, e, q1, q2, fun i el f x hi hx => ?_⟩
      obtain ⟨el0, t1, t2⟩ := hlen i el hi
      have hf : f < el0.length := by rw [← t2.1]; exact (List.getElem?_eq_some_iff.1 hx).1
      obtain ⟨u, u1, u2, u3⟩ := q3 i el0 f el0[f] t1 (List.getElem?_eq_getElem hf)
      exact ⟨u, u1, u2, Rl.rep hS' hlk hos hown (t2.2 f _ x (List.getElem?_eq_getElem hf) hx) u3⟩
   ·exact Rl.rep hS' hlk hos hown hrl hrep
  have fin : (∃ t x, fn.results.toList = [.tmp t] ∧ lkA s'.fr t = x ∧ Rl bs.length ⟨s'.fr, dropHp bs.length s'.hp, s'.gc⟩ x res ∧ LentEnd bs.length s' ⟨s'.fr, dropHp bs.length s'.hp, s'.gc⟩ 0 bs bs') → LeavesInM Fence.wide 0 P fn a'.tmps (fun e w2 => ∃ r St, e = .returned r ∧ Old lent w w2 ∧ (∀ β, st β → St β) ∧ (∀ β, St β → st β ∨ (w.heap.size ≤ β ∧ β < w2.heap.size)) ∧
    (∀ β, st β → w2.heap[β]? = w.heap[β]?) ∧
    (∀ (j : Nat) (o : OB) (p : LB) (els : List (List AV)), os[j]? = some o → bs[j]? = some p → bs'[j]? = some els → RowRep (RC.lend os St) w2 ⟨j, p.1, els⟩ o) ∧ Rep (RC.lend os St) w2 res r) a'.defers .returning w' := by
   intro ⟨tq, xq, hv, he, hrl, hle'⟩
   refine leavesM a'.defers w' hS'.nd (fun w1 k1 k2 k3 k4 k5 => ?_)
   exact fin0 w1 _ (hS'.shut (w1 := w1) (fun β => ({ target := .collected β, args := #[] } : Deferred) ∈ a'.defers) (fun β hβ => by
    obtain ⟨D, g1, g2, g3, g4⟩ := hS'.nd.at_ _ hβ
    obtain rfl : β = D := by cases g1; rfl
    exact ⟨g2, g3, _, g4⟩) k1 k2 k3 k4 k5 (fun β hb => hst β hb) (fun β hb => hst β hb)) tq xq hv he hrl hle'
  cases e <;> first
   | exact fin hq
   | exact hq.elim
section
variable {C : ACtx} {ops : Array Oper} {K : AS → List (List Nat × List Nat) → Prop} {k : Nat} {rest : List Oper} {fr : List (Nat × AV)} {hp : List (Nat × Option Blk)} {gc : Nat} {fps : List (List Nat × List Nat)}
 {d : Nat} {ty : TypeId} {pos : String} {after : Array Edge} {gd : Option (Nat × Bool)} {x y z : Operand} {v : AV}
theorem does_callL {dst : Option Nat} {fx : Operand} {args : Array Operand} {ats : Array TypeId} {f : FuncId} {first cap cavs : List AV} {bs : List LB} {res : AV} {bs' : List (List (List AV))} (ls ls' : List (Nat × Blk)) (hF : FnL C.P f cavs bs res bs') (hf : FunA (evA fr fx) f first cap)
  (ha : RelL (Ln (ls.map fun p => (p.1, p.2.gen))) (first ++ args.toList.map (evA fr) ++ cap) cavs) (hlk : LkAll hp ls) (hnd : nodupB (ls.map (·.1)) = true) (hin : LentIn (Ln (ls.map fun p => (p.1, p.2.gen))) ls bs) (hout : LentOut (Lb (ls.map fun p => (p.1, p.2.gen))) ls ls' bs') (hres : Lb (ls.map fun p => (p.1, p.2.gen)) v res)
  (hd : (match dst with | some d => Nat.blt d C.n | none => true) = true) : Does C gc k ⟨dst, .call ⟨.value fx, args, ats⟩, ty, pos, after, gd⟩ ((Op.call ⟨.value fx, args, ats⟩).operands.toList.map (evA fr)) ls v (ls'.map (fun p => (p.1, some p.2))) := by
 intro s c a w hS _ hargs hrd
 have hdst : ∀ e, dst = some e → e < C.n := by
  intro e he
  subst he
  exact lt_of_blt hd
 have hev : ∀ z ∈ #[fx] ++ args, Rep c w (evA fr z) (a.eval z) := by
  intro z hz
  have hz' : z ∈ (Op.call ⟨.value fx, args, ats⟩).operands.toList := by simpa [Op.operands, Call.operands] using hz
  rw [← args_ev hargs z hz']
  exact hS.ev z
 have h1 := hev fx (by simp)
 obtain ⟨F1, F2⟩ := hF
 -- the function, and what it is called with
 obtain ⟨us, vs, hux, hl, hl', hr, hr'⟩ : ∃ us vs : List Value, a.eval fx = .func (.func f) us.toArray vs.toArray ∧ us.length = first.length ∧ vs.length = cap.length ∧ (∀ (i : Nat) (x : AV) (u : Value), first[i]? = some x → us[i]? = some u → Rep c w x u) ∧ (∀ (i : Nat) (x : AV) (u : Value), cap[i]? = some x → vs[i]? = some u → Rep c w x u) := by
  generalize hfx : evA fr fx = F at hf h1
  generalize hux : a.eval fx = ux at h1
  rcases hf with ⟨rfl, rfl, rfl⟩ | rfl
  ·exact ⟨[], [], h1.val_inv, rfl, rfl, fun i x u h => (by simp at h), fun i x u h => (by simp at h)⟩
  ·cases h1 with
   | clo _ _ _ us vs k1 k2 k3 k4 => exact ⟨us, vs, rfl, k1, k2, k3, k4⟩
 have hmr := map_rep (c := c) (w := w) (a := a) (fr := fr) args.toList (fun z hz => hev z (Array.mem_append.2 (.inr (Array.mem_toList_iff.1 hz))))
 have hall := rep_append (l := first ++ args.toList.map (evA fr)) (l' := cap) (us := us ++ args.toList.map a.eval) (us' := vs) (by simp [hl]) (rep_append hl hr hmr) hr'
 have hlall : (us ++ args.toList.map a.eval ++ vs).length = (first ++ args.toList.map (evA fr) ++ cap).length := by simp [hl, hl']
 -- the blocks
 obtain ⟨hin1, hin2⟩ := hin.get
 obtain ⟨ho1, ho2, ho3⟩ := hout.get
 have hob : ∀ p, p ∈ ls → ∃ o, c.own p.1 p.2.gen = some o ∧ BlkRep c w p.2 o := fun p hp => hS.hp p.1 p.2 (hrd p hp)
 obtain ⟨os, hosl, hosg⟩ := pick_list (fun (j : Nat) (p : Nat × Blk) (o : OB) => c.own p.1 p.2.gen = some o ∧ BlkRep c w p.2 o) ls 0 (fun j p hp => hob p (List.mem_of_getElem? hp))
 have hos : ∀ (j : Nat) (p : Nat × Blk) (o : OB), ls[j]? = some p → os[j]? = some o → c.own p.1 p.2.gen = some o ∧ BlkRep c w p.2 o := fun j p o hp ho => hosg j p o hp ho
 have hosm : ∀ (j b g : Nat), (ls.map fun p => (p.1, p.2.gen))[j]? = some (b, g) → ∃ o, os[j]? = some o ∧ c.own b g = some o := fun j b g h => by
  rw [List.getElem?_map] at h
  cases hp : ls[j]? with
  | none => rw [hp] at h; cases h
  | some p =>
   rw [hp] at h
   simp only [Option.map_some, Option.some.injEq, Prod.mk.injEq] at h
   obtain ⟨rfl, rfl⟩ := h
   have hj : j < os.length := by rw [hosl]; exact (List.getElem?_eq_some_iff.1 hp).1
   exact ⟨os[j], List.getElem?_eq_getElem hj, (hos j p _ hp (List.getElem?_eq_getElem hj)).1⟩
 have hosp : ∀ (j : Nat) (o : OB), os[j]? = some o → ∃ p, ls[j]? = some p ∧ c.own p.1 p.2.gen = some o ∧ BlkRep c w p.2 o := fun j o ho => by
  have hj : j < ls.length := by rw [← hosl]; exact (List.getElem?_eq_some_iff.1 ho).1
  exact ⟨ls[j], List.getElem?_eq_getElem hj, hos j _ o (List.getElem?_eq_getElem hj) ho⟩
 have hC := F2 w c.st (us ++ args.toList.map a.eval ++ vs) os (fun β hb => (hS.st β hb).1) (by rw [hosl, hin1])
  (fun j o β ho hβ => by
   obtain ⟨p, _, k1, _⟩ := hosp j o ho
   have := (hS.al _ _ o k1).2.2 β hβ
   exact ⟨this.1, this.2.1⟩)
  (fun i j o o' β ho ho' hβ hβ' => by
   obtain ⟨p, q1, k1, _⟩ := hosp i o ho
   obtain ⟨p', q1', k1', _⟩ := hosp j o' ho'
   have e := (hS.inj _ _ o _ _ o' β k1 k1' hβ hβ').1
   exact nodupB_spec hnd i j p.1 (by rw [List.getElem?_map, q1]; rfl) (by rw [List.getElem?_map, q1', e]; rfl))
  (fun j o q ho hq => by
   obtain ⟨p, q1, k1, k2⟩ := hosp j o ho
   obtain ⟨z1, z2, z3⟩ := hin2 j p q q1 hq
   obtain ⟨r1, r2, r3⟩ := k2.row (by rw [k2.sz, z1]; exact z2)
   have hget : ∀ (i : Nat) (el : List AV), q.2[i]? = some el → ∃ el0, p.2.els[i]? = some el0 ∧ RelL (Ln (ls.map fun p => (p.1, p.2.gen))) el0 el := fun i el hi => by
    have hi' : i < p.2.els.length := by rw [← z3.1]; exact (List.getElem?_eq_some_iff.1 hi).1
    exact ⟨p.2.els[i], List.getElem?_eq_getElem hi', z3.2 i _ el (List.getElem?_eq_getElem hi') hi⟩
   refine ⟨r1.trans z1, fun el hel => ?_, ?_⟩
   ·obtain ⟨i, hi⟩ := List.getElem?_of_mem hel
    obtain ⟨el0, q1, q2⟩ := hget i el hi
    rw [q2.1, r2 el0 (List.mem_of_getElem? q1), z1]
   ·cases hl : o.loc with
    | none =>
     rw [hl] at r3
     simp only at r3 ⊢
     have := z3.1
     rw [r3] at this
     exact List.eq_nil_of_length_eq_zero this
    | some β =>
     rw [hl] at r3
     obtain ⟨cur, e, y1, y2, y3⟩ := r3
     refine ⟨cur, e, y1, y2, fun i el f x hi hx => ?_⟩
     obtain ⟨el0, t1, t2⟩ := hget i el hi
     have hf : f < el0.length := by rw [← t2.1]; exact (List.getElem?_eq_some_iff.1 hx).1
     obtain ⟨u, u1, u2, u3⟩ := y3 i el0 f el0[f] t1 (List.getElem?_eq_getElem hf)
     exact ⟨u, by rw [← z1]; exact u1, u2, Ln.rep hosm (t2.2 f _ x (List.getElem?_eq_getElem hf) hx) u3⟩)
  (hlall.trans ha.1.symm) (fun i x u hx hu => by
   have hi : i < (first ++ args.toList.map (evA fr) ++ cap).length := by rw [← ha.1]; exact (List.getElem?_eq_some_iff.1 hx).1
   exact Ln.rep hosm (ha.2 i _ x (List.getElem?_eq_getElem hi) hx) (hall i _ u (List.getElem?_eq_getElem hi) hu))
 have hrun : (execOp a.eval ⟨dst, .call ⟨.value fx, args, ats⟩, ty, pos, after, gd⟩).run C.P w = .ok (.enter f (us ++ args.toList.map a.eval ++ vs).toArray) w := by
  have e : us.toArray ++ args.map a.eval ++ vs.toArray = (us ++ args.toList.map a.eval ++ vs).toArray := by
   apply Array.ext'
   simp
  rw [← e]
  simp [execOp, resolve, hux, Deferred.ofValue, invoke, F1]
 unfold Oper.wp
 rw [hrun, Oper.upon_enter]
 refine hC.mono (fun e w' ⟨r, St, he, hE, hs1, hs2, hs3, hrow, hrr⟩ => ?_)
 subst he
 have hosb : ∀ (j b g : Nat), (ls.map fun p => (p.1, p.2.gen))[j]? = some (b, g) → ∃ o, os[j]? = some o ∧ c.own b g = some o ∧ c.used g := fun j b g h => by
  obtain ⟨o, k1, k2⟩ := hosm j b g h
  exact ⟨o, k1, k2, (hS.al b g o k2).1⟩
 refine ⟨_, hS.lent ls' os St (by rw [hosl, ho1]) (fun j p' o hp' ho => ?_) hE hs1 hs2 dst v r hdst (Lb.rep hosb hres hrr), fun g hg => .inl hg⟩
 obtain ⟨p, q1, k1, k2⟩ := hosp j o ho
 have hjb : j < bs'.length := by rw [ho2]; exact (List.getElem?_eq_some_iff.1 q1).1
 have hjs : j < bs.length := by rw [hin1]; exact (List.getElem?_eq_some_iff.1 q1).1
 obtain ⟨z1, z2, z3, z4⟩ := ho3 j p p' _ q1 hp' (List.getElem?_eq_getElem hjb)
 obtain ⟨y1, y2, _⟩ := hin2 j p _ q1 (List.getElem?_eq_getElem hjs)
 refine ⟨by rw [z1, z2]; exact k1, ⟨p.2, by rw [z1]; exact hrd p (List.mem_of_getElem? q1), z2.symm⟩, ?_⟩
 obtain ⟨r1, r2, r3⟩ := hrow j o _ _ ho (List.getElem?_eq_getElem hjs) (List.getElem?_eq_getElem hjb)
 simp only at r1 r2 r3
 have hget : ∀ (i : Nat) (el : List AV), p'.2.els[i]? = some el → ∃ el0, bs'[j][i]? = some el0 ∧ RelL (Lb (ls.map fun p => (p.1, p.2.gen))) el el0 := fun i el hi => by
  have hi' : i < bs'[j].length := by rw [z4.1]; exact (List.getElem?_eq_some_iff.1 hi).1
  exact ⟨bs'[j][i], List.getElem?_eq_getElem hi', z4.2 i el _ hi (List.getElem?_eq_getElem hi')⟩
 have hsz : bs[j].1 = p'.2.sz := by rw [z3, y1]
 refine ⟨r1.trans hsz, fun el hel => ?_, ?_⟩
 ·obtain ⟨i, hi⟩ := List.getElem?_of_mem hel
  obtain ⟨el0, q1, q2⟩ := hget i el hi
  rw [← q2.1, r2 el0 (List.mem_of_getElem? q1), hsz]
 ·cases hl : o.loc with
  | none =>
   rw [hl] at r3
   simp only at r3 ⊢
   have := z4.1
   rw [r3] at this
   exact List.eq_nil_of_length_eq_zero this.symm
  | some β =>
   rw [hl] at r3
   obtain ⟨cur, e, y1, y2, y3⟩ := r3
   refine ⟨cur, e, y1, y2, fun i el f x hi hx => ?_⟩
   obtain ⟨el0, t1, t2⟩ := hget i el hi
   have hf : f < el0.length := by rw [t2.1]; exact (List.getElem?_eq_some_iff.1 hx).1
   obtain ⟨u, u1, u2, u3⟩ := y3 i el0 f el0[f] t1 (List.getElem?_eq_getElem hf)
   exact ⟨u, by rw [← hsz]; exact u1, u2, Lb.rep hosb (t2.2 f x _ hx (List.getElem?_eq_getElem hf)) u3⟩
end
theorem own_to_slP {C : ACtx} {s : AS} {c c' : RC} {a : Act} {w : World} (hS : Sim C s c a w) {b g sz m0 : Nat} {els : List (List AV)} {u : Value} (hb : lkH s.hp b = some ⟨g, sz, els⟩) (hmm : m0 ≤ els.length) (hcl : ∀ el x, el ∈ els → x ∈ el → Closed x)
    (hst : ∀ β, c.st β → c'.st β) (hst' : ∀ o β, c.own b g = some o → o.loc = some β → c'.st β) (r : Rep c w (.own b g 0 m0) u) : Rep c' w (.sl sz false (els.take m0)) u := by
  obtain ⟨o, h1, hB⟩ := hS.hp b _ hb
  simp only at h1
  cases r with
  | own _ _ _ _ A m cap hu hp =>
    obtain ⟨rfl, k2, k3, k4, k0, k5⟩ := hp o h1
    obtain ⟨h2, h3, h4⟩ := hB.row k0
    simp only at h2 h3 h4
    have htl : (els.take m).length = m := by rw [List.length_take]; omega
    rcases k5 with hcap | ⟨β, k5, k6, k7⟩
    · subst hcap
      obtain rfl : m = 0 := by omega
      rw [List.take_zero]
      exact .sl sz false [] A 0 0 0 (fun _ _ => undef) (by simp) (by simp [maxLen]) (by simp) (fun _ => rfl) (by simp) (fun h => absurd rfl h) (fun i el f x hi => by simp at hi) (fun i el f x hi => by simp at hi)
    · rw [k5] at h4
      obtain ⟨cur, e, q1, q2, q3⟩ := h4
      rw [Nat.zero_mul] at k6
      have hin : ∀ (i : Nat) (el : List AV), (els.take m)[i]? = some el → els[i]? = some el := fun i el h => by
        rw [List.getElem?_take] at h
        split at h
        · exact h
        · cases h
      have hres : Rep c' w (.sl sz false (els.take m)) (.slice A (els.take m).length cap) := by
       refine .sl sz false (els.take m) A cap β 0 (fun i f => (cur[i * sz + f]?).getD undef) (by omega) k3 (by simp) k4 (fun el hel => h3 el (List.mem_of_mem_take hel)) (fun _ => ⟨k6, fun _ => hst' o β h1 k5⟩) (fun i el f x hi hx => ?_) (fun i el f x hi hx => ?_)
       · obtain ⟨z, r1, r2, r3⟩ := q3 i el f x (hin i el hi) hx
         rw [r1]
         refine ⟨?_, r2⟩
         rw [cell_row q1, Nat.zero_add]
         exact r1
       · obtain ⟨z, r1, r2, r3⟩ := q3 i el f x (hin i el hi) hx
         rw [r1]
         exact r3.closed (hcl el x (List.mem_of_getElem? (hin i el hi)) (List.mem_of_getElem? hx)) c' (fun β' hb' => ⟨hst β' hb', rfl⟩)
      rw [htl] at hres
      exact hres
theorem Sim.frzB {C : ACtx} {s : AS} {c : RC} {a : Act} {w : World} {d b g sz m : Nat} {els : List (List AV)} (hS : Sim C (s.app (some d) (.own b g 0 m) [(b, some ⟨g, sz, els⟩)]) c a w) (hmm : m ≤ els.length) (hcl : ∀ el x, el ∈ els → x ∈ el → Closed x) :
  ∃ c2, Sim C (s.app (some d) (.sl sz false (els.take m)) [(b, none)]) c2 a w ∧ ∀ g, c2.used g → c.used g := by
 classical
 let c' : RC := ⟨fun b' g' => if b' = b then none else c.own b' g', c.used, fun β => c.st β ∨ ∃ o, c.own b g = some o ∧ o.loc = some β⟩
 have hm : Mono c c' w w := ⟨fun β hb => ⟨.inl hb, rfl⟩, fun g hg => hg, fun b1 g1 o1 _ ho => by
  simp only [c'] at ho
  split at ho
  ·cases ho
  ·exact ho⟩
 have hlk : ∀ b', lkH (s.app (some d) (.own b g 0 m) [(b, some ⟨g, sz, els⟩)]).hp b' = if b' = b then some ⟨g, sz, els⟩ else lkH s.hp b' := fun b' => by
  simp only [AS.app, List.cons_append, List.nil_append, lkH_cons]
 have hlk2 : ∀ b', lkH (s.app (some d) (.sl sz false (els.take m)) [(b, none)]).hp b' = if b' = b then none else lkH s.hp b' := fun b' => by
  simp only [AS.app, List.cons_append, List.nil_append, lkH_cons]
 have hfr : ∀ t, lkA (s.app (some d) (.own b g 0 m) [(b, some ⟨g, sz, els⟩)]).fr t = if t = d then .own b g 0 m else lkA s.fr t := fun t => by
  simp only [AS.app, putFr, lkA_cons]
 have hfr2 : ∀ t, lkA (s.app (some d) (.sl sz false (els.take m)) [(b, none)]).fr t = if t = d then .sl sz false (els.take m) else lkA s.fr t := fun t => by
  simp only [AS.app, putFr, lkA_cons]
 refine ⟨c', ⟨hS.nd.step (fun _ hb => ⟨.inl hb, rfl⟩), hS.sz, fun t => ?_, fun b' blk hb' => ?_, fun b' g' o ho => ?_, fun b1 g1 o1 b2 g2 o2 β q1 q2 q3 q4 => ?_, fun β hβ => ?_, fun β hβ => .inl (hS.st0 β hβ), hS.old, hS.mo.trans hm⟩, fun g hg => hg⟩
 ·have h1 := hS.fr t
  rw [hfr] at h1
  rw [hfr2]
  split
  ·rename_i e
   rw [if_pos e] at h1
   refine own_to_slP hS (b := b) (g := g) (sz := sz) (by rw [hlk, if_pos rfl]) hmm hcl (fun β hb => .inl hb) (fun o β ho hβ => .inr ⟨o, ho, hβ⟩) h1
  ·rename_i e
   rw [if_neg e] at h1
   exact h1.mono hm
 ·rw [hlk2] at hb'
  split at hb'
  ·cases hb'
  ·rename_i e
   obtain ⟨o, q1, q2⟩ := hS.hp b' blk (by rw [hlk, if_neg e]; exact hb')
   refine ⟨o, ?_, q2.mono hm (fun _ _ => rfl)⟩
   simp only [c']
   rw [if_neg e]
   exact q1
 ·simp only [c'] at ho
  split at ho
  ·cases ho
  ·rename_i e
   obtain ⟨q1, ⟨blk, q2, q3⟩, q4⟩ := hS.al b' g' o ho
   rw [hlk, if_neg e] at q2
   refine ⟨q1, ⟨blk, by rw [hlk2, if_neg e]; exact q2, q3⟩, fun β hβ => ?_⟩
   obtain ⟨r1, r2, r3⟩ := q4 β hβ
   refine ⟨r1, fun hs => ?_, r3⟩
   rcases hs with hs | ⟨o', ho', hl'⟩
   ·exact r2 hs
   ·exact e (hS.inj b' g' o b g o' β ho ho' hβ hl').1
 ·simp only [c'] at q1 q2
  split at q1
  ·cases q1
  ·split at q2
   ·cases q2
   ·exact hS.inj b1 g1 o1 b2 g2 o2 β q1 q2 q3 q4
 ·rcases hβ with hβ | ⟨o, ho, hl⟩
  ·exact hS.st β hβ
  ·obtain ⟨r1, r2, r3⟩ := (hS.al b g o ho).2.2 β hl
   exact ⟨r1, .inr r3⟩
theorem Does.frzB {C : ACtx} {G i : Nat} {o : Oper} {args : List AV} {rd : List (Nat × Blk)} {d b g m sz : Nat} {els : List (List AV)} (h : Does C G i o args rd (.own b g 0 m) [(b, some ⟨g, sz, els⟩)]) (hd : o.dst = some d) (hn : m ≤ els.length) (hcl : ∀ el x, el ∈ els → x ∈ el → Closed x) : Does C G i o args rd (.sl sz false (els.take m)) [(b, none)] := by
 intro s c a w hS hf ha hr
 have := h s c a w hS hf ha hr
 rw [hd] at this ⊢
 exact Oper.wp_mono (fun a' w' ⟨c', h1, h2⟩ => by
  obtain ⟨c2, k1, k2⟩ := h1.frzB hn hcl
  exact ⟨c2, k1, fun g hg => h2 g (k2 g hg)⟩) this
theorem callRZ {P : Program} {T : Nat → Option TI} {ok : ∀ t ti, T t = some ti → tiOf P t = some ti} {nn : Nat} {w0 : World} {st0 lent : Nat → Prop} {rdd : Option Nat × Bool} {c00 : RC} {ops : Array Oper} {K : AS → List (List Nat × List Nat) → Prop} {k : Nat} {rest : List Oper} {fr : List (Nat × AV)} {hp : List (Nat × Option Blk)} {gc : Nat} {fps : List (List Nat × List Nat)}
 {d : Nat} {ty : TypeId} {pos : String} {after : Array Edge} {gd : Option (Nat × Bool)} {fx : Operand} {args : Array Operand} {ats : Array TypeId} {f : FuncId} {cavs : List AV} (b g sz m : Nat) (e1 e2 e3 : List (List AV)) (hF : FnL P f cavs [(sz, e1)] (.own 1000 0 0 m) [e2]) (h1 : ∀ el x, el ∈ e1 → x ∈ el → Closed x) (h2 : ∀ el x, el ∈ e2 → x ∈ el → Closed x) (hm : m ≤ e2.length) (h3 : e2.take m = e3)
  (ha : RelL (Ln [(b, g)]) (args.toList.map (evA fr)) cavs)
  (hf : evA fr fx = .val (.func (.func f) #[] #[])) (hlk : lkH hp b = some ⟨g, sz, e1⟩) (h0 : Nat.blt 0 sz = true) (hd : Nat.blt d nn = true) (hg : guardF ops fr ⟨some d, .call ⟨.value fx, args, ats⟩, ty, pos, after, gd⟩ = some true)
  (nx : ARun ⟨P, T, ok, nn, w0, st0, lent, rdd, c00⟩ ops K (k + 1) rest ⟨(d, .sl sz false e3) :: fr, (b, none) :: hp, gc⟩ (fps ++ [([b], [b])])) :
  ARun ⟨P, T, ok, nn, w0, st0, lent, rdd, c00⟩ ops K k (⟨some d, .call ⟨.value fx, args, ats⟩, ty, pos, after, gd⟩ :: rest) ⟨fr, hp, gc⟩ fps := by
 subst h3
 refine ARun.step (.sl sz false (e2.take m)) [(b, ⟨g, sz, e1⟩)] [(b, none)] (guardF_spec hg) (by simp [hlk]) ?_ nx
 refine Does.frzB (m := m) (g := g) ?_ rfl hm h2
 exact does_callL (first := []) (cap := []) [(b, ⟨g, sz, e1⟩)] [(b, ⟨g, sz, e2⟩)] hF (.inl ⟨hf, rfl, rfl⟩) (by rw [List.nil_append, List.append_nil]; exact ha) ⟨hlk, trivial⟩ rfl ⟨⟨rfl, h0, RelR.id (fun el x q1 q2 => .wk (.same _) (h1 el x q1 q2))⟩, trivial⟩ ⟨⟨rfl, rfl, rfl, RelR.id (fun el x q1 q2 => .same _ (h2 el x q1 q2))⟩, trivial⟩ (.own (j := 0) 0 m rfl) hd
end Go.Proofs.Ytkmlmboclegpcaa
