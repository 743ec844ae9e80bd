/- E1, E2, E3, E4, E5, F1, F2, F3, F4, F5, F6, F7, F8, F9, Fa, Fb, Fc, Fd, Fe, Ff, Fg, Fh, Fi, Fj, Fk, Fl, Fm, Fn, Fo. -/
import Derived.Test.YtfphgelollhdhaaGreatW1
import Derived.Test.YtfphgelollhdhaaGreatW2
import Derived.Test.YtfphgelollhdhaaGreatW3
import Derived.RangeFuncSeq
import Derived.Lib.MakeNoZero
import Derived.Laws.Externs
import Derived.Laws.Small
import Derived.Lib.ConvBytes
import Derived.Lib.AppendStr
import Derived.Laws.Append
import Derived.Laws.Strings
import Derived.SizedLaws
set_option linter.unusedVariables false
set_option linter.unusedSimpArgs false
namespace Go.Proofs.YtfphgelollhdhaaGreat
open Go Go.RowKit
set_option maxRecDepth 100000
structure Keep (It : Nat → Prop) (w w' : World) : Prop where
 os : w'.os = w.os
 tape : w'.tape = w.tape
 output : w'.output = w.output
 size : w.heap.size ≤ w'.heap.size
 block : ∀ β, It β → w'.heap[β]? = w.heap[β]?
theorem Rep.other {c : RC} {w w' : World} (h : ∀ β, c.st β → w'.heap[β]? = w.heap[β]?) {x : AV} {v : Value} (r : Rep c w x v) : Rep c w' x v := r.mono ⟨fun β hb => ⟨hb, h β hb⟩, fun _ h => h, fun _ _ _ _ h => h⟩
theorem Sim.back {C C2 : ACtx} {s0 s2 : AS} {c c3 : RC} {a a3 : Act} {w w3 w' : World} {l : Nat} (hS : Sim C s0 c a w) (hR : Sim C2 s2 c3 a3 w3) (m : Mono c c3 w w3)
  (old : ∀ k, k < w.heap.size → (∀ b g o, c.own b g = some o → o.loc ≠ some k) → k ≠ l → w3.heap[k]? = w.heap[k]?) (sz : w.heap.size ≤ w3.heap.size) (os : w3.os = w.os) (tape : w3.tape = w.tape) (output : w3.output = w.output)
  (hw : ∀ β, β ≠ l → w'.heap[β]? = w3.heap[β]?) (hsz : w'.heap.size = w3.heap.size) (hos : w'.os = w3.os) (hta : w'.tape = w3.tape) (hou : w'.output = w3.output)
  (hl : ¬ c3.st l) (hl' : ∀ b g o, c3.own b g = some o → o.loc ≠ some l) (hl0 : C.w0.heap.size ≤ l)
  (hal : ∀ b g o β, c3.own b g = some o → o.loc = some β → C.w0.heap.size ≤ β ∨ C.lent β) (hst : ∀ β, c3.st β → C.st0 β ∨ C.w0.heap.size ≤ β ∨ C.lent β) : Sim C ⟨s0.fr, s2.hp, s2.gc⟩ c3 a w' := by
 have hne : ∀ β, c3.st β → β ≠ l := fun β h e => hl (e ▸ h)
 have m3 : Mono c3 c3 w3 w' := ⟨fun β h => ⟨h, hw β (hne β h)⟩, fun _ h => h, fun _ _ _ _ h => h⟩
 have m' : Mono c c3 w w' := m.trans m3
 refine ⟨hS.nd.step m'.st, hS.sz, fun t => (hS.fr t).mono m', fun b blk hb => ?_, fun b g o ho => ?_, hR.inj, fun β hb => ?_, fun β hb => (m.st β (hS.st0 β hb)).1, hS.old.trans' (hos.trans os) (hta.trans tape) (hou.trans output) (by omega) (fun k hk hk' => ?_), hS.mo.trans m'⟩
 ·obtain ⟨o, h1, h2⟩ := hR.hp b blk hb
  exact ⟨o, h1, h2.mono m3 (fun β hβ => hw β (fun e => hl' b _ o h1 (e ▸ hβ)))⟩
 ·obtain ⟨k1, k2, k4⟩ := hR.al b g o ho
  refine ⟨k1, k2, fun β hβ => ?_⟩
  obtain ⟨q1, q2, q3⟩ := k4 β hβ
  exact ⟨by omega, q2, hal b g o β ho hβ⟩
 ·exact ⟨by have := (hR.st β hb).1; omega, hst β hb⟩
 ·have hkw : k < w.heap.size := Nat.lt_of_lt_of_le hk hS.old.size
  have hkl : k ≠ l := by omega
  rw [hw k hkl]
  refine old k hkw (fun b g o ho hk'' => ?_) hkl
  rcases ((hS.al b g o ho).2.2 k hk'').2.2 with h | h
  ·omega
  ·exact hk' h
end Go.Proofs.YtfphgelollhdhaaGreat
namespace Go.Proofs.YtfphgelollhdhaaGreat
open Go Go.RowKit
set_option maxRecDepth 100000
structure Mine (C : ACtx) (a : Act) (fr : List (Nat × AV)) (D l : Nat) (ob : Obj) (It : Nat → Prop) (W : World) (hp : List (Nat × Option Blk)) (gc : Nat) (c : RC) : Prop where
 sim : Sim C ⟨fr, hp, gc⟩ c a W
 gens : ∀ g, c.used g → g < gc
 dst : c.st D
 dheap : W.heap[D]? = some (.deferred (some []))
 lheap : W.heap[l]? = some ob
 lst : ¬ c.st l
 lown : ∀ b g o, c.own b g = some o → o.loc ≠ some l
 own : ∀ b g o β, c.own b g = some o → o.loc = some β → ¬ It β
 lit : ¬ It l
 itlt : ∀ β, It β → β < W.heap.size
 itok : ∀ β, It β → C.st0 β ∨ C.w0.heap.size ≤ β ∨ C.lent β
theorem Mine.grow {C : ACtx} {a : Act} {fr : List (Nat × AV)} {D l : Nat} {ob : Obj} {It It' : Nat → Prop} {W W2 : World} {hp : List (Nat × Option Blk)} {gc : Nat} {c : RC} (h : Mine C a fr D l ob It W hp gc c) (hB : Below W.heap.size W W2) (hIt : ∀ β, It' β → It β ∨ (W.heap.size ≤ β ∧ β < W2.heap.size)) (hD : D < W.heap.size) (hl : l < W.heap.size) : Mine C a fr D l ob It' W2 hp gc c :=
  ⟨h.sim.grow (w' := W2) c.st hB (fun _ hb => hb) (fun _ hb => .inl hb) none .dead undef (fun e he => by cases he) (fun e => absurd rfl e), h.gens, h.dst, (hB.block D hD).trans h.dheap, (hB.block l hl).trans h.lheap, h.lst, h.lown,
   fun b g o β ho hβ hi => by
    have hlt := ((h.sim.al b g o ho).2.2 β hβ).1
    rcases hIt β hi with h' | h'
    · exact h.own b g o β ho hβ h'
    · omega,
   fun hi => by
    rcases hIt l hi with h' | h'
    · exact h.lit h'
    · omega,
   fun β hi => by
    rcases hIt β hi with h' | h'
    · exact Nat.lt_of_lt_of_le (h.itlt β h') hB.size
    · exact h'.2,
   fun β hi => by
    rcases hIt β hi with h' | h'
    · exact h.itok β h'
    · exact .inr (.inl (Nat.le_trans h.sim.old.size h'.1))⟩
theorem Mine.le {C : ACtx} {a : Act} {fr : List (Nat × AV)} {D l : Nat} {ob : Obj} {It : Nat → Prop} {W : World} {hp hp' : List (Nat × Option Blk)} {gc gc' : Nat} {c : RC} (h : Mine C a fr D l ob It W hp gc c) (h2 : HpLe hp hp') (h3 : gc ≤ gc') : ∃ c', Mine C a fr D l ob It W hp' gc' c' := by
 classical
 have hS := h.sim
 let c' : RC := ⟨fun b g => if lkH hp' b = none then none else c.own b g, c.used, c.st⟩
 have hown : ∀ b g o, c'.own b g = some o → c.own b g = some o := fun b g o ho => by
  simp only [c'] at ho
  split at ho
  ·cases ho
  ·exact ho
 have hm : Mono c c' W W := ⟨fun β hb => ⟨hb, rfl⟩, fun g hg => hg, fun b g o _ ho => hown b g o ho⟩
 refine ⟨c', ⟨hS.nd.step (fun _ hb => ⟨hb, rfl⟩), hS.sz, fun t => (hS.fr t).mono hm, fun b blk hb => ?_, fun b g o ho => ?_, fun b g o b' g' o' β k k' => hS.inj b g o b' g' o' β (hown _ _ _ k) (hown _ _ _ k'), hS.st, hS.st0, hS.old, hS.mo.trans hm⟩, fun g hg => Nat.lt_of_lt_of_le (h.gens g hg) h3, h.dst, h.dheap, h.lheap, h.lst, fun b g o ho => h.lown b g o (hown _ _ _ ho), fun b g o β ho => h.own b g o β (hown _ _ _ ho), h.lit, h.itlt, h.itok⟩
 ·simp only at hb
  have e : lkH hp' b = lkH hp b := by
   rcases h2.spec b with e | e
   ·exact e
   ·rw [e] at hb; cases hb
  obtain ⟨o, q1, q2⟩ := hS.hp b blk (e ▸ hb)
  refine ⟨o, ?_, q2.mono hm (fun _ _ => rfl)⟩
  simp only [c']
  rw [if_neg (by rw [hb]; simp)]
  exact q1
 ·have ho' := ho
  simp only [c'] at ho'
  split at ho'
  ·cases ho'
  ·rename_i hne
   have e : lkH hp' b = lkH hp b := by
    rcases h2.spec b with e | e
    ·exact e
    ·exact absurd e hne
   obtain ⟨q1, ⟨blk, q2, q3⟩, q4⟩ := hS.al b g o ho'
   exact ⟨q1, ⟨blk, e.trans q2, q3⟩, q4⟩
section
variable {P : Program} {T : Nat → Option TI} {ok : ∀ t ti, T t = some ti → tiOf P t = some ti} {n : Nat} {w0 : World} {st0 lent : Nat → Prop} {c00 : RC}
end
end Go.Proofs.YtfphgelollhdhaaGreat
namespace Go.Proofs.YtfphgelollhdhaaGreat
open Go Go.RowKit
set_option maxRecDepth 100000
structure YCtx (P : Program) (T : Nat → Option TI) (ok : ∀ t ti, T t = some ti → tiOf P t = some ti) (n : Nat) (xs : List (List AV)) where
 l : Nat
 J : Nat → (Nat → Prop) → World → Prop
 Jx : World → Prop
 hJ : ∀ i It It' W1 W2, J i It W1 → Below W1.heap.size W1 W2 → (∀ β, It' β → It β ∨ (W1.heap.size ≤ β ∧ β < W2.heap.size)) → J i It' W2
 hJx : ∀ W1 W2, Jx W1 → Below W1.heap.size W1 W2 → Jx W2
 hR : ∀ (i : Nat) (x : List AV) (It : Nat → Prop) (W1 : World) (args : List Value), xs[i]? = some x → J i It W1 → args.length = x.length → (∀ (j : Nat) (a : AV) (u : Value), x[j]? = some a → args[j]? = some u → Rep (RC.pure It) W1 a u) →
   YieldAt Fence.wide 0 P l args.toArray W1 (fun e W2 => Keep It W1 W2 ∧ ((e = .returned (.bool true) ∧ J (i + 1) It W2) ∨ (e = .returned (.bool false) ∧ Jx W2)))
variable {P : Program} {T : Nat → Option TI} {ok : ∀ t ti, T t = some ti → tiOf P t = some ti} {n : Nat} {xs : List (List AV)}
section
variable {Y : YCtx P T ok n xs} {ph : Option Nat} {s : AS} {Q : Exit → Option Nat → AS → Prop}
end
end Go.Proofs.YtfphgelollhdhaaGreat
namespace Go.Proofs.YtfphgelollhdhaaGreat
open Go Go.RowKit
set_option maxRecDepth 100000
theorem ARun.nil {C : ACtx} {ops : Array Oper} {K : AS → List (List Nat × List Nat) → Prop} {k : Nat} {s : AS} {fps : List (List Nat × List Nat)} (h : K s fps) : ARun C ops K k [] s fps := h
def ClosedFr (fr : List (Nat × AV)) : Prop := ∀ p, p ∈ fr → Closed p.2
theorem ClosedFr.nil : ClosedFr [] := fun p h => by cases h
theorem ClosedFr.cons {t : Nat} {v : AV} {fr : List (Nat × AV)} (h : Closed v) (r : ClosedFr fr) : ClosedFr ((t, v) :: fr) := fun p hp => by
 rcases List.mem_cons.1 hp with rfl | hp
 ·exact h
 ·exact r p hp
section
variable {P : Program} {T : Nat → Option TI} {ok : ∀ t ti, T t = some ti → tiOf P t = some ti} {n : Nat} {xs : List (List AV)}
end
end Go.Proofs.YtfphgelollhdhaaGreat
namespace Go.Proofs.YtfphgelollhdhaaGreat
open Go Go.RowKit
set_option maxRecDepth 100000
section
variable {C : ACtx} {ops : Array Oper} {K : AS → List (List Nat × List Nat) → Prop} {k : Nat} {rest : List Oper} {fr : List (Nat × AV)} {hp : List (Nat × Option Blk)} {gc : Nat} {fps : List (List Nat × List Nat)}
 {d : Nat} {ty : TypeId} {pos : String} {after : Array Edge} {gd : Option (Nat × Bool)} {x y z : Operand} {v : AV}
end
section
variable {P : Program} {T : Nat → Option TI} {ok : ∀ t ti, T t = some ti → tiOf P t = some ti} {n : Nat} {xs : List (List AV)} {Y : YCtx P T ok n xs} {ph : Option Nat} {s : AS} {Q : Exit → Option Nat → AS → Prop}
end
end Go.Proofs.YtfphgelollhdhaaGreat
namespace Go.Proofs.YtfphgelollhdhaaGreat
open Go Go.RowKit
set_option maxRecDepth 100000
def lendOwn (os : List OB) : Nat → Nat → Option OB := fun b g => if b = 1000 + g then os[g]? else none
def RC.lend (os : List OB) (st : Nat → Prop) : RC := ⟨lendOwn os, fun g => g < os.length, st⟩
theorem lendOwn_at (os : List OB) (j : Nat) : lendOwn os (1000 + j) j = os[j]? := if_pos rfl
theorem lendOwn_some {os : List OB} {b g : Nat} {o : OB} (h : lendOwn os b g = some o) : b = 1000 + g ∧ os[g]? = some o := by
 unfold lendOwn at h
 split at h
 ·rename_i e; exact ⟨e, h⟩
 ·cases h
abbrev LB := Nat × List (List AV)
def hpFrom : Nat → List LB → List (Nat × Option Blk)
 | _, [] => []
 | k, p :: l => (1000 + k, some ⟨k, p.1, p.2⟩) :: hpFrom (k + 1) l
theorem lk_hpFrom : ∀ (l : List LB) (k b : Nat) (blk : Blk), lkH (hpFrom k l) b = some blk → ∃ j p, l[j]? = some p ∧ b = 1000 + (k + j) ∧ blk = ⟨k + j, p.1, p.2⟩
 | [], k, b, blk, h => by simp [hpFrom, lkH] at h
 | p :: l, k, b, blk, h => by
  rw [hpFrom, lkH_cons] at h
  split at h
  ·rename_i e
   exact ⟨0, p, rfl, by omega, (Option.some.inj h).symm⟩
  ·obtain ⟨j, q, h1, h2, h3⟩ := lk_hpFrom l (k + 1) b blk h
   exact ⟨j + 1, q, by simpa using h1, by omega, by rw [h3, show k + 1 + j = k + (j + 1) by omega]⟩
theorem lk_hpFrom_at : ∀ (l : List LB) (k j : Nat) (p : LB), l[j]? = some p → lkH (hpFrom k l) (1000 + (k + j)) = some ⟨k + j, p.1, p.2⟩
 | [], k, j, p, h => by simp at h
 | q :: l, k, j, p, h => by
  rw [hpFrom, lkH_cons]
  cases j with
  | zero =>
   simp only [List.getElem?_cons_zero, Option.some.injEq] at h
   subst h
   rw [if_pos (by omega)]
   rfl
  | succ j =>
   rw [if_neg (by omega)]
   have := lk_hpFrom_at l (k + 1) j p (by simpa using h)
   rw [show k + 1 + j = k + (j + 1) by omega] at this
   exact this
def FnL (P : Program) (f : FuncId) (args : List AV) (bs : List LB) (res : AV) (bs' : List (List (List AV))) : Prop :=
 (∀ (vs : Array Value) (w : World), (callFunc f vs).run P w = .ok (.enter f vs) w) ∧
 ∀ (w : World) (st : Nat → Prop) (vs : List Value) (os : List OB), (∀ β, st β → β < w.heap.size) → os.length = bs.length →
  (∀ (j : Nat) (o : OB) (β : Nat), os[j]? = some o → o.loc = some β → β < w.heap.size ∧ ¬ st β) →
  (∀ (i j : Nat) (o o' : OB) (β : Nat), os[i]? = some o → os[j]? = some o' → o.loc = some β → o'.loc = some β → i = j) →
  (∀ (j : Nat) (o : OB) (p : LB), os[j]? = some o → bs[j]? = some p → RowRep (RC.lend os st) w ⟨j, p.1, p.2⟩ o) →
  vs.length = args.length → (∀ (i : Nat) (x : AV) (u : Value), args[i]? = some x → vs[i]? = some u → Rep (RC.lend os st) w x u) →
  Calls P f vs.toArray w (fun e w' => ∃ r St, e = .returned r ∧ Old (fun β => ∃ (j : Nat) (o : OB), os[j]? = some o ∧ o.loc = some β) w w' ∧ (∀ β, st β → St β) ∧ (∀ β, St β → st β ∨ (w.heap.size ≤ β ∧ β < w'.heap.size)) ∧
   (∀ β, st β → w'.heap[β]? = w.heap[β]?) ∧
   (∀ (j : Nat) (o : OB) (p : LB) (els : List (List AV)), os[j]? = some o → bs[j]? = some p → bs'[j]? = some els → RowRep (RC.lend os St) w' ⟨j, p.1, els⟩ o) ∧ Rep (RC.lend os St) w' res r)
def hpNone : Nat → Nat → List (Nat × Option Blk)
 | _, 0 => []
 | k, n + 1 => (1000 + k, none) :: hpNone (k + 1) n
def dropHp (n : Nat) (hp : List (Nat × Option Blk)) : List (Nat × Option Blk) := hpNone 0 n ++ hp
theorem lk_hpNone : ∀ (n k b : Nat) (hp : List (Nat × Option Blk)), lkH (hpNone k n ++ hp) b = if 1000 + k ≤ b ∧ b < 1000 + k + n then none else lkH hp b
 | 0, k, b, hp => by rw [if_neg (by omega)]; rfl
 | n + 1, k, b, hp => by
  rw [hpNone, List.cons_append, lkH_cons, lk_hpNone n (k + 1) b hp]
  by_cases h : b = 1000 + k
  ·rw [if_pos h, if_pos (by omega)]
  ·rw [if_neg h]
   by_cases h2 : 1000 + (k + 1) ≤ b ∧ b < 1000 + (k + 1) + n
   ·rw [if_pos h2, if_pos (by omega)]
   ·rw [if_neg h2, if_neg (by omega)]
inductive Rl (n : Nat) (sX : AS) : AV → AV → Prop where
 | reif {x x' : AV} (h : Reif sX x x') : Rl n sX x x'
 | ptr (j i f : Nat) (hj : Nat.blt j n = true) : Rl n sX (.ptr (1000 + j) j i f) (.ptr (1000 + j) j i f)
 | own (j lo m : Nat) (hj : Nat.blt j n = true) : Rl n sX (.own (1000 + j) j lo m) (.own (1000 + j) j lo m)
 | clo {f : Fn} {first first' cap cap' : List AV} (hl : first'.length = first.length) (hr : ∀ (i : Nat) (x x' : AV), first[i]? = some x → first'[i]? = some x' → Rl n sX x x') (hl' : cap'.length = cap.length) (hr' : ∀ (i : Nat) (x x' : AV), cap[i]? = some x → cap'[i]? = some x' → Rl n sX x x') : Rl n sX (.clo f first cap) (.clo f first' cap')
def RlL (n : Nat) (sX : AS) (es es' : List AV) : Prop := es'.length = es.length ∧ ∀ (i : Nat) (x x' : AV), es[i]? = some x → es'[i]? = some x' → Rl n sX x x'
theorem RlL.nil (n : Nat) (sX : AS) : RlL n sX [] [] := ⟨rfl, fun i x x' h => by simp at h⟩
theorem RlL.cons {n : Nat} {sX : AS} {x x' : AV} {es es' : List AV} (h : Rl n sX x x') (t : RlL n sX es es') : RlL n sX (x :: es) (x' :: es') :=
 ⟨by simp [t.1], fun i y y' hy hy' => by
  cases i with
  | zero =>
   simp only [List.getElem?_cons_zero, Option.some.injEq] at hy hy'
   subst hy
   subst hy'
   exact h
  | succ i => exact t.2 i y y' (by simpa using hy) (by simpa using hy')⟩
def RlR (n : Nat) (sX : AS) (els els' : List (List AV)) : Prop := els'.length = els.length ∧ ∀ (i : Nat) (el el' : List AV), els[i]? = some el → els'[i]? = some el' → RlL n sX el el'
theorem RlR.nil (n : Nat) (sX : AS) : RlR n sX [] [] := ⟨rfl, fun i x x' h => by simp at h⟩
theorem RlR.cons {n : Nat} {sX : AS} {x x' : List AV} {es es' : List (List AV)} (h : RlL n sX x x') (t : RlR n sX es es') : RlR n sX (x :: es) (x' :: es') :=
 ⟨by simp [t.1], fun i y y' hy hy' => by
  cases i with
  | zero =>
   simp only [List.getElem?_cons_zero, Option.some.injEq] at hy hy'
   subst hy
   subst hy'
   exact h
  | succ i => exact t.2 i y y' (by simpa using hy) (by simpa using hy')⟩
theorem RlR.closed {n : Nat} {sX : AS} {els : List (List AV)} (h : ∀ el x, el ∈ els → x ∈ el → Closed x) : RlR n sX els els :=
 ⟨rfl, fun i el el' h1 h2 => by
  rw [h1] at h2
  obtain rfl := Option.some.inj h2
  exact ⟨rfl, fun k x x' h3 h4 => by
   rw [h3] at h4
   obtain rfl := Option.some.inj h4
   exact .reif (.closed x (h el x (List.mem_of_getElem? h1) (List.mem_of_getElem? h3)))⟩⟩
def LentEnd (n : Nat) (s sX : AS) : Nat → List LB → List (List (List AV)) → Prop
 | _, [], [] => True
 | j, p :: bs, els' :: bs' => (∃ els, lkH s.hp (1000 + j) = some ⟨j, p.1, els⟩ ∧ RlR n sX els els') ∧ LentEnd n s sX (j + 1) bs bs'
 | _, _, _ => False
theorem LentEnd.get {n : Nat} {s sX : AS} : ∀ {bs : List LB} {bs' : List (List (List AV))} {k : Nat}, LentEnd n s sX k bs bs' → ∀ (j : Nat) (p : LB), bs[j]? = some p → ∃ els' els, bs'[j]? = some els' ∧ lkH s.hp (1000 + (k + j)) = some ⟨k + j, p.1, els⟩ ∧ RlR n sX els els'
 | [], _, _, _, j, p, hp => by simp at hp
 | q :: bs, [], _, h, j, p, hp => h.elim
 | q :: bs, els' :: bs', k, h, j, p, hp => by
  cases j with
  | zero =>
   simp only [List.getElem?_cons_zero, Option.some.injEq] at hp
   subst hp
   obtain ⟨els, h1, h2⟩ := h.1
   exact ⟨els', els, rfl, h1, h2⟩
  | succ j =>
   obtain ⟨e1, e2, h1, h2, h3⟩ := h.2.get j p (by simpa using hp)
   rw [show k + 1 + j = k + (j + 1) by omega] at h2
   exact ⟨e1, e2, by simpa using h1, h2, h3⟩
def retLn (C : ACtx) (rs : Array ResultVar) (res : AV) (bs : List LB) (bs' : List (List (List AV))) : Exit → AS → Prop
 | .normal, s => ∃ vs, ResL C ⟨s.fr, dropHp bs.length s.hp, s.gc⟩ rs.toList vs ∧ res = retAV vs ∧ LentEnd bs.length s ⟨s.fr, dropHp bs.length s.hp, s.gc⟩ 0 bs bs'
 | .ret, s => ∃ vs, ResL C ⟨s.fr, dropHp bs.length s.hp, s.gc⟩ rs.toList vs ∧ res = retAV vs ∧ LentEnd bs.length s ⟨s.fr, dropHp bs.length s.hp, s.gc⟩ 0 bs bs'
 | _, _ => False
theorem Sim.less {C : ACtx} {s : AS} {c : RC} {a : Act} {w : World} (hS : Sim C s c a w) (hp' : List (Nat × Option Blk)) (h : ∀ b, lkH hp' b = lkH s.hp b ∨ lkH hp' b = none) :
  Sim C ⟨s.fr, hp', s.gc⟩ ⟨fun b g => if lkH hp' b = none then none else c.own b g, c.used, c.st⟩ a w := by
 classical
 let c' : RC := ⟨fun b g => if lkH hp' b = none then none else c.own b g, c.used, c.st⟩
 have hown : ∀ b g o, c'.own b g = some o → c.own b g = some o ∧ lkH hp' b = lkH s.hp b := fun b g o ho => by
  simp only [c'] at ho
  split at ho
  ·cases ho
  ·rename_i hne
   exact ⟨ho, (h b).resolve_right hne⟩
 have hm : Mono c c' w w := ⟨fun β hb => ⟨hb, rfl⟩, fun g hg => hg, fun b g o _ ho => (hown b g o ho).1⟩
 refine ⟨hS.nd.step (fun _ hb => ⟨hb, rfl⟩), hS.sz, fun t => (hS.fr t).mono hm, fun b blk hb => ?_, fun b g o ho => ?_, fun b g o b' g' o' β k k' => hS.inj b g o b' g' o' β (hown _ _ _ k).1 (hown _ _ _ k').1, hS.st, hS.st0, hS.old, hS.mo.trans hm⟩
 ·simp only at hb
  have e : lkH hp' b = lkH s.hp b := by
   rcases h b with e | e
   ·exact e
   ·rw [e] at hb; cases hb
  obtain ⟨o, q1, q2⟩ := hS.hp b blk (e ▸ hb)
  refine ⟨o, ?_, q2.mono hm (fun _ _ => rfl)⟩
  simp only [c']
  rw [if_neg (by rw [hb]; simp)]
  exact q1
 ·obtain ⟨ho', e⟩ := hown b g o ho
  obtain ⟨q1, ⟨blk, q2, q3⟩, q4⟩ := hS.al b g o ho'
  exact ⟨q1, ⟨blk, e.trans q2, q3⟩, q4⟩
theorem Rl.rep {C : ACtx} {s : AS} {c : RC} {a : Act} {w : World} {n : Nat} {os : List OB} {hp' : List (Nat × Option Blk)} (hS : Sim C s c a w) (h : ∀ b, lkH hp' b = lkH s.hp b ∨ lkH hp' b = none) (hn : os.length = n) (hos : ∀ j, j < n → c.own (1000 + j) j = os[j]?)
  {x x' : AV} (r : Rl n ⟨s.fr, hp', s.gc⟩ x x') : ∀ {u : Value}, Rep c w x u → Rep (RC.lend os (RC.given ⟨fun b g => if lkH hp' b = none then none else c.own b g, c.used, c.st⟩)) w x' u := by
 classical
 have hm : Mono c ⟨fun b g => if lkH hp' b = none then none else c.own b g, c.used, c.st⟩ w w := ⟨fun β hb => ⟨hb, rfl⟩, fun g hg => hg, fun b g o _ ho => by
  simp only at ho
  split at ho
  ·cases ho
  ·exact ho⟩
 induction r with
 | reif hr => exact fun ru => hr.rep (hS.less hp' h) (ru.mono hm) _ _
 | ptr j i f hj =>
  have hj := lt_of_blt hj
  intro u ru
  cases ru with
  | ptr _ _ _ _ β o hu hp =>
   refine .ptr _ _ _ _ β o (by show j < os.length; omega) (fun q hq => hp q ?_)
   have hq : lendOwn os (1000 + j) j = some q := hq
   rw [lendOwn_at] at hq
   rw [hos j hj]
   exact hq
 | own j lo m hj =>
  have hj := lt_of_blt hj
  intro u ru
  cases ru with
  | own _ _ _ _ A m' cap hu hp =>
   refine .own _ _ _ _ A m' cap (by show j < os.length; omega) (fun q hq => hp q ?_)
   have hq : lendOwn os (1000 + j) j = some q := hq
   rw [lendOwn_at] at hq
   rw [hos j hj]
   exact hq
 | @clo f first first' cap cap' hl _ hl' _ ih ih' =>
  intro u ru
  cases ru with
  | clo _ _ _ us vs k1 k2 k3 k4 =>
   refine .clo f first' cap' us vs (k1.trans hl.symm) (k2.trans hl'.symm) (fun i x' u hx hu => ?_) (fun i x' u hx hu => ?_)
   ·have hi : i < first.length := by rw [← hl]; exact (List.getElem?_eq_some_iff.1 hx).1
    exact ih i first[i] x' (List.getElem?_eq_getElem hi) hx (k3 i _ u (List.getElem?_eq_getElem hi) hu)
   ·have hi : i < cap.length := by rw [← hl']; exact (List.getElem?_eq_some_iff.1 hx).1
    exact ih' i cap[i] x' (List.getElem?_eq_getElem hi) hx (k4 i _ u (List.getElem?_eq_getElem hi) hu)
theorem FnL.of_awp {P : Program} {T : Nat → Option TI} {ok : ∀ t ti, T t = some ti → tiOf P t = some ti} {f : FuncId} {fn : Func} {code : Code} {args : List AV} {bs : List LB} {res : AV} {bs' : List (List (List AV))} (hf : P.funcs[f]? = some fn)
  (hn : (fn.name == "runtime.NumGoroutine") = false) (hb : fn.body = some code) (hlen : Nat.ble args.length fn.ntmps = true) (hsz : bs.all (fun p => Nat.blt 0 p.1) = true)
  (h : ∀ (w0 : World) (st0 lent : Nat → Prop) (c0 : RC), awp ⟨P, T, ok, fn.ntmps, w0, st0, lent, (none, false), c0⟩ code ⟨frOf 0 args, hpFrom 0 bs, bs.length⟩ (retLn ⟨P, T, ok, fn.ntmps, w0, st0, lent, (none, false), c0⟩ fn.results res bs bs')) : FnL P f args bs res bs' := by
 refine ⟨fun vs w => ?_, fun w st vs os hst hos hloc hinj hrow hl hr => ?_⟩
 ·have hn' : ¬ fn.name = "runtime.NumGoroutine" := by simpa using hn
  simp [callFunc, hf, hn', hb]
 ·refine (callsIn_wide (n := 0)).1 (callsIn_of_wp_marks hf hb trivial ?_)
  have hle := Nat.le_of_ble_eq_true hlen
  let lent : Nat → Prop := fun β => ∃ (j : Nat) (o : OB), os[j]? = some o ∧ o.loc = some β
  let c0 : RC := RC.lend os st
  have hS : SimE ⟨P, T, ok, fn.ntmps, w, st, lent, (none, false), c0⟩ ⟨frOf 0 args, hpFrom 0 bs, bs.length⟩ { tmps := vs.toArray ++ Array.replicate (fn.ntmps - vs.toArray.size) undef, defers := [] } w := by
   refine ⟨c0, ⟨Nd.nil _ _ _ _, by simp; omega, fun t => ?_, fun b blk hb => ?_, fun b g o ho => ?_, fun b g o b' g' o' β h h' k k' => ?_, fun β hb => ⟨hst β hb, .inl hb⟩, fun β hb => hb, Old.refl _ _, Mono.refl _ _⟩, fun g hg => by show g < bs.length; rw [← hos]; exact hg⟩
   ·simp only
    rw [lk_frOf]
    simp only [Nat.zero_le, if_true, Nat.sub_zero]
    cases hx : args[t]? with
    | none => exact .dead _
    | some x =>
     have ht : t < vs.length := by rw [hl]; exact (List.getElem?_eq_some_iff.1 hx).1
     have : (vs.toArray ++ Array.replicate (fn.ntmps - vs.toArray.size) undef).getD t undef = vs[t] := by
      simp [Array.getD_eq_getD_getElem?, Array.getElem?_append, ht]
     rw [this]
     have := hr t x vs[t] hx (List.getElem?_eq_getElem ht)
     simp only [Option.getD_some]
     exact this
   ·obtain ⟨j, p, h1, h2, h3⟩ := lk_hpFrom bs 0 b blk hb
    subst h2
    subst h3
    rw [Nat.zero_add]
    have hj : j < os.length := by rw [hos]; exact (List.getElem?_eq_some_iff.1 h1).1
    exact ⟨os[j], (lendOwn_at os j).trans (List.getElem?_eq_getElem hj), .inl (hrow j _ p (List.getElem?_eq_getElem hj) h1)⟩
   ·obtain ⟨rfl, h2⟩ := lendOwn_some ho
    have hj : g < bs.length := by rw [← hos]; exact (List.getElem?_eq_some_iff.1 h2).1
    have hlk := lk_hpFrom_at bs 0 g bs[g] (List.getElem?_eq_getElem hj)
    rw [Nat.zero_add] at hlk
    refine ⟨(List.getElem?_eq_some_iff.1 h2).1, ⟨_, hlk, rfl⟩, fun β hβ => ?_⟩
    obtain ⟨k1, k2⟩ := hloc g o β h2 hβ
    exact ⟨k1, k2, .inr ⟨g, o, h2, hβ⟩⟩
   ·obtain ⟨rfl, h2⟩ := lendOwn_some h
    obtain ⟨rfl, h3⟩ := lendOwn_some h'
    have := hinj g g' o o' β h2 h3 k k'
    omega
  refine wpIn_mono (h w st lent c0 _ w hS) (fun e a' w' ⟨s', ⟨c', hS', _⟩, hq⟩ => ?_)
  have fin0 : ∀ (w2 : World) (c2 : RC), Sim ⟨P, T, ok, fn.ntmps, w, st, lent, (none, false), c0⟩ s' c2 { a' with defers := [] } w2 → ∀ vs', ResL ⟨P, T, ok, fn.ntmps, w, st, lent, (none, false), c0⟩ ⟨s'.fr, dropHp bs.length s'.hp, s'.gc⟩ fn.results.toList vs' → res = retAV vs' → LentEnd bs.length s' ⟨s'.fr, dropHp bs.length s'.hp, s'.gc⟩ 0 bs bs' → ∃ v, (results fn a'.tmps).run P w2 = .ok v w2 ∧ ∃ r St, Ending.returned v = .returned r ∧ Old lent w w2 ∧ (∀ β, st β → St β) ∧ (∀ β, St β → st β ∨ (w.heap.size ≤ β ∧ β < w2.heap.size)) ∧
    (∀ β, st β → w2.heap[β]? = w.heap[β]?) ∧
    (∀ (j : Nat) (o : OB) (p : LB) (els : List (List AV)), os[j]? = some o → bs[j]? = some p → bs'[j]? = some els → RowRep (RC.lend os St) w2 ⟨j, p.1, els⟩ o) ∧ Rep (RC.lend os St) w2 res r := by
   intro w' c' hS' vs' hv he hle'
   have hlk : ∀ b, lkH (dropHp bs.length s'.hp) b = lkH s'.hp b ∨ lkH (dropHp bs.length s'.hp) b = none := fun b => by
    unfold dropHp
    rw [lk_hpNone]
    split
    ·exact .inr rfl
    ·exact .inl rfl
   have hSX := hS'.less (dropHp bs.length s'.hp) hlk
   have hown : ∀ j, j < bs.length → c'.own (1000 + j) j = os[j]? := fun j hj => by
    obtain ⟨els', els, h1, h2, h3⟩ := hle'.get j bs[j] (List.getElem?_eq_getElem hj)
    rw [Nat.zero_add] at h2
    obtain ⟨o, k1, _⟩ := hS'.hp _ _ h2
    have k2 := hS'.mo.own (1000 + j) j o (by show j < os.length; omega) k1
    have k3 : lendOwn os (1000 + j) j = some o := k2
    rw [lendOwn_at] at k3
    rw [k1, k3]
   obtain ⟨us, g1, g2, g3⟩ := hv.run hSX
   let cX : RC := ⟨fun b g => if lkH (dropHp bs.length s'.hp) b = none then none else c'.own b g, c'.used, c'.st⟩
   have hgiv : ∀ β, cX.given β → st β ∨ (w.heap.size ≤ β ∧ β < w'.heap.size) := fun β hb => by
    rcases hb with hb | ⟨b, g, o, h1, h2⟩
    ·obtain ⟨k1, k2 | k2 | ⟨j, o, k2, k3⟩⟩ := hS'.st β hb
     ·exact .inl k2
     ·exact .inr ⟨k2, k1⟩
     ·have hj : j < bs.length := by rw [← hos]; exact (List.getElem?_eq_some_iff.1 k2).1
      exact absurd hb ((hS'.al _ _ o ((hown j hj).trans k2)).2.2 β k3).2.1
    ·have h1' := h1
     simp only [cX] at h1'
     split at h1'
     ·cases h1'
     ·rename_i hne
      obtain ⟨k1, k2, k3 | ⟨j, o', k3, k4⟩⟩ := (hS'.al b g o h1').2.2 β h2
      ·exact .inr ⟨k3, k1⟩
      ·have hj : j < bs.length := by rw [← hos]; exact (List.getElem?_eq_some_iff.1 k3).1
       have := (hS'.inj b g o _ _ o' β h1' ((hown j hj).trans k3) h2 k4).1
       refine absurd ?_ hne
       unfold dropHp
       rw [lk_hpNone, if_pos (by omega)]
   refine ⟨retV us, run_results g1, retV us, cX.given, rfl, hS'.old, fun β hb => .inl (hS'.st0 β hb), hgiv, fun β hb => hS'.old.block β (hst β hb) (fun ⟨j, o, k1, k2⟩ => (hloc j o β k1 k2).2 hb), fun j o p els ho hp hels => ?_, ?_⟩
   ·have hj : j < bs.length := (List.getElem?_eq_some_iff.1 hp).1
    obtain ⟨els', els0, h1, h2, h3⟩ := hle'.get j p hp
    rw [Nat.zero_add] at h2
    rw [hels] at h1
    obtain rfl := Option.some.inj h1
    obtain ⟨o', k1, kB⟩ := hS'.hp _ _ h2
    simp only at k1
    rw [hown j hj, ho] at k1
    obtain rfl := Option.some.inj k1
    have hp0 : 0 < p.1 := lt_of_blt (List.all_eq_true.1 hsz p (List.mem_of_getElem? hp))
    obtain ⟨r1, r2, r3⟩ := kB.row (by rw [kB.sz]; exact hp0)
    have hlen : ∀ (i : Nat) (el : List AV), els[i]? = some el → ∃ el0, els0[i]? = some el0 ∧ RlL bs.length ⟨s'.fr, dropHp bs.length s'.hp, s'.gc⟩ el0 el := fun i el hi => by
     have hi' : i < els0.length := by rw [← h3.1]; exact (List.getElem?_eq_some_iff.1 hi).1
     exact ⟨els0[i], List.getElem?_eq_getElem hi', h3.2 i _ el (List.getElem?_eq_getElem hi') hi⟩
    refine ⟨r1, fun el hel => ?_, ?_⟩
    ·obtain ⟨i, hi⟩ := List.getElem?_of_mem hel
     obtain ⟨el0, q1, q2⟩ := hlen i el hi
     rw [q2.1]
     exact r2 el0 (List.mem_of_getElem? q1)
    ·cases hl : o.loc with
     | none =>
      rw [hl] at r3
      simp only at r3 ⊢
      have := h3.1
      rw [r3] at this
      exact List.eq_nil_of_length_eq_zero this
     | some β =>
      rw [hl] at r3
      obtain ⟨cur, e, q1, q2, q3⟩ := r3
      refine ⟨cur, e, q1, q2, fun i el f x hi hx => ?_⟩
      obtain ⟨el0, t1, t2⟩ := hlen i el hi
      have hf : f < el0.length := by rw [← t2.1]; exact (List.getElem?_eq_some_iff.1 hx).1
      obtain ⟨u, u1, u2, u3⟩ := q3 i el0 f el0[f] t1 (List.getElem?_eq_getElem hf)
      exact ⟨u, u1, u2, Rl.rep hS' hlk hos hown (t2.2 f _ x (List.getElem?_eq_getElem hf) hx) u3⟩
   ·subst he
    have one : ∀ (l : List AV) (l' : List Value), l'.length = l.length → (∀ (i : Nat) (x : AV) (u : Value), l[i]? = some x → l'[i]? = some u → Rep (RC.lend os cX.given) w' x u) → Rep (RC.lend os cX.given) w' (retAV l) (retV l') := by
     intro l l' hl' hr'
     match l, l', hl' with
     | [], [], _ => exact .tup [] [] rfl hr'
     | [x], [u], _ => exact hr' 0 x u rfl rfl
     | x :: y :: l, u :: v :: l', h' => exact .tup _ _ h' hr'
    exact one vs' us g2 (fun i x u hx hu => g3 i x u hx hu _ _)
  have fin : (∃ vs', ResL ⟨P, T, ok, fn.ntmps, w, st, lent, (none, false), c0⟩ ⟨s'.fr, dropHp bs.length s'.hp, s'.gc⟩ fn.results.toList vs' ∧ res = retAV vs' ∧ LentEnd bs.length s' ⟨s'.fr, dropHp bs.length s'.hp, s'.gc⟩ 0 bs bs') → LeavesInM Fence.wide 0 P fn a'.tmps (fun e w2 => ∃ r St, e = .returned r ∧ Old lent w w2 ∧ (∀ β, st β → St β) ∧ (∀ β, St β → st β ∨ (w.heap.size ≤ β ∧ β < w2.heap.size)) ∧
    (∀ β, st β → w2.heap[β]? = w.heap[β]?) ∧
    (∀ (j : Nat) (o : OB) (p : LB) (els : List (List AV)), os[j]? = some o → bs[j]? = some p → bs'[j]? = some els → RowRep (RC.lend os St) w2 ⟨j, p.1, els⟩ o) ∧ Rep (RC.lend os St) w2 res r) a'.defers .returning w' := by
   intro ⟨vs', hv, he, hle'⟩
   refine leavesM a'.defers w' hS'.nd (fun w1 k1 k2 k3 k4 k5 => ?_)
   exact fin0 w1 _ (hS'.shut (w1 := w1) (fun β => ({ target := .collected β, args := #[] } : Deferred) ∈ a'.defers) (fun β hβ => by
    obtain ⟨D, g1, g2, g3, g4⟩ := hS'.nd.at_ _ hβ
    obtain rfl : β = D := by cases g1; rfl
    exact ⟨g2, g3, _, g4⟩) k1 k2 k3 k4 k5 (fun β hb => hst β hb) (fun β hb => hst β hb)) vs' hv he hle'
  cases e <;> first
   | exact fin hq
   | exact hq.elim
end Go.Proofs.YtfphgelollhdhaaGreat
namespace Go.Proofs.YtfphgelollhdhaaGreat
open Go Go.RowKit
set_option maxRecDepth 100000
inductive Ln (m : List (Nat × Nat)) : AV → AV → Prop where
 | wk {v v' : AV} (h : Wk v v') (hc : Closed v') : Ln m v v'
 | ptr {b g j : Nat} (i f : Nat) (h : m[j]? = some (b, g)) : Ln m (.ptr b g i f) (.ptr (1000 + j) j i f)
 | own {b g j : Nat} (lo n : Nat) (h : m[j]? = some (b, g)) : Ln m (.own b g lo n) (.own (1000 + j) j lo n)
 | clo {f : Fn} {first first' cap cap' : List AV} (hl : first'.length = first.length) (hr : ∀ (i : Nat) (x x' : AV), first[i]? = some x → first'[i]? = some x' → Ln m x x') (hl' : cap'.length = cap.length) (hr' : ∀ (i : Nat) (x x' : AV), cap[i]? = some x → cap'[i]? = some x' → Ln m x x') : Ln m (.clo f first cap) (.clo f first' cap')
inductive Lb (m : List (Nat × Nat)) : AV → AV → Prop where
 | same (v : AV) (hc : Closed v) : Lb m v v
 | ptr {b g j : Nat} (i f : Nat) (h : m[j]? = some (b, g)) : Lb m (.ptr b g i f) (.ptr (1000 + j) j i f)
 | own {b g j : Nat} (lo n : Nat) (h : m[j]? = some (b, g)) : Lb m (.own b g lo n) (.own (1000 + j) j lo n)
 | clo {f : Fn} {first first' cap cap' : List AV} (hl : first'.length = first.length) (hr : ∀ (i : Nat) (x x' : AV), first[i]? = some x → first'[i]? = some x' → Lb m x x') (hl' : cap'.length = cap.length) (hr' : ∀ (i : Nat) (x x' : AV), cap[i]? = some x → cap'[i]? = some x' → Lb m x x') : Lb m (.clo f first cap) (.clo f first' cap')
def RelL (R : AV → AV → Prop) (es es' : List AV) : Prop := es'.length = es.length ∧ ∀ (i : Nat) (x x' : AV), es[i]? = some x → es'[i]? = some x' → R x x'
theorem RelL.nil (R : AV → AV → Prop) : RelL R [] [] := ⟨rfl, fun i x x' h => by simp at h⟩
theorem RelL.cons {R : AV → AV → Prop} {x x' : AV} {es es' : List AV} (h : R x x') (t : RelL R es es') : RelL R (x :: es) (x' :: es') :=
 ⟨by simp [t.1], fun i y y' hy hy' => by
  cases i with
  | zero =>
   simp only [List.getElem?_cons_zero, Option.some.injEq] at hy hy'
   subst hy
   subst hy'
   exact h
  | succ i => exact t.2 i y y' (by simpa using hy) (by simpa using hy')⟩
theorem Ln.cloL {m : List (Nat × Nat)} {f : Fn} {first first' cap cap' : List AV} (h : RelL (Ln m) first first') (h' : RelL (Ln m) cap cap') : Ln m (.clo f first cap) (.clo f first' cap') := .clo h.1 h.2 h'.1 h'.2
theorem Lb.cloL {m : List (Nat × Nat)} {f : Fn} {first first' cap cap' : List AV} (h : RelL (Lb m) first first') (h' : RelL (Lb m) cap cap') : Lb m (.clo f first cap) (.clo f first' cap') := .clo h.1 h.2 h'.1 h'.2
def RelR (R : AV → AV → Prop) (els els' : List (List AV)) : Prop := els'.length = els.length ∧ ∀ (i : Nat) (el el' : List AV), els[i]? = some el → els'[i]? = some el' → RelL R el el'
theorem RelR.nil (R : AV → AV → Prop) : RelR R [] [] := ⟨rfl, fun i x x' h => by simp at h⟩
theorem RelR.cons {R : AV → AV → Prop} {x x' : List AV} {es es' : List (List AV)} (h : RelL R x x') (t : RelR R es es') : RelR R (x :: es) (x' :: es') :=
 ⟨by simp [t.1], fun i y y' hy hy' => by
  cases i with
  | zero =>
   simp only [List.getElem?_cons_zero, Option.some.injEq] at hy hy'
   subst hy
   subst hy'
   exact h
  | succ i => exact t.2 i y y' (by simpa using hy) (by simpa using hy')⟩
theorem RelR.id {R : AV → AV → Prop} {els : List (List AV)} (h : ∀ el x, el ∈ els → x ∈ el → R x x) : RelR R els els :=
 ⟨rfl, fun i el el' h1 h2 => by
  rw [h1] at h2
  obtain rfl := Option.some.inj h2
  exact ⟨rfl, fun k x x' h3 h4 => by
   rw [h3] at h4
   obtain rfl := Option.some.inj h4
   exact h el x (List.mem_of_getElem? h1) (List.mem_of_getElem? h3)⟩⟩
def LentIn (R : AV → AV → Prop) : List (Nat × Blk) → List LB → Prop
 | [], [] => True
 | p :: ls, q :: bs => (p.2.sz = q.1 ∧ Nat.blt 0 q.1 = true ∧ RelR R p.2.els q.2) ∧ LentIn R ls bs
 | _, _ => False
theorem LentIn.get {R : AV → AV → Prop} : ∀ {ls : List (Nat × Blk)} {bs : List LB}, LentIn R ls bs → bs.length = ls.length ∧ ∀ (j : Nat) (p : Nat × Blk) (q : LB), ls[j]? = some p → bs[j]? = some q → p.2.sz = q.1 ∧ 0 < q.1 ∧ RelR R p.2.els q.2
 | [], [], _ => ⟨rfl, fun j p q h => by simp at h⟩
 | [], _ :: _, h => h.elim
 | _ :: _, [], h => h.elim
 | p :: ls, q :: bs, h => by
  obtain ⟨h1, h2⟩ := LentIn.get h.2
  refine ⟨by simp [h1], fun j p' q' hp hq => ?_⟩
  cases j with
  | zero =>
   simp only [List.getElem?_cons_zero, Option.some.injEq] at hp hq
   subst hp
   subst hq
   exact ⟨h.1.1, lt_of_blt h.1.2.1, h.1.2.2⟩
  | succ j => exact h2 j p' q' (by simpa using hp) (by simpa using hq)
def LentOut (R : AV → AV → Prop) : List (Nat × Blk) → List (Nat × Blk) → List (List (List AV)) → Prop
 | [], [], [] => True
 | p :: ls, p' :: ls', els' :: bs' => (p'.1 = p.1 ∧ p'.2.gen = p.2.gen ∧ p'.2.sz = p.2.sz ∧ RelR R p'.2.els els') ∧ LentOut R ls ls' bs'
 | _, _, _ => False
theorem LentOut.get {R : AV → AV → Prop} : ∀ {ls ls' : List (Nat × Blk)} {bs' : List (List (List AV))}, LentOut R ls ls' bs' → ls'.length = ls.length ∧ bs'.length = ls.length ∧ ∀ (j : Nat) (p p' : Nat × Blk) (e : List (List AV)), ls[j]? = some p → ls'[j]? = some p' → bs'[j]? = some e → p'.1 = p.1 ∧ p'.2.gen = p.2.gen ∧ p'.2.sz = p.2.sz ∧ RelR R p'.2.els e
 | [], [], [], _ => ⟨rfl, rfl, fun j p p' e h => by simp at h⟩
 | [], _ :: _, _, h => h.elim
 | _ :: _, [], _, h => h.elim
 | [], [], _ :: _, h => h.elim
 | _ :: _, _ :: _, [], h => h.elim
 | p :: ls, p' :: ls', e :: bs', h => by
  obtain ⟨h1, h2, h3⟩ := LentOut.get h.2
  refine ⟨by simp [h1], by simp [h2], fun j q q' e' hp hq he => ?_⟩
  cases j with
  | zero =>
   simp only [List.getElem?_cons_zero, Option.some.injEq] at hp hq he
   subst hp
   subst hq
   subst he
   exact h.1
  | succ j => exact h3 j q q' e' (by simpa using hp) (by simpa using hq) (by simpa using he)
def LkAll (hp : List (Nat × Option Blk)) : List (Nat × Blk) → Prop
 | [] => True
 | p :: ls => lkH hp p.1 = some p.2 ∧ LkAll hp ls
theorem LkAll.get {hp : List (Nat × Option Blk)} : ∀ {ls : List (Nat × Blk)}, LkAll hp ls → ∀ p, p ∈ ls → lkH hp p.1 = some p.2
 | [], _, p, h => by cases h
 | q :: ls, h, p, hp => by
  rcases List.mem_cons.1 hp with rfl | hp
  ·exact h.1
  ·exact LkAll.get h.2 p hp
def nodupB : List Nat → Bool
 | [] => true
 | x :: l => (l.all fun y => !Nat.beq x y) && nodupB l
theorem nodupB_spec : ∀ {l : List Nat}, nodupB l = true → ∀ (i j : Nat) (x : Nat), l[i]? = some x → l[j]? = some x → i = j
 | [], _, i, j, x, h, _ => by simp at h
 | y :: l, h, i, j, x, hi, hj => by
  rw [nodupB, Bool.and_eq_true] at h
  have hne : ∀ k z, l[k]? = some z → z ≠ y := fun k z hk e => by
   have := List.all_eq_true.1 h.1 z (List.mem_of_getElem? hk)
   rw [e, Nat.beq_refl] at this
   cases this
  cases i with
  | zero =>
   cases j with
   | zero => rfl
   | succ j =>
    simp only [List.getElem?_cons_zero, List.getElem?_cons_succ, Option.some.injEq] at hi hj
    exact absurd hi.symm (hne j x hj)
  | succ i =>
   cases j with
   | zero =>
    simp only [List.getElem?_cons_zero, List.getElem?_cons_succ, Option.some.injEq] at hi hj
    exact absurd hj.symm (hne i x hi)
   | succ j =>
    simp only [List.getElem?_cons_succ] at hi hj
    rw [nodupB_spec h.2 i j x hi hj]
theorem lk_ups : ∀ (ls : List (Nat × Blk)) (hp : List (Nat × Option Blk)) (b : Nat), (∃ p, p ∈ ls ∧ p.1 = b ∧ lkH (ls.map (fun p => (p.1, some p.2)) ++ hp) b = some p.2) ∨ ((∀ p, p ∈ ls → p.1 ≠ b) ∧ lkH (ls.map (fun p => (p.1, some p.2)) ++ hp) b = lkH hp b)
 | [], hp, b => .inr ⟨fun p h => (by cases h), rfl⟩
 | q :: ls, hp, b => by
  rw [List.map_cons, List.cons_append, lkH_cons]
  by_cases h : b = q.1
  ·exact .inl ⟨q, by simp, h.symm, if_pos h⟩
  ·rw [if_neg h]
   rcases lk_ups ls hp b with ⟨p, h1, h2, h3⟩ | ⟨h1, h2⟩
   ·exact .inl ⟨p, by simp [h1], h2, h3⟩
   ·exact .inr ⟨fun p hp => by
     rcases List.mem_cons.1 hp with rfl | hp
     ·exact fun e => h e.symm
     ·exact h1 p hp, h2⟩
theorem Sim.lent {C : ACtx} {s : AS} {c : RC} {a : Act} {w w' : World} (hS : Sim C s c a w) (ls' : List (Nat × Blk)) (os : List OB) (St : Nat → Prop) (hlen : os.length = ls'.length)
  (hold : ∀ (j : Nat) (p' : Nat × Blk) (o : OB), ls'[j]? = some p' → os[j]? = some o → c.own p'.1 p'.2.gen = some o ∧ (∃ blk, lkH s.hp p'.1 = some blk ∧ blk.gen = p'.2.gen) ∧ RowRep ⟨c.own, c.used, St⟩ w' p'.2 o)
  (hE : Old (fun β => ∃ (j : Nat) (o : OB), os[j]? = some o ∧ o.loc = some β) w w') (hst : ∀ β, c.st β → St β) (hst' : ∀ β, St β → c.st β ∨ (w.heap.size ≤ β ∧ β < w'.heap.size))
  (d : Option Nat) (v : AV) (u : Value) (hd : ∀ e, d = some e → e < C.n) (hv : Rep ⟨c.own, c.used, St⟩ w' v u) : Sim C (s.app d v (ls'.map (fun p => (p.1, some p.2)))) ⟨c.own, c.used, St⟩ (a.put d u) w' := by
 have hget : ∀ p', p' ∈ ls' → ∃ o, (∃ j : Nat, os[j]? = some o) ∧ c.own p'.1 p'.2.gen = some o ∧ (∃ blk, lkH s.hp p'.1 = some blk ∧ blk.gen = p'.2.gen) ∧ RowRep ⟨c.own, c.used, St⟩ w' p'.2 o := fun p' hp' => by
  obtain ⟨j, hj⟩ := List.getElem?_of_mem hp'
  have hj' : j < os.length := by rw [hlen]; exact (List.getElem?_eq_some_iff.1 hj).1
  exact ⟨os[j], ⟨j, List.getElem?_eq_getElem hj'⟩, hold j p' _ hj (List.getElem?_eq_getElem hj')⟩
 have hos : ∀ (j : Nat) (o : OB), os[j]? = some o → ∃ p', p' ∈ ls' ∧ c.own p'.1 p'.2.gen = some o := fun j o ho => by
  have hj' : j < ls'.length := by rw [← hlen]; exact (List.getElem?_eq_some_iff.1 ho).1
  exact ⟨ls'[j], List.getElem_mem hj', (hold j _ o (List.getElem?_eq_getElem hj') ho).1⟩
 have hm : Mono c ⟨c.own, c.used, St⟩ w w' := ⟨fun β hb => ⟨hst β hb, hE.block β (hS.st β hb).1 (fun ⟨j, o, h1, h2⟩ => by
  obtain ⟨p', _, h3⟩ := hos j o h1
  exact ((hS.al _ _ o h3).2.2 β h2).2.1 hb)⟩, fun g hg => hg, fun b g o _ h => h⟩
 refine ⟨(Act.put_nd a d u).symm ▸ hS.nd.step hm.st, (Act.put_size a d u).trans hS.sz, fr_put hS hm d v u hd (fun _ => hv), fun b blk hb => ?_, fun b g o ho => ?_, hS.inj, fun β hb => ?_, fun β hb => hst β (hS.st0 β hb), hS.old.trans' hE.os hE.tape hE.output hE.size (fun k hk hk' => ?_), hS.mo.trans hm⟩
 ·simp only [AS.app] at hb
  rcases lk_ups ls' s.hp b with ⟨p, h1, h2, h3⟩ | ⟨h1, h2⟩
  ·rw [h3] at hb
   obtain rfl := Option.some.inj hb
   obtain ⟨o, _, k1, _, k3⟩ := hget p h1
   subst h2
   exact ⟨o, k1, .inl k3⟩
  ·rw [h2] at hb
   obtain ⟨o, k1, k2⟩ := hS.hp b blk hb
   refine ⟨o, k1, k2.mono hm (fun β hβ => hE.block β ((hS.al b _ o k1).2.2 β hβ).1 (fun ⟨j, o', q1, q2⟩ => ?_))⟩
   obtain ⟨p', q3, q4⟩ := hos j o' q1
   exact h1 p' q3 (hS.inj b _ o _ _ o' β k1 q4 hβ q2).1.symm
 ·obtain ⟨k1, ⟨blk, k2, k3⟩, k4⟩ := hS.al b g o ho
  refine ⟨k1, ?_, fun β hβ => ?_⟩
  ·rcases lk_ups ls' s.hp b with ⟨p, h1, h2, h3⟩ | ⟨h1, h2⟩
   ·obtain ⟨o', _, q1, ⟨blk', q2, q3⟩, _⟩ := hget p h1
    refine ⟨p.2, by simpa [AS.app] using h3, ?_⟩
    rw [h2, k2] at q2
    rw [← q3, ← k3, Option.some.inj q2]
   ·exact ⟨blk, by simpa [AS.app] using h2.trans k2, k3⟩
  ·obtain ⟨q1, q2, q3⟩ := k4 β hβ
   refine ⟨Nat.lt_of_lt_of_le q1 hE.size, fun hs => ?_, q3⟩
   rcases hst' β hs with h | h
   ·exact q2 h
   ·omega
 ·rcases hst' β hb with h | h
  ·exact ⟨Nat.lt_of_lt_of_le (hS.st β h).1 hE.size, (hS.st β h).2⟩
  ·exact ⟨h.2, .inr (.inl (Nat.le_trans hS.old.size h.1))⟩
 ·refine hE.block k (Nat.lt_of_lt_of_le hk hS.old.size) (fun ⟨j, o, h1, h2⟩ => ?_)
  obtain ⟨p', _, h3⟩ := hos j o h1
  rcases ((hS.al _ _ o h3).2.2 k h2).2.2 with h | h
  ·omega
  ·exact hk' h
theorem Ln.rep {m : List (Nat × Nat)} {c : RC} {w : World} {os : List OB} (hos : ∀ (j b g : Nat), m[j]? = some (b, g) → ∃ o, os[j]? = some o ∧ c.own b g = some o) {x x' : AV} (h : Ln m x x') : ∀ {u : Value}, Rep c w x u → Rep (RC.lend os c.st) w x' u := by
 induction h with
 | wk h hc => exact fun r => (h.rep r).closed hc _ (fun β hb => ⟨hb, rfl⟩)
 | @ptr b g j i f h =>
  intro u r
  obtain ⟨o, h1, h2⟩ := hos j b g h
  cases r with
  | ptr _ _ _ _ β o' hu hp =>
   refine .ptr _ _ _ _ β o' ((List.getElem?_eq_some_iff.1 h1).1) (fun q hq => hp q ?_)
   have hq : lendOwn os (1000 + j) j = some q := hq
   rw [lendOwn_at, h1] at hq
   rw [h2, hq]
 | @own b g j lo n h =>
  intro u r
  obtain ⟨o, h1, h2⟩ := hos j b g h
  cases r with
  | own _ _ _ _ A m' cap hu hp =>
   refine .own _ _ _ _ A m' cap ((List.getElem?_eq_some_iff.1 h1).1) (fun q hq => hp q ?_)
   have hq : lendOwn os (1000 + j) j = some q := hq
   rw [lendOwn_at, h1] at hq
   rw [h2, hq]
 | @clo f first first' cap cap' hl _ hl' _ ih ih' =>
  intro u ru
  cases ru with
  | clo _ _ _ us vs k1 k2 k3 k4 =>
   refine .clo f first' cap' us vs (k1.trans hl.symm) (k2.trans hl'.symm) (fun i x' u hx hu => ?_) (fun i x' u hx hu => ?_)
   ·have hi : i < first.length := by rw [← hl]; exact (List.getElem?_eq_some_iff.1 hx).1
    exact ih i first[i] x' (List.getElem?_eq_getElem hi) hx (k3 i _ u (List.getElem?_eq_getElem hi) hu)
   ·have hi : i < cap.length := by rw [← hl']; exact (List.getElem?_eq_some_iff.1 hx).1
    exact ih' i cap[i] x' (List.getElem?_eq_getElem hi) hx (k4 i _ u (List.getElem?_eq_getElem hi) hu)
theorem Lb.rep {m : List (Nat × Nat)} {own : Nat → Nat → Option OB} {used : Nat → Prop} {St : Nat → Prop} {w : World} {os : List OB} (hos : ∀ (j b g : Nat), m[j]? = some (b, g) → ∃ o, os[j]? = some o ∧ own b g = some o ∧ used g) {x x' : AV} (h : Lb m x x') : ∀ {u : Value}, Rep (RC.lend os St) w x' u → Rep ⟨own, used, St⟩ w x u := by
 induction h with
 | same v hc => exact fun r => r.closed hc _ (fun β hb => ⟨hb, rfl⟩)
 | @ptr b g j i f h =>
  intro u r
  obtain ⟨o, h1, h2, h3⟩ := hos j b g h
  cases r with
  | ptr _ _ _ _ β o' hu hp =>
   refine .ptr _ _ _ _ β o' h3 (fun q hq => hp q ?_)
   have hq : own b g = some q := hq
   show lendOwn os (1000 + j) j = some q
   rw [lendOwn_at, h1, ← h2, hq]
 | @own b g j lo n h =>
  intro u r
  obtain ⟨o, h1, h2, h3⟩ := hos j b g h
  cases r with
  | own _ _ _ _ A m' cap hu hp =>
   refine .own _ _ _ _ A m' cap h3 (fun q hq => hp q ?_)
   have hq : own b g = some q := hq
   show lendOwn os (1000 + j) j = some q
   rw [lendOwn_at, h1, ← h2, hq]
 | @clo f first first' cap cap' hl _ hl' _ ih ih' =>
  intro u ru
  cases ru with
  | clo _ _ _ us vs k1 k2 k3 k4 =>
   refine .clo f first cap us vs (k1.trans hl) (k2.trans hl') (fun i x u hx hu => ?_) (fun i x u hx hu => ?_)
   ·have hi : i < first'.length := by rw [hl]; exact (List.getElem?_eq_some_iff.1 hx).1
    exact ih i x first'[i] hx (List.getElem?_eq_getElem hi) (k3 i _ u (List.getElem?_eq_getElem hi) hu)
   ·have hi : i < cap'.length := by rw [hl']; exact (List.getElem?_eq_some_iff.1 hx).1
    exact ih' i x cap'[i] hx (List.getElem?_eq_getElem hi) (k4 i _ u (List.getElem?_eq_getElem hi) hu)
def FunA (x : AV) (f : FuncId) (first cap : List AV) : Prop := (x = .val (.func (.func f) #[] #[]) ∧ first = [] ∧ cap = []) ∨ x = .clo (.func f) first cap
section
variable {C : ACtx} {ops : Array Oper} {K : AS → List (List Nat × List Nat) → Prop} {k : Nat} {rest : List Oper} {fr : List (Nat × AV)} {hp : List (Nat × Option Blk)} {gc : Nat} {fps : List (List Nat × List Nat)}
 {d : Nat} {ty : TypeId} {pos : String} {after : Array Edge} {gd : Option (Nat × Bool)} {v : AV}
theorem ARun.callL {dst : Option Nat} {fx : Operand} {args : Array Operand} {ats : Array TypeId} {f : FuncId} {first cap cavs : List AV} {bs : List LB} {res : AV} {bs' : List (List (List AV))} (ls ls' : List (Nat × Blk)) (hF : FnL C.P f cavs bs res bs') (hf : FunA (evA fr fx) f first cap)
  (ha : RelL (Ln (ls.map fun p => (p.1, p.2.gen))) (first ++ args.toList.map (evA fr) ++ cap) cavs) (hlk : LkAll hp ls) (hnd : nodupB (ls.map (·.1)) = true) (hin : LentIn (Ln (ls.map fun p => (p.1, p.2.gen))) ls bs) (hout : LentOut (Lb (ls.map fun p => (p.1, p.2.gen))) ls ls' bs') (hres : Lb (ls.map fun p => (p.1, p.2.gen)) v res)
  (hd : (match dst with | some d => Nat.blt d C.n | none => true) = true) (hg : guardIs ops ⟨fr, hp, gc⟩ ⟨dst, .call ⟨.value fx, args, ats⟩, ty, pos, after, gd⟩ true)
  (nx : ARun C ops K (k + 1) rest ⟨putFr fr dst v, ls'.map (fun p => (p.1, some p.2)) ++ hp, gc⟩ (fps ++ [(ls.map (·.1), ls'.map (·.1))])) : ARun C ops K k (⟨dst, .call ⟨.value fx, args, ats⟩, ty, pos, after, gd⟩ :: rest) ⟨fr, hp, gc⟩ fps := by
 have e : (ls'.map (fun p => (p.1, some p.2))).map (·.1) = ls'.map (·.1) := by rw [List.map_map]; rfl
 refine ARun.step v ls (ls'.map (fun p => (p.1, some p.2))) hg (fun p hp => LkAll.get hlk p hp) ?_ (by rw [e]; exact nx)
 intro s c a w hS _ hargs hrd
 have hdst : ∀ e, dst = some e → e < C.n := by
  intro e he
  subst he
  exact lt_of_blt hd
 have hev : ∀ z ∈ #[fx] ++ args, Rep c w (evA fr z) (a.eval z) := by
  intro z hz
  have hz' : z ∈ (Op.call ⟨.value fx, args, ats⟩).operands.toList := by simpa [Op.operands, Call.operands] using hz
  rw [← args_ev hargs z hz']
  exact hS.ev z
 have h1 := hev fx (by simp)
 obtain ⟨F1, F2⟩ := hF
 -- the function, and what it is called with
 obtain ⟨us, vs, hux, hl, hl', hr, hr'⟩ : ∃ us vs : List Value, a.eval fx = .func (.func f) us.toArray vs.toArray ∧ us.length = first.length ∧ vs.length = cap.length ∧ (∀ (i : Nat) (x : AV) (u : Value), first[i]? = some x → us[i]? = some u → Rep c w x u) ∧ (∀ (i : Nat) (x : AV) (u : Value), cap[i]? = some x → vs[i]? = some u → Rep c w x u) := by
  generalize hfx : evA fr fx = F at hf h1
  generalize hux : a.eval fx = ux at h1
  rcases hf with ⟨rfl, rfl, rfl⟩ | rfl
  ·exact ⟨[], [], h1.val_inv, rfl, rfl, fun i x u h => (by simp at h), fun i x u h => (by simp at h)⟩
  ·cases h1 with
   | clo _ _ _ us vs k1 k2 k3 k4 => exact ⟨us, vs, rfl, k1, k2, k3, k4⟩
 have hmr := map_rep (c := c) (w := w) (a := a) (fr := fr) args.toList (fun z hz => hev z (Array.mem_append.2 (.inr (Array.mem_toList_iff.1 hz))))
 have hall := rep_append (l := first ++ args.toList.map (evA fr)) (l' := cap) (us := us ++ args.toList.map a.eval) (us' := vs) (by simp [hl]) (rep_append hl hr hmr) hr'
 have hlall : (us ++ args.toList.map a.eval ++ vs).length = (first ++ args.toList.map (evA fr) ++ cap).length := by simp [hl, hl']
 -- the blocks
 obtain ⟨hin1, hin2⟩ := hin.get
 obtain ⟨ho1, ho2, ho3⟩ := hout.get
 have hob : ∀ p, p ∈ ls → ∃ o, c.own p.1 p.2.gen = some o ∧ BlkRep c w p.2 o := fun p hp => hS.hp p.1 p.2 (hrd p hp)
 obtain ⟨os, hosl, hosg⟩ := pick_list (fun (j : Nat) (p : Nat × Blk) (o : OB) => c.own p.1 p.2.gen = some o ∧ BlkRep c w p.2 o) ls 0 (fun j p hp => hob p (List.mem_of_getElem? hp))
 have hos : ∀ (j : Nat) (p : Nat × Blk) (o : OB), ls[j]? = some p → os[j]? = some o → c.own p.1 p.2.gen = some o ∧ BlkRep c w p.2 o := fun j p o hp ho => hosg j p o hp ho
 have hosm : ∀ (j b g : Nat), (ls.map fun p => (p.1, p.2.gen))[j]? = some (b, g) → ∃ o, os[j]? = some o ∧ c.own b g = some o := fun j b g h => by
  rw [List.getElem?_map] at h
  cases hp : ls[j]? with
  | none => rw [hp] at h; cases h
  | some p =>
   rw [hp] at h
   simp only [Option.map_some, Option.some.injEq, Prod.mk.injEq] at h
   obtain ⟨rfl, rfl⟩ := h
   have hj : j < os.length := by rw [hosl]; exact (List.getElem?_eq_some_iff.1 hp).1
   exact ⟨os[j], List.getElem?_eq_getElem hj, (hos j p _ hp (List.getElem?_eq_getElem hj)).1⟩
 have hosp : ∀ (j : Nat) (o : OB), os[j]? = some o → ∃ p, ls[j]? = some p ∧ c.own p.1 p.2.gen = some o ∧ BlkRep c w p.2 o := fun j o ho => by
  have hj : j < ls.length := by rw [← hosl]; exact (List.getElem?_eq_some_iff.1 ho).1
  exact ⟨ls[j], List.getElem?_eq_getElem hj, hos j _ o (List.getElem?_eq_getElem hj) ho⟩
 have hC := F2 w c.st (us ++ args.toList.map a.eval ++ vs) os (fun β hb => (hS.st β hb).1) (by rw [hosl, hin1])
  (fun j o β ho hβ => by
   obtain ⟨p, _, k1, _⟩ := hosp j o ho
   have := (hS.al _ _ o k1).2.2 β hβ
   exact ⟨this.1, this.2.1⟩)
  (fun i j o o' β ho ho' hβ hβ' => by
   obtain ⟨p, q1, k1, _⟩ := hosp i o ho
   obtain ⟨p', q1', k1', _⟩ := hosp j o' ho'
   have e := (hS.inj _ _ o _ _ o' β k1 k1' hβ hβ').1
   exact nodupB_spec hnd i j p.1 (by rw [List.getElem?_map, q1]; rfl) (by rw [List.getElem?_map, q1', e]; rfl))
  (fun j o q ho hq => by
   obtain ⟨p, q1, k1, k2⟩ := hosp j o ho
   obtain ⟨z1, z2, z3⟩ := hin2 j p q q1 hq
   obtain ⟨r1, r2, r3⟩ := k2.row (by rw [k2.sz, z1]; exact z2)
   have hget : ∀ (i : Nat) (el : List AV), q.2[i]? = some el → ∃ el0, p.2.els[i]? = some el0 ∧ RelL (Ln (ls.map fun p => (p.1, p.2.gen))) el0 el := fun i el hi => by
    have hi' : i < p.2.els.length := by rw [← z3.1]; exact (List.getElem?_eq_some_iff.1 hi).1
    exact ⟨p.2.els[i], List.getElem?_eq_getElem hi', z3.2 i _ el (List.getElem?_eq_getElem hi') hi⟩
   refine ⟨r1.trans z1, fun el hel => ?_, ?_⟩
   ·obtain ⟨i, hi⟩ := List.getElem?_of_mem hel
    obtain ⟨el0, q1, q2⟩ := hget i el hi
    rw [q2.1, r2 el0 (List.mem_of_getElem? q1), z1]
   ·cases hl : o.loc with
    | none =>
     rw [hl] at r3
     simp only at r3 ⊢
     have := z3.1
     rw [r3] at this
     exact List.eq_nil_of_length_eq_zero this
    | some β =>
     rw [hl] at r3
     obtain ⟨cur, e, y1, y2, y3⟩ := r3
     refine ⟨cur, e, y1, y2, fun i el f x hi hx => ?_⟩
     obtain ⟨el0, t1, t2⟩ := hget i el hi
     have hf : f < el0.length := by rw [← t2.1]; exact (List.getElem?_eq_some_iff.1 hx).1
     obtain ⟨u, u1, u2, u3⟩ := y3 i el0 f el0[f] t1 (List.getElem?_eq_getElem hf)
     exact ⟨u, by rw [← z1]; exact u1, u2, Ln.rep hosm (t2.2 f _ x (List.getElem?_eq_getElem hf) hx) u3⟩)
  (hlall.trans ha.1.symm) (fun i x u hx hu => by
   have hi : i < (first ++ args.toList.map (evA fr) ++ cap).length := by rw [← ha.1]; exact (List.getElem?_eq_some_iff.1 hx).1
   exact Ln.rep hosm (ha.2 i _ x (List.getElem?_eq_getElem hi) hx) (hall i _ u (List.getElem?_eq_getElem hi) hu))
 have hrun : (execOp a.eval ⟨dst, .call ⟨.value fx, args, ats⟩, ty, pos, after, gd⟩).run C.P w = .ok (.enter f (us ++ args.toList.map a.eval ++ vs).toArray) w := by
  have e : us.toArray ++ args.map a.eval ++ vs.toArray = (us ++ args.toList.map a.eval ++ vs).toArray := by
   apply Array.ext'
   simp
  rw [← e]
  simp [execOp, resolve, hux, Deferred.ofValue, invoke, F1]
 unfold Oper.wp
 rw [hrun, Oper.upon_enter]
 refine hC.mono (fun e w' ⟨r, St, he, hE, hs1, hs2, hs3, hrow, hrr⟩ => ?_)
 subst he
 have hosb : ∀ (j b g : Nat), (ls.map fun p => (p.1, p.2.gen))[j]? = some (b, g) → ∃ o, os[j]? = some o ∧ c.own b g = some o ∧ c.used g := fun j b g h => by
  obtain ⟨o, k1, k2⟩ := hosm j b g h
  exact ⟨o, k1, k2, (hS.al b g o k2).1⟩
 refine ⟨_, hS.lent ls' os St (by rw [hosl, ho1]) (fun j p' o hp' ho => ?_) hE hs1 hs2 dst v r hdst (Lb.rep hosb hres hrr), fun g hg => .inl hg⟩
 obtain ⟨p, q1, k1, k2⟩ := hosp j o ho
 have hjb : j < bs'.length := by rw [ho2]; exact (List.getElem?_eq_some_iff.1 q1).1
 have hjs : j < bs.length := by rw [hin1]; exact (List.getElem?_eq_some_iff.1 q1).1
 obtain ⟨z1, z2, z3, z4⟩ := ho3 j p p' _ q1 hp' (List.getElem?_eq_getElem hjb)
 obtain ⟨y1, y2, _⟩ := hin2 j p _ q1 (List.getElem?_eq_getElem hjs)
 refine ⟨by rw [z1, z2]; exact k1, ⟨p.2, by rw [z1]; exact hrd p (List.mem_of_getElem? q1), z2.symm⟩, ?_⟩
 obtain ⟨r1, r2, r3⟩ := hrow j o _ _ ho (List.getElem?_eq_getElem hjs) (List.getElem?_eq_getElem hjb)
 simp only at r1 r2 r3
 have hget : ∀ (i : Nat) (el : List AV), p'.2.els[i]? = some el → ∃ el0, bs'[j][i]? = some el0 ∧ RelL (Lb (ls.map fun p => (p.1, p.2.gen))) el el0 := fun i el hi => by
  have hi' : i < bs'[j].length := by rw [z4.1]; exact (List.getElem?_eq_some_iff.1 hi).1
  exact ⟨bs'[j][i], List.getElem?_eq_getElem hi', z4.2 i el _ hi (List.getElem?_eq_getElem hi')⟩
 have hsz : bs[j].1 = p'.2.sz := by rw [z3, y1]
 refine ⟨r1.trans hsz, fun el hel => ?_, ?_⟩
 ·obtain ⟨i, hi⟩ := List.getElem?_of_mem hel
  obtain ⟨el0, q1, q2⟩ := hget i el hi
  rw [← q2.1, r2 el0 (List.mem_of_getElem? q1), hsz]
 ·cases hl : o.loc with
  | none =>
   rw [hl] at r3
   simp only at r3 ⊢
   have := z4.1
   rw [r3] at this
   exact List.eq_nil_of_length_eq_zero this.symm
  | some β =>
   rw [hl] at r3
   obtain ⟨cur, e, y1, y2, y3⟩ := r3
   refine ⟨cur, e, y1, y2, fun i el f x hi hx => ?_⟩
   obtain ⟨el0, t1, t2⟩ := hget i el hi
   have hf : f < el0.length := by rw [t2.1]; exact (List.getElem?_eq_some_iff.1 hx).1
   obtain ⟨u, u1, u2, u3⟩ := y3 i el0 f el0[f] t1 (List.getElem?_eq_getElem hf)
   exact ⟨u, by rw [← hsz]; exact u1, u2, Lb.rep hosb (t2.2 f x _ hx (List.getElem?_eq_getElem hf)) u3⟩
end
end Go.Proofs.YtfphgelollhdhaaGreat
namespace Go.Proofs.YtfphgelollhdhaaGreat
open Go Go.RowKit
set_option maxRecDepth 100000
section
variable {C : ACtx} {ops : Array Oper} {K : AS → List (List Nat × List Nat) → Prop} {k : Nat} {rest : List Oper} {fr : List (Nat × AV)} {hp : List (Nat × Option Blk)} {gc : Nat} {fps : List (List Nat × List Nat)}
 {d : Nat} {ty : TypeId} {pos : String} {after : Array Edge} {gd : Option (Nat × Bool)} {x y z : Operand} {v : AV}
theorem ARun.nilCheckP {b g i f : Nat} (hx : evA fr x = .ptr b g i f) (hd : Nat.blt d C.n = true) (hg : guardIs ops ⟨fr, hp, gc⟩ ⟨some d, .nilCheck x, ty, pos, after, gd⟩ true)
  (nx : ARun C ops K (k + 1) rest ⟨(d, .ptr b g i f) :: fr, hp, gc⟩ (fps ++ [([], [])])) : ARun C ops K k (⟨some d, .nilCheck x, ty, pos, after, gd⟩ :: rest) ⟨fr, hp, gc⟩ fps :=
 ARun.quiet hd hg [] (by simp) (fun s c a w hS hev _ => by
  have h1 := hev x (by simp [Op.operands])
  rw [hx] at h1
  generalize hu : a.eval x = u at h1
  cases h1 with
  | ptr _ _ _ _ β o hu' hp' => exact ⟨_, by simp [execOp, hu], .ptr b g i f β o hu' hp'⟩) nx
end
section
variable {P : Program} {T : Nat → Option TI} {ok : ∀ t ti, T t = some ti → tiOf P t = some ti} {nn : Nat} {w0 : World} {st0 lent : Nat → Prop} {rdd : Option Nat × Bool} {c00 : RC} {ops : Array Oper} {K : AS → List (List Nat × List Nat) → Prop} {k : Nat} {rest : List Oper} {fr : List (Nat × AV)} {hp : List (Nat × Option Blk)} {gc : Nat} {fps : List (List Nat × List Nat)}
 {d : Nat} {ty : TypeId} {pos : String} {after : Array Edge} {gd : Option (Nat × Bool)} {v : AV}
theorem callLX {dst : Option Nat} {fx : Operand} {args : Array Operand} {ats : Array TypeId} {f : FuncId} {first cap cavs : List AV} {bs : List LB} {res : AV} {bs' : List (List (List AV))} (ls ls' : List (Nat × Blk)) (hF : FnL P f cavs bs res bs') (hf : FunA (evA fr fx) f first cap) (hlk : LkAll hp ls)
  (ha : RelL (Ln (ls.map fun p => (p.1, p.2.gen))) (first ++ args.toList.map (evA fr) ++ cap) cavs) (hin : LentIn (Ln (ls.map fun p => (p.1, p.2.gen))) ls bs) (hout : LentOut (Lb (ls.map fun p => (p.1, p.2.gen))) ls ls' bs') (hres : Lb (ls.map fun p => (p.1, p.2.gen)) v res)
  (hnd : nodupB (ls.map (·.1)) = true) (hd : (match dst with | some d => Nat.blt d nn | none => true) = true) (hg : guardF ops fr ⟨dst, .call ⟨.value fx, args, ats⟩, ty, pos, after, gd⟩ = some true)
  (nx : ARun ⟨P, T, ok, nn, w0, st0, lent, rdd, c00⟩ ops K (k + 1) rest ⟨putFr fr dst v, ls'.map (fun p => (p.1, some p.2)) ++ hp, gc⟩ (fps ++ [(ls.map (·.1), ls'.map (·.1))])) : ARun ⟨P, T, ok, nn, w0, st0, lent, rdd, c00⟩ ops K k (⟨dst, .call ⟨.value fx, args, ats⟩, ty, pos, after, gd⟩ :: rest) ⟨fr, hp, gc⟩ fps :=
 ARun.callL ls ls' hF hf ha hlk hnd hin hout hres hd (guardF_spec hg) nx
end
end Go.Proofs.YtfphgelollhdhaaGreat
namespace Go.Proofs.YtfphgelollhdhaaGreat
open Go Go.RowKit
set_option maxRecDepth 100000
section
variable {C : ACtx} {ops : Array Oper} {K : AS → List (List Nat × List Nat) → Prop} {k : Nat} {rest : List Oper} {fr : List (Nat × AV)} {hp : List (Nat × Option Blk)} {gc : Nat} {fps : List (List Nat × List Nat)}
 {d : Nat} {ty : TypeId} {pos : String} {after : Array Edge} {gd : Option (Nat × Bool)} {x y z : Operand} {v : AV}
theorem ARun.storeAt {t : Nat} {ti : TI} {b g i f : Nat} {gen sz : Nat} {els els' : List (List AV)} {el el' cs : List AV} (hx : evA fr x = .ptr b g i f) (hb : lkH hp b = some ⟨gen, sz, els⟩) (hgg : gen = g) (he : els[i]? = some el)
  (ht : C.T t = some ti) (hc : cellsA (evA fr y) = some cs) (hl : cs.length = ti.size) (h0 : Nat.blt 0 ti.size = true) (hs : setF el f cs = some el') (hu : els.set i el' = els')
  (hg : guardIs ops ⟨fr, hp, gc⟩ ⟨none, .store t x y, ty, pos, after, gd⟩ true)
  (nx : ARun C ops K (k + 1) rest ⟨fr, (b, some ⟨gen, sz, els'⟩) :: hp, gc⟩ (fps ++ [([b], [b])])) : ARun C ops K k (⟨none, .store t x y, ty, pos, after, gd⟩ :: rest) ⟨fr, hp, gc⟩ fps := by
 subst hu
 exact ARun.store hx hb hgg he ht hc hl h0 (setF_spec hs) hg nx
end
end Go.Proofs.YtfphgelollhdhaaGreat
namespace Go.Proofs.YtfphgelollhdhaaGreat
open Go Go.RowKit
set_option maxRecDepth 100000
section
variable {C : ACtx} {ops : Array Oper} {K : AS → List (List Nat × List Nat) → Prop} {k : Nat} {rest : List Oper} {fr : List (Nat × AV)} {hp : List (Nat × Option Blk)} {gc : Nat} {fps : List (List Nat × List Nat)}
 {d : Nat} {ty : TypeId} {pos : String} {after : Array Edge} {gd : Option (Nat × Bool)} {x y z : Operand} {v : AV}
end
end Go.Proofs.YtfphgelollhdhaaGreat
namespace Go.Proofs.YtfphgelollhdhaaGreat
open Go Go.RowKit
set_option maxRecDepth 100000
theorem awp_cut {C : ACtx} {s : AS} {Q Q2 : Exit → AS → Prop} {c c2 : Code} {T : Type} (S : T → AS) (I : T → Prop) (h1 : awp C c s (thenA (fun s' => ∃ t, (FrLe s'.fr (S t).fr ∧ HpLe s'.hp (S t).hp ∧ s'.gc ≤ (S t).gc) ∧ I t) Q2))
    (h2 : ∀ t, I t → awp C c2 (S t) Q) : awp C c s (thenA (fun s' => awp C c2 s' Q) Q2) :=
  awp_mono h1 (fun e s' h => by
    cases e <;> first
      | exact h
      | (obtain ⟨t, ⟨k1, k2, k3⟩, hI⟩ := h
         exact awp_weaken (fun a w hs => hs.le k1 k2 k3) (h2 t hI)))
end Go.Proofs.YtfphgelollhdhaaGreat
namespace Go.Proofs.YtfphgelollhdhaaGreat
open Go Go.RowKit
set_option maxRecDepth 100000
theorem SimE.wkH {C : ACtx} {s : AS} {a : Act} {w : World} (h : SimE C s a w) {b gen sz : Nat} {els els' : List (List AV)} (hb : lkH s.hp b = some ⟨gen, sz, els⟩) (h0 : Nat.blt 0 sz = true) (hw : RelR Wk els els') : SimE C ⟨s.fr, (b, some ⟨gen, sz, els'⟩) :: s.hp, s.gc⟩ a w := by
 obtain ⟨c, hS, hu⟩ := h
 refine ⟨c, ⟨hS.nd, hS.sz, hS.fr, fun b' blk hb' => ?_, fun b' g o ho => ?_, hS.inj, hS.st, hS.st0, hS.old, hS.mo⟩, hu⟩
 ·simp only at hb'
  rw [lkH_cons] at hb'
  split at hb'
  ·rename_i e
   subst e
   obtain rfl := Option.some.inj hb'
   obtain ⟨o, q1, q2⟩ := hS.hp b' _ hb
   obtain ⟨r1, r2, r3⟩ := q2.row (by rw [q2.sz]; exact lt_of_blt h0)
   have hget : ∀ (i : Nat) (el : List AV), els'[i]? = some el → ∃ el0, els[i]? = some el0 ∧ RelL Wk el0 el := fun i el hi => by
    have hi' : i < els.length := by rw [← hw.1]; exact (List.getElem?_eq_some_iff.1 hi).1
    exact ⟨els[i], List.getElem?_eq_getElem hi', hw.2 i _ el (List.getElem?_eq_getElem hi') hi⟩
   refine ⟨o, q1, .inl ⟨r1, fun el hel => ?_, ?_⟩⟩
   ·obtain ⟨i, hi⟩ := List.getElem?_of_mem hel
    obtain ⟨el0, k1, k2⟩ := hget i el hi
    rw [k2.1]
    exact r2 el0 (List.mem_of_getElem? k1)
   ·cases hl : o.loc with
    | none =>
     rw [hl] at r3
     simp only at r3 ⊢
     have := hw.1
     rw [r3] at this
     exact List.eq_nil_of_length_eq_zero this
    | some β =>
     rw [hl] at r3
     obtain ⟨cur, e, y1, y2, y3⟩ := r3
     refine ⟨cur, e, y1, y2, fun i el f x hi hx => ?_⟩
     obtain ⟨el0, t1, t2⟩ := hget i el hi
     have hf : f < el0.length := by rw [← t2.1]; exact (List.getElem?_eq_some_iff.1 hx).1
     obtain ⟨u, u1, u2, u3⟩ := y3 i el0 f el0[f] t1 (List.getElem?_eq_getElem hf)
     exact ⟨u, u1, u2, (t2.2 f _ x (List.getElem?_eq_getElem hf) hx).rep u3⟩
  ·exact hS.hp b' blk hb'
 ·obtain ⟨k1, ⟨blk, k2, k3⟩, k4⟩ := hS.al b' g o ho
  refine ⟨k1, ?_, k4⟩
  simp only
  by_cases e : b' = b
  ·subst e
   rw [hb] at k2
   obtain rfl := Option.some.inj k2
   exact ⟨⟨gen, sz, els'⟩, by rw [lkH_cons, if_pos rfl], k3⟩
  ·exact ⟨blk, by rw [lkH_cons, if_neg e]; exact k2, k3⟩
theorem awp_wkH {C : ACtx} {fr : List (Nat × AV)} {hp : List (Nat × Option Blk)} {gc : Nat} {Q : Exit → AS → Prop} {c : Code} (b : Nat) {gen sz : Nat} {els : List (List AV)} (els' : List (List AV)) (hb : lkH hp b = some ⟨gen, sz, els⟩) (h0 : Nat.blt 0 sz = true) (hw : RelR Wk els els')
  (h : awp C c ⟨fr, (b, some ⟨gen, sz, els'⟩) :: hp, gc⟩ Q) : awp C c ⟨fr, hp, gc⟩ Q :=
 awp_weaken (fun a w hs => hs.wkH (s := ⟨fr, hp, gc⟩) hb h0 hw) h
end Go.Proofs.YtfphgelollhdhaaGreat
namespace Go.Proofs.YtfphgelollhdhaaGreat
open Go Go.RowKit Go.Lib
set_option maxRecDepth 100000
section
variable {C : ACtx} {ops : Array Oper} {K : AS → List (List Nat × List Nat) → Prop} {k : Nat} {rest : List Oper} {fr : List (Nat × AV)} {hp : List (Nat × Option Blk)} {gc : Nat} {fps : List (List Nat × List Nat)}
 {d : Nat} {ty : TypeId} {pos : String} {after : Array Edge} {gd : Option (Nat × Bool)} {x y z : Operand} {v : AV}
end
end Go.Proofs.YtfphgelollhdhaaGreat
namespace Go.Proofs.YtfphgelollhdhaaGreat
open Go Go.RowKit
set_option maxRecDepth 100000
theorem bin_cat {P : Program} {t : TypeId} {a b : ByteArray} (h : a.size + b.size ≤ 1000000000) : BinR P .add t (.string a) (.string b) (.string (a ++ b)) :=
 bin_guard (fun _ h => by cases h) (fun h => by cases h) (fun w => by
  have h1 : ((a.size : Int) + (b.size : Int)) ≤ 9223372036854775807 := by omega
  have h2 : ¬ (9223372036854775807 < ((a.size : Int) + (b.size : Int))) := by omega
  have h3 : ¬ (9223372036854775807 < a.size + b.size) := by omega
  simp [binOp, Op.stringOp, h1, h2, h3])
end Go.Proofs.YtfphgelollhdhaaGreat
namespace Go.Proofs.YtfphgelollhdhaaGreat
open Go Go.RowKit
set_option maxRecDepth 100000
end Go.Proofs.YtfphgelollhdhaaGreat
namespace Go.Proofs.YtfphgelollhdhaaGreat
open Go Go.RowKit
set_option maxRecDepth 100000
def FnN (P : Program) (f : FuncId) (args : List AV) (el : List AV) : Prop :=
 (∀ (vs : Array Value) (w : World), (callFunc f vs).run P w = .ok (.enter f vs) w) ∧
 ∀ (w : World) (st : Nat → Prop) (vs : List Value), (∀ β, st β → β < w.heap.size) → vs.length = args.length → (∀ (i : Nat) (x : AV) (u : Value), args[i]? = some x → vs[i]? = some u → Rep (RC.pure st) w x u) →
  Calls P f vs.toArray w (fun e w' => ∃ β St cur ty, e = .returned (.pointer (some ⟨β, 0, none⟩)) ∧ Below w.heap.size w w' ∧ (∀ β, st β → St β) ∧ (∀ β, St β → st β ∨ (w.heap.size ≤ β ∧ β < w'.heap.size)) ∧
   w.heap.size ≤ β ∧ β < w'.heap.size ∧ ¬ St β ∧ RowAt w' β cur ty ∧ ∀ (j : Nat) (x : AV), el[j]? = some x → ∃ u, cur[j]? = some u ∧ u.oneCell' = true ∧ ∀ own used, Rep ⟨own, used, St⟩ w' x u)
def retN (C : ACtx) (rs : Array ResultVar) (el : List AV) : Exit → AS → Prop
 | .normal, s => ∃ t b g sz, rs.toList = [.tmp t] ∧ lkA s.fr t = .ptr b g 0 0 ∧ lkH s.hp b = some ⟨g, sz, [el]⟩
 | .ret, s => ∃ t b g sz, rs.toList = [.tmp t] ∧ lkA s.fr t = .ptr b g 0 0 ∧ lkH s.hp b = some ⟨g, sz, [el]⟩
 | _, _ => False
theorem FnN.of_awp {P : Program} {T : Nat → Option TI} {ok : ∀ t ti, T t = some ti → tiOf P t = some ti} {f : FuncId} {fn : Func} {code : Code} {args : List AV} {el : List AV} (hf : P.funcs[f]? = some fn)
  (hn : (fn.name == "runtime.NumGoroutine") = false) (hb : fn.body = some code) (hlen : Nat.ble args.length fn.ntmps = true) (hcl : ∀ x, x ∈ args → Closed x) (hel : ∀ x, x ∈ el → Closed x)
  (h : ∀ (w0 : World) (st0 : Nat → Prop), awp ⟨P, T, ok, fn.ntmps, w0, st0, fun _ => False, (none, false), RC.bare st0⟩ code ⟨frOf 0 args, [], 0⟩ (retN ⟨P, T, ok, fn.ntmps, w0, st0, fun _ => False, (none, false), RC.bare st0⟩ fn.results el)) : FnN P f args el := by
 refine ⟨fun vs w => ?_, fun w st vs hst hl hr => ?_⟩
 ·have hn' : ¬ fn.name = "runtime.NumGoroutine" := by simpa using hn
  simp [callFunc, hf, hn', hb]
 ·refine (callsIn_wide (n := 0)).1 (callsIn_of_wp_marks hf hb trivial ?_)
  have hle := Nat.le_of_ble_eq_true hlen
  have hS : SimE ⟨P, T, ok, fn.ntmps, w, st, fun _ => False, (none, false), RC.bare st⟩ ⟨frOf 0 args, [], 0⟩ { tmps := vs.toArray ++ Array.replicate (fn.ntmps - vs.toArray.size) undef, defers := [] } w := by
   refine ⟨⟨fun _ _ => none, fun _ => False, st⟩, ⟨Nd.nil _ _ _ _, by simp; omega, fun t => ?_, fun b blk hb => by simp [lkH] at hb, fun b g o ho => by simp at ho, fun b g o b' g' o' β h => by simp at h, fun β hb => ⟨hst β hb, .inl hb⟩, fun β hb => hb, Old.refl _ _, Mono.refl _ _⟩, fun g hg => hg.elim⟩
   simp only
   rw [lk_frOf]
   simp only [Nat.zero_le, if_true, Nat.sub_zero]
   cases hx : args[t]? with
   | none => exact .dead _
   | some x =>
    have ht : t < vs.length := by rw [hl]; exact (List.getElem?_eq_some_iff.1 hx).1
    have : (vs.toArray ++ Array.replicate (fn.ntmps - vs.toArray.size) undef).getD t undef = vs[t] := by
     simp [Array.getD_eq_getD_getElem?, Array.getElem?_append, ht]
    rw [this]
    have := hr t x vs[t] hx (List.getElem?_eq_getElem ht)
    simp only [Option.getD_some]
    exact this.closed (hcl x (List.mem_of_getElem? hx)) _ (fun β hb => ⟨hb, rfl⟩)
  refine wpIn_mono (h w st _ w hS) (fun e a' w' ⟨s', ⟨c', hS', _⟩, hq⟩ => ?_)
  have fin0 : ∀ (w2 : World) (c2 : RC), Sim ⟨P, T, ok, fn.ntmps, w, st, fun _ => False, (none, false), RC.bare st⟩ s' c2 { a' with defers := [] } w2 → (∃ t b g sz, fn.results.toList = [.tmp t] ∧ lkA s'.fr t = .ptr b g 0 0 ∧ lkH s'.hp b = some ⟨g, sz, [el]⟩) →
    ∃ v, (results fn a'.tmps).run P w2 = .ok v w2 ∧ ∃ β St cur ty, Ending.returned v = .returned (.pointer (some ⟨β, 0, none⟩)) ∧ Below w.heap.size w w2 ∧ (∀ β, st β → St β) ∧ (∀ β, St β → st β ∨ (w.heap.size ≤ β ∧ β < w2.heap.size)) ∧
     w.heap.size ≤ β ∧ β < w2.heap.size ∧ ¬ St β ∧ RowAt w2 β cur ty ∧ ∀ (j : Nat) (x : AV), el[j]? = some x → ∃ u, cur[j]? = some u ∧ u.oneCell' = true ∧ ∀ own used, Rep ⟨own, used, St⟩ w2 x u := by
   intro w' c' hS' ⟨t, b, g, sz, e1, e2, e3⟩
   have hfr := hS'.fr t
   rw [e2] at hfr
   obtain ⟨o, h1, hB⟩ := hS'.hp b _ e3
   simp only at h1
   generalize hu : ({ a' with defers := [] } : Act).tmps.getD t undef = u at hfr
   have hu' : a'.tmps.getD t undef = u := hu
   cases hfr with
   | ptr _ _ _ _ β off _ hp =>
    obtain ⟨k1, k2, k3⟩ := hp o h1
    simp only [Nat.zero_mul, Nat.zero_add] at k2
    subst k2
    obtain ⟨r1, r2, r3⟩ := hB.row k3
    simp only at r1 r2 r3
    rw [k1] at r3
    obtain ⟨cur, ty, q1, q2, q3⟩ := r3
    have hlk : ∀ b', lkH ((b, none) :: s'.hp) b' = lkH s'.hp b' ∨ lkH ((b, none) :: s'.hp) b' = none := fun b' => by
     rw [lkH_cons]
     split
     ·exact .inr rfl
     ·exact .inl rfl
    let cX : RC := ⟨fun b' g' => if lkH ((b, none) :: s'.hp) b' = none then none else c'.own b' g', c'.used, c'.st⟩
    obtain ⟨al1, al2, al3⟩ := (hS'.al b g o h1).2.2 β k1
    have hβ : w.heap.size ≤ β := by
     rcases al3 with h | h
     ·exact h
     ·exact h.elim
    refine ⟨_, run_results (us := [a'.tmps.getD t undef]) (by rw [e1]; rfl), β, cX.given, cur, ty, by show Ending.returned (a'.tmps.getD t undef) = _; rw [hu'], ⟨hS'.old.os, hS'.old.tape, hS'.old.output, hS'.old.size, fun k hk => hS'.old.block k hk (fun h => h)⟩, fun β' hb => .inl (hS'.st0 β' hb), fun β' hb => ?_, hβ, al1, fun hgv => ?_, q1, fun j x hx => ?_⟩
    ·rcases hb with hb | ⟨b2, g2, o2, y1, y2⟩
     ·obtain ⟨z1, z2 | z2 | z2⟩ := hS'.st β' hb
      ·exact .inl z2
      ·exact .inr ⟨z2, z1⟩
      ·exact z2.elim
     ·simp only [cX] at y1
      split at y1
      ·cases y1
      ·obtain ⟨z1, z2, z3 | z3⟩ := (hS'.al b2 g2 o2 y1).2.2 β' y2
       ·exact .inr ⟨z3, z1⟩
       ·exact z3.elim
    ·rcases hgv with hgv | ⟨b2, g2, o2, y1, y2⟩
     ·exact al2 hgv
     ·simp only [cX] at y1
      split at y1
      ·cases y1
      ·rename_i hne
       have := (hS'.inj b2 g2 o2 b g o β y1 h1 y2 k1).1
       subst this
       exact hne (by rw [lkH_cons, if_pos rfl])
    ·obtain ⟨v, x1, x2, x3⟩ := q3 0 el j x rfl hx
     rw [Nat.zero_mul, Nat.zero_add] at x1
     exact ⟨v, x1, x2, fun own used => x3.closed (hel x (List.mem_of_getElem? hx)) _ (fun β' hb => ⟨.inl hb, rfl⟩)⟩
  have fin : (∃ t b g sz, fn.results.toList = [.tmp t] ∧ lkA s'.fr t = .ptr b g 0 0 ∧ lkH s'.hp b = some ⟨g, sz, [el]⟩) → LeavesInM Fence.wide 0 P fn a'.tmps (fun e w2 => ∃ β St cur ty, e = .returned (.pointer (some ⟨β, 0, none⟩)) ∧ Below w.heap.size w w2 ∧ (∀ β, st β → St β) ∧ (∀ β, St β → st β ∨ (w.heap.size ≤ β ∧ β < w2.heap.size)) ∧
     w.heap.size ≤ β ∧ β < w2.heap.size ∧ ¬ St β ∧ RowAt w2 β cur ty ∧ ∀ (j : Nat) (x : AV), el[j]? = some x → ∃ u, cur[j]? = some u ∧ u.oneCell' = true ∧ ∀ own used, Rep ⟨own, used, St⟩ w2 x u) a'.defers .returning w' := by
   intro hh
   refine leavesM a'.defers w' hS'.nd (fun w1 k1 k2 k3 k4 k5 => ?_)
   exact fin0 w1 _ (hS'.shut (w1 := w1) (fun β => ({ target := .collected β, args := #[] } : Deferred) ∈ a'.defers) (fun β hβ => by
    obtain ⟨D, g1, g2, g3, g4⟩ := hS'.nd.at_ _ hβ
    obtain rfl : β = D := by cases g1; rfl
    exact ⟨g2, g3, _, g4⟩) k1 k2 k3 k4 k5 (fun β hb => hst β hb) (fun β hb => hst β hb)) hh
  cases e <;> first
   | exact fin hq
   | exact hq.elim
section
variable {C : ACtx} {ops : Array Oper} {K : AS → List (List Nat × List Nat) → Prop} {k : Nat} {rest : List Oper} {fr : List (Nat × AV)} {hp : List (Nat × Option Blk)} {gc : Nat} {fps : List (List Nat × List Nat)}
 {d : Nat} {ty : TypeId} {pos : String} {after : Array Edge} {gd : Option (Nat × Bool)} {v : AV}
end
end Go.Proofs.YtfphgelollhdhaaGreat
namespace Go.Proofs.YtfphgelollhdhaaGreat
open Go Go.RowKit
set_option maxRecDepth 100000
theorem awp_cT {C : ACtx} {s : AS} {Q : Exit → AS → Prop} {x : Operand} {c d : Code} {b : Bool} (hv : s.ev x = .val (.bool b)) (h : awp C c s Q) (hb : b = true := by first | rfl | assumption | exact beq_int _ | exact bne_int _) : awp C (.cond x c d) s Q := awp_condT hv hb h
theorem awp_cF {C : ACtx} {s : AS} {Q : Exit → AS → Prop} {x : Operand} {c d : Code} {b : Bool} (hv : s.ev x = .val (.bool b)) (h : awp C d s Q) (hb : b = false := by first | rfl | assumption | exact beq_int _ | exact bne_int _) : awp C (.cond x c d) s Q := awp_condF hv hb h
theorem awp_rg {C : ACtx} {s : AS} {Q : Exit → AS → Prop} {id : Nat} {l : List Oper} {draw : Bool} (hm : C.P.follows .mixedOrders = true) (h : ARun C l.toArray (regK draw l Q) 0 l s []) : awp C (.region id l.toArray draw) s Q := awp_region (fun _ => hm) h
section
variable {C : ACtx} {ops : Array Oper} {K : AS → List (List Nat × List Nat) → Prop} {k : Nat} {rest : List Oper} {fr : List (Nat × AV)} {hp : List (Nat × Option Blk)} {gc : Nat} {fps : List (List Nat × List Nat)}
 {d : Nat} {ty : TypeId} {pos : String} {after : Array Edge} {gd : Option (Nat × Bool)} {x y z : Operand} {v : AV}
theorem ARun.o {o : Oper} {fr' : List (Nat × AV)} {hp' : List (Nat × Option Blk)} {r w : List Nat} {side : Prop} (h : opF C.T C.n ops (gc + k) fr hp o = some ⟨fr', hp', r, w, side⟩)
  (n : ARun C ops K (k + 1) rest ⟨fr', hp', gc⟩ (fps ++ [(r, w)]))
  (hs : side := by first | exact True.intro | exact rfl | (unfold inR; omega) | omega | ((try unfold inR); simp only [decide_eq_true_eq, decide_eq_false_iff_not, beq_iff_eq, beq_eq_false_iff_ne, ne_eq, Bool.not_eq_true', Bool.not_eq_false', List.length_map, List.length_append, List.length_take, List.length_drop, List.length_replicate, List.length_cons, List.length_nil] at *; omega)) : ARun C ops K k (o :: rest) ⟨fr, hp, gc⟩ fps := ARun.op h hs n
theorem ARun.kT {draw : Bool} {l0 : List Oper} {Q : Exit → AS → Prop} {dst : Option Nat} {op : Op} {j : Nat} {want b : Bool} {oj : Oper} {e : Nat} (h1 : ops[j]? = some oj) (h2 : oj.dst = some e) (h3 : lkA fr e = .val (.bool b))
  (ht : ARun C ops (regK draw l0 Q) k (⟨dst, op, ty, pos, after, some (j, want)⟩ :: rest) ⟨(e, .val (.bool true)) :: fr, hp, gc⟩ fps) (hb : b = true := by first | rfl | assumption | exact beq_int _ | exact bne_int _) :
  ARun C ops (regK draw l0 Q) k (⟨dst, op, ty, pos, after, some (j, want)⟩ :: rest) ⟨fr, hp, gc⟩ fps := ARun.knowT h1 h2 h3 hb ht
theorem ARun.kF {draw : Bool} {l0 : List Oper} {Q : Exit → AS → Prop} {dst : Option Nat} {op : Op} {j : Nat} {want b : Bool} {oj : Oper} {e : Nat} (h1 : ops[j]? = some oj) (h2 : oj.dst = some e) (h3 : lkA fr e = .val (.bool b))
  (hf : ARun C ops (regK draw l0 Q) k (⟨dst, op, ty, pos, after, some (j, want)⟩ :: rest) ⟨(e, .val (.bool false)) :: fr, hp, gc⟩ fps) (hb : b = false := by first | rfl | assumption | exact beq_int _ | exact bne_int _) :
  ARun C ops (regK draw l0 Q) k (⟨dst, op, ty, pos, after, some (j, want)⟩ :: rest) ⟨fr, hp, gc⟩ fps := ARun.knowF h1 h2 h3 hb hf
theorem ARun.f {s : AS} {l : List Oper} {draw : Bool} {Q : Exit → AS → Prop} (h2 : Q .normal (s.bump l.length)) (h1 : draw = true → regOk l fps = true := by first | (intro h; cases h; done) | (intro _; kernel_rfl)) : ARun C ops (regK draw l Q) k [] s fps := ARun.fin h1 h2
end
section
variable {P : Program} {T : Nat → Option TI} {ok : ∀ t ti, T t = some ti → tiOf P t = some ti} {nn : Nat} {w0 : World} {st0 lent : Nat → Prop} {rdd : Option Nat × Bool} {c00 : RC}
 {ops : Array Oper} {K : AS → List (List Nat × List Nat) → Prop} {k : Nat} {rest : List Oper} {fr : List (Nat × AV)} {hp : List (Nat × Option Blk)} {gc : Nat} {fps : List (List Nat × List Nat)}
 {d : Nat} {ty : TypeId} {pos : String} {after : Array Edge} {gd : Option (Nat × Bool)} {x y z : Operand} {v : AV}
def dOk (nn : Nat) : Option Nat → Bool
 | some d => Nat.blt d nn
 | none => true
theorem callK {dst : Option Nat} {fx : Operand} {args : Array Operand} {ats : Array TypeId} {f : FuncId} {cavs : List AV} {res : AV} (b g sz : Nat) (e1 e2 : List AV) (hF : FnL P f cavs [(sz, [e1])] res [[e2]]) (h1 : ∀ x, x ∈ e1 → Closed x) (h2 : ∀ x, x ∈ e2 → Closed x)
  (ha : RelL (Ln [(b, g)]) (args.toList.map (evA fr)) cavs) (hres : Lb [(b, g)] v res)
  (nx : ARun ⟨P, T, ok, nn, w0, st0, lent, rdd, c00⟩ ops K (k + 1) rest ⟨putFr fr dst v, (b, some ⟨g, sz, [e2]⟩) :: hp, gc⟩ (fps ++ [([b], [b])]))
  (hf : evA fr fx = .val (.func (.func f) #[] #[]) := by rfl) (hlk : lkH hp b = some ⟨g, sz, [e1]⟩ := by rfl) (h0 : Nat.blt 0 sz = true := by rfl) (hd : dOk nn dst = true := by rfl) (hg : guardF ops fr ⟨dst, .call ⟨.value fx, args, ats⟩, ty, pos, after, gd⟩ = some true := by rfl) :
  ARun ⟨P, T, ok, nn, w0, st0, lent, rdd, c00⟩ ops K k (⟨dst, .call ⟨.value fx, args, ats⟩, ty, pos, after, gd⟩ :: rest) ⟨fr, hp, gc⟩ fps :=
 callLX (first := []) (cap := []) [(b, ⟨g, sz, [e1]⟩)] [(b, ⟨g, sz, [e2]⟩)] hF (.inl ⟨hf, rfl, rfl⟩) ⟨hlk, trivial⟩ (by rw [List.nil_append, List.append_nil]; exact ha) ⟨⟨rfl, h0, RelR.id (fun el x q1 q2 => .wk (.same _) (by rw [List.mem_singleton.1 q1] at q2; exact h1 x q2))⟩, trivial⟩ ⟨⟨rfl, rfl, rfl, RelR.id (fun el x q1 q2 => .same _ (by rw [List.mem_singleton.1 q1] at q2; exact h2 x q2))⟩, trivial⟩ hres rfl (by cases dst <;> exact hd) hg nx
end
end Go.Proofs.YtfphgelollhdhaaGreat
namespace Go.Proofs.YtfphgelollhdhaaGreat
open Go Go.RowKit
set_option maxRecDepth 100000
section
variable {C : ACtx} {ops : Array Oper} {K : AS → List (List Nat × List Nat) → Prop} {k : Nat} {rest : List Oper} {fr : List (Nat × AV)} {hp : List (Nat × Option Blk)} {gc : Nat} {fps : List (List Nat × List Nat)}
 {d : Nat} {ty : TypeId} {pos : String} {after : Array Edge} {gd : Option (Nat × Bool)} {x y z : Operand} {v : AV}
end
end Go.Proofs.YtfphgelollhdhaaGreat
namespace Go.Proofs.YtfphgelollhdhaaGreat
open Go Go.RowKit
set_option maxRecDepth 100000
theorem zeroCells_one {z : Value} {l : List Value} (h : z.cells.toList = l) (h1 : l.all Value.oneCell' = true) (h0 : 0 < z.cells.size) (k : Nat) : ∀ u ∈ (Builtin.zeroCells z.cells k).toList, u.oneCell' = true := by
 intro u hu
 unfold Builtin.zeroCells at hu
 simp only [Array.toList_map, List.mem_map] at hu
 obtain ⟨j, _, rfl⟩ := hu
 have hlt : j % z.cells.size < z.cells.size := Nat.mod_lt _ h0
 refine List.all_eq_true.1 h1 _ ?_
 rw [← h]
 rw [getElem!_pos z.cells _ hlt]
 exact Array.mem_toList_iff.2 (Array.getElem_mem hlt)
section
variable {C : ACtx} {ops : Array Oper} {K : AS → List (List Nat × List Nat) → Prop} {k : Nat} {rest : List Oper} {fr : List (Nat × AV)} {hp : List (Nat × Option Blk)} {gc : Nat} {fps : List (List Nat × List Nat)}
 {d : Nat} {ty : TypeId} {pos : String} {after : Array Edge} {gd : Option (Nat × Bool)} {x y : Operand}
end
end Go.Proofs.YtfphgelollhdhaaGreat
namespace Go.Proofs.YtfphgelollhdhaaGreat
open Go Go.RowKit
set_option maxRecDepth 100000
section
variable {C : ACtx} {ops : Array Oper} {K : AS → List (List Nat × List Nat) → Prop} {k : Nat} {rest : List Oper} {fr : List (Nat × AV)} {hp : List (Nat × Option Blk)} {gc : Nat} {fps : List (List Nat × List Nat)}
 {d : Nat} {ty : TypeId} {pos : String} {after : Array Edge} {gd : Option (Nat × Bool)} {x y : Operand}
theorem appF {t e sz : Nat} {ti te : TI} {els els2 : List (List AV)} {rd : List (Nat × Blk)} (hx : evA fr x = .sl sz true els)
  (nx : ARun C ops K (k + 1) rest ⟨(d, .own d (gc + k) 0 (els ++ els2).length) :: fr, (d, some ⟨gc + k, te.size, els ++ els2⟩) :: hp, gc⟩ (fps ++ [(rd.map (·.1), [d])]))
  (ht : C.T t = some ti := by exact rfl) (hk : ti.k = .slice e := by exact rfl) (hte : C.T e = some te := by exact rfl) (hpos : Nat.blt 0 te.size = true := by exact rfl) (hzl : te.zero.length = te.size := by exact rfl) (hd : Nat.blt d C.n = true := by exact rfl) (hg : guardF ops fr ⟨some d, .call ⟨.builtin .append, #[x, y], #[t, t]⟩, ty, pos, after, gd⟩ = some true := by exact rfl) (hy : SrcA fr hp y te.size els2 rd := by first | exact SrcA.sl rfl (.inr rfl) | exact SrcA.sl rfl (.inl rfl) | exact SrcA.ownW rfl rfl rfl rfl) (h1 : els = [] ∨ sz = te.size := by first | exact .inr rfl | exact .inl rfl | (right; simp; done)) (hne : els = [] ∨ els2 ≠ [] := by first | exact .inr rfl | exact .inl rfl | (right; simp; done)) (hb : (els.length + els2.length) * te.bytes ≤ 140737488355328 := by first | omega | (dsimp only [maxLen]; done) | (dsimp only [maxLen]; omega) | (simp only [List.length_append, List.length_map, List.length_take, List.length_drop, List.length_replicate, List.length_cons, List.length_nil, maxLen]; done) | (simp only [List.length_append, List.length_map, List.length_take, List.length_drop, List.length_replicate, List.length_cons, List.length_nil, maxLen]; omega) | (simp only [List.length_append, List.length_map, List.length_take, List.length_drop, List.length_replicate, List.length_cons, List.length_nil, maxLen] at *; done) | (simp only [List.length_append, List.length_map, List.length_take, List.length_drop, List.length_replicate, List.length_cons, List.length_nil, maxLen] at *; omega)) (hm : els.length + els2.length ≤ maxLen := by first | omega | (dsimp only [maxLen]; done) | (dsimp only [maxLen]; omega) | (simp only [List.length_append, List.length_map, List.length_take, List.length_drop, List.length_replicate, List.length_cons, List.length_nil, maxLen]; done) | (simp only [List.length_append, List.length_map, List.length_take, List.length_drop, List.length_replicate, List.length_cons, List.length_nil, maxLen]; omega) | (simp only [List.length_append, List.length_map, List.length_take, List.length_drop, List.length_replicate, List.length_cons, List.length_nil, maxLen] at *; done) | (simp only [List.length_append, List.length_map, List.length_take, List.length_drop, List.length_replicate, List.length_cons, List.length_nil, maxLen] at *; omega)) :
  ARun C ops K k (⟨some d, .call ⟨.builtin .append, #[x, y], #[t, t]⟩, ty, pos, after, gd⟩ :: rest) ⟨fr, hp, gc⟩ fps := ARun.append_fullS hx hy ht hk hte h1 hne hpos hzl hb hm hd (guardF_spec hg) nx
theorem appO {t e b g n gen sz : Nat} {ti te : TI} {els els2 : List (List AV)} {rd : List (Nat × Blk)} (hx : evA fr x = .own b g 0 n)
  (nx : ARun C ops K (k + 1) rest ⟨(d, .own b (gc + k) 0 (els ++ els2).length) :: fr, (b, some ⟨gc + k, sz, els ++ els2⟩) :: hp, gc⟩ (fps ++ [(b :: rd.map (·.1), [b])]))
  (hbk : lkH hp b = some ⟨gen, sz, els⟩ := by exact rfl) (hgg : gen = g := by exact rfl) (hn : els.length = n := by exact rfl) (ht : C.T t = some ti := by exact rfl) (hk : ti.k = .slice e := by exact rfl) (hte : C.T e = some te := by exact rfl) (h1 : sz = te.size := by exact rfl) (hpos : Nat.blt 0 te.size = true := by exact rfl) (hzl : te.zero.length = te.size := by exact rfl) (hd : Nat.blt d C.n = true := by exact rfl) (hg : guardF ops fr ⟨some d, .call ⟨.builtin .append, #[x, y], #[t, t]⟩, ty, pos, after, gd⟩ = some true := by exact rfl) (hy : SrcA fr hp y te.size els2 rd := by first | exact SrcA.sl rfl (.inr rfl) | exact SrcA.sl rfl (.inl rfl) | exact SrcA.ownW rfl rfl rfl rfl) (hb : (els.length + els2.length) * te.bytes ≤ 140737488355328 := by first | omega | (dsimp only [maxLen]; done) | (dsimp only [maxLen]; omega) | (simp only [List.length_append, List.length_map, List.length_take, List.length_drop, List.length_replicate, List.length_cons, List.length_nil, maxLen]; done) | (simp only [List.length_append, List.length_map, List.length_take, List.length_drop, List.length_replicate, List.length_cons, List.length_nil, maxLen]; omega) | (simp only [List.length_append, List.length_map, List.length_take, List.length_drop, List.length_replicate, List.length_cons, List.length_nil, maxLen] at *; done) | (simp only [List.length_append, List.length_map, List.length_take, List.length_drop, List.length_replicate, List.length_cons, List.length_nil, maxLen] at *; omega)) (hm : els.length + els2.length ≤ maxLen := by first | omega | (dsimp only [maxLen]; done) | (dsimp only [maxLen]; omega) | (simp only [List.length_append, List.length_map, List.length_take, List.length_drop, List.length_replicate, List.length_cons, List.length_nil, maxLen]; done) | (simp only [List.length_append, List.length_map, List.length_take, List.length_drop, List.length_replicate, List.length_cons, List.length_nil, maxLen]; omega) | (simp only [List.length_append, List.length_map, List.length_take, List.length_drop, List.length_replicate, List.length_cons, List.length_nil, maxLen] at *; done) | (simp only [List.length_append, List.length_map, List.length_take, List.length_drop, List.length_replicate, List.length_cons, List.length_nil, maxLen] at *; omega)) :
  ARun C ops K k (⟨some d, .call ⟨.builtin .append, #[x, y], #[t, t]⟩, ty, pos, after, gd⟩ :: rest) ⟨fr, hp, gc⟩ fps := ARun.append_ownS hx hbk hgg hn hy ht hk hte h1 hpos hzl hb hm hd (guardF_spec hg) nx
end
section
variable {P : Program} {T : Nat → Option TI} {ok : ∀ t ti, T t = some ti → tiOf P t = some ti} {nn : Nat} {w0 : World} {st0 lent : Nat → Prop} {rdd : Option Nat × Bool} {c00 : RC}
 {ops : Array Oper} {K : AS → List (List Nat × List Nat) → Prop} {k : Nat} {rest : List Oper} {fr : List (Nat × AV)} {hp : List (Nat × Option Blk)} {gc : Nat} {fps : List (List Nat × List Nat)}
 {d : Nat} {ty : TypeId} {pos : String} {after : Array Edge} {gd : Option (Nat × Bool)} {v : AV}
theorem cX {fx : Operand} {args : Array Operand} {ats : Array TypeId} {f : FuncId} {avs : List AV} (hF : FnC P f avs v)
  (nx : ARun ⟨P, T, ok, nn, w0, st0, lent, rdd, c00⟩ ops K (k + 1) rest ⟨(d, v) :: fr, hp, gc⟩ (fps ++ [([], [])]))
  (hf : evA fr fx = .val (.func (.func f) #[] #[]) := by exact rfl) (ha : args.toList.map (evA fr) = avs := by exact rfl)
  (hd : Nat.blt d nn = true := by exact rfl) (hg : guardF ops fr ⟨some d, .call ⟨.value fx, args, ats⟩, ty, pos, after, gd⟩ = some true := by exact rfl) : ARun ⟨P, T, ok, nn, w0, st0, lent, rdd, c00⟩ ops K k (⟨some d, .call ⟨.value fx, args, ats⟩, ty, pos, after, gd⟩ :: rest) ⟨fr, hp, gc⟩ fps := callX hF hf ha hd hg nx
end
theorem lensT {p : Prop} (h : p := by first | omega | (dsimp only [maxLen]; done) | (dsimp only [maxLen]; omega) | (simp only [List.length_append, List.length_map, List.length_take, List.length_drop, List.length_replicate, List.length_cons, List.length_nil, maxLen]; done) | (simp only [List.length_append, List.length_map, List.length_take, List.length_drop, List.length_replicate, List.length_cons, List.length_nil, maxLen]; omega) | (simp only [List.length_append, List.length_map, List.length_take, List.length_drop, List.length_replicate, List.length_cons, List.length_nil, maxLen] at *; done) | (simp only [List.length_append, List.length_map, List.length_take, List.length_drop, List.length_replicate, List.length_cons, List.length_nil, maxLen] at *; omega)) : p := h
theorem wkT {p : Prop} (h : p := by (repeat (refine WkL.cons (by first | exact Wk.same _ | exact Wk.nilSl | exact Wk.weak _ _ _ | exact Wk.aggL (by (repeat (refine WkL.cons (by first | exact Wk.same _ | exact Wk.nilSl | exact Wk.weak _ _ _) ?_)); exact WkL.nil)) ?_)); exact WkL.nil) : p := h
theorem fzT {p : Prop} (h : p := by (repeat (refine FzL.cons (by first | exact Fz.same _ | exact Fz.wk Wk.nilSl | exact Fz.wk (Wk.weak _ _ _) | exact Fz.own1 (by first | (simp; done) | (simp; rfl)) rfl (by simp) | exact Fz.cloL (FzL.nil _) (by (repeat (refine FzL.cons (by first | exact Fz.ptr1 (by first | exact .head _ | exact .tail _ (.head _) | exact .tail _ (.tail _ (.head _))) rfl rfl | exact Fz.same _) ?_)); exact FzL.nil _) | exact Fz.aggL (by (repeat (refine FzL.cons (by first | exact Fz.same _ | exact Fz.wk Wk.nilSl | exact Fz.wk (Wk.weak _ _ _) | exact Fz.own1 (by first | (simp; done) | (simp; rfl)) rfl (by simp)) ?_)); exact FzL.nil _)) ?_)); exact FzL.nil _) : p := h
theorem askT {p : Prop} (h : p := by (repeat (refine RelL.cons (by first | exact .ptr (j := 0) 0 0 rfl | exact .wk (.same _) (by first | exact .val _ | exact closed_tr _ | exact .agg (NC_closed _)) | exact .wk (.weak _ _ _) (closed_s _)) ?_)); exact RelL.nil _) : p := h
theorem resT {p : Prop} (h : p := by repeat' (first | exact RL.nil _ | refine RL.cons (by first | exact Reif.val _ | exact Reif.nilSl | exact .closed _ (closed_tr _)) ?_)) : p := h
theorem reuT {p : Prop} (h : p := by repeat' (first | exact RL.nil _ | refine RL.cons (by first | exact Reif.val _ | exact Reif.nilSl | exact .closed _ (by first | exact closed_bs _ | exact closed_s _ | exact closed_ws _ | exact closedFr _ | exact closedRq _ | exact closedHn _ | exact closedLCf _ | exact closed_map encP_closed)) ?_)) : p := h
end Go.Proofs.YtfphgelollhdhaaGreat
namespace Go.Proofs.YtfphgelollhdhaaGreat
open Go Go.RowKit
set_option maxRecDepth 100000
section
variable {C : ACtx} {ops : Array Oper} {K : AS → List (List Nat × List Nat) → Prop} {k : Nat} {rest : List Oper} {fr : List (Nat × AV)} {hp : List (Nat × Option Blk)} {gc : Nat} {fps : List (List Nat × List Nat)}
 {d : Nat} {ty : TypeId} {pos : String} {after : Array Edge} {gd : Option (Nat × Bool)} {x y z : Operand} {v : AV}
end
end Go.Proofs.YtfphgelollhdhaaGreat
namespace Go.Proofs.YtfphgelollhdhaaGreat
open Go Go.RowKit
set_option maxRecDepth 100000
section
variable {C : ACtx} {ops : Array Oper} {K : AS → List (List Nat × List Nat) → Prop} {k : Nat} {rest : List Oper} {fr : List (Nat × AV)} {hp : List (Nat × Option Blk)} {gc : Nat} {fps : List (List Nat × List Nat)}
 {d : Nat} {ty : TypeId} {pos : String} {after : Array Edge} {gd : Option (Nat × Bool)} {x y z : Operand} {v : AV}
theorem ARun.clear {t e b g lo n gen sz : Nat} {ti te : TI} {els : List (List AV)} (hx : evA fr x = .own b g lo n) (hbk : lkH hp b = some ⟨gen, sz, els⟩) (hgg : gen = g) (hn : lo + n ≤ els.length) (ht : C.T t = some ti) (hk : ti.k = .slice e) (hte : C.T e = some te) (h1 : sz = te.size) (hz1 : te.zero.all Value.oneCell' = true) (hzl : te.zero.length = te.size) (hpos : Nat.blt 0 te.size = true)
  (hg : guardIs ops ⟨fr, hp, gc⟩ ⟨none, .call ⟨.builtin .clear, #[x], #[t]⟩, ty, pos, after, gd⟩ true)
  (nx : ARun C ops K (k + 1) rest ⟨fr, (b, some ⟨gen, sz, overL els lo (List.replicate n (te.zero.map zv))⟩) :: hp, gc⟩ (fps ++ [([b], [b])])) :
  ARun C ops K k (⟨none, .call ⟨.builtin .clear, #[x], #[t]⟩, ty, pos, after, gd⟩ :: rest) ⟨fr, hp, gc⟩ fps := by
 refine ARun.step (.val (.tuple #[])) [(b, ⟨gen, sz, els⟩)] [(b, some ⟨gen, sz, overL els lo (List.replicate n (te.zero.map zv))⟩)] hg (by simp [hbk]) ?_ nx
 subst hgg
 intro s c a w hS hf hargs hrd
 have hev : ∀ z ∈ #[x], Rep c w (evA fr z) (a.eval z) := by
  intro z hz
  have hz' : z ∈ (Op.call ⟨.builtin .clear, #[x], #[t]⟩).operands.toList := by simpa [Op.operands, Call.operands] using hz
  rw [← args_ev hargs z hz']
  exact hS.ev z
 have hrx := hev x (by simp)
 rw [hx] at hrx
 have hbb := hrd (b, ⟨gen, sz, els⟩) (by simp)
 obtain ⟨o, ho, hB⟩ := hS.hp b _ hbb
 simp only at ho
 have hin := und_slice ht hk
 have hun := run_underlying' hin w
 obtain ⟨zz, hzr, hzc⟩ := run_zeroValue hte w
 have hp0 := lt_of_blt hpos
 have hzs : zz.cells.size = sz := by
  have : zz.cells.toList.length = te.zero.length := by rw [hzc]
  rw [Array.length_toList] at this
  omega
 have hnl : (Builtin.zeroCells zz.cells n).toList.length = n * sz := by unfold Builtin.zeroCells; simp [hzs]
 have hone : ∀ u ∈ (Builtin.zeroCells zz.cells n).toList, u.oneCell' = true := zeroCells_one hzc hz1 (by omega) n
 have hzin : ElsIn c w sz (List.replicate n (te.zero.map zv)) (Builtin.zeroCells zz.cells n) := by
  have := zeros_in (c := c) (w := w) (sz := sz) hzc hz1 (by omega) (by omega) n
  unfold Builtin.zeroCells
  rw [hzs]
  rw [hzs] at this
  exact this
 generalize hux : a.eval x = ux at hrx
 cases hrx with
 | own _ _ _ _ A m cap hu hp' =>
  obtain ⟨rfl, k2, k3, k4, k0, k5⟩ := hp' o ho
  obtain ⟨hosz, hoz, holoc⟩ := hB.row k0
  simp only at hosz hoz holoc
  have hfit : lo + (List.replicate m (te.zero.map zv)).length ≤ els.length := by rw [List.length_replicate]; exact hn
  have hrun0 : ∀ w', (match A with | some ad => (storeCells ad (Builtin.zeroCells zz.cells m).toList : Sem Unit) | none => pure ()).run C.P w = .ok () w' → (execOp a.eval ⟨none, .call ⟨.builtin .clear, #[x], #[t]⟩, ty, pos, after, gd⟩).run C.P w = .ok (.value (.tuple #[])) w' := by
   intro w' h
   have : (Builtin.clear_ #[t] ty #[.slice A m cap]).run C.P w = .ok (.tuple #[]) w' := by
    cases A with
    | none =>
     simp only [Sem.run_pure, Result.ok.injEq, true_and] at h
     subst h
     simp [Builtin.clear_, hun]
    | some ad =>
     simp only at h
     by_cases hm0 : m = 0
     ·subst hm0
      have hz0 : (Builtin.zeroCells zz.cells 0).toList = [] := by
       apply List.eq_nil_of_length_eq_zero
       rw [hnl, Nat.zero_mul]
      rw [hz0] at h
      simp only [storeCells, Sem.run_pure, Result.ok.injEq, true_and] at h
      subst h
      simp [Builtin.clear_, hun]
     ·simp [Builtin.clear_, hun, hm0, hzr, h]
   simp [execOp, resolve, invoke, builtin, hux, this]
  rcases k5 with k5 | ⟨β, k5, k6, k7⟩
  ·subst k5
   have hm0 : m = 0 := by omega
   subst hm0
   have hz : overL els lo (List.replicate 0 (te.zero.map zv)) = els := by simp [overL]
   have hz0 : (Builtin.zeroCells zz.cells 0).toList = [] := by
    apply List.eq_nil_of_length_eq_zero
    rw [hnl, Nat.zero_mul]
   have hw : (match A with | some ad => (storeCells ad (Builtin.zeroCells zz.cells 0).toList : Sem Unit) | none => pure ()).run C.P w = .ok () w := by
    cases A <;> simp [storeCells, hz0]
   refine wp_value (hrun0 _ hw) ⟨c, ?_, fun g' hg' => .inl hg'⟩
   rw [hz]
   have := hS.put none (.val (.tuple #[])) (.tuple #[]) (fun e he => by cases he) (fun h => absurd rfl h)
   refine this.congr (fun _ => rfl) (fun b' => ?_)
   simp only [AS.app, List.nil_append, List.cons_append, lkH_cons]
   split
   ·rename_i hbe; rw [hbe]; exact hbb
   ·rfl
  ·rw [k5] at holoc
   obtain ⟨cur, e', q1, q2, q3⟩ := holoc
   have hcs : (lo + m) * sz ≤ cur.size := by
    have k8 : (lo + m) * sz ≤ (lo + cap) * sz := Nat.mul_le_mul_right _ (by omega)
    rw [hosz] at k7
    omega
   rw [Nat.add_mul] at hcs
   generalize hnews : (Builtin.zeroCells zz.cells m).toList = news at *
   have hst := RowAt.store C.P (lo * sz) news 0 q1 (by rw [hnl]; omega) hone
   simp only [Nat.add_zero] at hst
   have hw : (match A with | some ad => (storeCells ad news : Sem Unit) | none => pure ()).run C.P w = .ok () (w.setRow β (cur.toList.take (lo * sz) ++ news ++ cur.toList.drop (lo * sz + news.length)).toArray) := by
    rw [k6, hosz]
    exact hst
   refine wp_value (hrun0 _ hw) ⟨_, hS.upd (w' := w.setRow β _) b ⟨gen, sz, overL els lo (List.replicate m (te.zero.map zv))⟩ o (.inr ho) rfl rfl rfl (by simp) (fun β' _ hne => setRow_other w β β' _ (fun e => hne (by rw [k5, e]))) (fun β' hβ => .inr ⟨gen, o, ho, hβ⟩) (fun hmono => .inl ⟨hosz, fun el hel => ?_, ?_⟩) none (.val (.tuple #[])) (.tuple #[]) (fun e he => by cases he) (fun h _ => absurd rfl h), fun g' hg' => ?_⟩
   ·unfold overL at hel
    rcases List.mem_append.1 hel with h | h
    ·exact hoz el (List.mem_of_mem_take h)
    ·rcases List.mem_append.1 h with h | h
     ·exact hzin.2.1 el h
     ·exact hoz el (List.mem_of_mem_drop h)
   ·rw [k5]
    simp only
    have e1 : cur.toList.length = cur.size := Array.length_toList
    refine row_intro (e := e') q1 q2 ?_ (fun i el f x hi hx => ?_)
    ·simp only [List.size_toArray, List.length_append, List.length_take, List.length_drop, hnl]
     rw [e1, ← q2]
     omega
    ·have hget : ∀ j, (cur.toList.take (lo * sz) ++ news ++ cur.toList.drop (lo * sz + news.length)).toArray[j]? = if j < lo * sz then cur.toList[j]? else if j < lo * sz + m * sz then news[j - lo * sz]? else cur.toList[j]? := by
      intro j
      rw [List.getElem?_toArray, list_over _ _ _ (by rw [e1, hnl]; omega) j, hnl]
     rw [hget]
     rw [overL_get hfit, List.length_replicate] at hi
     have hf2 : f < sz := by
      have hx' := (List.getElem?_eq_some_iff.1 hx).1
      have : el.length = sz := by
       split at hi
       ·exact hoz el (List.mem_of_getElem? hi)
       ·split at hi
        ·exact hzin.2.1 el (List.mem_of_getElem? hi)
        ·exact hoz el (List.mem_of_getElem? hi)
      omega
     by_cases hi1 : i < lo
     ·rw [if_pos hi1] at hi
      have : (i + 1) * sz ≤ lo * sz := Nat.mul_le_mul_right _ hi1
      rw [Nat.add_mul] at this
      rw [if_pos (by omega)]
      obtain ⟨u, r1, r2, r3⟩ := q3 i el f x hi hx
      exact ⟨u, by simpa using r1, r2, r3.mono hmono⟩
     ·rw [if_neg hi1] at hi
      have hge : lo * sz ≤ i * sz := Nat.mul_le_mul_right _ (by omega)
      by_cases hi2 : i < lo + m
      ·rw [if_pos hi2] at hi
       have : (i + 1) * sz ≤ (lo + m) * sz := Nat.mul_le_mul_right _ hi2
       rw [Nat.add_mul, Nat.add_mul] at this
       rw [if_neg (by omega), if_pos (by omega)]
       obtain ⟨u, r1, r2, r3⟩ := hzin.2.2 _ el f x hi hx
       refine ⟨u, ?_, r2, r3.mono hmono⟩
       rw [← hnews, Array.getElem?_toList, ← r1]
       congr 1
       rw [Nat.sub_mul]
       omega
      ·rw [if_neg hi2] at hi
       have : (lo + m) * sz ≤ i * sz := Nat.mul_le_mul_right _ (by omega)
       rw [Nat.add_mul] at this
       rw [if_neg (by omega), if_neg (by omega)]
       obtain ⟨u, r1, r2, r3⟩ := q3 i el f x hi hx
       exact ⟨u, by simpa using r1, r2, r3.mono hmono⟩
   ·rcases hg' with h | h
    ·exact .inl h
    ·left
     simp only at h
     rw [h]
     exact (hS.al b gen _ ho).1
end
def FrG (bs : List (Nat × Blk)) (fr : List (Nat × AV)) : List (Nat × AV) → Prop
 | [] => True
 | (t, v) :: r => Fz bs (lkA fr t) v ∧ FrG bs fr r
theorem FrG.spec {bs : List (Nat × Blk)} {fr : List (Nat × AV)} : ∀ {l : List (Nat × AV)}, FrG bs fr l → ∀ t, Fz bs (lkA fr t) (lkA l t) ∨ lkA l t = .dead
 | [], _, _ => .inr rfl
 | (k, v) :: r, h, t => by
  rw [lkA_cons]
  split
  ·rename_i e
   subst e
   exact .inl h.1
  ·exact FrG.spec h.2 t
end Go.Proofs.YtfphgelollhdhaaGreat
namespace Go.Proofs.YtfphgelollhdhaaGreat
open Go Go.RowKit
set_option maxRecDepth 100000
section
variable {P : Program} {T : Nat → Option TI} {ok : ∀ t ti, T t = some ti → tiOf P t = some ti} {nn : Nat} {w0 : World} {st0 lent : Nat → Prop} {rdd : Option Nat × Bool} {c00 : RC}
 {ops : Array Oper} {K : AS → List (List Nat × List Nat) → Prop} {k : Nat} {rest : List Oper} {fr : List (Nat × AV)} {hp : List (Nat × Option Blk)} {gc : Nat} {fps : List (List Nat × List Nat)}
 {d : Nat} {ty : TypeId} {pos : String} {after : Array Edge} {gd : Option (Nat × Bool)} {x y z : Operand} {v : AV}
end
section
variable {C : ACtx} {ops : Array Oper} {K : AS → List (List Nat × List Nat) → Prop} {k : Nat} {rest : List Oper} {fr : List (Nat × AV)} {hp : List (Nat × Option Blk)} {gc : Nat} {fps : List (List Nat × List Nat)}
 {d : Nat} {ty : TypeId} {pos : String} {after : Array Edge} {gd : Option (Nat × Bool)} {x y z : Operand} {v : AV}
end
end Go.Proofs.YtfphgelollhdhaaGreat
namespace Go.Proofs.YtfphgelollhdhaaGreat
open Go Go.RowKit
set_option maxRecDepth 100000
section
variable {C : ACtx} {ops : Array Oper} {K : AS → List (List Nat × List Nat) → Prop} {k : Nat} {rest : List Oper} {fr : List (Nat × AV)} {hp : List (Nat × Option Blk)} {gc : Nat} {fps : List (List Nat × List Nat)}
 {d : Nat} {ty : TypeId} {pos : String} {after : Array Edge} {gd : Option (Nat × Bool)} {x y z : Operand} {v : AV}
end
end Go.Proofs.YtfphgelollhdhaaGreat
namespace Go.Proofs.YtfphgelollhdhaaGreat
open Go Go.RowKit
set_option maxRecDepth 100000
def FnM (P : Program) (f : FuncId) (args : List AV) (bs : List LB) (res : AV) (bs' : List (List (List AV))) : Prop :=
 (∀ (vs : Array Value) (w : World), (callFunc f vs).run P w = .ok (.enter f vs) w) ∧
 ∀ (w : World) (st : Nat → Prop) (vs : List Value) (os : List OB), (∀ β, st β → β < w.heap.size) → os.length = bs.length →
  (∀ (j : Nat) (o : OB) (β : Nat), os[j]? = some o → o.loc = some β → β < w.heap.size ∧ ¬ st β) →
  (∀ (i j : Nat) (o o' : OB) (β : Nat), os[i]? = some o → os[j]? = some o' → o.loc = some β → o'.loc = some β → i = j) →
  (∀ (j : Nat) (o : OB) (p : LB), os[j]? = some o → bs[j]? = some p → RowRep (RC.lend os st) w ⟨j, p.1, p.2⟩ o) →
  vs.length = args.length → (∀ (i : Nat) (x : AV) (u : Value), args[i]? = some x → vs[i]? = some u → Rep (RC.lend os st) w x u) →
  Calls P f vs.toArray w (fun e w' => ∃ (r : Value) (St : Nat → Prop) (oR : OB), e = .returned r ∧ Old (fun β => ∃ (j : Nat) (o : OB), os[j]? = some o ∧ o.loc = some β) w w' ∧ (∀ β, st β → St β) ∧
   (∀ β, St β → st β ∨ (w.heap.size ≤ β ∧ β < w'.heap.size) ∨ ∃ o, os[bs.length - 1]? = some o ∧ o.loc = some β) ∧
   (∀ β, st β → w'.heap[β]? = w.heap[β]?) ∧
   (∀ β, oR.loc = some β → ¬ St β ∧ ((w.heap.size ≤ β ∧ β < w'.heap.size) ∨ ∃ o, os[bs.length - 1]? = some o ∧ o.loc = some β)) ∧
   (∀ (j : Nat) (o : OB) (p : LB) (els : List (List AV)), (os.set (bs.length - 1) oR)[j]? = some o → bs[j]? = some p → bs'[j]? = some els → RowRep (RC.lend (os.set (bs.length - 1) oR) St) w' ⟨j, p.1, els⟩ o) ∧
   Rep (RC.lend (os.set (bs.length - 1) oR) St) w' res r)
inductive RlM (m bR gR : Nat) (sX : AS) : AV → AV → Prop where
 | reif {x x' : AV} (h : Reif sX x x') : RlM m bR gR sX x x'
 | ptr (j i f : Nat) (hj : Nat.blt j m = true) : RlM m bR gR sX (.ptr (1000 + j) j i f) (.ptr (1000 + j) j i f)
 | own (j lo q : Nat) (hj : Nat.blt j m = true) : RlM m bR gR sX (.own (1000 + j) j lo q) (.own (1000 + j) j lo q)
 | row (lo q : Nat) : RlM m bR gR sX (.own bR gR lo q) (.own (1000 + m) m lo q)
 | mptr (i f : Nat) : RlM m bR gR sX (.ptr bR gR i f) (.ptr (1000 + m) m i f)
def keyB (m bR j : Nat) : Nat := if j = m then bR else 1000 + j
def keyG (m gR j : Nat) : Nat := if j = m then gR else j
def EndM (R : AV → AV → Prop) (s : AS) (bR gR : Nat) : Nat → List LB → List (List (List AV)) → Prop
 | _, [p], [els'] => ∃ els, lkH s.hp bR = some ⟨gR, p.1, els⟩ ∧ RelR R els els'
 | j, p :: q :: bs, els' :: bs' => (∃ els, lkH s.hp (1000 + j) = some ⟨j, p.1, els⟩ ∧ RelR R els els') ∧ EndM R s bR gR (j + 1) (q :: bs) bs'
 | _, _, _ => False
theorem EndM.get {R : AV → AV → Prop} {s : AS} {bR gR : Nat} : ∀ {bs : List LB} {bs' : List (List (List AV))} {k : Nat}, EndM R s bR gR k bs bs' → ∀ (j : Nat) (p : LB), bs[j]? = some p →
  ∃ els' els, bs'[j]? = some els' ∧ lkH s.hp (keyB (k + bs.length - 1) bR (k + j)) = some ⟨keyG (k + bs.length - 1) gR (k + j), p.1, els⟩ ∧ RelR R els els'
 | [], _, _, _, j, p, hp => by simp at hp
 | [q], [els'], k, h, j, p, hp => by
  cases j with
  | zero =>
   simp only [List.getElem?_cons_zero, Option.some.injEq] at hp
   subst hp
   obtain ⟨els, h1, h2⟩ := h
   refine ⟨els', els, rfl, ?_, h2⟩
   simp only [List.length_singleton, Nat.add_sub_cancel, Nat.add_zero, keyB, keyG, if_true]
   exact h1
  | succ j => simp at hp
 | [q], [], k, h, j, p, hp => h.elim
 | [q], _ :: _ :: _, k, h, j, p, hp => h.elim
 | q :: q' :: bs, [], k, h, j, p, hp => h.elim
 | q :: q' :: bs, els' :: bs', k, h, j, p, hp => by
  have e0 : k + (q :: q' :: bs).length - 1 = (k + 1) + (q' :: bs).length - 1 := by simp only [List.length_cons]; omega
  cases j with
  | zero =>
   simp only [List.getElem?_cons_zero, Option.some.injEq] at hp
   subst hp
   obtain ⟨els, h1, h2⟩ := h.1
   refine ⟨els', els, rfl, ?_, h2⟩
   have : k ≠ k + (q :: q' :: bs).length - 1 := by simp only [List.length_cons]; omega
   simp only [Nat.add_zero, keyB, keyG, if_neg this]
   exact h1
  | succ j =>
   obtain ⟨e1, e2, h1, h2, h3⟩ := h.2.get j p (by simpa using hp)
   refine ⟨e1, e2, by simpa using h1, ?_, h3⟩
   rw [e0, show k + (j + 1) = k + 1 + j by omega]
   exact h2
def hpX (n bR : Nat) (s : AS) : AS := ⟨s.fr, (bR, none) :: dropHp n s.hp, s.gc⟩
inductive ResM (R : AV → AV → Prop) (s : AS) : List ResultVar → List AV → Prop where
 | nil : ResM R s [] []
 | cons {t : Nat} {v : AV} {rs : List ResultVar} {vs : List AV} (h : R (lkA s.fr t) v) (tl : ResM R s rs vs) : ResM R s (.tmp t :: rs) (v :: vs)
theorem ResM.run {P : Program} {R : AV → AV → Prop} {C : ACtx} {s : AS} {c cN : RC} {a : Act} {w : World} (hS : Sim C s c a w) (hR : ∀ x x' u, R x x' → Rep c w x u → Rep cN w x' u) {rs : List ResultVar} {vs : List AV} (h : ResM R s rs vs) :
  ∃ us : List Value, (rs.mapM (resOne a.tmps)).run P w = .ok us w ∧ us.length = vs.length ∧ ∀ (i : Nat) (x : AV) (u : Value), vs[i]? = some x → us[i]? = some u → Rep cN w x u := by
 induction h with
 | nil => exact ⟨[], by simp, rfl, fun i x u h => by simp at h⟩
 | @cons t v rs vs h _ ih =>
  obtain ⟨us, g1, g2, g3⟩ := ih
  refine ⟨a.tmps.getD t undef :: us, ?_, by simp [g2], fun i x z hx hz => ?_⟩
  ·rw [List.mapM_cons]
   simp [Sem.run_bind, resOne, g1]
  ·cases i with
   | zero =>
    simp only [List.getElem?_cons_zero, Option.some.injEq] at hx hz
    subst hx
    subst hz
    exact hR _ _ _ h (hS.fr t)
   | succ i => exact g3 i x z (by simpa using hx) (by simpa using hz)
def endsM (rs : Array ResultVar) (res : AV) (bs : List LB) (bs' : List (List (List AV))) (s : AS) : Prop :=
 ∃ (bR gR : Nat) (vs : List AV), (Nat.blt bR 1000 || Nat.ble (1000 + (bs.length - 1)) bR) = true ∧ ResM (RlM (bs.length - 1) bR gR (hpX bs.length bR s)) s rs.toList vs ∧ res = retAV vs ∧ EndM (RlM (bs.length - 1) bR gR (hpX bs.length bR s)) s bR gR 0 bs bs'
def retM (rs : Array ResultVar) (res : AV) (bs : List LB) (bs' : List (List (List AV))) : Exit → AS → Prop
 | .normal, s => endsM rs res bs bs' s
 | .ret, s => endsM rs res bs bs' s
 | _, _ => False
theorem RlM.rep {C : ACtx} {s : AS} {c : RC} {a : Act} {w : World} {m bR gR : Nat} {os' : List OB} {hp' : List (Nat × Option Blk)} (hS : Sim C s c a w) (h : ∀ b, lkH hp' b = lkH s.hp b ∨ lkH hp' b = none) (hn : os'.length = m + 1) (hos : ∀ j, j < m → c.own (1000 + j) j = os'[j]?) (hR : c.own bR gR = os'[m]?)
  {x x' : AV} (r : RlM m bR gR ⟨s.fr, hp', s.gc⟩ x x') {u : Value} (ru : Rep c w x u) : Rep (RC.lend os' (RC.given ⟨fun b g => if lkH hp' b = none then none else c.own b g, c.used, c.st⟩)) w x' u := by
 classical
 have hm : Mono c ⟨fun b g => if lkH hp' b = none then none else c.own b g, c.used, c.st⟩ w w := ⟨fun β hb => ⟨hb, rfl⟩, fun g hg => hg, fun b g o _ ho => by
  simp only at ho
  split at ho
  ·cases ho
  ·exact ho⟩
 cases r with
 | reif hr => exact hr.rep (hS.less hp' h) (ru.mono hm) _ _
 | ptr j i f hj =>
  have hj := lt_of_blt hj
  cases ru with
  | ptr _ _ _ _ β o hu hp =>
   refine .ptr _ _ _ _ β o (by show j < os'.length; omega) (fun q hq => hp q ?_)
   have hq : lendOwn os' (1000 + j) j = some q := hq
   rw [lendOwn_at] at hq
   rw [hos j hj]
   exact hq
 | own j lo q hj =>
  have hj := lt_of_blt hj
  cases ru with
  | own _ _ _ _ A m' cap hu hp =>
   refine .own _ _ _ _ A m' cap (by show j < os'.length; omega) (fun q hq => hp q ?_)
   have hq : lendOwn os' (1000 + j) j = some q := hq
   rw [lendOwn_at] at hq
   rw [hos j hj]
   exact hq
 | row lo q =>
  cases ru with
  | own _ _ _ _ A m' cap hu hp =>
   refine .own _ _ _ _ A m' cap (by show m < os'.length; omega) (fun q hq => hp q ?_)
   have hq : lendOwn os' (1000 + m) m = some q := hq
   rw [lendOwn_at] at hq
   rw [hR]
   exact hq
 | mptr i f =>
  cases ru with
  | ptr _ _ _ _ β o hu hp =>
   refine .ptr _ _ _ _ β o (by show m < os'.length; omega) (fun q hq => hp q ?_)
   have hq : lendOwn os' (1000 + m) m = some q := hq
   rw [lendOwn_at] at hq
   rw [hR]
   exact hq
theorem FnM.of_awp {P : Program} {T : Nat → Option TI} {ok : ∀ t ti, T t = some ti → tiOf P t = some ti} {f : FuncId} {fn : Func} {code : Code} {args : List AV} {bs : List LB} {res : AV} {bs' : List (List (List AV))} (hf : P.funcs[f]? = some fn)
  (hn : (fn.name == "runtime.NumGoroutine") = false) (hb : fn.body = some code) (hlen : Nat.ble args.length fn.ntmps = true) (hsz : bs.all (fun p => Nat.blt 0 p.1) = true) (hbs : Nat.blt 0 bs.length = true)
  (h : ∀ (w0 : World) (st0 lent : Nat → Prop) (c0 : RC), awp ⟨P, T, ok, fn.ntmps, w0, st0, lent, (none, false), c0⟩ code ⟨frOf 0 args, hpFrom 0 bs, bs.length⟩ (retM fn.results res bs bs')) : FnM P f args bs res bs' := by
 classical
 refine ⟨fun vs w => ?_, fun w st vs os hst hos hloc hinj hrow hl hr => ?_⟩
 ·have hn' : ¬ fn.name = "runtime.NumGoroutine" := by simpa using hn
  simp [callFunc, hf, hn', hb]
 ·refine (callsIn_wide (n := 0)).1 (callsIn_of_wp_marks hf hb trivial ?_)
  have hle := Nat.le_of_ble_eq_true hlen
  have hbs := lt_of_blt hbs
  let lent : Nat → Prop := fun β => ∃ (j : Nat) (o : OB), os[j]? = some o ∧ o.loc = some β
  let c0 : RC := RC.lend os st
  have hS : SimE ⟨P, T, ok, fn.ntmps, w, st, lent, (none, false), c0⟩ ⟨frOf 0 args, hpFrom 0 bs, bs.length⟩ { tmps := vs.toArray ++ Array.replicate (fn.ntmps - vs.toArray.size) undef, defers := [] } w := by
   refine ⟨c0, ⟨Nd.nil _ _ _ _, by simp; omega, fun t => ?_, fun b blk hb => ?_, fun b g o ho => ?_, fun b g o b' g' o' β h h' k k' => ?_, fun β hb => ⟨hst β hb, .inl hb⟩, fun β hb => hb, Old.refl _ _, Mono.refl _ _⟩, fun g hg => by show g < bs.length; rw [← hos]; exact hg⟩
   ·simp only
    rw [lk_frOf]
    simp only [Nat.zero_le, if_true, Nat.sub_zero]
    cases hx : args[t]? with
    | none => exact .dead _
    | some x =>
     have ht : t < vs.length := by rw [hl]; exact (List.getElem?_eq_some_iff.1 hx).1
     have : (vs.toArray ++ Array.replicate (fn.ntmps - vs.toArray.size) undef).getD t undef = vs[t] := by
      simp [Array.getD_eq_getD_getElem?, Array.getElem?_append, ht]
     rw [this]
     have := hr t x vs[t] hx (List.getElem?_eq_getElem ht)
     simp only [Option.getD_some]
     exact this
   ·obtain ⟨j, p, h1, h2, h3⟩ := lk_hpFrom bs 0 b blk hb
    subst h2
    subst h3
    rw [Nat.zero_add]
    have hj : j < os.length := by rw [hos]; exact (List.getElem?_eq_some_iff.1 h1).1
    exact ⟨os[j], (lendOwn_at os j).trans (List.getElem?_eq_getElem hj), .inl (hrow j _ p (List.getElem?_eq_getElem hj) h1)⟩
   ·obtain ⟨rfl, h2⟩ := lendOwn_some ho
    have hj : g < bs.length := by rw [← hos]; exact (List.getElem?_eq_some_iff.1 h2).1
    have hlk := lk_hpFrom_at bs 0 g bs[g] (List.getElem?_eq_getElem hj)
    rw [Nat.zero_add] at hlk
    refine ⟨(List.getElem?_eq_some_iff.1 h2).1, ⟨_, hlk, rfl⟩, fun β hβ => ?_⟩
    obtain ⟨k1, k2⟩ := hloc g o β h2 hβ
    exact ⟨k1, k2, .inr ⟨g, o, h2, hβ⟩⟩
   ·obtain ⟨rfl, h2⟩ := lendOwn_some h
    obtain ⟨rfl, h3⟩ := lendOwn_some h'
    have := hinj g g' o o' β h2 h3 k k'
    omega
  refine wpIn_mono (h w st lent c0 _ w hS) (fun e a' w' ⟨s', ⟨c', hS', _⟩, hq⟩ => ?_)
  have fin0 : ∀ (w2 : World) (c2 : RC), Sim ⟨P, T, ok, fn.ntmps, w, st, lent, (none, false), c0⟩ s' c2 { a' with defers := [] } w2 → endsM fn.results res bs bs' s' → ∃ v, (results fn a'.tmps).run P w2 = .ok v w2 ∧
    ∃ (r : Value) (St : Nat → Prop) (oR : OB), Ending.returned v = .returned r ∧ Old lent w w2 ∧ (∀ β, st β → St β) ∧
     (∀ β, St β → st β ∨ (w.heap.size ≤ β ∧ β < w2.heap.size) ∨ ∃ o, os[bs.length - 1]? = some o ∧ o.loc = some β) ∧
     (∀ β, st β → w2.heap[β]? = w.heap[β]?) ∧
     (∀ β, oR.loc = some β → ¬ St β ∧ ((w.heap.size ≤ β ∧ β < w2.heap.size) ∨ ∃ o, os[bs.length - 1]? = some o ∧ o.loc = some β)) ∧
     (∀ (j : Nat) (o : OB) (p : LB) (els : List (List AV)), (os.set (bs.length - 1) oR)[j]? = some o → bs[j]? = some p → bs'[j]? = some els → RowRep (RC.lend (os.set (bs.length - 1) oR) St) w2 ⟨j, p.1, els⟩ o) ∧
     Rep (RC.lend (os.set (bs.length - 1) oR) St) w2 res r := by
   intro w' c' hS' ⟨bR, gR, vs', hbR, hv, he, hle'⟩
   generalize hm : bs.length - 1 = m at *
   have hmn : bs.length = m + 1 := by omega
   have hkey : ∀ j, j < m → bR ≠ 1000 + j := fun j hj e => by
    rw [Bool.or_eq_true] at hbR
    rcases hbR with hbR | hbR
    ·have := lt_of_blt hbR
     omega
    ·have := Nat.le_of_ble_eq_true hbR
     omega
   have hlkX : ∀ b, lkH (hpX bs.length bR s').hp b = if b = bR then none else if 1000 ≤ b ∧ b < 1000 + bs.length then none else lkH s'.hp b := fun b => by
    show lkH ((bR, none) :: dropHp bs.length s'.hp) b = _
    rw [lkH_cons]
    unfold dropHp
    rw [lk_hpNone]
   have hlk : ∀ b, lkH (hpX bs.length bR s').hp b = lkH s'.hp b ∨ lkH (hpX bs.length bR s').hp b = none := fun b => by
    rw [hlkX]
    split
    ·exact .inr rfl
    ·split
     ·exact .inr rfl
     ·exact .inl rfl
   have hSX := hS'.less (hpX bs.length bR s').hp hlk
   have hgetE := hle'.get
   rw [Nat.zero_add, hm] at hgetE
   have hown : ∀ j, j < m → c'.own (1000 + j) j = os[j]? := fun j hj => by
    obtain ⟨els', els, h1, h2, h3⟩ := hgetE j (bs[j]'(by omega)) (List.getElem?_eq_getElem _)
    rw [Nat.zero_add] at h2
    simp only [keyB, keyG, if_neg (show ¬ j = m by omega)] at h2
    obtain ⟨o, k1, _⟩ := hS'.hp _ _ h2
    have k2 := hS'.mo.own (1000 + j) j o (by show j < os.length; omega) k1
    have k3 : lendOwn os (1000 + j) j = some o := k2
    rw [lendOwn_at] at k3
    rw [k1, k3]
   obtain ⟨elsM', elsM, hM1, hM2, hM3⟩ := hgetE m (bs[m]'(by omega)) (List.getElem?_eq_getElem _)
   rw [Nat.zero_add] at hM2
   simp only [keyB, keyG, if_true] at hM2
   obtain ⟨oR, hR1, hRB⟩ := hS'.hp _ _ hM2
   simp only at hR1
   let os' : List OB := os.set m oR
   have hosl : os'.length = m + 1 := by rw [List.length_set, hos, hmn]
   have hosm : os'[m]? = some oR := by rw [List.getElem?_set_self (by omega)]
   have hosj : ∀ j, j < m → os'[j]? = os[j]? := fun j hj => List.getElem?_set_ne (by omega)
   have hown' : ∀ j, j < m → c'.own (1000 + j) j = os'[j]? := fun j hj => (hown j hj).trans (hosj j hj).symm
   have hownR : c'.own bR gR = os'[m]? := hR1.trans hosm.symm
   let cX : RC := ⟨fun b g => if lkH (hpX bs.length bR s').hp b = none then none else c'.own b g, c'.used, c'.st⟩
   have hlast : ∀ (j : Nat) (o : OB) (b g : Nat) (o2 : OB) (β : Nat), os[j]? = some o → o.loc = some β → c'.own b g = some o2 → o2.loc = some β → (∀ j, j < m → b ≠ 1000 + j) → j = m := fun j o b g o2 β k3 k4 y1 y2 hne => by
    have hj : j < m + 1 := by rw [← hmn, ← hos]; exact (List.getElem?_eq_some_iff.1 k3).1
    rcases Nat.lt_or_ge j m with h | h
    ·exact absurd (hS'.inj b g o2 _ _ o β y1 ((hown j h).trans k3) y2 k4).1 (hne j h)
    ·omega
   have hgiv : ∀ β, cX.given β → st β ∨ (w.heap.size ≤ β ∧ β < w'.heap.size) ∨ ∃ o, os[m]? = some o ∧ o.loc = some β := fun β hb => by
    rcases hb with hb | ⟨b, g, o, h1, h2⟩
    ·obtain ⟨k1, k2 | k2 | ⟨j, o, k2, k3⟩⟩ := hS'.st β hb
     ·exact .inl k2
     ·exact .inr (.inl ⟨k2, k1⟩)
     ·have hj : j < m + 1 := by rw [← hmn, ← hos]; exact (List.getElem?_eq_some_iff.1 k2).1
      rcases Nat.lt_or_ge j m with h | h
      ·exact absurd hb ((hS'.al _ _ o ((hown j h).trans k2)).2.2 β k3).2.1
      ·obtain rfl : j = m := by omega
       exact .inr (.inr ⟨o, k2, k3⟩)
    ·have h1' := h1
     simp only [cX] at h1'
     split at h1'
     ·cases h1'
     ·rename_i hne
      obtain ⟨k1, k2, k3 | ⟨j, o', k3, k4⟩⟩ := (hS'.al b g o h1').2.2 β h2
      ·exact .inr (.inl ⟨k3, k1⟩)
      ·have hj := hlast j o' b g o β k3 k4 h1' h2 (fun j hj e => hne (by
        rw [hlkX, e]
        split
        ·rfl
        ·rw [if_pos (by omega)]))
       subst hj
       exact .inr (.inr ⟨o', k3, k4⟩)
   have hRep : ∀ x x' u, RlM m bR gR (hpX bs.length bR s') x x' → Rep c' w' x u → Rep (RC.lend os' cX.given) w' x' u := fun x x' u r ru => RlM.rep hS' hlk hosl hown' hownR r ru
   obtain ⟨us, g1, g2, g3⟩ := hv.run (P := P) (cN := RC.lend os' cX.given) hS' hRep
   refine ⟨retV us, run_results g1, retV us, cX.given, oR, rfl, hS'.old, fun β hb => .inl (hS'.st0 β hb), hgiv, fun β hb => hS'.old.block β (hst β hb) (fun ⟨j, o, k1, k2⟩ => (hloc j o β k1 k2).2 hb), fun β hβ => ⟨fun hgv => ?_, ?_⟩, fun j o p els ho hp hels => ?_, ?_⟩
   ·rcases hgv with hgv | ⟨b, g, o, h1, h2⟩
    ·exact ((hS'.al _ _ oR hR1).2.2 β hβ).2.1 hgv
    ·simp only [cX] at h1
     split at h1
     ·cases h1
     ·rename_i hne
      have := (hS'.inj b g o _ _ oR β h1 hR1 h2 hβ).1
      exact hne (by rw [hlkX, if_pos this])
   ·obtain ⟨k1, k2, k3 | ⟨j, o', k3, k4⟩⟩ := (hS'.al _ _ oR hR1).2.2 β hβ
    ·exact .inl ⟨k3, k1⟩
    ·have hj := hlast j o' bR gR oR β k3 k4 hR1 hβ hkey
     subst hj
     exact .inr ⟨o', k3, k4⟩
   ·have hj : j < bs.length := (List.getElem?_eq_some_iff.1 hp).1
    obtain ⟨els', els0, h1, h2, h3⟩ := hgetE j p hp
    rw [Nat.zero_add] at h2
    rw [hels] at h1
    obtain rfl := Option.some.inj h1
    obtain ⟨o', k1, kB⟩ := hS'.hp _ _ h2
    simp only at k1
    have hoo : some o' = some o := by
     rw [← k1, ← ho]
     rcases Nat.lt_or_ge j m with h | h
     ·simp only [keyB, keyG, if_neg (show ¬ j = m by omega)]
      exact hown' j h
     ·obtain rfl : j = m := by omega
      simp only [keyB, keyG, if_true]
      exact hownR
    obtain rfl := Option.some.inj hoo
    have hp0 : 0 < p.1 := lt_of_blt (List.all_eq_true.1 hsz p (List.mem_of_getElem? hp))
    obtain ⟨r1, r2, r3⟩ := kB.row (by rw [kB.sz]; exact hp0)
    have hlen : ∀ (i : Nat) (el : List AV), els[i]? = some el → ∃ el0, els0[i]? = some el0 ∧ RelL (RlM m bR gR (hpX bs.length bR s')) el0 el := fun i el hi => by
     have hi' : i < els0.length := by rw [← h3.1]; exact (List.getElem?_eq_some_iff.1 hi).1
     exact ⟨els0[i], List.getElem?_eq_getElem hi', h3.2 i _ el (List.getElem?_eq_getElem hi') hi⟩
    refine ⟨r1, fun el hel => ?_, ?_⟩
    ·obtain ⟨i, hi⟩ := List.getElem?_of_mem hel
     obtain ⟨el0, q1, q2⟩ := hlen i el hi
     rw [q2.1]
     exact r2 el0 (List.mem_of_getElem? q1)
    ·cases hl : o'.loc with
     | none =>
      rw [hl] at r3
      simp only at r3 ⊢
      have := h3.1
      rw [r3] at this
      exact List.eq_nil_of_length_eq_zero this
     | some β =>
      rw [hl] at r3
      obtain ⟨cur, e, q1, q2, q3⟩ := r3
      refine ⟨cur, e, q1, q2, fun i el f x hi hx => ?_⟩
      obtain ⟨el0, t1, t2⟩ := hlen i el hi
      have hf : f < el0.length := by rw [← t2.1]; exact (List.getElem?_eq_some_iff.1 hx).1
      obtain ⟨u, u1, u2, u3⟩ := q3 i el0 f el0[f] t1 (List.getElem?_eq_getElem hf)
      exact ⟨u, u1, u2, hRep _ _ _ (t2.2 f _ x (List.getElem?_eq_getElem hf) hx) u3⟩
   ·subst he
    have one : ∀ (l : List AV) (l' : List Value), l'.length = l.length → (∀ (i : Nat) (x : AV) (u : Value), l[i]? = some x → l'[i]? = some u → Rep (RC.lend os' cX.given) w' x u) → Rep (RC.lend os' cX.given) w' (retAV l) (retV l') := by
     intro l l' hl' hr'
     match l, l', hl' with
     | [], [], _ => exact .tup [] [] rfl hr'
     | [x], [u], _ => exact hr' 0 x u rfl rfl
     | x :: y :: l, u :: v :: l', h' => exact .tup _ _ h' hr'
    exact one vs' us g2 g3
  have fin : endsM fn.results res bs bs' s' → LeavesInM Fence.wide 0 P fn a'.tmps (fun e w2 => ∃ (r : Value) (St : Nat → Prop) (oR : OB), e = .returned r ∧ Old lent w w2 ∧ (∀ β, st β → St β) ∧
     (∀ β, St β → st β ∨ (w.heap.size ≤ β ∧ β < w2.heap.size) ∨ ∃ o, os[bs.length - 1]? = some o ∧ o.loc = some β) ∧
     (∀ β, st β → w2.heap[β]? = w.heap[β]?) ∧
     (∀ β, oR.loc = some β → ¬ St β ∧ ((w.heap.size ≤ β ∧ β < w2.heap.size) ∨ ∃ o, os[bs.length - 1]? = some o ∧ o.loc = some β)) ∧
     (∀ (j : Nat) (o : OB) (p : LB) (els : List (List AV)), (os.set (bs.length - 1) oR)[j]? = some o → bs[j]? = some p → bs'[j]? = some els → RowRep (RC.lend (os.set (bs.length - 1) oR) St) w2 ⟨j, p.1, els⟩ o) ∧
     Rep (RC.lend (os.set (bs.length - 1) oR) St) w2 res r) a'.defers .returning w' := by
   intro hend
   refine leavesM a'.defers w' hS'.nd (fun w1 k1 k2 k3 k4 k5 => ?_)
   exact fin0 w1 _ (hS'.shut (w1 := w1) (fun β => ({ target := .collected β, args := #[] } : Deferred) ∈ a'.defers) (fun β hβ => by
    obtain ⟨D, g1, g2, g3, g4⟩ := hS'.nd.at_ _ hβ
    obtain rfl : β = D := by cases g1; rfl
    exact ⟨g2, g3, _, g4⟩) k1 k2 k3 k4 k5 (fun β hb => hst β hb) (fun β hb => hst β hb)) hend
  cases e <;> first
   | exact fin hq
   | exact hq.elim
end Go.Proofs.YtfphgelollhdhaaGreat
namespace Go.Proofs.YtfphgelollhdhaaGreat
open Go Go.RowKit
set_option maxRecDepth 100000
theorem Sim.lentM {C : ACtx} {s : AS} {c : RC} {a : Act} {w w' : World} (hS : Sim C s c a w) (ls' : List (Nat × Blk)) (os : List OB) (St : Nat → Prop) (bR : Nat) (blkR : Blk) (oR : OB) (hlen : os.length = ls'.length) (hgN : ¬ c.used blkR.gen)
  (hne : ∀ p', p' ∈ ls' → p'.1 ≠ bR)
  (hold : ∀ (j : Nat) (p' : Nat × Blk) (o : OB), ls'[j]? = some p' → os[j]? = some o → c.own p'.1 p'.2.gen = some o ∧ (∃ blk, lkH s.hp p'.1 = some blk ∧ blk.gen = p'.2.gen) ∧ RowRep ((⟨c.own, c.used, St⟩ : RC).upd bR blkR.gen oR) w' p'.2 o)
  (hE : Old (fun β => (∃ (j : Nat) (o : OB), os[j]? = some o ∧ o.loc = some β) ∨ ∃ g o, c.own bR g = some o ∧ o.loc = some β) w w') (hst : ∀ β, c.st β → St β)
  (hst' : ∀ β, St β → c.st β ∨ (w.heap.size ≤ β ∧ β < w'.heap.size) ∨ ∃ g o, c.own bR g = some o ∧ o.loc = some β)
  (hRl : ∀ β, oR.loc = some β → ¬ St β ∧ ((w.heap.size ≤ β ∧ β < w'.heap.size) ∨ ∃ g o, c.own bR g = some o ∧ o.loc = some β))
  (hRow : RowRep ((⟨c.own, c.used, St⟩ : RC).upd bR blkR.gen oR) w' blkR oR)
  (d : Option Nat) (v : AV) (u : Value) (hd : ∀ e, d = some e → e < C.n) (hv : Rep ((⟨c.own, c.used, St⟩ : RC).upd bR blkR.gen oR) w' v u) :
  Sim C (s.app d v ((ls' ++ [(bR, blkR)]).map (fun p => (p.1, some p.2)))) ((⟨c.own, c.used, St⟩ : RC).upd bR blkR.gen oR) (a.put d u) w' := by
 have hget : ∀ p', p' ∈ ls' → ∃ o, (∃ j : Nat, os[j]? = some o) ∧ c.own p'.1 p'.2.gen = some o ∧ (∃ blk, lkH s.hp p'.1 = some blk ∧ blk.gen = p'.2.gen) ∧ RowRep ((⟨c.own, c.used, St⟩ : RC).upd bR blkR.gen oR) w' p'.2 o := fun p' hp' => by
  obtain ⟨j, hj⟩ := List.getElem?_of_mem hp'
  have hj' : j < os.length := by rw [hlen]; exact (List.getElem?_eq_some_iff.1 hj).1
  exact ⟨os[j], ⟨j, List.getElem?_eq_getElem hj'⟩, hold j p' _ hj (List.getElem?_eq_getElem hj')⟩
 have hos : ∀ (j : Nat) (o : OB), os[j]? = some o → ∃ p', p' ∈ ls' ∧ c.own p'.1 p'.2.gen = some o := fun j o ho => by
  have hj' : j < ls'.length := by rw [← hlen]; exact (List.getElem?_eq_some_iff.1 ho).1
  exact ⟨ls'[j], List.getElem_mem hj', (hold j _ o (List.getElem?_eq_getElem hj') ho).1⟩
 have hnst : ∀ β, c.st β → ¬ ((∃ (j : Nat) (o : OB), os[j]? = some o ∧ o.loc = some β) ∨ ∃ g o, c.own bR g = some o ∧ o.loc = some β) := fun β hb h => by
  rcases h with ⟨j, o, h1, h2⟩ | ⟨g, o, h1, h2⟩
  ·obtain ⟨p', _, h3⟩ := hos j o h1
   exact ((hS.al _ _ o h3).2.2 β h2).2.1 hb
  ·exact ((hS.al _ _ o h1).2.2 β h2).2.1 hb
 have hm : Mono c ((⟨c.own, c.used, St⟩ : RC).upd bR blkR.gen oR) w w' := by
  refine ⟨fun β hb => ⟨hst β hb, hE.block β (hS.st β hb).1 (hnst β hb)⟩, fun g hg => .inl hg, fun b g o hu ho => ?_⟩
  simp only [RC.upd] at ho
  split at ho
  ·rename_i e
   subst e
   split at ho
   ·rename_i e
    subst e
    exact absurd hu hgN
   ·cases ho
  ·exact ho
 have hlkR : ∀ b, (∃ p, p ∈ ls' ∧ p.1 = b ∧ b ≠ bR ∧ lkH ((ls' ++ [(bR, blkR)]).map (fun p => (p.1, some p.2)) ++ s.hp) b = some p.2) ∨ (b = bR ∧ lkH ((ls' ++ [(bR, blkR)]).map (fun p => (p.1, some p.2)) ++ s.hp) b = some blkR) ∨ (b ≠ bR ∧ (∀ p, p ∈ ls' → p.1 ≠ b) ∧ lkH ((ls' ++ [(bR, blkR)]).map (fun p => (p.1, some p.2)) ++ s.hp) b = lkH s.hp b) := fun b => by
  rcases lk_ups (ls' ++ [(bR, blkR)]) s.hp b with ⟨p, h1, h2, h3⟩ | ⟨h1, h2⟩
  ·rcases List.mem_append.1 h1 with h | h
   ·exact .inl ⟨p, h, h2, by rw [← h2]; exact hne p h, h3⟩
   ·obtain rfl := List.mem_singleton.1 h
    exact .inr (.inl ⟨h2.symm, h3⟩)
  ·exact .inr (.inr ⟨fun e => h1 (bR, blkR) (by simp) e.symm, fun p hp => h1 p (List.mem_append_left _ hp), h2⟩)
 refine ⟨(Act.put_nd a d u).symm ▸ hS.nd.step hm.st, (Act.put_size a d u).trans hS.sz, fr_put hS hm d v u hd (fun _ => hv), fun b blk hb => ?_, fun b g o ho => ?_, fun b1 g1 o1 b2 g2 o2 β h1 h2 k1 k2 => ?_, fun β hb => ?_, fun β hb => hst β (hS.st0 β hb), hS.old.trans' hE.os hE.tape hE.output hE.size (fun k hk hk' => ?_), hS.mo.trans hm⟩
 ·simp only [AS.app] at hb
  rcases hlkR b with ⟨p, h1, h2, h3, h4⟩ | ⟨h1, h2⟩ | ⟨h0, h1, h2⟩
  ·rw [h4] at hb
   obtain rfl := Option.some.inj hb
   obtain ⟨o, _, k1, _, k3⟩ := hget p h1
   subst h2
   exact ⟨o, by simp only [RC.upd]; rw [if_neg h3]; exact k1, .inl k3⟩
  ·rw [h2] at hb
   obtain rfl := Option.some.inj hb
   subst h1
   exact ⟨oR, by simp [RC.upd], .inl hRow⟩
  ·rw [h2] at hb
   obtain ⟨o, k1, k2⟩ := hS.hp b blk hb
   refine ⟨o, by simp only [RC.upd]; rw [if_neg h0]; exact k1, k2.mono hm (fun β hβ => hE.block β ((hS.al b _ o k1).2.2 β hβ).1 (fun h => ?_))⟩
   rcases h with ⟨j, o', q1, q2⟩ | ⟨g', o', q1, q2⟩
   ·obtain ⟨p', q3, q4⟩ := hos j o' q1
    exact h1 p' q3 (hS.inj b _ o _ _ o' β k1 q4 hβ q2).1.symm
   ·exact h0 (hS.inj b _ o _ _ o' β k1 q1 hβ q2).1
 ·simp only [RC.upd] at ho
  split at ho
  ·rename_i e
   subst e
   split at ho
   ·rename_i e
    subst e
    obtain rfl := Option.some.inj ho
    refine ⟨.inr rfl, ⟨blkR, ?_, rfl⟩, fun β hβ => ?_⟩
    ·rcases hlkR b with ⟨p, _, _, h3, _⟩ | ⟨_, h2⟩ | ⟨h0, _, _⟩
     ·exact absurd rfl h3
     ·exact h2
     ·exact absurd rfl h0
    ·obtain ⟨k1, k2⟩ := hRl β hβ
     rcases k2 with ⟨k2, k3⟩ | ⟨g', o', k2, k3⟩
     ·exact ⟨k3, k1, .inl (Nat.le_trans hS.old.size k2)⟩
     ·obtain ⟨q1, q2, q3⟩ := (hS.al _ _ o' k2).2.2 β k3
      exact ⟨Nat.lt_of_lt_of_le q1 hE.size, k1, q3⟩
   ·cases ho
  ·rename_i hbb
   obtain ⟨k1, ⟨blk, k2, k3⟩, k4⟩ := hS.al b g o ho
   refine ⟨.inl k1, ?_, fun β hβ => ?_⟩
   ·rcases hlkR b with ⟨p, h1, h2, _, h4⟩ | ⟨h1, _⟩ | ⟨_, _, h2⟩
    ·obtain ⟨o', _, q1, ⟨blk', q2, q3⟩, _⟩ := hget p h1
     refine ⟨p.2, h4, ?_⟩
     rw [h2, k2] at q2
     rw [← q3, ← k3, Option.some.inj q2]
    ·exact absurd h1 hbb
    ·exact ⟨blk, h2.trans k2, k3⟩
   ·obtain ⟨q1, q2, q3⟩ := k4 β hβ
    refine ⟨Nat.lt_of_lt_of_le q1 hE.size, fun hs => ?_, q3⟩
    rcases hst' β hs with h | ⟨h, _⟩ | ⟨g', o', h1, h2⟩
    ·exact q2 h
    ·omega
    ·exact hbb (hS.inj b g o _ _ o' β ho h1 hβ h2).1
 ·have hcross : ∀ b g o, b ≠ bR → c.own b g = some o → o.loc = some β → oR.loc = some β → False := fun b g o hb h h' hr => by
   rcases (hRl β hr).2 with ⟨k, _⟩ | ⟨g', o', k2, k3⟩
   ·have := ((hS.al b g o h).2.2 β h').1
    omega
   ·exact hb (hS.inj b g o _ _ o' β h k2 h' k3).1
  simp only [RC.upd] at h1 h2
  split at h1
  ·rename_i e1
   split at h1
   ·rename_i f1
    obtain rfl := Option.some.inj h1
    split at h2
    ·rename_i e2
     split at h2
     ·rename_i f2
      exact ⟨e1.trans e2.symm, f1.trans f2.symm⟩
     ·cases h2
    ·rename_i e2
     exact (hcross b2 g2 o2 e2 h2 k2 k1).elim
   ·cases h1
  ·rename_i e1
   split at h2
   ·split at h2
    ·obtain rfl := Option.some.inj h2
     exact (hcross b1 g1 o1 e1 h1 k1 k2).elim
    ·cases h2
   ·exact hS.inj b1 g1 o1 b2 g2 o2 β h1 h2 k1 k2
 ·rcases hst' β hb with h | h | ⟨g', o', h1, h2⟩
  ·exact ⟨Nat.lt_of_lt_of_le (hS.st β h).1 hE.size, (hS.st β h).2⟩
  ·exact ⟨h.2, .inr (.inl (Nat.le_trans hS.old.size h.1))⟩
  ·obtain ⟨q1, _, q3⟩ := (hS.al _ _ o' h1).2.2 β h2
   exact ⟨Nat.lt_of_lt_of_le q1 hE.size, .inr q3⟩
 ·refine hE.block k (Nat.lt_of_lt_of_le hk hS.old.size) (fun h => ?_)
  have : ∃ b g o, c.own b g = some o ∧ o.loc = some k := by
   rcases h with ⟨j, o, h1, h2⟩ | ⟨g, o, h1, h2⟩
   ·obtain ⟨p', _, h3⟩ := hos j o h1
    exact ⟨_, _, o, h3, h2⟩
   ·exact ⟨_, _, o, h1, h2⟩
  obtain ⟨b, g, o, h3, h2⟩ := this
  rcases ((hS.al _ _ o h3).2.2 k h2).2.2 with h | h
  ·omega
  ·exact hk' h
def mmM (ls : List (Nat × Blk)) (bR g : Nat) : List (Nat × Nat) := ls.map (fun p => (p.1, p.2.gen)) ++ [(bR, g)]
theorem rowRep_in {R : AV → AV → Prop} {c c' : RC} {w : World} {blk blk' : Blk} {o : OB} (r : RowRep c w blk o) (hsz : blk'.sz = blk.sz) (hr : RelR R blk.els blk'.els) (hR : ∀ x x' u, R x x' → Rep c w x u → Rep c' w x' u) : RowRep c' w blk' o := by
 obtain ⟨r1, r2, r3⟩ := r
 have hget : ∀ (i : Nat) (el : List AV), blk'.els[i]? = some el → ∃ el0, blk.els[i]? = some el0 ∧ RelL R el0 el := fun i el hi => by
  have hi' : i < blk.els.length := by rw [← hr.1]; exact (List.getElem?_eq_some_iff.1 hi).1
  exact ⟨blk.els[i], List.getElem?_eq_getElem hi', hr.2 i _ el (List.getElem?_eq_getElem hi') hi⟩
 refine ⟨r1.trans hsz.symm, fun el hel => ?_, ?_⟩
 ·obtain ⟨i, hi⟩ := List.getElem?_of_mem hel
  obtain ⟨el0, q1, q2⟩ := hget i el hi
  rw [q2.1, r2 el0 (List.mem_of_getElem? q1), hsz]
 ·cases hl : o.loc with
  | none =>
   rw [hl] at r3
   simp only at r3 ⊢
   have := hr.1
   rw [r3] at this
   exact List.eq_nil_of_length_eq_zero this
  | some β =>
   rw [hl] at r3
   obtain ⟨cur, e, y1, y2, y3⟩ := r3
   refine ⟨cur, e, y1, y2, fun i el f x hi hx => ?_⟩
   obtain ⟨el0, t1, t2⟩ := hget i el hi
   have hf : f < el0.length := by rw [← t2.1]; exact (List.getElem?_eq_some_iff.1 hx).1
   obtain ⟨u, u1, u2, u3⟩ := y3 i el0 f el0[f] t1 (List.getElem?_eq_getElem hf)
   exact ⟨u, by rw [hsz]; exact u1, u2, hR _ _ _ (t2.2 f _ x (List.getElem?_eq_getElem hf) hx) u3⟩
theorem rowRep_out {R : AV → AV → Prop} {c c' : RC} {w : World} {blk blk' : Blk} {o : OB} (r : RowRep c w blk o) (hsz : blk'.sz = blk.sz) (hr : RelR R blk'.els blk.els) (hR : ∀ x x' u, R x x' → Rep c w x' u → Rep c' w x u) : RowRep c' w blk' o := by
 refine rowRep_in (R := fun x x' => R x' x) r hsz ⟨hr.1.symm, fun i el el' h1 h2 => ?_⟩ (fun x x' u h1 h2 => hR _ _ _ h1 h2)
 have := hr.2 i el' el h2 h1
 exact ⟨this.1.symm, fun k x x' h3 h4 => this.2 k x' x h4 h3⟩
section
variable {C : ACtx} {ops : Array Oper} {K : AS → List (List Nat × List Nat) → Prop} {k : Nat} {rest : List Oper} {fr : List (Nat × AV)} {hp : List (Nat × Option Blk)} {gc : Nat} {fps : List (List Nat × List Nat)}
 {d : Nat} {ty : TypeId} {pos : String} {after : Array Edge} {gd : Option (Nat × Bool)} {v : AV}
theorem ARun.callM {dst : Option Nat} {fx : Operand} {args : Array Operand} {ats : Array TypeId} {f : FuncId} {cavs : List AV} {bs : List LB} {res : AV} {bs' : List (List (List AV))} (ls ls' : List (Nat × Blk)) (bR gR szR : Nat) (eR eR' : List (List AV)) {eRc eRc' : List (List AV)} (hF : FnM C.P f cavs (bs ++ [(szR, eRc)]) res (bs' ++ [eRc'])) (hf : evA fr fx = .val (.func (.func f) #[] #[]))
  (ha : RelL (Ln (mmM ls bR gR)) (args.toList.map (evA fr)) cavs) (hlk : LkAll hp ls) (hlkR : lkH hp bR = some ⟨gR, szR, eR⟩) (hnd : nodupB (ls.map (·.1) ++ [bR]) = true) (hin : LentIn (Ln (mmM ls bR gR)) ls bs) (hszR : Nat.blt 0 szR = true) (hinR : RelR (Ln (mmM ls bR gR)) eR eRc)
  (hout : LentOut (Lb (mmM ls bR (gc + k))) ls ls' bs') (houtR : RelR (Lb (mmM ls bR (gc + k))) eR' eRc') (hres : Lb (mmM ls bR (gc + k)) v res)
  (hd : (match dst with | some d => Nat.blt d C.n | none => true) = true) (hg : guardIs ops ⟨fr, hp, gc⟩ ⟨dst, .call ⟨.value fx, args, ats⟩, ty, pos, after, gd⟩ true)
  (nx : ARun C ops K (k + 1) rest ⟨putFr fr dst v, (ls' ++ [(bR, (⟨gc + k, szR, eR'⟩ : Blk))]).map (fun (p : Nat × Blk) => (p.1, some p.2)) ++ hp, gc⟩ (fps ++ [((ls ++ [(bR, (⟨gR, szR, eR⟩ : Blk))]).map (fun (p : Nat × Blk) => p.1), (ls' ++ [(bR, (⟨gc + k, szR, eR'⟩ : Blk))]).map (fun (p : Nat × Blk) => p.1))])) : ARun C ops K k (⟨dst, .call ⟨.value fx, args, ats⟩, ty, pos, after, gd⟩ :: rest) ⟨fr, hp, gc⟩ fps := by
 have e : ((ls' ++ [(bR, (⟨gc + k, szR, eR'⟩ : Blk))]).map (fun (p : Nat × Blk) => (p.1, some p.2))).map (fun (q : Nat × Option Blk) => q.1) = (ls' ++ [(bR, (⟨gc + k, szR, eR'⟩ : Blk))]).map (fun (p : Nat × Blk) => p.1) := by rw [List.map_map]; rfl
 refine ARun.step v (ls ++ [(bR, ⟨gR, szR, eR⟩)]) ((ls' ++ [(bR, (⟨gc + k, szR, eR'⟩ : Blk))]).map (fun (p : Nat × Blk) => (p.1, some p.2))) hg (fun p hp => ?_) ?_ (by rw [e]; exact nx)
 ·rcases List.mem_append.1 hp with hp | hp
  ·exact LkAll.get hlk p hp
  ·obtain rfl := List.mem_singleton.1 hp
   exact hlkR
 intro s c a w hS hfresh hargs hrd
 have hdst : ∀ e, dst = some e → e < C.n := by
  intro e he
  subst he
  exact lt_of_blt hd
 have hev : ∀ z ∈ #[fx] ++ args, Rep c w (evA fr z) (a.eval z) := by
  intro z hz
  have hz' : z ∈ (Op.call ⟨.value fx, args, ats⟩).operands.toList := by simpa [Op.operands, Call.operands] using hz
  rw [← args_ev hargs z hz']
  exact hS.ev z
 have h1 := hev fx (by simp)
 rw [hf] at h1
 have h1 := h1.val_inv
 obtain ⟨F1, F2⟩ := hF
 have hmr := map_rep (c := c) (w := w) (a := a) (fr := fr) args.toList (fun z hz => hev z (Array.mem_append.2 (.inr (Array.mem_toList_iff.1 hz))))
 -- the blocks
 obtain ⟨hin1, hin2⟩ := hin.get
 obtain ⟨ho1, ho2, ho3⟩ := hout.get
 have hob : ∀ p, p ∈ ls → ∃ o, c.own p.1 p.2.gen = some o ∧ BlkRep c w p.2 o := fun p hp => hS.hp p.1 p.2 (hrd p (List.mem_append_left _ hp))
 obtain ⟨os, hosl, hosg⟩ := pick_list (fun (j : Nat) (p : Nat × Blk) (o : OB) => c.own p.1 p.2.gen = some o ∧ BlkRep c w p.2 o) ls 0 (fun j p hp => hob p (List.mem_of_getElem? hp))
 have hos : ∀ (j : Nat) (p : Nat × Blk) (o : OB), ls[j]? = some p → os[j]? = some o → c.own p.1 p.2.gen = some o ∧ BlkRep c w p.2 o := fun j p o hp ho => hosg j p o hp ho
 obtain ⟨o0, hR1, hRB⟩ := hS.hp bR _ (hrd (bR, ⟨gR, szR, eR⟩) (List.mem_append_right _ (by simp)))
 simp only at hR1
 have hszR' := lt_of_blt hszR
 have hRrow := hRB.row (by rw [hRB.sz]; exact hszR')
 have hbl : bs.length = ls.length := hin1
 have hosp : ∀ (j : Nat) (o : OB), os[j]? = some o → ∃ p, ls[j]? = some p ∧ c.own p.1 p.2.gen = some o ∧ BlkRep c w p.2 o := fun j o ho => by
  have hj : j < ls.length := by rw [← hosl]; exact (List.getElem?_eq_some_iff.1 ho).1
  exact ⟨ls[j], List.getElem?_eq_getElem hj, hos j _ o (List.getElem?_eq_getElem hj) ho⟩
 have hospR : ∀ (j : Nat) (o : OB), (os ++ [o0])[j]? = some o → ∃ b g, (ls.map (·.1) ++ [bR])[j]? = some b ∧ c.own b g = some o := fun j o ho => by
  rcases Nat.lt_or_ge j os.length with h | h
  ·rw [List.getElem?_append_left h] at ho
   obtain ⟨p, h1, h2, _⟩ := hosp j o ho
   exact ⟨p.1, p.2.gen, by rw [List.getElem?_append_left (by rw [List.length_map]; omega), List.getElem?_map, h1]; rfl, h2⟩
  ·rw [List.getElem?_append_right h] at ho
   have hj : j = os.length := by
    have := (List.getElem?_eq_some_iff.1 ho).1
    simp at this
    omega
   subst hj
   rw [Nat.sub_self] at ho
   obtain rfl := Option.some.inj ho
   exact ⟨bR, gR, by rw [hosl, List.getElem?_append_right (by rw [List.length_map]; omega), List.length_map, Nat.sub_self]; rfl, hR1⟩
 have hosm : ∀ (j b g : Nat), (mmM ls bR gR)[j]? = some (b, g) → ∃ o, (os ++ [o0])[j]? = some o ∧ c.own b g = some o := fun j b g h => by
  unfold mmM at h
  rcases Nat.lt_or_ge j ls.length with hj | hj
  ·rw [List.getElem?_append_left (by rw [List.length_map]; exact hj), List.getElem?_map] at h
   rw [List.getElem?_eq_getElem hj] at h
   simp only [Option.map_some, Option.some.injEq, Prod.mk.injEq] at h
   obtain ⟨rfl, rfl⟩ := h
   have hj' : j < os.length := by omega
   exact ⟨os[j], by rw [List.getElem?_append_left hj']; exact List.getElem?_eq_getElem hj', (hos j _ _ (List.getElem?_eq_getElem hj) (List.getElem?_eq_getElem hj')).1⟩
  ·rw [List.getElem?_append_right (by rw [List.length_map]; exact hj), List.length_map] at h
   have hj' : j = ls.length := by
    have := (List.getElem?_eq_some_iff.1 h).1
    simp at this
    omega
   subst hj'
   rw [Nat.sub_self] at h
   simp only [List.getElem?_cons_zero, Option.some.injEq, Prod.mk.injEq] at h
   obtain ⟨rfl, rfl⟩ := h
   exact ⟨o0, by rw [← hosl, List.getElem?_append_right (Nat.le_refl _), Nat.sub_self]; rfl, hR1⟩
 have hLn : ∀ x x' u, Ln (mmM ls bR gR) x x' → Rep c w x u → Rep (RC.lend (os ++ [o0]) c.st) w x' u := fun x x' u h r => Ln.rep hosm h r
 have hC := F2 w c.st (args.toList.map a.eval) (os ++ [o0]) (fun β hb => (hS.st β hb).1) (by simp [hosl, hin1])
  (fun j o β ho hβ => by
   obtain ⟨b, g, _, k1⟩ := hospR j o ho
   have := (hS.al _ _ o k1).2.2 β hβ
   exact ⟨this.1, this.2.1⟩)
  (fun i j o o' β ho ho' hβ hβ' => by
   obtain ⟨b, g, q1, k1⟩ := hospR i o ho
   obtain ⟨b', g', q1', k1'⟩ := hospR j o' ho'
   have e := (hS.inj _ _ o _ _ o' β k1 k1' hβ hβ').1
   subst e
   exact nodupB_spec hnd i j b q1 q1')
  (fun j o q ho hq => by
   rcases Nat.lt_or_ge j os.length with h | h
   ·rw [List.getElem?_append_left h] at ho
    rw [List.getElem?_append_left (by omega)] at hq
    obtain ⟨p, q1, k1, k2⟩ := hosp j o ho
    obtain ⟨z1, z2, z3⟩ := hin2 j p q q1 hq
    exact rowRep_in (blk := p.2) (blk' := ⟨j, q.1, q.2⟩) (k2.row (by rw [k2.sz, z1]; exact z2)) z1.symm z3 hLn
   ·have hj : j = os.length := by
     have := (List.getElem?_eq_some_iff.1 ho).1
     simp at this
     omega
    subst hj
    rw [List.getElem?_append_right (Nat.le_refl _), Nat.sub_self] at ho
    obtain rfl := Option.some.inj ho
    rw [List.getElem?_append_right (by omega), show os.length - bs.length = 0 by omega] at hq
    obtain rfl := Option.some.inj hq
    exact rowRep_in (blk := ⟨gR, szR, eR⟩) (blk' := ⟨os.length, szR, eRc⟩) hRrow rfl hinR hLn)
  ((by rw [List.length_map]; rw [ha.1, List.length_map] : (args.toList.map a.eval).length = cavs.length)) (fun i x u hx hu => by
   have hi : i < (args.toList.map (evA fr)).length := by rw [← ha.1]; exact (List.getElem?_eq_some_iff.1 hx).1
   exact hLn _ _ _ (ha.2 i _ x (List.getElem?_eq_getElem hi) hx) (hmr i _ u (List.getElem?_eq_getElem hi) hu))
 have hrun : (execOp a.eval ⟨dst, .call ⟨.value fx, args, ats⟩, ty, pos, after, gd⟩).run C.P w = .ok (.enter f (args.toList.map a.eval).toArray) w := by
  have : (args.toList.map a.eval).toArray = args.map a.eval := by
   apply Array.ext'
   rw [Array.toList_map]
  rw [this]
  simp [execOp, resolve, h1, Deferred.ofValue, invoke, F1]
 unfold Oper.wp
 rw [hrun, Oper.upon_enter]
 have hm1 : (bs ++ [(szR, eRc)]).length - 1 = os.length := by simp [hosl, hin1]
 rw [hm1] at hC
 have hlast : ∀ o, (os ++ [o0])[os.length]? = some o → o = o0 := fun o ho => by
  rw [List.getElem?_append_right (Nat.le_refl _), Nat.sub_self] at ho
  exact (Option.some.inj ho).symm
 refine hC.mono (fun e w' ⟨r, St, oR, he, hE, hs1, hs2, hs3, hsR, hrow, hrr⟩ => ?_)
 subst he
 have hset : (os ++ [o0]).set os.length oR = os ++ [oR] := by
  rw [List.set_append_right _ _ (Nat.le_refl _), Nat.sub_self]
  rfl
 rw [hset] at hrow hrr
 let cN : RC := (⟨c.own, c.used, St⟩ : RC).upd bR (gc + k) oR
 have hnR : ∀ p, p ∈ ls → p.1 ≠ bR := fun p hp e => by
  obtain ⟨j, hj⟩ := List.getElem?_of_mem hp
  have hjl := (List.getElem?_eq_some_iff.1 hj).1
  have := nodupB_spec hnd j ls.length bR (by rw [List.getElem?_append_left (by rw [List.length_map]; exact hjl), List.getElem?_map, hj, ← e]; rfl) (by rw [List.getElem?_append_right (by rw [List.length_map]; omega), List.length_map, Nat.sub_self]; rfl)
  omega
 have hosb : ∀ (j b g : Nat), (mmM ls bR (gc + k))[j]? = some (b, g) → ∃ o, (os ++ [oR])[j]? = some o ∧ cN.own b g = some o ∧ cN.used g := fun j b g h => by
  unfold mmM at h
  rcases Nat.lt_or_ge j ls.length with hj | hj
  ·rw [List.getElem?_append_left (by rw [List.length_map]; exact hj), List.getElem?_map] at h
   rw [List.getElem?_eq_getElem hj] at h
   simp only [Option.map_some, Option.some.injEq, Prod.mk.injEq] at h
   obtain ⟨rfl, rfl⟩ := h
   have hj' : j < os.length := by omega
   have h3 := (hos j _ _ (List.getElem?_eq_getElem hj) (List.getElem?_eq_getElem hj')).1
   refine ⟨os[j], by rw [List.getElem?_append_left hj']; exact List.getElem?_eq_getElem hj', ?_, .inl (hS.al _ _ _ h3).1⟩
   simp only [cN, RC.upd]
   rw [if_neg (hnR _ (List.getElem_mem hj))]
   exact h3
  ·rw [List.getElem?_append_right (by rw [List.length_map]; exact hj), List.length_map] at h
   have hj' : j = ls.length := by
    have := (List.getElem?_eq_some_iff.1 h).1
    simp at this
    omega
   subst hj'
   rw [Nat.sub_self] at h
   simp only [List.getElem?_cons_zero, Option.some.injEq, Prod.mk.injEq] at h
   obtain ⟨rfl, rfl⟩ := h
   exact ⟨oR, by rw [← hosl, List.getElem?_append_right (Nat.le_refl _), Nat.sub_self]; rfl, by simp [cN, RC.upd], .inr rfl⟩
 have hLb : ∀ x x' u, Lb (mmM ls bR (gc + k)) x x' → Rep (RC.lend (os ++ [oR]) St) w' x' u → Rep cN w' x u := fun x x' u h r => Lb.rep (own := cN.own) (used := cN.used) (St := St) hosb h r
 have hE' : Old (fun β => (∃ (j : Nat) (o : OB), os[j]? = some o ∧ o.loc = some β) ∨ ∃ g o, c.own bR g = some o ∧ o.loc = some β) w w' := by
  refine ⟨hE.os, hE.tape, hE.output, hE.size, fun q hq hn => hE.block q hq (fun ⟨j, o, h1, h2⟩ => hn ?_)⟩
  rcases Nat.lt_or_ge j os.length with h | h
  ·rw [List.getElem?_append_left h] at h1
   exact .inl ⟨j, o, h1, h2⟩
  ·have hj : j = os.length := by
    have := (List.getElem?_eq_some_iff.1 h1).1
    simp at this
    omega
   subst hj
   obtain rfl := hlast o h1
   exact .inr ⟨gR, o, hR1, h2⟩
 refine ⟨_, hS.lentM ls' os St bR ⟨gc + k, szR, eR'⟩ oR (by rw [hosl, ho1]) hfresh (fun p' hp' => ?_) (fun j p' o hp' ho => ?_) hE' hs1 (fun β hb => ?_) (fun β hb => ?_) ?_ dst v r hdst (hLb _ _ _ hres hrr), fun g hg => by rcases hg with hg | hg; exact .inl hg; exact .inr hg⟩
 ·obtain ⟨j, hj⟩ := List.getElem?_of_mem hp'
  have hjl : j < ls.length := by rw [← ho1]; exact (List.getElem?_eq_some_iff.1 hj).1
  have hjb : j < bs'.length := by omega
  have := (ho3 j _ p' _ (List.getElem?_eq_getElem hjl) hj (List.getElem?_eq_getElem hjb)).1
  rw [this]
  exact hnR _ (List.getElem_mem hjl)
 ·obtain ⟨p, q1, k1, k2⟩ := hosp j o ho
  have hjl : j < ls.length := (List.getElem?_eq_some_iff.1 q1).1
  have hjb : j < bs'.length := by omega
  have hjs : j < bs.length := by omega
  obtain ⟨z1, z2, z3, z4⟩ := ho3 j p p' _ q1 hp' (List.getElem?_eq_getElem hjb)
  obtain ⟨y1, y2, _⟩ := hin2 j p _ q1 (List.getElem?_eq_getElem hjs)
  refine ⟨by rw [z1, z2]; exact k1, ⟨p.2, by rw [z1]; exact hrd p (List.mem_append_left _ (List.mem_of_getElem? q1)), z2.symm⟩, ?_⟩
  have hrj := hrow j o bs[j] bs'[j] (by rw [List.getElem?_append_left (by omega)]; exact ho) (by rw [List.getElem?_append_left hjs]; exact List.getElem?_eq_getElem hjs) (by rw [List.getElem?_append_left hjb]; exact List.getElem?_eq_getElem hjb)
  exact rowRep_out (blk' := p'.2) hrj (by show p'.2.sz = bs[j].1; rw [z3, y1]) z4 hLb
 ·rcases hs2 β hb with h | h | ⟨o, h1, h2⟩
  ·exact .inl h
  ·exact .inr (.inl h)
  ·obtain rfl := hlast o h1
   exact .inr (.inr ⟨gR, o, hR1, h2⟩)
 ·obtain ⟨h1, h2⟩ := hsR β hb
  refine ⟨h1, ?_⟩
  rcases h2 with h2 | ⟨o, h2, h3⟩
  ·exact .inl h2
  ·obtain rfl := hlast o h2
   exact .inr ⟨gR, o, hR1, h3⟩
 ·have hrj := hrow os.length oR (szR, eRc) eRc' (by rw [List.getElem?_append_right (Nat.le_refl _), Nat.sub_self]; rfl) (by rw [List.getElem?_append_right (by omega), show os.length - bs.length = 0 by omega]; rfl) (by rw [List.getElem?_append_right (by omega), show os.length - bs'.length = 0 by omega]; rfl)
  exact rowRep_out (blk' := ⟨gc + k, szR, eR'⟩) hrj rfl houtR hLb
end
end Go.Proofs.YtfphgelollhdhaaGreat
namespace Go.Proofs.YtfphgelollhdhaaGreat
open Go Go.RowKit
set_option maxRecDepth 100000
theorem SimE.newRow {C : ACtx} {s : AS} {a : Act} {w : World} (h : SimE C s a w) (b sz : Nat) : SimE C ⟨s.fr, (b, some ⟨s.gc, sz, []⟩) :: s.hp, s.gc + 1⟩ a w := by
 obtain ⟨c, hS, hu⟩ := h
 have hg : ¬ c.used s.gc := fun k => absurd (hu _ k) (Nat.lt_irrefl _)
 have := hS.upd (w' := w) b ⟨s.gc, sz, []⟩ ⟨none, sz, 0⟩ (.inl hg) rfl rfl rfl (Nat.le_refl _) (fun _ _ _ => rfl) (fun β e => by cases e) (fun _ => .inl ⟨rfl, fun el he => (by cases he), rfl⟩) none .dead undef (fun e he => by cases he) (fun he => absurd rfl he)
 exact ⟨_, ⟨this.nd, this.sz, this.fr, this.hp, this.al, this.inj, this.st, this.st0, this.old, this.mo⟩, fun g hg => by
  rcases hg with hg | hg
  ·exact Nat.lt_succ_of_lt (hu g hg)
  ·show g < s.gc + 1
   rw [hg]
   exact Nat.lt_succ_self _⟩
theorem nil_own {C : ACtx} {s : AS} {c : RC} {a : Act} {w : World} (hS : Sim C s c a w) {b g sz sz' : Nat} {v : Value} (hb : lkH s.hp b = some ⟨g, sz', []⟩) (h0 : 0 < sz') (r : Rep c w (.sl sz true []) v) : Rep c w (.own b g 0 0) v := by
 obtain ⟨o, h1, hB⟩ := hS.hp b _ hb
 simp only at h1
 cases r with
 | sl _ _ _ A cap β o' us hn hm hf hn0 hz hA hc hr =>
  have hcap : cap = 0 := hf rfl
  refine .own b g 0 0 A 0 cap (hS.al b g o h1).1 (fun o2 ho2 => ?_)
  rw [h1] at ho2
  obtain rfl := Option.some.inj ho2
  exact ⟨rfl, Nat.zero_le _, hm, hn0, by rw [hB.sz]; exact h0, .inl hcap⟩
theorem SimE.nilF {C : ACtx} {s : AS} {a : Act} {w : World} (h : SimE C s a w) {t sz b g sz' : Nat} (ht : lkA s.fr t = .sl sz true []) (hb : lkH s.hp b = some ⟨g, sz', []⟩) (h0 : 0 < sz') : SimE C ⟨(t, .own b g 0 0) :: s.fr, s.hp, s.gc⟩ a w := by
 obtain ⟨c, hS, hu⟩ := h
 refine ⟨c, ⟨hS.nd, hS.sz, fun t' => ?_, hS.hp, hS.al, hS.inj, hS.st, hS.st0, hS.old, hS.mo⟩, hu⟩
 rw [lkA_cons]
 split
 ·rename_i e
  subst e
  have := hS.fr t'
  rw [ht] at this
  exact nil_own hS hb h0 this
 ·exact hS.fr t'
inductive Nw (b g : Nat) : AV → AV → Prop where
 | same (x : AV) : Nw b g x x
 | nil (sz : Nat) : Nw b g (.sl sz true []) (.own b g 0 0)
theorem SimE.nilH {C : ACtx} {s : AS} {a : Act} {w : World} (h : SimE C s a w) {b0 gen szb b g sz' : Nat} {els els' : List (List AV)} (hb0 : lkH s.hp b0 = some ⟨gen, szb, els⟩) (hz0 : 0 < szb) (hb : lkH s.hp b = some ⟨g, sz', []⟩) (h0 : 0 < sz') (hr : RelR (Nw b g) els els') : SimE C ⟨s.fr, (b0, some ⟨gen, szb, els'⟩) :: s.hp, s.gc⟩ a w := by
 obtain ⟨c, hS, hu⟩ := h
 refine ⟨c, ⟨hS.nd, hS.sz, hS.fr, fun b' blk hb' => ?_, fun b' g' o ho => ?_, hS.inj, hS.st, hS.st0, hS.old, hS.mo⟩, hu⟩
 ·simp only at hb'
  rw [lkH_cons] at hb'
  split at hb'
  ·rename_i e
   subst e
   obtain rfl := Option.some.inj hb'
   obtain ⟨o, q1, q2⟩ := hS.hp b' _ hb0
   refine ⟨o, q1, .inl (rowRep_in (blk := ⟨gen, szb, els⟩) (blk' := ⟨gen, szb, els'⟩) (q2.row (by rw [q2.sz]; exact hz0)) rfl hr (fun x x' u h1 h2 => ?_))⟩
   cases h1 with
   | same => exact h2
   | nil sz => exact nil_own hS hb h0 h2
  ·exact hS.hp b' blk hb'
 ·obtain ⟨k1, ⟨blk, k2, k3⟩, k4⟩ := hS.al b' g' o ho
  refine ⟨k1, ?_, k4⟩
  simp only
  by_cases e : b' = b0
  ·subst e
   rw [hb0] at k2
   obtain rfl := Option.some.inj k2
   exact ⟨⟨gen, szb, els'⟩, by rw [lkH_cons, if_pos rfl], k3⟩
  ·exact ⟨blk, by rw [lkH_cons, if_neg e]; exact k2, k3⟩
section
variable {C : ACtx} {fr : List (Nat × AV)} {hp : List (Nat × Option Blk)} {gc : Nat} {Q : Exit → AS → Prop} {c : Code}
theorem awp_newRow (b sz : Nat) (h : awp C c ⟨fr, (b, some ⟨gc, sz, []⟩) :: hp, gc + 1⟩ Q) : awp C c ⟨fr, hp, gc⟩ Q :=
 awp_weaken (fun a w hs => hs.newRow (s := ⟨fr, hp, gc⟩) b sz) h
theorem awp_nilF (t b : Nat) {sz g sz' : Nat} (ht : lkA fr t = .sl sz true []) (hb : lkH hp b = some ⟨g, sz', []⟩) (h0 : Nat.blt 0 sz' = true) (h : awp C c ⟨(t, .own b g 0 0) :: fr, hp, gc⟩ Q) : awp C c ⟨fr, hp, gc⟩ Q :=
 awp_weaken (fun a w hs => hs.nilF (s := ⟨fr, hp, gc⟩) ht hb (lt_of_blt h0)) h
theorem awp_nilH (b0 b : Nat) {gen szb g sz' : Nat} {els : List (List AV)} (els' : List (List AV)) (hb0 : lkH hp b0 = some ⟨gen, szb, els⟩) (hz0 : Nat.blt 0 szb = true) (hb : lkH hp b = some ⟨g, sz', []⟩) (h0 : Nat.blt 0 sz' = true) (hr : RelR (Nw b g) els els') (h : awp C c ⟨fr, (b0, some ⟨gen, szb, els'⟩) :: hp, gc⟩ Q) : awp C c ⟨fr, hp, gc⟩ Q :=
 awp_weaken (fun a w hs => hs.nilH (s := ⟨fr, hp, gc⟩) hb0 (lt_of_blt hz0) hb (lt_of_blt h0) hr) h
end
section
variable {P : Program} {T : Nat → Option TI} {ok : ∀ t ti, T t = some ti → tiOf P t = some ti} {nn : Nat} {w0 : World} {st0 lent : Nat → Prop} {rdd : Option Nat × Bool} {c00 : RC}
 {ops : Array Oper} {K : AS → List (List Nat × List Nat) → Prop} {k : Nat} {rest : List Oper} {fr : List (Nat × AV)} {hp : List (Nat × Option Blk)} {gc : Nat} {fps : List (List Nat × List Nat)}
 {d : Nat} {ty : TypeId} {pos : String} {after : Array Edge} {gd : Option (Nat × Bool)} {v : AV}
theorem callSt {dst : Option Nat} {fx : Operand} {args : Array Operand} {ats : Array TypeId} {f : FuncId} {cavs : List AV} {res : AV} {e1 e1' : List AV} {eR eR' : List (List AV)} (b g sz bR gR szR : Nat) (c1 c1' : List AV) (hF : FnM P f cavs [(sz, [e1]), (szR, eR)] res [[e1'], eR']) (hf : evA fr fx = .val (.func (.func f) #[] #[]))
  (hlk : lkH hp b = some ⟨g, sz, [c1]⟩) (hlkR : lkH hp bR = some ⟨gR, szR, eR⟩)
  (ha : RelL (Ln [(b, g), (bR, gR)]) (args.toList.map (evA fr)) cavs) (hne : nodupB [b, bR] = true) (hin : RelL (Ln [(b, g), (bR, gR)]) c1 e1) (hout : RelL (Lb [(b, g), (bR, gc + k)]) c1' e1') (hcl : ∀ el x, el ∈ eR → x ∈ el → Closed x) (hcl' : ∀ el x, el ∈ eR' → x ∈ el → Closed x) (hres : Lb [(b, g), (bR, gc + k)] v res)
  (hsz : Nat.blt 0 sz = true) (hszR : Nat.blt 0 szR = true) (hd : dOk nn dst = true) (hg : guardF ops fr ⟨dst, .call ⟨.value fx, args, ats⟩, ty, pos, after, gd⟩ = some true)
  (nx : ARun ⟨P, T, ok, nn, w0, st0, lent, rdd, c00⟩ ops K (k + 1) rest ⟨putFr fr dst v, (b, some ⟨g, sz, [c1']⟩) :: (bR, some ⟨gc + k, szR, eR'⟩) :: hp, gc⟩ (fps ++ [([b, bR], [b, bR])])) : ARun ⟨P, T, ok, nn, w0, st0, lent, rdd, c00⟩ ops K k (⟨dst, .call ⟨.value fx, args, ats⟩, ty, pos, after, gd⟩ :: rest) ⟨fr, hp, gc⟩ fps :=
 ARun.callM (bs := [(sz, [e1])]) (bs' := [[e1']]) [(b, ⟨g, sz, [c1]⟩)] [(b, ⟨g, sz, [c1']⟩)] bR gR szR eR eR' hF hf ha ⟨hlk, trivial⟩ hlkR hne ⟨⟨rfl, hsz, RelR.cons hin (RelR.nil _)⟩, trivial⟩ hszR (RelR.id (fun el x q1 q2 => .wk (.same _) (hcl el x q1 q2))) ⟨⟨rfl, rfl, rfl, RelR.cons hout (RelR.nil _)⟩, trivial⟩ (RelR.id (fun el x q1 q2 => .same _ (hcl' el x q1 q2))) hres (by cases dst <;> exact hd) (guardF_spec hg) nx
end
end Go.Proofs.YtfphgelollhdhaaGreat
namespace Go.Proofs.YtfphgelollhdhaaGreat
open Go Go.RowKit
set_option maxRecDepth 100000
inductive Wdn : AV → AV → Prop where
 | wk {v v' : AV} (h : Wk v v') : Wdn v v'
 | sl {sz : Nat} {full : Bool} {els els' : List (List AV)} (hl : els'.length = els.length) (hll : ∀ (i : Nat) (el el' : List AV), els[i]? = some el → els'[i]? = some el' → el'.length = el.length)
   (hr : ∀ (i : Nat) (el el' : List AV) (f : Nat) (x x' : AV), els[i]? = some el → els'[i]? = some el' → el[f]? = some x → el'[f]? = some x' → Wdn x x') : Wdn (.sl sz full els) (.sl sz false els')
theorem Wdn.slR {sz : Nat} {full : Bool} {els els' : List (List AV)} (h : RelR Wdn els els') : Wdn (.sl sz full els) (.sl sz false els') :=
 .sl h.1 (fun i el el' h1 h2 => (h.2 i el el' h1 h2).1) (fun i el el' f x x' h1 h2 h3 h4 => (h.2 i el el' h1 h2).2 f x x' h3 h4)
theorem Wdn.rep {c : RC} {w : World} {v v' : AV} (h : Wdn v v') : ∀ {u : Value}, Rep c w v u → Rep c w v' u := by
 induction h with
 | wk h => exact fun r => h.rep r
 | @sl sz full els els' hl hll _ ih =>
  intro u r
  cases r with
  | sl _ _ _ A cap β o us hn hm hf h0 hz hA hc hr =>
   have hget : ∀ (i : Nat) (el' : List AV), els'[i]? = some el' → ∃ el, els[i]? = some el ∧ el'.length = el.length := fun i el' hi => by
    have hi' : i < els.length := by rw [← hl]; exact (List.getElem?_eq_some_iff.1 hi).1
    exact ⟨els[i], List.getElem?_eq_getElem hi', hll i _ el' (List.getElem?_eq_getElem hi') hi⟩
   have hcell : ∀ (i : Nat) (el' : List AV) (f : Nat) (x' : AV), els'[i]? = some el' → el'[f]? = some x' → ∃ el x, els[i]? = some el ∧ el[f]? = some x := fun i el' f x' hi hx => by
    obtain ⟨el, h1, h2⟩ := hget i el' hi
    have hf : f < el.length := by rw [← h2]; exact (List.getElem?_eq_some_iff.1 hx).1
    exact ⟨el, el[f], h1, List.getElem?_eq_getElem hf⟩
   rw [show els.length = els'.length from hl.symm]
   refine .sl sz false els' A cap β o us (by rw [hl]; exact hn) hm (fun h => by cases h) h0 (fun el' hel => ?_) (fun he => hA (fun e => he ?_)) (fun i el' f x' hi hx => ?_) (fun i el' f x' hi hx => ?_)
   ·obtain ⟨i, hi⟩ := List.getElem?_of_mem hel
    obtain ⟨el, h1, h2⟩ := hget i el' hi
    rw [h2]
    exact hz el (List.mem_of_getElem? h1)
   ·rw [e] at hl
    exact List.eq_nil_of_length_eq_zero hl
   ·obtain ⟨el, x, h1, h2⟩ := hcell i el' f x' hi hx
    exact hc i el f x h1 h2
   ·obtain ⟨el, x, h1, h2⟩ := hcell i el' f x' hi hx
    exact ih i el el' f x x' h1 hi h2 hx (hr i el f x h1 h2)
theorem SimE.wdF {C : ACtx} {s : AS} {a : Act} {w : World} (h : SimE C s a w) {t : Nat} {x : AV} (hw : Wdn (lkA s.fr t) x) : SimE C ⟨(t, x) :: s.fr, s.hp, s.gc⟩ a w := by
 obtain ⟨c, hS, hu⟩ := h
 refine ⟨c, ⟨hS.nd, hS.sz, fun t' => ?_, hS.hp, hS.al, hS.inj, hS.st, hS.st0, hS.old, hS.mo⟩, hu⟩
 rw [lkA_cons]
 split
 ·rename_i e
  subst e
  exact hw.rep (hS.fr t')
 ·exact hS.fr t'
theorem awp_wdF {C : ACtx} {fr : List (Nat × AV)} {hp : List (Nat × Option Blk)} {gc : Nat} {Q : Exit → AS → Prop} {c : Code} (t : Nat) (x : AV) (hw : Wdn (lkA fr t) x) (h : awp C c ⟨(t, x) :: fr, hp, gc⟩ Q) : awp C c ⟨fr, hp, gc⟩ Q :=
 awp_weaken (fun a w hs => hs.wdF (s := ⟨fr, hp, gc⟩) hw) h
end Go.Proofs.YtfphgelollhdhaaGreat
namespace Go.Proofs.YtfphgelollhdhaaGreat
open Go Go.RowKit Go.ChangeShapes Go.WideShapes Go.Deep
set_option maxRecDepth 100000
section
variable {H : Type} {encT : TypeId × Value → H} {P : Program} {w : World} {base : Nat} {spare : Nat → Bool} {held : Bool}
end
end Go.Proofs.YtfphgelollhdhaaGreat
