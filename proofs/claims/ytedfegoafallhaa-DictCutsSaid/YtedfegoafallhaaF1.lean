/- Calls that are lent memory of the caller's own: the contract. -/
import Derived.Test.YtedfegoafallhaaE5
namespace Go.Proofs.Ytedfegoafallhaa
set_option linter.unusedVariables false
set_option linter.unusedSimpArgs false
open Go Go.RowKit
set_option maxRecDepth 100000

/-- Lent blocks have the numbers 1000, 1001 .., and the stamps 0, 1 .. -/
def lendOwn (os : List OB) : Nat → Nat → Option OB := fun b g => if b = 1000 + g then os[g]? else none
def RC.lend (os : List OB) (st : Nat → Prop) : RC := ⟨lendOwn os, fun g => g < os.length, st⟩
theorem lendOwn_at (os : List OB) (j : Nat) : lendOwn os (1000 + j) j = os[j]? := if_pos rfl
theorem lendOwn_some {os : List OB} {b g : Nat} {o : OB} (h : lendOwn os b g = some o) : b = 1000 + g ∧ os[g]? = some o := by
  unfold lendOwn at h
  split at h
  · rename_i e; exact ⟨e, h⟩
  · cases h
/-- A lent block: its elements' size, and they. -/
abbrev LB := Nat × List (List AV)
def hpFrom : Nat → List LB → List (Nat × Option Blk)
  | _, [] => []
  | k, p :: l => (1000 + k, some ⟨k, p.1, p.2⟩) :: hpFrom (k + 1) l
theorem lk_hpFrom : ∀ (l : List LB) (k b : Nat) (blk : Blk), lkH (hpFrom k l) b = some blk → ∃ j p, l[j]? = some p ∧ b = 1000 + (k + j) ∧ blk = ⟨k + j, p.1, p.2⟩
  | [], k, b, blk, h => by simp [hpFrom, lkH] at h
  | p :: l, k, b, blk, h => by
    rw [hpFrom, lkH_cons] at h
    split at h
    · rename_i e
      exact ⟨0, p, rfl, by omega, (Option.some.inj h).symm⟩
    · obtain ⟨j, q, h1, h2, h3⟩ := lk_hpFrom l (k + 1) b blk h
      exact ⟨j + 1, q, by simpa using h1, by omega, by rw [h3, show k + 1 + j = k + (j + 1) by omega]⟩
theorem lk_hpFrom_at : ∀ (l : List LB) (k j : Nat) (p : LB), l[j]? = some p → lkH (hpFrom k l) (1000 + (k + j)) = some ⟨k + j, p.1, p.2⟩
  | [], k, j, p, h => by simp at h
  | q :: l, k, j, p, h => by
    rw [hpFrom, lkH_cons]
    cases j with
    | zero =>
      simp only [List.getElem?_cons_zero, Option.some.injEq] at h
      subst h
      rw [if_pos (by omega)]
      rfl
    | succ j =>
      rw [if_neg (by omega)]
      have := lk_hpFrom_at l (k + 1) j p (by simpa using h)
      rw [show k + 1 + j = k + (j + 1) by omega] at this
      exact this

def FnL (P : Program) (f : FuncId) (args : List AV) (bs : List LB) (res : AV) (bs' : List (List (List AV))) : Prop :=
  (∀ (vs : Array Value) (w : World), (callFunc f vs).run P w = .ok (.enter f vs) w) ∧
  ∀ (w : World) (st : Nat → Prop) (vs : List Value) (os : List OB), (∀ β, st β → β < w.heap.size) → os.length = bs.length →
    (∀ (j : Nat) (o : OB) (β : Nat), os[j]? = some o → o.loc = some β → β < w.heap.size ∧ ¬ st β) →
    (∀ (i j : Nat) (o o' : OB) (β : Nat), os[i]? = some o → os[j]? = some o' → o.loc = some β → o'.loc = some β → i = j) →
    (∀ (j : Nat) (o : OB) (p : LB), os[j]? = some o → bs[j]? = some p → RowRep (RC.lend os st) w ⟨j, p.1, p.2⟩ o) →
    vs.length = args.length → (∀ (i : Nat) (x : AV) (u : Value), args[i]? = some x → vs[i]? = some u → Rep (RC.lend os st) w x u) →
    Calls P f vs.toArray w (fun e w' => ∃ r St, e = .returned r ∧ Old (fun β => ∃ (j : Nat) (o : OB), os[j]? = some o ∧ o.loc = some β) w w' ∧ (∀ β, st β → St β) ∧ (∀ β, St β → st β ∨ (w.heap.size ≤ β ∧ β < w'.heap.size)) ∧
      (∀ β, st β → w'.heap[β]? = w.heap[β]?) ∧
      (∀ (j : Nat) (o : OB) (p : LB) (els : List (List AV)), os[j]? = some o → bs[j]? = some p → bs'[j]? = some els → RowRep (RC.lend os St) w' ⟨j, p.1, els⟩ o) ∧ Rep (RC.lend os St) w' res r)

/-- Blocks are left out. -/
def hpNone : Nat → Nat → List (Nat × Option Blk)
  | _, 0 => []
  | k, n + 1 => (1000 + k, none) :: hpNone (k + 1) n
def dropHp (n : Nat) (hp : List (Nat × Option Blk)) : List (Nat × Option Blk) := hpNone 0 n ++ hp
theorem lk_hpNone : ∀ (n k b : Nat) (hp : List (Nat × Option Blk)), lkH (hpNone k n ++ hp) b = if 1000 + k ≤ b ∧ b < 1000 + k + n then none else lkH hp b
  | 0, k, b, hp => by rw [if_neg (by omega)]; rfl
  | n + 1, k, b, hp => by
    rw [hpNone, List.cons_append, lkH_cons, lk_hpNone n (k + 1) b hp]
    by_cases h : b = 1000 + k
    · rw [if_pos h, if_pos (by omega)]
    · rw [if_neg h]
      by_cases h2 : 1000 + (k + 1) ≤ b ∧ b < 1000 + (k + 1) + n
      · rw [if_pos h2, if_pos (by omega)]
      · rw [if_neg h2, if_neg (by omega)]

/-- What a lent block's cell is at the end: what never turns, or what is lent. -/
inductive Rl (n : Nat) (sX : AS) : AV → AV → Prop where
  | reif {x x' : AV} (h : Reif sX x x') : Rl n sX x x'
  | ptr (j i f : Nat) (hj : Nat.blt j n = true) : Rl n sX (.ptr (1000 + j) j i f) (.ptr (1000 + j) j i f)
  | own (j lo m : Nat) (hj : Nat.blt j n = true) : Rl n sX (.own (1000 + j) j lo m) (.own (1000 + j) j lo m)
  | clo {f : Fn} {first first' cap cap' : List AV} (hl : first'.length = first.length) (hr : ∀ (i : Nat) (x x' : AV), first[i]? = some x → first'[i]? = some x' → Rl n sX x x') (hl' : cap'.length = cap.length) (hr' : ∀ (i : Nat) (x x' : AV), cap[i]? = some x → cap'[i]? = some x' → Rl n sX x x') : Rl n sX (.clo f first cap) (.clo f first' cap')

def RlL (n : Nat) (sX : AS) (es es' : List AV) : Prop := es'.length = es.length ∧ ∀ (i : Nat) (x x' : AV), es[i]? = some x → es'[i]? = some x' → Rl n sX x x'
theorem RlL.nil (n : Nat) (sX : AS) : RlL n sX [] [] := ⟨rfl, fun i x x' h => by simp at h⟩
theorem RlL.cons {n : Nat} {sX : AS} {x x' : AV} {es es' : List AV} (h : Rl n sX x x') (t : RlL n sX es es') : RlL n sX (x :: es) (x' :: es') :=
  ⟨by simp [t.1], fun i y y' hy hy' => by
    cases i with
    | zero =>
      simp only [List.getElem?_cons_zero, Option.some.injEq] at hy hy'
      subst hy
      subst hy'
      exact h
    | succ i => exact t.2 i y y' (by simpa using hy) (by simpa using hy')⟩
def RlR (n : Nat) (sX : AS) (els els' : List (List AV)) : Prop := els'.length = els.length ∧ ∀ (i : Nat) (el el' : List AV), els[i]? = some el → els'[i]? = some el' → RlL n sX el el'
theorem RlR.nil (n : Nat) (sX : AS) : RlR n sX [] [] := ⟨rfl, fun i x x' h => by simp at h⟩
theorem RlR.cons {n : Nat} {sX : AS} {x x' : List AV} {es es' : List (List AV)} (h : RlL n sX x x') (t : RlR n sX es es') : RlR n sX (x :: es) (x' :: es') :=
  ⟨by simp [t.1], fun i y y' hy hy' => by
    cases i with
    | zero =>
      simp only [List.getElem?_cons_zero, Option.some.injEq] at hy hy'
      subst hy
      subst hy'
      exact h
    | succ i => exact t.2 i y y' (by simpa using hy) (by simpa using hy')⟩
theorem RlR.closed {n : Nat} {sX : AS} {els : List (List AV)} (h : ∀ el x, el ∈ els → x ∈ el → Closed x) : RlR n sX els els :=
  ⟨rfl, fun i el el' h1 h2 => by
    rw [h1] at h2
    obtain rfl := Option.some.inj h2
    exact ⟨rfl, fun k x x' h3 h4 => by
      rw [h3] at h4
      obtain rfl := Option.some.inj h4
      exact .reif (.closed x (h el x (List.mem_of_getElem? h1) (List.mem_of_getElem? h3)))⟩⟩

/-- The lent blocks at the end. -/
def LentEnd (n : Nat) (s sX : AS) : Nat → List LB → List (List (List AV)) → Prop
  | _, [], [] => True
  | j, p :: bs, els' :: bs' => (∃ els, lkH s.hp (1000 + j) = some ⟨j, p.1, els⟩ ∧ RlR n sX els els') ∧ LentEnd n s sX (j + 1) bs bs'
  | _, _, _ => False
theorem LentEnd.get {n : Nat} {s sX : AS} : ∀ {bs : List LB} {bs' : List (List (List AV))} {k : Nat}, LentEnd n s sX k bs bs' → ∀ (j : Nat) (p : LB), bs[j]? = some p → ∃ els' els, bs'[j]? = some els' ∧ lkH s.hp (1000 + (k + j)) = some ⟨k + j, p.1, els⟩ ∧ RlR n sX els els'
  | [], _, _, _, j, p, hp => by simp at hp
  | q :: bs, [], _, h, j, p, hp => h.elim
  | q :: bs, els' :: bs', k, h, j, p, hp => by
    cases j with
    | zero =>
      simp only [List.getElem?_cons_zero, Option.some.injEq] at hp
      subst hp
      obtain ⟨els, h1, h2⟩ := h.1
      exact ⟨els', els, rfl, h1, h2⟩
    | succ j =>
      obtain ⟨e1, e2, h1, h2, h3⟩ := h.2.get j p (by simpa using hp)
      rw [show k + 1 + j = k + (j + 1) by omega] at h2
      exact ⟨e1, e2, by simpa using h1, h2, h3⟩
def retLn (C : ACtx) (rs : Array ResultVar) (res : AV) (bs : List LB) (bs' : List (List (List AV))) : Exit → AS → Prop
  | .normal, s => ∃ vs, ResL C ⟨s.fr, dropHp bs.length s.hp, s.gc⟩ rs.toList vs ∧ res = retAV vs ∧ LentEnd bs.length s ⟨s.fr, dropHp bs.length s.hp, s.gc⟩ 0 bs bs'
  | .ret, s => ∃ vs, ResL C ⟨s.fr, dropHp bs.length s.hp, s.gc⟩ rs.toList vs ∧ res = retAV vs ∧ LentEnd bs.length s ⟨s.fr, dropHp bs.length s.hp, s.gc⟩ 0 bs bs'
  | _, _ => False

/-- Lent blocks are left out of a state. -/
theorem Sim.less {C : ACtx} {s : AS} {c : RC} {a : Act} {w : World} (hS : Sim C s c a w) (hp' : List (Nat × Option Blk)) (h : ∀ b, lkH hp' b = lkH s.hp b ∨ lkH hp' b = none) :
    Sim C ⟨s.fr, hp', s.gc⟩ ⟨fun b g => if lkH hp' b = none then none else c.own b g, c.used, c.st⟩ a w := by
  classical
  let c' : RC := ⟨fun b g => if lkH hp' b = none then none else c.own b g, c.used, c.st⟩
  have hown : ∀ b g o, c'.own b g = some o → c.own b g = some o ∧ lkH hp' b = lkH s.hp b := fun b g o ho => by
    simp only [c'] at ho
    split at ho
    · cases ho
    · rename_i hne
      exact ⟨ho, (h b).resolve_right hne⟩
  have hm : Mono c c' w w := ⟨fun β hb => ⟨hb, rfl⟩, fun g hg => hg, fun b g o _ ho => (hown b g o ho).1⟩
  refine ⟨hS.nd.step (fun _ hb => ⟨hb, rfl⟩), hS.sz, fun t => (hS.fr t).mono hm, fun b blk hb => ?_, fun b g o ho => ?_, fun b g o b' g' o' β k k' => hS.inj b g o b' g' o' β (hown _ _ _ k).1 (hown _ _ _ k').1, hS.st, hS.st0, hS.old, hS.mo.trans hm⟩
  · simp only at hb
    have e : lkH hp' b = lkH s.hp b := by
      rcases h b with e | e
      · exact e
      · rw [e] at hb; cases hb
    obtain ⟨o, q1, q2⟩ := hS.hp b blk (e ▸ hb)
    refine ⟨o, ?_, q2.mono hm (fun _ _ => rfl)⟩
    simp only [c']
    rw [if_neg (by rw [hb]; simp)]
    exact q1
  · obtain ⟨ho', e⟩ := hown b g o ho
    obtain ⟨q1, ⟨blk, q2, q3⟩, q4⟩ := hS.al b g o ho'
    exact ⟨q1, ⟨blk, e.trans q2, q3⟩, q4⟩
theorem Rl.rep {C : ACtx} {s : AS} {c : RC} {a : Act} {w : World} {n : Nat} {os : List OB} {hp' : List (Nat × Option Blk)} (hS : Sim C s c a w) (h : ∀ b, lkH hp' b = lkH s.hp b ∨ lkH hp' b = none) (hn : os.length = n) (hos : ∀ j, j < n → c.own (1000 + j) j = os[j]?)
    {x x' : AV} (r : Rl n ⟨s.fr, hp', s.gc⟩ x x') : ∀ {u : Value}, Rep c w x u → Rep (RC.lend os (RC.given ⟨fun b g => if lkH hp' b = none then none else c.own b g, c.used, c.st⟩)) w x' u := by
  classical
  have hm : Mono c ⟨fun b g => if lkH hp' b = none then none else c.own b g, c.used, c.st⟩ w w := ⟨fun β hb => ⟨hb, rfl⟩, fun g hg => hg, fun b g o _ ho => by
    simp only at ho
    split at ho
    · cases ho
    · exact ho⟩
  induction r with
  | reif hr => exact fun ru => hr.rep (hS.less hp' h) (ru.mono hm) _ _
  | ptr j i f hj =>
    have hj := lt_of_blt hj
    intro u ru
    cases ru with
    | ptr _ _ _ _ β o hu hp =>
      refine .ptr _ _ _ _ β o (by show j < os.length; omega) (fun q hq => hp q ?_)
      have hq : lendOwn os (1000 + j) j = some q := hq
      rw [lendOwn_at] at hq
      rw [hos j hj]
      exact hq
  | own j lo m hj =>
    have hj := lt_of_blt hj
    intro u ru
    cases ru with
    | own _ _ _ _ A m' cap hu hp =>
      refine .own _ _ _ _ A m' cap (by show j < os.length; omega) (fun q hq => hp q ?_)
      have hq : lendOwn os (1000 + j) j = some q := hq
      rw [lendOwn_at] at hq
      rw [hos j hj]
      exact hq
  | @clo f first first' cap cap' hl _ hl' _ ih ih' =>
    intro u ru
    cases ru with
    | clo _ _ _ us vs k1 k2 k3 k4 =>
      refine .clo f first' cap' us vs (k1.trans hl.symm) (k2.trans hl'.symm) (fun i x' u hx hu => ?_) (fun i x' u hx hu => ?_)
      · have hi : i < first.length := by rw [← hl]; exact (List.getElem?_eq_some_iff.1 hx).1
        exact ih i first[i] x' (List.getElem?_eq_getElem hi) hx (k3 i _ u (List.getElem?_eq_getElem hi) hu)
      · have hi : i < cap.length := by rw [← hl']; exact (List.getElem?_eq_some_iff.1 hx).1
        exact ih' i cap[i] x' (List.getElem?_eq_getElem hi) hx (k4 i _ u (List.getElem?_eq_getElem hi) hu)
theorem FnL.of_awp {P : Program} {T : Nat → Option TI} {ok : ∀ t ti, T t = some ti → tiOf P t = some ti} {f : FuncId} {fn : Func} {code : Code} {args : List AV} {bs : List LB} {res : AV} {bs' : List (List (List AV))} (hf : P.funcs[f]? = some fn)
    (hn : (fn.name == "runtime.NumGoroutine") = false) (hb : fn.body = some code) (hlen : Nat.ble args.length fn.ntmps = true) (hsz : bs.all (fun p => Nat.blt 0 p.1) = true)
    (h : ∀ (w0 : World) (st0 lent : Nat → Prop) (c0 : RC), awp ⟨P, T, ok, fn.ntmps, w0, st0, lent, (none, false), c0⟩ code ⟨frOf 0 args, hpFrom 0 bs, bs.length⟩ (retLn ⟨P, T, ok, fn.ntmps, w0, st0, lent, (none, false), c0⟩ fn.results res bs bs')) : FnL P f args bs res bs' := by
  refine ⟨fun vs w => ?_, fun w st vs os hst hos hloc hinj hrow hl hr => ?_⟩
  · have hn' : ¬ fn.name = "runtime.NumGoroutine" := by simpa using hn
    simp [callFunc, hf, hn', hb]
  · refine (callsIn_wide (n := 0)).1 (callsIn_of_wp_marks hf hb trivial ?_)
    have hle := Nat.le_of_ble_eq_true hlen
    let lent : Nat → Prop := fun β => ∃ (j : Nat) (o : OB), os[j]? = some o ∧ o.loc = some β
    let c0 : RC := RC.lend os st
    have hS : SimE ⟨P, T, ok, fn.ntmps, w, st, lent, (none, false), c0⟩ ⟨frOf 0 args, hpFrom 0 bs, bs.length⟩ { tmps := vs.toArray ++ Array.replicate (fn.ntmps - vs.toArray.size) undef, defers := [] } w := by
      refine ⟨c0, ⟨Nd.nil _ _ _ _, by simp; omega, fun t => ?_, fun b blk hb => ?_, fun b g o ho => ?_, fun b g o b' g' o' β h h' k k' => ?_, fun β hb => ⟨hst β hb, .inl hb⟩, fun β hb => hb, Old.refl _ _, Mono.refl _ _⟩, fun g hg => by show g < bs.length; rw [← hos]; exact hg⟩
      · simp only
        rw [lk_frOf]
        simp only [Nat.zero_le, if_true, Nat.sub_zero]
        cases hx : args[t]? with
        | none => exact .dead _
        | some x =>
          have ht : t < vs.length := by rw [hl]; exact (List.getElem?_eq_some_iff.1 hx).1
          have : (vs.toArray ++ Array.replicate (fn.ntmps - vs.toArray.size) undef).getD t undef = vs[t] := by
            simp [Array.getD_eq_getD_getElem?, Array.getElem?_append, ht]
          rw [this]
          have := hr t x vs[t] hx (List.getElem?_eq_getElem ht)
          simp only [Option.getD_some]
          exact this
      · obtain ⟨j, p, h1, h2, h3⟩ := lk_hpFrom bs 0 b blk hb
        subst h2
        subst h3
        rw [Nat.zero_add]
        have hj : j < os.length := by rw [hos]; exact (List.getElem?_eq_some_iff.1 h1).1
        exact ⟨os[j], (lendOwn_at os j).trans (List.getElem?_eq_getElem hj), .inl (hrow j _ p (List.getElem?_eq_getElem hj) h1)⟩
      · obtain ⟨rfl, h2⟩ := lendOwn_some ho
        have hj : g < bs.length := by rw [← hos]; exact (List.getElem?_eq_some_iff.1 h2).1
        have hlk := lk_hpFrom_at bs 0 g bs[g] (List.getElem?_eq_getElem hj)
        rw [Nat.zero_add] at hlk
        refine ⟨(List.getElem?_eq_some_iff.1 h2).1, ⟨_, hlk, rfl⟩, fun β hβ => ?_⟩
        obtain ⟨k1, k2⟩ := hloc g o β h2 hβ
        exact ⟨k1, k2, .inr ⟨g, o, h2, hβ⟩⟩
      · obtain ⟨rfl, h2⟩ := lendOwn_some h
        obtain ⟨rfl, h3⟩ := lendOwn_some h'
        have := hinj g g' o o' β h2 h3 k k'
        omega
    refine wpIn_mono (h w st lent c0 _ w hS) (fun e a' w' ⟨s', ⟨c', hS', _⟩, hq⟩ => ?_)
    have fin0 : ∀ (w2 : World) (c2 : RC), Sim ⟨P, T, ok, fn.ntmps, w, st, lent, (none, false), c0⟩ s' c2 { a' with defers := [] } w2 → ∀ vs', ResL ⟨P, T, ok, fn.ntmps, w, st, lent, (none, false), c0⟩ ⟨s'.fr, dropHp bs.length s'.hp, s'.gc⟩ fn.results.toList vs' → res = retAV vs' → LentEnd bs.length s' ⟨s'.fr, dropHp bs.length s'.hp, s'.gc⟩ 0 bs bs' → ∃ v, (results fn a'.tmps).run P w2 = .ok v w2 ∧ ∃ r St, Ending.returned v = .returned r ∧ Old lent w w2 ∧ (∀ β, st β → St β) ∧ (∀ β, St β → st β ∨ (w.heap.size ≤ β ∧ β < w2.heap.size)) ∧
        (∀ β, st β → w2.heap[β]? = w.heap[β]?) ∧
        (∀ (j : Nat) (o : OB) (p : LB) (els : List (List AV)), os[j]? = some o → bs[j]? = some p → bs'[j]? = some els → RowRep (RC.lend os St) w2 ⟨j, p.1, els⟩ o) ∧ Rep (RC.lend os St) w2 res r := by
      intro w' c' hS' vs' hv he hle'
      have hlk : ∀ b, lkH (dropHp bs.length s'.hp) b = lkH s'.hp b ∨ lkH (dropHp bs.length s'.hp) b = none := fun b => by
        unfold dropHp
        rw [lk_hpNone]
        split
        · exact .inr rfl
        · exact .inl rfl
      have hSX := hS'.less (dropHp bs.length s'.hp) hlk
      have hown : ∀ j, j < bs.length → c'.own (1000 + j) j = os[j]? := fun j hj => by
        obtain ⟨els', els, h1, h2, h3⟩ := hle'.get j bs[j] (List.getElem?_eq_getElem hj)
        rw [Nat.zero_add] at h2
        obtain ⟨o, k1, _⟩ := hS'.hp _ _ h2
        have k2 := hS'.mo.own (1000 + j) j o (by show j < os.length; omega) k1
        have k3 : lendOwn os (1000 + j) j = some o := k2
        rw [lendOwn_at] at k3
        rw [k1, k3]
      obtain ⟨us, g1, g2, g3⟩ := hv.run hSX
      let cX : RC := ⟨fun b g => if lkH (dropHp bs.length s'.hp) b = none then none else c'.own b g, c'.used, c'.st⟩
      have hgiv : ∀ β, cX.given β → st β ∨ (w.heap.size ≤ β ∧ β < w'.heap.size) := fun β hb => by
        rcases hb with hb | ⟨b, g, o, h1, h2⟩
        · obtain ⟨k1, k2 | k2 | ⟨j, o, k2, k3⟩⟩ := hS'.st β hb
          · exact .inl k2
          · exact .inr ⟨k2, k1⟩
          · have hj : j < bs.length := by rw [← hos]; exact (List.getElem?_eq_some_iff.1 k2).1
            exact absurd hb ((hS'.al _ _ o ((hown j hj).trans k2)).2.2 β k3).2.1
        · have h1' := h1
          simp only [cX] at h1'
          split at h1'
          · cases h1'
          · rename_i hne
            obtain ⟨k1, k2, k3 | ⟨j, o', k3, k4⟩⟩ := (hS'.al b g o h1').2.2 β h2
            · exact .inr ⟨k3, k1⟩
            · have hj : j < bs.length := by rw [← hos]; exact (List.getElem?_eq_some_iff.1 k3).1
              have := (hS'.inj b g o _ _ o' β h1' ((hown j hj).trans k3) h2 k4).1
              refine absurd ?_ hne
              unfold dropHp
              rw [lk_hpNone, if_pos (by omega)]
      refine ⟨retV us, run_results g1, retV us, cX.given, rfl, hS'.old, fun β hb => .inl (hS'.st0 β hb), hgiv, fun β hb => hS'.old.block β (hst β hb) (fun ⟨j, o, k1, k2⟩ => (hloc j o β k1 k2).2 hb), fun j o p els ho hp hels => ?_, ?_⟩
      · have hj : j < bs.length := (List.getElem?_eq_some_iff.1 hp).1
        obtain ⟨els', els0, h1, h2, h3⟩ := hle'.get j p hp
        rw [Nat.zero_add] at h2
        rw [hels] at h1
        obtain rfl := Option.some.inj h1
        obtain ⟨o', k1, kB⟩ := hS'.hp _ _ h2
        simp only at k1
        rw [hown j hj, ho] at k1
        obtain rfl := Option.some.inj k1
        have hp0 : 0 < p.1 := lt_of_blt (List.all_eq_true.1 hsz p (List.mem_of_getElem? hp))
        obtain ⟨r1, r2, r3⟩ := kB.row (by rw [kB.sz]; exact hp0)
        have hlen : ∀ (i : Nat) (el : List AV), els[i]? = some el → ∃ el0, els0[i]? = some el0 ∧ RlL bs.length ⟨s'.fr, dropHp bs.length s'.hp, s'.gc⟩ el0 el := fun i el hi => by
          have hi' : i < els0.length := by rw [← h3.1]; exact (List.getElem?_eq_some_iff.1 hi).1
          exact ⟨els0[i], List.getElem?_eq_getElem hi', h3.2 i _ el (List.getElem?_eq_getElem hi') hi⟩
        refine ⟨r1, fun el hel => ?_, ?_⟩
        · obtain ⟨i, hi⟩ := List.getElem?_of_mem hel
          obtain ⟨el0, q1, q2⟩ := hlen i el hi
          rw [q2.1]
          exact r2 el0 (List.mem_of_getElem? q1)
        · cases hl : o.loc with
          | none =>
            rw [hl] at r3
            simp only at r3 ⊢
            have := h3.1
            rw [r3] at this
            exact List.eq_nil_of_length_eq_zero this
          | some β =>
            rw [hl] at r3
            obtain ⟨cur, e, q1, q2, q3⟩ := r3
            refine ⟨cur, e, q1, q2, fun i el f x hi hx => ?_⟩
            obtain ⟨el0, t1, t2⟩ := hlen i el hi
            have hf : f < el0.length := by rw [← t2.1]; exact (List.getElem?_eq_some_iff.1 hx).1
            obtain ⟨u, u1, u2, u3⟩ := q3 i el0 f el0[f] t1 (List.getElem?_eq_getElem hf)
            exact ⟨u, u1, u2, Rl.rep hS' hlk hos hown (t2.2 f _ x (List.getElem?_eq_getElem hf) hx) u3⟩
      · subst he
        have one : ∀ (l : List AV) (l' : List Value), l'.length = l.length → (∀ (i : Nat) (x : AV) (u : Value), l[i]? = some x → l'[i]? = some u → Rep (RC.lend os cX.given) w' x u) → Rep (RC.lend os cX.given) w' (retAV l) (retV l') := by
          intro l l' hl' hr'
          match l, l', hl' with
          | [], [], _ => exact .tup [] [] rfl hr'
          | [x], [u], _ => exact hr' 0 x u rfl rfl
          | x :: y :: l, u :: v :: l', h' => exact .tup _ _ h' hr'
        exact one vs' us g2 (fun i x u hx hu => g3 i x u hx hu _ _)
    have fin : (∃ vs', ResL ⟨P, T, ok, fn.ntmps, w, st, lent, (none, false), c0⟩ ⟨s'.fr, dropHp bs.length s'.hp, s'.gc⟩ fn.results.toList vs' ∧ res = retAV vs' ∧ LentEnd bs.length s' ⟨s'.fr, dropHp bs.length s'.hp, s'.gc⟩ 0 bs bs') → LeavesInM Fence.wide 0 P fn a'.tmps (fun e w2 => ∃ r St, e = .returned r ∧ Old lent w w2 ∧ (∀ β, st β → St β) ∧ (∀ β, St β → st β ∨ (w.heap.size ≤ β ∧ β < w2.heap.size)) ∧
        (∀ β, st β → w2.heap[β]? = w.heap[β]?) ∧
        (∀ (j : Nat) (o : OB) (p : LB) (els : List (List AV)), os[j]? = some o → bs[j]? = some p → bs'[j]? = some els → RowRep (RC.lend os St) w2 ⟨j, p.1, els⟩ o) ∧ Rep (RC.lend os St) w2 res r) a'.defers .returning w' := by
      intro ⟨vs', hv, he, hle'⟩
      refine leavesM a'.defers w' hS'.nd (fun w1 k1 k2 k3 k4 k5 => ?_)
      exact fin0 w1 _ (hS'.shut (w1 := w1) (fun β => ({ target := .collected β, args := #[] } : Deferred) ∈ a'.defers) (fun β hβ => by
        obtain ⟨D, g1, g2, g3, g4⟩ := hS'.nd.at_ _ hβ
        obtain rfl : β = D := by cases g1; rfl
        exact ⟨g2, g3, _, g4⟩) k1 k2 k3 k4 k5 (fun β hb => hst β hb) (fun β hb => hst β hb)) vs' hv he hle'
    cases e <;> first
      | exact fin hq
      | exact hq.elim
end Go.Proofs.Ytedfegoafallhaa
