/- Regions: each operation does what it does wherever its operands and the blocks that it reads are as told; so a region may be run in the text's order, whatever order is drawn. -/
import Derived.Test.YtedfegoafallhaaA1
namespace Go.Proofs.Ytedfegoafallhaa
set_option linter.unusedVariables false
set_option linter.unusedSimpArgs false
open Go Go.RowKit

structure AS.eqv (s s' : AS) : Prop where
  fr : ∀ t, lkA s.fr t = lkA s'.fr t
  hp : ∀ b, lkH s.hp b = lkH s'.hp b
  gc : s.gc = s'.gc
theorem AS.eqv.refl (s : AS) : s.eqv s := ⟨fun _ => rfl, fun _ => rfl, rfl⟩
theorem AS.eqv.symm {s s' : AS} (h : s.eqv s') : s'.eqv s := ⟨fun t => (h.fr t).symm, fun t => (h.hp t).symm, h.gc.symm⟩
theorem AS.eqv.trans {a b c : AS} (h : a.eqv b) (k : b.eqv c) : a.eqv c := ⟨fun t => (h.fr t).trans (k.fr t), fun t => (h.hp t).trans (k.hp t), h.gc.trans k.gc⟩
theorem AS.eqv.ev {s s' : AS} (h : s.eqv s') (x : Operand) : s.ev x = s'.ev x := by
  cases x with
  | tmp t => exact h.fr t
  | _ => rfl

theorem Sim.congr {C : ACtx} {s s' : AS} {c : RC} {a : Act} {w : World} (h : Sim C s c a w) (e1 : ∀ t, lkA s.fr t = lkA s'.fr t) (e2 : ∀ b, lkH s.hp b = lkH s'.hp b) : Sim C s' c a w :=
  ⟨h.nd, h.sz, fun t => e1 t ▸ h.fr t, fun b blk hb => h.hp b blk ((e2 b).trans hb), fun b g o ho => by
    obtain ⟨h1, ⟨blk, h2, h3⟩, h4⟩ := h.al b g o ho
    exact ⟨h1, ⟨blk, (e2 b) ▸ h2, h3⟩, h4⟩, h.inj, h.st, h.st0, h.old, h.mo⟩

theorem lkH_append (u l : List (Nat × Option Blk)) (b : Nat) (h : ∀ p ∈ u, p.1 ≠ b) : lkH (u ++ l) b = lkH l b := by
  induction u with
  | nil => rfl
  | cons p u ih =>
    obtain ⟨k, v⟩ := p
    simp only [List.cons_append, lkH_cons]
    rw [if_neg (fun e => h (k, v) (by simp) e.symm), ih (fun p hp => h p (by simp [hp]))]
theorem lkH_append_congr (u l l' : List (Nat × Option Blk)) (h : ∀ b, lkH l b = lkH l' b) (b : Nat) : lkH (u ++ l) b = lkH (u ++ l') b := by
  induction u with
  | nil => exact h b
  | cons p u ih =>
    obtain ⟨k, v⟩ := p
    simp only [List.cons_append, lkH_cons]
    rw [ih]
theorem lkH_swap (u v l : List (Nat × Option Blk)) (h : ∀ p ∈ u, ∀ q ∈ v, p.1 ≠ q.1) (b : Nat) : lkH (u ++ (v ++ l)) b = lkH (v ++ (u ++ l)) b := by
  by_cases hu : ∀ p ∈ u, p.1 ≠ b
  · rw [lkH_append u _ b hu]
    exact lkH_append_congr v _ _ (fun b' => rfl) b |>.trans (by
      induction v with
      | nil => simp only [List.nil_append]; exact (lkH_append u l b hu).symm
      | cons q v ih =>
        obtain ⟨k, x⟩ := q
        simp only [List.cons_append, lkH_cons]
        rw [ih (fun p hp q hq => h p hp q (by simp [hq]))])
  · have hv : ∀ q ∈ v, q.1 ≠ b := by
      intro q hq e
      refine hu (fun p hp e' => h p hp q hq (e'.trans e.symm))
    rw [lkH_append v _ b hv]
    induction u with
    | nil => simp only [List.nil_append]; exact lkH_append v l b hv
    | cons p u ih =>
      obtain ⟨k, x⟩ := p
      simp only [List.cons_append, lkH_cons]
      split
      · rfl
      · rename_i hk
        by_cases hu' : ∀ p ∈ u, p.1 ≠ b
        · rw [lkH_append u _ b hu', lkH_append u _ b hu', lkH_append v _ b hv]
        · exact ih (fun p hp q hq => h p (by simp [hp]) q hq) hu'

/-- What an operation does, in whatever state its operands read so and the blocks that it reads are these. G: the stamp's base. -/
def Does (C : ACtx) (G i : Nat) (o : Oper) (args : List AV) (rd : List (Nat × Blk)) (v : AV) (ups : List (Nat × Option Blk)) : Prop :=
  ∀ (s : AS) (c : RC) (a : Act) (w : World), Sim C s c a w → ¬ c.used (G + i) → o.op.operands.toList.map s.ev = args → (∀ p, p ∈ rd → lkH s.hp p.1 = some p.2) →
    o.wp C.P a w (fun a' w' => ∃ c', Sim C (s.app o.dst v ups) c' a' w' ∧ ∀ g, c'.used g → c.used g ∨ g = G + i) (fun _ _ _ => False)

structure It where
  k : Nat
  o : Oper
  on : Bool
  args : List AV
  rd : List (Nat × Blk)
  v : AV
  ups : List (Nat × Option Blk)
def It.app (it : It) (s : AS) : AS := s.app it.o.dst it.v it.ups

/-- What a guard says. -/
def guardIs (ops : Array Oper) (s : AS) (o : Oper) (on : Bool) : Prop :=
  match o.guard with
  | none => on = true
  | some (j, want) => ∃ oj d, ops[j]? = some oj ∧ oj.dst = some d ∧ ((∃ b, lkA s.fr d = .val (.bool b) ∧ on = (b == want)) ∨ (∃ vs, lkA s.fr d = .val (.tuple vs) ∧ on = false))

def dstOk (n : Nat) (o : Oper) : Prop := ∀ d, o.dst = some d → d < n

def ItOk (C : ACtx) (ops : Array Oper) (s : AS) (it : It) : Prop :=
  guardIs ops s it.o it.on ∧
  (if it.on = true then it.o.op.operands.toList.map s.ev = it.args ∧ (∀ p, p ∈ it.rd → lkH s.hp p.1 = some p.2) ∧ Does C s.gc it.k it.o it.args it.rd it.v it.ups
   else it.v = .val undef ∧ it.ups = [] ∧ it.rd = [])

def Valid (C : ACtx) (ops : Array Oper) : AS → List It → Prop
  | _, [] => True
  | s, it :: l => ItOk C ops s it ∧ Valid C ops (it.app s) l
def final : AS → List It → AS
  | s, [] => s
  | s, it :: l => final (it.app s) l

structure Apart (ops : Array Oper) (x y : It) : Prop where
  ap : x.o.apart ops y.o = true
  uu : ∀ p ∈ x.ups, ∀ q ∈ y.ups, p.1 ≠ q.1
  ur : ∀ p ∈ x.ups, ∀ q ∈ y.rd, p.1 ≠ q.1
  ru : ∀ p ∈ x.rd, ∀ q ∈ y.ups, p.1 ≠ q.1


section
variable {C : ACtx} {ops : Array Oper}
theorem app_eqv {s s' : AS} (h : s.eqv s') (it : It) : (it.app s).eqv (it.app s') :=
  ⟨fun t => by simp only [It.app, AS.app, lk_putFr, h.fr t], fun b => lkH_append_congr _ _ _ h.hp b, h.gc⟩
theorem ev_app {s : AS} {it : It} {x : Operand} (h : ∀ d, it.o.dst = some d → x ≠ .tmp d) : (it.app s).ev x = s.ev x := by
  cases x with
  | tmp t =>
    simp only [It.app, AS.app, AS.ev, evA, lk_putFr]
    rw [if_neg]
    intro e
    exact h t e rfl
  | _ => rfl
theorem guardIs.congr {s s' : AS} {o : Oper} {on : Bool} (h : guardIs ops s o on) (hf : ∀ g want oj d, o.guard = some (g, want) → ops[g]? = some oj → oj.dst = some d → lkA s'.fr d = lkA s.fr d) : guardIs ops s' o on := by
  unfold guardIs at *
  split at h
  · exact h
  · rename_i j want hg
    obtain ⟨oj, d, h1, h2, h3⟩ := h
    refine ⟨oj, d, h1, h2, ?_⟩
    rw [hf j want oj d hg h1 h2]
    exact h3
theorem ItOk.congr {s s' : AS} {it : It} (h : ItOk C ops s it) (he : ∀ x ∈ it.o.op.operands, s'.ev x = s.ev x) (hg : ∀ g want oj d, it.o.guard = some (g, want) → ops[g]? = some oj → oj.dst = some d → lkA s'.fr d = lkA s.fr d)
    (hr : ∀ p ∈ it.rd, lkH s'.hp p.1 = lkH s.hp p.1) (hgc : s'.gc = s.gc) : ItOk C ops s' it := by
  obtain ⟨h2, h3⟩ := h
  refine ⟨h2.congr hg, ?_⟩
  split
  · rename_i hon
    rw [if_pos hon] at h3
    refine ⟨?_, fun p hp => (hr p hp).trans (h3.2.1 p hp), hgc ▸ h3.2.2⟩
    rw [← h3.1]
    exact List.map_congr_left (fun x hx => he x (by simpa using hx))
  · rename_i hon
    rw [if_neg hon] at h3
    exact h3
theorem ItOk.eqv {s s' : AS} {it : It} (h : ItOk C ops s it) (e : s.eqv s') : ItOk C ops s' it :=
  h.congr (fun x _ => (e.ev x).symm) (fun _ _ _ d _ _ _ => (e.fr d).symm) (fun p _ => (e.hp p.1).symm) e.gc.symm
theorem Valid.eqv : ∀ (l : List It) {s s' : AS}, Valid C ops s l → s.eqv s' → Valid C ops s' l
  | [], _, _, _, _ => trivial
  | it :: l, _, _, h, e => ⟨h.1.eqv e, Valid.eqv l h.2 (app_eqv e it)⟩
theorem final_eqv : ∀ (l : List It) {s s' : AS}, s.eqv s' → (final s l).eqv (final s' l)
  | [], _, _, e => e
  | it :: l, _, _, e => final_eqv l (app_eqv e it)

theorem mem_looks_op {o : Oper} {t : Nat} (h : Operand.tmp t ∈ o.op.operands) : t ∈ o.looksAt ops :=
  List.mem_append_left _ (List.mem_filterMap.2 ⟨.tmp t, by simpa using h, rfl⟩)
theorem mem_looks_guard {o oj : Oper} {g : Nat} {want : Bool} {d : Nat} (hg : o.guard = some (g, want)) (hj : ops[g]? = some oj) (hd : oj.dst = some d) : d ∈ o.looksAt ops := by
  refine List.mem_append_right _ ?_
  simp [hg, hj, hd]

/-- An item that is apart of the one ahead of it may come ahead. -/
theorem ItOk.back {s : AS} {x y : It} (h : ItOk C ops (x.app s) y) (ha : ∀ d, x.o.dst = some d → d ∉ y.o.looksAt ops) (hu : ∀ p ∈ x.ups, ∀ q ∈ y.rd, p.1 ≠ q.1) : ItOk C ops s y := by
  refine h.congr (fun z hz => (ev_app (fun d hd e => ha d hd (mem_looks_op (by rw [← e]; exact hz)))).symm) (fun g want oj d hg hj hd => ?_) (fun p hp => ?_) rfl
  · simp only [It.app, AS.app, lk_putFr]
    rw [if_neg (fun e => ha d e (mem_looks_guard hg hj hd))]
  · simp only [It.app, AS.app]
    exact (lkH_append _ _ _ (fun q hq => hu q hq p hp)).symm
theorem ItOk.fwd {s : AS} {x y : It} (h : ItOk C ops s y) (ha : ∀ d, x.o.dst = some d → d ∉ y.o.looksAt ops) (hu : ∀ p ∈ x.ups, ∀ q ∈ y.rd, p.1 ≠ q.1) : ItOk C ops (x.app s) y := by
  refine h.congr (fun z hz => (ev_app (fun d hd e => ha d hd (mem_looks_op (by rw [← e]; exact hz))))) (fun g want oj d hg hj hd => ?_) (fun p hp => ?_) rfl
  · simp only [It.app, AS.app, lk_putFr]
    rw [if_neg (fun e => ha d e (mem_looks_guard hg hj hd))]
  · simp only [It.app, AS.app]
    exact (lkH_append _ _ _ (fun q hq => hu q hq p hp))
theorem app_swap {s : AS} {x y : It} (hd : ∀ d, x.o.dst = some d → y.o.dst ≠ some d) (hu : ∀ p ∈ x.ups, ∀ q ∈ y.ups, p.1 ≠ q.1) : (y.app (x.app s)).eqv (x.app (y.app s)) := by
  refine ⟨fun t => ?_, fun b => ?_, rfl⟩
  · simp only [It.app, AS.app, lk_putFr]
    by_cases h1 : y.o.dst = some t
    · rw [if_pos h1, if_neg (fun e => hd t e h1)]
      simp [h1]
    · rw [if_neg h1]
      try rw [if_neg h1]
  · simp only [It.app, AS.app]
    exact (lkH_swap _ _ _ hu b).symm

theorem Valid.front : ∀ (l1 : List It) {s : AS} {y : It} {l2 : List It}, Valid C ops s (l1 ++ y :: l2) → (∀ x ∈ l1, Apart ops x y) →
    ItOk C ops s y ∧ Valid C ops (y.app s) (l1 ++ l2) ∧ (final s (l1 ++ y :: l2)).eqv (final (y.app s) (l1 ++ l2))
  | [], _, _, _, h, _ => ⟨h.1, h.2, AS.eqv.refl _⟩
  | x :: l1, s, y, l2, h, ha => by
    obtain ⟨h1, h2⟩ := h
    obtain ⟨k1, k2, k3⟩ := Valid.front l1 h2 (fun z hz => ha z (by simp [hz]))
    have hx := ha x (by simp)
    obtain ⟨e1, e2, e3⟩ := Oper.apart_spec hx.ap
    have hsw := app_swap (s := s) e2 hx.uu
    refine ⟨k1.back e1 hx.ur, ⟨h1.fwd (fun d hd => e3 d hd) (fun p hp q hq => ?_), k2.eqv _ hsw⟩, k3.trans (final_eqv _ hsw)⟩
    exact fun e => hx.ru q hq p hp e.symm
end

/-- Ahead of another one, by edges that bind in each order. -/
inductive Anc (ops : List Oper) : Nat → Nat → Prop where
  | edge {k : Nat} {o : Oper} {e : Edge} (h : ops[k]? = some o) (he : e ∈ o.after.toList) (hb : Region.binds .any e = true) : Anc ops e.on k
  | step {i k : Nat} {o : Oper} {e : Edge} (h : ops[k]? = some o) (he : e ∈ o.after.toList) (hb : Region.binds .any e = true) (hi : Anc ops i e.on) : Anc ops i k

def ancOf (acc : List Nat) (l : List Edge) (s : Nat) : Nat := l.foldl (fun s e => if Region.binds .any e then s ||| (2 ^ e.on ||| acc.getD e.on 0) else s) s
def ancAll : List Oper → List Nat → List Nat
  | [], acc => acc
  | o :: r, acc => ancAll r (acc ++ [ancOf acc o.after.toList 0])

theorem ancOf_spec (acc : List Nat) : ∀ (l : List Edge) (s i : Nat), (ancOf acc l s).testBit i = true → s.testBit i = true ∨ ∃ e ∈ l, Region.binds .any e = true ∧ (e.on = i ∨ (acc.getD e.on 0).testBit i = true)
  | [], s, i, h => .inl h
  | e :: l, s, i, h => by
    have h' : (ancOf acc l (if Region.binds .any e then s ||| (2 ^ e.on ||| acc.getD e.on 0) else s)).testBit i = true := h
    rcases ancOf_spec acc l _ i h' with k | ⟨e', he', k⟩
    · split at k
      · rename_i hb
        rw [Nat.testBit_or, Nat.testBit_or, Bool.or_eq_true, Bool.or_eq_true, Nat.testBit_two_pow] at k
        rcases k with k | k | k
        · exact .inl k
        · exact .inr ⟨e, by simp, hb, .inl (of_decide_eq_true k)⟩
        · exact .inr ⟨e, by simp, hb, .inr k⟩
      · exact .inl k
    · exact .inr ⟨e', by simp [he'], k⟩

theorem ancAll_spec (ops : List Oper) : ∀ (r : List Oper) (acc : List Nat), (∀ k o, r[k]? = some o → ops[acc.length + k]? = some o) → (∀ k m i, acc[k]? = some m → m.testBit i = true → Anc ops i k) →
    ∀ k m i, (ancAll r acc)[k]? = some m → m.testBit i = true → Anc ops i k
  | [], acc, _, h, k, m, i, hk, hm => h k m i hk hm
  | o :: r, acc, hr, h, k, m, i, hk, hm => by
    refine ancAll_spec ops r (acc ++ [ancOf acc o.after.toList 0]) (fun j o' hj => ?_) (fun j m' i' hj hm' => ?_) k m i hk hm
    · have := hr (j + 1) o' (by simpa using hj)
      rw [List.length_append, List.length_singleton, Nat.add_assoc, Nat.add_comm 1 j]
      exact this
    · rcases Nat.lt_trichotomy j acc.length with hlt | heq | hgt
      · rw [List.getElem?_append_left hlt] at hj
        exact h j m' i' hj hm'
      · subst heq
        rw [List.getElem?_append_right (Nat.le_refl _), Nat.sub_self] at hj
        simp only [List.getElem?_cons_zero, Option.some.injEq] at hj
        subst hj
        have ho := hr 0 o rfl
        rw [Nat.add_zero] at ho
        rcases ancOf_spec acc _ 0 i' hm' with k' | ⟨e, he, hb, k' | k'⟩
        · simp at k'
        · subst k'
          exact .edge ho he hb
        · refine .step ho he hb ?_
          cases hg : acc[e.on]? with
          | none => rw [List.getD_eq_getElem?_getD, hg] at k'; simp at k'
          | some m'' =>
            rw [List.getD_eq_getElem?_getD, hg] at k'
            exact h _ _ _ hg k'
      · rw [List.getElem?_eq_none (by simp; omega)] at hj
        cases hj

def disj (a b : List Nat) : Bool := a.all fun x => !b.contains x
theorem disj_spec {a b : List Nat} (h : disj a b = true) : ∀ x ∈ a, ∀ y ∈ b, x ≠ y := by
  intro x hx y hy e
  subst e
  have := List.all_eq_true.1 h x hx
  simp at this
  exact this hy

def pairOk (ops : Array Oper) (anc : Nat) (i : Nat) (oi oj : Oper) (fi fj : List Nat × List Nat) : Bool :=
  anc.testBit i || (oi.apart ops oj && disj fi.2 fj.2 && disj fi.2 fj.1 && disj fi.1 fj.2)
/-- All pairs of a region: one comes ahead of the other by edges, or they are apart. -/
def pairsOk (ops : Array Oper) (ancs : List Nat) : List (Oper × List Nat × List Nat) → Nat → List (Nat × Oper × List Nat × List Nat) → Bool
  | [], _, _ => true
  | (o, f) :: r, j, seen => (seen.all fun p => pairOk ops (ancs.getD j 0) p.1 p.2.1 o p.2.2 f) && pairsOk ops ancs r (j + 1) ((j, o, f) :: seen)
def regOk (l : List Oper) (fps : List (List Nat × List Nat)) : Bool :=
  (l.zipIdx.all fun p => p.1.after.toList.all fun e => !Region.binds .any e || decide (e.on < p.2)) &&
  decide (fps.length = l.length) && pairsOk l.toArray (ancAll l []) (l.zip fps) 0 []

theorem pairsOk_spec (ops : Array Oper) (ancs : List Nat) : ∀ (r : List (Oper × List Nat × List Nat)) (j : Nat) (seen : List (Nat × Oper × List Nat × List Nat)), pairsOk ops ancs r j seen = true →
    (∀ (b : Nat) (o : Oper) (f : List Nat × List Nat), r[b]? = some (o, f) → (∀ p ∈ seen, pairOk ops (ancs.getD (j + b) 0) p.1 p.2.1 o p.2.2 f = true) ∧
      ∀ (a : Nat) (oa : Oper) (fa : List Nat × List Nat), r[a]? = some (oa, fa) → a < b → pairOk ops (ancs.getD (j + b) 0) (j + a) oa o fa f = true)
  | [], _, _, _, b, o, f, hb => by simp at hb
  | (o', f') :: r, j, seen, h, b, o, f, hb => by
    rw [pairsOk, Bool.and_eq_true, List.all_eq_true] at h
    cases b with
    | zero =>
      simp only [List.getElem?_cons_zero, Option.some.injEq, Prod.mk.injEq] at hb
      obtain ⟨rfl, rfl⟩ := hb
      exact ⟨fun p hp => h.1 p hp, fun a oa fa _ ha => absurd ha (by omega)⟩
    | succ b =>
      obtain ⟨h1, h2⟩ := pairsOk_spec ops ancs r (j + 1) ((j, o', f') :: seen) h.2 b o f (by simpa using hb)
      rw [show j + 1 + b = j + (b + 1) by omega] at h1 h2
      refine ⟨fun p hp => h1 p (by simp [hp]), fun a oa fa ha hlt => ?_⟩
      cases a with
      | zero =>
        simp only [List.getElem?_cons_zero, Option.some.injEq, Prod.mk.injEq] at ha
        obtain ⟨rfl, rfl⟩ := ha
        exact h1 (j, o', f') (by simp)
      | succ a =>
        have := h2 a oa fa (by simpa using ha) (by omega)
        rwa [show j + 1 + a = j + (a + 1) by omega] at this

/-- The fence that lets all be; in a round of a loop over a function, or not. -/
def fenceR (rd : Option Nat) : Fence := { Fence.wide with round := rd }
theorem roomR (rd : Option Nat) (n : Nat) : (fenceR rd).room n := room_wide n
theorem callsR {rd : Option Nat} {n : Nat} {P : Program} {f : FuncId} {args : Array Value} {w : World} {R : Ending → World → Prop} (h : Calls P f args w R) : CallsIn (fenceR rd) n P f args w R := (callsIn_wide (n := n)).2 h
theorem resolve_not_mark {P : Program} {ρ : Operand → Value} {c : Call} {ty : TypeId} {w w' : World} {d : Deferred} (h : (resolve ρ c ty).run P w = .ok d w') : ∀ D, d.target ≠ .collected D := by
  intro D hD
  unfold resolve at h
  cases hc : c.callee with
  | builtin b => rw [hc] at h; simp at h; rw [← h.1] at hD; cases hD
  | invoke r n => rw [hc] at h; simp at h; rw [← h.1] at hD; cases hD
  | value f =>
    rw [hc] at h
    simp only at h
    unfold Deferred.ofValue at h
    split at h
    all_goals first
      | (simp at h; rw [← h.1] at hD; cases hD; done)
      | (simp [stuck, runtimePanic] at h; done)
      | cases h
theorem oper_in {rd : Option Nat} {P : Program} {o : Oper} {a : Act} {w : World} {next : Act → World → Prop} {Q : Exit → Act → World → Prop} (h : o.wp P a w next (fun _ _ _ => False)) (hn : ∀ a' w', next a' w' → ∀ d, d ∈ a'.defers → ∃ D, d.target = .collected D) : o.wpIn (fenceR rd) 0 P a w next Q := by
  refine ⟨fun _ _ => trivial, ?_⟩
  unfold Oper.wp at h
  have hdef : ∀ c, o.op = .defer c → False := by
    intro c hc
    have : ∃ r, (execOp a.eval o).run P w = r ∧ ∀ x w', r = .ok x w' → ∃ d, x = .defer d ∧ ∀ D, d.target ≠ .collected D := by
      refine ⟨_, rfl, fun x w' hx => ?_⟩
      unfold execOp at hx
      rw [hc] at hx
      simp only [Sem.run_bind] at hx
      cases hr : (resolve a.eval c o.type).run P w with
      | ok d w1 => rw [hr] at hx; simp [Result.andThen] at hx; exact ⟨d, hx.1.symm, resolve_not_mark hr⟩
      | halt e w1 => rw [hr] at hx; simp [Result.andThen] at hx
    obtain ⟨r, hr, hx⟩ := this
    rw [hr] at h
    cases r with
    | ok x w' =>
      obtain ⟨d, rfl, hd⟩ := hx x w' rfl
      obtain ⟨D, hD⟩ := hn _ _ h d (by rw [Act.put_nd]; simp)
      exact hd D hD
    | halt x w' => cases x <;> simp only [Oper.upon] at h
  rw [Oper.semAt_eq _ _ _ (fun c hc => hdef c hc)]
  generalize (execOp a.eval o).run P w = r at h
  cases r with
  | ok x w' =>
    cases x <;> simp only [Oper.upon, Oper.uponIn] at h ⊢ <;> first
      | exact h
      | exact ⟨fun hh => (by cases hh), callsR (Calls.mono h (fun e w'' he => by cases e <;> first | exact he | exact he.elim | (obtain ⟨_, _, q⟩ := he; exact q.elim)))⟩
      | (refine ⟨fun hh => (by cases hh), fun c cs _ => ?_⟩
         obtain ⟨v, w2, hv, hs⟩ := h c cs
         exact ⟨v, w2, hv, stepsIn_wide.2 hs⟩)
  | halt x w' => cases x <;> simp only [Oper.upon, Oper.uponIn] at h ⊢
section
variable {C : ACtx} {ops : Array Oper}
/-- One operation, where its item holds. -/
theorem it_step {s : AS} {c : RC} {a : Act} {w : World} {it : It} {i : Nat} {K : Act → World → Prop} {Q : Exit → Act → World → Prop} (hS : Sim C s c a w) (hI : ItOk C ops s it) (hiop : ops[it.k]? = some it.o) (hik : it.k = i)
    (hfresh : ¬ c.used (s.gc + it.k)) (next : ∀ (c' : RC) (a' : Act) (w' : World), Sim C (it.app s) c' a' w' → (∀ g, c'.used g → c.used g ∨ g = s.gc + i) → K a' w') : wpOpIn (fenceR C.rd.1) 0 C.P ops Q i K a w := by
  subst hik
  obtain ⟨hg, hd⟩ := hI
  have hwant : Region.wanted it.o (yielded ops a.tmps) = it.on := by
    unfold Region.wanted
    unfold guardIs at hg
    split at hg
    · rename_i hgn
      rw [hgn, hg]
    · rename_i j want hgn
      obtain ⟨oj, d, q1, q2, q3⟩ := hg
      rw [hgn]
      rcases q3.symm with ⟨vs, q4, q5⟩ | ⟨b, q4, q5⟩
      · have hr := hS.fr d
        rw [q4] at hr
        have hd' : a.tmps[d]? = none ∨ a.tmps[d]? = some (.tuple vs) := by
          rw [Array.getD_eq_getD_getElem?] at hr
          cases hg : a.tmps[d]? with
          | none => exact .inl rfl
          | some u => rw [hg] at hr; cases hr; exact .inr rfl
        have : yielded ops a.tmps j = none := by
          unfold yielded
          rw [q1]
          rcases hd' with h | h <;> simp [q2, h]
        simp only [this, q5]
        rfl
      have hr := hS.fr d
      rw [q4] at hr
      have hd' : a.tmps[d]? = some (.bool b) := by
        rw [Array.getD_eq_getD_getElem?] at hr
        cases hg : a.tmps[d]? with
        | none => rw [hg] at hr; cases hr
        | some u => rw [hg] at hr; cases hr; rfl
      have : yielded ops a.tmps j = some b := by
        unfold yielded
        rw [q1]
        simp [q2, hd']
      simp only [this, q5]
      cases b <;> cases want <;> rfl
  unfold wpOpIn
  rw [hiop]
  simp only
  by_cases hon : it.on = true
  · rw [if_pos (hwant.trans hon)]
    rw [if_pos hon] at hd
    obtain ⟨d1, d2, d3⟩ := hd
    have hD := d3 s c a w hS hfresh d1 d2
    refine Oper.wpIn_mono (fun a' w' h => ?_) (oper_in hD (fun a' w' ⟨c', hS', _⟩ d hd => by obtain ⟨D, hD, _⟩ := hS'.nd.at_ d hd; exact ⟨D, by rw [hD]⟩))
    obtain ⟨c', q1, q2⟩ := h
    exact next c' a' w' q1 q2
  · have hoff : it.on = false := by simpa using hon
    rw [if_neg (by rw [hwant, hoff]; simp)]
    rw [if_neg hon] at hd
    obtain ⟨d1, d2, _⟩ := hd
    refine ⟨fun _ _ => trivial, next c _ w ?_ (fun g hg' => .inl hg')⟩
    have := hS.off it.o.dst
    unfold It.app
    rw [d1, d2]
    exact this

/-- A region whose operations come in the text's order. -/
theorem reg_seq {s0 : AS} {Q : Exit → Act → World → Prop} {F : AS} (U0 : Nat → Prop) (N : Nat)
    (hQ : ∀ s c a w, Sim C s c a w → s.eqv F → (∀ g, c.used g → U0 g ∨ ∃ k, k < N ∧ g = s0.gc + k) → Q .normal a w) (hU : ∀ k, ¬ U0 (s0.gc + k)) :
    ∀ (its : List It) (k : Nat) (s : AS) (c : RC) (a : Act) (w : World), Sim C s c a w → s.gc = s0.gc → Valid C ops s its → (final s its).eqv F → (∀ j it, its[j]? = some it → it.k = k + j ∧ ops[k + j]? = some it.o) → k + its.length = N →
      (∀ g, c.used g → U0 g ∨ ∃ j, j < k ∧ g = s0.gc + j) → wpOpsIn (fenceR C.rd.1) 0 C.P ops Q (List.range' k its.length) a w
  | [], k, s, c, a, w, hS, _, _, hF, _, hN, hu => hQ s c a w hS hF (fun g hg => (hu g hg).imp id (fun ⟨j, hj, e⟩ => ⟨j, by simp at hN; omega, e⟩))
  | it :: its, k, s, c, a, w, hS, hgc, hV, hF, hk, hN, hu => by
    have h0 : it.k = k := (hk 0 it rfl).1
    have h0' : ops[it.k]? = some it.o := by rw [h0]; exact (hk 0 it rfl).2
    simp only [List.length_cons, List.range'_succ]
    rw [wpOpsIn_cons]
    refine it_step hS hV.1 h0' h0 ?_ (fun c' a' w' hS' hu' => ?_)
    · intro hg'
      rcases hu _ hg' with h | ⟨j, hj, e⟩
      · rw [hgc] at h; exact hU _ h
      · omega
    · refine reg_seq U0 N hQ hU its (k + 1) (it.app s) c' a' w' hS' hgc hV.2 hF (fun j it' hj => ?_) (by simp only [List.length_cons] at hN; omega) (fun g hg => ?_)
      · have := hk (j + 1) it' (by simpa using hj)
        rw [show k + (j + 1) = k + 1 + j by omega] at this
        exact this
      · rcases hu' g hg with h | h
        · exact (hu g h).imp id (fun ⟨j, hj, e⟩ => ⟨j, by omega, e⟩)
        · exact .inr ⟨k, by omega, by rw [h, hgc]⟩
end

section
variable {C : ACtx} {l : List Oper}
theorem anc_listed {listed : Array Bool} (hC : ∀ (j : Nat) (o : Oper), l[j]? = some o → listed.getD j false = true → ∀ e ∈ o.after, Region.binds .any e = true → listed.getD e.on false = true) {i k : Nat} (h : Anc l i k) :
    ∀ o, l[k]? = some o → (∀ e ∈ o.after, Region.binds .any e = true → listed.getD e.on false = true) → (∀ j, listed.getD j false = true → ∃ o, l[j]? = some o) → listed.getD i false = true := by
  induction h with
  | @edge k o e ho he hb =>
    intro o' ho' hl _
    rw [ho] at ho'
    obtain rfl := Option.some.inj ho'
    exact hl e (by simpa using he) hb
  | @step i k o e ho he hb _ ih =>
    intro o' ho' hl hex
    rw [ho] at ho'
    obtain rfl := Option.some.inj ho'
    have h1 := hl e (by simpa using he) hb
    obtain ⟨oe, hoe⟩ := hex e.on h1
    exact ih oe hoe (hC e.on oe hoe h1) hex

theorem getD_true_of' {b : Array Bool} {i : Nat} (hi : i < b.size) (h : b.getD i false = false) : b.getD i true = false := by
  simp only [Array.getD_eq_getD_getElem?, Array.getElem?_eq_getElem hi, Option.getD_some] at h ⊢
  exact h
theorem getD_false_of' {b : Array Bool} {i : Nat} (h : b.getD i true = false) : b.getD i false = false ∧ i < b.size := by
  simp only [Array.getD_eq_getD_getElem?] at h ⊢
  cases hb : b[i]? with
  | none => rw [hb] at h; simp at h
  | some x =>
    rw [hb] at h
    simp only [Option.getD_some] at h
    subst h
    exact ⟨rfl, (Array.getElem?_eq_some_iff.1 hb).1⟩
theorem getD_set (b : Array Bool) (i j : Nat) (hi : i < b.size) : (b.setIfInBounds i true).getD j false = (decide (j = i) || b.getD j false) := by
  simp only [Array.getD_eq_getD_getElem?, Array.getElem?_setIfInBounds]
  by_cases h : i = j
  · subst h
    simp [hi]
  · rw [if_neg h]
    have : (decide (j = i)) = false := by simpa using fun e => h e.symm
    rw [this, Bool.false_or]

/-- A region whose operations do what they are told to do, in whatever order. -/
theorem reg_any (hlt : ∀ (k : Nat) (o : Oper), l[k]? = some o → ∀ e ∈ o.after, Region.binds .any e = true → e.on < k) {s0 : AS} {Q : Exit → Act → World → Prop} {F : AS} (U0 : Nat → Prop)
    (hQ : ∀ s c a w, Sim C s c a w → s.eqv F → (∀ g, c.used g → U0 g ∨ ∃ k, k < l.length ∧ g = s0.gc + k) → Q .normal a w) (hU : ∀ k, ¬ U0 (s0.gc + k)) :
    ∀ (fuel : Nat) (listed : Array Bool) (s : AS) (c : RC) (a : Act) (w : World) (its : List It), its.length = fuel → listed.size = l.length → Sim C s c a w → s.gc = s0.gc →
      Valid C l.toArray s its → (final s its).eqv F → (∀ g, c.used g → U0 g ∨ ∃ k, listed.getD k false = true ∧ g = s0.gc + k) →
      (∀ it ∈ its, l.toArray[it.k]? = some it.o) → (∀ it ∈ its, listed.getD it.k false = false ∧ it.k < l.length) → (∀ k, k < l.length → listed.getD k false = false → ∃ it ∈ its, it.k = k) →
      its.Pairwise (fun x y => x.k < y.k ∧ (Anc l x.k y.k ∨ Apart l.toArray x y)) →
      (∀ (j : Nat) (o : Oper), l[j]? = some o → listed.getD j false = true → ∀ e ∈ o.after, Region.binds .any e = true → listed.getD e.on false = true) →
      wpAnyIn (fenceR C.rd.1) 0 C.P .any l.toArray Q fuel listed a w := by
  intro fuel
  have noReady : ∀ (listed : Array Bool) (its : List It), listed.size = l.length → (∀ it ∈ its, listed.getD it.k false = false ∧ it.k < l.length) → (∀ k, k < l.length → listed.getD k false = false → ∃ it ∈ its, it.k = k) →
      its.Pairwise (fun x y => x.k < y.k ∧ (Anc l x.k y.k ∨ Apart l.toArray x y)) → Region.ready .any l.toArray listed = [] → its = [] := by
    intro listed its hls h1 h2 h3 hr
    cases its with
    | nil => rfl
    | cons it its =>
      exfalso
      obtain ⟨k1, k2⟩ := h1 it (by simp)
      have hmem : it.k ∈ Region.ready .any l.toArray listed := by
        unfold Region.ready
        rw [List.mem_filter]
        refine ⟨List.mem_range.2 (by simpa using k2), ?_⟩
        rw [getD_true_of' (by omega) k1]
        have ho : l[it.k]? = some l[it.k] := List.getElem?_eq_getElem k2
        simp only [List.getElem?_toArray, ho, Option.map_some, Option.getD_some, Bool.not_false, Bool.true_and]
        rw [Array.all_eq_true']
        intro e he
        by_cases hb : Region.binds .any e = true
        · rw [hb, Bool.not_true, Bool.false_or]
          have hlt' := hlt _ _ ho e he hb
          cases hg : listed.getD e.on false with
          | true => rfl
          | false =>
            exfalso
            obtain ⟨jt, hj, hjk⟩ := h2 e.on (by omega) hg
            rcases List.mem_cons.1 hj with rfl | hj
            · omega
            · have := (List.pairwise_cons.1 h3).1 jt hj
              omega
        · simp [hb]
      rw [hr] at hmem
      cases hmem
  induction fuel with
  | zero =>
    intro listed s c a w its hf hls hS hgc hV hF hu hops h1 h2 h3 hC
    have hn : its = [] := List.eq_nil_of_length_eq_zero hf
    subst hn
    refine ⟨?_, hQ s c a w hS hF (fun g hg => (hu g hg).imp id (fun ⟨k, hk, e⟩ => ⟨k, ?_, e⟩))⟩
    · unfold Region.ready
      rw [List.filter_eq_nil_iff]
      intro k hk
      rw [List.mem_range] at hk
      have hk' : k < l.length := by simpa using hk
      cases hg : listed.getD k false with
      | false => obtain ⟨it, hit, _⟩ := h2 k hk' hg; cases hit
      | true =>
        have : listed.getD k true = true := by
          simp only [Array.getD_eq_getD_getElem?] at hg ⊢
          cases hb : listed[k]? with
          | none => rfl
          | some b => rw [hb] at hg; simpa using hg
        simp [this]
    · rcases Nat.lt_or_ge k listed.size with h | h
      · omega
      · simp [Array.getD_eq_getD_getElem?, Array.getElem?_eq_none h] at hk
  | succ fuel ih =>
    intro listed s c a w its hf hls hS hgc hV hF hu hops h1 h2 h3 hC
    refine ⟨fun hr => ?_, fun i hi => ?_⟩
    · have := noReady listed its hls h1 h2 h3 hr
      subst this
      cases hf
    · unfold Region.ready at hi
      rw [List.mem_filter, List.mem_range, Bool.and_eq_true] at hi
      obtain ⟨hi1, hi2, hi3⟩ := hi
      have hil : i < l.length := by simpa using hi1
      have hlf := getD_false_of' (b := listed) (i := i) (by simpa using hi2)
      obtain ⟨it, hit, hik⟩ := h2 i hil hlf.1
      obtain ⟨l1, l2, rfl⟩ := List.append_of_mem hit
      have ho : l[i]? = some l[i] := List.getElem?_eq_getElem hil
      have hedges : ∀ e ∈ l[i].after, Region.binds .any e = true → listed.getD e.on false = true := by
        intro e he hb
        simp only [List.getElem?_toArray, ho, Option.map_some, Option.getD_some] at hi3
        have := Array.all_eq_true'.1 hi3 e he
        simpa [hb] using this
      have hex : ∀ j, listed.getD j false = true → ∃ o, l[j]? = some o := by
        intro j hj
        rcases Nat.lt_or_ge j listed.size with h | h
        · exact ⟨l[j]'(by omega), List.getElem?_eq_getElem (by omega)⟩
        · simp [Array.getD_eq_getD_getElem?, Array.getElem?_eq_none h] at hj
      have hap : ∀ x ∈ l1, Apart l.toArray x it := by
        intro x hx
        have hp := (List.pairwise_append.1 h3).2.2 x hx it (by simp)
        rcases hp.2 with hA | hA
        · rw [hik] at hA
          have := anc_listed hC hA _ ho hedges hex
          have hxl := (h1 x (by simp [hx])).1
          rw [hxl] at this
          cases this
        · exact hA
      obtain ⟨k1, k2, k3⟩ := Valid.front l1 hV hap
      have hiop : l.toArray[i]? = some it.o := by
        rw [← hik]; exact hops it hit
      have hio : it.o = l[i] := by
        have : l[i]? = some it.o := by simpa using hiop
        rw [ho] at this
        exact (Option.some.inj this).symm
      -- the rest, behind this one
      have next : ∀ (c' : RC) (a' : Act) (w' : World), Sim C (it.app s) c' a' w' → (∀ g, c'.used g → c.used g ∨ g = s.gc + i) → wpAnyIn (fenceR C.rd.1) 0 C.P .any l.toArray Q fuel (listed.setIfInBounds i true) a' w' := by
        intro c' a' w' hS' hu'
        refine ih (listed.setIfInBounds i true) (it.app s) c' a' w' (l1 ++ l2) (by simp at hf ⊢; omega) (by simpa using hls) hS' hgc k2 (k3.symm.trans hF) ?_ (fun x hx => hops x (by rcases List.mem_append.1 hx with h | h <;> simp [h])) ?_ ?_ ?_ ?_
        · intro g hg
          rcases hu' g hg with h | h
          · rcases hu g h with h' | ⟨k, hk, e⟩
            · exact .inl h'
            · exact .inr ⟨k, by rw [getD_set _ _ _ hlf.2, hk, Bool.or_true], e⟩
          · exact .inr ⟨i, by rw [getD_set _ _ _ hlf.2]; simp, by rw [h, hgc]⟩
        · intro x hx
          have hx' : x ∈ l1 ++ it :: l2 := by
            rcases List.mem_append.1 hx with h | h <;> simp [h]
          obtain ⟨q1, q2⟩ := h1 x hx'
          refine ⟨?_, q2⟩
          rw [getD_set _ _ _ hlf.2, q1, Bool.or_false]
          rw [decide_eq_false_iff_not]
          intro e
          rcases List.mem_append.1 hx with h | h
          · have := (List.pairwise_append.1 h3).2.2 x h it (by simp)
            omega
          · have := (List.pairwise_cons.1 (List.pairwise_append.1 h3).2.1).1 x h
            omega
        · intro k hk hkl
          rw [getD_set _ _ _ hlf.2, Bool.or_eq_false_iff] at hkl
          obtain ⟨x, hx, hxk⟩ := h2 k hk hkl.2
          refine ⟨x, ?_, hxk⟩
          rcases List.mem_append.1 hx with h | h
          · simp [h]
          · rcases List.mem_cons.1 h with rfl | h
            · exact absurd (by omega) (of_decide_eq_false hkl.1)
            · simp [h]
        · rw [List.pairwise_append] at h3 ⊢
          refine ⟨h3.1, (List.pairwise_cons.1 h3.2.1).2, fun x hx y hy => h3.2.2 x hx y (by simp [hy])⟩
        · intro j o hj hjl e he hb
          rw [getD_set _ _ _ hlf.2] at hjl ⊢
          by_cases hji : j = i
          · subst hji
            rw [ho] at hj
            obtain rfl := Option.some.inj hj
            rw [hedges e he hb, Bool.or_true]
          · have : decide (j = i) = false := by simpa using hji
            rw [this, Bool.false_or] at hjl
            rw [hC j o hj hjl e he hb, Bool.or_true]
      exact it_step hS k1 (by rw [← hik] at hiop; exact hiop) hik
        (by
          intro hg'
          rcases hu _ hg' with h | ⟨k, hk, e⟩
          · rw [hgc] at h; exact hU _ h
          · have : k = i := by omega
            subst this
            rw [hlf.1] at hk
            cases hk) next
end
end Go.Proofs.Ytedfegoafallhaa
