/- Calls that are lent memory of the caller's own: the caller's rule. -/
import Derived.Test.YtedfegoafallhaaF1
namespace Go.Proofs.Ytedfegoafallhaa
set_option linter.unusedVariables false
set_option linter.unusedSimpArgs false
open Go Go.RowKit
set_option maxRecDepth 100000

/-- A value of the caller's, as the one that is called sees it. -/
inductive Ln (m : List (Nat × Nat)) : AV → AV → Prop where
  | wk {v v' : AV} (h : Wk v v') (hc : Closed v') : Ln m v v'
  | ptr {b g j : Nat} (i f : Nat) (h : m[j]? = some (b, g)) : Ln m (.ptr b g i f) (.ptr (1000 + j) j i f)
  | own {b g j : Nat} (lo n : Nat) (h : m[j]? = some (b, g)) : Ln m (.own b g lo n) (.own (1000 + j) j lo n)
  | clo {f : Fn} {first first' cap cap' : List AV} (hl : first'.length = first.length) (hr : ∀ (i : Nat) (x x' : AV), first[i]? = some x → first'[i]? = some x' → Ln m x x') (hl' : cap'.length = cap.length) (hr' : ∀ (i : Nat) (x x' : AV), cap[i]? = some x → cap'[i]? = some x' → Ln m x x') : Ln m (.clo f first cap) (.clo f first' cap')
/-- And back. -/
inductive Lb (m : List (Nat × Nat)) : AV → AV → Prop where
  | same (v : AV) (hc : Closed v) : Lb m v v
  | ptr {b g j : Nat} (i f : Nat) (h : m[j]? = some (b, g)) : Lb m (.ptr b g i f) (.ptr (1000 + j) j i f)
  | own {b g j : Nat} (lo n : Nat) (h : m[j]? = some (b, g)) : Lb m (.own b g lo n) (.own (1000 + j) j lo n)
  | clo {f : Fn} {first first' cap cap' : List AV} (hl : first'.length = first.length) (hr : ∀ (i : Nat) (x x' : AV), first[i]? = some x → first'[i]? = some x' → Lb m x x') (hl' : cap'.length = cap.length) (hr' : ∀ (i : Nat) (x x' : AV), cap[i]? = some x → cap'[i]? = some x' → Lb m x x') : Lb m (.clo f first cap) (.clo f first' cap')

def RelL (R : AV → AV → Prop) (es es' : List AV) : Prop := es'.length = es.length ∧ ∀ (i : Nat) (x x' : AV), es[i]? = some x → es'[i]? = some x' → R x x'
theorem RelL.nil (R : AV → AV → Prop) : RelL R [] [] := ⟨rfl, fun i x x' h => by simp at h⟩
theorem RelL.cons {R : AV → AV → Prop} {x x' : AV} {es es' : List AV} (h : R x x') (t : RelL R es es') : RelL R (x :: es) (x' :: es') :=
  ⟨by simp [t.1], fun i y y' hy hy' => by
    cases i with
    | zero =>
      simp only [List.getElem?_cons_zero, Option.some.injEq] at hy hy'
      subst hy
      subst hy'
      exact h
    | succ i => exact t.2 i y y' (by simpa using hy) (by simpa using hy')⟩
theorem Ln.cloL {m : List (Nat × Nat)} {f : Fn} {first first' cap cap' : List AV} (h : RelL (Ln m) first first') (h' : RelL (Ln m) cap cap') : Ln m (.clo f first cap) (.clo f first' cap') := .clo h.1 h.2 h'.1 h'.2
theorem Lb.cloL {m : List (Nat × Nat)} {f : Fn} {first first' cap cap' : List AV} (h : RelL (Lb m) first first') (h' : RelL (Lb m) cap cap') : Lb m (.clo f first cap) (.clo f first' cap') := .clo h.1 h.2 h'.1 h'.2
def RelR (R : AV → AV → Prop) (els els' : List (List AV)) : Prop := els'.length = els.length ∧ ∀ (i : Nat) (el el' : List AV), els[i]? = some el → els'[i]? = some el' → RelL R el el'
theorem RelR.nil (R : AV → AV → Prop) : RelR R [] [] := ⟨rfl, fun i x x' h => by simp at h⟩
theorem RelR.cons {R : AV → AV → Prop} {x x' : List AV} {es es' : List (List AV)} (h : RelL R x x') (t : RelR R es es') : RelR R (x :: es) (x' :: es') :=
  ⟨by simp [t.1], fun i y y' hy hy' => by
    cases i with
    | zero =>
      simp only [List.getElem?_cons_zero, Option.some.injEq] at hy hy'
      subst hy
      subst hy'
      exact h
    | succ i => exact t.2 i y y' (by simpa using hy) (by simpa using hy')⟩
theorem RelR.id {R : AV → AV → Prop} {els : List (List AV)} (h : ∀ el x, el ∈ els → x ∈ el → R x x) : RelR R els els :=
  ⟨rfl, fun i el el' h1 h2 => by
    rw [h1] at h2
    obtain rfl := Option.some.inj h2
    exact ⟨rfl, fun k x x' h3 h4 => by
      rw [h3] at h4
      obtain rfl := Option.some.inj h4
      exact h el x (List.mem_of_getElem? h1) (List.mem_of_getElem? h3)⟩⟩

/-- Lent blocks as the one that is called sees them. -/
def LentIn (R : AV → AV → Prop) : List (Nat × Blk) → List LB → Prop
  | [], [] => True
  | p :: ls, q :: bs => (p.2.sz = q.1 ∧ Nat.blt 0 q.1 = true ∧ RelR R p.2.els q.2) ∧ LentIn R ls bs
  | _, _ => False
theorem LentIn.get {R : AV → AV → Prop} : ∀ {ls : List (Nat × Blk)} {bs : List LB}, LentIn R ls bs → bs.length = ls.length ∧ ∀ (j : Nat) (p : Nat × Blk) (q : LB), ls[j]? = some p → bs[j]? = some q → p.2.sz = q.1 ∧ 0 < q.1 ∧ RelR R p.2.els q.2
  | [], [], _ => ⟨rfl, fun j p q h => by simp at h⟩
  | [], _ :: _, h => h.elim
  | _ :: _, [], h => h.elim
  | p :: ls, q :: bs, h => by
    obtain ⟨h1, h2⟩ := LentIn.get h.2
    refine ⟨by simp [h1], fun j p' q' hp hq => ?_⟩
    cases j with
    | zero =>
      simp only [List.getElem?_cons_zero, Option.some.injEq] at hp hq
      subst hp
      subst hq
      exact ⟨h.1.1, lt_of_blt h.1.2.1, h.1.2.2⟩
    | succ j => exact h2 j p' q' (by simpa using hp) (by simpa using hq)
/-- And behind the call. -/
def LentOut (R : AV → AV → Prop) : List (Nat × Blk) → List (Nat × Blk) → List (List (List AV)) → Prop
  | [], [], [] => True
  | p :: ls, p' :: ls', els' :: bs' => (p'.1 = p.1 ∧ p'.2.gen = p.2.gen ∧ p'.2.sz = p.2.sz ∧ RelR R p'.2.els els') ∧ LentOut R ls ls' bs'
  | _, _, _ => False
theorem LentOut.get {R : AV → AV → Prop} : ∀ {ls ls' : List (Nat × Blk)} {bs' : List (List (List AV))}, LentOut R ls ls' bs' → ls'.length = ls.length ∧ bs'.length = ls.length ∧ ∀ (j : Nat) (p p' : Nat × Blk) (e : List (List AV)), ls[j]? = some p → ls'[j]? = some p' → bs'[j]? = some e → p'.1 = p.1 ∧ p'.2.gen = p.2.gen ∧ p'.2.sz = p.2.sz ∧ RelR R p'.2.els e
  | [], [], [], _ => ⟨rfl, rfl, fun j p p' e h => by simp at h⟩
  | [], _ :: _, _, h => h.elim
  | _ :: _, [], _, h => h.elim
  | [], [], _ :: _, h => h.elim
  | _ :: _, _ :: _, [], h => h.elim
  | p :: ls, p' :: ls', e :: bs', h => by
    obtain ⟨h1, h2, h3⟩ := LentOut.get h.2
    refine ⟨by simp [h1], by simp [h2], fun j q q' e' hp hq he => ?_⟩
    cases j with
    | zero =>
      simp only [List.getElem?_cons_zero, Option.some.injEq] at hp hq he
      subst hp
      subst hq
      subst he
      exact h.1
    | succ j => exact h3 j q q' e' (by simpa using hp) (by simpa using hq) (by simpa using he)
def LkAll (hp : List (Nat × Option Blk)) : List (Nat × Blk) → Prop
  | [] => True
  | p :: ls => lkH hp p.1 = some p.2 ∧ LkAll hp ls
theorem LkAll.get {hp : List (Nat × Option Blk)} : ∀ {ls : List (Nat × Blk)}, LkAll hp ls → ∀ p, p ∈ ls → lkH hp p.1 = some p.2
  | [], _, p, h => by cases h
  | q :: ls, h, p, hp => by
    rcases List.mem_cons.1 hp with rfl | hp
    · exact h.1
    · exact LkAll.get h.2 p hp
def nodupB : List Nat → Bool
  | [] => true
  | x :: l => (l.all fun y => !Nat.beq x y) && nodupB l
theorem nodupB_spec : ∀ {l : List Nat}, nodupB l = true → ∀ (i j : Nat) (x : Nat), l[i]? = some x → l[j]? = some x → i = j
  | [], _, i, j, x, h, _ => by simp at h
  | y :: l, h, i, j, x, hi, hj => by
    rw [nodupB, Bool.and_eq_true] at h
    have hne : ∀ k z, l[k]? = some z → z ≠ y := fun k z hk e => by
      have := List.all_eq_true.1 h.1 z (List.mem_of_getElem? hk)
      rw [e, Nat.beq_refl] at this
      cases this
    cases i with
    | zero =>
      cases j with
      | zero => rfl
      | succ j =>
        simp only [List.getElem?_cons_zero, List.getElem?_cons_succ, Option.some.injEq] at hi hj
        exact absurd hi.symm (hne j x hj)
    | succ i =>
      cases j with
      | zero =>
        simp only [List.getElem?_cons_zero, List.getElem?_cons_succ, Option.some.injEq] at hi hj
        exact absurd hj.symm (hne i x hi)
      | succ j =>
        simp only [List.getElem?_cons_succ] at hi hj
        rw [nodupB_spec h.2 i j x hi hj]
theorem lk_ups : ∀ (ls : List (Nat × Blk)) (hp : List (Nat × Option Blk)) (b : Nat), (∃ p, p ∈ ls ∧ p.1 = b ∧ lkH (ls.map (fun p => (p.1, some p.2)) ++ hp) b = some p.2) ∨ ((∀ p, p ∈ ls → p.1 ≠ b) ∧ lkH (ls.map (fun p => (p.1, some p.2)) ++ hp) b = lkH hp b)
  | [], hp, b => .inr ⟨fun p h => (by cases h), rfl⟩
  | q :: ls, hp, b => by
    rw [List.map_cons, List.cons_append, lkH_cons]
    by_cases h : b = q.1
    · exact .inl ⟨q, by simp, h.symm, if_pos h⟩
    · rw [if_neg h]
      rcases lk_ups ls hp b with ⟨p, h1, h2, h3⟩ | ⟨h1, h2⟩
      · exact .inl ⟨p, by simp [h1], h2, h3⟩
      · exact .inr ⟨fun p hp => by
          rcases List.mem_cons.1 hp with rfl | hp
          · exact fun e => h e.symm
          · exact h1 p hp, h2⟩

/-- What was lent is turned. -/
theorem Sim.lent {C : ACtx} {s : AS} {c : RC} {a : Act} {w w' : World} (hS : Sim C s c a w) (ls' : List (Nat × Blk)) (os : List OB) (St : Nat → Prop) (hlen : os.length = ls'.length)
    (hold : ∀ (j : Nat) (p' : Nat × Blk) (o : OB), ls'[j]? = some p' → os[j]? = some o → c.own p'.1 p'.2.gen = some o ∧ (∃ blk, lkH s.hp p'.1 = some blk ∧ blk.gen = p'.2.gen) ∧ RowRep ⟨c.own, c.used, St⟩ w' p'.2 o)
    (hE : Old (fun β => ∃ (j : Nat) (o : OB), os[j]? = some o ∧ o.loc = some β) w w') (hst : ∀ β, c.st β → St β) (hst' : ∀ β, St β → c.st β ∨ (w.heap.size ≤ β ∧ β < w'.heap.size))
    (d : Option Nat) (v : AV) (u : Value) (hd : ∀ e, d = some e → e < C.n) (hv : Rep ⟨c.own, c.used, St⟩ w' v u) : Sim C (s.app d v (ls'.map (fun p => (p.1, some p.2)))) ⟨c.own, c.used, St⟩ (a.put d u) w' := by
  have hget : ∀ p', p' ∈ ls' → ∃ o, (∃ j : Nat, os[j]? = some o) ∧ c.own p'.1 p'.2.gen = some o ∧ (∃ blk, lkH s.hp p'.1 = some blk ∧ blk.gen = p'.2.gen) ∧ RowRep ⟨c.own, c.used, St⟩ w' p'.2 o := fun p' hp' => by
    obtain ⟨j, hj⟩ := List.getElem?_of_mem hp'
    have hj' : j < os.length := by rw [hlen]; exact (List.getElem?_eq_some_iff.1 hj).1
    exact ⟨os[j], ⟨j, List.getElem?_eq_getElem hj'⟩, hold j p' _ hj (List.getElem?_eq_getElem hj')⟩
  have hos : ∀ (j : Nat) (o : OB), os[j]? = some o → ∃ p', p' ∈ ls' ∧ c.own p'.1 p'.2.gen = some o := fun j o ho => by
    have hj' : j < ls'.length := by rw [← hlen]; exact (List.getElem?_eq_some_iff.1 ho).1
    exact ⟨ls'[j], List.getElem_mem hj', (hold j _ o (List.getElem?_eq_getElem hj') ho).1⟩
  have hm : Mono c ⟨c.own, c.used, St⟩ w w' := ⟨fun β hb => ⟨hst β hb, hE.block β (hS.st β hb).1 (fun ⟨j, o, h1, h2⟩ => by
    obtain ⟨p', _, h3⟩ := hos j o h1
    exact ((hS.al _ _ o h3).2.2 β h2).2.1 hb)⟩, fun g hg => hg, fun b g o _ h => h⟩
  refine ⟨(Act.put_nd a d u).symm ▸ hS.nd.step hm.st, (Act.put_size a d u).trans hS.sz, fr_put hS hm d v u hd (fun _ => hv), fun b blk hb => ?_, fun b g o ho => ?_, hS.inj, fun β hb => ?_, fun β hb => hst β (hS.st0 β hb), hS.old.trans' hE.os hE.tape hE.output hE.size (fun k hk hk' => ?_), hS.mo.trans hm⟩
  · simp only [AS.app] at hb
    rcases lk_ups ls' s.hp b with ⟨p, h1, h2, h3⟩ | ⟨h1, h2⟩
    · rw [h3] at hb
      obtain rfl := Option.some.inj hb
      obtain ⟨o, _, k1, _, k3⟩ := hget p h1
      subst h2
      exact ⟨o, k1, .inl k3⟩
    · rw [h2] at hb
      obtain ⟨o, k1, k2⟩ := hS.hp b blk hb
      refine ⟨o, k1, k2.mono hm (fun β hβ => hE.block β ((hS.al b _ o k1).2.2 β hβ).1 (fun ⟨j, o', q1, q2⟩ => ?_))⟩
      obtain ⟨p', q3, q4⟩ := hos j o' q1
      exact h1 p' q3 (hS.inj b _ o _ _ o' β k1 q4 hβ q2).1.symm
  · obtain ⟨k1, ⟨blk, k2, k3⟩, k4⟩ := hS.al b g o ho
    refine ⟨k1, ?_, fun β hβ => ?_⟩
    · rcases lk_ups ls' s.hp b with ⟨p, h1, h2, h3⟩ | ⟨h1, h2⟩
      · obtain ⟨o', _, q1, ⟨blk', q2, q3⟩, _⟩ := hget p h1
        refine ⟨p.2, by simpa [AS.app] using h3, ?_⟩
        rw [h2, k2] at q2
        rw [← q3, ← k3, Option.some.inj q2]
      · exact ⟨blk, by simpa [AS.app] using h2.trans k2, k3⟩
    · obtain ⟨q1, q2, q3⟩ := k4 β hβ
      refine ⟨Nat.lt_of_lt_of_le q1 hE.size, fun hs => ?_, q3⟩
      rcases hst' β hs with h | h
      · exact q2 h
      · omega
  · rcases hst' β hb with h | h
    · exact ⟨Nat.lt_of_lt_of_le (hS.st β h).1 hE.size, (hS.st β h).2⟩
    · exact ⟨h.2, .inr (.inl (Nat.le_trans hS.old.size h.1))⟩
  · refine hE.block k (Nat.lt_of_lt_of_le hk hS.old.size) (fun ⟨j, o, h1, h2⟩ => ?_)
    obtain ⟨p', _, h3⟩ := hos j o h1
    rcases ((hS.al _ _ o h3).2.2 k h2).2.2 with h | h
    · omega
    · exact hk' h

theorem Ln.rep {m : List (Nat × Nat)} {c : RC} {w : World} {os : List OB} (hos : ∀ (j b g : Nat), m[j]? = some (b, g) → ∃ o, os[j]? = some o ∧ c.own b g = some o) {x x' : AV} (h : Ln m x x') : ∀ {u : Value}, Rep c w x u → Rep (RC.lend os c.st) w x' u := by
  induction h with
  | wk h hc => exact fun r => (h.rep r).closed hc _ (fun β hb => ⟨hb, rfl⟩)
  | @ptr b g j i f h =>
    intro u r
    obtain ⟨o, h1, h2⟩ := hos j b g h
    cases r with
    | ptr _ _ _ _ β o' hu hp =>
      refine .ptr _ _ _ _ β o' ((List.getElem?_eq_some_iff.1 h1).1) (fun q hq => hp q ?_)
      have hq : lendOwn os (1000 + j) j = some q := hq
      rw [lendOwn_at, h1] at hq
      rw [h2, hq]
  | @own b g j lo n h =>
    intro u r
    obtain ⟨o, h1, h2⟩ := hos j b g h
    cases r with
    | own _ _ _ _ A m' cap hu hp =>
      refine .own _ _ _ _ A m' cap ((List.getElem?_eq_some_iff.1 h1).1) (fun q hq => hp q ?_)
      have hq : lendOwn os (1000 + j) j = some q := hq
      rw [lendOwn_at, h1] at hq
      rw [h2, hq]
  | @clo f first first' cap cap' hl _ hl' _ ih ih' =>
    intro u ru
    cases ru with
    | clo _ _ _ us vs k1 k2 k3 k4 =>
      refine .clo f first' cap' us vs (k1.trans hl.symm) (k2.trans hl'.symm) (fun i x' u hx hu => ?_) (fun i x' u hx hu => ?_)
      · have hi : i < first.length := by rw [← hl]; exact (List.getElem?_eq_some_iff.1 hx).1
        exact ih i first[i] x' (List.getElem?_eq_getElem hi) hx (k3 i _ u (List.getElem?_eq_getElem hi) hu)
      · have hi : i < cap.length := by rw [← hl']; exact (List.getElem?_eq_some_iff.1 hx).1
        exact ih' i cap[i] x' (List.getElem?_eq_getElem hi) hx (k4 i _ u (List.getElem?_eq_getElem hi) hu)
theorem Lb.rep {m : List (Nat × Nat)} {own : Nat → Nat → Option OB} {used : Nat → Prop} {St : Nat → Prop} {w : World} {os : List OB} (hos : ∀ (j b g : Nat), m[j]? = some (b, g) → ∃ o, os[j]? = some o ∧ own b g = some o ∧ used g) {x x' : AV} (h : Lb m x x') : ∀ {u : Value}, Rep (RC.lend os St) w x' u → Rep ⟨own, used, St⟩ w x u := by
  induction h with
  | same v hc => exact fun r => r.closed hc _ (fun β hb => ⟨hb, rfl⟩)
  | @ptr b g j i f h =>
    intro u r
    obtain ⟨o, h1, h2, h3⟩ := hos j b g h
    cases r with
    | ptr _ _ _ _ β o' hu hp =>
      refine .ptr _ _ _ _ β o' h3 (fun q hq => hp q ?_)
      have hq : own b g = some q := hq
      show lendOwn os (1000 + j) j = some q
      rw [lendOwn_at, h1, ← h2, hq]
  | @own b g j lo n h =>
    intro u r
    obtain ⟨o, h1, h2, h3⟩ := hos j b g h
    cases r with
    | own _ _ _ _ A m' cap hu hp =>
      refine .own _ _ _ _ A m' cap h3 (fun q hq => hp q ?_)
      have hq : own b g = some q := hq
      show lendOwn os (1000 + j) j = some q
      rw [lendOwn_at, h1, ← h2, hq]
  | @clo f first first' cap cap' hl _ hl' _ ih ih' =>
    intro u ru
    cases ru with
    | clo _ _ _ us vs k1 k2 k3 k4 =>
      refine .clo f first cap us vs (k1.trans hl) (k2.trans hl') (fun i x u hx hu => ?_) (fun i x u hx hu => ?_)
      · have hi : i < first'.length := by rw [hl]; exact (List.getElem?_eq_some_iff.1 hx).1
        exact ih i x first'[i] hx (List.getElem?_eq_getElem hi) (k3 i _ u (List.getElem?_eq_getElem hi) hu)
      · have hi : i < cap'.length := by rw [hl']; exact (List.getElem?_eq_some_iff.1 hx).1
        exact ih' i x cap'[i] hx (List.getElem?_eq_getElem hi) (k4 i _ u (List.getElem?_eq_getElem hi) hu)

/-- Which function a value is, and what it holds. -/
def FunA (x : AV) (f : FuncId) (first cap : List AV) : Prop := (x = .val (.func (.func f) #[] #[]) ∧ first = [] ∧ cap = []) ∨ x = .clo (.func f) first cap

section
variable {C : ACtx} {ops : Array Oper} {K : AS → List (List Nat × List Nat) → Prop} {k : Nat} {rest : List Oper} {fr : List (Nat × AV)} {hp : List (Nat × Option Blk)} {gc : Nat} {fps : List (List Nat × List Nat)}
  {d : Nat} {ty : TypeId} {pos : String} {after : Array Edge} {gd : Option (Nat × Bool)} {v : AV}
/-- A call that is lent blocks of the caller's own. -/
theorem ARun.callL {dst : Option Nat} {fx : Operand} {args : Array Operand} {ats : Array TypeId} {f : FuncId} {first cap cavs : List AV} {bs : List LB} {res : AV} {bs' : List (List (List AV))} (ls ls' : List (Nat × Blk)) (hF : FnL C.P f cavs bs res bs') (hf : FunA (evA fr fx) f first cap)
    (ha : RelL (Ln (ls.map fun p => (p.1, p.2.gen))) (first ++ args.toList.map (evA fr) ++ cap) cavs) (hlk : LkAll hp ls) (hnd : nodupB (ls.map (·.1)) = true) (hin : LentIn (Ln (ls.map fun p => (p.1, p.2.gen))) ls bs) (hout : LentOut (Lb (ls.map fun p => (p.1, p.2.gen))) ls ls' bs') (hres : Lb (ls.map fun p => (p.1, p.2.gen)) v res)
    (hd : (match dst with | some d => Nat.blt d C.n | none => true) = true) (hg : guardIs ops ⟨fr, hp, gc⟩ ⟨dst, .call ⟨.value fx, args, ats⟩, ty, pos, after, gd⟩ true)
    (nx : ARun C ops K (k + 1) rest ⟨putFr fr dst v, ls'.map (fun p => (p.1, some p.2)) ++ hp, gc⟩ (fps ++ [(ls.map (·.1), ls'.map (·.1))])) : ARun C ops K k (⟨dst, .call ⟨.value fx, args, ats⟩, ty, pos, after, gd⟩ :: rest) ⟨fr, hp, gc⟩ fps := by
  have e : (ls'.map (fun p => (p.1, some p.2))).map (·.1) = ls'.map (·.1) := by rw [List.map_map]; rfl
  refine ARun.step v ls (ls'.map (fun p => (p.1, some p.2))) hg (fun p hp => LkAll.get hlk p hp) ?_ (by rw [e]; exact nx)
  intro s c a w hS _ hargs hrd
  have hdst : ∀ e, dst = some e → e < C.n := by
    intro e he
    subst he
    exact lt_of_blt hd
  have hev : ∀ z ∈ #[fx] ++ args, Rep c w (evA fr z) (a.eval z) := by
    intro z hz
    have hz' : z ∈ (Op.call ⟨.value fx, args, ats⟩).operands.toList := by simpa [Op.operands, Call.operands] using hz
    rw [← args_ev hargs z hz']
    exact hS.ev z
  have h1 := hev fx (by simp)
  obtain ⟨F1, F2⟩ := hF
  -- the function, and what it is called with
  obtain ⟨us, vs, hux, hl, hl', hr, hr'⟩ : ∃ us vs : List Value, a.eval fx = .func (.func f) us.toArray vs.toArray ∧ us.length = first.length ∧ vs.length = cap.length ∧ (∀ (i : Nat) (x : AV) (u : Value), first[i]? = some x → us[i]? = some u → Rep c w x u) ∧ (∀ (i : Nat) (x : AV) (u : Value), cap[i]? = some x → vs[i]? = some u → Rep c w x u) := by
    generalize hfx : evA fr fx = F at hf h1
    generalize hux : a.eval fx = ux at h1
    rcases hf with ⟨rfl, rfl, rfl⟩ | rfl
    · exact ⟨[], [], h1.val_inv, rfl, rfl, fun i x u h => (by simp at h), fun i x u h => (by simp at h)⟩
    · cases h1 with
      | clo _ _ _ us vs k1 k2 k3 k4 => exact ⟨us, vs, rfl, k1, k2, k3, k4⟩
  have hmr := map_rep (c := c) (w := w) (a := a) (fr := fr) args.toList (fun z hz => hev z (Array.mem_append.2 (.inr (Array.mem_toList_iff.1 hz))))
  have hall := rep_append (l := first ++ args.toList.map (evA fr)) (l' := cap) (us := us ++ args.toList.map a.eval) (us' := vs) (by simp [hl]) (rep_append hl hr hmr) hr'
  have hlall : (us ++ args.toList.map a.eval ++ vs).length = (first ++ args.toList.map (evA fr) ++ cap).length := by simp [hl, hl']
  -- the blocks
  obtain ⟨hin1, hin2⟩ := hin.get
  obtain ⟨ho1, ho2, ho3⟩ := hout.get
  have hob : ∀ p, p ∈ ls → ∃ o, c.own p.1 p.2.gen = some o ∧ BlkRep c w p.2 o := fun p hp => hS.hp p.1 p.2 (hrd p hp)
  obtain ⟨os, hosl, hosg⟩ := pick_list (fun (j : Nat) (p : Nat × Blk) (o : OB) => c.own p.1 p.2.gen = some o ∧ BlkRep c w p.2 o) ls 0 (fun j p hp => hob p (List.mem_of_getElem? hp))
  have hos : ∀ (j : Nat) (p : Nat × Blk) (o : OB), ls[j]? = some p → os[j]? = some o → c.own p.1 p.2.gen = some o ∧ BlkRep c w p.2 o := fun j p o hp ho => hosg j p o hp ho
  have hosm : ∀ (j b g : Nat), (ls.map fun p => (p.1, p.2.gen))[j]? = some (b, g) → ∃ o, os[j]? = some o ∧ c.own b g = some o := fun j b g h => by
    rw [List.getElem?_map] at h
    cases hp : ls[j]? with
    | none => rw [hp] at h; cases h
    | some p =>
      rw [hp] at h
      simp only [Option.map_some, Option.some.injEq, Prod.mk.injEq] at h
      obtain ⟨rfl, rfl⟩ := h
      have hj : j < os.length := by rw [hosl]; exact (List.getElem?_eq_some_iff.1 hp).1
      exact ⟨os[j], List.getElem?_eq_getElem hj, (hos j p _ hp (List.getElem?_eq_getElem hj)).1⟩
  have hosp : ∀ (j : Nat) (o : OB), os[j]? = some o → ∃ p, ls[j]? = some p ∧ c.own p.1 p.2.gen = some o ∧ BlkRep c w p.2 o := fun j o ho => by
    have hj : j < ls.length := by rw [← hosl]; exact (List.getElem?_eq_some_iff.1 ho).1
    exact ⟨ls[j], List.getElem?_eq_getElem hj, hos j _ o (List.getElem?_eq_getElem hj) ho⟩
  have hC := F2 w c.st (us ++ args.toList.map a.eval ++ vs) os (fun β hb => (hS.st β hb).1) (by rw [hosl, hin1])
    (fun j o β ho hβ => by
      obtain ⟨p, _, k1, _⟩ := hosp j o ho
      have := (hS.al _ _ o k1).2.2 β hβ
      exact ⟨this.1, this.2.1⟩)
    (fun i j o o' β ho ho' hβ hβ' => by
      obtain ⟨p, q1, k1, _⟩ := hosp i o ho
      obtain ⟨p', q1', k1', _⟩ := hosp j o' ho'
      have e := (hS.inj _ _ o _ _ o' β k1 k1' hβ hβ').1
      exact nodupB_spec hnd i j p.1 (by rw [List.getElem?_map, q1]; rfl) (by rw [List.getElem?_map, q1', e]; rfl))
    (fun j o q ho hq => by
      obtain ⟨p, q1, k1, k2⟩ := hosp j o ho
      obtain ⟨z1, z2, z3⟩ := hin2 j p q q1 hq
      obtain ⟨r1, r2, r3⟩ := k2.row (by rw [k2.sz, z1]; exact z2)
      have hget : ∀ (i : Nat) (el : List AV), q.2[i]? = some el → ∃ el0, p.2.els[i]? = some el0 ∧ RelL (Ln (ls.map fun p => (p.1, p.2.gen))) el0 el := fun i el hi => by
        have hi' : i < p.2.els.length := by rw [← z3.1]; exact (List.getElem?_eq_some_iff.1 hi).1
        exact ⟨p.2.els[i], List.getElem?_eq_getElem hi', z3.2 i _ el (List.getElem?_eq_getElem hi') hi⟩
      refine ⟨r1.trans z1, fun el hel => ?_, ?_⟩
      · obtain ⟨i, hi⟩ := List.getElem?_of_mem hel
        obtain ⟨el0, q1, q2⟩ := hget i el hi
        rw [q2.1, r2 el0 (List.mem_of_getElem? q1), z1]
      · cases hl : o.loc with
        | none =>
          rw [hl] at r3
          simp only at r3 ⊢
          have := z3.1
          rw [r3] at this
          exact List.eq_nil_of_length_eq_zero this
        | some β =>
          rw [hl] at r3
          obtain ⟨cur, e, y1, y2, y3⟩ := r3
          refine ⟨cur, e, y1, y2, fun i el f x hi hx => ?_⟩
          obtain ⟨el0, t1, t2⟩ := hget i el hi
          have hf : f < el0.length := by rw [← t2.1]; exact (List.getElem?_eq_some_iff.1 hx).1
          obtain ⟨u, u1, u2, u3⟩ := y3 i el0 f el0[f] t1 (List.getElem?_eq_getElem hf)
          exact ⟨u, by rw [← z1]; exact u1, u2, Ln.rep hosm (t2.2 f _ x (List.getElem?_eq_getElem hf) hx) u3⟩)
    (hlall.trans ha.1.symm) (fun i x u hx hu => by
      have hi : i < (first ++ args.toList.map (evA fr) ++ cap).length := by rw [← ha.1]; exact (List.getElem?_eq_some_iff.1 hx).1
      exact Ln.rep hosm (ha.2 i _ x (List.getElem?_eq_getElem hi) hx) (hall i _ u (List.getElem?_eq_getElem hi) hu))
  have hrun : (execOp a.eval ⟨dst, .call ⟨.value fx, args, ats⟩, ty, pos, after, gd⟩).run C.P w = .ok (.enter f (us ++ args.toList.map a.eval ++ vs).toArray) w := by
    have e : us.toArray ++ args.map a.eval ++ vs.toArray = (us ++ args.toList.map a.eval ++ vs).toArray := by
      apply Array.ext'
      simp
    rw [← e]
    simp [execOp, resolve, hux, Deferred.ofValue, invoke, F1]
  unfold Oper.wp
  rw [hrun, Oper.upon_enter]
  refine hC.mono (fun e w' ⟨r, St, he, hE, hs1, hs2, hs3, hrow, hrr⟩ => ?_)
  subst he
  have hosb : ∀ (j b g : Nat), (ls.map fun p => (p.1, p.2.gen))[j]? = some (b, g) → ∃ o, os[j]? = some o ∧ c.own b g = some o ∧ c.used g := fun j b g h => by
    obtain ⟨o, k1, k2⟩ := hosm j b g h
    exact ⟨o, k1, k2, (hS.al b g o k2).1⟩
  refine ⟨_, hS.lent ls' os St (by rw [hosl, ho1]) (fun j p' o hp' ho => ?_) hE hs1 hs2 dst v r hdst (Lb.rep hosb hres hrr), fun g hg => .inl hg⟩
  obtain ⟨p, q1, k1, k2⟩ := hosp j o ho
  have hjb : j < bs'.length := by rw [ho2]; exact (List.getElem?_eq_some_iff.1 q1).1
  have hjs : j < bs.length := by rw [hin1]; exact (List.getElem?_eq_some_iff.1 q1).1
  obtain ⟨z1, z2, z3, z4⟩ := ho3 j p p' _ q1 hp' (List.getElem?_eq_getElem hjb)
  obtain ⟨y1, y2, _⟩ := hin2 j p _ q1 (List.getElem?_eq_getElem hjs)
  refine ⟨by rw [z1, z2]; exact k1, ⟨p.2, by rw [z1]; exact hrd p (List.mem_of_getElem? q1), z2.symm⟩, ?_⟩
  obtain ⟨r1, r2, r3⟩ := hrow j o _ _ ho (List.getElem?_eq_getElem hjs) (List.getElem?_eq_getElem hjb)
  simp only at r1 r2 r3
  have hget : ∀ (i : Nat) (el : List AV), p'.2.els[i]? = some el → ∃ el0, bs'[j][i]? = some el0 ∧ RelL (Lb (ls.map fun p => (p.1, p.2.gen))) el el0 := fun i el hi => by
    have hi' : i < bs'[j].length := by rw [z4.1]; exact (List.getElem?_eq_some_iff.1 hi).1
    exact ⟨bs'[j][i], List.getElem?_eq_getElem hi', z4.2 i el _ hi (List.getElem?_eq_getElem hi')⟩
  have hsz : bs[j].1 = p'.2.sz := by rw [z3, y1]
  refine ⟨r1.trans hsz, fun el hel => ?_, ?_⟩
  · obtain ⟨i, hi⟩ := List.getElem?_of_mem hel
    obtain ⟨el0, q1, q2⟩ := hget i el hi
    rw [← q2.1, r2 el0 (List.mem_of_getElem? q1), hsz]
  · cases hl : o.loc with
    | none =>
      rw [hl] at r3
      simp only at r3 ⊢
      have := z4.1
      rw [r3] at this
      exact List.eq_nil_of_length_eq_zero this.symm
    | some β =>
      rw [hl] at r3
      obtain ⟨cur, e, y1, y2, y3⟩ := r3
      refine ⟨cur, e, y1, y2, fun i el f x hi hx => ?_⟩
      obtain ⟨el0, t1, t2⟩ := hget i el hi
      have hf : f < el0.length := by rw [t2.1]; exact (List.getElem?_eq_some_iff.1 hx).1
      obtain ⟨u, u1, u2, u3⟩ := y3 i el0 f el0[f] t1 (List.getElem?_eq_getElem hf)
      exact ⟨u, by rw [← hsz]; exact u1, u2, Lb.rep hosb (t2.2 f x _ hx (List.getElem?_eq_getElem hf)) u3⟩
end
end Go.Proofs.Ytedfegoafallhaa
