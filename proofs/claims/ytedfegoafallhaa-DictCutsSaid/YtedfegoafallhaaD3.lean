/- Calls with rows of the call's own (which are given away), and calls that answer a row of one's own. -/
import Derived.Test.YtedfegoafallhaaD2
namespace Go.Proofs.Ytedfegoafallhaa
set_option linter.unusedVariables false
set_option linter.unusedSimpArgs false
open Go Go.RowKit

/-- What is given away: rows of the call's own read as rows that never turn. -/
inductive Fz (bs : List (Nat × Blk)) : AV → AV → Prop where
  | wk {v v' : AV} (h : Wk v v') : Fz bs v v'
  | own {b : Nat} {blk : Blk} (h : (b, blk) ∈ bs) : Fz bs (.own b blk.gen 0 blk.els.length) (.sl blk.sz false blk.els)
  | agg {es es' : List AV} (hl : es'.length = es.length) (hr : ∀ (i : Nat) (x x' : AV), es[i]? = some x → es'[i]? = some x' → Fz bs x x') : Fz bs (.agg es) (.agg es')
  | ptr {b i : Nat} {blk : Blk} {el : List AV} (h : (b, blk) ∈ bs) (he : blk.els[i]? = some el) : Fz bs (.ptr b blk.gen i 0) (.rp el)
  | clo {f : Fn} {first first' cap cap' : List AV} (hl : first'.length = first.length) (hr : ∀ (i : Nat) (x x' : AV), first[i]? = some x → first'[i]? = some x' → Fz bs x x') (hl' : cap'.length = cap.length) (hr' : ∀ (i : Nat) (x x' : AV), cap[i]? = some x → cap'[i]? = some x' → Fz bs x x') : Fz bs (.clo f first cap) (.clo f first' cap')
def FzL (bs : List (Nat × Blk)) (es es' : List AV) : Prop := es'.length = es.length ∧ ∀ (i : Nat) (x x' : AV), es[i]? = some x → es'[i]? = some x' → Fz bs x x'
theorem FzL.nil (bs : List (Nat × Blk)) : FzL bs [] [] := ⟨rfl, fun i x x' h => by simp at h⟩
theorem FzL.cons {bs : List (Nat × Blk)} {x x' : AV} {es es' : List AV} (h : Fz bs x x') (t : FzL bs es es') : FzL bs (x :: es) (x' :: es') :=
  ⟨by simp [t.1], fun i y y' hy hy' => by
    cases i with
    | zero =>
      simp only [List.getElem?_cons_zero, Option.some.injEq] at hy hy'
      subst hy
      subst hy'
      exact h
    | succ i => exact t.2 i y y' (by simpa using hy) (by simpa using hy')⟩
theorem Fz.aggL {bs : List (Nat × Blk)} {es es' : List AV} (h : FzL bs es es') : Fz bs (.agg es) (.agg es') := .agg h.1 h.2
theorem Fz.cloL {bs : List (Nat × Blk)} {f : Fn} {first first' cap cap' : List AV} (h : FzL bs first first') (h' : FzL bs cap cap') : Fz bs (.clo f first cap) (.clo f first' cap') := .clo h.1 h.2 h'.1 h'.2
theorem Fz.ptr1 {bs : List (Nat × Blk)} {b g gen i sz : Nat} {els : List (List AV)} {el : List AV} (h : (b, ⟨gen, sz, els⟩) ∈ bs) (hg : gen = g) (he : els[i]? = some el) : Fz bs (.ptr b g i 0) (.rp el) := by
  subst hg
  exact .ptr (blk := ⟨gen, sz, els⟩) h he
theorem Fz.same {bs : List (Nat × Blk)} (v : AV) : Fz bs v v := .wk (.same v)
theorem Fz.own1 {bs : List (Nat × Blk)} {b g gen n sz : Nat} {els : List (List AV)} (h : (b, ⟨gen, sz, els⟩) ∈ bs) (hg : gen = g) (hn : els.length = n) : Fz bs (.own b g 0 n) (.sl sz false els) := by
  subst hg
  subst hn
  exact .own h

def BsOk (hp : List (Nat × Option Blk)) (bs : List (Nat × Blk)) : Prop := ∀ p, p ∈ bs → lkH hp p.1 = some p.2 ∧ ∀ el x, el ∈ p.2.els → x ∈ el → Closed x
theorem BsOk.nil (hp : List (Nat × Option Blk)) : BsOk hp [] := fun p h => by cases h
theorem BsOk.cons {hp : List (Nat × Option Blk)} {b : Nat} {blk : Blk} {bs : List (Nat × Blk)} (h : lkH hp b = some blk) (hc : ∀ el x, el ∈ blk.els → x ∈ el → Closed x) (t : BsOk hp bs) : BsOk hp ((b, blk) :: bs) := fun p hp' => by
  rcases List.mem_cons.1 hp' with rfl | h'
  · exact ⟨h, hc⟩
  · exact t p h'

def RC.froze (c : RC) (bs : List (Nat × Blk)) : RC := ⟨fun b g => if b ∈ bs.map (·.1) then none else c.own b g, c.used, fun β => c.st β ∨ ∃ p, p ∈ bs ∧ ∃ o, c.own p.1 p.2.gen = some o ∧ o.loc = some β⟩
theorem RC.froze_mono (c : RC) (bs : List (Nat × Blk)) (w : World) : Mono c (c.froze bs) w w := ⟨fun β hb => ⟨.inl hb, rfl⟩, fun g hg => hg, fun b g o _ ho => by
  simp only [RC.froze] at ho
  split at ho
  · cases ho
  · exact ho⟩

theorem Sim.froze {C : ACtx} {s : AS} {c : RC} {a : Act} {w : World} (hS : Sim C s c a w) (bs : List (Nat × Blk)) (h : ∀ p, p ∈ bs → lkH s.hp p.1 = some p.2) : Sim C ⟨s.fr, bs.map (fun p => (p.1, none)) ++ s.hp, s.gc⟩ (c.froze bs) a w := by
  have hm := c.froze_mono bs w
  have hlk : ∀ b, b ∈ bs.map (·.1) → lkH (bs.map (fun p => (p.1, (none : Option Blk))) ++ s.hp) b = none := by
    intro b hb
    clear h hm
    induction bs with
    | nil => cases hb
    | cons p bs ih =>
      rw [List.map_cons, List.cons_append, lkH_cons]
      split
      · rfl
      · rename_i hne
        rcases List.mem_cons.1 hb with h | h
        · exact absurd h hne
        · exact ih h
  have hlk' : ∀ b, b ∉ bs.map (·.1) → lkH (bs.map (fun p => (p.1, (none : Option Blk))) ++ s.hp) b = lkH s.hp b := by
    intro b hb
    refine lkH_append _ _ _ (fun p hp e => hb ?_)
    obtain ⟨q, hq, rfl⟩ := List.mem_map.1 hp
    exact List.mem_map.2 ⟨q, hq, e⟩
  refine ⟨hS.nd.step hm.st, hS.sz, fun t => (hS.fr t).mono hm, fun b blk hb => ?_, fun b g o ho => ?_, fun b1 g1 o1 b2 g2 o2 β q1 q2 q3 q4 => ?_, fun β hβ => ?_, fun β hβ => .inl (hS.st0 β hβ), hS.old, hS.mo.trans hm⟩
  · simp only at hb
    by_cases hin : b ∈ bs.map (·.1)
    · rw [hlk b hin] at hb; cases hb
    · rw [hlk' b hin] at hb
      obtain ⟨o, q1, q2⟩ := hS.hp b blk hb
      exact ⟨o, by simp only [RC.froze]; rw [if_neg hin]; exact q1, q2.mono hm (fun _ _ => rfl)⟩
  · simp only [RC.froze] at ho
    split at ho
    · cases ho
    · rename_i hin
      obtain ⟨q1, ⟨blk, q2, q3⟩, q4⟩ := hS.al b g o ho
      refine ⟨q1, ⟨blk, (hlk' b hin).trans q2, q3⟩, fun β hβ => ?_⟩
      obtain ⟨r1, r2, r3⟩ := q4 β hβ
      refine ⟨r1, fun hs => ?_, r3⟩
      rcases hs with hs | ⟨p, hp, o', ho', hl'⟩
      · exact r2 hs
      · have := (hS.inj b g o p.1 p.2.gen o' β ho ho' hβ hl').1
        exact hin (List.mem_map.2 ⟨p, hp, this.symm⟩)
  · simp only [RC.froze] at q1 q2
    split at q1
    · cases q1
    · split at q2
      · cases q2
      · exact hS.inj b1 g1 o1 b2 g2 o2 β q1 q2 q3 q4
  · rcases hβ with hβ | ⟨p, hp, o, ho, hl⟩
    · exact hS.st β hβ
    · obtain ⟨r1, r2, r3⟩ := (hS.al p.1 p.2.gen o ho).2.2 β hl
      exact ⟨r1, .inr r3⟩

theorem Fz.rep {C : ACtx} {s : AS} {c : RC} {a : Act} {w : World} (hS : Sim C s c a w) {bs : List (Nat × Blk)} (h : BsOk s.hp bs) {v v' : AV} (hf : Fz bs v v') : ∀ {u : Value}, Rep c w v u → Rep (c.froze bs) w v' u := by
  induction hf with
  | wk h => exact fun r => (h.rep r).mono (c.froze_mono bs w)
  | @own b blk hb =>
    intro u r
    obtain ⟨gen, sz, els⟩ := blk
    obtain ⟨h1, h2⟩ := h _ hb
    exact own_to_sl hS h1 h2 (fun β hβ => .inl hβ) (fun o β ho hβ => .inr ⟨_, hb, o, ho, hβ⟩) r
  | @agg es es' hl _ ih =>
    intro u r
    cases r with
    | agg _ us hl' h1 hr =>
      refine .agg es' us (hl'.trans hl.symm) h1 (fun i x' u hx hu => ?_)
      have hi : i < es.length := by rw [← hl]; exact (List.getElem?_eq_some_iff.1 hx).1
      exact ih i es[i] x' (List.getElem?_eq_getElem hi) hx (hr i _ u (List.getElem?_eq_getElem hi) hu)
  | @ptr b i blk el hb he =>
    intro u r
    obtain ⟨gen, sz, els⟩ := blk
    obtain ⟨h1, h2⟩ := h _ hb
    obtain ⟨o, k0, hB⟩ := hS.hp b _ h1
    simp only at k0 he
    cases r with
    | ptr _ _ _ _ β off hu hp =>
      obtain ⟨k1, k2, k3⟩ := hp o k0
      obtain ⟨q2, q3, q4⟩ := hB.row k3
      simp only at q2 q3 q4
      rw [k1] at q4
      obtain ⟨cur, e, y1, y2, y3⟩ := q4
      rw [q2, Nat.add_zero] at k2
      subst k2
      refine .rp el β (i * sz) (fun f => (cur[i * sz + f]?).getD undef) (fun _ => .inr ⟨_, hb, o, k0, k1⟩) (fun f x hx => ?_) (fun f x hx => ?_)
      · obtain ⟨v, r1, r2, r3⟩ := y3 i el f x he hx
        rw [r1]
        exact ⟨(cell_row y1).trans r1, r2⟩
      · obtain ⟨v, r1, r2, r3⟩ := y3 i el f x he hx
        rw [r1]
        exact r3.closed (h2 el x (List.mem_of_getElem? he) (List.mem_of_getElem? hx)) _ (fun β hb => ⟨.inl hb, rfl⟩)
  | @clo f first first' cap cap' hl _ hl' _ ih ih' =>
    intro u r
    cases r with
    | clo _ _ _ us vs k1 k2 k3 k4 =>
      refine .clo f first' cap' us vs (k1.trans hl.symm) (k2.trans hl'.symm) (fun i x' u hx hu => ?_) (fun i x' u hx hu => ?_)
      · have hi : i < first.length := by rw [← hl]; exact (List.getElem?_eq_some_iff.1 hx).1
        exact ih i first[i] x' (List.getElem?_eq_getElem hi) hx (k3 i _ u (List.getElem?_eq_getElem hi) hu)
      · have hi : i < cap.length := by rw [← hl']; exact (List.getElem?_eq_some_iff.1 hx).1
        exact ih' i cap[i] x' (List.getElem?_eq_getElem hi) hx (k4 i _ u (List.getElem?_eq_getElem hi) hu)

/-- A function that answers a row of its own making (rows by 'res b g': where it will lie). -/
def FnO (P : Program) (f : FuncId) (args : List AV) (sz : Nat) (els : List (List AV)) (res : Nat → Nat → AV) : Prop :=
  (∀ (vs : Array Value) (w : World), (callFunc f vs).run P w = .ok (.enter f vs) w) ∧
  ∀ (w : World) (st : Nat → Prop) (vs : List Value), (∀ β, st β → β < w.heap.size) → vs.length = args.length → (∀ (i : Nat) (x : AV) (u : Value), args[i]? = some x → vs[i]? = some u → Rep (RC.pure st) w x u) →
    Calls P f vs.toArray w (fun e w' => ∃ r St o, e = .returned r ∧ Below w.heap.size w w' ∧ (∀ β, st β → St β) ∧ (∀ β, St β → st β ∨ (w.heap.size ≤ β ∧ β < w'.heap.size)) ∧
      (∀ β, o.loc = some β → (w.heap.size ≤ β ∧ β < w'.heap.size) ∧ ¬ St β) ∧ ∀ (own : Nat → Nat → Option OB) (used : Nat → Prop) b g, own b g = some o → used g → RowRep ⟨own, used, St⟩ w' ⟨g, sz, els⟩ o ∧ Rep ⟨own, used, St⟩ w' (res b g) r)

/-- A value of a result: what never turns, or the row. -/
inductive ResO (b0 g0 : Nat) : AV → (Nat → Nat → AV) → Prop where
  | closed {v : AV} (h : Closed v) : ResO b0 g0 v (fun _ _ => v)
  | own (lo n : Nat) : ResO b0 g0 (.own b0 g0 lo n) (fun b g => .own b g lo n)
theorem ResO.rep {b0 g0 : Nat} {v : AV} {v' : Nat → Nat → AV} (h : ResO b0 g0 v v') {c : RC} {w : World} {o : OB} (ho : c.own b0 g0 = some o) : ∀ {u : Value}, Rep c w v u → ∀ (own : Nat → Nat → Option OB) (used : Nat → Prop) b g, own b g = some o → used g → Rep ⟨own, used, c.st⟩ w (v' b g) u := by
  induction h with
  | closed hc => exact fun r own used b g _ _ => r.closed hc _ (fun β hb => ⟨hb, rfl⟩)
  | own lo n =>
    intro u r own used b g hb hg
    cases r with
    | own _ _ _ _ A m cap hu hp =>
      refine .own b g lo n A m cap hg (fun q hq => ?_)
      have hq' : own b g = some q := hq
      rw [hb] at hq'
      obtain rfl := Option.some.inj hq'
      exact hp _ ho

inductive ResOL (s : AS) (b0 g0 : Nat) : List ResultVar → List AV → List (Nat → Nat → AV) → Prop where
  | nil : ResOL s b0 g0 [] [] []
  | cons {t : Nat} {v : AV} {v' : Nat → Nat → AV} {rs : List ResultVar} {vs : List AV} {vs' : List (Nat → Nat → AV)} (hv : lkA s.fr t = v) (h : ResO b0 g0 v v') (t' : ResOL s b0 g0 rs vs vs') : ResOL s b0 g0 (.tmp t :: rs) (v :: vs) (v' :: vs')
theorem ResOL.run {C : ACtx} {s : AS} {c : RC} {a : Act} {w : World} (hS : Sim C s c a w) {b0 g0 : Nat} {o : OB} (ho : c.own b0 g0 = some o) {rs : List ResultVar} {vs : List AV} {vs' : List (Nat → Nat → AV)} (h : ResOL s b0 g0 rs vs vs') :
    ∃ us : List Value, (rs.mapM (resOne a.tmps)).run C.P w = .ok us w ∧ us.length = vs'.length ∧ ∀ (i : Nat) (x : Nat → Nat → AV) (u : Value), vs'[i]? = some x → us[i]? = some u → ∀ (own : Nat → Nat → Option OB) (used : Nat → Prop) b g, own b g = some o → used g → Rep ⟨own, used, c.st⟩ w (x b g) u := by
  induction h with
  | nil => exact ⟨[], by simp, rfl, fun i x u h => by simp at h⟩
  | @cons t v v' rs vs vs' hv h _ ih =>
    obtain ⟨us, g1, g2, g3⟩ := ih
    refine ⟨a.tmps.getD t undef :: us, ?_, by simp [g2], fun i x z hx hz => ?_⟩
    · have : (resOne a.tmps (.tmp t)).run C.P w = .ok (a.tmps.getD t undef) w := rfl
      rw [List.mapM_cons]
      simp [Sem.run_bind, this, g1]
    · cases i with
      | zero =>
        simp only [List.getElem?_cons_zero, Option.some.injEq] at hx hz
        subst hx
        subst hz
        have := hS.fr t
        rw [hv] at this
        exact h.rep ho this
      | succ i => exact g3 i x z (by simpa using hx) (by simpa using hz)

/-- A function's end, where a row of its own is answered. -/
def retO (rs : Array ResultVar) (sz : Nat) (els : List (List AV)) (res : Nat → Nat → AV) : Exit → AS → Prop
  | .normal, s => ∃ b0 g0 vs vs', lkH s.hp b0 = some ⟨g0, sz, els⟩ ∧ ResOL s b0 g0 rs.toList vs vs' ∧ ∀ b g, res b g = retAV (vs'.map fun f => f b g)
  | .ret, s => ∃ b0 g0 vs vs', lkH s.hp b0 = some ⟨g0, sz, els⟩ ∧ ResOL s b0 g0 rs.toList vs vs' ∧ ∀ b g, res b g = retAV (vs'.map fun f => f b g)
  | _, _ => False

theorem FnO.of_awp {P : Program} {T : Nat → Option TI} {ok : ∀ t ti, T t = some ti → tiOf P t = some ti} {f : FuncId} {fn : Func} {code : Code} {args : List AV} {sz : Nat} {els : List (List AV)} {res : Nat → Nat → AV} (hf : P.funcs[f]? = some fn)
    (hn : (fn.name == "runtime.NumGoroutine") = false) (hb : fn.body = some code) (hlen : Nat.ble args.length fn.ntmps = true) (hcl : ∀ x, x ∈ args → Closed x) (hsz : Nat.blt 0 sz = true) (hels : ∀ el x, el ∈ els → x ∈ el → Closed x)
    (h : ∀ (w0 : World) (st0 : Nat → Prop), awp ⟨P, T, ok, fn.ntmps, w0, st0, fun _ => False, (none, false), RC.bare st0⟩ code ⟨frOf 0 args, [], 0⟩ (retO fn.results sz els res)) : FnO P f args sz els res := by
  refine ⟨fun vs w => ?_, fun w st vs hst hl hr => ?_⟩
  · have hn' : ¬ fn.name = "runtime.NumGoroutine" := by simpa using hn
    simp [callFunc, hf, hn', hb]
  · refine (callsIn_wide (n := 0)).1 (callsIn_of_wp_marks hf hb trivial ?_)
    have hle := Nat.le_of_ble_eq_true hlen
    have hS : SimE ⟨P, T, ok, fn.ntmps, w, st, fun _ => False, (none, false), RC.bare st⟩ ⟨frOf 0 args, [], 0⟩ { tmps := vs.toArray ++ Array.replicate (fn.ntmps - vs.toArray.size) undef, defers := [] } w := by
      refine ⟨⟨fun _ _ => none, fun _ => False, st⟩, ⟨Nd.nil _ _ _ _, by simp; omega, fun t => ?_, fun b blk hb => by simp [lkH] at hb, fun b g o ho => by simp at ho, fun b g o b' g' o' β h => by simp at h, fun β hb => ⟨hst β hb, .inl hb⟩, fun β hb => hb, Old.refl _ _, Mono.refl _ _⟩, fun g hg => hg.elim⟩
      simp only
      rw [lk_frOf]
      simp only [Nat.zero_le, if_true, Nat.sub_zero]
      cases hx : args[t]? with
      | none => exact .dead _
      | some x =>
        have ht : t < vs.length := by rw [hl]; exact (List.getElem?_eq_some_iff.1 hx).1
        have : (vs.toArray ++ Array.replicate (fn.ntmps - vs.toArray.size) undef).getD t undef = vs[t] := by
          simp [Array.getD_eq_getD_getElem?, Array.getElem?_append, ht]
        rw [this]
        have := hr t x vs[t] hx (List.getElem?_eq_getElem ht)
        simp only [Option.getD_some]
        exact this.closed (hcl x (List.mem_of_getElem? hx)) _ (fun β hb => ⟨hb, rfl⟩)
    refine wpIn_mono (h w st _ w hS) (fun e a' w' ⟨s', ⟨c', hS', _⟩, hq⟩ => ?_)
    have fin0 : ∀ (w2 : World) (c2 : RC), Sim ⟨P, T, ok, fn.ntmps, w, st, fun _ => False, (none, false), RC.bare st⟩ s' c2 { a' with defers := [] } w2 → (∃ b0 g0 vs vs', lkH s'.hp b0 = some ⟨g0, sz, els⟩ ∧ ResOL s' b0 g0 fn.results.toList vs vs' ∧ ∀ b g, res b g = retAV (vs'.map fun f => f b g)) → ∃ v, (results fn a'.tmps).run P w2 = .ok v w2 ∧ ∃ r St o, Ending.returned v = .returned r ∧ Below w.heap.size w w2 ∧ (∀ β, st β → St β) ∧ (∀ β, St β → st β ∨ (w.heap.size ≤ β ∧ β < w2.heap.size)) ∧
      (∀ β, o.loc = some β → (w.heap.size ≤ β ∧ β < w2.heap.size) ∧ ¬ St β) ∧ ∀ (own : Nat → Nat → Option OB) (used : Nat → Prop) b g, own b g = some o → used g → RowRep ⟨own, used, St⟩ w2 ⟨g, sz, els⟩ o ∧ Rep ⟨own, used, St⟩ w2 (res b g) r := by
      intro w' c' hS' ⟨b0, g0, vs', vs2, hb0, hv, he⟩
      obtain ⟨o, ho, hB⟩ := hS'.hp b0 _ hb0
      simp only at ho
      obtain ⟨us, g1, g2, g3⟩ := hv.run hS' ho
      obtain ⟨_, _, hal⟩ := hS'.al b0 g0 o ho
      have h0 := lt_of_blt hsz
      have hR := hB.row (by rw [hB.sz]; exact h0)
      refine ⟨retV us, run_results g1, retV us, c'.st, o, rfl, ⟨hS'.old.os, hS'.old.tape, hS'.old.output, hS'.old.size, fun k hk => hS'.old.block k hk (fun h => h)⟩, fun β hb => hS'.st0 β hb, fun β hb => ?_, fun β hβ => ?_, fun own used b g hb hg => ⟨?_, ?_⟩⟩
      · obtain ⟨k1, k2 | k2 | k2⟩ := hS'.st β hb
        · exact .inl k2
        · exact .inr ⟨k2, k1⟩
        · exact k2.elim
      · obtain ⟨k1, k2, k3 | k3⟩ := hal β hβ
        · exact ⟨⟨k3, k1⟩, k2⟩
        · exact k3.elim
      · obtain ⟨r1, r2, r3⟩ := hR
        refine ⟨r1, r2, ?_⟩
        cases hl : o.loc with
        | none => rw [hl] at r3; exact r3
        | some β =>
          rw [hl] at r3
          obtain ⟨cur, e, q1, q2, q3⟩ := r3
          refine ⟨cur, e, q1, q2, fun i el f x hi hx => ?_⟩
          obtain ⟨u, k1, k2, k3⟩ := q3 i el f x hi hx
          exact ⟨u, k1, k2, k3.closed (hels el x (List.mem_of_getElem? hi) (List.mem_of_getElem? hx)) _ (fun β hb => ⟨hb, rfl⟩)⟩
      · rw [he]
        have one : ∀ (l : List (Nat → Nat → AV)) (l' : List Value), l'.length = l.length → (∀ (i : Nat) (x : Nat → Nat → AV) (u : Value), l[i]? = some x → l'[i]? = some u → Rep ⟨own, used, c'.st⟩ w' (x b g) u) → Rep ⟨own, used, c'.st⟩ w' (retAV (l.map fun f => f b g)) (retV l') := by
          intro l l' hl' hr'
          have one2 : ∀ (l : List AV) (l' : List Value), l'.length = l.length → (∀ (i : Nat) (x : AV) (u : Value), l[i]? = some x → l'[i]? = some u → Rep ⟨own, used, c'.st⟩ w' x u) → Rep ⟨own, used, c'.st⟩ w' (retAV l) (retV l') := by
            intro l l' hl' hr'
            match l, l', hl' with
            | [], [], _ => exact .tup [] [] rfl hr'
            | [x], [u], _ => exact hr' 0 x u rfl rfl
            | x :: y :: l, u :: v :: l', h' => exact .tup _ _ h' hr'
          refine one2 _ l' (by rw [List.length_map]; exact hl') (fun i x u hx hu => ?_)
          rw [List.getElem?_map] at hx
          cases hi : l[i]? with
          | none => rw [hi] at hx; cases hx
          | some y =>
            rw [hi] at hx
            obtain rfl := Option.some.inj hx
            exact hr' i y u hi hu
        exact one vs2 us g2 (fun i x u hx hu => g3 i x u hx hu own used b g hb hg)
    have fin : (∃ b0 g0 vs vs', lkH s'.hp b0 = some ⟨g0, sz, els⟩ ∧ ResOL s' b0 g0 fn.results.toList vs vs' ∧ ∀ b g, res b g = retAV (vs'.map fun f => f b g)) → LeavesInM Fence.wide 0 P fn a'.tmps (fun e w' => ∃ r St o, e = .returned r ∧ Below w.heap.size w w' ∧ (∀ β, st β → St β) ∧ (∀ β, St β → st β ∨ (w.heap.size ≤ β ∧ β < w'.heap.size)) ∧
      (∀ β, o.loc = some β → (w.heap.size ≤ β ∧ β < w'.heap.size) ∧ ¬ St β) ∧ ∀ (own : Nat → Nat → Option OB) (used : Nat → Prop) b g, own b g = some o → used g → RowRep ⟨own, used, St⟩ w' ⟨g, sz, els⟩ o ∧ Rep ⟨own, used, St⟩ w' (res b g) r) a'.defers .returning w' := by
      intro hv
      refine leavesM a'.defers w' hS'.nd (fun w1 k1 k2 k3 k4 k5 => ?_)
      exact fin0 w1 _ (hS'.shut (w1 := w1) (fun β => ({ target := .collected β, args := #[] } : Deferred) ∈ a'.defers) (fun β hβ => by
        obtain ⟨D, g1, g2, g3, g4⟩ := hS'.nd.at_ _ hβ
        obtain rfl : β = D := by cases g1; rfl
        exact ⟨g2, g3, _, g4⟩) k1 k2 k3 k4 k5 (fun β hb => hst β hb) (fun β hb => hst β hb)) hv
    cases e <;> first
      | exact fin hq
      | exact hq.elim

section
variable {C : ACtx} {ops : Array Oper} {K : AS → List (List Nat × List Nat) → Prop} {k : Nat} {rest : List Oper} {fr : List (Nat × AV)} {hp : List (Nat × Option Blk)} {gc : Nat} {fps : List (List Nat × List Nat)}
  {d : Nat} {ty : TypeId} {pos : String} {after : Array Edge} {gd : Option (Nat × Bool)} {x y z : Operand} {v : AV}

/-- The arguments of a call, some of them given away. -/
theorem call_args {s : AS} {c : RC} {a : Act} {w : World} (hS : Sim C s c a w) {fx : Operand} {args : Array Operand} {ats : Array TypeId} {f : FuncId} {avs : List AV} {bs : List (Nat × Blk)} (hf : evA fr fx = .val (.func (.func f) #[] #[])) (ha : FzL bs (args.toList.map (evA fr)) avs) (hb : BsOk s.hp bs)
    (hargs : ((Op.call ⟨.value fx, args, ats⟩).operands.toList).map s.ev = ((Op.call ⟨.value fx, args, ats⟩).operands.toList).map (evA fr)) :
    a.eval fx = .func (.func f) #[] #[] ∧ (args.toList.map a.eval).length = avs.length ∧ ∀ (i : Nat) (x : AV) (u : Value), avs[i]? = some x → (args.toList.map a.eval)[i]? = some u → Rep (RC.pure (c.froze bs).st) w x u := by
  have hev : ∀ z ∈ #[fx] ++ args, Rep c w (evA fr z) (a.eval z) := by
    intro z hz
    have hz' : z ∈ (Op.call ⟨.value fx, args, ats⟩).operands.toList := by simpa [Op.operands, Call.operands] using hz
    rw [← args_ev hargs z hz']
    exact hS.ev z
  have h1 := hev fx (by simp)
  rw [hf] at h1
  refine ⟨h1.val_inv, by rw [ha.1, List.length_map, List.length_map], fun i x u hx hu => ?_⟩
  rw [List.getElem?_map] at hu
  cases hi : args.toList[i]? with
  | none => rw [hi] at hu; cases hu
  | some z =>
    rw [hi] at hu
    simp only [Option.map_some, Option.some.injEq] at hu
    subst hu
    have h2 := hev z (Array.mem_append.2 (.inr (Array.mem_toList_iff.1 (List.mem_of_getElem? hi))))
    have h3 := ha.2 i (evA fr z) x (by rw [List.getElem?_map, hi]; rfl) hx
    exact (h3.rep hS hb h2).mono (c := c.froze bs) (c' := RC.pure (c.froze bs).st) (w' := w) (Mono.mk (fun β hb => ⟨hb, rfl⟩) (fun _ _ => trivial) (fun b g o _ h => by cases h))
theorem call_run {a : Act} {w : World} {fx : Operand} {args : Array Operand} {ats : Array TypeId} {f : FuncId} {dst : Option Nat} (h1 : a.eval fx = .func (.func f) #[] #[]) (F1 : ∀ (vs : Array Value) (w : World), (callFunc f vs).run C.P w = .ok (.enter f vs) w) :
    (execOp a.eval ⟨dst, .call ⟨.value fx, args, ats⟩, ty, pos, after, gd⟩).run C.P w = .ok (.enter f (args.toList.map a.eval).toArray) w := by
  have : (args.toList.map a.eval).toArray = args.map a.eval := by
    apply Array.ext'
    rw [Array.toList_map]
  rw [this]
  simp [execOp, resolve, h1, Deferred.ofValue, invoke, F1]

/-- A call; rows of one's own that are handed over never turn any more. -/
theorem ARun.callG {dst : Option Nat} {fx : Operand} {args : Array Operand} {ats : Array TypeId} {f : FuncId} {avs : List AV} (bs : List (Nat × Blk)) (hF : FnC C.P f avs v) (hf : evA fr fx = .val (.func (.func f) #[] #[])) (ha : FzL bs (args.toList.map (evA fr)) avs) (hb : BsOk hp bs)
    (hd : (match dst with | some d => Nat.blt d C.n | none => true) = true) (hg : guardIs ops ⟨fr, hp, gc⟩ ⟨dst, .call ⟨.value fx, args, ats⟩, ty, pos, after, gd⟩ true)
    (nx : ARun C ops K (k + 1) rest ⟨putFr fr dst v, bs.map (fun p => (p.1, none)) ++ hp, gc⟩ (fps ++ [(bs.map (·.1), bs.map (·.1))])) : ARun C ops K k (⟨dst, .call ⟨.value fx, args, ats⟩, ty, pos, after, gd⟩ :: rest) ⟨fr, hp, gc⟩ fps := by
  have e : (bs.map (fun p => (p.1, (none : Option Blk)))).map (·.1) = bs.map (·.1) := by rw [List.map_map]; rfl
  refine ARun.step v bs (bs.map (fun p => (p.1, none))) hg (fun p hp => (hb p hp).1) ?_ (by rw [e]; exact nx)
  intro s c a w hS _ hargs hrd
  have hdst : ∀ e, dst = some e → e < C.n := by
    intro e he
    subst he
    exact lt_of_blt hd
  have hb' : BsOk s.hp bs := fun p hp => ⟨hrd p hp, (hb p hp).2⟩
  obtain ⟨h1, h2, h3⟩ := call_args hS hf ha hb' hargs
  obtain ⟨F1, F2⟩ := hF
  have hS1 := hS.froze bs (fun p hp => (hb' p hp).1)
  have hC := F2 w (c.froze bs).st (args.toList.map a.eval) (fun β hb => (hS1.st β hb).1) h2 h3
  unfold Oper.wp
  rw [call_run h1 F1, Oper.upon_enter]
  refine hC.mono (fun e w' ⟨r, St, he, hE, hs1, hs2, hr⟩ => ?_)
  subst he
  exact ⟨_, hS1.grow St hE hs1 hs2 dst v r hdst (fun _ _ => hr _ _), fun g hg => .inl hg⟩

/-- Memory that never turns is new, and a block of the call's own. -/
theorem Sim.growBlk {s : AS} {c : RC} {a : Act} {w w' : World} (hS : Sim C s c a w) (St : Nat → Prop) (hE : Below w.heap.size w w') (hst : ∀ β, c.st β → St β) (hst' : ∀ β, St β → c.st β ∨ (w.heap.size ≤ β ∧ β < w'.heap.size)) (b : Nat) (blk : Blk) (o : OB) (hg : ¬ c.used blk.gen)
    (hloc : ∀ β, o.loc = some β → (w.heap.size ≤ β ∧ β < w'.heap.size) ∧ ¬ St β)
    (d : Option Nat) (v : AV) (u : Value) (hd : ∀ e, d = some e → e < C.n)
    (hv : RowRep ⟨(c.upd b blk.gen o).own, (c.upd b blk.gen o).used, St⟩ w' blk o ∧ Rep ⟨(c.upd b blk.gen o).own, (c.upd b blk.gen o).used, St⟩ w' v u) : Sim C (s.app d v [(b, some blk)]) ⟨(c.upd b blk.gen o).own, (c.upd b blk.gen o).used, St⟩ (a.put d u) w' := by
  have hm : Mono c ⟨(c.upd b blk.gen o).own, (c.upd b blk.gen o).used, St⟩ w w' := by
    refine ⟨fun β hb => ⟨hst β hb, hE.block β (hS.st β hb).1⟩, fun g hu => .inl hu, fun b' g' o' hu ho' => ?_⟩
    simp only [RC.upd] at ho'
    split at ho'
    · rename_i hbb
      subst hbb
      split at ho'
      · rename_i hgg
        subst hgg
        exact absurd hu hg
      · cases ho'
    · exact ho'
  have hold : ∀ b' g' o' β, c.own b' g' = some o' → o'.loc = some β → o.loc ≠ some β := by
    intro b' g' o' β h1 h2 e
    have := ((hS.al b' g' o' h1).2.2 β h2).1
    have := (hloc β e).1.1
    omega
  refine ⟨(Act.put_nd a d u).symm ▸ hS.nd.step hm.st, (Act.put_size a d u).trans hS.sz, fr_put hS hm d v u hd (fun _ => hv.2), fun b' blk' hb' => ?_, fun b' g' o' ho' => ?_, fun b1 g1 o1 b2 g2 o2 β h1 h2 k1 k2 => ?_, fun β hb => ?_, fun β hb => hst β (hS.st0 β hb), hS.old.below hE, hS.mo.trans hm⟩
  · simp only [AS.app, List.cons_append, List.nil_append, lkH_cons] at hb'
    split at hb'
    · rename_i hbb
      subst hbb
      obtain rfl := Option.some.inj hb'
      exact ⟨o, by simp [RC.upd], .inl hv.1⟩
    · rename_i hbb
      obtain ⟨o', h1, h2⟩ := hS.hp b' blk' hb'
      refine ⟨o', by simp [RC.upd, hbb, h1], h2.mono hm (fun β hβ => hE.block β ((hS.al b' _ o' h1).2.2 β hβ).1)⟩
  · simp only [RC.upd] at ho'
    split at ho'
    · rename_i hbb
      subst hbb
      split at ho'
      · rename_i hgg
        subst hgg
        obtain rfl := Option.some.inj ho'
        refine ⟨.inr rfl, ⟨blk, by simp [AS.app, lkH_cons], rfl⟩, fun β hβ => ?_⟩
        obtain ⟨h, h'⟩ := hloc β hβ
        exact ⟨h.2, h', .inl (Nat.le_trans hS.old.size h.1)⟩
      · cases ho'
    · rename_i hbb
      obtain ⟨k1, ⟨blk', k2, k3⟩, k4⟩ := hS.al b' g' o' ho'
      refine ⟨.inl k1, ⟨blk', by simp [AS.app, lkH_cons, hbb, k2], k3⟩, fun β hβ => ?_⟩
      obtain ⟨q1, q2, q3⟩ := k4 β hβ
      refine ⟨Nat.lt_of_lt_of_le q1 hE.size, fun hs => ?_, q3⟩
      rcases hst' β hs with h | h
      · exact q2 h
      · omega
  · simp only [RC.upd] at h1 h2
    split at h1
    · rename_i e1
      split at h1
      · rename_i f1
        obtain rfl := Option.some.inj h1
        split at h2
        · rename_i e2
          split at h2
          · rename_i f2
            exact ⟨e1.trans e2.symm, f1.trans f2.symm⟩
          · cases h2
        · exact absurd k1 (hold b2 g2 o2 β h2 k2)
      · cases h1
    · split at h2
      · split at h2
        · obtain rfl := Option.some.inj h2
          exact absurd k2 (hold b1 g1 o1 β h1 k1)
        · cases h2
      · exact hS.inj b1 g1 o1 b2 g2 o2 β h1 h2 k1 k2
  · rcases hst' β hb with h | h
    · exact ⟨Nat.lt_of_lt_of_le (hS.st β h).1 hE.size, (hS.st β h).2⟩
    · exact ⟨h.2, .inr (.inl (Nat.le_trans hS.old.size h.1))⟩

/-- A call that answers a row of one's own. -/
theorem ARun.callO {fx : Operand} {args : Array Operand} {ats : Array TypeId} {f : FuncId} {avs : List AV} {sz : Nat} {els : List (List AV)} {res : Nat → Nat → AV} (bs : List (Nat × Blk)) (hF : FnO C.P f avs sz els res) (hf : evA fr fx = .val (.func (.func f) #[] #[])) (ha : FzL bs (args.toList.map (evA fr)) avs) (hb : BsOk hp bs)
    (hd : Nat.blt d C.n = true) (hg : guardIs ops ⟨fr, hp, gc⟩ ⟨some d, .call ⟨.value fx, args, ats⟩, ty, pos, after, gd⟩ true)
    (nx : ARun C ops K (k + 1) rest ⟨(d, res d (gc + k)) :: fr, (d, some ⟨gc + k, sz, els⟩) :: (bs.map (fun p => (p.1, none)) ++ hp), gc⟩ (fps ++ [(bs.map (·.1), d :: bs.map (·.1))])) : ARun C ops K k (⟨some d, .call ⟨.value fx, args, ats⟩, ty, pos, after, gd⟩ :: rest) ⟨fr, hp, gc⟩ fps := by
  have e : (bs.map (fun p => (p.1, (none : Option Blk)))).map (·.1) = bs.map (·.1) := by rw [List.map_map]; rfl
  refine ARun.step (res d (gc + k)) bs ((d, some ⟨gc + k, sz, els⟩) :: bs.map (fun p => (p.1, none))) hg (fun p hp => (hb p hp).1) ?_ (by rw [List.map_cons, e]; exact nx)
  intro s c a w hS hf' hargs hrd
  have hb' : BsOk s.hp bs := fun p hp => ⟨hrd p hp, (hb p hp).2⟩
  obtain ⟨h1, h2, h3⟩ := call_args hS hf ha hb' hargs
  obtain ⟨F1, F2⟩ := hF
  have hS1 := hS.froze bs (fun p hp => (hb' p hp).1)
  have hC := F2 w (c.froze bs).st (args.toList.map a.eval) (fun β hb => (hS1.st β hb).1) h2 h3
  unfold Oper.wp
  rw [call_run h1 F1, Oper.upon_enter]
  refine hC.mono (fun e w' ⟨r, St, o, he, hE, hs1, hs2, hs3, hr⟩ => ?_)
  subst he
  refine ⟨_, hS1.growBlk St hE hs1 hs2 d ⟨gc + k, sz, els⟩ o hf' hs3 (some d) (res d (gc + k)) r (dst_lt hd) (hr _ _ _ _ (by simp [RC.upd]) (.inr rfl)), fun g hg => ?_⟩
  exact hg
end
end Go.Proofs.Ytedfegoafallhaa
