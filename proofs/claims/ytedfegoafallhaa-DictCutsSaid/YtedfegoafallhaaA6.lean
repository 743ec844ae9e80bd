/- Calls of functions that only compute; what a function answers. -/
import Derived.Test.YtedfegoafallhaaA5
import Derived.RangeFuncRecord
namespace Go.Proofs.Ytedfegoafallhaa
set_option linter.unusedVariables false
set_option linter.unusedSimpArgs false
open Go Go.RowKit

def RC.pure (st : Nat → Prop) : RC := ⟨fun _ _ => none, fun _ => True, st⟩
def retV : List Value → Value
  | [v] => v
  | l => .tuple l.toArray
def retAV : List AV → AV
  | [v] => v
  | l => .tup l

/-- A function that only computes: of arguments that read so, a result that reads so; nothing that was there turns. -/
def FnC (P : Program) (f : FuncId) (args : List AV) (res : AV) : Prop :=
  (∀ (vs : Array Value) (w : World), (callFunc f vs).run P w = .ok (.enter f vs) w) ∧
  ∀ (w : World) (st : Nat → Prop) (vs : List Value), (∀ β, st β → β < w.heap.size) → vs.length = args.length → (∀ (i : Nat) (x : AV) (u : Value), args[i]? = some x → vs[i]? = some u → Rep (RC.pure st) w x u) →
    Calls P f vs.toArray w (fun e w' => ∃ r St, e = .returned r ∧ Below w.heap.size w w' ∧ (∀ β, st β → St β) ∧ (∀ β, St β → st β ∨ (w.heap.size ≤ β ∧ β < w'.heap.size)) ∧ ∀ own used, Rep ⟨own, used, St⟩ w' res r)

inductive Closed : AV → Prop where
  | val (v : Value) : Closed (.val v)
  | rp {es : List AV} (h : ∀ x, x ∈ es → Closed x) : Closed (.rp es)
  | sl {sz : Nat} {full : Bool} {els : List (List AV)} (h : ∀ el x, el ∈ els → x ∈ el → Closed x) : Closed (.sl sz full els)
  | agg {es : List AV} (h : ∀ x, x ∈ es → Closed x) : Closed (.agg es)
  | tup {es : List AV} (h : ∀ x, x ∈ es → Closed x) : Closed (.tup es)
  | clo {f : Fn} {first cap : List AV} (h : ∀ x, x ∈ first → Closed x) (h' : ∀ x, x ∈ cap → Closed x) : Closed (.clo f first cap)
  | mp {ks : List Value} {vs : List AV} (h : ∀ x, x ∈ vs → Closed x) : Closed (.mp ks vs)
  | bany : Closed .bany
  | dead : Closed .dead

theorem closedL_nil : ∀ x, x ∈ ([] : List AV) → Closed x := fun x h => by cases h
theorem closedL_cons {a : AV} {l : List AV} (h : Closed a) (t : ∀ x, x ∈ l → Closed x) : ∀ x, x ∈ a :: l → Closed x := fun x hx => by
  rcases List.mem_cons.1 hx with rfl | hx
  · exact h
  · exact t x hx
theorem Rep.closed {c : RC} {w w' : World} {v : AV} {u : Value} (r : Rep c w v u) : Closed v → ∀ (c' : RC), (∀ β, c.st β → c'.st β ∧ w'.heap[β]? = w.heap[β]?) → Rep c' w' v u := by
  induction r with
  | val v => exact fun _ _ _ => .val v
  | ptr b g i f β o hu hp => exact fun h => by cases h
  | rp es β o us hs hc _ ih =>
    intro h c' hm
    cases h with
    | rp h =>
      by_cases he : es = []
      · subst he
        exact .rp [] β o us (fun k => absurd rfl k) (fun f x hx => by simp at hx) (fun f x hx => by simp at hx)
      · obtain ⟨h1, h2⟩ := hm β (hs he)
        exact .rp es β o us (fun _ => h1) (fun f x hx => ⟨(cell_same h2 _).trans (hc f x hx).1, (hc f x hx).2⟩) (fun f x hx => ih f x hx (h x (List.mem_of_getElem? hx)) c' hm)
  | sl sz full els A cap β o us hn hm hf h0 hz hA hc _ ih =>
    intro h c' hm'
    cases h with
    | sl h =>
      refine .sl sz full els A cap β o us hn hm hf h0 hz (fun he => ⟨(hA he).1, fun hz' => (hm' β ((hA he).2 hz')).1⟩) (fun i el f x hi hx => ⟨?_, (hc i el f x hi hx).2⟩) (fun i el f x hi hx => ih i el f x hi hx (h el x (List.mem_of_getElem? hi) (List.mem_of_getElem? hx)) c' hm')
      have he : els ≠ [] := by intro e; subst e; simp at hi
      have hs : 0 < sz := by
        have h1 := hz el (List.mem_of_getElem? hi)
        have h2 := (List.getElem?_eq_some_iff.1 hx).1
        omega
      exact (cell_same (hm' β ((hA he).2 hs)).2 _).trans (hc i el f x hi hx).1
  | own b g lo n A m cap hu hp => exact fun h => by cases h
  | agg es us hl h1 _ ih =>
    intro h c' hm
    cases h with
    | agg h => exact .agg es us hl h1 (fun i x u hx hu => ih i x u hx hu (h x (List.mem_of_getElem? hx)) c' hm)
  | tup es us hl _ ih =>
    intro h c' hm
    cases h with
    | tup h => exact .tup es us hl (fun i x u hx hu => ih i x u hx hu (h x (List.mem_of_getElem? hx)) c' hm)
  | clo f first cap us vs hl hl' _ _ ih ih' =>
    intro h c' hm
    cases h with
    | clo h h' => exact .clo f first cap us vs hl hl' (fun i x u hx hu => ih i x u hx hu (h x (List.mem_of_getElem? hx)) c' hm) (fun i x u hx hu => ih' i x u hx hu (h' x (List.mem_of_getElem? hx)) c' hm)
  | it b g β hu hp => exact fun h => by cases h
  | mo b g β hu hp => exact fun h => by cases h
  | mp ks vs β clock es hs hh hk hl _ ih =>
    intro h c' hm
    cases h with
    | mp h => exact .mp ks vs β clock es (hm β hs).1 ((hm β hs).2.trans hh) hk hl (fun i x e hx he => ih i x e hx he (h x (List.mem_of_getElem? hx)) c' hm)
  | bany b => exact fun _ _ _ => .bany b
  | dead v => exact fun _ _ _ => .dead v

/-- What a value is when the call's own memory is never written any more. -/
inductive Reif (s : AS) : AV → AV → Prop where
  | closed (v : AV) (h : Closed v) : Reif s v v
  | own {b g lo n : Nat} {blk : Blk} {els' : List (List AV)} (hb : lkH s.hp b = some blk) (hg : blk.gen = g) (hl : lo + n ≤ blk.els.length) (hn : els'.length = n)
      (hlen : ∀ (i : Nat) (el el' : List AV), blk.els[lo + i]? = some el → els'[i]? = some el' → el'.length = el.length)
      (hr : ∀ (i : Nat) (el el' : List AV) (f : Nat) (x x' : AV), blk.els[lo + i]? = some el → els'[i]? = some el' → el[f]? = some x → el'[f]? = some x' → Reif s x x') : Reif s (.own b g lo n) (.sl blk.sz false els')
  | agg {es es' : List AV} (hl : es'.length = es.length) (hr : ∀ (i : Nat) (x x' : AV), es[i]? = some x → es'[i]? = some x' → Reif s x x') : Reif s (.agg es) (.agg es')
  | nil (sz sz' : Nat) (full : Bool) : Reif s (.sl sz full []) (.sl sz' false [])
  | made {b g gen sz : Nat} {ks : List Value} {vs : List AV} (hb : lkH s.hp b = some ⟨gen, sz, [.dead :: ks.map .val, vs]⟩) (hg : gen = g) (h : ∀ x, x ∈ vs → Closed x) : Reif s (.mo b g) (.mp ks vs)
  | weak {sz : Nat} {els : List (List AV)} (h : Closed (.sl sz true els)) : Reif s (.sl sz true els) (.sl sz false els)
  | ptr {b g i gen sz : Nat} {els : List (List AV)} {el : List AV} (hb : lkH s.hp b = some ⟨gen, sz, els⟩) (hg : gen = g) (he : els[i]? = some el) (h : ∀ x, x ∈ el → Closed x) : Reif s (.ptr b g i 0) (.rp el)
  | clo {f : Fn} {first first' cap cap' : List AV} (hl : first'.length = first.length) (hr : ∀ (i : Nat) (x x' : AV), first[i]? = some x → first'[i]? = some x' → Reif s x x') (hl' : cap'.length = cap.length) (hr' : ∀ (i : Nat) (x x' : AV), cap[i]? = some x → cap'[i]? = some x' → Reif s x x') : Reif s (.clo f first cap) (.clo f first' cap')

def RL (s : AS) (es es' : List AV) : Prop := es'.length = es.length ∧ ∀ (i : Nat) (x x' : AV), es[i]? = some x → es'[i]? = some x' → Reif s x x'
theorem RL.nil (s : AS) : RL s [] [] := ⟨rfl, fun i x x' h => by simp at h⟩
theorem RL.cons {s : AS} {x x' : AV} {es es' : List AV} (h : Reif s x x') (t : RL s es es') : RL s (x :: es) (x' :: es') :=
  ⟨by simp [t.1], fun i y y' hy hy' => by
    cases i with
    | zero =>
      simp only [List.getElem?_cons_zero, Option.some.injEq] at hy hy'
      subst hy
      subst hy'
      exact h
    | succ i => exact t.2 i y y' (by simpa using hy) (by simpa using hy')⟩
theorem Reif.aggL {s : AS} {es es' : List AV} (h : RL s es es') : Reif s (.agg es) (.agg es') := .agg h.1 h.2
theorem Reif.cloL {s : AS} {f : Fn} {first first' cap cap' : List AV} (h : RL s first first') (h' : RL s cap cap') : Reif s (.clo f first cap) (.clo f first' cap') := .clo h.1 h.2 h'.1 h'.2
theorem Reif.nilSl {s : AS} {sz sz' : Nat} {full : Bool} : Reif s (.sl sz full []) (.sl sz' false []) := .nil sz sz' full
theorem Reif.val {s : AS} (v : Value) : Reif s (.val v) (.val v) := .closed _ (.val v)
/-- A slice of the call's own, whole, whose elements are plain. -/
theorem Reif.owned {s : AS} {b g n gen sz : Nat} {els : List (List AV)} (hb : lkH s.hp b = some ⟨gen, sz, els⟩) (hg : gen = g) (hn : els.length = n) (hc : ∀ el x, el ∈ els → x ∈ el → Closed x) : Reif s (.own b g 0 n) (.sl sz false els) :=
  .own (blk := ⟨gen, sz, els⟩) (els' := els) hb hg (by simp [hn]) hn (fun i el el' h h' => by
    simp only [Nat.zero_add] at h
    rw [h] at h'
    obtain rfl := Option.some.inj h'
    rfl) (fun i el el' f x x' h h' hx hx' => by
    simp only [Nat.zero_add] at h
    rw [h] at h'
    obtain rfl := Option.some.inj h'
    rw [hx] at hx'
    obtain rfl := Option.some.inj hx'
    exact .closed x (hc el x (List.mem_of_getElem? h) (List.mem_of_getElem? hx)))

/-- All that the call owns is given away. -/
def RC.given (c : RC) : Nat → Prop := fun β => c.st β ∨ ∃ b g o, c.own b g = some o ∧ o.loc = some β

theorem Reif.rep {C : ACtx} {s : AS} {c : RC} {a : Act} {w : World} (hS : Sim C s c a w) {v v' : AV} (h : Reif s v v') : ∀ {u : Value}, Rep c w v u → ∀ own used, Rep ⟨own, used, c.given⟩ w v' u := by
  induction h with
  | closed v hc => exact fun r own used => r.closed hc _ (fun β hb => ⟨.inl hb, rfl⟩)
  | @own b g lo n blk els' hb hg hl hn hlen _ ih =>
    intro u r own used
    subst hg
    obtain ⟨o, h1, hB⟩ := hS.hp b blk hb
    cases r with
    | own _ _ _ _ A m cap hu hp =>
      obtain ⟨rfl, k2, k3, k4, k0, k5⟩ := hp o h1
      obtain ⟨h2, h3, h4⟩ := hB.row k0
      subst hn
      rcases k5 with hcap | ⟨β, k5, k6, k7⟩
      · -- no room: nothing is there
        subst hcap
        have hn0 : els'.length = 0 := by omega
        have he : els' = [] := List.eq_nil_of_length_eq_zero hn0
        subst he
        refine .sl blk.sz false [] A 0 0 0 (fun _ _ => undef) (by simp) (by simp [maxLen]) (by simp) (fun _ => rfl) (by simp) (fun h => absurd rfl h) (fun i el f x hi => by simp at hi) (fun i el f x hi => by simp at hi)
      · rw [k5] at h4
        obtain ⟨cur, e, q1, q2, q3⟩ := h4
        rw [h2] at k6
        have hel : ∀ (i : Nat) (el' : List AV), els'[i]? = some el' → ∃ el, blk.els[lo + i]? = some el ∧ el'.length = el.length := by
          intro i el' hi
          have hi' := (List.getElem?_eq_some_iff.1 hi).1
          have : blk.els[lo + i]? = some (blk.els[lo + i]'(by omega)) := List.getElem?_eq_getElem _
          exact ⟨_, this, hlen i _ el' this hi⟩
        have hcell : ∀ (i : Nat) (el' : List AV) (f : Nat) (x' : AV), els'[i]? = some el' → el'[f]? = some x' → ∃ u x, cur[(lo + i) * blk.sz + f]? = some u ∧ u.oneCell' = true ∧ Rep c w x u ∧ ∀ own used, Rep ⟨own, used, c.given⟩ w x' u := by
          intro i el' f x' hi hx
          obtain ⟨el, e1, e2⟩ := hel i el' hi
          have hfl : f < el.length := by rw [← e2]; exact (List.getElem?_eq_some_iff.1 hx).1
          obtain ⟨u, r1, r2, r3⟩ := q3 (lo + i) el f (el[f]) e1 (List.getElem?_eq_getElem hfl)
          exact ⟨u, el[f], r1, r2, r3, fun own used => ih i el el' f el[f] x' e1 hi (List.getElem?_eq_getElem hfl) hx r3 own used⟩
        refine .sl blk.sz false els' A cap β (lo * blk.sz) (fun i f => (cur[(lo + i) * blk.sz + f]?).getD undef) k2 k3 (by simp) k4 (fun el' hel' => ?_) (fun _ => ⟨k6, fun _ => .inr ⟨b, blk.gen, o, h1, k5⟩⟩) (fun i el' f x' hi hx => ?_) (fun i el' f x' hi hx => ?_)
        · obtain ⟨i, hi⟩ := List.getElem?_of_mem hel'
          obtain ⟨el, e1, e2⟩ := hel i el' hi
          rw [e2]
          exact h3 el (List.mem_of_getElem? e1)
        · obtain ⟨u, x, r1, r2, _⟩ := hcell i el' f x' hi hx
          rw [r1]
          refine ⟨?_, r2⟩
          rw [cell_row q1, ← Nat.add_mul]
          exact r1
        · obtain ⟨u, x, r1, r2, r3, r4⟩ := hcell i el' f x' hi hx
          rw [r1]
          exact r4 own used
  | nil sz sz' full =>
    intro u r own used
    cases r with
    | sl _ _ _ A cap β o us hn hm hf h0 hz hA hc hr => exact .sl sz' false [] A cap β o us hn hm (by simp) h0 (by simp) (fun h => absurd rfl h) (fun i el f x hi => by simp at hi) (fun i el f x hi => by simp at hi)
  | @made b g gen sz ks vs hb hg hcl =>
    intro u r own used
    subst hg
    obtain ⟨o, h1, hB⟩ := hS.hp b _ hb
    simp only at h1
    cases r with
    | mo _ _ β hu hp =>
      obtain ⟨hloc, hsz⟩ := hp o h1
      obtain ⟨_, _, β', q1, q2⟩ := hB.obj hsz
      rw [hloc] at q1
      obtain rfl := Option.some.inj q1
      rcases q2 with ⟨s, pos, r1, r2⟩ | ⟨es, clock, ks', vs', r1, r2, r3, r4, r5⟩
      · simp at r2
      · simp only [List.cons.injEq, and_true, true_and] at r4
        obtain ⟨e1, e2⟩ := r4
        have e1 : ks = ks' := by
          have := congrArg (List.map (fun a => match a with | AV.val v => v | _ => undef)) e1
          simpa [List.map_map, Function.comp_def] using this
        subst e1
        subst e2
        exact .mp ks vs β clock es (.inr ⟨b, gen, o, h1, hloc⟩) r1 r2 r3 (fun i x e hx he => (r5 i x e hx he).closed (hcl x (List.mem_of_getElem? hx)) _ (fun β hb => ⟨.inl hb, rfl⟩))
  | @weak sz els hcl =>
    intro u r own used
    have := r.closed (w' := w) hcl ⟨own, used, c.given⟩ (fun β hb => ⟨.inl hb, rfl⟩)
    cases this with
    | sl _ _ _ A cap β o us hn hm hf h0 hz hA hc hr => exact .sl sz false els A cap β o us hn hm (by simp) h0 hz hA hc hr
  | @ptr b g i gen sz els el hb hg he hcl =>
    intro u r own used
    subst hg
    obtain ⟨o, h1, hB⟩ := hS.hp b _ hb
    simp only at h1
    cases r with
    | ptr _ _ _ _ β off hu hp =>
      obtain ⟨k1, k2, k3⟩ := hp o h1
      obtain ⟨h2, h3, h4⟩ := hB.row k3
      simp only at h2 h3 h4
      rw [k1] at h4
      obtain ⟨cur, e, q1, q2, q3⟩ := h4
      rw [h2, Nat.add_zero] at k2
      subst k2
      refine .rp el β (i * sz) (fun f => (cur[i * sz + f]?).getD undef) (fun _ => .inr ⟨b, gen, o, h1, k1⟩) (fun f x hx => ?_) (fun f x hx => ?_)
      · obtain ⟨v, r1, r2, r3⟩ := q3 i el f x he hx
        rw [r1]
        refine ⟨?_, r2⟩
        rw [cell_row q1]
        exact r1
      · obtain ⟨v, r1, r2, r3⟩ := q3 i el f x he hx
        rw [r1]
        exact r3.closed (hcl x (List.mem_of_getElem? hx)) _ (fun β hb => ⟨.inl hb, rfl⟩)
  | @clo f first first' cap cap' hl _ hl' _ ih ih' =>
    intro u r own used
    cases r with
    | clo _ _ _ us vs k1 k2 k3 k4 =>
      refine .clo f first' cap' us vs (k1.trans hl.symm) (k2.trans hl'.symm) (fun i x' u hx hu => ?_) (fun i x' u hx hu => ?_)
      · have hi : i < first.length := by rw [← hl]; exact (List.getElem?_eq_some_iff.1 hx).1
        exact ih i first[i] x' (List.getElem?_eq_getElem hi) hx (k3 i _ u (List.getElem?_eq_getElem hi) hu) own used
      · have hi : i < cap.length := by rw [← hl']; exact (List.getElem?_eq_some_iff.1 hx).1
        exact ih' i cap[i] x' (List.getElem?_eq_getElem hi) hx (k4 i _ u (List.getElem?_eq_getElem hi) hu) own used
  | @agg es es' hl _ ih =>
    intro u r own used
    cases r with
    | agg _ us hl' h1 hr =>
      refine .agg es' us (hl'.trans hl.symm) h1 (fun i x' u hx hu => ?_)
      have hi : i < es.length := by rw [← hl]; exact (List.getElem?_eq_some_iff.1 hx).1
      exact ih i es[i] x' (List.getElem?_eq_getElem hi) hx (hr i _ u (List.getElem?_eq_getElem hi) hu) own used

/-- A result, as it reads at the end. -/
inductive ResA (C : ACtx) (s : AS) : ResultVar → AV → Prop where
  | tmp {t : Nat} {v : AV} (h : Reif s (lkA s.fr t) v) : ResA C s (.tmp t) v
  | agg {t ty b g i f : Nat} {blk : Blk} {ti : TI} {el cs cs' : List AV} (hx : lkA s.fr t = .ptr b g i f) (hb : lkH s.hp b = some blk) (hg : blk.gen = g) (he : blk.els[i]? = some el) (ht : C.T ty = some ti) (ha : ti.k.agg = true) (hc : loadCs el f ti.size = some cs) (h : RL s cs cs') : ResA C s (.cell t ty) (.agg cs')
  | one {t ty b g i f : Nat} {blk : Blk} {ti : TI} {el : List AV} {v v' : AV} (hx : lkA s.fr t = .ptr b g i f) (hb : lkH s.hp b = some blk) (hg : blk.gen = g) (he : blk.els[i]? = some el) (ht : C.T ty = some ti) (ha : ti.k.agg = false) (hc : el[f]? = some v) (h : Reif s v v') : ResA C s (.cell t ty) v'

inductive ResL (C : ACtx) (s : AS) : List ResultVar → List AV → Prop where
  | nil : ResL C s [] []
  | cons {r : ResultVar} {v : AV} {rs : List ResultVar} {vs : List AV} (h : ResA C s r v) (t : ResL C s rs vs) : ResL C s (r :: rs) (v :: vs)

/-- A function's end. -/
def retA (C : ACtx) (rs : Array ResultVar) (res : AV) : Exit → AS → Prop
  | .normal, s => ∃ vs, ResL C s rs.toList vs ∧ res = retAV vs
  | .ret, s => ∃ vs, ResL C s rs.toList vs ∧ res = retAV vs
  | _, _ => False

def resOne (tmps : Array Value) : ResultVar → Sem Value
  | .tmp t => Sem.pure (tmps.getD t undef)
  | .cell a t => do loadVar t (← asAddr (tmps.getD a undef))

theorem ResA.run {C : ACtx} {s : AS} {c : RC} {a : Act} {w : World} (hS : Sim C s c a w) {r : ResultVar} {v : AV} (h : ResA C s r v) : ∃ u, (resOne a.tmps r).run C.P w = .ok u w ∧ ∀ own used, Rep ⟨own, used, c.given⟩ w v u := by
  cases h with
  | @tmp t v h => exact ⟨a.tmps.getD t undef, rfl, h.rep hS (hS.fr t)⟩
  | @agg t ty b g i f blk ti el cs cs' hx hb hg he ht ha hc h =>
    have h1 := hS.fr t
    rw [hx] at h1
    obtain ⟨β, cur, e, q1, q2, q3, q4, q5⟩ := blk_cells hS hb hg h1 he
    obtain ⟨l1, l2⟩ := loadCs_spec hc
    obtain ⟨us, m1, m2⟩ := pick_list (fun j x u => w.cell? ⟨β, i * blk.sz + f + j, none⟩ = some u ∧ u.oneCell' = true ∧ Rep c w x u) cs 0 (fun j x hx => by
      obtain ⟨u, r1, r2, r3⟩ := q5 (f + j) x (l2 j x hx)
      refine ⟨u, ?_, r2, r3⟩
      rw [Nat.zero_add, cell_row q2, Nat.add_assoc]
      exact r1)
    have hget : ∀ (j : Nat) (u : Value), us[j]? = some u → ∃ x, cs[j]? = some x := fun j u hu => ⟨cs[j]'(by have := (List.getElem?_eq_some_iff.1 hu).1; omega), List.getElem?_eq_getElem _⟩
    have hagg : Rep c w (.agg cs) (.agg us.toArray) := .agg cs us m1 (fun u hu => by
      obtain ⟨j, hj⟩ := List.getElem?_of_mem hu
      obtain ⟨x, hx⟩ := hget j u hj
      exact (m2 j x u hx hj).2.1) (fun j x u hx hu => (m2 j x u hx hu).2.2)
    refine ⟨.agg us.toArray, ?_, (Reif.aggL h).rep hS hagg⟩
    have := run_loadAgg ht ha w β (i * blk.sz + f) us (m1.trans l1) (fun j u hu => by
      obtain ⟨x, hx⟩ := hget j u hu
      have := (m2 j x u hx hu).1
      rwa [Nat.zero_add] at this)
    simp only [Instr.loadAt, Instr.sureAddr, Sem.run_bind, Sem.run_pure, Result.andThen_ok] at this
    simp [resOne, q1, asAddr, this]
  | @one t ty b g i f blk ti el v v' hx hb hg he ht ha hc h =>
    have h1 := hS.fr t
    rw [hx] at h1
    obtain ⟨β, cur, e, q1, q2, q3, q4, q5⟩ := blk_cells hS hb hg h1 he
    obtain ⟨u, r1, r2, r3⟩ := q5 f v hc
    refine ⟨u, ?_, h.rep hS r3⟩
    have := run_loadOne ht ha w ⟨β, i * blk.sz + f, none⟩ u ((cell_row q2).trans r1)
    simp only [Instr.loadAt, Instr.sureAddr, Sem.run_bind, Sem.run_pure, Result.andThen_ok] at this
    simp [resOne, q1, asAddr, this]

theorem ResL.run {C : ACtx} {s : AS} {c : RC} {a : Act} {w : World} (hS : Sim C s c a w) {rs : List ResultVar} {vs : List AV} (h : ResL C s rs vs) :
    ∃ us : List Value, (rs.mapM (resOne a.tmps)).run C.P w = .ok us w ∧ us.length = vs.length ∧ ∀ (i : Nat) (x : AV) (u : Value), vs[i]? = some x → us[i]? = some u → ∀ own used, Rep ⟨own, used, c.given⟩ w x u := by
  induction h with
  | nil => exact ⟨[], by simp, rfl, fun i x u h => by simp at h⟩
  | @cons r v rs vs h _ ih =>
    obtain ⟨u, h1, h2⟩ := h.run hS
    obtain ⟨us, g1, g2, g3⟩ := ih
    refine ⟨u :: us, ?_, by simp [g2], fun i x z hx hz => ?_⟩
    · rw [List.mapM_cons]
      simp [Sem.run_bind, h1, g1]
    · cases i with
      | zero =>
        simp only [List.getElem?_cons_zero, Option.some.injEq] at hx hz
        subst hx
        subst hz
        exact h2
      | succ i => exact g3 i x z (by simpa using hx) (by simpa using hz)

theorem run_results {P : Program} {fn : Func} {tmps : Array Value} {w : World} {us : List Value} (h : (fn.results.toList.mapM (resOne tmps)).run P w = .ok us w) : (results fn tmps).run P w = .ok (retV us) w := by
  have e : results fn tmps = (do
      let vs ← fn.results.mapM (resOne tmps)
      pure (if h : vs.size = 1 then vs[0] else .tuple vs)) := by
    unfold results
    congr 1
  rw [e, Array.mapM_eq_mapM_toList]
  simp only [Sem.run_map, bind_pure_comp, h, Result.andThen_ok]
  match us with
  | [] => rfl
  | [u] => rfl
  | u :: v :: l => simp [retV]

def frOf : Nat → List AV → List (Nat × AV)
  | _, [] => []
  | k, v :: l => (k, v) :: frOf (k + 1) l
theorem lk_frOf : ∀ (l : List AV) (k t : Nat), lkA (frOf k l) t = if k ≤ t then (l[t - k]?).getD .dead else .dead
  | [], k, t => by simp [frOf, lkA]
  | v :: l, k, t => by
    rw [frOf, lkA_cons, lk_frOf l (k + 1) t]
    by_cases h : t = k
    · subst h
      simp
    · rw [if_neg h]
      by_cases h2 : k + 1 ≤ t
      · rw [if_pos h2, if_pos (by omega), show t - k = (t - (k + 1)) + 1 by omega]
        rfl
      · rw [if_neg h2, if_neg (by omega)]

/-- Blocks that hold loops' deferred calls are left out. -/
theorem Rep.drop {c : RC} {w w1 : World} {M : Nat → Prop} (hM : ∀ β, M β → ∃ o, w.heap[β]? = some (.deferred o)) (hs : ∀ β, ¬ M β → w1.heap[β]? = w.heap[β]?) {v : AV} {u : Value} (r : Rep c w v u) : Rep ⟨c.own, c.used, fun β => c.st β ∧ ¬ M β⟩ w1 v u := by
  have hcell : ∀ {β o : Nat} {u : Value}, w.cell? ⟨β, o, none⟩ = some u → ¬ M β := by
    intro β o u h hm
    obtain ⟨x, hx⟩ := hM β hm
    simp [World.cell?, hx] at h
  induction r with
  | val v => exact .val v
  | ptr b g i f β o hu hp => exact .ptr b g i f β o hu hp
  | rp es β o us hst hc _ ih =>
    by_cases he : es = []
    · subst he
      exact .rp [] β o us (fun k => absurd rfl k) (fun f x hx => by simp at hx) (fun f x hx => by simp at hx)
    · obtain ⟨x, es', rfl⟩ := List.exists_cons_of_ne_nil he
      have hm := hcell (hc 0 x rfl).1
      exact .rp _ β o us (fun _ => ⟨hst he, hm⟩) (fun f x hx => ⟨(cell_same (hs β hm) _).trans (hc f x hx).1, (hc f x hx).2⟩) ih
  | sl sz full els A cap β o us hn hm hf h0 hz hA hc _ ih =>
    refine .sl sz full els A cap β o us hn hm hf h0 hz (fun he => ⟨(hA he).1, fun hz' => ⟨(hA he).2 hz', ?_⟩⟩) (fun i el f x hi hx => ⟨(cell_same (hs β (hcell (hc i el f x hi hx).1)) _).trans (hc i el f x hi hx).1, (hc i el f x hi hx).2⟩) ih
    obtain ⟨el, els', rfl⟩ := List.exists_cons_of_ne_nil he
    have hl := hz el (by simp)
    obtain ⟨x, el', rfl⟩ := List.exists_cons_of_ne_nil (l := el) (by intro e; subst e; simp at hl; omega)
    exact hcell (hc 0 _ 0 x rfl rfl).1
  | own b g lo n A m cap hu hp => exact .own b g lo n A m cap hu hp
  | agg es us hl h1 _ ih => exact .agg es us hl h1 ih
  | tup es us hl _ ih => exact .tup es us hl ih
  | clo f first cap us vs hl hl' _ _ ih ih' => exact .clo f first cap us vs hl hl' ih ih'
  | it b g β hu hp => exact .it b g β hu hp
  | mo b g β hu hp => exact .mo b g β hu hp
  | mp ks vs β clock es hst hh hk hl _ ih =>
    have hm : ¬ M β := fun hm => by
      obtain ⟨x, hx⟩ := hM β hm
      rw [hx] at hh
      cases hh
    exact .mp ks vs β clock es ⟨hst, hm⟩ ((hs β hm).trans hh) hk hl ih
  | bany b => exact .bany b
  | dead v => exact .dead v
theorem BlkRep.drop {c : RC} {w w1 : World} {M : Nat → Prop} (hM : ∀ β, M β → ∃ o, w.heap[β]? = some (.deferred o)) (hs : ∀ β, ¬ M β → w1.heap[β]? = w.heap[β]?) {blk : Blk} {o : OB} (hl : ∀ β, o.loc = some β → ¬ M β) (r : BlkRep c w blk o) : BlkRep ⟨c.own, c.used, fun β => c.st β ∧ ¬ M β⟩ w1 blk o := by
  rcases r with ⟨h1, h2, h3⟩ | ⟨h1, h2, β, h3, r⟩
  · refine .inl ⟨h1, h2, ?_⟩
    cases ho : o.loc with
    | none => rw [ho] at h3; exact h3
    | some β =>
      rw [ho] at h3
      obtain ⟨cur, e, g1, g2, g3⟩ := h3
      refine ⟨cur, e, g1.congr (hs β (hl β ho)), g2, fun i el f x hi hx => ?_⟩
      obtain ⟨u, k1, k2, k3⟩ := g3 i el f x hi hx
      exact ⟨u, k1, k2, k3.drop hM hs⟩
  · refine .inr ⟨h1, h2, β, h3, ?_⟩
    rcases r with ⟨s, pos, r1, r2⟩ | ⟨es, clock, ks, vs, r1, r2, r3, r4, r5⟩
    · exact .inl ⟨s, pos, (hs β (hl β h3)).trans r1, r2⟩
    · exact .inr ⟨es, clock, ks, vs, (hs β (hl β h3)).trans r1, r2, r3, r4, fun i x e hx he => (r5 i x e hx he).drop hM hs⟩
theorem Sim.shut {C : ACtx} {s : AS} {c : RC} {a : Act} {w w1 : World} (hS : Sim C s c a w) (M : Nat → Prop) (hM : ∀ β, M β → c.st β ∧ C.w0.heap.size ≤ β ∧ ∃ o, w.heap[β]? = some (.deferred o)) (hout : ∀ β, ¬ M β → w1.heap[β]? = w.heap[β]?) (hsz : w1.heap.size = w.heap.size)
    (hos : w1.os = w.os) (hta : w1.tape = w.tape) (hou : w1.output = w.output) (h0 : ∀ β, C.st0 β → β < C.w0.heap.size) (h0' : ∀ β, C.c0.st β → β < C.w0.heap.size) : Sim C s ⟨c.own, c.used, fun β => c.st β ∧ ¬ M β⟩ { a with defers := [] } w1 := by
  have hM' : ∀ β, M β → ∃ o, w.heap[β]? = some (.deferred o) := fun β h => (hM β h).2.2
  refine ⟨Nd.nil _ _ _ _, hS.sz, fun t => (hS.fr t).drop hM' hout, fun b blk hb => ?_, fun b g o ho => ?_, hS.inj, fun β hβ => ?_, fun β hβ => ⟨hS.st0 β hβ, fun hm => ?_⟩, hS.old.trans' hos hta hou (Nat.le_of_eq hsz.symm) (fun k hk _ => hout k (fun hm => ?_)), ⟨fun β hβ => ?_, hS.mo.used, hS.mo.own⟩⟩
  · obtain ⟨o, h1, h2⟩ := hS.hp b blk hb
    exact ⟨o, h1, h2.drop hM' hout (fun β hβ hm => ((hS.al b _ o h1).2.2 β hβ).2.1 (hM β hm).1)⟩
  · obtain ⟨k1, k2, k4⟩ := hS.al b g o ho
    refine ⟨k1, k2, fun β hβ => ?_⟩
    obtain ⟨q1, q2, q3⟩ := k4 β hβ
    exact ⟨by omega, fun hs => q2 hs.1, q3⟩
  · have := hS.st β hβ.1
    exact ⟨by omega, this.2⟩
  · have := h0 β hβ
    have := (hM β hm).2.1
    omega
  · have := (hM k hm).2.1
    omega
  · have hn : ¬ M β := fun hm => by
      have := h0' β hβ
      have := (hM β hm).2.1
      omega
    exact ⟨⟨(hS.mo.st β hβ).1, hn⟩, (hout β hn).trans (hS.mo.st β hβ).2⟩
theorem leavesM {F : Fence} {n : Nat} {P : Program} {fn : Func} {tmps : Array Value} {R : Ending → World → Prop} {rd : Option Nat × Bool} {c : RC} {w0 : World} : ∀ (ds : List Deferred) (w : World), Nd rd c w0 w ds →
    (∀ w1 : World, (∀ β, { target := .collected β, args := #[] } ∉ ds → w1.heap[β]? = w.heap[β]?) → w1.heap.size = w.heap.size → w1.os = w.os → w1.tape = w.tape → w1.output = w.output → ∃ v, (results fn tmps).run P w1 = .ok v w1 ∧ R (.returned v) w1) →
    LeavesInM F n P fn tmps R ds .returning w
  | [], w, _, h => h w (fun _ _ => rfl) rfl rfl rfl rfl
  | d :: ds, w, hn, h => by
    obtain ⟨D, hd, h2, h3, h4⟩ := hn.at_ d (by simp)
    have hnd := List.nodup_cons.1 hn.nodup
    refine ⟨by simp, .inl ⟨D, w.putObj D (.deferred none), by rw [hd], run_takeDeferred h4, leavesM (rd := (none, false)) (c := c) (w0 := w0) ds _ ⟨fun d' hd' => ?_, hnd.2, fun h => (by cases h)⟩ (fun w1 k1 k2 k3 k4 k5 => h w1 (fun β hβ => ?_) (by rw [k2, World.putObj_size]) k3 k4 k5)⟩⟩
    · obtain ⟨D', g1, g2, g3, g4⟩ := hn.at_ d' (by simp [hd'])
      refine ⟨D', g1, g2, g3, ?_⟩
      rw [World.putObj_heap_other]
      · exact g4
      · intro e
        rw [e, ← hd] at g1
        rw [g1] at hd'
        exact hnd.1 hd'
    · rw [List.mem_cons, not_or] at hβ
      rw [k1 β hβ.2, World.putObj_heap_other]
      intro e
      rw [e, hd] at hβ
      exact hβ.1 rfl
/-- No memory of one's own. -/
abbrev RC.bare (st : Nat → Prop) : RC := ⟨fun _ _ => Option.none, fun _ => False, st⟩
theorem FnC.of_awp {P : Program} {T : Nat → Option TI} {ok : ∀ t ti, T t = some ti → tiOf P t = some ti} {f : FuncId} {fn : Func} {code : Code} {args : List AV} {res : AV} (hf : P.funcs[f]? = some fn)
    (hn : (fn.name == "runtime.NumGoroutine") = false) (hb : fn.body = some code) (hlen : Nat.ble args.length fn.ntmps = true) (hcl : ∀ x, x ∈ args → Closed x)
    (h : ∀ (w0 : World) (st0 : Nat → Prop), awp ⟨P, T, ok, fn.ntmps, w0, st0, fun _ => False, (none, false), RC.bare st0⟩ code ⟨frOf 0 args, [], 0⟩ (retA ⟨P, T, ok, fn.ntmps, w0, st0, fun _ => False, (none, false), RC.bare st0⟩ fn.results res)) : FnC P f args res := by
  refine ⟨fun vs w => ?_, fun w st vs hst hl hr => ?_⟩
  · have hn' : ¬ fn.name = "runtime.NumGoroutine" := by simpa using hn
    simp [callFunc, hf, hn', hb]
  · refine (callsIn_wide (n := 0)).1 (callsIn_of_wp_marks hf hb trivial ?_)
    have hle := Nat.le_of_ble_eq_true hlen
    have hS : SimE ⟨P, T, ok, fn.ntmps, w, st, fun _ => False, (none, false), RC.bare st⟩ ⟨frOf 0 args, [], 0⟩ { tmps := vs.toArray ++ Array.replicate (fn.ntmps - vs.toArray.size) undef, defers := [] } w := by
      refine ⟨⟨fun _ _ => none, fun _ => False, st⟩, ⟨Nd.nil _ _ _ _, by simp; omega, fun t => ?_, fun b blk hb => by simp [lkH] at hb, fun b g o ho => by simp at ho, fun b g o b' g' o' β h => by simp at h, fun β hb => ⟨hst β hb, .inl hb⟩, fun β hb => hb, Old.refl _ _, Mono.refl _ _⟩, fun g hg => hg.elim⟩
      simp only
      rw [lk_frOf]
      simp only [Nat.zero_le, if_true, Nat.sub_zero]
      cases hx : args[t]? with
      | none => exact .dead _
      | some x =>
        have ht : t < vs.length := by rw [hl]; exact (List.getElem?_eq_some_iff.1 hx).1
        have : (vs.toArray ++ Array.replicate (fn.ntmps - vs.toArray.size) undef).getD t undef = vs[t] := by
          simp [Array.getD_eq_getD_getElem?, Array.getElem?_append, ht]
        rw [this]
        have := hr t x vs[t] hx (List.getElem?_eq_getElem ht)
        simp only [Option.getD_some]
        exact this.closed (hcl x (List.mem_of_getElem? hx)) _ (fun β hb => ⟨hb, rfl⟩)
    refine wpIn_mono (h w st _ w hS) (fun e a' w' ⟨s', ⟨c', hS', _⟩, hq⟩ => ?_)
    have fin0 : ∀ (w2 : World) (c2 : RC), Sim ⟨P, T, ok, fn.ntmps, w, st, fun _ => False, (none, false), RC.bare st⟩ s' c2 { a' with defers := [] } w2 → ∀ vs', ResL ⟨P, T, ok, fn.ntmps, w, st, fun _ => False, (none, false), RC.bare st⟩ s' fn.results.toList vs' → res = retAV vs' → ∃ v, (results fn a'.tmps).run P w2 = .ok v w2 ∧ ∃ r St, Ending.returned v = .returned r ∧ Below w.heap.size w w2 ∧ (∀ β, st β → St β) ∧ (∀ β, St β → st β ∨ (w.heap.size ≤ β ∧ β < w2.heap.size)) ∧ ∀ own used, Rep ⟨own, used, St⟩ w2 res r := by
      intro w' c' hS' vs' hv he
      obtain ⟨us, g1, g2, g3⟩ := hv.run hS'
      refine ⟨retV us, run_results g1, retV us, c'.given, rfl, ⟨hS'.old.os, hS'.old.tape, hS'.old.output, hS'.old.size, fun k hk => hS'.old.block k hk (fun h => h)⟩, fun β hb => .inl (hS'.st0 β hb), fun β hb => ?_, fun own used => ?_⟩
      · rcases hb with hb | ⟨b, g, o, h1, h2⟩
        · obtain ⟨k1, k2 | k2 | k2⟩ := hS'.st β hb
          · exact .inl k2
          · exact .inr ⟨k2, k1⟩
          · exact k2.elim
        · obtain ⟨k1, k2, k3 | k3⟩ := (hS'.al b g o h1).2.2 β h2
          · exact .inr ⟨k3, k1⟩
          · exact k3.elim
      · subst he
        have one : ∀ (l : List AV) (l' : List Value), l'.length = l.length → (∀ (i : Nat) (x : AV) (u : Value), l[i]? = some x → l'[i]? = some u → Rep ⟨own, used, c'.given⟩ w' x u) → Rep ⟨own, used, c'.given⟩ w' (retAV l) (retV l') := by
          intro l l' hl' hr'
          match l, l', hl' with
          | [], [], _ => exact .tup [] [] rfl hr'
          | [x], [u], _ => exact hr' 0 x u rfl rfl
          | x :: y :: l, u :: v :: l', h' => exact .tup _ _ h' hr'
        exact one vs' us g2 (fun i x u hx hu => g3 i x u hx hu own used)
    have fin : ∀ vs', ResL ⟨P, T, ok, fn.ntmps, w, st, fun _ => False, (none, false), RC.bare st⟩ s' fn.results.toList vs' → res = retAV vs' → LeavesInM Fence.wide 0 P fn a'.tmps (fun e w' => ∃ r St, e = .returned r ∧ Below w.heap.size w w' ∧ (∀ β, st β → St β) ∧ (∀ β, St β → st β ∨ (w.heap.size ≤ β ∧ β < w'.heap.size)) ∧ ∀ own used, Rep ⟨own, used, St⟩ w' res r) a'.defers .returning w' := by
      intro vs' hv he
      refine leavesM a'.defers w' hS'.nd (fun w1 k1 k2 k3 k4 k5 => ?_)
      exact fin0 w1 _ (hS'.shut (w1 := w1) (fun β => ({ target := .collected β, args := #[] } : Deferred) ∈ a'.defers) (fun β hβ => by
        obtain ⟨D, g1, g2, g3, g4⟩ := hS'.nd.at_ _ hβ
        obtain rfl : β = D := by cases g1; rfl
        exact ⟨g2, g3, _, g4⟩) k1 k2 k3 k4 k5 (fun β hb => hst β hb) (fun β hb => hst β hb)) vs' hv he
    cases e <;> first
      | (obtain ⟨vs', h1, h2⟩ := hq; exact fin vs' h1 h2)
      | exact hq.elim

section
variable {C : ACtx} {ops : Array Oper} {K : AS → List (List Nat × List Nat) → Prop} {k : Nat} {rest : List Oper} {fr : List (Nat × AV)} {hp : List (Nat × Option Blk)} {gc : Nat} {fps : List (List Nat × List Nat)}
  {d : Nat} {ty : TypeId} {pos : String} {after : Array Edge} {gd : Option (Nat × Bool)} {x y z : Operand} {v : AV}
/-- A call of a function that only computes. -/
theorem ARun.call {fx : Operand} {args : Array Operand} {ats : Array TypeId} {f : FuncId} {avs : List AV} (hF : FnC C.P f avs v) (hf : evA fr fx = .val (.func (.func f) #[] #[])) (ha : args.toList.map (evA fr) = avs)
    (hd : Nat.blt d C.n = true) (hg : guardIs ops ⟨fr, hp, gc⟩ ⟨some d, .call ⟨.value fx, args, ats⟩, ty, pos, after, gd⟩ true)
    (nx : ARun C ops K (k + 1) rest ⟨(d, v) :: fr, hp, gc⟩ (fps ++ [([], [])])) : ARun C ops K k (⟨some d, .call ⟨.value fx, args, ats⟩, ty, pos, after, gd⟩ :: rest) ⟨fr, hp, gc⟩ fps := by
  refine ARun.step v [] [] hg (by simp) ?_ nx
  intro s c a w hS _ hargs _
  have hev : ∀ z ∈ #[fx] ++ args, Rep c w (evA fr z) (a.eval z) := by
    intro z hz
    have hz' : z ∈ (Op.call ⟨.value fx, args, ats⟩).operands.toList := by simpa [Op.operands, Call.operands] using hz
    rw [← args_ev hargs z hz']
    exact hS.ev z
  have h1 := hev fx (by simp)
  rw [hf] at h1
  have h1 := h1.val_inv
  obtain ⟨F1, F2⟩ := hF
  have hargs' : ∀ (i : Nat) (x : AV) (u : Value), avs[i]? = some x → (args.toList.map a.eval)[i]? = some u → Rep (RC.pure c.st) w x u := by
    intro i x u hx hu
    rw [← ha, List.getElem?_map] at hx
    rw [List.getElem?_map] at hu
    cases hi : args.toList[i]? with
    | none => rw [hi] at hx; cases hx
    | some z =>
      rw [hi] at hx hu
      simp only [Option.map_some, Option.some.injEq] at hx hu
      subst hx
      subst hu
      have := hev z (Array.mem_append.2 (.inr (Array.mem_toList_iff.1 (List.mem_of_getElem? hi))))
      exact this.mono (c := c) (c' := RC.pure c.st) (w' := w) (Mono.mk (fun β hb => ⟨hb, rfl⟩) (fun _ _ => trivial) (fun b g o _ h => by cases h))
  have hC := F2 w c.st (args.toList.map a.eval) (fun β hb => (hS.st β hb).1) (by rw [← ha, List.length_map, List.length_map]) hargs'
  have hrun : (execOp a.eval ⟨some d, .call ⟨.value fx, args, ats⟩, ty, pos, after, gd⟩).run C.P w = .ok (.enter f (args.toList.map a.eval).toArray) w := by
    have : (args.toList.map a.eval).toArray = args.map a.eval := by
      apply Array.ext'
      rw [Array.toList_map]
    rw [this]
    simp [execOp, resolve, h1, Deferred.ofValue, invoke, F1]
  unfold Oper.wp
  rw [hrun, Oper.upon_enter]
  refine hC.mono (fun e w' ⟨r, St, he, hE, hs1, hs2, hr⟩ => ?_)
  subst he
  exact ⟨_, hS.grow St hE hs1 hs2 (some d) v r (dst_lt hd) (fun _ _ => hr _ _), fun g hg => .inl hg⟩

theorem bin_wrap {P : Program} {op : BinOp} {t : TypeId} {k : IntKind} {a b : Int} {r : Value} (h : ∀ w, (binOp op t (.int k a) (.int k b)).run P w = .ok r w) : BinR P op t (.int k a) (.int k b) r := by
  intro x y w
  have : (eqGuard op t x y (.int k a) (.int k b)).run P w = .ok () w := by
    unfold eqGuard
    cases op <;> rfl
  rw [Sem.run_bind, this]
  exact h w
theorem bin_eq {P : Program} {t : TypeId} {k : IntKind} {a b : Int} : BinR P .eql t (.int k a) (.int k b) (.bool (a == b)) := bin_wrap (fun w => by simp [binOp, Op.intCmp])
theorem bin_ne {P : Program} {t : TypeId} {k : IntKind} {a b : Int} : BinR P .neq t (.int k a) (.int k b) (.bool (a != b)) := bin_wrap (fun w => by simp [binOp, Op.intCmp])
theorem bin_lt {P : Program} {t : TypeId} {k : IntKind} {a b : Int} : BinR P .lss t (.int k a) (.int k b) (.bool (decide (a < b))) := bin_wrap (fun w => by simp [binOp, Op.intCmp])
theorem bin_le {P : Program} {t : TypeId} {k : IntKind} {a b : Int} : BinR P .leq t (.int k a) (.int k b) (.bool (decide (a ≤ b))) := bin_wrap (fun w => by simp [binOp, Op.intCmp])
theorem bin_gt {P : Program} {t : TypeId} {k : IntKind} {a b : Int} : BinR P .gtr t (.int k a) (.int k b) (.bool (decide (b < a))) := bin_wrap (fun w => by simp [binOp, Op.intCmp])
theorem bin_ge {P : Program} {t : TypeId} {k : IntKind} {a b : Int} : BinR P .geq t (.int k a) (.int k b) (.bool (decide (b ≤ a))) := bin_wrap (fun w => by simp [binOp, Op.intCmp])
theorem bin_add {P : Program} {t : TypeId} {k : IntKind} {a b : Int} : BinR P .add t (.int k a) (.int k b) (.int k (k.wrap (a + b))) := bin_wrap (fun w => by simp [binOp, Op.intArith])
theorem bin_sub {P : Program} {t : TypeId} {k : IntKind} {a b : Int} : BinR P .sub t (.int k a) (.int k b) (.int k (k.wrap (a - b))) := bin_wrap (fun w => by simp [binOp, Op.intArith])
theorem bin_mul {P : Program} {t : TypeId} {k : IntKind} {a b : Int} : BinR P .mul t (.int k a) (.int k b) (.int k (k.wrap (a * b))) := bin_wrap (fun w => by simp [binOp, Op.intArith])
theorem bin_add64 {P : Program} {t : TypeId} {a b : Int} (h : -9223372036854775808 ≤ a + b ∧ a + b ≤ 9223372036854775807) : BinR P .add t (.int .i64 a) (.int .i64 b) (.int .i64 (a + b)) := by
  have := @bin_add P t .i64 a b
  rwa [IntWalk.i64_in _ h] at this
theorem bin_sub64 {P : Program} {t : TypeId} {a b : Int} (h : -9223372036854775808 ≤ a - b ∧ a - b ≤ 9223372036854775807) : BinR P .sub t (.int .i64 a) (.int .i64 b) (.int .i64 (a - b)) := by
  have := @bin_sub P t .i64 a b
  rwa [IntWalk.i64_in _ h] at this
theorem bin_mul64 {P : Program} {t : TypeId} {a b : Int} (h : -9223372036854775808 ≤ a * b ∧ a * b ≤ 9223372036854775807) : BinR P .mul t (.int .i64 a) (.int .i64 b) (.int .i64 (a * b)) := by
  have := @bin_mul P t .i64 a b
  rwa [IntWalk.i64_in _ h] at this
theorem run_equalIn_bool {P : Program} {t : TypeId} (h : P.underlying t = some .bool) (dd : Nat) (a b : Bool) (w : World) : (Op.equalIn (dd + 1) t (.bool a) (.bool b)).run P w = .ok (a == b) w := by
  rw [Op.equalIn, Sem.run_bind, run_underlying h]
  rfl
theorem bin_guard {P : Program} {op : BinOp} {t : TypeId} {p q r : Value} (hp : ∀ es, p ≠ .agg es) (hn : p ≠ .nilIface) (h : ∀ w, (binOp op t p q).run P w = .ok r w) : BinR P op t p q r := by
  intro x y w
  have : (eqGuard op t x y p q).run P w = .ok () w := by
    unfold eqGuard
    cases op <;> first
      | rfl
      | (cases p <;> first
        | exact absurd rfl hn
        | exact absurd rfl (hp _)
        | rfl
        | (cases q <;> rfl))
  rw [Sem.run_bind, this]
  exact h w
theorem bin_beq {P : Program} {t : TypeId} (h : P.underlying t = some .bool) {a b : Bool} : BinR P .eql t (.bool a) (.bool b) (.bool (a == b)) :=
  bin_guard (fun _ h => by cases h) (fun h => by cases h) (fun w => by
    have := run_equalIn_bool h 9999 a b w
    have e : (binOp .eql t (.bool a) (.bool b)) = (do pure (.bool (← Op.equalIn (9999 + 1) t (.bool a) (.bool b)))) := rfl
    rw [e, Sem.run_bind, this]
    rfl)
theorem bin_bne {P : Program} {t : TypeId} (h : P.underlying t = some .bool) {a b : Bool} : BinR P .neq t (.bool a) (.bool b) (.bool (!(a == b))) :=
  bin_guard (fun _ h => by cases h) (fun h => by cases h) (fun w => by
    have := run_equalIn_bool h 9999 a b w
    have e : (binOp .neq t (.bool a) (.bool b)) = (do pure (.bool (!(← Op.equalIn (9999 + 1) t (.bool a) (.bool b))))) := rfl
    rw [e, Sem.run_bind, this]
    rfl)
theorem un_not {P : Program} {b : Bool} : ∀ w, (Op.unary .not (.bool b)).run P w = .ok (.bool !b) w := fun _ => rfl
end

section
variable {C : ACtx} {ops : Array Oper} {K : AS → List (List Nat × List Nat) → Prop} {k : Nat} {rest : List Oper} {fr : List (Nat × AV)} {hp : List (Nat × Option Blk)} {gc : Nat} {fps : List (List Nat × List Nat)}
  {d : Nat} {ty : TypeId} {pos : String} {after : Array Edge} {gd : Option (Nat × Bool)} {x y z : Operand} {v : AV}
theorem guard_on {dst : Option Nat} {op : Op} {j : Nat} {want b : Bool} {oj : Oper} {e : Nat} {s : AS} (h1 : ops[j]? = some oj) (h2 : oj.dst = some e) (h3 : lkA s.fr e = .val (.bool b)) (h4 : b = want) : guardIs ops s ⟨dst, op, ty, pos, after, some (j, want)⟩ true :=
  ⟨oj, e, h1, h2, .inl ⟨b, h3, by subst h4; cases b <;> rfl⟩⟩
theorem guard_off {dst : Option Nat} {op : Op} {j : Nat} {want b : Bool} {oj : Oper} {e : Nat} {s : AS} (h1 : ops[j]? = some oj) (h2 : oj.dst = some e) (h3 : lkA s.fr e = .val (.bool b)) (h4 : b = !want) : guardIs ops s ⟨dst, op, ty, pos, after, some (j, want)⟩ false :=
  ⟨oj, e, h1, h2, .inl ⟨b, h3, by subst h4; cases want <;> rfl⟩⟩
theorem ARun.split {dst : Option Nat} {op : Op} {j : Nat} {want b : Bool} {oj : Oper} {e : Nat} {s : AS} (h1 : ops[j]? = some oj) (h2 : oj.dst = some e) (h3 : lkA s.fr e = .val (.bool b))
    (ht : b = true → ARun C ops K k (⟨dst, op, ty, pos, after, some (j, want)⟩ :: rest) s fps) (hf : b = false → ARun C ops K k (⟨dst, op, ty, pos, after, some (j, want)⟩ :: rest) s fps) : ARun C ops K k (⟨dst, op, ty, pos, after, some (j, want)⟩ :: rest) s fps := by
  cases b
  · exact hf rfl
  · exact ht rfl
theorem ARun.pickT {b : Bool} (hx : evA fr x = .val (.bool b)) (hb : b = true) (hv : evA fr y = v) (hd : Nat.blt d C.n = true) (hg : guardIs ops ⟨fr, hp, gc⟩ ⟨some d, .pick x y z, ty, pos, after, gd⟩ true)
    (n : ARun C ops K (k + 1) rest ⟨(d, v) :: fr, hp, gc⟩ (fps ++ [([], [])])) : ARun C ops K k (⟨some d, .pick x y z, ty, pos, after, gd⟩ :: rest) ⟨fr, hp, gc⟩ fps :=
  ARun.pick hx (by rw [hb]; exact hv) hd hg n
theorem ARun.pickF {b : Bool} (hx : evA fr x = .val (.bool b)) (hb : b = false) (hv : evA fr z = v) (hd : Nat.blt d C.n = true) (hg : guardIs ops ⟨fr, hp, gc⟩ ⟨some d, .pick x y z, ty, pos, after, gd⟩ true)
    (n : ARun C ops K (k + 1) rest ⟨(d, v) :: fr, hp, gc⟩ (fps ++ [([], [])])) : ARun C ops K k (⟨some d, .pick x y z, ty, pos, after, gd⟩ :: rest) ⟨fr, hp, gc⟩ fps :=
  ARun.pick hx (by rw [hb]; exact hv) hd hg n
theorem ARun.fin {s : AS} {l : List Oper} {draw : Bool} {Q : Exit → AS → Prop} (h1 : draw = true → regOk l fps = true) (h2 : Q .normal (s.bump l.length)) : ARun C ops (regK draw l Q) k [] s fps := ⟨h1, s, AS.eqv.refl s, h2⟩
end
end Go.Proofs.Ytedfegoafallhaa
