/- Abstract states: what a frame and the call's own memory hold, by value; the relation to the model's states; what stays when the world goes on. -/
import Derived.WalkKit
import Derived.WalkSmall
import Derived.WalkSpells
import Derived.WalkLawsBesides
import Derived.Handy
import Derived.BigQuiet
import Derived.Deep.QuietTactic
import Derived.Deep.Draws
import Derived.Laws.AppendOwnNone
import Derived.OrdersIn
import Derived.ControlIn
import Derived.CallsIn
namespace Go.Proofs.Ytedfegoafallhaa
set_option linter.unusedVariables false
set_option linter.unusedSimpArgs false
open Go Go.RowKit

/-- Values by what they mean: 'val' as it is; 'ptr' into a block of the call's own (block, stamp, element, cell); 'rp' at cells that never turn; 'sl' a slice that never turns, by its elements' cells; 'own' a slice of a block of the call's own. -/
inductive AV where
  | val (v : Value)
  | ptr (b g i f : Nat)
  | rp (es : List AV)
  | sl (sz : Nat) (full : Bool) (els : List (List AV))
  | own (b g lo n : Nat)
  | agg (es : List AV)
  | tup (es : List AV)
  | clo (f : Fn) (first cap : List AV)
  | it (b g : Nat)
  | mo (b g : Nat)
  | mp (ks : List Value) (vs : List AV)
  | bany
  | dead

/-- Where a block of the call's own lies (none: it has no cells), its elements' size, its cells. -/
structure OB where
  loc : Option Nat
  sz : Nat
  room : Nat

structure RC where
  own : Nat → Nat → Option OB
  used : Nat → Prop
  st : Nat → Prop

inductive Rep (c : RC) (w : World) : AV → Value → Prop where
  | val (v : Value) : Rep c w (.val v) v
  | ptr (b g i f β o : Nat) (hu : c.used g) (h : ∀ q, c.own b g = some q → q.loc = some β ∧ o = i * q.sz + f ∧ 0 < q.sz) : Rep c w (.ptr b g i f) (.pointer (some ⟨β, o, none⟩))
  | rp (es : List AV) (β o : Nat) (us : Nat → Value) (hs : es ≠ [] → c.st β)
      (hc : ∀ (f : Nat) (x : AV), es[f]? = some x → w.cell? ⟨β, o + f, none⟩ = some (us f) ∧ (us f).oneCell' = true)
      (hr : ∀ (f : Nat) (x : AV), es[f]? = some x → Rep c w x (us f)) : Rep c w (.rp es) (.pointer (some ⟨β, o, none⟩))
  | sl (sz : Nat) (full : Bool) (els : List (List AV)) (A : Option Addr) (cap β o : Nat) (us : Nat → Nat → Value)
      (hn : els.length ≤ cap) (hm : cap ≤ maxLen) (hf : full = true → cap = els.length) (h0 : A = none → cap = 0)
      (hz : ∀ el, el ∈ els → el.length = sz)
      (hA : els ≠ [] → A = some ⟨β, o, none⟩ ∧ (0 < sz → c.st β))
      (hc : ∀ (i : Nat) (el : List AV) (f : Nat) (x : AV), els[i]? = some el → el[f]? = some x → w.cell? ⟨β, o + i * sz + f, none⟩ = some (us i f) ∧ (us i f).oneCell' = true)
      (hr : ∀ (i : Nat) (el : List AV) (f : Nat) (x : AV), els[i]? = some el → el[f]? = some x → Rep c w x (us i f)) : Rep c w (.sl sz full els) (.slice A els.length cap)
  | own (b g lo n : Nat) (A : Option Addr) (m cap : Nat) (hu : c.used g)
      (h : ∀ o, c.own b g = some o → m = n ∧ n ≤ cap ∧ cap ≤ maxLen ∧ (A = none → cap = 0) ∧ 0 < o.sz ∧ (cap = 0 ∨ ∃ β, o.loc = some β ∧ A = some ⟨β, lo * o.sz, none⟩ ∧ (lo + cap) * o.sz ≤ o.room)) :
      Rep c w (.own b g lo n) (.slice A m cap)
  | agg (es : List AV) (us : List Value) (hl : us.length = es.length) (h1 : ∀ u, u ∈ us → u.oneCell' = true)
      (hr : ∀ (i : Nat) (x : AV) (u : Value), es[i]? = some x → us[i]? = some u → Rep c w x u) : Rep c w (.agg es) (.agg us.toArray)
  | tup (es : List AV) (us : List Value) (hl : us.length = es.length)
      (hr : ∀ (i : Nat) (x : AV) (u : Value), es[i]? = some x → us[i]? = some u → Rep c w x u) : Rep c w (.tup es) (.tuple us.toArray)
  | clo (f : Fn) (first cap : List AV) (us vs : List Value) (hl : us.length = first.length) (hl' : vs.length = cap.length)
      (hr : ∀ (i : Nat) (x : AV) (u : Value), first[i]? = some x → us[i]? = some u → Rep c w x u) (hr' : ∀ (i : Nat) (x : AV) (u : Value), cap[i]? = some x → vs[i]? = some u → Rep c w x u) :
      Rep c w (.clo f first cap) (.func f us.toArray vs.toArray)
  | it (b g β : Nat) (hu : c.used g) (h : ∀ q, c.own b g = some q → q.loc = some β ∧ q.sz = 0) : Rep c w (.it b g) (.pointer (some ⟨β, 0, none⟩))
  | mo (b g β : Nat) (hu : c.used g) (h : ∀ q, c.own b g = some q → q.loc = some β ∧ q.sz = 0) : Rep c w (.mo b g) (.map (some β))
  | mp (ks : List Value) (vs : List AV) (β clock : Nat) (es : List MapEntry) (hs : c.st β) (hh : w.heap[β]? = some (.map es.toArray clock)) (hk : es.map (·.key) = ks) (hl : vs.length = es.length)
      (hr : ∀ (i : Nat) (x : AV) (e : MapEntry), vs[i]? = some x → es[i]? = some e → Rep c w x e.val) : Rep c w (.mp ks vs) (.map (some β))
  | bany (b : Bool) : Rep c w .bany (.bool b)
  | dead (v : Value) : Rep c w .dead v

/-- What a step of the world and of the context may turn without turning what values mean. -/
structure Mono (c c' : RC) (w w' : World) : Prop where
  st : ∀ β, c.st β → c'.st β ∧ w'.heap[β]? = w.heap[β]?
  used : ∀ g, c.used g → c'.used g
  own : ∀ b g o, c.used g → c'.own b g = some o → c.own b g = some o

theorem Mono.refl (c : RC) (w : World) : Mono c c w w := ⟨fun _ h => ⟨h, rfl⟩, fun _ h => h, fun _ _ _ _ h => h⟩
theorem Mono.trans {c c' c'' : RC} {w w' w'' : World} (h : Mono c c' w w') (k : Mono c' c'' w' w'') : Mono c c'' w w'' :=
  ⟨fun β hb => ⟨(k.st β (h.st β hb).1).1, (k.st β (h.st β hb).1).2.trans (h.st β hb).2⟩, fun g hg => k.used g (h.used g hg), fun b g o hu ho => h.own b g o hu (k.own b g o (h.used g hu) ho)⟩

theorem Mono.drew (c : RC) (w : World) : Mono c c w w.drew := ⟨fun _ h => ⟨h, rfl⟩, fun _ h => h, fun _ _ _ _ h => h⟩

theorem cell_same {w w' : World} {β : Nat} (h : w'.heap[β]? = w.heap[β]?) (o : Nat) : w'.cell? ⟨β, o, none⟩ = w.cell? ⟨β, o, none⟩ := World.cell?_of_block (w := w) h

theorem Rep.mono {c c' : RC} {w w' : World} (h : Mono c c' w w') {x : AV} {v : Value} (r : Rep c w x v) : Rep c' w' x v := by
  induction r with
  | val v => exact .val v
  | ptr b g i f β o hu hp => exact .ptr b g i f β o (h.used g hu) (fun q hq => hp q (h.own b g q hu hq))
  | rp es β o us hs hc _ ih =>
    by_cases he : es = []
    · subst he
      exact .rp [] β o us (fun k => absurd rfl k) (fun f x hx => by simp at hx) (fun f x hx => by simp at hx)
    · obtain ⟨h1, h2⟩ := h.st β (hs he)
      exact .rp es β o us (fun _ => h1) (fun f x hx => ⟨(cell_same h2 _).trans (hc f x hx).1, (hc f x hx).2⟩) ih
  | sl sz full els A cap β o us hn hm hf h0 hz hA hc _ ih =>
    refine .sl sz full els A cap β o us hn hm hf h0 hz (fun he => ⟨(hA he).1, fun hz' => (h.st β ((hA he).2 hz')).1⟩) (fun i el f x hi hx => ⟨?_, (hc i el f x hi hx).2⟩) ih
    have he : els ≠ [] := by intro e; subst e; simp at hi
    have hs : 0 < sz := by
      have h1 := hz el (List.mem_of_getElem? hi)
      have h2 := (List.getElem?_eq_some_iff.1 hx).1
      omega
    exact (cell_same (h.st β ((hA he).2 hs)).2 _).trans (hc i el f x hi hx).1
  | own b g lo n A m cap hu hp => exact .own b g lo n A m cap (h.used g hu) (fun o ho => hp o (h.own b g o hu ho))
  | agg es us hl h1 _ ih => exact .agg es us hl h1 ih
  | tup es us hl _ ih => exact .tup es us hl ih
  | clo f first cap us vs hl hl' _ _ ih ih' => exact .clo f first cap us vs hl hl' ih ih'
  | it b g β hu hp => exact .it b g β (h.used g hu) (fun q hq => hp q (h.own b g q hu hq))
  | mo b g β hu hp => exact .mo b g β (h.used g hu) (fun q hq => hp q (h.own b g q hu hq))
  | mp ks vs β clock es hs hh hk hl _ ih => exact .mp ks vs β clock es (h.st β hs).1 ((h.st β hs).2.trans hh) hk hl ih
  | bany b => exact .bany b
  | dead v => exact .dead v

structure Blk where
  gen : Nat
  sz : Nat
  els : List (List AV)

structure AS where
  fr : List (Nat × AV)
  hp : List (Nat × Option Blk)
  gc : Nat

def lkA : List (Nat × AV) → Nat → AV
  | [], _ => .dead
  | (k, v) :: l, t => bif Nat.beq t k then v else lkA l t
def lkH : List (Nat × Option Blk) → Nat → Option Blk
  | [], _ => none
  | (k, v) :: l, t => bif Nat.beq t k then v else lkH l t
theorem beq_cond {α : Type} (t k : Nat) (a b : α) : (bif Nat.beq t k then a else b) = if t = k then a else b := by
  by_cases h : t = k
  · subst h
    rw [Nat.beq_refl, if_pos rfl]
    rfl
  · rw [if_neg h]
    have : Nat.beq t k = false := by
      cases hb : Nat.beq t k with
      | false => rfl
      | true => exact absurd (Nat.eq_of_beq_eq_true hb) h
    rw [this]
    rfl
theorem lkA_cons (k : Nat) (v : AV) (l : List (Nat × AV)) (t : Nat) : lkA ((k, v) :: l) t = if t = k then v else lkA l t := beq_cond t k v _
theorem lkH_cons (k : Nat) (v : Option Blk) (l : List (Nat × Option Blk)) (t : Nat) : lkH ((k, v) :: l) t = if t = k then v else lkH l t := beq_cond t k v _

/-- What of a type's row is used. -/
inductive AK where
  | struct (fs : List (Nat × Nat))
  | slice (e : Nat)
  | array (n e : Nat)
  | pointer (e : Nat)
  | str
  | int (k : IntKind)
  | bool
  | map (k e : Nat)
  | odd
  | other
structure TI where
  k : AK
  size : Nat
  bytes : Nat
  zero : List Value
def szOf (P : Program) (t : Nat) : Nat := ((P.info? t).map (·.size)).getD 0
def akOf (P : Program) : TypeDesc → AK
  | .struct fs => if fs.all (fun f => (P.info? f.type).isSome) then .struct (fs.toList.map fun f => (f.offset, szOf P f.type)) else .odd
  | .slice e => .slice e
  | .array n e => .array n e
  | .pointer e => .pointer e
  | .string => .str
  | .int k => .int k
  | .bool => .bool
  | .map k e => .map k e
  | _ => .other
def tiOf (P : Program) (t : Nat) : Option TI :=
  match P.underlying t, P.info? t with
  | some u, some i => (match i.zero with
    | some z => some ⟨akOf P u, i.size, i.bytes, z.cells.toList⟩
    | none => none)
  | _, _ => none

def lkT : List (Nat × TI) → Nat → Option TI
  | [], _ => none
  | (k, v) :: l, t => bif Nat.beq t k then some v else lkT l t
def AllT (P : Program) : List (Nat × TI) → Prop
  | [] => True
  | (k, v) :: l => tiOf P k = some v ∧ AllT P l
theorem lkT_ok (P : Program) : ∀ (l : List (Nat × TI)), AllT P l → ∀ t ti, lkT l t = some ti → tiOf P t = some ti
  | [], _, _, _, h => by cases h
  | (k, v) :: l, ha, t, ti, h => by
    rw [lkT] at h
    cases hb : Nat.beq t k with
    | true =>
      rw [hb] at h
      obtain rfl := Option.some.inj h
      rw [Nat.eq_of_beq_eq_true hb]
      exact ha.1
    | false =>
      rw [hb] at h
      exact lkT_ok P l ha.2 t ti h

structure ACtx where
  P : Program
  T : Nat → Option TI
  ok : ∀ t ti, T t = some ti → tiOf P t = some ti
  n : Nat
  w0 : World
  st0 : Nat → Prop
  lent : Nat → Prop
  rd : Option Nat × Bool
  c0 : RC

/-- A row of cells, that bears no mark, or one behind its end. -/
def RowAt (w : World) (β : Nat) (cur : Array Value) (e : TypeId) : Prop := ∃ mk : Nat × Nat, (mk = (0, 0) ∨ cur.size ≤ mk.1) ∧ w.heap[β]? = some (.cells cur e mk)
theorem RowAt.plain {w : World} {β : Nat} {cur : Array Value} {e : TypeId} (h : w.heap[β]? = some (.cells cur e (0, 0))) : RowAt w β cur e := ⟨_, .inl rfl, h⟩
theorem RowAt.congr {w w' : World} {β : Nat} {cur : Array Value} {e : TypeId} (r : RowAt w β cur e) (h : w'.heap[β]? = w.heap[β]?) : RowAt w' β cur e := by
  obtain ⟨mk, h1, h2⟩ := r
  exact ⟨mk, h1, h.trans h2⟩
theorem RowAt.cell {w : World} {β : Nat} {cur : Array Value} {e : TypeId} (r : RowAt w β cur e) (o : Nat) : w.cell? ⟨β, o, none⟩ = cur[o]? := by
  obtain ⟨mk, h1, h2⟩ := r
  exact cell_of_row w β o cur e mk h2
theorem RowAt.lt {w : World} {β : Nat} {cur : Array Value} {e : TypeId} (r : RowAt w β cur e) : β < w.heap.size := by
  obtain ⟨mk, h1, h2⟩ := r
  exact (Array.getElem?_eq_some_iff.1 h2).1
theorem RowAt.set {w : World} {β : Nat} {cur vs : Array Value} {e : TypeId} (r : RowAt w β cur e) (h : vs.size = cur.size) : RowAt (w.setRow β vs) β vs e := by
  obtain ⟨mk, h1, h2⟩ := r
  exact ⟨mk, by rw [h]; exact h1, setRow_heap w β cur vs e mk h2⟩
theorem RowAt.store (P : Program) {β : Nat} (o : Nat) {e : TypeId} : ∀ (vs : List Value) (i : Nat) {cur : Array Value} {w : World}, RowAt w β cur e → o + i + vs.length ≤ cur.size → (∀ v ∈ vs, v.oneCell' = true) →
    (storeCells ⟨β, o, none⟩ vs i).run P w = .ok () (w.setRow β (cur.toList.take (o + i) ++ vs ++ cur.toList.drop (o + i + vs.length)).toArray)
  | [], i, cur, w, ⟨mk, hm, hg⟩, _, _ => by
    simp only [storeCells, List.append_nil, List.length_nil, Nat.add_zero, List.take_append_drop, Array.toArray_toList]
    rw [setRow_self w β cur e mk hg]
    rfl
  | v :: rest, i, cur, w, r, hl, h1 => by
    have r0 := r
    obtain ⟨mk, hm, hg⟩ := r
    have hi : o + i < cur.size := by simp at hl; omega
    have hadd : (⟨β, o, none⟩ : Addr).add i = ⟨β, o + i, none⟩ := by unfold Addr.add; split <;> simp_all
    have hcell : w.cell? ⟨β, o + i, none⟩ = some cur[o + i] := by rw [r0.cell]; simp [hi]
    have hfro : w.frozen? ⟨β, o + i, none⟩ = false := by
      rcases hm with rfl | hm
      · simp [World.frozen?, hg]
      · obtain ⟨lo, hi'⟩ := mk
        simp only at hm
        simp only [World.frozen?, hg, Bool.and_eq_false_iff, decide_eq_false_iff_not]
        left
        omega
    have hst : (Go.store ((⟨β, o, none⟩ : Addr).add i) v).run P w = .ok () (w.setRow β (cur.setIfInBounds (o + i) v)) := by
      rw [hadd, run_store P w _ v _ (h1 v (by simp)), hcell]
      simp [hfro, setCell_eq_setRow w β (o + i) cur e mk v hg]
    have ih := RowAt.store P o rest (i + 1) (r0.set (vs := cur.setIfInBounds (o + i) v) (by simp)) (by simp at hl ⊢; omega) (fun x hx => h1 x (by simp [hx]))
    simp only [storeCells, Sem.run_bind, hst, Result.andThen_ok, ih, setRow_setRow]
    congr 3
    have e := list_seg_step cur.toList (o + i) v rest (by simp at hl ⊢; omega)
    simpa [Array.toList_setIfInBounds, Nat.add_assoc] using e

theorem RowAt.inj {w : World} {β : Nat} {cur cur' : Array Value} {e e' : TypeId} (r : RowAt w β cur e) (r' : RowAt w β cur' e') : cur = cur' ∧ e = e' := by
  obtain ⟨mk, _, h⟩ := r
  obtain ⟨mk', _, h'⟩ := r'
  rw [h] at h'
  cases h'
  exact ⟨rfl, rfl⟩
theorem row_intro {w : World} {β n : Nat} {cur : Array Value} {e : TypeId} {R : Array Value → TypeId → Prop} (q1 : RowAt w β cur e) (q2 : cur.size = n) {vs : Array Value} (h : vs.size = n) (hR : R vs e) : ∃ cur e, RowAt (w.setRow β vs) β cur e ∧ cur.size = n ∧ R cur e :=
  ⟨vs, e, q1.set (h.trans q2.symm), h, hR⟩
/-- A block of the call's own, as it lies. -/
def RowRep (c : RC) (w : World) (blk : Blk) (o : OB) : Prop :=
  o.sz = blk.sz ∧ (∀ el, el ∈ blk.els → el.length = blk.sz) ∧
  match o.loc with
  | none => blk.els = []
  | some β => ∃ cur e, RowAt w β cur e ∧ cur.size = o.room ∧
      ∀ (i : Nat) (el : List AV) (f : Nat) (x : AV), blk.els[i]? = some el → el[f]? = some x → ∃ u, cur[i * blk.sz + f]? = some u ∧ u.oneCell' = true ∧ Rep c w x u

/-- An object of the call's own: an iterator over a text, a map that is being made. -/
def ObjRep (c : RC) (w : World) (blk : Blk) (o : OB) : Prop :=
  o.sz = blk.sz ∧ blk.sz = 0 ∧ ∃ β, o.loc = some β ∧
    ((∃ s pos, w.heap[β]? = some (.stringIter s pos) ∧ blk.els = [[.val (.string s), .val (.int .i64 (pos : Nat))]]) ∨
    (∃ (es : List MapEntry) (clock : Nat) (ks : List Value) (vs : List AV), w.heap[β]? = some (.map es.toArray clock) ∧ es.map (·.key) = ks ∧ vs.length = es.length ∧ blk.els = [.dead :: ks.map .val, vs] ∧ ∀ (i : Nat) (x : AV) (e : MapEntry), vs[i]? = some x → es[i]? = some e → Rep c w x e.val))
def BlkRep (c : RC) (w : World) (blk : Blk) (o : OB) : Prop := RowRep c w blk o ∨ ObjRep c w blk o
theorem BlkRep.sz {c : RC} {w : World} {blk : Blk} {o : OB} (h : BlkRep c w blk o) : o.sz = blk.sz := by
  rcases h with h | h
  · exact h.1
  · exact h.1
theorem BlkRep.row {c : RC} {w : World} {blk : Blk} {o : OB} (h : BlkRep c w blk o) (h0 : 0 < o.sz) : RowRep c w blk o := by
  rcases h with h | h
  · exact h
  · have := h.1; have := h.2.1; omega
theorem BlkRep.obj {c : RC} {w : World} {gen sz : Nat} {x : AV} {l : List AV} {r : List (List AV)} {o : OB} (h : BlkRep c w ⟨gen, sz, (x :: l) :: r⟩ o) (h0 : o.sz = 0) : ObjRep c w ⟨gen, sz, (x :: l) :: r⟩ o := by
  rcases h with h | h
  · have h1 := h.1
    have h2 := h.2.1 (x :: l) (by simp)
    simp only [List.length_cons] at h1 h2
    omega
  · exact h

/-- Of what was there at first nothing has turned but what was lent. -/
structure Old (lent : Nat → Prop) (w w' : World) : Prop where
  os : w'.os = w.os
  tape : w'.tape = w.tape
  output : w'.output = w.output
  size : w.heap.size ≤ w'.heap.size
  block : ∀ k, k < w.heap.size → ¬ lent k → w'.heap[k]? = w.heap[k]?

theorem Old.refl (L : Nat → Prop) (w : World) : Old L w w := ⟨rfl, rfl, rfl, Nat.le_refl _, fun _ _ _ => rfl⟩
theorem Old.trans' {L : Nat → Prop} {a b c : World} (h : Old L a b) (h1 : c.os = b.os) (h2 : c.tape = b.tape) (h3 : c.output = b.output) (h4 : b.heap.size ≤ c.heap.size) (h5 : ∀ k, k < a.heap.size → ¬ L k → c.heap[k]? = b.heap[k]?) : Old L a c :=
  ⟨h1.trans h.os, h2.trans h.tape, h3.trans h.output, Nat.le_trans h.size h4, fun k hk hl => (h5 k hk hl).trans (h.block k hk hl)⟩
theorem Old.below {L : Nat → Prop} {a b c : World} (h : Old L a b) (k : Below b.heap.size b c) : Old L a c :=
  h.trans' k.os k.tape k.output k.size (fun i hi _ => k.block i (Nat.lt_of_lt_of_le hi h.size))
theorem Old.drew {L : Nat → Prop} {a b : World} (h : Old L a b) : Old L a b.drew := ⟨h.os, h.tape, h.output, h.size, h.block⟩

/-- The marks that loops over functions leave among the deferred calls. -/
structure Nd (rd : Option Nat × Bool) (c : RC) (w0 w : World) (ds : List Deferred) : Prop where
  at_ : ∀ d, d ∈ ds → ∃ D, d = { target := .collected D, args := #[] } ∧ c.st D ∧ w0.heap.size ≤ D ∧ w.heap[D]? = some (.deferred (some []))
  nodup : ds.Nodup
  rd_ : rd.2 = true → ds = []
theorem Nd.nil (rd : Option Nat × Bool) (c : RC) (w0 w : World) : Nd rd c w0 w [] := ⟨fun d h => (by cases h), List.nodup_nil, fun _ => rfl⟩
theorem Nd.step {rd : Option Nat × Bool} {c c' : RC} {w0 w w' : World} {ds : List Deferred} (h : Nd rd c w0 w ds) (hm : ∀ β, c.st β → c'.st β ∧ w'.heap[β]? = w.heap[β]?) : Nd rd c' w0 w' ds :=
  ⟨fun d hd => by
    obtain ⟨D, h1, h2, h3, h4⟩ := h.at_ d hd
    exact ⟨D, h1, (hm D h2).1, h3, (hm D h2).2.trans h4⟩, h.nodup, h.rd_⟩
structure Sim (C : ACtx) (s : AS) (c : RC) (a : Act) (w : World) : Prop where
  nd : Nd C.rd c C.w0 w a.defers
  sz : a.tmps.size = C.n
  fr : ∀ t, Rep c w (lkA s.fr t) (a.tmps.getD t undef)
  hp : ∀ b blk, lkH s.hp b = some blk → ∃ o, c.own b blk.gen = some o ∧ BlkRep c w blk o
  al : ∀ b g o, c.own b g = some o → c.used g ∧ (∃ blk, lkH s.hp b = some blk ∧ blk.gen = g) ∧ ∀ β, o.loc = some β → β < w.heap.size ∧ ¬ c.st β ∧ (C.w0.heap.size ≤ β ∨ C.lent β)
  inj : ∀ b g o b' g' o' β, c.own b g = some o → c.own b' g' = some o' → o.loc = some β → o'.loc = some β → b = b' ∧ g = g'
  st : ∀ β, c.st β → β < w.heap.size ∧ (C.st0 β ∨ C.w0.heap.size ≤ β ∨ C.lent β)
  st0 : ∀ β, C.st0 β → c.st β
  old : Old C.lent C.w0 w
  mo : Mono C.c0 c C.w0 w

theorem Rep.drew {c : RC} {w : World} {x : AV} {v : Value} (r : Rep c w x v) : Rep c w.drew x v := r.mono (Mono.drew c w)

theorem RowRep.mono {c c' : RC} {w w' : World} (h : Mono c c' w w') {blk : Blk} {o : OB} (r : RowRep c w blk o) (hb : ∀ β, o.loc = some β → w'.heap[β]? = w.heap[β]?) : RowRep c' w' blk o := by
  obtain ⟨h1, h2, h3⟩ := r
  refine ⟨h1, h2, ?_⟩
  cases ho : o.loc with
  | none => rw [ho] at h3; exact h3
  | some β =>
    rw [ho] at h3
    obtain ⟨cur, e, g1, g2, g3⟩ := h3
    refine ⟨cur, e, g1.congr (hb β ho), g2, fun i el f x hi hx => ?_⟩
    obtain ⟨u, k1, k2, k3⟩ := g3 i el f x hi hx
    exact ⟨u, k1, k2, k3.mono h⟩

theorem BlkRep.mono {c c' : RC} {w w' : World} (h : Mono c c' w w') {blk : Blk} {o : OB} (r : BlkRep c w blk o) (hb : ∀ β, o.loc = some β → w'.heap[β]? = w.heap[β]?) : BlkRep c' w' blk o := by
  rcases r with r | ⟨h1, h2, β, h3, r⟩
  · exact .inl (r.mono h hb)
  · refine .inr ⟨h1, h2, β, h3, ?_⟩
    rcases r with ⟨s, pos, r1, r2⟩ | ⟨es, clock, ks, vs, r1, r2, r3, r4, r5⟩
    · exact .inl ⟨s, pos, (hb β h3).trans r1, r2⟩
    · exact .inr ⟨es, clock, ks, vs, (hb β h3).trans r1, r2, r3, r4, fun i x e hx he => (r5 i x e hx he).mono h⟩

theorem Sim.drew {C : ACtx} {s : AS} {c : RC} {a : Act} {w : World} (h : Sim C s c a w) : Sim C s c a w.drew :=
  ⟨h.nd.step (fun _ hb => ⟨hb, rfl⟩), h.sz, fun t => (h.fr t).drew, fun b blk hb => by
    obtain ⟨o, h1, h2⟩ := h.hp b blk hb
    exact ⟨o, h1, h2.mono (Mono.drew c w) (fun _ _ => rfl)⟩, h.al, h.inj, h.st, h.st0, h.old.drew, h.mo.trans (Mono.drew c w)⟩

theorem tmps_put (a : Act) (d : Option Nat) (v : Value) (t : Nat) (hd : ∀ e, d = some e → e < a.tmps.size) : (a.put d v).tmps.getD t undef = if d = some t then v else a.tmps.getD t undef := by
  cases d with
  | none => simp [Act.put]
  | some d =>
    simp only [Act.put, Option.some.injEq]
    by_cases h : d = t
    · subst h
      simp [hd d rfl]
    · rw [if_neg h]
      simp [Array.getElem?_setIfInBounds_ne h]

theorem Act.put_size (a : Act) (d : Option Nat) (v : Value) : (a.put d v).tmps.size = a.tmps.size := by
  cases d <;> simp [Act.put]
theorem Act.put_nd (a : Act) (d : Option Nat) (v : Value) : (a.put d v).defers = a.defers := by
  cases d <;> simp [Act.put]

def putFr (fr : List (Nat × AV)) : Option Nat → AV → List (Nat × AV)
  | none, _ => fr
  | some d, v => (d, v) :: fr
theorem lk_putFr (fr : List (Nat × AV)) (d : Option Nat) (v : AV) (t : Nat) : lkA (putFr fr d v) t = if d = some t then v else lkA fr t := by
  cases d with
  | none => simp [putFr]
  | some d =>
    rw [putFr, lkA_cons]
    simp only [Option.some.injEq]
    by_cases h : t = d
    · rw [if_pos h, if_pos h.symm]
    · rw [if_neg h, if_neg (fun e => h e.symm)]
/-- The state behind an operation. -/
def AS.app (s : AS) (d : Option Nat) (v : AV) (ups : List (Nat × Option Blk)) : AS := ⟨putFr s.fr d v, ups ++ s.hp, s.gc⟩

/-- The frame behind a put, whatever became of the world. -/
theorem fr_put {C : ACtx} {s : AS} {c c' : RC} {a : Act} {w w' : World} (h : Sim C s c a w) (m : Mono c c' w w') (d : Option Nat) (v : AV) (u : Value) (hd : ∀ e, d = some e → e < C.n) (hv : d ≠ none → Rep c' w' v u) :
    ∀ t, Rep c' w' (lkA (putFr s.fr d v) t) ((a.put d u).tmps.getD t undef) := by
  intro t
  rw [lk_putFr, tmps_put a d u t (fun e he => by rw [h.sz]; exact hd e he)]
  by_cases hd' : d = some t
  · rw [if_pos hd', if_pos hd']
    exact hv (by rw [hd']; simp)
  · rw [if_neg hd', if_neg hd']
    exact (h.fr t).mono m

/-- The world stays, the context stays: a value is put. -/
theorem Sim.put {C : ACtx} {s : AS} {c : RC} {a : Act} {w : World} (h : Sim C s c a w) (d : Option Nat) (v : AV) (u : Value) (hd : ∀ e, d = some e → e < C.n) (hv : d ≠ none → Rep c w v u) : Sim C (s.app d v []) c (a.put d u) w :=
  ⟨(Act.put_nd a d u).symm ▸ h.nd, (Act.put_size a d u).trans h.sz, fr_put h (Mono.refl c w) d v u hd hv, h.hp, h.al, h.inj, h.st, h.st0, h.old, h.mo⟩
/-- An operation that is passed over. -/
theorem Sim.off {C : ACtx} {s : AS} {c : RC} {a : Act} {w : World} (h : Sim C s c a w) (d : Option Nat) : Sim C (s.app d (.val undef) []) c (a.put d undef) w := by
  refine ⟨(Act.put_nd a d undef).symm ▸ h.nd, (Act.put_size a d undef).trans h.sz, fun t => ?_, h.hp, h.al, h.inj, h.st, h.st0, h.old, h.mo⟩
  simp only [AS.app, lk_putFr]
  split
  · rename_i hd
    subst hd
    have : (a.put (some t) undef).tmps.getD t undef = undef := by
      simp only [Act.put, Array.getD_eq_getD_getElem?, Array.getElem?_setIfInBounds]
      rw [if_pos True.intro]
      by_cases hlt : t < a.tmps.size
      · rw [if_pos hlt]; rfl
      · rw [if_neg hlt]; rfl
    rw [this]
    exact .val _
  · rename_i hne
    have : (a.put d undef).tmps.getD t undef = a.tmps.getD t undef := by
      cases d with
      | none => rfl
      | some d =>
        have hne' : d ≠ t := fun e => hne (by rw [e])
        simp [Act.put, Array.getElem?_setIfInBounds_ne hne']
    rw [this]
    exact h.fr t
/-- A value as it is; but a slice of nothing is a slice. -/
def zv : Value → AV
  | .slice none 0 0 => .sl 0 true []
  | v => .val v
theorem zv_rep (c : RC) (w : World) (v : Value) : Rep c w (zv v) v := by
  unfold zv
  split
  · exact .sl 0 true [] none 0 0 0 (fun _ _ => undef) (Nat.le_refl _) (Nat.zero_le _) (fun _ => rfl) (fun _ => rfl) (fun el h => by cases h) (fun h => absurd rfl h) (fun i el f x h => by simp at h) (fun i el f x h => by simp at h)
  · exact .val _
/-- What an operand reads. -/
def evA (fr : List (Nat × AV)) : Operand → AV
  | .tmp t => lkA fr t
  | .const v => zv v
  | .global g => .val (.pointer (some ⟨g, 0, none⟩))
  | .func f => .val (.func (.func f) #[] #[])
def AS.ev (s : AS) (x : Operand) : AV := evA s.fr x
theorem Sim.ev {C : ACtx} {s : AS} {c : RC} {a : Act} {w : World} (h : Sim C s c a w) (x : Operand) : Rep c w (s.ev x) (a.eval x) := by
  cases x with
  | tmp t => exact h.fr t
  | const v => exact zv_rep c w v
  | global g => exact .val _
  | func f => exact .val _

/-- A block of the call's own is new, or written anew. -/
def RC.upd (c : RC) (b g : Nat) (o : OB) : RC := ⟨fun b' g' => if b' = b then (if g' = g then some o else none) else c.own b' g', fun g' => c.used g' ∨ g' = g, c.st⟩

theorem Sim.upd {C : ACtx} {s : AS} {c : RC} {a : Act} {w w' : World} (hS : Sim C s c a w) (b : Nat) (blk : Blk) (o : OB)
    (hg : ¬ c.used blk.gen ∨ c.own b blk.gen = some o) (hos : w'.os = w.os) (hta : w'.tape = w.tape) (hou : w'.output = w.output) (hsz : w.heap.size ≤ w'.heap.size)
    (hbl : ∀ β, β < w.heap.size → o.loc ≠ some β → w'.heap[β]? = w.heap[β]?)
    (hloc : ∀ β, o.loc = some β → (w.heap.size ≤ β ∧ β < w'.heap.size) ∨ ∃ g0 o0, c.own b g0 = some o0 ∧ o0.loc = some β)
    (hblk : Mono c (c.upd b blk.gen o) w w' → BlkRep (c.upd b blk.gen o) w' blk o) (d : Option Nat) (v : AV) (u : Value) (hd : ∀ e, d = some e → e < C.n) (hv : d ≠ none → Mono c (c.upd b blk.gen o) w w' → Rep (c.upd b blk.gen o) w' v u) :
    Sim C (s.app d v [(b, some blk)]) (c.upd b blk.gen o) (a.put d u) w' := by
  have hst : ∀ β, c.st β → β < w.heap.size ∧ o.loc ≠ some β := by
    intro β hb
    refine ⟨(hS.st β hb).1, fun e => ?_⟩
    rcases hloc β e with h | ⟨g0, o0, h1, h2⟩
    · have := (hS.st β hb).1
      omega
    · exact ((hS.al b g0 o0 h1).2.2 β h2).2.1 hb
  have hm : Mono c (c.upd b blk.gen o) w w' := by
    refine ⟨fun β hb => ⟨hb, hbl β (hst β hb).1 (hst β hb).2⟩, fun g hu => .inl hu, fun b' g' o' hu ho' => ?_⟩
    simp only [RC.upd] at ho'
    split at ho'
    · rename_i hbb
      subst hbb
      split at ho'
      · rename_i hgg
        subst hgg
        rcases hg with h | h
        · exact absurd hu h
        · rw [h]; exact ho'
      · cases ho'
    · exact ho'
  have hother : ∀ b' g' o' β, b' ≠ b → c.own b' g' = some o' → o'.loc = some β → o.loc ≠ some β := by
    intro b' g' o' β hne ho' hb' e
    rcases hloc β e with h | ⟨g0, o0, h1, h2⟩
    · have := ((hS.al b' g' o' ho').2.2 β hb').1
      omega
    · exact hne (hS.inj b' g' o' b g0 o0 β ho' h1 hb' h2).1
  refine ⟨(Act.put_nd a d u).symm ▸ hS.nd.step hm.st, (Act.put_size a d u).trans hS.sz, fr_put hS hm d v u hd (fun h => hv h hm), fun b' blk' hb' => ?_, fun b' g' o' ho' => ?_, fun b1 g1 o1 b2 g2 o2 β h1 h2 k1 k2 => ?_, fun β hb => ?_, hS.st0, hS.old.trans' hos hta hou hsz (fun k hk hl => ?_), hS.mo.trans hm⟩
  · simp only [AS.app, List.cons_append, List.nil_append, lkH_cons] at hb'
    split at hb'
    · rename_i hbb
      subst hbb
      obtain rfl := Option.some.inj hb'
      exact ⟨o, by simp [RC.upd], hblk hm⟩
    · rename_i hbb
      obtain ⟨o', h1, h2⟩ := hS.hp b' blk' hb'
      refine ⟨o', by simp [RC.upd, hbb, h1], h2.mono hm (fun β hβ => hbl β ((hS.al b' _ o' h1).2.2 β hβ).1 (hother b' _ o' β hbb h1 hβ))⟩
  · simp only [RC.upd] at ho'
    split at ho'
    · rename_i hbb
      subst hbb
      split at ho'
      · rename_i hgg
        subst hgg
        obtain rfl := Option.some.inj ho'
        refine ⟨.inr rfl, ⟨blk, by simp [AS.app, lkH_cons], rfl⟩, fun β hβ => ?_⟩
        rcases hloc β hβ with h | ⟨g0, o0, h1, h2⟩
        · refine ⟨h.2, fun hs => ?_, .inl (Nat.le_trans hS.old.size h.1)⟩
          have := (hS.st β hs).1
          omega
        · obtain ⟨k1, k2, k3⟩ := (hS.al b' g0 o0 h1).2.2 β h2
          exact ⟨by omega, k2, k3⟩
      · cases ho'
    · rename_i hbb
      obtain ⟨k1, ⟨blk', k2, k3⟩, k4⟩ := hS.al b' g' o' ho'
      refine ⟨.inl k1, ⟨blk', by simp [AS.app, lkH_cons, hbb, k2], k3⟩, fun β hβ => ?_⟩
      obtain ⟨q1, q2, q3⟩ := k4 β hβ
      exact ⟨by omega, q2, q3⟩
  · simp only [RC.upd] at h1 h2
    split at h1
    · rename_i e1
      split at h1
      · rename_i f1
        obtain rfl := Option.some.inj h1
        split at h2
        · rename_i e2
          split at h2
          · rename_i f2
            exact ⟨e1.trans e2.symm, f1.trans f2.symm⟩
          · cases h2
        · rename_i e2
          exact absurd k1 (hother b2 g2 o2 β e2 h2 k2)
      · cases h1
    · rename_i e1
      split at h2
      · split at h2
        · obtain rfl := Option.some.inj h2
          exact absurd k2 (hother b1 g1 o1 β e1 h1 k1)
        · cases h2
      · exact hS.inj b1 g1 o1 b2 g2 o2 β h1 h2 k1 k2
  · obtain ⟨h1, h2⟩ := hS.st β hb
    exact ⟨by omega, h2⟩
  · refine hbl k (Nat.lt_of_lt_of_le hk hS.old.size) (fun e => ?_)
    rcases hloc k e with h | ⟨g0, o0, h1, h2⟩
    · have := hS.old.size
      omega
    · rcases ((hS.al b g0 o0 h1).2.2 k h2).2.2 with h | h
      · omega
      · exact hl h

/-- Memory that never turns is new; the world has only grown. -/
theorem Sim.grow {C : ACtx} {s : AS} {c : RC} {a : Act} {w w' : World} (hS : Sim C s c a w) (St : Nat → Prop) (hE : Below w.heap.size w w') (hst : ∀ β, c.st β → St β) (hst' : ∀ β, St β → c.st β ∨ (w.heap.size ≤ β ∧ β < w'.heap.size))
    (d : Option Nat) (v : AV) (u : Value) (hd : ∀ e, d = some e → e < C.n) (hv : d ≠ none → Mono c ⟨c.own, c.used, St⟩ w w' → Rep ⟨c.own, c.used, St⟩ w' v u) : Sim C (s.app d v []) ⟨c.own, c.used, St⟩ (a.put d u) w' := by
  have hm : Mono c ⟨c.own, c.used, St⟩ w w' := ⟨fun β hb => ⟨hst β hb, hE.block β (hS.st β hb).1⟩, fun g hu => hu, fun b' g' o' _ ho' => ho'⟩
  refine ⟨(Act.put_nd a d u).symm ▸ hS.nd.step hm.st, (Act.put_size a d u).trans hS.sz, fr_put hS hm d v u hd (fun h => hv h hm), fun b blk hb => ?_, fun b g o ho => ?_, hS.inj, fun β hb => ?_, fun β hb => hst β (hS.st0 β hb), hS.old.below hE, hS.mo.trans hm⟩
  · obtain ⟨o, h1, h2⟩ := hS.hp b blk hb
    exact ⟨o, h1, h2.mono hm (fun β hβ => hE.block β ((hS.al b _ o h1).2.2 β hβ).1)⟩
  · obtain ⟨k1, k2, k4⟩ := hS.al b g o ho
    refine ⟨k1, k2, fun β hβ => ?_⟩
    obtain ⟨q1, q2, q3⟩ := k4 β hβ
    refine ⟨Nat.lt_of_lt_of_le q1 hE.size, fun hs => ?_, q3⟩
    rcases hst' β hs with h | h
    · exact q2 h
    · omega
  · rcases hst' β hb with h | h
    · exact ⟨Nat.lt_of_lt_of_le (hS.st β h).1 hE.size, (hS.st β h).2⟩
    · exact ⟨h.2, .inr (.inl (Nat.le_trans hS.old.size h.1))⟩

/-- A list of what each place has. -/
theorem pick_list {α β : Type} (R : Nat → α → β → Prop) : ∀ (l : List α) (k : Nat), (∀ (j : Nat) (x : α), l[j]? = some x → ∃ u, R (k + j) x u) → ∃ us : List β, us.length = l.length ∧ ∀ (j : Nat) (x : α) (u : β), l[j]? = some x → us[j]? = some u → R (k + j) x u
  | [], k, _ => ⟨[], rfl, fun j x u h => by simp at h⟩
  | x :: l, k, h => by
    obtain ⟨u, hu⟩ := h 0 x rfl
    obtain ⟨us, h1, h2⟩ := pick_list R l (k + 1) (fun j y hy => by
      have := h (j + 1) y (by simpa using hy)
      rwa [show k + (j + 1) = k + 1 + j by omega] at this)
    refine ⟨u :: us, by simp [h1], fun j y v hy hv => ?_⟩
    cases j with
    | zero =>
      simp only [List.getElem?_cons_zero, Option.some.injEq] at hy hv
      subst hy
      subst hv
      exact hu
    | succ j =>
      have := h2 j y v (by simpa using hy) (by simpa using hv)
      rwa [show k + 1 + j = k + (j + 1) by omega] at this
end Go.Proofs.Ytedfegoafallhaa
