/- A1, A2, A3, A4, A5, A6, A7, A8, A9. -/
import Derived.WalkKit
import Derived.WalkSmall
import Derived.WalkSpells
import Derived.WalkLawsBesides
import Derived.Handy
import Derived.BigQuiet
import Derived.Deep.QuietTactic
import Derived.Deep.Draws
import Derived.Laws.AppendOwnNone
import Derived.OrdersIn
import Derived.ControlIn
import Derived.CallsIn
import Derived.RangeFuncRecord
set_option linter.unusedVariables false
set_option linter.unusedSimpArgs false
namespace Go.Proofs.Ytkmlmboclegpcaa
open Go Go.RowKit
inductive AV where
 | val (v : Value)
 | ptr (b g i f : Nat)
 | rp (es : List AV)
 | sl (sz : Nat) (full : Bool) (els : List (List AV))
 | own (b g lo n : Nat)
 | agg (es : List AV)
 | tup (es : List AV)
 | clo (f : Fn) (first cap : List AV)
 | it (b g : Nat)
 | mo (b g : Nat)
 | mp (ks : List Value) (vs : List AV)
 | bany
 | dead
structure OB where
 loc : Option Nat
 sz : Nat
 room : Nat
structure RC where
 own : Nat → Nat → Option OB
 used : Nat → Prop
 st : Nat → Prop
inductive Rep (c : RC) (w : World) : AV → Value → Prop where
 | val (v : Value) : Rep c w (.val v) v
 | ptr (b g i f β o : Nat) (hu : c.used g) (h : ∀ q, c.own b g = some q → q.loc = some β ∧ o = i * q.sz + f ∧ 0 < q.sz) : Rep c w (.ptr b g i f) (.pointer (some ⟨β, o, none⟩))
 | rp (es : List AV) (β o : Nat) (us : Nat → Value) (hs : es ≠ [] → c.st β)
   (hc : ∀ (f : Nat) (x : AV), es[f]? = some x → w.cell? ⟨β, o + f, none⟩ = some (us f) ∧ (us f).oneCell' = true)
   (hr : ∀ (f : Nat) (x : AV), es[f]? = some x → Rep c w x (us f)) : Rep c w (.rp es) (.pointer (some ⟨β, o, none⟩))
 | sl (sz : Nat) (full : Bool) (els : List (List AV)) (A : Option Addr) (cap β o : Nat) (us : Nat → Nat → Value)
   (hn : els.length ≤ cap) (hm : cap ≤ maxLen) (hf : full = true → cap = els.length) (h0 : A = none → cap = 0)
   (hz : ∀ el, el ∈ els → el.length = sz)
   (hA : els ≠ [] → A = some ⟨β, o, none⟩ ∧ (0 < sz → c.st β))
   (hc : ∀ (i : Nat) (el : List AV) (f : Nat) (x : AV), els[i]? = some el → el[f]? = some x → w.cell? ⟨β, o + i * sz + f, none⟩ = some (us i f) ∧ (us i f).oneCell' = true)
   (hr : ∀ (i : Nat) (el : List AV) (f : Nat) (x : AV), els[i]? = some el → el[f]? = some x → Rep c w x (us i f)) : Rep c w (.sl sz full els) (.slice A els.length cap)
 | own (b g lo n : Nat) (A : Option Addr) (m cap : Nat) (hu : c.used g)
   (h : ∀ o, c.own b g = some o → m = n ∧ n ≤ cap ∧ cap ≤ maxLen ∧ (A = none → cap = 0) ∧ 0 < o.sz ∧ (cap = 0 ∨ ∃ β, o.loc = some β ∧ A = some ⟨β, lo * o.sz, none⟩ ∧ (lo + cap) * o.sz ≤ o.room)) :
   Rep c w (.own b g lo n) (.slice A m cap)
 | agg (es : List AV) (us : List Value) (hl : us.length = es.length) (h1 : ∀ u, u ∈ us → u.oneCell' = true)
   (hr : ∀ (i : Nat) (x : AV) (u : Value), es[i]? = some x → us[i]? = some u → Rep c w x u) : Rep c w (.agg es) (.agg us.toArray)
 | tup (es : List AV) (us : List Value) (hl : us.length = es.length)
   (hr : ∀ (i : Nat) (x : AV) (u : Value), es[i]? = some x → us[i]? = some u → Rep c w x u) : Rep c w (.tup es) (.tuple us.toArray)
 | clo (f : Fn) (first cap : List AV) (us vs : List Value) (hl : us.length = first.length) (hl' : vs.length = cap.length)
   (hr : ∀ (i : Nat) (x : AV) (u : Value), first[i]? = some x → us[i]? = some u → Rep c w x u) (hr' : ∀ (i : Nat) (x : AV) (u : Value), cap[i]? = some x → vs[i]? = some u → Rep c w x u) :
   Rep c w (.clo f first cap) (.func f us.toArray vs.toArray)
 | it (b g β : Nat) (hu : c.used g) (h : ∀ q, c.own b g = some q → q.loc = some β ∧ q.sz = 0) : Rep c w (.it b g) (.pointer (some ⟨β, 0, none⟩))
 | mo (b g β : Nat) (hu : c.used g) (h : ∀ q, c.own b g = some q → q.loc = some β ∧ q.sz = 0) : Rep c w (.mo b g) (.map (some β))
 | mp (ks : List Value) (vs : List AV) (β clock : Nat) (es : List MapEntry) (hs : c.st β) (hh : w.heap[β]? = some (.map es.toArray clock)) (hk : es.map (·.key) = ks) (hl : vs.length = es.length)
   (hr : ∀ (i : Nat) (x : AV) (e : MapEntry), vs[i]? = some x → es[i]? = some e → Rep c w x e.val) : Rep c w (.mp ks vs) (.map (some β))
 | bany (b : Bool) : Rep c w .bany (.bool b)
 | dead (v : Value) : Rep c w .dead v
structure Mono (c c' : RC) (w w' : World) : Prop where
 st : ∀ β, c.st β → c'.st β ∧ w'.heap[β]? = w.heap[β]?
 used : ∀ g, c.used g → c'.used g
 own : ∀ b g o, c.used g → c'.own b g = some o → c.own b g = some o
theorem Mono.refl (c : RC) (w : World) : Mono c c w w := ⟨fun _ h => ⟨h, rfl⟩, fun _ h => h, fun _ _ _ _ h => h⟩
theorem Mono.trans {c c' c'' : RC} {w w' w'' : World} (h : Mono c c' w w') (k : Mono c' c'' w' w'') : Mono c c'' w w'' :=
 ⟨fun β hb => ⟨(k.st β (h.st β hb).1).1, (k.st β (h.st β hb).1).2.trans (h.st β hb).2⟩, fun g hg => k.used g (h.used g hg), fun b g o hu ho => h.own b g o hu (k.own b g o (h.used g hu) ho)⟩
theorem Mono.drew (c : RC) (w : World) : Mono c c w w.drew := ⟨fun _ h => ⟨h, rfl⟩, fun _ h => h, fun _ _ _ _ h => h⟩
theorem cell_same {w w' : World} {β : Nat} (h : w'.heap[β]? = w.heap[β]?) (o : Nat) : w'.cell? ⟨β, o, none⟩ = w.cell? ⟨β, o, none⟩ := World.cell?_of_block (w := w) h
theorem Rep.mono {c c' : RC} {w w' : World} (h : Mono c c' w w') {x : AV} {v : Value} (r : Rep c w x v) : Rep c' w' x v := by
 induction r with
 | val v => exact .val v
 | ptr b g i f β o hu hp => exact .ptr b g i f β o (h.used g hu) (fun q hq => hp q (h.own b g q hu hq))
 | rp es β o us hs hc _ ih =>
  by_cases he : es = []
  ·subst he
   exact .rp [] β o us (fun k => absurd rfl k) (fun f x hx => by simp at hx) (fun f x hx => by simp at hx)
  ·obtain ⟨h1, h2⟩ := h.st β (hs he)
   exact .rp es β o us (fun _ => h1) (fun f x hx => ⟨(cell_same h2 _).trans (hc f x hx).1, (hc f x hx).2⟩) ih
 | sl sz full els A cap β o us hn hm hf h0 hz hA hc _ ih =>
  refine .sl sz full els A cap β o us hn hm hf h0 hz (fun he => ⟨(hA he).1, fun hz' => (h.st β ((hA he).2 hz')).1⟩) (fun i el f x hi hx => ⟨?_, (hc i el f x hi hx).2⟩) ih
  have he : els ≠ [] := by intro e; subst e; simp at hi
  have hs : 0 < sz := by
   have h1 := hz el (List.mem_of_getElem? hi)
   have h2 := (List.getElem?_eq_some_iff.1 hx).1
   omega
  exact (cell_same (h.st β ((hA he).2 hs)).2 _).trans (hc i el f x hi hx).1
 | own b g lo n A m cap hu hp => exact .own b g lo n A m cap (h.used g hu) (fun o ho => hp o (h.own b g o hu ho))
 | agg es us hl h1 _ ih => exact .agg es us hl h1 ih
 | tup es us hl _ ih => exact .tup es us hl ih
 | clo f first cap us vs hl hl' _ _ ih ih' => exact .clo f first cap us vs hl hl' ih ih'
 | it b g β hu hp => exact .it b g β (h.used g hu) (fun q hq => hp q (h.own b g q hu hq))
 | mo b g β hu hp => exact .mo b g β (h.used g hu) (fun q hq => hp q (h.own b g q hu hq))
 | mp ks vs β clock es hs hh hk hl _ ih => exact .mp ks vs β clock es (h.st β hs).1 ((h.st β hs).2.trans hh) hk hl ih
 | bany b => exact .bany b
 | dead v => exact .dead v
structure Blk where
 gen : Nat
 sz : Nat
 els : List (List AV)
structure AS where
 fr : List (Nat × AV)
 hp : List (Nat × Option Blk)
 gc : Nat
def lkA : List (Nat × AV) → Nat → AV
 | [], _ => .dead
 | (k, v) :: l, t => bif Nat.beq t k then v else lkA l t
def lkH : List (Nat × Option Blk) → Nat → Option Blk
 | [], _ => none
 | (k, v) :: l, t => bif Nat.beq t k then v else lkH l t
theorem beq_cond {α : Type} (t k : Nat) (a b : α) : (bif Nat.beq t k then a else b) = if t = k then a else b := by
 by_cases h : t = k
 ·subst h
  rw [Nat.beq_refl, if_pos rfl]
  rfl
 ·rw [if_neg h]
  have : Nat.beq t k = false := by
   cases hb : Nat.beq t k with
   | false => rfl
   | true => exact absurd (Nat.eq_of_beq_eq_true hb) h
  rw [this]
  rfl
theorem lkA_cons (k : Nat) (v : AV) (l : List (Nat × AV)) (t : Nat) : lkA ((k, v) :: l) t = if t = k then v else lkA l t := beq_cond t k v _
theorem lkH_cons (k : Nat) (v : Option Blk) (l : List (Nat × Option Blk)) (t : Nat) : lkH ((k, v) :: l) t = if t = k then v else lkH l t := beq_cond t k v _
inductive AK where
 | struct (fs : List (Nat × Nat))
 | slice (e : Nat)
 | array (n e : Nat)
 | pointer (e : Nat)
 | str
 | int (k : IntKind)
 | bool
 | map (k e : Nat)
 | odd
 | other
structure TI where
 k : AK
 size : Nat
 bytes : Nat
 zero : List Value
def szOf (P : Program) (t : Nat) : Nat := ((P.info? t).map (·.size)).getD 0
def akOf (P : Program) : TypeDesc → AK
 | .struct fs => if fs.all (fun f => (P.info? f.type).isSome) then .struct (fs.toList.map fun f => (f.offset, szOf P f.type)) else .odd
 | .slice e => .slice e
 | .array n e => .array n e
 | .pointer e => .pointer e
 | .string => .str
 | .int k => .int k
 | .bool => .bool
 | .map k e => .map k e
 | _ => .other
def tiOf (P : Program) (t : Nat) : Option TI :=
 match P.underlying t, P.info? t with
 | some u, some i => (match i.zero with
  | some z => some ⟨akOf P u, i.size, i.bytes, z.cells.toList⟩
  | none => none)
 | _, _ => none
def lkT : List (Nat × TI) → Nat → Option TI
 | [], _ => none
 | (k, v) :: l, t => bif Nat.beq t k then some v else lkT l t
def AllT (P : Program) : List (Nat × TI) → Prop
 | [] => True
 | (k, v) :: l => tiOf P k = some v ∧ AllT P l
theorem lkT_ok (P : Program) : ∀ (l : List (Nat × TI)), AllT P l → ∀ t ti, lkT l t = some ti → tiOf P t = some ti
 | [], _, _, _, h => by cases h
 | (k, v) :: l, ha, t, ti, h => by
  rw [lkT] at h
  cases hb : Nat.beq t k with
  | true =>
   rw [hb] at h
   obtain rfl := Option.some.inj h
   rw [Nat.eq_of_beq_eq_true hb]
   exact ha.1
  | false =>
   rw [hb] at h
   exact lkT_ok P l ha.2 t ti h
structure ACtx where
 P : Program
 T : Nat → Option TI
 ok : ∀ t ti, T t = some ti → tiOf P t = some ti
 n : Nat
 w0 : World
 st0 : Nat → Prop
 lent : Nat → Prop
 rd : Option Nat × Bool
 c0 : RC
def RowAt (w : World) (β : Nat) (cur : Array Value) (e : TypeId) : Prop := ∃ mk : Nat × Nat, (mk = (0, 0) ∨ cur.size ≤ mk.1) ∧ w.heap[β]? = some (.cells cur e mk)
theorem RowAt.plain {w : World} {β : Nat} {cur : Array Value} {e : TypeId} (h : w.heap[β]? = some (.cells cur e (0, 0))) : RowAt w β cur e := ⟨_, .inl rfl, h⟩
theorem RowAt.congr {w w' : World} {β : Nat} {cur : Array Value} {e : TypeId} (r : RowAt w β cur e) (h : w'.heap[β]? = w.heap[β]?) : RowAt w' β cur e := by
 obtain ⟨mk, h1, h2⟩ := r
 exact ⟨mk, h1, h.trans h2⟩
theorem RowAt.cell {w : World} {β : Nat} {cur : Array Value} {e : TypeId} (r : RowAt w β cur e) (o : Nat) : w.cell? ⟨β, o, none⟩ = cur[o]? := by
 obtain ⟨mk, h1, h2⟩ := r
 exact cell_of_row w β o cur e mk h2
theorem RowAt.lt {w : World} {β : Nat} {cur : Array Value} {e : TypeId} (r : RowAt w β cur e) : β < w.heap.size := by
 obtain ⟨mk, h1, h2⟩ := r
 exact (Array.getElem?_eq_some_iff.1 h2).1
theorem RowAt.set {w : World} {β : Nat} {cur vs : Array Value} {e : TypeId} (r : RowAt w β cur e) (h : vs.size = cur.size) : RowAt (w.setRow β vs) β vs e := by
 obtain ⟨mk, h1, h2⟩ := r
 exact ⟨mk, by rw [h]; exact h1, setRow_heap w β cur vs e mk h2⟩
theorem RowAt.store (P : Program) {β : Nat} (o : Nat) {e : TypeId} : ∀ (vs : List Value) (i : Nat) {cur : Array Value} {w : World}, RowAt w β cur e → o + i + vs.length ≤ cur.size → (∀ v ∈ vs, v.oneCell' = true) →
  (storeCells ⟨β, o, none⟩ vs i).run P w = .ok () (w.setRow β (cur.toList.take (o + i) ++ vs ++ cur.toList.drop (o + i + vs.length)).toArray)
 | [], i, cur, w, ⟨mk, hm, hg⟩, _, _ => by
  simp only [storeCells, List.append_nil, List.length_nil, Nat.add_zero, List.take_append_drop, Array.toArray_toList]
  rw [setRow_self w β cur e mk hg]
  rfl
 | v :: rest, i, cur, w, r, hl, h1 => by
  have r0 := r
  obtain ⟨mk, hm, hg⟩ := r
  have hi : o + i < cur.size := by simp at hl; omega
  have hadd : (⟨β, o, none⟩ : Addr).add i = ⟨β, o + i, none⟩ := by unfold Addr.add; split <;> simp_all
  have hcell : w.cell? ⟨β, o + i, none⟩ = some cur[o + i] := by rw [r0.cell]; simp [hi]
  have hfro : w.frozen? ⟨β, o + i, none⟩ = false := by
   rcases hm with rfl | hm
   ·simp [World.frozen?, hg]
   ·obtain ⟨lo, hi'⟩ := mk
    simp only at hm
    simp only [World.frozen?, hg, Bool.and_eq_false_iff, decide_eq_false_iff_not]
    left
    omega
  have hst : (Go.store ((⟨β, o, none⟩ : Addr).add i) v).run P w = .ok () (w.setRow β (cur.setIfInBounds (o + i) v)) := by
   rw [hadd, run_store P w _ v _ (h1 v (by simp)), hcell]
   simp [hfro, setCell_eq_setRow w β (o + i) cur e mk v hg]
  have ih := RowAt.store P o rest (i + 1) (r0.set (vs := cur.setIfInBounds (o + i) v) (by simp)) (by simp at hl ⊢; omega) (fun x hx => h1 x (by simp [hx]))
  simp only [storeCells, Sem.run_bind, hst, Result.andThen_ok, ih, setRow_setRow]
  congr 3
  have e := list_seg_step cur.toList (o + i) v rest (by simp at hl ⊢; omega)
  simpa [Array.toList_setIfInBounds, Nat.add_assoc] using e
theorem RowAt.inj {w : World} {β : Nat} {cur cur' : Array Value} {e e' : TypeId} (r : RowAt w β cur e) (r' : RowAt w β cur' e') : cur = cur' ∧ e = e' := by
 obtain ⟨mk, _, h⟩ := r
 obtain ⟨mk', _, h'⟩ := r'
 rw [h] at h'
 cases h'
 exact ⟨rfl, rfl⟩
theorem row_intro {w : World} {β n : Nat} {cur : Array Value} {e : TypeId} {R : Array Value → TypeId → Prop} (q1 : RowAt w β cur e) (q2 : cur.size = n) {vs : Array Value} (h : vs.size = n) (hR : R vs e) : ∃ cur e, RowAt (w.setRow β vs) β cur e ∧ cur.size = n ∧ R cur e :=
 ⟨vs, e, q1.set (h.trans q2.symm), h, hR⟩
def RowRep (c : RC) (w : World) (blk : Blk) (o : OB) : Prop :=
 o.sz = blk.sz ∧ (∀ el, el ∈ blk.els → el.length = blk.sz) ∧
 match o.loc with
 | none => blk.els = []
 | some β => ∃ cur e, RowAt w β cur e ∧ cur.size = o.room ∧
   ∀ (i : Nat) (el : List AV) (f : Nat) (x : AV), blk.els[i]? = some el → el[f]? = some x → ∃ u, cur[i * blk.sz + f]? = some u ∧ u.oneCell' = true ∧ Rep c w x u
def ObjRep (c : RC) (w : World) (blk : Blk) (o : OB) : Prop :=
 o.sz = blk.sz ∧ blk.sz = 0 ∧ ∃ β, o.loc = some β ∧
  ((∃ s pos, w.heap[β]? = some (.stringIter s pos) ∧ blk.els = [[.val (.string s), .val (.int .i64 (pos : Nat))]]) ∨
  (∃ (es : List MapEntry) (clock : Nat) (ks : List Value) (vs : List AV), w.heap[β]? = some (.map es.toArray clock) ∧ es.map (·.key) = ks ∧ vs.length = es.length ∧ blk.els = [.dead :: ks.map .val, vs] ∧ ∀ (i : Nat) (x : AV) (e : MapEntry), vs[i]? = some x → es[i]? = some e → Rep c w x e.val))
def BlkRep (c : RC) (w : World) (blk : Blk) (o : OB) : Prop := RowRep c w blk o ∨ ObjRep c w blk o
theorem BlkRep.sz {c : RC} {w : World} {blk : Blk} {o : OB} (h : BlkRep c w blk o) : o.sz = blk.sz := by
 rcases h with h | h
 ·exact h.1
 ·exact h.1
theorem BlkRep.row {c : RC} {w : World} {blk : Blk} {o : OB} (h : BlkRep c w blk o) (h0 : 0 < o.sz) : RowRep c w blk o := by
 rcases h with h | h
 ·exact h
 ·have := h.1; have := h.2.1; omega
theorem BlkRep.obj {c : RC} {w : World} {gen sz : Nat} {x : AV} {l : List AV} {r : List (List AV)} {o : OB} (h : BlkRep c w ⟨gen, sz, (x :: l) :: r⟩ o) (h0 : o.sz = 0) : ObjRep c w ⟨gen, sz, (x :: l) :: r⟩ o := by
 rcases h with h | h
 ·have h1 := h.1
  have h2 := h.2.1 (x :: l) (by simp)
  simp only [List.length_cons] at h1 h2
  omega
 ·exact h
structure Old (lent : Nat → Prop) (w w' : World) : Prop where
 os : w'.os = w.os
 tape : w'.tape = w.tape
 output : w'.output = w.output
 size : w.heap.size ≤ w'.heap.size
 block : ∀ k, k < w.heap.size → ¬ lent k → w'.heap[k]? = w.heap[k]?
theorem Old.refl (L : Nat → Prop) (w : World) : Old L w w := ⟨rfl, rfl, rfl, Nat.le_refl _, fun _ _ _ => rfl⟩
theorem Old.trans' {L : Nat → Prop} {a b c : World} (h : Old L a b) (h1 : c.os = b.os) (h2 : c.tape = b.tape) (h3 : c.output = b.output) (h4 : b.heap.size ≤ c.heap.size) (h5 : ∀ k, k < a.heap.size → ¬ L k → c.heap[k]? = b.heap[k]?) : Old L a c :=
 ⟨h1.trans h.os, h2.trans h.tape, h3.trans h.output, Nat.le_trans h.size h4, fun k hk hl => (h5 k hk hl).trans (h.block k hk hl)⟩
theorem Old.below {L : Nat → Prop} {a b c : World} (h : Old L a b) (k : Below b.heap.size b c) : Old L a c :=
 h.trans' k.os k.tape k.output k.size (fun i hi _ => k.block i (Nat.lt_of_lt_of_le hi h.size))
theorem Old.drew {L : Nat → Prop} {a b : World} (h : Old L a b) : Old L a b.drew := ⟨h.os, h.tape, h.output, h.size, h.block⟩
structure Nd (rd : Option Nat × Bool) (c : RC) (w0 w : World) (ds : List Deferred) : Prop where
 at_ : ∀ d, d ∈ ds → ∃ D, d = { target := .collected D, args := #[] } ∧ c.st D ∧ w0.heap.size ≤ D ∧ w.heap[D]? = some (.deferred (some []))
 nodup : ds.Nodup
 rd_ : rd.2 = true → ds = []
theorem Nd.nil (rd : Option Nat × Bool) (c : RC) (w0 w : World) : Nd rd c w0 w [] := ⟨fun d h => (by cases h), List.nodup_nil, fun _ => rfl⟩
theorem Nd.step {rd : Option Nat × Bool} {c c' : RC} {w0 w w' : World} {ds : List Deferred} (h : Nd rd c w0 w ds) (hm : ∀ β, c.st β → c'.st β ∧ w'.heap[β]? = w.heap[β]?) : Nd rd c' w0 w' ds :=
 ⟨fun d hd => by
  obtain ⟨D, h1, h2, h3, h4⟩ := h.at_ d hd
  exact ⟨D, h1, (hm D h2).1, h3, (hm D h2).2.trans h4⟩, h.nodup, h.rd_⟩
structure Sim (C : ACtx) (s : AS) (c : RC) (a : Act) (w : World) : Prop where
 nd : Nd C.rd c C.w0 w a.defers
 sz : a.tmps.size = C.n
 fr : ∀ t, Rep c w (lkA s.fr t) (a.tmps.getD t undef)
 hp : ∀ b blk, lkH s.hp b = some blk → ∃ o, c.own b blk.gen = some o ∧ BlkRep c w blk o
 al : ∀ b g o, c.own b g = some o → c.used g ∧ (∃ blk, lkH s.hp b = some blk ∧ blk.gen = g) ∧ ∀ β, o.loc = some β → β < w.heap.size ∧ ¬ c.st β ∧ (C.w0.heap.size ≤ β ∨ C.lent β)
 inj : ∀ b g o b' g' o' β, c.own b g = some o → c.own b' g' = some o' → o.loc = some β → o'.loc = some β → b = b' ∧ g = g'
 st : ∀ β, c.st β → β < w.heap.size ∧ (C.st0 β ∨ C.w0.heap.size ≤ β ∨ C.lent β)
 st0 : ∀ β, C.st0 β → c.st β
 old : Old C.lent C.w0 w
 mo : Mono C.c0 c C.w0 w
theorem Rep.drew {c : RC} {w : World} {x : AV} {v : Value} (r : Rep c w x v) : Rep c w.drew x v := r.mono (Mono.drew c w)
theorem RowRep.mono {c c' : RC} {w w' : World} (h : Mono c c' w w') {blk : Blk} {o : OB} (r : RowRep c w blk o) (hb : ∀ β, o.loc = some β → w'.heap[β]? = w.heap[β]?) : RowRep c' w' blk o := by
 obtain ⟨h1, h2, h3⟩ := r
 refine ⟨h1, h2, ?_⟩
 cases ho : o.loc with
 | none => rw [ho] at h3; exact h3
 | some β =>
  rw [ho] at h3
  obtain ⟨cur, e, g1, g2, g3⟩ := h3
  refine ⟨cur, e, g1.congr (hb β ho), g2, fun i el f x hi hx => ?_⟩
  obtain ⟨u, k1, k2, k3⟩ := g3 i el f x hi hx
  exact ⟨u, k1, k2, k3.mono h⟩
theorem BlkRep.mono {c c' : RC} {w w' : World} (h : Mono c c' w w') {blk : Blk} {o : OB} (r : BlkRep c w blk o) (hb : ∀ β, o.loc = some β → w'.heap[β]? = w.heap[β]?) : BlkRep c' w' blk o := by
 rcases r with r | ⟨h1, h2, β, h3, r⟩
 ·exact .inl (r.mono h hb)
 ·refine .inr ⟨h1, h2, β, h3, ?_⟩
  rcases r with ⟨s, pos, r1, r2⟩ | ⟨es, clock, ks, vs, r1, r2, r3, r4, r5⟩
  ·exact .inl ⟨s, pos, (hb β h3).trans r1, r2⟩
  ·exact .inr ⟨es, clock, ks, vs, (hb β h3).trans r1, r2, r3, r4, fun i x e hx he => (r5 i x e hx he).mono h⟩
theorem Sim.drew {C : ACtx} {s : AS} {c : RC} {a : Act} {w : World} (h : Sim C s c a w) : Sim C s c a w.drew :=
 ⟨h.nd.step (fun _ hb => ⟨hb, rfl⟩), h.sz, fun t => (h.fr t).drew, fun b blk hb => by
  obtain ⟨o, h1, h2⟩ := h.hp b blk hb
  exact ⟨o, h1, h2.mono (Mono.drew c w) (fun _ _ => rfl)⟩, h.al, h.inj, h.st, h.st0, h.old.drew, h.mo.trans (Mono.drew c w)⟩
theorem tmps_put (a : Act) (d : Option Nat) (v : Value) (t : Nat) (hd : ∀ e, d = some e → e < a.tmps.size) : (a.put d v).tmps.getD t undef = if d = some t then v else a.tmps.getD t undef := by
 cases d with
 | none => simp [Act.put]
 | some d =>
  simp only [Act.put, Option.some.injEq]
  by_cases h : d = t
  ·subst h
   simp [hd d rfl]
  ·rw [if_neg h]
   simp [Array.getElem?_setIfInBounds_ne h]
theorem Act.put_size (a : Act) (d : Option Nat) (v : Value) : (a.put d v).tmps.size = a.tmps.size := by
 cases d <;> simp [Act.put]
theorem Act.put_nd (a : Act) (d : Option Nat) (v : Value) : (a.put d v).defers = a.defers := by
 cases d <;> simp [Act.put]
def putFr (fr : List (Nat × AV)) : Option Nat → AV → List (Nat × AV)
 | none, _ => fr
 | some d, v => (d, v) :: fr
theorem lk_putFr (fr : List (Nat × AV)) (d : Option Nat) (v : AV) (t : Nat) : lkA (putFr fr d v) t = if d = some t then v else lkA fr t := by
 cases d with
 | none => simp [putFr]
 | some d =>
  rw [putFr, lkA_cons]
  simp only [Option.some.injEq]
  by_cases h : t = d
  ·rw [if_pos h, if_pos h.symm]
  ·rw [if_neg h, if_neg (fun e => h e.symm)]
def AS.app (s : AS) (d : Option Nat) (v : AV) (ups : List (Nat × Option Blk)) : AS := ⟨putFr s.fr d v, ups ++ s.hp, s.gc⟩
theorem fr_put {C : ACtx} {s : AS} {c c' : RC} {a : Act} {w w' : World} (h : Sim C s c a w) (m : Mono c c' w w') (d : Option Nat) (v : AV) (u : Value) (hd : ∀ e, d = some e → e < C.n) (hv : d ≠ none → Rep c' w' v u) :
  ∀ t, Rep c' w' (lkA (putFr s.fr d v) t) ((a.put d u).tmps.getD t undef) := by
 intro t
 rw [lk_putFr, tmps_put a d u t (fun e he => by rw [h.sz]; exact hd e he)]
 by_cases hd' : d = some t
 ·rw [if_pos hd', if_pos hd']
  exact hv (by rw [hd']; simp)
 ·rw [if_neg hd', if_neg hd']
  exact (h.fr t).mono m
theorem Sim.put {C : ACtx} {s : AS} {c : RC} {a : Act} {w : World} (h : Sim C s c a w) (d : Option Nat) (v : AV) (u : Value) (hd : ∀ e, d = some e → e < C.n) (hv : d ≠ none → Rep c w v u) : Sim C (s.app d v []) c (a.put d u) w :=
 ⟨(Act.put_nd a d u).symm ▸ h.nd, (Act.put_size a d u).trans h.sz, fr_put h (Mono.refl c w) d v u hd hv, h.hp, h.al, h.inj, h.st, h.st0, h.old, h.mo⟩
theorem Sim.off {C : ACtx} {s : AS} {c : RC} {a : Act} {w : World} (h : Sim C s c a w) (d : Option Nat) : Sim C (s.app d (.val undef) []) c (a.put d undef) w := by
 refine ⟨(Act.put_nd a d undef).symm ▸ h.nd, (Act.put_size a d undef).trans h.sz, fun t => ?_, h.hp, h.al, h.inj, h.st, h.st0, h.old, h.mo⟩
 simp only [AS.app, lk_putFr]
 split
 ·rename_i hd
  subst hd
  have : (a.put (some t) undef).tmps.getD t undef = undef := by
   simp only [Act.put, Array.getD_eq_getD_getElem?, Array.getElem?_setIfInBounds]
   rw [if_pos True.intro]
   by_cases hlt : t < a.tmps.size
   ·rw [if_pos hlt]; rfl
   ·rw [if_neg hlt]; rfl
  rw [this]
  exact .val _
 ·rename_i hne
  have : (a.put d undef).tmps.getD t undef = a.tmps.getD t undef := by
   cases d with
   | none => rfl
   | some d =>
    have hne' : d ≠ t := fun e => hne (by rw [e])
    simp [Act.put, Array.getElem?_setIfInBounds_ne hne']
  rw [this]
  exact h.fr t
def zv : Value → AV
 | .slice none 0 0 => .sl 0 true []
 | v => .val v
theorem zv_rep (c : RC) (w : World) (v : Value) : Rep c w (zv v) v := by
 unfold zv
 split
 ·exact .sl 0 true [] none 0 0 0 (fun _ _ => undef) (Nat.le_refl _) (Nat.zero_le _) (fun _ => rfl) (fun _ => rfl) (fun el h => by cases h) (fun h => absurd rfl h) (fun i el f x h => by simp at h) (fun i el f x h => by simp at h)
 ·exact .val _
def evA (fr : List (Nat × AV)) : Operand → AV
 | .tmp t => lkA fr t
 | .const v => zv v
 | .global g => .val (.pointer (some ⟨g, 0, none⟩))
 | .func f => .val (.func (.func f) #[] #[])
def AS.ev (s : AS) (x : Operand) : AV := evA s.fr x
theorem Sim.ev {C : ACtx} {s : AS} {c : RC} {a : Act} {w : World} (h : Sim C s c a w) (x : Operand) : Rep c w (s.ev x) (a.eval x) := by
 cases x with
 | tmp t => exact h.fr t
 | const v => exact zv_rep c w v
 | global g => exact .val _
 | func f => exact .val _
def RC.upd (c : RC) (b g : Nat) (o : OB) : RC := ⟨fun b' g' => if b' = b then (if g' = g then some o else none) else c.own b' g', fun g' => c.used g' ∨ g' = g, c.st⟩
theorem Sim.upd {C : ACtx} {s : AS} {c : RC} {a : Act} {w w' : World} (hS : Sim C s c a w) (b : Nat) (blk : Blk) (o : OB)
  (hg : ¬ c.used blk.gen ∨ c.own b blk.gen = some o) (hos : w'.os = w.os) (hta : w'.tape = w.tape) (hou : w'.output = w.output) (hsz : w.heap.size ≤ w'.heap.size)
  (hbl : ∀ β, β < w.heap.size → o.loc ≠ some β → w'.heap[β]? = w.heap[β]?)
  (hloc : ∀ β, o.loc = some β → (w.heap.size ≤ β ∧ β < w'.heap.size) ∨ ∃ g0 o0, c.own b g0 = some o0 ∧ o0.loc = some β)
  (hblk : Mono c (c.upd b blk.gen o) w w' → BlkRep (c.upd b blk.gen o) w' blk o) (d : Option Nat) (v : AV) (u : Value) (hd : ∀ e, d = some e → e < C.n) (hv : d ≠ none → Mono c (c.upd b blk.gen o) w w' → Rep (c.upd b blk.gen o) w' v u) :
  Sim C (s.app d v [(b, some blk)]) (c.upd b blk.gen o) (a.put d u) w' := by
 have hst : ∀ β, c.st β → β < w.heap.size ∧ o.loc ≠ some β := by
  intro β hb
  refine ⟨(hS.st β hb).1, fun e => ?_⟩
  rcases hloc β e with h | ⟨g0, o0, h1, h2⟩
  ·have := (hS.st β hb).1
   omega
  ·exact ((hS.al b g0 o0 h1).2.2 β h2).2.1 hb
 have hm : Mono c (c.upd b blk.gen o) w w' := by
  refine ⟨fun β hb => ⟨hb, hbl β (hst β hb).1 (hst β hb).2⟩, fun g hu => .inl hu, fun b' g' o' hu ho' => ?_⟩
  simp only [RC.upd] at ho'
  split at ho'
  ·rename_i hbb
   subst hbb
   split at ho'
   ·rename_i hgg
    subst hgg
    rcases hg with h | h
    ·exact absurd hu h
    ·rw [h]; exact ho'
   ·cases ho'
  ·exact ho'
 have hother : ∀ b' g' o' β, b' ≠ b → c.own b' g' = some o' → o'.loc = some β → o.loc ≠ some β := by
  intro b' g' o' β hne ho' hb' e
  rcases hloc β e with h | ⟨g0, o0, h1, h2⟩
  ·have := ((hS.al b' g' o' ho').2.2 β hb').1
   omega
  ·exact hne (hS.inj b' g' o' b g0 o0 β ho' h1 hb' h2).1
 refine ⟨(Act.put_nd a d u).symm ▸ hS.nd.step hm.st, (Act.put_size a d u).trans hS.sz, fr_put hS hm d v u hd (fun h => hv h hm), fun b' blk' hb' => ?_, fun b' g' o' ho' => ?_, fun b1 g1 o1 b2 g2 o2 β h1 h2 k1 k2 => ?_, fun β hb => ?_, hS.st0, hS.old.trans' hos hta hou hsz (fun k hk hl => ?_), hS.mo.trans hm⟩
 ·simp only [AS.app, List.cons_append, List.nil_append, lkH_cons] at hb'
  split at hb'
  ·rename_i hbb
   subst hbb
   obtain rfl := Option.some.inj hb'
   exact ⟨o, by simp [RC.upd], hblk hm⟩
  ·rename_i hbb
   obtain ⟨o', h1, h2⟩ := hS.hp b' blk' hb'
   refine ⟨o', by simp [RC.upd, hbb, h1], h2.mono hm (fun β hβ => hbl β ((hS.al b' _ o' h1).2.2 β hβ).1 (hother b' _ o' β hbb h1 hβ))⟩
 ·simp only [RC.upd] at ho'
  split at ho'
  ·rename_i hbb
   subst hbb
   split at ho'
   ·rename_i hgg
    subst hgg
    obtain rfl := Option.some.inj ho'
    refine ⟨.inr rfl, ⟨blk, by simp [AS.app, lkH_cons], rfl⟩, fun β hβ => ?_⟩
    rcases hloc β hβ with h | ⟨g0, o0, h1, h2⟩
    ·refine ⟨h.2, fun hs => ?_, .inl (Nat.le_trans hS.old.size h.1)⟩
     have := (hS.st β hs).1
     omega
    ·obtain ⟨k1, k2, k3⟩ := (hS.al b' g0 o0 h1).2.2 β h2
     exact ⟨by omega, k2, k3⟩
   ·cases ho'
  ·rename_i hbb
   obtain ⟨k1, ⟨blk', k2, k3⟩, k4⟩ := hS.al b' g' o' ho'
   refine ⟨.inl k1, ⟨blk', by simp [AS.app, lkH_cons, hbb, k2], k3⟩, fun β hβ => ?_⟩
   obtain ⟨q1, q2, q3⟩ := k4 β hβ
   exact ⟨by omega, q2, q3⟩
 ·simp only [RC.upd] at h1 h2
  split at h1
  ·rename_i e1
   split at h1
   ·rename_i f1
    obtain rfl := Option.some.inj h1
    split at h2
    ·rename_i e2
     split at h2
     ·rename_i f2
      exact ⟨e1.trans e2.symm, f1.trans f2.symm⟩
     ·cases h2
    ·rename_i e2
     exact absurd k1 (hother b2 g2 o2 β e2 h2 k2)
   ·cases h1
  ·rename_i e1
   split at h2
   ·split at h2
    ·obtain rfl := Option.some.inj h2
     exact absurd k2 (hother b1 g1 o1 β e1 h1 k1)
    ·cases h2
   ·exact hS.inj b1 g1 o1 b2 g2 o2 β h1 h2 k1 k2
 ·obtain ⟨h1, h2⟩ := hS.st β hb
  exact ⟨by omega, h2⟩
 ·refine hbl k (Nat.lt_of_lt_of_le hk hS.old.size) (fun e => ?_)
  rcases hloc k e with h | ⟨g0, o0, h1, h2⟩
  ·have := hS.old.size
   omega
  ·rcases ((hS.al b g0 o0 h1).2.2 k h2).2.2 with h | h
   ·omega
   ·exact hl h
theorem Sim.grow {C : ACtx} {s : AS} {c : RC} {a : Act} {w w' : World} (hS : Sim C s c a w) (St : Nat → Prop) (hE : Below w.heap.size w w') (hst : ∀ β, c.st β → St β) (hst' : ∀ β, St β → c.st β ∨ (w.heap.size ≤ β ∧ β < w'.heap.size))
  (d : Option Nat) (v : AV) (u : Value) (hd : ∀ e, d = some e → e < C.n) (hv : d ≠ none → Mono c ⟨c.own, c.used, St⟩ w w' → Rep ⟨c.own, c.used, St⟩ w' v u) : Sim C (s.app d v []) ⟨c.own, c.used, St⟩ (a.put d u) w' := by
 have hm : Mono c ⟨c.own, c.used, St⟩ w w' := ⟨fun β hb => ⟨hst β hb, hE.block β (hS.st β hb).1⟩, fun g hu => hu, fun b' g' o' _ ho' => ho'⟩
 refine ⟨(Act.put_nd a d u).symm ▸ hS.nd.step hm.st, (Act.put_size a d u).trans hS.sz, fr_put hS hm d v u hd (fun h => hv h hm), fun b blk hb => ?_, fun b g o ho => ?_, hS.inj, fun β hb => ?_, fun β hb => hst β (hS.st0 β hb), hS.old.below hE, hS.mo.trans hm⟩
 ·obtain ⟨o, h1, h2⟩ := hS.hp b blk hb
  exact ⟨o, h1, h2.mono hm (fun β hβ => hE.block β ((hS.al b _ o h1).2.2 β hβ).1)⟩
 ·obtain ⟨k1, k2, k4⟩ := hS.al b g o ho
  refine ⟨k1, k2, fun β hβ => ?_⟩
  obtain ⟨q1, q2, q3⟩ := k4 β hβ
  refine ⟨Nat.lt_of_lt_of_le q1 hE.size, fun hs => ?_, q3⟩
  rcases hst' β hs with h | h
  ·exact q2 h
  ·omega
 ·rcases hst' β hb with h | h
  ·exact ⟨Nat.lt_of_lt_of_le (hS.st β h).1 hE.size, (hS.st β h).2⟩
  ·exact ⟨h.2, .inr (.inl (Nat.le_trans hS.old.size h.1))⟩
theorem pick_list {α β : Type} (R : Nat → α → β → Prop) : ∀ (l : List α) (k : Nat), (∀ (j : Nat) (x : α), l[j]? = some x → ∃ u, R (k + j) x u) → ∃ us : List β, us.length = l.length ∧ ∀ (j : Nat) (x : α) (u : β), l[j]? = some x → us[j]? = some u → R (k + j) x u
 | [], k, _ => ⟨[], rfl, fun j x u h => by simp at h⟩
 | x :: l, k, h => by
  obtain ⟨u, hu⟩ := h 0 x rfl
  obtain ⟨us, h1, h2⟩ := pick_list R l (k + 1) (fun j y hy => by
   have := h (j + 1) y (by simpa using hy)
   rwa [show k + (j + 1) = k + 1 + j by omega] at this)
  refine ⟨u :: us, by simp [h1], fun j y v hy hv => ?_⟩
  cases j with
  | zero =>
   simp only [List.getElem?_cons_zero, Option.some.injEq] at hy hv
   subst hy
   subst hv
   exact hu
  | succ j =>
   have := h2 j y v (by simpa using hy) (by simpa using hv)
   rwa [show k + 1 + j = k + (j + 1) by omega] at this
end Go.Proofs.Ytkmlmboclegpcaa
namespace Go.Proofs.Ytkmlmboclegpcaa
open Go Go.RowKit
structure AS.eqv (s s' : AS) : Prop where
 fr : ∀ t, lkA s.fr t = lkA s'.fr t
 hp : ∀ b, lkH s.hp b = lkH s'.hp b
 gc : s.gc = s'.gc
theorem AS.eqv.refl (s : AS) : s.eqv s := ⟨fun _ => rfl, fun _ => rfl, rfl⟩
theorem AS.eqv.symm {s s' : AS} (h : s.eqv s') : s'.eqv s := ⟨fun t => (h.fr t).symm, fun t => (h.hp t).symm, h.gc.symm⟩
theorem AS.eqv.trans {a b c : AS} (h : a.eqv b) (k : b.eqv c) : a.eqv c := ⟨fun t => (h.fr t).trans (k.fr t), fun t => (h.hp t).trans (k.hp t), h.gc.trans k.gc⟩
theorem AS.eqv.ev {s s' : AS} (h : s.eqv s') (x : Operand) : s.ev x = s'.ev x := by
 cases x with
 | tmp t => exact h.fr t
 | _ => rfl
theorem Sim.congr {C : ACtx} {s s' : AS} {c : RC} {a : Act} {w : World} (h : Sim C s c a w) (e1 : ∀ t, lkA s.fr t = lkA s'.fr t) (e2 : ∀ b, lkH s.hp b = lkH s'.hp b) : Sim C s' c a w :=
 ⟨h.nd, h.sz, fun t => e1 t ▸ h.fr t, fun b blk hb => h.hp b blk ((e2 b).trans hb), fun b g o ho => by
  obtain ⟨h1, ⟨blk, h2, h3⟩, h4⟩ := h.al b g o ho
  exact ⟨h1, ⟨blk, (e2 b) ▸ h2, h3⟩, h4⟩, h.inj, h.st, h.st0, h.old, h.mo⟩
theorem lkH_append (u l : List (Nat × Option Blk)) (b : Nat) (h : ∀ p ∈ u, p.1 ≠ b) : lkH (u ++ l) b = lkH l b := by
 induction u with
 | nil => rfl
 | cons p u ih =>
  obtain ⟨k, v⟩ := p
  simp only [List.cons_append, lkH_cons]
  rw [if_neg (fun e => h (k, v) (by simp) e.symm), ih (fun p hp => h p (by simp [hp]))]
theorem lkH_append_congr (u l l' : List (Nat × Option Blk)) (h : ∀ b, lkH l b = lkH l' b) (b : Nat) : lkH (u ++ l) b = lkH (u ++ l') b := by
 induction u with
 | nil => exact h b
 | cons p u ih =>
  obtain ⟨k, v⟩ := p
  simp only [List.cons_append, lkH_cons]
  rw [ih]
theorem lkH_swap (u v l : List (Nat × Option Blk)) (h : ∀ p ∈ u, ∀ q ∈ v, p.1 ≠ q.1) (b : Nat) : lkH (u ++ (v ++ l)) b = lkH (v ++ (u ++ l)) b := by
 by_cases hu : ∀ p ∈ u, p.1 ≠ b
 ·rw [lkH_append u _ b hu]
  exact lkH_append_congr v _ _ (fun b' => rfl) b |>.trans (by
   induction v with
   | nil => simp only [List.nil_append]; exact (lkH_append u l b hu).symm
   | cons q v ih =>
    obtain ⟨k, x⟩ := q
    simp only [List.cons_append, lkH_cons]
    rw [ih (fun p hp q hq => h p hp q (by simp [hq]))])
 ·have hv : ∀ q ∈ v, q.1 ≠ b := by
   intro q hq e
   refine hu (fun p hp e' => h p hp q hq (e'.trans e.symm))
  rw [lkH_append v _ b hv]
  induction u with
  | nil => simp only [List.nil_append]; exact lkH_append v l b hv
  | cons p u ih =>
   obtain ⟨k, x⟩ := p
   simp only [List.cons_append, lkH_cons]
   split
   ·rfl
   ·rename_i hk
    by_cases hu' : ∀ p ∈ u, p.1 ≠ b
    ·rw [lkH_append u _ b hu', lkH_append u _ b hu', lkH_append v _ b hv]
    ·exact ih (fun p hp q hq => h p (by simp [hp]) q hq) hu'
def Does (C : ACtx) (G i : Nat) (o : Oper) (args : List AV) (rd : List (Nat × Blk)) (v : AV) (ups : List (Nat × Option Blk)) : Prop :=
 ∀ (s : AS) (c : RC) (a : Act) (w : World), Sim C s c a w → ¬ c.used (G + i) → o.op.operands.toList.map s.ev = args → (∀ p, p ∈ rd → lkH s.hp p.1 = some p.2) →
  o.wp C.P a w (fun a' w' => ∃ c', Sim C (s.app o.dst v ups) c' a' w' ∧ ∀ g, c'.used g → c.used g ∨ g = G + i) (fun _ _ _ => False)
structure It where
 k : Nat
 o : Oper
 on : Bool
 args : List AV
 rd : List (Nat × Blk)
 v : AV
 ups : List (Nat × Option Blk)
def It.app (it : It) (s : AS) : AS := s.app it.o.dst it.v it.ups
def guardIs (ops : Array Oper) (s : AS) (o : Oper) (on : Bool) : Prop :=
 match o.guard with
 | none => on = true
 | some (j, want) => ∃ oj d, ops[j]? = some oj ∧ oj.dst = some d ∧ ((∃ b, lkA s.fr d = .val (.bool b) ∧ on = (b == want)) ∨ (∃ vs, lkA s.fr d = .val (.tuple vs) ∧ on = false))
def ItOk (C : ACtx) (ops : Array Oper) (s : AS) (it : It) : Prop :=
  guardIs ops s it.o it.on ∧
  (if it.on = true then it.o.op.operands.toList.map s.ev = it.args ∧ (∀ p, p ∈ it.rd → lkH s.hp p.1 = some p.2) ∧ Does C s.gc it.k it.o it.args it.rd it.v it.ups
   else it.v = .val undef ∧ it.ups = [] ∧ it.rd = [])
def Valid (C : ACtx) (ops : Array Oper) : AS → List It → Prop
 | _, [] => True
 | s, it :: l => ItOk C ops s it ∧ Valid C ops (it.app s) l
def final : AS → List It → AS
 | s, [] => s
 | s, it :: l => final (it.app s) l
structure Apart (ops : Array Oper) (x y : It) : Prop where
 ap : x.o.apart ops y.o = true
 uu : ∀ p ∈ x.ups, ∀ q ∈ y.ups, p.1 ≠ q.1
 ur : ∀ p ∈ x.ups, ∀ q ∈ y.rd, p.1 ≠ q.1
 ru : ∀ p ∈ x.rd, ∀ q ∈ y.ups, p.1 ≠ q.1
section
variable {C : ACtx} {ops : Array Oper}
theorem app_eqv {s s' : AS} (h : s.eqv s') (it : It) : (it.app s).eqv (it.app s') :=
 ⟨fun t => by simp only [It.app, AS.app, lk_putFr, h.fr t], fun b => lkH_append_congr _ _ _ h.hp b, h.gc⟩
theorem ev_app {s : AS} {it : It} {x : Operand} (h : ∀ d, it.o.dst = some d → x ≠ .tmp d) : (it.app s).ev x = s.ev x := by
 cases x with
 | tmp t =>
  simp only [It.app, AS.app, AS.ev, evA, lk_putFr]
  rw [if_neg]
  intro e
  exact h t e rfl
 | _ => rfl
theorem guardIs.congr {s s' : AS} {o : Oper} {on : Bool} (h : guardIs ops s o on) (hf : ∀ g want oj d, o.guard = some (g, want) → ops[g]? = some oj → oj.dst = some d → lkA s'.fr d = lkA s.fr d) : guardIs ops s' o on := by
 unfold guardIs at *
 split at h
 ·exact h
 ·rename_i j want hg
  obtain ⟨oj, d, h1, h2, h3⟩ := h
  refine ⟨oj, d, h1, h2, ?_⟩
  rw [hf j want oj d hg h1 h2]
  exact h3
theorem ItOk.congr {s s' : AS} {it : It} (h : ItOk C ops s it) (he : ∀ x ∈ it.o.op.operands, s'.ev x = s.ev x) (hg : ∀ g want oj d, it.o.guard = some (g, want) → ops[g]? = some oj → oj.dst = some d → lkA s'.fr d = lkA s.fr d)
  (hr : ∀ p ∈ it.rd, lkH s'.hp p.1 = lkH s.hp p.1) (hgc : s'.gc = s.gc) : ItOk C ops s' it := by
 obtain ⟨h2, h3⟩ := h
 refine ⟨h2.congr hg, ?_⟩
 split
 ·rename_i hon
  rw [if_pos hon] at h3
  refine ⟨?_, fun p hp => (hr p hp).trans (h3.2.1 p hp), hgc ▸ h3.2.2⟩
  rw [← h3.1]
  exact List.map_congr_left (fun x hx => he x (by simpa using hx))
 ·rename_i hon
  rw [if_neg hon] at h3
  exact h3
theorem ItOk.eqv {s s' : AS} {it : It} (h : ItOk C ops s it) (e : s.eqv s') : ItOk C ops s' it :=
 h.congr (fun x _ => (e.ev x).symm) (fun _ _ _ d _ _ _ => (e.fr d).symm) (fun p _ => (e.hp p.1).symm) e.gc.symm
theorem Valid.eqv : ∀ (l : List It) {s s' : AS}, Valid C ops s l → s.eqv s' → Valid C ops s' l
 | [], _, _, _, _ => trivial
 | it :: l, _, _, h, e => ⟨h.1.eqv e, Valid.eqv l h.2 (app_eqv e it)⟩
theorem final_eqv : ∀ (l : List It) {s s' : AS}, s.eqv s' → (final s l).eqv (final s' l)
 | [], _, _, e => e
 | it :: l, _, _, e => final_eqv l (app_eqv e it)
theorem mem_looks_op {o : Oper} {t : Nat} (h : Operand.tmp t ∈ o.op.operands) : t ∈ o.looksAt ops :=
 List.mem_append_left _ (List.mem_filterMap.2 ⟨.tmp t, by simpa using h, rfl⟩)
theorem mem_looks_guard {o oj : Oper} {g : Nat} {want : Bool} {d : Nat} (hg : o.guard = some (g, want)) (hj : ops[g]? = some oj) (hd : oj.dst = some d) : d ∈ o.looksAt ops := by
 refine List.mem_append_right _ ?_
 simp [hg, hj, hd]
theorem ItOk.back {s : AS} {x y : It} (h : ItOk C ops (x.app s) y) (ha : ∀ d, x.o.dst = some d → d ∉ y.o.looksAt ops) (hu : ∀ p ∈ x.ups, ∀ q ∈ y.rd, p.1 ≠ q.1) : ItOk C ops s y := by
 refine h.congr (fun z hz => (ev_app (fun d hd e => ha d hd (mem_looks_op (by rw [← e]; exact hz)))).symm) (fun g want oj d hg hj hd => ?_) (fun p hp => ?_) rfl
 ·simp only [It.app, AS.app, lk_putFr]
  rw [if_neg (fun e => ha d e (mem_looks_guard hg hj hd))]
 ·simp only [It.app, AS.app]
  exact (lkH_append _ _ _ (fun q hq => hu q hq p hp)).symm
theorem ItOk.fwd {s : AS} {x y : It} (h : ItOk C ops s y) (ha : ∀ d, x.o.dst = some d → d ∉ y.o.looksAt ops) (hu : ∀ p ∈ x.ups, ∀ q ∈ y.rd, p.1 ≠ q.1) : ItOk C ops (x.app s) y := by
 refine h.congr (fun z hz => (ev_app (fun d hd e => ha d hd (mem_looks_op (by rw [← e]; exact hz))))) (fun g want oj d hg hj hd => ?_) (fun p hp => ?_) rfl
 ·simp only [It.app, AS.app, lk_putFr]
  rw [if_neg (fun e => ha d e (mem_looks_guard hg hj hd))]
 ·simp only [It.app, AS.app]
  exact (lkH_append _ _ _ (fun q hq => hu q hq p hp))
theorem app_swap {s : AS} {x y : It} (hd : ∀ d, x.o.dst = some d → y.o.dst ≠ some d) (hu : ∀ p ∈ x.ups, ∀ q ∈ y.ups, p.1 ≠ q.1) : (y.app (x.app s)).eqv (x.app (y.app s)) := by
 refine ⟨fun t => ?_, fun b => ?_, rfl⟩
 ·simp only [It.app, AS.app, lk_putFr]
  by_cases h1 : y.o.dst = some t
  ·rw [if_pos h1, if_neg (fun e => hd t e h1)]
   simp [h1]
  ·rw [if_neg h1]
   try rw [if_neg h1]
 ·simp only [It.app, AS.app]
  exact (lkH_swap _ _ _ hu b).symm
theorem Valid.front : ∀ (l1 : List It) {s : AS} {y : It} {l2 : List It}, Valid C ops s (l1 ++ y :: l2) → (∀ x ∈ l1, Apart ops x y) →
  ItOk C ops s y ∧ Valid C ops (y.app s) (l1 ++ l2) ∧ (final s (l1 ++ y :: l2)).eqv (final (y.app s) (l1 ++ l2))
 | [], _, _, _, h, _ => ⟨h.1, h.2, AS.eqv.refl _⟩
 | x :: l1, s, y, l2, h, ha => by
  obtain ⟨h1, h2⟩ := h
  obtain ⟨k1, k2, k3⟩ := Valid.front l1 h2 (fun z hz => ha z (by simp [hz]))
  have hx := ha x (by simp)
  obtain ⟨e1, e2, e3⟩ := Oper.apart_spec hx.ap
  have hsw := app_swap (s := s) e2 hx.uu
  refine ⟨k1.back e1 hx.ur, ⟨h1.fwd (fun d hd => e3 d hd) (fun p hp q hq => ?_), k2.eqv _ hsw⟩, k3.trans (final_eqv _ hsw)⟩
  exact fun e => hx.ru q hq p hp e.symm
end
inductive Anc (ops : List Oper) : Nat → Nat → Prop where
 | edge {k : Nat} {o : Oper} {e : Edge} (h : ops[k]? = some o) (he : e ∈ o.after.toList) (hb : Region.binds .any e = true) : Anc ops e.on k
 | step {i k : Nat} {o : Oper} {e : Edge} (h : ops[k]? = some o) (he : e ∈ o.after.toList) (hb : Region.binds .any e = true) (hi : Anc ops i e.on) : Anc ops i k
def ancOf (acc : List Nat) (l : List Edge) (s : Nat) : Nat := l.foldl (fun s e => if Region.binds .any e then s ||| (2 ^ e.on ||| acc.getD e.on 0) else s) s
def ancAll : List Oper → List Nat → List Nat
 | [], acc => acc
 | o :: r, acc => ancAll r (acc ++ [ancOf acc o.after.toList 0])
theorem ancOf_spec (acc : List Nat) : ∀ (l : List Edge) (s i : Nat), (ancOf acc l s).testBit i = true → s.testBit i = true ∨ ∃ e ∈ l, Region.binds .any e = true ∧ (e.on = i ∨ (acc.getD e.on 0).testBit i = true)
 | [], s, i, h => .inl h
 | e :: l, s, i, h => by
  have h' : (ancOf acc l (if Region.binds .any e then s ||| (2 ^ e.on ||| acc.getD e.on 0) else s)).testBit i = true := h
  rcases ancOf_spec acc l _ i h' with k | ⟨e', he', k⟩
  ·split at k
   ·rename_i hb
    rw [Nat.testBit_or, Nat.testBit_or, Bool.or_eq_true, Bool.or_eq_true, Nat.testBit_two_pow] at k
    rcases k with k | k | k
    ·exact .inl k
    ·exact .inr ⟨e, by simp, hb, .inl (of_decide_eq_true k)⟩
    ·exact .inr ⟨e, by simp, hb, .inr k⟩
   ·exact .inl k
  ·exact .inr ⟨e', by simp [he'], k⟩
theorem ancAll_spec (ops : List Oper) : ∀ (r : List Oper) (acc : List Nat), (∀ k o, r[k]? = some o → ops[acc.length + k]? = some o) → (∀ k m i, acc[k]? = some m → m.testBit i = true → Anc ops i k) →
  ∀ k m i, (ancAll r acc)[k]? = some m → m.testBit i = true → Anc ops i k
 | [], acc, _, h, k, m, i, hk, hm => h k m i hk hm
 | o :: r, acc, hr, h, k, m, i, hk, hm => by
  refine ancAll_spec ops r (acc ++ [ancOf acc o.after.toList 0]) (fun j o' hj => ?_) (fun j m' i' hj hm' => ?_) k m i hk hm
  ·have := hr (j + 1) o' (by simpa using hj)
   rw [List.length_append, List.length_singleton, Nat.add_assoc, Nat.add_comm 1 j]
   exact this
  ·rcases Nat.lt_trichotomy j acc.length with hlt | heq | hgt
   ·rw [List.getElem?_append_left hlt] at hj
    exact h j m' i' hj hm'
   ·subst heq
    rw [List.getElem?_append_right (Nat.le_refl _), Nat.sub_self] at hj
    simp only [List.getElem?_cons_zero, Option.some.injEq] at hj
    subst hj
    have ho := hr 0 o rfl
    rw [Nat.add_zero] at ho
    rcases ancOf_spec acc _ 0 i' hm' with k' | ⟨e, he, hb, k' | k'⟩
    ·simp at k'
    ·subst k'
     exact .edge ho he hb
    ·refine .step ho he hb ?_
     cases hg : acc[e.on]? with
     | none => rw [List.getD_eq_getElem?_getD, hg] at k'; simp at k'
     | some m'' =>
      rw [List.getD_eq_getElem?_getD, hg] at k'
      exact h _ _ _ hg k'
   ·rw [List.getElem?_eq_none (by simp; omega)] at hj
    cases hj
def disj (a b : List Nat) : Bool := a.all fun x => !b.contains x
theorem disj_spec {a b : List Nat} (h : disj a b = true) : ∀ x ∈ a, ∀ y ∈ b, x ≠ y := by
 intro x hx y hy e
 subst e
 have := List.all_eq_true.1 h x hx
 simp at this
 exact this hy
def pairOk (ops : Array Oper) (anc : Nat) (i : Nat) (oi oj : Oper) (fi fj : List Nat × List Nat) : Bool :=
 anc.testBit i || (oi.apart ops oj && disj fi.2 fj.2 && disj fi.2 fj.1 && disj fi.1 fj.2)
def pairsOk (ops : Array Oper) (ancs : List Nat) : List (Oper × List Nat × List Nat) → Nat → List (Nat × Oper × List Nat × List Nat) → Bool
 | [], _, _ => true
 | (o, f) :: r, j, seen => (seen.all fun p => pairOk ops (ancs.getD j 0) p.1 p.2.1 o p.2.2 f) && pairsOk ops ancs r (j + 1) ((j, o, f) :: seen)
def regOk (l : List Oper) (fps : List (List Nat × List Nat)) : Bool :=
 (l.zipIdx.all fun p => p.1.after.toList.all fun e => !Region.binds .any e || decide (e.on < p.2)) &&
 decide (fps.length = l.length) && pairsOk l.toArray (ancAll l []) (l.zip fps) 0 []
theorem pairsOk_spec (ops : Array Oper) (ancs : List Nat) : ∀ (r : List (Oper × List Nat × List Nat)) (j : Nat) (seen : List (Nat × Oper × List Nat × List Nat)), pairsOk ops ancs r j seen = true →
  (∀ (b : Nat) (o : Oper) (f : List Nat × List Nat), r[b]? = some (o, f) → (∀ p ∈ seen, pairOk ops (ancs.getD (j + b) 0) p.1 p.2.1 o p.2.2 f = true) ∧
   ∀ (a : Nat) (oa : Oper) (fa : List Nat × List Nat), r[a]? = some (oa, fa) → a < b → pairOk ops (ancs.getD (j + b) 0) (j + a) oa o fa f = true)
 | [], _, _, _, b, o, f, hb => by simp at hb
 | (o', f') :: r, j, seen, h, b, o, f, hb => by
  rw [pairsOk, Bool.and_eq_true, List.all_eq_true] at h
  cases b with
  | zero =>
   simp only [List.getElem?_cons_zero, Option.some.injEq, Prod.mk.injEq] at hb
   obtain ⟨rfl, rfl⟩ := hb
   exact ⟨fun p hp => h.1 p hp, fun a oa fa _ ha => absurd ha (by omega)⟩
  | succ b =>
   obtain ⟨h1, h2⟩ := pairsOk_spec ops ancs r (j + 1) ((j, o', f') :: seen) h.2 b o f (by simpa using hb)
   rw [show j + 1 + b = j + (b + 1) by omega] at h1 h2
   refine ⟨fun p hp => h1 p (by simp [hp]), fun a oa fa ha hlt => ?_⟩
   cases a with
   | zero =>
    simp only [List.getElem?_cons_zero, Option.some.injEq, Prod.mk.injEq] at ha
    obtain ⟨rfl, rfl⟩ := ha
    exact h1 (j, o', f') (by simp)
   | succ a =>
    have := h2 a oa fa (by simpa using ha) (by omega)
    rwa [show j + 1 + a = j + (a + 1) by omega] at this
def fenceR (rd : Option Nat) : Fence := { Fence.wide with round := rd }
theorem callsR {rd : Option Nat} {n : Nat} {P : Program} {f : FuncId} {args : Array Value} {w : World} {R : Ending → World → Prop} (h : Calls P f args w R) : CallsIn (fenceR rd) n P f args w R := (callsIn_wide (n := n)).2 h
theorem resolve_not_mark {P : Program} {ρ : Operand → Value} {c : Call} {ty : TypeId} {w w' : World} {d : Deferred} (h : (resolve ρ c ty).run P w = .ok d w') : ∀ D, d.target ≠ .collected D := by
 intro D hD
 unfold resolve at h
 cases hc : c.callee with
 | builtin b => rw [hc] at h; simp at h; rw [← h.1] at hD; cases hD
 | invoke r n => rw [hc] at h; simp at h; rw [← h.1] at hD; cases hD
 | value f =>
  rw [hc] at h
  simp only at h
  unfold Deferred.ofValue at h
  split at h
  all_goals first
   | (simp at h; rw [← h.1] at hD; cases hD; done)
   | (simp [stuck, runtimePanic] at h; done)
   | cases h
theorem oper_in {rd : Option Nat} {P : Program} {o : Oper} {a : Act} {w : World} {next : Act → World → Prop} {Q : Exit → Act → World → Prop} (h : o.wp P a w next (fun _ _ _ => False)) (hn : ∀ a' w', next a' w' → ∀ d, d ∈ a'.defers → ∃ D, d.target = .collected D) : o.wpIn (fenceR rd) 0 P a w next Q := by
  refine ⟨fun _ _ => trivial, ?_⟩
  unfold Oper.wp at h
  have hdef : ∀ c, o.op = .defer c → False := by
    intro c hc
    have : ∃ r, (execOp a.eval o).run P w = r ∧ ∀ x w', r = .ok x w' → ∃ d, x = .defer d ∧ ∀ D, d.target ≠ .collected D := by
      refine ⟨_, rfl, fun x w' hx => ?_⟩
      unfold execOp at hx
      rw [hc] at hx
      simp only [Sem.run_bind] at hx
      cases hr : (resolve a.eval c o.type).run P w with
      | ok d w1 => rw [hr] at hx; simp [Result.andThen] at hx; exact ⟨d, hx.1.symm, resolve_not_mark hr⟩
      | halt e w1 => rw [hr] at hx; simp [Result.andThen] at hx
    obtain ⟨r, hr, hx⟩ := this
    rw [hr] at h
    cases r with
    | ok x w' =>
      obtain ⟨d, rfl, hd⟩ := hx x w' rfl
      obtain ⟨D, hD⟩ := hn _ _ h d (by rw [Act.put_nd]; simp)
      exact hd D hD
    | halt x w' => cases x <;> simp only [Oper.upon] at h
  rw [Oper.semAt_eq _ _ _ (fun c hc => hdef c hc)]
  generalize (execOp a.eval o).run P w = r at h
  cases r with
  | ok x w' =>
    cases x <;> simp only [Oper.upon, Oper.uponIn] at h ⊢ <;> first
      | exact h
      | exact ⟨fun hh => (by cases hh), callsR (Calls.mono h (fun e w'' he => by cases e <;> first | exact he | exact he.elim | (obtain ⟨_, _, q⟩ := he; exact q.elim)))⟩
      | (refine ⟨fun hh => (by cases hh), fun c cs _ => ?_⟩
         obtain ⟨v, w2, hv, hs⟩ := h c cs
         exact ⟨v, w2, hv, stepsIn_wide.2 hs⟩)
  | halt x w' => cases x <;> simp only [Oper.upon, Oper.uponIn] at h ⊢
section
variable {C : ACtx} {ops : Array Oper}
theorem it_step {s : AS} {c : RC} {a : Act} {w : World} {it : It} {i : Nat} {K : Act → World → Prop} {Q : Exit → Act → World → Prop} (hS : Sim C s c a w) (hI : ItOk C ops s it) (hiop : ops[it.k]? = some it.o) (hik : it.k = i)
  (hfresh : ¬ c.used (s.gc + it.k)) (next : ∀ (c' : RC) (a' : Act) (w' : World), Sim C (it.app s) c' a' w' → (∀ g, c'.used g → c.used g ∨ g = s.gc + i) → K a' w') : wpOpIn (fenceR C.rd.1) 0 C.P ops Q i K a w := by
 subst hik
 obtain ⟨hg, hd⟩ := hI
 have hwant : Region.wanted it.o (yielded ops a.tmps) = it.on := by
  unfold Region.wanted
  unfold guardIs at hg
  split at hg
  ·rename_i hgn
   rw [hgn, hg]
  ·rename_i j want hgn
   obtain ⟨oj, d, q1, q2, q3⟩ := hg
   rw [hgn]
   rcases q3.symm with ⟨vs, q4, q5⟩ | ⟨b, q4, q5⟩
   ·have hr := hS.fr d
    rw [q4] at hr
    have hd' : a.tmps[d]? = none ∨ a.tmps[d]? = some (.tuple vs) := by
     rw [Array.getD_eq_getD_getElem?] at hr
     cases hg : a.tmps[d]? with
     | none => exact .inl rfl
     | some u => rw [hg] at hr; cases hr; exact .inr rfl
    have : yielded ops a.tmps j = none := by
     unfold yielded
     rw [q1]
     rcases hd' with h | h <;> simp [q2, h]
    simp only [this, q5]
    rfl
   have hr := hS.fr d
   rw [q4] at hr
   have hd' : a.tmps[d]? = some (.bool b) := by
    rw [Array.getD_eq_getD_getElem?] at hr
    cases hg : a.tmps[d]? with
    | none => rw [hg] at hr; cases hr
    | some u => rw [hg] at hr; cases hr; rfl
   have : yielded ops a.tmps j = some b := by
    unfold yielded
    rw [q1]
    simp [q2, hd']
   simp only [this, q5]
   cases b <;> cases want <;> rfl
 unfold wpOpIn
 rw [hiop]
 simp only
 by_cases hon : it.on = true
 ·rw [if_pos (hwant.trans hon)]
  rw [if_pos hon] at hd
  obtain ⟨d1, d2, d3⟩ := hd
  have hD := d3 s c a w hS hfresh d1 d2
  refine Oper.wpIn_mono (fun a' w' h => ?_) (oper_in hD (fun a' w' ⟨c', hS', _⟩ d hd => by obtain ⟨D, hD, _⟩ := hS'.nd.at_ d hd; exact ⟨D, by rw [hD]⟩))
  obtain ⟨c', q1, q2⟩ := h
  exact next c' a' w' q1 q2
 ·have hoff : it.on = false := by simpa using hon
  rw [if_neg (by rw [hwant, hoff]; simp)]
  rw [if_neg hon] at hd
  obtain ⟨d1, d2, _⟩ := hd
  refine ⟨fun _ _ => trivial, next c _ w ?_ (fun g hg' => .inl hg')⟩
  have := hS.off it.o.dst
  unfold It.app
  rw [d1, d2]
  exact this
theorem reg_seq {s0 : AS} {Q : Exit → Act → World → Prop} {F : AS} (U0 : Nat → Prop) (N : Nat)
  (hQ : ∀ s c a w, Sim C s c a w → s.eqv F → (∀ g, c.used g → U0 g ∨ ∃ k, k < N ∧ g = s0.gc + k) → Q .normal a w) (hU : ∀ k, ¬ U0 (s0.gc + k)) :
  ∀ (its : List It) (k : Nat) (s : AS) (c : RC) (a : Act) (w : World), Sim C s c a w → s.gc = s0.gc → Valid C ops s its → (final s its).eqv F → (∀ j it, its[j]? = some it → it.k = k + j ∧ ops[k + j]? = some it.o) → k + its.length = N →
   (∀ g, c.used g → U0 g ∨ ∃ j, j < k ∧ g = s0.gc + j) → wpOpsIn (fenceR C.rd.1) 0 C.P ops Q (List.range' k its.length) a w
 | [], k, s, c, a, w, hS, _, _, hF, _, hN, hu => hQ s c a w hS hF (fun g hg => (hu g hg).imp id (fun ⟨j, hj, e⟩ => ⟨j, by simp at hN; omega, e⟩))
 | it :: its, k, s, c, a, w, hS, hgc, hV, hF, hk, hN, hu => by
  have h0 : it.k = k := (hk 0 it rfl).1
  have h0' : ops[it.k]? = some it.o := by rw [h0]; exact (hk 0 it rfl).2
  simp only [List.length_cons, List.range'_succ]
  rw [wpOpsIn_cons]
  refine it_step hS hV.1 h0' h0 ?_ (fun c' a' w' hS' hu' => ?_)
  ·intro hg'
   rcases hu _ hg' with h | ⟨j, hj, e⟩
   ·rw [hgc] at h; exact hU _ h
   ·omega
  ·refine reg_seq U0 N hQ hU its (k + 1) (it.app s) c' a' w' hS' hgc hV.2 hF (fun j it' hj => ?_) (by simp only [List.length_cons] at hN; omega) (fun g hg => ?_)
   ·have := hk (j + 1) it' (by simpa using hj)
    rw [show k + (j + 1) = k + 1 + j by omega] at this
    exact this
   ·rcases hu' g hg with h | h
    ·exact (hu g h).imp id (fun ⟨j, hj, e⟩ => ⟨j, by omega, e⟩)
    ·exact .inr ⟨k, by omega, by rw [h, hgc]⟩
end
section
variable {C : ACtx} {l : List Oper}
theorem anc_listed {listed : Array Bool} (hC : ∀ (j : Nat) (o : Oper), l[j]? = some o → listed.getD j false = true → ∀ e ∈ o.after, Region.binds .any e = true → listed.getD e.on false = true) {i k : Nat} (h : Anc l i k) :
  ∀ o, l[k]? = some o → (∀ e ∈ o.after, Region.binds .any e = true → listed.getD e.on false = true) → (∀ j, listed.getD j false = true → ∃ o, l[j]? = some o) → listed.getD i false = true := by
 induction h with
 | @edge k o e ho he hb =>
  intro o' ho' hl _
  rw [ho] at ho'
  obtain rfl := Option.some.inj ho'
  exact hl e (by simpa using he) hb
 | @step i k o e ho he hb _ ih =>
  intro o' ho' hl hex
  rw [ho] at ho'
  obtain rfl := Option.some.inj ho'
  have h1 := hl e (by simpa using he) hb
  obtain ⟨oe, hoe⟩ := hex e.on h1
  exact ih oe hoe (hC e.on oe hoe h1) hex
theorem getD_true_of' {b : Array Bool} {i : Nat} (hi : i < b.size) (h : b.getD i false = false) : b.getD i true = false := by
 simp only [Array.getD_eq_getD_getElem?, Array.getElem?_eq_getElem hi, Option.getD_some] at h ⊢
 exact h
theorem getD_false_of' {b : Array Bool} {i : Nat} (h : b.getD i true = false) : b.getD i false = false ∧ i < b.size := by
 simp only [Array.getD_eq_getD_getElem?] at h ⊢
 cases hb : b[i]? with
 | none => rw [hb] at h; simp at h
 | some x =>
  rw [hb] at h
  simp only [Option.getD_some] at h
  subst h
  exact ⟨rfl, (Array.getElem?_eq_some_iff.1 hb).1⟩
theorem getD_set (b : Array Bool) (i j : Nat) (hi : i < b.size) : (b.setIfInBounds i true).getD j false = (decide (j = i) || b.getD j false) := by
 simp only [Array.getD_eq_getD_getElem?, Array.getElem?_setIfInBounds]
 by_cases h : i = j
 ·subst h
  simp [hi]
 ·rw [if_neg h]
  have : (decide (j = i)) = false := by simpa using fun e => h e.symm
  rw [this, Bool.false_or]
theorem reg_any (hlt : ∀ (k : Nat) (o : Oper), l[k]? = some o → ∀ e ∈ o.after, Region.binds .any e = true → e.on < k) {s0 : AS} {Q : Exit → Act → World → Prop} {F : AS} (U0 : Nat → Prop)
  (hQ : ∀ s c a w, Sim C s c a w → s.eqv F → (∀ g, c.used g → U0 g ∨ ∃ k, k < l.length ∧ g = s0.gc + k) → Q .normal a w) (hU : ∀ k, ¬ U0 (s0.gc + k)) :
  ∀ (fuel : Nat) (listed : Array Bool) (s : AS) (c : RC) (a : Act) (w : World) (its : List It), its.length = fuel → listed.size = l.length → Sim C s c a w → s.gc = s0.gc →
   Valid C l.toArray s its → (final s its).eqv F → (∀ g, c.used g → U0 g ∨ ∃ k, listed.getD k false = true ∧ g = s0.gc + k) →
   (∀ it ∈ its, l.toArray[it.k]? = some it.o) → (∀ it ∈ its, listed.getD it.k false = false ∧ it.k < l.length) → (∀ k, k < l.length → listed.getD k false = false → ∃ it ∈ its, it.k = k) →
   its.Pairwise (fun x y => x.k < y.k ∧ (Anc l x.k y.k ∨ Apart l.toArray x y)) →
   (∀ (j : Nat) (o : Oper), l[j]? = some o → listed.getD j false = true → ∀ e ∈ o.after, Region.binds .any e = true → listed.getD e.on false = true) →
   wpAnyIn (fenceR C.rd.1) 0 C.P .any l.toArray Q fuel listed a w := by
 intro fuel
 have noReady : ∀ (listed : Array Bool) (its : List It), listed.size = l.length → (∀ it ∈ its, listed.getD it.k false = false ∧ it.k < l.length) → (∀ k, k < l.length → listed.getD k false = false → ∃ it ∈ its, it.k = k) →
   its.Pairwise (fun x y => x.k < y.k ∧ (Anc l x.k y.k ∨ Apart l.toArray x y)) → Region.ready .any l.toArray listed = [] → its = [] := by
  intro listed its hls h1 h2 h3 hr
  cases its with
  | nil => rfl
  | cons it its =>
   exfalso
   obtain ⟨k1, k2⟩ := h1 it (by simp)
   have hmem : it.k ∈ Region.ready .any l.toArray listed := by
    unfold Region.ready
    rw [List.mem_filter]
    refine ⟨List.mem_range.2 (by simpa using k2), ?_⟩
    rw [getD_true_of' (by omega) k1]
    have ho : l[it.k]? = some l[it.k] := List.getElem?_eq_getElem k2
    simp only [List.getElem?_toArray, ho, Option.map_some, Option.getD_some, Bool.not_false, Bool.true_and]
    rw [Array.all_eq_true']
    intro e he
    by_cases hb : Region.binds .any e = true
    ·rw [hb, Bool.not_true, Bool.false_or]
     have hlt' := hlt _ _ ho e he hb
     cases hg : listed.getD e.on false with
     | true => rfl
     | false =>
      exfalso
      obtain ⟨jt, hj, hjk⟩ := h2 e.on (by omega) hg
      rcases List.mem_cons.1 hj with rfl | hj
      ·omega
      ·have := (List.pairwise_cons.1 h3).1 jt hj
       omega
    ·simp [hb]
   rw [hr] at hmem
   cases hmem
 induction fuel with
 | zero =>
  intro listed s c a w its hf hls hS hgc hV hF hu hops h1 h2 h3 hC
  have hn : its = [] := List.eq_nil_of_length_eq_zero hf
  subst hn
  refine ⟨?_, hQ s c a w hS hF (fun g hg => (hu g hg).imp id (fun ⟨k, hk, e⟩ => ⟨k, ?_, e⟩))⟩
  ·unfold Region.ready
   rw [List.filter_eq_nil_iff]
   intro k hk
   rw [List.mem_range] at hk
   have hk' : k < l.length := by simpa using hk
   cases hg : listed.getD k false with
   | false => obtain ⟨it, hit, _⟩ := h2 k hk' hg; cases hit
   | true =>
    have : listed.getD k true = true := by
     simp only [Array.getD_eq_getD_getElem?] at hg ⊢
     cases hb : listed[k]? with
     | none => rfl
     | some b => rw [hb] at hg; simpa using hg
    simp [this]
  ·rcases Nat.lt_or_ge k listed.size with h | h
   ·omega
   ·simp [Array.getD_eq_getD_getElem?, Array.getElem?_eq_none h] at hk
 | succ fuel ih =>
  intro listed s c a w its hf hls hS hgc hV hF hu hops h1 h2 h3 hC
  refine ⟨fun hr => ?_, fun i hi => ?_⟩
  ·have := noReady listed its hls h1 h2 h3 hr
   subst this
   cases hf
  ·unfold Region.ready at hi
   rw [List.mem_filter, List.mem_range, Bool.and_eq_true] at hi
   obtain ⟨hi1, hi2, hi3⟩ := hi
   have hil : i < l.length := by simpa using hi1
   have hlf := getD_false_of' (b := listed) (i := i) (by simpa using hi2)
   obtain ⟨it, hit, hik⟩ := h2 i hil hlf.1
   obtain ⟨l1, l2, rfl⟩ := List.append_of_mem hit
   have ho : l[i]? = some l[i] := List.getElem?_eq_getElem hil
   have hedges : ∀ e ∈ l[i].after, Region.binds .any e = true → listed.getD e.on false = true := by
    intro e he hb
    simp only [List.getElem?_toArray, ho, Option.map_some, Option.getD_some] at hi3
    have := Array.all_eq_true'.1 hi3 e he
    simpa [hb] using this
   have hex : ∀ j, listed.getD j false = true → ∃ o, l[j]? = some o := by
    intro j hj
    rcases Nat.lt_or_ge j listed.size with h | h
    ·exact ⟨l[j]'(by omega), List.getElem?_eq_getElem (by omega)⟩
    ·simp [Array.getD_eq_getD_getElem?, Array.getElem?_eq_none h] at hj
   have hap : ∀ x ∈ l1, Apart l.toArray x it := by
    intro x hx
    have hp := (List.pairwise_append.1 h3).2.2 x hx it (by simp)
    rcases hp.2 with hA | hA
    ·rw [hik] at hA
     have := anc_listed hC hA _ ho hedges hex
     have hxl := (h1 x (by simp [hx])).1
     rw [hxl] at this
     cases this
    ·exact hA
   obtain ⟨k1, k2, k3⟩ := Valid.front l1 hV hap
   have hiop : l.toArray[i]? = some it.o := by
    rw [← hik]; exact hops it hit
   have hio : it.o = l[i] := by
    have : l[i]? = some it.o := by simpa using hiop
    rw [ho] at this
    exact (Option.some.inj this).symm
   -- the rest, behind this one
   have next : ∀ (c' : RC) (a' : Act) (w' : World), Sim C (it.app s) c' a' w' → (∀ g, c'.used g → c.used g ∨ g = s.gc + i) → wpAnyIn (fenceR C.rd.1) 0 C.P .any l.toArray Q fuel (listed.setIfInBounds i true) a' w' := by
    intro c' a' w' hS' hu'
    refine ih (listed.setIfInBounds i true) (it.app s) c' a' w' (l1 ++ l2) (by simp at hf ⊢; omega) (by simpa using hls) hS' hgc k2 (k3.symm.trans hF) ?_ (fun x hx => hops x (by rcases List.mem_append.1 hx with h | h <;> simp [h])) ?_ ?_ ?_ ?_
    ·intro g hg
     rcases hu' g hg with h | h
     ·rcases hu g h with h' | ⟨k, hk, e⟩
      ·exact .inl h'
      ·exact .inr ⟨k, by rw [getD_set _ _ _ hlf.2, hk, Bool.or_true], e⟩
     ·exact .inr ⟨i, by rw [getD_set _ _ _ hlf.2]; simp, by rw [h, hgc]⟩
    ·intro x hx
     have hx' : x ∈ l1 ++ it :: l2 := by
      rcases List.mem_append.1 hx with h | h <;> simp [h]
     obtain ⟨q1, q2⟩ := h1 x hx'
     refine ⟨?_, q2⟩
     rw [getD_set _ _ _ hlf.2, q1, Bool.or_false]
     rw [decide_eq_false_iff_not]
     intro e
     rcases List.mem_append.1 hx with h | h
     ·have := (List.pairwise_append.1 h3).2.2 x h it (by simp)
      omega
     ·have := (List.pairwise_cons.1 (List.pairwise_append.1 h3).2.1).1 x h
      omega
    ·intro k hk hkl
     rw [getD_set _ _ _ hlf.2, Bool.or_eq_false_iff] at hkl
     obtain ⟨x, hx, hxk⟩ := h2 k hk hkl.2
     refine ⟨x, ?_, hxk⟩
     rcases List.mem_append.1 hx with h | h
     ·simp [h]
     ·rcases List.mem_cons.1 h with rfl | h
      ·exact absurd (by omega) (of_decide_eq_false hkl.1)
      ·simp [h]
    ·rw [List.pairwise_append] at h3 ⊢
     refine ⟨h3.1, (List.pairwise_cons.1 h3.2.1).2, fun x hx y hy => h3.2.2 x hx y (by simp [hy])⟩
    ·intro j o hj hjl e he hb
     rw [getD_set _ _ _ hlf.2] at hjl ⊢
     by_cases hji : j = i
     ·subst hji
      rw [ho] at hj
      obtain rfl := Option.some.inj hj
      rw [hedges e he hb, Bool.or_true]
     ·have : decide (j = i) = false := by simpa using hji
      rw [this, Bool.false_or] at hjl
      rw [hC j o hj hjl e he hb, Bool.or_true]
   exact it_step hS k1 (by rw [← hik] at hiop; exact hiop) hik
    (by
     intro hg'
     rcases hu _ hg' with h | ⟨k, hk, e⟩
     ·rw [hgc] at h; exact hU _ h
     ·have : k = i := by omega
      subst this
      rw [hlf.1] at hk
      cases hk) next
end
end Go.Proofs.Ytkmlmboclegpcaa
namespace Go.Proofs.Ytkmlmboclegpcaa
open Go Go.RowKit
def SimE (C : ACtx) (s : AS) (a : Act) (w : World) : Prop := ∃ c, Sim C s c a w ∧ ∀ g, c.used g → g < s.gc
def awp (C : ACtx) (c : Code) (s : AS) (Q : Exit → AS → Prop) : Prop :=
 ∀ (a : Act) (w : World), SimE C s a w → c.wpIn (fenceR C.rd.1) 0 C.P (fun e a' w' => ∃ s', SimE C s' a' w' ∧ Q e s') a w
theorem wp_loop_ex {rd : Option Nat} {P : Program} {Q : Exit → Act → World → Prop} {a : Act} {w : World} {c : Code} {T : Type} {t : T} (I : T → Act → World → Prop) (μ : T → Nat) (h₀ : I t a w)
  (round : ∀ t a w, I t a w → c.wpIn (fenceR rd) 0 P (Exit.then (fun a' w' => ∃ t', I t' a' w' ∧ μ t' < μ t) Q) a w) : (Code.loop c).wpIn (fenceR rd) 0 P Q a w := by
 intro b k cs hro hb hr
 have key : ∀ n t a w, μ t = n → I t a w →
   ∃ e a' w', Q e a' w' ∧ ArrivesIn (Machine.fenced P (fenceR rd)) P (lone (b.atR a (.code c :: .inLoop c :: k)) cs w) b k cs e a' w' := by
  intro n
  induction n using Nat.strongRecOn with
  | _ n ih =>
   intro t a w hn hI
   obtain ⟨e, a₁, w₁, hq, harr⟩ := round t a w hI b (.inLoop c :: k) cs hro hb hr
   cases e with
   | normal =>
    obtain ⟨t₁, hI₁, hlt⟩ := hq
    obtain ⟨e₂, a₂, w₂, hq₂, harr₂⟩ := ih (μ t₁) (hn ▸ hlt) t₁ a₁ w₁ rfl hI₁
    exact ⟨e₂, a₂, w₂, hq₂, .of_steps (StepsIn.trans harr (.one (fenced_calm hb hr rfl) stepR_inLoop)) harr₂⟩
   | exit id => exact ⟨_, a₁, w₁, hq, .pass (x := .inLoop c) rfl (fun _ _ => .inl (by simp)) harr⟩
   | goto l => exact ⟨_, a₁, w₁, hq, .pass (x := .inLoop c) rfl (fun _ _ => .inl (by simp)) harr⟩
   | ret => exact ⟨_, a₁, w₁, hq, .pass (x := .inLoop c) rfl (fun _ _ => .inl (by simp)) harr⟩
   | panic ch => exact ⟨_, a₁, w₁, hq, .pass (x := .inLoop c) rfl (fun _ _ => .inl (by simp)) harr⟩
   | outgrown => exact ⟨_, a₁, w₁, hq, .pass (x := .inLoop c) rfl (fun _ _ => .inl (by simp)) harr⟩
 obtain ⟨e, a', w', hq, harr⟩ := key _ t a w rfl h₀
 exact ⟨e, a', w', hq, .of_steps (.one (fenced_calm hb hr rfl) stepR_loop) harr⟩
section
variable {C : ACtx} {s : AS} {Q : Exit → AS → Prop}
theorem awp_mono {c : Code} {Q' : Exit → AS → Prop} (h : awp C c s Q) (hq : ∀ e s, Q e s → Q' e s) : awp C c s Q' :=
 fun a w hs => wpIn_mono (h a w hs) (fun e a' w' ⟨s', h1, h2⟩ => ⟨s', h1, hq e s' h2⟩)
theorem awp_skip (h : Q .normal s) : awp C .skip s Q := fun _ _ hs => wpIn_skip ⟨s, hs, h⟩
theorem awp_exit {id : Nat} (h : Q (.exit id) s) : awp C (.exit id) s Q := fun _ _ hs => wpIn_exit ⟨s, hs, h⟩
theorem awp_ret (h : Q .ret s) : awp C .ret s Q := fun _ _ hs => wpIn_ret ⟨s, hs, h⟩
def thenA (next : AS → Prop) (Q : Exit → AS → Prop) : Exit → AS → Prop
 | .normal, s => next s
 | e, s => Q e s
theorem awp_seq {x y : Code} (h : awp C x s (thenA (fun s' => awp C y s' Q) Q)) : awp C (.seq x y) s Q := fun a w hs =>
 wpIn_seq (wpIn_mono (h a w hs) (fun e a' w' ⟨s', h1, h2⟩ => by
  cases e <;> first
   | exact h2 a' w' h1
   | exact ⟨s', h1, h2⟩))
def blockA (id : Nat) (Q : Exit → AS → Prop) : Exit → AS → Prop
 | .exit id', s => if id' = id then Q .normal s else Q (.exit id') s
 | e, s => Q e s
theorem awp_block {id : Nat} {c : Code} (h : awp C c s (blockA id Q)) : awp C (.block id c) s Q := fun a w hs =>
 wpIn_block (wpIn_mono (h a w hs) (fun e a' w' ⟨s', h1, h2⟩ => by
  cases e with
  | exit id' =>
   simp only [Exit.inBlock, blockA] at h2 ⊢
   split
   ·rename_i hid; rw [if_pos hid] at h2; exact ⟨s', h1, h2⟩
   ·rename_i hid; rw [if_neg hid] at h2; exact ⟨s', h1, h2⟩
  | _ => exact ⟨s', h1, h2⟩))
theorem awp_cond {x : Operand} {c d : Code} {b : Bool} (hv : s.ev x = .val (.bool b)) (ht : b = true → awp C c s Q) (hf : b = false → awp C d s Q) : awp C (.cond x c d) s Q := by
 intro a w hs
 have he : a.eval x = .bool b := by
  obtain ⟨c', hS, _⟩ := hs
  have := hS.ev x
  rw [hv] at this
  generalize a.eval x = u at this
  cases this
  rfl
 exact wpIn_cond_split he (fun e => ht e a w hs) (fun e => hf e a w hs)
theorem awp_weaken {c : Code} {s' : AS} (h : ∀ a w, SimE C s a w → SimE C s' a w) (k : awp C c s' Q) : awp C c s Q := fun a w hs => k a w (h a w hs)
end
def ARun (C : ACtx) (ops : Array Oper) (K : AS → List (List Nat × List Nat) → Prop) : Nat → List Oper → AS → List (List Nat × List Nat) → Prop
 | _, [], s, fps => K s fps
 | k, o :: rest, s, fps => ∃ it : It, it.k = k ∧ it.o = o ∧ ItOk C ops s it ∧ ARun C ops K (k + 1) rest (it.app s) (fps ++ [(it.rd.map (·.1), it.ups.map (·.1))])
def AS.bump (s : AS) (n : Nat) : AS := ⟨s.fr, s.hp, s.gc + n⟩
def It.fp (it : It) : List Nat × List Nat := (it.rd.map (·.1), it.ups.map (·.1))
theorem ARun.spec {C : ACtx} {ops : Array Oper} {K : AS → List (List Nat × List Nat) → Prop} : ∀ (l : List Oper) (k : Nat) (s : AS) (fps : List (List Nat × List Nat)), ARun C ops K k l s fps →
  ∃ its : List It, its.length = l.length ∧ Valid C ops s its ∧ (∀ j it, its[j]? = some it → it.k = k + j ∧ l[j]? = some it.o) ∧ K (final s its) (fps ++ its.map It.fp)
 | [], k, s, fps, h => ⟨[], rfl, trivial, by simp, by rw [List.map_nil, List.append_nil]; exact h⟩
 | o :: l, k, s, fps, h => by
  obtain ⟨it, h1, h2, h3, h4⟩ := h
  obtain ⟨its, g1, g2, g3, g4⟩ := ARun.spec l (k + 1) _ _ h4
  refine ⟨it :: its, by simp [g1], ⟨h3, g2⟩, fun j jt hj => ?_, ?_⟩
  ·cases j with
   | zero =>
    simp only [List.getElem?_cons_zero, Option.some.injEq] at hj
    subst hj
    exact ⟨h1, by simp [h2]⟩
   | succ j =>
    have := g3 j jt (by simpa using hj)
    exact ⟨by omega, by simpa using this.2⟩
  ·rw [List.append_assoc] at g4
   exact g4
theorem final_gc : ∀ (its : List It) (s : AS), (final s its).gc = s.gc
 | [], _ => rfl
 | it :: its, s => final_gc its (it.app s)
def regK (draw : Bool) (l : List Oper) (Q : Exit → AS → Prop) : AS → List (List Nat × List Nat) → Prop := fun s fps => (draw = true → regOk l fps = true) ∧ ∃ s' : AS, s.eqv s' ∧ Q .normal (s'.bump l.length)
theorem awp_region {C : ACtx} {s : AS} {Q : Exit → AS → Prop} {id : Nat} {l : List Oper} {draw : Bool} (hm : draw = true → C.P.follows .mixedOrders = true)
  (h : ARun C l.toArray (regK draw l Q) 0 l s []) : awp C (.region id l.toArray draw) s Q := by
 intro a w ⟨c, hS, hu⟩
 obtain ⟨its, h1, h2, h3, h4⟩ := ARun.spec l 0 s [] h
 rw [List.nil_append] at h4
 obtain ⟨h4a, sF, heF, h4b⟩ := h4
 have hQ : ∀ s' c a w, Sim C s' c a w → s'.eqv (final s its) → (∀ g, c.used g → g < s.gc ∨ ∃ k, k < l.length ∧ g = s.gc + k) → ∃ s'', SimE C s'' a w ∧ Q .normal s'' := by
  intro s' c' a' w' hS' he hu'
  refine ⟨_, ⟨c', hS'.congr (s' := sF.bump l.length) (he.trans heF).fr (he.trans heF).hp, fun g hg => ?_⟩, h4b⟩
  have := hu' g hg
  show g < sF.gc + l.length
  rw [← heF.gc, final_gc]
  rcases this with h | ⟨k, hk, e⟩ <;> omega
 cases draw with
 | false =>
  refine wpIn_region ?_
  rw [List.range_eq_range', show l.toArray.size = its.length by simp [h1]]
  exact reg_seq (Q := fun e a' w' => ∃ s', SimE C s' a' w' ∧ Q e s') (s0 := s) (F := final s its) (fun g => g < s.gc) l.length hQ (fun k => by omega) its 0 s c a w hS rfl h2 (AS.eqv.refl _) (fun j it hj => ⟨by simpa using (h3 j it hj).1, by rw [Nat.zero_add]; simpa using (h3 j it hj).2⟩) (by omega) (fun g hg => .inl (hu g hg))
 | true =>
  have hr := h4a rfl
  unfold regOk at hr
  rw [Bool.and_eq_true, Bool.and_eq_true] at hr
  obtain ⟨⟨hr1, hr2⟩, hr3⟩ := hr
  refine wpIn_region_any (hm rfl) ?_
  have hlt : ∀ (k : Nat) (o : Oper), l[k]? = some o → ∀ e ∈ o.after, Region.binds .any e = true → e.on < k := by
   intro k o ho e he hb
   have := List.all_eq_true.1 hr1 (o, k) (by rw [List.mem_zipIdx_iff_getElem?]; exact ho)
   have := List.all_eq_true.1 this e (by simpa using he)
   simpa [hb] using this
  have hget : ∀ j, j < l.length → (Array.replicate l.length false).getD j false = false := by
   intro j hj
   simp [Array.getD_eq_getD_getElem?, hj]
  have hS' : Sim C s c a { w with drawn := w.drawn + 1 } := hS.drew
  have := reg_any (l := l) (Q := fun e a' w' => ∃ s', SimE C s' a' w' ∧ Q e s') hlt (s0 := s) (F := final s its) (fun g => g < s.gc) hQ (fun k => by omega) its.length (Array.replicate l.length false) s c a { w with drawn := w.drawn + 1 } its rfl (by simp) hS' rfl h2 (AS.eqv.refl _) (fun g hg => .inl (hu g hg))
   (fun it hit => by
    obtain ⟨j, hj⟩ := List.getElem?_of_mem hit
    have h5 := h3 j it hj
    rw [h5.1, Nat.zero_add]
    simpa using h5.2)
   (fun it hit => by
    obtain ⟨j, hj⟩ := List.getElem?_of_mem hit
    have h5 := h3 j it hj
    have hjl : j < its.length := (List.getElem?_eq_some_iff.1 hj).1
    rw [Nat.zero_add] at h5
    exact ⟨hget _ (by omega), by omega⟩)
   (fun k hk _ => by
    refine ⟨its[k]'(by omega), List.getElem_mem _, ?_⟩
    have := (h3 k _ (List.getElem?_eq_getElem (by omega))).1
    omega)
   (by
    rw [List.pairwise_iff_getElem]
    intro i j hi hj hij
    have hi' := h3 i _ (List.getElem?_eq_getElem hi)
    have hj' := h3 j _ (List.getElem?_eq_getElem hj)
    rw [Nat.zero_add] at hi' hj'
    refine ⟨by omega, ?_⟩
    have hzi : (l.zip (its.map It.fp))[i]? = some (its[i].o, its[i].fp) := by
     rw [List.getElem?_zip_eq_some]
     exact ⟨hi'.2, by simp [hi]⟩
    have hzj : (l.zip (its.map It.fp))[j]? = some (its[j].o, its[j].fp) := by
     rw [List.getElem?_zip_eq_some]
     exact ⟨hj'.2, by simp [hj]⟩
    have hp := (pairsOk_spec l.toArray (ancAll l []) (l.zip (its.map It.fp)) 0 [] hr3 j _ _ hzj).2 i _ _ hzi hij
    rw [Nat.zero_add, Nat.zero_add] at hp
    unfold pairOk at hp
    rw [Bool.or_eq_true] at hp
    rcases hp with hp | hp
    ·left
     rw [hi'.1, hj'.1]
     cases hg : (ancAll l [])[j]? with
     | none => rw [List.getD_eq_getElem?_getD, hg] at hp; simp at hp
     | some m =>
      rw [List.getD_eq_getElem?_getD, hg] at hp
      exact ancAll_spec l l [] (fun k o hk => by simpa using hk) (fun k m i hk => by simp at hk) j m i hg hp
    ·right
     rw [Bool.and_eq_true, Bool.and_eq_true, Bool.and_eq_true] at hp
     obtain ⟨⟨⟨p1, p2⟩, p3⟩, p4⟩ := hp
     have f2 := disj_spec p2
     have f3 := disj_spec p3
     have f4 := disj_spec p4
     exact ⟨p1, fun p hp q hq => f2 _ (List.mem_map_of_mem hp) _ (List.mem_map_of_mem hq), fun p hp q hq => f3 _ (List.mem_map_of_mem hp) _ (List.mem_map_of_mem hq), fun p hp q hq => f4 _ (List.mem_map_of_mem hp) _ (List.mem_map_of_mem hq)⟩)
   (fun j o hj hjl => by
    have := hget j (List.getElem?_eq_some_iff.1 hj).1
    rw [this] at hjl
    cases hjl)
  rw [show l.toArray.size = its.length by simp [h1]]
  simpa [h1] using this
theorem ARun.eqv {C : ACtx} {ops : Array Oper} {draw : Bool} {l0 : List Oper} {Q : Exit → AS → Prop} : ∀ (l : List Oper) {k : Nat} {s s' : AS} {fps : List (List Nat × List Nat)}, ARun C ops (regK draw l0 Q) k l s fps → s.eqv s' → ARun C ops (regK draw l0 Q) k l s' fps
 | [], _, _, _, _, ⟨h1, sF, h2, h3⟩, e => ⟨h1, sF, e.symm.trans h2, h3⟩
 | o :: l, k, s, s', fps, ⟨it, h1, h2, h3, h4⟩, e => ⟨it, h1, h2, h3.eqv e, ARun.eqv l h4 (app_eqv e it)⟩
def FrLe (l : List (Nat × AV)) : List (Nat × AV) → Prop
 | [] => True
 | (t, v) :: r => lkA l t = v ∧ FrLe l r
def HpLe (l : List (Nat × Option Blk)) : List (Nat × Option Blk) → Prop
 | [] => True
 | (t, v) :: r => lkH l t = v ∧ HpLe l r
theorem FrLe.spec {l : List (Nat × AV)} : ∀ {l' : List (Nat × AV)}, FrLe l l' → ∀ t, lkA l' t = lkA l t ∨ lkA l' t = .dead
 | [], _, _ => .inr rfl
 | (k, v) :: r, h, t => by
  rw [lkA_cons]
  split
  ·rename_i e
   subst e
   exact .inl h.1.symm
  ·exact FrLe.spec h.2 t
theorem HpLe.spec {l : List (Nat × Option Blk)} : ∀ {l' : List (Nat × Option Blk)}, HpLe l l' → ∀ t, lkH l' t = lkH l t ∨ lkH l' t = none
 | [], _, _ => .inr rfl
 | (k, v) :: r, h, t => by
  rw [lkH_cons]
  split
  ·rename_i e
   subst e
   exact .inl h.1.symm
  ·exact HpLe.spec h.2 t
theorem SimE.le {C : ACtx} {s s' : AS} {a : Act} {w : World} (h : SimE C s a w) (h1 : FrLe s.fr s'.fr) (h2 : HpLe s.hp s'.hp) (h3 : s.gc ≤ s'.gc) : SimE C s' a w := by
 classical
 obtain ⟨c, hS, hu⟩ := h
 let c' : RC := ⟨fun b g => if lkH s'.hp b = none then none else c.own b g, c.used, c.st⟩
 have hm : Mono c c' w w := ⟨fun β hb => ⟨hb, rfl⟩, fun g hg => hg, fun b g o _ ho => by
  simp only [c'] at ho
  split at ho
  ·cases ho
  ·exact ho⟩
 refine ⟨c', ⟨hS.nd.step (fun _ hb => ⟨hb, rfl⟩), hS.sz, fun t => ?_, fun b blk hb => ?_, fun b g o ho => ?_, fun b g o b' g' o' β h h' => ?_, hS.st, hS.st0, hS.old, hS.mo.trans hm⟩, fun g hg => Nat.lt_of_lt_of_le (hu g hg) h3⟩
 ·rcases h1.spec t with e | e
  ·rw [e]; exact (hS.fr t).mono hm
  ·rw [e]; exact .dead _
 ·have e : lkH s'.hp b = lkH s.hp b := by
   rcases h2.spec b with e | e
   ·exact e
   ·rw [e] at hb; cases hb
  obtain ⟨o, q1, q2⟩ := hS.hp b blk (e ▸ hb)
  refine ⟨o, ?_, q2.mono hm (fun _ _ => rfl)⟩
  simp only [c']
  rw [if_neg (by rw [hb]; simp)]
  exact q1
 ·simp only [c'] at ho
  split at ho
  ·cases ho
  ·rename_i hne
   have e : lkH s'.hp b = lkH s.hp b := by
    rcases h2.spec b with e | e
    ·exact e
    ·exact absurd e hne
   obtain ⟨q1, ⟨blk, q2, q3⟩, q4⟩ := hS.al b g o ho
   exact ⟨q1, ⟨blk, e.trans q2, q3⟩, q4⟩
 ·simp only [c'] at h h'
  split at h
  ·cases h
  ·split at h'
   ·cases h'
   ·exact hS.inj b g o b' g' o' β h h'
theorem awp_loopT {C : ACtx} {s : AS} {Q : Exit → AS → Prop} {c : Code} {T : Type} (S : T → AS) (I : T → Prop) (μ : T → Nat) (t0 : T) (h0 : I t0) (hs : FrLe s.fr (S t0).fr ∧ HpLe s.hp (S t0).hp ∧ s.gc ≤ (S t0).gc)
  (round : ∀ t, I t → awp C c (S t) (thenA (fun s' => ∃ t', (FrLe s'.fr (S t').fr ∧ HpLe s'.hp (S t').hp ∧ s'.gc ≤ (S t').gc) ∧ I t' ∧ μ t' < μ t) Q)) : awp C (.loop c) s Q := by
 intro a w hsim
 refine wp_loop_ex (I := fun (t : T) a w => SimE C (S t) a w ∧ I t) μ (t := t0) ⟨hsim.le hs.1 hs.2.1 hs.2.2, h0⟩ (fun t a w ht => ?_)
 refine wpIn_mono (round t ht.2 a w ht.1) (fun e a' w' ⟨s', h1, h2⟩ => ?_)
 cases e with
 | normal =>
  obtain ⟨t', k1, k2, k3⟩ := h2
  exact ⟨t', ⟨h1.le k1.1 k1.2.1 k1.2.2, k2⟩, k3⟩
 | _ => exact ⟨s', h1, h2⟩
end Go.Proofs.Ytkmlmboclegpcaa
namespace Go.Proofs.Ytkmlmboclegpcaa
open Go Go.RowKit
def AK.agg : AK → Bool
 | .struct _ => true
 | .array _ _ => true
 | .odd => true
 | _ => false
section
variable {C : ACtx}
theorem ti_get {t : Nat} {ti : TI} (h : C.T t = some ti) : ∃ u i z, C.P.underlying t = some u ∧ C.P.info? t = some i ∧ i.zero = some z ∧ ti = ⟨akOf C.P u, i.size, i.bytes, z.cells.toList⟩ := by
 have h' := C.ok t ti h
 unfold tiOf at h'
 split at h'
 ·rename_i u i hu hi
  split at h'
  ·rename_i z hz
   exact ⟨u, i, z, hu, hi, hz, (Option.some.inj h').symm⟩
  ·cases h'
 ·cases h'
theorem run_underlying' {t : Nat} {u : TypeDesc} (h : C.P.underlying t = some u) (w : World) : (underlying t).run C.P w = .ok u w := run_underlying h w
theorem run_isAgg {t : Nat} {ti : TI} (h : C.T t = some ti) (w : World) : (isAgg t).run C.P w = .ok ti.k.agg w := by
 obtain ⟨u, i, z, hu, hi, hz, rfl⟩ := ti_get h
 unfold isAgg
 rw [Sem.run_bind, run_underlying' hu]
 cases u <;> first
  | rfl
  | (simp only [akOf]; split <;> rfl)
theorem run_sizeOf {t : Nat} {ti : TI} (h : C.T t = some ti) (w : World) : (sizeOf t).run C.P w = .ok ti.size w := by
 obtain ⟨u, i, z, hu, hi, hz, rfl⟩ := ti_get h
 simp [sizeOf, typeInfo, hi]
theorem run_zeroValue {t : Nat} {ti : TI} (h : C.T t = some ti) (w : World) : ∃ z, (zeroValue t).run C.P w = .ok z w ∧ z.cells.toList = ti.zero := by
 obtain ⟨u, i, z, hu, hi, hz, rfl⟩ := ti_get h
 exact ⟨z, by simp [zeroValue, typeInfo, hi, hz], rfl⟩
theorem und_slice {t e : Nat} {ti : TI} (h : C.T t = some ti) (hk : ti.k = .slice e) : C.P.underlying t = some (.slice e) := by
 obtain ⟨u, i, z, hu, hi, hz, rfl⟩ := ti_get h
 cases u <;> simp only [akOf, AK.slice.injEq, reduceCtorEq] at hk <;> try (split at hk <;> cases hk)
 subst hk
 exact hu
theorem und_array {t n e : Nat} {ti : TI} (h : C.T t = some ti) (hk : ti.k = .array n e) : C.P.underlying t = some (.array n e) := by
 obtain ⟨u, i, z, hu, hi, hz, rfl⟩ := ti_get h
 cases u <;> simp only [akOf, AK.array.injEq, reduceCtorEq] at hk <;> try (split at hk <;> cases hk)
 obtain ⟨rfl, rfl⟩ := hk
 exact hu
theorem und_str {t : Nat} {ti : TI} (h : C.T t = some ti) (hk : ti.k = .str) : C.P.underlying t = some .string := by
 obtain ⟨u, i, z, hu, hi, hz, rfl⟩ := ti_get h
 cases u <;> simp only [akOf, reduceCtorEq] at hk <;> try (split at hk <;> cases hk)
 exact hu
theorem und_int {t : Nat} {ti : TI} {k : IntKind} (h : C.T t = some ti) (hk : ti.k = .int k) : C.P.underlying t = some (.int k) := by
 obtain ⟨u, i, z, hu, hi, hz, rfl⟩ := ti_get h
 cases u <;> simp only [akOf, AK.int.injEq, reduceCtorEq] at hk <;> try (split at hk <;> cases hk)
 subst hk
 exact hu
theorem und_bool {t : Nat} {ti : TI} (h : C.T t = some ti) (hk : ti.k = .bool) : C.P.underlying t = some .bool := by
 obtain ⟨u, i, z, hu, hi, hz, rfl⟩ := ti_get h
 cases u <;> simp only [akOf, reduceCtorEq] at hk <;> try (split at hk <;> cases hk)
 exact hu
theorem und_struct {t : Nat} {ti : TI} {fs : List (Nat × Nat)} (h : C.T t = some ti) (hk : ti.k = .struct fs) : ∃ fields, C.P.underlying t = some (.struct fields) ∧ fs = fields.toList.map (fun f => (f.offset, szOf C.P f.type)) ∧ ∀ f ∈ fields, (C.P.info? f.type).isSome = true := by
 obtain ⟨u, i, z, hu, hi, hz, rfl⟩ := ti_get h
 cases u <;> simp only [akOf, reduceCtorEq] at hk
 split at hk
 ·rename_i fields hall
  simp only [AK.struct.injEq] at hk
  exact ⟨_, hu, hk.symm, fun f hf => Array.all_eq_true'.1 hall f hf⟩
 ·cases hk
end
theorem ev_eq (fr : List (Nat × AV)) (hp : List (Nat × Option Blk)) (gc : Nat) (x : Operand) : AS.ev ⟨fr, hp, gc⟩ x = evA fr x := rfl
theorem ARun.step {C : ACtx} {ops : Array Oper} {K : AS → List (List Nat × List Nat) → Prop} {k : Nat} {rest : List Oper} {fr : List (Nat × AV)} {hp : List (Nat × Option Blk)} {gc : Nat} {fps : List (List Nat × List Nat)} {o : Oper}
  (v : AV) (rd : List (Nat × Blk)) (ups : List (Nat × Option Blk)) (hg : guardIs ops ⟨fr, hp, gc⟩ o true) (hrd : ∀ p, p ∈ rd → lkH hp p.1 = some p.2)
  (hD : Does C gc k o (o.op.operands.toList.map (evA fr)) rd v ups) (h : ARun C ops K (k + 1) rest ⟨putFr fr o.dst v, ups ++ hp, gc⟩ (fps ++ [(rd.map (·.1), ups.map (·.1))])) :
  ARun C ops K k (o :: rest) ⟨fr, hp, gc⟩ fps :=
 ⟨⟨k, o, true, o.op.operands.toList.map (evA fr), rd, v, ups⟩, rfl, rfl, ⟨hg, by
  rw [if_pos rfl]
  exact ⟨List.map_congr_left (fun x _ => ev_eq fr hp gc x), hrd, hD⟩⟩, h⟩
theorem ARun.off {C : ACtx} {ops : Array Oper} {K : AS → List (List Nat × List Nat) → Prop} {k : Nat} {rest : List Oper} {fr : List (Nat × AV)} {hp : List (Nat × Option Blk)} {gc : Nat} {fps : List (List Nat × List Nat)}
  {d : Option Nat} {op : Op} {ty : TypeId} {pos : String} {after : Array Edge} {gd : Option (Nat × Bool)}
  (hg : guardIs ops ⟨fr, hp, gc⟩ ⟨d, op, ty, pos, after, gd⟩ false) (h : ARun C ops K (k + 1) rest ⟨putFr fr d (.val undef), hp, gc⟩ (fps ++ [([], [])])) :
  ARun C ops K k (⟨d, op, ty, pos, after, gd⟩ :: rest) ⟨fr, hp, gc⟩ fps :=
 ⟨⟨k, ⟨d, op, ty, pos, after, gd⟩, false, [], [], .val undef, []⟩, rfl, rfl, ⟨hg, by
  rw [if_neg (by simp)]
  exact ⟨rfl, rfl, rfl⟩⟩, h⟩
theorem wp_value {P : Program} {o : Oper} {a : Act} {w w' : World} {u : Value} {next : Act → World → Prop} {Q : Exit → Act → World → Prop} (hr : (execOp a.eval o).run P w = .ok (.value u) w') (h : next (a.put o.dst u) w') : o.wp P a w next Q := by
 unfold Oper.wp
 rw [hr]
 exact h
theorem wp_skip' {P : Program} {o : Oper} {a : Act} {w w' : World} {next : Act → World → Prop} {Q : Exit → Act → World → Prop} (hr : (execOp a.eval o).run P w = .ok .skip w') (h : next (a.put o.dst undef) w') : o.wp P a w next Q := by
 unfold Oper.wp
 rw [hr]
 exact h
theorem does_quiet {C : ACtx} {G i : Nat} {o : Oper} {fr : List (Nat × AV)} {rd : List (Nat × Blk)} {v : AV} (hd : ∀ e, o.dst = some e → e < C.n)
  (h : ∀ (s : AS) (c : RC) (a : Act) (w : World), Sim C s c a w → (∀ x ∈ o.op.operands, Rep c w (evA fr x) (a.eval x)) → (∀ p, p ∈ rd → lkH s.hp p.1 = some p.2) → ∃ u, (execOp a.eval o).run C.P w = .ok (.value u) w ∧ Rep c w v u) :
  Does C G i o (o.op.operands.toList.map (evA fr)) rd v [] := by
 intro s c a w hS _ hargs hrd
 have hev : ∀ x ∈ o.op.operands, Rep c w (evA fr x) (a.eval x) := by
  intro x hx
  have he : ∀ (l : List Operand), l.map s.ev = l.map (evA fr) → ∀ x ∈ l, s.ev x = evA fr x := by
   intro l
   induction l with
   | nil => intro _ x hx; cases hx
   | cons y l ih =>
    intro h x hx
    simp only [List.map_cons, List.cons.injEq] at h
    rcases List.mem_cons.1 hx with rfl | hx
    ·exact h.1
    ·exact ih h.2 x hx
  rw [← he _ hargs x (by simpa using hx)]
  exact hS.ev x
 obtain ⟨u, h1, h2⟩ := h s c a w hS hev hrd
 exact wp_value h1 ⟨c, hS.put o.dst v u hd (fun _ => h2), fun g hg => .inl hg⟩
theorem args_ev {s : AS} {fr : List (Nat × AV)} {l : List Operand} (h : l.map s.ev = l.map (evA fr)) : ∀ x ∈ l, s.ev x = evA fr x := by
 induction l with
 | nil => intro x hx; cases hx
 | cons y l ih =>
  intro x hx
  simp only [List.map_cons, List.cons.injEq] at h
  rcases List.mem_cons.1 hx with rfl | hx
  ·exact h.1
  ·exact ih h.2 x hx
theorem Rep.val_inv {c : RC} {w : World} {v u : Value} (h : Rep c w (.val v) u) : u = v := by cases h; rfl
section
variable {C : ACtx} {ops : Array Oper} {K : AS → List (List Nat × List Nat) → Prop} {k : Nat} {rest : List Oper} {fr : List (Nat × AV)} {hp : List (Nat × Option Blk)} {gc : Nat} {fps : List (List Nat × List Nat)}
 {d : Nat} {ty : TypeId} {pos : String} {after : Array Edge} {gd : Option (Nat × Bool)} {x y z : Operand} {v : AV}
theorem ARun.quiet {op : Op} (hd : Nat.blt d C.n = true) (hg : guardIs ops ⟨fr, hp, gc⟩ ⟨some d, op, ty, pos, after, gd⟩ true) (rd : List (Nat × Blk)) (hrd : ∀ p, p ∈ rd → lkH hp p.1 = some p.2)
  (h : ∀ (s : AS) (c : RC) (a : Act) (w : World), Sim C s c a w → (∀ x ∈ op.operands, Rep c w (evA fr x) (a.eval x)) → (∀ p, p ∈ rd → lkH s.hp p.1 = some p.2) → ∃ u, (execOp a.eval ⟨some d, op, ty, pos, after, gd⟩).run C.P w = .ok (.value u) w ∧ Rep c w v u)
  (n : ARun C ops K (k + 1) rest ⟨(d, v) :: fr, hp, gc⟩ (fps ++ [(rd.map (·.1), [])])) : ARun C ops K k (⟨some d, op, ty, pos, after, gd⟩ :: rest) ⟨fr, hp, gc⟩ fps :=
 ARun.step v rd [] hg hrd (does_quiet (fun e he => by
  simp only [Option.some.injEq] at he
  subst he
  simpa [Nat.blt_eq] using hd) h) n
theorem ARun.move (hx : evA fr x = v) (hd : Nat.blt d C.n = true) (hg : guardIs ops ⟨fr, hp, gc⟩ ⟨some d, .move x, ty, pos, after, gd⟩ true)
  (n : ARun C ops K (k + 1) rest ⟨(d, v) :: fr, hp, gc⟩ (fps ++ [([], [])])) : ARun C ops K k (⟨some d, .move x, ty, pos, after, gd⟩ :: rest) ⟨fr, hp, gc⟩ fps :=
 ARun.quiet hd hg [] (by simp) (fun s c a w hS hev _ => ⟨a.eval x, by simp [execOp], by rw [← hx]; exact hev x (by simp [Op.operands])⟩) n
theorem ARun.assign (hx : evA fr x = v) (hd : Nat.blt d C.n = true) (hg : guardIs ops ⟨fr, hp, gc⟩ ⟨some d, .assign x, ty, pos, after, gd⟩ true)
  (n : ARun C ops K (k + 1) rest ⟨(d, v) :: fr, hp, gc⟩ (fps ++ [([], [])])) : ARun C ops K k (⟨some d, .assign x, ty, pos, after, gd⟩ :: rest) ⟨fr, hp, gc⟩ fps :=
 ARun.quiet hd hg [] (by simp) (fun s c a w hS hev _ => ⟨a.eval x, by simp [execOp], by rw [← hx]; exact hev x (by simp [Op.operands])⟩) n
theorem ARun.pick {b : Bool} (hx : evA fr x = .val (.bool b)) (hv : (bif b then evA fr y else evA fr z) = v) (hd : Nat.blt d C.n = true) (hg : guardIs ops ⟨fr, hp, gc⟩ ⟨some d, .pick x y z, ty, pos, after, gd⟩ true)
  (n : ARun C ops K (k + 1) rest ⟨(d, v) :: fr, hp, gc⟩ (fps ++ [([], [])])) : ARun C ops K k (⟨some d, .pick x y z, ty, pos, after, gd⟩ :: rest) ⟨fr, hp, gc⟩ fps :=
 ARun.quiet hd hg [] (by simp) (fun s c a w hS hev _ => by
  have h1 := hev x (by simp [Op.operands])
  rw [hx] at h1
  have h1 := h1.val_inv
  refine ⟨if b then a.eval y else a.eval z, by simp [execOp, h1, asBool], ?_⟩
  rw [← hv]
  cases b
  ·exact hev z (by simp [Op.operands])
  ·exact hev y (by simp [Op.operands])) n
theorem ARun.extract {i : Nat} {es : List AV} (hx : evA fr x = .tup es) (hv : es[i]? = some v) (hd : Nat.blt d C.n = true) (hg : guardIs ops ⟨fr, hp, gc⟩ ⟨some d, .extract x i, ty, pos, after, gd⟩ true)
  (n : ARun C ops K (k + 1) rest ⟨(d, v) :: fr, hp, gc⟩ (fps ++ [([], [])])) : ARun C ops K k (⟨some d, .extract x i, ty, pos, after, gd⟩ :: rest) ⟨fr, hp, gc⟩ fps :=
 ARun.quiet hd hg [] (by simp) (fun s c a w hS hev _ => by
  have h1 := hev x (by simp [Op.operands])
  rw [hx] at h1
  generalize hu : a.eval x = u at h1
  cases h1
  rename_i us hl hr
  have hi : i < us.length := by rw [hl]; exact (List.getElem?_eq_some_iff.1 hv).1
  refine ⟨us[i], by simp [execOp, Instr.extract, hu, List.getElem?_eq_getElem hi], hr i v us[i] hv (List.getElem?_eq_getElem hi)⟩) n
def BinR (P : Program) (op : BinOp) (xt : TypeId) (p q r : Value) : Prop := ∀ (x y : Operand) (w : World), (do eqGuard op xt x y p q; binOp op xt p q : Sem Value).run P w = .ok r w
theorem ARun.bin {op : BinOp} {xt yt : TypeId} {p q r : Value} (hx : evA fr x = .val p) (hy : evA fr y = .val q) (hr : BinR C.P op xt p q r)
  (hd : Nat.blt d C.n = true) (hg : guardIs ops ⟨fr, hp, gc⟩ ⟨some d, .binOp op xt x y yt, ty, pos, after, gd⟩ true)
  (n : ARun C ops K (k + 1) rest ⟨(d, .val r) :: fr, hp, gc⟩ (fps ++ [([], [])])) : ARun C ops K k (⟨some d, .binOp op xt x y yt, ty, pos, after, gd⟩ :: rest) ⟨fr, hp, gc⟩ fps :=
 ARun.quiet hd hg [] (by simp) (fun s c a w hS hev _ => by
  have h1 := hev x (by simp [Op.operands])
  have h2 := hev y (by simp [Op.operands])
  rw [hx] at h1
  rw [hy] at h2
  have h1 := h1.val_inv
  have h2 := h2.val_inv
  refine ⟨r, ?_, .val r⟩
  have := hr x y w
  rw [← h1, ← h2] at this
  rw [show execOp a.eval ⟨some d, .binOp op xt x y yt, ty, pos, after, gd⟩ = (do let v ← (do eqGuard op xt x y (a.eval x) (a.eval y); binOp op xt (a.eval x) (a.eval y) : Sem Value); pure (.value v)) from rfl, Sem.run_bind, this]
  rfl) n
theorem ARun.un {op : UnOp} {xt : TypeId} {p r : Value} (hx : evA fr x = .val p) (hr : ∀ w, (Op.unary op p).run C.P w = .ok r w)
  (hd : Nat.blt d C.n = true) (hg : guardIs ops ⟨fr, hp, gc⟩ ⟨some d, .unOp op xt x, ty, pos, after, gd⟩ true)
  (n : ARun C ops K (k + 1) rest ⟨(d, .val r) :: fr, hp, gc⟩ (fps ++ [([], [])])) : ARun C ops K k (⟨some d, .unOp op xt x, ty, pos, after, gd⟩ :: rest) ⟨fr, hp, gc⟩ fps :=
 ARun.quiet hd hg [] (by simp) (fun s c a w hS hev _ => by
  have h1 := hev x (by simp [Op.operands])
  rw [hx] at h1
  have h1 := h1.val_inv
  refine ⟨r, ?_, .val r⟩
  simp [execOp, h1, hr w]) n
def cellsA : AV → Option (List AV)
 | .agg es => some es
 | .val v => bif v.oneCell' then some [.val v] else none
 | .tup _ => none
 | .dead => none
 | x => some [x]
theorem cells_rep {c : RC} {w : World} {v : AV} {u : Value} {cs : List AV} (h : Rep c w v u) (hc : cellsA v = some cs) : u.cells.size = cs.length ∧ (∀ (i : Nat) (x : AV), cs[i]? = some x → ∃ z, u.cells[i]? = some z ∧ z.oneCell' = true ∧ Rep c w x z) ∧ (∀ z ∈ u.cells.toList, z.oneCell' = true) := by
 have one : ∀ (v : AV) (u : Value), Rep c w v u → u.oneCell' = true → u.cells = #[u] → cs = [v] → u.cells.size = cs.length ∧ (∀ (i : Nat) (x : AV), cs[i]? = some x → ∃ z, u.cells[i]? = some z ∧ z.oneCell' = true ∧ Rep c w x z) ∧ (∀ z ∈ u.cells.toList, z.oneCell' = true) := by
  intro v u h h1 h2 h3
  subst h3
  rw [h2]
  refine ⟨rfl, fun i x hx => ?_, fun z hz => ?_⟩
  ·cases i with
   | zero =>
    simp only [List.getElem?_cons_zero, Option.some.injEq] at hx
    subst hx
    exact ⟨u, rfl, h1, h⟩
   | succ i => simp at hx
  ·simp at hz
   subst hz
   exact h1
 cases h with
 | val v =>
  simp only [cellsA] at hc
  cases hv : u.oneCell' with
  | false => rw [hv] at hc; cases hc
  | true =>
   rw [hv] at hc
   exact one _ _ (.val u) hv (by cases u <;> first | rfl | cases hv) (Option.some.inj hc).symm
 | ptr b g i f β o hu hp => exact one _ _ (.ptr b g i f β o hu hp) rfl rfl (Option.some.inj hc).symm
 | rp es β o us h1 h2 h3 => exact one _ _ (.rp es β o us h1 h2 h3) rfl rfl (Option.some.inj hc).symm
 | sl sz full els A cap β o us a1 a2 a3 a4 a5 a6 a7 a8 => exact one _ _ (.sl sz full els A cap β o us a1 a2 a3 a4 a5 a6 a7 a8) rfl rfl (Option.some.inj hc).symm
 | own b g lo n A m cap hu hp => exact one _ _ (.own b g lo n A m cap hu hp) rfl rfl (Option.some.inj hc).symm
 | agg es us hl h1 hr =>
  obtain rfl := Option.some.inj hc
  refine ⟨by simpa [Value.cells] using hl, fun i x hx => ?_, fun z hz => h1 z (by simpa [Value.cells] using hz)⟩
  have hi : i < us.length := by rw [hl]; exact (List.getElem?_eq_some_iff.1 hx).1
  exact ⟨us[i], by simp [Value.cells, hi], h1 _ (List.getElem_mem _), hr i x us[i] hx (List.getElem?_eq_getElem hi)⟩
 | tup es us hl hr => cases hc
 | clo f first cap us vs h1 h2 h3 h4 => exact one _ _ (.clo f first cap us vs h1 h2 h3 h4) rfl rfl (Option.some.inj hc).symm
 | it b g β hu hp => exact one _ _ (.it b g β hu hp) rfl rfl (Option.some.inj hc).symm
 | mo b g β hu hp => exact one _ _ (.mo b g β hu hp) rfl rfl (Option.some.inj hc).symm
 | mp ks vs β clock es a1 a2 a3 a4 a5 => exact one _ _ (.mp ks vs β clock es a1 a2 a3 a4 a5) rfl rfl (Option.some.inj hc).symm
 | bany b => exact one _ _ (.bany b) rfl rfl (Option.some.inj hc).symm
 | dead v => cases hc
theorem one_el {sz : Nat} {cs : List AV} {u : Array Value} {c : RC} {w : World} (h : ∀ (i : Nat) (x : AV), cs[i]? = some x → ∃ z, u[i]? = some z ∧ z.oneCell' = true ∧ Rep c w x z) :
  ∀ (i : Nat) (el : List AV) (f : Nat) (x : AV), [cs][i]? = some el → el[f]? = some x → ∃ z, u[i * sz + f]? = some z ∧ z.oneCell' = true ∧ Rep c w x z := by
 intro i el f x hi hx
 cases i with
 | zero =>
  simp only [List.getElem?_cons_zero, Option.some.injEq] at hi
  subst hi
  rw [Nat.zero_mul, Nat.zero_add]
  exact h f x hx
 | succ i => simp at hi
theorem Sim.newBlk {s : AS} {c : RC} {a : Act} {w : World} (hS : Sim C s c a w) (b : Nat) (blk : Blk) (cs : Array Value) (e : TypeId) (hf : ¬ c.used blk.gen) (hz : ∀ el, el ∈ blk.els → el.length = blk.sz)
  (hr : ∀ (i : Nat) (el : List AV) (f : Nat) (x : AV), blk.els[i]? = some el → el[f]? = some x → ∃ z, cs[i * blk.sz + f]? = some z ∧ z.oneCell' = true ∧ Rep c w x z)
  (dst : Option Nat) (v : AV) (u : Value) (hd : ∀ e, dst = some e → e < C.n) (hv : dst ≠ none → Rep (c.upd b blk.gen ⟨some w.heap.size, blk.sz, cs.size⟩) (w.alloc (.cells cs e)) v u) :
  Sim C (s.app dst v [(b, some blk)]) (c.upd b blk.gen ⟨some w.heap.size, blk.sz, cs.size⟩) (a.put dst u) (w.alloc (.cells cs e)) := by
 refine hS.upd (w' := w.alloc (.cells cs e)) b blk ⟨some w.heap.size, blk.sz, cs.size⟩ (.inl hf) rfl rfl rfl (by simp) (fun β hβ _ => Below.heap_alloc w _ β hβ) (fun β hβ => ?_) (fun hm => .inl ⟨rfl, hz, cs, e, .plain (heap_alloc_new w _), rfl, fun i el f x hi hx => ?_⟩) dst v u hd (fun h _ => hv h)
 ·simp only [Option.some.injEq] at hβ
  subst hβ
  exact .inl ⟨Nat.le_refl _, by simp⟩
 ·obtain ⟨z, h1, h2, h3⟩ := hr i el f x hi hx
  exact ⟨z, h1, h2, h3.mono hm⟩
theorem does_new {G i : Nat} {o : Oper} {fr : List (Nat × AV)} {v : AV} {b : Nat} {blk : Blk} (hd : ∀ e, o.dst = some e → e < C.n) (hbg : blk.gen = G + i) (hz : ∀ el, el ∈ blk.els → el.length = blk.sz)
  (h : ∀ (s : AS) (c : RC) (a : Act) (w : World), Sim C s c a w → (∀ x ∈ o.op.operands, Rep c w (evA fr x) (a.eval x)) → ∃ u cs e, (execOp a.eval o).run C.P w = .ok (.value u) (w.alloc (.cells cs e)) ∧
   (∀ (i : Nat) (el : List AV) (f : Nat) (x : AV), blk.els[i]? = some el → el[f]? = some x → ∃ z, cs[i * blk.sz + f]? = some z ∧ z.oneCell' = true ∧ Rep c w x z) ∧
   Rep (c.upd b blk.gen ⟨some w.heap.size, blk.sz, cs.size⟩) (w.alloc (.cells cs e)) v u) :
  Does C G i o (o.op.operands.toList.map (evA fr)) [] v [(b, some blk)] := by
 intro s c a w hS hf hargs _
 have hev : ∀ x ∈ o.op.operands, Rep c w (evA fr x) (a.eval x) := by
  intro x hx
  rw [← args_ev hargs x (by simpa using hx)]
  exact hS.ev x
 obtain ⟨u, cs, e, h1, h2, h3⟩ := h s c a w hS hev
 refine wp_value h1 ⟨_, hS.newBlk b blk cs e (by rw [hbg]; exact hf) hz h2 o.dst v u hd (fun _ => h3), fun g hg => ?_⟩
 rcases hg with h | h
 ·exact .inl h
 ·exact .inr (h.trans hbg)
theorem lt_of_blt {d n : Nat} (h : Nat.blt d n = true) : d < n := by simpa [Nat.blt_eq] using h
theorem dst_lt {d : Nat} (h : Nat.blt d C.n = true) : ∀ e, (some d : Option Nat) = some e → e < C.n := by
 intro e he
 obtain rfl := Option.some.inj he
 exact lt_of_blt h
theorem rep_ptr_new (c : RC) (w : World) (B b g sz n i f : Nat) (h0 : 0 < sz) : Rep (c.upd b g ⟨some B, sz, n⟩) w (.ptr b g i f) (.pointer (some ⟨B, i * sz + f, none⟩)) := by
 refine .ptr b g i f _ _ (.inr rfl) (fun o ho => ?_)
 simp [RC.upd] at ho
 subst ho
 exact ⟨rfl, rfl, h0⟩
theorem ARun.box {t : TypeId} {cs : List AV} (hx : cellsA (evA fr x) = some cs) (h0 : Nat.blt 0 cs.length = true) (hd : Nat.blt d C.n = true) (hg : guardIs ops ⟨fr, hp, gc⟩ ⟨some d, .box t x, ty, pos, after, gd⟩ true)
  (n : ARun C ops K (k + 1) rest ⟨(d, .ptr d (gc + k) 0 0) :: fr, (d, some ⟨gc + k, cs.length, [cs]⟩) :: hp, gc⟩ (fps ++ [([], [d])])) : ARun C ops K k (⟨some d, .box t x, ty, pos, after, gd⟩ :: rest) ⟨fr, hp, gc⟩ fps :=
 ARun.step (.ptr d (gc + k) 0 0) [] [(d, some ⟨gc + k, cs.length, [cs]⟩)] hg (by simp) (does_new (dst_lt hd) rfl (by simp) (fun s c a w hS hev => by
  have h1 := hev x (by simp [Op.operands])
  obtain ⟨h2, h3, h4⟩ := cells_rep h1 hx
  refine ⟨.pointer (some ⟨w.heap.size, 0, none⟩), (a.eval x).cells, t, by simp [execOp, Instr.box, newVar, newRow], one_el h3, ?_⟩
  have := rep_ptr_new c (w.alloc (.cells (a.eval x).cells t)) w.heap.size d (gc + k) cs.length (a.eval x).cells.size 0 0 (lt_of_blt h0)
  simpa using this)) n
theorem zv_map_get {l : List Value} {i : Nat} {x : AV} (h : (l.map zv)[i]? = some x) : ∃ u, l[i]? = some u ∧ x = zv u := by
 rw [List.getElem?_map] at h
 cases hi : l[i]? with
 | none => rw [hi] at h; cases h
 | some u =>
  rw [hi] at h
  exact ⟨u, rfl, (Option.some.inj h).symm⟩
theorem ARun.alloc {t : TypeId} {ti : TI} (ht : C.T t = some ti) (hz1 : ti.zero.all Value.oneCell' = true) (h0 : Nat.blt 0 (ti.zero.map zv).length = true) (hd : Nat.blt d C.n = true) (hg : guardIs ops ⟨fr, hp, gc⟩ ⟨some d, .alloc t, ty, pos, after, gd⟩ true)
  (n : ARun C ops K (k + 1) rest ⟨(d, .ptr d (gc + k) 0 0) :: fr, (d, some ⟨gc + k, (ti.zero.map zv).length, [ti.zero.map zv]⟩) :: hp, gc⟩ (fps ++ [([], [d])])) : ARun C ops K k (⟨some d, .alloc t, ty, pos, after, gd⟩ :: rest) ⟨fr, hp, gc⟩ fps :=
 ARun.step (.ptr d (gc + k) 0 0) [] [(d, some ⟨gc + k, (ti.zero.map zv).length, [ti.zero.map zv]⟩)] hg (by simp) (does_new (dst_lt hd) rfl (by simp) (fun s c a w hS hev => by
  obtain ⟨z, h1, h2⟩ := run_zeroValue ht w
  refine ⟨.pointer (some ⟨w.heap.size, 0, none⟩), z.cells, t, by simp [execOp, Instr.alloc, newVar, newRow, h1], one_el (fun i x hx => ?_), ?_⟩
  ·rw [← h2] at hx
   obtain ⟨u, hu, rfl⟩ := zv_map_get hx
   exact ⟨u, by simpa using hu, List.all_eq_true.1 hz1 u (h2 ▸ List.mem_of_getElem? hu), zv_rep c w u⟩
  ·have := rep_ptr_new c (w.alloc (.cells z.cells t)) w.heap.size d (gc + k) (ti.zero.map zv).length z.cells.size 0 0 (lt_of_blt h0)
   simpa using this)) n
end
end Go.Proofs.Ytkmlmboclegpcaa
namespace Go.Proofs.Ytkmlmboclegpcaa
open Go Go.RowKit
theorem add_lit (β o n : Nat) : (⟨β, o, none⟩ : Addr).add n = ⟨β, o + n, none⟩ := by
 unfold Addr.add
 split
 ·rename_i h; subst h; rfl
 ·rfl
section
variable {C : ACtx}
theorem run_loadAgg {t : Nat} {ti : TI} (ht : C.T t = some ti) (ha : ti.k.agg = true) (w : World) (β o : Nat) (us : List Value) (hl : us.length = ti.size) (hc : ∀ f u, us[f]? = some u → w.cell? ⟨β, o + f, none⟩ = some u) :
  (Instr.loadAt t (.pointer (some ⟨β, o, none⟩))).run C.P w = .ok (.agg us.toArray) w := by
 have h1 := run_loadCells_list (P := C.P) (w := w) ⟨β, o, none⟩ us (fun j v hv => by rw [add_lit]; exact hc j v hv)
 rw [hl] at h1
 simp [Instr.loadAt, Instr.sureAddr, loadVar, run_isAgg ht, ha, run_sizeOf ht, h1]
theorem run_loadOne {t : Nat} {ti : TI} (ht : C.T t = some ti) (ha : ti.k.agg = false) (w : World) (a : Addr) (u : Value) (hc : w.cell? a = some u) :
  (Instr.loadAt t (.pointer (some a))).run C.P w = .ok u w := by
 simp [Instr.loadAt, Instr.sureAddr, loadVar, run_isAgg ht, ha, hc]
theorem blk_cells {s : AS} {c : RC} {a : Act} {w : World} (hS : Sim C s c a w) {b g i f : Nat} {blk : Blk} {u : Value} (hb : lkH s.hp b = some blk) (hg : blk.gen = g) (hr : Rep c w (.ptr b g i f) u) {el : List AV} (he : blk.els[i]? = some el) :
  ∃ β cur e, u = .pointer (some ⟨β, i * blk.sz + f, none⟩) ∧ RowAt w β cur e ∧ c.own b g = some ⟨some β, blk.sz, cur.size⟩ ∧ el.length = blk.sz ∧
   ∀ j x, el[j]? = some x → ∃ u, cur[i * blk.sz + j]? = some u ∧ u.oneCell' = true ∧ Rep c w x u := by
 obtain ⟨o, h1, hB⟩ := hS.hp b blk hb
 subst hg
 cases hr with
 | ptr _ _ _ _ β o' hu hp =>
  obtain ⟨k1, k2, k0⟩ := hp o h1
  obtain ⟨h2, h3, h4⟩ := hB.row k0
  rw [k1] at h4
  obtain ⟨cur, e, q1, q2, q3⟩ := h4
  obtain ⟨loc, sz, room⟩ := o
  simp only at h2 k1 q2
  subst h2
  subst k1
  subst q2
  subst k2
  refine ⟨β, cur, e, rfl, q1, h1, h3 el (List.mem_of_getElem? he), fun j x hx => q3 i el j x he hx⟩
theorem cell_row {w : World} {β o : Nat} {cur : Array Value} {e : TypeId} (h : RowAt w β cur e) : w.cell? ⟨β, o, none⟩ = cur[o]? := h.cell o
end
theorem list_over {α : Type} (l v : List α) (p : Nat) (h : p + v.length ≤ l.length) (j : Nat) : (l.take p ++ v ++ l.drop (p + v.length))[j]? = if j < p then l[j]? else if j < p + v.length then v[j - p]? else l[j]? := by
 by_cases h1 : j < p
 ·rw [if_pos h1, List.append_assoc, List.getElem?_append_left (by rw [List.length_take]; omega), List.getElem?_take, if_pos h1]
 ·rw [if_neg h1]
  by_cases h2 : j < p + v.length
  ·rw [if_pos h2, List.getElem?_append_left (by rw [List.length_append, List.length_take]; omega), List.getElem?_append_right (by rw [List.length_take]; omega), List.length_take, Nat.min_eq_left (by omega)]
  ·rw [if_neg h2, List.getElem?_append_right (by rw [List.length_append, List.length_take]; omega), List.getElem?_drop, List.length_append, List.length_take, Nat.min_eq_left (by omega)]
   congr 1
   omega
def loadCs (el : List AV) (f n : Nat) : Option (List AV) := bif Nat.ble (f + n) el.length then some ((el.drop f).take n) else none
theorem loadCs_spec {el : List AV} {f n : Nat} {cs : List AV} (h : loadCs el f n = some cs) : cs.length = n ∧ ∀ j x, cs[j]? = some x → el[f + j]? = some x := by
 unfold loadCs at h
 cases hb : Nat.ble (f + n) el.length with
 | false => rw [hb] at h; cases h
 | true =>
  rw [hb] at h
  obtain rfl := Option.some.inj h
  have hle := Nat.le_of_ble_eq_true hb
  refine ⟨by rw [List.length_take, List.length_drop]; omega, fun j x hx => ?_⟩
  rw [List.getElem?_take] at hx
  split at hx
  ·rw [List.getElem?_drop] at hx
   exact hx
  ·cases hx
theorem loadCs_all {el : List AV} {n : Nat} (h : el.length = n) : loadCs el 0 n = some el := by
 subst h
 unfold loadCs
 rw [Nat.zero_add, Nat.ble_eq_true_of_le (Nat.le_refl _)]
 simp
inductive SetAts : List AV → Nat → List AV → List AV → Prop where
 | done (l : List AV) : SetAts l 0 [] l
 | here {x y : AV} {l cs l' : List AV} (h : SetAts l 0 cs l') : SetAts (x :: l) 0 (y :: cs) (y :: l')
 | skip {x : AV} {l cs l' : List AV} {n : Nat} (h : SetAts l n cs l') : SetAts (x :: l) (n + 1) cs (x :: l')
theorem SetAts.spec {l cs l' : List AV} {n : Nat} (h : SetAts l n cs l') : l'.length = l.length ∧ n + cs.length ≤ l.length ∧ (∀ j, j < cs.length → l'[n + j]? = cs[j]?) ∧ (∀ j, (j < n ∨ n + cs.length ≤ j) → l'[j]? = l[j]?) := by
 induction h with
 | done l => exact ⟨rfl, by simp, fun j hj => by simp at hj, fun j _ => rfl⟩
 | @here x y l cs l' _ ih =>
  obtain ⟨h1, h2, h3, h4⟩ := ih
  refine ⟨by simp [h1], by simp only [List.length_cons]; omega, fun j hj => ?_, fun j hj => ?_⟩
  ·rw [Nat.zero_add]
   cases j with
   | zero => rfl
   | succ j =>
    have := h3 j (by simpa using hj)
    rw [Nat.zero_add] at this
    simpa using this
  ·cases j with
   | zero => simp only [List.length_cons] at hj; omega
   | succ j =>
    have := h4 j (by simp only [List.length_cons] at hj; omega)
    simpa using this
 | @skip x l cs l' n _ ih =>
  obtain ⟨h1, h2, h3, h4⟩ := ih
  refine ⟨by simp [h1], by simp only [List.length_cons]; omega, fun j hj => ?_, fun j hj => ?_⟩
  ·have := h3 j hj
   rw [show n + 1 + j = (n + j) + 1 by omega]
   simpa using this
  ·cases j with
   | zero => rfl
   | succ j =>
    have := h4 j (by omega)
    simpa using this
theorem SetAts.all {l cs : List AV} (h : cs.length = l.length) : SetAts l 0 cs cs := by
 induction cs generalizing l with
 | nil =>
  have : l = [] := List.eq_nil_of_length_eq_zero h.symm
  subst this
  exact .done []
 | cons y cs ih =>
  cases l with
  | nil => cases h
  | cons x l => exact .here (ih (by simpa using h))
section
variable {C : ACtx} {ops : Array Oper} {K : AS → List (List Nat × List Nat) → Prop} {k : Nat} {rest : List Oper} {fr : List (Nat × AV)} {hp : List (Nat × Option Blk)} {gc : Nat} {fps : List (List Nat × List Nat)}
 {d : Nat} {ty : TypeId} {pos : String} {after : Array Edge} {gd : Option (Nat × Bool)} {x y z : Operand} {v : AV}
theorem run_fieldAt {t : Nat} {ti : TI} {fs : List (Nat × Nat)} {n off sz : Nat} (ht : C.T t = some ti) (hk : ti.k = .struct fs) (hf : fs[n]? = some (off, sz)) (h0 : Nat.blt 0 sz = true) (w : World) (a : Addr) :
  (Instr.fieldAt t (.pointer (some a)) n).run C.P w = .ok (.pointer (some (a.add off))) w := by
 obtain ⟨fields, h1, h2, _⟩ := und_struct ht hk
 rw [h2, List.getElem?_map] at hf
 cases hn : fields.toList[n]? with
 | none => rw [hn] at hf; cases hf
 | some fl =>
  rw [hn] at hf
  simp only [Option.map_some, Option.some.injEq, Prod.mk.injEq] at hf
  obtain ⟨rfl, rfl⟩ := hf
  have hn' : fields[n]? = some fl := by simpa using hn
  have hsz : ∃ i, C.P.info? fl.type = some i ∧ i.size ≠ 0 := by
   unfold szOf at h0
   cases hi : C.P.info? fl.type with
   | none => rw [hi] at h0; cases h0
   | some i =>
    rw [hi] at h0
    refine ⟨i, rfl, ?_⟩
    have := lt_of_blt h0
    simp at this
    omega
  obtain ⟨i, hi, hi0⟩ := hsz
  simp [Instr.fieldAt, run_underlying' h1, hn', Instr.sureAddr, fieldPlace, sizeOf, typeInfo, hi, hi0]
theorem ARun.fieldAddr {t n : Nat} {ti : TI} {fs : List (Nat × Nat)} {off sz b g i f : Nat} (hx : evA fr x = .ptr b g i f) (ht : C.T t = some ti) (hk : ti.k = .struct fs) (hf : fs[n]? = some (off, sz)) (h0 : Nat.blt 0 sz = true)
  (hd : Nat.blt d C.n = true) (hg : guardIs ops ⟨fr, hp, gc⟩ ⟨some d, .fieldAddr t x n, ty, pos, after, gd⟩ true)
  (nx : ARun C ops K (k + 1) rest ⟨(d, .ptr b g i (f + off)) :: fr, hp, gc⟩ (fps ++ [([], [])])) : ARun C ops K k (⟨some d, .fieldAddr t x n, ty, pos, after, gd⟩ :: rest) ⟨fr, hp, gc⟩ fps :=
 ARun.quiet hd hg [] (by simp) (fun s c a w hS hev _ => by
  have h1 := hev x (by simp [Op.operands])
  rw [hx] at h1
  generalize hu : a.eval x = u at h1
  cases h1 with
  | ptr _ _ _ _ β o hu' hp' =>
   refine ⟨.pointer (some ⟨β, o + off, none⟩), ?_, .ptr b g i (f + off) _ _ hu' (fun q hq => ?_)⟩
   ·have := run_fieldAt ht hk hf h0 w ⟨β, o, none⟩
    rw [add_lit] at this
    simp [execOp, hu, this]
   ·obtain ⟨e1, e2, e3⟩ := hp' q hq
    exact ⟨e1, by omega, e3⟩) nx
theorem ARun.fieldAddr_rp {t n : Nat} {ti : TI} {fs : List (Nat × Nat)} {off sz : Nat} {es : List AV} (hx : evA fr x = .rp es) (ht : C.T t = some ti) (hk : ti.k = .struct fs) (hf : fs[n]? = some (off, sz)) (h0 : Nat.blt 0 sz = true)
  (hd : Nat.blt d C.n = true) (hg : guardIs ops ⟨fr, hp, gc⟩ ⟨some d, .fieldAddr t x n, ty, pos, after, gd⟩ true)
  (nx : ARun C ops K (k + 1) rest ⟨(d, .rp (es.drop off)) :: fr, hp, gc⟩ (fps ++ [([], [])])) : ARun C ops K k (⟨some d, .fieldAddr t x n, ty, pos, after, gd⟩ :: rest) ⟨fr, hp, gc⟩ fps :=
 ARun.quiet hd hg [] (by simp) (fun s c a w hS hev _ => by
  have h1 := hev x (by simp [Op.operands])
  rw [hx] at h1
  generalize hu : a.eval x = u at h1
  cases h1 with
  | rp _ β o us hs hc hr =>
   have := run_fieldAt ht hk hf h0 w ⟨β, o, none⟩
   rw [add_lit] at this
   refine ⟨.pointer (some ⟨β, o + off, none⟩), by simp [execOp, hu, this], .rp _ β (o + off) (fun f => us (off + f)) (fun h => hs (by intro e; subst e; simp at h)) (fun f x hx => ?_) (fun f x hx => ?_)⟩
   ·rw [List.getElem?_drop] at hx
    have := hc (off + f) x hx
    rwa [Nat.add_assoc]
   ·rw [List.getElem?_drop] at hx
    exact hr (off + f) x hx) nx
theorem ARun.loadAgg {t : Nat} {ti : TI} {b g i f : Nat} {blk : Blk} {el cs : List AV} (hx : evA fr x = .ptr b g i f) (hb : lkH hp b = some blk) (hgg : blk.gen = g) (he : blk.els[i]? = some el) (ht : C.T t = some ti) (ha : ti.k.agg = true) (hc : loadCs el f ti.size = some cs)
  (hd : Nat.blt d C.n = true) (hg : guardIs ops ⟨fr, hp, gc⟩ ⟨some d, .load t x, ty, pos, after, gd⟩ true)
  (nx : ARun C ops K (k + 1) rest ⟨(d, .agg cs) :: fr, hp, gc⟩ (fps ++ [([b], [])])) : ARun C ops K k (⟨some d, .load t x, ty, pos, after, gd⟩ :: rest) ⟨fr, hp, gc⟩ fps :=
 ARun.quiet hd hg [(b, blk)] (by simp [hb]) (fun s c a w hS hev hrd => by
  have h1 := hev x (by simp [Op.operands])
  rw [hx] at h1
  obtain ⟨β, cur, e, q1, q2, q3, q4, q5⟩ := blk_cells hS (hrd (b, blk) (by simp)) hgg h1 he
  obtain ⟨l1, l2⟩ := loadCs_spec hc
  obtain ⟨us, m1, m2⟩ := pick_list (fun j x u => w.cell? ⟨β, i * blk.sz + f + j, none⟩ = some u ∧ u.oneCell' = true ∧ Rep c w x u) cs 0 (fun j x hx => by
   obtain ⟨u, r1, r2, r3⟩ := q5 (f + j) x (l2 j x hx)
   refine ⟨u, ?_, r2, r3⟩
   rw [Nat.zero_add, cell_row q2, Nat.add_assoc]
   exact r1)
  have hget : ∀ (j : Nat) (u : Value), us[j]? = some u → ∃ x, cs[j]? = some x := fun j u hu => ⟨cs[j]'(by have := (List.getElem?_eq_some_iff.1 hu).1; omega), List.getElem?_eq_getElem _⟩
  refine ⟨.agg us.toArray, ?_, .agg cs us m1 (fun u hu => ?_) (fun j x u hx hu => ?_)⟩
  ·have := run_loadAgg ht ha w β (i * blk.sz + f) us (m1.trans l1) (fun j u hu => by
    obtain ⟨x, hx⟩ := hget j u hu
    have := (m2 j x u hx hu).1
    rwa [Nat.zero_add] at this)
   simp [execOp, q1, this]
  ·obtain ⟨j, hj⟩ := List.getElem?_of_mem hu
   obtain ⟨x, hx⟩ := hget j u hj
   exact (m2 j x u hx hj).2.1
  ·exact (m2 j x u hx hu).2.2) nx
theorem ARun.loadOne {t : Nat} {ti : TI} {b g i f : Nat} {blk : Blk} {el : List AV} (hx : evA fr x = .ptr b g i f) (hb : lkH hp b = some blk) (hgg : blk.gen = g) (he : blk.els[i]? = some el) (ht : C.T t = some ti) (ha : ti.k.agg = false) (hc : el[f]? = some v)
  (hd : Nat.blt d C.n = true) (hg : guardIs ops ⟨fr, hp, gc⟩ ⟨some d, .load t x, ty, pos, after, gd⟩ true)
  (nx : ARun C ops K (k + 1) rest ⟨(d, v) :: fr, hp, gc⟩ (fps ++ [([b], [])])) : ARun C ops K k (⟨some d, .load t x, ty, pos, after, gd⟩ :: rest) ⟨fr, hp, gc⟩ fps :=
 ARun.quiet hd hg [(b, blk)] (by simp [hb]) (fun s c a w hS hev hrd => by
  have h1 := hev x (by simp [Op.operands])
  rw [hx] at h1
  obtain ⟨β, cur, e, q1, q2, q3, q4, q5⟩ := blk_cells hS (hrd (b, blk) (by simp)) hgg h1 he
  obtain ⟨u, r1, r2, r3⟩ := q5 f v hc
  refine ⟨u, ?_, r3⟩
  have := run_loadOne ht ha w ⟨β, i * blk.sz + f, none⟩ u ((cell_row q2).trans r1)
  simp [execOp, q1, this]) nx
theorem ARun.loadAgg_rp {t : Nat} {ti : TI} {es cs : List AV} (hx : evA fr x = .rp es) (ht : C.T t = some ti) (ha : ti.k.agg = true) (hc : loadCs es 0 ti.size = some cs)
  (hd : Nat.blt d C.n = true) (hg : guardIs ops ⟨fr, hp, gc⟩ ⟨some d, .load t x, ty, pos, after, gd⟩ true)
  (nx : ARun C ops K (k + 1) rest ⟨(d, .agg cs) :: fr, hp, gc⟩ (fps ++ [([], [])])) : ARun C ops K k (⟨some d, .load t x, ty, pos, after, gd⟩ :: rest) ⟨fr, hp, gc⟩ fps :=
 ARun.quiet hd hg [] (by simp) (fun s c a w hS hev hrd => by
  have h1 := hev x (by simp [Op.operands])
  rw [hx] at h1
  generalize hu : a.eval x = u at h1
  cases h1 with
  | rp _ β o us hs hcc hr =>
   obtain ⟨l1, l2⟩ := loadCs_spec hc
   refine ⟨.agg ((List.range cs.length).map us).toArray, ?_, .agg cs _ (by simp) (fun u hu => ?_) (fun j x u hx hu => ?_)⟩
   ·have := run_loadAgg ht ha w β o ((List.range cs.length).map us) (by simp [l1]) (fun j u hu => by
     rw [List.getElem?_map] at hu
     cases hj : (List.range cs.length)[j]? with
     | none => rw [hj] at hu; cases hu
     | some j' =>
      rw [hj] at hu
      have hjl : j < cs.length := by simpa using (List.getElem?_eq_some_iff.1 hj).1
      obtain rfl : j = j' := by simpa [List.getElem?_range, hjl] using hj
      have hx := List.getElem?_eq_getElem hjl
      have := hcc j _ (by have := l2 j _ hx; rwa [Nat.zero_add] at this)
      simp only [Option.map_some, Option.some.injEq] at hu
      rw [← hu]
      exact this.1)
    simp [execOp, hu, this]
   ·obtain ⟨j, hj, rfl⟩ := List.mem_map.1 hu
    have hx := List.getElem?_eq_getElem (List.mem_range.1 hj)
    exact (hcc j _ (by have := l2 j _ hx; rwa [Nat.zero_add] at this)).2
   ·have hjl : j < cs.length := (List.getElem?_eq_some_iff.1 hx).1
    have : u = us j := by simpa [List.getElem?_map, List.getElem?_range, hjl] using hu.symm
    subst this
    exact hr j x (by have := l2 j _ hx; rwa [Nat.zero_add] at this)) nx
theorem ARun.loadOne_rp {t : Nat} {ti : TI} {es : List AV} (hx : evA fr x = .rp es) (ht : C.T t = some ti) (ha : ti.k.agg = false) (hc : es[0]? = some v)
  (hd : Nat.blt d C.n = true) (hg : guardIs ops ⟨fr, hp, gc⟩ ⟨some d, .load t x, ty, pos, after, gd⟩ true)
  (nx : ARun C ops K (k + 1) rest ⟨(d, v) :: fr, hp, gc⟩ (fps ++ [([], [])])) : ARun C ops K k (⟨some d, .load t x, ty, pos, after, gd⟩ :: rest) ⟨fr, hp, gc⟩ fps :=
 ARun.quiet hd hg [] (by simp) (fun s c a w hS hev hrd => by
  have h1 := hev x (by simp [Op.operands])
  rw [hx] at h1
  generalize hu : a.eval x = u at h1
  cases h1 with
  | rp _ β o us hs hcc hr =>
   have h2 := (hcc 0 v hc).1
   rw [Nat.add_zero] at h2
   have := run_loadOne ht ha w ⟨β, o, none⟩ (us 0) h2
   exact ⟨us 0, by simp [execOp, hu, this], hr 0 v hc⟩) nx
theorem ARun.store {t : Nat} {ti : TI} {b g i f : Nat} {gen sz : Nat} {els : List (List AV)} {el el' cs : List AV} (hx : evA fr x = .ptr b g i f) (hb : lkH hp b = some ⟨gen, sz, els⟩) (hgg : gen = g) (he : els[i]? = some el)
  (ht : C.T t = some ti) (hc : cellsA (evA fr y) = some cs) (hl : cs.length = ti.size) (h0 : Nat.blt 0 ti.size = true) (hs : SetAts el f cs el')
  (hg : guardIs ops ⟨fr, hp, gc⟩ ⟨none, .store t x y, ty, pos, after, gd⟩ true)
  (nx : ARun C ops K (k + 1) rest ⟨fr, (b, some ⟨gen, sz, els.set i el'⟩) :: hp, gc⟩ (fps ++ [([b], [b])])) : ARun C ops K k (⟨none, .store t x y, ty, pos, after, gd⟩ :: rest) ⟨fr, hp, gc⟩ fps := by
 refine ARun.step .dead [(b, ⟨gen, sz, els⟩)] [(b, some ⟨gen, sz, els.set i el'⟩)] hg (by simp [hb]) ?_ nx
 intro s c a w hS hf hargs hrd
 have hev : ∀ z ∈ [x, y], Rep c w (evA fr z) (a.eval z) := by
  intro z hz
  have hz' : z ∈ (Op.store t x y).operands.toList := by simpa [Op.operands] using hz
  rw [← args_ev hargs z hz']
  exact hS.ev z
 have h1 := hev x (by simp)
 have h2 := hev y (by simp)
 rw [hx] at h1
 have hbb := hrd (b, ⟨gen, sz, els⟩) (by simp)
 obtain ⟨β, cur, e, q1, q2, q3, q4, q5⟩ := blk_cells hS hbb hgg h1 he
 simp only at q1 q3 q4 q5
 obtain ⟨c1, c2, c3⟩ := cells_rep h2 hc
 obtain ⟨s1, s2, s3, s4⟩ := hs.spec
 obtain ⟨o, hob, hB⟩ := hS.hp b _ hbb
 simp only at hob
 rw [hgg] at hob
 rw [q3] at hob
 obtain rfl := Option.some.inj hob
 have hp0 := lt_of_blt h0
 obtain ⟨hob1, hob2, hob3⟩ := hB.row (by simp only; omega)
 simp only at hob1 hob2 hob3
 obtain ⟨cur', e', hcur, hroom, hrep⟩ := hob3
 obtain ⟨rfl, rfl⟩ := q2.inj hcur
 have hfit : i * sz + f + 0 + cs.length ≤ cur.size := by
  rw [Nat.add_zero]
  have hpos := lt_of_blt h0
  obtain ⟨u, hu, _⟩ := q5 (sz - 1) (el[sz - 1]'(by omega)) (List.getElem?_eq_getElem _)
  have := (Array.getElem?_eq_some_iff.1 hu).1
  omega
 have hst := RowAt.store C.P (i * sz + f) (a.eval y).cells.toList 0 q2 (by simpa [c1] using hfit) c3
 simp only [Nat.add_zero] at hst
 have hrun : (execOp a.eval ⟨none, .store t x y, ty, pos, after, gd⟩).run C.P w = .ok .skip (w.setRow β (cur.toList.take (i * sz + f) ++ (a.eval y).cells.toList ++ cur.toList.drop (i * sz + f + (a.eval y).cells.toList.length)).toArray) := by
  simp [execOp, Instr.storeAt, Instr.sureAddr, q1, storeVar, run_sizeOf ht, c1, hl, hst]
 refine wp_skip' hrun ⟨_, hS.upd (w' := w.setRow β _) b ⟨gen, sz, els.set i el'⟩ ⟨some β, sz, cur.size⟩ (.inr (by rw [hgg]; exact q3)) rfl rfl rfl (by simp) (fun β' _ hne => ?_) (fun β' hβ => ?_) (fun hm => .inl ⟨rfl, fun el2 hel2 => ?_, row_intro (R := fun cur _ => ∀ (i2 : Nat) (el2 : List AV) (f2 : Nat) (x2 : AV), (els.set i el')[i2]? = some el2 → el2[f2]? = some x2 → ∃ u, cur[i2 * sz + f2]? = some u ∧ u.oneCell' = true ∧ Rep _ _ x2 u) q2 rfl ?_ ?_⟩) none .dead undef (by simp) (by simp), fun g' hg' => ?_⟩
 ·refine setRow_other w β β' _ (fun e => hne (by rw [e]))
 ·exact .inr ⟨g, _, q3, hβ⟩
 ·rcases List.mem_or_eq_of_mem_set hel2 with h | h
  ·exact hob2 el2 h
  ·rw [h, s1]; exact q4
 ·have hc1 : (a.eval y).cells.toList.length = cs.length := by simpa using c1
  simp only [List.size_toArray, List.length_append, List.length_take, List.length_drop, Array.length_toList, hc1]
  omega
 ·intro i2 el2 f2 x2 hi2 hx2
  have hc1 : (a.eval y).cells.toList.length = cs.length := by simpa using c1
  have hnew : ∀ j, (cur.toList.take (i * sz + f) ++ (a.eval y).cells.toList ++ cur.toList.drop (i * sz + f + (a.eval y).cells.toList.length)).toArray[j]? =
    if j < i * sz + f then cur[j]? else if j < i * sz + f + cs.length then (a.eval y).cells[j - (i * sz + f)]? else cur[j]? := by
   intro j
   rw [List.getElem?_toArray, list_over _ _ _ (by rw [hc1, Array.length_toList]; omega) j, hc1]
   simp
  rw [hnew]
  simp only at hi2 ⊢
  rw [List.getElem?_set] at hi2
  have hf2 : f2 < sz := by
   have hx2' := (List.getElem?_eq_some_iff.1 hx2).1
   have : el2.length = sz := by
    split at hi2
    ·split at hi2
     ·obtain rfl := Option.some.inj hi2; rw [s1]; exact q4
     ·cases hi2
    ·exact hob2 el2 (List.mem_of_getElem? hi2)
   omega
  by_cases hii : i = i2
  ·subst hii
   rw [if_pos rfl, if_pos (List.getElem?_eq_some_iff.1 he).1] at hi2
   obtain rfl := Option.some.inj hi2
   by_cases hr1 : f2 < f
   ·rw [s4 f2 (.inl hr1)] at hx2
    rw [if_pos (by omega)]
    obtain ⟨u, r1, r2, r3⟩ := q5 f2 x2 hx2
    exact ⟨u, r1, r2, r3.mono hm⟩
   ·by_cases hr2 : f2 < f + cs.length
    ·rw [if_neg (by omega), if_pos (by omega)]
     have := s3 (f2 - f) (by omega)
     rw [show f + (f2 - f) = f2 by omega, hx2] at this
     obtain ⟨u, r1, r2, r3⟩ := c2 (f2 - f) x2 this.symm
     exact ⟨u, by rw [show i * sz + f2 - (i * sz + f) = f2 - f by omega]; exact r1, r2, r3.mono hm⟩
    ·rw [s4 f2 (.inr (by omega))] at hx2
     rw [if_neg (by omega), if_neg (by omega)]
     obtain ⟨u, r1, r2, r3⟩ := q5 f2 x2 hx2
     exact ⟨u, r1, r2, r3.mono hm⟩
  ·rw [if_neg hii] at hi2
   obtain ⟨u, r1, r2, r3⟩ := hrep i2 el2 f2 x2 hi2 hx2
   have hfl : f + cs.length ≤ sz := by omega
   refine ⟨u, ?_, r2, r3.mono hm⟩
   have hne : i2 * sz + f2 < i * sz + f ∨ i * sz + f + cs.length ≤ i2 * sz + f2 := by
    rcases Nat.lt_or_gt_of_ne hii with h | h
    ·right
     have : (i + 1) * sz ≤ i2 * sz := Nat.mul_le_mul_right _ h
     rw [Nat.add_mul] at this
     omega
    ·left
     have : (i2 + 1) * sz ≤ i * sz := Nat.mul_le_mul_right _ h
     rw [Nat.add_mul] at this
     omega
   rcases hne with h | h
   ·rw [if_pos h]; exact r1
   ·rw [if_neg (by omega), if_neg (by omega)]; exact r1
 ·rcases hg' with h | h
  ·exact .inl h
  ·left
   simp only at h
   rw [h]
   exact (hS.al b g _ q3).1 |> (fun z => hgg ▸ z)
end
end Go.Proofs.Ytkmlmboclegpcaa
namespace Go.Proofs.Ytkmlmboclegpcaa
open Go Go.RowKit
def RC.pure (st : Nat → Prop) : RC := ⟨fun _ _ => none, fun _ => True, st⟩
def retV : List Value → Value
 | [v] => v
 | l => .tuple l.toArray
def retAV : List AV → AV
 | [v] => v
 | l => .tup l
def FnC (P : Program) (f : FuncId) (args : List AV) (res : AV) : Prop :=
 (∀ (vs : Array Value) (w : World), (callFunc f vs).run P w = .ok (.enter f vs) w) ∧
 ∀ (w : World) (st : Nat → Prop) (vs : List Value), (∀ β, st β → β < w.heap.size) → vs.length = args.length → (∀ (i : Nat) (x : AV) (u : Value), args[i]? = some x → vs[i]? = some u → Rep (RC.pure st) w x u) →
  Calls P f vs.toArray w (fun e w' => ∃ r St, e = .returned r ∧ Below w.heap.size w w' ∧ (∀ β, st β → St β) ∧ (∀ β, St β → st β ∨ (w.heap.size ≤ β ∧ β < w'.heap.size)) ∧ ∀ own used, Rep ⟨own, used, St⟩ w' res r)
inductive Closed : AV → Prop where
 | val (v : Value) : Closed (.val v)
 | rp {es : List AV} (h : ∀ x, x ∈ es → Closed x) : Closed (.rp es)
 | sl {sz : Nat} {full : Bool} {els : List (List AV)} (h : ∀ el x, el ∈ els → x ∈ el → Closed x) : Closed (.sl sz full els)
 | agg {es : List AV} (h : ∀ x, x ∈ es → Closed x) : Closed (.agg es)
 | tup {es : List AV} (h : ∀ x, x ∈ es → Closed x) : Closed (.tup es)
 | clo {f : Fn} {first cap : List AV} (h : ∀ x, x ∈ first → Closed x) (h' : ∀ x, x ∈ cap → Closed x) : Closed (.clo f first cap)
 | mp {ks : List Value} {vs : List AV} (h : ∀ x, x ∈ vs → Closed x) : Closed (.mp ks vs)
 | bany : Closed .bany
 | dead : Closed .dead
theorem closedL_nil : ∀ x, x ∈ ([] : List AV) → Closed x := fun x h => by cases h
theorem closedL_cons {a : AV} {l : List AV} (h : Closed a) (t : ∀ x, x ∈ l → Closed x) : ∀ x, x ∈ a :: l → Closed x := fun x hx => by
 rcases List.mem_cons.1 hx with rfl | hx
 ·exact h
 ·exact t x hx
theorem Rep.closed {c : RC} {w w' : World} {v : AV} {u : Value} (r : Rep c w v u) : Closed v → ∀ (c' : RC), (∀ β, c.st β → c'.st β ∧ w'.heap[β]? = w.heap[β]?) → Rep c' w' v u := by
 induction r with
 | val v => exact fun _ _ _ => .val v
 | ptr b g i f β o hu hp => exact fun h => by cases h
 | rp es β o us hs hc _ ih =>
  intro h c' hm
  cases h with
  | rp h =>
   by_cases he : es = []
   ·subst he
    exact .rp [] β o us (fun k => absurd rfl k) (fun f x hx => by simp at hx) (fun f x hx => by simp at hx)
   ·obtain ⟨h1, h2⟩ := hm β (hs he)
    exact .rp es β o us (fun _ => h1) (fun f x hx => ⟨(cell_same h2 _).trans (hc f x hx).1, (hc f x hx).2⟩) (fun f x hx => ih f x hx (h x (List.mem_of_getElem? hx)) c' hm)
 | sl sz full els A cap β o us hn hm hf h0 hz hA hc _ ih =>
  intro h c' hm'
  cases h with
  | sl h =>
   refine .sl sz full els A cap β o us hn hm hf h0 hz (fun he => ⟨(hA he).1, fun hz' => (hm' β ((hA he).2 hz')).1⟩) (fun i el f x hi hx => ⟨?_, (hc i el f x hi hx).2⟩) (fun i el f x hi hx => ih i el f x hi hx (h el x (List.mem_of_getElem? hi) (List.mem_of_getElem? hx)) c' hm')
   have he : els ≠ [] := by intro e; subst e; simp at hi
   have hs : 0 < sz := by
    have h1 := hz el (List.mem_of_getElem? hi)
    have h2 := (List.getElem?_eq_some_iff.1 hx).1
    omega
   exact (cell_same (hm' β ((hA he).2 hs)).2 _).trans (hc i el f x hi hx).1
 | own b g lo n A m cap hu hp => exact fun h => by cases h
 | agg es us hl h1 _ ih =>
  intro h c' hm
  cases h with
  | agg h => exact .agg es us hl h1 (fun i x u hx hu => ih i x u hx hu (h x (List.mem_of_getElem? hx)) c' hm)
 | tup es us hl _ ih =>
  intro h c' hm
  cases h with
  | tup h => exact .tup es us hl (fun i x u hx hu => ih i x u hx hu (h x (List.mem_of_getElem? hx)) c' hm)
 | clo f first cap us vs hl hl' _ _ ih ih' =>
  intro h c' hm
  cases h with
  | clo h h' => exact .clo f first cap us vs hl hl' (fun i x u hx hu => ih i x u hx hu (h x (List.mem_of_getElem? hx)) c' hm) (fun i x u hx hu => ih' i x u hx hu (h' x (List.mem_of_getElem? hx)) c' hm)
 | it b g β hu hp => exact fun h => by cases h
 | mo b g β hu hp => exact fun h => by cases h
 | mp ks vs β clock es hs hh hk hl _ ih =>
  intro h c' hm
  cases h with
  | mp h => exact .mp ks vs β clock es (hm β hs).1 ((hm β hs).2.trans hh) hk hl (fun i x e hx he => ih i x e hx he (h x (List.mem_of_getElem? hx)) c' hm)
 | bany b => exact fun _ _ _ => .bany b
 | dead v => exact fun _ _ _ => .dead v
inductive Reif (s : AS) : AV → AV → Prop where
 | closed (v : AV) (h : Closed v) : Reif s v v
 | own {b g lo n : Nat} {blk : Blk} {els' : List (List AV)} (hb : lkH s.hp b = some blk) (hg : blk.gen = g) (hl : lo + n ≤ blk.els.length) (hn : els'.length = n)
   (hlen : ∀ (i : Nat) (el el' : List AV), blk.els[lo + i]? = some el → els'[i]? = some el' → el'.length = el.length)
   (hr : ∀ (i : Nat) (el el' : List AV) (f : Nat) (x x' : AV), blk.els[lo + i]? = some el → els'[i]? = some el' → el[f]? = some x → el'[f]? = some x' → Reif s x x') : Reif s (.own b g lo n) (.sl blk.sz false els')
 | agg {es es' : List AV} (hl : es'.length = es.length) (hr : ∀ (i : Nat) (x x' : AV), es[i]? = some x → es'[i]? = some x' → Reif s x x') : Reif s (.agg es) (.agg es')
 | nil (sz sz' : Nat) (full : Bool) : Reif s (.sl sz full []) (.sl sz' false [])
 | made {b g gen sz : Nat} {ks : List Value} {vs : List AV} (hb : lkH s.hp b = some ⟨gen, sz, [.dead :: ks.map .val, vs]⟩) (hg : gen = g) (h : ∀ x, x ∈ vs → Closed x) : Reif s (.mo b g) (.mp ks vs)
 | weak {sz : Nat} {els : List (List AV)} (h : Closed (.sl sz true els)) : Reif s (.sl sz true els) (.sl sz false els)
 | ptr {b g i gen sz : Nat} {els : List (List AV)} {el : List AV} (hb : lkH s.hp b = some ⟨gen, sz, els⟩) (hg : gen = g) (he : els[i]? = some el) (h : ∀ x, x ∈ el → Closed x) : Reif s (.ptr b g i 0) (.rp el)
 | clo {f : Fn} {first first' cap cap' : List AV} (hl : first'.length = first.length) (hr : ∀ (i : Nat) (x x' : AV), first[i]? = some x → first'[i]? = some x' → Reif s x x') (hl' : cap'.length = cap.length) (hr' : ∀ (i : Nat) (x x' : AV), cap[i]? = some x → cap'[i]? = some x' → Reif s x x') : Reif s (.clo f first cap) (.clo f first' cap')
def RL (s : AS) (es es' : List AV) : Prop := es'.length = es.length ∧ ∀ (i : Nat) (x x' : AV), es[i]? = some x → es'[i]? = some x' → Reif s x x'
theorem RL.nil (s : AS) : RL s [] [] := ⟨rfl, fun i x x' h => by simp at h⟩
theorem RL.cons {s : AS} {x x' : AV} {es es' : List AV} (h : Reif s x x') (t : RL s es es') : RL s (x :: es) (x' :: es') :=
 ⟨by simp [t.1], fun i y y' hy hy' => by
  cases i with
  | zero =>
   simp only [List.getElem?_cons_zero, Option.some.injEq] at hy hy'
   subst hy
   subst hy'
   exact h
  | succ i => exact t.2 i y y' (by simpa using hy) (by simpa using hy')⟩
theorem Reif.aggL {s : AS} {es es' : List AV} (h : RL s es es') : Reif s (.agg es) (.agg es') := .agg h.1 h.2
theorem Reif.cloL {s : AS} {f : Fn} {first first' cap cap' : List AV} (h : RL s first first') (h' : RL s cap cap') : Reif s (.clo f first cap) (.clo f first' cap') := .clo h.1 h.2 h'.1 h'.2
theorem Reif.nilSl {s : AS} {sz sz' : Nat} {full : Bool} : Reif s (.sl sz full []) (.sl sz' false []) := .nil sz sz' full
theorem Reif.val {s : AS} (v : Value) : Reif s (.val v) (.val v) := .closed _ (.val v)
theorem Reif.owned {s : AS} {b g n gen sz : Nat} {els : List (List AV)} (hb : lkH s.hp b = some ⟨gen, sz, els⟩) (hg : gen = g) (hn : els.length = n) (hc : ∀ el x, el ∈ els → x ∈ el → Closed x) : Reif s (.own b g 0 n) (.sl sz false els) :=
 .own (blk := ⟨gen, sz, els⟩) (els' := els) hb hg (by simp [hn]) hn (fun i el el' h h' => by
  simp only [Nat.zero_add] at h
  rw [h] at h'
  obtain rfl := Option.some.inj h'
  rfl) (fun i el el' f x x' h h' hx hx' => by
  simp only [Nat.zero_add] at h
  rw [h] at h'
  obtain rfl := Option.some.inj h'
  rw [hx] at hx'
  obtain rfl := Option.some.inj hx'
  exact .closed x (hc el x (List.mem_of_getElem? h) (List.mem_of_getElem? hx)))
def RC.given (c : RC) : Nat → Prop := fun β => c.st β ∨ ∃ b g o, c.own b g = some o ∧ o.loc = some β
theorem Reif.rep {C : ACtx} {s : AS} {c : RC} {a : Act} {w : World} (hS : Sim C s c a w) {v v' : AV} (h : Reif s v v') : ∀ {u : Value}, Rep c w v u → ∀ own used, Rep ⟨own, used, c.given⟩ w v' u := by
 induction h with
 | closed v hc => exact fun r own used => r.closed hc _ (fun β hb => ⟨.inl hb, rfl⟩)
 | @own b g lo n blk els' hb hg hl hn hlen _ ih =>
  intro u r own used
  subst hg
  obtain ⟨o, h1, hB⟩ := hS.hp b blk hb
  cases r with
  | own _ _ _ _ A m cap hu hp =>
   obtain ⟨rfl, k2, k3, k4, k0, k5⟩ := hp o h1
   obtain ⟨h2, h3, h4⟩ := hB.row k0
   subst hn
   rcases k5 with hcap | ⟨β, k5, k6, k7⟩
   ·-- no room: nothing is there
    subst hcap
    have hn0 : els'.length = 0 := by omega
    have he : els' = [] := List.eq_nil_of_length_eq_zero hn0
    subst he
    refine .sl blk.sz false [] A 0 0 0 (fun _ _ => undef) (by simp) (by simp [maxLen]) (by simp) (fun _ => rfl) (by simp) (fun h => absurd rfl h) (fun i el f x hi => by simp at hi) (fun i el f x hi => by simp at hi)
   ·rw [k5] at h4
    obtain ⟨cur, e, q1, q2, q3⟩ := h4
    rw [h2] at k6
    have hel : ∀ (i : Nat) (el' : List AV), els'[i]? = some el' → ∃ el, blk.els[lo + i]? = some el ∧ el'.length = el.length := by
     intro i el' hi
     have hi' := (List.getElem?_eq_some_iff.1 hi).1
     have : blk.els[lo + i]? = some (blk.els[lo + i]'(by omega)) := List.getElem?_eq_getElem _
     exact ⟨_, this, hlen i _ el' this hi⟩
    have hcell : ∀ (i : Nat) (el' : List AV) (f : Nat) (x' : AV), els'[i]? = some el' → el'[f]? = some x' → ∃ u x, cur[(lo + i) * blk.sz + f]? = some u ∧ u.oneCell' = true ∧ Rep c w x u ∧ ∀ own used, Rep ⟨own, used, c.given⟩ w x' u := by
     intro i el' f x' hi hx
     obtain ⟨el, e1, e2⟩ := hel i el' hi
     have hfl : f < el.length := by rw [← e2]; exact (List.getElem?_eq_some_iff.1 hx).1
     obtain ⟨u, r1, r2, r3⟩ := q3 (lo + i) el f (el[f]) e1 (List.getElem?_eq_getElem hfl)
     exact ⟨u, el[f], r1, r2, r3, fun own used => ih i el el' f el[f] x' e1 hi (List.getElem?_eq_getElem hfl) hx r3 own used⟩
    refine .sl blk.sz false els' A cap β (lo * blk.sz) (fun i f => (cur[(lo + i) * blk.sz + f]?).getD undef) k2 k3 (by simp) k4 (fun el' hel' => ?_) (fun _ => ⟨k6, fun _ => .inr ⟨b, blk.gen, o, h1, k5⟩⟩) (fun i el' f x' hi hx => ?_) (fun i el' f x' hi hx => ?_)
    ·obtain ⟨i, hi⟩ := List.getElem?_of_mem hel'
     obtain ⟨el, e1, e2⟩ := hel i el' hi
     rw [e2]
     exact h3 el (List.mem_of_getElem? e1)
    ·obtain ⟨u, x, r1, r2, _⟩ := hcell i el' f x' hi hx
     rw [r1]
     refine ⟨?_, r2⟩
     rw [cell_row q1, ← Nat.add_mul]
     exact r1
    ·obtain ⟨u, x, r1, r2, r3, r4⟩ := hcell i el' f x' hi hx
     rw [r1]
     exact r4 own used
 | nil sz sz' full =>
  intro u r own used
  cases r with
  | sl _ _ _ A cap β o us hn hm hf h0 hz hA hc hr => exact .sl sz' false [] A cap β o us hn hm (by simp) h0 (by simp) (fun h => absurd rfl h) (fun i el f x hi => by simp at hi) (fun i el f x hi => by simp at hi)
 | @made b g gen sz ks vs hb hg hcl =>
  intro u r own used
  subst hg
  obtain ⟨o, h1, hB⟩ := hS.hp b _ hb
  simp only at h1
  cases r with
  | mo _ _ β hu hp =>
   obtain ⟨hloc, hsz⟩ := hp o h1
   obtain ⟨_, _, β', q1, q2⟩ := hB.obj hsz
   rw [hloc] at q1
   obtain rfl := Option.some.inj q1
   rcases q2 with ⟨s, pos, r1, r2⟩ | ⟨es, clock, ks', vs', r1, r2, r3, r4, r5⟩
   ·simp at r2
   ·simp only [List.cons.injEq, and_true, true_and] at r4
    obtain ⟨e1, e2⟩ := r4
    have e1 : ks = ks' := by
     have := congrArg (List.map (fun a => match a with | AV.val v => v | _ => undef)) e1
     simpa [List.map_map, Function.comp_def] using this
    subst e1
    subst e2
    exact .mp ks vs β clock es (.inr ⟨b, gen, o, h1, hloc⟩) r1 r2 r3 (fun i x e hx he => (r5 i x e hx he).closed (hcl x (List.mem_of_getElem? hx)) _ (fun β hb => ⟨.inl hb, rfl⟩))
 | @weak sz els hcl =>
  intro u r own used
  have := r.closed (w' := w) hcl ⟨own, used, c.given⟩ (fun β hb => ⟨.inl hb, rfl⟩)
  cases this with
  | sl _ _ _ A cap β o us hn hm hf h0 hz hA hc hr => exact .sl sz false els A cap β o us hn hm (by simp) h0 hz hA hc hr
 | @ptr b g i gen sz els el hb hg he hcl =>
  intro u r own used
  subst hg
  obtain ⟨o, h1, hB⟩ := hS.hp b _ hb
  simp only at h1
  cases r with
  | ptr _ _ _ _ β off hu hp =>
   obtain ⟨k1, k2, k3⟩ := hp o h1
   obtain ⟨h2, h3, h4⟩ := hB.row k3
   simp only at h2 h3 h4
   rw [k1] at h4
   obtain ⟨cur, e, q1, q2, q3⟩ := h4
   rw [h2, Nat.add_zero] at k2
   subst k2
   refine .rp el β (i * sz) (fun f => (cur[i * sz + f]?).getD undef) (fun _ => .inr ⟨b, gen, o, h1, k1⟩) (fun f x hx => ?_) (fun f x hx => ?_)
   ·obtain ⟨v, r1, r2, r3⟩ := q3 i el f x he hx
    rw [r1]
    refine ⟨?_, r2⟩
    rw [cell_row q1]
    exact r1
   ·obtain ⟨v, r1, r2, r3⟩ := q3 i el f x he hx
    rw [r1]
    exact r3.closed (hcl x (List.mem_of_getElem? hx)) _ (fun β hb => ⟨.inl hb, rfl⟩)
 | @clo f first first' cap cap' hl _ hl' _ ih ih' =>
  intro u r own used
  cases r with
  | clo _ _ _ us vs k1 k2 k3 k4 =>
   refine .clo f first' cap' us vs (k1.trans hl.symm) (k2.trans hl'.symm) (fun i x' u hx hu => ?_) (fun i x' u hx hu => ?_)
   ·have hi : i < first.length := by rw [← hl]; exact (List.getElem?_eq_some_iff.1 hx).1
    exact ih i first[i] x' (List.getElem?_eq_getElem hi) hx (k3 i _ u (List.getElem?_eq_getElem hi) hu) own used
   ·have hi : i < cap.length := by rw [← hl']; exact (List.getElem?_eq_some_iff.1 hx).1
    exact ih' i cap[i] x' (List.getElem?_eq_getElem hi) hx (k4 i _ u (List.getElem?_eq_getElem hi) hu) own used
 | @agg es es' hl _ ih =>
  intro u r own used
  cases r with
  | agg _ us hl' h1 hr =>
   refine .agg es' us (hl'.trans hl.symm) h1 (fun i x' u hx hu => ?_)
   have hi : i < es.length := by rw [← hl]; exact (List.getElem?_eq_some_iff.1 hx).1
   exact ih i es[i] x' (List.getElem?_eq_getElem hi) hx (hr i _ u (List.getElem?_eq_getElem hi) hu) own used
inductive ResA (C : ACtx) (s : AS) : ResultVar → AV → Prop where
 | tmp {t : Nat} {v : AV} (h : Reif s (lkA s.fr t) v) : ResA C s (.tmp t) v
 | agg {t ty b g i f : Nat} {blk : Blk} {ti : TI} {el cs cs' : List AV} (hx : lkA s.fr t = .ptr b g i f) (hb : lkH s.hp b = some blk) (hg : blk.gen = g) (he : blk.els[i]? = some el) (ht : C.T ty = some ti) (ha : ti.k.agg = true) (hc : loadCs el f ti.size = some cs) (h : RL s cs cs') : ResA C s (.cell t ty) (.agg cs')
 | one {t ty b g i f : Nat} {blk : Blk} {ti : TI} {el : List AV} {v v' : AV} (hx : lkA s.fr t = .ptr b g i f) (hb : lkH s.hp b = some blk) (hg : blk.gen = g) (he : blk.els[i]? = some el) (ht : C.T ty = some ti) (ha : ti.k.agg = false) (hc : el[f]? = some v) (h : Reif s v v') : ResA C s (.cell t ty) v'
inductive ResL (C : ACtx) (s : AS) : List ResultVar → List AV → Prop where
 | nil : ResL C s [] []
 | cons {r : ResultVar} {v : AV} {rs : List ResultVar} {vs : List AV} (h : ResA C s r v) (t : ResL C s rs vs) : ResL C s (r :: rs) (v :: vs)
def retA (C : ACtx) (rs : Array ResultVar) (res : AV) : Exit → AS → Prop
 | .normal, s => ∃ vs, ResL C s rs.toList vs ∧ res = retAV vs
 | .ret, s => ∃ vs, ResL C s rs.toList vs ∧ res = retAV vs
 | _, _ => False
def resOne (tmps : Array Value) : ResultVar → Sem Value
 | .tmp t => Sem.pure (tmps.getD t undef)
 | .cell a t => do loadVar t (← asAddr (tmps.getD a undef))
theorem ResA.run {C : ACtx} {s : AS} {c : RC} {a : Act} {w : World} (hS : Sim C s c a w) {r : ResultVar} {v : AV} (h : ResA C s r v) : ∃ u, (resOne a.tmps r).run C.P w = .ok u w ∧ ∀ own used, Rep ⟨own, used, c.given⟩ w v u := by
 cases h with
 | @tmp t v h => exact ⟨a.tmps.getD t undef, rfl, h.rep hS (hS.fr t)⟩
 | @agg t ty b g i f blk ti el cs cs' hx hb hg he ht ha hc h =>
  have h1 := hS.fr t
  rw [hx] at h1
  obtain ⟨β, cur, e, q1, q2, q3, q4, q5⟩ := blk_cells hS hb hg h1 he
  obtain ⟨l1, l2⟩ := loadCs_spec hc
  obtain ⟨us, m1, m2⟩ := pick_list (fun j x u => w.cell? ⟨β, i * blk.sz + f + j, none⟩ = some u ∧ u.oneCell' = true ∧ Rep c w x u) cs 0 (fun j x hx => by
   obtain ⟨u, r1, r2, r3⟩ := q5 (f + j) x (l2 j x hx)
   refine ⟨u, ?_, r2, r3⟩
   rw [Nat.zero_add, cell_row q2, Nat.add_assoc]
   exact r1)
  have hget : ∀ (j : Nat) (u : Value), us[j]? = some u → ∃ x, cs[j]? = some x := fun j u hu => ⟨cs[j]'(by have := (List.getElem?_eq_some_iff.1 hu).1; omega), List.getElem?_eq_getElem _⟩
  have hagg : Rep c w (.agg cs) (.agg us.toArray) := .agg cs us m1 (fun u hu => by
   obtain ⟨j, hj⟩ := List.getElem?_of_mem hu
   obtain ⟨x, hx⟩ := hget j u hj
   exact (m2 j x u hx hj).2.1) (fun j x u hx hu => (m2 j x u hx hu).2.2)
  refine ⟨.agg us.toArray, ?_, (Reif.aggL h).rep hS hagg⟩
  have := run_loadAgg ht ha w β (i * blk.sz + f) us (m1.trans l1) (fun j u hu => by
   obtain ⟨x, hx⟩ := hget j u hu
   have := (m2 j x u hx hu).1
   rwa [Nat.zero_add] at this)
  simp only [Instr.loadAt, Instr.sureAddr, Sem.run_bind, Sem.run_pure, Result.andThen_ok] at this
  simp [resOne, q1, asAddr, this]
 | @one t ty b g i f blk ti el v v' hx hb hg he ht ha hc h =>
  have h1 := hS.fr t
  rw [hx] at h1
  obtain ⟨β, cur, e, q1, q2, q3, q4, q5⟩ := blk_cells hS hb hg h1 he
  obtain ⟨u, r1, r2, r3⟩ := q5 f v hc
  refine ⟨u, ?_, h.rep hS r3⟩
  have := run_loadOne ht ha w ⟨β, i * blk.sz + f, none⟩ u ((cell_row q2).trans r1)
  simp only [Instr.loadAt, Instr.sureAddr, Sem.run_bind, Sem.run_pure, Result.andThen_ok] at this
  simp [resOne, q1, asAddr, this]
theorem ResL.run {C : ACtx} {s : AS} {c : RC} {a : Act} {w : World} (hS : Sim C s c a w) {rs : List ResultVar} {vs : List AV} (h : ResL C s rs vs) :
  ∃ us : List Value, (rs.mapM (resOne a.tmps)).run C.P w = .ok us w ∧ us.length = vs.length ∧ ∀ (i : Nat) (x : AV) (u : Value), vs[i]? = some x → us[i]? = some u → ∀ own used, Rep ⟨own, used, c.given⟩ w x u := by
 induction h with
 | nil => exact ⟨[], by simp, rfl, fun i x u h => by simp at h⟩
 | @cons r v rs vs h _ ih =>
  obtain ⟨u, h1, h2⟩ := h.run hS
  obtain ⟨us, g1, g2, g3⟩ := ih
  refine ⟨u :: us, ?_, by simp [g2], fun i x z hx hz => ?_⟩
  ·rw [List.mapM_cons]
   simp [Sem.run_bind, h1, g1]
  ·cases i with
   | zero =>
    simp only [List.getElem?_cons_zero, Option.some.injEq] at hx hz
    subst hx
    subst hz
    exact h2
   | succ i => exact g3 i x z (by simpa using hx) (by simpa using hz)
theorem run_results {P : Program} {fn : Func} {tmps : Array Value} {w : World} {us : List Value} (h : (fn.results.toList.mapM (resOne tmps)).run P w = .ok us w) : (results fn tmps).run P w = .ok (retV us) w := by
 have e : results fn tmps = (do
   let vs ← fn.results.mapM (resOne tmps)
   pure (if h : vs.size = 1 then vs[0] else .tuple vs)) := by
  unfold results
  congr 1
 rw [e, Array.mapM_eq_mapM_toList]
 simp only [Sem.run_map, bind_pure_comp, h, Result.andThen_ok]
 match us with
 | [] => rfl
 | [u] => rfl
 | u :: v :: l => simp [retV]
def frOf : Nat → List AV → List (Nat × AV)
 | _, [] => []
 | k, v :: l => (k, v) :: frOf (k + 1) l
theorem lk_frOf : ∀ (l : List AV) (k t : Nat), lkA (frOf k l) t = if k ≤ t then (l[t - k]?).getD .dead else .dead
 | [], k, t => by simp [frOf, lkA]
 | v :: l, k, t => by
  rw [frOf, lkA_cons, lk_frOf l (k + 1) t]
  by_cases h : t = k
  ·subst h
   simp
  ·rw [if_neg h]
   by_cases h2 : k + 1 ≤ t
   ·rw [if_pos h2, if_pos (by omega), show t - k = (t - (k + 1)) + 1 by omega]
    rfl
   ·rw [if_neg h2, if_neg (by omega)]
theorem Rep.drop {c : RC} {w w1 : World} {M : Nat → Prop} (hM : ∀ β, M β → ∃ o, w.heap[β]? = some (.deferred o)) (hs : ∀ β, ¬ M β → w1.heap[β]? = w.heap[β]?) {v : AV} {u : Value} (r : Rep c w v u) : Rep ⟨c.own, c.used, fun β => c.st β ∧ ¬ M β⟩ w1 v u := by
 have hcell : ∀ {β o : Nat} {u : Value}, w.cell? ⟨β, o, none⟩ = some u → ¬ M β := by
  intro β o u h hm
  obtain ⟨x, hx⟩ := hM β hm
  simp [World.cell?, hx] at h
 induction r with
 | val v => exact .val v
 | ptr b g i f β o hu hp => exact .ptr b g i f β o hu hp
 | rp es β o us hst hc _ ih =>
  by_cases he : es = []
  ·subst he
   exact .rp [] β o us (fun k => absurd rfl k) (fun f x hx => by simp at hx) (fun f x hx => by simp at hx)
  ·obtain ⟨x, es', rfl⟩ := List.exists_cons_of_ne_nil he
   have hm := hcell (hc 0 x rfl).1
   exact .rp _ β o us (fun _ => ⟨hst he, hm⟩) (fun f x hx => ⟨(cell_same (hs β hm) _).trans (hc f x hx).1, (hc f x hx).2⟩) ih
 | sl sz full els A cap β o us hn hm hf h0 hz hA hc _ ih =>
  refine .sl sz full els A cap β o us hn hm hf h0 hz (fun he => ⟨(hA he).1, fun hz' => ⟨(hA he).2 hz', ?_⟩⟩) (fun i el f x hi hx => ⟨(cell_same (hs β (hcell (hc i el f x hi hx).1)) _).trans (hc i el f x hi hx).1, (hc i el f x hi hx).2⟩) ih
  obtain ⟨el, els', rfl⟩ := List.exists_cons_of_ne_nil he
  have hl := hz el (by simp)
  obtain ⟨x, el', rfl⟩ := List.exists_cons_of_ne_nil (l := el) (by intro e; subst e; simp at hl; omega)
  exact hcell (hc 0 _ 0 x rfl rfl).1
 | own b g lo n A m cap hu hp => exact .own b g lo n A m cap hu hp
 | agg es us hl h1 _ ih => exact .agg es us hl h1 ih
 | tup es us hl _ ih => exact .tup es us hl ih
 | clo f first cap us vs hl hl' _ _ ih ih' => exact .clo f first cap us vs hl hl' ih ih'
 | it b g β hu hp => exact .it b g β hu hp
 | mo b g β hu hp => exact .mo b g β hu hp
 | mp ks vs β clock es hst hh hk hl _ ih =>
  have hm : ¬ M β := fun hm => by
   obtain ⟨x, hx⟩ := hM β hm
   rw [hx] at hh
   cases hh
  exact .mp ks vs β clock es ⟨hst, hm⟩ ((hs β hm).trans hh) hk hl ih
 | bany b => exact .bany b
 | dead v => exact .dead v
theorem BlkRep.drop {c : RC} {w w1 : World} {M : Nat → Prop} (hM : ∀ β, M β → ∃ o, w.heap[β]? = some (.deferred o)) (hs : ∀ β, ¬ M β → w1.heap[β]? = w.heap[β]?) {blk : Blk} {o : OB} (hl : ∀ β, o.loc = some β → ¬ M β) (r : BlkRep c w blk o) : BlkRep ⟨c.own, c.used, fun β => c.st β ∧ ¬ M β⟩ w1 blk o := by
 rcases r with ⟨h1, h2, h3⟩ | ⟨h1, h2, β, h3, r⟩
 ·refine .inl ⟨h1, h2, ?_⟩
  cases ho : o.loc with
  | none => rw [ho] at h3; exact h3
  | some β =>
   rw [ho] at h3
   obtain ⟨cur, e, g1, g2, g3⟩ := h3
   refine ⟨cur, e, g1.congr (hs β (hl β ho)), g2, fun i el f x hi hx => ?_⟩
   obtain ⟨u, k1, k2, k3⟩ := g3 i el f x hi hx
   exact ⟨u, k1, k2, k3.drop hM hs⟩
 ·refine .inr ⟨h1, h2, β, h3, ?_⟩
  rcases r with ⟨s, pos, r1, r2⟩ | ⟨es, clock, ks, vs, r1, r2, r3, r4, r5⟩
  ·exact .inl ⟨s, pos, (hs β (hl β h3)).trans r1, r2⟩
  ·exact .inr ⟨es, clock, ks, vs, (hs β (hl β h3)).trans r1, r2, r3, r4, fun i x e hx he => (r5 i x e hx he).drop hM hs⟩
theorem Sim.shut {C : ACtx} {s : AS} {c : RC} {a : Act} {w w1 : World} (hS : Sim C s c a w) (M : Nat → Prop) (hM : ∀ β, M β → c.st β ∧ C.w0.heap.size ≤ β ∧ ∃ o, w.heap[β]? = some (.deferred o)) (hout : ∀ β, ¬ M β → w1.heap[β]? = w.heap[β]?) (hsz : w1.heap.size = w.heap.size)
  (hos : w1.os = w.os) (hta : w1.tape = w.tape) (hou : w1.output = w.output) (h0 : ∀ β, C.st0 β → β < C.w0.heap.size) (h0' : ∀ β, C.c0.st β → β < C.w0.heap.size) : Sim C s ⟨c.own, c.used, fun β => c.st β ∧ ¬ M β⟩ { a with defers := [] } w1 := by
 have hM' : ∀ β, M β → ∃ o, w.heap[β]? = some (.deferred o) := fun β h => (hM β h).2.2
 refine ⟨Nd.nil _ _ _ _, hS.sz, fun t => (hS.fr t).drop hM' hout, fun b blk hb => ?_, fun b g o ho => ?_, hS.inj, fun β hβ => ?_, fun β hβ => ⟨hS.st0 β hβ, fun hm => ?_⟩, hS.old.trans' hos hta hou (Nat.le_of_eq hsz.symm) (fun k hk _ => hout k (fun hm => ?_)), ⟨fun β hβ => ?_, hS.mo.used, hS.mo.own⟩⟩
 ·obtain ⟨o, h1, h2⟩ := hS.hp b blk hb
  exact ⟨o, h1, h2.drop hM' hout (fun β hβ hm => ((hS.al b _ o h1).2.2 β hβ).2.1 (hM β hm).1)⟩
 ·obtain ⟨k1, k2, k4⟩ := hS.al b g o ho
  refine ⟨k1, k2, fun β hβ => ?_⟩
  obtain ⟨q1, q2, q3⟩ := k4 β hβ
  exact ⟨by omega, fun hs => q2 hs.1, q3⟩
 ·have := hS.st β hβ.1
  exact ⟨by omega, this.2⟩
 ·have := h0 β hβ
  have := (hM β hm).2.1
  omega
 ·have := (hM k hm).2.1
  omega
 ·have hn : ¬ M β := fun hm => by
   have := h0' β hβ
   have := (hM β hm).2.1
   omega
  exact ⟨⟨(hS.mo.st β hβ).1, hn⟩, (hout β hn).trans (hS.mo.st β hβ).2⟩
theorem leavesM {F : Fence} {n : Nat} {P : Program} {fn : Func} {tmps : Array Value} {R : Ending → World → Prop} {rd : Option Nat × Bool} {c : RC} {w0 : World} : ∀ (ds : List Deferred) (w : World), Nd rd c w0 w ds →
  (∀ w1 : World, (∀ β, { target := .collected β, args := #[] } ∉ ds → w1.heap[β]? = w.heap[β]?) → w1.heap.size = w.heap.size → w1.os = w.os → w1.tape = w.tape → w1.output = w.output → ∃ v, (results fn tmps).run P w1 = .ok v w1 ∧ R (.returned v) w1) →
  LeavesInM F n P fn tmps R ds .returning w
 | [], w, _, h => h w (fun _ _ => rfl) rfl rfl rfl rfl
 | d :: ds, w, hn, h => by
  obtain ⟨D, hd, h2, h3, h4⟩ := hn.at_ d (by simp)
  have hnd := List.nodup_cons.1 hn.nodup
  refine ⟨by simp, .inl ⟨D, w.putObj D (.deferred none), by rw [hd], run_takeDeferred h4, leavesM (rd := (none, false)) (c := c) (w0 := w0) ds _ ⟨fun d' hd' => ?_, hnd.2, fun h => (by cases h)⟩ (fun w1 k1 k2 k3 k4 k5 => h w1 (fun β hβ => ?_) (by rw [k2, World.putObj_size]) k3 k4 k5)⟩⟩
  ·obtain ⟨D', g1, g2, g3, g4⟩ := hn.at_ d' (by simp [hd'])
   refine ⟨D', g1, g2, g3, ?_⟩
   rw [World.putObj_heap_other]
   ·exact g4
   ·intro e
    rw [e, ← hd] at g1
    rw [g1] at hd'
    exact hnd.1 hd'
  ·rw [List.mem_cons, not_or] at hβ
   rw [k1 β hβ.2, World.putObj_heap_other]
   intro e
   rw [e, hd] at hβ
   exact hβ.1 rfl
abbrev RC.bare (st : Nat → Prop) : RC := ⟨fun _ _ => Option.none, fun _ => False, st⟩
theorem FnC.of_awp {P : Program} {T : Nat → Option TI} {ok : ∀ t ti, T t = some ti → tiOf P t = some ti} {f : FuncId} {fn : Func} {code : Code} {args : List AV} {res : AV} (hf : P.funcs[f]? = some fn)
  (hn : (fn.name == "runtime.NumGoroutine") = false) (hb : fn.body = some code) (hlen : Nat.ble args.length fn.ntmps = true) (hcl : ∀ x, x ∈ args → Closed x)
  (h : ∀ (w0 : World) (st0 : Nat → Prop), awp ⟨P, T, ok, fn.ntmps, w0, st0, fun _ => False, (none, false), RC.bare st0⟩ code ⟨frOf 0 args, [], 0⟩ (retA ⟨P, T, ok, fn.ntmps, w0, st0, fun _ => False, (none, false), RC.bare st0⟩ fn.results res)) : FnC P f args res := by
 refine ⟨fun vs w => ?_, fun w st vs hst hl hr => ?_⟩
 ·have hn' : ¬ fn.name = "runtime.NumGoroutine" := by simpa using hn
  simp [callFunc, hf, hn', hb]
 ·refine (callsIn_wide (n := 0)).1 (callsIn_of_wp_marks hf hb trivial ?_)
  have hle := Nat.le_of_ble_eq_true hlen
  have hS : SimE ⟨P, T, ok, fn.ntmps, w, st, fun _ => False, (none, false), RC.bare st⟩ ⟨frOf 0 args, [], 0⟩ { tmps := vs.toArray ++ Array.replicate (fn.ntmps - vs.toArray.size) undef, defers := [] } w := by
   refine ⟨⟨fun _ _ => none, fun _ => False, st⟩, ⟨Nd.nil _ _ _ _, by simp; omega, fun t => ?_, fun b blk hb => by simp [lkH] at hb, fun b g o ho => by simp at ho, fun b g o b' g' o' β h => by simp at h, fun β hb => ⟨hst β hb, .inl hb⟩, fun β hb => hb, Old.refl _ _, Mono.refl _ _⟩, fun g hg => hg.elim⟩
   simp only
   rw [lk_frOf]
   simp only [Nat.zero_le, if_true, Nat.sub_zero]
   cases hx : args[t]? with
   | none => exact .dead _
   | some x =>
    have ht : t < vs.length := by rw [hl]; exact (List.getElem?_eq_some_iff.1 hx).1
    have : (vs.toArray ++ Array.replicate (fn.ntmps - vs.toArray.size) undef).getD t undef = vs[t] := by
     simp [Array.getD_eq_getD_getElem?, Array.getElem?_append, ht]
    rw [this]
    have := hr t x vs[t] hx (List.getElem?_eq_getElem ht)
    simp only [Option.getD_some]
    exact this.closed (hcl x (List.mem_of_getElem? hx)) _ (fun β hb => ⟨hb, rfl⟩)
  refine wpIn_mono (h w st _ w hS) (fun e a' w' ⟨s', ⟨c', hS', _⟩, hq⟩ => ?_)
  have fin0 : ∀ (w2 : World) (c2 : RC), Sim ⟨P, T, ok, fn.ntmps, w, st, fun _ => False, (none, false), RC.bare st⟩ s' c2 { a' with defers := [] } w2 → ∀ vs', ResL ⟨P, T, ok, fn.ntmps, w, st, fun _ => False, (none, false), RC.bare st⟩ s' fn.results.toList vs' → res = retAV vs' → ∃ v, (results fn a'.tmps).run P w2 = .ok v w2 ∧ ∃ r St, Ending.returned v = .returned r ∧ Below w.heap.size w w2 ∧ (∀ β, st β → St β) ∧ (∀ β, St β → st β ∨ (w.heap.size ≤ β ∧ β < w2.heap.size)) ∧ ∀ own used, Rep ⟨own, used, St⟩ w2 res r := by
   intro w' c' hS' vs' hv he
   obtain ⟨us, g1, g2, g3⟩ := hv.run hS'
   refine ⟨retV us, run_results g1, retV us, c'.given, rfl, ⟨hS'.old.os, hS'.old.tape, hS'.old.output, hS'.old.size, fun k hk => hS'.old.block k hk (fun h => h)⟩, fun β hb => .inl (hS'.st0 β hb), fun β hb => ?_, fun own used => ?_⟩
   ·rcases hb with hb | ⟨b, g, o, h1, h2⟩
    ·obtain ⟨k1, k2 | k2 | k2⟩ := hS'.st β hb
     ·exact .inl k2
     ·exact .inr ⟨k2, k1⟩
     ·exact k2.elim
    ·obtain ⟨k1, k2, k3 | k3⟩ := (hS'.al b g o h1).2.2 β h2
     ·exact .inr ⟨k3, k1⟩
     ·exact k3.elim
   ·subst he
    have one : ∀ (l : List AV) (l' : List Value), l'.length = l.length → (∀ (i : Nat) (x : AV) (u : Value), l[i]? = some x → l'[i]? = some u → Rep ⟨own, used, c'.given⟩ w' x u) → Rep ⟨own, used, c'.given⟩ w' (retAV l) (retV l') := by
     intro l l' hl' hr'
     match l, l', hl' with
     | [], [], _ => exact .tup [] [] rfl hr'
     | [x], [u], _ => exact hr' 0 x u rfl rfl
     | x :: y :: l, u :: v :: l', h' => exact .tup _ _ h' hr'
    exact one vs' us g2 (fun i x u hx hu => g3 i x u hx hu own used)
  have fin : ∀ vs', ResL ⟨P, T, ok, fn.ntmps, w, st, fun _ => False, (none, false), RC.bare st⟩ s' fn.results.toList vs' → res = retAV vs' → LeavesInM Fence.wide 0 P fn a'.tmps (fun e w' => ∃ r St, e = .returned r ∧ Below w.heap.size w w' ∧ (∀ β, st β → St β) ∧ (∀ β, St β → st β ∨ (w.heap.size ≤ β ∧ β < w'.heap.size)) ∧ ∀ own used, Rep ⟨own, used, St⟩ w' res r) a'.defers .returning w' := by
   intro vs' hv he
   refine leavesM a'.defers w' hS'.nd (fun w1 k1 k2 k3 k4 k5 => ?_)
   exact fin0 w1 _ (hS'.shut (w1 := w1) (fun β => ({ target := .collected β, args := #[] } : Deferred) ∈ a'.defers) (fun β hβ => by
    obtain ⟨D, g1, g2, g3, g4⟩ := hS'.nd.at_ _ hβ
    obtain rfl : β = D := by cases g1; rfl
    exact ⟨g2, g3, _, g4⟩) k1 k2 k3 k4 k5 (fun β hb => hst β hb) (fun β hb => hst β hb)) vs' hv he
  cases e <;> first
   | (obtain ⟨vs', h1, h2⟩ := hq; exact fin vs' h1 h2)
   | exact hq.elim
section
variable {C : ACtx} {ops : Array Oper} {K : AS → List (List Nat × List Nat) → Prop} {k : Nat} {rest : List Oper} {fr : List (Nat × AV)} {hp : List (Nat × Option Blk)} {gc : Nat} {fps : List (List Nat × List Nat)}
 {d : Nat} {ty : TypeId} {pos : String} {after : Array Edge} {gd : Option (Nat × Bool)} {x y z : Operand} {v : AV}
theorem ARun.call {fx : Operand} {args : Array Operand} {ats : Array TypeId} {f : FuncId} {avs : List AV} (hF : FnC C.P f avs v) (hf : evA fr fx = .val (.func (.func f) #[] #[])) (ha : args.toList.map (evA fr) = avs)
  (hd : Nat.blt d C.n = true) (hg : guardIs ops ⟨fr, hp, gc⟩ ⟨some d, .call ⟨.value fx, args, ats⟩, ty, pos, after, gd⟩ true)
  (nx : ARun C ops K (k + 1) rest ⟨(d, v) :: fr, hp, gc⟩ (fps ++ [([], [])])) : ARun C ops K k (⟨some d, .call ⟨.value fx, args, ats⟩, ty, pos, after, gd⟩ :: rest) ⟨fr, hp, gc⟩ fps := by
 refine ARun.step v [] [] hg (by simp) ?_ nx
 intro s c a w hS _ hargs _
 have hev : ∀ z ∈ #[fx] ++ args, Rep c w (evA fr z) (a.eval z) := by
  intro z hz
  have hz' : z ∈ (Op.call ⟨.value fx, args, ats⟩).operands.toList := by simpa [Op.operands, Call.operands] using hz
  rw [← args_ev hargs z hz']
  exact hS.ev z
 have h1 := hev fx (by simp)
 rw [hf] at h1
 have h1 := h1.val_inv
 obtain ⟨F1, F2⟩ := hF
 have hargs' : ∀ (i : Nat) (x : AV) (u : Value), avs[i]? = some x → (args.toList.map a.eval)[i]? = some u → Rep (RC.pure c.st) w x u := by
  intro i x u hx hu
  rw [← ha, List.getElem?_map] at hx
  rw [List.getElem?_map] at hu
  cases hi : args.toList[i]? with
  | none => rw [hi] at hx; cases hx
  | some z =>
   rw [hi] at hx hu
   simp only [Option.map_some, Option.some.injEq] at hx hu
   subst hx
   subst hu
   have := hev z (Array.mem_append.2 (.inr (Array.mem_toList_iff.1 (List.mem_of_getElem? hi))))
   exact this.mono (c := c) (c' := RC.pure c.st) (w' := w) (Mono.mk (fun β hb => ⟨hb, rfl⟩) (fun _ _ => trivial) (fun b g o _ h => by cases h))
 have hC := F2 w c.st (args.toList.map a.eval) (fun β hb => (hS.st β hb).1) (by rw [← ha, List.length_map, List.length_map]) hargs'
 have hrun : (execOp a.eval ⟨some d, .call ⟨.value fx, args, ats⟩, ty, pos, after, gd⟩).run C.P w = .ok (.enter f (args.toList.map a.eval).toArray) w := by
  have : (args.toList.map a.eval).toArray = args.map a.eval := by
   apply Array.ext'
   rw [Array.toList_map]
  rw [this]
  simp [execOp, resolve, h1, Deferred.ofValue, invoke, F1]
 unfold Oper.wp
 rw [hrun, Oper.upon_enter]
 refine hC.mono (fun e w' ⟨r, St, he, hE, hs1, hs2, hr⟩ => ?_)
 subst he
 exact ⟨_, hS.grow St hE hs1 hs2 (some d) v r (dst_lt hd) (fun _ _ => hr _ _), fun g hg => .inl hg⟩
theorem bin_wrap {P : Program} {op : BinOp} {t : TypeId} {k : IntKind} {a b : Int} {r : Value} (h : ∀ w, (binOp op t (.int k a) (.int k b)).run P w = .ok r w) : BinR P op t (.int k a) (.int k b) r := by
 intro x y w
 have : (eqGuard op t x y (.int k a) (.int k b)).run P w = .ok () w := by
  unfold eqGuard
  cases op <;> rfl
 rw [Sem.run_bind, this]
 exact h w
theorem bin_eq {P : Program} {t : TypeId} {k : IntKind} {a b : Int} : BinR P .eql t (.int k a) (.int k b) (.bool (a == b)) := bin_wrap (fun w => by simp [binOp, Op.intCmp])
theorem bin_ne {P : Program} {t : TypeId} {k : IntKind} {a b : Int} : BinR P .neq t (.int k a) (.int k b) (.bool (a != b)) := bin_wrap (fun w => by simp [binOp, Op.intCmp])
theorem bin_lt {P : Program} {t : TypeId} {k : IntKind} {a b : Int} : BinR P .lss t (.int k a) (.int k b) (.bool (decide (a < b))) := bin_wrap (fun w => by simp [binOp, Op.intCmp])
theorem bin_le {P : Program} {t : TypeId} {k : IntKind} {a b : Int} : BinR P .leq t (.int k a) (.int k b) (.bool (decide (a ≤ b))) := bin_wrap (fun w => by simp [binOp, Op.intCmp])
theorem bin_gt {P : Program} {t : TypeId} {k : IntKind} {a b : Int} : BinR P .gtr t (.int k a) (.int k b) (.bool (decide (b < a))) := bin_wrap (fun w => by simp [binOp, Op.intCmp])
theorem bin_ge {P : Program} {t : TypeId} {k : IntKind} {a b : Int} : BinR P .geq t (.int k a) (.int k b) (.bool (decide (b ≤ a))) := bin_wrap (fun w => by simp [binOp, Op.intCmp])
theorem bin_add {P : Program} {t : TypeId} {k : IntKind} {a b : Int} : BinR P .add t (.int k a) (.int k b) (.int k (k.wrap (a + b))) := bin_wrap (fun w => by simp [binOp, Op.intArith])
theorem bin_sub {P : Program} {t : TypeId} {k : IntKind} {a b : Int} : BinR P .sub t (.int k a) (.int k b) (.int k (k.wrap (a - b))) := bin_wrap (fun w => by simp [binOp, Op.intArith])
theorem bin_mul {P : Program} {t : TypeId} {k : IntKind} {a b : Int} : BinR P .mul t (.int k a) (.int k b) (.int k (k.wrap (a * b))) := bin_wrap (fun w => by simp [binOp, Op.intArith])
theorem run_equalIn_bool {P : Program} {t : TypeId} (h : P.underlying t = some .bool) (dd : Nat) (a b : Bool) (w : World) : (Op.equalIn (dd + 1) t (.bool a) (.bool b)).run P w = .ok (a == b) w := by
 rw [Op.equalIn, Sem.run_bind, run_underlying h]
 rfl
theorem bin_guard {P : Program} {op : BinOp} {t : TypeId} {p q r : Value} (hp : ∀ es, p ≠ .agg es) (hn : p ≠ .nilIface) (h : ∀ w, (binOp op t p q).run P w = .ok r w) : BinR P op t p q r := by
 intro x y w
 have : (eqGuard op t x y p q).run P w = .ok () w := by
  unfold eqGuard
  cases op <;> first
   | rfl
   | (cases p <;> first
    | exact absurd rfl hn
    | exact absurd rfl (hp _)
    | rfl
    | (cases q <;> rfl))
 rw [Sem.run_bind, this]
 exact h w
theorem bin_beq {P : Program} {t : TypeId} (h : P.underlying t = some .bool) {a b : Bool} : BinR P .eql t (.bool a) (.bool b) (.bool (a == b)) :=
 bin_guard (fun _ h => by cases h) (fun h => by cases h) (fun w => by
  have := run_equalIn_bool h 9999 a b w
  have e : (binOp .eql t (.bool a) (.bool b)) = (do pure (.bool (← Op.equalIn (9999 + 1) t (.bool a) (.bool b)))) := rfl
  rw [e, Sem.run_bind, this]
  rfl)
theorem bin_bne {P : Program} {t : TypeId} (h : P.underlying t = some .bool) {a b : Bool} : BinR P .neq t (.bool a) (.bool b) (.bool (!(a == b))) :=
 bin_guard (fun _ h => by cases h) (fun h => by cases h) (fun w => by
  have := run_equalIn_bool h 9999 a b w
  have e : (binOp .neq t (.bool a) (.bool b)) = (do pure (.bool (!(← Op.equalIn (9999 + 1) t (.bool a) (.bool b))))) := rfl
  rw [e, Sem.run_bind, this]
  rfl)
theorem un_not {P : Program} {b : Bool} : ∀ w, (Op.unary .not (.bool b)).run P w = .ok (.bool !b) w := fun _ => rfl
end
section
variable {C : ACtx} {ops : Array Oper} {K : AS → List (List Nat × List Nat) → Prop} {k : Nat} {rest : List Oper} {fr : List (Nat × AV)} {hp : List (Nat × Option Blk)} {gc : Nat} {fps : List (List Nat × List Nat)}
 {d : Nat} {ty : TypeId} {pos : String} {after : Array Edge} {gd : Option (Nat × Bool)} {x y z : Operand} {v : AV}
theorem ARun.split {dst : Option Nat} {op : Op} {j : Nat} {want b : Bool} {oj : Oper} {e : Nat} {s : AS} (h1 : ops[j]? = some oj) (h2 : oj.dst = some e) (h3 : lkA s.fr e = .val (.bool b))
  (ht : b = true → ARun C ops K k (⟨dst, op, ty, pos, after, some (j, want)⟩ :: rest) s fps) (hf : b = false → ARun C ops K k (⟨dst, op, ty, pos, after, some (j, want)⟩ :: rest) s fps) : ARun C ops K k (⟨dst, op, ty, pos, after, some (j, want)⟩ :: rest) s fps := by
 cases b
 ·exact hf rfl
 ·exact ht rfl
theorem ARun.pickT {b : Bool} (hx : evA fr x = .val (.bool b)) (hb : b = true) (hv : evA fr y = v) (hd : Nat.blt d C.n = true) (hg : guardIs ops ⟨fr, hp, gc⟩ ⟨some d, .pick x y z, ty, pos, after, gd⟩ true)
  (n : ARun C ops K (k + 1) rest ⟨(d, v) :: fr, hp, gc⟩ (fps ++ [([], [])])) : ARun C ops K k (⟨some d, .pick x y z, ty, pos, after, gd⟩ :: rest) ⟨fr, hp, gc⟩ fps :=
 ARun.pick hx (by rw [hb]; exact hv) hd hg n
theorem ARun.pickF {b : Bool} (hx : evA fr x = .val (.bool b)) (hb : b = false) (hv : evA fr z = v) (hd : Nat.blt d C.n = true) (hg : guardIs ops ⟨fr, hp, gc⟩ ⟨some d, .pick x y z, ty, pos, after, gd⟩ true)
  (n : ARun C ops K (k + 1) rest ⟨(d, v) :: fr, hp, gc⟩ (fps ++ [([], [])])) : ARun C ops K k (⟨some d, .pick x y z, ty, pos, after, gd⟩ :: rest) ⟨fr, hp, gc⟩ fps :=
 ARun.pick hx (by rw [hb]; exact hv) hd hg n
theorem ARun.fin {s : AS} {l : List Oper} {draw : Bool} {Q : Exit → AS → Prop} (h1 : draw = true → regOk l fps = true) (h2 : Q .normal (s.bump l.length)) : ARun C ops (regK draw l Q) k [] s fps := ⟨h1, s, AS.eqv.refl s, h2⟩
end
end Go.Proofs.Ytkmlmboclegpcaa
namespace Go.Proofs.Ytkmlmboclegpcaa
open Go Go.RowKit
section
variable {C : ACtx} {ops : Array Oper} {K : AS → List (List Nat × List Nat) → Prop} {k : Nat} {rest : List Oper} {fr : List (Nat × AV)} {hp : List (Nat × Option Blk)} {gc : Nat} {fps : List (List Nat × List Nat)}
 {d : Nat} {ty : TypeId} {pos : String} {after : Array Edge} {gd : Option (Nat × Bool)} {x y z : Operand} {v : AV}
theorem run_len {t : Nat} {ti : TI} {e : Nat} (ht : C.T t = some ti) (hk : ti.k = .slice e) (w : World) (A : Option Addr) (n cap : Nat) (ty : TypeId) : (Builtin.len_ #[t] ty #[.slice A n cap]).run C.P w = .ok (.int .i64 n) w := by
 have hu := run_underlying' (und_slice ht hk) w
 simp [Builtin.len_, hu, goInt]
theorem run_len_str {t : Nat} {ti : TI} (ht : C.T t = some ti) (hk : ti.k = .str) (w : World) (s : ByteArray) (ty : TypeId) : (Builtin.len_ #[t] ty #[.string s]).run C.P w = .ok (.int .i64 s.size) w := by
 have hu := run_underlying' (und_str ht hk) w
 simp [Builtin.len_, hu, goInt]
theorem ARun.len {t : Nat} {ti : TI} {e sz : Nat} {full : Bool} {els : List (List AV)} (hx : evA fr x = .sl sz full els) (ht : C.T t = some ti) (hk : ti.k = .slice e)
  (hd : Nat.blt d C.n = true) (hg : guardIs ops ⟨fr, hp, gc⟩ ⟨some d, .call ⟨.builtin .len, #[x], #[t]⟩, ty, pos, after, gd⟩ true)
  (nx : ARun C ops K (k + 1) rest ⟨(d, .val (.int .i64 els.length)) :: fr, hp, gc⟩ (fps ++ [([], [])])) : ARun C ops K k (⟨some d, .call ⟨.builtin .len, #[x], #[t]⟩, ty, pos, after, gd⟩ :: rest) ⟨fr, hp, gc⟩ fps :=
 ARun.quiet hd hg [] (by simp) (fun s c a w hS hev _ => by
  have h1 := hev x (by simp [Op.operands, Call.operands])
  rw [hx] at h1
  generalize hu : a.eval x = u at h1
  cases h1 with
  | sl _ _ _ A cap β o us a1 a2 a3 a4 a5 a6 a7 a8 => exact ⟨_, by simp [execOp, resolve, hu, invoke, builtin, run_len ht hk w], .val _⟩) nx
theorem ARun.len_own {t : Nat} {ti : TI} {e b g lo n : Nat} {blk : Blk} (hx : evA fr x = .own b g lo n) (hb : lkH hp b = some blk) (hgg : blk.gen = g) (ht : C.T t = some ti) (hk : ti.k = .slice e)
  (hd : Nat.blt d C.n = true) (hg : guardIs ops ⟨fr, hp, gc⟩ ⟨some d, .call ⟨.builtin .len, #[x], #[t]⟩, ty, pos, after, gd⟩ true)
  (nx : ARun C ops K (k + 1) rest ⟨(d, .val (.int .i64 n)) :: fr, hp, gc⟩ (fps ++ [([b], [])])) : ARun C ops K k (⟨some d, .call ⟨.builtin .len, #[x], #[t]⟩, ty, pos, after, gd⟩ :: rest) ⟨fr, hp, gc⟩ fps :=
 ARun.quiet hd hg [(b, blk)] (by simp [hb]) (fun s c a w hS hev hrd => by
  have h1 := hev x (by simp [Op.operands, Call.operands])
  rw [hx] at h1
  generalize hu : a.eval x = u at h1
  obtain ⟨o, ho, _⟩ := hS.hp b blk (hrd (b, blk) (by simp))
  rw [hgg] at ho
  cases h1 with
  | own _ _ _ _ A m cap hu' h =>
   obtain ⟨rfl, _⟩ := h o ho
   exact ⟨_, by simp [execOp, resolve, hu, invoke, builtin, run_len ht hk w], .val _⟩) nx
theorem ARun.len_str {t : Nat} {ti : TI} {s : ByteArray} (hx : evA fr x = .val (.string s)) (ht : C.T t = some ti) (hk : ti.k = .str)
  (hd : Nat.blt d C.n = true) (hg : guardIs ops ⟨fr, hp, gc⟩ ⟨some d, .call ⟨.builtin .len, #[x], #[t]⟩, ty, pos, after, gd⟩ true)
  (nx : ARun C ops K (k + 1) rest ⟨(d, .val (.int .i64 s.size)) :: fr, hp, gc⟩ (fps ++ [([], [])])) : ARun C ops K k (⟨some d, .call ⟨.builtin .len, #[x], #[t]⟩, ty, pos, after, gd⟩ :: rest) ⟨fr, hp, gc⟩ fps :=
 ARun.quiet hd hg [] (by simp) (fun s' c a w hS hev _ => by
  have h1 := hev x (by simp [Op.operands, Call.operands])
  rw [hx] at h1
  have h1 := h1.val_inv
  exact ⟨_, by simp [execOp, resolve, h1, invoke, builtin, run_len_str ht hk w], .val _⟩) nx
theorem run_indexAt {t : Nat} {ti te : TI} {e : Nat} (ht : C.T t = some ti) (hk : ti.k = .slice e) (hte : C.T e = some te) (w : World) (a : Addr) (n cap : Nat) (kk : IntKind) (i : Int) (h0 : 0 ≤ i) (h1 : i < n) :
  (Instr.indexAt t (.slice (some a) n cap) (.int kk i)).run C.P w = .ok (.pointer (some (a.add (i.toNat * te.size)))) w := by
 have hu := run_underlying' (und_slice ht hk) w
 simp [Instr.indexAt, asIntOf, hu, h0, h1, run_sizeOf hte]
theorem ARun.indexAddr {t : Nat} {ti te : TI} {e sz : Nat} {full : Bool} {els : List (List AV)} {el : List AV} {kk : IntKind} {i : Int} (hx : evA fr x = .sl sz full els) (hy : evA fr y = .val (.int kk i)) (h0 : 0 ≤ i) (hi : els[i.toNat]? = some el)
  (ht : C.T t = some ti) (hk : ti.k = .slice e) (hte : C.T e = some te) (hsz : te.size = sz) (hd : Nat.blt d C.n = true) (hg : guardIs ops ⟨fr, hp, gc⟩ ⟨some d, .indexAddr t x y, ty, pos, after, gd⟩ true)
  (nx : ARun C ops K (k + 1) rest ⟨(d, .rp el) :: fr, hp, gc⟩ (fps ++ [([], [])])) : ARun C ops K k (⟨some d, .indexAddr t x y, ty, pos, after, gd⟩ :: rest) ⟨fr, hp, gc⟩ fps :=
 ARun.quiet hd hg [] (by simp) (fun s c a w hS hev _ => by
  have h1 := hev x (by simp [Op.operands])
  have h2 := hev y (by simp [Op.operands])
  rw [hx] at h1
  rw [hy] at h2
  have h2 := h2.val_inv
  generalize hu : a.eval x = u at h1
  cases h1 with
  | sl _ _ _ A cap β o us a1 a2 a3 a4 a5 a6 a7 a8 =>
   have hlt := (List.getElem?_eq_some_iff.1 hi).1
   have hne : els ≠ [] := by intro e; subst e; simp at hi
   obtain ⟨hA, hst⟩ := a6 hne
   subst hA
   have hrun := run_indexAt ht hk hte w ⟨β, o, none⟩ els.length cap kk i h0 (by omega)
   rw [hsz, add_lit] at hrun
   refine ⟨.pointer (some ⟨β, o + i.toNat * sz, none⟩), by simp [execOp, hu, h2, hrun], .rp el β _ (fun f => us i.toNat f) (fun he => hst ?_) (fun f x hx => a7 i.toNat el f x hi hx) (fun f x hx => a8 i.toNat el f x hi hx)⟩
   have := a5 el (List.mem_of_getElem? hi)
   rcases Nat.eq_zero_or_pos sz with h | h
   ·rw [h] at this
    exact absurd (List.eq_nil_of_length_eq_zero this) he
   ·exact h) nx
theorem ARun.indexAddr_own {t : Nat} {ti te : TI} {e b g lo n : Nat} {blk : Blk} {kk : IntKind} {i : Int} (hx : evA fr x = .own b g lo n) (hb : lkH hp b = some blk) (hgg : blk.gen = g) (hy : evA fr y = .val (.int kk i)) (h0 : 0 ≤ i) (h1 : i < n)
  (ht : C.T t = some ti) (hk : ti.k = .slice e) (hte : C.T e = some te) (hsz : te.size = blk.sz) (hd : Nat.blt d C.n = true) (hg : guardIs ops ⟨fr, hp, gc⟩ ⟨some d, .indexAddr t x y, ty, pos, after, gd⟩ true)
  (nx : ARun C ops K (k + 1) rest ⟨(d, .ptr b g (lo + i.toNat) 0) :: fr, hp, gc⟩ (fps ++ [([b], [])])) : ARun C ops K k (⟨some d, .indexAddr t x y, ty, pos, after, gd⟩ :: rest) ⟨fr, hp, gc⟩ fps :=
 ARun.quiet hd hg [(b, blk)] (by simp [hb]) (fun s c a w hS hev hrd => by
  have h1' := hev x (by simp [Op.operands])
  have h2 := hev y (by simp [Op.operands])
  rw [hx] at h1'
  rw [hy] at h2
  have h2 := h2.val_inv
  generalize hu : a.eval x = u at h1'
  obtain ⟨o, ho, hB⟩ := hS.hp b blk (hrd (b, blk) (by simp))
  have hosz := hB.sz
  rw [hgg] at ho
  cases h1' with
  | own _ _ _ _ A m cap hu' h =>
   obtain ⟨rfl, k2, k3, k4, k0, k5⟩ := h o ho
   rcases k5 with k5 | ⟨β, k5, k6, k7⟩
   ·omega
   ·subst k6
    have hrun := run_indexAt ht hk hte w ⟨β, lo * o.sz, none⟩ m cap kk i h0 h1
    rw [hsz, ← hosz, add_lit, ← Nat.add_mul] at hrun
    refine ⟨.pointer (some ⟨β, (lo + i.toNat) * o.sz, none⟩), by simp [execOp, hu, h2, hrun], .ptr b g _ 0 _ _ hu' (fun q hq => ?_)⟩
    rw [ho] at hq
    obtain rfl := Option.some.inj hq
    exact ⟨k5, by omega, k0⟩) nx
theorem run_indexArr {t : Nat} {ti te : TI} {e n : Nat} (ht : C.T t = some ti) (hk : ti.k = .array n e) (hte : C.T e = some te) (w : World) (a : Addr) (kk : IntKind) (i : Int) (h0 : 0 ≤ i) (h1 : i < n) :
  (Instr.indexAt t (.pointer (some a)) (.int kk i)).run C.P w = .ok (.pointer (some (a.add (i.toNat * te.size)))) w := by
 have hu := run_underlying' (und_array ht hk) w
 simp [Instr.indexAt, asIntOf, hu, h0, h1, run_sizeOf hte, Instr.sureAddr]
theorem ARun.indexArr {t : Nat} {ti te : TI} {e n b g j f : Nat} {kk : IntKind} {i : Int} (hx : evA fr x = .ptr b g j f) (hy : evA fr y = .val (.int kk i)) (h0 : 0 ≤ i) (h1 : i < n)
  (ht : C.T t = some ti) (hk : ti.k = .array n e) (hte : C.T e = some te) (hd : Nat.blt d C.n = true) (hg : guardIs ops ⟨fr, hp, gc⟩ ⟨some d, .indexAddr t x y, ty, pos, after, gd⟩ true)
  (nx : ARun C ops K (k + 1) rest ⟨(d, .ptr b g j (f + i.toNat * te.size)) :: fr, hp, gc⟩ (fps ++ [([], [])])) : ARun C ops K k (⟨some d, .indexAddr t x y, ty, pos, after, gd⟩ :: rest) ⟨fr, hp, gc⟩ fps :=
 ARun.quiet hd hg [] (by simp) (fun s c a w hS hev _ => by
  have h1' := hev x (by simp [Op.operands])
  have h2 := hev y (by simp [Op.operands])
  rw [hx] at h1'
  rw [hy] at h2
  have h2 := h2.val_inv
  generalize hu : a.eval x = u at h1'
  cases h1' with
  | ptr _ _ _ _ β o hu' h =>
   have hrun := run_indexArr ht hk hte w ⟨β, o, none⟩ kk i h0 h1
   rw [add_lit] at hrun
   refine ⟨.pointer (some ⟨β, o + i.toNat * te.size, none⟩), by simp [execOp, hu, h2, hrun], .ptr b g j _ _ _ hu' (fun q hq => ?_)⟩
   obtain ⟨e1, e2, e3⟩ := h q hq
   exact ⟨e1, by omega, e3⟩) nx
theorem ARun.field {t n : Nat} {ti : TI} {fs : List (Nat × Nat)} {off sz : Nat} {es : List AV} {tf : TypeId} {tif : TI} {fields : Array Field} {fl : Field} (hx : evA fr x = .agg es) (hu : C.P.underlying t = some (.struct fields)) (hf : fields[n]? = some fl) (htf : C.T fl.type = some tif)
  (hv : (tif.k.agg = true ∧ ∃ cs, loadCs es fl.offset tif.size = some cs ∧ v = .agg cs) ∨ (tif.k.agg = false ∧ es[fl.offset]? = some v))
  (hd : Nat.blt d C.n = true) (hg : guardIs ops ⟨fr, hp, gc⟩ ⟨some d, .field t x n, ty, pos, after, gd⟩ true)
  (nx : ARun C ops K (k + 1) rest ⟨(d, v) :: fr, hp, gc⟩ (fps ++ [([], [])])) : ARun C ops K k (⟨some d, .field t x n, ty, pos, after, gd⟩ :: rest) ⟨fr, hp, gc⟩ fps :=
 ARun.quiet hd hg [] (by simp) (fun s c a w hS hev _ => by
  have h1 := hev x (by simp [Op.operands])
  rw [hx] at h1
  generalize hu' : a.eval x = u at h1
  have hun := run_underlying' hu w
  cases h1 with
  | agg _ us hl h1 hr =>
   rcases hv with ⟨ha, cs, hc, rfl⟩ | ⟨ha, hc⟩
   ·obtain ⟨l1, l2⟩ := loadCs_spec hc
    have hle : fl.offset + tif.size ≤ es.length := by
     unfold loadCs at hc
     cases hb : Nat.ble (fl.offset + tif.size) es.length with
     | false => rw [hb] at hc; cases hc
     | true => exact Nat.le_of_ble_eq_true hb
    refine ⟨.agg ((us.drop fl.offset).take tif.size).toArray, ?_, .agg cs _ (by rw [List.length_take, List.length_drop]; omega) (fun u hu => h1 u (List.mem_of_mem_drop (List.mem_of_mem_take hu))) (fun i x u hx hu => ?_)⟩
    ·simp [execOp, Instr.field, hu', hun, hf, asAgg, part, run_isAgg htf, ha, run_sizeOf htf]
    ·rw [List.getElem?_take] at hu
     split at hu
     ·rw [List.getElem?_drop] at hu
      exact hr _ x u (l2 i x hx) hu
     ·cases hu
   ·have hlt : fl.offset < us.length := by rw [hl]; exact (List.getElem?_eq_some_iff.1 hc).1
    refine ⟨us[fl.offset], ?_, hr _ v _ hc (List.getElem?_eq_getElem hlt)⟩
    simp [execOp, Instr.field, hu', hun, hf, asAgg, part, run_isAgg htf, ha, hlt]) nx
end
end Go.Proofs.Ytkmlmboclegpcaa
namespace Go.Proofs.Ytkmlmboclegpcaa
open Go Go.RowKit
theorem foldl_set (off : Nat) : ∀ (l : List (Value × Nat)) (cs : Array Value), (l.foldl (fun cs (p : Value × Nat) => cs.setIfInBounds (off + p.2) p.1) cs).size = cs.size
 | [], _ => rfl
 | p :: l, cs => by rw [List.foldl_cons, foldl_set off l]; simp
theorem foldl_get (off : Nat) : ∀ (vs : List Value) (k : Nat) (cs : Array Value) (i : Nat), off + k + vs.length ≤ cs.size →
  ((vs.zipIdx k).foldl (fun cs (p : Value × Nat) => cs.setIfInBounds (off + p.2) p.1) cs)[i]? = if off + k ≤ i ∧ i < off + k + vs.length then vs[i - (off + k)]? else cs[i]?
 | [], k, cs, i, _ => by
  rw [if_neg (by simp only [List.length_nil]; omega)]
  rfl
 | v :: vs, k, cs, i, h => by
  rw [List.zipIdx_cons, List.foldl_cons, foldl_get off vs (k + 1) _ i (by simp only [List.length_cons] at h; simp; omega)]
  simp only [List.length_cons] at h ⊢
  by_cases h1 : i = off + k
  ·subst h1
   rw [if_neg (by omega), if_pos (by omega)]
   simp only [Nat.sub_self, List.getElem?_cons_zero]
   rw [Array.getElem?_setIfInBounds_self_of_lt (by omega)]
  ·by_cases h2 : off + k ≤ i ∧ i < off + k + (vs.length + 1)
   ·rw [if_pos (by omega), if_pos h2, show i - (off + k) = (i - (off + (k + 1))) + 1 by omega]
    rfl
   ·rw [if_neg (by omega), if_neg h2, Array.getElem?_setIfInBounds_ne (by omega)]
inductive BuildL (place : Nat → Option (Nat × Nat)) (fr : List (Nat × AV)) : List (Nat × Operand) → List AV → List AV → Prop where
 | nil (es : List AV) : BuildL place fr [] es es
 | cons {i : Nat} {x : Operand} {ps : List (Nat × Operand)} {off sz : Nat} {cs es es' es'' : List AV} (hp : place i = some (off, sz)) (hc : cellsA (evA fr x) = some cs) (hl : cs.length = sz) (hs : SetAts es off cs es') (t : BuildL place fr ps es' es'') : BuildL place fr ((i, x) :: ps) es es''
theorem BuildL.run {place : Nat → Option (Nat × Nat)} {fr : List (Nat × AV)} {c : RC} {w : World} {a : Act} {ps : List (Nat × Operand)} {es es' : List AV} (h : BuildL place fr ps es es') :
  (∀ p ∈ ps, Rep c w (evA fr p.2) (a.eval p.2)) → ∀ (cells : Array Value), cells.size = es.length → (∀ (i : Nat) (x : AV), es[i]? = some x → ∃ u, cells[i]? = some u ∧ u.oneCell' = true ∧ Rep c w x u) →
  ∃ cells', Instr.fill place cells (ps.map fun p => (p.1, a.eval p.2)) = some cells' ∧ cells'.size = es'.length ∧ ∀ (i : Nat) (x : AV), es'[i]? = some x → ∃ u, cells'[i]? = some u ∧ u.oneCell' = true ∧ Rep c w x u := by
 induction h with
 | nil es => exact fun _ cells h1 h2 => ⟨cells, rfl, h1, h2⟩
 | @cons i x ps off sz cs es es1 es2 hp hc hl hs _ ih =>
  intro hev cells h1 h2
  obtain ⟨c1, c2, c3⟩ := cells_rep (hev (i, x) (by simp)) hc
  simp only at c1 c2 c3
  obtain ⟨s1, s2, s3, s4⟩ := hs.spec
  have hsz : (a.eval x).cells.size = sz := by rw [c1, hl]
  have hl' : (a.eval x).cells.toList.length = cs.length := by simpa using c1
  have hget := foldl_get off (a.eval x).cells.toList 0 cells
  obtain ⟨cells', g1, g2, g3⟩ := ih (fun p hp => hev p (by simp [hp])) ((a.eval x).cells.toList.zipIdx.foldl (fun cs (p : Value × Nat) => cs.setIfInBounds (off + p.2) p.1) cells) (by rw [foldl_set, h1, s1]) (fun j y hy => by
   rw [hget j (by omega)]
   by_cases hr : off + 0 ≤ j ∧ j < off + 0 + (a.eval x).cells.toList.length
   ·rw [if_pos hr]
    have := s3 (j - off) (by omega)
    rw [show off + (j - off) = j by omega, hy] at this
    obtain ⟨u, r1, r2, r3⟩ := c2 (j - off) y this.symm
    exact ⟨u, by simpa using r1, r2, r3⟩
   ·rw [if_neg hr]
    rw [s4 j (by omega)] at hy
    exact h2 j y hy)
  refine ⟨cells', ?_, g2, g3⟩
  rw [List.map_cons, Instr.fill, hp]
  simp only
  rw [if_neg]
  ·have e : (Array.foldl (fun cs (x : Value × Nat) => match x with | (c, j) => cs.setIfInBounds (off + j) c) cells (a.eval x).cells.zipIdx) = (a.eval x).cells.toList.zipIdx.foldl (fun cs (p : Value × Nat) => cs.setIfInBounds (off + p.2) p.1) cells := by
    rw [← Array.foldl_toList, Array.toList_zipIdx]
   rw [e]
   exact g1
  ·rw [hsz, h1]
   simp only [ne_eq, not_true_eq_false, decide_false, Bool.or_eq_true, decide_eq_true_eq, false_or, Bool.false_eq_true, gt_iff_lt, Nat.not_lt]
   omega
section
variable {C : ACtx} {ops : Array Oper} {K : AS → List (List Nat × List Nat) → Prop} {k : Nat} {rest : List Oper} {fr : List (Nat × AV)} {hp : List (Nat × Option Blk)} {gc : Nat} {fps : List (List Nat × List Nat)}
 {d : Nat} {ty : TypeId} {pos : String} {after : Array Edge} {gd : Option (Nat × Bool)} {x y z : Operand} {v : AV}
theorem zeros_rep {c : RC} {w : World} {z : Array Value} {l : List Value} (h : z.toList = l) (h1 : l.all Value.oneCell' = true) : z.size = (l.map zv).length ∧ ∀ (i : Nat) (x : AV), (l.map zv)[i]? = some x → ∃ u, z[i]? = some u ∧ u.oneCell' = true ∧ Rep c w x u := by
 subst h
 refine ⟨by simp, fun i x hx => ?_⟩
 obtain ⟨u, hu, rfl⟩ := zv_map_get hx
 exact ⟨u, by simpa using hu, List.all_eq_true.1 h1 u (List.mem_of_getElem? hu), zv_rep c w u⟩
theorem agg_rep {c : RC} {w : World} {es : List AV} {cells : Array Value} (h1 : cells.size = es.length) (h2 : ∀ (i : Nat) (x : AV), es[i]? = some x → ∃ u, cells[i]? = some u ∧ u.oneCell' = true ∧ Rep c w x u) : Rep c w (.agg es) (.agg cells) := by
 have : cells = cells.toList.toArray := by simp
 rw [this]
 refine .agg es cells.toList (by simpa using h1) (fun u hu => ?_) (fun i x u hx hu => ?_)
 ·obtain ⟨i, hi⟩ := List.getElem?_of_mem hu
  have hil : i < es.length := by have := (List.getElem?_eq_some_iff.1 hi).1; simp at this; omega
  obtain ⟨u', r1, r2, _⟩ := h2 i es[i] (List.getElem?_eq_getElem hil)
  have : u' = u := by
   rw [Array.getElem?_toList, r1] at hi
   exact Option.some.inj hi
  exact this ▸ r2
 ·obtain ⟨u', r1, r2, r3⟩ := h2 i x hx
  have : u' = u := by
   rw [Array.getElem?_toList, r1] at hu
   exact Option.some.inj hu
  exact this ▸ r3
theorem ARun.build {t : Nat} {ti : TI} {fs : List (Nat × Nat)} {ps : Array (Nat × Operand)} {es : List AV} (ht : C.T t = some ti) (hk : ti.k = .struct fs) (hz1 : ti.zero.all Value.oneCell' = true) (hb : BuildL (fun i => fs[i]?) fr ps.toList (ti.zero.map zv) es)
  (hd : Nat.blt d C.n = true) (hg : guardIs ops ⟨fr, hp, gc⟩ ⟨some d, .build t ps, ty, pos, after, gd⟩ true)
  (nx : ARun C ops K (k + 1) rest ⟨(d, .agg es) :: fr, hp, gc⟩ (fps ++ [([], [])])) : ARun C ops K k (⟨some d, .build t ps, ty, pos, after, gd⟩ :: rest) ⟨fr, hp, gc⟩ fps :=
 ARun.quiet hd hg [] (by simp) (fun s c a w hS hev _ => by
  obtain ⟨fields, h1, h2, hsz⟩ := und_struct ht hk
  obtain ⟨z, hz, hzc⟩ := run_zeroValue ht w
  obtain ⟨q1, q2⟩ := zeros_rep (c := c) (w := w) hzc hz1
  obtain ⟨cells', g1, g2, g3⟩ := hb.run (c := c) (w := w) (a := a) (fun p hp => hev p.2 (by simp only [Op.operands, List.mem_toArray]; exact List.mem_map_of_mem hp)) z.cells q1 q2
  refine ⟨.agg cells', ?_, agg_rep g2 g3⟩
  have hpl : ∀ (l : List Field), (∀ f ∈ l, (C.P.info? f.type).isSome = true) → (l.mapM (fun f => do pure (f.offset, ← sizeOf f.type) : Field → Sem (Nat × Nat))).run C.P w = .ok (l.map fun f => (f.offset, szOf C.P f.type)) w := by
   intro l
   induction l with
   | nil => intro _; rfl
   | cons f l ih =>
    intro h
    have hf := h f (by simp)
    cases hi : C.P.info? f.type with
    | none => rw [hi] at hf; cases hf
    | some i =>
     have := ih (fun f hf => h f (by simp [hf]))
     have hone : (do pure (f.offset, ← sizeOf f.type) : Sem (Nat × Nat)).run C.P w = .ok (f.offset, szOf C.P f.type) w := by simp [sizeOf, typeInfo, hi, szOf]
     rw [List.mapM_cons, Sem.run_bind, hone, Result.andThen_ok, Sem.run_bind, this]
     rfl
  have := hpl fields.toList (fun f hf => hsz f (by simpa using hf))
  rw [← h2] at this
  have hrun : (Instr.build t (ps.map fun (i, x) => (i, a.eval x))).run C.P w = .ok (.agg cells') w := by
   have hun := run_underlying' h1 w
   have e1 : (fields.mapM (fun f => do pure (f.offset, ← sizeOf f.type) : Field → Sem (Nat × Nat))).run C.P w = .ok fs.toArray w := by
    rw [Array.mapM_eq_mapM_toList]
    simp only [Sem.run_map, this, Result.andThen_ok]
   have e2 : (ps.map fun (i, x) => (i, a.eval x)).toList = ps.toList.map fun p => (p.1, a.eval p.2) := by simp
   have e3 : (fun (i : Nat) => fs.toArray[i]?) = (fun (i : Nat) => fs[i]?) := by funext i; simp
   unfold Instr.build
   simp only [Sem.run_bind, hz, hun, Result.andThen_ok, e1, e2]
   rw [show (fun (x : Nat) => fs.toArray[x]?) = (fun (i : Nat) => fs[i]?) from e3, g1]
   rfl
  simp [execOp, hrun]) nx
theorem ARun.buildArr {t e nn : Nat} {ti te : TI} {ps : Array (Nat × Operand)} {es : List AV} (ht : C.T t = some ti) (hk : ti.k = .array nn e) (hte : C.T e = some te) (hz1 : ti.zero.all Value.oneCell' = true) (hb : BuildL (fun i => some (i * te.size, te.size)) fr ps.toList (ti.zero.map zv) es)
  (hd : Nat.blt d C.n = true) (hg : guardIs ops ⟨fr, hp, gc⟩ ⟨some d, .build t ps, ty, pos, after, gd⟩ true)
  (nx : ARun C ops K (k + 1) rest ⟨(d, .agg es) :: fr, hp, gc⟩ (fps ++ [([], [])])) : ARun C ops K k (⟨some d, .build t ps, ty, pos, after, gd⟩ :: rest) ⟨fr, hp, gc⟩ fps :=
 ARun.quiet hd hg [] (by simp) (fun s c a w hS hev _ => by
  have hun := run_underlying' (und_array ht hk) w
  have hsz := run_sizeOf hte w
  obtain ⟨z, hz, hzc⟩ := run_zeroValue ht w
  obtain ⟨q1, q2⟩ := zeros_rep (c := c) (w := w) hzc hz1
  obtain ⟨cells', g1, g2, g3⟩ := hb.run (c := c) (w := w) (a := a) (fun p hp => hev p.2 (by simp only [Op.operands, List.mem_toArray]; exact List.mem_map_of_mem hp)) z.cells q1 q2
  refine ⟨.agg cells', ?_, agg_rep g2 g3⟩
  have hrun : (Instr.build t (ps.map fun (i, x) => (i, a.eval x))).run C.P w = .ok (.agg cells') w := by
   have e2 : (ps.map fun (i, x) => (i, a.eval x)).toList = ps.toList.map fun p => (p.1, a.eval p.2) := by simp
   unfold Instr.build
   simp only [Sem.run_bind, hz, hun, Result.andThen_ok, hsz, e2]
   rw [g1]
   rfl
  simp [execOp, hrun]) nx
theorem els_flat {sz : Nat} {els : List (List AV)} (hz : ∀ el, el ∈ els → el.length = sz) (us : Nat → Nat → Value) : ∃ vs : List Value, vs.length = els.length * sz ∧ (∀ (i : Nat) (el : List AV) (f : Nat) (x : AV), els[i]? = some el → el[f]? = some x → vs[i * sz + f]? = some (us i f)) ∧ (∀ (j : Nat) (u : Value), vs[j]? = some u → ∃ i f el x, els[i]? = some el ∧ el[f]? = some x ∧ j = i * sz + f ∧ u = us i f) := by
 refine ⟨(List.range (els.length * sz)).map (fun j => us (j / sz) (j % sz)), by simp, fun i el f x hi hx => ?_, fun j u hj => ?_⟩
 ·have h1 := (List.getElem?_eq_some_iff.1 hi).1
  have h2 := (List.getElem?_eq_some_iff.1 hx).1
  rw [hz el (List.mem_of_getElem? hi)] at h2
  have hlt : i * sz + f < els.length * sz := by
   have : (i + 1) * sz ≤ els.length * sz := Nat.mul_le_mul_right _ h1
   rw [Nat.add_mul] at this
   omega
  have e1 : (i * sz + f) / sz = i := by
   rw [Nat.mul_comm, Nat.mul_add_div (by omega), Nat.div_eq_of_lt h2, Nat.add_zero]
  have e2 : (i * sz + f) % sz = f := by
   rw [Nat.mul_comm, Nat.mul_add_mod, Nat.mod_eq_of_lt h2]
  simp [hlt, e1, e2]
 ·have hlt : j < els.length * sz := by
   have := (List.getElem?_eq_some_iff.1 hj).1
   simpa using this
  have hs : 0 < sz := by
   rcases Nat.eq_zero_or_pos sz with h | h
   ·rw [h] at hlt; omega
   ·exact h
  have hi : j / sz < els.length := by
   rw [Nat.div_lt_iff_lt_mul hs]
   exact hlt
  have hf : j % sz < sz := Nat.mod_lt _ hs
  have hel := List.getElem?_eq_getElem hi
  have hx : (els[j / sz])[j % sz]? = some ((els[j / sz])[j % sz]'(by rw [hz _ (List.getElem_mem _)]; exact hf)) := List.getElem?_eq_getElem _
  refine ⟨j / sz, j % sz, _, _, hel, hx, (by rw [Nat.mul_comm]; exact (Nat.div_add_mod j sz).symm), ?_⟩
  simp [hlt] at hj
  exact hj.symm
structure News (c : RC) (w : World) (sz : Nat) (els : List (List AV)) (u : Value) (A : Option Addr) (cap : Nat) (vs : List Value) : Prop where
 val : u = .slice A els.length cap
 len : vs.length = els.length * sz
 one : ∀ u, u ∈ vs → u.oneCell' = true
 lie : els ≠ [] → ∃ ad, A = some ad ∧ ∀ j v, vs[j]? = some v → w.cell? (ad.add j) = some v
 hsz : ∀ el, el ∈ els → el.length = sz
 rep : ∀ (i : Nat) (el : List AV) (f : Nat) (x : AV), els[i]? = some el → el[f]? = some x → ∃ u, vs[i * sz + f]? = some u ∧ u.oneCell' = true ∧ Rep c w x u
theorem News.of {c : RC} {w : World} {sz sz' : Nat} {full : Bool} {els : List (List AV)} {u : Value} (h : Rep c w (.sl sz' full els) u) (hs : els = [] ∨ sz' = sz) : ∃ A cap vs, News c w sz els u A cap vs ∧ (full = true → cap = els.length) ∧ els.length ≤ cap ∧ cap ≤ maxLen ∧ (A = none → cap = 0) := by
 cases h with
 | sl _ _ _ A cap β o us hn hm hf h0 hz hA hc hr =>
  have hz' : ∀ el, el ∈ els → el.length = sz := by
   intro el hel
   rcases hs with h | h
   ·subst h; cases hel
   ·rw [← h]; exact hz el hel
  obtain ⟨vs, v1, v2, v3⟩ := els_flat hz' us
  refine ⟨A, cap, vs, ⟨rfl, v1, fun u hu => ?_, fun hne => ?_, hz', fun i el f x hi hx => ⟨us i f, v2 i el f x hi hx, (hc i el f x hi hx).2, hr i el f x hi hx⟩⟩, hf, hn, hm, h0⟩
  ·obtain ⟨j, hj⟩ := List.getElem?_of_mem hu
   obtain ⟨i, f, el, x, e1, e2, _, e4⟩ := v3 j u hj
   rw [e4]
   exact (hc i el f x e1 e2).2
  ·refine ⟨_, (hA hne).1, fun j v hj => ?_⟩
   obtain ⟨i, f, el, x, e1, e2, e3, e4⟩ := v3 j v hj
   rw [add_lit, e3, e4, ← Nat.add_assoc]
   rcases hs with h | h
   ·exact absurd h hne
   ·rw [← h]
    exact (hc i el f x e1 e2).1
theorem run_append_zero {t e : Nat} {ti te : TI} (ht : C.T t = some ti) (hk : ti.k = .slice e) (hte : C.T e = some te) (w : World) (ty : TypeId) (A A' : Option Addr) (n cap c : Nat) (h : n ≤ cap) :
  (Builtin.append_ #[t, t] ty #[.slice A n cap, .slice A' 0 c]).run C.P w = .ok (.slice A n cap) w := by
 have hu := run_underlying' (und_slice ht hk) w
 have hs := run_sizeOf hte w
 cases A <;> cases A' <;> simp [Builtin.append_, hu, hs, Builtin.lenOf, Builtin.firstCells, h, loadCells, loadCellsFrom, storeCells]
theorem grown_rep {c : RC} {w : World} {sz : Nat} {els els2 : List (List AV)} {olds news : List Value} (rest : List Value) (hl : olds.length = els.length * sz)
  (h1 : ∀ (i : Nat) (el : List AV) (f : Nat) (x : AV), els[i]? = some el → el[f]? = some x → ∃ u, olds[i * sz + f]? = some u ∧ u.oneCell' = true ∧ Rep c w x u)
  (h2 : ∀ (i : Nat) (el : List AV) (f : Nat) (x : AV), els2[i]? = some el → el[f]? = some x → ∃ u, news[i * sz + f]? = some u ∧ u.oneCell' = true ∧ Rep c w x u) :
  ∀ (i : Nat) (el : List AV) (f : Nat) (x : AV), (els ++ els2)[i]? = some el → el[f]? = some x → ∃ u, (olds ++ news ++ rest)[i * sz + f]? = some u ∧ u.oneCell' = true ∧ Rep c w x u := by
 intro i el f x hi hx
 rcases Nat.lt_or_ge i els.length with h | h
 ·rw [List.getElem?_append_left h] at hi
  obtain ⟨u, r1, r2, r3⟩ := h1 i el f x hi hx
  refine ⟨u, ?_, r2, r3⟩
  have := (List.getElem?_eq_some_iff.1 r1).1
  rw [List.append_assoc, List.getElem?_append_left this]
  exact r1
 ·rw [List.getElem?_append_right h] at hi
  obtain ⟨u, r1, r2, r3⟩ := h2 _ el f x hi hx
  refine ⟨u, ?_, r2, r3⟩
  have := (List.getElem?_eq_some_iff.1 r1).1
  have e : i * sz + f = olds.length + ((i - els.length) * sz + f) := by
   rw [hl, Nat.sub_mul]
   have := Nat.mul_le_mul_right sz h
   omega
  rw [e, List.append_assoc, List.getElem?_append_right (by omega), Nat.add_sub_cancel_left, List.getElem?_append_left this]
  exact r1
theorem run_append_room' {P : Program} (w : World) (t ty e e' : TypeId) (i : TypeInfo) (ht : P.underlying t = some (.slice e)) (hi : P.info? e = some i)
  (g sLen sCap : Nat) (cur : Array Value) (hg : RowAt w g cur e')
  (a : Addr) (m c : Nat) (news : List Value) (hl : news.length = m * i.size) (hnews : ∀ j u, news[j]? = some u → w.cell? (a.add j) = some u) (h1 : ∀ u ∈ news, u.oneCell' = true)
  (hroom : sLen + m ≤ sCap) (hfit : sLen * i.size + news.length ≤ cur.size) :
  (Builtin.append_ #[t, t] ty #[.slice (some ⟨g, 0, none⟩) sLen sCap, .slice (some a) m c]).run P w =
   .ok (.slice (some ⟨g, 0, none⟩) (sLen + m) sCap) (w.setRow g (cur.toList.take (sLen * i.size) ++ news ++ cur.toList.drop (sLen * i.size + news.length)).toArray) := by
 have hf := run_firstCells_some (P := P) w i.size m a m c news hl hnews
 have hst := RowAt.store P (sLen * i.size) news 0 hg (by simpa using hfit) h1
 simp only [Nat.add_zero] at hst
 simp [Builtin.append_, run_underlying ht, sizeOf, typeInfo, hi, Builtin.lenOf, hroom, hf, Addr.add_lit, hst]
end
end Go.Proofs.Ytkmlmboclegpcaa
namespace Go.Proofs.Ytkmlmboclegpcaa
open Go Go.RowKit
inductive SetEl {α : Type} : List α → Nat → α → List α → Prop where
 | here {x y : α} {l : List α} : SetEl (x :: l) 0 y (y :: l)
 | there {x y : α} {l l' : List α} {n : Nat} (h : SetEl l n y l') : SetEl (x :: l) (n + 1) y (x :: l')
theorem SetEl.spec {α : Type} {l l' : List α} {n : Nat} {y : α} (h : SetEl l n y l') : n < l.length ∧ l' = l.set n y := by
 induction h with
 | here => simp
 | there _ ih =>
  refine ⟨by simp [ih.1], ?_⟩
  rw [ih.2]
  rfl
inductive BuildS (sz : Nat) (fr : List (Nat × AV)) : List (Nat × Operand) → List (List AV) → List (List AV) → Prop where
 | nil (els : List (List AV)) : BuildS sz fr [] els els
 | cons {i : Nat} {x : Operand} {ps : List (Nat × Operand)} {cs : List AV} {els els' els'' : List (List AV)} (hc : cellsA (evA fr x) = some cs) (hl : cs.length = sz) (hs : SetEl els i cs els') (t : BuildS sz fr ps els' els'') : BuildS sz fr ((i, x) :: ps) els els''
def ElsIn (c : RC) (w : World) (sz : Nat) (els : List (List AV)) (cells : Array Value) : Prop :=
 cells.size = els.length * sz ∧ (∀ el, el ∈ els → el.length = sz) ∧ ∀ (i : Nat) (el : List AV) (f : Nat) (x : AV), els[i]? = some el → el[f]? = some x → ∃ u, cells[i * sz + f]? = some u ∧ u.oneCell' = true ∧ Rep c w x u
theorem BuildS.run {sz : Nat} {fr : List (Nat × AV)} {c : RC} {w : World} {a : Act} {ps : List (Nat × Operand)} {els els' : List (List AV)} (h : BuildS sz fr ps els els') :
  (∀ p ∈ ps, Rep c w (evA fr p.2) (a.eval p.2)) → ∀ (cells : Array Value), ElsIn c w sz els cells →
  ∃ cells', Instr.fill (fun i => some (i * sz, sz)) cells (ps.map fun p => (p.1, a.eval p.2)) = some cells' ∧ ElsIn c w sz els' cells' ∧ els'.length = els.length := by
 induction h with
 | nil els => exact fun _ cells h => ⟨cells, rfl, h, rfl⟩
 | @cons i x ps cs els els1 els2 hc hl hs _ ih =>
  intro hev cells ⟨h1, h2, h3⟩
  obtain ⟨c1, c2, c3⟩ := cells_rep (hev (i, x) (by simp)) hc
  simp only at c1 c2 c3
  obtain ⟨s1, s2⟩ := hs.spec
  subst s2
  have hsz : (a.eval x).cells.size = sz := by rw [c1, hl]
  have hl' : (a.eval x).cells.toList.length = sz := by simpa using hsz
  have hfit : i * sz + 0 + (a.eval x).cells.toList.length ≤ cells.size := by
   have : (i + 1) * sz ≤ els.length * sz := Nat.mul_le_mul_right _ s1
   rw [Nat.add_mul] at this
   omega
  have hget := foldl_get (i * sz) (a.eval x).cells.toList 0 cells
  obtain ⟨cells', g1, g2, g3⟩ := ih (fun p hp => hev p (by simp [hp])) ((a.eval x).cells.toList.zipIdx.foldl (fun cs (p : Value × Nat) => cs.setIfInBounds (i * sz + p.2) p.1) cells) (by
   refine ⟨by rw [foldl_set, h1, List.length_set], fun el hel => ?_, fun j el f y hj hy => ?_⟩
   ·rcases List.mem_or_eq_of_mem_set hel with h | h
    ·exact h2 el h
    ·rw [h]; exact hl
   ·have hf : f < sz := by
     have h5 := (List.getElem?_eq_some_iff.1 hy).1
     rw [List.getElem?_set] at hj
     split at hj
     ·rename_i hij
      try rw [if_pos s1] at hj
      obtain rfl := Option.some.inj hj
      omega
     ·rw [h2 el (List.mem_of_getElem? hj)] at h5; exact h5
    rw [hget _ (by omega)]
    rw [List.getElem?_set] at hj
    by_cases hij : i = j
    ·subst hij
     rw [if_pos rfl, if_pos s1] at hj
     obtain rfl := Option.some.inj hj
     rw [if_pos (by omega), show i * sz + f - (i * sz + 0) = f by omega]
     obtain ⟨u, r1, r2, r3⟩ := c2 f y hy
     exact ⟨u, by simpa using r1, r2, r3⟩
    ·rw [if_neg hij] at hj
     rw [if_neg]
     ·exact h3 j el f y hj hy
     ·intro ⟨q1, q2⟩
      rcases Nat.lt_or_gt_of_ne hij with h | h
      ·have : (i + 1) * sz ≤ j * sz := Nat.mul_le_mul_right _ h
       rw [Nat.add_mul] at this
       omega
      ·have : (j + 1) * sz ≤ i * sz := Nat.mul_le_mul_right _ h
       rw [Nat.add_mul] at this
       omega)
  refine ⟨cells', ?_, g2, by rw [g3, List.length_set]⟩
  rw [List.map_cons, Instr.fill]
  simp only
  rw [if_neg]
  ·have e : (Array.foldl (fun cs (x : Value × Nat) => match x with | (c, j) => cs.setIfInBounds (i * sz + j) c) cells (a.eval x).cells.zipIdx) = (a.eval x).cells.toList.zipIdx.foldl (fun cs (p : Value × Nat) => cs.setIfInBounds (i * sz + p.2) p.1) cells := by
    rw [← Array.foldl_toList, Array.toList_zipIdx]
   rw [e]
   exact g1
  ·rw [hsz]
   simp only [ne_eq, not_true_eq_false, decide_false, Bool.or_eq_true, decide_eq_true_eq, false_or, Bool.false_eq_true, gt_iff_lt, Nat.not_lt]
   omega
theorem zeros_in {c : RC} {w : World} {z : Array Value} {l : List Value} {sz : Nat} (h : z.toList = l) (h1 : l.all Value.oneCell' = true) (hl : l.length = sz) (h0 : 0 < sz) (n : Nat) :
  ElsIn c w sz (List.replicate n (l.map zv)) ((Array.range (n * sz)).map (z[· % z.size]!)) := by
 have hzs : z.size = sz := by rw [← hl, ← h]; simp
 refine ⟨by simp, fun el hel => by rw [(List.mem_replicate.1 hel).2]; simp [hl], fun i el f x hi hx => ?_⟩
 have hi' := (List.getElem?_eq_some_iff.1 hi).1
 rw [List.length_replicate] at hi'
 have : el = l.map zv := by
  rw [List.getElem?_replicate] at hi
  rw [if_pos hi'] at hi
  exact (Option.some.inj hi).symm
 subst this
 obtain ⟨u, hu, rfl⟩ := zv_map_get hx
 have hf : f < sz := by rw [← hl]; exact (List.getElem?_eq_some_iff.1 hu).1
 refine ⟨u, ?_, List.all_eq_true.1 h1 u (List.mem_of_getElem? hu), zv_rep c w u⟩
 have hlt : i * sz + f < n * sz := by
  have : (i + 1) * sz ≤ n * sz := Nat.mul_le_mul_right _ hi'
  rw [Nat.add_mul] at this
  omega
 have e2 : (i * sz + f) % sz = f := by rw [Nat.mul_comm, Nat.mul_add_mod, Nat.mod_eq_of_lt hf]
 rw [Array.getElem?_map, Array.getElem?_range, if_pos hlt, Option.map_some, hzs, e2]
 congr 1
 subst h
 have hfz : f < z.size := by omega
 rw [getElem!_pos z f hfz]
 rw [Array.getElem?_toList, Array.getElem?_eq_getElem hfz] at hu
 exact Option.some.inj hu
section
variable {C : ACtx} {ops : Array Oper} {K : AS → List (List Nat × List Nat) → Prop} {k : Nat} {rest : List Oper} {fr : List (Nat × AV)} {hp : List (Nat × Option Blk)} {gc : Nat} {fps : List (List Nat × List Nat)}
 {d : Nat} {ty : TypeId} {pos : String} {after : Array Edge} {gd : Option (Nat × Bool)} {x y z : Operand} {v : AV}
theorem ARun.newSt {op : Op} (hd : Nat.blt d C.n = true) (hg : guardIs ops ⟨fr, hp, gc⟩ ⟨some d, op, ty, pos, after, gd⟩ true)
  (h : ∀ (c : RC) (a : Act) (w : World), (∀ x ∈ op.operands, Rep c w (evA fr x) (a.eval x)) → ∃ u o, (execOp a.eval ⟨some d, op, ty, pos, after, gd⟩).run C.P w = .ok (.value u) (w.alloc o) ∧ (Mono c ⟨c.own, c.used, fun β => c.st β ∨ β = w.heap.size⟩ w (w.alloc o) → Rep ⟨c.own, c.used, fun β => c.st β ∨ β = w.heap.size⟩ (w.alloc o) v u))
  (n : ARun C ops K (k + 1) rest ⟨(d, v) :: fr, hp, gc⟩ (fps ++ [([], [])])) : ARun C ops K k (⟨some d, op, ty, pos, after, gd⟩ :: rest) ⟨fr, hp, gc⟩ fps := by
 refine ARun.step v [] [] hg (by simp) ?_ n
 intro s c a w hS hf hargs _
 obtain ⟨u, o, h1, h2⟩ := h c a w (fun z hz => by
  rw [← args_ev hargs z (by simpa using hz)]
  exact hS.ev z)
 refine wp_value h1 ⟨_, hS.grow (w' := w.alloc o) (fun β => c.st β ∨ β = w.heap.size) ((Below.refl _ _).alloc (Nat.le_refl _) o) (fun β hb => .inl hb) (fun β hb => ?_) (some d) v u (dst_lt hd) (fun _ hm => h2 hm), fun g hg => .inl hg⟩
 rcases hb with h | h
 ·exact .inl h
 ·exact .inr (by subst h; simp)
theorem sl_new {c : RC} {w : World} {sz : Nat} {els : List (List AV)} {cells : Array Value} {e : TypeId} (h : ElsIn c w sz els cells) (hm : els.length ≤ maxLen) (hmono : Mono c ⟨c.own, c.used, fun β => c.st β ∨ β = w.heap.size⟩ w (w.alloc (.cells cells e))) :
  Rep ⟨c.own, c.used, fun β => c.st β ∨ β = w.heap.size⟩ (w.alloc (.cells cells e)) (.sl sz true els) (.slice (some ⟨w.heap.size, 0, none⟩) els.length els.length) := by
 obtain ⟨h1, h2, h3⟩ := h
 refine .sl sz true els _ els.length w.heap.size 0 (fun i f => (cells[i * sz + f]?).getD undef) (Nat.le_refl _) hm (fun _ => rfl) (fun h => by cases h) h2 (fun _ => ⟨rfl, fun _ => .inr rfl⟩) (fun i el f x hi hx => ?_) (fun i el f x hi hx => ?_)
 ·obtain ⟨u, r1, r2, r3⟩ := h3 i el f x hi hx
  rw [r1]
  refine ⟨?_, r2⟩
  rw [Nat.zero_add, cell_row (.plain (heap_alloc_new w _))]
  exact r1
 ·obtain ⟨u, r1, r2, r3⟩ := h3 i el f x hi hx
  rw [r1]
  exact r3.mono hmono
theorem ARun.buildSlice {t e n : Nat} {ti te : TI} {ps : Array (Nat × Operand)} {els : List (List AV)} (ht : C.T t = some ti) (hk : ti.k = .slice e) (hte : C.T e = some te) (hz1 : te.zero.all Value.oneCell' = true) (hzl : te.zero.length = te.size) (h0 : Nat.blt 0 te.size = true)
  (hsm : Nat.ble (n * te.size) 16777216 = true) (hb : BuildS te.size fr ps.toList (List.replicate n (te.zero.map zv)) els)
  (hd : Nat.blt d C.n = true) (hg : guardIs ops ⟨fr, hp, gc⟩ ⟨some d, .buildSlice t n ps, ty, pos, after, gd⟩ true)
  (nx : ARun C ops K (k + 1) rest ⟨(d, .sl te.size true els) :: fr, hp, gc⟩ (fps ++ [([], [])])) : ARun C ops K k (⟨some d, .buildSlice t n ps, ty, pos, after, gd⟩ :: rest) ⟨fr, hp, gc⟩ fps :=
 ARun.newSt hd hg (fun c a w hev => by
  have h0' := lt_of_blt h0
  have hsm' := Nat.le_of_ble_eq_true hsm
  have hun := run_underlying' (und_slice ht hk) w
  have hs := run_sizeOf hte w
  obtain ⟨z, hz, hzc⟩ := run_zeroValue hte w
  obtain ⟨cells', g1, g2, g3⟩ := hb.run (c := c) (w := w) (a := a) (fun p hp => hev p.2 (by simp only [Op.operands, List.mem_toArray]; exact List.mem_map_of_mem hp)) _ (zeros_in hzc hz1 hzl h0' n)
  have hlen : els.length = n := by rw [g3]; simp
  have hle : n ≤ 16777216 := Nat.le_trans (Nat.le_mul_of_pos_right n h0') hsm'
  refine ⟨.slice (some ⟨w.heap.size, 0, none⟩) els.length els.length, .cells cells' e, ?_, fun hm => sl_new g2 (by rw [hlen]; simp only [maxLen]; omega) hm⟩
  have e2 : (ps.map fun (i, x) => (i, a.eval x)).toList = ps.toList.map fun p => (p.1, a.eval p.2) := by simp
  have hnot : ¬ (2 ^ 24 < n * te.size) := by omega
  have hzs : z.cells.size = te.size := by rw [← hzl, ← hzc]; simp
  have hrun : (Instr.buildSlice t n (ps.map fun (i, x) => (i, a.eval x))).run C.P w = .ok (.slice (some ⟨w.heap.size, 0, none⟩) n n) (w.alloc (.cells cells' e)) := by
   unfold Instr.buildSlice
   simp only [Sem.run_bind, hun, Result.andThen_ok, hs, gt_iff_lt, hnot, if_false, e2]
   by_cases hn : n * te.size = 0
   ·have hn0 : n = 0 := by
     rcases Nat.mul_eq_zero.1 hn with h | h
     ·exact h
     ·omega
    subst hn0
    have he : (Array.map (fun x => z.cells[x % z.cells.size]!) (Array.range (0 * te.size))) = #[] := by simp
    rw [he] at g1
    rw [if_pos hn]
    simp only [Sem.run_bind, Sem.run_pure, Result.andThen_ok]
    have he' : (Array.map (fun x => (#[] : Array Value)[x % (#[] : Array Value).size]!) (Array.range (0 * te.size))) = #[] := by
     apply Array.eq_empty_of_size_eq_zero
     simp
    rw [he', g1]
    simp [newRow]
   ·rw [if_neg hn]
    simp only [Sem.run_bind, hz, Result.andThen_ok, Sem.run_pure, g1]
    simp [newRow]
  rw [hlen]
  simp [execOp, hrun]) nx
end
end Go.Proofs.Ytkmlmboclegpcaa
