/- Words of my own: worlds that only grew; slices that read as a list. -/
import Derived.Test.YtcodmnhlboohhaaChecked
import Derived.WalkKit
import Derived.WalkSmall
import Derived.WalkSpells
import Derived.WalkLawsBesides
import Derived.Handy
import Derived.BigQuiet
import Derived.Deep.QuietTactic
import Derived.StillTail
import Derived.Deep.Draws
import Derived.Lib.Hide
import Derived.Laws.AppendOwnNone
namespace Go.Proofs.Ytcodmnhlboohhaa
open Go Go.RowKit

/-- Nothing that was there has turned. -/
abbrev Ext (w w' : World) : Prop := Below w.heap.size w w'

theorem Ext.rfl' (w : World) : Ext w w := Below.refl _ _
theorem Ext.tr {a b c : World} (h : Ext a b) (k : Ext b c) : Ext a c := h.trans (k.mono h.size)
theorem Ext.drew {a b : World} (h : Ext a b) : Ext a b.drew := Below.drew h
theorem Ext.drewN {a b : World} (h : Ext a b) (n : Nat) : Ext a (b.drewN n) := ⟨h.os, h.tape, h.output, h.size, h.block⟩
theorem Ext.alloc {a b : World} (h : Ext a b) (o : Obj) : Ext a (b.alloc o) := Below.alloc h h.size o
theorem Ext.setCell {a b : World} (h : Ext a b) {p : Addr} (hp : a.heap.size ≤ p.block) (u : Value) : Ext a (b.setCell p u) := Below.setCell h hp u
theorem Ext.grown {a b c : World} {row : Option Nat} (h : Ext a b) (hg : b.grownBy c row) (hr : ∀ k, row = some k → a.heap.size ≤ k) : Ext a c := Below.grown h hg h.size hr

/-- Nothing but the count of draws has turned. -/
def Drawn (w w' : World) : Prop := ∃ n, w' = w.drewN n
theorem Drawn.rfl' (w : World) : Drawn w w := ⟨0, rfl⟩
theorem Drawn.drewN {a b : World} (h : Drawn a b) (n : Nat) : Drawn a (b.drewN n) := by
  obtain ⟨m, rfl⟩ := h
  exact ⟨m + n, by rw [World.drewN_drewN]⟩
theorem Drawn.ext {a b : World} (h : Drawn a b) : Ext a b := by
  obtain ⟨m, rfl⟩ := h
  exact (Ext.rfl' a).drewN m
theorem Drawn.tr {a b c : World} (h : Drawn a b) (k : Drawn b c) : Drawn a c := by
  obtain ⟨m, rfl⟩ := k
  exact h.drewN m

theorem block_of_add (a : Addr) (n : Nat) : (a.add n).block = a.block := by unfold Addr.add; split <;> rfl
theorem add_of_add (a : Addr) (i j : Nat) : (a.add i).add j = a.add (i + j) := by
  unfold Addr.add
  by_cases hi : i = 0 <;> by_cases hj : j = 0 <;> simp [hi, hj, Nat.add_assoc]

theorem lt_of_cell {w : World} {p : Addr} {u : Value} (h : w.cell? p = some u) : p.block < w.heap.size := World.block_lt_of_cell? w p h

theorem Ext.cell {w w' : World} (h : Ext w w') {p : Addr} {u : Value} (hc : w.cell? p = some u) : w'.cell? p = some u :=
  (Below.cell h (lt_of_cell hc)).trans hc

/-- A slice value '.slice A l.length c' that reads as l: each element is 'sz' cells, as 'enc' says. -/
structure Sl {α : Type} (sz : Nat) (enc : α → List Value) (w : World) (A : Option Addr) (c : Nat) (l : List α) : Prop where
  le : l.length ≤ c
  cap : c ≤ maxLen
  nil : A = none → c = 0
  cells : ∀ i x, l[i]? = some x → ∃ b o, A = some ⟨b, o, none⟩ ∧ ∀ j v, (enc x)[j]? = some v → w.cell? ⟨b, o + i * sz + j, none⟩ = some v

section
variable {α : Type} {sz : Nat} {enc : α → List Value} {w w' : World} {A : Option Addr} {c : Nat} {l : List α}
theorem Sl.ext (h : Sl sz enc w A c l) (k : Ext w w') : Sl sz enc w' A c l :=
  ⟨h.le, h.cap, h.nil, fun i x hx => by
    obtain ⟨b, o, hA, hc⟩ := h.cells i x hx
    exact ⟨b, o, hA, fun j v hv => k.cell (hc j v hv)⟩⟩
theorem Sl.none_ (w : World) : Sl sz enc w none 0 ([] : List α) := ⟨Nat.le_refl _, Nat.zero_le _, fun _ => rfl, fun i x h => by simp at h⟩
theorem Sl.at_ (h : Sl sz enc w A c l) {i : Nat} (hi : i < l.length) : ∃ b o, A = some ⟨b, o, none⟩ ∧ ∀ j v, (enc l[i])[j]? = some v → w.cell? ⟨b, o + i * sz + j, none⟩ = some v :=
  h.cells i l[i] (List.getElem?_eq_getElem hi)
theorem Sl.some_ (h : Sl sz enc w A c l) (hl : 0 < l.length) : ∃ b o, A = some ⟨b, o, none⟩ ∧ ∀ i x, l[i]? = some x → ∀ j v, (enc x)[j]? = some v → w.cell? ⟨b, o + i * sz + j, none⟩ = some v := by
  obtain ⟨b, o, hA, _⟩ := h.at_ hl
  refine ⟨b, o, hA, fun i x hx => ?_⟩
  obtain ⟨b', o', hA', hc⟩ := h.cells i x hx
  rw [hA] at hA'
  simp only [Option.some.injEq, Addr.mk.injEq, and_true] at hA'
  obtain ⟨rfl, rfl⟩ := hA'
  exact hc

/-- All cells, one behind the other. -/
def flat (enc : α → List Value) (l : List α) : List Value := l.flatMap enc
theorem flat_nil : flat enc ([] : List α) = [] := rfl
theorem flat_cons (x : α) (l : List α) : flat enc (x :: l) = enc x ++ flat enc l := rfl
theorem flat_append (a b : List α) : flat enc (a ++ b) = flat enc a ++ flat enc b := by unfold flat; simp
theorem flat_length (he : ∀ x, (enc x).length = sz) (l : List α) : (flat enc l).length = l.length * sz := by
  induction l with
  | nil => simp [flat]
  | cons x l ih => rw [flat_cons, List.length_append, he, ih, List.length_cons, Nat.add_mul]; omega
theorem flat_get (he : ∀ x, (enc x).length = sz) : ∀ (l : List α) (i : Nat) (x : α), l[i]? = some x → ∀ j v, (enc x)[j]? = some v → (flat enc l)[i * sz + j]? = some v
  | [], i, x, h, _, _, _ => by simp at h
  | y :: l, 0, x, h, j, v, hv => by
    simp only [List.getElem?_cons_zero, Option.some.injEq] at h
    subst h
    rw [flat_cons, Nat.zero_mul, Nat.zero_add, List.getElem?_append_left ((List.getElem?_eq_some_iff.1 hv).1)]
    exact hv
  | y :: l, i + 1, x, h, j, v, hv => by
    simp only [List.getElem?_cons_succ] at h
    have := flat_get he l i x h j v hv
    rw [flat_cons, List.getElem?_append_right (by rw [he, Nat.add_mul]; omega), he, show (i + 1) * sz + j - sz = i * sz + j by rw [Nat.add_mul]; omega]
    exact this
theorem flat_inv (he : ∀ x, (enc x).length = sz) (hs : 0 < sz) : ∀ (l : List α) (k : Nat) (v : Value), (flat enc l)[k]? = some v → ∃ i x j, l[i]? = some x ∧ (enc x)[j]? = some v ∧ k = i * sz + j
  | [], k, v, h => by simp [flat] at h
  | y :: l, k, v, h => by
    rw [flat_cons] at h
    by_cases hk : k < sz
    · rw [List.getElem?_append_left (by rw [he]; exact hk)] at h
      exact ⟨0, y, k, rfl, h, by omega⟩
    · rw [List.getElem?_append_right (by rw [he]; omega), he] at h
      obtain ⟨i, x, j, h1, h2, h3⟩ := flat_inv he hs l _ v h
      exact ⟨i + 1, x, j, by simpa using h1, h2, by rw [Nat.add_mul]; omega⟩
theorem flat_set (he : ∀ x, (enc x).length = sz) : ∀ (l : List α) (i : Nat) (x y : α) (j : Nat) (u : Value), l[i]? = some x → (enc x).set j u = enc y → j < sz → (flat enc l).set (i * sz + j) u = flat enc (l.set i y)
  | [], i, x, y, j, u, h, _, _ => by simp at h
  | z :: l, 0, x, y, j, u, h, hy, hj => by
    simp only [List.getElem?_cons_zero, Option.some.injEq] at h
    subst h
    rw [flat_cons, Nat.zero_mul, Nat.zero_add, List.set_append_left _ _ (by rw [he]; exact hj), hy]
    rfl
  | z :: l, i + 1, x, y, j, u, h, hy, hj => by
    simp only [List.getElem?_cons_succ] at h
    have := flat_set he l i x y j u h hy hj
    rw [flat_cons, List.set_append_right _ _ (by rw [he, Nat.add_mul]; omega), he, show (i + 1) * sz + j - sz = i * sz + j by rw [Nat.add_mul]; omega, this]
    rfl

theorem Sl.news (h : Sl sz enc w A c l) (he : ∀ x, (enc x).length = sz) (hs : 0 < sz) {ad : Addr} (hA : A = some ad) : ∀ j u, (flat enc l)[j]? = some u → w.cell? (ad.add j) = some u := by
  intro k u hu
  obtain ⟨i, x, j, h1, h2, rfl⟩ := flat_inv he hs l k u hu
  obtain ⟨b, o, hA', hc⟩ := h.cells i x h1
  rw [hA] at hA'
  obtain rfl := Option.some.inj hA'
  rw [Addr.add_lit, ← Nat.add_assoc]
  exact hc j u h2

/-- What the call owns reads as the list. -/
theorem Sl.of_own {base : Nat} {e : TypeId} {v : Value} (h : w.ownsRow base e sz v l.length (flat enc l)) (he : ∀ x, (enc x).length = sz) : ∃ A c, v = .slice A l.length c ∧ Sl sz enc w A c l := by
  rcases h.2 with ⟨rfl, hn⟩ | ⟨g, cap, cur, rfl, hb, hg, hnc, hcm, hcs, htake⟩
  · have hl : l = [] := List.eq_nil_of_length_eq_zero hn
    subst hl
    exact ⟨none, 0, rfl, Sl.none_ w⟩
  · refine ⟨some ⟨g, 0, none⟩, cap, rfl, hnc, hcm, (fun h => by cases h), fun i x hx => ⟨g, 0, rfl, fun j v hv => ?_⟩⟩
    have h1 := flat_get he l i x hx j v hv
    have hlt : i * sz + j < l.length * sz := by
      have := (List.getElem?_eq_some_iff.1 h1).1
      rwa [flat_length he] at this
    rw [Nat.zero_add, cell_of_row w g (i * sz + j) cur e (0, 0) hg]
    rw [← htake, List.getElem?_take, if_pos hlt] at h1
    simpa using h1
end

/-- A slice value '.slice A n c' that reads as l. -/
def Sn {α : Type} (sz : Nat) (enc : α → List Value) (w : World) (A : Option Addr) (n c : Nat) (l : List α) : Prop := n = l.length ∧ Sl sz enc w A c l
theorem Sn.ext {α : Type} {sz : Nat} {enc : α → List Value} {w w' : World} {A : Option Addr} {n c : Nat} {l : List α} (h : Sn sz enc w A n c l) (k : Ext w w') : Sn sz enc w' A n c l := ⟨h.1, h.2.ext k⟩
theorem Sl.n {α : Type} {sz : Nat} {enc : α → List Value} {w : World} {A : Option Addr} {c : Nat} {l : List α} (h : Sl sz enc w A c l) : Sn sz enc w A l.length c l := ⟨rfl, h⟩
/-- A row that was just built. -/
theorem Sn.lit {α : Type} {sz : Nat} {enc : α → List Value} (w : World) (e : TypeId) (l : List α) (he : ∀ x, (enc x).length = sz) (n : Nat) (cs : Array Value) (hn : n = l.length) (hm : n ≤ maxLen) (hc : cs = (flat enc l).toArray) :
    Sn sz enc (w.alloc (.cells cs e)) (some ⟨w.heap.size, 0, none⟩) n n l := by
  subst hn
  subst hc
  have hown := World.ownsRow_lit (base := w.heap.size) (size := sz) (e := e) w (flat enc l).toArray l.length (Nat.le_refl _) hm (by simp [flat_length he])
  obtain ⟨A, c, hv, hs⟩ := Sl.of_own (by simpa using hown) he
  simp only [Value.slice.injEq, true_and] at hv
  obtain ⟨rfl, rfl⟩ := hv
  exact hs.n

section
variable {P : Program}
/-- 'append' onto a slice of the call's own, of whatever slice that reads as a list. -/
theorem wpList_append_sl {α : Type} {sz : Nat} {enc : α → List Value} {w : World} {ops : Array Oper} {rest : List Oper} {o : Oper} {a : Act} {Q : Exit → Act → World → Prop} (hgd : o.guard = none) (s x : Operand) (t : TypeId)
    (ho : o.op = .call { callee := .builtin .append, args := #[s, x], argTypes := #[t, t] })
    (base : Nat) (e : TypeId) (i : TypeInfo) (z : Value) (bytes : Nat) (ht : P.underlying t = some (.slice e)) (hi : P.info? e = some i) (hz : i.zero = some z)
    (hsize : i.size = sz) (hby : i.bytes = bytes) (hzs : z.cells.size = sz) (hsz : 0 < sz) (he : ∀ x, (enc x).length = sz) (hone : ∀ x, ∀ u ∈ enc x, u.oneCell' = true)
    (v : Value) (n : Nat) (xs : List Value) (hs : a.eval s = v) (hown : w.ownsRow base e sz v n xs)
    (A : Option Addr) (c : Nat) (l : List α) (hx : a.eval x = .slice A l.length c) (hl : Sl sz enc w A c l)
    (h63 : n + l.length ≤ maxLen) (hbytes : (n + l.length) * bytes ≤ 140737488355328) (hbase : base ≤ w.heap.size)
    (h : ∀ v' w', w'.ownsRow base e sz v' (n + l.length) (xs ++ flat enc l) → w.grownBy w' v.ownBlock → wpList P ops Q rest (a.put o.dst v') w') : wpList P ops Q (o :: rest) a w := by
  cases A with
  | none =>
    have hc := hl.nil rfl
    subst hc
    have hl0 : l.length = 0 := Nat.le_zero.1 hl.le
    have hl1 : l = [] := List.eq_nil_of_length_eq_zero hl0
    subst hl1
    refine wpList_append_own_none hgd s x t ho base e i sz ht hi v n xs hs hown hx (h v w ?_ ?_)
    · simpa [flat] using hown
    · exact World.grownBy.refl _ _
  | some ad =>
    refine wpList_append_own w hgd s x t ho base e i z sz bytes ht hi hz hsize hby hzs hsz v n xs hs hown ad l.length c (flat enc l) hx (flat_length he l) (hl.news he hsz rfl) ?_ h63 hbytes hbase (fun v' w' h1 h2 _ => h v' w' h1 h2)
    intro u hu
    obtain ⟨y, _, hy⟩ := List.mem_flatMap.1 hu
    exact hone y u hy
end

theorem wpStill_of_quiet {P : Program} {ops : Array Oper} {w : World} {Q : Act → Prop} : ∀ (l : List Oper) (a : Act), wpQuiet P ops (fun w' => w' = w) Q l a → wpStill P ops w Q l a
  | [], a, h => h
  | o :: rest, a, h => by
    unfold wpQuiet at h
    unfold wpStill
    split
    · rename_i hw
      rw [if_pos hw] at h
      obtain ⟨v, h1, h2⟩ := h
      have h3 := h1 w rfl
      have h4 := wpStill_of_quiet rest _ h2
      unfold Oper.quietAt at h3
      unfold Oper.still
      cases hr : (execOp a.eval o).run P w with
      | halt x w' => rw [hr] at h3; exact h3.elim
      | ok x w' =>
        rw [hr] at h3
        cases x with
        | value u => obtain ⟨rfl, rfl⟩ := h3; exact ⟨rfl, h4⟩
        | skip => obtain ⟨rfl, rfl⟩ := h3; exact ⟨rfl, h4⟩
        | enter f args => exact ⟨h3.1, v, h3.2, h4⟩
        | _ => exact h3.elim
    · rename_i hw
      rw [if_neg hw] at h
      exact wpStill_of_quiet rest _ h

/-- A region that draws: all but its tail reads; the world under its name. -/
theorem wp_region_tail {P : Program} {id : Nat} {Q : Exit → Act → World → Prop} {a : Act} {w : World} {l : List Oper} (n : Nat) (hm : P.follows .mixedOrders = true) (hB : Region.lexTailB .any l.toArray n = true)
    (h : wpQuiet P l.toArray (fun w' => w' = w.drew) (fun a' => wpList P l.toArray Q (l.drop n) a' w.drew) (l.take n) a) : (Code.region id l.toArray true).wp P Q a w := wp_region_still_tail n hm hB (wpStill_of_quiet _ _ h)

theorem Ext.grown_new {a c : World} {o : Obj} {n cap : Nat} (hg : (a.alloc o).grownBy c (Value.ownBlock (.slice (some ⟨a.heap.size, 0, none⟩) n cap))) : Ext a c :=
  ((Ext.rfl' a).alloc o).grown hg (by intro k hk; simp only [Value.ownBlock, Option.some.injEq] at hk; omega)

theorem wf_i64 {n : Int} (h : (Lit.int .i64 n).wf = true) : -9223372036854775808 ≤ n ∧ n ≤ 9223372036854775807 := by
  simpa [Lit.wf, IntKind.min, IntKind.max, IntKind.bits, IntKind.signed] using h
end Go.Proofs.Ytcodmnhlboohhaa
