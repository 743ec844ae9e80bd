/- uA1, uA2, uA3. -/
import Derived.Test.YtkmlmboclegpcaaW1
import Derived.Test.YtkmlmboclegpcaaW2
import Derived.Test.YtkmlmboclegpcaaW3
import Derived.Test.YtkmlmboclegpcaaW4
import Derived.Test.YtkmlmboclegpcaauW5
set_option linter.unusedVariables false
set_option linter.unusedSimpArgs false
namespace Go.Proofs.Ytkmlmboclegpcaa
open Go Go.RowKit
set_option maxRecDepth 100000
structure Tmr where
 id : Int
 due : Int
 each : Int
 rank : Int
 hand : Int
 arg : Int
def ltT (a b : Tmr) : Bool := decide (a.due < b.due) || (decide (a.due = b.due) && decide (a.id < b.id))
def keyT (d i : Int) (t : Tmr) : Bool := decide (t.due = d) && decide (t.id = i)
def SortedT (l : List Tmr) : Prop := l.Pairwise (fun a b => ltT b a = false)
theorem ltT_iff {a b : Tmr} : ltT a b = true ↔ a.due < b.due ∨ (a.due = b.due ∧ a.id < b.id) := by unfold ltT; simp
theorem ltT_no {a b : Tmr} : ltT a b = false ↔ ¬ (a.due < b.due ∨ (a.due = b.due ∧ a.id < b.id)) := by
 rw [← ltT_iff]; simp
theorem keyT_iff {d i : Int} {t : Tmr} : keyT d i t = true ↔ t.due = d ∧ t.id = i := by unfold keyT; simp
theorem keyT_no {d i : Int} {t : Tmr} : keyT d i t = false ↔ ¬ (t.due = d ∧ t.id = i) := by rw [← keyT_iff]; simp
def insT (t : Tmr) : List Tmr → List Tmr
 | [] => [t]
 | x :: l => if ltT t x = true then t :: x :: l else x :: insT t l
def sortT (l : List Tmr) : List Tmr := l.foldl (fun acc t => insT t acc) []
theorem insT_mem {t a : Tmr} : ∀ {l : List Tmr}, a ∈ insT t l ↔ a = t ∨ a ∈ l
 | [] => by unfold insT; simp
 | x :: l => by
  unfold insT
  split
  ·simp
  ·rw [List.mem_cons, insT_mem, List.mem_cons]
   constructor
   ·rintro (h | h | h)
    ·exact .inr (.inl h)
    ·exact .inl h
    ·exact .inr (.inr h)
   ·rintro (h | h | h)
    ·exact .inr (.inl h)
    ·exact .inl h
    ·exact .inr (.inr h)
theorem insT_len (t : Tmr) : ∀ l : List Tmr, (insT t l).length = l.length + 1
 | [] => rfl
 | x :: l => by
  unfold insT
  split
  ·rfl
  ·rw [List.length_cons, insT_len t l]; rfl
theorem insT_sorted {t : Tmr} : ∀ {l : List Tmr}, SortedT l → SortedT (insT t l)
 | [], _ => List.pairwise_singleton _ _
 | x :: l, h => by
  have h0 := List.pairwise_cons.1 h
  unfold insT
  split
  ·rename_i hlt
   refine List.pairwise_cons.2 ⟨fun y hy => ?_, h⟩
   rw [ltT_iff] at hlt
   rcases List.mem_cons.1 hy with rfl | hy
   ·rw [ltT_no]; omega
   ·have := h0.1 y hy
    rw [ltT_no] at this ⊢
    omega
  ·rename_i hlt
   refine List.pairwise_cons.2 ⟨fun y hy => ?_, insT_sorted h0.2⟩
   rcases insT_mem.1 hy with rfl | hy
   ·simpa using hlt
   ·exact h0.1 y hy
theorem insT_filter {t : Tmr} (d i : Int) : ∀ {l : List Tmr}, SortedT l → (insT t l).filter (keyT d i) = l.filter (keyT d i) ++ [t].filter (keyT d i)
 | [], _ => rfl
 | x :: l, h => by
  have h0 := List.pairwise_cons.1 h
  unfold insT
  split
  ·rename_i hlt
   by_cases hk : keyT d i t = true
   ·have hn : (x :: l).filter (keyT d i) = [] := by
     rw [List.filter_eq_nil_iff]
     intro y hy hky
     rw [keyT_iff] at hk hky
     rw [ltT_iff] at hlt
     rcases List.mem_cons.1 hy with rfl | hy
     ·omega
     ·have := h0.1 y hy
      rw [ltT_no] at this
      omega
    rw [List.filter_cons, if_pos hk, hn, List.filter_cons, if_pos hk]
    rfl
   ·have hk' : keyT d i t = false := by simpa using hk
    rw [List.filter_cons, if_neg hk, List.filter_cons (xs := []), if_neg hk]
    simp
  ·rw [List.filter_cons, List.filter_cons (x := x) (xs := l), insT_filter d i h0.2]
   split
   ·rfl
   ·rfl
theorem foldl_sorted : ∀ (l acc : List Tmr), SortedT acc → SortedT (l.foldl (fun acc t => insT t acc) acc)
 | [], _, h => h
 | t :: l, acc, h => foldl_sorted l _ (insT_sorted h)
theorem sortT_sorted (l : List Tmr) : SortedT (sortT l) := foldl_sorted l [] List.Pairwise.nil
theorem foldl_filter (d i : Int) : ∀ (l acc : List Tmr), SortedT acc → (l.foldl (fun acc t => insT t acc) acc).filter (keyT d i) = acc.filter (keyT d i) ++ l.filter (keyT d i)
 | [], _, _ => by simp
 | t :: l, acc, h => by
  rw [List.foldl_cons, foldl_filter d i l _ (insT_sorted h), insT_filter d i h, List.append_assoc, ← List.filter_append]
  rfl
theorem sortT_filter (l : List Tmr) (d i : Int) : (sortT l).filter (keyT d i) = l.filter (keyT d i) := by
 unfold sortT
 rw [foldl_filter d i l [] List.Pairwise.nil]
 rfl
theorem foldl_len : ∀ (l acc : List Tmr), (l.foldl (fun acc t => insT t acc) acc).length = acc.length + l.length
 | [], _ => rfl
 | t :: l, acc => by rw [List.foldl_cons, foldl_len l, insT_len, List.length_cons]; omega
theorem sortT_len (l : List Tmr) : (sortT l).length = l.length := by
 unfold sortT
 rw [foldl_len]
 simp
theorem mem_of_filter {a b : List Tmr} (h : ∀ d i, a.filter (keyT d i) = b.filter (keyT d i)) {x : Tmr} (hx : x ∈ a) : x ∈ b := by
 have h1 : x ∈ a.filter (keyT x.due x.id) := List.mem_filter.2 ⟨hx, keyT_iff.2 ⟨rfl, rfl⟩⟩
 rw [h] at h1
 exact (List.mem_filter.1 h1).1
theorem sorted_uniq : ∀ {a b : List Tmr}, SortedT a → SortedT b → (∀ d i, a.filter (keyT d i) = b.filter (keyT d i)) → a = b
 | [], [], _, _, _ => rfl
 | [], y :: b, _, _, h => by
  have := mem_of_filter (fun d i => (h d i).symm) (List.mem_cons_self (a := y) (l := b))
  cases this
 | x :: a, [], _, _, h => by
  have := mem_of_filter h (List.mem_cons_self (a := x) (l := a))
  cases this
 | x :: a, y :: b, ha, hb, h => by
  have hy := mem_of_filter h (List.mem_cons_self (a := x) (l := a))
  have hx := mem_of_filter (fun d i => (h d i).symm) (List.mem_cons_self (a := y) (l := b))
  have ha0 := List.pairwise_cons.1 ha
  have hb0 := List.pairwise_cons.1 hb
  have k1 : ltT x y = false := by
   rcases List.mem_cons.1 hy with rfl | hy
   ·rw [ltT_no]; omega
   ·exact hb0.1 x hy
  have k2 : ltT y x = false := by
   rcases List.mem_cons.1 hx with rfl | hx
   ·rw [ltT_no]; omega
   ·exact ha0.1 y hx
  have hk : y.due = x.due ∧ y.id = x.id := by
   rw [ltT_no] at k1 k2
   omega
  have e := h x.due x.id
  rw [List.filter_cons, if_pos (keyT_iff.2 ⟨rfl, rfl⟩), List.filter_cons, if_pos (keyT_iff.2 hk)] at e
  have exy := (List.cons.inj e).1
  subst exy
  refine congrArg (x :: ·) (sorted_uniq ha0.2 hb0.2 (fun d i => ?_))
  have := h d i
  rw [List.filter_cons, List.filter_cons] at this
  split at this
  ·exact (List.cons.inj this).2
  ·exact this
theorem sortT_id {l : List Tmr} (h : SortedT l) : sortT l = l := sorted_uniq (sortT_sorted l) h (sortT_filter l)
theorem sorted_filter {l : List Tmr} (p : Tmr → Bool) (h : SortedT l) : SortedT (l.filter p) := h.filter p
theorem insT_at {x : Tmr} : ∀ {p q : List Tmr}, SortedT (p ++ q) → (∀ y, p.getLast? = some y → ltT x y = false) → (∀ y, y ∈ q → ltT x y = true) → insT x (p ++ q) = p ++ x :: q
 | [], [], _, _, _ => rfl
 | [], y :: q, _, _, h => by
  show insT x (y :: q) = _
  unfold insT
  rw [if_pos (h y List.mem_cons_self)]
  rfl
 | y :: p, q, hs, hl, h => by
  show insT x (y :: (p ++ q)) = _
  have hs0 := List.pairwise_cons.1 (show (y :: (p ++ q)).Pairwise _ from hs)
  have hn : ltT x y = false := by
   cases p with
   | nil => exact hl y rfl
   | cons z p =>
    have hz := List.getLast?_isSome.2 (show z :: p ≠ [] by simp)
    obtain ⟨w, hw⟩ := Option.isSome_iff_exists.1 hz
    have h1 := hl w (by rw [List.getLast?_cons_cons]; exact hw)
    have h2 := hs0.1 w (List.mem_append_left _ (List.mem_of_getLast? hw))
    rw [ltT_no] at h1 h2 ⊢
    omega
  unfold insT
  rw [if_neg (by rw [hn]; decide), insT_at hs0.2 (fun w hw => ?_) h]
  ·rfl
  ·cases p with
   | nil => cases hw
   | cons z p => exact hl w (by rw [List.getLast?_cons_cons]; exact hw)
theorem sortT_snoc (l : List Tmr) (x : Tmr) : sortT (l ++ [x]) = insT x (sortT l) := by
 unfold sortT
 rw [List.foldl_append]
 rfl
end Go.Proofs.Ytkmlmboclegpcaa
namespace Go.Proofs.Ytkmlmboclegpcaa
open Go Go.RowKit
set_option maxRecDepth 100000
structure Wh where
 now : Int
 sl : List (List Tmr)
def Wh.at (w : Wh) (k : Nat) : List Tmr := (w.sl[k]?).getD []
def roundD (now due : Int) : Nat := if due / 16777216 ≠ now / 16777216 then 3 else if due / 65536 ≠ now / 65536 then 2 else if due / 256 ≠ now / 256 then 1 else 0
def digI (t : Int) : Nat → Int
 | 0 => t % 256
 | 1 => t / 256 % 256
 | 2 => t / 65536 % 256
 | _ => t / 16777216 % 256
def digD (t : Int) (r : Nat) : Nat := (digI t r).toNat
def placeD (now due : Int) : Nat := 256 * roundD now due + digD due (roundD now due)
theorem dig_lt (t : Int) (r : Nat) : digD t r < 256 := by
 unfold digD digI
 split <;> omega
theorem round_le (now due : Int) : roundD now due ≤ 3 := by unfold roundD; (repeat' split) <;> omega
theorem place_lt (now due : Int) : placeD now due < 1024 := by
 have := dig_lt due (roundD now due)
 have := round_le now due
 unfold placeD
 omega
def putD (w : Wh) (t : Tmr) : Wh := ⟨w.now, w.sl.set (placeD w.now t.due) (w.at (placeD w.now t.due) ++ [t])⟩
def downD (w : Wh) (r : Nat) : Wh := (w.at (256 * r + digD w.now r)).foldl putD ⟨w.now, w.sl.set (256 * r + digD w.now r) []⟩
def tick3 (w : Wh) : Wh := if w.now % 16777216 = 0 then downD w 3 else w
def tick2 (w : Wh) : Wh := if w.now % 65536 = 0 then downD w 2 else w
def tick1 (w : Wh) : Wh := if w.now % 256 = 0 then downD w 1 else w
def casD (w : Wh) : Wh := tick1 (tick2 (tick3 ⟨w.now + 1, w.sl⟩))
def dueB (n : Int) (t : Tmr) : Bool := t.due == n
def tickW (w : Wh) : Wh := ⟨(casD w).now, (casD w).sl.set (digD (casD w).now 0) (((casD w).at (digD (casD w).now 0)).filter (fun t => !dueB (casD w).now t))⟩
def tickO (w : Wh) : List Tmr := sortT (((casD w).at (digD (casD w).now 0)).filter (dueB (casD w).now))
def idB (i : Int) (t : Tmr) : Bool := t.id == i
def cutW (w : Wh) (i : Int) : Wh := ⟨w.now, w.sl.map (fun l => l.filter (fun t => !idB i t))⟩
def cutB (w : Wh) (i : Int) : Bool := w.sl.any (fun l => l.any (idB i))
def allD (w : Wh) : List Tmr := sortT w.sl.flatten
structure RelP (f : Int → Nat) (lo hi : Int) (w : Wh) (l : List Tmr) : Prop where
 len : w.sl.length = 1024
 inn : ∀ k t, t ∈ w.at k → f t.due = k ∧ lo < t.due ∧ t.due < hi
 so : SortedT l
 eq : ∀ d i, (w.at (f d)).filter (keyT d i) = l.filter (keyT d i)
def Rel (w : Wh) (l : List Tmr) : Prop := 0 ≤ w.now ∧ RelP (placeD w.now) w.now (w.now + 4294967296) w l
theorem at_set (w : Wh) (n : Int) (p k : Nat) (x : List Tmr) (h : p < w.sl.length) : (⟨n, w.sl.set p x⟩ : Wh).at k = if k = p then x else w.at k := by
 unfold Wh.at
 show ((w.sl.set p x)[k]?).getD [] = _
 rw [List.getElem?_set]
 by_cases e : k = p
 ·subst e
  rw [if_pos rfl, if_pos rfl, if_pos h]
  rfl
 ·rw [if_neg e, if_neg (fun h => e h.symm)]
theorem RelP.mem {f : Int → Nat} {lo hi : Int} {w : Wh} {l : List Tmr} (h : RelP f lo hi w l) {t : Tmr} : t ∈ l ↔ t ∈ w.at (f t.due) := by
 have e := h.eq t.due t.id
 have hk : keyT t.due t.id t = true := keyT_iff.2 ⟨rfl, rfl⟩
 constructor
 ·intro ht
  have : t ∈ l.filter (keyT t.due t.id) := List.mem_filter.2 ⟨ht, hk⟩
  rw [← e] at this
  exact (List.mem_filter.1 this).1
 ·intro ht
  have : t ∈ (w.at (f t.due)).filter (keyT t.due t.id) := List.mem_filter.2 ⟨ht, hk⟩
  rw [e] at this
  exact (List.mem_filter.1 this).1
theorem RelP.bnd {f : Int → Nat} {lo hi : Int} {w : Wh} {l : List Tmr} (h : RelP f lo hi w l) {t : Tmr} (ht : t ∈ l) : lo < t.due ∧ t.due < hi := (h.inn _ t (h.mem.1 ht)).2
theorem filter_none {l : List Tmr} {d i : Int} (h : ∀ t, t ∈ l → t.due ≠ d) : l.filter (keyT d i) = [] := by
 rw [List.filter_eq_nil_iff]
 intro t ht hk
 exact h t ht (keyT_iff.1 hk).1
theorem RelP.turn {f g : Int → Nat} {lo hi : Int} {w : Wh} {l : List Tmr} (h : RelP f lo hi w l) (e : ∀ d, lo < d → d < hi → f d = g d) : RelP g lo hi w l := by
 refine ⟨h.len, fun k t ht => ?_, h.so, fun d i => ?_⟩
 ·obtain ⟨h1, h2, h3⟩ := h.inn k t ht
  exact ⟨by rw [← e _ h2 h3]; exact h1, h2, h3⟩
 ·by_cases hd : lo < d ∧ d < hi
  ·rw [← e d hd.1 hd.2]
   exact h.eq d i
  ·rw [filter_none (fun t ht => ?_), filter_none (fun t ht => ?_)]
   ·have := h.bnd ht
    intro e
    rw [e] at this
    exact hd this
   ·have := (h.inn _ t ht).2
    intro e
    rw [e] at this
    exact hd this
theorem RelP.put {f : Int → Nat} {lo hi : Int} {w : Wh} {l : List Tmr} (h : RelP f lo hi w l) (n : Int) {t : Tmr} (hl : f t.due < 1024) (h1 : lo < t.due) (h2 : t.due < hi) : RelP f lo hi ⟨n, w.sl.set (f t.due) (w.at (f t.due) ++ [t])⟩ (insT t l) := by
 have hlt : f t.due < w.sl.length := by rw [h.len]; exact hl
 refine ⟨by show (w.sl.set _ _).length = _; rw [List.length_set]; exact h.len, fun k u hu => ?_, insT_sorted h.so, fun d i => ?_⟩
 ·rw [at_set w n _ _ _ hlt] at hu
  split at hu
  ·rename_i e
   rcases List.mem_append.1 hu with hu | hu
   ·rw [e]; exact h.inn _ u hu
   ·rw [List.mem_singleton.1 hu]; exact ⟨e.symm, h1, h2⟩
  ·exact h.inn _ u hu
 ·rw [at_set w n _ _ _ hlt, insT_filter d i h.so]
  split
  ·rename_i e
   rw [List.filter_append, ← e, h.eq d i]
  ·rename_i e
   rw [h.eq d i, filter_none (l := [t]) (fun u hu => ?_), List.append_nil]
   rw [List.mem_singleton.1 hu]
   intro k
   exact e (by rw [k])
theorem Rel.add {w : Wh} {l : List Tmr} (h : Rel w l) {t : Tmr} (h1 : w.now < t.due) (h2 : t.due < w.now + 4294967296) : Rel (putD w t) (insT t l) := ⟨h.1, h.2.put w.now (place_lt _ _) h1 h2⟩
theorem flatten_filter {p : Tmr → Bool} : ∀ (L : List (List Tmr)) (k : Nat), (∀ j, j ≠ k → ((L[j]?).getD []).filter p = []) → L.flatten.filter p = ((L[k]?).getD []).filter p
 | [], k, _ => by simp
 | x :: L, 0, h => by
  rw [List.flatten_cons, List.filter_append]
  have : L.flatten.filter p = [] := by
   rw [flatten_filter L L.length (fun j hj => by simpa using h (j + 1) (by omega))]
   simp
  rw [this]
  simp
 | x :: L, k + 1, h => by
  rw [List.flatten_cons, List.filter_append, flatten_filter L k (fun j hj => by simpa using h (j + 1) (by omega))]
  have : x.filter p = [] := by simpa using h 0 (by omega)
  rw [this]
  simp
theorem Rel.all {w : Wh} {l : List Tmr} (h : Rel w l) : allD w = l := by
 refine sorted_uniq (sortT_sorted _) h.2.so (fun d i => ?_)
 unfold allD
 rw [sortT_filter, ← h.2.eq d i]
 refine flatten_filter w.sl _ (fun j hj => ?_)
 exact filter_none (fun t ht e => hj (by rw [← e]; exact (h.2.inn j t ht).1.symm))
theorem at_map (w : Wh) (n : Int) (g : List Tmr → List Tmr) (h0 : g [] = []) (k : Nat) : (⟨n, w.sl.map g⟩ : Wh).at k = g (w.at k) := by
 unfold Wh.at
 show ((w.sl.map g)[k]?).getD [] = _
 rw [List.getElem?_map]
 cases w.sl[k]? with
 | none => exact h0.symm
 | some x => rfl
theorem Rel.cut {w : Wh} {l : List Tmr} (h : Rel w l) (i : Int) : Rel (cutW w i) (l.filter (fun t => !idB i t)) := by
 refine ⟨h.1, by show (w.sl.map _).length = _; rw [List.length_map]; exact h.2.len, fun k t ht => ?_, sorted_filter _ h.2.so, fun d j => ?_⟩
 ·unfold cutW at ht
  rw [at_map w w.now (fun l => l.filter (fun t => !idB i t)) rfl] at ht
  exact h.2.inn k t (List.mem_filter.1 ht).1
 ·unfold cutW
  rw [at_map w w.now (fun l => l.filter (fun t => !idB i t)) rfl, List.filter_filter, List.filter_filter]
  have e := h.2.eq d j
  have : ∀ m : List Tmr, m.filter (fun a => keyT d j a && !idB i a) = (m.filter (keyT d j)).filter (fun a => !idB i a) := fun m => by rw [List.filter_filter]; congr 1; funext a; exact Bool.and_comm _ _
  rw [this, this]
  show (List.filter (keyT d j) (w.at (placeD w.now d))).filter _ = _
  rw [e]
theorem Rel.had {w : Wh} {l : List Tmr} (h : Rel w l) (i : Int) : cutB w i = l.any (idB i) := by
 rw [Bool.eq_iff_iff]
 unfold cutB
 rw [List.any_eq_true, List.any_eq_true]
 constructor
 ·rintro ⟨m, hm, hx⟩
  obtain ⟨t, ht, hk⟩ := List.any_eq_true.1 hx
  obtain ⟨k, hk'⟩ := List.getElem?_of_mem hm
  have : t ∈ w.at k := by unfold Wh.at; rw [hk']; exact ht
  refine ⟨t, h.2.mem.2 ?_, hk⟩
  rw [(h.2.inn k t this).1]
  exact this
 ·rintro ⟨t, ht, hk⟩
  have := h.2.mem.1 ht
  unfold Wh.at at this
  cases e : w.sl[placeD w.now t.due]? with
  | none => rw [e] at this; cases this
  | some m =>
   rw [e] at this
   exact ⟨m, List.mem_of_getElem? e, List.any_eq_true.2 ⟨t, this, hk⟩⟩
theorem RelP.puts {f : Int → Nat} {lo hi : Int} : ∀ (m : List Tmr) {w : Wh} {l : List Tmr}, RelP f lo hi w l → (∀ t, t ∈ m → f t.due = placeD w.now t.due ∧ lo < t.due ∧ t.due < hi) → RelP f lo hi (m.foldl putD w) (m.foldl (fun a t => insT t a) l) ∧ (m.foldl putD w).now = w.now
 | [], w, l, h, _ => ⟨h, rfl⟩
 | t :: m, w, l, h, hm => by
  obtain ⟨e, h1, h2⟩ := hm t List.mem_cons_self
  have k : RelP f lo hi (putD w t) (insT t l) := by
   have := h.put w.now (t := t) (by rw [e]; exact place_lt _ _) h1 h2
   unfold putD
   rw [← e]
   exact this
  obtain ⟨k1, k2⟩ := RelP.puts m k (fun u hu => hm u (List.mem_cons_of_mem _ hu))
  exact ⟨k1, k2⟩
theorem RelP.resort {f : Int → Nat} {lo hi : Int} {w : Wh} {l l' : List Tmr} (h : RelP f lo hi w l) (hs : SortedT l') (e : ∀ d i, l.filter (keyT d i) = l'.filter (keyT d i)) : RelP f lo hi w l' := ⟨h.len, h.inn, hs, fun d i => (h.eq d i).trans (e d i)⟩
def stepF (f : Int → Nat) (s : Nat) (n : Int) (d : Int) : Nat := if f d = s then placeD n d else f d
theorem RelP.down {f : Int → Nat} {lo hi : Int} {w : Wh} {l : List Tmr} (h : RelP f lo hi w l) (r : Nat) (hr : r ≤ 3) : RelP (stepF f (256 * r + digD w.now r) w.now) lo hi (downD w r) l ∧ (downD w r).now = w.now := by
 have hd := dig_lt w.now r
 unfold downD
 generalize hs : 256 * r + digD w.now r = s at *
 have hsl : s < w.sl.length := by rw [h.len]; omega
 have hno : SortedT (l.filter (fun t => !decide (f t.due = s))) := sorted_filter _ h.so
 have k0 : RelP (stepF f s w.now) lo hi ⟨w.now, w.sl.set s []⟩ (l.filter (fun t => !decide (f t.due = s))) := by
  refine ⟨by show (w.sl.set _ _).length = _; rw [List.length_set]; exact h.len, fun k t ht => ?_, hno, fun d i => ?_⟩
  ·rw [at_set w _ _ _ _ hsl] at ht
   split at ht
   ·cases ht
   ·rename_i e
    obtain ⟨h1, h2⟩ := h.inn k t ht
    unfold stepF
    rw [if_neg (by rw [h1]; exact e)]
    exact ⟨h1, h2⟩
  ·by_cases hf : f d = s
   ·have e2 : (l.filter (fun t => !decide (f t.due = s))).filter (keyT d i) = [] := filter_none (fun t ht e => by
     have := (List.mem_filter.1 ht).2
     rw [e, hf] at this
     simp at this)
    rw [e2]
    refine filter_none (fun t ht e => ?_)
    rw [at_set w _ _ _ _ hsl] at ht
    split at ht
    ·cases ht
    ·rename_i e'
     have := (h.inn _ t ht).1
     rw [e, hf] at this
     exact e' this.symm
   ·have e2 : stepF f s w.now d = f d := if_neg hf
    rw [e2, at_set w _ _ _ _ hsl, if_neg hf, h.eq d i, List.filter_filter]
    refine List.filter_congr (fun t ht => ?_)
    by_cases hk : keyT d i t = true
    ·rw [hk, (keyT_iff.1 hk).1]
     simp [hf]
    ·have : keyT d i t = false := by simpa using hk
     rw [this]; rfl
 obtain ⟨k1, k2⟩ := k0.puts (w.at s) (fun t ht => by
  obtain ⟨h1, h2⟩ := h.inn s t ht
  exact ⟨if_pos h1, h2⟩)
 refine ⟨k1.resort h.so (fun d i => ?_), k2⟩
 rw [foldl_filter d i _ _ hno]
 by_cases hf : f d = s
 ·have e2 : (l.filter (fun t => !decide (f t.due = s))).filter (keyT d i) = [] := filter_none (fun t ht e => by
   have := (List.mem_filter.1 ht).2
   rw [e, hf] at this
   simp at this)
  rw [e2, ← h.eq d i, hf]
  rfl
 ·have e2 : (w.at s).filter (keyT d i) = [] := filter_none (fun t ht e => by
   have := (h.inn s t ht).1
   rw [e] at this
   exact hf this)
  rw [e2, List.append_nil, List.filter_filter]
  refine List.filter_congr (fun t ht => ?_)
  by_cases hk : keyT d i t = true
  ·rw [hk, (keyT_iff.1 hk).1]
   simp [hf]
  ·have : keyT d i t = false := by simpa using hk
   rw [this]; rfl
end Go.Proofs.Ytkmlmboclegpcaa
namespace Go.Proofs.Ytkmlmboclegpcaa
open Go Go.RowKit
set_option maxRecDepth 100000
def pl3 (n : Int) : Int → Nat := if (n + 1) % 16777216 = 0 then stepF (placeD n) (256 * 3 + digD (n + 1) 3) (n + 1) else placeD n
def pl2 (n : Int) : Int → Nat := if (n + 1) % 65536 = 0 then stepF (pl3 n) (256 * 2 + digD (n + 1) 2) (n + 1) else pl3 n
def pl1 (n : Int) : Int → Nat := if (n + 1) % 256 = 0 then stepF (pl2 n) (256 * 1 + digD (n + 1) 1) (n + 1) else pl2 n
theorem place3 {n d : Int} (h : d / 16777216 ≠ n / 16777216) : placeD n d = 768 + (d / 16777216 % 256).toNat := by
 have e : roundD n d = 3 := if_pos h
 unfold placeD
 rw [e]
 rfl
theorem place2 {n d : Int} (h : d / 16777216 = n / 16777216) (h2 : d / 65536 ≠ n / 65536) : placeD n d = 512 + (d / 65536 % 256).toNat := by
 have e : roundD n d = 2 := by unfold roundD; rw [if_neg (by simp [h]), if_pos h2]
 unfold placeD
 rw [e]
 rfl
theorem place1 {n d : Int} (h2 : d / 65536 = n / 65536) (h1 : d / 256 ≠ n / 256) : placeD n d = 256 + (d / 256 % 256).toNat := by
 have e : roundD n d = 1 := by unfold roundD; rw [if_neg (by simp; omega), if_neg (by simp [h2]), if_pos h1]
 unfold placeD
 rw [e]
 rfl
theorem place0 {n d : Int} (h1 : d / 256 = n / 256) : placeD n d = (d % 256).toNat := by
 have e : roundD n d = 0 := by unfold roundD; rw [if_neg (by simp; omega), if_neg (by simp; omega), if_neg (by simp [h1])]
 unfold placeD
 rw [e]
 show 256 * 0 + digD d 0 = _
 rw [Nat.mul_zero, Nat.zero_add]
 rfl
theorem cas_place {n d : Int} (h0 : 0 ≤ n) (h1 : n < d) (h2 : d < n + 4294967296) : pl1 n d = placeD (n + 1) d := by
 have e3 : pl3 n d = if (n + 1) % 16777216 = 0 ∧ d / 16777216 = (n + 1) / 16777216 then placeD (n + 1) d else placeD n d := by
  unfold pl3
  by_cases c : (n + 1) % 16777216 = 0
  ·rw [if_pos c]
   unfold stepF
   rw [show digD (n + 1) 3 = ((n + 1) / 16777216 % 256).toNat from rfl]
   by_cases hd : d / 16777216 = n / 16777216
   ·have hp : ¬ (placeD n d = 256 * 3 + ((n + 1) / 16777216 % 256).toNat) := by
     by_cases g2 : d / 65536 = n / 65536
     ·by_cases g1 : d / 256 = n / 256
      ·rw [place0 g1]; omega
      ·rw [place1 g2 g1]; omega
     ·rw [place2 hd g2]; omega
    rw [if_neg hp, if_neg (by omega)]
   ·rw [place3 hd]
    by_cases g : d / 16777216 = (n + 1) / 16777216
    ·rw [if_pos (by omega), if_pos ⟨c, g⟩]
    ·rw [if_neg (by omega), if_neg (by omega)]
  ·rw [if_neg c, if_neg (by omega)]
 have e2 : pl2 n d = if (n + 1) % 65536 = 0 ∧ d / 65536 = (n + 1) / 65536 then placeD (n + 1) d else pl3 n d := by
  unfold pl2
  by_cases c : (n + 1) % 65536 = 0
  ·rw [if_pos c]
   unfold stepF
   rw [show digD (n + 1) 2 = ((n + 1) / 65536 % 256).toNat from rfl, e3]
   by_cases g : (n + 1) % 16777216 = 0 ∧ d / 16777216 = (n + 1) / 16777216
   ·rw [if_pos g]
    by_cases g2 : d / 65536 = (n + 1) / 65536
    ·split <;> rw [if_pos ⟨c, g2⟩]
    ·rw [if_neg (by rw [place2 g.2 g2]; omega), if_neg (by omega)]
   ·rw [if_neg g]
    by_cases hd : d / 16777216 = n / 16777216
    ·by_cases g2 : d / 65536 = n / 65536
     ·have hp : ¬ (placeD n d = 256 * 2 + ((n + 1) / 65536 % 256).toNat) := by
       by_cases g1 : d / 256 = n / 256
       ·rw [place0 g1]; omega
       ·rw [place1 g2 g1]; omega
      rw [if_neg hp, if_neg (by omega)]
     ·rw [place2 hd g2]
      by_cases g1 : d / 65536 = (n + 1) / 65536
      ·rw [if_pos (by omega), if_pos ⟨c, g1⟩]
      ·rw [if_neg (by omega), if_neg (by omega)]
    ·rw [place3 hd, if_neg (by omega), if_neg (by omega)]
  ·rw [if_neg c, if_neg (by omega)]
 have e1 : pl1 n d = if (n + 1) % 256 = 0 ∧ d / 256 = (n + 1) / 256 then placeD (n + 1) d else pl2 n d := by
  unfold pl1
  by_cases c : (n + 1) % 256 = 0
  ·rw [if_pos c]
   unfold stepF
   rw [show digD (n + 1) 1 = ((n + 1) / 256 % 256).toNat from rfl, e2]
   by_cases g : (n + 1) % 65536 = 0 ∧ d / 65536 = (n + 1) / 65536
   ·rw [if_pos g]
    by_cases g2 : d / 256 = (n + 1) / 256
    ·split <;> rw [if_pos ⟨c, g2⟩]
    ·rw [if_neg (by rw [place1 g.2 g2]; omega), if_neg (by omega)]
   ·rw [if_neg g, e3]
    by_cases gg : (n + 1) % 16777216 = 0 ∧ d / 16777216 = (n + 1) / 16777216
    ·rw [if_pos gg]
     rw [if_neg (by rw [place2 gg.2 (by omega)]; omega), if_neg (by omega)]
    ·rw [if_neg gg]
     by_cases hd : d / 16777216 = n / 16777216
     ·by_cases g2 : d / 65536 = n / 65536
      ·by_cases g1 : d / 256 = n / 256
       ·rw [place0 g1, if_neg (by omega), if_neg (by omega)]
       ·rw [place1 g2 g1]
        by_cases g0 : d / 256 = (n + 1) / 256
        ·rw [if_pos (by omega), if_pos ⟨c, g0⟩]
        ·rw [if_neg (by omega), if_neg (by omega)]
      ·rw [place2 hd g2, if_neg (by omega), if_neg (by omega)]
     ·rw [place3 hd, if_neg (by omega), if_neg (by omega)]
  ·rw [if_neg c, if_neg (by omega)]
 rw [e1]
 split
 ·rfl
 rename_i n1
 rw [e2]
 split
 ·rfl
 rename_i n2
 rw [e3]
 split
 ·rfl
 rename_i n3
 by_cases d3 : d / 16777216 = n / 16777216
 ·by_cases d2 : d / 65536 = n / 65536
  ·by_cases d1 : d / 256 = n / 256
   ·rw [place0 d1, place0 (by omega)]
   ·rw [place1 d2 d1, place1 (by omega) (by omega)]
  ·rw [place2 d3 d2, place2 (by omega) (by omega)]
 ·rw [place3 d3, place3 (by omega)]
theorem Rel.cas {w : Wh} {l : List Tmr} (h : Rel w l) : RelP (placeD (w.now + 1)) w.now (w.now + 4294967296) (casD w) l ∧ (casD w).now = w.now + 1 := by
 obtain ⟨h0, hp⟩ := h
 have a0 : RelP (placeD w.now) w.now (w.now + 4294967296) ⟨w.now + 1, w.sl⟩ l := ⟨hp.len, hp.inn, hp.so, hp.eq⟩
 have a3 : RelP (pl3 w.now) w.now (w.now + 4294967296) (tick3 ⟨w.now + 1, w.sl⟩) l ∧ (tick3 ⟨w.now + 1, w.sl⟩).now = w.now + 1 := by
  unfold tick3 pl3
  by_cases c : (w.now + 1) % 16777216 = 0
  ·rw [if_pos c, if_pos c]
   exact a0.down 3 (by omega)
  ·rw [if_neg c, if_neg c]
   exact ⟨a0, rfl⟩
 unfold casD
 generalize tick3 ⟨w.now + 1, w.sl⟩ = w3 at *
 have a2 : RelP (pl2 w.now) w.now (w.now + 4294967296) (tick2 w3) l ∧ (tick2 w3).now = w.now + 1 := by
  unfold tick2 pl2
  rw [a3.2]
  by_cases c : (w.now + 1) % 65536 = 0
  ·rw [if_pos c, if_pos c]
   have := a3.1.down 2 (by omega)
   rw [a3.2] at this
   exact this
  ·rw [if_neg c, if_neg c]
   exact a3
 clear a3 a0
 generalize tick2 w3 = w2 at *
 have a1 : RelP (pl1 w.now) w.now (w.now + 4294967296) (tick1 w2) l ∧ (tick1 w2).now = w.now + 1 := by
  unfold tick1 pl1
  rw [a2.2]
  by_cases c : (w.now + 1) % 256 = 0
  ·rw [if_pos c, if_pos c]
   have := a2.1.down 1 (by omega)
   rw [a2.2] at this
   exact this
  ·rw [if_neg c, if_neg c]
   exact a2
 exact ⟨a1.1.turn (fun d h1 h2 => cas_place h0 h1 h2), a1.2⟩
theorem place_now {n : Int} (h : 0 ≤ n) : placeD n n = digD n 0 := by
 rw [place0 rfl]
 rfl
theorem place_due {n d : Int} (h0 : 0 ≤ n) (h1 : n ≤ d) (h : placeD n d = digD n 0) : d = n := by
 have hl : digD n 0 = (n % 256).toNat := rfl
 rw [hl] at h
 by_cases d1 : d / 256 = n / 256
 ·rw [place0 d1] at h; omega
 ·by_cases d2 : d / 65536 = n / 65536
  ·rw [place1 d2 d1] at h; omega
  ·by_cases d3 : d / 16777216 = n / 16777216
   ·rw [place2 d3 d2] at h; omega
   ·rw [place3 d3] at h; omega
theorem Rel.tick {w : Wh} {l : List Tmr} (h : Rel w l) : Rel (tickW w) (l.filter (fun t => !dueB (w.now + 1) t)) ∧ tickO w = l.filter (dueB (w.now + 1)) ∧ (tickW w).now = w.now + 1 := by
 obtain ⟨k, kn⟩ := h.cas
 have h0 := h.1
 unfold tickW tickO
 rw [kn]
 generalize casD w = x at *
 have hp : digD (w.now + 1) 0 < x.sl.length := by rw [k.len]; have := dig_lt (w.now + 1) 0; omega
 have hat : ∀ t, t ∈ x.at (digD (w.now + 1) 0) → t.due = w.now + 1 := fun t ht => by
  obtain ⟨g1, g2, g3⟩ := k.inn _ t ht
  exact place_due (by omega) (by omega) g1
 have hn : ∀ t, t ∈ x.at (digD (w.now + 1) 0) → dueB (w.now + 1) t = true := fun t ht => by unfold dueB; rw [hat t ht]; exact beq_self_eq_true _
 have hr : (x.at (digD (w.now + 1) 0)).filter (fun t => !dueB (w.now + 1) t) = [] := by
  rw [List.filter_eq_nil_iff]
  intro t ht
  rw [hn t ht]
  decide
 have ho : (x.at (digD (w.now + 1) 0)).filter (dueB (w.now + 1)) = x.at (digD (w.now + 1) 0) := List.filter_eq_self.2 hn
 have hkey : ∀ d i t, keyT d i t = true → dueB (w.now + 1) t = decide (d = w.now + 1) := fun d i t hk => by
  unfold dueB
  rw [(keyT_iff.1 hk).1]
  rfl
 refine ⟨⟨by show 0 ≤ w.now + 1; omega, by show (x.sl.set _ _).length = _; rw [List.length_set]; exact k.len, fun j t ht => ?_, sorted_filter _ k.so, fun d i => ?_⟩, ?_, rfl⟩
 ·rw [at_set x _ _ _ _ hp, hr] at ht
  split at ht
  ·cases ht
  ·rename_i e
   obtain ⟨g1, g2, g3⟩ := k.inn _ t ht
   refine ⟨g1, ?_, by show t.due < w.now + 1 + 4294967296; omega⟩
   show w.now + 1 < t.due
   by_cases g : t.due = w.now + 1
   ·rw [g, place_now (by omega)] at g1
    exact absurd g1.symm e
   ·omega
 ·rw [at_set x _ _ _ _ hp, hr]
  show List.filter _ (if placeD (w.now + 1) d = _ then _ else _) = _
  by_cases hd : d = w.now + 1
  ·rw [hd, place_now (by omega), if_pos rfl]
   symm
   rw [List.filter_nil]
   refine filter_none (fun t ht e => ?_)
   have := (List.mem_filter.1 ht).2
   unfold dueB at this
   rw [e] at this
   simp at this
  ·have e2 : (l.filter (fun t => !dueB (w.now + 1) t)).filter (keyT d i) = l.filter (keyT d i) := by
    rw [List.filter_filter]
    refine List.filter_congr (fun t ht => ?_)
    by_cases hk : keyT d i t = true
    ·rw [hk, hkey d i t hk]
     simp [hd]
    ·have : keyT d i t = false := by simpa using hk
     rw [this]; rfl
   rw [e2, ← k.eq d i]
   split
   ·rename_i e
    rw [e, List.filter_nil]
    symm
    exact filter_none (fun t ht e' => hd (by rw [← e']; exact hat t ht))
   ·rfl
 ·rw [ho]
  refine sorted_uniq (sortT_sorted _) (sorted_filter _ k.so) (fun d i => ?_)
  rw [sortT_filter, List.filter_filter]
  by_cases hd : d = w.now + 1
  ·have := k.eq d i
   rw [hd, place_now (by omega)] at this
   rw [hd, this]
   refine List.filter_congr (fun t ht => ?_)
   by_cases hk : keyT (w.now + 1) i t = true
   ·rw [hk, hkey _ i t hk]
    simp
   ·have : keyT (w.now + 1) i t = false := by simpa using hk
    rw [this]; rfl
  ·rw [filter_none (fun t ht e => hd (by rw [← e]; exact hat t ht))]
   symm
   rw [List.filter_eq_nil_iff]
   intro t ht hh
   rw [Bool.and_eq_true] at hh
   have := hkey d i t hh.1
   rw [hh.2] at this
   simp [hd] at this
end Go.Proofs.Ytkmlmboclegpcaa
