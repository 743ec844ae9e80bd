/- gJ1, gJ2, gJ3, gJ4. -/
import Derived.Test.YtfphgelollhdhaaW1
import Derived.Test.YtfphgelollhdhaaW2
import Derived.Test.YtfphgelollhdhaaW3
import Derived.Test.YtfphgelollhdhaaW4
import Derived.Test.YtfphgelollhdhaagW5
import Derived.Laws.Strings
set_option linter.unusedVariables false
set_option linter.unusedSimpArgs false
namespace Go.Proofs.Ytfphgelollhdhaa
open Go Go.RowKit
set_option maxRecDepth 100000
inductive Nod where
 | mk (k n : Int) (a b : List Nod)
def Nod.k : Nod → Int | .mk k _ _ _ => k
def Nod.n : Nod → Int | .mk _ n _ _ => n
def Nod.a : Nod → List Nod | .mk _ _ a _ => a
def Nod.b : Nod → List Nod | .mk _ _ _ b => b
abbrev wr (n : Int) : Int := IntKind.i64.wrap n
theorem wr_eq (n : Int) : wr n = (n + 9223372036854775808) % 18446744073709551616 - 9223372036854775808 := by
 show IntKind.i64.wrap n = _
 rw [IntKind.wrap_i64]
theorem wr_in {n : Int} (h : -9223372036854775808 ≤ n ∧ n ≤ 9223372036854775807) : wr n = n := by rw [wr_eq]; omega
theorem wr_wr (a b : Int) : wr (wr a + b) = wr (a + b) := by simp only [wr_eq]; omega
theorem wr_range (n : Int) : -9223372036854775808 ≤ wr n ∧ wr n ≤ 9223372036854775807 := by rw [wr_eq]; omega
mutual
def cntN : Nod → Nat
 | .mk _ _ a b => 1 + cntL a + cntL b
def cntL : List Nod → Nat
 | [] => 0
 | x :: l => cntN x + cntL l
end
mutual
def encD : Nod → List AV
 | .mk k n a b => [.val (.int .i64 k), .val (.int .i64 n), .sl 4 false (encDs a), .sl 4 false (encDs b)]
def encDs : List Nod → List (List AV)
 | [] => []
 | x :: l => encD x :: encDs l
end
theorem encDs_map : ∀ l : List Nod, encDs l = l.map encD
 | [] => rfl
 | x :: l => by rw [encDs, encDs_map l]; rfl
def encTr (l : List Nod) : AV := .sl 4 false (l.map encD)
theorem encD_eq (x : Nod) : encD x = [.val (.int .i64 x.k), .val (.int .i64 x.n), encTr x.a, encTr x.b] := by
 obtain ⟨k, n, a, b⟩ := x
 rw [encD, encDs_map, encDs_map]
 rfl
theorem encD_len (x : Nod) : (encD x).length = 4 := by rw [encD_eq]; rfl
mutual
theorem encD_closed : ∀ (x : Nod), ∀ v, v ∈ encD x → Closed v
 | .mk k n a b, v, h => by
  rw [encD] at h
  simp only [List.mem_cons, List.not_mem_nil, or_false] at h
  rcases h with rfl | rfl | rfl | rfl
  ·exact .val _
  ·exact .val _
  ·exact .sl (encDs_closed a)
  ·exact .sl (encDs_closed b)
theorem encDs_closed : ∀ (l : List Nod), ∀ el v, el ∈ encDs l → v ∈ el → Closed v
 | [], el, v, h, _ => by cases h
 | x :: l, el, v, h, hv => by
  rw [encDs] at h
  rcases List.mem_cons.1 h with rfl | h
  ·exact encD_closed x v hv
  ·exact encDs_closed l el v h hv
end
theorem closed_tr (l : List Nod) : Closed (encTr l) := by
 unfold encTr
 rw [← encDs_map]
 exact .sl (encDs_closed l)
theorem get_nd {l : List Nod} {i : Nat} {x : Nod} (h : l[i]? = some x) : (l.map encD)[((i : Nat) : Int).toNat]? = some [.val (.int .i64 x.k), .val (.int .i64 x.n), encTr x.a, encTr x.b] := by
 rw [Int.toNat_natCast, List.getElem?_map, h, ← encD_eq]
 rfl
mutual
def okD : Nod → Bool
 | .mk k n a b =>
  if k = 1 ∨ k = 2 ∨ k = 9 ∨ k = 10 ∨ k = 11 then a.isEmpty && b.isEmpty
  else if k = 3 then (decide (n = 1) || (decide (n = 0) && b.isEmpty)) && okDs a && okDs b
  else if k = 4 ∨ k = 5 then b.isEmpty && okDs a
  else if k = 6 then okDs a && okDs b
  else if k = 7 ∨ k = 8 then (decide (n = 0) || decide (n = 1)) && b.isEmpty && okDs a
  else false
def okDs : List Nod → Bool
 | [] => true
 | x :: l => okD x && okDs l
end
theorem okDs_mem : ∀ {l : List Nod}, okDs l = true → ∀ x, x ∈ l → okD x = true
 | y :: l, h, x, hx => by
  rw [okDs, Bool.and_eq_true] at h
  rcases List.mem_cons.1 hx with rfl | hx
  ·exact h.1
  ·exact okDs_mem h.2 x hx
mutual
def oneS : Nod → Int
 | .mk k n a b =>
  if k = 1 then 2
  else if k = 3 then (if n = 1 then 4 + sizS a + sizS b else 2 + sizS a)
  else if k = 4 ∨ k = 5 then sizS a + 2
  else if k = 6 then sizS a + 2 + sizS b + 2
  else if k = 7 ∨ k = 8 then (if n = 1 then 2 + sizS a + 2 else 1 + sizS a + 2)
  else if k = 9 then 3
  else 1
def sizS : List Nod → Int
 | [] => 0
 | x :: l => oneS x + sizS l
end
mutual
theorem oneS_bound : ∀ x : Nod, 1 ≤ oneS x ∧ oneS x ≤ 4 * (cntN x : Int)
 | .mk k n a b => by
  have h1 := sizS_bound a
  have h2 := sizS_bound b
  rw [oneS, cntN]
  (repeat' split) <;> omega
theorem sizS_bound : ∀ l : List Nod, 0 ≤ sizS l ∧ sizS l ≤ 4 * (cntL l : Int)
 | [] => by rw [sizS, cntL]; omega
 | x :: l => by
  have h1 := oneS_bound x
  have h2 := sizS_bound l
  rw [sizS, cntL]
  omega
end
theorem sizS_append (l1 l2 : List Nod) : sizS (l1 ++ l2) = sizS l1 + sizS l2 := by
 induction l1 with
 | nil => rw [List.nil_append, sizS]; omega
 | cons x l ih => rw [List.cons_append, sizS, sizS, ih]; omega
theorem cntL_append (l1 l2 : List Nod) : cntL (l1 ++ l2) = cntL l1 + cntL l2 := by
 induction l1 with
 | nil => rw [List.nil_append, cntL]; omega
 | cons x l ih => rw [List.cons_append, cntL, cntL, ih]; omega
theorem cnt_mem {l : List Nod} {i : Nat} {x : Nod} (h : l[i]? = some x) : cntN x ≤ cntL l := by
 induction l generalizing i with
 | nil => simp at h
 | cons y l ih =>
  rw [cntL]
  cases i with
  | zero =>
   simp only [List.getElem?_cons_zero, Option.some.injEq] at h
   subst h
   omega
  | succ i =>
   have := ih (i := i) (by simpa using h)
   omega
theorem cnt_ab (x : Nod) : cntL x.a + cntL x.b < cntN x := by
 obtain ⟨k, n, a, b⟩ := x
 rw [cntN]
 show cntL a + cntL b < _
 omega
theorem take_one {α : Type} {l : List α} {i : Nat} {x : α} (h : l[i]? = some x) : l.take (i + 1) = l.take i ++ [x] := by
 have hi := (List.getElem?_eq_some_iff.1 h).1
 rw [List.take_add_one, h]
 rfl
theorem siz_take {l : List Nod} {i : Nat} {x : Nod} (h : l[i]? = some x) : sizS (l.take (i + 1)) = sizS (l.take i) + oneS x := by
 rw [take_one h, sizS_append, sizS, sizS]
 omega
theorem cnt_take (l : List Nod) (i : Nat) : cntL (l.take i) ≤ cntL l := by
 have := cntL_append (l.take i) (l.drop i)
 rw [List.take_append_drop] at this
 omega
theorem cnt_len : ∀ l : List Nod, l.length ≤ cntL l
 | [] => by rw [cntL]; exact Nat.le_refl _
 | .mk k n a b :: l => by
  have := cnt_len l
  rw [cntL, cntN, List.length_cons]
  omega
structure Xts where
 lit : Int
 zb : Int
 br : Int
 doo : Int
 qdo : Int
 lp : Int
 plp : Int
 unl : Int
 ex : Int
mutual
def codN (X : Xts) (self : Int) : Nod → Int → Int → List Int
  | .mk k n a b, pos, en =>
    if k = 1 then [X.lit, n]
    else if k = 2 then [n]
    else if k = 3 then
      (if n = 0 then [X.zb, wr (pos + 8 * oneS (.mk k n a b))] ++ codL X self a (wr (pos + 16)) en
       else [X.zb, wr (pos + 8 * (4 + sizS a))] ++ codL X self a (wr (pos + 16)) en ++ [X.br, wr (pos + 8 * oneS (.mk k n a b))] ++ codL X self b (wr (pos + 8 * (4 + sizS a))) en)
    else if k = 4 then codL X self a pos en ++ [X.zb, pos]
    else if k = 5 then codL X self a pos en ++ [X.br, pos]
    else if k = 6 then codL X self a pos en ++ [X.zb, wr (pos + 8 * oneS (.mk k n a b))] ++ codL X self b (wr (pos + 8 * (sizS a + 2))) en ++ [X.br, pos]
    else if k = 7 ∨ k = 8 then
      (if n = 1 then [X.qdo, wr (pos + 8 * oneS (.mk k n a b))] ++ codL X self a (wr (pos + 16)) (wr (pos + 8 * oneS (.mk k n a b))) ++ [if k = 8 then X.plp else X.lp, wr (pos + 16)]
       else [X.doo] ++ codL X self a (wr (pos + 8)) (wr (pos + 8 * oneS (.mk k n a b))) ++ [if k = 8 then X.plp else X.lp, wr (pos + 8)])
    else if k = 9 then [X.unl, X.br, en]
    else if k = 10 then [X.ex]
    else [self]
def codL (X : Xts) (self : Int) : List Nod → Int → Int → List Int
 | [], _, _ => []
 | x :: l, pos, en => codN X self x pos en ++ codL X self l (wr (pos + 8 * oneS x)) en
end
mutual
theorem codN_len (X : Xts) (self : Int) : ∀ (x : Nod) (pos en : Int), okD x = true → ((codN X self x pos en).length : Int) = oneS x
 | .mk k n a b, pos, en, h => by
  rw [okD] at h
  by_cases h1 : k = 1 ∨ k = 2 ∨ k = 9 ∨ k = 10 ∨ k = 11
  ·rw [codN, oneS]
   rcases h1 with rfl | rfl | rfl | rfl | rfl <;> simp
  rw [if_neg h1] at h
  by_cases h3 : k = 3
  ·subst h3
   rw [if_pos rfl] at h
   simp only [Bool.and_eq_true, Bool.or_eq_true, decide_eq_true_eq, List.isEmpty_iff] at h
   obtain ⟨⟨h4, h5⟩, h6⟩ := h
   have e1 := codL_len X self a (wr (pos + 16)) en h5
   have e2 := codL_len X self b (wr (pos + 8 * (4 + sizS a))) en h6
   rw [codN, oneS]
   rcases h4 with rfl | ⟨rfl, rfl⟩
   ·simp only [Int.reduceEq, if_false, if_true, reduceIte, List.length_append, List.length_cons, List.length_nil] at *
    omega
   ·simp only [Int.reduceEq, if_false, if_true, reduceIte, List.length_append, List.length_cons, List.length_nil] at *
    omega
  rw [if_neg h3] at h
  by_cases h4 : k = 4 ∨ k = 5
  ·rw [if_pos h4, Bool.and_eq_true] at h
   have e1 := codL_len X self a pos en h.2
   rw [codN, oneS]
   rcases h4 with rfl | rfl <;> simp only [Int.reduceEq, if_false, if_true, reduceIte, List.length_append, List.length_cons, List.length_nil, or_false, false_or, or_true, true_or] at * <;> omega
  rw [if_neg h4] at h
  by_cases h6 : k = 6
  ·subst h6
   rw [if_pos rfl, Bool.and_eq_true] at h
   have e1 := codL_len X self a pos en h.1
   have e2 := codL_len X self b (wr (pos + 8 * (sizS a + 2))) en h.2
   rw [codN, oneS]
   simp only [Int.reduceEq, if_false, if_true, reduceIte, List.length_append, List.length_cons, List.length_nil, or_false] at *
   omega
  rw [if_neg h6] at h
  by_cases h7 : k = 7 ∨ k = 8
  ·rw [if_pos h7] at h
   simp only [Bool.and_eq_true, Bool.or_eq_true, decide_eq_true_eq] at h
   obtain ⟨⟨h5, _⟩, h6⟩ := h
   have e1 := fun p e => codL_len X self a p e h6
   rw [codN]
   generalize wr (pos + 8 * oneS (.mk k n a b)) = E
   rw [oneS]
   have e2 := e1 (wr (pos + 16)) E
   have e3 := e1 (wr (pos + 8)) E
   rcases h7 with rfl | rfl <;> rcases h5 with rfl | rfl <;> simp only [Int.reduceEq, if_false, if_true, reduceIte, List.length_append, List.length_cons, List.length_nil, or_false, false_or, or_true, true_or] at * <;> omega
  rw [if_neg h7] at h
  cases h
theorem codL_len (X : Xts) (self : Int) : ∀ (l : List Nod) (pos en : Int), okDs l = true → ((codL X self l pos en).length : Int) = sizS l
 | [], pos, en, _ => by rw [codL, sizS]; rfl
 | x :: l, pos, en, h => by
  rw [okDs, Bool.and_eq_true] at h
  have e1 := codN_len X self x pos en h.1
  have e2 := codL_len X self l (wr (pos + 8 * oneS x)) en h.2
  rw [codL, sizS, List.length_append]
  omega
end
theorem codL_append (X : Xts) (self en : Int) : ∀ (l1 l2 : List Nod) (pos : Int), In64 pos → codL X self (l1 ++ l2) pos en = codL X self l1 pos en ++ codL X self l2 (wr (pos + 8 * sizS l1)) en
 | [], l2, pos, h => by
  rw [List.nil_append, codL, sizS, List.nil_append, show pos + 8 * 0 = pos by omega, wr_in h]
 | x :: l1, l2, pos, h => by
  rw [List.cons_append, codL, codL, codL_append X self en l1 l2 _ (wr_range _), List.append_assoc, sizS, wr_wr, show pos + 8 * (oneS x + sizS l1) = pos + 8 * oneS x + 8 * sizS l1 by omega]
theorem cod_take (X : Xts) (self en : Int) {l : List Nod} {i : Nat} {x : Nod} (h : l[i]? = some x) {pos : Int} (hp : In64 pos) : codL X self (l.take (i + 1)) pos en = codL X self (l.take i) pos en ++ codN X self x (wr (pos + 8 * sizS (l.take i))) en := by
 rw [take_one h, codL_append X self en _ _ _ hp]
 congr 1
 rw [codL, codL, List.append_nil]
theorem ok_take : ∀ {l : List Nod} (i : Nat), okDs l = true → okDs (l.take i) = true
 | [], i, _ => by rw [List.take_nil]; rfl
 | x :: l, 0, _ => rfl
 | x :: l, i + 1, h => by
  rw [okDs, Bool.and_eq_true] at h
  rw [List.take_succ_cons, okDs, h.1, ok_take i h.2]
  rfl
theorem oneS_eq (x : Nod) : oneS x =
  if x.k = 1 then 2
  else if x.k = 3 then (if x.n = 1 then 4 + sizS x.a + sizS x.b else 2 + sizS x.a)
  else if x.k = 4 ∨ x.k = 5 then sizS x.a + 2
  else if x.k = 6 then sizS x.a + 2 + sizS x.b + 2
  else if x.k = 7 ∨ x.k = 8 then (if x.n = 1 then 2 + sizS x.a + 2 else 1 + sizS x.a + 2)
  else if x.k = 9 then 3
  else 1 := by
 obtain ⟨k, n, a, b⟩ := x
 rw [oneS]
 rfl
theorem codN_eq (X : Xts) (self : Int) (x : Nod) (pos en : Int) : codN X self x pos en =
    if x.k = 1 then [X.lit, x.n]
    else if x.k = 2 then [x.n]
    else if x.k = 3 then
      (if x.n = 0 then [X.zb, wr (pos + 8 * oneS x)] ++ codL X self x.a (wr (pos + 16)) en
       else [X.zb, wr (pos + 8 * (4 + sizS x.a))] ++ codL X self x.a (wr (pos + 16)) en ++ [X.br, wr (pos + 8 * oneS x)] ++ codL X self x.b (wr (pos + 8 * (4 + sizS x.a))) en)
    else if x.k = 4 then codL X self x.a pos en ++ [X.zb, pos]
    else if x.k = 5 then codL X self x.a pos en ++ [X.br, pos]
    else if x.k = 6 then codL X self x.a pos en ++ [X.zb, wr (pos + 8 * oneS x)] ++ codL X self x.b (wr (pos + 8 * (sizS x.a + 2))) en ++ [X.br, pos]
    else if x.k = 7 ∨ x.k = 8 then
      (if x.n = 1 then [X.qdo, wr (pos + 8 * oneS x)] ++ codL X self x.a (wr (pos + 16)) (wr (pos + 8 * oneS x)) ++ [if x.k = 8 then X.plp else X.lp, wr (pos + 16)]
       else [X.doo] ++ codL X self x.a (wr (pos + 8)) (wr (pos + 8 * oneS x)) ++ [if x.k = 8 then X.plp else X.lp, wr (pos + 8)])
    else if x.k = 9 then [X.unl, X.br, en]
    else if x.k = 10 then [X.ex]
    else [self] := by
  obtain ⟨k, n, a, b⟩ := x
  rw [codN]
  rfl
theorem okD_cases {x : Nod} (h : okD x = true) : ((x.k = 1 ∨ x.k = 2 ∨ x.k = 9 ∨ x.k = 10 ∨ x.k = 11) ∧ x.a = [] ∧ x.b = []) ∨ (x.k = 3 ∧ (x.n = 1 ∨ (x.n = 0 ∧ x.b = []))) ∨ ((x.k = 4 ∨ x.k = 5) ∧ x.b = []) ∨ x.k = 6 ∨ ((x.k = 7 ∨ x.k = 8) ∧ (x.n = 0 ∨ x.n = 1) ∧ x.b = []) := by
 obtain ⟨k, n, a, b⟩ := x
 rw [okD] at h
 show ((k = 1 ∨ k = 2 ∨ k = 9 ∨ k = 10 ∨ k = 11) ∧ a = [] ∧ b = []) ∨ (k = 3 ∧ (n = 1 ∨ (n = 0 ∧ b = []))) ∨ ((k = 4 ∨ k = 5) ∧ b = []) ∨ k = 6 ∨ ((k = 7 ∨ k = 8) ∧ (n = 0 ∨ n = 1) ∧ b = [])
 split at h
 ·rename_i h1
  simp only [Bool.and_eq_true, List.isEmpty_iff] at h
  exact .inl ⟨h1, h⟩
 split at h
 ·rename_i h1
  simp only [Bool.and_eq_true, Bool.or_eq_true, decide_eq_true_eq, List.isEmpty_iff] at h
  exact .inr (.inl ⟨h1, h.1.1⟩)
 split at h
 ·rename_i h1
  simp only [Bool.and_eq_true, List.isEmpty_iff] at h
  exact .inr (.inr (.inl ⟨h1, h.1⟩))
 split at h
 ·rename_i h1
  exact .inr (.inr (.inr (.inl h1)))
 split at h
 ·rename_i h1
  simp only [Bool.and_eq_true, Bool.or_eq_true, decide_eq_true_eq, List.isEmpty_iff] at h
  exact .inr (.inr (.inr (.inr ⟨h1, h.1.1, h.1.2⟩)))
 ·cases h
theorem okD_ab {x : Nod} (h : okD x = true) : okDs x.a = true ∧ okDs x.b = true := by
 have h0 := okD_cases h
 obtain ⟨k, n, a, b⟩ := x
 rw [okD] at h
 show okDs a = true ∧ okDs b = true
 have hn : okDs [] = true := by rw [okDs]
 split at h
 ·simp only [Bool.and_eq_true, List.isEmpty_iff] at h
  rw [h.1, h.2]
  exact ⟨hn, hn⟩
 split at h
 ·simp only [Bool.and_eq_true] at h
  exact ⟨h.1.2, h.2⟩
 split at h
 ·simp only [Bool.and_eq_true, List.isEmpty_iff] at h
  rw [h.1]
  exact ⟨h.2, hn⟩
 split at h
 ·simp only [Bool.and_eq_true] at h
  exact h
 split at h
 ·simp only [Bool.and_eq_true, List.isEmpty_iff] at h
  rw [h.1.2]
  exact ⟨h.2, hn⟩
 ·cases h
end Go.Proofs.Ytfphgelollhdhaa
namespace Go.Proofs.Ytfphgelollhdhaa
open Go Go.RowKit
set_option maxRecDepth 100000
abbrev St (l : List UInt8) : AV := .val (.string ⟨l.toArray⟩)
abbrev Bs := List UInt8
theorem bs_eq (l l' : List UInt8) : ((ByteArray.mk l.toArray).toList == (ByteArray.mk l'.toArray).toList) = decide (l = l') := by
 rw [ByteArray.toList_eq, ByteArray.toList_eq]
 show (l == l') = _
 rw [Bool.eq_iff_iff, beq_iff_eq, decide_eq_true_eq]
def encS (s : List Int) : AV := .sl 1 false (s.map encI)
theorem encI_closed (n : Int) : ∀ x, x ∈ encI n → Closed x := fun x hx => by rw [List.mem_singleton.1 hx]; exact .val _
theorem closed_s (s : List Int) : Closed (encS s) := closed_map encI_closed
def nmsV : List Bs := [
 [40, 101, 120, 105, 116, 41], [40, 108, 105, 116, 41], [40, 98, 114, 97, 110, 99, 104, 41], [40, 48, 98, 114, 97, 110, 99, 104, 41],
 [40, 100, 111, 41], [40, 63, 100, 111, 41], [40, 108, 111, 111, 112, 41], [40, 43, 108, 111, 111, 112, 41], [40, 104, 97, 108, 116, 41],
 [40, 99, 97, 117, 103, 104, 116, 41], [40, 100, 111, 101, 115, 41], [40, 115, 116, 114, 41], [69, 88, 69, 67, 85, 84, 69], [67, 65, 84, 67, 72],
 [84, 72, 82, 79, 87], [73], [74], [85, 78, 76, 79, 79, 80], [62, 82], [82, 62], [82, 64], [50, 62, 82], [50, 82, 62], [68, 85, 80],
 [68, 82, 79, 80], [83, 87, 65, 80], [79, 86, 69, 82], [82, 79, 84], [45, 82, 79, 84], [78, 73, 80], [84, 85, 67, 75], [63, 68, 85, 80],
 [50, 68, 85, 80], [50, 68, 82, 79, 80], [50, 83, 87, 65, 80], [50, 79, 86, 69, 82], [80, 73, 67, 75], [82, 79, 76, 76], [68, 69, 80, 84, 72], [43],
 [45], [42], [47], [77, 79, 68], [65, 78, 68], [79, 82], [88, 79, 82], [76, 83, 72, 73, 70, 84], [82, 83, 72, 73, 70, 84], [77, 73, 78],
 [77, 65, 88], [61], [60, 62], [60], [62], [60, 61], [62, 61], [85, 60], [85, 62], [78, 69, 71, 65, 84, 69], [65, 66, 83], [73, 78, 86, 69, 82, 84],
 [49, 43], [49, 45], [50, 42], [50, 47], [48, 61], [48, 60], [48, 60, 62], [48, 62], [67, 69, 76, 76, 83], [67, 69, 76, 76, 43],
 [65, 76, 73, 71, 78, 69, 68], [47, 77, 79, 68], [42, 47], [42, 47, 77, 79, 68], [85, 77, 42], [85, 77, 47, 77, 79, 68], [77, 42],
 [83, 77, 47, 82, 69, 77], [70, 77, 47, 77, 79, 68], [83, 62, 68], [87, 73, 84, 72, 73, 78], [64], [33], [43, 33], [67, 64], [67, 33], [50, 64],
 [50, 33], [70, 73, 76, 76], [77, 79, 86, 69], [67, 79, 85, 78, 84], [72, 69, 82, 69], [65, 76, 76, 79, 84], [44], [67, 44], [65, 76, 73, 71, 78],
 [66, 65, 83, 69], [83, 84, 65, 84, 69], [84, 82, 85, 69], [70, 65, 76, 83, 69], [66, 76], [68, 69, 67, 73, 77, 65, 76], [72, 69, 88],
 [69, 77, 73, 84], [67, 82], [83, 80, 65, 67, 69], [83, 80, 65, 67, 69, 83], [84, 89, 80, 69], [46], [85, 46], [60, 35], [35], [35, 83],
 [72, 79, 76, 68], [83, 73, 71, 78], [35, 62], [62, 66, 79, 68, 89], [65, 66, 79, 82, 84], [80, 79, 83, 84], [65, 70, 84, 69, 82],
 [69, 86, 69, 82, 89], [67, 65, 78, 67, 69, 76], [65, 82, 71], [83, 69, 76, 70], [78, 79, 87], [83, 69, 84, 45, 83, 84, 65, 84, 69],
 [65, 84, 45, 83, 84, 65, 84, 69], [71, 69, 84, 45, 83, 84, 65, 84, 69]]
def encN (l : Bs) : List AV := [St l]
theorem encN_closed (l : Bs) : ∀ x, x ∈ encN l → Closed x := fun x hx => by rw [List.mem_singleton.1 hx]; exact .val _
theorem closed_ns (l : List Bs) : Closed (.sl 1 false (l.map encN)) := closed_map encN_closed
def idxFrom : List Bs → Bs → Nat → Int
 | [], _, _ => -1
 | a :: l, s, i => if s = a then (i : Int) else idxFrom l s (i + 1)
def xtD (s : Bs) : Int := 32 + 8 * idxFrom nmsV s 0
theorem idx_rng : ∀ (l : List Bs) (s : Bs) (k : Nat), -1 ≤ idxFrom l s k ∧ idxFrom l s k ≤ k + l.length
 | [], _, _ => ⟨by unfold idxFrom; omega, by unfold idxFrom; omega⟩
 | a :: l, s, k => by
  have := idx_rng l s (k + 1)
  unfold idxFrom
  split
  ·exact ⟨by omega, by omega⟩
  ·rw [List.length_cons]; exact ⟨this.1, by omega⟩
theorem idx_step {l : List Bs} {s a : Bs} {k : Nat} (h : l[k]? = some a) : idxFrom (l.drop k) s k = if s = a then (k : Int) else idxFrom (l.drop (k + 1)) s (k + 1) := by
 rw [List.drop_eq_getElem_cons (List.getElem?_eq_some_iff.1 h).1, idxFrom, (List.getElem?_eq_some_iff.1 h).2]
attribute [local irreducible] Decidable.decide awp ARun regK toK
set_option maxHeartbeats 4000000 in
theorem names_c : FnC Try.prog 28 [] (.sl 1 true (nmsV.map encN)) := by
 refine goF Try.func28 closedL_nil (fun w0 st0 => ?_)
 dsimp only [frOf]
 (repeat' (first | refine goA ?_ | refine goB ?_ | ((fail_if_success refine ARun.plain rfl ?_); refine ARun.fork rfl rfl rfl (fun h => ?_) (fun h => ?_)) | refine awp_cond rfl (fun h => ?_) (fun h => ?_)))
 refine awp_ret ⟨_, ResL.cons (ResA.tmp (.closed (.sl 1 true (nmsV.map encN)) (closed_map encN_closed))) .nil, rfl⟩
set_option maxHeartbeats 4000000 in
theorem ref_names_c : FnC Try.prog 30 [] (.sl 1 true (nmsV.map encN)) := by
 refine goF Try.func30 closedL_nil (fun w0 st0 => ?_)
 dsimp only [frOf]
 (repeat' (first | refine goA ?_ | refine goB ?_ | ((fail_if_success refine ARun.plain rfl ?_); refine ARun.fork rfl rfl rfl (fun h => ?_) (fun h => ?_)) | refine awp_cond rfl (fun h => ?_) (fun h => ?_)))
 refine awp_ret ⟨_, ResL.cons (ResA.tmp (.closed (.sl 1 true (nmsV.map encN)) (closed_map encN_closed))) .nil, rfl⟩
theorem len_nms : (nmsV.map encN).length = 130 := by rw [List.length_map]; rfl
theorem index_c (l : List Bs) (s : Bs) (hl : l.length ≤ 1000000) : FnC Try.prog 27 [.sl 1 false (l.map encN), St s] (.val (.int .i64 (idxFrom l s 0))) := by
 refine goF Try.func27 (closedL_cons (closed_ns l) (closedL_cons (.val _) closedL_nil)) (fun w0 st0 => ?_)
 dsimp only [frOf]
 (repeat' (first | refine goA ?_ | refine goB ?_ | ((fail_if_success refine ARun.plain rfl ?_); refine ARun.fork rfl rfl rfl (fun h => ?_) (fun h => ?_)) | refine awp_cond rfl (fun h => ?_) (fun h => ?_)))
 refine awp_loopT (T := Nat × Nat) (fun t => ⟨[(8, .val (.int .i64 (t.1 : Nat))), (7, .val (.int .i64 ((l.map encN).length : Nat))), (0, .sl 1 false (l.map encN)), (1, St s)], [], t.2⟩) (fun t => t.1 ≤ l.length ∧ idxFrom l s 0 = idxFrom (l.drop t.1) s t.1) (fun t => l.length - t.1) (0, _) ⟨Nat.zero_le _, rfl⟩ ⟨⟨rfl, rfl, rfl, rfl, trivial⟩, trivial, Nat.le_refl _⟩ (fun t ht => ?_)
 obtain ⟨k, gc⟩ := t
 obtain ⟨hk, hA⟩ := ht
 dsimp only at hk hA ⊢
 by_cases hlt : k < l.length
 ·have hp : l[k]? = some l[k] := List.getElem?_eq_getElem hlt
  have hc : decide (((k : Nat) : Int) < (((l.map encN).length : Nat) : Int)) = true := by simp; omega
  generalize l[k] = a at hp
  have hs := idx_step (s := s) hp
  by_cases h3 : s = a
  ·have d3 : ((ByteArray.mk s.toArray).toList == (ByteArray.mk a.toArray).toList) = true := by rw [bs_eq]; exact decide_eq_true h3
   (repeat' (first | refine goA ?_ | refine ARun.indexAddr rfl rfl (by omega) (by first | with_reducible exact get_map hp | with_reducible exact get_map hp) rfl rfl rfl rfl rfl (guardF_spec rfl) ?_ | refine goB ?_ | ((fail_if_success refine ARun.plain rfl ?_); refine ARun.fork rfl rfl rfl (fun h => ?_) (fun h => ?_)) | refine awp_cond rfl (fun h => ?_) (fun h => ?_)))
   refine awp_ret ⟨_, ResL.cons (ResA.tmp (.val _)) .nil, congrArg (fun n => AV.val (.int .i64 n)) ?_⟩
   rw [hA, hs, if_pos h3]
  ·have d3 : ((ByteArray.mk s.toArray).toList == (ByteArray.mk a.toArray).toList) = false := by rw [bs_eq]; exact decide_eq_false h3
   (repeat' (first | refine goA ?_ | refine ARun.indexAddr rfl rfl (by omega) (by first | with_reducible exact get_map hp | with_reducible exact get_map hp) rfl rfl rfl rfl rfl (guardF_spec rfl) ?_ | refine goB ?_ | ((fail_if_success refine ARun.plain rfl ?_); refine ARun.fork rfl rfl rfl (fun h => ?_) (fun h => ?_)) | refine awp_cond rfl (fun h => ?_) (fun h => ?_)))
   exact ⟨(k + 1, _), ⟨⟨succI k, rfl, rfl, rfl, trivial⟩, trivial, Nat.le_refl _⟩, ⟨hlt, by dsimp only; rw [hA, hs, if_neg h3]⟩, (by dsimp only; omega)⟩
 ·have hkk : k = l.length := by omega
  subst hkk
  have hc : decide (((l.length : Nat) : Int) < (((l.map encN).length : Nat) : Int)) = false := by simp
  (repeat' (first | refine goA ?_ | refine goB ?_ | ((fail_if_success refine ARun.plain rfl ?_); refine ARun.fork rfl rfl rfl (fun h => ?_) (fun h => ?_)) | refine awp_cond rfl (fun h => ?_) (fun h => ?_)))
  refine awp_ret ⟨_, ResL.cons (ResA.tmp (.val _)) .nil, congrArg (fun n => AV.val (.int .i64 n)) ?_⟩
  rw [hA, List.drop_length]
  rfl
theorem number_c (s : Bs) : FnC Try.prog 25 [St s] (.val (.int .i64 (idxFrom nmsV s 0))) := by
 have c1 := ref_names_c
 have hl := len_nms
 rw [List.length_map] at hl
 generalize nmsV = l at *
 refine goF Try.func25 (closedL_cons (.val _) closedL_nil) (fun w0 st0 => ?_)
 dsimp only [frOf]
 (repeat' (first | refine goA ?_ | refine cX c1 ?_ | refine goB ?_ | ((fail_if_success refine ARun.plain rfl ?_); refine ARun.fork rfl rfl rfl (fun h => ?_) (fun h => ?_)) | refine awp_cond rfl (fun h => ?_) (fun h => ?_)))
 refine awp_loopT (T := Nat × Nat) (fun t => ⟨[(4, .val (.int .i64 (t.1 : Nat))), (3, .sl 1 true (l.map encN)), (0, St s)], [], t.2⟩) (fun t => t.1 ≤ l.length ∧ idxFrom l s 0 = idxFrom (l.drop t.1) s t.1) (fun t => l.length - t.1) (0, _) ⟨Nat.zero_le _, rfl⟩ ⟨⟨rfl, rfl, rfl, trivial⟩, trivial, Nat.le_refl _⟩ (fun t ht => ?_)
 obtain ⟨k, gc⟩ := t
 obtain ⟨hk, hA⟩ := ht
 dsimp only at hk hA ⊢
 by_cases hlt : k < l.length
 ·have hp : l[k]? = some l[k] := List.getElem?_eq_getElem hlt
  have hc : decide (((k : Nat) : Int) < (((l.map encN).length : Nat) : Int)) = true := by simp; omega
  generalize l[k] = a at hp
  have hs := idx_step (s := s) hp
  by_cases h3 : s = a
  ·have d3 : ((ByteArray.mk a.toArray).toList == (ByteArray.mk s.toArray).toList) = true := by rw [bs_eq]; exact decide_eq_true h3.symm
   (repeat' (first | refine goA ?_ | refine ARun.indexAddr rfl rfl (by omega) (by first | with_reducible exact get_map hp | with_reducible exact get_map hp) rfl rfl rfl rfl rfl (guardF_spec rfl) ?_ | refine goB ?_ | ((fail_if_success refine ARun.plain rfl ?_); refine ARun.fork rfl rfl rfl (fun h => ?_) (fun h => ?_)) | refine awp_cond rfl (fun h => ?_) (fun h => ?_)))
   refine awp_ret ⟨_, ResL.cons (ResA.tmp (.val _)) .nil, congrArg (fun b => AV.val (.int .i64 b)) ?_⟩
   rw [hA, hs, if_pos h3]
  ·have d3 : ((ByteArray.mk a.toArray).toList == (ByteArray.mk s.toArray).toList) = false := by rw [bs_eq]; exact decide_eq_false (fun e => h3 e.symm)
   (repeat' (first | refine goA ?_ | refine ARun.indexAddr rfl rfl (by omega) (by first | with_reducible exact get_map hp | with_reducible exact get_map hp) rfl rfl rfl rfl rfl (guardF_spec rfl) ?_ | refine goB ?_ | ((fail_if_success refine ARun.plain rfl ?_); refine ARun.fork rfl rfl rfl (fun h => ?_) (fun h => ?_)) | refine awp_cond rfl (fun h => ?_) (fun h => ?_)))
   exact ⟨(k + 1, _), ⟨⟨succI k, rfl, rfl, trivial⟩, trivial, Nat.le_refl _⟩, ⟨hlt, by dsimp only; rw [hA, hs, if_neg h3]⟩, (by dsimp only; omega)⟩
 ·have hkk : k = l.length := by omega
  subst hkk
  have hc : decide (((l.length : Nat) : Int) < (((l.map encN).length : Nat) : Int)) = false := by simp
  (repeat' (first | refine goA ?_ | refine goB ?_ | ((fail_if_success refine ARun.plain rfl ?_); refine ARun.fork rfl rfl rfl (fun h => ?_) (fun h => ?_)) | refine awp_cond rfl (fun h => ?_) (fun h => ?_)))
  refine awp_ret ⟨_, ResL.cons (ResA.tmp (.val _)) .nil, congrArg (fun b => AV.val (.int .i64 b)) ?_⟩
  rw [hA, List.drop_length]
  rfl
theorem ref_xt_c (s : Bs) : FnC Try.prog 15 [St s] (.val (.int .i64 (xtD s))) := by
 have c1 := number_c s
 have hl := len_nms
 rw [List.length_map] at hl
 have hr := idx_rng nmsV s 0
 unfold xtD
 generalize idxFrom nmsV s 0 = n at *
 refine goF Try.func15 (closedL_cons (.val _) closedL_nil) (fun w0 st0 => ?_)
 dsimp only [frOf]
 (repeat' (first | refine goA ?_ | refine cX c1 ?_ | refine goB ?_ | ((fail_if_success refine ARun.plain rfl ?_); refine ARun.fork rfl rfl rfl (fun h => ?_) (fun h => ?_)) | refine awp_cond rfl (fun h => ?_) (fun h => ?_)))
 exact awp_ret ⟨_, ResL.cons (ResA.tmp (.val _)) .nil, rfl⟩
def sameD (a b : List Int) : Bool := decide (a = b)
theorem ref_same_c (a b : List Int) (ha : a.length ≤ 1000000) (hb : b.length ≤ 1000000) : FnC Try.prog 11 [encS a, encS b] (.val (.bool (sameD a b))) := by
 refine goF Try.func11 (closedL_cons (closed_s a) (closedL_cons (closed_s b) closedL_nil)) (fun w0 st0 => ?_)
 dsimp only [frOf]
 by_cases hne : a.length = b.length
 ·have hc0 : ((((a.map encI).length : Nat) : Int) != (((b.map encI).length : Nat) : Int)) = false := by simp [hne]
  (repeat' (first | refine goA ?_ | refine goB ?_ | ((fail_if_success refine ARun.plain rfl ?_); refine ARun.fork rfl rfl rfl (fun h => ?_) (fun h => ?_)) | refine awp_cond rfl (fun h => ?_) (fun h => ?_)))
  refine awp_loopT (T := Nat × Nat) (fun t => ⟨[(0, encS a), (1, encS b), (4, .val (.bool false)), (5, .val (.int .i64 (t.1 : Nat)))], [], t.2⟩)
   (fun t => t.1 ≤ a.length ∧ a.take t.1 = b.take t.1) (fun t => a.length - t.1) (0, _) ⟨Nat.zero_le _, rfl⟩ ⟨⟨rfl, rfl, rfl, rfl, trivial⟩, trivial, Nat.le_refl _⟩ (fun t ht => ?_)
  obtain ⟨k, gc⟩ := t
  obtain ⟨hk, hA⟩ := ht
  dsimp only at hk hA ⊢
  by_cases hlt : k < a.length
  ·have h1 : a[k]? = some a[k] := List.getElem?_eq_getElem hlt
   have h2 : b[k]? = some b[k] := List.getElem?_eq_getElem (by omega)
   have hc : decide (((k : Nat) : Int) < (((a.map encI).length : Nat) : Int)) = true := by rw [List.length_map]; simp; omega
   have e1 := take_succ' h1
   have e2 := take_succ' h2
   by_cases heq : a[k] = b[k]
   ·have hd : (a[k] != b[k]) = false := by simp [heq]
    (repeat' (first | refine goA ?_ | refine ARun.indexAddr rfl rfl (by omega) (by first | with_reducible exact get_map h1 | with_reducible exact get_map h2) rfl rfl rfl rfl rfl (guardF_spec rfl) ?_ | refine goB ?_ | ((fail_if_success refine ARun.plain rfl ?_); refine ARun.fork rfl rfl rfl (fun h => ?_) (fun h => ?_)) | refine awp_cond rfl (fun h => ?_) (fun h => ?_)))
    refine ⟨(k + 1, _), ⟨⟨rfl, rfl, rfl, succI k, trivial⟩, trivial, Nat.le_refl _⟩, ⟨hlt, ?_⟩, (by dsimp only; omega)⟩
    dsimp only
    rw [e1, e2, hA, heq]
   ·have hd : (a[k] != b[k]) = true := by simp [heq]
    (repeat' (first | refine goA ?_ | refine ARun.indexAddr rfl rfl (by omega) (by first | with_reducible exact get_map h1 | with_reducible exact get_map h2) rfl rfl rfl rfl rfl (guardF_spec rfl) ?_ | refine goB ?_ | ((fail_if_success refine ARun.plain rfl ?_); refine ARun.fork rfl rfl rfl (fun h => ?_) (fun h => ?_)) | refine awp_cond rfl (fun h => ?_) (fun h => ?_)))
    have : sameD a b = false := by
     unfold sameD
     rw [decide_eq_false_iff_not]
     intro e
     subst e
     exact heq rfl
    rw [this]
    refine awp_ret ⟨_, ResL.cons (ResA.tmp (.val _)) .nil, rfl⟩
  ·have hk : k = a.length := by omega
   subst hk
   have hc : decide (((a.length : Nat) : Int) < (((a.map encI).length : Nat) : Int)) = false := by rw [List.length_map]; simp
   (repeat' (first | refine goA ?_ | refine goB ?_ | ((fail_if_success refine ARun.plain rfl ?_); refine ARun.fork rfl rfl rfl (fun h => ?_) (fun h => ?_)) | refine awp_cond rfl (fun h => ?_) (fun h => ?_)))
   have : sameD a b = true := by
    unfold sameD
    rw [decide_eq_true_eq]
    rw [List.take_length, hne, List.take_length] at hA
    exact hA
   rw [this]
   refine awp_ret ⟨_, ResL.cons (ResA.tmp (.val _)) .nil, rfl⟩
 ·have hc0 : ((((a.map encI).length : Nat) : Int) != (((b.map encI).length : Nat) : Int)) = true := by simp; omega
  (repeat' (first | refine goA ?_ | refine goB ?_ | ((fail_if_success refine ARun.plain rfl ?_); refine ARun.fork rfl rfl rfl (fun h => ?_) (fun h => ?_)) | refine awp_cond rfl (fun h => ?_) (fun h => ?_)))
  have : sameD a b = false := by
   unfold sameD
   rw [decide_eq_false_iff_not]
   intro e
   subst e
   exact hne rfl
  rw [this]
  refine awp_ret ⟨_, ResL.cons (ResA.tmp (.val _)) .nil, rfl⟩
theorem xt_c (s : Bs) : FnC Try.prog 23 [St s] (.val (.int .i64 (xtD s))) := by
 have c1 := names_c
 have hl := len_nms
 have c2 := index_c nmsV s (by rw [List.length_map] at hl; omega)
 have hr := idx_rng nmsV s 0
 unfold xtD
 rw [List.length_map] at hl
 generalize idxFrom nmsV s 0 = n at *
 generalize nmsV.map encN = l1 at *
 refine goF Try.func23 (closedL_cons (.val _) closedL_nil) (fun w0 st0 => ?_)
 dsimp only [frOf]
 (repeat' (first | refine goA ?_ | refine cX c1 ?_ | refine callW (c2) rfl wkT rfl rfl ?_ | refine goB ?_ | ((fail_if_success refine ARun.plain rfl ?_); refine ARun.fork rfl rfl rfl (fun h => ?_) (fun h => ?_)) | refine awp_cond rfl (fun h => ?_) (fun h => ?_)))
 exact awp_ret ⟨_, ResL.cons (ResA.tmp (.val _)) .nil, rfl⟩
end Go.Proofs.Ytfphgelollhdhaa
namespace Go.Proofs.Ytfphgelollhdhaa
open Go Go.RowKit
set_option maxRecDepth 100000
abbrev NC (x : Nod) : List AV := [.val (.int .i64 x.k), .val (.int .i64 x.n), encTr x.a, encTr x.b]
theorem NC_closed (x : Nod) : ∀ v, v ∈ NC x → Closed v := closedL_cons (.val _) (closedL_cons (.val _) (closedL_cons (closed_tr _) (closedL_cons (closed_tr _) closedL_nil)))
def SizC (t : List Nod) : Prop := FnC Try.prog 9 [encTr t] (.val (.int .i64 (sizS t)))
def RsizC (t : List Nod) : Prop := FnC Try.prog 10 [encTr t] (.val (.int .i64 (sizS t)))
theorem okDs_nil : okDs [] = true := by rw [okDs]
theorem kinds {x : Nod} (h : okD x = true) : (x.k = 1 ∨ x.k = 2 ∨ x.k = 9 ∨ x.k = 10 ∨ x.k = 11) ∨ (x.k = 3 ∧ (x.n = 1 ∨ x.n = 0)) ∨ x.k = 4 ∨ x.k = 5 ∨ x.k = 6 ∨ ((x.k = 7 ∨ x.k = 8) ∧ (x.n = 0 ∨ x.n = 1)) := by
 rcases okD_cases h with h | h | h | h | h
 ·exact .inl h.1
 ·exact .inr (.inl ⟨h.1, h.2.imp id (·.1)⟩)
 ·rcases h.1 with h | h
  ·exact .inr (.inr (.inl h))
  ·exact .inr (.inr (.inr (.inl h)))
 ·exact .inr (.inr (.inr (.inr (.inl h))))
 ·exact .inr (.inr (.inr (.inr (.inr ⟨h.1, h.2.1⟩))))
theorem sizB0 {x : Nod} (h : okD x = true) (hk : x.k ≠ 6) (hn : x.k = 3 → x.n ≠ 1) : sizS x.b = 0 := by
 rcases okD_cases h with h | h | h | h | h
 ·rw [h.2.2, sizS]
 ·rcases h.2 with h2 | h2
  ·exact absurd h2 (hn h.1)
  ·rw [h2.2, sizS]
 ·rw [h.2, sizS]
 ·exact absurd h hk
 ·rw [h.2.2, sizS]
attribute [local irreducible] Decidable.decide awp ARun regK toK
set_option maxHeartbeats 4000000 in
theorem one_c (x : Nod) (ok : okD x = true) (hb : cntN x ≤ 100000) (ca : SizC x.a) (cb : SizC x.b) : FnC Try.prog 19 [.agg (NC x)] (.val (.int .i64 (oneS x))) := by
 have b1 := sizS_bound x.a
 have b2 := sizS_bound x.b
 have b3 := cnt_ab x
 have b4 := sizB0 ok
 unfold SizC at ca cb
 rcases kinds ok with hk | ⟨hk, hn⟩ | hk | hk | hk | ⟨hk, hn⟩
 ·rcases hk with hk | hk | hk | hk | hk
  ·skip
   have e2 : (x.k == 2) = false := beq_eq_false_iff_ne.2 (by omega)
   have e10 : (x.k == 10) = false := beq_eq_false_iff_ne.2 (by omega)
   have e11 : (x.k == 11) = false := beq_eq_false_iff_ne.2 (by omega)
   have e1 : (x.k == 1) = true := beq_iff_eq.2 hk
   have e9 : (x.k == 9) = false := beq_eq_false_iff_ne.2 (by omega)
   have e6 : (x.k == 6) = false := beq_eq_false_iff_ne.2 (by omega)
   have e3 : (x.k == 3) = false := beq_eq_false_iff_ne.2 (by omega)
   have e7 : (x.k == 7) = false := beq_eq_false_iff_ne.2 (by omega)
   have e8 : (x.k == 8) = false := beq_eq_false_iff_ne.2 (by omega)
   have b5 := b4 (by omega) (by omega)
   refine goF Try.func19 (closedL_cons (.agg (NC_closed x)) closedL_nil) (fun w0 st0 => ?_)
   dsimp only [frOf]
   (repeat' (first | refine goA ?_ | refine cX ca ?_ | refine cX cb ?_ | refine goB ?_ | fail))
   (refine awp_ret ⟨_, ResL.cons (ResA.tmp (.val _)) .nil, congrArg (fun n => AV.val (.int .i64 n)) ?_⟩; rw [oneS_eq]; (repeat' split) <;> omega)
  ·skip
   have e2 : (x.k == 2) = true := beq_iff_eq.2 hk
   have e10 : (x.k == 10) = false := beq_eq_false_iff_ne.2 (by omega)
   have e11 : (x.k == 11) = false := beq_eq_false_iff_ne.2 (by omega)
   have e1 : (x.k == 1) = false := beq_eq_false_iff_ne.2 (by omega)
   have e9 : (x.k == 9) = false := beq_eq_false_iff_ne.2 (by omega)
   have e6 : (x.k == 6) = false := beq_eq_false_iff_ne.2 (by omega)
   have e3 : (x.k == 3) = false := beq_eq_false_iff_ne.2 (by omega)
   have e7 : (x.k == 7) = false := beq_eq_false_iff_ne.2 (by omega)
   have e8 : (x.k == 8) = false := beq_eq_false_iff_ne.2 (by omega)
   have b5 := b4 (by omega) (by omega)
   refine goF Try.func19 (closedL_cons (.agg (NC_closed x)) closedL_nil) (fun w0 st0 => ?_)
   dsimp only [frOf]
   (repeat' (first | refine goA ?_ | refine cX ca ?_ | refine cX cb ?_ | refine goB ?_ | fail))
   (refine awp_ret ⟨_, ResL.cons (ResA.tmp (.val _)) .nil, congrArg (fun n => AV.val (.int .i64 n)) ?_⟩; rw [oneS_eq]; (repeat' split) <;> omega)
  ·skip
   have e2 : (x.k == 2) = false := beq_eq_false_iff_ne.2 (by omega)
   have e10 : (x.k == 10) = false := beq_eq_false_iff_ne.2 (by omega)
   have e11 : (x.k == 11) = false := beq_eq_false_iff_ne.2 (by omega)
   have e1 : (x.k == 1) = false := beq_eq_false_iff_ne.2 (by omega)
   have e9 : (x.k == 9) = true := beq_iff_eq.2 hk
   have e6 : (x.k == 6) = false := beq_eq_false_iff_ne.2 (by omega)
   have e3 : (x.k == 3) = false := beq_eq_false_iff_ne.2 (by omega)
   have e7 : (x.k == 7) = false := beq_eq_false_iff_ne.2 (by omega)
   have e8 : (x.k == 8) = false := beq_eq_false_iff_ne.2 (by omega)
   have b5 := b4 (by omega) (by omega)
   refine goF Try.func19 (closedL_cons (.agg (NC_closed x)) closedL_nil) (fun w0 st0 => ?_)
   dsimp only [frOf]
   (repeat' (first | refine goA ?_ | refine cX ca ?_ | refine cX cb ?_ | refine goB ?_ | fail))
   (refine awp_ret ⟨_, ResL.cons (ResA.tmp (.val _)) .nil, congrArg (fun n => AV.val (.int .i64 n)) ?_⟩; rw [oneS_eq]; (repeat' split) <;> omega)
  ·skip
   have e2 : (x.k == 2) = false := beq_eq_false_iff_ne.2 (by omega)
   have e10 : (x.k == 10) = true := beq_iff_eq.2 hk
   have e11 : (x.k == 11) = false := beq_eq_false_iff_ne.2 (by omega)
   have e1 : (x.k == 1) = false := beq_eq_false_iff_ne.2 (by omega)
   have e9 : (x.k == 9) = false := beq_eq_false_iff_ne.2 (by omega)
   have e6 : (x.k == 6) = false := beq_eq_false_iff_ne.2 (by omega)
   have e3 : (x.k == 3) = false := beq_eq_false_iff_ne.2 (by omega)
   have e7 : (x.k == 7) = false := beq_eq_false_iff_ne.2 (by omega)
   have e8 : (x.k == 8) = false := beq_eq_false_iff_ne.2 (by omega)
   have b5 := b4 (by omega) (by omega)
   refine goF Try.func19 (closedL_cons (.agg (NC_closed x)) closedL_nil) (fun w0 st0 => ?_)
   dsimp only [frOf]
   (repeat' (first | refine goA ?_ | refine cX ca ?_ | refine cX cb ?_ | refine goB ?_ | fail))
   (refine awp_ret ⟨_, ResL.cons (ResA.tmp (.val _)) .nil, congrArg (fun n => AV.val (.int .i64 n)) ?_⟩; rw [oneS_eq]; (repeat' split) <;> omega)
  ·skip
   have e2 : (x.k == 2) = false := beq_eq_false_iff_ne.2 (by omega)
   have e10 : (x.k == 10) = false := beq_eq_false_iff_ne.2 (by omega)
   have e11 : (x.k == 11) = true := beq_iff_eq.2 hk
   have e1 : (x.k == 1) = false := beq_eq_false_iff_ne.2 (by omega)
   have e9 : (x.k == 9) = false := beq_eq_false_iff_ne.2 (by omega)
   have e6 : (x.k == 6) = false := beq_eq_false_iff_ne.2 (by omega)
   have e3 : (x.k == 3) = false := beq_eq_false_iff_ne.2 (by omega)
   have e7 : (x.k == 7) = false := beq_eq_false_iff_ne.2 (by omega)
   have e8 : (x.k == 8) = false := beq_eq_false_iff_ne.2 (by omega)
   have b5 := b4 (by omega) (by omega)
   refine goF Try.func19 (closedL_cons (.agg (NC_closed x)) closedL_nil) (fun w0 st0 => ?_)
   dsimp only [frOf]
   (repeat' (first | refine goA ?_ | refine cX ca ?_ | refine cX cb ?_ | refine goB ?_ | fail))
   (refine awp_ret ⟨_, ResL.cons (ResA.tmp (.val _)) .nil, congrArg (fun n => AV.val (.int .i64 n)) ?_⟩; rw [oneS_eq]; (repeat' split) <;> omega)
 ·rcases hn with hn | hn
  ·skip
   have e2 : (x.k == 2) = false := beq_eq_false_iff_ne.2 (by omega)
   have e10 : (x.k == 10) = false := beq_eq_false_iff_ne.2 (by omega)
   have e11 : (x.k == 11) = false := beq_eq_false_iff_ne.2 (by omega)
   have e1 : (x.k == 1) = false := beq_eq_false_iff_ne.2 (by omega)
   have e9 : (x.k == 9) = false := beq_eq_false_iff_ne.2 (by omega)
   have e6 : (x.k == 6) = false := beq_eq_false_iff_ne.2 (by omega)
   have e3 : (x.k == 3) = true := beq_iff_eq.2 hk
   have e7 : (x.k == 7) = false := beq_eq_false_iff_ne.2 (by omega)
   have e8 : (x.k == 8) = false := beq_eq_false_iff_ne.2 (by omega)
   have e0 : (x.n == 1) = true := beq_iff_eq.2 hn
   refine goF Try.func19 (closedL_cons (.agg (NC_closed x)) closedL_nil) (fun w0 st0 => ?_)
   dsimp only [frOf]
   (repeat' (first | refine goA ?_ | refine cX ca ?_ | refine cX cb ?_ | refine goB ?_ | fail))
   (refine awp_ret ⟨_, ResL.cons (ResA.tmp (.val _)) .nil, congrArg (fun n => AV.val (.int .i64 n)) ?_⟩; rw [oneS_eq]; (repeat' split) <;> omega)
  ·skip
   have e2 : (x.k == 2) = false := beq_eq_false_iff_ne.2 (by omega)
   have e10 : (x.k == 10) = false := beq_eq_false_iff_ne.2 (by omega)
   have e11 : (x.k == 11) = false := beq_eq_false_iff_ne.2 (by omega)
   have e1 : (x.k == 1) = false := beq_eq_false_iff_ne.2 (by omega)
   have e9 : (x.k == 9) = false := beq_eq_false_iff_ne.2 (by omega)
   have e6 : (x.k == 6) = false := beq_eq_false_iff_ne.2 (by omega)
   have e3 : (x.k == 3) = true := beq_iff_eq.2 hk
   have e7 : (x.k == 7) = false := beq_eq_false_iff_ne.2 (by omega)
   have e8 : (x.k == 8) = false := beq_eq_false_iff_ne.2 (by omega)
   have b5 := b4 (by omega) (by omega)
   have e0 : (x.n == 1) = false := beq_eq_false_iff_ne.2 (by omega)
   refine goF Try.func19 (closedL_cons (.agg (NC_closed x)) closedL_nil) (fun w0 st0 => ?_)
   dsimp only [frOf]
   (repeat' (first | refine goA ?_ | refine cX ca ?_ | refine cX cb ?_ | refine goB ?_ | fail))
   (refine awp_ret ⟨_, ResL.cons (ResA.tmp (.val _)) .nil, congrArg (fun n => AV.val (.int .i64 n)) ?_⟩; rw [oneS_eq]; (repeat' split) <;> omega)
 ·skip
  have e2 : (x.k == 2) = false := beq_eq_false_iff_ne.2 (by omega)
  have e10 : (x.k == 10) = false := beq_eq_false_iff_ne.2 (by omega)
  have e11 : (x.k == 11) = false := beq_eq_false_iff_ne.2 (by omega)
  have e1 : (x.k == 1) = false := beq_eq_false_iff_ne.2 (by omega)
  have e9 : (x.k == 9) = false := beq_eq_false_iff_ne.2 (by omega)
  have e6 : (x.k == 6) = false := beq_eq_false_iff_ne.2 (by omega)
  have e3 : (x.k == 3) = false := beq_eq_false_iff_ne.2 (by omega)
  have e7 : (x.k == 7) = false := beq_eq_false_iff_ne.2 (by omega)
  have e8 : (x.k == 8) = false := beq_eq_false_iff_ne.2 (by omega)
  have b5 := b4 (by omega) (by omega)
  refine goF Try.func19 (closedL_cons (.agg (NC_closed x)) closedL_nil) (fun w0 st0 => ?_)
  dsimp only [frOf]
  (repeat' (first | refine goA ?_ | refine cX ca ?_ | refine cX cb ?_ | refine goB ?_ | fail))
  (refine awp_ret ⟨_, ResL.cons (ResA.tmp (.val _)) .nil, congrArg (fun n => AV.val (.int .i64 n)) ?_⟩; rw [oneS_eq]; (repeat' split) <;> omega)
 ·skip
  have e2 : (x.k == 2) = false := beq_eq_false_iff_ne.2 (by omega)
  have e10 : (x.k == 10) = false := beq_eq_false_iff_ne.2 (by omega)
  have e11 : (x.k == 11) = false := beq_eq_false_iff_ne.2 (by omega)
  have e1 : (x.k == 1) = false := beq_eq_false_iff_ne.2 (by omega)
  have e9 : (x.k == 9) = false := beq_eq_false_iff_ne.2 (by omega)
  have e6 : (x.k == 6) = false := beq_eq_false_iff_ne.2 (by omega)
  have e3 : (x.k == 3) = false := beq_eq_false_iff_ne.2 (by omega)
  have e7 : (x.k == 7) = false := beq_eq_false_iff_ne.2 (by omega)
  have e8 : (x.k == 8) = false := beq_eq_false_iff_ne.2 (by omega)
  have b5 := b4 (by omega) (by omega)
  refine goF Try.func19 (closedL_cons (.agg (NC_closed x)) closedL_nil) (fun w0 st0 => ?_)
  dsimp only [frOf]
  (repeat' (first | refine goA ?_ | refine cX ca ?_ | refine cX cb ?_ | refine goB ?_ | fail))
  (refine awp_ret ⟨_, ResL.cons (ResA.tmp (.val _)) .nil, congrArg (fun n => AV.val (.int .i64 n)) ?_⟩; rw [oneS_eq]; (repeat' split) <;> omega)
 ·skip
  have e2 : (x.k == 2) = false := beq_eq_false_iff_ne.2 (by omega)
  have e10 : (x.k == 10) = false := beq_eq_false_iff_ne.2 (by omega)
  have e11 : (x.k == 11) = false := beq_eq_false_iff_ne.2 (by omega)
  have e1 : (x.k == 1) = false := beq_eq_false_iff_ne.2 (by omega)
  have e9 : (x.k == 9) = false := beq_eq_false_iff_ne.2 (by omega)
  have e6 : (x.k == 6) = true := beq_iff_eq.2 hk
  have e3 : (x.k == 3) = false := beq_eq_false_iff_ne.2 (by omega)
  have e7 : (x.k == 7) = false := beq_eq_false_iff_ne.2 (by omega)
  have e8 : (x.k == 8) = false := beq_eq_false_iff_ne.2 (by omega)
  refine goF Try.func19 (closedL_cons (.agg (NC_closed x)) closedL_nil) (fun w0 st0 => ?_)
  dsimp only [frOf]
  (repeat' (first | refine goA ?_ | refine cX ca ?_ | refine cX cb ?_ | refine goB ?_ | fail))
  (refine awp_ret ⟨_, ResL.cons (ResA.tmp (.val _)) .nil, congrArg (fun n => AV.val (.int .i64 n)) ?_⟩; rw [oneS_eq]; (repeat' split) <;> omega)
 ·rcases hk with hk | hk <;> rcases hn with hn | hn
  ·skip
   have e2 : (x.k == 2) = false := beq_eq_false_iff_ne.2 (by omega)
   have e10 : (x.k == 10) = false := beq_eq_false_iff_ne.2 (by omega)
   have e11 : (x.k == 11) = false := beq_eq_false_iff_ne.2 (by omega)
   have e1 : (x.k == 1) = false := beq_eq_false_iff_ne.2 (by omega)
   have e9 : (x.k == 9) = false := beq_eq_false_iff_ne.2 (by omega)
   have e6 : (x.k == 6) = false := beq_eq_false_iff_ne.2 (by omega)
   have e3 : (x.k == 3) = false := beq_eq_false_iff_ne.2 (by omega)
   have e7 : (x.k == 7) = true := beq_iff_eq.2 hk
   have e8 : (x.k == 8) = false := beq_eq_false_iff_ne.2 (by omega)
   have b5 := b4 (by omega) (by omega)
   have e0 : (x.n == 1) = false := beq_eq_false_iff_ne.2 (by omega)
   refine goF Try.func19 (closedL_cons (.agg (NC_closed x)) closedL_nil) (fun w0 st0 => ?_)
   dsimp only [frOf]
   (repeat' (first | refine goA ?_ | refine cX ca ?_ | refine cX cb ?_ | refine goB ?_ | fail))
   (refine awp_ret ⟨_, ResL.cons (ResA.tmp (.val _)) .nil, congrArg (fun n => AV.val (.int .i64 n)) ?_⟩; rw [oneS_eq]; (repeat' split) <;> omega)
  ·skip
   have e2 : (x.k == 2) = false := beq_eq_false_iff_ne.2 (by omega)
   have e10 : (x.k == 10) = false := beq_eq_false_iff_ne.2 (by omega)
   have e11 : (x.k == 11) = false := beq_eq_false_iff_ne.2 (by omega)
   have e1 : (x.k == 1) = false := beq_eq_false_iff_ne.2 (by omega)
   have e9 : (x.k == 9) = false := beq_eq_false_iff_ne.2 (by omega)
   have e6 : (x.k == 6) = false := beq_eq_false_iff_ne.2 (by omega)
   have e3 : (x.k == 3) = false := beq_eq_false_iff_ne.2 (by omega)
   have e7 : (x.k == 7) = true := beq_iff_eq.2 hk
   have e8 : (x.k == 8) = false := beq_eq_false_iff_ne.2 (by omega)
   have b5 := b4 (by omega) (by omega)
   have e0 : (x.n == 1) = true := beq_iff_eq.2 hn
   refine goF Try.func19 (closedL_cons (.agg (NC_closed x)) closedL_nil) (fun w0 st0 => ?_)
   dsimp only [frOf]
   (repeat' (first | refine goA ?_ | refine cX ca ?_ | refine cX cb ?_ | refine goB ?_ | fail))
   (refine awp_ret ⟨_, ResL.cons (ResA.tmp (.val _)) .nil, congrArg (fun n => AV.val (.int .i64 n)) ?_⟩; rw [oneS_eq]; (repeat' split) <;> omega)
  ·skip
   have e2 : (x.k == 2) = false := beq_eq_false_iff_ne.2 (by omega)
   have e10 : (x.k == 10) = false := beq_eq_false_iff_ne.2 (by omega)
   have e11 : (x.k == 11) = false := beq_eq_false_iff_ne.2 (by omega)
   have e1 : (x.k == 1) = false := beq_eq_false_iff_ne.2 (by omega)
   have e9 : (x.k == 9) = false := beq_eq_false_iff_ne.2 (by omega)
   have e6 : (x.k == 6) = false := beq_eq_false_iff_ne.2 (by omega)
   have e3 : (x.k == 3) = false := beq_eq_false_iff_ne.2 (by omega)
   have e7 : (x.k == 7) = false := beq_eq_false_iff_ne.2 (by omega)
   have e8 : (x.k == 8) = true := beq_iff_eq.2 hk
   have b5 := b4 (by omega) (by omega)
   have e0 : (x.n == 1) = false := beq_eq_false_iff_ne.2 (by omega)
   refine goF Try.func19 (closedL_cons (.agg (NC_closed x)) closedL_nil) (fun w0 st0 => ?_)
   dsimp only [frOf]
   (repeat' (first | refine goA ?_ | refine cX ca ?_ | refine cX cb ?_ | refine goB ?_ | fail))
   (refine awp_ret ⟨_, ResL.cons (ResA.tmp (.val _)) .nil, congrArg (fun n => AV.val (.int .i64 n)) ?_⟩; rw [oneS_eq]; (repeat' split) <;> omega)
  ·skip
   have e2 : (x.k == 2) = false := beq_eq_false_iff_ne.2 (by omega)
   have e10 : (x.k == 10) = false := beq_eq_false_iff_ne.2 (by omega)
   have e11 : (x.k == 11) = false := beq_eq_false_iff_ne.2 (by omega)
   have e1 : (x.k == 1) = false := beq_eq_false_iff_ne.2 (by omega)
   have e9 : (x.k == 9) = false := beq_eq_false_iff_ne.2 (by omega)
   have e6 : (x.k == 6) = false := beq_eq_false_iff_ne.2 (by omega)
   have e3 : (x.k == 3) = false := beq_eq_false_iff_ne.2 (by omega)
   have e7 : (x.k == 7) = false := beq_eq_false_iff_ne.2 (by omega)
   have e8 : (x.k == 8) = true := beq_iff_eq.2 hk
   have b5 := b4 (by omega) (by omega)
   have e0 : (x.n == 1) = true := beq_iff_eq.2 hn
   refine goF Try.func19 (closedL_cons (.agg (NC_closed x)) closedL_nil) (fun w0 st0 => ?_)
   dsimp only [frOf]
   (repeat' (first | refine goA ?_ | refine cX ca ?_ | refine cX cb ?_ | refine goB ?_ | fail))
   (refine awp_ret ⟨_, ResL.cons (ResA.tmp (.val _)) .nil, congrArg (fun n => AV.val (.int .i64 n)) ?_⟩; rw [oneS_eq]; (repeat' split) <;> omega)
set_option maxHeartbeats 4000000 in
theorem ref_one_c (x : Nod) (ok : okD x = true) (hb : cntN x ≤ 100000) (ca : RsizC x.a) (cb : RsizC x.b) : FnC Try.prog 20 [.agg (NC x)] (.val (.int .i64 (oneS x))) := by
 have b1 := sizS_bound x.a
 have b2 := sizS_bound x.b
 have b3 := cnt_ab x
 have b4 := sizB0 ok
 unfold RsizC at ca cb
 rcases kinds ok with hk | ⟨hk, hn⟩ | hk | hk | hk | ⟨hk, hn⟩
 ·rcases hk with hk | hk | hk | hk | hk
  ·skip
   have e1 : (x.k == 1) = true := beq_iff_eq.2 hk
   have e3 : (x.k == 3) = false := beq_eq_false_iff_ne.2 (by omega)
   have e4 : (x.k == 4) = false := beq_eq_false_iff_ne.2 (by omega)
   have e5 : (x.k == 5) = false := beq_eq_false_iff_ne.2 (by omega)
   have e6 : (x.k == 6) = false := beq_eq_false_iff_ne.2 (by omega)
   have e7 : (x.k == 7) = false := beq_eq_false_iff_ne.2 (by omega)
   have e8 : (x.k == 8) = false := beq_eq_false_iff_ne.2 (by omega)
   have e9 : (x.k == 9) = false := beq_eq_false_iff_ne.2 (by omega)
   have b5 := b4 (by omega) (by omega)
   refine goF Try.func20 (closedL_cons (.agg (NC_closed x)) closedL_nil) (fun w0 st0 => ?_)
   dsimp only [frOf]
   (repeat' (first | refine goA ?_ | refine cX ca ?_ | refine cX cb ?_ | refine goB ?_ | fail))
   (refine awp_ret ⟨_, ResL.cons (ResA.tmp (.val _)) .nil, congrArg (fun n => AV.val (.int .i64 n)) ?_⟩; rw [oneS_eq]; (repeat' split) <;> omega)
  ·skip
   have e1 : (x.k == 1) = false := beq_eq_false_iff_ne.2 (by omega)
   have e3 : (x.k == 3) = false := beq_eq_false_iff_ne.2 (by omega)
   have e4 : (x.k == 4) = false := beq_eq_false_iff_ne.2 (by omega)
   have e5 : (x.k == 5) = false := beq_eq_false_iff_ne.2 (by omega)
   have e6 : (x.k == 6) = false := beq_eq_false_iff_ne.2 (by omega)
   have e7 : (x.k == 7) = false := beq_eq_false_iff_ne.2 (by omega)
   have e8 : (x.k == 8) = false := beq_eq_false_iff_ne.2 (by omega)
   have e9 : (x.k == 9) = false := beq_eq_false_iff_ne.2 (by omega)
   have b5 := b4 (by omega) (by omega)
   refine goF Try.func20 (closedL_cons (.agg (NC_closed x)) closedL_nil) (fun w0 st0 => ?_)
   dsimp only [frOf]
   (repeat' (first | refine goA ?_ | refine cX ca ?_ | refine cX cb ?_ | refine goB ?_ | fail))
   (refine awp_ret ⟨_, ResL.cons (ResA.tmp (.val _)) .nil, congrArg (fun n => AV.val (.int .i64 n)) ?_⟩; rw [oneS_eq]; (repeat' split) <;> omega)
  ·skip
   have e1 : (x.k == 1) = false := beq_eq_false_iff_ne.2 (by omega)
   have e3 : (x.k == 3) = false := beq_eq_false_iff_ne.2 (by omega)
   have e4 : (x.k == 4) = false := beq_eq_false_iff_ne.2 (by omega)
   have e5 : (x.k == 5) = false := beq_eq_false_iff_ne.2 (by omega)
   have e6 : (x.k == 6) = false := beq_eq_false_iff_ne.2 (by omega)
   have e7 : (x.k == 7) = false := beq_eq_false_iff_ne.2 (by omega)
   have e8 : (x.k == 8) = false := beq_eq_false_iff_ne.2 (by omega)
   have e9 : (x.k == 9) = true := beq_iff_eq.2 hk
   have b5 := b4 (by omega) (by omega)
   refine goF Try.func20 (closedL_cons (.agg (NC_closed x)) closedL_nil) (fun w0 st0 => ?_)
   dsimp only [frOf]
   (repeat' (first | refine goA ?_ | refine cX ca ?_ | refine cX cb ?_ | refine goB ?_ | fail))
   (refine awp_ret ⟨_, ResL.cons (ResA.tmp (.val _)) .nil, congrArg (fun n => AV.val (.int .i64 n)) ?_⟩; rw [oneS_eq]; (repeat' split) <;> omega)
  ·skip
   have e1 : (x.k == 1) = false := beq_eq_false_iff_ne.2 (by omega)
   have e3 : (x.k == 3) = false := beq_eq_false_iff_ne.2 (by omega)
   have e4 : (x.k == 4) = false := beq_eq_false_iff_ne.2 (by omega)
   have e5 : (x.k == 5) = false := beq_eq_false_iff_ne.2 (by omega)
   have e6 : (x.k == 6) = false := beq_eq_false_iff_ne.2 (by omega)
   have e7 : (x.k == 7) = false := beq_eq_false_iff_ne.2 (by omega)
   have e8 : (x.k == 8) = false := beq_eq_false_iff_ne.2 (by omega)
   have e9 : (x.k == 9) = false := beq_eq_false_iff_ne.2 (by omega)
   have b5 := b4 (by omega) (by omega)
   refine goF Try.func20 (closedL_cons (.agg (NC_closed x)) closedL_nil) (fun w0 st0 => ?_)
   dsimp only [frOf]
   (repeat' (first | refine goA ?_ | refine cX ca ?_ | refine cX cb ?_ | refine goB ?_ | fail))
   (refine awp_ret ⟨_, ResL.cons (ResA.tmp (.val _)) .nil, congrArg (fun n => AV.val (.int .i64 n)) ?_⟩; rw [oneS_eq]; (repeat' split) <;> omega)
  ·skip
   have e1 : (x.k == 1) = false := beq_eq_false_iff_ne.2 (by omega)
   have e3 : (x.k == 3) = false := beq_eq_false_iff_ne.2 (by omega)
   have e4 : (x.k == 4) = false := beq_eq_false_iff_ne.2 (by omega)
   have e5 : (x.k == 5) = false := beq_eq_false_iff_ne.2 (by omega)
   have e6 : (x.k == 6) = false := beq_eq_false_iff_ne.2 (by omega)
   have e7 : (x.k == 7) = false := beq_eq_false_iff_ne.2 (by omega)
   have e8 : (x.k == 8) = false := beq_eq_false_iff_ne.2 (by omega)
   have e9 : (x.k == 9) = false := beq_eq_false_iff_ne.2 (by omega)
   have b5 := b4 (by omega) (by omega)
   refine goF Try.func20 (closedL_cons (.agg (NC_closed x)) closedL_nil) (fun w0 st0 => ?_)
   dsimp only [frOf]
   (repeat' (first | refine goA ?_ | refine cX ca ?_ | refine cX cb ?_ | refine goB ?_ | fail))
   (refine awp_ret ⟨_, ResL.cons (ResA.tmp (.val _)) .nil, congrArg (fun n => AV.val (.int .i64 n)) ?_⟩; rw [oneS_eq]; (repeat' split) <;> omega)
 ·rcases hn with hn | hn
  ·skip
   have e1 : (x.k == 1) = false := beq_eq_false_iff_ne.2 (by omega)
   have e3 : (x.k == 3) = true := beq_iff_eq.2 hk
   have e4 : (x.k == 4) = false := beq_eq_false_iff_ne.2 (by omega)
   have e5 : (x.k == 5) = false := beq_eq_false_iff_ne.2 (by omega)
   have e6 : (x.k == 6) = false := beq_eq_false_iff_ne.2 (by omega)
   have e7 : (x.k == 7) = false := beq_eq_false_iff_ne.2 (by omega)
   have e8 : (x.k == 8) = false := beq_eq_false_iff_ne.2 (by omega)
   have e9 : (x.k == 9) = false := beq_eq_false_iff_ne.2 (by omega)
   have e0 : (x.n == 1) = true := beq_iff_eq.2 hn
   refine goF Try.func20 (closedL_cons (.agg (NC_closed x)) closedL_nil) (fun w0 st0 => ?_)
   dsimp only [frOf]
   (repeat' (first | refine goA ?_ | refine cX ca ?_ | refine cX cb ?_ | refine goB ?_ | fail))
   (refine awp_ret ⟨_, ResL.cons (ResA.tmp (.val _)) .nil, congrArg (fun n => AV.val (.int .i64 n)) ?_⟩; rw [oneS_eq]; (repeat' split) <;> omega)
  ·skip
   have e1 : (x.k == 1) = false := beq_eq_false_iff_ne.2 (by omega)
   have e3 : (x.k == 3) = true := beq_iff_eq.2 hk
   have e4 : (x.k == 4) = false := beq_eq_false_iff_ne.2 (by omega)
   have e5 : (x.k == 5) = false := beq_eq_false_iff_ne.2 (by omega)
   have e6 : (x.k == 6) = false := beq_eq_false_iff_ne.2 (by omega)
   have e7 : (x.k == 7) = false := beq_eq_false_iff_ne.2 (by omega)
   have e8 : (x.k == 8) = false := beq_eq_false_iff_ne.2 (by omega)
   have e9 : (x.k == 9) = false := beq_eq_false_iff_ne.2 (by omega)
   have b5 := b4 (by omega) (by omega)
   have e0 : (x.n == 1) = false := beq_eq_false_iff_ne.2 (by omega)
   refine goF Try.func20 (closedL_cons (.agg (NC_closed x)) closedL_nil) (fun w0 st0 => ?_)
   dsimp only [frOf]
   (repeat' (first | refine goA ?_ | refine cX ca ?_ | refine cX cb ?_ | refine goB ?_ | fail))
   (refine awp_ret ⟨_, ResL.cons (ResA.tmp (.val _)) .nil, congrArg (fun n => AV.val (.int .i64 n)) ?_⟩; rw [oneS_eq]; (repeat' split) <;> omega)
 ·skip
  have e1 : (x.k == 1) = false := beq_eq_false_iff_ne.2 (by omega)
  have e3 : (x.k == 3) = false := beq_eq_false_iff_ne.2 (by omega)
  have e4 : (x.k == 4) = true := beq_iff_eq.2 hk
  have e5 : (x.k == 5) = false := beq_eq_false_iff_ne.2 (by omega)
  have e6 : (x.k == 6) = false := beq_eq_false_iff_ne.2 (by omega)
  have e7 : (x.k == 7) = false := beq_eq_false_iff_ne.2 (by omega)
  have e8 : (x.k == 8) = false := beq_eq_false_iff_ne.2 (by omega)
  have e9 : (x.k == 9) = false := beq_eq_false_iff_ne.2 (by omega)
  have b5 := b4 (by omega) (by omega)
  refine goF Try.func20 (closedL_cons (.agg (NC_closed x)) closedL_nil) (fun w0 st0 => ?_)
  dsimp only [frOf]
  (repeat' (first | refine goA ?_ | refine cX ca ?_ | refine cX cb ?_ | refine goB ?_ | fail))
  (refine awp_ret ⟨_, ResL.cons (ResA.tmp (.val _)) .nil, congrArg (fun n => AV.val (.int .i64 n)) ?_⟩; rw [oneS_eq]; (repeat' split) <;> omega)
 ·skip
  have e1 : (x.k == 1) = false := beq_eq_false_iff_ne.2 (by omega)
  have e3 : (x.k == 3) = false := beq_eq_false_iff_ne.2 (by omega)
  have e4 : (x.k == 4) = false := beq_eq_false_iff_ne.2 (by omega)
  have e5 : (x.k == 5) = true := beq_iff_eq.2 hk
  have e6 : (x.k == 6) = false := beq_eq_false_iff_ne.2 (by omega)
  have e7 : (x.k == 7) = false := beq_eq_false_iff_ne.2 (by omega)
  have e8 : (x.k == 8) = false := beq_eq_false_iff_ne.2 (by omega)
  have e9 : (x.k == 9) = false := beq_eq_false_iff_ne.2 (by omega)
  have b5 := b4 (by omega) (by omega)
  refine goF Try.func20 (closedL_cons (.agg (NC_closed x)) closedL_nil) (fun w0 st0 => ?_)
  dsimp only [frOf]
  (repeat' (first | refine goA ?_ | refine cX ca ?_ | refine cX cb ?_ | refine goB ?_ | fail))
  (refine awp_ret ⟨_, ResL.cons (ResA.tmp (.val _)) .nil, congrArg (fun n => AV.val (.int .i64 n)) ?_⟩; rw [oneS_eq]; (repeat' split) <;> omega)
 ·skip
  have e1 : (x.k == 1) = false := beq_eq_false_iff_ne.2 (by omega)
  have e3 : (x.k == 3) = false := beq_eq_false_iff_ne.2 (by omega)
  have e4 : (x.k == 4) = false := beq_eq_false_iff_ne.2 (by omega)
  have e5 : (x.k == 5) = false := beq_eq_false_iff_ne.2 (by omega)
  have e6 : (x.k == 6) = true := beq_iff_eq.2 hk
  have e7 : (x.k == 7) = false := beq_eq_false_iff_ne.2 (by omega)
  have e8 : (x.k == 8) = false := beq_eq_false_iff_ne.2 (by omega)
  have e9 : (x.k == 9) = false := beq_eq_false_iff_ne.2 (by omega)
  refine goF Try.func20 (closedL_cons (.agg (NC_closed x)) closedL_nil) (fun w0 st0 => ?_)
  dsimp only [frOf]
  (repeat' (first | refine goA ?_ | refine cX ca ?_ | refine cX cb ?_ | refine goB ?_ | fail))
  (refine awp_ret ⟨_, ResL.cons (ResA.tmp (.val _)) .nil, congrArg (fun n => AV.val (.int .i64 n)) ?_⟩; rw [oneS_eq]; (repeat' split) <;> omega)
 ·rcases hk with hk | hk <;> rcases hn with hn | hn
  ·skip
   have e1 : (x.k == 1) = false := beq_eq_false_iff_ne.2 (by omega)
   have e3 : (x.k == 3) = false := beq_eq_false_iff_ne.2 (by omega)
   have e4 : (x.k == 4) = false := beq_eq_false_iff_ne.2 (by omega)
   have e5 : (x.k == 5) = false := beq_eq_false_iff_ne.2 (by omega)
   have e6 : (x.k == 6) = false := beq_eq_false_iff_ne.2 (by omega)
   have e7 : (x.k == 7) = true := beq_iff_eq.2 hk
   have e8 : (x.k == 8) = false := beq_eq_false_iff_ne.2 (by omega)
   have e9 : (x.k == 9) = false := beq_eq_false_iff_ne.2 (by omega)
   have b5 := b4 (by omega) (by omega)
   have e0 : (x.n == 1) = false := beq_eq_false_iff_ne.2 (by omega)
   refine goF Try.func20 (closedL_cons (.agg (NC_closed x)) closedL_nil) (fun w0 st0 => ?_)
   dsimp only [frOf]
   (repeat' (first | refine goA ?_ | refine cX ca ?_ | refine cX cb ?_ | refine goB ?_ | fail))
   (refine awp_ret ⟨_, ResL.cons (ResA.tmp (.val _)) .nil, congrArg (fun n => AV.val (.int .i64 n)) ?_⟩; rw [oneS_eq]; (repeat' split) <;> omega)
  ·skip
   have e1 : (x.k == 1) = false := beq_eq_false_iff_ne.2 (by omega)
   have e3 : (x.k == 3) = false := beq_eq_false_iff_ne.2 (by omega)
   have e4 : (x.k == 4) = false := beq_eq_false_iff_ne.2 (by omega)
   have e5 : (x.k == 5) = false := beq_eq_false_iff_ne.2 (by omega)
   have e6 : (x.k == 6) = false := beq_eq_false_iff_ne.2 (by omega)
   have e7 : (x.k == 7) = true := beq_iff_eq.2 hk
   have e8 : (x.k == 8) = false := beq_eq_false_iff_ne.2 (by omega)
   have e9 : (x.k == 9) = false := beq_eq_false_iff_ne.2 (by omega)
   have b5 := b4 (by omega) (by omega)
   have e0 : (x.n == 1) = true := beq_iff_eq.2 hn
   refine goF Try.func20 (closedL_cons (.agg (NC_closed x)) closedL_nil) (fun w0 st0 => ?_)
   dsimp only [frOf]
   (repeat' (first | refine goA ?_ | refine cX ca ?_ | refine cX cb ?_ | refine goB ?_ | fail))
   (refine awp_ret ⟨_, ResL.cons (ResA.tmp (.val _)) .nil, congrArg (fun n => AV.val (.int .i64 n)) ?_⟩; rw [oneS_eq]; (repeat' split) <;> omega)
  ·skip
   have e1 : (x.k == 1) = false := beq_eq_false_iff_ne.2 (by omega)
   have e3 : (x.k == 3) = false := beq_eq_false_iff_ne.2 (by omega)
   have e4 : (x.k == 4) = false := beq_eq_false_iff_ne.2 (by omega)
   have e5 : (x.k == 5) = false := beq_eq_false_iff_ne.2 (by omega)
   have e6 : (x.k == 6) = false := beq_eq_false_iff_ne.2 (by omega)
   have e7 : (x.k == 7) = false := beq_eq_false_iff_ne.2 (by omega)
   have e8 : (x.k == 8) = true := beq_iff_eq.2 hk
   have e9 : (x.k == 9) = false := beq_eq_false_iff_ne.2 (by omega)
   have b5 := b4 (by omega) (by omega)
   have e0 : (x.n == 1) = false := beq_eq_false_iff_ne.2 (by omega)
   refine goF Try.func20 (closedL_cons (.agg (NC_closed x)) closedL_nil) (fun w0 st0 => ?_)
   dsimp only [frOf]
   (repeat' (first | refine goA ?_ | refine cX ca ?_ | refine cX cb ?_ | refine goB ?_ | fail))
   (refine awp_ret ⟨_, ResL.cons (ResA.tmp (.val _)) .nil, congrArg (fun n => AV.val (.int .i64 n)) ?_⟩; rw [oneS_eq]; (repeat' split) <;> omega)
  ·skip
   have e1 : (x.k == 1) = false := beq_eq_false_iff_ne.2 (by omega)
   have e3 : (x.k == 3) = false := beq_eq_false_iff_ne.2 (by omega)
   have e4 : (x.k == 4) = false := beq_eq_false_iff_ne.2 (by omega)
   have e5 : (x.k == 5) = false := beq_eq_false_iff_ne.2 (by omega)
   have e6 : (x.k == 6) = false := beq_eq_false_iff_ne.2 (by omega)
   have e7 : (x.k == 7) = false := beq_eq_false_iff_ne.2 (by omega)
   have e8 : (x.k == 8) = true := beq_iff_eq.2 hk
   have e9 : (x.k == 9) = false := beq_eq_false_iff_ne.2 (by omega)
   have b5 := b4 (by omega) (by omega)
   have e0 : (x.n == 1) = true := beq_iff_eq.2 hn
   refine goF Try.func20 (closedL_cons (.agg (NC_closed x)) closedL_nil) (fun w0 st0 => ?_)
   dsimp only [frOf]
   (repeat' (first | refine goA ?_ | refine cX ca ?_ | refine cX cb ?_ | refine goB ?_ | fail))
   (refine awp_ret ⟨_, ResL.cons (ResA.tmp (.val _)) .nil, congrArg (fun n => AV.val (.int .i64 n)) ?_⟩; rw [oneS_eq]; (repeat' split) <;> omega)
set_option maxHeartbeats 4000000 in
theorem siz_all : ∀ (m : Nat) (l : List Nod), cntL l < m → okDs l = true → cntL l ≤ 100000 → SizC l := by
 intro m
 induction m with
 | zero => exact fun l h => absurd h (Nat.not_lt_zero _)
 | succ m ih =>
  intro l hm hok hc
  have hl := cnt_len l
  unfold SizC
  refine goF Try.func9 (closedL_cons (closed_tr _) closedL_nil) (fun w0 st0 => ?_)
  dsimp only [frOf]
  (repeat' (first | refine goA ?_ | refine goB ?_ | ((fail_if_success refine ARun.plain rfl ?_); refine ARun.fork rfl rfl rfl (fun h => ?_) (fun h => ?_)) | refine awp_cond rfl (fun h => ?_) (fun h => ?_)))
  refine awp_loopT (T := Nat × Nat) (fun t => ⟨[(7, .val (.int .i64 (t.1 : Nat))), (6, .val (.int .i64 ((l.map encD).length : Nat))), (3, .val (.int .i64 (sizS (l.take t.1)))), (0, encTr l)], [], t.2⟩) (fun t => t.1 ≤ l.length) (fun t => l.length - t.1) (0, _) (Nat.zero_le _) ⟨⟨rfl, rfl, congrArg (fun n => AV.val (.int .i64 n)) (by rw [List.take_zero, sizS]), rfl, trivial⟩, trivial, Nat.le_refl _⟩ (fun t ht => ?_)
  obtain ⟨k, gc⟩ := t
  dsimp only at ht ⊢
  by_cases hlt : k < l.length
  ·have hp : l[k]? = some l[k] := List.getElem?_eq_getElem hlt
   have hc2 : decide (((k : Nat) : Int) < (((l.map encD).length : Nat) : Int)) = true := by simp; omega
   generalize l[k] = x at hp
   have ok1 := okDs_mem hok x (List.mem_of_getElem? hp)
   have n1 := cnt_mem hp
   have n2 := cnt_ab x
   have c1 := one_c x ok1 (by omega) (ih x.a (by omega) (okD_ab ok1).1 (by omega)) (ih x.b (by omega) (okD_ab ok1).2 (by omega))
   have q1 := sizS_bound (l.take k)
   have q2 := cnt_take l k
   have q3 := oneS_bound x
   have gx := get_nd hp
   have hsz : AV.val (.int .i64 (sizS (l.take k) + oneS x)) = AV.val (.int .i64 (sizS (l.take (k + 1)))) := by rw [siz_take hp]
   (repeat' (first | refine goA ?_ | refine cX c1 ?_ | refine ARun.indexAddr rfl rfl (by omega) (by with_reducible exact gx) rfl rfl rfl rfl rfl (guardF_spec rfl) ?_ | refine goB ?_ | fail))
   exact ⟨(k + 1, _), ⟨⟨succI k, rfl, hsz, rfl, trivial⟩, trivial, Nat.le_refl _⟩, by dsimp only; omega, (by dsimp only; omega)⟩
  ·have hkk : k = l.length := by omega
   subst hkk
   have hc2 : decide (((l.length : Nat) : Int) < (((l.map encD).length : Nat) : Int)) = false := by simp
   rw [List.take_length]
   (repeat' (first | refine goA ?_ | refine goB ?_ | fail))
   exact awp_ret ⟨_, ResL.cons (ResA.tmp (.val _)) .nil, rfl⟩
set_option maxHeartbeats 4000000 in
theorem rsiz_all : ∀ (m : Nat) (l : List Nod), cntL l < m → okDs l = true → cntL l ≤ 100000 → RsizC l := by
 intro m
 induction m with
 | zero => exact fun l h => absurd h (Nat.not_lt_zero _)
 | succ m ih =>
  intro l hm hok hc
  have hl := cnt_len l
  unfold RsizC
  refine goF Try.func10 (closedL_cons (closed_tr _) closedL_nil) (fun w0 st0 => ?_)
  dsimp only [frOf]
  (repeat' (first | refine goA ?_ | refine goB ?_ | ((fail_if_success refine ARun.plain rfl ?_); refine ARun.fork rfl rfl rfl (fun h => ?_) (fun h => ?_)) | refine awp_cond rfl (fun h => ?_) (fun h => ?_)))
  refine awp_loopT (T := Nat × Nat) (fun t => ⟨[(4, .val (.int .i64 (t.1 : Nat))), (3, .val (.int .i64 (sizS (l.take t.1)))), (0, encTr l)], [], t.2⟩) (fun t => t.1 ≤ l.length) (fun t => l.length - t.1) (0, _) (Nat.zero_le _) ⟨⟨rfl, congrArg (fun n => AV.val (.int .i64 n)) (by rw [List.take_zero, sizS]), rfl, trivial⟩, trivial, Nat.le_refl _⟩ (fun t ht => ?_)
  obtain ⟨k, gc⟩ := t
  dsimp only at ht ⊢
  by_cases hlt : k < l.length
  ·have hp : l[k]? = some l[k] := List.getElem?_eq_getElem hlt
   have hc2 : decide (((k : Nat) : Int) < (((l.map encD).length : Nat) : Int)) = true := by simp; omega
   generalize l[k] = x at hp
   have ok1 := okDs_mem hok x (List.mem_of_getElem? hp)
   have n1 := cnt_mem hp
   have n2 := cnt_ab x
   have c1 := ref_one_c x ok1 (by omega) (ih x.a (by omega) (okD_ab ok1).1 (by omega)) (ih x.b (by omega) (okD_ab ok1).2 (by omega))
   have q1 := sizS_bound (l.take k)
   have q2 := cnt_take l k
   have q3 := oneS_bound x
   have gx := get_nd hp
   have hsz : AV.val (.int .i64 (sizS (l.take k) + oneS x)) = AV.val (.int .i64 (sizS (l.take (k + 1)))) := by rw [siz_take hp]
   (repeat' (first | refine goA ?_ | refine cX c1 ?_ | refine ARun.indexAddr rfl rfl (by omega) (by with_reducible exact gx) rfl rfl rfl rfl rfl (guardF_spec rfl) ?_ | refine goB ?_ | fail))
   exact ⟨(k + 1, _), ⟨⟨succI k, hsz, rfl, trivial⟩, trivial, Nat.le_refl _⟩, by dsimp only; omega, (by dsimp only; omega)⟩
  ·have hkk : k = l.length := by omega
   subst hkk
   have hc2 : decide (((l.length : Nat) : Int) < (((l.map encD).length : Nat) : Int)) = false := by simp
   rw [List.take_length]
   (repeat' (first | refine goA ?_ | refine goB ?_ | fail))
   exact awp_ret ⟨_, ResL.cons (ResA.tmp (.val _)) .nil, rfl⟩
theorem siz_c (l : List Nod) (h : okDs l = true) (hc : cntL l ≤ 100000) : SizC l := siz_all (cntL l + 1) l (Nat.lt_succ_self _) h hc
theorem rsiz_c (l : List Nod) (h : okDs l = true) (hc : cntL l ≤ 100000) : RsizC l := rsiz_all (cntL l + 1) l (Nat.lt_succ_self _) h hc
end Go.Proofs.Ytfphgelollhdhaa
namespace Go.Proofs.Ytfphgelollhdhaa
open Go Go.RowKit
set_option maxRecDepth 100000
abbrev LCb (b g : Nat) (at_ self en : Int) (n : Nat) : List AV := [.val (.int .i64 at_), .val (.int .i64 self), .val (.int .i64 en), .own b g 0 n]
abbrev LC (at_ self en : Int) (n : Nat) : List AV := LCb 1001 1 at_ self en n
abbrev bsL (at_ self en : Int) (out : List Int) : List LB := [(4, [LC at_ self en (out.map encI).length]), (1, out.map encI)]
abbrev bsE (at_ self en : Int) (out : List Int) : List (List (List AV)) := [[LC at_ self en (out.map encI).length], out.map encI]
theorem map_cl (l : List Int) : ∀ el x, el ∈ l.map encI → x ∈ el → Closed x := own_closed_map encI_closed
theorem rl_lc (sX : AS) (at_ self en : Int) (n : Nat) : RlR 2 sX [LC at_ self en n] [LC at_ self en n] :=
 RlR.cons (RlL.cons (.reif (.val _)) (RlL.cons (.reif (.val _)) (RlL.cons (.reif (.val _)) (RlL.cons (.own 1 0 n rfl) (RlL.nil _ _))))) (RlR.nil _ _)
theorem fin_l {rs : Array ResultVar} {at_ self en : Int} {n g : Nat} {out : List Int} {x y els : List (List AV)} {s : AS} (hr : rs.toList = []) (h1 : lkH s.hp 1000 = some ⟨0, 4, [LCb 1001 g at_ self en n]⟩) (h2 : lkH s.hp 1001 = some ⟨g, 1, els⟩) (he : els = out.map encI) (hn : n = (out.map encI).length) :
  endsM rs (.tup []) [(4, x), (1, y)] (bsE at_ self en out) s := by
 subst hn
 subst he
 exact ⟨1001, g, [], rfl, by rw [hr]; exact .nil, rfl, ⟨_, h1, RelR.cons (RelL.cons (.reif (.val _)) (RelL.cons (.reif (.val _)) (RelL.cons (.reif (.val _)) (RelL.cons (.row 0 _) (RelL.nil _))))) (RelR.nil _)⟩, ⟨_, h2, RelR.id (fun el v q1 q2 => .reif (.closed _ (map_cl _ el v q1 q2)))⟩⟩
theorem ln_lc {b g bR gR : Nat} (at_ self en : Int) (n : Nat) : RelL (Ln [(b, g), (bR, gR)]) (LCb bR gR at_ self en n) (LC at_ self en n) :=
 RelL.cons (.wk (.same _) (.val _)) (RelL.cons (.wk (.same _) (.val _)) (RelL.cons (.wk (.same _) (.val _)) (RelL.cons (.own (j := 1) 0 n rfl) (RelL.nil _))))
theorem lb_lc {b g bR gR : Nat} (at_ self en : Int) (n : Nat) : RelL (Lb [(b, g), (bR, gR)]) (LCb bR gR at_ self en n) (LC at_ self en n) :=
 RelL.cons (.same _ (.val _)) (RelL.cons (.same _ (.val _)) (RelL.cons (.same _ (.val _)) (RelL.cons (.own (j := 1) 0 n rfl) (RelL.nil _))))
section
variable {P : Program} {T : Nat → Option TI} {ok : ∀ t ti, T t = some ti → tiOf P t = some ti} {nn : Nat} {w0 : World} {st0 lent : Nat → Prop} {rdd : Option Nat × Bool} {c00 : RC}
 {ops : Array Oper} {K : AS → List (List Nat × List Nat) → Prop} {k : Nat} {rest : List Oper} {fr : List (Nat × AV)} {hp : List (Nat × Option Blk)} {gc : Nat} {fps : List (List Nat × List Nat)}
 {d : Nat} {ty : TypeId} {pos : String} {after : Array Edge} {gd : Option (Nat × Bool)} {v : AV}
theorem callLay {dst : Option Nat} {fx : Operand} {args : Array Operand} {ats : Array TypeId} {f : FuncId} {cavs : List AV} {at_ self en en' : Int} {out out' : List Int} (b bR : Nat) {g gR n : Nat} {eR : List (List AV)} (hF : FnM P f cavs (bsL at_ self en out) (.tup []) (bsE at_ self en' out')) (hf : evA fr fx = .val (.func (.func f) #[] #[]))
  (hlk : lkH hp b = some ⟨g, 4, [LCb bR gR at_ self en n]⟩) (hlkR : lkH hp bR = some ⟨gR, 1, eR⟩) (hn : n = (out.map encI).length) (he : eR = out.map encI)
  (ha : RelL (Ln [(b, g), (bR, gR)]) (args.toList.map (evA fr)) cavs) (hne : nodupB [b, bR] = true) (hd : dOk nn dst = true) (hg : guardF ops fr ⟨dst, .call ⟨.value fx, args, ats⟩, ty, pos, after, gd⟩ = some true)
  (nx : ARun ⟨P, T, ok, nn, w0, st0, lent, rdd, c00⟩ ops K (k + 1) rest ⟨putFr fr dst (.tup []), (b, some ⟨g, 4, [LCb bR (gc + k) at_ self en' (out'.map encI).length]⟩) :: (bR, some ⟨gc + k, 1, out'.map encI⟩) :: hp, gc⟩ (fps ++ [([b, bR], [b, bR])])) : ARun ⟨P, T, ok, nn, w0, st0, lent, rdd, c00⟩ ops K k (⟨dst, .call ⟨.value fx, args, ats⟩, ty, pos, after, gd⟩ :: rest) ⟨fr, hp, gc⟩ fps := by
 subst hn
 subst he
 exact callSt b g 4 bR gR 1 _ _ hF hf hlk hlkR ha hne (ln_lc _ _ _ _) (lb_lc _ _ _ _) (map_cl _) (map_cl _) (.same _ (.tup closedL_nil)) rfl rfl hd hg nx
theorem callAsk {fx : Operand} {args : Array Operand} {ats : Array TypeId} {f : FuncId} {cavs : List AV} {at_ self en r : Int} {out : List Int} (b bR : Nat) {g gR n : Nat} {eR : List (List AV)} (hF : FnL P f cavs (bsL at_ self en out) (.val (.int .i64 r)) (bsE at_ self en out)) (hf : evA fr fx = .val (.func (.func f) #[] #[]))
  (hlk : lkH hp b = some ⟨g, 4, [LCb bR gR at_ self en n]⟩) (hlkR : lkH hp bR = some ⟨gR, 1, eR⟩) (hn : n = (out.map encI).length) (he : eR = out.map encI)
  (ha : RelL (Ln [(b, g), (bR, gR)]) (args.toList.map (evA fr)) cavs) (hne : nodupB [b, bR] = true) (hd : Nat.blt d nn = true) (hg : guardF ops fr ⟨some d, .call ⟨.value fx, args, ats⟩, ty, pos, after, gd⟩ = some true)
  (nx : ARun ⟨P, T, ok, nn, w0, st0, lent, rdd, c00⟩ ops K (k + 1) rest ⟨(d, .val (.int .i64 r)) :: fr, (b, some ⟨g, 4, [LCb bR gR at_ self en (out.map encI).length]⟩) :: (bR, some ⟨gR, 1, out.map encI⟩) :: hp, gc⟩ (fps ++ [([b, bR], [b, bR])])) : ARun ⟨P, T, ok, nn, w0, st0, lent, rdd, c00⟩ ops K k (⟨some d, .call ⟨.value fx, args, ats⟩, ty, pos, after, gd⟩ :: rest) ⟨fr, hp, gc⟩ fps := by
 subst hn
 subst he
 exact callLX (first := []) (cap := []) [(b, ⟨g, 4, [LCb bR gR at_ self en (out.map encI).length]⟩), (bR, ⟨gR, 1, out.map encI⟩)] [(b, ⟨g, 4, [LCb bR gR at_ self en (out.map encI).length]⟩), (bR, ⟨gR, 1, out.map encI⟩)] hF (.inl ⟨hf, rfl, rfl⟩) ⟨hlk, hlkR, trivial⟩ (by rw [List.nil_append, List.append_nil]; exact ha) ⟨⟨rfl, rfl, RelR.cons (ln_lc _ _ _ _) (RelR.nil _)⟩, ⟨rfl, rfl, RelR.id (fun el x q1 q2 => .wk (.same _) (map_cl _ el x q1 q2))⟩, trivial⟩ ⟨⟨rfl, rfl, rfl, RelR.cons (lb_lc _ _ _ _) (RelR.nil _)⟩, ⟨rfl, rfl, rfl, RelR.id (fun el x q1 q2 => .same _ (map_cl _ el x q1 q2))⟩, trivial⟩ (.same _ (.val _)) hne hd hg nx
end
attribute [local irreducible] Decidable.decide awp ARun regK toK
theorem here_l (at_ self en : Int) (out : List Int) (h : out.length ≤ 1000000) : FnL Try.prog 34 [.ptr 1000 0 0 0] (bsL at_ self en out) (.val (.int .i64 (wr (at_ + 8 * (out.length : Int))))) (bsE at_ self en out) := by
 refine FnL.of_awp (T := tt) (ok := tok) Try.func34 (by kernel_rfl) rfl (by kernel_rfl) (by kernel_rfl) (fun w0 st0 lent c0 => ?_)
 dsimp only [frOf, hpFrom, List.length_cons, List.length_nil]
 have e0 : (((out.map encI).length : Nat) : Int) = out.length := by rw [List.length_map]
 rw [← e0]
 (repeat' (first | refine goA ?_ | refine ARun.nilCheckP rfl rfl (guardF_spec rfl) ?_ | refine ARun.bin rfl rfl bin_add rfl (guardF_spec rfl) ?_ | refine goB ?_ | ((fail_if_success refine ARun.plain rfl ?_); refine ARun.fork rfl rfl rfl (fun h => ?_) (fun h => ?_)) | refine awp_cond rfl (fun h => ?_) (fun h => ?_)))
 exact awp_ret ⟨_, ResL.cons (ResA.tmp (.val _)) .nil, rfl, ⟨_, rfl, rl_lc _ _ _ _ _⟩, ⟨_, rfl, RlR.closed (map_cl _)⟩, trivial⟩
theorem behind_l (at_ self en n : Int) (out : List Int) (h : out.length ≤ 1000000) (hn : 0 ≤ n ∧ n ≤ 1000000) : FnL Try.prog 31 [.ptr 1000 0 0 0, .val (.int .i64 n)] (bsL at_ self en out) (.val (.int .i64 (wr (wr (at_ + 8 * (out.length : Int)) + 8 * n)))) (bsE at_ self en out) := by
 have c1 := here_l at_ self en out h
 refine FnL.of_awp (T := tt) (ok := tok) Try.func31 (by kernel_rfl) rfl (by kernel_rfl) (by kernel_rfl) (fun w0 st0 lent c0 => ?_)
 dsimp only [frOf, hpFrom, List.length_cons, List.length_nil]
 (repeat' (first | refine goA ?_ | refine ARun.nilCheckP rfl rfl (guardF_spec rfl) ?_ | refine callAsk 1000 1001 c1 rfl rfl rfl rfl rfl (by (repeat (refine RelL.cons (by first | exact .ptr (j := 0) 0 0 rfl | exact .wk (.same _) (by first | exact .val _ | exact closed_tr _ | exact .agg (NC_closed _)) | exact .wk (.weak _ _ _) (closed_s _)) ?_)); exact RelL.nil _) rfl rfl rfl ?_ | refine ARun.bin rfl rfl bin_add rfl (guardF_spec rfl) ?_ | refine goB ?_ | ((fail_if_success refine ARun.plain rfl ?_); refine ARun.fork rfl rfl rfl (fun h => ?_) (fun h => ?_)) | refine awp_cond rfl (fun h => ?_) (fun h => ?_)))
 exact awp_ret ⟨_, ResL.cons (ResA.tmp (.val _)) .nil, rfl, ⟨_, rfl, rl_lc _ _ _ _ _⟩, ⟨_, rfl, RlR.closed (map_cl _)⟩, trivial⟩
theorem lay_m (at_ self en : Int) (out cs : List Int) (h : out.length ≤ 1000000) (hc : cs.length ≤ 1000) : FnM Try.prog 22 [.ptr 1000 0 0 0, encS cs] (bsL at_ self en out) (.tup []) (bsE at_ self en (out ++ cs)) := by
 refine FnM.of_awp (T := tt) (ok := tok) Try.func22 (by kernel_rfl) rfl (by kernel_rfl) (by kernel_rfl) rfl (fun w0 st0 lent c0 => ?_)
 dsimp only [frOf, hpFrom, List.length_cons, List.length_nil]
 (repeat' (first | refine goA ?_ | refine ARun.nilCheckP rfl rfl (guardF_spec rfl) ?_ | refine appO rfl ?_ | refine goB ?_ | ((fail_if_success refine ARun.plain rfl ?_); refine ARun.fork rfl rfl rfl (fun h => ?_) (fun h => ?_)) | refine awp_cond rfl (fun h => ?_) (fun h => ?_)))
 refine fin_l (out := out ++ cs) rfl rfl rfl ?_ ?_
 ·rw [List.map_append]
 ·rw [List.map_append]
end Go.Proofs.Ytfphgelollhdhaa
