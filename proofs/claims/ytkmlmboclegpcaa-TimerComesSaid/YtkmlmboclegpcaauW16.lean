/- uU2, uU8, uU9. -/
import Derived.Test.YtkmlmboclegpcaaW1
import Derived.Test.YtkmlmboclegpcaaW2
import Derived.Test.YtkmlmboclegpcaaW3
import Derived.Test.YtkmlmboclegpcaaW4
import Derived.Test.YtkmlmboclegpcaauW5
import Derived.Test.YtkmlmboclegpcaauW6
import Derived.Test.YtkmlmboclegpcaauW7
import Derived.Test.YtkmlmboclegpcaauW8
import Derived.Test.YtkmlmboclegpcaauW9
import Derived.Test.YtkmlmboclegpcaauW10
import Derived.Test.YtkmlmboclegpcaauW11
import Derived.Test.YtkmlmboclegpcaauW12
import Derived.Test.YtkmlmboclegpcaauW13
import Derived.Test.YtkmlmboclegpcaauW14
import Derived.Test.YtkmlmboclegpcaauW15
set_option linter.unusedVariables false
set_option linter.unusedSimpArgs false
namespace Go.Proofs.Ytkmlmboclegpcaa
open Go Go.RowKit
set_option maxRecDepth 100000
attribute [local irreducible] Decidable.decide awp ARun regK toK
theorem ins_at (A M R : List Tmr) (n a b : Nat) (X Y : List Tmr) (ha : a = A.length) (hb : b = A.length + M.length) (hn : n = A.length + (M.length + R.length)) (hl : n ≤ 1000000) (hX : X = A ++ (M ++ R)) (hY : Y = A ++ (sortT M ++ R)) : FnL Try.prog 72 [.own 1000 0 0 n, .val (.int .i64 (a : Nat)), .val (.int .i64 (b : Nat)), .val (.func (.func 62) #[] #[])] [(6, X.map encTm)] (.tup []) [Y.map encTm] := by
 subst ha; subst hb; subst hX; subst hY
 exact ins_l A M R n hn hl
theorem sm_at (A U V R : List Tmr) (n a b c : Nat) (X Y : List Tmr) (ha : a = A.length) (hb : b = A.length + U.length) (hc : c = A.length + U.length + V.length) (hn : n = A.length + (U.length + (V.length + R.length))) (hl : n ≤ 1000000) (h1 : 0 < U.length) (h2 : 0 < V.length) (hU : SortedT U) (hV : SortedT V) (hX : X = A ++ (U ++ (V ++ R))) (hY : Y = A ++ (sortT (U ++ V) ++ R)) : FnL Try.prog 73 [.own 1000 0 0 n, .val (.int .i64 (a : Nat)), .val (.int .i64 (b : Nat)), .val (.int .i64 (c : Nat)), .val (.func (.func 62) #[] #[])] [(6, X.map encTm)] (.tup []) [Y.map encTm] := by
 subst ha; subst hb; subst hc; subst hX; subst hY
 exact sm_all (U.length + V.length) A U V R n h1 h2 (Nat.le_refl _) hU hV hn hl
def ClR (X : List (List AV)) : Prop := ∀ el x, el ∈ X → x ∈ el → Closed x
set_option maxHeartbeats 8000000 in
theorem stable_walk (n R : Nat) (X : Nat → List (List AV)) (Z0 V Z1 Z2 : List (List AV)) (hn : 40 ≤ n ∧ n < 80) (hR : 20 * R ≤ n ∧ n < 20 * R + 20) (lX : ∀ r, ClR (X r)) (l0 : ClR Z0) (l1 : ClR V) (l2 : ClR Z1) (l3 : ClR Z2)
  (c1 : ∀ (r : Nat) (a b : Int), r < R → a = (20 * r : Nat) → b = (20 * r + 20 : Nat) → FnL Try.prog 72 [.own 1000 0 0 n, .val (.int .i64 a), .val (.int .i64 b), .val (.func (.func 62) #[] #[])] [(6, X r)] (.tup []) [X (r + 1)])
  (c2 : ∀ (a : Int), a = (20 * R : Nat) → FnL Try.prog 72 [.own 1000 0 0 n, .val (.int .i64 a), .val (.int .i64 (n : Nat)), .val (.func (.func 62) #[] #[])] [(6, X R)] (.tup []) [Z0])
  (p1 : FnL Try.prog 73 [.own 1000 0 0 n, .val (.int .i64 (0 : Nat)), .val (.int .i64 (20 : Nat)), .val (.int .i64 (40 : Nat)), .val (.func (.func 62) #[] #[])] [(6, Z0)] (.tup []) [V])
  (p2 : 60 < n → FnL Try.prog 73 [.own 1000 0 0 n, .val (.int .i64 (40 : Nat)), .val (.int .i64 (60 : Nat)), .val (.int .i64 (n : Nat)), .val (.func (.func 62) #[] #[])] [(6, V)] (.tup []) [Z1]) (p2' : n ≤ 60 → V = Z1)
  (p3 : 40 < n → FnL Try.prog 73 [.own 1000 0 0 n, .val (.int .i64 (0 : Nat)), .val (.int .i64 (40 : Nat)), .val (.int .i64 (n : Nat)), .val (.func (.func 62) #[] #[])] [(6, Z1)] (.tup []) [Z2]) (p3' : n ≤ 40 → Z1 = Z2) :
  FnL Try.prog 68 [.own 1000 0 0 n, .val (.int .i64 (n : Nat)), .val (.func (.func 62) #[] #[])] [(6, X 0)] (.tup []) [Z2] := by
 refine FnL.of_awp (T := tt) (ok := tok) Try.func68 (by kernel_rfl) rfl (by kernel_rfl) (by kernel_rfl) (fun w0 st0 lent c0 => ?_)
 dsimp only [frOf, hpFrom, List.length_cons, List.length_nil]
 (repeat' (first | refine goA ?_ | refine goB ?_ | fail))
 refine awp_loopT (T := Nat × Int × Int × List (List AV) × Nat) (fun t => ⟨[(0, .own 1000 0 0 n), (1, .val (.int .i64 (n : Nat))), (2, .val (.func (.func 62) #[] #[])), (6, .val (.int .i64 20)), (7, .val (.int .i64 t.2.1)), (8, .val (.int .i64 t.2.2.1))], [(1000, some ⟨0, 6, t.2.2.2.1⟩)], t.2.2.2.2⟩) (fun t => t.1 ≤ R ∧ t.2.1 = (20 * t.1 : Nat) ∧ t.2.2.1 = (20 * t.1 + 20 : Nat) ∧ t.2.2.2.1 = X t.1) (fun t => R - t.1) (0, 0, 20, X 0, _) ⟨Nat.zero_le _, rfl, rfl, rfl⟩ ⟨⟨rfl, rfl, rfl, rfl, rfl, rfl, trivial⟩, ⟨rfl, trivial⟩, Nat.le_refl _⟩ (fun t ht => ?_)
 obtain ⟨r, a, b, Y, gc⟩ := t
 dsimp only at ht ⊢
 obtain ⟨hr, ha, hb, rfl⟩ := ht
 by_cases hlt : r < R
 ·have d1 : decide (b ≤ (n : Nat)) = true := decide_eq_true (by omega)
  have ci := c1 r a b hlt ha hb
  have la := lX r
  have lb := lX (r + 1)
  clear c1 c2 p1 p2 p2' p3 p3' l0 l1 l2 l3
  (repeat' (first | refine goA ?_ | refine callR 1000 0 6 _ _ ci la lb (RelL.cons (.own (j := 0) 0 _ rfl) (RelL.cons (.wk (.same _) (.val _)) (RelL.cons (.wk (.same _) (.val _)) (RelL.cons (.wk (.same _) (.val _)) (RelL.nil _))))) (.same _ (.tup closedL_nil)) rfl rfl rfl rfl rfl ?_ | refine goB ?_ | fail))
  exact ⟨(r + 1, _, _, _, _), ⟨⟨rfl, rfl, rfl, rfl, rfl, rfl, trivial⟩, ⟨rfl, trivial⟩, Nat.le_refl _⟩, ⟨hlt, by dsimp only; omega, by dsimp only; omega, rfl⟩, by dsimp only; omega⟩
 ·obtain rfl : r = R := by omega
  have d1 : decide (b ≤ (n : Nat)) = false := decide_eq_false (by omega)
  have ci := c2 a ha
  have la := lX r
  clear c1 c2
  (repeat' (first | refine goA ?_ | refine callR 1000 0 6 _ _ ci la l0 (RelL.cons (.own (j := 0) 0 _ rfl) (RelL.cons (.wk (.same _) (.val _)) (RelL.cons (.wk (.same _) (.val _)) (RelL.cons (.wk (.same _) (.val _)) (RelL.nil _))))) (.same _ (.tup closedL_nil)) rfl rfl rfl rfl rfl ?_ | refine goB ?_ | fail))
  refine awp_loopT (T := Nat × Int × List (List AV) × Nat) (fun t => ⟨[(0, .own 1000 0 0 n), (1, .val (.int .i64 (n : Nat))), (2, .val (.func (.func 62) #[] #[])), (6, .val (.int .i64 t.2.1))], [(1000, some ⟨0, 6, t.2.2.1⟩)], t.2.2.2⟩) (fun t => (t.1 = 0 ∧ t.2.1 = 20 ∧ t.2.2.1 = Z0) ∨ (t.1 = 1 ∧ t.2.1 = 40 ∧ t.2.2.1 = Z1) ∨ (t.1 = 2 ∧ t.2.1 = 80 ∧ t.2.2.1 = Z2)) (fun t => 2 - t.1) (0, 20, Z0, _) (.inl ⟨rfl, rfl, rfl⟩) ⟨⟨rfl, rfl, rfl, rfl, trivial⟩, ⟨rfl, trivial⟩, Nat.le_refl _⟩ (fun t ht => ?_)
  clear ci la d1
  obtain ⟨s, B, Y, gc2⟩ := t
  dsimp only at ht ⊢
  rcases ht with ⟨rfl, rfl, rfl⟩ | ⟨rfl, rfl, rfl⟩ | ⟨rfl, rfl, rfl⟩
  ·have d2 : decide ((20 : Int) < (n : Nat)) = true := decide_eq_true (by omega)
   have d3 : decide (((2 : Int) * 20) ≤ (n : Nat)) = true := decide_eq_true (by omega)
   have d4 : decide (((2 : Int) * 20 + 2 * 20) ≤ (n : Nat)) = false := decide_eq_false (by omega)
   by_cases h6 : 60 < n
   ·have d5 : decide (((2 : Int) * 20 + 20) < (n : Nat)) = true := decide_eq_true (by omega)
    have q2 := p2 h6
    clear p2 p2' p3 p3' lX
    (repeat' (first | refine goA ?_ | refine awp_loopN 2 ?_ | refine LoopN.step ?_ | refine callR 1000 0 6 _ _ p1 l0 l1 (RelL.cons (.own (j := 0) 0 _ rfl) (RelL.cons (.wk (.same _) (.val _)) (RelL.cons (.wk (.same _) (.val _)) (RelL.cons (.wk (.same _) (.val _)) (RelL.cons (.wk (.same _) (.val _)) (RelL.nil _)))))) (.same _ (.tup closedL_nil)) rfl rfl rfl rfl rfl ?_ | refine callR 1000 0 6 _ _ q2 l1 l2 (RelL.cons (.own (j := 0) 0 _ rfl) (RelL.cons (.wk (.same _) (.val _)) (RelL.cons (.wk (.same _) (.val _)) (RelL.cons (.wk (.same _) (.val _)) (RelL.cons (.wk (.same _) (.val _)) (RelL.nil _)))))) (.same _ (.tup closedL_nil)) rfl rfl rfl rfl rfl ?_ | refine goB ?_ | fail))
    exact ⟨(1, 40, _, _), ⟨⟨rfl, rfl, rfl, rfl, trivial⟩, ⟨rfl, trivial⟩, Nat.le_refl _⟩, .inr (.inl ⟨rfl, rfl, rfl⟩), by dsimp only; omega⟩
   ·have d5 : decide (((2 : Int) * 20 + 20) < (n : Nat)) = false := decide_eq_false (by omega)
    obtain rfl := p2' (by omega)
    clear p2 p2' p3 p3' lX
    (repeat' (first | refine goA ?_ | refine awp_loopN 2 ?_ | refine LoopN.step ?_ | refine callR 1000 0 6 _ _ p1 l0 l1 (RelL.cons (.own (j := 0) 0 _ rfl) (RelL.cons (.wk (.same _) (.val _)) (RelL.cons (.wk (.same _) (.val _)) (RelL.cons (.wk (.same _) (.val _)) (RelL.cons (.wk (.same _) (.val _)) (RelL.nil _)))))) (.same _ (.tup closedL_nil)) rfl rfl rfl rfl rfl ?_ | refine goB ?_ | fail))
    exact ⟨(1, 40, _, _), ⟨⟨rfl, rfl, rfl, rfl, trivial⟩, ⟨rfl, trivial⟩, Nat.le_refl _⟩, .inr (.inl ⟨rfl, rfl, rfl⟩), by dsimp only; omega⟩
  ·by_cases h4 : 40 < n
   ·have d2 : decide ((40 : Int) < (n : Nat)) = true := decide_eq_true (by omega)
    have d3 : decide (((2 : Int) * 40) ≤ (n : Nat)) = false := decide_eq_false (by omega)
    have d5 : decide (((0 : Int) + 40) < (n : Nat)) = true := decide_eq_true (by omega)
    have q3 := p3 h4
    clear p1 p2 p2' p3 p3' lX
    (repeat' (first | refine goA ?_ | refine awp_loopN 2 ?_ | refine LoopN.step ?_ | refine callR 1000 0 6 _ _ q3 l2 l3 (RelL.cons (.own (j := 0) 0 _ rfl) (RelL.cons (.wk (.same _) (.val _)) (RelL.cons (.wk (.same _) (.val _)) (RelL.cons (.wk (.same _) (.val _)) (RelL.cons (.wk (.same _) (.val _)) (RelL.nil _)))))) (.same _ (.tup closedL_nil)) rfl rfl rfl rfl rfl ?_ | refine goB ?_ | fail))
    exact ⟨(2, 80, _, _), ⟨⟨rfl, rfl, rfl, rfl, trivial⟩, ⟨rfl, trivial⟩, Nat.le_refl _⟩, .inr (.inr ⟨rfl, rfl, rfl⟩), by dsimp only; omega⟩
   ·have d2 : decide ((40 : Int) < (n : Nat)) = false := decide_eq_false (by omega)
    obtain rfl := p3' (by omega)
    clear p1 p2 p2' p3 p3' lX
    (repeat' (first | refine goA ?_ | refine goB ?_ | fail))
    (first | exact ⟨_, ResL.nil, rfl, ⟨_, rfl, RlR.closed (by assumption)⟩, trivial⟩ | (refine awp_skip ?_; exact ⟨_, ResL.nil, rfl, ⟨_, rfl, RlR.closed (by assumption)⟩, trivial⟩))
  ·have d2 : decide ((80 : Int) < (n : Nat)) = false := decide_eq_false (by omega)
   clear p1 p2 p2' p3 p3' lX
   (repeat' (first | refine goA ?_ | refine goB ?_ | fail))
   (first | exact ⟨_, ResL.nil, rfl, ⟨_, rfl, RlR.closed (by assumption)⟩, trivial⟩ | (refine awp_skip ?_; exact ⟨_, ResL.nil, rfl, ⟨_, rfl, RlR.closed (by assumption)⟩, trivial⟩))
theorem stable_60 (P Q R : List Tmr) (n : Nat) (hP : P.length = 20) (hQ : Q.length = 20) (hR : R.length < 20) (hn : n = 40 + R.length) : FnL Try.prog 68 [.own 1000 0 0 n, .val (.int .i64 (n : Nat)), .val (.func (.func 62) #[] #[])] [(6, (P ++ (Q ++ R)).map encTm)] (.tup []) [(sortT (P ++ (Q ++ R))).map encTm] := by
 have c1 := ins_at [] P (Q ++ R) n 0 20 (P ++ (Q ++ R)) (sortT P ++ (Q ++ R)) (by simp only [List.length_append, sortT_len, hP, hQ, List.length_nil] <;> omega) (by simp only [List.length_append, sortT_len, hP, hQ, List.length_nil] <;> omega) (by simp only [List.length_append, sortT_len, hP, hQ, List.length_nil] <;> omega) (by omega) (by simp only [List.append_assoc, List.append_nil, List.nil_append]) (by simp only [List.append_assoc, List.append_nil, List.nil_append])
 have c2 := ins_at (sortT P) Q R n 20 40 (sortT P ++ (Q ++ R)) (sortT P ++ (sortT Q ++ R)) (by simp only [List.length_append, sortT_len, hP, hQ, List.length_nil] <;> omega) (by simp only [List.length_append, sortT_len, hP, hQ, List.length_nil] <;> omega) (by simp only [List.length_append, sortT_len, hP, hQ, List.length_nil] <;> omega) (by omega) (by simp only [List.append_assoc, List.append_nil, List.nil_append]) (by simp only [List.append_assoc, List.append_nil, List.nil_append])
 have c3 := ins_at (sortT P ++ sortT Q) R [] n 40 n (sortT P ++ (sortT Q ++ R)) (sortT P ++ (sortT Q ++ sortT R)) (by simp only [List.length_append, sortT_len, hP, hQ, List.length_nil] <;> omega) (by simp only [List.length_append, sortT_len, hP, hQ, List.length_nil] <;> omega) (by simp only [List.length_append, sortT_len, hP, hQ, List.length_nil] <;> omega) (by omega) (by simp only [List.append_assoc, List.append_nil, List.nil_append]) (by simp only [List.append_assoc, List.append_nil, List.nil_append])
 have c4 := sm_at [] (sortT P) (sortT Q) (sortT R) n 0 20 40 (sortT P ++ (sortT Q ++ sortT R)) (sortT (P ++ Q) ++ sortT R) (by simp only [List.length_append, sortT_len, hP, hQ, List.length_nil] <;> omega) (by simp only [List.length_append, sortT_len, hP, hQ, List.length_nil] <;> omega) (by simp only [List.length_append, sortT_len, hP, hQ, List.length_nil] <;> omega) (by simp only [List.length_append, sortT_len, hP, hQ, List.length_nil] <;> omega) (by omega) (by simp only [List.length_append, sortT_len, hP, hQ, List.length_nil] <;> omega) (by simp only [List.length_append, sortT_len, hP, hQ, List.length_nil] <;> omega) (sortT_sorted _) (sortT_sorted _) (by simp only [List.append_assoc, List.append_nil, List.nil_append]) (by rw [sort_two]; rfl)
 have e5 : sortT (sortT (P ++ Q) ++ sortT R) = sortT (P ++ (Q ++ R)) := by rw [sort_two, List.append_assoc]
 refine stable_walk n 2 (fun r => if r = 0 then (P ++ (Q ++ R)).map encTm else if r = 1 then (sortT P ++ (Q ++ R)).map encTm else (sortT P ++ (sortT Q ++ R)).map encTm) ((sortT P ++ (sortT Q ++ sortT R)).map encTm) ((sortT (P ++ Q) ++ sortT R).map encTm) ((sortT (P ++ Q) ++ sortT R).map encTm) _ (by omega) (by omega) (fun r => ?_) (rows_closed _) (rows_closed _) (rows_closed _) (rows_closed _) (fun r a b hr ha hb => ?_) (fun a ha => ?_) c4 (fun h => by omega) (fun _ => rfl) (fun h => ?_) (fun h => ?_)
 ·split
  ·exact rows_closed _
  ·split <;> exact rows_closed _
 ·subst ha; subst hb
  match r, hr with
  | 0, _ => exact c1
  | 1, _ => exact c2
 ·subst ha
  exact c3
 ·exact sm_at [] (sortT (P ++ Q)) (sortT R) [] n 0 40 n (sortT (P ++ Q) ++ sortT R) (sortT (P ++ (Q ++ R))) (by simp only [List.length_append, sortT_len, hP, hQ, List.length_nil] <;> omega) (by simp only [List.length_append, sortT_len, hP, hQ, List.length_nil] <;> omega) (by simp only [List.length_append, sortT_len, hP, hQ, List.length_nil] <;> omega) (by simp only [List.length_append, sortT_len, hP, hQ, List.length_nil] <;> omega) (by omega) (by simp only [List.length_append, sortT_len, hP, hQ, List.length_nil] <;> omega) (by simp only [List.length_append, sortT_len, hP, hQ, List.length_nil] <;> omega) (sortT_sorted _) (sortT_sorted _) (by simp only [List.append_assoc, List.append_nil, List.nil_append]) (by rw [e5, List.append_nil, List.nil_append])
 ·have e : sortT (P ++ Q) ++ sortT R = sortT (P ++ (Q ++ R)) := by
   rw [List.eq_nil_of_length_eq_zero (show R.length = 0 by omega), List.append_nil]
   exact List.append_nil _
  rw [e]
theorem stable_65 (P Q R S : List Tmr) (n : Nat) (hP : P.length = 20) (hQ : Q.length = 20) (hR : R.length = 20) (hS : S.length < 20) (hn : n = 60 + S.length) : FnL Try.prog 68 [.own 1000 0 0 n, .val (.int .i64 (n : Nat)), .val (.func (.func 62) #[] #[])] [(6, (P ++ (Q ++ (R ++ S))).map encTm)] (.tup []) [(sortT (P ++ (Q ++ (R ++ S)))).map encTm] := by
 have c1 := ins_at [] P (Q ++ (R ++ S)) n 0 20 (P ++ (Q ++ (R ++ S))) (sortT P ++ (Q ++ (R ++ S))) (by simp only [List.length_append, sortT_len, hP, hQ, hR, List.length_nil] <;> omega) (by simp only [List.length_append, sortT_len, hP, hQ, hR, List.length_nil] <;> omega) (by simp only [List.length_append, sortT_len, hP, hQ, hR, List.length_nil] <;> omega) (by omega) (by simp only [List.append_assoc, List.append_nil, List.nil_append]) (by simp only [List.append_assoc, List.append_nil, List.nil_append])
 have c2 := ins_at (sortT P) Q (R ++ S) n 20 40 (sortT P ++ (Q ++ (R ++ S))) (sortT P ++ (sortT Q ++ (R ++ S))) (by simp only [List.length_append, sortT_len, hP, hQ, hR, List.length_nil] <;> omega) (by simp only [List.length_append, sortT_len, hP, hQ, hR, List.length_nil] <;> omega) (by simp only [List.length_append, sortT_len, hP, hQ, hR, List.length_nil] <;> omega) (by omega) (by simp only [List.append_assoc, List.append_nil, List.nil_append]) (by simp only [List.append_assoc, List.append_nil, List.nil_append])
 have c3 := ins_at (sortT P ++ sortT Q) R S n 40 60 (sortT P ++ (sortT Q ++ (R ++ S))) (sortT P ++ (sortT Q ++ (sortT R ++ S))) (by simp only [List.length_append, sortT_len, hP, hQ, hR, List.length_nil] <;> omega) (by simp only [List.length_append, sortT_len, hP, hQ, hR, List.length_nil] <;> omega) (by simp only [List.length_append, sortT_len, hP, hQ, hR, List.length_nil] <;> omega) (by omega) (by simp only [List.append_assoc, List.append_nil, List.nil_append]) (by simp only [List.append_assoc, List.append_nil, List.nil_append])
 have c4 := ins_at (sortT P ++ (sortT Q ++ sortT R)) S [] n 60 n (sortT P ++ (sortT Q ++ (sortT R ++ S))) (sortT P ++ (sortT Q ++ (sortT R ++ sortT S))) (by simp only [List.length_append, sortT_len, hP, hQ, hR, List.length_nil] <;> omega) (by simp only [List.length_append, sortT_len, hP, hQ, hR, List.length_nil] <;> omega) (by simp only [List.length_append, sortT_len, hP, hQ, hR, List.length_nil] <;> omega) (by omega) (by simp only [List.append_assoc, List.append_nil, List.nil_append]) (by simp only [List.append_assoc, List.append_nil, List.nil_append])
 have c5 := sm_at [] (sortT P) (sortT Q) (sortT R ++ sortT S) n 0 20 40 (sortT P ++ (sortT Q ++ (sortT R ++ sortT S))) (sortT (P ++ Q) ++ (sortT R ++ sortT S)) (by simp only [List.length_append, sortT_len, hP, hQ, hR, List.length_nil] <;> omega) (by simp only [List.length_append, sortT_len, hP, hQ, hR, List.length_nil] <;> omega) (by simp only [List.length_append, sortT_len, hP, hQ, hR, List.length_nil] <;> omega) (by simp only [List.length_append, sortT_len, hP, hQ, hR, List.length_nil] <;> omega) (by omega) (by simp only [List.length_append, sortT_len, hP, hQ, hR, List.length_nil] <;> omega) (by simp only [List.length_append, sortT_len, hP, hQ, hR, List.length_nil] <;> omega) (sortT_sorted _) (sortT_sorted _) (by simp only [List.append_assoc, List.append_nil, List.nil_append]) (by rw [sort_two]; rfl)
 have c7 := sm_at [] (sortT (P ++ Q)) (sortT (R ++ S)) [] n 0 40 n (sortT (P ++ Q) ++ sortT (R ++ S)) (sortT (P ++ (Q ++ (R ++ S)))) (by simp only [List.length_append, sortT_len, hP, hQ, hR, List.length_nil] <;> omega) (by simp only [List.length_append, sortT_len, hP, hQ, hR, List.length_nil] <;> omega) (by simp only [List.length_append, sortT_len, hP, hQ, hR, List.length_nil] <;> omega) (by simp only [List.length_append, sortT_len, hP, hQ, hR, List.length_nil] <;> omega) (by omega) (by simp only [List.length_append, sortT_len, hP, hQ, hR, List.length_nil] <;> omega) (by simp only [List.length_append, sortT_len, hP, hQ, hR, List.length_nil] <;> omega) (sortT_sorted _) (sortT_sorted _) (by simp only [List.append_assoc, List.append_nil, List.nil_append]) (by rw [sort_two, List.append_nil, List.nil_append, List.append_assoc])
 refine stable_walk n 3 (fun r => if r = 0 then (P ++ (Q ++ (R ++ S))).map encTm else if r = 1 then (sortT P ++ (Q ++ (R ++ S))).map encTm else if r = 2 then (sortT P ++ (sortT Q ++ (R ++ S))).map encTm else (sortT P ++ (sortT Q ++ (sortT R ++ S))).map encTm) ((sortT P ++ (sortT Q ++ (sortT R ++ sortT S))).map encTm) ((sortT (P ++ Q) ++ (sortT R ++ sortT S)).map encTm) ((sortT (P ++ Q) ++ sortT (R ++ S)).map encTm) _ (by omega) (by omega) (fun r => ?_) (rows_closed _) (rows_closed _) (rows_closed _) (rows_closed _) (fun r a b hr ha hb => ?_) (fun a ha => ?_) c5 (fun h => ?_) (fun h => ?_) (fun _ => c7) (fun h => by omega)
 ·split
  ·exact rows_closed _
  ·split
   ·exact rows_closed _
   ·split <;> exact rows_closed _
 ·subst ha; subst hb
  match r, hr with
  | 0, _ => exact c1
  | 1, _ => exact c2
  | 2, _ => exact c3
 ·subst ha
  exact c4
 ·exact sm_at (sortT (P ++ Q)) (sortT R) (sortT S) [] n 40 60 n (sortT (P ++ Q) ++ (sortT R ++ sortT S)) (sortT (P ++ Q) ++ sortT (R ++ S)) (by simp only [List.length_append, sortT_len, hP, hQ, hR, List.length_nil] <;> omega) (by simp only [List.length_append, sortT_len, hP, hQ, hR, List.length_nil] <;> omega) (by simp only [List.length_append, sortT_len, hP, hQ, hR, List.length_nil] <;> omega) (by simp only [List.length_append, sortT_len, hP, hQ, hR, List.length_nil] <;> omega) (by omega) (by simp only [List.length_append, sortT_len, hP, hQ, hR, List.length_nil] <;> omega) (by simp only [List.length_append, sortT_len, hP, hQ, hR, List.length_nil] <;> omega) (sortT_sorted _) (sortT_sorted _) (by simp only [List.append_assoc, List.append_nil, List.nil_append]) (by rw [sort_two, List.append_nil])
 ·have e : sortT (P ++ Q) ++ (sortT R ++ sortT S) = sortT (P ++ Q) ++ sortT (R ++ S) := by
   rw [List.eq_nil_of_length_eq_zero (show S.length = 0 by omega), List.append_nil]
   exact congrArg _ (List.append_nil _)
  rw [e]
theorem stable_big (L : List Tmr) (h0 : 40 ≤ L.length) (h : L.length < 80) : FnL Try.prog 68 [.own 1000 0 0 L.length, .val (.int .i64 (L.length : Nat)), .val (.func (.func 62) #[] #[])] [(6, L.map encTm)] (.tup []) [(sortT L).map encTm] := by
 by_cases q : L.length < 60
 ·have e : L = L.take 20 ++ ((L.drop 20).take 20 ++ (L.drop 20).drop 20) := by rw [List.take_append_drop, List.take_append_drop]
  have k := stable_60 (L.take 20) ((L.drop 20).take 20) ((L.drop 20).drop 20) L.length (by rw [List.length_take]; omega) (by rw [List.length_take, List.length_drop]; omega) (by rw [List.length_drop, List.length_drop]; omega) (by rw [List.length_drop, List.length_drop]; omega)
  rw [← e] at k
  exact k
 ·have e : L = L.take 20 ++ ((L.drop 20).take 20 ++ (((L.drop 20).drop 20).take 20 ++ ((L.drop 20).drop 20).drop 20)) := by rw [List.take_append_drop, List.take_append_drop, List.take_append_drop]
  have k := stable_65 (L.take 20) ((L.drop 20).take 20) (((L.drop 20).drop 20).take 20) (((L.drop 20).drop 20).drop 20) L.length (by rw [List.length_take]; omega) (by rw [List.length_take, List.length_drop]; omega) (by rw [List.length_take, List.length_drop, List.length_drop]; omega) (by rw [List.length_drop, List.length_drop, List.length_drop]; omega) (by rw [List.length_drop, List.length_drop, List.length_drop]; omega)
  rw [← e] at k
  exact k
theorem sort_big (L : List Tmr) (h : L.length < 80) : FnL Try.prog 61 [.own 1000 0 0 L.length, .val (.func (.func 62) #[] #[])] [(6, L.map encTm)] (.tup []) [(sortT L).map encTm] := by
 by_cases q : L.length < 40
 ·exact sort_mid L q
 have c1 := stable_big L (by omega) h
 refine FnL.of_awp (T := tt) (ok := tok) Try.func61 (by kernel_rfl) rfl (by kernel_rfl) (by kernel_rfl) (fun w0 st0 lent c0 => ?_)
 dsimp only [frOf, hpFrom, List.length_cons, List.length_nil]
 have l0 := rows_closed (sortT L)
 (repeat' (first | refine goA ?_ | refine callR 1000 0 6 (L.map encTm) ((sortT L).map encTm) c1 (rows_closed _) (rows_closed _) (RelL.cons (.own (j := 0) 0 _ rfl) (RelL.cons (.wk (.same _) (.val _)) (RelL.cons (.wk (.same _) (.val _)) (RelL.nil _)))) (.same _ (.tup closedL_nil)) rfl rfl rfl rfl rfl ?_ | refine goB ?_ | fail))
 (first | exact ⟨_, ResL.nil, rfl, ⟨_, rfl, RlR.closed (by assumption)⟩, trivial⟩ | (refine awp_skip ?_; exact ⟨_, ResL.nil, rfl, ⟨_, rfl, RlR.closed (by assumption)⟩, trivial⟩))
theorem sort80 : SortOk 80 := sort_big
end Go.Proofs.Ytkmlmboclegpcaa
namespace Go.Proofs.Ytkmlmboclegpcaa
open Go Go.RowKit
set_option maxRecDepth 100000
def UniqI (l : List Tmr) : Prop := ∀ i, (l.filter (idB i)).length ≤ 1
theorem insT_cnt (p : Tmr → Bool) (t : Tmr) : ∀ l : List Tmr, ((insT t l).filter p).length = (l.filter p).length + (if p t = true then 1 else 0)
 | [] => by
  show ([t].filter p).length = _
  rw [List.filter_cons]
  split <;> rfl
 | x :: l => by
  unfold insT
  split
  ·rw [List.filter_cons]
   split
   ·rfl
   ·rfl
  ·rw [List.filter_cons, List.filter_cons]
   have ih := insT_cnt p t l
   split
   ·rw [List.length_cons, List.length_cons, ih]; omega
   ·exact ih
theorem insL_cnt (p : Tmr → Bool) : ∀ (q l : List Tmr), ((insL l q).filter p).length = (l.filter p).length + (q.filter p).length
 | [], l => rfl
 | t :: q, l => by
  show ((insL (insT t l) q).filter p).length = _
  rw [insL_cnt p q, insT_cnt, List.filter_cons]
  split
  ·rw [List.length_cons]; omega
  ·omega
theorem agL_cnt (i : Int) : ∀ l : List Tmr, ((agL l).filter (idB i)).length ≤ (l.filter (idB i)).length
 | [] => Nat.le_refl _
 | x :: l => by
  have ih := agL_cnt i l
  cases hb : agB x with
  | true =>
   have e : agL (x :: l) = agT x :: agL l := by unfold agL; rw [List.filter_cons, if_pos hb]; rfl
   have e2 : idB i (agT x) = idB i x := rfl
   rw [e, List.filter_cons, List.filter_cons, e2]
   split
   ·rw [List.length_cons, List.length_cons]; omega
   ·exact ih
  | false =>
   have e : agL (x :: l) = agL l := by unfold agL; rw [List.filter_cons, if_neg (by rw [hb]; decide)]
   rw [e, List.filter_cons]
   split
   ·rw [List.length_cons]; omega
   ·exact ih
theorem UniqI.filter {l : List Tmr} (h : UniqI l) (p : Tmr → Bool) : UniqI (l.filter p) := fun i => by
 have h1 := h i
 have h2 : ((l.filter p).filter (idB i)).length ≤ (l.filter (idB i)).length := by
  rw [flt_comm]
  exact List.length_filter_le _ _
 omega
theorem UniqI.next {l : List Tmr} (h : UniqI l) (n : Int) : UniqI (nextL n l) := fun i => by
 unfold nextL
 rw [insL_cnt]
 have h1 := h i
 have h2 := agL_cnt i (l.filter (dueB (n + 1)))
 have h3 := part_len (l.filter (idB i)) (dueB (n + 1))
 rw [flt_comm (idB i) (dueB (n + 1)), flt_comm (idB i) (fun t => !dueB (n + 1) t)] at h3
 omega
theorem any_cnt {l : List Tmr} {p : Tmr → Bool} (h : l.any p = false) : (l.filter p).length = 0 := by
 rw [List.filter_eq_nil_iff.2 (fun x hx => by
  have := List.any_eq_false.1 h x hx
  exact this)]
 rfl
theorem any_pos {l : List Tmr} {p : Tmr → Bool} (h : l.any p = true) : 0 < (l.filter p).length := by
 obtain ⟨x, hx, hp⟩ := List.any_eq_true.1 h
 exact List.length_pos_of_mem (List.mem_filter.2 ⟨hx, hp⟩)
theorem UniqI.ins {l : List Tmr} (h : UniqI l) {t : Tmr} (ht : l.any (idB t.id) = false) : UniqI (insT t l) := fun i => by
 rw [insT_cnt]
 have h1 := h i
 split
 ·rename_i e
  have e2 : t.id = i := by unfold idB at e; exact beq_iff_eq.1 e
  rw [← e2, any_cnt ht]
  omega
 ·omega
theorem UniqI.cut_len {l : List Tmr} (h : UniqI l) {i : Int} (hy : l.any (idB i) = true) : (l.filter (fun t => !idB i t)).length + 1 = l.length := by
 have h1 := h i
 have h2 := any_pos hy
 have h3 := part_len l (idB i)
 omega
structure PQ (w : Wh) (l : List Tmr) (n r : Int) : Prop where
 p : PR w l
 u : UniqI l
 now : w.now = n
 r0 : 0 ≤ r
 r1 : r ≤ 64
 lr : (l.length : Nat) ≤ r
def PV (p : List AV) (l : List Tmr) (n r : Int) : Prop := ∃ w, PQ w l n r ∧ p = encP (encWh w) (l.length : Nat) r
section
variable {p : List AV} {l : List Tmr} {n r : Int}
theorem PV.len (h : PV p l n r) : p.length = 1027 := by
 obtain ⟨w, h, rfl⟩ := h
 exact encP_len h.p.r.len
theorem PV.closed (h : PV p l n r) : ∀ x, x ∈ p → Closed x := by
 obtain ⟨w, h, rfl⟩ := h
 exact encP_closed (encWh_closed w)
theorem PV.size (h : PV p l n r) : l.length ≤ 64 := by
 obtain ⟨w, h, rfl⟩ := h
 have := h.lr
 have := h.r1
 omega
theorem PV.rng (h : PV p l n r) : 0 ≤ r ∧ r ≤ 64 ∧ (l.length : Nat) ≤ r := by
 obtain ⟨w, h, rfl⟩ := h
 exact ⟨h.r0, h.r1, h.lr⟩
theorem PV.nn (h : PV p l n r) : 0 ≤ n ∧ n ≤ 4000000000000000000 := by
 obtain ⟨w, h, rfl⟩ := h
 rw [← h.now]
 exact ⟨h.p.r.r.1, h.p.r.n1⟩
theorem PV.each (h : PV p l n r) : EachOk l := by
 obtain ⟨w, h, rfl⟩ := h
 exact h.p.e
theorem PV.uniq (h : PV p l n r) : UniqI l := by
 obtain ⟨w, h, rfl⟩ := h
 exact h.u
theorem PV.now (h : PV p l n r) : p[0 + 0]? = some (.val (.int .i64 n)) := by
 obtain ⟨w, h, rfl⟩ := h
 rw [← h.now]
 exact p_now (now_at w)
theorem pv_new (h : pnewB n r) : ∃ p, PV p [] n r ∧ FnC Try.prog 11 [.val (.int .i64 n), .val (.int .i64 r)] (.tup [.agg p, .val (.int .i64 0)]) := by
 obtain ⟨c, hw⟩ := pnew_yes h
 exact ⟨_, ⟨wNew n, ⟨hw, fun i => Nat.zero_le _, rfl, h.2.1, h.2.2, h.2.1⟩, rfl⟩, c⟩
theorem pv_start_no (h : PV p l n r) (t : Tmr) (d : Int) (b : Bool) (hno : ¬ (1 ≤ d ∧ d ≤ 4294967295) ∨ l.any (idB t.id) = true) : FnC Try.prog 13 [.agg p, .agg (encTm t), .val (.int .i64 d), .val (.bool b)] (.tup [.agg p, .val (.int .i64 (-24))]) := by
 have hsz := h.size
 obtain ⟨w, h, rfl⟩ := h
 have := h.r0
 have := h.r1
 exact start_no sort80 h.p.r (by omega) _ r t d b (by omega) (by omega) hno
theorem pv_start_full (h : PV p l n r) (t : Tmr) (d : Int) (b : Bool) (hd : 1 ≤ d ∧ d ≤ 4294967295) (hn : l.any (idB t.id) = false) (hf : r ≤ (l.length : Nat)) : FnC Try.prog 13 [.agg p, .agg (encTm t), .val (.int .i64 d), .val (.bool b)] (.tup [.agg p, .val (.int .i64 (-258))]) := by
 have hsz := h.size
 obtain ⟨w, h, rfl⟩ := h
 have := h.r0
 have := h.r1
 exact start_full sort80 h.p.r (by omega) _ r t d b (by omega) (by omega) hd hn hf
theorem pv_start (h : PV p l n r) (t : Tmr) (d : Int) (b : Bool) (hd : 1 ≤ d ∧ d ≤ 4294967295) (hn : l.any (idB t.id) = false) (hf : (l.length : Nat) < r) : ∃ p', PV p' (insT (stT t n d b) l) n r ∧ FnC Try.prog 13 [.agg p, .agg (encTm t), .val (.int .i64 d), .val (.bool b)] (.tup [.agg p', .val (.int .i64 0)]) := by
 have hsz := h.size
 obtain ⟨w, h, rfl⟩ := h
 have hr0 := h.r0
 have hr1 := h.r1
 have c := start_yes sort80 h.p.r (by omega) (by omega) (l.length : Nat) r t d b (by omega) (by omega) hd hn hf
 have ew := h.now
 rw [ew] at c
 have hp := h.p.add (t := stT t n d b) (by rw [ew]; show n < n + d; omega) (by rw [ew]; show n + d < n + 4294967296; omega) (by omega) (by
  show 0 ≤ (if b = true then d else 0) ∧ (if b = true then d else 0) ≤ 4294967295
  split <;> omega)
 have hu := h.u.ins (t := stT t n d b) hn
 have hln : (insT (stT t n d b) l).length = l.length + 1 := insT_len _ _
 refine ⟨_, ⟨putD w (stT t n d b), ⟨hp, hu, ew, hr0, hr1, by rw [hln]; omega⟩, rfl⟩, ?_⟩
 rw [hln]
 exact c
theorem pv_cancel (h : PV p l n r) (i : Int) : ∃ p', PV p' (l.filter (fun t => !idB i t)) n r ∧ FnC Try.prog 15 [.agg p, .val (.int .i64 i)] (.tup [.agg p', .val (.bool (l.any (idB i)))]) := by
 have hsz := h.size
 have h0 := h
 obtain ⟨w, h, rfl⟩ := h
 cases hy : l.any (idB i) with
 | true =>
  have c := cancel_yes h.p.r (l.length : Nat) r i (by omega) hy
  have hl := h.u.cut_len hy
  have hlr := h.lr
  refine ⟨_, ⟨cutW w i, ⟨h.p.cut i, h.u.filter _, h.now, h.r0, h.r1, by omega⟩, rfl⟩, ?_⟩
  rw [show (((l.filter (fun t => !idB i t)).length : Nat) : Int) = (l.length : Nat) - 1 by omega]
  exact c
 | false =>
  rw [cut_one hy]
  exact ⟨_, h0, cancel_no h.p.r _ r i hy⟩
theorem pv_tick (h : PV p l n r) (hn : n + 1 ≤ 4000000000000000000) : ∃ p', PV p' (nextL n l) (n + 1) r ∧ FnC Try.prog 17 [.agg p] (.tup [.agg p', encTs (l.filter (dueB (n + 1)))]) := by
 have hsz := h.size
 obtain ⟨w, h, rfl⟩ := h
 have ew := h.now
 have c := ptick_c sort80 h.p (by omega) (by rw [ew]; exact hn) (l.length : Nat) r rfl
 have hp := h.p.next (by rw [ew]; exact hn)
 have hw := next_now h.p
 rw [ew] at c hp hw
 have hle := nextL_le n l
 have hlr := h.lr
 exact ⟨_, ⟨nextW w l, ⟨hp, h.u.next n, hw, h.r0, h.r1, by omega⟩, rfl⟩, c⟩
theorem pv_free (h : PV p l n r) : FnC Try.prog 20 [.agg p] (.val (.int .i64 (r - (l.length : Nat)))) := by
 have hsz := h.size
 obtain ⟨w, h, rfl⟩ := h
 have := h.r0
 have := h.r1
 exact free_c h.p.r.len (encWh_closed w) _ r (by omega) (by omega)
theorem pv_all (h : PV p l n r) : FnC Try.prog 22 [.agg p] (encTs l) := by
 have hsz := h.size
 obtain ⟨w, h, rfl⟩ := h
 exact pall_c sort80 h.p.r (by omega) _ r
end
end Go.Proofs.Ytkmlmboclegpcaa
namespace Go.Proofs.Ytkmlmboclegpcaa
open Go Go.RowKit
set_option maxRecDepth 100000
def tq (d : Int) : Tmr := ⟨7, d, 2, 0, 0, 0⟩
def tq0 : Tmr := ⟨7, 0, 0, 0, 0, 0⟩
theorem sh_odd (i : Int) (h : i.tmod 2 = 1) : (((((([] : List Tmr).map encTm).length : Nat) : Int) == 1) != (i.tmod 2 == 0)) = false := by rw [h]; rfl
theorem sh_even (i : Int) (t : Tmr) (h : i.tmod 2 = 0) : (((((([t] : List Tmr).map encTm).length : Nat) : Int) == 1) != (i.tmod 2 == 0)) = false := by rw [h]; rfl
structure Ex20 (p0 p1 p2 p3 p4 p5 p6 pc : List AV) : Prop where
 l0 : p0.length = 1027
 l1 : p1.length = 1027
 l2 : p2.length = 1027
 l3 : p3.length = 1027
 l4 : p4.length = 1027
 l5 : p5.length = 1027
 l6 : p6.length = 1027
 lc : pc.length = 1027
 c0 : FnC Try.prog 11 [.val (.int .i64 0), .val (.int .i64 2)] (.tup [.agg p0, .val (.int .i64 0)])
 c1 : FnC Try.prog 13 [.agg p0, .agg (encTm tq0), .val (.int .i64 2), .val (.bool true)] (.tup [.agg p1, .val (.int .i64 0)])
 c2 : FnC Try.prog 13 [.agg p1, .agg (encTm tq0), .val (.int .i64 2), .val (.bool true)] (.tup [.agg p1, .val (.int .i64 (-24))])
 c3 : FnC Try.prog 20 [.agg p1] (.val (.int .i64 1))
 c4 : FnC Try.prog 15 [.agg p1, .val (.int .i64 7)] (.tup [.agg pc, .val (.bool true)])
 c5 : FnC Try.prog 20 [.agg pc] (.val (.int .i64 2))
 t1 : FnC Try.prog 17 [.agg p1] (.tup [.agg p2, encTs []])
 t2 : FnC Try.prog 17 [.agg p2] (.tup [.agg p3, encTs [tq 2]])
 t3 : FnC Try.prog 17 [.agg p3] (.tup [.agg p4, encTs []])
 t4 : FnC Try.prog 17 [.agg p4] (.tup [.agg p5, encTs [tq 4]])
 t5 : FnC Try.prog 17 [.agg p5] (.tup [.agg p6, encTs []])
 c6 : FnC Try.prog 22 [.agg p6] (encTs [tq 6])
theorem ex20 : ∃ p0 p1 p2 p3 p4 p5 p6 pc, Ex20 p0 p1 p2 p3 p4 p5 p6 pc := by
 obtain ⟨p0, h0, c0⟩ := pv_new (n := 0) (r := 2) ⟨by omega, by omega⟩
 obtain ⟨p1, h1, c1⟩ := pv_start h0 tq0 2 true (by omega) rfl (by decide)
 have h1 : PV p1 [tq 2] 0 2 := h1
 have c2 := pv_start_no h1 tq0 2 true (.inr rfl)
 have c3 := pv_free h1
 obtain ⟨pc, hc, c4⟩ := pv_cancel h1 7
 have hc : PV pc [] 0 2 := hc
 have c5 := pv_free hc
 obtain ⟨p2, h2, t1⟩ := pv_tick h1 (by decide)
 have h2 : PV p2 [tq 2] 1 2 := h2
 obtain ⟨p3, h3, t2⟩ := pv_tick h2 (by decide)
 have h3 : PV p3 [tq 4] 2 2 := h3
 obtain ⟨p4, h4, t3⟩ := pv_tick h3 (by decide)
 have h4 : PV p4 [tq 4] 3 2 := h4
 obtain ⟨p5, h5, t4⟩ := pv_tick h4 (by decide)
 have h5 : PV p5 [tq 6] 4 2 := h5
 obtain ⟨p6, h6, t5⟩ := pv_tick h5 (by decide)
 have h6 : PV p6 [tq 6] 5 2 := h6
 exact ⟨p0, p1, p2, p3, p4, p5, p6, pc, h0.len, h1.len, h2.len, h3.len, h4.len, h5.len, h6.len, hc.len, c0, c1, c2, c3, c4, c5, t1, t2, t3, t4, t5, pv_all h6⟩
attribute [local irreducible] Decidable.decide awp ARun regK toK zP zBig30 zBig28
set_option maxHeartbeats 16000000 in
theorem shown20_c : FnC Try.prog 10 [] (.val (.bool true)) := by
 obtain ⟨p0, p1, p2, p3, p4, p5, p6, pc, l0, l1, l2, l3, l4, l5, l6, lc, c0, c1, c2, c3, c4, c5, t1, t2, t3, t4, t5, c6⟩ := ex20
 have lz := zP_len
 have z0 : ((0 : Int) == 0) = true := by simp
 have z1 : ((1 : Int) == 1) = true := by simp
 have z2 : ((2 : Int) == 2) = true := by simp
 have z3 : ((-24 : Int) == -24) = true := by simp
 have e1 : (((((([tq 6] : List Tmr).map encTm).length : Nat) : Int)) == 1) = true := by simp
 have f1 := sh_odd 1 rfl
 have f2 := sh_even 2 (tq 2) rfl
 have f3 := sh_odd 3 rfl
 have f4 := sh_even 4 (tq 4) rfl
 have f5 := sh_odd 5 rfl
 refine goF Try.func10 closedL_nil (fun w0 st0 => ?_)
 dsimp only [frOf]
 (repeat' (first | refine storeW (t := 30) rfl rfl rfl rfl rfl (by assumption) (by assumption) rfl rfl ?_ | refine loadW (t := 30) rfl rfl rfl rfl rfl (by assumption) rfl rfl ?_ | refine allocW (t := 30) rfl zPall zP_eq zP_len rfl rfl rfl ?_ | refine goA ?_ | refine cX c0 ?_ | refine cX c1 ?_ | refine cX c2 ?_ | refine cX c3 ?_ | refine cX c4 ?_ | refine goB ?_ | fail))
 refine awp_loopT (T := Nat × List AV × Int × Int × Nat) (fun t => ⟨[(0, .val (.bool false)), (1, .ptr 1 5 0 0), (2, .val (.int .i64 0)), (3, .val (.int .i64 0)), (5, .val (.int .i64 (-24))), (6, .val (.int .i64 1)), (7, .ptr 7 33 0 0), (8, .val (.bool true)), (9, .val (.int .i64 t.2.2.1)), (10, .val (.int .i64 t.2.2.2.1))], [(1, some ⟨5, 1027, [t.2.1]⟩), (7, some ⟨33, 1027, [pc]⟩)], t.2.2.2.2⟩) (fun t => (t.1 = 0 ∧ t.2.1 = p1 ∧ t.2.2.1 = 0 ∧ t.2.2.2.1 = 1) ∨ (t.1 = 1 ∧ t.2.1 = p2 ∧ t.2.2.1 = 0 ∧ t.2.2.2.1 = 2) ∨ (t.1 = 2 ∧ t.2.1 = p3 ∧ t.2.2.1 = 1 ∧ t.2.2.2.1 = 3) ∨ (t.1 = 3 ∧ t.2.1 = p4 ∧ t.2.2.1 = 1 ∧ t.2.2.2.1 = 4) ∨ (t.1 = 4 ∧ t.2.1 = p5 ∧ t.2.2.1 = 2 ∧ t.2.2.2.1 = 5) ∨ (t.1 = 5 ∧ t.2.1 = p6 ∧ t.2.2.1 = 2 ∧ t.2.2.2.1 = 6)) (fun t => 6 - t.1) (0, p1, 0, 1, _) (.inl ⟨rfl, rfl, rfl, rfl⟩) ⟨⟨rfl, rfl, rfl, rfl, rfl, rfl, rfl, rfl, rfl, rfl, trivial⟩, ⟨rfl, rfl, trivial⟩, Nat.le_refl _⟩ (fun t ht => ?_)
 clear c0 c1 c2 c3 c4 l0
 obtain ⟨s, p, M, i, gc⟩ := t
 dsimp only at ht ⊢
 rcases ht with ⟨rfl, rfl, rfl, rfl⟩ | ⟨rfl, rfl, rfl, rfl⟩ | ⟨rfl, rfl, rfl, rfl⟩ | ⟨rfl, rfl, rfl, rfl⟩ | ⟨rfl, rfl, rfl, rfl⟩ | ⟨rfl, rfl, rfl, rfl⟩
 ·have d1 : decide ((1 : Int) ≤ 5) = true := decide_eq_true (by omega)
  (repeat' (first | refine storeW (t := 30) rfl rfl rfl rfl rfl (by assumption) (by assumption) rfl rfl ?_ | refine loadW (t := 30) rfl rfl rfl rfl rfl (by assumption) rfl rfl ?_ | refine allocW (t := 30) rfl zPall zP_eq zP_len rfl rfl rfl ?_ | refine goA ?_ | refine cX t1 ?_ | refine goB ?_ | fail))
  exact ⟨(1, p2, 0, 2, _), ⟨⟨rfl, rfl, rfl, rfl, rfl, rfl, rfl, rfl, rfl, rfl, trivial⟩, ⟨rfl, rfl, trivial⟩, Nat.le_refl _⟩, .inr (.inl ⟨rfl, rfl, rfl, rfl⟩), by dsimp only; omega⟩
 ·have d1 : decide ((2 : Int) ≤ 5) = true := decide_eq_true (by omega)
  (repeat' (first | refine storeW (t := 30) rfl rfl rfl rfl rfl (by assumption) (by assumption) rfl rfl ?_ | refine loadW (t := 30) rfl rfl rfl rfl rfl (by assumption) rfl rfl ?_ | refine allocW (t := 30) rfl zPall zP_eq zP_len rfl rfl rfl ?_ | refine goA ?_ | refine cX t2 ?_ | refine goB ?_ | fail))
  exact ⟨(2, p3, 1, 3, _), ⟨⟨rfl, rfl, rfl, rfl, rfl, rfl, rfl, rfl, rfl, rfl, trivial⟩, ⟨rfl, rfl, trivial⟩, Nat.le_refl _⟩, .inr (.inr (.inl ⟨rfl, rfl, rfl, rfl⟩)), by dsimp only; omega⟩
 ·have d1 : decide ((3 : Int) ≤ 5) = true := decide_eq_true (by omega)
  (repeat' (first | refine storeW (t := 30) rfl rfl rfl rfl rfl (by assumption) (by assumption) rfl rfl ?_ | refine loadW (t := 30) rfl rfl rfl rfl rfl (by assumption) rfl rfl ?_ | refine allocW (t := 30) rfl zPall zP_eq zP_len rfl rfl rfl ?_ | refine goA ?_ | refine cX t3 ?_ | refine goB ?_ | fail))
  exact ⟨(3, p4, 1, 4, _), ⟨⟨rfl, rfl, rfl, rfl, rfl, rfl, rfl, rfl, rfl, rfl, trivial⟩, ⟨rfl, rfl, trivial⟩, Nat.le_refl _⟩, .inr (.inr (.inr (.inl ⟨rfl, rfl, rfl, rfl⟩))), by dsimp only; omega⟩
 ·have d1 : decide ((4 : Int) ≤ 5) = true := decide_eq_true (by omega)
  (repeat' (first | refine storeW (t := 30) rfl rfl rfl rfl rfl (by assumption) (by assumption) rfl rfl ?_ | refine loadW (t := 30) rfl rfl rfl rfl rfl (by assumption) rfl rfl ?_ | refine allocW (t := 30) rfl zPall zP_eq zP_len rfl rfl rfl ?_ | refine goA ?_ | refine cX t4 ?_ | refine goB ?_ | fail))
  exact ⟨(4, p5, 2, 5, _), ⟨⟨rfl, rfl, rfl, rfl, rfl, rfl, rfl, rfl, rfl, rfl, trivial⟩, ⟨rfl, rfl, trivial⟩, Nat.le_refl _⟩, .inr (.inr (.inr (.inr (.inl ⟨rfl, rfl, rfl, rfl⟩)))), by dsimp only; omega⟩
 ·have d1 : decide ((5 : Int) ≤ 5) = true := decide_eq_true (by omega)
  (repeat' (first | refine storeW (t := 30) rfl rfl rfl rfl rfl (by assumption) (by assumption) rfl rfl ?_ | refine loadW (t := 30) rfl rfl rfl rfl rfl (by assumption) rfl rfl ?_ | refine allocW (t := 30) rfl zPall zP_eq zP_len rfl rfl rfl ?_ | refine goA ?_ | refine cX t5 ?_ | refine goB ?_ | fail))
  exact ⟨(5, p6, 2, 6, _), ⟨⟨rfl, rfl, rfl, rfl, rfl, rfl, rfl, rfl, rfl, rfl, trivial⟩, ⟨rfl, rfl, trivial⟩, Nat.le_refl _⟩, .inr (.inr (.inr (.inr (.inr ⟨rfl, rfl, rfl, rfl⟩)))), by dsimp only; omega⟩
 ·have d1 : decide ((6 : Int) ≤ 5) = false := decide_eq_false (by omega)
  (repeat' (first | refine loadW (t := 30) rfl rfl rfl rfl rfl (by assumption) rfl rfl ?_ | refine goA ?_ | refine cX c5 ?_ | refine cX c6 ?_ | refine goB ?_ | fail))
  exact awp_ret ⟨_, ResL.cons (ResA.tmp (.val _)) .nil, congrArg (fun b => AV.val (.bool b)) e1.symm⟩
end Go.Proofs.Ytkmlmboclegpcaa
