/- wA26, wA27, wA28. -/
import Derived.Test.YtfaclpcdeflgfaaW1
import Derived.Test.YtfaclpcdeflgfaaW2
import Derived.Test.YtfaclpcdeflgfaaW3
import Derived.Test.YtfaclpcdeflgfaaW4
import Derived.Test.YtfaclpcdeflgfaawW5
import Derived.Test.YtfaclpcdeflgfaawW6
import Derived.Test.YtfaclpcdeflgfaawW7
import Derived.Test.YtfaclpcdeflgfaawW8
import Derived.Test.YtfaclpcdeflgfaawW9
import Derived.Test.YtfaclpcdeflgfaawW10
import Derived.Test.YtfaclpcdeflgfaawW11
set_option linter.unusedVariables false
set_option linter.unusedSimpArgs false
namespace Go.Proofs.Ytfaclpcdeflgfaa
open Go Go.RowKit
set_option maxRecDepth 100000
theorem drop_c {l : List Tmr} {k : Nat} {x : Tmr} (h : l[k]? = some x) : l.drop k = x :: l.drop (k + 1) := by
 have hl := (List.getElem?_eq_some_iff.1 h).1
 rw [List.drop_eq_getElem_cons hl]
 rw [List.getElem?_eq_getElem hl] at h
 rw [Option.some.inj h]
attribute [local irreducible] Decidable.decide awp ARun regK toK
set_option maxHeartbeats 8000000 in
theorem swap_l (A X C Y R : List Tmr) (n : Nat) (hxy : X.length = Y.length) (hn : n = A.length + (X.length + (C.length + (Y.length + R.length)))) (hb : n ≤ 1000000) : FnL Try.prog 42 [.own 1000 0 0 n, .val (.int .i64 (A.length : Nat)), .val (.int .i64 ((A.length + X.length + C.length : Nat) : Int)), .val (.int .i64 (X.length : Nat)), .val (.func (.func 30) #[] #[])] [(6, (A ++ (X ++ (C ++ (Y ++ R)))).map encTm)] (.tup []) [(A ++ (Y ++ (C ++ (X ++ R)))).map encTm] := by
 refine FnL.of_awp (T := tt) (ok := tok) Try.func42 (by kernel_rfl) rfl (by kernel_rfl) (by kernel_rfl) (fun w0 st0 lent c0 => ?_)
 dsimp only [frOf, hpFrom, List.length_cons, List.length_nil]
 (repeat' (first | refine goA ?_ | refine awp_skip ?_ | refine goB ?_ | fail))
 refine awp_loopT (T := Nat × List Tmr × Nat) (fun t => ⟨[(0, .own 1000 0 0 n), (1, .val (.int .i64 (A.length : Nat))), (2, .val (.int .i64 ((A.length + X.length + C.length : Nat) : Int))), (3, .val (.int .i64 (X.length : Nat))), (10, .val (.int .i64 (t.1 : Nat)))], [(1000, some ⟨0, 6, t.2.1.map encTm⟩)], t.2.2⟩) (fun t => t.1 ≤ X.length ∧ t.2.1 = A ++ ((Y.take t.1 ++ X.drop t.1) ++ (C ++ ((X.take t.1 ++ Y.drop t.1) ++ R)))) (fun t => X.length - t.1) (0, A ++ (X ++ (C ++ (Y ++ R))), _) ⟨Nat.zero_le _, rfl⟩ ⟨⟨rfl, rfl, rfl, rfl, rfl, trivial⟩, ⟨rfl, trivial⟩, Nat.le_refl _⟩ (fun t ht => ?_)
 obtain ⟨i, L, gc⟩ := t
 dsimp only at ht ⊢
 obtain ⟨hi, hL⟩ := ht
 by_cases hlt : i < X.length
 ·have d1 : decide (((i : Nat) : Int) < (X.length : Nat)) = true := decide_eq_true (by omega)
  obtain ⟨x, hx⟩ : ∃ x, X[i]? = some x := ⟨_, List.getElem?_eq_getElem hlt⟩
  obtain ⟨y, hy⟩ : ∃ y, Y[i]? = some y := ⟨_, List.getElem?_eq_getElem (by omega)⟩
  have hdx := drop_c hx
  have hdy := drop_c hy
  have htx := take_succ' hx
  have hty := take_succ' hy
  have l1 : (X.take i).length = i := by rw [List.length_take]; omega
  have l2 : (Y.take i).length = i := by rw [List.length_take]; omega
  have l3 : (X.drop (i + 1)).length = X.length - (i + 1) := List.length_drop
  have l4 : (Y.drop (i + 1)).length = Y.length - (i + 1) := List.length_drop
  rw [hdx, hdy] at hL
  have eL : L = (A ++ Y.take i) ++ x :: (X.drop (i + 1) ++ (C ++ ((X.take i ++ y :: Y.drop (i + 1)) ++ R))) := by rw [hL]; simp
  have eL' : L = (A ++ (Y.take i ++ (x :: (X.drop (i + 1) ++ (C ++ X.take i))))) ++ y :: (Y.drop (i + 1) ++ R) := by rw [hL]; simp
  have e3 : (A ++ Y.take i) ++ y :: (X.drop (i + 1) ++ (C ++ ((X.take i ++ y :: Y.drop (i + 1)) ++ R))) = (A ++ (Y.take i ++ (y :: (X.drop (i + 1) ++ (C ++ X.take i))))) ++ y :: (Y.drop (i + 1) ++ R) := by simp
  have k1 : (A ++ Y.take i).length = A.length + i := by rw [List.length_append, l2]
  have k2 : ∀ z : Tmr, (A ++ (Y.take i ++ (z :: (X.drop (i + 1) ++ (C ++ X.take i))))).length = A.length + X.length + C.length + i := fun z => by simp only [List.length_append, List.length_cons, l1, l2, l3]; omega
  have hLl : L.length = n := by rw [eL']; simp only [List.length_append, List.length_cons, l1, l2, l3, l4]; omega
  have gx : (L.map encTm)[0 + ((A.length + X.length + C.length : Nat) + ((i : Nat) : Int)).toNat]? = some (encTm y) := map_at (by rw [eL']; exact mid_get _ _ _ (by rw [k2]; omega))
  have gy : (L.map encTm)[0 + ((A.length : Nat) + ((i : Nat) : Int)).toNat]? = some (encTm x) := map_at (by rw [eL]; exact mid_get _ _ _ (by rw [k1]; omega))
  have hk : 0 + ((A.length : Nat) + ((i : Nat) : Int)).toNat < (L.map encTm).length := by rw [List.length_map, hLl]; omega
  have s1 : (L.map encTm).set (0 + ((A.length : Nat) + ((i : Nat) : Int)).toNat) (encTm y) = ((A ++ (Y.take i ++ (y :: (X.drop (i + 1) ++ (C ++ X.take i))))) ++ y :: (Y.drop (i + 1) ++ R)).map encTm := map_set' (by rw [eL, mid_set _ _ _ _ (by rw [k1]; omega), e3])
  have s2 : (((A ++ (Y.take i ++ (y :: (X.drop (i + 1) ++ (C ++ X.take i))))) ++ y :: (Y.drop (i + 1) ++ R)).map encTm).set (0 + ((A.length + X.length + C.length : Nat) + ((i : Nat) : Int)).toNat) (encTm x) = ((A ++ (Y.take i ++ (y :: (X.drop (i + 1) ++ (C ++ X.take i))))) ++ x :: (Y.drop (i + 1) ++ R)).map encTm := map_set' (mid_set _ _ _ _ (by rw [k2]; omega))
  have hk' : 0 + ((A.length + X.length + C.length : Nat) + ((i : Nat) : Int)).toNat < (((A ++ (Y.take i ++ (y :: (X.drop (i + 1) ++ (C ++ X.take i))))) ++ y :: (Y.drop (i + 1) ++ R)).map encTm).length := by rw [List.length_map, List.length_append, k2, List.length_cons]; omega
  (repeat' (first | refine goA ?_ | refine ARun.indexAddr_own rfl rfl rfl rfl (by omega) (by omega) rfl rfl rfl rfl rfl (guardF_spec rfl) ?_ | refine ARun.loadAgg rfl rfl rfl (by first | exact gx | exact gy) rfl rfl rfl rfl (guardF_spec rfl) ?_ | refine ARun.storeEl rfl rfl rfl hk (map_len (fun _ => rfl)) rfl rfl rfl rfl rfl s1 (guardF_spec rfl) ?_ | refine ARun.storeEl rfl rfl rfl hk' (map_len (fun _ => rfl)) rfl rfl rfl rfl rfl s2 (guardF_spec rfl) ?_ | refine goB ?_ | fail))
  refine ⟨(i + 1, (A ++ (Y.take i ++ (y :: (X.drop (i + 1) ++ (C ++ X.take i))))) ++ x :: (Y.drop (i + 1) ++ R), _), ⟨⟨rfl, rfl, rfl, rfl, rfl, trivial⟩, ⟨rfl, trivial⟩, Nat.le_refl _⟩, ⟨hlt, ?_⟩, (by dsimp only; omega)⟩
  dsimp only
  rw [htx, hty]
  simp
 ·have d1 : decide (((i : Nat) : Int) < (X.length : Nat)) = false := decide_eq_false (by omega)
  have hfin : L = A ++ (Y ++ (C ++ (X ++ R))) := by rw [hL, List.take_of_length_le (by omega), List.drop_of_length_le (by omega), List.take_of_length_le (by omega), List.drop_of_length_le (by omega), List.append_nil, List.append_nil]
  rw [← hfin]
  (repeat' (first | refine goA ?_ | refine awp_skip ?_ | refine goB ?_ | fail))
  exact ⟨_, ResL.nil, rfl, ⟨_, rfl, RlR.closed (rows_closed L)⟩, trivial⟩
end Go.Proofs.Ytfaclpcdeflgfaa
namespace Go.Proofs.Ytfaclpcdeflgfaa
open Go Go.RowKit
set_option maxRecDepth 100000
attribute [local irreducible] Decidable.decide awp ARun regK toK
set_option maxHeartbeats 8000000 in
theorem rot_l (A U V R : List Tmr) (n : Nat) (hu : 0 < U.length) (hv : 0 < V.length) (hn : n = A.length + (U.length + (V.length + R.length))) (hb : n ≤ 1000000) : FnL Try.prog 41 [.own 1000 0 0 n, .val (.int .i64 (A.length : Nat)), .val (.int .i64 ((A.length + U.length : Nat) : Int)), .val (.int .i64 ((A.length + U.length + V.length : Nat) : Int)), .val (.func (.func 30) #[] #[])] [(6, (A ++ (U ++ (V ++ R))).map encTm)] (.tup []) [(A ++ (V ++ (U ++ R))).map encTm] := by
 refine FnL.of_awp (T := tt) (ok := tok) Try.func41 (by kernel_rfl) rfl (by kernel_rfl) (by kernel_rfl) (fun w0 st0 lent c0 => ?_)
 dsimp only [frOf, hpFrom, List.length_cons, List.length_nil]
 (repeat' (first | refine goA ?_ | refine awp_skip ?_ | refine goB ?_ | fail))
 refine awp_loopT (T := List Tmr × List Tmr × List Tmr × List Tmr × Int × Int × Nat) (fun t => ⟨[(0, .own 1000 0 0 n), (1, .val (.int .i64 (A.length : Nat))), (2, .val (.int .i64 ((A.length + U.length : Nat) : Int))), (3, .val (.int .i64 ((A.length + U.length + V.length : Nat) : Int))), (4, .val (.func (.func 30) #[] #[])), (10, .val (.int .i64 t.2.2.2.2.1)), (11, .val (.int .i64 t.2.2.2.2.2.1))], [(1000, some ⟨0, 6, (A ++ (t.1 ++ (t.2.1 ++ (t.2.2.1 ++ (t.2.2.2.1 ++ R))))).map encTm⟩)], t.2.2.2.2.2.2⟩) (fun t => t.1.length + t.2.1.length = U.length ∧ t.2.2.1.length + t.2.2.2.1.length = V.length ∧ 0 < t.2.1.length ∧ 0 < t.2.2.1.length ∧ t.1 ++ (t.2.2.1 ++ (t.2.1 ++ t.2.2.2.1)) = V ++ U ∧ t.2.2.2.2.1 = (t.2.1.length : Nat) ∧ t.2.2.2.2.2.1 = (t.2.2.1.length : Nat)) (fun t => t.2.1.length + t.2.2.1.length) ([], U, V, [], _, _, _) ⟨Nat.zero_add _, Nat.add_zero _, hu, hv, by simp, by dsimp only; omega, by dsimp only; omega⟩ ⟨⟨rfl, rfl, rfl, rfl, rfl, rfl, rfl, trivial⟩, ⟨rfl, trivial⟩, Nat.le_refl _⟩ (fun t ht => ?_)
 obtain ⟨P, U2, V2, Q, i, j, gc⟩ := t
 dsimp only at ht ⊢
 obtain ⟨h1, h2, h3, h4, h5, rfl, rfl⟩ := ht
 by_cases he : U2.length = V2.length
 ·have d1 : (((U2.length : Nat) : Int) != (V2.length : Nat)) = false := by rw [he]; simp
  have c1 := swap_l (A ++ P) U2 [] V2 (Q ++ R) n he (by simp only [List.length_append, List.length_nil]; omega) hb
  have e1 : (A ++ P) ++ (U2 ++ ([] ++ (V2 ++ (Q ++ R)))) = A ++ (P ++ (U2 ++ (V2 ++ (Q ++ R)))) := by simp
  have e2 : (A ++ P) ++ (V2 ++ ([] ++ (U2 ++ (Q ++ R)))) = A ++ (V ++ (U ++ R)) := by
   have : (P ++ (V2 ++ (U2 ++ Q))) ++ R = (V ++ U) ++ R := by rw [h5]
   simp only [List.append_assoc, List.nil_append] at this ⊢
   rw [this]
  rw [e1, e2] at c1
  have a1 : (((A ++ P).length : Nat) : Int) = ((A.length + U.length : Nat) : Int) - (U2.length : Nat) := by rw [List.length_append]; omega
  have a2 : (((A ++ P).length + U2.length + ([] : List Tmr).length : Nat) : Int) = ((A.length + U.length : Nat) : Int) := by rw [List.length_append, List.length_nil]; omega
  rw [a1, a2] at c1
  (repeat' (first | refine goA ?_ | refine awp_skip ?_ | refine callR 1000 0 6 ((A ++ (P ++ (U2 ++ (V2 ++ (Q ++ R))))).map encTm) ((A ++ (V ++ (U ++ R))).map encTm) c1 (rows_closed _) (rows_closed _) (RelL.cons (.own (j := 0) 0 _ rfl) (RelL.cons (.wk (.same _) (.val _)) (RelL.cons (.wk (.same _) (.val _)) (RelL.cons (.wk (.same _) (.val _)) (RelL.cons (.wk (.same _) (.val _)) (RelL.nil _)))))) (.same _ (.tup closedL_nil)) rfl rfl rfl rfl rfl ?_ | refine goB ?_ | fail))
  (first | exact ⟨_, ResL.nil, rfl, ⟨_, rfl, RlR.closed (rows_closed _)⟩, trivial⟩ | (refine awp_skip ?_; exact ⟨_, ResL.nil, rfl, ⟨_, rfl, RlR.closed (rows_closed _)⟩, trivial⟩))
 have d1 : (((U2.length : Nat) : Int) != (V2.length : Nat)) = true := by
  rw [bne_iff_ne]
  omega
 by_cases hlt : V2.length < U2.length
 ·have d2 : decide (((V2.length : Nat) : Int) < (U2.length : Nat)) = true := decide_eq_true (by omega)
  obtain ⟨X, U3, rfl, hX⟩ : ∃ X U3, U2 = X ++ U3 ∧ X.length = V2.length := ⟨U2.take V2.length, U2.drop V2.length, (List.take_append_drop _ _).symm, by rw [List.length_take]; omega⟩
  rw [List.length_append] at h1 h3 hlt he
  have c1 := swap_l (A ++ P) X U3 V2 (Q ++ R) n hX (by simp only [List.length_append]; omega) hb
  have e1 : (A ++ P) ++ (X ++ (U3 ++ (V2 ++ (Q ++ R)))) = A ++ (P ++ ((X ++ U3) ++ (V2 ++ (Q ++ R)))) := by simp
  have e2 : (A ++ P) ++ (V2 ++ (U3 ++ (X ++ (Q ++ R)))) = A ++ ((P ++ V2) ++ (U3 ++ (X ++ (Q ++ R)))) := by simp
  rw [e1, e2] at c1
  have a1 : (((A ++ P).length : Nat) : Int) = ((A.length + U.length : Nat) : Int) - ((X ++ U3).length : Nat) := by simp only [List.length_append]; omega
  have a2 : (((A ++ P).length + X.length + U3.length : Nat) : Int) = ((A.length + U.length : Nat) : Int) := by rw [List.length_append]; omega
  have a3 : ((X.length : Nat) : Int) = (V2.length : Nat) := by omega
  rw [a1, a2, a3] at c1
  have hxl : ((X ++ U3).length : Nat) ≤ 1000000 := by rw [List.length_append]; omega
  (repeat' (first | refine goA ?_ | refine awp_skip ?_ | refine callR 1000 0 6 ((A ++ (P ++ ((X ++ U3) ++ (V2 ++ (Q ++ R))))).map encTm) ((A ++ ((P ++ V2) ++ (U3 ++ (X ++ (Q ++ R))))).map encTm) c1 (rows_closed _) (rows_closed _) (RelL.cons (.own (j := 0) 0 _ rfl) (RelL.cons (.wk (.same _) (.val _)) (RelL.cons (.wk (.same _) (.val _)) (RelL.cons (.wk (.same _) (.val _)) (RelL.cons (.wk (.same _) (.val _)) (RelL.nil _)))))) (.same _ (.tup closedL_nil)) rfl rfl rfl rfl rfl ?_ | refine goB ?_ | fail))
  refine ⟨(P ++ V2, U3, X, Q, _, _, _), ⟨⟨rfl, rfl, rfl, rfl, rfl, rfl, rfl, trivial⟩, ⟨rfl, trivial⟩, Nat.le_refl _⟩, ⟨by dsimp only; simp only [List.length_append]; omega, by dsimp only; omega, by dsimp only; omega, by dsimp only; omega, by dsimp only; rw [← h5]; simp, by dsimp only; simp only [List.length_append]; omega, a3.symm⟩, by dsimp only; simp only [List.length_append]; omega⟩
 ·have d2 : decide (((V2.length : Nat) : Int) < (U2.length : Nat)) = false := decide_eq_false (by omega)
  obtain ⟨V3, Y, rfl, hY⟩ : ∃ V3 Y, V2 = V3 ++ Y ∧ U2.length = Y.length := ⟨V2.take (V2.length - U2.length), V2.drop (V2.length - U2.length), (List.take_append_drop _ _).symm, by rw [List.length_drop]; omega⟩
  rw [List.length_append] at h2 h4 hlt he
  have c1 := swap_l (A ++ P) U2 V3 Y (Q ++ R) n hY (by simp only [List.length_append]; omega) hb
  have e1 : (A ++ P) ++ (U2 ++ (V3 ++ (Y ++ (Q ++ R)))) = A ++ (P ++ (U2 ++ ((V3 ++ Y) ++ (Q ++ R)))) := by simp
  have e2 : (A ++ P) ++ (Y ++ (V3 ++ (U2 ++ (Q ++ R)))) = A ++ (P ++ (Y ++ (V3 ++ ((U2 ++ Q) ++ R)))) := by simp
  rw [e1, e2] at c1
  have a1 : (((A ++ P).length : Nat) : Int) = ((A.length + U.length : Nat) : Int) - (U2.length : Nat) := by rw [List.length_append]; omega
  have a2 : (((A ++ P).length + U2.length + V3.length : Nat) : Int) = ((A.length + U.length : Nat) : Int) + ((V3 ++ Y).length : Nat) - (U2.length : Nat) := by simp only [List.length_append]; omega
  rw [a1, a2] at c1
  have a3 : ((U2.length : Nat) : Int) = (Y.length : Nat) := by omega
  have hxl : ((V3 ++ Y).length : Nat) ≤ 1000000 := by rw [List.length_append]; omega
  (repeat' (first | refine goA ?_ | refine awp_skip ?_ | refine callR 1000 0 6 ((A ++ (P ++ (U2 ++ ((V3 ++ Y) ++ (Q ++ R))))).map encTm) ((A ++ (P ++ (Y ++ (V3 ++ ((U2 ++ Q) ++ R))))).map encTm) c1 (rows_closed _) (rows_closed _) (RelL.cons (.own (j := 0) 0 _ rfl) (RelL.cons (.wk (.same _) (.val _)) (RelL.cons (.wk (.same _) (.val _)) (RelL.cons (.wk (.same _) (.val _)) (RelL.cons (.wk (.same _) (.val _)) (RelL.nil _)))))) (.same _ (.tup closedL_nil)) rfl rfl rfl rfl rfl ?_ | refine goB ?_ | fail))
  refine ⟨(P, Y, V3, U2 ++ Q, _, _, _), ⟨⟨rfl, rfl, rfl, rfl, rfl, rfl, rfl, trivial⟩, ⟨rfl, trivial⟩, Nat.le_refl _⟩, ⟨by dsimp only; omega, by dsimp only; simp only [List.length_append]; omega, by dsimp only; omega, by dsimp only; omega, by dsimp only; rw [← h5]; simp, a3, by dsimp only; simp only [List.length_append]; omega⟩, by dsimp only; simp only [List.length_append]; omega⟩
end Go.Proofs.Ytfaclpcdeflgfaa
namespace Go.Proofs.Ytfaclpcdeflgfaa
open Go Go.RowKit
set_option maxRecDepth 100000
theorem ltT_ff {a b : Tmr} (h : ltT a b = true) : ltT b a = false := by
 rw [ltT_iff] at h
 rw [ltT_no]
 omega
theorem sorted_at {l : List Tmr} (h : SortedT l) {a b : Nat} {x y : Tmr} (ha : l[a]? = some x) (hb : l[b]? = some y) (hab : a ≤ b) : ltT y x = false := by
 have la := (List.getElem?_eq_some_iff.1 ha).1
 have lb := (List.getElem?_eq_some_iff.1 hb).1
 by_cases e : a = b
 ·subst e
  rw [ha] at hb
  obtain rfl := Option.some.inj hb
  rw [ltT_no]
  omega
 ·have := List.pairwise_iff_getElem.1 h a b la lb (by omega)
  rw [List.getElem?_eq_getElem la] at ha
  rw [List.getElem?_eq_getElem lb] at hb
  rw [Option.some.inj ha, Option.some.inj hb] at this
  exact this
theorem merge_one {x : Tmr} {p q : List Tmr} (hs : SortedT (p ++ q)) (hp : ∀ v, v ∈ p → ltT v x = true) (hq : ∀ v, v ∈ q → ltT v x = false) : sortT (x :: (p ++ q)) = p ++ x :: q := by
 have h0 := List.pairwise_append.1 hs
 refine sorted_uniq (sortT_sorted _) (List.pairwise_append.2 ⟨h0.1, List.pairwise_cons.2 ⟨hq, h0.2.1⟩, fun a ha b hb => ?_⟩) (fun d i => ?_)
 ·rcases List.mem_cons.1 hb with rfl | hb
  ·exact ltT_ff (hp a ha)
  ·exact h0.2.2 a ha b hb
 ·rw [sortT_filter, List.filter_cons, List.filter_append, List.filter_append, List.filter_cons]
  by_cases hk : keyT d i x = true
  ·rw [if_pos hk, if_pos hk]
   have : p.filter (keyT d i) = [] := flt_no (fun v hv => by
    have h1 := hp v hv
    rw [ltT_iff] at h1
    rw [keyT_iff] at hk
    rw [keyT_no]
    omega)
   rw [this]
   rfl
  ·rw [if_neg hk, if_neg hk]
theorem merge_two {p q r s : List Tmr} (h1 : SortedT (p ++ q)) (h2 : SortedT (r ++ s)) (h3 : ∀ v, v ∈ r → ∀ u, u ∈ q → ltT v u = true) (h4 : ∀ v, v ∈ s → ∀ u, u ∈ p → ltT v u = false) : sortT (p ++ r) ++ sortT (q ++ s) = sortT ((p ++ q) ++ (r ++ s)) := by
 have k1 := List.pairwise_append.1 h1
 have k2 := List.pairwise_append.1 h2
 refine sorted_uniq (List.pairwise_append.2 ⟨sortT_sorted _, sortT_sorted _, fun a ha b hb => ?_⟩) (sortT_sorted _) (fun d i => ?_)
 ·rcases List.mem_append.1 (mem_sortT.1 ha) with ha | ha <;> rcases List.mem_append.1 (mem_sortT.1 hb) with hb | hb
  ·exact k1.2.2 a ha b hb
  ·exact h4 b hb a ha
  ·exact ltT_ff (h3 a ha b hb)
  ·exact k2.2.2 a ha b hb
 ·rw [sortT_filter, List.filter_append, sortT_filter, sortT_filter, List.filter_append, List.filter_append, List.filter_append, List.filter_append, List.filter_append]
  cases e : r.filter (keyT d i) with
  | nil => simp
  | cons v l =>
   have hv : v ∈ r.filter (keyT d i) := by rw [e]; exact List.mem_cons_self
   have hv := List.mem_filter.1 hv
   have : q.filter (keyT d i) = [] := flt_no (fun u hu => by
    have h1 := h3 v hv.1 u hu
    have hk := hv.2
    rw [ltT_iff] at h1
    rw [keyT_iff] at hk
    rw [keyT_no]
    omega)
   rw [this]
   simp
theorem mem_take {l : List Tmr} {k : Nat} {t : Tmr} (h : t ∈ l.take k) : ∃ i, i < k ∧ l[i]? = some t := take_lt h
theorem mem_drop {l : List Tmr} {k : Nat} {t : Tmr} (h : t ∈ l.drop k) : ∃ i, k ≤ i ∧ l[i]? = some t := by
 obtain ⟨i, hi⟩ := List.getElem?_of_mem h
 rw [List.getElem?_drop] at hi
 exact ⟨k + i, by omega, hi⟩
theorem bound_a {U V : List Tmr} (hU : SortedT U) (hV : SortedT V) {s e : Nat} (he : e ≤ V.length) (hs : ∀ v u, V[e - 1]? = some v → U[s]? = some u → 0 < e → ltT v u = true) : ∀ v, v ∈ V.take e → ∀ u, u ∈ U.drop s → ltT v u = true := fun v hv u hu => by
 obtain ⟨a, ha, hva⟩ := mem_take hv
 obtain ⟨b, hb, hub⟩ := mem_drop hu
 have lb := (List.getElem?_eq_some_iff.1 hub).1
 obtain ⟨v', hv'⟩ : ∃ v', V[e - 1]? = some v' := ⟨_, List.getElem?_eq_getElem (by omega)⟩
 obtain ⟨u', hu'⟩ : ∃ u', U[s]? = some u' := ⟨_, List.getElem?_eq_getElem (by omega)⟩
 have h1 := hs v' u' hv' hu' (by omega)
 have h2 := sorted_at hV hva hv' (by omega)
 have h3 := sorted_at hU hu' hub hb
 rw [ltT_iff] at h1 ⊢
 rw [ltT_no] at h2 h3
 omega
theorem bound_b {U V : List Tmr} (hU : SortedT U) (hV : SortedT V) {s e : Nat} (hs0 : s ≤ U.length) (hs : ∀ v u, V[e]? = some v → U[s - 1]? = some u → 0 < s → ltT v u = false) : ∀ v, v ∈ V.drop e → ∀ u, u ∈ U.take s → ltT v u = false := fun v hv u hu => by
 obtain ⟨a, ha, hva⟩ := mem_drop hv
 obtain ⟨b, hb, hub⟩ := mem_take hu
 have la := (List.getElem?_eq_some_iff.1 hva).1
 obtain ⟨v', hv'⟩ : ∃ v', V[e]? = some v' := ⟨_, List.getElem?_eq_getElem (by omega)⟩
 obtain ⟨u', hu'⟩ : ∃ u', U[s - 1]? = some u' := ⟨_, List.getElem?_eq_getElem (by omega)⟩
 have h1 := hs v' u' hv' hu' (by omega)
 have h2 := sorted_at hV hv' hva ha
 have h3 := sorted_at hU hub hu' (by omega)
 rw [ltT_no] at h1 h2 h3 ⊢
 omega
end Go.Proofs.Ytfaclpcdeflgfaa
