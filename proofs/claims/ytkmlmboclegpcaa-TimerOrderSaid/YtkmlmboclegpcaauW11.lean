/- uA16, uA17, uA26. -/
import Derived.Test.YtkmlmboclegpcaaW1
import Derived.Test.YtkmlmboclegpcaaW2
import Derived.Test.YtkmlmboclegpcaaW3
import Derived.Test.YtkmlmboclegpcaaW4
import Derived.Test.YtkmlmboclegpcaauW5
import Derived.Test.YtkmlmboclegpcaauW6
import Derived.Test.YtkmlmboclegpcaauW7
import Derived.Test.YtkmlmboclegpcaauW8
import Derived.Test.YtkmlmboclegpcaauW9
import Derived.Test.YtkmlmboclegpcaauW10
set_option linter.unusedVariables false
set_option linter.unusedSimpArgs false
namespace Go.Proofs.Ytkmlmboclegpcaa
open Go Go.RowKit
set_option maxRecDepth 100000
theorem flt_no {p : Tmr → Bool} {l : List Tmr} (h : ∀ t, t ∈ l → p t = false) : l.filter p = [] := List.filter_eq_nil_iff.2 (fun t ht => by rw [h t ht]; decide)
attribute [local irreducible] Decidable.decide awp ARun regK toK zW zBig28 dueB
end Go.Proofs.Ytkmlmboclegpcaa
namespace Go.Proofs.Ytkmlmboclegpcaa
open Go Go.RowKit
set_option maxRecDepth 100000
theorem mem_sortT {l : List Tmr} {t : Tmr} : t ∈ sortT l ↔ t ∈ l := by
 constructor
 ·intro h
  exact mem_of_filter (sortT_filter l) h
 ·intro h
  exact mem_of_filter (fun d i => (sortT_filter l d i).symm) h
theorem take_lt {l : List Tmr} {k : Nat} {t : Tmr} (h : t ∈ l.take k) : ∃ i, i < k ∧ l[i]? = some t := by
 obtain ⟨i, hi⟩ := List.getElem?_of_mem h
 rw [List.getElem?_take] at hi
 split at hi
 ·rename_i q
  exact ⟨i, q, hi⟩
 ·cases hi
end Go.Proofs.Ytkmlmboclegpcaa
namespace Go.Proofs.Ytkmlmboclegpcaa
open Go Go.RowKit
set_option maxRecDepth 100000
theorem drop_c {l : List Tmr} {k : Nat} {x : Tmr} (h : l[k]? = some x) : l.drop k = x :: l.drop (k + 1) := by
 have hl := (List.getElem?_eq_some_iff.1 h).1
 rw [List.drop_eq_getElem_cons hl]
 rw [List.getElem?_eq_getElem hl] at h
 rw [Option.some.inj h]
attribute [local irreducible] Decidable.decide awp ARun regK toK
set_option maxHeartbeats 8000000 in
theorem swap_l (A X C Y R : List Tmr) (n : Nat) (hxy : X.length = Y.length) (hn : n = A.length + (X.length + (C.length + (Y.length + R.length)))) (hb : n ≤ 1000000) : FnL Try.prog 76 [.own 1000 0 0 n, .val (.int .i64 (A.length : Nat)), .val (.int .i64 ((A.length + X.length + C.length : Nat) : Int)), .val (.int .i64 (X.length : Nat)), .val (.func (.func 62) #[] #[])] [(6, (A ++ (X ++ (C ++ (Y ++ R)))).map encTm)] (.tup []) [(A ++ (Y ++ (C ++ (X ++ R)))).map encTm] := by
 refine FnL.of_awp (T := tt) (ok := tok) Try.func76 (by kernel_rfl) rfl (by kernel_rfl) (by kernel_rfl) (fun w0 st0 lent c0 => ?_)
 dsimp only [frOf, hpFrom, List.length_cons, List.length_nil]
 (repeat' (first | refine goA ?_ | refine awp_skip ?_ | refine goB ?_ | fail))
 refine awp_loopT (T := Nat × List Tmr × Nat) (fun t => ⟨[(0, .own 1000 0 0 n), (1, .val (.int .i64 (A.length : Nat))), (2, .val (.int .i64 ((A.length + X.length + C.length : Nat) : Int))), (3, .val (.int .i64 (X.length : Nat))), (10, .val (.int .i64 (t.1 : Nat)))], [(1000, some ⟨0, 6, t.2.1.map encTm⟩)], t.2.2⟩) (fun t => t.1 ≤ X.length ∧ t.2.1 = A ++ ((Y.take t.1 ++ X.drop t.1) ++ (C ++ ((X.take t.1 ++ Y.drop t.1) ++ R)))) (fun t => X.length - t.1) (0, A ++ (X ++ (C ++ (Y ++ R))), _) ⟨Nat.zero_le _, rfl⟩ ⟨⟨rfl, rfl, rfl, rfl, rfl, trivial⟩, ⟨rfl, trivial⟩, Nat.le_refl _⟩ (fun t ht => ?_)
 obtain ⟨i, L, gc⟩ := t
 dsimp only at ht ⊢
 obtain ⟨hi, hL⟩ := ht
 by_cases hlt : i < X.length
 ·have d1 : decide (((i : Nat) : Int) < (X.length : Nat)) = true := decide_eq_true (by omega)
  obtain ⟨x, hx⟩ : ∃ x, X[i]? = some x := ⟨_, List.getElem?_eq_getElem hlt⟩
  obtain ⟨y, hy⟩ : ∃ y, Y[i]? = some y := ⟨_, List.getElem?_eq_getElem (by omega)⟩
  have hdx := drop_c hx
  have hdy := drop_c hy
  have htx := take_succ' hx
  have hty := take_succ' hy
  have l1 : (X.take i).length = i := by rw [List.length_take]; omega
  have l2 : (Y.take i).length = i := by rw [List.length_take]; omega
  have l3 : (X.drop (i + 1)).length = X.length - (i + 1) := List.length_drop
  have l4 : (Y.drop (i + 1)).length = Y.length - (i + 1) := List.length_drop
  rw [hdx, hdy] at hL
  have eL : L = (A ++ Y.take i) ++ x :: (X.drop (i + 1) ++ (C ++ ((X.take i ++ y :: Y.drop (i + 1)) ++ R))) := by rw [hL]; simp
  have eL' : L = (A ++ (Y.take i ++ (x :: (X.drop (i + 1) ++ (C ++ X.take i))))) ++ y :: (Y.drop (i + 1) ++ R) := by rw [hL]; simp
  have e3 : (A ++ Y.take i) ++ y :: (X.drop (i + 1) ++ (C ++ ((X.take i ++ y :: Y.drop (i + 1)) ++ R))) = (A ++ (Y.take i ++ (y :: (X.drop (i + 1) ++ (C ++ X.take i))))) ++ y :: (Y.drop (i + 1) ++ R) := by simp
  have k1 : (A ++ Y.take i).length = A.length + i := by rw [List.length_append, l2]
  have k2 : ∀ z : Tmr, (A ++ (Y.take i ++ (z :: (X.drop (i + 1) ++ (C ++ X.take i))))).length = A.length + X.length + C.length + i := fun z => by simp only [List.length_append, List.length_cons, l1, l2, l3]; omega
  have hLl : L.length = n := by rw [eL']; simp only [List.length_append, List.length_cons, l1, l2, l3, l4]; omega
  have gx : (L.map encTm)[0 + ((A.length + X.length + C.length : Nat) + ((i : Nat) : Int)).toNat]? = some (encTm y) := map_at (by rw [eL']; exact mid_get _ _ _ (by rw [k2]; omega))
  have gy : (L.map encTm)[0 + ((A.length : Nat) + ((i : Nat) : Int)).toNat]? = some (encTm x) := map_at (by rw [eL]; exact mid_get _ _ _ (by rw [k1]; omega))
  have hk : 0 + ((A.length : Nat) + ((i : Nat) : Int)).toNat < (L.map encTm).length := by rw [List.length_map, hLl]; omega
  have s1 : (L.map encTm).set (0 + ((A.length : Nat) + ((i : Nat) : Int)).toNat) (encTm y) = ((A ++ (Y.take i ++ (y :: (X.drop (i + 1) ++ (C ++ X.take i))))) ++ y :: (Y.drop (i + 1) ++ R)).map encTm := map_set' (by rw [eL, mid_set _ _ _ _ (by rw [k1]; omega), e3])
  have s2 : (((A ++ (Y.take i ++ (y :: (X.drop (i + 1) ++ (C ++ X.take i))))) ++ y :: (Y.drop (i + 1) ++ R)).map encTm).set (0 + ((A.length + X.length + C.length : Nat) + ((i : Nat) : Int)).toNat) (encTm x) = ((A ++ (Y.take i ++ (y :: (X.drop (i + 1) ++ (C ++ X.take i))))) ++ x :: (Y.drop (i + 1) ++ R)).map encTm := map_set' (mid_set _ _ _ _ (by rw [k2]; omega))
  have hk' : 0 + ((A.length + X.length + C.length : Nat) + ((i : Nat) : Int)).toNat < (((A ++ (Y.take i ++ (y :: (X.drop (i + 1) ++ (C ++ X.take i))))) ++ y :: (Y.drop (i + 1) ++ R)).map encTm).length := by rw [List.length_map, List.length_append, k2, List.length_cons]; omega
  (repeat' (first | refine goA ?_ | refine ARun.indexAddr_own rfl rfl rfl rfl (by omega) (by omega) rfl rfl rfl rfl rfl (guardF_spec rfl) ?_ | refine ARun.loadAgg rfl rfl rfl (by first | exact gx | exact gy) rfl rfl rfl rfl (guardF_spec rfl) ?_ | refine ARun.storeEl rfl rfl rfl hk (map_len (fun _ => rfl)) rfl rfl rfl rfl rfl s1 (guardF_spec rfl) ?_ | refine ARun.storeEl rfl rfl rfl hk' (map_len (fun _ => rfl)) rfl rfl rfl rfl rfl s2 (guardF_spec rfl) ?_ | refine goB ?_ | fail))
  refine ⟨(i + 1, (A ++ (Y.take i ++ (y :: (X.drop (i + 1) ++ (C ++ X.take i))))) ++ x :: (Y.drop (i + 1) ++ R), _), ⟨⟨rfl, rfl, rfl, rfl, rfl, trivial⟩, ⟨rfl, trivial⟩, Nat.le_refl _⟩, ⟨hlt, ?_⟩, (by dsimp only; omega)⟩
  dsimp only
  rw [htx, hty]
  simp
 ·have d1 : decide (((i : Nat) : Int) < (X.length : Nat)) = false := decide_eq_false (by omega)
  have hfin : L = A ++ (Y ++ (C ++ (X ++ R))) := by rw [hL, List.take_of_length_le (by omega), List.drop_of_length_le (by omega), List.take_of_length_le (by omega), List.drop_of_length_le (by omega), List.append_nil, List.append_nil]
  rw [← hfin]
  (repeat' (first | refine goA ?_ | refine awp_skip ?_ | refine goB ?_ | fail))
  exact ⟨_, ResL.nil, rfl, ⟨_, rfl, RlR.closed (rows_closed L)⟩, trivial⟩
end Go.Proofs.Ytkmlmboclegpcaa
