/- uA30, uA31, uA32. -/
import Derived.Test.YtkmlmboclegpcaaW1
import Derived.Test.YtkmlmboclegpcaaW2
import Derived.Test.YtkmlmboclegpcaaW3
import Derived.Test.YtkmlmboclegpcaaW4
import Derived.Test.YtkmlmboclegpcaauW5
import Derived.Test.YtkmlmboclegpcaauW6
import Derived.Test.YtkmlmboclegpcaauW7
import Derived.Test.YtkmlmboclegpcaauW8
import Derived.Test.YtkmlmboclegpcaauW9
import Derived.Test.YtkmlmboclegpcaauW10
import Derived.Test.YtkmlmboclegpcaauW11
import Derived.Test.YtkmlmboclegpcaauW12
set_option linter.unusedVariables false
set_option linter.unusedSimpArgs false
namespace Go.Proofs.Ytkmlmboclegpcaa
open Go Go.RowKit
set_option maxRecDepth 100000
attribute [local irreducible] Decidable.decide awp ARun regK toK
set_option maxHeartbeats 8000000 in
theorem sm2_l (A U R : List Tmr) (x : Tmr) (n : Nat) (hu : 2 ≤ U.length) (hU : SortedT U) (hn : n = A.length + (U.length + (1 + R.length))) (hb : n ≤ 1000000) : FnL Try.prog 73 [.own 1000 0 0 n, .val (.int .i64 (A.length : Nat)), .val (.int .i64 ((A.length + U.length : Nat) : Int)), .val (.int .i64 ((A.length + U.length + 1 : Nat) : Int)), .val (.func (.func 62) #[] #[])] [(6, (A ++ (U ++ x :: R)).map encTm)] (.tup []) [(A ++ (sortT (U ++ [x]) ++ R)).map encTm] := by
 have d1 : (((A.length + U.length : Nat) : Int) - (A.length : Nat) == 1) = false := beq_eq_false_iff_ne.2 (by omega)
 have d0 : (((A.length + U.length + 1 : Nat) : Int) - ((A.length + U.length : Nat) : Int) == 1) = true := beq_iff_eq.2 (by omega)
 refine FnL.of_awp (T := tt) (ok := tok) Try.func73 (by kernel_rfl) rfl (by kernel_rfl) (by kernel_rfl) (fun w0 st0 lent c0 => ?_)
 dsimp only [frOf, hpFrom, List.length_cons, List.length_nil]
 (repeat' (first | refine goA ?_ | refine awp_skip ?_ | refine goB ?_ | fail))
 refine awp_loopT (T := Nat × Nat × Nat) (fun t => ⟨[(0, .own 1000 0 0 n), (2, .val (.int .i64 ((A.length + U.length : Nat) : Int))), (4, .val (.func (.func 62) #[] #[])), (14, .val (.int .i64 ((A.length + t.1 : Nat) : Int))), (15, .val (.int .i64 ((A.length + t.2.1 : Nat) : Int)))], [(1000, some ⟨0, 6, (A ++ (U ++ x :: R)).map encTm⟩)], t.2.2⟩) (fun t => t.1 ≤ t.2.1 ∧ t.2.1 ≤ U.length ∧ (∀ v, U[t.1 - 1]? = some v → 0 < t.1 → ltT x v = false) ∧ (∀ v, U[t.2.1]? = some v → ltT x v = true)) (fun t => t.2.1 - t.1) (0, U.length, _) ⟨Nat.zero_le _, Nat.le_refl _, fun v _ h => absurd h (by omega), fun v h => by rw [List.getElem?_eq_none (Nat.le_refl _)] at h; cases h⟩ ⟨⟨rfl, rfl, rfl, rfl, rfl, trivial⟩, ⟨rfl, trivial⟩, Nat.le_refl _⟩ (fun t ht => ?_)
 obtain ⟨i, j, gc⟩ := t
 dsimp only at ht ⊢
 obtain ⟨hij, hj, h1, h2⟩ := ht
 clear d1 d0
 by_cases hlt : i < j
 ·have d2 : decide (((A.length + i : Nat) : Int) < ((A.length + j : Nat) : Int)) = true := decide_eq_true (by omega)
  obtain ⟨h, hh⟩ : ∃ h, h = (A.length + i + (A.length + j)) / 2 - A.length := ⟨_, rfl⟩
  have hsh : BinR Try.prog .shr 136 (.int .u64 (((A.length + i : Nat) : Int) + ((A.length + j : Nat) : Int))) (.int .u64 1) (.int .u64 ((A.length + h : Nat) : Int)) := bin_half (by omega) (by omega)
  have hw1 : IntKind.u64.wrap (((A.length + i : Nat) : Int) + ((A.length + j : Nat) : Int)) = ((A.length + i : Nat) : Int) + ((A.length + j : Nat) : Int) := u64_id (by omega) (by omega)
  have hhl : h < U.length := by omega
  obtain ⟨v, hvh⟩ : ∃ v, U[h]? = some v := ⟨_, List.getElem?_eq_getElem hhl⟩
  have gx : ((A ++ (U ++ x :: R)).map encTm)[0 + ((A.length + h : Nat) : Int).toNat]? = some (encTm v) := map_at (by
   rw [List.getElem?_append_right (by omega), show 0 + ((A.length + h : Nat) : Int).toNat - A.length = h by omega, List.getElem?_append_left hhl, hvh])
  have gy : ((A ++ (U ++ x :: R)).map encTm)[0 + ((A.length + U.length : Nat) : Int).toNat]? = some (encTm x) := map_at (by
   rw [← List.append_assoc]
   exact mid_get _ _ _ (by rw [List.length_append]; omega))
  have c1 := order_c x v
  have d3 := ordI_lt x v
  cases hb2 : ltT x v with
  | false =>
   rw [hb2] at d3
   have d4 : (!decide (ordI x v < 0)) = true := by rw [d3]; rfl
   (repeat' (first | refine ARun.bin rfl rfl hsh rfl (guardF_spec rfl) ?_ | refine convE hw1 rfl rfl rfl rfl rfl (guardF_spec rfl) ?_ | refine goA ?_ | refine cX c1 ?_ | refine ARun.indexAddr_own rfl rfl rfl rfl (by omega) (by omega) rfl rfl rfl rfl rfl (guardF_spec rfl) ?_ | refine ARun.loadAgg rfl rfl rfl (by first | exact gx | exact gy) rfl rfl rfl rfl (guardF_spec rfl) ?_ | refine goB ?_ | fail))
   refine ⟨(h + 1, j, _), ⟨⟨rfl, rfl, rfl, rfl, rfl, trivial⟩, ⟨rfl, trivial⟩, Nat.le_refl _⟩, ⟨by dsimp only; omega, hj, fun u hu _ => ?_, h2⟩, (by dsimp only; omega)⟩
   dsimp only at hu
   rw [Nat.add_sub_cancel, hvh] at hu
   rw [← Option.some.inj hu]
   exact hb2
  | true =>
   rw [hb2] at d3
   have d4 : (!decide (ordI x v < 0)) = false := by rw [d3]; rfl
   (repeat' (first | refine ARun.bin rfl rfl hsh rfl (guardF_spec rfl) ?_ | refine convE hw1 rfl rfl rfl rfl rfl (guardF_spec rfl) ?_ | refine goA ?_ | refine cX c1 ?_ | refine ARun.indexAddr_own rfl rfl rfl rfl (by omega) (by omega) rfl rfl rfl rfl rfl (guardF_spec rfl) ?_ | refine ARun.loadAgg rfl rfl rfl (by first | exact gx | exact gy) rfl rfl rfl rfl (guardF_spec rfl) ?_ | refine goB ?_ | fail))
   refine ⟨(i, h, _), ⟨⟨rfl, rfl, rfl, rfl, rfl, trivial⟩, ⟨rfl, trivial⟩, Nat.le_refl _⟩, ⟨by dsimp only; omega, by dsimp only; omega, h1, fun u hu => ?_⟩, (by dsimp only; omega)⟩
   dsimp only at hu
   rw [hvh] at hu
   rw [← Option.some.inj hu]
   exact hb2
 have d2 : decide (((A.length + i : Nat) : Int) < ((A.length + j : Nat) : Int)) = false := decide_eq_false (by omega)
 obtain rfl : i = j := by omega
 obtain ⟨p, q, rfl, hp⟩ : ∃ p q, U = p ++ q ∧ p.length = i := ⟨U.take i, U.drop i, (List.take_append_drop _ _).symm, by rw [List.length_take]; omega⟩
 have hp1 : ∀ v, p.getLast? = some v → ltT x v = false := fun v hv => by
  rcases snoc_or p with rfl | ⟨p', y, rfl⟩
  ·cases hv
  ·rw [List.getLast?_append, List.getLast?_singleton] at hv
   have hv : y = v := by simpa using hv
   subst hv
   rw [List.length_append] at hp
   have hp : p'.length + 1 = i := hp
   refine h1 y ?_ (by omega)
   rw [List.append_assoc, List.getElem?_append_right (by omega), show i - 1 - p'.length = 0 by omega]
   rfl
 have hq1 : ∀ v, v ∈ q → ltT x v = true := fun v hv => by
  obtain ⟨a, ha⟩ := List.getElem?_of_mem hv
  have hva : (p ++ q)[i + a]? = some v := by rw [List.getElem?_append_right (by omega), show i + a - p.length = a by omega, ha]
  have la := (List.getElem?_eq_some_iff.1 hva).1
  obtain ⟨w, hw⟩ : ∃ w, (p ++ q)[i]? = some w := ⟨_, List.getElem?_eq_getElem (by omega)⟩
  have g1 := h2 w hw
  have g2 := sorted_at hU hw hva (by omega)
  rw [ltT_no] at g2
  rw [ltT_iff] at g1 ⊢
  omega
 rw [sortT_snoc, sortT_id hU, insT_at hU hp1 hq1]
 clear h1 h2 hp1 hq1 hU
 rw [List.length_append] at hn
 have hz0 : ((A.length + (p ++ q).length : Nat) : Int) = ((A.length + i + q.length : Nat) : Int) := by rw [List.length_append]; omega
 (repeat' (first | refine goA ?_ | refine goB ?_ | fail))
 refine awp_loopT (T := Nat × List Tmr × Int × Nat) (fun t => ⟨[(0, .own 1000 0 0 n), (14, .val (.int .i64 ((A.length + i : Nat) : Int))), (17, .val (.int .i64 t.2.2.1))], [(1000, some ⟨0, 6, t.2.1.map encTm⟩)], t.2.2.2⟩) (fun t => t.1 ≤ q.length ∧ t.2.1 = A ++ (p ++ (q.take t.1 ++ x :: (q.drop t.1 ++ R))) ∧ t.2.2.1 = ((A.length + i + t.1 : Nat) : Int)) (fun t => t.1) (q.length, A ++ ((p ++ q) ++ x :: R), _, _) ⟨Nat.le_refl _, by simp, hz0⟩ ⟨⟨rfl, rfl, rfl, trivial⟩, ⟨rfl, trivial⟩, Nat.le_refl _⟩ (fun t ht => ?_)
 obtain ⟨k, L, z, gc⟩ := t
 dsimp only at ht ⊢
 obtain ⟨hkq, hL, hz⟩ := ht
 clear d2
 rcases k with _ | k
 ·have d2 : decide (((A.length + i : Nat) : Int) < z) = false := decide_eq_false (by omega)
  have hfin : L = A ++ ((p ++ x :: q) ++ R) := by rw [hL]; simp
  rw [← hfin]
  (repeat' (first | refine goA ?_ | refine awp_skip ?_ | refine goB ?_ | fail))
  exact awp_ret ⟨_, ResL.nil, rfl, ⟨_, rfl, RlR.closed (rows_closed L)⟩, trivial⟩
 ·have d2 : decide (((A.length + i : Nat) : Int) < z) = true := decide_eq_true (by omega)
  obtain ⟨v, hv⟩ : ∃ v, q[k]? = some v := ⟨_, List.getElem?_eq_getElem (by omega)⟩
  have hdv := drop_c hv
  have htv := take_succ' hv
  have l1 : (q.take k).length = k := by rw [List.length_take]; omega
  have l2 : (q.drop (k + 1)).length = q.length - (k + 1) := List.length_drop
  rw [htv] at hL
  have eL : L = (A ++ (p ++ q.take k)) ++ v :: (x :: (q.drop (k + 1) ++ R)) := by rw [hL]; simp
  have eL' : L = (A ++ (p ++ (q.take k ++ [v]))) ++ x :: (q.drop (k + 1) ++ R) := by rw [hL]; simp
  have k1 : (A ++ (p ++ q.take k)).length = A.length + i + k := by simp only [List.length_append, l1]; omega
  have k2 : ∀ z : Tmr, (A ++ (p ++ (q.take k ++ [z]))).length = A.length + i + k + 1 := fun z => by simp only [List.length_append, List.length_cons, List.length_nil, l1]; omega
  have hLl : L.length = n := by rw [eL']; simp only [List.length_append, List.length_cons, List.length_nil, l1, l2]; omega
  have gx : (L.map encTm)[0 + (z - 1).toNat]? = some (encTm v) := map_at (by rw [eL]; exact mid_get _ _ _ (by rw [k1]; omega))
  have gy : (L.map encTm)[0 + z.toNat]? = some (encTm x) := map_at (by rw [eL']; exact mid_get _ _ _ (by rw [k2]; omega))
  have hk : 0 + z.toNat < (L.map encTm).length := by rw [List.length_map, hLl]; omega
  have e3 : (A ++ (p ++ (q.take k ++ [v]))) ++ v :: (q.drop (k + 1) ++ R) = (A ++ (p ++ q.take k)) ++ v :: (v :: (q.drop (k + 1) ++ R)) := by simp
  have s1 : (L.map encTm).set (0 + z.toNat) (encTm v) = ((A ++ (p ++ q.take k)) ++ v :: (v :: (q.drop (k + 1) ++ R))).map encTm := map_set' (by rw [eL', mid_set _ _ _ _ (by rw [k2]; omega), e3])
  have s2 : (((A ++ (p ++ q.take k)) ++ v :: (v :: (q.drop (k + 1) ++ R))).map encTm).set (0 + (z - 1).toNat) (encTm x) = ((A ++ (p ++ q.take k)) ++ x :: (v :: (q.drop (k + 1) ++ R))).map encTm := map_set' (mid_set _ _ _ _ (by rw [k1]; omega))
  have hk' : 0 + (z - 1).toNat < (((A ++ (p ++ q.take k)) ++ v :: (v :: (q.drop (k + 1) ++ R))).map encTm).length := by rw [List.length_map, List.length_append, k1, List.length_cons]; omega
  (repeat' (first | refine goA ?_ | refine ARun.indexAddr_own rfl rfl rfl rfl (by omega) (by omega) rfl rfl rfl rfl rfl (guardF_spec rfl) ?_ | refine ARun.loadAgg rfl rfl rfl (by first | exact gx | exact gy) rfl rfl rfl rfl (guardF_spec rfl) ?_ | refine ARun.storeEl rfl rfl rfl hk (map_len (fun _ => rfl)) rfl rfl rfl rfl rfl s1 (guardF_spec rfl) ?_ | refine ARun.storeEl rfl rfl rfl hk' (map_len (fun _ => rfl)) rfl rfl rfl rfl rfl s2 (guardF_spec rfl) ?_ | refine goB ?_ | fail))
  refine ⟨(k, (A ++ (p ++ q.take k)) ++ x :: (v :: (q.drop (k + 1) ++ R)), _, _), ⟨⟨rfl, rfl, rfl, trivial⟩, ⟨rfl, trivial⟩, Nat.le_refl _⟩, ⟨by dsimp only; omega, ?_, by dsimp only; omega⟩, (by dsimp only; omega)⟩
  dsimp only
  rw [hdv]
  simp
end Go.Proofs.Ytkmlmboclegpcaa
namespace Go.Proofs.Ytkmlmboclegpcaa
open Go Go.RowKit
set_option maxRecDepth 100000
attribute [local irreducible] Decidable.decide awp ARun regK toK
def SmOk (z : Nat) : Prop := ∀ (A U V R : List Tmr) (n : Nat), 0 < U.length → 0 < V.length → U.length + V.length ≤ z → SortedT U → SortedT V → n = A.length + (U.length + (V.length + R.length)) → n ≤ 1000000 → FnL Try.prog 73 [.own 1000 0 0 n, .val (.int .i64 (A.length : Nat)), .val (.int .i64 ((A.length + U.length : Nat) : Int)), .val (.int .i64 ((A.length + U.length + V.length : Nat) : Int)), .val (.func (.func 62) #[] #[])] [(6, (A ++ (U ++ (V ++ R))).map encTm)] (.tup []) [(A ++ (sortT (U ++ V) ++ R)).map encTm]
theorem app_get {l r : List Tmr} {i : Nat} {x : Tmr} (h : l[i]? = some x) : (l ++ r)[i]? = some x := by
 rw [List.getElem?_append_left (List.getElem?_eq_some_iff.1 h).1, h]
theorem app_get2 {l r : List Tmr} {i j : Nat} {x : Tmr} (h : r[i]? = some x) (hj : j = l.length + i) : (l ++ r)[j]? = some x := by
 rw [List.getElem?_append_right (by omega), show j - l.length = i by omega, h]
set_option maxHeartbeats 32000000 in
theorem sm3_l {z : Nat} (ih : SmOk z) (A U V R : List Tmr) (n : Nat) (hu : 2 ≤ U.length) (hv : 2 ≤ V.length) (hz : U.length + V.length ≤ z + 1) (hU : SortedT U) (hV : SortedT V) (hn : n = A.length + (U.length + (V.length + R.length))) (hb : n ≤ 1000000) : FnL Try.prog 73 [.own 1000 0 0 n, .val (.int .i64 (A.length : Nat)), .val (.int .i64 ((A.length + U.length : Nat) : Int)), .val (.int .i64 ((A.length + U.length + V.length : Nat) : Int)), .val (.func (.func 62) #[] #[])] [(6, (A ++ (U ++ (V ++ R))).map encTm)] (.tup []) [(A ++ (sortT (U ++ V) ++ R)).map encTm] := by
 have d1 : (((A.length + U.length : Nat) : Int) - (A.length : Nat) == 1) = false := beq_eq_false_iff_ne.2 (by omega)
 have d0 : (((A.length + U.length + V.length : Nat) : Int) - ((A.length + U.length : Nat) : Int) == 1) = false := beq_eq_false_iff_ne.2 (by omega)
 obtain ⟨h, hh⟩ : ∃ h, h = (U.length + V.length) / 2 := ⟨_, rfl⟩
 have hsh : BinR Try.prog .shr 136 (.int .u64 (((A.length : Nat) : Int) + ((A.length + U.length + V.length : Nat) : Int))) (.int .u64 1) (.int .u64 ((A.length + h : Nat) : Int)) := bin_half (by omega) (by omega)
 have hw1 : IntKind.u64.wrap (((A.length : Nat) : Int) + ((A.length + U.length + V.length : Nat) : Int)) = ((A.length : Nat) : Int) + ((A.length + U.length + V.length : Nat) : Int) := u64_id (by omega) (by omega)
 refine FnL.of_awp (T := tt) (ok := tok) Try.func73 (by kernel_rfl) rfl (by kernel_rfl) (by kernel_rfl) (fun w0 st0 lent c0 => ?_)
 dsimp only [frOf, hpFrom, List.length_cons, List.length_nil]
 (repeat' (first | refine ARun.bin rfl rfl hsh rfl (guardF_spec rfl) ?_ | refine convE hw1 rfl rfl rfl rfl rfl (guardF_spec rfl) ?_ | refine goA ?_ | refine awp_skip ?_ | refine goB ?_ | fail))
 refine awp_cut (T := Nat × Nat × Int × Int × Nat) (fun t => ⟨[(0, .own 1000 0 0 n), (1, .val (.int .i64 (A.length : Nat))), (2, .val (.int .i64 ((A.length + U.length : Nat) : Int))), (3, .val (.int .i64 ((A.length + U.length + V.length : Nat) : Int))), (4, .val (.func (.func 62) #[] #[])), (18, .val (.int .i64 ((A.length + h : Nat) : Int))), (19, .val (.int .i64 (((A.length + h : Nat) : Int) + ((A.length + U.length : Nat) : Int)))), (20, .val (.int .i64 t.2.2.1)), (21, .val (.int .i64 t.2.2.2.1))], [(1000, some ⟨0, 6, (A ++ (U ++ (V ++ R))).map encTm⟩)], t.2.2.2.2⟩) (fun t => t.2.2.1 = ((A.length + t.1 : Nat) : Int) ∧ t.2.2.2.1 = ((A.length + t.2.1 : Nat) : Int) ∧ t.1 ≤ t.2.1 ∧ t.2.1 ≤ h ∧ t.2.1 ≤ U.length ∧ h ≤ V.length + t.1 ∧ (t.1 = 0 ∨ t.1 + V.length = h) ∧ (t.2.1 = h ∨ t.2.1 = U.length)) ?_ (fun t ht => ?_)
 ·by_cases hp : h < U.length
  ·have d2 : decide (((A.length + h : Nat) : Int) < ((A.length + U.length : Nat) : Int)) = true := decide_eq_true (by omega)
   (repeat' (first | refine goA ?_ | refine goB ?_ | fail))
   exact ⟨(h - V.length, h, _, _, _), ⟨⟨rfl, rfl, rfl, rfl, rfl, rfl, rfl, rfl, rfl, trivial⟩, ⟨rfl, trivial⟩, Nat.le_refl _⟩, by dsimp only; omega, rfl, by dsimp only; omega, by dsimp only; omega, by dsimp only; omega, by dsimp only; omega, by dsimp only; omega, by dsimp only; omega⟩
  ·have d2 : decide (((A.length + h : Nat) : Int) < ((A.length + U.length : Nat) : Int)) = false := decide_eq_false (by omega)
   (repeat' (first | refine goA ?_ | refine goB ?_ | fail))
   exact ⟨(0, U.length, _, _, _), ⟨⟨rfl, rfl, rfl, rfl, rfl, rfl, rfl, rfl, rfl, trivial⟩, ⟨rfl, trivial⟩, Nat.le_refl _⟩, rfl, rfl, by dsimp only; omega, by dsimp only; omega, by dsimp only; omega, by dsimp only; omega, by dsimp only; omega, by dsimp only; omega⟩
 obtain ⟨s0, r0, zs0, zr0, gc0⟩ := t
 dsimp only at ht ⊢
 obtain ⟨hzs0, hzr0, h1, h2, h3, h4, h5, h6⟩ := ht
 clear hsh hw1 d1 d0
 (repeat' (first | refine goA ?_ | refine awp_skip ?_ | refine goB ?_ | fail))
 refine awp_loopT (T := Nat × Nat × Int × Int × Nat) (fun t => ⟨[(0, .own 1000 0 0 n), (1, .val (.int .i64 (A.length : Nat))), (2, .val (.int .i64 ((A.length + U.length : Nat) : Int))), (3, .val (.int .i64 ((A.length + U.length + V.length : Nat) : Int))), (4, .val (.func (.func 62) #[] #[])), (18, .val (.int .i64 ((A.length + h : Nat) : Int))), (19, .val (.int .i64 (((A.length + h : Nat) : Int) + ((A.length + U.length : Nat) : Int)))), (20, .val (.int .i64 t.2.2.1)), (21, .val (.int .i64 t.2.2.2.1)), (22, .val (.int .i64 (((A.length + h : Nat) : Int) + ((A.length + U.length : Nat) : Int) - 1)))], [(1000, some ⟨0, 6, (A ++ (U ++ (V ++ R))).map encTm⟩)], t.2.2.2.2⟩) (fun t => t.2.2.1 = ((A.length + t.1 : Nat) : Int) ∧ t.2.2.2.1 = ((A.length + t.2.1 : Nat) : Int) ∧ t.1 ≤ t.2.1 ∧ s0 ≤ t.1 ∧ t.2.1 ≤ r0 ∧ (∀ v u, V[h - t.1]? = some v → U[t.1 - 1]? = some u → s0 < t.1 → ltT v u = false) ∧ (∀ v u, V[h - 1 - t.2.1]? = some v → U[t.2.1]? = some u → t.2.1 < r0 → ltT v u = true)) (fun t => t.2.1 - t.1) (s0, r0, zs0, zr0, _) ⟨hzs0, hzr0, h1, Nat.le_refl _, Nat.le_refl _, fun v u _ _ h => absurd h (Nat.lt_irrefl _), fun v u _ _ h => absurd h (Nat.lt_irrefl _)⟩ ⟨⟨rfl, rfl, rfl, rfl, rfl, rfl, rfl, rfl, rfl, rfl, trivial⟩, ⟨rfl, trivial⟩, Nat.le_refl _⟩ (fun t ht => ?_)
 obtain ⟨s, r, zs, zr, gc⟩ := t
 dsimp only at ht ⊢
 obtain ⟨rfl, rfl, hsr, hs0, hr0, k1, k2⟩ := ht
 by_cases hlt : s < r
 ·have d2 : decide (((A.length + s : Nat) : Int) < ((A.length + r : Nat) : Int)) = true := decide_eq_true (by omega)
  obtain ⟨c, hc⟩ : ∃ c, c = (A.length + s + (A.length + r)) / 2 - A.length := ⟨_, rfl⟩
  have hsh : BinR Try.prog .shr 136 (.int .u64 (((A.length + s : Nat) : Int) + ((A.length + r : Nat) : Int))) (.int .u64 1) (.int .u64 ((A.length + c : Nat) : Int)) := bin_half (by omega) (by omega)
  have hw1 : IntKind.u64.wrap (((A.length + s : Nat) : Int) + ((A.length + r : Nat) : Int)) = ((A.length + s : Nat) : Int) + ((A.length + r : Nat) : Int) := u64_id (by omega) (by omega)
  obtain ⟨u, hu1⟩ : ∃ u, U[c]? = some u := ⟨_, List.getElem?_eq_getElem (by omega)⟩
  obtain ⟨v, hv1⟩ : ∃ v, V[h - 1 - c]? = some v := ⟨_, List.getElem?_eq_getElem (by omega)⟩
  have gx : ((A ++ (U ++ (V ++ R))).map encTm)[0 + (((A.length + h : Nat) : Int) + ((A.length + U.length : Nat) : Int) - 1 - ((A.length + c : Nat) : Int)).toNat]? = some (encTm v) := map_at (app_get2 (app_get2 (app_get hv1) rfl) (by omega))
  have gy : ((A ++ (U ++ (V ++ R))).map encTm)[0 + ((A.length + c : Nat) : Int).toNat]? = some (encTm u) := map_at (app_get2 (app_get hu1) (by omega))
  have c1 := order_c v u
  have d3 := ordI_lt v u
  cases hb2 : ltT v u with
  | false =>
   rw [hb2] at d3
   have d4 : (!decide (ordI v u < 0)) = true := by rw [d3]; rfl
   (repeat' (first | refine ARun.bin rfl rfl hsh rfl (guardF_spec rfl) ?_ | refine convE hw1 rfl rfl rfl rfl rfl (guardF_spec rfl) ?_ | refine goA ?_ | refine cX c1 ?_ | refine ARun.indexAddr_own rfl rfl rfl rfl (by omega) (by omega) rfl rfl rfl rfl rfl (guardF_spec rfl) ?_ | refine ARun.loadAgg rfl rfl rfl (by first | exact gx | exact gy) rfl rfl rfl rfl (guardF_spec rfl) ?_ | refine goB ?_ | fail))
   refine ⟨(c + 1, r, _, _, _), ⟨⟨rfl, rfl, rfl, rfl, rfl, rfl, rfl, rfl, rfl, rfl, trivial⟩, ⟨rfl, trivial⟩, Nat.le_refl _⟩, ⟨rfl, rfl, by dsimp only; omega, by dsimp only; omega, hr0, fun v' u' hv' hu' _ => ?_, k2⟩, (by dsimp only; omega)⟩
   dsimp only at hv' hu'
   rw [Nat.add_sub_cancel, hu1] at hu'
   rw [show h - (c + 1) = h - 1 - c by omega, hv1] at hv'
   rw [← Option.some.inj hu', ← Option.some.inj hv']
   exact hb2
  | true =>
   rw [hb2] at d3
   have d4 : (!decide (ordI v u < 0)) = false := by rw [d3]; rfl
   (repeat' (first | refine ARun.bin rfl rfl hsh rfl (guardF_spec rfl) ?_ | refine convE hw1 rfl rfl rfl rfl rfl (guardF_spec rfl) ?_ | refine goA ?_ | refine cX c1 ?_ | refine ARun.indexAddr_own rfl rfl rfl rfl (by omega) (by omega) rfl rfl rfl rfl rfl (guardF_spec rfl) ?_ | refine ARun.loadAgg rfl rfl rfl (by first | exact gx | exact gy) rfl rfl rfl rfl (guardF_spec rfl) ?_ | refine goB ?_ | fail))
   refine ⟨(s, c, _, _, _), ⟨⟨rfl, rfl, rfl, rfl, rfl, rfl, rfl, rfl, rfl, rfl, trivial⟩, ⟨rfl, trivial⟩, Nat.le_refl _⟩, ⟨rfl, rfl, by dsimp only; omega, hs0, by dsimp only; omega, k1, fun v' u' hv' hu' _ => ?_⟩, (by dsimp only; omega)⟩
   dsimp only at hv' hu'
   rw [hu1] at hu'
   rw [hv1] at hv'
   rw [← Option.some.inj hu', ← Option.some.inj hv']
   exact hb2
 have d2 : decide (((A.length + s : Nat) : Int) < ((A.length + r : Nat) : Int)) = false := decide_eq_false (by omega)
 obtain rfl : s = r := by omega
 have F3 := bound_a (s := s) (e := h - s) hU hV (by omega) (fun v u hv' hu' he => k2 v u (by rw [← hv']; congr 1; omega) hu' (by
  have := (List.getElem?_eq_some_iff.1 hu').1
  omega))
 have F4 := bound_b (s := s) (e := h - s) hU hV (by omega) (fun v u hv' hu' he => k1 v u hv' hu' (by
  have := (List.getElem?_eq_some_iff.1 hv').1
  omega))
 obtain ⟨U1, U2, rfl, l1, t1, t2⟩ : ∃ U1 U2, U = U1 ++ U2 ∧ U1.length = s ∧ U.take s = U1 ∧ U.drop s = U2 := ⟨_, _, (List.take_append_drop s U).symm, by rw [List.length_take]; omega, rfl, rfl⟩
 obtain ⟨V1, V2, rfl, l2, t3, t4⟩ : ∃ V1 V2, V = V1 ++ V2 ∧ V1.length = h - s ∧ V.take (h - s) = V1 ∧ V.drop (h - s) = V2 := ⟨_, _, (List.take_append_drop (h - s) V).symm, by rw [List.length_take]; omega, rfl, rfl⟩
 rw [t3, t2] at F3
 rw [t4, t1] at F4
 have hm := merge_two hU hV F3 F4
 have hUs := List.pairwise_append.1 hU
 have hVs := List.pairwise_append.1 hV
 have hs1 : (sortT (U1 ++ V1)).length = h := by rw [sortT_len, List.length_append]; omega
 clear k1 k2 F3 F4 t1 t2 t3 t4 hzs0 hzr0
 rw [← hm]
 have eU : (U1 ++ U2).length = s + U2.length := by rw [List.length_append, l1]
 have eV : (V1 ++ V2).length = (h - s) + V2.length := by rw [List.length_append, l2]
 have hsh2 : s ≤ h := by omega
 have R1 : (decide (((A.length + s : Nat) : Int) < ((A.length + (U1 ++ U2).length : Nat) : Int)) = false ∧ A ++ ((U1 ++ U2) ++ ((V1 ++ V2) ++ R)) = A ++ (U1 ++ (V1 ++ (U2 ++ (V2 ++ R))))) ∨ (decide (((A.length + s : Nat) : Int) < ((A.length + (U1 ++ U2).length : Nat) : Int)) = true ∧ decide (((A.length + (U1 ++ U2).length : Nat) : Int) < ((A.length + h : Nat) : Int) + ((A.length + (U1 ++ U2).length : Nat) : Int) - ((A.length + s : Nat) : Int)) = false ∧ A ++ ((U1 ++ U2) ++ ((V1 ++ V2) ++ R)) = A ++ (U1 ++ (V1 ++ (U2 ++ (V2 ++ R))))) ∨ (decide (((A.length + s : Nat) : Int) < ((A.length + (U1 ++ U2).length : Nat) : Int)) = true ∧ decide (((A.length + (U1 ++ U2).length : Nat) : Int) < ((A.length + h : Nat) : Int) + ((A.length + (U1 ++ U2).length : Nat) : Int) - ((A.length + s : Nat) : Int)) = true ∧ FnL Try.prog 75 [.own 1000 0 0 n, .val (.int .i64 ((A.length + s : Nat) : Int)), .val (.int .i64 ((A.length + (U1 ++ U2).length : Nat) : Int)), .val (.int .i64 (((A.length + h : Nat) : Int) + ((A.length + (U1 ++ U2).length : Nat) : Int) - ((A.length + s : Nat) : Int))), .val (.func (.func 62) #[] #[])] [(6, (A ++ ((U1 ++ U2) ++ ((V1 ++ V2) ++ R))).map encTm)] (.tup []) [(A ++ (U1 ++ (V1 ++ (U2 ++ (V2 ++ R))))).map encTm]) := by
  by_cases q1 : U2.length = 0
  ·refine .inl ⟨decide_eq_false (by omega), ?_⟩
   rw [List.eq_nil_of_length_eq_zero q1]
   simp
  by_cases q2 : V1.length = 0
  ·refine .inr (.inl ⟨decide_eq_true (by omega), decide_eq_false (by omega), ?_⟩)
   rw [List.eq_nil_of_length_eq_zero q2]
   simp
  refine .inr (.inr ⟨decide_eq_true (by omega), decide_eq_true (by omega), ?_⟩)
  have c := rot_l (A ++ U1) U2 V1 (V2 ++ R) n (by omega) (by omega) (by simp only [List.length_append] at hn ⊢; omega) hb
  have a1 : (((A ++ U1).length : Nat) : Int) = ((A.length + s : Nat) : Int) := by rw [List.length_append]; omega
  have a2 : (((A ++ U1).length + U2.length : Nat) : Int) = ((A.length + (U1 ++ U2).length : Nat) : Int) := by rw [List.length_append]; omega
  have a3 : (((A ++ U1).length + U2.length + V1.length : Nat) : Int) = ((A.length + h : Nat) : Int) + ((A.length + (U1 ++ U2).length : Nat) : Int) - ((A.length + s : Nat) : Int) := by rw [List.length_append]; omega
  rw [a1, a2, a3] at c
  have e1 : (A ++ U1) ++ (U2 ++ (V1 ++ (V2 ++ R))) = A ++ ((U1 ++ U2) ++ ((V1 ++ V2) ++ R)) := by simp
  have e2 : (A ++ U1) ++ (V1 ++ (U2 ++ (V2 ++ R))) = A ++ (U1 ++ (V1 ++ (U2 ++ (V2 ++ R)))) := by simp
  rw [e1, e2] at c
  exact c
 have R2 : (decide (((A.length : Nat) : Int) < ((A.length + s : Nat) : Int)) = false ∧ A ++ (U1 ++ (V1 ++ (U2 ++ (V2 ++ R)))) = A ++ (sortT (U1 ++ V1) ++ (U2 ++ (V2 ++ R)))) ∨ (decide (((A.length : Nat) : Int) < ((A.length + s : Nat) : Int)) = true ∧ decide (((A.length + s : Nat) : Int) < ((A.length + h : Nat) : Int)) = false ∧ A ++ (U1 ++ (V1 ++ (U2 ++ (V2 ++ R)))) = A ++ (sortT (U1 ++ V1) ++ (U2 ++ (V2 ++ R)))) ∨ (decide (((A.length : Nat) : Int) < ((A.length + s : Nat) : Int)) = true ∧ decide (((A.length + s : Nat) : Int) < ((A.length + h : Nat) : Int)) = true ∧ FnL Try.prog 73 [.own 1000 0 0 n, .val (.int .i64 ((A.length : Nat) : Int)), .val (.int .i64 ((A.length + s : Nat) : Int)), .val (.int .i64 ((A.length + h : Nat) : Int)), .val (.func (.func 62) #[] #[])] [(6, (A ++ (U1 ++ (V1 ++ (U2 ++ (V2 ++ R))))).map encTm)] (.tup []) [(A ++ (sortT (U1 ++ V1) ++ (U2 ++ (V2 ++ R)))).map encTm]) := by
  by_cases q1 : U1.length = 0
  ·refine .inl ⟨decide_eq_false (by omega), ?_⟩
   rw [List.eq_nil_of_length_eq_zero q1, List.nil_append, List.nil_append, sortT_id hVs.1]
  by_cases q2 : V1.length = 0
  ·refine .inr (.inl ⟨decide_eq_true (by omega), decide_eq_false (by omega), ?_⟩)
   rw [List.eq_nil_of_length_eq_zero q2, List.append_nil, List.nil_append, sortT_id hUs.1]
  refine .inr (.inr ⟨decide_eq_true (by omega), decide_eq_true (by omega), ?_⟩)
  have c := ih A U1 V1 (U2 ++ (V2 ++ R)) n (by omega) (by omega) (by omega) hUs.1 hVs.1 (by simp only [List.length_append] at hn ⊢; omega) hb
  rw [l1, show ((A.length + s + V1.length : Nat) : Int) = ((A.length + h : Nat) : Int) by omega] at c
  exact c
 have R3 : (decide (((A.length + h : Nat) : Int) < ((A.length + h : Nat) : Int) + ((A.length + (U1 ++ U2).length : Nat) : Int) - ((A.length + s : Nat) : Int)) = false ∧ A ++ (sortT (U1 ++ V1) ++ (U2 ++ (V2 ++ R))) = A ++ ((sortT (U1 ++ V1) ++ sortT (U2 ++ V2)) ++ R)) ∨ (decide (((A.length + h : Nat) : Int) < ((A.length + h : Nat) : Int) + ((A.length + (U1 ++ U2).length : Nat) : Int) - ((A.length + s : Nat) : Int)) = true ∧ decide (((A.length + h : Nat) : Int) + ((A.length + (U1 ++ U2).length : Nat) : Int) - ((A.length + s : Nat) : Int) < ((A.length + (U1 ++ U2).length + (V1 ++ V2).length : Nat) : Int)) = false ∧ A ++ (sortT (U1 ++ V1) ++ (U2 ++ (V2 ++ R))) = A ++ ((sortT (U1 ++ V1) ++ sortT (U2 ++ V2)) ++ R)) ∨ (decide (((A.length + h : Nat) : Int) < ((A.length + h : Nat) : Int) + ((A.length + (U1 ++ U2).length : Nat) : Int) - ((A.length + s : Nat) : Int)) = true ∧ decide (((A.length + h : Nat) : Int) + ((A.length + (U1 ++ U2).length : Nat) : Int) - ((A.length + s : Nat) : Int) < ((A.length + (U1 ++ U2).length + (V1 ++ V2).length : Nat) : Int)) = true ∧ FnL Try.prog 73 [.own 1000 0 0 n, .val (.int .i64 ((A.length + h : Nat) : Int)), .val (.int .i64 (((A.length + h : Nat) : Int) + ((A.length + (U1 ++ U2).length : Nat) : Int) - ((A.length + s : Nat) : Int))), .val (.int .i64 ((A.length + (U1 ++ U2).length + (V1 ++ V2).length : Nat) : Int)), .val (.func (.func 62) #[] #[])] [(6, (A ++ (sortT (U1 ++ V1) ++ (U2 ++ (V2 ++ R)))).map encTm)] (.tup []) [(A ++ ((sortT (U1 ++ V1) ++ sortT (U2 ++ V2)) ++ R)).map encTm]) := by
  by_cases q1 : U2.length = 0
  ·refine .inl ⟨decide_eq_false (by omega), ?_⟩
   rw [List.eq_nil_of_length_eq_zero q1, List.nil_append, List.nil_append, sortT_id hVs.2.1, List.append_assoc]
  by_cases q2 : V2.length = 0
  ·refine .inr (.inl ⟨decide_eq_true (by omega), decide_eq_false (by omega), ?_⟩)
   rw [List.eq_nil_of_length_eq_zero q2, List.append_nil, List.nil_append, sortT_id hUs.2.1, List.append_assoc]
  refine .inr (.inr ⟨decide_eq_true (by omega), decide_eq_true (by omega), ?_⟩)
  have c := ih (A ++ sortT (U1 ++ V1)) U2 V2 R n (by omega) (by omega) (by omega) hUs.2.1 hVs.2.1 (by rw [List.length_append, hs1]; omega) hb
  have a1 : (((A ++ sortT (U1 ++ V1)).length : Nat) : Int) = ((A.length + h : Nat) : Int) := by rw [List.length_append, hs1]
  have a2 : (((A ++ sortT (U1 ++ V1)).length + U2.length : Nat) : Int) = ((A.length + h : Nat) : Int) + ((A.length + (U1 ++ U2).length : Nat) : Int) - ((A.length + s : Nat) : Int) := by rw [List.length_append, hs1]; omega
  have a3 : (((A ++ sortT (U1 ++ V1)).length + U2.length + V2.length : Nat) : Int) = ((A.length + (U1 ++ U2).length + (V1 ++ V2).length : Nat) : Int) := by rw [List.length_append, hs1]; omega
  rw [a1, a2, a3] at c
  have e1 : (A ++ sortT (U1 ++ V1)) ++ (U2 ++ (V2 ++ R)) = A ++ (sortT (U1 ++ V1) ++ (U2 ++ (V2 ++ R))) := by simp
  have e2 : (A ++ sortT (U1 ++ V1)) ++ (sortT (U2 ++ V2) ++ R) = A ++ ((sortT (U1 ++ V1) ++ sortT (U2 ++ V2)) ++ R) := by simp
  rw [e1, e2] at c
  exact c
 have l0 := rows_closed (A ++ ((U1 ++ U2) ++ ((V1 ++ V2) ++ R)))
 have l1' := rows_closed (A ++ (U1 ++ (V1 ++ (U2 ++ (V2 ++ R)))))
 have l2' := rows_closed (A ++ (sortT (U1 ++ V1) ++ (U2 ++ (V2 ++ R))))
 have l3 := rows_closed (A ++ ((sortT (U1 ++ V1) ++ sortT (U2 ++ V2)) ++ R))
 have hbb : A.length + (U1 ++ U2).length + (V1 ++ V2).length ≤ 1000000 := by omega
 generalize A ++ ((U1 ++ U2) ++ ((V1 ++ V2) ++ R)) = L0 at *
 generalize A ++ (U1 ++ (V1 ++ (U2 ++ (V2 ++ R)))) = L1 at *
 generalize A ++ (sortT (U1 ++ V1) ++ (U2 ++ (V2 ++ R))) = L2 at *
 generalize A ++ ((sortT (U1 ++ V1) ++ sortT (U2 ++ V2)) ++ R) = L3 at *
 clear ih hU hV hm hUs hVs
 rcases R1 with ⟨g1, rfl⟩ | ⟨g1, g1', rfl⟩ | ⟨g1, g1', c1⟩ <;> rcases R2 with ⟨g2, rfl⟩ | ⟨g2, g2', rfl⟩ | ⟨g2, g2', c2⟩ <;> rcases R3 with ⟨g3, rfl⟩ | ⟨g3, g3', rfl⟩ | ⟨g3, g3', c3⟩
 all_goals
  (repeat' (first | refine goA ?_ | refine awp_skip ?_ | refine callR 1000 0 6 _ _ c1 (by assumption) (by assumption) (RelL.cons (.own (j := 0) 0 _ rfl) (RelL.cons (.wk (.same _) (.val _)) (RelL.cons (.wk (.same _) (.val _)) (RelL.cons (.wk (.same _) (.val _)) (RelL.cons (.wk (.same _) (.val _)) (RelL.nil _)))))) (.same _ (.tup closedL_nil)) rfl rfl rfl rfl rfl ?_ | refine callR 1000 0 6 _ _ c2 (by assumption) (by assumption) (RelL.cons (.own (j := 0) 0 _ rfl) (RelL.cons (.wk (.same _) (.val _)) (RelL.cons (.wk (.same _) (.val _)) (RelL.cons (.wk (.same _) (.val _)) (RelL.cons (.wk (.same _) (.val _)) (RelL.nil _)))))) (.same _ (.tup closedL_nil)) rfl rfl rfl rfl rfl ?_ | refine callR 1000 0 6 _ _ c3 (by assumption) (by assumption) (RelL.cons (.own (j := 0) 0 _ rfl) (RelL.cons (.wk (.same _) (.val _)) (RelL.cons (.wk (.same _) (.val _)) (RelL.cons (.wk (.same _) (.val _)) (RelL.cons (.wk (.same _) (.val _)) (RelL.nil _)))))) (.same _ (.tup closedL_nil)) rfl rfl rfl rfl rfl ?_ | refine goB ?_ | fail))
  (first | exact ⟨_, ResL.nil, rfl, ⟨_, rfl, RlR.closed (by assumption)⟩, trivial⟩ | (refine awp_skip ?_; exact ⟨_, ResL.nil, rfl, ⟨_, rfl, RlR.closed (by assumption)⟩, trivial⟩))
end Go.Proofs.Ytkmlmboclegpcaa
namespace Go.Proofs.Ytkmlmboclegpcaa
open Go Go.RowKit
set_option maxRecDepth 100000
theorem one_of {l : List Tmr} (h : l.length = 1) : ∃ x, l = [x] := List.length_eq_one_iff.1 h
theorem sm_all : ∀ z, SmOk z
 | 0 => fun A U V R n h1 h2 h3 => absurd h3 (by omega)
 | z + 1 => fun A U V R n h1 h2 h3 hU hV hn hb => by
  by_cases q1 : U.length = 1
  ·obtain ⟨x, rfl⟩ := one_of q1
   exact sm1_l A V R x n h2 hV hn hb
  by_cases q2 : V.length = 1
  ·obtain ⟨x, rfl⟩ := one_of q2
   exact sm2_l A U R x n (by omega) hU hn hb
  exact sm3_l (sm_all z) A U V R n (by omega) (by omega) h3 hU hV hn hb
theorem sort_two (P Q : List Tmr) : sortT (sortT P ++ sortT Q) = sortT (P ++ Q) := by
 refine sorted_uniq (sortT_sorted _) (sortT_sorted _) (fun d i => ?_)
 rw [sortT_filter, sortT_filter, List.filter_append, List.filter_append, sortT_filter, sortT_filter]
attribute [local irreducible] Decidable.decide awp ARun regK toK
set_option maxHeartbeats 8000000 in
theorem stable_mid (L : List Tmr) (h0 : 20 ≤ L.length) (h : L.length < 40) : FnL Try.prog 68 [.own 1000 0 0 L.length, .val (.int .i64 (L.length : Nat)), .val (.func (.func 62) #[] #[])] [(6, L.map encTm)] (.tup []) [(sortT L).map encTm] := by
 obtain ⟨P, Q, rfl, hP⟩ : ∃ P Q, L = P ++ Q ∧ P.length = 20 := ⟨L.take 20, L.drop 20, (List.take_append_drop 20 L).symm, by rw [List.length_take]; omega⟩
 have hl : (P ++ Q).length = 20 + Q.length := by rw [List.length_append, hP]
 have hs : (sortT P).length = 20 := by rw [sortT_len, hP]
 have c1 := ins_l [] P Q (P ++ Q).length (by rw [List.length_nil]; omega) (by omega)
 have c2 := ins_l (sortT P) Q [] (P ++ Q).length (by rw [List.length_nil]; omega) (by omega)
 rw [List.nil_append, List.nil_append, hP, List.length_nil, Nat.zero_add] at c1
 rw [List.append_nil, List.append_nil, hs, ← hl] at c2
 have d1 : decide ((20 : Int) ≤ ((P ++ Q).length : Nat)) = true := decide_eq_true (by omega)
 have d2 : decide (((20 : Int) + 20) ≤ ((P ++ Q).length : Nat)) = false := decide_eq_false (by omega)
 have d3 : decide (((2 : Int) * 20) ≤ ((P ++ Q).length : Nat)) = false := decide_eq_false (by omega)
 have d4 : decide (((20 : Int) * 2) < ((P ++ Q).length : Nat)) = false := decide_eq_false (by omega)
 have e1 := sort_two P Q
 have l0 := rows_closed (P ++ Q)
 have l1 := rows_closed (sortT P ++ Q)
 have l2 := rows_closed (sortT P ++ sortT Q)
 have l3 := rows_closed (sortT (P ++ Q))
 refine FnL.of_awp (T := tt) (ok := tok) Try.func68 (by kernel_rfl) rfl (by kernel_rfl) (by kernel_rfl) (fun w0 st0 lent c0 => ?_)
 dsimp only [frOf, hpFrom, List.length_cons, List.length_nil]
 by_cases hq : Q.length = 0
 ·have d5 : decide ((20 : Int) < ((P ++ Q).length : Nat)) = false := decide_eq_false (by omega)
  have e2 : sortT P ++ sortT Q = sortT (P ++ Q) := by
   rw [List.eq_nil_of_length_eq_zero hq, List.append_nil]
   exact List.append_nil _
  rw [e2] at c2
  (repeat' (first | refine goA ?_ | refine awp_loopN 2 ?_ | refine LoopN.step ?_ | refine callR 1000 0 6 _ _ c1 l0 l1 (RelL.cons (.own (j := 0) 0 _ rfl) (RelL.cons (.wk (.same _) (.val _)) (RelL.cons (.wk (.same _) (.val _)) (RelL.cons (.wk (.same _) (.val _)) (RelL.nil _))))) (.same _ (.tup closedL_nil)) rfl rfl rfl rfl rfl ?_ | refine callR 1000 0 6 _ _ c2 l1 l3 (RelL.cons (.own (j := 0) 0 _ rfl) (RelL.cons (.wk (.same _) (.val _)) (RelL.cons (.wk (.same _) (.val _)) (RelL.cons (.wk (.same _) (.val _)) (RelL.nil _))))) (.same _ (.tup closedL_nil)) rfl rfl rfl rfl rfl ?_ | refine goB ?_ | fail))
  (first | exact ⟨_, ResL.nil, rfl, ⟨_, rfl, RlR.closed (rows_closed _)⟩, trivial⟩ | (refine awp_skip ?_; exact ⟨_, ResL.nil, rfl, ⟨_, rfl, RlR.closed (rows_closed _)⟩, trivial⟩))
 ·have d5 : decide ((20 : Int) < ((P ++ Q).length : Nat)) = true := decide_eq_true (by omega)
  have d6 : decide (((0 : Int) + 20) < ((P ++ Q).length : Nat)) = true := decide_eq_true (by omega)
  have c3 := sm_all 40 [] (sortT P) (sortT Q) [] (P ++ Q).length (by omega) (by rw [sortT_len]; omega) (by rw [hs, sortT_len]; omega) (sortT_sorted _) (sortT_sorted _) (by rw [hs, sortT_len, List.length_nil, hl]; omega) (by omega)
  rw [List.append_nil, List.append_nil, List.nil_append, List.nil_append, e1, hs, sortT_len, List.length_nil, Nat.zero_add, ← hl] at c3
  (repeat' (first | refine goA ?_ | refine awp_loopN 2 ?_ | refine LoopN.step ?_ | refine callR 1000 0 6 _ _ c1 l0 l1 (RelL.cons (.own (j := 0) 0 _ rfl) (RelL.cons (.wk (.same _) (.val _)) (RelL.cons (.wk (.same _) (.val _)) (RelL.cons (.wk (.same _) (.val _)) (RelL.nil _))))) (.same _ (.tup closedL_nil)) rfl rfl rfl rfl rfl ?_ | refine callR 1000 0 6 _ _ c2 l1 l2 (RelL.cons (.own (j := 0) 0 _ rfl) (RelL.cons (.wk (.same _) (.val _)) (RelL.cons (.wk (.same _) (.val _)) (RelL.cons (.wk (.same _) (.val _)) (RelL.nil _))))) (.same _ (.tup closedL_nil)) rfl rfl rfl rfl rfl ?_ | refine callR 1000 0 6 _ _ c3 l2 l3 (RelL.cons (.own (j := 0) 0 _ rfl) (RelL.cons (.wk (.same _) (.val _)) (RelL.cons (.wk (.same _) (.val _)) (RelL.cons (.wk (.same _) (.val _)) (RelL.cons (.wk (.same _) (.val _)) (RelL.nil _)))))) (.same _ (.tup closedL_nil)) rfl rfl rfl rfl rfl ?_ | refine goB ?_ | fail))
  (first | exact ⟨_, ResL.nil, rfl, ⟨_, rfl, RlR.closed (rows_closed _)⟩, trivial⟩ | (refine awp_skip ?_; exact ⟨_, ResL.nil, rfl, ⟨_, rfl, RlR.closed (rows_closed _)⟩, trivial⟩))
theorem sort_mid (L : List Tmr) (h : L.length < 40) : FnL Try.prog 61 [.own 1000 0 0 L.length, .val (.func (.func 62) #[] #[])] [(6, L.map encTm)] (.tup []) [(sortT L).map encTm] := by
 by_cases q : L.length < 20
 ·exact sort_small L q
 have c1 := stable_mid L (by omega) h
 refine FnL.of_awp (T := tt) (ok := tok) Try.func61 (by kernel_rfl) rfl (by kernel_rfl) (by kernel_rfl) (fun w0 st0 lent c0 => ?_)
 dsimp only [frOf, hpFrom, List.length_cons, List.length_nil]
 (repeat' (first | refine goA ?_ | refine callR 1000 0 6 (L.map encTm) ((sortT L).map encTm) c1 (rows_closed _) (rows_closed _) (RelL.cons (.own (j := 0) 0 _ rfl) (RelL.cons (.wk (.same _) (.val _)) (RelL.cons (.wk (.same _) (.val _)) (RelL.nil _)))) (.same _ (.tup closedL_nil)) rfl rfl rfl rfl rfl ?_ | refine goB ?_ | fail))
 (first | exact ⟨_, ResL.nil, rfl, ⟨_, rfl, RlR.closed (rows_closed _)⟩, trivial⟩ | (refine awp_skip ?_; exact ⟨_, ResL.nil, rfl, ⟨_, rfl, RlR.closed (rows_closed _)⟩, trivial⟩))
end Go.Proofs.Ytkmlmboclegpcaa
