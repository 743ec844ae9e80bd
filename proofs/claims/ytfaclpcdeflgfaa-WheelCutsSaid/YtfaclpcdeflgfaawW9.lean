/- wA16, wA17, wA20. -/
import Derived.Test.YtfaclpcdeflgfaaW1
import Derived.Test.YtfaclpcdeflgfaaW2
import Derived.Test.YtfaclpcdeflgfaaW3
import Derived.Test.YtfaclpcdeflgfaaW4
import Derived.Test.YtfaclpcdeflgfaawW5
import Derived.Test.YtfaclpcdeflgfaawW6
import Derived.Test.YtfaclpcdeflgfaawW7
import Derived.Test.YtfaclpcdeflgfaawW8
import Derived.Test.YtfaclpcdeflgfaaRows
set_option linter.unusedVariables false
set_option linter.unusedSimpArgs false
namespace Go.Proofs.Ytfaclpcdeflgfaa
open Go Go.RowKit
set_option maxRecDepth 100000
theorem flt_no {p : Tmr → Bool} {l : List Tmr} (h : ∀ t, t ∈ l → p t = false) : l.filter p = [] := List.filter_eq_nil_iff.2 (fun t ht => by rw [h t ht]; decide)
theorem flt_all {p : Tmr → Bool} {l : List Tmr} (h : ∀ t, t ∈ l → p t = true) : l.filter p = l := List.filter_eq_self.2 h
theorem due_no {n : Int} {t : Tmr} (h : t.due ≠ n) : dueB n t = false := beq_eq_false_iff_ne.2 h
theorem due_yes {n : Int} {t : Tmr} (h : t.due = n) : dueB n t = true := beq_iff_eq.2 h
attribute [local irreducible] Decidable.decide awp ARun regK toK zW zBig28 dueB
set_option maxHeartbeats 16000000 in
theorem comes19_c (n d id : Int) (hn : In64 n) (hd : 0 ≤ d ∧ d ≤ 65535) (hid : In64 id) : FnC Try.prog 4 [.val (.int .i64 n), .val (.int .u16 d), .val (.int .i64 id)] (.val (.bool true)) := by
 have c0 := shown19_c
 have lz := zW_len
 obtain ⟨hn1, hn2⟩ := hn
 have z1 : ((0 : Int) != 0) = false := by simp
 have z2 : ((-24 : Int) != 0) = true := by simp
 have hdm : 0 ≤ d.tmod 700 ∧ d.tmod 700 < 700 := by
  rw [Int.tmod_eq_emod_of_nonneg hd.1]
  omega
 by_cases h : 0 ≤ n ∧ n ≤ 2305843009213693952
 case neg =>
  have c1 := new_no h
  have lw : (encWh (wNew 0)).length = 1025 := (new_yes (n := 0) (by omega)).2.len
  generalize encWh (wNew 0) = W at *
  refine goF Try.func4 (closedL_cons (.val _) (closedL_cons (.val _) (closedL_cons (.val _) closedL_nil))) (fun w0 st0 => ?_)
  dsimp only [frOf]
  (repeat' (first | refine storeW (t := 28) rfl rfl rfl rfl rfl (by assumption) (by assumption) rfl rfl ?_ | refine loadW (t := 28) rfl rfl rfl rfl rfl (by assumption) rfl rfl ?_ | refine allocW (t := 28) rfl zall zW_eq zW_len rfl rfl rfl ?_ | refine goA ?_ | refine cX c0 ?_ | refine cX c1 ?_ | refine goB ?_ | fail))
  (refine awp_ret ⟨_, ResL.cons (ResA.tmp (.val _)) .nil, congrArg (fun b => AV.val (.bool b)) ?_⟩; first | rfl | (symm; assumption) | assumption | (symm; exact beq_int _))
 obtain ⟨c1, hw⟩ := new_yes h
 have hadd : BinR Try.prog .add 3 (.int .i64 id) (.int .i64 1) (.int .i64 (IntKind.i64.wrap (id + 1))) := bin_add
 generalize IntKind.i64.wrap (id + 1) = x at hadd
 obtain ⟨D, hD⟩ : ∃ D : Nat, 1 + d.tmod 700 = (D : Int) := ⟨(1 + d.tmod 700).toNat, by omega⟩
 have c2 := add_s hw ⟨id, n + (1 + d.tmod 700), 0, 0, 0, 7⟩ (by show n < n + (1 + d.tmod 700); omega) (by show n + (1 + d.tmod 700) < n + 4294967296; omega)
 have h1 := hw.add (t := ⟨id, n + (1 + d.tmod 700), 0, 0, 0, 7⟩) (by show n < n + (1 + d.tmod 700); omega) (by show n + (1 + d.tmod 700) < n + 4294967296; omega) (by show 0 < 900; omega)
 have e1 : (putD (wNew n) ⟨id, n + (1 + d.tmod 700), 0, 0, 0, 7⟩).now = n := rfl
 have lw0 := hw.len
 have lw1 := h1.len
 generalize putD (wNew n) ⟨id, n + (1 + d.tmod 700), 0, 0, 0, 7⟩ = w1 at *
 have c3 := add_s h1 ⟨x, n + 4294967295, 0, 0, 0, 8⟩ (by rw [e1]; show n < n + 4294967295; omega) (by rw [e1]; show n + 4294967295 < n + 4294967296; omega)
 have h2 := h1.add (t := ⟨x, n + 4294967295, 0, 0, 0, 8⟩) (by rw [e1]; show n < n + 4294967295; omega) (by rw [e1]; show n + 4294967295 < n + 4294967296; omega) (by show 1 < 900; omega)
 have e2 : (putD w1 ⟨x, n + 4294967295, 0, 0, 0, 8⟩).now = n := e1
 have el : insT (⟨x, n + 4294967295, 0, 0, 0, 8⟩ : Tmr) (insT (⟨id, n + (1 + d.tmod 700), 0, 0, 0, 7⟩ : Tmr) []) = [⟨id, n + (1 + d.tmod 700), 0, 0, 0, 7⟩, ⟨x, n + 4294967295, 0, 0, 0, 8⟩] := by
  show (if ltT _ _ = true then _ else _ :: insT _ []) = _
  rw [if_neg (by rw [ltT_iff]; show ¬ (n + 4294967295 < n + (1 + d.tmod 700) ∨ (n + 4294967295 = n + (1 + d.tmod 700) ∧ _)); omega)]
  rfl
 rw [el] at h2
 have lw2 := h2.len
 generalize putD w1 ⟨x, n + 4294967295, 0, 0, 0, 8⟩ = w2 at *
 obtain ⟨t1, ht1⟩ : ∃ t : Tmr, t = ⟨id, n + (1 + d.tmod 700), 0, 0, 0, 7⟩ := ⟨_, rfl⟩
 obtain ⟨t2, ht2⟩ : ∃ t : Tmr, t = ⟨x, n + 4294967295, 0, 0, 0, 8⟩ := ⟨_, rfl⟩
 have hdu1 : t1.due = n + D := by rw [ht1]; show n + (1 + d.tmod 700) = _; omega
 have hdu2 : t2.due = n + 4294967295 := by rw [ht2]
 rw [← ht1, ← ht2] at h2
 have ez : (n + 4294967295 : Int) = n + 4294967295 := rfl
 clear e1 el
 generalize encWh (wNew n) = W0 at *
 generalize encWh w1 = W1 at *
 refine goF Try.func4 (closedL_cons (.val _) (closedL_cons (.val _) (closedL_cons (.val _) closedL_nil))) (fun w0 st0 => ?_)
 dsimp only [frOf]
 (repeat' (first | refine ARun.bin rfl rfl hadd rfl (guardF_spec rfl) ?_ | refine storeW (t := 28) rfl rfl rfl rfl rfl (by assumption) (by assumption) rfl rfl ?_ | refine loadW (t := 28) rfl rfl rfl rfl rfl (by assumption) rfl rfl ?_ | refine allocW (t := 28) rfl zall zW_eq zW_len rfl rfl rfl ?_ | refine goA ?_ | refine cX c0 ?_ | refine cX c1 ?_ | refine cX c2 ?_ | refine cX c3 ?_ | refine goB ?_ | fail))
 refine awp_loopT (T := Nat × Wh × Nat) (fun t => ⟨[(0, .val (.int .i64 n)), (2, .val (.int .i64 id)), (7, .val (.bool true)), (8, .val (.int .i64 (1 + d.tmod 700))), (9, .ptr 9 13 0 0), (13, .val (.int .i64 (t.1 : Nat)))], [(9, some ⟨13, 1025, [encWh t.2.1]⟩)], t.2.2⟩) (fun t => 1 ≤ t.1 ∧ t.1 ≤ D + 4 ∧ WR t.2.1 (if t.1 ≤ D then [t1, t2] else [t2]) ∧ t.2.1.now + 1 = n + (t.1 : Nat)) (fun t => D + 4 - t.1) (1, w2, _) ⟨Nat.le_refl _, by dsimp only; omega, by dsimp only; rw [if_pos (by omega)]; exact h2, by dsimp only; rw [e2]; rfl⟩ ⟨⟨rfl, rfl, rfl, rfl, rfl, rfl, trivial⟩, ⟨rfl, trivial⟩, Nat.le_refl _⟩ (fun t ht => ?_)
 obtain ⟨i, w, gc⟩ := t
 dsimp only at ht ⊢
 obtain ⟨hi1, hi2, hR, hnow⟩ := ht
 clear c0 c1 c2 c3 h2 e2 lw2 h1 hw lw0 lw1
 have lw := hR.len
 by_cases hlt : i < D + 4
 ·have d1 : decide (((i : Nat) : Int) ≤ 1 + d.tmod 700 + 3) = true := decide_eq_true (by omega)
  have hln : (if i ≤ D then [t1, t2] else [t2]).length < 20 := by split <;> (show _ < 20; simp)
  have c4 := tick_s sort20 hR hln
  have hX := hR.tick (by omega)
  have en := tick_now hR
  rw [hnow] at c4 hX en
  have n5 := now0 (tickW w)
  rw [en] at n5
  have lx := hX.len
  have hnext : (tickW w).now + 1 = n + ((i + 1 : Nat) : Int) := by rw [en]; omega
  generalize tickW w = X at *
  have f0 : (X.now != n + ((i : Nat) : Int)) = false := by rw [en]; exact bne_int _
  by_cases hlt2 : i = D
  ·have eo : (if i ≤ D then [t1, t2] else [t2]).filter (dueB (n + (i : Nat))) = [t1] := by
    rw [if_pos (by omega), List.filter_cons, if_pos (due_yes (by rw [hdu1, hlt2])), flt_no (l := [t2]) (fun t ht => by rw [List.mem_singleton.1 ht]; exact due_no (by rw [hdu2]; omega))]
   have er : (if i ≤ D then [t1, t2] else [t2]).filter (fun t => !dueB (n + (i : Nat)) t) = [t2] := by
    rw [if_pos (by omega), List.filter_cons, if_neg (by rw [due_yes (by rw [hdu1, hlt2])]; decide), flt_all (l := [t2]) (fun t ht => by rw [List.mem_singleton.1 ht, due_no (by rw [hdu2]; omega)]; rfl)]
   rw [eo] at c4
   rw [er] at hX
   have f1 : (((i : Nat) : Int) == 1 + d.tmod 700) = true := beq_iff_eq.2 (by omega)
   have f2 : (((([t1].map encTm).length : Nat) : Int) == 1) = true := beq_iff_eq.2 rfl
   have f3 : (!(((([t1].map encTm).length : Nat) : Int) == 1) == (((i : Nat) : Int) == 1 + d.tmod 700)) = false := by rw [f1, f2]; simp
   have f3' : (!((((([t1].map encTm).length : Nat) : Int) == 1) == (((i : Nat) : Int) == 1 + d.tmod 700))) = false := by rw [f1, f2]; simp
   have f4 : decide ((1 : Int) < (([t1].map encTm).length : Nat)) = false := decide_eq_false (by show ¬ ((1 : Int) < ((1 : Nat) : Int)); omega)
   rw [ht1] at c4 f2 f3 f3' f4
   clear eo er
   (repeat' (first | refine storeW (t := 28) rfl rfl rfl rfl rfl (by assumption) (by assumption) rfl rfl ?_ | refine loadW (t := 28) rfl rfl rfl rfl rfl (by assumption) rfl rfl ?_ | refine allocW (t := 28) rfl zall zW_eq zW_len rfl rfl rfl ?_ | refine goA ?_ | refine cX c4 ?_ | refine ARun.indexAddr rfl rfl (by omega) rfl rfl rfl rfl rfl rfl (guardF_spec rfl) ?_ | refine loadC rfl rfl rfl rfl rfl n5 rfl rfl ?_ | refine goB ?_ | fail))
   refine ⟨(i + 1, X, _), ⟨⟨rfl, rfl, rfl, rfl, rfl, rfl, trivial⟩, ⟨rfl, trivial⟩, Nat.le_refl _⟩, ⟨by dsimp only; omega, hlt, ?_, hnext⟩, (by dsimp only; omega)⟩
   dsimp only
   rw [if_neg (by omega)]
   exact hX
  ·have eo : (if i ≤ D then [t1, t2] else [t2]).filter (dueB (n + (i : Nat))) = [] := by
    refine flt_no (fun t ht => due_no ?_)
    split at ht
    ·rcases List.mem_cons.1 ht with rfl | ht
     ·rw [hdu1]; omega
     ·rw [List.mem_singleton.1 ht, hdu2]; omega
    ·rw [List.mem_singleton.1 ht, hdu2]; omega
   have er : (if i ≤ D then [t1, t2] else [t2]).filter (fun t => !dueB (n + (i : Nat)) t) = (if i ≤ D then [t1, t2] else [t2]) := by
    refine flt_all (fun t ht => ?_)
    have : dueB (n + (i : Nat)) t = false := by
     refine due_no ?_
     split at ht
     ·rcases List.mem_cons.1 ht with rfl | ht
      ·rw [hdu1]; omega
      ·rw [List.mem_singleton.1 ht, hdu2]; omega
     ·rw [List.mem_singleton.1 ht, hdu2]; omega
    rw [this]
    rfl
   rw [eo] at c4
   rw [er] at hX
   have f1 : (((i : Nat) : Int) == 1 + d.tmod 700) = false := beq_eq_false_iff_ne.2 (by omega)
   have f2 : (((((([] : List Tmr).map encTm).length : Nat) : Int)) == 1) = false := beq_eq_false_iff_ne.2 (by show ((0 : Nat) : Int) ≠ 1; omega)
   have f3 : (!(((((([] : List Tmr).map encTm).length : Nat) : Int) == 1) == (((i : Nat) : Int) == 1 + d.tmod 700))) = false := by rw [f1, f2]; simp
   have f4 : decide ((1 : Int) < ((([] : List Tmr).map encTm).length : Nat)) = false := decide_eq_false (by show ¬ ((1 : Int) < ((0 : Nat) : Int)); omega)
   clear eo er
   (repeat' (first | refine storeW (t := 28) rfl rfl rfl rfl rfl (by assumption) (by assumption) rfl rfl ?_ | refine loadW (t := 28) rfl rfl rfl rfl rfl (by assumption) rfl rfl ?_ | refine allocW (t := 28) rfl zall zW_eq zW_len rfl rfl rfl ?_ | refine goA ?_ | refine cX c4 ?_ | refine ARun.indexAddr rfl rfl (by omega) rfl rfl rfl rfl rfl rfl (guardF_spec rfl) ?_ | refine loadC rfl rfl rfl rfl rfl n5 rfl rfl ?_ | refine goB ?_ | fail))
   refine ⟨(i + 1, X, _), ⟨⟨rfl, rfl, rfl, rfl, rfl, rfl, trivial⟩, ⟨rfl, trivial⟩, Nat.le_refl _⟩, ⟨by dsimp only; omega, hlt, ?_, hnext⟩, (by dsimp only; omega)⟩
   dsimp only
   have : (if i + 1 ≤ D then [t1, t2] else [t2]) = (if i ≤ D then [t1, t2] else [t2]) := by
    by_cases q : i ≤ D
    ·rw [if_pos q, if_pos (by omega)]
    ·rw [if_neg q, if_neg (by omega)]
   rw [this]
   exact hX
 ·have d1 : decide (((i : Nat) : Int) ≤ 1 + d.tmod 700 + 3) = false := decide_eq_false (by omega)
  rw [if_neg (by omega)] at hR
  have c4 := all_s sort20 hR (by show 1 < 20; omega)
  have f2 : (((([t2].map encTm).length : Nat) : Int) == 1) = true := beq_iff_eq.2 rfl
  rw [ht2] at c4 f2
  have xx : (x == x) = true := beq_int x
  (repeat' (first | refine ARun.bin rfl rfl hadd rfl (guardF_spec rfl) ?_ | refine storeW (t := 28) rfl rfl rfl rfl rfl (by assumption) (by assumption) rfl rfl ?_ | refine loadW (t := 28) rfl rfl rfl rfl rfl (by assumption) rfl rfl ?_ | refine allocW (t := 28) rfl zall zW_eq zW_len rfl rfl rfl ?_ | refine goA ?_ | refine cX c4 ?_ | refine ARun.indexAddr rfl rfl (by omega) rfl rfl rfl rfl rfl rfl (guardF_spec rfl) ?_ | refine goB ?_ | fail))
  (refine awp_ret ⟨_, ResL.cons (ResA.tmp (.val _)) .nil, congrArg (fun b => AV.val (.bool b)) ?_⟩; first | rfl | (symm; assumption) | assumption | (symm; exact beq_int _))
end Go.Proofs.Ytfaclpcdeflgfaa
namespace Go.Proofs.Ytfaclpcdeflgfaa
open Go Go.RowKit
set_option maxRecDepth 100000
def StrictT (l : List Tmr) : Prop := l.Pairwise (fun a b => ltT a b = true)
theorem insT_strict {t : Tmr} : ∀ {l : List Tmr}, StrictT l → (∀ y, y ∈ l → ¬ (y.due = t.due ∧ y.id = t.id)) → StrictT (insT t l)
 | [], _, _ => List.pairwise_singleton _ _
 | x :: l, h, hn => by
  have h0 := List.pairwise_cons.1 h
  unfold insT
  split
  ·rename_i hlt
   refine List.pairwise_cons.2 ⟨fun y hy => ?_, h⟩
   rw [ltT_iff] at hlt ⊢
   rcases List.mem_cons.1 hy with rfl | hy
   ·exact hlt
   ·have := h0.1 y hy
    rw [ltT_iff] at this
    omega
  ·rename_i hlt
   refine List.pairwise_cons.2 ⟨fun y hy => ?_, insT_strict h0.2 (fun y hy => hn y (List.mem_cons_of_mem _ hy))⟩
   rcases insT_mem.1 hy with rfl | hy
   ·have h1 := hn x List.mem_cons_self
    rw [ltT_iff] at hlt ⊢
    omega
   ·exact h0.1 y hy
def tmD (N : Int) (i : Nat) (d : Int) : Tmr := ⟨i, N + 1 + d.tmod 600, 0, 0, 0, 0⟩
def tmsF (N : Int) : Nat → List Int → List Tmr
 | _, [] => []
 | k, d :: l => tmD N k d :: tmsF N (k + 1) l
theorem tmsF_at (N : Int) : ∀ (l : List Int) (k i : Nat) (d : Int), l[i]? = some d → (tmsF N k l)[i]? = some (tmD N (k + i) d)
 | _ :: l, k, 0, d, h => by
  obtain rfl := Option.some.inj h
  rfl
 | _ :: l, k, i + 1, d, h => by
  show (tmsF N (k + 1) l)[i]? = _
  rw [tmsF_at N l (k + 1) i d (by simpa using h)]
  congr 2
  omega
theorem tmsF_len (N : Int) : ∀ (l : List Int) (k : Nat), (tmsF N k l).length = l.length
 | [], _ => rfl
 | _ :: l, k => by
  show (tmsF N (k + 1) l).length + 1 = _
  rw [tmsF_len N l (k + 1)]
  rfl
theorem tmsF_mem {N : Int} {l : List Int} {t : Tmr} (h : t ∈ tmsF N 0 l) : ∃ (i : Nat) (d : Int), l[i]? = some d ∧ t = tmD N i d := by
 obtain ⟨i, hi⟩ := List.getElem?_of_mem h
 have hlt : i < l.length := by
  rw [← tmsF_len N l 0]
  exact (List.getElem?_eq_some_iff.1 hi).1
 refine ⟨i, l[i], List.getElem?_eq_getElem hlt, ?_⟩
 have := tmsF_at N l 0 i l[i] (List.getElem?_eq_getElem hlt)
 rw [hi, Nat.zero_add] at this
 exact Option.some.inj this
theorem mem_sortT {l : List Tmr} {t : Tmr} : t ∈ sortT l ↔ t ∈ l := by
 constructor
 ·intro h
  exact mem_of_filter (sortT_filter l) h
 ·intro h
  exact mem_of_filter (fun d i => (sortT_filter l d i).symm) h
theorem take_lt {l : List Tmr} {k : Nat} {t : Tmr} (h : t ∈ l.take k) : ∃ i, i < k ∧ l[i]? = some t := by
 obtain ⟨i, hi⟩ := List.getElem?_of_mem h
 rw [List.getElem?_take] at hi
 split at hi
 ·rename_i q
  exact ⟨i, q, hi⟩
 ·cases hi
theorem tms_strict (N : Int) (l : List Int) : ∀ k, k ≤ l.length → StrictT (sortT ((tmsF N 0 l).take k))
 | 0, _ => by rw [List.take_zero]; exact List.Pairwise.nil
 | k + 1, h => by
  have hx := tmsF_at N l 0 k l[k] (List.getElem?_eq_getElem (by omega))
  rw [Nat.zero_add] at hx
  rw [take_succ' hx, sortT_snoc]
  refine insT_strict (tms_strict N l k (by omega)) (fun y hy e => ?_)
  obtain ⟨i, hi, hy'⟩ := take_lt (mem_sortT.1 hy)
  have hi' : i < l.length := by omega
  have := tmsF_at N l 0 i l[i] (List.getElem?_eq_getElem hi')
  rw [hy', Nat.zero_add] at this
  have e2 := e.2
  rw [Option.some.inj this] at e2
  have : ((i : Nat) : Int) = (k : Nat) := e2
  omega
def aftB (n : Int) (t : Tmr) : Bool := decide (n < t.due)
theorem aft_next (n : Int) (l : List Tmr) : (l.filter (aftB n)).filter (fun t => !dueB (n + 1) t) = l.filter (aftB (n + 1)) := by
 rw [List.filter_filter]
 refine List.filter_congr (fun t ht => ?_)
 unfold aftB dueB
 by_cases h : n + 1 < t.due
 ·have h1 : (t.due == n + 1) = false := beq_eq_false_iff_ne.2 (by omega)
  rw [h1, decide_eq_true h, decide_eq_true (by omega)]
  rfl
 ·rw [decide_eq_false h]
  by_cases h2 : t.due = n + 1
  ·have h1 : (t.due == n + 1) = true := beq_iff_eq.2 h2
   rw [h1]
   rfl
  ·have h1 : (t.due == n + 1) = false := beq_eq_false_iff_ne.2 h2
   rw [h1, decide_eq_false (by omega)]
   rfl
theorem aft_out (n : Int) (l : List Tmr) : (l.filter (aftB n)).filter (dueB (n + 1)) = l.filter (dueB (n + 1)) := by
 rw [List.filter_filter]
 refine List.filter_congr (fun t ht => ?_)
 unfold aftB dueB
 by_cases h2 : t.due = n + 1
 ·have h1 : (t.due == n + 1) = true := beq_iff_eq.2 h2
  rw [h1, decide_eq_true (by omega)]
  rfl
 ·have h1 : (t.due == n + 1) = false := beq_eq_false_iff_ne.2 h2
  rw [h1]
  rfl
theorem filter_split (p : Tmr → Bool) : ∀ l : List Tmr, (l.filter p).length + (l.filter (fun t => !p t)).length = l.length
 | [] => rfl
 | x :: l => by
  have := filter_split p l
  cases h : p x with
  | true =>
   rw [List.filter_cons, if_pos h, List.filter_cons, if_neg (by rw [h]; decide), List.length_cons, List.length_cons]
   omega
  | false =>
   rw [List.filter_cons, if_neg (by rw [h]; decide), List.filter_cons, if_pos (by rw [h]; rfl), List.length_cons, List.length_cons]
   omega
theorem strict_next {l : List Tmr} (h : StrictT l) {i : Nat} {a b : Tmr} (ha : l[i]? = some a) (hb : l[i + 1]? = some b) (hd : a.due = b.due) : a.id < b.id := by
 have hi := (List.getElem?_eq_some_iff.1 ha).1
 have hi' := (List.getElem?_eq_some_iff.1 hb).1
 have := List.pairwise_iff_getElem.1 h i (i + 1) hi hi' (by omega)
 rw [List.getElem?_eq_getElem hi] at ha
 rw [List.getElem?_eq_getElem hi'] at hb
 rw [Option.some.inj ha, Option.some.inj hb, ltT_iff] at this
 omega
end Go.Proofs.Ytfaclpcdeflgfaa
namespace Go.Proofs.Ytfaclpcdeflgfaa
open Go Go.RowKit Go.ChangeShapes Go.WideShapes Go.Deep Go.Proofs.Ytfaclpcdeflgfaa
set_option maxRecDepth 100000
theorem own_knob : ownKnob Try.prog.godebug = none := by kernel_rfl
theorem laid_out : laidOutB Try.prog = true := by kernel_rfl
section
variable {H : Type} {encT : TypeId × Value → H} {w : World} {base : Nat} {spare : Nat → Bool} {held : Bool}
theorem opens_i : Opens encT Try.prog w base spare held 3 encI In64 := opens_int Try.underlying3
theorem arg_u16 {t : TypeId} {r : Reach} {b0 : Nat} {v : Value} {d : DataW H} {p : List MemPlace} (ht : Try.prog.underlying t = some (.int .u16)) (hv : Value.okWide Try.prog w r b0 t v)
  (h : DataW.Trod encT Try.prog w base spare held t v d p) : ∃ a, Rep (still w) w (.val (.int .u16 a)) v ∧ (0 ≤ a ∧ a ≤ 65535) := by
 obtain ⟨n, rfl⟩ := okWide_int ht hv
 exact arg_one (enc := fun a => .val (.int .u16 a)) rfl h (opens_u16 ht)
theorem opens_dl : Opens encT Try.prog w base spare held 57 (fun l : List Int => [.sl 1 false (l.map encU16)]) (fun l : List Int => ∀ d, d ∈ l → 0 ≤ d ∧ d ≤ 65535) := (opens_slice (sz := 1) (enc := encU16) Try.underlying57 (by kernel_rfl) (by decide) (fun _ => rfl) (opens_u16 Try.underlying36)).map id (fun _ _ => rfl) (fun _ h => h.2)
end
end Go.Proofs.Ytfaclpcdeflgfaa
