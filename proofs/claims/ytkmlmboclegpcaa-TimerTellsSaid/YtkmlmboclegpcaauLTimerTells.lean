/- TimerTells returns true at every input, and leaves its arguments as they were. -/
import Derived.Test.YtkmlmboclegpcaaW1
import Derived.Test.YtkmlmboclegpcaaW2
import Derived.Test.YtkmlmboclegpcaaW3
import Derived.Test.YtkmlmboclegpcaaW4
import Derived.Test.YtkmlmboclegpcaauW5
import Derived.Test.YtkmlmboclegpcaauW6
import Derived.Test.YtkmlmboclegpcaauW7
import Derived.Test.YtkmlmboclegpcaauW8
import Derived.Test.YtkmlmboclegpcaauW9
import Derived.Test.YtkmlmboclegpcaauW10
import Derived.Test.YtkmlmboclegpcaauW11
import Derived.Test.YtkmlmboclegpcaauW12
import Derived.Test.YtkmlmboclegpcaauW13
import Derived.Test.YtkmlmboclegpcaauW14
import Derived.Test.YtkmlmboclegpcaauW15
import Derived.Test.YtkmlmboclegpcaauW16
import Derived.Test.YtkmlmboclegpcaauW17
set_option linter.unusedVariables false
set_option linter.unusedSimpArgs false
namespace Go.Proofs.Ytkmlmboclegpcaa
open Go Go.RowKit
set_option maxRecDepth 100000
def encCk (N : Int) (l : List Tmr) : List AV := [.val (.int .i64 N), encTs l]
theorem encCk_closed (N : Int) (l : List Tmr) : ∀ x, x ∈ encCk N l → Closed x := closedL_cons (.val _) (closedL_cons (closed_ts l) closedL_nil)
attribute [local irreducible] Decidable.decide awp ARun regK toK
theorem ahead_c (a b : Tmr) : FnC Try.prog 54 [.agg (encTm a), .agg (encTm b)] (.val (.bool (ltT a b))) := by
 by_cases h1 : a.due < b.due
 ·have d1 : decide (a.due < b.due) = true := decide_eq_true h1
  have e : ltT a b = true := ltT_iff.2 (.inl h1)
  rw [e]
  refine goF Try.func54 (closedL_cons (.agg (encTm_closed a)) (closedL_cons (.agg (encTm_closed b)) closedL_nil)) (fun w0 st0 => ?_)
  dsimp only [frOf]
  (repeat' (first | refine goA ?_ | refine goB ?_ | fail))
  (refine awp_ret ⟨_, ResL.cons (ResA.tmp (.val _)) .nil, congrArg (fun b => AV.val (.bool b)) ?_⟩; first | rfl | (symm; assumption) | assumption)
 have d1 : decide (a.due < b.due) = false := decide_eq_false h1
 by_cases h2 : a.due = b.due
 ·have d2 : (a.due == b.due) = true := beq_iff_eq.2 h2
  by_cases h3 : a.id < b.id
  ·have d3 : decide (a.id < b.id) = true := decide_eq_true h3
   have e : ltT a b = true := ltT_iff.2 (.inr ⟨h2, h3⟩)
   rw [e]
   refine goF Try.func54 (closedL_cons (.agg (encTm_closed a)) (closedL_cons (.agg (encTm_closed b)) closedL_nil)) (fun w0 st0 => ?_)
   dsimp only [frOf]
   (repeat' (first | refine goA ?_ | refine goB ?_ | fail))
   (refine awp_ret ⟨_, ResL.cons (ResA.tmp (.val _)) .nil, congrArg (fun b => AV.val (.bool b)) ?_⟩; first | rfl | (symm; assumption) | assumption)
  ·have d3 : decide (a.id < b.id) = false := decide_eq_false h3
   have e : ltT a b = false := ltT_no.2 (by omega)
   rw [e]
   refine goF Try.func54 (closedL_cons (.agg (encTm_closed a)) (closedL_cons (.agg (encTm_closed b)) closedL_nil)) (fun w0 st0 => ?_)
   dsimp only [frOf]
   (repeat' (first | refine goA ?_ | refine goB ?_ | fail))
   (refine awp_ret ⟨_, ResL.cons (ResA.tmp (.val _)) .nil, congrArg (fun b => AV.val (.bool b)) ?_⟩; first | rfl | (symm; assumption) | assumption)
 ·have d2 : (a.due == b.due) = false := beq_eq_false_iff_ne.2 h2
  have e : ltT a b = false := ltT_no.2 (by omega)
  rw [e]
  refine goF Try.func54 (closedL_cons (.agg (encTm_closed a)) (closedL_cons (.agg (encTm_closed b)) closedL_nil)) (fun w0 st0 => ?_)
  dsimp only [frOf]
  (repeat' (first | refine goA ?_ | refine goB ?_ | fail))
  (refine awp_ret ⟨_, ResL.cons (ResA.tmp (.val _)) .nil, congrArg (fun b => AV.val (.bool b)) ?_⟩; first | rfl | (symm; assumption) | assumption)
end Go.Proofs.Ytkmlmboclegpcaa
namespace Go.Proofs.Ytkmlmboclegpcaa
open Go Go.RowKit
set_option maxRecDepth 100000
theorem cut_len (i : Int) : ∀ l : List Tmr, decide ((((l.filter (fun t => !idB i t)).length : Nat) : Int) < (l.length : Nat)) = l.any (idB i)
 | [] => rfl
 | x :: l => by
  have h := cut_len i l
  have hl := List.length_filter_le (fun t => !idB i t) l
  rw [List.any_cons]
  cases hb : idB i x with
  | true =>
   rw [List.filter_cons, if_neg (by rw [hb]; decide)]
   exact decide_eq_true (by rw [List.length_cons]; omega)
  | false =>
   rw [List.filter_cons, if_pos (by rw [hb]; rfl), Bool.false_or, ← h, List.length_cons, List.length_cons]
   by_cases q : (((l.filter (fun t => !idB i t)).length : Nat) : Int) < (l.length : Nat)
   ·rw [decide_eq_true q]
    exact decide_eq_true (by omega)
   ·rw [decide_eq_false q]
    exact decide_eq_false (by omega)
attribute [local irreducible] Decidable.decide awp ARun regK toK
theorem ref_new_yes {n : Int} (h : 0 ≤ n ∧ n ≤ 2305843009213693952) : FnC Try.prog 36 [.val (.int .i64 n)] (.tup [.agg (encCk n []), .val (.int .i64 0)]) := by
 have d1 : decide (n < 0) = false := decide_eq_false (by omega)
 have d2 : decide (2305843009213693952 < n) = false := decide_eq_false (by omega)
 refine goF Try.func36 (closedL_cons (.val _) closedL_nil) (fun w0 st0 => ?_)
 dsimp only [frOf]
 (repeat' (first | refine goA ?_ | refine goB ?_ | fail))
 refine awp_wkH 2 [encCk n []] rfl rfl (RelR.cons (WkL.cons (.same _) (WkL.cons Wk.nilSl WkL.nil)) (RelR.nil _)) ?_
 exact awp_ret ⟨_, ResL.cons (ResA.agg rfl rfl rfl rfl rfl rfl rfl (RL.allClosed (encCk_closed n []))) (ResL.cons (ResA.tmp (.val _)) .nil), rfl⟩
theorem ref_new_no {n : Int} (h : ¬ (0 ≤ n ∧ n ≤ 2305843009213693952)) : FnC Try.prog 36 [.val (.int .i64 n)] (.tup [.agg (encCk 0 []), .val (.int .i64 (-24))]) := by
 by_cases q : n < 0
 ·have d1 : decide (n < 0) = true := decide_eq_true q
  refine goF Try.func36 (closedL_cons (.val _) closedL_nil) (fun w0 st0 => ?_)
  dsimp only [frOf]
  (repeat' (first | refine goA ?_ | refine goB ?_ | fail))
  refine awp_wkH 2 [encCk 0 []] rfl rfl (RelR.cons (WkL.cons (.same _) (WkL.cons Wk.nilSl WkL.nil)) (RelR.nil _)) ?_
  exact awp_ret ⟨_, ResL.cons (ResA.agg rfl rfl rfl rfl rfl rfl rfl (RL.allClosed (encCk_closed 0 []))) (ResL.cons (ResA.tmp (.val _)) .nil), rfl⟩
 ·have d1 : decide (n < 0) = false := decide_eq_false q
  have d2 : decide (2305843009213693952 < n) = true := decide_eq_true (by omega)
  refine goF Try.func36 (closedL_cons (.val _) closedL_nil) (fun w0 st0 => ?_)
  dsimp only [frOf]
  (repeat' (first | refine goA ?_ | refine goB ?_ | fail))
  refine awp_wkH 2 [encCk 0 []] rfl rfl (RelR.cons (WkL.cons (.same _) (WkL.cons Wk.nilSl WkL.nil)) (RelR.nil _)) ?_
  exact awp_ret ⟨_, ResL.cons (ResA.agg rfl rfl rfl rfl rfl rfl rfl (RL.allClosed (encCk_closed 0 []))) (ResL.cons (ResA.tmp (.val _)) .nil), rfl⟩
set_option maxHeartbeats 4000000 in
theorem ref_cut_c (N : Int) (l : List Tmr) (i : Int) (hl : l.length ≤ 1000) : FnC Try.prog 42 [.agg (encCk N l), .val (.int .i64 i)] (.tup [.agg (encCk N (l.filter (fun t => !idB i t))), .val (.bool (l.any (idB i)))]) := by
 have em : (((l.map encTm).length : Nat) : Int) = l.length := by rw [List.length_map]
 have ecut := cut_len i l
 refine goF Try.func42 (closedL_cons (.agg (encCk_closed N l)) (closedL_cons (.val _) closedL_nil)) (fun w0 st0 => ?_)
 dsimp only [frOf]
 (repeat' (first | refine goA ?_ | refine goB ?_ | fail))
 refine awp_ownNil 6 6 rfl rfl rfl ?_
 refine awp_loopT (T := Nat × List (List AV) × Nat × Nat) (fun t => ⟨[(1, .val (.int .i64 i)), (2, .ptr 2 0 0 0), (4, .ptr 4 1 0 0), (6, .own 6 t.2.2.1 0 t.2.1.length), (7, .val (.int .i64 (t.1 : Nat)))], [(2, some ⟨0, 2, [encCk N l]⟩), (4, some ⟨1, 2, [[.val (.int .i64 0), .sl 0 true []]]⟩), (6, some ⟨t.2.2.1, 6, t.2.1⟩)], t.2.2.2⟩) (fun t => t.1 ≤ l.length ∧ t.2.1 = ((l.take t.1).filter (fun t => !idB i t)).map encTm) (fun t => l.length - t.1) (0, [], _, _) ⟨Nat.zero_le _, rfl⟩ ⟨⟨rfl, rfl, rfl, rfl, rfl, trivial⟩, ⟨rfl, rfl, rfl, trivial⟩, Nat.le_refl _⟩ (fun t ht => ?_)
 obtain ⟨k, r6, g6, gc⟩ := t
 dsimp only at ht ⊢
 obtain ⟨hk, e6⟩ := ht
 by_cases hlt : k < l.length
 ·have d2 : decide (((k : Nat) : Int) < ((l.map encTm).length : Nat)) = true := decide_eq_true (by omega)
  obtain ⟨x, hx⟩ : ∃ x, l[k]? = some x := ⟨_, List.getElem?_eq_getElem hlt⟩
  have hp : (l.map encTm)[((k : Nat) : Int).toNat]? = some (encTm x) := map_at hx
  have hl6 : r6.length ≤ 1000 := by rw [e6, List.length_map]; have := List.length_filter_le (fun t => !idB i t) (l.take k); rw [List.length_take] at this; omega
  cases hb : idB i x with
  | true =>
   have d3 : (x.id != i) = false := by
    have : (x.id == i) = true := hb
    show (!(x.id == i)) = false
    rw [this]
    rfl
   (repeat' (first | refine goA ?_ | refine ARun.indexAddr rfl rfl (by omega) (by with_reducible exact hp) rfl rfl rfl rfl rfl (guardF_spec rfl) ?_ | refine appO rfl ?_ | refine goB ?_ | fail))
   refine ⟨(k + 1, _, _, _), ⟨⟨rfl, rfl, rfl, rfl, rfl, trivial⟩, ⟨rfl, rfl, rfl, trivial⟩, Nat.le_refl _⟩, ⟨hlt, ?_⟩, (by dsimp only; omega)⟩
   dsimp only
   rw [e6, take_succ' hx, List.filter_append, List.map_append, show [x].filter (fun t => !idB i t) = [] by rw [List.filter_cons, hb]; rfl]
   exact (List.append_nil _).symm
  | false =>
   have d3 : (x.id != i) = true := by
    have : (x.id == i) = false := hb
    show (!(x.id == i)) = true
    rw [this]
    rfl
   (repeat' (first | refine goA ?_ | refine ARun.indexAddr rfl rfl (by omega) (by with_reducible exact hp) rfl rfl rfl rfl rfl (guardF_spec rfl) ?_ | refine appO rfl ?_ | refine goB ?_ | fail))
   refine ⟨(k + 1, _, _, _), ⟨⟨rfl, rfl, rfl, rfl, rfl, trivial⟩, ⟨rfl, rfl, rfl, trivial⟩, Nat.le_refl _⟩, ⟨hlt, ?_⟩, (by dsimp only; omega)⟩
   dsimp only
   rw [e6, take_succ' hx, List.filter_append, List.map_append, show [x].filter (fun t => !idB i t) = [x] by rw [List.filter_cons, hb]; rfl]
   rfl
 ·have d2 : decide (((k : Nat) : Int) < ((l.map encTm).length : Nat)) = false := decide_eq_false (by omega)
  have hfull : l.take k = l := List.take_of_length_le (by omega)
  rw [hfull] at e6
  subst e6
  (repeat' (first | refine goN ?_ | refine awp_region_ne 7 rfl (fun _ => hmix) ?_ | refine ARun.o rfl ?_ | refine goB ?_ | ((fail_if_success refine ARun.plain rfl ?_); refine ARun.fork rfl rfl rfl (fun h => ?_) (fun h => ?_)) | refine awp_cond rfl (fun h => ?_) (fun h => ?_)))
  refine awp_freeze 6 g6 6 ((l.filter (fun t => !idB i t)).map encTm) (fr' := [(1, .val (.int .i64 i)), (2, .ptr 2 0 0 0), (4, .ptr 4 1 0 0), (6, .sl 6 false ((l.filter (fun t => !idB i t)).map encTm))]) (hp' := [(2, some ⟨0, 2, [encCk N l]⟩), (4, some ⟨1, 2, [[.val (.int .i64 0), .sl 0 true []]]⟩)]) rfl (rows_closed _) ⟨.inl rfl, .inl rfl, .inl rfl, .inr ⟨_, rfl, rfl, rfl⟩, trivial⟩ ⟨⟨rfl, rfl⟩, ⟨rfl, rfl⟩, trivial⟩ ?_
  rw [← ecut, ← em, ← show (((l.filter (fun t => !idB i t)).map encTm).length : Int) = ((l.filter (fun t => !idB i t)).length : Nat) by rw [List.length_map]]
  (repeat' (first | refine goA ?_ | refine goB ?_ | fail))
  exact awp_ret ⟨_, ResL.cons (ResA.agg rfl rfl rfl rfl rfl rfl rfl (RL.allClosed (encCk_closed N _))) (ResL.cons (ResA.tmp (.val _)) .nil), rfl⟩
end Go.Proofs.Ytkmlmboclegpcaa
namespace Go.Proofs.Ytkmlmboclegpcaa
open Go Go.RowKit
set_option maxRecDepth 100000
attribute [local irreducible] Decidable.decide awp ARun regK toK
set_option maxHeartbeats 4000000 in
theorem ref_tick_c (N : Int) (l : List Tmr) (hN : 0 ≤ N ∧ N ≤ 4000000000000000000) (hl : l.length ≤ 1000) : FnC Try.prog 45 [.agg (encCk N l)] (.tup [.agg (encCk (N + 1) (l.filter (fun t => !dueB (N + 1) t))), encTs (l.filter (dueB (N + 1)))]) := by
 have em : (((l.map encTm).length : Nat) : Int) = l.length := by rw [List.length_map]
 refine goF Try.func45 (closedL_cons (.agg (encCk_closed N l)) closedL_nil) (fun w0 st0 => ?_)
 dsimp only [frOf]
 (repeat' (first | refine goA ?_ | refine goB ?_ | fail))
 refine awp_ownNil 4 6 rfl rfl rfl ?_
 refine awp_ownNil 5 6 rfl rfl rfl ?_
 refine awp_loopT (T := Nat × List (List AV) × Nat × List (List AV) × Nat × Nat) (fun t => ⟨[(1, .ptr 1 0 0 0), (2, .ptr 2 1 0 0), (4, .own 4 t.2.2.1 0 t.2.1.length), (5, .own 5 t.2.2.2.2.1 0 t.2.2.2.1.length), (6, .val (.int .i64 (t.1 : Nat)))], [(1, some ⟨0, 2, [encCk N l]⟩), (2, some ⟨1, 2, [[.val (.int .i64 0), .sl 0 true []]]⟩), (4, some ⟨t.2.2.1, 6, t.2.1⟩), (5, some ⟨t.2.2.2.2.1, 6, t.2.2.2.1⟩)], t.2.2.2.2.2⟩) (fun t => t.1 ≤ l.length ∧ t.2.1 = ((l.take t.1).filter (dueB (N + 1))).map encTm ∧ t.2.2.2.1 = ((l.take t.1).filter (fun t => !dueB (N + 1) t)).map encTm) (fun t => l.length - t.1) (0, [], _, [], _, _) ⟨Nat.zero_le _, rfl, rfl⟩ ⟨⟨rfl, rfl, rfl, rfl, rfl, trivial⟩, ⟨rfl, rfl, rfl, rfl, trivial⟩, Nat.le_refl _⟩ (fun t ht => ?_)
 obtain ⟨k, r6, g6, r7, g7, gc⟩ := t
 dsimp only at ht ⊢
 obtain ⟨hk, e6, e7⟩ := ht
 by_cases hlt : k < l.length
 ·have d2 : decide (((k : Nat) : Int) < ((l.map encTm).length : Nat)) = true := decide_eq_true (by omega)
  obtain ⟨x, hx⟩ : ∃ x, l[k]? = some x := ⟨_, List.getElem?_eq_getElem hlt⟩
  have hp : (l.map encTm)[((k : Nat) : Int).toNat]? = some (encTm x) := map_at hx
  have hl6 : r6.length ≤ 1000 := by rw [e6, List.length_map]; have := List.length_filter_le (dueB (N + 1)) (l.take k); rw [List.length_take] at this; omega
  have hl7 : r7.length ≤ 1000 := by rw [e7, List.length_map]; have := List.length_filter_le (fun t => !dueB (N + 1) t) (l.take k); rw [List.length_take] at this; omega
  cases hb : dueB (N + 1) x with
  | true =>
   have d3 : (x.due == N + 1) = true := hb
   (repeat' (first | refine goA ?_ | refine ARun.indexAddr rfl rfl (by omega) (by with_reducible exact hp) rfl rfl rfl rfl rfl (guardF_spec rfl) ?_ | refine appO rfl ?_ | refine goB ?_ | fail))
   refine ⟨(k + 1, _, _, _, _, _), ⟨⟨rfl, rfl, rfl, rfl, rfl, trivial⟩, ⟨rfl, rfl, rfl, rfl, trivial⟩, Nat.le_refl _⟩, ⟨hlt, ?_, ?_⟩, (by dsimp only; omega)⟩
   ·dsimp only
    rw [e6, take_succ' hx, List.filter_append, List.map_append, show [x].filter (dueB (N + 1)) = [x] by rw [List.filter_cons, if_pos hb]; rfl]
    rfl
   ·dsimp only
    rw [e7, take_succ' hx, List.filter_append, List.map_append, show [x].filter (fun t => !dueB (N + 1) t) = [] by rw [List.filter_cons, hb]; rfl]
    exact (List.append_nil _).symm
  | false =>
   have d3 : (x.due == N + 1) = false := hb
   (repeat' (first | refine goA ?_ | refine ARun.indexAddr rfl rfl (by omega) (by with_reducible exact hp) rfl rfl rfl rfl rfl (guardF_spec rfl) ?_ | refine appO rfl ?_ | refine goB ?_ | fail))
   refine ⟨(k + 1, _, _, _, _, _), ⟨⟨rfl, rfl, rfl, rfl, rfl, trivial⟩, ⟨rfl, rfl, rfl, rfl, trivial⟩, Nat.le_refl _⟩, ⟨hlt, ?_, ?_⟩, (by dsimp only; omega)⟩
   ·dsimp only
    rw [e6, take_succ' hx, List.filter_append, List.map_append, show [x].filter (dueB (N + 1)) = [] by rw [List.filter_cons, hb]; rfl]
    exact (List.append_nil _).symm
   ·dsimp only
    rw [e7, take_succ' hx, List.filter_append, List.map_append, show [x].filter (fun t => !dueB (N + 1) t) = [x] by rw [List.filter_cons, hb]; rfl]
    rfl
 ·have d2 : decide (((k : Nat) : Int) < ((l.map encTm).length : Nat)) = false := decide_eq_false (by omega)
  have hfull : l.take k = l := List.take_of_length_le (by omega)
  rw [hfull] at e6 e7
  subst e6
  subst e7
  (repeat' (first | refine goN ?_ | refine awp_region_ne 9 rfl (fun _ => hmix) ?_ | refine ARun.o rfl ?_ | refine goB ?_ | ((fail_if_success refine ARun.plain rfl ?_); refine ARun.fork rfl rfl rfl (fun h => ?_) (fun h => ?_)) | refine awp_cond rfl (fun h => ?_) (fun h => ?_)))
  refine awp_freeze 5 g7 6 ((l.filter (fun t => !dueB (N + 1) t)).map encTm) (fr' := [(1, .ptr 1 0 0 0), (2, .ptr 2 1 0 0), (4, .own 4 g6 0 ((l.filter (dueB (N + 1))).map encTm).length), (5, .sl 6 false ((l.filter (fun t => !dueB (N + 1) t)).map encTm))]) (hp' := [(1, some ⟨0, 2, [encCk N l]⟩), (2, some ⟨1, 2, [[.val (.int .i64 0), .sl 0 true []]]⟩), (4, some ⟨g6, 6, (l.filter (dueB (N + 1))).map encTm⟩)]) rfl (rows_closed _) ⟨.inl rfl, .inl rfl, .inl rfl, .inr ⟨_, rfl, rfl, rfl⟩, trivial⟩ ⟨⟨rfl, rfl⟩, ⟨rfl, rfl⟩, ⟨rfl, rfl⟩, trivial⟩ ?_
  (repeat' (first | refine goA ?_ | refine goB ?_ | fail))
  exact awp_ret ⟨_, ResL.cons (ResA.agg rfl rfl rfl rfl rfl rfl rfl (RL.allClosed (encCk_closed (N + 1) _))) (ResL.cons (ResA.tmp (.owned rfl rfl (by rw [List.length_map]) (rows_closed _))) .nil), rfl⟩
end Go.Proofs.Ytkmlmboclegpcaa
namespace Go.Proofs.Ytkmlmboclegpcaa
open Go Go.RowKit
set_option maxRecDepth 100000
def addK (t : Tmr) (l : List Tmr) : List Tmr := if l.any (fun y => ltT t y) then insT t l else l
theorem insT_end {t : Tmr} : ∀ {l : List Tmr}, (∀ y, y ∈ l → ltT t y = false) → insT t l = l ++ [t]
 | [], _ => rfl
 | x :: l, h => by
  unfold insT
  rw [if_neg (by rw [h x List.mem_cons_self]; decide), insT_end (fun y hy => h y (List.mem_cons_of_mem _ hy))]
  rfl
theorem insT_snoc {t x : Tmr} : ∀ {l : List Tmr}, l.any (fun y => ltT t y) = true → insT t (l ++ [x]) = insT t l ++ [x]
 | [], h => by cases h
 | y :: l, h => by
  rw [List.cons_append]
  unfold insT
  cases hb : ltT t y with
  | true => rw [if_pos rfl, if_pos rfl]; rfl
  | false =>
   rw [if_neg (by decide), if_neg (by decide), insT_snoc (by rw [List.any_cons, hb, Bool.false_or] at h; exact h)]
   rfl
theorem insT_put {t x : Tmr} : ∀ {l : List Tmr}, (∀ y, y ∈ l → ltT t y = false) → ltT t x = true → insT t (l ++ [x]) = l ++ [t] ++ [x]
 | [], _, hx => by
  show (if ltT t x = true then _ else _) = _
  rw [if_pos hx]
  rfl
 | y :: l, h, hx => by
  rw [List.cons_append]
  unfold insT
  rw [if_neg (by rw [h y List.mem_cons_self]; decide), insT_put (fun y hy => h y (List.mem_cons_of_mem _ hy)) hx]
  rfl
theorem any_none' {t : Tmr} {l : List Tmr} (h : l.any (fun y => ltT t y) = false) : ∀ y, y ∈ l → ltT t y = false := fun y hy => by
 cases hb : ltT t y with
 | false => rfl
 | true =>
  have : l.any (fun y => ltT t y) = true := List.any_eq_true.2 ⟨y, hy, hb⟩
  rw [h] at this
  cases this
attribute [local irreducible] Decidable.decide awp ARun regK toK
theorem ref_add_no (N : Int) (l : List Tmr) (t : Tmr) (ht : ¬ (N < t.due ∧ t.due - N ≤ 4294967295)) (hN : 0 ≤ N ∧ N ≤ 4000000000000000000) (hd : In64 t.due) : FnC Try.prog 40 [.agg (encCk N l), .agg (encTm t)] (.tup [.agg (encCk N l), .val (.int .i64 (-24))]) := by
 obtain ⟨hd1, hd2⟩ := hd
 by_cases q : t.due ≤ N
 ·have d1 : decide (t.due ≤ N) = true := decide_eq_true q
  refine goF Try.func40 (closedL_cons (.agg (encCk_closed N l)) (closedL_cons (.agg (encTm_closed t)) closedL_nil)) (fun w0 st0 => ?_)
  dsimp only [frOf]
  (repeat' (first | refine goA ?_ | refine goB ?_ | fail))
  exact awp_ret ⟨_, ResL.cons (ResA.agg rfl rfl rfl rfl rfl rfl rfl (RL.allClosed (encCk_closed N l))) (ResL.cons (ResA.tmp (.val _)) .nil), rfl⟩
 ·have d1 : decide (t.due ≤ N) = false := decide_eq_false q
  have d2 : decide (4294967295 < t.due - N) = true := decide_eq_true (by omega)
  refine goF Try.func40 (closedL_cons (.agg (encCk_closed N l)) (closedL_cons (.agg (encTm_closed t)) closedL_nil)) (fun w0 st0 => ?_)
  dsimp only [frOf]
  (repeat' (first | refine goA ?_ | refine goB ?_ | fail))
  exact awp_ret ⟨_, ResL.cons (ResA.agg rfl rfl rfl rfl rfl rfl rfl (RL.allClosed (encCk_closed N l))) (ResL.cons (ResA.tmp (.val _)) .nil), rfl⟩
set_option maxHeartbeats 8000000 in
theorem ref_add_c (N : Int) (l : List Tmr) (t : Tmr) (ht : N < t.due ∧ t.due - N ≤ 4294967295) (hN : 0 ≤ N ∧ N ≤ 4000000000000000000) (hl : l.length ≤ 900) : FnC Try.prog 40 [.agg (encCk N l), .agg (encTm t)] (.tup [.agg (encCk N (insT t l)), .val (.int .i64 0)]) := by
 have em : (((l.map encTm).length : Nat) : Int) = l.length := by rw [List.length_map]
 have d1 : decide (t.due ≤ N) = false := decide_eq_false (by omega)
 have d2 : decide (4294967295 < t.due - N) = false := decide_eq_false (by omega)
 refine goF Try.func40 (closedL_cons (.agg (encCk_closed N l)) (closedL_cons (.agg (encTm_closed t)) closedL_nil)) (fun w0 st0 => ?_)
 dsimp only [frOf]
 (repeat' (first | refine goA ?_ | refine goB ?_ | fail))
 refine awp_ownNil 6 6 rfl rfl rfl ?_
 refine awp_loopT (T := Nat × List (List AV) × Nat × Nat) (fun s => ⟨[(2, .ptr 2 0 0 0), (3, .ptr 3 1 0 0), (4, .ptr 4 2 0 0), (6, .own 6 s.2.2.1 0 s.2.1.length), (7, .val (.bool ((l.take s.1).any (fun y => ltT t y)))), (8, .val (.int .i64 (s.1 : Nat)))], [(2, some ⟨0, 2, [encCk N l]⟩), (3, some ⟨1, 6, [encTm t]⟩), (4, some ⟨2, 2, [[.val (.int .i64 0), .sl 0 true []]]⟩), (6, some ⟨s.2.2.1, 6, s.2.1⟩)], s.2.2.2⟩) (fun s => s.1 ≤ l.length ∧ s.2.1 = (addK t (l.take s.1)).map encTm) (fun s => l.length - s.1) (0, [], _, _) ⟨Nat.zero_le _, rfl⟩ ⟨⟨rfl, rfl, rfl, rfl, rfl, rfl, trivial⟩, ⟨rfl, rfl, rfl, rfl, trivial⟩, Nat.le_refl _⟩ (fun s hs => ?_)
 obtain ⟨k, r6, g6, gc⟩ := s
 dsimp only at hs ⊢
 obtain ⟨hk, e6⟩ := hs
 clear d1 d2
 have hl6 : r6.length ≤ 1000 := by
  rw [e6, List.length_map]
  unfold addK
  split
  ·rw [insT_len, List.length_take]; omega
  ·rw [List.length_take]; omega
 by_cases hlt : k < l.length
 ·have d2 : decide (((k : Nat) : Int) < ((l.map encTm).length : Nat)) = true := decide_eq_true (by omega)
  obtain ⟨x, hx⟩ : ∃ x, l[k]? = some x := ⟨_, List.getElem?_eq_getElem hlt⟩
  have hp : (l.map encTm)[((k : Nat) : Int).toNat]? = some (encTm x) := map_at hx
  have htk := take_succ' hx
  have hany : (l.take (k + 1)).any (fun y => ltT t y) = ((l.take k).any (fun y => ltT t y) || ltT t x) := by
   rw [htk, List.any_append, List.any_cons, List.any_nil, Bool.or_false]
  have c1 := ahead_c t x
  cases ha : (l.take k).any (fun y => ltT t y) with
  | true =>
   rw [ha, Bool.true_or] at hany
   have e2 : (addK t (l.take (k + 1))).map encTm = r6 ++ [encTm x] := by
    rw [e6]
    unfold addK
    rw [if_pos hany, if_pos ha, htk, insT_snoc ha, List.map_append]
    rfl
   have d5 : (!true) = false := rfl
   cases hb : ltT t x <;> rw [hb] at c1
   all_goals
    (repeat' (first | refine goA ?_ | refine ARun.indexAddr rfl rfl (by omega) (by with_reducible exact hp) rfl rfl rfl rfl rfl (guardF_spec rfl) ?_ | refine cX c1 ?_ | refine appO rfl ?_ | refine goB ?_ | fail))
    refine ⟨(k + 1, _, _, _), ⟨⟨rfl, rfl, rfl, rfl, by rw [hany]; rfl, rfl, trivial⟩, ⟨rfl, rfl, rfl, rfl, trivial⟩, Nat.le_refl _⟩, ⟨hlt, ?_⟩, (by dsimp only; omega)⟩
    dsimp only
    exact e2.symm
  | false =>
   rw [ha, Bool.false_or] at hany
   cases hb : ltT t x with
   | true =>
    rw [hb] at c1 hany
    have e2 : (addK t (l.take (k + 1))).map encTm = (r6 ++ [encTm t]) ++ [encTm x] := by
     rw [e6]
     unfold addK
     rw [if_pos hany, if_neg (by rw [ha]; decide), htk, insT_put (any_none' ha) hb, List.map_append, List.map_append]
     rfl
    have d5 : (!false) = true := rfl
    (repeat' (first | refine goA ?_ | refine ARun.indexAddr rfl rfl (by omega) (by with_reducible exact hp) rfl rfl rfl rfl rfl (guardF_spec rfl) ?_ | refine cX c1 ?_ | refine appO rfl ?_ | refine goB ?_ | fail))
    refine ⟨(k + 1, _, _, _), ⟨⟨rfl, rfl, rfl, rfl, by rw [hany]; rfl, rfl, trivial⟩, ⟨rfl, rfl, rfl, rfl, trivial⟩, Nat.le_refl _⟩, ⟨hlt, ?_⟩, (by dsimp only; omega)⟩
    dsimp only
    exact e2.symm
   | false =>
    rw [hb] at c1 hany
    have e2 : (addK t (l.take (k + 1))).map encTm = r6 ++ [encTm x] := by
     rw [e6]
     unfold addK
     rw [if_neg (by rw [hany]; decide), if_neg (by rw [ha]; decide), htk, List.map_append]
     rfl
    (repeat' (first | refine goA ?_ | refine ARun.indexAddr rfl rfl (by omega) (by with_reducible exact hp) rfl rfl rfl rfl rfl (guardF_spec rfl) ?_ | refine cX c1 ?_ | refine appO rfl ?_ | refine goB ?_ | fail))
    refine ⟨(k + 1, _, _, _), ⟨⟨rfl, rfl, rfl, rfl, by rw [hany]; rfl, rfl, trivial⟩, ⟨rfl, rfl, rfl, rfl, trivial⟩, Nat.le_refl _⟩, ⟨hlt, ?_⟩, (by dsimp only; omega)⟩
    dsimp only
    exact e2.symm
 ·have d2 : decide (((k : Nat) : Int) < ((l.map encTm).length : Nat)) = false := decide_eq_false (by omega)
  have hfull : l.take k = l := List.take_of_length_le (by omega)
  rw [hfull] at e6 ⊢
  cases ha : l.any (fun y => ltT t y) with
  | true =>
   have d5 : (!true) = false := rfl
   have e2 : r6 = (insT t l).map encTm := by
    rw [e6]
    unfold addK
    rw [if_pos ha]
   subst e2
   (repeat' (first | refine goN ?_ | refine awp_region_ne 15 rfl (fun _ => hmix) ?_ | refine ARun.o rfl ?_ | refine goB ?_ | ((fail_if_success refine ARun.plain rfl ?_); refine ARun.fork rfl rfl rfl (fun h => ?_) (fun h => ?_)) | refine awp_cond rfl (fun h => ?_) (fun h => ?_)))
   refine awp_freeze 6 _ 6 ((insT t l).map encTm) (fr' := [(2, .ptr 2 0 0 0), (4, .ptr 4 2 0 0), (6, .sl 6 false ((insT t l).map encTm))]) (hp' := [(2, some ⟨0, 2, [encCk N l]⟩), (4, some ⟨2, 2, [[.val (.int .i64 0), .sl 0 true []]]⟩)]) rfl (rows_closed _) ⟨.inl rfl, .inl rfl, .inr ⟨_, rfl, rfl, rfl⟩, trivial⟩ ⟨⟨rfl, rfl⟩, ⟨rfl, rfl⟩, trivial⟩ ?_
   (repeat' (first | refine goA ?_ | refine goB ?_ | fail))
   exact awp_ret ⟨_, ResL.cons (ResA.agg rfl rfl rfl rfl rfl rfl rfl (RL.allClosed (encCk_closed N _))) (ResL.cons (ResA.tmp (.val _)) .nil), rfl⟩
  | false =>
   have d5 : (!false) = true := rfl
   have e2 : r6 ++ [encTm t] = (insT t l).map encTm := by
    rw [e6]
    unfold addK
    rw [if_neg (by rw [ha]; decide), insT_end (any_none' ha), List.map_append]
    rfl
   (repeat' (first | refine goN ?_ | refine awp_region_ne 15 rfl (fun _ => hmix) ?_ | refine ARun.o rfl ?_ | refine appO rfl ?_ | refine goB ?_ | ((fail_if_success refine ARun.plain rfl ?_); refine ARun.fork rfl rfl rfl (fun h => ?_) (fun h => ?_)) | refine awp_cond rfl (fun h => ?_) (fun h => ?_)))
   refine awp_freeze 6 _ 6 (r6 ++ [encTm t]) (fr' := [(2, .ptr 2 0 0 0), (4, .ptr 4 2 0 0), (6, .sl 6 false (r6 ++ [encTm t]))]) (hp' := [(2, some ⟨0, 2, [encCk N l]⟩), (4, some ⟨2, 2, [[.val (.int .i64 0), .sl 0 true []]]⟩)]) rfl (by rw [e2]; exact rows_closed _) ⟨.inl rfl, .inl rfl, .inr ⟨_, rfl, rfl, rfl⟩, trivial⟩ ⟨⟨rfl, rfl⟩, ⟨rfl, rfl⟩, trivial⟩ ?_
   rw [e2]
   (repeat' (first | refine goA ?_ | refine goB ?_ | fail))
   exact awp_ret ⟨_, ResL.cons (ResA.agg rfl rfl rfl rfl rfl rfl rfl (RL.allClosed (encCk_closed N _))) (ResL.cons (ResA.tmp (.val _)) .nil), rfl⟩
end Go.Proofs.Ytkmlmboclegpcaa
namespace Go.Proofs.Ytkmlmboclegpcaa
open Go Go.RowKit
set_option maxRecDepth 100000
def encQ (N : Int) (l : List Tmr) (r : Int) : List AV := [.val (.int .i64 N), encTs l, .val (.int .i64 r)]
theorem encQ_closed (N : Int) (l : List Tmr) (r : Int) : ∀ x, x ∈ encQ N l r → Closed x := closedL_cons (.val _) (closedL_cons (closed_ts l) (closedL_cons (.val _) closedL_nil))
def qstT (t : Tmr) (n d : Int) (b : Bool) : Tmr := ⟨t.id, n + d, if b = true then d else 0, t.rank, t.hand, t.arg⟩
def qres (N : Int) (l : List Tmr) (r : Int) (t : Tmr) (d : Int) (b : Bool) : AV := if l.any (idB t.id) = true then .tup [.agg (encQ N l r), .val (.int .i64 (-24))] else if r ≤ (l.length : Nat) then .tup [.agg (encQ N l r), .val (.int .i64 (-258))] else .tup [.agg (encQ N (insT (qstT t N d b) l) r), .val (.int .i64 0)]
attribute [local irreducible] Decidable.decide awp ARun regK toK agL
theorem qnew_no {n r : Int} (h : ¬ ((0 ≤ n ∧ n ≤ 2305843009213693952) ∧ 0 ≤ r ∧ r ≤ 64)) : FnC Try.prog 12 [.val (.int .i64 n), .val (.int .i64 r)] (.tup [.agg (encQ 0 [] 0), .val (.int .i64 (-24))]) := by
 by_cases h1 : 0 ≤ n ∧ n ≤ 2305843009213693952
 ·have c1 := ref_new_yes h1
  have z1 : ((0 : Int) != 0) = false := by simp
  by_cases h2 : r < 0
  ·have d1 : decide (r < 0) = true := decide_eq_true h2
   refine goF Try.func12 (closedL_cons (.val _) (closedL_cons (.val _) closedL_nil)) (fun w0 st0 => ?_)
   dsimp only [frOf]
   (repeat' (first | refine goA ?_ | refine cX c1 ?_ | refine goB ?_ | fail))
   exact awp_ret ⟨_, (ResL.cons (ResA.agg rfl rfl rfl rfl rfl rfl rfl (RL.cons (Reif.val _) (RL.cons Reif.nilSl (RL.cons (Reif.val _) (RL.nil _))))) (ResL.cons (ResA.tmp (.val _)) .nil)), rfl⟩
  ·have d1 : decide (r < 0) = false := decide_eq_false h2
   have d2 : decide (64 < r) = true := decide_eq_true (by omega)
   refine goF Try.func12 (closedL_cons (.val _) (closedL_cons (.val _) closedL_nil)) (fun w0 st0 => ?_)
   dsimp only [frOf]
   (repeat' (first | refine goA ?_ | refine cX c1 ?_ | refine goB ?_ | fail))
   exact awp_ret ⟨_, (ResL.cons (ResA.agg rfl rfl rfl rfl rfl rfl rfl (RL.cons (Reif.val _) (RL.cons Reif.nilSl (RL.cons (Reif.val _) (RL.nil _))))) (ResL.cons (ResA.tmp (.val _)) .nil)), rfl⟩
 ·have c1 := ref_new_no h1
  have z1 : ((-24 : Int) != 0) = true := by simp
  refine goF Try.func12 (closedL_cons (.val _) (closedL_cons (.val _) closedL_nil)) (fun w0 st0 => ?_)
  dsimp only [frOf]
  (repeat' (first | refine goA ?_ | refine cX c1 ?_ | refine goB ?_ | fail))
  exact awp_ret ⟨_, (ResL.cons (ResA.agg rfl rfl rfl rfl rfl rfl rfl (RL.cons (Reif.val _) (RL.cons Reif.nilSl (RL.cons (Reif.val _) (RL.nil _))))) (ResL.cons (ResA.tmp (.val _)) .nil)), rfl⟩
theorem qnew_yes {n r : Int} (h : (0 ≤ n ∧ n ≤ 2305843009213693952) ∧ 0 ≤ r ∧ r ≤ 64) : FnC Try.prog 12 [.val (.int .i64 n), .val (.int .i64 r)] (.tup [.agg (encQ n [] r), .val (.int .i64 0)]) := by
 have c1 := ref_new_yes h.1
 have z1 : ((0 : Int) != 0) = false := by simp
 have d1 : decide (r < 0) = false := decide_eq_false (by omega)
 have d2 : decide (64 < r) = false := decide_eq_false (by omega)
 refine goF Try.func12 (closedL_cons (.val _) (closedL_cons (.val _) closedL_nil)) (fun w0 st0 => ?_)
 dsimp only [frOf]
 (repeat' (first | refine goA ?_ | refine cX c1 ?_ | refine goB ?_ | fail))
 exact awp_ret ⟨_, (ResL.cons (ResA.agg rfl rfl rfl rfl rfl rfl rfl (RL.allClosed (encQ_closed _ _ _))) (ResL.cons (ResA.tmp (.val _)) .nil)), rfl⟩
theorem qfree_c (N : Int) (l : List Tmr) (r : Int) (hl : l.length ≤ 1000) (hr : 0 ≤ r ∧ r ≤ 1000) : FnC Try.prog 21 [.agg (encQ N l r)] (.val (.int .i64 (r - (l.length : Nat)))) := by
 have em : (((l.map encTm).length : Nat) : Int) = l.length := by rw [List.length_map]
 rw [← em]
 refine goF Try.func21 (closedL_cons (.agg (encQ_closed N l r)) closedL_nil) (fun w0 st0 => ?_)
 dsimp only [frOf]
 (repeat' (first | refine goA ?_ | refine goB ?_ | fail))
 exact awp_ret ⟨_, ResL.cons (ResA.tmp (.val _)) .nil, rfl⟩
theorem qcancel_c (N : Int) (l : List Tmr) (r i : Int) (hl : l.length ≤ 1000) : FnC Try.prog 16 [.agg (encQ N l r), .val (.int .i64 i)] (.tup [.agg (encQ N (l.filter (fun t => !idB i t)) r), .val (.bool (l.any (idB i)))]) := by
 have c1 := ref_cut_c N l i hl
 refine goF Try.func16 (closedL_cons (.agg (encQ_closed N l r)) (closedL_cons (.val _) closedL_nil)) (fun w0 st0 => ?_)
 dsimp only [frOf]
 (repeat' (first | refine goA ?_ | refine cX c1 ?_ | refine goB ?_ | fail))
 exact awp_ret ⟨_, (ResL.cons (ResA.agg rfl rfl rfl rfl rfl rfl rfl (RL.allClosed (encQ_closed _ _ _))) (ResL.cons (ResA.tmp (.val _)) .nil)), rfl⟩
theorem qstart_rng (N : Int) (l : List Tmr) (r : Int) (t : Tmr) (d : Int) (b : Bool) (hd : ¬ (1 ≤ d ∧ d ≤ 4294967295)) : FnC Try.prog 14 [.agg (encQ N l r), .agg (encTm t), .val (.int .i64 d), .val (.bool b)] (.tup [.agg (encQ N l r), .val (.int .i64 (-24))]) := by
 by_cases h1 : d < 1
 ·have d1 : decide (d < 1) = true := decide_eq_true h1
  refine goF Try.func14 (closedL_cons (.agg (encQ_closed N l r)) (closedL_cons (.agg (encTm_closed t)) (closedL_cons (.val _) (closedL_cons (.val _) closedL_nil)))) (fun w0 st0 => ?_)
  dsimp only [frOf]
  (repeat' (first | refine goA ?_ | refine goB ?_ | fail))
  exact awp_ret ⟨_, (ResL.cons (ResA.agg rfl rfl rfl rfl rfl rfl rfl (RL.allClosed (encQ_closed _ _ _))) (ResL.cons (ResA.tmp (.val _)) .nil)), rfl⟩
 ·have d1 : decide (d < 1) = false := decide_eq_false h1
  have d2 : decide (4294967295 < d) = true := decide_eq_true (by omega)
  refine goF Try.func14 (closedL_cons (.agg (encQ_closed N l r)) (closedL_cons (.agg (encTm_closed t)) (closedL_cons (.val _) (closedL_cons (.val _) closedL_nil)))) (fun w0 st0 => ?_)
  dsimp only [frOf]
  (repeat' (first | refine goA ?_ | refine goB ?_ | fail))
  exact awp_ret ⟨_, (ResL.cons (ResA.agg rfl rfl rfl rfl rfl rfl rfl (RL.allClosed (encQ_closed _ _ _))) (ResL.cons (ResA.tmp (.val _)) .nil)), rfl⟩
set_option maxHeartbeats 8000000 in
theorem qstart_c (N : Int) (l : List Tmr) (r : Int) (t : Tmr) (d : Int) (b : Bool) (hd : 1 ≤ d ∧ d ≤ 4294967295) (hN : 0 ≤ N ∧ N ≤ 4000000000000000000) (hl : l.length ≤ 900) (hr : 0 ≤ r ∧ r ≤ 1000) : FnC Try.prog 14 [.agg (encQ N l r), .agg (encTm t), .val (.int .i64 d), .val (.bool b)] (qres N l r t d b) := by
 have em : (((l.map encTm).length : Nat) : Int) = l.length := by rw [List.length_map]
 have d1 : decide (d < 1) = false := decide_eq_false (by omega)
 have d2 : decide (4294967295 < d) = false := decide_eq_false (by omega)
 have hS : In64 t.id ∨ True := .inr trivial
 refine goF Try.func14 (closedL_cons (.agg (encQ_closed N l r)) (closedL_cons (.agg (encTm_closed t)) (closedL_cons (.val _) (closedL_cons (.val _) closedL_nil)))) (fun w0 st0 => ?_)
 dsimp only [frOf]
 (repeat' (first | refine goA ?_ | refine goB ?_ | fail))
 refine awp_loopT (T := Nat × Nat) (fun s => ⟨[(2, .val (.int .i64 d)), (3, .val (.bool b)), (4, .ptr 4 0 0 0), (5, .ptr 5 1 0 0), (8, .ptr 8 2 0 0), (9, .val (.int .i64 0)), (10, .val (.int .i64 (s.1 : Nat)))], [(4, some ⟨0, 3, [encQ N l r]⟩), (5, some ⟨1, 6, [encTm t]⟩), (8, some ⟨2, 3, [[.val (.int .i64 0), .sl 0 true [], .val (.int .i64 0)]]⟩)], s.2⟩) (fun s => s.1 ≤ l.length ∧ ∀ y, y ∈ l.take s.1 → idB t.id y = false) (fun s => l.length - s.1) (0, _) ⟨Nat.zero_le _, fun y hy => by simp at hy⟩ ⟨⟨rfl, rfl, rfl, rfl, rfl, rfl, rfl, trivial⟩, ⟨rfl, rfl, rfl, trivial⟩, Nat.le_refl _⟩ (fun s hs => ?_)
 obtain ⟨k, gc⟩ := s
 dsimp only at hs ⊢
 obtain ⟨hk, hno⟩ := hs
 by_cases hlt : k < l.length
 ·have d3 : decide (((k : Nat) : Int) < ((l.map encTm).length : Nat)) = true := decide_eq_true (by omega)
  obtain ⟨x, hx⟩ : ∃ x, l[k]? = some x := ⟨_, List.getElem?_eq_getElem hlt⟩
  have hp : (l.map encTm)[((k : Nat) : Int).toNat]? = some (encTm x) := map_at hx
  cases hb : idB t.id x with
  | true =>
   have d4 : (x.id == t.id) = true := hb
   have hq : qres N l r t d b = .tup [.agg (encQ N l r), .val (.int .i64 (-24))] := if_pos (List.any_eq_true.2 ⟨x, List.mem_of_getElem? hx, hb⟩)
   rw [hq]
   (repeat' (first | refine goA ?_ | refine ARun.indexAddr rfl rfl (by omega) (by with_reducible exact hp) rfl rfl rfl rfl rfl (guardF_spec rfl) ?_ | refine goB ?_ | fail))
   exact awp_ret ⟨_, (ResL.cons (ResA.agg rfl rfl rfl rfl rfl rfl rfl (RL.allClosed (encQ_closed _ _ _))) (ResL.cons (ResA.tmp (.val _)) .nil)), rfl⟩
  | false =>
   have d4 : (x.id == t.id) = false := hb
   (repeat' (first | refine goA ?_ | refine ARun.indexAddr rfl rfl (by omega) (by with_reducible exact hp) rfl rfl rfl rfl rfl (guardF_spec rfl) ?_ | refine goB ?_ | fail))
   exact ⟨(k + 1, _), ⟨⟨rfl, rfl, rfl, rfl, rfl, rfl, rfl, trivial⟩, ⟨rfl, rfl, rfl, trivial⟩, Nat.le_refl _⟩, ⟨hlt, take_no hno hx hb⟩, (by dsimp only; omega)⟩
 ·have d3 : decide (((k : Nat) : Int) < ((l.map encTm).length : Nat)) = false := decide_eq_false (by omega)
  rw [List.take_of_length_le (by omega)] at hno
  have hany : l.any (idB t.id) = false := any_no hno
  by_cases hf : r ≤ (l.length : Nat)
  ·have d5 : decide (r ≤ ((l.map encTm).length : Nat)) = true := decide_eq_true (by omega)
   have hq : qres N l r t d b = .tup [.agg (encQ N l r), .val (.int .i64 (-258))] := by unfold qres; rw [if_neg (by rw [hany]; decide), if_pos hf]
   rw [hq]
   (repeat' (first | refine goA ?_ | refine goB ?_ | fail))
   exact awp_ret ⟨_, (ResL.cons (ResA.agg rfl rfl rfl rfl rfl rfl rfl (RL.allClosed (encQ_closed _ _ _))) (ResL.cons (ResA.tmp (.val _)) .nil)), rfl⟩
  ·have d5 : decide (r ≤ ((l.map encTm).length : Nat)) = false := decide_eq_false (by omega)
   have hq : qres N l r t d b = .tup [.agg (encQ N (insT (qstT t N d b) l) r), .val (.int .i64 0)] := by unfold qres; rw [if_neg (by rw [hany]; decide), if_neg hf]
   rw [hq]
   have c1 := ref_add_c N l (qstT t N d b) ⟨by show N < N + d; omega, by show N + d - N ≤ _; omega⟩ hN hl
   cases b with
   | true =>
    generalize insT (qstT t N d true) l = L at *
    (repeat' (first | refine goA ?_ | refine cX c1 ?_ | refine goB ?_ | fail))
    exact awp_ret ⟨_, (ResL.cons (ResA.agg rfl rfl rfl rfl rfl rfl rfl (RL.allClosed (encQ_closed _ _ _))) (ResL.cons (ResA.tmp (.val _)) .nil)), rfl⟩
   | false =>
    generalize insT (qstT t N d false) l = L at *
    (repeat' (first | refine goA ?_ | refine cX c1 ?_ | refine goB ?_ | fail))
    exact awp_ret ⟨_, (ResL.cons (ResA.agg rfl rfl rfl rfl rfl rfl rfl (RL.allClosed (encQ_closed _ _ _))) (ResL.cons (ResA.tmp (.val _)) .nil)), rfl⟩
set_option maxHeartbeats 8000000 in
theorem qtick_c (N : Int) (l : List Tmr) (r : Int) (hN : 0 ≤ N ∧ N + 1 ≤ 4000000000000000000) (hl : l.length ≤ 900) (he : EachOk l) : FnC Try.prog 18 [.agg (encQ N l r)] (.tup [.agg (encQ (N + 1) (nextL N l) r), encTs (l.filter (dueB (N + 1)))]) := by
 have c1 := ref_tick_c N l (by omega) (by omega)
 have hpl := part_len l (dueB (N + 1))
 have hdu : ∀ t, t ∈ l.filter (dueB (N + 1)) → t.due = N + 1 := due_in
 have heo := he.filter (dueB (N + 1))
 have enx : nextL N l = insL (l.filter (fun t => !dueB (N + 1) t)) (agL (l.filter (dueB (N + 1)))) := rfl
 rw [enx]
 generalize l.filter (fun t => !dueB (N + 1) t) = R at *
 generalize l.filter (dueB (N + 1)) = O at *
 have em : (((O.map encTm).length : Nat) : Int) = O.length := by rw [List.length_map]
 have e0 : insL R (agL (O.take 0)) = R := by unfold agL; rfl
 refine goF Try.func18 (closedL_cons (.agg (encQ_closed N l r)) closedL_nil) (fun w0 st0 => ?_)
 dsimp only [frOf]
 (repeat' (first | refine goA ?_ | refine cX c1 ?_ | refine goB ?_ | fail))
 refine awp_loopT (T := Nat × List Tmr × Nat) (fun s => ⟨[(1, .ptr 1 0 0 0), (2, .ptr 2 1 0 0), (4, .ptr 4 9 0 0), (5, encTs O), (6, .val (.int .i64 (s.1 : Nat)))], [(1, some ⟨0, 3, [encQ N l r]⟩), (2, some ⟨1, 3, [[.val (.int .i64 0), .sl 0 true [], .val (.int .i64 0)]]⟩), (4, some ⟨9, 2, [encCk (N + 1) s.2.1]⟩)], s.2.2⟩) (fun s => s.1 ≤ O.length ∧ s.2.1 = insL R (agL (O.take s.1))) (fun s => O.length - s.1) (0, R, _) ⟨Nat.zero_le _, e0.symm⟩ ⟨⟨rfl, rfl, rfl, rfl, rfl, trivial⟩, ⟨rfl, rfl, rfl, trivial⟩, Nat.le_refl _⟩ (fun s hs => ?_)
 obtain ⟨k, L, gc⟩ := s
 dsimp only at hs ⊢
 obtain ⟨hk, hL⟩ := hs
 clear c1
 by_cases hlt : k < O.length
 ·have d3 : decide (((k : Nat) : Int) < ((O.map encTm).length : Nat)) = true := decide_eq_true (by omega)
  obtain ⟨x, hx⟩ : ∃ x, O[k]? = some x := ⟨_, List.getElem?_eq_getElem hlt⟩
  have hp : (O.map encTm)[((k : Nat) : Int).toNat]? = some (encTm x) := map_at hx
  have hxd := hdu x (List.mem_of_getElem? hx)
  have hxe := heo x (List.mem_of_getElem? hx)
  have e1 := agL_take hx
  have hag := agL_len (O.take k)
  rw [List.length_take] at hag
  have hLl : L.length ≤ 900 := by rw [hL, insL_len]; omega
  by_cases h0 : x.each = 0
  ·have d4 : decide (0 < x.each) = false := decide_eq_false (by omega)
   have hb : agB x = false := by unfold agB; rw [beq_iff_eq.2 h0]; rfl
   rw [if_neg (by rw [hb]; decide)] at e1
   (repeat' (first | refine goA ?_ | refine ARun.indexAddr rfl rfl (by omega) (by with_reducible exact hp) rfl rfl rfl rfl rfl (guardF_spec rfl) ?_ | refine goB ?_ | fail))
   exact ⟨(k + 1, L, _), ⟨⟨rfl, rfl, rfl, rfl, rfl, trivial⟩, ⟨rfl, rfl, rfl, trivial⟩, Nat.le_refl _⟩, ⟨hlt, by dsimp only; rw [e1]; exact hL⟩, (by dsimp only; omega)⟩
  ·have d4 : decide (0 < x.each) = true := decide_eq_true (by omega)
   have hb : agB x = true := by unfold agB; rw [beq_eq_false_iff_ne.2 h0]; rfl
   rw [if_pos hb] at e1
   have c3 := ref_add_c (N + 1) L (agT x) ⟨by show N + 1 < x.due + x.each; omega, by show x.due + x.each - (N + 1) ≤ _; omega⟩ (by omega) hLl
   have eL : insT (agT x) L = insL R (agL (O.take (k + 1))) := by rw [e1, insL_snoc, hL]
   obtain ⟨L2, hL2⟩ : ∃ L2, L2 = insL R (agL (O.take (k + 1))) := ⟨_, rfl⟩
   rw [eL, ← hL2] at c3
   (repeat' (first | refine goA ?_ | refine ARun.indexAddr rfl rfl (by omega) (by with_reducible exact hp) rfl rfl rfl rfl rfl (guardF_spec rfl) ?_ | refine cX c3 ?_ | refine goB ?_ | fail))
   exact ⟨(k + 1, L2, _), ⟨⟨rfl, rfl, rfl, rfl, rfl, trivial⟩, ⟨rfl, rfl, rfl, trivial⟩, Nat.le_refl _⟩, ⟨hlt, hL2⟩, (by dsimp only; omega)⟩
 ·have d3 : decide (((k : Nat) : Int) < ((O.map encTm).length : Nat)) = false := decide_eq_false (by omega)
  rw [List.take_of_length_le (by omega)] at hL
  subst hL
  generalize insL R (agL O) = L at *
  (repeat' (first | refine goA ?_ | refine goB ?_ | fail))
  exact awp_ret ⟨_, ResL.cons (ResA.agg rfl rfl rfl rfl rfl rfl rfl (RL.allClosed (encQ_closed _ _ _))) (ResL.cons (ResA.tmp (.closed _ (closed_ts O))) .nil), rfl⟩
end Go.Proofs.Ytkmlmboclegpcaa
namespace Go.Proofs.Ytkmlmboclegpcaa
open Go Go.RowKit
set_option maxRecDepth 100000
structure ActU where
 k : Int
 i : Int
 d : Int
 b : Bool
 n : Int
def encAcU (x : ActU) : List AV := [.val (.int .u8 x.k), .val (.int .i64 x.i), .val (.int .i64 x.d), .val (.bool x.b), .val (.int .u16 x.n)]
theorem encAcU_closed (x : ActU) : ∀ y, y ∈ encAcU x → Closed y := closedL_cons (.val _) (closedL_cons (.val _) (closedL_cons (.val _) (closedL_cons (.val _) (closedL_cons (.val _) closedL_nil))))
theorem acu_at {l : List ActU} {i : Nat} {x : ActU} (h : l[i]? = some x) : (l.map encAcU)[i]? = some (encAcU x) := by rw [List.getElem?_map, h]; rfl
theorem mod_of {d m : Int} (h : 0 ≤ d) (hm : 0 < m) : 0 ≤ d.tmod m ∧ d.tmod m < m := by
 rw [Int.tmod_eq_emod_of_nonneg h]
 exact ⟨Int.emod_nonneg _ (by omega), Int.emod_lt_of_pos _ hm⟩
theorem qres_id {N : Int} {l : List Tmr} {r : Int} {t : Tmr} {d : Int} {b : Bool} (h : l.any (idB t.id) = true) : qres N l r t d b = .tup [.agg (encQ N l r), .val (.int .i64 (-24))] := if_pos h
theorem qres_full {N : Int} {l : List Tmr} {r : Int} {t : Tmr} {d : Int} {b : Bool} (h : l.any (idB t.id) = false) (hf : r ≤ (l.length : Nat)) : qres N l r t d b = .tup [.agg (encQ N l r), .val (.int .i64 (-258))] := by unfold qres; rw [if_neg (by rw [h]; decide), if_pos hf]
theorem qres_ok {N : Int} {l : List Tmr} {r : Int} {t : Tmr} {d : Int} {b : Bool} (h : l.any (idB t.id) = false) (hf : ¬ r ≤ (l.length : Nat)) : qres N l r t d b = .tup [.agg (encQ N (insT (stT t N d b) l) r), .val (.int .i64 0)] := by unfold qres; rw [if_neg (by rw [h]; decide), if_neg hf]; rfl
attribute [local irreducible] Decidable.decide awp ARun regK toK zP zW encP zBig30 zBig28 dueB nextL
set_option maxHeartbeats 64000000 in
theorem tells20_c (n r : Int) (acts : List ActU) (hn : In64 n) (hr : In64 r) (ha : ∀ a, a ∈ acts → (0 ≤ a.k ∧ a.k ≤ 255) ∧ In64 a.i ∧ In64 a.d ∧ True ∧ (0 ≤ a.n ∧ a.n ≤ 65535)) : FnC Try.prog 3 [.val (.int .i64 n), .val (.int .i64 r), .sl 5 false (acts.map encAcU)] (.val (.bool true)) := by
 have c0 := shown20_c
 have lz := zP_len
 have em : (((acts.map encAcU).length : Nat) : Int) = acts.length := by rw [List.length_map]
 have z1 : ((0 : Int) != 0) = false := by simp
 have z2 : ((-24 : Int) != 0) = true := by simp
 have z3 : ((-24 : Int) != -24) = false := by simp
 have z4 : ((-258 : Int) != -258) = false := by simp
 have z5 : ((0 : Int) == 0) = true := by simp
 by_cases h25 : 20 < acts.length
 ·have d1 : decide ((20 : Int) < ((acts.map encAcU).length : Nat)) = true := decide_eq_true (by omega)
  refine goF Try.func3 (closedL_cons (.val _) (closedL_cons (.val _) (closedL_cons (closed_map encAcU_closed) closedL_nil))) (fun w0 st0 => ?_)
  dsimp only [frOf]
  (repeat' (first | refine goA ?_ | refine cX c0 ?_ | refine goB ?_ | fail))
  exact awp_ret ⟨_, ResL.cons (ResA.tmp (.val _)) .nil, rfl⟩
 have d1 : decide ((20 : Int) < ((acts.map encAcU).length : Nat)) = false := decide_eq_false (by omega)
 by_cases h : pnewB n r
 case neg =>
  have c1 := pnew_no h
  have c2 := qnew_no h
  have lw : (encWh (wNew 0)).length = 1025 := encWh_len (wNew_len 0)
  have lp : (encP (encWh (wNew 0)) 0 0).length = 1027 := encP_len lw
  have g1 := p_many (m := 0) (r := 0) lw
  have g2 := p_room (m := 0) (r := 0) lw
  generalize encP (encWh (wNew 0)) 0 0 = P0 at *
  refine goF Try.func3 (closedL_cons (.val _) (closedL_cons (.val _) (closedL_cons (closed_map encAcU_closed) closedL_nil))) (fun w0 st0 => ?_)
  dsimp only [frOf]
  (repeat' (first | refine storeW (t := 30) rfl rfl rfl rfl rfl (by assumption) (by assumption) rfl rfl ?_ | refine loadW (t := 30) rfl rfl rfl rfl rfl (by assumption) rfl rfl ?_ | refine allocW (t := 30) rfl zPall zP_eq zP_len rfl rfl rfl ?_ | refine goA ?_ | refine cX c0 ?_ | refine cX c1 ?_ | refine cX c2 ?_ | refine loadC rfl rfl rfl rfl rfl g1 rfl rfl ?_ | refine loadC rfl rfl rfl rfl rfl g2 rfl rfl ?_ | refine goB ?_ | fail))
  exact awp_ret ⟨_, ResL.cons (ResA.tmp (.val _)) .nil, congrArg (fun b => AV.val (.bool b)) z5.symm⟩
 obtain ⟨p, hw, c1⟩ := pv_new h
 have c2 := qnew_yes h
 have lw := hw.len
 obtain ⟨⟨hn0, hn1⟩, hr0, hr1⟩ := h
 refine goF Try.func3 (closedL_cons (.val _) (closedL_cons (.val _) (closedL_cons (closed_map encAcU_closed) closedL_nil))) (fun w0 st0 => ?_)
 dsimp only [frOf]
 (repeat' (first | refine storeW (t := 30) rfl rfl rfl rfl rfl (by assumption) (by assumption) rfl rfl ?_ | refine loadW (t := 30) rfl rfl rfl rfl rfl (by assumption) rfl rfl ?_ | refine allocW (t := 30) rfl zPall zP_eq zP_len rfl rfl rfl ?_ | refine goA ?_ | refine cX c0 ?_ | refine cX c1 ?_ | refine cX c2 ?_ | refine goB ?_ | fail))
 refine awp_loopT (T := Nat × List AV × Int × List Tmr × Nat × Nat × Nat) (fun t => ⟨[(2, .sl 5 false (acts.map encAcU)), (7, .val (.bool true)), (8, .ptr 8 t.2.2.2.2.1 0 0), (10, .ptr 10 t.2.2.2.2.2.1 0 0), (12, .val (.int .i64 (t.1 : Nat)))], [(8, some ⟨t.2.2.2.2.1, 1027, [t.2.1]⟩), (10, some ⟨t.2.2.2.2.2.1, 3, [encQ t.2.2.1 t.2.2.2.1 r]⟩)], t.2.2.2.2.2.2⟩) (fun t => t.1 ≤ acts.length ∧ PV t.2.1 t.2.2.2.1 t.2.2.1 r ∧ t.2.2.1 ≤ n + 300 * (t.1 : Nat)) (fun t => acts.length - t.1) (0, p, n, [], _, _, _) ⟨Nat.zero_le _, hw, by dsimp only; omega⟩ ⟨⟨rfl, rfl, rfl, rfl, rfl, trivial⟩, ⟨rfl, rfl, trivial⟩, Nat.le_refl _⟩ (fun t ht => ?_)
 clear c0 c1 c2 hw lw
 obtain ⟨i, p, N, l, G8, G10, gc⟩ := t
 dsimp only at ht ⊢
 obtain ⟨hi, hR, hN1⟩ := ht
 have lw := hR.len
 have hsz := hR.size
 have hN0 := hR.nn
 by_cases hlt : i < acts.length
 ·have d3 : decide (((i : Nat) : Int) < ((acts.map encAcU).length : Nat)) = true := decide_eq_true (by omega)
  obtain ⟨a, hai⟩ : ∃ a, acts[i]? = some a := ⟨_, List.getElem?_eq_getElem hlt⟩
  obtain ⟨hk, hid, hd, -, hnn⟩ := ha a (List.mem_of_getElem? hai)
  have hp : (acts.map encAcU)[((i : Nat) : Int).toNat]? = some (encAcU a) := acu_at hai
  have hk3 : a.k.tmod 3 = 0 ∨ a.k.tmod 3 = 1 ∨ a.k.tmod 3 = 2 := by
   have := mod_of (m := 3) hk.1 (by omega)
   omega
  have f4 : (!true) = false := rfl
  rcases hk3 with e | e | e
  ·have f0 : (a.k.tmod 3 == 0) = true := by rw [e]; simp
   by_cases hq : (1 ≤ a.d ∧ a.d ≤ 4294967295) ∧ l.any (idB a.i) = false
   ·obtain ⟨hq1, hq2⟩ := hq
    by_cases hf : r ≤ (l.length : Nat)
    ·have c3 := pv_start_full hR ⟨a.i, (i : Nat), (i : Nat), 1, 2, (i : Nat)⟩ a.d a.b hq1 hq2 hf
     have c4 := qstart_c N l r ⟨a.i, (i : Nat), (i : Nat), 1, 2, (i : Nat)⟩ a.d a.b hq1 (by omega) (by omega) (by omega)
     rw [qres_full hq2 hf] at c4
     have c5 := pv_free hR
     have c6 := qfree_c N l r (by omega) (by omega)
     have f2 : (r - (l.length : Nat) != r - (l.length : Nat)) = false := by simp
     have c7 := pv_all hR
     have c8 := same19_c l (by omega)
     have n5 := hR.now
     have f3 : (N != N) = false := by simp
     (repeat' (first | refine storeW (t := 30) rfl rfl rfl rfl rfl (by assumption) (by assumption) rfl rfl ?_ | refine loadW (t := 30) rfl rfl rfl rfl rfl (by assumption) rfl rfl ?_ | refine allocW (t := 30) rfl zPall zP_eq zP_len rfl rfl rfl ?_ | refine goA ?_ | refine ARun.indexAddr rfl rfl (by omega) (by with_reducible exact hp) rfl rfl rfl rfl rfl (guardF_spec rfl) ?_ | refine loadC rfl rfl rfl rfl rfl n5 rfl rfl ?_ | refine cX c3 ?_ | refine cX c4 ?_ | refine cX c5 ?_ | refine cX c6 ?_ | refine cX c7 ?_ | refine cX c8 ?_ | refine goB ?_ | fail))
     exact ⟨(i + 1, p, N, l, G8, G10, _), ⟨⟨rfl, rfl, rfl, rfl, rfl, trivial⟩, ⟨rfl, rfl, trivial⟩, Nat.le_refl _⟩, ⟨hlt, hR, by dsimp only; omega⟩, (by dsimp only; omega)⟩
    ·obtain ⟨p2, hX, c3⟩ := pv_start hR ⟨a.i, (i : Nat), (i : Nat), 1, 2, (i : Nat)⟩ a.d a.b hq1 hq2 (by omega)
     have c4 := qstart_c N l r ⟨a.i, (i : Nat), (i : Nat), 1, 2, (i : Nat)⟩ a.d a.b hq1 (by omega) (by omega) (by omega)
     rw [qres_ok hq2 hf] at c4
     generalize insT (stT ⟨a.i, (i : Nat), (i : Nat), 1, 2, (i : Nat)⟩ N a.d a.b) l = l2 at *
     have lx := hX.len
     have hs2 := hX.size
     have c5 := pv_free hX
     have c6 := qfree_c N l2 r (by omega) (by omega)
     have f2 : (r - (l2.length : Nat) != r - (l2.length : Nat)) = false := by simp
     have c7 := pv_all hX
     have c8 := same19_c l2 (by omega)
     have n5 := hX.now
     have f3 : (N != N) = false := by simp
     (repeat' (first | refine storeW (t := 30) rfl rfl rfl rfl rfl (by assumption) (by assumption) rfl rfl ?_ | refine loadW (t := 30) rfl rfl rfl rfl rfl (by assumption) rfl rfl ?_ | refine allocW (t := 30) rfl zPall zP_eq zP_len rfl rfl rfl ?_ | refine goA ?_ | refine ARun.indexAddr rfl rfl (by omega) (by with_reducible exact hp) rfl rfl rfl rfl rfl (guardF_spec rfl) ?_ | refine loadC rfl rfl rfl rfl rfl n5 rfl rfl ?_ | refine cX c3 ?_ | refine cX c4 ?_ | refine cX c5 ?_ | refine cX c6 ?_ | refine cX c7 ?_ | refine cX c8 ?_ | refine goB ?_ | fail))
     exact ⟨(i + 1, p2, N, l2, G8, G10, _), ⟨⟨rfl, rfl, rfl, rfl, rfl, trivial⟩, ⟨rfl, rfl, trivial⟩, Nat.le_refl _⟩, ⟨hlt, hX, by dsimp only; omega⟩, (by dsimp only; omega)⟩
   ·have c3 := pv_start_no hR ⟨a.i, (i : Nat), (i : Nat), 1, 2, (i : Nat)⟩ a.d a.b (by
     by_cases q : 1 ≤ a.d ∧ a.d ≤ 4294967295
     ·right
      cases hy : l.any (idB a.i) with
      | true => rfl
      | false => exact absurd ⟨q, hy⟩ hq
     ·exact .inl q)
    have c4 : FnC Try.prog 14 [.agg (encQ N l r), .agg (encTm ⟨a.i, (i : Nat), (i : Nat), 1, 2, (i : Nat)⟩), .val (.int .i64 a.d), .val (.bool a.b)] (.tup [.agg (encQ N l r), .val (.int .i64 (-24))]) := by
     by_cases q : 1 ≤ a.d ∧ a.d ≤ 4294967295
     ·have k := qstart_c N l r ⟨a.i, (i : Nat), (i : Nat), 1, 2, (i : Nat)⟩ a.d a.b q (by omega) (by omega) (by omega)
      rw [qres_id (by
       cases hy : l.any (idB a.i) with
       | true => rfl
       | false => exact absurd ⟨q, hy⟩ hq)] at k
      exact k
     ·exact qstart_rng N l r _ a.d a.b q
    have c5 := pv_free hR
    have c6 := qfree_c N l r (by omega) (by omega)
    have f2 : (r - (l.length : Nat) != r - (l.length : Nat)) = false := by simp
    have c7 := pv_all hR
    have c8 := same19_c l (by omega)
    have n5 := hR.now
    have f3 : (N != N) = false := by simp
    (repeat' (first | refine storeW (t := 30) rfl rfl rfl rfl rfl (by assumption) (by assumption) rfl rfl ?_ | refine loadW (t := 30) rfl rfl rfl rfl rfl (by assumption) rfl rfl ?_ | refine allocW (t := 30) rfl zPall zP_eq zP_len rfl rfl rfl ?_ | refine goA ?_ | refine ARun.indexAddr rfl rfl (by omega) (by with_reducible exact hp) rfl rfl rfl rfl rfl (guardF_spec rfl) ?_ | refine loadC rfl rfl rfl rfl rfl n5 rfl rfl ?_ | refine cX c3 ?_ | refine cX c4 ?_ | refine cX c5 ?_ | refine cX c6 ?_ | refine cX c7 ?_ | refine cX c8 ?_ | refine goB ?_ | fail))
    exact ⟨(i + 1, p, N, l, G8, G10, _), ⟨⟨rfl, rfl, rfl, rfl, rfl, trivial⟩, ⟨rfl, rfl, trivial⟩, Nat.le_refl _⟩, ⟨hlt, hR, by dsimp only; omega⟩, (by dsimp only; omega)⟩
  ·have f0 : (a.k.tmod 3 == 0) = false := by rw [e]; simp
   have f1 : (a.k.tmod 3 == 1) = true := by rw [e]; simp
   obtain ⟨p2, hX, c3⟩ := pv_cancel hR a.i
   have c4 := qcancel_c N l r a.i (by omega)
   have f5 : (l.any (idB a.i) != l.any (idB a.i)) = false := by simp
   generalize l.filter (fun t => !idB a.i t) = l2 at *
   have lx := hX.len
   have hs2 := hX.size
   have c5 := pv_free hX
   have c6 := qfree_c N l2 r (by omega) (by omega)
   have f2 : (r - (l2.length : Nat) != r - (l2.length : Nat)) = false := by simp
   have c7 := pv_all hX
   have c8 := same19_c l2 (by omega)
   have n5 := hX.now
   have f3 : (N != N) = false := by simp
   (repeat' (first | refine storeW (t := 30) rfl rfl rfl rfl rfl (by assumption) (by assumption) rfl rfl ?_ | refine loadW (t := 30) rfl rfl rfl rfl rfl (by assumption) rfl rfl ?_ | refine allocW (t := 30) rfl zPall zP_eq zP_len rfl rfl rfl ?_ | refine goA ?_ | refine ARun.indexAddr rfl rfl (by omega) (by with_reducible exact hp) rfl rfl rfl rfl rfl (guardF_spec rfl) ?_ | refine loadC rfl rfl rfl rfl rfl n5 rfl rfl ?_ | refine cX c3 ?_ | refine cX c4 ?_ | refine cX c5 ?_ | refine cX c6 ?_ | refine cX c7 ?_ | refine cX c8 ?_ | refine goB ?_ | fail))
   exact ⟨(i + 1, p2, N, l2, G8, G10, _), ⟨⟨rfl, rfl, rfl, rfl, rfl, trivial⟩, ⟨rfl, rfl, trivial⟩, Nat.le_refl _⟩, ⟨hlt, hX, by dsimp only; omega⟩, (by dsimp only; omega)⟩
  ·have f0 : (a.k.tmod 3 == 0) = false := by rw [e]; simp
   have f1 : (a.k.tmod 3 == 1) = false := by rw [e]; simp
   have f2 : (a.k.tmod 3 == 2) = true := by rw [e]; simp
   have hm6 := mod_of (m := 300) hnn.1 (by omega)
   obtain ⟨M, hM⟩ : ∃ M : Nat, a.n.tmod 300 = (M : Nat) := ⟨(a.n.tmod 300).toNat, by omega⟩
   (repeat' (first | refine goA ?_ | refine ARun.indexAddr rfl rfl (by omega) (by with_reducible exact hp) rfl rfl rfl rfl rfl (guardF_spec rfl) ?_ | refine goB ?_ | fail))
   refine awp_loopT (T := Nat × List AV × Int × List Tmr × Nat × Nat) (fun t => ⟨[(2, .sl 5 false (acts.map encAcU)), (7, .val (.bool true)), (8, .ptr 8 G8 0 0), (10, .ptr 10 G10 0 0), (12, .val (.int .i64 (i : Nat))), (13, .ptr 13 t.2.2.2.2.1 0 0), (23, .val (.int .i64 (t.1 : Nat)))], [(8, some ⟨G8, 1027, [t.2.1]⟩), (10, some ⟨G10, 3, [encQ t.2.2.1 t.2.2.2.1 r]⟩), (13, some ⟨t.2.2.2.2.1, 5, [encAcU a]⟩)], t.2.2.2.2.2⟩) (fun t => t.1 ≤ M ∧ PV t.2.1 t.2.2.2.1 t.2.2.1 r ∧ t.2.2.1 = N + (t.1 : Nat)) (fun t => M - t.1) (0, p, N, l, _, _) ⟨Nat.zero_le _, hR, by dsimp only; omega⟩ ⟨⟨rfl, rfl, rfl, rfl, rfl, rfl, rfl, trivial⟩, ⟨rfl, rfl, rfl, trivial⟩, Nat.le_refl _⟩ (fun t ht => ?_)
   clear hR lw hsz
   obtain ⟨k, p, N2, l, G13, gc2⟩ := t
   dsimp only at ht ⊢
   obtain ⟨hkM, hR, hN2⟩ := ht
   have lw := hR.len
   have hsz := hR.size
   by_cases hlk : k < M
   ·have d5 : decide (((k : Nat) : Int) < a.n.tmod 300) = true := decide_eq_true (by omega)
    obtain ⟨p2, hX, c3⟩ := pv_tick hR (by omega)
    have c4 := qtick_c N2 l r (by omega) (by omega) hR.each
    have lx := hX.len
    have hlg := List.length_filter_le (dueB (N2 + 1)) l
    have c6 := same19_c (l.filter (dueB (N2 + 1))) (by omega)
    generalize nextL N2 l = l2 at *
    generalize l.filter (dueB (N2 + 1)) = O at *
    (repeat' (first | refine storeW (t := 30) rfl rfl rfl rfl rfl (by assumption) (by assumption) rfl rfl ?_ | refine loadW (t := 30) rfl rfl rfl rfl rfl (by assumption) rfl rfl ?_ | refine allocW (t := 30) rfl zPall zP_eq zP_len rfl rfl rfl ?_ | refine goA ?_ | refine cX c3 ?_ | refine cX c4 ?_ | refine cX c6 ?_ | refine goB ?_ | fail))
    exact ⟨(k + 1, p2, N2 + 1, l2, G13, _), ⟨⟨rfl, rfl, rfl, rfl, rfl, rfl, rfl, trivial⟩, ⟨rfl, rfl, rfl, trivial⟩, Nat.le_refl _⟩, ⟨hlk, hX, by dsimp only; omega⟩, (by dsimp only; omega)⟩
   ·have d5 : decide (((k : Nat) : Int) < a.n.tmod 300) = false := decide_eq_false (by omega)
    have c5 := pv_free hR
    have c6 := qfree_c N2 l r (by omega) (by omega)
    have f5 : (r - (l.length : Nat) != r - (l.length : Nat)) = false := by simp
    have c7 := pv_all hR
    have c8 := same19_c l (by omega)
    have n5 := hR.now
    have f3 : (N2 != N2) = false := by simp
    (repeat' (first | refine storeW (t := 30) rfl rfl rfl rfl rfl (by assumption) (by assumption) rfl rfl ?_ | refine loadW (t := 30) rfl rfl rfl rfl rfl (by assumption) rfl rfl ?_ | refine allocW (t := 30) rfl zPall zP_eq zP_len rfl rfl rfl ?_ | refine goA ?_ | refine loadC rfl rfl rfl rfl rfl n5 rfl rfl ?_ | refine cX c5 ?_ | refine cX c6 ?_ | refine cX c7 ?_ | refine cX c8 ?_ | refine goB ?_ | fail))
    exact ⟨(i + 1, p, N2, l, G8, G10, _), ⟨⟨rfl, rfl, rfl, rfl, rfl, trivial⟩, ⟨rfl, rfl, trivial⟩, Nat.le_refl _⟩, ⟨hlt, hR, by dsimp only; omega⟩, (by dsimp only; omega)⟩
 ·have d3 : decide (((i : Nat) : Int) < ((acts.map encAcU).length : Nat)) = false := decide_eq_false (by omega)
  (repeat' (first | refine goA ?_ | refine goB ?_ | fail))
  exact awp_ret ⟨_, ResL.cons (ResA.tmp (.val _)) .nil, rfl⟩
end Go.Proofs.Ytkmlmboclegpcaa
namespace Go.Proofs.Ytkmlmboclegpcaa
open Go Go.RowKit Go.ChangeShapes Go.WideShapes Go.Deep Go.Proofs.Ytkmlmboclegpcaa
set_option maxRecDepth 100000
section
variable {H : Type} {encT : TypeId × Value → H} {w : World} {base : Nat} {spare : Nat → Bool} {held : Bool}
theorem opens_acu : Opens encT Try.prog w base spare held 42 encAcU (fun a => (0 ≤ a.k ∧ a.k ≤ 255) ∧ In64 a.i ∧ In64 a.d ∧ True ∧ (0 ≤ a.n ∧ a.n ≤ 65535)) := (opens_struct Try.underlying42 (by kernel_rfl) (OpensFs.cons (sz := 1) rfl (by kernel_rfl) (opens_u8 Try.underlying5) (OpensFs.cons (sz := 1) rfl (by kernel_rfl) opens_i (OpensFs.cons (sz := 1) rfl (by kernel_rfl) opens_i (OpensFs.cons (sz := 1) rfl (by kernel_rfl) opens_b (OpensFs.cons (sz := 1) rfl (by kernel_rfl) opens_h OpensFs.nil)))))).map (fun y => (⟨y.1, y.2.1, y.2.2.1, y.2.2.2.1, y.2.2.2.2.1⟩ : ActU)) (fun _ _ => rfl) (fun _ h => ⟨h.1, h.2.1, h.2.2.1, trivial, h.2.2.2.2.1⟩)
end
theorem timerTells_lifted (os : Os) (started : os.Started) (H : Type) (enc : TypeId × Value → H) :
  ReturnsInHanded {} Try.checked os 3 .any (Rows.timerTellsSpec.pre6 enc Try.prog Try.f3 Rows.timerTellsRow.domain false) (Rows.timerTellsSpec.post enc Try.prog Try.f3 false true false false) := by
 refine returnsInHanded_of_change (C := Try.checked) own_knob started (by kernel_rfl) Try.func3
  (ChangeSpec.witness6 (enc := enc) (C := Try.checked) false ⟨#[], #[.int .i64 0, .int .i64 0, .slice none 0 0], []⟩ 12 (by kernel_rfl) (by kernel_rfl) (by kernel_rfl) (by kernel_rfl)) ?_
 intro W base args ds gs before hval0 hW hcnd _
 have hval : ∀ (j : Nat) t v, Try.f3.params[j]? = some t → args[j]? = some v → Value.okWide Try.prog W .any base t v := hval0
 have hW' := hW
 obtain ⟨p, q, hA0, hV, rfl, hfz, hnd⟩ := hW
 have hA : DataW.TrodAll enc Try.prog W 0 (fun _ => true) true Try.f3.params.toList args.toList ds p := hA0
 rw [Try.params3] at hA hval
 obtain ⟨v0, vs0, d0, ds0, p0, q0, hargs, rfl, rfl, h0, r0⟩ := trodAll_cons hA
 obtain ⟨v1, vs1, d1, ds1, p1, q1, rfl, rfl, rfl, h1, r1⟩ := trodAll_cons r0
 obtain ⟨v2, vs2, d2, ds2, p2, q2, rfl, rfl, rfl, h2, r2⟩ := trodAll_cons r1
 obtain ⟨rfl, rfl, rfl⟩ := trodAll_nil r2
 obtain rfl : args = #[v0, v1, v2] := by cases args; simp_all
 obtain ⟨rfl, rfl⟩ := trodVars_none hV
 have k0 := h0
 have lt0 : ∀ x ∈ p0, x.block < W.heap.size := by obtain ⟨m, hm⟩ := k0; exact DataW.trod_lt m _ _ _ hm
 have k1 := h1
 have lt1 : ∀ x ∈ p1, x.block < W.heap.size := by obtain ⟨m, hm⟩ := k1; exact DataW.trod_lt m _ _ _ hm
 have k2 := h2
 have lt2 : ∀ x ∈ p2, x.block < W.heap.size := by obtain ⟨m, hm⟩ := k2; exact DataW.trod_lt m _ _ _ hm
 obtain ⟨y0, rep0, hy0⟩ := arg_int Try.underlying3 (hval 0 3 v0 rfl rfl) h0
 obtain ⟨y1, rep1, hy1⟩ := arg_int Try.underlying3 (hval 1 3 v1 rfl rfl) h1
 obtain ⟨y2, rep2, hy2⟩ := arg_slice Try.underlying22 (hval 2 22 v2 rfl rfl) h2 (opens_slice (sz := 5) (enc := encAcU) Try.underlying22 (by kernel_rfl) (by decide) (fun _ => rfl) opens_acu)
 clear hA0 hval0
 refine ((tells20_c y0 y1 y2 hy0 hy1 hy2.2).law (us := [v0, v1, v2]) rfl (fun i x u hx hu => by
  cases i with
  | zero => simp only [List.getElem?_cons_zero, Option.some.injEq] at hx hu; rw [← hx, ← hu]; exact rep0
  | succ i =>
   simp only [List.getElem?_cons_succ] at hx hu
   cases i with
   | zero => simp only [List.getElem?_cons_zero, Option.some.injEq] at hx hu; rw [← hx, ← hu]; exact rep1
   | succ i =>
    simp only [List.getElem?_cons_succ] at hx hu
    cases i with
    | zero => simp only [List.getElem?_cons_zero, Option.some.injEq] at hx hu; rw [← hx, ← hu]; exact rep2
    | succ i =>
     simp only [List.getElem?_cons_succ] at hx hu
     simp at hx)).mono fun e W' ⟨he, bel⟩ => ?_
 subst he
 exact ⟨_, rfl, _, _, _, [], _, [], hW', trodAll_mk1 (shut_bool Try.underlying4 _), (trodAll_cons_mk (Below.trod laid_out (by kernel_rfl) (of_decide_eq_true (by kernel_rfl)) k0 bel lt0) (trodAll_cons_mk (Below.trod laid_out (by kernel_rfl) (of_decide_eq_true (by kernel_rfl)) k1 bel lt1) (trodAll_cons_mk (Below.trod laid_out (by kernel_rfl) (of_decide_eq_true (by kernel_rfl)) k2 bel lt2) trodAll_mk0))), rfl, bel.frame _, fun h => by cases h⟩
theorem timerTells_holds : Rows.TimerTellsSaid :=
 OpenClaim.holds_of_wide 3 Try.f3 rfl rfl rfl rfl rfl rfl rfl ⟨rfl, rfl, rfl, rfl, rfl⟩ rfl rfl rfl rfl rfl (by kernel_rfl) Try.func3 (by kernel_rfl)
  (of_decide_eq_true (by kernel_rfl)) (by unfold Func.isWrapper; first | (rw [if_pos (by decide +kernel)]; kernel_rfl) | (rw [if_neg (by decide +kernel)]; exact ⟨rfl, rfl⟩))
  (fun os started H enc _ => timerTells_lifted os started H enc)
#print axioms timerTells_holds
end Go.Proofs.Ytkmlmboclegpcaa
