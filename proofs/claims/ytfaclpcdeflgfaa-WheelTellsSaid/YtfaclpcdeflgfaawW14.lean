/- wA32, wA33, wA34. -/
import Derived.Test.YtfaclpcdeflgfaaW1
import Derived.Test.YtfaclpcdeflgfaaW2
import Derived.Test.YtfaclpcdeflgfaaW3
import Derived.Test.YtfaclpcdeflgfaaW4
import Derived.Test.YtfaclpcdeflgfaawW5
import Derived.Test.YtfaclpcdeflgfaawW6
import Derived.Test.YtfaclpcdeflgfaawW7
import Derived.Test.YtfaclpcdeflgfaawW8
import Derived.Test.YtfaclpcdeflgfaawW9
import Derived.Test.YtfaclpcdeflgfaawW10
import Derived.Test.YtfaclpcdeflgfaawW11
import Derived.Test.YtfaclpcdeflgfaawW12
import Derived.Test.YtfaclpcdeflgfaawW13
set_option linter.unusedVariables false
set_option linter.unusedSimpArgs false
namespace Go.Proofs.Ytfaclpcdeflgfaa
open Go Go.RowKit
set_option maxRecDepth 100000
theorem one_of {l : List Tmr} (h : l.length = 1) : ∃ x, l = [x] := List.length_eq_one_iff.1 h
theorem sm_all : ∀ z, SmOk z
 | 0 => fun A U V R n h1 h2 h3 => absurd h3 (by omega)
 | z + 1 => fun A U V R n h1 h2 h3 hU hV hn hb => by
  by_cases q1 : U.length = 1
  ·obtain ⟨x, rfl⟩ := one_of q1
   exact sm1_l A V R x n h2 hV hn hb
  by_cases q2 : V.length = 1
  ·obtain ⟨x, rfl⟩ := one_of q2
   exact sm2_l A U R x n (by omega) hU hn hb
  exact sm3_l (sm_all z) A U V R n (by omega) (by omega) h3 hU hV hn hb
theorem sort_two (P Q : List Tmr) : sortT (sortT P ++ sortT Q) = sortT (P ++ Q) := by
 refine sorted_uniq (sortT_sorted _) (sortT_sorted _) (fun d i => ?_)
 rw [sortT_filter, sortT_filter, List.filter_append, List.filter_append, sortT_filter, sortT_filter]
attribute [local irreducible] Decidable.decide awp ARun regK toK
set_option maxHeartbeats 8000000 in
theorem stable_mid (L : List Tmr) (h0 : 20 ≤ L.length) (h : L.length < 40) : FnL Try.prog 34 [.own 1000 0 0 L.length, .val (.int .i64 (L.length : Nat)), .val (.func (.func 30) #[] #[])] [(6, L.map encTm)] (.tup []) [(sortT L).map encTm] := by
 obtain ⟨P, Q, rfl, hP⟩ : ∃ P Q, L = P ++ Q ∧ P.length = 20 := ⟨L.take 20, L.drop 20, (List.take_append_drop 20 L).symm, by rw [List.length_take]; omega⟩
 have hl : (P ++ Q).length = 20 + Q.length := by rw [List.length_append, hP]
 have hs : (sortT P).length = 20 := by rw [sortT_len, hP]
 have c1 := ins_l [] P Q (P ++ Q).length (by rw [List.length_nil]; omega) (by omega)
 have c2 := ins_l (sortT P) Q [] (P ++ Q).length (by rw [List.length_nil]; omega) (by omega)
 rw [List.nil_append, List.nil_append, hP, List.length_nil, Nat.zero_add] at c1
 rw [List.append_nil, List.append_nil, hs, ← hl] at c2
 have d1 : decide ((20 : Int) ≤ ((P ++ Q).length : Nat)) = true := decide_eq_true (by omega)
 have d2 : decide (((20 : Int) + 20) ≤ ((P ++ Q).length : Nat)) = false := decide_eq_false (by omega)
 have d3 : decide (((2 : Int) * 20) ≤ ((P ++ Q).length : Nat)) = false := decide_eq_false (by omega)
 have d4 : decide (((20 : Int) * 2) < ((P ++ Q).length : Nat)) = false := decide_eq_false (by omega)
 have e1 := sort_two P Q
 have l0 := rows_closed (P ++ Q)
 have l1 := rows_closed (sortT P ++ Q)
 have l2 := rows_closed (sortT P ++ sortT Q)
 have l3 := rows_closed (sortT (P ++ Q))
 refine FnL.of_awp (T := tt) (ok := tok) Try.func34 (by kernel_rfl) rfl (by kernel_rfl) (by kernel_rfl) (fun w0 st0 lent c0 => ?_)
 dsimp only [frOf, hpFrom, List.length_cons, List.length_nil]
 by_cases hq : Q.length = 0
 ·have d5 : decide ((20 : Int) < ((P ++ Q).length : Nat)) = false := decide_eq_false (by omega)
  have e2 : sortT P ++ sortT Q = sortT (P ++ Q) := by
   rw [List.eq_nil_of_length_eq_zero hq, List.append_nil]
   exact List.append_nil _
  rw [e2] at c2
  (repeat' (first | refine goA ?_ | refine awp_loopN 2 ?_ | refine LoopN.step ?_ | refine callR 1000 0 6 _ _ c1 l0 l1 (RelL.cons (.own (j := 0) 0 _ rfl) (RelL.cons (.wk (.same _) (.val _)) (RelL.cons (.wk (.same _) (.val _)) (RelL.cons (.wk (.same _) (.val _)) (RelL.nil _))))) (.same _ (.tup closedL_nil)) rfl rfl rfl rfl rfl ?_ | refine callR 1000 0 6 _ _ c2 l1 l3 (RelL.cons (.own (j := 0) 0 _ rfl) (RelL.cons (.wk (.same _) (.val _)) (RelL.cons (.wk (.same _) (.val _)) (RelL.cons (.wk (.same _) (.val _)) (RelL.nil _))))) (.same _ (.tup closedL_nil)) rfl rfl rfl rfl rfl ?_ | refine goB ?_ | fail))
  (first | exact ⟨_, ResL.nil, rfl, ⟨_, rfl, RlR.closed (rows_closed _)⟩, trivial⟩ | (refine awp_skip ?_; exact ⟨_, ResL.nil, rfl, ⟨_, rfl, RlR.closed (rows_closed _)⟩, trivial⟩))
 ·have d5 : decide ((20 : Int) < ((P ++ Q).length : Nat)) = true := decide_eq_true (by omega)
  have d6 : decide (((0 : Int) + 20) < ((P ++ Q).length : Nat)) = true := decide_eq_true (by omega)
  have c3 := sm_all 40 [] (sortT P) (sortT Q) [] (P ++ Q).length (by omega) (by rw [sortT_len]; omega) (by rw [hs, sortT_len]; omega) (sortT_sorted _) (sortT_sorted _) (by rw [hs, sortT_len, List.length_nil, hl]; omega) (by omega)
  rw [List.append_nil, List.append_nil, List.nil_append, List.nil_append, e1, hs, sortT_len, List.length_nil, Nat.zero_add, ← hl] at c3
  (repeat' (first | refine goA ?_ | refine awp_loopN 2 ?_ | refine LoopN.step ?_ | refine callR 1000 0 6 _ _ c1 l0 l1 (RelL.cons (.own (j := 0) 0 _ rfl) (RelL.cons (.wk (.same _) (.val _)) (RelL.cons (.wk (.same _) (.val _)) (RelL.cons (.wk (.same _) (.val _)) (RelL.nil _))))) (.same _ (.tup closedL_nil)) rfl rfl rfl rfl rfl ?_ | refine callR 1000 0 6 _ _ c2 l1 l2 (RelL.cons (.own (j := 0) 0 _ rfl) (RelL.cons (.wk (.same _) (.val _)) (RelL.cons (.wk (.same _) (.val _)) (RelL.cons (.wk (.same _) (.val _)) (RelL.nil _))))) (.same _ (.tup closedL_nil)) rfl rfl rfl rfl rfl ?_ | refine callR 1000 0 6 _ _ c3 l2 l3 (RelL.cons (.own (j := 0) 0 _ rfl) (RelL.cons (.wk (.same _) (.val _)) (RelL.cons (.wk (.same _) (.val _)) (RelL.cons (.wk (.same _) (.val _)) (RelL.cons (.wk (.same _) (.val _)) (RelL.nil _)))))) (.same _ (.tup closedL_nil)) rfl rfl rfl rfl rfl ?_ | refine goB ?_ | fail))
  (first | exact ⟨_, ResL.nil, rfl, ⟨_, rfl, RlR.closed (rows_closed _)⟩, trivial⟩ | (refine awp_skip ?_; exact ⟨_, ResL.nil, rfl, ⟨_, rfl, RlR.closed (rows_closed _)⟩, trivial⟩))
theorem sort_mid (L : List Tmr) (h : L.length < 40) : FnL Try.prog 29 [.own 1000 0 0 L.length, .val (.func (.func 30) #[] #[])] [(6, L.map encTm)] (.tup []) [(sortT L).map encTm] := by
 by_cases q : L.length < 20
 ·exact sort_small L q
 have c1 := stable_mid L (by omega) h
 refine FnL.of_awp (T := tt) (ok := tok) Try.func29 (by kernel_rfl) rfl (by kernel_rfl) (by kernel_rfl) (fun w0 st0 lent c0 => ?_)
 dsimp only [frOf, hpFrom, List.length_cons, List.length_nil]
 (repeat' (first | refine goA ?_ | refine callR 1000 0 6 (L.map encTm) ((sortT L).map encTm) c1 (rows_closed _) (rows_closed _) (RelL.cons (.own (j := 0) 0 _ rfl) (RelL.cons (.wk (.same _) (.val _)) (RelL.cons (.wk (.same _) (.val _)) (RelL.nil _)))) (.same _ (.tup closedL_nil)) rfl rfl rfl rfl rfl ?_ | refine goB ?_ | fail))
 (first | exact ⟨_, ResL.nil, rfl, ⟨_, rfl, RlR.closed (rows_closed _)⟩, trivial⟩ | (refine awp_skip ?_; exact ⟨_, ResL.nil, rfl, ⟨_, rfl, RlR.closed (rows_closed _)⟩, trivial⟩))
theorem sort40 : SortOk 40 := sort_mid
end Go.Proofs.Ytfaclpcdeflgfaa
namespace Go.Proofs.Ytfaclpcdeflgfaa
open Go Go.RowKit
set_option maxRecDepth 100000
def encCk (N : Int) (l : List Tmr) : List AV := [.val (.int .i64 N), encTs l]
theorem encCk_closed (N : Int) (l : List Tmr) : ∀ x, x ∈ encCk N l → Closed x := closedL_cons (.val _) (closedL_cons (closed_ts l) closedL_nil)
attribute [local irreducible] Decidable.decide awp ARun regK toK
theorem ahead_c (a b : Tmr) : FnC Try.prog 21 [.agg (encTm a), .agg (encTm b)] (.val (.bool (ltT a b))) := by
 by_cases h1 : a.due < b.due
 ·have d1 : decide (a.due < b.due) = true := decide_eq_true h1
  have e : ltT a b = true := ltT_iff.2 (.inl h1)
  rw [e]
  refine goF Try.func21 (closedL_cons (.agg (encTm_closed a)) (closedL_cons (.agg (encTm_closed b)) closedL_nil)) (fun w0 st0 => ?_)
  dsimp only [frOf]
  (repeat' (first | refine goA ?_ | refine goB ?_ | fail))
  (refine awp_ret ⟨_, ResL.cons (ResA.tmp (.val _)) .nil, congrArg (fun b => AV.val (.bool b)) ?_⟩; first | rfl | (symm; assumption) | assumption)
 have d1 : decide (a.due < b.due) = false := decide_eq_false h1
 by_cases h2 : a.due = b.due
 ·have d2 : (a.due == b.due) = true := beq_iff_eq.2 h2
  by_cases h3 : a.id < b.id
  ·have d3 : decide (a.id < b.id) = true := decide_eq_true h3
   have e : ltT a b = true := ltT_iff.2 (.inr ⟨h2, h3⟩)
   rw [e]
   refine goF Try.func21 (closedL_cons (.agg (encTm_closed a)) (closedL_cons (.agg (encTm_closed b)) closedL_nil)) (fun w0 st0 => ?_)
   dsimp only [frOf]
   (repeat' (first | refine goA ?_ | refine goB ?_ | fail))
   (refine awp_ret ⟨_, ResL.cons (ResA.tmp (.val _)) .nil, congrArg (fun b => AV.val (.bool b)) ?_⟩; first | rfl | (symm; assumption) | assumption)
  ·have d3 : decide (a.id < b.id) = false := decide_eq_false h3
   have e : ltT a b = false := ltT_no.2 (by omega)
   rw [e]
   refine goF Try.func21 (closedL_cons (.agg (encTm_closed a)) (closedL_cons (.agg (encTm_closed b)) closedL_nil)) (fun w0 st0 => ?_)
   dsimp only [frOf]
   (repeat' (first | refine goA ?_ | refine goB ?_ | fail))
   (refine awp_ret ⟨_, ResL.cons (ResA.tmp (.val _)) .nil, congrArg (fun b => AV.val (.bool b)) ?_⟩; first | rfl | (symm; assumption) | assumption)
 ·have d2 : (a.due == b.due) = false := beq_eq_false_iff_ne.2 h2
  have e : ltT a b = false := ltT_no.2 (by omega)
  rw [e]
  refine goF Try.func21 (closedL_cons (.agg (encTm_closed a)) (closedL_cons (.agg (encTm_closed b)) closedL_nil)) (fun w0 st0 => ?_)
  dsimp only [frOf]
  (repeat' (first | refine goA ?_ | refine goB ?_ | fail))
  (refine awp_ret ⟨_, ResL.cons (ResA.tmp (.val _)) .nil, congrArg (fun b => AV.val (.bool b)) ?_⟩; first | rfl | (symm; assumption) | assumption)
end Go.Proofs.Ytfaclpcdeflgfaa
namespace Go.Proofs.Ytfaclpcdeflgfaa
open Go Go.RowKit
set_option maxRecDepth 100000
theorem cut_len (i : Int) : ∀ l : List Tmr, decide ((((l.filter (fun t => !idB i t)).length : Nat) : Int) < (l.length : Nat)) = l.any (idB i)
 | [] => rfl
 | x :: l => by
  have h := cut_len i l
  have hl := List.length_filter_le (fun t => !idB i t) l
  rw [List.any_cons]
  cases hb : idB i x with
  | true =>
   rw [List.filter_cons, if_neg (by rw [hb]; decide)]
   exact decide_eq_true (by rw [List.length_cons]; omega)
  | false =>
   rw [List.filter_cons, if_pos (by rw [hb]; rfl), Bool.false_or, ← h, List.length_cons, List.length_cons]
   by_cases q : (((l.filter (fun t => !idB i t)).length : Nat) : Int) < (l.length : Nat)
   ·rw [decide_eq_true q]
    exact decide_eq_true (by omega)
   ·rw [decide_eq_false q]
    exact decide_eq_false (by omega)
attribute [local irreducible] Decidable.decide awp ARun regK toK
theorem ref_new_yes {n : Int} (h : 0 ≤ n ∧ n ≤ 2305843009213693952) : FnC Try.prog 10 [.val (.int .i64 n)] (.tup [.agg (encCk n []), .val (.int .i64 0)]) := by
 have d1 : decide (n < 0) = false := decide_eq_false (by omega)
 have d2 : decide (2305843009213693952 < n) = false := decide_eq_false (by omega)
 refine goF Try.func10 (closedL_cons (.val _) closedL_nil) (fun w0 st0 => ?_)
 dsimp only [frOf]
 (repeat' (first | refine goA ?_ | refine goB ?_ | fail))
 refine awp_wkH 2 [encCk n []] rfl rfl (RelR.cons (WkL.cons (.same _) (WkL.cons Wk.nilSl WkL.nil)) (RelR.nil _)) ?_
 exact awp_ret ⟨_, ResL.cons (ResA.agg rfl rfl rfl rfl rfl rfl rfl (RL.allClosed (encCk_closed n []))) (ResL.cons (ResA.tmp (.val _)) .nil), rfl⟩
theorem ref_new_no {n : Int} (h : ¬ (0 ≤ n ∧ n ≤ 2305843009213693952)) : FnC Try.prog 10 [.val (.int .i64 n)] (.tup [.agg (encCk 0 []), .val (.int .i64 (-24))]) := by
 by_cases q : n < 0
 ·have d1 : decide (n < 0) = true := decide_eq_true q
  refine goF Try.func10 (closedL_cons (.val _) closedL_nil) (fun w0 st0 => ?_)
  dsimp only [frOf]
  (repeat' (first | refine goA ?_ | refine goB ?_ | fail))
  refine awp_wkH 2 [encCk 0 []] rfl rfl (RelR.cons (WkL.cons (.same _) (WkL.cons Wk.nilSl WkL.nil)) (RelR.nil _)) ?_
  exact awp_ret ⟨_, ResL.cons (ResA.agg rfl rfl rfl rfl rfl rfl rfl (RL.allClosed (encCk_closed 0 []))) (ResL.cons (ResA.tmp (.val _)) .nil), rfl⟩
 ·have d1 : decide (n < 0) = false := decide_eq_false q
  have d2 : decide (2305843009213693952 < n) = true := decide_eq_true (by omega)
  refine goF Try.func10 (closedL_cons (.val _) closedL_nil) (fun w0 st0 => ?_)
  dsimp only [frOf]
  (repeat' (first | refine goA ?_ | refine goB ?_ | fail))
  refine awp_wkH 2 [encCk 0 []] rfl rfl (RelR.cons (WkL.cons (.same _) (WkL.cons Wk.nilSl WkL.nil)) (RelR.nil _)) ?_
  exact awp_ret ⟨_, ResL.cons (ResA.agg rfl rfl rfl rfl rfl rfl rfl (RL.allClosed (encCk_closed 0 []))) (ResL.cons (ResA.tmp (.val _)) .nil), rfl⟩
set_option maxHeartbeats 4000000 in
theorem ref_cut_c (N : Int) (l : List Tmr) (i : Int) (hl : l.length ≤ 1000) : FnC Try.prog 14 [.agg (encCk N l), .val (.int .i64 i)] (.tup [.agg (encCk N (l.filter (fun t => !idB i t))), .val (.bool (l.any (idB i)))]) := by
 have em : (((l.map encTm).length : Nat) : Int) = l.length := by rw [List.length_map]
 have ecut := cut_len i l
 refine goF Try.func14 (closedL_cons (.agg (encCk_closed N l)) (closedL_cons (.val _) closedL_nil)) (fun w0 st0 => ?_)
 dsimp only [frOf]
 (repeat' (first | refine goA ?_ | refine goB ?_ | fail))
 refine awp_ownNil 6 6 rfl rfl rfl ?_
 refine awp_loopT (T := Nat × List (List AV) × Nat × Nat) (fun t => ⟨[(1, .val (.int .i64 i)), (2, .ptr 2 0 0 0), (4, .ptr 4 1 0 0), (6, .own 6 t.2.2.1 0 t.2.1.length), (7, .val (.int .i64 (t.1 : Nat)))], [(2, some ⟨0, 2, [encCk N l]⟩), (4, some ⟨1, 2, [[.val (.int .i64 0), .sl 0 true []]]⟩), (6, some ⟨t.2.2.1, 6, t.2.1⟩)], t.2.2.2⟩) (fun t => t.1 ≤ l.length ∧ t.2.1 = ((l.take t.1).filter (fun t => !idB i t)).map encTm) (fun t => l.length - t.1) (0, [], _, _) ⟨Nat.zero_le _, rfl⟩ ⟨⟨rfl, rfl, rfl, rfl, rfl, trivial⟩, ⟨rfl, rfl, rfl, trivial⟩, Nat.le_refl _⟩ (fun t ht => ?_)
 obtain ⟨k, r6, g6, gc⟩ := t
 dsimp only at ht ⊢
 obtain ⟨hk, e6⟩ := ht
 by_cases hlt : k < l.length
 ·have d2 : decide (((k : Nat) : Int) < ((l.map encTm).length : Nat)) = true := decide_eq_true (by omega)
  obtain ⟨x, hx⟩ : ∃ x, l[k]? = some x := ⟨_, List.getElem?_eq_getElem hlt⟩
  have hp : (l.map encTm)[((k : Nat) : Int).toNat]? = some (encTm x) := map_at hx
  have hl6 : r6.length ≤ 1000 := by rw [e6, List.length_map]; have := List.length_filter_le (fun t => !idB i t) (l.take k); rw [List.length_take] at this; omega
  cases hb : idB i x with
  | true =>
   have d3 : (x.id != i) = false := by
    have : (x.id == i) = true := hb
    show (!(x.id == i)) = false
    rw [this]
    rfl
   (repeat' (first | refine goA ?_ | refine ARun.indexAddr rfl rfl (by omega) (by with_reducible exact hp) rfl rfl rfl rfl rfl (guardF_spec rfl) ?_ | refine appO rfl ?_ | refine goB ?_ | fail))
   refine ⟨(k + 1, _, _, _), ⟨⟨rfl, rfl, rfl, rfl, rfl, trivial⟩, ⟨rfl, rfl, rfl, trivial⟩, Nat.le_refl _⟩, ⟨hlt, ?_⟩, (by dsimp only; omega)⟩
   dsimp only
   rw [e6, take_succ' hx, List.filter_append, List.map_append, show [x].filter (fun t => !idB i t) = [] by rw [List.filter_cons, hb]; rfl]
   exact (List.append_nil _).symm
  | false =>
   have d3 : (x.id != i) = true := by
    have : (x.id == i) = false := hb
    show (!(x.id == i)) = true
    rw [this]
    rfl
   (repeat' (first | refine goA ?_ | refine ARun.indexAddr rfl rfl (by omega) (by with_reducible exact hp) rfl rfl rfl rfl rfl (guardF_spec rfl) ?_ | refine appO rfl ?_ | refine goB ?_ | fail))
   refine ⟨(k + 1, _, _, _), ⟨⟨rfl, rfl, rfl, rfl, rfl, trivial⟩, ⟨rfl, rfl, rfl, trivial⟩, Nat.le_refl _⟩, ⟨hlt, ?_⟩, (by dsimp only; omega)⟩
   dsimp only
   rw [e6, take_succ' hx, List.filter_append, List.map_append, show [x].filter (fun t => !idB i t) = [x] by rw [List.filter_cons, hb]; rfl]
   rfl
 ·have d2 : decide (((k : Nat) : Int) < ((l.map encTm).length : Nat)) = false := decide_eq_false (by omega)
  have hfull : l.take k = l := List.take_of_length_le (by omega)
  rw [hfull] at e6
  subst e6
  (repeat' (first | refine goN ?_ | refine awp_region_ne 7 rfl (fun _ => hmix) ?_ | refine ARun.o rfl ?_ | refine goB ?_ | ((fail_if_success refine ARun.plain rfl ?_); refine ARun.fork rfl rfl rfl (fun h => ?_) (fun h => ?_)) | refine awp_cond rfl (fun h => ?_) (fun h => ?_)))
  refine awp_freeze 6 g6 6 ((l.filter (fun t => !idB i t)).map encTm) (fr' := [(1, .val (.int .i64 i)), (2, .ptr 2 0 0 0), (4, .ptr 4 1 0 0), (6, .sl 6 false ((l.filter (fun t => !idB i t)).map encTm))]) (hp' := [(2, some ⟨0, 2, [encCk N l]⟩), (4, some ⟨1, 2, [[.val (.int .i64 0), .sl 0 true []]]⟩)]) rfl (rows_closed _) ⟨.inl rfl, .inl rfl, .inl rfl, .inr ⟨_, rfl, rfl, rfl⟩, trivial⟩ ⟨⟨rfl, rfl⟩, ⟨rfl, rfl⟩, trivial⟩ ?_
  rw [← ecut, ← em, ← show (((l.filter (fun t => !idB i t)).map encTm).length : Int) = ((l.filter (fun t => !idB i t)).length : Nat) by rw [List.length_map]]
  (repeat' (first | refine goA ?_ | refine goB ?_ | fail))
  exact awp_ret ⟨_, ResL.cons (ResA.agg rfl rfl rfl rfl rfl rfl rfl (RL.allClosed (encCk_closed N _))) (ResL.cons (ResA.tmp (.val _)) .nil), rfl⟩
end Go.Proofs.Ytfaclpcdeflgfaa
