/- wA35, wA36, wA20. -/
import Derived.Test.YtfaclpcdeflgfaaW1
import Derived.Test.YtfaclpcdeflgfaaW2
import Derived.Test.YtfaclpcdeflgfaaW3
import Derived.Test.YtfaclpcdeflgfaaW4
import Derived.Test.YtfaclpcdeflgfaawW5
import Derived.Test.YtfaclpcdeflgfaawW6
import Derived.Test.YtfaclpcdeflgfaawW7
import Derived.Test.YtfaclpcdeflgfaawW8
import Derived.Test.YtfaclpcdeflgfaawW9
import Derived.Test.YtfaclpcdeflgfaawW10
import Derived.Test.YtfaclpcdeflgfaawW11
import Derived.Test.YtfaclpcdeflgfaawW12
import Derived.Test.YtfaclpcdeflgfaawW13
import Derived.Test.YtfaclpcdeflgfaawW14
import Derived.Test.YtfaclpcdeflgfaaRows
set_option linter.unusedVariables false
set_option linter.unusedSimpArgs false
namespace Go.Proofs.Ytfaclpcdeflgfaa
open Go Go.RowKit
set_option maxRecDepth 100000
attribute [local irreducible] Decidable.decide awp ARun regK toK
set_option maxHeartbeats 4000000 in
theorem ref_tick_c (N : Int) (l : List Tmr) (hN : 0 ≤ N ∧ N ≤ 4000000000000000000) (hl : l.length ≤ 1000) : FnC Try.prog 16 [.agg (encCk N l)] (.tup [.agg (encCk (N + 1) (l.filter (fun t => !dueB (N + 1) t))), encTs (l.filter (dueB (N + 1)))]) := by
 have em : (((l.map encTm).length : Nat) : Int) = l.length := by rw [List.length_map]
 refine goF Try.func16 (closedL_cons (.agg (encCk_closed N l)) closedL_nil) (fun w0 st0 => ?_)
 dsimp only [frOf]
 (repeat' (first | refine goA ?_ | refine goB ?_ | fail))
 refine awp_ownNil 4 6 rfl rfl rfl ?_
 refine awp_ownNil 5 6 rfl rfl rfl ?_
 refine awp_loopT (T := Nat × List (List AV) × Nat × List (List AV) × Nat × Nat) (fun t => ⟨[(1, .ptr 1 0 0 0), (2, .ptr 2 1 0 0), (4, .own 4 t.2.2.1 0 t.2.1.length), (5, .own 5 t.2.2.2.2.1 0 t.2.2.2.1.length), (6, .val (.int .i64 (t.1 : Nat)))], [(1, some ⟨0, 2, [encCk N l]⟩), (2, some ⟨1, 2, [[.val (.int .i64 0), .sl 0 true []]]⟩), (4, some ⟨t.2.2.1, 6, t.2.1⟩), (5, some ⟨t.2.2.2.2.1, 6, t.2.2.2.1⟩)], t.2.2.2.2.2⟩) (fun t => t.1 ≤ l.length ∧ t.2.1 = ((l.take t.1).filter (dueB (N + 1))).map encTm ∧ t.2.2.2.1 = ((l.take t.1).filter (fun t => !dueB (N + 1) t)).map encTm) (fun t => l.length - t.1) (0, [], _, [], _, _) ⟨Nat.zero_le _, rfl, rfl⟩ ⟨⟨rfl, rfl, rfl, rfl, rfl, trivial⟩, ⟨rfl, rfl, rfl, rfl, trivial⟩, Nat.le_refl _⟩ (fun t ht => ?_)
 obtain ⟨k, r6, g6, r7, g7, gc⟩ := t
 dsimp only at ht ⊢
 obtain ⟨hk, e6, e7⟩ := ht
 by_cases hlt : k < l.length
 ·have d2 : decide (((k : Nat) : Int) < ((l.map encTm).length : Nat)) = true := decide_eq_true (by omega)
  obtain ⟨x, hx⟩ : ∃ x, l[k]? = some x := ⟨_, List.getElem?_eq_getElem hlt⟩
  have hp : (l.map encTm)[((k : Nat) : Int).toNat]? = some (encTm x) := map_at hx
  have hl6 : r6.length ≤ 1000 := by rw [e6, List.length_map]; have := List.length_filter_le (dueB (N + 1)) (l.take k); rw [List.length_take] at this; omega
  have hl7 : r7.length ≤ 1000 := by rw [e7, List.length_map]; have := List.length_filter_le (fun t => !dueB (N + 1) t) (l.take k); rw [List.length_take] at this; omega
  cases hb : dueB (N + 1) x with
  | true =>
   have d3 : (x.due == N + 1) = true := hb
   (repeat' (first | refine goA ?_ | refine ARun.indexAddr rfl rfl (by omega) (by with_reducible exact hp) rfl rfl rfl rfl rfl (guardF_spec rfl) ?_ | refine appO rfl ?_ | refine goB ?_ | fail))
   refine ⟨(k + 1, _, _, _, _, _), ⟨⟨rfl, rfl, rfl, rfl, rfl, trivial⟩, ⟨rfl, rfl, rfl, rfl, trivial⟩, Nat.le_refl _⟩, ⟨hlt, ?_, ?_⟩, (by dsimp only; omega)⟩
   ·dsimp only
    rw [e6, take_succ' hx, List.filter_append, List.map_append, show [x].filter (dueB (N + 1)) = [x] by rw [List.filter_cons, if_pos hb]; rfl]
    rfl
   ·dsimp only
    rw [e7, take_succ' hx, List.filter_append, List.map_append, show [x].filter (fun t => !dueB (N + 1) t) = [] by rw [List.filter_cons, hb]; rfl]
    exact (List.append_nil _).symm
  | false =>
   have d3 : (x.due == N + 1) = false := hb
   (repeat' (first | refine goA ?_ | refine ARun.indexAddr rfl rfl (by omega) (by with_reducible exact hp) rfl rfl rfl rfl rfl (guardF_spec rfl) ?_ | refine appO rfl ?_ | refine goB ?_ | fail))
   refine ⟨(k + 1, _, _, _, _, _), ⟨⟨rfl, rfl, rfl, rfl, rfl, trivial⟩, ⟨rfl, rfl, rfl, rfl, trivial⟩, Nat.le_refl _⟩, ⟨hlt, ?_, ?_⟩, (by dsimp only; omega)⟩
   ·dsimp only
    rw [e6, take_succ' hx, List.filter_append, List.map_append, show [x].filter (dueB (N + 1)) = [] by rw [List.filter_cons, hb]; rfl]
    exact (List.append_nil _).symm
   ·dsimp only
    rw [e7, take_succ' hx, List.filter_append, List.map_append, show [x].filter (fun t => !dueB (N + 1) t) = [x] by rw [List.filter_cons, hb]; rfl]
    rfl
 ·have d2 : decide (((k : Nat) : Int) < ((l.map encTm).length : Nat)) = false := decide_eq_false (by omega)
  have hfull : l.take k = l := List.take_of_length_le (by omega)
  rw [hfull] at e6 e7
  subst e6
  subst e7
  (repeat' (first | refine goN ?_ | refine awp_region_ne 9 rfl (fun _ => hmix) ?_ | refine ARun.o rfl ?_ | refine goB ?_ | ((fail_if_success refine ARun.plain rfl ?_); refine ARun.fork rfl rfl rfl (fun h => ?_) (fun h => ?_)) | refine awp_cond rfl (fun h => ?_) (fun h => ?_)))
  refine awp_freeze 5 g7 6 ((l.filter (fun t => !dueB (N + 1) t)).map encTm) (fr' := [(1, .ptr 1 0 0 0), (2, .ptr 2 1 0 0), (4, .own 4 g6 0 ((l.filter (dueB (N + 1))).map encTm).length), (5, .sl 6 false ((l.filter (fun t => !dueB (N + 1) t)).map encTm))]) (hp' := [(1, some ⟨0, 2, [encCk N l]⟩), (2, some ⟨1, 2, [[.val (.int .i64 0), .sl 0 true []]]⟩), (4, some ⟨g6, 6, (l.filter (dueB (N + 1))).map encTm⟩)]) rfl (rows_closed _) ⟨.inl rfl, .inl rfl, .inl rfl, .inr ⟨_, rfl, rfl, rfl⟩, trivial⟩ ⟨⟨rfl, rfl⟩, ⟨rfl, rfl⟩, ⟨rfl, rfl⟩, trivial⟩ ?_
  (repeat' (first | refine goA ?_ | refine goB ?_ | fail))
  exact awp_ret ⟨_, ResL.cons (ResA.agg rfl rfl rfl rfl rfl rfl rfl (RL.allClosed (encCk_closed (N + 1) _))) (ResL.cons (ResA.tmp (.owned rfl rfl (by rw [List.length_map]) (rows_closed _))) .nil), rfl⟩
end Go.Proofs.Ytfaclpcdeflgfaa
namespace Go.Proofs.Ytfaclpcdeflgfaa
open Go Go.RowKit
set_option maxRecDepth 100000
def addK (t : Tmr) (l : List Tmr) : List Tmr := if l.any (fun y => ltT t y) then insT t l else l
theorem insT_end {t : Tmr} : ∀ {l : List Tmr}, (∀ y, y ∈ l → ltT t y = false) → insT t l = l ++ [t]
 | [], _ => rfl
 | x :: l, h => by
  unfold insT
  rw [if_neg (by rw [h x List.mem_cons_self]; decide), insT_end (fun y hy => h y (List.mem_cons_of_mem _ hy))]
  rfl
theorem insT_snoc {t x : Tmr} : ∀ {l : List Tmr}, l.any (fun y => ltT t y) = true → insT t (l ++ [x]) = insT t l ++ [x]
 | [], h => by cases h
 | y :: l, h => by
  rw [List.cons_append]
  unfold insT
  cases hb : ltT t y with
  | true => rw [if_pos rfl, if_pos rfl]; rfl
  | false =>
   rw [if_neg (by decide), if_neg (by decide), insT_snoc (by rw [List.any_cons, hb, Bool.false_or] at h; exact h)]
   rfl
theorem insT_put {t x : Tmr} : ∀ {l : List Tmr}, (∀ y, y ∈ l → ltT t y = false) → ltT t x = true → insT t (l ++ [x]) = l ++ [t] ++ [x]
 | [], _, hx => by
  show (if ltT t x = true then _ else _) = _
  rw [if_pos hx]
  rfl
 | y :: l, h, hx => by
  rw [List.cons_append]
  unfold insT
  rw [if_neg (by rw [h y List.mem_cons_self]; decide), insT_put (fun y hy => h y (List.mem_cons_of_mem _ hy)) hx]
  rfl
theorem any_none' {t : Tmr} {l : List Tmr} (h : l.any (fun y => ltT t y) = false) : ∀ y, y ∈ l → ltT t y = false := fun y hy => by
 cases hb : ltT t y with
 | false => rfl
 | true =>
  have : l.any (fun y => ltT t y) = true := List.any_eq_true.2 ⟨y, hy, hb⟩
  rw [h] at this
  cases this
attribute [local irreducible] Decidable.decide awp ARun regK toK
theorem ref_add_no (N : Int) (l : List Tmr) (t : Tmr) (ht : ¬ (N < t.due ∧ t.due - N ≤ 4294967295)) (hN : 0 ≤ N ∧ N ≤ 4000000000000000000) (hd : In64 t.due) : FnC Try.prog 12 [.agg (encCk N l), .agg (encTm t)] (.tup [.agg (encCk N l), .val (.int .i64 (-24))]) := by
 obtain ⟨hd1, hd2⟩ := hd
 by_cases q : t.due ≤ N
 ·have d1 : decide (t.due ≤ N) = true := decide_eq_true q
  refine goF Try.func12 (closedL_cons (.agg (encCk_closed N l)) (closedL_cons (.agg (encTm_closed t)) closedL_nil)) (fun w0 st0 => ?_)
  dsimp only [frOf]
  (repeat' (first | refine goA ?_ | refine goB ?_ | fail))
  exact awp_ret ⟨_, ResL.cons (ResA.agg rfl rfl rfl rfl rfl rfl rfl (RL.allClosed (encCk_closed N l))) (ResL.cons (ResA.tmp (.val _)) .nil), rfl⟩
 ·have d1 : decide (t.due ≤ N) = false := decide_eq_false q
  have d2 : decide (4294967295 < t.due - N) = true := decide_eq_true (by omega)
  refine goF Try.func12 (closedL_cons (.agg (encCk_closed N l)) (closedL_cons (.agg (encTm_closed t)) closedL_nil)) (fun w0 st0 => ?_)
  dsimp only [frOf]
  (repeat' (first | refine goA ?_ | refine goB ?_ | fail))
  exact awp_ret ⟨_, ResL.cons (ResA.agg rfl rfl rfl rfl rfl rfl rfl (RL.allClosed (encCk_closed N l))) (ResL.cons (ResA.tmp (.val _)) .nil), rfl⟩
set_option maxHeartbeats 8000000 in
theorem ref_add_c (N : Int) (l : List Tmr) (t : Tmr) (ht : N < t.due ∧ t.due - N ≤ 4294967295) (hN : 0 ≤ N ∧ N ≤ 4000000000000000000) (hl : l.length ≤ 900) : FnC Try.prog 12 [.agg (encCk N l), .agg (encTm t)] (.tup [.agg (encCk N (insT t l)), .val (.int .i64 0)]) := by
 have em : (((l.map encTm).length : Nat) : Int) = l.length := by rw [List.length_map]
 have d1 : decide (t.due ≤ N) = false := decide_eq_false (by omega)
 have d2 : decide (4294967295 < t.due - N) = false := decide_eq_false (by omega)
 refine goF Try.func12 (closedL_cons (.agg (encCk_closed N l)) (closedL_cons (.agg (encTm_closed t)) closedL_nil)) (fun w0 st0 => ?_)
 dsimp only [frOf]
 (repeat' (first | refine goA ?_ | refine goB ?_ | fail))
 refine awp_ownNil 6 6 rfl rfl rfl ?_
 refine awp_loopT (T := Nat × List (List AV) × Nat × Nat) (fun s => ⟨[(2, .ptr 2 0 0 0), (3, .ptr 3 1 0 0), (4, .ptr 4 2 0 0), (6, .own 6 s.2.2.1 0 s.2.1.length), (7, .val (.bool ((l.take s.1).any (fun y => ltT t y)))), (8, .val (.int .i64 (s.1 : Nat)))], [(2, some ⟨0, 2, [encCk N l]⟩), (3, some ⟨1, 6, [encTm t]⟩), (4, some ⟨2, 2, [[.val (.int .i64 0), .sl 0 true []]]⟩), (6, some ⟨s.2.2.1, 6, s.2.1⟩)], s.2.2.2⟩) (fun s => s.1 ≤ l.length ∧ s.2.1 = (addK t (l.take s.1)).map encTm) (fun s => l.length - s.1) (0, [], _, _) ⟨Nat.zero_le _, rfl⟩ ⟨⟨rfl, rfl, rfl, rfl, rfl, rfl, trivial⟩, ⟨rfl, rfl, rfl, rfl, trivial⟩, Nat.le_refl _⟩ (fun s hs => ?_)
 obtain ⟨k, r6, g6, gc⟩ := s
 dsimp only at hs ⊢
 obtain ⟨hk, e6⟩ := hs
 clear d1 d2
 have hl6 : r6.length ≤ 1000 := by
  rw [e6, List.length_map]
  unfold addK
  split
  ·rw [insT_len, List.length_take]; omega
  ·rw [List.length_take]; omega
 by_cases hlt : k < l.length
 ·have d2 : decide (((k : Nat) : Int) < ((l.map encTm).length : Nat)) = true := decide_eq_true (by omega)
  obtain ⟨x, hx⟩ : ∃ x, l[k]? = some x := ⟨_, List.getElem?_eq_getElem hlt⟩
  have hp : (l.map encTm)[((k : Nat) : Int).toNat]? = some (encTm x) := map_at hx
  have htk := take_succ' hx
  have hany : (l.take (k + 1)).any (fun y => ltT t y) = ((l.take k).any (fun y => ltT t y) || ltT t x) := by
   rw [htk, List.any_append, List.any_cons, List.any_nil, Bool.or_false]
  have c1 := ahead_c t x
  cases ha : (l.take k).any (fun y => ltT t y) with
  | true =>
   rw [ha, Bool.true_or] at hany
   have e2 : (addK t (l.take (k + 1))).map encTm = r6 ++ [encTm x] := by
    rw [e6]
    unfold addK
    rw [if_pos hany, if_pos ha, htk, insT_snoc ha, List.map_append]
    rfl
   have d5 : (!true) = false := rfl
   cases hb : ltT t x <;> rw [hb] at c1
   all_goals
    (repeat' (first | refine goA ?_ | refine ARun.indexAddr rfl rfl (by omega) (by with_reducible exact hp) rfl rfl rfl rfl rfl (guardF_spec rfl) ?_ | refine cX c1 ?_ | refine appO rfl ?_ | refine goB ?_ | fail))
    refine ⟨(k + 1, _, _, _), ⟨⟨rfl, rfl, rfl, rfl, by rw [hany]; rfl, rfl, trivial⟩, ⟨rfl, rfl, rfl, rfl, trivial⟩, Nat.le_refl _⟩, ⟨hlt, ?_⟩, (by dsimp only; omega)⟩
    dsimp only
    exact e2.symm
  | false =>
   rw [ha, Bool.false_or] at hany
   cases hb : ltT t x with
   | true =>
    rw [hb] at c1 hany
    have e2 : (addK t (l.take (k + 1))).map encTm = (r6 ++ [encTm t]) ++ [encTm x] := by
     rw [e6]
     unfold addK
     rw [if_pos hany, if_neg (by rw [ha]; decide), htk, insT_put (any_none' ha) hb, List.map_append, List.map_append]
     rfl
    have d5 : (!false) = true := rfl
    (repeat' (first | refine goA ?_ | refine ARun.indexAddr rfl rfl (by omega) (by with_reducible exact hp) rfl rfl rfl rfl rfl (guardF_spec rfl) ?_ | refine cX c1 ?_ | refine appO rfl ?_ | refine goB ?_ | fail))
    refine ⟨(k + 1, _, _, _), ⟨⟨rfl, rfl, rfl, rfl, by rw [hany]; rfl, rfl, trivial⟩, ⟨rfl, rfl, rfl, rfl, trivial⟩, Nat.le_refl _⟩, ⟨hlt, ?_⟩, (by dsimp only; omega)⟩
    dsimp only
    exact e2.symm
   | false =>
    rw [hb] at c1 hany
    have e2 : (addK t (l.take (k + 1))).map encTm = r6 ++ [encTm x] := by
     rw [e6]
     unfold addK
     rw [if_neg (by rw [hany]; decide), if_neg (by rw [ha]; decide), htk, List.map_append]
     rfl
    (repeat' (first | refine goA ?_ | refine ARun.indexAddr rfl rfl (by omega) (by with_reducible exact hp) rfl rfl rfl rfl rfl (guardF_spec rfl) ?_ | refine cX c1 ?_ | refine appO rfl ?_ | refine goB ?_ | fail))
    refine ⟨(k + 1, _, _, _), ⟨⟨rfl, rfl, rfl, rfl, by rw [hany]; rfl, rfl, trivial⟩, ⟨rfl, rfl, rfl, rfl, trivial⟩, Nat.le_refl _⟩, ⟨hlt, ?_⟩, (by dsimp only; omega)⟩
    dsimp only
    exact e2.symm
 ·have d2 : decide (((k : Nat) : Int) < ((l.map encTm).length : Nat)) = false := decide_eq_false (by omega)
  have hfull : l.take k = l := List.take_of_length_le (by omega)
  rw [hfull] at e6 ⊢
  cases ha : l.any (fun y => ltT t y) with
  | true =>
   have d5 : (!true) = false := rfl
   have e2 : r6 = (insT t l).map encTm := by
    rw [e6]
    unfold addK
    rw [if_pos ha]
   subst e2
   (repeat' (first | refine goN ?_ | refine awp_region_ne 15 rfl (fun _ => hmix) ?_ | refine ARun.o rfl ?_ | refine goB ?_ | ((fail_if_success refine ARun.plain rfl ?_); refine ARun.fork rfl rfl rfl (fun h => ?_) (fun h => ?_)) | refine awp_cond rfl (fun h => ?_) (fun h => ?_)))
   refine awp_freeze 6 _ 6 ((insT t l).map encTm) (fr' := [(2, .ptr 2 0 0 0), (4, .ptr 4 2 0 0), (6, .sl 6 false ((insT t l).map encTm))]) (hp' := [(2, some ⟨0, 2, [encCk N l]⟩), (4, some ⟨2, 2, [[.val (.int .i64 0), .sl 0 true []]]⟩)]) rfl (rows_closed _) ⟨.inl rfl, .inl rfl, .inr ⟨_, rfl, rfl, rfl⟩, trivial⟩ ⟨⟨rfl, rfl⟩, ⟨rfl, rfl⟩, trivial⟩ ?_
   (repeat' (first | refine goA ?_ | refine goB ?_ | fail))
   exact awp_ret ⟨_, ResL.cons (ResA.agg rfl rfl rfl rfl rfl rfl rfl (RL.allClosed (encCk_closed N _))) (ResL.cons (ResA.tmp (.val _)) .nil), rfl⟩
  | false =>
   have d5 : (!false) = true := rfl
   have e2 : r6 ++ [encTm t] = (insT t l).map encTm := by
    rw [e6]
    unfold addK
    rw [if_neg (by rw [ha]; decide), insT_end (any_none' ha), List.map_append]
    rfl
   (repeat' (first | refine goN ?_ | refine awp_region_ne 15 rfl (fun _ => hmix) ?_ | refine ARun.o rfl ?_ | refine appO rfl ?_ | refine goB ?_ | ((fail_if_success refine ARun.plain rfl ?_); refine ARun.fork rfl rfl rfl (fun h => ?_) (fun h => ?_)) | refine awp_cond rfl (fun h => ?_) (fun h => ?_)))
   refine awp_freeze 6 _ 6 (r6 ++ [encTm t]) (fr' := [(2, .ptr 2 0 0 0), (4, .ptr 4 2 0 0), (6, .sl 6 false (r6 ++ [encTm t]))]) (hp' := [(2, some ⟨0, 2, [encCk N l]⟩), (4, some ⟨2, 2, [[.val (.int .i64 0), .sl 0 true []]]⟩)]) rfl (by rw [e2]; exact rows_closed _) ⟨.inl rfl, .inl rfl, .inr ⟨_, rfl, rfl, rfl⟩, trivial⟩ ⟨⟨rfl, rfl⟩, ⟨rfl, rfl⟩, trivial⟩ ?_
   rw [e2]
   (repeat' (first | refine goA ?_ | refine goB ?_ | fail))
   exact awp_ret ⟨_, ResL.cons (ResA.agg rfl rfl rfl rfl rfl rfl rfl (RL.allClosed (encCk_closed N _))) (ResL.cons (ResA.tmp (.val _)) .nil), rfl⟩
end Go.Proofs.Ytfaclpcdeflgfaa
namespace Go.Proofs.Ytfaclpcdeflgfaa
open Go Go.RowKit Go.ChangeShapes Go.WideShapes Go.Deep Go.Proofs.Ytfaclpcdeflgfaa
set_option maxRecDepth 100000
theorem own_knob : ownKnob Try.prog.godebug = none := by kernel_rfl
theorem laid_out : laidOutB Try.prog = true := by kernel_rfl
section
variable {H : Type} {encT : TypeId × Value → H} {w : World} {base : Nat} {spare : Nat → Bool} {held : Bool}
theorem opens_i : Opens encT Try.prog w base spare held 3 encI In64 := opens_int Try.underlying3
end
end Go.Proofs.Ytfaclpcdeflgfaa
