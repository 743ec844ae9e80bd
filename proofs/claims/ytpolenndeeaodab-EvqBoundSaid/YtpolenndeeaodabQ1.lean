/- evq: walks of the functions that do not loop. -/
import Derived.Test.YtpolenndeeaodabB5
import Derived.Test.YtpolenndeeaodabT
namespace Go.Proofs.Ytpolenndeeaodab
set_option linter.unusedVariables false
set_option linter.unusedSimpArgs false
open Go Go.RowKit
set_option maxRecDepth 100000
attribute [local irreducible] Decidable.decide awp ARun regK toK

theorem within_c (n lo hi : Int) : FnC Try.prog 19 [.val (.int .i64 n), .val (.int .i64 lo), .val (.int .i64 hi)] (.val (.bool (decide (lo ≤ n) && decide (n ≤ hi)))) := by
  refine FnC.of_awp (T := tt) (ok := tok) Try.func19 (by kernel_rfl) rfl (by kernel_rfl) (closedL_cons (.val _) (closedL_cons (.val _) (closedL_cons (.val _) closedL_nil))) (fun w0 st0 => ?_)
  dsimp only [frOf]
  refine awp_seq ?_
  (refine awp_region (fun _ => hmix) ?_; (repeat' (first | refine ARun.op rfl (by first | exact True.intro | exact rfl | (unfold inR; omega)) ?_ | ((fail_if_success refine ARun.plain rfl ?_); first | refine ARun.fork rfl rfl rfl (fun h => ?_) (fun h => ?_) | refine ARun.forkT rfl rfl rfl (fun h => ?_) (fun h => ?_)))); all_goals (refine ARun.fin (by first | (intro h; cases h; done) | (intro _; kernel_rfl)) ?_; dsimp only [thenA, blockA, AS.bump, List.length_cons, List.length_nil, reduceIte, Nat.reduceEqDiff]))
  refine awp_seq ?_
  (refine awp_region (fun _ => hmix) ?_; (repeat' (first | refine ARun.op rfl (by first | exact True.intro | exact rfl | (unfold inR; omega)) ?_ | ((fail_if_success refine ARun.plain rfl ?_); first | refine ARun.fork rfl rfl rfl (fun h => ?_) (fun h => ?_) | refine ARun.forkT rfl rfl rfl (fun h => ?_) (fun h => ?_)))); all_goals (refine ARun.fin (by first | (intro h; cases h; done) | (intro _; kernel_rfl)) ?_; dsimp only [thenA, blockA, AS.bump, List.length_cons, List.length_nil, reduceIte, Nat.reduceEqDiff]))
  all_goals (refine awp_ret ?_; exact ⟨_, ResL.cons (ResA.tmp (.val _)) .nil, by rw [h]; rfl⟩)

abbrev E := Int × Int × Int × Int × Int
def encEv (e : E) : List AV := [.val (.int .i64 e.1), .val (.int .i64 e.2.1), .val (.int .i64 e.2.2.1), .val (.int .i64 e.2.2.2.1), .val (.int .i64 e.2.2.2.2)]
structure Q where
  ev : List E
  room : Int
  age : Int
  next : Int
def encQ (q : Q) : List AV := [.sl 5 false (q.ev.map encEv), .val (.int .i64 q.room), .val (.int .i64 q.age), .val (.int .i64 q.next)]
def newOk (room age : Int) : Bool := (decide (1 ≤ room) && decide (room ≤ 64)) && (decide (1 ≤ age) && decide (age ≤ 1048576))
def newQ (room age : Int) : Q × Int := if newOk room age then (⟨[], room, age, 0⟩, 0) else (⟨[], 0, 0, 0⟩, -24)
theorem newQ_no {room age : Int} (h : newOk room age = false) : newQ room age = (⟨[], 0, 0, 0⟩, -24) := by unfold newQ; rw [h]; rfl
theorem newQ_yes {room age : Int} (h : newOk room age = true) : newQ room age = (⟨[], room, age, 0⟩, 0) := by unfold newQ; rw [h]; rfl

theorem new_c (room age : Int) : FnC Try.prog 9 [.val (.int .i64 room), .val (.int .i64 age)] (.tup [.agg (encQ (newQ room age).1), .val (.int .i64 (newQ room age).2)]) := by
  refine FnC.of_awp (T := tt) (ok := tok) Try.func9 (by kernel_rfl) rfl (by kernel_rfl) (closedL_cons (.val _) (closedL_cons (.val _) closedL_nil)) (fun w0 st0 => ?_)
  dsimp only [frOf]
  refine awp_seq ?_
  (refine awp_region (fun _ => hmix) ?_; (repeat' (first | refine ARun.op rfl (by first | exact True.intro | exact rfl | (unfold inR; omega)) ?_ | ((fail_if_success refine ARun.plain rfl ?_); first | refine ARun.fork rfl rfl rfl (fun h => ?_) (fun h => ?_) | refine ARun.forkT rfl rfl rfl (fun h => ?_) (fun h => ?_)))); all_goals (refine ARun.fin (by first | (intro h; cases h; done) | (intro _; kernel_rfl)) ?_; dsimp only [thenA, blockA, AS.bump, List.length_cons, List.length_nil, reduceIte, Nat.reduceEqDiff]))
  refine awp_seq ?_
  refine awp_seq ?_
  refine awp_region_to ⟨[(13, .val (.bool (!newOk room age))), (4, .ptr 4 (0 + 0) 0 0), (0, .val (.int .i64 room)), (1, .val (.int .i64 age))], [(4, some ⟨0 + 0, 0 + 1 + 1 + 1 + 1, [[.sl 0 true [], .val (.int .i64 0), .val (.int .i64 0), .val (.int .i64 0)]]⟩)], 10⟩ (fun _ => hmix) ?_ ?_
  · ((repeat' (first | refine ARun.op rfl (by first | exact True.intro | exact rfl | (unfold inR; omega)) ?_ | refine callX (within_c _ _ _) rfl rfl rfl rfl ?_ | ((fail_if_success refine ARun.plain rfl ?_); first | refine ARun.fork rfl rfl rfl (fun h => ?_) (fun h => ?_) | refine ARun.forkT rfl rfl rfl (fun h => ?_) (fun h => ?_)))))
    all_goals (refine ARun.finT (by first | (intro h; cases h; done) | (intro _; kernel_rfl)) ?_; refine ⟨⟨?_, rfl, rfl, rfl, trivial⟩, ⟨rfl, trivial⟩, by dsimp only [List.length_cons, List.length_nil]; omega⟩)
    all_goals (unfold newOk; show AV.val _ = AV.val _)
    · rw [nott h]; rfl
    · rw [notf h]; rfl
  · dsimp only [thenA]
    refine awp_cond rfl (fun h2 => ?_) (fun h2 => ?_)
    · rw [newQ_no (nott h2)]
      refine awp_seq ?_
      (refine awp_region (fun _ => hmix) ?_; (repeat' (first | refine ARun.op rfl (by first | exact True.intro | exact rfl | (unfold inR; omega)) ?_ | ((fail_if_success refine ARun.plain rfl ?_); first | refine ARun.fork rfl rfl rfl (fun h => ?_) (fun h => ?_) | refine ARun.forkT rfl rfl rfl (fun h => ?_) (fun h => ?_)))); all_goals (refine ARun.fin (by first | (intro h; cases h; done) | (intro _; kernel_rfl)) ?_; dsimp only [thenA, blockA, AS.bump, List.length_cons, List.length_nil, reduceIte, Nat.reduceEqDiff]))
      refine awp_ret ?_
      exact ⟨_, ResL.cons (ResA.agg rfl rfl rfl rfl rfl rfl rfl (RL.cons (.nilSl (sz' := 5)) (RL.cons (.val _) (RL.cons (.val _) (RL.cons (.val _) (RL.nil _)))))) (ResL.cons (ResA.tmp (.val _)) .nil), rfl⟩
    · rw [newQ_yes (notf h2)]
      (refine awp_skip ?_; dsimp only [thenA, blockA, reduceIte, Nat.reduceEqDiff])
      refine awp_seq ?_
      (refine awp_region (fun _ => hmix) ?_; (repeat' (first | refine ARun.op rfl (by first | exact True.intro | exact rfl | (unfold inR; omega)) ?_ | ((fail_if_success refine ARun.plain rfl ?_); first | refine ARun.fork rfl rfl rfl (fun h => ?_) (fun h => ?_) | refine ARun.forkT rfl rfl rfl (fun h => ?_) (fun h => ?_)))); all_goals (refine ARun.fin (by first | (intro h; cases h; done) | (intro _; kernel_rfl)) ?_; dsimp only [thenA, blockA, AS.bump, List.length_cons, List.length_nil, reduceIte, Nat.reduceEqDiff]))
      refine awp_ret ?_
      exact ⟨_, ResL.cons (ResA.agg rfl rfl rfl rfl rfl rfl rfl (RL.cons (.nilSl (sz' := 5)) (RL.cons (.val _) (RL.cons (.val _) (RL.cons (.val _) (RL.nil _)))))) (ResL.cons (ResA.tmp (.val _)) .nil), rfl⟩
end Go.Proofs.Ytpolenndeeaodab
