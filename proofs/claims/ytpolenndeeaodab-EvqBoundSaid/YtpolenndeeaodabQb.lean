/- evq: the document's example. -/
import Derived.Test.YtpolenndeeaodabQa
namespace Go.Proofs.Ytpolenndeeaodab
set_option linter.unusedVariables false
set_option linter.unusedSimpArgs false
open Go Go.RowKit
set_option maxRecDepth 100000
attribute [local irreducible] awp ARun regK toK

def s0 : Q := ⟨[], 4, 2, 0⟩
def s1 : Q := ⟨[(0, 1, 7, 8, 0)], 4, 2, 1⟩
def s2 : Q := ⟨[(0, 1, 7, 8, 0), (1, 0, 7, 9, 0)], 4, 2, 2⟩
def s3 : Q := ⟨[(0, 1, 7, 8, 0), (1, 0, 7, 9, 0), (2, 1, 7, 10, 0)], 4, 2, 3⟩
def s4 : Q := ⟨[(0, 1, 7, 8, 1), (2, 1, 7, 10, 1)], 4, 2, 3⟩
def s5 : Q := ⟨[(2, 0, 7, 10, 0)], 4, 2, 3⟩
def s6 : Q := ⟨[], 4, 2, 3⟩
def sz : Q := ⟨[], 0, 0, 0⟩
theorem shown_new : newQ 4 2 = (s0, 0) := by kernel_rfl
theorem shown_p1 : postQ s0 1 7 8 = (s1, 0, 0) := by kernel_rfl
theorem shown_p2 : postQ s1 0 7 9 = (s2, 1, 0) := by kernel_rfl
theorem shown_p3 : postQ s2 1 7 10 = (s3, 2, 0) := by kernel_rfl
theorem shown_p4 : postQ s3 4 0 0 = (s3, 0, -24) := by kernel_rfl
theorem shown_t1 : takeQ s3 = ((1, 0, 7, 9, 0), s4, true) := by kernel_rfl
theorem shown_t2 : takeQ s4 = ((0, 1, 7, 8, 1), s5, true) := by kernel_rfl
theorem shown_t3 : takeQ s5 = ((2, 0, 7, 10, 0), s6, true) := by kernel_rfl
theorem shown_t4 : takeQ s6 = ((0, 0, 0, 0, 0), s6, false) := by kernel_rfl
theorem shown_r1 : rightQ s6 = true := rightQ_yes ⟨by decide, by decide, by decide, by decide, by decide, fun j e hj => absurd hj (Nat.not_lt_zero j)⟩
theorem shown_r2 : rightQ sz = false := rightQ_no (fun h => absurd h.1.1 (by decide))
theorem shown_e1 : sameQ s6 s6 = true := by kernel_rfl
theorem shown_e2 : sameQ s6 sz = false := by kernel_rfl
theorem all_in {l : List E} (h : l.all (fun e => decide (-9223372036854775807 ≤ e.2.1) && decide (e.2.1 ≤ 9223372036854775807) && decide (-9223372036854775808 ≤ e.2.2.2.2) && decide (e.2.2.2.2 ≤ 9223372036854775806)) = true) : ∀ e, e ∈ l → (-9223372036854775807 ≤ e.2.1 ∧ e.2.1 ≤ 9223372036854775807) ∧ (-9223372036854775808 ≤ e.2.2.2.2 ∧ e.2.2.2.2 ≤ 9223372036854775806) := fun e he => by
  have := List.all_eq_true.1 h e he
  simpa only [Bool.and_eq_true, decide_eq_true_eq, and_assoc] using this

theorem shown_c : FnC Try.prog 8 [] (.val (.bool true)) := by
  have c0 := new_c 4 2
  rw [shown_new] at c0
  have c1 := post_c s0 1 7 8 (by decide) (by decide)
  rw [shown_p1] at c1
  have c2 := post_c s1 0 7 9 (by decide) (by decide)
  rw [shown_p2] at c2
  have c3 := post_c s2 1 7 10 (by decide) (by decide)
  rw [shown_p3] at c3
  have c4 := post_c s3 4 0 0 (by decide) (by decide)
  rw [shown_p4] at c4
  have c5 := take_c s3 (by decide) (all_in (by kernel_rfl))
  rw [shown_t1] at c5
  have c6 := take_c s4 (by decide) (all_in (by kernel_rfl))
  rw [shown_t2] at c6
  have c7 := take_c s5 (by decide) (all_in (by kernel_rfl))
  rw [shown_t3] at c7
  have c8 := take_c s6 (by decide) (all_in (by kernel_rfl))
  rw [shown_t4] at c8
  have c9 := right_c s6 (by decide)
  rw [shown_r1] at c9
  have ca := right_c sz (by decide)
  rw [shown_r2] at ca
  have cb := same_c s6 s6 (by decide)
  rw [shown_e1] at cb
  have cc := same_c s6 sz (by decide)
  rw [shown_e2] at cc
  refine FnC.of_awp (T := tt) (ok := tok) Try.func8 (by kernel_rfl) rfl (by kernel_rfl) closedL_nil (fun w0 st0 => ?_)
  dsimp only [frOf]
  (repeat' (first | refine awp_seq ?_ | refine awp_block ?_ | refine awp_region (fun _ => hmix) ?_ | refine ARun.op rfl (by first | exact True.intro | exact rfl | (unfold inR; omega)) ?_ | refine callX (c0) rfl rfl rfl rfl ?_ | refine callX (c1) rfl rfl rfl rfl ?_ | refine callX (c2) rfl rfl rfl rfl ?_ | refine callX (c3) rfl rfl rfl rfl ?_ | refine callX (c4) rfl rfl rfl rfl ?_ | refine callX (c5) rfl rfl rfl rfl ?_ | refine callX (c6) rfl rfl rfl rfl ?_ | refine callX (c7) rfl rfl rfl rfl ?_ | refine callX (c8) rfl rfl rfl rfl ?_ | refine callX (c9) rfl rfl rfl rfl ?_ | refine callW (ca) rfl (by repeat' (first | exact WkL.nil | refine WkL.cons ?_ ?_ | exact Wk.same _ | exact Wk.nilSl | exact Wk.weak _ _ _ | refine Wk.aggL ?_)) rfl rfl ?_ | refine callX (cb) rfl rfl rfl rfl ?_ | refine callW (cc) rfl (by repeat' (first | exact WkL.nil | refine WkL.cons ?_ ?_ | exact Wk.same _ | exact Wk.nilSl | exact Wk.weak _ _ _ | refine Wk.aggL ?_)) rfl rfl ?_ | (refine ARun.fin (by first | (intro h; cases h; done) | (intro _; kernel_rfl)) ?_; dsimp only [thenA, blockA, AS.bump, List.length_cons, List.length_nil, reduceIte, Nat.reduceEqDiff]) | (refine awp_skip ?_; dsimp only [thenA, blockA, AS.bump, List.length_cons, List.length_nil, reduceIte, Nat.reduceEqDiff]) | (refine awp_exit ?_; dsimp only [thenA, blockA, AS.bump, List.length_cons, List.length_nil, reduceIte, Nat.reduceEqDiff]) | refine awp_condT rfl (by first | rfl | assumption) ?_ | refine awp_condF rfl (by first | rfl | assumption) ?_ | ((fail_if_success refine ARun.plain rfl ?_); first | refine ARun.knowT rfl rfl rfl (by first | rfl | assumption) ?_ | refine ARun.knowF rfl rfl rfl (by first | rfl | assumption) ?_ | refine ARun.fork rfl rfl rfl (fun h => ?_) (fun h => ?_)) | refine awp_cond rfl (fun h => ?_) (fun h => ?_)))
  refine awp_ret ⟨_, ResL.cons (ResA.tmp (.val _)) .nil, ?_⟩
  rfl
end Go.Proofs.Ytpolenndeeaodab
