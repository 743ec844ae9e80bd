/- mem: which memories are right, and few, and the same; cells that are fetched: of the document's answer. -/
import Derived.Test.YtpolenndeeaodaapM5
import Derived.Test.YtpolenndeeaodaapM4
namespace Go.Proofs.Ytpolenndeeaodaa
set_option linter.unusedVariables false
set_option linter.unusedSimpArgs false
open Go Go.RowKit
set_option maxRecDepth 100000
attribute [local irreducible] Decidable.decide awp ARun regK toK

/-- Why a cell can't stand at a place. -/
def cellAtD (m : Mm) (at' : Int) : Int := if thereD m.b.length at' 8 = false then -9 else if at'.tmod 8 ≠ 0 then -23 else 0
theorem ref_cellAt_c (m : Mm) (at' : Int) (hl : m.b.length ≤ 1000000) : FnC Try.prog 28 [.agg (encM m), .val (.int .i64 at')] (.val (.int .i64 (cellAtD m at'))) := by
  have c1 := ref_there_c m at' 8 hl
  cases ht : thereD m.b.length at' 8 with
  | false =>
    rw [ht] at c1
    rw [show cellAtD m at' = -9 from if_pos ht]
    refine FnC.of_awp (T := tt) (ok := tok) Try.func28 (by kernel_rfl) rfl (by kernel_rfl) (closedL_cons (closed_m m) (closedL_cons (.val _) closedL_nil)) (fun w0 st0 => ?_)
    dsimp only [frOf]
    (repeat' (first | refine awp_seq ?_ | refine awp_block ?_ | refine awp_region (fun _ => hmix) ?_ | refine ARun.op rfl (by first | exact True.intro | exact rfl | (unfold inR; omega) | omega | (unfold inR; simp only [List.length_map, List.length_append, List.length_take, List.length_drop, List.length_cons, List.length_nil] at *; omega) | ((try unfold inR); simp only [decide_eq_true_eq, decide_eq_false_iff_not, beq_iff_eq, beq_eq_false_iff_ne, ne_eq, Bool.not_eq_true', Bool.not_eq_false', List.length_map, List.length_append, List.length_take, List.length_drop, List.length_cons, List.length_nil] at *; omega)) ?_ | refine callX (c1) rfl rfl rfl rfl ?_ | (refine ARun.fin (by first | (intro h; cases h; done) | (intro _; kernel_rfl)) ?_; dsimp only [thenA, blockA, AS.bump, List.length_cons, List.length_nil, reduceIte, Nat.reduceEqDiff]) | (refine awp_skip ?_; dsimp only [thenA, blockA, AS.bump, List.length_cons, List.length_nil, reduceIte, Nat.reduceEqDiff]) | (refine awp_exit ?_; dsimp only [thenA, blockA, AS.bump, List.length_cons, List.length_nil, reduceIte, Nat.reduceEqDiff]) | refine awp_condT rfl (by first | rfl | assumption) ?_ | refine awp_condF rfl (by first | rfl | assumption) ?_ | ((fail_if_success refine ARun.plain rfl ?_); first | refine ARun.knowT rfl rfl rfl (by first | rfl | assumption) ?_ | refine ARun.knowF rfl rfl rfl (by first | rfl | assumption) ?_ | refine ARun.fork rfl rfl rfl (fun h => ?_) (fun h => ?_)) | refine awp_cond rfl (fun h => ?_) (fun h => ?_)))
    (refine awp_ret ⟨_, ResL.cons (ResA.tmp (.val _)) .nil, rfl⟩)
  | true =>
    rw [ht] at c1
    have h0 : ¬ thereD m.b.length at' 8 = false := by simp [ht]
    by_cases hm : at'.tmod 8 = 0
    · have h1 : (at'.tmod 8 != 0) = false := by simp [hm]
      rw [show cellAtD m at' = 0 by unfold cellAtD; rw [if_neg h0, if_neg (by simp [hm])]]
      refine FnC.of_awp (T := tt) (ok := tok) Try.func28 (by kernel_rfl) rfl (by kernel_rfl) (closedL_cons (closed_m m) (closedL_cons (.val _) closedL_nil)) (fun w0 st0 => ?_)
      dsimp only [frOf]
      (repeat' (first | refine awp_seq ?_ | refine awp_block ?_ | refine awp_region (fun _ => hmix) ?_ | refine ARun.op rfl (by first | exact True.intro | exact rfl | (unfold inR; omega) | omega | (unfold inR; simp only [List.length_map, List.length_append, List.length_take, List.length_drop, List.length_cons, List.length_nil] at *; omega) | ((try unfold inR); simp only [decide_eq_true_eq, decide_eq_false_iff_not, beq_iff_eq, beq_eq_false_iff_ne, ne_eq, Bool.not_eq_true', Bool.not_eq_false', List.length_map, List.length_append, List.length_take, List.length_drop, List.length_cons, List.length_nil] at *; omega)) ?_ | refine callX (c1) rfl rfl rfl rfl ?_ | (refine ARun.fin (by first | (intro h; cases h; done) | (intro _; kernel_rfl)) ?_; dsimp only [thenA, blockA, AS.bump, List.length_cons, List.length_nil, reduceIte, Nat.reduceEqDiff]) | (refine awp_skip ?_; dsimp only [thenA, blockA, AS.bump, List.length_cons, List.length_nil, reduceIte, Nat.reduceEqDiff]) | (refine awp_exit ?_; dsimp only [thenA, blockA, AS.bump, List.length_cons, List.length_nil, reduceIte, Nat.reduceEqDiff]) | refine awp_condT rfl (by first | rfl | assumption) ?_ | refine awp_condF rfl (by first | rfl | assumption) ?_ | ((fail_if_success refine ARun.plain rfl ?_); first | refine ARun.knowT rfl rfl rfl (by first | rfl | assumption) ?_ | refine ARun.knowF rfl rfl rfl (by first | rfl | assumption) ?_ | refine ARun.fork rfl rfl rfl (fun h => ?_) (fun h => ?_)) | refine awp_cond rfl (fun h => ?_) (fun h => ?_)))
      (refine awp_ret ⟨_, ResL.cons (ResA.tmp (.val _)) .nil, rfl⟩)
    · have h1 : (at'.tmod 8 != 0) = true := by simp [hm]
      rw [show cellAtD m at' = -23 by unfold cellAtD; rw [if_neg h0, if_pos hm]]
      refine FnC.of_awp (T := tt) (ok := tok) Try.func28 (by kernel_rfl) rfl (by kernel_rfl) (closedL_cons (closed_m m) (closedL_cons (.val _) closedL_nil)) (fun w0 st0 => ?_)
      dsimp only [frOf]
      (repeat' (first | refine awp_seq ?_ | refine awp_block ?_ | refine awp_region (fun _ => hmix) ?_ | refine ARun.op rfl (by first | exact True.intro | exact rfl | (unfold inR; omega) | omega | (unfold inR; simp only [List.length_map, List.length_append, List.length_take, List.length_drop, List.length_cons, List.length_nil] at *; omega) | ((try unfold inR); simp only [decide_eq_true_eq, decide_eq_false_iff_not, beq_iff_eq, beq_eq_false_iff_ne, ne_eq, Bool.not_eq_true', Bool.not_eq_false', List.length_map, List.length_append, List.length_take, List.length_drop, List.length_cons, List.length_nil] at *; omega)) ?_ | refine callX (c1) rfl rfl rfl rfl ?_ | (refine ARun.fin (by first | (intro h; cases h; done) | (intro _; kernel_rfl)) ?_; dsimp only [thenA, blockA, AS.bump, List.length_cons, List.length_nil, reduceIte, Nat.reduceEqDiff]) | (refine awp_skip ?_; dsimp only [thenA, blockA, AS.bump, List.length_cons, List.length_nil, reduceIte, Nat.reduceEqDiff]) | (refine awp_exit ?_; dsimp only [thenA, blockA, AS.bump, List.length_cons, List.length_nil, reduceIte, Nat.reduceEqDiff]) | refine awp_condT rfl (by first | rfl | assumption) ?_ | refine awp_condF rfl (by first | rfl | assumption) ?_ | ((fail_if_success refine ARun.plain rfl ?_); first | refine ARun.knowT rfl rfl rfl (by first | rfl | assumption) ?_ | refine ARun.knowF rfl rfl rfl (by first | rfl | assumption) ?_ | refine ARun.fork rfl rfl rfl (fun h => ?_) (fun h => ?_)) | refine awp_cond rfl (fun h => ?_) (fun h => ?_)))
      (refine awp_ret ⟨_, ResL.cons (ResA.tmp (.val _)) .nil, rfl⟩)
/-- The cell at a place. -/
def fetchD (m : Mm) (at' : Int) : Int × Int := if cellAtD m at' ≠ 0 then (0, cellAtD m at') else ((getD (partD m.b at' 8)).1, 0)
theorem cellAt_there {m : Mm} {at' : Int} (h : cellAtD m at' = 0) : thereD m.b.length at' 8 = true ∧ at'.tmod 8 = 0 := by
  unfold cellAtD at h
  split at h
  · omega
  · rename_i h1
    split at h
    · omega
    · rename_i h2
      exact ⟨by simpa using h1, by simpa using h2⟩
theorem ref_fetch_c (m : Mm) (at' : Int) (hl : m.b.length ≤ 1000000) : FnC Try.prog 20 [.agg (encM m), .val (.int .i64 at')] (.tup [.val (.int .i64 (fetchD m at').1), .val (.int .i64 (fetchD m at').2)]) := by
  have c1 := ref_cellAt_c m at' hl
  by_cases h0 : cellAtD m at' = 0
  · rw [show fetchD m at' = ((getD (partD m.b at' 8)).1, 0) from if_neg (by simp [h0])]
    rw [h0] at c1
    have z : ((0 : Int) != 0) = false := by simp
    obtain ⟨ht, _⟩ := cellAt_there h0
    have h4 := there_yes ht (by omega)
    obtain ⟨a, rfl⟩ : ∃ a : Nat, at' = (a : Int) := ⟨at'.toNat, by omega⟩
    have hs := split3 encB m.b a 8
    have hp1 : ((m.b.take a).map encB).length = a := by simp; omega
    have hp2 : (((m.b.drop a).take 8).map encB).length = 8 := by simp; omega
    have c2 := ref_get_c ((m.b.drop a).take 8) (by simp; omega)
    refine FnC.of_awp (T := tt) (ok := tok) Try.func20 (by kernel_rfl) rfl (by kernel_rfl) (closedL_cons (closed_m m) (closedL_cons (.val _) closedL_nil)) (fun w0 st0 => ?_)
    dsimp only [frOf]
    (repeat' (first | refine awp_seq ?_ | refine awp_block ?_ | refine awp_region (fun _ => hmix) ?_ | refine ARun.op rfl (by first | exact True.intro | exact rfl | (unfold inR; omega) | omega | (unfold inR; simp only [List.length_map, List.length_append, List.length_take, List.length_drop, List.length_cons, List.length_nil] at *; omega) | ((try unfold inR); simp only [decide_eq_true_eq, decide_eq_false_iff_not, beq_iff_eq, beq_eq_false_iff_ne, ne_eq, Bool.not_eq_true', Bool.not_eq_false', List.length_map, List.length_append, List.length_take, List.length_drop, List.length_cons, List.length_nil] at *; omega)) ?_ | refine callX (c1) rfl rfl rfl rfl ?_ | refine callX (c2) rfl rfl rfl rfl ?_ | refine ARun.sliceMid rfl (by first | assumption | rfl) rfl (by first | omega | (dsimp only [maxLen]; done) | (dsimp only [maxLen]; omega) | (simp only [List.length_append, List.length_map, List.length_take, List.length_drop, List.length_replicate, List.length_cons, List.length_nil, maxLen]; done) | (simp only [List.length_append, List.length_map, List.length_take, List.length_drop, List.length_replicate, List.length_cons, List.length_nil, maxLen]; omega) | (simp only [List.length_append, List.length_map, List.length_take, List.length_drop, List.length_replicate, List.length_cons, List.length_nil, maxLen] at *; done) | (simp only [List.length_append, List.length_map, List.length_take, List.length_drop, List.length_replicate, List.length_cons, List.length_nil, maxLen] at *; omega)) rfl (by first | omega | (dsimp only [maxLen]; done) | (dsimp only [maxLen]; omega) | (simp only [List.length_append, List.length_map, List.length_take, List.length_drop, List.length_replicate, List.length_cons, List.length_nil, maxLen]; done) | (simp only [List.length_append, List.length_map, List.length_take, List.length_drop, List.length_replicate, List.length_cons, List.length_nil, maxLen]; omega) | (simp only [List.length_append, List.length_map, List.length_take, List.length_drop, List.length_replicate, List.length_cons, List.length_nil, maxLen] at *; done) | (simp only [List.length_append, List.length_map, List.length_take, List.length_drop, List.length_replicate, List.length_cons, List.length_nil, maxLen] at *; omega)) rfl rfl rfl rfl rfl (guardF_spec rfl) ?_ | (refine ARun.fin (by first | (intro h; cases h; done) | (intro _; kernel_rfl)) ?_; dsimp only [thenA, blockA, AS.bump, List.length_cons, List.length_nil, reduceIte, Nat.reduceEqDiff]) | (refine awp_skip ?_; dsimp only [thenA, blockA, AS.bump, List.length_cons, List.length_nil, reduceIte, Nat.reduceEqDiff]) | (refine awp_exit ?_; dsimp only [thenA, blockA, AS.bump, List.length_cons, List.length_nil, reduceIte, Nat.reduceEqDiff]) | refine awp_condT rfl (by first | rfl | assumption) ?_ | refine awp_condF rfl (by first | rfl | assumption) ?_ | ((fail_if_success refine ARun.plain rfl ?_); first | refine ARun.knowT rfl rfl rfl (by first | rfl | assumption) ?_ | refine ARun.knowF rfl rfl rfl (by first | rfl | assumption) ?_ | refine ARun.fork rfl rfl rfl (fun h => ?_) (fun h => ?_)) | refine awp_cond rfl (fun h => ?_) (fun h => ?_)))
    refine awp_ret ⟨_, ResL.cons (ResA.tmp (.val _)) (ResL.cons (ResA.tmp (.val _)) .nil), rfl⟩
  · rw [show fetchD m at' = (0, cellAtD m at') from if_pos h0]
    have z : (cellAtD m at' != 0) = true := by simp [h0]
    refine FnC.of_awp (T := tt) (ok := tok) Try.func20 (by kernel_rfl) rfl (by kernel_rfl) (closedL_cons (closed_m m) (closedL_cons (.val _) closedL_nil)) (fun w0 st0 => ?_)
    dsimp only [frOf]
    (repeat' (first | refine awp_seq ?_ | refine awp_block ?_ | refine awp_region (fun _ => hmix) ?_ | refine ARun.op rfl (by first | exact True.intro | exact rfl | (unfold inR; omega) | omega | (unfold inR; simp only [List.length_map, List.length_append, List.length_take, List.length_drop, List.length_cons, List.length_nil] at *; omega) | ((try unfold inR); simp only [decide_eq_true_eq, decide_eq_false_iff_not, beq_iff_eq, beq_eq_false_iff_ne, ne_eq, Bool.not_eq_true', Bool.not_eq_false', List.length_map, List.length_append, List.length_take, List.length_drop, List.length_cons, List.length_nil] at *; omega)) ?_ | refine callX (c1) rfl rfl rfl rfl ?_ | (refine ARun.fin (by first | (intro h; cases h; done) | (intro _; kernel_rfl)) ?_; dsimp only [thenA, blockA, AS.bump, List.length_cons, List.length_nil, reduceIte, Nat.reduceEqDiff]) | (refine awp_skip ?_; dsimp only [thenA, blockA, AS.bump, List.length_cons, List.length_nil, reduceIte, Nat.reduceEqDiff]) | (refine awp_exit ?_; dsimp only [thenA, blockA, AS.bump, List.length_cons, List.length_nil, reduceIte, Nat.reduceEqDiff]) | refine awp_condT rfl (by first | rfl | assumption) ?_ | refine awp_condF rfl (by first | rfl | assumption) ?_ | ((fail_if_success refine ARun.plain rfl ?_); first | refine ARun.knowT rfl rfl rfl (by first | rfl | assumption) ?_ | refine ARun.knowF rfl rfl rfl (by first | rfl | assumption) ?_ | refine ARun.fork rfl rfl rfl (fun h => ?_) (fun h => ?_)) | refine awp_cond rfl (fun h => ?_) (fun h => ?_)))
    refine awp_ret ⟨_, ResL.cons (ResA.tmp (.val _)) (ResL.cons (ResA.tmp (.val _)) .nil), rfl⟩

/-- Right memories. -/
def RightM (m : Mm) : Prop := (∀ p, p ∈ m.old → thereD m.b.length p.1 p.2.length = true) ∧ m.b.length ≤ 65536 ∧ m.b.length % 8 = 0
def FewM (m : Mm) (most : Int) : Prop := (m.b.length : Int) ≤ most ∧ m.old.length ≤ 60 ∧ ∀ p, p ∈ m.old → p.2.length ≤ 200
open Classical in
noncomputable def rightM (m : Mm) : Bool := if RightM m then true else false
open Classical in
noncomputable def fewM (m : Mm) (most : Int) : Bool := if FewM m most then true else false
theorem rightM_yes {m : Mm} (h : RightM m) : rightM m = true := by unfold rightM; exact if_pos h
theorem rightM_no {m : Mm} (h : ¬ RightM m) : rightM m = false := by unfold rightM; exact if_neg h
theorem fewM_yes {m : Mm} {most : Int} (h : FewM m most) : fewM m most = true := by unfold fewM; exact if_pos h
theorem fewM_no {m : Mm} {most : Int} (h : ¬ FewM m most) : fewM m most = false := by unfold fewM; exact if_neg h
set_option maxHeartbeats 4000000 in
theorem ref_few_c (m : Mm) (most : Int) : FnC Try.prog 21 [.agg (encM m), .val (.int .i64 most)] (.val (.bool (fewM m most))) := by
  refine FnC.of_awp (T := tt) (ok := tok) Try.func21 (by kernel_rfl) rfl (by kernel_rfl) (closedL_cons (closed_m m) (closedL_cons (.val _) closedL_nil)) (fun w0 st0 => ?_)
  dsimp only [frOf]
  by_cases h1 : most < (m.b.length : Int)
  · have d1 : decide (most < (((m.b.map encB).length : Nat) : Int)) = true := by simpa using h1
    rw [fewM_no (fun h => by have := h.1; omega)]
    (repeat' (first | refine awp_seq ?_ | refine awp_block ?_ | refine awp_region (fun _ => hmix) ?_ | refine ARun.op rfl (by first | exact True.intro | exact rfl | (unfold inR; omega) | omega | (unfold inR; simp only [List.length_map, List.length_append, List.length_take, List.length_drop, List.length_cons, List.length_nil] at *; omega) | ((try unfold inR); simp only [decide_eq_true_eq, decide_eq_false_iff_not, beq_iff_eq, beq_eq_false_iff_ne, ne_eq, Bool.not_eq_true', Bool.not_eq_false', List.length_map, List.length_append, List.length_take, List.length_drop, List.length_cons, List.length_nil] at *; omega)) ?_ | (refine ARun.fin (by first | (intro h; cases h; done) | (intro _; kernel_rfl)) ?_; dsimp only [thenA, blockA, AS.bump, List.length_cons, List.length_nil, reduceIte, Nat.reduceEqDiff]) | (refine awp_skip ?_; dsimp only [thenA, blockA, AS.bump, List.length_cons, List.length_nil, reduceIte, Nat.reduceEqDiff]) | (refine awp_exit ?_; dsimp only [thenA, blockA, AS.bump, List.length_cons, List.length_nil, reduceIte, Nat.reduceEqDiff]) | refine awp_condT rfl (by first | rfl | assumption) ?_ | refine awp_condF rfl (by first | rfl | assumption) ?_ | ((fail_if_success refine ARun.plain rfl ?_); first | refine ARun.knowT rfl rfl rfl (by first | rfl | assumption) ?_ | refine ARun.knowF rfl rfl rfl (by first | rfl | assumption) ?_ | refine ARun.fork rfl rfl rfl (fun h => ?_) (fun h => ?_)) | refine awp_cond rfl (fun h => ?_) (fun h => ?_)))
    (refine awp_ret ⟨_, ResL.cons (ResA.tmp (.val _)) .nil, rfl⟩)
  by_cases h2 : (60 : Int) < (m.old.length : Int)
  · have d1 : decide (most < (((m.b.map encB).length : Nat) : Int)) = false := by simpa using h1
    have d2 : decide ((60 : Int) < (((m.old.map encP).length : Nat) : Int)) = true := by simpa using h2
    rw [fewM_no (fun h => by have := h.2.1; omega)]
    (repeat' (first | refine awp_seq ?_ | refine awp_block ?_ | refine awp_region (fun _ => hmix) ?_ | refine ARun.op rfl (by first | exact True.intro | exact rfl | (unfold inR; omega) | omega | (unfold inR; simp only [List.length_map, List.length_append, List.length_take, List.length_drop, List.length_cons, List.length_nil] at *; omega) | ((try unfold inR); simp only [decide_eq_true_eq, decide_eq_false_iff_not, beq_iff_eq, beq_eq_false_iff_ne, ne_eq, Bool.not_eq_true', Bool.not_eq_false', List.length_map, List.length_append, List.length_take, List.length_drop, List.length_cons, List.length_nil] at *; omega)) ?_ | (refine ARun.fin (by first | (intro h; cases h; done) | (intro _; kernel_rfl)) ?_; dsimp only [thenA, blockA, AS.bump, List.length_cons, List.length_nil, reduceIte, Nat.reduceEqDiff]) | (refine awp_skip ?_; dsimp only [thenA, blockA, AS.bump, List.length_cons, List.length_nil, reduceIte, Nat.reduceEqDiff]) | (refine awp_exit ?_; dsimp only [thenA, blockA, AS.bump, List.length_cons, List.length_nil, reduceIte, Nat.reduceEqDiff]) | refine awp_condT rfl (by first | rfl | assumption) ?_ | refine awp_condF rfl (by first | rfl | assumption) ?_ | ((fail_if_success refine ARun.plain rfl ?_); first | refine ARun.knowT rfl rfl rfl (by first | rfl | assumption) ?_ | refine ARun.knowF rfl rfl rfl (by first | rfl | assumption) ?_ | refine ARun.fork rfl rfl rfl (fun h => ?_) (fun h => ?_)) | refine awp_cond rfl (fun h => ?_) (fun h => ?_)))
    (refine awp_ret ⟨_, ResL.cons (ResA.tmp (.val _)) .nil, rfl⟩)
  have d1 : decide (most < (((m.b.map encB).length : Nat) : Int)) = false := by simpa using h1
  have d2 : decide ((60 : Int) < (((m.old.map encP).length : Nat) : Int)) = false := by simpa using h2
  (repeat' (first | refine awp_seq ?_ | refine awp_block ?_ | refine awp_region (fun _ => hmix) ?_ | refine ARun.op rfl (by first | exact True.intro | exact rfl | (unfold inR; omega) | omega | (unfold inR; simp only [List.length_map, List.length_append, List.length_take, List.length_drop, List.length_cons, List.length_nil] at *; omega) | ((try unfold inR); simp only [decide_eq_true_eq, decide_eq_false_iff_not, beq_iff_eq, beq_eq_false_iff_ne, ne_eq, Bool.not_eq_true', Bool.not_eq_false', List.length_map, List.length_append, List.length_take, List.length_drop, List.length_cons, List.length_nil] at *; omega)) ?_ | (refine ARun.fin (by first | (intro h; cases h; done) | (intro _; kernel_rfl)) ?_; dsimp only [thenA, blockA, AS.bump, List.length_cons, List.length_nil, reduceIte, Nat.reduceEqDiff]) | (refine awp_skip ?_; dsimp only [thenA, blockA, AS.bump, List.length_cons, List.length_nil, reduceIte, Nat.reduceEqDiff]) | (refine awp_exit ?_; dsimp only [thenA, blockA, AS.bump, List.length_cons, List.length_nil, reduceIte, Nat.reduceEqDiff]) | refine awp_condT rfl (by first | rfl | assumption) ?_ | refine awp_condF rfl (by first | rfl | assumption) ?_ | ((fail_if_success refine ARun.plain rfl ?_); first | refine ARun.knowT rfl rfl rfl (by first | rfl | assumption) ?_ | refine ARun.knowF rfl rfl rfl (by first | rfl | assumption) ?_ | refine ARun.fork rfl rfl rfl (fun h => ?_) (fun h => ?_)) | refine awp_cond rfl (fun h => ?_) (fun h => ?_)))
  refine awp_loopT (T := Nat × Nat) (fun t => ⟨[(2, .ptr 2 0 0 0), (5, .val (.int .i64 (t.1 : Nat)))], [(2, some ⟨0, 2, [encM m]⟩)], t.2⟩) (fun t => t.1 ≤ m.old.length ∧ ∀ (j : Nat) (p : Pt), j < t.1 → m.old[j]? = some p → p.2.length ≤ 200) (fun t => m.old.length - t.1) (0, _) ⟨Nat.zero_le _, fun j p hj => absurd hj (Nat.not_lt_zero j)⟩ ⟨⟨rfl, rfl, trivial⟩, ⟨rfl, trivial⟩, Nat.le_refl _⟩ (fun t ht => ?_)
  obtain ⟨k, gc⟩ := t
  obtain ⟨hk, hA⟩ := ht
  dsimp only at hk hA ⊢
  clear d1 d2
  by_cases hlt : k < m.old.length
  · have hp : m.old[k]? = some m.old[k] := List.getElem?_eq_getElem hlt
    have hmem : m.old[k] ∈ m.old := List.getElem_mem hlt
    have hc : decide (((k : Nat) : Int) < (((m.old.map encP).length : Nat) : Int)) = true := by simp; omega
    generalize m.old[k] = p at hp hmem
    obtain ⟨pa, pb⟩ := p
    by_cases h3 : (200 : Int) < (pb.length : Int)
    · have d3 : decide ((200 : Int) < (((pb.map encB).length : Nat) : Int)) = true := by simpa using h3
      rw [fewM_no (fun h => by have := h.2.2 _ hmem; simp only at this; omega)]
      (repeat' (first | refine awp_seq ?_ | refine awp_block ?_ | refine awp_region (fun _ => hmix) ?_ | refine ARun.op rfl (by first | exact True.intro | exact rfl | (unfold inR; omega) | omega | (unfold inR; simp only [List.length_map, List.length_append, List.length_take, List.length_drop, List.length_cons, List.length_nil] at *; omega) | ((try unfold inR); simp only [decide_eq_true_eq, decide_eq_false_iff_not, beq_iff_eq, beq_eq_false_iff_ne, ne_eq, Bool.not_eq_true', Bool.not_eq_false', List.length_map, List.length_append, List.length_take, List.length_drop, List.length_cons, List.length_nil] at *; omega)) ?_ | refine ARun.indexAddr rfl rfl (by omega) (by first | with_reducible exact get_map hp | with_reducible exact get_map hp) rfl rfl rfl rfl rfl (guardF_spec rfl) ?_ | (refine ARun.fin (by first | (intro h; cases h; done) | (intro _; kernel_rfl)) ?_; dsimp only [thenA, blockA, AS.bump, List.length_cons, List.length_nil, reduceIte, Nat.reduceEqDiff]) | (refine awp_skip ?_; dsimp only [thenA, blockA, AS.bump, List.length_cons, List.length_nil, reduceIte, Nat.reduceEqDiff]) | (refine awp_exit ?_; dsimp only [thenA, blockA, AS.bump, List.length_cons, List.length_nil, reduceIte, Nat.reduceEqDiff]) | refine awp_condT rfl (by first | rfl | assumption) ?_ | refine awp_condF rfl (by first | rfl | assumption) ?_ | ((fail_if_success refine ARun.plain rfl ?_); first | refine ARun.knowT rfl rfl rfl (by first | rfl | assumption) ?_ | refine ARun.knowF rfl rfl rfl (by first | rfl | assumption) ?_ | refine ARun.fork rfl rfl rfl (fun h => ?_) (fun h => ?_)) | refine awp_cond rfl (fun h => ?_) (fun h => ?_)))
      (refine awp_ret ⟨_, ResL.cons (ResA.tmp (.val _)) .nil, rfl⟩)
    · have d3 : decide ((200 : Int) < (((pb.map encB).length : Nat) : Int)) = false := by simpa using h3
      (repeat' (first | refine awp_seq ?_ | refine awp_block ?_ | refine awp_region (fun _ => hmix) ?_ | refine ARun.op rfl (by first | exact True.intro | exact rfl | (unfold inR; omega) | omega | (unfold inR; simp only [List.length_map, List.length_append, List.length_take, List.length_drop, List.length_cons, List.length_nil] at *; omega) | ((try unfold inR); simp only [decide_eq_true_eq, decide_eq_false_iff_not, beq_iff_eq, beq_eq_false_iff_ne, ne_eq, Bool.not_eq_true', Bool.not_eq_false', List.length_map, List.length_append, List.length_take, List.length_drop, List.length_cons, List.length_nil] at *; omega)) ?_ | refine ARun.indexAddr rfl rfl (by omega) (by first | with_reducible exact get_map hp | with_reducible exact get_map hp) rfl rfl rfl rfl rfl (guardF_spec rfl) ?_ | (refine ARun.fin (by first | (intro h; cases h; done) | (intro _; kernel_rfl)) ?_; dsimp only [thenA, blockA, AS.bump, List.length_cons, List.length_nil, reduceIte, Nat.reduceEqDiff]) | (refine awp_skip ?_; dsimp only [thenA, blockA, AS.bump, List.length_cons, List.length_nil, reduceIte, Nat.reduceEqDiff]) | (refine awp_exit ?_; dsimp only [thenA, blockA, AS.bump, List.length_cons, List.length_nil, reduceIte, Nat.reduceEqDiff]) | refine awp_condT rfl (by first | rfl | assumption) ?_ | refine awp_condF rfl (by first | rfl | assumption) ?_ | ((fail_if_success refine ARun.plain rfl ?_); first | refine ARun.knowT rfl rfl rfl (by first | rfl | assumption) ?_ | refine ARun.knowF rfl rfl rfl (by first | rfl | assumption) ?_ | refine ARun.fork rfl rfl rfl (fun h => ?_) (fun h => ?_)) | refine awp_cond rfl (fun h => ?_) (fun h => ?_)))
      refine ⟨(k + 1, _), ⟨⟨rfl, succI k, trivial⟩, ⟨rfl, trivial⟩, Nat.le_refl _⟩, ⟨hlt, fun j p hj hjp => ?_⟩, (by dsimp only; omega)⟩
      by_cases hjk : j = k
      · subst hjk
        rw [hp] at hjp
        obtain rfl := Option.some.inj hjp
        simp only
        omega
      · exact hA j p (by simp only at hj; omega) hjp
  · have hkk : k = m.old.length := by omega
    subst hkk
    have hc : decide (((m.old.length : Nat) : Int) < (((m.old.map encP).length : Nat) : Int)) = false := by simp
    rw [fewM_yes ⟨by omega, by omega, fun p hp => by
      obtain ⟨j, hj⟩ := List.getElem?_of_mem hp
      exact hA j p (List.getElem?_eq_some_iff.1 hj).1 hj⟩]
    (repeat' (first | refine awp_seq ?_ | refine awp_block ?_ | refine awp_region (fun _ => hmix) ?_ | refine ARun.op rfl (by first | exact True.intro | exact rfl | (unfold inR; omega) | omega | (unfold inR; simp only [List.length_map, List.length_append, List.length_take, List.length_drop, List.length_cons, List.length_nil] at *; omega) | ((try unfold inR); simp only [decide_eq_true_eq, decide_eq_false_iff_not, beq_iff_eq, beq_eq_false_iff_ne, ne_eq, Bool.not_eq_true', Bool.not_eq_false', List.length_map, List.length_append, List.length_take, List.length_drop, List.length_cons, List.length_nil] at *; omega)) ?_ | (refine ARun.fin (by first | (intro h; cases h; done) | (intro _; kernel_rfl)) ?_; dsimp only [thenA, blockA, AS.bump, List.length_cons, List.length_nil, reduceIte, Nat.reduceEqDiff]) | (refine awp_skip ?_; dsimp only [thenA, blockA, AS.bump, List.length_cons, List.length_nil, reduceIte, Nat.reduceEqDiff]) | (refine awp_exit ?_; dsimp only [thenA, blockA, AS.bump, List.length_cons, List.length_nil, reduceIte, Nat.reduceEqDiff]) | refine awp_condT rfl (by first | rfl | assumption) ?_ | refine awp_condF rfl (by first | rfl | assumption) ?_ | ((fail_if_success refine ARun.plain rfl ?_); first | refine ARun.knowT rfl rfl rfl (by first | rfl | assumption) ?_ | refine ARun.knowF rfl rfl rfl (by first | rfl | assumption) ?_ | refine ARun.fork rfl rfl rfl (fun h => ?_) (fun h => ?_)) | refine awp_cond rfl (fun h => ?_) (fun h => ?_)))
    (refine awp_ret ⟨_, ResL.cons (ResA.tmp (.val _)) .nil, rfl⟩)
end Go.Proofs.Ytpolenndeeaodaa
