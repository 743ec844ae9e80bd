/- mem: what is there; rows of bytes. -/
import Derived.Test.YtpdnbhimmfhaaaamT
import Derived.Test.YtpdnbhimmfhaaaaD6
import Derived.Test.YtpdnbhimmfhaaaaC1
import Derived.Laws.Strings
namespace Go.Proofs.Ytpdnbhimmfhaaaa
set_option linter.unusedVariables false
set_option linter.unusedSimpArgs false
open Go Go.RowKit
set_option maxRecDepth 100000
attribute [local irreducible] Decidable.decide awp ARun regK toK

/-- A memory: its bytes; its patches: a place, bytes. -/
abbrev Pt := Int × List UInt8
structure Mm where
  b : List UInt8
  old : List Pt
def encBs (l : List UInt8) : AV := .sl 1 false (l.map encB)
theorem closed_bs (l : List UInt8) : Closed (encBs l) := closed_map encB_closed
def encP (p : Pt) : List AV := [.val (.int .i64 p.1), encBs p.2]
theorem encP_closed (p : Pt) : ∀ x, x ∈ encP p → Closed x := closedL_cons (.val _) (closedL_cons (closed_bs p.2) closedL_nil)
def encM (m : Mm) : List AV := [encBs m.b, .sl 2 false (m.old.map encP)]
theorem encM_closed (m : Mm) : ∀ x, x ∈ encM m → Closed x := closedL_cons (closed_bs m.b) (closedL_cons (closed_map encP_closed) closedL_nil)
theorem closed_m (m : Mm) : Closed (.agg (encM m)) := .agg (encM_closed m)

/-- Are so many bytes at a place? -/
def thereD (len at' n : Int) : Bool := decide (n = 0 ∨ (0 < n ∧ 0 ≤ at' ∧ at' ≤ len ∧ n ≤ len - at'))
theorem there_c (m : Mm) (at' n : Int) (hl : m.b.length ≤ 1000000) : FnC Try.prog 47 [.agg (encM m), .val (.int .i64 at'), .val (.int .i64 n)] (.val (.bool (thereD m.b.length at' n))) := by
  refine FnC.of_awp (T := tt) (ok := tok) Try.func47 (by kernel_rfl) rfl (by kernel_rfl) (closedL_cons (closed_m m) (closedL_cons (.val _) (closedL_cons (.val _) closedL_nil))) (fun w0 st0 => ?_)
  dsimp only [frOf]
  (repeat' (first | refine awp_seq ?_ | refine awp_block ?_ | refine awp_region (fun _ => hmix) ?_ | refine ARun.op rfl (by first | exact True.intro | exact rfl | (unfold inR; omega) | omega | (unfold inR; simp only [List.length_map, List.length_append, List.length_take, List.length_drop, List.length_cons, List.length_nil] at *; omega) | ((try unfold inR); simp only [decide_eq_true_eq, decide_eq_false_iff_not, beq_iff_eq, beq_eq_false_iff_ne, ne_eq, Bool.not_eq_true', Bool.not_eq_false', List.length_map, List.length_append, List.length_take, List.length_drop, List.length_cons, List.length_nil] at *; omega)) ?_ | (refine ARun.fin (by first | (intro h; cases h; done) | (intro _; kernel_rfl)) ?_; dsimp only [thenA, blockA, AS.bump, List.length_cons, List.length_nil, reduceIte, Nat.reduceEqDiff]) | (refine awp_skip ?_; dsimp only [thenA, blockA, AS.bump, List.length_cons, List.length_nil, reduceIte, Nat.reduceEqDiff]) | (refine awp_exit ?_; dsimp only [thenA, blockA, AS.bump, List.length_cons, List.length_nil, reduceIte, Nat.reduceEqDiff]) | refine awp_condT rfl (by first | rfl | assumption | exact beq_int _ | exact bne_int _) ?_ | refine awp_condF rfl (by first | rfl | assumption | exact beq_int _ | exact bne_int _) ?_ | ((fail_if_success refine ARun.plain rfl ?_); first | refine ARun.knowT rfl rfl rfl (by first | rfl | assumption | exact beq_int _ | exact bne_int _) ?_ | refine ARun.knowF rfl rfl rfl (by first | rfl | assumption | exact beq_int _ | exact bne_int _) ?_ | refine ARun.fork rfl rfl rfl (fun h => ?_) (fun h => ?_)) | refine awp_cond rfl (fun h => ?_) (fun h => ?_)))
  all_goals (refine awp_ret ⟨_, ResL.cons (ResA.tmp (.val _)) .nil, congrArg (fun b => AV.val (.bool b)) (Bool.eq_iff_iff.2 ?_)⟩; unfold thereD; (simp only [decide_eq_true_eq, decide_eq_false_iff_not, beq_iff_eq, bne_iff_ne, bne_eq_false_iff_eq, beq_eq_false_iff_ne, Bool.not_eq_true', Bool.not_eq_false', Bool.and_eq_true, Bool.and_eq_false_iff, Bool.or_eq_true, ne_eq, List.length_map, Bool.true_eq_false, Bool.false_eq_true, iff_true, iff_false, true_iff, false_iff] at *); omega)
theorem ref_there_c (m : Mm) (at' n : Int) (hl : m.b.length ≤ 1000000) : FnC Try.prog 51 [.agg (encM m), .val (.int .i64 at'), .val (.int .i64 n)] (.val (.bool (thereD m.b.length at' n))) := by
  refine FnC.of_awp (T := tt) (ok := tok) Try.func51 (by kernel_rfl) rfl (by kernel_rfl) (closedL_cons (closed_m m) (closedL_cons (.val _) (closedL_cons (.val _) closedL_nil))) (fun w0 st0 => ?_)
  dsimp only [frOf]
  (repeat' (first | refine awp_seq ?_ | refine awp_block ?_ | refine awp_region (fun _ => hmix) ?_ | refine ARun.op rfl (by first | exact True.intro | exact rfl | (unfold inR; omega) | omega | (unfold inR; simp only [List.length_map, List.length_append, List.length_take, List.length_drop, List.length_cons, List.length_nil] at *; omega) | ((try unfold inR); simp only [decide_eq_true_eq, decide_eq_false_iff_not, beq_iff_eq, beq_eq_false_iff_ne, ne_eq, Bool.not_eq_true', Bool.not_eq_false', List.length_map, List.length_append, List.length_take, List.length_drop, List.length_cons, List.length_nil] at *; omega)) ?_ | (refine ARun.fin (by first | (intro h; cases h; done) | (intro _; kernel_rfl)) ?_; dsimp only [thenA, blockA, AS.bump, List.length_cons, List.length_nil, reduceIte, Nat.reduceEqDiff]) | (refine awp_skip ?_; dsimp only [thenA, blockA, AS.bump, List.length_cons, List.length_nil, reduceIte, Nat.reduceEqDiff]) | (refine awp_exit ?_; dsimp only [thenA, blockA, AS.bump, List.length_cons, List.length_nil, reduceIte, Nat.reduceEqDiff]) | refine awp_condT rfl (by first | rfl | assumption | exact beq_int _ | exact bne_int _) ?_ | refine awp_condF rfl (by first | rfl | assumption | exact beq_int _ | exact bne_int _) ?_ | ((fail_if_success refine ARun.plain rfl ?_); first | refine ARun.knowT rfl rfl rfl (by first | rfl | assumption | exact beq_int _ | exact bne_int _) ?_ | refine ARun.knowF rfl rfl rfl (by first | rfl | assumption | exact beq_int _ | exact bne_int _) ?_ | refine ARun.fork rfl rfl rfl (fun h => ?_) (fun h => ?_)) | refine awp_cond rfl (fun h => ?_) (fun h => ?_)))
  all_goals (refine awp_ret ⟨_, ResL.cons (ResA.tmp (.val _)) .nil, congrArg (fun b => AV.val (.bool b)) (Bool.eq_iff_iff.2 ?_)⟩; unfold thereD; (simp only [decide_eq_true_eq, decide_eq_false_iff_not, beq_iff_eq, bne_iff_ne, bne_eq_false_iff_eq, beq_eq_false_iff_ne, Bool.not_eq_true', Bool.not_eq_false', Bool.and_eq_true, Bool.and_eq_false_iff, Bool.or_eq_true, ne_eq, List.length_map, Bool.true_eq_false, Bool.false_eq_true, iff_true, iff_false, true_iff, false_iff] at *); omega)
end Go.Proofs.Ytpdnbhimmfhaaaa
