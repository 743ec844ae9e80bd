/- evq: queues that are compared; clipped rows; which event is ahead; older events. -/
import Derived.Test.YtpolenndeeaodabQ2
namespace Go.Proofs.Ytpolenndeeaodab
set_option linter.unusedVariables false
set_option linter.unusedSimpArgs false
open Go Go.RowKit
set_option maxRecDepth 100000
attribute [local irreducible] Decidable.decide awp ARun regK toK

theorem closed_q (q : Q) : Closed (.agg (encQ q)) := .agg (closedL_cons (closed_map closed_ev) (closedL_cons (.val _) (closedL_cons (.val _) (closedL_cons (.val _) closedL_nil))))
def sameQ (a b : Q) : Bool := eqEvs a.ev b.ev && (a.room == b.room) && (a.age == b.age) && (a.next == b.next)

theorem same_c (a b : Q) (hl : a.ev.length ≤ 9223372036854775807) : FnC Try.prog 14 [.agg (encQ a), .agg (encQ b)] (.val (.bool (sameQ a b))) := by
  refine FnC.of_awp (T := tt) (ok := tok) Try.func14 (by kernel_rfl) rfl (by kernel_rfl) (closedL_cons (closed_q a) (closedL_cons (closed_q b) closedL_nil)) (fun w0 st0 => ?_)
  dsimp only [frOf]
  (repeat' (first | refine awp_seq ?_ | refine awp_block ?_ | refine awp_region (fun _ => hmix) ?_ | refine ARun.op rfl (by first | exact True.intro | exact rfl | (unfold inR; omega)) ?_ | refine callX (equal_c _ _ hl) rfl rfl rfl rfl ?_ | (refine ARun.fin (by first | (intro h; cases h; done) | (intro _; kernel_rfl)) ?_; dsimp only [thenA, blockA, AS.bump, List.length_cons, List.length_nil, reduceIte, Nat.reduceEqDiff]) | (refine awp_skip ?_; dsimp only [thenA, blockA, AS.bump, List.length_cons, List.length_nil, reduceIte, Nat.reduceEqDiff]) | (refine awp_exit ?_; dsimp only [thenA, blockA, AS.bump, List.length_cons, List.length_nil, reduceIte, Nat.reduceEqDiff]) | refine awp_condT rfl (by first | rfl | assumption) ?_ | refine awp_condF rfl (by first | rfl | assumption) ?_ | ((fail_if_success refine ARun.plain rfl ?_); first | refine ARun.knowT rfl rfl rfl (by first | rfl | assumption) ?_ | refine ARun.knowF rfl rfl rfl (by first | rfl | assumption) ?_ | refine ARun.fork rfl rfl rfl (fun h => ?_) (fun h => ?_)) | refine awp_cond rfl (fun h => ?_) (fun h => ?_)))
  all_goals (refine awp_ret ⟨_, ResL.cons (ResA.tmp (.val _)) .nil, ?_⟩; show AV.val _ = AV.val _; simp [sameQ, *])

theorem clip_c (l : List E) (hl : l.length ≤ 9223372036854775807) : FnC Try.prog 21 [.sl 5 false (l.map encEv)] (.sl 5 true (l.map encEv)) := by
  refine FnC.of_awp (T := tt) (ok := tok) Try.func21 (by kernel_rfl) rfl (by kernel_rfl) (closedL_cons (closed_map closed_ev) closedL_nil) (fun w0 st0 => ?_)
  dsimp only [frOf]
  (repeat' (first | refine awp_seq ?_ | refine awp_block ?_ | refine awp_region (fun _ => hmix) ?_ | refine ARun.op rfl (by first | exact True.intro | exact rfl | (unfold inR; omega)) ?_ | refine ARun.slice3 rfl (.non _) (.som _ rfl (Int.natCast_nonneg _)) (.som _ rfl (Int.natCast_nonneg _)) (Nat.zero_le _) (Nat.le_refl _) (Nat.le_refl _) (Nat.le_refl _) rfl rfl rfl (.inr rfl) rfl (guardF_spec rfl) ?_ | (refine ARun.fin (by first | (intro h; cases h; done) | (intro _; kernel_rfl)) ?_; dsimp only [thenA, blockA, AS.bump, List.length_cons, List.length_nil, reduceIte, Nat.reduceEqDiff]) | (refine awp_skip ?_; dsimp only [thenA, blockA, AS.bump, List.length_cons, List.length_nil, reduceIte, Nat.reduceEqDiff]) | (refine awp_exit ?_; dsimp only [thenA, blockA, AS.bump, List.length_cons, List.length_nil, reduceIte, Nat.reduceEqDiff]) | refine awp_condT rfl (by first | rfl | assumption) ?_ | refine awp_condF rfl (by first | rfl | assumption) ?_ | ((fail_if_success refine ARun.plain rfl ?_); first | refine ARun.knowT rfl rfl rfl (by first | rfl | assumption) ?_ | refine ARun.knowF rfl rfl rfl (by first | rfl | assumption) ?_ | refine ARun.fork rfl rfl rfl (fun h => ?_) (fun h => ?_)) | refine awp_cond rfl (fun h => ?_) (fun h => ?_)))
  refine awp_ret ⟨_, ResL.cons (ResA.tmp (.closed _ ?_)) .nil, ?_⟩
  · rw [beq_self_eq_true, List.drop_zero, Nat.sub_zero, Int.toNat_natCast, List.take_length]
    exact closed_map closed_ev
  · show _ = AV.sl _ _ _
    rw [beq_self_eq_true, List.drop_zero, Nat.sub_zero, Int.toNat_natCast, List.take_length]

theorem closed_e (e : E) : Closed (.agg (encEv e)) := .agg (closed_ev e)
def aheadE (e o : E) : Bool := decide (e.2.1 < o.2.1) || ((e.2.1 == o.2.1) && decide (e.1 < o.1))
theorem ahead_c (e o : E) : FnC Try.prog 23 [.agg (encEv e), .agg (encEv o)] (.val (.bool (aheadE e o))) := by
  refine FnC.of_awp (T := tt) (ok := tok) Try.func23 (by kernel_rfl) rfl (by kernel_rfl) (closedL_cons (closed_e e) (closedL_cons (closed_e o) closedL_nil)) (fun w0 st0 => ?_)
  dsimp only [frOf]
  (repeat' (first | refine awp_seq ?_ | refine awp_block ?_ | refine awp_region (fun _ => hmix) ?_ | refine ARun.op rfl (by first | exact True.intro | exact rfl | (unfold inR; omega)) ?_ | (refine ARun.fin (by first | (intro h; cases h; done) | (intro _; kernel_rfl)) ?_; dsimp only [thenA, blockA, AS.bump, List.length_cons, List.length_nil, reduceIte, Nat.reduceEqDiff]) | (refine awp_skip ?_; dsimp only [thenA, blockA, AS.bump, List.length_cons, List.length_nil, reduceIte, Nat.reduceEqDiff]) | (refine awp_exit ?_; dsimp only [thenA, blockA, AS.bump, List.length_cons, List.length_nil, reduceIte, Nat.reduceEqDiff]) | refine awp_condT rfl (by first | rfl | assumption) ?_ | refine awp_condF rfl (by first | rfl | assumption) ?_ | ((fail_if_success refine ARun.plain rfl ?_); first | refine ARun.knowT rfl rfl rfl (by first | rfl | assumption) ?_ | refine ARun.knowF rfl rfl rfl (by first | rfl | assumption) ?_ | refine ARun.fork rfl rfl rfl (fun h => ?_) (fun h => ?_)) | refine awp_cond rfl (fun h => ?_) (fun h => ?_)))
  all_goals (refine awp_ret ⟨_, ResL.cons (ResA.tmp (.val _)) .nil, ?_⟩; show AV.val _ = AV.val _; simp [aheadE, *])
end Go.Proofs.Ytpolenndeeaodab
