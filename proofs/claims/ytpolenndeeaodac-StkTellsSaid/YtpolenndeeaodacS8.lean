/- stk: takes and left, of the document's answer, name by name. Printed by gen_s8.py. -/
import Derived.Test.YtpolenndeeaodacS7
namespace Go.Proofs.Ytpolenndeeaodac
set_option linter.unusedVariables false
set_option linter.unusedSimpArgs false
open Go Go.RowKit
set_option maxRecDepth 100000
attribute [local irreducible] Decidable.decide awp ARun regK toK

theorem get_lit0 (a : Int) (l : List Int) : ((a :: l).map encI)[(0 : Int).toNat]? = some (encI a) := rfl
theorem takes_nDEPTH (s : List Int) : FnC Try.prog 22 [.val (.string nDEPTH), encS s] (.val (.int .i64 0)) := by
  have f0 : (nDEPTH.toList == (ByteArray.mk #[68, 69, 80, 84, 72]).toList) = true := by kernel_rfl
  refine FnC.of_awp (T := tt) (ok := tok) Try.func22 (by kernel_rfl) rfl (by kernel_rfl) (closedL_cons (.val _) (closedL_cons (closed_s _) closedL_nil)) (fun w0 st0 => ?_)
  dsimp only [frOf]
  (repeat' (first | refine awp_seq ?_ | refine awp_block ?_ | refine awp_region (fun _ => hmix) ?_ | refine ARun.op rfl (by first | exact True.intro | exact rfl | (unfold inR; omega) | omega | (unfold inR; simp only [List.length_map, List.length_append, List.length_take, List.length_drop, List.length_cons, List.length_nil] at *; omega)) ?_ | (refine ARun.fin (by first | (intro h; cases h; done) | (intro _; kernel_rfl)) ?_; dsimp only [thenA, blockA, AS.bump, List.length_cons, List.length_nil, reduceIte, Nat.reduceEqDiff]) | (refine awp_skip ?_; dsimp only [thenA, blockA, AS.bump, List.length_cons, List.length_nil, reduceIte, Nat.reduceEqDiff]) | (refine awp_exit ?_; dsimp only [thenA, blockA, AS.bump, List.length_cons, List.length_nil, reduceIte, Nat.reduceEqDiff]) | refine awp_condT rfl (by first | rfl | assumption) ?_ | refine awp_condF rfl (by first | rfl | assumption) ?_ | ((fail_if_success refine ARun.plain rfl ?_); first | refine ARun.knowT rfl rfl rfl (by first | rfl | assumption) ?_ | refine ARun.knowF rfl rfl rfl (by first | rfl | assumption) ?_ | refine ARun.fork rfl rfl rfl (fun h => ?_) (fun h => ?_)) | refine awp_cond rfl (fun h => ?_) (fun h => ?_)))
  refine awp_ret ⟨_, ResL.cons (ResA.tmp (.val _)) .nil, rfl⟩
theorem takes_nDUP (s : List Int) : FnC Try.prog 22 [.val (.string nDUP), encS s] (.val (.int .i64 1)) := by
  have f0 : (nDUP.toList == (ByteArray.mk #[68, 69, 80, 84, 72]).toList) = false := by kernel_rfl
  have f1 : (nDUP.toList == (ByteArray.mk #[68, 85, 80]).toList) = true := by kernel_rfl
  refine FnC.of_awp (T := tt) (ok := tok) Try.func22 (by kernel_rfl) rfl (by kernel_rfl) (closedL_cons (.val _) (closedL_cons (closed_s _) closedL_nil)) (fun w0 st0 => ?_)
  dsimp only [frOf]
  (repeat' (first | refine awp_seq ?_ | refine awp_block ?_ | refine awp_region (fun _ => hmix) ?_ | refine ARun.op rfl (by first | exact True.intro | exact rfl | (unfold inR; omega) | omega | (unfold inR; simp only [List.length_map, List.length_append, List.length_take, List.length_drop, List.length_cons, List.length_nil] at *; omega)) ?_ | (refine ARun.fin (by first | (intro h; cases h; done) | (intro _; kernel_rfl)) ?_; dsimp only [thenA, blockA, AS.bump, List.length_cons, List.length_nil, reduceIte, Nat.reduceEqDiff]) | (refine awp_skip ?_; dsimp only [thenA, blockA, AS.bump, List.length_cons, List.length_nil, reduceIte, Nat.reduceEqDiff]) | (refine awp_exit ?_; dsimp only [thenA, blockA, AS.bump, List.length_cons, List.length_nil, reduceIte, Nat.reduceEqDiff]) | refine awp_condT rfl (by first | rfl | assumption) ?_ | refine awp_condF rfl (by first | rfl | assumption) ?_ | ((fail_if_success refine ARun.plain rfl ?_); first | refine ARun.knowT rfl rfl rfl (by first | rfl | assumption) ?_ | refine ARun.knowF rfl rfl rfl (by first | rfl | assumption) ?_ | refine ARun.fork rfl rfl rfl (fun h => ?_) (fun h => ?_)) | refine awp_cond rfl (fun h => ?_) (fun h => ?_)))
  refine awp_ret ⟨_, ResL.cons (ResA.tmp (.val _)) .nil, rfl⟩
theorem takes_nDROP (s : List Int) : FnC Try.prog 22 [.val (.string nDROP), encS s] (.val (.int .i64 1)) := by
  have f0 : (nDROP.toList == (ByteArray.mk #[68, 69, 80, 84, 72]).toList) = false := by kernel_rfl
  have f1 : (nDROP.toList == (ByteArray.mk #[68, 85, 80]).toList) = false := by kernel_rfl
  have f2 : (nDROP.toList == (ByteArray.mk #[68, 82, 79, 80]).toList) = true := by kernel_rfl
  refine FnC.of_awp (T := tt) (ok := tok) Try.func22 (by kernel_rfl) rfl (by kernel_rfl) (closedL_cons (.val _) (closedL_cons (closed_s _) closedL_nil)) (fun w0 st0 => ?_)
  dsimp only [frOf]
  (repeat' (first | refine awp_seq ?_ | refine awp_block ?_ | refine awp_region (fun _ => hmix) ?_ | refine ARun.op rfl (by first | exact True.intro | exact rfl | (unfold inR; omega) | omega | (unfold inR; simp only [List.length_map, List.length_append, List.length_take, List.length_drop, List.length_cons, List.length_nil] at *; omega)) ?_ | (refine ARun.fin (by first | (intro h; cases h; done) | (intro _; kernel_rfl)) ?_; dsimp only [thenA, blockA, AS.bump, List.length_cons, List.length_nil, reduceIte, Nat.reduceEqDiff]) | (refine awp_skip ?_; dsimp only [thenA, blockA, AS.bump, List.length_cons, List.length_nil, reduceIte, Nat.reduceEqDiff]) | (refine awp_exit ?_; dsimp only [thenA, blockA, AS.bump, List.length_cons, List.length_nil, reduceIte, Nat.reduceEqDiff]) | refine awp_condT rfl (by first | rfl | assumption) ?_ | refine awp_condF rfl (by first | rfl | assumption) ?_ | ((fail_if_success refine ARun.plain rfl ?_); first | refine ARun.knowT rfl rfl rfl (by first | rfl | assumption) ?_ | refine ARun.knowF rfl rfl rfl (by first | rfl | assumption) ?_ | refine ARun.fork rfl rfl rfl (fun h => ?_) (fun h => ?_)) | refine awp_cond rfl (fun h => ?_) (fun h => ?_)))
  refine awp_ret ⟨_, ResL.cons (ResA.tmp (.val _)) .nil, rfl⟩
theorem takes_nQDUP (s : List Int) : FnC Try.prog 22 [.val (.string nQDUP), encS s] (.val (.int .i64 1)) := by
  have f0 : (nQDUP.toList == (ByteArray.mk #[68, 69, 80, 84, 72]).toList) = false := by kernel_rfl
  have f1 : (nQDUP.toList == (ByteArray.mk #[68, 85, 80]).toList) = false := by kernel_rfl
  have f2 : (nQDUP.toList == (ByteArray.mk #[68, 82, 79, 80]).toList) = false := by kernel_rfl
  have f3 : (nQDUP.toList == (ByteArray.mk #[63, 68, 85, 80]).toList) = true := by kernel_rfl
  refine FnC.of_awp (T := tt) (ok := tok) Try.func22 (by kernel_rfl) rfl (by kernel_rfl) (closedL_cons (.val _) (closedL_cons (closed_s _) closedL_nil)) (fun w0 st0 => ?_)
  dsimp only [frOf]
  (repeat' (first | refine awp_seq ?_ | refine awp_block ?_ | refine awp_region (fun _ => hmix) ?_ | refine ARun.op rfl (by first | exact True.intro | exact rfl | (unfold inR; omega) | omega | (unfold inR; simp only [List.length_map, List.length_append, List.length_take, List.length_drop, List.length_cons, List.length_nil] at *; omega)) ?_ | (refine ARun.fin (by first | (intro h; cases h; done) | (intro _; kernel_rfl)) ?_; dsimp only [thenA, blockA, AS.bump, List.length_cons, List.length_nil, reduceIte, Nat.reduceEqDiff]) | (refine awp_skip ?_; dsimp only [thenA, blockA, AS.bump, List.length_cons, List.length_nil, reduceIte, Nat.reduceEqDiff]) | (refine awp_exit ?_; dsimp only [thenA, blockA, AS.bump, List.length_cons, List.length_nil, reduceIte, Nat.reduceEqDiff]) | refine awp_condT rfl (by first | rfl | assumption) ?_ | refine awp_condF rfl (by first | rfl | assumption) ?_ | ((fail_if_success refine ARun.plain rfl ?_); first | refine ARun.knowT rfl rfl rfl (by first | rfl | assumption) ?_ | refine ARun.knowF rfl rfl rfl (by first | rfl | assumption) ?_ | refine ARun.fork rfl rfl rfl (fun h => ?_) (fun h => ?_)) | refine awp_cond rfl (fun h => ?_) (fun h => ?_)))
  refine awp_ret ⟨_, ResL.cons (ResA.tmp (.val _)) .nil, rfl⟩
theorem takes_nSWAP (s : List Int) : FnC Try.prog 22 [.val (.string nSWAP), encS s] (.val (.int .i64 2)) := by
  have f0 : (nSWAP.toList == (ByteArray.mk #[68, 69, 80, 84, 72]).toList) = false := by kernel_rfl
  have f1 : (nSWAP.toList == (ByteArray.mk #[68, 85, 80]).toList) = false := by kernel_rfl
  have f2 : (nSWAP.toList == (ByteArray.mk #[68, 82, 79, 80]).toList) = false := by kernel_rfl
  have f3 : (nSWAP.toList == (ByteArray.mk #[63, 68, 85, 80]).toList) = false := by kernel_rfl
  have f4 : (nSWAP.toList == (ByteArray.mk #[83, 87, 65, 80]).toList) = true := by kernel_rfl
  refine FnC.of_awp (T := tt) (ok := tok) Try.func22 (by kernel_rfl) rfl (by kernel_rfl) (closedL_cons (.val _) (closedL_cons (closed_s _) closedL_nil)) (fun w0 st0 => ?_)
  dsimp only [frOf]
  (repeat' (first | refine awp_seq ?_ | refine awp_block ?_ | refine awp_region (fun _ => hmix) ?_ | refine ARun.op rfl (by first | exact True.intro | exact rfl | (unfold inR; omega) | omega | (unfold inR; simp only [List.length_map, List.length_append, List.length_take, List.length_drop, List.length_cons, List.length_nil] at *; omega)) ?_ | (refine ARun.fin (by first | (intro h; cases h; done) | (intro _; kernel_rfl)) ?_; dsimp only [thenA, blockA, AS.bump, List.length_cons, List.length_nil, reduceIte, Nat.reduceEqDiff]) | (refine awp_skip ?_; dsimp only [thenA, blockA, AS.bump, List.length_cons, List.length_nil, reduceIte, Nat.reduceEqDiff]) | (refine awp_exit ?_; dsimp only [thenA, blockA, AS.bump, List.length_cons, List.length_nil, reduceIte, Nat.reduceEqDiff]) | refine awp_condT rfl (by first | rfl | assumption) ?_ | refine awp_condF rfl (by first | rfl | assumption) ?_ | ((fail_if_success refine ARun.plain rfl ?_); first | refine ARun.knowT rfl rfl rfl (by first | rfl | assumption) ?_ | refine ARun.knowF rfl rfl rfl (by first | rfl | assumption) ?_ | refine ARun.fork rfl rfl rfl (fun h => ?_) (fun h => ?_)) | refine awp_cond rfl (fun h => ?_) (fun h => ?_)))
  refine awp_ret ⟨_, ResL.cons (ResA.tmp (.val _)) .nil, rfl⟩
theorem takes_nOVER (s : List Int) : FnC Try.prog 22 [.val (.string nOVER), encS s] (.val (.int .i64 2)) := by
  have f0 : (nOVER.toList == (ByteArray.mk #[68, 69, 80, 84, 72]).toList) = false := by kernel_rfl
  have f1 : (nOVER.toList == (ByteArray.mk #[68, 85, 80]).toList) = false := by kernel_rfl
  have f2 : (nOVER.toList == (ByteArray.mk #[68, 82, 79, 80]).toList) = false := by kernel_rfl
  have f3 : (nOVER.toList == (ByteArray.mk #[63, 68, 85, 80]).toList) = false := by kernel_rfl
  have f4 : (nOVER.toList == (ByteArray.mk #[83, 87, 65, 80]).toList) = false := by kernel_rfl
  have f5 : (nOVER.toList == (ByteArray.mk #[79, 86, 69, 82]).toList) = true := by kernel_rfl
  refine FnC.of_awp (T := tt) (ok := tok) Try.func22 (by kernel_rfl) rfl (by kernel_rfl) (closedL_cons (.val _) (closedL_cons (closed_s _) closedL_nil)) (fun w0 st0 => ?_)
  dsimp only [frOf]
  (repeat' (first | refine awp_seq ?_ | refine awp_block ?_ | refine awp_region (fun _ => hmix) ?_ | refine ARun.op rfl (by first | exact True.intro | exact rfl | (unfold inR; omega) | omega | (unfold inR; simp only [List.length_map, List.length_append, List.length_take, List.length_drop, List.length_cons, List.length_nil] at *; omega)) ?_ | (refine ARun.fin (by first | (intro h; cases h; done) | (intro _; kernel_rfl)) ?_; dsimp only [thenA, blockA, AS.bump, List.length_cons, List.length_nil, reduceIte, Nat.reduceEqDiff]) | (refine awp_skip ?_; dsimp only [thenA, blockA, AS.bump, List.length_cons, List.length_nil, reduceIte, Nat.reduceEqDiff]) | (refine awp_exit ?_; dsimp only [thenA, blockA, AS.bump, List.length_cons, List.length_nil, reduceIte, Nat.reduceEqDiff]) | refine awp_condT rfl (by first | rfl | assumption) ?_ | refine awp_condF rfl (by first | rfl | assumption) ?_ | ((fail_if_success refine ARun.plain rfl ?_); first | refine ARun.knowT rfl rfl rfl (by first | rfl | assumption) ?_ | refine ARun.knowF rfl rfl rfl (by first | rfl | assumption) ?_ | refine ARun.fork rfl rfl rfl (fun h => ?_) (fun h => ?_)) | refine awp_cond rfl (fun h => ?_) (fun h => ?_)))
  refine awp_ret ⟨_, ResL.cons (ResA.tmp (.val _)) .nil, rfl⟩
theorem takes_nNIP (s : List Int) : FnC Try.prog 22 [.val (.string nNIP), encS s] (.val (.int .i64 2)) := by
  have f0 : (nNIP.toList == (ByteArray.mk #[68, 69, 80, 84, 72]).toList) = false := by kernel_rfl
  have f1 : (nNIP.toList == (ByteArray.mk #[68, 85, 80]).toList) = false := by kernel_rfl
  have f2 : (nNIP.toList == (ByteArray.mk #[68, 82, 79, 80]).toList) = false := by kernel_rfl
  have f3 : (nNIP.toList == (ByteArray.mk #[63, 68, 85, 80]).toList) = false := by kernel_rfl
  have f4 : (nNIP.toList == (ByteArray.mk #[83, 87, 65, 80]).toList) = false := by kernel_rfl
  have f5 : (nNIP.toList == (ByteArray.mk #[79, 86, 69, 82]).toList) = false := by kernel_rfl
  have f6 : (nNIP.toList == (ByteArray.mk #[78, 73, 80]).toList) = true := by kernel_rfl
  refine FnC.of_awp (T := tt) (ok := tok) Try.func22 (by kernel_rfl) rfl (by kernel_rfl) (closedL_cons (.val _) (closedL_cons (closed_s _) closedL_nil)) (fun w0 st0 => ?_)
  dsimp only [frOf]
  (repeat' (first | refine awp_seq ?_ | refine awp_block ?_ | refine awp_region (fun _ => hmix) ?_ | refine ARun.op rfl (by first | exact True.intro | exact rfl | (unfold inR; omega) | omega | (unfold inR; simp only [List.length_map, List.length_append, List.length_take, List.length_drop, List.length_cons, List.length_nil] at *; omega)) ?_ | (refine ARun.fin (by first | (intro h; cases h; done) | (intro _; kernel_rfl)) ?_; dsimp only [thenA, blockA, AS.bump, List.length_cons, List.length_nil, reduceIte, Nat.reduceEqDiff]) | (refine awp_skip ?_; dsimp only [thenA, blockA, AS.bump, List.length_cons, List.length_nil, reduceIte, Nat.reduceEqDiff]) | (refine awp_exit ?_; dsimp only [thenA, blockA, AS.bump, List.length_cons, List.length_nil, reduceIte, Nat.reduceEqDiff]) | refine awp_condT rfl (by first | rfl | assumption) ?_ | refine awp_condF rfl (by first | rfl | assumption) ?_ | ((fail_if_success refine ARun.plain rfl ?_); first | refine ARun.knowT rfl rfl rfl (by first | rfl | assumption) ?_ | refine ARun.knowF rfl rfl rfl (by first | rfl | assumption) ?_ | refine ARun.fork rfl rfl rfl (fun h => ?_) (fun h => ?_)) | refine awp_cond rfl (fun h => ?_) (fun h => ?_)))
  refine awp_ret ⟨_, ResL.cons (ResA.tmp (.val _)) .nil, rfl⟩
theorem takes_nTUCK (s : List Int) : FnC Try.prog 22 [.val (.string nTUCK), encS s] (.val (.int .i64 2)) := by
  have f0 : (nTUCK.toList == (ByteArray.mk #[68, 69, 80, 84, 72]).toList) = false := by kernel_rfl
  have f1 : (nTUCK.toList == (ByteArray.mk #[68, 85, 80]).toList) = false := by kernel_rfl
  have f2 : (nTUCK.toList == (ByteArray.mk #[68, 82, 79, 80]).toList) = false := by kernel_rfl
  have f3 : (nTUCK.toList == (ByteArray.mk #[63, 68, 85, 80]).toList) = false := by kernel_rfl
  have f4 : (nTUCK.toList == (ByteArray.mk #[83, 87, 65, 80]).toList) = false := by kernel_rfl
  have f5 : (nTUCK.toList == (ByteArray.mk #[79, 86, 69, 82]).toList) = false := by kernel_rfl
  have f6 : (nTUCK.toList == (ByteArray.mk #[78, 73, 80]).toList) = false := by kernel_rfl
  have f7 : (nTUCK.toList == (ByteArray.mk #[84, 85, 67, 75]).toList) = true := by kernel_rfl
  refine FnC.of_awp (T := tt) (ok := tok) Try.func22 (by kernel_rfl) rfl (by kernel_rfl) (closedL_cons (.val _) (closedL_cons (closed_s _) closedL_nil)) (fun w0 st0 => ?_)
  dsimp only [frOf]
  (repeat' (first | refine awp_seq ?_ | refine awp_block ?_ | refine awp_region (fun _ => hmix) ?_ | refine ARun.op rfl (by first | exact True.intro | exact rfl | (unfold inR; omega) | omega | (unfold inR; simp only [List.length_map, List.length_append, List.length_take, List.length_drop, List.length_cons, List.length_nil] at *; omega)) ?_ | (refine ARun.fin (by first | (intro h; cases h; done) | (intro _; kernel_rfl)) ?_; dsimp only [thenA, blockA, AS.bump, List.length_cons, List.length_nil, reduceIte, Nat.reduceEqDiff]) | (refine awp_skip ?_; dsimp only [thenA, blockA, AS.bump, List.length_cons, List.length_nil, reduceIte, Nat.reduceEqDiff]) | (refine awp_exit ?_; dsimp only [thenA, blockA, AS.bump, List.length_cons, List.length_nil, reduceIte, Nat.reduceEqDiff]) | refine awp_condT rfl (by first | rfl | assumption) ?_ | refine awp_condF rfl (by first | rfl | assumption) ?_ | ((fail_if_success refine ARun.plain rfl ?_); first | refine ARun.knowT rfl rfl rfl (by first | rfl | assumption) ?_ | refine ARun.knowF rfl rfl rfl (by first | rfl | assumption) ?_ | refine ARun.fork rfl rfl rfl (fun h => ?_) (fun h => ?_)) | refine awp_cond rfl (fun h => ?_) (fun h => ?_)))
  refine awp_ret ⟨_, ResL.cons (ResA.tmp (.val _)) .nil, rfl⟩
theorem takes_nDUP2 (s : List Int) : FnC Try.prog 22 [.val (.string nDUP2), encS s] (.val (.int .i64 2)) := by
  have f0 : (nDUP2.toList == (ByteArray.mk #[68, 69, 80, 84, 72]).toList) = false := by kernel_rfl
  have f1 : (nDUP2.toList == (ByteArray.mk #[68, 85, 80]).toList) = false := by kernel_rfl
  have f2 : (nDUP2.toList == (ByteArray.mk #[68, 82, 79, 80]).toList) = false := by kernel_rfl
  have f3 : (nDUP2.toList == (ByteArray.mk #[63, 68, 85, 80]).toList) = false := by kernel_rfl
  have f4 : (nDUP2.toList == (ByteArray.mk #[83, 87, 65, 80]).toList) = false := by kernel_rfl
  have f5 : (nDUP2.toList == (ByteArray.mk #[79, 86, 69, 82]).toList) = false := by kernel_rfl
  have f6 : (nDUP2.toList == (ByteArray.mk #[78, 73, 80]).toList) = false := by kernel_rfl
  have f7 : (nDUP2.toList == (ByteArray.mk #[84, 85, 67, 75]).toList) = false := by kernel_rfl
  have f8 : (nDUP2.toList == (ByteArray.mk #[50, 68, 85, 80]).toList) = true := by kernel_rfl
  refine FnC.of_awp (T := tt) (ok := tok) Try.func22 (by kernel_rfl) rfl (by kernel_rfl) (closedL_cons (.val _) (closedL_cons (closed_s _) closedL_nil)) (fun w0 st0 => ?_)
  dsimp only [frOf]
  (repeat' (first | refine awp_seq ?_ | refine awp_block ?_ | refine awp_region (fun _ => hmix) ?_ | refine ARun.op rfl (by first | exact True.intro | exact rfl | (unfold inR; omega) | omega | (unfold inR; simp only [List.length_map, List.length_append, List.length_take, List.length_drop, List.length_cons, List.length_nil] at *; omega)) ?_ | (refine ARun.fin (by first | (intro h; cases h; done) | (intro _; kernel_rfl)) ?_; dsimp only [thenA, blockA, AS.bump, List.length_cons, List.length_nil, reduceIte, Nat.reduceEqDiff]) | (refine awp_skip ?_; dsimp only [thenA, blockA, AS.bump, List.length_cons, List.length_nil, reduceIte, Nat.reduceEqDiff]) | (refine awp_exit ?_; dsimp only [thenA, blockA, AS.bump, List.length_cons, List.length_nil, reduceIte, Nat.reduceEqDiff]) | refine awp_condT rfl (by first | rfl | assumption) ?_ | refine awp_condF rfl (by first | rfl | assumption) ?_ | ((fail_if_success refine ARun.plain rfl ?_); first | refine ARun.knowT rfl rfl rfl (by first | rfl | assumption) ?_ | refine ARun.knowF rfl rfl rfl (by first | rfl | assumption) ?_ | refine ARun.fork rfl rfl rfl (fun h => ?_) (fun h => ?_)) | refine awp_cond rfl (fun h => ?_) (fun h => ?_)))
  refine awp_ret ⟨_, ResL.cons (ResA.tmp (.val _)) .nil, rfl⟩
theorem takes_nDROP2 (s : List Int) : FnC Try.prog 22 [.val (.string nDROP2), encS s] (.val (.int .i64 2)) := by
  have f0 : (nDROP2.toList == (ByteArray.mk #[68, 69, 80, 84, 72]).toList) = false := by kernel_rfl
  have f1 : (nDROP2.toList == (ByteArray.mk #[68, 85, 80]).toList) = false := by kernel_rfl
  have f2 : (nDROP2.toList == (ByteArray.mk #[68, 82, 79, 80]).toList) = false := by kernel_rfl
  have f3 : (nDROP2.toList == (ByteArray.mk #[63, 68, 85, 80]).toList) = false := by kernel_rfl
  have f4 : (nDROP2.toList == (ByteArray.mk #[83, 87, 65, 80]).toList) = false := by kernel_rfl
  have f5 : (nDROP2.toList == (ByteArray.mk #[79, 86, 69, 82]).toList) = false := by kernel_rfl
  have f6 : (nDROP2.toList == (ByteArray.mk #[78, 73, 80]).toList) = false := by kernel_rfl
  have f7 : (nDROP2.toList == (ByteArray.mk #[84, 85, 67, 75]).toList) = false := by kernel_rfl
  have f8 : (nDROP2.toList == (ByteArray.mk #[50, 68, 85, 80]).toList) = false := by kernel_rfl
  have f9 : (nDROP2.toList == (ByteArray.mk #[50, 68, 82, 79, 80]).toList) = true := by kernel_rfl
  refine FnC.of_awp (T := tt) (ok := tok) Try.func22 (by kernel_rfl) rfl (by kernel_rfl) (closedL_cons (.val _) (closedL_cons (closed_s _) closedL_nil)) (fun w0 st0 => ?_)
  dsimp only [frOf]
  (repeat' (first | refine awp_seq ?_ | refine awp_block ?_ | refine awp_region (fun _ => hmix) ?_ | refine ARun.op rfl (by first | exact True.intro | exact rfl | (unfold inR; omega) | omega | (unfold inR; simp only [List.length_map, List.length_append, List.length_take, List.length_drop, List.length_cons, List.length_nil] at *; omega)) ?_ | (refine ARun.fin (by first | (intro h; cases h; done) | (intro _; kernel_rfl)) ?_; dsimp only [thenA, blockA, AS.bump, List.length_cons, List.length_nil, reduceIte, Nat.reduceEqDiff]) | (refine awp_skip ?_; dsimp only [thenA, blockA, AS.bump, List.length_cons, List.length_nil, reduceIte, Nat.reduceEqDiff]) | (refine awp_exit ?_; dsimp only [thenA, blockA, AS.bump, List.length_cons, List.length_nil, reduceIte, Nat.reduceEqDiff]) | refine awp_condT rfl (by first | rfl | assumption) ?_ | refine awp_condF rfl (by first | rfl | assumption) ?_ | ((fail_if_success refine ARun.plain rfl ?_); first | refine ARun.knowT rfl rfl rfl (by first | rfl | assumption) ?_ | refine ARun.knowF rfl rfl rfl (by first | rfl | assumption) ?_ | refine ARun.fork rfl rfl rfl (fun h => ?_) (fun h => ?_)) | refine awp_cond rfl (fun h => ?_) (fun h => ?_)))
  refine awp_ret ⟨_, ResL.cons (ResA.tmp (.val _)) .nil, rfl⟩
theorem takes_nROT (s : List Int) : FnC Try.prog 22 [.val (.string nROT), encS s] (.val (.int .i64 3)) := by
  have f0 : (nROT.toList == (ByteArray.mk #[68, 69, 80, 84, 72]).toList) = false := by kernel_rfl
  have f1 : (nROT.toList == (ByteArray.mk #[68, 85, 80]).toList) = false := by kernel_rfl
  have f2 : (nROT.toList == (ByteArray.mk #[68, 82, 79, 80]).toList) = false := by kernel_rfl
  have f3 : (nROT.toList == (ByteArray.mk #[63, 68, 85, 80]).toList) = false := by kernel_rfl
  have f4 : (nROT.toList == (ByteArray.mk #[83, 87, 65, 80]).toList) = false := by kernel_rfl
  have f5 : (nROT.toList == (ByteArray.mk #[79, 86, 69, 82]).toList) = false := by kernel_rfl
  have f6 : (nROT.toList == (ByteArray.mk #[78, 73, 80]).toList) = false := by kernel_rfl
  have f7 : (nROT.toList == (ByteArray.mk #[84, 85, 67, 75]).toList) = false := by kernel_rfl
  have f8 : (nROT.toList == (ByteArray.mk #[50, 68, 85, 80]).toList) = false := by kernel_rfl
  have f9 : (nROT.toList == (ByteArray.mk #[50, 68, 82, 79, 80]).toList) = false := by kernel_rfl
  have f10 : (nROT.toList == (ByteArray.mk #[82, 79, 84]).toList) = true := by kernel_rfl
  refine FnC.of_awp (T := tt) (ok := tok) Try.func22 (by kernel_rfl) rfl (by kernel_rfl) (closedL_cons (.val _) (closedL_cons (closed_s _) closedL_nil)) (fun w0 st0 => ?_)
  dsimp only [frOf]
  (repeat' (first | refine awp_seq ?_ | refine awp_block ?_ | refine awp_region (fun _ => hmix) ?_ | refine ARun.op rfl (by first | exact True.intro | exact rfl | (unfold inR; omega) | omega | (unfold inR; simp only [List.length_map, List.length_append, List.length_take, List.length_drop, List.length_cons, List.length_nil] at *; omega)) ?_ | (refine ARun.fin (by first | (intro h; cases h; done) | (intro _; kernel_rfl)) ?_; dsimp only [thenA, blockA, AS.bump, List.length_cons, List.length_nil, reduceIte, Nat.reduceEqDiff]) | (refine awp_skip ?_; dsimp only [thenA, blockA, AS.bump, List.length_cons, List.length_nil, reduceIte, Nat.reduceEqDiff]) | (refine awp_exit ?_; dsimp only [thenA, blockA, AS.bump, List.length_cons, List.length_nil, reduceIte, Nat.reduceEqDiff]) | refine awp_condT rfl (by first | rfl | assumption) ?_ | refine awp_condF rfl (by first | rfl | assumption) ?_ | ((fail_if_success refine ARun.plain rfl ?_); first | refine ARun.knowT rfl rfl rfl (by first | rfl | assumption) ?_ | refine ARun.knowF rfl rfl rfl (by first | rfl | assumption) ?_ | refine ARun.fork rfl rfl rfl (fun h => ?_) (fun h => ?_)) | refine awp_cond rfl (fun h => ?_) (fun h => ?_)))
  refine awp_ret ⟨_, ResL.cons (ResA.tmp (.val _)) .nil, rfl⟩
theorem takes_nROTR (s : List Int) : FnC Try.prog 22 [.val (.string nROTR), encS s] (.val (.int .i64 3)) := by
  have f0 : (nROTR.toList == (ByteArray.mk #[68, 69, 80, 84, 72]).toList) = false := by kernel_rfl
  have f1 : (nROTR.toList == (ByteArray.mk #[68, 85, 80]).toList) = false := by kernel_rfl
  have f2 : (nROTR.toList == (ByteArray.mk #[68, 82, 79, 80]).toList) = false := by kernel_rfl
  have f3 : (nROTR.toList == (ByteArray.mk #[63, 68, 85, 80]).toList) = false := by kernel_rfl
  have f4 : (nROTR.toList == (ByteArray.mk #[83, 87, 65, 80]).toList) = false := by kernel_rfl
  have f5 : (nROTR.toList == (ByteArray.mk #[79, 86, 69, 82]).toList) = false := by kernel_rfl
  have f6 : (nROTR.toList == (ByteArray.mk #[78, 73, 80]).toList) = false := by kernel_rfl
  have f7 : (nROTR.toList == (ByteArray.mk #[84, 85, 67, 75]).toList) = false := by kernel_rfl
  have f8 : (nROTR.toList == (ByteArray.mk #[50, 68, 85, 80]).toList) = false := by kernel_rfl
  have f9 : (nROTR.toList == (ByteArray.mk #[50, 68, 82, 79, 80]).toList) = false := by kernel_rfl
  have f10 : (nROTR.toList == (ByteArray.mk #[82, 79, 84]).toList) = false := by kernel_rfl
  have f11 : (nROTR.toList == (ByteArray.mk #[45, 82, 79, 84]).toList) = true := by kernel_rfl
  refine FnC.of_awp (T := tt) (ok := tok) Try.func22 (by kernel_rfl) rfl (by kernel_rfl) (closedL_cons (.val _) (closedL_cons (closed_s _) closedL_nil)) (fun w0 st0 => ?_)
  dsimp only [frOf]
  (repeat' (first | refine awp_seq ?_ | refine awp_block ?_ | refine awp_region (fun _ => hmix) ?_ | refine ARun.op rfl (by first | exact True.intro | exact rfl | (unfold inR; omega) | omega | (unfold inR; simp only [List.length_map, List.length_append, List.length_take, List.length_drop, List.length_cons, List.length_nil] at *; omega)) ?_ | (refine ARun.fin (by first | (intro h; cases h; done) | (intro _; kernel_rfl)) ?_; dsimp only [thenA, blockA, AS.bump, List.length_cons, List.length_nil, reduceIte, Nat.reduceEqDiff]) | (refine awp_skip ?_; dsimp only [thenA, blockA, AS.bump, List.length_cons, List.length_nil, reduceIte, Nat.reduceEqDiff]) | (refine awp_exit ?_; dsimp only [thenA, blockA, AS.bump, List.length_cons, List.length_nil, reduceIte, Nat.reduceEqDiff]) | refine awp_condT rfl (by first | rfl | assumption) ?_ | refine awp_condF rfl (by first | rfl | assumption) ?_ | ((fail_if_success refine ARun.plain rfl ?_); first | refine ARun.knowT rfl rfl rfl (by first | rfl | assumption) ?_ | refine ARun.knowF rfl rfl rfl (by first | rfl | assumption) ?_ | refine ARun.fork rfl rfl rfl (fun h => ?_) (fun h => ?_)) | refine awp_cond rfl (fun h => ?_) (fun h => ?_)))
  refine awp_ret ⟨_, ResL.cons (ResA.tmp (.val _)) .nil, rfl⟩
theorem takes_nSWAP2 (s : List Int) : FnC Try.prog 22 [.val (.string nSWAP2), encS s] (.val (.int .i64 4)) := by
  have f0 : (nSWAP2.toList == (ByteArray.mk #[68, 69, 80, 84, 72]).toList) = false := by kernel_rfl
  have f1 : (nSWAP2.toList == (ByteArray.mk #[68, 85, 80]).toList) = false := by kernel_rfl
  have f2 : (nSWAP2.toList == (ByteArray.mk #[68, 82, 79, 80]).toList) = false := by kernel_rfl
  have f3 : (nSWAP2.toList == (ByteArray.mk #[63, 68, 85, 80]).toList) = false := by kernel_rfl
  have f4 : (nSWAP2.toList == (ByteArray.mk #[83, 87, 65, 80]).toList) = false := by kernel_rfl
  have f5 : (nSWAP2.toList == (ByteArray.mk #[79, 86, 69, 82]).toList) = false := by kernel_rfl
  have f6 : (nSWAP2.toList == (ByteArray.mk #[78, 73, 80]).toList) = false := by kernel_rfl
  have f7 : (nSWAP2.toList == (ByteArray.mk #[84, 85, 67, 75]).toList) = false := by kernel_rfl
  have f8 : (nSWAP2.toList == (ByteArray.mk #[50, 68, 85, 80]).toList) = false := by kernel_rfl
  have f9 : (nSWAP2.toList == (ByteArray.mk #[50, 68, 82, 79, 80]).toList) = false := by kernel_rfl
  have f10 : (nSWAP2.toList == (ByteArray.mk #[82, 79, 84]).toList) = false := by kernel_rfl
  have f11 : (nSWAP2.toList == (ByteArray.mk #[45, 82, 79, 84]).toList) = false := by kernel_rfl
  have f12 : (nSWAP2.toList == (ByteArray.mk #[50, 83, 87, 65, 80]).toList) = true := by kernel_rfl
  refine FnC.of_awp (T := tt) (ok := tok) Try.func22 (by kernel_rfl) rfl (by kernel_rfl) (closedL_cons (.val _) (closedL_cons (closed_s _) closedL_nil)) (fun w0 st0 => ?_)
  dsimp only [frOf]
  (repeat' (first | refine awp_seq ?_ | refine awp_block ?_ | refine awp_region (fun _ => hmix) ?_ | refine ARun.op rfl (by first | exact True.intro | exact rfl | (unfold inR; omega) | omega | (unfold inR; simp only [List.length_map, List.length_append, List.length_take, List.length_drop, List.length_cons, List.length_nil] at *; omega)) ?_ | (refine ARun.fin (by first | (intro h; cases h; done) | (intro _; kernel_rfl)) ?_; dsimp only [thenA, blockA, AS.bump, List.length_cons, List.length_nil, reduceIte, Nat.reduceEqDiff]) | (refine awp_skip ?_; dsimp only [thenA, blockA, AS.bump, List.length_cons, List.length_nil, reduceIte, Nat.reduceEqDiff]) | (refine awp_exit ?_; dsimp only [thenA, blockA, AS.bump, List.length_cons, List.length_nil, reduceIte, Nat.reduceEqDiff]) | refine awp_condT rfl (by first | rfl | assumption) ?_ | refine awp_condF rfl (by first | rfl | assumption) ?_ | ((fail_if_success refine ARun.plain rfl ?_); first | refine ARun.knowT rfl rfl rfl (by first | rfl | assumption) ?_ | refine ARun.knowF rfl rfl rfl (by first | rfl | assumption) ?_ | refine ARun.fork rfl rfl rfl (fun h => ?_) (fun h => ?_)) | refine awp_cond rfl (fun h => ?_) (fun h => ?_)))
  refine awp_ret ⟨_, ResL.cons (ResA.tmp (.val _)) .nil, rfl⟩
theorem takes_nOVER2 (s : List Int) : FnC Try.prog 22 [.val (.string nOVER2), encS s] (.val (.int .i64 4)) := by
  have f0 : (nOVER2.toList == (ByteArray.mk #[68, 69, 80, 84, 72]).toList) = false := by kernel_rfl
  have f1 : (nOVER2.toList == (ByteArray.mk #[68, 85, 80]).toList) = false := by kernel_rfl
  have f2 : (nOVER2.toList == (ByteArray.mk #[68, 82, 79, 80]).toList) = false := by kernel_rfl
  have f3 : (nOVER2.toList == (ByteArray.mk #[63, 68, 85, 80]).toList) = false := by kernel_rfl
  have f4 : (nOVER2.toList == (ByteArray.mk #[83, 87, 65, 80]).toList) = false := by kernel_rfl
  have f5 : (nOVER2.toList == (ByteArray.mk #[79, 86, 69, 82]).toList) = false := by kernel_rfl
  have f6 : (nOVER2.toList == (ByteArray.mk #[78, 73, 80]).toList) = false := by kernel_rfl
  have f7 : (nOVER2.toList == (ByteArray.mk #[84, 85, 67, 75]).toList) = false := by kernel_rfl
  have f8 : (nOVER2.toList == (ByteArray.mk #[50, 68, 85, 80]).toList) = false := by kernel_rfl
  have f9 : (nOVER2.toList == (ByteArray.mk #[50, 68, 82, 79, 80]).toList) = false := by kernel_rfl
  have f10 : (nOVER2.toList == (ByteArray.mk #[82, 79, 84]).toList) = false := by kernel_rfl
  have f11 : (nOVER2.toList == (ByteArray.mk #[45, 82, 79, 84]).toList) = false := by kernel_rfl
  have f12 : (nOVER2.toList == (ByteArray.mk #[50, 83, 87, 65, 80]).toList) = false := by kernel_rfl
  have f13 : (nOVER2.toList == (ByteArray.mk #[50, 79, 86, 69, 82]).toList) = true := by kernel_rfl
  refine FnC.of_awp (T := tt) (ok := tok) Try.func22 (by kernel_rfl) rfl (by kernel_rfl) (closedL_cons (.val _) (closedL_cons (closed_s _) closedL_nil)) (fun w0 st0 => ?_)
  dsimp only [frOf]
  (repeat' (first | refine awp_seq ?_ | refine awp_block ?_ | refine awp_region (fun _ => hmix) ?_ | refine ARun.op rfl (by first | exact True.intro | exact rfl | (unfold inR; omega) | omega | (unfold inR; simp only [List.length_map, List.length_append, List.length_take, List.length_drop, List.length_cons, List.length_nil] at *; omega)) ?_ | (refine ARun.fin (by first | (intro h; cases h; done) | (intro _; kernel_rfl)) ?_; dsimp only [thenA, blockA, AS.bump, List.length_cons, List.length_nil, reduceIte, Nat.reduceEqDiff]) | (refine awp_skip ?_; dsimp only [thenA, blockA, AS.bump, List.length_cons, List.length_nil, reduceIte, Nat.reduceEqDiff]) | (refine awp_exit ?_; dsimp only [thenA, blockA, AS.bump, List.length_cons, List.length_nil, reduceIte, Nat.reduceEqDiff]) | refine awp_condT rfl (by first | rfl | assumption) ?_ | refine awp_condF rfl (by first | rfl | assumption) ?_ | ((fail_if_success refine ARun.plain rfl ?_); first | refine ARun.knowT rfl rfl rfl (by first | rfl | assumption) ?_ | refine ARun.knowF rfl rfl rfl (by first | rfl | assumption) ?_ | refine ARun.fork rfl rfl rfl (fun h => ?_) (fun h => ?_)) | refine awp_cond rfl (fun h => ?_) (fun h => ?_)))
  refine awp_ret ⟨_, ResL.cons (ResA.tmp (.val _)) .nil, rfl⟩
theorem takes_nPICK_nil : FnC Try.prog 22 [.val (.string nPICK), encS []] (.val (.int .i64 1)) := by
  have f0 : (nPICK.toList == (ByteArray.mk #[68, 69, 80, 84, 72]).toList) = false := by kernel_rfl
  have f1 : (nPICK.toList == (ByteArray.mk #[68, 85, 80]).toList) = false := by kernel_rfl
  have f2 : (nPICK.toList == (ByteArray.mk #[68, 82, 79, 80]).toList) = false := by kernel_rfl
  have f3 : (nPICK.toList == (ByteArray.mk #[63, 68, 85, 80]).toList) = false := by kernel_rfl
  have f4 : (nPICK.toList == (ByteArray.mk #[83, 87, 65, 80]).toList) = false := by kernel_rfl
  have f5 : (nPICK.toList == (ByteArray.mk #[79, 86, 69, 82]).toList) = false := by kernel_rfl
  have f6 : (nPICK.toList == (ByteArray.mk #[78, 73, 80]).toList) = false := by kernel_rfl
  have f7 : (nPICK.toList == (ByteArray.mk #[84, 85, 67, 75]).toList) = false := by kernel_rfl
  have f8 : (nPICK.toList == (ByteArray.mk #[50, 68, 85, 80]).toList) = false := by kernel_rfl
  have f9 : (nPICK.toList == (ByteArray.mk #[50, 68, 82, 79, 80]).toList) = false := by kernel_rfl
  have f10 : (nPICK.toList == (ByteArray.mk #[82, 79, 84]).toList) = false := by kernel_rfl
  have f11 : (nPICK.toList == (ByteArray.mk #[45, 82, 79, 84]).toList) = false := by kernel_rfl
  have f12 : (nPICK.toList == (ByteArray.mk #[50, 83, 87, 65, 80]).toList) = false := by kernel_rfl
  have f13 : (nPICK.toList == (ByteArray.mk #[50, 79, 86, 69, 82]).toList) = false := by kernel_rfl
  have f14 : (nPICK.toList == (ByteArray.mk #[80, 73, 67, 75]).toList) = true := by kernel_rfl
  have h0 : ((((([] : List Int).map encI).length : Nat) : Int) == 0) = true := by simp
  refine FnC.of_awp (T := tt) (ok := tok) Try.func22 (by kernel_rfl) rfl (by kernel_rfl) (closedL_cons (.val _) (closedL_cons (closed_s _) closedL_nil)) (fun w0 st0 => ?_)
  dsimp only [frOf]
  (repeat' (first | refine awp_seq ?_ | refine awp_block ?_ | refine awp_region (fun _ => hmix) ?_ | refine ARun.op rfl (by first | exact True.intro | exact rfl | (unfold inR; omega) | omega | (unfold inR; simp only [List.length_map, List.length_append, List.length_take, List.length_drop, List.length_cons, List.length_nil] at *; omega)) ?_ | (refine ARun.fin (by first | (intro h; cases h; done) | (intro _; kernel_rfl)) ?_; dsimp only [thenA, blockA, AS.bump, List.length_cons, List.length_nil, reduceIte, Nat.reduceEqDiff]) | (refine awp_skip ?_; dsimp only [thenA, blockA, AS.bump, List.length_cons, List.length_nil, reduceIte, Nat.reduceEqDiff]) | (refine awp_exit ?_; dsimp only [thenA, blockA, AS.bump, List.length_cons, List.length_nil, reduceIte, Nat.reduceEqDiff]) | refine awp_condT rfl (by first | rfl | assumption) ?_ | refine awp_condF rfl (by first | rfl | assumption) ?_ | ((fail_if_success refine ARun.plain rfl ?_); first | refine ARun.knowT rfl rfl rfl (by first | rfl | assumption) ?_ | refine ARun.knowF rfl rfl rfl (by first | rfl | assumption) ?_ | refine ARun.fork rfl rfl rfl (fun h => ?_) (fun h => ?_)) | refine awp_cond rfl (fun h => ?_) (fun h => ?_)))
  refine awp_ret ⟨_, ResL.cons (ResA.tmp (.val _)) .nil, rfl⟩
theorem takes_nPICK_bad (p : List Int) (n : Int) (hl : p.length ≤ 90000) (hn : n < 0 ∨ (p.length : Int) ≤ n) : FnC Try.prog 22 [.val (.string nPICK), encS (p ++ [n])] (.val (.int .i64 ((((p ++ [n]).map encI).length : Nat) + 1 : Int))) := by
  have f0 : (nPICK.toList == (ByteArray.mk #[68, 69, 80, 84, 72]).toList) = false := by kernel_rfl
  have f1 : (nPICK.toList == (ByteArray.mk #[68, 85, 80]).toList) = false := by kernel_rfl
  have f2 : (nPICK.toList == (ByteArray.mk #[68, 82, 79, 80]).toList) = false := by kernel_rfl
  have f3 : (nPICK.toList == (ByteArray.mk #[63, 68, 85, 80]).toList) = false := by kernel_rfl
  have f4 : (nPICK.toList == (ByteArray.mk #[83, 87, 65, 80]).toList) = false := by kernel_rfl
  have f5 : (nPICK.toList == (ByteArray.mk #[79, 86, 69, 82]).toList) = false := by kernel_rfl
  have f6 : (nPICK.toList == (ByteArray.mk #[78, 73, 80]).toList) = false := by kernel_rfl
  have f7 : (nPICK.toList == (ByteArray.mk #[84, 85, 67, 75]).toList) = false := by kernel_rfl
  have f8 : (nPICK.toList == (ByteArray.mk #[50, 68, 85, 80]).toList) = false := by kernel_rfl
  have f9 : (nPICK.toList == (ByteArray.mk #[50, 68, 82, 79, 80]).toList) = false := by kernel_rfl
  have f10 : (nPICK.toList == (ByteArray.mk #[82, 79, 84]).toList) = false := by kernel_rfl
  have f11 : (nPICK.toList == (ByteArray.mk #[45, 82, 79, 84]).toList) = false := by kernel_rfl
  have f12 : (nPICK.toList == (ByteArray.mk #[50, 83, 87, 65, 80]).toList) = false := by kernel_rfl
  have f13 : (nPICK.toList == (ByteArray.mk #[50, 79, 86, 69, 82]).toList) = false := by kernel_rfl
  have f14 : (nPICK.toList == (ByteArray.mk #[80, 73, 67, 75]).toList) = true := by kernel_rfl
  have h0 : (((((p ++ [n]).map encI).length : Nat) : Int) == 0) = false := by simp; omega
  have hi := snoc_ix p n
  refine FnC.of_awp (T := tt) (ok := tok) Try.func22 (by kernel_rfl) rfl (by kernel_rfl) (closedL_cons (.val _) (closedL_cons (closed_s _) closedL_nil)) (fun w0 st0 => ?_)
  dsimp only [frOf]
  by_cases h1 : n < 0
  · have h2 : decide (n < 0) = true := by simpa using h1
    (repeat' (first | refine awp_seq ?_ | refine awp_block ?_ | refine awp_region (fun _ => hmix) ?_ | refine ARun.op rfl (by first | exact True.intro | exact rfl | (unfold inR; omega) | omega | (unfold inR; simp only [List.length_map, List.length_append, List.length_take, List.length_drop, List.length_cons, List.length_nil] at *; omega)) ?_ | refine ARun.indexAddr rfl rfl (by (try dsimp only [maxLen]); (try simp only [List.length_append, List.length_map, List.length_take, List.length_drop, List.length_replicate, List.length_cons, List.length_nil, maxLen] at *); (try simp only [List.length_append, List.length_map, List.length_take, List.length_drop, List.length_replicate, List.length_cons, List.length_nil, maxLen]); omega) (by first | assumption | rfl) rfl rfl rfl rfl rfl (guardF_spec rfl) ?_ | (refine ARun.fin (by first | (intro h; cases h; done) | (intro _; kernel_rfl)) ?_; dsimp only [thenA, blockA, AS.bump, List.length_cons, List.length_nil, reduceIte, Nat.reduceEqDiff]) | (refine awp_skip ?_; dsimp only [thenA, blockA, AS.bump, List.length_cons, List.length_nil, reduceIte, Nat.reduceEqDiff]) | (refine awp_exit ?_; dsimp only [thenA, blockA, AS.bump, List.length_cons, List.length_nil, reduceIte, Nat.reduceEqDiff]) | refine awp_condT rfl (by first | rfl | assumption) ?_ | refine awp_condF rfl (by first | rfl | assumption) ?_ | ((fail_if_success refine ARun.plain rfl ?_); first | refine ARun.knowT rfl rfl rfl (by first | rfl | assumption) ?_ | refine ARun.knowF rfl rfl rfl (by first | rfl | assumption) ?_ | refine ARun.fork rfl rfl rfl (fun h => ?_) (fun h => ?_)) | refine awp_cond rfl (fun h => ?_) (fun h => ?_)))
    refine awp_ret ⟨_, ResL.cons (ResA.tmp (.val _)) .nil, rfl⟩
  · have h2 : decide (n < 0) = false := by simpa using h1
    have h3 : decide (((((p ++ [n]).map encI).length : Nat) : Int) - 1 ≤ n) = true := by rw [decide_eq_true_eq]; simp; omega
    (repeat' (first | refine awp_seq ?_ | refine awp_block ?_ | refine awp_region (fun _ => hmix) ?_ | refine ARun.op rfl (by first | exact True.intro | exact rfl | (unfold inR; omega) | omega | (unfold inR; simp only [List.length_map, List.length_append, List.length_take, List.length_drop, List.length_cons, List.length_nil] at *; omega)) ?_ | refine ARun.indexAddr rfl rfl (by (try dsimp only [maxLen]); (try simp only [List.length_append, List.length_map, List.length_take, List.length_drop, List.length_replicate, List.length_cons, List.length_nil, maxLen] at *); (try simp only [List.length_append, List.length_map, List.length_take, List.length_drop, List.length_replicate, List.length_cons, List.length_nil, maxLen]); omega) (by first | assumption | rfl) rfl rfl rfl rfl rfl (guardF_spec rfl) ?_ | (refine ARun.fin (by first | (intro h; cases h; done) | (intro _; kernel_rfl)) ?_; dsimp only [thenA, blockA, AS.bump, List.length_cons, List.length_nil, reduceIte, Nat.reduceEqDiff]) | (refine awp_skip ?_; dsimp only [thenA, blockA, AS.bump, List.length_cons, List.length_nil, reduceIte, Nat.reduceEqDiff]) | (refine awp_exit ?_; dsimp only [thenA, blockA, AS.bump, List.length_cons, List.length_nil, reduceIte, Nat.reduceEqDiff]) | refine awp_condT rfl (by first | rfl | assumption) ?_ | refine awp_condF rfl (by first | rfl | assumption) ?_ | ((fail_if_success refine ARun.plain rfl ?_); first | refine ARun.knowT rfl rfl rfl (by first | rfl | assumption) ?_ | refine ARun.knowF rfl rfl rfl (by first | rfl | assumption) ?_ | refine ARun.fork rfl rfl rfl (fun h => ?_) (fun h => ?_)) | refine awp_cond rfl (fun h => ?_) (fun h => ?_)))
    refine awp_ret ⟨_, ResL.cons (ResA.tmp (.val _)) .nil, rfl⟩
theorem takes_nPICK (p : List Int) (n : Int) (hl : p.length ≤ 90000) (h1 : 0 ≤ n) (h2' : n < (p.length : Int)) : FnC Try.prog 22 [.val (.string nPICK), encS (p ++ [n])] (.val (.int .i64 (n + 2))) := by
  have f0 : (nPICK.toList == (ByteArray.mk #[68, 69, 80, 84, 72]).toList) = false := by kernel_rfl
  have f1 : (nPICK.toList == (ByteArray.mk #[68, 85, 80]).toList) = false := by kernel_rfl
  have f2 : (nPICK.toList == (ByteArray.mk #[68, 82, 79, 80]).toList) = false := by kernel_rfl
  have f3 : (nPICK.toList == (ByteArray.mk #[63, 68, 85, 80]).toList) = false := by kernel_rfl
  have f4 : (nPICK.toList == (ByteArray.mk #[83, 87, 65, 80]).toList) = false := by kernel_rfl
  have f5 : (nPICK.toList == (ByteArray.mk #[79, 86, 69, 82]).toList) = false := by kernel_rfl
  have f6 : (nPICK.toList == (ByteArray.mk #[78, 73, 80]).toList) = false := by kernel_rfl
  have f7 : (nPICK.toList == (ByteArray.mk #[84, 85, 67, 75]).toList) = false := by kernel_rfl
  have f8 : (nPICK.toList == (ByteArray.mk #[50, 68, 85, 80]).toList) = false := by kernel_rfl
  have f9 : (nPICK.toList == (ByteArray.mk #[50, 68, 82, 79, 80]).toList) = false := by kernel_rfl
  have f10 : (nPICK.toList == (ByteArray.mk #[82, 79, 84]).toList) = false := by kernel_rfl
  have f11 : (nPICK.toList == (ByteArray.mk #[45, 82, 79, 84]).toList) = false := by kernel_rfl
  have f12 : (nPICK.toList == (ByteArray.mk #[50, 83, 87, 65, 80]).toList) = false := by kernel_rfl
  have f13 : (nPICK.toList == (ByteArray.mk #[50, 79, 86, 69, 82]).toList) = false := by kernel_rfl
  have f14 : (nPICK.toList == (ByteArray.mk #[80, 73, 67, 75]).toList) = true := by kernel_rfl
  have h0 : (((((p ++ [n]).map encI).length : Nat) : Int) == 0) = false := by simp; omega
  have hi := snoc_ix p n
  have h2 : decide (n < 0) = false := by rw [decide_eq_false_iff_not]; omega
  have h3 : decide (((((p ++ [n]).map encI).length : Nat) : Int) - 1 ≤ n) = false := by rw [decide_eq_false_iff_not]; simp; omega
  refine FnC.of_awp (T := tt) (ok := tok) Try.func22 (by kernel_rfl) rfl (by kernel_rfl) (closedL_cons (.val _) (closedL_cons (closed_s _) closedL_nil)) (fun w0 st0 => ?_)
  dsimp only [frOf]
  (repeat' (first | refine awp_seq ?_ | refine awp_block ?_ | refine awp_region (fun _ => hmix) ?_ | refine ARun.op rfl (by first | exact True.intro | exact rfl | (unfold inR; omega) | omega | (unfold inR; simp only [List.length_map, List.length_append, List.length_take, List.length_drop, List.length_cons, List.length_nil] at *; omega)) ?_ | refine ARun.indexAddr rfl rfl (by (try dsimp only [maxLen]); (try simp only [List.length_append, List.length_map, List.length_take, List.length_drop, List.length_replicate, List.length_cons, List.length_nil, maxLen] at *); (try simp only [List.length_append, List.length_map, List.length_take, List.length_drop, List.length_replicate, List.length_cons, List.length_nil, maxLen]); omega) (by first | assumption | rfl) rfl rfl rfl rfl rfl (guardF_spec rfl) ?_ | (refine ARun.fin (by first | (intro h; cases h; done) | (intro _; kernel_rfl)) ?_; dsimp only [thenA, blockA, AS.bump, List.length_cons, List.length_nil, reduceIte, Nat.reduceEqDiff]) | (refine awp_skip ?_; dsimp only [thenA, blockA, AS.bump, List.length_cons, List.length_nil, reduceIte, Nat.reduceEqDiff]) | (refine awp_exit ?_; dsimp only [thenA, blockA, AS.bump, List.length_cons, List.length_nil, reduceIte, Nat.reduceEqDiff]) | refine awp_condT rfl (by first | rfl | assumption) ?_ | refine awp_condF rfl (by first | rfl | assumption) ?_ | ((fail_if_success refine ARun.plain rfl ?_); first | refine ARun.knowT rfl rfl rfl (by first | rfl | assumption) ?_ | refine ARun.knowF rfl rfl rfl (by first | rfl | assumption) ?_ | refine ARun.fork rfl rfl rfl (fun h => ?_) (fun h => ?_)) | refine awp_cond rfl (fun h => ?_) (fun h => ?_)))
  refine awp_ret ⟨_, ResL.cons (ResA.tmp (.val _)) .nil, rfl⟩
theorem takes_nROLL_nil : FnC Try.prog 22 [.val (.string nROLL), encS []] (.val (.int .i64 1)) := by
  have f0 : (nROLL.toList == (ByteArray.mk #[68, 69, 80, 84, 72]).toList) = false := by kernel_rfl
  have f1 : (nROLL.toList == (ByteArray.mk #[68, 85, 80]).toList) = false := by kernel_rfl
  have f2 : (nROLL.toList == (ByteArray.mk #[68, 82, 79, 80]).toList) = false := by kernel_rfl
  have f3 : (nROLL.toList == (ByteArray.mk #[63, 68, 85, 80]).toList) = false := by kernel_rfl
  have f4 : (nROLL.toList == (ByteArray.mk #[83, 87, 65, 80]).toList) = false := by kernel_rfl
  have f5 : (nROLL.toList == (ByteArray.mk #[79, 86, 69, 82]).toList) = false := by kernel_rfl
  have f6 : (nROLL.toList == (ByteArray.mk #[78, 73, 80]).toList) = false := by kernel_rfl
  have f7 : (nROLL.toList == (ByteArray.mk #[84, 85, 67, 75]).toList) = false := by kernel_rfl
  have f8 : (nROLL.toList == (ByteArray.mk #[50, 68, 85, 80]).toList) = false := by kernel_rfl
  have f9 : (nROLL.toList == (ByteArray.mk #[50, 68, 82, 79, 80]).toList) = false := by kernel_rfl
  have f10 : (nROLL.toList == (ByteArray.mk #[82, 79, 84]).toList) = false := by kernel_rfl
  have f11 : (nROLL.toList == (ByteArray.mk #[45, 82, 79, 84]).toList) = false := by kernel_rfl
  have f12 : (nROLL.toList == (ByteArray.mk #[50, 83, 87, 65, 80]).toList) = false := by kernel_rfl
  have f13 : (nROLL.toList == (ByteArray.mk #[50, 79, 86, 69, 82]).toList) = false := by kernel_rfl
  have f14 : (nROLL.toList == (ByteArray.mk #[80, 73, 67, 75]).toList) = false := by kernel_rfl
  have f15 : (nROLL.toList == (ByteArray.mk #[82, 79, 76, 76]).toList) = true := by kernel_rfl
  have h0 : ((((([] : List Int).map encI).length : Nat) : Int) == 0) = true := by simp
  refine FnC.of_awp (T := tt) (ok := tok) Try.func22 (by kernel_rfl) rfl (by kernel_rfl) (closedL_cons (.val _) (closedL_cons (closed_s _) closedL_nil)) (fun w0 st0 => ?_)
  dsimp only [frOf]
  (repeat' (first | refine awp_seq ?_ | refine awp_block ?_ | refine awp_region (fun _ => hmix) ?_ | refine ARun.op rfl (by first | exact True.intro | exact rfl | (unfold inR; omega) | omega | (unfold inR; simp only [List.length_map, List.length_append, List.length_take, List.length_drop, List.length_cons, List.length_nil] at *; omega)) ?_ | (refine ARun.fin (by first | (intro h; cases h; done) | (intro _; kernel_rfl)) ?_; dsimp only [thenA, blockA, AS.bump, List.length_cons, List.length_nil, reduceIte, Nat.reduceEqDiff]) | (refine awp_skip ?_; dsimp only [thenA, blockA, AS.bump, List.length_cons, List.length_nil, reduceIte, Nat.reduceEqDiff]) | (refine awp_exit ?_; dsimp only [thenA, blockA, AS.bump, List.length_cons, List.length_nil, reduceIte, Nat.reduceEqDiff]) | refine awp_condT rfl (by first | rfl | assumption) ?_ | refine awp_condF rfl (by first | rfl | assumption) ?_ | ((fail_if_success refine ARun.plain rfl ?_); first | refine ARun.knowT rfl rfl rfl (by first | rfl | assumption) ?_ | refine ARun.knowF rfl rfl rfl (by first | rfl | assumption) ?_ | refine ARun.fork rfl rfl rfl (fun h => ?_) (fun h => ?_)) | refine awp_cond rfl (fun h => ?_) (fun h => ?_)))
  refine awp_ret ⟨_, ResL.cons (ResA.tmp (.val _)) .nil, rfl⟩
theorem takes_nROLL_bad (p : List Int) (n : Int) (hl : p.length ≤ 90000) (hn : n < 0 ∨ (p.length : Int) ≤ n) : FnC Try.prog 22 [.val (.string nROLL), encS (p ++ [n])] (.val (.int .i64 ((((p ++ [n]).map encI).length : Nat) + 1 : Int))) := by
  have f0 : (nROLL.toList == (ByteArray.mk #[68, 69, 80, 84, 72]).toList) = false := by kernel_rfl
  have f1 : (nROLL.toList == (ByteArray.mk #[68, 85, 80]).toList) = false := by kernel_rfl
  have f2 : (nROLL.toList == (ByteArray.mk #[68, 82, 79, 80]).toList) = false := by kernel_rfl
  have f3 : (nROLL.toList == (ByteArray.mk #[63, 68, 85, 80]).toList) = false := by kernel_rfl
  have f4 : (nROLL.toList == (ByteArray.mk #[83, 87, 65, 80]).toList) = false := by kernel_rfl
  have f5 : (nROLL.toList == (ByteArray.mk #[79, 86, 69, 82]).toList) = false := by kernel_rfl
  have f6 : (nROLL.toList == (ByteArray.mk #[78, 73, 80]).toList) = false := by kernel_rfl
  have f7 : (nROLL.toList == (ByteArray.mk #[84, 85, 67, 75]).toList) = false := by kernel_rfl
  have f8 : (nROLL.toList == (ByteArray.mk #[50, 68, 85, 80]).toList) = false := by kernel_rfl
  have f9 : (nROLL.toList == (ByteArray.mk #[50, 68, 82, 79, 80]).toList) = false := by kernel_rfl
  have f10 : (nROLL.toList == (ByteArray.mk #[82, 79, 84]).toList) = false := by kernel_rfl
  have f11 : (nROLL.toList == (ByteArray.mk #[45, 82, 79, 84]).toList) = false := by kernel_rfl
  have f12 : (nROLL.toList == (ByteArray.mk #[50, 83, 87, 65, 80]).toList) = false := by kernel_rfl
  have f13 : (nROLL.toList == (ByteArray.mk #[50, 79, 86, 69, 82]).toList) = false := by kernel_rfl
  have f14 : (nROLL.toList == (ByteArray.mk #[80, 73, 67, 75]).toList) = false := by kernel_rfl
  have f15 : (nROLL.toList == (ByteArray.mk #[82, 79, 76, 76]).toList) = true := by kernel_rfl
  have h0 : (((((p ++ [n]).map encI).length : Nat) : Int) == 0) = false := by simp; omega
  have hi := snoc_ix p n
  refine FnC.of_awp (T := tt) (ok := tok) Try.func22 (by kernel_rfl) rfl (by kernel_rfl) (closedL_cons (.val _) (closedL_cons (closed_s _) closedL_nil)) (fun w0 st0 => ?_)
  dsimp only [frOf]
  by_cases h1 : n < 0
  · have h2 : decide (n < 0) = true := by simpa using h1
    (repeat' (first | refine awp_seq ?_ | refine awp_block ?_ | refine awp_region (fun _ => hmix) ?_ | refine ARun.op rfl (by first | exact True.intro | exact rfl | (unfold inR; omega) | omega | (unfold inR; simp only [List.length_map, List.length_append, List.length_take, List.length_drop, List.length_cons, List.length_nil] at *; omega)) ?_ | refine ARun.indexAddr rfl rfl (by (try dsimp only [maxLen]); (try simp only [List.length_append, List.length_map, List.length_take, List.length_drop, List.length_replicate, List.length_cons, List.length_nil, maxLen] at *); (try simp only [List.length_append, List.length_map, List.length_take, List.length_drop, List.length_replicate, List.length_cons, List.length_nil, maxLen]); omega) (by first | assumption | rfl) rfl rfl rfl rfl rfl (guardF_spec rfl) ?_ | (refine ARun.fin (by first | (intro h; cases h; done) | (intro _; kernel_rfl)) ?_; dsimp only [thenA, blockA, AS.bump, List.length_cons, List.length_nil, reduceIte, Nat.reduceEqDiff]) | (refine awp_skip ?_; dsimp only [thenA, blockA, AS.bump, List.length_cons, List.length_nil, reduceIte, Nat.reduceEqDiff]) | (refine awp_exit ?_; dsimp only [thenA, blockA, AS.bump, List.length_cons, List.length_nil, reduceIte, Nat.reduceEqDiff]) | refine awp_condT rfl (by first | rfl | assumption) ?_ | refine awp_condF rfl (by first | rfl | assumption) ?_ | ((fail_if_success refine ARun.plain rfl ?_); first | refine ARun.knowT rfl rfl rfl (by first | rfl | assumption) ?_ | refine ARun.knowF rfl rfl rfl (by first | rfl | assumption) ?_ | refine ARun.fork rfl rfl rfl (fun h => ?_) (fun h => ?_)) | refine awp_cond rfl (fun h => ?_) (fun h => ?_)))
    refine awp_ret ⟨_, ResL.cons (ResA.tmp (.val _)) .nil, rfl⟩
  · have h2 : decide (n < 0) = false := by simpa using h1
    have h3 : decide (((((p ++ [n]).map encI).length : Nat) : Int) - 1 ≤ n) = true := by rw [decide_eq_true_eq]; simp; omega
    (repeat' (first | refine awp_seq ?_ | refine awp_block ?_ | refine awp_region (fun _ => hmix) ?_ | refine ARun.op rfl (by first | exact True.intro | exact rfl | (unfold inR; omega) | omega | (unfold inR; simp only [List.length_map, List.length_append, List.length_take, List.length_drop, List.length_cons, List.length_nil] at *; omega)) ?_ | refine ARun.indexAddr rfl rfl (by (try dsimp only [maxLen]); (try simp only [List.length_append, List.length_map, List.length_take, List.length_drop, List.length_replicate, List.length_cons, List.length_nil, maxLen] at *); (try simp only [List.length_append, List.length_map, List.length_take, List.length_drop, List.length_replicate, List.length_cons, List.length_nil, maxLen]); omega) (by first | assumption | rfl) rfl rfl rfl rfl rfl (guardF_spec rfl) ?_ | (refine ARun.fin (by first | (intro h; cases h; done) | (intro _; kernel_rfl)) ?_; dsimp only [thenA, blockA, AS.bump, List.length_cons, List.length_nil, reduceIte, Nat.reduceEqDiff]) | (refine awp_skip ?_; dsimp only [thenA, blockA, AS.bump, List.length_cons, List.length_nil, reduceIte, Nat.reduceEqDiff]) | (refine awp_exit ?_; dsimp only [thenA, blockA, AS.bump, List.length_cons, List.length_nil, reduceIte, Nat.reduceEqDiff]) | refine awp_condT rfl (by first | rfl | assumption) ?_ | refine awp_condF rfl (by first | rfl | assumption) ?_ | ((fail_if_success refine ARun.plain rfl ?_); first | refine ARun.knowT rfl rfl rfl (by first | rfl | assumption) ?_ | refine ARun.knowF rfl rfl rfl (by first | rfl | assumption) ?_ | refine ARun.fork rfl rfl rfl (fun h => ?_) (fun h => ?_)) | refine awp_cond rfl (fun h => ?_) (fun h => ?_)))
    refine awp_ret ⟨_, ResL.cons (ResA.tmp (.val _)) .nil, rfl⟩
theorem takes_nROLL (p : List Int) (n : Int) (hl : p.length ≤ 90000) (h1 : 0 ≤ n) (h2' : n < (p.length : Int)) : FnC Try.prog 22 [.val (.string nROLL), encS (p ++ [n])] (.val (.int .i64 (n + 2))) := by
  have f0 : (nROLL.toList == (ByteArray.mk #[68, 69, 80, 84, 72]).toList) = false := by kernel_rfl
  have f1 : (nROLL.toList == (ByteArray.mk #[68, 85, 80]).toList) = false := by kernel_rfl
  have f2 : (nROLL.toList == (ByteArray.mk #[68, 82, 79, 80]).toList) = false := by kernel_rfl
  have f3 : (nROLL.toList == (ByteArray.mk #[63, 68, 85, 80]).toList) = false := by kernel_rfl
  have f4 : (nROLL.toList == (ByteArray.mk #[83, 87, 65, 80]).toList) = false := by kernel_rfl
  have f5 : (nROLL.toList == (ByteArray.mk #[79, 86, 69, 82]).toList) = false := by kernel_rfl
  have f6 : (nROLL.toList == (ByteArray.mk #[78, 73, 80]).toList) = false := by kernel_rfl
  have f7 : (nROLL.toList == (ByteArray.mk #[84, 85, 67, 75]).toList) = false := by kernel_rfl
  have f8 : (nROLL.toList == (ByteArray.mk #[50, 68, 85, 80]).toList) = false := by kernel_rfl
  have f9 : (nROLL.toList == (ByteArray.mk #[50, 68, 82, 79, 80]).toList) = false := by kernel_rfl
  have f10 : (nROLL.toList == (ByteArray.mk #[82, 79, 84]).toList) = false := by kernel_rfl
  have f11 : (nROLL.toList == (ByteArray.mk #[45, 82, 79, 84]).toList) = false := by kernel_rfl
  have f12 : (nROLL.toList == (ByteArray.mk #[50, 83, 87, 65, 80]).toList) = false := by kernel_rfl
  have f13 : (nROLL.toList == (ByteArray.mk #[50, 79, 86, 69, 82]).toList) = false := by kernel_rfl
  have f14 : (nROLL.toList == (ByteArray.mk #[80, 73, 67, 75]).toList) = false := by kernel_rfl
  have f15 : (nROLL.toList == (ByteArray.mk #[82, 79, 76, 76]).toList) = true := by kernel_rfl
  have h0 : (((((p ++ [n]).map encI).length : Nat) : Int) == 0) = false := by simp; omega
  have hi := snoc_ix p n
  have h2 : decide (n < 0) = false := by rw [decide_eq_false_iff_not]; omega
  have h3 : decide (((((p ++ [n]).map encI).length : Nat) : Int) - 1 ≤ n) = false := by rw [decide_eq_false_iff_not]; simp; omega
  refine FnC.of_awp (T := tt) (ok := tok) Try.func22 (by kernel_rfl) rfl (by kernel_rfl) (closedL_cons (.val _) (closedL_cons (closed_s _) closedL_nil)) (fun w0 st0 => ?_)
  dsimp only [frOf]
  (repeat' (first | refine awp_seq ?_ | refine awp_block ?_ | refine awp_region (fun _ => hmix) ?_ | refine ARun.op rfl (by first | exact True.intro | exact rfl | (unfold inR; omega) | omega | (unfold inR; simp only [List.length_map, List.length_append, List.length_take, List.length_drop, List.length_cons, List.length_nil] at *; omega)) ?_ | refine ARun.indexAddr rfl rfl (by (try dsimp only [maxLen]); (try simp only [List.length_append, List.length_map, List.length_take, List.length_drop, List.length_replicate, List.length_cons, List.length_nil, maxLen] at *); (try simp only [List.length_append, List.length_map, List.length_take, List.length_drop, List.length_replicate, List.length_cons, List.length_nil, maxLen]); omega) (by first | assumption | rfl) rfl rfl rfl rfl rfl (guardF_spec rfl) ?_ | (refine ARun.fin (by first | (intro h; cases h; done) | (intro _; kernel_rfl)) ?_; dsimp only [thenA, blockA, AS.bump, List.length_cons, List.length_nil, reduceIte, Nat.reduceEqDiff]) | (refine awp_skip ?_; dsimp only [thenA, blockA, AS.bump, List.length_cons, List.length_nil, reduceIte, Nat.reduceEqDiff]) | (refine awp_exit ?_; dsimp only [thenA, blockA, AS.bump, List.length_cons, List.length_nil, reduceIte, Nat.reduceEqDiff]) | refine awp_condT rfl (by first | rfl | assumption) ?_ | refine awp_condF rfl (by first | rfl | assumption) ?_ | ((fail_if_success refine ARun.plain rfl ?_); first | refine ARun.knowT rfl rfl rfl (by first | rfl | assumption) ?_ | refine ARun.knowF rfl rfl rfl (by first | rfl | assumption) ?_ | refine ARun.fork rfl rfl rfl (fun h => ?_) (fun h => ?_)) | refine awp_cond rfl (fun h => ?_) (fun h => ?_)))
  refine awp_ret ⟨_, ResL.cons (ResA.tmp (.val _)) .nil, rfl⟩
/-- A name that is no word's. -/
structure NoName (nm : ByteArray) : Prop where
  f0 : (nm.toList == (ByteArray.mk #[68, 69, 80, 84, 72]).toList) = false
  f1 : (nm.toList == (ByteArray.mk #[68, 85, 80]).toList) = false
  f2 : (nm.toList == (ByteArray.mk #[68, 82, 79, 80]).toList) = false
  f3 : (nm.toList == (ByteArray.mk #[63, 68, 85, 80]).toList) = false
  f4 : (nm.toList == (ByteArray.mk #[83, 87, 65, 80]).toList) = false
  f5 : (nm.toList == (ByteArray.mk #[79, 86, 69, 82]).toList) = false
  f6 : (nm.toList == (ByteArray.mk #[78, 73, 80]).toList) = false
  f7 : (nm.toList == (ByteArray.mk #[84, 85, 67, 75]).toList) = false
  f8 : (nm.toList == (ByteArray.mk #[50, 68, 85, 80]).toList) = false
  f9 : (nm.toList == (ByteArray.mk #[50, 68, 82, 79, 80]).toList) = false
  f10 : (nm.toList == (ByteArray.mk #[82, 79, 84]).toList) = false
  f11 : (nm.toList == (ByteArray.mk #[45, 82, 79, 84]).toList) = false
  f12 : (nm.toList == (ByteArray.mk #[50, 83, 87, 65, 80]).toList) = false
  f13 : (nm.toList == (ByteArray.mk #[50, 79, 86, 69, 82]).toList) = false
  f14 : (nm.toList == (ByteArray.mk #[80, 73, 67, 75]).toList) = false
  f15 : (nm.toList == (ByteArray.mk #[82, 79, 76, 76]).toList) = false
theorem takes_none (nm : ByteArray) (h : NoName nm) (s : List Int) : FnC Try.prog 22 [.val (.string nm), encS s] (.val (.int .i64 (-1))) := by
  obtain ⟨f0, f1, f2, f3, f4, f5, f6, f7, f8, f9, f10, f11, f12, f13, f14, f15⟩ := h
  refine FnC.of_awp (T := tt) (ok := tok) Try.func22 (by kernel_rfl) rfl (by kernel_rfl) (closedL_cons (.val _) (closedL_cons (closed_s _) closedL_nil)) (fun w0 st0 => ?_)
  dsimp only [frOf]
  (repeat' (first | refine awp_seq ?_ | refine awp_block ?_ | refine awp_region (fun _ => hmix) ?_ | refine ARun.op rfl (by first | exact True.intro | exact rfl | (unfold inR; omega) | omega | (unfold inR; simp only [List.length_map, List.length_append, List.length_take, List.length_drop, List.length_cons, List.length_nil] at *; omega)) ?_ | (refine ARun.fin (by first | (intro h; cases h; done) | (intro _; kernel_rfl)) ?_; dsimp only [thenA, blockA, AS.bump, List.length_cons, List.length_nil, reduceIte, Nat.reduceEqDiff]) | (refine awp_skip ?_; dsimp only [thenA, blockA, AS.bump, List.length_cons, List.length_nil, reduceIte, Nat.reduceEqDiff]) | (refine awp_exit ?_; dsimp only [thenA, blockA, AS.bump, List.length_cons, List.length_nil, reduceIte, Nat.reduceEqDiff]) | refine awp_condT rfl (by first | rfl | assumption) ?_ | refine awp_condF rfl (by first | rfl | assumption) ?_ | ((fail_if_success refine ARun.plain rfl ?_); first | refine ARun.knowT rfl rfl rfl (by first | rfl | assumption) ?_ | refine ARun.knowF rfl rfl rfl (by first | rfl | assumption) ?_ | refine ARun.fork rfl rfl rfl (fun h => ?_) (fun h => ?_)) | refine awp_cond rfl (fun h => ?_) (fun h => ?_)))
  refine awp_ret ⟨_, ResL.cons (ResA.tmp (.val _)) .nil, rfl⟩
theorem left_nDUP (a depth : Int) : FnC Try.prog 23 [.val (.string nDUP), encS [a], .val (.int .i64 depth)] (encS [a, a]) := by
  have f0 : (nDUP.toList == (ByteArray.mk #[68, 85, 80]).toList) = true := by kernel_rfl
  refine FnC.of_awp (T := tt) (ok := tok) Try.func23 (by kernel_rfl) rfl (by kernel_rfl) (closedL_cons (.val _) (closedL_cons (closed_s _) (closedL_cons (.val _) closedL_nil))) (fun w0 st0 => ?_)
  dsimp only [frOf]
  (repeat' (first | refine awp_seq ?_ | refine awp_block ?_ | refine awp_region (fun _ => hmix) ?_ | refine ARun.op rfl (by first | exact True.intro | exact rfl | (unfold inR; omega) | omega | (unfold inR; simp only [List.length_map, List.length_append, List.length_take, List.length_drop, List.length_cons, List.length_nil] at *; omega)) ?_ | refine ARun.indexAddr rfl rfl (by (try dsimp only [maxLen]); (try simp only [List.length_append, List.length_map, List.length_take, List.length_drop, List.length_replicate, List.length_cons, List.length_nil, maxLen] at *); (try simp only [List.length_append, List.length_map, List.length_take, List.length_drop, List.length_replicate, List.length_cons, List.length_nil, maxLen]); omega) (by first | assumption | rfl) rfl rfl rfl rfl rfl (guardF_spec rfl) ?_ | (refine ARun.fin (by first | (intro h; cases h; done) | (intro _; kernel_rfl)) ?_; dsimp only [thenA, blockA, AS.bump, List.length_cons, List.length_nil, reduceIte, Nat.reduceEqDiff]) | (refine awp_skip ?_; dsimp only [thenA, blockA, AS.bump, List.length_cons, List.length_nil, reduceIte, Nat.reduceEqDiff]) | (refine awp_exit ?_; dsimp only [thenA, blockA, AS.bump, List.length_cons, List.length_nil, reduceIte, Nat.reduceEqDiff]) | refine awp_condT rfl (by first | rfl | assumption) ?_ | refine awp_condF rfl (by first | rfl | assumption) ?_ | ((fail_if_success refine ARun.plain rfl ?_); first | refine ARun.knowT rfl rfl rfl (by first | rfl | assumption) ?_ | refine ARun.knowF rfl rfl rfl (by first | rfl | assumption) ?_ | refine ARun.fork rfl rfl rfl (fun h => ?_) (fun h => ?_)) | refine awp_cond rfl (fun h => ?_) (fun h => ?_)))
  refine awp_ret ⟨_, ResL.cons (ResA.tmp (Reif.weak (els := [a, a].map encI) (closed_map encI_closed))) .nil, rfl⟩
theorem left_nDROP (a depth : Int) : FnC Try.prog 23 [.val (.string nDROP), encS [a], .val (.int .i64 depth)] (encS []) := by
  have f0 : (nDROP.toList == (ByteArray.mk #[68, 85, 80]).toList) = false := by kernel_rfl
  have f1 : (nDROP.toList == (ByteArray.mk #[83, 87, 65, 80]).toList) = false := by kernel_rfl
  have f2 : (nDROP.toList == (ByteArray.mk #[79, 86, 69, 82]).toList) = false := by kernel_rfl
  have f3 : (nDROP.toList == (ByteArray.mk #[78, 73, 80]).toList) = false := by kernel_rfl
  have f4 : (nDROP.toList == (ByteArray.mk #[84, 85, 67, 75]).toList) = false := by kernel_rfl
  have f5 : (nDROP.toList == (ByteArray.mk #[82, 79, 84]).toList) = false := by kernel_rfl
  have f6 : (nDROP.toList == (ByteArray.mk #[45, 82, 79, 84]).toList) = false := by kernel_rfl
  have f7 : (nDROP.toList == (ByteArray.mk #[50, 68, 85, 80]).toList) = false := by kernel_rfl
  have f8 : (nDROP.toList == (ByteArray.mk #[50, 83, 87, 65, 80]).toList) = false := by kernel_rfl
  have f9 : (nDROP.toList == (ByteArray.mk #[50, 79, 86, 69, 82]).toList) = false := by kernel_rfl
  have f10 : (nDROP.toList == (ByteArray.mk #[63, 68, 85, 80]).toList) = false := by kernel_rfl
  have f11 : (nDROP.toList == (ByteArray.mk #[68, 69, 80, 84, 72]).toList) = false := by kernel_rfl
  have f12 : (nDROP.toList == (ByteArray.mk #[80, 73, 67, 75]).toList) = false := by kernel_rfl
  have f13 : (nDROP.toList == (ByteArray.mk #[82, 79, 76, 76]).toList) = false := by kernel_rfl
  refine FnC.of_awp (T := tt) (ok := tok) Try.func23 (by kernel_rfl) rfl (by kernel_rfl) (closedL_cons (.val _) (closedL_cons (closed_s _) (closedL_cons (.val _) closedL_nil))) (fun w0 st0 => ?_)
  dsimp only [frOf]
  (repeat' (first | refine awp_seq ?_ | refine awp_block ?_ | refine awp_region (fun _ => hmix) ?_ | refine ARun.op rfl (by first | exact True.intro | exact rfl | (unfold inR; omega) | omega | (unfold inR; simp only [List.length_map, List.length_append, List.length_take, List.length_drop, List.length_cons, List.length_nil] at *; omega)) ?_ | refine ARun.indexAddr rfl rfl (by (try dsimp only [maxLen]); (try simp only [List.length_append, List.length_map, List.length_take, List.length_drop, List.length_replicate, List.length_cons, List.length_nil, maxLen] at *); (try simp only [List.length_append, List.length_map, List.length_take, List.length_drop, List.length_replicate, List.length_cons, List.length_nil, maxLen]); omega) (by first | assumption | rfl) rfl rfl rfl rfl rfl (guardF_spec rfl) ?_ | (refine ARun.fin (by first | (intro h; cases h; done) | (intro _; kernel_rfl)) ?_; dsimp only [thenA, blockA, AS.bump, List.length_cons, List.length_nil, reduceIte, Nat.reduceEqDiff]) | (refine awp_skip ?_; dsimp only [thenA, blockA, AS.bump, List.length_cons, List.length_nil, reduceIte, Nat.reduceEqDiff]) | (refine awp_exit ?_; dsimp only [thenA, blockA, AS.bump, List.length_cons, List.length_nil, reduceIte, Nat.reduceEqDiff]) | refine awp_condT rfl (by first | rfl | assumption) ?_ | refine awp_condF rfl (by first | rfl | assumption) ?_ | ((fail_if_success refine ARun.plain rfl ?_); first | refine ARun.knowT rfl rfl rfl (by first | rfl | assumption) ?_ | refine ARun.knowF rfl rfl rfl (by first | rfl | assumption) ?_ | refine ARun.fork rfl rfl rfl (fun h => ?_) (fun h => ?_)) | refine awp_cond rfl (fun h => ?_) (fun h => ?_)))
  refine awp_ret ⟨_, ResL.cons (ResA.tmp .nilSl) .nil, rfl⟩
theorem left_nSWAP (a b depth : Int) : FnC Try.prog 23 [.val (.string nSWAP), encS [a, b], .val (.int .i64 depth)] (encS [b, a]) := by
  have f0 : (nSWAP.toList == (ByteArray.mk #[68, 85, 80]).toList) = false := by kernel_rfl
  have f1 : (nSWAP.toList == (ByteArray.mk #[83, 87, 65, 80]).toList) = true := by kernel_rfl
  refine FnC.of_awp (T := tt) (ok := tok) Try.func23 (by kernel_rfl) rfl (by kernel_rfl) (closedL_cons (.val _) (closedL_cons (closed_s _) (closedL_cons (.val _) closedL_nil))) (fun w0 st0 => ?_)
  dsimp only [frOf]
  (repeat' (first | refine awp_seq ?_ | refine awp_block ?_ | refine awp_region (fun _ => hmix) ?_ | refine ARun.op rfl (by first | exact True.intro | exact rfl | (unfold inR; omega) | omega | (unfold inR; simp only [List.length_map, List.length_append, List.length_take, List.length_drop, List.length_cons, List.length_nil] at *; omega)) ?_ | refine ARun.indexAddr rfl rfl (by (try dsimp only [maxLen]); (try simp only [List.length_append, List.length_map, List.length_take, List.length_drop, List.length_replicate, List.length_cons, List.length_nil, maxLen] at *); (try simp only [List.length_append, List.length_map, List.length_take, List.length_drop, List.length_replicate, List.length_cons, List.length_nil, maxLen]); omega) (by first | assumption | rfl) rfl rfl rfl rfl rfl (guardF_spec rfl) ?_ | (refine ARun.fin (by first | (intro h; cases h; done) | (intro _; kernel_rfl)) ?_; dsimp only [thenA, blockA, AS.bump, List.length_cons, List.length_nil, reduceIte, Nat.reduceEqDiff]) | (refine awp_skip ?_; dsimp only [thenA, blockA, AS.bump, List.length_cons, List.length_nil, reduceIte, Nat.reduceEqDiff]) | (refine awp_exit ?_; dsimp only [thenA, blockA, AS.bump, List.length_cons, List.length_nil, reduceIte, Nat.reduceEqDiff]) | refine awp_condT rfl (by first | rfl | assumption) ?_ | refine awp_condF rfl (by first | rfl | assumption) ?_ | ((fail_if_success refine ARun.plain rfl ?_); first | refine ARun.knowT rfl rfl rfl (by first | rfl | assumption) ?_ | refine ARun.knowF rfl rfl rfl (by first | rfl | assumption) ?_ | refine ARun.fork rfl rfl rfl (fun h => ?_) (fun h => ?_)) | refine awp_cond rfl (fun h => ?_) (fun h => ?_)))
  refine awp_ret ⟨_, ResL.cons (ResA.tmp (Reif.weak (els := [b, a].map encI) (closed_map encI_closed))) .nil, rfl⟩
theorem left_nOVER (a b depth : Int) : FnC Try.prog 23 [.val (.string nOVER), encS [a, b], .val (.int .i64 depth)] (encS [a, b, a]) := by
  have f0 : (nOVER.toList == (ByteArray.mk #[68, 85, 80]).toList) = false := by kernel_rfl
  have f1 : (nOVER.toList == (ByteArray.mk #[83, 87, 65, 80]).toList) = false := by kernel_rfl
  have f2 : (nOVER.toList == (ByteArray.mk #[79, 86, 69, 82]).toList) = true := by kernel_rfl
  refine FnC.of_awp (T := tt) (ok := tok) Try.func23 (by kernel_rfl) rfl (by kernel_rfl) (closedL_cons (.val _) (closedL_cons (closed_s _) (closedL_cons (.val _) closedL_nil))) (fun w0 st0 => ?_)
  dsimp only [frOf]
  (repeat' (first | refine awp_seq ?_ | refine awp_block ?_ | refine awp_region (fun _ => hmix) ?_ | refine ARun.op rfl (by first | exact True.intro | exact rfl | (unfold inR; omega) | omega | (unfold inR; simp only [List.length_map, List.length_append, List.length_take, List.length_drop, List.length_cons, List.length_nil] at *; omega)) ?_ | refine ARun.indexAddr rfl rfl (by (try dsimp only [maxLen]); (try simp only [List.length_append, List.length_map, List.length_take, List.length_drop, List.length_replicate, List.length_cons, List.length_nil, maxLen] at *); (try simp only [List.length_append, List.length_map, List.length_take, List.length_drop, List.length_replicate, List.length_cons, List.length_nil, maxLen]); omega) (by first | assumption | rfl) rfl rfl rfl rfl rfl (guardF_spec rfl) ?_ | (refine ARun.fin (by first | (intro h; cases h; done) | (intro _; kernel_rfl)) ?_; dsimp only [thenA, blockA, AS.bump, List.length_cons, List.length_nil, reduceIte, Nat.reduceEqDiff]) | (refine awp_skip ?_; dsimp only [thenA, blockA, AS.bump, List.length_cons, List.length_nil, reduceIte, Nat.reduceEqDiff]) | (refine awp_exit ?_; dsimp only [thenA, blockA, AS.bump, List.length_cons, List.length_nil, reduceIte, Nat.reduceEqDiff]) | refine awp_condT rfl (by first | rfl | assumption) ?_ | refine awp_condF rfl (by first | rfl | assumption) ?_ | ((fail_if_success refine ARun.plain rfl ?_); first | refine ARun.knowT rfl rfl rfl (by first | rfl | assumption) ?_ | refine ARun.knowF rfl rfl rfl (by first | rfl | assumption) ?_ | refine ARun.fork rfl rfl rfl (fun h => ?_) (fun h => ?_)) | refine awp_cond rfl (fun h => ?_) (fun h => ?_)))
  refine awp_ret ⟨_, ResL.cons (ResA.tmp (Reif.weak (els := [a, b, a].map encI) (closed_map encI_closed))) .nil, rfl⟩
theorem left_nNIP (a b depth : Int) : FnC Try.prog 23 [.val (.string nNIP), encS [a, b], .val (.int .i64 depth)] (encS [b]) := by
  have f0 : (nNIP.toList == (ByteArray.mk #[68, 85, 80]).toList) = false := by kernel_rfl
  have f1 : (nNIP.toList == (ByteArray.mk #[83, 87, 65, 80]).toList) = false := by kernel_rfl
  have f2 : (nNIP.toList == (ByteArray.mk #[79, 86, 69, 82]).toList) = false := by kernel_rfl
  have f3 : (nNIP.toList == (ByteArray.mk #[78, 73, 80]).toList) = true := by kernel_rfl
  refine FnC.of_awp (T := tt) (ok := tok) Try.func23 (by kernel_rfl) rfl (by kernel_rfl) (closedL_cons (.val _) (closedL_cons (closed_s _) (closedL_cons (.val _) closedL_nil))) (fun w0 st0 => ?_)
  dsimp only [frOf]
  (repeat' (first | refine awp_seq ?_ | refine awp_block ?_ | refine awp_region (fun _ => hmix) ?_ | refine ARun.op rfl (by first | exact True.intro | exact rfl | (unfold inR; omega) | omega | (unfold inR; simp only [List.length_map, List.length_append, List.length_take, List.length_drop, List.length_cons, List.length_nil] at *; omega)) ?_ | refine ARun.indexAddr rfl rfl (by (try dsimp only [maxLen]); (try simp only [List.length_append, List.length_map, List.length_take, List.length_drop, List.length_replicate, List.length_cons, List.length_nil, maxLen] at *); (try simp only [List.length_append, List.length_map, List.length_take, List.length_drop, List.length_replicate, List.length_cons, List.length_nil, maxLen]); omega) (by first | assumption | rfl) rfl rfl rfl rfl rfl (guardF_spec rfl) ?_ | (refine ARun.fin (by first | (intro h; cases h; done) | (intro _; kernel_rfl)) ?_; dsimp only [thenA, blockA, AS.bump, List.length_cons, List.length_nil, reduceIte, Nat.reduceEqDiff]) | (refine awp_skip ?_; dsimp only [thenA, blockA, AS.bump, List.length_cons, List.length_nil, reduceIte, Nat.reduceEqDiff]) | (refine awp_exit ?_; dsimp only [thenA, blockA, AS.bump, List.length_cons, List.length_nil, reduceIte, Nat.reduceEqDiff]) | refine awp_condT rfl (by first | rfl | assumption) ?_ | refine awp_condF rfl (by first | rfl | assumption) ?_ | ((fail_if_success refine ARun.plain rfl ?_); first | refine ARun.knowT rfl rfl rfl (by first | rfl | assumption) ?_ | refine ARun.knowF rfl rfl rfl (by first | rfl | assumption) ?_ | refine ARun.fork rfl rfl rfl (fun h => ?_) (fun h => ?_)) | refine awp_cond rfl (fun h => ?_) (fun h => ?_)))
  refine awp_ret ⟨_, ResL.cons (ResA.tmp (Reif.weak (els := [b].map encI) (closed_map encI_closed))) .nil, rfl⟩
theorem left_nTUCK (a b depth : Int) : FnC Try.prog 23 [.val (.string nTUCK), encS [a, b], .val (.int .i64 depth)] (encS [b, a, b]) := by
  have f0 : (nTUCK.toList == (ByteArray.mk #[68, 85, 80]).toList) = false := by kernel_rfl
  have f1 : (nTUCK.toList == (ByteArray.mk #[83, 87, 65, 80]).toList) = false := by kernel_rfl
  have f2 : (nTUCK.toList == (ByteArray.mk #[79, 86, 69, 82]).toList) = false := by kernel_rfl
  have f3 : (nTUCK.toList == (ByteArray.mk #[78, 73, 80]).toList) = false := by kernel_rfl
  have f4 : (nTUCK.toList == (ByteArray.mk #[84, 85, 67, 75]).toList) = true := by kernel_rfl
  refine FnC.of_awp (T := tt) (ok := tok) Try.func23 (by kernel_rfl) rfl (by kernel_rfl) (closedL_cons (.val _) (closedL_cons (closed_s _) (closedL_cons (.val _) closedL_nil))) (fun w0 st0 => ?_)
  dsimp only [frOf]
  (repeat' (first | refine awp_seq ?_ | refine awp_block ?_ | refine awp_region (fun _ => hmix) ?_ | refine ARun.op rfl (by first | exact True.intro | exact rfl | (unfold inR; omega) | omega | (unfold inR; simp only [List.length_map, List.length_append, List.length_take, List.length_drop, List.length_cons, List.length_nil] at *; omega)) ?_ | refine ARun.indexAddr rfl rfl (by (try dsimp only [maxLen]); (try simp only [List.length_append, List.length_map, List.length_take, List.length_drop, List.length_replicate, List.length_cons, List.length_nil, maxLen] at *); (try simp only [List.length_append, List.length_map, List.length_take, List.length_drop, List.length_replicate, List.length_cons, List.length_nil, maxLen]); omega) (by first | assumption | rfl) rfl rfl rfl rfl rfl (guardF_spec rfl) ?_ | (refine ARun.fin (by first | (intro h; cases h; done) | (intro _; kernel_rfl)) ?_; dsimp only [thenA, blockA, AS.bump, List.length_cons, List.length_nil, reduceIte, Nat.reduceEqDiff]) | (refine awp_skip ?_; dsimp only [thenA, blockA, AS.bump, List.length_cons, List.length_nil, reduceIte, Nat.reduceEqDiff]) | (refine awp_exit ?_; dsimp only [thenA, blockA, AS.bump, List.length_cons, List.length_nil, reduceIte, Nat.reduceEqDiff]) | refine awp_condT rfl (by first | rfl | assumption) ?_ | refine awp_condF rfl (by first | rfl | assumption) ?_ | ((fail_if_success refine ARun.plain rfl ?_); first | refine ARun.knowT rfl rfl rfl (by first | rfl | assumption) ?_ | refine ARun.knowF rfl rfl rfl (by first | rfl | assumption) ?_ | refine ARun.fork rfl rfl rfl (fun h => ?_) (fun h => ?_)) | refine awp_cond rfl (fun h => ?_) (fun h => ?_)))
  refine awp_ret ⟨_, ResL.cons (ResA.tmp (Reif.weak (els := [b, a, b].map encI) (closed_map encI_closed))) .nil, rfl⟩
theorem left_nROT (a b c depth : Int) : FnC Try.prog 23 [.val (.string nROT), encS [a, b, c], .val (.int .i64 depth)] (encS [b, c, a]) := by
  have f0 : (nROT.toList == (ByteArray.mk #[68, 85, 80]).toList) = false := by kernel_rfl
  have f1 : (nROT.toList == (ByteArray.mk #[83, 87, 65, 80]).toList) = false := by kernel_rfl
  have f2 : (nROT.toList == (ByteArray.mk #[79, 86, 69, 82]).toList) = false := by kernel_rfl
  have f3 : (nROT.toList == (ByteArray.mk #[78, 73, 80]).toList) = false := by kernel_rfl
  have f4 : (nROT.toList == (ByteArray.mk #[84, 85, 67, 75]).toList) = false := by kernel_rfl
  have f5 : (nROT.toList == (ByteArray.mk #[82, 79, 84]).toList) = true := by kernel_rfl
  refine FnC.of_awp (T := tt) (ok := tok) Try.func23 (by kernel_rfl) rfl (by kernel_rfl) (closedL_cons (.val _) (closedL_cons (closed_s _) (closedL_cons (.val _) closedL_nil))) (fun w0 st0 => ?_)
  dsimp only [frOf]
  (repeat' (first | refine awp_seq ?_ | refine awp_block ?_ | refine awp_region (fun _ => hmix) ?_ | refine ARun.op rfl (by first | exact True.intro | exact rfl | (unfold inR; omega) | omega | (unfold inR; simp only [List.length_map, List.length_append, List.length_take, List.length_drop, List.length_cons, List.length_nil] at *; omega)) ?_ | refine ARun.indexAddr rfl rfl (by (try dsimp only [maxLen]); (try simp only [List.length_append, List.length_map, List.length_take, List.length_drop, List.length_replicate, List.length_cons, List.length_nil, maxLen] at *); (try simp only [List.length_append, List.length_map, List.length_take, List.length_drop, List.length_replicate, List.length_cons, List.length_nil, maxLen]); omega) (by first | assumption | rfl) rfl rfl rfl rfl rfl (guardF_spec rfl) ?_ | (refine ARun.fin (by first | (intro h; cases h; done) | (intro _; kernel_rfl)) ?_; dsimp only [thenA, blockA, AS.bump, List.length_cons, List.length_nil, reduceIte, Nat.reduceEqDiff]) | (refine awp_skip ?_; dsimp only [thenA, blockA, AS.bump, List.length_cons, List.length_nil, reduceIte, Nat.reduceEqDiff]) | (refine awp_exit ?_; dsimp only [thenA, blockA, AS.bump, List.length_cons, List.length_nil, reduceIte, Nat.reduceEqDiff]) | refine awp_condT rfl (by first | rfl | assumption) ?_ | refine awp_condF rfl (by first | rfl | assumption) ?_ | ((fail_if_success refine ARun.plain rfl ?_); first | refine ARun.knowT rfl rfl rfl (by first | rfl | assumption) ?_ | refine ARun.knowF rfl rfl rfl (by first | rfl | assumption) ?_ | refine ARun.fork rfl rfl rfl (fun h => ?_) (fun h => ?_)) | refine awp_cond rfl (fun h => ?_) (fun h => ?_)))
  refine awp_ret ⟨_, ResL.cons (ResA.tmp (Reif.weak (els := [b, c, a].map encI) (closed_map encI_closed))) .nil, rfl⟩
theorem left_nROTR (a b c depth : Int) : FnC Try.prog 23 [.val (.string nROTR), encS [a, b, c], .val (.int .i64 depth)] (encS [c, a, b]) := by
  have f0 : (nROTR.toList == (ByteArray.mk #[68, 85, 80]).toList) = false := by kernel_rfl
  have f1 : (nROTR.toList == (ByteArray.mk #[83, 87, 65, 80]).toList) = false := by kernel_rfl
  have f2 : (nROTR.toList == (ByteArray.mk #[79, 86, 69, 82]).toList) = false := by kernel_rfl
  have f3 : (nROTR.toList == (ByteArray.mk #[78, 73, 80]).toList) = false := by kernel_rfl
  have f4 : (nROTR.toList == (ByteArray.mk #[84, 85, 67, 75]).toList) = false := by kernel_rfl
  have f5 : (nROTR.toList == (ByteArray.mk #[82, 79, 84]).toList) = false := by kernel_rfl
  have f6 : (nROTR.toList == (ByteArray.mk #[45, 82, 79, 84]).toList) = true := by kernel_rfl
  refine FnC.of_awp (T := tt) (ok := tok) Try.func23 (by kernel_rfl) rfl (by kernel_rfl) (closedL_cons (.val _) (closedL_cons (closed_s _) (closedL_cons (.val _) closedL_nil))) (fun w0 st0 => ?_)
  dsimp only [frOf]
  (repeat' (first | refine awp_seq ?_ | refine awp_block ?_ | refine awp_region (fun _ => hmix) ?_ | refine ARun.op rfl (by first | exact True.intro | exact rfl | (unfold inR; omega) | omega | (unfold inR; simp only [List.length_map, List.length_append, List.length_take, List.length_drop, List.length_cons, List.length_nil] at *; omega)) ?_ | refine ARun.indexAddr rfl rfl (by (try dsimp only [maxLen]); (try simp only [List.length_append, List.length_map, List.length_take, List.length_drop, List.length_replicate, List.length_cons, List.length_nil, maxLen] at *); (try simp only [List.length_append, List.length_map, List.length_take, List.length_drop, List.length_replicate, List.length_cons, List.length_nil, maxLen]); omega) (by first | assumption | rfl) rfl rfl rfl rfl rfl (guardF_spec rfl) ?_ | (refine ARun.fin (by first | (intro h; cases h; done) | (intro _; kernel_rfl)) ?_; dsimp only [thenA, blockA, AS.bump, List.length_cons, List.length_nil, reduceIte, Nat.reduceEqDiff]) | (refine awp_skip ?_; dsimp only [thenA, blockA, AS.bump, List.length_cons, List.length_nil, reduceIte, Nat.reduceEqDiff]) | (refine awp_exit ?_; dsimp only [thenA, blockA, AS.bump, List.length_cons, List.length_nil, reduceIte, Nat.reduceEqDiff]) | refine awp_condT rfl (by first | rfl | assumption) ?_ | refine awp_condF rfl (by first | rfl | assumption) ?_ | ((fail_if_success refine ARun.plain rfl ?_); first | refine ARun.knowT rfl rfl rfl (by first | rfl | assumption) ?_ | refine ARun.knowF rfl rfl rfl (by first | rfl | assumption) ?_ | refine ARun.fork rfl rfl rfl (fun h => ?_) (fun h => ?_)) | refine awp_cond rfl (fun h => ?_) (fun h => ?_)))
  refine awp_ret ⟨_, ResL.cons (ResA.tmp (Reif.weak (els := [c, a, b].map encI) (closed_map encI_closed))) .nil, rfl⟩
theorem left_nDUP2 (a b depth : Int) : FnC Try.prog 23 [.val (.string nDUP2), encS [a, b], .val (.int .i64 depth)] (encS [a, b, a, b]) := by
  have f0 : (nDUP2.toList == (ByteArray.mk #[68, 85, 80]).toList) = false := by kernel_rfl
  have f1 : (nDUP2.toList == (ByteArray.mk #[83, 87, 65, 80]).toList) = false := by kernel_rfl
  have f2 : (nDUP2.toList == (ByteArray.mk #[79, 86, 69, 82]).toList) = false := by kernel_rfl
  have f3 : (nDUP2.toList == (ByteArray.mk #[78, 73, 80]).toList) = false := by kernel_rfl
  have f4 : (nDUP2.toList == (ByteArray.mk #[84, 85, 67, 75]).toList) = false := by kernel_rfl
  have f5 : (nDUP2.toList == (ByteArray.mk #[82, 79, 84]).toList) = false := by kernel_rfl
  have f6 : (nDUP2.toList == (ByteArray.mk #[45, 82, 79, 84]).toList) = false := by kernel_rfl
  have f7 : (nDUP2.toList == (ByteArray.mk #[50, 68, 85, 80]).toList) = true := by kernel_rfl
  refine FnC.of_awp (T := tt) (ok := tok) Try.func23 (by kernel_rfl) rfl (by kernel_rfl) (closedL_cons (.val _) (closedL_cons (closed_s _) (closedL_cons (.val _) closedL_nil))) (fun w0 st0 => ?_)
  dsimp only [frOf]
  (repeat' (first | refine awp_seq ?_ | refine awp_block ?_ | refine awp_region (fun _ => hmix) ?_ | refine ARun.op rfl (by first | exact True.intro | exact rfl | (unfold inR; omega) | omega | (unfold inR; simp only [List.length_map, List.length_append, List.length_take, List.length_drop, List.length_cons, List.length_nil] at *; omega)) ?_ | refine ARun.indexAddr rfl rfl (by (try dsimp only [maxLen]); (try simp only [List.length_append, List.length_map, List.length_take, List.length_drop, List.length_replicate, List.length_cons, List.length_nil, maxLen] at *); (try simp only [List.length_append, List.length_map, List.length_take, List.length_drop, List.length_replicate, List.length_cons, List.length_nil, maxLen]); omega) (by first | assumption | rfl) rfl rfl rfl rfl rfl (guardF_spec rfl) ?_ | (refine ARun.fin (by first | (intro h; cases h; done) | (intro _; kernel_rfl)) ?_; dsimp only [thenA, blockA, AS.bump, List.length_cons, List.length_nil, reduceIte, Nat.reduceEqDiff]) | (refine awp_skip ?_; dsimp only [thenA, blockA, AS.bump, List.length_cons, List.length_nil, reduceIte, Nat.reduceEqDiff]) | (refine awp_exit ?_; dsimp only [thenA, blockA, AS.bump, List.length_cons, List.length_nil, reduceIte, Nat.reduceEqDiff]) | refine awp_condT rfl (by first | rfl | assumption) ?_ | refine awp_condF rfl (by first | rfl | assumption) ?_ | ((fail_if_success refine ARun.plain rfl ?_); first | refine ARun.knowT rfl rfl rfl (by first | rfl | assumption) ?_ | refine ARun.knowF rfl rfl rfl (by first | rfl | assumption) ?_ | refine ARun.fork rfl rfl rfl (fun h => ?_) (fun h => ?_)) | refine awp_cond rfl (fun h => ?_) (fun h => ?_)))
  refine awp_ret ⟨_, ResL.cons (ResA.tmp (Reif.weak (els := [a, b, a, b].map encI) (closed_map encI_closed))) .nil, rfl⟩
theorem left_nDROP2 (a b depth : Int) : FnC Try.prog 23 [.val (.string nDROP2), encS [a, b], .val (.int .i64 depth)] (encS []) := by
  have f0 : (nDROP2.toList == (ByteArray.mk #[68, 85, 80]).toList) = false := by kernel_rfl
  have f1 : (nDROP2.toList == (ByteArray.mk #[83, 87, 65, 80]).toList) = false := by kernel_rfl
  have f2 : (nDROP2.toList == (ByteArray.mk #[79, 86, 69, 82]).toList) = false := by kernel_rfl
  have f3 : (nDROP2.toList == (ByteArray.mk #[78, 73, 80]).toList) = false := by kernel_rfl
  have f4 : (nDROP2.toList == (ByteArray.mk #[84, 85, 67, 75]).toList) = false := by kernel_rfl
  have f5 : (nDROP2.toList == (ByteArray.mk #[82, 79, 84]).toList) = false := by kernel_rfl
  have f6 : (nDROP2.toList == (ByteArray.mk #[45, 82, 79, 84]).toList) = false := by kernel_rfl
  have f7 : (nDROP2.toList == (ByteArray.mk #[50, 68, 85, 80]).toList) = false := by kernel_rfl
  have f8 : (nDROP2.toList == (ByteArray.mk #[50, 83, 87, 65, 80]).toList) = false := by kernel_rfl
  have f9 : (nDROP2.toList == (ByteArray.mk #[50, 79, 86, 69, 82]).toList) = false := by kernel_rfl
  have f10 : (nDROP2.toList == (ByteArray.mk #[63, 68, 85, 80]).toList) = false := by kernel_rfl
  have f11 : (nDROP2.toList == (ByteArray.mk #[68, 69, 80, 84, 72]).toList) = false := by kernel_rfl
  have f12 : (nDROP2.toList == (ByteArray.mk #[80, 73, 67, 75]).toList) = false := by kernel_rfl
  have f13 : (nDROP2.toList == (ByteArray.mk #[82, 79, 76, 76]).toList) = false := by kernel_rfl
  refine FnC.of_awp (T := tt) (ok := tok) Try.func23 (by kernel_rfl) rfl (by kernel_rfl) (closedL_cons (.val _) (closedL_cons (closed_s _) (closedL_cons (.val _) closedL_nil))) (fun w0 st0 => ?_)
  dsimp only [frOf]
  (repeat' (first | refine awp_seq ?_ | refine awp_block ?_ | refine awp_region (fun _ => hmix) ?_ | refine ARun.op rfl (by first | exact True.intro | exact rfl | (unfold inR; omega) | omega | (unfold inR; simp only [List.length_map, List.length_append, List.length_take, List.length_drop, List.length_cons, List.length_nil] at *; omega)) ?_ | refine ARun.indexAddr rfl rfl (by (try dsimp only [maxLen]); (try simp only [List.length_append, List.length_map, List.length_take, List.length_drop, List.length_replicate, List.length_cons, List.length_nil, maxLen] at *); (try simp only [List.length_append, List.length_map, List.length_take, List.length_drop, List.length_replicate, List.length_cons, List.length_nil, maxLen]); omega) (by first | assumption | rfl) rfl rfl rfl rfl rfl (guardF_spec rfl) ?_ | (refine ARun.fin (by first | (intro h; cases h; done) | (intro _; kernel_rfl)) ?_; dsimp only [thenA, blockA, AS.bump, List.length_cons, List.length_nil, reduceIte, Nat.reduceEqDiff]) | (refine awp_skip ?_; dsimp only [thenA, blockA, AS.bump, List.length_cons, List.length_nil, reduceIte, Nat.reduceEqDiff]) | (refine awp_exit ?_; dsimp only [thenA, blockA, AS.bump, List.length_cons, List.length_nil, reduceIte, Nat.reduceEqDiff]) | refine awp_condT rfl (by first | rfl | assumption) ?_ | refine awp_condF rfl (by first | rfl | assumption) ?_ | ((fail_if_success refine ARun.plain rfl ?_); first | refine ARun.knowT rfl rfl rfl (by first | rfl | assumption) ?_ | refine ARun.knowF rfl rfl rfl (by first | rfl | assumption) ?_ | refine ARun.fork rfl rfl rfl (fun h => ?_) (fun h => ?_)) | refine awp_cond rfl (fun h => ?_) (fun h => ?_)))
  refine awp_ret ⟨_, ResL.cons (ResA.tmp .nilSl) .nil, rfl⟩
theorem left_nSWAP2 (a b c d depth : Int) : FnC Try.prog 23 [.val (.string nSWAP2), encS [a, b, c, d], .val (.int .i64 depth)] (encS [c, d, a, b]) := by
  have f0 : (nSWAP2.toList == (ByteArray.mk #[68, 85, 80]).toList) = false := by kernel_rfl
  have f1 : (nSWAP2.toList == (ByteArray.mk #[83, 87, 65, 80]).toList) = false := by kernel_rfl
  have f2 : (nSWAP2.toList == (ByteArray.mk #[79, 86, 69, 82]).toList) = false := by kernel_rfl
  have f3 : (nSWAP2.toList == (ByteArray.mk #[78, 73, 80]).toList) = false := by kernel_rfl
  have f4 : (nSWAP2.toList == (ByteArray.mk #[84, 85, 67, 75]).toList) = false := by kernel_rfl
  have f5 : (nSWAP2.toList == (ByteArray.mk #[82, 79, 84]).toList) = false := by kernel_rfl
  have f6 : (nSWAP2.toList == (ByteArray.mk #[45, 82, 79, 84]).toList) = false := by kernel_rfl
  have f7 : (nSWAP2.toList == (ByteArray.mk #[50, 68, 85, 80]).toList) = false := by kernel_rfl
  have f8 : (nSWAP2.toList == (ByteArray.mk #[50, 83, 87, 65, 80]).toList) = true := by kernel_rfl
  refine FnC.of_awp (T := tt) (ok := tok) Try.func23 (by kernel_rfl) rfl (by kernel_rfl) (closedL_cons (.val _) (closedL_cons (closed_s _) (closedL_cons (.val _) closedL_nil))) (fun w0 st0 => ?_)
  dsimp only [frOf]
  (repeat' (first | refine awp_seq ?_ | refine awp_block ?_ | refine awp_region (fun _ => hmix) ?_ | refine ARun.op rfl (by first | exact True.intro | exact rfl | (unfold inR; omega) | omega | (unfold inR; simp only [List.length_map, List.length_append, List.length_take, List.length_drop, List.length_cons, List.length_nil] at *; omega)) ?_ | refine ARun.indexAddr rfl rfl (by (try dsimp only [maxLen]); (try simp only [List.length_append, List.length_map, List.length_take, List.length_drop, List.length_replicate, List.length_cons, List.length_nil, maxLen] at *); (try simp only [List.length_append, List.length_map, List.length_take, List.length_drop, List.length_replicate, List.length_cons, List.length_nil, maxLen]); omega) (by first | assumption | rfl) rfl rfl rfl rfl rfl (guardF_spec rfl) ?_ | (refine ARun.fin (by first | (intro h; cases h; done) | (intro _; kernel_rfl)) ?_; dsimp only [thenA, blockA, AS.bump, List.length_cons, List.length_nil, reduceIte, Nat.reduceEqDiff]) | (refine awp_skip ?_; dsimp only [thenA, blockA, AS.bump, List.length_cons, List.length_nil, reduceIte, Nat.reduceEqDiff]) | (refine awp_exit ?_; dsimp only [thenA, blockA, AS.bump, List.length_cons, List.length_nil, reduceIte, Nat.reduceEqDiff]) | refine awp_condT rfl (by first | rfl | assumption) ?_ | refine awp_condF rfl (by first | rfl | assumption) ?_ | ((fail_if_success refine ARun.plain rfl ?_); first | refine ARun.knowT rfl rfl rfl (by first | rfl | assumption) ?_ | refine ARun.knowF rfl rfl rfl (by first | rfl | assumption) ?_ | refine ARun.fork rfl rfl rfl (fun h => ?_) (fun h => ?_)) | refine awp_cond rfl (fun h => ?_) (fun h => ?_)))
  refine awp_ret ⟨_, ResL.cons (ResA.tmp (Reif.weak (els := [c, d, a, b].map encI) (closed_map encI_closed))) .nil, rfl⟩
theorem left_nOVER2 (a b c d depth : Int) : FnC Try.prog 23 [.val (.string nOVER2), encS [a, b, c, d], .val (.int .i64 depth)] (encS [a, b, c, d, a, b]) := by
  have f0 : (nOVER2.toList == (ByteArray.mk #[68, 85, 80]).toList) = false := by kernel_rfl
  have f1 : (nOVER2.toList == (ByteArray.mk #[83, 87, 65, 80]).toList) = false := by kernel_rfl
  have f2 : (nOVER2.toList == (ByteArray.mk #[79, 86, 69, 82]).toList) = false := by kernel_rfl
  have f3 : (nOVER2.toList == (ByteArray.mk #[78, 73, 80]).toList) = false := by kernel_rfl
  have f4 : (nOVER2.toList == (ByteArray.mk #[84, 85, 67, 75]).toList) = false := by kernel_rfl
  have f5 : (nOVER2.toList == (ByteArray.mk #[82, 79, 84]).toList) = false := by kernel_rfl
  have f6 : (nOVER2.toList == (ByteArray.mk #[45, 82, 79, 84]).toList) = false := by kernel_rfl
  have f7 : (nOVER2.toList == (ByteArray.mk #[50, 68, 85, 80]).toList) = false := by kernel_rfl
  have f8 : (nOVER2.toList == (ByteArray.mk #[50, 83, 87, 65, 80]).toList) = false := by kernel_rfl
  have f9 : (nOVER2.toList == (ByteArray.mk #[50, 79, 86, 69, 82]).toList) = true := by kernel_rfl
  refine FnC.of_awp (T := tt) (ok := tok) Try.func23 (by kernel_rfl) rfl (by kernel_rfl) (closedL_cons (.val _) (closedL_cons (closed_s _) (closedL_cons (.val _) closedL_nil))) (fun w0 st0 => ?_)
  dsimp only [frOf]
  (repeat' (first | refine awp_seq ?_ | refine awp_block ?_ | refine awp_region (fun _ => hmix) ?_ | refine ARun.op rfl (by first | exact True.intro | exact rfl | (unfold inR; omega) | omega | (unfold inR; simp only [List.length_map, List.length_append, List.length_take, List.length_drop, List.length_cons, List.length_nil] at *; omega)) ?_ | refine ARun.indexAddr rfl rfl (by (try dsimp only [maxLen]); (try simp only [List.length_append, List.length_map, List.length_take, List.length_drop, List.length_replicate, List.length_cons, List.length_nil, maxLen] at *); (try simp only [List.length_append, List.length_map, List.length_take, List.length_drop, List.length_replicate, List.length_cons, List.length_nil, maxLen]); omega) (by first | assumption | rfl) rfl rfl rfl rfl rfl (guardF_spec rfl) ?_ | (refine ARun.fin (by first | (intro h; cases h; done) | (intro _; kernel_rfl)) ?_; dsimp only [thenA, blockA, AS.bump, List.length_cons, List.length_nil, reduceIte, Nat.reduceEqDiff]) | (refine awp_skip ?_; dsimp only [thenA, blockA, AS.bump, List.length_cons, List.length_nil, reduceIte, Nat.reduceEqDiff]) | (refine awp_exit ?_; dsimp only [thenA, blockA, AS.bump, List.length_cons, List.length_nil, reduceIte, Nat.reduceEqDiff]) | refine awp_condT rfl (by first | rfl | assumption) ?_ | refine awp_condF rfl (by first | rfl | assumption) ?_ | ((fail_if_success refine ARun.plain rfl ?_); first | refine ARun.knowT rfl rfl rfl (by first | rfl | assumption) ?_ | refine ARun.knowF rfl rfl rfl (by first | rfl | assumption) ?_ | refine ARun.fork rfl rfl rfl (fun h => ?_) (fun h => ?_)) | refine awp_cond rfl (fun h => ?_) (fun h => ?_)))
  refine awp_ret ⟨_, ResL.cons (ResA.tmp (Reif.weak (els := [a, b, c, d, a, b].map encI) (closed_map encI_closed))) .nil, rfl⟩
theorem left_nQDUP1 (a depth : Int) (h : (a == 0) = true) : FnC Try.prog 23 [.val (.string nQDUP), encS [a], .val (.int .i64 depth)] (encS [a]) := by
  have f0 : (nQDUP.toList == (ByteArray.mk #[68, 85, 80]).toList) = false := by kernel_rfl
  have f1 : (nQDUP.toList == (ByteArray.mk #[83, 87, 65, 80]).toList) = false := by kernel_rfl
  have f2 : (nQDUP.toList == (ByteArray.mk #[79, 86, 69, 82]).toList) = false := by kernel_rfl
  have f3 : (nQDUP.toList == (ByteArray.mk #[78, 73, 80]).toList) = false := by kernel_rfl
  have f4 : (nQDUP.toList == (ByteArray.mk #[84, 85, 67, 75]).toList) = false := by kernel_rfl
  have f5 : (nQDUP.toList == (ByteArray.mk #[82, 79, 84]).toList) = false := by kernel_rfl
  have f6 : (nQDUP.toList == (ByteArray.mk #[45, 82, 79, 84]).toList) = false := by kernel_rfl
  have f7 : (nQDUP.toList == (ByteArray.mk #[50, 68, 85, 80]).toList) = false := by kernel_rfl
  have f8 : (nQDUP.toList == (ByteArray.mk #[50, 83, 87, 65, 80]).toList) = false := by kernel_rfl
  have f9 : (nQDUP.toList == (ByteArray.mk #[50, 79, 86, 69, 82]).toList) = false := by kernel_rfl
  have f10 : (nQDUP.toList == (ByteArray.mk #[63, 68, 85, 80]).toList) = true := by kernel_rfl
  refine FnC.of_awp (T := tt) (ok := tok) Try.func23 (by kernel_rfl) rfl (by kernel_rfl) (closedL_cons (.val _) (closedL_cons (closed_s _) (closedL_cons (.val _) closedL_nil))) (fun w0 st0 => ?_)
  dsimp only [frOf]
  (repeat' (first | refine awp_seq ?_ | refine awp_block ?_ | refine awp_region (fun _ => hmix) ?_ | refine ARun.op rfl (by first | exact True.intro | exact rfl | (unfold inR; omega) | omega | (unfold inR; simp only [List.length_map, List.length_append, List.length_take, List.length_drop, List.length_cons, List.length_nil] at *; omega)) ?_ | refine ARun.indexAddr rfl rfl (by (try dsimp only [maxLen]); (try simp only [List.length_append, List.length_map, List.length_take, List.length_drop, List.length_replicate, List.length_cons, List.length_nil, maxLen] at *); (try simp only [List.length_append, List.length_map, List.length_take, List.length_drop, List.length_replicate, List.length_cons, List.length_nil, maxLen]); omega) (by first | assumption | rfl) rfl rfl rfl rfl rfl (guardF_spec rfl) ?_ | (refine ARun.fin (by first | (intro h; cases h; done) | (intro _; kernel_rfl)) ?_; dsimp only [thenA, blockA, AS.bump, List.length_cons, List.length_nil, reduceIte, Nat.reduceEqDiff]) | (refine awp_skip ?_; dsimp only [thenA, blockA, AS.bump, List.length_cons, List.length_nil, reduceIte, Nat.reduceEqDiff]) | (refine awp_exit ?_; dsimp only [thenA, blockA, AS.bump, List.length_cons, List.length_nil, reduceIte, Nat.reduceEqDiff]) | refine awp_condT rfl (by first | rfl | assumption) ?_ | refine awp_condF rfl (by first | rfl | assumption) ?_ | ((fail_if_success refine ARun.plain rfl ?_); first | refine ARun.knowT rfl rfl rfl (by first | rfl | assumption) ?_ | refine ARun.knowF rfl rfl rfl (by first | rfl | assumption) ?_ | refine ARun.fork rfl rfl rfl (fun h => ?_) (fun h => ?_)) | refine awp_cond rfl (fun h => ?_) (fun h => ?_)))
  refine awp_ret ⟨_, ResL.cons (ResA.tmp (.closed _ (closed_map encI_closed))) .nil, rfl⟩
theorem left_nQDUP2 (a depth : Int) (h : (a == 0) = false) : FnC Try.prog 23 [.val (.string nQDUP), encS [a], .val (.int .i64 depth)] (encS [a, a]) := by
  have f0 : (nQDUP.toList == (ByteArray.mk #[68, 85, 80]).toList) = false := by kernel_rfl
  have f1 : (nQDUP.toList == (ByteArray.mk #[83, 87, 65, 80]).toList) = false := by kernel_rfl
  have f2 : (nQDUP.toList == (ByteArray.mk #[79, 86, 69, 82]).toList) = false := by kernel_rfl
  have f3 : (nQDUP.toList == (ByteArray.mk #[78, 73, 80]).toList) = false := by kernel_rfl
  have f4 : (nQDUP.toList == (ByteArray.mk #[84, 85, 67, 75]).toList) = false := by kernel_rfl
  have f5 : (nQDUP.toList == (ByteArray.mk #[82, 79, 84]).toList) = false := by kernel_rfl
  have f6 : (nQDUP.toList == (ByteArray.mk #[45, 82, 79, 84]).toList) = false := by kernel_rfl
  have f7 : (nQDUP.toList == (ByteArray.mk #[50, 68, 85, 80]).toList) = false := by kernel_rfl
  have f8 : (nQDUP.toList == (ByteArray.mk #[50, 83, 87, 65, 80]).toList) = false := by kernel_rfl
  have f9 : (nQDUP.toList == (ByteArray.mk #[50, 79, 86, 69, 82]).toList) = false := by kernel_rfl
  have f10 : (nQDUP.toList == (ByteArray.mk #[63, 68, 85, 80]).toList) = true := by kernel_rfl
  refine FnC.of_awp (T := tt) (ok := tok) Try.func23 (by kernel_rfl) rfl (by kernel_rfl) (closedL_cons (.val _) (closedL_cons (closed_s _) (closedL_cons (.val _) closedL_nil))) (fun w0 st0 => ?_)
  dsimp only [frOf]
  (repeat' (first | refine awp_seq ?_ | refine awp_block ?_ | refine awp_region (fun _ => hmix) ?_ | refine ARun.op rfl (by first | exact True.intro | exact rfl | (unfold inR; omega) | omega | (unfold inR; simp only [List.length_map, List.length_append, List.length_take, List.length_drop, List.length_cons, List.length_nil] at *; omega)) ?_ | refine ARun.indexAddr rfl rfl (by (try dsimp only [maxLen]); (try simp only [List.length_append, List.length_map, List.length_take, List.length_drop, List.length_replicate, List.length_cons, List.length_nil, maxLen] at *); (try simp only [List.length_append, List.length_map, List.length_take, List.length_drop, List.length_replicate, List.length_cons, List.length_nil, maxLen]); omega) (by first | assumption | rfl) rfl rfl rfl rfl rfl (guardF_spec rfl) ?_ | (refine ARun.fin (by first | (intro h; cases h; done) | (intro _; kernel_rfl)) ?_; dsimp only [thenA, blockA, AS.bump, List.length_cons, List.length_nil, reduceIte, Nat.reduceEqDiff]) | (refine awp_skip ?_; dsimp only [thenA, blockA, AS.bump, List.length_cons, List.length_nil, reduceIte, Nat.reduceEqDiff]) | (refine awp_exit ?_; dsimp only [thenA, blockA, AS.bump, List.length_cons, List.length_nil, reduceIte, Nat.reduceEqDiff]) | refine awp_condT rfl (by first | rfl | assumption) ?_ | refine awp_condF rfl (by first | rfl | assumption) ?_ | ((fail_if_success refine ARun.plain rfl ?_); first | refine ARun.knowT rfl rfl rfl (by first | rfl | assumption) ?_ | refine ARun.knowF rfl rfl rfl (by first | rfl | assumption) ?_ | refine ARun.fork rfl rfl rfl (fun h => ?_) (fun h => ?_)) | refine awp_cond rfl (fun h => ?_) (fun h => ?_)))
  refine awp_ret ⟨_, ResL.cons (ResA.tmp (Reif.weak (els := [a, a].map encI) (closed_map encI_closed))) .nil, rfl⟩
theorem left_nDEPTH (depth : Int) : FnC Try.prog 23 [.val (.string nDEPTH), encS [], .val (.int .i64 depth)] (encS [depth]) := by
  have f0 : (nDEPTH.toList == (ByteArray.mk #[68, 85, 80]).toList) = false := by kernel_rfl
  have f1 : (nDEPTH.toList == (ByteArray.mk #[83, 87, 65, 80]).toList) = false := by kernel_rfl
  have f2 : (nDEPTH.toList == (ByteArray.mk #[79, 86, 69, 82]).toList) = false := by kernel_rfl
  have f3 : (nDEPTH.toList == (ByteArray.mk #[78, 73, 80]).toList) = false := by kernel_rfl
  have f4 : (nDEPTH.toList == (ByteArray.mk #[84, 85, 67, 75]).toList) = false := by kernel_rfl
  have f5 : (nDEPTH.toList == (ByteArray.mk #[82, 79, 84]).toList) = false := by kernel_rfl
  have f6 : (nDEPTH.toList == (ByteArray.mk #[45, 82, 79, 84]).toList) = false := by kernel_rfl
  have f7 : (nDEPTH.toList == (ByteArray.mk #[50, 68, 85, 80]).toList) = false := by kernel_rfl
  have f8 : (nDEPTH.toList == (ByteArray.mk #[50, 83, 87, 65, 80]).toList) = false := by kernel_rfl
  have f9 : (nDEPTH.toList == (ByteArray.mk #[50, 79, 86, 69, 82]).toList) = false := by kernel_rfl
  have f10 : (nDEPTH.toList == (ByteArray.mk #[63, 68, 85, 80]).toList) = false := by kernel_rfl
  have f11 : (nDEPTH.toList == (ByteArray.mk #[68, 69, 80, 84, 72]).toList) = true := by kernel_rfl
  refine FnC.of_awp (T := tt) (ok := tok) Try.func23 (by kernel_rfl) rfl (by kernel_rfl) (closedL_cons (.val _) (closedL_cons (closed_s _) (closedL_cons (.val _) closedL_nil))) (fun w0 st0 => ?_)
  dsimp only [frOf]
  (repeat' (first | refine awp_seq ?_ | refine awp_block ?_ | refine awp_region (fun _ => hmix) ?_ | refine ARun.op rfl (by first | exact True.intro | exact rfl | (unfold inR; omega) | omega | (unfold inR; simp only [List.length_map, List.length_append, List.length_take, List.length_drop, List.length_cons, List.length_nil] at *; omega)) ?_ | refine ARun.indexAddr rfl rfl (by (try dsimp only [maxLen]); (try simp only [List.length_append, List.length_map, List.length_take, List.length_drop, List.length_replicate, List.length_cons, List.length_nil, maxLen] at *); (try simp only [List.length_append, List.length_map, List.length_take, List.length_drop, List.length_replicate, List.length_cons, List.length_nil, maxLen]); omega) (by first | assumption | rfl) rfl rfl rfl rfl rfl (guardF_spec rfl) ?_ | (refine ARun.fin (by first | (intro h; cases h; done) | (intro _; kernel_rfl)) ?_; dsimp only [thenA, blockA, AS.bump, List.length_cons, List.length_nil, reduceIte, Nat.reduceEqDiff]) | (refine awp_skip ?_; dsimp only [thenA, blockA, AS.bump, List.length_cons, List.length_nil, reduceIte, Nat.reduceEqDiff]) | (refine awp_exit ?_; dsimp only [thenA, blockA, AS.bump, List.length_cons, List.length_nil, reduceIte, Nat.reduceEqDiff]) | refine awp_condT rfl (by first | rfl | assumption) ?_ | refine awp_condF rfl (by first | rfl | assumption) ?_ | ((fail_if_success refine ARun.plain rfl ?_); first | refine ARun.knowT rfl rfl rfl (by first | rfl | assumption) ?_ | refine ARun.knowF rfl rfl rfl (by first | rfl | assumption) ?_ | refine ARun.fork rfl rfl rfl (fun h => ?_) (fun h => ?_)) | refine awp_cond rfl (fun h => ?_) (fun h => ?_)))
  refine awp_ret ⟨_, ResL.cons (ResA.tmp (Reif.weak (els := [depth].map encI) (closed_map encI_closed))) .nil, rfl⟩
theorem left_nPICK (y : Int) (b : List Int) (n depth : Int) (hl : b.length ≤ 90000) : FnC Try.prog 23 [.val (.string nPICK), encS ((y :: b) ++ [n]), .val (.int .i64 depth)] (encS ((y :: b) ++ [y])) := by
  have f0 : (nPICK.toList == (ByteArray.mk #[68, 85, 80]).toList) = false := by kernel_rfl
  have f1 : (nPICK.toList == (ByteArray.mk #[83, 87, 65, 80]).toList) = false := by kernel_rfl
  have f2 : (nPICK.toList == (ByteArray.mk #[79, 86, 69, 82]).toList) = false := by kernel_rfl
  have f3 : (nPICK.toList == (ByteArray.mk #[78, 73, 80]).toList) = false := by kernel_rfl
  have f4 : (nPICK.toList == (ByteArray.mk #[84, 85, 67, 75]).toList) = false := by kernel_rfl
  have f5 : (nPICK.toList == (ByteArray.mk #[82, 79, 84]).toList) = false := by kernel_rfl
  have f6 : (nPICK.toList == (ByteArray.mk #[45, 82, 79, 84]).toList) = false := by kernel_rfl
  have f7 : (nPICK.toList == (ByteArray.mk #[50, 68, 85, 80]).toList) = false := by kernel_rfl
  have f8 : (nPICK.toList == (ByteArray.mk #[50, 83, 87, 65, 80]).toList) = false := by kernel_rfl
  have f9 : (nPICK.toList == (ByteArray.mk #[50, 79, 86, 69, 82]).toList) = false := by kernel_rfl
  have f10 : (nPICK.toList == (ByteArray.mk #[63, 68, 85, 80]).toList) = false := by kernel_rfl
  have f11 : (nPICK.toList == (ByteArray.mk #[68, 69, 80, 84, 72]).toList) = false := by kernel_rfl
  have f12 : (nPICK.toList == (ByteArray.mk #[80, 73, 67, 75]).toList) = true := by kernel_rfl
  have hs : ((y :: b) ++ [n]).map encI = (y :: b).map encI ++ [encI n] := by simp
  have hi : (((y :: b) ++ [n]).map encI)[(0 : Int).toNat]? = some (encI y) := rfl
  refine FnC.of_awp (T := tt) (ok := tok) Try.func23 (by kernel_rfl) rfl (by kernel_rfl) (closedL_cons (.val _) (closedL_cons (closed_s _) (closedL_cons (.val _) closedL_nil))) (fun w0 st0 => ?_)
  dsimp only [frOf]
  (repeat' (first | refine awp_seq ?_ | refine awp_block ?_ | refine awp_region (fun _ => hmix) ?_ | refine ARun.op rfl (by first | exact True.intro | exact rfl | (unfold inR; omega) | omega | (unfold inR; simp only [List.length_map, List.length_append, List.length_take, List.length_drop, List.length_cons, List.length_nil] at *; omega)) ?_ | refine ARun.indexAddr rfl rfl (by (try dsimp only [maxLen]); (try simp only [List.length_append, List.length_map, List.length_take, List.length_drop, List.length_replicate, List.length_cons, List.length_nil, maxLen] at *); (try simp only [List.length_append, List.length_map, List.length_take, List.length_drop, List.length_replicate, List.length_cons, List.length_nil, maxLen]); omega) (by first | assumption | rfl) rfl rfl rfl rfl rfl (guardF_spec rfl) ?_ | refine ARun.sliceTo rfl (by first | assumption | rfl) rfl (by (try dsimp only [maxLen]); (try simp only [List.length_append, List.length_map, List.length_take, List.length_drop, List.length_replicate, List.length_cons, List.length_nil, maxLen] at *); (try simp only [List.length_append, List.length_map, List.length_take, List.length_drop, List.length_replicate, List.length_cons, List.length_nil, maxLen]); omega) rfl rfl rfl rfl rfl (guardF_spec rfl) ?_ | refine ARun.append_fullS rfl (by first | exact SrcA.sl rfl (.inr rfl) | exact SrcA.sl rfl (.inl rfl) | exact SrcA.ownW rfl rfl rfl rfl) rfl rfl rfl (by first | exact .inr rfl | exact .inl rfl | (right; simp; done)) (by first | exact .inr rfl | exact .inl rfl | (right; simp; done)) rfl rfl (by (try dsimp only [maxLen]); (try simp only [List.length_append, List.length_map, List.length_take, List.length_drop, List.length_replicate, List.length_cons, List.length_nil, maxLen] at *); (try simp only [List.length_append, List.length_map, List.length_take, List.length_drop, List.length_replicate, List.length_cons, List.length_nil, maxLen]); omega) (by (try dsimp only [maxLen]); (try simp only [List.length_append, List.length_map, List.length_take, List.length_drop, List.length_replicate, List.length_cons, List.length_nil, maxLen] at *); (try simp only [List.length_append, List.length_map, List.length_take, List.length_drop, List.length_replicate, List.length_cons, List.length_nil, maxLen]); omega) rfl (guardF_spec rfl) ?_ | refine ARun.append_ownS rfl rfl rfl rfl (by first | exact SrcA.sl rfl (.inr rfl) | exact SrcA.sl rfl (.inl rfl) | exact SrcA.ownW rfl rfl rfl rfl) rfl rfl rfl rfl rfl rfl (by (try dsimp only [maxLen]); (try simp only [List.length_append, List.length_map, List.length_take, List.length_drop, List.length_replicate, List.length_cons, List.length_nil, maxLen] at *); (try simp only [List.length_append, List.length_map, List.length_take, List.length_drop, List.length_replicate, List.length_cons, List.length_nil, maxLen]); omega) (by (try dsimp only [maxLen]); (try simp only [List.length_append, List.length_map, List.length_take, List.length_drop, List.length_replicate, List.length_cons, List.length_nil, maxLen] at *); (try simp only [List.length_append, List.length_map, List.length_take, List.length_drop, List.length_replicate, List.length_cons, List.length_nil, maxLen]); omega) rfl (guardF_spec rfl) ?_ | (refine ARun.fin (by first | (intro h; cases h; done) | (intro _; kernel_rfl)) ?_; dsimp only [thenA, blockA, AS.bump, List.length_cons, List.length_nil, reduceIte, Nat.reduceEqDiff]) | (refine awp_skip ?_; dsimp only [thenA, blockA, AS.bump, List.length_cons, List.length_nil, reduceIte, Nat.reduceEqDiff]) | (refine awp_exit ?_; dsimp only [thenA, blockA, AS.bump, List.length_cons, List.length_nil, reduceIte, Nat.reduceEqDiff]) | refine awp_condT rfl (by first | rfl | assumption) ?_ | refine awp_condF rfl (by first | rfl | assumption) ?_ | ((fail_if_success refine ARun.plain rfl ?_); first | refine ARun.knowT rfl rfl rfl (by first | rfl | assumption) ?_ | refine ARun.knowF rfl rfl rfl (by first | rfl | assumption) ?_ | refine ARun.fork rfl rfl rfl (fun h => ?_) (fun h => ?_)) | refine awp_cond rfl (fun h => ?_) (fun h => ?_)))
  refine awp_ret ⟨_, ResL.cons (ResA.tmp (.owned rfl rfl rfl (own_closed_app encI_closed (encI_closed y)))) .nil, ?_⟩
  simp [retAV, encS, lkA, encI]
theorem left_nROLL (y : Int) (b : List Int) (n depth : Int) (hl : b.length ≤ 90000) : FnC Try.prog 23 [.val (.string nROLL), encS ((y :: b) ++ [n]), .val (.int .i64 depth)] (encS (b ++ [y])) := by
  have f0 : (nROLL.toList == (ByteArray.mk #[68, 85, 80]).toList) = false := by kernel_rfl
  have f1 : (nROLL.toList == (ByteArray.mk #[83, 87, 65, 80]).toList) = false := by kernel_rfl
  have f2 : (nROLL.toList == (ByteArray.mk #[79, 86, 69, 82]).toList) = false := by kernel_rfl
  have f3 : (nROLL.toList == (ByteArray.mk #[78, 73, 80]).toList) = false := by kernel_rfl
  have f4 : (nROLL.toList == (ByteArray.mk #[84, 85, 67, 75]).toList) = false := by kernel_rfl
  have f5 : (nROLL.toList == (ByteArray.mk #[82, 79, 84]).toList) = false := by kernel_rfl
  have f6 : (nROLL.toList == (ByteArray.mk #[45, 82, 79, 84]).toList) = false := by kernel_rfl
  have f7 : (nROLL.toList == (ByteArray.mk #[50, 68, 85, 80]).toList) = false := by kernel_rfl
  have f8 : (nROLL.toList == (ByteArray.mk #[50, 83, 87, 65, 80]).toList) = false := by kernel_rfl
  have f9 : (nROLL.toList == (ByteArray.mk #[50, 79, 86, 69, 82]).toList) = false := by kernel_rfl
  have f10 : (nROLL.toList == (ByteArray.mk #[63, 68, 85, 80]).toList) = false := by kernel_rfl
  have f11 : (nROLL.toList == (ByteArray.mk #[68, 69, 80, 84, 72]).toList) = false := by kernel_rfl
  have f12 : (nROLL.toList == (ByteArray.mk #[80, 73, 67, 75]).toList) = false := by kernel_rfl
  have f13 : (nROLL.toList == (ByteArray.mk #[82, 79, 76, 76]).toList) = true := by kernel_rfl
  have hi : (((y :: b) ++ [n]).map encI)[(0 : Int).toNat]? = some (encI y) := rfl
  have hs : ((y :: b) ++ [n]).map encI = [encI y] ++ (b.map encI ++ [encI n]) := by simp
  refine FnC.of_awp (T := tt) (ok := tok) Try.func23 (by kernel_rfl) rfl (by kernel_rfl) (closedL_cons (.val _) (closedL_cons (closed_s _) (closedL_cons (.val _) closedL_nil))) (fun w0 st0 => ?_)
  dsimp only [frOf]
  (repeat' (first | refine awp_seq ?_ | refine awp_block ?_ | refine awp_region (fun _ => hmix) ?_ | refine ARun.op rfl (by first | exact True.intro | exact rfl | (unfold inR; omega) | omega | (unfold inR; simp only [List.length_map, List.length_append, List.length_take, List.length_drop, List.length_cons, List.length_nil] at *; omega)) ?_ | refine ARun.indexAddr rfl rfl (by (try dsimp only [maxLen]); (try simp only [List.length_append, List.length_map, List.length_take, List.length_drop, List.length_replicate, List.length_cons, List.length_nil, maxLen] at *); (try simp only [List.length_append, List.length_map, List.length_take, List.length_drop, List.length_replicate, List.length_cons, List.length_nil, maxLen]); omega) (by first | assumption | rfl) rfl rfl rfl rfl rfl (guardF_spec rfl) ?_ | refine ARun.sliceMid rfl (by first | assumption | rfl) rfl (by (try dsimp only [maxLen]); (try simp only [List.length_append, List.length_map, List.length_take, List.length_drop, List.length_replicate, List.length_cons, List.length_nil, maxLen] at *); (try simp only [List.length_append, List.length_map, List.length_take, List.length_drop, List.length_replicate, List.length_cons, List.length_nil, maxLen]); omega) rfl (by (try dsimp only [maxLen]); (try simp only [List.length_append, List.length_map, List.length_take, List.length_drop, List.length_replicate, List.length_cons, List.length_nil, maxLen] at *); (try simp only [List.length_append, List.length_map, List.length_take, List.length_drop, List.length_replicate, List.length_cons, List.length_nil, maxLen]); omega) rfl rfl rfl rfl rfl (guardF_spec rfl) ?_ | refine ARun.append_fullS rfl (by first | exact SrcA.sl rfl (.inr rfl) | exact SrcA.sl rfl (.inl rfl) | exact SrcA.ownW rfl rfl rfl rfl) rfl rfl rfl (by first | exact .inr rfl | exact .inl rfl | (right; simp; done)) (by first | exact .inr rfl | exact .inl rfl | (right; simp; done)) rfl rfl (by (try dsimp only [maxLen]); (try simp only [List.length_append, List.length_map, List.length_take, List.length_drop, List.length_replicate, List.length_cons, List.length_nil, maxLen] at *); (try simp only [List.length_append, List.length_map, List.length_take, List.length_drop, List.length_replicate, List.length_cons, List.length_nil, maxLen]); omega) (by (try dsimp only [maxLen]); (try simp only [List.length_append, List.length_map, List.length_take, List.length_drop, List.length_replicate, List.length_cons, List.length_nil, maxLen] at *); (try simp only [List.length_append, List.length_map, List.length_take, List.length_drop, List.length_replicate, List.length_cons, List.length_nil, maxLen]); omega) rfl (guardF_spec rfl) ?_ | refine ARun.append_ownS rfl rfl rfl rfl (by first | exact SrcA.sl rfl (.inr rfl) | exact SrcA.sl rfl (.inl rfl) | exact SrcA.ownW rfl rfl rfl rfl) rfl rfl rfl rfl rfl rfl (by (try dsimp only [maxLen]); (try simp only [List.length_append, List.length_map, List.length_take, List.length_drop, List.length_replicate, List.length_cons, List.length_nil, maxLen] at *); (try simp only [List.length_append, List.length_map, List.length_take, List.length_drop, List.length_replicate, List.length_cons, List.length_nil, maxLen]); omega) (by (try dsimp only [maxLen]); (try simp only [List.length_append, List.length_map, List.length_take, List.length_drop, List.length_replicate, List.length_cons, List.length_nil, maxLen] at *); (try simp only [List.length_append, List.length_map, List.length_take, List.length_drop, List.length_replicate, List.length_cons, List.length_nil, maxLen]); omega) rfl (guardF_spec rfl) ?_ | (refine ARun.fin (by first | (intro h; cases h; done) | (intro _; kernel_rfl)) ?_; dsimp only [thenA, blockA, AS.bump, List.length_cons, List.length_nil, reduceIte, Nat.reduceEqDiff]) | (refine awp_skip ?_; dsimp only [thenA, blockA, AS.bump, List.length_cons, List.length_nil, reduceIte, Nat.reduceEqDiff]) | (refine awp_exit ?_; dsimp only [thenA, blockA, AS.bump, List.length_cons, List.length_nil, reduceIte, Nat.reduceEqDiff]) | refine awp_condT rfl (by first | rfl | assumption) ?_ | refine awp_condF rfl (by first | rfl | assumption) ?_ | ((fail_if_success refine ARun.plain rfl ?_); first | refine ARun.knowT rfl rfl rfl (by first | rfl | assumption) ?_ | refine ARun.knowF rfl rfl rfl (by first | rfl | assumption) ?_ | refine ARun.fork rfl rfl rfl (fun h => ?_) (fun h => ?_)) | refine awp_cond rfl (fun h => ?_) (fun h => ?_)))
  refine awp_ret ⟨_, ResL.cons (ResA.tmp (.owned rfl rfl rfl (own_closed_app encI_closed (encI_closed y)))) .nil, ?_⟩
  simp [retAV, encS, lkA, encI]
end Go.Proofs.Ytpolenndeeaodac
