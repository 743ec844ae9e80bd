/- stk: StkRoom returns true. -/
import Derived.Test.YtpolenndeeaodacSg
namespace Go.Proofs.Ytpolenndeeaodac
set_option linter.unusedVariables false
set_option linter.unusedSimpArgs false
open Go Go.RowKit
set_option maxRecDepth 100000
attribute [local irreducible] Decidable.decide awp ARun regK toK

set_option maxHeartbeats 4000000 in
theorem room_c (s : List Int) (n k : Int) (hk : 0 ≤ k ∧ k ≤ 255) : FnC Try.prog 7 [encS s, .val (.int .i64 n), .val (.int .u8 k)] (.val (.bool true)) := by
  have c0 := shown_c
  by_cases hl : (60 : Int) < (((s.map encI).length : Nat) : Int)
  · have h1 : decide ((60 : Int) < (((s.map encI).length : Nat) : Int)) = true := by rw [decide_eq_true_eq]; exact hl
    refine FnC.of_awp (T := tt) (ok := tok) Try.func7 (by kernel_rfl) rfl (by kernel_rfl) (closedL_cons (closed_s s) (closedL_cons (.val _) (closedL_cons (.val _) closedL_nil))) (fun w0 st0 => ?_)
    dsimp only [frOf]
    (repeat' (first | refine awp_seq ?_ | refine awp_block ?_ | refine awp_region (fun _ => hmix) ?_ | refine ARun.op rfl (by first | exact True.intro | exact rfl | (unfold inR; omega) | omega | (unfold inR; simp only [List.length_map, List.length_append, List.length_take, List.length_drop, List.length_cons, List.length_nil] at *; omega)) ?_ | refine callX (c0) rfl rfl rfl rfl ?_ | (refine ARun.fin (by first | (intro h; cases h; done) | (intro _; kernel_rfl)) ?_; dsimp only [thenA, blockA, AS.bump, List.length_cons, List.length_nil, reduceIte, Nat.reduceEqDiff]) | (refine awp_skip ?_; dsimp only [thenA, blockA, AS.bump, List.length_cons, List.length_nil, reduceIte, Nat.reduceEqDiff]) | (refine awp_exit ?_; dsimp only [thenA, blockA, AS.bump, List.length_cons, List.length_nil, reduceIte, Nat.reduceEqDiff]) | refine awp_condT rfl (by first | rfl | assumption) ?_ | refine awp_condF rfl (by first | rfl | assumption) ?_ | ((fail_if_success refine ARun.plain rfl ?_); first | refine ARun.knowT rfl rfl rfl (by first | rfl | assumption) ?_ | refine ARun.knowF rfl rfl rfl (by first | rfl | assumption) ?_ | refine ARun.fork rfl rfl rfl (fun h => ?_) (fun h => ?_)) | refine awp_cond rfl (fun h => ?_) (fun h => ?_)))
    refine awp_ret ⟨_, ResL.cons (ResA.tmp (.val _)) .nil, rfl⟩
  have h1 : decide ((60 : Int) < (((s.map encI).length : Nat) : Int)) = false := by rw [decide_eq_false_iff_not]; exact hl
  rw [List.length_map] at hl
  have c1 := names_c
  have hnm : nms.length = 16 := rfl
  have hne : (((nms.map encStr).length : Nat) : Int) ≠ 0 := by rw [List.length_map, hnm]; decide
  obtain ⟨hi0, nm, hmem, hix⟩ := pick_name hk.1
  have p1 := push_c s n ((((s.map encI).length : Nat) : Int) + 1) (by omega)
  rw [pushD_ok (by simp; omega)] at p1
  have p2 := push_c s n (((s.map encI).length : Nat) : Int) (by omega)
  rw [pushD_over (by simp)] at p2
  have p3 := pop_c (s ++ [n]) (by simp; omega)
  rw [popD_snoc] at p3
  have sm : ∀ l : List Int, l.length ≤ 200 → FnC Try.prog 13 [encS l, encS l] (.val (.bool true)) := fun l hl => by
    have := same_c l l (by omega) (by omega)
    rwa [same_refl] at this
  have s1 := sm s (by omega)
  have z0 : ((0 : Int) != 0) = false := by simp
  have z1 : ((-4 : Int) != 0) = true := by simp
  have z2 : ((-3 : Int) != -3) = false := by simp
  have z3 : ((-4 : Int) == -4) = true := by simp
  have z4 : ((0 : Int) == 0) = true := by simp
  have z5 : ((-3 : Int) == -3) = true := by simp
  have z6 : (n != n) = false := by simp
  rcases wordR_all hmem s (by omega) with hu | ⟨p, l, h2, h3⟩
  · have a1 := hu 1000
    have a2 := hu (((s.map encI).length : Nat) : Int)
    have a3 := hu ((((s.map encI).length : Nat) : Int) - 1)
    unfold ShufC at a1 a2 a3
    refine FnC.of_awp (T := tt) (ok := tok) Try.func7 (by kernel_rfl) rfl (by kernel_rfl) (closedL_cons (closed_s s) (closedL_cons (.val _) (closedL_cons (.val _) closedL_nil))) (fun w0 st0 => ?_)
    dsimp only [frOf]
    (repeat' (first | refine awp_seq ?_ | refine awp_block ?_ | refine awp_region (fun _ => hmix) ?_ | refine ARun.op rfl (by first | exact True.intro | exact rfl | (unfold inR; omega) | omega | (unfold inR; simp only [List.length_map, List.length_append, List.length_take, List.length_drop, List.length_cons, List.length_nil] at *; omega)) ?_ | refine callX (c0) rfl rfl rfl rfl ?_ | refine callX (c1) rfl rfl rfl rfl ?_ | refine ARun.indexAddr rfl rfl hi0 hix rfl rfl rfl rfl rfl (guardF_spec rfl) ?_ | refine callX (a1) rfl rfl rfl rfl ?_ | refine callX (a2) rfl rfl rfl rfl ?_ | refine callX (a3) rfl rfl rfl rfl ?_ | refine callX (p1) rfl rfl rfl rfl ?_ | refine callX (p2) rfl rfl rfl rfl ?_ | refine callX (p3) rfl rfl rfl rfl ?_ | refine callX (s1) rfl rfl rfl rfl ?_ | (refine ARun.fin (by first | (intro h; cases h; done) | (intro _; kernel_rfl)) ?_; dsimp only [thenA, blockA, AS.bump, List.length_cons, List.length_nil, reduceIte, Nat.reduceEqDiff]) | (refine awp_skip ?_; dsimp only [thenA, blockA, AS.bump, List.length_cons, List.length_nil, reduceIte, Nat.reduceEqDiff]) | (refine awp_exit ?_; dsimp only [thenA, blockA, AS.bump, List.length_cons, List.length_nil, reduceIte, Nat.reduceEqDiff]) | refine awp_condT rfl (by first | rfl | assumption) ?_ | refine awp_condF rfl (by first | rfl | assumption) ?_ | ((fail_if_success refine ARun.plain rfl ?_); first | refine ARun.knowT rfl rfl rfl (by first | rfl | assumption) ?_ | refine ARun.knowF rfl rfl rfl (by first | rfl | assumption) ?_ | refine ARun.fork rfl rfl rfl (fun h => ?_) (fun h => ?_)) | refine awp_cond rfl (fun h => ?_) (fun h => ?_)))
    refine awp_ret ⟨_, ResL.cons (ResA.tmp (.val _)) .nil, congrArg (fun b => AV.val (.bool b)) z3.symm⟩
  · have a1 := h3 1000
    have a2 := h3 ((((p ++ l).map encI).length : Nat) : Int)
    have a3 := h3 (((((p ++ l).map encI).length : Nat) : Int) - 1)
    rw [outD_in s p l 1000 (by omega)] at a1
    rw [outD_in s p l ((((p ++ l).map encI).length : Nat) : Int) (by rw [List.length_map, List.length_append]; omega)] at a2
    rw [outD_over (s := s) (p := p) (l := l) (limit := ((((p ++ l).map encI).length : Nat) : Int) - 1) (by rw [List.length_map, List.length_append]; omega)] at a3
    unfold ShufC at a1 a2 a3
    have s2 := sm (p ++ l) (by simp; omega)
    have h4 : p.length + l.length ≤ 100 := by omega
    refine FnC.of_awp (T := tt) (ok := tok) Try.func7 (by kernel_rfl) rfl (by kernel_rfl) (closedL_cons (closed_s s) (closedL_cons (.val _) (closedL_cons (.val _) closedL_nil))) (fun w0 st0 => ?_)
    dsimp only [frOf]
    (repeat' (first | refine awp_seq ?_ | refine awp_block ?_ | refine awp_region (fun _ => hmix) ?_ | refine ARun.op rfl (by first | exact True.intro | exact rfl | (unfold inR; omega) | omega | (unfold inR; simp only [List.length_map, List.length_append, List.length_take, List.length_drop, List.length_cons, List.length_nil] at *; omega)) ?_ | refine callX (c0) rfl rfl rfl rfl ?_ | refine callX (c1) rfl rfl rfl rfl ?_ | refine ARun.indexAddr rfl rfl hi0 hix rfl rfl rfl rfl rfl (guardF_spec rfl) ?_ | refine callX (a1) rfl rfl rfl rfl ?_ | refine callX (a2) rfl rfl rfl rfl ?_ | refine callX (a3) rfl rfl rfl rfl ?_ | refine callX (p1) rfl rfl rfl rfl ?_ | refine callX (p2) rfl rfl rfl rfl ?_ | refine callX (p3) rfl rfl rfl rfl ?_ | refine callX (s1) rfl rfl rfl rfl ?_ | refine callX (s2) rfl rfl rfl rfl ?_ | (refine ARun.fin (by first | (intro h; cases h; done) | (intro _; kernel_rfl)) ?_; dsimp only [thenA, blockA, AS.bump, List.length_cons, List.length_nil, reduceIte, Nat.reduceEqDiff]) | (refine awp_skip ?_; dsimp only [thenA, blockA, AS.bump, List.length_cons, List.length_nil, reduceIte, Nat.reduceEqDiff]) | (refine awp_exit ?_; dsimp only [thenA, blockA, AS.bump, List.length_cons, List.length_nil, reduceIte, Nat.reduceEqDiff]) | refine awp_condT rfl (by first | rfl | assumption) ?_ | refine awp_condF rfl (by first | rfl | assumption) ?_ | ((fail_if_success refine ARun.plain rfl ?_); first | refine ARun.knowT rfl rfl rfl (by first | rfl | assumption) ?_ | refine ARun.knowF rfl rfl rfl (by first | rfl | assumption) ?_ | refine ARun.fork rfl rfl rfl (fun h => ?_) (fun h => ?_)) | refine awp_cond rfl (fun h => ?_) (fun h => ?_)))
    refine awp_ret ⟨_, ResL.cons (ResA.tmp (.val _)) .nil, rfl⟩
end Go.Proofs.Ytpolenndeeaodac
